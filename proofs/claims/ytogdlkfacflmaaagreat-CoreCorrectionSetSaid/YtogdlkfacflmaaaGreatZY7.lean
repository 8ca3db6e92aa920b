/- Parts of the walk of the solver and its core; no condition. -/
import Derived.Test.YtogdlkfacflmaaaGreatZY6
import Derived.Test.YtogdlkfacflmaaaGreatZY5
import Derived.Test.YtogdlkfacflmaaaGreatZY3
import Derived.Deep.LoopGhost
import Derived.Test.YtogdlkfacflmaaaGreatZY1
import Derived.Maps.RangeWalk
namespace Go.Proofs.YtogdlkfacflmaaaGreat
set_option linter.unusedVariables false
set_option linter.unusedSimpArgs false
set_option maxRecDepth 1000000
set_option maxHeartbeats 8000000
open _root_.And renaming intro→z_
open _root_.Go.Proofs.Tryz renaming prog→y_,underlying3→s_,underlying4→k_
open _root_.Go.IntKind renaming wrap_i64→x_,i64→w_
open _root_.List renaming take_succ_cons→v_,drop_succ_cons→u_,take_zero→o_,drop_zero→n_,length_append→m_,length_singleton→h_
open _root_.Go.CallsIn renaming inRound→t_
open _root_.Go renaming callsIn_wide→r_,wp_region_still_tail→q_,wpStill_nil→i_
open _root_.Int renaming mul_le_mul_of_nonneg_left→p_
open _root_.Go.Fence renaming wide→l_
open _root_.Go.World renaming putObj_heap_other→j_,cell?_of_block→g_
open _root_.Go.RowKit.Below renaming refl→f_
open _root_.Go.KeepsOthers renaming refl→e_
variable{n base G aH bP bS dh bD h i d b:Nat}{B x kV lit:Int}{aI s:au}{aQ:List Bool}{K:Nat->Prop}{w W A:World}{hs ls:Nat->ay}{cb:Nat->Nat}{mk aN:List Int}{ij:ay}{iX:List Value}{X:Nat->List Value}{fK bk jF lK gY gu iF gL gW u16 gv gw gx gI gy gz gA gB gC gD gE gF fS fT fU u32 fV fW fZ ga gb gd gh gi gj gl gm gG gH iz iq ir bT bU bV bW bX bY bZ b5 b6 b7 b8 b9 cc cg ck u64 cm cn cp cr ct cu cv cw cz cA cB cC cD cE cF cG cH cI cK cL cM di dm dn dr dw dx dy dz cN cO cQ cR cS cT cU cV cW cZ c4 c5 c6 c7 c8 c9 dc dA dB dD dF dG dH dI dJ dK dL dM dN dO dP dQ dR dS dU dV dW dX dY dZ ec ee ef ei ej ek en fL fM fN eo ep er eu ew ey ez eA eB eC eD eE fO fP fQ eF eG eH eL eM eN eO eP eR eS eT eU eV eW eX eY eZ e3 e4 e5 e6 e7 e8 e9 fc fe ff fh fk fm fo fq fu fA fB fC gn gp fD fE fF fG fH fI fJ gJ:Value}{Q:Exit->Act->World->Prop}{F Fd:List (List Int)}{ds:List Nat}{a:Act}
section
open Go.RowKit Go.Shelf
attribute [local go_sem] Oper.semAt_some
def qv:Code->Nat->Option Code
 | .block k c,n=>if k=n then some c else qv c n
 | .seq a b,n=>match qv a n with
  |some c=>some c
  |none=>qv b n
 | .loop c,n=>qv c n
 | .scope c,n=>qv c n
 | .cond _ a b,n=>match qv a n with
  |some c=>some c
  |none=>qv b n
 | .rangeFunc _ _ _ b,n=>qv b n
 |_,_=>none
noncomputable def Lu:Code:=(Tryz.f146.body.bind λ c=>qv c 3).getD .skip
structure r5(n:Nat)(B:Int)(aI:au)(aQ:List Bool)(s:au):Prop where
 hk:od aI {s with aQ:=aI.aQ}
 aQ:s.aQ=aQ
 rg:mE n jK B s
theorem r5.mark(h:r5 n B aI aQ s)(v:Nat)(b:Bool):r5 n B aI (aQ.set v b) (s.s6 v b):=
 ⟨h.hk,by show s.aQ.set v b=_;rw[h.aQ],⟨h.rg.jH,h.rg.lW,h.rg.lB,h.rg.qp,h.rg.a0,h.rg.rm,h.rg.oQ,h.rg.nM,h.rg.o8,h.rg.nN,h.rg.qc,h.rg.k8⟩⟩
theorem r5.GM{qU:Int}{s':au}(h:r5 n B aI aQ s)(k:od s s')(r:mE n jK qU s'):r5 n qU aI aQ s':=
 ⟨⟨k.c.trans h.hk.c,k.ia.trans h.hk.ia,k.aO.trans h.hk.aO,k.aF.trans h.hk.aF,rfl,k.nl.trans h.hk.nl,k.jG.trans h.hk.jG,k.ol.trans h.hk.ol,h.hk.same.trans k.same,k.nN.trans h.hk.nN,λ d=>⟨(k.ci d).1.trans (h.hk.ci d).1,(k.ci d).2.trans (h.hk.ci d).2⟩⟩,k.aQ.trans h.aQ,r⟩
theorem r5.c{n:Nat}{B:Int}{aI s:au}{aQ:List Bool}(h:r5 n B aI aQ s):s.c=aI.c:=h.hk.c
inductive wq(aY:Core)(x:Int)(aQ:List Bool)(out mk:List Int)(op:Int):List Bool->List Int->List Int->Int->Prop
 |skip (h:iY aQ (aD x)=true\/bp aY x=0):wq aY x aQ out mk op aQ out mk op
 |nc (h:iY aQ (aD x)=false) (an:bp aY x≠0) (h1:bp aY x=aY.st.length):wq aY x aQ out mk op (aQ.set (aD x) true) out (mk++[(aD x:Int)]) (op+1)
 |put (h:iY aQ (aD x)=false) (an:bp aY x≠0) (h1:bp aY x≠aY.st.length):wq aY x aQ out mk op (aQ.set (aD x) true) (out++[x]) (mk++[(aD x:Int)]) op
theorem Lv{out:List Int}{op:Int}{l:Nat}
  (L:kY K base w W G hs cb s aH bP bS dh bD out mk op ij iX ls X) (f:r5 n B aI aQ s) (bg:n<=10) (aW:aI.c.st.length<=1000000) (aX:aI.aO.length<=100000) (ae:aQ.length=n+1) (af:aI.c.lvl.length=n+1) (ag:0<=B) (ah:B<=4611686018427387904) (F:gP n x) (hm:mk.length<=1000) (ai:out.length<=1000) (aj:0<=op/\op<=1000)
  (ak:∀a W,Q .outgrown a W->False)
  (al:∀(a:Act)(W':World)(s':au)(H:Nat->ay)(I:Nat->List Value)(an:List Bool)(ao mk':List Int)(aq:Int),wq aI.c x aQ out mk op an ao mk' aq->r5 n B aI an s'->kY K base w W' G hs cb s' aH bP bS dh bD ao mk' aq ij iX H I->KeepsOthers W W'->Q .normal a W'):
  Code.wpIn (l_.inRound l) 4 y_ Lu (Exit.inBlock 3 Q) {tmps:= #[.pointer (some ⟨G,0,none⟩),fK,.pointer (some ⟨aH,0,none⟩),bk,.pointer (some ⟨bP,0,none⟩),jF,.pointer (some ⟨bS,0,none⟩),.pointer (some ⟨bD,0,none⟩),.pointer (some ⟨dh,0,none⟩),lK,gY,.int .i64 x,gu,iF,gL,gW,u16,gv,gw,gx,gI,gy,gz,gA,gB,gC,gD,gE,gF,fS,fT,fU,u32,fV,fW,fZ,ga,gb,gd,gh,gi,gj,gl,gm,gG,gH,iz,iq,ir,bT,bU,bV,bW,bX,bY,bZ,b5,b6,b7,b8,b9,cc,cg,ck,u64,cm,cn,cp,cr,ct,cu,cv,cw,cz,cA,cB,cC,cD,cE,cF,cG,cH,cI,cK,cL,cM,di,dm,dn,dr,dw,dx,dy,dz,cN,cO,cQ,cR,cS,cT,cU,cV,cW,cZ,c4,c5,c6,c7,c8,c9,dc,dA,dB,dD,dF,dG,dH,dI,dJ,dK,dL,dM,dN,dO,dP,dQ,dR,dS,dU,dV,dW,dX,dY,dZ,ec,ee,ef,ei,ej,ek,en,fL,fM,fN,eo,ep,er,eu,ew,ey,ez,eA,eB,eC,eD,eE,fO,fP,fQ,eF,eG,eH,eL,eM,eN,eO,eP,eR,eS,eT,eU,eV,eW,eX,eY,eZ,e3,e4,e5,e6,e7,e8,e9,fc,fe,ff,fh,fk,fm,fo,fq,fu,fA,fB,fC,gn,gp,fD,fE,fF,fG,fH,fI,fJ],defers:=[]} W:=by
 have C:=U L;have oy:=U f;have D:=U al;obtain⟨v,i⟩:∃v,aD x=v:=⟨_,rfl⟩
 have ar:1<=v/\v<=n:=by rw[<-i];exact F
 have J:bF (∀w:World,Calls y_ 97 #[.int .i64 x] w λ e w'=>e=.returned (.int .i64 (v:Int))/\w=w'):=U (λ w=>by have:=s7 x w (by unfold aD at i;omega) (by unfold aD at i;omega);rw[i] at this;exact this);obtain⟨g12,av,aY,f12⟩:=L.gr.gK.e.l7 16 12 rfl L.gr.gK.e.n12 (by rw[f.aQ];omega);have aw:=L.gr.gK.e.Ad av (k:=v) (by rw[f.aQ];omega);obtain⟨g2,t,M,f2⟩:=L.gr.gK.e.l7 3 2 rfl L.gr.gK.e.kJ (by rw[f.c];omega);have c2:=L.gr.gK.e.vZ t (k:=v) (by rw[f.c];omega);have bh:(v:Int)<(s.aQ.length:Int):=by rw[f.aQ];omega
 have aZ:(v:Int)<(s.c.lvl.length:Int):=by rw[f.c];omega
 have aS:=L.aS;obtain⟨g,N⟩:∃l,hU s.c.lvl v=l:=⟨_,rfl⟩
 obtain⟨ax,O⟩:∃b,iY s.aQ v=b:=⟨_,rfl⟩
 rw[N] at c2;rw[O] at aw;have az:bp aI.c x=g:=by show hU aI.c.lvl (aD x)=g;rw[i,<-f.c];exact N
 have aA:iY aQ (aD x)=ax:=by rw[i,<-f.aQ];exact O
 have d:=U (z_ i (z_ ar (z_ az (z_ aA (z_ ae (z_ af (z_ ag (z_ ah (z_ F (z_ hm (z_ ai (z_ aj (z_ aW aX)))))))))))));clear L f al i ar N O az aA ae af ag ah F hm ai aj av t f12 f2
 conv=>arg 4;whnf
 cases ax with
 |true=>
  gi_wp2_with (refine⟨trivial,?_⟩;gi_at_call 97;refine(t_ l (r_.2 (J.o _))).mono ?_;rintro e w1 ⟨rfl,rfl⟩)
  exact D.o _ _ s ls X aQ out mk op (wq.skip (.inl d.o.2.2.2.1)) oy.o C.o (e_ _)
 |false=>
  by_cases u:g=0
  ·have d1:((g:Int)==0)=true:=by simp[u]
   have P:=U u;subst u
   gi_wp2_with (refine⟨trivial,?_⟩;gi_at_call 97;refine(t_ l (r_.2 (J.o _))).mono ?_;rintro e w1 ⟨rfl,rfl⟩)
   exact D.o _ _ s ls X aQ out mk op (wq.skip (.inr d.o.2.2.1)) oy.o C.o (e_ _)
  ·have d1:((g:Int)==0)=false:=by simp;omega
   have P:=U u;have gT:=C.o.gT;have aB:=Lp C.o v (by rw[oy.o.aQ,d.o.2.2.2.2.1];have:=d.o.2.1;omega) (by have:=d.o;omega)
   gi_wp2_with (refine⟨trivial,?_⟩;gi_at_call 97;refine(t_ l (r_.2 (J.o _))).mono ?_;rintro e w1 ⟨rfl,rfl⟩)
   clear u;refine⟨trivial,?_⟩
   gi_at_call 182
   refine(t_ l (r_.2 aB)).mono ?_;clear aB;rintro e w1 ⟨rfl,aC,bj,R,aE⟩;dsimp only;have S:=U R;have a6:=U aE;have aS:=R.aS;clear R aE aw c2 aY M gT;have aF:=U (oy.o.mark v true);have aG:=KX S.o.gr.call aF.o.rg (by omega) (by rw[show(s.s6 v true).aO=s.aO from rfl,show s.aO=aI.aO from oy.o.hk.aO];exact d.o.2.2.2.2.2.2.2.2.2.2.2.2.2) d.o.2.2.2.2.2.2.1 d.o.2.2.2.2.2.2.2.1 v d.o.2.1
   gi_wp2
   refine⟨trivial,?_⟩
   gi_at_call 184
   refine(t_ l (r_.2 aG)).mono ?_;clear aG;rintro e E ⟨rfl,s2,aJ,aK,aL,f2⟩;dsimp only;have T:=S.o.gr.back aL f2;have j:=U (S.o.tR T.1);have a7:=U (a6.o.trans T.2);have m:=U (aF.o.GM aJ aK);clear aJ aK aL f2 T aS;have aS:=j.o.aS;obtain⟨g2,t,M,f2⟩:=j.o.gr.gK.e.l7 3 2 rfl j.o.gr.gK.e.kJ (by rw[m.o.c];have:=d.o;omega);have c2:=j.o.gr.gK.e.vZ t (k:=v) (by rw[m.o.c];have:=d.o;omega);have aZ:(v:Int)<(s2.c.lvl.length:Int):=by rw[m.o.c];have:=d.o;omega
   rw[show hU s2.c.lvl v=g by rw[m.o.c,<-d.o.1];exact d.o.2.2.1] at c2;obtain⟨a8,kj,a',V⟩:∃A n c,hs 5=⟨A,n,c⟩:=⟨_,_,_,rfl⟩
   obtain⟨y,Y⟩:∃n,aI.c.st.length=n:=⟨_,rfl⟩
   have aM:kj=y:=by have:=j.o.gr.gK.e.kj;rw[V,m.o.c] at this;exact this.trans Y
   have ba:E.cell? ⟨G,6,none⟩=some (.slice a8 y a'):=by have:=j.o.gr.gK.e.kP (k:=6) (v:=(hs 5).v) rfl;rw[V,aM] at this;exact this
   have aN:=U Y;clear Y V aM t f2
   gi_wp2
   refine C3 12 (by kernel_rfl) (by kernel_rfl) (by rintro⟨_,_,h⟩;exact ak _ _ h) (by kernel_rfl) ?_;simp only[v_,o_,u_,n_]
   iterate 12 still_step
   refine i_ ?_;change wpList _ _ _ _ _ E.drew;have p:=U j.o.drew;have aR:=U (a7.o.trans (KeepsOthers.drew E));clear aS M c2 ba;generalize E.drew=q at*
   by_cases h1:g=y
   ·have d2:((g:Int)==(y:Int))=true:=by simp[h1]
    have H1:=U h1;clear h1;have xo:=p.o.xo.1;have bl:=p.o.xo.2;have bn:w_.wrap (op+1)=op+1:=by rw[x_];have:=d.o;omega
    go_wp2_with fail
    gi_wp2
    obtain⟨bb,r,bc⟩:=p.o.DK (op+1);exact D.o _ _ s2 aC bb (aQ.set v true) out (mk++[(v:Int)]) (op+1) (by rw[<-d.o.1];exact wq.nc d.o.2.2.2.1 (by rw[d.o.2.2.1];exact P.o) (by rw[d.o.2.2.1,aN.o];exact H1.o)) m.o r (aR.o.trans bc)
   ·have d2:((g:Int)==(y:Int))=false:=by simp;omega
    have H1:=U h1;clear h1;obtain⟨Z,n6,aa,z⟩:∃A n c,aC 5=⟨A,n,c⟩:=⟨_,_,_,rfl⟩
    have aT:n6=out.length:=by have:=p.o.kj;rw[z] at this;exact this
    have co:q.cell? ⟨bP,0,none⟩=some (.slice Z n6 aa):=by have:=p.o.co.1;rw[z] at this;exact this
    have bo:=p.o.co.2;have r:=U (p.o.grow (bC q (lH [x])));have bd:bF ((q.alloc (lH [x])).ownsRow w.heap.size 3 1 (.slice Z n6 aa) n6 (out.map (Value.int .i64))):=U (by have:=r.o.gr.rows.row 5;rw[z,r.o.l8] at this;exact this);have bf:=U (aP.lit q [x] 1 q.heap.size rfl rfl (by omega));have aU:=U (z_ z aT);clear z aT
    go_wp2_with fail
    gi_step
    refine J1 (by kernel_rfl) (by rintro⟨_,_,h⟩;exact ak _ _ h) ?_
    go_wp2_with (at_builtin;refine rB rfl (.tmp 88) (.tmp 90) rfl w.heap.size (.slice Z n6 aa) n6 out rfl bd.o (some ⟨q.heap.size,0,none⟩) 1 1 [x] rfl bf.o (by have:=aU.o.2;have:=d.o;omega) r.o.gr.jB.size ?_;intro v9 bE aV;obtain⟨A',c',H,I,rfl,a1,a2,ab,ad⟩:=r.o.Lk (x:=x) (v':=v9) (by rw[aU.o.1];exact aV);have ab:=U ab;have ad:=U ad;clear aV)
    gi_wp2
    exact D.o _ _ s2 H I (aQ.set v true) (out++[x]) (mk++[(v:Int)]) op (by rw[<-d.o.1];exact wq.put d.o.2.2.2.1 (by rw[d.o.2.2.1];exact P.o) (by rw[d.o.2.2.1,aN.o];exact H1.o)) m.o ab.o (aR.o.trans ((KeepsOthers.below (bC q _)).trans ad.o))
end
section
open Go.RowKit Go.Shelf
structure vB(F Fd:List (List Int))(aI:au)(n h:Nat)(kV:Int):Prop where
 gV:kG F Fd aI.c h []
 jH:aI.c.n=n
 n10:n<=10
 st1:0<aI.c.st.length
 st2:aI.c.st.length<=1000000
 k8:aI.aO.length<=100000
 de:0<=kV
 aZ:kV+16*jK<=4611686018427387904
structure nh(K:Nat->Prop)(base:Nat)(w W:World)(G:Nat)(hs:Nat->ay)(cb:Nat->Nat)(n:Nat)(B:Int)(F:List (List Int))(aI:au)(aH bP bS dh bD:Nat)(ij:ay)(iX:List Value)(i:Nat)(ex:List Int)(ds:List Nat)(s:au)(aQ:List Bool)(aN mk:List Int)(ls:Nat->ay)(X:Nat->List Value):Prop where
 aO:kY K base w W G hs cb s aH bP bS dh bD (0::aN) mk (nc aI.c aQ i:Int) ij iX ls X
 k6:r5 n B aI aQ s
 li:oo F aI.c i aQ aN ex
 sB:mk.Nodup
 qL:∀z:Int,z∈mk↔∃v:Nat,z=v/\iY aQ v=true
 sC:aN.length<=mk.length
 ms:o9 w.heap.size W ds
section
variable {K:Nat->Prop}{base:Nat}{w W W':World}{G:Nat}{hs:Nat->ay}{cb:Nat->Nat}{n h:Nat}{B kV:Int}{F Fd:List (List Int)}{aI s s':au}{aH bP bS dh bD:Nat}{ij:ay}{iX:List Value}{i:Nat}{ex:List Int}{ds:List Nat}{aQ sA:List Bool}{aN mk:List Int}{ls mU:Nat->ay}{X lV:Nat->List Value}
theorem GN{l:List Bool}{v:Nat}(h:iY l v=true):v<l.length:=by
 rcases Nat.lt_or_ge v l.length with h1|h1
 ·exact h1
 ·unfold iY at h;rw[List.getD_eq_getElem?_getD,List.getElem?_eq_none h1] at h;cases h
theorem DN{aQ:List Bool}{mk:List Int}(c:mk.Nodup)(hm:∀z:Int,z∈mk↔∃v:Nat,z=v/\iY aQ v=true):mk.length<=aQ.length:=by
 have h1:(mk.map Int.toNat).Nodup:=by
  show List.Pairwise _ _;rw[List.pairwise_map];refine List.Pairwise.imp_of_mem (λ{x y} b d f e=>?_) c;obtain⟨v,rfl,_⟩:=(hm x).1 b;obtain⟨u,rfl,_⟩:=(hm y).1 d;simp at e;exact f (by rw[e])
 have:=xY aQ.length (mk.map Int.toNat) h1 (λ x b=>by
  obtain⟨z,g,rfl⟩:=List.mem_map.1 b;obtain⟨v,rfl,i⟩:=(hm z).1 g;simpa using GN i)
 simpa using this
theorem nh.nA(H:nh K base w W G hs cb n B F aI aH bP bS dh bD ij iX i ex ds s aQ aN mk ls X)(C:vB F Fd aI n h kV):mk.length<=11/\aQ.length=n+1:=by
 have h1:=DN H.sB H.qL;have b:=H.li.tK;rw[C.jH] at b;have:=C.n10;omega
theorem Ar(c:Core)(aQ:List Bool)(i:Nat):nc c aQ i<=i:=by
 have:=List.countP_le_length (p:=o4 c aQ) (l:=List.range i);rw[List.length_range] at this;exact this
theorem nh.step(C:vB F Fd aI n h kV){x:Int}(H:nh K base w W G hs cb n B F aI aH bP bS dh bD ij iX i (x::ex) ds s aQ aN mk ls X){zc mk':List Int}{ze:Int}(t:wq aI.c x aQ (0::aN) mk (nc aI.c aQ i) sA zc mk' ze)(j:r5 n B aI sA s')
  (L:kY K base w W' G hs cb s' aH bP bS dh bD zc mk' ze ij iX mU lV) (k:KeepsOthers W W'):∃u,nh K base w W' G hs cb n B F aI aH bP bS dh bD ij iX i ex ds s' sA u mk' mU lV:=by
 have T:=C.gV.aN;have m:gP aI.c.n x:=H.li.wY x (by simp);have o:aQ.length=aI.c.n+1:=H.li.tK;have l:∀(d:iY aQ (aD x)=false),(mk++[(aD x:Int)]).Nodup/\∀z:Int,z∈mk++[(aD x:Int)]↔∃v:Nat,z=v/\iY (aQ.set (aD x) true) v=true:=λ d=>by
  refine⟨?_,λ z=>?_⟩
  ·rw[List.nodup_append];refine⟨H.sB,by simp,λ a y b r e=>?_⟩;rw[List.mem_singleton] at r;subst r;subst e;obtain⟨v,f,p⟩:=(H.qL _).1 y;rw[show v=aD x by omega] at p;rw[d] at p;cases p
  ·rw[List.mem_append,List.mem_singleton,H.qL];constructor
   ·rintro(⟨v,rfl,f⟩|rfl)
    ·exact⟨v,rfl,by rw[Bs o m];split;rfl;exact f⟩
    ·exact⟨aD x,rfl,by rw[Bs o m,if_pos rfl]⟩
   ·rintro⟨v,rfl,f⟩;rw[Bs o m] at f;split at f
    ·rename_i e;exact .inr (by rw[e])
    ·exact .inl ⟨v,rfl,f⟩
 cases t with
 |skip g=>
  rcases g with g|g
  ·exact⟨aN,L,j,H.li.seen T g,H.sB,H.qL,H.sC,H.ms.others k⟩
  ·exact⟨aN,L,j,H.li.drop T C.gV.jS C.st1 g,H.sB,H.qL,H.sC,H.ms.others k⟩
 |nc d q h1=>
  obtain⟨a1,a2⟩:=(H.li.mark T d q).1 h1;refine⟨aN,?_,j,a1,(l d).1,(l d).2,by rw[m_];have:=H.sC;omega,H.ms.others k⟩;rw[a2];exact L
 |put d q h1=>
  obtain⟨a1,a2⟩:=(H.li.mark T d q).2 h1;refine⟨aN++[x],?_,j,a1,(l d).1,(l d).2,by rw[m_,m_,h_,h_];have:=H.sC;omega,H.ms.others k⟩;rw[a2];exact L
theorem nh.tR(H:nh K base w W G hs cb n B F aI aH bP bS dh bD ij iX i ex ds s aQ aN mk ls X){zf:ay}{zg:List Value}(L:kY K base w W' G hs cb s aH bP bS dh bD (0::aN) mk (nc aI.c aQ i:Int) zf zg mU lV)(k:KeepsOthers W W'):nh K base w W' G hs cb n B F aI aH bP bS dh bD zf zg i ex ds s aQ aN mk mU lV:=
 ⟨L,H.k6,H.li,H.sB,H.qL,H.sC,H.ms.others k⟩
theorem nh.grow(H:nh K base w W G hs cb n B F aI aH bP bS dh bD ij iX i ex ds s aQ aN mk ls X)(b:Below W.heap.size W W'):nh K base w W' G hs cb n B F aI aH bP bS dh bD ij iX i ex ds s aQ aN mk ls X:=H.tR (H.aO.grow b) (KeepsOthers.below b)
theorem nh.u0(H:nh K base w W G hs cb n B F aI aH bP bS dh bD ij iX i ex ds s aQ aN mk ls X){N:Nat}{row:Option Nat}(c:W.grownBy W' row)(b:∀r,row=some r->N<=r/\∃o:Obj,W.heap[r]? =some o/\o.isCells=false)(d:w.heap.size<=N)(f:∀D∈ds,D<N):nh K base w W' G hs cb n B F aI aH bP bS dh bD ij iX i ex ds s aQ aN mk ls X:=
 ⟨H.aO.tR (H.aO.gr.u0 c (λ r e=>⟨Nat.le_trans d (b r e).1,(b r e).2⟩)),H.k6,H.li,H.sB,H.qL,H.sC,H.ms.kept c (λ D g e=>by have:=(b D e.symm).1;have:=f D g;omega)⟩
theorem r5.mono(b:r5 n B aI aQ s){qU:Int}(c:B<=qU):r5 n qU aI aQ s:=⟨b.hk,b.aQ,b.rg.mono (Int.le_refl _) c⟩
theorem nh.up(H:nh K base w W G hs cb n B F aI aH bP bS dh bD ij iX i ex ds s aQ aN mk ls X){qU:Int}(b:B<=qU):nh K base w W G hs cb n qU F aI aH bP bS dh bD ij iX i ex ds s aQ aN mk ls X:=⟨H.aO,H.k6.mono b,H.li,H.sB,H.qL,H.sC,H.ms⟩
theorem nh.mark(H:nh K base w W G hs cb n B F aI aH bP bS dh bD ij iX i ex ds s aQ aN mk ls X){D:Nat}(b:w.heap.size<=D)(hm:W.heap[D]? =some (.deferred (some [])))(c:∀E∈ds,E<D):nh K base w W G hs cb n B F aI aH bP bS dh bD ij iX i ex (D::ds) s aQ aN mk ls X:=
 ⟨H.aO,H.k6,H.li,H.sB,H.qL,H.sC,H.ms.cons b hm (λ e=>by have:=c D e;omega)⟩
end
end
section
open Go.RowKit Go.Shelf
attribute [local go_sem] Oper.semAt_some
noncomputable def Lw:Code:=(Tryz.f146.body.bind λ c=>qv c 2).getD .skip
def BX(K:Nat->Prop)(base:Nat)(w:World)(G:Nat)(hs:Nat->ay)(cb:Nat->Nat)(n:Nat)(B:Int)(F:List (List Int))(aI:au)(aH b c d bD:Nat)(e:ay)(f:List Value)(i:Nat)(ex:List Int)(ds:List Nat)(pre:List Int)(V:World):Prop:=
 ∃(s:au)(g:List Bool)(j mk:List Int)(ls:Nat->ay)(X:Nat->List Value),nh K base w V G hs cb n B F aI aH b c d bD e f i (ex.drop pre.length) ds s g j mk ls X
theorem Lx{pre ex:List Int}(h:(pre++[x])<+:ex):ex.drop pre.length=x::ex.drop (pre++[x]).length:=by
 obtain⟨r,rfl⟩:=h;rw[List.append_assoc,List.drop_left,<-List.append_assoc,List.drop_left];rfl
theorem Ly{iZ jO:Nat}
  (C:vB F Fd aI n h kV) (Z:0<=B) (aa:B<=4611686018427387904) (H:nh K base w W G hs cb n B F aI aH bP bS dh bD (oq jO) [.int .i64 lit] i (others (az aI.c.cl d) lit) ds s aQ aN mk ls X) (ag:d<aI.c.cl.length) (hm:1<=(az aI.c.cl d).length) (c1:W.cell? ⟨iZ,0,none⟩=some (.pointer (some ⟨cb d,0,none⟩))) (aw:iZ<W.heap.size)
  (ab:∀(D:Nat)(W':World)(s':au)(M:List Bool)(N mk':List Int)(O:Nat->ay)(P:Nat->List Value),nh K base w W' G hs cb n B F aI aH bP bS dh bD (oq jO) [.int .i64 lit] i [] (D::ds) s' M N mk' O P->Q .normal {tmps:= #[.pointer (some ⟨G,0,none⟩),fK,.pointer (some ⟨aH,0,none⟩),bk,.pointer (some ⟨bP,0,none⟩),jF,.pointer (some ⟨bS,0,none⟩),.pointer (some ⟨bD,0,none⟩),.pointer (some ⟨dh,0,none⟩),lK,gY,gJ,gu,iF,gL,gW,u16,gv,gw,gx,gI,gy,gz,gA,gB,gC,gD,gE,gF,fS,fT,fU,u32,fV,fW,fZ,ga,gb,gd,gh,gi,gj,gl,gm,gG,gH,.func (.func 224) #[] #[.pointer (some ⟨iZ,0,none⟩),.pointer (some ⟨jO,0,none⟩)],iq,ir,bT,bU,bV,bW,bX,bY,bZ,b5,b6,b7,b8,b9,cc,cg,ck,u64,cm,cn,cp,cr,ct,cu,cv,cw,cz,cA,cB,cC,cD,cE,cF,cG,cH,cI,cK,cL,cM,di,dm,dn,dr,dw,dx,dy,dz,cN,cO,cQ,cR,cS,cT,cU,cV,cW,cZ,c4,c5,c6,c7,c8,c9,dc,dA,dB,dD,dF,dG,dH,dI,dJ,dK,dL,dM,dN,dO,dP,dQ,dR,dS,dU,dV,dW,dX,dY,dZ,ec,ee,ef,ei,ej,ek,en,fL,fM,fN,eo,ep,er,eu,ew,ey,ez,eA,eB,eC,eD,eE,fO,fP,fQ,eF,eG,eH,eL,eM,eN,eO,eP,eR,eS,eT,eU,eV,eW,eX,eY,eZ,e3,e4,e5,e6,e7,e8,e9,fc,fe,ff,fh,fk,fm,fo,fq,fu,fA,fB,fC,gn,gp,fD,fE,fF,fG,fH,fI,fJ],defers:=oL D::ds.map oL} W'):
  Code.wp y_ Lw Q {tmps:= #[.pointer (some ⟨G,0,none⟩),fK,.pointer (some ⟨aH,0,none⟩),bk,.pointer (some ⟨bP,0,none⟩),jF,.pointer (some ⟨bS,0,none⟩),.pointer (some ⟨bD,0,none⟩),.pointer (some ⟨dh,0,none⟩),lK,gY,gJ,gu,iF,gL,gW,u16,gv,gw,gx,gI,gy,gz,gA,gB,gC,gD,gE,gF,fS,fT,fU,u32,fV,fW,fZ,ga,gb,gd,gh,gi,gj,gl,gm,gG,gH,.func (.func 224) #[] #[.pointer (some ⟨iZ,0,none⟩),.pointer (some ⟨jO,0,none⟩)],iq,ir,bT,bU,bV,bW,bX,bY,bZ,b5,b6,b7,b8,b9,cc,cg,ck,u64,cm,cn,cp,cr,ct,cu,cv,cw,cz,cA,cB,cC,cD,cE,cF,cG,cH,cI,cK,cL,cM,di,dm,dn,dr,dw,dx,dy,dz,cN,cO,cQ,cR,cS,cT,cU,cV,cW,cZ,c4,c5,c6,c7,c8,c9,dc,dA,dB,dD,dF,dG,dH,dI,dJ,dK,dL,dM,dN,dO,dP,dQ,dR,dS,dU,dV,dW,dX,dY,dZ,ec,ee,ef,ei,ej,ek,en,fL,fM,fN,eo,ep,er,eu,ew,ey,ez,eA,eB,eC,eD,eE,fO,fP,fQ,eF,eG,eH,eL,eM,eN,eO,eP,eR,eS,eT,eU,eV,eW,eX,eY,eZ,e3,e4,e5,e6,e7,e8,e9,fc,fe,ff,fh,fk,fm,fo,fq,fu,fA,fB,fC,gn,gp,fD,fE,fF,fG,fH,fI,fJ],defers:=ds.map oL} W:=by
 have R:=U H;have u:s.c=aI.c:=H.k6.c;obtain⟨bL,m1,ax,f⟩:=H.aO.gr.gK.zb (d:=d) (by rw[u];exact ag) (by rw[u];exact hm);rw[u] at f;have aA:m1<=22:=by have:=(C.gV.jS.mM d ag).len;have:=C.jH;have:=C.n10;have:=f.len;omega
 have aB:=(H.aO.gr.gK.e.rows.lt f.b).2;have aC:=(H.aO.gr.gK.e.cls d (by rw[u];exact ag)).lt;have c2:W.cell? ⟨jO,0,none⟩=some (.int .i64 lit):=(H.aO.gr.kR (r:=11) (g:=jO) (by rw[H.aO.td];rfl) (by rw[H.aO.u9];rfl)).1;have aD:=(H.aO.gr.lt (r:=11) (g:=jO) (by rw[H.aO.td];rfl)).2;have j:=U C;have aZ:=U (z_ f (z_ aA (z_ ag hm)));have ad:=U (z_ Z aa);have aE:=U ab;have ae:OwnFrom W.heap.size (BX K base w G hs cb n B F aI aH bP bS dh bD (oq jO) [.int .i64 lit] i (others (az aI.c.cl d) lit) ds):=by
  rintro pre a6 iZ row ⟨s1,q,z,A,I,J,h1⟩ aF aG;exact⟨s1,q,z,A,I,J,h1.u0 aF aG R.o.aO.gr.jB.size (λ D T=>R.o.ms.lt T)⟩
 have af:=U ae;have aJ:bF (∀(V m:World)(pre ah:List Int),BX K base w G hs cb n B F aI aH bP bS dh bD (oq jO) [.int .i64 lit] i (others (az aI.c.cl d) lit) ds pre V->BX K base w G hs cb n B F aI aH bP bS dh bD (oq jO) [.int .i64 lit] i (others (az aI.c.cl d) lit) ds ah m->pG jO bL m1 V m):=U (by
  rintro V m pre ah ⟨s1,q,z,A,I,J,h1⟩ ⟨s2,a7,a8,a',ba,bb,p⟩;have aK:V.cell? ⟨jO,0,none⟩=some (.int .i64 lit):=(h1.aO.gr.kR (r:=11) (g:=jO) (by rw[h1.aO.td];rfl) (by rw[h1.aO.u9];rfl)).1;have aL:m.cell? ⟨jO,0,none⟩=some (.int .i64 lit):=(p.aO.gr.kR (r:=11) (g:=jO) (by rw[p.aO.td];rfl) (by rw[p.aO.u9];rfl)).1;refine⟨λ v t=>by rw[aK] at t;rw[aL,<-t],λ k v hk t=>?_⟩;have ai:=h1.aO.gr.gK.e.yf (d:=d) f.b (k:=k) (by rw[h1.k6.c,f.len];exact hk);have aj:=p.aO.gr.gK.e.yf (d:=d) f.b (k:=k) (by rw[p.k6.c,f.len];exact hk);rw[h1.k6.c] at ai;rw[p.k6.c] at aj;rw[ai] at t;rw[aj,<-t])
 have bc:=H.aO.gr.jB.size;clear H C u ag hm Z aa ab ae
 conv=>arg 2;whnf
 refine(wpIn_wide (n:=6)).1 ?_;refine C2 (F:=l_) (w0:=W) rfl (by omega) (gf:=224) (lb:= #[.pointer (some ⟨iZ,0,none⟩),.pointer (some ⟨jO,0,none⟩)]) rfl trivial Du
  (Dw (6-1) (by omega) iZ jO (cb d) bL m1 ax (az aI.c.cl d) lit f.len (by omega) W c1 c2 f.ag f.kR aw aD aC aB)
  (λ h k=>h.trans k) (λ V l o bd hl t ak _=>⟨λ v Y=>(g_ (w:=V) (j_ (by show jO≠l;omega))).trans Y,λ k v _ Y=>(g_ (w:=V) (j_ (by show bL≠l;omega))).trans Y⟩) (f_ _ _) (λ _=>rfl)
  (BX K base w G hs cb n B F aI aH bP bS dh bD (oq jO) [.int .i64 lit] i (others (az aI.c.cl d) lit) ds) (λ _ _ _=>False)
  af.o (λ _ _ _ _ _ h=>h.elim) ⟨s,aQ,aN,mk,ls,X,R.o⟩
  ?a1 ?w1 ?assign ?kw1 ?body ?done ?stop
 case assign=>
  intro l pre y m bf S al aM
  gi_wp2
  exact aM
 case kw1=>
  intro pre y m S;exact⟨KeepsFrom.refl _ _,pG.refl _ _ _ _⟩
 case body=>
  rintro l pre y an m S ⟨o,aP,ao,ak,aq,ar⟩ al bg;have av:=af.o _ _ _ _ S (show an.grownBy m (some (W.heap.size+1)) by rw[ao];exact grownBy_putObj' an (W.heap.size+1) o) (λ r e=>by cases e;exact⟨by omega,aP,aq,ar⟩);have aR:=U av;clear S ao ak aq ar;obtain⟨s1,q,z,A,I,J,h1⟩:=av;rw[Lx al] at h1;have aS:=h1.nA j.o;have aT:gP n y:=by have:=h1.li.wY y (by simp);rw[j.o.jH] at this;exact this
  have bh:=Ar aI.c q i;have bj:=h1.li.qR;have aU:=j.o.gV.aN.len;rw[j.o.jH] at aU;have bl:=j.o.n10;refine wpIn_block ?_;refine Lv (l:=l) (x:=y) h1.aO h1.k6 j.o.n10 j.o.st2 j.o.k8 aS.2 (by have:=j.o.gV.aN.pz;rw[j.o.jH] at this;exact this) ad.o.1 ad.o.2 aT (by omega) (by have:=h1.sC;simp;omega) (by omega) ?_ ?_
  ·intro a W' h;exact h
  intro a W' s' O P M bn mk' bo aV aW L k;obtain⟨N,p⟩:=h1.step j.o aV aW L k;exact⟨k.from _,aJ.o _ _ _ _ aR.o ⟨s',M,N,mk',O,P,p⟩,s',M,N,mk',O,P,p⟩
 case done=>
  rintro D ys m T rfl ⟨s1,q,z,A,I,J,h1⟩ aX;rw[List.drop_length] at h1;exact aE.o D m s1 q z A I J (h1.mark (by omega) aX (λ E aY=>by have:=R.o.ms.lt aY;omega))
 case stop=>
  rintro D bp pre m T bq h;exact h.elim
end
section
open Go.RowKit Go.Shelf
noncomputable def Lz:Code:=(Tryz.f146.body.bind λ c=>qv c 4).getD .skip
theorem LA
  (C:vB F Fd aI n h kV) (H:nh K base w W G hs cb n B F aI aH bP bS dh bD ij iX i [] ds s aQ aN mk ls X)
  (t:∀(j:Nat)(cN cO cQ cR cS cT cU cV cW cZ c4 c5 c6 c7 c8 c9 dc:Value)(W':World),nh K base w W' G hs cb n B F aI aH bP bS dh bD ij iX (j+1) [] ds s aQ aN mk ls X->j<i->iY aQ (aD (ak aI.c.ax j))=true->Q (.exit 4) {tmps:= #[.pointer (some ⟨G,0,none⟩),fK,.pointer (some ⟨aH,0,none⟩),bk,.pointer (some ⟨bP,0,none⟩),jF,.pointer (some ⟨bS,0,none⟩),.pointer (some ⟨bD,0,none⟩),.pointer (some ⟨dh,0,none⟩),lK,.int .i64 (j:Int),gJ,gu,iF,gL,gW,u16,gv,gw,gx,gI,gy,gz,gA,gB,gC,gD,gE,gF,fS,fT,fU,u32,fV,fW,fZ,ga,gb,gd,gh,gi,gj,gl,gm,gG,gH,iz,iq,ir,bT,bU,bV,bW,bX,bY,bZ,b5,b6,b7,b8,b9,cc,cg,ck,u64,cm,cn,cp,cr,ct,cu,cv,cw,cz,cA,cB,cC,cD,cE,cF,cG,cH,cI,cK,cL,cM,di,dm,dn,dr,dw,dx,dy,dz,cN,cO,cQ,cR,cS,cT,cU,cV,cW,cZ,c4,c5,c6,c7,c8,c9,dc,dA,dB,dD,dF,dG,dH,dI,dJ,dK,dL,dM,dN,dO,dP,dQ,dR,dS,dU,dV,dW,dX,dY,dZ,ec,ee,ef,ei,ej,ek,en,fL,fM,fN,eo,ep,er,eu,ew,ey,ez,eA,eB,eC,eD,eE,fO,fP,fQ,eF,eG,eH,eL,eM,eN,eO,eP,eR,eS,eT,eU,eV,eW,eX,eY,eZ,e3,e4,e5,e6,e7,e8,e9,fc,fe,ff,fh,fk,fm,fo,fq,fu,fA,fB,fC,gn,gp,fD,fE,fF,fG,fH,fI,fJ],defers:=ds.map oL} W'):
  Code.wp y_ Lz Q {tmps:= #[.pointer (some ⟨G,0,none⟩),fK,.pointer (some ⟨aH,0,none⟩),bk,.pointer (some ⟨bP,0,none⟩),jF,.pointer (some ⟨bS,0,none⟩),.pointer (some ⟨bD,0,none⟩),.pointer (some ⟨dh,0,none⟩),lK,.int .i64 ((i:Int)-1),gJ,gu,iF,gL,gW,u16,gv,gw,gx,gI,gy,gz,gA,gB,gC,gD,gE,gF,fS,fT,fU,u32,fV,fW,fZ,ga,gb,gd,gh,gi,gj,gl,gm,gG,gH,iz,iq,ir,bT,bU,bV,bW,bX,bY,bZ,b5,b6,b7,b8,b9,cc,cg,ck,u64,cm,cn,cp,cr,ct,cu,cv,cw,cz,cA,cB,cC,cD,cE,cF,cG,cH,cI,cK,cL,cM,di,dm,dn,dr,dw,dx,dy,dz,cN,cO,cQ,cR,cS,cT,cU,cV,cW,cZ,c4,c5,c6,c7,c8,c9,dc,dA,dB,dD,dF,dG,dH,dI,dJ,dK,dL,dM,dN,dO,dP,dQ,dR,dS,dU,dV,dW,dX,dY,dZ,ec,ee,ef,ei,ej,ek,en,fL,fM,fN,eo,ep,er,eu,ew,ey,ez,eA,eB,eC,eD,eE,fO,fP,fQ,eF,eG,eH,eL,eM,eN,eO,eP,eR,eS,eT,eU,eV,eW,eX,eY,eZ,e3,e4,e5,e6,e7,e8,e9,fc,fe,ff,fh,fk,fm,fo,fq,fu,fA,fB,fC,gn,gp,fD,fE,fF,fG,fH,fI,fJ],defers:=ds.map oL} W:=by
 have O:=U t;have g:=U C;have P:=U H;have R:=H.li.open
 have h1:=Ar aI.c aQ i;have ad:1<=i:=by omega
 clear C H t R h1
 conv=>arg 2;whnf
 dsimp only
 go_loopw [10] (λ x W'=>∃j:Nat,x=.int .i64 (j:Int)/\j<i/\nh K base w W' G hs cb n B F aI aH bP bS dh bD ij iX (j+1) [] ds s aQ aN mk ls X) (λ x _=>(intOf x).toNat)
 case atStart=>
  refine⟨i-1,by congr 1;omega,by omega,?_⟩;rw[show i-1+1=i by omega];exact P.o
 case round=>
  obtain⟨j,rfl,S,d⟩:=hrel;have L:=U d;have aS:=d.aO.aS;have p:j<aI.c.ax.length:=by have:=d.li.qR;omega
  have ae:=g.o.gV.aN.len;have af:=g.o.n10;have T:=g.o.jH;obtain⟨x,m⟩:∃x,ak aI.c.ax j=x:=⟨_,rfl⟩
  have u:gP n x:=by have:=g.o.gV.aN.lit _ (mc p);rw[m,T] at this;exact this
  obtain⟨v,l⟩:∃v,aD x=v:=⟨_,rfl⟩
  have V:v<=n:=by have:=u.2;omega
  have Y:bF (∀w:World,Calls y_ 97 #[.int .i64 x] w λ e w'=>e=.returned (.int .i64 (v:Int))/\w=w'):=U (λ w=>by have:=s7 x w (by unfold aD at l;omega) (by unfold aD at l;omega);rw[l] at this;exact this);have Z:=(d.nA g.o).2;obtain⟨g12,y,aa,f12⟩:=d.aO.gr.gK.e.l7 16 12 rfl d.aO.gr.gK.e.n12 (by rw[d.k6.aQ];omega);have z:=d.aO.gr.gK.e.Ad y (k:=v) (by rw[d.k6.aQ];omega);have ag:(v:Int)<(s.aQ.length:Int):=by rw[d.k6.aQ];omega
  obtain⟨g4,A,ab,f4⟩:=d.aO.gr.gK.e.l7 5 4 rfl d.aO.gr.gK.e.kD (by rw[d.k6.c];omega);have E:=d.aO.gr.gK.e.Ac A (k:=j) (by rw[d.k6.c];exact p);have ah:(j:Int)<(s.c.ax.length:Int):=by rw[d.k6.c];omega
  rw[show ak s.c.ax j=x by rw[d.k6.c];exact m] at E;obtain⟨I,q⟩:∃b,iY s.aQ v=b:=⟨_,rfl⟩
  rw[q] at z;have J:iY aQ (aD (ak aI.c.ax j))=I:=by rw[m,l,<-d.k6.aQ];exact q
  have r:=U (z_ J (z_ S p));have ai:w_.wrap ((j:Int)-1)=(j:Int)-1:=by rw[x_];omega
  clear d u l V Z y f12 A f4 q J m
  go_wp2_with fail
  refine q_ 14 (by kernel_rfl) (by kernel_rfl) ?_;simp only[v_,o_,u_,n_]
  iterate 11 still_step
  still_call ((Y.o _).mono (λ e w' h=>⟨h.1,h.2.symm⟩))
  iterate 2 still_step
  refine i_ ?_;change wpList _ _ _ _ _ wr.drew;have f:=U (L.o.grow ((f_ _ wr).drew));clear aS aa z ab E;generalize wr.drew=aj at*
  cases I with
  |true=>
   go_wp2_with fail
   exact O.o j _ _ _ _ _ _ _ _ _ _ _ _ _ _ _ _ _ _ f.o r.o.2.1 r.o.1
  |false=>
   obtain⟨a1,a2⟩:=f.o.li.down r.o.1;have M:=a1.open
   have N:=Ar aI.c aQ j;have D:=U (z_ a1 (z_ a2 (z_ M N)));clear a1 a2 M N
   go_wp2_with fail
   go_roundw
   case rel=>
    refine⟨j-1,by congr 1;have:=D.o;omega,by have:=D.o;omega,?_⟩;rw[show j-1+1=j by have:=D.o;omega];exact⟨by rw[D.o.2.1];exact f.o.aO,f.o.k6,D.o.1,f.o.sB,f.o.qL,f.o.sC,f.o.ms⟩
   case measure=>simp[intOf];have:=D.o;omega
structure BY(K:Nat->Prop)(base:Nat)(w W:World)(G:Nat)(hs:Nat->ay)(cb:Nat->Nat)(n:Nat)(B:Int)(F:List (List Int))(aI:au)(aH bP bS dh bD:Nat)(op:Int)(ij:ay)(iX:List Value)(j:Nat)(ds:List Nat)(s:au)(aQ:List Bool)(aN mk:List Int)(ls:Nat->ay)(X:Nat->List Value):Prop where
 aO:kY K base w W G hs cb s aH bP bS dh bD (0::aN) mk op ij iX ls X
 k6:r5 n B aI aQ s
 li:oo F aI.c (j+1) aQ aN []
 sB:mk.Nodup
 qL:∀z:Int,z∈mk↔∃v:Nat,z=v/\iY aQ v=true
 sC:aN.length<=mk.length
 ms:o9 w.heap.size W ds
 yj:iY aQ (aD (ak aI.c.ax j))=true
 one:nc aI.c aQ (j+1)=1
noncomputable def GO:Code:=ng ((Tryz.f146.body.bind λ c=>qv c 1).getD .skip)
theorem LB
  (C:vB F Fd aI n h kV) (Y:0<=B) (Z:B<=4611686018427387904) (H:nh K base w W G hs cb n B F aI aH bP bS dh bD ij iX i (others (az aI.c.cl d) lit) ds s aQ aN mk ls X) (aa:d<aI.c.cl.length) (hm:1<=(az aI.c.cl d).length)
  (q:∀(j:Nat)(op:Int)(ij:ay)(iX:List Value)(s:au)(aQ:List Bool)(aN mk:List Int)(ls:Nat->ay)(X:Nat->List Value)(ds:List Nat)(aB bk aC gJ gu iF gL gW u16 gv gw gx gI gy gz gA gB gC gD gE gF fS fT fU u32 fV fW fZ ga gb gd gh gi gj gl gm gG gH iz iq ir bT bU bV bW bX bY bZ b5 b6 b7 b8 b9 cc cg ck u64 cm cn cp cr ct cu cv cw cz cA cB cC cD cE cF cG cH cI cK cL cM di dm dn dr dw dx dy dz cN cO cQ cR cS cT cU cV cW cZ c4 c5 c6 c7 c8 c9 dc dA dB dD dF dG dH dI dJ dK dL dM dN dO dP dQ dR dS dU dV dW dX dY dZ ec ee ef ei ej ek en fL fM fN eo ep er eu ew ey ez eA eB eC eD eE fO fP fQ eF eG eH eL eM eN eO eP eR eS eT eU eV eW eX eY eZ e3 e4 e5 e6 e7 e8 e9 fc fe ff fh fk fm fo fq fu fA fB fC gn gp fD fE fF fG fH fI fJ:Value)(W':World),BY K base w W' G hs cb n B F aI aH bP bS dh bD op ij iX j ds s aQ aN mk ls X->Q (.exit 0) {tmps:= #[.pointer (some ⟨G,0,none⟩),aB,.pointer (some ⟨aH,0,none⟩),bk,.pointer (some ⟨bP,0,none⟩),.int .i64 0,.pointer (some ⟨bS,0,none⟩),.pointer (some ⟨bD,0,none⟩),.pointer (some ⟨dh,0,none⟩),.int .i64 (ak aI.c.ax j),aC,gJ,gu,iF,gL,gW,u16,gv,gw,gx,gI,gy,gz,gA,gB,gC,gD,gE,gF,fS,fT,fU,u32,fV,fW,fZ,ga,gb,gd,gh,gi,gj,gl,gm,gG,gH,iz,iq,ir,bT,bU,bV,bW,bX,bY,bZ,b5,b6,b7,b8,b9,cc,cg,ck,u64,cm,cn,cp,cr,ct,cu,cv,cw,cz,cA,cB,cC,cD,cE,cF,cG,cH,cI,cK,cL,cM,di,dm,dn,dr,dw,dx,dy,dz,cN,cO,cQ,cR,cS,cT,cU,cV,cW,cZ,c4,c5,c6,c7,c8,c9,dc,dA,dB,dD,dF,dG,dH,dI,dJ,dK,dL,dM,dN,dO,dP,dQ,dR,dS,dU,dV,dW,dX,dY,dZ,ec,ee,ef,ei,ej,ek,en,fL,fM,fN,eo,ep,er,eu,ew,ey,ez,eA,eB,eC,eD,eE,fO,fP,fQ,eF,eG,eH,eL,eM,eN,eO,eP,eR,eS,eT,eU,eV,eW,eX,eY,eZ,e3,e4,e5,e6,e7,e8,e9,fc,fe,ff,fh,fk,fm,fo,fq,fu,fA,fB,fC,gn,gp,fD,fE,fF,fG,fH,fI,fJ],defers:=ds.map oL} W')
  (hk:∀(j m:Nat)(ab:Int)(ij:ay)(iX:List Value)(s:au)(aQ:List Bool)(aN mk:List Int)(ls:Nat->ay)(X:Nat->List Value)(ds:List Nat)(bk gJ gu iF gL gW u16 gv gw gx gI gy gz gA gB gC gD gE gF fS fT fU u32 fV fW fZ ga gb gd gh gi gj gl gm gG gH iz iq ir bT bU bV bW bX bY bZ b5 b6 b7 b8 b9 cc cg ck u64 cm cn cp cr ct cu cv cw cz cA cB cC cD cE cF cG cH cI cK cL cM di dm dn dr dw dx dy dz cN cO cQ cR cS cT cU cV cW cZ c4 c5 c6 c7 c8 c9 dc dA dB dD dF dG dH dI dJ dK dL dM dN dO dP dQ dR dS dU dV dW dX dY dZ ec ee ef ei ej ek en fL fM fN eo ep er eu ew ey ez eA eB eC eD eE fO fP fQ eF eG eH eL eM eN eO eP eR eS eT eU eV eW eX eY eZ e3 e4 e5 e6 e7 e8 e9 fc fe ff fh fk fm fo fq fu fA fB fC gn gp fD fE fF fG fH fI fJ:Value)(W':World),nh K base w W' G hs cb n B F aI aH bP bS dh bD ij iX j (others (az aI.c.cl m) ab) ds s aQ aN mk ls X->m<aI.c.cl.length->1<=(az aI.c.cl m).length->j<i->Q .normal {tmps:= #[.pointer (some ⟨G,0,none⟩),.pointer (some ⟨cb m,0,none⟩),.pointer (some ⟨aH,0,none⟩),bk,.pointer (some ⟨bP,0,none⟩),.int .i64 0,.pointer (some ⟨bS,0,none⟩),.pointer (some ⟨bD,0,none⟩),.pointer (some ⟨dh,0,none⟩),.int .i64 ab,.int .i64 (j:Int),gJ,gu,iF,gL,gW,u16,gv,gw,gx,gI,gy,gz,gA,gB,gC,gD,gE,gF,fS,fT,fU,u32,fV,fW,fZ,ga,gb,gd,gh,gi,gj,gl,gm,gG,gH,iz,iq,ir,bT,bU,bV,bW,bX,bY,bZ,b5,b6,b7,b8,b9,cc,cg,ck,u64,cm,cn,cp,cr,ct,cu,cv,cw,cz,cA,cB,cC,cD,cE,cF,cG,cH,cI,cK,cL,cM,di,dm,dn,dr,dw,dx,dy,dz,cN,cO,cQ,cR,cS,cT,cU,cV,cW,cZ,c4,c5,c6,c7,c8,c9,dc,dA,dB,dD,dF,dG,dH,dI,dJ,dK,dL,dM,dN,dO,dP,dQ,dR,dS,dU,dV,dW,dX,dY,dZ,ec,ee,ef,ei,ej,ek,en,fL,fM,fN,eo,ep,er,eu,ew,ey,ez,eA,eB,eC,eD,eE,fO,fP,fQ,eF,eG,eH,eL,eM,eN,eO,eP,eR,eS,eT,eU,eV,eW,eX,eY,eZ,e3,e4,e5,e6,e7,e8,e9,fc,fe,ff,fh,fk,fm,fo,fq,fu,fA,fB,fC,gn,gp,fD,fE,fF,fG,fH,fI,fJ],defers:=ds.map oL} W'):
  Code.wp y_ GO Q {tmps:= #[.pointer (some ⟨G,0,none⟩),.pointer (some ⟨cb d,0,none⟩),.pointer (some ⟨aH,0,none⟩),bk,.pointer (some ⟨bP,0,none⟩),.int .i64 0,.pointer (some ⟨bS,0,none⟩),.pointer (some ⟨bD,0,none⟩),.pointer (some ⟨dh,0,none⟩),.int .i64 lit,.int .i64 (i:Int),gJ,gu,iF,gL,gW,u16,gv,gw,gx,gI,gy,gz,gA,gB,gC,gD,gE,gF,fS,fT,fU,u32,fV,fW,fZ,ga,gb,gd,gh,gi,gj,gl,gm,gG,gH,iz,iq,ir,bT,bU,bV,bW,bX,bY,bZ,b5,b6,b7,b8,b9,cc,cg,ck,u64,cm,cn,cp,cr,ct,cu,cv,cw,cz,cA,cB,cC,cD,cE,cF,cG,cH,cI,cK,cL,cM,di,dm,dn,dr,dw,dx,dy,dz,cN,cO,cQ,cR,cS,cT,cU,cV,cW,cZ,c4,c5,c6,c7,c8,c9,dc,dA,dB,dD,dF,dG,dH,dI,dJ,dK,dL,dM,dN,dO,dP,dQ,dR,dS,dU,dV,dW,dX,dY,dZ,ec,ee,ef,ei,ej,ek,en,fL,fM,fN,eo,ep,er,eu,ew,ey,ez,eA,eB,eC,eD,eE,fO,fP,fQ,eF,eG,eH,eL,eM,eN,eO,eP,eR,eS,eT,eU,eV,eW,eX,eY,eZ,e3,e4,e5,e6,e7,e8,e9,fc,fe,ff,fh,fk,fm,fo,fq,fu,fA,fB,fC,gn,gp,fD,fE,fF,fG,fH,fI,fJ],defers:=ds.map oL} W:=by
 have aE:=U q;have aF:=U hk;have l:=U C;have ad:=U H;have u:=U (z_ Y (z_ Z (z_ aa hm)));clear C H q hk Y Z aa hm
 conv=>arg 2;whnf
 dsimp only
 go_wp2_with (go_at_call 183;refine(Dv _ _ _).mono ?_;rintro e w1 ⟨rfl,rfl⟩;dsimp only)
 have H1:=ad.o.grow (bC W (.cells #[.pointer (some ⟨cb d,0,none⟩)] 164));obtain⟨aZ,a6,L⟩:=H1.aO.Lm (.int .i64 lit);have ae:(W.alloc (.cells #[.pointer (some ⟨cb d,0,none⟩)] 164)).heap.size=W.heap.size+1:=by simp
 rw[ae] at L;have af:=H1.tR L (KeepsOthers.below (bC _ _));have c1:((W.alloc (.cells #[.pointer (some ⟨cb d,0,none⟩)] 164)).alloc (.cells #[.int .i64 lit] 3)).cell? ⟨W.heap.size,0,none⟩=some (.pointer (some ⟨cb d,0,none⟩)):=by go_simp
 have ag:W.heap.size<((W.alloc (.cells #[.pointer (some ⟨cb d,0,none⟩)] 164)).alloc (.cells #[.int .i64 lit] 3)).heap.size:=by simp;omega
 clear H1 L ae ad;generalize ((W.alloc (.cells #[.pointer (some ⟨cb d,0,none⟩)] 164)).alloc (.cells #[.int .i64 lit] 3))=a7 at*;refine Ly l.o u.o.1 u.o.2.1 af u.o.2.2.1 u.o.2.2.2 c1 ag ?_;clear af c1 ag;intro D a8 s3 p y z A a' E;have aG:=E.li.qR;have N:=E.li.open
 have O:=Ar aI.c p i;have ba:=l.o.gV.aN.len;have aJ:=l.o.jH;have bb:=l.o.n10;have aK:=U E;have aL:w_.wrap ((i:Int)-1)=(i:Int)-1:=by rw[x_];omega
 clear E
 go_wp2_with fail
 refine LA (ds:=D::ds) l.o aK.o ?_;intro j cN cO cQ cR cS cT cU cV cW cZ c4 c5 c6 c7 c8 c9 dc P b aM ah;clear aG N O aL;have f:=U b;have R:j<aI.c.ax.length:=by have:=b.li.qR;omega
 have aS:=b.aO.aS;obtain⟨g4,ai,aP,f4⟩:=b.aO.gr.gK.e.l7 5 4 rfl b.aO.gr.gK.e.kD (by rw[b.k6.c];omega);have aj:=b.aO.gr.gK.e.Ac ai (k:=j) (by rw[b.k6.c];exact R);have bc:(j:Int)<(s3.c.ax.length:Int):=by rw[b.k6.c];omega
 obtain⟨x,q⟩:∃x,ak aI.c.ax j=x:=⟨_,rfl⟩
 rw[show ak s3.c.ax j=x by rw[b.k6.c];exact q] at aj;have al:gP n x:=by have:=l.o.gV.aN.lit _ (mc R);rw[q,aJ] at this;exact this
 have xo:=b.aO.xo.1;have aR:=b.aO.xo.2;have N:=b.li.open
 have O:=Ar aI.c p (j+1);obtain⟨g,S⟩:∃o:Nat,nc aI.c p (j+1)=o:=⟨_,rfl⟩
 rw[S] at xo N O;have bd:w_.wrap ((g:Int)-1)=(g:Int)-1:=by rw[x_];omega
 have M:=U (z_ q (z_ al (z_ S (z_ R (z_ aM ah)))));clear b ai f4 q al S ah
 by_cases h1:g=1
 ·have aT:((g:Int)-1==0)=true:=by simp;omega
  have H1:=U h1;clear h1
  go_wp2_with fail
  obtain⟨t,I,J⟩:=f.o.aO.DK ((g:Int)-1);have aU:BY K base w (P.setCell ⟨dh,0,none⟩ (.int .i64 ((g:Int)-1))) G hs cb n B F aI aH bP bS dh bD ((g:Int)-1) _ _ j (D::ds) s3 p y z A t:=⟨I,f.o.k6,f.o.li,f.o.sB,f.o.qL,f.o.sC,f.o.ms.others J,M.o.2.2.2.2.2,by rw[M.o.2.2.1];exact H1.o⟩
  have an:=aE.o j ((g:Int)-1) (oq (W.heap.size+1)) [.int .i64 lit] s3 p y z A t (D::ds);rw[M.o.1] at an;apply an;exact aU
 ·have aT:((g:Int)-1==0)=false:=by simp;omega
  have H1:=U h1;clear h1
  go_upto_region 23 with fail
  obtain⟨t,I,J⟩:=f.o.aO.DK ((g:Int)-1);obtain⟨m,hw,ao,aq,ar⟩:=f.o.li.reason l.o.gV.aN l.o.gV.jS M.o.2.2.2.2.2 (by rw[M.o.2.2.1];exact H1.o);have T:=l.o.gV.aN.p7 j M.o.2.2.2.1;rw[hw] at T;have av:(g:Int)-1=(nc aI.c p j:Int):=by rw[M.o.2.2.1] at ar;omega
  have hH:nh K base w (P.setCell ⟨dh,0,none⟩ (.int .i64 ((g:Int)-1))) G hs cb n B F aI aH bP bS dh bD _ _ j (others (az aI.c.cl m) x) (D::ds) s3 p y z A t:=⟨by rw[<-av];exact I,f.o.k6,by rw[<-M.o.1];exact aq,f.o.sB,f.o.qL,f.o.sC,f.o.ms.others J⟩
  have hH:=U hH;rw[M.o.1] at hw;have aw:=U (z_ ao (List.length_pos_of_mem T.2.1));clear I J ao aq ar T av aS aP aj xo aR;generalize P.setCell ⟨dh,0,none⟩ (.int .i64 ((g:Int)-1))=V at*;have aS:=hH.o.aO.aS;obtain⟨v,r⟩:∃v,aD x=v:=⟨_,rfl⟩
  have bf:v<=n:=by have:=M.o.2.1.2;omega
  have aV:bF (∀w:World,Calls y_ 97 #[.int .i64 x] w λ e w'=>e=.returned (.int .i64 (v:Int))/\w=w'):=U (λ w=>by have:=s7 x w (by unfold aD at r;omega) (by unfold aD at r;omega);rw[r] at this;exact this);obtain⟨g3,aA,aW,f3⟩:=hH.o.aO.gr.gK.e.l7 4 3 rfl hH.o.aO.gr.gK.e.nU (by rw[hH.o.k6.c];have:=l.o.gV.aN.pQ;omega);have c3:=hH.o.aO.gr.gK.e.yT aA (k:=v) (by rw[hH.o.k6.c];have:=l.o.gV.aN.pQ;omega);have bg:(v:Int)<(s3.c.kF.length:Int):=by rw[hH.o.k6.c];have:=l.o.gV.aN.pQ;omega
  rw[hH.o.k6.c,<-r,hw] at c3;rw[r] at c3;have c3:V.cell? ⟨g3,v,none⟩=some (.pointer (some ⟨cb m,0,none⟩)):=c3;clear hw aA f3 r;refine q_ 8 (by kernel_rfl) (by kernel_rfl) ?_;simp only[v_,o_,u_,n_]
  iterate 5 still_step
  still_call ((aV.o _).mono (λ e w' h=>⟨h.1,h.2.symm⟩))
  iterate 2 still_step
  refine i_ ?_;change wpList _ _ _ _ _ V.drew;have aX:=U (hH.o.grow ((f_ _ V).drew));clear aS aW c3
  go_wp2_with fail
  have aY:=aF.o j m x (oq (W.heap.size+1)) [.int .i64 lit] s3 p y z A t (D::ds);apply aY
  ·exact aX.o
  ·exact aw.o.1
  ·exact aw.o.2
  ·exact M.o.2.2.2.2.1
noncomputable def LC:Code:=(Tryz.f146.body.bind λ c=>qv c 0).getD .skip
def BZ(K:Nat->Prop)(base:Nat)(w:World)(G:Nat)(hs:Nat->ay)(cb:Nat->Nat)(n:Nat)(b:Int)(F:List (List Int))(aI:au)(aH e f g bD:Nat)(i d:Nat)(lit:Int)(ds:List Nat)(W:World):Prop:=
 ∃(j:ay)(k:List Value)(s:au)(l:List Bool)(m mk:List Int)(ls:Nat->ay)(X:Nat->List Value),nh K base w W G hs cb n (b+jK*((aI.c.ax.length-i:Nat):Int)) F aI aH e f g bD j k i (others (az aI.c.cl d) lit) ds s l m mk ls X/\d<aI.c.cl.length/\1<=(az aI.c.cl d).length
inductive zh(K:Nat->Prop)(base:Nat)(w:World)(G:Nat)(hs:Nat->ay)(cb:Nat->Nat)(n:Nat)(kV:Int)(F:List (List Int))(aI:au)(aH bP bS dh bD:Nat):Nat->Act->World->Prop
 |mk {i d:Nat} {lit:Int} {ds:List Nat} {bk gJ gu iF gL gW u16 gv gw gx gI gy gz gA gB gC gD gE gF fS fT fU u32 fV fW fZ ga gb gd gh gi gj gl gm gG gH iz iq ir bT bU bV bW bX bY bZ b5 b6 b7 b8 b9 cc cg ck u64 cm cn cp cr ct cu cv cw cz cA cB cC cD cE cF cG cH cI cK cL cM di dm dn dr dw dx dy dz cN cO cQ cR cS cT cU cV cW cZ c4 c5 c6 c7 c8 c9 dc dA dB dD dF dG dH dI dJ dK dL dM dN dO dP dQ dR dS dU dV dW dX dY dZ ec ee ef ei ej ek en fL fM fN eo ep er eu ew ey ez eA eB eC eD eE fO fP fQ eF eG eH eL eM eN eO eP eR eS eT eU eV eW eX eY eZ e3 e4 e5 e6 e7 e8 e9 fc fe ff fh fk fm fo fq fu fA fB fC gn gp fD fE fF fG fH fI fJ:Value} {W:World} (h:BZ K base w G hs cb n kV F aI aH bP bS dh bD i d lit ds W):zh K base w G hs cb n kV F aI aH bP bS dh bD i {tmps:= #[.pointer (some ⟨G,0,none⟩),.pointer (some ⟨cb d,0,none⟩),.pointer (some ⟨aH,0,none⟩),bk,.pointer (some ⟨bP,0,none⟩),.int .i64 0,.pointer (some ⟨bS,0,none⟩),.pointer (some ⟨bD,0,none⟩),.pointer (some ⟨dh,0,none⟩),.int .i64 lit,.int .i64 (i:Int),gJ,gu,iF,gL,gW,u16,gv,gw,gx,gI,gy,gz,gA,gB,gC,gD,gE,gF,fS,fT,fU,u32,fV,fW,fZ,ga,gb,gd,gh,gi,gj,gl,gm,gG,gH,iz,iq,ir,bT,bU,bV,bW,bX,bY,bZ,b5,b6,b7,b8,b9,cc,cg,ck,u64,cm,cn,cp,cr,ct,cu,cv,cw,cz,cA,cB,cC,cD,cE,cF,cG,cH,cI,cK,cL,cM,di,dm,dn,dr,dw,dx,dy,dz,cN,cO,cQ,cR,cS,cT,cU,cV,cW,cZ,c4,c5,c6,c7,c8,c9,dc,dA,dB,dD,dF,dG,dH,dI,dJ,dK,dL,dM,dN,dO,dP,dQ,dR,dS,dU,dV,dW,dX,dY,dZ,ec,ee,ef,ei,ej,ek,en,fL,fM,fN,eo,ep,er,eu,ew,ey,ez,eA,eB,eC,eD,eE,fO,fP,fQ,eF,eG,eH,eL,eM,eN,eO,eP,eR,eS,eT,eU,eV,eW,eX,eY,eZ,e3,e4,e5,e6,e7,e8,e9,fc,fe,ff,fh,fk,fm,fo,fq,fu,fA,fB,fC,gn,gp,fD,fE,fF,fG,fH,fI,fJ],defers:=ds.map oL} W
theorem zh.elim{g:Nat}(b:zh K base w G hs cb n kV F aI aH bP bS dh bD g a W){P:Prop}(k:∀{i d:Nat}{lit:Int}{ds:List Nat}{c e f j l m u16 o p q r s t u v y z A B C D E u32 H I J L M N O Q R S T U V X Y Z aa ab ad ae af ag ah ai aj ak al an ao aq ar u64 av aw ax az aA aB aC aD aE aF aG aJ aK aL aM aN aO aP aQ aR aS aT aU aV aW aX aY aZ a6 a7 a8 a' ba bb bc bd bf bg bh bj bk bl bn bo bp bq br bs bt bu bw bx bz bA bB bC bE bF bG bH bI bJ bK bL bM bN bO bQ bR bT bU bV bW bX bY bZ b0 b1 b2 b3 b4 b5 b6 b7 b8 b9 b' ca cc cd cf cg ch cj ck cm cn cp cq cr ct cu cv cw cx cy cz cA cB cC cD cE cF cG cH cI cJ cK cL cM cN cO cP cQ cR cS cT cU cV cW cX cY cZ c0 c4 c5 c6 c7 c8:Value},a={tmps:= #[.pointer (some ⟨G,0,none⟩),.pointer (some ⟨cb d,0,none⟩),.pointer (some ⟨aH,0,none⟩),c,.pointer (some ⟨bP,0,none⟩),.int .i64 0,.pointer (some ⟨bS,0,none⟩),.pointer (some ⟨bD,0,none⟩),.pointer (some ⟨dh,0,none⟩),.int .i64 lit,.int .i64 (i:Int),e,f,j,l,m,u16,o,p,q,r,s,t,u,v,y,z,A,B,C,D,E,u32,H,I,J,L,M,N,O,Q,R,S,T,U,V,X,Y,Z,aa,ab,ad,ae,af,ag,ah,ai,aj,ak,al,an,ao,aq,ar,u64,av,aw,ax,az,aA,aB,aC,aD,aE,aF,aG,aJ,aK,aL,aM,aN,aO,aP,aQ,aR,aS,aT,aU,aV,aW,aX,aY,aZ,a6,a7,a8,a',ba,bb,bc,bd,bf,bg,bh,bj,bk,bl,bn,bo,bp,bq,br,bs,bt,bu,bw,bx,bz,bA,bB,bC,bE,bF,bG,bH,bI,bJ,bK,bL,bM,bN,bO,bQ,bR,bT,bU,bV,bW,bX,bY,bZ,b0,b1,b2,b3,b4,b5,b6,b7,b8,b9,b',ca,cc,cd,cf,cg,ch,cj,ck,cm,cn,cp,cq,cr,ct,cu,cv,cw,cx,cy,cz,cA,cB,cC,cD,cE,cF,cG,cH,cI,cJ,cK,cL,cM,cN,cO,cP,cQ,cR,cS,cT,cU,cV,cW,cX,cY,cZ,c0,c4,c5,c6,c7,c8],defers:=ds.map oL}->g=i->BZ K base w G hs cb n kV F aI aH bP bS dh bD i d lit ds W->P):P:=by
 cases b with
 |mk h=>exact k rfl rfl h
theorem nh.x9{K:Nat->Prop}{base:Nat}{w W:World}{G:Nat}{hs:Nat->ay}{cb:Nat->Nat}{n:Nat}{B qU:Int}{F:List (List Int)}{aI s:au}{aH bP bS dh bD:Nat}{ij:ay}{iX:List Value}{i:Nat}{ex:List Int}{ds:List Nat}{aQ:List Bool}{aN mk:List Int}{ls:Nat->ay}{X:Nat->List Value}
  (H:nh K base w W G hs cb n B F aI aH bP bS dh bD ij iX i ex ds s aQ aN mk ls X) {d:Nat} (f:d<s.c.cl.length) {x:Int} (g:0<=x) (h1:x<=qU) (j:B<=qU):nh K base w (W.setCell ⟨cb d,3,none⟩ (.int .i64 x)) G hs cb n qU F aI aH bP bS dh bD ij iX i ex ds (s.xh d x) aQ aN mk ls X:=by
 have e:=H.aO.gr.call.Gl f H.k6.rg.nN x;have b:=H.aO.gr.back e.1 e.2;exact⟨H.aO.tR b.1,H.k6.GM (od.x9 s d x) (H.k6.rg.x9 j g h1),H.li,H.sB,H.qL,H.sC,H.ms.others b.2⟩
theorem LD
  (C:vB F Fd aI n h kV) (H:BZ K base w G hs cb n kV F aI aH bP bS dh bD i d lit ds W)
  (ag:∀(j:Nat)(B:Int)(op:Int)(y:ay)(z:List Value)(s:au)(A:List Bool)(aN mk:List Int)(ls:Nat->ay)(X:Nat->List Value)(ds:List Nat)(ah bk ai gJ gu iF gL gW u16 gv gw gx gI gy gz gA gB gC gD gE gF fS fT fU u32 fV fW fZ ga gb gd gh gi gj gl gm gG gH iz iq ir bT bU bV bW bX bY bZ b5 b6 b7 b8 b9 cc cg ck u64 cm cn cp cr ct cu cv cw cz cA cB cC cD cE cF cG cH cI cK cL cM di dm dn dr dw dx dy dz cN cO cQ cR cS cT cU cV cW cZ c4 c5 c6 c7 c8 c9 dc dA dB dD dF dG dH dI dJ dK dL dM dN dO dP dQ dR dS dU dV dW dX dY dZ ec ee ef ei ej ek en fL fM fN eo ep er eu ew ey ez eA eB eC eD eE fO fP fQ eF eG eH eL eM eN eO eP eR eS eT eU eV eW eX eY eZ e3 e4 e5 e6 e7 e8 e9 fc fe ff fh fk fm fo fq fu fA fB fC gn gp fD fE fF fG fH fI fJ:Value)(W':World),B<=kV+16*jK->BY K base w W' G hs cb n B F aI aH bP bS dh bD op y z j ds s A aN mk ls X->Q (.exit 0) {tmps:= #[.pointer (some ⟨G,0,none⟩),ah,.pointer (some ⟨aH,0,none⟩),bk,.pointer (some ⟨bP,0,none⟩),.int .i64 0,.pointer (some ⟨bS,0,none⟩),.pointer (some ⟨bD,0,none⟩),.pointer (some ⟨dh,0,none⟩),.int .i64 (ak aI.c.ax j),ai,gJ,gu,iF,gL,gW,u16,gv,gw,gx,gI,gy,gz,gA,gB,gC,gD,gE,gF,fS,fT,fU,u32,fV,fW,fZ,ga,gb,gd,gh,gi,gj,gl,gm,gG,gH,iz,iq,ir,bT,bU,bV,bW,bX,bY,bZ,b5,b6,b7,b8,b9,cc,cg,ck,u64,cm,cn,cp,cr,ct,cu,cv,cw,cz,cA,cB,cC,cD,cE,cF,cG,cH,cI,cK,cL,cM,di,dm,dn,dr,dw,dx,dy,dz,cN,cO,cQ,cR,cS,cT,cU,cV,cW,cZ,c4,c5,c6,c7,c8,c9,dc,dA,dB,dD,dF,dG,dH,dI,dJ,dK,dL,dM,dN,dO,dP,dQ,dR,dS,dU,dV,dW,dX,dY,dZ,ec,ee,ef,ei,ej,ek,en,fL,fM,fN,eo,ep,er,eu,ew,ey,ez,eA,eB,eC,eD,eE,fO,fP,fQ,eF,eG,eH,eL,eM,eN,eO,eP,eR,eS,eT,eU,eV,eW,eX,eY,eZ,e3,e4,e5,e6,e7,e8,e9,fc,fe,ff,fh,fk,fm,fo,fq,fu,fA,fB,fC,gn,gp,fD,fE,fF,fG,fH,fI,fJ],defers:=ds.map oL} W'):
  Code.wp y_ LC Q {tmps:= #[.pointer (some ⟨G,0,none⟩),.pointer (some ⟨cb d,0,none⟩),.pointer (some ⟨aH,0,none⟩),bk,.pointer (some ⟨bP,0,none⟩),.int .i64 0,.pointer (some ⟨bS,0,none⟩),.pointer (some ⟨bD,0,none⟩),.pointer (some ⟨dh,0,none⟩),.int .i64 lit,.int .i64 (i:Int),gJ,gu,iF,gL,gW,u16,gv,gw,gx,gI,gy,gz,gA,gB,gC,gD,gE,gF,fS,fT,fU,u32,fV,fW,fZ,ga,gb,gd,gh,gi,gj,gl,gm,gG,gH,iz,iq,ir,bT,bU,bV,bW,bX,bY,bZ,b5,b6,b7,b8,b9,cc,cg,ck,u64,cm,cn,cp,cr,ct,cu,cv,cw,cz,cA,cB,cC,cD,cE,cF,cG,cH,cI,cK,cL,cM,di,dm,dn,dr,dw,dx,dy,dz,cN,cO,cQ,cR,cS,cT,cU,cV,cW,cZ,c4,c5,c6,c7,c8,c9,dc,dA,dB,dD,dF,dG,dH,dI,dJ,dK,dL,dM,dN,dO,dP,dQ,dR,dS,dU,dV,dW,dX,dY,dZ,ec,ee,ef,ei,ej,ek,en,fL,fM,fN,eo,ep,er,eu,ew,ey,ez,eA,eB,eC,eD,eE,fO,fP,fQ,eF,eG,eH,eL,eM,eN,eO,eP,eR,eS,eT,eU,eV,eW,eX,eY,eZ,e3,e4,e5,e6,e7,e8,e9,fc,fe,ff,fh,fk,fm,fo,fq,fu,fA,fB,fC,gn,gp,fD,fE,fF,fG,fH,fI,fJ],defers:=ds.map oL} W:=by
 have aK:=U ag;have p:=U C;clear C ag
 conv=>arg 2;whnf
 dsimp only;refine wp_loop_ghost_k (zh K base w G hs cb n kV F aI aH bP bS dh bD) i ?start ?round
 case start=>exact zh.mk H
 case round=>
  clear H;intro g a W aj bc al an ao;refine aj.elim ?_;intro i d lit ds bk gJ gu iF gL gW u16 gv gw gx gI gy gz gA gB gC gD gE gF fS fT fU u32 fV fW fZ ga gb gd gh gi gj gl gm gG gH iz iq ir bT bU bV bW bX bY bZ b5 b6 b7 b8 b9 cc cg ck u64 cm cn cp cr ct cu cv cw cz cA cB cC cD cE cF cG cH cI cK cL cM di dm dn dr dw dx dy dz cN cO cQ cR cS cT cU cV cW cZ c4 c5 c6 c7 c8 c9 dc dA dB dD dF dG dH dI dJ dK dL dM dN dO dP dQ dR dS dU dV dW dX dY dZ ec ee ef ei ej ek en fL fM fN eo ep er eu ew ey ez eA eB eC eD eE fO fP fQ eF eG eH eL eM eN eO eP eR eS eT eU eV eW eX eY eZ e3 e4 e5 e6 e7 e8 e9 fc fe ff fh fk fm fo fq fu fA fB fC gn gp fD fE fF fG fH fI fJ aL D aM;clear aj;subst aL;replace D:=D.symm;subst D;obtain⟨y,z,s,A,aN,mk,ls,X,f,E,hm⟩:=aM;have aq:=U (z_ E hm);have I:d<s.c.cl.length:=by rw[f.k6.c];exact E
  obtain⟨aP,J,aQ,M,ar⟩:=f.aO.gr.gK.Ai I;have q:=f.k6.rg.qc d;have av:=f.k6.rg.rm;have aw:=f.k6.rg.oQ;have O:=f.li.qR;have aA:=p.o.gV.aN.len;have aR:=p.o.jH;have aT:=p.o.n10;have aU:=p.o.aZ;have aV:=p.o.de;have aB:W.cell? ⟨G,9,none⟩=some (.int .i64 s.bz):=f.aO.gr.gK.e.kP (k:=9) (v:=.int .i64 s.bz) rfl;have aS:=f.aO.aS;obtain⟨ac,aC⟩:∃a,(lN s d).ac=a:=⟨_,rfl⟩
  obtain⟨r,aD⟩:∃a,s.bz=a:=⟨_,rfl⟩
  rw[aC] at M q;rw[aD] at aB av aw;obtain⟨m,P⟩:∃t,aI.c.ax.length=t:=⟨_,rfl⟩
  rw[P] at q O aA f;have f3:=ar 3;have hmul:jK*((m-i:Nat):Int)<=jK*10:=p_ (by omega) (by unfold jK;omega);have aE:0<=jK*((m-i:Nat):Int):=Int.mul_nonneg (by unfold jK;omega) (by omega);obtain⟨l,R⟩:∃b,jK*((m-i:Nat):Int)=b:=⟨_,rfl⟩
  rw[R] at hmul aE q f;have aW:jK=1099511627776:=rfl;have bd:w_.wrap (ac+r)=ac+r:=by rw[x_];omega
  have L:=U f;have N:=U (z_ P (z_ R (z_ (show 0<=kV+l+jK by omega) (z_ (show kV+l+jK<=4611686018427387904 by omega) (z_ (show kV+l+jK<=kV+16*jK by omega) (z_ (show 0<=ac+r by omega) (z_ (show ac+r<=kV+l+jK by omega) (z_ I (z_ O (show kV+l<=kV+l+jK by omega))))))))));have rest:bF (∀(s1:au)(fS fT fU u32 fV fW fZ ga gb gd gh gi gj gl gm:Value)(S:World),nh K base w S G hs cb n (kV+l+jK) F aI aH bP bS dh bD y z i (others (az aI.c.cl d) lit) ds s1 A aN mk ls X->Code.wp y_ GO (Exit.inBlock 1 (Exit.then al (Q))) {tmps:= #[.pointer (some ⟨G,0,none⟩),.pointer (some ⟨cb d,0,none⟩),.pointer (some ⟨aH,0,none⟩),bk,.pointer (some ⟨bP,0,none⟩),.int .i64 0,.pointer (some ⟨bS,0,none⟩),.pointer (some ⟨bD,0,none⟩),.pointer (some ⟨dh,0,none⟩),.int .i64 lit,.int .i64 (i:Int),gJ,gu,iF,gL,gW,u16,gv,gw,gx,gI,gy,gz,gA,gB,gC,gD,gE,gF,fS,fT,fU,u32,fV,fW,fZ,ga,gb,gd,gh,gi,gj,gl,gm,gG,gH,iz,iq,ir,bT,bU,bV,bW,bX,bY,bZ,b5,b6,b7,b8,b9,cc,cg,ck,u64,cm,cn,cp,cr,ct,cu,cv,cw,cz,cA,cB,cC,cD,cE,cF,cG,cH,cI,cK,cL,cM,di,dm,dn,dr,dw,dx,dy,dz,cN,cO,cQ,cR,cS,cT,cU,cV,cW,cZ,c4,c5,c6,c7,c8,c9,dc,dA,dB,dD,dF,dG,dH,dI,dJ,dK,dL,dM,dN,dO,dP,dQ,dR,dS,dU,dV,dW,dX,dY,dZ,ec,ee,ef,ei,ej,ek,en,fL,fM,fN,eo,ep,er,eu,ew,ey,ez,eA,eB,eC,eD,eE,fO,fP,fQ,eF,eG,eH,eL,eM,eN,eO,eP,eR,eS,eT,eU,eV,eW,eX,eY,eZ,e3,e4,e5,e6,e7,e8,e9,fc,fe,ff,fh,fk,fm,fo,fq,fu,fA,fB,fC,gn,gp,fD,fE,fF,fG,fH,fI,fJ],defers:=ds.map oL} S):=U (by
   intro s1 fS fT fU u32 fV fW fZ ga gb gd gh gi gj gl gm S h1;refine LB p.o N.o.2.2.1 N.o.2.2.2.1 h1 aq.o.1 aq.o.2 ?_ ?_
   ·intro j op T Y s' Z aa mk' ab ad ae ah bk ai gJ gu iF gL gW u16 gv gw gx gI gy gz gA gB gC gD gE gF fS fT fU u32 fV fW fZ ga gb gd gh gi gj gl gm gG gH iz iq ir bT bU bV bW bX bY bZ b5 b6 b7 b8 b9 cc cg ck u64 cm cn cp cr ct cu cv cw cz cA cB cC cD cE cF cG cH cI cK cL cM di dm dn dr dw dx dy dz cN cO cQ cR cS cT cU cV cW cZ c4 c5 c6 c7 c8 c9 dc dA dB dD dF dG dH dI dJ dK dL dM dN dO dP dQ dR dS dU dV dW dX dY dZ ec ee ef ei ej ek en fL fM fN eo ep er eu ew ey ez eA eB eC eD eE fO fP fQ eF eG eH eL eM eN eO eP eR eS eT eU eV eW eX eY eZ e3 e4 e5 e6 e7 e8 e9 fc fe ff fh fk fm fo fq fu fA fB fC gn gp fD fE fF fG fH fI fJ W' aX;have af:=aK.o j (kV+l+jK) op T Y s' Z aa mk' ab ad ae;show Q (.exit 0) _ _;apply af
    ·exact N.o.2.2.2.2.1
    ·exact aX
   ·intro j aY a6 T Y s' Z aa mk' ab ad ae bk gJ gu iF gL gW u16 gv gw gx gI gy gz gA gB gC gD gE gF fS fT fU u32 fV fW fZ ga gb gd gh gi gj gl gm gG gH iz iq ir bT bU bV bW bX bY bZ b5 b6 b7 b8 b9 cc cg ck u64 cm cn cp cr ct cu cv cw cz cA cB cC cD cE cF cG cH cI cK cL cM di dm dn dr dw dx dy dz cN cO cQ cR cS cT cU cV cW cZ c4 c5 c6 c7 c8 c9 dc dA dB dD dF dG dH dI dJ dK dL dM dN dO dP dQ dR dS dU dV dW dX dY dZ ec ee ef ei ej ek en fL fM fN eo ep er eu ew ey ez eA eB eC eD eE fO fP fQ eF eG eH eL eM eN eO eP eR eS eT eU eV eW eX eY eZ e3 e4 e5 e6 e7 e8 e9 fc fe ff fh fk fm fo fq fu fA fB fC gn gp fD fE fF fG fH fI fJ W' af a7 a8 a';show al _ _;refine ao _ _ (Handed.intro j a' (an _ _ _ (zh.mk (d:=aY) (lit:=a6) (ds:=ae) ⟨T,Y,s',Z,aa,mk',ab,ad,af.up ?_,a7,a8⟩)));rw[N.o.1,<-N.o.2.1];have bf:jK*((m-i:Nat):Int)+jK<=jK*((m-j:Nat):Int):=by
     have ba:((m-i:Nat):Int)+1<=((m-j:Nat):Int):=by have:=N.o.2.2.2.2.2.2.2.2.1;omega
     have aF:=p_ ba (show 0<=jK by unfold jK;omega);rw[Int.mul_add,Int.mul_one] at aF;exact aF
    omega)
  clear f E hm aC aD P hmul aE R q aP aQ I ar av aw O aA aR aT aU aV aW an ao;refine wp_block ?_;refine wp_seq_k ?_;intro bg aG;have aJ:=U aG;clear aG
  cases u:(lN s d).k6 with
  |true=>
   rw[u] at J;clear u
   go_wp2_with fail
   refine q_ 11 (by kernel_rfl) (by kernel_rfl) ?_;simp only[v_,o_,u_,n_]
   iterate 11 still_step
   refine i_ ?_;change wpList _ _ _ _ _ W.drew;have M:W.drew.cell? ⟨cb d,3,none⟩=some (.int .i64 ac):=M;have f3:W.drew.frozen? ⟨cb d,3,none⟩=false:=f3;have bb:=U ((L.o.grow ((f_ _ W).drew)).x9 (d:=d) N.o.2.2.2.2.2.2.2.1 N.o.2.2.2.2.2.1 N.o.2.2.2.2.2.2.1 N.o.2.2.2.2.2.2.2.2.2);clear aS aB J;generalize W.drew=V at*
   go_wp2_with fail
   apply aJ.o;apply rest.o;exact bb.o
  |false=>
   rw[u] at J;clear u
   go_wp2_with fail
   apply aJ.o;apply rest.o;exact L.o.up N.o.2.2.2.2.2.2.2.2.2
end
section
open Go.RowKit Go.Shelf
def wu(x:Int):Bool:=(Lit.int .i64 x).wf
theorem LF(c: -9223372036854775808<=x)(h1:x<=9223372036854775807):wu x=true:=by
 have a:w_.min= -9223372036854775808:=by decide
 have b:w_.max=9223372036854775807:=by decide
 unfold wu Lit.wf;simp[a,b];omega
structure DO{β:Type}(e:TypeId)(qa:β->Value)(l6:β->DataW Unit)(ok:β->Prop)(z0:β):Prop where
 DP:∀x,ok x->plainElem (H:=Unit) y_ e (qa x)=some (l6 x,[])
 inv:∀v x sV,plainElem (H:=Unit) y_ e v=some (l6 x,sV)->v=qa x
 all:∀v y,plainElem (H:=Unit) y_ e v=some y->∃x,v=qa x/\y.1=l6 x
 zero:∀w,(zeroValue e).run y_ w=.ok (qa z0) w
 GQ:ok z0
def uD(v:Bool):DataW Unit:=.lit (.bool v)
theorem GR:DO 4 Value.bool uD (λ _=>True) false where
 DP x _:=plainElem_bool k_ x
 inv v x b h:=Ff k_ h
 all v y h:=by
  have hu:=k_;generalize y_=P at h hu;unfold plainElem at h;rw[hu] at h
  cases v<;>simp at h
  subst h;exact⟨_,rfl,rfl⟩
 zero:=Tryz.zeroValue4
 GQ:=trivial
section
variable {β:Type}{e:TypeId}{qa:β->Value}{l6:β->DataW Unit}{ok:β->Prop}{z0:β}
def B0(l6:β->DataW Unit)(D:DataW Unit)(f:Int->Option β):Prop:=
 (∀x,wu x=true->Maps.has D (.int .i64 x)=(f x).isSome)/\∀x v,wu x=true->f x=some v->∀b,D.atKey (.int .i64 x) b=l6 v
def ni(e:TypeId)(l6:β->DataW Unit)(w:World)(b n:Nat)(f:Int->Option β):Prop:=
 ∃D:DataW Unit,w.ownsMap y_ 3 (plainElem y_ e) b n D/\B0 l6 D f
def DQ:Int->Option β:=λ _=>none
def wv(f:Int->Option β)(x:Int)(v:β):Int->Option β:=λ y=>if y=x then some v else f y
theorem ni.made(w:World):ni e l6 (w.alloc (.map #[] 0)) w.heap.size 0 DQ:=
 ⟨_,World.ownsMap_made w _ _ _,λ x _=>rfl,λ x v _ h=>by cases h⟩
theorem ni.lt{w:World}{b n:Nat}{f:Int->Option β}(h:ni e l6 w b n f):b<w.heap.size:=by
 obtain⟨D,h1,c⟩:=h;exact h1.lt
theorem ni.kept{w w':World}{b n:Nat}{f:Int->Option β}{row:Option Nat}(h:ni e l6 w b n f)(c:w.grownBy w' row)(d:some b≠row):ni e l6 w' b n f:=by
 obtain⟨D,h1,g⟩:=h;exact⟨D,h1.kept c d,g⟩
theorem ni.alloc{w:World}{b n:Nat}{f:Int->Option β}(h:ni e l6 w b n f)(o:Obj):ni e l6 (w.alloc o) b n f:=by
 obtain⟨D,h1,c⟩:=h;exact⟨D,h1.alloc o,c⟩
theorem ni.below{w w':World}{b n B:Nat}{f:Int->Option β}(h:ni e l6 w b n f)(c:Below B w w')(d:b<B):ni e l6 w' b n f:=by
 obtain⟨D,⟨es,clock,h1,g⟩,i⟩:=h;exact⟨D,⟨es,clock,(c.block b d).trans h1,g⟩,i⟩
theorem ni.setCell{w:World}{b n:Nat}{f:Int->Option β}(h:ni e l6 w b n f){a:Addr}(c:b≠a.block)(u:Value):ni e l6 (w.setCell a u) b n f:=by
 obtain⟨D,h1,d⟩:=h;exact⟨D,h1.setCell c u,d⟩
theorem ni.LG(E:DO e qa l6 ok z0){t:TypeId}(j:y_.underlying t=some (.map 3 e)){w:World}{b n:Nat}{f:Int->Option β}(h:ni e l6 w b n f){x:Int}(c:wu x=true):
  (Instr.lookup t (.map (some b)) (.int .i64 x) true).run y_ w=.ok (.tuple #[qa ((f x).getD z0),.bool (f x).isSome]) w:=by
 obtain⟨D,h1,g,k⟩:=h;obtain⟨v,m,l,d⟩:=h1.look_ok (Maps.int_keyed s_) j (E.zero w) (E.DP _ E.GQ) (Maps.keyOf_int_mk s_ c);rw[l,g x c]
 cases i:f x with
 |none=>
  rw[Maps.atKey_of_not_has (by rw[g x c,i];rfl)] at d;rw[E.inv _ _ _ d];rfl
 |some y=>
  rw[k x y c i] at d;rw[E.inv _ _ _ d];rfl
theorem GS{x y:Int}(h:y≠x):(Lit.int .i64 y)≠(Lit.int .i64 x):=by simpa using h
theorem B0.put{D:DataW Unit}{f:Int->Option β}(d:Maps.IsMap D)(h:B0 l6 D f)(x:Int)(v:β):B0 l6 (D.put (.int .i64 x) (l6 v)) (wv f x v):=by
 refine⟨λ y c=>?_,λ y u c hu e=>?_⟩
 ·by_cases b:y=x
  ·subst b;rw[Maps.has_put_same d (by simp[WideAt.IsKeyLit])];simp[wv]
  ·rw[Maps.has_put_other (GS b),h.1 y c];simp[wv,b]
 ·by_cases b:y=x
  ·subst b;rw[Maps.atKey_put_same d (by simp[WideAt.IsKeyLit])];simp[wv] at hu;rw[hu]
  ·rw[Maps.atKey_put_other (GS b)];simp[wv,b] at hu;exact h.2 y u c hu e
theorem ni.put(E:DO e qa l6 ok z0){t:TypeId}(c:y_.underlying t=some (.map 3 e)){w:World}{b n:Nat}{f:Int->Option β}(h:ni e l6 w b n f)(d:n<maxLen){x:Int}(g:wu x=true){v:β}(i:ok v):
  ∃w',(Instr.mapUpdate t (.map (some b)) (.int .i64 x) (qa v)).run y_ w=.ok () w'/\ni e l6 w' b (n+1) (wv f x v)/\w.mapTurned w' b:=by
 obtain⟨D,h1,j⟩:=h;obtain⟨w',k,l,m⟩:=h1.store (Maps.int_keyed s_) c d (Maps.keyOf_int_mk s_ g) (E.DP v i);exact⟨w',k,⟨_,l,j.put h1.isMap x v⟩,m⟩
variable {ops:Array Oper}{rest:List Oper}{o:Oper}{a:Act}{Q:Exit->Act->World->Prop}
end
end
section
open Go.RowKit Go.Shelf
theorem ni.B1{β:Type}{e:TypeId}{l6:β->DataW Unit}{f:Int->Option β}(h:ni e l6 w b n f):∃es clock,w.heap[b]? =some (.map es clock):=by
 obtain⟨D,⟨es,clock,h1,c⟩,d⟩:=h;exact⟨es,clock,h1⟩
theorem zj{B C:World}{row:Option Nat}(h:A.grownBy B (some b))(k:B.grownBy C row)(f:∀r,row=some r->A.heap.size<=r\/r=b):A.grownBy C (some b):=
 ⟨k.os.trans h.os,k.tape.trans h.tape,k.output.trans h.output,Nat.le_trans h.size k.size,λ i c d=>(k.block i (Nat.lt_of_lt_of_le c h.size) (λ e=>by
  rcases f i e.symm with h1|h1
  ·omega
  ·exact d (by rw[h1]))).trans (h.block i c d)⟩
theorem GU(A:World)(row:Option Nat):A.grownBy A row:=⟨rfl,rfl,rfl,Nat.le_refl _,λ _ _ _=>rfl⟩
theorem As{B:World}(row:Option Nat)(h:Below A.heap.size A B):A.grownBy B row:=⟨h.os,h.tape,h.output,h.size,λ k hk _=>h.block k hk⟩
structure r6(base:Nat)(W:World)(G:Nat)(hs:Nat->ay)(cb:Nat->Nat)(s:au)(lE aH l9 bm m:Nat)(f:Int->Option Bool):Prop where
 e:jm base W G hs cb s
 vR:aR W lE 114 [.map (some bm)]
 qf:aR W aH 115 [.pointer (some ⟨G,0,none⟩)]
 tQ:aR W l9 129 [.func (.func 185) #[] #[.pointer (some ⟨lE,0,none⟩),.pointer (some ⟨aH,0,none⟩),.pointer (some ⟨l9,0,none⟩)]]
 pI:ni 4 uD W bm m f
 snd:∀y,f y=some true->q4 s.c s.aQ y
section
variable {base:Nat}{W W':World}{G:Nat}{hs:Nat->ay}{cb:Nat->Nat}{s:au}{lE aH l9 bm m:Nat}{f:Int->Option Bool}
theorem r6.below(h:r6 base W G hs cb s lE aH l9 bm m f)(b:Below W.heap.size W W'):r6 base W' G hs cb s lE aH l9 bm m f:=
 ⟨h.e.below b,h.vR.below b,h.qf.below b,h.tQ.below b,h.pI.below b h.pI.lt,h.snd⟩
theorem yl{b:Nat}{t:TypeId}{cs:List Value}(h:aR W b t cs){row:Option Nat}(d:∀r,row=some r->∃o:Obj,W.heap[r]? =some o/\o.isCells=false):some b≠row:=λ e=>by
 obtain⟨o,c,f⟩:=d b e.symm;have:W.heap[b]? =_:=h;rw[this] at c;cases c;cases f
theorem r6.isMap(h:r6 base W G hs cb s lE aH l9 bm m f):∀r,some bm=some r->∃o:Obj,W.heap[r]? =some o/\o.isCells=false:=λ r e=>by
 obtain⟨es,cl,h1⟩:=h.pI.B1;cases e;exact⟨_,h1,rfl⟩
theorem r6.put(h:r6 base W G hs cb s lE aH l9 bm m f){lX:Nat}{nK:Int->Option Bool}(b:W.grownBy W' (some bm))(hm:ni 4 uD W' bm lX nK)(hs':∀y,nK y=some true->q4 s.c s.aQ y):r6 base W' G hs cb s lE aH l9 bm lX nK:=
 ⟨h.e.u0 b h.isMap,h.vR.kept b (yl h.vR h.isMap),h.qf.kept b (yl h.qf h.isMap),h.tQ.kept b (yl h.tQ h.isMap),hm,hs'⟩
theorem r6.box(h:r6 base W G hs cb s lE aH l9 bm m f)(d:W.grownBy W' (some bm)){b:Nat}{t:TypeId}{cs:List Value}(c:aR W b t cs):aR W' b t cs:=c.kept d (yl c h.isMap)
end
theorem LH(lP lE nP bm m:Nat)(f:Int->Option Bool)(x:Int)(yes:Bool)(u:FrameMode)(n:Nat)(W:World)(b:aR W lP 4 [.bool yes])(hk:aR W lE 114 [.map (some bm)])(c:aR W nP 3 [.int .i64 x])(hm:ni 4 uD W bm m f)(i:wu x=true)(j:m<maxLen):
  CallsDIn l_ n y_ 186 #[.pointer (some ⟨lP,0,none⟩),.pointer (some ⟨lE,0,none⟩),.pointer (some ⟨nP,0,none⟩)] u W λ e k W'=>k=u/\(e=.returned (.tuple #[])/\ni 4 uD W' bm (m+1) (wv f x yes)/\W.grownBy W' (some bm)):=by
 obtain⟨W',l,d,g⟩:=hm.put GR Tryz.underlying114 j i (v:=yes) trivial;have p:W.cell? ⟨lP,0,none⟩=some (.bool yes):=b.cell 0;have q:W.cell? ⟨lE,0,none⟩=some (.map (some bm)):=hk.cell 0;have r:W.cell? ⟨nP,0,none⟩=some (.int .i64 x):=c.cell 0;have H:=U (z_ d g.grown);clear d g b hk c hm;refine callsDIn_of_wp Tryz.func186 rfl trivial ?_;simp only[Tryz.ntmps186,List.size_toArray,List.length_cons,List.length_nil,Nat.reduceAdd,Nat.reduceSub,Array.replicate_succ,Array.replicate_zero,List.push_toArray,List.append_toArray,List.nil_append,List.cons_append]
 gi_wp2
 go_end0;exact⟨rfl,H.o.1,H.o.2⟩
def GV(base:Nat)(W:World)(G:Nat)(hs:Nat->ay)(cb:Nat->Nat)(s:au)(lE aH l9 bm m:Nat)(x:Int)(q:Nat)(e:Ending)(W':World):Prop:=
 ∃(b:Bool)(d:Nat)(f:Int->Option Bool),e=.returned (.bool b)/\(b=true->q4 s.c s.aQ x)/\r6 base W' G hs cb s lE aH l9 bm d f/\W.grownBy W' (some bm)/\d<=m+q
theorem GW(tmps:Array Value)(lP:Nat)(yes:Bool)(W:World)(b:tmps[7]? =some (.pointer (some ⟨lP,0,none⟩)))(c:W.cell? ⟨lP,0,none⟩=some (.bool yes)):(results Tryz.f185 tmps).run y_ W=.ok (.bool yes) W:=by
 simp[results,Tryz.f185,b,c,go_sem]
def GX(lP lE nP:Nat):Deferred:={target:=.fn (.func 186) #[.pointer (some ⟨lP,0,none⟩),.pointer (some ⟨lE,0,none⟩),.pointer (some ⟨nP,0,none⟩)],args:= #[]}
theorem B2{kz:World}{lE l9 bm m0 m:Nat}{f:Int->Option Bool}{yes:Bool}{lP nP q:Nat}
  (w:a.defers=ds.map oL++[GX lP lE nP]) (J:a.tmps[7]? =some (.pointer (some ⟨lP,0,none⟩))) (h:r6 base W G hs cb s lE aH l9 bm m f) (o:kz.grownBy W (some bm)) (v:o9 kz.heap.size W ds) (C:aR W lP 4 [.bool yes]) (K:aR W nP 3 [.int .i64 x]) (L:wu x=true) (E:yes=true->q4 s.c s.aQ x) (z:m<maxLen) (M:m+1<=m0+q):
  bodyPostM l_ 6 y_ Tryz.f185 (GV base kz G hs cb s lE aH l9 bm m0 x q) .ret a W:=by
 show LeavesInM l_ 6 y_ Tryz.f185 a.tmps _ a.defers .returning W;rw[w];refine Fz (by simp) _ ds W v.nt (λ D p=>(v.kR D p).2) (λ i l=>?_);have u:∀b,(∃cs t F,W.heap[b]? =some (Obj.cells cs t F))\/(∃es cl,W.heap[b]? =some (Obj.map es cl))->i.heap[b]? =W.heap[b]? :=λ b u=>l.block b (λ p=>by
  have h1:=(v.kR b p).2;rcases u with⟨cs,t,F,j⟩|⟨es,cl,j⟩
  ·rw[j] at h1;cases h1
  ·rw[j] at h1;cases h1)
 have hblk:∀{b:Nat}{t:TypeId}{cs:List Value},aR W b t cs->aR i b t cs:=λ H=>(u _ (.inl ⟨_,_,_,H⟩)).trans H
 have N:kz.grownBy i (some bm):=⟨l.os.trans o.os,l.tape.trans o.tape,l.output.trans o.output,by rw[l.size];exact o.size,λ k hk z=>(l.block k (λ p=>by have:=(v.kR k p).1;omega)).trans (o.block k hk z)⟩
 have O:jm base i G hs cb s:=by
  refine⟨hblk h.e.box,⟨λ r=>o6 (h.e.rows.row r) (λ b P=>?_),h.e.rows.apart⟩,λ d w=>hblk (h.e.cls d w),h.e.inj,h.e.q6,h.e.rL⟩;obtain⟨cs,j⟩:=vz (h.e.rows.row r) P;exact u b (.inl ⟨_,_,_,j⟩)
 have I:ni 4 uD i bm m f:=by
  obtain⟨D,⟨es,clock,h1,Q⟩,j⟩:=h.pI;exact⟨D,⟨es,clock,(u bm (.inr ⟨es,clock,h1⟩)).trans h1,Q⟩,j⟩
 have A:r6 base i G hs cb s lE aH l9 bm m f:=⟨O,hblk h.vR,hblk h.qf,hblk h.tQ,I,h.snd⟩
 refine⟨by simp,.inr ⟨λ _=>by omega,_,_,186, #[.pointer (some ⟨lP,0,none⟩),.pointer (some ⟨lE,0,none⟩),.pointer (some ⟨nP,0,none⟩)],rfl,?_,λ g V=>trivial,?_⟩⟩
 ·simp[GX,invoke,go_sem,enters_of Tryz.func186 (by kernel_rfl) rfl]
 ·refine(LH lP lE nP bm m f x yes .returning _ i (hblk C) A.vR (hblk K) I L z).mono ?_;rintro e X R ⟨rfl,rfl,S,B⟩;have T:r6 base R G hs cb s lE aH l9 bm (m+1) (wv f x yes):=A.put B S (λ y n=>by
   unfold wv at n;split at n
   ·rename_i e;subst e;injection n with n;exact E n
   ·exact h.snd y n)
  have U:=A.box B (hblk C);exact⟨_,GW _ _ _ _ J (U.cell 0),yes,m+1,_,rfl,E,T,zj N B (λ r e=>by cases e;exact .inr rfl),M⟩
end
end Go.Proofs.YtogdlkfacflmaaaGreat
