/- Parts of the walk of the solver and its core; no condition. -/
import Derived.Test.YtogdlkfacflmaaaGreatZW8
import Derived.Shelf.SlicesE.Compact
import Derived.Shelf.SlicesE.Clone
import Derived.Shelf.SlicesE.DeleteFunc
import Derived.Shelf.SlSortCmp.Whole1
import Derived.Shelf.SlSortCmp.NoneTotal
import Derived.Test.YtogdlkfacflmaaaGreatProg
import Derived.Test.YtogdlkfacflmaaaGreatZW1
namespace Go.Proofs.YtogdlkfacflmaaaGreat
set_option linter.unusedVariables false
set_option linter.unusedSimpArgs false
set_option maxRecDepth 1000000
set_option maxHeartbeats 8000000
open _root_.And renaming intro→z_
open _root_.Go.Proofs.Tryz renaming prog→y_,underlying25→p_,sizeOf3→o_,underlying4→n_,zeroValue25→m_,isAgg3→l_,zeroValue4→k_,sizeOf25→i_,underlying0→f_,underlying3→e_,zeroValue0→b_,zeroValue3→a_,sizeOf4→Zz,isAgg25→Zy,isAgg4→Zv,sizeOf0→Zq,isAgg0→Zp
open _root_.List renaming getElem?_eq_some_iff→x_,take_succ_cons→v_,drop_succ_cons→u_,length_append→t_,drop_zero→s_,take_zero→r_,getElem?_eq_getElem→j_,length_drop→g_,length_set→d_,map_congr_left→Zx,getElem?_drop→Zu,getElem?_append_right→Zt,getD_eq_getElem?_getD→Zs,getElem?_eq_none→Zo
open _root_.Go renaming wp_region_still_tail→w_,wpStill_nil→q_
open _root_.Go.IntKind renaming wrap_i64→h_,i64→Zw
open _root_.Go.Shelf renaming Ren→c_
open _root_.Exists renaming intro→Zr
open _root_.Nat renaming lt_or_ge→Zn
open _root_.Go.Value renaming int→Zm
variable{K:Nat->Prop}{base G aR k0 g0 iS ir iZ i kl d:Nat}{w W:World}{gM jH:Nat->ax}{cb:Nat->Nat}{s:an}{F:List (List Int)}{ai:List Int}{c1 c2:Core}{lit:Int}{ls kept:List Nat}{jJ lp lB gR gE gl iw gI gQ u16 gm gn gp gD gq gr gu gv gw gx gy gz fN fO fP u32 fQ fR fS fT fU fV fW fZ ga gb gd gA gB bM bN bO bP bQ bR bS bT bU bV bW bX bY bZ b5 u64 b6 b7 b8 b9 cc cg ck cm cn cp cr ct cu cv cw cz cA cB cC cD cE c7 c8 c9 dc de dh di dm cG cH cI cK cL cM cN cO cQ cR cS cT cU cV cW cZ c4 dn dr dw dx dy dz dA dB dD dF dG dH dI dJ dK dL dM dN dO dP dQ dR dS dU dV dW dX dY dZ ec fF fG fH ee ef ei ej ek en eo ep er eu ew ey fI fJ fK ez eA eB eC eD eE eF eG eH eL eM eN eO eP eR eS eT eU eV eW eX eY eZ e3 e4 e5 e6 e7 e8 e9 fc fe ff fh fk fm gh gi fo fq fu fA fB fC fD iB iC iD iE iF iG iH iI iJ iK iL iM jc jd je jf jg jh ji jj u8:Value}{Q:Exit->Act->World->Prop}
section
open Go.RowKit Go.Shelf
theorem mz.is(b:mz K base w G cb F ai s c1 gM aR lit ls k0 i kl kept c2 jH W)(C:rQ G gM c1 s lit ls k0 g0 iS ir iZ){y z:Int}(d:gW s.c.n y)(f:jW c2 y=z):Calls y_ 152 #[.pointer (some ⟨G,0,none⟩),.int .i64 y] W λ e w'=>e=.returned (.int .i8 z)/\w'=W:=by
 have e:(ko c2 k0 (kept++ls.drop kl)).n=s.c.n:=b.mu C;have:=Bw b.gH (Dp b.nH.gP.aL) (show(ko c2 k0 (kept++ls.drop kl)).n<=60000 by rw[e];exact C.aq) (x:=y) (by show gW (ko c2 k0 (kept++ls.drop kl)).n y;rw[e];exact d);rw[show jW (({s with c:=ko c2 k0 (kept++ls.drop kl)}:an).c) y=z from f] at this;exact this.mono λ e w' h=>⟨h.1,h.2.symm⟩
theorem Ll{bz m bl:Nat}(C:rQ G gM c1 s lit ls k0 g0 iS ir iZ)(l:mz K base w G cb F ai s c1 gM aR lit ls k0 i kl kept c2 jH W)(ag:ls[i]? =some d)(hw:w1 c2 d= -lit)(hC:yO base W G jH cb d bz m bl (az c2.cl d))
  (E:∀(U V u8 bM bN bO bP bQ bR bS bT bU bV bW bX bY bZ b5 u64 b6 b7 b8 b9 cc cg ck cm cn cp cr ct cu cv cw cz cA cB cC cD cE c7 c8 c9 dc de dh di dm cG cH cI cK cL cM cN cO cQ cR cS cT cU cV cW cZ c4 dn dr dw dx dy dz dA dB dD dF dG dH dI dJ dK dL dM dN dO dP dQ dR dS dU dV dW dX dY dZ ec fF fG fH ee ef ei ej ek en eo ep er eu ew ey fI fJ fK ez eA eB eC eD eE eF eG eH eL eM eN eO eP eR eS eT eU eV eW eX eY eZ e3 e4 e5 e6 e7 e8 e9 fc fe ff fh fk fm gh gi fo fq fu fA fB fC fD iB iC iD iE iF iG iH iI iJ iK iL iM:Value)(c3:Core)(X:Nat->ax)(W':World),mz K base w G cb F ai s c1 gM aR lit ls k0 (i+1) kl kept c3 X W'->Q (.exit 3) ⟨#[.pointer (some ⟨G,0,none⟩),jJ,lp,.int .i64 lit,.slice (some ⟨iS,0,none⟩) ir iZ,.slice (some ⟨iS,0,none⟩) (kl) iZ,U,V,u8,lB,gR,gE,gl,iw,gI,gQ,u16,gm,gn,gp,gD,gq,gr,gu,gv,gw,gx,gy,gz,fN,fO,fP,u32,fQ,fR,fS,fT,fU,fV,fW,fZ,ga,gb,gd,gA,gB,.slice (some ⟨iS,0,none⟩) ir iZ,.int .i64 (ir:Int),.int .i64 (i:Int),bM,bN,bO,bP,bQ,bR,bS,bT,bU,bV,bW,bX,bY,bZ,b5,u64,b6,b7,b8,b9,cc,cg,ck,cm,cn,cp,cr,ct,cu,cv,cw,cz,cA,cB,cC,cD,cE,c7,c8,c9,dc,de,dh,di,dm,cG,cH,cI,cK,cL,cM,cN,cO,cQ,cR,cS,cT,cU,cV,cW,cZ,c4,dn,dr,dw,dx,dy,dz,dA,dB,dD,dF,dG,dH,dI,dJ,dK,dL,dM,dN,dO,dP,dQ,dR,dS,dU,dV,dW,dX,dY,dZ,ec,fF,fG,fH,ee,ef,ei,ej,ek,en,eo,ep,er,eu,ew,ey,fI,fJ,fK,ez,eA,eB,eC,eD,eE,eF,eG,eH,eL,eM,eN,eO,eP,eR,eS,eT,eU,eV,eW,eX,eY,eZ,e3,e4,e5,e6,e7,e8,e9,fc,fe,ff,fh,fk,fm,gh,gi,fo,fq,fu,fA,fB,fC,fD,iB,iC,iD,iE,iF,iG,iH,iI,iJ,iK,iL,iM,jc,jd,je,jf,jg,jh,ji,jj],[]⟩ W')
  (H:∀(u8 bM bN bO bP bQ bR bS bT bU bV bW bX bY bZ b5 u64 b6 b7 b8 b9 cc cg ck cm cn cp cr ct cu cv cw cz cA cB cC cD cE c7 c8 c9 dc de dh di dm cG cH cI cK cL cM cN cO cQ cR cS cT cU cV cW cZ c4 dn dr dw dx dy dz dA dB dD dF dG dH dI dJ dK dL dM dN dO dP dQ dR dS dU dV dW dX dY dZ ec fF fG fH ee ef ei ej ek en eo ep er eu ew ey fI fJ fK ez eA eB eC eD eE eF eG eH eL eM eN eO eP eR eS eT eU eV eW eX eY eZ e3 e4 e5 e6 e7 e8 e9 fc fe ff fh fk fm gh gi fo fq fu fA fB fC fD iB iC iD iE iF iG iH iI iJ iK iL iM:Value),(∀k,2<=k->k<(az c2.cl d).length->jW c2 (aj (az c2.cl d) k)= -1)->Q (.exit 4) ⟨#[.pointer (some ⟨G,0,none⟩),jJ,lp,.int .i64 lit,.slice (some ⟨iS,0,none⟩) ir iZ,.slice (some ⟨iS,0,none⟩) (kl) iZ,.int .i64 (i:Int),.pointer (some ⟨cb d,0,none⟩),u8,lB,gR,gE,gl,iw,gI,gQ,u16,gm,gn,gp,gD,gq,gr,gu,gv,gw,gx,gy,gz,fN,fO,fP,u32,fQ,fR,fS,fT,fU,fV,fW,fZ,ga,gb,gd,gA,gB,.slice (some ⟨iS,0,none⟩) ir iZ,.int .i64 (ir:Int),.int .i64 (i:Int),bM,bN,bO,bP,bQ,bR,bS,bT,bU,bV,bW,bX,bY,bZ,b5,u64,b6,b7,b8,b9,cc,cg,ck,cm,cn,cp,cr,ct,cu,cv,cw,cz,cA,cB,cC,cD,cE,c7,c8,c9,dc,de,dh,di,dm,cG,cH,cI,cK,cL,cM,cN,cO,cQ,cR,cS,cT,cU,cV,cW,cZ,c4,dn,dr,dw,dx,dy,dz,dA,dB,dD,dF,dG,dH,dI,dJ,dK,dL,dM,dN,dO,dP,dQ,dR,dS,dU,dV,dW,dX,dY,dZ,ec,fF,fG,fH,ee,ef,ei,ej,ek,en,eo,ep,er,eu,ew,ey,fI,fJ,fK,ez,eA,eB,eC,eD,eE,eF,eG,eH,eL,eM,eN,eO,eP,eR,eS,eT,eU,eV,eW,eX,eY,eZ,e3,e4,e5,e6,e7,e8,e9,fc,fe,ff,fh,fk,fm,gh,gi,fo,fq,fu,fA,fB,fC,fD,iB,iC,iD,iE,iF,iG,iH,iI,iJ,iK,iL,iM,jc,jd,je,jf,jg,jh,ji,jj],[]⟩ W):
   Code.wp y_ (.loop KN) Q ⟨#[.pointer (some ⟨G,0,none⟩),jJ,lp,.int .i64 lit,.slice (some ⟨iS,0,none⟩) ir iZ,.slice (some ⟨iS,0,none⟩) kl iZ,.int .i64 (i:Int),.pointer (some ⟨cb d,0,none⟩),.int .i64 (2:Int),lB,gR,gE,gl,iw,gI,gQ,u16,gm,gn,gp,gD,gq,gr,gu,gv,gw,gx,gy,gz,fN,fO,fP,u32,fQ,fR,fS,fT,fU,fV,fW,fZ,ga,gb,gd,gA,gB,.slice (some ⟨iS,0,none⟩) ir iZ,.int .i64 (ir:Int),.int .i64 (i:Int),bM,bN,bO,bP,bQ,bR,bS,bT,bU,bV,bW,bX,bY,bZ,b5,u64,b6,b7,b8,b9,cc,cg,ck,cm,cn,cp,cr,ct,cu,cv,cw,cz,cA,cB,cC,cD,cE,c7,c8,c9,dc,de,dh,di,dm,cG,cH,cI,cK,cL,cM,cN,cO,cQ,cR,cS,cT,cU,cV,cW,cZ,c4,dn,dr,dw,dx,dy,dz,dA,dB,dD,dF,dG,dH,dI,dJ,dK,dL,dM,dN,dO,dP,dQ,dR,dS,dU,dV,dW,dX,dY,dZ,ec,fF,fG,fH,ee,ef,ei,ej,ek,en,eo,ep,er,eu,ew,ey,fI,fJ,fK,ez,eA,eB,eC,eD,eE,eF,eG,eH,eL,eM,eN,eO,eP,eR,eS,eT,eU,eV,eW,eX,eY,eZ,e3,e4,e5,e6,e7,e8,e9,fc,fe,ff,fh,fk,fm,gh,gi,fo,fq,fu,fA,fB,fC,fD,iB,iC,iD,iE,iF,iG,iH,iI,iJ,iK,iL,iM,jc,jd,je,jf,jg,jh,ji,jj],[]⟩ W:=by
 have hm:=hC.len;have I:=l.m C ag;have J:=l.rq ag;have L:2<=m:=by omega
 have M:=hC.cap;have al:=hC.ag;have p:=aa (z_ hm (z_ I (z_ J (z_ L M))));have M:(m:Int)<=(bl:Int):=by omega
 have qz:=aa C;have q:=aa l;have u:=aa (z_ ag hw);have N:=aa hC;have Y:=aa E;have Z:=aa H;clear C l ag hw hC E H hm I J L
 conv=>arg 2;arg 1;whnf
 conv=>arg 4;zeta
 go_loopw [8] (λ v ab=>ab=W/\∃k:Nat,v=.int .i64 k/\2<=k/\k<=m/\∀j,2<=j->j<k->jW c2 (aj (az c2.cl d) j)= -1) (λ v _=>m-(intOf v).toNat)
 case atStart=>exact⟨rfl,2,rfl,Nat.le_refl _,p.o.2.2.2.1,λ j h1 A=>absurd A (by omega)⟩
 case round=>
   obtain⟨rfl,k,rfl,O,P,hk⟩:=hrel;have r:=aa (z_ O (z_ P hk));clear O P hk
   by_cases b:k<m
   ·have B:(k:Int)<(m:Int):=by omega
    have ao:(0:Int)<=(k:Int):=by omega
    have ad:decide ((k:Int)<(m:Int))=true:=decide_eq_true B;have aq:Zw.wrap ((k:Int)+1)=(k:Int)+1:=by rw[h_];have:=p.o;omega
    obtain⟨y,t⟩:∃y,aj (az c2.cl d) k=y:=⟨_,rfl⟩
    have ae:=N.o.kC k b;rw[t] at ae;have R:gW s.c.n y:=by rw[<-t];exact q.o.ok qz.o u.o.1 (by have:=p.o;omega)
    obtain⟨z,D⟩:∃z,jW c2 y=z:=⟨_,rfl⟩
    have S:=aa (q.o.is qz.o R D);have f:=aa b;have g:=aa (z_ t D);clear b t D R
    by_cases T:z= -1
    ·subst T
     go_wp2_with (go_at_call 152;refine S.o.mono ?_;rintro e af ⟨rfl,rfl⟩)
     go_roundw
     case rel=>exact⟨by trivial,k+1,by go_num,by have:=r.o;omega,by have:=f.o;omega,λ j h1 A=>by
      rcases Zn j k with h|h
      ·exact r.o.2.2 j h1 h
      ·obtain rfl:j=k:=by omega
       rw[g.o.1];exact g.o.2⟩
     case measure=>have:=f.o;simp[intOf];omega
    ·have ah:(0:Int)<=z:=by have:=g.o.2;have ar:=q.o.nH.gP.aL.range y;omega
     have au:decide (0<=z)=true:=decide_eq_true ah
     go_upto_if 115 with(go_at_call 152;refine S.o.mono ?_;rintro e af ⟨rfl,rfl⟩)
     refine wp_cond_true rfl ?_;refine Lk qz.o q.o u.o.1 u.o.2 r.o.1 f.o (by rw[g.o.1,g.o.2];exact T) N.o ?_
     intros
     rename_i ak;apply Y.o;exact ak
   ·have B:¬(k:Int)<(m:Int):=by omega
    have ad:decide ((k:Int)<(m:Int))=false:=decide_eq_false B;have f:=aa b;clear b
    go_wp2_with fail
    apply Z.o;intro j h1 A;exact r.o.2.2 j h1 (by have:=p.o;have:=f.o;omega)
theorem mz.app(b:mz K base w G cb F ai s c1 gM aR lit ls k0 i kl kept c2 jH W)(C:rQ G gM c1 s lit ls k0 g0 iS ir iZ)(m:ls[i]? =some d):
  ry (W.alloc (.cells #[.pointer (some ⟨cb d,0,none⟩)] 164)) (some ⟨W.heap.size,0,none⟩) 1 1 [.pointer (some ⟨cb d,0,none⟩)]/\kl+1<=iZ/\(∀j,j<1->((W.alloc (.cells #[.pointer (some ⟨cb d,0,none⟩)] 164)).cell? ⟨iS,kl+j,none⟩).isSome=true)/\(∀j,(W.alloc (.cells #[.pointer (some ⟨cb d,0,none⟩)] 164)).frozen? ⟨iS,j,none⟩=false)/\
  aX K base ((W.alloc (.cells #[.pointer (some ⟨cb d,0,none⟩)] 164)).setCells iS kl [.pointer (some ⟨cb d,0,none⟩)]) G jH cb {s with c:=ko c2 k0 ((kept++[d])++ls.drop (kl+1))}/\aC K W ((W.alloc (.cells #[.pointer (some ⟨cb d,0,none⟩)] 164)).setCells iS kl [.pointer (some ⟨cb d,0,none⟩)]):=by
 have o:i<ls.length:=(x_.1 m).1;have p:=b.Bz;have q:=C.len;have r:=C.cap;have f:=b.gH.below (bB W (.cells #[.pointer (some ⟨cb d,0,none⟩)] 164));have hk:k0<c2.wt.length:=by rw[b.vO C];exact C.hk
 have g:az (ko c2 k0 (kept++ls.drop kl)).wt k0=kept++ls.drop kl:=by show az (c2.wt.set k0 _) k0=_;rw[qw,if_pos ⟨rfl,hk⟩]
 have hlen:(kept++ls.drop kl).length=ls.length:=by rw[t_,b.s6,g_];omega
 have l:=f.1.Dk [d] (b.kQ C) (k:=k0) (by show k0<(ko c2 k0 (kept++ls.drop kl)).wt.length;rw[b.raw C];exact C.hk) kl;refine⟨ry.one (by go_simp),by omega,λ j t=>?_,λ j=>f.1.e.rows.free (b.kQ C) j,?_,f.2.trans l.2⟩
 ·obtain rfl:j=0:=by omega
  have n:kl<(kept++ls.drop kl).length:=by omega
  rw[Nat.add_zero,f.1.Dn (b.kQ C) (j:=kl) (d:=(kept++ls.drop kl)[kl]) (by
   show(az (ko c2 k0 (kept++ls.drop kl)).wt k0)[kl]? =_;rw[g];exact j_ n)]
  rfl
 ·have h1:=l.1;have e:(({s with c:=ko c2 k0 (kept++ls.drop kl)}:an).pQ k0 (s0 (az (({s with c:=ko c2 k0 (kept++ls.drop kl)}:an).c.wt) k0) kl [d]))={s with c:=ko c2 k0 ((kept++[d])++ls.drop (kl+1))}:=by
   show({s with c:=ko (ko c2 k0 (kept++ls.drop kl)) k0 (s0 (az (ko c2 k0 (kept++ls.drop kl)).wt k0) kl [d])}:an)=_;rw[g,Dl];show({s with c:=ko c2 k0 ((kept++ls.drop kl).set kl d)}:an)=_;rw[KF b.s6 (by omega)]
  rw[e] at h1;exact h1
theorem mz.rest(f:mz K base w G cb F ai s c1 gM aR lit ls k0 i kl kept c2 jH W)(C:rQ G gM c1 s lit ls k0 g0 iS ir iZ)(n:ls[i]? =some d){j9:World}(g:aX K base j9 G jH cb {s with c:=ko c2 k0 ((kept++[d])++ls.drop (kl+1))}):
  (∃off,(if iZ=i+1 then some (⟨iS,0,none⟩:Addr) else some ⟨iS,i+1,none⟩)=some ⟨iS,off,none⟩/\∀c,ry j9 (some ⟨iS,off,none⟩) (ir-(i+1)) c (kW cb (ls.drop (i+1))))/\kl+1+(ir-(i+1))<=iZ/\(∀j,j<ir-(i+1)->(j9.cell? ⟨iS,kl+1+j,none⟩).isSome=true)/\(∀j,j9.frozen? ⟨iS,j,none⟩=false)/\
  ∃m:List Nat,m.take (kl+1+(ir-(i+1)))=az c2.wt k0/\kl+1+(ir-(i+1))<=m.length/\aX K base (j9.setCells iS (kl+1) (kW cb (ls.drop (i+1)))) G jH cb {s with c:=ko c2 k0 m}/\aC K j9 (j9.setCells iS (kl+1) (kW cb (ls.drop (i+1)))):=by
 have z:i<ls.length:=(x_.1 n).1;have A:ls[i]=d:=(x_.1 n).2;have N:=f.Bz;have B:=C.len;have O:=C.cap;have hk:k0<c2.wt.length:=by rw[f.vO C];exact C.hk
 obtain⟨b,l⟩:∃r,(kept++[d])++ls.drop (kl+1)=r:=⟨_,rfl⟩
 rw[l] at g;have hlen:b.length=ls.length:=by rw[<-l];simp only[t_,List.length_singleton,g_,f.s6];omega
 have o:az (ko c2 k0 b).wt k0=b:=by show az (c2.wt.set k0 _) k0=_;rw[qw,if_pos ⟨rfl,hk⟩]
 have D:∀j,kl+1<=j->b[j]? =ls[j]? :=λ j E=>by
  have h1:(kept++[d]).length=kl+1:=by rw[t_,f.s6];rfl
  rw[<-l,Zt (by omega),h1,Zu]
  congr 1;omega
 have p:∀j e,b[j]? =some e->j9.cell? ⟨iS,j,none⟩=some (.pointer (some ⟨cb e,0,none⟩)):=λ j e h=>g.Dn (f.kQ C) (by
  show(az (ko c2 k0 b).wt k0)[j]? =_;rw[o];exact h)
 have q:=g.Dk (ls.drop (i+1)) (f.kQ C) (k:=k0) (by show k0<(ko c2 k0 b).wt.length;show k0<(c2.wt.set _ _).length;rw[d_];exact hk) (kl+1);have t:∀off c,(0<ir-(i+1)->off=i+1)->ry j9 (some ⟨iS,off,none⟩) (ir-(i+1)) c (kW cb (ls.drop (i+1))):=λ off c H=>by
  refine⟨by simp[kW];omega,λ I=>⟨iS,off,rfl,λ j u hu=>?_⟩,λ u hu=>?_⟩
  ·simp only[kW,List.getElem?_map,Zu,Option.map_eq_some_iff] at hu;obtain⟨e,he,rfl⟩:=hu;rw[H I];exact p (i+1+j) e (by rw[D _ (by omega)];exact he)
  ·simp only[kW,List.mem_map] at hu;obtain⟨e,_,rfl⟩:=hu;exact⟨_,rfl⟩
 refine⟨?_,by omega,λ j E=>?_,λ j=>g.e.rows.free (f.kQ C) j,s0 b (kl+1) (ls.drop (i+1)),?_,by rw[FU,hlen];omega,?_,q.2⟩
 ·by_cases v:iZ=i+1
  ·exact⟨0,by rw[if_pos v],λ c=>t _ _ (by omega)⟩
  ·exact⟨i+1,by rw[if_neg v],λ c=>t _ _ (by omega)⟩
 ·have J:kl+1+j<b.length:=by omega
  rw[p (kl+1+j) b[kl+1+j] (j_ J)];rfl
 ·have L:kl+1+(ir-(i+1))=kl+1+(ls.drop (i+1)).length:=by rw[g_,B]
  have M:b.take (kl+1)=kept++[d]:=by
   rw[<-l,List.take_left' (by rw[t_,f.s6];rfl)]
  have y:=f.nH.wt;rw[C.kC,List.drop_eq_getElem_cons z,A] at y;rw[L,FV _ _ _ (by rw[g_];omega),M,y,List.append_assoc];rfl
 ·have h1:=q.1;have e:(({s with c:=ko c2 k0 b}:an).pQ k0 (s0 (az (({s with c:=ko c2 k0 b}:an).c.wt) k0) (kl+1) (ls.drop (i+1))))={s with c:=ko c2 k0 (s0 b (kl+1) (ls.drop (i+1)))}:=by
   show({s with c:=ko (ko c2 k0 b) k0 (s0 (az (ko c2 k0 b).wt k0) (kl+1) (ls.drop (i+1)))}:an)=_;rw[o,Dl]
  rw[e] at h1;exact h1
theorem Lm(C:rQ G gM c1 s lit ls k0 g0 iS ir iZ)(l:mz K base w G cb F ai s c1 gM aR lit ls k0 i kl kept c2 jH W)(ag:ls[i]? =some d)(hw:w1 c2 d= -lit)(aw:∀k,2<=k->k<(az c2.cl d).length->jW c2 (aj (az c2.cl d) k)= -1)(P:jW c2 (w0 c2 d)≠1)
  (aA:∀(R S u8 bM bN bO bP bQ bR bS bT bU bV bW bX bY bZ b5 u64 b6 b7 b8 b9 cc cg ck cm cn cp cr ct cu cv cw cz cA cB cC cD cE c7 c8 c9 dc de dh di dm cG cH cI cK cL cM cN cO cQ cR cS cT cU cV cW cZ c4 dn dr dw dx dy dz dA dB dD dF dG dH dI dJ dK dL dM dN dO dP dQ dR dS dU dV dW dX dY dZ ec fF fG fH ee ef ei ej ek en eo ep er eu ew ey fI fJ fK ez eA eB eC eD eE eF eG eH eL eM eN eO eP eR eS eT eU eV eW eX eY eZ e3 e4 e5 e6 e7 e8 e9 fc fe ff fh fk fm gh gi fo fq fu fA fB fC fD iB iC iD iE iF iG iH iI iJ iK iL iM:Value)(c3:Core)(T:Nat->ax)(W':World),mz K base w G cb F ai s c1 gM aR lit ls k0 (i+1) (kl+1) (kept++[d]) c3 T W'->Q .normal ⟨#[.pointer (some ⟨G,0,none⟩),jJ,lp,.int .i64 lit,.slice (some ⟨iS,0,none⟩) ir iZ,.slice (some ⟨iS,0,none⟩) (kl+1) iZ,R,S,u8,lB,gR,gE,gl,iw,gI,gQ,u16,gm,gn,gp,gD,gq,gr,gu,gv,gw,gx,gy,gz,fN,fO,fP,u32,fQ,fR,fS,fT,fU,fV,fW,fZ,ga,gb,gd,gA,gB,.slice (some ⟨iS,0,none⟩) ir iZ,.int .i64 (ir:Int),.int .i64 (i:Int),bM,bN,bO,bP,bQ,bR,bS,bT,bU,bV,bW,bX,bY,bZ,b5,u64,b6,b7,b8,b9,cc,cg,ck,cm,cn,cp,cr,ct,cu,cv,cw,cz,cA,cB,cC,cD,cE,c7,c8,c9,dc,de,dh,di,dm,cG,cH,cI,cK,cL,cM,cN,cO,cQ,cR,cS,cT,cU,cV,cW,cZ,c4,dn,dr,dw,dx,dy,dz,dA,dB,dD,dF,dG,dH,dI,dJ,dK,dL,dM,dN,dO,dP,dQ,dR,dS,dU,dV,dW,dX,dY,dZ,ec,fF,fG,fH,ee,ef,ei,ej,ek,en,eo,ep,er,eu,ew,ey,fI,fJ,fK,ez,eA,eB,eC,eD,eE,eF,eG,eH,eL,eM,eN,eO,eP,eR,eS,eT,eU,eV,eW,eX,eY,eZ,e3,e4,e5,e6,e7,e8,e9,fc,fe,ff,fh,fk,fm,gh,gi,fo,fq,fu,fA,fB,fC,fD,iB,iC,iD,iE,iF,iG,iH,iI,iJ,iK,iL,iM,jc,jd,je,jf,jg,jh,ji,jj],[]⟩ W')
  (aB:∀(a' R S u8 bM bN bO bP bQ bR bS bT bU bV bW bX bY bZ b5 u64 b6 b7 b8 b9 cc cg ck cm cn cp cr ct cu cv cw cz cA cB cC cD cE c7 c8 c9 dc de dh di dm cG cH cI cK cL cM cN cO cQ cR cS cT cU cV cW cZ c4 dn dr dw dx dy dz dA dB dD dF dG dH dI dJ dK dL dM dN dO dP dQ dR dS dU dV dW dX dY dZ ec fF fG fH ee ef ei ej ek en eo ep er eu ew ey fI fJ fK ez eA eB eC eD eE eF eG eH eL eM eN eO eP eR eS eT eU eV eW eX eY eZ e3 e4 e5 e6 e7 e8 e9 fc fe ff fh fk fm gh gi fo fq fu fA fB fC fD iB iC iD iE iF iG iH iI iJ iK iL iM:Value)(c3:Core)(T:Nat->ax)(W':World),j7 F F c3 aR []->nr c3 ai->tG c1 c3->d<c3.cl.length->(∀x∈az c3.cl d,-x∈c3.ay)->aX K base W' G T cb {s with c:=c3}->aC K w W'->Q .ret ⟨#[.pointer (some ⟨G,0,none⟩),jJ,.pointer (some ⟨cb d,0,none⟩),.int .i64 lit,.slice (some ⟨iS,0,none⟩) ir iZ,a',R,S,u8,lB,gR,gE,gl,iw,gI,gQ,u16,gm,gn,gp,gD,gq,gr,gu,gv,gw,gx,gy,gz,fN,fO,fP,u32,fQ,fR,fS,fT,fU,fV,fW,fZ,ga,gb,gd,gA,gB,.slice (some ⟨iS,0,none⟩) ir iZ,.int .i64 (ir:Int),.int .i64 (i:Int),bM,bN,bO,bP,bQ,bR,bS,bT,bU,bV,bW,bX,bY,bZ,b5,u64,b6,b7,b8,b9,cc,cg,ck,cm,cn,cp,cr,ct,cu,cv,cw,cz,cA,cB,cC,cD,cE,c7,c8,c9,dc,de,dh,di,dm,cG,cH,cI,cK,cL,cM,cN,cO,cQ,cR,cS,cT,cU,cV,cW,cZ,c4,dn,dr,dw,dx,dy,dz,dA,dB,dD,dF,dG,dH,dI,dJ,dK,dL,dM,dN,dO,dP,dQ,dR,dS,dU,dV,dW,dX,dY,dZ,ec,fF,fG,fH,ee,ef,ei,ej,ek,en,eo,ep,er,eu,ew,ey,fI,fJ,fK,ez,eA,eB,eC,eD,eE,eF,eG,eH,eL,eM,eN,eO,eP,eR,eS,eT,eU,eV,eW,eX,eY,eZ,e3,e4,e5,e6,e7,e8,e9,fc,fe,ff,fh,fk,fm,gh,gi,fo,fq,fu,fA,fB,fC,fD,iB,iC,iD,iE,iF,iG,iH,iI,iJ,iK,iL,iM,jc,jd,je,jf,jg,jh,ji,jj],[]⟩ W'):
   Code.wp y_ KM Q ⟨#[.pointer (some ⟨G,0,none⟩),jJ,lp,.int .i64 lit,.slice (some ⟨iS,0,none⟩) ir iZ,.slice (some ⟨iS,0,none⟩) kl iZ,.int .i64 (i:Int),.pointer (some ⟨cb d,0,none⟩),u8,lB,gR,gE,gl,iw,gI,gQ,u16,gm,gn,gp,gD,gq,gr,gu,gv,gw,gx,gy,gz,fN,fO,fP,u32,fQ,fR,fS,fT,fU,fV,fW,fZ,ga,gb,gd,gA,gB,.slice (some ⟨iS,0,none⟩) ir iZ,.int .i64 (ir:Int),.int .i64 (i:Int),bM,bN,bO,bP,bQ,bR,bS,bT,bU,bV,bW,bX,bY,bZ,b5,u64,b6,b7,b8,b9,cc,cg,ck,cm,cn,cp,cr,ct,cu,cv,cw,cz,cA,cB,cC,cD,cE,c7,c8,c9,dc,de,dh,di,dm,cG,cH,cI,cK,cL,cM,cN,cO,cQ,cR,cS,cT,cU,cV,cW,cZ,c4,dn,dr,dw,dx,dy,dz,dA,dB,dD,dF,dG,dH,dI,dJ,dK,dL,dM,dN,dO,dP,dQ,dR,dS,dU,dV,dW,dX,dY,dZ,ec,fF,fG,fH,ee,ef,ei,ej,ek,en,eo,ep,er,eu,ew,ey,fI,fJ,fK,ez,eA,eB,eC,eD,eE,eF,eG,eH,eL,eM,eN,eO,eP,eR,eS,eT,eU,eV,eW,eX,eY,eZ,e3,e4,e5,e6,e7,e8,e9,fc,fe,ff,fh,fk,fm,gh,gi,fo,fq,fu,fA,fB,fC,fD,iB,iC,iD,iE,iF,iG,iH,iI,iJ,iK,iL,iM,jc,jd,je,jf,jg,jh,ji,jj],[]⟩ W:=by
 have hm:=l.m C ag;have aD:=l.rq ag;have H:i<ls.length:=(x_.1 ag).1;have aE:=l.Bz;have p:=aa (l.app C ag);have aF:=C.len;have aH:=C.lb;have bp:kl<200000:=by omega
 obtain⟨b,I⟩:∃x,w0 c2 d=x:=⟨_,rfl⟩
 obtain⟨z,J⟩:∃z,jW c2 b=z:=⟨_,rfl⟩
 have U:gW s.c.n b:=by rw[<-I];exact l.ok C ag (by omega)
 have aI: -60000<=b/\b<=60000:=by have:=U.2;have:=C.aq;unfold aG at*;omega
 have rg:=l.nH.gP.aL.range b;rw[I,J] at P;rw[J] at rg;have D:=aa (z_ C (z_ l (z_ ag (z_ hw (z_ aw (z_ hm (z_ aD (z_ H (z_ aE (z_ aF (z_ aH (z_ I (z_ J (z_ U (z_ aI (z_ P rg))))))))))))))));have ba:=aa aA;have bb:=aa aB;clear C l ag hw aw hm aD H aE aF aH I J U aI P rg aA aB
 conv=>arg 2;whnf
 conv=>arg 4;zeta
 go_upto_region 20 with(at_builtin;refine Dj rfl (.tmp 170) (.tmp 172) rfl iS kl iZ W.heap.size 0 1 1 _ rfl rfl p.o.1 p.o.2.1 p.o.2.2.1 p.o.2.2.2.1 ?_)
 have q:=p.o.2.2.2.2.1;have E:=p.o.2.2.2.2.2;have bq:kl+1<=iZ:=p.o.2.1;generalize (W.alloc (.cells #[.pointer (some ⟨cb d,0,none⟩)] 164)).setCells iS kl [.pointer (some ⟨cb d,0,none⟩)]=y at q E⊢;clear p;obtain⟨bz,m,bc,r⟩:=q.yP (d:=d) D.o.2.2.2.2.2.2.1.1 (by have:=D.o.2.2.2.2.2.2.1.2;show 1<=(az c2.cl d).length;omega);have r:yO base y G jH cb d bz m bc (az c2.cl d):=r;have br:2<=m:=by have:=r.len;have:=D.o.2.2.2.2.2.2.1.2;omega
 have bd:=r.ag;have a0:=r.kC 0 (by omega);rw[show aj (az c2.cl d) 0=b from D.o.2.2.2.2.2.2.2.2.2.2.2.1] at a0;have bs:(0:Int)<(m:Int):=by omega
 have q:=aa q;have E:=aa E;have r:=aa r;have L:fE ((ko c2 k0 ((kept++[d])++ls.drop (kl+1))).n=s.c.n):=aa (D.o.2.1.mu D.o.1);have X:fE (Calls y_ 152 #[.pointer (some ⟨G,0,none⟩),.int .i64 b] y λ e w'=>e=.returned (.int .i8 z)/\y=w'):=aa (by
   have h1:=Bw q.o (Dp D.o.2.1.nH.gP.aL) (show(ko c2 k0 ((kept++[d])++ls.drop (kl+1))).n<=60000 by rw[L.o];exact D.o.1.aq) (x:=b) (by show gW (ko c2 k0 ((kept++[d])++ls.drop (kl+1))).n b;rw[L.o];exact D.o.2.2.2.2.2.2.2.2.2.2.2.2.2.1);rw[show jW (({s with c:=ko c2 k0 ((kept++[d])++ls.drop (kl+1))}:an).c) b=z from D.o.2.2.2.2.2.2.2.2.2.2.2.2.1] at h1;exact h1)
 by_cases bf:z= -1
 · have Y:z<0:=by omega
   have bg:decide (z<0)=true:=decide_eq_true Y;have aJ:=D.o.2.2.2.2.2.2.2.1;have aK:=D.o.2.2.2.2.2.2.2.2.2.1;have aM:=D.o.2.2.2.2.2.2.2.2.2.2.1;have aN:=D.o.1.cap;have li:(i:Int)+1<=(ir:Int):=by omega
   have lc:(ir:Int)<=(iZ:Int):=by omega
   have bt:(0:Int)<=(i:Int)+1:=by omega
   have bu:Zw.wrap ((i:Int)+1)=(i:Int)+1:=by rw[h_];omega
   have bw:=aa (z_ aJ (z_ aK (z_ aM aN)));clear aJ aK aM aN;obtain⟨⟨off,aO,aP⟩,aQ,aS,aT,bx,t⟩:=D.o.2.1.rest D.o.1 D.o.2.2.1 q.o;have aU:=aa aP;have Z:=aa (z_ aS aT);have t:=aa t;have ab:=aa aO;clear aP aS aT aO
   go_upto_region 22 with(first|(go_at_call 152;refine X.o.mono ?_;rintro e aV ⟨rfl,rfl⟩;dsimp only)|(at_builtin;refine Dj rfl (.tmp 183) (.tmp 187) rfl iS (kl+1) iZ iS off (ir-(i+1)) (iZ-(i+1)) _ rfl (congrArg (λ A=>Value.slice A (ir-(i+1)) (iZ-(i+1))) ab.o) (aU.o _) aQ Z.o.1 Z.o.2 ?_))
   rw[ab.o];have g:=aa t.o.2.2.1;have B:=aa (E.o.trans t.o.2.2.2);have ad:=aa (z_ t.o.1 t.o.2.1);clear t aU Z ab;obtain⟨ae,af⟩:∃n,kl+1+(ir-(i+1))=n:=⟨_,rfl⟩
   rw[af] at ad aQ⊢;have M:=D.o.2.1.bK D.o.1;have ah:=g.o.e.rm 1 M (g.o.e.jY.trans (by show(c2.wt.set _ _).length=2*s.c.n+2;rw[d_];exact D.o.2.1.vO D.o.1)) rfl;have f0:=g.o.e.rows.free M k0;have aW:fE (k0<c2.wt.length):=aa (by rw[D.o.2.1.vO D.o.1];exact D.o.1.hk);have aY:=D.o.2.1.hw.trans D.o.1.ag;have bA:(k0:Int)<2*(s.c.n:Int)+2:=by have:=D.o.1.hk;omega
   have aZ:fE (∀w:World,Calls y_ 181 #[.int .i64 lit] w λ e w'=>e=.returned (.int .i64 (k0:Int))/\w=w'):=aa (λ w=>by have:=FY D.o.1.ok D.o.1.aq w;rw[D.o.1.kC] at this;exact this);have N:=aa (z_ M aY);have bB:=aa af;clear M aY af;obtain⟨ak,a6⟩:∃ak,kW cb (ls.drop (i+1))=ak:=⟨_,rfl⟩
   rw[a6] at g B ah f0⊢;clear a6;obtain⟨u,a7⟩:∃u,World.setCells y iS (kl+1) ak=u:=⟨_,rfl⟩
   rw[a7] at g B ah f0⊢;have al:u.cell? ⟨g0,k0,none⟩=some (.slice (some ⟨iS,0,none⟩) ir iZ):=by have:=g.o.e.xY N.o.1 (k:=k0) (by show k0<(c2.wt.set _ _).length;rw[d_];exact aW.o);rw[N.o.2] at this;exact this
   clear a7 bd a0 q X;refine w_ 8 (by kernel_rfl) (by kernel_rfl) ?_;simp only[v_,r_,u_,s_]
   iterate 5 still_step
   still_call ((aZ.o _).mono (λ e w' h=>⟨h.1,h.2.symm⟩))
   iterate 2 still_step
   refine q_ ?_;change wpList _ _ _ _ _ u.drew;have f0:u.drew.frozen? ⟨g0,k0,none⟩=false:=f0;have al:u.drew.cell? ⟨g0,k0,none⟩=some (.slice (some ⟨iS,0,none⟩) ir iZ):=al
   go_upto_region 23 with fail
   have f:=Bx (c2:=c2) g.o N.o.1 aW.o N.o.2 ad.o.1 ad.o.2 rfl;have ao:=B.o.trans f.2;have f:=f.1;generalize (u.setCell ⟨g0,k0,none⟩ (.slice (some ⟨iS,0,none⟩) ae iZ)).drew=a8 at f ao⊢;clear f0 al ah aZ g B;obtain⟨bj,j5,bk,ar⟩:∃A n c,iN jH (iA k0) ⟨some ⟨iS,0,none⟩,ae,iZ⟩ 4=⟨A,n,c⟩:=⟨_,_,_,rfl⟩
   have bl:j5=c2.ay.length:=by have:=f.e.j5;rw[ar] at this;exact this
   have bC:a8.cell? ⟨G,5,none⟩=some (.slice bj j5 bk):=by have:=f.e.ku (k:=5) (v:=(iN jH (iA k0) ⟨some ⟨iS,0,none⟩,ae,iZ⟩ 4).v) rfl;rw[ar] at this;exact this
   have f7:=f.e.free 7;have bD:a8.cell? ⟨G,7,none⟩=some (.int .i64 (c2.ag:Int)):=f.e.ku (k:=7) (v:=.int .i64 (c2.ag:Int)) rfl;have O:=f.Bi j5;have bn:=aa (ao.trans O.2);have O:=aa O.1;have f:=aa f;clear ar ao bl
   go_wp2_with fail
   have j:ls[i]'(D.o.2.2.2.2.2.2.2.1)=d:=(x_.1 D.o.2.2.1).2;have av:=D.o.2.1.nH.JU D.o.2.2.2.2.2.2.2.1 (by rw[j];exact D.o.2.2.2.1) (by rw[j];exact D.o.2.2.2.2.1) (by rw[j,D.o.2.2.2.2.2.2.2.2.2.2.2.1,D.o.2.2.2.2.2.2.2.2.2.2.2.2.1];exact bf);rw[j] at av;have lY:=D.o.2.1.nH.sm;apply bb.o (c3:={c2 with ag:=j5});exact av.1.yM j5;exact D.o.2.1.nH.8.same rfl rfl rfl;exact⟨lY.n,lY.st,lY.len,lY.kS,lY.Be,lY.ay,lY.cls,lY.v0,λ w=>lY.qD w⟩;exact D.o.2.2.2.2.2.2.1.1;exact av.2;exact O.o;exact D.o.2.1.iR.trans bn.o
 · have z0:fE (z=0):=aa (by have:=D.o;omega);have Y:¬z<0:=by have:=z0.o;omega
   have bg:decide (z<0)=false:=decide_eq_false Y;have bo:fE (Calls y_ 156 #[.pointer (some ⟨G,0,none⟩),.int .i64 b,.pointer (some ⟨cb d,0,none⟩)] y λ e w'=>e=.returned (.tuple #[])/\∃h':ax,aX K base w' G (iN jH 4 h') cb {s with c:=k6 (ko c2 k0 ((kept++[d])++ls.drop (kl+1))) b (some d)}/\aC K y w'):=aa (by
    have h1:=Bv q.o b (some d) (Dp D.o.2.1.nH.gP.aL) (by show gW (ko c2 k0 ((kept++[d])++ls.drop (kl+1))).n b;rw[L.o];exact D.o.2.2.2.2.2.2.2.2.2.2.2.2.2.1) (show(ko c2 k0 ((kept++[d])++ls.drop (kl+1))).n<=60000 by rw[L.o];exact D.o.1.aq) (by show c2.st.length<=1000000;rw[D.o.2.1.nH.sm.st,D.o.1.st];exact D.o.1.jA);exact h1)
   go_wp2_with (first|(go_at_call 152;refine X.o.mono ?_;rintro e aV ⟨rfl,rfl⟩;dsimp only)|(go_at_call 156;refine bo.o.mono ?_;rintro e aV ⟨rfl,h',g,B⟩;dsimp only))
   apply ba.o;have H:=D.o.2.2.2.2.2.2.2.1;have j:ls[i]=d:=(x_.1 D.o.2.2.1).2;have V:=D.o.2.1.nH.set H (by rw[j];exact D.o.2.2.2.1) (by rw[j];exact D.o.2.2.2.2.1) (by rw[j,D.o.2.2.2.2.2.2.2.2.2.2.2.1,D.o.2.2.2.2.2.2.2.2.2.2.2.2.1];exact z0.o);rw[j,D.o.2.2.2.2.2.2.2.2.2.2.2.1] at V;exact⟨V,by rw[t_,D.o.2.1.s6];rfl,g,(bh _ _ (by unfold iA;omega)).trans D.o.2.1.hw,(bh _ _ (by omega)).trans D.o.2.1.au,D.o.2.1.iR.trans (E.o.trans B)⟩
noncomputable def Lo:Code:=mU (mU F2)
theorem Gg(C:rQ G gM c1 s lit ls k0 g0 iS ir iZ)(b:mz K base w G cb F ai s c1 gM aR lit ls k0 i kl kept c2 jH W)(ag:ls[i]? =some d)(hw:w1 c2 d= -lit)
  (E:∀(k l u8 bM bN bO bP bQ bR bS bT bU bV bW bX bY bZ b5 u64 b6 b7 b8 b9 cc cg ck cm cn cp cr ct cu cv cw cz cA cB cC cD cE c7 c8 c9 dc de dh di dm cG cH cI cK cL cM cN cO cQ cR cS cT cU cV cW cZ c4 dn dr dw dx dy dz dA dB dD dF dG dH dI dJ dK dL dM dN dO dP dQ dR dS dU dV dW dX dY dZ ec fF fG fH ee ef ei ej ek en eo ep er eu ew ey fI fJ fK ez eA eB eC eD eE eF eG eH eL eM eN eO eP eR eS eT eU eV eW eX eY eZ e3 e4 e5 e6 e7 e8 e9 fc fe ff fh fk fm gh gi fo fq fu fA fB fC fD iB iC iD iE iF iG iH iI iJ iK iL iM:Value)(H:Nat)(N:List Nat)(c3:Core)(p:Nat->ax)(W':World),mz K base w G cb F ai s c1 gM aR lit ls k0 (i+1) H N c3 p W'->Q (.exit 3) ⟨#[.pointer (some ⟨G,0,none⟩),jJ,lp,.int .i64 lit,.slice (some ⟨iS,0,none⟩) ir iZ,.slice (some ⟨iS,0,none⟩) (H) iZ,k,l,u8,lB,gR,gE,gl,iw,gI,gQ,u16,gm,gn,gp,gD,gq,gr,gu,gv,gw,gx,gy,gz,fN,fO,fP,u32,fQ,fR,fS,fT,fU,fV,fW,fZ,ga,gb,gd,gA,gB,.slice (some ⟨iS,0,none⟩) ir iZ,.int .i64 (ir:Int),.int .i64 (i:Int),bM,bN,bO,bP,bQ,bR,bS,bT,bU,bV,bW,bX,bY,bZ,b5,u64,b6,b7,b8,b9,cc,cg,ck,cm,cn,cp,cr,ct,cu,cv,cw,cz,cA,cB,cC,cD,cE,c7,c8,c9,dc,de,dh,di,dm,cG,cH,cI,cK,cL,cM,cN,cO,cQ,cR,cS,cT,cU,cV,cW,cZ,c4,dn,dr,dw,dx,dy,dz,dA,dB,dD,dF,dG,dH,dI,dJ,dK,dL,dM,dN,dO,dP,dQ,dR,dS,dU,dV,dW,dX,dY,dZ,ec,fF,fG,fH,ee,ef,ei,ej,ek,en,eo,ep,er,eu,ew,ey,fI,fJ,fK,ez,eA,eB,eC,eD,eE,eF,eG,eH,eL,eM,eN,eO,eP,eR,eS,eT,eU,eV,eW,eX,eY,eZ,e3,e4,e5,e6,e7,e8,e9,fc,fe,ff,fh,fk,fm,gh,gi,fo,fq,fu,fA,fB,fC,fD,iB,iC,iD,iE,iF,iG,iH,iI,iJ,iK,iL,iM,jc,jd,je,jf,jg,jh,ji,jj],[]⟩ W')
  (I:∀(k l u8 bM bN bO bP bQ bR bS bT bU bV bW bX bY bZ b5 u64 b6 b7 b8 b9 cc cg ck cm cn cp cr ct cu cv cw cz cA cB cC cD cE c7 c8 c9 dc de dh di dm cG cH cI cK cL cM cN cO cQ cR cS cT cU cV cW cZ c4 dn dr dw dx dy dz dA dB dD dF dG dH dI dJ dK dL dM dN dO dP dQ dR dS dU dV dW dX dY dZ ec fF fG fH ee ef ei ej ek en eo ep er eu ew ey fI fJ fK ez eA eB eC eD eE eF eG eH eL eM eN eO eP eR eS eT eU eV eW eX eY eZ e3 e4 e5 e6 e7 e8 e9 fc fe ff fh fk fm gh gi fo fq fu fA fB fC fD iB iC iD iE iF iG iH iI iJ iK iL iM:Value)(c3:Core)(p:Nat->ax)(W':World),mz K base w G cb F ai s c1 gM aR lit ls k0 (i+1) (kl+1) (kept++[d]) c3 p W'->Q .normal ⟨#[.pointer (some ⟨G,0,none⟩),jJ,lp,.int .i64 lit,.slice (some ⟨iS,0,none⟩) ir iZ,.slice (some ⟨iS,0,none⟩) (kl+1) iZ,k,l,u8,lB,gR,gE,gl,iw,gI,gQ,u16,gm,gn,gp,gD,gq,gr,gu,gv,gw,gx,gy,gz,fN,fO,fP,u32,fQ,fR,fS,fT,fU,fV,fW,fZ,ga,gb,gd,gA,gB,.slice (some ⟨iS,0,none⟩) ir iZ,.int .i64 (ir:Int),.int .i64 (i:Int),bM,bN,bO,bP,bQ,bR,bS,bT,bU,bV,bW,bX,bY,bZ,b5,u64,b6,b7,b8,b9,cc,cg,ck,cm,cn,cp,cr,ct,cu,cv,cw,cz,cA,cB,cC,cD,cE,c7,c8,c9,dc,de,dh,di,dm,cG,cH,cI,cK,cL,cM,cN,cO,cQ,cR,cS,cT,cU,cV,cW,cZ,c4,dn,dr,dw,dx,dy,dz,dA,dB,dD,dF,dG,dH,dI,dJ,dK,dL,dM,dN,dO,dP,dQ,dR,dS,dU,dV,dW,dX,dY,dZ,ec,fF,fG,fH,ee,ef,ei,ej,ek,en,eo,ep,er,eu,ew,ey,fI,fJ,fK,ez,eA,eB,eC,eD,eE,eF,eG,eH,eL,eM,eN,eO,eP,eR,eS,eT,eU,eV,eW,eX,eY,eZ,e3,e4,e5,e6,e7,e8,e9,fc,fe,ff,fh,fk,fm,gh,gi,fo,fq,fu,fA,fB,fC,fD,iB,iC,iD,iE,iF,iG,iH,iI,iJ,iK,iL,iM,jc,jd,je,jf,jg,jh,ji,jj],[]⟩ W')
  (J:∀(O k l u8 bM bN bO bP bQ bR bS bT bU bV bW bX bY bZ b5 u64 b6 b7 b8 b9 cc cg ck cm cn cp cr ct cu cv cw cz cA cB cC cD cE c7 c8 c9 dc de dh di dm cG cH cI cK cL cM cN cO cQ cR cS cT cU cV cW cZ c4 dn dr dw dx dy dz dA dB dD dF dG dH dI dJ dK dL dM dN dO dP dQ dR dS dU dV dW dX dY dZ ec fF fG fH ee ef ei ej ek en eo ep er eu ew ey fI fJ fK ez eA eB eC eD eE eF eG eH eL eM eN eO eP eR eS eT eU eV eW eX eY eZ e3 e4 e5 e6 e7 e8 e9 fc fe ff fh fk fm gh gi fo fq fu fA fB fC fD iB iC iD iE iF iG iH iI iJ iK iL iM:Value)(c3:Core)(p:Nat->ax)(W':World),j7 F F c3 aR []->nr c3 ai->tG c1 c3->d<c3.cl.length->(∀x∈az c3.cl d,-x∈c3.ay)->aX K base W' G p cb {s with c:=c3}->aC K w W'->Q .ret ⟨#[.pointer (some ⟨G,0,none⟩),jJ,.pointer (some ⟨cb d,0,none⟩),.int .i64 lit,.slice (some ⟨iS,0,none⟩) ir iZ,O,k,l,u8,lB,gR,gE,gl,iw,gI,gQ,u16,gm,gn,gp,gD,gq,gr,gu,gv,gw,gx,gy,gz,fN,fO,fP,u32,fQ,fR,fS,fT,fU,fV,fW,fZ,ga,gb,gd,gA,gB,.slice (some ⟨iS,0,none⟩) ir iZ,.int .i64 (ir:Int),.int .i64 (i:Int),bM,bN,bO,bP,bQ,bR,bS,bT,bU,bV,bW,bX,bY,bZ,b5,u64,b6,b7,b8,b9,cc,cg,ck,cm,cn,cp,cr,ct,cu,cv,cw,cz,cA,cB,cC,cD,cE,c7,c8,c9,dc,de,dh,di,dm,cG,cH,cI,cK,cL,cM,cN,cO,cQ,cR,cS,cT,cU,cV,cW,cZ,c4,dn,dr,dw,dx,dy,dz,dA,dB,dD,dF,dG,dH,dI,dJ,dK,dL,dM,dN,dO,dP,dQ,dR,dS,dU,dV,dW,dX,dY,dZ,ec,fF,fG,fH,ee,ef,ei,ej,ek,en,eo,ep,er,eu,ew,ey,fI,fJ,fK,ez,eA,eB,eC,eD,eE,eF,eG,eH,eL,eM,eN,eO,eP,eR,eS,eT,eU,eV,eW,eX,eY,eZ,e3,e4,e5,e6,e7,e8,e9,fc,fe,ff,fh,fk,fm,gh,gi,fo,fq,fu,fA,fB,fC,fD,iB,iC,iD,iE,iF,iG,iH,iI,iJ,iK,iL,iM,jc,jd,je,jf,jg,jh,ji,jj],[]⟩ W'):
   Code.wp y_ Lo Q ⟨#[.pointer (some ⟨G,0,none⟩),jJ,lp,.int .i64 lit,.slice (some ⟨iS,0,none⟩) ir iZ,.slice (some ⟨iS,0,none⟩) kl iZ,.int .i64 (i:Int),.pointer (some ⟨cb d,0,none⟩),u8,lB,gR,gE,gl,iw,gI,gQ,u16,gm,gn,gp,gD,gq,gr,gu,gv,gw,gx,gy,gz,fN,fO,fP,u32,fQ,fR,fS,fT,fU,fV,fW,fZ,ga,gb,gd,gA,gB,.slice (some ⟨iS,0,none⟩) ir iZ,.int .i64 (ir:Int),.int .i64 (i:Int),bM,bN,bO,bP,bQ,bR,bS,bT,bU,bV,bW,bX,bY,bZ,b5,u64,b6,b7,b8,b9,cc,cg,ck,cm,cn,cp,cr,ct,cu,cv,cw,cz,cA,cB,cC,cD,cE,c7,c8,c9,dc,de,dh,di,dm,cG,cH,cI,cK,cL,cM,cN,cO,cQ,cR,cS,cT,cU,cV,cW,cZ,c4,dn,dr,dw,dx,dy,dz,dA,dB,dD,dF,dG,dH,dI,dJ,dK,dL,dM,dN,dO,dP,dQ,dR,dS,dU,dV,dW,dX,dY,dZ,ec,fF,fG,fH,ee,ef,ei,ej,ek,en,eo,ep,er,eu,ew,ey,fI,fJ,fK,ez,eA,eB,eC,eD,eE,eF,eG,eH,eL,eM,eN,eO,eP,eR,eS,eT,eU,eV,eW,eX,eY,eZ,e3,e4,e5,e6,e7,e8,e9,fc,fe,ff,fh,fk,fm,gh,gi,fo,fq,fu,fA,fB,fC,fD,iB,iC,iD,iE,iF,iG,iH,iI,iJ,iK,iL,iM,jc,jd,je,jf,jg,jh,ji,jj],[]⟩ W:=by
 have u:=b.rq ag;have v:i<ls.length:=(x_.1 ag).1;have g:=aa (b.app C ag);obtain⟨bz,m,P,f⟩:=b.gH.yP (d:=d) u.1 (by show 1<=(az c2.cl d).length;omega);have f:yO base W G jH cb d bz m P (az c2.cl d):=f;obtain⟨j,q⟩:∃x,w0 c2 d=x:=⟨_,rfl⟩
 obtain⟨z,r⟩:∃z,jW c2 j=z:=⟨_,rfl⟩
 have t:gW s.c.n j:=by rw[<-q];exact b.ok C ag (by omega)
 have rg:=b.nH.gP.aL.range j;rw[r] at rg;have ab:2<=m:=by have:=f.len;omega
 have ad:=f.ag;have a0:=f.kC 0 (by omega);rw[show aj (az c2.cl d) 0=j from q] at a0;have ae:(0:Int)<(m:Int):=by omega
 have L:=aa ((b.is C t r).mono λ e w' h=>z_ h.1 h.2.symm);have f:=aa f;have R:fE (z=1->mz K base w G cb F ai s c1 gM aR lit ls k0 (i+1) (kl+1) (kept++[d]) c2 jH ((W.alloc (.cells #[.pointer (some ⟨cb d,0,none⟩)] 164)).setCells iS kl [.pointer (some ⟨cb d,0,none⟩)])):=aa (λ h1=>by
   have y:ls[i]=d:=(x_.1 ag).2;have hl:gW c2.n j:=by rw[b.mu C];exact t
   have V:=b.nH.keep v (by rw[y];exact hw) (by rw[y,q];exact(b.nH.gP.aL.pos j hl).1 (r.trans h1));rw[y] at V;exact⟨V,by rw[t_,b.s6];rfl,g.o.2.2.2.2.1,b.hw,b.au,b.iR.trans g.o.2.2.2.2.2⟩)
 have D:=aa (z_ C (z_ b (z_ ag (z_ hw (z_ u (z_ v (z_ q (z_ r (z_ t rg)))))))));have M:=aa E;have S:=aa I;have T:=aa J;clear C b ag hw u v q r t rg E I J
 conv=>arg 2;whnf
 conv=>arg 4;zeta
 by_cases h1:z=1
 · have A:0<z:=by omega
   have U:decide (0<z)=true:=decide_eq_true A;have H1:=aa h1;clear h1
   go_wp2_with (first|(go_at_call 152;refine L.o.mono ?_;rintro e X ⟨rfl,rfl⟩;dsimp only)|(at_builtin;refine Dj rfl (.tmp 93) (.tmp 95) rfl iS kl iZ W.heap.size 0 1 1 _ rfl rfl g.o.1 g.o.2.1 g.o.2.2.1 g.o.2.2.2.1 ?_))
   apply M.o;exact R.o H1.o
 · have A:¬0<z:=by have:=D.o;omega
   have U:decide (0<z)=false:=decide_eq_false A;have H1:=aa h1;clear h1
   go_upto_block 4 with(first|(go_at_call 152;refine L.o.mono ?_;rintro e X ⟨rfl,rfl⟩;dsimp only))
   refine wp_block ?_;rename_i af Y;refine Ll D.o.1 D.o.2.1 D.o.2.2.1 D.o.2.2.2.1 f.o ?_ ?_
   ·intros
    rename_i B;apply M.o;exact B
   ·intros
    rename_i Z;refine Y _ _ ?_;refine Lm D.o.1 D.o.2.1 D.o.2.2.1 D.o.2.2.2.1 Z (by rw[D.o.2.2.2.2.2.2.1,D.o.2.2.2.2.2.2.2.1];exact H1.o) ?_ ?_
    ·intros
     rename_i B;apply S.o;exact B
    ·intros
     apply T.o<;>assumption
theorem Lp{mA mF:Value}(C:rQ G gM c1 s lit ls k0 g0 iS ir iZ)(e:mz K base w G cb F ai s c1 gM aR lit ls k0 i kl kept c2 jH W)
  (he:∀(mA mF u8 bM bN bO bP bQ bR bS bT bU bV bW bX bY bZ b5 u64 b6 b7 b8 b9 cc cg ck cm cn cp cr ct cu cv cw cz cA cB cC cD cE c7 c8 c9 dc de dh di dm cG cH cI cK cL cM cN cO cQ cR cS cT cU cV cW cZ c4 dn dr dw dx dy dz dA dB dD dF dG dH dI dJ dK dL dM dN dO dP dQ dR dS dU dV dW dX dY dZ ec fF fG fH ee ef ei ej ek en eo ep er eu ew ey fI fJ fK ez eA eB eC eD eE eF eG eH eL eM eN eO eP eR eS eT eU eV eW eX eY eZ e3 e4 e5 e6 e7 e8 e9 fc fe ff fh fk fm gh gi fo fq fu fA fB fC fD iB iC iD iE iF iG iH iI iJ iK iL iM:Value),i=ls.length->Q (.exit 2) ⟨#[.pointer (some ⟨G,0,none⟩),jJ,lp,.int .i64 lit,.slice (some ⟨iS,0,none⟩) ir iZ,.slice (some ⟨iS,0,none⟩) (kl) iZ,mA,mF,u8,lB,gR,gE,gl,iw,gI,gQ,u16,gm,gn,gp,gD,gq,gr,gu,gv,gw,gx,gy,gz,fN,fO,fP,u32,fQ,fR,fS,fT,fU,fV,fW,fZ,ga,gb,gd,gA,gB,.slice (some ⟨iS,0,none⟩) ir iZ,.int .i64 (ir:Int),.int .i64 (i:Int),bM,bN,bO,bP,bQ,bR,bS,bT,bU,bV,bW,bX,bY,bZ,b5,u64,b6,b7,b8,b9,cc,cg,ck,cm,cn,cp,cr,ct,cu,cv,cw,cz,cA,cB,cC,cD,cE,c7,c8,c9,dc,de,dh,di,dm,cG,cH,cI,cK,cL,cM,cN,cO,cQ,cR,cS,cT,cU,cV,cW,cZ,c4,dn,dr,dw,dx,dy,dz,dA,dB,dD,dF,dG,dH,dI,dJ,dK,dL,dM,dN,dO,dP,dQ,dR,dS,dU,dV,dW,dX,dY,dZ,ec,fF,fG,fH,ee,ef,ei,ej,ek,en,eo,ep,er,eu,ew,ey,fI,fJ,fK,ez,eA,eB,eC,eD,eE,eF,eG,eH,eL,eM,eN,eO,eP,eR,eS,eT,eU,eV,eW,eX,eY,eZ,e3,e4,e5,e6,e7,e8,e9,fc,fe,ff,fh,fk,fm,gh,gi,fo,fq,fu,fA,fB,fC,fD,iB,iC,iD,iE,iF,iG,iH,iI,iJ,iK,iL,iM,jc,jd,je,jf,jg,jh,ji,jj],[]⟩ W)
  (aq:∀(mA mF u8 bM bN bO bP bQ bR bS bT bU bV bW bX bY bZ b5 u64 b6 b7 b8 b9 cc cg ck cm cn cp cr ct cu cv cw cz cA cB cC cD cE c7 c8 c9 dc de dh di dm cG cH cI cK cL cM cN cO cQ cR cS cT cU cV cW cZ c4 dn dr dw dx dy dz dA dB dD dF dG dH dI dJ dK dL dM dN dO dP dQ dR dS dU dV dW dX dY dZ ec fF fG fH ee ef ei ej ek en eo ep er eu ew ey fI fJ fK ez eA eB eC eD eE eF eG eH eL eM eN eO eP eR eS eT eU eV eW eX eY eZ e3 e4 e5 e6 e7 e8 e9 fc fe ff fh fk fm gh gi fo fq fu fA fB fC fD iB iC iD iE iF iG iH iI iJ iK iL iM:Value)(N:Nat)(af:List Nat)(c3:Core)(z:Nat->ax)(W':World),i<ls.length->mz K base w G cb F ai s c1 gM aR lit ls k0 (i+1) N af c3 z W'->Q .normal ⟨#[.pointer (some ⟨G,0,none⟩),jJ,lp,.int .i64 lit,.slice (some ⟨iS,0,none⟩) ir iZ,.slice (some ⟨iS,0,none⟩) (N) iZ,mA,mF,u8,lB,gR,gE,gl,iw,gI,gQ,u16,gm,gn,gp,gD,gq,gr,gu,gv,gw,gx,gy,gz,fN,fO,fP,u32,fQ,fR,fS,fT,fU,fV,fW,fZ,ga,gb,gd,gA,gB,.slice (some ⟨iS,0,none⟩) ir iZ,.int .i64 (ir:Int),.int .i64 ((i:Int)+1),bM,bN,bO,bP,bQ,bR,bS,bT,bU,bV,bW,bX,bY,bZ,b5,u64,b6,b7,b8,b9,cc,cg,ck,cm,cn,cp,cr,ct,cu,cv,cw,cz,cA,cB,cC,cD,cE,c7,c8,c9,dc,de,dh,di,dm,cG,cH,cI,cK,cL,cM,cN,cO,cQ,cR,cS,cT,cU,cV,cW,cZ,c4,dn,dr,dw,dx,dy,dz,dA,dB,dD,dF,dG,dH,dI,dJ,dK,dL,dM,dN,dO,dP,dQ,dR,dS,dU,dV,dW,dX,dY,dZ,ec,fF,fG,fH,ee,ef,ei,ej,ek,en,eo,ep,er,eu,ew,ey,fI,fJ,fK,ez,eA,eB,eC,eD,eE,eF,eG,eH,eL,eM,eN,eO,eP,eR,eS,eT,eU,eV,eW,eX,eY,eZ,e3,e4,e5,e6,e7,e8,e9,fc,fe,ff,fh,fk,fm,gh,gi,fo,fq,fu,fA,fB,fC,fD,iB,iC,iD,iE,iF,iG,iH,iI,iJ,iK,iL,iM,jc,jd,je,jf,jg,jh,ji,jj],[]⟩ W')
  (O:∀(ah mA mF u8 bM bN bO bP bQ bR bS bT bU bV bW bX bY bZ b5 u64 b6 b7 b8 b9 cc cg ck cm cn cp cr ct cu cv cw cz cA cB cC cD cE c7 c8 c9 dc de dh di dm cG cH cI cK cL cM cN cO cQ cR cS cT cU cV cW cZ c4 dn dr dw dx dy dz dA dB dD dF dG dH dI dJ dK dL dM dN dO dP dQ dR dS dU dV dW dX dY dZ ec fF fG fH ee ef ei ej ek en eo ep er eu ew ey fI fJ fK ez eA eB eC eD eE eF eG eH eL eM eN eO eP eR eS eT eU eV eW eX eY eZ e3 e4 e5 e6 e7 e8 e9 fc fe ff fh fk fm gh gi fo fq fu fA fB fC fD iB iC iD iE iF iG iH iI iJ iK iL iM:Value)(d:Nat)(c3:Core)(z:Nat->ax)(W':World),j7 F F c3 aR []->nr c3 ai->tG c1 c3->d<c3.cl.length->(∀x∈az c3.cl d,-x∈c3.ay)->aX K base W' G z cb {s with c:=c3}->aC K w W'->Q .ret ⟨#[.pointer (some ⟨G,0,none⟩),jJ,.pointer (some ⟨cb d,0,none⟩),.int .i64 lit,.slice (some ⟨iS,0,none⟩) ir iZ,ah,mA,mF,u8,lB,gR,gE,gl,iw,gI,gQ,u16,gm,gn,gp,gD,gq,gr,gu,gv,gw,gx,gy,gz,fN,fO,fP,u32,fQ,fR,fS,fT,fU,fV,fW,fZ,ga,gb,gd,gA,gB,.slice (some ⟨iS,0,none⟩) ir iZ,.int .i64 (ir:Int),.int .i64 (i:Int),bM,bN,bO,bP,bQ,bR,bS,bT,bU,bV,bW,bX,bY,bZ,b5,u64,b6,b7,b8,b9,cc,cg,ck,cm,cn,cp,cr,ct,cu,cv,cw,cz,cA,cB,cC,cD,cE,c7,c8,c9,dc,de,dh,di,dm,cG,cH,cI,cK,cL,cM,cN,cO,cQ,cR,cS,cT,cU,cV,cW,cZ,c4,dn,dr,dw,dx,dy,dz,dA,dB,dD,dF,dG,dH,dI,dJ,dK,dL,dM,dN,dO,dP,dQ,dR,dS,dU,dV,dW,dX,dY,dZ,ec,fF,fG,fH,ee,ef,ei,ej,ek,en,eo,ep,er,eu,ew,ey,fI,fJ,fK,ez,eA,eB,eC,eD,eE,eF,eG,eH,eL,eM,eN,eO,eP,eR,eS,eT,eU,eV,eW,eX,eY,eZ,e3,e4,e5,e6,e7,e8,e9,fc,fe,ff,fh,fk,fm,gh,gi,fo,fq,fu,fA,fB,fC,fD,iB,iC,iD,iE,iF,iG,iH,iI,iJ,iK,iL,iM,jc,jd,je,jf,jg,jh,ji,jj],[]⟩ W'):
   Code.wp y_ runIn Q ⟨#[.pointer (some ⟨G,0,none⟩),jJ,lp,.int .i64 lit,.slice (some ⟨iS,0,none⟩) ir iZ,.slice (some ⟨iS,0,none⟩) kl iZ,mA,mF,u8,lB,gR,gE,gl,iw,gI,gQ,u16,gm,gn,gp,gD,gq,gr,gu,gv,gw,gx,gy,gz,fN,fO,fP,u32,fQ,fR,fS,fT,fU,fV,fW,fZ,ga,gb,gd,gA,gB,.slice (some ⟨iS,0,none⟩) ir iZ,.int .i64 (ir:Int),.int .i64 (i:Int),bM,bN,bO,bP,bQ,bR,bS,bT,bU,bV,bW,bX,bY,bZ,b5,u64,b6,b7,b8,b9,cc,cg,ck,cm,cn,cp,cr,ct,cu,cv,cw,cz,cA,cB,cC,cD,cE,c7,c8,c9,dc,de,dh,di,dm,cG,cH,cI,cK,cL,cM,cN,cO,cQ,cR,cS,cT,cU,cV,cW,cZ,c4,dn,dr,dw,dx,dy,dz,dA,dB,dD,dF,dG,dH,dI,dJ,dK,dL,dM,dN,dO,dP,dQ,dR,dS,dU,dV,dW,dX,dY,dZ,ec,fF,fG,fH,ee,ef,ei,ej,ek,en,eo,ep,er,eu,ew,ey,fI,fJ,fK,ez,eA,eB,eC,eD,eE,eF,eG,eH,eL,eM,eN,eO,eP,eR,eS,eT,eU,eV,eW,eX,eY,eZ,e3,e4,e5,e6,e7,e8,e9,fc,fe,ff,fh,fk,fm,gh,gi,fo,fq,fu,fA,fB,fC,fD,iB,iC,iD,iE,iF,iG,iH,iI,iJ,iK,iL,iM,jc,jd,je,jf,jg,jh,ji,jj],[]⟩ W:=by
 have A:=e.Bz;have P:=e.nH.C3;have B:=C.len;have R:=C.lb;have S:=C.cap;have aK:(ir:Int)<=(iZ:Int):=by omega
 have aL:Zw.wrap ((i:Int)+1)=(i:Int)+1:=by rw[h_];omega
 have ak:=aa he;have t:=aa aq;have T:=aa O;clear he aq O
 by_cases p:i<ls.length
 · obtain⟨d,q⟩:∃d,ls[i]=d:=⟨_,rfl⟩
   have ag:ls[i]? =some d:=by rw[j_ p,q]
   have E:=e.rq ag;obtain⟨bz,m,k,g⟩:=e.gH.yP (d:=d) E.1 (by show 1<=(az c2.cl d).length;omega);have g:yO base W G jH cb d bz m k (az c2.cl d):=g;have U:lit= -(w0 c2 d)\/lit= -(w1 c2 d):=by rw[<-q];exact(e.nH.rq p).2.2
   have aM: -60000<=lit/\lit<=60000:=by have:=C.ok.2;have:=C.aq;unfold aG at*;omega
   have wn:Zw.wrap (-lit)= -lit:=IntWalk.i64_in _ (by omega);have hk:k0<c2.wt.length:=by rw[e.vO C];exact C.hk
   have X:az (ko c2 k0 (kept++ls.drop kl)).wt k0=kept++ls.drop kl:=by show az (c2.wt.set k0 _) k0=_;rw[qw,if_pos ⟨rfl,hk⟩]
   have aN:W.cell? ⟨iS,i,none⟩=some (.pointer (some ⟨cb d,0,none⟩)):=e.gH.Dn (e.kQ C) (by
    show(az (ko c2 k0 (kept++ls.drop kl)).wt k0)[i]? =some d;rw[X,Zt (by rw[e.s6];exact A),Zu,e.s6,show kl+(i-kl)=i by omega];exact ag)
   obtain⟨f,H⟩:∃x,w0 c2 d=x:=⟨_,rfl⟩
   have al:2<=m:=by have:=g.len;omega
   have ao:=g.cap;have ar:=g.ag;have a0:=g.kC 0 (by omega);rw[show aj (az c2.cl d) 0=f from H] at a0;have av:(0:Int)<(m:Int):=by omega
   have Y:(1:Int)<(m:Int):=by omega
   have li:(i:Int)<(ir:Int):=by omega
   have aO:(0:Int)<=(i:Int):=by omega
   have aw:decide ((i:Int)<(ir:Int))=true:=decide_eq_true li;have D:=aa (z_ C (z_ e (z_ ag (z_ E (z_ p (z_ H (z_ U (z_ A (z_ B (z_ R S))))))))));have n:=aa g;clear P q A B R S C e ag E p H U g X hk ao
   conv=>arg 2;whnf
   conv=>arg 4;zeta
   by_cases h1:f= -lit
   ·have d1:decide (f= -lit)=true:=decide_eq_true h1;have d2:(f== -lit)=true:=beq_iff_eq.2 h1;have H1:=aa h1;clear h1;obtain⟨y,I⟩:∃y,aj (az c2.cl d) 1=y:=⟨_,rfl⟩
    have a1:=n.o.kC 1 (by omega);rw[I] at a1;have f0:=n.o.k4 0;have f1:=n.o.k4 1;have aP:=n.o.ne;have aQ:=n.o.ne.symm;have aA:fE (mz K base w G cb F ai s c1 gM aR lit ls k0 i kl kept (lK c2 d (kL (az c2.cl d) 0 1)) jH (((W.setCell ⟨bz,0,none⟩ (.int .i64 y)).setCell ⟨bz,1,none⟩ (.int .i64 f)).drew)):=aa (by
     have Z:=D.o.2.1.gH.F0 (d:=d) (bz:=bz) (i:=0) (j:=1) n.o.b D.o.2.2.2.1.1 (x:=f) (y:=y) D.o.2.2.2.2.2.1 I;have q:ls[i]'(D.o.2.2.2.2.1)=d:=(x_.1 D.o.2.2.1).2;have V:=D.o.2.1.nH.swap D.o.2.2.2.2.1;rw[q] at V;exact⟨V,D.o.2.1.s6,Z.1,D.o.2.1.hw,D.o.2.1.au,D.o.2.1.iR.trans Z.2⟩)
    have aB:fE (w1 (lK c2 d (kL (az c2.cl d) 0 1)) d= -lit):=aa (by
     show aj (az (c2.cl.set d _) d) 1= -lit;rw[qw,if_pos ⟨rfl,D.o.2.2.2.1.1⟩];unfold kL;rw[oO,if_pos ⟨rfl,by rw[d_];have:=D.o.2.2.2.1.2;omega⟩,show aj (az c2.cl d) 0=f from D.o.2.2.2.2.2.1];exact H1.o)
    clear I al
    go_upto_if 61 with fail
    refine wp_cond_true rfl ?_;rename_i s5 J;have aD:W.drew.cell? ⟨cb d,0,none⟩=some (.slice (some ⟨bz,0,none⟩) m k):=ar;have ab:W.drew.cell? ⟨bz,0,none⟩=some (.int .i64 f):=a0;have aE:W.drew.cell? ⟨bz,1,none⟩=some (.int .i64 y):=a1;have aF:W.drew.frozen? ⟨bz,0,none⟩=false:=f0;refine z8 (Di Tryz.f145 10) 23 21 22 224 [some 62,some 63,some 64,some 65,some 66,some 67,some 68,some 69,some 70,some 71,some 72,some 73,some 74,some 75,some 76,some 77,some 78,some 79,some 80,some 81,some 82,none,some 83,none] _ [(7,.pointer (some ⟨(cb d),0,none⟩))] (λ _=>True) [.pointer (some ⟨(cb d),0,none⟩),.pointer (some ⟨(cb d),0,none⟩),.pointer (some ⟨(cb d),0,none⟩),.slice (some ⟨bz,0,none⟩) m k,.pointer (some ⟨(cb d),0,none⟩),.pointer (some ⟨(cb d),0,none⟩),.pointer (some ⟨(cb d),0,none⟩),.slice (some ⟨bz,0,none⟩) m k,.pointer (some ⟨(cb d),0,none⟩),.pointer (some ⟨(cb d),0,none⟩),.pointer (some ⟨(cb d),0,none⟩),.slice (some ⟨bz,0,none⟩) m k,.pointer (some ⟨bz,1,none⟩),.int .i64 y,.pointer (some ⟨(cb d),0,none⟩),.pointer (some ⟨(cb d),0,none⟩),.pointer (some ⟨(cb d),0,none⟩),.slice (some ⟨bz,0,none⟩) m k,.pointer (some ⟨bz,0,none⟩),.int .i64 f,.pointer (some ⟨bz,0,none⟩),undef,undef] (W.drew.setCell ⟨bz,0,none⟩ (.int .i64 y)) (λ v w'=>v=.pointer (some ⟨bz,1,none⟩)/\w'=W.drew.setCell ⟨bz,0,none⟩ (.int .i64 y)) (by kernel_rfl) (by kernel_rfl) (by kernel_rfl) rfl (by kernel_rfl) (by kernel_rfl) rfl ⟨rfl,trivial⟩ trivial trivial (λ _ _ _=>trivial) (λ r ag L hp=>?_) (λ r ag L hp=>?_) ?_ ?_
    ·have h1:r (.tmp 82)=.pointer (some ⟨bz,0,none⟩):=ag.1 rfl (by decide) (by decide) _ rfl;have M:r (.tmp 75)=.int .i64 y:=ag.2.1 rfl (by decide) (by decide) _ rfl;show bq _ _ (Oper.mk _ _ _ _ _ _) _ _;simp[bq,execOp,cF,go_sem,h1,M,ab,aF]
    ·have h1:r (.tmp 69)=.slice (some ⟨bz,0,none⟩) m k:=ag.1 rfl (by decide) (by decide) _ rfl;show bq _ _ (Oper.mk _ _ _ _ _ _) _ _;simp[bq,execOp,cF,go_sem,h1,Y,hp.1]
    ·refine⟨?_,?_,?_,?_,?_,?_,?_,?_,?_,?_,?_,?_,?_,?_,?_,?_,?_,?_,?_,?_,?_,?_,?_,trivial⟩
     all_goals
      intro h1 M r w _ aH ag L hp
      first
       |exact absurd rfl h1
       |exact absurd rfl M
       |(obtain⟨aI,-⟩:=L;obtain rfl:=aH rfl;(try simp[oW,qB,Region.binds] at ag);simp[bq,execOp,cF,go_sem,aI,ag,aD,ab,aE,av,Y,hp.1,(show 0<m by omega)];done)
    rintro u v w' ⟨rfl,rfl⟩ aS ad;simp[nZ,Act.put,kP] at ad;subst ad;show bq _ _ (Oper.mk _ _ _ _ _ _) _ _;simp[bq,execOp,cF,go_sem,Act.eval,a1,f1]
    iterate 1
     refine J _ _ ?_;refine Gg D.o.1 aA.o D.o.2.2.1 aB.o ?_ ?_ ?_
     ·intros
      rename_i l
      go_wp2_with fail
      apply t.o
      ·exact D.o.2.2.2.2.1
      ·exact l
     ·intros
      rename_i l
      go_wp2_with fail
      apply t.o
      ·exact D.o.2.2.2.2.1
      ·exact l
     ·intros
      apply T.o<;>assumption
   ·have d1:decide (f= -lit)=false:=decide_eq_false h1;have d2:(f== -lit)=false:=by rw[beq_eq_false_iff_ne];exact h1
    have H1:=aa h1
    go_upto_if 61 with fail
    refine wp_cond_false rfl ?_;refine wp_skip ?_;rename_i s5 J;refine J _ _ ?_;refine Gg D.o.1 D.o.2.1 D.o.2.2.1 (by have:=D.o;have:=H1.o;omega) ?_ ?_ ?_
    ·intros
     rename_i l
     go_wp2_with fail
     apply t.o
     ·exact D.o.2.2.2.2.1
     ·exact l
    ·intros
     rename_i l
     go_wp2_with fail
     apply t.o
     ·exact D.o.2.2.2.2.1
     ·exact l
    ·intros
     apply T.o<;>assumption
 · have ae:i=ls.length:=by omega
   have li:¬(i:Int)<(ir:Int):=by omega
   have aw:decide ((i:Int)<(ir:Int))=false:=decide_eq_false li;have aJ:=aa ae;clear ae p P B
   conv=>arg 2;whnf
   conv=>arg 4;zeta
   go_wp2_with fail
   apply ak.o;exact aJ.o
theorem Lr{hs:Nat->ax}(h:aX K base w G hs cb s)(L:j7 F F s.c s.c.ag [])(A:nr s.c ai)(aG:s.c.n<=60000)(a6:s.c.st.length<=1000000)(a7:s.c.cl.length<=100000):
  Calls y_ 145 #[.pointer (some ⟨G,0,none⟩)] w (KE K base w G cb F ai s):=by
 have H:=aa h;have al:=aa L;have a8:=aa A;clear h L A;go_enter Tryz.func145,Tryz.ntmps145
 go_wp2_with fail
 go_loopw [3,4,5,6,7,8] (λ _ _ _ _ _ _ W=>∃(c1:Core)(p:Nat->ax),Aa F ai s.c c1 c1.ag/\aX K base W G p cb {s with c:=c1}/\aC K w W/\c1.ag<=s.c.n) (λ _ _ _ _ _ _ W=>s.c.n-Dm W ⟨G,7,none⟩)
 case atStart=>exact⟨s.c,hs,⟨al.o,a8.o,tG.refl _⟩,H.o,aC.refl,by have:=al.o.hle;have:=al.o.aL.len;omega⟩
 case round=>
  obtain⟨c1,p,P,aH,hF,aI⟩:=hrel;have E:=aa aH;have aJ:=aa hF;have g:=aa P;clear aH hF;have ao:c1.n=s.c.n:=P.sm.n;have aK:c1.ay.length<=s.c.n:=by have:=P.gP.aL.len;rw[ao] at this;exact this
  obtain⟨b,aq⟩:∃b,c1.ag=b:=⟨_,rfl⟩
  have B:=E.o.e.ku (k:=7) (v:=.int .i64 c1.ag) rfl;rw[aq] at B;obtain⟨aM,j5,aN,Q⟩:∃A n c,p 4=⟨A,n,c⟩:=⟨_,_,_,rfl⟩
  obtain⟨aL,ar⟩:∃aL,c1.ay.length=aL:=⟨_,rfl⟩
  have au:j5=aL:=by have:=E.o.e.j5;rw[Q] at this;exact this.trans ar
  have av:wr.cell? ⟨G,5,none⟩=some (.slice aM aL aN):=by have:=E.o.e.ku (k:=5) (v:=(p 4).v) rfl;rw[Q,au] at this;exact this
  have D:=aa (z_ ao (z_ aK (z_ aq (z_ Q (z_ ar (z_ au aI))))));clear P ao aK aq Q ar au aI
  by_cases C:b<aL
  ·have a':decide ((b:Int)<(aL:Int))=true:=decide_eq_true (by omega);have ba:(b:Int)<(aL:Int):=by omega
   obtain⟨g4,R,aw,-⟩:=E.o.e.wM (r:=4) (m:=aL) (by rw[D.o.2.2.2.1];exact D.o.2.2.2.2.2.1) (by omega);rw[D.o.2.2.2.1] at R;have R:aM=some ⟨g4,0,none⟩:=R;subst R;obtain⟨lit,S⟩:∃x,aj c1.ay b=x:=⟨_,rfl⟩
   have M:=E.o.e.zP aw (k:=b) (by show b<c1.ay.length;rw[D.o.2.2.2.2.1];exact C);have M:wr.cell? ⟨g4,b,none⟩=some (.int .i64 lit):=by rw[<-S];exact M
   have T:gW s.c.n lit:=by rw[<-S,<-D.o.1];exact g.o.gP.aL.lit _ (lZ (by rw[D.o.2.2.2.2.1];exact C))
   obtain⟨k0,U⟩:∃k:Nat,jE lit=k:=⟨_,rfl⟩
   have aO:k0<2*s.c.n+2:=by rw[<-U];exact T.at
   have aP:c1.wt.length=2*s.c.n+2:=by have:=g.o.gP.wt.qM;rw[D.o.1] at this;exact this
   have V:fE (∀w:World,Calls y_ 181 #[.int .i64 lit] w λ e w'=>e=.returned (.int .i64 (k0:Int))/\w=w'):=aa (λ w=>by have:=FY T aG w;rw[U] at this;exact this);have bw:Zw.wrap ((b:Int)+1)=(b:Int)+1:=by rw[h_];have:=D.o;omega
   have bx:b<60000:=by have:=D.o;omega
   have bz:(k0:Int)<2*(s.c.n:Int)+2:=by omega
   have X:=aa (z_ S (z_ T (z_ U (z_ aO (z_ aP (z_ aw C))))));have f7:=E.o.e.free 7;clear S T U aO aP aw C
   go_wp2_with fail
   refine w_ 9 (by kernel_rfl) (by kernel_rfl) ?_;simp only[v_,r_,u_,s_]
   iterate 9 still_step
   refine q_ ?_;change wpList _ _ _ _ _ wr.drew;have bb:=aa E.o.drew;have bc:=aa (aJ.o.trans (aC.drew (w:=wr)));have av:wr.drew.cell? ⟨G,5,none⟩=some (.slice (some ⟨g4,0,none⟩) aL aN):=av;have B:wr.drew.cell? ⟨G,7,none⟩=some (.int .i64 (b:Int)):=B;have M:wr.drew.cell? ⟨g4,b,none⟩=some (.int .i64 lit):=M;clear f7;generalize wr.drew=Z at*
   go_wp2_with fail
   refine wp_scope_straight ?_
   go_wp2_with fail
   refine w_ 10 (by kernel_rfl) (by kernel_rfl) ?_;simp only[v_,r_,u_,s_]
   iterate 10 still_step
   refine q_ ?_;change wpList _ _ _ _ _ Z.drew;have B:Z.drew.cell? ⟨G,7,none⟩=some (.int .i64 (b:Int)):=B;have aQ:=aa bb.o.drew;have f7:=aQ.o.e.free 7;have bd:=aa (bc.o.trans (aC.drew (w:=Z)));clear av M;generalize Z.drew=bf at*
   go_wp2_with fail
   have j:=aQ.o.Bi (b+1);rw[show((b+1:Nat):Int)=(b:Int)+1 by omega] at j;have aR:=aa (bd.o.trans j.2);have j:=aa j.1;generalize bf.setCell ⟨G,7,none⟩ (.int .i64 ((b:Int)+1))=wc at j aR;obtain⟨g0,bK,ab,f0⟩:=j.o.e.lW 1 0 rfl (j.o.e.jY.trans X.o.2.2.2.2.1) (by omega);have u:=j.o.e.xY bK (k:=k0) (by have:=X.o.2.2.2.1;have:=X.o.2.2.2.2.1;show k0<c1.wt.length;omega);obtain⟨ad,ir,y,ae⟩:∃A n c,p (iA k0)=⟨A,n,c⟩:=⟨_,_,_,rfl⟩
   rw[ae] at u;have af:wc.cell? ⟨g0,k0,none⟩=some (.slice ad ir y):=u;clear u;obtain⟨ls,N⟩:∃ls,az c1.wt k0=ls:=⟨_,rfl⟩
   have aS:ir=ls.length:=by have:=j.o.e.zZ k0;rw[ae] at this;rw[<-N];exact this
   have bg:ir<=100000:=by
    have h1:=g.o.gP.wt.mT k0;have bA:=g.o.sm.len;rw[N] at h1;omega
   have aA:=n4.start g.o.gP g.o.2 (by have:=D.o;have:=X.o.2.2.2.2.2.2;omega);rw[D.o.2.2.1,X.o.1,X.o.2.2.1,N] at aA;have Y:=aa (z_ bK (z_ ae (z_ N (z_ aS (z_ bg aA)))));clear bK ae N aS aA f0 B f7;refine w_ 8 (by kernel_rfl) (by kernel_rfl) ?_;simp only[v_,r_,u_,s_]
   iterate 5 still_step
   still_call ((V.o _).mono (λ e w' h=>⟨h.1,h.2.symm⟩))
   iterate 2 still_step
   refine q_ ?_;change wpList _ _ _ _ _ wc.drew;have q:=aa j.o.drew;have Fd:=aa (aR.o.trans (aC.drew (w:=wc)));clear ab af;generalize wc.drew=wd at*;have ab:=q.o.e.rm 1 Y.o.1 (q.o.e.jY.trans X.o.2.2.2.2.1) rfl;have f0:=q.o.e.rows.free Y.o.1 k0;have I:fE (k0<c1.wt.length):=aa (by have:=X.o.2.2.2.1;have:=X.o.2.2.2.2.1;omega);have u:=q.o.e.xY Y.o.1 (k:=k0) I.o;rw[Y.o.2.1] at u;have af:wd.cell? ⟨g0,k0,none⟩=some (.slice ad ir y):=u;clear u
   by_cases aT:ir=0
   ·subst aT;have aU:ls=[]:=List.eq_nil_of_length_eq_zero (by have:=Y.o.2.2.2.1;omega);have J:=aa aU;clear aU
    cases ad with
    |none=>
     go_wp2_with fail
     apply wp_label
     go_wp2_with fail
     refine wp_loop_rounds 1 ?_;rw[rounds_succ]
     go_wp2_with fail
     refine w_ 8 (by kernel_rfl) (by kernel_rfl) ?_;simp only[v_,r_,u_,s_]
     iterate 5 still_step
     still_call ((V.o _).mono (λ e w' h=>⟨h.1,h.2.symm⟩))
     iterate 2 still_step
     refine q_ ?_;change wpList _ _ _ _ _ wd.drew;have f:=Bx (c2:={c1 with ag:=b+1}) (raw:=[]) (kept:=[]) (kl:=0) (by rw[<-J.o,<-Y.o.2.2.1];have:=Bu (c:={c1 with ag:=b+1}) I.o;rw[show az ({c1 with ag:=b+1}:Core).wt k0=az c1.wt k0 from rfl] at this;rw[this];exact q.o) Y.o.1 I.o Y.o.2.1 rfl (Nat.le_refl _) (by rw[<-J.o];exact Y.o.2.2.1);have z:Aa F ai s.c {c1 with ag:=b+1} (b+1):=by
      have t:=Y.o.2.2.2.2.2;rw[J.o] at t;exact⟨t.done.1,t.8,g.o.sm.trans t.sm⟩
     go_wp2_with fail
     go_roundw
     case rel=>
      repeat apply Zr
      exact⟨⟨_,_,z,f.1,Fd.o.trans f.2,by have:=D.o;have:=X.o;show b+1<=_;omega⟩,rfl⟩
     case measure=>
      rw[f.1.yN,E.o.yN];show s.c.n-(b+1)<s.c.n-c1.ag;have:=D.o;have:=X.o;omega
    |some bB=>
     go_wp2_with fail
     apply wp_label
     go_wp2_with fail
     refine wp_loop_rounds 1 ?_;rw[rounds_succ]
     go_wp2_with fail
     refine w_ 8 (by kernel_rfl) (by kernel_rfl) ?_;simp only[v_,r_,u_,s_]
     iterate 5 still_step
     still_call ((V.o _).mono (λ e w' h=>⟨h.1,h.2.symm⟩))
     iterate 2 still_step
     refine q_ ?_;change wpList _ _ _ _ _ wd.drew;have f:=Bx (c2:={c1 with ag:=b+1}) (raw:=[]) (kept:=[]) (kl:=0) (by rw[<-J.o,<-Y.o.2.2.1];have:=Bu (c:={c1 with ag:=b+1}) I.o;rw[show az ({c1 with ag:=b+1}:Core).wt k0=az c1.wt k0 from rfl] at this;rw[this];exact q.o) Y.o.1 I.o Y.o.2.1 rfl (Nat.le_refl _) (by rw[<-J.o];exact Y.o.2.2.1);have z:Aa F ai s.c {c1 with ag:=b+1} (b+1):=by
      have t:=Y.o.2.2.2.2.2;rw[J.o] at t;exact⟨t.done.1,t.8,g.o.sm.trans t.sm⟩
     go_wp2_with fail
     go_roundw
     case rel=>
      repeat apply Zr
      exact⟨⟨_,_,z,f.1,Fd.o.trans f.2,by have:=D.o;have:=X.o;show b+1<=_;omega⟩,rfl⟩
     case measure=>
      rw[f.1.yN,E.o.yN];show s.c.n-(b+1)<s.c.n-c1.ag;have:=D.o;have:=X.o;omega
   ·obtain⟨ah,ak,aB,-⟩:=q.o.e.wM (r:=iA k0) (m:=ir) (by rw[Y.o.2.1]) aT;rw[Y.o.2.1] at ak;have ak:ad=some ⟨ah,0,none⟩:=ak;subst ak;have cap:=q.o.e.xV aB;rw[Y.o.2.1] at cap;have cap:ir<=y:=cap;have bC:(0:Int)<=(y:Int):=by omega
    have bh:=aa cap;have bD:=aa aB;clear cap aB
    go_wp2_with fail
    apply wp_label
    go_wp2_with fail
    have l:fE (rQ G p c1 s lit ls k0 g0 ah ir y):=aa ⟨Y.o.1,Y.o.2.1,Y.o.2.2.2.1,Y.o.2.2.2.2.1,bh.o,X.o.2.2.1,X.o.2.1,X.o.2.2.2.2.1,D.o.1,aG,a6,X.o.2.2.2.1,g.o.sm.st,g.o.sm.len,a7⟩;clear f0 af ab
    go_loopw [5,6,7,8,48] (λ bj _ _ _ aD W=>∃(i kl:Nat)(kept:List Nat)(c2:Core)(aV:Nat->ax),aD=.int .i64 i/\bj=.slice (some ⟨ah,0,none⟩) kl y/\mz K base w G cb F ai s c1 p b lit ls k0 i kl kept c2 aV W) (λ _ _ _ _ aD _=>ir-(intOf aD).toNat)
    case atStart=>
     refine⟨0,0,[],{c1 with ag:=b+1},p,rfl,rfl,Y.o.2.2.2.2.2,rfl,?_,rfl,rfl,Fd.o⟩;rw[List.nil_append,s_,<-Y.o.2.2.1];have:=Bu (c:={c1 with ag:=b+1}) I.o;rw[show az ({c1 with ag:=b+1}:Core).wt k0=az c1.wt k0 from rfl] at this;rw[this];exact q.o
    case round=>
     obtain⟨i,kl,kept,c2,aV,rfl,rfl,d⟩:=hrel;refine Lp l.o d ?_ ?_ ?_
     ·intros
      rename_i aW
      conv=>zeta
      subst aW;have d:=aa d;have O:=d.o.bK l.o;have ab:=d.o.gH.e.rm 1 O (d.o.gH.e.jY.trans (d.o.raw l.o)) rfl;have f0:=d.o.gH.e.rows.free O k0;have aE:=d.o.hw.trans l.o.ag;have af:wr.cell? ⟨g0,k0,none⟩=some (.slice (some ⟨ah,0,none⟩) ir y):=by have:=d.o.gH.e.xY O (k:=k0) (by show k0<(ko c2 k0 _).wt.length;rw[d.o.raw l.o];exact l.o.hk);rw[aE] at this;exact this
      have bk:fE (k0<c2.wt.length):=aa (by rw[d.o.vO l.o];exact l.o.hk);have aY:=aa (z_ O aE);clear O aE
      go_upto_region 27 with fail
      refine w_ 8 (by kernel_rfl) (by kernel_rfl) ?_;simp only[v_,r_,u_,s_]
      iterate 5 still_step
      still_call ((V.o _).mono (λ e w' h=>⟨h.1,h.2.symm⟩))
      iterate 2 still_step
      refine q_ ?_;change wpList _ _ _ _ _ wr.drew;have f:=Bx (c2:=c2) (kl:=kl) (kept:=kept) d.o.gH aY.o.1 bk.o aY.o.2 (List.take_left' d.o.s6) (by rw[t_,d.o.s6];omega) (by have:=d.o.nH.done.2;rw[l.o.kC] at this;exact this);have aF:c2.ag=b+1:=d.o.nH.ag;have z:Aa F ai s.c c2 c2.ag:=by
       rw[aF];exact⟨d.o.nH.done.1,d.o.nH.8,g.o.sm.trans d.o.nH.sm⟩
      have aZ:=aa aF;have z:=aa z;have f:=aa f;clear aF
      go_wp2_with fail
      go_roundw
      case rel=>
       repeat apply Zr
       exact⟨⟨_,_,z.o,f.o.1,d.o.iR.trans f.o.2,by rw[aZ.o];have:=D.o;have:=X.o;omega⟩,rfl⟩
      case measure=>
       rw[f.o.1.yN,E.o.yN];show s.c.n-c2.ag<s.c.n-c1.ag;rw[aZ.o];have:=D.o;have:=X.o;omega
     ·intros
      rename_i bl
      conv=>zeta
      go_roundw
      case rel=>
       repeat apply Zr
       exact⟨⟨i+1,_,_,_,_,by go_num,rfl,bl⟩,rfl⟩
      case measure=>
       have:=l.o.len;rename_i aW _;simp[intOf];omega
     ·intros
      rename_i bn bo bp bq br f bs
      conv=>zeta
      go_ret;exact⟨some _,_,_,b,rfl,⟨bn,bo,g.o.sm.trans bp⟩,f,bs,bq,br⟩
  ·have a':decide ((b:Int)<(aL:Int))=false:=decide_eq_false (by omega);have ba:¬(b:Int)<(aL:Int):=by omega
   have bt:=aa C;clear C
   go_wp2_with fail
   refine w_ 9 (by kernel_rfl) (by kernel_rfl) ?_;simp only[v_,r_,u_,s_]
   iterate 9 still_step
   refine q_ ?_;change wpList _ _ _ _ _ wr.drew
   go_wp2_with fail
   go_ret;have hle:=g.o.gP.hle;have bu:=E.o.drew;have:=D.o;have:=bt.o;exact⟨none,c1,p,c1.ag,rfl,g.o,bu,aJ.o.trans aC.drew,by omega,rfl⟩
end
section
open Go.RowKit Go.Shelf
structure vT(s:an):Prop where
 qD:oR s.c
 ww:∀k d,d∈az s.c.wt k->d<s.c.cl.length
 wl:∀d∈s.aO,d<s.c.cl.length
theorem Gh(cb:Nat->Nat)(n b:Nat){l:List Nat}(h:∀d∈l,d<n):kW (iN cb n b) l=kW cb l:=by
 unfold kW;refine Zx (λ d c=>?_);unfold sX;rw[bh _ _ (by have:=h d c;omega)]
theorem Ls(cb:Nat->Nat)(n b:Nat){l:List (Option Nat)}(h:∀v d,mo l v=some d->d<n):uc (iN cb n b) l=uc cb l:=by
 unfold uc;refine Zx (λ o c=>?_);obtain⟨k,hk,rfl⟩:=List.mem_iff_getElem.1 c
 cases e:l[k] with
 |none=>rfl
 |some d=>
  show sX _ d=sX _ d;unfold sX;rw[bh _ _ (by have:=h k d (by rw[ER hk,e]);omega)]
def an.r9(s:an)(l:List Int)(x:rZ):an:={s with c:={s.c with cl:=s.c.cl++[l]},ci:=s.ci++[x]}
section
variable {K:Nat->Prop}{base:Nat}{w W:World}{G:Nat}{hs:Nat->ax}{cb:Nat->Nat}{s:an}
theorem aX.Dx(h:aX K base w G hs cb s)(c:vT s)(b:Nat):aX K base w G hs (iN cb s.c.cl.length b) s:=by
 refine⟨?_,⟨h.s.lt,h.s.g,h.s.row,λ d f=>by rw[bh _ _ (by omega)];exact h.s.cl d f⟩⟩;refine⟨h.e.box,⟨λ r=>?_,h.e.rows.apart⟩,λ d f=>by rw[bh _ _ (by omega)];exact h.e.cls d f,λ d e f he=>by rw[bh _ _ (by omega),bh _ _ (by omega)];exact h.e.inj d e f he,h.e.q7,λ d f=>by rw[bh _ _ (by omega)];exact h.e.rL d f⟩;have h1:=h.e.rows.row r;have:cont hs (iN cb s.c.cl.length b) s r=cont hs cb s r:=by
  unfold cont;rw[Ls cb _ b c.qD,Gh cb _ b c.wl,Gh cb _ b (λ d f=>c.ww _ d f)]
 rw[this];exact h1
theorem Lt{d n:Nat}(h:d≠n):kr d≠kr n:=by unfold kr;omega
theorem aX.r9(h:aX K base w G hs cb s){hl:ax}{l:List Int}{x:rZ}(hblk:aN w (cb s.c.cl.length) vh [hl.v,.bool x.kV,.int .i64 x.bg,.int .i64 x.ac])(u:base<=cb s.c.cl.length)(y:¬K (cb s.c.cl.length))(q:∀d,d<s.c.cl.length->cb d≠cb s.c.cl.length)
  (z:w.ownsRow base 3 1 hl.v hl.n (iY l)) (t:∀g,hl.b=some g->(∀r,(hs r).b≠some g)/\¬K g) (A:s.ci.length=s.c.cl.length):
  aX K base w G (iN hs (kr s.c.cl.length) hl) cb (s.r9 l x):=by
 have hlen:(s.r9 l x).c.cl.length=s.c.cl.length+1:=by simp[an.r9]
 have m:=h.e.JQ (r:=kr s.c.cl.length) (h':=hl) (ys:=iY l) (by rw[Df,Bp];exact z) (λ g e r'=>(t g e).1 r');have f:∀r,r<13->iN hs (kr s.c.cl.length) hl r=hs r:=λ r f=>bh _ _ (by unfold kr;omega)
 have hw:∀k,iN hs (kr s.c.cl.length) hl (iA k)=hs (iA k):=λ k=>bh _ _ (by unfold kr iA;omega)
 have B:q6 (iN hs (kr s.c.cl.length) hl) (s.r9 l x)=q6 hs s:=by
  unfold q6 nL;rw[f 0 (by omega),f 1 (by omega),f 2 (by omega),f 3 (by omega),f 4 (by omega),f 5 (by omega),f 6 (by omega),f 7 (by omega),f 8 (by omega),f 9 (by omega),f 10 (by omega),f 11 (by omega),f 12 (by omega)];rfl
 refine⟨⟨by rw[B];exact m.box,⟨λ r=>?_,m.rows.apart⟩,λ d i=>?_,λ d e i he heq=>?_,h.e.q7,λ d i=>?_⟩,⟨h.s.lt,h.s.g,(h.s.iT (r:=kr s.c.cl.length) (h':=hl) (λ g e=>(t g e).2)).row,λ d i=>?_⟩⟩
 ·have h1:=m.rows.row r;have e:iN (cont hs cb s) (kr s.c.cl.length) (iY l) r=cont (iN hs (kr s.c.cl.length) hl) cb (s.r9 l x) r:=by
   by_cases o:r=kr s.c.cl.length
   ·subst o;rw[jG,xX];show iY l=iY (az (s.c.cl++[l]) s.c.cl.length);rw[uI]
   ·rw[bh _ _ o];rcases Zn r 13 with C|C
    ·have:r=0\/r=1\/r=2\/r=3\/r=4\/r=5\/r=6\/r=7\/r=8\/r=9\/r=10\/r=11\/r=12:=by omega
     rcases this with rfl|rfl|rfl|rfl|rfl|rfl|rfl|rfl|rfl|rfl|rfl|rfl|rfl
     ·show(List.range s.c.wt.length).map _=(List.range s.c.wt.length).map _;refine Zx (λ k _=>?_);rw[hw]
     all_goals rfl
    ·have a0:¬r=0:=by omega
     have a1:¬r=1:=by omega
     have a2:¬r=2:=by omega
     have a3:¬r=3:=by omega
     have a4:¬r=4:=by omega
     have a5:¬r=5:=by omega
     have D:¬r=6:=by omega
     have E:¬r=7:=by omega
     have F:¬r=8:=by omega
     have a9:¬r=9:=by omega
     have H:¬r=10:=by omega
     have I:¬r=11:=by omega
     have a12:¬r=12:=by omega
     unfold cont;simp only[a0,a1,a2,a3,a4,a5,D,E,F,a9,H,I,a12,if_false]
     by_cases hm:r%3=1
     ·rw[if_pos hm,if_pos hm];rfl
     ·rw[if_neg hm,if_neg hm]
      by_cases j:r%3=2
      ·rw[if_pos j,if_pos j]
       congr 1
       show _=az (s.c.cl++[l]) ((r-14)/3);rcases Zn ((r-14)/3) s.c.cl.length with J|M
       ·rw[AX J]
       ·have N:(r-14)/3≠s.c.cl.length:=λ p=>o (by unfold kr;omega)
        unfold az;rw[Zs,Zs,Zo (by omega),Zo (by simp;omega)]
      ·rw[if_neg j,if_neg j];rfl
  rw[<-e];exact h1
 ·rw[hlen] at i
  by_cases e:d=s.c.cl.length
  ·subst e;have:tE (iN hs (kr s.c.cl.length) hl) (s.r9 l x) s.c.cl.length=[hl.v,.bool x.kV,.int .i64 x.bg,.int .i64 x.ac]:=by
    unfold tE;rw[jG];show [_,Value.bool ((s.ci++[x]).getD _ _).kV,Zm .i64 ((s.ci++[x]).getD _ _).bg,Zm .i64 ((s.ci++[x]).getD _ _).ac]=_;rw[yH,if_pos A.symm]
   rw[this];exact hblk
  ·have:tE (iN hs (kr s.c.cl.length) hl) (s.r9 l x) d=tE hs s d:=by
    unfold tE;rw[bh _ _ (Lt e)];show [_,Value.bool ((s.ci++[x]).getD _ _).kV,Zm .i64 ((s.ci++[x]).getD _ _).bg,Zm .i64 ((s.ci++[x]).getD _ _).ac]=_;rw[yH,if_neg (by omega)]
   rw[this];exact h.e.cls d (by omega)
 ·rw[hlen] at i he
  by_cases L:d=s.c.cl.length
  ·by_cases p:e=s.c.cl.length
   ·omega
   ·subst L;exact absurd heq.symm (q e (by omega))
  ·by_cases p:e=s.c.cl.length
   ·subst p;exact absurd heq (q d (by omega))
   ·exact h.e.inj d e (by omega) (by omega) heq
 ·rw[hlen] at i
  by_cases e:d=s.c.cl.length
  ·subst e;exact u
  ·exact h.e.rL d (by omega)
 ·rw[hlen] at i
  by_cases e:d=s.c.cl.length
  ·subst e;exact y
  ·exact h.s.cl d (by omega)
end
end
section
open Go.Shelf
def Tryz.Lu:c_:=⟨λ|43=>223|n=>n,λ|22=>25|23=>3|3=>3|4=>4|0=>0|n=>n,λ|n=>n⟩
theorem Tryz.Lv:Go.Proofs.SlLaysE.n43 y_ Tryz.Lu:={
 mixed:=by kernel_rfl
 f43:=⟨Tryz.f223.name,by decide,Tryz.func223.trans (congrArg some (by kernel_rfl))⟩
 t0:=f_
 a0:=Zp
 z0:=Zq
 v0:=b_
 t3:=e_
 a3:=l_
 z3:=o_
 v3:=a_
 t4:=n_
 a4:=Zv
 z4:=Zz
 v4:=k_
 t22:=p_
 a22:=Zy
 z22:=i_
 v22:=m_
 a23:=l_
 z23:=o_}
open Go.RowKit Go.Lib Go.Sort in
theorem Tryz.slices_Compact{α:Type}[Inhabited α][DecidableEq α](enc:α->Value)(hO:OneCell enc)(heq:EqlAt y_ 3 enc (λ x y=>decide (x=y)))(c:NeqAt y_ 3 enc (λ x y=>decide (x=y)))(b:α)(v23:∀w,(zeroValue 3).run y_ w=.ok (enc b) w)(blk off cap:Nat)(d:Array α)(w:World)(hH:Holds enc w blk off d)(f:d.size<=9223372036854775807)(g:d.size<=cap):
 Calls y_ 223 #[.slice (some ⟨blk,off,none⟩) d.size cap] w λ e w'=>e=.returned (.slice (some ⟨blk,off,none⟩) (compactUpTo d d.size).length cap)/\∃q,w'=putRow enc (Sort.ahead w q) blk off (compactUpTo d d.size++List.replicate (d.size-(compactUpTo d d.size).length) b).toArray:=AnyE.slices_Compact Tryz.Lv enc hO heq c b v23 blk off cap d w hH f g
def Tryz.Lw:c_:=⟨λ|41=>81|n=>n,λ|22=>25|23=>3|4=>4|n=>n,λ|n=>n⟩
theorem Tryz.Gi:Go.Proofs.SlLaysE0.n41 y_ Tryz.Lw:={
 mixed:=by kernel_rfl
 f41:=⟨Tryz.f81.name,by decide,Tryz.func81.trans (congrArg some (by kernel_rfl))⟩
 t4:=n_
 a4:=Zv
 z4:=Zz
 v4:=k_
 t22:=p_
 a22:=Zy
 z22:=i_
 v22:=m_}
open Go.RowKit Go.Lib in
theorem Tryz.slices_Clone(i0:TypeInfo)(z:Value)(size bytes:Nat)(d:y_.info? 3=some i0)(f:i0.zero=some z)(g:i0.size=size)(i:i0.bytes=bytes)(k:z.cells.size=size)(l:0<size)(z23:∀w,(Go.sizeOf 3).run y_ w=.ok size w)(b off n c:Nat)(news:List Value)(w:World)(hl:news.length=n*size)(m:n<=maxLen)(o:n*bytes<=140737488355328)(p:∀j u,news[j]? =some u->w.cell? ⟨b,off+j,none⟩=some u)(h1:∀u∈news,u.oneCell'=true):
 Calls y_ 81 #[.slice (some ⟨b,off,none⟩) n c] w λ e w'=>∃v',e=.returned v'/\w'.ownsRow w.heap.size 3 size v' n news/\v'≠ .slice none 0 0/\Below w.heap.size w w':=AnyE.slices_Clone Tryz.Gi i0 z size bytes d f g i k l z23 b off n c news w hl m o p h1
open Go.RowKit Go.Lib in
theorem Tryz.slices_Clone_nil(n c:Nat)(w:World):
 Calls y_ 81 #[.slice none n c] w λ e w'=>e=.returned (.slice none 0 0)/\w'=w:=AnyE.slices_Clone_nil Tryz.Gi n c w
def Tryz.Lx:c_:=⟨λ|10=>85|6=>142|n=>n,λ|22=>25|23=>3|25=>106|3=>3|4=>4|0=>0|n=>n,λ|n=>n⟩
theorem Tryz.Ly:Go.Proofs.SlLaysH.n10 y_ Tryz.Lx:={
 mixed:=by kernel_rfl
 f6:=⟨Tryz.f142.name,by decide,Tryz.func142.trans (congrArg some (by kernel_rfl))⟩
 f10:=⟨Tryz.f85.name,by decide,Tryz.func85.trans (congrArg some (by kernel_rfl))⟩
 t0:=f_
 a0:=Zp
 z0:=Zq
 v0:=b_
 t3:=e_
 a3:=l_
 z3:=o_
 v3:=a_
 t4:=n_
 a4:=Zv
 z4:=Zz
 v4:=k_
 t22:=p_
 a22:=Zy
 z22:=i_
 v22:=m_
 a23:=l_
 z23:=o_
 t25:=Tryz.underlying106
 a25:=Tryz.isAgg106
 z25:=Tryz.sizeOf106
 v25:=Tryz.zeroValue106}
open Go.RowKit Go.Lib Go.Sort in
theorem Tryz.slices_DeleteFunc{α:Type}[Inhabited α](enc:α->Value)(hO:OneCell enc)(p:α->Bool)(g:Nat)(lb:Array Value)(c:∀args w,(callFunc g args).run y_ w=.ok (.enter g args) w)(b:α)(v23:∀w,(zeroValue 3).run y_ w=.ok (enc b) w)(blk off cap:Nat)(d:Array α)(w:World)(hp:PredAt y_ g lb enc p w)(f:PredOver y_ g lb enc p blk off d.size w)(hH:Holds enc w blk off d)(i:d.size<=9223372036854775807)(j:d.size<=cap):
 Calls y_ 85 #[.slice (some ⟨blk,off,none⟩) d.size cap,.func (.func g) #[] lb] w λ e w'=>e=.returned (.slice (some ⟨blk,off,none⟩) (d.toList.filter λ x=> !p x).length cap)/\∃q,w'=putRow enc (Sort.ahead w q) blk off ((d.toList.filter λ x=> !p x)++List.replicate (d.size-(d.toList.filter λ x=> !p x).length) b).toArray:=AnyE.slices_DeleteFunc Tryz.Ly enc hO p g lb c b v23 blk off cap d w hp f hH i j
def Tryz.Lz:c_:=⟨λ|6=>157|15=>178|14=>195|28=>219|29=>220|20=>228|21=>229|22=>230|23=>231|24=>232|25=>233|26=>234|27=>235|46=>258|47=>254|48=>255|49=>259|50=>260|57=>269|n=>n,λ|22=>25|24=>3|25=>177|3=>3|39=>77|0=>0|53=>217|55=>219|4=>4|46=>211|45=>210|50=>137|5=>5|9=>9|66=>235|70=>239|76=>248|77=>249|n=>n,λ|n=>n⟩
theorem Tryz.LA:Go.Proofs.SlLaysF.n6 y_ Tryz.Lz:={
 mixed:=by kernel_rfl
 f6:=⟨Tryz.f157.name,by decide,Tryz.func157.trans (congrArg some (by kernel_rfl))⟩
 f14:=⟨Tryz.f195.name,by decide,Tryz.func195.trans (congrArg some (by kernel_rfl))⟩
 f15:=Tryz.func178.trans (congrArg some (by kernel_rfl))
 f20:=⟨Tryz.f228.name,by decide,Tryz.func228.trans (congrArg some (by kernel_rfl))⟩
 f21:=⟨Tryz.f229.name,by decide,Tryz.func229.trans (congrArg some (by kernel_rfl))⟩
 f22:=⟨Tryz.f230.name,by decide,Tryz.func230.trans (congrArg some (by kernel_rfl))⟩
 f23:=⟨Tryz.f231.name,by decide,Tryz.func231.trans (congrArg some (by kernel_rfl))⟩
 f24:=⟨Tryz.f232.name,by decide,Tryz.func232.trans (congrArg some (by kernel_rfl))⟩
 f25:=⟨Tryz.f233.name,by decide,Tryz.func233.trans (congrArg some (by kernel_rfl))⟩
 f26:=⟨Tryz.f234.name,by decide,Tryz.func234.trans (congrArg some (by kernel_rfl))⟩
 f27:=⟨Tryz.f235.name,by decide,Tryz.func235.trans (congrArg some (by kernel_rfl))⟩
 f28:=Tryz.func219.trans (congrArg some (by kernel_rfl))
 f29:=Tryz.func220.trans (congrArg some (by kernel_rfl))
 f46:=⟨Tryz.f258.name,by decide,Tryz.func258.trans (congrArg some (by kernel_rfl))⟩
 f47:=Tryz.func254.trans (congrArg some (by kernel_rfl))
 f48:=Tryz.func255.trans (congrArg some (by kernel_rfl))
 f49:=⟨Tryz.f259.name,by decide,Tryz.func259.trans (congrArg some (by kernel_rfl))⟩
 f50:=⟨Tryz.f260.name,by decide,Tryz.func260.trans (congrArg some (by kernel_rfl))⟩
 f57:=⟨Tryz.f269.name,by decide,Tryz.func269.trans (congrArg some (by kernel_rfl))⟩
 t0:=f_
 a0:=Zp
 z0:=Zq
 v0:=b_
 t3:=e_
 a3:=l_
 z3:=o_
 v3:=a_
 t4:=n_
 a4:=Zv
 z4:=Zz
 v4:=k_
 t5:=Tryz.underlying5
 a5:=Tryz.isAgg5
 z5:=Tryz.sizeOf5
 v5:=Tryz.zeroValue5
 t9:=Tryz.underlying9
 a9:=Tryz.isAgg9
 z9:=Tryz.sizeOf9
 v9:=Tryz.zeroValue9
 t22:=p_
 a22:=Zy
 z22:=i_
 v22:=m_
 a24:=l_
 z24:=o_
 t25:=Tryz.underlying177
 a25:=Tryz.isAgg177
 z25:=Tryz.sizeOf177
 v25:=Tryz.zeroValue177
 t39:=Tryz.underlying77
 a39:=Tryz.isAgg77
 z39:=Tryz.sizeOf77
 v39:=Tryz.zeroValue77
 t45:=Tryz.underlying210
 a45:=Tryz.isAgg210
 z45:=Tryz.sizeOf210
 v45:=Tryz.zeroValue210
 t46:=Tryz.underlying211
 a46:=Tryz.isAgg211
 z46:=Tryz.sizeOf211
 v46:=Tryz.zeroValue211
 t50:=Tryz.underlying137
 a50:=Tryz.isAgg137
 z50:=Tryz.sizeOf137
 v50:=Tryz.zeroValue137
 t53:=Tryz.underlying217
 a53:=Tryz.isAgg217
 z53:=Tryz.sizeOf217
 v53:=Tryz.zeroValue217
 t55:=Tryz.underlying219
 a55:=Tryz.isAgg219
 z55:=Tryz.sizeOf219
 v55:=Tryz.zeroValue219
 t66:=Tryz.underlying235
 a66:=Tryz.isAgg235
 z66:=Tryz.sizeOf235
 v66:=Tryz.zeroValue235
 t70:=Tryz.underlying239
 a70:=Tryz.isAgg239
 z70:=Tryz.sizeOf239
 v70:=Tryz.zeroValue239
 t76:=Tryz.underlying248
 a76:=Tryz.isAgg248
 z76:=Tryz.sizeOf248
 v76:=Tryz.zeroValue248
 t77:=Tryz.underlying249
 a77:=Tryz.isAgg249
 z77:=Tryz.sizeOf249
 v77:=Tryz.zeroValue249}
def Tryz.LB:c_:=⟨λ|6=>157|15=>178|14=>195|28=>219|29=>220|20=>228|21=>229|22=>230|23=>231|24=>232|25=>233|26=>234|27=>235|46=>258|47=>254|48=>255|49=>259|50=>260|57=>269|n=>n,λ|22=>25|24=>3|25=>177|3=>3|39=>77|0=>0|53=>217|55=>219|4=>4|46=>211|45=>210|50=>137|5=>5|9=>9|66=>235|70=>239|76=>248|77=>249|n=>n,λ|n=>n⟩
theorem Tryz.LC:Go.Proofs.SlLaysF0.n6 y_ Tryz.LB:={
 mixed:=by kernel_rfl
 f6:=⟨Tryz.f157.name,by decide,Tryz.func157.trans (congrArg some (by kernel_rfl))⟩
 f14:=⟨Tryz.f195.name,by decide,Tryz.func195.trans (congrArg some (by kernel_rfl))⟩
 f15:=Tryz.func178.trans (congrArg some (by kernel_rfl))
 f20:=⟨Tryz.f228.name,by decide,Tryz.func228.trans (congrArg some (by kernel_rfl))⟩
 f21:=⟨Tryz.f229.name,by decide,Tryz.func229.trans (congrArg some (by kernel_rfl))⟩
 f22:=⟨Tryz.f230.name,by decide,Tryz.func230.trans (congrArg some (by kernel_rfl))⟩
 f23:=⟨Tryz.f231.name,by decide,Tryz.func231.trans (congrArg some (by kernel_rfl))⟩
 f24:=⟨Tryz.f232.name,by decide,Tryz.func232.trans (congrArg some (by kernel_rfl))⟩
 f25:=⟨Tryz.f233.name,by decide,Tryz.func233.trans (congrArg some (by kernel_rfl))⟩
 f26:=⟨Tryz.f234.name,by decide,Tryz.func234.trans (congrArg some (by kernel_rfl))⟩
 f27:=⟨Tryz.f235.name,by decide,Tryz.func235.trans (congrArg some (by kernel_rfl))⟩
 f28:=Tryz.func219.trans (congrArg some (by kernel_rfl))
 f29:=Tryz.func220.trans (congrArg some (by kernel_rfl))
 f46:=⟨Tryz.f258.name,by decide,Tryz.func258.trans (congrArg some (by kernel_rfl))⟩
 f47:=Tryz.func254.trans (congrArg some (by kernel_rfl))
 f48:=Tryz.func255.trans (congrArg some (by kernel_rfl))
 f49:=⟨Tryz.f259.name,by decide,Tryz.func259.trans (congrArg some (by kernel_rfl))⟩
 f50:=⟨Tryz.f260.name,by decide,Tryz.func260.trans (congrArg some (by kernel_rfl))⟩
 f57:=⟨Tryz.f269.name,by decide,Tryz.func269.trans (congrArg some (by kernel_rfl))⟩
 t0:=f_
 a0:=Zp
 z0:=Zq
 v0:=b_
 t3:=e_
 a3:=l_
 z3:=o_
 v3:=a_
 t4:=n_
 a4:=Zv
 z4:=Zz
 v4:=k_
 t5:=Tryz.underlying5
 a5:=Tryz.isAgg5
 z5:=Tryz.sizeOf5
 v5:=Tryz.zeroValue5
 t9:=Tryz.underlying9
 a9:=Tryz.isAgg9
 z9:=Tryz.sizeOf9
 v9:=Tryz.zeroValue9
 t22:=p_
 a22:=Zy
 z22:=i_
 v22:=m_
 t25:=Tryz.underlying177
 a25:=Tryz.isAgg177
 z25:=Tryz.sizeOf177
 v25:=Tryz.zeroValue177
 t39:=Tryz.underlying77
 a39:=Tryz.isAgg77
 z39:=Tryz.sizeOf77
 v39:=Tryz.zeroValue77
 t45:=Tryz.underlying210
 a45:=Tryz.isAgg210
 z45:=Tryz.sizeOf210
 v45:=Tryz.zeroValue210
 t46:=Tryz.underlying211
 a46:=Tryz.isAgg211
 z46:=Tryz.sizeOf211
 v46:=Tryz.zeroValue211
 t50:=Tryz.underlying137
 a50:=Tryz.isAgg137
 z50:=Tryz.sizeOf137
 v50:=Tryz.zeroValue137
 t53:=Tryz.underlying217
 a53:=Tryz.isAgg217
 z53:=Tryz.sizeOf217
 v53:=Tryz.zeroValue217
 t55:=Tryz.underlying219
 a55:=Tryz.isAgg219
 z55:=Tryz.sizeOf219
 v55:=Tryz.zeroValue219
 t66:=Tryz.underlying235
 a66:=Tryz.isAgg235
 z66:=Tryz.sizeOf235
 v66:=Tryz.zeroValue235
 t70:=Tryz.underlying239
 a70:=Tryz.isAgg239
 z70:=Tryz.sizeOf239
 v70:=Tryz.zeroValue239
 t76:=Tryz.underlying248
 a76:=Tryz.isAgg248
 z76:=Tryz.sizeOf248
 v76:=Tryz.zeroValue248
 t77:=Tryz.underlying249
 a77:=Tryz.isAgg249
 z77:=Tryz.sizeOf249
 v77:=Tryz.zeroValue249}
open Go.RowKit Go.Lib Go.Sort in
theorem Tryz.slices_SortFunc_none{α:Type}[Inhabited α](p:Option Addr)(cap:Nat)(b:Value)(w:World):
 Calls y_ 157 #[.slice p 0 cap,b] w λ e w'=>e=.returned (.tuple #[])/\w'=w:=AnyF.slices_SortFunc_none Tryz.LC p cap b w
open Go.RowKit Go.Lib Go.Sort in
theorem Tryz.slices_SortFunc_total{α:Type}[Inhabited α](enc:α->Value)(h1:OneCell enc)(b:α->α->Int)(hO:SWO (ltOf b))(g:Nat)(cb:Array Value)(blk off cap:Nat)(d:Array α)(w:World)(c:∀args w,(callFunc g args).run y_ w=.ok (.enter g args) w)(f:CmpLays1 y_ g cb enc b blk off d.size w)(hH:Holds enc w blk off d)(hblk:blk<w.heap.size)(i:d.size<4611686018427387904)(j:∀x y,(ltOf b) x y=false->(ltOf b) y x=false->x=y):
 Calls y_ 157 #[.slice (some ⟨blk,off,none⟩) d.size cap,.func (.func g) #[] cb] w λ e w'=>
  e=.returned (.tuple #[])/\∃n os,w'=sortWorld enc w blk off n (d.toList.mergeSort λ x y=> !(ltOf b) y x).toArray os:=Any.slices_SortFunc_total Tryz.LA enc h1 b hO g cb blk off cap d w c f hH hblk i j
end
end Go.Proofs.YtogdlkfacflmaaaGreat
