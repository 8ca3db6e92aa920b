/- Parts of the walk of the solver and its core; no condition. -/
import Derived.Test.YtogdlkfacflmaaaGreatZY9
import Derived.Shelf.SlicesE.Compact
import Derived.Shelf.SlicesE.Clone
import Derived.Shelf.SlicesE.DeleteFunc
import Derived.Shelf.SlSortCmp.Whole1
import Derived.Shelf.SlSortCmp.NoneTotal
import Derived.Test.YtogdlkfacflmaaaGreatProg
import Derived.Lib.OwnBridge
import Derived.Lib.AppendIntMem
import Derived.IntWalk
import Derived.Deep.QuietTactic
import Derived.BigQuiet
import Derived.Test.YtogdlkfacflmaaaGreatZY6
import Derived.Test.YtogdlkfacflmaaaGreatZY1
namespace Go.Proofs.YtogdlkfacflmaaaGreat
set_option linter.unusedVariables false
set_option linter.unusedSimpArgs false
set_option maxRecDepth 100000
set_option maxHeartbeats 8000000
open _root_.Go.Proofs.Tryz renaming prog→z_,underlying25→s_,zeroValue3→n_,sizeOf3→l_,underlying4→i_,zeroValue25→h_,isAgg3→g_,zeroValue4→e_,sizeOf25→c_,underlying0→b_,underlying3→a_,zeroValue0→Zw,sizeOf4→Zv,isAgg25→Zu,isAgg4→Zp,underlying45→Zl,sizeOf0→Zh,isAgg0→Zc
open _root_.And renaming intro→y_
open _root_.List renaming eq_nil_of_length_eq_zero→x_,take_succ_cons→v_,drop_succ_cons→u_,drop_zero→q_,mem_cons→p_,take_zero→o_,pairwise_cons→m_,length_filter_le→k_,length_map→Zt,map_congr_left→Zs,replicate→Zr,getD_eq_getElem?_getD→Zo,getElem?_eq_some_iff→Zj,getElem?_cons_zero→Ze,take_left'→Zd,getElem?_eq_none→Za,mem_iff_getElem→Z3,mem_map→Z4
open _root_.Go renaming wp_region_still_tail→w_,wpStill_nil→f_,wp_loop_rounds→Zq,rounds_succ→Zb
open _root_.Or renaming inr→t_,inl→r_
open _root_.Go.Value renaming int→j_
open _root_.Nat renaming le_refl→d_,lt_or_ge→Zy,zero_add→Z6
open _root_.Bool renaming noConfusion→Zz,not_eq_true'→Zn
open _root_.Go.Shelf renaming Ren→Zx
open _root_.Go.World renaming drewN_drewN→Zm
open _root_.Go.RowKit.Below renaming refl→Zk
open _root_.Exists renaming intro→Zi
open _root_.Go.Lib renaming compactUpTo_succ→Zg,holds_of_ownsRow→Zf,ownsRow_putRow→Z0
open _root_.Go.Addr renaming add_lit→Z5
open _root_.Go.Value.slice renaming injEq→Z7
open _root_.Option.some renaming injEq→Z8
open _root_.Go.IntKind renaming i64→Z9
variable{K:Nat->Prop}{base G g n cap:Nat}{w:World}{hs:Nat->ay}{cb:Nat->Nat}{s:au}{a b x:Int}{l ai:List Int}
section
open Go.RowKit Go.Shelf
theorem L6{F:List (List Int)}{ah:List Int}(h:bf K base w G hs cb s)(L:kG F F s.c s.c.ag [])(A:ny s.c ah)(aF:s.c.n<=60000)(aZ:s.c.st.length<=1000000)(a6:s.c.cl.length<=100000):
  Calls z_ 145 #[.pointer (some ⟨G,0,none⟩)] w (Lh K base w G cb F ah s):=by
 have H:=U h;have al:=U L;have a7:=U A;clear h L A;go_enter Tryz.func145,Tryz.ntmps145
 go_wp2_with fail
 go_loopw [3,4,5,6,7,8] (λ _ _ _ _ _ _ W=>∃(c1:Core)(p:Nat->ay),Aq F ah s.c c1 c1.ag/\bf K base W G p cb {s with c:=c1}/\aG K w W/\c1.ag<=s.c.n) (λ _ _ _ _ _ _ W=>s.c.n-DH W ⟨G,7,none⟩)
 case atStart=>exact⟨s.c,hs,⟨al.o,a7.o,tO.refl _⟩,H.o,aG.refl,by have:=al.o.hle;have:=al.o.aN.len;omega⟩
 case round=>
  obtain⟨c1,p,P,aH,hF,aI⟩:=hrel;have E:=U aH;have aJ:=U hF;have g:=U P;clear aH hF;have an:c1.n=s.c.n:=P.sm.n;have aK:c1.ax.length<=s.c.n:=by have:=P.gV.aN.len;rw[an] at this;exact this
  obtain⟨b,ao⟩:∃b,c1.ag=b:=⟨_,rfl⟩
  have B:=E.o.e.kP (k:=7) (v:=.int .i64 c1.ag) rfl;rw[ao] at B;obtain⟨aL,kD,aM,Q⟩:∃A n c,p 4=⟨A,n,c⟩:=⟨_,_,_,rfl⟩
  obtain⟨aN,aq⟩:∃aN,c1.ax.length=aN:=⟨_,rfl⟩
  have ar:kD=aN:=by have:=E.o.e.kD;rw[Q] at this;exact this.trans aq
  have av:wr.cell? ⟨G,5,none⟩=some (.slice aL aN aM):=by have:=E.o.e.kP (k:=5) (v:=(p 4).v) rfl;rw[Q,ar] at this;exact this
  have D:=U (y_ an (y_ aK (y_ ao (y_ Q (y_ aq (y_ ar aI))))));clear P an aK ao Q aq ar aI
  by_cases C:b<aN
  ·have a8:decide ((b:Int)<(aN:Int))=true:=decide_eq_true (by omega);have a':(b:Int)<(aN:Int):=by omega
   obtain⟨g4,R,aw,-⟩:=E.o.e.xb (r:=4) (m:=aN) (by rw[D.o.2.2.2.1];exact D.o.2.2.2.2.2.1) (by omega);rw[D.o.2.2.2.1] at R;have R:aL=some ⟨g4,0,none⟩:=R;subst R;obtain⟨lit,S⟩:∃x,ak c1.ax b=x:=⟨_,rfl⟩
   have M:=E.o.e.Ac aw (k:=b) (by show b<c1.ax.length;rw[D.o.2.2.2.2.1];exact C);have M:wr.cell? ⟨g4,b,none⟩=some (.int .i64 lit):=by rw[<-S];exact M
   have T:gP s.c.n lit:=by rw[<-S,<-D.o.1];exact g.o.gV.aN.lit _ (mc (by rw[D.o.2.2.2.2.1];exact C))
   obtain⟨k0,V⟩:∃k:Nat,jR lit=k:=⟨_,rfl⟩
   have aO:k0<2*s.c.n+2:=by rw[<-V];exact T.at
   have aP:c1.wt.length=2*s.c.n+2:=by have:=g.o.gV.wt.qP;rw[D.o.1] at this;exact this
   have Z:bF (∀w:World,Calls z_ 181 #[.int .i64 lit] w λ e w'=>e=.returned (.int .i64 (k0:Int))/\w=w'):=U (λ w=>by have:=GG T aF w;rw[V] at this;exact this);have bw:Z9.wrap ((b:Int)+1)=(b:Int)+1:=by rw[IntKind.wrap_i64];have:=D.o;omega
   have bx:b<60000:=by have:=D.o;omega
   have bz:(k0:Int)<2*(s.c.n:Int)+2:=by omega
   have X:=U (y_ S (y_ T (y_ V (y_ aO (y_ aP (y_ aw C))))));have f7:=E.o.e.free 7;clear S T V aO aP aw C
   go_wp2_with fail
   refine w_ 9 (by kernel_rfl) (by kernel_rfl) ?_;simp only[v_,o_,u_,q_]
   iterate 9 still_step
   refine f_ ?_;change wpList _ _ _ _ _ wr.drew;have ba:=U E.o.drew;have bb:=U (aJ.o.trans (aG.drew (w:=wr)));have av:wr.drew.cell? ⟨G,5,none⟩=some (.slice (some ⟨g4,0,none⟩) aN aM):=av;have B:wr.drew.cell? ⟨G,7,none⟩=some (.int .i64 (b:Int)):=B;have M:wr.drew.cell? ⟨g4,b,none⟩=some (.int .i64 lit):=M;clear f7;generalize wr.drew=aa at*
   go_wp2_with fail
   refine wp_scope_straight ?_
   go_wp2_with fail
   refine w_ 10 (by kernel_rfl) (by kernel_rfl) ?_;simp only[v_,o_,u_,q_]
   iterate 10 still_step
   refine f_ ?_;change wpList _ _ _ _ _ aa.drew;have B:aa.drew.cell? ⟨G,7,none⟩=some (.int .i64 (b:Int)):=B;have aQ:=U ba.o.drew;have f7:=aQ.o.e.free 7;have bc:=U (bb.o.trans (aG.drew (w:=aa)));clear av M;generalize aa.drew=bd at*
   go_wp2_with fail
   have j:=aQ.o.BG (b+1);rw[show((b+1:Nat):Int)=(b:Int)+1 by omega] at j;have aR:=U (bc.o.trans j.2);have j:=U j.1;generalize bd.setCell ⟨G,7,none⟩ (.int .i64 ((b:Int)+1))=wc at j aR;obtain⟨g0,de,ab,f0⟩:=j.o.e.l7 1 0 rfl (j.o.e.kL.trans X.o.2.2.2.2.1) (by omega);have u:=j.o.e.ye de (k:=k0) (by have:=X.o.2.2.2.1;have:=X.o.2.2.2.2.1;show k0<c1.wt.length;omega);obtain⟨ad,iD,y,ae⟩:∃A n c,p (iI k0)=⟨A,n,c⟩:=⟨_,_,_,rfl⟩
   rw[ae] at u;have af:wc.cell? ⟨g0,k0,none⟩=some (.slice ad iD y):=u;clear u;obtain⟨ls,N⟩:∃ls,az c1.wt k0=ls:=⟨_,rfl⟩
   have aS:iD=ls.length:=by have:=j.o.e.Am k0;rw[ae] at this;rw[<-N];exact this
   have bg:iD<=100000:=by
    have h1:=g.o.gV.wt.nA k0;have bA:=g.o.sm.len;rw[N] at h1;omega
   have aA:=oc.start g.o.gV g.o.2 (by have:=D.o;have:=X.o.2.2.2.2.2.2;omega);rw[D.o.2.2.1,X.o.1,X.o.2.2.1,N] at aA;have Y:=U (y_ de (y_ ae (y_ N (y_ aS (y_ bg aA)))));clear de ae N aS aA f0 B f7;refine w_ 8 (by kernel_rfl) (by kernel_rfl) ?_;simp only[v_,o_,u_,q_]
   iterate 5 still_step
   still_call ((Z.o _).mono (λ e w' h=>⟨h.1,h.2.symm⟩))
   iterate 2 still_step
   refine f_ ?_;change wpList _ _ _ _ _ wc.drew;have q:=U j.o.drew;have Fd:=U (aR.o.trans (aG.drew (w:=wc)));clear ab af;generalize wc.drew=wd at*;have ab:=q.o.e.ri 1 Y.o.1 (q.o.e.kL.trans X.o.2.2.2.2.1) rfl;have f0:=q.o.e.rows.free Y.o.1 k0;have I:bF (k0<c1.wt.length):=U (by have:=X.o.2.2.2.1;have:=X.o.2.2.2.2.1;omega);have u:=q.o.e.ye Y.o.1 (k:=k0) I.o;rw[Y.o.2.1] at u;have af:wd.cell? ⟨g0,k0,none⟩=some (.slice ad iD y):=u;clear u
   by_cases aT:iD=0
   ·subst aT;have aU:ls=[]:=x_ (by have:=Y.o.2.2.2.1;omega);have J:=U aU;clear aU
    cases ad with
    |none=>
     go_wp2_with fail
     apply wp_label
     go_wp2_with fail
     refine Zq 1 ?_;rw[Zb]
     go_wp2_with fail
     refine w_ 8 (by kernel_rfl) (by kernel_rfl) ?_;simp only[v_,o_,u_,q_]
     iterate 5 still_step
     still_call ((Z.o _).mono (λ e w' h=>⟨h.1,h.2.symm⟩))
     iterate 2 still_step
     refine f_ ?_;change wpList _ _ _ _ _ wd.drew;have f:=BU (c2:={c1 with ag:=b+1}) (raw:=[]) (kept:=[]) (kl:=0) (by rw[<-J.o,<-Y.o.2.2.1];have:=BQ (c:={c1 with ag:=b+1}) I.o;rw[show az ({c1 with ag:=b+1}:Core).wt k0=az c1.wt k0 from rfl] at this;rw[this];exact q.o) Y.o.1 I.o Y.o.2.1 rfl (d_ _) (by rw[<-J.o];exact Y.o.2.2.1);have z:Aq F ah s.c {c1 with ag:=b+1} (b+1):=by
      have t:=Y.o.2.2.2.2.2;rw[J.o] at t;exact⟨t.done.1,t.8,g.o.sm.trans t.sm⟩
     go_wp2_with fail
     go_roundw
     case rel=>
      repeat apply Zi
      exact⟨⟨_,_,z,f.1,Fd.o.trans f.2,by have:=D.o;have:=X.o;show b+1<=_;omega⟩,rfl⟩
     case measure=>
      rw[f.1.y9,E.o.y9];show s.c.n-(b+1)<s.c.n-c1.ag;have:=D.o;have:=X.o;omega
    |some bB=>
     go_wp2_with fail
     apply wp_label
     go_wp2_with fail
     refine Zq 1 ?_;rw[Zb]
     go_wp2_with fail
     refine w_ 8 (by kernel_rfl) (by kernel_rfl) ?_;simp only[v_,o_,u_,q_]
     iterate 5 still_step
     still_call ((Z.o _).mono (λ e w' h=>⟨h.1,h.2.symm⟩))
     iterate 2 still_step
     refine f_ ?_;change wpList _ _ _ _ _ wd.drew;have f:=BU (c2:={c1 with ag:=b+1}) (raw:=[]) (kept:=[]) (kl:=0) (by rw[<-J.o,<-Y.o.2.2.1];have:=BQ (c:={c1 with ag:=b+1}) I.o;rw[show az ({c1 with ag:=b+1}:Core).wt k0=az c1.wt k0 from rfl] at this;rw[this];exact q.o) Y.o.1 I.o Y.o.2.1 rfl (d_ _) (by rw[<-J.o];exact Y.o.2.2.1);have z:Aq F ah s.c {c1 with ag:=b+1} (b+1):=by
      have t:=Y.o.2.2.2.2.2;rw[J.o] at t;exact⟨t.done.1,t.8,g.o.sm.trans t.sm⟩
     go_wp2_with fail
     go_roundw
     case rel=>
      repeat apply Zi
      exact⟨⟨_,_,z,f.1,Fd.o.trans f.2,by have:=D.o;have:=X.o;show b+1<=_;omega⟩,rfl⟩
     case measure=>
      rw[f.1.y9,E.o.y9];show s.c.n-(b+1)<s.c.n-c1.ag;have:=D.o;have:=X.o;omega
   ·obtain⟨ai,aj,aB,-⟩:=q.o.e.xb (r:=iI k0) (m:=iD) (by rw[Y.o.2.1]) aT;rw[Y.o.2.1] at aj;have aj:ad=some ⟨ai,0,none⟩:=aj;subst aj;have cap:=q.o.e.yb aB;rw[Y.o.2.1] at cap;have cap:iD<=y:=cap;have bC:(0:Int)<=(y:Int):=by omega
    have bh:=U cap;have bD:=U aB;clear cap aB
    go_wp2_with fail
    apply wp_label
    go_wp2_with fail
    have l:bF (rR G p c1 s lit ls k0 g0 ai iD y):=U ⟨Y.o.1,Y.o.2.1,Y.o.2.2.2.1,Y.o.2.2.2.2.1,bh.o,X.o.2.2.1,X.o.2.1,X.o.2.2.2.2.1,D.o.1,aF,aZ,X.o.2.2.2.1,g.o.sm.st,g.o.sm.len,a6⟩;clear f0 af ab
    go_loopw [5,6,7,8,48] (λ bj _ _ _ aC W=>∃(i kl:Nat)(kept:List Nat)(c2:Core)(aV:Nat->ay),aC=.int .i64 i/\bj=.slice (some ⟨ai,0,none⟩) kl y/\mK K base w G cb F ah s c1 p b lit ls k0 i kl kept c2 aV W) (λ _ _ _ _ aC _=>iD-(intOf aC).toNat)
    case atStart=>
     refine⟨0,0,[],{c1 with ag:=b+1},p,rfl,rfl,Y.o.2.2.2.2.2,rfl,?_,rfl,rfl,Fd.o⟩;rw[List.nil_append,q_,<-Y.o.2.2.1];have:=BQ (c:={c1 with ag:=b+1}) I.o;rw[show az ({c1 with ag:=b+1}:Core).wt k0=az c1.wt k0 from rfl] at this;rw[this];exact q.o
    case round=>
     obtain⟨i,kl,kept,c2,aV,rfl,rfl,d⟩:=hrel;refine L5 l.o d ?_ ?_ ?_
     ·intros
      rename_i aW
      conv=>zeta
      subst aW;have d:=U d;have O:=d.o.de l.o;have ab:=d.o.gK.e.ri 1 O (d.o.gK.e.kL.trans (d.o.raw l.o)) rfl;have f0:=d.o.gK.e.rows.free O k0;have aD:=d.o.hw.trans l.o.ag;have af:wr.cell? ⟨g0,k0,none⟩=some (.slice (some ⟨ai,0,none⟩) iD y):=by have:=d.o.gK.e.ye O (k:=k0) (by show k0<(kM c2 k0 _).wt.length;rw[d.o.raw l.o];exact l.o.hk);rw[aD] at this;exact this
      have bk:bF (k0<c2.wt.length):=U (by rw[d.o.wo l.o];exact l.o.hk);have aX:=U (y_ O aD);clear O aD
      go_upto_region 27 with fail
      refine w_ 8 (by kernel_rfl) (by kernel_rfl) ?_;simp only[v_,o_,u_,q_]
      iterate 5 still_step
      still_call ((Z.o _).mono (λ e w' h=>⟨h.1,h.2.symm⟩))
      iterate 2 still_step
      refine f_ ?_;change wpList _ _ _ _ _ wr.drew;have f:=BU (c2:=c2) (kl:=kl) (kept:=kept) d.o.gK aX.o.1 bk.o aX.o.2 (Zd d.o.tg) (by rw[List.length_append,d.o.tg];omega) (by have:=d.o.nO.done.2;rw[l.o.kR] at this;exact this);have aE:c2.ag=b+1:=d.o.nO.ag;have z:Aq F ah s.c c2 c2.ag:=by
       rw[aE];exact⟨d.o.nO.done.1,d.o.nO.8,g.o.sm.trans d.o.nO.sm⟩
      have aY:=U aE;have z:=U z;have f:=U f;clear aE
      go_wp2_with fail
      go_roundw
      case rel=>
       repeat apply Zi
       exact⟨⟨_,_,z.o,f.o.1,d.o.jB.trans f.o.2,by rw[aY.o];have:=D.o;have:=X.o;omega⟩,rfl⟩
      case measure=>
       rw[f.o.1.y9,E.o.y9];show s.c.n-c2.ag<s.c.n-c1.ag;rw[aY.o];have:=D.o;have:=X.o;omega
     ·intros
      rename_i bl
      conv=>zeta
      go_roundw
      case rel=>
       repeat apply Zi
       exact⟨⟨i+1,_,_,_,_,by go_num,rfl,bl⟩,rfl⟩
      case measure=>
       have:=l.o.len;rename_i aW _;simp[intOf];omega
     ·intros
      rename_i bn bo bp bq br f bs
      conv=>zeta
      go_ret;exact⟨some _,_,_,b,rfl,⟨bn,bo,g.o.sm.trans bp⟩,f,bs,bq,br⟩
  ·have a8:decide ((b:Int)<(aN:Int))=false:=decide_eq_false (by omega);have a':¬(b:Int)<(aN:Int):=by omega
   have bt:=U C;clear C
   go_wp2_with fail
   refine w_ 9 (by kernel_rfl) (by kernel_rfl) ?_;simp only[v_,o_,u_,q_]
   iterate 9 still_step
   refine f_ ?_;change wpList _ _ _ _ _ wr.drew
   go_wp2_with fail
   go_ret;have hle:=g.o.gV.hle;have bu:=E.o.drew;have:=D.o;have:=bt.o;exact⟨none,c1,p,c1.ag,rfl,g.o,bu,aJ.o.trans aG.drew,by omega,rfl⟩
end
section
open Go.RowKit Go.Shelf
structure wA(s:au):Prop where
 qK:o7 s.c
 ww:∀k d,d∈az s.c.wt k->d<s.c.cl.length
 wl:∀d∈s.aO,d<s.c.cl.length
theorem G0(cb:Nat->Nat)(n b:Nat){l:List Nat}(h:∀d∈l,d<n):k7 (iV cb n b) l=k7 cb l:=by
 unfold k7;refine Zs (λ d c=>?_);unfold s5;rw[bq _ _ (by have:=h d c;omega)]
theorem L7(cb:Nat->Nat)(n b:Nat){l:List (Option Nat)}(h:∀v d,mH l v=some d->d<n):uv (iV cb n b) l=uv cb l:=by
 unfold uv;refine Zs (λ o c=>?_);obtain⟨k,hk,rfl⟩:=Z3.1 c
 cases e:l[k] with
 |none=>rfl
 |some d=>
  show s5 _ d=s5 _ d;unfold s5;rw[bq _ _ (by have:=h k d (by rw[FB hk,e]);omega)]
def au.r8(s:au)(l:List Int)(x:r0):au:={s with c:={s.c with cl:=s.c.cl++[l]},ci:=s.ci++[x]}
section
variable {K:Nat->Prop}{base:Nat}{w W:World}{G:Nat}{hs:Nat->ay}{cb:Nat->Nat}{s:au}
theorem bf.DR(h:bf K base w G hs cb s)(c:wA s)(b:Nat):bf K base w G hs (iV cb s.c.cl.length b) s:=by
 refine⟨?_,⟨h.s.lt,h.s.g,h.s.row,λ d f=>by rw[bq _ _ (by omega)];exact h.s.cl d f⟩⟩;refine⟨h.e.box,⟨λ r=>?_,h.e.rows.apart⟩,λ d f=>by rw[bq _ _ (by omega)];exact h.e.cls d f,λ d e f he=>by rw[bq _ _ (by omega),bq _ _ (by omega)];exact h.e.inj d e f he,h.e.q6,λ d f=>by rw[bq _ _ (by omega)];exact h.e.rL d f⟩;have h1:=h.e.rows.row r;have:cont hs (iV cb s.c.cl.length b) s r=cont hs cb s r:=by
  unfold cont;rw[L7 cb _ b c.qK,G0 cb _ b c.wl,G0 cb _ b (λ d f=>c.ww _ d f)]
 rw[this];exact h1
theorem L8{d n:Nat}(h:d≠n):kO d≠kO n:=by unfold kO;omega
theorem bf.r8(h:bf K base w G hs cb s){hl:ay}{l:List Int}{x:r0}(hblk:aR w (cb s.c.cl.length) vv [hl.v,.bool x.k6,.int .i64 x.bp,.int .i64 x.ac])(u:base<=cb s.c.cl.length)(y:¬K (cb s.c.cl.length))(q:∀d,d<s.c.cl.length->cb d≠cb s.c.cl.length)
  (z:w.ownsRow base 3 1 hl.v hl.n (jj l)) (t:∀g,hl.b=some g->(∀r,(hs r).b≠some g)/\¬K g) (A:s.ci.length=s.c.cl.length):
  bf K base w G (iV hs (kO s.c.cl.length) hl) cb (s.r8 l x):=by
 have hlen:(s.r8 l x).c.cl.length=s.c.cl.length+1:=by simp[au.r8]
 have m:=h.e.Kv (r:=kO s.c.cl.length) (h':=hl) (ys:=jj l) (by rw[DA,BM];exact z) (λ g e r'=>(t g e).1 r');have f:∀r,r<13->iV hs (kO s.c.cl.length) hl r=hs r:=λ r f=>bq _ _ (by unfold kO;omega)
 have hw:∀k,iV hs (kO s.c.cl.length) hl (iI k)=hs (iI k):=λ k=>bq _ _ (by unfold kO iI;omega)
 have B:q5 (iV hs (kO s.c.cl.length) hl) (s.r8 l x)=q5 hs s:=by
  unfold q5 oO;rw[f 0 (by omega),f 1 (by omega),f 2 (by omega),f 3 (by omega),f 4 (by omega),f 5 (by omega),f 6 (by omega),f 7 (by omega),f 8 (by omega),f 9 (by omega),f 10 (by omega),f 11 (by omega),f 12 (by omega)];rfl
 refine⟨⟨by rw[B];exact m.box,⟨λ r=>?_,m.rows.apart⟩,λ d i=>?_,λ d e i he heq=>?_,h.e.q6,λ d i=>?_⟩,⟨h.s.lt,h.s.g,(h.s.ji (r:=kO s.c.cl.length) (h':=hl) (λ g e=>(t g e).2)).row,λ d i=>?_⟩⟩
 ·have h1:=m.rows.row r;have e:iV (cont hs cb s) (kO s.c.cl.length) (jj l) r=cont (iV hs (kO s.c.cl.length) hl) cb (s.r8 l x) r:=by
   by_cases o:r=kO s.c.cl.length
   ·subst o;rw[jT,yd];show jj l=jj (az (s.c.cl++[l]) s.c.cl.length);rw[uU]
   ·rw[bq _ _ o];rcases Zy r 13 with C|C
    ·have:r=0\/r=1\/r=2\/r=3\/r=4\/r=5\/r=6\/r=7\/r=8\/r=9\/r=10\/r=11\/r=12:=by omega
     rcases this with rfl|rfl|rfl|rfl|rfl|rfl|rfl|rfl|rfl|rfl|rfl|rfl|rfl
     ·show(List.range s.c.wt.length).map _=(List.range s.c.wt.length).map _;refine Zs (λ k _=>?_);rw[hw]
     all_goals rfl
    ·have a0:¬r=0:=by omega
     have a1:¬r=1:=by omega
     have a2:¬r=2:=by omega
     have a3:¬r=3:=by omega
     have a4:¬r=4:=by omega
     have a5:¬r=5:=by omega
     have D:¬r=6:=by omega
     have E:¬r=7:=by omega
     have F:¬r=8:=by omega
     have a9:¬r=9:=by omega
     have H:¬r=10:=by omega
     have I:¬r=11:=by omega
     have a12:¬r=12:=by omega
     unfold cont;simp only[a0,a1,a2,a3,a4,a5,D,E,F,a9,H,I,a12,if_false]
     by_cases hm:r%3=1
     ·rw[if_pos hm,if_pos hm];rfl
     ·rw[if_neg hm,if_neg hm]
      by_cases j:r%3=2
      ·rw[if_pos j,if_pos j]
       congr 1
       show _=az (s.c.cl++[l]) ((r-14)/3);rcases Zy ((r-14)/3) s.c.cl.length with J|M
       ·rw[Bl J]
       ·have N:(r-14)/3≠s.c.cl.length:=λ p=>o (by unfold kO;omega)
        unfold az;rw[Zo,Zo,Za (by omega),Za (by simp;omega)]
      ·rw[if_neg j,if_neg j];rfl
  rw[<-e];exact h1
 ·rw[hlen] at i
  by_cases e:d=s.c.cl.length
  ·subst e;have:tL (iV hs (kO s.c.cl.length) hl) (s.r8 l x) s.c.cl.length=[hl.v,.bool x.k6,.int .i64 x.bp,.int .i64 x.ac]:=by
    unfold tL;rw[jT];show [_,Value.bool ((s.ci++[x]).getD _ _).k6,j_ .i64 ((s.ci++[x]).getD _ _).bp,j_ .i64 ((s.ci++[x]).getD _ _).ac]=_;rw[yZ,if_pos A.symm]
   rw[this];exact hblk
  ·have:tL (iV hs (kO s.c.cl.length) hl) (s.r8 l x) d=tL hs s d:=by
    unfold tL;rw[bq _ _ (L8 e)];show [_,Value.bool ((s.ci++[x]).getD _ _).k6,j_ .i64 ((s.ci++[x]).getD _ _).bp,j_ .i64 ((s.ci++[x]).getD _ _).ac]=_;rw[yZ,if_neg (by omega)]
   rw[this];exact h.e.cls d (by omega)
 ·rw[hlen] at i he
  by_cases L:d=s.c.cl.length
  ·by_cases p:e=s.c.cl.length
   ·omega
   ·subst L;exact absurd heq.symm (q e (by omega))
  ·by_cases p:e=s.c.cl.length
   ·subst p;exact absurd heq (q d (by omega))
   ·exact h.e.inj d e (by omega) (by omega) heq
 ·rw[hlen] at i
  by_cases e:d=s.c.cl.length
  ·subst e;exact u
  ·exact h.e.rL d (by omega)
 ·rw[hlen] at i
  by_cases e:d=s.c.cl.length
  ·subst e;exact y
  ·exact h.s.cl d (by omega)
end
end
section
open Go.Shelf
def Tryz.L9:Zx:=⟨λ|43=>223|n=>n,λ|22=>25|23=>3|3=>3|4=>4|0=>0|n=>n,λ|n=>n⟩
theorem Tryz.Ma:Go.Proofs.SlLaysE.n43 z_ Tryz.L9:={
 mixed:=by kernel_rfl
 f43:=⟨Tryz.f223.name,by decide,Tryz.func223.trans (congrArg some (by kernel_rfl))⟩
 t0:=b_
 a0:=Zc
 z0:=Zh
 v0:=Zw
 t3:=a_
 a3:=g_
 z3:=l_
 v3:=n_
 t4:=i_
 a4:=Zp
 z4:=Zv
 v4:=e_
 t22:=s_
 a22:=Zu
 z22:=c_
 v22:=h_
 a23:=g_
 z23:=l_}
open Go.RowKit Go.Lib Go.Sort in
theorem Tryz.slices_Compact{α:Type}[Inhabited α][DecidableEq α](enc:α->Value)(hO:OneCell enc)(heq:EqlAt z_ 3 enc (λ x y=>decide (x=y)))(c:NeqAt z_ 3 enc (λ x y=>decide (x=y)))(b:α)(v23:∀w,(zeroValue 3).run z_ w=.ok (enc b) w)(blk off cap:Nat)(d:Array α)(w:World)(hH:Holds enc w blk off d)(f:d.size<=9223372036854775807)(g:d.size<=cap):
 Calls z_ 223 #[.slice (some ⟨blk,off,none⟩) d.size cap] w λ e w'=>e=.returned (.slice (some ⟨blk,off,none⟩) (compactUpTo d d.size).length cap)/\∃q,w'=putRow enc (Sort.ahead w q) blk off (compactUpTo d d.size++Zr (d.size-(compactUpTo d d.size).length) b).toArray:=AnyE.slices_Compact Tryz.Ma enc hO heq c b v23 blk off cap d w hH f g
def Tryz.Mb:Zx:=⟨λ|41=>81|n=>n,λ|22=>25|23=>3|4=>4|n=>n,λ|n=>n⟩
theorem Tryz.G1:Go.Proofs.SlLaysE0.n41 z_ Tryz.Mb:={
 mixed:=by kernel_rfl
 f41:=⟨Tryz.f81.name,by decide,Tryz.func81.trans (congrArg some (by kernel_rfl))⟩
 t4:=i_
 a4:=Zp
 z4:=Zv
 v4:=e_
 t22:=s_
 a22:=Zu
 z22:=c_
 v22:=h_}
open Go.RowKit Go.Lib in
theorem Tryz.slices_Clone(i0:TypeInfo)(z:Value)(size bytes:Nat)(d:z_.info? 3=some i0)(f:i0.zero=some z)(g:i0.size=size)(i:i0.bytes=bytes)(k:z.cells.size=size)(l:0<size)(z23:∀w,(Go.sizeOf 3).run z_ w=.ok size w)(b off n c:Nat)(news:List Value)(w:World)(hl:news.length=n*size)(m:n<=maxLen)(o:n*bytes<=140737488355328)(p:∀j u,news[j]? =some u->w.cell? ⟨b,off+j,none⟩=some u)(h1:∀u∈news,u.oneCell'=true):
 Calls z_ 81 #[.slice (some ⟨b,off,none⟩) n c] w λ e w'=>∃v',e=.returned v'/\w'.ownsRow w.heap.size 3 size v' n news/\v'≠ .slice none 0 0/\Below w.heap.size w w':=AnyE.slices_Clone Tryz.G1 i0 z size bytes d f g i k l z23 b off n c news w hl m o p h1
open Go.RowKit Go.Lib in
theorem Tryz.slices_Clone_nil(n c:Nat)(w:World):
 Calls z_ 81 #[.slice none n c] w λ e w'=>e=.returned (.slice none 0 0)/\w'=w:=AnyE.slices_Clone_nil Tryz.G1 n c w
def Tryz.Mc:Zx:=⟨λ|10=>85|6=>142|n=>n,λ|22=>25|23=>3|25=>106|3=>3|4=>4|0=>0|n=>n,λ|n=>n⟩
theorem Tryz.Md:Go.Proofs.SlLaysH.n10 z_ Tryz.Mc:={
 mixed:=by kernel_rfl
 f6:=⟨Tryz.f142.name,by decide,Tryz.func142.trans (congrArg some (by kernel_rfl))⟩
 f10:=⟨Tryz.f85.name,by decide,Tryz.func85.trans (congrArg some (by kernel_rfl))⟩
 t0:=b_
 a0:=Zc
 z0:=Zh
 v0:=Zw
 t3:=a_
 a3:=g_
 z3:=l_
 v3:=n_
 t4:=i_
 a4:=Zp
 z4:=Zv
 v4:=e_
 t22:=s_
 a22:=Zu
 z22:=c_
 v22:=h_
 a23:=g_
 z23:=l_
 t25:=Tryz.underlying106
 a25:=Tryz.isAgg106
 z25:=Tryz.sizeOf106
 v25:=Tryz.zeroValue106}
open Go.RowKit Go.Lib Go.Sort in
theorem Tryz.slices_DeleteFunc{α:Type}[Inhabited α](enc:α->Value)(hO:OneCell enc)(p:α->Bool)(g:Nat)(lb:Array Value)(c:∀args w,(callFunc g args).run z_ w=.ok (.enter g args) w)(b:α)(v23:∀w,(zeroValue 3).run z_ w=.ok (enc b) w)(blk off cap:Nat)(d:Array α)(w:World)(hp:PredAt z_ g lb enc p w)(f:PredOver z_ g lb enc p blk off d.size w)(hH:Holds enc w blk off d)(i:d.size<=9223372036854775807)(j:d.size<=cap):
 Calls z_ 85 #[.slice (some ⟨blk,off,none⟩) d.size cap,.func (.func g) #[] lb] w λ e w'=>e=.returned (.slice (some ⟨blk,off,none⟩) (d.toList.filter λ x=> !p x).length cap)/\∃q,w'=putRow enc (Sort.ahead w q) blk off ((d.toList.filter λ x=> !p x)++Zr (d.size-(d.toList.filter λ x=> !p x).length) b).toArray:=AnyE.slices_DeleteFunc Tryz.Md enc hO p g lb c b v23 blk off cap d w hp f hH i j
def Tryz.Me:Zx:=⟨λ|6=>157|15=>178|14=>195|28=>219|29=>220|20=>228|21=>229|22=>230|23=>231|24=>232|25=>233|26=>234|27=>235|46=>258|47=>254|48=>255|49=>259|50=>260|57=>269|n=>n,λ|22=>25|24=>3|25=>177|3=>3|39=>77|0=>0|53=>217|55=>219|4=>4|46=>211|45=>210|50=>137|5=>5|9=>9|66=>235|70=>239|76=>248|77=>249|n=>n,λ|n=>n⟩
theorem Tryz.Mf:Go.Proofs.SlLaysF.n6 z_ Tryz.Me:={
 mixed:=by kernel_rfl
 f6:=⟨Tryz.f157.name,by decide,Tryz.func157.trans (congrArg some (by kernel_rfl))⟩
 f14:=⟨Tryz.f195.name,by decide,Tryz.func195.trans (congrArg some (by kernel_rfl))⟩
 f15:=Tryz.func178.trans (congrArg some (by kernel_rfl))
 f20:=⟨Tryz.f228.name,by decide,Tryz.func228.trans (congrArg some (by kernel_rfl))⟩
 f21:=⟨Tryz.f229.name,by decide,Tryz.func229.trans (congrArg some (by kernel_rfl))⟩
 f22:=⟨Tryz.f230.name,by decide,Tryz.func230.trans (congrArg some (by kernel_rfl))⟩
 f23:=⟨Tryz.f231.name,by decide,Tryz.func231.trans (congrArg some (by kernel_rfl))⟩
 f24:=⟨Tryz.f232.name,by decide,Tryz.func232.trans (congrArg some (by kernel_rfl))⟩
 f25:=⟨Tryz.f233.name,by decide,Tryz.func233.trans (congrArg some (by kernel_rfl))⟩
 f26:=⟨Tryz.f234.name,by decide,Tryz.func234.trans (congrArg some (by kernel_rfl))⟩
 f27:=⟨Tryz.f235.name,by decide,Tryz.func235.trans (congrArg some (by kernel_rfl))⟩
 f28:=Tryz.func219.trans (congrArg some (by kernel_rfl))
 f29:=Tryz.func220.trans (congrArg some (by kernel_rfl))
 f46:=⟨Tryz.f258.name,by decide,Tryz.func258.trans (congrArg some (by kernel_rfl))⟩
 f47:=Tryz.func254.trans (congrArg some (by kernel_rfl))
 f48:=Tryz.func255.trans (congrArg some (by kernel_rfl))
 f49:=⟨Tryz.f259.name,by decide,Tryz.func259.trans (congrArg some (by kernel_rfl))⟩
 f50:=⟨Tryz.f260.name,by decide,Tryz.func260.trans (congrArg some (by kernel_rfl))⟩
 f57:=⟨Tryz.f269.name,by decide,Tryz.func269.trans (congrArg some (by kernel_rfl))⟩
 t0:=b_
 a0:=Zc
 z0:=Zh
 v0:=Zw
 t3:=a_
 a3:=g_
 z3:=l_
 v3:=n_
 t4:=i_
 a4:=Zp
 z4:=Zv
 v4:=e_
 t5:=Tryz.underlying5
 a5:=Tryz.isAgg5
 z5:=Tryz.sizeOf5
 v5:=Tryz.zeroValue5
 t9:=Tryz.underlying9
 a9:=Tryz.isAgg9
 z9:=Tryz.sizeOf9
 v9:=Tryz.zeroValue9
 t22:=s_
 a22:=Zu
 z22:=c_
 v22:=h_
 a24:=g_
 z24:=l_
 t25:=Tryz.underlying177
 a25:=Tryz.isAgg177
 z25:=Tryz.sizeOf177
 v25:=Tryz.zeroValue177
 t39:=Tryz.underlying77
 a39:=Tryz.isAgg77
 z39:=Tryz.sizeOf77
 v39:=Tryz.zeroValue77
 t45:=Tryz.underlying210
 a45:=Tryz.isAgg210
 z45:=Tryz.sizeOf210
 v45:=Tryz.zeroValue210
 t46:=Tryz.underlying211
 a46:=Tryz.isAgg211
 z46:=Tryz.sizeOf211
 v46:=Tryz.zeroValue211
 t50:=Tryz.underlying137
 a50:=Tryz.isAgg137
 z50:=Tryz.sizeOf137
 v50:=Tryz.zeroValue137
 t53:=Tryz.underlying217
 a53:=Tryz.isAgg217
 z53:=Tryz.sizeOf217
 v53:=Tryz.zeroValue217
 t55:=Tryz.underlying219
 a55:=Tryz.isAgg219
 z55:=Tryz.sizeOf219
 v55:=Tryz.zeroValue219
 t66:=Tryz.underlying235
 a66:=Tryz.isAgg235
 z66:=Tryz.sizeOf235
 v66:=Tryz.zeroValue235
 t70:=Tryz.underlying239
 a70:=Tryz.isAgg239
 z70:=Tryz.sizeOf239
 v70:=Tryz.zeroValue239
 t76:=Tryz.underlying248
 a76:=Tryz.isAgg248
 z76:=Tryz.sizeOf248
 v76:=Tryz.zeroValue248
 t77:=Tryz.underlying249
 a77:=Tryz.isAgg249
 z77:=Tryz.sizeOf249
 v77:=Tryz.zeroValue249}
def Tryz.Mg:Zx:=⟨λ|6=>157|15=>178|14=>195|28=>219|29=>220|20=>228|21=>229|22=>230|23=>231|24=>232|25=>233|26=>234|27=>235|46=>258|47=>254|48=>255|49=>259|50=>260|57=>269|n=>n,λ|22=>25|24=>3|25=>177|3=>3|39=>77|0=>0|53=>217|55=>219|4=>4|46=>211|45=>210|50=>137|5=>5|9=>9|66=>235|70=>239|76=>248|77=>249|n=>n,λ|n=>n⟩
theorem Tryz.Mh:Go.Proofs.SlLaysF0.n6 z_ Tryz.Mg:={
 mixed:=by kernel_rfl
 f6:=⟨Tryz.f157.name,by decide,Tryz.func157.trans (congrArg some (by kernel_rfl))⟩
 f14:=⟨Tryz.f195.name,by decide,Tryz.func195.trans (congrArg some (by kernel_rfl))⟩
 f15:=Tryz.func178.trans (congrArg some (by kernel_rfl))
 f20:=⟨Tryz.f228.name,by decide,Tryz.func228.trans (congrArg some (by kernel_rfl))⟩
 f21:=⟨Tryz.f229.name,by decide,Tryz.func229.trans (congrArg some (by kernel_rfl))⟩
 f22:=⟨Tryz.f230.name,by decide,Tryz.func230.trans (congrArg some (by kernel_rfl))⟩
 f23:=⟨Tryz.f231.name,by decide,Tryz.func231.trans (congrArg some (by kernel_rfl))⟩
 f24:=⟨Tryz.f232.name,by decide,Tryz.func232.trans (congrArg some (by kernel_rfl))⟩
 f25:=⟨Tryz.f233.name,by decide,Tryz.func233.trans (congrArg some (by kernel_rfl))⟩
 f26:=⟨Tryz.f234.name,by decide,Tryz.func234.trans (congrArg some (by kernel_rfl))⟩
 f27:=⟨Tryz.f235.name,by decide,Tryz.func235.trans (congrArg some (by kernel_rfl))⟩
 f28:=Tryz.func219.trans (congrArg some (by kernel_rfl))
 f29:=Tryz.func220.trans (congrArg some (by kernel_rfl))
 f46:=⟨Tryz.f258.name,by decide,Tryz.func258.trans (congrArg some (by kernel_rfl))⟩
 f47:=Tryz.func254.trans (congrArg some (by kernel_rfl))
 f48:=Tryz.func255.trans (congrArg some (by kernel_rfl))
 f49:=⟨Tryz.f259.name,by decide,Tryz.func259.trans (congrArg some (by kernel_rfl))⟩
 f50:=⟨Tryz.f260.name,by decide,Tryz.func260.trans (congrArg some (by kernel_rfl))⟩
 f57:=⟨Tryz.f269.name,by decide,Tryz.func269.trans (congrArg some (by kernel_rfl))⟩
 t0:=b_
 a0:=Zc
 z0:=Zh
 v0:=Zw
 t3:=a_
 a3:=g_
 z3:=l_
 v3:=n_
 t4:=i_
 a4:=Zp
 z4:=Zv
 v4:=e_
 t5:=Tryz.underlying5
 a5:=Tryz.isAgg5
 z5:=Tryz.sizeOf5
 v5:=Tryz.zeroValue5
 t9:=Tryz.underlying9
 a9:=Tryz.isAgg9
 z9:=Tryz.sizeOf9
 v9:=Tryz.zeroValue9
 t22:=s_
 a22:=Zu
 z22:=c_
 v22:=h_
 t25:=Tryz.underlying177
 a25:=Tryz.isAgg177
 z25:=Tryz.sizeOf177
 v25:=Tryz.zeroValue177
 t39:=Tryz.underlying77
 a39:=Tryz.isAgg77
 z39:=Tryz.sizeOf77
 v39:=Tryz.zeroValue77
 t45:=Tryz.underlying210
 a45:=Tryz.isAgg210
 z45:=Tryz.sizeOf210
 v45:=Tryz.zeroValue210
 t46:=Tryz.underlying211
 a46:=Tryz.isAgg211
 z46:=Tryz.sizeOf211
 v46:=Tryz.zeroValue211
 t50:=Tryz.underlying137
 a50:=Tryz.isAgg137
 z50:=Tryz.sizeOf137
 v50:=Tryz.zeroValue137
 t53:=Tryz.underlying217
 a53:=Tryz.isAgg217
 z53:=Tryz.sizeOf217
 v53:=Tryz.zeroValue217
 t55:=Tryz.underlying219
 a55:=Tryz.isAgg219
 z55:=Tryz.sizeOf219
 v55:=Tryz.zeroValue219
 t66:=Tryz.underlying235
 a66:=Tryz.isAgg235
 z66:=Tryz.sizeOf235
 v66:=Tryz.zeroValue235
 t70:=Tryz.underlying239
 a70:=Tryz.isAgg239
 z70:=Tryz.sizeOf239
 v70:=Tryz.zeroValue239
 t76:=Tryz.underlying248
 a76:=Tryz.isAgg248
 z76:=Tryz.sizeOf248
 v76:=Tryz.zeroValue248
 t77:=Tryz.underlying249
 a77:=Tryz.isAgg249
 z77:=Tryz.sizeOf249
 v77:=Tryz.zeroValue249}
open Go.RowKit Go.Lib Go.Sort in
theorem Tryz.slices_SortFunc_none{α:Type}[Inhabited α](p:Option Addr)(cap:Nat)(b:Value)(w:World):
 Calls z_ 157 #[.slice p 0 cap,b] w λ e w'=>e=.returned (.tuple #[])/\w'=w:=AnyF.slices_SortFunc_none Tryz.Mh p cap b w
open Go.RowKit Go.Lib Go.Sort in
theorem Tryz.slices_SortFunc_total{α:Type}[Inhabited α](enc:α->Value)(h1:OneCell enc)(b:α->α->Int)(hO:SWO (ltOf b))(g:Nat)(cb:Array Value)(blk off cap:Nat)(d:Array α)(w:World)(c:∀args w,(callFunc g args).run z_ w=.ok (.enter g args) w)(f:CmpLays1 z_ g cb enc b blk off d.size w)(hH:Holds enc w blk off d)(hblk:blk<w.heap.size)(i:d.size<4611686018427387904)(j:∀x y,(ltOf b) x y=false->(ltOf b) y x=false->x=y):
 Calls z_ 157 #[.slice (some ⟨blk,off,none⟩) d.size cap,.func (.func g) #[] cb] w λ e w'=>
  e=.returned (.tuple #[])/\∃n os,w'=sortWorld enc w blk off n (d.toList.mergeSort λ x y=> !(ltOf b) y x).toArray os:=Any.slices_SortFunc_total Tryz.Mf enc h1 b hO g cb blk off cap d w c f hH hblk i j
end
section
open Go.RowKit Go.Shelf Go.Sort Go.Lib
theorem Mi:∀args w,(callFunc 221 args).run z_ w=.ok (.enter 221 args) w:=enters_of Tryz.func221 (by kernel_rfl) rfl
theorem Mj:∀args w,(callFunc 222 args).run z_ w=.ok (.enter 222 args) w:=enters_of Tryz.func222 (by kernel_rfl) rfl
theorem G2(x:Int)(w:World):Calls z_ 221 #[.int .i64 x] w λ e w'=>e=.returned (.bool (!(l5 x 65536)))/\w=w':=by
 go_enter Tryz.func221,Tryz.ntmps221
 go_wp2_with (go_at_call 163;refine(E7 x 65536 w (by omega) (by omega)).mono ?_;rintro e w' ⟨rfl,rfl⟩)
 go_ret;exact⟨rfl,rfl⟩
def B7(a b:Int):Int:=rW (ox (rA a) (rA b)) (ox b a)
theorem Mk(x y:Int)(w:World)(b: -65536<=x)(c:x<=65536)(d: -65536<=y)(f:y<=65536):
  Calls z_ 222 #[.int .i64 x,.int .i64 y] w λ e w'=>e=.returned (.int .i64 (B7 x y))/\w'=w.alloc (.cells #[.int .i64 (ox (rA x) (rA y)),.int .i64 (ox y x)] 3):=by
 have g:=U (y_ b c);have i:=U (y_ d f);clear b c d f;go_enter Tryz.func222,Tryz.ntmps222
 go_wp2_with (first
  |(go_at_call 168;refine(Jh _ _ (by first|exact g.o.1|exact i.o.1) (by first|exact g.o.2|exact i.o.2)).mono ?_;rintro e w' ⟨rfl,rfl⟩)
  |(go_at_call 160;refine(zM _ _ _).mono ?_;rintro e w' ⟨rfl,rfl⟩)
  |(go_at_call 159;refine(Bd w.heap.size (ox (rA x) (rA y)) (ox y x) _ (by go_simp) (by go_simp)).mono ?_;rintro e w' ⟨rfl,rfl⟩))
 go_ret;exact⟨rfl,rfl⟩
theorem Ml(b:Value)(w:World):
  Calls z_ 142 #[.slice none 0 0,b] w λ e w'=>e=.returned (.int .i64 (-1))/\w=w':=by
 go_enter Tryz.func142,Tryz.ntmps142
 go_wp2;refine Zq 1 ?_;rw[Zb];go_wp2;go_ret;exact⟨rfl,rfl⟩
theorem DS(b:Value)(w:World):
  Calls z_ 85 #[.slice none 0 0,b] w λ e w'=>e=.returned (.slice none 0 0)/\w=w':=by
 have c:=Ml b w;go_enter Tryz.func85,Tryz.ntmps85
 go_wp2_with (go_at_call 142;refine c.mono ?_;rintro e w' ⟨rfl,rfl⟩)
 go_ret;exact⟨rfl,rfl⟩
theorem Mm(w:World):
  Calls z_ 223 #[.slice none 0 0] w λ e w'=>e=.returned (.slice none 0 0)/\w=w':=by
 go_enter Tryz.func223,Tryz.ntmps223
 go_wp2;go_ret;exact⟨rfl,rfl⟩
def pZ(a b:Int):Bool:=decide (rA a<rA b)||(decide (rA a=rA b)&&decide (b<a))
theorem xq:pZ a b=true↔rA a<rA b\/(rA a=rA b/\b<a):=by simp[pZ]
theorem B8(a:Int):¬pZ a a=true:=by rw[xq];omega
theorem DT{c:Int}(h1:pZ a b=true)(d:pZ b c=true):pZ a c=true:=by rw[xq] at*;omega
theorem Mn(h1:pZ a b=true):¬pZ b a=true:=by rw[xq] at*;omega
theorem B9(h:a≠b):pZ a b=true\/pZ b a=true:=by rw[xq,xq];omega
def sD(l:List Int):Prop:=l.Pairwise λ a b=>pZ a b=true
theorem G3:∀{l m:List Int},sD l->sD m->(∀x,x∈l↔x∈m)->l=m
 |[],[],_,_,_=>rfl
 |[],y::m,_,_,h=>by have:=(h y).2 (by simp);simp at this
 |x::l,[],_,_,h=>by have:=(h x).1 (by simp);simp at this
 |x::l,y::m,h1,i,h=>by
  have d:=m_.1 h1;have f:=m_.1 i;have e:x=y:=by
   have b:=(h x).1 (by simp);have c:=(h y).2 (by simp);rcases p_.1 b with b|b
   ·exact b
   ·rcases p_.1 c with c|c
    ·exact c.symm
    ·exact absurd (d.1 y c) (Mn (f.1 x b))
  subst e
  congr 1
  refine G3 d.2 f.2 λ z=>?_
  have g:=h z;simp only[p_] at g;constructor
  ·intro hm;rcases g.1 (t_ hm) with e|e
   ·subst e;exact absurd (d.1 z hm) (B8 z)
   ·exact e
  ·intro hm;rcases g.2 (t_ hm) with e|e
   ·subst e;exact absurd (f.1 z hm) (B8 z)
   ·exact e
def xu(x:Int):List Int->List Int
 |[]=> [x]
 |y::l=>if pZ y x=true then y::xu x l else x::y::l
theorem DU{x z:Int}:∀{l:List Int},z∈xu x l↔z=x\/z∈l
 |[]=>by simp[xu]
 |y::l=>by
  unfold xu;split
  ·simp only[p_,DU];constructor
   ·rintro(h|h|h)
    ·exact t_ (r_ h)
    ·exact r_ h
    ·exact t_ (t_ h)
   ·rintro(h|h|h)
    ·exact t_ (r_ h)
    ·exact r_ h
    ·exact t_ (t_ h)
  ·simp
theorem G4{x:Int}:∀{l:List Int},sD l->x∉l->sD (xu x l)
 |[],_,_=>by simp[xu,sD]
 |y::l,h,b=>by
  have h':=m_.1 h;simp only[p_,not_or] at b;unfold xu;split
  ·rename_i c;refine m_.2 ⟨λ z d=>?_,G4 h'.2 b.2⟩;rcases DU.1 d with e|e
   ·subst e;exact c
   ·exact h'.1 z e
  ·rename_i c;have f:pZ x y=true:=(B9 b.1).resolve_right c;refine m_.2 ⟨λ z d=>?_,h⟩;rcases p_.1 d with e|e
   ·subst e;exact f
   ·exact DT f (h'.1 z e)
def yo(out:List Int)(x:Int):List Int:=if l5 x 65536=true/\hasB out x=false then xu x out else out
def lg(l:List Int):List Int:=l.foldl yo []
theorem DV:∀(l out:List Int),sD out->(sD (l.foldl yo out)/\∀x,x∈l.foldl yo out↔x∈out\/(x∈l/\l5 x 65536=true))
 |[],out,h=>⟨h,λ x=>by simp⟩
 |y::l,out,h=>by
  have hs:sD (yo out y)/\∀x,x∈yo out y↔x∈out\/(x=y/\l5 x 65536=true):=by
   unfold yo;split
   ·rename_i c;have f:y∉out:=λ hm=>by have:=wI.2 hm;rw[c.2] at this;cases this
    refine⟨G4 h f,λ x=>?_⟩;rw[DU];constructor
    ·rintro(e|e)
     ·subst e;exact t_ ⟨rfl,c.1⟩
     ·exact r_ e
    ·rintro(e|⟨e,_⟩)
     ·exact t_ e
     ·exact r_ e
   ·rename_i c;refine⟨h,λ x=>⟨r_,?_⟩⟩;rintro(e|⟨e,b⟩)
    ·exact e
    ·subst e
     cases d:hasB out x with
     |true=>exact wI.1 d
     |false=>exact absurd ⟨b,d⟩ c
  obtain⟨h1,g⟩:=DV l (yo out y) hs.1;refine⟨h1,λ x=>?_⟩;rw[List.foldl_cons,g,hs.2,p_];constructor
  ·rintro((e|⟨e,b⟩)|⟨e,b⟩)
   ·exact r_ e
   ·exact t_ ⟨r_ e,b⟩
   ·exact t_ ⟨t_ e,b⟩
  ·rintro(e|⟨e|e,b⟩)
   ·exact r_ (r_ e)
   ·exact r_ (t_ ⟨e,b⟩)
   ·exact t_ ⟨e,b⟩
theorem G5(l:List Int):sD (lg l):=(DV l [] (by simp[sD])).1
theorem Ca:x∈lg l↔x∈l/\l5 x 65536=true:=by
 have:=(DV l [] (by simp[sD])).2 x;simpa[lg] using this
theorem Mo{m:List Int}(h:sD m)(hm:∀x,x∈m↔x∈l/\l5 x 65536=true):m=lg l:=
 G3 h (G5 l) λ x=>by rw[hm,Ca]
abbrev r9:={x:Int//x≠0/\ -65536<=x/\x<=65536}
instance:Inhabited r9:=⟨⟨1,by decide⟩⟩
def oV(x:Int):Value:=.int .i64 x
def zl(x:r9):Value:=.int .i64 x.1
def sE(x y:r9):Int:=B7 x.1 y.1
theorem Mp{y:Int}:B7 x y<0↔pZ x y=true:=by
 rw[xq];unfold B7 rW ox;(repeat' split)<;>omega
theorem Aw(x y:r9):ltOf sE x y=pZ x.1 y.1:=by
 unfold ltOf sE;rw[Bool.eq_iff_iff,decide_eq_true_eq,Mp]
theorem Cb:SWO (ltOf sE) where
 irrefl x:=by rw[Aw];simpa using B8 x.1
 trans x y z h1 c:=by rw[Aw] at*;exact DT h1 c
 ntrans x y z h1 c:=by
  rw[Aw] at*
  cases h:pZ x.1 z.1 with
  |false=>rfl
  |true=>
   exfalso;have a:¬pZ x.1 y.1=true:=by rw[h1];exact Zz
   have b:¬pZ y.1 z.1=true:=by rw[c];exact Zz
   rw[xq] at*;omega
theorem Mq(x y:r9)(h1:ltOf sE x y=false)(b:ltOf sE y x=false):x=y:=by
 rw[Aw] at*;rcases Classical.em (x.1=y.1) with e|e
 ·exact Subtype.ext e
 ·rcases B9 e with h|h
  ·rw[h1] at h;cases h
  ·rw[b] at h;cases h
theorem Mr(blk off size:Nat)(w:World):CmpLays1 z_ 222 #[] zl sE blk off size w:=by
 intro m os b hs x y;refine(Mk x.1 y.1 _ x.2.2.1 x.2.2.2 y.2.2.1 y.2.2.2).mono ?_;rintro e w' ⟨rfl,rfl⟩;exact⟨rfl,0, #[_],by rw[alloc_eq_grow];rfl⟩
def zm(x:Int):Bool:= !(l5 x 65536)
theorem Ms(w:World):PredAt z_ 221 #[] oV zm w:=by
 intro W x _;unfold FnGives;exact(G2 x W).mono λ _ _ ⟨he,hw⟩=>⟨he,0,by rw[<-hw];rfl⟩
theorem Mt(blk off size:Nat)(w:World):PredOver z_ 221 #[] oV zm blk off size w:=by
 intro n os b x _;unfold FnGives;exact(G2 x _).mono λ _ _ ⟨he,hw⟩=>⟨he,0,by rw[<-hw];rfl⟩
theorem zn:OneCell oV:=λ _=>rfl
theorem Mu:OneCell zl:=λ _=>rfl
theorem filter_eq(b:List Int):(b.filter λ x=> !zm x)=b.filter λ x=>l5 x 65536:=by
 congr 1;funext x;simp[zm]
def yp(b:List Int):List r9:=b.filterMap λ x=>if h:x≠0/\ -65536<=x/\x<=65536 then some ⟨x,h⟩ else none
theorem G6(b:List Int):(yp b).map (·.1)=b.filter λ x=>l5 x 65536:=by
 induction b with
 |nil=>rfl
 |cons x l d=>
  unfold yp at*
  by_cases h:x≠0/\ -65536<=x/\x<=65536
  ·have c:l5 x 65536=true:=vO.2 h;rw[List.filterMap_cons,List.filter_cons,c,dif_pos h];simpa using d
  ·have c:l5 x 65536=false:=by
    cases e:l5 x 65536 with
    |false=>rfl
    |true=>exact absurd (vO.1 e) h
   rw[List.filterMap_cons,List.filter_cons,c,dif_neg h];simpa using d
def G7(d:Array r9)(m:Nat):Prop:=∀i j,i<j->j<m->pZ d[j]!.1 d[i]!.1=false
theorem G8(d:Array r9):∀m,G7 d m->
  sD ((compactUpTo d m).map (·.1))/\(∀x,x∈compactUpTo d m↔∃i,i<m/\d[i]! =x)
 |0,_=>⟨by simp[compactUpTo,sD],λ x=>by simp[compactUpTo]⟩
 |m+1,h=>by
  obtain⟨h1,g⟩:=G8 d m (λ i j c t=>h i j c (by omega));rw[Zg]
  by_cases hk:keeps d m=true
  ·rw[if_pos hk];constructor
   ·rw[List.map_append];refine List.pairwise_append.2 ⟨h1,by simp,λ a o b k=>?_⟩;simp only[List.map_cons,List.map_nil,List.mem_singleton] at k;subst k;obtain⟨y,p,rfl⟩:=Z4.1 o;obtain⟨i,c,rfl⟩:=(g y).1 p;have q:d[m]! ≠d[m-1]! :=by
     have:=of_decide_eq_true hk;rcases this with e|e
     ·omega
     ·exact e
    have a1:pZ d[m]!.1 d[m-1]!.1=false:=h (m-1) m (by omega) (by omega);have a2:pZ d[m-1]!.1 d[m]!.1=true:=(B9 (λ e=>q (Subtype.ext e.symm))).resolve_right (by rw[a1];exact Zz);rcases Zy i (m-1) with f|l
    ·have a3:pZ d[m-1]!.1 d[i]!.1=false:=h i (m-1) f (by omega);rcases Classical.em (d[i]!.1=d[m-1]!.1) with e|e
     ·rw[e];exact a2
     ·exact DT ((B9 e).resolve_right (by rw[a3];exact Zz)) a2
    ·have:i=m-1:=by omega
     subst this;exact a2
   ·intro x;rw[List.mem_append,g,List.mem_singleton];constructor
    ·rintro(⟨i,c,e⟩|e)
     ·exact⟨i,by omega,e⟩
     ·exact⟨m,by omega,e.symm⟩
    ·rintro⟨i,c,e⟩;rcases Zy i m with f|l
     ·exact r_ ⟨i,f,e⟩
     ·have:i=m:=by omega
      subst this;exact t_ e.symm
  ·rw[if_neg hk,List.append_nil];refine⟨h1,λ x=>?_⟩;rw[g];constructor
   ·rintro⟨i,c,e⟩;exact⟨i,by omega,e⟩
   ·rintro⟨i,c,e⟩;rcases Zy i m with f|l
    ·exact⟨i,f,e⟩
    ·have r:i=m:=by omega
     subst r;have n:¬(i=0\/d[i]! ≠d[i-1]!):=λ s=>hk (decide_eq_true s)
     have u:i≠0:=λ e=>n (r_ e)
     have he:d[i]! =d[i-1]! :=Classical.byContradiction λ e=>n (t_ e)
     exact⟨i-1,by omega,by rw[<-he];exact e⟩
def uF(b:List Int):List r9:=(yp b).mergeSort λ x y=> !(ltOf sE) y x
theorem Mv{x:r9}:x∈yp ai↔x.1∈ai:=by
 unfold yp;rw[List.mem_filterMap];constructor
 ·rintro⟨a,b,h⟩;split at h
  ·injection h with h;rw[<-h];exact b
  ·cases h
 ·intro h;exact⟨x.1,h,by rw[dif_pos x.2]⟩
theorem Mw(d:List Int):G7 (uF d).toArray (uF d).length:=by
 have h:(uF d).Pairwise λ x y=>(!(ltOf sE) y x)=true:=by
  refine List.pairwise_mergeSort ?_ ?_ _
  ·intro a b c h1 e;simp only[Zn] at*;exact Cb.ntrans c b a e h1
  ·intro a b;simp only[Bool.or_eq_true,Zn]
   cases h1:ltOf sE b a with
   |false=>exact r_ rfl
   |true=>
    right
    cases e:ltOf sE a b with
    |false=>rfl
    |true=>have:=Cb.trans _ _ _ h1 e;rw[Cb.irrefl] at this;cases this
 intro i j g f;have:=List.pairwise_iff_getElem.1 h i j (by omega) f g;simp only[Zn,Aw] at this;rw[getElem!_pos _ _ (by simpa using f),getElem!_pos _ _ (by simp;omega)];simpa using this
theorem G9(b:List Int):(compactUpTo (uF b).toArray (uF b).length).map (·.1)=lg b:=by
 obtain⟨h1,d⟩:=G8 (uF b).toArray (uF b).length (Mw b);refine Mo h1 λ x=>?_
 rw[Z4];have hm:∀y:r9,y∈compactUpTo (uF b).toArray (uF b).length↔y.1∈b:=by
  intro y;rw[d,<-Mv,<-List.mem_mergeSort (le:=λ x y=> !(ltOf sE) y x)];show _↔y∈uF b;rw[Z3];constructor
  ·rintro⟨i,c,e⟩;rw[getElem!_pos _ _ (by simpa using c)] at e;exact⟨i,c,by simpa using e⟩
  ·rintro⟨i,c,e⟩;exact⟨i,c,by rw[getElem!_pos _ _ (by simpa using c)];simpa using e⟩
 constructor
 ·rintro⟨y,f,rfl⟩;exact⟨(hm y).1 f,vO.2 y.2⟩
 ·rintro⟨g,j⟩;exact⟨⟨x,vO.1 j⟩,(hm _).2 g,rfl⟩
def Mx(b:List Int)(w:World)(e:Ending)(w':World):Prop:=
 ∃A c,e=.returned (.slice A b.length c)/\w'.ownsRow w.heap.size 3 1 (.slice A b.length c) b.length (b.map (j_ .i64))/\Below w.heap.size w w'
theorem vD(A:Option Addr)(n c:Nat)(f:List Int)(w:World)(h:aP w A n c f):
  Calls z_ 81 #[.slice A n c] w (Mx f w):=by
 obtain⟨i0,s,t,v,y⟩:=info_parts xS;have E:∀(w:World)(a:Option Addr)(n c m c':Nat),(binOp .eql 25 (.slice a n c) (.slice none m c')).run z_ w=.ok (.bool a.isNone) w:=λ w a n c m c'=>Lib.run_eql_slice_nil w _ _ a n c m c' s_
 have hlen:=h.len;have F:=h.mG;have H:=U h;clear h
 cases A with
 |none=>
  have z:n=0:=by
   rcases Nat.eq_zero_or_pos n with d|d
   ·exact d
   ·obtain⟨b,off,he,_⟩:=H.o.cells d;cases he
  subst z;have B:f=[]:=x_ hlen;subst B;clear hlen;go_enter Tryz.func81,Tryz.ntmps81
  go_wp2;go_ret;exact⟨none,0,rfl,World.ownsRow_nil _ _ _ _,Zk _ _⟩
 |some a=>
  have e:=U hlen;clear hlen;go_enter Tryz.func81,Tryz.ntmps81
  go_wp2_with (at_builtin;refine wpList_append_own _ rfl _ _ 25 rfl w.heap.size 3 i0 (.int .i64 0) 1 8 s_ s t v y rfl (by decide) _ _ _ rfl (World.ownsRow_made w #[] 0 (d_ _) (Nat.zero_le _) rfl) a n c (f.map (j_ .i64)) rfl ?qc1 ?qc2 ?qc3 ?qc4 ?qc5 ?qc6 ?_)
  case qc1=>simp[e.o]
  case qc2=>
   intro j u p;have q:j<n:=by have:=(Zj.1 p).1;simpa[e.o] using this
   obtain⟨b,off,he,i,C⟩:=H.o.cells (by omega);injection he with he
   subst he;rw[Z5];rw[World.cell?_alloc_lt _ _ _ (by exact i),C j q];rw[List.getElem?_map,List.getElem?_eq_getElem (by rw[e.o];exact q)] at p;rw[ql (by rw[e.o];exact q)];exact p
  case qc3=>intro u hu;obtain⟨x,_,rfl⟩:=Z4.1 hu;rfl
  case qc4=>unfold maxLen;omega
  case qc5=>omega
  case qc6=>simp
  intro v' w1 l D G;go_wp2;go_ret;have i:Below w.heap.size w w1:=((Zk _ w).alloc (d_ _) _).grown D (by simp) (by intro k hk;simp[Value.ownBlock] at hk;omega);have hl:=e.o;subst hl;rcases l.2 with⟨r,d⟩|⟨g,cap,cur,r,I⟩
  ·subst r;refine⟨none,0,?_,?_,i⟩
   ·rw[d];rfl
   ·rw[d] at l⊢;exact l
  ·subst r;exact⟨_,_,rfl,l,i⟩
def Own(w:World)(base g n cap:Nat)(b:List Int):Prop:=w.ownsRow base 3 1 (.slice (some ⟨g,0,none⟩) n cap) n (b.map (j_ .i64))
theorem below_grow{B:Nat}{a:World}(h:Below B a w)(b:B<=w.heap.size)(os:Array Obj):Below B a (grow w os):=
 ⟨h.os,h.tape,h.output,by simp only[grow,Array.size_append];have:=h.size;omega,λ k hk=>by
  rw[<-h.block k hk];simp only[grow];rw[Array.getElem?_append_left (by omega)]⟩
theorem He(l:List r9):l.map zl=(l.map (·.1)).map (j_ .i64):=by rw[List.map_map];rfl
theorem My(w:World)(base g n cap:Nat)(b:List Int)(h:Own w base g n cap b)(f:base<=g):
  Calls z_ 85 #[.slice (some ⟨g,0,none⟩) n cap,.func (.func 221) #[] #[]] w λ e w'=>
   ∃m,e=.returned (.slice (some ⟨g,0,none⟩) m cap)/\Own w' base g m cap (b.filter λ x=>l5 x 65536)/\Below base w w':=by
 have h':w.ownsRow base 3 1 (.slice (some ⟨g,0,none⟩) n cap) n (b.map oV):=h;obtain⟨r,s,he,h1,t,i,j,c,l⟩:=Zf h' (by intro e;cases e)
 cases he
 have o:n<=9223372036854775807:=by unfold maxLen at j;omega
 have d:=Tryz.slices_DeleteFunc oV zn zm 221 #[] Mi 0 n_ g 0 cap b.toArray w (Ms w) (Mt _ _ _ w) l (by simpa[c] using o) (by simpa[c] using i);have hs:b.toArray.size=n:=by simp[c]
 rw[hs] at d;refine d.mono ?_;rintro e w' ⟨rfl,q,rfl⟩;have p:b.toArray.toList.filter (λ x=> !zm x)=b.filter λ x=>l5 x 65536:=filter_eq b
 rw[p];have hle:=k_ (λ x=>l5 x 65536) b;refine⟨_,rfl,?_,below_putRow (Zk _ _) f⟩;have:=Z0 (q:=q) (k:=(b.filter λ x=>l5 x 65536).length) (ys:=(b.filter λ x=>l5 x 65536)++Zr (n-(b.filter λ x=>l5 x 65536).length) 0) h' (by simp;omega) (by omega);rw[Zd rfl] at this;exact this
theorem Mz(w:World)(base g m cap:Nat)(ls:List r9)(h:Own w base g m cap (ls.map (·.1)))(i:base<=g)(hm:m*8<=140737488355328):
  Calls z_ 157 #[.slice (some ⟨g,0,none⟩) m cap,.func (.func 222) #[] #[]] w λ e w'=>
   e=.returned (.tuple #[])/\Own w' base g m cap ((ls.mergeSort λ x y=> !(ltOf sE) y x).map (·.1))/\Below base w w':=by
 have h':w.ownsRow base 3 1 (.slice (some ⟨g,0,none⟩) m cap) m (ls.map zl):=by rw[He];exact h
 obtain⟨p,r,he,h1,j,s,t,b,l⟩:=Zf h' (by intro e;cases e)
 cases he
 have n:m<4611686018427387904:=by omega
 have c:=Tryz.slices_SortFunc_total zl Mu sE Cb 222 #[] g 0 cap ls.toArray w Mj (Mr _ _ _ w) l j (by simpa[b] using n) Mq;have hs:ls.toArray.size=m:=by simp[b]
 rw[hs] at c;refine c.mono ?_;rintro e w' ⟨rfl,q,os,rfl⟩;have f:=Z0 (q:=q) (k:=m) (ys:=ls.mergeSort λ x y=> !(ltOf sE) y x) h' (by simp[b]) (d_ _);rw[List.take_of_length_le (by simp[b]),He] at f;refine⟨rfl,?_,?_⟩
 ·have:=ownsRow_grow f 0 os;exact this
 ·have o:=below_putRow (enc:=zl) (q:=q) (d:=(ls.mergeSort λ x y=> !(ltOf sE) y x).toArray) (Zk base w) i;exact below_grow o (by simp[putRow,mapBlock,Sort.ahead];omega) os
theorem Hf(ls:List r9):∀m,m<=ls.length->compactUpTo (ls.map (·.1)).toArray m=(compactUpTo ls.toArray m).map (·.1)
 |0,_=>by simp[compactUpTo]
 |m+1,h=>by
  have b:∀j,j<ls.length->(ls.map (·.1)).toArray[j]! =(ls.toArray[j]!).1:=by
   intro j c;rw[getElem!_pos _ _ (by simpa using c),getElem!_pos _ _ (by simpa using c)];simp
  rw[Zg,Zg,List.map_append,Hf ls m (by omega)]
  congr 1
  have hk:keeps (ls.map (·.1)).toArray m=keeps ls.toArray m:=by
   unfold keeps;rw[b m (by omega),b (m-1) (by omega)]
   congr 1
   rw[ne_eq,ne_eq,Subtype.ext_iff]
  rw[hk,b m (by omega)];split<;>simp
theorem MA(w:World)(base g n cap:Nat)(ls:List r9)(h:Own w base g n cap (ls.map (·.1)))(c:base<=g):
  Calls z_ 223 #[.slice (some ⟨g,0,none⟩) n cap] w λ e w'=>
   ∃m,e=.returned (.slice (some ⟨g,0,none⟩) m cap)/\Own w' base g m cap ((compactUpTo ls.toArray ls.length).map (·.1))/\Below base w w':=by
 have h':w.ownsRow base 3 1 (.slice (some ⟨g,0,none⟩) n cap) n ((ls.map (·.1)).map oV):=h;obtain⟨o,p,he,h1,r,d,f,i,j⟩:=Zf h' (by intro e;cases e)
 cases he
 have l:n<=9223372036854775807:=by unfold maxLen at f;omega
 have hl:ls.length=n:=by simpa using i
 have hs:(ls.map (·.1)).toArray.size=n:=by simp[hl]
 have b:=Tryz.slices_Compact oV zn (EqlAt.intD _ _ _) ⟨λ x y w=>by rw[oV,oV,(NeqAt.int z_ 3 .i64).1 x y w];congr 1,.int _ _ _⟩ 0 n_ g 0 cap (ls.map (·.1)).toArray w j (by rw[hs];exact l) (by rw[hs];exact d);rw[hs] at b;refine b.mono ?_;rintro e w' ⟨rfl,q,rfl⟩;rw[<-hl,Hf ls ls.length (d_ _)];have hle:((compactUpTo ls.toArray ls.length).map (·.1)).length<=n:=by
  rw[Zt];unfold compactUpTo;rw[Zt];refine Nat.le_trans (k_ _ _) (by simp[hl])
 refine⟨_,rfl,?_,below_putRow (Zk _ _) c⟩;have:=Z0 (q:=q) (k:=((compactUpTo ls.toArray ls.length).map (·.1)).length) (ys:=((compactUpTo ls.toArray ls.length).map (·.1))++Zr (n-((compactUpTo ls.toArray ls.length).map (·.1)).length) 0) h' (by simp at hle⊢;omega) hle;rw[Zd rfl] at this;rw[hl] at this⊢;exact this
def uG(l:List Int)(k:Nat):Bool:=(List.range k).any λ i=>decide (0<i)&&(jP l (i-1)== -(jP l i))
def sd(l:List Int):Bool:=uG l l.length
theorem Hg(l:List Int)(k:Nat):uG l (k+1)=(uG l k||(decide (0<k)&&(jP l (k-1)== -(jP l k)))):=by
 unfold uG;rw[List.range_succ,List.any_append];simp
theorem MB(l:List Int){j k:Nat}(h:j<=k)(b:uG l j=true):uG l k=true:=by
 unfold uG at*;rw[List.any_eq_true] at*;obtain⟨x,c,he⟩:=b;exact⟨x,by rw[List.mem_range] at*;omega,he⟩
theorem MC{k:Nat}(hk:k<l.length)(h:uG l (k+1)=true):sd l=true:=MB l (by omega) h
theorem MD(h:x∈lg ai):x≠0/\ -65536<=x/\x<=65536:=vO.1 (Ca.1 h).2
theorem ME(b:List Int):CV (lg b):=λ x h=>MD h
theorem MF(b:List Int):(lg b).length<=b.length:=by
 rw[<-G9];rw[Zt];unfold compactUpTo;rw[Zt];refine Nat.le_trans (k_ _ _) ?_;rw[List.length_range];unfold uF;rw[List.length_mergeSort];unfold yp;exact List.length_filterMap_le _ _
def MG(b:List Int)(w:World)(e:Ending)(w':World):Prop:=
 ∃A c,e=.returned (.tuple #[.slice A (lg b).length c,.bool (sd (lg b))])/\aP w' A (lg b).length c (lg b)/\w'.ownsRow w.heap.size 3 1 (.slice A (lg b).length c) (lg b).length ((lg b).map (j_ .i64))/\Below w.heap.size w w'
theorem Own.xw(h:Own w base g n cap ai)(b:n*8<=140737488355328):aP w (some ⟨g,0,none⟩) n cap ai:=aP.kZ h b
theorem Own.len(h:Own w base g n cap ai):ai.length=n:=by simpa using h.1
theorem Hh{A:Option Addr}{iw c:Nat}{a b:Bool}(d:n=iw)(h:a=b):Ending.returned (.tuple #[.slice A n c,.bool a])=.returned (.tuple #[.slice A iw c,.bool b]):=by rw[d,h]
theorem MH(A:Option Addr)(n c:Nat)(d:List Int)(w:World)(h:aP w A n c d):
  Calls z_ 179 #[.slice A n c] w (MG d w):=by
 have M:=vD A n c d w h;have N:=h.mG;have hlen:=h.len;have C:=U (y_ hlen N);clear h hlen N;go_enter Tryz.func179,Tryz.ntmps179
 go_wp2_with fail
 refine M.mono ?_;clear M;rintro e w1 ⟨aC,c1,rfl,t,O⟩;have D:=U O;clear O;rcases t.2 with⟨p,u⟩|⟨g,cap,cur,p,E,ah⟩
 ·have ai:d=[]:=x_ u;subst ai;simp only[Z7] at p;obtain⟨rfl,-,rfl⟩:=p;clear t u;have aj:=DS (.func (.func 221) #[] #[]) w1;have ak:Calls z_ 157 #[.slice none 0 0,.func (.func 222) #[] #[]] w1 λ e w'=>e=.returned (.tuple #[])/\w1=w':=(Tryz.slices_SortFunc_none (α:=r9) none 0 (.func (.func 222) #[] #[]) w1).mono λ _ _ ⟨h1,al⟩=>⟨h1,al.symm⟩
  have an:=Mm w1
  go_wp2_with (first
   |(go_at_call 85;refine aj.mono ?_;rintro e w' ⟨rfl,rfl⟩)
   |(go_at_call 157;refine ak.mono ?_;rintro e w' ⟨rfl,rfl⟩)
   |(go_at_call 223;refine an.mono ?_;rintro e w' ⟨rfl,rfl⟩))
  refine Zq 1 ?_;rw[Zb];go_wp2
  go_ret2
  exact⟨none,0,rfl,aP.nil _ _ _ (Nat.zero_le _),⟨rfl,r_ ⟨rfl,rfl⟩⟩,D.o⟩
 ·simp only[Z7] at p;obtain⟨rfl,-,rfl⟩:=p;have P:Own w1 w.heap.size g d.length c1 d:=t;clear ah t
  go_wp2_with fail
  refine(My w1 w.heap.size g d.length c1 d P E).mono ?_;rintro e ao ⟨m2,rfl,v,Q⟩;rw[<-G6] at v;have F:=v.len;have R:m2*8<=140737488355328:=by
   rw[G6] at F;have:=k_ (λ x=>l5 x 65536) d;have:=C.o;omega
  have S:=Mz ao w.heap.size g m2 c1 (yp d) v E R;have aq:=U F;have T:=U Q;clear F Q v P
  go_wp2_with fail
  refine S.mono ?_;clear S;rintro e ar ⟨rfl,V,W⟩;have X:=MA ar w.heap.size g m2 c1 (uF d) V E;have Y:=U W;clear W V
  go_wp2_with fail
  refine X.mono ?_;clear X;rintro e G ⟨m,rfl,r,Z⟩;rw[G9] at r;have hm:=r.len;have au:m*8<=140737488355328:=by
   have:=MF d;have:=C.o;omega
  have aa:=r.xw au;have H:=U aa;have f:=U hm;have ab:=U r;have y:bF (Below w.heap.size w G):=U (((D.o.trans T.o).trans Y.o).trans Z);clear hm aa r Z D T Y aq R C;have av:=U (ME d);go_wp2
  go_loopw [15] (λ i wr=>∃k q:Nat,k<=m/\i=.int .i64 k/\uG (lg d) k=false/\wr=G.drewN q) (λ i _=>m-(intOf i).toNat)
  case atStart=>exact⟨0,0,Nat.zero_le _,rfl,rfl,rfl⟩
  case round=>
   obtain⟨k,q,hk,rfl,ad,rfl⟩:=hrel;have I:=U ad;clear ad
   by_cases ae:k<m
   ·obtain⟨b,off,J,aD,z⟩:=H.o.cells (by omega);injection J with J
    injection J with aw ax
    subst aw ax;have ay:=z k ae;have hl:k<(lg d).length:=by rw[f.o];exact ae
    have B:=av.o.at hl;have aE:=Jl B.2.1 B.2.2;have az:=U B;clear B
    by_cases u:0<k
    ·have aA:=z (k-1) (by omega);obtain⟨j,K⟩:∃j,k-1=j:=⟨_,rfl⟩
     rw[K,Z6] at aA;rw[Z6] at ay;clear z;have af:=I.o;have l:=Hg (lg d) k;rw[af,K,decide_eq_true u,Bool.false_or,Bool.true_and] at l;have s:=U l;have aF:Z9.wrap ((k:Int)-1)=(j:Int):=by rw[show(k:Int)-1=(j:Int) by omega];exact IntWalk.i64_in (j:Int) (by omega)
     have aG:j<m:=by omega
     have aH:(j:Int)<(m:Int):=by omega
     have aI:(k:Int)<(m:Int):=by omega
     have aJ:(0:Int)<(k:Int):=by omega
     have aK:Z9.wrap (-(jP (lg d) k))= -(jP (lg d) k):=by have:=az.o;exact IntWalk.i64_in (-(jP (lg d) k)) (by omega)
     clear l af K;generalize aL:(jP (lg d) j== -(jP (lg d) k))=o at s
     cases o
     ·go_wp2_with fail
      go_quiet (fail)
      go_wp2;go_roundw
      case rel=>exact⟨k+1,_,by omega,by go_num,s.o,rfl⟩
      case measure=>simp[intOf];omega
     ·go_wp2_with fail
      go_quiet (fail)
      go_wp2
      go_ret2
      exact⟨_,_,Hh f.o.symm (MC hl s.o).symm,by rw[f.o,Zm];exact H.o.below (Be _ _),by rw[f.o,Zm];exact mh ab.o (Be _ _),by rw[Zm];exact y.o.trans ((Be _ _).mono y.o.size)⟩
    ·obtain rfl:k=0:=by omega
     have l:=Hg (lg d) 0;rw[I.o] at l;have s:=U l;clear l z
     go_wp2_with fail
     go_quiet (fail)
     go_wp2;go_roundw
     case rel=>exact⟨1,_,by omega,by go_num,s.o,rfl⟩
     case measure=>simp[intOf];omega
   ·have L:=U (Be G q);have ag:uG (lg d) (lg d).length=false:=by
     have:=I.o;rw[show k=(lg d).length by rw[f.o];omega] at this;exact this
    have aB:=U ag;clear ag;go_wp2
    go_ret2
    exact⟨_,_,Hh f.o.symm aB.o.symm,by rw[f.o];exact H.o.below L.o,by rw[f.o];exact mh ab.o L.o,y.o.trans (L.o.mono y.o.size)⟩
end
section
open Go.RowKit Go.Shelf
section
variable {K:Nat->Prop}{base:Nat}{w W:World}{G:Nat}{hs:Nat->ay}{cb:Nat->Nat}{s:au}
theorem MI{b mB:Nat}{t Hi:TypeId}{cs Hj:List Value}(h:aR w b t cs)(h':aR w mB Hi Hj)(c:t≠Hi):b≠mB:=λ e=>by
 subst e;have:=h.symm.trans h';injection this with this
 injection this with _ d
 exact c d
theorem bf.other(h:bf K base w G hs cb s){b k:Nat}{v:Value}(j:G≠b)(l:∀r g,(hs r).b=some g->b≠g)(m:∀d,d<s.c.cl.length->cb d≠b)(n:¬K b):bf K base (w.setCell ⟨b,k,none⟩ v) G hs cb s/\aG K w (w.setCell ⟨b,k,none⟩ v):=by
 have f:=lq w b k v;refine⟨⟨⟨h.e.box.kept f (λ e=>j (by injection e)),h.e.rows.kept f (λ r g e o=>l r g e (by injection o)),λ d i=>(h.e.cls d i).kept f (λ e=>m d i (by injection e)),h.e.inj,h.e.q6,h.e.rL⟩,h.s.more f.size⟩,aG.set b k v n⟩
theorem au.MJ{l:List Int}{x:r0}(h:l.length<2):s.r8 l x={s with c:=kI s.c l,ci:=s.ci++[x]}:=by
 unfold au.r8 kI;rw[if_neg (by omega)]
def vE(K:Nat->Prop)(base:Nat)(w:World)(G:Nat)(cb:Nat->Nat)(s':au)(e:Ending)(w':World):Prop:=
 e=.returned (.tuple #[])/\∃hs',bf K base w' G hs' cb s'/\aG K w w'
theorem vE.to{s1 s2:au}{e:Ending}{w':World}(h:vE K base w G cb s1 e w')(b:s1=s2):vE K base w G cb s2 e w':=b▸h
end
theorem Hl(h:bf K base w G hs cb s)(T:j9 s.c)(an:s.ci.length=s.c.cl.length)(aQ:s.c.n<=60000)(ao:s.c.wt.length=2*s.c.n+2)(aq:∀k,(az s.c.wt k).length<=1000000)(ar:s.c.st.length<=1000000)
  {pe:Option Addr} {kL aY blk:Nat} {ai:List Int} {x:r0} (av:cb s.c.cl.length=blk) (hblk:aR w blk vv [.slice pe kL aY,.bool x.k6,.int .i64 x.bp,.int .i64 x.ac]) (aw:base<=blk) (ax:¬K blk) (aA:∀d,d<s.c.cl.length->cb d≠blk) (aB:aP w pe kL aY ai) (j:∀z∈ai,gP s.c.n z):
  Calls z_ 144 #[.pointer (some ⟨G,0,none⟩),.pointer (some ⟨blk,0,none⟩)] w (vE K base w G cb (s.oE (lg ai) (sd (lg ai)) x)):=by
 have V:=hblk.cell 0;have V:w.cell? ⟨blk,0,none⟩=some (.slice pe kL aY):=V;have aC:=U (MH pe kL aY ai w aB);obtain⟨l,hl⟩:∃l,lg ai=l:=⟨_,rfl⟩
 obtain⟨m,hm⟩:∃m,l.length=m:=⟨_,rfl⟩
 have aD:∀z∈l,gP s.c.n z:=λ z aS=>j z (Ca.1 (hl▸aS)).1
 have D:=U (y_ h (y_ T (y_ an (y_ aQ (y_ ao (y_ aq (y_ ar (y_ av (y_ hblk (y_ aw (y_ ax (y_ aA (y_ hl (y_ hm aD))))))))))))));clear h T an ao aq ar av aw ax aA aB j hl hm aD hblk;go_enter Tryz.func144,Tryz.ntmps144
 go_upto_region 1 with(go_at_call 179;refine aC.o.mono ?_;rintro e w1 ⟨A,c,rfl,aE,aF,aH⟩;have u:=U (y_ aE (y_ aF aH));clear aE aF aH)
 have hl:=D.o.2.2.2.2.2.2.2.2.2.2.2.2.1;have hm:=D.o.2.2.2.2.2.2.2.2.2.2.2.2.2.1;obtain⟨b,W⟩:∃b,sd l=b:=⟨_,rfl⟩
 rw[hl,hm] at u;rw[hl,hm,W];have E:=U (D.o.1.below u.o.2.2);have B:=D.o.2.2.2.2.2.2.2.2.1.below u.o.2.2;have aT:w1.cell? ⟨blk,0,none⟩=some (.slice pe kL aY):=B.cell 0;have f1:w1.frozen? ⟨blk,0,none⟩=false:=B.free 0;have X:=U (y_ hl (y_ hm W));clear hl hm W V aC;have Y:=B.set 0 (.slice A m c);have Z:=E.o.1.other (b:=blk) (k:=0) (v:=.slice A m c) (MI E.o.1.e.box B (by decide)) (λ r g F aU=>E.o.1.e.rows.C7 B (λ r=>(Di r).2) r g F (by rw[aU])) D.o.2.2.2.2.2.2.2.2.2.2.2.1 D.o.2.2.2.2.2.2.2.2.2.2.1;have p:=U (E.o.2.trans Z.2);have q:=U Z.1;clear Z;have aa:(w1.setCell ⟨blk,0,none⟩ (.slice A m c)).ownsRow base 3 1 (ay.v ⟨A,m,c⟩) m (jj l):=by
  refine yV (o6 u.o.2.1 (λ g ab=>Below.heap_setCell _ _ _ _ (λ e=>?_))) (Nat.le_of_lt D.o.1.e.lt);have h1:=u.o.2.1.lt g ab;have aI:=D.o.2.2.2.2.2.2.2.2.1.lt;have e:g=blk:=e;omega
 have aJ:∀g,(⟨A,m,c⟩:ay).b=some g->(∀r,(hs r).b≠some g)/\¬K g:=λ g ab=>by
  have h1:=u.o.2.1.lt g (by rw[show Value.slice A m c=ay.v ⟨A,m,c⟩ from rfl,ay.own];exact ab);refine⟨λ r e=>?_,λ hk=>?_⟩
  ·have:=(D.o.1.e.rows.lt e).2;omega
  ·have:=D.o.1.s.lt g hk;omega
 go_upto_region 3 with fail
 generalize w1.setCell ⟨blk,0,none⟩ (.slice A m c)=i at Y q p aa⊢;have H:bF (bf K base i G (iV hs (kO s.c.cl.length) ⟨A,m,c⟩) cb (s.r8 l x)):=U (q.o.r8 (hl:=⟨A,m,c⟩) (by rw[D.o.2.2.2.2.2.2.2.1];exact Y) (by rw[D.o.2.2.2.2.2.2.2.1];exact D.o.2.2.2.2.2.2.2.2.2.1) (by rw[D.o.2.2.2.2.2.2.2.1];exact D.o.2.2.2.2.2.2.2.2.2.2.1) (by rw[D.o.2.2.2.2.2.2.2.1];exact D.o.2.2.2.2.2.2.2.2.2.2.2.1) aa aJ D.o.2.2.1);clear aa aJ Y aT f1 B E
 cases b with
 |true=>
  go_wp2_with fail
  go_end0;refine vE.to (s1:=s) ⟨rfl,_,q.o,p.o⟩ ?_;unfold au.oE pE;rw[X.o.1,X.o.2.2,if_pos rfl,if_pos (r_ rfl)]
 |false=>
  by_cases L:m=0
  ·subst L;have aV:i.cell? ⟨G,15,none⟩=some (.bool s.c.mm):=q.o.e.kP (k:=15) (v:=.bool s.c.mm) rfl;have f15:=q.o.e.free 15;have f:=q.o.Ga;have f:=U (y_ f.1 (p.o.trans f.2))
   go_wp2_with fail
   go_end0;refine vE.to (s1:={s with c:=wW s.c}) ⟨rfl,_,f.o.1,f.o.2⟩ ?_;unfold au.oE pE;rw[X.o.1,X.o.2.2,X.o.2.1,if_neg (by decide),if_pos rfl,if_pos (t_ rfl)]
  ·have a7:((m:Int)==0)=false:=by rw[beq_eq_false_iff_ne];omega
   have a8:decide ((m:Int)=0)=false:=decide_eq_false (by omega);obtain⟨bL,M,ad,-⟩:=H.o.e.xb (r:=kO s.c.cl.length) (m:=m) (by rw[jT]) L;rw[jT] at M;have M:A=some ⟨bL,0,none⟩:=M;subst M;have I:=H.o.e.yb ad;rw[jT] at I;have I:m<=c:=I;obtain⟨y,N⟩:∃y,ak l 0=y:=⟨_,rfl⟩
   have O:az (s.r8 l x).c.cl s.c.cl.length=l:=by show az (s.c.cl++[l]) _=l;rw[uU]
   have a':i.cell? ⟨bL,0,none⟩=some (.int .i64 y):=by
    have:=H.o.e.yf ad (k:=0) (by rw[O,X.o.2.1];omega);rw[O,N] at this;exact this
   have aK:gP s.c.n y:=by rw[<-N];exact D.o.2.2.2.2.2.2.2.2.2.2.2.2.2.2 _ (mc (by rw[X.o.2.1];omega))
   have C:=U (y_ N (y_ aK O));have aW:=U I;clear N aK O ad I
   by_cases aL:m=1
   ·subst aL;have aM:s.r8 l x={s with c:=kI s.c l,ci:=s.ci++[x]}:=au.MJ (by rw[X.o.2.1];omega);obtain⟨z,j⟩:∃z,ki s.c y=z:=⟨_,rfl⟩
    have F:=D.o.2.1.range y;rw[j] at F;have J:bF (bf K base i G (iV hs (kO s.c.cl.length) ⟨some ⟨bL,0,none⟩,1,c⟩) cb {s with c:=kI s.c l,ci:=s.ci++[x]}):=U (aM▸H.o);have ae:bF (Calls z_ 152 #[.pointer (some ⟨G,0,none⟩),.int .i64 y] i λ e w'=>e=.returned (.int .i8 z)/\i=w'):=U (by
     have:=BS J.o D.o.2.1.new D.o.2.2.2.1 (x:=y) C.o.2.1;rw[show ki (({s with c:=kI s.c l,ci:=s.ci++[x]}:au).c) y=z from j] at this;exact this)
    have aN:=U (y_ j F);clear aM j F;have c1:(1:Int)<=(c:Int):=by have:=aW.o;omega
    have af:bF (∀c':Core,pE s.c l false=c'->∀s',s'=({s with c:=c',ci:=s.ci++[x]}:au)->s'=s.oE (lg ai) (sd (lg ai)) x):=U (λ c' h1 s' aI=>by
     unfold au.oE;rw[X.o.1,X.o.2.2,h1,if_neg (by rw[X.o.2.1];decide),aI])
    have ag:bF (pE s.c l false=if z= -1 then wW (kI s.c l) else if z=0 then lC (kI s.c l) y (some s.c.cl.length) else kI s.c l):=U (by
     unfold pE;rw[if_neg (by decide),if_neg (by rw[X.o.2.1];decide),if_pos (by rw[X.o.2.1]),C.o.1,aN.o.1])
    by_cases P:z= -1
    ·have ah:z<0:=by omega
     have aX:decide (z<0)=true:=decide_eq_true ah;have Q:=U P;clear P;have aV:i.cell? ⟨G,15,none⟩=some (.bool s.c.mm):=J.o.e.kP (k:=15) (v:=.bool s.c.mm) rfl;have f15:=q.o.e.free 15;have f:=J.o.Ga;have f:=U (y_ f.1 (p.o.trans f.2))
     go_wp2_with (go_at_call 152;refine ae.o.mono ?_;rintro e R ⟨rfl,rfl⟩;dsimp only)
     go_end0;refine vE.to ⟨rfl,_,f.o.1,f.o.2⟩ (af.o (wW (kI s.c l)) (by rw[ag.o,if_pos Q.o]) _ rfl)
    ·have ah:¬z<0:=by have:=aN.o;omega
     have aX:decide (z<0)=false:=decide_eq_false ah;have Q:=U P;clear P
     by_cases t:z=0
     ·have d0:(z==0)=true:=beq_iff_eq.2 t;have aZ:decide (z=0)=true:=decide_eq_true t;have aj:=U t;clear t;have a6:bF (Calls z_ 156 #[.pointer (some ⟨G,0,none⟩),.int .i64 y,.pointer (some ⟨blk,0,none⟩)] i λ e w'=>e=.returned (.tuple #[])/\∃h':ay,bf K base w' G (iV (iV hs (kO s.c.cl.length) ⟨some ⟨bL,0,none⟩,1,c⟩) 4 h') cb {s with c:=lC (kI s.c l) y (some s.c.cl.length),ci:=s.ci++[x]}/\aG K i w'):=U (by
       have h1:=BR J.o y (some s.c.cl.length) D.o.2.1.new (show gP s.c.n y from C.o.2.1) (show s.c.n<=60000 from D.o.2.2.2.1) (show s.c.st.length<=1000000 from D.o.2.2.2.2.2.2.1);rw[show qT cb (some s.c.cl.length)=.pointer (some ⟨blk,0,none⟩) by show Value.pointer (some ⟨cb s.c.cl.length,0,none⟩)=_;rw[D.o.2.2.2.2.2.2.2.1]] at h1;exact h1)
      go_wp2_with (first|(go_at_call 152;refine ae.o.mono ?_;rintro e R ⟨rfl,rfl⟩;dsimp only)|(go_at_call 156;refine a6.o.mono ?_;rintro e R ⟨rfl,h',f,al⟩;dsimp only))
      go_end0;refine vE.to ⟨rfl,_,f,p.o.trans al⟩ (af.o (lC (kI s.c l) y (some s.c.cl.length)) (by rw[ag.o,if_neg Q.o,if_pos aj.o]) _ rfl)
     ·have d0:(z==0)=false:=by rw[beq_eq_false_iff_ne];exact t
      have aZ:decide (z=0)=false:=decide_eq_false t;have aj:=U t
      go_wp2_with (go_at_call 152;refine ae.o.mono ?_;rintro e R ⟨rfl,rfl⟩;dsimp only)
      go_end0;refine vE.to ⟨rfl,_,J.o,p.o⟩ (af.o (kI s.c l) (by rw[ag.o,if_neg Q.o,if_neg aj.o]) _ rfl)
   ·have ba:((m:Int)==1)=false:=by rw[beq_eq_false_iff_ne];omega
    have bb:decide ((m:Int)=1)=false:=decide_eq_false (by omega);have aO:bF (2<=l.length):=U (by rw[X.o.2.1];omega);have S:=K9 H.o (d:=s.c.cl.length) (by show _<(s.c.cl++[l]).length;simp) (by rw[C.o.2.2];exact aO.o) (by rw[C.o.2.2];exact D.o.2.2.2.2.2.2.2.2.2.2.2.2.2.2) (show s.c.n<=60000 from D.o.2.2.2.1) (show s.c.wt.length=2*s.c.n+2 from D.o.2.2.2.2.1) (show∀k,(az s.c.wt k).length<=1000000 from D.o.2.2.2.2.2.1);rw[D.o.2.2.2.2.2.2.2.1,Gw,C.o.2.2] at S;have S:=U S
    go_wp2_with (go_at_call 180;refine S.o.mono ?_;rintro e R ⟨rfl,bc,f,al⟩;dsimp only)
    go_end0;refine vE.to ⟨rfl,_,f,p.o.trans al⟩ ?_;unfold au.oE pE;rw[X.o.1,X.o.2.2,X.o.2.1,if_neg (by decide),if_neg L,if_neg aL,if_neg (by rintro(h|h);cases h;exact L h)];unfold kI;rw[if_pos aO.o];rfl
end
section
open Go.RowKit Go.Shelf
theorem Ho:(z_.info? 126).map (λ i=>(i.zero,i.size,i.bytes))=some (some (.agg #[.int .i64 0,.slice none 0 0]),2,32):=by kernel_rfl
theorem DW:∀l:List nE,(mC l).length=l.length*2
 |[]=>rfl
 |p::l=>by
  have:=DW l;unfold mC at this⊢;simp only[List.map_cons,List.flatten_cons,List.length_append,List.length_cons,List.length_nil,this];omega
theorem MK(a b:List nE):mC (a++b)=mC a++mC b:=by simp[mC]
def pn(K:Nat->Prop)(w:World)(s:au):Prop:=∀h,s.jG=some h->h.n=s.aF.length/\h.c=h.n/\((h.A=none/\h.n=0)\/∃b off,h.A=some ⟨b,off,none⟩/\(0<h.n->K b)/\∀j u,(mC s.aF)[j]? =some u->w.cell? ⟨b,off+j,none⟩=some u)
theorem pn.kept{w':World}{s':au}(h:pn K w s)(f:aG K w w')(h1:s'.jG=s.jG)(m:s'.aF=s.aF):pn K w' s':=by
 intro d k;rw[h1] at k;obtain⟨a,b,c⟩:=h d k;rw[m];refine⟨a,b,c.imp id ?_⟩;rintro⟨l,off,e,hk,o⟩;refine⟨l,off,e,hk,λ j u g=>?_⟩;have q:0<d.n:=by
  rcases Nat.eq_zero_or_pos d.n with i|i
  ·rw[i] at a;have:s.aF=[]:=x_ a.symm;rw[this] at g;simp[mC] at g
  ·exact i
 rw[f.cell (p:=⟨l,off+j,none⟩) (hk q)];exact o j u g
def tS(hs:Nat->ay)(s:au):Option Nat:=match s.jG with
 |some _=>none
 |none=>(hs 11).b
def Cc(w:World)(base:Nat)(row:Option Nat)(n:Nat)(ys:List Value)(v':Value)(w':World):Prop:=
 w'.ownsRow base 126 2 v' n ys/\w.grownBy w' row/\(v'.ownBlock=row\/∀g,v'.ownBlock=some g->w.heap.size<=g)
theorem ML(h:bf K base w G hs cb s)(P:pn K w s)(ty:TypeId)(f c1:Nat)(p:nE)(L:w.cell? ⟨f,0,none⟩=some (.int .i64 p.lQ))(h1:w.cell? ⟨f,1,none⟩=some p.h.v)(Q:s.aF.length<=1099511627776):
  ∃v' w',(Builtin.append_ #[45,45] ty #[oO hs s,.slice (some ⟨f,0,none⟩) 1 c1]).run z_ w=.ok v' w'/\Cc w base (tS hs s) (s.aF.length+1) (mC (s.aF++[p])) v' w':=by
 obtain⟨i0,q,r,t,y⟩:=info_parts Ho;have z:∀j u,([.int .i64 p.lQ,p.h.v]:List Value)[j]? =some u->w.cell? ((⟨f,0,none⟩:Addr).add j)=some u:=by
  intro j u i;have R:j<2:=(Zj.1 i).1;rw[Z5,Z6];rcases(show j=0\/j=1 by omega) with rfl|rfl
  ·simp only[Ze,Z8] at i;subst i;exact L
  ·simp only[List.getElem?_cons_succ,Ze,Z8] at i;subst i;exact h1
 have H:∀u∈([.int .i64 p.lQ,p.h.v]:List Value),u.oneCell'=true:=by
  intro u hu;simp only[p_,List.not_mem_nil,or_false] at hu;rcases hu with rfl|rfl<;>rfl
 have I:mC (s.aF++[p])=mC s.aF++[.int .i64 p.lQ,p.h.v]:=by rw[MK];rfl
 have B:=Nat.le_of_lt h.e.lt
 cases k:s.jG with
 |none=>
  have C:=h.e.rows.row 11;have l:cont hs cb s 11=mC s.aF:=by show(match s.jG with|some _=> []|none=>mC s.aF)=_;rw[k]
  have o:(hs 11).n=s.aF.length:=by
   have:=C.1;rw[l,DW] at this;have M:nL 11=2:=rfl;rw[M] at this;omega
  rw[l,o] at C;obtain⟨v',w',g1,g2,g3,_,g5⟩:=run_append_own_at (P:=z_) w base 45 ty 126 i0 (.agg #[.int .i64 0,.slice none 0 0]) 2 32 Zl q r t y rfl (by decide) (hs 11).v s.aF.length (mC s.aF) C ⟨f,0,none⟩ 1 c1 [.int .i64 p.lQ,p.h.v] rfl z H (by unfold maxLen;omega) (by omega) B;have D:oO hs s=(hs 11).v:=by unfold oO;rw[k]
  have E:tS hs s=(hs 11).b:=by unfold tS;rw[k]
  rw[D,E,I];rw[ay.own] at g3 g5;exact⟨v',w',g1,g2,g3,g5.imp id (λ e g d=>by rw[e] at d;injection d with d;omega)⟩
 |some F=>
  obtain⟨a,b,c⟩:=P F k;have D:oO hs s=F.v:=by unfold oO;rw[k]
  have E:tS hs s=none:=by unfold tS;rw[k]
  rw[D,E,I];obtain⟨A,n,J⟩:=F;rcases c with⟨m,o⟩|⟨N,off,m,hk,l⟩
  ·simp only at m o a b;subst m;subst o;subst b;have O:s.aF=[]:=x_ a.symm;rw[O];obtain⟨v',w',g1,g2,g3,_,g5⟩:=run_append_own_at (P:=z_) w base 45 ty 126 i0 (.agg #[.int .i64 0,.slice none 0 0]) 2 32 Zl q r t y rfl (by decide) (.slice none 0 0) 0 [] (World.ownsRow_nil _ _ _ _) ⟨f,0,none⟩ 1 c1 [.int .i64 p.lQ,p.h.v] rfl z H (by unfold maxLen;omega) (by omega) B;refine⟨v',w',g1,g2,g3,g5.imp id (λ e g d=>by rw[e] at d;injection d with d;omega)⟩
  ·simp only at m hk l a b;subst m;subst b;obtain⟨v',w',g1,g2,g3⟩:=run_append_arg_grows (P:=z_) w 45 ty 126 i0 (.agg #[.int .i64 0,.slice none 0 0]) 2 32 Zl q r t y rfl (by decide) ⟨N,off,none⟩ J J (mC s.aF) (by rw[DW,a]) (λ j u i=>by rw[Z5];exact l j u i) ⟨f,0,none⟩ 1 c1 [.int .i64 p.lQ,p.h.v] rfl z (by omega) (by unfold maxLen;omega) (by omega);refine⟨v',w',g1,?_,g3,t_ (λ g d=>(g2.lt g d).1)⟩;rw[<-a];exact yV g2 B
section
variable {K:Nat->Prop}{base:Nat}{w bE W:World}{G:Nat}{hs:Nat->ay}{cb:Nat->Nat}{s:au}
theorem MM{row:Option Nat}{w w':World}(h:w.grownBy w' none):w.grownBy w' row:=⟨h.os,h.tape,h.output,h.size,λ k hk _=>h.block k hk (by simp)⟩
theorem bf.Hp(h:bf K base w G hs cb s){v':Value}{p:nE}(q:Cc w base (tS hs s) (s.aF.length+1) (mC (s.aF++[p])) v' bE):
  ∃h':ay,v'=h'.v/\bE.cell? ⟨G,14,none⟩=some (oO hs s)/\bE.frozen? ⟨G,14,none⟩=false/\bf K base (bE.setCell ⟨G,14,none⟩ v') G (iV hs 11 h') cb {s with aF:=s.aF++[p],jG:=none}/\aG K w (bE.setCell ⟨G,14,none⟩ v'):=by
 obtain⟨n,j,f⟩:=q;have m:w.grownBy bE (hs 11).b:=by
  unfold tS at j
  cases l:s.jG with
  |none=>rw[l] at j;exact j
  |some t=>rw[l] at j;exact MM j
 obtain⟨h',rfl,u⟩:=ay.kZ n;rw[ay.own] at f;have i:h'.b=(hs 11).b\/∀g,h'.b=some g->w.heap.size<=g:=by
  rcases f with f|f
  ·unfold tS at f
   cases l:s.jG with
   |none=>rw[l] at f;exact r_ f
   |some t=>rw[l] at f;exact t_ (λ g e=>by rw[f] at e;cases e)
  ·exact t_ f
 have o:=h.e.ji (r:=11) (h':=h') (ys:=mC (s.aF++[p])) m (by rw[u];exact n) i;have y:∀k,bE.cell? ⟨G,k,none⟩=w.cell? ⟨G,k,none⟩:=λ k=>World.cell?_of_block (m.block G h.e.box.lt (λ e=>h.e.ux 11 G e.symm rfl))
 have z:Sep K bE G (iV hs 11 h') cb s.c.cl.length:=(h.s.ji (λ g e hk=>by
  rcases i with i|i
  ·exact h.s.row 11 g (i▸e) hk
  ·have:=i g e;have:=h.s.lt g hk;omega)).more m.size
 refine⟨h',rfl,by rw[y];exact h.e.kP rfl,o.free 14,⟨?_,z.more (lq bE G 14 _).size⟩,(aG.grown m h.s.lt (λ b e=>h.s.row 11 b e)).trans (aG.set G 14 _ h.s.g)⟩;refine(o.field 14 h'.v).eq rfl rfl ?_ (λ d _=>(v8 hs s (by omega) _ d).symm) rfl (λ r=>?_)
 ·simp[q5,oO,iV]
 ·rw[v7 hs cb _ (by omega)]
  by_cases e:r=11
  ·subst e;rw[jT];rfl
  ·rw[bq _ _ e];simp only[cont,if_neg e]
end
end
section
open Go.RowKit
def tT(ds:List (Option Tmp))(cs:List Value)(sp:Nat->Bool)(b:Operand->Value):List Edge->Prop
 |[]=>True
 |e::r=>(Region.binds .any e=true->sp e.on=false->∀s,p9 ds e.on=some s->b (.tmp s)=cs.getD e.on undef)/\tT ds cs sp b r
def wB(cs:List Value)(sp:Nat->Bool)(G:Nat->Value->World->Prop)(j:Nat)(v:Value)(w:World):Prop:=if sp j=true then G j v w else v=cs.getD j undef
def Ay(sp:Nat->Bool)(dead:Nat->Option Nat)(j:Nat):Option Nat:=if sp j=true then dead j else none
theorem tT.of{ds:List (Option Tmp)}{cs:List Value}{sp:Nat->Bool}{G:Nat->Value->World->Prop}{dead:Nat->Option Nat}{i:Nat}{vals:Nat->Value}{w:World}{aq:Operand->Value}:∀{l:List Edge},q7 ds (wB cs sp G) (Ay sp dead) i vals w aq l->tT ds cs sp aq l
 |[],_=>trivial
 |e::r,h=>⟨λ c h1 s hs=>by
  obtain⟨b,d⟩:=h.1 c;have b:=b (r_ (by unfold Ay;rw[h1];rfl));unfold wB at b;rw[h1] at b;rw[d s hs];exact b,tT.of h.2⟩
def Az(P:Program)(ds:List (Option Tmp))(ws:List (List Nat))(old:List (Tmp×Value))(S:World->Prop)(cs:List Value)(sp:Nat->Bool)(G:Nat->Value->World->Prop)(dead:Nat->Option Nat)(Init:World->Prop)(mR:Nat):Nat->List Oper->Prop
 |_,[]=>True
 |k,o::r=>((sp k=true->y6 P ds ws old S (wB cs sp G) (Ay sp dead) Init mR k o)/\(sp k=false->∀(b:Operand->Value)(w:World),S w->tT ds cs sp b o.after.toList->mV b old->oC b->bh P b o w λ v w'=>v=cs.getD k undef/\w'=w))/\Az P ds ws old S cs sp G dead Init mR (k+1) r
theorem Az.ok{P:Program}{ds:List (Option Tmp)}{ws:List (List Nat)}{old:List (Tmp×Value)}{S:World->Prop}{cs:List Value}{sp:Nat->Bool}{G:Nat->Value->World->Prop}{dead:Nat->Option Nat}{Init:World->Prop}{mR:Nat}(b:yh ds old=true):∀{k:Nat}{l:List Oper},Az P ds ws old S cs sp G dead Init mR k l->s8 P ds ws old S (wB cs sp G) (Ay sp dead) Init mR k l
 |_,[],_=>trivial
 |k,o::r,h=>⟨by
  cases hk:sp k with
  |true=>exact h.1.1 hk
  |false=>
   intro vals w d c i e f hp;refine bh.mono (h.1.2 hk d w c (tT.of e) (oB.ok b f) hp) λ v w' ⟨h1,g⟩=>?_
   subst g;exact .same c (by unfold wB;rw[hk];exact h1),Az.ok b h.2⟩
end
end Go.Proofs.YtogdlkfacflmaaaGreat
