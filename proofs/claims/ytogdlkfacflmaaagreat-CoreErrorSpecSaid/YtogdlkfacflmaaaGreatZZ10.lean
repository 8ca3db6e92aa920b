/- Parts of the walk of the solver and its core; no condition. -/
import Derived.Test.YtogdlkfacflmaaaGreatZZ9
import Derived.Shelf.SlicesE.Compact
import Derived.Shelf.SlicesE.Clone
import Derived.Shelf.SlicesE.DeleteFunc
import Derived.Shelf.SlSortCmp.Whole1
import Derived.Shelf.SlSortCmp.NoneTotal
import Derived.Test.YtogdlkfacflmaaaGreatProg
import Derived.Lib.OwnBridge
import Derived.Lib.AppendIntMem
import Derived.IntWalk
import Derived.Deep.QuietTactic
import Derived.BigQuiet
import Derived.Test.YtogdlkfacflmaaaGreatZZ6
import Derived.Test.YtogdlkfacflmaaaGreatZZ1
namespace Go.Proofs.YtogdlkfacflmaaaGreat
set_option linter.unusedVariables false
set_option linter.unusedSimpArgs false
set_option maxRecDepth 100000
set_option maxHeartbeats 8000000
open _root_.Go.Proofs.Tryz renaming prog→z_,underlying25→s_,zeroValue3→n_,sizeOf3→l_,underlying4→i_,zeroValue25→h_,isAgg3→g_,zeroValue4→e_,sizeOf25→c_,underlying0→b_,underlying3→a_,zeroValue0→Zw,sizeOf4→Zv,isAgg25→Zu,isAgg4→Zp,underlying45→Zl,sizeOf0→Zh,isAgg0→Zc
open _root_.And renaming intro→y_
open _root_.List renaming eq_nil_of_length_eq_zero→x_,take_succ_cons→v_,drop_succ_cons→u_,drop_zero→q_,mem_cons→p_,take_zero→o_,pairwise_cons→m_,length_filter_le→k_,length_map→Zt,map_congr_left→Zs,replicate→Zr,getD_eq_getElem?_getD→Zo,getElem?_eq_some_iff→Zj,getElem?_cons_zero→Ze,take_left'→Zd,getElem?_eq_none→Za,mem_iff_getElem→Z3,mem_map→Z4
open _root_.Go renaming wp_region_still_tail→w_,wpStill_nil→f_,wp_loop_rounds→Zq,rounds_succ→Zb
open _root_.Or renaming inr→t_,inl→r_
open _root_.Go.Value renaming int→j_
open _root_.Nat renaming le_refl→d_,lt_or_ge→Zy,zero_add→Z6
open _root_.Bool renaming noConfusion→Zz,not_eq_true'→Zn
open _root_.Go.Shelf renaming Ren→Zx
open _root_.Go.World renaming drewN_drewN→Zm
open _root_.Go.RowKit.Below renaming refl→Zk
open _root_.Exists renaming intro→Zi
open _root_.Go.Lib renaming compactUpTo_succ→Zg,holds_of_ownsRow→Zf,ownsRow_putRow→Z0
open _root_.Go.Addr renaming add_lit→Z5
open _root_.Go.Value.slice renaming injEq→Z7
open _root_.Option.some renaming injEq→Z8
open _root_.Go.IntKind renaming i64→Z9
variable{K:Nat->Prop}{base G g n cap:Nat}{w:World}{hs:Nat->ax}{cb:Nat->Nat}{s:aq}{a b x:Int}{l ai:List Int}
section
open Go.RowKit Go.Shelf
theorem LL{F:List (List Int)}{ah:List Int}(h:aY K base w G hs cb s)(L:kC F F s.c s.c.ag [])(A:nr s.c ah)(aE:s.c.n<=60000)(aZ:s.c.st.length<=1000000)(a6:s.c.cl.length<=100000):
  Calls z_ 145 #[.pointer (some ⟨G,0,none⟩)] w (KX K base w G cb F ah s):=by
 have H:=U h;have ak:=U L;have a7:=U A;clear h L A;go_enter Tryz.func145,Tryz.ntmps145
 go_wp2_with fail
 go_loopw [3,4,5,6,7,8] (λ _ _ _ _ _ _ W=>∃(c1:Core)(l:Nat->ax),z7 F ah s.c c1 c1.ag/\aY K base W G l cb {s with c:=c1}/\aG K w W/\c1.ag<=s.c.n) (λ _ _ _ _ _ _ W=>s.c.n-Ds W ⟨G,7,none⟩)
 case atStart=>exact⟨s.c,hs,⟨ak.o,a7.o,tA.refl _⟩,H.o,aG.refl,by have:=ak.o.hle;have:=ak.o.aK.len;omega⟩
 case round=>
  obtain⟨c1,l,O,aF,hF,aH⟩:=hrel;have E:=U aF;have aI:=U hF;have f:=U O;clear aF hF;have al:c1.n=s.c.n:=O.sm.n;have aJ:c1.av.length<=s.c.n:=by have:=O.gR.aK.len;rw[al] at this;exact this
  obtain⟨a,an⟩:∃a,c1.ag=a:=⟨_,rfl⟩
  have z:=E.o.e.kJ (k:=7) (v:=.int .i64 c1.ag) rfl;rw[an] at z;obtain⟨aL,kA,aM,P⟩:∃A n c,l 4=⟨A,n,c⟩:=⟨_,_,_,rfl⟩
  obtain⟨aK,ao⟩:∃aK,c1.av.length=aK:=⟨_,rfl⟩
  have ar:kA=aK:=by have:=E.o.e.kA;rw[P] at this;exact this.trans ao
  have au:wr.cell? ⟨G,5,none⟩=some (.slice aL aK aM):=by have:=E.o.e.kJ (k:=5) (v:=(l 4).v) rfl;rw[P,ar] at this;exact this
  have D:=U (y_ al (y_ aJ (y_ an (y_ P (y_ ao (y_ ar aH))))));clear O al aJ an P ao ar aH
  by_cases B:a<aK
  ·have a8:decide ((a:Int)<(aK:Int))=true:=decide_eq_true (by omega);have a':(a:Int)<(aK:Int):=by omega
   obtain⟨g4,Q,aw,-⟩:=E.o.e.wF (r:=4) (m:=aK) (by rw[D.o.2.2.2.1];exact D.o.2.2.2.2.2.1) (by omega);rw[D.o.2.2.2.1] at Q;have Q:aL=some ⟨g4,0,none⟩:=Q;subst Q;obtain⟨lit,R⟩:∃x,aj c1.av a=x:=⟨_,rfl⟩
   have J:=E.o.e.zL aw (k:=a) (by show a<c1.av.length;rw[D.o.2.2.2.2.1];exact B);have J:wr.cell? ⟨g4,a,none⟩=some (.int .i64 lit):=by rw[<-R];exact J
   have S:gK s.c.n lit:=by rw[<-R,<-D.o.1];exact f.o.gR.aK.lit _ (lZ (by rw[D.o.2.2.2.2.1];exact B))
   obtain⟨k0,T⟩:∃k:Nat,jM lit=k:=⟨_,rfl⟩
   have aN:k0<2*s.c.n+2:=by rw[<-T];exact S.at
   have aO:c1.wt.length=2*s.c.n+2:=by have:=f.o.gR.wt.qI;rw[D.o.1] at this;exact this
   have V:bJ (∀w:World,Calls z_ 181 #[.int .i64 lit] w λ e w'=>e=.returned (.int .i64 (k0:Int))/\w=w'):=U (λ w=>by have:=Gm S aE w;rw[T] at this;exact this);have bu:Z9.wrap ((a:Int)+1)=(a:Int)+1:=by rw[IntKind.wrap_i64];have:=D.o;omega
   have bw:a<60000:=by have:=D.o;omega
   have bx:(k0:Int)<2*(s.c.n:Int)+2:=by omega
   have X:=U (y_ R (y_ S (y_ T (y_ aN (y_ aO (y_ aw B))))));have f7:=E.o.e.free 7;clear R S T aN aO aw B
   go_wp2_with fail
   refine w_ 9 (by kernel_rfl) (by kernel_rfl) ?_;simp only[v_,o_,u_,q_]
   iterate 9 still_step
   refine f_ ?_;change wpList _ _ _ _ _ wr.drew;have ba:=U E.o.drew;have bb:=U (aI.o.trans (aG.drew (w:=wr)));have au:wr.drew.cell? ⟨G,5,none⟩=some (.slice (some ⟨g4,0,none⟩) aK aM):=au;have z:wr.drew.cell? ⟨G,7,none⟩=some (.int .i64 (a:Int)):=z;have J:wr.drew.cell? ⟨g4,a,none⟩=some (.int .i64 lit):=J;clear f7;generalize wr.drew=Z at*
   go_wp2_with fail
   refine wp_scope_straight ?_
   go_wp2_with fail
   refine w_ 10 (by kernel_rfl) (by kernel_rfl) ?_;simp only[v_,o_,u_,q_]
   iterate 10 still_step
   refine f_ ?_;change wpList _ _ _ _ _ Z.drew;have z:Z.drew.cell? ⟨G,7,none⟩=some (.int .i64 (a:Int)):=z;have aP:=U ba.o.drew;have f7:=aP.o.e.free 7;have bc:=U (bb.o.trans (aG.drew (w:=Z)));clear au J;generalize Z.drew=bd at*
   go_wp2_with fail
   have g:=aP.o.Bj (a+1);rw[show((a+1:Nat):Int)=(a:Int)+1 by omega] at g;have aQ:=U (bc.o.trans g.2);have g:=U g.1;generalize bd.setCell ⟨G,7,none⟩ (.int .i64 ((a:Int)+1))=wc at g aQ;obtain⟨g0,cI,aa,f0⟩:=g.o.e.lV 1 0 rfl (g.o.e.kG.trans X.o.2.2.2.2.1) (by omega);have t:=g.o.e.xQ cI (k:=k0) (by have:=X.o.2.2.2.1;have:=X.o.2.2.2.2.1;show k0<c1.wt.length;omega);obtain⟨ab,ir,u,ad⟩:∃A n c,l (iF k0)=⟨A,n,c⟩:=⟨_,_,_,rfl⟩
   rw[ad] at t;have ae:wc.cell? ⟨g0,k0,none⟩=some (.slice ab ir u):=t;clear t;obtain⟨ls,M⟩:∃ls,ay c1.wt k0=ls:=⟨_,rfl⟩
   have aR:ir=ls.length:=by have:=g.o.e.zV k0;rw[ad] at this;rw[<-M];exact this
   have bf:ir<=100000:=by
    have h1:=f.o.gR.wt.nt k0;have bz:=f.o.sm.len;rw[M] at h1;omega
   have az:=nV.start f.o.gR f.o.2 (by have:=D.o;have:=X.o.2.2.2.2.2.2;omega);rw[D.o.2.2.1,X.o.1,X.o.2.2.1,M] at az;have Y:=U (y_ cI (y_ ad (y_ M (y_ aR (y_ bf az)))));clear cI ad M aR az f0 z f7;refine w_ 8 (by kernel_rfl) (by kernel_rfl) ?_;simp only[v_,o_,u_,q_]
   iterate 5 still_step
   still_call ((V.o _).mono (λ e w' h=>⟨h.1,h.2.symm⟩))
   iterate 2 still_step
   refine f_ ?_;change wpList _ _ _ _ _ wc.drew;have p:=U g.o.drew;have Fd:=U (aQ.o.trans (aG.drew (w:=wc)));clear aa ae;generalize wc.drew=wd at*;have aa:=p.o.e.q5 1 Y.o.1 (p.o.e.kG.trans X.o.2.2.2.2.1) rfl;have f0:=p.o.e.rows.free Y.o.1 k0;have C:bJ (k0<c1.wt.length):=U (by have:=X.o.2.2.2.1;have:=X.o.2.2.2.2.1;omega);have t:=p.o.e.xQ Y.o.1 (k:=k0) C.o;rw[Y.o.2.1] at t;have ae:wd.cell? ⟨g0,k0,none⟩=some (.slice ab ir u):=t;clear t
   by_cases aS:ir=0
   ·subst aS;have aT:ls=[]:=x_ (by have:=Y.o.2.2.2.1;omega);have I:=U aT;clear aT
    cases ab with
    |none=>
     go_wp2_with fail
     apply wp_label
     go_wp2_with fail
     refine Zq 1 ?_;rw[Zb]
     go_wp2_with fail
     refine w_ 8 (by kernel_rfl) (by kernel_rfl) ?_;simp only[v_,o_,u_,q_]
     iterate 5 still_step
     still_call ((V.o _).mono (λ e w' h=>⟨h.1,h.2.symm⟩))
     iterate 2 still_step
     refine f_ ?_;change wpList _ _ _ _ _ wd.drew;have d:=Bx (c2:={c1 with ag:=a+1}) (raw:=[]) (kept:=[]) (kl:=0) (by rw[<-I.o,<-Y.o.2.2.1];have:=Bu (c:={c1 with ag:=a+1}) C.o;rw[show ay ({c1 with ag:=a+1}:Core).wt k0=ay c1.wt k0 from rfl] at this;rw[this];exact p.o) Y.o.1 C.o Y.o.2.1 rfl (d_ _) (by rw[<-I.o];exact Y.o.2.2.1);have y:z7 F ah s.c {c1 with ag:=a+1} (a+1):=by
      have q:=Y.o.2.2.2.2.2;rw[I.o] at q;exact⟨q.done.1,q.8,f.o.sm.trans q.sm⟩
     go_wp2_with fail
     go_roundw
     case rel=>
      repeat apply Zi
      exact⟨⟨_,_,y,d.1,Fd.o.trans d.2,by have:=D.o;have:=X.o;show a+1<=_;omega⟩,rfl⟩
     case measure=>
      rw[d.1.yJ,E.o.yJ];show s.c.n-(a+1)<s.c.n-c1.ag;have:=D.o;have:=X.o;omega
    |some bA=>
     go_wp2_with fail
     apply wp_label
     go_wp2_with fail
     refine Zq 1 ?_;rw[Zb]
     go_wp2_with fail
     refine w_ 8 (by kernel_rfl) (by kernel_rfl) ?_;simp only[v_,o_,u_,q_]
     iterate 5 still_step
     still_call ((V.o _).mono (λ e w' h=>⟨h.1,h.2.symm⟩))
     iterate 2 still_step
     refine f_ ?_;change wpList _ _ _ _ _ wd.drew;have d:=Bx (c2:={c1 with ag:=a+1}) (raw:=[]) (kept:=[]) (kl:=0) (by rw[<-I.o,<-Y.o.2.2.1];have:=Bu (c:={c1 with ag:=a+1}) C.o;rw[show ay ({c1 with ag:=a+1}:Core).wt k0=ay c1.wt k0 from rfl] at this;rw[this];exact p.o) Y.o.1 C.o Y.o.2.1 rfl (d_ _) (by rw[<-I.o];exact Y.o.2.2.1);have y:z7 F ah s.c {c1 with ag:=a+1} (a+1):=by
      have q:=Y.o.2.2.2.2.2;rw[I.o] at q;exact⟨q.done.1,q.8,f.o.sm.trans q.sm⟩
     go_wp2_with fail
     go_roundw
     case rel=>
      repeat apply Zi
      exact⟨⟨_,_,y,d.1,Fd.o.trans d.2,by have:=D.o;have:=X.o;show a+1<=_;omega⟩,rfl⟩
     case measure=>
      rw[d.1.yJ,E.o.yJ];show s.c.n-(a+1)<s.c.n-c1.ag;have:=D.o;have:=X.o;omega
   ·obtain⟨af,ai,aA,-⟩:=p.o.e.wF (r:=iF k0) (m:=ir) (by rw[Y.o.2.1]) aS;rw[Y.o.2.1] at ai;have ai:ab=some ⟨af,0,none⟩:=ai;subst ai;have cap:=p.o.e.xN aA;rw[Y.o.2.1] at cap;have cap:ir<=u:=cap;have bB:(0:Int)<=(u:Int):=by omega
    have bg:=U cap;have bC:=U aA;clear cap aA
    go_wp2_with fail
    apply wp_label
    go_wp2_with fail
    have j:bJ (rJ G l c1 s lit ls k0 g0 af ir u):=U ⟨Y.o.1,Y.o.2.1,Y.o.2.2.2.1,Y.o.2.2.2.2.1,bg.o,X.o.2.2.1,X.o.2.1,X.o.2.2.2.2.1,D.o.1,aE,aZ,X.o.2.2.2.1,f.o.sm.st,f.o.sm.len,a6⟩;clear f0 ae aa
    go_loopw [5,6,7,8,48] (λ bh _ _ _ aB W=>∃(i kl:Nat)(kept:List Nat)(c2:Core)(aU:Nat->ax),aB=.int .i64 i/\bh=.slice (some ⟨af,0,none⟩) kl u/\mC K base w G cb F ah s c1 l a lit ls k0 i kl kept c2 aU W) (λ _ _ _ _ aB _=>ir-(intOf aB).toNat)
    case atStart=>
     refine⟨0,0,[],{c1 with ag:=a+1},l,rfl,rfl,Y.o.2.2.2.2.2,rfl,?_,rfl,rfl,Fd.o⟩;rw[List.nil_append,q_,<-Y.o.2.2.1];have:=Bu (c:={c1 with ag:=a+1}) C.o;rw[show ay ({c1 with ag:=a+1}:Core).wt k0=ay c1.wt k0 from rfl] at this;rw[this];exact p.o
    case round=>
     obtain⟨i,kl,kept,c2,aU,rfl,rfl,b⟩:=hrel;refine LK j.o b ?_ ?_ ?_
     ·intros
      rename_i aV
      conv=>zeta
      subst aV;have b:=U b;have N:=b.o.cI j.o;have aa:=b.o.fN.e.q5 1 N (b.o.fN.e.kG.trans (b.o.raw j.o)) rfl;have f0:=b.o.fN.e.rows.free N k0;have aC:=b.o.hw.trans j.o.ag;have ae:wr.cell? ⟨g0,k0,none⟩=some (.slice (some ⟨af,0,none⟩) ir u):=by have:=b.o.fN.e.xQ N (k:=k0) (by show k0<(kH c2 k0 _).wt.length;rw[b.o.raw j.o];exact j.o.hk);rw[aC] at this;exact this
      have bj:bJ (k0<c2.wt.length):=U (by rw[b.o.vM j.o];exact j.o.hk);have aW:=U (y_ N aC);clear N aC
      go_upto_region 27 with fail
      refine w_ 8 (by kernel_rfl) (by kernel_rfl) ?_;simp only[v_,o_,u_,q_]
      iterate 5 still_step
      still_call ((V.o _).mono (λ e w' h=>⟨h.1,h.2.symm⟩))
      iterate 2 still_step
      refine f_ ?_;change wpList _ _ _ _ _ wr.drew;have d:=Bx (c2:=c2) (kl:=kl) (kept:=kept) b.o.fN aW.o.1 bj.o aW.o.2 (Zd b.o.sZ) (by rw[List.length_append,b.o.sZ];omega) (by have:=b.o.nI.done.2;rw[j.o.kL] at this;exact this);have aD:c2.ag=a+1:=b.o.nI.ag;have y:z7 F ah s.c c2 c2.ag:=by
       rw[aD];exact⟨b.o.nI.done.1,b.o.nI.8,f.o.sm.trans b.o.nI.sm⟩
      have aX:=U aD;have y:=U y;have d:=U d;clear aD
      go_wp2_with fail
      go_roundw
      case rel=>
       repeat apply Zi
       exact⟨⟨_,_,y.o,d.o.1,b.o.jr.trans d.o.2,by rw[aX.o];have:=D.o;have:=X.o;omega⟩,rfl⟩
      case measure=>
       rw[d.o.1.yJ,E.o.yJ];show s.c.n-c2.ag<s.c.n-c1.ag;rw[aX.o];have:=D.o;have:=X.o;omega
     ·intros
      rename_i bk
      conv=>zeta
      go_roundw
      case rel=>
       repeat apply Zi
       exact⟨⟨i+1,_,_,_,_,by go_num,rfl,bk⟩,rfl⟩
      case measure=>
       have:=j.o.len;rename_i aV _;simp[intOf];omega
     ·intros
      rename_i bl bn bo bp bq d br
      conv=>zeta
      go_ret;exact⟨some _,_,_,a,rfl,⟨bl,bn,f.o.sm.trans bo⟩,d,br,bp,bq⟩
  ·have a8:decide ((a:Int)<(aK:Int))=false:=decide_eq_false (by omega);have a':¬(a:Int)<(aK:Int):=by omega
   have bs:=U B;clear B
   go_wp2_with fail
   refine w_ 9 (by kernel_rfl) (by kernel_rfl) ?_;simp only[v_,o_,u_,q_]
   iterate 9 still_step
   refine f_ ?_;change wpList _ _ _ _ _ wr.drew
   go_wp2_with fail
   go_ret;have hle:=f.o.gR.hle;have bt:=E.o.drew;have:=D.o;have:=bs.o;exact⟨none,c1,l,c1.ag,rfl,f.o,bt,aI.o.trans aG.drew,by omega,rfl⟩
end
section
open Go.RowKit Go.Shelf
structure vR(s:aq):Prop where
 qE:oT s.c
 ww:∀k d,d∈ay s.c.wt k->d<s.c.cl.length
 wl:∀d∈s.aM,d<s.c.cl.length
theorem GH(cb:Nat->Nat)(n b:Nat){l:List Nat}(h:∀d∈l,d<n):k3 (iT cb n b) l=k3 cb l:=by
 unfold k3;refine Zs (λ d a=>?_);unfold sS;rw[bk _ _ (by have:=h d a;omega)]
theorem LM(cb:Nat->Nat)(n b:Nat){l:List (Option Nat)}(h:∀v d,mz l v=some d->d<n):tZ (iT cb n b) l=tZ cb l:=by
 unfold tZ;refine Zs (λ o a=>?_);obtain⟨k,hk,rfl⟩:=Z3.1 a
 cases c:l[k] with
 |none=>rfl
 |some d=>
  show sS _ d=sS _ d;unfold sS;rw[bk _ _ (by have:=h k d (by rw[Fg hk,c]);omega)]
def aq.rZ(s:aq)(l:List Int)(x:rS):aq:={s with c:={s.c with cl:=s.c.cl++[l]},ci:=s.ci++[x]}
section
variable {K:Nat->Prop}{base:Nat}{w W:World}{G:Nat}{hs:Nat->ax}{cb:Nat->Nat}{s:aq}
theorem aY.DC(h:aY K base w G hs cb s)(c:vR s)(b:Nat):aY K base w G hs (iT cb s.c.cl.length b) s:=by
 refine⟨?_,⟨h.s.lt,h.s.g,h.s.row,λ d a=>by rw[bk _ _ (by omega)];exact h.s.cl d a⟩⟩;refine⟨h.e.box,⟨λ r=>?_,h.e.rows.apart⟩,λ d a=>by rw[bk _ _ (by omega)];exact h.e.cls d a,λ d e a he=>by rw[bk _ _ (by omega),bk _ _ (by omega)];exact h.e.inj d e a he,h.e.qX,λ d a=>by rw[bk _ _ (by omega)];exact h.e.rE d a⟩;have h1:=h.e.rows.row r;have:cont hs (iT cb s.c.cl.length b) s r=cont hs cb s r:=by
  unfold cont;rw[LM cb _ b c.qE,GH cb _ b c.wl,GH cb _ b (λ d a=>c.ww _ d a)]
 rw[this];exact h1
theorem LN{d n:Nat}(h:d≠n):kI d≠kI n:=by unfold kI;omega
theorem aY.rZ(h:aY K base w G hs cb s){hl:ax}{l:List Int}{x:rS}(hblk:aT w (cb s.c.cl.length) vc [hl.v,.bool x.kZ,.int .i64 x.bh,.int .i64 x.ac])(t:base<=cb s.c.cl.length)(u:¬K (cb s.c.cl.length))(p:∀d,d<s.c.cl.length->cb d≠cb s.c.cl.length)
  (y:w.ownsRow base 3 1 hl.v hl.n (jc l)) (q:∀g,hl.b=some g->(∀r,(hs r).b≠some g)/\¬K g) (z:s.ci.length=s.c.cl.length):
  aY K base w G (iT hs (kI s.c.cl.length) hl) cb (s.rZ l x):=by
 have hlen:(s.rZ l x).c.cl.length=s.c.cl.length+1:=by simp[aq.rZ]
 have j:=h.e.J' (r:=kI s.c.cl.length) (h':=hl) (ys:=jc l) (by rw[Dk,Bp];exact y) (λ g e r'=>(q g e).1 r');have a:∀r,r<13->iT hs (kI s.c.cl.length) hl r=hs r:=λ r a=>bk _ _ (by unfold kI;omega)
 have hw:∀k,iT hs (kI s.c.cl.length) hl (iF k)=hs (iF k):=λ k=>bk _ _ (by unfold kI iF;omega)
 have A:qW (iT hs (kI s.c.cl.length) hl) (s.rZ l x)=qW hs s:=by
  unfold qW oE;rw[a 0 (by omega),a 1 (by omega),a 2 (by omega),a 3 (by omega),a 4 (by omega),a 5 (by omega),a 6 (by omega),a 7 (by omega),a 8 (by omega),a 9 (by omega),a 10 (by omega),a 11 (by omega),a 12 (by omega)];rfl
 refine⟨⟨by rw[A];exact j.box,⟨λ r=>?_,j.rows.apart⟩,λ d f=>?_,λ d e f he heq=>?_,h.e.qX,λ d f=>?_⟩,⟨h.s.lt,h.s.g,(h.s.ja (r:=kI s.c.cl.length) (h':=hl) (λ g e=>(q g e).2)).row,λ d f=>?_⟩⟩
 ·have h1:=j.rows.row r;have e:iT (cont hs cb s) (kI s.c.cl.length) (jc l) r=cont (iT hs (kI s.c.cl.length) hl) cb (s.rZ l x) r:=by
   by_cases m:r=kI s.c.cl.length
   ·subst m;rw[jO,xP];show jc l=jc (ay (s.c.cl++[l]) s.c.cl.length);rw[uE]
   ·rw[bk _ _ m];rcases Zy r 13 with B|B
    ·have:r=0\/r=1\/r=2\/r=3\/r=4\/r=5\/r=6\/r=7\/r=8\/r=9\/r=10\/r=11\/r=12:=by omega
     rcases this with rfl|rfl|rfl|rfl|rfl|rfl|rfl|rfl|rfl|rfl|rfl|rfl|rfl
     ·show(List.range s.c.wt.length).map _=(List.range s.c.wt.length).map _;refine Zs (λ k _=>?_);rw[hw]
     all_goals rfl
    ·have a0:¬r=0:=by omega
     have a1:¬r=1:=by omega
     have a2:¬r=2:=by omega
     have a3:¬r=3:=by omega
     have a4:¬r=4:=by omega
     have a5:¬r=5:=by omega
     have C:¬r=6:=by omega
     have D:¬r=7:=by omega
     have E:¬r=8:=by omega
     have a9:¬r=9:=by omega
     have F:¬r=10:=by omega
     have H:¬r=11:=by omega
     have a12:¬r=12:=by omega
     unfold cont;simp only[a0,a1,a2,a3,a4,a5,C,D,E,a9,F,H,a12,if_false]
     by_cases hm:r%3=1
     ·rw[if_pos hm,if_pos hm];rfl
     ·rw[if_neg hm,if_neg hm]
      by_cases i:r%3=2
      ·rw[if_pos i,if_pos i]
       congr 1
       show _=ay (s.c.cl++[l]) ((r-14)/3);rcases Zy ((r-14)/3) s.c.cl.length with I|L
       ·rw[AY I]
       ·have M:(r-14)/3≠s.c.cl.length:=λ o=>m (by unfold kI;omega)
        unfold ay;rw[Zo,Zo,Za (by omega),Za (by simp;omega)]
      ·rw[if_neg i,if_neg i];rfl
  rw[<-e];exact h1
 ·rw[hlen] at f
  by_cases e:d=s.c.cl.length
  ·subst e;have:tv (iT hs (kI s.c.cl.length) hl) (s.rZ l x) s.c.cl.length=[hl.v,.bool x.kZ,.int .i64 x.bh,.int .i64 x.ac]:=by
    unfold tv;rw[jO];show [_,Value.bool ((s.ci++[x]).getD _ _).kZ,j_ .i64 ((s.ci++[x]).getD _ _).bh,j_ .i64 ((s.ci++[x]).getD _ _).ac]=_;rw[yE,if_pos z.symm]
   rw[this];exact hblk
  ·have:tv (iT hs (kI s.c.cl.length) hl) (s.rZ l x) d=tv hs s d:=by
    unfold tv;rw[bk _ _ (LN e)];show [_,Value.bool ((s.ci++[x]).getD _ _).kZ,j_ .i64 ((s.ci++[x]).getD _ _).bh,j_ .i64 ((s.ci++[x]).getD _ _).ac]=_;rw[yE,if_neg (by omega)]
   rw[this];exact h.e.cls d (by omega)
 ·rw[hlen] at f he
  by_cases J:d=s.c.cl.length
  ·by_cases o:e=s.c.cl.length
   ·omega
   ·subst J;exact absurd heq.symm (p e (by omega))
  ·by_cases o:e=s.c.cl.length
   ·subst o;exact absurd heq (p d (by omega))
   ·exact h.e.inj d e (by omega) (by omega) heq
 ·rw[hlen] at f
  by_cases e:d=s.c.cl.length
  ·subst e;exact t
  ·exact h.e.rE d (by omega)
 ·rw[hlen] at f
  by_cases e:d=s.c.cl.length
  ·subst e;exact u
  ·exact h.s.cl d (by omega)
end
end
section
open Go.Shelf
def Tryz.LO:Zx:=⟨λ|43=>223|n=>n,λ|22=>25|23=>3|3=>3|4=>4|0=>0|n=>n,λ|n=>n⟩
theorem Tryz.LP:Go.Proofs.SlLaysE.n43 z_ Tryz.LO:={
 mixed:=by kernel_rfl
 f43:=⟨Tryz.f223.name,by decide,Tryz.func223.trans (congrArg some (by kernel_rfl))⟩
 t0:=b_
 a0:=Zc
 z0:=Zh
 v0:=Zw
 t3:=a_
 a3:=g_
 z3:=l_
 v3:=n_
 t4:=i_
 a4:=Zp
 z4:=Zv
 v4:=e_
 t22:=s_
 a22:=Zu
 z22:=c_
 v22:=h_
 a23:=g_
 z23:=l_}
open Go.RowKit Go.Lib Go.Sort in
theorem Tryz.slices_Compact{α:Type}[Inhabited α][DecidableEq α](enc:α->Value)(hO:OneCell enc)(heq:EqlAt z_ 3 enc (λ x y=>decide (x=y)))(b:NeqAt z_ 3 enc (λ x y=>decide (x=y)))(a:α)(v23:∀w,(zeroValue 3).run z_ w=.ok (enc a) w)(blk off cap:Nat)(d:Array α)(w:World)(hH:Holds enc w blk off d)(c:d.size<=9223372036854775807)(f:d.size<=cap):
 Calls z_ 223 #[.slice (some ⟨blk,off,none⟩) d.size cap] w λ e w'=>e=.returned (.slice (some ⟨blk,off,none⟩) (compactUpTo d d.size).length cap)/\∃q,w'=putRow enc (Sort.ahead w q) blk off (compactUpTo d d.size++Zr (d.size-(compactUpTo d d.size).length) a).toArray:=AnyE.slices_Compact Tryz.LP enc hO heq b a v23 blk off cap d w hH c f
def Tryz.LQ:Zx:=⟨λ|41=>81|n=>n,λ|22=>25|23=>3|4=>4|n=>n,λ|n=>n⟩
theorem Tryz.GI:Go.Proofs.SlLaysE0.n41 z_ Tryz.LQ:={
 mixed:=by kernel_rfl
 f41:=⟨Tryz.f81.name,by decide,Tryz.func81.trans (congrArg some (by kernel_rfl))⟩
 t4:=i_
 a4:=Zp
 z4:=Zv
 v4:=e_
 t22:=s_
 a22:=Zu
 z22:=c_
 v22:=h_}
open Go.RowKit Go.Lib in
theorem Tryz.slices_Clone(i0:TypeInfo)(z:Value)(size bytes:Nat)(a:z_.info? 3=some i0)(d:i0.zero=some z)(f:i0.size=size)(g:i0.bytes=bytes)(h:z.cells.size=size)(i:0<size)(z23:∀w,(Go.sizeOf 3).run z_ w=.ok size w)(b off n c:Nat)(news:List Value)(w:World)(hl:news.length=n*size)(k:n<=maxLen)(l:n*bytes<=140737488355328)(m:∀j u,news[j]? =some u->w.cell? ⟨b,off+j,none⟩=some u)(h1:∀u∈news,u.oneCell'=true):
 Calls z_ 81 #[.slice (some ⟨b,off,none⟩) n c] w λ e w'=>∃v',e=.returned v'/\w'.ownsRow w.heap.size 3 size v' n news/\v'≠ .slice none 0 0/\Below w.heap.size w w':=AnyE.slices_Clone Tryz.GI i0 z size bytes a d f g h i z23 b off n c news w hl k l m h1
open Go.RowKit Go.Lib in
theorem Tryz.slices_Clone_nil(n c:Nat)(w:World):
 Calls z_ 81 #[.slice none n c] w λ e w'=>e=.returned (.slice none 0 0)/\w'=w:=AnyE.slices_Clone_nil Tryz.GI n c w
def Tryz.LR:Zx:=⟨λ|10=>85|6=>142|n=>n,λ|22=>25|23=>3|25=>106|3=>3|4=>4|0=>0|n=>n,λ|n=>n⟩
theorem Tryz.LS:Go.Proofs.SlLaysH.n10 z_ Tryz.LR:={
 mixed:=by kernel_rfl
 f6:=⟨Tryz.f142.name,by decide,Tryz.func142.trans (congrArg some (by kernel_rfl))⟩
 f10:=⟨Tryz.f85.name,by decide,Tryz.func85.trans (congrArg some (by kernel_rfl))⟩
 t0:=b_
 a0:=Zc
 z0:=Zh
 v0:=Zw
 t3:=a_
 a3:=g_
 z3:=l_
 v3:=n_
 t4:=i_
 a4:=Zp
 z4:=Zv
 v4:=e_
 t22:=s_
 a22:=Zu
 z22:=c_
 v22:=h_
 a23:=g_
 z23:=l_
 t25:=Tryz.underlying106
 a25:=Tryz.isAgg106
 z25:=Tryz.sizeOf106
 v25:=Tryz.zeroValue106}
open Go.RowKit Go.Lib Go.Sort in
theorem Tryz.slices_DeleteFunc{α:Type}[Inhabited α](enc:α->Value)(hO:OneCell enc)(p:α->Bool)(g:Nat)(lb:Array Value)(b:∀args w,(callFunc g args).run z_ w=.ok (.enter g args) w)(a:α)(v23:∀w,(zeroValue 3).run z_ w=.ok (enc a) w)(blk off cap:Nat)(d:Array α)(w:World)(hp:PredAt z_ g lb enc p w)(c:PredOver z_ g lb enc p blk off d.size w)(hH:Holds enc w blk off d)(f:d.size<=9223372036854775807)(h:d.size<=cap):
 Calls z_ 85 #[.slice (some ⟨blk,off,none⟩) d.size cap,.func (.func g) #[] lb] w λ e w'=>e=.returned (.slice (some ⟨blk,off,none⟩) (d.toList.filter λ x=> !p x).length cap)/\∃q,w'=putRow enc (Sort.ahead w q) blk off ((d.toList.filter λ x=> !p x)++Zr (d.size-(d.toList.filter λ x=> !p x).length) a).toArray:=AnyE.slices_DeleteFunc Tryz.LS enc hO p g lb b a v23 blk off cap d w hp c hH f h
def Tryz.LU:Zx:=⟨λ|6=>157|15=>178|14=>195|28=>219|29=>220|20=>228|21=>229|22=>230|23=>231|24=>232|25=>233|26=>234|27=>235|46=>258|47=>254|48=>255|49=>259|50=>260|57=>269|n=>n,λ|22=>25|24=>3|25=>177|3=>3|39=>77|0=>0|53=>217|55=>219|4=>4|46=>211|45=>210|50=>137|5=>5|9=>9|66=>235|70=>239|76=>248|77=>249|n=>n,λ|n=>n⟩
theorem Tryz.LV:Go.Proofs.SlLaysF.n6 z_ Tryz.LU:={
 mixed:=by kernel_rfl
 f6:=⟨Tryz.f157.name,by decide,Tryz.func157.trans (congrArg some (by kernel_rfl))⟩
 f14:=⟨Tryz.f195.name,by decide,Tryz.func195.trans (congrArg some (by kernel_rfl))⟩
 f15:=Tryz.func178.trans (congrArg some (by kernel_rfl))
 f20:=⟨Tryz.f228.name,by decide,Tryz.func228.trans (congrArg some (by kernel_rfl))⟩
 f21:=⟨Tryz.f229.name,by decide,Tryz.func229.trans (congrArg some (by kernel_rfl))⟩
 f22:=⟨Tryz.f230.name,by decide,Tryz.func230.trans (congrArg some (by kernel_rfl))⟩
 f23:=⟨Tryz.f231.name,by decide,Tryz.func231.trans (congrArg some (by kernel_rfl))⟩
 f24:=⟨Tryz.f232.name,by decide,Tryz.func232.trans (congrArg some (by kernel_rfl))⟩
 f25:=⟨Tryz.f233.name,by decide,Tryz.func233.trans (congrArg some (by kernel_rfl))⟩
 f26:=⟨Tryz.f234.name,by decide,Tryz.func234.trans (congrArg some (by kernel_rfl))⟩
 f27:=⟨Tryz.f235.name,by decide,Tryz.func235.trans (congrArg some (by kernel_rfl))⟩
 f28:=Tryz.func219.trans (congrArg some (by kernel_rfl))
 f29:=Tryz.func220.trans (congrArg some (by kernel_rfl))
 f46:=⟨Tryz.f258.name,by decide,Tryz.func258.trans (congrArg some (by kernel_rfl))⟩
 f47:=Tryz.func254.trans (congrArg some (by kernel_rfl))
 f48:=Tryz.func255.trans (congrArg some (by kernel_rfl))
 f49:=⟨Tryz.f259.name,by decide,Tryz.func259.trans (congrArg some (by kernel_rfl))⟩
 f50:=⟨Tryz.f260.name,by decide,Tryz.func260.trans (congrArg some (by kernel_rfl))⟩
 f57:=⟨Tryz.f269.name,by decide,Tryz.func269.trans (congrArg some (by kernel_rfl))⟩
 t0:=b_
 a0:=Zc
 z0:=Zh
 v0:=Zw
 t3:=a_
 a3:=g_
 z3:=l_
 v3:=n_
 t4:=i_
 a4:=Zp
 z4:=Zv
 v4:=e_
 t5:=Tryz.underlying5
 a5:=Tryz.isAgg5
 z5:=Tryz.sizeOf5
 v5:=Tryz.zeroValue5
 t9:=Tryz.underlying9
 a9:=Tryz.isAgg9
 z9:=Tryz.sizeOf9
 v9:=Tryz.zeroValue9
 t22:=s_
 a22:=Zu
 z22:=c_
 v22:=h_
 a24:=g_
 z24:=l_
 t25:=Tryz.underlying177
 a25:=Tryz.isAgg177
 z25:=Tryz.sizeOf177
 v25:=Tryz.zeroValue177
 t39:=Tryz.underlying77
 a39:=Tryz.isAgg77
 z39:=Tryz.sizeOf77
 v39:=Tryz.zeroValue77
 t45:=Tryz.underlying210
 a45:=Tryz.isAgg210
 z45:=Tryz.sizeOf210
 v45:=Tryz.zeroValue210
 t46:=Tryz.underlying211
 a46:=Tryz.isAgg211
 z46:=Tryz.sizeOf211
 v46:=Tryz.zeroValue211
 t50:=Tryz.underlying137
 a50:=Tryz.isAgg137
 z50:=Tryz.sizeOf137
 v50:=Tryz.zeroValue137
 t53:=Tryz.underlying217
 a53:=Tryz.isAgg217
 z53:=Tryz.sizeOf217
 v53:=Tryz.zeroValue217
 t55:=Tryz.underlying219
 a55:=Tryz.isAgg219
 z55:=Tryz.sizeOf219
 v55:=Tryz.zeroValue219
 t66:=Tryz.underlying235
 a66:=Tryz.isAgg235
 z66:=Tryz.sizeOf235
 v66:=Tryz.zeroValue235
 t70:=Tryz.underlying239
 a70:=Tryz.isAgg239
 z70:=Tryz.sizeOf239
 v70:=Tryz.zeroValue239
 t76:=Tryz.underlying248
 a76:=Tryz.isAgg248
 z76:=Tryz.sizeOf248
 v76:=Tryz.zeroValue248
 t77:=Tryz.underlying249
 a77:=Tryz.isAgg249
 z77:=Tryz.sizeOf249
 v77:=Tryz.zeroValue249}
def Tryz.LW:Zx:=⟨λ|6=>157|15=>178|14=>195|28=>219|29=>220|20=>228|21=>229|22=>230|23=>231|24=>232|25=>233|26=>234|27=>235|46=>258|47=>254|48=>255|49=>259|50=>260|57=>269|n=>n,λ|22=>25|24=>3|25=>177|3=>3|39=>77|0=>0|53=>217|55=>219|4=>4|46=>211|45=>210|50=>137|5=>5|9=>9|66=>235|70=>239|76=>248|77=>249|n=>n,λ|n=>n⟩
theorem Tryz.LX:Go.Proofs.SlLaysF0.n6 z_ Tryz.LW:={
 mixed:=by kernel_rfl
 f6:=⟨Tryz.f157.name,by decide,Tryz.func157.trans (congrArg some (by kernel_rfl))⟩
 f14:=⟨Tryz.f195.name,by decide,Tryz.func195.trans (congrArg some (by kernel_rfl))⟩
 f15:=Tryz.func178.trans (congrArg some (by kernel_rfl))
 f20:=⟨Tryz.f228.name,by decide,Tryz.func228.trans (congrArg some (by kernel_rfl))⟩
 f21:=⟨Tryz.f229.name,by decide,Tryz.func229.trans (congrArg some (by kernel_rfl))⟩
 f22:=⟨Tryz.f230.name,by decide,Tryz.func230.trans (congrArg some (by kernel_rfl))⟩
 f23:=⟨Tryz.f231.name,by decide,Tryz.func231.trans (congrArg some (by kernel_rfl))⟩
 f24:=⟨Tryz.f232.name,by decide,Tryz.func232.trans (congrArg some (by kernel_rfl))⟩
 f25:=⟨Tryz.f233.name,by decide,Tryz.func233.trans (congrArg some (by kernel_rfl))⟩
 f26:=⟨Tryz.f234.name,by decide,Tryz.func234.trans (congrArg some (by kernel_rfl))⟩
 f27:=⟨Tryz.f235.name,by decide,Tryz.func235.trans (congrArg some (by kernel_rfl))⟩
 f28:=Tryz.func219.trans (congrArg some (by kernel_rfl))
 f29:=Tryz.func220.trans (congrArg some (by kernel_rfl))
 f46:=⟨Tryz.f258.name,by decide,Tryz.func258.trans (congrArg some (by kernel_rfl))⟩
 f47:=Tryz.func254.trans (congrArg some (by kernel_rfl))
 f48:=Tryz.func255.trans (congrArg some (by kernel_rfl))
 f49:=⟨Tryz.f259.name,by decide,Tryz.func259.trans (congrArg some (by kernel_rfl))⟩
 f50:=⟨Tryz.f260.name,by decide,Tryz.func260.trans (congrArg some (by kernel_rfl))⟩
 f57:=⟨Tryz.f269.name,by decide,Tryz.func269.trans (congrArg some (by kernel_rfl))⟩
 t0:=b_
 a0:=Zc
 z0:=Zh
 v0:=Zw
 t3:=a_
 a3:=g_
 z3:=l_
 v3:=n_
 t4:=i_
 a4:=Zp
 z4:=Zv
 v4:=e_
 t5:=Tryz.underlying5
 a5:=Tryz.isAgg5
 z5:=Tryz.sizeOf5
 v5:=Tryz.zeroValue5
 t9:=Tryz.underlying9
 a9:=Tryz.isAgg9
 z9:=Tryz.sizeOf9
 v9:=Tryz.zeroValue9
 t22:=s_
 a22:=Zu
 z22:=c_
 v22:=h_
 t25:=Tryz.underlying177
 a25:=Tryz.isAgg177
 z25:=Tryz.sizeOf177
 v25:=Tryz.zeroValue177
 t39:=Tryz.underlying77
 a39:=Tryz.isAgg77
 z39:=Tryz.sizeOf77
 v39:=Tryz.zeroValue77
 t45:=Tryz.underlying210
 a45:=Tryz.isAgg210
 z45:=Tryz.sizeOf210
 v45:=Tryz.zeroValue210
 t46:=Tryz.underlying211
 a46:=Tryz.isAgg211
 z46:=Tryz.sizeOf211
 v46:=Tryz.zeroValue211
 t50:=Tryz.underlying137
 a50:=Tryz.isAgg137
 z50:=Tryz.sizeOf137
 v50:=Tryz.zeroValue137
 t53:=Tryz.underlying217
 a53:=Tryz.isAgg217
 z53:=Tryz.sizeOf217
 v53:=Tryz.zeroValue217
 t55:=Tryz.underlying219
 a55:=Tryz.isAgg219
 z55:=Tryz.sizeOf219
 v55:=Tryz.zeroValue219
 t66:=Tryz.underlying235
 a66:=Tryz.isAgg235
 z66:=Tryz.sizeOf235
 v66:=Tryz.zeroValue235
 t70:=Tryz.underlying239
 a70:=Tryz.isAgg239
 z70:=Tryz.sizeOf239
 v70:=Tryz.zeroValue239
 t76:=Tryz.underlying248
 a76:=Tryz.isAgg248
 z76:=Tryz.sizeOf248
 v76:=Tryz.zeroValue248
 t77:=Tryz.underlying249
 a77:=Tryz.isAgg249
 z77:=Tryz.sizeOf249
 v77:=Tryz.zeroValue249}
open Go.RowKit Go.Lib Go.Sort in
theorem Tryz.slices_SortFunc_none{α:Type}[Inhabited α](p:Option Addr)(cap:Nat)(a:Value)(w:World):
 Calls z_ 157 #[.slice p 0 cap,a] w λ e w'=>e=.returned (.tuple #[])/\w'=w:=AnyF.slices_SortFunc_none Tryz.LX p cap a w
open Go.RowKit Go.Lib Go.Sort in
theorem Tryz.slices_SortFunc_total{α:Type}[Inhabited α](enc:α->Value)(h1:OneCell enc)(a:α->α->Int)(hO:SWO (ltOf a))(g:Nat)(cb:Array Value)(blk off cap:Nat)(d:Array α)(w:World)(b:∀args w,(callFunc g args).run z_ w=.ok (.enter g args) w)(c:CmpLays1 z_ g cb enc a blk off d.size w)(hH:Holds enc w blk off d)(hblk:blk<w.heap.size)(f:d.size<4611686018427387904)(h:∀x y,(ltOf a) x y=false->(ltOf a) y x=false->x=y):
 Calls z_ 157 #[.slice (some ⟨blk,off,none⟩) d.size cap,.func (.func g) #[] cb] w λ e w'=>
  e=.returned (.tuple #[])/\∃n os,w'=sortWorld enc w blk off n (d.toList.mergeSort λ x y=> !(ltOf a) y x).toArray os:=Any.slices_SortFunc_total Tryz.LV enc h1 a hO g cb blk off cap d w b c hH hblk f h
end
section
open Go.RowKit Go.Shelf Go.Sort Go.Lib
theorem LY:∀args w,(callFunc 221 args).run z_ w=.ok (.enter 221 args) w:=enters_of Tryz.func221 (by kernel_rfl) rfl
theorem LZ:∀args w,(callFunc 222 args).run z_ w=.ok (.enter 222 args) w:=enters_of Tryz.func222 (by kernel_rfl) rfl
theorem GJ(x:Int)(w:World):Calls z_ 221 #[.int .i64 x] w λ e w'=>e=.returned (.bool (!(lT x 65536)))/\w=w':=by
 go_enter Tryz.func221,Tryz.ntmps221
 go_wp2_with (go_at_call 163;refine(EO x 65536 w (by omega) (by omega)).mono ?_;rintro e w' ⟨rfl,rfl⟩)
 go_ret;exact⟨rfl,rfl⟩
def BK(a b:Int):Int:=rN (og (rj a) (rj b)) (og b a)
theorem L0(x y:Int)(w:World)(a: -65536<=x)(b:x<=65536)(c: -65536<=y)(d:y<=65536):
  Calls z_ 222 #[.int .i64 x,.int .i64 y] w λ e w'=>e=.returned (.int .i64 (BK x y))/\w'=w.alloc (.cells #[.int .i64 (og (rj x) (rj y)),.int .i64 (og y x)] 3):=by
 have f:=U (y_ a b);have g:=U (y_ c d);clear a b c d;go_enter Tryz.func222,Tryz.ntmps222
 go_wp2_with (first
  |(go_at_call 168;refine(IW _ _ (by first|exact f.o.1|exact g.o.1) (by first|exact f.o.2|exact g.o.2)).mono ?_;rintro e w' ⟨rfl,rfl⟩)
  |(go_at_call 160;refine(zn _ _ _).mono ?_;rintro e w' ⟨rfl,rfl⟩)
  |(go_at_call 159;refine(AQ w.heap.size (og (rj x) (rj y)) (og y x) _ (by go_simp) (by go_simp)).mono ?_;rintro e w' ⟨rfl,rfl⟩))
 go_ret;exact⟨rfl,rfl⟩
theorem L1(a:Value)(w:World):
  Calls z_ 142 #[.slice none 0 0,a] w λ e w'=>e=.returned (.int .i64 (-1))/\w=w':=by
 go_enter Tryz.func142,Tryz.ntmps142
 go_wp2;refine Zq 1 ?_;rw[Zb];go_wp2;go_ret;exact⟨rfl,rfl⟩
theorem DD(a:Value)(w:World):
  Calls z_ 85 #[.slice none 0 0,a] w λ e w'=>e=.returned (.slice none 0 0)/\w=w':=by
 have b:=L1 a w;go_enter Tryz.func85,Tryz.ntmps85
 go_wp2_with (go_at_call 142;refine b.mono ?_;rintro e w' ⟨rfl,rfl⟩)
 go_ret;exact⟨rfl,rfl⟩
theorem L2(w:World):
  Calls z_ 223 #[.slice none 0 0] w λ e w'=>e=.returned (.slice none 0 0)/\w=w':=by
 go_enter Tryz.func223,Tryz.ntmps223
 go_wp2;go_ret;exact⟨rfl,rfl⟩
def pS(a b:Int):Bool:=decide (rj a<rj b)||(decide (rj a=rj b)&&decide (b<a))
theorem wO:pS a b=true↔rj a<rj b\/(rj a=rj b/\b<a):=by simp[pS]
theorem BL(a:Int):¬pS a a=true:=by rw[wO];omega
theorem DE{c:Int}(h1:pS a b=true)(d:pS b c=true):pS a c=true:=by rw[wO] at*;omega
theorem L3(h1:pS a b=true):¬pS b a=true:=by rw[wO] at*;omega
theorem BM(h:a≠b):pS a b=true\/pS b a=true:=by rw[wO,wO];omega
def sy(l:List Int):Prop:=l.Pairwise λ a b=>pS a b=true
theorem GK:∀{l m:List Int},sy l->sy m->(∀x,x∈l↔x∈m)->l=m
 |[],[],_,_,_=>rfl
 |[],y::m,_,_,h=>by have:=(h y).2 (by simp);simp at this
 |x::l,[],_,_,h=>by have:=(h x).1 (by simp);simp at this
 |x::l,y::m,h1,g,h=>by
  have c:=m_.1 h1;have d:=m_.1 g;have e:x=y:=by
   have a:=(h x).1 (by simp);have b:=(h y).2 (by simp);rcases p_.1 a with a|a
   ·exact a
   ·rcases p_.1 b with b|b
    ·exact b.symm
    ·exact absurd (c.1 y b) (L3 (d.1 x a))
  subst e
  congr 1
  refine GK c.2 d.2 λ z=>?_
  have f:=h z;simp only[p_] at f;constructor
  ·intro hm;rcases f.1 (t_ hm) with e|e
   ·subst e;exact absurd (c.1 z hm) (BL z)
   ·exact e
  ·intro hm;rcases f.2 (t_ hm) with e|e
   ·subst e;exact absurd (d.1 z hm) (BL z)
   ·exact e
def wP(x:Int):List Int->List Int
 |[]=> [x]
 |y::l=>if pS y x=true then y::wP x l else x::y::l
theorem DF{x z:Int}:∀{l:List Int},z∈wP x l↔z=x\/z∈l
 |[]=>by simp[wP]
 |y::l=>by
  unfold wP;split
  ·simp only[p_,DF];constructor
   ·rintro(h|h|h)
    ·exact t_ (r_ h)
    ·exact r_ h
    ·exact t_ (t_ h)
   ·rintro(h|h|h)
    ·exact t_ (r_ h)
    ·exact r_ h
    ·exact t_ (t_ h)
  ·simp
theorem GL{x:Int}:∀{l:List Int},sy l->x∉l->sy (wP x l)
 |[],_,_=>by simp[wP,sy]
 |y::l,h,a=>by
  have h':=m_.1 h;simp only[p_,not_or] at a;unfold wP;split
  ·rename_i b;refine m_.2 ⟨λ z c=>?_,GL h'.2 a.2⟩;rcases DF.1 c with e|e
   ·subst e;exact b
   ·exact h'.1 z e
  ·rename_i b;have d:pS x y=true:=(BM a.1).resolve_right b;refine m_.2 ⟨λ z c=>?_,h⟩;rcases p_.1 c with e|e
   ·subst e;exact d
   ·exact DE d (h'.1 z e)
def xV(out:List Int)(x:Int):List Int:=if lT x 65536=true/\hasB out x=false then wP x out else out
def k6(l:List Int):List Int:=l.foldl xV []
theorem DG:∀(l out:List Int),sy out->(sy (l.foldl xV out)/\∀x,x∈l.foldl xV out↔x∈out\/(x∈l/\lT x 65536=true))
 |[],out,h=>⟨h,λ x=>by simp⟩
 |y::l,out,h=>by
  have hs:sy (xV out y)/\∀x,x∈xV out y↔x∈out\/(x=y/\lT x 65536=true):=by
   unfold xV;split
   ·rename_i b;have d:y∉out:=λ hm=>by have:=u0.2 hm;rw[b.2] at this;cases this
    refine⟨GL h d,λ x=>?_⟩;rw[DF];constructor
    ·rintro(e|e)
     ·subst e;exact t_ ⟨rfl,b.1⟩
     ·exact r_ e
    ·rintro(e|⟨e,_⟩)
     ·exact t_ e
     ·exact r_ e
   ·rename_i b;refine⟨h,λ x=>⟨r_,?_⟩⟩;rintro(e|⟨e,a⟩)
    ·exact e
    ·subst e
     cases c:hasB out x with
     |true=>exact u0.1 c
     |false=>exact absurd ⟨a,c⟩ b
  obtain⟨h1,f⟩:=DG l (xV out y) hs.1;refine⟨h1,λ x=>?_⟩;rw[List.foldl_cons,f,hs.2,p_];constructor
  ·rintro((e|⟨e,a⟩)|⟨e,a⟩)
   ·exact r_ e
   ·exact t_ ⟨r_ e,a⟩
   ·exact t_ ⟨t_ e,a⟩
  ·rintro(e|⟨e|e,a⟩)
   ·exact r_ (r_ e)
   ·exact r_ (t_ ⟨e,a⟩)
   ·exact t_ ⟨e,a⟩
theorem GM(l:List Int):sy (k6 l):=(DG l [] (by simp[sy])).1
theorem BN:x∈k6 l↔x∈l/\lT x 65536=true:=by
 have:=(DG l [] (by simp[sy])).2 x;simpa[k6] using this
theorem L4{m:List Int}(h:sy m)(hm:∀x,x∈m↔x∈l/\lT x 65536=true):m=k6 l:=
 GK h (GM l) λ x=>by rw[hm,BN]
abbrev r0:={x:Int//x≠0/\ -65536<=x/\x<=65536}
instance:Inhabited r0:=⟨⟨1,by decide⟩⟩
def oL(x:Int):Value:=.int .i64 x
def yU(x:r0):Value:=.int .i64 x.1
def sA(x y:r0):Int:=BK x.1 y.1
theorem L5{y:Int}:BK x y<0↔pS x y=true:=by
 rw[wO];unfold BK rN og;(repeat' split)<;>omega
theorem Ad(x y:r0):ltOf sA x y=pS x.1 y.1:=by
 unfold ltOf sA;rw[Bool.eq_iff_iff,decide_eq_true_eq,L5]
theorem BO:SWO (ltOf sA) where
 irrefl x:=by rw[Ad];simpa using BL x.1
 trans x y z h1 c:=by rw[Ad] at*;exact DE h1 c
 ntrans x y z h1 c:=by
  rw[Ad] at*
  cases h:pS x.1 z.1 with
  |false=>rfl
  |true=>
   exfalso;have a:¬pS x.1 y.1=true:=by rw[h1];exact Zz
   have b:¬pS y.1 z.1=true:=by rw[c];exact Zz
   rw[wO] at*;omega
theorem L6(x y:r0)(h1:ltOf sA x y=false)(a:ltOf sA y x=false):x=y:=by
 rw[Ad] at*;rcases Classical.em (x.1=y.1) with e|e
 ·exact Subtype.ext e
 ·rcases BM e with h|h
  ·rw[h1] at h;cases h
  ·rw[a] at h;cases h
theorem L7(blk off size:Nat)(w:World):CmpLays1 z_ 222 #[] yU sA blk off size w:=by
 intro m os a hs x y;refine(L0 x.1 y.1 _ x.2.2.1 x.2.2.2 y.2.2.1 y.2.2.2).mono ?_;rintro e w' ⟨rfl,rfl⟩;exact⟨rfl,0, #[_],by rw[alloc_eq_grow];rfl⟩
def yV(x:Int):Bool:= !(lT x 65536)
theorem L8(w:World):PredAt z_ 221 #[] oL yV w:=by
 intro W x _;unfold FnGives;exact(GJ x W).mono λ _ _ ⟨he,hw⟩=>⟨he,0,by rw[<-hw];rfl⟩
theorem L9(blk off size:Nat)(w:World):PredOver z_ 221 #[] oL yV blk off size w:=by
 intro n os a x _;unfold FnGives;exact(GJ x _).mono λ _ _ ⟨he,hw⟩=>⟨he,0,by rw[<-hw];rfl⟩
theorem yW:OneCell oL:=λ _=>rfl
theorem Ma:OneCell yU:=λ _=>rfl
theorem filter_eq(a:List Int):(a.filter λ x=> !yV x)=a.filter λ x=>lT x 65536:=by
 congr 1;funext x;simp[yV]
def xW(a:List Int):List r0:=a.filterMap λ x=>if h:x≠0/\ -65536<=x/\x<=65536 then some ⟨x,h⟩ else none
theorem GN(a:List Int):(xW a).map (·.1)=a.filter λ x=>lT x 65536:=by
 induction a with
 |nil=>rfl
 |cons x l c=>
  unfold xW at*
  by_cases h:x≠0/\ -65536<=x/\x<=65536
  ·have b:lT x 65536=true:=vr.2 h;rw[List.filterMap_cons,List.filter_cons,b,dif_pos h];simpa using c
  ·have b:lT x 65536=false:=by
    cases d:lT x 65536 with
    |false=>rfl
    |true=>exact absurd (vr.1 d) h
   rw[List.filterMap_cons,List.filter_cons,b,dif_neg h];simpa using c
def GO(d:Array r0)(m:Nat):Prop:=∀i j,i<j->j<m->pS d[j]!.1 d[i]!.1=false
theorem GP(d:Array r0):∀m,GO d m->
  sy ((compactUpTo d m).map (·.1))/\(∀x,x∈compactUpTo d m↔∃i,i<m/\d[i]! =x)
 |0,_=>⟨by simp[compactUpTo,sy],λ x=>by simp[compactUpTo]⟩
 |m+1,h=>by
  obtain⟨h1,g⟩:=GP d m (λ i j c t=>h i j c (by omega));rw[Zg]
  by_cases hk:keeps d m=true
  ·rw[if_pos hk];constructor
   ·rw[List.map_append];refine List.pairwise_append.2 ⟨h1,by simp,λ a o b k=>?_⟩;simp only[List.map_cons,List.map_nil,List.mem_singleton] at k;subst k;obtain⟨y,p,rfl⟩:=Z4.1 o;obtain⟨i,c,rfl⟩:=(g y).1 p;have q:d[m]! ≠d[m-1]! :=by
     have:=of_decide_eq_true hk;rcases this with e|e
     ·omega
     ·exact e
    have a1:pS d[m]!.1 d[m-1]!.1=false:=h (m-1) m (by omega) (by omega);have a2:pS d[m-1]!.1 d[m]!.1=true:=(BM (λ e=>q (Subtype.ext e.symm))).resolve_right (by rw[a1];exact Zz);rcases Zy i (m-1) with f|l
    ·have a3:pS d[m-1]!.1 d[i]!.1=false:=h i (m-1) f (by omega);rcases Classical.em (d[i]!.1=d[m-1]!.1) with e|e
     ·rw[e];exact a2
     ·exact DE ((BM e).resolve_right (by rw[a3];exact Zz)) a2
    ·have:i=m-1:=by omega
     subst this;exact a2
   ·intro x;rw[List.mem_append,g,List.mem_singleton];constructor
    ·rintro(⟨i,c,e⟩|e)
     ·exact⟨i,by omega,e⟩
     ·exact⟨m,by omega,e.symm⟩
    ·rintro⟨i,c,e⟩;rcases Zy i m with f|l
     ·exact r_ ⟨i,f,e⟩
     ·have:i=m:=by omega
      subst this;exact t_ e.symm
  ·rw[if_neg hk,List.append_nil];refine⟨h1,λ x=>?_⟩;rw[g];constructor
   ·rintro⟨i,c,e⟩;exact⟨i,by omega,e⟩
   ·rintro⟨i,c,e⟩;rcases Zy i m with f|l
    ·exact⟨i,f,e⟩
    ·have r:i=m:=by omega
     subst r;have n:¬(i=0\/d[i]! ≠d[i-1]!):=λ s=>hk (decide_eq_true s)
     have u:i≠0:=λ e=>n (r_ e)
     have he:d[i]! =d[i-1]! :=Classical.byContradiction λ e=>n (t_ e)
     exact⟨i-1,by omega,by rw[<-he];exact e⟩
def um(a:List Int):List r0:=(xW a).mergeSort λ x y=> !(ltOf sA) y x
theorem Mb{x:r0}:x∈xW ai↔x.1∈ai:=by
 unfold xW;rw[List.mem_filterMap];constructor
 ·rintro⟨a,b,h⟩;split at h
  ·injection h with h;rw[<-h];exact b
  ·cases h
 ·intro h;exact⟨x.1,h,by rw[dif_pos x.2]⟩
theorem Mc(d:List Int):GO (um d).toArray (um d).length:=by
 have h:(um d).Pairwise λ x y=>(!(ltOf sA) y x)=true:=by
  refine List.pairwise_mergeSort ?_ ?_ _
  ·intro a b c h1 e;simp only[Zn] at*;exact BO.ntrans c b a e h1
  ·intro a b;simp only[Bool.or_eq_true,Zn]
   cases h1:ltOf sA b a with
   |false=>exact r_ rfl
   |true=>
    right
    cases e:ltOf sA a b with
    |false=>rfl
    |true=>have:=BO.trans _ _ _ h1 e;rw[BO.irrefl] at this;cases this
 intro i j g f;have:=List.pairwise_iff_getElem.1 h i j (by omega) f g;simp only[Zn,Ad] at this;rw[getElem!_pos _ _ (by simpa using f),getElem!_pos _ _ (by simp;omega)];simpa using this
theorem GQ(a:List Int):(compactUpTo (um a).toArray (um a).length).map (·.1)=k6 a:=by
 obtain⟨h1,c⟩:=GP (um a).toArray (um a).length (Mc a);refine L4 h1 λ x=>?_
 rw[Z4];have hm:∀y:r0,y∈compactUpTo (um a).toArray (um a).length↔y.1∈a:=by
  intro y;rw[c,<-Mb,<-List.mem_mergeSort (le:=λ x y=> !(ltOf sA) y x)];show _↔y∈um a;rw[Z3];constructor
  ·rintro⟨i,b,e⟩;rw[getElem!_pos _ _ (by simpa using b)] at e;exact⟨i,b,by simpa using e⟩
  ·rintro⟨i,b,e⟩;exact⟨i,b,by rw[getElem!_pos _ _ (by simpa using b)];simpa using e⟩
 constructor
 ·rintro⟨y,d,rfl⟩;exact⟨(hm y).1 d,vr.2 y.2⟩
 ·rintro⟨f,g⟩;exact⟨⟨x,vr.1 g⟩,(hm _).2 f,rfl⟩
def Md(a:List Int)(w:World)(e:Ending)(w':World):Prop:=
 ∃A c,e=.returned (.slice A a.length c)/\w'.ownsRow w.heap.size 3 1 (.slice A a.length c) a.length (a.map (j_ .i64))/\Below w.heap.size w w'
theorem vj(A:Option Addr)(n c:Nat)(f:List Int)(w:World)(h:aL w A n c f):
  Calls z_ 81 #[.slice A n c] w (Md f w):=by
 obtain⟨i0,s,t,v,y⟩:=info_parts xw;have E:∀(w:World)(a:Option Addr)(n c m c':Nat),(binOp .eql 25 (.slice a n c) (.slice none m c')).run z_ w=.ok (.bool a.isNone) w:=λ w a n c m c'=>Lib.run_eql_slice_nil w _ _ a n c m c' s_
 have hlen:=h.len;have F:=h.mu;have H:=U h;clear h
 cases A with
 |none=>
  have z:n=0:=by
   rcases Nat.eq_zero_or_pos n with d|d
   ·exact d
   ·obtain⟨b,off,he,_⟩:=H.o.cells d;cases he
  subst z;have B:f=[]:=x_ hlen;subst B;clear hlen;go_enter Tryz.func81,Tryz.ntmps81
  go_wp2;go_ret;exact⟨none,0,rfl,World.ownsRow_nil _ _ _ _,Zk _ _⟩
 |some a=>
  have e:=U hlen;clear hlen;go_enter Tryz.func81,Tryz.ntmps81
  go_wp2_with (at_builtin;refine wpList_append_own _ rfl _ _ 25 rfl w.heap.size 3 i0 (.int .i64 0) 1 8 s_ s t v y rfl (by decide) _ _ _ rfl (World.ownsRow_made w #[] 0 (d_ _) (Nat.zero_le _) rfl) a n c (f.map (j_ .i64)) rfl ?qc1 ?qc2 ?qc3 ?qc4 ?qc5 ?qc6 ?_)
  case qc1=>simp[e.o]
  case qc2=>
   intro j u p;have q:j<n:=by have:=(Zj.1 p).1;simpa[e.o] using this
   obtain⟨b,off,he,i,C⟩:=H.o.cells (by omega);injection he with he
   subst he;rw[Z5];rw[World.cell?_alloc_lt _ _ _ (by exact i),C j q];rw[List.getElem?_map,List.getElem?_eq_getElem (by rw[e.o];exact q)] at p;rw[oN (by rw[e.o];exact q)];exact p
  case qc3=>intro u hu;obtain⟨x,_,rfl⟩:=Z4.1 hu;rfl
  case qc4=>unfold maxLen;omega
  case qc5=>omega
  case qc6=>simp
  intro v' w1 l D G;go_wp2;go_ret;have i:Below w.heap.size w w1:=((Zk _ w).alloc (d_ _) _).grown D (by simp) (by intro k hk;simp[Value.ownBlock] at hk;omega);have hl:=e.o;subst hl;rcases l.2 with⟨r,d⟩|⟨g,cap,cur,r,I⟩
  ·subst r;refine⟨none,0,?_,?_,i⟩
   ·rw[d];rfl
   ·rw[d] at l⊢;exact l
  ·subst r;exact⟨_,_,rfl,l,i⟩
def Own(w:World)(base g n cap:Nat)(a:List Int):Prop:=w.ownsRow base 3 1 (.slice (some ⟨g,0,none⟩) n cap) n (a.map (j_ .i64))
theorem below_grow{B:Nat}{a:World}(h:Below B a w)(b:B<=w.heap.size)(os:Array Obj):Below B a (grow w os):=
 ⟨h.os,h.tape,h.output,by simp only[grow,Array.size_append];have:=h.size;omega,λ k hk=>by
  rw[<-h.block k hk];simp only[grow];rw[Array.getElem?_append_left (by omega)]⟩
theorem GR(l:List r0):l.map yU=(l.map (·.1)).map (j_ .i64):=by rw[List.map_map];rfl
theorem Me(w:World)(base g n cap:Nat)(a:List Int)(h:Own w base g n cap a)(d:base<=g):
  Calls z_ 85 #[.slice (some ⟨g,0,none⟩) n cap,.func (.func 221) #[] #[]] w λ e w'=>
   ∃m,e=.returned (.slice (some ⟨g,0,none⟩) m cap)/\Own w' base g m cap (a.filter λ x=>lT x 65536)/\Below base w w':=by
 have h':w.ownsRow base 3 1 (.slice (some ⟨g,0,none⟩) n cap) n (a.map oL):=h;obtain⟨p,r,he,h1,s,f,i,b,j⟩:=Zf h' (by intro e;cases e)
 cases he
 have l:n<=9223372036854775807:=by unfold maxLen at i;omega
 have c:=Tryz.slices_DeleteFunc oL yW yV 221 #[] LY 0 n_ g 0 cap a.toArray w (L8 w) (L9 _ _ _ w) j (by simpa[b] using l) (by simpa[b] using f);have hs:a.toArray.size=n:=by simp[b]
 rw[hs] at c;refine c.mono ?_;rintro e w' ⟨rfl,q,rfl⟩;have o:a.toArray.toList.filter (λ x=> !yV x)=a.filter λ x=>lT x 65536:=filter_eq a
 rw[o];have hle:=k_ (λ x=>lT x 65536) a;refine⟨_,rfl,?_,below_putRow (Zk _ _) d⟩;have:=Z0 (q:=q) (k:=(a.filter λ x=>lT x 65536).length) (ys:=(a.filter λ x=>lT x 65536)++Zr (n-(a.filter λ x=>lT x 65536).length) 0) h' (by simp;omega) (by omega);rw[Zd rfl] at this;exact this
theorem Mf(w:World)(base g m cap:Nat)(ls:List r0)(h:Own w base g m cap (ls.map (·.1)))(f:base<=g)(hm:m*8<=140737488355328):
  Calls z_ 157 #[.slice (some ⟨g,0,none⟩) m cap,.func (.func 222) #[] #[]] w λ e w'=>
   e=.returned (.tuple #[])/\Own w' base g m cap ((ls.mergeSort λ x y=> !(ltOf sA) y x).map (·.1))/\Below base w w':=by
 have h':w.ownsRow base 3 1 (.slice (some ⟨g,0,none⟩) m cap) m (ls.map yU):=by rw[GR];exact h
 obtain⟨o,p,he,h1,i,r,s,a,j⟩:=Zf h' (by intro e;cases e)
 cases he
 have l:m<4611686018427387904:=by omega
 have b:=Tryz.slices_SortFunc_total yU Ma sA BO 222 #[] g 0 cap ls.toArray w LZ (L7 _ _ _ w) j i (by simpa[a] using l) L6;have hs:ls.toArray.size=m:=by simp[a]
 rw[hs] at b;refine b.mono ?_;rintro e w' ⟨rfl,q,os,rfl⟩;have c:=Z0 (q:=q) (k:=m) (ys:=ls.mergeSort λ x y=> !(ltOf sA) y x) h' (by simp[a]) (d_ _);rw[List.take_of_length_le (by simp[a]),GR] at c;refine⟨rfl,?_,?_⟩
 ·have:=ownsRow_grow c 0 os;exact this
 ·have n:=below_putRow (enc:=yU) (q:=q) (d:=(ls.mergeSort λ x y=> !(ltOf sA) y x).toArray) (Zk base w) f;exact below_grow n (by simp[putRow,mapBlock,Sort.ahead];omega) os
theorem GS(ls:List r0):∀m,m<=ls.length->compactUpTo (ls.map (·.1)).toArray m=(compactUpTo ls.toArray m).map (·.1)
 |0,_=>by simp[compactUpTo]
 |m+1,h=>by
  have a:∀j,j<ls.length->(ls.map (·.1)).toArray[j]! =(ls.toArray[j]!).1:=by
   intro j b;rw[getElem!_pos _ _ (by simpa using b),getElem!_pos _ _ (by simpa using b)];simp
  rw[Zg,Zg,List.map_append,GS ls m (by omega)]
  congr 1
  have hk:keeps (ls.map (·.1)).toArray m=keeps ls.toArray m:=by
   unfold keeps;rw[a m (by omega),a (m-1) (by omega)]
   congr 1
   rw[ne_eq,ne_eq,Subtype.ext_iff]
  rw[hk,a m (by omega)];split<;>simp
theorem Mg(w:World)(base g n cap:Nat)(ls:List r0)(h:Own w base g n cap (ls.map (·.1)))(b:base<=g):
  Calls z_ 223 #[.slice (some ⟨g,0,none⟩) n cap] w λ e w'=>
   ∃m,e=.returned (.slice (some ⟨g,0,none⟩) m cap)/\Own w' base g m cap ((compactUpTo ls.toArray ls.length).map (·.1))/\Below base w w':=by
 have h':w.ownsRow base 3 1 (.slice (some ⟨g,0,none⟩) n cap) n ((ls.map (·.1)).map oL):=h;obtain⟨l,o,he,h1,p,c,d,f,i⟩:=Zf h' (by intro e;cases e)
 cases he
 have j:n<=9223372036854775807:=by unfold maxLen at d;omega
 have hl:ls.length=n:=by simpa using f
 have hs:(ls.map (·.1)).toArray.size=n:=by simp[hl]
 have a:=Tryz.slices_Compact oL yW (EqlAt.intD _ _ _) ⟨λ x y w=>by rw[oL,oL,(NeqAt.int z_ 3 .i64).1 x y w];congr 1,.int _ _ _⟩ 0 n_ g 0 cap (ls.map (·.1)).toArray w i (by rw[hs];exact j) (by rw[hs];exact c);rw[hs] at a;refine a.mono ?_;rintro e w' ⟨rfl,q,rfl⟩;rw[<-hl,GS ls ls.length (d_ _)];have hle:((compactUpTo ls.toArray ls.length).map (·.1)).length<=n:=by
  rw[Zt];unfold compactUpTo;rw[Zt];refine Nat.le_trans (k_ _ _) (by simp[hl])
 refine⟨_,rfl,?_,below_putRow (Zk _ _) b⟩;have:=Z0 (q:=q) (k:=((compactUpTo ls.toArray ls.length).map (·.1)).length) (ys:=((compactUpTo ls.toArray ls.length).map (·.1))++Zr (n-((compactUpTo ls.toArray ls.length).map (·.1)).length) 0) h' (by simp at hle⊢;omega) hle;rw[Zd rfl] at this;rw[hl] at this⊢;exact this
def uo(l:List Int)(k:Nat):Bool:=(List.range k).any λ i=>decide (0<i)&&(je l (i-1)== -(je l i))
def r4(l:List Int):Bool:=uo l l.length
theorem GU(l:List Int)(k:Nat):uo l (k+1)=(uo l k||(decide (0<k)&&(je l (k-1)== -(je l k)))):=by
 unfold uo;rw[List.range_succ,List.any_append];simp
theorem Mh(l:List Int){j k:Nat}(h:j<=k)(a:uo l j=true):uo l k=true:=by
 unfold uo at*;rw[List.any_eq_true] at*;obtain⟨x,b,he⟩:=a;exact⟨x,by rw[List.mem_range] at*;omega,he⟩
theorem Mi{k:Nat}(hk:k<l.length)(h:uo l (k+1)=true):r4 l=true:=Mh l (by omega) h
theorem Mj(h:x∈k6 ai):x≠0/\ -65536<=x/\x<=65536:=vr.1 (BN.1 h).2
theorem Mk(a:List Int):CD (k6 a):=λ x h=>Mj h
theorem Ml(a:List Int):(k6 a).length<=a.length:=by
 rw[<-GQ];rw[Zt];unfold compactUpTo;rw[Zt];refine Nat.le_trans (k_ _ _) ?_;rw[List.length_range];unfold um;rw[List.length_mergeSort];unfold xW;exact List.length_filterMap_le _ _
def Mm(a:List Int)(w:World)(e:Ending)(w':World):Prop:=
 ∃A c,e=.returned (.tuple #[.slice A (k6 a).length c,.bool (r4 (k6 a))])/\aL w' A (k6 a).length c (k6 a)/\w'.ownsRow w.heap.size 3 1 (.slice A (k6 a).length c) (k6 a).length ((k6 a).map (j_ .i64))/\Below w.heap.size w w'
theorem Own.wQ(h:Own w base g n cap ai)(a:n*8<=140737488355328):aL w (some ⟨g,0,none⟩) n cap ai:=aL.kW h a
theorem Own.len(h:Own w base g n cap ai):ai.length=n:=by simpa using h.1
theorem GV{A:Option Addr}{gE c:Nat}{a b:Bool}(d:n=gE)(h:a=b):Ending.returned (.tuple #[.slice A n c,.bool a])=.returned (.tuple #[.slice A gE c,.bool b]):=by rw[d,h]
theorem Mn(A:Option Addr)(n c:Nat)(a:List Int)(w:World)(h:aL w A n c a):
  Calls z_ 179 #[.slice A n c] w (Mm a w):=by
 have L:=vj A n c a w h;have M:=h.mu;have hlen:=h.len;have B:=U (y_ hlen M);clear h hlen M;go_enter Tryz.func179,Tryz.ntmps179
 go_wp2_with fail
 refine L.mono ?_;clear L;rintro e w1 ⟨aB,c1,rfl,s,N⟩;have C:=U N;clear N;rcases s.2 with⟨l,t⟩|⟨g,cap,cur,l,D,ag⟩
 ·have ah:a=[]:=x_ t;subst ah;simp only[Z7] at l;obtain⟨rfl,-,rfl⟩:=l;clear s t;have ai:=DD (.func (.func 221) #[] #[]) w1;have aj:Calls z_ 157 #[.slice none 0 0,.func (.func 222) #[] #[]] w1 λ e w'=>e=.returned (.tuple #[])/\w1=w':=(Tryz.slices_SortFunc_none (α:=r0) none 0 (.func (.func 222) #[] #[]) w1).mono λ _ _ ⟨h1,ak⟩=>⟨h1,ak.symm⟩
  have al:=L2 w1
  go_wp2_with (first
   |(go_at_call 85;refine ai.mono ?_;rintro e w' ⟨rfl,rfl⟩)
   |(go_at_call 157;refine aj.mono ?_;rintro e w' ⟨rfl,rfl⟩)
   |(go_at_call 223;refine al.mono ?_;rintro e w' ⟨rfl,rfl⟩))
  refine Zq 1 ?_;rw[Zb];go_wp2
  go_ret2
  exact⟨none,0,rfl,aL.nil _ _ _ (Nat.zero_le _),⟨rfl,r_ ⟨rfl,rfl⟩⟩,C.o⟩
 ·simp only[Z7] at l;obtain⟨rfl,-,rfl⟩:=l;have O:Own w1 w.heap.size g a.length c1 a:=s;clear ag s
  go_wp2_with fail
  refine(Me w1 w.heap.size g a.length c1 a O D).mono ?_;rintro e an ⟨m2,rfl,u,P⟩;rw[<-GN] at u;have E:=u.len;have Q:m2*8<=140737488355328:=by
   rw[GN] at E;have:=k_ (λ x=>lT x 65536) a;have:=B.o;omega
  have R:=Mf an w.heap.size g m2 c1 (xW a) u D Q;have ao:=U E;have S:=U P;clear E P u O
  go_wp2_with fail
  refine R.mono ?_;clear R;rintro e aq ⟨rfl,T,V⟩;have W:=Mg aq w.heap.size g m2 c1 (um a) T D;have X:=U V;clear V T
  go_wp2_with fail
  refine W.mono ?_;clear W;rintro e F ⟨m,rfl,p,Y⟩;rw[GQ] at p;have hm:=p.len;have ar:m*8<=140737488355328:=by
   have:=Ml a;have:=B.o;omega
  have Z:=p.wQ ar;have G:=U Z;have d:=U hm;have aa:=U p;have v:bJ (Below w.heap.size w F):=U (((C.o.trans S.o).trans X.o).trans Y);clear hm Z p Y C S X ao Q B;have au:=U (Mk a);go_wp2
  go_loopw [15] (λ i wr=>∃k q:Nat,k<=m/\i=.int .i64 k/\uo (k6 a) k=false/\wr=F.drewN q) (λ i _=>m-(intOf i).toNat)
  case atStart=>exact⟨0,0,Nat.zero_le _,rfl,rfl,rfl⟩
  case round=>
   obtain⟨k,q,hk,rfl,ab,rfl⟩:=hrel;have H:=U ab;clear ab
   by_cases ad:k<m
   ·obtain⟨b,off,I,aC,y⟩:=G.o.cells (by omega);injection I with I
    injection I with av aw
    subst av aw;have ax:=y k ad;have hl:k<(k6 a).length:=by rw[d.o];exact ad
    have z:=au.o.at hl;have aD:=I1 z.2.1 z.2.2;have ay:=U z;clear z
    by_cases t:0<k
    ·have az:=y (k-1) (by omega);obtain⟨j,J⟩:∃j,k-1=j:=⟨_,rfl⟩
     rw[J,Z6] at az;rw[Z6] at ax;clear y;have ae:=H.o;have f:=GU (k6 a) k;rw[ae,J,decide_eq_true t,Bool.false_or,Bool.true_and] at f;have r:=U f;have aE:Z9.wrap ((k:Int)-1)=(j:Int):=by rw[show(k:Int)-1=(j:Int) by omega];exact IntWalk.i64_in (j:Int) (by omega)
     have aF:j<m:=by omega
     have aG:(j:Int)<(m:Int):=by omega
     have aH:(k:Int)<(m:Int):=by omega
     have aI:(0:Int)<(k:Int):=by omega
     have aJ:Z9.wrap (-(je (k6 a) k))= -(je (k6 a) k):=by have:=ay.o;exact IntWalk.i64_in (-(je (k6 a) k)) (by omega)
     clear f ae J;generalize aK:(je (k6 a) j== -(je (k6 a) k))=o at r
     cases o
     ·go_wp2_with fail
      go_quiet (fail)
      go_wp2;go_roundw
      case rel=>exact⟨k+1,_,by omega,by go_num,r.o,rfl⟩
      case measure=>simp[intOf];omega
     ·go_wp2_with fail
      go_quiet (fail)
      go_wp2
      go_ret2
      exact⟨_,_,GV d.o.symm (Mi hl r.o).symm,by rw[d.o,Zm];exact G.o.below (AR _ _),by rw[d.o,Zm];exact mw aa.o (AR _ _),by rw[Zm];exact v.o.trans ((AR _ _).mono v.o.size)⟩
    ·obtain rfl:k=0:=by omega
     have f:=GU (k6 a) 0;rw[H.o] at f;have r:=U f;clear f y
     go_wp2_with fail
     go_quiet (fail)
     go_wp2;go_roundw
     case rel=>exact⟨1,_,by omega,by go_num,r.o,rfl⟩
     case measure=>simp[intOf];omega
   ·have K:=U (AR F q);have af:uo (k6 a) (k6 a).length=false:=by
     have:=H.o;rw[show k=(k6 a).length by rw[d.o];omega] at this;exact this
    have aA:=U af;clear af;go_wp2
    go_ret2
    exact⟨_,_,GV d.o.symm aA.o.symm,by rw[d.o];exact G.o.below K.o,by rw[d.o];exact mw aa.o K.o,v.o.trans (K.o.mono v.o.size)⟩
end
section
open Go.RowKit Go.Shelf
section
variable {K:Nat->Prop}{base:Nat}{w W:World}{G:Nat}{hs:Nat->ax}{cb:Nat->Nat}{s:aq}
theorem Mo{b mh:Nat}{t GW:TypeId}{cs GX:List Value}(h:aT w b t cs)(h':aT w mh GW GX)(a:t≠GW):b≠mh:=λ e=>by
 subst e;have:=h.symm.trans h';injection this with this
 injection this with _ c
 exact a c
theorem aY.other(h:aY K base w G hs cb s){b k:Nat}{v:Value}(i:G≠b)(j:∀r g,(hs r).b=some g->b≠g)(l:∀d,d<s.c.cl.length->cb d≠b)(m:¬K b):aY K base (w.setCell ⟨b,k,none⟩ v) G hs cb s/\aG K w (w.setCell ⟨b,k,none⟩ v):=by
 have a:=k8 w b k v;refine⟨⟨⟨h.e.box.kept a (λ e=>i (by injection e)),h.e.rows.kept a (λ r g e n=>j r g e (by injection n)),λ d f=>(h.e.cls d f).kept a (λ e=>l d f (by injection e)),h.e.inj,h.e.qX,h.e.rE⟩,h.s.more a.size⟩,aG.set b k v m⟩
theorem aq.Mp{l:List Int}{x:rS}(h:l.length<2):s.rZ l x={s with c:=kF s.c l,ci:=s.ci++[x]}:=by
 unfold aq.rZ kF;rw[if_neg (by omega)]
def vk(K:Nat->Prop)(base:Nat)(w:World)(G:Nat)(cb:Nat->Nat)(s':aq)(e:Ending)(w':World):Prop:=
 e=.returned (.tuple #[])/\∃hs',aY K base w' G hs' cb s'/\aG K w w'
theorem vk.to{s1 s2:aq}{e:Ending}{w':World}(h:vk K base w G cb s1 e w')(a:s1=s2):vk K base w G cb s2 e w':=a▸h
end
theorem GY(h:aY K base w G hs cb s)(T:j6 s.c)(al:s.ci.length=s.c.cl.length)(aP:s.c.n<=60000)(an:s.c.wt.length=2*s.c.n+2)(ao:∀k,(ay s.c.wt k).length<=1000000)(ar:s.c.st.length<=1000000)
  {oZ:Option Addr} {kG bf blk:Nat} {ai:List Int} {x:rS} (au:cb s.c.cl.length=blk) (hblk:aT w blk vc [.slice oZ kG bf,.bool x.kZ,.int .i64 x.bh,.int .i64 x.ac]) (av:base<=blk) (aw:¬K blk) (az:∀d,d<s.c.cl.length->cb d≠blk) (aA:aL w oZ kG bf ai) (i:∀z∈ai,gK s.c.n z):
  Calls z_ 144 #[.pointer (some ⟨G,0,none⟩),.pointer (some ⟨blk,0,none⟩)] w (vk K base w G cb (s.ou (k6 ai) (r4 (k6 ai)) x)):=by
 have S:=hblk.cell 0;have S:w.cell? ⟨blk,0,none⟩=some (.slice oZ kG bf):=S;have aB:=U (Mn oZ kG bf ai w aA);obtain⟨l,hl⟩:∃l,k6 ai=l:=⟨_,rfl⟩
 obtain⟨m,hm⟩:∃m,l.length=m:=⟨_,rfl⟩
 have aC:∀z∈l,gK s.c.n z:=λ z aQ=>i z (BN.1 (hl▸aQ)).1
 have D:=U (y_ h (y_ T (y_ al (y_ aP (y_ an (y_ ao (y_ ar (y_ au (y_ hblk (y_ av (y_ aw (y_ az (y_ hl (y_ hm aC))))))))))))));clear h T al an ao ar au av aw az aA i hl hm aC hblk;go_enter Tryz.func144,Tryz.ntmps144
 go_upto_region 1 with(go_at_call 179;refine aB.o.mono ?_;rintro e w1 ⟨A,c,rfl,aD,aE,aF⟩;have t:=U (y_ aD (y_ aE aF));clear aD aE aF)
 have hl:=D.o.2.2.2.2.2.2.2.2.2.2.2.2.1;have hm:=D.o.2.2.2.2.2.2.2.2.2.2.2.2.2.1;obtain⟨b,V⟩:∃b,r4 l=b:=⟨_,rfl⟩
 rw[hl,hm] at t;rw[hl,hm,V];have C:=U (D.o.1.below t.o.2.2);have u:=D.o.2.2.2.2.2.2.2.2.1.below t.o.2.2;have aR:w1.cell? ⟨blk,0,none⟩=some (.slice oZ kG bf):=u.cell 0;have f1:w1.frozen? ⟨blk,0,none⟩=false:=u.free 0;have X:=U (y_ hl (y_ hm V));clear hl hm V S aB;have W:=u.set 0 (.slice A m c);have Y:=C.o.1.other (b:=blk) (k:=0) (v:=.slice A m c) (Mo C.o.1.e.box u (by decide)) (λ r g E aS=>C.o.1.e.rows.CR u (λ r=>(C2 r).2) r g E (by rw[aS])) D.o.2.2.2.2.2.2.2.2.2.2.2.1 D.o.2.2.2.2.2.2.2.2.2.2.1;have j:=U (C.o.2.trans Y.2);have p:=U Y.1;clear Y;have Z:(w1.setCell ⟨blk,0,none⟩ (.slice A m c)).ownsRow base 3 1 (ax.v ⟨A,m,c⟩) m (jc l):=by
  refine yA (oS t.o.2.1 (λ g aa=>Below.heap_setCell _ _ _ _ (λ e=>?_))) (Nat.le_of_lt D.o.1.e.lt);have h1:=t.o.2.1.lt g aa;have aH:=D.o.2.2.2.2.2.2.2.2.1.lt;have e:g=blk:=e;omega
 have aI:∀g,(⟨A,m,c⟩:ax).b=some g->(∀r,(hs r).b≠some g)/\¬K g:=λ g aa=>by
  have h1:=t.o.2.1.lt g (by rw[show Value.slice A m c=ax.v ⟨A,m,c⟩ from rfl,ax.own];exact aa);refine⟨λ r e=>?_,λ hk=>?_⟩
  ·have:=(D.o.1.e.rows.lt e).2;omega
  ·have:=D.o.1.s.lt g hk;omega
 go_upto_region 3 with fail
 generalize w1.setCell ⟨blk,0,none⟩ (.slice A m c)=f at W p j Z⊢;have F:bJ (aY K base f G (iT hs (kI s.c.cl.length) ⟨A,m,c⟩) cb (s.rZ l x)):=U (p.o.rZ (hl:=⟨A,m,c⟩) (by rw[D.o.2.2.2.2.2.2.2.1];exact W) (by rw[D.o.2.2.2.2.2.2.2.1];exact D.o.2.2.2.2.2.2.2.2.2.1) (by rw[D.o.2.2.2.2.2.2.2.1];exact D.o.2.2.2.2.2.2.2.2.2.2.1) (by rw[D.o.2.2.2.2.2.2.2.1];exact D.o.2.2.2.2.2.2.2.2.2.2.2.1) Z aI D.o.2.2.1);clear Z aI W aR f1 u C
 cases b with
 |true=>
  go_wp2_with fail
  go_end0;refine vk.to (s1:=s) ⟨rfl,_,p.o,j.o⟩ ?_;unfold aq.ou o9;rw[X.o.1,X.o.2.2,if_pos rfl,if_pos (r_ rfl)]
 |false=>
  by_cases J:m=0
  ·subst J;have aU:f.cell? ⟨G,15,none⟩=some (.bool s.c.l9):=p.o.e.kJ (k:=15) (v:=.bool s.c.l9) rfl;have f15:=p.o.e.free 15;have a:=p.o.FQ;have a:=U (y_ a.1 (j.o.trans a.2))
   go_wp2_with fail
   go_end0;refine vk.to (s1:={s with c:=wu s.c}) ⟨rfl,_,a.o.1,a.o.2⟩ ?_;unfold aq.ou o9;rw[X.o.1,X.o.2.2,X.o.2.1,if_neg (by decide),if_pos rfl,if_pos (t_ rfl)]
  ·have a6:((m:Int)==0)=false:=by rw[beq_eq_false_iff_ne];omega
   have a7:decide ((m:Int)=0)=false:=decide_eq_false (by omega);obtain⟨bH,L,ab,-⟩:=F.o.e.wF (r:=kI s.c.cl.length) (m:=m) (by rw[jO]) J;rw[jO] at L;have L:A=some ⟨bH,0,none⟩:=L;subst L;have H:=F.o.e.xN ab;rw[jO] at H;have H:m<=c:=H;obtain⟨y,M⟩:∃y,aj l 0=y:=⟨_,rfl⟩
   have N:ay (s.rZ l x).c.cl s.c.cl.length=l:=by show ay (s.c.cl++[l]) _=l;rw[uE]
   have a8:f.cell? ⟨bH,0,none⟩=some (.int .i64 y):=by
    have:=F.o.e.xR ab (k:=0) (by rw[N,X.o.2.1];omega);rw[N,M] at this;exact this
   have aJ:gK s.c.n y:=by rw[<-M];exact D.o.2.2.2.2.2.2.2.2.2.2.2.2.2.2 _ (lZ (by rw[X.o.2.1];omega))
   have B:=U (y_ M (y_ aJ N));have aV:=U H;clear M aJ N ab H
   by_cases aK:m=1
   ·subst aK;have aM:s.rZ l x={s with c:=kF s.c l,ci:=s.ci++[x]}:=aq.Mp (by rw[X.o.2.1];omega);obtain⟨z,i⟩:∃z,j9 s.c y=z:=⟨_,rfl⟩
    have E:=D.o.2.1.range y;rw[i] at E;have I:bJ (aY K base f G (iT hs (kI s.c.cl.length) ⟨some ⟨bH,0,none⟩,1,c⟩) cb {s with c:=kF s.c l,ci:=s.ci++[x]}):=U (aM▸F.o);have ad:bJ (Calls z_ 152 #[.pointer (some ⟨G,0,none⟩),.int .i64 y] f λ e w'=>e=.returned (.int .i8 z)/\f=w'):=U (by
     have:=Bw I.o D.o.2.1.new D.o.2.2.2.1 (x:=y) B.o.2.1;rw[show j9 (({s with c:=kF s.c l,ci:=s.ci++[x]}:aq).c) y=z from i] at this;exact this)
    have aN:=U (y_ i E);clear aM i E;have c1:(1:Int)<=(c:Int):=by have:=aV.o;omega
    have ae:bJ (∀c':Core,o9 s.c l false=c'->∀s',s'=({s with c:=c',ci:=s.ci++[x]}:aq)->s'=s.ou (k6 ai) (r4 (k6 ai)) x):=U (λ c' h1 s' aH=>by
     unfold aq.ou;rw[X.o.1,X.o.2.2,h1,if_neg (by rw[X.o.2.1];decide),aH])
    have af:bJ (o9 s.c l false=if z= -1 then wu (kF s.c l) else if z=0 then lp (kF s.c l) y (some s.c.cl.length) else kF s.c l):=U (by
     unfold o9;rw[if_neg (by decide),if_neg (by rw[X.o.2.1];decide),if_pos (by rw[X.o.2.1]),B.o.1,aN.o.1])
    by_cases O:z= -1
    ·have ag:z<0:=by omega
     have aW:decide (z<0)=true:=decide_eq_true ag;have P:=U O;clear O;have aU:f.cell? ⟨G,15,none⟩=some (.bool s.c.l9):=I.o.e.kJ (k:=15) (v:=.bool s.c.l9) rfl;have f15:=p.o.e.free 15;have a:=I.o.FQ;have a:=U (y_ a.1 (j.o.trans a.2))
     go_wp2_with (go_at_call 152;refine ad.o.mono ?_;rintro e Q ⟨rfl,rfl⟩;dsimp only)
     go_end0;refine vk.to ⟨rfl,_,a.o.1,a.o.2⟩ (ae.o (wu (kF s.c l)) (by rw[af.o,if_pos P.o]) _ rfl)
    ·have ag:¬z<0:=by have:=aN.o;omega
     have aW:decide (z<0)=false:=decide_eq_false ag;have P:=U O;clear O
     by_cases q:z=0
     ·have d0:(z==0)=true:=beq_iff_eq.2 q;have aX:decide (z=0)=true:=decide_eq_true q;have ah:=U q;clear q;have aZ:bJ (Calls z_ 156 #[.pointer (some ⟨G,0,none⟩),.int .i64 y,.pointer (some ⟨blk,0,none⟩)] f λ e w'=>e=.returned (.tuple #[])/\∃h':ax,aY K base w' G (iT (iT hs (kI s.c.cl.length) ⟨some ⟨bH,0,none⟩,1,c⟩) 4 h') cb {s with c:=lp (kF s.c l) y (some s.c.cl.length),ci:=s.ci++[x]}/\aG K f w'):=U (by
       have h1:=Bv I.o y (some s.c.cl.length) D.o.2.1.new (show gK s.c.n y from B.o.2.1) (show s.c.n<=60000 from D.o.2.2.2.1) (show s.c.st.length<=1000000 from D.o.2.2.2.2.2.2.1);rw[show qM cb (some s.c.cl.length)=.pointer (some ⟨blk,0,none⟩) by show Value.pointer (some ⟨cb s.c.cl.length,0,none⟩)=_;rw[D.o.2.2.2.2.2.2.2.1]] at h1;exact h1)
      go_wp2_with (first|(go_at_call 152;refine ad.o.mono ?_;rintro e Q ⟨rfl,rfl⟩;dsimp only)|(go_at_call 156;refine aZ.o.mono ?_;rintro e Q ⟨rfl,h',a,ak⟩;dsimp only))
      go_end0;refine vk.to ⟨rfl,_,a,j.o.trans ak⟩ (ae.o (lp (kF s.c l) y (some s.c.cl.length)) (by rw[af.o,if_neg P.o,if_pos ah.o]) _ rfl)
     ·have d0:(z==0)=false:=by rw[beq_eq_false_iff_ne];exact q
      have aX:decide (z=0)=false:=decide_eq_false q;have ah:=U q
      go_wp2_with (go_at_call 152;refine ad.o.mono ?_;rintro e Q ⟨rfl,rfl⟩;dsimp only)
      go_end0;refine vk.to ⟨rfl,_,I.o,j.o⟩ (ae.o (kF s.c l) (by rw[af.o,if_neg P.o,if_neg ah.o]) _ rfl)
   ·have a':((m:Int)==1)=false:=by rw[beq_eq_false_iff_ne];omega
    have ba:decide ((m:Int)=1)=false:=decide_eq_false (by omega);have aO:bJ (2<=l.length):=U (by rw[X.o.2.1];omega);have R:=KP F.o (d:=s.c.cl.length) (by show _<(s.c.cl++[l]).length;simp) (by rw[B.o.2.2];exact aO.o) (by rw[B.o.2.2];exact D.o.2.2.2.2.2.2.2.2.2.2.2.2.2.2) (show s.c.n<=60000 from D.o.2.2.2.1) (show s.c.wt.length=2*s.c.n+2 from D.o.2.2.2.2.1) (show∀k,(ay s.c.wt k).length<=1000000 from D.o.2.2.2.2.2.1);rw[D.o.2.2.2.2.2.2.2.1,Gd,B.o.2.2] at R;have R:=U R
    go_wp2_with (go_at_call 180;refine R.o.mono ?_;rintro e Q ⟨rfl,bb,a,ak⟩;dsimp only)
    go_end0;refine vk.to ⟨rfl,_,a,j.o.trans ak⟩ ?_;unfold aq.ou o9;rw[X.o.1,X.o.2.2,X.o.2.1,if_neg (by decide),if_neg J,if_neg aK,if_neg (by rintro(h|h);cases h;exact J h)];unfold kF;rw[if_pos aO.o];rfl
end
section
open Go.RowKit Go.Shelf
theorem GZ:(z_.info? 126).map (λ i=>(i.zero,i.size,i.bytes))=some (some (.agg #[.int .i64 0,.slice none 0 0]),2,32):=by kernel_rfl
theorem DH:∀l:List nw,(mj l).length=l.length*2
 |[]=>rfl
 |p::l=>by
  have:=DH l;unfold mj at this⊢;simp only[List.map_cons,List.flatten_cons,List.length_append,List.length_cons,List.length_nil,this];omega
theorem Mq(a b:List nw):mj (a++b)=mj a++mj b:=by simp[mj]
def o5(K:Nat->Prop)(w:World)(s:aq):Prop:=∀h,s.jB=some h->h.n=s.aF.length/\h.c=h.n/\((h.A=none/\h.n=0)\/∃b off,h.A=some ⟨b,off,none⟩/\(0<h.n->K b)/\∀j u,(mj s.aF)[j]? =some u->w.cell? ⟨b,off+j,none⟩=some u)
theorem o5.kept{w':World}{s':aq}(h:o5 K w s)(f:aG K w w')(h1:s'.jB=s.jB)(m:s'.aF=s.aF):o5 K w' s':=by
 intro d k;rw[h1] at k;obtain⟨a,b,c⟩:=h d k;rw[m];refine⟨a,b,c.imp id ?_⟩;rintro⟨l,off,e,hk,o⟩;refine⟨l,off,e,hk,λ j u g=>?_⟩;have q:0<d.n:=by
  rcases Nat.eq_zero_or_pos d.n with i|i
  ·rw[i] at a;have:s.aF=[]:=x_ a.symm;rw[this] at g;simp[mj] at g
  ·exact i
 rw[f.cell (p:=⟨l,off+j,none⟩) (hk q)];exact o j u g
def tF(hs:Nat->ax)(s:aq):Option Nat:=match s.jB with
 |some _=>none
 |none=>(hs 11).b
def BP(w:World)(base:Nat)(row:Option Nat)(n:Nat)(ys:List Value)(v':Value)(w':World):Prop:=
 w'.ownsRow base 126 2 v' n ys/\w.grownBy w' row/\(v'.ownBlock=row\/∀g,v'.ownBlock=some g->w.heap.size<=g)
theorem Mr(h:aY K base w G hs cb s)(P:o5 K w s)(ty:TypeId)(f c1:Nat)(p:nw)(J:w.cell? ⟨f,0,none⟩=some (.int .i64 p.lH))(h1:w.cell? ⟨f,1,none⟩=some p.h.v)(O:s.aF.length<=1099511627776):
  ∃v' w',(Builtin.append_ #[45,45] ty #[oE hs s,.slice (some ⟨f,0,none⟩) 1 c1]).run z_ w=.ok v' w'/\BP w base (tF hs s) (s.aF.length+1) (mj (s.aF++[p])) v' w':=by
 obtain⟨i0,q,r,t,x⟩:=info_parts GZ;have y:∀j u,([.int .i64 p.lH,p.h.v]:List Value)[j]? =some u->w.cell? ((⟨f,0,none⟩:Addr).add j)=some u:=by
  intro j u i;have Q:j<2:=(Zj.1 i).1;rw[Z5,Z6];rcases(show j=0\/j=1 by omega) with rfl|rfl
  ·simp only[Ze,Z8] at i;subst i;exact J
  ·simp only[List.getElem?_cons_succ,Ze,Z8] at i;subst i;exact h1
 have F:∀u∈([.int .i64 p.lH,p.h.v]:List Value),u.oneCell'=true:=by
  intro u hu;simp only[p_,List.not_mem_nil,or_false] at hu;rcases hu with rfl|rfl<;>rfl
 have H:mj (s.aF++[p])=mj s.aF++[.int .i64 p.lH,p.h.v]:=by rw[Mq];rfl
 have z:=Nat.le_of_lt h.e.lt
 cases k:s.jB with
 |none=>
  have B:=h.e.rows.row 11;have l:cont hs cb s 11=mj s.aF:=by show(match s.jB with|some _=> []|none=>mj s.aF)=_;rw[k]
  have o:(hs 11).n=s.aF.length:=by
   have:=B.1;rw[l,DH] at this;have L:nE 11=2:=rfl;rw[L] at this;omega
  rw[l,o] at B;obtain⟨v',w',g1,g2,g3,_,g5⟩:=run_append_own_at (P:=z_) w base 45 ty 126 i0 (.agg #[.int .i64 0,.slice none 0 0]) 2 32 Zl q r t x rfl (by decide) (hs 11).v s.aF.length (mj s.aF) B ⟨f,0,none⟩ 1 c1 [.int .i64 p.lH,p.h.v] rfl y F (by unfold maxLen;omega) (by omega) z;have C:oE hs s=(hs 11).v:=by unfold oE;rw[k]
  have D:tF hs s=(hs 11).b:=by unfold tF;rw[k]
  rw[C,D,H];rw[ax.own] at g3 g5;exact⟨v',w',g1,g2,g3,g5.imp id (λ e g d=>by rw[e] at d;injection d with d;omega)⟩
 |some E=>
  obtain⟨a,b,c⟩:=P E k;have C:oE hs s=E.v:=by unfold oE;rw[k]
  have D:tF hs s=none:=by unfold tF;rw[k]
  rw[C,D,H];obtain⟨A,n,I⟩:=E;rcases c with⟨m,o⟩|⟨M,off,m,hk,l⟩
  ·simp only at m o a b;subst m;subst o;subst b;have N:s.aF=[]:=x_ a.symm;rw[N];obtain⟨v',w',g1,g2,g3,_,g5⟩:=run_append_own_at (P:=z_) w base 45 ty 126 i0 (.agg #[.int .i64 0,.slice none 0 0]) 2 32 Zl q r t x rfl (by decide) (.slice none 0 0) 0 [] (World.ownsRow_nil _ _ _ _) ⟨f,0,none⟩ 1 c1 [.int .i64 p.lH,p.h.v] rfl y F (by unfold maxLen;omega) (by omega) z;refine⟨v',w',g1,g2,g3,g5.imp id (λ e g d=>by rw[e] at d;injection d with d;omega)⟩
  ·simp only at m hk l a b;subst m;subst b;obtain⟨v',w',g1,g2,g3⟩:=run_append_arg_grows (P:=z_) w 45 ty 126 i0 (.agg #[.int .i64 0,.slice none 0 0]) 2 32 Zl q r t x rfl (by decide) ⟨M,off,none⟩ I I (mj s.aF) (by rw[DH,a]) (λ j u i=>by rw[Z5];exact l j u i) ⟨f,0,none⟩ 1 c1 [.int .i64 p.lH,p.h.v] rfl y (by omega) (by unfold maxLen;omega) (by omega);refine⟨v',w',g1,?_,g3,t_ (λ g d=>(g2.lt g d).1)⟩;rw[<-a];exact yA g2 z
section
variable {K:Nat->Prop}{base:Nat}{w bM W:World}{G:Nat}{hs:Nat->ax}{cb:Nat->Nat}{s:aq}
theorem Ms{row:Option Nat}{w w':World}(h:w.grownBy w' none):w.grownBy w' row:=⟨h.os,h.tape,h.output,h.size,λ k hk _=>h.block k hk (by simp)⟩
theorem aY.G0(h:aY K base w G hs cb s){v':Value}{p:nw}(o:BP w base (tF hs s) (s.aF.length+1) (mj (s.aF++[p])) v' bM):
  ∃h':ax,v'=h'.v/\bM.cell? ⟨G,14,none⟩=some (oE hs s)/\bM.frozen? ⟨G,14,none⟩=false/\aY K base (bM.setCell ⟨G,14,none⟩ v') G (iT hs 11 h') cb {s with aF:=s.aF++[p],jB:=none}/\aG K w (bM.setCell ⟨G,14,none⟩ v'):=by
 obtain⟨m,i,a⟩:=o;have l:w.grownBy bM (hs 11).b:=by
  unfold tF at i
  cases j:s.jB with
  |none=>rw[j] at i;exact i
  |some q=>rw[j] at i;exact Ms i
 obtain⟨h',rfl,t⟩:=ax.kW m;rw[ax.own] at a;have f:h'.b=(hs 11).b\/∀g,h'.b=some g->w.heap.size<=g:=by
  rcases a with a|a
  ·unfold tF at a
   cases j:s.jB with
   |none=>rw[j] at a;exact r_ a
   |some q=>rw[j] at a;exact t_ (λ g e=>by rw[a] at e;cases e)
  ·exact t_ a
 have n:=h.e.ja (r:=11) (h':=h') (ys:=mj (s.aF++[p])) l (by rw[t];exact m) f;have u:∀k,bM.cell? ⟨G,k,none⟩=w.cell? ⟨G,k,none⟩:=λ k=>World.cell?_of_block (l.block G h.e.box.lt (λ e=>h.e.uc 11 G e.symm rfl))
 have x:Sep K bM G (iT hs 11 h') cb s.c.cl.length:=(h.s.ja (λ g e hk=>by
  rcases f with f|f
  ·exact h.s.row 11 g (f▸e) hk
  ·have:=f g e;have:=h.s.lt g hk;omega)).more l.size
 refine⟨h',rfl,by rw[u];exact h.e.kJ rfl,n.free 14,⟨?_,x.more (k8 bM G 14 _).size⟩,(aG.grown l h.s.lt (λ b e=>h.s.row 11 b e)).trans (aG.set G 14 _ h.s.g)⟩;refine(n.field 14 h'.v).eq rfl rfl ?_ (λ d _=>(vH hs s (by omega) _ d).symm) rfl (λ r=>?_)
 ·simp[qW,oE,iT]
 ·rw[vG hs cb _ (by omega)]
  by_cases e:r=11
  ·subst e;rw[jO];rfl
  ·rw[bk _ _ e];simp only[cont,if_neg e]
end
end
section
open Go.RowKit
def xX(ds:List (Option Tmp))(cs:List Value)(sp:Nat->Bool)(a:Operand->Value):List Edge->Prop
 |[]=>True
 |e::r=>(Region.binds .any e=true->sp e.on=false->∀s,qY ds e.on=some s->a (.tmp s)=cs.getD e.on undef)/\xX ds cs sp a r
def vS(cs:List Value)(sp:Nat->Bool)(G:Nat->Value->World->Prop)(j:Nat)(v:Value)(w:World):Prop:=if sp j=true then G j v w else v=cs.getD j undef
def Ae(sp:Nat->Bool)(dead:Nat->Option Nat)(j:Nat):Option Nat:=if sp j=true then dead j else none
theorem xX.of{ds:List (Option Tmp)}{cs:List Value}{sp:Nat->Bool}{G:Nat->Value->World->Prop}{dead:Nat->Option Nat}{i:Nat}{vals:Nat->Value}{w:World}{az:Operand->Value}:∀{l:List Edge},rU ds (vS cs sp G) (Ae sp dead) i vals w az l->xX ds cs sp az l
 |[],_=>trivial
 |e::r,h=>⟨λ b h1 s hs=>by
  obtain⟨a,c⟩:=h.1 b;have a:=a (r_ (by unfold Ae;rw[h1];rfl));unfold vS at a;rw[h1] at a;rw[c s hs];exact a,xX.of h.2⟩
def Af(P:Program)(ds:List (Option Tmp))(ws:List (List Nat))(old:List (Tmp×Value))(S:World->Prop)(cs:List Value)(sp:Nat->Bool)(G:Nat->Value->World->Prop)(dead:Nat->Option Nat)(Init:World->Prop)(mK:Nat):Nat->List Oper->Prop
 |_,[]=>True
 |k,o::r=>((sp k=true->yH P ds ws old S (vS cs sp G) (Ae sp dead) Init mK k o)/\(sp k=false->∀(a:Operand->Value)(w:World),S w->xX ds cs sp a o.after.toList->p0 a old->rH a->bD P a o w λ v w'=>v=cs.getD k undef/\w'=w))/\Af P ds ws old S cs sp G dead Init mK (k+1) r
theorem Af.ok{P:Program}{ds:List (Option Tmp)}{ws:List (List Nat)}{old:List (Tmp×Value)}{S:World->Prop}{cs:List Value}{sp:Nat->Bool}{G:Nat->Value->World->Prop}{dead:Nat->Option Nat}{Init:World->Prop}{mK:Nat}(a:zZ ds old=true):∀{k:Nat}{l:List Oper},Af P ds ws old S cs sp G dead Init mK k l->ug P ds ws old S (vS cs sp G) (Ae sp dead) Init mK k l
 |_,[],_=>trivial
 |k,o::r,h=>⟨by
  cases hk:sp k with
  |true=>exact h.1.1 hk
  |false=>
   intro vals w c b g d e hp;refine bD.mono (h.1.2 hk c w b (xX.of d) (rG.ok a e) hp) λ v w' ⟨h1,f⟩=>?_
   subst f;exact .same b (by unfold vS;rw[hk];exact h1),Af.ok a h.2⟩
end
end Go.Proofs.YtogdlkfacflmaaaGreat
