/- Parts of the walk of the solver and its core; no condition. -/
import Derived.Test.YtogdlkfacflmaaaGreatZY15
import Derived.Test.YtogdlkfacflmaaaGreatZY14
import Derived.Below
import Derived.ChangeSame
import Derived.ProofKit
import Derived.Test.YtogdlkfacflmaaaGreatZY1
namespace Go.Proofs.YtogdlkfacflmaaaGreat
set_option linter.unusedVariables false
set_option linter.unusedSimpArgs false
set_option maxRecDepth 100000
set_option maxHeartbeats 8000000
open _root_.And renaming intro→z_
open _root_.List renaming getElem?_cons_zero→y_,getElem?_cons_succ→x_,take_succ_eq_append_getElem→p_,length_map→o_,length_append→n_,map_append→m_,take_of_length_le→k_,mem_of_getElem?→i_
open _root_.Go.Proofs.Tryz renaming prog→w_
open _root_.Go.IntKind renaming wrap_i64→v_,i64→t_
open _root_.Nat renaming lt_of_lt_of_le→u_,zero_le→r_,le_trans→g_
open _root_.Bool renaming noConfusion→s_
open _root_.Go.RowKit.Below renaming refl→q_
open _root_.Go.Ending renaming returned→l_
open _root_.Array renaming getElem?_mapIdx→j_
open _root_.Go.World renaming cell?_of_block→h_
variable{w W:World}{A bw jc A' hM bA:Option Addr}{n c z aZ gq aS cl c' gM bI i:Nat}{ai ah:List Int}{es:List nH}{a0 a1 a2 a3 a4 a5 u6 u7:Value}{s:lp}{e:mT}{bg:Nat->Prop}{ls:List (List Int)}
section
open Go.RowKit Go.Shelf
def AO:List Value:=[.int .i64 0,.slice none 0 0,.slice none 0 0,.int .i64 0]
def sO(W:World)(z:Nat):Prop:=∃t cs,aR W z t cs/\∀u∈cs,u=.int .i64 0\/u=.slice none 0 0
theorem sO.int{W:World}{z off:Nat}{x:Int}(h:sO W z)(b:W.cell? ⟨z,off,none⟩=some (.int .i64 x)):x=0:=by
 obtain⟨t,cs,c,d⟩:=h;rw[c.cell off] at b;rcases d _ (i_ b) with e|e
 ·injection e
 ·cases e
theorem sO.bool{W:World}{z off:Nat}{x:Bool}(h:sO W z)(b:W.cell? ⟨z,off,none⟩=some (.bool x)):False:=by
 obtain⟨t,cs,c,d⟩:=h;rw[c.cell off] at b;rcases d _ (i_ b) with e|e<;>cases e
theorem aP.lt(h:aP w A n c ai):∀b,A.map (·.block)=some b->0<n->b<w.heap.size:=λ b e d=>by
 obtain⟨g,off,f,h1,_⟩:=h.cells d;rw[f] at e;injection e with e
 exact e▸h1
theorem oJ.lt(h:oJ w A n c es):∀b,A.map (·.block)=some b->0<n->b<w.heap.size:=λ b e d=>by
 obtain⟨g,off,f,h1,_⟩:=h.cells d;rw[f] at e;injection e with e
 exact e▸h1
theorem aP.yy(h:aP W A n c ai)(f:∀x∈ai,x≠0)(g:sO W z):∀b,A.map (·.block)=some b->0<n->b≠z:=by
 intro b e d i;obtain⟨j,off,k,h1,l⟩:=h.cells d;rw[k] at e;injection e with e
 have e:j=b:=e;subst e i;exact f _ (ue (by rw[h.len];exact d)) (g.int (l 0 d))
theorem kN.yy{ai:List Bool}(h:kN W A n c ai)(f:sO W z)(d:0<n):∀b,A.map (·.block)=some b->b≠z:=by
 intro b e g;obtain⟨i,off,j,h1,k⟩:=h.cells d;rw[j] at e;injection e with e
 have e:i=b:=e;subst e g;exact f.bool (k 0 d)
variable {K:Nat->Prop}{W W':World}{kS z2:Nat}
def tf(K:Nat->Prop)(kS z2 b:Nat):Prop:=K b/\b≠kS/\b≠z2
theorem pn.off{S:au}(h:pn K W S)(hl:∀p∈S.aF,p.lQ=1\/p.lQ=2\/p.lQ=3)(h1:sO W kS)(k:sO W z2)(f:aG (tf K kS z2) W W'):pn K W' S:=by
 intro d l;obtain⟨a1,a2,a3⟩:=h d l;refine⟨a1,a2,a3.imp id ?_⟩;rintro⟨b,off,e,hk,g⟩;refine⟨b,off,e,hk,λ j u c=>?_⟩;obtain⟨p,rest,hp⟩:∃p rest,S.aF=p::rest:=by
  cases m:S.aF with
  |nil=>rw[m] at c;simp[mC] at c
  |cons p rest=>exact⟨p,rest,rfl⟩
 have o:=g 0 (.int .i64 p.lQ) (by rw[hp];rfl);have t:=hl p (by rw[hp];simp);have i:∀z,sO W z->b≠z:=λ z q r=>by
  subst r;have:=q.int o;omega
 have s:0<d.n:=by rw[a1,hp];simp
 rw[f.cell (p:=⟨b,off+j,none⟩) ⟨hk s,i kS h1,i z2 k⟩];exact g j u c
theorem sJ.Oy{w w':World}{A:Option Addr}{n c:Nat}{es:List mT}(h:sJ w A n c es)(f:aG K w w')(l:∀b,b<w.heap.size->A.map (·.block)=some b->K b)(he:∀e∈es,∀b,b<w.heap.size->e.r.A.map (·.block)=some b->K b):sJ w' A n c es:=
 ⟨h.len,h.cap,h.mG,h.n9,λ d=>by
  obtain⟨b,off,e,i,m⟩:=h.cells d;refine⟨b,off,e,u_ i f.size,λ k hk=>?_⟩;rw[f.cell (p:=⟨b,off+k,none⟩) (l b i (by rw[e];rfl))];exact m k hk,λ e g=>(h.rows e g).jB f (λ b j d=>he e g b ((h.rows e g).lt b j d) j)⟩
theorem qx.Oz{n:Nat}{p:nE}(h:qx K W n p)(h1:sO W kS)(i:sO W z2):qx (λ b=>b<W.heap.size/\tf K kS z2 b) W n p:=by
 obtain⟨j,c,f⟩:=h.rd;exact⟨h.lQ,⟨j,c,f⟩,λ b e d=>⟨c.lt b e d,h.blk b e d,c.yy (λ x g=>(f x g).oM) h1 b e d,c.yy (λ x g=>(f x g).oM) i b e d⟩⟩
theorem og.OA{F:List (List Int)}{ah:List Int}{n bH aB:Nat}{kind:Int}{aK:Option Addr}{aU aJ:Nat}{aX:Option Addr}{bM aM:Nat}(a:og K W F ah n bH aB kind aK aU aJ aX bM aM)(hl:∀x∈ah,gP n x)(k:sO W kS)(l:sO W z2)(f:aG (λ b=>b<W.heap.size/\tf K kS z2 b) W W'):og (λ _=>True) W' F ah n bH aB kind aK aU aJ aX bM aM:=by
 rcases a with⟨h1,g,m,c,i,d⟩|⟨h1,g,co,c,i,d⟩|h1
 ·have hp:0<aU:=by have:=c.len;omega
  refine .inl ⟨h1,g,m,c.jB f (λ b e=>⟨?_,i b e,c.yy k hp b e,c.yy l hp b e⟩),λ _ _=>trivial,d⟩;obtain⟨s,off,p,q,_⟩:=c.cells hp;rw[p] at e;injection e with e
  exact e▸q
 ·have o:∀x∈co,x≠0:=λ x r=>(hl x (d.1.subset r)).oM
  exact .inr (.inl ⟨h1,g,co,c.jB f (λ b e j=>⟨c.lt b e j,i b e,c.yy o k b e j,c.yy o l b e j⟩),λ _ _=>trivial,d⟩)
 ·exact .inr (.inr h1)
noncomputable def yz(w:World)(D:Nat->Prop):World:={w with heap:=w.heap.mapIdx λ i o=>open Classical in if D i then .map #[] 0 else o}
theorem Er(w:World)(D:Nat->Prop):aG (λ b=>b<w.heap.size/\¬D b) w (yz w D):=
 ⟨rfl,rfl,rfl,by simp[yz],λ b c=>by
  show(w.heap.mapIdx _)[b]? =_;rw[j_];rw[Array.getElem?_eq_getElem c.1];simp[c.2]⟩
theorem Es{w:World}{D:Nat->Prop}{b:Nat}(d:D b)(off:Nat):(yz w D).cell? ⟨b,off,none⟩=none:=by
 unfold World.cell?;have:(yz w D).heap[b]? =(w.heap[b]?).map λ _=>.map #[] 0:=by
  show(w.heap.mapIdx _)[b]? =_;rw[j_];simp[d]
 show(match (yz w D).heap[b]? with|some (.cells c _ _)=>_|_=>none)=none;rw[this]
 cases w.heap[b]? <;>rfl
theorem aP.zA{w:World}{D:Nat->Prop}{A:Option Addr}{n c:Nat}{ai:List Int}(h:aP (yz w D) A n c ai):∀b,A.map (·.block)=some b->0<n->¬D b:=λ b e d f=>by
 obtain⟨g,off,i,_,j⟩:=h.cells d;rw[i] at e;injection e with e
 have e:g=b:=e;subst e;have:=j 0 d;rw[Es f] at this
 cases this
theorem oJ.zA{w:World}{D:Nat->Prop}{A:Option Addr}{n c:Nat}{es:List nH}(h:oJ (yz w D) A n c es):∀b,A.map (·.block)=some b->0<n->¬D b:=λ b e d f=>by
 obtain⟨g,off,i,_,j⟩:=h.cells d;rw[i] at e;injection e with e
 have e:g=b:=e;subst e;have:=j 0 (by omega);rw[Es f] at this;have hl:=h.len
 cases es with
 |nil=>simp at hl;omega
 |cons p rest=>simp[mX,rS] at this
def vi(w:World)(D:Nat->Prop)(s:lp)(d:Option Addr)(e:Nat)(f:Option Addr)(cl:Nat)(A:Option Addr)(c:Nat)(A':Option Addr)(c':Nat)(g:Option Addr)(i:Nat)(j:Option Addr)(k:Nat):Prop:=
 ∀W,aG (λ b=>b<w.heap.size/\¬D b) w W->rz W s d e f cl A c A' c' g i j k
theorem bf.four{base bn:Nat}{G:Nat}{hs:Nat->ay}{cb:Nat->Nat}{s:au}(h:bf K base W G hs cb s)(hk:K bn)(v0 v1 v2 v3:Value):bf K base ((((W.setCell ⟨bn,0,none⟩ v0).setCell ⟨bn,1,none⟩ v1).setCell ⟨bn,2,none⟩ v2).setCell ⟨bn,3,none⟩ v3) G hs cb s:=
 (((h.vb hk 0 v0).vb hk 1 v1).vb hk 2 v2).vb hk 3 v3
theorem aG.four{bn:Nat}(v0 v1 v2 v3:Value)(b:¬K bn):aG K W ((((W.setCell ⟨bn,0,none⟩ v0).setCell ⟨bn,1,none⟩ v1).setCell ⟨bn,2,none⟩ v2).setCell ⟨bn,3,none⟩ v3):=
 (((aG.set bn 0 v0 b).trans (aG.set bn 1 v1 b)).trans (aG.set bn 2 v2 b)).trans (aG.set bn 3 v3 b)
end
section
open Go.RowKit Go.Shelf
theorem OB{aL:Ending->World->Prop}{a:Act}{v0 v1 v2 v3 v4 v5 v6 kg gU fK ig bk:Value}(t:a.defers=[])(d:a.tmps.getD 6 undef=.pointer (some ⟨aZ,0,none⟩))(e:a.tmps.getD 7 undef=.pointer (some ⟨gq,0,none⟩))(f:a.tmps.getD 8 undef=.int .i64 0)
  (b:aR W aZ 47 [v0,v1,v2,v3,v4,v5,v6,kg]) (c:aR W gq 30 [gU,fK,ig,bk]) (h:aL (.returned (.tuple #[.agg #[v0,v1,v2,v3,v4,v5,v6,kg],.agg #[gU,fK,ig,bk],.int .i64 0])) W):bodyPost w_ Tryz.f36 aL .ret a W:=by
 have g:=b.cell 0;have i:=b.cell 1;have j:=b.cell 2;have k:=b.cell 3;have l:=b.cell 4;have m:=b.cell 5;have n:=b.cell 6;have o:=b.cell 7;have p:=c.cell 0;have q:=c.cell 1;have r:=c.cell 2;have s:=c.cell 3;simp only[y_,x_] at g i j k l m n o p q r s;refine bodyPost_ret (v:=.tuple #[.agg #[v0,v1,v2,v3,v4,v5,v6,kg],.agg #[gU,fK,ig,bk],.int .i64 0]) ?_ t h;rw[Array.getD_eq_getD_getElem?] at d e f;simp[results,Tryz.results36,go_sem,d,e,f,g,i,j,k,l,m,n,o,p,q,r,s]
theorem aR.CC{b:Nat}{t:TypeId}(h:aR w b t [a0,a1,a2,a3,a4,a5,u6,u7])(v0 v1 v2 v3 v4 v5 v6 c:Value):aR ((((((((w.setCell ⟨b,0,none⟩ v0).setCell ⟨b,1,none⟩ v1).setCell ⟨b,2,none⟩ v2).setCell ⟨b,3,none⟩ v3).setCell ⟨b,4,none⟩ v4).setCell ⟨b,5,none⟩ v5).setCell ⟨b,6,none⟩ v6).setCell ⟨b,7,none⟩ c) b t [v0,v1,v2,v3,v4,v5,v6,c]:=
 (((((((h.set 0 v0).set 1 v1).set 2 v2).set 3 v3).set 4 v4).set 5 v5).set 6 v6).set 7 c
def zB(w:World)(b c:Nat)(v0 v1 v2 v3 v4 v5 v6 d e f g i:Value):World:=
 (((((((((((((w.setCell ⟨b,0,none⟩ v0).setCell ⟨b,1,none⟩ v1).setCell ⟨b,2,none⟩ v2).setCell ⟨b,3,none⟩ v3).setCell ⟨b,4,none⟩ v4).setCell ⟨b,5,none⟩ v5).setCell ⟨b,6,none⟩ v6).setCell ⟨b,7,none⟩ d).setCell ⟨c,0,none⟩ e).setCell ⟨c,1,none⟩ f).setCell ⟨c,2,none⟩ g).setCell ⟨c,3,none⟩ i))
theorem zB.ok{aY c1 c2 c3:Value}(h1:aR w aZ 47 [a0,a1,a2,a3,a4,a5,u6,u7])(o:aR w gq 30 [aY,c1,c2,c3])(n:aZ≠gq)(v0 v1 v2 v3 v4 v5 v6 d f g j k:Value):
  aR (zB w aZ gq v0 v1 v2 v3 v4 v5 v6 d f g j k) aZ 47 [v0,v1,v2,v3,v4,v5,v6,d]/\aR (zB w aZ gq v0 v1 v2 v3 v4 v5 v6 d f g j k) gq 30 [f,g,j,k]/\aG (λ b=>b≠aZ/\b≠gq) w (zB w aZ gq v0 v1 v2 v3 v4 v5 v6 d f g j k):=by
 have c:∀(u:World)(i:Nat)(v:Value),aG (λ b=>b≠aZ) u (u.setCell ⟨aZ,i,none⟩ v):=λ u i v=>aG.set _ i v (λ h=>h rfl)
 have l:∀(u:World)(i:Nat)(v:Value),aG (λ b=>b≠gq) u (u.setCell ⟨gq,i,none⟩ v):=λ u i v=>aG.set _ i v (λ h=>h rfl)
 have f1:aG (λ b=>b≠aZ) w _:=((((((((c w 0 v0).trans (c _ 1 v1)).trans (c _ 2 v2)).trans (c _ 3 v3)).trans (c _ 4 v4)).trans (c _ 5 v5)).trans (c _ 6 v6)).trans (c _ 7 d))
 have g1:=aR.CC h1 v0 v1 v2 v3 v4 v5 v6 d;unfold zB;generalize ((((((((w.setCell ⟨aZ,0,none⟩ v0).setCell ⟨aZ,1,none⟩ v1).setCell ⟨aZ,2,none⟩ v2).setCell ⟨aZ,3,none⟩ v3).setCell ⟨aZ,4,none⟩ v4).setCell ⟨aZ,5,none⟩ v5).setCell ⟨aZ,6,none⟩ v6).setCell ⟨aZ,7,none⟩ d)=w' at*;have f2:aG (λ b=>b≠gq) w' _:=(((l w' 0 f).trans (l _ 1 g)).trans (l _ 2 j)).trans (l _ 3 k);exact⟨f2.blk g1 n,((((f1.blk o (λ e=>n e.symm)).set 0 f).set 1 g).set 2 j).set 3 k,(f1.mono λ b m=>m.1).trans (f2.mono λ b m=>m.2)⟩
def Il(w:World)(n:Nat)(s:lp)(c:Option Addr)(e:Ending)(W:World):Prop:=
 ∃(base G:Nat)(hs:Nat->ay)(cb:Nat->Nat)(S:au),e=.returned (.pointer (some ⟨G,0,none⟩))/\bf (λ b=>b<base) base W G hs cb S/\tB n s ⟨c,s.aF.length,s.aF.length⟩ s.gs.length s.es.length S/\Below w.heap.size w W/\w.heap.size<=base
theorem OC(O:pL n s)(cG:n<=10)(bN:rz w s bw aS jc cl A c A' c' hM gM bA bI)
  (a6:∀w,Calls w_ 109 #[.slice bA s.aF.length bI] w λ e w'=>e=.returned (.slice bA s.aF.length s.aF.length)/\w'=w):
  Calls w_ 98 #[rT n bw s.gs.length aS jc s.es.length cl A (n+1) c A' n c' s.bz hM (n+1) gM bA s.aF.length bI] w (Il w n s bA):=by
 unfold rT;obtain⟨L,a7⟩:∃x,s.gs.length=x:=⟨_,rfl⟩
 obtain⟨nl,af⟩:∃x,s.es.length=x:=⟨_,rfl⟩
 obtain⟨l,az⟩:∃x,s.aF.length=x:=⟨_,rfl⟩
 have y:=U (z_ bN (z_ O (z_ a7 (z_ af az))));rw[az] at a6;rw[a7,af,az];have cH:=U a6;clear bN O a6 a7 af az;go_enter Tryz.func98,Tryz.ntmps98
 have aA:=bC w (.cells #[.int .i64 n,.slice bw L aS,.slice jc nl cl,.slice A (n+1) c,.slice A' n c',.int .i64 s.bz,.slice hM (n+1) gM,.slice bA l bI] 47);have aa:aR (w.alloc (.cells #[.int .i64 n,.slice bw L aS,.slice jc nl cl,.slice A (n+1) c,.slice A' n c',.int .i64 s.bz,.slice hM (n+1) gM,.slice bA l bI] 47)) w.heap.size 47 [.int .i64 n,.slice bw L aS,.slice jc nl cl,.slice A (n+1) c,.slice A' n c',.int .i64 s.bz,.slice hM (n+1) gM,.slice bA l bI]:=aR.new w 47 _;have bO:(w.alloc (.cells #[.int .i64 n,.slice bw L aS,.slice jc nl cl,.slice A (n+1) c,.slice A' n c',.int .i64 s.bz,.slice hM (n+1) gM,.slice bA l bI] 47)).heap.size=w.heap.size+1:=by simp
 go_upto_region 1 with fail
 generalize w.alloc (.cells #[.int .i64 n,.slice bw L aS,.slice jc nl cl,.slice A (n+1) c,.slice A' n c',.int .i64 s.bz,.slice hM (n+1) gM,.slice bA l bI] 47)=w1 at*;have a8:Ic w1 w.heap.size n s.act s.bz s.ia A c hM gM bA l bI (s.aF.map ow):=by
  refine⟨aa.cell 0,aa.cell 3,aa.cell 5,aa.cell 6,aa.cell 7,by omega,?_,?_,cH.o,by omega⟩
  ·have:=y.o.1.act.below aA;rw[y.o.2.1.hk.lB] at this;exact this
  ·have:=y.o.1.ia.below aA;rw[y.o.2.1.nM] at this;exact this
 have bP:=U (Ol w1 w.heap.size n s.act s.bz s.ia A c hM gM bA l bI (s.aF.map ow) a8);have H1:=U (z_ aA (z_ aa (z_ bO a8)));clear aA aa bO a8;refine Oa (qb Tryz.f98 1) 42 123 _ _ [(1,.pointer (some ⟨w.heap.size,0,none⟩))] _ (qO w1 w.heap.size n s.act s.bz s.ia A c hM gM bA l bI (s.aF.map ow)) Cz (by kernel_rfl) (by kernel_rfl) (by kernel_rfl) (by kernel_rfl) (by kernel_rfl) (by decide+kernel) (by decide+kernel) (by decide+kernel) (by decide+kernel) (by decide+kernel) rfl ⟨rfl,trivial⟩ (qO.lt w1 w.heap.size n s.act s.bz s.ia A c hM gM bA l bI (s.aF.map ow)) ((q_ _ _).drew) bP.o _ rfl ?_;intro vals bR bS bT cI cJ aq;obtain⟨hs,G,f41,bU,bV,bW⟩:∃hs b,vals 41=.pointer (some ⟨b,0,none⟩)/\aR bR b s0 (q5 hs (qD n s.act s.bz s.ia (s.aF.map ow) ⟨bA,l,l⟩))/\w1.heap.size<=b/\mu w1.heap.size qS nL bR hs (cont hs sj (qD n s.act s.bz s.ia (s.aF.map ow) ⟨bA,l,l⟩)):=bT 41 (by omega);simp only[mJ,Act.put,List.take,f41] at aq;subst aq;have V:=U (z_ bS (z_ bU (z_ bV bW)));clear bS bT cI f41 bU bV bW bP;simp only[bh,execOp];simp[bQ,go_sem,Act.eval,Act.put];have bX:=(H1.o.2.1.below V.o.1).cell 4;simp only[y_,x_] at bX
 go_wp2_with fail
 go_loopw [57] (λ i W=>∃(k:Nat)(hs:Nat->ay),i=.int .i64 k/\k<=n/\bf (λ b=>b<w1.heap.size) w1.heap.size W G hs sj (qY n s.act s.bz s.ia (s.aF.map ow) ⟨bA,l,l⟩ s.ord k)/\aG (λ b=>b<w1.heap.size) w1 W) (λ i _=>n-(intOf i).toNat)
 case atStart=>
  refine⟨0,hs,rfl,r_ _,⟨⟨V.o.2.1,V.o.2.2.2,λ d C=>(by simp[qY,qD,oe] at C),λ d e C=>(by simp[qY,qD,oe] at C),V.o.2.2.1,λ d C=>(by simp[qY,qD,oe] at C)⟩,⟨λ b J=>u_ J V.o.1.size,λ h=>by have:=V.o.2.2.1;omega,λ r b e h=>by have:=(V.o.2.2.2.lt e).1;omega,λ d C=>(by simp[qY,qD,oe] at C)⟩⟩,aG.rf V.o.1 (λ b J=>J)⟩
 case round=>
  obtain⟨k,B,rfl,hk,X,hF⟩:=hrel;have E:=U X;have F:=U hF;clear X hF
  by_cases K:k<n
  ·have cK:(k:Int)<(n:Int):=by omega
   have bY:=y.o.2.1.hk.qs;obtain⟨aB,a',rfl,ba,bZ⟩:=y.o.1.ord.cells (by omega);have aC:=bZ k (by omega);have bb:=y.o.2.1.hk.ur K;obtain⟨x,bc⟩:∃x:Nat,jP s.ord k=x:=⟨(jP s.ord k).toNat,by have h1:1<=jP s.ord k:=bb.1;omega⟩
   have b0:1<=x/\x<=n:=by
    have h1:1<=jP s.ord k/\jP s.ord k<=n:=bb;omega
   rw[bc] at aC;have b1:aB<w1.heap.size:=u_ ba H1.o.1.size;have c9:wr.cell? ⟨aB,a'+k,none⟩=some (.int .i64 (x:Int)):=(F.o.cell (p:=⟨aB,a'+k,none⟩) b1).trans ((H1.o.1.cell (p:=⟨aB,a'+k,none⟩) ba).trans aC);have m:=U (z_ bc (z_ b0 (z_ K bY)));clear bZ aC bb bc b0 K hk ba b1 bY
   go_upto_region 5 with fail
   obtain⟨ab,n7,aD,ag⟩:∃A n c,B 7=⟨A,n,c⟩:=⟨_,_,_,rfl⟩
   have cL:n7=k:=by
    have h1:=E.o.e.n7;rw[ag] at h1;have bd:(s.ord.take k).length=k:=by rw[List.length_take];have:=m.o;omega
    exact h1.trans bd
   subst cL;have b2:(B 8).n=n+1:=E.o.e.n8.trans (AJ n s.ord n7);obtain⟨g8,b3,b4⟩:=E.o.e.rows.addr (r:=8) (by omega);obtain⟨bg,bj⟩:∃c,B 8=⟨some ⟨g8,0,none⟩,n+1,c⟩:=⟨(B 8).c,by rw[<-b3,<-b2]⟩
   have bk:(B 7).b=ab.map (·.block):=by rw[ag];rfl
   have b5:bF (Ii wr w1.heap.size G (q5 B (qY n s.act s.bz s.ia (s.aF.map ow) ⟨bA,l,l⟩ s.ord n7)) ab n7 aD g8 (n+1) bg x (n7:Int) (s.ord.take n7)):=U (by
    refine⟨?_,?_,by have:=m.o;omega,by omega,by have:=m.o;omega,F.o.size,E.o.e.box.lt,λ g ar=>?_⟩
    ·show some (B 7).v=_;rw[ag];rfl
    ·show some (B 8).v=_;rw[bj];rfl
    ·rw[<-bk] at ar;exact⟨(E.o.e.rows.lt ar).2,λ e=>E.o.e.ux 7 g ar e.symm⟩)
   have b6:=U (Oq wr w1.heap.size G (q5 B (qY n s.act s.bz s.ia (s.aF.map ow) ⟨bA,l,l⟩ s.ord n7)) ab n7 aD g8 (n+1) bg x (n7:Int) (s.ord.take n7) b5.o);have b7:CB w1.heap.size G (q5 B (qY n s.act s.bz s.ia (s.aF.map ow) ⟨bA,l,l⟩ s.ord n7)) ab n7 aD (s.ord.take n7) wr:=by
    have h1:wr.ownsRow w1.heap.size 3 1 (B 7).v (B 7).n (jj (s.ord.take n7)):=E.o.e.rows.row 7;rw[ag] at h1;exact⟨h1,E.o.e.box⟩
   have b8:CA wr G (q5 B (qY n s.act s.bz s.ia (s.aF.map ow) ⟨bA,l,l⟩ s.ord n7)) ab wr:=⟨aG.refl,_,by rw[Ig b5.o.l10];exact E.o.e.box⟩
   have ad:=U (z_ ag (z_ bj (z_ b4 (z_ bk (z_ b7 b8)))));clear ag bj b4 bk b7 b8 b3 b2;refine yg (qb Tryz.f98 5) 18 123 _ _ [(3,.pointer (some ⟨G,0,none⟩)),(5,.int .i64 (x:Int)),(4,.int .i64 (n7:Int))] _ (zy wr w1.heap.size G (q5 B (qY n s.act s.bz s.ia (s.aF.map ow) ⟨bA,l,l⟩ s.ord n7)) ab n7 aD g8 (n+1) bg x (n7:Int) (s.ord.take n7)) Ih _ 12 (by kernel_rfl) (by kernel_rfl) (by kernel_rfl) (by kernel_rfl) (by kernel_rfl) (by decide+kernel) (by decide+kernel) (by decide+kernel) (by decide+kernel) (by decide+kernel) rfl ⟨rfl,rfl,rfl,trivial⟩ ⟨wF.drop ad.o.2.2.2.2.2.1 (q_ _ _).drew,ad.o.2.2.2.2.2.2.imp λ v h=>h.below (q_ _ _).drew⟩ ⟨mh ad.o.2.2.2.2.1.1 ((q_ _ _).drew),ad.o.2.2.2.2.1.2.below ((q_ _ _).drew)⟩ b6.o _ rfl ?_;intro b9 b' ca aE cJ aq;obtain⟨h',cc,n16,cd⟩:∃h:ay,b'.ownsRow w1.heap.size 3 1 h.v (n7+1) (jj (s.ord.take n7++[(x:Int)]))/\(h.b=ab.map (·.block)\/∀g,h.b=some g->wr.heap.size<=g)/\aR b' G s0 ((q5 B (qY n s.act s.bz s.ia (s.aF.map ow) ⟨bA,l,l⟩ s.ord n7)).set 10 h.v):=aE 16 (by omega) rfl;have f17:b9 17=.pointer (some ⟨g8,x,none⟩):=aE 17 (by omega) rfl;have f13:b9 13=.int .i64 (n7:Int):=aE 13 (by omega) rfl;have cf:(qY n s.act s.bz s.ia (s.aF.map ow) ⟨bA,l,l⟩ s.ord n7).ord.length=n7:=by
    show(s.ord.take n7).length=n7;rw[List.length_take];have:=m.o;omega
   have P:=E.o.Ot (h':=h') (x:=(x:Int)) (by rw[ad.o.2.2.2.1];exact ca.1) cd (by rw[cf];exact cc) (by rw[ad.o.2.2.2.1];exact n16);have aH:(iV B 7 h' 8).b=some g8:=by rw[bq _ _ (by decide)];exact ad.o.2.2.1
   have cg:=P.1.e.xg aH (k:=x) (by show x<(uK n s.ord n7).length;rw[AJ];have:=m.o;omega);have ch:=P.1.e.rows.free aH x;have ah:=P.1.x7 aH x (n7:Int);have cj:ak s.ord n7=(x:Int):=m.o.1;have ae:((qY n s.act s.bz s.ia (s.aF.map ow) ⟨bA,l,l⟩ s.ord n7).vw (x:Int)).pS x (n7:Int)=qY n s.act s.bz s.ia (s.aF.map ow) ⟨bA,l,l⟩ s.ord (n7+1):=by
    have h1:=Ou n s.act s.bz s.ia (s.aF.map ow) ⟨bA,l,l⟩ s.ord n7 (by have:=m.o;omega);rw[cj,Int.toNat_natCast] at h1;exact h1
   rw[ae] at ah;have Q:=U (z_ ah.1 ((F.o.trans P.2).trans ah.2));simp only[mJ,Act.put,List.take,f17,f13] at aq;subst aq;clear ca aE cc n16 cd f17 f13 P ah b6 ae cj cf aH;simp only[bh,execOp];simp[bQ,go_sem,Act.eval,Act.put,cg,ch];clear cg ch
   go_wp2_with fail
   go_roundw
   case rel=>exact⟨n7+1,_,by go_num,by have:=m.o;omega,Q.o.1,Q.o.2⟩
   case measure=>have:=m.o;simp[intOf];omega
  ·obtain rfl:k=n:=by omega
   have cK:¬(k:Int)<(k:Int):=by omega
   have av:aR wr w.heap.size 47 [.int .i64 k,.slice bw L aS,.slice jc nl cl,.slice A (k+1) c,.slice A' k c',.int .i64 s.bz,.slice hM (k+1) gM,.slice bA l bI]:=F.o.blk H1.o.2.1 (by have:=H1.o.2.2.1;omega);have ck:=av.cell 1;simp only[y_,x_] at ck;clear K hk av bX
   go_wp2_with fail
   go_loopw [83] (λ i W=>∃(j:Nat)(hs:Nat->ay)(cb:Nat->Nat)(S:au),i=.int .i64 j/\j<=L/\bf (λ b=>b<w1.heap.size) w1.heap.size W G hs cb S/\aG (λ b=>b<w1.heap.size) w1 W/\tB k s ⟨bA,l,l⟩ j 0 S) (λ i _=>L-(intOf i).toNat)
   case atStart=>exact⟨0,B,sj,_,rfl,r_ _,E.o,F.o,tB.init y.o.2.1⟩
   case round=>
    clear E F;obtain⟨j,cM,cN,S,rfl,cm,X,hF,R⟩:=hrel;have E:=U X;have F:=U hF;have t:=U R;have aw:bF (Below w.heap.size w wr):=U (H1.o.1.trans ((show Below w1.heap.size w1 wr from⟨hF.os,hF.tape,hF.output,hF.size,λ b J=>hF.keep b J⟩).mono H1.o.1.size));clear X hF R ck
    by_cases K:j<L
    ·have cO:(j:Int)<(L:Int):=by omega
     have aI:=y.o.2.2.1;obtain⟨b,off,rfl,J,aJ⟩:=(y.o.1.gs.below aw.o).cells (by omega);obtain⟨a1,bl,c1,aC,cn⟩:=aJ j (by omega);have bn:j<s.gs.length:=by omega
     have ai:=y.o.2.1.bL _ (E4 bn);have bo:=y.o.2.1.g1;have br:=t.o.wC;have da:t_.wrap ((j:Int)+1)=(j:Int)+1:=by rw[v_];omega
     have P:=(E.o.below (bC wr (.cells #[.slice a1 bl c1,.bool false,.int .i64 0,.int .i64 0] 166)))
     have hblk:aR (wr.alloc (.cells #[.slice a1 bl c1,.bool false,.int .i64 0,.int .i64 0] 166)) wr.heap.size vv [.slice a1 bl c1,.bool false,.int .i64 0,.int .i64 0]:=aR.new wr vv _;have bs:=U (Hl (P.1.DR t.o.cb wr.heap.size) t.o.mo.gV.aN t.o.mo.nN (by rw[t.o.mo.jH];omega) (by rw[t.o.mo.gV.wt.qP,t.o.mo.jH]) (λ q=>g_ (t.o.mo.gV.wt.nA q) (by omega)) (by rw[t.o.mo.st];simp) (x:=⟨false,0,0⟩) (jT _ _ _) hblk F.o.size (λ h=>by have:=F.o.size;omega) (λ d C=>by rw[bq _ _ (by omega)];have:=(E.o.e.cls d C).lt;omega) (aP.below cn (bC wr _)) (λ z bt=>by rw[t.o.mo.jH];exact ai z bt));have m:=U (z_ bn (z_ P.2 K));clear aJ cn ai bo br P hblk aI bn cm K J
     go_wp2_with (go_at_call 144;refine bs.o.mono ?_;rintro e db ⟨rfl,Y,cp,cq⟩;have ah:=U cp;have cP:=U cq;clear cp cq)
     go_roundw
     case rel=>exact⟨j+1,Y,_,_,by go_num,by have:=m.o.2.2;omega,ah.o,F.o.trans (m.o.2.1.trans cP.o),t.o.given y.o.2.1 (by omega) m.o.1⟩
     case measure=>have:=m.o.2.2;simp[intOf];omega
    ·obtain rfl:j=L:=by omega
     have cO:¬(j:Int)<(j:Int):=by omega
     have av:aR wr w.heap.size 47 [.int .i64 k,.slice bw j aS,.slice jc nl cl,.slice A (k+1) c,.slice A' k c',.int .i64 s.bz,.slice hM (k+1) gM,.slice bA l bI]:=F.o.blk H1.o.2.1 (by have:=H1.o.2.2.1;omega);have cr:=av.cell 2;simp only[y_,x_] at cr;clear K cm av
     go_wp2_with fail
     go_loopw [96] (λ i W=>∃(q:Nat)(hs:Nat->ay)(cb:Nat->Nat)(S:au),i=.int .i64 q/\q<=nl/\bf (λ b=>b<w1.heap.size) w1.heap.size W G hs cb S/\aG (λ b=>b<w1.heap.size) w1 W/\tB k s ⟨bA,l,l⟩ j q S) (λ i _=>nl-(intOf i).toNat)
     case atStart=>exact⟨0,cM,cN,S,rfl,r_ _,E.o,F.o,t.o⟩
     case round=>
      clear E F t aw;obtain⟨q,Y,T,u,rfl,ct,X,hF,R⟩:=hrel;have E:=U X;have F:=U hF;have t:=U R;have aw:bF (Below w.heap.size w wr):=U (H1.o.1.trans ((show Below w1.heap.size w1 wr from⟨hF.os,hF.tape,hF.output,hF.size,λ b J=>hF.keep b J⟩).mono H1.o.1.size));clear X hF R cr
      by_cases K:q<nl
      ·have cQ:(q:Int)<(nl:Int):=by omega
       have af:=y.o.2.2.2.1;have aI:=y.o.2.2.1;have cu:=y.o.2.1.nA;have dc:=zv cG;have dd:t_.wrap ((q:Int)+1)=(q:Int)+1:=by rw[v_];omega
       have aK:=y.o.1.es.below aw.o;rw[af] at aK;have aL:q<s.es.length:=by omega
       obtain⟨b,off,rfl,J,aJ⟩:=aK.cells (by omega);obtain⟨aM,aQ,aT,bu⟩:=aK.HZ K aL;obtain⟨⟨⟨D,H,I,bx⟩,bp,ac⟩,ae⟩:∃e,s.es[q]=e:=⟨_,rfl⟩
       rw[ae] at aM aQ aT bu;replace aM:wr.cell? ⟨b,off+q*3,none⟩=some (.slice D H I):=aM;replace aQ:wr.cell? ⟨b,off+q*3+1,none⟩=some (.int .i64 bp):=aQ;replace aT:wr.cell? ⟨b,off+q*3+2,none⟩=some (.int .i64 ac):=aT;have ai:=(y.o.2.1.xI _ (List.getElem_mem aL)).1.lt;rw[ae] at ai;have m:=U (z_ aL (z_ K (z_ (show∀p:q<s.es.length,s.es[q]'p=(⟨⟨D,H,I,bx⟩,bp,ac⟩:mT) from λ _=>ae) (z_ ai (z_ bu (z_ aI cu))))));clear aJ ai aI bu ae aL ct J aK cu af
       go_upto_region 15 with fail
       have aU:aR (wr.alloc (.cells #[.slice D H I,.int .i64 bp,.int .i64 ac] 74)) wr.heap.size 74 [.slice D H I,.int .i64 bp,.int .i64 ac]:=aR.new wr 74 _;have cv:=bC wr (.cells #[.slice D H I,.int .i64 bp,.int .i64 ac] 74);generalize wr.alloc (.cells #[.slice D H I,.int .i64 bp,.int .i64 ac] 74)=M at*;have t0:=aU.cell 0;have t1:=aU.cell 1;have t2:=aU.cell 2;simp only[y_,x_] at t0 t1 t2;have bB:=U cv;clear cv aU aM aQ aT
       go_upto_region 16 with fail
       have Q:=E.o.below bB.o;have bD:=Q.1.below (bC M (.cells #[.slice D H I,.bool true,.int .i64 bp,.int .i64 ac] 166));have hblk:aR (M.alloc (.cells #[.slice D H I,.bool true,.int .i64 bp,.int .i64 ac] 166)) M.heap.size vv [.slice D H I,.bool true,.int .i64 bp,.int .i64 ac]:=aR.new M vv _;have bG:(M.alloc (.cells #[.slice D H I,.bool true,.int .i64 bp,.int .i64 ac] 166)).heap.size=M.heap.size+1:=by simp
       have cw:aP (M.alloc (.cells #[.slice D H I,.bool true,.int .i64 bp,.int .i64 ac] 166)) D H I bx:=aP.below (aP.below m.o.2.2.2.2.1 bB.o) (bC M _);obtain⟨blk,cR⟩:∃b,M.heap.size=b:=⟨_,rfl⟩
       rw[cR] at hblk bG⊢;have cx:∀d,d<u.c.cl.length->T d≠blk:=λ d C=>by have:=(Q.1.e.cls d C).lt;omega
       have cy:∀g,(Y 10).b=some g->g<blk:=λ g ar=>by have:=(Q.1.e.rows.lt ar).2;omega
       have cz:G<blk:=by have:=Q.1.e.box.lt;omega
       have cA:w1.heap.size<=blk:=by have:=F.o.size;have:=bB.o.size;omega
       generalize M.alloc (.cells #[.slice D H I,.bool true,.int .i64 bp,.int .i64 ac] 166)=N at*;have aV:=bD.1.DR t.o.cb blk;obtain⟨aj,n10,al,an⟩:∃A n c,Y 10=⟨A,n,c⟩:=⟨_,_,_,rfl⟩
       have de:N.cell? ⟨G,13,none⟩=some (.slice aj n10 al):=by have:=aV.e.kP (k:=13) (v:=(Y 10).v) rfl;rw[an] at this;exact this
       have bH:n10=u.aO.length:=by have:=aV.e.n10;rw[an] at this;exact this
       have aW:=U (aV.below (bC N (.cells #[.pointer (some ⟨blk,0,none⟩)] 164)));have hp:(N.alloc (.cells #[.pointer (some ⟨blk,0,none⟩)] 164)).cell? ⟨N.heap.size,0,none⟩=some (.pointer (some ⟨blk,0,none⟩)):=by go_simp
       have cS:=U (rq.one hp);have cT:bF ((N.alloc (.cells #[.pointer (some ⟨blk,0,none⟩)] 164)).ownsRow w1.heap.size 164 1 (.slice aj n10 al) n10 (k7 (iV T u.c.cl.length blk) u.aO)):=U (by
        have:=aW.o.1.e.rows.row 10;rw[an] at this;exact this)
       have cU:=U (Nat.le_of_lt aW.o.1.e.lt);have cV:bF (∀v9 bE,mY (N.alloc (.cells #[.pointer (some ⟨blk,0,none⟩)] 164)) w1.heap.size 164 (.slice aj n10 al) (n10+1) (k7 (iV T u.c.cl.length blk) u.aO++[.pointer (some ⟨blk,0,none⟩)]) v9 bE->mY (N.alloc (.cells #[.pointer (some ⟨blk,0,none⟩)] 164)) w1.heap.size 164 (Y 10).v (u.aO.length+1) (k7 (iV T u.c.cl.length blk) (u.aO++[u.c.cl.length])) v9 bE):=U (λ v9 bE ax=>by
        have e:k7 (iV T u.c.cl.length blk) (u.aO++[u.c.cl.length])=k7 (iV T u.c.cl.length blk) u.aO++[.pointer (some ⟨blk,0,none⟩)]:=by simp[k7,s5,jT]
        rw[e,an,<-bH];exact ax)
       have cW:=U (hblk.below (bC N (.cells #[.pointer (some ⟨blk,0,none⟩)] 164)));have cX:=U (F.o.trans (Q.2.trans (bD.2.trans aW.o.2)));have Z:=U (z_ cx (z_ cy (z_ cz (z_ cA (z_ an (z_ bH (z_ cw bG)))))));have df:n10<=100000:=by have h1:=t.o.k8;have bd:=m.o.1;have cY:=m.o.2.2.2.2.2.2;omega
       clear hp Q bD aV hblk cx cy cz cA an bH cw bG t0 t1 t2
       go_upto_region 17 with(at_builtin;refine Gh rfl (.tmp 112) (.tmp 114) rfl w1.heap.size (.slice aj n10 al) n10 (k7 (iV T u.c.cl.length blk) u.aO) rfl cT.o (some ⟨N.heap.size,0,none⟩) 1 1 _ rfl cS.o (by omega) cU.o ?_;intro v9 bE ax;obtain⟨⟨aX,aY,c3⟩,cB,cZ,bJ,a2,aZ,bK⟩:=bf.Gj (x:=u.c.cl.length) aW.o.1 (v':=v9) (cV.o v9 bE ax);change v9=.slice aX aY c3 at cB;subst cB;have c0:=U ((cW.o.kept ax.2.1 (λ e=>by have:=Z.o.2.1 blk (by rw[Z.o.2.2.2.2.1];exact(ay.own ⟨aj,n10,al⟩).symm.trans e.symm);omega)).kept (lq bE G 13 (.slice aX aY c3)) (λ e=>by injection e with e;have:=Z.o.2.2.1;omega));have dh:=U ((aP.below Z.o.2.2.2.2.2.2.1 (bC N (.cells #[.pointer (some ⟨blk,0,none⟩)] 164))));have aZ:=U aZ;have bK:=U bK;clear ax cZ;have a1:bE.cell? ⟨G,13,none⟩=some (.slice aj n10 al):=(by rw[Z.o.2.2.2.2.1] at bJ;exact bJ);clear bJ)
       generalize bE.setCell ⟨G,13,none⟩ (.slice aX aY c3)=bM at*;obtain⟨di,c4⟩:∃f,iV Y 10 ⟨aX,aY,c3⟩=f:=⟨_,rfl⟩
       rw[c4] at aZ;have bo:=y.o.2.1.g1;have br:=t.o.wC;have ao:=U (cX.o.trans bK.o);have cC:Below w.heap.size w bM:=H1.o.1.trans ((show Below w1.heap.size w1 bM from⟨ao.o.os,ao.o.tape,ao.o.output,ao.o.size,λ b J=>ao.o.keep b J⟩).mono H1.o.1.size);have cD:aP bM D H I bx:=by
        have h:=y.o.1.es.rows _ (List.getElem_mem m.o.1);rw[m.o.2.2.1 m.o.1] at h;exact aP.below h cC
       have bs:=U (Hl aZ.o t.o.mo.gV.aN t.o.mo.nN (by show u.c.n<=_;rw[t.o.mo.jH];omega) (by show u.c.wt.length=_;rw[t.o.mo.gV.wt.qP,t.o.mo.jH];show _=2*u.c.n+2;rw[t.o.mo.jH]) (λ q=>g_ (t.o.mo.gV.wt.nA q) (by have bd:=m.o.1;have cY:=m.o.2.2.2.2.2.2;have dj:=m.o.2.2.2.2.2.1;omega)) (by show u.c.st.length<=_;rw[t.o.mo.st];simp) (x:=⟨true,bp,ac⟩) (blk:=blk) (jT _ _ _) c0.o Z.o.2.2.2.1 (λ h=>by have:=Z.o.2.2.2.1;omega) (λ d C=>by have C:d<u.c.cl.length:=C;show iV T u.c.cl.length blk d≠blk;rw[bq _ _ (by omega)];exact Z.o.1 d C) cD (λ z bt=>by show gP u.c.n z;rw[t.o.mo.jH];exact m.o.2.2.2.1 z bt));have R:=t.o.Ow y.o.2.1 (by omega) m.o.1;rw[m.o.2.2.1 m.o.1] at R;have c5:=U R;clear R cD cC bo br
       go_wp2_with (go_at_call 144;refine bs.o.mono ?_;rintro e dk ⟨rfl,c6,cE,cF⟩;have c7:=U cE;have c8:=U cF;clear cE cF)
       go_roundw
       case rel=>exact⟨q+1,c6,_,_,by go_num,by have:=m.o.2.1;omega,c7.o,ao.o.trans c8.o,c5.o⟩
       case measure=>have:=m.o.2.1;simp[intOf];omega
      ·obtain rfl:q=nl:=by omega
       have cQ:¬(q:Int)<(q:Int):=by omega
       clear K ct
       go_wp2_with fail
       go_ret;refine⟨w1.heap.size,G,Y,T,u,rfl,E.o,?_,aw.o,H1.o.1.size⟩;rw[y.o.2.2.1,y.o.2.2.2.1,y.o.2.2.2.2];exact t.o
end
section
open Go.RowKit
theorem kN.OD{ia:List Bool}(h:kN w A n c ia)(d:0<n):∃b off,A=some ⟨b,off,none⟩/\b<w.heap.size/\w.cell? ⟨b,off,none⟩=some (.bool (iY ia 0)):=by
 obtain⟨b,off,e,f,g⟩:=h.cells d;exact⟨b,off,e,f,g 0 d⟩
theorem oy.CD(w:World)(r:Row)(d:aP w r.A r.n r.c r.ai):oy (w.alloc (.cells #[k3 r] 25)) (some ⟨w.heap.size,0,none⟩) 1 1 [r]:=by
 refine⟨rfl,Nat.le_refl _,by omega,by unfold maxLen;omega,λ _=>⟨w.heap.size,0,rfl,by simp,λ j u b=>?_⟩,λ q e=>?_⟩
 ·have f:j=0:=by
   have:=(List.getElem?_eq_some_iff.1 b).1;simp at this;omega
  subst f;have hu:k3 r=u:=by simpa using b
  subst hu;exact(aR.new w 25 [k3 r]).cell 0
 ·rw[List.mem_singleton.1 e];exact d.alloc _
theorem OE(h:e.r.ai.length=0):tw e=true:=by simp[tw,h]
theorem Et(b:e.r.ai.length≠0):tw e=(mZ e.bp||mZ e.ac):=by simp[tw,b]
theorem OF(n:Nat)(gs:List (List Int))(es:List mT)(act ord:List Int)(ab:Int)(a8:List Bool)(C:List nH){jN nl bK:Nat}{bw:Option Addr}{aS:Nat}{jc:Option Addr}{cl:Nat}{A:Option Addr}{c:Nat}{A':Option Addr}{c':Nat}{hM:Option Addr}{gM:Nat}{bA:Option Addr}{bI:Nat}{w:World}
  (cg:n<=65536) (a':ug act ord ab=true) (ba:iY a8 0=false) (P:nl<=1000000)
  (bb:kE w bw jN aS gs) (Q:sJ w jc nl cl es) (bc:aP w A (n+1) c act) (bd:aP w A' n c' ord) (aD:kN w hM (n+1) gM a8) (R:oJ w bA bK bI C):
  Calls w_ 49 #[rT n bw jN aS jc nl cl A (n+1) c A' n c' ab hM (n+1) gM bA bK bI] w λ e w'=>e=.returned (.int .i64 (if lS n gs≠0 then lS n gs else if es.any tw=true then 1 else if lS n (es.map (·.r.ai))≠0 then lS n (es.map (·.r.ai)) else if C.any (tA n)=true then 1 else 0))/\Below w.heap.size w w':=by
 obtain⟨S,ae,rfl,bf,aE⟩:=aD.OD (by omega);rw[ba] at aE;unfold rT;have b2:¬(n:Int)<0:=by omega
 have b3:¬(65536:Int)<n:=by omega
 have d0:decide ((n:Int)<0)=false:=decide_eq_false b2;have d1:decide ((65536:Int)<n)=false:=decide_eq_false b3;have wn:t_.wrap ((n:Int)+1)=(n:Int)+1:=by rw[v_];omega
 have ch:=Q.mG;have aF:=R.mG;obtain⟨av,aG⟩:∃x,lS n gs=x:=⟨_,rfl⟩
 obtain⟨el,aH⟩:∃x,lS n (es.map (·.r.ai))=x:=⟨_,rfl⟩
 rw[aG,aH];obtain⟨cj,aI⟩:∃x,(if av≠0 then av else if es.any tw=true then 1 else if el≠0 then el else if C.any (tA n)=true then 1 else 0)=x:=⟨_,rfl⟩
 rw[aI];have G:=U aI;clear aI;have H:=U (z_ bb (z_ Q (z_ bc (z_ bd (z_ aD R)))));have aw:=U (z_ aE bf);have aj:=U (z_ a' (z_ aG aH));clear aE bf bb Q bc bd aD R a' aG aH ba;go_enter Tryz.func49,Tryz.ntmps49
 have ak:=bC w (.cells #[.int .i64 n,.slice bw jN aS,.slice jc nl cl,.slice A (n+1) c,.slice A' n c',.int .i64 ab,.slice (some ⟨S,ae,none⟩) (n+1) gM,.slice bA bK bI] 47);have E:aR (w.alloc (.cells #[.int .i64 n,.slice bw jN aS,.slice jc nl cl,.slice A (n+1) c,.slice A' n c',.int .i64 ab,.slice (some ⟨S,ae,none⟩) (n+1) gM,.slice bA bK bI] 47)) w.heap.size 47 [.int .i64 n,.slice bw jN aS,.slice jc nl cl,.slice A (n+1) c,.slice A' n c',.int .i64 ab,.slice (some ⟨S,ae,none⟩) (n+1) gM,.slice bA bK bI]:=aR.new w 47 _
 go_upto_region 1 with fail
 generalize w.alloc (.cells #[.int .i64 n,.slice bw jN aS,.slice jc nl cl,.slice A (n+1) c,.slice A' n c',.int .i64 ab,.slice (some ⟨S,ae,none⟩) (n+1) gM,.slice bA bK bI] 47)=w1 at*;have bg:=E.cell 0;have bh:=E.cell 1;have bj:=E.cell 2;have bk:=E.cell 3;have bl:=E.cell 4;have bn:=E.cell 5;have bo:=E.cell 6;have bq:=E.cell 7;simp only[y_,x_] at bg bh bj bk bl bn bo bq;have br:=h_ (a:=⟨S,ae,none⟩) (ak.block S aw.o.2);rw[aw.o.1] at br;have b4:=U E;have bs:=U ak;have bt:=U (JO A (n+1) c act A' n c' ord ab w1 (H.o.2.2.1.below ak) (H.o.2.2.2.1.below ak));clear E ak
 go_upto_region 3 with(go_at_call 111;refine bt.o.mono ?_;rintro e wr ⟨rfl,aJ⟩;rw[aj.o.1];have I:=U (b4.o.below aJ);have af:=U (bs.o.trans (aJ.mono bs.o.size));have bu:=h_ (a:=⟨S,ae,none⟩) (af.o.block S aw.o.2);rw[aw.o.1] at bu;clear bg bh bj bk bl bn bo bq br aJ;have T:=I.o.cell 0;have bx:=I.o.cell 1;have bz:=I.o.cell 2;have bB:=I.o.cell 3;have bD:=I.o.cell 4;have bG:=I.o.cell 5;have bH:=I.o.cell 6;have al:=I.o.cell 7;simp only[y_,x_] at T bx bz bB bD bG bH al;dsimp only[yK])
 have aK:=U (xR n bw jN aS gs wr (H.o.1.below af.o))
 by_cases aL:av=0
 ·subst aL;have ck:((0:Int)==0)=true:=rfl
  go_upto_region 8 with(go_at_call 107;refine aK.o.mono ?_;rintro e ws ⟨rfl,ag⟩;rw[aj.o.2.1];have bJ:=U (I.o.below ag);have y:=U (af.o.trans (ag.mono af.o.size));clear T bx bz bB bD bG bH al ag bu;have z2:=bJ.o.cell 2;simp only[y_,x_] at z2;dsimp only)
  clear aK bt
  go_wp2_with fail
  go_loopw [4,71] (λ l i W=>∃(k:Nat)(J:Option Addr)(K:Nat),l=.slice J k K/\i=.int .i64 k/\k<=nl/\(es.take k).any tw=false/\W.ownsRow ws.heap.size 25 1 (.slice J k K) k (((es.take k).map (λ e:mT=>e.r)).map k3)/\Below ws.heap.size ws W) (λ _ i _=>nl-(intOf i).toNat)
  case atStart=>exact⟨0,none,0,rfl,rfl,r_ _,rfl,World.ownsRow_nil _ _ _ _,q_ _ _⟩
  case round=>
   obtain⟨k,J,K,rfl,rfl,hk,V,an,ad⟩:=hrel;have u:=U (z_ V (z_ an ad));clear V an ad
   by_cases z:k<nl
   ·have Q:=H.o.2.1.below (y.o.trans (u.o.2.2.mono y.o.size));have aM:k<es.length:=by rw[Q.len];exact z
    have aN:(k:Int)<(nl:Int):=by omega
    obtain⟨b,off,rfl,ad,aO⟩:=Q.cells (by omega);obtain⟨L,M,ax,X⟩:=Q.HZ z aM;obtain⟨⟨⟨m,f,q,s⟩,bp,ac⟩,P⟩:∃e,es[k]=e:=⟨_,rfl⟩
    rw[P] at L M ax X;replace L:wr.cell? ⟨b,off+k*3,none⟩=some (.slice m f q):=L;replace M:wr.cell? ⟨b,off+k*3+1,none⟩=some (.int .i64 bp):=M;replace ax:wr.cell? ⟨b,off+k*3+2,none⟩=some (.int .i64 ac):=ax;clear aO Q
    go_upto_region 11 with fail
    have lP:aR (wr.alloc (.cells #[.slice m f q,.int .i64 bp,.int .i64 ac] 74)) wr.heap.size 74 [.slice m f q,.int .i64 bp,.int .i64 ac]:=aR.new wr 74 _;have Y:=bC wr (.cells #[.slice m f q,.int .i64 bp,.int .i64 ac] 74);have bL:(wr.alloc (.cells #[.slice m f q,.int .i64 bp,.int .i64 ac] 74)).heap.size=wr.heap.size+1:=by simp
    generalize wr.alloc (.cells #[.slice m f q,.int .i64 bp,.int .i64 ac] 74)=v at*;have t0:=lP.cell 0;have t1:=lP.cell 1;have t2:=lP.cell 2;simp only[y_,x_] at t0 t1 t2;have Z:=U (z_ Y (z_ lP bL));have d:=U (z_ (show∀p:k<es.length,es[k]'p=(⟨⟨m,f,q,s⟩,bp,ac⟩:mT) from λ _=>P) (z_ X (z_ aM z)));have aQ:=X.len;replace aQ:s.length=f:=aQ;clear Y lP L M ax P X aM z hk bL
    by_cases bM:f=0
    ·subst bM;have t:es.any tw=true:=zu d.o.2.2.1 (by rw[d.o.1 d.o.2.2.1];exact OE aQ);have D:=U t;clear t
     go_wp2_with fail
     go_ret;exact⟨pO (by rw[<-G.o,if_neg (by omega),if_pos D.o]),y.o.trans ((u.o.2.2.trans (Z.o.1.mono u.o.2.2.size)).mono y.o.size)⟩
    ·have cm:((f:Int)==0)=false:=by simpa using bM
     cases N:mZ bp with
     |true=>
      have t:es.any tw=true:=zu d.o.2.2.1 (by rw[d.o.1 d.o.2.2.1,Et (by show s.length≠0;omega)];show(mZ bp||_)=true;rw[N];rfl);have D:=U t;have b5:=U N;clear t N
      go_wp2_with (go_at_call 112;refine(El _ _).mono ?_;rintro e bN ⟨rfl,rfl⟩;rw[b5.o])
      go_ret;exact⟨pO (by rw[<-G.o,if_neg (by omega),if_pos D.o]),y.o.trans ((u.o.2.2.trans (Z.o.1.mono u.o.2.2.size)).mono y.o.size)⟩
     |false=>
      cases ah:mZ ac with
      |true=>
       have t:es.any tw=true:=zu d.o.2.2.1 (by rw[d.o.1 d.o.2.2.1,Et (by show s.length≠0;omega)];show(mZ bp||mZ ac)=true;rw[N,ah];rfl);have D:=U t;have ao:=U (z_ N ah);clear t N ah
       go_wp2_with (go_at_call 112;refine(El _ _).mono ?_;rintro e bN ⟨rfl,rfl⟩;first|rw[ao.o.1]|rw[ao.o.2])
       go_ret;exact⟨pO (by rw[<-G.o,if_neg (by omega),if_pos D.o]),y.o.trans ((u.o.2.2.trans (Z.o.1.mono u.o.2.2.size)).mono y.o.size)⟩
      |false=>
       have aq:tw ⟨⟨m,f,q,s⟩,bp,ac⟩=false:=by rw[Et (by show s.length≠0;omega)];show(mZ bp||mZ ac)=false;rw[N,ah];rfl
       have aT:=U aq;have ao:=U (z_ N ah);clear aq N ah
       go_upto_region 13 with(go_at_call 112;refine(El _ _).mono ?_;rintro e bN ⟨rfl,rfl⟩;first|rw[ao.o.1]|rw[ao.o.2])
       have bO:ws.heap.size<=v.heap.size:=g_ u.o.2.2.size Z.o.1.size;have bP:bF ((v.alloc (.cells #[k3 ⟨m,f,q,s⟩] 25)).ownsRow ws.heap.size 25 1 (.slice J k K) k (((es.take k).map (λ e:mT=>e.r)).map k3)):=U (mh (mh u.o.2.1 Z.o.1) (bC v _));have bQ:=U bO;have b6:bF (aP v m f q s):=U (aP.below d.o.2.1 Z.o.1);clear bO;have aU:=d.o.2.2.2
       go_upto_region 14 with(at_builtin;refine Jz rfl (.tmp 91) (.tmp 94) rfl ws.heap.size (.slice J k K) k ((es.take k).map (λ e:mT=>e.r)) rfl bP.o (some ⟨v.heap.size,0,none⟩) 1 1 [⟨m,f,q,s⟩] rfl (oy.CD v ⟨m,f,q,s⟩ b6.o) (by omega) (by have:=bQ.o;simp;omega) ?_;intro v9 bE aV;obtain⟨⟨bR,kf,bS⟩,b7,az⟩:=ay.kZ aV.1;obtain rfl:v9=.slice bR kf bS:=b7;have bT:=U aV;have b8:=U az;clear aV az)
       have az:kf=k+1:=b8.o;subst az;have bU:Below ws.heap.size ws bE:=tn (u.o.2.2.trans ((Z.o.1.trans ((bC v (.cells #[k3 ⟨m,f,q,s⟩] 25)).mono Z.o.1.size)).mono u.o.2.2.size)) bT.o.2.1 (by have:=bQ.o;simp;omega) (λ g e=>(bP.o.lt g e).1);have b9:=U bU;clear bU
       go_wp2_with fail
       go_roundw
       case rel=>
        refine⟨k+1,bR,bS,rfl,by go_num,by omega,HX d.o.2.2.1 (by rw[d.o.1 d.o.2.2.1];exact aT.o) u.o.1,?_,b9.o⟩;have h1:=bT.o.1;rw[p_ d.o.2.2.1,d.o.1 d.o.2.2.1,m_];exact h1
       case measure=>simp[intOf];omega
   ·have V:=HY H.o.2.1.len z u.o.1;have aN:¬(k:Int)<(nl:Int):=by omega
    obtain rfl:k=nl:=by omega
    have ar:=U V;have aW:=U (bJ.o.below u.o.2.2);have au:=U (y.o.trans (u.o.2.2.mono y.o.size));have hlen:=H.o.2.1.len;have an:wr.ownsRow ws.heap.size 25 1 (.slice J k K) k ((es.map (λ e:mT=>e.r)).map k3):=by
     have h1:=u.o.2.1;rw[k_ (by omega)] at h1;exact h1
    have aX:=kE.kZ an (λ r b'=>by
     obtain⟨e,he,rfl⟩:=List.mem_map.1 b';exact((H.o.2.1.below au.o).rows e he)) (by omega)
    rw[List.map_map] at aX;have bV:bF (kE wr J k K (es.map (λ e:mT=>e.r.ai))):=U aX;have T:=aW.o.cell 0;have al:=aW.o.cell 7;simp only[y_,x_] at T al;clear V an aX z hk z2
    by_cases aY:el=0
    ·subst aY
     go_upto_region 18 with(go_at_call 107;refine(xR n J k K (es.map (λ e:mT=>e.r.ai)) wr bV.o).mono ?_;rintro e wt ⟨rfl,B⟩;rw[aj.o.2.2];have aA:=U (aW.o.below B);have aa:=U (au.o.trans (B.mono au.o.size));clear T al B;have z0:=aA.o.cell 0;have bW:=aA.o.cell 7;simp only[y_,x_] at z0 bW;dsimp only)
     go_wp2_with fail
     go_loopw [108] (λ i W=>∃j:Nat,i=.int .i64 j/\j<=bK/\(C.take j).any (tA n)=false/\Below wt.heap.size wt W) (λ i _=>bK-(intOf i).toNat)
     case atStart=>exact⟨0,rfl,r_ _,rfl,q_ _ _⟩
     case round=>
      obtain⟨j,rfl,ca,V,ad⟩:=hrel;have F:=U (z_ V ad);clear V ad
      by_cases z:j<bK
      ·have R:=H.o.2.2.2.2.2.below (aa.o.trans (F.o.2.mono aa.o.size));have aZ:j<C.length:=by rw[R.len];exact z
       have aN:(j:Int)<(bK:Int):=by omega
       obtain⟨b,off,rfl,ad,aO⟩:=R.cells (by omega);obtain⟨L,M,X⟩:=R.N5 z aZ;obtain⟨⟨O,⟨m,f,q,s⟩⟩,P⟩:∃e,C[j]=e:=⟨_,rfl⟩
       rw[P] at L M X;replace L:wr.cell? ⟨b,off+j*2,none⟩=some (.int .i64 O):=L;replace M:wr.cell? ⟨b,off+j*2+1,none⟩=some (.slice m f q):=M;have T:=(aA.o.below F.o.2).cell 0;simp only[y_,x_] at T;clear aO R z0 bW
       go_upto_region 21 with fail
       have lP:aR (wr.alloc (.cells #[.int .i64 O,.slice m f q] 126)) wr.heap.size 126 [.int .i64 O,.slice m f q]:=aR.new wr 126 _;have Y:=bC wr (.cells #[.int .i64 O,.slice m f q] 126);generalize wr.alloc (.cells #[.int .i64 O,.slice m f q] 126)=v at*;have t0:=lP.cell 0;have t1:=lP.cell 1;simp only[y_,x_] at t0 t1;have cc:=((aA.o.below F.o.2).below Y).cell 0;simp only[y_,x_] at cc;have d:=U (z_ (show∀p:j<C.length,C[j]'p=(⟨O,⟨m,f,q,s⟩⟩:nH) from λ _=>P) (z_ (aP.below X Y) (z_ aZ z)));have aB:=U (aa.o.trans ((F.o.2.trans (Y.mono F.o.2.size)).mono aa.o.size));have bX:=U (F.o.2.trans (Y.mono F.o.2.size));clear lP L M P X aZ z ca Y T
       by_cases aU:O<1
       ·have t:C.any (tA n)=true:=zu d.o.2.2.1 (by rw[d.o.1 d.o.2.2.1];unfold tA;rw[decide_eq_true aU];rfl);have D:=U t;clear t
        go_wp2_with fail
        go_ret;exact⟨pO (by rw[<-G.o,if_neg (by omega),if_neg (by rw[ar.o];exact s_),if_neg (by omega),if_pos D.o]),aB.o⟩
       ·by_cases bY:3<O
        ·have t:C.any (tA n)=true:=zu d.o.2.2.1 (by rw[d.o.1 d.o.2.2.1];unfold tA;rw[decide_eq_true bY];simp);have D:=U t;clear t
         go_wp2_with fail
         go_ret;exact⟨pO (by rw[<-G.o,if_neg (by omega),if_neg (by rw[ar.o];exact s_),if_neg (by omega),if_pos D.o]),aB.o⟩
        ·obtain⟨bZ,b0⟩:∃x,lS n [s]=x:=⟨_,rfl⟩
         have aC:=U b0;have b1:=U (xR n (some ⟨v.heap.size,0,none⟩) 1 1 [s] _ (oy.CD v ⟨m,f,q,s⟩ d.o.2.1).CZ);clear b0
         by_cases a6:bZ=0
         ·subst a6;have aq:tA n ⟨O,⟨m,f,q,s⟩⟩=false:=by
           unfold tA;rw[decide_eq_false aU,decide_eq_false bY,aC.o];simp
          have aT:=U aq;clear aq
          go_wp2_with (go_at_call 107;refine b1.o.mono ?_;rintro e cd ⟨rfl,B⟩;rw[aC.o];have a7:=U B;clear B)
          go_roundw
          case rel=>exact⟨j+1,by go_num,by have:=d.o.2.2.2;omega,HX d.o.2.2.1 (by rw[d.o.1 d.o.2.2.1];exact aT.o) F.o.1,bX.o.trans (((bC v _).trans (a7.o.mono (bC v _).size)).mono bX.o.size)⟩
          case measure=>have:=d.o.2.2.2;simp[intOf];omega
         ·have t:C.any (tA n)=true:=zu d.o.2.2.1 (by rw[d.o.1 d.o.2.2.1];unfold tA;rw[aC.o,decide_eq_true a6];simp);have D:=U t;have cn:(bZ==0)=false:=by simpa using a6
          clear t
          go_wp2_with (go_at_call 107;refine b1.o.mono ?_;rintro e cd ⟨rfl,B⟩;rw[aC.o];have a7:=U B;clear B)
          go_ret;exact⟨pO (by rw[<-G.o,if_neg (by omega),if_neg (by rw[ar.o];exact s_),if_neg (by omega),if_pos D.o]),aB.o.trans (((bC v _).trans (a7.o.mono (bC v _).size)).mono aB.o.size)⟩
      ·have aF:=HY H.o.2.2.2.2.2.len z F.o.1;have cf:=U aF;have aN:¬(j:Int)<(bK:Int):=by omega
       clear aF
       go_wp2_with fail
       go_ret;exact⟨pO (by rw[<-G.o,if_neg (by omega),if_neg (by rw[ar.o];exact s_),if_neg (by omega),if_neg (by rw[cf.o];exact s_)]),aa.o.trans (F.o.2.mono aa.o.size)⟩
    ·have cp:(el==0)=false:=by simpa using aY
     go_wp2_with (go_at_call 107;refine(xR n J k K (es.map (λ e:mT=>e.r.ai)) wr bV.o).mono ?_;rintro e wt ⟨rfl,B⟩;rw[aj.o.2.2];have aa:=U (au.o.trans (B.mono au.o.size));clear B)
     go_ret;exact⟨pO (by rw[<-G.o,if_neg (by omega),if_neg (by rw[ar.o];exact s_),if_pos aY]),aa.o⟩
 ·have cq:(av==0)=false:=by simpa using aL
  go_wp2_with (go_at_call 107;refine aK.o.mono ?_;rintro e ws ⟨rfl,ag⟩;rw[aj.o.2.1];have y:=U (af.o.trans (ag.mono af.o.size));clear ag)
  go_ret;exact⟨pO (by rw[<-G.o,if_pos aL]),y.o⟩
theorem Im(O:pL n s)(f:n<=10)(b:rz w s bw aS jc cl A c A' c' hM gM bA bI):
  Calls w_ 49 #[rT n bw s.gs.length aS jc s.es.length cl A (n+1) c A' n c' s.bz hM (n+1) gM bA s.aF.length bI] w λ e w'=>e=.returned (.int .i64 0)/\Below w.heap.size w w':=by
 have d:=O.N6 f;have i:=O.nA;have j:=zv f;have hm:=OF n s.gs s.es s.act s.ord s.bz s.ia s.aF (by omega) O.hk.check O.o8 (by omega) b.gs b.es (by have:=b.act;rw[O.hk.lB] at this;exact this) (by have:=b.ord;rw[O.hk.qs] at this;exact this) (by have:=b.ia;rw[O.nM] at this;exact this) b.aF;have g:AK s=false:=by
  unfold AK;rw[O.hk.check,O.o8,O.jH,O.hk.lB,O.hk.qs,O.nM];simp;omega
 unfold Em at d;rw[if_neg (by rw[g];exact s_),O.jH] at d;rw[d] at hm;exact hm
end
section
open Go.RowKit Go.Shelf
def AP(z:Nat->Prop)(w:World)(n:Nat)(s:lp)(g:Option Addr)(i:Nat)(ah:List Int)(j:Nat)(e:Ending)(W:World):Prop:=
 ∃(s':lp)(k:Option Addr)(c1:Nat)(l:Option Addr)(c2:Nat)(m:Option Addr)(c3:Nat)(o:Option Addr)(p:Nat)(c:Option Addr)(f:Nat)(d:Nat)(kind:Int)(q:Option Addr)(r t:Nat)(u:Option Addr)(v y:Nat),
  e=.returned (.tuple #[rT n g s.gs.length i k s'.es.length c1 l (n+1) c2 m n c3 s'.bz o (n+1) p c s'.aF.length f,.agg #[.int .i64 kind,.slice q r t,.slice u v y,.int .i64 (d:Int)],.int .i64 0])/\
  rz W s' g i k c1 l c2 m c3 o p c f/\pL n s'/\s'.gs=s.gs/\s'.es.length=s.es.length+d/\s.aF<+:s'.aF/\s'.aF.length=s.aF.length+d/\d<=j/\og (λ _=>True) W s.gs ah n j d kind q r t u v y/\Below w.heap.size w W/\zz w W c s'.aF.length f s'.aF/\(c≠none->∃b off,c=some ⟨b,off,none⟩)/\
  ∀W':World,aG (λ b=>b<W.heap.size/\¬z b) W W'->rz W' s' g i k c1 l c2 m c3 o p c f/\og (λ _=>True) W' s.gs ah n j d kind q r t u v y
def p5(c:Nat->Prop)(w kW:World)(b:Nat):Prop:=b<kW.heap.size/\¬c b/\b≠w.heap.size+1/\b≠w.heap.size+1+1
theorem AP.of{jN:Nat}{bH:Nat}{kW:World}{kK:Option Addr}{ja c1:Nat}{iC:Option Addr}{jd:Nat}{je:Option Addr}{iB:Nat}{oQ:Int}{jg:Option Addr}{iy:Nat}{bx:Option Addr}{sP bB:Nat}{aB:Nat}{kind:Int}{aK:Option Addr}{aU aJ:Nat}{aX:Option Addr}{bM aM:Nat}(k:s.gs.length=jN)
  (h:∃s':lp,s'.es.length=ja/\s'.bz=oQ/\s'.aF.length=sP/\pL n s'/\s'.gs=s.gs/\s'.es.length=s.es.length+aB/\s.aF<+:s'.aF/\s'.aF.length=s.aF.length+aB/\aB<=bH/\Below w.heap.size w kW/\(bx≠none->∃b off,bx=some ⟨b,off,none⟩)/\∀W:World,aG (p5 bg w kW) kW W->rz W s' bw aS kK c1 iC jd je iB jg iy bx bB/\og (λ _=>True) W s.gs ah n bH aB kind aK aU aJ aX bM aM/\zz w W bx s'.aF.length bB s'.aF) (c:aG (λ b=>b≠w.heap.size+1/\b≠w.heap.size+1+1) kW W):
  AP bg w n s bw aS ah bH (.returned (.tuple #[.agg #[.int .i64 n,.slice bw jN aS,.slice kK ja c1,.slice iC (n+1) jd,.slice je n iB,.int .i64 oQ,.slice jg (n+1) iy,.slice bx sP bB],.agg #[.int .i64 kind,.slice aK aU aJ,.slice aX bM aM,.int .i64 (aB:Int)],.int .i64 0])) W:=by
 obtain⟨s',rfl,rfl,rfl,O,h1,l,m,o,p,q,r,g⟩:=h;subst k;have i:aG (p5 bg w kW) kW W:=c.mono λ b d=>⟨d.2.2.1,d.2.2.2⟩
 have e:=g W i;have t:Below w.heap.size w W:=q.trans ⟨c.os,c.tape,c.output,c.size,λ b d=>c.keep b ⟨by omega,by omega⟩⟩;exact⟨s',kK,c1,iC,jd,je,iB,jg,iy,bx,bB,aB,kind,aK,aU,aJ,aX,bM,aM,rfl,e.1,O,h1,l,m,o,p,e.2.1,t,e.2.2,r,λ W' f=>by
  have j:=g W' (i.trans (f.mono λ b d=>⟨u_ d.1 c.size,d.2.1⟩));exact⟨j.1,j.2.1⟩⟩
theorem Io{w0:World}(d:oJ w0 A n c es)(f:A=none->n=0/\c=0)(w:World)(g:A≠none->∃b off,A=some ⟨b,off,none⟩):Calls w_ 109 #[.slice A n c] w λ e w'=>e=.returned (.slice A n n)/\w'=w:=by
 cases h:A with
 |none=>
  obtain⟨h1,i⟩:=f h;subst h1 i;exact N1 w
 |some a=>
  obtain⟨b,off,e⟩:=g (by rw[h];exact Option.some_ne_none _);rw[<-h,e];exact N0 b off n c w d.cap
structure tC(w W:World)(L M N:List Value):Prop where
 de:aR W w.heap.size 47 L
 aZ:aR W (w.heap.size+1) 47 M
 gq:aR W (w.heap.size+1+1) 30 N
 jU:Below w.heap.size w W
theorem tC.init(w:World)(L M N:List Value):tC w (((w.alloc (.cells L.toArray 47)).alloc (.cells M.toArray 47)).alloc (.cells N.toArray 30)) L M N:=by
 have c:aR (w.alloc (.cells L.toArray 47)) w.heap.size 47 L:=aR.new w 47 L;have i:=bC w (.cells L.toArray 47);have z0:(w.alloc (.cells L.toArray 47)).heap.size=w.heap.size+1:=by simp
 generalize w.alloc (.cells L.toArray 47)=w1 at*;have h1:aR (w1.alloc (.cells M.toArray 47)) w1.heap.size 47 M:=aR.new w1 47 M;have e:=bC w1 (.cells M.toArray 47);have f:(w1.alloc (.cells M.toArray 47)).heap.size=w1.heap.size+1:=by simp
 replace c:=c.below e;rw[z0] at h1 f;generalize w1.alloc (.cells M.toArray 47)=b at*;have g:aR (b.alloc (.cells N.toArray 30)) b.heap.size 30 N:=aR.new b 30 N;have d:=bC b (.cells N.toArray 30);rw[f] at g;exact⟨c.below d,h1.below d,g,i.trans ((e.trans (d.mono (by omega))).mono (by omega))⟩
theorem tC.below{w W W':World}{L M N:List Value}(h:tC w W L M N)(b:Below W.heap.size W W'):tC w W' L M N:=⟨h.de.below b,h.aZ.below b,h.gq.below b,h.jU.trans (b.mono h.jU.size)⟩
theorem tC.jB{W':World}{L M N:List Value}(h:tC w W L M N){B:Nat}(c:w.heap.size+1+1<B)(f:aG (λ b=>b<B) W W'):tC w W' L M N:=
 ⟨f.blk h.de (by omega),f.blk h.aZ (by omega),f.blk h.gq (by omega),h.jU.trans ⟨f.os,f.tape,f.output,f.size,λ b d=>f.keep b (by omega)⟩⟩
def vj:List Value:=[.int .i64 0,.slice none 0 0,.slice none 0 0,.slice none 0 0,.slice none 0 0,.int .i64 0,.slice none 0 0,.slice none 0 0]
theorem OG{gN:Option Addr}{bN gO:Nat}(ab:Nat)(O:pL n s)(av:n<=10)(bq:vi w bg s bw aS jc cl A c A' c' hM gM bA bI)(br:aP w gN bN gO ah)(hl:∀x∈ah,gP n x)(bS:(ah.map aD).Nodup)(cN:bN<=1000)(cO:ab<=1099511627776)(bT:s.gs.length<=40000)(bU:s.aF.length<=549755813888)
  (bs:bA=none->s.aF.length=0/\bI=0) (bt:bA≠none->∃b off,bA=some ⟨b,off,none⟩) (bV:∀b,bg b->b<w.heap.size):
  Calls w_ 36 #[rT n bw s.gs.length aS jc s.es.length cl A (n+1) c A' n c' s.bz hM (n+1) gM bA s.aF.length bI,.slice gN bN gO,.int .i64 ab] w (AP bg w n s bw aS ah ab):=by
 obtain⟨z,aB⟩:∃x,s.gs.length=x:=⟨_,rfl⟩
 obtain⟨nl,aC⟩:∃x,s.es.length=x:=⟨_,rfl⟩
 obtain⟨E,aE⟩:∃x,s.aF.length=x:=⟨_,rfl⟩
 have aU:=bq w aG.refl;have f:=U (z_ bq (z_ O (z_ aB (z_ aC (z_ aE (z_ br (z_ hl (z_ bS (z_ bT (z_ bU (z_ bs bt)))))))))));have cP:=br.len;have bu:=U bV;clear bV;rw[aB,aC,aE];have cQ:bF (∀W:World,Below w.heap.size w W->Calls w_ 49 #[rT n bw z aS jc nl cl A (n+1) c A' n c' s.bz hM (n+1) gM bA E bI] W λ e w'=>e=.returned (.int .i64 0)/\Below W.heap.size W w'):=U λ W d=>by
  have:=Im O av (aU.below d);rw[aB,aC,aE] at this;exact this
 have cR:bF (∀W:World,Below w.heap.size w W->Calls w_ 98 #[rT n bw z aS jc nl cl A (n+1) c A' n c' s.bz hM (n+1) gM bA E bI] W (Il W n s bA)):=U λ W d=>by
  have:=OC O av (aU.below d) (λ w=>Io aU.aF bs w bt);rw[aB,aC,aE] at this;exact this
 clear aU bq O br hl bS bT bU bs bt aB aC aE;unfold rT at*;go_enter Tryz.func36,Tryz.ntmps36
 go_upto_region 1 with fail
 have m:=tC.init w [.int .i64 n,.slice bw z aS,.slice jc nl cl,.slice A (n+1) c,.slice A' n c',.int .i64 s.bz,.slice hM (n+1) gM,.slice bA E bI] vj AO;replace m:tC w (((w.alloc (.cells #[.int .i64 n,.slice bw z aS,.slice jc nl cl,.slice A (n+1) c,.slice A' n c',.int .i64 s.bz,.slice hM (n+1) gM,.slice bA E bI] 47)).alloc (.cells #[.int .i64 0,.slice none 0 0,.slice none 0 0,.slice none 0 0,.slice none 0 0,.int .i64 0,.slice none 0 0,.slice none 0 0] 47)).alloc (.cells #[.int .i64 0,.slice none 0 0,.slice none 0 0,.int .i64 0] 30)) [.int .i64 n,.slice bw z aS,.slice jc nl cl,.slice A (n+1) c,.slice A' n c',.int .i64 s.bz,.slice hM (n+1) gM,.slice bA E bI] vj AO:=m;generalize (((w.alloc (.cells #[.int .i64 n,.slice bw z aS,.slice jc nl cl,.slice A (n+1) c,.slice A' n c',.int .i64 s.bz,.slice hM (n+1) gM,.slice bA E bI] 47)).alloc (.cells #[.int .i64 0,.slice none 0 0,.slice none 0 0,.slice none 0 0,.slice none 0 0,.int .i64 0,.slice none 0 0,.slice none 0 0] 47)).alloc (.cells #[.int .i64 0,.slice none 0 0,.slice none 0 0,.int .i64 0] 30))=cS at*;have ai:=m.de.cell 0;have aj:=m.de.cell 1;have ak:=m.de.cell 2;have al:=m.de.cell 3;have an:=m.de.cell 4;have ao:=m.de.cell 5;have aq:=m.de.cell 6;have ar:=m.de.cell 7;simp only[y_,x_] at ai aj ak al an ao aq ar;have cT:=U (cQ.o cS m.jU);have cU:= @run_makeMap w_;have cV:=U m;clear m
 go_upto_region 5 with(go_at_call 49;refine cT.o.mono ?_;rintro e aV ⟨rfl,bW⟩;have bX:=U (cV.o.below bW);clear ai aj ak al an ao aq ar bW)
 have cW:=U (bX.o.below (bC aV (.map #[] 0)));have aW:bF (w.heap.size+1+1<aV.heap.size):=U bX.o.gq.lt;have cX:=U (mb.made aV);clear cU
 go_wp2_with fail
 go_loopw [24] (λ i W=>∃k:Nat,i=.int .i64 k/\k<=bN/\mb W aV.heap.size k ((ah.take k).map λ x=>(aD x:Int))/\tC w W [.int .i64 n,.slice bw z aS,.slice jc nl cl,.slice A (n+1) c,.slice A' n c',.int .i64 s.bz,.slice hM (n+1) gM,.slice bA E bI] vj AO) (λ i _=>bN-(intOf i).toNat)
 case atStart=>exact⟨0,rfl,r_ _,cX.o,cW.o⟩
 case round=>
  obtain⟨k,rfl,hk,bY,bx⟩:=hrel;have M:=U bY;have S:=U bx;have ai:=bx.de.cell 0;simp only[y_,x_] at ai;clear bY bx
  by_cases bB:k<bN
  ·have cY:(k:Int)<(bN:Int):=by omega
   have dX:t_.wrap ((k:Int)+1)=(k:Int)+1:=by rw[v_];omega
   obtain⟨b,off,rfl,d,bZ⟩:=(f.o.2.2.2.2.2.1.below S.o.jU).cells (by omega);have cZ:=bZ k bB;have aX:k<ah.length:=by omega
   have aY:=f.o.2.2.2.2.2.2.1 _ (ue aX);have b0:=f.o.2.2.2.2.2.2.2.1;obtain⟨x,aH⟩:∃x,jP ah k=x:=⟨_,rfl⟩
   have aw:hasB ((ah.take k).map λ x=>(aD x:Int)) (aD x:Int)=false:=by
    cases c0:hasB ((ah.take k).map λ x=>(aD x:Int)) (aD x:Int) with
    |false=>rfl
    |true=>
     exfalso;obtain⟨y,c4,c5⟩:=List.mem_map.1 (wI.1 c0);obtain⟨j,dY,e⟩:=List.mem_take_iff_getElem.1 c4;have h1:=List.pairwise_iff_getElem.1 b0 j k (by rw[o_];omega) (by rw[o_];omega) (by omega);rw[List.getElem_map,List.getElem_map,e] at h1;rw[ql aX] at aH;rw[aH] at h1;exact h1 (by have:(aD y:Int)=(aD x:Int):=c5;omega)
   rw[aH] at cZ aY;have a6:aD x<=n:=aY.2;have dZ:(x==0)=false:=by have:=aY.oM;simpa using this
   have d':¬(n:Int)<x:=by unfold aD at a6;omega
   have ea:¬x< -(n:Int):=by unfold aD at a6;omega
   have wn:t_.wrap (-(n:Int))= -(n:Int):=by rw[v_];omega
   have eb:wrap64 (-(n:Int))= -(n:Int):=by unfold wrap64;omega
   have bD:(Lit.int .i64 (aD x:Int)).wf=true:=DX _ (by omega) (by omega);have b1:=M.o.look bD;rw[aw] at b1;obtain⟨ec,c6,b2,b3⟩:=M.o.put (by unfold maxLen;omega) bD;have F:=U (z_ aH (z_ aX (z_ b2 (z_ b3 bB))));have b4: -1000000<=x/\x<=1000000:=by unfold aD at a6;omega
   have b5:=U b4;clear bZ b0 aw b2 b3 bB hk d aY a6 bD aX aH b4;obtain⟨v,a7⟩:∃v,aD x=v:=⟨_,rfl⟩
   have c7:bF (∀W:World,Calls w_ 97 #[.int .i64 x] W λ e w'=>e=.returned (.int .i64 (v:Int))/\W=w'):=U λ W=>by have:=s7 x W b5.o.1 b5.o.2;rw[a7] at this;exact this
   rw[a7] at b1 c6;have ed:=U a7;clear a7
   go_wp2_with (go_at_call 97;refine(c7.o _).mono ?_;rintro e w' ⟨rfl,rfl⟩)
   go_roundw
   case rel=>
    refine⟨k+1,by go_num,by have:=F.o.2.2.2.2;omega,?_,?_⟩
    ·have h1:=F.o.2.2.1;rw[vn ah k F.o.2.1,F.o.1,m_];exact h1
    ·exact⟨S.o.de.kept F.o.2.2.2.1 (λ e=>by injection e with e;have:=aW.o;omega),S.o.aZ.kept F.o.2.2.2.1 (λ e=>by injection e with e;have:=aW.o;omega),S.o.gq.kept F.o.2.2.2.1 (λ e=>by injection e with e;have:=aW.o;omega),tn S.o.jU F.o.2.2.2.1 S.o.jU.size (λ g e=>by injection e with e;have:=aW.o;omega)⟩
   case measure=>have:=F.o.2.2.2.2;simp[intOf];omega
  ·have cY:¬(k:Int)<(bN:Int):=by omega
   have de:¬(ab:Int)<0:=by omega
   have aZ:¬(1099511627776:Int)<(ab:Int):=by omega
   have aj:=S.o.de.cell 1;have ak:=S.o.de.cell 2;have al:=S.o.de.cell 3;have an:=S.o.de.cell 4;have ao:=S.o.de.cell 5;have aq:=S.o.de.cell 6;have ar:=S.o.de.cell 7;simp only[y_,x_] at aj ak al an ao aq ar;have c8:=U (cR.o wr S.o.jU)
   go_upto_region 15 with(go_at_call 98;refine c8.o.mono ?_;rintro e bG ⟨base,G,hs,cb,m,rfl,a8,b6,b7,b8⟩;have a':=U (S.o.below b7);have ba:=U a8;have ad:=U b6;have c9:=U b8;clear ai aj ak al an ao aq ar a8 b6 b7 b8)
   have bb:w.heap.size+1+1<base:=by have:=S.o.gq.lt;have:=c9.o;omega
   have bH:=U bb;have aI:∀b,b<w.heap.size->b<base:=λ b d=>by omega
   have b9:se bg (λ b=>b<base) bG s.gs ah n s.es.length m.c.cl.length m gN bN gO ab:=by
    refine⟨av,cP,cN,f.o.2.2.2.2.2.2.1,f.o.2.2.2.2.2.1.below a'.o.jU,λ b d H=>?_,ba.o.s.lt,cO,?_,?_,f.o.2.1.bL,λ b d=>ba.o.s.lt b (aI b (bu.o b d))⟩
    ·obtain⟨ee,off,h1,I,_⟩:=f.o.2.2.2.2.2.1.cells H;rw[h1] at d;injection d with d
     exact d▸aI _ I
    ·have h1:=ad.o.wC;have I:=f.o.2.2.2.2.2.2.2.2.1;omega
    ·have h1:m.aF.length=s.aF.length:=by rw[ad.o.aF,o_]
     have I:=f.o.2.2.2.2.2.2.2.2.2.1;omega
   have bJ:∀b,b<w.heap.size->bg b->bg b:=λ b d e=>e
   have bK:=f.o.1 _ (Er w bg);have b':pn (λ b=>b<base/\¬bg b) bG m:=oJ.in (f.o.1 w aG.refl).aF a'.o.jU (λ b e H=>by
    have h1:=(f.o.1 w aG.refl).aF.lt b e H;exact⟨aI b h1,λ I=>bK.aF.zA b e H (bJ b h1 I)⟩) ad.o.jG ad.o.aF (λ e=>(f.o.2.2.2.2.2.2.2.2.2.2.1 e).1) f.o.2.2.2.2.2.2.2.2.2.2.2
   have ca:∀p∈m.aF,qx (λ b=>b<base/\¬bg b) bG n p:=by
    rw[ad.o.aF];exact oJ.lines (f.o.1 w aG.refl).aF a'.o.jU (λ e he b d H=>by
     have h1:=((f.o.1 w aG.refl).aF.rows e he).lt b d H;exact⟨aI b h1,λ I=>(bK.aF.rows e he).zA b d H (bJ b h1 I)⟩) f.o.2.1.Cx
   have da:=U (Nx (bn:=0) b9 ba.o (ad.o.ko f.o.2.1 (by omega) ah) b' ca rfl);clear b9 b' ca bb aI bJ bK de aZ
   go_upto_region 16 with(go_at_call 99;refine da.o.mono ?_;rintro e J ⟨K,ef,cc,bc,r,eg,kind,L,N,Q,R,V,X,rfl,cd,cf,bM,cg,ch,cj,ck,cm,cn,cp⟩;have db:=U cf;have bd:=U cg;have D:=U (a'.o.jB bH.o bM);have Y:=U (z_ cd (z_ bM (z_ ch (z_ cj (z_ ck (z_ cm (z_ cn cp)))))));clear cf bM cg ch cj ck cm cn cp cd;have bh:=D.o.gq.cell 0;have bj:=D.o.gq.cell 1;have bk:=D.o.gq.cell 2;have bl:=D.o.gq.cell 3;have aJ:=D.o.gq.free;have dc:=aJ 0;have dd:=aJ 1;have df:=aJ 2;have dh:=aJ 3;simp only[AO,y_,x_] at bh bj bk bl;clear aJ)
   have ae:∀b,b<base->K b:=Y.o.1;have cq:sO J (w.heap.size+1):=⟨_,_,D.o.aZ,by intro u hu;simp only[vj,List.mem_cons,List.not_mem_nil,or_false] at hu;rcases hu with rfl|rfl|rfl|rfl|rfl|rfl|rfl|rfl<;>simp⟩
   have cr:sO J (w.heap.size+1+1):=⟨_,_,D.o.gq,by intro u hu;simp only[AO,List.mem_cons,List.not_mem_nil,or_false] at hu;rcases hu with rfl|rfl|rfl|rfl<;>simp⟩
   have ct:=bf.four db.o (ae (w.heap.size+1+1) bH.o) (.int .i64 kind) (.slice L N Q) (.slice R V X) (.int .i64 (r:Int));have cu:aG (tf K (w.heap.size+1) (w.heap.size+1+1)) J _:=aG.four (.int .i64 kind) (.slice L N Q) (.slice R V X) (.int .i64 (r:Int)) (λ h=>h.2.2 rfl);have af:aG (λ b=>b≠w.heap.size+1+1) J _:=aG.four (.int .i64 kind) (.slice L N Q) (.slice R V X) (.int .i64 (r:Int)) (λ h=>h rfl);have cv:=(((D.o.gq.set 0 (.int .i64 kind)).set 1 (.slice L N Q)).set 2 (.slice R V X)).set 3 (.int .i64 (r:Int));generalize (((J.setCell ⟨w.heap.size+1+1,0,none⟩ (.int .i64 kind)).setCell ⟨w.heap.size+1+1,1,none⟩ (.slice L N Q)).setCell ⟨w.heap.size+1+1,2,none⟩ (.slice R V X)).setCell ⟨w.heap.size+1+1,3,none⟩ (.int .i64 (r:Int))=bE at*;have cw:tC w bE [.int .i64 n,.slice bw z aS,.slice jc nl cl,.slice A (n+1) c,.slice A' n c',.int .i64 s.bz,.slice hM (n+1) gM,.slice bA E bI] vj [.int .i64 kind,.slice L N Q,.slice R V X,.int .i64 (r:Int)]:=
    ⟨af.blk D.o.de (by omega),af.blk D.o.aZ (by omega),cv,D.o.jU.trans ⟨af.os,af.tape,af.output,af.size,λ b d=>af.keep b (by omega)⟩⟩
   have cx:bc.c.st.length<=1000000:=by
    have eh:=bd.o.lb.len;have ei:=bd.o.gV.aN.len;have ej:=bd.o.rg.jH;omega
   have di:=U (NO ct.drew bd.o av cx (qz:=n) (tq:=s.bz) (qA:=bw) (qB:=z) (qC:=aS) (mX:=.slice jc nl cl) (tr:=.slice A (n+1) c) (tu:=.slice A' n c') (mC:=.slice hM (n+1) gM) (sK:=.slice bA E bI));have t:=cw.below (q_ _ _).drew;have bO:=U t;have ag:=U (z_ cq (z_ cr (z_ cu ae)));clear cu af cv ae ct cx bh bj bk bl dc dd df dh cw cq cr;have ai:=t.de.cell 0;have aj:=t.de.cell 1;have ak:=t.de.cell 2;have al:=t.de.cell 3;have an:=t.de.cell 4;have ao:=t.de.cell 5;have aq:=t.de.cell 6;have ar:=t.de.cell 7;have bh:=t.gq.cell 0;have bj:=t.gq.cell 1;have bk:=t.gq.cell 2;have bl:=t.gq.cell 3;simp only[y_,x_] at ai aj ak al an ao aq ar bh bj bk bl;clear t;have dj:bF (∀(e:Ending)(kW:World),HK K base bE.drew G cc s.gs ah n s.es.length r bc n bw z aS e kW->∃(ax:Option Addr)(bo c1:Nat)(aK:Option Addr)(aL:Nat)(ay:Option Addr)(az:Nat)(bp:Int)(aM:Option Addr)(aO:Nat)(Z:Option Addr)(aA au:Nat),e=.returned (.agg #[.int .i64 n,.slice bw z aS,.slice ax bo c1,.slice aK (n+1) aL,.slice ay n az,.int .i64 bp,.slice aM (n+1) aO,.slice Z aA au])/\tC w kW [.int .i64 n,.slice bw z aS,.slice jc nl cl,.slice A (n+1) c,.slice A' n c',.int .i64 s.bz,.slice hM (n+1) gM,.slice bA E bI] vj [.int .i64 kind,.slice L N Q,.slice R V X,.int .i64 (r:Int)]/\∃s':lp,s'.es.length=bo/\s'.bz=bp/\s'.aF.length=aA/\pL n s'/\s'.gs=s.gs/\s'.es.length=s.es.length+r/\s.aF<+:s'.aF/\s'.aF.length=s.aF.length+r/\r<=ab/\Below w.heap.size w kW/\(Z≠none->∃b off,Z=some ⟨b,off,none⟩)/\∀W:World,aG (p5 bg w kW) kW W->rz W s' bw aS ax c1 aK aL ay az aM aO Z au/\og (λ _=>True) W s.gs ah n ab r kind L N Q R V X/\zz w W Z s'.aF.length au s'.aF):=U (by
    intro e kW a8;obtain⟨cy,C,jf,dk,ax,dm,dn,ay,az,rfl,cz,bP,cA,aQ,aR,dp,ek,en,dq,dr,dt,cB,aw⟩:=a8;have ae:=ag.o.2.2.2;have bb:=bH.o;have l:tC w kW _ vj _:=bO.o.jB (B:=base) bb (cA.mono ae);have du:=aQ.rg.lB;have dv:=aQ.rg.nM;have v6:(C 6).v=.slice (C 6).A (n+1) (C 6).c:=by rw[<-du,<-bP.e.n6];rfl
    have v9:(C 9).v=.slice (C 9).A (n+1) (C 9).c:=by rw[<-dv,<-bP.e.kf];rfl
    obtain⟨Z,aA,au,cC⟩:∃A n c,oO C jf=.slice A n c:=by
     unfold oO
     cases jf.jG with
     |none=>exact⟨_,_,_,rfl⟩
     |some h=>exact⟨_,_,_,rfl⟩
    refine⟨ax,dn.length,dm,(C 6).A,(C 6).c,ay,az,jf.bz,(C 9).A,(C 9).c,Z,aA,au,by rw[<-v6,<-v9,<-cC],l,?_⟩;have dw:∀b,bE.drew.heap.size<=b->b≠w.heap.size+1/\b≠w.heap.size+1+1:=λ b d=>by
     have h1:=bO.o.gq.lt;omega
    have cD:∀b,¬bg b->¬bg b:=λ b h1=>h1
    have dx:∀b,bg b->b<base:=λ b e=>by have:=bu.o b e;omega
    have f810:aG (tf K (w.heap.size+1) (w.heap.size+1+1)) J kW:=ag.o.2.2.1.trans ((aG.drew.trans cA).mono λ b d=>d.1);have cE:=f810.size;have dy:∀b,b<base->b<J.heap.size:=λ b d=>u_ (ba.o.s.lt b d) Y.o.2.1.size
    have f8:∀W,aG (p5 bg w kW) kW W->aG (λ b=>b<J.heap.size/\tf (λ b=>K b/\¬bg b) (w.heap.size+1) (w.heap.size+1+1) b) J W:=λ W q=>(f810.mono λ b d=>⟨d.2.1.1,d.2.2⟩).trans (q.mono λ b d=>⟨u_ d.1 cE,cD b d.2.1.2,d.2.2⟩)
    have dz:∀W,aG (p5 bg w kW) kW W->bf cy base W G C cc jf:=λ W q=>bP.still (P:=λ b=>b=w.heap.size+1\/b=w.heap.size+1+1\/bg b) (q.mono λ b d=>⟨d.1,λ e=>d.2 (.inr (.inr e)),λ e=>d.2 (.inl e),λ e=>d.2 (.inr (.inl e))⟩) (λ b d=>cz b (ae b (d.elim (λ h1=>by omega) (λ h1=>h1.elim (λ h1=>by omega) (dx b)))))
    have dA:∀W,aG (p5 bg w kW) kW W->pn cy W jf:=λ W q=>by
     have h1:pn (λ b=>b<base/\¬bg b) W bc:=Y.o.2.2.1.off (λ p hp=>(Y.o.2.2.2.1 p hp).lQ) ag.o.1 ag.o.2.1 ((f8 W q).mono λ b d=>⟨dy b d.1.1,⟨ae b d.1.1,d.1.2⟩,d.2⟩);exact(pn.kept h1 (s':=jf) aG.refl dp aR).mono (λ b d=>cz b (ae b d.1))
    have dB:∀p∈jf.aF,qx (p5 bg w kW) kW n p:=λ p hp=>(((Y.o.2.2.2.1 p (by rw[<-aR];exact hp)).Oz ag.o.1 ag.o.2.1).jB (f810.mono λ b d=>⟨d.2.1.1,d.2.2⟩)).mono λ b d=>⟨u_ d.1 cE,cD b d.2.1.2,d.2.2⟩
    have bQ:∀b,b<kW.heap.size->bE.drew.heap.size<=b->p5 bg w kW b:=λ b h1 I=>by
     have dC:=dw b I;have dk:=bO.o.gq.lt;exact⟨h1,λ dD=>by have:=bu.o b dD;omega,dC⟩
    have fin:∀W,aG (p5 bg w kW) kW W->rz W s bw aS jc cl A c A' c' hM gM bA bI:=λ W q=>f.o.1 W ((aG.rf l.jU λ b d=>d.1).trans (q.mono λ b d=>⟨by have:=l.jU.size;omega,d.2,by omega,by omega⟩))
    have dE:bc.aF.length=s.aF.length+r:=by have h1:=Y.o.2.2.2.2.2.1;rw[ad.o.aF,o_] at h1;exact h1
    have eo:=aQ.nA;have ep:=zv av;have er:=aQ.qs;have et:=f.o.2.2.2.2.2.2.2.2.2.1;obtain⟨s',aK,aL,aM,aO,eu,ev,cF,cG,cH,dF,dG,dH,dI,dJ,dK,dL,dM,cI⟩:=Ox (w:=w) (kW:=kW) (p5:=p5 bg w kW) (λ W q=>(fin W q).gs) (λ W q=>(fin W q).aF.rows) f.o.2.1 av (by omega) dz aQ (λ W q=>dq.Oy q (λ b d e=>bQ b d (aw.1 b e)) (λ e he b d h1=>bQ b d (aw.2.1 e he b h1))) dr dt (λ W q=>cB.jB q (λ b e H=>bQ b (cB.lt b e H) (aw.2.2 b e))) dA dB (by rw[aR,<-ad.o.aF];exact Y.o.2.2.2.2.1) (by rw[aR];omega) rfl;rw[v6] at cF;rw[v9] at cG;rw[cC] at cH;injection cF with a1 a2 a3
    injection cG with aZ gq dN
    injection cH with d1 d2 d3
    subst a1 a3 aZ dN d1 d3;exact⟨s',by rw[dG],dF,d2.symm,dI,dH,dJ,dK,by rw[dL,aR];exact dE,Y.o.2.2.2.2.2.2.1,l.jU,dM,λ W q=>⟨(cI W q).1,Y.o.2.2.2.2.2.2.2.OA f.o.2.2.2.2.2.2.1 ag.o.1 ag.o.2.1 (f8 W q),(cI W q).2⟩⟩)
   rename_i dO cJ;have dP:=U cJ;clear cJ;refine wp_region_noPanic ?_
   go_region_with (go_at_call 100;refine di.o.mono ?_;intro e kW cK;obtain⟨ax,bo,c1,aK,aL,ay,az,bp,aM,aO,Z,aA,au,rfl,l,cL⟩:=dj.o e kW cK;have cM:=U l;have dQ:=U cL;clear cK cL;have m0:=l.gq.cell 0;have m1:=l.gq.cell 1;have m2:=l.gq.cell 2;have m3:=l.gq.cell 3;have dR:=l.aZ.cell 0;have dS:=l.aZ.cell 1;have dT:=l.aZ.cell 2;have dU:=l.aZ.cell 3;have dV:=l.aZ.cell 4;have dW:=l.aZ.cell 5;have n6:=l.aZ.cell 6;have n7:=l.aZ.cell 7;have aT:=l.gq.free;have ew:=aT 0;have ey:=aT 1;have ez:=aT 2;have eA:=aT 3;have aa:=l.aZ.free;have eB:=aa 0;have eC:=aa 1;have eD:=aa 2;have eE:=aa 3;have eF:=aa 4;have eG:=aa 5;have eH:=aa 6;have eI:=aa 7;simp only[vj,y_,x_] at m0 m1 m2 m3 dR dS dT dU dV dW n6 n7;clear aT aa l)
   all_goals
    show dO _ _;apply dP.o
    go_wp2_with fail
   all_goals
    have T:=zB.ok cM.o.aZ cM.o.gq (by omega) (.int .i64 n) (.slice bw z aS) (.slice ax bo c1) (.slice aK (n+1) aL) (.slice ay n az) (.int .i64 bp) (.slice aM (n+1) aO) (.slice Z aA au) (.int .i64 kind) (.slice L N Q) (.slice R V X) (.int .i64 (r:Int));have bR:=U T;clear T;refine OB rfl rfl rfl rfl bR.o.1 bR.o.2.1 (AP.of f.o.2.2.1 dQ.o bR.o.2.2)
end
section
open Go.RowKit Go.Shelf Go.Sort Go.Lib
def mq(ah:List Int):Prop:=∀x∈ah,-9223372036854775808<=x/\x<=9223372036854775807
def vk(x:Int):Int:=if x= -9223372036854775808 then-9223372036854775808 else (x.natAbs:Int)
theorem Ip(x:Int)(w:World)(h: -9223372036854775808<=x/\x<=9223372036854775807):
  Calls w_ 83 #[.int .i64 x] w λ e w'=>e=.returned (.int .i64 (vk x))/\w=w':=by
 by_cases b:x= -9223372036854775808
 ·subst b;go_enter Tryz.func83,Tryz.ntmps83
  go_wp2;go_ret;refine⟨?_,rfl⟩;show l_ (Value.int t_ (max (-9223372036854775808) (wrap64 9223372036854775808)))=_;rw[show max (-9223372036854775808) (wrap64 9223372036854775808)= -9223372036854775808 by unfold wrap64;omega];rfl
 ·have e:vk x=(x.natAbs:Int):=if_neg b;rw[e];have f:t_.wrap (-x)= -x:=by rw[v_];omega
  have g:wrap64 (-x)= -x:=by unfold wrap64;omega
  rcases Int.lt_or_le x 0 with d|d
  ·have h1:x< -x:=by omega
   have c:((x.natAbs:Nat):Int)= -x:=by omega
   rw[c];clear h b e;go_enter Tryz.func83,Tryz.ntmps83
   go_wp2;go_ret;refine⟨?_,rfl⟩;show l_ (Value.int t_ (max x (-x)))=_;rw[show max x (-x)= -x by omega]
  ·have h1:¬x< -x:=by omega
   have c:((x.natAbs:Nat):Int)=x:=by omega
   rw[c];clear h b e;go_enter Tryz.func83,Tryz.ntmps83
   go_wp2;go_ret;refine⟨?_,rfl⟩;show l_ (Value.int t_ (max x (-x)))=_;rw[show max x (-x)=x by omega]
theorem OH(b:i<ls.length):ls.flatten=(ls.take i).flatten++(om ls i++(ls.drop (i+1)).flatten):=by
 rw[ud b];have h:ls=ls.take i++(ls[i]::ls.drop (i+1)):=by rw[<-List.drop_eq_getElem_cons b,List.take_append_drop]
 conv=>lhs;rw[h]
 rw[List.flatten_append,List.flatten_cons]
theorem OI(b:i<ls.length):(ls.take (i+1)).flatten.length=(ls.take i).flatten.length+(om ls i).length:=by
 rw[ud b,p_ b,List.flatten_append,n_];simp
theorem OJ{j:Nat}(c:i<ls.length)(b:j<(om ls i).length):(ls.take i).flatten.length+j<ls.flatten.length/\jP ls.flatten ((ls.take i).flatten.length+j)=jP (om ls i) j:=by
 have h:=OH c;have h1:(ls.take i).flatten.length+j<ls.flatten.length:=by
  rw[h,n_,n_];omega
 refine⟨h1,?_⟩;rw[ql h1,ql b];simp only[h];rw[List.getElem_append_right (by omega)];simp only[Nat.add_sub_cancel_left];rw[List.getElem_append_left b]
theorem OK{n:Int}{m:Nat}(h:∀k,k<m->sN n ah k=false)(b:sN n ah m=false):∀k,k<m+1->sN n ah k=false:=λ k hk=>by
 rcases Nat.lt_or_ge k m with h1|h1
 ·exact h k h1
 ·obtain rfl:k=m:=by omega
  exact b
theorem Iq(n:Nat)(aC:n<=65536)(A:Option Addr)(nl cl:Nat)(ls:List (List Int))(w:World)(h:kE w A nl cl ls)(hw:mq ls.flatten)(hlen:ls.flatten.length<=1000000):
  Calls w_ 139 #[.int .i64 n,.slice A nl cl] w λ e w'=>e=.returned (.bool (sM n ls.flatten))/\Below w.heap.size w w':=by
 have aE:=h.small;have H:=U h;have al:=U hw;have S:=U (z_ h.len hlen);have an:= @run_makeMap w_;have ao:=U (mb.made w);have aq:=U (bC w (.map #[] 0));clear h hw hlen;go_enter Tryz.func139,Tryz.ntmps139
 go_wp2_with fail
 clear an
 go_loopw [14] (λ i W=>∃k:Nat,i=.int .i64 k/\k<=nl/\mb W w.heap.size (ls.take k).flatten.length ((ls.flatten.take (ls.take k).flatten.length).map λ x=>(aD x:Int))/\(∀q,q<(ls.take k).flatten.length->sN n ls.flatten q=false)/\Below w.heap.size w W) (λ i _=>nl-(intOf i).toNat)
 case atStart=>exact⟨0,rfl,r_ _,ao.o,λ q T=>by simp at T,aq.o⟩
 case round=>
  obtain⟨k,rfl,hk,C,D,E⟩:=hrel;have M:=U C;have V:=U D;have X:=U E;clear C D E
  by_cases Y:k<nl
  ·have ar:(k:Int)<(nl:Int):=by omega
   obtain⟨b,off,rfl,aa,ab⟩:=H.o.cells (by omega);obtain⟨a1,z,c1,ad,G⟩:=ab k Y;have aF:=(X.o.cell (p:=⟨b,off+k,none⟩) aa).trans ad;have ae:k<ls.length:=by rw[S.o.1];exact Y
   have au:=U G;have aG:=G.small;have af:=G.len;have aH:t_.wrap ((k:Int)+1)=(k:Int)+1:=by rw[v_];omega
   obtain⟨P,Z⟩:∃P,(ls.take k).flatten.length=P:=⟨_,rfl⟩
   have m:=U (z_ ae (z_ Y (z_ af Z)));rw[Z] at M V;have aI:=U M.o.lt;clear ab aa G ae af ad Z
   go_wp2_with fail
   go_loopw [20] (λ i W=>∃j:Nat,i=.int .i64 j/\j<=z/\mb W w.heap.size (P+j) ((ls.flatten.take (P+j)).map λ x=>(aD x:Int))/\(∀q,q<P+j->sN n ls.flatten q=false)/\Below w.heap.size w W) (λ i _=>z-(intOf i).toNat)
   case atStart=>exact⟨0,rfl,r_ _,M.o,V.o,X.o⟩
   case round=>
    obtain⟨j,rfl,I,C,D,E⟩:=hrel;have M2:=U C;have ag:=U D;have r:=U E;clear C D E
    by_cases s:j<z
    ·have av:(j:Int)<(z:Int):=by omega
     have aJ:t_.wrap ((j:Int)+1)=(j:Int)+1:=by rw[v_];omega
     obtain⟨aw,ax,rfl,J,K⟩:=au.o.cells (by omega);have ay:=(r.o.cell (p:=⟨aw,ax+j,none⟩) J).trans (K j s);obtain⟨x,F⟩:∃x,jP (om ls k) j=x:=⟨_,rfl⟩
     rw[F] at ay;have c:=OJ m.o.1 (show j<(om ls k).length by rw[m.o.2.2.1];exact s);rw[F,m.o.2.2.2] at c;have L: -9223372036854775808<=x/\x<=9223372036854775807:=by rw[<-c.2];exact al.o _ (ue c.1)
     have t:bF (∀W:World,Calls w_ 83 #[.int .i64 x] W λ e w'=>e=.returned (.int .i64 (vk x))/\W=w'):=U λ W=>Ip x W L
     have d:sN n ls.flatten (P+j)=(!(vI n x)||hasB ((ls.flatten.take (P+j)).map λ x=>(aD x:Int)) (aD x:Int)):=by unfold sN;rw[c.2]
     cases f:vI n x with
     |false=>
      have l:vk x<1\/¬vk x<1/\(n:Int)<vk x:=by
       unfold vI at f;rw[Bool.and_eq_false_iff,decide_eq_false_iff_not,decide_eq_false_iff_not] at f;unfold vk;split<;>omega
      have B:=U (show sN n ls.flatten (P+j)=true by rw[d,f];rfl);have N:=U c;obtain⟨v,u⟩:∃v,vk x=v:=⟨_,rfl⟩
      rw[u] at l t;clear K J F c L d f u s I;rcases l with l|⟨l,az⟩
      ·go_wp2_with (go_at_call 83;refine(t.o _).mono ?_;rintro e w' ⟨rfl,rfl⟩)
       go_ret;exact⟨nC (Ep N.o.1 B.o).symm,r.o⟩
      ·go_wp2_with (go_at_call 83;refine(t.o _).mono ?_;rintro e w' ⟨rfl,rfl⟩)
       go_ret;exact⟨nC (Ep N.o.1 B.o).symm,r.o⟩
     |true=>
      have l:vk x=(aD x:Int)/\1<=aD x/\aD x<=n:=by
       unfold vI at f;rw[Bool.and_eq_true,decide_eq_true_eq,decide_eq_true_eq] at f;unfold vk aD;split<;>omega
      rw[l.1] at t;rw[f] at d;obtain⟨v,u⟩:∃v,aD x=v:=⟨_,rfl⟩
      rw[u] at l t d;have aK:¬(v:Int)<1:=by omega
      have az:¬(n:Int)<(v:Int):=by omega
      have O:(Lit.int .i64 (v:Int)).wf=true:=DX _ (by omega) (by omega);have ah:=M2.o.look O
      cases Q:hasB ((ls.flatten.take (P+j)).map λ x=>(aD x:Int)) (v:Int) with
      |true=>
       rw[Q] at ah d;have B:=U (show sN n ls.flatten (P+j)=true by rw[d];rfl);have N:=U c;clear K J F c L d f u s I O l Q
       go_wp2_with (go_at_call 83;refine(t.o _).mono ?_;rintro e w' ⟨rfl,rfl⟩)
       go_ret;exact⟨nC (Ep N.o.1 B.o).symm,r.o⟩
      |false=>
       rw[Q] at ah d;have B:=U (show sN n ls.flatten (P+j)=false by rw[d];rfl);have aA:=S.o.2;have aB:=c.1;obtain⟨aL,aM,ai,aj⟩:=M2.o.put (by unfold maxLen;omega) O;have y:=U (z_ c (z_ u (z_ ai (z_ aj s))));clear K J F c L d f u s I O l Q ai aj aA aB
       go_wp2_with (go_at_call 83;refine(t.o _).mono ?_;rintro e w' ⟨rfl,rfl⟩)
       go_roundw
       case rel=>
        refine⟨j+1,by go_num,by have:=y.o.2.2.2.2;omega,?_,OK ag.o B.o,tn r.o y.o.2.2.2.1 r.o.size (λ g e=>by injection e with e;omega)⟩;have h1:=y.o.2.2.1;have R:(ls.flatten.take (P+(j+1))).map (λ x=>(aD x:Int))=(ls.flatten.take (P+j)).map (λ x=>(aD x:Int))++[(v:Int)]:=by
         rw[show P+(j+1)=(P+j)+1 by omega,vn _ _ y.o.1.1,y.o.1.2,m_,<-y.o.2.1];rfl
        rw[R];exact h1
       case measure=>have:=y.o.2.2.2.2;simp[intOf];omega
    ·have av:¬(j:Int)<(z:Int):=by omega
     obtain rfl:j=z:=by omega
     have R:(ls.take (k+1)).flatten.length=P+j:=by rw[OI m.o.1,m.o.2.2.1,m.o.2.2.2]
     have ak:=U R;clear R s I;go_wp2;go_roundw
     case rel=>exact⟨k+1,by go_num,by have:=m.o.2.1;omega,by rw[ak.o];exact M2.o,by rw[ak.o];exact ag.o,r.o⟩
     case measure=>have:=m.o.2.1;simp[intOf];omega
  ·have ar:¬(k:Int)<(nl:Int):=by omega
   have aN:k=nl:=by omega
   go_wp2;go_ret;refine⟨nC (N7 λ q T=>V.o q ?_).symm,X.o⟩;rw[k_ (by rw[S.o.1];omega)];exact T
end
section
open Go.RowKit Go.WideShapes Go.ChangeShapes
section
variable {H:Type}{enc:TypeId×Value->H}{P:Program}
theorem Eu{f:Func}{s:ChangeSpec}{apart fresh handsOn again:Bool}{W W':World}{args:Array Value}{v:Value}{ds gs:List (DataW H)}{before pa pv:List MemPlace}
  (d:DataW.Whole enc P f.params.toList s.vars apart W args.toList ds gs before)
  (e:∀(b:Nat)(sp:Nat->Bool)(n:Bool),DataW.TrodAll enc P W' b sp n f.resultTypes.toList (v.resultList f.resultTypes.size) (s.fn H (ds++gs)).results [])
  (g:∀sp:Nat->Bool,(∀p∈before,sp p.block=true)->DataW.TrodAll enc P W' 0 sp true f.params.toList args.toList (s.fn H (ds++gs)).args pa)
  (i:∀sp:Nat->Bool,(∀p∈before,sp p.block=true)->DataW.TrodVars enc P W' sp s.vars (s.fn H (ds++gs)).vars pv)
  (c:before=pa++pv) (k:Below W.heap.size W W')
  (o:∀(j:Nat)(t:TypeId)(r:Value),f.resultTypes[j]? =some t->(v.resultList f.resultTypes.size)[j]? =some r->Value.okWide P W' .any 0 t r):
  s.post enc P f apart fresh handsOn again W args v W':=by
 have l:∀p∈before,p.block<W.heap.size:=λ p hp=>d.lt p hp
 have hold:∀p∈before,(λ b=>decide (b<W.heap.size)) p.block=true:=λ p hp=>by simpa using l p hp
 refine⟨ds,gs,before,[],pa,pv,d,e _ _ _,g _ hold,i _ hold,World.keptBut_mono (λ p hp=>⟨hp,?_⟩) (k.frame (·∈before)),λ _=>?_⟩
 ·rw[c,List.mem_append] at hp;exact Or.inr hp
 ·obtain⟨_,_,_,_,_,q,u⟩:=d;refine⟨o,_,_,([]++pa)++pv,⟨[]++pa,pv,trodAll_append (g _ (λ _ _=>rfl)) (e _ _ _),i _ (λ _ _=>rfl),rfl,?_,?_⟩,?_⟩
  ·intro b off hp;have m:MemPlace.cell b off∈before:=by rw[c];simpa using hp
   rw[k.frozen (l _ m)];exact q b off m
  ·intro w;have:=u w;rw[c] at this;simpa using this
  ·intro p hp _;rw[c];simpa using hp
end
end
end Go.Proofs.YtogdlkfacflmaaaGreat
