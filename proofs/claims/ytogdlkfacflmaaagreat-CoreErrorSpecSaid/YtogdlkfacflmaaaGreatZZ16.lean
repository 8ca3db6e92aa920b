/- Parts of the walk of the solver and its core; no condition. -/
import Derived.Test.YtogdlkfacflmaaaGreatZZ15
import Derived.Test.YtogdlkfacflmaaaGreatZZ14
import Derived.Below
import Derived.ChangeSame
import Derived.ProofKit
import Derived.Test.YtogdlkfacflmaaaGreatZZ1
namespace Go.Proofs.YtogdlkfacflmaaaGreat
set_option linter.unusedVariables false
set_option linter.unusedSimpArgs false
set_option maxRecDepth 100000
set_option maxHeartbeats 8000000
open _root_.And renaming intro→z_
open _root_.List renaming getElem?_cons_zero→y_,getElem?_cons_succ→x_,take_succ_eq_append_getElem→p_,length_map→o_,length_append→n_,map_append→m_,take_of_length_le→k_,mem_of_getElem?→i_
open _root_.Go.Proofs.Tryz renaming prog→w_,ntmps83→f_
open _root_.Go.IntKind renaming wrap_i64→v_,i64→t_
open _root_.Nat renaming lt_of_lt_of_le→u_,zero_le→r_,le_trans→g_
open _root_.Bool renaming noConfusion→s_
open _root_.Go.RowKit.Below renaming refl→q_
open _root_.Go.Ending renaming returned→l_
open _root_.Array renaming getElem?_mapIdx→j_
open _root_.Go.World renaming cell?_of_block→h_
variable{w W:World}{A bp iV A' gY bu:Option Addr}{n c z aQ bI aR cl c' gJ bE i:Nat}{ai ah:List Int}{es:List nx}{a0 a1 a2 a3 a4 a5 uN uO:Value}{s:k7}{e:mM}{aZ:Nat->Prop}{ls:List (List Int)}
section
open Go.RowKit Go.Shelf
def As:List Value:=[.int .i64 0,.slice none 0 0,.slice none 0 0,.int .i64 0]
def sI(W:World)(z:Nat):Prop:=∃t cs,aT W z t cs/\∀u∈cs,u=.int .i64 0\/u=.slice none 0 0
theorem sI.int{W:World}{z off:Nat}{x:Int}(h:sI W z)(a:W.cell? ⟨z,off,none⟩=some (.int .i64 x)):x=0:=by
 obtain⟨t,cs,b,c⟩:=h;rw[b.cell off] at a;rcases c _ (i_ a) with e|e
 ·injection e
 ·cases e
theorem sI.bool{W:World}{z off:Nat}{x:Bool}(h:sI W z)(a:W.cell? ⟨z,off,none⟩=some (.bool x)):False:=by
 obtain⟨t,cs,b,c⟩:=h;rw[b.cell off] at a;rcases c _ (i_ a) with e|e<;>cases e
theorem aL.lt(h:aL w A n c ai):∀b,A.map (·.block)=some b->0<n->b<w.heap.size:=λ b e a=>by
 obtain⟨f,off,d,h1,_⟩:=h.cells a;rw[d] at e;injection e with e
 exact e▸h1
theorem oz.lt(h:oz w A n c es):∀b,A.map (·.block)=some b->0<n->b<w.heap.size:=λ b e a=>by
 obtain⟨f,off,d,h1,_⟩:=h.cells a;rw[d] at e;injection e with e
 exact e▸h1
theorem aL.x6(h:aL W A n c ai)(d:∀x∈ai,x≠0)(f:sI W z):∀b,A.map (·.block)=some b->0<n->b≠z:=by
 intro b e a g;obtain⟨i,off,j,h1,k⟩:=h.cells a;rw[j] at e;injection e with e
 have e:i=b:=e;subst e g;exact d _ (tN (by rw[h.len];exact a)) (f.int (k 0 a))
theorem kE.x6{ai:List Bool}(h:kE W A n c ai)(d:sI W z)(a:0<n):∀b,A.map (·.block)=some b->b≠z:=by
 intro b e f;obtain⟨g,off,i,h1,j⟩:=h.cells a;rw[i] at e;injection e with e
 have e:g=b:=e;subst e f;exact d.bool (j 0 a)
variable {K:Nat->Prop}{W W':World}{jG z2:Nat}
def sY(K:Nat->Prop)(jG z2 b:Nat):Prop:=K b/\b≠jG/\b≠z2
theorem o5.off{S:aq}(h:o5 K W S)(hl:∀p∈S.aF,p.lH=1\/p.lH=2\/p.lH=3)(h1:sI W jG)(i:sI W z2)(f:aG (sY K jG z2) W W'):o5 K W' S:=by
 intro c k;obtain⟨a1,a2,a3⟩:=h c k;refine⟨a1,a2,a3.imp id ?_⟩;rintro⟨b,off,e,hk,d⟩;refine⟨b,off,e,hk,λ j u a=>?_⟩;obtain⟨p,rest,hp⟩:∃p rest,S.aF=p::rest:=by
  cases l:S.aF with
  |nil=>rw[l] at a;simp[mj] at a
  |cons p rest=>exact⟨p,rest,rfl⟩
 have m:=d 0 (.int .i64 p.lH) (by rw[hp];rfl);have s:=hl p (by rw[hp];simp);have g:∀z,sI W z->b≠z:=λ z o q=>by
  subst q;have:=o.int m;omega
 have r:0<c.n:=by rw[a1,hp];simp
 rw[f.cell (p:=⟨b,off+j,none⟩) ⟨hk r,g jG h1,g z2 i⟩];exact d j u a
theorem sF.N9{w w':World}{A:Option Addr}{n c:Nat}{es:List mM}(h:sF w A n c es)(f:aG K w w')(j:∀b,b<w.heap.size->A.map (·.block)=some b->K b)(he:∀e∈es,∀b,b<w.heap.size->e.r.A.map (·.block)=some b->K b):sF w' A n c es:=
 ⟨h.len,h.cap,h.mu,h.nT,λ a=>by
  obtain⟨b,off,e,g,l⟩:=h.cells a;refine⟨b,off,e,u_ g f.size,λ k hk=>?_⟩;rw[f.cell (p:=⟨b,off+k,none⟩) (j b g (by rw[e];rfl))];exact l k hk,λ e d=>(h.rows e d).jr f (λ b i a=>he e d b ((h.rows e d).lt b i a) i)⟩
theorem qq.Oa{n:Nat}{p:nw}(h:qq K W n p)(h1:sI W jG)(g:sI W z2):qq (λ b=>b<W.heap.size/\sY K jG z2 b) W n p:=by
 obtain⟨i,a,d⟩:=h.rd;exact⟨h.lH,⟨i,a,d⟩,λ b e c=>⟨a.lt b e c,h.blk b e c,a.x6 (λ x f=>(d x f).oC) h1 b e c,a.x6 (λ x f=>(d x f).oC) g b e c⟩⟩
theorem nY.Ob{F:List (List Int)}{ah:List Int}{n bC aB:Nat}{kind:Int}{aU:Option Addr}{bq aP:Nat}{bw:Option Addr}{bn aV:Nat}(a:nY K W F ah n bC aB kind aU bq aP bw bn aV)(hl:∀x∈ah,gK n x)(j:sI W jG)(k:sI W z2)(f:aG (λ b=>b<W.heap.size/\sY K jG z2 b) W W'):nY (λ _=>True) W' F ah n bC aB kind aU bq aP bw bn aV:=by
 rcases a with⟨h1,g,m,c,h,d⟩|⟨h1,g,co,c,h,d⟩|h1
 ·have hp:0<bq:=by have:=c.len;omega
  refine .inl ⟨h1,g,m,c.jr f (λ b e=>⟨?_,h b e,c.x6 j hp b e,c.x6 k hp b e⟩),λ _ _=>trivial,d⟩;obtain⟨r,off,o,p,_⟩:=c.cells hp;rw[o] at e;injection e with e
  exact e▸p
 ·have l:∀x∈co,x≠0:=λ x q=>(hl x (d.1.subset q)).oC
  exact .inr (.inl ⟨h1,g,co,c.jr f (λ b e i=>⟨c.lt b e i,h b e,c.x6 l j b e i,c.x6 l k b e i⟩),λ _ _=>trivial,d⟩)
 ·exact .inr (.inr h1)
noncomputable def x7(w:World)(D:Nat->Prop):World:={w with heap:=w.heap.mapIdx λ i o=>open Classical in if D i then .map #[] 0 else o}
theorem Ea(w:World)(D:Nat->Prop):aG (λ b=>b<w.heap.size/\¬D b) w (x7 w D):=
 ⟨rfl,rfl,rfl,by simp[x7],λ b a=>by
  show(w.heap.mapIdx _)[b]? =_;rw[j_];rw[Array.getElem?_eq_getElem a.1];simp[a.2]⟩
theorem Eb{w:World}{D:Nat->Prop}{b:Nat}(a:D b)(off:Nat):(x7 w D).cell? ⟨b,off,none⟩=none:=by
 unfold World.cell?;have:(x7 w D).heap[b]? =(w.heap[b]?).map λ _=>.map #[] 0:=by
  show(w.heap.mapIdx _)[b]? =_;rw[j_];simp[a]
 show(match (x7 w D).heap[b]? with|some (.cells c _ _)=>_|_=>none)=none;rw[this]
 cases w.heap[b]? <;>rfl
theorem aL.zb{w:World}{D:Nat->Prop}{A:Option Addr}{n c:Nat}{ai:List Int}(h:aL (x7 w D) A n c ai):∀b,A.map (·.block)=some b->0<n->¬D b:=λ b e a d=>by
 obtain⟨f,off,g,_,i⟩:=h.cells a;rw[g] at e;injection e with e
 have e:f=b:=e;subst e;have:=i 0 a;rw[Eb d] at this
 cases this
theorem oz.zb{w:World}{D:Nat->Prop}{A:Option Addr}{n c:Nat}{es:List nx}(h:oz (x7 w D) A n c es):∀b,A.map (·.block)=some b->0<n->¬D b:=λ b e a d=>by
 obtain⟨f,off,g,_,i⟩:=h.cells a;rw[g] at e;injection e with e
 have e:f=b:=e;subst e;have:=i 0 (by omega);rw[Eb d] at this;have hl:=h.len
 cases es with
 |nil=>simp at hl;omega
 |cons p rest=>simp[mR,rK] at this
def uW(w:World)(D:Nat->Prop)(s:k7)(a:Option Addr)(d:Nat)(e:Option Addr)(cl:Nat)(A:Option Addr)(c:Nat)(A':Option Addr)(c':Nat)(f:Option Addr)(g:Nat)(h:Option Addr)(i:Nat):Prop:=
 ∀W,aG (λ b=>b<w.heap.size/\¬D b) w W->ri W s a d e cl A c A' c' f g h i
theorem aY.four{base bg:Nat}{G:Nat}{hs:Nat->ax}{cb:Nat->Nat}{s:aq}(h:aY K base W G hs cb s)(hk:K bg)(v0 v1 v2 v3:Value):aY K base ((((W.setCell ⟨bg,0,none⟩ v0).setCell ⟨bg,1,none⟩ v1).setCell ⟨bg,2,none⟩ v2).setCell ⟨bg,3,none⟩ v3) G hs cb s:=
 (((h.uR hk 0 v0).uR hk 1 v1).uR hk 2 v2).uR hk 3 v3
theorem aG.four{bg:Nat}(v0 v1 v2 v3:Value)(a:¬K bg):aG K W ((((W.setCell ⟨bg,0,none⟩ v0).setCell ⟨bg,1,none⟩ v1).setCell ⟨bg,2,none⟩ v2).setCell ⟨bg,3,none⟩ v3):=
 (((aG.set bg 0 v0 a).trans (aG.set bg 1 v1 a)).trans (aG.set bg 2 v2 a)).trans (aG.set bg 3 v3 a)
end
section
open Go.RowKit Go.Shelf
theorem Oc{aN:Ending->World->Prop}{a:Act}{v0 v1 v2 v3 v4 v5 v6 j8 jC gF iz bl:Value}(t:a.defers=[])(d:a.tmps.getD 6 undef=.pointer (some ⟨aQ,0,none⟩))(e:a.tmps.getD 7 undef=.pointer (some ⟨bI,0,none⟩))(f:a.tmps.getD 8 undef=.int .i64 0)
  (b:aT W aQ 47 [v0,v1,v2,v3,v4,v5,v6,j8]) (c:aT W bI 30 [jC,gF,iz,bl]) (h:aN (.returned (.tuple #[.agg #[v0,v1,v2,v3,v4,v5,v6,j8],.agg #[jC,gF,iz,bl],.int .i64 0])) W):bodyPost w_ Tryz.f36 aN .ret a W:=by
 have g:=b.cell 0;have i:=b.cell 1;have j:=b.cell 2;have k:=b.cell 3;have l:=b.cell 4;have m:=b.cell 5;have n:=b.cell 6;have o:=b.cell 7;have p:=c.cell 0;have q:=c.cell 1;have r:=c.cell 2;have s:=c.cell 3;simp only[y_,x_] at g i j k l m n o p q r s;refine bodyPost_ret (v:=.tuple #[.agg #[v0,v1,v2,v3,v4,v5,v6,j8],.agg #[jC,gF,iz,bl],.int .i64 0]) ?_ t h;rw[Array.getD_eq_getD_getElem?] at d e f;simp[results,Tryz.results36,go_sem,d,e,f,g,i,j,k,l,m,n,o,p,q,r,s]
theorem aT.Ch{b:Nat}{t:TypeId}(h:aT w b t [a0,a1,a2,a3,a4,a5,uN,uO])(v0 v1 v2 v3 v4 v5 v6 a:Value):aT ((((((((w.setCell ⟨b,0,none⟩ v0).setCell ⟨b,1,none⟩ v1).setCell ⟨b,2,none⟩ v2).setCell ⟨b,3,none⟩ v3).setCell ⟨b,4,none⟩ v4).setCell ⟨b,5,none⟩ v5).setCell ⟨b,6,none⟩ v6).setCell ⟨b,7,none⟩ a) b t [v0,v1,v2,v3,v4,v5,v6,a]:=
 (((((((h.set 0 v0).set 1 v1).set 2 v2).set 3 v3).set 4 v4).set 5 v5).set 6 v6).set 7 a
def zc(w:World)(a b:Nat)(v0 v1 v2 v3 v4 v5 v6 c d e f g:Value):World:=
 (((((((((((((w.setCell ⟨a,0,none⟩ v0).setCell ⟨a,1,none⟩ v1).setCell ⟨a,2,none⟩ v2).setCell ⟨a,3,none⟩ v3).setCell ⟨a,4,none⟩ v4).setCell ⟨a,5,none⟩ v5).setCell ⟨a,6,none⟩ v6).setCell ⟨a,7,none⟩ c).setCell ⟨b,0,none⟩ d).setCell ⟨b,1,none⟩ e).setCell ⟨b,2,none⟩ f).setCell ⟨b,3,none⟩ g))
theorem zc.ok{bf c1 c2 c3:Value}(h1:aT w aQ 47 [a0,a1,a2,a3,a4,a5,uN,uO])(n:aT w bI 30 [bf,c1,c2,c3])(m:aQ≠bI)(v0 v1 v2 v3 v4 v5 v6 c d f g j:Value):
  aT (zc w aQ bI v0 v1 v2 v3 v4 v5 v6 c d f g j) aQ 47 [v0,v1,v2,v3,v4,v5,v6,c]/\aT (zc w aQ bI v0 v1 v2 v3 v4 v5 v6 c d f g j) bI 30 [d,f,g,j]/\aG (λ b=>b≠aQ/\b≠bI) w (zc w aQ bI v0 v1 v2 v3 v4 v5 v6 c d f g j):=by
 have a:∀(u:World)(i:Nat)(v:Value),aG (λ b=>b≠aQ) u (u.setCell ⟨aQ,i,none⟩ v):=λ u i v=>aG.set _ i v (λ h=>h rfl)
 have k:∀(u:World)(i:Nat)(v:Value),aG (λ b=>b≠bI) u (u.setCell ⟨bI,i,none⟩ v):=λ u i v=>aG.set _ i v (λ h=>h rfl)
 have f1:aG (λ b=>b≠aQ) w _:=((((((((a w 0 v0).trans (a _ 1 v1)).trans (a _ 2 v2)).trans (a _ 3 v3)).trans (a _ 4 v4)).trans (a _ 5 v5)).trans (a _ 6 v6)).trans (a _ 7 c))
 have g1:=aT.Ch h1 v0 v1 v2 v3 v4 v5 v6 c;unfold zc;generalize ((((((((w.setCell ⟨aQ,0,none⟩ v0).setCell ⟨aQ,1,none⟩ v1).setCell ⟨aQ,2,none⟩ v2).setCell ⟨aQ,3,none⟩ v3).setCell ⟨aQ,4,none⟩ v4).setCell ⟨aQ,5,none⟩ v5).setCell ⟨aQ,6,none⟩ v6).setCell ⟨aQ,7,none⟩ c)=w' at*;have f2:aG (λ b=>b≠bI) w' _:=(((k w' 0 d).trans (k _ 1 f)).trans (k _ 2 g)).trans (k _ 3 j);exact⟨f2.blk g1 m,((((f1.blk n (λ e=>m e.symm)).set 0 d).set 1 f).set 2 g).set 3 j,(f1.mono λ b l=>l.1).trans (f2.mono λ b l=>l.2)⟩
def HV(w:World)(n:Nat)(s:k7)(a:Option Addr)(e:Ending)(W:World):Prop:=
 ∃(base G:Nat)(hs:Nat->ax)(cb:Nat->Nat)(S:aq),e=.returned (.pointer (some ⟨G,0,none⟩))/\aY (λ b=>b<base) base W G hs cb S/\tf n s ⟨a,s.aF.length,s.aF.length⟩ s.gs.length s.es.length S/\Below w.heap.size w W/\w.heap.size<=base
theorem Od(O:pF n s)(cE:n<=10)(bL:ri w s bp aR iV cl A c A' c' gY gJ bu bE)
  (a6:∀w,Calls w_ 109 #[.slice bu s.aF.length bE] w λ e w'=>e=.returned (.slice bu s.aF.length s.aF.length)/\w'=w):
  Calls w_ 98 #[rL n bp s.gs.length aR iV s.es.length cl A (n+1) c A' n c' s.bt gY (n+1) gJ bu s.aF.length bE] w (HV w n s bu):=by
 unfold rL;obtain⟨K,a7⟩:∃x,s.gs.length=x:=⟨_,rfl⟩
 obtain⟨nl,ae⟩:∃x,s.es.length=x:=⟨_,rfl⟩
 obtain⟨a,ay⟩:∃x,s.aF.length=x:=⟨_,rfl⟩
 have u:=U (z_ bL (z_ O (z_ a7 (z_ ae ay))));rw[ay] at a6;rw[a7,ae,ay];have cF:=U a6;clear bL O a6 a7 ae ay;go_enter Tryz.func98,Tryz.ntmps98
 have az:=bz w (.cells #[.int .i64 n,.slice bp K aR,.slice iV nl cl,.slice A (n+1) c,.slice A' n c',.int .i64 s.bt,.slice gY (n+1) gJ,.slice bu a bE] 47);have Z:aT (w.alloc (.cells #[.int .i64 n,.slice bp K aR,.slice iV nl cl,.slice A (n+1) c,.slice A' n c',.int .i64 s.bt,.slice gY (n+1) gJ,.slice bu a bE] 47)) w.heap.size 47 [.int .i64 n,.slice bp K aR,.slice iV nl cl,.slice A (n+1) c,.slice A' n c',.int .i64 s.bt,.slice gY (n+1) gJ,.slice bu a bE]:=aT.new w 47 _;have bN:(w.alloc (.cells #[.int .i64 n,.slice bp K aR,.slice iV nl cl,.slice A (n+1) c,.slice A' n c',.int .i64 s.bt,.slice gY (n+1) gJ,.slice bu a bE] 47)).heap.size=w.heap.size+1:=by simp
 go_upto_region 1 with fail
 generalize w.alloc (.cells #[.int .i64 n,.slice bp K aR,.slice iV nl cl,.slice A (n+1) c,.slice A' n c',.int .i64 s.bt,.slice gY (n+1) gJ,.slice bu a bE] 47)=w1 at*;have a8:HO w1 w.heap.size n s.act s.bt s.hM A c gY gJ bu a bE (s.aF.map oe):=by
  refine⟨Z.cell 0,Z.cell 3,Z.cell 5,Z.cell 6,Z.cell 7,by omega,?_,?_,cF.o,by omega⟩
  ·have:=u.o.1.act.below az;rw[u.o.2.1.hk.lg] at this;exact this
  ·have:=u.o.1.hM.below az;rw[u.o.2.1.nG] at this;exact this
 have bO:=U (NZ w1 w.heap.size n s.act s.bt s.hM A c gY gJ bu a bE (s.aF.map oe) a8);have H1:=U (z_ az (z_ Z (z_ bN a8)));clear az Z bN a8;refine NP (rV Tryz.f98 1) 42 123 _ _ [(1,.pointer (some ⟨w.heap.size,0,none⟩))] _ (qH w1 w.heap.size n s.act s.bt s.hM A c gY gJ bu a bE (s.aF.map oe)) Ce (by kernel_rfl) (by kernel_rfl) (by kernel_rfl) (by kernel_rfl) (by kernel_rfl) (by decide+kernel) (by decide+kernel) (by decide+kernel) (by decide+kernel) (by decide+kernel) rfl ⟨rfl,trivial⟩ (qH.lt w1 w.heap.size n s.act s.bt s.hM A c gY gJ bu a bE (s.aF.map oe)) ((q_ _ _).drew) bO.o _ rfl ?_;intro vals bP bQ bR cG cH ao;obtain⟨hs,G,f41,bS,bT,bU⟩:∃hs b,vals 41=.pointer (some ⟨b,0,none⟩)/\aT bP b sQ (qW hs (qx n s.act s.bt s.hM (s.aF.map oe) ⟨bu,a,a⟩))/\w1.heap.size<=b/\mc w1.heap.size qL nE bP hs (cont hs r9 (qx n s.act s.bt s.hM (s.aF.map oe) ⟨bu,a,a⟩)):=bR 41 (by omega);simp only[ot,Act.put,List.take,f41] at ao;subst ao;have T:=U (z_ bQ (z_ bS (z_ bT bU)));clear bQ bR cG f41 bS bT bU bO;simp only[bD,execOp];simp[gL,go_sem,Act.eval,Act.put];have bV:=(H1.o.2.1.below T.o.1).cell 4;simp only[y_,x_] at bV
 go_wp2_with fail
 go_loopw [57] (λ i W=>∃(k:Nat)(hs:Nat->ax),i=.int .i64 k/\k<=n/\aY (λ b=>b<w1.heap.size) w1.heap.size W G hs r9 (qR n s.act s.bt s.hM (s.aF.map oe) ⟨bu,a,a⟩ s.ord k)/\aG (λ b=>b<w1.heap.size) w1 W) (λ i _=>n-(intOf i).toNat)
 case atStart=>
  refine⟨0,hs,rfl,r_ _,⟨⟨T.o.2.1,T.o.2.2.2,λ d B=>(by simp[qR,qx,nX] at B),λ d e B=>(by simp[qR,qx,nX] at B),T.o.2.2.1,λ d B=>(by simp[qR,qx,nX] at B)⟩,⟨λ b I=>u_ I T.o.1.size,λ h=>by have:=T.o.2.2.1;omega,λ r b e h=>by have:=(T.o.2.2.2.lt e).1;omega,λ d B=>(by simp[qR,qx,nX] at B)⟩⟩,aG.q4 T.o.1 (λ b I=>I)⟩
 case round=>
  obtain⟨k,y,rfl,hk,V,hF⟩:=hrel;have E:=U V;have F:=U hF;clear V hF
  by_cases J:k<n
  ·have cI:(k:Int)<(n:Int):=by omega
   have bW:=u.o.2.1.hk.ql;obtain⟨aA,a',rfl,ba,bX⟩:=u.o.1.ord.cells (by omega);have aB:=bX k (by omega);have bb:=u.o.2.1.hk.tX J;obtain⟨x,bc⟩:∃x:Nat,je s.ord k=x:=⟨(je s.ord k).toNat,by have h1:1<=je s.ord k:=bb.1;omega⟩
   have bY:1<=x/\x<=n:=by
    have h1:1<=je s.ord k/\je s.ord k<=n:=bb;omega
   rw[bc] at aB;have bZ:aA<w1.heap.size:=u_ ba H1.o.1.size;have c7:wr.cell? ⟨aA,a'+k,none⟩=some (.int .i64 (x:Int)):=(F.o.cell (p:=⟨aA,a'+k,none⟩) bZ).trans ((H1.o.1.cell (p:=⟨aA,a'+k,none⟩) ba).trans aB);have l:=U (z_ bc (z_ bY (z_ J bW)));clear bX aB bb bc bY J hk ba bZ bW
   go_upto_region 5 with fail
   obtain⟨aa,n7,aC,af⟩:∃A n c,y 7=⟨A,n,c⟩:=⟨_,_,_,rfl⟩
   have cJ:n7=k:=by
    have h1:=E.o.e.n7;rw[af] at h1;have bd:(s.ord.take k).length=k:=by rw[List.length_take];have:=l.o;omega
    exact h1.trans bd
   subst cJ;have b0:(y 8).n=n+1:=E.o.e.n8.trans (Ao n s.ord n7);obtain⟨g8,b1,b2⟩:=E.o.e.rows.addr (r:=8) (by omega);obtain⟨bf,bg⟩:∃c,y 8=⟨some ⟨g8,0,none⟩,n+1,c⟩:=⟨(y 8).c,by rw[<-b1,<-b0]⟩
   have bj:(y 7).b=aa.map (·.block):=by rw[af];rfl
   have b3:bJ (HS wr w1.heap.size G (qW y (qR n s.act s.bt s.hM (s.aF.map oe) ⟨bu,a,a⟩ s.ord n7)) aa n7 aC g8 (n+1) bf x (n7:Int) (s.ord.take n7)):=U (by
    refine⟨?_,?_,by have:=l.o;omega,by omega,by have:=l.o;omega,F.o.size,E.o.e.box.lt,λ g ar=>?_⟩
    ·show some (y 7).v=_;rw[af];rfl
    ·show some (y 8).v=_;rw[bg];rfl
    ·rw[<-bj] at ar;exact⟨(E.o.e.rows.lt ar).2,λ e=>E.o.e.uc 7 g ar e.symm⟩)
   have b4:=U (N3 wr w1.heap.size G (qW y (qR n s.act s.bt s.hM (s.aF.map oe) ⟨bu,a,a⟩ s.ord n7)) aa n7 aC g8 (n+1) bf x (n7:Int) (s.ord.take n7) b3.o);have b5:Cg w1.heap.size G (qW y (qR n s.act s.bt s.hM (s.aF.map oe) ⟨bu,a,a⟩ s.ord n7)) aa n7 aC (s.ord.take n7) wr:=by
    have h1:wr.ownsRow w1.heap.size 3 1 (y 7).v (y 7).n (jc (s.ord.take n7)):=E.o.e.rows.row 7;rw[af] at h1;exact⟨h1,E.o.e.box⟩
   have b6:Cf wr G (qW y (qR n s.act s.bt s.hM (s.aF.map oe) ⟨bu,a,a⟩ s.ord n7)) aa wr:=⟨aG.refl,_,by rw[HQ b3.o.l10];exact E.o.e.box⟩
   have ab:=U (z_ af (z_ bg (z_ b2 (z_ bj (z_ b5 b6)))));clear af bg b2 bj b5 b6 b1 b0;refine zY (rV Tryz.f98 5) 18 123 _ _ [(3,.pointer (some ⟨G,0,none⟩)),(5,.int .i64 (x:Int)),(4,.int .i64 (n7:Int))] _ (y9 wr w1.heap.size G (qW y (qR n s.act s.bt s.hM (s.aF.map oe) ⟨bu,a,a⟩ s.ord n7)) aa n7 aC g8 (n+1) bf x (n7:Int) (s.ord.take n7)) HR _ 12 (by kernel_rfl) (by kernel_rfl) (by kernel_rfl) (by kernel_rfl) (by kernel_rfl) (by decide+kernel) (by decide+kernel) (by decide+kernel) (by decide+kernel) (by decide+kernel) rfl ⟨rfl,rfl,rfl,trivial⟩ ⟨vV.drop ab.o.2.2.2.2.2.1 (q_ _ _).drew,ab.o.2.2.2.2.2.2.imp λ v h=>h.below (q_ _ _).drew⟩ ⟨mw ab.o.2.2.2.2.1.1 ((q_ _ _).drew),ab.o.2.2.2.2.1.2.below ((q_ _ _).drew)⟩ b4.o _ rfl ?_;intro b7 b8 b9 aD cH ao;obtain⟨h',b',n16,ca⟩:∃h:ax,b8.ownsRow w1.heap.size 3 1 h.v (n7+1) (jc (s.ord.take n7++[(x:Int)]))/\(h.b=aa.map (·.block)\/∀g,h.b=some g->wr.heap.size<=g)/\aT b8 G sQ ((qW y (qR n s.act s.bt s.hM (s.aF.map oe) ⟨bu,a,a⟩ s.ord n7)).set 10 h.v):=aD 16 (by omega) rfl;have f17:b7 17=.pointer (some ⟨g8,x,none⟩):=aD 17 (by omega) rfl;have f13:b7 13=.int .i64 (n7:Int):=aD 13 (by omega) rfl;have cc:(qR n s.act s.bt s.hM (s.aF.map oe) ⟨bu,a,a⟩ s.ord n7).ord.length=n7:=by
    show(s.ord.take n7).length=n7;rw[List.length_take];have:=l.o;omega
   have N:=E.o.N4 (h':=h') (x:=(x:Int)) (by rw[ab.o.2.2.2.1];exact b9.1) ca (by rw[cc];exact b') (by rw[ab.o.2.2.2.1];exact n16);have aE:(iT y 7 h' 8).b=some g8:=by rw[bk _ _ (by decide)];exact ab.o.2.2.1
   have cd:=N.1.e.wI aE (k:=x) (by show x<(uv n s.ord n7).length;rw[Ao];have:=l.o;omega);have cf:=N.1.e.rows.free aE x;have ag:=N.1.xJ aE x (n7:Int);have cg:aj s.ord n7=(x:Int):=l.o.1;have ad:((qR n s.act s.bt s.hM (s.aF.map oe) ⟨bu,a,a⟩ s.ord n7).vf (x:Int)).pM x (n7:Int)=qR n s.act s.bt s.hM (s.aF.map oe) ⟨bu,a,a⟩ s.ord (n7+1):=by
    have h1:=N5 n s.act s.bt s.hM (s.aF.map oe) ⟨bu,a,a⟩ s.ord n7 (by have:=l.o;omega);rw[cg,Int.toNat_natCast] at h1;exact h1
   rw[ad] at ag;have P:=U (z_ ag.1 ((F.o.trans N.2).trans ag.2));simp only[ot,Act.put,List.take,f17,f13] at ao;subst ao;clear b9 aD b' n16 ca f17 f13 N ag b4 ad cg cc aE;simp only[bD,execOp];simp[gL,go_sem,Act.eval,Act.put,cd,cf];clear cd cf
   go_wp2_with fail
   go_roundw
   case rel=>exact⟨n7+1,_,by go_num,by have:=l.o;omega,P.o.1,P.o.2⟩
   case measure=>have:=l.o;simp[intOf];omega
  ·obtain rfl:k=n:=by omega
   have cI:¬(k:Int)<(k:Int):=by omega
   have au:aT wr w.heap.size 47 [.int .i64 k,.slice bp K aR,.slice iV nl cl,.slice A (k+1) c,.slice A' k c',.int .i64 s.bt,.slice gY (k+1) gJ,.slice bu a bE]:=F.o.blk H1.o.2.1 (by have:=H1.o.2.2.1;omega);have ch:=au.cell 1;simp only[y_,x_] at ch;clear J hk au bV
   go_wp2_with fail
   go_loopw [83] (λ i W=>∃(j:Nat)(hs:Nat->ax)(cb:Nat->Nat)(S:aq),i=.int .i64 j/\j<=K/\aY (λ b=>b<w1.heap.size) w1.heap.size W G hs cb S/\aG (λ b=>b<w1.heap.size) w1 W/\tf k s ⟨bu,a,a⟩ j 0 S) (λ i _=>K-(intOf i).toNat)
   case atStart=>exact⟨0,y,r9,_,rfl,r_ _,E.o,F.o,tf.init u.o.2.1⟩
   case round=>
    clear E F;obtain⟨j,cK,cL,S,rfl,cj,V,hF,Q⟩:=hrel;have E:=U V;have F:=U hF;have m:=U Q;have av:bJ (Below w.heap.size w wr):=U (H1.o.1.trans ((show Below w1.heap.size w1 wr from⟨hF.os,hF.tape,hF.output,hF.size,λ b I=>hF.keep b I⟩).mono H1.o.1.size));clear V hF Q ch
    by_cases J:j<K
    ·have cM:(j:Int)<(K:Int):=by omega
     have aH:=u.o.2.2.1;obtain⟨b,off,rfl,I,aI⟩:=(u.o.1.gs.below av.o).cells (by omega);obtain⟨a1,bl,c1,aB,ck⟩:=aI j (by omega);have bn:j<s.gs.length:=by omega
     have ah:=u.o.2.1.bH _ (EL bn);have bo:=u.o.2.1.g1;have bq:=m.o.vT;have c8:t_.wrap ((j:Int)+1)=(j:Int)+1:=by rw[v_];omega
     have N:=(E.o.below (bz wr (.cells #[.slice a1 bl c1,.bool false,.int .i64 0,.int .i64 0] 166)))
     have hblk:aT (wr.alloc (.cells #[.slice a1 bl c1,.bool false,.int .i64 0,.int .i64 0] 166)) wr.heap.size vc [.slice a1 bl c1,.bool false,.int .i64 0,.int .i64 0]:=aT.new wr vc _;have br:=U (GY (N.1.DC m.o.cb wr.heap.size) m.o.mb.gR.aK m.o.mb.nH (by rw[m.o.mb.iX];omega) (by rw[m.o.mb.gR.wt.qI,m.o.mb.iX]) (λ q=>g_ (m.o.mb.gR.wt.nt q) (by omega)) (by rw[m.o.mb.st];simp) (x:=⟨false,0,0⟩) (jO _ _ _) hblk F.o.size (λ h=>by have:=F.o.size;omega) (λ d B=>by rw[bk _ _ (by omega)];have:=(E.o.e.cls d B).lt;omega) (aL.below ck (bz wr _)) (λ z bs=>by rw[m.o.mb.iX];exact ah z bs));have l:=U (z_ bn (z_ N.2 J));clear aI ck ah bo bq N hblk aH bn cj J I
     go_wp2_with (go_at_call 144;refine br.o.mono ?_;rintro e c9 ⟨rfl,X,cm,cn⟩;have ag:=U cm;have cN:=U cn;clear cm cn)
     go_roundw
     case rel=>exact⟨j+1,X,_,_,by go_num,by have:=l.o.2.2;omega,ag.o,F.o.trans (l.o.2.1.trans cN.o),m.o.given u.o.2.1 (by omega) l.o.1⟩
     case measure=>have:=l.o.2.2;simp[intOf];omega
    ·obtain rfl:j=K:=by omega
     have cM:¬(j:Int)<(j:Int):=by omega
     have au:aT wr w.heap.size 47 [.int .i64 k,.slice bp j aR,.slice iV nl cl,.slice A (k+1) c,.slice A' k c',.int .i64 s.bt,.slice gY (k+1) gJ,.slice bu a bE]:=F.o.blk H1.o.2.1 (by have:=H1.o.2.2.1;omega);have cp:=au.cell 2;simp only[y_,x_] at cp;clear J cj au
     go_wp2_with fail
     go_loopw [96] (λ i W=>∃(q:Nat)(hs:Nat->ax)(cb:Nat->Nat)(S:aq),i=.int .i64 q/\q<=nl/\aY (λ b=>b<w1.heap.size) w1.heap.size W G hs cb S/\aG (λ b=>b<w1.heap.size) w1 W/\tf k s ⟨bu,a,a⟩ j q S) (λ i _=>nl-(intOf i).toNat)
     case atStart=>exact⟨0,cK,cL,S,rfl,r_ _,E.o,F.o,m.o⟩
     case round=>
      clear E F m av;obtain⟨q,X,R,t,rfl,cq,V,hF,Q⟩:=hrel;have E:=U V;have F:=U hF;have m:=U Q;have av:bJ (Below w.heap.size w wr):=U (H1.o.1.trans ((show Below w1.heap.size w1 wr from⟨hF.os,hF.tape,hF.output,hF.size,λ b I=>hF.keep b I⟩).mono H1.o.1.size));clear V hF Q cp
      by_cases J:q<nl
      ·have cO:(q:Int)<(nl:Int):=by omega
       have ae:=u.o.2.2.2.1;have aH:=u.o.2.2.1;have cr:=u.o.2.1.nt;have da:=y5 cE;have db:t_.wrap ((q:Int)+1)=(q:Int)+1:=by rw[v_];omega
       have aJ:=u.o.1.es.below av.o;rw[ae] at aJ;have aN:q<s.es.length:=by omega
       obtain⟨b,off,rfl,I,aI⟩:=aJ.cells (by omega);obtain⟨aO,aP,aQ,bw⟩:=aJ.HG J aN;obtain⟨⟨⟨C,D,H,bx⟩,bh,ac⟩,ad⟩:∃e,s.es[q]=e:=⟨_,rfl⟩
       rw[ad] at aO aP aQ bw;replace aO:wr.cell? ⟨b,off+q*3,none⟩=some (.slice C D H):=aO;replace aP:wr.cell? ⟨b,off+q*3+1,none⟩=some (.int .i64 bh):=aP;replace aQ:wr.cell? ⟨b,off+q*3+2,none⟩=some (.int .i64 ac):=aQ;have ah:=(u.o.2.1.w6 _ (List.getElem_mem aN)).1.lt;rw[ad] at ah;have l:=U (z_ aN (z_ J (z_ (show∀p:q<s.es.length,s.es[q]'p=(⟨⟨C,D,H,bx⟩,bh,ac⟩:mM) from λ _=>ad) (z_ ah (z_ bw (z_ aH cr))))));clear aI ah aH bw ad aN cq I aJ cr ae
       go_upto_region 15 with fail
       have aS:aT (wr.alloc (.cells #[.slice C D H,.int .i64 bh,.int .i64 ac] 74)) wr.heap.size 74 [.slice C D H,.int .i64 bh,.int .i64 ac]:=aT.new wr 74 _;have ct:=bz wr (.cells #[.slice C D H,.int .i64 bh,.int .i64 ac] 74);generalize wr.alloc (.cells #[.slice C D H,.int .i64 bh,.int .i64 ac] 74)=L at*;have t0:=aS.cell 0;have t1:=aS.cell 1;have t2:=aS.cell 2;simp only[y_,x_] at t0 t1 t2;have bA:=U ct;clear ct aS aO aP aQ
       go_upto_region 16 with fail
       have P:=E.o.below bA.o;have bB:=P.1.below (bz L (.cells #[.slice C D H,.bool true,.int .i64 bh,.int .i64 ac] 166));have hblk:aT (L.alloc (.cells #[.slice C D H,.bool true,.int .i64 bh,.int .i64 ac] 166)) L.heap.size vc [.slice C D H,.bool true,.int .i64 bh,.int .i64 ac]:=aT.new L vc _;have bC:(L.alloc (.cells #[.slice C D H,.bool true,.int .i64 bh,.int .i64 ac] 166)).heap.size=L.heap.size+1:=by simp
       have cu:aL (L.alloc (.cells #[.slice C D H,.bool true,.int .i64 bh,.int .i64 ac] 166)) C D H bx:=aL.below (aL.below l.o.2.2.2.2.1 bA.o) (bz L _);obtain⟨blk,cP⟩:∃b,L.heap.size=b:=⟨_,rfl⟩
       rw[cP] at hblk bC⊢;have cv:∀d,d<t.c.cl.length->R d≠blk:=λ d B=>by have:=(P.1.e.cls d B).lt;omega
       have cw:∀g,(X 10).b=some g->g<blk:=λ g ar=>by have:=(P.1.e.rows.lt ar).2;omega
       have cx:G<blk:=by have:=P.1.e.box.lt;omega
       have cy:w1.heap.size<=blk:=by have:=F.o.size;have:=bA.o.size;omega
       generalize L.alloc (.cells #[.slice C D H,.bool true,.int .i64 bh,.int .i64 ac] 166)=M at*;have aU:=bB.1.DC m.o.cb blk;obtain⟨ai,n10,ak,al⟩:∃A n c,X 10=⟨A,n,c⟩:=⟨_,_,_,rfl⟩
       have dc:M.cell? ⟨G,13,none⟩=some (.slice ai n10 ak):=by have:=aU.e.kJ (k:=13) (v:=(X 10).v) rfl;rw[al] at this;exact this
       have bF:n10=t.aM.length:=by have:=aU.e.n10;rw[al] at this;exact this
       have aV:=U (aU.below (bz M (.cells #[.pointer (some ⟨blk,0,none⟩)] 164)));have hp:(M.alloc (.cells #[.pointer (some ⟨blk,0,none⟩)] 164)).cell? ⟨M.heap.size,0,none⟩=some (.pointer (some ⟨blk,0,none⟩)):=by go_simp
       have cQ:=U (q8.one hp);have cR:bJ ((M.alloc (.cells #[.pointer (some ⟨blk,0,none⟩)] 164)).ownsRow w1.heap.size 164 1 (.slice ai n10 ak) n10 (k3 (iT R t.c.cl.length blk) t.aM)):=U (by
        have:=aV.o.1.e.rows.row 10;rw[al] at this;exact this)
       have cS:=U (Nat.le_of_lt aV.o.1.e.lt);have cT:bJ (∀v9 bM,nj (M.alloc (.cells #[.pointer (some ⟨blk,0,none⟩)] 164)) w1.heap.size 164 (.slice ai n10 ak) (n10+1) (k3 (iT R t.c.cl.length blk) t.aM++[.pointer (some ⟨blk,0,none⟩)]) v9 bM->nj (M.alloc (.cells #[.pointer (some ⟨blk,0,none⟩)] 164)) w1.heap.size 164 (X 10).v (t.aM.length+1) (k3 (iT R t.c.cl.length blk) (t.aM++[t.c.cl.length])) v9 bM):=U (λ v9 bM aw=>by
        have e:k3 (iT R t.c.cl.length blk) (t.aM++[t.c.cl.length])=k3 (iT R t.c.cl.length blk) t.aM++[.pointer (some ⟨blk,0,none⟩)]:=by simp[k3,sS,jO]
        rw[e,al,<-bF];exact aw)
       have cU:=U (hblk.below (bz M (.cells #[.pointer (some ⟨blk,0,none⟩)] 164)));have cV:=U (F.o.trans (P.2.trans (bB.2.trans aV.o.2)));have Y:=U (z_ cv (z_ cw (z_ cx (z_ cy (z_ al (z_ bF (z_ cu bC)))))));have dd:n10<=100000:=by have h1:=m.o.k4;have bd:=l.o.1;have cW:=l.o.2.2.2.2.2.2;omega
       clear hp P bB aU hblk cv cw cx cy al bF cu bC t0 t1 t2
       go_upto_region 17 with(at_builtin;refine FY rfl (.tmp 112) (.tmp 114) rfl w1.heap.size (.slice ai n10 ak) n10 (k3 (iT R t.c.cl.length blk) t.aM) rfl cR.o (some ⟨M.heap.size,0,none⟩) 1 1 _ rfl cQ.o (by omega) cS.o ?_;intro v9 bM aw;obtain⟨⟨aW,aX,c3⟩,cz,cX,bG,a2,aZ,bI⟩:=aY.F0 (x:=t.c.cl.length) aV.o.1 (v':=v9) (cT.o v9 bM aw);change v9=.slice aW aX c3 at cz;subst cz;have cY:=U ((cU.o.kept aw.2.1 (λ e=>by have:=Y.o.2.1 blk (by rw[Y.o.2.2.2.2.1];exact(ax.own ⟨ai,n10,ak⟩).symm.trans e.symm);omega)).kept (k8 bM G 13 (.slice aW aX c3)) (λ e=>by injection e with e;have:=Y.o.2.2.1;omega));have de:=U ((aL.below Y.o.2.2.2.2.2.2.1 (bz M (.cells #[.pointer (some ⟨blk,0,none⟩)] 164))));have aZ:=U aZ;have bI:=U bI;clear aw cX;have a1:bM.cell? ⟨G,13,none⟩=some (.slice ai n10 ak):=(by rw[Y.o.2.2.2.2.1] at bG;exact bG);clear bG)
       generalize bM.setCell ⟨G,13,none⟩ (.slice aW aX c3)=bK at*;obtain⟨df,cZ⟩:∃f,iT X 10 ⟨aW,aX,c3⟩=f:=⟨_,rfl⟩
       rw[cZ] at aZ;have bo:=u.o.2.1.g1;have bq:=m.o.vT;have an:=U (cV.o.trans bI.o);have cA:Below w.heap.size w bK:=H1.o.1.trans ((show Below w1.heap.size w1 bK from⟨an.o.os,an.o.tape,an.o.output,an.o.size,λ b I=>an.o.keep b I⟩).mono H1.o.1.size);have cB:aL bK C D H bx:=by
        have h:=u.o.1.es.rows _ (List.getElem_mem l.o.1);rw[l.o.2.2.1 l.o.1] at h;exact aL.below h cA
       have br:=U (GY aZ.o m.o.mb.gR.aK m.o.mb.nH (by show t.c.n<=_;rw[m.o.mb.iX];omega) (by show t.c.wt.length=_;rw[m.o.mb.gR.wt.qI,m.o.mb.iX];show _=2*t.c.n+2;rw[m.o.mb.iX]) (λ q=>g_ (m.o.mb.gR.wt.nt q) (by have bd:=l.o.1;have cW:=l.o.2.2.2.2.2.2;have dh:=l.o.2.2.2.2.2.1;omega)) (by show t.c.st.length<=_;rw[m.o.mb.st];simp) (x:=⟨true,bh,ac⟩) (blk:=blk) (jO _ _ _) cY.o Y.o.2.2.2.1 (λ h=>by have:=Y.o.2.2.2.1;omega) (λ d B=>by have B:d<t.c.cl.length:=B;show iT R t.c.cl.length blk d≠blk;rw[bk _ _ (by omega)];exact Y.o.1 d B) cB (λ z bs=>by show gK t.c.n z;rw[m.o.mb.iX];exact l.o.2.2.2.1 z bs));have Q:=m.o.N7 u.o.2.1 (by omega) l.o.1;rw[l.o.2.2.1 l.o.1] at Q;have c0:=U Q;clear Q cB cA bo bq
       go_wp2_with (go_at_call 144;refine br.o.mono ?_;rintro e di ⟨rfl,c4,cC,cD⟩;have c5:=U cC;have c6:=U cD;clear cC cD)
       go_roundw
       case rel=>exact⟨q+1,c4,_,_,by go_num,by have:=l.o.2.1;omega,c5.o,an.o.trans c6.o,c0.o⟩
       case measure=>have:=l.o.2.1;simp[intOf];omega
      ·obtain rfl:q=nl:=by omega
       have cO:¬(q:Int)<(q:Int):=by omega
       clear J cq
       go_wp2_with fail
       go_ret;refine⟨w1.heap.size,G,X,R,t,rfl,E.o,?_,av.o,H1.o.1.size⟩;rw[u.o.2.2.1,u.o.2.2.2.1,u.o.2.2.2.2];exact m.o
end
section
open Go.RowKit
theorem kE.Oe{hM:List Bool}(h:kE w A n c hM)(a:0<n):∃b off,A=some ⟨b,off,none⟩/\b<w.heap.size/\w.cell? ⟨b,off,none⟩=some (.bool (iE hM 0)):=by
 obtain⟨b,off,e,d,f⟩:=h.cells a;exact⟨b,off,e,d,f 0 a⟩
theorem oh.Ci(w:World)(r:Row)(b:aL w r.A r.n r.c r.ai):oh (w.alloc (.cells #[kS r] 25)) (some ⟨w.heap.size,0,none⟩) 1 1 [r]:=by
 refine⟨rfl,Nat.le_refl _,by omega,by unfold maxLen;omega,λ _=>⟨w.heap.size,0,rfl,by simp,λ j u a=>?_⟩,λ q d=>?_⟩
 ·have e:j=0:=by
   have:=(List.getElem?_eq_some_iff.1 a).1;simp at this;omega
  subst e;have hu:kS r=u:=by simpa using a
  subst hu;exact(aT.new w 25 [kS r]).cell 0
 ·rw[List.mem_singleton.1 d];exact b.alloc _
theorem Of(h:e.r.ai.length=0):tc e=true:=by simp[tc,h]
theorem Ec(a:e.r.ai.length≠0):tc e=(mS e.bh||mS e.ac):=by simp[tc,a]
theorem Og(n:Nat)(gs:List (List Int))(es:List mM)(act ord:List Int)(aa:Int)(a7:List Bool)(B:List nx){jK nl bG:Nat}{bp:Option Addr}{aR:Nat}{iV:Option Addr}{cl:Nat}{A:Option Addr}{c:Nat}{A':Option Addr}{c':Nat}{gY:Option Addr}{gJ:Nat}{bu:Option Addr}{bE:Nat}{w:World}
  (cf:n<=65536) (a8:tP act ord aa=true) (a':iE a7 0=false) (O:nl<=1000000)
  (ba:ku w bp jK aR gs) (P:sF w iV nl cl es) (bb:aL w A (n+1) c act) (bc:aL w A' n c' ord) (aC:kE w gY (n+1) gJ a7) (Q:oz w bu bG bE B):
  Calls w_ 49 #[rL n bp jK aR iV nl cl A (n+1) c A' n c' aa gY (n+1) gJ bu bG bE] w λ e w'=>e=.returned (.int .i64 (if lM n gs≠0 then lM n gs else if es.any tc=true then 1 else if lM n (es.map (·.r.ai))≠0 then lM n (es.map (·.r.ai)) else if B.any (td n)=true then 1 else 0))/\Below w.heap.size w w':=by
 obtain⟨R,ad,rfl,bd,aD⟩:=aC.Oe (by omega);rw[a'] at aD;unfold rL;have b1:¬(n:Int)<0:=by omega
 have b2:¬(65536:Int)<n:=by omega
 have d0:decide ((n:Int)<0)=false:=decide_eq_false b1;have d1:decide ((65536:Int)<n)=false:=decide_eq_false b2;have wn:t_.wrap ((n:Int)+1)=(n:Int)+1:=by rw[v_];omega
 have cg:=P.mu;have aE:=Q.mu;obtain⟨au,aF⟩:∃x,lM n gs=x:=⟨_,rfl⟩
 obtain⟨el,aG⟩:∃x,lM n (es.map (·.r.ai))=x:=⟨_,rfl⟩
 rw[aF,aG];obtain⟨ch,aH⟩:∃x,(if au≠0 then au else if es.any tc=true then 1 else if el≠0 then el else if B.any (td n)=true then 1 else 0)=x:=⟨_,rfl⟩
 rw[aH];have F:=U aH;clear aH;have G:=U (z_ ba (z_ P (z_ bb (z_ bc (z_ aC Q)))));have av:=U (z_ aD bd);have ah:=U (z_ a8 (z_ aF aG));clear aD bd ba P bb bc aC Q a8 aF aG a';go_enter Tryz.func49,Tryz.ntmps49
 have aj:=bz w (.cells #[.int .i64 n,.slice bp jK aR,.slice iV nl cl,.slice A (n+1) c,.slice A' n c',.int .i64 aa,.slice (some ⟨R,ad,none⟩) (n+1) gJ,.slice bu bG bE] 47);have D:aT (w.alloc (.cells #[.int .i64 n,.slice bp jK aR,.slice iV nl cl,.slice A (n+1) c,.slice A' n c',.int .i64 aa,.slice (some ⟨R,ad,none⟩) (n+1) gJ,.slice bu bG bE] 47)) w.heap.size 47 [.int .i64 n,.slice bp jK aR,.slice iV nl cl,.slice A (n+1) c,.slice A' n c',.int .i64 aa,.slice (some ⟨R,ad,none⟩) (n+1) gJ,.slice bu bG bE]:=aT.new w 47 _
 go_upto_region 1 with fail
 generalize w.alloc (.cells #[.int .i64 n,.slice bp jK aR,.slice iV nl cl,.slice A (n+1) c,.slice A' n c',.int .i64 aa,.slice (some ⟨R,ad,none⟩) (n+1) gJ,.slice bu bG bE] 47)=w1 at*;have bf:=D.cell 0;have bg:=D.cell 1;have bj:=D.cell 2;have bk:=D.cell 3;have bl:=D.cell 4;have bn:=D.cell 5;have bo:=D.cell 6;have bq:=D.cell 7;simp only[y_,x_] at bf bg bj bk bl bn bo bq;have br:=h_ (a:=⟨R,ad,none⟩) (aj.block R av.o.2);rw[av.o.1] at br;have b3:=U D;have bs:=U aj;have bt:=U (Ju A (n+1) c act A' n c' ord aa w1 (G.o.2.2.1.below aj) (G.o.2.2.2.1.below aj));clear D aj
 go_upto_region 3 with(go_at_call 111;refine bt.o.mono ?_;rintro e wr ⟨rfl,aI⟩;rw[ah.o.1];have H:=U (b3.o.below aI);have ae:=U (bs.o.trans (aI.mono bs.o.size));have bw:=h_ (a:=⟨R,ad,none⟩) (ae.o.block R av.o.2);rw[av.o.1] at bw;clear bf bg bj bk bl bn bo bq br aI;have S:=H.o.cell 0;have bx:=H.o.cell 1;have bA:=H.o.cell 2;have bB:=H.o.cell 3;have bC:=H.o.cell 4;have bD:=H.o.cell 5;have bF:=H.o.cell 6;have ak:=H.o.cell 7;simp only[y_,x_] at S bx bA bB bC bD bF ak;dsimp only[yj])
 have aJ:=U (xu n bp jK aR gs wr (G.o.1.below ae.o))
 by_cases aK:au=0
 ·subst aK;have cj:((0:Int)==0)=true:=rfl
  go_upto_region 8 with(go_at_call 107;refine aJ.o.mono ?_;rintro e ws ⟨rfl,af⟩;rw[ah.o.2.1];have bH:=U (H.o.below af);have v:=U (ae.o.trans (af.mono ae.o.size));clear S bx bA bB bC bD bF ak af bw;have z2:=bH.o.cell 2;simp only[y_,x_] at z2;dsimp only)
  clear aJ bt
  go_wp2_with fail
  go_loopw [4,71] (λ l i W=>∃(k:Nat)(I:Option Addr)(J:Nat),l=.slice I k J/\i=.int .i64 k/\k<=nl/\(es.take k).any tc=false/\W.ownsRow ws.heap.size 25 1 (.slice I k J) k (((es.take k).map (λ e:mM=>e.r)).map kS)/\Below ws.heap.size ws W) (λ _ i _=>nl-(intOf i).toNat)
  case atStart=>exact⟨0,none,0,rfl,rfl,r_ _,rfl,World.ownsRow_nil _ _ _ _,q_ _ _⟩
  case round=>
   obtain⟨k,I,J,rfl,rfl,hk,T,al,ab⟩:=hrel;have t:=U (z_ T (z_ al ab));clear T al ab
   by_cases y:k<nl
   ·have P:=G.o.2.1.below (v.o.trans (t.o.2.2.mono v.o.size));have aM:k<es.length:=by rw[P.len];exact y
    have aN:(k:Int)<(nl:Int):=by omega
    obtain⟨b,off,rfl,ab,aO⟩:=P.cells (by omega);obtain⟨K,L,aw,V⟩:=P.HG y aM;obtain⟨⟨⟨h,f,m,q⟩,bh,ac⟩,O⟩:∃e,es[k]=e:=⟨_,rfl⟩
    rw[O] at K L aw V;replace K:wr.cell? ⟨b,off+k*3,none⟩=some (.slice h f m):=K;replace L:wr.cell? ⟨b,off+k*3+1,none⟩=some (.int .i64 bh):=L;replace aw:wr.cell? ⟨b,off+k*3+2,none⟩=some (.int .i64 ac):=aw;clear aO P
    go_upto_region 11 with fail
    have mI:aT (wr.alloc (.cells #[.slice h f m,.int .i64 bh,.int .i64 ac] 74)) wr.heap.size 74 [.slice h f m,.int .i64 bh,.int .i64 ac]:=aT.new wr 74 _;have X:=bz wr (.cells #[.slice h f m,.int .i64 bh,.int .i64 ac] 74);have bI:(wr.alloc (.cells #[.slice h f m,.int .i64 bh,.int .i64 ac] 74)).heap.size=wr.heap.size+1:=by simp
    generalize wr.alloc (.cells #[.slice h f m,.int .i64 bh,.int .i64 ac] 74)=u at*;have t0:=mI.cell 0;have t1:=mI.cell 1;have t2:=mI.cell 2;simp only[y_,x_] at t0 t1 t2;have Y:=U (z_ X (z_ mI bI));have d:=U (z_ (show∀p:k<es.length,es[k]'p=(⟨⟨h,f,m,q⟩,bh,ac⟩:mM) from λ _=>O) (z_ V (z_ aM y)));have aP:=V.len;replace aP:q.length=f:=aP;clear X mI K L aw O V aM y hk bI
    by_cases bK:f=0
    ·subst bK;have s:es.any tc=true:=y4 d.o.2.2.1 (by rw[d.o.1 d.o.2.2.1];exact Of aP);have C:=U s;clear s
     go_wp2_with fail
     go_ret;exact⟨pI (by rw[<-F.o,if_neg (by omega),if_pos C.o]),v.o.trans ((t.o.2.2.trans (Y.o.1.mono t.o.2.2.size)).mono v.o.size)⟩
    ·have ck:((f:Int)==0)=false:=by simpa using bK
     cases M:mS bh with
     |true=>
      have s:es.any tc=true:=y4 d.o.2.2.1 (by rw[d.o.1 d.o.2.2.1,Ec (by show q.length≠0;omega)];show(mS bh||_)=true;rw[M];rfl);have C:=U s;have b4:=U M;clear s M
      go_wp2_with (go_at_call 112;refine(D6 _ _).mono ?_;rintro e bL ⟨rfl,rfl⟩;rw[b4.o])
      go_ret;exact⟨pI (by rw[<-F.o,if_neg (by omega),if_pos C.o]),v.o.trans ((t.o.2.2.trans (Y.o.1.mono t.o.2.2.size)).mono v.o.size)⟩
     |false=>
      cases ag:mS ac with
      |true=>
       have s:es.any tc=true:=y4 d.o.2.2.1 (by rw[d.o.1 d.o.2.2.1,Ec (by show q.length≠0;omega)];show(mS bh||mS ac)=true;rw[M,ag];rfl);have C:=U s;have an:=U (z_ M ag);clear s M ag
       go_wp2_with (go_at_call 112;refine(D6 _ _).mono ?_;rintro e bL ⟨rfl,rfl⟩;first|rw[an.o.1]|rw[an.o.2])
       go_ret;exact⟨pI (by rw[<-F.o,if_neg (by omega),if_pos C.o]),v.o.trans ((t.o.2.2.trans (Y.o.1.mono t.o.2.2.size)).mono v.o.size)⟩
      |false=>
       have ao:tc ⟨⟨h,f,m,q⟩,bh,ac⟩=false:=by rw[Ec (by show q.length≠0;omega)];show(mS bh||mS ac)=false;rw[M,ag];rfl
       have aQ:=U ao;have an:=U (z_ M ag);clear ao M ag
       go_upto_region 13 with(go_at_call 112;refine(D6 _ _).mono ?_;rintro e bL ⟨rfl,rfl⟩;first|rw[an.o.1]|rw[an.o.2])
       have bN:ws.heap.size<=u.heap.size:=g_ t.o.2.2.size Y.o.1.size;have bO:bJ ((u.alloc (.cells #[kS ⟨h,f,m,q⟩] 25)).ownsRow ws.heap.size 25 1 (.slice I k J) k (((es.take k).map (λ e:mM=>e.r)).map kS)):=U (mw (mw t.o.2.1 Y.o.1) (bz u _));have bP:=U bN;have b5:bJ (aL u h f m q):=U (aL.below d.o.2.1 Y.o.1);clear bN;have aS:=d.o.2.2.2
       go_upto_region 14 with(at_builtin;refine Jf rfl (.tmp 91) (.tmp 94) rfl ws.heap.size (.slice I k J) k ((es.take k).map (λ e:mM=>e.r)) rfl bO.o (some ⟨u.heap.size,0,none⟩) 1 1 [⟨h,f,m,q⟩] rfl (oh.Ci u ⟨h,f,m,q⟩ b5.o) (by omega) (by have:=bP.o;simp;omega) ?_;intro v9 bM aU;obtain⟨⟨bQ,jU,bR⟩,b6,ay⟩:=ax.kW aU.1;obtain rfl:v9=.slice bQ jU bR:=b6;have bS:=U aU;have b7:=U ay;clear aU ay)
       have ay:jU=k+1:=b7.o;subst ay;have bT:Below ws.heap.size ws bM:=s5 (t.o.2.2.trans ((Y.o.1.trans ((bz u (.cells #[kS ⟨h,f,m,q⟩] 25)).mono Y.o.1.size)).mono t.o.2.2.size)) bS.o.2.1 (by have:=bP.o;simp;omega) (λ g e=>(bO.o.lt g e).1);have b8:=U bT;clear bT
       go_wp2_with fail
       go_roundw
       case rel=>
        refine⟨k+1,bQ,bR,rfl,by go_num,by omega,HE d.o.2.2.1 (by rw[d.o.1 d.o.2.2.1];exact aQ.o) t.o.1,?_,b8.o⟩;have h1:=bS.o.1;rw[p_ d.o.2.2.1,d.o.1 d.o.2.2.1,m_];exact h1
       case measure=>simp[intOf];omega
   ·have T:=HF G.o.2.1.len y t.o.1;have aN:¬(k:Int)<(nl:Int):=by omega
    obtain rfl:k=nl:=by omega
    have aq:=U T;have aV:=U (bH.o.below t.o.2.2);have ar:=U (v.o.trans (t.o.2.2.mono v.o.size));have hlen:=G.o.2.1.len;have al:wr.ownsRow ws.heap.size 25 1 (.slice I k J) k ((es.map (λ e:mM=>e.r)).map kS):=by
     have h1:=t.o.2.1;rw[k_ (by omega)] at h1;exact h1
    have aW:=ku.kW al (λ r b9=>by
     obtain⟨e,he,rfl⟩:=List.mem_map.1 b9;exact((G.o.2.1.below ar.o).rows e he)) (by omega)
    rw[List.map_map] at aW;have bU:bJ (ku wr I k J (es.map (λ e:mM=>e.r.ai))):=U aW;have S:=aV.o.cell 0;have ak:=aV.o.cell 7;simp only[y_,x_] at S ak;clear T al aW y hk z2
    by_cases aX:el=0
    ·subst aX
     go_upto_region 18 with(go_at_call 107;refine(xu n I k J (es.map (λ e:mM=>e.r.ai)) wr bU.o).mono ?_;rintro e wt ⟨rfl,z⟩;rw[ah.o.2.2];have az:=U (aV.o.below z);have Z:=U (ar.o.trans (z.mono ar.o.size));clear S ak z;have z0:=az.o.cell 0;have bV:=az.o.cell 7;simp only[y_,x_] at z0 bV;dsimp only)
     go_wp2_with fail
     go_loopw [108] (λ i W=>∃j:Nat,i=.int .i64 j/\j<=bG/\(B.take j).any (td n)=false/\Below wt.heap.size wt W) (λ i _=>bG-(intOf i).toNat)
     case atStart=>exact⟨0,rfl,r_ _,rfl,q_ _ _⟩
     case round=>
      obtain⟨j,rfl,b',T,ab⟩:=hrel;have E:=U (z_ T ab);clear T ab
      by_cases y:j<bG
      ·have Q:=G.o.2.2.2.2.2.below (Z.o.trans (E.o.2.mono Z.o.size));have aY:j<B.length:=by rw[Q.len];exact y
       have aN:(j:Int)<(bG:Int):=by omega
       obtain⟨b,off,rfl,ab,aO⟩:=Q.cells (by omega);obtain⟨K,L,V⟩:=Q.NL y aY;obtain⟨⟨N,⟨h,f,m,q⟩⟩,O⟩:∃e,B[j]=e:=⟨_,rfl⟩
       rw[O] at K L V;replace K:wr.cell? ⟨b,off+j*2,none⟩=some (.int .i64 N):=K;replace L:wr.cell? ⟨b,off+j*2+1,none⟩=some (.slice h f m):=L;have S:=(az.o.below E.o.2).cell 0;simp only[y_,x_] at S;clear aO Q z0 bV
       go_upto_region 21 with fail
       have mI:aT (wr.alloc (.cells #[.int .i64 N,.slice h f m] 126)) wr.heap.size 126 [.int .i64 N,.slice h f m]:=aT.new wr 126 _;have X:=bz wr (.cells #[.int .i64 N,.slice h f m] 126);generalize wr.alloc (.cells #[.int .i64 N,.slice h f m] 126)=u at*;have t0:=mI.cell 0;have t1:=mI.cell 1;simp only[y_,x_] at t0 t1;have ca:=((az.o.below E.o.2).below X).cell 0;simp only[y_,x_] at ca;have d:=U (z_ (show∀p:j<B.length,B[j]'p=(⟨N,⟨h,f,m,q⟩⟩:nx) from λ _=>O) (z_ (aL.below V X) (z_ aY y)));have aA:=U (Z.o.trans ((E.o.2.trans (X.mono E.o.2.size)).mono Z.o.size));have bW:=U (E.o.2.trans (X.mono E.o.2.size));clear mI K L O V aY y b' X S
       by_cases aS:N<1
       ·have s:B.any (td n)=true:=y4 d.o.2.2.1 (by rw[d.o.1 d.o.2.2.1];unfold td;rw[decide_eq_true aS];rfl);have C:=U s;clear s
        go_wp2_with fail
        go_ret;exact⟨pI (by rw[<-F.o,if_neg (by omega),if_neg (by rw[aq.o];exact s_),if_neg (by omega),if_pos C.o]),aA.o⟩
       ·by_cases bX:3<N
        ·have s:B.any (td n)=true:=y4 d.o.2.2.1 (by rw[d.o.1 d.o.2.2.1];unfold td;rw[decide_eq_true bX];simp);have C:=U s;clear s
         go_wp2_with fail
         go_ret;exact⟨pI (by rw[<-F.o,if_neg (by omega),if_neg (by rw[aq.o];exact s_),if_neg (by omega),if_pos C.o]),aA.o⟩
        ·obtain⟨bY,bZ⟩:∃x,lM n [q]=x:=⟨_,rfl⟩
         have aB:=U bZ;have b0:=U (xu n (some ⟨u.heap.size,0,none⟩) 1 1 [q] _ (oh.Ci u ⟨h,f,m,q⟩ d.o.2.1).CJ);clear bZ
         by_cases aZ:bY=0
         ·subst aZ;have ao:td n ⟨N,⟨h,f,m,q⟩⟩=false:=by
           unfold td;rw[decide_eq_false aS,decide_eq_false bX,aB.o];simp
          have aQ:=U ao;clear ao
          go_wp2_with (go_at_call 107;refine b0.o.mono ?_;rintro e cc ⟨rfl,z⟩;rw[aB.o];have a6:=U z;clear z)
          go_roundw
          case rel=>exact⟨j+1,by go_num,by have:=d.o.2.2.2;omega,HE d.o.2.2.1 (by rw[d.o.1 d.o.2.2.1];exact aQ.o) E.o.1,bW.o.trans (((bz u _).trans (a6.o.mono (bz u _).size)).mono bW.o.size)⟩
          case measure=>have:=d.o.2.2.2;simp[intOf];omega
         ·have s:B.any (td n)=true:=y4 d.o.2.2.1 (by rw[d.o.1 d.o.2.2.1];unfold td;rw[aB.o,decide_eq_true aZ];simp);have C:=U s;have cm:(bY==0)=false:=by simpa using aZ
          clear s
          go_wp2_with (go_at_call 107;refine b0.o.mono ?_;rintro e cc ⟨rfl,z⟩;rw[aB.o];have a6:=U z;clear z)
          go_ret;exact⟨pI (by rw[<-F.o,if_neg (by omega),if_neg (by rw[aq.o];exact s_),if_neg (by omega),if_pos C.o]),aA.o.trans (((bz u _).trans (a6.o.mono (bz u _).size)).mono aA.o.size)⟩
      ·have aE:=HF G.o.2.2.2.2.2.len y E.o.1;have cd:=U aE;have aN:¬(j:Int)<(bG:Int):=by omega
       clear aE
       go_wp2_with fail
       go_ret;exact⟨pI (by rw[<-F.o,if_neg (by omega),if_neg (by rw[aq.o];exact s_),if_neg (by omega),if_neg (by rw[cd.o];exact s_)]),Z.o.trans (E.o.2.mono Z.o.size)⟩
    ·have cn:(el==0)=false:=by simpa using aX
     go_wp2_with (go_at_call 107;refine(xu n I k J (es.map (λ e:mM=>e.r.ai)) wr bU.o).mono ?_;rintro e wt ⟨rfl,z⟩;rw[ah.o.2.2];have Z:=U (ar.o.trans (z.mono ar.o.size));clear z)
     go_ret;exact⟨pI (by rw[<-F.o,if_neg (by omega),if_neg (by rw[aq.o];exact s_),if_pos aX]),Z.o⟩
 ·have cp:(au==0)=false:=by simpa using aK
  go_wp2_with (go_at_call 107;refine aJ.o.mono ?_;rintro e ws ⟨rfl,af⟩;rw[ah.o.2.1];have v:=U (ae.o.trans (af.mono ae.o.size));clear af)
  go_ret;exact⟨pI (by rw[<-F.o,if_pos aK]),v.o⟩
theorem HW(O:pF n s)(d:n<=10)(a:ri w s bp aR iV cl A c A' c' gY gJ bu bE):
  Calls w_ 49 #[rL n bp s.gs.length aR iV s.es.length cl A (n+1) c A' n c' s.bt gY (n+1) gJ bu s.aF.length bE] w λ e w'=>e=.returned (.int .i64 0)/\Below w.heap.size w w':=by
 have b:=O.NM d;have g:=O.nt;have h:=y5 d;have hm:=Og n s.gs s.es s.act s.ord s.bt s.hM s.aF (by omega) O.hk.check O.oU (by omega) a.gs a.es (by have:=a.act;rw[O.hk.lg] at this;exact this) (by have:=a.ord;rw[O.hk.ql] at this;exact this) (by have:=a.hM;rw[O.nG] at this;exact this) a.aF;have f:Ap s=false:=by
  unfold Ap;rw[O.hk.check,O.oU,O.iX,O.hk.lg,O.hk.ql,O.nG];simp;omega
 unfold D7 at b;rw[if_neg (by rw[f];exact s_),O.iX] at b;rw[b] at hm;exact hm
end
section
open Go.RowKit Go.Shelf
def Au(x:Nat->Prop)(w:World)(n:Nat)(s:k7)(f:Option Addr)(g:Nat)(v:List Int)(h:Nat)(e:Ending)(W:World):Prop:=
 ∃(s':k7)(i:Option Addr)(c1:Nat)(j:Option Addr)(c2:Nat)(k:Option Addr)(c3:Nat)(l:Option Addr)(m:Nat)(a:Option Addr)(d:Nat)(c:Nat)(kind:Int)(o:Option Addr)(p q:Nat)(r:Option Addr)(t u:Nat),
  e=.returned (.tuple #[rL n f s.gs.length g i s'.es.length c1 j (n+1) c2 k n c3 s'.bt l (n+1) m a s'.aF.length d,.agg #[.int .i64 kind,.slice o p q,.slice r t u,.int .i64 (c:Int)],.int .i64 0])/\
  ri W s' f g i c1 j c2 k c3 l m a d/\pF n s'/\s'.gs=s.gs/\s'.es.length=s.es.length+c/\s.aF<+:s'.aF/\s'.aF.length=s.aF.length+c/\c<=h/\nY (λ _=>True) W s.gs v n h c kind o p q r t u/\Below w.heap.size w W/\za w W a s'.aF.length d s'.aF/\(a≠none->∃b off,a=some ⟨b,off,none⟩)/\
  ∀W':World,aG (λ b=>b<W.heap.size/\¬x b) W W'->ri W' s' f g i c1 j c2 k c3 l m a d/\nY (λ _=>True) W' s.gs v n h c kind o p q r t u
def pW(a:Nat->Prop)(w kY:World)(b:Nat):Prop:=b<kY.heap.size/\¬a b/\b≠w.heap.size+1/\b≠w.heap.size+1+1
theorem Au.of{jK:Nat}{bC:Nat}{kY:World}{j4:Option Addr}{iu c1:Nat}{kn:Option Addr}{kN:Nat}{iW:Option Addr}{iA:Nat}{oG:Int}{iG:Option Addr}{ig:Nat}{bB:Option Addr}{sJ bF:Nat}{aB:Nat}{kind:Int}{aU:Option Addr}{bq aP:Nat}{bw:Option Addr}{bn aV:Nat}(j:s.gs.length=jK)
  (h:∃s':k7,s'.es.length=iu/\s'.bt=oG/\s'.aF.length=sJ/\pF n s'/\s'.gs=s.gs/\s'.es.length=s.es.length+aB/\s.aF<+:s'.aF/\s'.aF.length=s.aF.length+aB/\aB<=bC/\Below w.heap.size w kY/\(bB≠none->∃b off,bB=some ⟨b,off,none⟩)/\∀W:World,aG (pW aZ w kY) kY W->ri W s' bp aR j4 c1 kn kN iW iA iG ig bB bF/\nY (λ _=>True) W s.gs ah n bC aB kind aU bq aP bw bn aV/\za w W bB s'.aF.length bF s'.aF) (a:aG (λ b=>b≠w.heap.size+1/\b≠w.heap.size+1+1) kY W):
  Au aZ w n s bp aR ah bC (.returned (.tuple #[.agg #[.int .i64 n,.slice bp jK aR,.slice j4 iu c1,.slice kn (n+1) kN,.slice iW n iA,.int .i64 oG,.slice iG (n+1) ig,.slice bB sJ bF],.agg #[.int .i64 kind,.slice aU bq aP,.slice bw bn aV,.int .i64 (aB:Int)],.int .i64 0])) W:=by
 obtain⟨s',rfl,rfl,rfl,O,h1,k,l,m,o,p,q,e⟩:=h;subst j;have g:aG (pW aZ w kY) kY W:=a.mono λ b c=>⟨c.2.2.1,c.2.2.2⟩
 have d:=e W g;have r:Below w.heap.size w W:=p.trans ⟨a.os,a.tape,a.output,a.size,λ b c=>a.keep b ⟨by omega,by omega⟩⟩;exact⟨s',j4,c1,kn,kN,iW,iA,iG,ig,bB,bF,aB,kind,aU,bq,aP,bw,bn,aV,rfl,d.1,O,h1,k,l,m,o,d.2.1,r,d.2.2,q,λ W' f=>by
  have i:=e W' (g.trans (f.mono λ b c=>⟨u_ c.1 a.size,c.2.1⟩));exact⟨i.1,i.2.1⟩⟩
theorem HX{w0:World}(d:oz w0 A n c es)(f:A=none->n=0/\c=0)(w:World)(g:A≠none->∃b off,A=some ⟨b,off,none⟩):Calls w_ 109 #[.slice A n c] w λ e w'=>e=.returned (.slice A n n)/\w'=w:=by
 cases h:A with
 |none=>
  obtain⟨h1,i⟩:=f h;subst h1 i;exact NH w
 |some a=>
  obtain⟨b,off,e⟩:=g (by rw[h];exact Option.some_ne_none _);rw[<-h,e];exact NG b off n c w d.cap
structure tg(w W:World)(L M N:List Value):Prop where
 cI:aT W w.heap.size 47 L
 aQ:aT W (w.heap.size+1) 47 M
 bI:aT W (w.heap.size+1+1) 30 N
 kD:Below w.heap.size w W
theorem tg.init(w:World)(L M N:List Value):tg w (((w.alloc (.cells L.toArray 47)).alloc (.cells M.toArray 47)).alloc (.cells N.toArray 30)) L M N:=by
 have b:aT (w.alloc (.cells L.toArray 47)) w.heap.size 47 L:=aT.new w 47 L;have g:=bz w (.cells L.toArray 47);have z0:(w.alloc (.cells L.toArray 47)).heap.size=w.heap.size+1:=by simp
 generalize w.alloc (.cells L.toArray 47)=w1 at*;have h1:aT (w1.alloc (.cells M.toArray 47)) w1.heap.size 47 M:=aT.new w1 47 M;have d:=bz w1 (.cells M.toArray 47);have e:(w1.alloc (.cells M.toArray 47)).heap.size=w1.heap.size+1:=by simp
 replace b:=b.below d;rw[z0] at h1 e;generalize w1.alloc (.cells M.toArray 47)=a at*;have f:aT (a.alloc (.cells N.toArray 30)) a.heap.size 30 N:=aT.new a 30 N;have c:=bz a (.cells N.toArray 30);rw[e] at f;exact⟨b.below c,h1.below c,f,g.trans ((d.trans (c.mono (by omega))).mono (by omega))⟩
theorem tg.below{w W W':World}{L M N:List Value}(h:tg w W L M N)(a:Below W.heap.size W W'):tg w W' L M N:=⟨h.cI.below a,h.aQ.below a,h.bI.below a,h.kD.trans (a.mono h.kD.size)⟩
theorem tg.jr{W':World}{L M N:List Value}(h:tg w W L M N){B:Nat}(a:w.heap.size+1+1<B)(f:aG (λ b=>b<B) W W'):tg w W' L M N:=
 ⟨f.blk h.cI (by omega),f.blk h.aQ (by omega),f.blk h.bI (by omega),h.kD.trans ⟨f.os,f.tape,f.output,f.size,λ b c=>f.keep b (by omega)⟩⟩
def uX:List Value:=[.int .i64 0,.slice none 0 0,.slice none 0 0,.slice none 0 0,.slice none 0 0,.int .i64 0,.slice none 0 0,.slice none 0 0]
theorem Oh{gM:Option Addr}{bK gN:Nat}(aa:Nat)(O:pF n s)(au:n<=10)(bq:uW w aZ s bp aR iV cl A c A' c' gY gJ bu bE)(br:aL w gM bK gN ah)(hl:∀x∈ah,gK n x)(bS:(ah.map aC).Nodup)(cO:bK<=1000)(cP:aa<=1099511627776)(bT:s.gs.length<=40000)(bU:s.aF.length<=549755813888)
  (bs:bu=none->s.aF.length=0/\bE=0) (bw:bu≠none->∃b off,bu=some ⟨b,off,none⟩) (bV:∀b,aZ b->b<w.heap.size):
  Calls w_ 36 #[rL n bp s.gs.length aR iV s.es.length cl A (n+1) c A' n c' s.bt gY (n+1) gJ bu s.aF.length bE,.slice gM bK gN,.int .i64 aa] w (Au aZ w n s bp aR ah aa):=by
 obtain⟨t,aA⟩:∃x,s.gs.length=x:=⟨_,rfl⟩
 obtain⟨nl,aB⟩:∃x,s.es.length=x:=⟨_,rfl⟩
 obtain⟨D,aD⟩:∃x,s.aF.length=x:=⟨_,rfl⟩
 have aU:=bq w aG.refl;have d:=U (z_ bq (z_ O (z_ aA (z_ aB (z_ aD (z_ br (z_ hl (z_ bS (z_ bT (z_ bU (z_ bs bw)))))))))));have cQ:=br.len;have bx:=U bV;clear bV;rw[aA,aB,aD];have cR:bJ (∀W:World,Below w.heap.size w W->Calls w_ 49 #[rL n bp t aR iV nl cl A (n+1) c A' n c' s.bt gY (n+1) gJ bu D bE] W λ e w'=>e=.returned (.int .i64 0)/\Below W.heap.size W w'):=U λ W a=>by
  have:=HW O au (aU.below a);rw[aA,aB,aD] at this;exact this
 have cS:bJ (∀W:World,Below w.heap.size w W->Calls w_ 98 #[rL n bp t aR iV nl cl A (n+1) c A' n c' s.bt gY (n+1) gJ bu D bE] W (HV W n s bu)):=U λ W a=>by
  have:=Od O au (aU.below a) (λ w=>HX aU.aF bs w bw);rw[aA,aB,aD] at this;exact this
 clear aU bq O br hl bS bT bU bs bw aA aB aD;unfold rL at*;go_enter Tryz.func36,Tryz.ntmps36
 go_upto_region 1 with fail
 have l:=tg.init w [.int .i64 n,.slice bp t aR,.slice iV nl cl,.slice A (n+1) c,.slice A' n c',.int .i64 s.bt,.slice gY (n+1) gJ,.slice bu D bE] uX As;replace l:tg w (((w.alloc (.cells #[.int .i64 n,.slice bp t aR,.slice iV nl cl,.slice A (n+1) c,.slice A' n c',.int .i64 s.bt,.slice gY (n+1) gJ,.slice bu D bE] 47)).alloc (.cells #[.int .i64 0,.slice none 0 0,.slice none 0 0,.slice none 0 0,.slice none 0 0,.int .i64 0,.slice none 0 0,.slice none 0 0] 47)).alloc (.cells #[.int .i64 0,.slice none 0 0,.slice none 0 0,.int .i64 0] 30)) [.int .i64 n,.slice bp t aR,.slice iV nl cl,.slice A (n+1) c,.slice A' n c',.int .i64 s.bt,.slice gY (n+1) gJ,.slice bu D bE] uX As:=l;generalize (((w.alloc (.cells #[.int .i64 n,.slice bp t aR,.slice iV nl cl,.slice A (n+1) c,.slice A' n c',.int .i64 s.bt,.slice gY (n+1) gJ,.slice bu D bE] 47)).alloc (.cells #[.int .i64 0,.slice none 0 0,.slice none 0 0,.slice none 0 0,.slice none 0 0,.int .i64 0,.slice none 0 0,.slice none 0 0] 47)).alloc (.cells #[.int .i64 0,.slice none 0 0,.slice none 0 0,.int .i64 0] 30))=cT at*;have ag:=l.cI.cell 0;have ai:=l.cI.cell 1;have aj:=l.cI.cell 2;have ak:=l.cI.cell 3;have al:=l.cI.cell 4;have an:=l.cI.cell 5;have ao:=l.cI.cell 6;have aq:=l.cI.cell 7;simp only[y_,x_] at ag ai aj ak al an ao aq;have cU:=U (cR.o cT l.kD);have cV:= @run_makeMap w_;have cW:=U l;clear l
 go_upto_region 5 with(go_at_call 49;refine cU.o.mono ?_;rintro e aV ⟨rfl,bW⟩;have bX:=U (cW.o.below bW);clear ag ai aj ak al an ao aq bW)
 have cX:=U (bX.o.below (bz aV (.map #[] 0)));have aW:bJ (w.heap.size+1+1<aV.heap.size):=U bX.o.bI.lt;have cY:=U (lY.made aV);clear cV
 go_wp2_with fail
 go_loopw [24] (λ i W=>∃k:Nat,i=.int .i64 k/\k<=bK/\lY W aV.heap.size k ((ah.take k).map λ x=>(aC x:Int))/\tg w W [.int .i64 n,.slice bp t aR,.slice iV nl cl,.slice A (n+1) c,.slice A' n c',.int .i64 s.bt,.slice gY (n+1) gJ,.slice bu D bE] uX As) (λ i _=>bK-(intOf i).toNat)
 case atStart=>exact⟨0,rfl,r_ _,cY.o,cX.o⟩
 case round=>
  obtain⟨k,rfl,hk,bY,bA⟩:=hrel;have M:=U bY;have S:=U bA;have ag:=bA.cI.cell 0;simp only[y_,x_] at ag;clear bY bA
  by_cases bB:k<bK
  ·have cZ:(k:Int)<(bK:Int):=by omega
   have dX:t_.wrap ((k:Int)+1)=(k:Int)+1:=by rw[v_];omega
   obtain⟨b,off,rfl,a,bZ⟩:=(d.o.2.2.2.2.2.1.below S.o.kD).cells (by omega);have c0:=bZ k bB;have aX:k<ah.length:=by omega
   have a6:=d.o.2.2.2.2.2.2.1 _ (tN aX);have b0:=d.o.2.2.2.2.2.2.2.1;obtain⟨x,aE⟩:∃x,je ah k=x:=⟨_,rfl⟩
   have av:hasB ((ah.take k).map λ x=>(aC x:Int)) (aC x:Int)=false:=by
    cases c4:hasB ((ah.take k).map λ x=>(aC x:Int)) (aC x:Int) with
    |false=>rfl
    |true=>
     exfalso;obtain⟨y,c5,c6⟩:=List.mem_map.1 (u0.1 c4);obtain⟨j,dY,e⟩:=List.mem_take_iff_getElem.1 c5;have h1:=List.pairwise_iff_getElem.1 b0 j k (by rw[o_];omega) (by rw[o_];omega) (by omega);rw[List.getElem_map,List.getElem_map,e] at h1;rw[oN aX] at aE;rw[aE] at h1;exact h1 (by have:(aC y:Int)=(aC x:Int):=c6;omega)
   rw[aE] at c0 a6;have a7:aC x<=n:=a6.2;have dZ:(x==0)=false:=by have:=a6.oC;simpa using this
   have d':¬(n:Int)<x:=by unfold aC at a7;omega
   have ea:¬x< -(n:Int):=by unfold aC at a7;omega
   have wn:t_.wrap (-(n:Int))= -(n:Int):=by rw[v_];omega
   have eb:wrap64 (-(n:Int))= -(n:Int):=by unfold wrap64;omega
   have bC:(Lit.int .i64 (aC x:Int)).wf=true:=DI _ (by omega) (by omega);have b1:=M.o.look bC;rw[av] at b1;obtain⟨ec,c7,b2,b3⟩:=M.o.put (by unfold maxLen;omega) bC;have E:=U (z_ aE (z_ aX (z_ b2 (z_ b3 bB))));have b4: -1000000<=x/\x<=1000000:=by unfold aC at a7;omega
   have b5:=U b4;clear bZ b0 av b2 b3 bB hk a a6 a7 bC aX aE b4;obtain⟨v,a8⟩:∃v,aC x=v:=⟨_,rfl⟩
   have c8:bJ (∀W:World,Calls w_ 97 #[.int .i64 x] W λ e w'=>e=.returned (.int .i64 (v:Int))/\W=w'):=U λ W=>by have:=sV x W b5.o.1 b5.o.2;rw[a8] at this;exact this
   rw[a8] at b1 c7;have ed:=U a8;clear a8
   go_wp2_with (go_at_call 97;refine(c8.o _).mono ?_;rintro e w' ⟨rfl,rfl⟩)
   go_roundw
   case rel=>
    refine⟨k+1,by go_num,by have:=E.o.2.2.2.2;omega,?_,?_⟩
    ·have h1:=E.o.2.2.1;rw[uZ ah k E.o.2.1,E.o.1,m_];exact h1
    ·exact⟨S.o.cI.kept E.o.2.2.2.1 (λ e=>by injection e with e;have:=aW.o;omega),S.o.aQ.kept E.o.2.2.2.1 (λ e=>by injection e with e;have:=aW.o;omega),S.o.bI.kept E.o.2.2.2.1 (λ e=>by injection e with e;have:=aW.o;omega),s5 S.o.kD E.o.2.2.2.1 S.o.kD.size (λ g e=>by injection e with e;have:=aW.o;omega)⟩
   case measure=>have:=E.o.2.2.2.2;simp[intOf];omega
  ·have cZ:¬(k:Int)<(bK:Int):=by omega
   have cI:¬(aa:Int)<0:=by omega
   have aQ:¬(1099511627776:Int)<(aa:Int):=by omega
   have ai:=S.o.cI.cell 1;have aj:=S.o.cI.cell 2;have ak:=S.o.cI.cell 3;have al:=S.o.cI.cell 4;have an:=S.o.cI.cell 5;have ao:=S.o.cI.cell 6;have aq:=S.o.cI.cell 7;simp only[y_,x_] at ai aj ak al an ao aq;have c9:=U (cS.o wr S.o.kD)
   go_upto_region 15 with(go_at_call 98;refine c9.o.mono ?_;rintro e bD ⟨base,G,hs,cb,l,rfl,a',b6,b7,b8⟩;have ba:=U (S.o.below b7);have bb:=U a';have ab:=U b6;have da:=U b8;clear ag ai aj ak al an ao aq a' b6 b7 b8)
   have bc:w.heap.size+1+1<base:=by have:=S.o.bI.lt;have:=da.o;omega
   have bF:=U bc;have aH:∀b,b<w.heap.size->b<base:=λ b a=>by omega
   have b9:r5 aZ (λ b=>b<base) bD s.gs ah n s.es.length l.c.cl.length l gM bK gN aa:=by
    refine⟨au,cQ,cO,d.o.2.2.2.2.2.2.1,d.o.2.2.2.2.2.1.below ba.o.kD,λ b a F=>?_,bb.o.s.lt,cP,?_,?_,d.o.2.1.bH,λ b a=>bb.o.s.lt b (aH b (bx.o b a))⟩
    ·obtain⟨ee,off,h1,H,_⟩:=d.o.2.2.2.2.2.1.cells F;rw[h1] at a;injection a with a
     exact a▸aH _ H
    ·have h1:=ab.o.vT;have H:=d.o.2.2.2.2.2.2.2.2.1;omega
    ·have h1:l.aF.length=s.aF.length:=by rw[ab.o.aF,o_]
     have H:=d.o.2.2.2.2.2.2.2.2.2.1;omega
   have bG:∀b,b<w.heap.size->aZ b->aZ b:=λ b a e=>e
   have bL:=d.o.1 _ (Ea w aZ);have b':o5 (λ b=>b<base/\¬aZ b) bD l:=oz.in (d.o.1 w aG.refl).aF ba.o.kD (λ b e F=>by
    have h1:=(d.o.1 w aG.refl).aF.lt b e F;exact⟨aH b h1,λ H=>bL.aF.zb b e F (bG b h1 H)⟩) ab.o.jB ab.o.aF (λ e=>(d.o.2.2.2.2.2.2.2.2.2.2.1 e).1) d.o.2.2.2.2.2.2.2.2.2.2.2
   have ca:∀p∈l.aF,qq (λ b=>b<base/\¬aZ b) bD n p:=by
    rw[ab.o.aF];exact oz.lines (d.o.1 w aG.refl).aF ba.o.kD (λ e he b a F=>by
     have h1:=((d.o.1 w aG.refl).aF.rows e he).lt b a F;exact⟨aH b h1,λ H=>(bL.aF.rows e he).zb b a F (bG b h1 H)⟩) d.o.2.1.Cb
   have db:=U (Nb (bg:=0) b9 bb.o (ab.o.kg d.o.2.1 (by omega) ah) b' ca rfl);clear b9 b' ca bc aH bG bL cI aQ
   go_upto_region 16 with(go_at_call 99;refine db.o.mono ?_;rintro e I ⟨K,ef,cc,bd,q,eg,kind,J,L,N,Q,R,V,rfl,cd,cf,bN,cg,ch,cj,ck,cm,cn,cp⟩;have dc:=U cf;have bf:=U cg;have C:=U (ba.o.jr bF.o bN);have X:=U (z_ cd (z_ bN (z_ ch (z_ cj (z_ ck (z_ cm (z_ cn cp)))))));clear cf bN cg ch cj ck cm cn cp cd;have bh:=C.o.bI.cell 0;have bj:=C.o.bI.cell 1;have bk:=C.o.bI.cell 2;have bl:=C.o.bI.cell 3;have aI:=C.o.bI.free;have dd:=aI 0;have de:=aI 1;have df:=aI 2;have dh:=aI 3;simp only[As,y_,x_] at bh bj bk bl;clear aI)
   have ad:∀b,b<base->K b:=X.o.1;have cq:sI I (w.heap.size+1):=⟨_,_,C.o.aQ,by intro u hu;simp only[uX,List.mem_cons,List.not_mem_nil,or_false] at hu;rcases hu with rfl|rfl|rfl|rfl|rfl|rfl|rfl|rfl<;>simp⟩
   have cr:sI I (w.heap.size+1+1):=⟨_,_,C.o.bI,by intro u hu;simp only[As,List.mem_cons,List.not_mem_nil,or_false] at hu;rcases hu with rfl|rfl|rfl|rfl<;>simp⟩
   have ct:=aY.four dc.o (ad (w.heap.size+1+1) bF.o) (.int .i64 kind) (.slice J L N) (.slice Q R V) (.int .i64 (q:Int));have cu:aG (sY K (w.heap.size+1) (w.heap.size+1+1)) I _:=aG.four (.int .i64 kind) (.slice J L N) (.slice Q R V) (.int .i64 (q:Int)) (λ h=>h.2.2 rfl);have ae:aG (λ b=>b≠w.heap.size+1+1) I _:=aG.four (.int .i64 kind) (.slice J L N) (.slice Q R V) (.int .i64 (q:Int)) (λ h=>h rfl);have cv:=(((C.o.bI.set 0 (.int .i64 kind)).set 1 (.slice J L N)).set 2 (.slice Q R V)).set 3 (.int .i64 (q:Int));generalize (((I.setCell ⟨w.heap.size+1+1,0,none⟩ (.int .i64 kind)).setCell ⟨w.heap.size+1+1,1,none⟩ (.slice J L N)).setCell ⟨w.heap.size+1+1,2,none⟩ (.slice Q R V)).setCell ⟨w.heap.size+1+1,3,none⟩ (.int .i64 (q:Int))=bM at*;have cw:tg w bM [.int .i64 n,.slice bp t aR,.slice iV nl cl,.slice A (n+1) c,.slice A' n c',.int .i64 s.bt,.slice gY (n+1) gJ,.slice bu D bE] uX [.int .i64 kind,.slice J L N,.slice Q R V,.int .i64 (q:Int)]:=
    ⟨ae.blk C.o.cI (by omega),ae.blk C.o.aQ (by omega),cv,C.o.kD.trans ⟨ae.os,ae.tape,ae.output,ae.size,λ b a=>ae.keep b (by omega)⟩⟩
   have cx:bd.c.st.length<=1000000:=by
    have eh:=bf.o.lb.len;have ei:=bf.o.gR.aK.len;have ej:=bf.o.rg.iX;omega
   have di:=U (Nt ct.drew bf.o au cx (qt:=n) (s6:=s.bt) (qu:=bp) (qv:=t) (qw:=aR) (mR:=.slice iV nl cl) (s7:=.slice A (n+1) c) (s8:=.slice A' n c') (mj:=.slice gY (n+1) gJ) (sG:=.slice bu D bE));have r:=cw.below (q_ _ _).drew;have bO:=U r;have af:=U (z_ cq (z_ cr (z_ cu ad)));clear cu ae cv ad ct cx bh bj bk bl dd de df dh cw cq cr;have ag:=r.cI.cell 0;have ai:=r.cI.cell 1;have aj:=r.cI.cell 2;have ak:=r.cI.cell 3;have al:=r.cI.cell 4;have an:=r.cI.cell 5;have ao:=r.cI.cell 6;have aq:=r.cI.cell 7;have bh:=r.bI.cell 0;have bj:=r.bI.cell 1;have bk:=r.bI.cell 2;have bl:=r.bI.cell 3;simp only[y_,x_] at ag ai aj ak al an ao aq bh bj bk bl;clear r;have dj:bJ (∀(e:Ending)(kY:World),Hs K base bM.drew G cc s.gs ah n s.es.length q bd n bp t aR e kY->∃(aw:Option Addr)(bn c1:Nat)(aJ:Option Addr)(aM:Nat)(ax:Option Addr)(ay:Nat)(bo:Int)(aN:Option Addr)(aO:Nat)(Y:Option Addr)(az ar:Nat),e=.returned (.agg #[.int .i64 n,.slice bp t aR,.slice aw bn c1,.slice aJ (n+1) aM,.slice ax n ay,.int .i64 bo,.slice aN (n+1) aO,.slice Y az ar])/\tg w kY [.int .i64 n,.slice bp t aR,.slice iV nl cl,.slice A (n+1) c,.slice A' n c',.int .i64 s.bt,.slice gY (n+1) gJ,.slice bu D bE] uX [.int .i64 kind,.slice J L N,.slice Q R V,.int .i64 (q:Int)]/\∃s':k7,s'.es.length=bn/\s'.bt=bo/\s'.aF.length=az/\pF n s'/\s'.gs=s.gs/\s'.es.length=s.es.length+q/\s.aF<+:s'.aF/\s'.aF.length=s.aF.length+q/\q<=aa/\Below w.heap.size w kY/\(Y≠none->∃b off,Y=some ⟨b,off,none⟩)/\∀W:World,aG (pW aZ w kY) kY W->ri W s' bp aR aw c1 aJ aM ax ay aN aO Y ar/\nY (λ _=>True) W s.gs ah n aa q kind J L N Q R V/\za w W Y s'.aF.length ar s'.aF):=U (by
    intro e kY a';obtain⟨cy,z,iY,dk,aw,dm,dn,ax,ay,rfl,cz,bP,cA,aP,aS,dp,ek,en,dq,dr,dt,cB,av⟩:=a';have ad:=af.o.2.2.2;have bc:=bF.o;have f:tg w kY _ uX _:=bO.o.jr (B:=base) bc (cA.mono ad);have du:=aP.rg.lg;have dv:=aP.rg.nG;have v6:(z 6).v=.slice (z 6).A (n+1) (z 6).c:=by rw[<-du,<-bP.e.n6];rfl
    have v9:(z 9).v=.slice (z 9).A (n+1) (z 9).c:=by rw[<-dv,<-bP.e.jU];rfl
    obtain⟨Y,az,ar,cC⟩:∃A n c,oE z iY=.slice A n c:=by
     unfold oE
     cases iY.jB with
     |none=>exact⟨_,_,_,rfl⟩
     |some h=>exact⟨_,_,_,rfl⟩
    refine⟨aw,dn.length,dm,(z 6).A,(z 6).c,ax,ay,iY.bt,(z 9).A,(z 9).c,Y,az,ar,by rw[<-v6,<-v9,<-cC],f,?_⟩;have dw:∀b,bM.drew.heap.size<=b->b≠w.heap.size+1/\b≠w.heap.size+1+1:=λ b a=>by
     have h1:=bO.o.bI.lt;omega
    have cD:∀b,¬aZ b->¬aZ b:=λ b h1=>h1
    have dx:∀b,aZ b->b<base:=λ b e=>by have:=bx.o b e;omega
    have f810:aG (sY K (w.heap.size+1) (w.heap.size+1+1)) I kY:=af.o.2.2.1.trans ((aG.drew.trans cA).mono λ b a=>a.1);have cE:=f810.size;have dy:∀b,b<base->b<I.heap.size:=λ b a=>u_ (bb.o.s.lt b a) X.o.2.1.size
    have f8:∀W,aG (pW aZ w kY) kY W->aG (λ b=>b<I.heap.size/\sY (λ b=>K b/\¬aZ b) (w.heap.size+1) (w.heap.size+1+1) b) I W:=λ W m=>(f810.mono λ b a=>⟨a.2.1.1,a.2.2⟩).trans (m.mono λ b a=>⟨u_ a.1 cE,cD b a.2.1.2,a.2.2⟩)
    have dz:∀W,aG (pW aZ w kY) kY W->aY cy base W G z cc iY:=λ W m=>bP.still (P:=λ b=>b=w.heap.size+1\/b=w.heap.size+1+1\/aZ b) (m.mono λ b a=>⟨a.1,λ e=>a.2 (.inr (.inr e)),λ e=>a.2 (.inl e),λ e=>a.2 (.inr (.inl e))⟩) (λ b a=>cz b (ad b (a.elim (λ h1=>by omega) (λ h1=>h1.elim (λ h1=>by omega) (dx b)))))
    have dA:∀W,aG (pW aZ w kY) kY W->o5 cy W iY:=λ W m=>by
     have h1:o5 (λ b=>b<base/\¬aZ b) W bd:=X.o.2.2.1.off (λ p hp=>(X.o.2.2.2.1 p hp).lH) af.o.1 af.o.2.1 ((f8 W m).mono λ b a=>⟨dy b a.1.1,⟨ad b a.1.1,a.1.2⟩,a.2⟩);exact(o5.kept h1 (s':=iY) aG.refl dp aS).mono (λ b a=>cz b (ad b a.1))
    have dB:∀p∈iY.aF,qq (pW aZ w kY) kY n p:=λ p hp=>(((X.o.2.2.2.1 p (by rw[<-aS];exact hp)).Oa af.o.1 af.o.2.1).jr (f810.mono λ b a=>⟨a.2.1.1,a.2.2⟩)).mono λ b a=>⟨u_ a.1 cE,cD b a.2.1.2,a.2.2⟩
    have bQ:∀b,b<kY.heap.size->bM.drew.heap.size<=b->pW aZ w kY b:=λ b h1 H=>by
     have dC:=dw b H;have dk:=bO.o.bI.lt;exact⟨h1,λ dD=>by have:=bx.o b dD;omega,dC⟩
    have fin:∀W,aG (pW aZ w kY) kY W->ri W s bp aR iV cl A c A' c' gY gJ bu bE:=λ W m=>d.o.1 W ((aG.q4 f.kD λ b a=>a.1).trans (m.mono λ b a=>⟨by have:=f.kD.size;omega,a.2,by omega,by omega⟩))
    have dE:bd.aF.length=s.aF.length+q:=by have h1:=X.o.2.2.2.2.2.1;rw[ab.o.aF,o_] at h1;exact h1
    have eo:=aP.nt;have ep:=y5 au;have er:=aP.ql;have et:=d.o.2.2.2.2.2.2.2.2.2.1;obtain⟨s',aJ,aM,aN,aO,eu,ev,cF,cG,cH,dF,dG,dH,dI,dJ,dK,dL,dM,cJ⟩:=N8 (w:=w) (kY:=kY) (pW:=pW aZ w kY) (λ W m=>(fin W m).gs) (λ W m=>(fin W m).aF.rows) d.o.2.1 au (by omega) dz aP (λ W m=>dq.N9 m (λ b a e=>bQ b a (av.1 b e)) (λ e he b a h1=>bQ b a (av.2.1 e he b h1))) dr dt (λ W m=>cB.jr m (λ b e F=>bQ b (cB.lt b e F) (av.2.2 b e))) dA dB (by rw[aS,<-ab.o.aF];exact X.o.2.2.2.2.1) (by rw[aS];omega) rfl;rw[v6] at cF;rw[v9] at cG;rw[cC] at cH;injection cF with a1 a2 a3
    injection cG with aQ bI dN
    injection cH with d1 d2 d3
    subst a1 a3 aQ dN d1 d3;exact⟨s',by rw[dG],dF,d2.symm,dI,dH,dJ,dK,by rw[dL,aS];exact dE,X.o.2.2.2.2.2.2.1,f.kD,dM,λ W m=>⟨(cJ W m).1,X.o.2.2.2.2.2.2.2.Ob d.o.2.2.2.2.2.2.1 af.o.1 af.o.2.1 (f8 W m),(cJ W m).2⟩⟩)
   rename_i dO cK;have dP:=U cK;clear cK;refine wp_region_noPanic ?_
   go_region_with (go_at_call 100;refine di.o.mono ?_;intro e kY cL;obtain⟨aw,bn,c1,aJ,aM,ax,ay,bo,aN,aO,Y,az,ar,rfl,f,cM⟩:=dj.o e kY cL;have cN:=U f;have dQ:=U cM;clear cL cM;have m0:=f.bI.cell 0;have m1:=f.bI.cell 1;have m2:=f.bI.cell 2;have m3:=f.bI.cell 3;have dR:=f.aQ.cell 0;have dS:=f.aQ.cell 1;have dT:=f.aQ.cell 2;have dU:=f.aQ.cell 3;have dV:=f.aQ.cell 4;have dW:=f.aQ.cell 5;have n6:=f.aQ.cell 6;have n7:=f.aQ.cell 7;have aT:=f.bI.free;have ew:=aT 0;have ey:=aT 1;have ez:=aT 2;have eA:=aT 3;have Z:=f.aQ.free;have eB:=Z 0;have eC:=Z 1;have eD:=Z 2;have eE:=Z 3;have eF:=Z 4;have eG:=Z 5;have eH:=Z 6;have eI:=Z 7;simp only[uX,y_,x_] at m0 m1 m2 m3 dR dS dT dU dV dW n6 n7;clear aT Z f)
   all_goals
    show dO _ _;apply dP.o
    go_wp2_with fail
   all_goals
    have T:=zc.ok cN.o.aQ cN.o.bI (by omega) (.int .i64 n) (.slice bp t aR) (.slice aw bn c1) (.slice aJ (n+1) aM) (.slice ax n ay) (.int .i64 bo) (.slice aN (n+1) aO) (.slice Y az ar) (.int .i64 kind) (.slice J L N) (.slice Q R V) (.int .i64 (q:Int));have bR:=U T;clear T;refine Oc rfl rfl rfl rfl bR.o.1 bR.o.2.1 (Au.of d.o.2.2.1 dQ.o bR.o.2.2)
end
section
open Go.RowKit Go.Shelf Go.Sort Go.Lib
def nZ(a:List Int):Prop:=∀x∈a,-9223372036854775808<=x/\x<=9223372036854775807
def qc(x:Int):Int:=if x= -9223372036854775808 then-9223372036854775808 else (x.natAbs:Int)
theorem HY(x:Int)(w:World)(h: -9223372036854775808<=x/\x<=9223372036854775807):
  Calls w_ 83 #[.int .i64 x] w λ e w'=>e=.returned (.int .i64 (qc x))/\w=w':=by
 by_cases a:x= -9223372036854775808
 ·subst a;go_enter Tryz.func83,f_
  go_wp2;go_ret;refine⟨?_,rfl⟩;show l_ (Value.int t_ (max (-9223372036854775808) (wrap64 9223372036854775808)))=_;rw[show max (-9223372036854775808) (wrap64 9223372036854775808)= -9223372036854775808 by unfold wrap64;omega];rfl
 ·have e:qc x=(x.natAbs:Int):=if_neg a;rw[e];have d:t_.wrap (-x)= -x:=by rw[v_];omega
  have f:wrap64 (-x)= -x:=by unfold wrap64;omega
  rcases Int.lt_or_le x 0 with c|c
  ·have h1:x< -x:=by omega
   have b:((x.natAbs:Nat):Int)= -x:=by omega
   rw[b];clear h a e;go_enter Tryz.func83,f_
   go_wp2;go_ret;refine⟨?_,rfl⟩;show l_ (Value.int t_ (max x (-x)))=_;rw[show max x (-x)= -x by omega]
  ·have h1:¬x< -x:=by omega
   have b:((x.natAbs:Nat):Int)=x:=by omega
   rw[b];clear h a e;go_enter Tryz.func83,f_
   go_wp2;go_ret;refine⟨?_,rfl⟩;show l_ (Value.int t_ (max x (-x)))=_;rw[show max x (-x)=x by omega]
theorem Oi(a:i<ls.length):ls.flatten=(ls.take i).flatten++(n5 ls i++(ls.drop (i+1)).flatten):=by
 rw[tM a];have h:ls=ls.take i++(ls[i]::ls.drop (i+1)):=by rw[<-List.drop_eq_getElem_cons a,List.take_append_drop]
 conv=>lhs;rw[h]
 rw[List.flatten_append,List.flatten_cons]
theorem Oj(a:i<ls.length):(ls.take (i+1)).flatten.length=(ls.take i).flatten.length+(n5 ls i).length:=by
 rw[tM a,p_ a,List.flatten_append,n_];simp
theorem Ol{j:Nat}(b:i<ls.length)(a:j<(n5 ls i).length):(ls.take i).flatten.length+j<ls.flatten.length/\je ls.flatten ((ls.take i).flatten.length+j)=je (n5 ls i) j:=by
 have h:=Oi b;have h1:(ls.take i).flatten.length+j<ls.flatten.length:=by
  rw[h,n_,n_];omega
 refine⟨h1,?_⟩;rw[oN h1,oN a];simp only[h];rw[List.getElem_append_right (by omega)];simp only[Nat.add_sub_cancel_left];rw[List.getElem_append_left a]
theorem HZ{n:Int}{m:Nat}(h:∀k,k<m->pG n ah k=false)(a:pG n ah m=false):∀k,k<m+1->pG n ah k=false:=λ k hk=>by
 rcases Nat.lt_or_ge k m with h1|h1
 ·exact h k h1
 ·obtain rfl:k=m:=by omega
  exact a
theorem H6(n:Nat)(aB:n<=65536)(A:Option Addr)(nl cl:Nat)(ls:List (List Int))(w:World)(h:ku w A nl cl ls)(hw:nZ ls.flatten)(hlen:ls.flatten.length<=1000000):
  Calls w_ 139 #[.int .i64 n,.slice A nl cl] w λ e w'=>e=.returned (.bool (r8 n ls.flatten))/\Below w.heap.size w w':=by
 have aD:=h.small;have H:=U h;have ak:=U hw;have R:=U (z_ h.len hlen);have al:= @run_makeMap w_;have an:=U (lY.made w);have ao:=U (bz w (.map #[] 0));clear h hw hlen;go_enter Tryz.func139,Tryz.ntmps139
 go_wp2_with fail
 clear al
 go_loopw [14] (λ i W=>∃k:Nat,i=.int .i64 k/\k<=nl/\lY W w.heap.size (ls.take k).flatten.length ((ls.flatten.take (ls.take k).flatten.length).map λ x=>(aC x:Int))/\(∀q,q<(ls.take k).flatten.length->pG n ls.flatten q=false)/\Below w.heap.size w W) (λ i _=>nl-(intOf i).toNat)
 case atStart=>exact⟨0,rfl,r_ _,an.o,λ q S=>by simp at S,ao.o⟩
 case round=>
  obtain⟨k,rfl,hk,B,C,D⟩:=hrel;have M:=U B;have T:=U C;have V:=U D;clear B C D
  by_cases X:k<nl
  ·have aq:(k:Int)<(nl:Int):=by omega
   obtain⟨b,off,rfl,Z,aa⟩:=H.o.cells (by omega);obtain⟨a1,y,c1,ab,F⟩:=aa k X;have aE:=(V.o.cell (p:=⟨b,off+k,none⟩) Z).trans ab;have ad:k<ls.length:=by rw[R.o.1];exact X
   have ar:=U F;have aF:=F.small;have ae:=F.len;have aG:t_.wrap ((k:Int)+1)=(k:Int)+1:=by rw[v_];omega
   obtain⟨P,Y⟩:∃P,(ls.take k).flatten.length=P:=⟨_,rfl⟩
   have l:=U (z_ ad (z_ X (z_ ae Y)));rw[Y] at M T;have aH:=U M.o.lt;clear aa Z F ad ae ab Y
   go_wp2_with fail
   go_loopw [20] (λ i W=>∃j:Nat,i=.int .i64 j/\j<=y/\lY W w.heap.size (P+j) ((ls.flatten.take (P+j)).map λ x=>(aC x:Int))/\(∀q,q<P+j->pG n ls.flatten q=false)/\Below w.heap.size w W) (λ i _=>y-(intOf i).toNat)
   case atStart=>exact⟨0,rfl,r_ _,M.o,T.o,V.o⟩
   case round=>
    obtain⟨j,rfl,G,B,C,D⟩:=hrel;have M2:=U B;have af:=U C;have m:=U D;clear B C D
    by_cases r:j<y
    ·have au:(j:Int)<(y:Int):=by omega
     have aI:t_.wrap ((j:Int)+1)=(j:Int)+1:=by rw[v_];omega
     obtain⟨av,aw,rfl,I,J⟩:=ar.o.cells (by omega);have ax:=(m.o.cell (p:=⟨av,aw+j,none⟩) I).trans (J j r);obtain⟨x,E⟩:∃x,je (n5 ls k) j=x:=⟨_,rfl⟩
     rw[E] at ax;have a:=Ol l.o.1 (show j<(n5 ls k).length by rw[l.o.2.2.1];exact r);rw[E,l.o.2.2.2] at a;have K: -9223372036854775808<=x/\x<=9223372036854775807:=by rw[<-a.2];exact ak.o _ (tN a.1)
     have s:bJ (∀W:World,Calls w_ 83 #[.int .i64 x] W λ e w'=>e=.returned (.int .i64 (qc x))/\W=w'):=U λ W=>HY x W K
     have c:pG n ls.flatten (P+j)=(!(tI n x)||hasB ((ls.flatten.take (P+j)).map λ x=>(aC x:Int)) (aC x:Int)):=by unfold pG;rw[a.2]
     cases d:tI n x with
     |false=>
      have f:qc x<1\/¬qc x<1/\(n:Int)<qc x:=by
       unfold tI at d;rw[Bool.and_eq_false_iff,decide_eq_false_iff_not,decide_eq_false_iff_not] at d;unfold qc;split<;>omega
      have z:=U (show pG n ls.flatten (P+j)=true by rw[c,d];rfl);have L:=U a;obtain⟨v,t⟩:∃v,qc x=v:=⟨_,rfl⟩
      rw[t] at f s;clear J I E a K c d t r G;rcases f with f|⟨f,ay⟩
      ·go_wp2_with (go_at_call 83;refine(s.o _).mono ?_;rintro e w' ⟨rfl,rfl⟩)
       go_ret;exact⟨mO (x5 L.o.1 z.o).symm,m.o⟩
      ·go_wp2_with (go_at_call 83;refine(s.o _).mono ?_;rintro e w' ⟨rfl,rfl⟩)
       go_ret;exact⟨mO (x5 L.o.1 z.o).symm,m.o⟩
     |true=>
      have f:qc x=(aC x:Int)/\1<=aC x/\aC x<=n:=by
       unfold tI at d;rw[Bool.and_eq_true,decide_eq_true_eq,decide_eq_true_eq] at d;unfold qc aC;split<;>omega
      rw[f.1] at s;rw[d] at c;obtain⟨v,t⟩:∃v,aC x=v:=⟨_,rfl⟩
      rw[t] at f s c;have aJ:¬(v:Int)<1:=by omega
      have ay:¬(n:Int)<(v:Int):=by omega
      have N:(Lit.int .i64 (v:Int)).wf=true:=DI _ (by omega) (by omega);have ag:=M2.o.look N
      cases O:hasB ((ls.flatten.take (P+j)).map λ x=>(aC x:Int)) (v:Int) with
      |true=>
       rw[O] at ag c;have z:=U (show pG n ls.flatten (P+j)=true by rw[c];rfl);have L:=U a;clear J I E a K c d t r G N f O
       go_wp2_with (go_at_call 83;refine(s.o _).mono ?_;rintro e w' ⟨rfl,rfl⟩)
       go_ret;exact⟨mO (x5 L.o.1 z.o).symm,m.o⟩
      |false=>
       rw[O] at ag c;have z:=U (show pG n ls.flatten (P+j)=false by rw[c];rfl);have az:=R.o.2;have aA:=a.1;obtain⟨aK,aL,ah,ai⟩:=M2.o.put (by unfold maxLen;omega) N;have u:=U (z_ a (z_ t (z_ ah (z_ ai r))));clear J I E a K c d t r G N f O ah ai az aA
       go_wp2_with (go_at_call 83;refine(s.o _).mono ?_;rintro e w' ⟨rfl,rfl⟩)
       go_roundw
       case rel=>
        refine⟨j+1,by go_num,by have:=u.o.2.2.2.2;omega,?_,HZ af.o z.o,s5 m.o u.o.2.2.2.1 m.o.size (λ g e=>by injection e with e;omega)⟩;have h1:=u.o.2.2.1;have Q:(ls.flatten.take (P+(j+1))).map (λ x=>(aC x:Int))=(ls.flatten.take (P+j)).map (λ x=>(aC x:Int))++[(v:Int)]:=by
         rw[show P+(j+1)=(P+j)+1 by omega,uZ _ _ u.o.1.1,u.o.1.2,m_,<-u.o.2.1];rfl
        rw[Q];exact h1
       case measure=>have:=u.o.2.2.2.2;simp[intOf];omega
    ·have au:¬(j:Int)<(y:Int):=by omega
     obtain rfl:j=y:=by omega
     have Q:(ls.take (k+1)).flatten.length=P+j:=by rw[Oj l.o.1,l.o.2.2.1,l.o.2.2.2]
     have aj:=U Q;clear Q r G;go_wp2;go_roundw
     case rel=>exact⟨k+1,by go_num,by have:=l.o.2.1;omega,by rw[aj.o];exact M2.o,by rw[aj.o];exact af.o,m.o⟩
     case measure=>have:=l.o.2.1;simp[intOf];omega
  ·have aq:¬(k:Int)<(nl:Int):=by omega
   have aM:k=nl:=by omega
   go_wp2;go_ret;refine⟨mO (HL λ q S=>T.o q ?_).symm,V.o⟩;rw[k_ (by rw[R.o.1];omega)];exact S
end
section
open Go.RowKit Go.WideShapes Go.ChangeShapes
section
variable {H:Type}{enc:TypeId×Value->H}{P:Program}
theorem Ed{f:Func}{s:ChangeSpec}{apart fresh handsOn again:Bool}{W W':World}{args:Array Value}{v:Value}{ds gs:List (DataW H)}{before pa pv:List MemPlace}
  (c:DataW.Whole enc P f.params.toList s.vars apart W args.toList ds gs before)
  (d:∀(b:Nat)(sp:Nat->Bool)(l:Bool),DataW.TrodAll enc P W' b sp l f.resultTypes.toList (v.resultList f.resultTypes.size) (s.fn H (ds++gs)).results [])
  (e:∀sp:Nat->Bool,(∀p∈before,sp p.block=true)->DataW.TrodAll enc P W' 0 sp true f.params.toList args.toList (s.fn H (ds++gs)).args pa)
  (g:∀sp:Nat->Bool,(∀p∈before,sp p.block=true)->DataW.TrodVars enc P W' sp s.vars (s.fn H (ds++gs)).vars pv)
  (a:before=pa++pv) (h:Below W.heap.size W W')
  (m:∀(j:Nat)(t:TypeId)(r:Value),f.resultTypes[j]? =some t->(v.resultList f.resultTypes.size)[j]? =some r->Value.okWide P W' .any 0 t r):
  s.post enc P f apart fresh handsOn again W args v W':=by
 have i:∀p∈before,p.block<W.heap.size:=λ p hp=>c.lt p hp
 have hold:∀p∈before,(λ b=>decide (b<W.heap.size)) p.block=true:=λ p hp=>by simpa using i p hp
 refine⟨ds,gs,before,[],pa,pv,c,d _ _ _,e _ hold,g _ hold,World.keptBut_mono (λ p hp=>⟨hp,?_⟩) (h.frame (·∈before)),λ _=>?_⟩
 ·rw[a,List.mem_append] at hp;exact Or.inr hp
 ·obtain⟨_,_,_,_,_,n,o⟩:=c;refine⟨m,_,_,([]++pa)++pv,⟨[]++pa,pv,trodAll_append (e _ (λ _ _=>rfl)) (d _ _ _),g _ (λ _ _=>rfl),rfl,?_,?_⟩,?_⟩
  ·intro b off hp;have k:MemPlace.cell b off∈before:=by rw[a];simpa using hp
   rw[h.frozen (i _ k)];exact n b off k
  ·intro q;have:=o q;rw[a] at this;simpa using this
  ·intro p hp _;rw[a];simpa using hp
end
end
end Go.Proofs.YtogdlkfacflmaaaGreat
