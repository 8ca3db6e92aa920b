/- Parts of the walk of the solver and its core; no condition. -/
import Derived.Test.YtogdlkfacflmaaaGreatZW15
import Derived.Test.YtogdlkfacflmaaaGreatZW14
import Derived.Test.YtogdlkfacflmaaaGreatZW1
namespace Go.Proofs.YtogdlkfacflmaaaGreat
set_option linter.unusedVariables false
set_option linter.unusedSimpArgs false
set_option maxRecDepth 100000
set_option maxHeartbeats 8000000
open _root_.And renaming intro→z_
open _root_.List renaming getElem?_cons_zero→y_,getElem?_cons_succ→x_,take_succ_eq_append_getElem→o_,length_map→n_,length_append→m_,map_append→l_,take_of_length_le→j_,mem_of_getElem?→h_
open _root_.Nat renaming lt_of_lt_of_le→w_,le_trans→r_,zero_le→q_
open _root_.Go.Proofs.Tryz renaming prog→v_
open _root_.Go.IntKind renaming wrap_i64→u_,i64→t_
open _root_.Bool renaming noConfusion→s_
open _root_.Go.RowKit.Below renaming refl→p_
open _root_.Go.Ending renaming returned→k_
open _root_.Array renaming getElem?_mapIdx→i_
open _root_.Go.World renaming cell?_of_block→g_
variable{w W:World}{A aM ia A' fM aQ gG:Option Addr}{n c z bp iz aF cl c' bD aU bu bC gJ i:Nat}{ah ai:List Int}{es:List ny}{a0 a1 a2 a3 a4 a5 oU oV:Value}{s:kf}{e:mJ}{aT:Nat->Prop}{ls:List (List Int)}
section
open Go.RowKit Go.Shelf
def Az:List Value:=[.int .i64 0,.slice none 0 0,.slice none 0 0,.int .i64 0]
def sM(W:World)(z:Nat):Prop:=∃t cs,aN W z t cs/\∀u∈cs,u=.int .i64 0\/u=.slice none 0 0
theorem sM.int{W:World}{z off:Nat}{x:Int}(h:sM W z)(b:W.cell? ⟨z,off,none⟩=some (.int .i64 x)):x=0:=by
 obtain⟨t,cs,c,d⟩:=h;rw[c.cell off] at b;rcases d _ (h_ b) with e|e
 ·injection e
 ·cases e
theorem sM.bool{W:World}{z off:Nat}{x:Bool}(h:sM W z)(b:W.cell? ⟨z,off,none⟩=some (.bool x)):False:=by
 obtain⟨t,cs,c,d⟩:=h;rw[c.cell off] at b;rcases d _ (h_ b) with e|e<;>cases e
theorem aS.lt(h:aS w A n c ah):∀b,A.map (·.block)=some b->0<n->b<w.heap.size:=λ b e d=>by
 obtain⟨g,off,f,h1,_⟩:=h.cells d;rw[f] at e;injection e with e
 exact e▸h1
theorem oa.lt(h:oa w A n c es):∀b,A.map (·.block)=some b->0<n->b<w.heap.size:=λ b e d=>by
 obtain⟨g,off,f,h1,_⟩:=h.cells d;rw[f] at e;injection e with e
 exact e▸h1
theorem aS.yg(h:aS W A n c ah)(f:∀x∈ah,x≠0)(g:sM W z):∀b,A.map (·.block)=some b->0<n->b≠z:=by
 intro b e d i;obtain⟨j,off,k,h1,l⟩:=h.cells d;rw[k] at e;injection e with e
 have e:j=b:=e;subst e i;exact f _ (wg (by rw[h.len];exact d)) (g.int (l 0 d))
theorem kE.yg{ah:List Bool}(h:kE W A n c ah)(f:sM W z)(d:0<n):∀b,A.map (·.block)=some b->b≠z:=by
 intro b e g;obtain⟨i,off,j,h1,k⟩:=h.cells d;rw[j] at e;injection e with e
 have e:i=b:=e;subst e g;exact f.bool (k 0 d)
variable {K:Nat->Prop}{W W':World}{ki z2:Nat}
def s5(K:Nat->Prop)(ki z2 b:Nat):Prop:=K b/\b≠ki/\b≠z2
theorem oM.off{S:an}(h:oM K W S)(hl:∀p∈S.aA,p.lH=1\/p.lH=2\/p.lH=3)(h1:sM W ki)(k:sM W z2)(f:aC (s5 K ki z2) W W'):oM K W' S:=by
 intro d l;obtain⟨a1,a2,a3⟩:=h d l;refine⟨a1,a2,a3.imp id ?_⟩;rintro⟨b,off,e,hk,g⟩;refine⟨b,off,e,hk,λ j u c=>?_⟩;obtain⟨p,rest,hp⟩:∃p rest,S.aA=p::rest:=by
  cases m:S.aA with
  |nil=>rw[m] at c;simp[mg] at c
  |cons p rest=>exact⟨p,rest,rfl⟩
 have o:=g 0 (.int .i64 p.lH) (by rw[hp];rfl);have t:=hl p (by rw[hp];simp);have i:∀z,sM W z->b≠z:=λ z q r=>by
  subst r;have:=q.int o;omega
 have s:0<d.n:=by rw[a1,hp];simp
 rw[f.cell (p:=⟨b,off+j,none⟩) ⟨hk s,i ki h1,i z2 k⟩];exact g j u c
theorem rR.Hz{w w':World}{A:Option Addr}{n c:Nat}{es:List mJ}(h:rR w A n c es)(f:aC K w w')(l:∀b,b<w.heap.size->A.map (·.block)=some b->K b)(he:∀e∈es,∀b,b<w.heap.size->e.r.A.map (·.block)=some b->K b):rR w' A n c es:=
 ⟨h.len,h.cap,h.mG,h.od,λ d=>by
  obtain⟨b,off,e,i,m⟩:=h.cells d;refine⟨b,off,e,w_ i f.size,λ k hk=>?_⟩;rw[f.cell (p:=⟨b,off+k,none⟩) (l b i (by rw[e];rfl))];exact m k hk,λ e g=>(h.rows e g).iR f (λ b j d=>he e g b ((h.rows e g).lt b j d) j)⟩
theorem qm.NS{n:Nat}{p:nv}(h:qm K W n p)(h1:sM W ki)(i:sM W z2):qm (λ b=>b<W.heap.size/\s5 K ki z2 b) W n p:=by
 obtain⟨j,c,f⟩:=h.rd;exact⟨h.lH,⟨j,c,f⟩,λ b e d=>⟨c.lt b e d,h.blk b e d,c.yg (λ x g=>(f x g).oE) h1 b e d,c.yg (λ x g=>(f x g).oE) i b e d⟩⟩
theorem nx.NT{F:List (List Int)}{ai:List Int}{n bu aB:Nat}{kind:Int}{bk:Option Addr}{bA aV:Nat}{bF:Option Addr}{bE bl:Nat}(a:nx K W F ai n bu aB kind bk bA aV bF bE bl)(hl:∀x∈ai,gW n x)(k:sM W ki)(l:sM W z2)(f:aC (λ b=>b<W.heap.size/\s5 K ki z2 b) W W'):nx (λ _=>True) W' F ai n bu aB kind bk bA aV bF bE bl:=by
 rcases a with⟨h1,g,m,c,i,d⟩|⟨h1,g,co,c,i,d⟩|h1
 ·have hp:0<bA:=by have:=c.len;omega
  refine .inl ⟨h1,g,m,c.iR f (λ b e=>⟨?_,i b e,c.yg k hp b e,c.yg l hp b e⟩),λ _ _=>trivial,d⟩;obtain⟨s,off,p,q,_⟩:=c.cells hp;rw[p] at e;injection e with e
  exact e▸q
 ·have o:∀x∈co,x≠0:=λ x r=>(hl x (d.1.subset r)).oE
  exact .inr (.inl ⟨h1,g,co,c.iR f (λ b e j=>⟨c.lt b e j,i b e,c.yg o k b e j,c.yg o l b e j⟩),λ _ _=>trivial,d⟩)
 ·exact .inr (.inr h1)
noncomputable def yh(w:World)(D:Nat->Prop):World:={w with heap:=w.heap.mapIdx λ i o=>open Classical in if D i then .map #[] 0 else o}
theorem D4(w:World)(D:Nat->Prop):aC (λ b=>b<w.heap.size/\¬D b) w (yh w D):=
 ⟨rfl,rfl,rfl,by simp[yh],λ b c=>by
  show(w.heap.mapIdx _)[b]? =_;rw[i_];rw[Array.getElem?_eq_getElem c.1];simp[c.2]⟩
theorem D5{w:World}{D:Nat->Prop}{b:Nat}(d:D b)(off:Nat):(yh w D).cell? ⟨b,off,none⟩=none:=by
 unfold World.cell?;have:(yh w D).heap[b]? =(w.heap[b]?).map λ _=>.map #[] 0:=by
  show(w.heap.mapIdx _)[b]? =_;rw[i_];simp[d]
 show(match (yh w D).heap[b]? with|some (.cells c _ _)=>_|_=>none)=none;rw[this]
 cases w.heap[b]? <;>rfl
theorem aS.ze{w:World}{D:Nat->Prop}{A:Option Addr}{n c:Nat}{ah:List Int}(h:aS (yh w D) A n c ah):∀b,A.map (·.block)=some b->0<n->¬D b:=λ b e d f=>by
 obtain⟨g,off,i,_,j⟩:=h.cells d;rw[i] at e;injection e with e
 have e:g=b:=e;subst e;have:=j 0 d;rw[D5 f] at this
 cases this
theorem oa.ze{w:World}{D:Nat->Prop}{A:Option Addr}{n c:Nat}{es:List ny}(h:oa (yh w D) A n c es):∀b,A.map (·.block)=some b->0<n->¬D b:=λ b e d f=>by
 obtain⟨g,off,i,_,j⟩:=h.cells d;rw[i] at e;injection e with e
 have e:g=b:=e;subst e;have:=j 0 (by omega);rw[D5 f] at this;have hl:=h.len
 cases es with
 |nil=>simp at hl;omega
 |cons p rest=>simp[mP,rS] at this
def rT(w:World)(D:Nat->Prop)(s:kf)(aM:Option Addr)(aF:Nat)(d:Option Addr)(cl:Nat)(A:Option Addr)(c:Nat)(A':Option Addr)(c':Nat)(e:Option Addr)(f:Nat)(g:Option Addr)(i:Nat):Prop:=
 ∀W,aC (λ b=>b<w.heap.size/\¬D b) w W->qs W s aM aF d cl A c A' c' e f g i
theorem aX.four{base bf:Nat}{G:Nat}{hs:Nat->ax}{cb:Nat->Nat}{s:an}(h:aX K base W G hs cb s)(hk:K bf)(v0 v1 v2 v3:Value):aX K base ((((W.setCell ⟨bf,0,none⟩ v0).setCell ⟨bf,1,none⟩ v1).setCell ⟨bf,2,none⟩ v2).setCell ⟨bf,3,none⟩ v3) G hs cb s:=
 (((h.uU hk 0 v0).uU hk 1 v1).uU hk 2 v2).uU hk 3 v3
theorem aC.four{bf:Nat}(v0 v1 v2 v3:Value)(b:¬K bf):aC K W ((((W.setCell ⟨bf,0,none⟩ v0).setCell ⟨bf,1,none⟩ v1).setCell ⟨bf,2,none⟩ v2).setCell ⟨bf,3,none⟩ v3):=
 (((aC.set bf 0 v0 b).trans (aC.set bf 1 v1 b)).trans (aC.set bf 2 v2 b)).trans (aC.set bf 3 v3 b)
end
section
open Go.RowKit Go.Shelf
theorem NU{aK:Ending->World->Prop}{a:Act}{v0 v1 v2 v3 v4 v5 v6 jU og jJ lp c5:Value}(t:a.defers=[])(d:a.tmps.getD 6 undef=.pointer (some ⟨bp,0,none⟩))(e:a.tmps.getD 7 undef=.pointer (some ⟨iz,0,none⟩))(f:a.tmps.getD 8 undef=.int .i64 0)
  (b:aN W bp 47 [v0,v1,v2,v3,v4,v5,v6,jU]) (c:aN W iz 30 [og,jJ,lp,c5]) (h:aK (.returned (.tuple #[.agg #[v0,v1,v2,v3,v4,v5,v6,jU],.agg #[og,jJ,lp,c5],.int .i64 0])) W):bodyPost v_ Tryz.f36 aK .ret a W:=by
 have g:=b.cell 0;have i:=b.cell 1;have j:=b.cell 2;have k:=b.cell 3;have l:=b.cell 4;have m:=b.cell 5;have n:=b.cell 6;have o:=b.cell 7;have p:=c.cell 0;have q:=c.cell 1;have r:=c.cell 2;have s:=c.cell 3;simp only[y_,x_] at g i j k l m n o p q r s;refine bodyPost_ret (v:=.tuple #[.agg #[v0,v1,v2,v3,v4,v5,v6,jU],.agg #[og,jJ,lp,c5],.int .i64 0]) ?_ t h;rw[Array.getD_eq_getD_getElem?] at d e f;simp[results,Tryz.results36,go_sem,d,e,f,g,i,j,k,l,m,n,o,p,q,r,s]
theorem aN.vt{b:Nat}{t:TypeId}(h:aN w b t [a0,a1,a2,a3,a4,a5,oU,oV])(v0 v1 v2 v3 v4 v5 v6 c:Value):aN ((((((((w.setCell ⟨b,0,none⟩ v0).setCell ⟨b,1,none⟩ v1).setCell ⟨b,2,none⟩ v2).setCell ⟨b,3,none⟩ v3).setCell ⟨b,4,none⟩ v4).setCell ⟨b,5,none⟩ v5).setCell ⟨b,6,none⟩ v6).setCell ⟨b,7,none⟩ c) b t [v0,v1,v2,v3,v4,v5,v6,c]:=
 (((((((h.set 0 v0).set 1 v1).set 2 v2).set 3 v3).set 4 v4).set 5 v5).set 6 v6).set 7 c
def zf(w:World)(b c:Nat)(v0 v1 v2 v3 v4 v5 v6 d e f g i:Value):World:=
 (((((((((((((w.setCell ⟨b,0,none⟩ v0).setCell ⟨b,1,none⟩ v1).setCell ⟨b,2,none⟩ v2).setCell ⟨b,3,none⟩ v3).setCell ⟨b,4,none⟩ v4).setCell ⟨b,5,none⟩ v5).setCell ⟨b,6,none⟩ v6).setCell ⟨b,7,none⟩ d).setCell ⟨c,0,none⟩ e).setCell ⟨c,1,none⟩ f).setCell ⟨c,2,none⟩ g).setCell ⟨c,3,none⟩ i))
theorem zf.ok{bH c1 c2 c3:Value}(h1:aN w bp 47 [a0,a1,a2,a3,a4,a5,oU,oV])(o:aN w iz 30 [bH,c1,c2,c3])(n:bp≠iz)(v0 v1 v2 v3 v4 v5 v6 d f g j k:Value):
  aN (zf w bp iz v0 v1 v2 v3 v4 v5 v6 d f g j k) bp 47 [v0,v1,v2,v3,v4,v5,v6,d]/\aN (zf w bp iz v0 v1 v2 v3 v4 v5 v6 d f g j k) iz 30 [f,g,j,k]/\aC (λ b=>b≠bp/\b≠iz) w (zf w bp iz v0 v1 v2 v3 v4 v5 v6 d f g j k):=by
 have c:∀(u:World)(i:Nat)(v:Value),aC (λ b=>b≠bp) u (u.setCell ⟨bp,i,none⟩ v):=λ u i v=>aC.set _ i v (λ h=>h rfl)
 have l:∀(u:World)(i:Nat)(v:Value),aC (λ b=>b≠iz) u (u.setCell ⟨iz,i,none⟩ v):=λ u i v=>aC.set _ i v (λ h=>h rfl)
 have f1:aC (λ b=>b≠bp) w _:=((((((((c w 0 v0).trans (c _ 1 v1)).trans (c _ 2 v2)).trans (c _ 3 v3)).trans (c _ 4 v4)).trans (c _ 5 v5)).trans (c _ 6 v6)).trans (c _ 7 d))
 have g1:=aN.vt h1 v0 v1 v2 v3 v4 v5 v6 d;unfold zf;generalize ((((((((w.setCell ⟨bp,0,none⟩ v0).setCell ⟨bp,1,none⟩ v1).setCell ⟨bp,2,none⟩ v2).setCell ⟨bp,3,none⟩ v3).setCell ⟨bp,4,none⟩ v4).setCell ⟨bp,5,none⟩ v5).setCell ⟨bp,6,none⟩ v6).setCell ⟨bp,7,none⟩ d)=w' at*;have f2:aC (λ b=>b≠iz) w' _:=(((l w' 0 f).trans (l _ 1 g)).trans (l _ 2 j)).trans (l _ 3 k);exact⟨f2.blk g1 n,((((f1.blk o (λ e=>n e.symm)).set 0 f).set 1 g).set 2 j).set 3 k,(f1.mono λ b m=>m.1).trans (f2.mono λ b m=>m.2)⟩
def HA(w:World)(n:Nat)(s:kf)(c:Option Addr)(e:Ending)(W:World):Prop:=
 ∃(base G:Nat)(hs:Nat->ax)(cb:Nat->Nat)(S:an),e=.returned (.pointer (some ⟨G,0,none⟩))/\aX (λ b=>b<base) base W G hs cb S/\th n s ⟨c,s.aA.length,s.aA.length⟩ s.gs.length s.es.length S/\Below w.heap.size w W/\w.heap.size<=base
theorem NV(O:oB n s)(cG:n<=10)(bN:qs w s aM aF ia cl A c A' c' fM bD aQ aU)
  (bb:∀w,Calls v_ 109 #[.slice aQ s.aA.length aU] w λ e w'=>e=.returned (.slice aQ s.aA.length s.aA.length)/\w'=w):
  Calls v_ 98 #[p9 n aM s.gs.length aF ia s.es.length cl A (n+1) c A' n c' s.aZ fM (n+1) bD aQ s.aA.length aU] w (HA w n s aQ):=by
 unfold p9;obtain⟨L,bc⟩:∃x,s.gs.length=x:=⟨_,rfl⟩
 obtain⟨nl,af⟩:∃x,s.es.length=x:=⟨_,rfl⟩
 obtain⟨l,az⟩:∃x,s.aA.length=x:=⟨_,rfl⟩
 have y:=aa (z_ bN (z_ O (z_ bc (z_ af az))));rw[az] at bb;rw[bc,af,az];have cH:=aa bb;clear bN O bb bc af az;go_enter Tryz.func98,Tryz.ntmps98
 have aB:=bB w (.cells #[.int .i64 n,.slice aM L aF,.slice ia nl cl,.slice A (n+1) c,.slice A' n c',.int .i64 s.aZ,.slice fM (n+1) bD,.slice aQ l aU] 47);have Z:aN (w.alloc (.cells #[.int .i64 n,.slice aM L aF,.slice ia nl cl,.slice A (n+1) c,.slice A' n c',.int .i64 s.aZ,.slice fM (n+1) bD,.slice aQ l aU] 47)) w.heap.size 47 [.int .i64 n,.slice aM L aF,.slice ia nl cl,.slice A (n+1) c,.slice A' n c',.int .i64 s.aZ,.slice fM (n+1) bD,.slice aQ l aU]:=aN.new w 47 _;have bO:(w.alloc (.cells #[.int .i64 n,.slice aM L aF,.slice ia nl cl,.slice A (n+1) c,.slice A' n c',.int .i64 s.aZ,.slice fM (n+1) bD,.slice aQ l aU] 47)).heap.size=w.heap.size+1:=by simp
 go_upto_region 1 with fail
 generalize w.alloc (.cells #[.int .i64 n,.slice aM L aF,.slice ia nl cl,.slice A (n+1) c,.slice A' n c',.int .i64 s.aZ,.slice fM (n+1) bD,.slice aQ l aU] 47)=w1 at*;have bd:Hr w1 w.heap.size n s.act s.aZ s.gN A c fM bD aQ l aU (s.aA.map nK):=by
  refine⟨Z.cell 0,Z.cell 3,Z.cell 5,Z.cell 6,Z.cell 7,by omega,?_,?_,cH.o,by omega⟩
  ·have:=y.o.1.act.below aB;rw[y.o.2.1.hk.k5] at this;exact this
  ·have:=y.o.1.gN.below aB;rw[y.o.2.1.nE] at this;exact this
 have bP:=aa (NI w1 w.heap.size n s.act s.aZ s.gN A c fM bD aQ l aU (s.aA.map nK) bd);have H1:=aa (z_ aB (z_ Z (z_ bO bd)));clear aB Z bO bd;refine Nx (rj Tryz.f98 1) 42 123 _ _ [(1,.pointer (some ⟨w.heap.size,0,none⟩))] _ (qH w1 w.heap.size n s.act s.aZ s.gN A c fM bD aQ l aU (s.aA.map nK)) Cf (by kernel_rfl) (by kernel_rfl) (by kernel_rfl) (by kernel_rfl) (by kernel_rfl) (by decide+kernel) (by decide+kernel) (by decide+kernel) (by decide+kernel) (by decide+kernel) rfl ⟨rfl,trivial⟩ (qH.lt w1 w.heap.size n s.act s.aZ s.gN A c fM bD aQ l aU (s.aA.map nK)) ((p_ _ _).drew) bP.o _ rfl ?_;intro vals bQ bR bS cI cJ ar;obtain⟨hs,G,f41,bT,bU,bV⟩:∃hs b,vals 41=.pointer (some ⟨b,0,none⟩)/\aN bQ b sV (q6 hs (qt n s.act s.aZ s.gN (s.aA.map nK) ⟨aQ,l,l⟩))/\w1.heap.size<=b/\mc w1.heap.size qP nD bQ hs (cont hs sn (qt n s.act s.aZ s.gN (s.aA.map nK) ⟨aQ,l,l⟩)):=bS 41 (by omega);simp only[nZ,Act.put,List.take,f41] at ar;subst ar;have U:=aa (z_ bR (z_ bT (z_ bU bV)));clear bR bS cI f41 bT bU bV bP;simp only[bq,execOp];simp[cF,go_sem,Act.eval,Act.put];have bW:=(H1.o.2.1.below U.o.1).cell 4;simp only[y_,x_] at bW
 go_wp2_with fail
 go_loopw [57] (λ i W=>∃(k:Nat)(hs:Nat->ax),i=.int .i64 k/\k<=n/\aX (λ b=>b<w1.heap.size) w1.heap.size W G hs sn (qX n s.act s.aZ s.gN (s.aA.map nK) ⟨aQ,l,l⟩ s.ord k)/\aC (λ b=>b<w1.heap.size) w1 W) (λ i _=>n-(intOf i).toNat)
 case atStart=>
  refine⟨0,hs,rfl,q_ _,⟨⟨U.o.2.1,U.o.2.2.2,λ d C=>(by simp[qX,qt,n9] at C),λ d e C=>(by simp[qX,qt,n9] at C),U.o.2.2.1,λ d C=>(by simp[qX,qt,n9] at C)⟩,⟨λ b J=>w_ J U.o.1.size,λ h=>by have:=U.o.2.2.1;omega,λ r b e h=>by have:=(U.o.2.2.2.lt e).1;omega,λ d C=>(by simp[qX,qt,n9] at C)⟩⟩,aC.pY U.o.1 (λ b J=>J)⟩
 case round=>
  obtain⟨k,B,rfl,hk,V,hF⟩:=hrel;have E:=aa V;have F:=aa hF;clear V hF
  by_cases K:k<n
  ·have cK:(k:Int)<(n:Int):=by omega
   have bX:=y.o.2.1.hk.pN;obtain⟨aD,bf,rfl,bj,bY⟩:=y.o.1.ord.cells (by omega);have aE:=bY k (by omega);have bk:=y.o.2.1.hk.tZ K;obtain⟨x,bl⟩:∃x:Nat,j8 s.ord k=x:=⟨(j8 s.ord k).toNat,by have h1:1<=j8 s.ord k:=bk.1;omega⟩
   have bZ:1<=x/\x<=n:=by
    have h1:1<=j8 s.ord k/\j8 s.ord k<=n:=bk;omega
   rw[bl] at aE;have b0:aD<w1.heap.size:=w_ bj H1.o.1.size;have c9:wr.cell? ⟨aD,bf+k,none⟩=some (.int .i64 (x:Int)):=(F.o.cell (p:=⟨aD,bf+k,none⟩) b0).trans ((H1.o.1.cell (p:=⟨aD,bf+k,none⟩) bj).trans aE);have m:=aa (z_ bl (z_ bZ (z_ K bX)));clear bY aE bk bl bZ K hk bj b0 bX
   go_upto_region 5 with fail
   obtain⟨ab,n7,aG,ag⟩:∃A n c,B 7=⟨A,n,c⟩:=⟨_,_,_,rfl⟩
   have cL:n7=k:=by
    have h1:=E.o.e.n7;rw[ag] at h1;have bn:(s.ord.take k).length=k:=by rw[List.length_take];have:=m.o;omega
    exact h1.trans bn
   subst cL;have b1:(B 8).n=n+1:=E.o.e.n8.trans (Ap n s.ord n7);obtain⟨g8,b2,b3⟩:=E.o.e.rows.addr (r:=8) (by omega);obtain⟨bo,bp⟩:∃c,B 8=⟨some ⟨g8,0,none⟩,n+1,c⟩:=⟨(B 8).c,by rw[<-b2,<-b1]⟩
   have br:(B 7).b=ab.map (·.block):=by rw[ag];rfl
   have b4:fE (Hv wr w1.heap.size G (q6 B (qX n s.act s.aZ s.gN (s.aA.map nK) ⟨aQ,l,l⟩ s.ord n7)) ab n7 aG g8 (n+1) bo x (n7:Int) (s.ord.take n7)):=aa (by
    refine⟨?_,?_,by have:=m.o;omega,by omega,by have:=m.o;omega,F.o.size,E.o.e.box.lt,λ g au=>?_⟩
    ·show some (B 7).v=_;rw[ag];rfl
    ·show some (B 8).v=_;rw[bp];rfl
    ·rw[<-br] at au;exact⟨(E.o.e.rows.lt au).2,λ e=>E.o.e.ue 7 g au e.symm⟩)
   have b5:=aa (NM wr w1.heap.size G (q6 B (qX n s.act s.aZ s.gN (s.aA.map nK) ⟨aQ,l,l⟩ s.ord n7)) ab n7 aG g8 (n+1) bo x (n7:Int) (s.ord.take n7) b4.o);have b6:Ch w1.heap.size G (q6 B (qX n s.act s.aZ s.gN (s.aA.map nK) ⟨aQ,l,l⟩ s.ord n7)) ab n7 aG (s.ord.take n7) wr:=by
    have h1:wr.ownsRow w1.heap.size 3 1 (B 7).v (B 7).n (iY (s.ord.take n7)):=E.o.e.rows.row 7;rw[ag] at h1;exact⟨h1,E.o.e.box⟩
   have b7:Cg wr G (q6 B (qX n s.act s.aZ s.gN (s.aA.map nK) ⟨aQ,l,l⟩ s.ord n7)) ab wr:=⟨aC.refl,_,by rw[Ht b4.o.l10];exact E.o.e.box⟩
   have ad:=aa (z_ ag (z_ bp (z_ b3 (z_ br (z_ b6 b7)))));clear ag bp b3 br b6 b7 b2 b1;refine z7 (rj Tryz.f98 5) 18 123 _ _ [(3,.pointer (some ⟨G,0,none⟩)),(5,.int .i64 (x:Int)),(4,.int .i64 (n7:Int))] _ (zc wr w1.heap.size G (q6 B (qX n s.act s.aZ s.gN (s.aA.map nK) ⟨aQ,l,l⟩ s.ord n7)) ab n7 aG g8 (n+1) bo x (n7:Int) (s.ord.take n7)) Hu _ 12 (by kernel_rfl) (by kernel_rfl) (by kernel_rfl) (by kernel_rfl) (by kernel_rfl) (by decide+kernel) (by decide+kernel) (by decide+kernel) (by decide+kernel) (by decide+kernel) rfl ⟨rfl,rfl,rfl,trivial⟩ ⟨vY.drop ad.o.2.2.2.2.2.1 (p_ _ _).drew,ad.o.2.2.2.2.2.2.imp λ v h=>h.below (p_ _ _).drew⟩ ⟨nc ad.o.2.2.2.2.1.1 ((p_ _ _).drew),ad.o.2.2.2.2.1.2.below ((p_ _ _).drew)⟩ b5.o _ rfl ?_;intro b8 b9 b' aH cJ ar;obtain⟨h',ca,n16,cc⟩:∃h:ax,b9.ownsRow w1.heap.size 3 1 h.v (n7+1) (iY (s.ord.take n7++[(x:Int)]))/\(h.b=ab.map (·.block)\/∀g,h.b=some g->wr.heap.size<=g)/\aN b9 G sV ((q6 B (qX n s.act s.aZ s.gN (s.aA.map nK) ⟨aQ,l,l⟩ s.ord n7)).set 10 h.v):=aH 16 (by omega) rfl;have f17:b8 17=.pointer (some ⟨g8,x,none⟩):=aH 17 (by omega) rfl;have f13:b8 13=.int .i64 (n7:Int):=aH 13 (by omega) rfl;have cd:(qX n s.act s.aZ s.gN (s.aA.map nK) ⟨aQ,l,l⟩ s.ord n7).ord.length=n7:=by
    show(s.ord.take n7).length=n7;rw[List.length_take];have:=m.o;omega
   have P:=E.o.NN (h':=h') (x:=(x:Int)) (by rw[ad.o.2.2.2.1];exact b'.1) cc (by rw[cd];exact ca) (by rw[ad.o.2.2.2.1];exact n16);have aI:(iN B 7 h' 8).b=some g8:=by rw[bh _ _ (by decide)];exact ad.o.2.2.1
   have cf:=P.1.e.wP aI (k:=x) (by show x<(ux n s.ord n7).length;rw[Ap];have:=m.o;omega);have cg:=P.1.e.rows.free aI x;have ah:=P.1.xR aI x (n7:Int);have ch:aj s.ord n7=(x:Int):=m.o.1;have ae:((qX n s.act s.aZ s.gN (s.aA.map nK) ⟨aQ,l,l⟩ s.ord n7).vi (x:Int)).pJ x (n7:Int)=qX n s.act s.aZ s.gN (s.aA.map nK) ⟨aQ,l,l⟩ s.ord (n7+1):=by
    have h1:=NO n s.act s.aZ s.gN (s.aA.map nK) ⟨aQ,l,l⟩ s.ord n7 (by have:=m.o;omega);rw[ch,Int.toNat_natCast] at h1;exact h1
   rw[ae] at ah;have Q:=aa (z_ ah.1 ((F.o.trans P.2).trans ah.2));simp only[nZ,Act.put,List.take,f17,f13] at ar;subst ar;clear b' aH ca n16 cc f17 f13 P ah b5 ae ch cd aI;simp only[bq,execOp];simp[cF,go_sem,Act.eval,Act.put,cf,cg];clear cf cg
   go_wp2_with fail
   go_roundw
   case rel=>exact⟨n7+1,_,by go_num,by have:=m.o;omega,Q.o.1,Q.o.2⟩
   case measure=>have:=m.o;simp[intOf];omega
  ·obtain rfl:k=n:=by omega
   have cK:¬(k:Int)<(k:Int):=by omega
   have av:aN wr w.heap.size 47 [.int .i64 k,.slice aM L aF,.slice ia nl cl,.slice A (k+1) c,.slice A' k c',.int .i64 s.aZ,.slice fM (k+1) bD,.slice aQ l aU]:=F.o.blk H1.o.2.1 (by have:=H1.o.2.2.1;omega);have cj:=av.cell 1;simp only[y_,x_] at cj;clear K hk av bW
   go_wp2_with fail
   go_loopw [83] (λ i W=>∃(j:Nat)(hs:Nat->ax)(cb:Nat->Nat)(S:an),i=.int .i64 j/\j<=L/\aX (λ b=>b<w1.heap.size) w1.heap.size W G hs cb S/\aC (λ b=>b<w1.heap.size) w1 W/\th k s ⟨aQ,l,l⟩ j 0 S) (λ i _=>L-(intOf i).toNat)
   case atStart=>exact⟨0,B,sn,_,rfl,q_ _,E.o,F.o,th.init y.o.2.1⟩
   case round=>
    clear E F;obtain⟨j,cM,cN,S,rfl,ck,V,hF,R⟩:=hrel;have E:=aa V;have F:=aa hF;have t:=aa R;have aw:fE (Below w.heap.size w wr):=aa (H1.o.1.trans ((show Below w1.heap.size w1 wr from⟨hF.os,hF.tape,hF.output,hF.size,λ b J=>hF.keep b J⟩).mono H1.o.1.size));clear V hF R cj
    by_cases K:j<L
    ·have cO:(j:Int)<(L:Int):=by omega
     have aJ:=y.o.2.2.1;obtain⟨b,off,rfl,J,aK⟩:=(y.o.1.gs.below aw.o).cells (by omega);obtain⟨a1,bs,c1,aE,cm⟩:=aK j (by omega);have bt:j<s.gs.length:=by omega
     have ai:=y.o.2.1.bz _ (Cz bt);have bu:=y.o.2.1.g1;have bw:=t.o.vV;have da:t_.wrap ((j:Int)+1)=(j:Int)+1:=by rw[u_];omega
     have P:=(E.o.below (bB wr (.cells #[.slice a1 bs c1,.bool false,.int .i64 0,.int .i64 0] 166)))
     have hblk:aN (wr.alloc (.cells #[.slice a1 bs c1,.bool false,.int .i64 0,.int .i64 0] 166)) wr.heap.size vh [.slice a1 bs c1,.bool false,.int .i64 0,.int .i64 0]:=aN.new wr vh _;have bx:=aa (Gx (P.1.Dx t.o.cb wr.heap.size) t.o.l9.gP.aL t.o.l9.nF (by rw[t.o.l9.jt];omega) (by rw[t.o.l9.gP.wt.qM,t.o.l9.jt]) (λ q=>r_ (t.o.l9.gP.wt.mT q) (by omega)) (by rw[t.o.l9.st];simp) (x:=⟨false,0,0⟩) (jG _ _ _) hblk F.o.size (λ h=>by have:=F.o.size;omega) (λ d C=>by rw[bh _ _ (by omega)];have:=(E.o.e.cls d C).lt;omega) (aS.below cm (bB wr _)) (λ z bA=>by rw[t.o.l9.jt];exact ai z bA));have m:=aa (z_ bt (z_ P.2 K));clear aK cm ai bu bw P hblk aJ bt ck K J
     go_wp2_with (go_at_call 144;refine bx.o.mono ?_;rintro e db ⟨rfl,X,cn,cp⟩;have ah:=aa cn;have cP:=aa cp;clear cn cp)
     go_roundw
     case rel=>exact⟨j+1,X,_,_,by go_num,by have:=m.o.2.2;omega,ah.o,F.o.trans (m.o.2.1.trans cP.o),t.o.given y.o.2.1 (by omega) m.o.1⟩
     case measure=>have:=m.o.2.2;simp[intOf];omega
    ·obtain rfl:j=L:=by omega
     have cO:¬(j:Int)<(j:Int):=by omega
     have av:aN wr w.heap.size 47 [.int .i64 k,.slice aM j aF,.slice ia nl cl,.slice A (k+1) c,.slice A' k c',.int .i64 s.aZ,.slice fM (k+1) bD,.slice aQ l aU]:=F.o.blk H1.o.2.1 (by have:=H1.o.2.2.1;omega);have cq:=av.cell 2;simp only[y_,x_] at cq;clear K ck av
     go_wp2_with fail
     go_loopw [96] (λ i W=>∃(q:Nat)(hs:Nat->ax)(cb:Nat->Nat)(S:an),i=.int .i64 q/\q<=nl/\aX (λ b=>b<w1.heap.size) w1.heap.size W G hs cb S/\aC (λ b=>b<w1.heap.size) w1 W/\th k s ⟨aQ,l,l⟩ j q S) (λ i _=>nl-(intOf i).toNat)
     case atStart=>exact⟨0,cM,cN,S,rfl,q_ _,E.o,F.o,t.o⟩
     case round=>
      clear E F t aw;obtain⟨q,X,T,u,rfl,cr,V,hF,R⟩:=hrel;have E:=aa V;have F:=aa hF;have t:=aa R;have aw:fE (Below w.heap.size w wr):=aa (H1.o.1.trans ((show Below w1.heap.size w1 wr from⟨hF.os,hF.tape,hF.output,hF.size,λ b J=>hF.keep b J⟩).mono H1.o.1.size));clear V hF R cq
      by_cases K:q<nl
      ·have cQ:(q:Int)<(nl:Int):=by omega
       have af:=y.o.2.2.2.1;have aJ:=y.o.2.2.1;have ct:=y.o.2.1.mT;have dc:=xo cG;have dd:t_.wrap ((q:Int)+1)=(q:Int)+1:=by rw[u_];omega
       have aP:=y.o.1.es.below aw.o;rw[af] at aP;have aR:q<s.es.length:=by omega
       obtain⟨b,off,rfl,J,aK⟩:=aP.cells (by omega);obtain⟨aT,aV,aW,bC⟩:=aP.Hh K aR;obtain⟨⟨⟨D,H,I,bE⟩,bg,ac⟩,ae⟩:∃e,s.es[q]=e:=⟨_,rfl⟩
       rw[ae] at aT aV aW bC;replace aT:wr.cell? ⟨b,off+q*3,none⟩=some (.slice D H I):=aT;replace aV:wr.cell? ⟨b,off+q*3+1,none⟩=some (.int .i64 bg):=aV;replace aW:wr.cell? ⟨b,off+q*3+2,none⟩=some (.int .i64 ac):=aW;have ai:=(y.o.2.1.xm _ (List.getElem_mem aR)).1.lt;rw[ae] at ai;have m:=aa (z_ aR (z_ K (z_ (show∀p:q<s.es.length,s.es[q]'p=(⟨⟨D,H,I,bE⟩,bg,ac⟩:mJ) from λ _=>ae) (z_ ai (z_ bC (z_ aJ ct))))));clear aK ai aJ bC ae aR cr J aP ct af
       go_upto_region 15 with fail
       have aY:aN (wr.alloc (.cells #[.slice D H I,.int .i64 bg,.int .i64 ac] 74)) wr.heap.size 74 [.slice D H I,.int .i64 bg,.int .i64 ac]:=aN.new wr 74 _;have cu:=bB wr (.cells #[.slice D H I,.int .i64 bg,.int .i64 ac] 74);generalize wr.alloc (.cells #[.slice D H I,.int .i64 bg,.int .i64 ac] 74)=M at*;have t0:=aY.cell 0;have t1:=aY.cell 1;have t2:=aY.cell 2;simp only[y_,x_] at t0 t1 t2;have bF:=aa cu;clear cu aY aT aV aW
       go_upto_region 16 with fail
       have Q:=E.o.below bF.o;have bH:=Q.1.below (bB M (.cells #[.slice D H I,.bool true,.int .i64 bg,.int .i64 ac] 166));have hblk:aN (M.alloc (.cells #[.slice D H I,.bool true,.int .i64 bg,.int .i64 ac] 166)) M.heap.size vh [.slice D H I,.bool true,.int .i64 bg,.int .i64 ac]:=aN.new M vh _;have bI:(M.alloc (.cells #[.slice D H I,.bool true,.int .i64 bg,.int .i64 ac] 166)).heap.size=M.heap.size+1:=by simp
       have cv:aS (M.alloc (.cells #[.slice D H I,.bool true,.int .i64 bg,.int .i64 ac] 166)) D H I bE:=aS.below (aS.below m.o.2.2.2.2.1 bF.o) (bB M _);obtain⟨blk,cR⟩:∃b,M.heap.size=b:=⟨_,rfl⟩
       rw[cR] at hblk bI⊢;have cw:∀d,d<u.c.cl.length->T d≠blk:=λ d C=>by have:=(Q.1.e.cls d C).lt;omega
       have cx:∀g,(X 10).b=some g->g<blk:=λ g au=>by have:=(Q.1.e.rows.lt au).2;omega
       have cy:G<blk:=by have:=Q.1.e.box.lt;omega
       have cz:w1.heap.size<=blk:=by have:=F.o.size;have:=bF.o.size;omega
       generalize M.alloc (.cells #[.slice D H I,.bool true,.int .i64 bg,.int .i64 ac] 166)=N at*;have a6:=bH.1.Dx t.o.cb blk;obtain⟨ak,n10,al,ao⟩:∃A n c,X 10=⟨A,n,c⟩:=⟨_,_,_,rfl⟩
       have de:N.cell? ⟨G,13,none⟩=some (.slice ak n10 al):=by have:=a6.e.ku (k:=13) (v:=(X 10).v) rfl;rw[ao] at this;exact this
       have bJ:n10=u.aO.length:=by have:=a6.e.n10;rw[ao] at this;exact this
       have a7:=aa (a6.below (bB N (.cells #[.pointer (some ⟨blk,0,none⟩)] 164)));have hp:(N.alloc (.cells #[.pointer (some ⟨blk,0,none⟩)] 164)).cell? ⟨N.heap.size,0,none⟩=some (.pointer (some ⟨blk,0,none⟩)):=by go_simp
       have cS:=aa (ry.one hp);have cT:fE ((N.alloc (.cells #[.pointer (some ⟨blk,0,none⟩)] 164)).ownsRow w1.heap.size 164 1 (.slice ak n10 al) n10 (kW (iN T u.c.cl.length blk) u.aO)):=aa (by
        have:=a7.o.1.e.rows.row 10;rw[ao] at this;exact this)
       have cU:=aa (Nat.le_of_lt a7.o.1.e.lt);have cV:fE (∀v9 bG,nW (N.alloc (.cells #[.pointer (some ⟨blk,0,none⟩)] 164)) w1.heap.size 164 (.slice ak n10 al) (n10+1) (kW (iN T u.c.cl.length blk) u.aO++[.pointer (some ⟨blk,0,none⟩)]) v9 bG->nW (N.alloc (.cells #[.pointer (some ⟨blk,0,none⟩)] 164)) w1.heap.size 164 (X 10).v (u.aO.length+1) (kW (iN T u.c.cl.length blk) (u.aO++[u.c.cl.length])) v9 bG):=aa (λ v9 bG ay=>by
        have e:kW (iN T u.c.cl.length blk) (u.aO++[u.c.cl.length])=kW (iN T u.c.cl.length blk) u.aO++[.pointer (some ⟨blk,0,none⟩)]:=by simp[kW,sX,jG]
        rw[e,ao,<-bJ];exact ay)
       have cW:=aa (hblk.below (bB N (.cells #[.pointer (some ⟨blk,0,none⟩)] 164)));have cX:=aa (F.o.trans (Q.2.trans (bH.2.trans a7.o.2)));have Y:=aa (z_ cw (z_ cx (z_ cy (z_ cz (z_ ao (z_ bJ (z_ cv bI)))))));have df:n10<=100000:=by have h1:=t.o.kX;have bn:=m.o.1;have cY:=m.o.2.2.2.2.2.2;omega
       clear hp Q bH a6 hblk cw cx cy cz ao bJ cv bI t0 t1 t2
       go_upto_region 17 with(at_builtin;refine Fz rfl (.tmp 112) (.tmp 114) rfl w1.heap.size (.slice ak n10 al) n10 (kW (iN T u.c.cl.length blk) u.aO) rfl cT.o (some ⟨N.heap.size,0,none⟩) 1 1 _ rfl cS.o (by omega) cU.o ?_;intro v9 bG ay;obtain⟨⟨a8,a',c3⟩,cA,cZ,bK,a2,ba,bL⟩:=aX.FB (x:=u.c.cl.length) a7.o.1 (v':=v9) (cV.o v9 bG ay);change v9=.slice a8 a' c3 at cA;subst cA;have c0:=aa ((cW.o.kept ay.2.1 (λ e=>by have:=Y.o.2.1 blk (by rw[Y.o.2.2.2.2.1];exact(ax.own ⟨ak,n10,al⟩).symm.trans e.symm);omega)).kept (kZ bG G 13 (.slice a8 a' c3)) (λ e=>by injection e with e;have:=Y.o.2.2.1;omega));have dh:=aa ((aS.below Y.o.2.2.2.2.2.2.1 (bB N (.cells #[.pointer (some ⟨blk,0,none⟩)] 164))));have ba:=aa ba;have bL:=aa bL;clear ay cZ;have a1:bG.cell? ⟨G,13,none⟩=some (.slice ak n10 al):=(by rw[Y.o.2.2.2.2.1] at bK;exact bK);clear bK)
       generalize bG.setCell ⟨G,13,none⟩ (.slice a8 a' c3)=bM at*;obtain⟨di,c4⟩:∃f,iN X 10 ⟨a8,a',c3⟩=f:=⟨_,rfl⟩
       rw[c4] at ba;have bu:=y.o.2.1.g1;have bw:=t.o.vV;have aq:=aa (cX.o.trans bL.o);have cB:Below w.heap.size w bM:=H1.o.1.trans ((show Below w1.heap.size w1 bM from⟨aq.o.os,aq.o.tape,aq.o.output,aq.o.size,λ b J=>aq.o.keep b J⟩).mono H1.o.1.size);have cC:aS bM D H I bE:=by
        have h:=y.o.1.es.rows _ (List.getElem_mem m.o.1);rw[m.o.2.2.1 m.o.1] at h;exact aS.below h cB
       have bx:=aa (Gx ba.o t.o.l9.gP.aL t.o.l9.nF (by show u.c.n<=_;rw[t.o.l9.jt];omega) (by show u.c.wt.length=_;rw[t.o.l9.gP.wt.qM,t.o.l9.jt];show _=2*u.c.n+2;rw[t.o.l9.jt]) (λ q=>r_ (t.o.l9.gP.wt.mT q) (by have bn:=m.o.1;have cY:=m.o.2.2.2.2.2.2;have dj:=m.o.2.2.2.2.2.1;omega)) (by show u.c.st.length<=_;rw[t.o.l9.st];simp) (x:=⟨true,bg,ac⟩) (blk:=blk) (jG _ _ _) c0.o Y.o.2.2.2.1 (λ h=>by have:=Y.o.2.2.2.1;omega) (λ d C=>by have C:d<u.c.cl.length:=C;show iN T u.c.cl.length blk d≠blk;rw[bh _ _ (by omega)];exact Y.o.1 d C) cC (λ z bA=>by show gW u.c.n z;rw[t.o.l9.jt];exact m.o.2.2.2.1 z bA));have R:=t.o.NQ y.o.2.1 (by omega) m.o.1;rw[m.o.2.2.1 m.o.1] at R;have c5:=aa R;clear R cC cB bu bw
       go_wp2_with (go_at_call 144;refine bx.o.mono ?_;rintro e dk ⟨rfl,c6,cD,cE⟩;have c7:=aa cD;have c8:=aa cE;clear cD cE)
       go_roundw
       case rel=>exact⟨q+1,c6,_,_,by go_num,by have:=m.o.2.1;omega,c7.o,aq.o.trans c8.o,c5.o⟩
       case measure=>have:=m.o.2.1;simp[intOf];omega
      ·obtain rfl:q=nl:=by omega
       have cQ:¬(q:Int)<(q:Int):=by omega
       clear K cr
       go_wp2_with fail
       go_ret;refine⟨w1.heap.size,G,X,T,u,rfl,E.o,?_,aw.o,H1.o.1.size⟩;rw[y.o.2.2.1,y.o.2.2.2.1,y.o.2.2.2.2];exact t.o
end
section
open Go.RowKit
theorem kE.NW{gN:List Bool}(h:kE w A n c gN)(d:0<n):∃b off,A=some ⟨b,off,none⟩/\b<w.heap.size/\w.cell? ⟨b,off,none⟩=some (.bool (iU gN 0)):=by
 obtain⟨b,off,e,f,g⟩:=h.cells d;exact⟨b,off,e,f,g 0 d⟩
theorem oe.AA(w:World)(r:Row)(d:aS w r.A r.n r.c r.ah):oe (w.alloc (.cells #[kO r] 25)) (some ⟨w.heap.size,0,none⟩) 1 1 [r]:=by
 refine⟨rfl,Nat.le_refl _,by omega,by unfold maxLen;omega,λ _=>⟨w.heap.size,0,rfl,by simp,λ j u b=>?_⟩,λ q e=>?_⟩
 ·have f:j=0:=by
   have:=(List.getElem?_eq_some_iff.1 b).1;simp at this;omega
  subst f;have hu:kO r=u:=by simpa using b
  subst hu;exact(aN.new w 25 [kO r]).cell 0
 ·rw[List.mem_singleton.1 e];exact d.alloc _
theorem NX(h:e.r.ah.length=0):tf e=true:=by simp[tf,h]
theorem D6(b:e.r.ah.length≠0):tf e=(mR e.bg||mR e.ac):=by simp[tf,b]
theorem NY(n:Nat)(gs:List (List Int))(es:List mJ)(act ord:List Int)(ab:Int)(bb:List Bool)(C:List ny){js nl bw:Nat}{aM:Option Addr}{aF:Nat}{ia:Option Addr}{cl:Nat}{A:Option Addr}{c:Nat}{A':Option Addr}{c':Nat}{fM:Option Addr}{bD:Nat}{aQ:Option Addr}{aU:Nat}{w:World}
  (cg:n<=65536) (bc:tR act ord ab=true) (bd:iU bb 0=false) (P:nl<=1000000)
  (bf:kD w aM js aF gs) (Q:rR w ia nl cl es) (bh:aS w A (n+1) c act) (bj:aS w A' n c' ord) (aD:kE w fM (n+1) bD bb) (R:oa w aQ bw aU C):
  Calls v_ 49 #[p9 n aM js aF ia nl cl A (n+1) c A' n c' ab fM (n+1) bD aQ bw aU] w λ e w'=>e=.returned (.int .i64 (if lq n gs≠0 then lq n gs else if es.any tf=true then 1 else if lq n (es.map (·.r.ah))≠0 then lq n (es.map (·.r.ah)) else if C.any (tg n)=true then 1 else 0))/\Below w.heap.size w w':=by
 obtain⟨S,ae,rfl,bk,aE⟩:=aD.NW (by omega);rw[bd] at aE;unfold p9;have b2:¬(n:Int)<0:=by omega
 have b3:¬(65536:Int)<n:=by omega
 have d0:decide ((n:Int)<0)=false:=decide_eq_false b2;have d1:decide ((65536:Int)<n)=false:=decide_eq_false b3;have wn:t_.wrap ((n:Int)+1)=(n:Int)+1:=by rw[u_];omega
 have ch:=Q.mG;have aG:=R.mG;obtain⟨av,aH⟩:∃x,lq n gs=x:=⟨_,rfl⟩
 obtain⟨el,aI⟩:∃x,lq n (es.map (·.r.ah))=x:=⟨_,rfl⟩
 rw[aH,aI];obtain⟨cj,aJ⟩:∃x,(if av≠0 then av else if es.any tf=true then 1 else if el≠0 then el else if C.any (tg n)=true then 1 else 0)=x:=⟨_,rfl⟩
 rw[aJ];have G:=aa aJ;clear aJ;have H:=aa (z_ bf (z_ Q (z_ bh (z_ bj (z_ aD R)))));have aw:=aa (z_ aE bk);have aj:=aa (z_ bc (z_ aH aI));clear aE bk bf Q bh bj aD R bc aH aI bd;go_enter Tryz.func49,Tryz.ntmps49
 have ak:=bB w (.cells #[.int .i64 n,.slice aM js aF,.slice ia nl cl,.slice A (n+1) c,.slice A' n c',.int .i64 ab,.slice (some ⟨S,ae,none⟩) (n+1) bD,.slice aQ bw aU] 47);have E:aN (w.alloc (.cells #[.int .i64 n,.slice aM js aF,.slice ia nl cl,.slice A (n+1) c,.slice A' n c',.int .i64 ab,.slice (some ⟨S,ae,none⟩) (n+1) bD,.slice aQ bw aU] 47)) w.heap.size 47 [.int .i64 n,.slice aM js aF,.slice ia nl cl,.slice A (n+1) c,.slice A' n c',.int .i64 ab,.slice (some ⟨S,ae,none⟩) (n+1) bD,.slice aQ bw aU]:=aN.new w 47 _
 go_upto_region 1 with fail
 generalize w.alloc (.cells #[.int .i64 n,.slice aM js aF,.slice ia nl cl,.slice A (n+1) c,.slice A' n c',.int .i64 ab,.slice (some ⟨S,ae,none⟩) (n+1) bD,.slice aQ bw aU] 47)=w1 at*;have bl:=E.cell 0;have bn:=E.cell 1;have bo:=E.cell 2;have bp:=E.cell 3;have bq:=E.cell 4;have br:=E.cell 5;have bs:=E.cell 6;have bt:=E.cell 7;simp only[y_,x_] at bl bn bo bp bq br bs bt;have bu:=g_ (a:=⟨S,ae,none⟩) (ak.block S aw.o.2);rw[aw.o.1] at bu;have b4:=aa E;have bx:=aa ak;have bz:=aa (Ja A (n+1) c act A' n c' ord ab w1 (H.o.2.2.1.below ak) (H.o.2.2.2.1.below ak));clear E ak
 go_upto_region 3 with(go_at_call 111;refine bz.o.mono ?_;rintro e wr ⟨rfl,aK⟩;rw[aj.o.1];have I:=aa (b4.o.below aK);have af:=aa (bx.o.trans (aK.mono bx.o.size));have bA:=g_ (a:=⟨S,ae,none⟩) (af.o.block S aw.o.2);rw[aw.o.1] at bA;clear bl bn bo bp bq br bs bt bu aK;have T:=I.o.cell 0;have bC:=I.o.cell 1;have bE:=I.o.cell 2;have bF:=I.o.cell 3;have bH:=I.o.cell 4;have bI:=I.o.cell 5;have bJ:=I.o.cell 6;have al:=I.o.cell 7;simp only[y_,x_] at T bC bE bF bH bI bJ al;dsimp only[yo])
 have aL:=aa (wk n aM js aF gs wr (H.o.1.below af.o))
 by_cases aO:av=0
 ·subst aO;have ck:((0:Int)==0)=true:=rfl
  go_upto_region 8 with(go_at_call 107;refine aL.o.mono ?_;rintro e ws ⟨rfl,ag⟩;rw[aj.o.2.1];have bK:=aa (I.o.below ag);have y:=aa (af.o.trans (ag.mono af.o.size));clear T bC bE bF bH bI bJ al ag bA;have z2:=bK.o.cell 2;simp only[y_,x_] at z2;dsimp only)
  clear aL bz
  go_wp2_with fail
  go_loopw [4,71] (λ l i W=>∃(k:Nat)(J:Option Addr)(K:Nat),l=.slice J k K/\i=.int .i64 k/\k<=nl/\(es.take k).any tf=false/\W.ownsRow ws.heap.size 25 1 (.slice J k K) k (((es.take k).map (λ e:mJ=>e.r)).map kO)/\Below ws.heap.size ws W) (λ _ i _=>nl-(intOf i).toNat)
  case atStart=>exact⟨0,none,0,rfl,rfl,q_ _,rfl,World.ownsRow_nil _ _ _ _,p_ _ _⟩
  case round=>
   obtain⟨k,J,K,rfl,rfl,hk,U,an,ad⟩:=hrel;have u:=aa (z_ U (z_ an ad));clear U an ad
   by_cases z:k<nl
   ·have Q:=H.o.2.1.below (y.o.trans (u.o.2.2.mono y.o.size));have aP:k<es.length:=by rw[Q.len];exact z
    have aR:(k:Int)<(nl:Int):=by omega
    obtain⟨b,off,rfl,ad,aT⟩:=Q.cells (by omega);obtain⟨L,M,ay,V⟩:=Q.Hh z aP;obtain⟨⟨⟨m,f,q,s⟩,bg,ac⟩,P⟩:∃e,es[k]=e:=⟨_,rfl⟩
    rw[P] at L M ay V;replace L:wr.cell? ⟨b,off+k*3,none⟩=some (.slice m f q):=L;replace M:wr.cell? ⟨b,off+k*3+1,none⟩=some (.int .i64 bg):=M;replace ay:wr.cell? ⟨b,off+k*3+2,none⟩=some (.int .i64 ac):=ay;clear aT Q
    go_upto_region 11 with fail
    have mE:aN (wr.alloc (.cells #[.slice m f q,.int .i64 bg,.int .i64 ac] 74)) wr.heap.size 74 [.slice m f q,.int .i64 bg,.int .i64 ac]:=aN.new wr 74 _;have X:=bB wr (.cells #[.slice m f q,.int .i64 bg,.int .i64 ac] 74);have bL:(wr.alloc (.cells #[.slice m f q,.int .i64 bg,.int .i64 ac] 74)).heap.size=wr.heap.size+1:=by simp
    generalize wr.alloc (.cells #[.slice m f q,.int .i64 bg,.int .i64 ac] 74)=v at*;have t0:=mE.cell 0;have t1:=mE.cell 1;have t2:=mE.cell 2;simp only[y_,x_] at t0 t1 t2;have Y:=aa (z_ X (z_ mE bL));have d:=aa (z_ (show∀p:k<es.length,es[k]'p=(⟨⟨m,f,q,s⟩,bg,ac⟩:mJ) from λ _=>P) (z_ V (z_ aP z)));have aV:=V.len;replace aV:s.length=f:=aV;clear X mE L M ay P V aP z hk bL
    by_cases bM:f=0
    ·subst bM;have t:es.any tf=true:=y7 d.o.2.2.1 (by rw[d.o.1 d.o.2.2.1];exact NX aV);have D:=aa t;clear t
     go_wp2_with fail
     go_ret;exact⟨qv (by rw[<-G.o,if_neg (by omega),if_pos D.o]),y.o.trans ((u.o.2.2.trans (Y.o.1.mono u.o.2.2.size)).mono y.o.size)⟩
    ·have cm:((f:Int)==0)=false:=by simpa using bM
     cases N:mR bg with
     |true=>
      have t:es.any tf=true:=y7 d.o.2.2.1 (by rw[d.o.1 d.o.2.2.1,D6 (by show s.length≠0;omega)];show(mR bg||_)=true;rw[N];rfl);have D:=aa t;have b5:=aa N;clear t N
      go_wp2_with (go_at_call 112;refine(DZ _ _).mono ?_;rintro e bN ⟨rfl,rfl⟩;rw[b5.o])
      go_ret;exact⟨qv (by rw[<-G.o,if_neg (by omega),if_pos D.o]),y.o.trans ((u.o.2.2.trans (Y.o.1.mono u.o.2.2.size)).mono y.o.size)⟩
     |false=>
      cases ai:mR ac with
      |true=>
       have t:es.any tf=true:=y7 d.o.2.2.1 (by rw[d.o.1 d.o.2.2.1,D6 (by show s.length≠0;omega)];show(mR bg||mR ac)=true;rw[N,ai];rfl);have D:=aa t;have ao:=aa (z_ N ai);clear t N ai
       go_wp2_with (go_at_call 112;refine(DZ _ _).mono ?_;rintro e bN ⟨rfl,rfl⟩;first|rw[ao.o.1]|rw[ao.o.2])
       go_ret;exact⟨qv (by rw[<-G.o,if_neg (by omega),if_pos D.o]),y.o.trans ((u.o.2.2.trans (Y.o.1.mono u.o.2.2.size)).mono y.o.size)⟩
      |false=>
       have aq:tf ⟨⟨m,f,q,s⟩,bg,ac⟩=false:=by rw[D6 (by show s.length≠0;omega)];show(mR bg||mR ac)=false;rw[N,ai];rfl
       have aW:=aa aq;have ao:=aa (z_ N ai);clear aq N ai
       go_upto_region 13 with(go_at_call 112;refine(DZ _ _).mono ?_;rintro e bN ⟨rfl,rfl⟩;first|rw[ao.o.1]|rw[ao.o.2])
       have bO:ws.heap.size<=v.heap.size:=r_ u.o.2.2.size Y.o.1.size;have bP:fE ((v.alloc (.cells #[kO ⟨m,f,q,s⟩] 25)).ownsRow ws.heap.size 25 1 (.slice J k K) k (((es.take k).map (λ e:mJ=>e.r)).map kO)):=aa (nc (nc u.o.2.1 Y.o.1) (bB v _));have bQ:=aa bO;have b6:fE (aS v m f q s):=aa (aS.below d.o.2.1 Y.o.1);clear bO;have aX:=d.o.2.2.2
       go_upto_region 14 with(at_builtin;refine IT rfl (.tmp 91) (.tmp 94) rfl ws.heap.size (.slice J k K) k ((es.take k).map (λ e:mJ=>e.r)) rfl bP.o (some ⟨v.heap.size,0,none⟩) 1 1 [⟨m,f,q,s⟩] rfl (oe.AA v ⟨m,f,q,s⟩ b6.o) (by omega) (by have:=bQ.o;simp;omega) ?_;intro v9 bG aY;obtain⟨⟨bR,j3,bS⟩,b7,az⟩:=ax.lG aY.1;obtain rfl:v9=.slice bR j3 bS:=b7;have bT:=aa aY;have b8:=aa az;clear aY az)
       have az:j3=k+1:=b8.o;subst az;have bU:Below ws.heap.size ws bG:=uX (u.o.2.2.trans ((Y.o.1.trans ((bB v (.cells #[kO ⟨m,f,q,s⟩] 25)).mono Y.o.1.size)).mono u.o.2.2.size)) bT.o.2.1 (by have:=bQ.o;simp;omega) (λ g e=>(bP.o.lt g e).1);have b9:=aa bU;clear bU
       go_wp2_with fail
       go_roundw
       case rel=>
        refine⟨k+1,bR,bS,rfl,by go_num,by omega,Hf d.o.2.2.1 (by rw[d.o.1 d.o.2.2.1];exact aW.o) u.o.1,?_,b9.o⟩;have h1:=bT.o.1;rw[o_ d.o.2.2.1,d.o.1 d.o.2.2.1,l_];exact h1
       case measure=>simp[intOf];omega
   ·have U:=Hg H.o.2.1.len z u.o.1;have aR:¬(k:Int)<(nl:Int):=by omega
    obtain rfl:k=nl:=by omega
    have ar:=aa U;have aZ:=aa (bK.o.below u.o.2.2);have au:=aa (y.o.trans (u.o.2.2.mono y.o.size));have hlen:=H.o.2.1.len;have an:wr.ownsRow ws.heap.size 25 1 (.slice J k K) k ((es.map (λ e:mJ=>e.r)).map kO):=by
     have h1:=u.o.2.1;rw[j_ (by omega)] at h1;exact h1
    have a6:=kD.lG an (λ r b'=>by
     obtain⟨e,he,rfl⟩:=List.mem_map.1 b';exact((H.o.2.1.below au.o).rows e he)) (by omega)
    rw[List.map_map] at a6;have bV:fE (kD wr J k K (es.map (λ e:mJ=>e.r.ah))):=aa a6;have T:=aZ.o.cell 0;have al:=aZ.o.cell 7;simp only[y_,x_] at T al;clear U an a6 z hk z2
    by_cases a7:el=0
    ·subst a7
     go_upto_region 18 with(go_at_call 107;refine(wk n J k K (es.map (λ e:mJ=>e.r.ah)) wr bV.o).mono ?_;rintro e wt ⟨rfl,B⟩;rw[aj.o.2.2];have aA:=aa (aZ.o.below B);have Z:=aa (au.o.trans (B.mono au.o.size));clear T al B;have z0:=aA.o.cell 0;have bW:=aA.o.cell 7;simp only[y_,x_] at z0 bW;dsimp only)
     go_wp2_with fail
     go_loopw [108] (λ i W=>∃j:Nat,i=.int .i64 j/\j<=bw/\(C.take j).any (tg n)=false/\Below wt.heap.size wt W) (λ i _=>bw-(intOf i).toNat)
     case atStart=>exact⟨0,rfl,q_ _,rfl,p_ _ _⟩
     case round=>
      obtain⟨j,rfl,ca,U,ad⟩:=hrel;have F:=aa (z_ U ad);clear U ad
      by_cases z:j<bw
      ·have R:=H.o.2.2.2.2.2.below (Z.o.trans (F.o.2.mono Z.o.size));have a8:j<C.length:=by rw[R.len];exact z
       have aR:(j:Int)<(bw:Int):=by omega
       obtain⟨b,off,rfl,ad,aT⟩:=R.cells (by omega);obtain⟨L,M,V⟩:=R.Ns z a8;obtain⟨⟨O,⟨m,f,q,s⟩⟩,P⟩:∃e,C[j]=e:=⟨_,rfl⟩
       rw[P] at L M V;replace L:wr.cell? ⟨b,off+j*2,none⟩=some (.int .i64 O):=L;replace M:wr.cell? ⟨b,off+j*2+1,none⟩=some (.slice m f q):=M;have T:=(aA.o.below F.o.2).cell 0;simp only[y_,x_] at T;clear aT R z0 bW
       go_upto_region 21 with fail
       have mE:aN (wr.alloc (.cells #[.int .i64 O,.slice m f q] 126)) wr.heap.size 126 [.int .i64 O,.slice m f q]:=aN.new wr 126 _;have X:=bB wr (.cells #[.int .i64 O,.slice m f q] 126);generalize wr.alloc (.cells #[.int .i64 O,.slice m f q] 126)=v at*;have t0:=mE.cell 0;have t1:=mE.cell 1;simp only[y_,x_] at t0 t1;have cc:=((aA.o.below F.o.2).below X).cell 0;simp only[y_,x_] at cc;have d:=aa (z_ (show∀p:j<C.length,C[j]'p=(⟨O,⟨m,f,q,s⟩⟩:ny) from λ _=>P) (z_ (aS.below V X) (z_ a8 z)));have aB:=aa (Z.o.trans ((F.o.2.trans (X.mono F.o.2.size)).mono Z.o.size));have bX:=aa (F.o.2.trans (X.mono F.o.2.size));clear mE L M P V a8 z ca X T
       by_cases aX:O<1
       ·have t:C.any (tg n)=true:=y7 d.o.2.2.1 (by rw[d.o.1 d.o.2.2.1];unfold tg;rw[decide_eq_true aX];rfl);have D:=aa t;clear t
        go_wp2_with fail
        go_ret;exact⟨qv (by rw[<-G.o,if_neg (by omega),if_neg (by rw[ar.o];exact s_),if_neg (by omega),if_pos D.o]),aB.o⟩
       ·by_cases bY:3<O
        ·have t:C.any (tg n)=true:=y7 d.o.2.2.1 (by rw[d.o.1 d.o.2.2.1];unfold tg;rw[decide_eq_true bY];simp);have D:=aa t;clear t
         go_wp2_with fail
         go_ret;exact⟨qv (by rw[<-G.o,if_neg (by omega),if_neg (by rw[ar.o];exact s_),if_neg (by omega),if_pos D.o]),aB.o⟩
        ·obtain⟨bZ,b0⟩:∃x,lq n [s]=x:=⟨_,rfl⟩
         have aC:=aa b0;have b1:=aa (wk n (some ⟨v.heap.size,0,none⟩) 1 1 [s] _ (oe.AA v ⟨m,f,q,s⟩ d.o.2.1).AQ);clear b0
         by_cases a':bZ=0
         ·subst a';have aq:tg n ⟨O,⟨m,f,q,s⟩⟩=false:=by
           unfold tg;rw[decide_eq_false aX,decide_eq_false bY,aC.o];simp
          have aW:=aa aq;clear aq
          go_wp2_with (go_at_call 107;refine b1.o.mono ?_;rintro e cd ⟨rfl,B⟩;rw[aC.o];have ba:=aa B;clear B)
          go_roundw
          case rel=>exact⟨j+1,by go_num,by have:=d.o.2.2.2;omega,Hf d.o.2.2.1 (by rw[d.o.1 d.o.2.2.1];exact aW.o) F.o.1,bX.o.trans (((bB v _).trans (ba.o.mono (bB v _).size)).mono bX.o.size)⟩
          case measure=>have:=d.o.2.2.2;simp[intOf];omega
         ·have t:C.any (tg n)=true:=y7 d.o.2.2.1 (by rw[d.o.1 d.o.2.2.1];unfold tg;rw[aC.o,decide_eq_true a'];simp);have D:=aa t;have cn:(bZ==0)=false:=by simpa using a'
          clear t
          go_wp2_with (go_at_call 107;refine b1.o.mono ?_;rintro e cd ⟨rfl,B⟩;rw[aC.o];have ba:=aa B;clear B)
          go_ret;exact⟨qv (by rw[<-G.o,if_neg (by omega),if_neg (by rw[ar.o];exact s_),if_neg (by omega),if_pos D.o]),aB.o.trans (((bB v _).trans (ba.o.mono (bB v _).size)).mono aB.o.size)⟩
      ·have aG:=Hg H.o.2.2.2.2.2.len z F.o.1;have cf:=aa aG;have aR:¬(j:Int)<(bw:Int):=by omega
       clear aG
       go_wp2_with fail
       go_ret;exact⟨qv (by rw[<-G.o,if_neg (by omega),if_neg (by rw[ar.o];exact s_),if_neg (by omega),if_neg (by rw[cf.o];exact s_)]),Z.o.trans (F.o.2.mono Z.o.size)⟩
    ·have cp:(el==0)=false:=by simpa using a7
     go_wp2_with (go_at_call 107;refine(wk n J k K (es.map (λ e:mJ=>e.r.ah)) wr bV.o).mono ?_;rintro e wt ⟨rfl,B⟩;rw[aj.o.2.2];have Z:=aa (au.o.trans (B.mono au.o.size));clear B)
     go_ret;exact⟨qv (by rw[<-G.o,if_neg (by omega),if_neg (by rw[ar.o];exact s_),if_pos a7]),Z.o⟩
 ·have cq:(av==0)=false:=by simpa using aO
  go_wp2_with (go_at_call 107;refine aL.o.mono ?_;rintro e ws ⟨rfl,ag⟩;rw[aj.o.2.1];have y:=aa (af.o.trans (ag.mono af.o.size));clear ag)
  go_ret;exact⟨qv (by rw[<-G.o,if_pos aO]),y.o⟩
theorem D7(O:oB n s)(f:n<=10)(b:qs w s aM aF ia cl A c A' c' fM bD aQ aU):
  Calls v_ 49 #[p9 n aM s.gs.length aF ia s.es.length cl A (n+1) c A' n c' s.aZ fM (n+1) bD aQ s.aA.length aU] w λ e w'=>e=.returned (.int .i64 0)/\Below w.heap.size w w':=by
 have d:=O.Nt f;have i:=O.mT;have j:=xo f;have hm:=NY n s.gs s.es s.act s.ord s.aZ s.gN s.aA (by omega) O.hk.check O.oS (by omega) b.gs b.es (by have:=b.act;rw[O.hk.k5] at this;exact this) (by have:=b.ord;rw[O.hk.pN] at this;exact this) (by have:=b.gN;rw[O.nE] at this;exact this) b.aA;have g:Au s=false:=by
  unfold Au;rw[O.hk.check,O.oS,O.jt,O.hk.k5,O.hk.pN,O.nE];simp;omega
 unfold D0 at d;rw[if_neg (by rw[g];exact s_),O.jt] at d;rw[d] at hm;exact hm
end
section
open Go.RowKit Go.Shelf
def zg(aT:Nat->Prop)(w:World)(n:Nat)(s:kf)(aM:Option Addr)(aF:Nat)(v:List Int)(m:Nat)(e:Ending)(W:World):Prop:=
 ∃(s':kf)(g:Option Addr)(c1:Nat)(i:Option Addr)(c2:Nat)(j:Option Addr)(c3:Nat)(k:Option Addr)(l:Nat)(c:Option Addr)(f:Nat)(d:Nat)(kind:Int)(o:Option Addr)(p q:Nat)(r:Option Addr)(t u:Nat),
  e=.returned (.tuple #[p9 n aM s.gs.length aF g s'.es.length c1 i (n+1) c2 j n c3 s'.aZ k (n+1) l c s'.aA.length f,.agg #[.int .i64 kind,.slice o p q,.slice r t u,.int .i64 (d:Int)],.int .i64 0])/\
  qs W s' aM aF g c1 i c2 j c3 k l c f/\oB n s'/\s'.gs=s.gs/\s'.es.length=s.es.length+d/\s.aA<+:s'.aA/\s'.aA.length=s.aA.length+d/\d<=m/\nx (λ _=>True) W s.gs v n m d kind o p q r t u/\Below w.heap.size w W/\yf w W c s'.aA.length f s'.aA/\(c≠none->∃b off,c=some ⟨b,off,none⟩)/\
  (∀W':World,aC (λ b=>b<W.heap.size/\¬aT b) W W'->kD W' aM s.gs.length aF s.gs->qs W' s' aM aF g c1 i c2 j c3 k l c f)/\
  ∀W':World,aC (Ci (λ b=>b<W.heap.size/\¬aT b) c s'.aA.length f) W W'->Ay W' s' g c1 i c2 j c3 k l/\nx (λ _=>True) W' s.gs v n m d kind o p q r t u
def D8(aT:Nat->Prop)(w:World)(n:Nat)(s:kf)(aM:Option Addr)(aF:Nat)(v:List Int)(g:Nat)(e:Ending)(W:World):Prop:=
 ∃(s':kf)(i:Option Addr)(c1:Nat)(j:Option Addr)(c2:Nat)(k:Option Addr)(c3:Nat)(l:Option Addr)(m:Nat)(c:Option Addr)(f:Nat)(d:Nat)(kind:Int)(o:Option Addr)(p q:Nat)(r:Option Addr)(t u:Nat),
  e=.returned (.tuple #[p9 n aM s.gs.length aF i s'.es.length c1 j (n+1) c2 k n c3 s'.aZ l (n+1) m c s'.aA.length f,.agg #[.int .i64 kind,.slice o p q,.slice r t u,.int .i64 (d:Int)],.int .i64 0])/\
  qs W s' aM aF i c1 j c2 k c3 l m c f/\oB n s'/\s'.gs=s.gs/\s'.es.length=s.es.length+d/\s.aA<+:s'.aA/\s'.aA.length=s.aA.length+d/\d<=g/\nx (λ _=>True) W s.gs v n g d kind o p q r t u/\Below w.heap.size w W/\yf w W c s'.aA.length f s'.aA/\(c≠none->∃b off,c=some ⟨b,off,none⟩)/\
  ∀W':World,aC (λ b=>b<W.heap.size/\¬aT b) W W'->qs W' s' aM aF i c1 j c2 k c3 l m c f/\nx (λ _=>True) W' s.gs v n g d kind o p q r t u
def nB(aT:Nat->Prop)(w kg:World)(b:Nat):Prop:=b<kg.heap.size/\¬aT b/\b≠w.heap.size+1/\b≠w.heap.size+1+1
theorem zg.of{js:Nat}{kg:World}{k9:Option Addr}{iV c1:Nat}{jx:Option Addr}{jL:Nat}{iy:Option Addr}{hM:Nat}{oH:Int}{jo:Option Addr}{iQ:Nat}{gO:Option Addr}{uZ gT:Nat}{aB:Nat}{kind:Int}{bk:Option Addr}{bA aV:Nat}{bF:Option Addr}{bE bl:Nat}(l:s.gs.length=js)(m:kD w aM s.gs.length aF s.gs)
  (h:∃s':kf,s'.es.length=iV/\s'.aZ=oH/\s'.aA.length=uZ/\oB n s'/\s'.gs=s.gs/\s'.es.length=s.es.length+aB/\s.aA<+:s'.aA/\s'.aA.length=s.aA.length+aB/\aB<=bu/\Below w.heap.size w kg/\(gO≠none->∃b off,gO=some ⟨b,off,none⟩)/\(∀W:World,aC (nB aT w kg) kg W->(kD W aM s.gs.length aF s.gs->qs W s' aM aF k9 c1 jx jL iy hM jo iQ gO gT)/\yf w W gO s'.aA.length gT s'.aA)/\∀W:World,aC (Ci (nB aT w kg) gO s'.aA.length gT) kg W->Ay W s' k9 c1 jx jL iy hM jo iQ/\nx (λ _=>True) W s.gs ai n bu aB kind bk bA aV bF bE bl) (d:aC (λ b=>b≠w.heap.size+1/\b≠w.heap.size+1+1) kg W):
  zg aT w n s aM aF ai bu (.returned (.tuple #[.agg #[.int .i64 n,.slice aM js aF,.slice k9 iV c1,.slice jx (n+1) jL,.slice iy n hM,.int .i64 oH,.slice jo (n+1) iQ,.slice gO uZ gT],.agg #[.int .i64 kind,.slice bk bA aV,.slice bF bE bl,.int .i64 (aB:Int)],.int .i64 0])) W:=by
 obtain⟨s',rfl,rfl,rfl,O,h1,o,p,q,r,t,u,g,i⟩:=h;subst l;have e:aC (nB aT w kg) kg W:=d.mono λ b c=>⟨c.2.2.1,c.2.2.2⟩
 have j:=g W e;have k:Below w.heap.size w W:=t.trans ⟨d.os,d.tape,d.output,d.size,λ b c=>d.keep b ⟨by omega,by omega⟩⟩;exact⟨s',k9,c1,jx,jL,iy,hM,jo,iQ,gO,gT,aB,kind,bk,bA,aV,bF,bE,bl,rfl,j.1 (m.below k),O,h1,o,p,q,r,(i W (e.mono λ b c=>c.1)).2,k,j.2,u,λ W' f=>
  (g W' (e.trans (f.mono λ b c=>⟨w_ c.1 d.size,c.2.1⟩))).1,λ W' f=>
  i W' ((e.mono λ b c=>c.1).trans (f.mono λ b c=>⟨⟨w_ c.1.1 d.size,c.1.2.1⟩,c.2⟩))⟩
theorem zg.NZ{e:Ending}(g:∀W,aC (λ b=>b<w.heap.size/\¬aT b) w W->kD W aM s.gs.length aF s.gs)(h:zg aT w n s aM aF ai bu e W):D8 aT w n s aM aF ai bu e W:=by
 obtain⟨s',i,c1,j,k,l,m,o,p,q,r,t,kind,u,v,y,z,A,B,he,C,O,h1,D,E,F,G,H,d,I,J,K,L⟩:=h;exact⟨s',i,c1,j,k,l,m,o,p,q,r,t,kind,u,v,y,z,A,B,he,C,O,h1,D,E,F,G,H,d,I,J,λ W' f=>
  ⟨K W' f (g W' ((aC.pY d λ b c=>c.1).trans (f.mono λ b c=>⟨w_ c.1 d.size,c.2⟩))),(L W' (f.mono λ b c=>c.1)).2⟩⟩
theorem HB{w0:World}(d:oa w0 A n c es)(f:A=none->n=0/\c=0)(w:World)(g:A≠none->∃b off,A=some ⟨b,off,none⟩):Calls v_ 109 #[.slice A n c] w λ e w'=>e=.returned (.slice A n n)/\w'=w:=by
 cases h:A with
 |none=>
  obtain⟨h1,i⟩:=f h;subst h1 i;exact No w
 |some a=>
  obtain⟨b,off,e⟩:=g (by rw[h];exact Option.some_ne_none _);rw[<-h,e];exact Nn b off n c w d.cap
structure tj(w W:World)(L M N:List Value):Prop where
 bK:aN W w.heap.size 47 L
 bp:aN W (w.heap.size+1) 47 M
 iz:aN W (w.heap.size+1+1) 30 N
 kQ:Below w.heap.size w W
theorem tj.init(w:World)(L M N:List Value):tj w (((w.alloc (.cells L.toArray 47)).alloc (.cells M.toArray 47)).alloc (.cells N.toArray 30)) L M N:=by
 have c:aN (w.alloc (.cells L.toArray 47)) w.heap.size 47 L:=aN.new w 47 L;have i:=bB w (.cells L.toArray 47);have z0:(w.alloc (.cells L.toArray 47)).heap.size=w.heap.size+1:=by simp
 generalize w.alloc (.cells L.toArray 47)=w1 at*;have h1:aN (w1.alloc (.cells M.toArray 47)) w1.heap.size 47 M:=aN.new w1 47 M;have e:=bB w1 (.cells M.toArray 47);have f:(w1.alloc (.cells M.toArray 47)).heap.size=w1.heap.size+1:=by simp
 replace c:=c.below e;rw[z0] at h1 f;generalize w1.alloc (.cells M.toArray 47)=b at*;have g:aN (b.alloc (.cells N.toArray 30)) b.heap.size 30 N:=aN.new b 30 N;have d:=bB b (.cells N.toArray 30);rw[f] at g;exact⟨c.below d,h1.below d,g,i.trans ((e.trans (d.mono (by omega))).mono (by omega))⟩
theorem tj.below{w W W':World}{L M N:List Value}(h:tj w W L M N)(b:Below W.heap.size W W'):tj w W' L M N:=⟨h.bK.below b,h.bp.below b,h.iz.below b,h.kQ.trans (b.mono h.kQ.size)⟩
theorem tj.iR{W':World}{L M N:List Value}(h:tj w W L M N){B:Nat}(c:w.heap.size+1+1<B)(f:aC (λ b=>b<B) W W'):tj w W' L M N:=
 ⟨f.blk h.bK (by omega),f.blk h.bp (by omega),f.blk h.iz (by omega),h.kQ.trans ⟨f.os,f.tape,f.output,f.size,λ b d=>f.keep b (by omega)⟩⟩
def o6:List Value:=[.int .i64 0,.slice none 0 0,.slice none 0 0,.slice none 0 0,.slice none 0 0,.int .i64 0,.slice none 0 0,.slice none 0 0]
theorem N0(ad:Nat)(O:oB n s)(aD:n<=10)(aV:qs w s aM aF ia cl A c A' c' fM bD aQ aU)(bZ:∀W,aC (λ b=>b<w.heap.size/\¬aT b) w W->oa W aQ s.aA.length aU s.aA)(aW:aS w gG bC gJ ai)(hl:∀x∈ai,gW n x)(b0:(ai.map aG).Nodup)(cT:bC<=1000)(cU:ad<=1099511627776)(b1:s.gs.length<=40000)(b2:s.aA.length<=549755813888)
  (bJ:aQ=none->s.aA.length=0/\aU=0) (bL:aQ≠none->∃b off,aQ=some ⟨b,off,none⟩) (b3:∀b,aT b->b<w.heap.size):
  Calls v_ 36 #[p9 n aM s.gs.length aF ia s.es.length cl A (n+1) c A' n c' s.aZ fM (n+1) bD aQ s.aA.length aU,.slice gG bC gJ,.int .i64 ad] w (zg aT w n s aM aF ai ad):=by
 obtain⟨D,aY⟩:∃x,s.gs.length=x:=⟨_,rfl⟩
 obtain⟨nl,a6⟩:∃x,s.es.length=x:=⟨_,rfl⟩
 obtain⟨N,a7⟩:∃x,s.aA.length=x:=⟨_,rfl⟩
 have f:=aa (z_ (z_ aV bZ) (z_ O (z_ aY (z_ a6 (z_ a7 (z_ aW (z_ hl (z_ b0 (z_ b1 (z_ b2 (z_ bJ bL)))))))))));have cV:=aW.len;have bM:=aa b3;clear b3;rw[aY,a6,a7];have cW:fE (∀W:World,Below w.heap.size w W->Calls v_ 49 #[p9 n aM D aF ia nl cl A (n+1) c A' n c' s.aZ fM (n+1) bD aQ N aU] W λ e w'=>e=.returned (.int .i64 0)/\Below W.heap.size W w'):=aa λ W d=>by
  have:=D7 O aD (aV.below d);rw[aY,a6,a7] at this;exact this
 have cX:fE (∀W:World,Below w.heap.size w W->Calls v_ 98 #[p9 n aM D aF ia nl cl A (n+1) c A' n c' s.aZ fM (n+1) bD aQ N aU] W (HA W n s aQ)):=aa λ W d=>by
  have:=NV O aD (aV.below d) (λ w=>HB aV.aA bJ w bL);rw[aY,a6,a7] at this;exact this
 clear aV bZ O aW hl b0 b1 b2 bJ bL aY a6 a7;unfold p9 at*;go_enter Tryz.func36,Tryz.ntmps36
 go_upto_region 1 with fail
 have m:=tj.init w [.int .i64 n,.slice aM D aF,.slice ia nl cl,.slice A (n+1) c,.slice A' n c',.int .i64 s.aZ,.slice fM (n+1) bD,.slice aQ N aU] o6 Az;replace m:tj w (((w.alloc (.cells #[.int .i64 n,.slice aM D aF,.slice ia nl cl,.slice A (n+1) c,.slice A' n c',.int .i64 s.aZ,.slice fM (n+1) bD,.slice aQ N aU] 47)).alloc (.cells #[.int .i64 0,.slice none 0 0,.slice none 0 0,.slice none 0 0,.slice none 0 0,.int .i64 0,.slice none 0 0,.slice none 0 0] 47)).alloc (.cells #[.int .i64 0,.slice none 0 0,.slice none 0 0,.int .i64 0] 30)) [.int .i64 n,.slice aM D aF,.slice ia nl cl,.slice A (n+1) c,.slice A' n c',.int .i64 s.aZ,.slice fM (n+1) bD,.slice aQ N aU] o6 Az:=m;generalize (((w.alloc (.cells #[.int .i64 n,.slice aM D aF,.slice ia nl cl,.slice A (n+1) c,.slice A' n c',.int .i64 s.aZ,.slice fM (n+1) bD,.slice aQ N aU] 47)).alloc (.cells #[.int .i64 0,.slice none 0 0,.slice none 0 0,.slice none 0 0,.slice none 0 0,.int .i64 0,.slice none 0 0,.slice none 0 0] 47)).alloc (.cells #[.int .i64 0,.slice none 0 0,.slice none 0 0,.int .i64 0] 30))=cY at*;have an:=m.bK.cell 0;have ao:=m.bK.cell 1;have aq:=m.bK.cell 2;have ar:=m.bK.cell 3;have au:=m.bK.cell 4;have av:=m.bK.cell 5;have aw:=m.bK.cell 6;have ax:=m.bK.cell 7;simp only[y_,x_] at an ao aq ar au av aw ax;have cZ:=aa (cW.o cY m.kQ);have c0:= @run_makeMap v_;have c4:=aa m;clear m
 go_upto_region 5 with(go_at_call 49;refine cZ.o.mono ?_;rintro e bd ⟨rfl,b4⟩;have b5:=aa (c4.o.below b4);clear an ao aq ar au av aw ax b4)
 have c5:=aa (b5.o.below (bB bd (.map #[] 0)));have bg:fE (w.heap.size+1+1<bd.heap.size):=aa b5.o.iz.lt;have c6:=aa (lY.made bd);clear c0
 go_wp2_with fail
 go_loopw [24] (λ i W=>∃k:Nat,i=.int .i64 k/\k<=bC/\lY W bd.heap.size k ((ai.take k).map λ x=>(aG x:Int))/\tj w W [.int .i64 n,.slice aM D aF,.slice ia nl cl,.slice A (n+1) c,.slice A' n c',.int .i64 s.aZ,.slice fM (n+1) bD,.slice aQ N aU] o6 Az) (λ i _=>bC-(intOf i).toNat)
 case atStart=>exact⟨0,rfl,q_ _,c6.o,c5.o⟩
 case round=>
  obtain⟨k,rfl,hk,b6,bN⟩:=hrel;have M:=aa b6;have S:=aa bN;have an:=bN.bK.cell 0;simp only[y_,x_] at an;clear b6 bN
  by_cases bO:k<bC
  ·have c7:(k:Int)<(bC:Int):=by omega
   have ee:t_.wrap ((k:Int)+1)=(k:Int)+1:=by rw[u_];omega
   obtain⟨b,off,rfl,d,b7⟩:=(f.o.2.2.2.2.2.1.below S.o.kQ).cells (by omega);have c8:=b7 k bO;have bh:k<ai.length:=by omega
   have bj:=f.o.2.2.2.2.2.2.1 _ (wg bh);have b8:=f.o.2.2.2.2.2.2.2.1;obtain⟨x,a8⟩:∃x,j8 ai k=x:=⟨_,rfl⟩
   have E:hasB ((ai.take k).map λ x=>(aG x:Int)) (aG x:Int)=false:=by
    cases c9:hasB ((ai.take k).map λ x=>(aG x:Int)) (aG x:Int) with
    |false=>rfl
    |true=>
     exfalso;obtain⟨y,da,db⟩:=List.mem_map.1 (we.1 c9);obtain⟨j,ef,e⟩:=List.mem_take_iff_getElem.1 da;have h1:=List.pairwise_iff_getElem.1 b8 j k (by rw[n_];omega) (by rw[n_];omega) (by omega);rw[List.getElem_map,List.getElem_map,e] at h1;rw[qK bh] at a8;rw[a8] at h1;exact h1 (by have:(aG y:Int)=(aG x:Int):=db;omega)
   rw[a8] at c8 bj;have bk:aG x<=n:=bj.2;have eg:(x==0)=false:=by have:=bj.oE;simpa using this
   have eh:¬(n:Int)<x:=by unfold aG at bk;omega
   have ei:¬x< -(n:Int):=by unfold aG at bk;omega
   have wn:t_.wrap (-(n:Int))= -(n:Int):=by rw[u_];omega
   have ej:wrap64 (-(n:Int))= -(n:Int):=by unfold wrap64;omega
   have bP:(Lit.int .i64 (aG x:Int)).wf=true:=DD _ (by omega) (by omega);have b9:=M.o.look bP;rw[E] at b9;obtain⟨ek,dc,b',ca⟩:=M.o.put (by unfold maxLen;omega) bP;have ae:=aa (z_ a8 (z_ bh (z_ b' (z_ ca bO))));have cc: -1000000<=x/\x<=1000000:=by unfold aG at bk;omega
   have cd:=aa cc;clear b7 b8 E b' ca bO hk d bj bk bP bh a8 cc;obtain⟨v,bl⟩:∃v,aG x=v:=⟨_,rfl⟩
   have dd:fE (∀W:World,Calls v_ 97 #[.int .i64 x] W λ e w'=>e=.returned (.int .i64 (v:Int))/\W=w'):=aa λ W=>by have:=sZ x W cd.o.1 cd.o.2;rw[bl] at this;exact this
   rw[bl] at b9 dc;have en:=aa bl;clear bl
   go_wp2_with (go_at_call 97;refine(dd.o _).mono ?_;rintro e w' ⟨rfl,rfl⟩)
   go_roundw
   case rel=>
    refine⟨k+1,by go_num,by have:=ae.o.2.2.2.2;omega,?_,?_⟩
    ·have h1:=ae.o.2.2.1;rw[ym ai k ae.o.2.1,ae.o.1,l_];exact h1
    ·exact⟨S.o.bK.kept ae.o.2.2.2.1 (λ e=>by injection e with e;have:=bg.o;omega),S.o.bp.kept ae.o.2.2.2.1 (λ e=>by injection e with e;have:=bg.o;omega),S.o.iz.kept ae.o.2.2.2.1 (λ e=>by injection e with e;have:=bg.o;omega),uX S.o.kQ ae.o.2.2.2.1 S.o.kQ.size (λ g e=>by injection e with e;have:=bg.o;omega)⟩
   case measure=>have:=ae.o.2.2.2.2;simp[intOf];omega
  ·have c7:¬(k:Int)<(bC:Int):=by omega
   have bK:¬(ad:Int)<0:=by omega
   have bp:¬(1099511627776:Int)<(ad:Int):=by omega
   have ao:=S.o.bK.cell 1;have aq:=S.o.bK.cell 2;have ar:=S.o.bK.cell 3;have au:=S.o.bK.cell 4;have av:=S.o.bK.cell 5;have aw:=S.o.bK.cell 6;have ax:=S.o.bK.cell 7;simp only[y_,x_] at ao aq ar au av aw ax;have de:=aa (cX.o wr S.o.kQ)
   go_upto_region 15 with(go_at_call 98;refine de.o.mono ?_;rintro e bQ ⟨base,G,hs,cb,m,rfl,bn,cf,cg,ch⟩;have bo:=aa (S.o.below cg);have bq:=aa bn;have ah:=aa cf;have df:=aa ch;clear an ao aq ar au av aw ax bn cf cg ch)
   have br:w.heap.size+1+1<base:=by have:=S.o.iz.lt;have:=df.o;omega
   have bR:=aa br;have a':∀b,b<w.heap.size->b<base:=λ b d=>by omega
   have cj:sg aT (λ b=>b<base) bQ s.gs ai n s.es.length m.c.cl.length m gG bC gJ ad:=by
    refine⟨aD,cV,cT,f.o.2.2.2.2.2.2.1,f.o.2.2.2.2.2.1.below bo.o.kQ,λ b d H=>?_,bq.o.s.lt,cU,?_,?_,f.o.2.1.bz,λ b d=>bq.o.s.lt b (a' b (bM.o b d))⟩
    ·obtain⟨eo,off,h1,I,_⟩:=f.o.2.2.2.2.2.1.cells H;rw[h1] at d;injection d with d
     exact d▸a' _ I
    ·have h1:=ah.o.vV;have I:=f.o.2.2.2.2.2.2.2.2.1;omega
    ·have h1:m.aA.length=s.aA.length:=by rw[ah.o.aA,n_]
     have I:=f.o.2.2.2.2.2.2.2.2.2.1;omega
   have bS:∀b,b<w.heap.size->aT b->aT b:=λ b d e=>e
   have bT:=f.o.1.2 _ (D4 w aT);have ck:oM (λ b=>b<base/\¬aT b) bQ m:=oa.in f.o.1.1.aA bo.o.kQ (λ b e H=>by
    have h1:=f.o.1.1.aA.lt b e H;exact⟨a' b h1,λ I=>bT.ze b e H (bS b h1 I)⟩) ah.o.jr ah.o.aA (λ e=>(f.o.2.2.2.2.2.2.2.2.2.2.1 e).1) f.o.2.2.2.2.2.2.2.2.2.2.2
   have cm:∀p∈m.aA,qm (λ b=>b<base/\¬aT b) bQ n p:=by
    rw[ah.o.aA];exact oa.lines f.o.1.1.aA bo.o.kQ (λ e he b d H=>by
     have h1:=(f.o.1.1.aA.rows e he).lt b d H;exact⟨a' b h1,λ I=>(bT.rows e he).ze b d H (bS b h1 I)⟩) f.o.2.1.Cc
   have dh:=aa (MR (bf:=0) cj bq.o (ah.o.jZ f.o.2.1 (by omega) ai) ck cm rfl);clear cj ck cm br a' bS bT bK bp
   go_upto_region 16 with(go_at_call 99;refine dh.o.mono ?_;rintro e Q ⟨K,ep,cn,bs,z,er,kind,R,U,V,X,Y,Z,rfl,cp,cq,bU,cr,ct,cu,cv,cw,cx,cy⟩;have di:=aa cq;have bt:=aa cr;have J:=aa (bo.o.iR bR.o bU);have ab:=aa (z_ cp (z_ bU (z_ ct (z_ cu (z_ cv (z_ cw (z_ cx cy)))))));clear cq bU cr ct cu cv cw cx cy cp;have bu:=J.o.iz.cell 0;have bw:=J.o.iz.cell 1;have bx:=J.o.iz.cell 2;have bA:=J.o.iz.cell 3;have ba:=J.o.iz.free;have dj:=ba 0;have dk:=ba 1;have dm:=ba 2;have dn:=ba 3;simp only[Az,y_,x_] at bu bw bx bA;clear ba)
   have aj:∀b,b<base->K b:=ab.o.1;have cz:sM Q (w.heap.size+1):=⟨_,_,J.o.bp,by intro u hu;simp only[o6,List.mem_cons,List.not_mem_nil,or_false] at hu;rcases hu with rfl|rfl|rfl|rfl|rfl|rfl|rfl|rfl<;>simp⟩
   have cA:sM Q (w.heap.size+1+1):=⟨_,_,J.o.iz,by intro u hu;simp only[Az,List.mem_cons,List.not_mem_nil,or_false] at hu;rcases hu with rfl|rfl|rfl|rfl<;>simp⟩
   have cB:=aX.four di.o (aj (w.heap.size+1+1) bR.o) (.int .i64 kind) (.slice R U V) (.slice X Y Z) (.int .i64 (z:Int));have cC:aC (s5 K (w.heap.size+1) (w.heap.size+1+1)) Q _:=aC.four (.int .i64 kind) (.slice R U V) (.slice X Y Z) (.int .i64 (z:Int)) (λ h=>h.2.2 rfl);have ak:aC (λ b=>b≠w.heap.size+1+1) Q _:=aC.four (.int .i64 kind) (.slice R U V) (.slice X Y Z) (.int .i64 (z:Int)) (λ h=>h rfl);have cD:=(((J.o.iz.set 0 (.int .i64 kind)).set 1 (.slice R U V)).set 2 (.slice X Y Z)).set 3 (.int .i64 (z:Int));generalize (((Q.setCell ⟨w.heap.size+1+1,0,none⟩ (.int .i64 kind)).setCell ⟨w.heap.size+1+1,1,none⟩ (.slice R U V)).setCell ⟨w.heap.size+1+1,2,none⟩ (.slice X Y Z)).setCell ⟨w.heap.size+1+1,3,none⟩ (.int .i64 (z:Int))=bG at*;have cE:tj w bG [.int .i64 n,.slice aM D aF,.slice ia nl cl,.slice A (n+1) c,.slice A' n c',.int .i64 s.aZ,.slice fM (n+1) bD,.slice aQ N aU] o6 [.int .i64 kind,.slice R U V,.slice X Y Z,.int .i64 (z:Int)]:=
    ⟨ak.blk J.o.bK (by omega),ak.blk J.o.bp (by omega),cD,J.o.kQ.trans ⟨ak.os,ak.tape,ak.output,ak.size,λ b d=>ak.keep b (by omega)⟩⟩
   have cF:bs.c.st.length<=1000000:=by
    have et:=bt.o.lb.len;have eu:=bt.o.gP.aL.len;have ev:=bt.o.rg.jt;omega
   have dp:=aa (M8 cB.drew bt.o aD cF (qn:=n) (s9:=s.aZ) (qo:=aM) (qp:=D) (qq:=aF) (mP:=.slice ia nl cl) (tc:=.slice A (n+1) c) (td:=.slice A' n c') (mg:=.slice fM (n+1) bD) (sJ:=.slice aQ N aU));have C:=cE.below (p_ _ _).drew;have bV:=aa C;have al:=aa (z_ cz (z_ cA (z_ cC aj)));clear cC ak cD aj cB cF bu bw bx bA dj dk dm dn cE cz cA;have an:=C.bK.cell 0;have ao:=C.bK.cell 1;have aq:=C.bK.cell 2;have ar:=C.bK.cell 3;have au:=C.bK.cell 4;have av:=C.bK.cell 5;have aw:=C.bK.cell 6;have ax:=C.bK.cell 7;have bu:=C.iz.cell 0;have bw:=C.iz.cell 1;have bx:=C.iz.cell 2;have bA:=C.iz.cell 3;simp only[y_,x_] at an ao aq ar au av aw ax bu bw bx bA;clear C;have dq:fE (∀(e:Ending)(kg:World),GW K base bG.drew G cn s.gs ai n s.es.length z bs n aM D aF e kg->∃(ay:Option Addr)(bE c1:Nat)(aE:Option Addr)(aH:Nat)(az:Option Addr)(aB:Nat)(bF:Int)(aI:Option Addr)(aJ:Nat)(L:Option Addr)(aK af:Nat),e=.returned (.agg #[.int .i64 n,.slice aM D aF,.slice ay bE c1,.slice aE (n+1) aH,.slice az n aB,.int .i64 bF,.slice aI (n+1) aJ,.slice L aK af])/\tj w kg [.int .i64 n,.slice aM D aF,.slice ia nl cl,.slice A (n+1) c,.slice A' n c',.int .i64 s.aZ,.slice fM (n+1) bD,.slice aQ N aU] o6 [.int .i64 kind,.slice R U V,.slice X Y Z,.int .i64 (z:Int)]/\∃s':kf,s'.es.length=bE/\s'.aZ=bF/\s'.aA.length=aK/\oB n s'/\s'.gs=s.gs/\s'.es.length=s.es.length+z/\s.aA<+:s'.aA/\s'.aA.length=s.aA.length+z/\z<=ad/\Below w.heap.size w kg/\(L≠none->∃b off,L=some ⟨b,off,none⟩)/\(∀W:World,aC (nB aT w kg) kg W->(kD W aM s.gs.length aF s.gs->qs W s' aM aF ay c1 aE aH az aB aI aJ L af)/\yf w W L s'.aA.length af s'.aA)/\∀W:World,aC (Ci (nB aT w kg) L s'.aA.length af) kg W->Ay W s' ay c1 aE aH az aB aI aJ/\nx (λ _=>True) W s.gs ai n ad z kind R U V X Y Z):=aa (by
    intro e kg bn;obtain⟨cG,F,iP,dr,ay,dt,du,az,aB,rfl,bH,aN,cH,bb,aO,dv,ew,ey,cI,dw,dx,bI,lo,aP,dy,E⟩:=bn;have aj:=al.o.2.2.2;have br:=bR.o;have l:tj w kg _ o6 _:=bV.o.iR (B:=base) br (cH.mono aj);have dz:=bb.rg.k5;have dA:=bb.rg.nE;have v6:(F 6).v=.slice (F 6).A (n+1) (F 6).c:=by rw[<-dz,<-aN.e.n6];rfl
    have v9:(F 9).v=.slice (F 9).A (n+1) (F 9).c:=by rw[<-dA,<-aN.e.j3];rfl
    obtain⟨L,aK,af,bW⟩:∃A n c,nL F iP=.slice A n c:=by
     unfold nL
     cases iP.jr with
     |none=>exact⟨_,_,_,rfl⟩
     |some h=>exact⟨_,_,_,rfl⟩
    refine⟨ay,du.length,dt,(F 6).A,(F 6).c,az,aB,iP.aZ,(F 9).A,(F 9).c,L,aK,af,by rw[<-v6,<-v9,<-bW],l,?_⟩;have dB:∀b,bG.drew.heap.size<=b->b≠w.heap.size+1/\b≠w.heap.size+1+1:=λ b d=>by
     have h1:=bV.o.iz.lt;omega
    have cJ:∀b,¬aT b->¬aT b:=λ b h1=>h1
    have cK:∀b,aT b->b<base:=λ b e=>by have:=bM.o b e;omega
    have f810:aC (s5 K (w.heap.size+1) (w.heap.size+1+1)) Q kg:=al.o.2.2.1.trans ((aC.drew.trans cH).mono λ b d=>d.1);have bX:=f810.size;have dC:∀b,b<base->b<Q.heap.size:=λ b d=>w_ (bq.o.s.lt b d) ab.o.2.1.size
    have f8:∀W,aC (nB aT w kg) kg W->aC (λ b=>b<Q.heap.size/\s5 (λ b=>K b/\¬aT b) (w.heap.size+1) (w.heap.size+1+1) b) Q W:=λ W t=>(f810.mono λ b d=>⟨d.2.1.1,d.2.2⟩).trans (t.mono λ b d=>⟨w_ d.1 bX,cJ b d.2.1.2,d.2.2⟩)
    have dD:∀W,aC (nB aT w kg) kg W->aX cG base W G F cn iP:=λ W t=>aN.still (P:=λ b=>b=w.heap.size+1\/b=w.heap.size+1+1\/aT b) (t.mono λ b d=>⟨d.1,λ e=>d.2 (.inr (.inr e)),λ e=>d.2 (.inl e),λ e=>d.2 (.inr (.inl e))⟩) (λ b d=>bH b (aj b (d.elim (λ h1=>by omega) (λ h1=>h1.elim (λ h1=>by omega) (cK b)))))
    have cL:∀W,aC (nB aT w kg) kg W->oM cG W iP:=λ W t=>by
     have h1:oM (λ b=>b<base/\¬aT b) W bs:=ab.o.2.2.1.off (λ p hp=>(ab.o.2.2.2.1 p hp).lH) al.o.1 al.o.2.1 ((f8 W t).mono λ b d=>⟨dC b d.1.1,⟨aj b d.1.1,d.1.2⟩,d.2⟩);exact(oM.kept h1 (s':=iP) aC.refl dv aO).mono (λ b d=>bH b (aj b d.1))
    have dE:∀p∈iP.aA,qm (nB aT w kg) kg n p:=λ p hp=>(((ab.o.2.2.2.1 p (by rw[<-aO];exact hp)).NS al.o.1 al.o.2.1).iR (f810.mono λ b d=>⟨d.2.1.1,d.2.2⟩)).mono λ b d=>⟨w_ d.1 bX,cJ b d.2.1.2,d.2.2⟩
    have aR:∀b,b<kg.heap.size->bG.drew.heap.size<=b->nB aT w kg b:=λ b h1 I=>by
     have dF:=dB b I;have dr:=bV.o.iz.lt;exact⟨h1,λ dG=>by have:=bM.o b dG;omega,dF⟩
    have fin:∀W,aC (nB aT w kg) kg W->oa W aQ s.aA.length aU s.aA:=λ W t=>f.o.1.2 W ((aC.pY l.kQ λ b d=>d.1).trans (t.mono λ b d=>⟨by have:=l.kQ.size;omega,d.2,by omega,by omega⟩))
    have dH:bs.aA.length=s.aA.length+z:=by have h1:=ab.o.2.2.2.2.2.1;rw[ah.o.aA,n_] at h1;exact h1
    have ez:=bb.mT;have eA:=xo aD;have eB:=bb.pN;have eC:=f.o.2.2.2.2.2.2.2.2.2.1;obtain⟨s',aE,aH,aI,aJ,eD,eE,cM,cN,cO,dI,dJ,dK,dL,dM,dN,dO,dP,dQ,dR⟩:=NR (w:=w) (kg:=kg) (nB:=nB aT w kg) (aM:=aM) (aF:=aF) (λ W t=>(fin W t).rows) f.o.2.1 aD (by omega) dD bb (λ W t=>cI.Hz t (λ b d e=>aR b d (r_ aP (E.1 b e))) (λ e he b d h1=>aR b d (r_ aP (E.2.1 e he b h1)))) dw dx (λ W t=>bI.iR t (λ b e H=>aR b (bI.lt b e H) (r_ aP (E.2.2 b e)))) (λ r b e=>by have h1:=aN.e.rows.lt e;exact⟨h1.2,λ I=>by have:=cK b I;omega,by omega,by omega⟩) (λ q aW W t=>by
     have eF:=dy 11 q aW;exact⟨cI.Hz t (λ b d e=>⟨aR b d (r_ aP (E.1 b e)),by have:=E.1 b e;omega⟩) (λ e he b d h1=>⟨aR b d (r_ aP (E.2.1 e he b h1)),by have:=E.2.1 e he b h1;omega⟩),bI.iR t (λ b e H=>⟨aR b (bI.lt b e H) (r_ aP (E.2.2 b e)),by have:=E.2.2 b e;omega⟩)⟩) (λ p hp b e dS r dT=>aN.s.row r b dT (bH b ((ab.o.2.2.2.1 p (by rw[<-aO];exact hp)).blk b e dS).1)) cL dE (by rw[aO,<-ah.o.aA];exact ab.o.2.2.2.2.1) (by rw[aO];omega) rfl
    rw[v6] at cM;rw[v9] at cN;rw[bW] at cO;injection cM with a1 a2 a3
    injection cN with bp iz dU
    injection cO with d1 d2 d3
    subst a1 a3 bp dU d1 d3;refine⟨s',by rw[dJ],dI,d2.symm,dL,dK,dM,dN,by rw[dO,aO];exact dH,ab.o.2.2.2.2.2.2.1,l.kQ,dP,dQ,λ W t=>⟨dR W t,?_⟩⟩;have dV:nx (λ b=>(K b/\¬aT b)/\(s'.aA.length≠af->L.map (·.block)≠some b)) Q s.gs ai n ad z kind R U V X Y Z:=ab.o.2.2.2.2.2.2.2.mono λ b d=>⟨d,λ eG e=>aN.s.row 11 b ((Hy (cL kg aC.refl) bW (by omega)).trans e) (bH b d.1)⟩
    exact dV.NT f.o.2.2.2.2.2.2.1 al.o.1 al.o.2.1 ((f810.mono λ b d=>⟨d.2.1.1.1,d.2.2⟩).trans (t.mono λ b d=>⟨⟨w_ d.1 bX,d.2.1.1.2,d.2.2⟩,d.2.1.2⟩)))
   rename_i dW cP;have dX:=aa cP;clear cP;refine wp_region_noPanic ?_
   go_region_with (go_at_call 100;refine dp.o.mono ?_;intro e kg cQ;obtain⟨ay,bE,c1,aE,aH,az,aB,bF,aI,aJ,L,aK,af,rfl,l,cR⟩:=dq.o e kg cQ;have cS:=aa l;have dY:=aa cR;clear cQ cR;have m0:=l.iz.cell 0;have m1:=l.iz.cell 1;have m2:=l.iz.cell 2;have m3:=l.iz.cell 3;have dZ:=l.bp.cell 0;have d':=l.bp.cell 1;have ea:=l.bp.cell 2;have eb:=l.bp.cell 3;have ec:=l.bp.cell 4;have ed:=l.bp.cell 5;have n6:=l.bp.cell 6;have n7:=l.bp.cell 7;have bc:=l.iz.free;have eH:=bc 0;have eI:=bc 1;have eJ:=bc 2;have eK:=bc 3;have ag:=l.bp.free;have eL:=ag 0;have eM:=ag 1;have eN:=ag 2;have eO:=ag 3;have eP:=ag 4;have eQ:=ag 5;have eR:=ag 6;have eS:=ag 7;simp only[o6,y_,x_] at m0 m1 m2 m3 dZ d' ea eb ec ed n6 n7;clear bc ag l)
   all_goals
    show dW _ _;apply dX.o
    go_wp2_with fail
   all_goals
    have T:=zf.ok cS.o.bp cS.o.iz (by omega) (.int .i64 n) (.slice aM D aF) (.slice ay bE c1) (.slice aE (n+1) aH) (.slice az n aB) (.int .i64 bF) (.slice aI (n+1) aJ) (.slice L aK af) (.int .i64 kind) (.slice R U V) (.slice X Y Z) (.int .i64 (z:Int));have bY:=aa T;clear T;refine NU rfl rfl rfl rfl bY.o.1 bY.o.2.1 (zg.of f.o.2.2.1 f.o.1.1.gs dY.o bY.o.2.2)
theorem HC(d:Nat)(O:oB n s)(g:n<=10)(e:rT w aT s aM aF ia cl A c A' c' fM bD aQ aU)(i:aS w gG bC gJ ai)(hl:∀x∈ai,gW n x)(j:(ai.map aG).Nodup)(k:bC<=1000)(l:d<=1099511627776)(m:s.gs.length<=40000)(o:s.aA.length<=549755813888)
  (p:aQ=none->s.aA.length=0/\aU=0) (q:aQ≠none->∃b off,aQ=some ⟨b,off,none⟩) (r:∀b,aT b->b<w.heap.size):
  Calls v_ 36 #[p9 n aM s.gs.length aF ia s.es.length cl A (n+1) c A' n c' s.aZ fM (n+1) bD aQ s.aA.length aU,.slice gG bC gJ,.int .i64 d] w (D8 aT w n s aM aF ai d):=
 (N0 d O g (e w aC.refl) (λ W f=>(e W f).aA) i hl j k l m o p q r).mono λ _ _ h=>h.NZ λ W f=>(e W f).gs
end
section
open Go.RowKit Go.Shelf Go.Sort Go.Lib
def tn(b:List Int):Prop:=∀x∈b,-9223372036854775808<=x/\x<=9223372036854775807
def uZ0(x:Int):Int:=if x= -9223372036854775808 then-9223372036854775808 else (x.natAbs:Int)
theorem HD(x:Int)(w:World)(h: -9223372036854775808<=x/\x<=9223372036854775807):
  Calls v_ 83 #[.int .i64 x] w λ e w'=>e=.returned (.int .i64 (uZ0 x))/\w=w':=by
 by_cases b:x= -9223372036854775808
 ·subst b;go_enter Tryz.func83,Tryz.ntmps83
  go_wp2;go_ret;refine⟨?_,rfl⟩;show k_ (Value.int t_ (max (-9223372036854775808) (wrap64 9223372036854775808)))=_;rw[show max (-9223372036854775808) (wrap64 9223372036854775808)= -9223372036854775808 by unfold wrap64;omega];rfl
 ·have e:uZ0 x=(x.natAbs:Int):=if_neg b;rw[e];have f:t_.wrap (-x)= -x:=by rw[u_];omega
  have g:wrap64 (-x)= -x:=by unfold wrap64;omega
  rcases Int.lt_or_le x 0 with d|d
  ·have h1:x< -x:=by omega
   have c:((x.natAbs:Nat):Int)= -x:=by omega
   rw[c];clear h b e;go_enter Tryz.func83,Tryz.ntmps83
   go_wp2;go_ret;refine⟨?_,rfl⟩;show k_ (Value.int t_ (max x (-x)))=_;rw[show max x (-x)= -x by omega]
  ·have h1:¬x< -x:=by omega
   have c:((x.natAbs:Nat):Int)=x:=by omega
   rw[c];clear h b e;go_enter Tryz.func83,Tryz.ntmps83
   go_wp2;go_ret;refine⟨?_,rfl⟩;show k_ (Value.int t_ (max x (-x)))=_;rw[show max x (-x)=x by omega]
theorem N1(b:i<ls.length):ls.flatten=(ls.take i).flatten++(mb ls i++(ls.drop (i+1)).flatten):=by
 rw[tP b];have h:ls=ls.take i++(ls[i]::ls.drop (i+1)):=by rw[<-List.drop_eq_getElem_cons b,List.take_append_drop]
 conv=>lhs;rw[h]
 rw[List.flatten_append,List.flatten_cons]
theorem N2(b:i<ls.length):(ls.take (i+1)).flatten.length=(ls.take i).flatten.length+(mb ls i).length:=by
 rw[tP b,o_ b,List.flatten_append,m_];simp
theorem N3{j:Nat}(c:i<ls.length)(b:j<(mb ls i).length):(ls.take i).flatten.length+j<ls.flatten.length/\j8 ls.flatten ((ls.take i).flatten.length+j)=j8 (mb ls i) j:=by
 have h:=N1 c;have h1:(ls.take i).flatten.length+j<ls.flatten.length:=by
  rw[h,m_,m_];omega
 refine⟨h1,?_⟩;rw[qK h1,qK b];simp only[h];rw[List.getElem_append_right (by omega)];simp only[Nat.add_sub_cancel_left];rw[List.getElem_append_left b]
theorem N4{n:Int}{m:Nat}(h:∀k,k<m->sL n ai k=false)(b:sL n ai m=false):∀k,k<m+1->sL n ai k=false:=λ k hk=>by
 rcases Nat.lt_or_ge k m with h1|h1
 ·exact h k h1
 ·obtain rfl:k=m:=by omega
  exact b
theorem HE(n:Nat)(aC:n<=65536)(A:Option Addr)(nl cl:Nat)(ls:List (List Int))(w:World)(h:kD w A nl cl ls)(hw:tn ls.flatten)(hlen:ls.flatten.length<=1000000):
  Calls v_ 139 #[.int .i64 n,.slice A nl cl] w λ e w'=>e=.returned (.bool (tM n ls.flatten))/\Below w.heap.size w w':=by
 have aD:=h.small;have H:=aa h;have al:=aa hw;have S:=aa (z_ h.len hlen);have an:= @run_makeMap v_;have ao:=aa (lY.made w);have aq:=aa (bB w (.map #[] 0));clear h hw hlen;go_enter Tryz.func139,Tryz.ntmps139
 go_wp2_with fail
 clear an
 go_loopw [14] (λ i W=>∃k:Nat,i=.int .i64 k/\k<=nl/\lY W w.heap.size (ls.take k).flatten.length ((ls.flatten.take (ls.take k).flatten.length).map λ x=>(aG x:Int))/\(∀q,q<(ls.take k).flatten.length->sL n ls.flatten q=false)/\Below w.heap.size w W) (λ i _=>nl-(intOf i).toNat)
 case atStart=>exact⟨0,rfl,q_ _,ao.o,λ q T=>by simp at T,aq.o⟩
 case round=>
  obtain⟨k,rfl,hk,C,D,E⟩:=hrel;have M:=aa C;have U:=aa D;have V:=aa E;clear C D E
  by_cases X:k<nl
  ·have ar:(k:Int)<(nl:Int):=by omega
   obtain⟨b,off,rfl,Z,ab⟩:=H.o.cells (by omega);obtain⟨a1,z,c1,ad,G⟩:=ab k X;have aE:=(V.o.cell (p:=⟨b,off+k,none⟩) Z).trans ad;have ae:k<ls.length:=by rw[S.o.1];exact X
   have au:=aa G;have aF:=G.small;have af:=G.len;have aH:t_.wrap ((k:Int)+1)=(k:Int)+1:=by rw[u_];omega
   obtain⟨P,Y⟩:∃P,(ls.take k).flatten.length=P:=⟨_,rfl⟩
   have m:=aa (z_ ae (z_ X (z_ af Y)));rw[Y] at M U;have aI:=aa M.o.lt;clear ab Z G ae af ad Y
   go_wp2_with fail
   go_loopw [20] (λ i W=>∃j:Nat,i=.int .i64 j/\j<=z/\lY W w.heap.size (P+j) ((ls.flatten.take (P+j)).map λ x=>(aG x:Int))/\(∀q,q<P+j->sL n ls.flatten q=false)/\Below w.heap.size w W) (λ i _=>z-(intOf i).toNat)
   case atStart=>exact⟨0,rfl,q_ _,M.o,U.o,V.o⟩
   case round=>
    obtain⟨j,rfl,I,C,D,E⟩:=hrel;have M2:=aa C;have ag:=aa D;have r:=aa E;clear C D E
    by_cases s:j<z
    ·have av:(j:Int)<(z:Int):=by omega
     have aJ:t_.wrap ((j:Int)+1)=(j:Int)+1:=by rw[u_];omega
     obtain⟨aw,ax,rfl,J,K⟩:=au.o.cells (by omega);have ay:=(r.o.cell (p:=⟨aw,ax+j,none⟩) J).trans (K j s);obtain⟨x,F⟩:∃x,j8 (mb ls k) j=x:=⟨_,rfl⟩
     rw[F] at ay;have c:=N3 m.o.1 (show j<(mb ls k).length by rw[m.o.2.2.1];exact s);rw[F,m.o.2.2.2] at c;have L: -9223372036854775808<=x/\x<=9223372036854775807:=by rw[<-c.2];exact al.o _ (wg c.1)
     have t:fE (∀W:World,Calls v_ 83 #[.int .i64 x] W λ e w'=>e=.returned (.int .i64 (uZ0 x))/\W=w'):=aa λ W=>HD x W L
     have d:sL n ls.flatten (P+j)=(!(vW n x)||hasB ((ls.flatten.take (P+j)).map λ x=>(aG x:Int)) (aG x:Int)):=by unfold sL;rw[c.2]
     cases f:vW n x with
     |false=>
      have l:uZ0 x<1\/¬uZ0 x<1/\(n:Int)<uZ0 x:=by
       unfold vW at f;rw[Bool.and_eq_false_iff,decide_eq_false_iff_not,decide_eq_false_iff_not] at f;unfold uZ0;split<;>omega
      have B:=aa (show sL n ls.flatten (P+j)=true by rw[d,f];rfl);have N:=aa c;obtain⟨v,u⟩:∃v,uZ0 x=v:=⟨_,rfl⟩
      rw[u] at l t;clear K J F c L d f u s I;rcases l with l|⟨l,az⟩
      ·go_wp2_with (go_at_call 83;refine(t.o _).mono ?_;rintro e w' ⟨rfl,rfl⟩)
       go_ret;exact⟨qZ (D3 N.o.1 B.o).symm,r.o⟩
      ·go_wp2_with (go_at_call 83;refine(t.o _).mono ?_;rintro e w' ⟨rfl,rfl⟩)
       go_ret;exact⟨qZ (D3 N.o.1 B.o).symm,r.o⟩
     |true=>
      have l:uZ0 x=(aG x:Int)/\1<=aG x/\aG x<=n:=by
       unfold vW at f;rw[Bool.and_eq_true,decide_eq_true_eq,decide_eq_true_eq] at f;unfold uZ0 aG;split<;>omega
      rw[l.1] at t;rw[f] at d;obtain⟨v,u⟩:∃v,aG x=v:=⟨_,rfl⟩
      rw[u] at l t d;have aK:¬(v:Int)<1:=by omega
      have az:¬(n:Int)<(v:Int):=by omega
      have O:(Lit.int .i64 (v:Int)).wf=true:=DD _ (by omega) (by omega);have ah:=M2.o.look O
      cases Q:hasB ((ls.flatten.take (P+j)).map λ x=>(aG x:Int)) (v:Int) with
      |true=>
       rw[Q] at ah d;have B:=aa (show sL n ls.flatten (P+j)=true by rw[d];rfl);have N:=aa c;clear K J F c L d f u s I O l Q
       go_wp2_with (go_at_call 83;refine(t.o _).mono ?_;rintro e w' ⟨rfl,rfl⟩)
       go_ret;exact⟨qZ (D3 N.o.1 B.o).symm,r.o⟩
      |false=>
       rw[Q] at ah d;have B:=aa (show sL n ls.flatten (P+j)=false by rw[d];rfl);have aA:=S.o.2;have aB:=c.1;obtain⟨aL,aM,ai,aj⟩:=M2.o.put (by unfold maxLen;omega) O;have y:=aa (z_ c (z_ u (z_ ai (z_ aj s))));clear K J F c L d f u s I O l Q ai aj aA aB
       go_wp2_with (go_at_call 83;refine(t.o _).mono ?_;rintro e w' ⟨rfl,rfl⟩)
       go_roundw
       case rel=>
        refine⟨j+1,by go_num,by have:=y.o.2.2.2.2;omega,?_,N4 ag.o B.o,uX r.o y.o.2.2.2.1 r.o.size (λ g e=>by injection e with e;omega)⟩;have h1:=y.o.2.2.1;have R:(ls.flatten.take (P+(j+1))).map (λ x=>(aG x:Int))=(ls.flatten.take (P+j)).map (λ x=>(aG x:Int))++[(v:Int)]:=by
         rw[show P+(j+1)=(P+j)+1 by omega,ym _ _ y.o.1.1,y.o.1.2,l_,<-y.o.2.1];rfl
        rw[R];exact h1
       case measure=>have:=y.o.2.2.2.2;simp[intOf];omega
    ·have av:¬(j:Int)<(z:Int):=by omega
     obtain rfl:j=z:=by omega
     have R:(ls.take (k+1)).flatten.length=P+j:=by rw[N2 m.o.1,m.o.2.2.1,m.o.2.2.2]
     have ak:=aa R;clear R s I;go_wp2;go_roundw
     case rel=>exact⟨k+1,by go_num,by have:=m.o.2.1;omega,by rw[ak.o];exact M2.o,by rw[ak.o];exact ag.o,r.o⟩
     case measure=>have:=m.o.2.1;simp[intOf];omega
  ·have ar:¬(k:Int)<(nl:Int):=by omega
   have aN:k=nl:=by omega
   go_wp2;go_ret;refine⟨qZ (Nu λ q T=>U.o q ?_).symm,V.o⟩;rw[j_ (by rw[S.o.1];omega)];exact T
end
end Go.Proofs.YtogdlkfacflmaaaGreat
