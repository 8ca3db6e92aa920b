/- Parts of the walk of the solver and its core; no condition. -/
import Derived.Test.YtogdlkfacflmaaaGreatZW18
import Derived.Test.YtogdlkfacflmaaaGreatZW1
import Derived.Test.YtogdlkfacflmaaaGreatZW14
import Derived.Test.YtogdlkfacflmaaaGreatZW13
namespace Go.Proofs.YtogdlkfacflmaaaGreat
set_option linter.unusedVariables false
set_option linter.unusedSimpArgs false
set_option maxRecDepth 100000
set_option maxHeartbeats 8000000
open _root_.And renaming intro→z_
open _root_.List renaming getElem?_cons_zero→y_,getElem?_cons_succ→x_,map_toArray→o_,map_cons→m_,map_nil→l_
open _root_.Go.Proofs.Tryz renaming prog→w_
open _root_.Nat renaming lt_of_lt_of_le→v_,le_succ→s_,le_trans→q_,le_refl→p_,lt_or_ge→k_
open _root_.Go.World renaming cell?_of_block→u_
open _root_.Go.Value renaming int→t_
open _root_.Go.Exit renaming noGoto_ret→r_
open _root_.Go.RowKit.Below renaming refl→n_
variable{t:kR}{n aF c c' bD aU lU jk aV B cl aW sp j4 kG nq gT k:Nat}{ls:List (List Int)}{s:kf}{aM A A' fM aQ bk ia lE gO:Option Addr}{w W w' W':World}{m:List Bool}{keep ai:List Int}
section
open Go.RowKit Go.Shelf Go.Sort Go.Lib
theorem qu.inj{wY:kR}{jm O2:Int}(h:qu t jm=qu wY O2):t=wY:=by
 obtain⟨n,⟨c,d,gc⟩,⟨e,f,lc⟩,⟨g,i,ac⟩,⟨j,on,k⟩,b,⟨l,m,o⟩,⟨p,q,r⟩⟩:=t;obtain⟨s,⟨u,v,w⟩,⟨y,z,A⟩,⟨B,C,D⟩,⟨E,F,G⟩,H,⟨I,J,K⟩,⟨M,N,O⟩⟩:=wY;simp[qu,kR.L] at h;simp[h]
def Ek(w:World)(x:Int)(ls:List (List Int))(e:Ending)(W:World):Prop:=
 ∃(t:kR)(ok:Bool),e=.returned (.tuple #[.agg t.L.toArray,.bool ok])/\Below w.heap.size w W/\
  (lq x ls=0->ok=true/\∃(s:kf)(ic:Option Addr)(c3:Nat)(iu:Option Addr)(gF:Nat)(ij:Option Addr)(gL:Nat)(aM:Option Addr)(aF:Nat)(b:Option Addr)(c:Nat),
   t=⟨x,⟨aM,s.gs.length,aF⟩,⟨none,s.es.length,0⟩,⟨ic,x.toNat+1,c3⟩,⟨iu,x.toNat,gF⟩,s.aZ,⟨ij,x.toNat+1,gL⟩,⟨b,s.aA.length,c⟩⟩/\qI W x.toNat s aM aF none 0 ic c3 iu gF ij gL b c/\s.gs=ls)
def nP(n:Nat)(s:kf)(ic:Option Addr)(c3:Nat)(iu:Option Addr)(gF:Nat)(ij:Option Addr)(gL:Nat)(aM:Option Addr)(aF:Nat)(b:Option Addr)(c:Nat):kR:=
 ⟨n,⟨aM,s.gs.length,aF⟩,⟨none,s.es.length,0⟩,⟨ic,n+1,c3⟩,⟨iu,n,gF⟩,s.aZ,⟨ij,n+1,gL⟩,⟨b,s.aA.length,c⟩⟩
def El:kR:=⟨0,sQ,sQ,sQ,sQ,0,sQ,sQ⟩
def xy(tr:Nat->Prop)(lo n:Nat)(s:kf)(ah:List Int)(ic:Option Addr)(c3:Nat)(iu:Option Addr)(gF:Nat)(ij:Option Addr)(gL:Nat)(uZ9:Int)(t:kR)(p:Nat×Nat)(w:World):Prop:=
 uZ9=0->∃(s':kf)(aM:Option Addr)(aF:Nat)(c:Option Addr)(d:Nat),t=nP n s' ic c3 iu gF ij gL aM aF c d/\
  qI w n s' aM aF none 0 ic c3 iu gF ij gL c d/\s'.gs=s.gs++[ah]/\rT w (λ b=>tr b\/lo<=b/\(b<p.1\/p.2<=b)) s' aM aF none 0 ic c3 iu gF ij gL c d
section
variable {tr:Nat->Prop}{lo n:Nat}{s:kf}{ah:List Int}{ic:Option Addr}{c3:Nat}{iu:Option Addr}{gF:Nat}{ij:Option Addr}{gL:Nat}{uZ9:Int}{t:kR}{p:Nat×Nat}{w w':World}
theorem xy.below(h:xy tr lo n s ah ic c3 iu gF ij gL uZ9 t p w)(c:Below w.heap.size w w'):xy tr lo n s ah ic c3 iu gF ij gL uZ9 t p w':=λ e=>by
 obtain⟨s',aM,aF,d,g,h1,i,j,k⟩:=h e;exact⟨s',aM,aF,d,g,h1,i.below c,j,λ W f=>k W ((aC.pY c λ b c=>c.1).trans (f.mono λ b h=>⟨v_ h.1 c.size,h.2⟩))⟩
theorem xy.store{g:Nat}(h:xy tr lo n s ah ic c3 iu gF ij gL uZ9 t p w)(f:aC (λ b=>b≠g) w w')(k:lo<=g)(hp:g<p.1\/p.2<=g):xy tr lo n s ah ic c3 iu gF ij gL uZ9 t p w':=λ e=>by
 obtain⟨s',aM,aF,l,m,h1,o,q,i⟩:=h e;have j:∀W,aC (λ b=>b<w'.heap.size/\¬(tr b\/lo<=b/\(b<p.1\/p.2<=b))) w' W->aC (λ b=>b<w.heap.size/\¬(tr b\/lo<=b/\(b<p.1\/p.2<=b))) w W:=λ W d=>
  (f.mono λ b c e=>c.2 (by subst e;exact .inr ⟨k,hp⟩)).trans (d.mono λ b c=>⟨v_ c.1 f.size,c.2⟩)
 exact⟨s',aM,aF,l,m,h1,o.r5 (i _ (j _ aC.refl)),q,λ W d=>i W (j W d)⟩
end
theorem O3{n:Int}(h:lq n ls=0){k:Nat}(hk:k<ls.length):lq n [mb ls k]=0:=by
 have b:∃m:Nat,n=m/\m<=65536:=by
  by_cases c:n<0\/65536<n
  ·rw[xC c] at h;cases h
  ·exact⟨n.toNat,by omega,by omega⟩
 obtain⟨m,rfl,hm⟩:=b;refine Ar hm (by simp) λ l hl=>?_
 rw[List.mem_singleton] at hl;subst hl;exact(Aq h).2.2 _ (Cz hk)
theorem O4:∀args w,(callFunc 46 args).run w_ w=.ok (.enter 46 args) w:=enters_of Tryz.func46 (by kernel_rfl) rfl
def qJ(n:Nat)(ah:List Int):Int:=if lq n [ah]=0 then 0 else 140
theorem O5{tr:Nat->Prop}{lo:Nat}{nw:Option Addr}{jY bH:Nat}{ah:List Int}(j:n<=10)(S:qI w n s aM aF none 0 A c A' c' fM bD aQ aU)(q:∀b,tr b->b<w.heap.size)(r:rT w (λ b=>tr b\/lo<=b/\b<w.heap.size) s aM aF none 0 A c A' c' fM bD aQ aU)(k:aS w nw jY bH ah)(B:s.gs.length<40000):
  Calls w_ 46 #[.agg (nP n s A c A' c' fM bD aM aF aQ aU).L.toArray,.slice nw jY bH] w λ e W=>∃t:kR,e=.returned (qu t (qJ n ah))/\Below w.heap.size w W/\xy tr lo n s ah A c A' c' fM bD (qJ n ah) t (w.heap.size,W.heap.size) W:=by
 have C:=S.pl
 by_cases g:lq n [ah]=0
 ·have he:qJ n ah=0:=if_pos g;rw[he];have u:=(Aq g).2.2 ah (by simp);refine(HP S.O j S.aK k u (by omega) (by omega) S.sN S.x2 S.pp S.Cq).mono λ e W P=>?_
  obtain⟨s',l,m,o,p,rfl,h1,v,i,y⟩:=S.add P;refine⟨nP n s' A c A' c' fM bD l m o p,rfl,i,λ _=>⟨s',l,m,o,p,rfl,h1,v,?_⟩⟩;have z:=y (λ b=>tr b\/lo<=b/\b<w.heap.size) (λ b d=>d.elim (q b) (·.2)) r;exact λ W' f=>z W' (f.mono λ b d=>⟨d.1,λ h=>d.2 (h.imp id λ h=>⟨h.1,h.2.elim id λ i=>absurd d.1 (Nat.not_lt.2 i)⟩)⟩)
 ·have he:qJ n ah=140:=if_neg g;rw[he];refine(OR S.O j S.aK k g).mono λ e W P=>?_
  obtain⟨rfl,d⟩:=P;exact⟨El,rfl,d,λ h=>by cases h⟩
structure v7(w W:World)(x:Int)(A:Option Addr)(nl cl:Nat):Prop where
 kQ:Below w.heap.size w W
 xz:tu W w.heap.size x A nl cl
 kS:aN W (w.heap.size+1) 47 o6
theorem v7.below{w W W':World}{x:Int}{A:Option Addr}{nl cl:Nat}(h:v7 w W x A nl cl)(b:Below W.heap.size W W'):v7 w W' x A nl cl:=⟨h.kQ.trans (b.mono h.kQ.size),h.xz.below b,h.kS.below b⟩
theorem v7.init(w:World)(x:Int)(A:Option Addr)(nl cl:Nat):v7 w ((w.alloc (.cells #[.int .i64 x,.slice A nl cl] 24)).alloc (.cells o6.toArray 47)) x A nl cl:=by
 have b:Below w.heap.size w (w.alloc (.cells #[.int .i64 x,.slice A nl cl] 24)):=(n_ _ _).alloc (p_ _) _;have e:=tu.new w x A nl cl;have f:(w.alloc (.cells #[.int .i64 x,.slice A nl cl] 24)).heap.size=w.heap.size+1:=by simp
 generalize w.alloc (.cells #[.int .i64 x,.slice A nl cl] 24)=W at*;have c:=bB W (.cells o6.toArray 47);have d:=aN.new W 47 o6;rw[f] at d;exact⟨b.trans (c.mono b.size),e.below c,d⟩
theorem Em{aK:Ending->World->Prop}{a:Act}{bp:Nat}{ok:Bool}(m:a.defers=[])(b:a.tmps.getD 2 undef=.pointer (some ⟨bp,0,none⟩))(c:a.tmps.getD 3 undef=.bool ok)
  (n:aN W bp 47 t.L) (h:aK (.returned (.tuple #[.agg t.L.toArray,.bool ok])) W):bodyPost w_ Tryz.f35 aK .ret a W:=by
 have y:=n.cell;have d:=y 0;have e:=y 1;have f:=y 2;have g:=y 3;have i:=y 4;have j:=y 5;have k:=y 6;have l:=y 7;simp only[kR.L,y_,x_] at d e f g i j k l;rw[Array.getD_eq_getD_getElem?] at b c;refine bodyPost_ret (v:=.tuple #[.agg t.L.toArray,.bool ok]) ?_ m h;simp[results,Tryz.results35,go_sem,b,c,d,e,f,g,i,j,k,l,kR.L]
theorem O6(x:Int)(g:x<0)(A:Option Addr)(nl cl:Nat)(ls:List (List Int))(w:World):
  Calls w_ 35 #[.agg #[.int .i64 x,.slice A nl cl]] w (Ek w x ls):=by
 have c:=v7.init w x A nl cl;unfold o6 at c;have m:fE (lq x ls≠0):=aa (by rw[xC (.inl g)];decide);have n:=aa (λ W:World=>Nb x W (.inl g));clear g;go_enter Tryz.func35,Tryz.ntmps35
 go_upto_region 1 with fail
 generalize ((w.alloc (.cells #[.int .i64 x,.slice A nl cl] 24)).alloc (.cells #[.int .i64 0,.slice none 0 0,.slice none 0 0,.slice none 0 0,.slice none 0 0,.int .i64 0,.slice none 0 0,.slice none 0 0] 47))=L at*;have p:=aa c;have r:=c.xz.bH;clear c
 go_upto_region 2 with(go_at_call 42;refine(n.o _).mono ?_;rintro e d ⟨rfl,i⟩;unfold B5;have s:=aa (p.o.below i);clear r i)
 have j:=bB d (.cells #[.int .i64 0,.slice none 0 0,.slice none 0 0,.slice none 0 0,.slice none 0 0,.int .i64 0,.slice none 0 0,.slice none 0 0] 47);have k:=aN.new d 47 [.int .i64 0,.slice none 0 0,.slice none 0 0,.slice none 0 0,.slice none 0 0,.int .i64 0,.slice none 0 0,.slice none 0 0];have b:=s.o.below j;generalize d.alloc (.cells #[.int .i64 0,.slice none 0 0,.slice none 0 0,.slice none 0 0,.slice none 0 0,.int .i64 0,.slice none 0 0,.slice none 0 0] 47)=l at*;generalize d.heap.size=M at*;have b:=aa b;have z:=k.cell;have z0:=z 0;have u:=z 1;have z2:=z 2;have z3:=z 3;have z4:=z 4;have z5:=z 5;have v:=z 6;have y:=z 7;have q:=b.o.kS.cell;have C:=q 0;have D:=q 1;have E:=q 2;have F:=q 3;have G:=q 4;have H:=q 5;have I:=q 6;have J:=q 7;have f:=b.o.kS.free;have f0:=f 0;have f1:=f 1;have f2:=f 2;have f3:=f 3;have f4:=f 4;have f5:=f 5;have f6:=f 6;have f7:=f 7;simp only[o6,y_,x_] at z0 u z2 z3 z4 z5 v y C D E F G H I J;clear z q f k j
 go_wp2_with fail
 have K:=aN.vt (show aN l (w.heap.size+1) 47 [.int .i64 0,.slice none 0 0,.slice none 0 0,.slice none 0 0,.slice none 0 0,.int .i64 0,.slice none 0 0,.slice none 0 0] from b.o.kS) (.int .i64 0) (.slice none 0 0) (.slice none 0 0) (.slice none 0 0) (.slice none 0 0) (.int .i64 0) (.slice none 0 0) (.slice none 0 0);have f8:=aC.eight (W:=l) (B:=w.heap.size+1) (.int .i64 0) (.slice none 0 0) (.slice none 0 0) (.slice none 0 0) (.slice none 0 0) (.int .i64 0) (.slice none 0 0) (.slice none 0 0);refine Em (t:=El) rfl rfl rfl K ⟨El,_,rfl,uZ7 b.o.kQ f8 (by omega),λ h=>absurd h m.o⟩
theorem O7(n:Nat)(T:n<=10)(A:Option Addr)(nl cl:Nat)(ls:List (List Int))(w:World)(h:kD w A nl cl ls)(bY:nl<=60):
  Calls w_ 35 #[.agg #[.int .i64 n,.slice A nl cl]] w (Ek w n ls):=by
 have I:=v7.init w n A nl cl;unfold o6 at I;have bZ:fE (∀W',Calls w_ 42 #[.int .i64 n] W' λ e w'=>∃(A:Option Addr)(c:Nat)(A':Option Addr)(c':Nat)(m:Option Addr)(C:Nat),e=.returned (.tuple #[.agg #[.int .i64 n,.slice none 0 0,.slice none 0 0,.slice A (n+1) c,.slice A' n c',.int .i64 1,.slice m (n+1) C,.slice none 0 0],.int .i64 0])/\
   aS w' A (n+1) c (rC (n+1))/\aS w' A' n c' (qL n)/\kE w' m (n+1) C (sk (n+1))/\Below W'.heap.size W' w'/\(∀b off,A=some ⟨b,off,none⟩->W'.heap.size<=b)/\(∀b off,A'=some ⟨b,off,none⟩->W'.heap.size<=b)/\∀b off,m=some ⟨b,off,none⟩->W'.heap.size<=b):=aa λ W'=>GX n W' (by omega)
 have aH:=aa (z_ h h.len);clear h;go_enter Tryz.func35,Tryz.ntmps35
 go_upto_region 1 with fail
 generalize ((w.alloc (.cells #[.int .i64 n,.slice A nl cl] 24)).alloc (.cells #[.int .i64 0,.slice none 0 0,.slice none 0 0,.slice none 0 0,.slice none 0 0,.int .i64 0,.slice none 0 0,.slice none 0 0] 47))=cG at*;have a':=aa I;have b0:=I.xz.bH;clear I
 go_upto_region 2 with(go_at_call 42;refine(bZ.o _).mono ?_;rintro e P ⟨ic,c3,iu,gF,ij,gL,rfl,ba,bb,bc,aI,bd,bf,bg⟩;have E:=aa (z_ (a'.o.below aI) (z_ aI (z_ ba (z_ bb (z_ bc (z_ bd (z_ bf bg)))))));clear b0 aI ba bb bc bd bf bg)
 have ah:=bB P (.cells #[.int .i64 n,.slice none 0 0,.slice none 0 0,.slice ic (n+1) c3,.slice iu n gF,.int .i64 1,.slice ij (n+1) gL,.slice none 0 0] 47);have bh:=aN.new P 47 [.int .i64 n,.slice none 0 0,.slice none 0 0,.slice ic (n+1) c3,.slice iu n gF,.int .i64 1,.slice ij (n+1) gL,.slice none 0 0];have bj:=E.o.1.below ah;have av:=qI.new T E.o.2.2.1 E.o.2.2.2.1 E.o.2.2.2.2.1;have bk:rT (P.alloc (.cells #[.int .i64 n,.slice none 0 0,.slice none 0 0,.slice ic (n+1) c3,.slice iu n gF,.int .i64 1,.slice ij (n+1) gL,.slice none 0 0] 47)) (λ b=>b=P.heap.size\/b=w.heap.size+1) (rU n) none 0 none 0 ic c3 iu gF ij gL none 0:=λ W' f=>by
  have cH:=a'.o.kS.lt;have hs:=E.o.2.1.size;have f0:aC (λ b=>b<P.heap.size/\b≠w.heap.size+1) P W':=(aC.pY ah λ b D=>D.1).trans (f.mono λ b D=>⟨by have:=ah.size;omega,by omega⟩);refine(qI.new T (E.o.2.2.1.iR f0 λ b e T=>?_) (E.o.2.2.2.1.iR f0 λ b e T=>?_) (E.o.2.2.2.2.1.iR f0 λ b e=>?_)).aK
  ·obtain⟨U,off,N,hl,_⟩:=E.o.2.2.1.cells T;have ai:=E.o.2.2.2.2.2.1 U off N;rw[N] at e;injection e with e
   have e:U=b:=e;omega
  ·obtain⟨U,off,N,hl,_⟩:=E.o.2.2.2.1.cells T;have ai:=E.o.2.2.2.2.2.2.1 U off N;rw[N] at e;injection e with e
   have e:U=b:=e;omega
  ·obtain⟨U,off,N,hl,_⟩:=E.o.2.2.2.2.1.cells (Nat.succ_pos n);have ai:=E.o.2.2.2.2.2.2.2 U off N;rw[N] at e;injection e with e
   have e:U=b:=e;omega
 replace av:=av.below ah;have aJ:w.heap.size+1<P.heap.size:=E.o.1.kS.lt;generalize P.alloc (.cells #[.int .i64 n,.slice none 0 0,.slice none 0 0,.slice ic (n+1) c3,.slice iu n gF,.int .i64 1,.slice ij (n+1) gL,.slice none 0 0] 47)=cI at*;generalize P.heap.size=d at*;have Y:=aa (z_ bj (z_ bh (z_ av (z_ bk aJ))));have aL:=aa (z_ T bY);clear bj bh av bk aJ ah T
 go_wp2_with fail
 go_loopw [6] (λ i W=>∃(k:Nat)(s:kf)(aM:Option Addr)(aF:Nat)(m:Option Addr)(C:Nat),i=.int .i64 k/\k<=nl/\aN W d 47 (nP n s ic c3 iu gF ij gL aM aF m C).L/\qI W n s aM aF none 0 ic c3 iu gF ij gL m C/\rT W (λ b=>b=d\/b=w.heap.size+1) s aM aF none 0 ic c3 iu gF ij gL m C/\s.gs=ls.take k/\(∀j,j<k->lq n [mb ls j]=0)/\v7 w W n A nl cl) (λ i _=>nl-(intOf i).toNat)
 case atStart=>exact⟨0,rU n,none,0,none,0,rfl,Nat.zero_le _,Y.o.2.1,Y.o.2.2.1,Y.o.2.2.2.1,rfl,λ j aO=>by omega,Y.o.1⟩
 case round=>
  obtain⟨k,s,aM,aF,m,C,rfl,hk,aw,F,aP,aj,aQ,I⟩:=hrel;have aR:=aH.o.1.below I.kQ;have z:=aw.cell;have z0:=z 0;have ab:=z 1;have z2:=z 2;have z3:=z 3;have z4:=z 4;have z5:=z 5;have ad:=z 6;have ae:=z 7;simp only[kR.L,nP,y_,x_] at z0 ab z2 z3 z4 z5 ad ae;have bl:=I.xz.c1;have J:=aa (z_ aw (z_ F (z_ aP (z_ aj (z_ aQ I)))))
  by_cases ak:k<nl
  ·have aT:(k:Int)<(nl:Int):=by omega
   obtain⟨b,off,rfl,D,bn⟩:=aR.cells (by omega);obtain⟨a1,bo,c1,bp,br⟩:=bn k ak;have bs:k<ls.length:=by rw[aH.o.2];exact ak
   have bt:s.gs.length=k:=by rw[aj,List.length_take];omega
   have M:=aa (z_ ak (z_ bs (z_ br (z_ bt (z_ D bp)))));clear bn bp br bs ak hk D bt F aP aj aQ I aR aw z
   go_upto_region 7 with fail
   have bu:v7 w (wr) n (some ⟨b,off,none⟩) nl cl:=J.o.2.2.2.2.2;have b1:w.heap.size<wr.heap.size:=bu.xz.lt;have V:d<wr.heap.size:=J.o.1.lt;clear bu;obtain⟨cs,ax⟩:∃cs:List Value,cs=[.agg (nP n s ic c3 iu gF ij gL aM aF m C).L.toArray,.pointer (some ⟨w.heap.size,1,none⟩),.slice (some ⟨b,off,none⟩) nl cl,.int .i64 k,.pointer (some ⟨b,off+k,none⟩),.slice a1 bo c1]:=⟨_,rfl⟩
   obtain⟨Q,al⟩:∃Q,Q=xy (λ b=>b=d\/b=w.heap.size+1) wr.heap.size n s (mb ls k) ic c3 iu gF ij gL (qJ n (mb ls k)):=⟨_,rfl⟩
   have bw:∀t p w w',Below w.heap.size w w'->Q t p w->Q t p w':=by rw[al];exact λ t p w w' D h=>h.below D
   have aU:∀j p u w w',Below w.heap.size w w'->p.2<=w.heap.size->oC cs xw (uZ5 wr.heap.size (qJ n (mb ls k)) Q) j p u w->oC cs xw (uZ5 wr.heap.size (qJ n (mb ls k)) Q) j p u w':=λ j p u w w' D _ h=>by
    unfold oC at*;split at h
    ·rename_i e;rw[if_pos e];exact h.below (λ t=>bw t p w w' D) D
    ·rename_i e;rw[if_neg e];exact h
   refine Eg (rj Tryz.f35 7) 12 40 [some 26,some 27,some 28,some 29,some 30,some 31,some 32,some 25,some 33,some 34,some 7,none,some 8] _ [(1,.pointer (some ⟨w.heap.size,0,none⟩)),(4,.pointer (some ⟨d,0,none⟩)),(6,.int .i64 k)] (λ w'=>Below wr.heap.size wr w') (oC cs xw (uZ5 wr.heap.size (qJ n (mb ls k)) Q)) (by kernel_rfl) (by kernel_rfl) (by kernel_rfl) rfl (by kernel_rfl) (by kernel_rfl) (by kernel_rfl) (by kernel_rfl) (by kernel_rfl) (by kernel_rfl) rfl ⟨rfl,rfl,rfl,trivial⟩ (uZ5.xu (by kernel_rfl) (by kernel_rfl) (by kernel_rfl) (by kernel_rfl)) (n_ _ _).drew (zl.ok (by kernel_rfl) ?_) _ rfl ?_
   ·refine⟨?_,?_,?_,?_,?_,?_,⟨λ _=>?_,λ h=>(by cases h)⟩,⟨λ _=>?_,λ h=>(by cases h)⟩,⟨λ _=>?_,λ h=>(by cases h)⟩,⟨λ _=>?_,λ h=>(by cases h)⟩,⟨λ _=>?_,λ h=>(by cases h)⟩,⟨λ _=>?_,λ h=>(by cases h)⟩,trivial⟩
    rotate_left 6
    ·intro vals G w' H r l Z hp af;have b2:H (.tmp 26)=vals 0:=(l.1 rfl).2 _ rfl;have f0:vals 0=.agg (nP n s ic c3 iu gF ij gL aM aF m C).L.toArray:=by have:=(l.1 rfl).1 (.inl rfl);rw[ax] at this;exact this
     have b3:H (.tmp 31)=vals 5:=(l.2.1 rfl).2 _ rfl;have f5:vals 5=.slice a1 bo c1:=by have:=(l.2.1 rfl).1 (.inl rfl);rw[ax] at this;exact this
     refine r4 46 #[.tmp 26,.tmp 31] #[47,25] rfl O4 hp ?_;simp only[o_,m_,l_,b2,b3,f0,f5];have b4:rT w' (λ x=>(x=d\/x=w.heap.size+1)\/wr.heap.size<=x/\x<w'.heap.size) s aM aF none 0 ic c3 iu gF ij gL m C:=λ W' f=>J.o.2.2.1 W' ((aC.pY r λ x an=>an.1).trans (f.mono λ x an=>⟨v_ an.1 r.size,λ h=>h.elim an.2 (by omega)⟩))
     refine(O5 (tr:=λ b=>b=d\/b=w.heap.size+1) (lo:=wr.heap.size) aL.o.1 (J.o.2.1.below r) (λ x an=>by have:=r.size;have:=Y.o.2.2.2.2;omega) b4 (M.o.2.2.1.below r) (by have:=M.o.2.2.2.1;have:=M.o.1;have:=aL.o.2;omega)).mono ?_;rintro e bx ⟨t,rfl,bz,b5⟩;exact⟨_,rfl,.more aU bz (r.trans (bz.mono r.size)) (show oC cs xw (uZ5 wr.heap.size (qJ n (mb ls k)) Q) 6 (w'.heap.size,bx.heap.size) _ bx from⟨t,rfl,by rw[al];exact b5⟩)⟩
    ·intro vals G w' H r l Z hp af;have e:H (.tmp 32)=vals 6:=(l.1 rfl).2 _ rfl;obtain⟨t,f,_⟩:∃t:kR,vals 6=qu t (qJ n (mb ls k))/\Q t (G 6) w':=(l.1 rfl).1 (.inl rfl);rw[f] at e;simp only[bq,execOp,e];simp[cF,go_sem];exact .same r ⟨t,f,rfl⟩
    ·intro vals G w' H r l Z hp af;have e:H (.tmp 25)=vals 7:=(l.1 rfl).2 _ rfl;obtain⟨t,f6,f⟩:∃t:kR,vals 6=qu t (qJ n (mb ls k))/\vals 7=qu t (qJ n (mb ls k)):=(l.1 rfl).1 (.inl rfl);rw[f] at e;simp only[bq,execOp,e,qu];simp[cF,go_sem];exact .same r ⟨t,f6,rfl⟩
    ·intro vals G w' H r l Z hp af;have e:H (.tmp 25)=vals 7:=(l.1 rfl).2 _ rfl;obtain⟨t,f6,f⟩:∃t:kR,vals 6=qu t (qJ n (mb ls k))/\vals 7=qu t (qJ n (mb ls k)):=(l.1 rfl).1 (.inl rfl);rw[f] at e;simp only[bq,execOp,e,qu];simp[cF,go_sem];exact .same r rfl
    ·intro vals G w' H r l Z hp af;simp only[bq,execOp];simp[cF,go_sem];exact .more aU (bB w' _) (r.trans ((bB w' _).mono r.size)) ⟨rfl,r.size,by simp,_,_,_,_,_,_,_,_,aN.new w' 47 o6⟩
    ·intro vals G w' H r l Z hp af;have bA:H (.tmp 7)=vals 10:=(l.1 rfl).2 _ rfl;obtain⟨f14,R,ay,cJ,cK,cL,cM,cN,cO,cP,cQ,az⟩:vals 10=.pointer (some ⟨(G 10).1,0,none⟩)/\wr.heap.size<=(G 10).1/\(G 10).1<(G 10).2/\∃a0 a1 a2 a3 a4 a5 b6 b7,aN w' (G 10).1 47 [a0,a1,a2,a3,a4,a5,b6,b7]:=(l.1 rfl).1 (.inl rfl);have bC:H (.tmp 33)=vals 8:=(l.2.1 rfl).2 _ rfl;obtain⟨t,f6,f12⟩:∃t:kR,vals 6=qu t (qJ n (mb ls k))/\vals 8=.agg t.L.toArray:=(l.2.1 rfl).1 (.inl rfl);have b8:=af.2 6 10 (by decide) rfl rfl;rw[f14] at bA;rw[f12] at bC;refine HV rfl rfl bA bC az λ W f1 S=>?_
     refine⟨r.trans ⟨f1.os,f1.tape,f1.output,f1.size,λ b D=>f1.keep b (by omega)⟩,f1.size,⟨_,t,f6,f14,R,S⟩,λ j aO cR hs cS h=>?_⟩;unfold oC at*;split at h
     ·rename_i aB;rw[if_pos aB];have b9:j=6\/j=7\/j=8\/j=9\/j=10\/j=11:=by simpa[xw,or_assoc] using aB
      rcases b9 with rfl|rfl|rfl|rfl|rfl|rfl
      ·obtain⟨t6,h1,ai⟩:=h;refine⟨t6,h1,?_⟩;rw[al] at ai⊢;exact ai.store f1 R (by rcases b8 with b'|b'<;>omega)
      ·exact h
      ·exact h
      ·exact h
      ·exact⟨h.1,h.2.1,h.2.2.1,_,_,_,_,_,_,_,_,S⟩
      ·exact absurd rfl aO
     ·rename_i aB;rw[if_neg aB];exact h
    all_goals
     refine⟨λ h=>(by cases h),λ _ H w' F l Z hp=>?_⟩;obtain⟨ca,cc,cd,-⟩:=Z;have d0:=(F.cell (p:=⟨d,0,none⟩) V).trans z0;have d1:=(F.cell (p:=⟨d,1,none⟩) V).trans ab;have d2:=(F.cell (p:=⟨d,2,none⟩) V).trans z2;have d3:=(F.cell (p:=⟨d,3,none⟩) V).trans z3;have d4:=(F.cell (p:=⟨d,4,none⟩) V).trans z4;have d5:=(F.cell (p:=⟨d,5,none⟩) V).trans z5;have d6:=(F.cell (p:=⟨d,6,none⟩) V).trans ad;have d7:=(F.cell (p:=⟨d,7,none⟩) V).trans ae;have N:=(F.cell (p:=⟨w.heap.size,1,none⟩) b1).trans bl;have cf:=(F.cell (p:=⟨b,off+k,none⟩) M.o.2.2.2.2.1).trans M.o.2.2.2.2.2;rw[ax] at l⊢
     try simp[uT,qB,Region.binds,xw] at l
     simp[bq,execOp,cF,go_sem,ca,cc,cd,l,d0,d1,d2,d3,d4,d5,d6,d7,N,cf,hp.1,aT,nP,kR.L]
   intro vals G bG aD aE cg cT bD;obtain⟨g,t,f6,f10,R,az⟩:∃(b:Nat)(t:kR),vals 6=qu t (qJ n (mb ls k))/\vals 10=.pointer (some ⟨b,0,none⟩)/\wr.heap.size<=b/\aN bG b 47 t.L:=aE 11 (by omega);have f9:vals 9=.int .i64 (qJ n (mb ls k)):=aE 9 (by omega);obtain⟨ch,bE,aV⟩:∃t:kR,vals 6=qu t (qJ n (mb ls k))/\Q t (G 6) bG:=aE 6 (by omega);obtain rfl:t=ch:=qu.inj (f6.symm.trans bE);rw[al] at aV;have X:=J.o.2.2.2.2.2.below aD;have bF:=J.o.1.below aD;have bI:g≠d:=by omega
   have bJ:w.heap.size+1<g:=by have:=Y.o.2.2.2.2;omega
   simp[nZ,Act.put,f9,f10] at bD;subst bD;have K:=aa (z_ aV (z_ trivial (z_ X (z_ bF (z_ az (z_ bI (z_ aD (z_ bJ R))))))));clear aE aD cg aV X bF f6 bE bI aU bw al ax bl z0 ab z2 z3 z4 z5 ad ae aT R bJ az;have z:=K.o.2.2.2.1.cell;have z0:=z 0;have ab:=z 1;have z2:=z 2;have z3:=z 3;have z4:=z 4;have z5:=z 5;have ad:=z 6;have ae:=z 7;have O:=K.o.2.2.2.1.free;have cj:=O 0;have ck:=O 1;have cm:=O 2;have cn:=O 3;have cp:=O 4;have cq:=O 5;have cr:=O 6;have ct:=O 7;simp only[kR.L,nP,y_,x_] at z0 ab z2 z3 z4 z5 ad ae
   by_cases ag:lq n [mb ls k]=0
   ·have he:qJ n (mb ls k)=0:=if_pos ag;rw[he] at f9 K⊢;obtain⟨s',ao,aq,ar,au,rfl,bK,bL,bM⟩:=K.o.1 rfl;have y:=K.o.2.2.2.2.1.cell;have bN:=y 0;have bO:=y 1;have bP:=y 2;have bQ:=y 3;have bR:=y 4;have bS:=y 5;have bT:=y 6;have bU:=y 7;simp only[kR.L,nP,y_,x_] at bN bO bP bQ bR bS bT bU;have aG:=aa (z_ ag (z_ bK (z_ bL bM)));clear ag bK bL bM z y O;show bq _ _ (Oper.mk _ _ _ _ _ _) _ _;simp[bq,execOp,cF,go_sem,Act.eval,Act.put,f9];have cU:IntKind.i64.wrap ((k:Int)+1)=(k:Int)+1:=by rw[IntKind.wrap_i64];have:=M.o.1;have:=aL.o.2;omega
    go_wp2_with fail
    have S:=aN.vt (show aN bG d 47 [.int .i64 n,.slice aM s.gs.length aF,.slice none s.es.length 0,.slice ic (n+1) c3,.slice iu n gF,.int .i64 s.aZ,.slice ij (n+1) gL,.slice m s.aA.length C] from K.o.2.2.2.1) (.int .i64 n) (.slice ao s'.gs.length aq) (.slice none s'.es.length 0) (.slice ic (n+1) c3) (.slice iu n gF) (.int .i64 s'.aZ) (.slice ij (n+1) gL) (.slice ar s'.aA.length au);have f8:=aC.eight (W:=bG) (B:=d) (.int .i64 n) (.slice ao s'.gs.length aq) (.slice none s'.es.length 0) (.slice ic (n+1) c3) (.slice iu n gF) (.int .i64 s'.aZ) (.slice ij (n+1) gL) (.slice ar s'.aA.length au);generalize (((((((bG.setCell ⟨d,0,none⟩ (.int .i64 n)).setCell ⟨d,1,none⟩ (.slice ao s'.gs.length aq)).setCell ⟨d,2,none⟩ (.slice none s'.es.length 0)).setCell ⟨d,3,none⟩ (.slice ic (n+1) c3)).setCell ⟨d,4,none⟩ (.slice iu n gF)).setCell ⟨d,5,none⟩ (.int .i64 s'.aZ)).setCell ⟨d,6,none⟩ (.slice ij (n+1) gL)).setCell ⟨d,7,none⟩ (.slice ar s'.aA.length au)=kg at*;have bV:=aa (z_ S f8);clear S f8 bN bO bP bQ bR bS bT bU z0 ab z2 z3 z4 z5 ad ae cj ck cm cn cp cq cr ct;go_roundw
    case rel=>
     have f8:=bV.o.2;have bW:rT kg (λ b=>b=d\/b=w.heap.size+1) s' ao aq none 0 ic c3 iu gF ij gL ar au:=λ W' cu=>aG.o.2.2.2 W' ((f8.mono λ b D e=>D.2 (.inl (.inl e))).trans (cu.mono λ b D=>⟨v_ D.1 f8.size,λ e=>D.2 (.inl e)⟩))
     have X:=K.o.2.2.1;have aJ:=Y.o.2.2.2.2;refine⟨k+1,s',ao,aq,ar,au,by go_num,by have:=M.o.1;omega,bV.o.1,aG.o.2.1.r5 (bW _ aC.refl),bW,?_,λ j aO=>?_,⟨uZ7 X.kQ f8 (by omega),⟨v_ X.xz.lt f8.size,(f8.cell (p:=⟨w.heap.size,0,none⟩) (show w.heap.size≠d by omega)).trans X.xz.bH,(f8.cell (p:=⟨w.heap.size,1,none⟩) (show w.heap.size≠d by omega)).trans X.xz.c1⟩,f8.blk X.kS (by omega)⟩⟩
     ·rw[aG.o.2.2.1,J.o.2.2.2.1,tP M.o.2.1,List.take_succ_eq_append_getElem M.o.2.1]
     ·rcases k_ j k with h1|h1
      ·exact J.o.2.2.2.2.1 j h1
      ·obtain rfl:j=k:=by omega
       exact aG.o.1
    case measure=>have:=M.o.1;simp[intOf];omega
   ·have he:qJ n (mb ls k)=140:=if_neg ag;rw[he] at f9 K⊢;have cv:fE (lq n ls≠0):=aa λ h=>ag (O3 h M.o.2.1)
    have q:=K.o.2.2.1.kS.cell;have aW:=q 0;have R:=q 1;have ay:=q 2;have aX:=q 3;have aY:=q 4;have a6:=q 5;have a7:=q 6;have a8:=q 7;have v:=K.o.2.2.1.kS.free;have cw:=v 0;have cx:=v 1;have cy:=v 2;have cz:=v 3;have cA:=v 4;have cB:=v 5;have cC:=v 6;have cD:=v 7;simp only[o6,y_,x_] at aW R ay aX aY a6 a7 a8;clear ag z O q v;show bq _ _ (Oper.mk _ _ _ _ _ _) _ _;simp[bq,execOp,cF,go_sem,Act.eval,Act.put,f9]
    go_wp2_with fail
    have S:=aN.vt (show aN bG (w.heap.size+1) 47 [.int .i64 0,.slice none 0 0,.slice none 0 0,.slice none 0 0,.slice none 0 0,.int .i64 0,.slice none 0 0,.slice none 0 0] from K.o.2.2.1.kS) (.int .i64 n) (.slice aM s.gs.length aF) (.slice none s.es.length 0) (.slice ic (n+1) c3) (.slice iu n gF) (.int .i64 s.aZ) (.slice ij (n+1) gL) (.slice m s.aA.length C);have f8:=aC.eight (W:=bG) (B:=w.heap.size+1) (.int .i64 n) (.slice aM s.gs.length aF) (.slice none s.es.length 0) (.slice ic (n+1) c3) (.slice iu n gF) (.int .i64 s.aZ) (.slice ij (n+1) gL) (.slice m s.aA.length C);refine Em (t:=nP n s ic c3 iu gF ij gL aM aF m C) rfl rfl rfl S ⟨_,_,rfl,uZ7 K.o.2.2.1.kQ f8 (by omega),λ h=>absurd h cv.o⟩
  ·have aT:¬(k:Int)<(nl:Int):=by omega
   have bX:s.gs=ls:=by rw[aj,List.take_of_length_le (by rw[aH.o.2];omega)]
   have cE:=aa bX;have q:=I.kS.cell;have aW:=q 0;have R:=q 1;have ay:=q 2;have aX:=q 3;have aY:=q 4;have a6:=q 5;have a7:=q 6;have a8:=q 7;have v:=I.kS.free;have cw:=v 0;have cx:=v 1;have cy:=v 2;have cz:=v 3;have cA:=v 4;have cB:=v 5;have cC:=v 6;have cD:=v 7;simp only[o6,y_,x_] at aW R ay aX aY a6 a7 a8;clear aw F aP aj aQ I aR z q v bX ak hk
   go_wp2_with fail
   have S:=aN.vt (show aN wr (w.heap.size+1) 47 [.int .i64 0,.slice none 0 0,.slice none 0 0,.slice none 0 0,.slice none 0 0,.int .i64 0,.slice none 0 0,.slice none 0 0] from J.o.2.2.2.2.2.kS) (.int .i64 n) (.slice aM s.gs.length aF) (.slice none s.es.length 0) (.slice ic (n+1) c3) (.slice iu n gF) (.int .i64 s.aZ) (.slice ij (n+1) gL) (.slice m s.aA.length C);have f8:=aC.eight (W:=wr) (B:=w.heap.size+1) (.int .i64 n) (.slice aM s.gs.length aF) (.slice none s.es.length 0) (.slice ic (n+1) c3) (.slice iu n gF) (.int .i64 s.aZ) (.slice ij (n+1) gL) (.slice m s.aA.length C);refine Em (t:=nP n s ic c3 iu gF ij gL aM aF m C) rfl rfl rfl S ⟨_,_,rfl,uZ7 J.o.2.2.2.2.2.kQ f8 (by omega),λ _=>⟨rfl,s,ic,c3,iu,gF,ij,gL,aM,aF,m,C,rfl,J.o.2.1.r5 (J.o.2.2.1 _ (f8.mono λ b D e=>D.2 (.inr e))),cE.o⟩⟩
theorem O8(x:Int)(d:x<=10)(A:Option Addr)(nl cl:Nat)(ls:List (List Int))(w:World)(h:kD w A nl cl ls)(c:nl<=60):
  Calls w_ 35 #[.agg #[.int .i64 x,.slice A nl cl]] w (Ek w x ls):=by
 rcases Int.lt_or_le x 0 with b|b
 ·exact O6 x b A nl cl ls w
 ·obtain⟨n,rfl⟩:∃n:Nat,x=n:=⟨x.toNat,by omega⟩
  exact O7 n (by omega) A nl cl ls w h c
end
section
open Go.RowKit Go.Shelf Go.Sort Go.Lib
def z24(x:Int)(A:Option Addr)(nl cl:Nat):Obj:=.cells #[.int .i64 x,.slice A nl cl] 24
theorem H9(w:World)(x:Int)(A:Option Addr)(nl cl:Nat)(b:Option Addr)(nq c:Nat)(e:List Int)(j:aS w b nq c e):
  ∃W:World,W=((w.alloc (.cells #[.int .i64 x,.slice A nl cl] 24)).alloc (.cells #[.int .i64 0,.slice none 0 0,.slice none 0 0,.int .i64 0] 30)).alloc (.cells #[.slice b nq c] 25)/\Below w.heap.size w W/\aN W (w.heap.size+1) 30 [.int .i64 0,.slice none 0 0,.slice none 0 0,.int .i64 0]/\kD W (some ⟨w.heap.size+1+1,0,none⟩) 1 1 [e]/\W.heap.size=w.heap.size+3:=by
 have f:=bB w (.cells #[.int .i64 x,.slice A nl cl] 24);have z0:(w.alloc (.cells #[.int .i64 x,.slice A nl cl] 24)).heap.size=w.heap.size+1:=by simp
 generalize w.alloc (.cells #[.int .i64 x,.slice A nl cl] 24)=w1 at*;have h1:=bB w1 (.cells #[.int .i64 0,.slice none 0 0,.slice none 0 0,.int .i64 0] 30);have k:aN (w1.alloc (.cells #[.int .i64 0,.slice none 0 0,.slice none 0 0,.int .i64 0] 30)) w1.heap.size 30 [.int .i64 0,.slice none 0 0,.slice none 0 0,.int .i64 0]:=aN.new w1 30 _;have l:(w1.alloc (.cells #[.int .i64 0,.slice none 0 0,.slice none 0 0,.int .i64 0] 30)).heap.size=w1.heap.size+1:=by simp
 generalize w1.alloc (.cells #[.int .i64 0,.slice none 0 0,.slice none 0 0,.int .i64 0] 30)=d at*;have g:=bB d (.cells #[.slice b nq c] 25);have i:=(oe.AA d ⟨b,nq,c,e⟩ ((j.below f).below (h1.mono (p_ _)))).AQ;have z2:(d.alloc (.cells #[.slice b nq c] 25)).heap.size=d.heap.size+1:=by simp
 refine⟨_,rfl,f.trans ((h1.trans (g.mono h1.size)).mono f.size),?_,?_,by omega⟩
 ·have:=k.below g;rw[z0] at this;exact this
 ·rw[l,z0] at i;exact i
theorem O9(x:Int)(A:Option Addr)(nl cl:Nat)(ls:List (List Int))(f:Option Addr)(nq i:Nat)(b:List Int)(j:Int)(w:World)(h:kD w A nl cl ls)(p:aS w f nq i b)(hw:tn b)(hlen:b.length<=1000)(c:Int)(he:qG x ls b j=c)(k:c≠0):
  Calls w_ 28 #[.agg #[.int .i64 x,.slice A nl cl],.slice f nq i,.int .i64 j] w λ e w'=>e=.returned (.tuple #[.agg #[.int .i64 0,.slice none 0 0,.slice none 0 0,.int .i64 0],.int .i64 c])/\Below w.heap.size w w':=by
 obtain⟨W,s,l,q,r,t⟩:=H9 w x A nl cl f nq i b p;have d:[b].flatten=b:=by simp
 have u:=aa (HW x A nl cl ls j _ 1 1 [b] W (h.below l) r (by rw[d];exact hw) (by rw[d];omega) c (by rw[d];exact he) k);have m:=aa (z_ l q);have y:(c==0)=false:=by simpa using k
 clear h p hw hlen he k l q r t d;subst s;go_enter Tryz.func28,Tryz.ntmps28
 go_wp2_with fail
 go_step3
 go_upto_region 3 with(go_at_call 76;refine u.o.mono ?_;rintro e w1 ⟨rfl,n⟩;have H1:=aa (z_ n (m.o.2.below n));clear n;have z:=H1.o.2.cell;have z0:=z 0;have v:=z 1;have z2:=z 2;have z3:=z 3;have g:=H1.o.2.free;have g0:=g 0;have g1:=g 1;have g2:=g 2;have g3:=g 3;simp only[y_,x_] at z0 v z2 z3;clear z g)
 go_wp2_with fail
 rw[r_];exact AG rfl rfl rfl ((((H1.o.2.set 0 _).set 1 _).set 2 _).set 3 _) ⟨rfl,((((m.o.1.trans (H1.o.1.mono m.o.1.size)).setCell (s_ _) _).setCell (s_ _) _).setCell (s_ _) _).setCell (s_ _) _⟩
theorem Pa{base:Nat}{xs:List Value}(h:w.ownsRow base 3 1 (.slice A n c) n xs)(d:0<n):∃g,A=some ⟨g,0,none⟩/\base<=g:=by
 rcases h.2 with⟨h1,b⟩|⟨g,cap,cur,h1,b,_⟩
 ·omega
 ·injection h1 with h1
  exact⟨g,h1,b⟩
theorem Pb{l:List Int}(h:(l.map aG).Nodup):l.Nodup:=by
 have h:=List.pairwise_map.1 h;exact h.imp λ b e=>b (by rw[e])
structure En(w:World)(B n:Nat)(ls:List (List Int))(ai:List Int)(aW base k:Nat)(ic:Option Addr)(c3:Nat)(left:List Int)(W:World):Prop where
 lu:∃(s:kf)(aM:Option Addr)(aF:Nat)(ia:Option Addr)(cl:Nat)(A:Option Addr)(c:Nat)(A':Option Addr)(c':Nat)(fM:Option Addr)(bD:Nat)(aQ:Option Addr)(aU sp:Nat),qY (λ b=>b=B) W B n s aM aF ia cl A c A' c' fM bD aQ aU aW sp/\s.gs=ls
 pE:aN W (w.heap.size+1) 30 [.int .i64 0,.slice none 0 0,.slice none 0 0,.int .i64 0]
 own:W.ownsRow base 3 1 (.slice ic left.length c3) left.length (left.map (t_ .i64))
 jC:base<=W.heap.size
 oz:B<base
 kQ:w.heap.size+1<B
 kl:k<=left.length
 sub:left.Sublist ai
 un:¬Can ls left
 AI:∀j,j<k->Can ls (left.eraseIdx j)
 qU:Below w.heap.size w W
theorem xA(w:World)(B:Nat)(L:List Value)(b sp:Nat)(k:aN w B 155 L)(l:L[8]? =some (.int .i64 b))(m:L[9]? =some (.int .i64 sp))(kind:Int)(c:Option Addr)(d f:Nat)(g:Option Addr)(i j:Nat)(hk:kind=1\/kind=2\/kind=3)(r:Nat)(n:(if kind=3 then b else sp:Nat)=r):
  Calls w_ 78 #[.pointer (some ⟨B,0,none⟩),.int .i64 kind,.slice c d f,.slice g i j] w λ e w'=>e=.returned (.tuple #[.agg #[.int .i64 kind,.slice c d f,.slice g i j,.int .i64 (r:Int)],.int .i64 0])/\Below w.heap.size w w':=by
 rw[<-n];exact OK w B L b sp k l m kind c d f g i j hk
theorem Pc(n:Nat)(au:n<=10)(A:Option Addr)(nl cl:Nat)(ls:List (List Int))(av:Option Addr)(nq aw:Nat)(t:List Int)(f:Nat)(w:World)(h:kD w A nl cl ls)(N:aS w av nq aw t)(hw:tn t)(hlen:t.length<=1000)(bx:ls.length<=40000)(he:qG n ls t f=0):
  Calls w_ 28 #[.agg #[.int .i64 n,.slice A nl cl],.slice av nq aw,.int .i64 f] w (H6 w n ls t f):=by
 obtain⟨W,cj,ad,bz,bA,bC⟩:=H9 w n A nl cl av nq aw t N;have aO:[t].flatten=t:=by simp
 have bD:=aa (HX n au A nl cl ls f _ 1 1 [t] W (h.below ad) bA (by rw[aO];exact hw) (by rw[aO];omega) bx (by rw[aO];exact he));obtain⟨ck,hm,cm,aP⟩:=y8 he;obtain⟨ag,bE⟩:=Cd hm;have L:=aa (z_ ad (z_ bz (z_ bC (z_ ag (z_ bE (z_ hlen (z_ (N.below ad) N.len)))))));clear h N hw hlen he ad bz bA bC aO ck hm cm aP ag bE bx;subst cj;go_enter Tryz.func28,Tryz.ntmps28
 go_wp2_with fail
 go_step3
 go_upto_region 4 with(go_at_call 76;refine bD.o.mono ?_;rintro e w1 ⟨B,s,aM,aF,cn,cl,A,c,A',c',cp,cq,cr,ct,rfl,Y,ah,bF,aP⟩;have H1:=aa (z_ Y (z_ ah (z_ bF aP)));clear Y ah bF aP)
 have cu:=L.o.2.2.2.2.2.2.2;have cv:=L.o.2.2.2.2.2.1;have ay:=aa (Co H1.o.1 (L.o.2.2.2.2.2.2.1.below H1.o.2.2.2) L.o.2.2.2.1 L.o.2.2.2.2.1 (by omega));clear cu cv
 go_upto_region 5 with(go_at_call 77;refine ay.o.mono ?_;rintro e Z ⟨s2,c8,c1,c9,c2,y,c3,da,db,bH,bI,C,kind,G,H,I,O,P,Q,rfl,bJ,bK,bL,bM,bN⟩;have ai:=aa (z_ bJ (z_ bK (z_ bL (z_ bM bN))));clear bJ bK bL bM bN)
 obtain⟨m,core,hm,az,R⟩:=ai.o.2.2.2.1.plain;rw[H1.o.2.1] at R;have aX:=ai.o.1;rw[Nat.zero_add] at aX;have g2:=Cr ai.o.2.2.2.2;have bO:w.heap.size+1<B:=by have:=H1.o.2.2.1;have:=L.o.2.2.1;omega
 have bP:=g2.blk (L.o.2.1.below H1.o.2.2.2) ⟨(L.o.2.1.below H1.o.2.2.2).lt,by omega⟩;have aY:=L.o.1.trans (H1.o.2.2.2.mono L.o.1.size);have aZ:Below w.heap.size w Z:=uX aY ai.o.2.2.2.2 aY.size (λ g e=>by injection e with e;omega);have bQ:=ai.o.2.1.trans H1.o.2.1;have cw:=g2.size;have cx:=H1.o.1.blk.lt;have a6:=L.o.2.2.2.2.2.2.1;have bR:aS Z av nq aw t:=(a6.below H1.o.2.2.2).iR g2 (λ b e au=>by
  have h1:=a6.lt b e au;have bS:=H1.o.2.2.2.size;have bT:=H1.o.2.2.1;exact⟨by omega,by omega⟩)
 have D:=bB Z (.cells #[.int .i64 kind,.slice G H I,.slice O P Q,.int .i64 (C:Int)] 30);have aA:aN (Z.alloc (.cells #[.int .i64 kind,.slice G H I,.slice O P Q,.int .i64 (C:Int)] 30)) Z.heap.size 30 [.int .i64 kind,.slice G H I,.slice O P Q,.int .i64 (C:Int)]:=aN.new Z 30 _;have p:=aa (z_ (aX.more D) (z_ (bP.below D) (z_ (aZ.trans (D.mono aZ.size)) (z_ (hm.below D) (z_ (az.below D) (z_ (bR.below D) (z_ aA (z_ R (z_ bQ bO)))))))));clear bD ay hm az aX g2 bP aY aZ cw cx bR a6 bQ H1 ai;generalize Z.heap.size=bf at*;generalize Z.alloc (.cells #[.int .i64 kind,.slice G H I,.slice O P Q,.int .i64 (C:Int)] 30)=aj at*;have a:=p.o.2.2.2.2.2.2.1.cell;have a0:=a 0;have a1:=a 1;have a2:=a 2;have a3:=a 3;simp only[y_,x_] at a0 a1 a2 a3;clear a aA D bO;have fin:∀(k:Int)(r:Nat),fE (∀V,Below aj.heap.size aj V->vr ls n t f k m [] r->H6 w n ls t f (.returned (.tuple #[.agg #[.int .i64 k,.slice G H I,.slice none 0 0,.int .i64 (r:Int)],.int .i64 0])) ((((V.setCell ⟨w.heap.size+1,0,none⟩ (.int .i64 k)).setCell ⟨w.heap.size+1,1,none⟩ (.slice G H I)).setCell ⟨w.heap.size+1,2,none⟩ (.slice none 0 0)).setCell ⟨w.heap.size+1,3,none⟩ (.int .i64 (r:Int)))):=λ k r=>aa λ V M cy=>by
  refine⟨k,G,H,I,none,0,0,r,m,[],rfl,?_,aS.nil _ _ _ (Nat.zero_le _),cy,uZ7 (p.o.2.2.1.trans (M.mono p.o.2.2.1.size)) (aC.uZ6 _ _ _ _) (s_ _)⟩;exact(p.o.2.2.2.1.below M).Ei (p.o.2.1.below M) (λ u hu x e=>by subst e;simp at hu) (aC.uZ6 _ _ _ _)
 rcases R.k with⟨rfl,rfl,aB⟩|⟨rfl,rfl,aD,aE⟩|⟨rfl,rfl,rfl,a7⟩
 ·have a8:=aa aB;have T:=aa (xA aj B _ f C p.o.1.blk rfl rfl 1 G H I none 0 0 (.inl rfl) C rfl);have a':=fin 1 C;clear aB R fin
  go_wp2_with (go_at_call 78;refine T.o.mono ?_;rintro e V ⟨rfl,M⟩;have ab:=aa M;have J:=p.o.2.1.below M;have z:=J.cell;have z0:=z 0;have ae:=z 1;have z2:=z 2;have z3:=z 3;have g:=J.free;have g0:=g 0;have g1:=g 1;have g2:=g 2;have g3:=g 3;simp only[y_,x_] at z0 ae z2 z3;clear z g J M)
  rw[r_];exact AG rfl rfl rfl (((((p.o.2.1.below ab.o).set 0 _).set 1 _).set 2 _).set 3 _) (a'.o V ab.o ⟨p.o.1.Cm,.inl ⟨rfl,rfl,a8.o⟩⟩)
 ·have af:=aa (Ed av nq aw t O P Q core aj p.o.2.2.2.2.2.1 p.o.2.2.2.2.1);obtain⟨aQ,aR⟩:∃l,rA t core=l:=⟨_,rfl⟩
  rw[aR] at af;have bU:aQ.Sublist t:=aR▸DY t core;have bV:¬Can ls aQ:=λ h=>aE (h.mono λ x ak=>by rw[<-aR];exact Cb.2 ⟨aD.subset ak,ak⟩)
  have ba:=aa (z_ bU bV);clear R fin aD aE aR bU bV
  go_upto_region 8 with(go_at_call 79;refine af.o.mono ?_;rintro e cz ⟨y,c3,rfl,cA,bW,bX⟩;have al:=aa (z_ bW bX);clear cA bW bX)
  obtain⟨base,aT⟩:∃b,aj.heap.size=b:=⟨_,rfl⟩
  have cB:fE (En w B n ls t f base 0 y c3 aQ cz):=aa (by
   refine⟨⟨_,_,_,_,_,_,_,_,_,_,_,_,_,_,p.o.1.more al.o.2,p.o.2.2.2.2.2.2.2.2.1⟩,p.o.2.1.below al.o.2,aT▸al.o.1,aT▸al.o.2.size,aT▸p.o.1.blk.lt,p.o.2.2.2.2.2.2.2.2.2,Nat.zero_le _,ba.o.1,ba.o.2,λ j bb=>absurd bb (by omega),p.o.2.2.1.trans (al.o.2.mono p.o.2.2.1.size)⟩)
  clear p al ba aT a0 a1 a2 a3 af
  go_wp2_with fail
  apply wp_label
  go_wp2_with fail
  go_loopw [12,11] (λ i l W=>∃(k:Nat)(y:Option Addr)(c3:Nat)(left:List Int),i=.int .i64 k/\l=.slice y left.length c3/\En w B n ls t f base k y c3 left W) (λ i l _=>2*Ej l-(intOf i).toNat)
  case atStart=>exact⟨0,y,c3,aQ,rfl,rfl,cB.o⟩
  case round=>
   obtain⟨k,y,c3,left,rfl,rfl,S⟩:=hrel;have v:=aa S;have aU:left.length<=1000:=q_ S.sub.length_le L.o.2.2.2.2.2.1;have bc:=S.kl;obtain⟨s,aM,aF,cn,cl,A,c,A',c',cp,cq,cr,ct,sp,Y,ah⟩:=S.lu;have aH:=aa (z_ Y ah);have bd:∀x∈left,gW n x:=sub_lt S.sub L.o.2.2.2.1;have bg:(left.map aG).Nodup:=(S.sub.map aG).nodup L.o.2.2.2.2.1;have bh:=aS.lG S.own (by omega);obtain⟨q,N⟩:∃q,left.length=q:=⟨_,rfl⟩
   by_cases ag:k<q
   ·have cC:(k:Int)<(q:Int):=by omega
    have dc:IntKind.i64.wrap ((k:Int)+1)=(k:Int)+1:=by rw[IntKind.wrap_i64];omega
    have dd:wrap64 ((k:Int)+1)=(k:Int)+1:=by unfold wrap64;omega
    have bj:=aa (vm y left.length c3 left wr bh);have d:=aa (z_ N (z_ ag (z_ bd (z_ bg (z_ aU bc)))));rw[N] at bj⊢;clear S Y ah bd bg bh N ag bc aU
    go_upto_region 11 with(first
     |(go_at_call 81;refine bj.o.mono ?_;rintro e V ⟨bH,bI,rfl,bk,M⟩;rw[d.o.1];obtain⟨g5,cD,bY⟩:∃g,bH=some ⟨g,0,none⟩/\wr.heap.size<=g:=Pa bk (by have:=d.o;omega);subst cD;have bl:=OV V wr.heap.size g5 left.length bI left bk bY k (by have:=d.o;omega);rw[d.o.1] at bl;have bZ:=aa bl;have ab:=aa M;clear bl bk M bY)
     |(go_at_call 80;refine bZ.o.mono ?_;rintro e cE ⟨rfl,b0,bn⟩;have ay:=aa (Co (aH.o.1.more (ab.o.trans bn)) (aS.lG b0 (by have:=d.o;omega)) (λ x ak=>d.o.2.2.1 x (List.mem_of_mem_eraseIdx ak)) (((List.eraseIdx_sublist left k).map aG).nodup d.o.2.2.2.1) (by have:=d.o;omega));have an:=aa (ab.o.trans bn);clear b0 bn)
     |(go_at_call 77;refine ay.o.mono ?_;rintro e X ⟨sj,de,d1,df,d2,dh,d3,di,d4,mO,d5,C,kind,G,H,I,O,P,Q,rfl,b1,aI,aJ,b2,b3⟩;have ao:=aa (z_ b1 (z_ aI (z_ aJ (z_ b2 b3))));clear b1 aI aJ b2 b3))
    obtain⟨m,core,hm,az,R⟩:=ao.o.2.2.2.1.plain;rw[aH.o.2] at R;have aI:=ao.o.2.1.trans aH.o.2;have g7:=Cr ao.o.2.2.2.2;have b4:=v.o.oz;have b5:=v.o.kQ;have cF:=(aH.o.1.more an.o).blk.lt;have b6:=g7.blk (v.o.pE.below an.o) ⟨(v.o.pE.below an.o).lt,by omega⟩;have aV:=nc v.o.own an.o;have b7:X.ownsRow base 3 1 (.slice y left.length c3) left.length (left.map (t_ .i64)):=pL aV (λ b ad=>g7.keep b ⟨(aV.lt b ad).2,by have:=(aV.lt b ad).1;omega⟩);have b8:=an.o.size;have aJ:=g7.size;have b9:=v.o.jC;have bo:=v.o.qU;have bp:Below w.heap.size w cE:=bo.trans (an.o.mono bo.size);have bq:Below w.heap.size w X:=uX bp ao.o.2.2.2.2 bp.size (λ g e=>by injection e with e;omega);have D:=bB X (.cells #[.int .i64 kind,.slice G H I,.slice O P Q,.int .i64 (C:Int)] 30);have aA:aN (X.alloc (.cells #[.int .i64 kind,.slice G H I,.slice O P Q,.int .i64 (C:Int)] 30)) X.heap.size 30 [.int .i64 kind,.slice G H I,.slice O P Q,.int .i64 (C:Int)]:=aN.new X 30 _;have b':∀aW,aW<=left.length->(∀j,j<aW->Can ls (left.eraseIdx j))->En w B n ls t f base aW y c3 left (X.alloc (.cells #[.int .i64 kind,.slice G H I,.slice O P Q,.int .i64 (C:Int)] 30)):=λ aW cG cH=>
     ⟨⟨_,_,_,_,_,_,_,_,_,_,_,_,_,_,ao.o.1.more D,aI⟩,b6.below D,nc b7 D,q_ (q_ b9 b8) (q_ aJ D.size),b4,b5,cG,v.o.sub,v.o.un,cH,bq.trans (D.mono bq.size)⟩
    have aq:=aa (z_ b' (z_ (az.below D) (ao.o.1.more D)));have cI:=aa aA;clear hm az g7 b6 aV b7 bp bq D b' aA b8 aJ b9 bo b4 cF b5 aI bj bZ ay;generalize X.heap.size=lz at*;generalize X.alloc (.cells #[.int .i64 kind,.slice G H I,.slice O P Q,.int .i64 (C:Int)] 30)=ca at*;have a:=cI.o.cell;have a0:=a 0;have a1:=a 1;have a2:=a 2;have a3:=a 3;simp only[y_,x_] at a0 a1 a2 a3;clear a;rcases R.k with⟨rfl,rfl,aB⟩|⟨rfl,rfl,aD,aE⟩|⟨rfl,rfl,rfl,a7⟩
    ·have a8:=aa (aq.o.1 (k+1) (by have:=d.o;omega) (λ j bb=>by
      rcases k_ j k with h1|h1
      ·exact v.o.AI j h1
      ·obtain rfl:j=k:=by omega
       exact aB.can))
     clear aB R
     go_wp2_with fail
     go_roundw
     case rel=>exact⟨k+1,y,c3,left,by go_num,by rw[d.o.1],a8.o⟩
     case measure=>have:=d.o.2.1;simp[intOf,Ej];omega
    ·have ar:=aq.o.1 k (by have:=d.o;omega) v.o.AI;have af:=Ed y left.length c3 left O P Q core ca (aS.lG ar.own (by have:=d.o;omega)) aq.o.2.1;rw[d.o.1] at af;have cc:=aa af;have br:=aa (Nj (F:=ls) (left:=left) (core:=core) (i:=k) (Pb d.o.2.2.2.1) (by have:=d.o;omega) (λ x ak=>aD.subset ak) aE v.o.AI);have E:=aa ar;obtain⟨cd,bs⟩:∃l,rA left core=l:=⟨_,rfl⟩
     have cf:cd.Sublist left:=bs▸DY left core;rw[bs] at cc br;have cJ:=aa cf;clear aD aE R af ar bs cf
     go_wp2_with (go_at_call 79;refine cc.o.mono ?_;rintro e bG ⟨cK,cL,rfl,cM,cg,K⟩;have U:=aa (z_ cg K);clear cM cg K)
     go_roundw
     case rel=>
      obtain⟨cN,dj,cO,cP⟩:=br.o;obtain⟨cQ,cR,cS,cT,cU,a9,cV,cW,cX,cY,cZ,c0,c4,c5,c6,c7⟩:=E.o.lu;have K:=U.o.2;have ch:=E.o.jC;exact⟨k,cK,cL,cd,rfl,rfl,⟨⟨cQ,cR,cS,cT,cU,a9,cV,cW,cX,cY,cZ,c0,c4,c5,c6.more K,c7⟩,E.o.pE.below K,Ec U.o.1 ch,q_ ch K.size,E.o.oz,E.o.kQ,cO,cJ.o.trans E.o.sub,cN,cP,E.o.qU.trans (K.mono E.o.qU.size)⟩⟩
     case measure=>have:=br.o;have:=d.o;simp[intOf,Ej];omega
    ·have ar:=aq.o.1 k (by have:=d.o;omega) v.o.AI;have bt:=aH.o.1.nt;have bu:=aq.o.2.2.mT;have T:=xA ca B _ f (sp+C) aq.o.2.2.blk rfl rfl 3 none 0 0 y left.length c3 (.inr (.inr rfl)) f rfl;rw[d.o.1] at T;have bw:=aa T;have aK:=aa (show vr ls n t f 3 [] left f from⟨⟨p_ _,by omega⟩,.inr (.inr ⟨rfl,rfl,rfl,by omega,v.o.sub,.inr v.o.un⟩)⟩);have E:=aa ar;clear a7 R ar bt bu T
     go_wp2_with (go_at_call 78;refine bw.o.mono ?_;rintro e bG ⟨rfl,K⟩;have U:=aa K;have J:=E.o.pE.below K;have z:=J.cell;have z0:=z 0;have ae:=z 1;have z2:=z 2;have z3:=z 3;have g:=J.free;have g0:=g 0;have g1:=g 1;have g2:=g 2;have g3:=g 3;simp only[y_,x_] at z0 ae z2 z3;clear z g J K)
     first|rw[r_]|skip
     refine AG rfl rfl rfl (((((E.o.pE.below U.o).set 0 _).set 1 _).set 2 _).set 3 _) ⟨3,none,0,0,y,left.length,c3,f,[],left,by rw[d.o.1],kE.xx _,?_,aK.o,uZ7 (E.o.qU.trans (U.o.mono E.o.qU.size)) (aC.uZ6 _ _ _ _) (s_ _)⟩;have aL:=nc E.o.own U.o;exact(aS.lG aL (by have:=d.o;omega)).iR (aC.uZ6 _ _ _ _) (λ b e au=>by have h1:=(aL.lt b ((ax.own ⟨y,_,c3⟩).trans e)).1;have bS:=E.o.oz;have bT:=E.o.kQ;omega)
   ·have cC:¬(k:Int)<(q:Int):=by omega
    have T:=xA wr B _ f sp Y.blk rfl rfl 2 none 0 0 y left.length c3 (.inr (.inl rfl)) sp rfl;rw[N] at T;have bw:=aa T;have aK:=aa (show vr ls n t f 2 [] left sp from⟨Y.Cm,.inr (.inl ⟨rfl,rfl,S.sub,S.un,λ j bb=>S.AI j (by omega)⟩)⟩);have d:=aa (z_ N aU);rw[N];clear S Y ah bd bg bh N ag bc aU T
    go_wp2_with (go_at_call 78;refine bw.o.mono ?_;rintro e bG ⟨rfl,K⟩;have U:=aa K;have J:=v.o.pE.below K;have z:=J.cell;have z0:=z 0;have ae:=z 1;have z2:=z 2;have z3:=z 3;have g:=J.free;have g0:=g 0;have g1:=g 1;have g2:=g 2;have g3:=g 3;simp only[y_,x_] at z0 ae z2 z3;clear z g J K)
    first|rw[r_]|skip
    refine AG rfl rfl rfl (((((v.o.pE.below U.o).set 0 _).set 1 _).set 2 _).set 3 _) ⟨2,none,0,0,y,left.length,c3,sp,[],left,by rw[d.o.1],kE.xx _,?_,aK.o,uZ7 (v.o.qU.trans (U.o.mono v.o.qU.size)) (aC.uZ6 _ _ _ _) (s_ _)⟩;have aL:=nc v.o.own U.o;exact(aS.lG aL (by have:=d.o;omega)).iR (aC.uZ6 _ _ _ _) (λ b e au=>by have h1:=(aL.lt b ((ax.own ⟨y,_,c3⟩).trans e)).1;have bS:=v.o.oz;have bT:=v.o.kQ;omega)
 ·have T:=aa (xA aj B _ f C p.o.1.blk rfl rfl 3 G H I none 0 0 (.inr (.inr rfl)) f rfl);have a':=fin 3 f;have bt:C=f:=by omega
  have bu:=p.o.1.mT;have aK:=aa (show vr ls n t f 3 [] [] f from⟨⟨p_ _,by omega⟩,.inr (.inr ⟨rfl,rfl,rfl,by omega,List.nil_sublist _,.inl rfl⟩)⟩);clear R fin a7 bt bu
  go_wp2_with (go_at_call 78;refine T.o.mono ?_;rintro e V ⟨rfl,M⟩;have ab:=aa M;have J:=p.o.2.1.below M;have z:=J.cell;have z0:=z 0;have ae:=z 1;have z2:=z 2;have z3:=z 3;have g:=J.free;have g0:=g 0;have g1:=g 1;have g2:=g 2;have g3:=g 3;simp only[y_,x_] at z0 ae z2 z3;clear z g J M)
  rw[r_];exact AG rfl rfl rfl (((((p.o.2.1.below ab.o).set 0 _).set 1 _).set 2 _).set 3 _) (a'.o V ab.o aK.o)
def pU(m:List Bool)(x:Int):Bool:=iU m x.natAbs !=decide (0<x)
theorem Cs{x:Int}(b:gW n x):pU m x= !(lJ m x):=by
 have c:=b.oE;unfold pU lJ
 by_cases h:x<0
 ·rw[if_pos h,decide_eq_false (show¬0<x by omega)]
  cases iU m x.natAbs<;>rfl
 ·rw[if_neg h,decide_eq_true (show 0<x by omega)]
  cases iU m x.natAbs<;>rfl
theorem Pd:∀args w,(callFunc 82 args).run w_ w=.ok (.enter 82 args) w:=enters_of Tryz.func82 (by kernel_rfl) rfl
theorem Pe:∀args w,(callFunc 86 args).run w_ w=.ok (.enter 86 args) w:=enters_of Tryz.func86 (by kernel_rfl) rfl
theorem Eo(n:Nat)(s:n<=60000)(x:Int)(r:x.natAbs<=n)(f:Nat)(g:Option Addr)(i:Nat)(m:List Bool)(W:World)(t:W.cell? ⟨f,1,none⟩=some (.slice g (n+1) i))(hm:kE W g (n+1) i m):
  Calls w_ 82 #[.int .i64 x,.pointer (some ⟨f,0,none⟩)] W λ e w'=>e=.returned (.bool (pU m x))/\∃q,w'=W.drewN q:=by
 have c:=aa (λ W:World=>HD x W (by omega));have j:uZ0 x=(x.natAbs:Int):=if_neg (by omega);rw[j] at c;obtain⟨b,off,rfl,w,k⟩:=hm.cells (by omega);have l:=k x.natAbs (by omega);have d:m.getD x.natAbs false=iU m x.natAbs:=rfl;obtain⟨v,p⟩:∃v,x.natAbs=v:=⟨_,rfl⟩
 unfold pU;rw[p] at l c r d⊢;rw[d] at l;have y:(v:Int)<(n:Int)+1:=by omega
 generalize iU m v=u at*;clear k hm j d p;go_enter Tryz.func82,Tryz.ntmps82
 go_wp2_with fail
 go_quiet ((go_at_call 83;refine Calls.quiet_of_same ((c.o _).mono λ e z h=>⟨h.1,h.2.symm⟩)))
 go_wp2_with fail
 go_ret;refine⟨?_,_,rfl⟩
 cases u<;>rfl
theorem Pf(n:Nat)(f:n<=60000)(x:Int)(g:x.natAbs<=n)(i b:Nat)(c:Option Addr)(d:Nat)(m:List Bool)(W:World)(l:W.cell? ⟨i,0,none⟩=some (.func (.func 82) #[] #[.pointer (some ⟨b,0,none⟩)]))(j:W.cell? ⟨b,1,none⟩=some (.slice c (n+1) d))(hm:kE W c (n+1) d m):
  Calls w_ 86 #[.int .i64 x,.pointer (some ⟨i,0,none⟩)] W λ e w'=>e=.returned (.bool (!(pU m x)))/\∃q,w'=W.drewN q:=by
 have k:=aa (Eo n f x g b c d m W j hm);generalize pU m x=u at*;clear j hm g f;go_enter Tryz.func86,Tryz.ntmps86
 go_wp2_with (go_at_call 82;refine k.o.mono ?_;rintro e w1 ⟨rfl,q,rfl⟩)
 go_ret;exact⟨rfl,_,rfl⟩
abbrev Ct(n:Nat):={x:Int//x.natAbs<=n}
instance (n:Nat):Inhabited (Ct n):=⟨⟨0,by simp⟩⟩
def vu(n:Nat)(x:Ct n):Value:=.int .i64 x.1
theorem Pg(n:Nat):OneCell (vu n):=λ x=>y4 x.1
def Cu(n:Nat)(f:Nat)(lb:Array Value)(p:Int->Bool)(g:Nat)(w:World):Prop:=
 ∀(W:World)(x:Int),x.natAbs<=n->w.heap.size<=W.heap.size->(∀b,b<w.heap.size->b≠g->W.heap[b]? =w.heap[b]?)->Calls w_ f (#[.int .i64 x]++lb) W λ e w'=>e=.returned (.bool (p x))/\∃q,w'=W.drewN q
theorem Ph(N:Nat)(f:Nat)(lb:Array Value)(p:Int->Bool)(t:∀args w,(callFunc f args).run w_ w=.ok (.enter f args) w)(w:World)(base g n cap:Nat)(c:List Int)(h:Own w base g n cap c)(d:base<=g)(u:∀x∈c,x.natAbs<=N)(hp:Cu N f lb p g w):
  Calls w_ 85 #[.slice (some ⟨g,0,none⟩) n cap,.func (.func f) #[] lb] w λ e w'=>
   e=.returned (.slice (some ⟨g,0,none⟩) (c.filter λ x=> !(p x)).length cap)/\Own w' base g (c.filter λ x=> !(p x)).length cap (c.filter λ x=> !(p x))/\Below base w w':=by
 obtain⟨ys,l⟩:∃ys:List (Ct N),ys.map Subtype.val=c:=⟨c.pmap Subtype.mk u,by simp[List.map_pmap]⟩
 have v:c.map (t_ .i64)=ys.map (vu N):=by rw[<-l,List.map_map];rfl
 have h':w.ownsRow base 3 1 (.slice (some ⟨g,0,none⟩) n cap) n (ys.map (vu N)):=by rw[<-v];exact h
 obtain⟨I,J,he,h1,K,y,z,i,A⟩:=holds_of_ownsRow h' (by intro e;cases e)
 cases he
 have B:n<=9223372036854775807:=by unfold maxLen at z;omega
 have C:PredAt w_ f lb (vu N) (λ x=>p x.1) w:=by
  intro W x m;unfold FnGives;exact hp W x.1 x.2 m.size (λ b d _=>m.block b d)
 have D:PredOver w_ f lb (vu N) (λ x=>p x.1) g 0 ys.toArray.size w:=by
  intro k os j x _;unfold FnGives;have E:w.heap.size<=(sortWorld (vu N) w g 0 k j os).heap.size:=by
   show w.heap.size<=((Sort.putRow (vu N) (Sort.ahead w k) g 0 j).heap++os).size;rw[Array.size_append,Sort.size_putRow];show w.heap.size<=w.heap.size+_;omega
  exact hp _ x.1 x.2 E (λ b d F=>GN (vu N) w g k j os d F)
 have o:=Tryz.slices_DeleteFunc (vu N) (Pg N) (λ x=>p x.1) f lb t ⟨0,by simp⟩ Tryz.zeroValue3 g 0 cap ys.toArray w C D A (by simpa[i] using B) (by simpa[i] using y);have hs:ys.toArray.size=n:=by simp[i]
 rw[hs] at o;refine Calls.mono o ?_;rintro e w' ⟨rfl,q,rfl⟩;have r:(ys.filter λ x=> !(p x.1)).map Subtype.val=c.filter λ x=> !(p x):=by rw[<-l,List.filter_map];rfl
 have s:(ys.filter λ x=> !(p x.1)).length=(c.filter λ x=> !(p x)).length:=by rw[<-r,List.length_map]
 have hl:ys.length=n:=by simpa using hs
 have hle:=List.length_filter_le (λ x:Ct N=> !(p x.1)) ys;have G:ys.toArray.toList.filter (λ x=> !(p x.1))=ys.filter λ x=> !(p x.1):=rfl
 rw[G,s];refine⟨rfl,?_,below_putRow (n_ _ _) d⟩;have:=ownsRow_putRow (q:=q) (k:=(ys.filter λ x=> !(p x.1)).length) (ys:=(ys.filter λ x=> !(p x.1))++List.replicate (n-(ys.filter λ x=> !(p x.1)).length) ⟨0,by simp⟩) h' (by simp;omega) (by omega);rw[List.take_left' rfl,s] at this;have H:(c.filter λ x=> !(p x)).map (t_ .i64)=(ys.filter λ x=> !(p x.1)).map (vu N):=by rw[<-r,List.map_map];rfl
 unfold Own;rw[H];exact this
theorem Ia(N:Nat)(f:Nat)(lb:Array Value)(p:Int->Bool)(l:∀args w,(callFunc f args).run w_ w=.ok (.enter f args) w){w:World}{base:Nat}{A:Option Addr}{c:Nat}{ah:List Int}(i:w.ownsRow base 3 1 (.slice A ah.length c) ah.length (ah.map (t_ .i64)))(s:ah.length*8<=140737488355328)(t:base<=w.heap.size)(m:∀x∈ah,x.natAbs<=N)(hp:∀g,base<=g->Cu N f lb p g w):
  Calls w_ 85 #[.slice A ah.length c,.func (.func f) #[] lb] w λ e w'=>∃j c2,e=.returned (.slice j (ah.filter λ x=> !(p x)).length c2)/\w'.ownsRow base 3 1 (.slice j (ah.filter λ x=> !(p x)).length c2) (ah.filter λ x=> !(p x)).length ((ah.filter λ x=> !(p x)).map (t_ .i64))/\Below base w w':=by
 rcases i.2 with⟨h1,n⟩|⟨g,cap,cur,h1,k,_⟩
 ·injection h1 with b o d
  have:ah=[]:=List.eq_nil_of_length_eq_zero n;subst this;subst b d;refine(Dy _ w).mono ?_;rintro e w' ⟨rfl,rfl⟩;exact⟨none,0,rfl,World.ownsRow_nil _ _ _ _,n_ _ _⟩
 ·injection h1 with b o d
  subst b d;refine(Ph N f lb p l w base g ah.length c ah i k m (hp g k)).mono ?_;rintro e w' ⟨rfl,q,r⟩;exact⟨_,c,rfl,q,r⟩
structure uB(W:World)(n lU jk:Nat)(bk:Option Addr)(aV:Nat)(m:List Bool):Prop where
 tH:n<=60000
 fn:W.cell? ⟨lU,0,none⟩=some (.func (.func 82) #[] #[.pointer (some ⟨jk,0,none⟩)])
 md:W.cell? ⟨jk,1,none⟩=some (.slice bk (n+1) aV)
 pE:kE W bk (n+1) aV m
theorem Cv{b o:Nat}{v:Value}(h:W.cell? ⟨b,o,none⟩=some v):b<W.heap.size:=by
 rcases k_ b W.heap.size with c|d
 ·exact c
 ·simp[World.cell?,Array.getElem?_eq_none d] at h
theorem kE.zh{ah:List Bool}(h:kE w A n c ah)(hs:w.heap.size<=w'.heap.size)(d:∀b,b<w.heap.size->w'.heap[b]? =w.heap[b]?):kE w' A n c ah:=
 ⟨h.len,h.cap,h.mG,h.od,λ f=>by
  obtain⟨b,off,e,h1,g⟩:=h.cells f;refine⟨b,off,e,v_ h1 hs,λ j i=>?_⟩;rw[u_ (a:=⟨b,off+j,none⟩) (d b h1)];exact g j i⟩
theorem uB.zh{W W':World}{n lU jk:Nat}{bk:Option Addr}{aV:Nat}{m:List Bool}(h:uB W n lU jk bk aV m)(hs:W.heap.size<=W'.heap.size)(c:∀b,b<W.heap.size->W'.heap[b]? =W.heap[b]?):uB W' n lU jk bk aV m:=
 ⟨h.tH,(u_ (a:=⟨lU,0,none⟩) (c lU (Cv h.fn))).trans h.fn,(u_ (a:=⟨jk,1,none⟩) (c jk (Cv h.md))).trans h.md,h.pE.zh hs c⟩
theorem uB.below(h:uB W n lU jk bk aV m)(b:Below W.heap.size W W'):uB W' n lU jk bk aV m:=h.zh b.size b.block
theorem uB.pred{kJ:World}(h:uB kJ n lU jk bk aV m)(c:Below kJ.heap.size kJ W)(g:Nat)(f:kJ.heap.size<=g):Cu n 82 #[.pointer (some ⟨jk,0,none⟩)] (pU m) g W/\Cu n 86 #[.pointer (some ⟨lU,0,none⟩)] (λ x=> !(pU m x)) g W:=by
 have key:∀W',W.heap.size<=W'.heap.size->(∀b,b<W.heap.size->b≠g->W'.heap[b]? =W.heap[b]?)->uB W' n lU jk bk aV m:=λ W' hs hk=>h.zh (q_ c.size hs) (λ b e=>(hk b (v_ e c.size) (by omega)).trans (c.block b e))
 exact⟨λ W' x d hs hk=>Eo n h.tH x d jk bk aV m W' (key W' hs hk).md (key W' hs hk).pE,λ W' x d hs hk=>Pf n h.tH x d lU jk bk aV m W' (key W' hs hk).fn (key W' hs hk).md (key W' hs hk).pE⟩
theorem Ib(n f E s:Nat)(F:Option Addr)(G:Nat)(m:List Bool)(i:Option Addr)(nq j:Nat)(b:List Int)(w:World)(h:uB w n f E F G m)(M:w.cell? ⟨s,0,none⟩=some (.slice i nq j))(c:aS w i nq j b)(t:∀x∈b,x.natAbs<=n):
  Calls w_ 84 #[.pointer (some ⟨s,0,none⟩),.pointer (some ⟨f,0,none⟩)] w λ e w'=>∃k c2,e=.returned (.slice k (b.filter (pU m)).length c2)/\w'.ownsRow w.heap.size 3 1 (.slice k (b.filter (pU m)).length c2) (b.filter (pU m)).length ((b.filter (pU m)).map (t_ .i64))/\Below w.heap.size w w':=by
 have N:∀(fn:Fn)(first cap:Array Value)(w:World),(Instr.makeFunc fn first cap).run w_ w=.ok (.func fn first cap) w:=λ _ _ _ _=>rfl
 have H:=aa (vm i nq j b w c);have u:=c.mG;have v:=c.len;have p:=aa (z_ h (z_ c (z_ t (z_ u v))));obtain⟨os,q⟩:∃l,b.filter (pU m)=l:=⟨_,rfl⟩
 have y:(b.filter λ x=> !(!(pU m x)))=os:=by rw[<-q];congr 1;funext x;simp
 rw[q];have I:=aa y;clear h c t u v q y;go_enter Tryz.func84,Tryz.ntmps84
 go_wp2_with (first
  |(go_at_call 81;refine H.o.mono ?_;rintro e O ⟨k,c2,rfl,z,A⟩;have d:=aa (z_ z A);clear z A;have r:=Ia n 86 #[.pointer (some ⟨f,0,none⟩)] (λ x=> !(pU m x)) Pe d.o.1 (by have:=p.o.2.2.2;omega) d.o.2.size p.o.2.2.1 (λ g J=>(p.o.1.pred d.o.2 g J).2);rw[I.o] at r;have K:=aa r;clear r)
  |(go_at_call 85;refine K.o.mono ?_;rintro e P ⟨L,c3,rfl,B,C⟩;have D:=aa (z_ B C);clear B C))
 go_ret;exact⟨L,c3,rfl,D.o.1,d.o.2.trans D.o.2⟩
theorem kD.vv{rs:List Row}{s:Nat}{t:TypeId}(f:rs.map (·.ah)=ls)(g:rs.length=n)(hs:s=w.heap.size)(h:n<=1000)(i:W=w.alloc (.cells ((rs.map kO).toArray) t))(k:∀r∈rs,aS w r.A r.n r.c r.ah):kD W (some ⟨s,0,none⟩) n n ls:=by
 subst hs i f;refine⟨by simpa using g,p_ _,by omega,by unfold maxLen;omega,λ l=>⟨w.heap.size,0,rfl,by simp,λ j m=>?_⟩⟩;have b:j<rs.length:=by omega
 have d:=(k _ (List.getElem_mem b)).alloc (.cells ((rs.map kO).toArray) t);have e:(w.alloc (.cells ((rs.map kO).toArray) t)).heap[w.heap.size]? =some (.cells ((rs.map kO).toArray) t):=World.alloc_heap_new w _;generalize w.alloc (.cells ((rs.map kO).toArray) t)=W at e d;have:((rs.map kO).toArray)[j]? =some (kO rs[j]):=by
  rw[List.getElem?_toArray,List.getElem?_map,List.getElem?_eq_getElem b];rfl
 refine⟨rs[j].A,rs[j].n,rs[j].c,?_,?_⟩
 ·have h1:W.cell? ⟨w.heap.size,0+j,none⟩=((rs.map kO).toArray)[0+j]? :=by
   unfold World.cell?;simp only[e];rfl
  rw[h1,Nat.zero_add,this];rfl
 ·rw[tP (by simpa using b)];simpa using d
theorem Ic(w:World)(x:Int)(A:Option Addr)(nl cl:Nat)(e:Option Addr)(f g:Nat)(keep:List Int)(b:Option Addr)(nq c:Nat)(i:List Int)(hk:aS w e f g keep)(u:aS w b nq c i):
  ∃W:World,W=(((w.alloc (.cells #[.int .i64 x,.slice A nl cl] 24)).alloc (.cells #[.slice b nq c] 25)).alloc (.cells #[.int .i64 0,.slice none 0 0,.slice none 0 0,.int .i64 0] 30)).alloc (.cells #[.slice e f g,.slice b nq c] 25)/\Below w.heap.size w W/\aN W (w.heap.size+1+1) 30 [.int .i64 0,.slice none 0 0,.slice none 0 0,.int .i64 0]/\aN W (w.heap.size+1) 25 [.slice b nq c]/\kD W (some ⟨w.heap.size+1+1+1,0,none⟩) 2 2 [keep,i]/\W.heap.size=w.heap.size+4:=by
 have m:=bB w (.cells #[.int .i64 x,.slice A nl cl] 24);have z0:(w.alloc (.cells #[.int .i64 x,.slice A nl cl] 24)).heap.size=w.heap.size+1:=by simp
 generalize w.alloc (.cells #[.int .i64 x,.slice A nl cl] 24)=w1 at*;have h1:=bB w1 (.cells #[.slice b nq c] 25);have v:aN (w1.alloc (.cells #[.slice b nq c] 25)) w1.heap.size 25 [.slice b nq c]:=aN.new w1 25 _;have o:(w1.alloc (.cells #[.slice b nq c] 25)).heap.size=w1.heap.size+1:=by simp
 generalize w1.alloc (.cells #[.slice b nq c] 25)=d at*;have p:=bB d (.cells #[.int .i64 0,.slice none 0 0,.slice none 0 0,.int .i64 0] 30);have y:aN (d.alloc (.cells #[.int .i64 0,.slice none 0 0,.slice none 0 0,.int .i64 0] 30)) d.heap.size 30 [.int .i64 0,.slice none 0 0,.slice none 0 0,.int .i64 0]:=aN.new d 30 _;have z2:(d.alloc (.cells #[.int .i64 0,.slice none 0 0,.slice none 0 0,.int .i64 0] 30)).heap.size=d.heap.size+1:=by simp
 have j:=m.trans ((h1.trans (p.mono h1.size)).mono m.size);generalize d.alloc (.cells #[.int .i64 0,.slice none 0 0,.slice none 0 0,.int .i64 0] 30)=k at*;have l:=bB k (.cells #[.slice e f g,.slice b nq c] 25);have q:=kD.vv (w:=k) (rs:=[⟨e,f,g,keep⟩,⟨b,nq,c,i⟩]) (ls:=[keep,i]) (n:=2) (t:=25) rfl rfl rfl (by omega) rfl (λ r s=>by
  simp only[List.mem_cons,List.not_mem_nil,or_false] at s;rcases s with rfl|rfl
  ·exact hk.below j
  ·exact u.below j)
 have z3:(k.alloc (.cells #[.slice e f g,.slice b nq c] 25)).heap.size=k.heap.size+1:=by simp
 refine⟨_,rfl,j.trans (l.mono j.size),?_,?_,?_,by omega⟩
 ·have:=y.below l;rw[o,z0] at this;exact this
 ·have:=(v.below p).below l;rw[z0] at this;exact this
 ·rw[z2,o,z0] at q;exact q
theorem Pj(x:Int)(A:Option Addr)(nl cl:Nat)(ls:List (List Int))(f:Option Addr)(i j:Nat)(keep:List Int)(k:Option Addr)(nq l:Nat)(b:List Int)(m:Int)(w:World)(h:kD w A nl cl ls)(hk:aS w f i j keep)(s:aS w k nq l b)(hw:tn (keep++b))(hlen:(keep++b).length<=1000)(c:Int)(he:qG x ls (keep++b) m=c)(n:c≠0):
  Calls w_ 29 #[.agg #[.int .i64 x,.slice A nl cl],.slice f i j,.slice k nq l,.int .i64 m] w λ e w'=>e=.returned (.tuple #[.agg #[.int .i64 0,.slice none 0 0,.slice none 0 0,.int .i64 0],.int .i64 c])/\Below w.heap.size w w':=by
 obtain⟨W,y,p,t,u,v,B⟩:=Ic w x A nl cl f i j keep k nq l b hk s;have d:[keep,b].flatten=keep++b:=by simp
 have C:=aa (HW x A nl cl ls m _ 2 2 [keep,b] W (h.below p) v (by rw[d];exact hw) (by rw[d];omega) c (by rw[d];exact he) n);have q:=aa (z_ p t);have F:(c==0)=false:=by simpa using n
 have D:=u.cell 0;simp only[y_] at D;clear h hk s hw hlen he n p t v B d u;subst y;go_enter Tryz.func29,Tryz.ntmps29
 go_upto_region 3 with(go_at_call 76;refine C.o.mono ?_;rintro e w1 ⟨rfl,r⟩;have H1:=aa (z_ r (q.o.2.below r));clear r;have z:=H1.o.2.cell;have z0:=z 0;have E:=z 1;have z2:=z 2;have z3:=z 3;have g:=H1.o.2.free;have g0:=g 0;have g1:=g 1;have g2:=g 2;have g3:=g 3;simp only[y_,x_] at z0 E z2 z3;clear z g)
 go_wp2_with fail
 exact AH rfl rfl rfl ((((H1.o.2.set 0 _).set 1 _).set 2 _).set 3 _) ⟨rfl,((((q.o.1.trans (H1.o.1.mono q.o.1.size)).setCell (show w.heap.size<=w.heap.size+1+1 by omega) _).setCell (show w.heap.size<=w.heap.size+1+1 by omega) _).setCell (show w.heap.size<=w.heap.size+1+1 by omega) _).setCell (show w.heap.size<=w.heap.size+1+1 by omega) _⟩
theorem qY.wide(d:qY (λ b=>b=B) w B n s aM aF ia cl A c A' c' fM bD aQ aU aW sp)(g:Below w.heap.size w w')(h:w.heap.size<=jk)(j:jk<w'.heap.size):qY (λ b=>b=B\/b=jk) w' B n s aM aF ia cl A c A' c' fM bD aQ aU aW sp:=
 ⟨d.blk.below g,.inl rfl,λ b i=>i.elim (λ e=>by subst e;exact v_ d.blk.lt g.size) (λ e=>e▸j),λ W' f=>d.Cl W' ((aC.pY g λ b g=>g.1).trans (f.mono λ b i=>⟨v_ i.1 g.size,λ e=>e.elim i.2 (by omega)⟩)),d.ok,d.n10,d.nt,d.p8,d.bz,d.pl,d.el,d.sN,d.pa⟩
theorem qY.off(d:qY (λ b=>b=B\/b=jk) w B n s aM aF ia cl A c A' c' fM bD aQ aU aW sp)(f:aC (λ b=>b≠jk) w w')(i:B≠jk):qY (λ b=>b=B\/b=jk) w' B n s aM aF ia cl A c A' c' fM bD aQ aU aW sp:=
 ⟨f.blk d.blk i,.inl rfl,λ b h=>v_ (d.dl b h) f.size,λ W' j=>d.Cl W' ((f.mono λ b g e=>g.2 (.inr e)).trans (j.mono λ b g=>⟨v_ g.1 f.size,g.2⟩)),d.ok,d.n10,d.nt,d.p8,d.bz,d.pl,d.el,d.sN,d.pa⟩
structure sq(w:World)(B jk lU n:Nat)(ls:List (List Int))(lE:Option Addr)(j4 kG:Nat)(keep:List Int)(gO:Option Addr)(nq gT:Nat)(ai:List Int)(aW k:Nat)(bk:Option Addr)(aV:Nat)(m:List Bool)(W:World):Prop where
 lu:∃(s:kf)(aM:Option Addr)(aF:Nat)(ia:Option Addr)(cl:Nat)(A:Option Addr)(c:Nat)(A':Option Addr)(c':Nat)(fM:Option Addr)(bD:Nat)(aQ:Option Addr)(aU sp:Nat),qY (λ b=>b=B\/b=jk) W B n s aM aF ia cl A c A' c' fM bD aQ aU aW sp/\s.gs=ls
 pE:aN W (w.heap.size+1+1) 30 [.int .i64 0,.slice none 0 0,.slice none 0 0,.int .i64 0]
 tO:aN W (w.heap.size+1) 25 [.slice gO nq gT]
 fn:aN W lU 106 [.func (.func 82) #[] #[.pointer (some ⟨jk,0,none⟩)]]
 p8:∃(i j:Int)(bF:Option Addr)(bE bl:Nat),aN W jk 30 [.int .i64 i,.slice bk (n+1) aV,.slice bF bE bl,.int .i64 j]
 md:kE W bk (n+1) aV m
 bp:w.heap.size+4<=B
 iz:B<jk
 kK:jk<lU
 m0:iU m 0=false
 uC:tL ls keep ai k m
 AJ:aS W lE j4 kG keep
 uD:aS W gO nq gT ai
 qU:Below w.heap.size w W
theorem sq.v8(h:sq w B jk lU n ls lE j4 kG keep gO nq gT ai aW k bk aV m W)(c:n<=10):uB W n lU jk bk aV m:=by
 obtain⟨i,j,d,e,f,b⟩:=h.p8;exact⟨by omega,h.fn.cell 0,b.cell 1,h.md⟩
theorem sq.more{w:World}{B jk lU n:Nat}{ls:List (List Int)}{lE:Option Addr}{j4 kG:Nat}{keep:List Int}{gO:Option Addr}{nq gT:Nat}{ai:List Int}{aW k:Nat}{bk:Option Addr}{aV:Nat}{m:List Bool}{W W':World}(h:sq w B jk lU n ls lE j4 kG keep gO nq gT ai aW k bk aV m W)(b:Below W.heap.size W W'):sq w B jk lU n ls lE j4 kG keep gO nq gT ai aW k bk aV m W':=by
 obtain⟨s,aM,aF,d,cl,A,c,A',c',e,f,g,l,sp,o,p⟩:=h.lu;obtain⟨i,j,q,r,t,u⟩:=h.p8;exact⟨⟨s,aM,aF,d,cl,A,c,A',c',e,f,g,l,sp,o.more b,p⟩,h.pE.below b,h.tO.below b,h.fn.below b,⟨i,j,q,r,t,u.below b⟩,h.md.below b,h.bp,h.iz,h.kK,h.m0,h.uC,h.AJ.below b,h.uD.below b,h.qU.trans (b.mono h.qU.size)⟩
theorem sq.asked(h:sq w B jk lU n ls lE j4 kG keep gO nq gT ai aW k bk aV m W)(g:W.grownBy W' (some B))(hk:∀b,lE.map (·.block)=some b->0<j4->b<B)(v:∀b,gO.map (·.block)=some b->0<nq->b<B)
  (y:∃(s:kf)(aM:Option Addr)(aF:Nat)(l:Option Addr)(cl:Nat)(A:Option Addr)(c:Nat)(A':Option Addr)(c':Nat)(o:Option Addr)(p:Nat)(q:Option Addr)(r sp:Nat),qY (λ b=>b=B\/b=jk) W' B n s aM aF l cl A c A' c' o p q r aW sp/\s.gs=ls):sq w B jk lU n ls lE j4 kG keep gO nq gT ai aW k bk aV m W':=by
 obtain⟨s,aM,aF,l,cl,A,c,A',c',o,p,q,r,sp,z,G⟩:=h.lu;obtain⟨i,j,C,D,E,t⟩:=h.p8;have f:=Cr g;have bp:=h.bp;have iz:=h.iz;have kK:=h.kK;refine⟨y,f.blk h.pE ⟨h.pE.lt,by omega⟩,f.blk h.tO ⟨h.tO.lt,by omega⟩,f.blk h.fn ⟨h.fn.lt,by omega⟩,⟨i,j,C,D,E,f.blk t ⟨t.lt,by omega⟩⟩,?_,h.bp,h.iz,h.kK,h.m0,h.uC,?_,?_,uX h.qU g h.qU.size (λ g e=>by injection e with e;omega)⟩
 ·refine h.md.iR f (λ b e=>⟨?_,h.md.H8 (by omega) z.blk (λ u hu x e=>by subst e;simp at hu) b e⟩);obtain⟨H,off,F,h1,_⟩:=h.md.cells (by omega);rw[F] at e;injection e with e
  exact e▸h1
 ·exact h.AJ.iR f (λ b e d=>⟨h.AJ.lt b e d,by have:=hk b e d;omega⟩)
 ·exact h.uD.iR f (λ b e d=>⟨h.uD.lt b e d,by have:=v b e d;omega⟩)
theorem sq.Pk{vB:Nat}(h:sq w B jk lU n ls lE j4 kG keep gO nq gT ai aW k bk aV m W){uE:Option Addr}{uF:Nat}{m9:List Bool}(hm:kE W uE (n+1) uF m9)(r:iU m9 0=false)(t:tL ls keep ai vB m9)(hk:∀b,lE.map (·.block)=some b->0<j4->b<B)(v:∀b,gO.map (·.block)=some b->0<nq->b<B)(i9 d:Int)(g:Option Addr)(l o:Nat):
  sq w B jk lU n ls lE j4 kG keep gO nq gT ai aW vB uE uF m9 ((((W.setCell ⟨jk,0,none⟩ (.int .i64 i9)).setCell ⟨jk,1,none⟩ (.slice uE (n+1) uF)).setCell ⟨jk,2,none⟩ (.slice g l o)).setCell ⟨jk,3,none⟩ (.int .i64 d)):=by
 obtain⟨s,aM,aF,y,cl,A,c,A',c',z,C,D,E,sp,F,G⟩:=h.lu;obtain⟨i,j,H,I,J,q⟩:=h.p8;have f:aC (λ b=>b≠jk) W ((((W.setCell ⟨jk,0,none⟩ (.int .i64 i9)).setCell ⟨jk,1,none⟩ (.slice uE (n+1) uF)).setCell ⟨jk,2,none⟩ (.slice g l o)).setCell ⟨jk,3,none⟩ (.int .i64 d)):=aC.uZ6 _ _ _ _;have K:=(((q.set 0 (.int .i64 i9)).set 1 (.slice uE (n+1) uF)).set 2 (.slice g l o)).set 3 (.int .i64 d);have L:∀u∈[t_ .i64 i,.slice bk (n+1) aV,.slice H I J,.int .i64 j],∀x:Bool,u≠ .bool x:=λ u hu x e=>by subst e;simp at hu
 generalize (((W.setCell ⟨jk,0,none⟩ (.int .i64 i9)).setCell ⟨jk,1,none⟩ (.slice uE (n+1) uF)).setCell ⟨jk,2,none⟩ (.slice g l o)).setCell ⟨jk,3,none⟩ (.int .i64 d)=W' at*;have bp:=h.bp;have iz:=h.iz;have kK:=h.kK;exact⟨⟨s,aM,aF,y,cl,A,c,A',c',z,C,D,E,sp,F.off f (by omega),G⟩,f.blk h.pE (by omega),f.blk h.tO (by omega),f.blk h.fn (by omega),⟨i9,d,g,l,o,K⟩,hm.Ei q L f,bp,iz,kK,r,t,h.AJ.iR f (λ b e p=>by have:=hk b e p;omega),h.uD.iR f (λ b e p=>by have:=v b e p;omega),uZ7 h.qU f (by omega)⟩
theorem Pm:∀args w,(callFunc 85 args).run w_ w=.ok (.enter 85 args) w:=enters_of Tryz.func85 (by kernel_rfl) rfl
def zm(base:Nat)(e:Nat)(f:Option Addr)(nq g:Nat)(b d:List Int)(i:Nat)(v:Value)(w:World):Prop:=
 match i with
 |0=>v=.slice f nq g
 |1=>∃(A:Option Addr)(c:Nat),v=.slice A b.length c/\w.ownsRow base 3 1 (.slice A b.length c) b.length (b.map (t_ .i64))
 |2=>v=.func (.func 82) #[] #[.pointer (some ⟨e,0,none⟩)]
 |3=>∃(A:Option Addr)(c:Nat),v=.slice A d.length c/\w.ownsRow base 3 1 (.slice A d.length c) d.length (d.map (t_ .i64))
 |_=>True
theorem zm.mono(base:Nat)(d:Nat)(e:Option Addr)(nq f:Nat)(g j:List Int)(i:Nat)(u:Value)(w w':World)(k:Below w.heap.size w w')(h:zm base d e nq f g j i u w):zm base d e nq f g j i u w':=by
 match i,h with
 |0,h=>exact h
 |1,h=>obtain⟨A,c,h1,b⟩:=h;exact⟨A,c,h1,nc b k⟩
 |2,h=>exact h
 |3,h=>obtain⟨A,c,h1,b⟩:=h;exact⟨A,c,h1,nc b k⟩
 |n+4,h=>trivial
def Ie(i:Nat):Option Nat:=if i=1 then some 3 else none
structure Ig(kJ:World)(nG lU jk n:Nat)(gO:Option Addr)(nq gT:Nat)(ai nC:List Int)(bk:Option Addr)(aV:Nat)(m:List Bool):Prop where
 q:kJ.cell? ⟨nG,0,none⟩=some (.slice gO nq gT)
 v8:uB kJ n lU jk bk aV m
 uD:aS kJ gO nq gT ai
 aY:∀x∈ai,x.natAbs<=n
 ak:(ai.filter λ x=> !(pU m x))=nC
theorem Pn(d:World)(t v y n:Nat)(z:Option Addr)(nq B:Nat)(f H:List Int)(K:Option Addr)(L:Nat)(m:List Bool)(C:Ig d t v y n z nq B f H K L m):
  wJ w_ [some 65,some 66,some 67,some 68,some 17] [[],[0],[],[1,2,1],[3,3,0,1,2,3]] [(6,.pointer (some ⟨t,0,none⟩)),(13,.pointer (some ⟨v,0,none⟩))] (λ w=>Below d.heap.size d w) (zm d.heap.size y z nq B f H) Ie 0 ((rj Tryz.f29 16).take 4):=by
 have M:=zm.mono d.heap.size y z nq B f H;have N:∀w w':World,Below d.heap.size d w->Below w.heap.size w w'->Below d.heap.size d w':=λ w w' b D=>b.trans (D.mono b.size)
 refine⟨?_,?_,?_,?_,trivial⟩
 ·intro vals w i b o s hp;have O:i (.tmp 6)=_:=s.1 rfl;have I:=(u_ (a:=⟨t,0,none⟩) (b.block t (Cv C.q))).trans C.q;simp only[bq,execOp,O];simp[cF,go_sem,I];exact .same b rfl
 ·intro vals w i b o s hp;obtain⟨⟨f0,E⟩,-⟩:=(⟨o.1 rfl,trivial⟩:_/\True)
  have E:i (.tmp 65)=vals 0:=E _ rfl;have f0:vals 0=_:=f0 (Or.inl rfl);rw[f0] at E;have P:=C.uD.below b;refine r4 81 #[.tmp 65] #[25] rfl BQ hp ?_;simp only[o_,m_,l_,E];refine(vm z nq B f w P).mono ?_;rintro e w' ⟨Q,c2,rfl,R,D⟩;exact⟨_,rfl,.more M D (N w w' b D) ⟨Q,c2,rfl,Ec R b.size⟩⟩
 ·intro vals w i b o s hp;have S:i (.tmp 13)=_:=s.2.1 rfl;have I:=(u_ (a:=⟨v,0,none⟩) (b.block v (Cv C.v8.fn))).trans C.v8.fn;simp only[bq,execOp,S];simp[cF,go_sem,I];exact .same b rfl
 ·intro vals w i b o s hp;obtain⟨⟨f1,F⟩,⟨f2,G⟩,-⟩:=(⟨o.1 rfl,o.2.1 rfl,trivial⟩:_/\_/\True)
  have F:i (.tmp 66)=vals 1:=F _ rfl;have G:i (.tmp 67)=vals 2:=G _ rfl;have f2:vals 2=_:=f2 (Or.inl rfl);rw[f2] at G;obtain⟨A,c,f1,T⟩:∃(A:Option Addr)(c:Nat),vals 1=.slice A f.length c/\w.ownsRow d.heap.size 3 1 (.slice A f.length c) f.length (f.map (t_ .i64)):=f1 (Or.inr rfl);rw[f1] at F;refine r4 85 #[.tmp 66,.tmp 67] #[25,106] rfl Pm hp ?_;simp only[o_,m_,l_,F,G];have J:=Ia n 82 #[.pointer (some ⟨y,0,none⟩)] (pU m) Pd T (by have:=C.uD.mG;have:=C.uD.len;omega) b.size C.aY (λ g U=>(C.v8.pred b g U).1);rw[C.ak] at J;refine J.mono ?_;rintro e w' ⟨V,c3,rfl,W,X⟩;refine⟨_,rfl,b.trans X,⟨V,c3,rfl,W⟩,λ j u k l p r h=>?_⟩
  match j,k,l,p,r,h with
  |0,k,l,p,r,h=>exact h
  |1,k,l,p,r,h=>exact absurd rfl l
  |2,k,l,p,r,h=>exact h
  |3,k,l,p,r,h=>exact absurd rfl k
  |n+4,k,l,p,r,h=>trivial
end
end Go.Proofs.YtogdlkfacflmaaaGreat
