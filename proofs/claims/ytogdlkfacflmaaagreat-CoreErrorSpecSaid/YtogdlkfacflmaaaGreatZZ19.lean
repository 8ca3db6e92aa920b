/- Parts of the walk of the solver and its core; no condition. -/
import Derived.Test.YtogdlkfacflmaaaGreatZZ18
import Derived.Test.YtogdlkfacflmaaaGreatZZ17
import Derived.Test.YtogdlkfacflmaaaGreatZZ13
import Derived.Test.YtogdlkfacflmaaaGreatZZ1
namespace Go.Proofs.YtogdlkfacflmaaaGreat
set_option linter.unusedVariables false
set_option linter.unusedSimpArgs false
set_option maxRecDepth 100000
set_option maxHeartbeats 8000000
open _root_.And renaming intro→z_
open _root_.List renaming getElem?_cons_zero→y_,getElem?_cons_succ→x_,length_filter_le→p_,mem_filter→m_,mem_append→l_,mem_map→k_,nodup_append→i_,mem_cons→h_,filter_congr→e_,map_append→d_,map_cons→b_
open _root_.Go.Proofs.Tryz renaming prog→w_
open _root_.Nat renaming lt_of_lt_of_le→v_,zero_le→s_,le_refl→r_,le_trans→q_,le_succ→o_,zero_add→a_
open _root_.Go.World renaming cell?_of_block→u_
open _root_.Go.Value renaming int→t_
open _root_.Go.Exit renaming noGoto_ret→n_
open _root_.Go.RowKit.Below renaming refl→j_
open _root_.Go.IntKind renaming wrap_i64→g_,i64→c_
open _root_.Array renaming getD_eq_getD_getElem?→f_
variable{aN:Ending->World->Prop}{a:Act}{W w w' W':World}{aQ n aJ aP B aR cl c c' gJ bE sp b lS jt gl iB nq bF k:Nat}{jy x:Int}{v0 v1 v2 v3:Value}{ah l keep:List Int}{aU bp iV A A' gY bu jb bB:Option Addr}{s:k7}{t:TypeId}{cs:List Value}{m:List Bool}{ls:List (List Int)}{p:Int->Bool}
section
open Go.RowKit Go.Shelf Go.Sort Go.Lib
def Iu(w:World)(n:Nat)(ls:List (List Int))(k:List Int)(l:Nat)(e:Ending)(W:World):Prop:=
 ∃(kind:Int)(b:Option Addr)(c d:Nat)(f:Option Addr)(g i:Nat)(j:Nat)(m:List Bool)(core:List Int),
  e=.returned (.tuple #[.agg #[.int .i64 kind,.slice b c d,.slice f g i,.int .i64 (j:Int)],.int .i64 0])/\kE W b c d m/\aL W f g i core/\vo ls n k l kind m core j/\Below w.heap.size w W
def Iv(w:World)(n:Nat)(ls:List (List Int))(keep k:List Int)(l:Nat)(e:Ending)(W:World):Prop:=
 ∃(kind:Int)(b:Option Addr)(c d:Nat)(f:Option Addr)(g i:Nat)(j:Nat)(m:List Bool)(core:List Int),
  e=.returned (.tuple #[.agg #[.int .i64 kind,.slice b c d,.slice f g i,.int .i64 (j:Int)],.int .i64 0])/\kE W b c d m/\aL W f g i core/\w9 ls n keep k l kind m core j/\Below w.heap.size w W
theorem AE(j:a.defers=[])(c:a.tmps.getD 6 undef=.pointer (some ⟨aQ,0,none⟩))(d:a.tmps.getD 7 undef=.int .i64 jy)
  (b:aT W aQ 30 [v0,v1,v2,v3]) (h:aN (.returned (.tuple #[.agg #[v0,v1,v2,v3],.int .i64 jy])) W):bodyPost w_ Tryz.f28 aN .ret a W:=by
 have e:=b.cell 0;have f:=b.cell 1;have g:=b.cell 2;have i:=b.cell 3;simp only[y_,x_] at e f g i;refine bodyPost_ret (v:=.tuple #[.agg #[v0,v1,v2,v3],.int .i64 jy]) ?_ j h;rw[f_] at c d;simp[results,Tryz.results28,go_sem,c,d,e,f,g,i]
theorem AF(j:a.defers=[])(c:a.tmps.getD 8 undef=.pointer (some ⟨aQ,0,none⟩))(d:a.tmps.getD 9 undef=.int .i64 jy)
  (b:aT W aQ 30 [v0,v1,v2,v3]) (h:aN (.returned (.tuple #[.agg #[v0,v1,v2,v3],.int .i64 jy])) W):bodyPost w_ Tryz.f29 aN .ret a W:=by
 have e:=b.cell 0;have f:=b.cell 1;have g:=b.cell 2;have i:=b.cell 3;simp only[y_,x_] at e f g i;refine bodyPost_ret (v:=.tuple #[.agg #[v0,v1,v2,v3],.int .i64 jy]) ?_ j h;rw[f_] at c d;simp[results,Tryz.results29,go_sem,c,d,e,f,g,i]
structure Pu(F:List (List Int))(n:Nat)(ah:List Int)(aJ aB:Nat)(kind:Int)(m:List Bool)(core:List Int):Prop where
 k:(kind=1/\core=[]/\w8 F n ah m)\/(kind=2/\m=[]/\core.Sublist ah/\¬Can F core)\/(kind=3/\m=[]/\core=[]/\aB=aJ)
theorem kE.xg(w:World):kE w none 0 0 []:=⟨rfl,s_ _,by omega,s_ _,λ h=>absurd h (by omega)⟩
theorem nY.plain{K:Nat->Prop}{F:List (List Int)}{aB:Nat}{kind:Int}{bq:Nat}{bw:Option Addr}{bn aV:Nat}(a:nY K W F ah n aJ aB kind aU bq aP bw bn aV):
  ∃(m:List Bool)(core:List Int),kE W aU bq aP m/\aL W bw bn aV core/\Pu F n ah aJ aB kind m core:=by
 rcases a with⟨h1,e,m,f,g,i,j,k,l⟩|⟨h1,e,co,f,g,i,j⟩|⟨h1,e,f,g⟩
 ·injection e with b c d
  subst b c d;exact⟨m,[],f,aL.nil _ _ _ (s_ _),⟨.inl ⟨h1,rfl,i,j,k,l⟩⟩⟩
 ·injection e with b c d
  subst b c d;exact⟨[],co,kE.xg _,f,⟨.inr (.inl ⟨h1,rfl,i,λ⟨M,k,l⟩=>j M k l⟩)⟩⟩
 ·injection e with b c d
  subst b c d;injection f with b c d
  subst b c d;exact⟨[],[],kE.xg _,aL.nil _ _ _ (s_ _),⟨.inr (.inr ⟨h1,rfl,rfl,g⟩)⟩⟩
theorem Cq(g:w.grownBy w' (some B)):aG (λ b=>b<w.heap.size/\b≠B) w w':=
 ⟨g.os,g.tape,g.output,g.size,λ b c=>g.block b c.1 (λ e=>c.2 (by injection e))⟩
theorem rM.more{aZ:Nat->Prop}(d:rM aZ w B n s bp aR iV cl A c A' c' gY gJ bu bE aJ sp)(e:Below w.heap.size w w'):rM aZ w' B n s bp aR iV cl A c A' c' gY gJ bu bE aJ sp:=
 ⟨d.blk.below e,d.jN,λ b h=>v_ (d.dl b h) e.size,λ W' f=>d.Cl W' ((aG.q4 e λ b e=>e.1).trans (f.mono λ b h=>⟨v_ h.1 e.size,h.2⟩)),d.ok,d.n10,d.mQ,d.qa,d.bH,d.pl,d.el,d.ux,d.pa⟩
theorem rM.nt{aZ:Nat->Prop}{w:World}{B n:Nat}{s:k7}{bp:Option Addr}{aR:Nat}{iV:Option Addr}{cl:Nat}{A:Option Addr}{c:Nat}{A':Option Addr}{c':Nat}{gY:Option Addr}{gJ:Nat}{bu:Option Addr}{bE aJ sp:Nat}(b:rM aZ w B n s bp aR iV cl A c A' c' gY gJ bu bE aJ sp):sp<=59048:=by
 have h1:=b.ok.nt;have d:=y5 b.n10;have e:=b.el;omega
theorem kE.Iw(h:kE W A n c m)(f:0<n)(i:aT W b t cs)(j:∀u∈cs,∀x:Bool,u≠ .bool x):∀d,A.map (·.block)=some d->d≠b:=by
 intro d e k;subst k;obtain⟨l,off,o,_,p⟩:=h.cells f;rw[o] at e;injection e with e
 have e:l=d:=e;subst e;have g:=p 0 f;rw[i.cell] at g;exact j _ (List.mem_of_getElem? g) _ rfl
theorem kE.Ev(h:kE W A n c m)(i:aT W b t cs)(j:∀u∈cs,∀x:Bool,u≠ .bool x)(f:aG (λ d=>d≠b) W W'):kE W' A n c m:=by
 rcases Nat.eq_zero_or_pos n with g|g
 ·subst g;exact⟨h.len,h.cap,h.mu,h.nT,λ k=>absurd k (by omega)⟩
 ·exact h.jr f (λ d e=>h.Iw g i j d e)
theorem aG.uY(v0 v1 v2 v3:Value):aG (λ b=>b≠B) W ((((W.setCell ⟨B,0,none⟩ v0).setCell ⟨B,1,none⟩ v1).setCell ⟨B,2,none⟩ v2).setCell ⟨B,3,none⟩ v3):=by
 have c:∀(u:World)(i:Nat)(v:Value),aG (λ b=>b≠B) u (u.setCell ⟨B,i,none⟩ v):=λ u i v=>aG.set _ i v (λ h=>h rfl)
 exact(((c W 0 v0).trans (c _ 1 v1)).trans (c _ 2 v2)).trans (c _ 3 v3)
theorem x8{cI:Nat}(h:Below cI w W)(f:aG (λ b=>b≠B) W W')(d:cI<=B):Below cI w W':=
 ⟨f.os.trans h.os,f.tape.trans h.tape,f.output.trans h.output,q_ h.size f.size,λ b c=>(f.keep b (by omega)).trans (h.block b c)⟩
def Ew:Value->Nat
 | .slice _ n _=>n
 |_=>0
def z24(x:Int)(A:Option Addr)(nl cl:Nat):Obj:=.cells #[.int .i64 x,.slice A nl cl] 24
theorem Iy(w:World)(x:Int)(A:Option Addr)(nl cl:Nat)(b:Option Addr)(nq c:Nat)(e:List Int)(j:aL w b nq c e):
  ∃W:World,W=((w.alloc (.cells #[.int .i64 x,.slice A nl cl] 24)).alloc (.cells #[.int .i64 0,.slice none 0 0,.slice none 0 0,.int .i64 0] 30)).alloc (.cells #[.slice b nq c] 25)/\Below w.heap.size w W/\aT W (w.heap.size+1) 30 [.int .i64 0,.slice none 0 0,.slice none 0 0,.int .i64 0]/\ku W (some ⟨w.heap.size+1+1,0,none⟩) 1 1 [e]/\W.heap.size=w.heap.size+3:=by
 have f:=bz w (.cells #[.int .i64 x,.slice A nl cl] 24);have z0:(w.alloc (.cells #[.int .i64 x,.slice A nl cl] 24)).heap.size=w.heap.size+1:=by simp
 generalize w.alloc (.cells #[.int .i64 x,.slice A nl cl] 24)=w1 at*;have h1:=bz w1 (.cells #[.int .i64 0,.slice none 0 0,.slice none 0 0,.int .i64 0] 30);have k:aT (w1.alloc (.cells #[.int .i64 0,.slice none 0 0,.slice none 0 0,.int .i64 0] 30)) w1.heap.size 30 [.int .i64 0,.slice none 0 0,.slice none 0 0,.int .i64 0]:=aT.new w1 30 _;have l:(w1.alloc (.cells #[.int .i64 0,.slice none 0 0,.slice none 0 0,.int .i64 0] 30)).heap.size=w1.heap.size+1:=by simp
 generalize w1.alloc (.cells #[.int .i64 0,.slice none 0 0,.slice none 0 0,.int .i64 0] 30)=d at*;have g:=bz d (.cells #[.slice b nq c] 25);have i:=(oh.Ci d ⟨b,nq,c,e⟩ ((j.below f).below (h1.mono (r_ _)))).CJ;have z2:(d.alloc (.cells #[.slice b nq c] 25)).heap.size=d.heap.size+1:=by simp
 refine⟨_,rfl,f.trans ((h1.trans (g.mono h1.size)).mono f.size),?_,?_,by omega⟩
 ·have:=k.below g;rw[z0] at this;exact this
 ·rw[l,z0] at i;exact i
theorem AG(x:Int)(A:Option Addr)(nl cl:Nat)(ls:List (List Int))(f:Option Addr)(nq i:Nat)(b:List Int)(j:Int)(w:World)(h:ku w A nl cl ls)(p:aL w f nq i b)(hw:nZ b)(hlen:b.length<=1000)(c:Int)(he:ny x ls b j=c)(k:c≠0):
  Calls w_ 28 #[.agg #[.int .i64 x,.slice A nl cl],.slice f nq i,.int .i64 j] w λ e w'=>e=.returned (.tuple #[.agg #[.int .i64 0,.slice none 0 0,.slice none 0 0,.int .i64 0],.int .i64 c])/\Below w.heap.size w w':=by
 obtain⟨W,s,l,q,r,t⟩:=Iy w x A nl cl f nq i b p;have d:[b].flatten=b:=by simp
 have u:=U (Ir x A nl cl ls j _ 1 1 [b] W (h.below l) r (by rw[d];exact hw) (by rw[d];omega) c (by rw[d];exact he) k);have m:=U (z_ l q);have y:(c==0)=false:=by simpa using k
 clear h p hw hlen he k l q r t d;subst s;go_enter Tryz.func28,Tryz.ntmps28
 go_wp2_with fail
 go_step3
 go_upto_region 3 with(go_at_call 76;refine u.o.mono ?_;rintro e w1 ⟨rfl,n⟩;have H1:=U (z_ n (m.o.2.below n));clear n;have z:=H1.o.2.cell;have z0:=z 0;have v:=z 1;have z2:=z 2;have z3:=z 3;have g:=H1.o.2.free;have g0:=g 0;have g1:=g 1;have g2:=g 2;have g3:=g 3;simp only[y_,x_] at z0 v z2 z3;clear z g)
 go_wp2_with fail
 rw[n_];exact AE rfl rfl rfl ((((H1.o.2.set 0 _).set 1 _).set 2 _).set 3 _) ⟨rfl,((((m.o.1.trans (H1.o.1.mono m.o.1.size)).setCell (o_ _) _).setCell (o_ _) _).setCell (o_ _) _).setCell (o_ _) _⟩
theorem Pv{base:Nat}{xs:List Value}(h:w.ownsRow base 3 1 (.slice A n c) n xs)(d:0<n):∃g,A=some ⟨g,0,none⟩/\base<=g:=by
 rcases h.2 with⟨h1,b⟩|⟨g,cap,cur,h1,b,_⟩
 ·omega
 ·injection h1 with h1
  exact⟨g,h1,b⟩
theorem Pw(h:(l.map aC).Nodup):l.Nodup:=by
 have h:=List.pairwise_map.1 h;exact h.imp λ b e=>b (by rw[e])
structure Ex(w:World)(B n:Nat)(ls:List (List Int))(ah:List Int)(aJ base k:Nat)(jV:Option Addr)(c3:Nat)(left:List Int)(W:World):Prop where
 k5:∃(s:k7)(bp:Option Addr)(aR:Nat)(iV:Option Addr)(cl:Nat)(A:Option Addr)(c:Nat)(A':Option Addr)(c':Nat)(gY:Option Addr)(gJ:Nat)(bu:Option Addr)(bE sp:Nat),rM (λ b=>b=B) W B n s bp aR iV cl A c A' c' gY gJ bu bE aJ sp/\s.gs=ls
 pH:aT W (w.heap.size+1) 30 [.int .i64 0,.slice none 0 0,.slice none 0 0,.int .i64 0]
 own:W.ownsRow base 3 1 (.slice jV left.length c3) left.length (left.map (t_ .i64))
 gU:base<=W.heap.size
 ov:B<base
 kD:w.heap.size+1<B
 kl:k<=left.length
 sub:left.Sublist ah
 un:¬Can ls left
 AH:∀j,j<k->Can ls (left.eraseIdx j)
 qP:Below w.heap.size w W
theorem xh(w:World)(B:Nat)(L:List Value)(b sp:Nat)(k:aT w B 155 L)(l:L[8]? =some (.int .i64 b))(m:L[9]? =some (.int .i64 sp))(kind:Int)(c:Option Addr)(d f:Nat)(g:Option Addr)(i j:Nat)(hk:kind=1\/kind=2\/kind=3)(r:Nat)(n:(if kind=3 then b else sp:Nat)=r):
  Calls w_ 78 #[.pointer (some ⟨B,0,none⟩),.int .i64 kind,.slice c d f,.slice g i j] w λ e w'=>e=.returned (.tuple #[.agg #[.int .i64 kind,.slice c d f,.slice g i j,.int .i64 (r:Int)],.int .i64 0])/\Below w.heap.size w w':=by
 rw[<-n];exact O9 w B L b sp k l m kind c d f g i j hk
theorem Px(n:Nat)(au:n<=10)(A:Option Addr)(nl cl:Nat)(ls:List (List Int))(av:Option Addr)(nq aw:Nat)(t:List Int)(f:Nat)(w:World)(h:ku w A nl cl ls)(N:aL w av nq aw t)(hw:nZ t)(hlen:t.length<=1000)(bu:ls.length<=40000)(he:ny n ls t f=0):
  Calls w_ 28 #[.agg #[.int .i64 n,.slice A nl cl],.slice av nq aw,.int .i64 f] w (Iu w n ls t f):=by
 obtain⟨W,ch,ad,bw,bx,bA⟩:=Iy w n A nl cl av nq aw t N;have aM:[t].flatten=t:=by simp
 have bB:=U (Is n au A nl cl ls f _ 1 1 [t] W (h.below ad) bx (by rw[aM];exact hw) (by rw[aM];omega) bu (by rw[aM];exact he));obtain⟨cj,hm,ck,aN⟩:=y6 he;obtain⟨ag,bC⟩:=Cc hm;have L:=U (z_ ad (z_ bw (z_ bA (z_ ag (z_ bC (z_ hlen (z_ (N.below ad) N.len)))))));clear h N hw hlen he ad bw bx bA aM cj hm ck aN ag bC bu;subst ch;go_enter Tryz.func28,Tryz.ntmps28
 go_wp2_with fail
 go_step3
 go_upto_region 4 with(go_at_call 76;refine bB.o.mono ?_;rintro e w1 ⟨B,s,cm,cn,cp,cl,A,c,A',c',cq,cr,ct,cu,rfl,Z,ah,bD,aN⟩;have H1:=U (z_ Z (z_ ah (z_ bD aN)));clear Z ah bD aN)
 have cv:=L.o.2.2.2.2.2.2.2;have cw:=L.o.2.2.2.2.2.1;have ay:=U (Co H1.o.1 (L.o.2.2.2.2.2.2.1.below H1.o.2.2.2) L.o.2.2.2.1 L.o.2.2.2.2.1 (by omega));clear cv cw
 go_upto_region 5 with(go_at_call 77;refine ay.o.mono ?_;rintro e aa ⟨s2,c9,c1,da,c2,y,c3,db,dc,bE,bF,C,kind,G,H,I,O,P,Q,rfl,bG,bH,bI,bK,bL⟩;have ai:=U (z_ bG (z_ bH (z_ bI (z_ bK bL))));clear bG bH bI bK bL)
 obtain⟨m,core,hm,az,R⟩:=ai.o.2.2.2.1.plain;rw[H1.o.2.1] at R;have aV:=ai.o.1;rw[a_] at aV;have g2:=Cq ai.o.2.2.2.2;have bN:w.heap.size+1<B:=by have:=H1.o.2.2.1;have:=L.o.2.2.1;omega
 have bO:=g2.blk (L.o.2.1.below H1.o.2.2.2) ⟨(L.o.2.1.below H1.o.2.2.2).lt,by omega⟩;have aW:=L.o.1.trans (H1.o.2.2.2.mono L.o.1.size);have aX:Below w.heap.size w aa:=s5 aW ai.o.2.2.2.2 aW.size (λ g e=>by injection e with e;omega);have bP:=ai.o.2.1.trans H1.o.2.1;have cx:=g2.size;have cy:=H1.o.1.blk.lt;have aY:=L.o.2.2.2.2.2.2.1;have bQ:aL aa av nq aw t:=(aY.below H1.o.2.2.2).jr g2 (λ b e au=>by
  have h1:=aY.lt b e au;have bR:=H1.o.2.2.2.size;have bS:=H1.o.2.2.1;exact⟨by omega,by omega⟩)
 have D:=bz aa (.cells #[.int .i64 kind,.slice G H I,.slice O P Q,.int .i64 (C:Int)] 30);have aA:aT (aa.alloc (.cells #[.int .i64 kind,.slice G H I,.slice O P Q,.int .i64 (C:Int)] 30)) aa.heap.size 30 [.int .i64 kind,.slice G H I,.slice O P Q,.int .i64 (C:Int)]:=aT.new aa 30 _;have p:=U (z_ (aV.more D) (z_ (bO.below D) (z_ (aX.trans (D.mono aX.size)) (z_ (hm.below D) (z_ (az.below D) (z_ (bQ.below D) (z_ aA (z_ R (z_ bP bN)))))))));clear bB ay hm az aV g2 bO aW aX cx cy bQ aY bP H1 ai;generalize aa.heap.size=bg at*;generalize aa.alloc (.cells #[.int .i64 kind,.slice G H I,.slice O P Q,.int .i64 (C:Int)] 30)=aj at*;have a:=p.o.2.2.2.2.2.2.1.cell;have a0:=a 0;have a1:=a 1;have a2:=a 2;have a3:=a 3;simp only[y_,x_] at a0 a1 a2 a3;clear a aA D bN;have fin:∀(k:Int)(r:Nat),bJ (∀X,Below aj.heap.size aj X->vo ls n t f k m [] r->Iu w n ls t f (.returned (.tuple #[.agg #[.int .i64 k,.slice G H I,.slice none 0 0,.int .i64 (r:Int)],.int .i64 0])) ((((X.setCell ⟨w.heap.size+1,0,none⟩ (.int .i64 k)).setCell ⟨w.heap.size+1,1,none⟩ (.slice G H I)).setCell ⟨w.heap.size+1,2,none⟩ (.slice none 0 0)).setCell ⟨w.heap.size+1,3,none⟩ (.int .i64 (r:Int)))):=λ k r=>U λ X M cz=>by
  refine⟨k,G,H,I,none,0,0,r,m,[],rfl,?_,aL.nil _ _ _ (s_ _),cz,x8 (p.o.2.2.1.trans (M.mono p.o.2.2.1.size)) (aG.uY _ _ _ _) (o_ _)⟩;exact(p.o.2.2.2.1.below M).Ev (p.o.2.1.below M) (λ u hu x e=>by subst e;simp at hu) (aG.uY _ _ _ _)
 rcases R.k with⟨rfl,rfl,aB⟩|⟨rfl,rfl,aD,aE⟩|⟨rfl,rfl,rfl,aZ⟩
 ·have a6:=U aB;have T:=U (xh aj B _ f C p.o.1.blk rfl rfl 1 G H I none 0 0 (.inl rfl) C rfl);have a7:=fin 1 C;clear aB R fin
  go_wp2_with (go_at_call 78;refine T.o.mono ?_;rintro e X ⟨rfl,M⟩;have ab:=U M;have J:=p.o.2.1.below M;have z:=J.cell;have z0:=z 0;have ae:=z 1;have z2:=z 2;have z3:=z 3;have g:=J.free;have g0:=g 0;have g1:=g 1;have g2:=g 2;have g3:=g 3;simp only[y_,x_] at z0 ae z2 z3;clear z g J M)
  rw[n_];exact AE rfl rfl rfl (((((p.o.2.1.below ab.o).set 0 _).set 1 _).set 2 _).set 3 _) (a7.o X ab.o ⟨p.o.1.mQ,.inl ⟨rfl,rfl,a6.o⟩⟩)
 ·have af:=U (Ep av nq aw t O P Q core aj p.o.2.2.2.2.2.1 p.o.2.2.2.2.1);obtain⟨aO,aP⟩:∃l,rf t core=l:=⟨_,rfl⟩
  rw[aP] at af;have bT:aO.Sublist t:=aP▸D5 t core;have bU:¬Can ls aO:=λ h=>aE (h.mono λ x ak=>by rw[<-aP];exact Ca.2 ⟨aD.subset ak,ak⟩)
  have a8:=U (z_ bT bU);clear R fin aD aE aP bT bU
  go_upto_region 8 with(go_at_call 79;refine af.o.mono ?_;rintro e cA ⟨y,c3,rfl,cB,bV,bW⟩;have al:=U (z_ bV bW);clear cB bV bW)
  obtain⟨base,aQ⟩:∃b,aj.heap.size=b:=⟨_,rfl⟩
  have cC:bJ (Ex w B n ls t f base 0 y c3 aO cA):=U (by
   refine⟨⟨_,_,_,_,_,_,_,_,_,_,_,_,_,_,p.o.1.more al.o.2,p.o.2.2.2.2.2.2.2.2.1⟩,p.o.2.1.below al.o.2,aQ▸al.o.1,aQ▸al.o.2.size,aQ▸p.o.1.blk.lt,p.o.2.2.2.2.2.2.2.2.2,s_ _,a8.o.1,a8.o.2,λ j a'=>absurd a' (by omega),p.o.2.2.1.trans (al.o.2.mono p.o.2.2.1.size)⟩)
  clear p al a8 aQ a0 a1 a2 a3 af
  go_wp2_with fail
  apply wp_label
  go_wp2_with fail
  go_loopw [12,11] (λ i l W=>∃(k:Nat)(y:Option Addr)(c3:Nat)(left:List Int),i=.int .i64 k/\l=.slice y left.length c3/\Ex w B n ls t f base k y c3 left W) (λ i l _=>2*Ew l-(intOf i).toNat)
  case atStart=>exact⟨0,y,c3,aO,rfl,rfl,cC.o⟩
  case round=>
   obtain⟨k,y,c3,left,rfl,rfl,S⟩:=hrel;have v:=U S;have aR:left.length<=1000:=q_ S.sub.length_le L.o.2.2.2.2.2.1;have ba:=S.kl;obtain⟨s,cm,cn,cp,cl,A,c,A',c',cq,cr,ct,cu,sp,Z,ah⟩:=S.k5;have aF:=U (z_ Z ah);have bb:∀x∈left,gK n x:=sub_lt S.sub L.o.2.2.2.1;have bc:(left.map aC).Nodup:=(S.sub.map aC).nodup L.o.2.2.2.2.1;have bd:=aL.kW S.own (by omega);obtain⟨q,N⟩:∃q,left.length=q:=⟨_,rfl⟩
   by_cases ag:k<q
   ·have cD:(k:Int)<(q:Int):=by omega
    have dd:c_.wrap ((k:Int)+1)=(k:Int)+1:=by rw[g_];omega
    have de:wrap64 ((k:Int)+1)=(k:Int)+1:=by unfold wrap64;omega
    have bf:=U (vj y left.length c3 left wr bd);have d:=U (z_ N (z_ ag (z_ bb (z_ bc (z_ aR ba)))));rw[N] at bf⊢;clear S Z ah bb bc bd N ag ba aR
    go_upto_region 11 with(first
     |(go_at_call 81;refine bf.o.mono ?_;rintro e X ⟨bE,bF,rfl,bh,M⟩;rw[d.o.1];obtain⟨g5,cE,bX⟩:∃g,bE=some ⟨g,0,none⟩/\wr.heap.size<=g:=Pv bh (by have:=d.o;omega);subst cE;have bj:=Po X wr.heap.size g5 left.length bF left bh bX k (by have:=d.o;omega);rw[d.o.1] at bj;have bY:=U bj;have ab:=U M;clear bj bh M bX)
     |(go_at_call 80;refine bY.o.mono ?_;rintro e cF ⟨rfl,bZ,bk⟩;have ay:=U (Co (aF.o.1.more (ab.o.trans bk)) (aL.kW bZ (by have:=d.o;omega)) (λ x ak=>d.o.2.2.1 x (List.mem_of_mem_eraseIdx ak)) (((List.eraseIdx_sublist left k).map aC).nodup d.o.2.2.2.1) (by have:=d.o;omega));have an:=U (ab.o.trans bk);clear bZ bk)
     |(go_at_call 77;refine ay.o.mono ?_;rintro e Y ⟨df,dh,d1,di,d2,dj,d3,dk,d4,nJ,d5,C,kind,G,H,I,O,P,Q,rfl,b0,aH,aI,b1,b2⟩;have ao:=U (z_ b0 (z_ aH (z_ aI (z_ b1 b2))));clear b0 aH aI b1 b2))
    obtain⟨m,core,hm,az,R⟩:=ao.o.2.2.2.1.plain;rw[aF.o.2] at R;have aH:=ao.o.2.1.trans aF.o.2;have g7:=Cq ao.o.2.2.2.2;have b3:=v.o.ov;have b4:=v.o.kD;have cG:=(aF.o.1.more an.o).blk.lt;have b5:=g7.blk (v.o.pH.below an.o) ⟨(v.o.pH.below an.o).lt,by omega⟩;have aS:=mw v.o.own an.o;have b6:Y.ownsRow base 3 1 (.slice y left.length c3) left.length (left.map (t_ .i64)):=oS aS (λ b ad=>g7.keep b ⟨(aS.lt b ad).2,by have:=(aS.lt b ad).1;omega⟩);have b7:=an.o.size;have aI:=g7.size;have b8:=v.o.gU;have bl:=v.o.qP;have bn:Below w.heap.size w cF:=bl.trans (an.o.mono bl.size);have bo:Below w.heap.size w Y:=s5 bn ao.o.2.2.2.2 bn.size (λ g e=>by injection e with e;omega);have D:=bz Y (.cells #[.int .i64 kind,.slice G H I,.slice O P Q,.int .i64 (C:Int)] 30);have aA:aT (Y.alloc (.cells #[.int .i64 kind,.slice G H I,.slice O P Q,.int .i64 (C:Int)] 30)) Y.heap.size 30 [.int .i64 kind,.slice G H I,.slice O P Q,.int .i64 (C:Int)]:=aT.new Y 30 _;have b9:∀aU,aU<=left.length->(∀j,j<aU->Can ls (left.eraseIdx j))->Ex w B n ls t f base aU y c3 left (Y.alloc (.cells #[.int .i64 kind,.slice G H I,.slice O P Q,.int .i64 (C:Int)] 30)):=λ aU cH cI=>
     ⟨⟨_,_,_,_,_,_,_,_,_,_,_,_,_,_,ao.o.1.more D,aH⟩,b5.below D,mw b6 D,q_ (q_ b8 b7) (q_ aI D.size),b3,b4,cH,v.o.sub,v.o.un,cI,bo.trans (D.mono bo.size)⟩
    have aq:=U (z_ b9 (z_ (az.below D) (ao.o.1.more D)));have cJ:=U aA;clear hm az g7 b5 aS b6 bn bo D b9 aA b7 aI b8 bl b3 cG b4 aH bf bY ay;generalize Y.heap.size=lC at*;generalize Y.alloc (.cells #[.int .i64 kind,.slice G H I,.slice O P Q,.int .i64 (C:Int)] 30)=b' at*;have a:=cJ.o.cell;have a0:=a 0;have a1:=a 1;have a2:=a 2;have a3:=a 3;simp only[y_,x_] at a0 a1 a2 a3;clear a;rcases R.k with⟨rfl,rfl,aB⟩|⟨rfl,rfl,aD,aE⟩|⟨rfl,rfl,rfl,aZ⟩
    ·have a6:=U (aq.o.1 (k+1) (by have:=d.o;omega) (λ j a'=>by
      rcases Nat.lt_or_ge j k with h1|h1
      ·exact v.o.AH j h1
      ·obtain rfl:j=k:=by omega
       exact aB.can))
     clear aB R
     go_wp2_with fail
     go_roundw
     case rel=>exact⟨k+1,y,c3,left,by go_num,by rw[d.o.1],a6.o⟩
     case measure=>have:=d.o.2.1;simp[intOf,Ew];omega
    ·have ar:=aq.o.1 k (by have:=d.o;omega) v.o.AH;have af:=Ep y left.length c3 left O P Q core b' (aL.kW ar.own (by have:=d.o;omega)) aq.o.2.1;rw[d.o.1] at af;have ca:=U af;have bp:=U (NC (F:=ls) (left:=left) (core:=core) (i:=k) (Pw d.o.2.2.2.1) (by have:=d.o;omega) (λ x ak=>aD.subset ak) aE v.o.AH);have E:=U ar;obtain⟨cc,bq⟩:∃l,rf left core=l:=⟨_,rfl⟩
     have cd:cc.Sublist left:=bq▸D5 left core;rw[bq] at ca bp;have cK:=U cd;clear aD aE R af ar bq cd
     go_wp2_with (go_at_call 79;refine ca.o.mono ?_;rintro e bM ⟨cL,cM,rfl,cN,cf,K⟩;have V:=U (z_ cf K);clear cN cf K)
     go_roundw
     case rel=>
      obtain⟨cO,dm,cP,cQ⟩:=bp.o;obtain⟨cR,cS,cT,cU,cV,a9,cW,cX,cY,cZ,c0,c4,c5,c6,c7,c8⟩:=E.o.k5;have K:=V.o.2;have cg:=E.o.gU;exact⟨k,cL,cM,cc,rfl,rfl,⟨⟨cR,cS,cT,cU,cV,a9,cW,cX,cY,cZ,c0,c4,c5,c6,c7.more K,c8⟩,E.o.pH.below K,Eo V.o.1 cg,q_ cg K.size,E.o.ov,E.o.kD,cP,cK.o.trans E.o.sub,cO,cQ,E.o.qP.trans (K.mono E.o.qP.size)⟩⟩
     case measure=>have:=bp.o;have:=d.o;simp[intOf,Ew];omega
    ·have ar:=aq.o.1 k (by have:=d.o;omega) v.o.AH;have br:=aF.o.1.mQ;have bs:=aq.o.2.2.nt;have T:=xh b' B _ f (sp+C) aq.o.2.2.blk rfl rfl 3 none 0 0 y left.length c3 (.inr (.inr rfl)) f rfl;rw[d.o.1] at T;have bt:=U T;have aJ:=U (show vo ls n t f 3 [] left f from⟨r_ _,.inr (.inr ⟨rfl,rfl,rfl,by omega,v.o.sub,.inr v.o.un⟩)⟩);have E:=U ar;clear aZ R ar br bs T
     go_wp2_with (go_at_call 78;refine bt.o.mono ?_;rintro e bM ⟨rfl,K⟩;have V:=U K;have J:=E.o.pH.below K;have z:=J.cell;have z0:=z 0;have ae:=z 1;have z2:=z 2;have z3:=z 3;have g:=J.free;have g0:=g 0;have g1:=g 1;have g2:=g 2;have g3:=g 3;simp only[y_,x_] at z0 ae z2 z3;clear z g J K)
     first|rw[n_]|skip
     refine AE rfl rfl rfl (((((E.o.pH.below V.o).set 0 _).set 1 _).set 2 _).set 3 _) ⟨3,none,0,0,y,left.length,c3,f,[],left,by rw[d.o.1],kE.xg _,?_,aJ.o,x8 (E.o.qP.trans (V.o.mono E.o.qP.size)) (aG.uY _ _ _ _) (o_ _)⟩;have aK:=mw E.o.own V.o;exact(aL.kW aK (by have:=d.o;omega)).jr (aG.uY _ _ _ _) (λ b e au=>by have h1:=(aK.lt b ((ax.own ⟨y,_,c3⟩).trans e)).1;have bR:=E.o.ov;have bS:=E.o.kD;omega)
   ·have cD:¬(k:Int)<(q:Int):=by omega
    have T:=xh wr B _ f sp Z.blk rfl rfl 2 none 0 0 y left.length c3 (.inr (.inl rfl)) sp rfl;rw[N] at T;have bt:=U T;have aJ:=U (show vo ls n t f 2 [] left sp from⟨Z.mQ,.inr (.inl ⟨rfl,rfl,S.sub,S.un,λ j a'=>S.AH j (by omega)⟩)⟩);have d:=U (z_ N aR);rw[N];clear S Z ah bb bc bd N ag ba aR T
    go_wp2_with (go_at_call 78;refine bt.o.mono ?_;rintro e bM ⟨rfl,K⟩;have V:=U K;have J:=v.o.pH.below K;have z:=J.cell;have z0:=z 0;have ae:=z 1;have z2:=z 2;have z3:=z 3;have g:=J.free;have g0:=g 0;have g1:=g 1;have g2:=g 2;have g3:=g 3;simp only[y_,x_] at z0 ae z2 z3;clear z g J K)
    first|rw[n_]|skip
    refine AE rfl rfl rfl (((((v.o.pH.below V.o).set 0 _).set 1 _).set 2 _).set 3 _) ⟨2,none,0,0,y,left.length,c3,sp,[],left,by rw[d.o.1],kE.xg _,?_,aJ.o,x8 (v.o.qP.trans (V.o.mono v.o.qP.size)) (aG.uY _ _ _ _) (o_ _)⟩;have aK:=mw v.o.own V.o;exact(aL.kW aK (by have:=d.o;omega)).jr (aG.uY _ _ _ _) (λ b e au=>by have h1:=(aK.lt b ((ax.own ⟨y,_,c3⟩).trans e)).1;have bR:=v.o.ov;have bS:=v.o.kD;omega)
 ·have T:=U (xh aj B _ f C p.o.1.blk rfl rfl 3 G H I none 0 0 (.inr (.inr rfl)) f rfl);have a7:=fin 3 f;have br:C=f:=by omega
  have bs:=p.o.1.nt;have aJ:=U (show vo ls n t f 3 [] [] f from⟨r_ _,.inr (.inr ⟨rfl,rfl,rfl,by omega,List.nil_sublist _,.inl rfl⟩)⟩);clear R fin aZ br bs
  go_wp2_with (go_at_call 78;refine T.o.mono ?_;rintro e X ⟨rfl,M⟩;have ab:=U M;have J:=p.o.2.1.below M;have z:=J.cell;have z0:=z 0;have ae:=z 1;have z2:=z 2;have z3:=z 3;have g:=J.free;have g0:=g 0;have g1:=g 1;have g2:=g 2;have g3:=g 3;simp only[y_,x_] at z0 ae z2 z3;clear z g J M)
  rw[n_];exact AE rfl rfl rfl (((((p.o.2.1.below ab.o).set 0 _).set 1 _).set 2 _).set 3 _) (a7.o X ab.o aJ.o)
def pX(m:List Bool)(x:Int):Bool:=iE m x.natAbs !=decide (0<x)
theorem Cr(b:gK n x):pX m x= !(lB m x):=by
 have c:=b.oC;unfold pX lB
 by_cases h:x<0
 ·rw[if_pos h,decide_eq_false (show¬0<x by omega)]
  cases iE m x.natAbs<;>rfl
 ·rw[if_neg h,decide_eq_true (show 0<x by omega)]
  cases iE m x.natAbs<;>rfl
theorem Py:∀args w,(callFunc 82 args).run w_ w=.ok (.enter 82 args) w:=enters_of Tryz.func82 (by kernel_rfl) rfl
theorem Pz:∀args w,(callFunc 86 args).run w_ w=.ok (.enter 86 args) w:=enters_of Tryz.func86 (by kernel_rfl) rfl
theorem Ey(n:Nat)(s:n<=60000)(x:Int)(r:x.natAbs<=n)(f:Nat)(g:Option Addr)(i:Nat)(m:List Bool)(W:World)(t:W.cell? ⟨f,1,none⟩=some (.slice g (n+1) i))(hm:kE W g (n+1) i m):
  Calls w_ 82 #[.int .i64 x,.pointer (some ⟨f,0,none⟩)] W λ e w'=>e=.returned (.bool (pX m x))/\∃q,w'=W.drewN q:=by
 have c:=U (λ W:World=>HY x W (by omega));have j:qc x=(x.natAbs:Int):=if_neg (by omega);rw[j] at c;obtain⟨b,off,rfl,w,k⟩:=hm.cells (by omega);have l:=k x.natAbs (by omega);have d:m.getD x.natAbs false=iE m x.natAbs:=rfl;obtain⟨v,p⟩:∃v,x.natAbs=v:=⟨_,rfl⟩
 unfold pX;rw[p] at l c r d⊢;rw[d] at l;have y:(v:Int)<(n:Int)+1:=by omega
 generalize iE m v=u at*;clear k hm j d p;go_enter Tryz.func82,Tryz.ntmps82
 go_wp2_with fail
 go_quiet ((go_at_call 83;refine Calls.quiet_of_same ((c.o _).mono λ e z h=>⟨h.1,h.2.symm⟩)))
 go_wp2_with fail
 go_ret;refine⟨?_,_,rfl⟩
 cases u<;>rfl
theorem PA(n:Nat)(f:n<=60000)(x:Int)(g:x.natAbs<=n)(i b:Nat)(c:Option Addr)(d:Nat)(m:List Bool)(W:World)(l:W.cell? ⟨i,0,none⟩=some (.func (.func 82) #[] #[.pointer (some ⟨b,0,none⟩)]))(j:W.cell? ⟨b,1,none⟩=some (.slice c (n+1) d))(hm:kE W c (n+1) d m):
  Calls w_ 86 #[.int .i64 x,.pointer (some ⟨i,0,none⟩)] W λ e w'=>e=.returned (.bool (!(pX m x)))/\∃q,w'=W.drewN q:=by
 have k:=U (Ey n f x g b c d m W j hm);generalize pX m x=u at*;clear j hm g f;go_enter Tryz.func86,Tryz.ntmps86
 go_wp2_with (go_at_call 82;refine k.o.mono ?_;rintro e w1 ⟨rfl,q,rfl⟩)
 go_ret;exact⟨rfl,_,rfl⟩
abbrev Cs(n:Nat):={x:Int//x.natAbs<=n}
instance (n:Nat):Inhabited (Cs n):=⟨⟨0,by simp⟩⟩
def vq(n:Nat)(x:Cs n):Value:=.int .i64 x.1
theorem PB(n:Nat):OneCell (vq n):=λ x=>yW x.1
def Ct(n:Nat)(f:Nat)(lb:Array Value)(p:Int->Bool)(g:Nat)(w:World):Prop:=
 ∀(W:World)(x:Int),x.natAbs<=n->w.heap.size<=W.heap.size->(∀b,b<w.heap.size->b≠g->W.heap[b]? =w.heap[b]?)->Calls w_ f (#[.int .i64 x]++lb) W λ e w'=>e=.returned (.bool (p x))/\∃q,w'=W.drewN q
theorem PC(N:Nat)(f:Nat)(lb:Array Value)(p:Int->Bool)(t:∀args w,(callFunc f args).run w_ w=.ok (.enter f args) w)(w:World)(base g n cap:Nat)(c:List Int)(h:Own w base g n cap c)(d:base<=g)(u:∀x∈c,x.natAbs<=N)(hp:Ct N f lb p g w):
  Calls w_ 85 #[.slice (some ⟨g,0,none⟩) n cap,.func (.func f) #[] lb] w λ e w'=>
   e=.returned (.slice (some ⟨g,0,none⟩) (c.filter λ x=> !(p x)).length cap)/\Own w' base g (c.filter λ x=> !(p x)).length cap (c.filter λ x=> !(p x))/\Below base w w':=by
 obtain⟨ys,l⟩:∃ys:List (Cs N),ys.map Subtype.val=c:=⟨c.pmap Subtype.mk u,by simp[List.map_pmap]⟩
 have v:c.map (t_ .i64)=ys.map (vq N):=by rw[<-l,List.map_map];rfl
 have h':w.ownsRow base 3 1 (.slice (some ⟨g,0,none⟩) n cap) n (ys.map (vq N)):=by rw[<-v];exact h
 obtain⟨I,J,he,h1,K,y,z,i,A⟩:=holds_of_ownsRow h' (by intro e;cases e)
 cases he
 have B:n<=9223372036854775807:=by unfold maxLen at z;omega
 have C:PredAt w_ f lb (vq N) (λ x=>p x.1) w:=by
  intro W x m;unfold FnGives;exact hp W x.1 x.2 m.size (λ b d _=>m.block b d)
 have D:PredOver w_ f lb (vq N) (λ x=>p x.1) g 0 ys.toArray.size w:=by
  intro k os j x _;unfold FnGives;have E:w.heap.size<=(sortWorld (vq N) w g 0 k j os).heap.size:=by
   show w.heap.size<=((Sort.putRow (vq N) (Sort.ahead w k) g 0 j).heap++os).size;rw[Array.size_append,Sort.size_putRow];show w.heap.size<=w.heap.size+_;omega
  exact hp _ x.1 x.2 E (λ b d F=>Hh (vq N) w g k j os d F)
 have o:=Tryz.slices_DeleteFunc (vq N) (PB N) (λ x=>p x.1) f lb t ⟨0,by simp⟩ Tryz.zeroValue3 g 0 cap ys.toArray w C D A (by simpa[i] using B) (by simpa[i] using y);have hs:ys.toArray.size=n:=by simp[i]
 rw[hs] at o;refine Calls.mono o ?_;rintro e w' ⟨rfl,q,rfl⟩;have r:(ys.filter λ x=> !(p x.1)).map Subtype.val=c.filter λ x=> !(p x):=by rw[<-l,List.filter_map];rfl
 have s:(ys.filter λ x=> !(p x.1)).length=(c.filter λ x=> !(p x)).length:=by rw[<-r,List.length_map]
 have hl:ys.length=n:=by simpa using hs
 have hle:=p_ (λ x:Cs N=> !(p x.1)) ys;have G:ys.toArray.toList.filter (λ x=> !(p x.1))=ys.filter λ x=> !(p x.1):=rfl
 rw[G,s];refine⟨rfl,?_,below_putRow (j_ _ _) d⟩;have:=ownsRow_putRow (q:=q) (k:=(ys.filter λ x=> !(p x.1)).length) (ys:=(ys.filter λ x=> !(p x.1))++List.replicate (n-(ys.filter λ x=> !(p x.1)).length) ⟨0,by simp⟩) h' (by simp;omega) (by omega);rw[List.take_left' rfl,s] at this;have H:(c.filter λ x=> !(p x)).map (t_ .i64)=(ys.filter λ x=> !(p x.1)).map (vq N):=by rw[<-r,List.map_map];rfl
 unfold Own;rw[H];exact this
theorem Iz(N:Nat)(f:Nat)(lb:Array Value)(p:Int->Bool)(l:∀args w,(callFunc f args).run w_ w=.ok (.enter f args) w){w:World}{base:Nat}{A:Option Addr}{c:Nat}{ai:List Int}(i:w.ownsRow base 3 1 (.slice A ai.length c) ai.length (ai.map (t_ .i64)))(s:ai.length*8<=140737488355328)(t:base<=w.heap.size)(m:∀x∈ai,x.natAbs<=N)(hp:∀g,base<=g->Ct N f lb p g w):
  Calls w_ 85 #[.slice A ai.length c,.func (.func f) #[] lb] w λ e w'=>∃j c2,e=.returned (.slice j (ai.filter λ x=> !(p x)).length c2)/\w'.ownsRow base 3 1 (.slice j (ai.filter λ x=> !(p x)).length c2) (ai.filter λ x=> !(p x)).length ((ai.filter λ x=> !(p x)).map (t_ .i64))/\Below base w w':=by
 rcases i.2 with⟨h1,n⟩|⟨g,cap,cur,h1,k,_⟩
 ·injection h1 with b o d
  have:ai=[]:=List.eq_nil_of_length_eq_zero n;subst this;subst b d;refine(DD _ w).mono ?_;rintro e w' ⟨rfl,rfl⟩;exact⟨none,0,rfl,World.ownsRow_nil _ _ _ _,j_ _ _⟩
 ·injection h1 with b o d
  subst b d;refine(PC N f lb p l w base g ai.length c ai i k m (hp g k)).mono ?_;rintro e w' ⟨rfl,q,r⟩;exact⟨_,c,rfl,q,r⟩
structure uy(W:World)(n lS jt:Nat)(aU:Option Addr)(aP:Nat)(m:List Bool):Prop where
 tB:n<=60000
 fn:W.cell? ⟨lS,0,none⟩=some (.func (.func 82) #[] #[.pointer (some ⟨jt,0,none⟩)])
 md:W.cell? ⟨jt,1,none⟩=some (.slice aU (n+1) aP)
 pH:kE W aU (n+1) aP m
theorem x9{o:Nat}{v:Value}(h:W.cell? ⟨b,o,none⟩=some v):b<W.heap.size:=by
 rcases Nat.lt_or_ge b W.heap.size with c|d
 ·exact c
 ·simp[World.cell?,Array.getElem?_eq_none d] at h
theorem kE.zf{ai:List Bool}(h:kE w A n c ai)(hs:w.heap.size<=w'.heap.size)(d:∀b,b<w.heap.size->w'.heap[b]? =w.heap[b]?):kE w' A n c ai:=
 ⟨h.len,h.cap,h.mu,h.nT,λ f=>by
  obtain⟨b,off,e,h1,g⟩:=h.cells f;refine⟨b,off,e,v_ h1 hs,λ j i=>?_⟩;rw[u_ (a:=⟨b,off+j,none⟩) (d b h1)];exact g j i⟩
theorem uy.zf{W W':World}{n lS jt:Nat}{aU:Option Addr}{aP:Nat}{m:List Bool}(h:uy W n lS jt aU aP m)(hs:W.heap.size<=W'.heap.size)(c:∀b,b<W.heap.size->W'.heap[b]? =W.heap[b]?):uy W' n lS jt aU aP m:=
 ⟨h.tB,(u_ (a:=⟨lS,0,none⟩) (c lS (x9 h.fn))).trans h.fn,(u_ (a:=⟨jt,1,none⟩) (c jt (x9 h.md))).trans h.md,h.pH.zf hs c⟩
theorem uy.below(h:uy W n lS jt aU aP m)(b:Below W.heap.size W W'):uy W' n lS jt aU aP m:=h.zf b.size b.block
theorem uy.pred{kO:World}(h:uy kO n lS jt aU aP m)(c:Below kO.heap.size kO W)(g:Nat)(f:kO.heap.size<=g):Ct n 82 #[.pointer (some ⟨jt,0,none⟩)] (pX m) g W/\Ct n 86 #[.pointer (some ⟨lS,0,none⟩)] (λ x=> !(pX m x)) g W:=by
 have key:∀W',W.heap.size<=W'.heap.size->(∀b,b<W.heap.size->b≠g->W'.heap[b]? =W.heap[b]?)->uy W' n lS jt aU aP m:=λ W' hs hk=>h.zf (q_ c.size hs) (λ b e=>(hk b (v_ e c.size) (by omega)).trans (c.block b e))
 exact⟨λ W' x d hs hk=>Ey n h.tB x d jt aU aP m W' (key W' hs hk).md (key W' hs hk).pH,λ W' x d hs hk=>PA n h.tB x d lS jt aU aP m W' (key W' hs hk).fn (key W' hs hk).md (key W' hs hk).pH⟩
theorem IA(n f E s:Nat)(F:Option Addr)(G:Nat)(m:List Bool)(i:Option Addr)(nq j:Nat)(b:List Int)(w:World)(h:uy w n f E F G m)(M:w.cell? ⟨s,0,none⟩=some (.slice i nq j))(c:aL w i nq j b)(t:∀x∈b,x.natAbs<=n):
  Calls w_ 84 #[.pointer (some ⟨s,0,none⟩),.pointer (some ⟨f,0,none⟩)] w λ e w'=>∃k c2,e=.returned (.slice k (b.filter (pX m)).length c2)/\w'.ownsRow w.heap.size 3 1 (.slice k (b.filter (pX m)).length c2) (b.filter (pX m)).length ((b.filter (pX m)).map (t_ .i64))/\Below w.heap.size w w':=by
 have N:∀(fn:Fn)(first cap:Array Value)(w:World),(Instr.makeFunc fn first cap).run w_ w=.ok (.func fn first cap) w:=λ _ _ _ _=>rfl
 have H:=U (vj i nq j b w c);have u:=c.mu;have v:=c.len;have p:=U (z_ h (z_ c (z_ t (z_ u v))));obtain⟨os,q⟩:∃l,b.filter (pX m)=l:=⟨_,rfl⟩
 have y:(b.filter λ x=> !(!(pX m x)))=os:=by rw[<-q];congr 1;funext x;simp
 rw[q];have I:=U y;clear h c t u v q y;go_enter Tryz.func84,Tryz.ntmps84
 go_wp2_with (first
  |(go_at_call 81;refine H.o.mono ?_;rintro e O ⟨k,c2,rfl,z,A⟩;have d:=U (z_ z A);clear z A;have r:=Iz n 86 #[.pointer (some ⟨f,0,none⟩)] (λ x=> !(pX m x)) Pz d.o.1 (by have:=p.o.2.2.2;omega) d.o.2.size p.o.2.2.1 (λ g J=>(p.o.1.pred d.o.2 g J).2);rw[I.o] at r;have K:=U r;clear r)
  |(go_at_call 85;refine K.o.mono ?_;rintro e P ⟨L,c3,rfl,B,C⟩;have D:=U (z_ B C);clear B C))
 go_ret;exact⟨L,c3,rfl,D.o.1,d.o.2.trans D.o.2⟩
theorem ku.sg{rs:List Row}{s:Nat}(f:rs.map (·.ai)=ls)(g:rs.length=n)(hs:s=w.heap.size)(h:n<=1000)(i:W=w.alloc (.cells ((rs.map kS).toArray) t))(k:∀r∈rs,aL w r.A r.n r.c r.ai):ku W (some ⟨s,0,none⟩) n n ls:=by
 subst hs i f;refine⟨by simpa using g,r_ _,by omega,by unfold maxLen;omega,λ l=>⟨w.heap.size,0,rfl,by simp,λ j m=>?_⟩⟩;have b:j<rs.length:=by omega
 have d:=(k _ (List.getElem_mem b)).alloc (.cells ((rs.map kS).toArray) t);have e:(w.alloc (.cells ((rs.map kS).toArray) t)).heap[w.heap.size]? =some (.cells ((rs.map kS).toArray) t):=World.alloc_heap_new w _;generalize w.alloc (.cells ((rs.map kS).toArray) t)=W at e d;have:((rs.map kS).toArray)[j]? =some (kS rs[j]):=by
  rw[List.getElem?_toArray,List.getElem?_map,List.getElem?_eq_getElem b];rfl
 refine⟨rs[j].A,rs[j].n,rs[j].c,?_,?_⟩
 ·have h1:W.cell? ⟨w.heap.size,0+j,none⟩=((rs.map kS).toArray)[0+j]? :=by
   unfold World.cell?;simp only[e];rfl
  rw[h1,a_,this];rfl
 ·rw[tM (by simpa using b)];simpa using d
theorem IB(w:World)(x:Int)(A:Option Addr)(nl cl:Nat)(e:Option Addr)(f g:Nat)(keep:List Int)(b:Option Addr)(nq c:Nat)(i:List Int)(hk:aL w e f g keep)(u:aL w b nq c i):
  ∃W:World,W=(((w.alloc (.cells #[.int .i64 x,.slice A nl cl] 24)).alloc (.cells #[.slice b nq c] 25)).alloc (.cells #[.int .i64 0,.slice none 0 0,.slice none 0 0,.int .i64 0] 30)).alloc (.cells #[.slice e f g,.slice b nq c] 25)/\Below w.heap.size w W/\aT W (w.heap.size+1+1) 30 [.int .i64 0,.slice none 0 0,.slice none 0 0,.int .i64 0]/\aT W (w.heap.size+1) 25 [.slice b nq c]/\ku W (some ⟨w.heap.size+1+1+1,0,none⟩) 2 2 [keep,i]/\W.heap.size=w.heap.size+4:=by
 have m:=bz w (.cells #[.int .i64 x,.slice A nl cl] 24);have z0:(w.alloc (.cells #[.int .i64 x,.slice A nl cl] 24)).heap.size=w.heap.size+1:=by simp
 generalize w.alloc (.cells #[.int .i64 x,.slice A nl cl] 24)=w1 at*;have h1:=bz w1 (.cells #[.slice b nq c] 25);have v:aT (w1.alloc (.cells #[.slice b nq c] 25)) w1.heap.size 25 [.slice b nq c]:=aT.new w1 25 _;have o:(w1.alloc (.cells #[.slice b nq c] 25)).heap.size=w1.heap.size+1:=by simp
 generalize w1.alloc (.cells #[.slice b nq c] 25)=d at*;have p:=bz d (.cells #[.int .i64 0,.slice none 0 0,.slice none 0 0,.int .i64 0] 30);have y:aT (d.alloc (.cells #[.int .i64 0,.slice none 0 0,.slice none 0 0,.int .i64 0] 30)) d.heap.size 30 [.int .i64 0,.slice none 0 0,.slice none 0 0,.int .i64 0]:=aT.new d 30 _;have z2:(d.alloc (.cells #[.int .i64 0,.slice none 0 0,.slice none 0 0,.int .i64 0] 30)).heap.size=d.heap.size+1:=by simp
 have j:=m.trans ((h1.trans (p.mono h1.size)).mono m.size);generalize d.alloc (.cells #[.int .i64 0,.slice none 0 0,.slice none 0 0,.int .i64 0] 30)=k at*;have l:=bz k (.cells #[.slice e f g,.slice b nq c] 25);have q:=ku.sg (w:=k) (rs:=[⟨e,f,g,keep⟩,⟨b,nq,c,i⟩]) (ls:=[keep,i]) (n:=2) (t:=25) rfl rfl rfl (by omega) rfl (λ r s=>by
  simp only[h_,List.not_mem_nil,or_false] at s;rcases s with rfl|rfl
  ·exact hk.below j
  ·exact u.below j)
 have z3:(k.alloc (.cells #[.slice e f g,.slice b nq c] 25)).heap.size=k.heap.size+1:=by simp
 refine⟨_,rfl,j.trans (l.mono j.size),?_,?_,?_,by omega⟩
 ·have:=y.below l;rw[o,z0] at this;exact this
 ·have:=(v.below p).below l;rw[z0] at this;exact this
 ·rw[z2,o,z0] at q;exact q
theorem AI(x:Int)(A:Option Addr)(nl cl:Nat)(ls:List (List Int))(f:Option Addr)(i j:Nat)(keep:List Int)(k:Option Addr)(nq l:Nat)(b:List Int)(m:Int)(w:World)(h:ku w A nl cl ls)(hk:aL w f i j keep)(s:aL w k nq l b)(hw:nZ (keep++b))(hlen:(keep++b).length<=1000)(c:Int)(he:ny x ls (keep++b) m=c)(n:c≠0):
  Calls w_ 29 #[.agg #[.int .i64 x,.slice A nl cl],.slice f i j,.slice k nq l,.int .i64 m] w λ e w'=>e=.returned (.tuple #[.agg #[.int .i64 0,.slice none 0 0,.slice none 0 0,.int .i64 0],.int .i64 c])/\Below w.heap.size w w':=by
 obtain⟨W,y,p,t,u,v,B⟩:=IB w x A nl cl f i j keep k nq l b hk s;have d:[keep,b].flatten=keep++b:=by simp
 have C:=U (Ir x A nl cl ls m _ 2 2 [keep,b] W (h.below p) v (by rw[d];exact hw) (by rw[d];omega) c (by rw[d];exact he) n);have q:=U (z_ p t);have F:(c==0)=false:=by simpa using n
 have D:=u.cell 0;simp only[y_] at D;clear h hk s hw hlen he n p t v B d u;subst y;go_enter Tryz.func29,Tryz.ntmps29
 go_upto_region 3 with(go_at_call 76;refine C.o.mono ?_;rintro e w1 ⟨rfl,r⟩;have H1:=U (z_ r (q.o.2.below r));clear r;have z:=H1.o.2.cell;have z0:=z 0;have E:=z 1;have z2:=z 2;have z3:=z 3;have g:=H1.o.2.free;have g0:=g 0;have g1:=g 1;have g2:=g 2;have g3:=g 3;simp only[y_,x_] at z0 E z2 z3;clear z g)
 go_wp2_with fail
 exact AF rfl rfl rfl ((((H1.o.2.set 0 _).set 1 _).set 2 _).set 3 _) ⟨rfl,((((q.o.1.trans (H1.o.1.mono q.o.1.size)).setCell (show w.heap.size<=w.heap.size+1+1 by omega) _).setCell (show w.heap.size<=w.heap.size+1+1 by omega) _).setCell (show w.heap.size<=w.heap.size+1+1 by omega) _).setCell (show w.heap.size<=w.heap.size+1+1 by omega) _⟩
theorem rM.wide(d:rM (λ b=>b=B) w B n s bp aR iV cl A c A' c' gY gJ bu bE aJ sp)(g:Below w.heap.size w w')(h:w.heap.size<=jt)(j:jt<w'.heap.size):rM (λ b=>b=B\/b=jt) w' B n s bp aR iV cl A c A' c' gY gJ bu bE aJ sp:=
 ⟨d.blk.below g,.inl rfl,λ b i=>i.elim (λ e=>by subst e;exact v_ d.blk.lt g.size) (λ e=>e▸j),λ W' f=>d.Cl W' ((aG.q4 g λ b g=>g.1).trans (f.mono λ b i=>⟨v_ i.1 g.size,λ e=>e.elim i.2 (by omega)⟩)),d.ok,d.n10,d.mQ,d.qa,d.bH,d.pl,d.el,d.ux,d.pa⟩
theorem rM.off(d:rM (λ b=>b=B\/b=jt) w B n s bp aR iV cl A c A' c' gY gJ bu bE aJ sp)(f:aG (λ b=>b≠jt) w w')(i:B≠jt):rM (λ b=>b=B\/b=jt) w' B n s bp aR iV cl A c A' c' gY gJ bu bE aJ sp:=
 ⟨f.blk d.blk i,.inl rfl,λ b h=>v_ (d.dl b h) f.size,λ W' j=>d.Cl W' ((f.mono λ b g e=>g.2 (.inr e)).trans (j.mono λ b g=>⟨v_ g.1 f.size,g.2⟩)),d.ok,d.n10,d.mQ,d.qa,d.bH,d.pl,d.el,d.ux,d.pa⟩
structure sd(w:World)(B jt lS n:Nat)(ls:List (List Int))(jb:Option Addr)(gl iB:Nat)(keep:List Int)(bB:Option Addr)(nq bF:Nat)(ah:List Int)(aJ k:Nat)(aU:Option Addr)(aP:Nat)(m:List Bool)(W:World):Prop where
 k5:∃(s:k7)(bp:Option Addr)(aR:Nat)(iV:Option Addr)(cl:Nat)(A:Option Addr)(c:Nat)(A':Option Addr)(c':Nat)(gY:Option Addr)(gJ:Nat)(bu:Option Addr)(bE sp:Nat),rM (λ b=>b=B\/b=jt) W B n s bp aR iV cl A c A' c' gY gJ bu bE aJ sp/\s.gs=ls
 pH:aT W (w.heap.size+1+1) 30 [.int .i64 0,.slice none 0 0,.slice none 0 0,.int .i64 0]
 tL:aT W (w.heap.size+1) 25 [.slice bB nq bF]
 fn:aT W lS 106 [.func (.func 82) #[] #[.pointer (some ⟨jt,0,none⟩)]]
 qa:∃(i j:Int)(bw:Option Addr)(bn aV:Nat),aT W jt 30 [.int .i64 i,.slice aU (n+1) aP,.slice bw bn aV,.int .i64 j]
 md:kE W aU (n+1) aP m
 aQ:w.heap.size+4<=B
 bI:B<jt
 gQ:jt<lS
 m0:iE m 0=false
 uz:tH ls keep ah k m
 AJ:aL W jb gl iB keep
 uA:aL W bB nq bF ah
 qP:Below w.heap.size w W
theorem sd.vW(h:sd w B jt lS n ls jb gl iB keep bB nq bF ah aJ k aU aP m W)(c:n<=10):uy W n lS jt aU aP m:=by
 obtain⟨i,j,d,e,f,b⟩:=h.qa;exact⟨by omega,h.fn.cell 0,b.cell 1,h.md⟩
theorem sd.more{w:World}{B jt lS n:Nat}{ls:List (List Int)}{jb:Option Addr}{gl iB:Nat}{keep:List Int}{bB:Option Addr}{nq bF:Nat}{ah:List Int}{aJ k:Nat}{aU:Option Addr}{aP:Nat}{m:List Bool}{W W':World}(h:sd w B jt lS n ls jb gl iB keep bB nq bF ah aJ k aU aP m W)(b:Below W.heap.size W W'):sd w B jt lS n ls jb gl iB keep bB nq bF ah aJ k aU aP m W':=by
 obtain⟨s,d,e,f,cl,A,c,A',c',g,l,o,p,sp,q,r⟩:=h.k5;obtain⟨i,j,t,u,v,y⟩:=h.qa;exact⟨⟨s,d,e,f,cl,A,c,A',c',g,l,o,p,sp,q.more b,r⟩,h.pH.below b,h.tL.below b,h.fn.below b,⟨i,j,t,u,v,y.below b⟩,h.md.below b,h.aQ,h.bI,h.gQ,h.m0,h.uz,h.AJ.below b,h.uA.below b,h.qP.trans (b.mono h.qP.size)⟩
theorem sd.asked(h:sd w B jt lS n ls jb gl iB keep bB nq bF ah aJ k aU aP m W)(g:W.grownBy W' (some B))(hk:∀b,jb.map (·.block)=some b->0<gl->b<B)(z:∀b,bB.map (·.block)=some b->0<nq->b<B)
  (C:∃(s:k7)(l:Option Addr)(o:Nat)(p:Option Addr)(cl:Nat)(A:Option Addr)(c:Nat)(A':Option Addr)(c':Nat)(q:Option Addr)(r:Nat)(t:Option Addr)(v sp:Nat),rM (λ b=>b=B\/b=jt) W' B n s l o p cl A c A' c' q r t v aJ sp/\s.gs=ls):sd w B jt lS n ls jb gl iB keep bB nq bF ah aJ k aU aP m W':=by
 obtain⟨s,l,o,p,cl,A,c,A',c',q,r,t,v,sp,D,I⟩:=h.k5;obtain⟨i,j,E,F,G,y⟩:=h.qa;have f:=Cq g;have aQ:=h.aQ;have bI:=h.bI;have gQ:=h.gQ;refine⟨C,f.blk h.pH ⟨h.pH.lt,by omega⟩,f.blk h.tL ⟨h.tL.lt,by omega⟩,f.blk h.fn ⟨h.fn.lt,by omega⟩,⟨i,j,E,F,G,f.blk y ⟨y.lt,by omega⟩⟩,?_,h.aQ,h.bI,h.gQ,h.m0,h.uz,?_,?_,s5 h.qP g h.qP.size (λ g e=>by injection e with e;omega)⟩
 ·refine h.md.jr f (λ b e=>⟨?_,h.md.Iw (by omega) D.blk (λ u hu x e=>by subst e;simp at hu) b e⟩);obtain⟨J,off,H,h1,_⟩:=h.md.cells (by omega);rw[H] at e;injection e with e
  exact e▸h1
 ·exact h.AJ.jr f (λ b e d=>⟨h.AJ.lt b e d,by have:=hk b e d;omega⟩)
 ·exact h.uA.jr f (λ b e d=>⟨h.uA.lt b e d,by have:=z b e d;omega⟩)
theorem sd.PD{vz:Nat}(h:sd w B jt lS n ls jb gl iB keep bB nq bF ah aJ k aU aP m W){uB:Option Addr}{uC:Nat}{m9:List Bool}(hm:kE W uB (n+1) uC m9)(r:iE m9 0=false)(t:tH ls keep ah vz m9)(hk:∀b,jb.map (·.block)=some b->0<gl->b<B)(v:∀b,bB.map (·.block)=some b->0<nq->b<B)(i9 d:Int)(g:Option Addr)(l o:Nat):
  sd w B jt lS n ls jb gl iB keep bB nq bF ah aJ vz uB uC m9 ((((W.setCell ⟨jt,0,none⟩ (.int .i64 i9)).setCell ⟨jt,1,none⟩ (.slice uB (n+1) uC)).setCell ⟨jt,2,none⟩ (.slice g l o)).setCell ⟨jt,3,none⟩ (.int .i64 d)):=by
 obtain⟨s,y,z,C,cl,A,c,A',c',D,E,F,G,sp,H,I⟩:=h.k5;obtain⟨i,j,J,K,L,q⟩:=h.qa;have f:aG (λ b=>b≠jt) W ((((W.setCell ⟨jt,0,none⟩ (.int .i64 i9)).setCell ⟨jt,1,none⟩ (.slice uB (n+1) uC)).setCell ⟨jt,2,none⟩ (.slice g l o)).setCell ⟨jt,3,none⟩ (.int .i64 d)):=aG.uY _ _ _ _;have M:=(((q.set 0 (.int .i64 i9)).set 1 (.slice uB (n+1) uC)).set 2 (.slice g l o)).set 3 (.int .i64 d);have N:∀u∈[t_ .i64 i,.slice aU (n+1) aP,.slice J K L,.int .i64 j],∀x:Bool,u≠ .bool x:=λ u hu x e=>by subst e;simp at hu
 generalize (((W.setCell ⟨jt,0,none⟩ (.int .i64 i9)).setCell ⟨jt,1,none⟩ (.slice uB (n+1) uC)).setCell ⟨jt,2,none⟩ (.slice g l o)).setCell ⟨jt,3,none⟩ (.int .i64 d)=W' at*;have aQ:=h.aQ;have bI:=h.bI;have gQ:=h.gQ;exact⟨⟨s,y,z,C,cl,A,c,A',c',D,E,F,G,sp,H.off f (by omega),I⟩,f.blk h.pH (by omega),f.blk h.tL (by omega),f.blk h.fn (by omega),⟨i9,d,g,l,o,M⟩,hm.Ev q N f,aQ,bI,gQ,r,t,h.AJ.jr f (λ b e p=>by have:=hk b e p;omega),h.uA.jr f (λ b e p=>by have:=v b e p;omega),x8 h.qP f (by omega)⟩
theorem PE:∀args w,(callFunc 85 args).run w_ w=.ok (.enter 85 args) w:=enters_of Tryz.func85 (by kernel_rfl) rfl
def zi(base:Nat)(e:Nat)(f:Option Addr)(nq g:Nat)(b d:List Int)(i:Nat)(v:Value)(w:World):Prop:=
 match i with
 |0=>v=.slice f nq g
 |1=>∃(A:Option Addr)(c:Nat),v=.slice A b.length c/\w.ownsRow base 3 1 (.slice A b.length c) b.length (b.map (t_ .i64))
 |2=>v=.func (.func 82) #[] #[.pointer (some ⟨e,0,none⟩)]
 |3=>∃(A:Option Addr)(c:Nat),v=.slice A d.length c/\w.ownsRow base 3 1 (.slice A d.length c) d.length (d.map (t_ .i64))
 |_=>True
theorem zi.mono(base:Nat)(d:Nat)(e:Option Addr)(nq f:Nat)(g j:List Int)(i:Nat)(u:Value)(w w':World)(k:Below w.heap.size w w')(h:zi base d e nq f g j i u w):zi base d e nq f g j i u w':=by
 match i,h with
 |0,h=>exact h
 |1,h=>obtain⟨A,c,h1,b⟩:=h;exact⟨A,c,h1,mw b k⟩
 |2,h=>exact h
 |3,h=>obtain⟨A,c,h1,b⟩:=h;exact⟨A,c,h1,mw b k⟩
 |n+4,h=>trivial
def IC(i:Nat):Option Nat:=if i=1 then some 3 else none
structure ID(kO:World)(oH lS jt n:Nat)(bB:Option Addr)(nq bF:Nat)(ah nB:List Int)(aU:Option Addr)(aP:Nat)(m:List Bool):Prop where
 q:kO.cell? ⟨oH,0,none⟩=some (.slice bB nq bF)
 vW:uy kO n lS jt aU aP m
 uA:aL kO bB nq bF ah
 aW:∀x∈ah,x.natAbs<=n
 ak:(ah.filter λ x=> !(pX m x))=nB
theorem PF(d:World)(t v y n:Nat)(z:Option Addr)(nq B:Nat)(f H:List Int)(K:Option Addr)(L:Nat)(m:List Bool)(C:ID d t v y n z nq B f H K L m):
  wC w_ [some 65,some 66,some 67,some 68,some 17] [[],[0],[],[1,2,1],[3,3,0,1,2,3]] [(6,.pointer (some ⟨t,0,none⟩)),(13,.pointer (some ⟨v,0,none⟩))] (λ w=>Below d.heap.size d w) (zi d.heap.size y z nq B f H) IC 0 ((rV Tryz.f29 16).take 4):=by
 have M:=zi.mono d.heap.size y z nq B f H;have N:∀w w':World,Below d.heap.size d w->Below w.heap.size w w'->Below d.heap.size d w':=λ w w' b D=>b.trans (D.mono b.size)
 refine⟨?_,?_,?_,?_,trivial⟩
 ·intro vals w i b o s hp;have O:i (.tmp 6)=_:=s.1 rfl;have I:=(u_ (a:=⟨t,0,none⟩) (b.block t (x9 C.q))).trans C.q;simp only[bD,execOp,O];simp[gL,go_sem,I];exact .same b rfl
 ·intro vals w i b o s hp;obtain⟨⟨f0,E⟩,-⟩:=(⟨o.1 rfl,trivial⟩:_/\True)
  have E:i (.tmp 65)=vals 0:=E _ rfl;have f0:vals 0=_:=f0 (Or.inl rfl);rw[f0] at E;have P:=C.uA.below b;refine tD 81 #[.tmp 65] #[25] rfl BQ hp ?_;simp only[List.map_toArray,b_,List.map_nil,E];refine(vj z nq B f w P).mono ?_;rintro e w' ⟨Q,c2,rfl,R,D⟩;exact⟨_,rfl,.more M D (N w w' b D) ⟨Q,c2,rfl,Eo R b.size⟩⟩
 ·intro vals w i b o s hp;have S:i (.tmp 13)=_:=s.2.1 rfl;have I:=(u_ (a:=⟨v,0,none⟩) (b.block v (x9 C.vW.fn))).trans C.vW.fn;simp only[bD,execOp,S];simp[gL,go_sem,I];exact .same b rfl
 ·intro vals w i b o s hp;obtain⟨⟨f1,F⟩,⟨f2,G⟩,-⟩:=(⟨o.1 rfl,o.2.1 rfl,trivial⟩:_/\_/\True)
  have F:i (.tmp 66)=vals 1:=F _ rfl;have G:i (.tmp 67)=vals 2:=G _ rfl;have f2:vals 2=_:=f2 (Or.inl rfl);rw[f2] at G;obtain⟨A,c,f1,T⟩:∃(A:Option Addr)(c:Nat),vals 1=.slice A f.length c/\w.ownsRow d.heap.size 3 1 (.slice A f.length c) f.length (f.map (t_ .i64)):=f1 (Or.inr rfl);rw[f1] at F;refine tD 85 #[.tmp 66,.tmp 67] #[25,106] rfl PE hp ?_;simp only[List.map_toArray,b_,List.map_nil,F,G];have J:=Iz n 82 #[.pointer (some ⟨y,0,none⟩)] (pX m) Py T (by have:=C.uA.mu;have:=C.uA.len;omega) b.size C.aW (λ g U=>(C.vW.pred b g U).1);rw[C.ak] at J;refine J.mono ?_;rintro e w' ⟨V,c3,rfl,W,X⟩;refine⟨_,rfl,b.trans X,⟨V,c3,rfl,W⟩,λ j u k l p r h=>?_⟩
  match j,k,l,p,r,h with
  |0,k,l,p,r,h=>exact h
  |1,k,l,p,r,h=>exact absurd rfl l
  |2,k,l,p,r,h=>exact h
  |3,k,l,p,r,h=>exact absurd rfl k
  |n+4,k,l,p,r,h=>trivial
theorem below_drewN(w:World)(q:Nat):Below w.heap.size w (w.drewN q):=⟨rfl,rfl,rfl,r_ _,λ _ _=>rfl⟩
theorem IE:∀{l:List Int},(l.map aC).Nodup->∀{x y:Int},x∈l->y∈l->aC x=aC y->x=y
 |[],_,x,y,c,_,_=>by cases c
 |a::l,h,x,y,c,d,e=>by
  rw[b_,List.nodup_cons] at h;rcases h_.1 c with h1|h1
  ·rcases h_.1 d with b|b
   ·rw[h1,b]
   ·exact absurd (k_.2 ⟨y,b,by rw[<-e,h1]⟩) h.1
  ·rcases h_.1 d with b|b
   ·exact absurd (k_.2 ⟨x,h1,by rw[e,b]⟩) h.1
   ·exact IE h.2 h1 b e
theorem PG(h:(keep.map aC++ah.map aC).Nodup)(i:x∈ah)(hp:p x=false):((keep++ah.filter p++[x]).map aC).Nodup:=by
 obtain⟨h1,j,k⟩:=i_.1 h;rw[List.append_assoc,d_,i_];refine⟨h1,?_,λ a f b c=>k a f b ?_⟩
 ·rw[d_,i_];refine⟨(List.filter_sublist.map aC).nodup j,by simp,λ a f b c e=>?_⟩;obtain⟨y,d,rfl⟩:=k_.1 f;simp at c;subst c;have:=IE j (m_.1 d).1 i e;subst this;rw[(m_.1 d).2] at hp
  cases hp
 ·obtain⟨y,d,rfl⟩:=k_.1 c;rcases l_.1 d with g|g
  ·exact k_.2 ⟨y,(m_.1 g).1,rfl⟩
  ·rw[List.mem_singleton.1 g];exact k_.2 ⟨x,i,rfl⟩
theorem PI(w:World)(x:Int)(b:Option Addr)(c d:Nat)(keep:List Int)(e:Option Addr)(n7 f:Nat)(g:List Int)(hk:aL w b c d keep)(l:aL w e n7 f g):
  ∃W:World,W=(w.alloc (.cells #[.int .i64 x] 3)).alloc (.cells #[.slice b c d,.slice e n7 f,.slice (some ⟨w.heap.size,0,none⟩) 1 1] 25)/\ku W (some ⟨w.heap.size+1,0,none⟩) 3 3 [keep,g,[x]]/\Below w.heap.size w W:=by
 have i:=bz w (.cells #[.int .i64 x] 3);have m:aL (w.alloc (.cells #[.int .i64 x] 3)) (some ⟨w.heap.size,0,none⟩) 1 1 [x]:=aL.lit w [x] 1 _ rfl rfl (by omega);have z0:(w.alloc (.cells #[.int .i64 x] 3)).heap.size=w.heap.size+1:=by simp
 generalize w.alloc (.cells #[.int .i64 x] 3)=w1 at*;have h1:=bz w1 (.cells #[.slice b c d,.slice e n7 f,.slice (some ⟨w.heap.size,0,none⟩) 1 1] 25);have j:=ku.sg (w:=w1) (rs:=[⟨b,c,d,keep⟩,⟨e,n7,f,g⟩,⟨some ⟨w.heap.size,0,none⟩,1,1,[x]⟩]) (ls:=[keep,g,[x]]) (n:=3) (t:=25) rfl rfl rfl (by omega) rfl (λ r k=>by
  simp only[h_,List.not_mem_nil,or_false] at k;rcases k with rfl|rfl|rfl
  ·exact hk.below i
  ·exact l.below i
  ·exact m)
 rw[z0] at j;exact⟨_,rfl,j,i.trans (h1.mono i.size)⟩
theorem IF{Ab xU:World}(h:sd w B jt lS n ls jb gl iB keep bB nq bF ah aJ k aU aP m W)(d:Below W.heap.size W Ab)(g:Below Ab.heap.size Ab xU){kn:Option Addr}{kN:Nat}{os:List Int}(l:Ab.ownsRow W.heap.size 3 1 (.slice kn os.length kN) os.length (os.map (t_ .i64)))(q:os.length<=1000)(kind:Int)(r:Nat)(o:w9 ls n keep ah aJ kind m os r){ya:World}(i:ya=((((xU.setCell ⟨w.heap.size+1+1,0,none⟩ (.int .i64 kind)).setCell ⟨w.heap.size+1+1,1,none⟩ (.slice aU (n+1) aP)).setCell ⟨w.heap.size+1+1,2,none⟩ (.slice kn os.length kN)).setCell ⟨w.heap.size+1+1,3,none⟩ (.int .i64 (r:Int)))):
  aT ya (w.heap.size+1+1) 30 [.int .i64 kind,.slice aU (n+1) aP,.slice kn os.length kN,.int .i64 (r:Int)]/\Iv w n ls keep ah aJ (.returned (.tuple #[.agg #[.int .i64 kind,.slice aU (n+1) aP,.slice kn os.length kN,.int .i64 (r:Int)],.int .i64 0])) ya:=by
 have c:=d.trans (g.mono d.size);have pH:=h.pH.below c;have f:aG (λ b=>b≠w.heap.size+1+1) xU ya:=i▸aG.uY _ _ _ _;have p:aT ya (w.heap.size+1+1) 30 [.int .i64 kind,.slice aU (n+1) aP,.slice kn os.length kN,.int .i64 (r:Int)]:=i▸(((pH.set 0 _).set 1 _).set 2 _).set 3 _;have j:=mw l g;have s:=h.pH.lt;refine⟨p,kind,aU,n+1,aP,kn,os.length,kN,r,m,os,rfl,(h.md.below c).Ev pH (λ u hu x e=>by subst e;simp at hu) f,?_,o,x8 (h.qP.trans (c.mono h.qP.size)) f (by omega)⟩;exact(aL.kW j (by omega)).jr f (λ b e t=>by have h1:=(j.lt b ((ax.own ⟨kn,_,kN⟩).trans e)).1;omega)
theorem sd.model(h:sd w B jt lS n ls jb gl iB keep bB nq bF ah aJ k aU aP m W):w8 ls n keep m:=⟨h.md.len,h.m0,h.uz.mod,h.uz.Ac⟩
theorem PJ(n:Nat)(v:n<=10)(A:Option Addr)(nl cl:Nat)(ls:List (List Int))(N:Option Addr)(O Y:Nat)(keep:List Int)(R:Option Addr)(nq J:Nat)(ah:List Int)(r:Nat)(w:World)(h:ku w A nl cl ls)(hk:aL w N O Y keep)(av:aL w R nq J ah)(hw:nZ (keep++ah))(hlen:(keep++ah).length<=900)(b5:ls.length<=40000)(he:ny n ls (keep++ah) r=0):
  Calls w_ 29 #[.agg #[.int .i64 n,.slice A nl cl],.slice N O Y,.slice R nq J,.int .i64 r] w (Iv w n ls keep ah r):=by
 obtain⟨W,dq,aw,b6,bC,b7,b8⟩:=IB w n A nl cl N O Y keep R nq J ah hk av;have bb:[keep,ah].flatten=keep++ah:=by simp
 have b9:=U (Is n v A nl cl ls r _ 2 2 [keep,ah] W (h.below aw) b7 (by rw[bb];exact hw) (by rw[bb];omega) b5 (by rw[bb];exact he));obtain⟨bE,hm,dr,bc⟩:=y6 he;obtain⟨S,bd⟩:=Cc hm;rw[List.length_append] at hlen;have b':∀x∈keep,gK n x:=λ x K=>S x (l_.2 (.inl K))
 have ca:∀x∈ah,gK n x:=λ x K=>S x (l_.2 (.inr K))
 rw[d_] at bd;have cc:=(i_.1 bd).1;have cd:∀b,N.map (·.block)=some b->0<O->b<w.heap.size:=hk.lt;have cf:∀b,R.map (·.block)=some b->0<nq->b<w.heap.size:=av.lt;have f:=U (z_ aw (z_ b6 (z_ b8 (z_ b' (z_ ca (z_ bd (z_ hlen (z_ (hk.below aw) (z_ (av.below aw) (z_ bC (z_ cc (z_ cd cf))))))))))));have bf:=hk.len;have cg:=av.len;have ch:=bC.cell 0;simp only[y_] at ch;clear h hk av hw he aw b6 b7 b8 bb bE hm dr bc S bd b5 bC b' ca cc cd cf;subst dq;go_enter Tryz.func29,Tryz.ntmps29
 go_upto_region 4 with(go_at_call 76;refine b9.o.mono ?_;rintro e w1 ⟨B,s,dX,dY,dZ,cl,A,c,A',c',d',ea,eb,ec,rfl,cj,ck,cm,bc⟩;have H1:=U (z_ cj (z_ ck (z_ cm bc)));clear cj ck cm bc)
 have ay:=U (Co H1.o.1 (f.o.2.2.2.2.2.2.2.1.below H1.o.2.2.2) f.o.2.2.2.1 f.o.2.2.2.2.2.2.2.2.2.2.1 (by omega))
 go_upto_region 5 with(go_at_call 77;refine ay.o.mono ?_;rintro e L ⟨s2,ed,c1,ee,c2,bg,c3,ef,eg,eh,ei,P,kind,t,az,u,ab,ad,ae,rfl,cn,cp,cq,cr,ct⟩;have an:=U (z_ cn (z_ cp (z_ cq (z_ cr ct))));clear cn cp cq cr ct)
 obtain⟨m,core,hm,cu,aA⟩:=an.o.2.2.2.1.plain;rw[H1.o.2.1] at aA;have bh:=an.o.1;rw[a_] at bh;have g2:=Cq an.o.2.2.2.2;have bF:w.heap.size+4<=B:=by have:=H1.o.2.2.1;have:=f.o.2.2.1;omega
 have dt:=H1.o.1.blk.lt;have cv:=g2.blk (f.o.2.1.below H1.o.2.2.2) ⟨(f.o.2.1.below H1.o.2.2.2).lt,by omega⟩;have bG:=f.o.2.2.2.2.2.2.2.2.2.1.below H1.o.2.2.2;have cw:=g2.blk bG ⟨bG.lt,by omega⟩;have bH:=f.o.1.trans (H1.o.2.2.2.mono f.o.1.size);have bI:Below w.heap.size w L:=s5 bH an.o.2.2.2.2 bH.size (λ g e=>by injection e with e;omega);have cx:=an.o.2.1.trans H1.o.2.1;have bK:∀b,N.map (·.block)=some b->0<O->b<B:=λ b e v=>by have:=f.o.2.2.2.2.2.2.2.2.2.2.2.1 b e v;omega
 have bL:∀b,R.map (·.block)=some b->0<nq->b<B:=λ b e v=>by have:=f.o.2.2.2.2.2.2.2.2.2.2.2.2 b e v;omega
 have bN:=f.o.2.2.2.2.2.2.2.1.below H1.o.2.2.2;have bO:=f.o.2.2.2.2.2.2.2.2.1.below H1.o.2.2.2;have cy:aL L N O Y keep:=bN.jr g2 (λ b e v=>⟨bN.lt b e v,by have:=bK b e v;omega⟩);have cz:aL L R nq J ah:=bO.jr g2 (λ b e v=>⟨bO.lt b e v,by have:=bL b e v;omega⟩);have cA:=bh.blk.lt;have E:=bz L (.cells #[.int .i64 kind,.slice t az u,.slice ab ad ae,.int .i64 (P:Int)] 30);have aB:aT (L.alloc (.cells #[.int .i64 kind,.slice t az u,.slice ab ad ae,.int .i64 (P:Int)] 30)) L.heap.size 30 [.int .i64 kind,.slice t az u,.slice ab ad ae,.int .i64 (P:Int)]:=aT.new L 30 _;have d:=U (z_ (bh.wide E (r_ _) (by simp)) (z_ (cv.below E) (z_ (bI.trans (E.mono bI.size)) (z_ (hm.below E) (z_ (cu.below E) (z_ (cz.below E) (z_ aB (z_ (cy.below E) (z_ cx (z_ bF (z_ (cw.below E) (z_ bK bL))))))))))));have cB:bJ (B<L.heap.size):=U cA;clear b9 ay hm cu bh g2 cv bH bI dt cz cy bO bN cx H1 an bG cw bK bL cA;generalize bj:L.heap.size=p at*;have bk:(L.alloc (.cells #[.int .i64 kind,.slice t az u,.slice ab ad ae,.int .i64 (P:Int)] 30)).heap.size=p+1:=by simp[bj]
 generalize L.alloc (.cells #[.int .i64 kind,.slice t az u,.slice ab ad ae,.int .i64 (P:Int)] 30)=T at*;have a:=d.o.2.2.2.2.2.2.1.cell;have a0:=a 0;have a1:=a 1;have a2:=a 2;have a3:=a 3;simp only[y_,x_] at a0 a1 a2 a3;clear a aB E bF ch;rcases aA.k with⟨rfl,rfl,aD⟩|⟨rfl,rfl,cC,cD⟩|⟨rfl,rfl,rfl,du⟩
 ·have aE:=d.o.2.2.2.1.len;rw[aD.len] at aE;subst aE;have ej:∀(fn:Fn)(first cap:Array Value)(w:World),(Instr.makeFunc fn first cap).run w_ w=.ok (.func fn first cap) w:=λ _ _ _ _=>rfl
  have V:=bz T (.cells #[.func (.func 82) #[] #[.pointer (some ⟨p,0,none⟩)]] 106);have cE:aT (T.alloc (.cells #[.func (.func 82) #[] #[.pointer (some ⟨p,0,none⟩)]] 106)) T.heap.size 106 [.func (.func 82) #[] #[.pointer (some ⟨p,0,none⟩)]]:=aT.new T 106 _;have qH:sd w B p T.heap.size n ls N O Y keep R nq J ah r 0 t u m (T.alloc (.cells #[.func (.func 82) #[] #[.pointer (some ⟨p,0,none⟩)]] 106)):=by
   refine⟨⟨_,_,_,_,_,_,_,_,_,_,_,_,_,_,d.o.1.more V,d.o.2.2.2.2.2.2.2.2.1⟩,d.o.2.1.below V,d.o.2.2.2.2.2.2.2.2.2.2.1.below V,cE,⟨_,_,_,_,_,d.o.2.2.2.2.2.2.1.below V⟩,d.o.2.2.2.1.below V,d.o.2.2.2.2.2.2.2.2.2.1,cB.o,by omega,aD.m0,⟨aD.sat,aD.ah,λ j ek bE=>absurd bE (by omega)⟩,d.o.2.2.2.2.2.2.2.1.below V,d.o.2.2.2.2.2.1.below V,d.o.2.2.1.trans (V.mono d.o.2.2.1.size)⟩
  rw[bk] at qH;have cF:=U qH;have bl:=U d.o.2.2.2.2.2.2.2.2.2.2.2;clear qH cE V aD aA bj d cB
  go_upto_region 12 with fail
  generalize T.alloc (.cells #[.func (.func 82) #[] #[.pointer (some ⟨p,0,none⟩)]] 106)=cG at*;have cH:=cF.o.tL.cell 0;simp only[y_] at cH;clear bk a0 a1 a2 a3
  go_wp2_with fail
  clear cH
  go_loopw [57] (λ i W=>∃(k:Nat)(t:Option Addr)(u:Nat)(m:List Bool),i=.int .i64 k/\k<=nq/\sd w B p (p+1) n ls N O Y keep R nq J ah r k t u m W) (λ i _=>nq-(intOf i).toNat)
  case atStart=>exact⟨0,t,u,m,rfl,s_ _,cF.o⟩
  case round=>
   obtain⟨k,t,u,m,rfl,cI,ao⟩:=hrel;have qH:=U ao;have af:=ao.vW v
   by_cases S:k<nq
   ·have cJ:(k:Int)<(nq:Int):=by omega
    have en:c_.wrap ((k:Int)+1)=(k:Int)+1:=by rw[g_];omega
    obtain⟨tL,bn,rfl,dv,cK⟩:=ao.uA.cells (by omega);have cL:=cK k S;have bf:k<ah.length:=by rw[cg];exact S
    obtain⟨x,K⟩:∃x,je ah k=x:=⟨_,rfl⟩
    have bP:x∈ah:=K▸tN bf;have bo:=f.o.2.2.2.2.1 x bP;rw[K] at cL;have bQ:x.natAbs<=n:=bo.2;have dw:=af.fn;have aF:=U (Ey n af.tB x bQ p t u m wr af.md af.pH);have Z:=Cr (m:=m) bo;have C:=U (z_ bf (z_ S (z_ K (z_ bP (z_ bo bQ)))));clear cK bf S cI K bP bo bQ af ao dv
    cases hu:pX m x with
    |false=>
     rw[hu] at aF Z;have aH:bJ (lB m ah[k]=true):=U (by
      have e:ah[k]'(C.o.1)=x:=by rw[<-oN C.o.1];exact C.o.2.2.1
      rw[e]
      cases bR:lB m x with
      |true=>rfl
      |false=>rw[bR] at Z;cases Z)
     clear hu Z
     go_wp2_with (go_at_call 82;refine aF.o.mono ?_;rintro e aa ⟨rfl,bp,rfl⟩)
     go_roundw
     case rel=>exact⟨k+1,t,u,m,by go_num,by have:=C.o;omega,{qH.o.more (below_drewN wr bp) with uz:=qH.o.uz.yes C.o.1 aH.o}⟩
     case measure=>have:=C.o.2.1;simp[intOf];omega
    |true=>
     rw[hu] at aF Z;have cM:lB m x=false:=by
      cases bR:lB m x with
      |false=>rfl
      |true=>rw[bR] at Z;cases Z
     have aH:=U cM;clear hu Z cM
     go_upto_region 16 with(go_at_call 82;refine aF.o.mono ?_;rintro e aa ⟨rfl,bp,rfl⟩)
     have bq:=U (qH.o.more (below_drewN wr bp));generalize wr.drewN bp=aa at*;have M:=bq.o.tL.cell 0;simp only[y_] at M;obtain⟨G,bS⟩:∃l,ah.filter (lB m)=l:=⟨_,rfl⟩
     have cN:(ah.filter λ x=> !(pX m x))=G:=by
      rw[<-bS];exact e_ λ y q=>by rw[Cr (f.o.2.2.2.2.1 y q),Bool.not_not]
     have cO:ID aa (w.heap.size+1) (p+1) p n (some ⟨tL,bn,none⟩) nq J ah G t u m:=⟨M,bq.o.vW v,bq.o.uA,λ y q=>(f.o.2.2.2.2.1 y q).2,cN⟩
     have cP:=U (PF aa (w.heap.size+1) (p+1) p n (some ⟨tL,bn,none⟩) nq J ah G t u m cO);have aI:=U bS;clear dw bS cN aF cL cJ cO M;refine J6 (rV Tryz.f29 16) 4 101 _ _ [(6,.pointer (some ⟨w.heap.size+1,0,none⟩)),(13,.pointer (some ⟨p+1,0,none⟩))] _ (zi aa.heap.size p (some ⟨tL,bn,none⟩) nq J ah G) IC (by kernel_rfl) (by kernel_rfl) (by kernel_rfl) (by kernel_rfl) (by kernel_rfl) (by decide+kernel) (by decide+kernel) (by decide+kernel) (by decide+kernel) (by decide+kernel) rfl ⟨rfl,rfl,trivial⟩ ((j_ _ _).drew) cP.o _ rfl ?_;intro vals bT cQ cR eo cS;obtain⟨dx,dy,g3,cT⟩:∃(A:Option Addr)(c:Nat),vals 3=.slice A G.length c/\bT.ownsRow aa.heap.size 3 1 (.slice A G.length c) G.length (G.map (t_ .i64)):=cR 3 (by omega) rfl;simp only[ot,Act.put,List.take,g3] at cS;subst cS;have br:=U (z_ cT cQ);clear cR g3 cT cQ cP;simp only[bD,execOp];simp[gL,go_sem,Act.eval,Act.put];have bU:=U (bq.o.more br.o.2)
     go_upto_region 17 with fail
     have dz:G.length<=ah.length:=by rw[<-aI.o];exact p_ _ _
     have dA:=bU.o.k5;obtain⟨dB,dC,dD,dE,dF,mI,d7,dG,dH,dI,dJ,dK,dL,sp,aJ,bs⟩:=dA;obtain⟨dM,dN,cU,aK⟩:=PI bT x N O Y keep dx G.length dy G bU.o.AJ (aL.kW br.o.1 (by omega));obtain⟨all,aq⟩:∃l,keep++G++[x]=l:=⟨_,rfl⟩
     have cV:all.length<=1000:=by rw[<-aq];simp;omega
     have cW:=U (Pt _ 3 3 [keep,G,[x]] dM cU all (by rw[<-aq];simp) (by omega));have cX:∀y∈all,gK n y:=λ y q=>by
      rw[<-aq] at q;rcases l_.1 q with h1|h1
      ·rcases l_.1 h1 with bt|bt
       ·exact f.o.2.2.2.1 y bt
       ·rw[<-aI.o] at bt;exact f.o.2.2.2.2.1 y (m_.1 bt).1
      ·rw[List.mem_singleton.1 h1];exact C.o.2.2.2.2.1
     have cY:(all.map aC).Nodup:=by rw[<-aq,<-aI.o];exact PG f.o.2.2.2.2.2.1 C.o.2.2.2.1 aH.o
     have I:=U (z_ cV (z_ cX (z_ cY (z_ aq (z_ aJ (z_ bs aK))))));clear dz cU cV cX cY aq aJ bs aK;subst dN
     go_upto_region 18 with(first
      |(go_at_call 87;refine cW.o.mono ?_;rintro e ep ⟨er,et,rfl,cZ,aK⟩;have c0:=U (I.o.2.2.2.2.2.2.trans (aK.mono I.o.2.2.2.2.2.2.size));have ay:=U (Co (I.o.2.2.2.2.1.more c0.o) (aL.kW cZ (by have:=I.o.1;omega)) I.o.2.1 I.o.2.2.1 I.o.1);clear cZ aK)
      |(go_at_call 77;refine ay.o.mono ?_;rintro e bM ⟨eu,ev,d1,ew,d2,ey,d3,ez,d4,nJ,d5,ag,kind,aM,bu,aN,aO,aP,aQ,rfl,c4,c5,c6,c7,c8⟩;have aR:=U (z_ c4 (z_ c5 (z_ c6 (z_ c7 c8))));clear c4 c5 c6 c7 c8))
     obtain⟨m9,eA,c9,dO,aS⟩:=aR.o.2.2.2.1.plain;rw[I.o.2.2.2.2.2.1] at aS;have bV:=(bU.o.more c0.o).asked aR.o.2.2.2.2 bl.o.1 bl.o.2 ⟨_,_,_,_,_,_,_,_,_,_,_,_,_,_,aR.o.1,aR.o.2.1.trans I.o.2.2.2.2.2.1⟩;have E:=bz bM (.cells #[.int .i64 kind,.slice aM bu aN,.slice aO aP aQ,.int .i64 (ag:Int)] 30);have aB:aT (bM.alloc (.cells #[.int .i64 kind,.slice aM bu aN,.slice aO aP aQ,.int .i64 (ag:Int)] 30)) bM.heap.size 30 [.int .i64 kind,.slice aM bu aN,.slice aO aP aQ,.int .i64 (ag:Int)]:=aT.new bM 30 _;have Q:=U (z_ (bV.more E) (z_ (c9.below E) (z_ aB (aR.o.1.more E))));have da:p<bM.heap.size:=by
      obtain⟨i,j,ab,ad,ae,aU⟩:=bV.qa;exact aU.lt
     have eB:=U da;clear bV E aB c9 dO da cW ay;generalize bM.heap.size=lC at*;generalize bM.alloc (.cells #[.int .i64 kind,.slice aM bu aN,.slice aO aP aQ,.int .i64 (ag:Int)] 30)=kY at*;have a:=Q.o.2.2.1.cell;have a0:=a 0;have a1:=a 1;have a2:=a 2;have a3:=a 3;simp only[y_,x_] at a0 a1 a2 a3;clear a;have aV:ah[k]'(C.o.1)=x:=by rw[<-oN C.o.1];exact C.o.2.2.1
     rcases aS.k with⟨rfl,rfl,aW⟩|⟨rfl,rfl,db,dc⟩|⟨rfl,rfl,rfl,dP⟩
     ·have aE:=Q.o.2.1.len;rw[aW.len] at aE;subst aE;obtain⟨i0,eC,eD,eE,eF,aU⟩:=Q.o.1.qa;have z:=aU.cell;have z0:=z 0;have X:=z 1;have z2:=z 2;have z3:=z 3;have g:=aU.free;have g0:=g 0;have g1:=g 1;have g2:=g 2;have g3:=g 3;simp only[y_,x_] at z0 X z2 z3;have dQ:=U (Q.o.1.PD Q.o.2.1 aW.m0 (qH.o.uz.next C.o.1 aW.sat (λ y q=>aW.ah y (by rw[<-I.o.2.2.2.1,<-aI.o,<-aV];exact q))) bl.o.1 bl.o.2 1 (ag:Int) aO aP aQ);clear z g aW aS aU aV
      go_wp2_with fail
      go_roundw
      case rel=>exact⟨k+1,aM,aN,m9,by go_num,by have:=C.o;omega,dQ.o⟩
      case measure=>have:=C.o.2.1;simp[intOf];omega
     ·have dR:=U (qH.o.uz.no C.o.1 (λ h=>dc (h.mono λ y q=>by
       have:=db.subset q;rw[<-I.o.2.2.2.1,<-aI.o,<-aV] at this;exact this)))
      clear db dc aS aV
      go_wp2_with fail
      go_roundw
      case rel=>exact⟨k+1,t,u,m,by go_num,by have:=C.o;omega,{Q.o.1 with uz:=dR.o}⟩
      case measure=>have:=C.o.2.1;simp[intOf];omega
     ·have bW:=I.o.2.2.2.2.1.mQ;have bX:=Q.o.2.2.2.nt;have dd:sp+ag=r:=by omega
      have de:r<=59048:=by omega
      have dS:=U (z_ dd de);have F:=U (Q.o.1.more (j_ _ _).drew);have aX:=U (F.o.vW v);have M:=F.o.tL.cell 0;simp only[y_] at M;have aY:=U (IA n (p+1) p (w.heap.size+1) t u m (some ⟨tL,bn,none⟩) nq J ah kY.drew aX.o M F.o.uA (λ y q=>(f.o.2.2.2.2.1 y q).2));obtain⟨os,ai⟩:∃l,ah.filter (pX m)=l:=⟨_,rfl⟩
      rw[ai] at aY;have bw:=U (Q.o.2.2.2.more (j_ _ _).drew);have m5:=(Q.o.1.vW v).md;have aZ:=U ai;clear ai M dP aS aV bW bX dd de
      go_upto_region 20 with fail
      rename_i bY a6;have bZ:=U a6;clear a6;refine wp_region_noPanic ?_
      go_region_with (first
       |(go_at_call 84;refine aY.o.mono ?_;rintro e b0 ⟨b1,b2,rfl,a7,a8⟩;have H:=U (z_ a7 a8);clear a7 a8;have m6:=(aX.o.below H.o.2).md;have aj:=U (xh b0 B _ r (sp+ag) (bw.o.more H.o.2).blk rfl rfl 3 t (n+1) u b1 os.length b2 (.inr (.inr rfl)) r rfl))
       |(go_at_call 78;refine aj.o.mono ?_;rintro e eG ⟨rfl,ak⟩;have dT:=U (H.o.2.trans (ak.mono H.o.2.size));have b3:=U ak;clear ak;have D:=F.o.pH.below dT.o;have z:=D.cell;have z0:=z 0;have X:=z 1;have z2:=z 2;have z3:=z 3;have g:=D.free;have g0:=g 0;have g1:=g 1;have g2:=g 2;have g3:=g 3;simp only[y_,x_] at z0 X z2 z3;clear z g D))
      all_goals
       show bY _ _;apply bZ.o
       go_wp2_with fail
       have bx:os=ah.filter (λ x=> !(lB m x)):=by
        rw[<-aZ.o];exact e_ λ y q=>Cr (f.o.2.2.2.2.1 y q)
       have a':=IF F.o H.o.2 b3.o H.o.1 (by have ar:=p_ (pX m) ah;rw[aZ.o] at ar;omega) 3 r ⟨r_ _,.inr (.inr ⟨rfl,rfl,dS.o.2,.inr ⟨F.o.model,bx⟩⟩)⟩ rfl;exact AF rfl rfl rfl a'.1 a'.2
   ·have df:k=nq:=by omega
    have cJ:¬(k:Int)<(nq:Int):=by omega
    have F:=U (ao.more (j_ _ _).drew);have aX:=U (F.o.vW v);have M:=F.o.tL.cell 0;simp only[y_] at M;have aY:=U (IA n (p+1) p (w.heap.size+1) t u m R nq J ah wr.drew aX.o M F.o.uA (λ y q=>(f.o.2.2.2.2.1 y q).2));obtain⟨os,ai⟩:∃l,ah.filter (pX m)=l:=⟨_,rfl⟩
    rw[ai] at aY;obtain⟨dB,dC,dD,dE,dF,mI,d7,dG,dH,dI,dJ,dK,dL,sp,aJ,bs⟩:=F.o.k5;have bw:=U aJ;have m5:=af.md;have aZ:=U ai;have dU:=U df;clear aJ bs ai M af ao S cI df
    go_upto_region 24 with fail
    rename_i bY a6;have bZ:=U a6;clear a6;refine wp_region_noPanic ?_
    go_region_with (first
     |(go_at_call 84;refine aY.o.mono ?_;rintro e b0 ⟨b1,b2,rfl,a7,a8⟩;have H:=U (z_ a7 a8);clear a7 a8;have m6:=(aX.o.below H.o.2).md;have aj:=U (xh b0 B _ r sp (bw.o.more H.o.2).blk rfl rfl 1 t (n+1) u b1 os.length b2 (.inl rfl) sp rfl))
     |(go_at_call 78;refine aj.o.mono ?_;rintro e bT ⟨rfl,ak⟩;have br:=U (H.o.2.trans (ak.mono H.o.2.size));have b3:=U ak;clear ak;have D:=F.o.pH.below br.o;have z:=D.cell;have z0:=z 0;have X:=z 1;have z2:=z 2;have z3:=z 3;have g:=D.free;have g0:=g 0;have g1:=g 1;have g2:=g 2;have g3:=g 3;simp only[y_,x_] at z0 X z2 z3;clear z g D))
    all_goals
     show bY _ _;apply bZ.o
     go_wp2_with fail
     have bx:os=ah.filter (λ x=> !(lB m x)):=by
      rw[<-aZ.o];exact e_ λ y q=>Cr (f.o.2.2.2.2.1 y q)
     have dh:=qH.o.uz;rw[dU.o,<-cg] at dh;have a':=IF F.o H.o.2 b3.o H.o.1 (by have ar:=p_ (pX m) ah;rw[aZ.o] at ar;omega) 1 sp ⟨bw.o.mQ,.inl ⟨rfl,F.o.model,bx,λ y q=>by
      rw[bx] at q;have ar:=m_.1 q;exact dh.whole y ar.1 (by simpa using ar.2)⟩⟩ rfl
     exact AF rfl rfl rfl a'.1 a'.2
 ·have di:=U (Ep N O Y keep ab ad ae core T d.o.2.2.2.2.2.2.2.1 d.o.2.2.2.2.1);obtain⟨ba,bA⟩:∃l,rf keep core=l:=⟨_,rfl⟩
  rw[bA] at di;have dj:ba.Sublist keep:=bA▸D5 keep core;have dk:¬Can ls ba:=λ h=>cD (h.mono λ x K=>by rw[<-bA];exact Ca.2 ⟨cC.subset K,K⟩)
  have b4:=U (z_ dj dk);clear aA cC cD bA dj dk bj bk
  go_wp2_with (first
   |(go_at_call 79;refine di.o.mono ?_;rintro e cG ⟨bg,c3,rfl,dV,dm,dn⟩;have bB:=U (z_ dm dn);have aj:=U (xh cG B _ r P (d.o.1.more bB.o.2).blk rfl rfl 2 none 0 0 bg ba.length c3 (.inr (.inl rfl)) P rfl);clear dV dm dn)
   |(go_at_call 78;refine aj.o.mono ?_;rintro e aa ⟨rfl,al⟩;have au:=U (bB.o.2.trans (al.mono bB.o.2.size));have dW:=U al;have D:=d.o.2.1.below au.o;have z:=D.cell;have z0:=z 0;have X:=z 1;have z2:=z 2;have z3:=z 3;have g:=D.free;have g0:=g 0;have g1:=g 1;have g2:=g 2;have g3:=g 3;simp only[y_,x_] at z0 X z2 z3;clear z g D al))
  have dp:=mw bB.o.1 dW.o;refine AF rfl rfl rfl (((((d.o.2.1.below au.o).set 0 _).set 1 _).set 2 _).set 3 _) ⟨2,none,0,0,bg,ba.length,c3,P,[],ba,rfl,kE.xg _,?_,⟨d.o.1.mQ,.inr (.inl ⟨rfl,rfl,b4.o.1,b4.o.2⟩)⟩,x8 (d.o.2.2.1.trans (au.o.mono d.o.2.2.1.size)) (aG.uY _ _ _ _) (by omega)⟩;have eH:=b4.o.1.length_le;have bF:=d.o.2.1.lt;exact(aL.kW dp (by omega)).jr (aG.uY _ _ _ _) (λ b e v=>by have h1:=(dp.lt b ((ax.own ⟨bg,_,c3⟩).trans e)).1;omega)
 ·have aj:=U (xh T B _ r P d.o.1.blk rfl rfl 3 none 0 0 none 0 0 (.inr (.inr rfl)) r rfl);have bW:P=r:=by omega
  have bX:=d.o.1.nt;have aH:=U (show w9 ls n keep ah r 3 [] [] r from⟨r_ _,.inr (.inr ⟨rfl,rfl,by omega,.inl ⟨rfl,rfl⟩⟩)⟩);clear aA du bW bX bj bk
  go_wp2_with (go_at_call 78;refine aj.o.mono ?_;rintro e aa ⟨rfl,al⟩;have au:=U al;have D:=d.o.2.1.below al;have z:=D.cell;have z0:=z 0;have X:=z 1;have z2:=z 2;have z3:=z 3;have g:=D.free;have g0:=g 0;have g1:=g 1;have g2:=g 2;have g3:=g 3;simp only[y_,x_] at z0 X z2 z3;clear z g D al)
  exact AF rfl rfl rfl (((((d.o.2.1.below au.o).set 0 _).set 1 _).set 2 _).set 3 _) ⟨3,none,0,0,none,0,0,r,[],[],rfl,kE.xg _,aL.nil _ _ _ (s_ _),aH.o,x8 (d.o.2.2.1.trans (au.o.mono d.o.2.2.1.size)) (aG.uY _ _ _ _) (by omega)⟩
end
section
open Go.RowKit
def Cu(a:List Bool)(x:Int):Bool:=decide (1<=x.natAbs)&&decide (x.natAbs<a.length)&&(iE a x.natAbs==decide (0<x))
theorem PK(a:List Bool)(l:List Int):pV a l=l.all (Cu a):=rfl
theorem Ez(h:k<l.length)(e:p (je l k)=false):l.all p=false:=by
 rw[oN h] at e;rw[List.all_eq_false];exact⟨_,List.getElem_mem h,by simp[e]⟩
theorem IG(h:k<l.length)(e:p (je l k)=true)(b:(l.take k).all p=true):(l.take (k+1)).all p=true:=by
 rw[uZ l k h,List.all_append,b];simp[e]
theorem PL(hl:l.length=n)(h:¬k<n)(b:(l.take k).all p=true):l.all p=true:=by
 rw[List.take_of_length_le (by omega)] at b;exact b
theorem EA(A:Option Addr)(n c:Nat)(g:List Bool)(A':Option Addr)(j c':Nat)(l:List Int)(w:World)(h:kE w A n c g)(h':aL w A' j c' l)(hl:∀x∈l,gK 60000 x):
  Calls w_ 95 #[.slice A n c,.slice A' j c'] w λ e w'=>e=.returned (.bool (pV g l))/\Below w.heap.size w w':=by
 have X:=h'.small;have N:=h.len;have Y:=h.mu;have H:=U h;have O:=U h';have s:=U (z_ hl h'.len);rw[PK];clear h h' hl;go_enter Tryz.func95,Tryz.ntmps95
 go_wp2
 go_loopw [5] (λ i W=>∃k:Nat,k<=j/\i=.int .i64 k/\(l.take k).all (Cu g)=true/\Below w.heap.size w W) (λ i _=>j-(intOf i).toNat)
 case atStart=>exact⟨0,s_ _,rfl,rfl,j_ _ _⟩
 case round=>
  obtain⟨k,hk,rfl,B,C⟩:=hrel;have m:=U (z_ B C);clear B C
  by_cases p:k<j
  ·have P:(k:Int)<(j:Int):=by omega
   have t:k<l.length:=by rw[s.o.2];exact p
   obtain⟨b,off,rfl,Q,D⟩:=(O.o.below m.o.2).cells (by omega);have q:=D k p;obtain⟨x,r⟩:∃x,je l k=x:=⟨_,rfl⟩
   have E:gK 60000 x:=r▸s.o.1 _ (tN t);rw[r] at q;obtain⟨v,F⟩:∃v,x.natAbs=v:=⟨_,rfl⟩
   have R:1<=v/\v<=60000:=by
    have h1:1<=x.natAbs/\x.natAbs<=60000:=E;omega
   have Z:c_.wrap ((k:Int)+1)=(k:Int)+1:=by rw[g_];omega
   have aa:c_.wrap (-x)= -x:=by rw[g_];omega
   have ab:wrap64 (-x)= -x:=by unfold wrap64;omega
   have ad:max x (-x)=(v:Int):=by omega
   have d1:decide ((v:Int)<1)=false:=decide_eq_false (by omega);have ae:¬(v:Int)<1:=by omega
   have G:Cu g x=(decide (v<n)&&(iE g v==decide (0<x))):=by
    unfold Cu;rw[F,N,decide_eq_true R.1,Bool.true_and]
   have d:=U (z_ G (z_ t (z_ r p)));clear D Q E r t p hk F G
   go_upto_region 4 with fail
   go_quiet (fail)
   have I:=U (below_drewN wr nq);have f:=U (m.o.2.trans (I.o.mono m.o.2.size));have q:=(u_ (a:=⟨b,off+k,none⟩) (I.o.block b (x9 q))).trans q;generalize wr.drewN nq=w1 at*
   by_cases y:v<n
   ·obtain⟨af,ag,rfl,S,J⟩:=(H.o.below f.o).cells (by omega);have T:=J v y;have K:g.getD v false=iE g v:=rfl;rw[K] at T;rw[decide_eq_true y,Bool.true_and] at d;have z:¬(n:Int)<=(v:Int):=by omega
    have ah:(v:Int)<(n:Int):=by omega
    have d2:decide ((n:Int)<=(v:Int))=false:=decide_eq_false z;have d3:decide (n<=v)=false:=decide_eq_false (by omega);generalize iE g v=u at*;clear J S K
    by_cases L:0<x
    ·have d4:decide (0<x)=true:=decide_eq_true L;rw[d4] at d
     cases u with
     |false=>
      go_upto_region 5 with fail
      go_quiet (fail)
      go_wp2;go_ret;exact⟨mO (Ez d.o.2.1 (by rw[d.o.2.2.1,d.o.1];rfl)).symm,f.o.trans ((below_drewN w1 _).mono f.o.size)⟩
     |true=>
      go_upto_region 5 with fail
      go_quiet (fail)
      go_wp2;go_roundw
      case rel=>exact⟨k+1,by have:=d.o;omega,by go_num,IG d.o.2.1 (by rw[d.o.2.2.1,d.o.1];rfl) m.o.1,f.o.trans ((below_drewN w1 _).mono f.o.size)⟩
      case measure=>have:=d.o;simp[intOf];omega
    ·have d4:decide (0<x)=false:=decide_eq_false L;rw[d4] at d
     cases u with
     |true=>
      go_upto_region 5 with fail
      go_quiet (fail)
      go_wp2;go_ret;exact⟨mO (Ez d.o.2.1 (by rw[d.o.2.2.1,d.o.1];rfl)).symm,f.o.trans ((below_drewN w1 _).mono f.o.size)⟩
     |false=>
      go_upto_region 5 with fail
      go_quiet (fail)
      go_wp2;go_roundw
      case rel=>exact⟨k+1,by have:=d.o;omega,by go_num,IG d.o.2.1 (by rw[d.o.2.2.1,d.o.1];rfl) m.o.1,f.o.trans ((below_drewN w1 _).mono f.o.size)⟩
      case measure=>have:=d.o;simp[intOf];omega
   ·have z:(n:Int)<=(v:Int):=by omega
    have d2:decide ((n:Int)<=(v:Int))=true:=decide_eq_true z;have d3:decide (n<=v)=true:=decide_eq_true (by omega);rw[decide_eq_false y,Bool.false_and] at d
    go_upto_region 5 with fail
    go_quiet (fail)
    go_wp2;go_ret;exact⟨mO (Ez d.o.2.1 (by rw[d.o.2.2.1,d.o.1])).symm,f.o.trans ((below_drewN w1 _).mono f.o.size)⟩
  ·have P:¬(k:Int)<(j:Int):=by omega
   have M:=PL s.o.2 p m.o.1;have V:=U M;clear M;go_wp2;go_ret;exact⟨mO V.o.symm,m.o.2⟩
end
end Go.Proofs.YtogdlkfacflmaaaGreat
