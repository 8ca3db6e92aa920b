/- Parts of the walk of the solver and its core; no condition. -/
import Derived.Test.YtogdlkfacflmaaaGreatZY18
import Derived.Test.YtogdlkfacflmaaaGreatZY17
import Derived.Test.YtogdlkfacflmaaaGreatZY13
import Derived.Test.YtogdlkfacflmaaaGreatZY1
namespace Go.Proofs.YtogdlkfacflmaaaGreat
set_option linter.unusedVariables false
set_option linter.unusedSimpArgs false
set_option maxRecDepth 100000
set_option maxHeartbeats 8000000
open _root_.And renaming intro→z_
open _root_.List renaming getElem?_cons_zero→y_,getElem?_cons_succ→x_,length_filter_le→p_,mem_filter→m_,mem_append→l_,mem_map→k_,nodup_append→i_,mem_cons→h_,filter_congr→e_,map_append→d_,map_cons→b_
open _root_.Go.Proofs.Tryz renaming prog→w_
open _root_.Nat renaming lt_of_lt_of_le→v_,zero_le→s_,le_refl→r_,le_trans→q_,le_succ→o_,zero_add→a_
open _root_.Go.World renaming cell?_of_block→u_
open _root_.Go.Value renaming int→t_
open _root_.Go.Exit renaming noGoto_ret→n_
open _root_.Go.RowKit.Below renaming refl→j_
open _root_.Go.IntKind renaming wrap_i64→g_,i64→c_
open _root_.Array renaming getD_eq_getD_getElem?→f_
variable{aL:Ending->World->Prop}{a:Act}{W w w' W':World}{aZ n aW aJ B aS cl c c' gM bI sp b lZ jC bG gT nq bB k:Nat}{jL x:Int}{v0 v1 v2 v3:Value}{ah l keep:List Int}{aK bw jc A A' hM bA iu bx:Option Addr}{s:lp}{t:TypeId}{cs:List Value}{m:List Bool}{ls:List (List Int)}{p:Int->Bool}
section
open Go.RowKit Go.Shelf Go.Sort Go.Lib
def IM(w:World)(n:Nat)(ls:List (List Int))(ah:List Int)(k:Nat)(e:Ending)(W:World):Prop:=
 ∃(kind:Int)(b:Option Addr)(c d:Nat)(f:Option Addr)(g i:Nat)(j:Nat)(m:List Bool)(core:List Int),
  e=.returned (.tuple #[.agg #[.int .i64 kind,.slice b c d,.slice f g i,.int .i64 (j:Int)],.int .i64 0])/\kN W b c d m/\aP W f g i core/\si ls n ah k kind m core j/\Below w.heap.size w W
def IN(w:World)(n:Nat)(ls:List (List Int))(keep ah:List Int)(k:Nat)(e:Ending)(W:World):Prop:=
 ∃(kind:Int)(b:Option Addr)(c d:Nat)(f:Option Addr)(g i:Nat)(j:Nat)(m:List Bool)(core:List Int),
  e=.returned (.tuple #[.agg #[.int .i64 kind,.slice b c d,.slice f g i,.int .i64 (j:Int)],.int .i64 0])/\kN W b c d m/\aP W f g i core/\tX ls n keep ah k kind m core j/\Below w.heap.size w W
theorem AY(j:a.defers=[])(c:a.tmps.getD 6 undef=.pointer (some ⟨aZ,0,none⟩))(d:a.tmps.getD 7 undef=.int .i64 jL)
  (b:aR W aZ 30 [v0,v1,v2,v3]) (h:aL (.returned (.tuple #[.agg #[v0,v1,v2,v3],.int .i64 jL])) W):bodyPost w_ Tryz.f28 aL .ret a W:=by
 have e:=b.cell 0;have f:=b.cell 1;have g:=b.cell 2;have i:=b.cell 3;simp only[y_,x_] at e f g i;refine bodyPost_ret (v:=.tuple #[.agg #[v0,v1,v2,v3],.int .i64 jL]) ?_ j h;rw[f_] at c d;simp[results,Tryz.results28,go_sem,c,d,e,f,g,i]
theorem AZ(j:a.defers=[])(c:a.tmps.getD 8 undef=.pointer (some ⟨aZ,0,none⟩))(d:a.tmps.getD 9 undef=.int .i64 jL)
  (b:aR W aZ 30 [v0,v1,v2,v3]) (h:aL (.returned (.tuple #[.agg #[v0,v1,v2,v3],.int .i64 jL])) W):bodyPost w_ Tryz.f29 aL .ret a W:=by
 have e:=b.cell 0;have f:=b.cell 1;have g:=b.cell 2;have i:=b.cell 3;simp only[y_,x_] at e f g i;refine bodyPost_ret (v:=.tuple #[.agg #[v0,v1,v2,v3],.int .i64 jL]) ?_ j h;rw[f_] at c d;simp[results,Tryz.results29,go_sem,c,d,e,f,g,i]
structure PN(F:List (List Int))(n:Nat)(ah:List Int)(aW aB:Nat)(kind:Int)(m:List Bool)(core:List Int):Prop where
 k:(kind=1/\core=[]/\tW F n ah m)\/(kind=2/\m=[]/\core.Sublist ah/\¬Can F core)\/(kind=3/\m=[]/\core=[]/\aB=aW)
theorem kN.xL(w:World):kN w none 0 0 []:=⟨rfl,s_ _,by omega,s_ _,λ h=>absurd h (by omega)⟩
theorem og.plain{K:Nat->Prop}{F:List (List Int)}{aB:Nat}{kind:Int}{aU:Nat}{aX:Option Addr}{bM aM:Nat}(a:og K W F ah n aW aB kind aK aU aJ aX bM aM):
  ∃(m:List Bool)(core:List Int),kN W aK aU aJ m/\aP W aX bM aM core/\PN F n ah aW aB kind m core:=by
 rcases a with⟨h1,e,m,f,g,i,j,k,l⟩|⟨h1,e,co,f,g,i,j⟩|⟨h1,e,f,g⟩
 ·injection e with b c d
  subst b c d;exact⟨m,[],f,aP.nil _ _ _ (s_ _),⟨.inl ⟨h1,rfl,i,j,k,l⟩⟩⟩
 ·injection e with b c d
  subst b c d;exact⟨[],co,kN.xL _,f,⟨.inr (.inl ⟨h1,rfl,i,λ⟨M,k,l⟩=>j M k l⟩)⟩⟩
 ·injection e with b c d
  subst b c d;injection f with b c d
  subst b c d;exact⟨[],[],kN.xL _,aP.nil _ _ _ (s_ _),⟨.inr (.inr ⟨h1,rfl,rfl,g⟩)⟩⟩
theorem CJ(g:w.grownBy w' (some B)):aG (λ b=>b<w.heap.size/\b≠B) w w':=
 ⟨g.os,g.tape,g.output,g.size,λ b c=>g.block b c.1 (λ e=>c.2 (by injection e))⟩
theorem rV.more{bg:Nat->Prop}(d:rV bg w B n s bw aS jc cl A c A' c' hM gM bA bI aW sp)(e:Below w.heap.size w w'):rV bg w' B n s bw aS jc cl A c A' c' hM gM bA bI aW sp:=
 ⟨d.blk.below e,d.jS,λ b h=>v_ (d.dl b h) e.size,λ W' f=>d.CG W' ((aG.rf e λ b e=>e.1).trans (f.mono λ b h=>⟨v_ h.1 e.size,h.2⟩)),d.ok,d.n10,d.mW,d.ov,d.bL,d.pl,d.el,d.uM,d.pa⟩
theorem rV.nA{bg:Nat->Prop}{w:World}{B n:Nat}{s:lp}{bw:Option Addr}{aS:Nat}{jc:Option Addr}{cl:Nat}{A:Option Addr}{c:Nat}{A':Option Addr}{c':Nat}{hM:Option Addr}{gM:Nat}{bA:Option Addr}{bI aW sp:Nat}(b:rV bg w B n s bw aS jc cl A c A' c' hM gM bA bI aW sp):sp<=59048:=by
 have h1:=b.ok.nA;have d:=zv b.n10;have e:=b.el;omega
theorem kN.IP(h:kN W A n c m)(f:0<n)(i:aR W b t cs)(j:∀u∈cs,∀x:Bool,u≠ .bool x):∀d,A.map (·.block)=some d->d≠b:=by
 intro d e k;subst k;obtain⟨l,off,o,_,p⟩:=h.cells f;rw[o] at e;injection e with e
 have e:l=d:=e;subst e;have g:=p 0 f;rw[i.cell] at g;exact j _ (List.mem_of_getElem? g) _ rfl
theorem kN.EK(h:kN W A n c m)(i:aR W b t cs)(j:∀u∈cs,∀x:Bool,u≠ .bool x)(f:aG (λ d=>d≠b) W W'):kN W' A n c m:=by
 rcases Nat.eq_zero_or_pos n with g|g
 ·subst g;exact⟨h.len,h.cap,h.mG,h.n9,λ k=>absurd k (by omega)⟩
 ·exact h.jB f (λ d e=>h.IP g i j d e)
theorem aG.vl(v0 v1 v2 v3:Value):aG (λ b=>b≠B) W ((((W.setCell ⟨B,0,none⟩ v0).setCell ⟨B,1,none⟩ v1).setCell ⟨B,2,none⟩ v2).setCell ⟨B,3,none⟩ v3):=by
 have c:∀(u:World)(i:Nat)(v:Value),aG (λ b=>b≠B) u (u.setCell ⟨B,i,none⟩ v):=λ u i v=>aG.set _ i v (λ h=>h rfl)
 exact(((c W 0 v0).trans (c _ 1 v1)).trans (c _ 2 v2)).trans (c _ 3 v3)
theorem yB{de:Nat}(h:Below de w W)(f:aG (λ b=>b≠B) W W')(d:de<=B):Below de w W':=
 ⟨f.os.trans h.os,f.tape.trans h.tape,f.output.trans h.output,q_ h.size f.size,λ b c=>(f.keep b (by omega)).trans (h.block b c)⟩
def EL:Value->Nat
 | .slice _ n _=>n
 |_=>0
def z24(x:Int)(A:Option Addr)(nl cl:Nat):Obj:=.cells #[.int .i64 x,.slice A nl cl] 24
theorem IQ(w:World)(x:Int)(A:Option Addr)(nl cl:Nat)(b:Option Addr)(nq c:Nat)(ah:List Int)(i:aP w b nq c ah):
  ∃W:World,W=((w.alloc (.cells #[.int .i64 x,.slice A nl cl] 24)).alloc (.cells #[.int .i64 0,.slice none 0 0,.slice none 0 0,.int .i64 0] 30)).alloc (.cells #[.slice b nq c] 25)/\Below w.heap.size w W/\aR W (w.heap.size+1) 30 [.int .i64 0,.slice none 0 0,.slice none 0 0,.int .i64 0]/\kE W (some ⟨w.heap.size+1+1,0,none⟩) 1 1 [ah]/\W.heap.size=w.heap.size+3:=by
 have e:=bC w (.cells #[.int .i64 x,.slice A nl cl] 24);have z0:(w.alloc (.cells #[.int .i64 x,.slice A nl cl] 24)).heap.size=w.heap.size+1:=by simp
 generalize w.alloc (.cells #[.int .i64 x,.slice A nl cl] 24)=w1 at*;have h1:=bC w1 (.cells #[.int .i64 0,.slice none 0 0,.slice none 0 0,.int .i64 0] 30);have j:aR (w1.alloc (.cells #[.int .i64 0,.slice none 0 0,.slice none 0 0,.int .i64 0] 30)) w1.heap.size 30 [.int .i64 0,.slice none 0 0,.slice none 0 0,.int .i64 0]:=aR.new w1 30 _;have k:(w1.alloc (.cells #[.int .i64 0,.slice none 0 0,.slice none 0 0,.int .i64 0] 30)).heap.size=w1.heap.size+1:=by simp
 generalize w1.alloc (.cells #[.int .i64 0,.slice none 0 0,.slice none 0 0,.int .i64 0] 30)=d at*;have f:=bC d (.cells #[.slice b nq c] 25);have g:=(oy.CD d ⟨b,nq,c,ah⟩ ((i.below e).below (h1.mono (r_ _)))).CZ;have z2:(d.alloc (.cells #[.slice b nq c] 25)).heap.size=d.heap.size+1:=by simp
 refine⟨_,rfl,e.trans ((h1.trans (f.mono h1.size)).mono e.size),?_,?_,by omega⟩
 ·have:=j.below f;rw[z0] at this;exact this
 ·rw[k,z0] at g;exact g
theorem A0(x:Int)(A:Option Addr)(nl cl:Nat)(ls:List (List Int))(d:Option Addr)(nq f:Nat)(ah:List Int)(i:Int)(w:World)(h:kE w A nl cl ls)(n:aP w d nq f ah)(hw:mq ah)(hlen:ah.length<=1000)(b:Int)(he:kU x ls ah i=b)(j:b≠0):
  Calls w_ 28 #[.agg #[.int .i64 x,.slice A nl cl],.slice d nq f,.int .i64 i] w λ e w'=>e=.returned (.tuple #[.agg #[.int .i64 0,.slice none 0 0,.slice none 0 0,.int .i64 0],.int .i64 b])/\Below w.heap.size w w':=by
 obtain⟨W,r,k,p,q,s⟩:=IQ w x A nl cl d nq f ah n;have c:[ah].flatten=ah:=by simp
 have t:=U (IJ x A nl cl ls i _ 1 1 [ah] W (h.below k) q (by rw[c];exact hw) (by rw[c];omega) b (by rw[c];exact he) j);have l:=U (z_ k p);have v:(b==0)=false:=by simpa using j
 clear h n hw hlen he j k p q s c;subst r;go_enter Tryz.func28,Tryz.ntmps28
 go_wp2_with fail
 go_step3
 go_upto_region 3 with(go_at_call 76;refine t.o.mono ?_;rintro e w1 ⟨rfl,m⟩;have H1:=U (z_ m (l.o.2.below m));clear m;have z:=H1.o.2.cell;have z0:=z 0;have u:=z 1;have z2:=z 2;have z3:=z 3;have g:=H1.o.2.free;have g0:=g 0;have g1:=g 1;have g2:=g 2;have g3:=g 3;simp only[y_,x_] at z0 u z2 z3;clear z g)
 go_wp2_with fail
 rw[n_];exact AY rfl rfl rfl ((((H1.o.2.set 0 _).set 1 _).set 2 _).set 3 _) ⟨rfl,((((l.o.1.trans (H1.o.1.mono l.o.1.size)).setCell (o_ _) _).setCell (o_ _) _).setCell (o_ _) _).setCell (o_ _) _⟩
theorem PO{base:Nat}{xs:List Value}(h:w.ownsRow base 3 1 (.slice A n c) n xs)(d:0<n):∃g,A=some ⟨g,0,none⟩/\base<=g:=by
 rcases h.2 with⟨h1,b⟩|⟨g,cap,cur,h1,b,_⟩
 ·omega
 ·injection h1 with h1
  exact⟨g,h1,b⟩
theorem PR(h:(l.map aD).Nodup):l.Nodup:=by
 have h:=List.pairwise_map.1 h;exact h.imp λ b e=>b (by rw[e])
structure EM(w:World)(B n:Nat)(ls:List (List Int))(ah:List Int)(aW base k:Nat)(j8:Option Addr)(c3:Nat)(left:List Int)(W:World):Prop where
 k9:∃(s:lp)(bw:Option Addr)(aS:Nat)(jc:Option Addr)(cl:Nat)(A:Option Addr)(c:Nat)(A':Option Addr)(c':Nat)(hM:Option Addr)(gM:Nat)(bA:Option Addr)(bI sp:Nat),rV (λ b=>b=B) W B n s bw aS jc cl A c A' c' hM gM bA bI aW sp/\s.gs=ls
 pM:aR W (w.heap.size+1) 30 [.int .i64 0,.slice none 0 0,.slice none 0 0,.int .i64 0]
 own:W.ownsRow base 3 1 (.slice j8 left.length c3) left.length (left.map (t_ .i64))
 gX:base<=W.heap.size
 oF:B<base
 jU:w.heap.size+1<B
 kl:k<=left.length
 sub:left.Sublist ah
 un:¬Can ls left
 A1:∀j,j<k->Can ls (left.eraseIdx j)
 qW:Below w.heap.size w W
theorem xM(w:World)(B:Nat)(L:List Value)(b sp:Nat)(k:aR w B 155 L)(l:L[8]? =some (.int .i64 b))(m:L[9]? =some (.int .i64 sp))(kind:Int)(c:Option Addr)(d f:Nat)(g:Option Addr)(i j:Nat)(hk:kind=1\/kind=2\/kind=3)(r:Nat)(n:(if kind=3 then b else sp:Nat)=r):
  Calls w_ 78 #[.pointer (some ⟨B,0,none⟩),.int .i64 kind,.slice c d f,.slice g i j] w λ e w'=>e=.returned (.tuple #[.agg #[.int .i64 kind,.slice c d f,.slice g i j,.int .i64 (r:Int)],.int .i64 0])/\Below w.heap.size w w':=by
 rw[<-n];exact Pw w B L b sp k l m kind c d f g i j hk
theorem PS(n:Nat)(au:n<=10)(A:Option Addr)(nl cl:Nat)(ls:List (List Int))(av:Option Addr)(nq aw:Nat)(ah:List Int)(f:Nat)(w:World)(h:kE w A nl cl ls)(M:aP w av nq aw ah)(hw:mq ah)(hlen:ah.length<=1000)(bu:ls.length<=40000)(he:kU n ls ah f=0):
  Calls w_ 28 #[.agg #[.int .i64 n,.slice A nl cl],.slice av nq aw,.int .i64 f] w (IM w n ls ah f):=by
 obtain⟨W,ch,ab,bw,bx,bz⟩:=IQ w n A nl cl av nq aw ah M;have aL:[ah].flatten=ah:=by simp
 have bA:=U (IK n au A nl cl ls f _ 1 1 [ah] W (h.below ab) bx (by rw[aL];exact hw) (by rw[aL];omega) bu (by rw[aL];exact he));obtain⟨cj,hm,ck,aM⟩:=vg he;obtain⟨af,bB⟩:=wD hm;have K:=U (z_ ab (z_ bw (z_ bz (z_ af (z_ bB (z_ hlen (z_ (M.below ab) M.len)))))));clear h M hw hlen he ab bw bx bz aL cj hm ck aM af bB bu;subst ch;go_enter Tryz.func28,Tryz.ntmps28
 go_wp2_with fail
 go_step3
 go_upto_region 4 with(go_at_call 76;refine bA.o.mono ?_;rintro e w1 ⟨B,s,cm,cn,cp,cl,A,c,A',c',cq,cr,ct,cu,rfl,Y,ag,bD,aM⟩;have H1:=U (z_ Y (z_ ag (z_ bD aM)));clear Y ag bD aM)
 have cv:=K.o.2.2.2.2.2.2.2;have cw:=K.o.2.2.2.2.2.1;have ax:=U (CI H1.o.1 (K.o.2.2.2.2.2.2.1.below H1.o.2.2.2) K.o.2.2.2.1 K.o.2.2.2.2.1 (by omega));clear cv cw
 go_upto_region 5 with(go_at_call 77;refine ax.o.mono ?_;rintro e Z ⟨s2,c9,c1,da,c2,v,c3,db,dc,bG,bH,y,kind,E,G,H,N,O,P,rfl,bI,bJ,bK,bL,bM⟩;have ai:=U (z_ bI (z_ bJ (z_ bK (z_ bL bM))));clear bI bJ bK bL bM)
 obtain⟨m,core,hm,az,Q⟩:=ai.o.2.2.2.1.plain;rw[H1.o.2.1] at Q;have aV:=ai.o.1;rw[a_] at aV;have g2:=CJ ai.o.2.2.2.2;have bN:w.heap.size+1<B:=by have:=H1.o.2.2.1;have:=K.o.2.2.1;omega
 have bO:=g2.blk (K.o.2.1.below H1.o.2.2.2) ⟨(K.o.2.1.below H1.o.2.2.2).lt,by omega⟩;have aW:=K.o.1.trans (H1.o.2.2.2.mono K.o.1.size);have aX:Below w.heap.size w Z:=tn aW ai.o.2.2.2.2 aW.size (λ g e=>by injection e with e;omega);have bP:=ai.o.2.1.trans H1.o.2.1;have cx:=g2.size;have cy:=H1.o.1.blk.lt;have aY:=K.o.2.2.2.2.2.2.1;have bQ:aP Z av nq aw ah:=(aY.below H1.o.2.2.2).jB g2 (λ b e au=>by
  have h1:=aY.lt b e au;have bR:=H1.o.2.2.2.size;have bS:=H1.o.2.2.1;exact⟨by omega,by omega⟩)
 have C:=bC Z (.cells #[.int .i64 kind,.slice E G H,.slice N O P,.int .i64 (y:Int)] 30);have aA:aR (Z.alloc (.cells #[.int .i64 kind,.slice E G H,.slice N O P,.int .i64 (y:Int)] 30)) Z.heap.size 30 [.int .i64 kind,.slice E G H,.slice N O P,.int .i64 (y:Int)]:=aR.new Z 30 _;have p:=U (z_ (aV.more C) (z_ (bO.below C) (z_ (aX.trans (C.mono aX.size)) (z_ (hm.below C) (z_ (az.below C) (z_ (bQ.below C) (z_ aA (z_ Q (z_ bP bN)))))))));clear bA ax hm az aV g2 bO aW aX cx cy bQ aY bP H1 ai;generalize Z.heap.size=bn at*;generalize Z.alloc (.cells #[.int .i64 kind,.slice E G H,.slice N O P,.int .i64 (y:Int)] 30)=aj at*;have a:=p.o.2.2.2.2.2.2.1.cell;have a0:=a 0;have a1:=a 1;have a2:=a 2;have a3:=a 3;simp only[y_,x_] at a0 a1 a2 a3;clear a aA C bN;have fin:∀(k:Int)(r:Nat),bF (∀V,Below aj.heap.size aj V->si ls n ah f k m [] r->IM w n ls ah f (.returned (.tuple #[.agg #[.int .i64 k,.slice E G H,.slice none 0 0,.int .i64 (r:Int)],.int .i64 0])) ((((V.setCell ⟨w.heap.size+1,0,none⟩ (.int .i64 k)).setCell ⟨w.heap.size+1,1,none⟩ (.slice E G H)).setCell ⟨w.heap.size+1,2,none⟩ (.slice none 0 0)).setCell ⟨w.heap.size+1,3,none⟩ (.int .i64 (r:Int)))):=λ k r=>U λ V L cz=>by
  refine⟨k,E,G,H,none,0,0,r,m,[],rfl,?_,aP.nil _ _ _ (s_ _),cz,yB (p.o.2.2.1.trans (L.mono p.o.2.2.1.size)) (aG.vl _ _ _ _) (o_ _)⟩;exact(p.o.2.2.2.1.below L).EK (p.o.2.1.below L) (λ u hu x e=>by subst e;simp at hu) (aG.vl _ _ _ _)
 rcases Q.k with⟨rfl,rfl,aB⟩|⟨rfl,rfl,aC,aE⟩|⟨rfl,rfl,rfl,aZ⟩
 ·have a6:=U aB;have S:=U (xM aj B _ f y p.o.1.blk rfl rfl 1 E G H none 0 0 (.inl rfl) y rfl);have a7:=fin 1 y;clear aB Q fin
  go_wp2_with (go_at_call 78;refine S.o.mono ?_;rintro e V ⟨rfl,L⟩;have aa:=U L;have I:=p.o.2.1.below L;have z:=I.cell;have z0:=z 0;have ad:=z 1;have z2:=z 2;have z3:=z 3;have g:=I.free;have g0:=g 0;have g1:=g 1;have g2:=g 2;have g3:=g 3;simp only[y_,x_] at z0 ad z2 z3;clear z g I L)
  rw[n_];exact AY rfl rfl rfl (((((p.o.2.1.below aa.o).set 0 _).set 1 _).set 2 _).set 3 _) (a7.o V aa.o ⟨p.o.1.mW,.inl ⟨rfl,rfl,a6.o⟩⟩)
 ·have ae:=U (EE av nq aw ah N O P core aj p.o.2.2.2.2.2.1 p.o.2.2.2.2.1);obtain⟨aN,aO⟩:∃l,ry ah core=l:=⟨_,rfl⟩
  rw[aO] at ae;have bT:aN.Sublist ah:=aO▸Ek ah core;have bU:¬Can ls aN:=λ h=>aE (h.mono λ x ak=>by rw[<-aO];exact Cw.2 ⟨aC.subset ak,ak⟩)
  have a8:=U (z_ bT bU);clear Q fin aC aE aO bT bU
  go_upto_region 8 with(go_at_call 79;refine ae.o.mono ?_;rintro e cA ⟨v,c3,rfl,cB,bV,bW⟩;have al:=U (z_ bV bW);clear cB bV bW)
  obtain⟨base,aQ⟩:∃b,aj.heap.size=b:=⟨_,rfl⟩
  have cC:bF (EM w B n ls ah f base 0 v c3 aN cA):=U (by
   refine⟨⟨_,_,_,_,_,_,_,_,_,_,_,_,_,_,p.o.1.more al.o.2,p.o.2.2.2.2.2.2.2.2.1⟩,p.o.2.1.below al.o.2,aQ▸al.o.1,aQ▸al.o.2.size,aQ▸p.o.1.blk.lt,p.o.2.2.2.2.2.2.2.2.2,s_ _,a8.o.1,a8.o.2,λ j a'=>absurd a' (by omega),p.o.2.2.1.trans (al.o.2.mono p.o.2.2.1.size)⟩)
  clear p al a8 aQ a0 a1 a2 a3 ae
  go_wp2_with fail
  apply wp_label
  go_wp2_with fail
  go_loopw [12,11] (λ i l W=>∃(k:Nat)(v:Option Addr)(c3:Nat)(left:List Int),i=.int .i64 k/\l=.slice v left.length c3/\EM w B n ls ah f base k v c3 left W) (λ i l _=>2*EL l-(intOf i).toNat)
  case atStart=>exact⟨0,v,c3,aN,rfl,rfl,cC.o⟩
  case round=>
   obtain⟨k,v,c3,left,rfl,rfl,R⟩:=hrel;have t:=U R;have aS:left.length<=1000:=q_ R.sub.length_le K.o.2.2.2.2.2.1;have ba:=R.kl;obtain⟨s,cm,cn,cp,cl,A,c,A',c',cq,cr,ct,cu,sp,Y,ag⟩:=R.k9;have aF:=U (z_ Y ag);have bb:∀x∈left,gP n x:=sub_lt R.sub K.o.2.2.2.1;have bc:(left.map aD).Nodup:=(R.sub.map aD).nodup K.o.2.2.2.2.1;have bd:=aP.kZ R.own (by omega);obtain⟨q,M⟩:∃q,left.length=q:=⟨_,rfl⟩
   by_cases af:k<q
   ·have cD:(k:Int)<(q:Int):=by omega
    have dd:c_.wrap ((k:Int)+1)=(k:Int)+1:=by rw[g_];omega
    have de:wrap64 ((k:Int)+1)=(k:Int)+1:=by unfold wrap64;omega
    have bf:=U (vD v left.length c3 left wr bd);have d:=U (z_ M (z_ af (z_ bb (z_ bc (z_ aS ba)))));rw[M] at bf⊢;clear R Y ag bb bc bd M af ba aS
    go_upto_region 11 with(first
     |(go_at_call 81;refine bf.o.mono ?_;rintro e V ⟨bG,bH,rfl,bg,L⟩;rw[d.o.1];obtain⟨g5,cE,bX⟩:∃g,bG=some ⟨g,0,none⟩/\wr.heap.size<=g:=PO bg (by have:=d.o;omega);subst cE;have bh:=PI V wr.heap.size g5 left.length bH left bg bX k (by have:=d.o;omega);rw[d.o.1] at bh;have bY:=U bh;have aa:=U L;clear bh bg L bX)
     |(go_at_call 80;refine bY.o.mono ?_;rintro e cF ⟨rfl,bZ,bj⟩;have ax:=U (CI (aF.o.1.more (aa.o.trans bj)) (aP.kZ bZ (by have:=d.o;omega)) (λ x ak=>d.o.2.2.1 x (List.mem_of_mem_eraseIdx ak)) (((List.eraseIdx_sublist left k).map aD).nodup d.o.2.2.2.1) (by have:=d.o;omega));have an:=U (aa.o.trans bj);clear bZ bj)
     |(go_at_call 77;refine ax.o.mono ?_;rintro e X ⟨df,dh,d1,di,d2,dj,d3,dk,d4,nP,d5,y,kind,E,G,H,N,O,P,rfl,b0,aH,aI,b1,b2⟩;have ao:=U (z_ b0 (z_ aH (z_ aI (z_ b1 b2))));clear b0 aH aI b1 b2))
    obtain⟨m,core,hm,az,Q⟩:=ao.o.2.2.2.1.plain;rw[aF.o.2] at Q;have aH:=ao.o.2.1.trans aF.o.2;have g7:=CJ ao.o.2.2.2.2;have b3:=t.o.oF;have b4:=t.o.jU;have cG:=(aF.o.1.more an.o).blk.lt;have b5:=g7.blk (t.o.pM.below an.o) ⟨(t.o.pM.below an.o).lt,by omega⟩;have aT:=mh t.o.own an.o;have b6:X.ownsRow base 3 1 (.slice v left.length c3) left.length (left.map (t_ .i64)):=o6 aT (λ b ab=>g7.keep b ⟨(aT.lt b ab).2,by have:=(aT.lt b ab).1;omega⟩);have b7:=an.o.size;have aI:=g7.size;have b8:=t.o.gX;have bk:=t.o.qW;have bl:Below w.heap.size w cF:=bk.trans (an.o.mono bk.size);have bo:Below w.heap.size w X:=tn bl ao.o.2.2.2.2 bl.size (λ g e=>by injection e with e;omega);have C:=bC X (.cells #[.int .i64 kind,.slice E G H,.slice N O P,.int .i64 (y:Int)] 30);have aA:aR (X.alloc (.cells #[.int .i64 kind,.slice E G H,.slice N O P,.int .i64 (y:Int)] 30)) X.heap.size 30 [.int .i64 kind,.slice E G H,.slice N O P,.int .i64 (y:Int)]:=aR.new X 30 _;have b9:∀aU,aU<=left.length->(∀j,j<aU->Can ls (left.eraseIdx j))->EM w B n ls ah f base aU v c3 left (X.alloc (.cells #[.int .i64 kind,.slice E G H,.slice N O P,.int .i64 (y:Int)] 30)):=λ aU cH cI=>
     ⟨⟨_,_,_,_,_,_,_,_,_,_,_,_,_,_,ao.o.1.more C,aH⟩,b5.below C,mh b6 C,q_ (q_ b8 b7) (q_ aI C.size),b3,b4,cH,t.o.sub,t.o.un,cI,bo.trans (C.mono bo.size)⟩
    have aq:=U (z_ b9 (z_ (az.below C) (ao.o.1.more C)));have cJ:=U aA;clear hm az g7 b5 aT b6 bl bo C b9 aA b7 aI b8 bk b3 cG b4 aH bf bY ax;generalize X.heap.size=lF at*;generalize X.alloc (.cells #[.int .i64 kind,.slice E G H,.slice N O P,.int .i64 (y:Int)] 30)=b' at*;have a:=cJ.o.cell;have a0:=a 0;have a1:=a 1;have a2:=a 2;have a3:=a 3;simp only[y_,x_] at a0 a1 a2 a3;clear a;rcases Q.k with⟨rfl,rfl,aB⟩|⟨rfl,rfl,aC,aE⟩|⟨rfl,rfl,rfl,aZ⟩
    ·have a6:=U (aq.o.1 (k+1) (by have:=d.o;omega) (λ j a'=>by
      rcases Nat.lt_or_ge j k with h1|h1
      ·exact t.o.A1 j h1
      ·obtain rfl:j=k:=by omega
       exact aB.can))
     clear aB Q
     go_wp2_with fail
     go_roundw
     case rel=>exact⟨k+1,v,c3,left,by go_num,by rw[d.o.1],a6.o⟩
     case measure=>have:=d.o.2.1;simp[intOf,EL];omega
    ·have ar:=aq.o.1 k (by have:=d.o;omega) t.o.A1;have ae:=EE v left.length c3 left N O P core b' (aP.kZ ar.own (by have:=d.o;omega)) aq.o.2.1;rw[d.o.1] at ae;have ca:=U ae;have bp:=U (NX (F:=ls) (left:=left) (core:=core) (i:=k) (PR d.o.2.2.2.1) (by have:=d.o;omega) (λ x ak=>aC.subset ak) aE t.o.A1);have D:=U ar;obtain⟨cc,bq⟩:∃l,ry left core=l:=⟨_,rfl⟩
     have cd:cc.Sublist left:=bq▸Ek left core;rw[bq] at ca bp;have cK:=U cd;clear aC aE Q ae ar bq cd
     go_wp2_with (go_at_call 79;refine ca.o.mono ?_;rintro e bE ⟨cL,cM,rfl,cN,cf,J⟩;have T:=U (z_ cf J);clear cN cf J)
     go_roundw
     case rel=>
      obtain⟨cO,dm,cP,cQ⟩:=bp.o;obtain⟨cR,cS,cT,cU,cV,a9,cW,cX,cY,cZ,c0,c4,c5,c6,c7,c8⟩:=D.o.k9;have J:=T.o.2;have cg:=D.o.gX;exact⟨k,cL,cM,cc,rfl,rfl,⟨⟨cR,cS,cT,cU,cV,a9,cW,cX,cY,cZ,c0,c4,c5,c6,c7.more J,c8⟩,D.o.pM.below J,ED T.o.1 cg,q_ cg J.size,D.o.oF,D.o.jU,cP,cK.o.trans D.o.sub,cO,cQ,D.o.qW.trans (J.mono D.o.qW.size)⟩⟩
     case measure=>have:=bp.o;have:=d.o;simp[intOf,EL];omega
    ·have ar:=aq.o.1 k (by have:=d.o;omega) t.o.A1;have br:=aF.o.1.mW;have bs:=aq.o.2.2.nA;have S:=xM b' B _ f (sp+y) aq.o.2.2.blk rfl rfl 3 none 0 0 v left.length c3 (.inr (.inr rfl)) f rfl;rw[d.o.1] at S;have bt:=U S;have aJ:=U (show si ls n ah f 3 [] left f from⟨r_ _,.inr (.inr ⟨rfl,rfl,rfl,by omega,t.o.sub,.inr t.o.un⟩)⟩);have D:=U ar;clear aZ Q ar br bs S
     go_wp2_with (go_at_call 78;refine bt.o.mono ?_;rintro e bE ⟨rfl,J⟩;have T:=U J;have I:=D.o.pM.below J;have z:=I.cell;have z0:=z 0;have ad:=z 1;have z2:=z 2;have z3:=z 3;have g:=I.free;have g0:=g 0;have g1:=g 1;have g2:=g 2;have g3:=g 3;simp only[y_,x_] at z0 ad z2 z3;clear z g I J)
     first|rw[n_]|skip
     refine AY rfl rfl rfl (((((D.o.pM.below T.o).set 0 _).set 1 _).set 2 _).set 3 _) ⟨3,none,0,0,v,left.length,c3,f,[],left,by rw[d.o.1],kN.xL _,?_,aJ.o,yB (D.o.qW.trans (T.o.mono D.o.qW.size)) (aG.vl _ _ _ _) (o_ _)⟩;have aK:=mh D.o.own T.o;exact(aP.kZ aK (by have:=d.o;omega)).jB (aG.vl _ _ _ _) (λ b e au=>by have h1:=(aK.lt b ((ay.own ⟨v,_,c3⟩).trans e)).1;have bR:=D.o.oF;have bS:=D.o.jU;omega)
   ·have cD:¬(k:Int)<(q:Int):=by omega
    have S:=xM wr B _ f sp Y.blk rfl rfl 2 none 0 0 v left.length c3 (.inr (.inl rfl)) sp rfl;rw[M] at S;have bt:=U S;have aJ:=U (show si ls n ah f 2 [] left sp from⟨Y.mW,.inr (.inl ⟨rfl,rfl,R.sub,R.un,λ j a'=>R.A1 j (by omega)⟩)⟩);have d:=U (z_ M aS);rw[M];clear R Y ag bb bc bd M af ba aS S
    go_wp2_with (go_at_call 78;refine bt.o.mono ?_;rintro e bE ⟨rfl,J⟩;have T:=U J;have I:=t.o.pM.below J;have z:=I.cell;have z0:=z 0;have ad:=z 1;have z2:=z 2;have z3:=z 3;have g:=I.free;have g0:=g 0;have g1:=g 1;have g2:=g 2;have g3:=g 3;simp only[y_,x_] at z0 ad z2 z3;clear z g I J)
    first|rw[n_]|skip
    refine AY rfl rfl rfl (((((t.o.pM.below T.o).set 0 _).set 1 _).set 2 _).set 3 _) ⟨2,none,0,0,v,left.length,c3,sp,[],left,by rw[d.o.1],kN.xL _,?_,aJ.o,yB (t.o.qW.trans (T.o.mono t.o.qW.size)) (aG.vl _ _ _ _) (o_ _)⟩;have aK:=mh t.o.own T.o;exact(aP.kZ aK (by have:=d.o;omega)).jB (aG.vl _ _ _ _) (λ b e au=>by have h1:=(aK.lt b ((ay.own ⟨v,_,c3⟩).trans e)).1;have bR:=t.o.oF;have bS:=t.o.jU;omega)
 ·have S:=U (xM aj B _ f y p.o.1.blk rfl rfl 3 E G H none 0 0 (.inr (.inr rfl)) f rfl);have a7:=fin 3 f;have br:y=f:=by omega
  have bs:=p.o.1.nA;have aJ:=U (show si ls n ah f 3 [] [] f from⟨r_ _,.inr (.inr ⟨rfl,rfl,rfl,by omega,List.nil_sublist _,.inl rfl⟩)⟩);clear Q fin aZ br bs
  go_wp2_with (go_at_call 78;refine S.o.mono ?_;rintro e V ⟨rfl,L⟩;have aa:=U L;have I:=p.o.2.1.below L;have z:=I.cell;have z0:=z 0;have ad:=z 1;have z2:=z 2;have z3:=z 3;have g:=I.free;have g0:=g 0;have g1:=g 1;have g2:=g 2;have g3:=g 3;simp only[y_,x_] at z0 ad z2 z3;clear z g I L)
  rw[n_];exact AY rfl rfl rfl (((((p.o.2.1.below aa.o).set 0 _).set 1 _).set 2 _).set 3 _) (a7.o V aa.o aJ.o)
def p6(m:List Bool)(x:Int):Bool:=iY m x.natAbs !=decide (0<x)
theorem CK(b:gP n x):p6 m x= !(kr m x):=by
 have c:=b.oM;unfold p6 kr
 by_cases h:x<0
 ·rw[if_pos h,decide_eq_false (show¬0<x by omega)]
  cases iY m x.natAbs<;>rfl
 ·rw[if_neg h,decide_eq_true (show 0<x by omega)]
  cases iY m x.natAbs<;>rfl
theorem PT:∀args w,(callFunc 82 args).run w_ w=.ok (.enter 82 args) w:=enters_of Tryz.func82 (by kernel_rfl) rfl
theorem PU:∀args w,(callFunc 86 args).run w_ w=.ok (.enter 86 args) w:=enters_of Tryz.func86 (by kernel_rfl) rfl
theorem EN(n:Nat)(s:n<=60000)(x:Int)(r:x.natAbs<=n)(f:Nat)(g:Option Addr)(i:Nat)(m:List Bool)(W:World)(t:W.cell? ⟨f,1,none⟩=some (.slice g (n+1) i))(hm:kN W g (n+1) i m):
  Calls w_ 82 #[.int .i64 x,.pointer (some ⟨f,0,none⟩)] W λ e w'=>e=.returned (.bool (p6 m x))/\∃q,w'=W.drewN q:=by
 have c:=U (λ W:World=>Ip x W (by omega));have j:vk x=(x.natAbs:Int):=if_neg (by omega);rw[j] at c;obtain⟨b,off,rfl,w,k⟩:=hm.cells (by omega);have l:=k x.natAbs (by omega);have d:m.getD x.natAbs false=iY m x.natAbs:=rfl;obtain⟨v,p⟩:∃v,x.natAbs=v:=⟨_,rfl⟩
 unfold p6;rw[p] at l c r d⊢;rw[d] at l;have y:(v:Int)<(n:Int)+1:=by omega
 generalize iY m v=u at*;clear k hm j d p;go_enter Tryz.func82,Tryz.ntmps82
 go_wp2_with fail
 go_quiet ((go_at_call 83;refine Calls.quiet_of_same ((c.o _).mono λ e z h=>⟨h.1,h.2.symm⟩)))
 go_wp2_with fail
 go_ret;refine⟨?_,_,rfl⟩
 cases u<;>rfl
theorem PV(n:Nat)(f:n<=60000)(x:Int)(g:x.natAbs<=n)(i b:Nat)(c:Option Addr)(d:Nat)(m:List Bool)(W:World)(l:W.cell? ⟨i,0,none⟩=some (.func (.func 82) #[] #[.pointer (some ⟨b,0,none⟩)]))(j:W.cell? ⟨b,1,none⟩=some (.slice c (n+1) d))(hm:kN W c (n+1) d m):
  Calls w_ 86 #[.int .i64 x,.pointer (some ⟨i,0,none⟩)] W λ e w'=>e=.returned (.bool (!(p6 m x)))/\∃q,w'=W.drewN q:=by
 have k:=U (EN n f x g b c d m W j hm);generalize p6 m x=u at*;clear j hm g f;go_enter Tryz.func86,Tryz.ntmps86
 go_wp2_with (go_at_call 82;refine k.o.mono ?_;rintro e w1 ⟨rfl,q,rfl⟩)
 go_ret;exact⟨rfl,_,rfl⟩
abbrev CL(n:Nat):={x:Int//x.natAbs<=n}
instance (n:Nat):Inhabited (CL n):=⟨⟨0,by simp⟩⟩
def vL(n:Nat)(x:CL n):Value:=.int .i64 x.1
theorem PW(n:Nat):OneCell (vL n):=λ x=>zn x.1
def CM(n:Nat)(f:Nat)(lb:Array Value)(p:Int->Bool)(g:Nat)(w:World):Prop:=
 ∀(W:World)(x:Int),x.natAbs<=n->w.heap.size<=W.heap.size->(∀b,b<w.heap.size->b≠g->W.heap[b]? =w.heap[b]?)->Calls w_ f (#[.int .i64 x]++lb) W λ e w'=>e=.returned (.bool (p x))/\∃q,w'=W.drewN q
theorem PX(N:Nat)(f:Nat)(lb:Array Value)(p:Int->Bool)(t:∀args w,(callFunc f args).run w_ w=.ok (.enter f args) w)(w:World)(base g n cap:Nat)(c:List Int)(h:Own w base g n cap c)(d:base<=g)(u:∀x∈c,x.natAbs<=N)(hp:CM N f lb p g w):
  Calls w_ 85 #[.slice (some ⟨g,0,none⟩) n cap,.func (.func f) #[] lb] w λ e w'=>
   e=.returned (.slice (some ⟨g,0,none⟩) (c.filter λ x=> !(p x)).length cap)/\Own w' base g (c.filter λ x=> !(p x)).length cap (c.filter λ x=> !(p x))/\Below base w w':=by
 obtain⟨ys,l⟩:∃ys:List (CL N),ys.map Subtype.val=c:=⟨c.pmap Subtype.mk u,by simp[List.map_pmap]⟩
 have v:c.map (t_ .i64)=ys.map (vL N):=by rw[<-l,List.map_map];rfl
 have h':w.ownsRow base 3 1 (.slice (some ⟨g,0,none⟩) n cap) n (ys.map (vL N)):=by rw[<-v];exact h
 obtain⟨I,J,he,h1,K,y,z,i,A⟩:=holds_of_ownsRow h' (by intro e;cases e)
 cases he
 have B:n<=9223372036854775807:=by unfold maxLen at z;omega
 have C:PredAt w_ f lb (vL N) (λ x=>p x.1) w:=by
  intro W x m;unfold FnGives;exact hp W x.1 x.2 m.size (λ b d _=>m.block b d)
 have D:PredOver w_ f lb (vL N) (λ x=>p x.1) g 0 ys.toArray.size w:=by
  intro k os j x _;unfold FnGives;have E:w.heap.size<=(sortWorld (vL N) w g 0 k j os).heap.size:=by
   show w.heap.size<=((Sort.putRow (vL N) (Sort.ahead w k) g 0 j).heap++os).size;rw[Array.size_append,Sort.size_putRow];show w.heap.size<=w.heap.size+_;omega
  exact hp _ x.1 x.2 E (λ b d F=>HC (vL N) w g k j os d F)
 have o:=Tryz.slices_DeleteFunc (vL N) (PW N) (λ x=>p x.1) f lb t ⟨0,by simp⟩ Tryz.zeroValue3 g 0 cap ys.toArray w C D A (by simpa[i] using B) (by simpa[i] using y);have hs:ys.toArray.size=n:=by simp[i]
 rw[hs] at o;refine Calls.mono o ?_;rintro e w' ⟨rfl,q,rfl⟩;have r:(ys.filter λ x=> !(p x.1)).map Subtype.val=c.filter λ x=> !(p x):=by rw[<-l,List.filter_map];rfl
 have s:(ys.filter λ x=> !(p x.1)).length=(c.filter λ x=> !(p x)).length:=by rw[<-r,List.length_map]
 have hl:ys.length=n:=by simpa using hs
 have hle:=p_ (λ x:CL N=> !(p x.1)) ys;have G:ys.toArray.toList.filter (λ x=> !(p x.1))=ys.filter λ x=> !(p x.1):=rfl
 rw[G,s];refine⟨rfl,?_,below_putRow (j_ _ _) d⟩;have:=ownsRow_putRow (q:=q) (k:=(ys.filter λ x=> !(p x.1)).length) (ys:=(ys.filter λ x=> !(p x.1))++List.replicate (n-(ys.filter λ x=> !(p x.1)).length) ⟨0,by simp⟩) h' (by simp;omega) (by omega);rw[List.take_left' rfl,s] at this;have H:(c.filter λ x=> !(p x)).map (t_ .i64)=(ys.filter λ x=> !(p x.1)).map (vL N):=by rw[<-r,List.map_map];rfl
 unfold Own;rw[H];exact this
theorem IS(N:Nat)(f:Nat)(lb:Array Value)(p:Int->Bool)(l:∀args w,(callFunc f args).run w_ w=.ok (.enter f args) w){w:World}{base:Nat}{A:Option Addr}{c:Nat}{ai:List Int}(i:w.ownsRow base 3 1 (.slice A ai.length c) ai.length (ai.map (t_ .i64)))(s:ai.length*8<=140737488355328)(t:base<=w.heap.size)(m:∀x∈ai,x.natAbs<=N)(hp:∀g,base<=g->CM N f lb p g w):
  Calls w_ 85 #[.slice A ai.length c,.func (.func f) #[] lb] w λ e w'=>∃j c2,e=.returned (.slice j (ai.filter λ x=> !(p x)).length c2)/\w'.ownsRow base 3 1 (.slice j (ai.filter λ x=> !(p x)).length c2) (ai.filter λ x=> !(p x)).length ((ai.filter λ x=> !(p x)).map (t_ .i64))/\Below base w w':=by
 rcases i.2 with⟨h1,n⟩|⟨g,cap,cur,h1,k,_⟩
 ·injection h1 with b o d
  have:ai=[]:=List.eq_nil_of_length_eq_zero n;subst this;subst b d;refine(DS _ w).mono ?_;rintro e w' ⟨rfl,rfl⟩;exact⟨none,0,rfl,World.ownsRow_nil _ _ _ _,j_ _ _⟩
 ·injection h1 with b o d
  subst b d;refine(PX N f lb p l w base g ai.length c ai i k m (hp g k)).mono ?_;rintro e w' ⟨rfl,q,r⟩;exact⟨_,c,rfl,q,r⟩
structure uN(W:World)(n lZ jC:Nat)(aK:Option Addr)(aJ:Nat)(m:List Bool):Prop where
 tP:n<=60000
 fn:W.cell? ⟨lZ,0,none⟩=some (.func (.func 82) #[] #[.pointer (some ⟨jC,0,none⟩)])
 md:W.cell? ⟨jC,1,none⟩=some (.slice aK (n+1) aJ)
 pM:kN W aK (n+1) aJ m
theorem yC{o:Nat}{v:Value}(h:W.cell? ⟨b,o,none⟩=some v):b<W.heap.size:=by
 rcases Nat.lt_or_ge b W.heap.size with c|d
 ·exact c
 ·simp[World.cell?,Array.getElem?_eq_none d] at h
theorem kN.zD{ai:List Bool}(h:kN w A n c ai)(hs:w.heap.size<=w'.heap.size)(d:∀b,b<w.heap.size->w'.heap[b]? =w.heap[b]?):kN w' A n c ai:=
 ⟨h.len,h.cap,h.mG,h.n9,λ f=>by
  obtain⟨b,off,e,h1,g⟩:=h.cells f;refine⟨b,off,e,v_ h1 hs,λ j i=>?_⟩;rw[u_ (a:=⟨b,off+j,none⟩) (d b h1)];exact g j i⟩
theorem uN.zD{W W':World}{n lZ jC:Nat}{aK:Option Addr}{aJ:Nat}{m:List Bool}(h:uN W n lZ jC aK aJ m)(hs:W.heap.size<=W'.heap.size)(c:∀b,b<W.heap.size->W'.heap[b]? =W.heap[b]?):uN W' n lZ jC aK aJ m:=
 ⟨h.tP,(u_ (a:=⟨lZ,0,none⟩) (c lZ (yC h.fn))).trans h.fn,(u_ (a:=⟨jC,1,none⟩) (c jC (yC h.md))).trans h.md,h.pM.zD hs c⟩
theorem uN.below(h:uN W n lZ jC aK aJ m)(b:Below W.heap.size W W'):uN W' n lZ jC aK aJ m:=h.zD b.size b.block
theorem uN.pred{kz:World}(h:uN kz n lZ jC aK aJ m)(c:Below kz.heap.size kz W)(g:Nat)(f:kz.heap.size<=g):CM n 82 #[.pointer (some ⟨jC,0,none⟩)] (p6 m) g W/\CM n 86 #[.pointer (some ⟨lZ,0,none⟩)] (λ x=> !(p6 m x)) g W:=by
 have key:∀W',W.heap.size<=W'.heap.size->(∀b,b<W.heap.size->b≠g->W'.heap[b]? =W.heap[b]?)->uN W' n lZ jC aK aJ m:=λ W' hs hk=>h.zD (q_ c.size hs) (λ b e=>(hk b (v_ e c.size) (by omega)).trans (c.block b e))
 exact⟨λ W' x d hs hk=>EN n h.tP x d jC aK aJ m W' (key W' hs hk).md (key W' hs hk).pM,λ W' x d hs hk=>PV n h.tP x d lZ jC aK aJ m W' (key W' hs hk).fn (key W' hs hk).md (key W' hs hk).pM⟩
theorem IT(n d D r:Nat)(E:Option Addr)(F:Nat)(m:List Bool)(f:Option Addr)(nq i:Nat)(ah:List Int)(w:World)(h:uN w n d D E F m)(L:w.cell? ⟨r,0,none⟩=some (.slice f nq i))(b:aP w f nq i ah)(s:∀x∈ah,x.natAbs<=n):
  Calls w_ 84 #[.pointer (some ⟨r,0,none⟩),.pointer (some ⟨d,0,none⟩)] w λ e w'=>∃j c2,e=.returned (.slice j (ah.filter (p6 m)).length c2)/\w'.ownsRow w.heap.size 3 1 (.slice j (ah.filter (p6 m)).length c2) (ah.filter (p6 m)).length ((ah.filter (p6 m)).map (t_ .i64))/\Below w.heap.size w w':=by
 have M:∀(fn:Fn)(first cap:Array Value)(w:World),(Instr.makeFunc fn first cap).run w_ w=.ok (.func fn first cap) w:=λ _ _ _ _=>rfl
 have G:=U (vD f nq i ah w b);have t:=b.mG;have u:=b.len;have k:=U (z_ h (z_ b (z_ s (z_ t u))));obtain⟨os,p⟩:∃l,ah.filter (p6 m)=l:=⟨_,rfl⟩
 have v:(ah.filter λ x=> !(!(p6 m x)))=os:=by rw[<-p];congr 1;funext x;simp
 rw[p];have H:=U v;clear h b s t u p v;go_enter Tryz.func84,Tryz.ntmps84
 go_wp2_with (first
  |(go_at_call 81;refine G.o.mono ?_;rintro e N ⟨j,c2,rfl,y,z⟩;have c:=U (z_ y z);clear y z;have q:=IS n 86 #[.pointer (some ⟨d,0,none⟩)] (λ x=> !(p6 m x)) PU c.o.1 (by have:=k.o.2.2.2;omega) c.o.2.size k.o.2.2.1 (λ g I=>(k.o.1.pred c.o.2 g I).2);rw[H.o] at q;have J:=U q;clear q)
  |(go_at_call 85;refine J.o.mono ?_;rintro e O ⟨K,c3,rfl,A,B⟩;have C:=U (z_ A B);clear A B))
 go_ret;exact⟨K,c3,rfl,C.o.1,c.o.2.trans C.o.2⟩
theorem kE.su{rs:List Row}{s:Nat}(f:rs.map (·.ai)=ls)(g:rs.length=n)(hs:s=w.heap.size)(h:n<=1000)(i:W=w.alloc (.cells ((rs.map k3).toArray) t))(k:∀r∈rs,aP w r.A r.n r.c r.ai):kE W (some ⟨s,0,none⟩) n n ls:=by
 subst hs i f;refine⟨by simpa using g,r_ _,by omega,by unfold maxLen;omega,λ l=>⟨w.heap.size,0,rfl,by simp,λ j m=>?_⟩⟩;have b:j<rs.length:=by omega
 have d:=(k _ (List.getElem_mem b)).alloc (.cells ((rs.map k3).toArray) t);have e:(w.alloc (.cells ((rs.map k3).toArray) t)).heap[w.heap.size]? =some (.cells ((rs.map k3).toArray) t):=World.alloc_heap_new w _;generalize w.alloc (.cells ((rs.map k3).toArray) t)=W at e d;have:((rs.map k3).toArray)[j]? =some (k3 rs[j]):=by
  rw[List.getElem?_toArray,List.getElem?_map,List.getElem?_eq_getElem b];rfl
 refine⟨rs[j].A,rs[j].n,rs[j].c,?_,?_⟩
 ·have h1:W.cell? ⟨w.heap.size,0+j,none⟩=((rs.map k3).toArray)[0+j]? :=by
   unfold World.cell?;simp only[e];rfl
  rw[h1,a_,this];rfl
 ·rw[ud (by simpa using b)];simpa using d
theorem IU(w:World)(x:Int)(A:Option Addr)(nl cl:Nat)(e:Option Addr)(f g:Nat)(keep:List Int)(b:Option Addr)(nq c:Nat)(ah:List Int)(hk:aP w e f g keep)(s:aP w b nq c ah):
  ∃W:World,W=(((w.alloc (.cells #[.int .i64 x,.slice A nl cl] 24)).alloc (.cells #[.slice b nq c] 25)).alloc (.cells #[.int .i64 0,.slice none 0 0,.slice none 0 0,.int .i64 0] 30)).alloc (.cells #[.slice e f g,.slice b nq c] 25)/\Below w.heap.size w W/\aR W (w.heap.size+1+1) 30 [.int .i64 0,.slice none 0 0,.slice none 0 0,.int .i64 0]/\aR W (w.heap.size+1) 25 [.slice b nq c]/\kE W (some ⟨w.heap.size+1+1+1,0,none⟩) 2 2 [keep,ah]/\W.heap.size=w.heap.size+4:=by
 have l:=bC w (.cells #[.int .i64 x,.slice A nl cl] 24);have z0:(w.alloc (.cells #[.int .i64 x,.slice A nl cl] 24)).heap.size=w.heap.size+1:=by simp
 generalize w.alloc (.cells #[.int .i64 x,.slice A nl cl] 24)=w1 at*;have h1:=bC w1 (.cells #[.slice b nq c] 25);have u:aR (w1.alloc (.cells #[.slice b nq c] 25)) w1.heap.size 25 [.slice b nq c]:=aR.new w1 25 _;have m:(w1.alloc (.cells #[.slice b nq c] 25)).heap.size=w1.heap.size+1:=by simp
 generalize w1.alloc (.cells #[.slice b nq c] 25)=d at*;have o:=bC d (.cells #[.int .i64 0,.slice none 0 0,.slice none 0 0,.int .i64 0] 30);have v:aR (d.alloc (.cells #[.int .i64 0,.slice none 0 0,.slice none 0 0,.int .i64 0] 30)) d.heap.size 30 [.int .i64 0,.slice none 0 0,.slice none 0 0,.int .i64 0]:=aR.new d 30 _;have z2:(d.alloc (.cells #[.int .i64 0,.slice none 0 0,.slice none 0 0,.int .i64 0] 30)).heap.size=d.heap.size+1:=by simp
 have i:=l.trans ((h1.trans (o.mono h1.size)).mono l.size);generalize d.alloc (.cells #[.int .i64 0,.slice none 0 0,.slice none 0 0,.int .i64 0] 30)=j at*;have k:=bC j (.cells #[.slice e f g,.slice b nq c] 25);have p:=kE.su (w:=j) (rs:=[⟨e,f,g,keep⟩,⟨b,nq,c,ah⟩]) (ls:=[keep,ah]) (n:=2) (t:=25) rfl rfl rfl (by omega) rfl (λ r q=>by
  simp only[h_,List.not_mem_nil,or_false] at q;rcases q with rfl|rfl
  ·exact hk.below i
  ·exact s.below i)
 have z3:(j.alloc (.cells #[.slice e f g,.slice b nq c] 25)).heap.size=j.heap.size+1:=by simp
 refine⟨_,rfl,i.trans (k.mono i.size),?_,?_,?_,by omega⟩
 ·have:=v.below k;rw[m,z0] at this;exact this
 ·have:=(u.below o).below k;rw[z0] at this;exact this
 ·rw[z2,m,z0] at p;exact p
theorem A2(x:Int)(A:Option Addr)(nl cl:Nat)(ls:List (List Int))(d:Option Addr)(f i:Nat)(keep:List Int)(j:Option Addr)(nq k:Nat)(ah:List Int)(l:Int)(w:World)(h:kE w A nl cl ls)(hk:aP w d f i keep)(r:aP w j nq k ah)(hw:mq (keep++ah))(hlen:(keep++ah).length<=1000)(b:Int)(he:kU x ls (keep++ah) l=b)(m:b≠0):
  Calls w_ 29 #[.agg #[.int .i64 x,.slice A nl cl],.slice d f i,.slice j nq k,.int .i64 l] w λ e w'=>e=.returned (.tuple #[.agg #[.int .i64 0,.slice none 0 0,.slice none 0 0,.int .i64 0],.int .i64 b])/\Below w.heap.size w w':=by
 obtain⟨W,v,n,s,t,u,y⟩:=IU w x A nl cl d f i keep j nq k ah hk r;have c:[keep,ah].flatten=keep++ah:=by simp
 have B:=U (IJ x A nl cl ls l _ 2 2 [keep,ah] W (h.below n) u (by rw[c];exact hw) (by rw[c];omega) b (by rw[c];exact he) m);have p:=U (z_ n s);have E:(b==0)=false:=by simpa using m
 have C:=t.cell 0;simp only[y_] at C;clear h hk r hw hlen he m n s u y c t;subst v;go_enter Tryz.func29,Tryz.ntmps29
 go_upto_region 3 with(go_at_call 76;refine B.o.mono ?_;rintro e w1 ⟨rfl,q⟩;have H1:=U (z_ q (p.o.2.below q));clear q;have z:=H1.o.2.cell;have z0:=z 0;have D:=z 1;have z2:=z 2;have z3:=z 3;have g:=H1.o.2.free;have g0:=g 0;have g1:=g 1;have g2:=g 2;have g3:=g 3;simp only[y_,x_] at z0 D z2 z3;clear z g)
 go_wp2_with fail
 exact AZ rfl rfl rfl ((((H1.o.2.set 0 _).set 1 _).set 2 _).set 3 _) ⟨rfl,((((p.o.1.trans (H1.o.1.mono p.o.1.size)).setCell (show w.heap.size<=w.heap.size+1+1 by omega) _).setCell (show w.heap.size<=w.heap.size+1+1 by omega) _).setCell (show w.heap.size<=w.heap.size+1+1 by omega) _).setCell (show w.heap.size<=w.heap.size+1+1 by omega) _⟩
theorem rV.wide(d:rV (λ b=>b=B) w B n s bw aS jc cl A c A' c' hM gM bA bI aW sp)(g:Below w.heap.size w w')(h:w.heap.size<=jC)(j:jC<w'.heap.size):rV (λ b=>b=B\/b=jC) w' B n s bw aS jc cl A c A' c' hM gM bA bI aW sp:=
 ⟨d.blk.below g,.inl rfl,λ b i=>i.elim (λ e=>by subst e;exact v_ d.blk.lt g.size) (λ e=>e▸j),λ W' f=>d.CG W' ((aG.rf g λ b g=>g.1).trans (f.mono λ b i=>⟨v_ i.1 g.size,λ e=>e.elim i.2 (by omega)⟩)),d.ok,d.n10,d.mW,d.ov,d.bL,d.pl,d.el,d.uM,d.pa⟩
theorem rV.off(d:rV (λ b=>b=B\/b=jC) w B n s bw aS jc cl A c A' c' hM gM bA bI aW sp)(f:aG (λ b=>b≠jC) w w')(i:B≠jC):rV (λ b=>b=B\/b=jC) w' B n s bw aS jc cl A c A' c' hM gM bA bI aW sp:=
 ⟨f.blk d.blk i,.inl rfl,λ b h=>v_ (d.dl b h) f.size,λ W' j=>d.CG W' ((f.mono λ b g e=>g.2 (.inr e)).trans (j.mono λ b g=>⟨v_ g.1 f.size,g.2⟩)),d.ok,d.n10,d.mW,d.ov,d.bL,d.pl,d.el,d.uM,d.pa⟩
structure sn(w:World)(B jC lZ n:Nat)(ls:List (List Int))(iu:Option Addr)(bG gT:Nat)(keep:List Int)(bx:Option Addr)(nq bB:Nat)(ah:List Int)(aW k:Nat)(aK:Option Addr)(aJ:Nat)(m:List Bool)(W:World):Prop where
 k9:∃(s:lp)(bw:Option Addr)(aS:Nat)(jc:Option Addr)(cl:Nat)(A:Option Addr)(c:Nat)(A':Option Addr)(c':Nat)(hM:Option Addr)(gM:Nat)(bA:Option Addr)(bI sp:Nat),rV (λ b=>b=B\/b=jC) W B n s bw aS jc cl A c A' c' hM gM bA bI aW sp/\s.gs=ls
 pM:aR W (w.heap.size+1+1) 30 [.int .i64 0,.slice none 0 0,.slice none 0 0,.int .i64 0]
 ua:aR W (w.heap.size+1) 25 [.slice bx nq bB]
 fn:aR W lZ 106 [.func (.func 82) #[] #[.pointer (some ⟨jC,0,none⟩)]]
 ov:∃(i j:Int)(aX:Option Addr)(bM aM:Nat),aR W jC 30 [.int .i64 i,.slice aK (n+1) aJ,.slice aX bM aM,.int .i64 j]
 md:kN W aK (n+1) aJ m
 aZ:w.heap.size+4<=B
 gq:B<jC
 ic:jC<lZ
 m0:iY m 0=false
 uO:tV ls keep ah k m
 A3:aP W iu bG gT keep
 uP:aP W bx nq bB ah
 qW:Below w.heap.size w W
theorem sn.wG(h:sn w B jC lZ n ls iu bG gT keep bx nq bB ah aW k aK aJ m W)(c:n<=10):uN W n lZ jC aK aJ m:=by
 obtain⟨i,j,d,e,f,b⟩:=h.ov;exact⟨by omega,h.fn.cell 0,b.cell 1,h.md⟩
theorem sn.more{w:World}{B jC lZ n:Nat}{ls:List (List Int)}{iu:Option Addr}{bG gT:Nat}{keep:List Int}{bx:Option Addr}{nq bB:Nat}{ah:List Int}{aW k:Nat}{aK:Option Addr}{aJ:Nat}{m:List Bool}{W W':World}(h:sn w B jC lZ n ls iu bG gT keep bx nq bB ah aW k aK aJ m W)(b:Below W.heap.size W W'):sn w B jC lZ n ls iu bG gT keep bx nq bB ah aW k aK aJ m W':=by
 obtain⟨s,d,e,f,cl,A,c,A',c',g,l,o,p,sp,q,r⟩:=h.k9;obtain⟨i,j,t,u,v,y⟩:=h.ov;exact⟨⟨s,d,e,f,cl,A,c,A',c',g,l,o,p,sp,q.more b,r⟩,h.pM.below b,h.ua.below b,h.fn.below b,⟨i,j,t,u,v,y.below b⟩,h.md.below b,h.aZ,h.gq,h.ic,h.m0,h.uO,h.A3.below b,h.uP.below b,h.qW.trans (b.mono h.qW.size)⟩
theorem sn.asked(h:sn w B jC lZ n ls iu bG gT keep bx nq bB ah aW k aK aJ m W)(g:W.grownBy W' (some B))(hk:∀b,iu.map (·.block)=some b->0<bG->b<B)(z:∀b,bx.map (·.block)=some b->0<nq->b<B)
  (C:∃(s:lp)(l:Option Addr)(o:Nat)(p:Option Addr)(cl:Nat)(A:Option Addr)(c:Nat)(A':Option Addr)(c':Nat)(q:Option Addr)(r:Nat)(t:Option Addr)(v sp:Nat),rV (λ b=>b=B\/b=jC) W' B n s l o p cl A c A' c' q r t v aW sp/\s.gs=ls):sn w B jC lZ n ls iu bG gT keep bx nq bB ah aW k aK aJ m W':=by
 obtain⟨s,l,o,p,cl,A,c,A',c',q,r,t,v,sp,D,I⟩:=h.k9;obtain⟨i,j,E,F,G,y⟩:=h.ov;have f:=CJ g;have aZ:=h.aZ;have gq:=h.gq;have ic:=h.ic;refine⟨C,f.blk h.pM ⟨h.pM.lt,by omega⟩,f.blk h.ua ⟨h.ua.lt,by omega⟩,f.blk h.fn ⟨h.fn.lt,by omega⟩,⟨i,j,E,F,G,f.blk y ⟨y.lt,by omega⟩⟩,?_,h.aZ,h.gq,h.ic,h.m0,h.uO,?_,?_,tn h.qW g h.qW.size (λ g e=>by injection e with e;omega)⟩
 ·refine h.md.jB f (λ b e=>⟨?_,h.md.IP (by omega) D.blk (λ u hu x e=>by subst e;simp at hu) b e⟩);obtain⟨J,off,H,h1,_⟩:=h.md.cells (by omega);rw[H] at e;injection e with e
  exact e▸h1
 ·exact h.A3.jB f (λ b e d=>⟨h.A3.lt b e d,by have:=hk b e d;omega⟩)
 ·exact h.uP.jB f (λ b e d=>⟨h.uP.lt b e d,by have:=z b e d;omega⟩)
theorem sn.PY{vT:Nat}(h:sn w B jC lZ n ls iu bG gT keep bx nq bB ah aW k aK aJ m W){uQ:Option Addr}{uR:Nat}{m9:List Bool}(hm:kN W uQ (n+1) uR m9)(r:iY m9 0=false)(t:tV ls keep ah vT m9)(hk:∀b,iu.map (·.block)=some b->0<bG->b<B)(v:∀b,bx.map (·.block)=some b->0<nq->b<B)(i9 d:Int)(g:Option Addr)(l o:Nat):
  sn w B jC lZ n ls iu bG gT keep bx nq bB ah aW vT uQ uR m9 ((((W.setCell ⟨jC,0,none⟩ (.int .i64 i9)).setCell ⟨jC,1,none⟩ (.slice uQ (n+1) uR)).setCell ⟨jC,2,none⟩ (.slice g l o)).setCell ⟨jC,3,none⟩ (.int .i64 d)):=by
 obtain⟨s,y,z,C,cl,A,c,A',c',D,E,F,G,sp,H,I⟩:=h.k9;obtain⟨i,j,J,K,L,q⟩:=h.ov;have f:aG (λ b=>b≠jC) W ((((W.setCell ⟨jC,0,none⟩ (.int .i64 i9)).setCell ⟨jC,1,none⟩ (.slice uQ (n+1) uR)).setCell ⟨jC,2,none⟩ (.slice g l o)).setCell ⟨jC,3,none⟩ (.int .i64 d)):=aG.vl _ _ _ _;have M:=(((q.set 0 (.int .i64 i9)).set 1 (.slice uQ (n+1) uR)).set 2 (.slice g l o)).set 3 (.int .i64 d);have N:∀u∈[t_ .i64 i,.slice aK (n+1) aJ,.slice J K L,.int .i64 j],∀x:Bool,u≠ .bool x:=λ u hu x e=>by subst e;simp at hu
 generalize (((W.setCell ⟨jC,0,none⟩ (.int .i64 i9)).setCell ⟨jC,1,none⟩ (.slice uQ (n+1) uR)).setCell ⟨jC,2,none⟩ (.slice g l o)).setCell ⟨jC,3,none⟩ (.int .i64 d)=W' at*;have aZ:=h.aZ;have gq:=h.gq;have ic:=h.ic;exact⟨⟨s,y,z,C,cl,A,c,A',c',D,E,F,G,sp,H.off f (by omega),I⟩,f.blk h.pM (by omega),f.blk h.ua (by omega),f.blk h.fn (by omega),⟨i9,d,g,l,o,M⟩,hm.EK q N f,aZ,gq,ic,r,t,h.A3.jB f (λ b e p=>by have:=hk b e p;omega),h.uP.jB f (λ b e p=>by have:=v b e p;omega),yB h.qW f (by omega)⟩
theorem PZ:∀args w,(callFunc 85 args).run w_ w=.ok (.enter 85 args) w:=enters_of Tryz.func85 (by kernel_rfl) rfl
def zI(base:Nat)(d:Nat)(e:Option Addr)(nq f:Nat)(ah b:List Int)(i:Nat)(v:Value)(w:World):Prop:=
 match i with
 |0=>v=.slice e nq f
 |1=>∃(A:Option Addr)(c:Nat),v=.slice A ah.length c/\w.ownsRow base 3 1 (.slice A ah.length c) ah.length (ah.map (t_ .i64))
 |2=>v=.func (.func 82) #[] #[.pointer (some ⟨d,0,none⟩)]
 |3=>∃(A:Option Addr)(c:Nat),v=.slice A b.length c/\w.ownsRow base 3 1 (.slice A b.length c) b.length (b.map (t_ .i64))
 |_=>True
theorem zI.mono(base:Nat)(d:Nat)(e:Option Addr)(nq f:Nat)(ah g:List Int)(i:Nat)(u:Value)(w w':World)(j:Below w.heap.size w w')(h:zI base d e nq f ah g i u w):zI base d e nq f ah g i u w':=by
 match i,h with
 |0,h=>exact h
 |1,h=>obtain⟨A,c,h1,b⟩:=h;exact⟨A,c,h1,mh b j⟩
 |2,h=>exact h
 |3,h=>obtain⟨A,c,h1,b⟩:=h;exact⟨A,c,h1,mh b j⟩
 |n+4,h=>trivial
def IV(i:Nat):Option Nat:=if i=1 then some 3 else none
structure IW(kz:World)(oR lZ jC n:Nat)(bx:Option Addr)(nq bB:Nat)(ah nJ:List Int)(aK:Option Addr)(aJ:Nat)(m:List Bool):Prop where
 q:kz.cell? ⟨oR,0,none⟩=some (.slice bx nq bB)
 wG:uN kz n lZ jC aK aJ m
 uP:aP kz bx nq bB ah
 aV:∀x∈ah,x.natAbs<=n
 aj:(ah.filter λ x=> !(p6 m x))=nJ
theorem P0(d:World)(s t v n:Nat)(y:Option Addr)(nq z:Nat)(ah G:List Int)(J:Option Addr)(K:Nat)(m:List Bool)(C:IW d s t v n y nq z ah G J K m):
  w6 w_ [some 65,some 66,some 67,some 68,some 17] [[],[0],[],[1,2,1],[3,3,0,1,2,3]] [(6,.pointer (some ⟨s,0,none⟩)),(13,.pointer (some ⟨t,0,none⟩))] (λ w=>Below d.heap.size d w) (zI d.heap.size v y nq z ah G) IV 0 ((qb Tryz.f29 16).take 4):=by
 have L:=zI.mono d.heap.size v y nq z ah G;have M:∀w w':World,Below d.heap.size d w->Below w.heap.size w w'->Below d.heap.size d w':=λ w w' b B=>b.trans (B.mono b.size)
 refine⟨?_,?_,?_,?_,trivial⟩
 ·intro vals w f b l r hp;have N:f (.tmp 6)=_:=r.1 rfl;have H:=(u_ (a:=⟨s,0,none⟩) (b.block s (yC C.q))).trans C.q;simp only[bh,execOp,N];simp[bQ,go_sem,H];exact .same b rfl
 ·intro vals w f b l r hp;obtain⟨⟨f0,D⟩,-⟩:=(⟨l.1 rfl,trivial⟩:_/\True)
  have D:f (.tmp 65)=vals 0:=D _ rfl;have f0:vals 0=_:=f0 (Or.inl rfl);rw[f0] at D;have O:=C.uP.below b;refine rP 81 #[.tmp 65] #[25] rfl Cd hp ?_;simp only[List.map_toArray,b_,List.map_nil,D];refine(vD y nq z ah w O).mono ?_;rintro e w' ⟨P,c2,rfl,Q,B⟩;exact⟨_,rfl,.more L B (M w w' b B) ⟨P,c2,rfl,ED Q b.size⟩⟩
 ·intro vals w f b l r hp;have R:f (.tmp 13)=_:=r.2.1 rfl;have H:=(u_ (a:=⟨t,0,none⟩) (b.block t (yC C.wG.fn))).trans C.wG.fn;simp only[bh,execOp,R];simp[bQ,go_sem,H];exact .same b rfl
 ·intro vals w f b l r hp;obtain⟨⟨f1,E⟩,⟨f2,F⟩,-⟩:=(⟨l.1 rfl,l.2.1 rfl,trivial⟩:_/\_/\True)
  have E:f (.tmp 66)=vals 1:=E _ rfl;have F:f (.tmp 67)=vals 2:=F _ rfl;have f2:vals 2=_:=f2 (Or.inl rfl);rw[f2] at F;obtain⟨A,c,f1,S⟩:∃(A:Option Addr)(c:Nat),vals 1=.slice A ah.length c/\w.ownsRow d.heap.size 3 1 (.slice A ah.length c) ah.length (ah.map (t_ .i64)):=f1 (Or.inr rfl);rw[f1] at E;refine rP 85 #[.tmp 66,.tmp 67] #[25,106] rfl PZ hp ?_;simp only[List.map_toArray,b_,List.map_nil,E,F];have I:=IS n 82 #[.pointer (some ⟨v,0,none⟩)] (p6 m) PT S (by have:=C.uP.mG;have:=C.uP.len;omega) b.size C.aV (λ g T=>(C.wG.pred b g T).1);rw[C.aj] at I;refine I.mono ?_;rintro e w' ⟨U,c3,rfl,V,W⟩;refine⟨_,rfl,b.trans W,⟨U,c3,rfl,V⟩,λ j u i k o p h=>?_⟩
  match j,i,k,o,p,h with
  |0,i,k,o,p,h=>exact h
  |1,i,k,o,p,h=>exact absurd rfl k
  |2,i,k,o,p,h=>exact h
  |3,i,k,o,p,h=>exact absurd rfl i
  |n+4,i,k,o,p,h=>trivial
theorem below_drewN(w:World)(q:Nat):Below w.heap.size w (w.drewN q):=⟨rfl,rfl,rfl,r_ _,λ _ _=>rfl⟩
theorem IX:∀{l:List Int},(l.map aD).Nodup->∀{x y:Int},x∈l->y∈l->aD x=aD y->x=y
 |[],_,x,y,c,_,_=>by cases c
 |a::l,h,x,y,c,d,e=>by
  rw[b_,List.nodup_cons] at h;rcases h_.1 c with h1|h1
  ·rcases h_.1 d with b|b
   ·rw[h1,b]
   ·exact absurd (k_.2 ⟨y,b,by rw[<-e,h1]⟩) h.1
  ·rcases h_.1 d with b|b
   ·exact absurd (k_.2 ⟨x,h1,by rw[e,b]⟩) h.1
   ·exact IX h.2 h1 b e
theorem P3(h:(keep.map aD++ah.map aD).Nodup)(i:x∈ah)(hp:p x=false):((keep++ah.filter p++[x]).map aD).Nodup:=by
 obtain⟨h1,j,k⟩:=i_.1 h;rw[List.append_assoc,d_,i_];refine⟨h1,?_,λ a f b c=>k a f b ?_⟩
 ·rw[d_,i_];refine⟨(List.filter_sublist.map aD).nodup j,by simp,λ a f b c e=>?_⟩;obtain⟨y,d,rfl⟩:=k_.1 f;simp at c;subst c;have:=IX j (m_.1 d).1 i e;subst this;rw[(m_.1 d).2] at hp
  cases hp
 ·obtain⟨y,d,rfl⟩:=k_.1 c;rcases l_.1 d with g|g
  ·exact k_.2 ⟨y,(m_.1 g).1,rfl⟩
  ·rw[List.mem_singleton.1 g];exact k_.2 ⟨x,i,rfl⟩
theorem P4(w:World)(x:Int)(b:Option Addr)(c d:Nat)(keep:List Int)(e:Option Addr)(n7 f:Nat)(g:List Int)(hk:aP w b c d keep)(l:aP w e n7 f g):
  ∃W:World,W=(w.alloc (.cells #[.int .i64 x] 3)).alloc (.cells #[.slice b c d,.slice e n7 f,.slice (some ⟨w.heap.size,0,none⟩) 1 1] 25)/\kE W (some ⟨w.heap.size+1,0,none⟩) 3 3 [keep,g,[x]]/\Below w.heap.size w W:=by
 have i:=bC w (.cells #[.int .i64 x] 3);have m:aP (w.alloc (.cells #[.int .i64 x] 3)) (some ⟨w.heap.size,0,none⟩) 1 1 [x]:=aP.lit w [x] 1 _ rfl rfl (by omega);have z0:(w.alloc (.cells #[.int .i64 x] 3)).heap.size=w.heap.size+1:=by simp
 generalize w.alloc (.cells #[.int .i64 x] 3)=w1 at*;have h1:=bC w1 (.cells #[.slice b c d,.slice e n7 f,.slice (some ⟨w.heap.size,0,none⟩) 1 1] 25);have j:=kE.su (w:=w1) (rs:=[⟨b,c,d,keep⟩,⟨e,n7,f,g⟩,⟨some ⟨w.heap.size,0,none⟩,1,1,[x]⟩]) (ls:=[keep,g,[x]]) (n:=3) (t:=25) rfl rfl rfl (by omega) rfl (λ r k=>by
  simp only[h_,List.not_mem_nil,or_false] at k;rcases k with rfl|rfl|rfl
  ·exact hk.below i
  ·exact l.below i
  ·exact m)
 rw[z0] at j;exact⟨_,rfl,j,i.trans (h1.mono i.size)⟩
theorem IY{Au ym:World}(h:sn w B jC lZ n ls iu bG gT keep bx nq bB ah aW k aK aJ m W)(d:Below W.heap.size W Au)(g:Below Au.heap.size Au ym){iC:Option Addr}{jd:Nat}{os:List Int}(l:Au.ownsRow W.heap.size 3 1 (.slice iC os.length jd) os.length (os.map (t_ .i64)))(q:os.length<=1000)(kind:Int)(r:Nat)(o:tX ls n keep ah aW kind m os r){yD:World}(i:yD=((((ym.setCell ⟨w.heap.size+1+1,0,none⟩ (.int .i64 kind)).setCell ⟨w.heap.size+1+1,1,none⟩ (.slice aK (n+1) aJ)).setCell ⟨w.heap.size+1+1,2,none⟩ (.slice iC os.length jd)).setCell ⟨w.heap.size+1+1,3,none⟩ (.int .i64 (r:Int)))):
  aR yD (w.heap.size+1+1) 30 [.int .i64 kind,.slice aK (n+1) aJ,.slice iC os.length jd,.int .i64 (r:Int)]/\IN w n ls keep ah aW (.returned (.tuple #[.agg #[.int .i64 kind,.slice aK (n+1) aJ,.slice iC os.length jd,.int .i64 (r:Int)],.int .i64 0])) yD:=by
 have c:=d.trans (g.mono d.size);have pM:=h.pM.below c;have f:aG (λ b=>b≠w.heap.size+1+1) ym yD:=i▸aG.vl _ _ _ _;have p:aR yD (w.heap.size+1+1) 30 [.int .i64 kind,.slice aK (n+1) aJ,.slice iC os.length jd,.int .i64 (r:Int)]:=i▸(((pM.set 0 _).set 1 _).set 2 _).set 3 _;have j:=mh l g;have s:=h.pM.lt;refine⟨p,kind,aK,n+1,aJ,iC,os.length,jd,r,m,os,rfl,(h.md.below c).EK pM (λ u hu x e=>by subst e;simp at hu) f,?_,o,yB (h.qW.trans (c.mono h.qW.size)) f (by omega)⟩;exact(aP.kZ j (by omega)).jB f (λ b e t=>by have h1:=(j.lt b ((ay.own ⟨iC,_,jd⟩).trans e)).1;omega)
theorem sn.model(h:sn w B jC lZ n ls iu bG gT keep bx nq bB ah aW k aK aJ m W):tW ls n keep m:=⟨h.md.len,h.m0,h.uO.mod,h.uO.Av⟩
theorem P5(n:Nat)(v:n<=10)(A:Option Addr)(nl cl:Nat)(ls:List (List Int))(N:Option Addr)(O Y:Nat)(keep:List Int)(R:Option Addr)(nq J:Nat)(ah:List Int)(r:Nat)(w:World)(h:kE w A nl cl ls)(hk:aP w N O Y keep)(av:aP w R nq J ah)(hw:mq (keep++ah))(hlen:(keep++ah).length<=900)(b6:ls.length<=40000)(he:kU n ls (keep++ah) r=0):
  Calls w_ 29 #[.agg #[.int .i64 n,.slice A nl cl],.slice N O Y,.slice R nq J,.int .i64 r] w (IN w n ls keep ah r):=by
 obtain⟨W,dr,aw,b7,bD,b8,b9⟩:=IU w n A nl cl N O Y keep R nq J ah hk av;have bb:[keep,ah].flatten=keep++ah:=by simp
 have b':=U (IK n v A nl cl ls r _ 2 2 [keep,ah] W (h.below aw) b8 (by rw[bb];exact hw) (by rw[bb];omega) b6 (by rw[bb];exact he));obtain⟨bG,hm,dt,bc⟩:=vg he;obtain⟨S,bd⟩:=wD hm;rw[List.length_append] at hlen;have ca:∀x∈keep,gP n x:=λ x K=>S x (l_.2 (.inl K))
 have cc:∀x∈ah,gP n x:=λ x K=>S x (l_.2 (.inr K))
 rw[d_] at bd;have cd:=(i_.1 bd).1;have cf:∀b,N.map (·.block)=some b->0<O->b<w.heap.size:=hk.lt;have cg:∀b,R.map (·.block)=some b->0<nq->b<w.heap.size:=av.lt;have f:=U (z_ aw (z_ b7 (z_ b9 (z_ ca (z_ cc (z_ bd (z_ hlen (z_ (hk.below aw) (z_ (av.below aw) (z_ bD (z_ cd (z_ cf cg))))))))))));have bf:=hk.len;have ch:=av.len;have cj:=bD.cell 0;simp only[y_] at cj;clear h hk av hw he aw b7 b8 b9 bb bG hm dt bc S bd b6 bD ca cc cd cf cg;subst dr;go_enter Tryz.func29,Tryz.ntmps29
 go_upto_region 4 with(go_at_call 76;refine b'.o.mono ?_;rintro e w1 ⟨B,s,dY,dZ,d',cl,A,c,A',c',ea,eb,ec,ed,rfl,ck,cm,cn,bc⟩;have H1:=U (z_ ck (z_ cm (z_ cn bc)));clear ck cm cn bc)
 have ax:=U (CI H1.o.1 (f.o.2.2.2.2.2.2.2.1.below H1.o.2.2.2) f.o.2.2.2.1 f.o.2.2.2.2.2.2.2.2.2.2.1 (by omega))
 go_upto_region 5 with(go_at_call 77;refine ax.o.mono ?_;rintro e L ⟨s2,ee,c1,ef,c2,bg,c3,eg,eh,ei,ej,P,kind,t,az,u,ab,ad,ae,rfl,cp,cq,cr,ct,cu⟩;have an:=U (z_ cp (z_ cq (z_ cr (z_ ct cu))));clear cp cq cr ct cu)
 obtain⟨m,core,hm,cv,aA⟩:=an.o.2.2.2.1.plain;rw[H1.o.2.1] at aA;have bj:=an.o.1;rw[a_] at bj;have g2:=CJ an.o.2.2.2.2;have bH:w.heap.size+4<=B:=by have:=H1.o.2.2.1;have:=f.o.2.2.1;omega
 have du:=H1.o.1.blk.lt;have cw:=g2.blk (f.o.2.1.below H1.o.2.2.2) ⟨(f.o.2.1.below H1.o.2.2.2).lt,by omega⟩;have bI:=f.o.2.2.2.2.2.2.2.2.2.1.below H1.o.2.2.2;have cx:=g2.blk bI ⟨bI.lt,by omega⟩;have bJ:=f.o.1.trans (H1.o.2.2.2.mono f.o.1.size);have bK:Below w.heap.size w L:=tn bJ an.o.2.2.2.2 bJ.size (λ g e=>by injection e with e;omega);have cy:=an.o.2.1.trans H1.o.2.1;have bL:∀b,N.map (·.block)=some b->0<O->b<B:=λ b e v=>by have:=f.o.2.2.2.2.2.2.2.2.2.2.2.1 b e v;omega
 have bM:∀b,R.map (·.block)=some b->0<nq->b<B:=λ b e v=>by have:=f.o.2.2.2.2.2.2.2.2.2.2.2.2 b e v;omega
 have bN:=f.o.2.2.2.2.2.2.2.1.below H1.o.2.2.2;have bO:=f.o.2.2.2.2.2.2.2.2.1.below H1.o.2.2.2;have cz:aP L N O Y keep:=bN.jB g2 (λ b e v=>⟨bN.lt b e v,by have:=bL b e v;omega⟩);have cA:aP L R nq J ah:=bO.jB g2 (λ b e v=>⟨bO.lt b e v,by have:=bM b e v;omega⟩);have cB:=bj.blk.lt;have E:=bC L (.cells #[.int .i64 kind,.slice t az u,.slice ab ad ae,.int .i64 (P:Int)] 30);have aB:aR (L.alloc (.cells #[.int .i64 kind,.slice t az u,.slice ab ad ae,.int .i64 (P:Int)] 30)) L.heap.size 30 [.int .i64 kind,.slice t az u,.slice ab ad ae,.int .i64 (P:Int)]:=aR.new L 30 _;have d:=U (z_ (bj.wide E (r_ _) (by simp)) (z_ (cw.below E) (z_ (bK.trans (E.mono bK.size)) (z_ (hm.below E) (z_ (cv.below E) (z_ (cA.below E) (z_ aB (z_ (cz.below E) (z_ cy (z_ bH (z_ (cx.below E) (z_ bL bM))))))))))));have cC:bF (B<L.heap.size):=U cB;clear b' ax hm cv bj g2 cw bJ bK du cA cz bO bN cy H1 an bI cx bL bM cB;generalize bk:L.heap.size=p at*;have bl:(L.alloc (.cells #[.int .i64 kind,.slice t az u,.slice ab ad ae,.int .i64 (P:Int)] 30)).heap.size=p+1:=by simp[bk]
 generalize L.alloc (.cells #[.int .i64 kind,.slice t az u,.slice ab ad ae,.int .i64 (P:Int)] 30)=T at*;have a:=d.o.2.2.2.2.2.2.1.cell;have a0:=a 0;have a1:=a 1;have a2:=a 2;have a3:=a 3;simp only[y_,x_] at a0 a1 a2 a3;clear a aB E bH cj;rcases aA.k with⟨rfl,rfl,aC⟩|⟨rfl,rfl,cD,cE⟩|⟨rfl,rfl,rfl,dv⟩
 ·have aE:=d.o.2.2.2.1.len;rw[aC.len] at aE;subst aE;have ek:∀(fn:Fn)(first cap:Array Value)(w:World),(Instr.makeFunc fn first cap).run w_ w=.ok (.func fn first cap) w:=λ _ _ _ _=>rfl
  have V:=bC T (.cells #[.func (.func 82) #[] #[.pointer (some ⟨p,0,none⟩)]] 106);have cF:aR (T.alloc (.cells #[.func (.func 82) #[] #[.pointer (some ⟨p,0,none⟩)]] 106)) T.heap.size 106 [.func (.func 82) #[] #[.pointer (some ⟨p,0,none⟩)]]:=aR.new T 106 _;have qO:sn w B p T.heap.size n ls N O Y keep R nq J ah r 0 t u m (T.alloc (.cells #[.func (.func 82) #[] #[.pointer (some ⟨p,0,none⟩)]] 106)):=by
   refine⟨⟨_,_,_,_,_,_,_,_,_,_,_,_,_,_,d.o.1.more V,d.o.2.2.2.2.2.2.2.2.1⟩,d.o.2.1.below V,d.o.2.2.2.2.2.2.2.2.2.2.1.below V,cF,⟨_,_,_,_,_,d.o.2.2.2.2.2.2.1.below V⟩,d.o.2.2.2.1.below V,d.o.2.2.2.2.2.2.2.2.2.1,cC.o,by omega,aC.m0,⟨aC.sat,aC.ah,λ j en bG=>absurd bG (by omega)⟩,d.o.2.2.2.2.2.2.2.1.below V,d.o.2.2.2.2.2.1.below V,d.o.2.2.1.trans (V.mono d.o.2.2.1.size)⟩
  rw[bl] at qO;have cG:=U qO;have bn:=U d.o.2.2.2.2.2.2.2.2.2.2.2;clear qO cF V aC aA bk d cC
  go_upto_region 12 with fail
  generalize T.alloc (.cells #[.func (.func 82) #[] #[.pointer (some ⟨p,0,none⟩)]] 106)=cH at*;have cI:=cG.o.ua.cell 0;simp only[y_] at cI;clear bl a0 a1 a2 a3
  go_wp2_with fail
  clear cI
  go_loopw [57] (λ i W=>∃(k:Nat)(t:Option Addr)(u:Nat)(m:List Bool),i=.int .i64 k/\k<=nq/\sn w B p (p+1) n ls N O Y keep R nq J ah r k t u m W) (λ i _=>nq-(intOf i).toNat)
  case atStart=>exact⟨0,t,u,m,rfl,s_ _,cG.o⟩
  case round=>
   obtain⟨k,t,u,m,rfl,cJ,ao⟩:=hrel;have qO:=U ao;have af:=ao.wG v
   by_cases S:k<nq
   ·have cK:(k:Int)<(nq:Int):=by omega
    have eo:c_.wrap ((k:Int)+1)=(k:Int)+1:=by rw[g_];omega
    obtain⟨ua,bo,rfl,dw,cL⟩:=ao.uP.cells (by omega);have cM:=cL k S;have bf:k<ah.length:=by rw[ch];exact S
    obtain⟨x,K⟩:∃x,jP ah k=x:=⟨_,rfl⟩
    have bP:x∈ah:=K▸ue bf;have bp:=f.o.2.2.2.2.1 x bP;rw[K] at cM;have bR:x.natAbs<=n:=bp.2;have dx:=af.fn;have aF:=U (EN n af.tP x bR p t u m wr af.md af.pM);have Z:=CK (m:=m) bp;have C:=U (z_ bf (z_ S (z_ K (z_ bP (z_ bp bR)))));clear cL bf S cJ K bP bp bR af ao dw
    cases hu:p6 m x with
    |false=>
     rw[hu] at aF Z;have aH:bF (kr m ah[k]=true):=U (by
      have e:ah[k]'(C.o.1)=x:=by rw[<-ql C.o.1];exact C.o.2.2.1
      rw[e]
      cases bS:kr m x with
      |true=>rfl
      |false=>rw[bS] at Z;cases Z)
     clear hu Z
     go_wp2_with (go_at_call 82;refine aF.o.mono ?_;rintro e aa ⟨rfl,bq,rfl⟩)
     go_roundw
     case rel=>exact⟨k+1,t,u,m,by go_num,by have:=C.o;omega,{qO.o.more (below_drewN wr bq) with uO:=qO.o.uO.yes C.o.1 aH.o}⟩
     case measure=>have:=C.o.2.1;simp[intOf];omega
    |true=>
     rw[hu] at aF Z;have cN:kr m x=false:=by
      cases bS:kr m x with
      |false=>rfl
      |true=>rw[bS] at Z;cases Z
     have aH:=U cN;clear hu Z cN
     go_upto_region 16 with(go_at_call 82;refine aF.o.mono ?_;rintro e aa ⟨rfl,bq,rfl⟩)
     have br:=U (qO.o.more (below_drewN wr bq));generalize wr.drewN bq=aa at*;have M:=br.o.ua.cell 0;simp only[y_] at M;obtain⟨G,bT⟩:∃l,ah.filter (kr m)=l:=⟨_,rfl⟩
     have cO:(ah.filter λ x=> !(p6 m x))=G:=by
      rw[<-bT];exact e_ λ y q=>by rw[CK (f.o.2.2.2.2.1 y q),Bool.not_not]
     have cP:IW aa (w.heap.size+1) (p+1) p n (some ⟨ua,bo,none⟩) nq J ah G t u m:=⟨M,br.o.wG v,br.o.uP,λ y q=>(f.o.2.2.2.2.1 y q).2,cO⟩
     have cQ:=U (P0 aa (w.heap.size+1) (p+1) p n (some ⟨ua,bo,none⟩) nq J ah G t u m cP);have aI:=U bT;clear dx bT cO aF cM cK cP M;refine Kr (qb Tryz.f29 16) 4 101 _ _ [(6,.pointer (some ⟨w.heap.size+1,0,none⟩)),(13,.pointer (some ⟨p+1,0,none⟩))] _ (zI aa.heap.size p (some ⟨ua,bo,none⟩) nq J ah G) IV (by kernel_rfl) (by kernel_rfl) (by kernel_rfl) (by kernel_rfl) (by kernel_rfl) (by decide+kernel) (by decide+kernel) (by decide+kernel) (by decide+kernel) (by decide+kernel) rfl ⟨rfl,rfl,trivial⟩ ((j_ _ _).drew) cQ.o _ rfl ?_;intro vals bU cR cS ep cT;obtain⟨dy,dz,g3,cU⟩:∃(A:Option Addr)(c:Nat),vals 3=.slice A G.length c/\bU.ownsRow aa.heap.size 3 1 (.slice A G.length c) G.length (G.map (t_ .i64)):=cS 3 (by omega) rfl;simp only[mJ,Act.put,List.take,g3] at cT;subst cT;have bs:=U (z_ cU cR);clear cS g3 cU cR cQ;simp only[bh,execOp];simp[bQ,go_sem,Act.eval,Act.put];have bV:=U (br.o.more bs.o.2)
     go_upto_region 17 with fail
     have dA:G.length<=ah.length:=by rw[<-aI.o];exact p_ _ _
     have dB:=bV.o.k9;obtain⟨dC,dD,dE,dF,dG,lP,d7,dH,dI,dJ,dK,dL,dM,sp,aJ,bt⟩:=dB;obtain⟨dN,dO,cV,aK⟩:=P4 bU x N O Y keep dy G.length dz G bV.o.A3 (aP.kZ bs.o.1 (by omega));obtain⟨all,aq⟩:∃l,keep++G++[x]=l:=⟨_,rfl⟩
     have cW:all.length<=1000:=by rw[<-aq];simp;omega
     have cX:=U (PM _ 3 3 [keep,G,[x]] dN cV all (by rw[<-aq];simp) (by omega));have cY:∀y∈all,gP n y:=λ y q=>by
      rw[<-aq] at q;rcases l_.1 q with h1|h1
      ·rcases l_.1 h1 with bu|bu
       ·exact f.o.2.2.2.1 y bu
       ·rw[<-aI.o] at bu;exact f.o.2.2.2.2.1 y (m_.1 bu).1
      ·rw[List.mem_singleton.1 h1];exact C.o.2.2.2.2.1
     have cZ:(all.map aD).Nodup:=by rw[<-aq,<-aI.o];exact P3 f.o.2.2.2.2.2.1 C.o.2.2.2.1 aH.o
     have I:=U (z_ cW (z_ cY (z_ cZ (z_ aq (z_ aJ (z_ bt aK))))));clear dA cV cW cY cZ aq aJ bt aK;subst dO
     go_upto_region 18 with(first
      |(go_at_call 87;refine cX.o.mono ?_;rintro e er ⟨et,eu,rfl,c0,aK⟩;have c4:=U (I.o.2.2.2.2.2.2.trans (aK.mono I.o.2.2.2.2.2.2.size));have ax:=U (CI (I.o.2.2.2.2.1.more c4.o) (aP.kZ c0 (by have:=I.o.1;omega)) I.o.2.1 I.o.2.2.1 I.o.1);clear c0 aK)
      |(go_at_call 77;refine ax.o.mono ?_;rintro e bE ⟨ev,ew,d1,ey,d2,ez,d3,eA,d4,nP,d5,ag,kind,aL,bw,aM,aN,aO,aQ,rfl,c5,c6,c7,c8,c9⟩;have aS:=U (z_ c5 (z_ c6 (z_ c7 (z_ c8 c9))));clear c5 c6 c7 c8 c9))
     obtain⟨m9,eB,da,dP,aT⟩:=aS.o.2.2.2.1.plain;rw[I.o.2.2.2.2.2.1] at aT;have bW:=(bV.o.more c4.o).asked aS.o.2.2.2.2 bn.o.1 bn.o.2 ⟨_,_,_,_,_,_,_,_,_,_,_,_,_,_,aS.o.1,aS.o.2.1.trans I.o.2.2.2.2.2.1⟩;have E:=bC bE (.cells #[.int .i64 kind,.slice aL bw aM,.slice aN aO aQ,.int .i64 (ag:Int)] 30);have aB:aR (bE.alloc (.cells #[.int .i64 kind,.slice aL bw aM,.slice aN aO aQ,.int .i64 (ag:Int)] 30)) bE.heap.size 30 [.int .i64 kind,.slice aL bw aM,.slice aN aO aQ,.int .i64 (ag:Int)]:=aR.new bE 30 _;have Q:=U (z_ (bW.more E) (z_ (da.below E) (z_ aB (aS.o.1.more E))));have db:p<bE.heap.size:=by
      obtain⟨i,j,ab,ad,ae,aU⟩:=bW.ov;exact aU.lt
     have eC:=U db;clear bW E aB da dP db cX ax;generalize bE.heap.size=lF at*;generalize bE.alloc (.cells #[.int .i64 kind,.slice aL bw aM,.slice aN aO aQ,.int .i64 (ag:Int)] 30)=kW at*;have a:=Q.o.2.2.1.cell;have a0:=a 0;have a1:=a 1;have a2:=a 2;have a3:=a 3;simp only[y_,x_] at a0 a1 a2 a3;clear a;have aV:ah[k]'(C.o.1)=x:=by rw[<-ql C.o.1];exact C.o.2.2.1
     rcases aT.k with⟨rfl,rfl,aW⟩|⟨rfl,rfl,dc,dd⟩|⟨rfl,rfl,rfl,dQ⟩
     ·have aE:=Q.o.2.1.len;rw[aW.len] at aE;subst aE;obtain⟨i0,eD,eE,eF,eG,aU⟩:=Q.o.1.ov;have z:=aU.cell;have z0:=z 0;have X:=z 1;have z2:=z 2;have z3:=z 3;have g:=aU.free;have g0:=g 0;have g1:=g 1;have g2:=g 2;have g3:=g 3;simp only[y_,x_] at z0 X z2 z3;have dR:=U (Q.o.1.PY Q.o.2.1 aW.m0 (qO.o.uO.next C.o.1 aW.sat (λ y q=>aW.ah y (by rw[<-I.o.2.2.2.1,<-aI.o,<-aV];exact q))) bn.o.1 bn.o.2 1 (ag:Int) aN aO aQ);clear z g aW aT aU aV
      go_wp2_with fail
      go_roundw
      case rel=>exact⟨k+1,aL,aM,m9,by go_num,by have:=C.o;omega,dR.o⟩
      case measure=>have:=C.o.2.1;simp[intOf];omega
     ·have dS:=U (qO.o.uO.no C.o.1 (λ h=>dd (h.mono λ y q=>by
       have:=dc.subset q;rw[<-I.o.2.2.2.1,<-aI.o,<-aV] at this;exact this)))
      clear dc dd aT aV
      go_wp2_with fail
      go_roundw
      case rel=>exact⟨k+1,t,u,m,by go_num,by have:=C.o;omega,{Q.o.1 with uO:=dS.o}⟩
      case measure=>have:=C.o.2.1;simp[intOf];omega
     ·have bX:=I.o.2.2.2.2.1.mW;have bY:=Q.o.2.2.2.nA;have de:sp+ag=r:=by omega
      have df:r<=59048:=by omega
      have dT:=U (z_ de df);have F:=U (Q.o.1.more (j_ _ _).drew);have aX:=U (F.o.wG v);have M:=F.o.ua.cell 0;simp only[y_] at M;have aY:=U (IT n (p+1) p (w.heap.size+1) t u m (some ⟨ua,bo,none⟩) nq J ah kW.drew aX.o M F.o.uP (λ y q=>(f.o.2.2.2.2.1 y q).2));obtain⟨os,ai⟩:∃l,ah.filter (p6 m)=l:=⟨_,rfl⟩
      rw[ai] at aY;have bx:=U (Q.o.2.2.2.more (j_ _ _).drew);have m5:=(Q.o.1.wG v).md;have aZ:=U ai;clear ai M dQ aT aV bX bY de df
      go_upto_region 20 with fail
      rename_i bZ a6;have b0:=U a6;clear a6;refine wp_region_noPanic ?_
      go_region_with (first
       |(go_at_call 84;refine aY.o.mono ?_;rintro e b1 ⟨b2,b3,rfl,a7,a8⟩;have H:=U (z_ a7 a8);clear a7 a8;have m6:=(aX.o.below H.o.2).md;have aj:=U (xM b1 B _ r (sp+ag) (bx.o.more H.o.2).blk rfl rfl 3 t (n+1) u b2 os.length b3 (.inr (.inr rfl)) r rfl))
       |(go_at_call 78;refine aj.o.mono ?_;rintro e eH ⟨rfl,ak⟩;have dU:=U (H.o.2.trans (ak.mono H.o.2.size));have b4:=U ak;clear ak;have D:=F.o.pM.below dU.o;have z:=D.cell;have z0:=z 0;have X:=z 1;have z2:=z 2;have z3:=z 3;have g:=D.free;have g0:=g 0;have g1:=g 1;have g2:=g 2;have g3:=g 3;simp only[y_,x_] at z0 X z2 z3;clear z g D))
      all_goals
       show bZ _ _;apply b0.o
       go_wp2_with fail
       have bz:os=ah.filter (λ x=> !(kr m x)):=by
        rw[<-aZ.o];exact e_ λ y q=>CK (f.o.2.2.2.2.1 y q)
       have a':=IY F.o H.o.2 b4.o H.o.1 (by have ar:=p_ (p6 m) ah;rw[aZ.o] at ar;omega) 3 r ⟨r_ _,.inr (.inr ⟨rfl,rfl,dT.o.2,.inr ⟨F.o.model,bz⟩⟩)⟩ rfl;exact AZ rfl rfl rfl a'.1 a'.2
   ·have dh:k=nq:=by omega
    have cK:¬(k:Int)<(nq:Int):=by omega
    have F:=U (ao.more (j_ _ _).drew);have aX:=U (F.o.wG v);have M:=F.o.ua.cell 0;simp only[y_] at M;have aY:=U (IT n (p+1) p (w.heap.size+1) t u m R nq J ah wr.drew aX.o M F.o.uP (λ y q=>(f.o.2.2.2.2.1 y q).2));obtain⟨os,ai⟩:∃l,ah.filter (p6 m)=l:=⟨_,rfl⟩
    rw[ai] at aY;obtain⟨dC,dD,dE,dF,dG,lP,d7,dH,dI,dJ,dK,dL,dM,sp,aJ,bt⟩:=F.o.k9;have bx:=U aJ;have m5:=af.md;have aZ:=U ai;have dV:=U dh;clear aJ bt ai M af ao S cJ dh
    go_upto_region 24 with fail
    rename_i bZ a6;have b0:=U a6;clear a6;refine wp_region_noPanic ?_
    go_region_with (first
     |(go_at_call 84;refine aY.o.mono ?_;rintro e b1 ⟨b2,b3,rfl,a7,a8⟩;have H:=U (z_ a7 a8);clear a7 a8;have m6:=(aX.o.below H.o.2).md;have aj:=U (xM b1 B _ r sp (bx.o.more H.o.2).blk rfl rfl 1 t (n+1) u b2 os.length b3 (.inl rfl) sp rfl))
     |(go_at_call 78;refine aj.o.mono ?_;rintro e bU ⟨rfl,ak⟩;have bs:=U (H.o.2.trans (ak.mono H.o.2.size));have b4:=U ak;clear ak;have D:=F.o.pM.below bs.o;have z:=D.cell;have z0:=z 0;have X:=z 1;have z2:=z 2;have z3:=z 3;have g:=D.free;have g0:=g 0;have g1:=g 1;have g2:=g 2;have g3:=g 3;simp only[y_,x_] at z0 X z2 z3;clear z g D))
    all_goals
     show bZ _ _;apply b0.o
     go_wp2_with fail
     have bz:os=ah.filter (λ x=> !(kr m x)):=by
      rw[<-aZ.o];exact e_ λ y q=>CK (f.o.2.2.2.2.1 y q)
     have di:=qO.o.uO;rw[dV.o,<-ch] at di;have a':=IY F.o H.o.2 b4.o H.o.1 (by have ar:=p_ (p6 m) ah;rw[aZ.o] at ar;omega) 1 sp ⟨bx.o.mW,.inl ⟨rfl,F.o.model,bz,λ y q=>by
      rw[bz] at q;have ar:=m_.1 q;exact di.whole y ar.1 (by simpa using ar.2)⟩⟩ rfl
     exact AZ rfl rfl rfl a'.1 a'.2
 ·have dj:=U (EE N O Y keep ab ad ae core T d.o.2.2.2.2.2.2.2.1 d.o.2.2.2.2.1);obtain⟨ba,bA⟩:∃l,ry keep core=l:=⟨_,rfl⟩
  rw[bA] at dj;have dk:ba.Sublist keep:=bA▸Ek keep core;have dm:¬Can ls ba:=λ h=>cE (h.mono λ x K=>by rw[<-bA];exact Cw.2 ⟨cD.subset K,K⟩)
  have b5:=U (z_ dk dm);clear aA cD cE bA dk dm bk bl
  go_wp2_with (first
   |(go_at_call 79;refine dj.o.mono ?_;rintro e cH ⟨bg,c3,rfl,dW,dn,dp⟩;have bB:=U (z_ dn dp);have aj:=U (xM cH B _ r P (d.o.1.more bB.o.2).blk rfl rfl 2 none 0 0 bg ba.length c3 (.inr (.inl rfl)) P rfl);clear dW dn dp)
   |(go_at_call 78;refine aj.o.mono ?_;rintro e aa ⟨rfl,al⟩;have au:=U (bB.o.2.trans (al.mono bB.o.2.size));have dX:=U al;have D:=d.o.2.1.below au.o;have z:=D.cell;have z0:=z 0;have X:=z 1;have z2:=z 2;have z3:=z 3;have g:=D.free;have g0:=g 0;have g1:=g 1;have g2:=g 2;have g3:=g 3;simp only[y_,x_] at z0 X z2 z3;clear z g D al))
  have dq:=mh bB.o.1 dX.o;refine AZ rfl rfl rfl (((((d.o.2.1.below au.o).set 0 _).set 1 _).set 2 _).set 3 _) ⟨2,none,0,0,bg,ba.length,c3,P,[],ba,rfl,kN.xL _,?_,⟨d.o.1.mW,.inr (.inl ⟨rfl,rfl,b5.o.1,b5.o.2⟩)⟩,yB (d.o.2.2.1.trans (au.o.mono d.o.2.2.1.size)) (aG.vl _ _ _ _) (by omega)⟩;have eI:=b5.o.1.length_le;have bH:=d.o.2.1.lt;exact(aP.kZ dq (by omega)).jB (aG.vl _ _ _ _) (λ b e v=>by have h1:=(dq.lt b ((ay.own ⟨bg,_,c3⟩).trans e)).1;omega)
 ·have aj:=U (xM T B _ r P d.o.1.blk rfl rfl 3 none 0 0 none 0 0 (.inr (.inr rfl)) r rfl);have bX:P=r:=by omega
  have bY:=d.o.1.nA;have aH:=U (show tX ls n keep ah r 3 [] [] r from⟨r_ _,.inr (.inr ⟨rfl,rfl,by omega,.inl ⟨rfl,rfl⟩⟩)⟩);clear aA dv bX bY bk bl
  go_wp2_with (go_at_call 78;refine aj.o.mono ?_;rintro e aa ⟨rfl,al⟩;have au:=U al;have D:=d.o.2.1.below al;have z:=D.cell;have z0:=z 0;have X:=z 1;have z2:=z 2;have z3:=z 3;have g:=D.free;have g0:=g 0;have g1:=g 1;have g2:=g 2;have g3:=g 3;simp only[y_,x_] at z0 X z2 z3;clear z g D al)
  exact AZ rfl rfl rfl (((((d.o.2.1.below au.o).set 0 _).set 1 _).set 2 _).set 3 _) ⟨3,none,0,0,none,0,0,r,[],[],rfl,kN.xL _,aP.nil _ _ _ (s_ _),aH.o,yB (d.o.2.2.1.trans (au.o.mono d.o.2.2.1.size)) (aG.vl _ _ _ _) (by omega)⟩
end
section
open Go.RowKit
def CN(a:List Bool)(x:Int):Bool:=decide (1<=x.natAbs)&&decide (x.natAbs<a.length)&&(iY a x.natAbs==decide (0<x))
theorem P6(a:List Bool)(l:List Int):qN a l=l.all (CN a):=rfl
theorem EO(h:k<l.length)(e:p (jP l k)=false):l.all p=false:=by
 rw[ql h] at e;rw[List.all_eq_false];exact⟨_,List.getElem_mem h,by simp[e]⟩
theorem IZ(h:k<l.length)(e:p (jP l k)=true)(b:(l.take k).all p=true):(l.take (k+1)).all p=true:=by
 rw[vn l k h,List.all_append,b];simp[e]
theorem P7(hl:l.length=n)(h:¬k<n)(b:(l.take k).all p=true):l.all p=true:=by
 rw[List.take_of_length_le (by omega)] at b;exact b
theorem I1(A:Option Addr)(n c:Nat)(g:List Bool)(A':Option Addr)(j c':Nat)(l:List Int)(w:World)(h:kN w A n c g)(h':aP w A' j c' l)(hl:∀x∈l,gP 60000 x):
  Calls w_ 95 #[.slice A n c,.slice A' j c'] w λ e w'=>e=.returned (.bool (qN g l))/\Below w.heap.size w w':=by
 have X:=h'.small;have N:=h.len;have Y:=h.mG;have H:=U h;have O:=U h';have s:=U (z_ hl h'.len);rw[P6];clear h h' hl;go_enter Tryz.func95,Tryz.ntmps95
 go_wp2
 go_loopw [5] (λ i W=>∃k:Nat,k<=j/\i=.int .i64 k/\(l.take k).all (CN g)=true/\Below w.heap.size w W) (λ i _=>j-(intOf i).toNat)
 case atStart=>exact⟨0,s_ _,rfl,rfl,j_ _ _⟩
 case round=>
  obtain⟨k,hk,rfl,B,C⟩:=hrel;have m:=U (z_ B C);clear B C
  by_cases p:k<j
  ·have P:(k:Int)<(j:Int):=by omega
   have t:k<l.length:=by rw[s.o.2];exact p
   obtain⟨b,off,rfl,Q,D⟩:=(O.o.below m.o.2).cells (by omega);have q:=D k p;obtain⟨x,r⟩:∃x,jP l k=x:=⟨_,rfl⟩
   have E:gP 60000 x:=r▸s.o.1 _ (ue t);rw[r] at q;obtain⟨v,F⟩:∃v,x.natAbs=v:=⟨_,rfl⟩
   have R:1<=v/\v<=60000:=by
    have h1:1<=x.natAbs/\x.natAbs<=60000:=E;omega
   have Z:c_.wrap ((k:Int)+1)=(k:Int)+1:=by rw[g_];omega
   have aa:c_.wrap (-x)= -x:=by rw[g_];omega
   have ab:wrap64 (-x)= -x:=by unfold wrap64;omega
   have ad:max x (-x)=(v:Int):=by omega
   have d1:decide ((v:Int)<1)=false:=decide_eq_false (by omega);have ae:¬(v:Int)<1:=by omega
   have G:CN g x=(decide (v<n)&&(iY g v==decide (0<x))):=by
    unfold CN;rw[F,N,decide_eq_true R.1,Bool.true_and]
   have d:=U (z_ G (z_ t (z_ r p)));clear D Q E r t p hk F G
   go_upto_region 4 with fail
   go_quiet (fail)
   have I:=U (below_drewN wr nq);have f:=U (m.o.2.trans (I.o.mono m.o.2.size));have q:=(u_ (a:=⟨b,off+k,none⟩) (I.o.block b (yC q))).trans q;generalize wr.drewN nq=w1 at*
   by_cases y:v<n
   ·obtain⟨af,ag,rfl,S,J⟩:=(H.o.below f.o).cells (by omega);have T:=J v y;have K:g.getD v false=iY g v:=rfl;rw[K] at T;rw[decide_eq_true y,Bool.true_and] at d;have z:¬(n:Int)<=(v:Int):=by omega
    have ah:(v:Int)<(n:Int):=by omega
    have d2:decide ((n:Int)<=(v:Int))=false:=decide_eq_false z;have d3:decide (n<=v)=false:=decide_eq_false (by omega);generalize iY g v=u at*;clear J S K
    by_cases L:0<x
    ·have d4:decide (0<x)=true:=decide_eq_true L;rw[d4] at d
     cases u with
     |false=>
      go_upto_region 5 with fail
      go_quiet (fail)
      go_wp2;go_ret;exact⟨nC (EO d.o.2.1 (by rw[d.o.2.2.1,d.o.1];rfl)).symm,f.o.trans ((below_drewN w1 _).mono f.o.size)⟩
     |true=>
      go_upto_region 5 with fail
      go_quiet (fail)
      go_wp2;go_roundw
      case rel=>exact⟨k+1,by have:=d.o;omega,by go_num,IZ d.o.2.1 (by rw[d.o.2.2.1,d.o.1];rfl) m.o.1,f.o.trans ((below_drewN w1 _).mono f.o.size)⟩
      case measure=>have:=d.o;simp[intOf];omega
    ·have d4:decide (0<x)=false:=decide_eq_false L;rw[d4] at d
     cases u with
     |true=>
      go_upto_region 5 with fail
      go_quiet (fail)
      go_wp2;go_ret;exact⟨nC (EO d.o.2.1 (by rw[d.o.2.2.1,d.o.1];rfl)).symm,f.o.trans ((below_drewN w1 _).mono f.o.size)⟩
     |false=>
      go_upto_region 5 with fail
      go_quiet (fail)
      go_wp2;go_roundw
      case rel=>exact⟨k+1,by have:=d.o;omega,by go_num,IZ d.o.2.1 (by rw[d.o.2.2.1,d.o.1];rfl) m.o.1,f.o.trans ((below_drewN w1 _).mono f.o.size)⟩
      case measure=>have:=d.o;simp[intOf];omega
   ·have z:(n:Int)<=(v:Int):=by omega
    have d2:decide ((n:Int)<=(v:Int))=true:=decide_eq_true z;have d3:decide (n<=v)=true:=decide_eq_true (by omega);rw[decide_eq_false y,Bool.false_and] at d
    go_upto_region 5 with fail
    go_quiet (fail)
    go_wp2;go_ret;exact⟨nC (EO d.o.2.1 (by rw[d.o.2.2.1,d.o.1])).symm,f.o.trans ((below_drewN w1 _).mono f.o.size)⟩
  ·have P:¬(k:Int)<(j:Int):=by omega
   have M:=P7 s.o.2 p m.o.1;have V:=U M;clear M;go_wp2;go_ret;exact⟨nC V.o.symm,m.o.2⟩
end
end Go.Proofs.YtogdlkfacflmaaaGreat
