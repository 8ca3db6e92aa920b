/- Parts of the walk of the solver and its core; no condition. -/
import Derived.Test.YtogdlkfacflmaaaGreatZV3
import Derived.Test.YtogdlkfacflmaaaGreatZV2
import Derived.Test.YtogdlkfacflmaaaGreatZV8
import Derived.Test.YtogdlkfacflmaaaGreatZV6
import Derived.Test.YtogdlkfacflmaaaGreatZV5
import Derived.Below
import Derived.ChangeSame
import Derived.ProofKit
import Derived.Test.YtogdlkfacflmaaaGreatZV1
import Derived.Deep.Grids
import Derived.OpenShut
import Derived.SizedLaws
import Derived.Lib.SmallJoins
import Derived.Deep.Slices
import Derived.Deep.Fields
import Derived.Deep.Strs
import Derived.Test.YtogdlkfacflmaaaGreatRows
import Derived.WalkKit
namespace Go.Proofs.YtogdlkfacflmaaaGreat
set_option linter.unusedVariables false
set_option linter.unusedSimpArgs false
set_option maxRecDepth 100000
set_option maxHeartbeats 8000000
open _root_.And renaming intro→z_
open _root_.List renaming getElem?_cons_zero→y_,getElem?_cons_succ→x_,mem_append→u_,mem_singleton→r_,length_map→q_,getD_eq_getElem?_getD→p_,getElem_mem→l_,take_succ_eq_append_getElem→k_,map_append→j_,take_of_length_le→h_,getElem?_eq_some_iff→d_,replicate→b_,mem_cons→a_,getElem_map→Zx,eq_nil_of_length_eq_zero→Zu,mem_map→Zo,mem_iff_getElem→Zi,mem_of_getElem?→Zh
open _root_.Go.Proofs.Tryz renaming prog→w_,underlying25→Zp
open _root_.Nat renaming lt_of_lt_of_le→v_,le_trans→s_,le_refl→i_,zero_le→e_,eq_zero_or_pos→Zr,lt_or_ge→Zf
open _root_.Array renaming getD_eq_getD_getElem?→t_,replicate→m_,getElem?_eq_getElem→c_,all_eq_true_iff_forall_mem→Zw,getElem?_eq_none→Zl,getElem?_mapIdx→Zk,mem_of_getElem?→Zj
open _root_.Bool renaming noConfusion→o_
open _root_.Or renaming inl→n_
open _root_.Go.RowKit.Below renaming refl→g_
open _root_.Go.IntKind renaming wrap_i64→f_,i64→Zt
open _root_.Go.World renaming cell?_of_block→Zv
open _root_.Go.Region renaming wanted→Zq,binds→Zn,ready→Ze
open _root_.Int renaming le_refl→Zm
open _root_.Char renaming ofNat→Zg
variable{base G n b c k j aR jF aQ bn ia z aU bl cl c' gJ gw aX gX jo id i:Nat}{W w w' ko:World}{hs:Nat->aq}{cb:Nat->Nat}{ah ax T:List Int}{K bq:Nat->Prop}{s:j6}{a:Act}{jg:aq}{S:an}{A jw gI iq j0 A' gZ bp jm:Option Addr}{es:List mG}{t:TypeId}{a0 a1 a2 a3 a4 a5 uY uZ v:Value}{e:mO}{L:List (List Int)}{H:Type}{P:Program}{rest:List (List Char)}{ops:Array Oper}{Q:Exit->Act->World->Prop}{ws:List (List Nat)}{gW:World->Prop}{iM:Nat->Nat×Nat}{vals:Nat->Value}
section
open Go.RowKit Go.Shelf
def wD(W:World)(G:Nat)(row:Option Nat)(b:Nat):Prop:=b<W.heap.size/\b≠G/\row≠some b
theorem j5.Om{de zX:List Value}{cls:Nat->List Value}{X:Nat->List Value}(h:j5 base W G hs cb de cls n X){r:Nat}{h':aq}{ys:List Value}(f:aF (wD W G (hs r).b) W w)(s:aM w G tg zX)(t:w.ownsRow base (qZ r) (nW r) h'.v h'.n ys)(c:h'.b=(hs r).b\/∀g,h'.b=some g->W.heap.size<=g):
  j5 base w G (iH hs r h') cb zX cls n (iH X r ys):=by
 have hk:∀r' g,r'≠r->(hs r').b=some g->wD W G (hs r).b g:=λ r' g i o=>⟨(h.rows.lt o).2,λ e=>h.uz r' g o e.symm,λ e=>h.rows.apart r' r g i o e⟩
 refine⟨s,⟨λ r'=>?_,λ k l g i h1=>?_⟩,λ d m=>f.blk (h.cls d m) ⟨(h.cls d m).lt,λ e=>h.Dl m e.symm,λ e=>h.xU m r _ e rfl⟩,h.inj,h.rB,h.rW⟩
 ·by_cases e:r'=r
  ·subst e;rw[jC,jC];exact t
  ·rw[aV _ _ e,aV _ _ e];refine mK (h.rows.row r') λ b u=>f.keep b (hk r' b e ?_)
   rw[<-aq.own];exact u
 ·by_cases p:k=r
  ·subst p;rw[jC] at h1;rw[aV _ _ (λ e=>i e.symm)];rcases c with c|c
   ·rw[c] at h1;exact h.rows.apart k l g i h1
   ·intro j;have:=c g h1;have:=(h.rows.lt j).2;omega
  ·rw[aV _ _ p] at h1
   by_cases q:l=r
   ·subst q;rw[jC];intro j;rcases c with c|c
    ·rw[c] at j;exact h.rows.apart k l g i h1 j
    ·have:=c g j;have:=(h.rows.lt h1).2;omega
   ·rw[aV _ _ q];exact h.rows.apart k l g i h1
theorem aN.HX{W:World}(h:aN w (some ⟨b,0,none⟩) n c ah)(d:w.heap.size<=w'.heap.size)(hk:w'.heap[b]? =w.heap[b]?):aN w' (some ⟨b,0,none⟩) n c ah:=
 ⟨h.len,h.cap,h.mP,h.oo,λ f=>by
  obtain⟨g,off,e,h1,i⟩:=h.cells f;refine⟨g,off,e,v_ h1 d,λ j k=>?_⟩;injection e with e
  injection e with l m
  subst l m;exact(Zv (a:=⟨b,0+j,none⟩) hk).trans (i j k)⟩
theorem HY{α:Type}{l:List α}{x:α}(h:l[k]? =some x):l.set k x=l:=by
 refine List.ext_getElem? λ j=>?_
 rw[List.getElem?_set];split
 ·rename_i e;subst e;have:=(d_.1 h).1;rw[if_pos this,h]
 ·rfl
theorem wD.drop{row:Option Nat}(f:aF (wD W G row) W w)(c:Below w.heap.size w w'):aF (wD W G row) W w':=
 f.trans (aF.q4 c λ b c=>v_ c.1 f.size)
def zw(W:World)(base G:Nat)(L:List Value)(c:Option Addr)(n7 d g8 n8 e x:Nat)(i:Int)(xs:List Int)(j:Nat)(v:Value)(w:World):Prop:=
 match j with
 |0=>v=.pointer (some ⟨G,0,none⟩)
 |1=>v=.pointer (some ⟨G,0,none⟩)
 |2=>v=.pointer (some ⟨G,0,none⟩)
 |3=>v=.pointer (some ⟨G,11,none⟩)
 |4=>v=.slice (some ⟨g8,0,none⟩) n8 e
 |5=>v=.int .i64 (x:Int)
 |6=>v=.pointer (some ⟨G,0,none⟩)
 |7=>v=.pointer (some ⟨G,0,none⟩)
 |8=>v=.pointer (some ⟨G,10,none⟩)
 |9=>v=.slice c n7 d
 |10=>v=.int .i64 (x:Int)
 |11=>∃b,v=.slice (some ⟨b,0,none⟩) 1 1/\W.heap.size<=b/\aN w (some ⟨b,0,none⟩) 1 1 [(x:Int)]
 |12=>∃h:aq,v=h.v/\w.ownsRow base 3 1 h.v (n7+1) (gT (xs++[(x:Int)]))/\(h.b=c.map (·.block)\/∀g,h.b=some g->W.heap.size<=g)/\aM w G tg L
 |13=>v=.int .i64 i
 |14=>v=.pointer (some ⟨G,0,none⟩)
 |15=>v=.pointer (some ⟨G,10,none⟩)
 |16=>∃h:aq,w.ownsRow base 3 1 h.v (n7+1) (gT (xs++[(x:Int)]))/\(h.b=c.map (·.block)\/∀g,h.b=some g->W.heap.size<=g)/\aM w G tg (L.set 10 h.v)
 |17=>v=.pointer (some ⟨g8,x,none⟩)
 |_=>True
theorem zw.mono(W:World)(base G:Nat)(L:List Value)(k:Option Addr)(n7 l g8 n8 m x:Nat)(i:Int)(xs:List Int)(j:Nat)(u:Value)(w w':World)(c:Below w.heap.size w w')(h:zw W base G L k n7 l g8 n8 m x i xs j u w):zw W base G L k n7 l g8 n8 m x i xs j u w':=by
 match j,h with
 |0,h=>exact h
 |1,h=>exact h
 |2,h=>exact h
 |3,h=>exact h
 |4,h=>exact h
 |5,h=>exact h
 |6,h=>exact h
 |7,h=>exact h
 |8,h=>exact h
 |9,h=>exact h
 |10,h=>exact h
 |11,h=>obtain⟨b,h1,d,e⟩:=h;exact⟨b,h1,d,e.below c⟩
 |12,h=>obtain⟨f,h1,d,e,g⟩:=h;exact⟨f,h1,lU d c,e,g.below c⟩
 |13,h=>exact h
 |14,h=>exact h
 |15,h=>exact h
 |16,h=>obtain⟨f,d,e,g⟩:=h;exact⟨f,lU d c,e,g.below c⟩
 |17,h=>exact h
 |n+18,h=>trivial
def HZ(j:Nat):Option Nat:=if j=12 then some 16 else none
structure H6(W:World)(base G:Nat)(L:List Value)(iq:Option Addr)(n7 ia g8 n8 pF x:Nat)(i:Int)(xs:List Int):Prop where
 l10:L[10]? =some (.slice iq n7 ia)
 tv:L[11]? =some (.slice (some ⟨g8,0,none⟩) n8 pF)
 On:x<n8
 w5:n8<=1000000
 Oo:n7<=1000000
 bf:base<=W.heap.size
 bk:G<W.heap.size
 row:∀g,iq.map (·.block)=some g->g<W.heap.size/\g≠G
def CA(W:World)(G:Nat)(L:List Value)(b:Option Addr)(w:World):Prop:=aF (wD W G (b.map (·.block))) W w/\∃v,aM w G tg (L.set 10 v)
def CB(base G:Nat)(L:List Value)(b:Option Addr)(n7 c:Nat)(xs:List Int)(w:World):Prop:=w.ownsRow base 3 1 (.slice b n7 c) n7 (gT xs)/\aM w G tg L
theorem Oq(W:World)(base G:Nat)(L:List Value)(o:Option Addr)(n7 q g8 n8 V x:Nat)(i:Int)(xs:List Int)(C:H6 W base G L o n7 q g8 n8 V x i xs):
  uB w_ [some 62,some 63,some 64,some 65,some 66,some 67,some 68,some 69,some 70,some 71,some 72,some 73,some 74,some 75,some 76,some 77,none,some 78,none] [[],[],[1],[2],[3],[],[],[6],[7],[8],[],[10],[9,11],[],[0,0,4,6,7,8,9,10,11,12],[14,0,4,6,7,8,9,10,11,12],[15,12,12,0,4,6,7,8,9,10,11,12],[4,5,0,1,2,3,4,5,6,7,8,9,10,11,12,13,14,15,16],[17,13,16,0,1,2,3,4,5,6,7,8,9,10,11,12,13,14,15,16]] [(3,.pointer (some ⟨G,0,none⟩)),(5,.int .i64 (x:Int)),(4,.int .i64 i)] (CA W G L o) (zw W base G L o n7 q g8 n8 V x i xs) HZ (CB base G L o n7 q xs) 12 0 ((tq Tryz.f98 5).take 18):=by
 have ae:=zw.mono W base G L o n7 q g8 n8 V x i xs;have af:∀w w':World,Below w.heap.size w w'->CB base G L o n7 q xs w->CB base G L o n7 q xs w':=λ w w' p h=>⟨lU h.1 p,h.2.below p⟩
 have ag:∀w w':World,CA W G L o w->Below w.heap.size w w'->CA W G L o w':=λ w w' f p=>⟨wD.drop f.1 p,f.2.imp λ v h=>h.below p⟩
 refine⟨?_,?_,?_,?_,?_,?_,?_,?_,?_,?_,?_,?_,?_,?_,?_,?_,?_,?_,trivial⟩
 ·intro vals w j f m d l hp;have y:j (.tmp 3)=_:=l.1 rfl;simp only[aZ,execOp,y];simp[gE,go_sem];exact .same f rfl
 ·intro vals w j f m d l hp;have y:j (.tmp 3)=_:=l.1 rfl;simp only[aZ,execOp,y];simp[gE,go_sem];exact .same f rfl
 ·intro vals w j f m d l hp;obtain⟨⟨f1,B⟩,-⟩:=(⟨d.1 rfl,d.2⟩:_/\_)
  have B:j (.tmp 63)=vals 1:=B _ rfl;have f1:vals 1=_:=f1 (n_ rfl);rw[f1] at B;simp only[aZ,execOp,B];simp[gE,go_sem];exact .same f rfl
 ·intro vals w j f m d l hp;obtain⟨⟨f2,D⟩,-⟩:=(⟨d.1 rfl,d.2⟩:_/\_)
  have D:j (.tmp 64)=vals 2:=D _ rfl;have f2:vals 2=_:=f2 (n_ rfl);rw[f2] at D;simp only[aZ,execOp,D];simp[gE,go_sem];exact .same f rfl
 ·intro vals w j f m d l hp;obtain⟨⟨f3,E⟩,-⟩:=(⟨d.1 rfl,d.2⟩:_/\_)
  have E:j (.tmp 65)=vals 3:=E _ rfl;have f3:vals 3=_:=f3 (n_ rfl);rw[f3] at E;obtain⟨v0,ah⟩:=f.2;have z:=ah.cell 11;rw[List.getElem?_set_ne (by decide),C.tv] at z;simp only[aZ,execOp,E];simp[gE,go_sem,z];exact .same f rfl
 ·intro vals w j f m d l hp;have X:j (.tmp 5)=_:=l.2.1 rfl;simp only[aZ,execOp,X];simp[gE,go_sem];exact .same f rfl
 ·intro vals w j f m d l hp;have y:j (.tmp 3)=_:=l.1 rfl;simp only[aZ,execOp,y];simp[gE,go_sem];exact .same f rfl
 ·intro vals w j f m d l hp;obtain⟨⟨f6,F⟩,-⟩:=(⟨d.1 rfl,d.2⟩:_/\_)
  have F:j (.tmp 68)=vals 6:=F _ rfl;have f6:vals 6=_:=f6 (n_ rfl);rw[f6] at F;simp only[aZ,execOp,F];simp[gE,go_sem];exact .same f rfl
 ·intro vals w j f m d l hp;obtain⟨⟨f7,H⟩,-⟩:=(⟨d.1 rfl,d.2⟩:_/\_)
  have H:j (.tmp 69)=vals 7:=H _ rfl;have f7:vals 7=_:=f7 (n_ rfl);rw[f7] at H;simp only[aZ,execOp,H];simp[gE,go_sem];exact .same f rfl
 ·intro vals w j f m d l hp;obtain⟨⟨f8,I⟩,-⟩:=(⟨d.1 rfl,d.2⟩:_/\_)
  have I:j (.tmp 70)=vals 8:=I _ rfl;have f8:vals 8=_:=f8 (n_ rfl);rw[f8] at I;have z:=(m (n_ rfl)).2.cell 10;rw[C.l10] at z;simp only[aZ,execOp,I];simp[gE,go_sem,z];exact .same f rfl
 ·intro vals w j f m d l hp;have X:j (.tmp 5)=_:=l.2.1 rfl;simp only[aZ,execOp,X];simp[gE,go_sem];exact .same f rfl
 ·intro vals w j f m d l hp;obtain⟨⟨f10,J⟩,-⟩:=(⟨d.1 rfl,d.2⟩:_/\_)
  have J:j (.tmp 72)=vals 10:=J _ rfl;have f10:vals 10=_:=f10 (n_ rfl);rw[f10] at J;simp only[aZ,execOp,List.map_toArray,List.map_cons,List.map_nil,J];simp[gE,go_sem];exact .more ae af (bg w _) (ag w _ f (bg w _)) ⟨w.heap.size,rfl,f.1.size,aN.lit w [(x:Int)] 1 _ rfl rfl (by omega)⟩
 ·intro vals w j f m d l hp;obtain⟨⟨f9,K⟩,⟨f11,M⟩,-⟩:=(⟨d.1 rfl,d.2.1 rfl,d.2.2⟩:_/\_/\_)
  have K:j (.tmp 71)=vals 9:=K _ rfl;have M:j (.tmp 73)=vals 11:=M _ rfl;have f9:vals 9=_:=f9 (n_ rfl);obtain⟨b,f11,r,t⟩:∃b,vals 11=.slice (some ⟨b,0,none⟩) 1 1/\W.heap.size<=b/\aN w (some ⟨b,0,none⟩) 1 1 [(x:Int)]:=f11 (n_ rfl);rw[f9] at K;rw[f11] at M;have ar:=C.Oo;obtain⟨i1,i2⟩:=m (Or.inr rfl);obtain⟨v',w',g1,g2⟩:=zL w 25 base (.slice o n7 q) n7 xs i1 (some ⟨b,0,none⟩) 1 1 [(x:Int)] t (by omega) (s_ C.bf f.1.size);simp only[aZ,execOp,resolve,invoke,builtin,Sem.run_bind,Sem.run_pure,Result.andThen_ok,List.map_toArray,List.map_cons,List.map_nil,K,M,g1,gE];obtain⟨h',ai,au⟩:=aq.lq g2.1;subst ai;have ab:(Value.slice o n7 q).ownBlock=o.map (·.block):=aq.own ⟨o,n7,q⟩;have A:=g2.2.1;rw[ab] at A;have c:aM w' G tg L:=i2.kept A (λ e=>(C.row G e.symm).2 rfl);refine⟨⟨f.1.trans (aF.grown A (λ b p=>v_ p.1 f.1.size) (λ b e hk=>hk.2.2 e)),.slice o n7 q,by rw[HY C.l10];exact c⟩,⟨h',rfl,g2.1,?_,c⟩,λ k u hk _ s _ c=>?_,λ h _=>absurd rfl h⟩
  ·rcases g2.2.2 with Y|Y
   ·left;rw[<-aq.own,Y,ab]
   ·right;intro g e;rw[<-aq.own,Y] at e;injection e with e
    have:=f.1.size;omega
  ·match k,c,hk,s with
   |0,c,_,_=>exact c
   |1,c,_,_=>exact c
   |2,c,_,_=>exact c
   |3,c,_,_=>exact c
   |4,c,_,_=>exact c
   |5,c,_,_=>exact c
   |6,c,_,_=>exact c
   |7,c,_,_=>exact c
   |8,c,_,_=>exact c
   |9,c,_,_=>exact c
   |10,c,_,_=>exact c
   |11,c,_,_=>obtain⟨b,Z,aa,N⟩:=c;exact⟨b,Z,aa,N.HX (W:=W) A.size (A.block b (by obtain⟨av,off,e,h1,r⟩:=N.cells (by omega);injection e with e;injection e with e;omega) (λ e=>by have:=(C.row b e.symm).1;omega))⟩
   |12,c,hk,_=>exact absurd rfl hk
   |13,c,_,_=>exact c
   |14,c,_,_=>exact c
   |15,c,_,_=>exact c
   |16,c,_,s=>exact absurd s (by decide)
   |17,c,_,_=>exact c
   |n+18,c,_,_=>trivial
 ·intro vals w j f m d l hp;have aj:j (.tmp 4)=_:=l.2.2.1 rfl;simp only[aZ,execOp,aj];simp[gE,go_sem];exact .same f rfl
 ·intro vals w j f m d l hp;obtain⟨⟨f0,O⟩,-⟩:=(⟨d.1 rfl,d.2⟩:_/\_)
  have O:j (.tmp 62)=vals 0:=O _ rfl;have f0:vals 0=_:=f0 (n_ rfl);rw[f0] at O;simp only[aZ,execOp,O];simp[gE,go_sem];exact .same f rfl
 ·intro vals w j f m d l hp;obtain⟨⟨f14,P⟩,-⟩:=(⟨d.1 rfl,d.2⟩:_/\_)
  have P:j (.tmp 76)=vals 14:=P _ rfl;have f14:vals 14=_:=f14 (n_ rfl);rw[f14] at P;simp only[aZ,execOp,P];simp[gE,go_sem];exact .same f rfl
 ·intro vals w j f m d l hp;obtain⟨⟨f15,Q⟩,⟨f12,R⟩,-⟩:=(⟨d.1 rfl,d.2.1 rfl,d.2.2⟩:_/\_/\_)
  have Q:j (.tmp 77)=vals 15:=Q _ rfl;have R:j (.tmp 74)=vals 12:=R _ rfl;have f15:vals 15=_:=f15 (n_ rfl);obtain⟨⟨S,jI,c9⟩,f12,h1,r,t⟩:∃h:aq,vals 12=h.v/\w.ownsRow base 3 1 h.v (n7+1) (gT (xs++[(x:Int)]))/\(h.b=o.map (·.block)\/∀g,h.b=some g->W.heap.size<=g)/\aM w G tg L:=f12 (Or.inr rfl);replace f12:vals 12=.slice S jI c9:=f12;rw[f15] at Q;rw[f12] at R;have ad:=t.cell 10;rw[C.l10] at ad;have ak:=t.free 10;simp only[aZ,execOp,Q,R];simp[gE,go_sem,ad,ak];have aw:=C.bk;have al:=kK w G 10 (.slice S jI c9);refine⟨⟨f.1.trans (aF.set G 10 _ (λ hk=>hk.2.1 rfl)),.slice S jI c9,t.set 10 _⟩,⟨⟨S,jI,c9⟩,mK h1 (λ b p=>?_),r,t.set 10 _⟩,λ k u hk d s _ c=>?_,λ _ s _=>absurd s (by decide)⟩
  ·refine Below.heap_setCell _ _ _ _ (λ e=>?_);have e:G=b:=e.symm;subst e;rw[aq.own] at p;rcases r with r|r
   ·rw[r] at p;exact(C.row _ p).2 rfl
   ·have:=r _ p;omega
  ·match k,c,hk,d,s with
   |0,c,_,_,_=>exact c
   |1,c,_,_,_=>exact c
   |2,c,_,_,_=>exact c
   |3,c,_,_,_=>exact c
   |4,c,_,_,_=>exact c
   |5,c,_,_,_=>exact c
   |6,c,_,_,_=>exact c
   |7,c,_,_,_=>exact c
   |8,c,_,_,_=>exact c
   |9,c,_,_,_=>exact c
   |10,c,_,_,_=>exact c
   |11,c,_,_,_=>obtain⟨b,Z,aa,N⟩:=c;exact⟨b,Z,aa,N.HX (W:=W) al.size (Below.heap_setCell _ _ _ _ (show b≠G by omega))⟩
   |12,c,_,d,_=>exact absurd rfl d
   |13,c,_,_,_=>exact c
   |14,c,_,_,_=>exact c
   |15,c,_,_,_=>exact c
   |16,c,hk,_,_=>exact absurd rfl hk
   |17,c,_,_,_=>exact c
   |n+18,c,_,_,_=>trivial
 ·intro vals w j f m d l hp;obtain⟨⟨f4,T⟩,⟨f5,U⟩,-⟩:=(⟨d.1 rfl,d.2.1 rfl,d.2.2⟩:_/\_/\_)
  have T:j (.tmp 66)=vals 4:=T _ rfl;have f4:vals 4=_:=f4 (n_ rfl);rw[f4] at T;have U:j (.tmp 67)=vals 5:=U _ rfl;have f5:vals 5=_:=f5 (n_ rfl);rw[f5] at U;have an:(x:Int)<(n8:Int):=by have:=C.On;omega
  have ao:(0:Int)<=x:=by omega
  simp only[aZ,execOp,T,U];simp[gE,go_sem,an,ao];exact .same f rfl
theorem aP.Ot{s:an}(h:aP K base W G hs cb s){h':aq}{x:Int}
  (f:aF (wD W G (hs 7).b) W w) (i:aM w G tg ((rA hs s).set 10 h'.v)) (j:w.ownsRow base 3 1 h'.v (s.ord.length+1) (gT (s.ord++[x]))) (c:h'.b=(hs 7).b\/∀g,h'.b=some g->W.heap.size<=g):
  aP K base w G (iH hs 7 h') cb (s.vD x)/\aF K W w:=by
 have k:=wB j;have l:w.ownsRow base (qZ 7) (nW 7) h'.v h'.n (gT (s.ord++[x])):=by rw[k];exact j
 have m:=h.e.Om (r:=7) f i l c;refine⟨⟨m.eq rfl rfl rfl (λ d _=>(we hs s (by omega) _ d).symm) rfl (λ r=>?_),(h.s.iS (r:=7) (h':=h') (λ g e hk=>?_)).more f.size⟩,f.mono (λ b i=>⟨h.s.lt b i,λ e=>h.s.g (e▸i),λ e=>h.s.row 7 b e i⟩)⟩
 ·rw[v8 hs cb _ (by omega)]
  by_cases e:r=7
  ·subst e;rw[jC];rfl
  ·rw[aV _ _ e];simp only[cont,if_neg e,an.vD]
 ·rcases c with c|c
  ·exact h.s.row 7 g (c▸e) hk
  ·have:=c g e;have:=h.s.lt g hk;omega
def rj(n:Nat)(act:List Int)(b:Int)(c:List Bool)(d:List nc)(e:aq)(ord:List Int)(k:Nat):an:=
 {qD n act b c d e with ord:=ord.take k,pl:=uK n ord k}
theorem Ou(n:Nat)(act:List Int)(b:Int)(c:List Bool)(d:List nc)(e:aq)(ord:List Int)(k:Nat)(hk:k<ord.length):((rj n act b c d e ord k).vD (ai ord k)).pY (ai ord k).toNat (k:Int)=rj n act b c d e ord (k+1):=by
 unfold rj;rw[Cs,tK ord k hk];rfl
end
section
theorem pE.take{c:Core}(h:pE c)(l:List Int)(b:Bool):pE (pP c l b):=by
 unfold pP;have e:pE (kj c l):=h.new l;have g:∀c':Core,pE c'->pE (wR c'):=λ c' h=>h
 split
 ·exact h
 ·split
  ·exact g _ h
  ·split
   ·split
    ·exact g _ e
    ·split
     ·refine e.set _ λ d f=>?_
      injection f with f
      subst f;show c.cl.length<(c.cl++[l]).length;simp
     ·exact e
   ·exact e
theorem H7(s:an)(l:List Int)(b:Bool)(x:sq):s.c.cl.length<=(s.oL l b x).c.cl.length/\(s.oL l b x).c.cl.length<=s.c.cl.length+1:=by
 have e:(s.oL l b x).c.cl=if b=true\/l.length=0 then s.c.cl else s.c.cl++[l]:=BB _ _ _
 rw[e];split
 ·omega
 ·simp
theorem vg.oL{F Fd:List (List Int)}{n:Nat}{s:an}(h:vg s){l:List Int}{b:Bool}{x:sq}(H:yX F Fd n (s.oL l b x)):vg (s.oL l b x):=
 ⟨pE.take h.qO l b,λ k d c=>(H.gH.wt.qX k d c).1,λ d c=>v_ (h.wl d c) (H7 s l b x).1⟩
theorem pM.mem{F:List (List Int)}{g:List Int}(h:g∈F):pM F g:=λ M b=>b.2 g h
theorem Ov{a b:List Int}(c:n<=65536)(d:∀x∈a,gF n x)(e:∀x∈b,gF n x)(h:xZ (kX a) (kX b)):xZ a b:=λ x=>by
 rw[<-Ct c d,<-Ct c e];exact h x
structure tI(n:Nat)(s:j6)(jg:aq)(j k:Nat)(S:an):Prop where
 l8:yX s.gs (s.gs.take j++(s.es.take k).map (·.r.ah)) n S
 cb:vg S
 act:S.act=s.act
 aW:S.aW=s.aW
 ord:S.ord=s.ord
 pl:S.pl=uK n s.ord n
 bH:S.bH=s.bH
 aD:S.aD=s.aD.map n5
 aK:S.aK=b_ (n+1) false
 nl:S.nl=[]
 jg:S.jg=some jg
 kW:S.aJ.length=k
 H8:S.aJ.map (aA S.c.cl)=(s.es.take k).map λ e=>kX e.r.ah
 wv:S.c.cl.length<=j+k
theorem tI.init{n:Nat}{s:j6}{jg:aq}(O:ox n s):tI n s jg 0 0 (rj n s.act s.aW s.bH (s.aD.map n5) jg s.ord n):=by
 have c:∀v,ai (b_ (n+1) 0) v=0:=yW _;refine⟨⟨?_,rfl,rfl,rfl,c 0,rfl,λ d=>?_⟩,⟨λ v d b=>?_,λ k d b=>?_,λ d b=>(by cases b)⟩,rfl,rfl,?_,rfl,rfl,rfl,rfl,rfl,rfl,rfl,rfl,i_ _⟩
 ·exact kf.init s.gs n
 ·show 0<=(([]:List sq).getD d ⟨false,0,0⟩).ac/\_;have e:∀d,lE (rj n s.act s.aW s.bH (s.aD.map n5) jg s.ord n) d=⟨false,0,0⟩:=λ d=>by
   show([]:List sq).getD d ⟨false,0,0⟩=_;rfl
  rw[e];unfold jl;exact⟨Zm _,by decide,Zm _,by decide⟩
 ·have:mw (b_ (n+1) none) v=none:=by
   unfold mw;rw[p_,List.getElem?_replicate];split<;>rfl
  have b:mw (b_ (n+1) none) v=some d:=b;rw[this] at b;cases b
 ·have b:d∈aA (b_ (2*n+2) []) k:=b;rw[BI] at b;cases b
 ·show s.ord.take n=s.ord;exact h_ (by rw[O.hk.pG];exact i_ _)
theorem tI.given(H:tI n s jg j 0 S)(O:ox n s)(c:n<=65536)(b:j<s.gs.length):tI n s jg (j+1) 0 (S.oL (kX (oR s.gs j)) (sD (kX (oR s.gs j))) ⟨false,0,0⟩):=by
 have hm:oR s.gs j∈s.gs:=zI b;have h1:=H.l8.take (HM c (O.bk _ hm) (pM.mem hm)) (x:=⟨false,0,0⟩) (by unfold jl;exact⟨Zm _,by decide,Zm _,by decide⟩);have e:s.gs.take j++(s.es.take 0).map (·.r.ah)++[oR s.gs j]=s.gs.take (j+1)++(s.es.take 0).map (·.r.ah):=by
  rw[CS _ _ b];simp
 rw[e] at h1;refine⟨h1,H.cb.oL h1,H.act,H.aW,H.ord,H.pl,H.bH,H.aD,H.aK,H.nl,H.jg,H.kW,?_,by have:=(H7 S (kX (oR s.gs j)) (sD (kX (oR s.gs j))) ⟨false,0,0⟩).2;have:=H.wv;omega⟩;have d:S.aJ=[]:=Zu H.kW;show S.aJ.map _=_;rw[d];rfl
theorem tI.Ow(H:tI n s jg j k S)(O:ox n s)(g:n<=65536)(hk:k<s.es.length):tI n s jg j (k+1) ((S.uW S.c.cl.length).oL (kX s.es[k].r.ah) (sD (kX s.es[k].r.ah)) ⟨true,s.es[k].aS,s.es[k].ac⟩):=by
 have hm:s.es[k]∈s.es:=l_ hk;obtain⟨ok,aS,ac⟩:=O.wA _ hm;obtain⟨i,l⟩:=NY g ok;have m:yX s.gs (s.gs.take j++(s.es.take k).map (·.r.ah)) n (S.uW S.c.cl.length):=⟨H.l8.gH,H.l8.gV,H.l8.st,H.l8.ag,H.l8.v0,H.l8.nX,H.l8.qg⟩
 have h1:=m.take (HM g ok.lt (O.Eu _ hm)) (x:=⟨true,s.es[k].aS,s.es[k].ac⟩) ⟨ac.1,ac.2,aS.1,aS.2⟩;have e:s.gs.take j++(s.es.take k).map (·.r.ah)++[s.es[k].r.ah]=s.gs.take j++(s.es.take (k+1)).map (·.r.ah):=by
  rw[k_ hk,j_,List.append_assoc];rfl
 rw[e] at h1;have b:=KM (S.uW S.c.cl.length) (kX s.es[k].r.ah) ⟨true,s.es[k].aS,s.es[k].ac⟩ l H.l8.nX;have hold:=λ d ag=>KL (S.uW S.c.cl.length) (kX s.es[k].r.ah) false ⟨true,s.es[k].aS,s.es[k].ac⟩ (d:=d) ag H.l8.nX
 rw[i] at h1⊢;have o:vg ((S.uW S.c.cl.length).oL (kX s.es[k].r.ah) false ⟨true,s.es[k].aS,s.es[k].ac⟩):=by
  refine⟨pE.take H.cb.qO _ _,λ k d ag=>(h1.gH.wt.qX k d ag).1,λ d ag=>?_⟩;have ag:d∈S.aJ++[S.c.cl.length]:=ag;have p:((S.uW S.c.cl.length).oL (kX s.es[k].r.ah) false ⟨true,s.es[k].aS,s.es[k].ac⟩).c.cl.length=S.c.cl.length+1:=b.1;rcases u_.1 ag with f|f
  ·have:=H.cb.wl d f;omega
  ·rw[r_.1 f];omega
 refine⟨h1,o,H.act,H.aW,H.ord,H.pl,H.bH,H.aD,H.aK,H.nl,H.jg,?_,?_,?_⟩
 ·show(S.aJ++[S.c.cl.length]).length=_;rw[List.length_append,H.kW];rfl
 ·show(S.aJ++[S.c.cl.length]).map _=_;rw[j_,k_ hk,j_,<-H.H8]
  congr 1
  ·refine List.map_congr_left λ d ag=>?_
   exact(hold d (H.cb.wl d ag)).1
  ·show [aA _ S.c.cl.length]=[kX s.es[k].r.ah]
   rw[show aA ((S.uW S.c.cl.length).oL (kX s.es[k].r.ah) false ⟨true,s.es[k].aS,s.es[k].ac⟩).c.cl S.c.cl.length=kX s.es[k].r.ah from b.2.1]
 ·have p:((S.uW S.c.cl.length).oL (kX s.es[k].r.ah) false ⟨true,s.es[k].aS,s.es[k].ac⟩).c.cl.length=S.c.cl.length+1:=b.1;have:=H.wv;omega
theorem tI.jX(H:tI n s jg s.gs.length s.es.length S)(O:ox n s)(k:n<=65536)(e:List Int):mj s.gs e n s.es.length S 0 S.c.ag:=by
 have T:=H.l8.gH.au;have f:=H.l8.st;have hk:=O.hk;rw[H.l8.ag];refine⟨⟨T,⟨H.l8.gH.jG.mD,H.l8.gH.jG.imp,λ g m=>H.l8.gH.jG.tP g (by rw[h_ (i_ _)];exact u_.2 (.inl m)),H.l8.gH.jG.tQ,H.l8.gH.jG.tR⟩,H.l8.gH.wt,H.l8.gH.rR,H.l8.gH.rS,H.l8.gH.cur,H.l8.gH.hle⟩,?_,nK.low T f e,qu.zero f,λ v h1 i j=>?_,H.aK,?_,H.kW,λ l hl=>?_,H.l8.v0,H.cb.qO⟩
 ·refine⟨H.l8.gV,?_,by rw[H.act];exact hk.kM,λ v=>by rw[H.act];exact hk.pR v,by rw[H.act];exact hk.a0,by rw[H.aW];exact hk.gR.1,by rw[H.aW];exact hk.gR.2,by rw[H.bH];exact O.nE,by rw[H.bH];exact O.oV,H.l8.nX,λ d=>?_,H.cb.wl⟩
  ·rw[H.ord,H.pl];exact hk.lJ
  ·have:=H.l8.qg d;refine⟨this.1,?_,this.2.2.1,this.2.2.2⟩;have q:=this.2.1;unfold jl at*;omega
 ·rw[H.pl];exact Ek _ _ _ _
 ·rw[H.H8,h_ (i_ _)];have h1:=O.Cx;rw[List.pairwise_map] at h1⊢;refine(List.Pairwise.and_mem.1 h1).imp ?_;rintro a b ⟨o,p,i⟩ j;exact i (Ov k (O.wA a o).1.lt (O.wA b p).1.lt j)
 ·rw[H.nl] at hl;cases hl
end
section
open Go.RowKit Go.Shelf
theorem nM.in(g:nM w A aR c es)(l:Below w.heap.size w W)(m:∀b,A.map (·.block)=some b->0<aR->K b)(n:S.jg=some ⟨A,aR,aR⟩)(k:S.aD=es.map n5)(t:A=none->aR=0)(o:A≠none->∃b off,A=some ⟨b,off,none⟩):o4 K W S:=by
 intro h i;rw[n] at i;injection i with i
 subst i;refine⟨by rw[k,q_];exact g.len.symm,rfl,?_⟩;rcases Zr aR with d|d
 ·rcases Classical.em (A=none) with e|e
  ·exact .inl ⟨e,d⟩
  ·obtain⟨b,off,he⟩:=o e;refine .inr ⟨b,off,he,λ h=>by have h:0<aR:=h;omega,λ j u f=>?_⟩;have:es=[]:=Zu (by rw[g.len];exact d);rw[k,this] at f;simp[mg] at f
 ·obtain⟨b,off,e,q,r⟩:=g.cells d;refine .inr ⟨b,off,e,λ d=>m b (by rw[e];rfl) d,λ j u f=>?_⟩;rw[k,HS] at f;have s:j<aR*2:=by
   have:=(d_.1 f).1;rw[ym,g.len] at this;exact this
  exact(l.cell (p:=⟨b,off+j,none⟩) q).trans ((r j s).trans f)
theorem nM.lines(d:nM w A aR c es)(f:Below w.heap.size w W)(g:∀e∈es,∀b,e.r.A.map (·.block)=some b->0<e.r.n->K b){F:List (List Int)}(i:∀p∈es,uG F n p.jf p.r.ah):∀p∈es.map n5,qj K W n F p:=by
 intro p hp;obtain⟨e,he,rfl⟩:=Zo.1 hp;have j:=d.rows e he;exact⟨⟨e.r.ah,j.below f,i e he⟩,λ b k l=>g e he b k l⟩
def yo(w W:World)(A:Option Addr)(b c:Nat)(es:List mG):Prop:=(b=c\/W.ownsRow w.heap.size 126 2 (.slice A b c) b (nk es))/\(A=none->b=0/\c=0)
structure AM(w:World)(s:j6)(j0:Option Addr)(cl:Nat)(A:Option Addr)(c:Nat)(A':Option Addr)(c':Nat)(gZ:Option Addr)(gJ:Nat):Prop where
 es:r8 w j0 s.es.length cl s.es
 act:aN w A s.act.length c s.act
 ord:aN w A' s.ord.length c' s.ord
 bH:kS w gZ s.bH.length gJ s.bH
 rows:∀e∈s.aD,aN w e.r.A e.r.n e.r.c e.r.ah
def CC(nT:Nat->Prop)(c:Option Addr)(d e b:Nat):Prop:=nT b/\(d≠e->c.map (·.block)≠some b)
theorem H9(P:o4 K W S)(c:oc hs S=.slice jw aR jF)(g:aR≠jF):(hs 11).b=jw.map (·.block):=by
 have d:(hs 11).v=.slice jw aR jF:=by
  rw[<-c];unfold oc
  cases e:S.jg with
  |none=>rfl
  |some h=>
   exfalso;obtain⟨h1,i,_⟩:=P h e;have f:oc hs S=h.v:=by unfold oc;rw[e]
   rw[f] at c;unfold aq.v at c;injection c with d1 d2 d3
   omega
 unfold aq.v at d;injection d with d1
 unfold aq.b;rw[d1]
theorem Ox{nT:Nat->Prop}{gy h:Nat}{es:List mO}
  (aj:∀W,aF nT ko W->∀e∈s.aD,aN W e.r.A e.r.n e.r.c e.r.ah) (O:ox n s) (y:n<=10) (ak:w.heap.size<=base) (E:∀W,aF nT ko W->aP K base W G hs cb S) (j:mj s.gs ax n gy S aQ h) (X:∀W,aF nT ko W->r8 W A es.length c es) (Y:es.length=S.aJ.length) (N:∀(i:Nat)(h:i<es.length),Cq S i es[i]) (Z:∀W,aF nT ko W->aN W iq n ia ((pL S.act (n4 n)).map (·.1)))
  (al:∀r b,(hs r).b=some b->nT b) (aa:∀q,(hs 11).b=some q->∀W,aF (λ b=>nT b/\b≠q) ko W->r8 W A es.length c es/\aN W iq n ia ((pL S.act (n4 n)).map (·.1))) (ao:∀p∈S.aD,∀b,p.h.b=some b->0<p.h.n->∀r,(hs r).b≠some b)
  (P:∀W,aF nT ko W->o4 K W S) (L:∀p∈S.aD,qj nT ko n s.gs p) (ar:s.aD.map n5<+:S.aD) (aK:S.aD.length<=1099511627776) (au:gy=s.es.length):
  ∃(s':j6)(Q:Option Addr)(c6:Nat)(R:Option Addr)(c9:Nat)(k:Option Addr)(m:Nat),(hs 6).v=.slice Q (n+1) c6/\(hs 9).v=.slice R (n+1) c9/\oc hs S=.slice k s'.aD.length m/\s'.aW=S.aW/\s'.es=es/\s'.gs=s.gs/\ox n s'/\s'.es.length=s.es.length+aQ/\s.aD<+:s'.aD/\s'.aD.length=S.aD.length/\(k≠none->∃b off,k=some ⟨b,off,none⟩)/\(∀W,aF nT ko W->(mc W gI s.gs.length bn s.gs->qB W s' gI bn A c Q c6 iq ia R c9 k m)/\yo w W k s'.aD.length m s'.aD)/\
   ∀W,aF (CC nT k s'.aD.length m) ko W->AM W s' A c Q c6 iq ia R c9:=by
 obtain⟨rest,ab⟩:=ar;obtain⟨l,av,o⟩:=HT (K:=nT) (w:=ko) (n:=n) (F:=s.gs) rest (λ p hp=>L p (by rw[<-ab];exact u_.2 (.inr hp)));have z:(s.aD++l).map n5=S.aD:=by rw[j_,av,ab]
 have hlen:(s.aD++l).length=S.aD.length:=by rw[<-z,q_]
 have H:∀W,aF nT ko W->∀e∈s.aD++l,aN W e.r.A e.r.n e.r.c e.r.ah:=λ W d e he=>by
  rcases u_.1 he with h1|h1
  ·exact aj W d e h1
  ·exact(o e h1).2.iQ d (λ b g y=>(L (n5 e) (by rw[<-z];exact List.mem_map_of_mem he)).blk b g y)
 obtain⟨k,m,T,_,_,_,aw⟩:=(E ko aF.refl).HU (P ko aF.refl) z (H ko aF.refl) (by omega);have ad:∀W,aF nT ko W->nM W k (s.aD++l).length m (s.aD++l)/\yo w W k (s.aD++l).length m (s.aD++l):=λ W d=>by
  obtain⟨aL,aM,ae,ay,az,aB,_⟩:=(E W d).HU (P W d) z (H W d) (by omega);rw[T] at ae;injection ae with d1 d2 d3
  subst d1 d3;exact⟨ay,⟨az.imp id (λ h=>yQ h ak),aB⟩⟩
 have U:=E ko aF.refl;have t:=j.rg.kM;obtain⟨a1,_⟩:=U.HO (by omega);have a2:=λ W d=>((E W d).HO (by omega)).2
 have u:=j.rg.nE;obtain⟨af,_⟩:=U.HP (by omega);have I:=λ W d=>((E W d).HP (by omega)).2
 rw[t] at a1;simp only[t] at a2;rw[u] at af;simp only[u] at I;have aC:S.c.n=n:=j.rg.gV;have J:q9 n S.act ((pL S.act (n4 n)).map (·.1)) S.aW:=q9.sorted t j.rg.a0 j.rg.pR ⟨j.rg.rG,j.rg.oU⟩ (by omega);have aE:es.map (·.r.ah)=S.aJ.map (aA S.c.cl):=by
  refine List.ext_getElem (by rw[q_,q_,Y]) λ i h1 M=>?_
  rw[q_] at h1 M;rw[Zx,Zx,(N i h1).1,vz M]
 have ag:∀i (h:i<es.length),gO S.aJ i<S.c.cl.length:=λ i h=>j.rg.kW _ (by rw[vz (by omega)];exact l_ _)
 refine⟨⟨n,s.gs,es,S.act,(pL S.act (n4 n)).map (·.1),S.aW,S.bH,s.aD++l⟩,_,_,_,_,k,m,a1,af,T,rfl,rfl,rfl,⟨rfl,O.g1,O.bk,J,u,j.rg.oV,λ e he=>?_,λ e he=>?_,?_,λ p hp=>?_⟩,by show es.length=_;rw[Y,j.pG,au],List.prefix_append _ _,hlen,aw,λ W d=>⟨λ aG=>⟨aG,X W d,by show aN W _ S.act.length _ S.act;rw[t];exact a2 W d,by show aN W _ ((pL S.act (n4 n)).map (·.1)).length _ _;rw[J.pG];exact Z W d,by show kS W _ S.bH.length _ S.bH;rw[u];exact I W d,(ad W d).1⟩,(ad W d).2⟩,λ W d=>?_⟩
 ·obtain⟨i,B,rfl⟩:=Zi.1 he;obtain⟨h1,M,aH⟩:=N i B;have C:=j.gH.jG.mD _ (ag i B);rw[aC] at C;have g:=j.rg.qg (gO S.aJ i);rw[h1,M,aH];refine⟨C,⟨g.2.2.1,g.2.2.2⟩,?_⟩;have aO:=g.1;unfold jl at*;omega
 ·obtain⟨i,B,rfl⟩:=Zi.1 he;rw[(N i B).1];exact j.gH.jG.imp _ (ag i B)
 ·show(es.map (·.r.ah)).Pairwise _;rw[aE];exact j.w6
 ·rcases u_.1 hp with h1|h1
  ·exact O.xD p h1
  ·exact(o p h1).1
 ·have all:aF nT ko W->AM W ⟨n,s.gs,es,S.act,(pL S.act (n4 n)).map (·.1),S.aW,S.bH,s.aD++l⟩ A c (hs 6).A (hs 6).c iq ia (hs 9).A (hs 9).c:=λ d=>
   ⟨X W d,by show aN W _ S.act.length _ S.act;rw[t];exact a2 W d,by show aN W _ ((pL S.act (n4 n)).map (·.1)).length _ _;rw[J.pG];exact Z W d,by show kS W _ S.bH.length _ S.bH;rw[u];exact I W d,H W d⟩
  by_cases C:(s.aD++l).length=m
  ·exact all (d.mono λ b g=>⟨g,λ h=>absurd C h⟩)
  ·have D:=H9 (P ko aF.refl) T C
   cases V:k.map (·.block) with
   |none=>exact all (d.mono λ b g=>⟨g,λ _ e=>by rw[V] at e;cases e⟩)
   |some q=>
    rw[V] at D;have f:aF (λ b=>nT b/\b≠q) ko W:=d.mono λ b g=>⟨g.1,λ _ e=>by rw[V] at e;injection e with e;exact g.2 e.symm⟩
    have ai:∀r,r≠11->∀b,(hs r).b=some b->nT b/\b≠q:=λ r aI b e=>⟨al r b e,λ o=>U.e.rows.apart r 11 b aI e (by rw[D,o])⟩
    refine⟨(aa q D W f).1,?_,?_,?_,λ e he=>?_⟩
    ·show aN W _ S.act.length _ S.act;rw[t];exact(a2 ko aF.refl).iQ f (λ b e _=>ai 6 (by decide) b e)
    ·show aN W _ ((pL S.act (n4 n)).map (·.1)).length _ _;rw[J.pG];exact(aa q D W f).2
    ·show kS W _ S.bH.length _ S.bH;rw[u];exact(I ko aF.refl).iQ f (λ b e=>ai 9 (by decide) b e)
    ·have hm:n5 e∈S.aD:=by rw[<-z];exact List.mem_map_of_mem he
     exact(H ko aF.refl e he).iQ f (λ b g y=>⟨(L (n5 e) hm).blk b g y,λ o=>ao (n5 e) hm b g y 11 (by rw[D,o])⟩)
end
section
open Go.RowKit Go.Shelf
def vn:List Value:=[.int .i64 0,.slice none 0 0,.slice none 0 0,.int .i64 0]
def s5(W:World)(z:Nat):Prop:=∃t cs,aM W z t cs/\∀u∈cs,u=.int .i64 0\/u=.slice none 0 0
theorem s5.int{W:World}{z off:Nat}{x:Int}(h:s5 W z)(b:W.cell? ⟨z,off,none⟩=some (.int .i64 x)):x=0:=by
 obtain⟨t,cs,c,d⟩:=h;rw[c.cell off] at b;rcases d _ (Zh b) with e|e
 ·injection e
 ·cases e
theorem s5.bool{W:World}{z off:Nat}{x:Bool}(h:s5 W z)(b:W.cell? ⟨z,off,none⟩=some (.bool x)):False:=by
 obtain⟨t,cs,c,d⟩:=h;rw[c.cell off] at b;rcases d _ (Zh b) with e|e<;>cases e
theorem aN.lt(h:aN w A n c ah):∀b,A.map (·.block)=some b->0<n->b<w.heap.size:=λ b e d=>by
 obtain⟨g,off,f,h1,_⟩:=h.cells d;rw[f] at e;injection e with e
 exact e▸h1
theorem nM.lt(h:nM w A n c es):∀b,A.map (·.block)=some b->0<n->b<w.heap.size:=λ b e d=>by
 obtain⟨g,off,f,h1,_⟩:=h.cells d;rw[f] at e;injection e with e
 exact e▸h1
theorem aN.yp(h:aN W A n c ah)(f:∀x∈ah,x≠0)(g:s5 W z):∀b,A.map (·.block)=some b->0<n->b≠z:=by
 intro b e d i;obtain⟨j,off,k,h1,l⟩:=h.cells d;rw[k] at e;injection e with e
 have e:j=b:=e;subst e i;exact f _ (vO (by rw[h.len];exact d)) (g.int (l 0 d))
theorem kS.yp{ah:List Bool}(h:kS W A n c ah)(f:s5 W z)(d:0<n):∀b,A.map (·.block)=some b->b≠z:=by
 intro b e g;obtain⟨i,off,j,h1,k⟩:=h.cells d;rw[j] at e;injection e with e
 have e:i=b:=e;subst e g;exact f.bool (k 0 d)
variable {K:Nat->Prop}{W W':World}{me z2:Nat}
def qi(K:Nat->Prop)(me z2 b:Nat):Prop:=K b/\b≠me/\b≠z2
theorem o4.off{S:an}(h:o4 K W S)(hl:∀p∈S.aD,p.jf=1\/p.jf=2\/p.jf=3)(h1:s5 W me)(k:s5 W z2)(f:aF (qi K me z2) W W'):o4 K W' S:=by
 intro d l;obtain⟨a1,a2,a3⟩:=h d l;refine⟨a1,a2,a3.imp id ?_⟩;rintro⟨b,off,e,hk,g⟩;refine⟨b,off,e,hk,λ j u c=>?_⟩;obtain⟨p,rest,hp⟩:∃p rest,S.aD=p::rest:=by
  cases m:S.aD with
  |nil=>rw[m] at c;simp[mg] at c
  |cons p rest=>exact⟨p,rest,rfl⟩
 have o:=g 0 (.int .i64 p.jf) (by rw[hp];rfl);have t:=hl p (by rw[hp];simp);have i:∀z,s5 W z->b≠z:=λ z q r=>by
  subst r;have:=q.int o;omega
 have s:0<d.n:=by rw[a1,hp];simp
 rw[f.cell (p:=⟨b,off+j,none⟩) ⟨hk s,i me h1,i z2 k⟩];exact g j u c
theorem r8.Ia{w w':World}{A:Option Addr}{n c:Nat}{es:List mO}(h:r8 w A n c es)(f:aF K w w')(l:∀b,b<w.heap.size->A.map (·.block)=some b->K b)(he:∀e∈es,∀b,b<w.heap.size->e.r.A.map (·.block)=some b->K b):r8 w' A n c es:=
 ⟨h.len,h.cap,h.mP,h.oo,λ d=>by
  obtain⟨b,off,e,i,m⟩:=h.cells d;refine⟨b,off,e,v_ i f.size,λ k hk=>?_⟩;rw[f.cell (p:=⟨b,off+k,none⟩) (l b i (by rw[e];rfl))];exact m k hk,λ e g=>(h.rows e g).iQ f (λ b j d=>he e g b ((h.rows e g).lt b j d) j)⟩
theorem qj.Oy{n:Nat}{F:List (List Int)}{p:nc}(h:qj K W n F p)(h1:s5 W me)(i:s5 W z2):qj (λ b=>b<W.heap.size/\qi K me z2 b) W n F p:=by
 obtain⟨j,c,f⟩:=h.rd;exact⟨⟨j,c,f⟩,λ b e d=>⟨c.lt b e d,h.blk b e d,c.yp (λ x g=>(f.2 x g).oH) h1 b e d,c.yp (λ x g=>(f.2 x g).oH) i b e d⟩⟩
theorem oC.Oz{F:List (List Int)}{ax:List Int}{n aX aQ:Nat}{kind:Int}{jt:Option Addr}{jE jh:Nat}{js:Option Addr}{ic dh:Nat}(a:oC K W F ax n aX aQ kind jt jE jh js ic dh)(hl:∀x∈ax,gF n x)(k:s5 W me)(l:s5 W z2)(f:aF (λ b=>b<W.heap.size/\qi K me z2 b) W W'):oC (λ _=>True) W' F ax n aX aQ kind jt jE jh js ic dh:=by
 rcases a with⟨h1,g,m,c,i,d⟩|⟨h1,g,co,c,i,d⟩|h1
 ·have hp:0<jE:=by have:=c.len;omega
  refine .inl ⟨h1,g,m,c.iQ f (λ b e=>⟨?_,i b e,c.yp k hp b e,c.yp l hp b e⟩),λ _ _=>trivial,d⟩;obtain⟨s,off,p,q,_⟩:=c.cells hp;rw[p] at e;injection e with e
  exact e▸q
 ·have o:∀x∈co,x≠0:=λ x r=>(hl x (d.1.subset r)).oH
  exact .inr (.inl ⟨h1,g,co,c.iQ f (λ b e j=>⟨c.lt b e j,i b e,c.yp o k b e j,c.yp o l b e j⟩),λ _ _=>trivial,d⟩)
 ·exact .inr (.inr h1)
noncomputable def yq(w:World)(D:Nat->Prop):World:={w with heap:=w.heap.mapIdx λ i o=>open Classical in if D i then .map #[] 0 else o}
theorem Ex(w:World)(D:Nat->Prop):aF (λ b=>b<w.heap.size/\¬D b) w (yq w D):=
 ⟨rfl,rfl,rfl,by simp[yq],λ b c=>by
  show(w.heap.mapIdx _)[b]? =_;rw[Zk];rw[c_ c.1];simp[c.2]⟩
theorem Ey{w:World}{D:Nat->Prop}{b:Nat}(d:D b)(off:Nat):(yq w D).cell? ⟨b,off,none⟩=none:=by
 unfold World.cell?;have:(yq w D).heap[b]? =(w.heap[b]?).map λ _=>.map #[] 0:=by
  show(w.heap.mapIdx _)[b]? =_;rw[Zk];simp[d]
 show(match (yq w D).heap[b]? with|some (.cells c _ _)=>_|_=>none)=none;rw[this]
 cases w.heap[b]? <;>rfl
theorem aN.zx{w:World}{D:Nat->Prop}{A:Option Addr}{n c:Nat}{ah:List Int}(h:aN (yq w D) A n c ah):∀b,A.map (·.block)=some b->0<n->¬D b:=λ b e d f=>by
 obtain⟨g,off,i,_,j⟩:=h.cells d;rw[i] at e;injection e with e
 have e:g=b:=e;subst e;have:=j 0 d;rw[Ey f] at this
 cases this
theorem nM.zx{w:World}{D:Nat->Prop}{A:Option Addr}{n c:Nat}{es:List mG}(h:nM (yq w D) A n c es):∀b,A.map (·.block)=some b->0<n->¬D b:=λ b e d f=>by
 obtain⟨g,off,i,_,j⟩:=h.cells d;rw[i] at e;injection e with e
 have e:g=b:=e;subst e;have:=j 0 (by omega);rw[Ey f] at this;have hl:=h.len
 cases es with
 |nil=>simp at hl;omega
 |cons p rest=>simp[nk,r9] at this
def Ib(w:World)(D:Nat->Prop)(s:j6)(gI:Option Addr)(bn:Nat)(d:Option Addr)(cl:Nat)(A:Option Addr)(c:Nat)(A':Option Addr)(c':Nat)(e:Option Addr)(f:Nat)(g:Option Addr)(i:Nat):Prop:=
 ∀W,aF (λ b=>b<w.heap.size/\¬D b) w W->qB W s gI bn d cl A c A' c' e f g i
theorem aP.four{base aT:Nat}{G:Nat}{hs:Nat->aq}{cb:Nat->Nat}{s:an}(h:aP K base W G hs cb s)(hk:K aT)(v0 v1 v2 v3:Value):aP K base ((((W.setCell ⟨aT,0,none⟩ v0).setCell ⟨aT,1,none⟩ v1).setCell ⟨aT,2,none⟩ v2).setCell ⟨aT,3,none⟩ v3) G hs cb s:=
 (((h.vh hk 0 v0).vh hk 1 v1).vh hk 2 v2).vh hk 3 v3
theorem aF.four{aT:Nat}(v0 v1 v2 v3:Value)(b:¬K aT):aF K W ((((W.setCell ⟨aT,0,none⟩ v0).setCell ⟨aT,1,none⟩ v1).setCell ⟨aT,2,none⟩ v2).setCell ⟨aT,3,none⟩ v3):=
 (((aF.set aT 0 v0 b).trans (aF.set aT 1 v1 b)).trans (aF.set aT 2 v2 b)).trans (aF.set aT 3 v3 b)
end
section
open Go.RowKit Go.Shelf
theorem Ic{aO:Ending->World->Prop}{v0 v1 v2 v3 v4 v5 v6 nF rq j7 lM gx:Value}{mA:Int}(t:a.defers=[])(d:a.tmps.getD 6 undef=.pointer (some ⟨aU,0,none⟩))(e:a.tmps.getD 7 undef=.pointer (some ⟨bl,0,none⟩))(f:a.tmps.getD 8 undef=.int .i64 mA)
  (b:aM W aU 47 [v0,v1,v2,v3,v4,v5,v6,nF]) (c:aM W bl 30 [rq,j7,lM,gx]) (h:aO (.returned (.tuple #[.agg #[v0,v1,v2,v3,v4,v5,v6,nF],.agg #[rq,j7,lM,gx],.int .i64 mA])) W):bodyPost w_ Tryz.f36 aO .ret a W:=by
 have g:=b.cell 0;have i:=b.cell 1;have j:=b.cell 2;have k:=b.cell 3;have l:=b.cell 4;have m:=b.cell 5;have n:=b.cell 6;have o:=b.cell 7;have p:=c.cell 0;have q:=c.cell 1;have r:=c.cell 2;have s:=c.cell 3;simp only[y_,x_] at g i j k l m n o p q r s;refine bodyPost_ret (v:=.tuple #[.agg #[v0,v1,v2,v3,v4,v5,v6,nF],.agg #[rq,j7,lM,gx],.int .i64 mA]) ?_ t h;rw[t_] at d e f;simp[results,Tryz.results36,go_sem,d,e,f,g,i,j,k,l,m,n,o,p,q,r,s]
theorem aM.rL(h:aM w b t [a0,a1,a2,a3,a4,a5,uY,uZ])(v0 v1 v2 v3 v4 v5 v6 c:Value):aM ((((((((w.setCell ⟨b,0,none⟩ v0).setCell ⟨b,1,none⟩ v1).setCell ⟨b,2,none⟩ v2).setCell ⟨b,3,none⟩ v3).setCell ⟨b,4,none⟩ v4).setCell ⟨b,5,none⟩ v5).setCell ⟨b,6,none⟩ v6).setCell ⟨b,7,none⟩ c) b t [v0,v1,v2,v3,v4,v5,v6,c]:=
 (((((((h.set 0 v0).set 1 v1).set 2 v2).set 3 v3).set 4 v4).set 5 v5).set 6 v6).set 7 c
def vL(w:World)(b c:Nat)(v0 v1 v2 v3 v4 v5 v6 d e f g i:Value):World:=
 (((((((((((((w.setCell ⟨b,0,none⟩ v0).setCell ⟨b,1,none⟩ v1).setCell ⟨b,2,none⟩ v2).setCell ⟨b,3,none⟩ v3).setCell ⟨b,4,none⟩ v4).setCell ⟨b,5,none⟩ v5).setCell ⟨b,6,none⟩ v6).setCell ⟨b,7,none⟩ d).setCell ⟨c,0,none⟩ e).setCell ⟨c,1,none⟩ f).setCell ⟨c,2,none⟩ g).setCell ⟨c,3,none⟩ i))
theorem vL.ok{c0 c1 c2 c3:Value}(h1:aM w aU 47 [a0,a1,a2,a3,a4,a5,uY,uZ])(n:aM w bl 30 [c0,c1,c2,c3])(m:aU≠bl)(v0 v1 v2 v3 v4 v5 v6 d f g j k:Value):
  aM (vL w aU bl v0 v1 v2 v3 v4 v5 v6 d f g j k) aU 47 [v0,v1,v2,v3,v4,v5,v6,d]/\aM (vL w aU bl v0 v1 v2 v3 v4 v5 v6 d f g j k) bl 30 [f,g,j,k]/\aF (λ b=>b≠aU/\b≠bl) w (vL w aU bl v0 v1 v2 v3 v4 v5 v6 d f g j k):=by
 have c:∀(u:World)(i:Nat)(v:Value),aF (λ b=>b≠aU) u (u.setCell ⟨aU,i,none⟩ v):=λ u i v=>aF.set _ i v (λ h=>h rfl)
 have k2:∀(u:World)(i:Nat)(v:Value),aF (λ b=>b≠bl) u (u.setCell ⟨bl,i,none⟩ v):=λ u i v=>aF.set _ i v (λ h=>h rfl)
 have f1:aF (λ b=>b≠aU) w _:=((((((((c w 0 v0).trans (c _ 1 v1)).trans (c _ 2 v2)).trans (c _ 3 v3)).trans (c _ 4 v4)).trans (c _ 5 v5)).trans (c _ 6 v6)).trans (c _ 7 d))
 have g1:=aM.rL h1 v0 v1 v2 v3 v4 v5 v6 d;unfold vL;generalize ((((((((w.setCell ⟨aU,0,none⟩ v0).setCell ⟨aU,1,none⟩ v1).setCell ⟨aU,2,none⟩ v2).setCell ⟨aU,3,none⟩ v3).setCell ⟨aU,4,none⟩ v4).setCell ⟨aU,5,none⟩ v5).setCell ⟨aU,6,none⟩ v6).setCell ⟨aU,7,none⟩ d)=w' at*;have f2:aF (λ b=>b≠bl) w' _:=(((k2 w' 0 f).trans (k2 _ 1 g)).trans (k2 _ 2 j)).trans (k2 _ 3 k);exact⟨f2.blk g1 m,((((f1.blk n (λ e=>m e.symm)).set 0 f).set 1 g).set 2 j).set 3 k,(f1.mono λ b l=>l.1).trans (f2.mono λ b l=>l.2)⟩
def Ie(w:World)(n:Nat)(s:j6)(c:Option Addr)(e:Ending)(W:World):Prop:=
 ∃(base G:Nat)(hs:Nat->aq)(cb:Nat->Nat)(S:an),e=.returned (.pointer (some ⟨G,0,none⟩))/\aP (λ b=>b<base) base W G hs cb S/\tI n s ⟨c,s.aD.length,s.aD.length⟩ s.gs.length s.es.length S/\Below w.heap.size w W/\w.heap.size<=base
theorem OA(O:ox n s)(cD:n<=10)(bL:qB w s gI bn j0 cl A c A' c' gZ gJ bp gw)
  (ba:∀w,Calls w_ 109 #[.slice bp s.aD.length gw] w λ e w'=>e=.returned (.slice bp s.aD.length s.aD.length)/\w'=w):
  Calls w_ 98 #[qC n gI s.gs.length bn j0 s.es.length cl A (n+1) c A' n c' s.aW gZ (n+1) gJ bp s.aD.length gw] w (Ie w n s bp):=by
 unfold qC;obtain⟨L,bb⟩:∃x,s.gs.length=x:=⟨_,rfl⟩
 obtain⟨nl,af⟩:∃x,s.es.length=x:=⟨_,rfl⟩
 obtain⟨l,aA⟩:∃x,s.aD.length=x:=⟨_,rfl⟩
 have y:=U (z_ bL (z_ O (z_ bb (z_ af aA))));rw[aA] at ba;rw[bb,af,aA];have cE:=U ba;clear bL O ba bb af aA;go_enter Tryz.func98,Tryz.ntmps98
 have aB:=bg w (.cells #[.int .i64 n,.slice gI L bn,.slice j0 nl cl,.slice A (n+1) c,.slice A' n c',.int .i64 s.aW,.slice gZ (n+1) gJ,.slice bp l gw] 47);have aa:aM (w.alloc (.cells #[.int .i64 n,.slice gI L bn,.slice j0 nl cl,.slice A (n+1) c,.slice A' n c',.int .i64 s.aW,.slice gZ (n+1) gJ,.slice bp l gw] 47)) w.heap.size 47 [.int .i64 n,.slice gI L bn,.slice j0 nl cl,.slice A (n+1) c,.slice A' n c',.int .i64 s.aW,.slice gZ (n+1) gJ,.slice bp l gw]:=aM.new w 47 _;have bM:(w.alloc (.cells #[.int .i64 n,.slice gI L bn,.slice j0 nl cl,.slice A (n+1) c,.slice A' n c',.int .i64 s.aW,.slice gZ (n+1) gJ,.slice bp l gw] 47)).heap.size=w.heap.size+1:=by simp
 go_upto_region 1 with fail
 generalize w.alloc (.cells #[.int .i64 n,.slice gI L bn,.slice j0 nl cl,.slice A (n+1) c,.slice A' n c',.int .i64 s.aW,.slice gZ (n+1) gJ,.slice bp l gw] 47)=w1 at*;have bc:HW w1 w.heap.size n s.act s.aW s.bH A c gZ gJ bp l gw (s.aD.map n5):=by
  refine⟨aa.cell 0,aa.cell 3,aa.cell 5,aa.cell 6,aa.cell 7,by omega,?_,?_,cE.o,by omega⟩
  ·have:=y.o.1.act.below aB;rw[y.o.2.1.hk.kM] at this;exact this
  ·have:=y.o.1.bH.below aB;rw[y.o.2.1.nE] at this;exact this
 have bN:=U (Ol w1 w.heap.size n s.act s.aW s.bH A c gZ gJ bp l gw (s.aD.map n5) bc);have H1:=U (z_ aB (z_ aa (z_ bM bc)));clear aB aa bM bc;refine Oa (tq Tryz.f98 1) 42 123 _ _ [(1,.pointer (some ⟨w.heap.size,0,none⟩))] _ (wC w1 w.heap.size n s.act s.aW s.bH A c gZ gJ bp l gw (s.aD.map n5)) Cz (by kernel_rfl) (by kernel_rfl) (by kernel_rfl) (by kernel_rfl) (by kernel_rfl) (by decide+kernel) (by decide+kernel) (by decide+kernel) (by decide+kernel) (by decide+kernel) rfl ⟨rfl,trivial⟩ (wC.lt w1 w.heap.size n s.act s.aW s.bH A c gZ gJ bp l gw (s.aD.map n5)) ((g_ _ _).drew) bN.o _ rfl ?_;intro vals bO bP bQ cF cG av;obtain⟨hs,G,f41,bR,bS,bT⟩:∃hs b,vals 41=.pointer (some ⟨b,0,none⟩)/\aM bO b tg (rA hs (qD n s.act s.aW s.bH (s.aD.map n5) ⟨bp,l,l⟩))/\w1.heap.size<=b/\l9 w1.heap.size qZ nW bO hs (cont hs sG (qD n s.act s.aW s.bH (s.aD.map n5) ⟨bp,l,l⟩)):=bQ 41 (by omega);simp only[oJ,Act.put,List.take,f41] at av;subst av;have V:=U (z_ bP (z_ bR (z_ bS bT)));clear bP bQ cF f41 bR bS bT bN;simp only[aZ,execOp];simp[gE,go_sem,Act.eval,Act.put];have bU:=(H1.o.2.1.below V.o.1).cell 4;simp only[y_,x_] at bU
 go_wp2_with fail
 go_loopw [57] (λ i W=>∃(k:Nat)(hs:Nat->aq),i=.int .i64 k/\k<=n/\aP (λ b=>b<w1.heap.size) w1.heap.size W G hs sG (rj n s.act s.aW s.bH (s.aD.map n5) ⟨bp,l,l⟩ s.ord k)/\aF (λ b=>b<w1.heap.size) w1 W) (λ i _=>n-(intOf i).toNat)
 case atStart=>
  refine⟨0,hs,rfl,e_ _,⟨⟨V.o.2.1,V.o.2.2.2,λ d C=>(by simp[rj,qD,ow] at C),λ d e C=>(by simp[rj,qD,ow] at C),V.o.2.2.1,λ d C=>(by simp[rj,qD,ow] at C)⟩,⟨λ b J=>v_ J V.o.1.size,λ h=>by have:=V.o.2.2.1;omega,λ r b e h=>by have:=(V.o.2.2.2.lt e).1;omega,λ d C=>(by simp[rj,qD,ow] at C)⟩⟩,aF.q4 V.o.1 (λ b J=>J)⟩
 case round=>
  obtain⟨k,B,rfl,hk,X,hF⟩:=hrel;have E:=U X;have F:=U hF;clear X hF
  by_cases K:k<n
  ·have cH:(k:Int)<(n:Int):=by omega
   have bV:=y.o.2.1.hk.pG;obtain⟨aC,bd,rfl,bf,bW⟩:=y.o.1.ord.cells (by omega);have aE:=bW k (by omega);have bh:=y.o.2.1.hk.tT K;obtain⟨x,bj⟩:∃x:Nat,jv s.ord k=x:=⟨(jv s.ord k).toNat,by have h1:1<=jv s.ord k:=bh.1;omega⟩
   have bX:1<=x/\x<=n:=by
    have h1:1<=jv s.ord k/\jv s.ord k<=n:=bh;omega
   rw[bj] at aE;have bY:aC<w1.heap.size:=v_ bf H1.o.1.size;have db:wr.cell? ⟨aC,bd+k,none⟩=some (.int .i64 (x:Int)):=(F.o.cell (p:=⟨aC,bd+k,none⟩) bY).trans ((H1.o.1.cell (p:=⟨aC,bd+k,none⟩) bf).trans aE);have m:=U (z_ bj (z_ bX (z_ K bV)));clear bW aE bh bj bX K hk bf bY bV
   go_upto_region 5 with fail
   obtain⟨ab,n7,aG,ag⟩:∃A n c,B 7=⟨A,n,c⟩:=⟨_,_,_,rfl⟩
   have cI:n7=k:=by
    have h1:=E.o.e.n7;rw[ag] at h1;have bl:(s.ord.take k).length=k:=by rw[List.length_take];have:=m.o;omega
    exact h1.trans bl
   subst cI;have bZ:(B 8).n=n+1:=E.o.e.n8.trans (AG n s.ord n7);obtain⟨g8,b0,b1⟩:=E.o.e.rows.addr (r:=8) (by omega);obtain⟨bo,bq⟩:∃c,B 8=⟨some ⟨g8,0,none⟩,n+1,c⟩:=⟨(B 8).c,by rw[<-b0,<-bZ]⟩
   have br:(B 7).b=ab.map (·.block):=by rw[ag];rfl
   have b2:bF (H6 wr w1.heap.size G (rA B (rj n s.act s.aW s.bH (s.aD.map n5) ⟨bp,l,l⟩ s.ord n7)) ab n7 aG g8 (n+1) bo x (n7:Int) (s.ord.take n7)):=U (by
    refine⟨?_,?_,by have:=m.o;omega,by omega,by have:=m.o;omega,F.o.size,E.o.e.box.lt,λ g aw=>?_⟩
    ·show some (B 7).v=_;rw[ag];rfl
    ·show some (B 8).v=_;rw[bq];rfl
    ·rw[<-br] at aw;exact⟨(E.o.e.rows.lt aw).2,λ e=>E.o.e.uz 7 g aw e.symm⟩)
   have b3:=U (Oq wr w1.heap.size G (rA B (rj n s.act s.aW s.bH (s.aD.map n5) ⟨bp,l,l⟩ s.ord n7)) ab n7 aG g8 (n+1) bo x (n7:Int) (s.ord.take n7) b2.o);have b4:CB w1.heap.size G (rA B (rj n s.act s.aW s.bH (s.aD.map n5) ⟨bp,l,l⟩ s.ord n7)) ab n7 aG (s.ord.take n7) wr:=by
    have h1:wr.ownsRow w1.heap.size 3 1 (B 7).v (B 7).n (gT (s.ord.take n7)):=E.o.e.rows.row 7;rw[ag] at h1;exact⟨h1,E.o.e.box⟩
   have b5:CA wr G (rA B (rj n s.act s.aW s.bH (s.aD.map n5) ⟨bp,l,l⟩ s.ord n7)) ab wr:=⟨aF.refl,_,by rw[HY b2.o.l10];exact E.o.e.box⟩
   have ad:=U (z_ ag (z_ bq (z_ b1 (z_ br (z_ b4 b5)))));clear ag bq b1 br b4 b5 b0 bZ;refine An (tq Tryz.f98 5) 18 123 _ _ [(3,.pointer (some ⟨G,0,none⟩)),(5,.int .i64 (x:Int)),(4,.int .i64 (n7:Int))] _ (zw wr w1.heap.size G (rA B (rj n s.act s.aW s.bH (s.aD.map n5) ⟨bp,l,l⟩ s.ord n7)) ab n7 aG g8 (n+1) bo x (n7:Int) (s.ord.take n7)) HZ _ 12 (by kernel_rfl) (by kernel_rfl) (by kernel_rfl) (by kernel_rfl) (by kernel_rfl) (by decide+kernel) (by decide+kernel) (by decide+kernel) (by decide+kernel) (by decide+kernel) rfl ⟨rfl,rfl,rfl,trivial⟩ ⟨wD.drop ad.o.2.2.2.2.2.1 (g_ _ _).drew,ad.o.2.2.2.2.2.2.imp λ v h=>h.below (g_ _ _).drew⟩ ⟨lU ad.o.2.2.2.2.1.1 ((g_ _ _).drew),ad.o.2.2.2.2.1.2.below ((g_ _ _).drew)⟩ b3.o _ rfl ?_;intro b6 b7 b8 aH cG av;obtain⟨h',b9,n16,b'⟩:∃h:aq,b7.ownsRow w1.heap.size 3 1 h.v (n7+1) (gT (s.ord.take n7++[(x:Int)]))/\(h.b=ab.map (·.block)\/∀g,h.b=some g->wr.heap.size<=g)/\aM b7 G tg ((rA B (rj n s.act s.aW s.bH (s.aD.map n5) ⟨bp,l,l⟩ s.ord n7)).set 10 h.v):=aH 16 (by omega) rfl;have f17:b6 17=.pointer (some ⟨g8,x,none⟩):=aH 17 (by omega) rfl;have f13:b6 13=.int .i64 (n7:Int):=aH 13 (by omega) rfl;have ca:(rj n s.act s.aW s.bH (s.aD.map n5) ⟨bp,l,l⟩ s.ord n7).ord.length=n7:=by
    show(s.ord.take n7).length=n7;rw[List.length_take];have:=m.o;omega
   have P:=E.o.Ot (h':=h') (x:=(x:Int)) (by rw[ad.o.2.2.2.1];exact b8.1) b' (by rw[ca];exact b9) (by rw[ad.o.2.2.2.1];exact n16);have aI:(iH B 7 h' 8).b=some g8:=by rw[aV _ _ (by decide)];exact ad.o.2.2.1
   have cc:=P.1.e.wY aI (k:=x) (by show x<(uK n s.ord n7).length;rw[AG];have:=m.o;omega);have cd:=P.1.e.rows.free aI x;have ah:=P.1.xX aI x (n7:Int);have cf:ai s.ord n7=(x:Int):=m.o.1;have ae:((rj n s.act s.aW s.bH (s.aD.map n5) ⟨bp,l,l⟩ s.ord n7).vD (x:Int)).pY x (n7:Int)=rj n s.act s.aW s.bH (s.aD.map n5) ⟨bp,l,l⟩ s.ord (n7+1):=by
    have h1:=Ou n s.act s.aW s.bH (s.aD.map n5) ⟨bp,l,l⟩ s.ord n7 (by have:=m.o;omega);rw[cf,Int.toNat_natCast] at h1;exact h1
   rw[ae] at ah;have Q:=U (z_ ah.1 ((F.o.trans P.2).trans ah.2));simp only[oJ,Act.put,List.take,f17,f13] at av;subst av;clear b8 aH b9 n16 b' f17 f13 P ah b3 ae cf ca aI;simp only[aZ,execOp];simp[gE,go_sem,Act.eval,Act.put,cc,cd];clear cc cd
   go_wp2_with fail
   go_roundw
   case rel=>exact⟨n7+1,_,by go_num,by have:=m.o;omega,Q.o.1,Q.o.2⟩
   case measure=>have:=m.o;simp[intOf];omega
  ·obtain rfl:k=n:=by omega
   have cH:¬(k:Int)<(k:Int):=by omega
   have ax:aM wr w.heap.size 47 [.int .i64 k,.slice gI L bn,.slice j0 nl cl,.slice A (k+1) c,.slice A' k c',.int .i64 s.aW,.slice gZ (k+1) gJ,.slice bp l gw]:=F.o.blk H1.o.2.1 (by have:=H1.o.2.2.1;omega);have cg:=ax.cell 1;simp only[y_,x_] at cg;clear K hk ax bU
   go_wp2_with fail
   go_loopw [83] (λ i W=>∃(j:Nat)(hs:Nat->aq)(cb:Nat->Nat)(S:an),i=.int .i64 j/\j<=L/\aP (λ b=>b<w1.heap.size) w1.heap.size W G hs cb S/\aF (λ b=>b<w1.heap.size) w1 W/\tI k s ⟨bp,l,l⟩ j 0 S) (λ i _=>L-(intOf i).toNat)
   case atStart=>exact⟨0,B,sG,_,rfl,e_ _,E.o,F.o,tI.init y.o.2.1⟩
   case round=>
    clear E F;obtain⟨j,cJ,cK,S,rfl,ch,X,hF,R⟩:=hrel;have E:=U X;have F:=U hF;have t:=U R;have ay:bF (Below w.heap.size w wr):=U (H1.o.1.trans ((show Below w1.heap.size w1 wr from⟨hF.os,hF.tape,hF.output,hF.size,λ b J=>hF.keep b J⟩).mono H1.o.1.size));clear X hF R cg
    by_cases K:j<L
    ·have cL:(j:Int)<(L:Int):=by omega
     have aK:=y.o.2.2.1;obtain⟨b,off,rfl,J,aL⟩:=(y.o.1.gs.below ay.o).cells (by omega);obtain⟨a1,bs,c1,aE,cj⟩:=aL j (by omega);have bt:j<s.gs.length:=by omega
     have aj:=y.o.2.1.bk _ (zI bt);have bu:=y.o.2.1.g1;have bw:=t.o.wv;have dc:Zt.wrap ((j:Int)+1)=(j:Int)+1:=by rw[f_];omega
     have P:=(E.o.below (bg wr (.cells #[.slice a1 bs c1,.bool false,.int .i64 0,.int .i64 0] 166)))
     have hblk:aM (wr.alloc (.cells #[.slice a1 bs c1,.bool false,.int .i64 0,.int .i64 0] 166)) wr.heap.size vB [.slice a1 bs c1,.bool false,.int .i64 0,.int .i64 0]:=aM.new wr vB _;have bx:=U (Hi (P.1.DX t.o.cb wr.heap.size) t.o.l8.gH.au t.o.l8.nX (by rw[t.o.l8.gV];omega) (by rw[t.o.l8.gH.wt.qW,t.o.l8.gV]) (λ q=>s_ (t.o.l8.gH.wt.ov q) (by omega)) (by rw[t.o.l8.st];simp) (x:=⟨false,0,0⟩) (jC _ _ _) hblk F.o.size (λ h=>by have:=F.o.size;omega) (λ d C=>by rw[aV _ _ (by omega)];have:=(E.o.e.cls d C).lt;omega) (aN.below cj (bg wr _)) (λ z bz=>by rw[t.o.l8.gV];exact aj z bz));have m:=U (z_ bt (z_ P.2 K));clear aL cj aj bu bw P hblk aK bt ch K J
     go_wp2_with (go_at_call 144;refine bx.o.mono ?_;rintro e dd ⟨rfl,Y,ck,cm⟩;have ah:=U ck;have cM:=U cm;clear ck cm)
     go_roundw
     case rel=>exact⟨j+1,Y,_,_,by go_num,by have:=m.o.2.2;omega,ah.o,F.o.trans (m.o.2.1.trans cM.o),t.o.given y.o.2.1 (by omega) m.o.1⟩
     case measure=>have:=m.o.2.2;simp[intOf];omega
    ·obtain rfl:j=L:=by omega
     have cL:¬(j:Int)<(j:Int):=by omega
     have ax:aM wr w.heap.size 47 [.int .i64 k,.slice gI j bn,.slice j0 nl cl,.slice A (k+1) c,.slice A' k c',.int .i64 s.aW,.slice gZ (k+1) gJ,.slice bp l gw]:=F.o.blk H1.o.2.1 (by have:=H1.o.2.2.1;omega);have cn:=ax.cell 2;simp only[y_,x_] at cn;clear K ch ax
     go_wp2_with fail
     go_loopw [96] (λ i W=>∃(q:Nat)(hs:Nat->aq)(cb:Nat->Nat)(S:an),i=.int .i64 q/\q<=nl/\aP (λ b=>b<w1.heap.size) w1.heap.size W G hs cb S/\aF (λ b=>b<w1.heap.size) w1 W/\tI k s ⟨bp,l,l⟩ j q S) (λ i _=>nl-(intOf i).toNat)
     case atStart=>exact⟨0,cJ,cK,S,rfl,e_ _,E.o,F.o,t.o⟩
     case round=>
      clear E F t ay;obtain⟨q,Y,T,u,rfl,cp,X,hF,R⟩:=hrel;have E:=U X;have F:=U hF;have t:=U R;have ay:bF (Below w.heap.size w wr):=U (H1.o.1.trans ((show Below w1.heap.size w1 wr from⟨hF.os,hF.tape,hF.output,hF.size,λ b J=>hF.keep b J⟩).mono H1.o.1.size));clear X hF R cn
      by_cases K:q<nl
      ·have cN:(q:Int)<(nl:Int):=by omega
       have af:=y.o.2.2.2.1;have aK:=y.o.2.2.1;have cq:=y.o.2.1.ov;have de:=AJ cD;have df:Zt.wrap ((q:Int)+1)=(q:Int)+1:=by rw[f_];omega
       have aO:=y.o.1.es.below ay.o;rw[af] at aO;have aQ:q<s.es.length:=by omega
       obtain⟨b,off,rfl,J,aL⟩:=aO.cells (by omega);obtain⟨aR,aT,aU,bA⟩:=aO.AI K aQ;obtain⟨⟨⟨D,H,I,bB⟩,aS,ac⟩,ae⟩:∃e,s.es[q]=e:=⟨_,rfl⟩
       rw[ae] at aR aT aU bA;replace aR:wr.cell? ⟨b,off+q*3,none⟩=some (.slice D H I):=aR;replace aT:wr.cell? ⟨b,off+q*3+1,none⟩=some (.int .i64 aS):=aT;replace aU:wr.cell? ⟨b,off+q*3+2,none⟩=some (.int .i64 ac):=aU;have aj:=(y.o.2.1.wA _ (l_ aQ)).1.lt;rw[ae] at aj;have m:=U (z_ aQ (z_ K (z_ (show∀p:q<s.es.length,s.es[q]'p=(⟨⟨D,H,I,bB⟩,aS,ac⟩:mO) from λ _=>ae) (z_ aj (z_ bA (z_ aK cq))))));clear aL aj aK bA ae aQ cp J aO cq af
       go_upto_region 15 with fail
       have aX:aM (wr.alloc (.cells #[.slice D H I,.int .i64 aS,.int .i64 ac] 74)) wr.heap.size 74 [.slice D H I,.int .i64 aS,.int .i64 ac]:=aM.new wr 74 _;have cr:=bg wr (.cells #[.slice D H I,.int .i64 aS,.int .i64 ac] 74);generalize wr.alloc (.cells #[.slice D H I,.int .i64 aS,.int .i64 ac] 74)=M at*;have t0:=aX.cell 0;have t1:=aX.cell 1;have t2:=aX.cell 2;simp only[y_,x_] at t0 t1 t2;have bC:=U cr;clear cr aX aR aT aU
       go_upto_region 16 with fail
       have Q:=E.o.below bC.o;have bD:=Q.1.below (bg M (.cells #[.slice D H I,.bool true,.int .i64 aS,.int .i64 ac] 166));have hblk:aM (M.alloc (.cells #[.slice D H I,.bool true,.int .i64 aS,.int .i64 ac] 166)) M.heap.size vB [.slice D H I,.bool true,.int .i64 aS,.int .i64 ac]:=aM.new M vB _;have bE:(M.alloc (.cells #[.slice D H I,.bool true,.int .i64 aS,.int .i64 ac] 166)).heap.size=M.heap.size+1:=by simp
       have ct:aN (M.alloc (.cells #[.slice D H I,.bool true,.int .i64 aS,.int .i64 ac] 166)) D H I bB:=aN.below (aN.below m.o.2.2.2.2.1 bC.o) (bg M _);obtain⟨blk,cO⟩:∃b,M.heap.size=b:=⟨_,rfl⟩
       rw[cO] at hblk bE⊢;have cu:∀d,d<u.c.cl.length->T d≠blk:=λ d C=>by have:=(Q.1.e.cls d C).lt;omega
       have cv:∀g,(Y 10).b=some g->g<blk:=λ g aw=>by have:=(Q.1.e.rows.lt aw).2;omega
       have cw:G<blk:=by have:=Q.1.e.box.lt;omega
       have cx:w1.heap.size<=blk:=by have:=F.o.size;have:=bC.o.size;omega
       generalize M.alloc (.cells #[.slice D H I,.bool true,.int .i64 aS,.int .i64 ac] 166)=N at*;have aY:=bD.1.DX t.o.cb blk;obtain⟨ak,n10,al,ao⟩:∃A n c,Y 10=⟨A,n,c⟩:=⟨_,_,_,rfl⟩
       have dh:N.cell? ⟨G,13,none⟩=some (.slice ak n10 al):=by have:=aY.e.kA (k:=13) (v:=(Y 10).v) rfl;rw[ao] at this;exact this
       have bG:n10=u.aJ.length:=by have:=aY.e.n10;rw[ao] at this;exact this
       have a6:=U (aY.below (bg N (.cells #[.pointer (some ⟨blk,0,none⟩)] 164)));have hp:(N.alloc (.cells #[.pointer (some ⟨blk,0,none⟩)] 164)).cell? ⟨N.heap.size,0,none⟩=some (.pointer (some ⟨blk,0,none⟩)):=by go_simp
       have cP:=U (rH.one hp);have cQ:bF ((N.alloc (.cells #[.pointer (some ⟨blk,0,none⟩)] 164)).ownsRow w1.heap.size 164 1 (.slice ak n10 al) n10 (kU (iH T u.c.cl.length blk) u.aJ)):=U (by
        have:=a6.o.1.e.rows.row 10;rw[ao] at this;exact this)
       have cR:=U (Nat.le_of_lt a6.o.1.e.lt);have cS:bF (∀v9 gb,n9 (N.alloc (.cells #[.pointer (some ⟨blk,0,none⟩)] 164)) w1.heap.size 164 (.slice ak n10 al) (n10+1) (kU (iH T u.c.cl.length blk) u.aJ++[.pointer (some ⟨blk,0,none⟩)]) v9 gb->n9 (N.alloc (.cells #[.pointer (some ⟨blk,0,none⟩)] 164)) w1.heap.size 164 (Y 10).v (u.aJ.length+1) (kU (iH T u.c.cl.length blk) (u.aJ++[u.c.cl.length])) v9 gb):=U (λ v9 gb az=>by
        have e:kU (iH T u.c.cl.length blk) (u.aJ++[u.c.cl.length])=kU (iH T u.c.cl.length blk) u.aJ++[.pointer (some ⟨blk,0,none⟩)]:=by simp[kU,tj,jC]
        rw[e,ao,<-bG];exact az)
       have cT:=U (hblk.below (bg N (.cells #[.pointer (some ⟨blk,0,none⟩)] 164)));have cU:=U (F.o.trans (Q.2.trans (bD.2.trans a6.o.2)));have Z:=U (z_ cu (z_ cv (z_ cw (z_ cx (z_ ao (z_ bG (z_ ct bE)))))));have di:n10<=100000:=by have h1:=t.o.kW;have bl:=m.o.1;have cV:=m.o.2.2.2.2.2.2;omega
       clear hp Q bD aY hblk cu cv cw cx ao bG ct bE t0 t1 t2
       go_upto_region 17 with(at_builtin;refine Gh rfl (.tmp 112) (.tmp 114) rfl w1.heap.size (.slice ak n10 al) n10 (kU (iH T u.c.cl.length blk) u.aJ) rfl cQ.o (some ⟨N.heap.size,0,none⟩) 1 1 _ rfl cP.o (by omega) cR.o ?_;intro v9 gb az;obtain⟨⟨a7,a8,c3⟩,cy,cW,bI,a2,a',bJ⟩:=aP.Gj (x:=u.c.cl.length) a6.o.1 (v':=v9) (cS.o v9 gb az);change v9=.slice a7 a8 c3 at cy;subst cy;have cX:=U ((cT.o.kept az.2.1 (λ e=>by have:=Z.o.2.1 blk (by rw[Z.o.2.2.2.2.1];exact(aq.own ⟨ak,n10,al⟩).symm.trans e.symm);omega)).kept (kK gb G 13 (.slice a7 a8 c3)) (λ e=>by injection e with e;have:=Z.o.2.2.1;omega));have dj:=U ((aN.below Z.o.2.2.2.2.2.2.1 (bg N (.cells #[.pointer (some ⟨blk,0,none⟩)] 164))));have a':=U a';have bJ:=U bJ;clear az cW;have a1:gb.cell? ⟨G,13,none⟩=some (.slice ak n10 al):=(by rw[Z.o.2.2.2.2.1] at bI;exact bI);clear bI)
       generalize gb.setCell ⟨G,13,none⟩ (.slice a7 a8 c3)=bK at*;obtain⟨dk,cY⟩:∃f,iH Y 10 ⟨a7,a8,c3⟩=f:=⟨_,rfl⟩
       rw[cY] at a';have bu:=y.o.2.1.g1;have bw:=t.o.wv;have ar:=U (cU.o.trans bJ.o);have cz:Below w.heap.size w bK:=H1.o.1.trans ((show Below w1.heap.size w1 bK from⟨ar.o.os,ar.o.tape,ar.o.output,ar.o.size,λ b J=>ar.o.keep b J⟩).mono H1.o.1.size);have cA:aN bK D H I bB:=by
        have h:=y.o.1.es.rows _ (l_ m.o.1);rw[m.o.2.2.1 m.o.1] at h;exact aN.below h cz
       have bx:=U (Hi a'.o t.o.l8.gH.au t.o.l8.nX (by show u.c.n<=_;rw[t.o.l8.gV];omega) (by show u.c.wt.length=_;rw[t.o.l8.gH.wt.qW,t.o.l8.gV];show _=2*u.c.n+2;rw[t.o.l8.gV]) (λ q=>s_ (t.o.l8.gH.wt.ov q) (by have bl:=m.o.1;have cV:=m.o.2.2.2.2.2.2;have dm:=m.o.2.2.2.2.2.1;omega)) (by show u.c.st.length<=_;rw[t.o.l8.st];simp) (x:=⟨true,aS,ac⟩) (blk:=blk) (jC _ _ _) cX.o Z.o.2.2.2.1 (λ h=>by have:=Z.o.2.2.2.1;omega) (λ d C=>by have C:d<u.c.cl.length:=C;show iH T u.c.cl.length blk d≠blk;rw[aV _ _ (by omega)];exact Z.o.1 d C) cA (λ z bz=>by show gF u.c.n z;rw[t.o.l8.gV];exact m.o.2.2.2.1 z bz));have R:=t.o.Ow y.o.2.1 (by omega) m.o.1;rw[m.o.2.2.1 m.o.1] at R;have cZ:=U R;clear R cA cz bu bw
       go_wp2_with (go_at_call 144;refine bx.o.mono ?_;rintro e dn ⟨rfl,c7,cB,cC⟩;have c8:=U cB;have da:=U cC;clear cB cC)
       go_roundw
       case rel=>exact⟨q+1,c7,_,_,by go_num,by have:=m.o.2.1;omega,c8.o,ar.o.trans da.o,cZ.o⟩
       case measure=>have:=m.o.2.1;simp[intOf];omega
      ·obtain rfl:q=nl:=by omega
       have cN:¬(q:Int)<(q:Int):=by omega
       clear K cp
       go_wp2_with fail
       go_ret;refine⟨w1.heap.size,G,Y,T,u,rfl,E.o,?_,ay.o,H1.o.1.size⟩;rw[y.o.2.2.1,y.o.2.2.2.1,y.o.2.2.2.2];exact t.o
end
section
open Go.RowKit
theorem kS.OB{bH:List Bool}(h:kS w A n c bH)(d:0<n):∃b off,A=some ⟨b,off,none⟩/\b<w.heap.size/\w.cell? ⟨b,off,none⟩=some (.bool (jr bH 0)):=by
 obtain⟨b,off,e,f,g⟩:=h.cells d;exact⟨b,off,e,f,g 0 d⟩
theorem nU.AN(w:World)(r:Row)(d:aN w r.A r.n r.c r.ah):nU (w.alloc (.cells #[kF r] 25)) (some ⟨w.heap.size,0,none⟩) 1 1 [r]:=by
 refine⟨rfl,i_ _,by omega,by unfold maxLen;omega,λ _=>⟨w.heap.size,0,rfl,by simp,λ j u b=>?_⟩,λ q e=>?_⟩
 ·have f:j=0:=by
   have:=(d_.1 b).1;simp at this;omega
  subst f;have hu:kF r=u:=by simpa using b
  subst hu;exact(aM.new w 25 [kF r]).cell 0
 ·rw[r_.1 e];exact d.alloc _
theorem OC(h:e.r.ah.length=0):tG e=true:=by simp[tG,h]
theorem Ez(b:e.r.ah.length≠0):tG e=(nt e.aS||nt e.ac):=by simp[tG,b]
theorem OD(n:Nat)(gs:List (List Int))(es:List mO)(act ord:List Int)(aa:Int)(a8:List Bool)(C:List mG){jx nl aR:Nat}{gI:Option Addr}{bn:Nat}{j0:Option Addr}{cl:Nat}{A:Option Addr}{c:Nat}{A':Option Addr}{c':Nat}{gZ:Option Addr}{gJ:Nat}{bp:Option Addr}{gw:Nat}{w:World}
  (b':n<=65536) (a':tN act ord aa=true) (ba:jr a8 0=false) (O:nl<=1000000)
  (bb:mc w gI jx bn gs) (P:r8 w j0 nl cl es) (bc:aN w A (n+1) c act) (bd:aN w A' n c' ord) (aC:kS w gZ (n+1) gJ a8) (Q:nM w bp aR gw C):
  Calls w_ 49 #[qC n gI jx bn j0 nl cl A (n+1) c A' n c' aa gZ (n+1) gJ bp aR gw] w λ e w'=>e=.returned (.int .i64 (if lB n gs≠0 then lB n gs else if es.any tG=true then 1 else if lB n (es.map (·.r.ah))≠0 then lB n (es.map (·.r.ah)) else if C.any (tH n)=true then 1 else 0))/\Below w.heap.size w w':=by
 obtain⟨R,ad,rfl,bf,aD⟩:=aC.OB (by omega);rw[ba] at aD;unfold qC;have bX:¬(n:Int)<0:=by omega
 have bY:¬(65536:Int)<n:=by omega
 have d0:decide ((n:Int)<0)=false:=decide_eq_false bX;have d1:decide ((65536:Int)<n)=false:=decide_eq_false bY;have wn:Zt.wrap ((n:Int)+1)=(n:Int)+1:=by rw[f_];omega
 have ca:=P.mP;have aE:=Q.mP;obtain⟨av,aF⟩:∃x,lB n gs=x:=⟨_,rfl⟩
 obtain⟨el,aG⟩:∃x,lB n (es.map (·.r.ah))=x:=⟨_,rfl⟩
 rw[aF,aG];obtain⟨cc,aH⟩:∃x,(if av≠0 then av else if es.any tG=true then 1 else if el≠0 then el else if C.any (tH n)=true then 1 else 0)=x:=⟨_,rfl⟩
 rw[aH];have G:=U aH;clear aH;have H:=U (z_ bb (z_ P (z_ bc (z_ bd (z_ aC Q)))));have aw:=U (z_ aD bf);have ai:=U (z_ a' (z_ aF aG));clear aD bf bb P bc bd aC Q a' aF aG ba;go_enter Tryz.func49,Tryz.ntmps49
 have aj:=bg w (.cells #[.int .i64 n,.slice gI jx bn,.slice j0 nl cl,.slice A (n+1) c,.slice A' n c',.int .i64 aa,.slice (some ⟨R,ad,none⟩) (n+1) gJ,.slice bp aR gw] 47);have E:aM (w.alloc (.cells #[.int .i64 n,.slice gI jx bn,.slice j0 nl cl,.slice A (n+1) c,.slice A' n c',.int .i64 aa,.slice (some ⟨R,ad,none⟩) (n+1) gJ,.slice bp aR gw] 47)) w.heap.size 47 [.int .i64 n,.slice gI jx bn,.slice j0 nl cl,.slice A (n+1) c,.slice A' n c',.int .i64 aa,.slice (some ⟨R,ad,none⟩) (n+1) gJ,.slice bp aR gw]:=aM.new w 47 _
 go_upto_region 1 with fail
 generalize w.alloc (.cells #[.int .i64 n,.slice gI jx bn,.slice j0 nl cl,.slice A (n+1) c,.slice A' n c',.int .i64 aa,.slice (some ⟨R,ad,none⟩) (n+1) gJ,.slice bp aR gw] 47)=w1 at*;have bh:=E.cell 0;have bj:=E.cell 1;have bk:=E.cell 2;have bl:=E.cell 3;have bo:=E.cell 4;have bq:=E.cell 5;have br:=E.cell 6;have bs:=E.cell 7;simp only[y_,x_] at bh bj bk bl bo bq br bs;have bt:=Zv (a:=⟨R,ad,none⟩) (aj.block R aw.o.2);rw[aw.o.1] at bt;have bZ:=U E;have bu:=U aj;have bw:=U (Fv A (n+1) c act A' n c' ord aa w1 (H.o.2.2.1.below aj) (H.o.2.2.2.1.below aj));clear E aj
 go_upto_region 3 with(go_at_call 111;refine bw.o.mono ?_;rintro e wr ⟨rfl,aI⟩;rw[ai.o.1];have I:=U (bZ.o.below aI);have ae:=U (bu.o.trans (aI.mono bu.o.size));have bx:=Zv (a:=⟨R,ad,none⟩) (ae.o.block R aw.o.2);rw[aw.o.1] at bx;clear bh bj bk bl bo bq br bs bt aI;have S:=I.o.cell 0;have bz:=I.o.cell 1;have bA:=I.o.cell 2;have bB:=I.o.cell 3;have bC:=I.o.cell 4;have bD:=I.o.cell 5;have bE:=I.o.cell 6;have ak:=I.o.cell 7;simp only[y_,x_] at S bz bA bB bC bD bE ak;dsimp only[yC])
 have aJ:=U (vP n gI jx bn gs wr (H.o.1.below ae.o))
 by_cases aK:av=0
 ·subst aK;have cd:((0:Int)==0)=true:=rfl
  go_upto_region 8 with(go_at_call 107;refine aJ.o.mono ?_;rintro e ws ⟨rfl,af⟩;rw[ai.o.2.1];have bG:=U (I.o.below af);have y:=U (ae.o.trans (af.mono ae.o.size));clear S bz bA bB bC bD bE ak af bx;have z2:=bG.o.cell 2;simp only[y_,x_] at z2;dsimp only)
  clear aJ bw
  go_wp2_with fail
  go_loopw [4,71] (λ l i W=>∃(k:Nat)(J:Option Addr)(c4:Nat),l=.slice J k c4/\i=.int .i64 k/\k<=nl/\(es.take k).any tG=false/\W.ownsRow ws.heap.size 25 1 (.slice J k c4) k (((es.take k).map (λ e:mO=>e.r)).map kF)/\Below ws.heap.size ws W) (λ _ i _=>nl-(intOf i).toNat)
  case atStart=>exact⟨0,none,0,rfl,rfl,e_ _,rfl,World.ownsRow_nil _ _ _ _,g_ _ _⟩
  case round=>
   obtain⟨k,J,c4,rfl,rfl,hk,T,al,ab⟩:=hrel;have u:=U (z_ T (z_ al ab));clear T al ab
   by_cases z:k<nl
   ·have P:=H.o.2.1.below (y.o.trans (u.o.2.2.mono y.o.size));have aL:k<es.length:=by rw[P.len];exact z
    have aO:(k:Int)<(nl:Int):=by omega
    obtain⟨b,off,rfl,ab,aP⟩:=P.cells (by omega);obtain⟨K,L,ax,V⟩:=P.AI z aL;obtain⟨⟨⟨m,f,q,s⟩,aS,ac⟩,O⟩:∃e,es[k]=e:=⟨_,rfl⟩
    rw[O] at K L ax V;replace K:wr.cell? ⟨b,off+k*3,none⟩=some (.slice m f q):=K;replace L:wr.cell? ⟨b,off+k*3+1,none⟩=some (.int .i64 aS):=L;replace ax:wr.cell? ⟨b,off+k*3+2,none⟩=some (.int .i64 ac):=ax;clear aP P
    go_upto_region 11 with fail
    have mC:aM (wr.alloc (.cells #[.slice m f q,.int .i64 aS,.int .i64 ac] 74)) wr.heap.size 74 [.slice m f q,.int .i64 aS,.int .i64 ac]:=aM.new wr 74 _;have X:=bg wr (.cells #[.slice m f q,.int .i64 aS,.int .i64 ac] 74);have bH:(wr.alloc (.cells #[.slice m f q,.int .i64 aS,.int .i64 ac] 74)).heap.size=wr.heap.size+1:=by simp
    generalize wr.alloc (.cells #[.slice m f q,.int .i64 aS,.int .i64 ac] 74)=v at*;have t0:=mC.cell 0;have t1:=mC.cell 1;have t2:=mC.cell 2;simp only[y_,x_] at t0 t1 t2;have Y:=U (z_ X (z_ mC bH));have d:=U (z_ (show∀p:k<es.length,es[k]'p=(⟨⟨m,f,q,s⟩,aS,ac⟩:mO) from λ _=>O) (z_ V (z_ aL z)));have aQ:=V.len;replace aQ:s.length=f:=aQ;clear X mC K L ax O V aL z hk bH
    by_cases bI:f=0
    ·subst bI;have t:es.any tG=true:=zo d.o.2.2.1 (by rw[d.o.1 d.o.2.2.1];exact OC aQ);have D:=U t;clear t
     go_wp2_with fail
     go_ret;exact⟨qH (by rw[<-G.o,if_neg (by omega),if_pos D.o]),y.o.trans ((u.o.2.2.trans (Y.o.1.mono u.o.2.2.size)).mono y.o.size)⟩
    ·have cf:((f:Int)==0)=false:=by simpa using bI
     cases M:nt aS with
     |true=>
      have t:es.any tG=true:=zo d.o.2.2.1 (by rw[d.o.1 d.o.2.2.1,Ez (by show s.length≠0;omega)];show(nt aS||_)=true;rw[M];rfl);have D:=U t;have b0:=U M;clear t M
      go_wp2_with (go_at_call 112;refine(Ep _ _).mono ?_;rintro e bJ ⟨rfl,rfl⟩;rw[b0.o])
      go_ret;exact⟨qH (by rw[<-G.o,if_neg (by omega),if_pos D.o]),y.o.trans ((u.o.2.2.trans (Y.o.1.mono u.o.2.2.size)).mono y.o.size)⟩
     |false=>
      cases ag:nt ac with
      |true=>
       have t:es.any tG=true:=zo d.o.2.2.1 (by rw[d.o.1 d.o.2.2.1,Ez (by show s.length≠0;omega)];show(nt aS||nt ac)=true;rw[M,ag];rfl);have D:=U t;have an:=U (z_ M ag);clear t M ag
       go_wp2_with (go_at_call 112;refine(Ep _ _).mono ?_;rintro e bJ ⟨rfl,rfl⟩;first|rw[an.o.1]|rw[an.o.2])
       go_ret;exact⟨qH (by rw[<-G.o,if_neg (by omega),if_pos D.o]),y.o.trans ((u.o.2.2.trans (Y.o.1.mono u.o.2.2.size)).mono y.o.size)⟩
      |false=>
       have ao:tG ⟨⟨m,f,q,s⟩,aS,ac⟩=false:=by rw[Ez (by show s.length≠0;omega)];show(nt aS||nt ac)=false;rw[M,ag];rfl
       have aT:=U ao;have an:=U (z_ M ag);clear ao M ag
       go_upto_region 13 with(go_at_call 112;refine(Ep _ _).mono ?_;rintro e bJ ⟨rfl,rfl⟩;first|rw[an.o.1]|rw[an.o.2])
       have bK:ws.heap.size<=v.heap.size:=s_ u.o.2.2.size Y.o.1.size;have bL:bF ((v.alloc (.cells #[kF ⟨m,f,q,s⟩] 25)).ownsRow ws.heap.size 25 1 (.slice J k c4) k (((es.take k).map (λ e:mO=>e.r)).map kF)):=U (lU (lU u.o.2.1 Y.o.1) (bg v _));have bM:=U bK;have b1:bF (aN v m f q s):=U (aN.below d.o.2.1 Y.o.1);clear bK;have aU:=d.o.2.2.2
       go_upto_region 14 with(at_builtin;refine Fj rfl (.tmp 91) (.tmp 94) rfl ws.heap.size (.slice J k c4) k ((es.take k).map (λ e:mO=>e.r)) rfl bL.o (some ⟨v.heap.size,0,none⟩) 1 1 [⟨m,f,q,s⟩] rfl (nU.AN v ⟨m,f,q,s⟩ b1.o) (by omega) (by have:=bM.o;simp;omega) ?_;intro v9 gb aV;obtain⟨⟨bN,jI,c9⟩,b2,ay⟩:=aq.lq aV.1;obtain rfl:v9=.slice bN jI c9:=b2;have bO:=U aV;have b3:=U ay;clear aV ay)
       have ay:jI=k+1:=b3.o;subst ay;have bP:Below ws.heap.size ws gb:=yj (u.o.2.2.trans ((Y.o.1.trans ((bg v (.cells #[kF ⟨m,f,q,s⟩] 25)).mono Y.o.1.size)).mono u.o.2.2.size)) bO.o.2.1 (by have:=bM.o;simp;omega) (λ g e=>(bL.o.lt g e).1);have b4:=U bP;clear bP
       go_wp2_with fail
       go_roundw
       case rel=>
        refine⟨k+1,bN,c9,rfl,by go_num,by omega,HQ d.o.2.2.1 (by rw[d.o.1 d.o.2.2.1];exact aT.o) u.o.1,?_,b4.o⟩;have h1:=bO.o.1;rw[k_ d.o.2.2.1,d.o.1 d.o.2.2.1,j_];exact h1
       case measure=>simp[intOf];omega
   ·have T:=HR H.o.2.1.len z u.o.1;have aO:¬(k:Int)<(nl:Int):=by omega
    obtain rfl:k=nl:=by omega
    have ar:=U T;have aW:=U (bG.o.below u.o.2.2);have au:=U (y.o.trans (u.o.2.2.mono y.o.size));have hlen:=H.o.2.1.len;have al:wr.ownsRow ws.heap.size 25 1 (.slice J k c4) k ((es.map (λ e:mO=>e.r)).map kF):=by
     have h1:=u.o.2.1;rw[h_ (by omega)] at h1;exact h1
    have aX:=mc.lq al (λ r b5=>by
     obtain⟨e,he,rfl⟩:=Zo.1 b5;exact((H.o.2.1.below au.o).rows e he)) (by omega)
    rw[List.map_map] at aX;have bQ:bF (mc wr J k c4 (es.map (λ e:mO=>e.r.ah))):=U aX;have S:=aW.o.cell 0;have ak:=aW.o.cell 7;simp only[y_,x_] at S ak;clear T al aX z hk z2
    by_cases aY:el=0
    ·subst aY
     go_upto_region 18 with(go_at_call 107;refine(vP n J k c4 (es.map (λ e:mO=>e.r.ah)) wr bQ.o).mono ?_;rintro e wt ⟨rfl,B⟩;rw[ai.o.2.2];have az:=U (aW.o.below B);have Z:=U (au.o.trans (B.mono au.o.size));clear S ak B;have z0:=az.o.cell 0;have bR:=az.o.cell 7;simp only[y_,x_] at z0 bR;dsimp only)
     go_wp2_with fail
     go_loopw [108] (λ i W=>∃j:Nat,i=.int .i64 j/\j<=aR/\(C.take j).any (tH n)=false/\Below wt.heap.size wt W) (λ i _=>aR-(intOf i).toNat)
     case atStart=>exact⟨0,rfl,e_ _,rfl,g_ _ _⟩
     case round=>
      obtain⟨j,rfl,b6,T,ab⟩:=hrel;have F:=U (z_ T ab);clear T ab
      by_cases z:j<aR
      ·have Q:=H.o.2.2.2.2.2.below (Z.o.trans (F.o.2.mono Z.o.size));have aZ:j<C.length:=by rw[Q.len];exact z
       have aO:(j:Int)<(aR:Int):=by omega
       obtain⟨b,off,rfl,ab,aP⟩:=Q.cells (by omega);obtain⟨K,L,V⟩:=Q.Et z aZ;obtain⟨⟨N,⟨m,f,q,s⟩⟩,O⟩:∃e,C[j]=e:=⟨_,rfl⟩
       rw[O] at K L V;replace K:wr.cell? ⟨b,off+j*2,none⟩=some (.int .i64 N):=K;replace L:wr.cell? ⟨b,off+j*2+1,none⟩=some (.slice m f q):=L;have S:=(az.o.below F.o.2).cell 0;simp only[y_,x_] at S;clear aP Q z0 bR
       go_upto_region 21 with fail
       have mC:aM (wr.alloc (.cells #[.int .i64 N,.slice m f q] 126)) wr.heap.size 126 [.int .i64 N,.slice m f q]:=aM.new wr 126 _;have X:=bg wr (.cells #[.int .i64 N,.slice m f q] 126);generalize wr.alloc (.cells #[.int .i64 N,.slice m f q] 126)=v at*;have t0:=mC.cell 0;have t1:=mC.cell 1;simp only[y_,x_] at t0 t1;have b7:=((az.o.below F.o.2).below X).cell 0;simp only[y_,x_] at b7;have d:=U (z_ (show∀p:j<C.length,C[j]'p=(⟨N,⟨m,f,q,s⟩⟩:mG) from λ _=>O) (z_ (aN.below V X) (z_ aZ z)));have aA:=U (Z.o.trans ((F.o.2.trans (X.mono F.o.2.size)).mono Z.o.size));have bS:=U (F.o.2.trans (X.mono F.o.2.size));clear mC K L O V aZ z b6 X S
       by_cases aU:N<1
       ·have t:C.any (tH n)=true:=zo d.o.2.2.1 (by rw[d.o.1 d.o.2.2.1];unfold tH;rw[decide_eq_true aU];rfl);have D:=U t;clear t
        go_wp2_with fail
        go_ret;exact⟨qH (by rw[<-G.o,if_neg (by omega),if_neg (by rw[ar.o];exact o_),if_neg (by omega),if_pos D.o]),aA.o⟩
       ·by_cases bT:3<N
        ·have t:C.any (tH n)=true:=zo d.o.2.2.1 (by rw[d.o.1 d.o.2.2.1];unfold tH;rw[decide_eq_true bT];simp);have D:=U t;clear t
         go_wp2_with fail
         go_ret;exact⟨qH (by rw[<-G.o,if_neg (by omega),if_neg (by rw[ar.o];exact o_),if_neg (by omega),if_pos D.o]),aA.o⟩
        ·obtain⟨bU,bV⟩:∃x,lB n [s]=x:=⟨_,rfl⟩
         have aB:=U bV;have bW:=U (vP n (some ⟨v.heap.size,0,none⟩) 1 1 [s] _ (nU.AN v ⟨m,f,q,s⟩ d.o.2.1).CZ);clear bV
         by_cases a6:bU=0
         ·subst a6;have ao:tH n ⟨N,⟨m,f,q,s⟩⟩=false:=by
           unfold tH;rw[decide_eq_false aU,decide_eq_false bT,aB.o];simp
          have aT:=U ao;clear ao
          go_wp2_with (go_at_call 107;refine bW.o.mono ?_;rintro e b8 ⟨rfl,B⟩;rw[aB.o];have a7:=U B;clear B)
          go_roundw
          case rel=>exact⟨j+1,by go_num,by have:=d.o.2.2.2;omega,HQ d.o.2.2.1 (by rw[d.o.1 d.o.2.2.1];exact aT.o) F.o.1,bS.o.trans (((bg v _).trans (a7.o.mono (bg v _).size)).mono bS.o.size)⟩
          case measure=>have:=d.o.2.2.2;simp[intOf];omega
         ·have t:C.any (tH n)=true:=zo d.o.2.2.1 (by rw[d.o.1 d.o.2.2.1];unfold tH;rw[aB.o,decide_eq_true a6];simp);have D:=U t;have cg:(bU==0)=false:=by simpa using a6
          clear t
          go_wp2_with (go_at_call 107;refine bW.o.mono ?_;rintro e b8 ⟨rfl,B⟩;rw[aB.o];have a7:=U B;clear B)
          go_ret;exact⟨qH (by rw[<-G.o,if_neg (by omega),if_neg (by rw[ar.o];exact o_),if_neg (by omega),if_pos D.o]),aA.o.trans (((bg v _).trans (a7.o.mono (bg v _).size)).mono aA.o.size)⟩
      ·have aE:=HR H.o.2.2.2.2.2.len z F.o.1;have b9:=U aE;have aO:¬(j:Int)<(aR:Int):=by omega
       clear aE
       go_wp2_with fail
       go_ret;exact⟨qH (by rw[<-G.o,if_neg (by omega),if_neg (by rw[ar.o];exact o_),if_neg (by omega),if_neg (by rw[b9.o];exact o_)]),Z.o.trans (F.o.2.mono Z.o.size)⟩
    ·have ch:(el==0)=false:=by simpa using aY
     go_wp2_with (go_at_call 107;refine(vP n J k c4 (es.map (λ e:mO=>e.r.ah)) wr bQ.o).mono ?_;rintro e wt ⟨rfl,B⟩;rw[ai.o.2.2];have Z:=U (au.o.trans (B.mono au.o.size));clear B)
     go_ret;exact⟨qH (by rw[<-G.o,if_neg (by omega),if_neg (by rw[ar.o];exact o_),if_pos aY]),Z.o⟩
 ·have cj:(av==0)=false:=by simpa using aK
  go_wp2_with (go_at_call 107;refine aJ.o.mono ?_;rintro e ws ⟨rfl,af⟩;rw[ai.o.2.1];have y:=U (ae.o.trans (af.mono ae.o.size));clear af)
  go_ret;exact⟨qH (by rw[<-G.o,if_pos aK]),y.o⟩
theorem CD(O:ox n s)(f:n<=10)(b:qB w s gI bn j0 cl A c A' c' gZ gJ bp gw):
  Calls w_ 49 #[qC n gI s.gs.length bn j0 s.es.length cl A (n+1) c A' n c' s.aW gZ (n+1) gJ bp s.aD.length gw] w λ e w'=>e=.returned (.int .i64 0)/\Below w.heap.size w w':=by
 have d:=O.N7 f;have i:=O.ov;have j:=AJ f;have hm:=OD n s.gs s.es s.act s.ord s.aW s.bH s.aD (by omega) O.hk.check O.oV (by omega) b.gs b.es (by have:=b.act;rw[O.hk.kM] at this;exact this) (by have:=b.ord;rw[O.hk.pG] at this;exact this) (by have:=b.bH;rw[O.nE] at this;exact this) b.aD;have g:AH s=false:=by
  unfold AH;rw[O.hk.check,O.oV,O.gV,O.hk.kM,O.hk.pG,O.nE];simp;omega
 unfold Er at d;rw[if_neg (by rw[g];exact o_),O.gV] at d;rw[d] at hm;exact hm
end
section
open Go.RowKit Go.Shelf
def zy(bq:Nat->Prop)(w:World)(n:Nat)(s:j6)(gI:Option Addr)(bn:Nat)(t:List Int)(k:Nat)(e:Ending)(W:World):Prop:=
 ∃(s':j6)(f:Option Addr)(c1:Nat)(g:Option Addr)(c2:Nat)(i:Option Addr)(c3:Nat)(j:Option Addr)(c4:Nat)(c:Option Addr)(c5:Nat)(d:Nat)(kind:Int)(l:Option Addr)(m o:Nat)(p:Option Addr)(q r:Nat),
  e=.returned (.tuple #[qC n gI s.gs.length bn f s'.es.length c1 g (n+1) c2 i n c3 s'.aW j (n+1) c4 c s'.aD.length c5,.agg #[.int .i64 kind,.slice l m o,.slice p q r,.int .i64 (d:Int)],.int .i64 0])/\
  qB W s' gI bn f c1 g c2 i c3 j c4 c c5/\ox n s'/\s'.gs=s.gs/\s'.es.length=s.es.length+d/\s.aD<+:s'.aD/\s'.aD.length=s.aD.length+d/\d<=k/\oC (λ _=>True) W s.gs t n k d kind l m o p q r/\Below w.heap.size w W/\yo w W c s'.aD.length c5 s'.aD/\(c≠none->∃b off,c=some ⟨b,off,none⟩)/\
  (∀W':World,aF (λ b=>b<W.heap.size/\¬bq b) W W'->mc W' gI s.gs.length bn s.gs->qB W' s' gI bn f c1 g c2 i c3 j c4 c c5)/\
  ∀W':World,aF (CC (λ b=>b<W.heap.size/\¬bq b) c s'.aD.length c5) W W'->AM W' s' f c1 g c2 i c3 j c4/\oC (λ _=>True) W' s.gs t n k d kind l m o p q r
def Ig(bq:Nat->Prop)(w:World)(n:Nat)(s:j6)(gI:Option Addr)(bn:Nat)(t:List Int)(f:Nat)(e:Ending)(W:World):Prop:=
 ∃(s':j6)(g:Option Addr)(c1:Nat)(i:Option Addr)(c2:Nat)(j:Option Addr)(c3:Nat)(k:Option Addr)(c4:Nat)(c:Option Addr)(c5:Nat)(d:Nat)(kind:Int)(l:Option Addr)(m o:Nat)(p:Option Addr)(q r:Nat),
  e=.returned (.tuple #[qC n gI s.gs.length bn g s'.es.length c1 i (n+1) c2 j n c3 s'.aW k (n+1) c4 c s'.aD.length c5,.agg #[.int .i64 kind,.slice l m o,.slice p q r,.int .i64 (d:Int)],.int .i64 0])/\
  qB W s' gI bn g c1 i c2 j c3 k c4 c c5/\ox n s'/\s'.gs=s.gs/\s'.es.length=s.es.length+d/\s.aD<+:s'.aD/\s'.aD.length=s.aD.length+d/\d<=f/\oC (λ _=>True) W s.gs t n f d kind l m o p q r/\Below w.heap.size w W/\yo w W c s'.aD.length c5 s'.aD/\(c≠none->∃b off,c=some ⟨b,off,none⟩)/\
  ∀W':World,aF (λ b=>b<W.heap.size/\¬bq b) W W'->qB W' s' gI bn g c1 i c2 j c3 k c4 c c5/\oC (λ _=>True) W' s.gs t n f d kind l m o p q r
def nT(bq:Nat->Prop)(w ko:World)(b:Nat):Prop:=b<ko.heap.size/\¬bq b/\b≠w.heap.size+1/\b≠w.heap.size+1+1
theorem zy.of{jx:Nat}{lK:Option Addr}{hM c1:Nat}{jV:Option Addr}{c6:Nat}{oU:Int}{iU:Option Addr}{c9:Nat}{vo:Nat}{kind:Int}{jt:Option Addr}{jE jh:Nat}{js:Option Addr}{ic dh:Nat}(l:s.gs.length=jx)(m:mc w gI s.gs.length bn s.gs)
  (h:∃s':j6,s'.es.length=hM/\s'.aW=oU/\s'.aD.length=vo/\ox n s'/\s'.gs=s.gs/\s'.es.length=s.es.length+aQ/\s.aD<+:s'.aD/\s'.aD.length=s.aD.length+aQ/\aQ<=aX/\Below w.heap.size w ko/\(jw≠none->∃b off,jw=some ⟨b,off,none⟩)/\(∀W:World,aF (nT bq w ko) ko W->(mc W gI s.gs.length bn s.gs->qB W s' gI bn lK c1 jV c6 iq ia iU c9 jw jF)/\yo w W jw s'.aD.length jF s'.aD)/\∀W:World,aF (CC (nT bq w ko) jw s'.aD.length jF) ko W->AM W s' lK c1 jV c6 iq ia iU c9/\oC (λ _=>True) W s.gs ax n aX aQ kind jt jE jh js ic dh) (d:aF (λ b=>b≠w.heap.size+1/\b≠w.heap.size+1+1) ko W):
  zy bq w n s gI bn ax aX (.returned (.tuple #[.agg #[.int .i64 n,.slice gI jx bn,.slice lK hM c1,.slice jV (n+1) c6,.slice iq n ia,.int .i64 oU,.slice iU (n+1) c9,.slice jw vo jF],.agg #[.int .i64 kind,.slice jt jE jh,.slice js ic dh,.int .i64 (aQ:Int)],.int .i64 0])) W:=by
 obtain⟨s',rfl,rfl,rfl,O,h1,o,p,q,r,t,u,g,i⟩:=h;subst l;have e:aF (nT bq w ko) ko W:=d.mono λ b c=>⟨c.2.2.1,c.2.2.2⟩
 have j:=g W e;have k:Below w.heap.size w W:=t.trans ⟨d.os,d.tape,d.output,d.size,λ b c=>d.keep b ⟨by omega,by omega⟩⟩;exact⟨s',lK,c1,jV,c6,iq,ia,iU,c9,jw,jF,aQ,kind,jt,jE,jh,js,ic,dh,rfl,j.1 (m.below k),O,h1,o,p,q,r,(i W (e.mono λ b c=>c.1)).2,k,j.2,u,λ W' f=>
  (g W' (e.trans (f.mono λ b c=>⟨v_ c.1 d.size,c.2.1⟩))).1,λ W' f=>
  i W' ((e.mono λ b c=>c.1).trans (f.mono λ b c=>⟨⟨v_ c.1.1 d.size,c.1.2.1⟩,c.2⟩))⟩
theorem zy.OE{e:Ending}(g:∀W,aF (λ b=>b<w.heap.size/\¬bq b) w W->mc W gI s.gs.length bn s.gs)(h:zy bq w n s gI bn ax aX e W):Ig bq w n s gI bn ax aX e W:=by
 obtain⟨s',i,c1,j,c6,k,l,m,c9,o,p,q,kind,r,t,u,v,y,z,he,A,O,h1,B,C,D,E,F,d,G,H,I,J⟩:=h;exact⟨s',i,c1,j,c6,k,l,m,c9,o,p,q,kind,r,t,u,v,y,z,he,A,O,h1,B,C,D,E,F,d,G,H,λ W' f=>
  ⟨I W' f (g W' ((aF.q4 d λ b c=>c.1).trans (f.mono λ b c=>⟨v_ c.1 d.size,c.2⟩))),(J W' (f.mono λ b c=>c.1)).2⟩⟩
theorem Ih{w0:World}(d:nM w0 A n c es)(f:A=none->n=0/\c=0)(w:World)(g:A≠none->∃b off,A=some ⟨b,off,none⟩):Calls w_ 109 #[.slice A n c] w λ e w'=>e=.returned (.slice A n n)/\w'=w:=by
 cases h:A with
 |none=>
  obtain⟨h1,i⟩:=f h;subst h1 i;exact N4 w
 |some a=>
  obtain⟨b,off,e⟩:=g (by rw[h];exact Option.some_ne_none _);rw[<-h,e];exact N3 b off n c w d.cap
structure rM(w W:World)(L M N:List Value):Prop where
 bf:aM W w.heap.size 47 L
 aU:aM W (w.heap.size+1) 47 M
 bl:aM W (w.heap.size+1+1) 30 N
 kZ:Below w.heap.size w W
theorem rM.init(w:World)(L M N:List Value):rM w (((w.alloc (.cells L.toArray 47)).alloc (.cells M.toArray 47)).alloc (.cells N.toArray 30)) L M N:=by
 have c:aM (w.alloc (.cells L.toArray 47)) w.heap.size 47 L:=aM.new w 47 L;have i:=bg w (.cells L.toArray 47);have z0:(w.alloc (.cells L.toArray 47)).heap.size=w.heap.size+1:=by simp
 generalize w.alloc (.cells L.toArray 47)=w1 at*;have h1:aM (w1.alloc (.cells M.toArray 47)) w1.heap.size 47 M:=aM.new w1 47 M;have e:=bg w1 (.cells M.toArray 47);have f:(w1.alloc (.cells M.toArray 47)).heap.size=w1.heap.size+1:=by simp
 replace c:=c.below e;rw[z0] at h1 f;generalize w1.alloc (.cells M.toArray 47)=b at*;have g:aM (b.alloc (.cells N.toArray 30)) b.heap.size 30 N:=aM.new b 30 N;have d:=bg b (.cells N.toArray 30);rw[f] at g;exact⟨c.below d,h1.below d,g,i.trans ((e.trans (d.mono (by omega))).mono (by omega))⟩
theorem rM.below{w W W':World}{L M N:List Value}(h:rM w W L M N)(b:Below W.heap.size W W'):rM w W' L M N:=⟨h.bf.below b,h.aU.below b,h.bl.below b,h.kZ.trans (b.mono h.kZ.size)⟩
theorem rM.iQ{W':World}{L M N:List Value}(h:rM w W L M N){B:Nat}(c:w.heap.size+1+1<B)(f:aF (λ b=>b<B) W W'):rM w W' L M N:=
 ⟨f.blk h.bf (by omega),f.blk h.aU (by omega),f.blk h.bl (by omega),h.kZ.trans ⟨f.os,f.tape,f.output,f.size,λ b d=>f.keep b (by omega)⟩⟩
def mU:List Value:=[.int .i64 0,.slice none 0 0,.slice none 0 0,.slice none 0 0,.slice none 0 0,.int .i64 0,.slice none 0 0,.slice none 0 0]
theorem OF(ad:Nat)(O:ox n s)(aC:n<=10)(aO:qB w s gI bn j0 cl A c A' c' gZ gJ bp gw)(bU:∀W,aF (λ b=>b<w.heap.size/\¬bq b) w W->nM W bp s.aD.length gw s.aD)(aQ:aN w jm gX jo ax)(hl:∀x∈ax,gF n x)(bV:(ax.map aI).Nodup)(cN:gX<=1000)(cO:ad<=1099511627776)(bW:s.gs.length<=40000)(bX:s.aD.length<=549755813888)
  (bE:bp=none->s.aD.length=0/\gw=0) (bG:bp≠none->∃b off,bp=some ⟨b,off,none⟩) (bY:∀b,bq b->b<w.heap.size):
  Calls w_ 36 #[qC n gI s.gs.length bn j0 s.es.length cl A (n+1) c A' n c' s.aW gZ (n+1) gJ bp s.aD.length gw,.slice jm gX jo,.int .i64 ad] w (zy bq w n s gI bn ax ad):=by
 obtain⟨D,aR⟩:∃x,s.gs.length=x:=⟨_,rfl⟩
 obtain⟨nl,aS⟩:∃x,s.es.length=x:=⟨_,rfl⟩
 obtain⟨N,aV⟩:∃x,s.aD.length=x:=⟨_,rfl⟩
 have f:=U (z_ (z_ aO bU) (z_ O (z_ aR (z_ aS (z_ aV (z_ aQ (z_ hl (z_ bV (z_ bW (z_ bX (z_ bE bG)))))))))));have cP:=aQ.len;have bH:=U bY;clear bY;rw[aR,aS,aV];have cQ:bF (∀W:World,Below w.heap.size w W->Calls w_ 49 #[qC n gI D bn j0 nl cl A (n+1) c A' n c' s.aW gZ (n+1) gJ bp N gw] W λ e w'=>e=.returned (.int .i64 0)/\Below W.heap.size W w'):=U λ W d=>by
  have:=CD O aC (aO.below d);rw[aR,aS,aV] at this;exact this
 have cR:bF (∀W:World,Below w.heap.size w W->Calls w_ 98 #[qC n gI D bn j0 nl cl A (n+1) c A' n c' s.aW gZ (n+1) gJ bp N gw] W (Ie W n s bp)):=U λ W d=>by
  have:=OA O aC (aO.below d) (λ w=>Ih aO.aD bE w bG);rw[aR,aS,aV] at this;exact this
 clear aO bU O aQ hl bV bW bX bE bG aR aS aV;unfold qC at*;go_enter Tryz.func36,Tryz.ntmps36
 go_upto_region 1 with fail
 have m:=rM.init w [.int .i64 n,.slice gI D bn,.slice j0 nl cl,.slice A (n+1) c,.slice A' n c',.int .i64 s.aW,.slice gZ (n+1) gJ,.slice bp N gw] mU vn;replace m:rM w (((w.alloc (.cells #[.int .i64 n,.slice gI D bn,.slice j0 nl cl,.slice A (n+1) c,.slice A' n c',.int .i64 s.aW,.slice gZ (n+1) gJ,.slice bp N gw] 47)).alloc (.cells #[.int .i64 0,.slice none 0 0,.slice none 0 0,.slice none 0 0,.slice none 0 0,.int .i64 0,.slice none 0 0,.slice none 0 0] 47)).alloc (.cells #[.int .i64 0,.slice none 0 0,.slice none 0 0,.int .i64 0] 30)) [.int .i64 n,.slice gI D bn,.slice j0 nl cl,.slice A (n+1) c,.slice A' n c',.int .i64 s.aW,.slice gZ (n+1) gJ,.slice bp N gw] mU vn:=m;generalize (((w.alloc (.cells #[.int .i64 n,.slice gI D bn,.slice j0 nl cl,.slice A (n+1) c,.slice A' n c',.int .i64 s.aW,.slice gZ (n+1) gJ,.slice bp N gw] 47)).alloc (.cells #[.int .i64 0,.slice none 0 0,.slice none 0 0,.slice none 0 0,.slice none 0 0,.int .i64 0,.slice none 0 0,.slice none 0 0] 47)).alloc (.cells #[.int .i64 0,.slice none 0 0,.slice none 0 0,.int .i64 0] 30))=cS at*;have al:=m.bf.cell 0;have an:=m.bf.cell 1;have ao:=m.bf.cell 2;have aq:=m.bf.cell 3;have ar:=m.bf.cell 4;have av:=m.bf.cell 5;have aw:=m.bf.cell 6;have ay:=m.bf.cell 7;simp only[y_,x_] at al an ao aq ar av aw ay;have cT:=U (cQ.o cS m.kZ);have cU:= @run_makeMap w_;have cV:=U m;clear m
 go_upto_region 5 with(go_at_call 49;refine cT.o.mono ?_;rintro e a8 ⟨rfl,bZ⟩;have b0:=U (cV.o.below bZ);clear al an ao aq ar av aw ay bZ)
 have cW:=U (b0.o.below (bg a8 (.map #[] 0)));have a':bF (w.heap.size+1+1<a8.heap.size):=U b0.o.bl.lt;have cX:=U (lT.made a8);clear cU
 go_wp2_with fail
 go_loopw [24] (λ i W=>∃k:Nat,i=.int .i64 k/\k<=gX/\lT W a8.heap.size k ((ax.take k).map λ x=>(aI x:Int))/\rM w W [.int .i64 n,.slice gI D bn,.slice j0 nl cl,.slice A (n+1) c,.slice A' n c',.int .i64 s.aW,.slice gZ (n+1) gJ,.slice bp N gw] mU vn) (λ i _=>gX-(intOf i).toNat)
 case atStart=>exact⟨0,rfl,e_ _,cX.o,cW.o⟩
 case round=>
  obtain⟨k,rfl,hk,b1,bI⟩:=hrel;have M:=U b1;have S:=U bI;have al:=bI.bf.cell 0;simp only[y_,x_] at al;clear b1 bI
  by_cases bJ:k<gX
  ·have cY:(k:Int)<(gX:Int):=by omega
   have ed:Zt.wrap ((k:Int)+1)=(k:Int)+1:=by rw[f_];omega
   obtain⟨b,off,rfl,d,b2⟩:=(f.o.2.2.2.2.2.1.below S.o.kZ).cells (by omega);have cZ:=b2 k bJ;have ba:k<ax.length:=by omega
   have bb:=f.o.2.2.2.2.2.2.1 _ (vO ba);have b3:=f.o.2.2.2.2.2.2.2.1;obtain⟨x,aX⟩:∃x,jv ax k=x:=⟨_,rfl⟩
   have E:hasB ((ax.take k).map λ x=>(aI x:Int)) (aI x:Int)=false:=by
    cases c7:hasB ((ax.take k).map λ x=>(aI x:Int)) (aI x:Int) with
    |false=>rfl
    |true=>
     exfalso;obtain⟨y,c8,da⟩:=Zo.1 (oQ.1 c7);obtain⟨j,ee,e⟩:=List.mem_take_iff_getElem.1 c8;have h1:=List.pairwise_iff_getElem.1 b3 j k (by rw[q_];omega) (by rw[q_];omega) (by omega);rw[Zx,Zx,e] at h1;rw[pW ba] at aX;rw[aX] at h1;exact h1 (by have:(aI y:Int)=(aI x:Int):=da;omega)
   rw[aX] at cZ bb;have bc:aI x<=n:=bb.2;have ef:(x==0)=false:=by have:=bb.oH;simpa using this
   have eg:¬(n:Int)<x:=by unfold aI at bc;omega
   have eh:¬x< -(n:Int):=by unfold aI at bc;omega
   have wn:Zt.wrap (-(n:Int))= -(n:Int):=by rw[f_];omega
   have ei:wrap64 (-(n:Int))= -(n:Int):=by unfold wrap64;omega
   have bK:(Lit.int .i64 (aI x:Int)).wf=true:=D3 _ (by omega) (by omega);have b4:=M.o.look bK;rw[E] at b4;obtain⟨ej,db,b5,o6⟩:=M.o.put (by unfold maxLen;omega) bK;have ae:=U (z_ aX (z_ ba (z_ b5 (z_ o6 bJ))));have b6: -1000000<=x/\x<=1000000:=by unfold aI at bc;omega
   have b7:=U b6;clear b2 b3 E b5 o6 bJ hk d bb bc bK ba aX b6;obtain⟨v,bd⟩:∃v,aI x=v:=⟨_,rfl⟩
   have dc:bF (∀W:World,Calls w_ 97 #[.int .i64 x] W λ e w'=>e=.returned (.int .i64 (v:Int))/\W=w'):=U λ W=>by have:=sM x W b7.o.1 b7.o.2;rw[bd] at this;exact this
   rw[bd] at b4 db;have ek:=U bd;clear bd
   go_wp2_with (go_at_call 97;refine(dc.o _).mono ?_;rintro e w' ⟨rfl,rfl⟩)
   go_roundw
   case rel=>
    refine⟨k+1,by go_num,by have:=ae.o.2.2.2.2;omega,?_,?_⟩
    ·have h1:=ae.o.2.2.1;rw[tK ax k ae.o.2.1,ae.o.1,j_];exact h1
    ·exact⟨S.o.bf.kept ae.o.2.2.2.1 (λ e=>by injection e with e;have:=a'.o;omega),S.o.aU.kept ae.o.2.2.2.1 (λ e=>by injection e with e;have:=a'.o;omega),S.o.bl.kept ae.o.2.2.2.1 (λ e=>by injection e with e;have:=a'.o;omega),yj S.o.kZ ae.o.2.2.2.1 S.o.kZ.size (λ g e=>by injection e with e;have:=a'.o;omega)⟩
   case measure=>have:=ae.o.2.2.2.2;simp[intOf];omega
  ·have cY:¬(k:Int)<(gX:Int):=by omega
   have bf:¬(ad:Int)<0:=by omega
   have aU:¬(1099511627776:Int)<(ad:Int):=by omega
   have an:=S.o.bf.cell 1;have ao:=S.o.bf.cell 2;have aq:=S.o.bf.cell 3;have ar:=S.o.bf.cell 4;have av:=S.o.bf.cell 5;have aw:=S.o.bf.cell 6;have ay:=S.o.bf.cell 7;simp only[y_,x_] at an ao aq ar av aw ay;have dd:=U (cR.o wr S.o.kZ)
   go_upto_region 15 with(go_at_call 98;refine dd.o.mono ?_;rintro e bL ⟨base,G,hs,cb,m,rfl,bh,b8,b9,b'⟩;have bj:=U (S.o.below b9);have bo:=U bh;have ah:=U b8;have de:=U b';clear al an ao aq ar av aw ay bh b8 b9 b')
   have br:w.heap.size+1+1<base:=by have:=S.o.bl.lt;have:=de.o;omega
   have bM:=U br;have aY:∀b,b<w.heap.size->b<base:=λ b d=>by omega
   have ca:sE bq (λ b=>b<base) bL s.gs ax n s.es.length m.c.cl.length m jm gX jo ad:=by
    refine⟨aC,cP,cN,f.o.2.2.2.2.2.2.1,f.o.2.2.2.2.2.1.below bj.o.kZ,λ b d H=>?_,bo.o.s.lt,cO,?_,?_,f.o.2.1.bk,λ b d=>bo.o.s.lt b (aY b (bH.o b d))⟩
    ·obtain⟨en,off,h1,I,_⟩:=f.o.2.2.2.2.2.1.cells H;rw[h1] at d;injection d with d
     exact d▸aY _ I
    ·have h1:=ah.o.wv;have I:=f.o.2.2.2.2.2.2.2.2.1;omega
    ·have h1:m.aD.length=s.aD.length:=by rw[ah.o.aD,q_]
     have I:=f.o.2.2.2.2.2.2.2.2.2.1;omega
   have bN:∀b,b<w.heap.size->bq b->bq b:=λ b d e=>e
   have bO:=f.o.1.2 _ (Ex w bq);have cc:o4 (λ b=>b<base/\¬bq b) bL m:=nM.in f.o.1.1.aD bj.o.kZ (λ b e H=>by
    have h1:=f.o.1.1.aD.lt b e H;exact⟨aY b h1,λ I=>bO.zx b e H (bN b h1 I)⟩) ah.o.jg ah.o.aD (λ e=>(f.o.2.2.2.2.2.2.2.2.2.2.1 e).1) f.o.2.2.2.2.2.2.2.2.2.2.2
   have cd:∀p∈m.aD,qj (λ b=>b<base/\¬bq b) bL n s.gs p:=by
    rw[ah.o.aD];exact nM.lines f.o.1.1.aD bj.o.kZ (λ e he b d H=>by
     have h1:=(f.o.1.1.aD.rows e he).lt b d H;exact⟨aY b h1,λ I=>(bO.rows e he).zx b d H (bN b h1 I)⟩) f.o.2.1.xD
   have df:=U (Nz (aT:=0) ca bo.o (ah.o.jX f.o.2.1 (by omega) ax) cc cd rfl);clear ca cc cd br aY bN bO bf aU
   go_upto_region 16 with(go_at_call 99;refine df.o.mono ?_;rintro e Q ⟨K,eo,cf,bs,z,ep,kind,R,V,X,Y,Z,aa,rfl,cg,ch,bP,cj,ck,cm,cn,cp,cq,cr⟩;have dh:=U ch;have bt:=U cj;have J:=U (bj.o.iQ bM.o bP);have ab:=U (z_ cg (z_ bP (z_ ck (z_ cm (z_ cn (z_ cp (z_ cq cr)))))));clear ch bP cj ck cm cn cp cq cr cg;have bu:=J.o.bl.cell 0;have bw:=J.o.bl.cell 1;have bx:=J.o.bl.cell 2;have bz:=J.o.bl.cell 3;have aZ:=J.o.bl.free;have di:=aZ 0;have dj:=aZ 1;have dk:=aZ 2;have dm:=aZ 3;simp only[vn,y_,x_] at bu bw bx bz;clear aZ)
   have ai:∀b,b<base->K b:=ab.o.1;have ct:s5 Q (w.heap.size+1):=⟨_,_,J.o.aU,by intro u hu;simp only[mU,a_,List.not_mem_nil,or_false] at hu;rcases hu with rfl|rfl|rfl|rfl|rfl|rfl|rfl|rfl<;>simp⟩
   have cu:s5 Q (w.heap.size+1+1):=⟨_,_,J.o.bl,by intro u hu;simp only[vn,a_,List.not_mem_nil,or_false] at hu;rcases hu with rfl|rfl|rfl|rfl<;>simp⟩
   have cv:=aP.four dh.o (ai (w.heap.size+1+1) bM.o) (.int .i64 kind) (.slice R V X) (.slice Y Z aa) (.int .i64 (z:Int));have cw:aF (qi K (w.heap.size+1) (w.heap.size+1+1)) Q _:=aF.four (.int .i64 kind) (.slice R V X) (.slice Y Z aa) (.int .i64 (z:Int)) (λ h=>h.2.2 rfl);have aj:aF (λ b=>b≠w.heap.size+1+1) Q _:=aF.four (.int .i64 kind) (.slice R V X) (.slice Y Z aa) (.int .i64 (z:Int)) (λ h=>h rfl);have cx:=(((J.o.bl.set 0 (.int .i64 kind)).set 1 (.slice R V X)).set 2 (.slice Y Z aa)).set 3 (.int .i64 (z:Int));generalize (((Q.setCell ⟨w.heap.size+1+1,0,none⟩ (.int .i64 kind)).setCell ⟨w.heap.size+1+1,1,none⟩ (.slice R V X)).setCell ⟨w.heap.size+1+1,2,none⟩ (.slice Y Z aa)).setCell ⟨w.heap.size+1+1,3,none⟩ (.int .i64 (z:Int))=gb at*;have cy:rM w gb [.int .i64 n,.slice gI D bn,.slice j0 nl cl,.slice A (n+1) c,.slice A' n c',.int .i64 s.aW,.slice gZ (n+1) gJ,.slice bp N gw] mU [.int .i64 kind,.slice R V X,.slice Y Z aa,.int .i64 (z:Int)]:=
    ⟨aj.blk J.o.bf (by omega),aj.blk J.o.aU (by omega),cx,J.o.kZ.trans ⟨aj.os,aj.tape,aj.output,aj.size,λ b d=>aj.keep b (by omega)⟩⟩
   have cz:bs.c.st.length<=1000000:=by
    have er:=bt.o.lb.len;have et:=bt.o.gH.au.len;have eu:=bt.o.rg.gV;omega
   have dn:=U (NR cv.drew bt.o aC cz (qx:=n) (tD:=s.aW) (qy:=gI) (qz:=D) (qA:=bn) (nk:=.slice j0 nl cl) (tE:=.slice A (n+1) c) (tF:=.slice A' n c') (mg:=.slice gZ (n+1) gJ) (s0:=.slice bp N gw));have C:=cy.below (g_ _ _).drew;have bQ:=U C;have ak:=U (z_ ct (z_ cu (z_ cw ai)));clear cw aj cx ai cv cz bu bw bx bz di dj dk dm cy ct cu;have al:=C.bf.cell 0;have an:=C.bf.cell 1;have ao:=C.bf.cell 2;have aq:=C.bf.cell 3;have ar:=C.bf.cell 4;have av:=C.bf.cell 5;have aw:=C.bf.cell 6;have ay:=C.bf.cell 7;have bu:=C.bl.cell 0;have bw:=C.bl.cell 1;have bx:=C.bl.cell 2;have bz:=C.bl.cell 3;simp only[y_,x_] at al an ao aq ar av aw ay bu bw bx bz;clear C;have dp:bF (∀(e:Ending)(ko:World),HI K base gb.drew G cf s.gs ax n s.es.length z bs n gI D bn e ko->∃(az:Option Addr)(bA c1:Nat)(aE:Option Addr)(c6:Nat)(aA:Option Addr)(aB:Nat)(bB:Int)(aG:Option Addr)(c9:Nat)(L:Option Addr)(aH af:Nat),e=.returned (.agg #[.int .i64 n,.slice gI D bn,.slice az bA c1,.slice aE (n+1) c6,.slice aA n aB,.int .i64 bB,.slice aG (n+1) c9,.slice L aH af])/\rM w ko [.int .i64 n,.slice gI D bn,.slice j0 nl cl,.slice A (n+1) c,.slice A' n c',.int .i64 s.aW,.slice gZ (n+1) gJ,.slice bp N gw] mU [.int .i64 kind,.slice R V X,.slice Y Z aa,.int .i64 (z:Int)]/\∃s':j6,s'.es.length=bA/\s'.aW=bB/\s'.aD.length=aH/\ox n s'/\s'.gs=s.gs/\s'.es.length=s.es.length+z/\s.aD<+:s'.aD/\s'.aD.length=s.aD.length+z/\z<=ad/\Below w.heap.size w ko/\(L≠none->∃b off,L=some ⟨b,off,none⟩)/\(∀W:World,aF (nT bq w ko) ko W->(mc W gI s.gs.length bn s.gs->qB W s' gI bn az c1 aE c6 aA aB aG c9 L af)/\yo w W L s'.aD.length af s'.aD)/\∀W:World,aF (CC (nT bq w ko) L s'.aD.length af) ko W->AM W s' az c1 aE c6 aA aB aG c9/\oC (λ _=>True) W s.gs ax n ad z kind R V X Y Z aa):=U (by
    intro e ko bh;obtain⟨cA,F,iI,dq,az,dr,dt,aA,aB,rfl,bC,aJ,cB,a6,aK,du,ev,ew,cC,dv,dw,bD,ey,aL,dx,E⟩:=bh;have ai:=ak.o.2.2.2;have br:=bM.o;have l:rM w ko _ mU _:=bQ.o.iQ (B:=base) br (cB.mono ai);have dy:=a6.rg.kM;have dz:=a6.rg.nE;have v6:(F 6).v=.slice (F 6).A (n+1) (F 6).c:=by rw[<-dy,<-aJ.e.n6];rfl
    have v9:(F 9).v=.slice (F 9).A (n+1) (F 9).c:=by rw[<-dz,<-aJ.e.jI];rfl
    obtain⟨L,aH,af,bR⟩:∃A n c,oc F iI=.slice A n c:=by
     unfold oc
     cases iI.jg with
     |none=>exact⟨_,_,_,rfl⟩
     |some h=>exact⟨_,_,_,rfl⟩
    refine⟨az,dt.length,dr,(F 6).A,(F 6).c,aA,aB,iI.aW,(F 9).A,(F 9).c,L,aH,af,by rw[<-v6,<-v9,<-bR],l,?_⟩;have dA:∀b,gb.drew.heap.size<=b->b≠w.heap.size+1/\b≠w.heap.size+1+1:=λ b d=>by
     have h1:=bQ.o.bl.lt;omega
    have cD:∀b,¬bq b->¬bq b:=λ b h1=>h1
    have cE:∀b,bq b->b<base:=λ b e=>by have:=bH.o b e;omega
    have f810:aF (qi K (w.heap.size+1) (w.heap.size+1+1)) Q ko:=ak.o.2.2.1.trans ((aF.drew.trans cB).mono λ b d=>d.1);have bS:=f810.size;have dB:∀b,b<base->b<Q.heap.size:=λ b d=>v_ (bo.o.s.lt b d) ab.o.2.1.size
    have f8:∀W,aF (nT bq w ko) ko W->aF (λ b=>b<Q.heap.size/\qi (λ b=>K b/\¬bq b) (w.heap.size+1) (w.heap.size+1+1) b) Q W:=λ W t=>(f810.mono λ b d=>⟨d.2.1.1,d.2.2⟩).trans (t.mono λ b d=>⟨v_ d.1 bS,cD b d.2.1.2,d.2.2⟩)
    have dC:∀W,aF (nT bq w ko) ko W->aP cA base W G F cf iI:=λ W t=>aJ.still (P:=λ b=>b=w.heap.size+1\/b=w.heap.size+1+1\/bq b) (t.mono λ b d=>⟨d.1,λ e=>d.2 (.inr (.inr e)),λ e=>d.2 (.inl e),λ e=>d.2 (.inr (.inl e))⟩) (λ b d=>bC b (ai b (d.elim (λ h1=>by omega) (λ h1=>h1.elim (λ h1=>by omega) (cE b)))))
    have cF:∀W,aF (nT bq w ko) ko W->o4 cA W iI:=λ W t=>by
     have h1:o4 (λ b=>b<base/\¬bq b) W bs:=ab.o.2.2.1.off (λ p hp=>(ab.o.2.2.2.1 p hp).jf) ak.o.1 ak.o.2.1 ((f8 W t).mono λ b d=>⟨dB b d.1.1,⟨ai b d.1.1,d.1.2⟩,d.2⟩);exact(o4.kept h1 (s':=iI) aF.refl du aK).mono (λ b d=>bC b (ai b d.1))
    have dD:∀p∈iI.aD,qj (nT bq w ko) ko n s.gs p:=λ p hp=>(((ab.o.2.2.2.1 p (by rw[<-aK];exact hp)).Oy ak.o.1 ak.o.2.1).iQ (f810.mono λ b d=>⟨d.2.1.1,d.2.2⟩)).mono λ b d=>⟨v_ d.1 bS,cD b d.2.1.2,d.2.2⟩
    have aM:∀b,b<ko.heap.size->gb.drew.heap.size<=b->nT bq w ko b:=λ b h1 I=>by
     have dE:=dA b I;have dq:=bQ.o.bl.lt;exact⟨h1,λ dF=>by have:=bH.o b dF;omega,dE⟩
    have fin:∀W,aF (nT bq w ko) ko W->nM W bp s.aD.length gw s.aD:=λ W t=>f.o.1.2 W ((aF.q4 l.kZ λ b d=>d.1).trans (t.mono λ b d=>⟨by have:=l.kZ.size;omega,d.2,by omega,by omega⟩))
    have dG:bs.aD.length=s.aD.length+z:=by have h1:=ab.o.2.2.2.2.2.1;rw[ah.o.aD,q_] at h1;exact h1
    have ez:=a6.ov;have eA:=AJ aC;have eB:=a6.pG;have eC:=f.o.2.2.2.2.2.2.2.2.2.1;obtain⟨s',aE,c6,aG,c9,eD,eE,cG,cH,cI,dH,dI,dJ,dK,dL,dM,dN,dO,dP,dQ⟩:=Ox (w:=w) (ko:=ko) (nT:=nT bq w ko) (gI:=gI) (bn:=bn) (λ W t=>(fin W t).rows) f.o.2.1 aC (by omega) dC a6 (λ W t=>cC.Ia t (λ b d e=>aM b d (s_ aL (E.1 b e))) (λ e he b d h1=>aM b d (s_ aL (E.2.1 e he b h1)))) dv dw (λ W t=>bD.iQ t (λ b e H=>aM b (bD.lt b e H) (s_ aL (E.2.2 b e)))) (λ r b e=>by have h1:=aJ.e.rows.lt e;exact⟨h1.2,λ I=>by have:=cE b I;omega,by omega,by omega⟩) (λ q aQ W t=>by
     have eF:=dx 11 q aQ;exact⟨cC.Ia t (λ b d e=>⟨aM b d (s_ aL (E.1 b e)),by have:=E.1 b e;omega⟩) (λ e he b d h1=>⟨aM b d (s_ aL (E.2.1 e he b h1)),by have:=E.2.1 e he b h1;omega⟩),bD.iQ t (λ b e H=>⟨aM b (bD.lt b e H) (s_ aL (E.2.2 b e)),by have:=E.2.2 b e;omega⟩)⟩) (λ p hp b e dR r dS=>aJ.s.row r b dS (bC b ((ab.o.2.2.2.1 p (by rw[<-aK];exact hp)).blk b e dR).1)) cF dD (by rw[aK,<-ah.o.aD];exact ab.o.2.2.2.2.1) (by rw[aK];omega) rfl
    rw[v6] at cG;rw[v9] at cH;rw[bR] at cI;injection cG with a1 a2 a3
    injection cH with aU bl dT
    injection cI with d1 d2 d3
    subst a1 a3 aU dT d1 d3;refine⟨s',by rw[dI],dH,d2.symm,dK,dJ,dL,dM,by rw[dN,aK];exact dG,ab.o.2.2.2.2.2.2.1,l.kZ,dO,dP,λ W t=>⟨dQ W t,?_⟩⟩;have dU:oC (λ b=>(K b/\¬bq b)/\(s'.aD.length≠af->L.map (·.block)≠some b)) Q s.gs ax n ad z kind R V X Y Z aa:=ab.o.2.2.2.2.2.2.2.mono λ b d=>⟨d,λ eG e=>aJ.s.row 11 b ((H9 (cF ko aF.refl) bR (by omega)).trans e) (bC b d.1)⟩
    exact dU.Oz f.o.2.2.2.2.2.2.1 ak.o.1 ak.o.2.1 ((f810.mono λ b d=>⟨d.2.1.1.1,d.2.2⟩).trans (t.mono λ b d=>⟨⟨v_ d.1 bS,d.2.1.1.2,d.2.2⟩,d.2.1.2⟩)))
   rename_i dV cJ;have dW:=U cJ;clear cJ;refine wp_region_noPanic ?_
   go_region_with (go_at_call 100;refine dn.o.mono ?_;intro e ko cK;obtain⟨az,bA,c1,aE,c6,aA,aB,bB,aG,c9,L,aH,af,rfl,l,cL⟩:=dp.o e ko cK;have cM:=U l;have dX:=U cL;clear cK cL;have m0:=l.bl.cell 0;have m1:=l.bl.cell 1;have m2:=l.bl.cell 2;have m3:=l.bl.cell 3;have dY:=l.aU.cell 0;have dZ:=l.aU.cell 1;have d':=l.aU.cell 2;have ea:=l.aU.cell 3;have eb:=l.aU.cell 4;have ec:=l.aU.cell 5;have n6:=l.aU.cell 6;have n7:=l.aU.cell 7;have a7:=l.bl.free;have eH:=a7 0;have eI:=a7 1;have eJ:=a7 2;have eK:=a7 3;have ag:=l.aU.free;have eL:=ag 0;have eM:=ag 1;have eN:=ag 2;have eO:=ag 3;have eP:=ag 4;have eQ:=ag 5;have eR:=ag 6;have eS:=ag 7;simp only[mU,y_,x_] at m0 m1 m2 m3 dY dZ d' ea eb ec n6 n7;clear a7 ag l)
   all_goals
    show dV _ _;apply dW.o
    go_wp2_with fail
   all_goals
    have T:=vL.ok cM.o.aU cM.o.bl (by omega) (.int .i64 n) (.slice gI D bn) (.slice az bA c1) (.slice aE (n+1) c6) (.slice aA n aB) (.int .i64 bB) (.slice aG (n+1) c9) (.slice L aH af) (.int .i64 kind) (.slice R V X) (.slice Y Z aa) (.int .i64 (z:Int));have bT:=U T;clear T;refine Ic rfl rfl rfl rfl bT.o.1 bT.o.2.1 (zy.of f.o.2.2.1 f.o.1.1.gs dX.o bT.o.2.2)
theorem OG(d:Nat)(O:ox n s)(g:n<=10)(e:Ib w bq s gI bn j0 cl A c A' c' gZ gJ bp gw)(i:aN w jm gX jo ax)(hl:∀x∈ax,gF n x)(j:(ax.map aI).Nodup)(k:gX<=1000)(l:d<=1099511627776)(m:s.gs.length<=40000)(o:s.aD.length<=549755813888)
  (p:bp=none->s.aD.length=0/\gw=0) (q:bp≠none->∃b off,bp=some ⟨b,off,none⟩) (r:∀b,bq b->b<w.heap.size):
  Calls w_ 36 #[qC n gI s.gs.length bn j0 s.es.length cl A (n+1) c A' n c' s.aW gZ (n+1) gJ bp s.aD.length gw,.slice jm gX jo,.int .i64 d] w (Ig bq w n s gI bn ax d):=
 (OF d O g (e w aF.refl) (λ W f=>(e W f).aD) i hl j k l m o p q r).mono λ _ _ h=>h.OE λ W f=>(e W f).gs
end
section
open Go.RowKit Go.WideShapes Go.ChangeShapes
section
variable {H:Type}{enc:TypeId×Value->H}{P:Program}
theorem Ii{f:Func}{s:ChangeSpec}{apart fresh handsOn again:Bool}{W W':World}{args:Array Value}{v:Value}{ds gs:List (DataW H)}{before pa pv:List MemPlace}
  (d:DataW.Whole enc P f.params.toList s.vars apart W args.toList ds gs before)
  (e:∀(b:Nat)(sp:Nat->Bool)(n:Bool),DataW.TrodAll enc P W' b sp n f.resultTypes.toList (v.resultList f.resultTypes.size) (s.fn H (ds++gs)).results [])
  (g:∀sp:Nat->Bool,(∀p∈before,sp p.block=true)->DataW.TrodAll enc P W' 0 sp true f.params.toList args.toList (s.fn H (ds++gs)).args pa)
  (i:∀sp:Nat->Bool,(∀p∈before,sp p.block=true)->DataW.TrodVars enc P W' sp s.vars (s.fn H (ds++gs)).vars pv)
  (c:before=pa++pv) (k:Below W.heap.size W W')
  (o:∀(j:Nat)(t:TypeId)(r:Value),f.resultTypes[j]? =some t->(v.resultList f.resultTypes.size)[j]? =some r->Value.okWide P W' .any 0 t r):
  s.post enc P f apart fresh handsOn again W args v W':=by
 have l:∀p∈before,p.block<W.heap.size:=λ p hp=>d.lt p hp
 have hold:∀p∈before,(λ b=>decide (b<W.heap.size)) p.block=true:=λ p hp=>by simpa using l p hp
 refine⟨ds,gs,before,[],pa,pv,d,e _ _ _,g _ hold,i _ hold,World.keptBut_mono (λ p hp=>⟨hp,?_⟩) (k.frame (·∈before)),λ _=>?_⟩
 ·rw[c,u_] at hp;exact Or.inr hp
 ·obtain⟨_,_,_,_,_,q,u⟩:=d;refine⟨o,_,_,([]++pa)++pv,⟨[]++pa,pv,trodAll_append (g _ (λ _ _=>rfl)) (e _ _ _),i _ (λ _ _=>rfl),rfl,?_,?_⟩,?_⟩
  ·intro b off hp;have m:MemPlace.cell b off∈before:=by rw[c];simpa using hp
   rw[k.frozen (l _ m)];exact q b off m
  ·intro w;have:=u w;rw[c] at this;simpa using this
  ·intro p hp _;rw[c];simpa using hp
end
end
section
open Go.ChangeShapes Go.WideShapes Go.ChangeAt Go.RowKit Go.Joins Go.Deep
theorem laidOut:laidOutB w_=true:=by kernel_rfl
theorem Ij:ownKnob w_.godebug=none:=by kernel_rfl
theorem Ik:w_.cellsOf 3=1:=by kernel_rfl
theorem OH:w_.cellsOf 25=1:=by kernel_rfl
theorem OI:w_.bytesOf 3=8:=by kernel_rfl
def Fits{H:Type}(t:TypeId)(d:DataW H):Prop:=∀n∈d.weights w_ t,n<=reachBytes
theorem OJ:reachBytes<=140737488355328:=by decide
theorem Il{BO:List TypeId}{ds:List (DataW H)}(h:(DataW.weightsEach w_ BO ds).all (·<=reachBytes)=true){j:Nat}{t:TypeId}{d:DataW H}(b:BO[j]? =some t)(c:ds[j]? =some d):Fits t d:=λ n e=>
 of_decide_eq_true (List.all_eq_true.1 h n (DataW.weights_mem_each b c n e))
theorem Im{H:Type}{P:Program}{e:TypeId}{d:DataW H}:∀{l:List (DataW H)},d∈l->∀n∈d.weights P e,n∈DataW.weightsAll P e l
 |x::l,c,n,b=>by
  simp only[DataW.weightsAll,u_];rcases a_.1 c with rfl|h
  ·exact n_ b
  ·exact Or.inr (Im h n b)
theorem Fits.elem{e:TypeId}{elems spare:List (DataW H)}(h:Fits t (.slice elems spare))(hu:w_.underlying t=some (.slice e)){d:DataW H}(b:d∈elems):Fits e d:=λ n c=>by
 refine h n ?_;simp only[DataW.weights,hu,a_,u_];exact Or.inr (n_ (Im b n c))
theorem Fits.len{e:TypeId}{elems spare:List (DataW H)}(h:Fits t (.slice elems spare))(hu:w_.underlying t=some (.slice e)):elems.length*w_.bytesOf e<=140737488355328:=by
 have:=h ((elems.length+spare.length)*w_.bytesOf e) (by simp[DataW.weights,hu]);have b:elems.length*w_.bytesOf e<=(elems.length+spare.length)*w_.bytesOf e:=Nat.mul_le_mul_right _ (by omega);exact s_ b (s_ this OJ)
theorem Io{α:Type}[Inhabited α]{P:Nat->α->Prop}:∀n,(∀j,j<n->∃x,P j x)->∃l:List α,l.length=n/\∀j,j<n->P j (l.getD j default)
 |0,_=>⟨[],rfl,λ j h=>by omega⟩
 |n+1,h=>by
  obtain⟨l,hl,hp⟩:=Io n (λ j b=>h j (by omega));obtain⟨x,c⟩:=h n (by omega);refine⟨l++[x],by simp[hl],λ j b=>?_⟩;rcases Zf j n with d|e
  ·have:=hp j d
   rwa[p_,List.getElem?_append_left (by omega),<-p_]
  ·have:j=n:=by omega
   subst this;rw[p_,List.getElem?_append_right (by omega)];simpa[hl] using c
section
variable {H:Type}{enc:TypeId×Value->H}{W:World}{base:Nat}{sp:Nat->Bool}{held:Bool}
theorem Ip{W:World}{b o:Nat}{v:Value}(h:W.cell? ⟨b,o,none⟩=some v):b<W.heap.size:=by
 rcases Zf b W.heap.size with c|d
 ·exact c
 ·simp[World.cell?,Zl d] at h
theorem Iq{fuel:Nat}{cs:List Value}{x:DataW H×List MemPlace}(h:DataW.trod enc w_ W base sp held fuel 25 cs=some x)(e:Fits 25 x.1):
  ∃A n c d,cs=[.slice A n c]/\aN W A n c d/\∀z∈d,(Lit.int .i64 z).wf=true:=by
 rcases open_ints Zp Tryz.underlying3 Ik h with⟨f,_⟩|⟨a,len,cap,d,f,_,hl,hm,k,rfl,l,m⟩
 ·exact⟨none,0,0,[],f,aN.nil _ _ _ (e_ _),λ z e=>by cases e⟩
 ·have q:len<=d.length:=by rw[k];split<;>omega
  have g:=e.len Zp;rw[OI] at g;have o:(lits (H:=H) .i64 (d.take len)).length=len:=by simp[lits];omega
  rw[o] at g;refine⟨some a,len,cap,d.take len,f,⟨by simp;omega,hl,g,hm,λ r=>?_⟩,λ z e=>m z (List.mem_of_mem_take e)⟩;obtain⟨b,off,rfl,i⟩:=ints_at l (by omega);refine⟨b,off,rfl,Ip (i 0 (by omega)),λ j p=>?_⟩;rw[i j (by omega)];simp[jv,p_,p]
theorem Ir{W':World}{v:Value}{d:DataW H}{p:List MemPlace}(h:DataW.Trod enc w_ W 0 (λ _=>true) true 25 v d p)(b:Below W.heap.size W W')(c:∀x∈p,x.block<W.heap.size){AO:Nat->Bool}(hs:∀x∈p,AO x.block=true):
  DataW.Trod enc w_ W' 0 AO true 25 v d p:=
 WideElems.Trod_stays laidOut (by kernel_rfl) (of_decide_eq_true (by kernel_rfl)) h (λ x e=>b.same (c x e)) hs
theorem Is{r:Reach}{bf:Nat}{v:Value}{d:DataW H}{p:List MemPlace}(e:Value.okWide w_ W r bf 25 v)(h:DataW.Trod enc w_ W base sp held 25 v d p)(f:Fits 25 d):
  ∃A n c b,v=.slice A n c/\aN W A n c b/\∀z∈b,(Lit.int .i64 z).wf=true:=by
 obtain⟨A,n,c,rfl⟩:=okWide_slice Zp e;obtain⟨fuel,h⟩:=h;obtain⟨A',g,c',b,i,j,hw⟩:=Iq h f;obtain⟨rfl,rfl,rfl⟩:A=A'/\n=g/\c=c':=by simpa[Value.cells] using i
 exact⟨A,n,c,b,rfl,j,hw⟩
end
end
section
open Go.ChangeShapes Go.WideShapes Go.ChangeAt Go.RowKit
def EB:List Nat:=[
 104,97,114,110,101,115,115,32,56,100,54,48,101,55,98,56,49,55,55,56,98,53,101,101,100,49,51,57,55,99,51,53,57,51,51,98,51,100,52,53,
 50,98,50,55,56,51,97,102,99,97,57,51,55,97,100,49,56,54,49,98,51,102,53,100,57,50,49,100,52,55,98,54,32,99,117,116,32,97,116,32,
 99,104,97,108,107,108,105,110,101,47,99,104,97,108,107,108,105,110,101,108,97,119,50,55,46,67,111,114,101,69,114,114,111,114,83,112,101,99,32,99,
 104,97,108,107,108,105,110,101,47,99,104,97,108,107,108,105,110,101,108,97,119,50,55,46,67,111,114,101,76,101,97,115,116,77,105,110,105,109,97,108,
 32,99,104,97,108,107,108,105,110,101,47,99,104,97,108,107,108,105,110,101,108,97,119,50,55,46,67,111,114,101,71,114,111,119,77,97,120,105,109,97,
 108,32,99,104,97,108,107,108,105,110,101,47,99,104,97,108,107,108,105,110,101,108,97,119,50,55,46,67,111,114,101,68,101,99,105,100,101,115,32,99,
 104,97,108,107,108,105,110,101,47,99,104,97,108,107,108,105,110,101,108,97,119,50,55,46,67,111,114,101,65,103,114,101,101,115,87,105,116,104,83,111,
 108,118,101,114,32,99,104,97,108,107,108,105,110,101,47,99,104,97,108,107,108,105,110,101,108,97,119,50,55,46,67,111,114,101,73,100,101,109,112,111,
 116,101,110,116,32,99,104,97,108,107,108,105,110,101,47,99,104,97,108,107,108,105,110,101,108,97,119,50,55,46,67,111,114,101,67,111,114,114,101,99,
 116,105,111,110,83,101,116,32,99,104,97,108,107,108,105,110,101,47,99,104,97,108,107,108,105,110,101,108,97,119,50,53,46,83,111,108,118,101,114,66,
 97,115,105,99,115,83,112,101,99,32,99,104,97,108,107,108,105,110,101,47,99,104,97,108,107,108,105,110,101,108,97,119,50,53,46,83,111,108,118,101,
 114,83,111,108,118,101,69,114,114,111,114,115,32,99,104,97,108,107,108,105,110,101,47,99,104,97,108,107,108,105,110,101,108,97,119,50,53,46,83,111,
 108,118,101,114,65,110,115,119,101,114,67,111,114,114,101,99,116,32,99,104,97,108,107,108,105,110,101,47,99,104,97,108,107,108,105,110,101,108,97,119,
 50,53,46,83,111,108,118,101,114,83,116,97,116,101,80,114,101,115,101,114,118,101,100,32,99,104,97,108,107,108,105,110,101,47,99,104,97,108,107,108,
 105,110,101,108,97,119,50,53,46,83,111,108,118,101,114,65,110,115,119,101,114,83,116,97,98,108,101,32,99,104,97,108,107,108,105,110,101,47,99,104,
 97,108,107,108,105,110,101,108,97,119,50,53,46,83,111,108,118,101,114,69,110,117,109,101,114,97,116,101,115,77,111,100,101,108,115,32,99,104,97,108,
 107,108,105,110,101,47,99,104,97,108,107,108,105,110,101,108,97,119,50,53,46,83,111,108,118,101,114,65,100,100,77,111,110,111,116,111,110,101,32,99,
 104,97,108,107,108,105,110,101,47,99,104,97,108,107,108,105,110,101,108,97,119,50,53,46,83,111,108,118,101,114,71,114,111,119,80,114,101,115,101,114,
 118,101,115,32,99,104,97,108,107,108,105,110,101,47,99,104,97,108,107,108,105,110,101,108,97,119,50,56,46,72,105,116,83,112,101,99,32,99,104,97,
 108,107,108,105,110,101,47,99,104,97,108,107,108,105,110,101,108,97,119,50,56,46,72,105,116,77,105,110,105,109,97,108,32,99,104,97,108,107,108,105,
 110,101,47,99,104,97,108,107,108,105,110,101,108,97,119,50,56,46,72,105,116,73,110,118,111,108,117,116,105,111,110,32,99,104,97,108,107,108,105,110,
 101,47,99,104,97,108,107,108,105,110,101,108,97,119,50,56,46,72,105,116,69,110,117,109,101,114,97,116,101,115,32,99,104,97,108,107,108,105,110,101,
 47,99,104,97,108,107,108,105,110,101,108,97,119,50,56,46,72,105,116,68,117,97,108,105,116,121,32,99,104,97,108,107,108,105,110,101,47,99,104,97,
 108,107,108,105,110,101,108,97,119,50,56,46,72,105,116,67,111,114,101,115,77,105,110,105,109,97,108,32,99,104,97,108,107,108,105,110,101,47,99,104,
 97,108,107,108,105,110,101,108,97,119,50,56,46,72,105,116,70,105,120,101,115,77,105,110,105,109,97,108,32,99,104,97,108,107,108,105,110,101,47,99,
 104,97,108,107,108,105,110,101,108,97,119,50,56,46,72,105,116,67,108,97,115,115,105,102,105,101,115,83,117,98,115,101,116,115]
theorem head_eq:w_.initOrder=String.ofList (EB.map Zg):=by kernel_rfl
theorem It:w_.initOrder.toList=EB.map Zg:=by rw[head_eq];exact String.toList_ofList
def Iu:List (List Nat):=[
 [99,117,116],
 [97,116],
 [99,104,97,108,107,108,105,110,101,47,99,104,97,108,107,108,105,110,101,108,97,119,50,55,46,67,111,114,101,69,114,114,111,114,83,112,101,99],
 [99,104,97,108,107,108,105,110,101,47,99,104,97,108,107,108,105,110,101,108,97,119,50,55,46,67,111,114,101,76,101,97,115,116,77,105,110,105,109,97,108],
 [99,104,97,108,107,108,105,110,101,47,99,104,97,108,107,108,105,110,101,108,97,119,50,55,46,67,111,114,101,71,114,111,119,77,97,120,105,109,97,108],
 [99,104,97,108,107,108,105,110,101,47,99,104,97,108,107,108,105,110,101,108,97,119,50,55,46,67,111,114,101,68,101,99,105,100,101,115],
 [99,104,97,108,107,108,105,110,101,47,99,104,97,108,107,108,105,110,101,108,97,119,50,55,46,67,111,114,101,65,103,114,101,101,115,87,105,116,104,83,111,108,118,101,114],
 [99,104,97,108,107,108,105,110,101,47,99,104,97,108,107,108,105,110,101,108,97,119,50,55,46,67,111,114,101,73,100,101,109,112,111,116,101,110,116],
 [99,104,97,108,107,108,105,110,101,47,99,104,97,108,107,108,105,110,101,108,97,119,50,55,46,67,111,114,101,67,111,114,114,101,99,116,105,111,110,83,101,116],
 [99,104,97,108,107,108,105,110,101,47,99,104,97,108,107,108,105,110,101,108,97,119,50,53,46,83,111,108,118,101,114,66,97,115,105,99,115,83,112,101,99],
 [99,104,97,108,107,108,105,110,101,47,99,104,97,108,107,108,105,110,101,108,97,119,50,53,46,83,111,108,118,101,114,83,111,108,118,101,69,114,114,111,114,115],
 [99,104,97,108,107,108,105,110,101,47,99,104,97,108,107,108,105,110,101,108,97,119,50,53,46,83,111,108,118,101,114,65,110,115,119,101,114,67,111,114,114,101,99,116],
 [99,104,97,108,107,108,105,110,101,47,99,104,97,108,107,108,105,110,101,108,97,119,50,53,46,83,111,108,118,101,114,83,116,97,116,101,80,114,101,115,101,114,118,101,100],
 [99,104,97,108,107,108,105,110,101,47,99,104,97,108,107,108,105,110,101,108,97,119,50,53,46,83,111,108,118,101,114,65,110,115,119,101,114,83,116,97,98,108,101],
 [99,104,97,108,107,108,105,110,101,47,99,104,97,108,107,108,105,110,101,108,97,119,50,53,46,83,111,108,118,101,114,69,110,117,109,101,114,97,116,101,115,77,111,100,101,108,115],
 [99,104,97,108,107,108,105,110,101,47,99,104,97,108,107,108,105,110,101,108,97,119,50,53,46,83,111,108,118,101,114,65,100,100,77,111,110,111,116,111,110,101],
 [99,104,97,108,107,108,105,110,101,47,99,104,97,108,107,108,105,110,101,108,97,119,50,53,46,83,111,108,118,101,114,71,114,111,119,80,114,101,115,101,114,118,101,115],
 [99,104,97,108,107,108,105,110,101,47,99,104,97,108,107,108,105,110,101,108,97,119,50,56,46,72,105,116,83,112,101,99],
 [99,104,97,108,107,108,105,110,101,47,99,104,97,108,107,108,105,110,101,108,97,119,50,56,46,72,105,116,77,105,110,105,109,97,108],
 [99,104,97,108,107,108,105,110,101,47,99,104,97,108,107,108,105,110,101,108,97,119,50,56,46,72,105,116,73,110,118,111,108,117,116,105,111,110],
 [99,104,97,108,107,108,105,110,101,47,99,104,97,108,107,108,105,110,101,108,97,119,50,56,46,72,105,116,69,110,117,109,101,114,97,116,101,115],
 [99,104,97,108,107,108,105,110,101,47,99,104,97,108,107,108,105,110,101,108,97,119,50,56,46,72,105,116,68,117,97,108,105,116,121],
 [99,104,97,108,107,108,105,110,101,47,99,104,97,108,107,108,105,110,101,108,97,119,50,56,46,72,105,116,67,111,114,101,115,77,105,110,105,109,97,108],
 [99,104,97,108,107,108,105,110,101,47,99,104,97,108,107,108,105,110,101,108,97,119,50,56,46,72,105,116,70,105,120,101,115,77,105,110,105,109,97,108],
 [99,104,97,108,107,108,105,110,101,47,99,104,97,108,107,108,105,110,101,108,97,119,50,56,46,72,105,116,67,108,97,115,115,105,102,105,101,115,83,117,98,115,101,116,115]]
theorem Iv:behindMainWord (wordsSigns (EB.map Zg))=Iu.map (·.map Zg):=by kernel_rfl
theorem OK:w_.headLifts=[]:=by
 unfold Program.headLifts;rw[It,Iv];kernel_rfl
theorem OL (h : behindMainWord (wordsSigns P.initOrder.toList) = "cut".toList :: rest) : P.make = some .cut := by
 unfold Program.make;rw[h];rfl
theorem OM (h : behindMainWord (wordsSigns P.initOrder.toList) = "cut".toList :: rest) (b : P.headLifts = []) : P.liftsFinal = false := by
 unfold Program.liftsFinal;rw[h,b];rfl
theorem EC : behindMainWord (wordsSigns Tryz.prog.initOrder.toList) = "cut".toList :: (Iu.tail.map (·.map Char.ofNat)) := by
 rw[It,Iv];kernel_rfl
theorem ON (rest : List (List Char)) : stripLifts liftWords ("cut".toList :: rest) = ([], "cut".toList :: rest) := by kernel_rfl
theorem OO (h : behindMainWord (wordsSigns P.initOrder.toList) = "cut".toList :: rest) (h1 : P.laysLater = false) (b : P.bearsReflect = false) (c : P.doorFits [] = true) : P.mayEnter = true := by
 unfold Program.mayEnter;rw[h];simp only[ON,h1,b,c];rfl
theorem OP:w_.laysLater=false:=by kernel_rfl
theorem OQ:w_.bearsReflect=false:=by kernel_rfl
theorem OR:w_.doorFits []=true:=by kernel_rfl
theorem Iw:w_.mayEnter=true:=OO EC OP OQ OR
theorem made:w_.make=some .cut:=OL EC
theorem Iy:w_.liftsFinal=false:=OM EC OK
end
section
def mY:List (List Int):=[[1,2],[-1,2]]
theorem zz{x:Int}(h:gF 2 x):x=1\/x= -1\/x=2\/x= -2:=by
 unfold gF aI at h;omega
theorem Iz(M:Int->Bool)(b:Mod M)(h:M 2=true):tO M mY:=
 ⟨b,λ l hl=>by
  unfold mY at hl;rcases a_.1 hl with rfl|hl
  ·exact⟨2,by simp,h⟩
  ·rw[r_.1 hl];exact⟨2,by simp,h⟩⟩
theorem OS{l:List Int}(hl:∀x∈l,gF 2 x)(h:pM mY l)(m:∀x∈l,-x∉l):(2:Int)∈l:=by
 refine Classical.byContradiction λ g=>?_
 have key:∃M:Int->Bool,Mod M/\M 2=true/\∀x∈l,M x=false:=by
  by_cases h1:(1:Int)∈l
  ·refine⟨λ x=>if x=1 then false else if x= -1 then true else decide (0<x),λ x b=>?_,by decide,λ x b=>?_⟩
   ·by_cases i:x=1
    ·subst i;decide
    by_cases j:x= -1
    ·subst j;decide
    show(if-x=1 then false else if-x= -1 then true else decide (0< -x))= !(if x=1 then false else if x= -1 then true else decide (0<x));rw[if_neg (by omega),if_neg (by omega),if_neg i,if_neg j,Bool.eq_iff_iff];simp;omega
   ·have c:=zz (hl x b);have d:x≠-1:=λ e=>m 1 h1 (by rw[<-e];exact b)
    have f:x≠2:=λ e=>g (by rw[<-e];exact b)
    rcases c with rfl|rfl|rfl|rfl
    ·decide
    ·exact absurd rfl d
    ·exact absurd rfl f
    ·decide
  ·refine⟨λ x=>decide (0<x),λ x b=>?_,by decide,λ x b=>?_⟩
   ·show decide (0< -x)= !decide (0<x);rw[Bool.eq_iff_iff];simp;omega
   ·have c:=zz (hl x b);have d:x≠1:=λ e=>h1 (by rw[<-e];exact b)
    have f:x≠2:=λ e=>g (by rw[<-e];exact b)
    rcases c with rfl|rfl|rfl|rfl
    ·exact absurd rfl d
    ·decide
    ·exact absurd rfl f
    ·decide
 obtain⟨M,n,o,p⟩:=key;obtain⟨x,b,k⟩:=h M (Iz M n o);rw[p x b] at k;cases k
structure wE(T:List Int)(L:List (List Int)):Prop where
 lt:∀l∈L,∀x∈l,gF 2 x
 au:∀x∈T,gF 2 x
 lD:(-2:Int)∈T
 lQ:(2:Int)∉T
 c1:¬((1:Int)∈T/\(-1:Int)∈T)
 a:(1:Int)∉T-> [1,2]∈L
 b:(-1:Int)∉T-> [-1,2]∈L
def CE(T l:List Int)(f:Int):Prop:=f∈l/\f∉T/\ -f∉T/\∀x∈l,x=f\/ -x∈T
theorem wE.more(h:wE T L){i:Nat}(m:i<L.length){f:Int}(q:CE T (L[i]'m) f):wE (T++[f]) (L.eraseIdx i):=by
 obtain⟨h1,r,k,u⟩:=q;have g:=zz (h.lt _ (l_ m) f h1);have p:f≠2:=λ e=>k (by rw[e];exact h.lD)
 have v:f≠-2:=λ e=>r (by rw[e];exact h.lD)
 have keep:∀l∈L,l≠L[i]'m->l∈L.eraseIdx i:=λ l hl s=>by
  obtain⟨j,t,rfl⟩:=List.getElem_of_mem hl;refine List.mem_eraseIdx_iff_getElem.2 ⟨j,t,λ e=>s (by subst e;rfl),rfl⟩
 refine⟨λ l hl=>h.lt l (List.mem_of_mem_eraseIdx hl),λ x g=>?_,by simp[h.lD],?_,?_,λ c=>?_,λ c=>?_⟩
 ·rcases u_.1 g with g|g
  ·exact h.au x g
  ·rw[r_.1 g];exact h.lt _ (l_ m) f h1
 ·rw[u_,r_];rintro(hp|hp)
  ·exact h.lQ hp
  ·exact p hp.symm
 ·rw[u_,u_,r_,r_];rintro⟨n|n,o|o⟩
  ·exact h.c1 ⟨n,o⟩
  ·rw[<-o] at k;exact k n
  ·rw[<-n] at k;exact k o
  ·omega
 ·rw[u_,r_] at c;refine keep _ (h.a λ hp=>c (.inl hp)) λ e=>?_
  rw[<-e] at h1;have h1:f∈[(1:Int),2]:=h1;simp at h1;rcases h1 with d|d
  ·exact c (.inr d.symm)
  ·exact p d
 ·rw[u_,r_] at c;refine keep _ (h.b λ hp=>c (.inl hp)) λ e=>?_
  rw[<-e] at h1;have h1:f∈[(-1:Int),2]:=h1;simp at h1;rcases h1 with d|d
  ·exact c (.inr d.symm)
  ·exact p d
theorem wE.OT(h:wE T L):∃l∈L,(∀x∈l,-x∈T)\/∃f,CE T l f:=by
 by_cases d:(1:Int)∈T
 ·refine⟨_,h.b λ g=>h.c1 ⟨d,g⟩,.inl λ x c=>?_⟩;simp at c;rcases c with rfl|rfl
  ·exact d
  ·exact h.lD
 ·refine⟨_,h.a d,?_⟩
  by_cases e:(-1:Int)∈T
  ·refine .inl λ x c=>?_
   simp at c;rcases c with rfl|rfl
   ·exact e
   ·exact h.lD
  ·refine .inr ⟨1,by simp,d,e,λ x c=>?_⟩;simp at c;rcases c with rfl|rfl
   ·exact .inl rfl
   ·exact .inr h.lD
theorem wE.start(f:∀l∈L,∀x∈l,gF 2 x)(b:[1,2]∈L)(g:[-1,2]∈L){l:List Int}(hl:∀x∈l,gF 2 x)(h:pM mY l)(c:∀x∈l,-x∉l):wE (l.map λ x=> -x) L:=by
 have d:=OS hl h c;have mem:∀x:Int,x∈l.map (λ x=> -x)↔-x∈l:=λ x=>by
  rw[Zo];exact⟨λ⟨a,b,e⟩=>by rw[<-e,Int.neg_neg];exact b,λ h=>⟨-x,h,Int.neg_neg x⟩⟩
 refine⟨f,λ x i=>?_,(mem _).2 d,λ hp=>?_,λ⟨p,q⟩=>?_,λ _=>b,λ _=>g⟩
 ·have:=(hl _ ((mem x).1 i)).neg
  rwa[Int.neg_neg] at this
 ·exact c _ d ((mem _).1 hp)
 ·exact c _ ((mem _).1 q) ((mem _).1 p)
end
section
open Go.RowKit
def CF(p q:Nat×Nat):Prop:=p.2<=q.1\/q.2<=p.1
def yt(L:Nat->Bool)(b:Nat->Nat×Nat)(w:World):Prop:=(∀j,L j=true->(b j).1<=(b j).2/\(b j).2<=w.heap.size)/\∀j k,j≠k->L j=true->L k=true->CF (b j) (b k)
def zA(b:Nat->Nat×Nat)(i:Nat)(p:Nat×Nat):Nat->Nat×Nat:=λ j=>if j=i then p else b j
def CG(ws:List (List Nat))(gW:World->Prop)(G:Nat->Nat×Nat->(Nat->Value)->World->Prop)(b:Nat->Nat×Nat)(vals:Nat->Value)(i:Nat)(w:World)(v:Value)(w':World):Prop:=
 gW w'/\w.heap.size<=w'.heap.size/\G i (w.heap.size,w'.heap.size) (k6 vals i v) w'/\∀j,j≠i->pz ws 8 j i=false->(b j).2<=w.heap.size->(∀k,qs ws i k=true->k≠j->CF (b j) (b k))->G j (b j) vals w->G j (b j) vals w'
def zB(P:Program)(ds:List (Option Tmp))(ws:List (List Nat))(old:List (Tmp×Value))(gW:(Nat->Bool)->World->Prop)(G:Nat->Nat×Nat->(Nat->Value)->World->Prop)(i:Nat)(o:Oper):Prop:=
 ∀(L:Nat->Bool)(vals:Nat->Value)(b:Nat->Nat×Nat)(w:World)(c:Operand->Value),gW L w->L i=false->sv ws L->su ds (λ j _=>G j (b j) vals) (λ _=>none) i vals w c o.after.toList->rC ds ws i c old->rD c->((∀j,qs ws i j=true->(b j).1<=(b j).2/\(b j).2<=w.heap.size)/\∀j k,j≠k->qs ws i j=true->qs ws i k=true->CF (b j) (b k))->
  aZ P c o w (CG ws (gW (k9 L i)) G b vals i w)
def yu(ws:List (List Nat))(G:Nat->Nat×Nat->(Nat->Value)->World->Prop):Prop:=∀i p vals sw w,(∀k,k=i\/pz ws 8 i k=true->vals k=sw k)->G i p vals w->G i p sw w
def wF(P:Program)(ds:List (Option Tmp))(ws:List (List Nat))(old:List (Tmp×Value))(gW:(Nat->Bool)->World->Prop)(G:Nat->Nat×Nat->(Nat->Value)->World->Prop):Nat->List Oper->Prop
 |_,[]=>True
 |k,o::r=>zB P ds ws old gW G k o/\wF P ds ws old gW G (k+1) r
theorem wF.at{P:Program}{ds:List (Option Tmp)}{ws:List (List Nat)}{old:List (Tmp×Value)}{gW:(Nat->Bool)->World->Prop}{G:Nat->Nat×Nat->(Nat->Value)->World->Prop}:∀{l:List Oper}{k i:Nat}{o:Oper},wF P ds ws old gW G k l->l[i]? =some o->zB P ds ws old gW G (k+i) o
 |[],k,i,o,_,h=>by simp at h
 |x::l,k,0,o,hs,h=>by
  simp only[y_,Option.some.injEq] at h;subst h;exact hs.1
 |x::l,k,i+1,o,hs,h=>by
  rw[x_] at h;have:=wF.at hs.2 h
  rwa[show k+1+i=k+(i+1) by omega] at this
section
variable {P:Program}{l:List Oper}{Q:Exit->Act->World->Prop}{a:Act}{old:List (Tmp×Value)}{gW:(Nat->Bool)->World->Prop}{G:Nat->Nat×Nat->(Nat->Value)->World->Prop}
theorem OU{ds:List (Option Tmp)}{ws:List (List Nat)}(N:ws=l.map λ o:Oper=>(o.after.toList.filter (Zn .any)).map (·.on))(O:ds=l.map λ o:Oper=>o.dst)(R:tW l.toArray=true)(D:rY l.toArray=true)(X:tX l.toArray a.tmps.size=true)
  (hold:qt a.eval old) (Y:yu ws G)
  {i:Nat} {o:Oper} (n:l.toArray[i]? =some o) (S:zB P ds ws old gW G i o) {listed:Array Bool} {vals:Nat->Value} {iM:Nat->Nat×Nat} {w:World} {K:Act->World->Prop} (aw:listed.size=l.toArray.size) (Z:gW (gY listed) w) (hF:vX (λ j _=>G j (iM j) vals) (λ _=>none) (gY listed) vals w) (d:yt (gY listed) iM w)
  (aa:i∈Ze .any l.toArray listed) (hC:sv ws (gY listed))
  (ab:∀v w',gW (gY (listed.setIfInBounds i true)) w'->sv ws (gY (listed.setIfInBounds i true))->vX (λ j _=>G j (zA iM i (w.heap.size,w'.heap.size) j) (k6 vals i v)) (λ _=>none) (gY (listed.setIfInBounds i true)) (k6 vals i v) w'->yt (gY (listed.setIfInBounds i true)) (zA iM i (w.heap.size,w'.heap.size)) w'->K (j3 l.toArray (k6 vals i v) (gY (listed.setIfInBounds i true)) a l.toArray.size) w'):
  wpOp P l.toArray Q i K (j3 l.toArray vals (gY listed) a l.toArray.size) w:=by
 obtain⟨h1,T,ad,U,E⟩:=vY aa;obtain rfl:o=ad:=by rw[n] at U;injection U
 have m:i<listed.size:=by omega
 have p:gY listed i=false:=by
  unfold gY;rw[t_,c_ m] at T⊢;simpa using T
 have A:∀j,qs ws i j=true->gY listed j=true:=λ j b=>by
  obtain⟨ae,f,e,he,u,F⟩:=yN N b;rw[n] at f;injection f with f
  subst f;have:=E e he u;rw[F] at this;exact this
 unfold wpOp;simp only[n];have af:o.guard=none:=by
  unfold rY at D;rw[Zw] at D;have:=D o (Zj n);simpa using this
 have hw:Zq o (yielded l.toArray (j3 l.toArray vals (gY listed) a l.toArray.size).tmps)=true:=by unfold Zq;rw[af]
 rw[if_pos hw];left;unfold zB at S;have ag:=S (gY listed) vals iM w (j3 l.toArray vals (gY listed) a l.toArray.size).eval Z p hC (su.of λ e he u=>by
  have hl:=E e (Array.mem_toList_iff.1 he) u;have ah:e.on<l.toArray.size:=by
   rcases Zf e.on listed.size with h|h
   ·omega
   ·rw[t_,Zl h] at hl;cases hl
  refine⟨λ y=>hF e.on hl λ c g=>?_,λ s hs=>?_⟩
  ·rcases y with y|y
   ·rw[y] at g;cases g
   ·rw[y] at g;injection g with g
    rw[<-g];exact p
  ·rw[O,<-yL] at hs;exact zZ hs (Dp X hs) hl (λ k hk=>yJ R hk hs) _ ah) (rC.of (λ s hs=>zY (λ j s' hl b H=>by
   injection H with H
   subst H;rw[yL,<-O] at b;have:=hC j i hl (Dn hs b);rw[p] at this;cases this) _) hold) (rD.act _) ⟨λ j w1=>d.1 j (A j w1),λ j k q w1 ai=>d.2 j k q (A j w1) (A k ai)⟩
 refine ag.wp λ v w' ⟨aj,k2,k3,ak⟩=>?_
 have al:(j3 l.toArray vals (gY listed) a l.toArray.size).put o.dst v=j3 l.toArray (k6 vals i v) (gY (listed.setIfInBounds i true)) a l.toArray.size:=by
  rw[qp m];have an:pq l.toArray i=o.dst:=by unfold pq;rw[n];rfl
  have:=Bv (ops:=l.toArray) (vals:=vals) (L:=gY listed) (a:=a) (i:=i) (v:=v) (λ j b s hs=>yJ R b hs) p l.toArray.size h1;rw[an] at this;exact this
 rw[al];have ao:sv ws (gY (listed.setIfInBounds i true)):=by
  rw[qp m];intro j k b V;unfold k9 at b⊢
  by_cases e:k=i
  ·rw[if_pos e]
  ·rw[if_neg e]
   by_cases W:j=i
   ·subst W;obtain⟨ae,f,aq,ar,u,F⟩:=yN N V;rw[n] at f;injection f with f
    subst f;have:=E aq ar u;rw[F] at this;exact this
   ·rw[if_neg W] at b;exact hC j k b V
 have r:∀j,j≠i->zA iM i (w.heap.size,w'.heap.size) j=iM j:=λ j b=>by unfold zA;rw[if_neg b]
 have B:zA iM i (w.heap.size,w'.heap.size) i=(w.heap.size,w'.heap.size):=by unfold zA;rw[if_pos rfl]
 refine ab v w' (by rw[qp m];exact aj) ao (λ j b ax=>?_) ⟨λ j b=>?_,λ j k q C z=>?_⟩
 ·rw[qp m] at b
  by_cases e:j=i
  ·subst e;rw[B];exact k3
  ·have I:k9 (gY listed) i j=gY listed j:=by unfold k9;rw[if_neg e]
   rw[r j e];rw[I] at b;refine Y j _ vals _ w' (λ k hk=>?_) (ak j e ?_ (d.1 j b).2 (λ k hk q=>d.2 j k (λ x=>q x.symm) b (A k hk)) (hF j b λ c g=>by cases g))
   ·have au:k≠i:=by
     rcases hk with rfl|hk
     ·exact e
     ·intro J;subst J;have:=hC.reach 8 j k b hk;rw[p] at this;cases this
    unfold k6;rw[if_neg au]
   cases av:pz ws 8 j i with
   |false=>rfl
   |true=>
    have:=hC.reach 8 j i b av;rw[p] at this;cases this
 ·rw[qp m] at b
  by_cases e:j=i
  ·subst e;rw[B];exact⟨k2,i_ _⟩
  ·have I:k9 (gY listed) i j=gY listed j:=by unfold k9;rw[if_neg e]
   rw[I] at b;rw[r j e];exact⟨(d.1 j b).1,s_ (d.1 j b).2 k2⟩
 ·rw[qp m] at C z
  by_cases e:j=i
  ·subst e;have t:¬k=j:=λ e=>q e.symm
   have M:k9 (gY listed) j k=gY listed k:=by unfold k9;rw[if_neg t]
   rw[M] at z;rw[B,r k t];exact .inr (d.1 k z).2
  ·have M:k9 (gY listed) i j=gY listed j:=by unfold k9;rw[if_neg e]
   rw[M] at C
   by_cases t:k=i
   ·subst t;rw[B,r j e];exact .inl (d.1 j C).2
   ·have J:k9 (gY listed) i k=gY listed k:=by unfold k9;rw[if_neg t]
    rw[J] at z;rw[r j e,r k t];exact d.2 j k q C z
theorem OV{ds:List (Option Tmp)}{ws:List (List Nat)}(J:ws=l.map λ o:Oper=>(o.after.toList.filter (Zn .any)).map (·.on))(K:ds=l.map λ o:Oper=>o.dst)(n:Nat)(hlen:l.length=n+1)(M:tW l.toArray=true)(t:rY l.toArray=true)(N:tX l.toArray a.tmps.size=true)(O:vC l.toArray=true)(u:xV l n=true)(hold:qt a.eval old)(R:yu ws G)
  (S:wF P ds ws old gW G 0 (l.take n))
  (T:∀o vals d w L,l[n]? =some o->gW L w->(∀j,j<n->L j=true)->L n=false->(∀j,j<n->G j (d j) vals w)->yt (ng n) d w->aZ P (j3 l.toArray vals (ng n) a n).eval o w λ v w'=>Q .normal ((j3 l.toArray vals (ng n) a n).put o.dst v) w'):
  ∀(fuel:Nat)(listed:Array Bool)(vals:Nat->Value)(d:Nat->Nat×Nat)(w:World),listed.size=l.toArray.size->qf l.toArray listed<=fuel->0<qf l.toArray listed->gY listed n=false->sv ws (gY listed)->gW (gY listed) w->vX (λ j _=>G j (d j) vals) (λ _=>none) (gY listed) vals w->yt (gY listed) d w->
   wpAny P .any l.toArray Q fuel listed (j3 l.toArray vals (gY listed) a l.toArray.size) w:=by
 intro fuel
 induction fuel with
 |zero=>intro listed vals d w q U V;omega
 |succ fuel W=>
  intro listed vals d w q U V y hC D hF z;refine⟨λ h=>by have:=Dr O q h;omega,λ i E=>?_⟩;obtain⟨h1,X,o,s,Y⟩:=vY E;have F:i<listed.size:=by omega
  have ao:i<l.length:=by simpa using h1
  have A:l[i]? =some o:=by rw[List.getElem?_toArray] at s;exact s
  by_cases H:i=n
  ·subst H;have f:∀j,j<i->gY listed j=true:=λ j g=>by
    unfold xV at u;rw[A] at u;simp only[List.all_eq_true,List.mem_range] at u;have b:=u j g;rw[Array.any_eq_true'] at b;obtain⟨e,he,B⟩:=b;simp only[Bool.and_eq_true,beq_iff_eq] at B;have:=Y e he B.1;rw[B.2] at this;exact this
   have Z:j3 l.toArray vals (gY listed) a l.toArray.size=j3 l.toArray vals (ng i) a i:=by
    have aa:l.toArray.size=i+1:=by simp[hlen]
    rw[aa];simp only[j3];rw[y];simp only[Bool.false_eq_true,if_false];exact Bx i λ j g=>by rw[f j g];unfold ng;simp[g]
   rw[Z];unfold wpOp;simp only[s];have ab:o.guard=none:=by
    unfold rY at t;rw[Zw] at t;have:=t o (Zj s);simpa using this
   have hw:Zq o (yielded l.toArray (j3 l.toArray vals (ng i) a i).tmps)=true:=by unfold Zq;rw[ab]
   rw[if_pos hw];left;refine(T o vals d w _ A D f y (λ j g=>hF j (f j g) λ c ad=>by cases ad) ⟨λ j C=>z.1 j (f j (by simpa[ng] using C)),λ j k ae C af=>z.2 j k ae (f j (by simpa[ng] using C)) (f k (by simpa[ng] using af))⟩).wp λ v w' ag=>?_
   refine wpAny_done ?_ ag _;rcases ah:Ze .any l.toArray (listed.setIfInBounds i true) with _|⟨k,r⟩
   ·rfl
   ·have hk:k∈Ze .any l.toArray (listed.setIfInBounds i true):=by rw[ah];simp
    obtain⟨b,m,_⟩:=vY hk;exfalso;have aq:k<i+1:=by simpa[hlen] using b
    by_cases e:k=i
    ·subst e;rw[t_,Array.getElem?_setIfInBounds_self_of_lt F] at m
     cases m
    ·have p:=f k (by omega);rw[t_,Array.getElem?_setIfInBounds_ne (λ x=>e x.symm)] at m;unfold gY at p;rw[t_] at p;have ai:k<listed.size:=by omega
     rw[c_ ai] at m p;simp at m p;rw[m] at p;cases p
  ·have aj:zB P ds ws old gW G i o:=by
    have b:(l.take n)[i]? =some o:=by rw[List.getElem?_take,if_pos (by omega)];exact A
    have:=wF.at S b
    rwa[Nat.zero_add] at this
   refine OU J K M t N hold R s aj q D hF z E hC λ v w' ak al k2 an=>?_
   have I:gY (listed.setIfInBounds i true) n=false:=by
    rw[qp F];unfold k9;rw[if_neg (λ e=>H e.symm)];exact y
   refine W _ _ _ w' (by simp[q]) (by have:=Dq (ops:=l.toArray) h1 X;omega) ?_ I al ak k2 an;rcases Zr (qf l.toArray (listed.setIfInBounds i true)) with b|b
   ·have:=yM (ops:=l.toArray) (listed:=listed.setIfInBounds i true) (by simp[q]) b n (by simp[hlen]);rw[I] at this;cases this
   ·exact b
end
theorem IA(l:List Oper)(n N:Nat)(ds:List (Option Tmp))(ws:List (List Nat))(old:List (Tmp×Value))(gW:(Nat->Bool)->World->Prop)(G:Nat->Nat×Nat->(Nat->Value)->World->Prop)
  (s:ops=l.toArray) (hm:P.follows .mixedOrders=true)
  (q:ds=l.map λ o:Oper=>o.dst) (t:ws=l.map λ o:Oper=>(o.after.toList.filter (Zn .any)).map (·.on)) (hlen:l.length=n+1) (u:tW l.toArray=true) (y:rY l.toArray=true) (z:vC l.toArray=true) (A:xV l n=true) (B:tX l.toArray N=true)
  (C:a.tmps.size=N) (hold:qt a.eval old) (D:yu ws G) (E:gW (λ _=>false) w.drew)
  (F:wF P ds ws old gW G 0 (l.take n))
  (ol:Oper) (H:l[n]? =some ol) (I:∀vals c w L,gW L w->(∀j,j<n->L j=true)->L n=false->(∀j,j<n->G j (c j) vals w)->yt (ng n) c w->∀m,oJ (ds.take n) 0 vals a=m->aZ P m.eval ol w λ v w'=>Q .normal (m.put ol.dst v) w'):(Code.region id ops true).wp P Q a w:=by
 subst s;subst C;refine wp_region_any hm ?_;have J:∀o vals c w L,l[n]? =some o->gW L w->(∀j,j<n->L j=true)->L n=false->(∀j,j<n->G j (c j) vals w)->yt (ng n) c w->aZ P (j3 l.toArray vals (ng n) a n).eval o w λ v w'=>Q .normal ((j3 l.toArray vals (ng n) a n).put o.dst v) w':=by
  intro o vals c w L g K M O R S;rw[H] at g;injection g with g
  subst g;rw[Bw l vals a n n (i_ _) (by omega),<-q];exact I vals c w L K M O R S _ rfl
 have b:∀k,gY (m_ l.toArray.size false) k=false:=λ k=>by
  unfold gY;rw[t_,Array.getElem?_replicate];split<;>rfl
 have e:a=j3 l.toArray (λ _=>undef) (gY (m_ l.toArray.size false)) a l.toArray.size:=by
  have:∀k,j3 l.toArray (λ _=>undef) (gY (m_ l.toArray.size false)) a k=a:=by
   intro k
   induction k with
   |zero=>rfl
   |succ k T=>
    simp only[j3];rw[b k,T];simp
  exact(this _).symm
 have r:=OV (P:=P) (Q:=Q) (a:=a) (gW:=gW) (G:=G) t q n hlen u y B z A hold D F J l.toArray.size (m_ l.toArray.size false) (λ _=>undef) (λ _=>(0,0)) w.drew (by simp)
  (by unfold qf;exact s_ (List.length_filter_le _ _) (by simp)) ?_ (b n) (λ j i d=>by rw[b j] at d;cases d) (by rw[show gY (m_ l.toArray.size false)=λ _=>false from funext b];exact E) (λ j d=>by rw[b j] at d;cases d) ⟨λ j f=>(by rw[b j] at f;cases f),λ j k U f V=>(by rw[b j] at f;cases f)⟩
 ·rw[<-e] at r;exact r
 ·rcases Zr (qf l.toArray (m_ l.toArray.size false)) with p|p
  ·have:=yM (ops:=l.toArray) (listed:=m_ l.toArray.size false) (by simp) p n (by simp[hlen]);rw[b n] at this;cases this
  ·exact p
end
section
open Go.RowKit
abbrev AP(ws:List (List Nat))(gW:World->Prop)(G:Nat->Nat×Nat->(Nat->Value)->World->Prop)(b:Nat->Nat×Nat)(vals:Nat->Value)(i:Nat)(w:World)(v:Value)(w':World):Prop:=CG ws gW G b vals i w v w'
theorem AP.same{G:Nat->Nat×Nat->(Nat->Value)->World->Prop}(b:gW w)(h:G i (w.heap.size,w.heap.size) (k6 vals i v) w):AP ws gW G iM vals i w v w:=⟨b,i_ _,h,λ _ _ _ _ _ h=>h⟩
theorem AP.more{G:Nat->Nat×Nat->(Nat->Value)->World->Prop}(hm:∀j p u w w',Below w.heap.size w w'->p.2<=w.heap.size->G j p u w->G j p u w')(b:Below w.heap.size w w')(c:gW w')(h:G i (w.heap.size,w'.heap.size) (k6 vals i v) w'):AP ws gW G iM vals i w v w':=⟨c,b.size,h,λ j _ _ hp _ h=>hm j _ _ w w' b hp h⟩
def IB(P:Program)(ds:List (Option Tmp))(ws:List (List Nat))(old:List (Tmp×Value))(gW:World->Prop)(G:Nat->Nat×Nat->(Nat->Value)->World->Prop)(i:Nat)(o:Oper):Prop:=
 ∀(vals:Nat->Value)(b:Nat->Nat×Nat)(w:World)(c:Operand->Value),gW w->su ds (λ j _=>G j (b j) vals) (λ _=>none) i vals w c o.after.toList->rC ds ws i c old->rD c->((∀j,qs ws i j=true->(b j).1<=(b j).2/\(b j).2<=w.heap.size)/\∀j k,j≠k->qs ws i j=true->qs ws i k=true->CF (b j) (b k))->
  aZ P c o w (AP ws gW G b vals i w)
def zC(P:Program)(ds:List (Option Tmp))(ws:List (List Nat))(old:List (Tmp×Value))(gW:World->Prop)(G:Nat->Nat×Nat->(Nat->Value)->World->Prop):Nat->List Oper->Prop
 |_,[]=>True
 |k,o::r=>IB P ds ws old gW G k o/\zC P ds ws old gW G (k+1) r
theorem zC.IC{P:Program}{ds:List (Option Tmp)}{ws:List (List Nat)}{old:List (Tmp×Value)}{gW:World->Prop}{G:Nat->Nat×Nat->(Nat->Value)->World->Prop}:∀{k:Nat}{l:List Oper},zC P ds ws old gW G k l->wF P ds ws old (λ _=>gW) G k l
 |_,[],_=>trivial
 |_,_::_,h=>⟨λ _ vals b w c d _ _ e f hp g=>h.1 vals b w c d e f hp g,zC.IC h.2⟩
theorem OW(l:List Oper)(n N:Nat)(ds:List (Option Tmp))(ws:List (List Nat))(old:List (Tmp×Value))(gW:World->Prop)(G:Nat->Nat×Nat->(Nat->Value)->World->Prop)
  (d:ops=l.toArray) (hm:P.follows .mixedOrders=true)
  (e:ds=l.map λ o:Oper=>o.dst) (f:ws=l.map λ o:Oper=>(o.after.toList.filter (Zn .any)).map (·.on)) (hlen:l.length=n+1) (g:tW l.toArray=true) (i:rY l.toArray=true) (k:vC l.toArray=true) (m:xV l n=true) (p:tX l.toArray N=true)
  (q:a.tmps.size=N) (hold:qt a.eval old) (r:yu ws G) (s:gW w.drew)
  (t:zC P ds ws old gW G 0 (l.take n))
  (ol:Oper) (u:l[n]? =some ol) (y:∀vals b w,gW w->(∀j,j<n->G j (b j) vals w)->yt (ng n) b w->∀c,oJ (ds.take n) 0 vals a=c->aZ P c.eval ol w λ v w'=>Q .normal (c.put ol.dst v) w'):(Code.region id ops true).wp P Q a w:=by
 exact IA l n N ds ws old (λ _=>gW) G d hm e f hlen g i k m p q hold r s t.IC ol u (λ vals b w _ z _ _ A hs=>y vals b w z A hs)
def nO(cs:List Value)(sp:Nat->Bool)(G:Nat->Nat×Nat->(Nat->Value)->World->Prop)(j:Nat)(p:Nat×Nat)(vals:Nat->Value)(w:World):Prop:=if sp j=true then G j p vals w else vals j=cs.getD j undef
theorem ED.of{ds:List (Option Tmp)}{cs:List Value}{sp:Nat->Bool}{G:Nat->Nat×Nat->(Nat->Value)->World->Prop}{iM:Nat->Nat×Nat}{i:Nat}{vals:Nat->Value}{w:World}{aC:Operand->Value}:∀{l:List Edge},su ds (λ j _=>nO cs sp G j (iM j) vals) (λ _=>none) i vals w aC l->ud ds cs sp aC l
 |[],_=>trivial
 |e::r,h=>⟨λ c h1 s hs=>by
  obtain⟨b,d⟩:=h.1 c;have b:nO cs sp G e.on (iM e.on) vals w:=b (n_ rfl);unfold nO at b;rw[h1] at b;rw[d s hs];exact b,ED.of h.2⟩
theorem nO.zD{cs:List Value}{sp:Nat->Bool}{G:Nat->Nat×Nat->(Nat->Value)->World->Prop}(h:∀i p vals sw w,sp i=true->(∀k,k=i\/pz ws 8 i k=true->vals k=sw k)->G i p vals w->G i p sw w):yu ws (nO cs sp G):=λ i p vals sw w c b=>by
 unfold nO at*;split at b
 ·rename_i hs;rw[if_pos hs];exact h i p vals sw w hs c b
 ·rename_i hs;rw[if_neg hs,<-c i (.inl rfl)];exact b
def AQ(P:Program)(ds:List (Option Tmp))(ws:List (List Nat))(old:List (Tmp×Value))(S:World->Prop)(cs:List Value)(sp:Nat->Bool)(G:Nat->Nat×Nat->(Nat->Value)->World->Prop):Nat->List Oper->Prop
 |_,[]=>True
 |k,o::r=>((sp k=true->IB P ds ws old S (nO cs sp G) k o)/\(sp k=false->∀(b:Operand->Value)(w:World),S w->ud ds cs sp b o.after.toList->qt b old->rD b->aZ P b o w λ v w'=>v=cs.getD k undef/\w'=w))/\AQ P ds ws old S cs sp G (k+1) r
theorem AQ.ok{P:Program}{ds:List (Option Tmp)}{ws:List (List Nat)}{old:List (Tmp×Value)}{S:World->Prop}{cs:List Value}{sp:Nat->Bool}{G:Nat->Nat×Nat->(Nat->Value)->World->Prop}(b:y5 ds old=true):∀{k:Nat}{l:List Oper},AQ P ds ws old S cs sp G k l->zC P ds ws old S (nO cs sp G) k l
 |_,[],_=>trivial
 |k,o::r,h=>⟨by
  cases hk:sp k with
  |true=>exact h.1.1 hk
  |false=>
   intro vals i w d c e f hp j;refine aZ.mono (h.1.2 hk d w c (ED.of e) (rC.ok b f) hp) λ v w' ⟨h1,g⟩=>?_
   subst g;exact .same c (by unfold nO k6;rw[hk,if_pos rfl];exact h1),AQ.ok b h.2⟩
end
end Go.Proofs.YtogdlkfacflmaaaGreat
