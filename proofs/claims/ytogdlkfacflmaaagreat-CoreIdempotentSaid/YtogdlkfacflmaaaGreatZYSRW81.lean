/- Parts of the walk of the solver and its core; no condition. -/
import Derived.Test.YtogdlkfacflmaaaGreatZY10
import Derived.Test.YtogdlkfacflmaaaGreatZY18
import Derived.Test.YtogdlkfacflmaaaGreatZY20
import Derived.Test.YtogdlkfacflmaaaGreatZY1
namespace Go.Proofs.YtogdlkfacflmaaaGreat
set_option linter.unusedVariables false
set_option linter.unusedSimpArgs false
set_option maxRecDepth 100000
set_option maxHeartbeats 16000000
open _root_.And renaming intro→z_
open _root_.List renaming getElem?_cons_zero→y_,getElem?_cons_succ→x_,eraseIdx_sublist→v_
open _root_.BitVec renaming ofInt→w_
open _root_.Go.Proofs.Tryz renaming prog→u_
variable{F:List (List Int)}{n aB:Nat}{ah core:List Int}{kind:Int}{m:List Bool}
section
open Go.RowKit
def nS(cs:List Value)(sp:Nat->Bool)(G:Nat->Nat×Nat->(Nat->Value)->World->Prop)(j:Nat)(p:Nat×Nat)(vals:Nat->Value)(w:World):Prop:=if sp j=true then G j p vals w else vals j=cs.getD j undef
theorem A7.of{ds:List (Option Tmp)}{cs:List Value}{sp:Nat->Bool}{G:Nat->Nat×Nat->(Nat->Value)->World->Prop}{bR:Nat->Nat×Nat}{i:Nat}{vals:Nat->Value}{w:World}{aq:Operand->Value}:∀{l:List Edge},q7 ds (λ j _=>nS cs sp G j (bR j) vals) (λ _=>none) i vals w aq l->tT ds cs sp aq l
 |[],_=>trivial
 |e::r,h=>⟨λ c h1 s hs=>by
  obtain⟨b,d⟩:=h.1 c;have b:nS cs sp G e.on (bR e.on) vals w:=b (Or.inl rfl);unfold nS at b;rw[h1] at b;rw[d s hs];exact b,A7.of h.2⟩
theorem nS.AX{ws:List (List Nat)}{cs:List Value}{sp:Nat->Bool}{G:Nat->Nat×Nat->(Nat->Value)->World->Prop}(h:∀i p vals qd w,sp i=true->(∀k,k=i\/nT ws 8 i k=true->vals k=qd k)->G i p vals w->G i p qd w):zH ws (nS cs sp G):=λ i p vals qd w c b=>by
 unfold nS at*;split at b
 ·rename_i hs;rw[if_pos hs];exact h i p vals qd w hs c b
 ·rename_i hs;rw[if_neg hs,<-c i (.inl rfl)];exact b
def vm(P:Program)(ds:List (Option Tmp))(ws:List (List Nat))(old:List (Tmp×Value))(S:World->Prop)(cs:List Value)(sp:Nat->Bool)(G:Nat->Nat×Nat->(Nat->Value)->World->Prop):Nat->List Oper->Prop
 |_,[]=>True
 |k,o::r=>((sp k=true->yA P ds ws old S (nS cs sp G) k o)/\(sp k=false->∀(b:Operand->Value)(w:World),S w->tT ds cs sp b o.after.toList->mV b old->oC b->bh P b o w λ v w'=>v=cs.getD k undef/\w'=w))/\vm P ds ws old S cs sp G (k+1) r
theorem vm.ok{P:Program}{ds:List (Option Tmp)}{ws:List (List Nat)}{old:List (Tmp×Value)}{S:World->Prop}{cs:List Value}{sp:Nat->Bool}{G:Nat->Nat×Nat->(Nat->Value)->World->Prop}(b:yh ds old=true):∀{k:Nat}{l:List Oper},vm P ds ws old S cs sp G k l->vK P ds ws old S (nS cs sp G) k l
 |_,[],_=>trivial
 |k,o::r,h=>⟨by
  cases hk:sp k with
  |true=>exact h.1.1 hk
  |false=>
   intro vals i w d c e f hp j;refine bh.mono (h.1.2 hk d w c (A7.of e) (oB.ok b f) hp) λ v w' ⟨h1,g⟩=>?_
   subst g;exact .same c (by unfold nS kH;rw[hk,if_pos rfl];exact h1),vm.ok b h.2⟩
end
section
open Go.RowKit Go.Lib
theorem mask(a:Int):∃r:Nat,r<=65535/\bits .and .i64 a 65535=(r:Int):=by
 refine⟨(w_ 64 a&&&w_ 64 65535).toNat,?_,?_⟩
 ·rw[BitVec.toNat_and];exact Nat.le_trans Nat.and_le_right (by decide)
 ·have h:(w_ 64 a&&&w_ 64 65535).toNat<=65535:=by
   rw[BitVec.toNat_and];exact Nat.le_trans Nat.and_le_right (by decide)
  show IntKind.i64.wrap ((w_ 64 a&&&w_ 64 65535).toNat:Int)=_;rw[IntKind.wrap_i64];omega
theorem uT(h:si F n ah 1073741824 kind m core aB):(kind=1/\core=[]/\Can F ah)\/(kind=2/\core.Sublist ah/\¬Can F core/\∀j,j<core.length->Can F (core.eraseIdx j)):=by
 obtain⟨_,⟨h1,b,c⟩|⟨h1,_,hs,hu,hm⟩|⟨_,_,_,d,_⟩⟩:=h
 ·exact .inl ⟨h1,b,c.can⟩
 ·exact .inr ⟨h1,hs,hu,hm⟩
 ·omega
theorem A8{α:Type}:∀{a b:List α},a.Sublist b->a.length<b.length->∃j,j<b.length/\a.Sublist (b.eraseIdx j)
 |_,_,.slnil,h=>by simp at h
 |_,_,.cons x hs,_=>⟨0,by simp,by simpa using hs⟩
 |_,_,.cons_cons x hs,h=>by
  obtain⟨j,c,d⟩:=A8 hs (by simpa using h);exact⟨j+1,by simpa using c,by simpa using d.cons_cons x⟩
theorem EV{c2:List Int}(hu:¬Can F core)(hm:∀j,j<core.length->Can F (core.eraseIdx j))(h:si F n core 1073741824 kind m c2 aB):kind=2/\c2=core:=by
 rcases uT h with⟨_,_,h1⟩|⟨h1,hs,b,_⟩
 ·exact absurd h1 hu
 ·refine⟨h1,?_⟩;rcases Nat.lt_or_ge c2.length core.length with hl|hl
  ·exfalso;obtain⟨j,c,d⟩:=A8 hs hl;exact b ((hm j c).mono λ x e=>d.subset e)
  ·exact hs.eq_of_length_le hl
theorem vN{ls:List (List Int)}{b:Int}(he:kU (n:Int) ls ah b=0)(hs:core.Sublist ah):kU (n:Int) ls core b=0:=by
 obtain⟨c,hm,d,e⟩:=vg he;obtain⟨h1,f⟩:=wD hm;unfold kU;rw[if_pos c,AL (λ x g=>h1 x (hs.subset g)) (f.sublist (hs.map aD))];simp[d,e]
def pq(b:Option Addr)(c d:Nat)(e:Option Addr)(f sp:Nat):List Value:=[.int .i64 1,.slice b c d,.slice e 0 f,.int .i64 (sp:Nat)]
def sU(m n6:Nat)(o:List Int)(i:Nat)(p:Nat×Nat)(vals:Nat->Value)(w:World):Prop:=
 if i=9 then∃l n,vals 9=.slice l n6 n/\aP w l n6 n o/\∀b,l.map (·.block)=some b->p.1<=b/\b<p.2
 else if i=10 then∃e f g j k sp,vals 10=.tuple #[.agg (pq e f g j k sp).toArray,.int .i64 0]
 else if i=11 then∃e f g j k sp,vals 11=.tuple #[.agg (pq e f g j k sp).toArray,.int .i64 0]
 else if i=12 then∃e f g j k sp,vals 12=.agg (pq e f g j k sp).toArray
 else if i=13 then vals 13=.int .i64 0
 else if i=14 then vals 14=.pointer (some ⟨p.1,0,none⟩)/\m<=p.1/\p.1<p.2/\∃a b c d,aR w p.1 30 [a,b,c,d]
 else∃b e f g j k sp,vals 14=.pointer (some ⟨b,0,none⟩)/\m<=b/\aR w b 30 (pq e f g j k sp)
def uc(i:Nat):Bool:=i==9||i==10||i==11||i==12||i==13||i==14||i==15
theorem sU.below{iW n6:Nat}{tD:List Int}{i:Nat}{p:Nat×Nat}{vals:Nat->Value}{w w':World}(j:Below w.heap.size w w')(h:sU iW n6 tD i p vals w):sU iW n6 tD i p vals w':=by
 unfold sU at*;split at h
 ·rename_i e;rw[if_pos e];obtain⟨k,l,h1,f,g⟩:=h;exact⟨k,l,h1,f.below j,g⟩
 ·rename_i e;rw[if_neg e];split at h
  ·rename_i e;rw[if_pos e];exact h
  ·rename_i e;rw[if_neg e];split at h
   ·rename_i e;rw[if_pos e];exact h
   ·rename_i e;rw[if_neg e];split at h
    ·rename_i e;rw[if_pos e];exact h
    ·rename_i e;rw[if_neg e];split at h
     ·rename_i e;rw[if_pos e];exact h
     ·rename_i e;rw[if_neg e];split at h
      ·rename_i e;rw[if_pos e];obtain⟨h1,f,g,a,b,c,d,m⟩:=h;exact⟨h1,f,g,a,b,c,d,m.below j⟩
      ·rename_i e;rw[if_neg e];obtain⟨b,n,o,q,r,s,sp,h1,f,g⟩:=h;exact⟨b,n,o,q,r,s,sp,h1,f,g.below j⟩
theorem EW:∀args w,(callFunc 37 args).run u_ w=.ok (.enter 37 args) w:=enters_of Tryz.func37 (by kernel_rfl) rfl
theorem EX:∀args w,(callFunc 28 args).run u_ w=.ok (.enter 28 args) w:=enters_of Tryz.func28 (by kernel_rfl) rfl
theorem I8(x:Int)(A:Option Addr)(nl cl:Nat)(ls:List (List Int))(ax:Option Addr)(nq az:Nat)(ah:List Int)(k:Int)(w:World)(h:kE w A nl cl ls)(a7:aP w ax nq az ah)(bA:mq ah):
  Calls u_ 8 #[.agg #[.int .i64 x,.slice A nl cl],.slice ax nq az,.int .i64 k] w λ e w'=>e=.returned (.bool true)/\Below w.heap.size w w':=by
 have aA:Below w.heap.size w (w.alloc (.cells #[.int .i64 x,.slice A nl cl] 24)):=(Below.refl _ _).alloc (Nat.le_refl _) _;have aB:=qm.new w x A nl cl;generalize bB:w.alloc (.cells #[.int .i64 x,.slice A nl cl] 24)=W at aA aB;have Q:=aB.aY;have R:=aB.c1;have H:=U (z_ aA aB);have aH:=U (h.below aA);have aI:=U (z_ (a7.below aA) (z_ a7.len bA));have mO:=U (xP W);have bD:bF (∀W',Below W.heap.size W W'->Calls u_ 27 #[.agg #[.int .i64 x,.slice A nl cl],.slice none 0 0,.slice ax nq az] W' (vM W' x nl 0 nq)):=U λ W' ab=>xN x A nl cl ls none 0 0 ax nq az W' (aH.o.below ab)
 clear h aA aB a7 bA;go_enter Tryz.func8,Tryz.ntmps8
 go_upto_region 1 with fail
 try rw[bB]
 clear bB
 go_upto_region 3 with(go_at_call 26;refine mO.o.mono ?_;rintro e w1 ⟨rfl,a8⟩;have H1:=U a8;have E:=H.o.2.below a8;have Q:=E.aY;have R:=E.c1;clear E a8)
 have bG:=U (bD.o w1 H1.o)
 go_upto_region 5 with(go_at_call 27;refine bG.o.mono ?_;rintro e b5 hF;obtain⟨r,rfl,bH,a'⟩:=hF;have ad:=U (H1.o.trans (bH.mono H1.o.size));have E:=H.o.2.below ad.o;have Q:=E.aY;have R:=E.c1;have bI:=U a';clear E bH a';cases r)
 ·go_ret;exact⟨rfl,H.o.1.trans (ad.o.mono H.o.1.size)⟩
 have bJ:=bI.o (by trivial);have ae:bF (x<=10/\nl<=60/\0<=20/\nq<=20):=U bJ;clear bI bJ mO bD bG;have b6:=U (mask k);have ba:=U (sS x ae.o.1 A nl cl ls ax nq az ah 1073741824 b5 (aH.o.below ad.o) (aI.o.1.below ad.o) aI.o.2.2 (by have:=ae.o;omega) (by have:=ae.o;omega))
 by_cases he:kU x ls ah 1073741824=0
 ·obtain⟨n,b,rfl,ab,bK,bL,b7⟩:=uS he;have aD:=U (z_ he (z_ bK bL));clear he bK bL b7 ab
  go_upto_region 6 with(go_at_call 28;refine ba.o.mono ?_;rintro e av ⟨bb,bc,bd,bf,M,l,L,bg,m3,bM,cY,rfl,G⟩;obtain⟨rfl,aj⟩:=G.res aD.o.1;have b8:=U (uT aj);have S:=G.jU;have V:=U (z_ (ad.o.trans (S.mono ad.o.size)) (z_ G.aC G.aC.len));clear S aj G Q R)
  have aJ:=bC av (.cells #[.int .i64 bb,.slice bc bd bf,.slice M l L,.int .i64 (bg:Nat)] 30);have aK:=aR.new av 30 [.int .i64 bb,.slice bc bd bf,.slice M l L,.int .i64 (bg:Nat)];have t3:=(V.o.1).trans (aJ.mono (V.o.1).size);generalize av.alloc (.cells #[.int .i64 bb,.slice bc bd bf,.slice M l L,.int .i64 (bg:Nat)] 30)=b9 at aJ aK t3⊢;generalize av.heap.size=g3 at aK⊢;have af:=U (z_ t3 (z_ aK aJ));clear aJ aK t3;have E:=H.o.2.below af.o.1;have Q:=E.aY;have R:=E.c1;clear E;have z:=af.o.2.1.cell;have O:=z 0;have P:=z 1;have N:=z 2;have G:=z 3;simp only[y_,x_] at O P N G;clear z;rcases b8.o with⟨rfl,_,_⟩|⟨rfl,hs,hu,hm⟩
  ·go_wp2_with fail
   go_ret;exact⟨rfl,H.o.1.trans ((af.o.1).mono H.o.1.size)⟩
  ·have aE:=U (z_ hs (z_ hu hm));have cZ:l<=20:=by have h1:=V.o.2.2;have aw:=hs.length_le;have S:=aI.o.2.1;have:=ae.o;omega
   have c0:l<=L:=V.o.2.1.cap;have bN:=U (V.o.2.1.below af.o.2.2);have bO:=U (show mq bM from λ z ak=>aI.o.2.2 z (hs.subset ak));have bP:=U (sS n ae.o.1 A nl cl ls M l L bM 1073741824 b9 (aH.o.below af.o.1) bN.o bO.o (by omega) (by have:=ae.o;omega));clear hs hu hm
   go_upto_region 9 with(go_at_call 28;refine bP.o.mono ?_;rintro e aL ⟨c4,bj,bk,bl,aM,aN,aO,bn,m4,X,c5,rfl,aF⟩;obtain⟨rfl,aj⟩:=aF.res (vN aD.o.1 aE.o.1);obtain⟨rfl,rfl⟩:=EV aE.o.2.1 aE.o.2.2 aj;have al:=aF.jU;have an:=U (z_ (af.o.1.trans (al.mono af.o.1.size)) (z_ aF.aC (z_ al aF.aC.len)));clear al aj aF Q R O P N G)
   have aQ:=bC aL (.cells #[.int .i64 2,.slice bj bk bl,.slice aM aN aO,.int .i64 (bn:Nat)] 30);have aS:=aR.new aL 30 [.int .i64 2,.slice bj bk bl,.slice aM aN aO,.int .i64 (bn:Nat)];have t4:=(an.o.1).trans (aQ.mono (an.o.1).size);generalize aL.alloc (.cells #[.int .i64 2,.slice bj bk bl,.slice aM aN aO,.int .i64 (bn:Nat)] 30)=b' at aQ aS t4⊢;generalize aL.heap.size=g4 at aS⊢;have J:=U (z_ t4 (z_ aS aQ));clear aQ aS t4;have E:=H.o.2.below J.o.1;have Q:=E.aY;have R:=E.c1;clear E;have bo:=U (af.o.2.1.below (an.o.2.2.1.trans (J.o.2.2.mono an.o.2.2.1.size)));have z:=bo.o.cell;have O:=z 0;have P:=z 1;have N:=z 2;have G:=z 3;simp only[y_,x_] at O P N G;clear z;have z:=J.o.2.1.cell;have bR:=z 0;have bS:=z 1;have bT:=z 2;have bU:=z 3;simp only[y_,x_] at bR bS bT bU;clear z;have ca:=U (an.o.2.1.below J.o.2.2);have bV:=U (bN.o.below (an.o.2.2.1.trans (J.o.2.2.mono an.o.2.2.1.size)));have bW:=U (yE aM aN aO M l L X b' ca.o bV.o)
   go_upto_region 11 with(go_at_call 38;refine bW.o.mono ?_;rintro e Y ⟨rfl,aT⟩;have Z:=U aT;clear aT Q R O P N G bR bS bT bU;have E:=H.o.2.below (J.o.1.trans (Z.o.mono J.o.1.size));have Q:=E.aY;have R:=E.c1;clear E;have z:=(bo.o.below Z.o).cell;have O:=z 0;have P:=z 1;have N:=z 2;have G:=z 3;simp only[y_,x_] at O P N G;clear z)
   rcases Nat.eq_zero_or_pos l with ak|ak
   ·have cc:decide ((l:Int)=0)=true:=decide_eq_true (by omega);have cd:((l:Int)==0)=true:=beq_iff_eq.2 (by omega)
    go_wp2_with fail
    go_ret;exact⟨rfl,H.o.1.trans ((J.o.1.trans (Z.o.mono J.o.1.size)).mono H.o.1.size)⟩
   ·have cc:decide ((l:Int)=0)=false:=decide_eq_false (by omega);have cd:((l:Int)==0)=false:=by rw[beq_eq_false_iff_ne];omega
    obtain⟨r,c6,cf⟩:=b6.o;obtain⟨i,bp⟩:∃i:Nat,r%l=i:=⟨_,rfl⟩
    have cg:i<l:=by rw[<-bp];exact Nat.mod_lt _ ak
    have ch:Int.tmod (r:Int) (l:Int)=(i:Int):=by rw[<-bp];rfl
    have cj:IntKind.i64.wrap (i:Int)=(i:Int):=IntWalk.i64_in _ (by omega);have ck:¬(l:Int)=0:=by omega
    have cm:=U cg;have bq:=U (z_ (show kU (n:Int) ls (X.eraseIdx i) 1073741824=0 from vN aD.o.1 ((v_ _ _).trans aE.o.1)) (z_ (show mq (X.eraseIdx i) from λ z ak=>bO.o z ((v_ _ _).subset ak)) (aE.o.2.2 i (by have:=V.o.2.2;omega))));have cn:=(bo.o.below Z.o).lt;have bX:=(H.o.2.below (J.o.1.trans (Z.o.mono J.o.1.size))).lt;have aU:∀j p u w w',Below w.heap.size w w'->p.2<=w.heap.size->nS [.agg #[.int .i64 n,.slice A nl cl],.pointer (some ⟨g3,2,none⟩),.slice M l L,.int .i64 k,.int .i64 (r:Int),.pointer (some ⟨g3,2,none⟩),.slice M l L,.int .i64 (l:Int),.int .i64 (i:Int)] uc (sU Y.heap.size (l-1) (X.eraseIdx i)) j p u w->nS [.agg #[.int .i64 n,.slice A nl cl],.pointer (some ⟨g3,2,none⟩),.slice M l L,.int .i64 k,.int .i64 (r:Int),.pointer (some ⟨g3,2,none⟩),.slice M l L,.int .i64 (l:Int),.int .i64 (i:Int)] uc (sU Y.heap.size (l-1) (X.eraseIdx i)) j p u w':=λ j p u w w' ab _ h=>by
     unfold nS at*;split at h
     ·rename_i e;rw[if_pos e];exact h.below ab
     ·rename_i e;rw[if_neg e];exact h
    have cp:=U (bV.o.below Z.o);have cq:=U (aH.o.below (J.o.1.trans (Z.o.mono J.o.1.size)));clear bW bP ba bp
    go_upto_region 13 with fail
    refine EH (qb Tryz.f8 13) 16 92 [some 66,some 67,some 68,some 69,some 70,some 71,some 72,some 73,some 74,some 75,some 76,some 65,some 77,some 78,some 11,none,some 12] _ [(3,.pointer (some ⟨w.heap.size,0,none⟩)),(7,.pointer (some ⟨g3,0,none⟩)),(2,.int .i64 k)] (λ w'=>Below Y.heap.size Y w') (nS [.agg #[.int .i64 n,.slice A nl cl],.pointer (some ⟨g3,2,none⟩),.slice M l L,.int .i64 k,.int .i64 (r:Int),.pointer (some ⟨g3,2,none⟩),.slice M l L,.int .i64 (l:Int),.int .i64 (i:Int)] uc (sU Y.heap.size (l-1) (X.eraseIdx i))) (by kernel_rfl) (by kernel_rfl) (by kernel_rfl) rfl (by kernel_rfl) (by kernel_rfl) (by kernel_rfl) (by kernel_rfl) (by kernel_rfl) (by kernel_rfl) rfl ⟨rfl,rfl,rfl,trivial⟩ (nS.AX ?_) (Below.refl _ _).drew (vm.ok (by kernel_rfl) ?_) _ rfl ?_
    ·intro ao p vals qd w' hs aq ag;have al:ao=9\/ao=10\/ao=11\/ao=12\/ao=13\/ao=14\/ao=15:=by simpa[uc,or_assoc] using hs
     rcases al with rfl|rfl|rfl|rfl|rfl|rfl|rfl
     ·obtain⟨a,b,h1,aw⟩:=ag;exact⟨a,b,(aq 9 (.inl rfl)).symm.trans h1,aw⟩
     ·obtain⟨a,b,c,d,e,f,h1⟩:=ag;exact⟨a,b,c,d,e,f,(aq 10 (.inl rfl)).symm.trans h1⟩
     ·obtain⟨a,b,c,d,e,f,h1⟩:=ag;exact⟨a,b,c,d,e,f,(aq 11 (.inl rfl)).symm.trans h1⟩
     ·obtain⟨a,b,c,d,e,f,h1⟩:=ag;exact⟨a,b,c,d,e,f,(aq 12 (.inl rfl)).symm.trans h1⟩
     ·exact(aq 13 (.inl rfl)).symm.trans ag
     ·exact⟨(aq 14 (.inl rfl)).symm.trans ag.1,ag.2⟩
     ·obtain⟨g,a,b,c,d,e,f,h1,aw⟩:=ag;exact⟨g,a,b,c,d,e,f,(aq 14 (.inr rfl)).symm.trans h1,aw⟩
    ·refine⟨?_,?_,?_,?_,?_,?_,?_,?_,?_,⟨λ _=>?_,λ h=>(by cases h)⟩,⟨λ _=>?_,λ h=>(by cases h)⟩,⟨λ _=>?_,λ h=>(by cases h)⟩,⟨λ _=>?_,λ h=>(by cases h)⟩,⟨λ _=>?_,λ h=>(by cases h)⟩,⟨λ _=>?_,λ h=>(by cases h)⟩,⟨λ _=>?_,λ h=>(by cases h)⟩,trivial⟩
     rotate_left 9
     ·intro vals K w' I F q ai hp ar;have bY:I (.tmp 68)=vals 2:=(q.1 rfl).2 _ rfl;have f2:vals 2=.slice M l L:=(q.1 rfl).1 (.inl rfl);have cr:I (.tmp 74)=vals 8:=(q.2.1 rfl).2 _ rfl;have f8:vals 8=.int .i64 (i:Int):=(q.2.1 rfl).1 (.inl rfl);refine rP 37 #[.tmp 68,.tmp 74] #[25,3] rfl EW hp ?_;simp only[List.map_toArray,List.map_cons,List.map_nil,bY,cr,f2,f8];refine(I2 M l L X w' (cp.o.below F) i cm.o (by omega)).mono ?_;rintro e c7 ⟨T,aa,rfl,br,ct,bZ⟩;exact⟨_,rfl,.more aU bZ (F.trans (bZ.mono F.size)) ⟨T,aa,rfl,br,λ b ab=>ct.lt b (by show(ay.v ⟨T,l-1,aa⟩).ownBlock=_;rw[ay.own];exact ab)⟩⟩
     ·intro vals K w' I F q ai hp ar;have cu:I (.tmp 66)=vals 0:=(q.1 rfl).2 _ rfl;have f0:vals 0=.agg #[.int .i64 n,.slice A nl cl]:=(q.1 rfl).1 (.inl rfl);have cv:I (.tmp 75)=vals 9:=(q.2.1 rfl).2 _ rfl;obtain⟨T,aa,f9,br,-⟩:∃T aa,vals 9=.slice T (l-1) aa/\aP w' T (l-1) aa (X.eraseIdx i)/\∀b,T.map (·.block)=some b->(K 9).1<=b/\b<(K 9).2:=(q.2.1 rfl).1 (.inl rfl);refine rP 28 #[.tmp 66,.tmp 75,.const (.int .i64 1073741824)] #[24,25,3] rfl EX hp ?_;simp only[List.map_toArray,List.map_cons,List.map_nil,cu,cv,f0,f9,hp.1];refine(sS n ae.o.1 A nl cl ls T (l-1) aa (X.eraseIdx i) 1073741824 w' (cq.o.below F) br bq.o.2.1 (by omega) (by have:=ae.o;omega)).mono ?_;rintro e c8 ⟨cw,cx,cy,cz,cA,cB,cC,cD,m7,cE,c9,rfl,aV⟩;obtain⟨rfl,aj⟩:=aV.res bq.o.1;obtain⟨rfl,rfl⟩:cw=1/\cE=[]:=(uT aj).elim (λ h=>⟨h.1,h.2.1⟩) (λ h=>absurd (bq.o.2.2.mono λ x cF=>h.2.1.subset cF) h.2.2.1);have cG:cB=0:=by have:=aV.aC.len;simpa using this.symm
      subst cG;exact⟨_,rfl,.more aU aV.jU (F.trans (aV.jU.mono F.size)) ⟨cx,cy,cz,cA,cC,cD,rfl⟩⟩
     ·intro vals K w' I F q ai hp ar;have e:I (.tmp 76)=vals 10:=(q.1 rfl).2 _ rfl;obtain⟨s,t,B,C,D,sp,f⟩:∃s t B C D sp,vals 10=.tuple #[.agg (pq s t B C D sp).toArray,.int .i64 0]:=(q.1 rfl).1 (.inl rfl);rw[f] at e;simp only[bh,execOp,e];simp[bQ,go_sem];exact .same F ⟨s,t,B,C,D,sp,rfl⟩
     ·intro vals K w' I F q ai hp ar;have e:I (.tmp 65)=vals 11:=(q.1 rfl).2 _ rfl;obtain⟨s,t,B,C,D,sp,f⟩:∃s t B C D sp,vals 11=.tuple #[.agg (pq s t B C D sp).toArray,.int .i64 0]:=(q.1 rfl).1 (.inl rfl);rw[f] at e;simp only[bh,execOp,e];simp[bQ,go_sem];exact .same F ⟨s,t,B,C,D,sp,rfl⟩
     ·intro vals K w' I F q ai hp ar;have e:I (.tmp 65)=vals 11:=(q.1 rfl).2 _ rfl;obtain⟨s,t,B,C,D,sp,f⟩:∃s t B C D sp,vals 11=.tuple #[.agg (pq s t B C D sp).toArray,.int .i64 0]:=(q.1 rfl).1 (.inl rfl);rw[f] at e;simp only[bh,execOp,e];simp[bQ,go_sem];exact .same F rfl
     ·intro vals K w' I F q ai hp ar;simp only[bh,execOp];simp[bQ,go_sem];exact .more aU (bC w' _) (F.trans ((bC w' _).mono F.size)) ⟨rfl,F.size,by simp,_,_,_,_,aR.new w' 30 [.int .i64 0,.slice none 0 0,.slice none 0 0,.int .i64 0]⟩
     ·intro vals K w' I F q ai hp ar;have bs:I (.tmp 11)=vals 14:=(q.1 rfl).2 _ rfl;obtain⟨f14,bt,cH,a0,a1,a2,a3,au⟩:vals 14=.pointer (some ⟨(K 14).1,0,none⟩)/\Y.heap.size<=(K 14).1/\(K 14).1<(K 14).2/\∃a b c d,aR w' (K 14).1 30 [a,b,c,d]:=(q.1 rfl).1 (.inl rfl);have b0:I (.tmp 77)=vals 12:=(q.2.1 rfl).2 _ rfl;obtain⟨s,t,B,C,D,sp,f12⟩:∃s t B C D sp,vals 12=.agg (pq s t B C D sp).toArray:=(q.2.1 rfl).1 (.inl rfl);rw[f14] at bs;rw[f12] at b0;obtain⟨g,b1⟩:∃g,(K 14).1=g:=⟨_,rfl⟩
      have cI:=ar.2 9 14 (by decide) rfl rfl;rw[b1] at bs f14 bt cH au;have aW:=au.free;have cJ:=aW 0;have cK:=aW 1;have cL:=aW 2;have cM:=aW 3;have y:=au.cell;have O:=y 0;have P:=y 1;have N:=y 2;have G:=y 3;simp only[y_,x_] at O P N G;have bu:aR ((((w'.setCell ⟨g,0,none⟩ (.int .i64 1)).setCell ⟨g,1,none⟩ (.slice s t B)).setCell ⟨g,2,none⟩ (.slice C 0 D)).setCell ⟨g,3,none⟩ (.int .i64 (sp:Nat))) g 30 (pq s t B C D sp):=(((au.set 0 (.int .i64 1)).set 1 (.slice s t B)).set 2 (.slice C 0 D)).set 3 (.int .i64 (sp:Nat));have aX:∀(u:World)(i:Nat)(v:Value),aG (λ b=>b≠g) u (u.setCell ⟨g,i,none⟩ v):=λ u i v=>aG.set _ i v (λ h=>h rfl)
      have f1:aG (λ b=>b≠g) w' ((((w'.setCell ⟨g,0,none⟩ (.int .i64 1)).setCell ⟨g,1,none⟩ (.slice s t B)).setCell ⟨g,2,none⟩ (.slice C 0 D)).setCell ⟨g,3,none⟩ (.int .i64 (sp:Nat))):=(((aX _ 0 _).trans (aX _ 1 _)).trans (aX _ 2 _)).trans (aX _ 3 _);simp only[bh,execOp,bs,b0,pq];simp[bQ,go_sem,cJ,cK,cL,cM,O,P,N,G];generalize (((w'.setCell ⟨g,0,none⟩ (.int .i64 1)).setCell ⟨g,1,none⟩ (.slice s t B)).setCell ⟨g,2,none⟩ (.slice C 0 D)).setCell ⟨g,3,none⟩ (.int .i64 (sp:Nat))=da at bu f1⊢;refine⟨F.trans ⟨f1.os,f1.tape,f1.output,f1.size,λ b ab=>f1.keep b (by omega)⟩,f1.size,⟨g,s,t,B,C,D,sp,f14,bt,bu⟩,λ j cN a' hs db h=>?_⟩;unfold nS at*;split at h
      ·rename_i aZ;rw[if_pos aZ];have al:j=9\/j=10\/j=11\/j=12\/j=13\/j=14\/j=15:=by simpa[uc,or_assoc] using aZ
       rcases al with rfl|rfl|rfl|rfl|rfl|rfl|rfl
       ·obtain⟨T,aa,h1,aw,S⟩:=h;exact⟨T,aa,h1,aw.xC f1.size (λ b e=>f1.keep b (λ bY=>by have:=S b e;rcases cI with aT|aT<;>omega)),S⟩
       ·exact h
       ·exact h
       ·exact h
       ·exact h
       ·exact⟨h.1,h.2.1,h.2.2.1,_,_,_,_,by rw[b1];exact bu⟩
       ·exact absurd rfl cN
      ·rename_i aZ;rw[if_neg aZ];exact h
     all_goals
      refine⟨λ h=>(by cases h),λ _ I w' bw q ai hp=>?_⟩;obtain⟨cO,cP,cQ,-⟩:=ai;have aY:=(bw.cell (p:=⟨w.heap.size,0,none⟩) bX).trans Q;have c1:=(bw.cell (p:=⟨w.heap.size,1,none⟩) bX).trans R;have c2:=(bw.cell (p:=⟨g3,2,none⟩) cn).trans N
      try simp[tT,p9,Region.binds,uc] at q
      simp[bh,execOp,bQ,go_sem,cO,cP,cQ,q,aY,c1,c2,cf,ch,cj,ck,hp.1,(show¬l=0 by omega)]
    intro vals K bE b2 bx cR dc b3;obtain⟨g,s,t,B,C,D,sp,cS,bt,au⟩:∃b s t B C D sp,vals 14=.pointer (some ⟨b,0,none⟩)/\Y.heap.size<=b/\aR bE b 30 (pq s t B C D sp):=bx 15 (by omega);have b4:vals 13=.int .i64 0:=bx 13 (by omega);have z:=au.cell;have z0:=z 0;have cT:=z 1;have z2:=z 2;have z3:=z 3;simp only[pq,y_,x_] at z0 cT z2 z3;have cU:=U (show Below Y.heap.size Y bE from b2);clear bx b2 cR au z Q R O P N G aU;simp[mJ,Act.put,b4,cS] at b3;subst b3;show bh _ _ (Oper.mk _ _ _ _ _ _) _ _;simp[bh,execOp,bQ,go_sem,Act.eval,Act.put,b4]
    go_wp2_with fail
    go_ret;exact⟨rfl,H.o.1.trans ((J.o.1.trans ((Z.o.trans (cU.o.mono Z.o.size)).mono J.o.1.size)).mono H.o.1.size)⟩
 ·obtain⟨a6,bz⟩:∃e,kU x ls ah 1073741824=e:=⟨_,rfl⟩
  rw[bz] at he;have ak:(a6==0)=false:=by simpa using he
  have dd:(a6 !=0)=true:=by simpa using he
  have de:decide (a6=0)=false:=decide_eq_false he;have aD:=U bz;clear bz
  go_wp2_with (go_at_call 28;refine ba.o.mono ?_;rintro e av ⟨kind,s,t,B,C,cV,D,cW,m,core,cX,rfl,S⟩;obtain rfl:a6=cX:=aD.o.symm.trans S.he;have V:=U (ad.o.trans (S.jU.mono ad.o.size));clear S)
  go_ret;have t3:=V.o.trans ((bC av (.cells #[.int .i64 kind,.slice s t B,.slice C cV D,.int .i64 (cW:Nat)] 30)).mono V.o.size);exact⟨rfl,H.o.1.trans (t3.mono H.o.1.size)⟩
end
end Go.Proofs.YtogdlkfacflmaaaGreat
