/- Parts of the walk of the solver and its core; no condition. -/
import Derived.Test.YtogdlkfacflmaaaGreatZZ13
import Derived.Laws.Rows
import Derived.Test.YtogdlkfacflmaaaGreatZZ1
import Derived.Test.YtogdlkfacflmaaaGreatZZ10
namespace Go.Proofs.YtogdlkfacflmaaaGreat
set_option linter.unusedVariables false
set_option linter.unusedSimpArgs false
set_option maxRecDepth 1000000
set_option maxHeartbeats 8000000
open _root_.And renaming intro→z_
open _root_.List renaming getElem?_cons_succ→y_,getElem?_cons_zero→x_,mem_eraseIdx_iff_getElem→w_,mem_append→v_,getElem_mem→t_,all_eq_true→s_,getElem?_eq_getElem→m_,length_map→l_,range→k_,mem_iff_getElem→i_,pairwise_iff_getElem→g_,length_append→e_,mem_range→d_,any_eq_true→b_,eq_nil_of_length_eq_zero→Zz,mem_singleton→Zy,getD_eq_getElem?_getD→Zx,any_eq_false→Zu,getElem_append_right→Zs,getElem_append_left→Zq,mem_filter→Zn,take_of_length_le→Zl,mem_map→Zi
open _root_.Go.Proofs.Tryz renaming prog→u_,underlying28→Zv
open _root_.Bool renaming and_eq_true→r_,not_eq_true'→c_,noConfusion→Zp,or_eq_true→Zo
open _root_.Go.RowKit.Below renaming heap_setCell→q_,refl→Zt
open _root_.Nat renaming lt_or_ge→p_,le_refl→n_,eq_zero_or_pos→f_,zero_le→Zm,testBit_lt_two_pow→Zk
open _root_.Go.Value.slice renaming injEq→o_
open _root_.Go.Value renaming bool→j_,slice→h_
open _root_.Or renaming inl→a_
open _root_.Go.World renaming ownsRow_nil→Zw,cell?_of_block→Zj
open _root_.Go.IntKind renaming wrap_i64→Zr,i64→Zh
variable{w:World}{base n c G k off:Nat}{A:Option Addr}{act ah a b l g keep:List Int}{K:Nat->Prop}{hs:Nat->ax}{cb:Nat->Nat}{s:aq}{F ls:List (List Int)}{x y:Int}{M:Int->Bool}{gU m:List Bool}{α:Type}
section
open Go.RowKit Go.Shelf
def x3(W:World)(G aH a r:Nat)(g h j s t u x k:Value)(b:Option Addr)(n6 c:Nat)(d:Option Addr)(n7 e:Nat)(f:Int)(l:Option Addr)(jU m:Nat)(n:Option Addr)(o p:Nat)(i:Nat)(v:Value)(w:World):Prop:=
 match i with
 |0=>v=.agg #[.slice b n6 c,.slice d n7 e,.int .i64 f]
 |1=>v=.pointer (some ⟨G,0,none⟩)
 |2=>v=.pointer (some ⟨G,0,none⟩)
 |3=>v=.pointer (some ⟨G,12,none⟩)
 |4=>v=.slice l jU m
 |5=>v=.pointer (some ⟨G,0,none⟩)
 |6=>v=.pointer (some ⟨G,0,none⟩)
 |7=>v=.pointer (some ⟨G,14,none⟩)
 |8=>v=.slice n o p
 |9=>v=.pointer (some ⟨a,3,none⟩)
 |10=>∃q,aT w a 47 [g,h,j,.slice b n6 c,.slice d n7 e,.int .i64 f,q,k]
 |11=>v=.pointer (some ⟨a,6,none⟩)
 |12=>aT w a 47 [g,h,j,.slice b n6 c,.slice d n7 e,.int .i64 f,.slice l jU m,k]
 |13=>v=.pointer (some ⟨a,7,none⟩)
 |_=>True
theorem x3.const(W:World)(G aH a b:Nat)(c d e f g j k l:Value)(m:Option Addr)(n6 o:Nat)(p:Option Addr)(n7 q:Nat)(r:Int)(s:Option Addr)(jU t:Nat)(v:Option Addr)(x y:Nat)(i:Nat)(z:i≠10)(A:i≠12)(u:Value)(w w':World)(h:x3 W G aH a b c d e f g j k l m n6 o p n7 q r s jU t v x y i u w):x3 W G aH a b c d e f g j k l m n6 o p n7 q r s jU t v x y i u w':=by
 match i,h with
 |0,h=>exact h
 |1,h=>exact h
 |2,h=>exact h
 |3,h=>exact h
 |4,h=>exact h
 |5,h=>exact h
 |6,h=>exact h
 |7,h=>exact h
 |8,h=>exact h
 |9,h=>exact h
 |10,h=>exact absurd rfl z
 |11,h=>exact h
 |12,h=>exact absurd rfl A
 |13,h=>exact h
 |n+14,h=>trivial
structure Ho(W:World)(G aH iC qQ:Nat)(pg jR kV mg qb p8 r7 od:Value)(kn:Option Addr)(n6 kN:Nat)(iW:Option Addr)(n7 iA:Nat)(qG:Int)(iG:Option Addr)(jU ig:Nat)(bu:Option Addr)(bG bE:Nat):Prop where
 an:W.cell? ⟨qQ,0,none⟩=some (.slice kn n6 kN)
 h1:W.cell? ⟨qQ,1,none⟩=some (.slice iW n7 iA)
 af:W.cell? ⟨qQ,2,none⟩=some (.int .i64 qG)
 DX:qQ<W.heap.size/\qQ≠iC
 g0:W.cell? ⟨aH,0,none⟩=some (.pointer (some ⟨G,0,none⟩))
 p7:aH<W.heap.size/\aH≠iC
 oc:W.cell? ⟨G,12,none⟩=some (.slice iG jU ig)
 vl:W.cell? ⟨G,14,none⟩=some (.slice bu bG bE)
 Hp:G<W.heap.size/\G≠iC
def Hq(j:Nat):Option Nat:=if j=10 then some 12 else none
theorem Nq(W:World)(G aH j o:Nat)(r s n m y p F t:Value)(z:Option Addr)(n6 A:Nat)(B:Option Addr)(n7 D:Nat)(E:Int)(H:Option Addr)(jU I:Nat)(J:Option Addr)(K L:Nat)(C:Ho W G aH j o r s n m y p F t z n6 A B n7 D E H jU I J K L):
  ug u_ [some 69,some 70,some 71,some 72,some 73,some 74,some 75,some 76,some 77,some 78,none,some 79,none,some 80,none] [[],[],[1],[2],[3],[],[5],[6],[7],[0],[9,0,0],[0,1,2,3,4,9,10],[11,4,10,0,1,2,3,4,9,10],[0,1,2,3,4,5,6,7,8,9,10,11,12],[13,8,12,0,1,2,3,4,5,6,7,8,9,10,11,12]] [(5,.pointer (some ⟨o,0,none⟩)),(2,.pointer (some ⟨aH,0,none⟩)),(3,.pointer (some ⟨j,0,none⟩))] (λ w=>W.grownBy w (some j)) (x3 W G aH j o r s n m y p F t z n6 A B n7 D E H jU I J K L) Hq (λ w=>∃q,aT w j 47 [r,s,n,m,y,p,q,t]) 10 0 ((rV Tryz.f100 14).take 14):=by
 have v:∀w b k,W.grownBy w (some j)->b<W.heap.size/\b≠j->w.cell? ⟨b,k,none⟩=W.cell? ⟨b,k,none⟩:=λ w b k c l=>Zj (a:=⟨b,k,none⟩) (c.block b l.1 (λ e=>by injection e with e;exact l.2 e))
 refine⟨?_,?_,?_,?_,?_,?_,?_,?_,?_,?_,?_,?_,?_,?_,trivial⟩
 ·intro vals w f c i d g hp;have p:f (.tmp 5)=_:=g.1 rfl;have ag:=(v w o 0 c C.DX).trans C.an;have c1:=(v w o 1 c C.DX).trans C.h1;have c2:=(v w o 2 c C.DX).trans C.af;simp only[bD,execOp,p];simp[gL,go_sem,ag,c1,c2];exact .same c rfl
 ·intro vals w f c i d g hp;have n:f (.tmp 2)=_:=g.2.1 rfl;have x:=(v w aH 0 c C.p7).trans C.g0;simp only[bD,execOp,n];simp[gL,go_sem,x];exact .same c rfl
 ·intro vals w f c i d g hp;obtain⟨⟨f1,M⟩,-⟩:=(⟨d.1 rfl,d.2⟩:_/\_)
  have M:f (.tmp 70)=vals 1:=M _ rfl;have f1:vals 1=_:=f1 (a_ rfl);rw[f1] at M;simp only[bD,execOp,M];simp[gL,go_sem];exact .same c rfl
 ·intro vals w f c i d g hp;obtain⟨⟨f2,N⟩,-⟩:=(⟨d.1 rfl,d.2⟩:_/\_)
  have N:f (.tmp 71)=vals 2:=N _ rfl;have f2:vals 2=_:=f2 (a_ rfl);rw[f2] at N;simp only[bD,execOp,N];simp[gL,go_sem];exact .same c rfl
 ·intro vals w f c i d g hp;obtain⟨⟨f3,O⟩,-⟩:=(⟨d.1 rfl,d.2⟩:_/\_)
  have O:f (.tmp 72)=vals 3:=O _ rfl;have f3:vals 3=_:=f3 (a_ rfl);rw[f3] at O;have x:=(v w G 12 c C.Hp).trans C.oc;simp only[bD,execOp,O];simp[gL,go_sem,x];exact .same c rfl
 ·intro vals w f c i d g hp;have n:f (.tmp 2)=_:=g.2.1 rfl;have x:=(v w aH 0 c C.p7).trans C.g0;simp only[bD,execOp,n];simp[gL,go_sem,x];exact .same c rfl
 ·intro vals w f c i d g hp;obtain⟨⟨f5,P⟩,-⟩:=(⟨d.1 rfl,d.2⟩:_/\_)
  have P:f (.tmp 74)=vals 5:=P _ rfl;have f5:vals 5=_:=f5 (a_ rfl);rw[f5] at P;simp only[bD,execOp,P];simp[gL,go_sem];exact .same c rfl
 ·intro vals w f c i d g hp;obtain⟨⟨f6,Q⟩,-⟩:=(⟨d.1 rfl,d.2⟩:_/\_)
  have Q:f (.tmp 75)=vals 6:=Q _ rfl;have f6:vals 6=_:=f6 (a_ rfl);rw[f6] at Q;simp only[bD,execOp,Q];simp[gL,go_sem];exact .same c rfl
 ·intro vals w f c i d g hp;obtain⟨⟨f7,R⟩,-⟩:=(⟨d.1 rfl,d.2⟩:_/\_)
  have R:f (.tmp 76)=vals 7:=R _ rfl;have f7:vals 7=_:=f7 (a_ rfl);rw[f7] at R;have x:=(v w G 14 c C.Hp).trans C.vl;simp only[bD,execOp,R];simp[gL,go_sem,x];exact .same c rfl
 ·intro vals w f c i d g hp;have m:f (.tmp 3)=_:=g.2.2.1 rfl;simp only[bD,execOp,m];simp[gL,go_sem];exact .same c rfl
 ·intro vals w f c i d g hp;obtain⟨⟨f9,S⟩,⟨f0,T⟩,-⟩:=(⟨d.1 rfl,d.2.1 rfl,d.2.2⟩:_/\_/\_)
  have S:f (.tmp 78)=vals 9:=S _ rfl;have f9:vals 9=_:=f9 (a_ rfl);rw[f9] at S;have T:f (.tmp 69)=vals 0:=T _ rfl;have f0:vals 0=_:=f0 (a_ rfl);rw[f0] at T;obtain⟨q,l⟩:∃q,aT w j 47 [r,s,n,m,y,p,q,t]:=i (Or.inr rfl);have Y:=l.cell 3;have Z:=l.cell 4;have aa:=l.cell 5;have ah:=l.free 3;have ai:=l.free 4;have aj:=l.free 5;simp only[x_,y_] at Y Z aa;simp only[bD,execOp,S,T];simp[gL,go_sem,Y,Z,aa,ah,ai,aj];have ak:=wZ (wZ (k8 w j 3 (.slice z n6 A)) (k8 _ j 4 (.slice B n7 D))) (k8 _ j 5 (.int .i64 E));exact⟨wZ c ak,⟨q,((l.set 3 _).set 4 _).set 5 _⟩,λ k u hk ab ad _ X=>x3.const W G aH j o r s n m y p F t z n6 A B n7 D E H jU I J K L k hk (λ e=>by subst e;exact absurd ad (by decide)) u _ _ X,λ h=>absurd rfl h⟩
 ·intro vals w f c i d g hp;have m:f (.tmp 3)=_:=g.2.2.1 rfl;simp only[bD,execOp,m];simp[gL,go_sem];exact .same c rfl
 ·intro vals w f c i d g hp;obtain⟨⟨f11,U⟩,⟨f4,V⟩,⟨f10,aq⟩,-⟩:=(⟨d.1 rfl,d.2.1 rfl,d.2.2.1 rfl,d.2.2.2⟩:_/\_/\_/\_)
  have U:f (.tmp 79)=vals 11:=U _ rfl;have f11:vals 11=_:=f11 (a_ rfl);rw[f11] at U;have V:f (.tmp 73)=vals 4:=V _ rfl;have f4:vals 4=_:=f4 (a_ rfl);rw[f4] at V;obtain⟨q,l⟩:∃q,aT w j 47 [r,s,n,.slice z n6 A,.slice B n7 D,.int .i64 E,q,t]:=f10 (Or.inr rfl);have ae:=l.cell 6;have al:=l.free 6;simp only[x_,y_] at ae;simp only[bD,execOp,U,V];simp[gL,go_sem,ae,al];exact⟨wZ c (k8 w j 6 _),l.set 6 _,λ k u hk ab ad _ X=>x3.const W G aH j o r s n m y p F t z n6 A B n7 D E H jU I J K L k (λ e=>by subst e;exact absurd rfl ab) hk u _ _ X,λ h _ i=>by obtain⟨ar,ao⟩:=i;exact⟨_,ao.set 6 _⟩⟩
 ·intro vals w f c i d g hp;have m:f (.tmp 3)=_:=g.2.2.1 rfl;simp only[bD,execOp,m];simp[gL,go_sem];exact .same c rfl
theorem s5{cI:Nat}{w0 w':World}{row:Option Nat}(h:Below cI w0 w)(a:w.grownBy w' row)(hs:cI<=w.heap.size)(b:∀g,row=some g->cI<=g):Below cI w0 w':=
 ⟨a.os.trans h.os,a.tape.trans h.tape,a.output.trans h.output,Nat.le_trans h.size a.size,λ k hk=>(a.block k (by omega) (λ e=>by have:=b k e.symm;omega)).trans (h.block k hk)⟩
def B2(s:aq)(i:Nat)(e:mM):Prop:=e.r.ai=ay s.c.cl (gZ s.aM i)/\e.bh=(lG s (gZ s.aM i)).bh/\e.ac=min (lG s (gZ s.aM i)).ac jF
structure Hr(s:aq)(oK W:World)(iC:Nat)(v0 v1 v3 v4 v5 v6 j8:Value)(A:Option Addr)(j c:Nat)(es:List mM):Prop where
 gU:aT W iC 47 [v0,v1,.slice A j c,v3,v4,v5,v6,j8]
 row:W.ownsRow oK.heap.size 74 3 (.slice A j c) j (pT es)
 len:es.length=j
 jr:aG (λ b=>b<oK.heap.size/\¬b=iC) oK W
 rd:∀e∈es,aL W e.r.A e.r.n e.r.c e.r.ai
 ap:∀e∈es,∀b,e.r.A.map (·.block)=some b->oK.heap.size<=b/\b<W.heap.size/\(h_ A j c).ownBlock≠some b
 sp:∀(i:Nat)(h:i<es.length),B2 s i es[i]
def Nr(w:World)(A:Option Addr)(es:List mM)(a:Option Addr):Prop:=(∀b,A.map (·.block)=some b->w.heap.size<=b)/\(∀e∈es,∀b,e.r.A.map (·.block)=some b->w.heap.size<=b)/\∀b,a.map (·.block)=some b->w.heap.size<=b
def Hs(K:Nat->Prop)(base:Nat)(w:World)(G:Nat)(cb:Nat->Nat)(F:List (List Int))(j:List Int)(n k l:Nat)(s:aq)(qt:Int)(qu:Option Addr)(qv qw:Nat)(e:Ending)(w':World):Prop:=
 ∃(f:Nat->Prop)(a:Nat->ax)(iY:aq)(m:Nat)(A:Option Addr)(c:Nat)(es:List mM)(d:Option Addr)(g:Nat),e=.returned (.agg #[.int .i64 qt,.slice qu qv qw,.slice A es.length c,(a 6).v,.slice d n g,.int .i64 iY.bt,(a 9).v,oE a iY])/\(∀b,K b->f b)/\aY f base w' G a cb iY/\aG K w w'/\mq F j n k iY l m/\
  iY.aF=s.aF/\iY.jB=s.jB/\iY.aM=s.aM/\iY.c.cl=s.c.cl/\sF w' A es.length c es/\es.length=iY.aM.length/\(∀(i:Nat)(h:i<es.length),B2 iY i es[i])/\aL w' d n g ((qs iY.act (oy n)).map (·.1))/\Nr w A es d
theorem Ns(d:n<=1000)(h:w.ownsRow base 3 1 (.slice A n c) n (jc ((k_ n).map λ j:Nat=>(j:Int)+1))){aH G:Nat}{kn:Option Addr}{n6 kN:Nat}(f:w.cell? ⟨aH,0,none⟩=some (.pointer (some ⟨G,0,none⟩)))(q:w.cell? ⟨G,8,none⟩=some (.slice kn n6 kN))
  (i:n6=n+1) (l:∃a,kn=some ⟨a,0,none⟩/\a<base/\∀v,v<=n->w.cell? ⟨a,v,none⟩=some (.int .i64 (aj act v))) (u:aH<base) (x:G<base) (y:base<=w.heap.size):
  Calls u_ 157 #[.slice A n c,.func (.func 158) #[] #[.pointer (some ⟨aH,0,none⟩)]] w λ e w'=>e=.returned (.tuple #[])/\w'.ownsRow base 3 1 (.slice A n c) n (jc ((qs act (oy n)).map (·.1)))/\Below base w w':=by
 rcases f_ n with b|b
 ·subst b
  haveI:Inhabited Int:=⟨0⟩
  refine(Tryz.slices_SortFunc_none (α:=Int) A c _ w).mono ?_;rintro e w' ⟨rfl,rfl⟩;have m:oy 0=[]:=List.map_eq_nil_iff.1 (by rw[DU];rfl);refine⟨rfl,?_,Zt _ _⟩;rw[m];simp only[qs,List.mergeSort_nil];exact h
 ·obtain⟨k,rfl⟩:∃k,n=k+1:=⟨n-1,by omega⟩
  obtain⟨g,cap,o⟩:=CG h;injection o with p z B
  subst p;obtain⟨a,rfl,C,r⟩:=l;subst i;have s:=h.lt g rfl;refine(Ng (ls:=oy (k+1)) (act:=act) (base:=base) (by rw[DU];exact h) s.1 d (by omega) (by omega) f q r ⟨by omega,by omega⟩ ⟨by omega,by omega⟩ ⟨by omega,by omega⟩).mono ?_;rintro e w' ⟨rfl,h1,t⟩;exact⟨rfl,h1,t⟩
theorem Nt{fM aB h:Nat}(E:aY K base w G hs cb s)(S:mq F ah n fM s aB h)(cX:n<=10)(cY:s.c.st.length<=1000000)
  {qt s6:Int} {qu:Option Addr} {qv qw:Nat} {mR s7 s8 mj sG:Value}:
  Calls u_ 100 #[.pointer (some ⟨G,0,none⟩),.agg #[.int .i64 qt,(.slice qu qv qw),mR,s7,s8,.int .i64 s6,mj,sG]] w (Hs K base w G cb F ah n fM aB s qt qu qv qw):=by
 have ar:=U E;have cZ:=U S;clear E S;go_enter Tryz.func100,Tryz.ntmps100
 go_upto_region 1 with fail
 have c0:∃ak:Nat->Prop,ak=qD (qD (qD K w.heap.size) (w.heap.size+1)) (w.heap.size+1+1):=⟨_,rfl⟩
 obtain⟨ak,bp⟩:=c0;have bq:=bz w (.cells #[.pointer (some ⟨G,0,none⟩)] 115);have aF:=(ar.o.below bq).1.qD (g:=w.heap.size) (by simp) (by have:=ar.o.e.box.lt;omega) (λ r e=>by have:=(ar.o.e.rows.lt e).2;omega) (λ d O e=>by have:=(ar.o.e.cls d O).lt;omega);have al:aT (w.alloc (.cells #[.pointer (some ⟨G,0,none⟩)] 115)) w.heap.size 115 [.pointer (some ⟨G,0,none⟩)]:=aT.new w 115 _;have br:(w.alloc (.cells #[.pointer (some ⟨G,0,none⟩)] 115)).heap.size=w.heap.size+1:=by simp
 have b0:=bq;generalize w.alloc (.cells #[.pointer (some ⟨G,0,none⟩)] 115)=w1 at*;have a8:=bz w1 (.cells #[.int .i64 qt,(.slice qu qv qw),mR,s7,s8,.int .i64 s6,mj,sG] 47);have au:=(aF.below a8).1.qD (g:=w1.heap.size) (by simp) (by have:=aF.e.box.lt;omega) (λ r e=>by have:=(aF.e.rows.lt e).2;omega) (λ d O e=>by have:=(aF.e.cls d O).lt;omega);have aI:aT (w1.alloc (.cells #[.int .i64 qt,(.slice qu qv qw),mR,s7,s8,.int .i64 s6,mj,sG] 47)) w1.heap.size 47 [.int .i64 qt,(.slice qu qv qw),mR,s7,s8,.int .i64 s6,mj,sG]:=aT.new w1 47 _;replace al:=al.below a8;have z2:(w1.alloc (.cells #[.int .i64 qt,(.slice qu qv qw),mR,s7,s8,.int .i64 s6,mj,sG] 47)).heap.size=w.heap.size+1+1:=by simp[br]
 have b1:=b0.trans (a8.mono (by omega));rw[br] at au aI;generalize w1.alloc (.cells #[.int .i64 qt,(.slice qu qv qw),mR,s7,s8,.int .i64 s6,mj,sG] 47)=av at*;have aJ:=bz av (.cells #[.int .i64 0,.slice none 0 0,.slice none 0 0,.slice none 0 0,.slice none 0 0,.int .i64 0,.slice none 0 0,.slice none 0 0] 47);have aK:=(au.below aJ).1.qD (g:=av.heap.size) (by simp) (by have:=au.e.box.lt;omega) (λ r e=>by have:=(au.e.rows.lt e).2;omega) (λ d O e=>by have:=(au.e.cls d O).lt;omega);have bs:aT (av.alloc (.cells #[.int .i64 0,.slice none 0 0,.slice none 0 0,.slice none 0 0,.slice none 0 0,.int .i64 0,.slice none 0 0,.slice none 0 0] 47)) av.heap.size 47 [.int .i64 0,.slice none 0 0,.slice none 0 0,.slice none 0 0,.slice none 0 0,.int .i64 0,.slice none 0 0,.slice none 0 0]:=aT.new av 47 _;replace al:=al.below aJ;replace aI:=aI.below aJ;have b2:=b1.trans (aJ.mono (by omega));rw[z2] at aK bs;rw[<-bp] at aK;generalize av.alloc (.cells #[.int .i64 0,.slice none 0 0,.slice none 0 0,.slice none 0 0,.slice none 0 0,.int .i64 0,.slice none 0 0,.slice none 0 0] 47)=b3 at*;have aK:=U aK;have aN:=U (z_ al (z_ aI (z_ bs b2)));have c1:b3.cell? ⟨w.heap.size,0,none⟩=some (.pointer (some ⟨G,0,none⟩)):=al.cell 0;clear aF au al aI bs b0 b1 b2 bq a8 aJ br z2;have b4:=U (G8 aK.o cZ.o (by omega) cY);have aO:=U bp;clear bp;obtain⟨aH,b5⟩:∃b,w.heap.size=b:=⟨_,rfl⟩
 rw[b5] at c1 aN aO⊢
 go_upto_region 2 with(go_at_call 147;refine b4.o.mono ?_;rintro e a ⟨rfl,I,iY,bu,b6,aw,b7,b8,b9,b',ca,cc,c4⟩;dsimp only)
 have cd:∀b,K b->ak b:=λ b f=>by rw[aO.o];exact .inl (.inl (.inl f))
 have bw:ak aH:=by rw[aO.o];exact .inl (.inl (.inr rfl))
 have bx:ak (aH+1):=by rw[aO.o];exact .inl (.inr rfl)
 have bA:ak (aH+1+1):=by rw[aO.o];exact .inr rfl
 have M:=U (z_ (aw.blk aN.o.1 bw) (z_ (aw.blk aN.o.2.1 bx) (aw.blk aN.o.2.2.1 bA)));have l:=U (z_ b6 (z_ b7 (z_ b8 (z_ b9 (z_ b' (z_ ca (z_ cc (z_ cd (z_ bw (z_ bx bA))))))))));have aw:=U aw;clear b6 b7 b8 b9 b' ca cc c4 cd bw bx bA c1 b4;have c1:a.cell? ⟨aH,0,none⟩=some (.pointer (some ⟨G,0,none⟩)):=M.o.1.cell 0;obtain⟨y,n6,z,bB⟩:∃A n c,I 6=⟨A,n,c⟩:=⟨_,_,_,rfl⟩
 have aP:a.cell? ⟨G,8,none⟩=some (.slice y n6 z):=by have:=l.o.1.e.kJ (k:=8) (v:=(I 6).v) rfl;rw[bB] at this;exact this
 have cf:a.cell? ⟨G,9,none⟩=some (.int .i64 iY.bt):=l.o.1.e.kJ (k:=9) (v:=.int .i64 iY.bt) rfl;have a':=U bB;clear bB
 go_region_held3 (λ w'=>w'.cell? ⟨aH,0,none⟩=some (.pointer (some ⟨G,0,none⟩))/\w'.cell? ⟨G,8,none⟩=some (.slice y n6 z)/\w'.cell? ⟨G,9,none⟩=some (.int .i64 iY.bt)) (first|exact⟨c1,aP,cf⟩|go_keep) (fail)
 have nJ:aT ((a.alloc (.cells #[.slice y n6 z,.slice none 0 0,.int .i64 iY.bt] 44)).drew) a.heap.size 44 [.slice y n6 z,.slice none 0 0,.int .i64 iY.bt]:=aT.new a 44 _;have cg:Below a.heap.size a ((a.alloc (.cells #[.slice y n6 z,.slice none 0 0,.int .i64 iY.bt] 44)).drew):=(bz a _).drew;have z5:((a.alloc (.cells #[.slice y n6 z,.slice none 0 0,.int .i64 iY.bt] 44)).drew).heap.size=a.heap.size+1:=by
  show(a.alloc _).heap.size=_;simp
 have ch:=l.o.2.1.rg.iX;have aa:a.cell? ⟨G,0,none⟩=some (.int .i64 (n:Int)):=by have:=l.o.1.e.kJ (k:=0) (v:=.int .i64 (iY.c.n:Int)) rfl;rw[ch] at this;exact this
 have ba:=U (z_ nJ (z_ cg (z_ z5 (z_ aa c1))));have cj:=l.o.1.e.box.lt;have ck:=M.o.1.lt;have az:=U (z_ cj ck);clear nJ cg z5 ch aa c1 aP cf cj ck;generalize (a.alloc (.cells #[.slice y n6 z,.slice none 0 0,.int .i64 iY.bt] 44)).drew=dN at*
 go_wp2_with fail
 go_loopw [6] (λ i W=>∃(k:Nat)(C:Option Addr)(D:Nat),i=.int .i64 ((k:Int)+1)/\k<=n/\aT W a.heap.size 44 [.slice y n6 z,.slice C k D,.int .i64 iY.bt]/\W.ownsRow (a.heap.size+1) 3 1 (.slice C k D) k (jc ((k_ k).map λ j:Nat=>(j:Int)+1))/\Below a.heap.size a W) (λ i _=>n+1-(intOf i).toNat)
 case atStart=>exact⟨0,none,0,rfl,Zm _,ba.o.1,Zw _ _ _ _,ba.o.2.1⟩
 case round=>
  obtain⟨k,C,D,rfl,hk,bb,hO,bc⟩:=hrel;have Y:=U (z_ hk (z_ bb (z_ hO bc)));have c1:wr.cell? ⟨aH,0,none⟩=some (.pointer (some ⟨G,0,none⟩)):=(bc.cell (p:=⟨aH,0,none⟩) az.o.2).trans ba.o.2.2.2.2;have aa:wr.cell? ⟨G,0,none⟩=some (.int .i64 (n:Int)):=(bc.cell (p:=⟨G,0,none⟩) az.o.1).trans ba.o.2.2.2.1;have cm:=bb.cell 1;have c5:=bb.free 1;simp only[x_,y_] at cm;clear hk bb hO bc
  by_cases ab:k<n
  ·have bC:(k:Int)+1<=(n:Int):=by omega
   have d1:decide ((k:Int)+1<=(n:Int))=true:=decide_eq_true bC;have dO:Zh.wrap ((k:Int)+1+1)=(k:Int)+1+1:=by rw[Zr];omega
   have cn:=U ab;have aA:a.heap.size+1<=wr.heap.size:=by have:=Y.o.2.1.lt;omega
   have bE:bJ ((wr.alloc (.cells #[.int .i64 ((k:Int)+1)] 3)).ownsRow (a.heap.size+1) 3 1 (.slice C k D) k (jc ((k_ k).map λ j:Nat=>(j:Int)+1))):=U (mw Y.o.2.2.1 (bz wr _));have cp:=U aA;clear ab aA
   go_upto_region 5 with(at_builtin;refine qS rfl (.tmp 29) (.tmp 31) rfl (a.heap.size+1) (.slice C k D) k ((k_ k).map λ j:Nat=>(j:Int)+1) rfl bE.o (some ⟨wr.heap.size,0,none⟩) 1 1 [(k:Int)+1] rfl (aL.lit wr [(k:Int)+1] 1 _ rfl rfl (by omega)) (by omega) (by have:=cp.o;simp;omega) ?_;intro v9 bM bd;obtain⟨⟨q,jU,t⟩,c6,bf⟩:=ax.kW bd.1;obtain rfl:v9=.slice q jU t:=c6;have bF:=U ((Y.o.2.1.below (bz wr (.cells #[.int .i64 ((k:Int)+1)] 3))).kept bd.2.1 (λ e=>by have:=(bE.o.lt a.heap.size e.symm).1;omega));have cq:=bF.o.cell 1;have c7:=bF.o.free 1;simp only[x_,y_] at cq;have bG:=U bd;have c8:=U bf;clear bd bf)
   have bf:jU=k+1:=c8.o;subst bf;have an:(bM.setCell ⟨a.heap.size,1,none⟩ (.slice q (k+1) t)).ownsRow (a.heap.size+1) 3 1 (.slice q (k+1) t) (k+1) (jc ((k_ (k+1)).map λ j:Nat=>(j:Int)+1)):=by
    have h1:=oS bG.o.1 (w':=bM.setCell ⟨a.heap.size,1,none⟩ (.slice q (k+1) t)) (λ b f=>q_ _ _ _ _ (by show b≠a.heap.size;have:=(bG.o.1.lt b f).1;omega));rw[List.range_succ,List.map_append];exact h1
   have cr:Below a.heap.size a (bM.setCell ⟨a.heap.size,1,none⟩ (.slice q (k+1) t)):=by
    refine Below.setCell (p:=⟨a.heap.size,1,none⟩) ?_ (n_ _) _;exact s5 (Y.o.2.2.2.alloc Y.o.2.2.2.size (.cells #[.int .i64 ((k:Int)+1)] 3)) bG.o.2.1 (by have:=cp.o;simp;omega) (λ g e=>by have:=(bE.o.lt g e).1;show a.heap.size<=g;omega)
   have ct:=bF.o.set 1 (.slice q (k+1) t);have Z:=U (z_ an (z_ cr ct));clear an cr ct cq c7
   go_wp2_with fail
   go_roundw
   case rel=>exact⟨k+1,q,t,by go_num,by have:=cn.o;omega,Z.o.2.2,Z.o.1,Z.o.2.1⟩
   case measure=>have:=cn.o;simp[intOf];omega
  ·have bC:¬(k:Int)+1<=(n:Int):=by omega
   have d1:decide ((k:Int)+1<=(n:Int))=false:=decide_eq_false bC;obtain rfl:k=n:=by have:=Y.o.1;omega
   clear ab;have aP:wr.cell? ⟨G,8,none⟩=some (.slice y n6 z):=by have:=((Y.o.2.2.2.cell (p:=⟨G,8,none⟩) az.o.1).trans (l.o.1.e.kJ (k:=8) (v:=(I 6).v) rfl));rw[a'.o] at this;exact this
   have dP:∀(fn:Fn)(first cap:Array Value)(w:World),(Instr.makeFunc fn first cap).run u_ w=.ok (.func fn first cap) w:=λ _ _ _ _=>rfl
   have c9:iY.act.length=k+1:=l.o.2.1.rg.lg;have cu:=U (Ns (act:=iY.act) (by omega) Y.o.2.2.1 c1 aP (by have:=l.o.1.e.n6;rw[a'.o] at this;show n6=_;have B:n6=iY.act.length:=this;omega) (by
    obtain⟨bH,bg,dQ,dR⟩:=l.o.1.e.lV 8 6 rfl l.o.1.e.n6 (by omega);have h1:(I 6).A=some ⟨bH,0,none⟩:=(l.o.1.e.rows.form bg).1;rw[a'.o] at h1;refine⟨bH,h1,by have:=(l.o.1.e.rows.lt bg).2;omega,λ v dS=>?_⟩;exact(Y.o.2.2.2.cell (p:=⟨bH,v,none⟩) (l.o.1.e.rows.lt bg).2).trans (l.o.1.e.yz bg (by omega))) (by have:=az.o;omega) (by have:=az.o;omega) (by have:=Y.o.2.1.lt;omega))
   clear aP c9
   go_upto_region 8 with(go_at_call 157;refine cu.o.mono ?_;rintro e H ⟨rfl,cv,cw⟩;dsimp only)
   have cx:aT H a.heap.size 44 [.slice y n6 z,.slice C k D,.int .i64 iY.bt]:=by
    have ab:=Y.o.2.1.lt;exact(cw.block a.heap.size (by omega)).trans Y.o.2.1
   have bI:Below a.heap.size a H:=Y.o.2.2.2.trans (cw.mono (by omega));have Z:=U (z_ cv (z_ cx bI));have gU:=(bI.block (aH+1) (M.o.2.1.lt)).trans M.o.2.1;have bK:bJ (aT H (aH+1) 47 [.int .i64 qt,(.slice qu qv qw),mR,s7,s8,.int .i64 s6,mj,sG]):=U gU;clear cv cx bI gU cu cm c5;have s2:=bK.o.cell 2;have cy:=bK.o.free 2;simp only[x_,y_] at s2
   go_upto_region 9 with fail
   have cz:=(l.o.1.below Z.o.2.2).1;have ad:=cz.uR (g:=aH+1) l.o.2.2.2.2.2.2.2.2.2.1 2 (.slice none 0 0);have da:(H.setCell ⟨aH+1,2,none⟩ (.slice none 0 0)).heap.size=H.heap.size:=by simp
   have cA:aT (H.setCell ⟨aH+1,2,none⟩ (.slice none 0 0)) (aH+1) 47 [.int .i64 qt,(.slice qu qv qw),.slice none 0 0,s7,s8,.int .i64 s6,mj,sG]:=bK.o.set 2 _;have cB:(H.setCell ⟨aH+1,2,none⟩ (.slice none 0 0)).ownsRow (a.heap.size+1) 3 1 (.slice C k D) k (jc ((qs iY.act (oy k)).map (·.1))):=oS Z.o.1 (λ b f=>q_ _ _ _ _ (by show b≠aH+1;have:=(Z.o.1.lt b f).1;have:=M.o.2.1.lt;omega));have cC:aT (H.setCell ⟨aH+1,2,none⟩ (.slice none 0 0)) a.heap.size 44 [.slice y n6 z,.slice C k D,.int .i64 iY.bt]:=Z.o.2.1.kept (k8 H (aH+1) 2 (.slice none 0 0)) (λ e=>by injection e with e;have:=M.o.2.1.lt;omega);have cD:aT (H.setCell ⟨aH+1,2,none⟩ (.slice none 0 0)) aH 115 [.pointer (some ⟨G,0,none⟩)]:=aT.kept (show aT H aH 115 _ from(Z.o.2.2.block aH az.o.2).trans M.o.1) (k8 H (aH+1) 2 (.slice none 0 0)) (λ e=>by injection e with e;omega);have cE:aT (H.setCell ⟨aH+1,2,none⟩ (.slice none 0 0)) (aH+1+1) 47 [.int .i64 0,.slice none 0 0,.slice none 0 0,.slice none 0 0,.slice none 0 0,.int .i64 0,.slice none 0 0,.slice none 0 0]:=aT.kept (show aT H (aH+1+1) 47 _ from(Z.o.2.2.block (aH+1+1) M.o.2.2.lt).trans M.o.2.2) (k8 H (aH+1) 2 (.slice none 0 0)) (λ e=>by injection e with e;omega);have ad:=U ad;have db:bJ (aG K a (H.setCell ⟨aH+1,2,none⟩ (.slice none 0 0))):=U (by
    have aQ:=ar.o.s.lt;have hw:Below a.heap.size a (H.setCell ⟨aH+1,2,none⟩ (.slice none 0 0))->True:=λ _=>trivial
    refine(aG.q4 Z.o.2.2 (λ b f=>l.o.1.s.lt b (l.o.2.2.2.2.2.2.2.1 b f))).trans (aG.set (aH+1) 2 _ (λ hk=>by have:=aQ _ hk;omega)))
   have J:=U (z_ cA (z_ cB (z_ cC (z_ cD cE))));clear cz cA cB cC cD cE da s2 cy;generalize H.setCell ⟨aH+1,2,none⟩ (.slice none 0 0)=V at*;have dT:V.cell? ⟨aH,0,none⟩=some (.pointer (some ⟨G,0,none⟩)):=J.o.2.2.2.1.cell 0;obtain⟨cF,n10,dc,bj⟩:∃A n c,I 10=⟨A,n,c⟩:=⟨_,_,_,rfl⟩
   have dU:V.cell? ⟨G,13,none⟩=some (.slice cF n10 dc):=by have:=ad.o.e.kJ (k:=13) (v:=(I 10).v) rfl;rw[bj] at this;exact this
   have cG:n10=iY.aM.length:=by have:=ad.o.e.n10;rw[bj] at this;exact this
   have aC:=U (z_ bj cG);clear bj cG c1 aa
   go_wp2_with fail
   have dV:iY.aM.length<=60000:=by
    have h1:=l.o.2.1.nt;have B:3^k<=3^10:=Nat.pow_le_pow_right (by omega) cX;have ao:(3:Nat)^10=59049:=by decide
    omega
   go_loopw [44] (λ i W=>∃(j:Nat)(A:Option Addr)(c:Nat)(es:List mM),i=.int .i64 (j:Int)/\j<=n10/\Hr iY V W (aH+1) (.int .i64 qt) (.slice qu qv qw) s7 s8 (.int .i64 s6) mj sG A j c es) (λ i _=>n10-(intOf i).toNat)
   case atStart=>exact⟨0,none,0,[],rfl,Zm _,⟨J.o.1,Zw _ _ _ _,rfl,aG.refl,λ e h=>by(cases h),λ e h=>by(cases h),λ i h=>by(simp at h)⟩⟩
   case round=>
    obtain⟨j,A,c,es,rfl,dW,bL⟩:=hrel;have m:=U bL;have af:=U (ad.o.still (P:=λ b=>b=aH+1) bL.jr (λ b e=>by rw[e];exact l.o.2.2.2.2.2.2.2.2.2.1));clear bL
    by_cases ab:j<n10
    ·have dd:(j:Int)<(n10:Int):=by omega
     have bN:j<iY.aM.length:=by rw[<-aC.o.2];exact ab
     obtain⟨d,O⟩:∃d,gZ iY.aM j=d:=⟨_,rfl⟩
     have bk:d<iY.c.cl.length:=by rw[<-O];exact l.o.2.1.rg.k4 _ (F4 bN)
     obtain⟨g10,bl,cH⟩:=af.o.e.rows.addr (r:=10) (by rw[aC.o.1];show n10≠0;omega);rw[aC.o.1] at bl;have bl:cF=some ⟨g10,0,none⟩:=bl;subst bl;have cl:=af.o.e.F3 cH bN;rw[O] at cl;obtain⟨aa,de,cI,cJ,df⟩:=af.o.zR bk;obtain⟨aR,aD,aS,aU⟩:∃A n c,I (kI d)=⟨A,n,c⟩:=⟨_,_,_,rfl⟩
     rw[aU] at aa;replace aa:wr.cell? ⟨cb d,0,none⟩=some (.slice aR aD aS):=aa;have cK:aL wr aR aD aS (ay iY.c.cl d):=by
      have h1:=af.o.e.rows.row (kI d);have B:=af.o.e.zW d;rw[aU,Dk,Bp,xP] at h1;rw[aU] at B;have ao:=(l.o.2.1.gR.jN.mF d bk).len;rw[l.o.2.1.rg.iX] at ao;have B:aD=(ay iY.c.cl d).length:=B;exact aL.kW h1 (by omega)
     obtain⟨bh,bO⟩:∃x,(lG iY d).bh=x:=⟨_,rfl⟩
     obtain⟨ac,bP⟩:∃x,(lG iY d).ac=x:=⟨_,rfl⟩
     rw[bO] at cI;rw[bP] at cJ;have s2:=m.o.gU.cell 2;have cy:=m.o.gU.free 2;simp only[x_,y_] at s2;have dX:Zh.wrap ((j:Int)+1)=(j:Int)+1:=by rw[Zr];omega
     have aV:=U (z_ ab (z_ O (z_ bO (z_ bP bk))));have dh:bJ (Hl wr V.heap.size (aH+1) A j c es (cb d) aR aD aS (ay iY.c.cl d) bh ac):=U (by
      have cL:=m.o.jr.size;have dY:=J.o.1.lt;have dZ:=(ad.o.e.cls d bk).lt;have an:∀g,(h_ A j c).ownBlock=some g->V.heap.size<=g/\g<wr.heap.size:=λ g e=>m.o.row.lt g e
      refine⟨s2,by omega,λ e=>by have:=(an _ e.symm).1;omega,aa,cI,cJ,by omega,λ e=>by have:=(an _ e.symm).1;omega,cK,λ b e=>?_,λ g e=>(an g e).2,cL,by have:=aC.o.2;omega⟩;have h1:(I (kI d)).b=some b:=by rw[aU];exact e
      have B:=(ad.o.e.rows.lt h1).2;exact⟨by omega,λ bn=>by have:=(an _ bn.symm).1;omega⟩)
     have bQ:=U (Np wr V.heap.size (aH+1) A j c es (cb d) aR aD aS (ay iY.c.cl d) bh ac dh.o);clear ab bN O bO bP de df cK aU cH
     go_upto_region 12 with fail
     refine zY (rV Tryz.f100 12) 20 82 _ _ [(3,.pointer (some ⟨aH+1,0,none⟩)),(8,.pointer (some ⟨cb d,0,none⟩))] _ (GE wr V.heap.size (aH+1) A j c es (cb d) aR aD aS (ay iY.c.cl d) bh ac) _ _ 18 (by kernel_rfl) (by kernel_rfl) (by kernel_rfl) (by kernel_rfl) (by kernel_rfl) (by decide+kernel) (by decide+kernel) (by decide+kernel) (by decide+kernel) (by decide+kernel) rfl ⟨rfl,rfl,trivial⟩ (DS (GA wr _)) (mw m.o.row ((Zt _ _).drew)) bQ.o _ rfl ?_;intro vals L N ag di aW;obtain⟨aX,c2,q,t,f18,bR,cM,dj,dk⟩:∃aX c2 q t,vals 18=.slice q (j+1) t/\s4 wr L aX c2 (ay iY.c.cl d)/\L.ownsRow V.heap.size 74 3 (.slice q (j+1) t) (j+1) (pT (es++[B1 aX c2 (ay iY.c.cl d) bh ac]))/\((h_ q (j+1) t).ownBlock=(h_ A j c).ownBlock\/∀g,(h_ q (j+1) t).ownBlock=some g->wr.heap.size<=g)/\∀b,aX.map (·.block)=some b->(h_ q (j+1) t).ownBlock≠some b:=ag 18 (by omega) rfl;have f19:vals 19=.pointer (some ⟨aH+1,2,none⟩):=ag 19 (by omega) rfl;simp only[ot,Act.put,List.take,f18,f19] at aW;subst aW;have cL:=m.o.jr.size;have cN:=J.o.1.lt;have bo:=m.o.gU.kept N (λ e=>by have:=(m.o.row.lt (aH+1) e.symm).1;omega);have bS:=bo.cell 2;have f11:=bo.free 2;simp only[x_,y_] at bS;have cO:Hr iY V (L.setCell ⟨aH+1,2,none⟩ (.slice q (j+1) t)) (aH+1) (.int .i64 qt) (.slice qu qv qw) s7 s8 (.int .i64 s6) mj sG q (j+1) t (es++[B1 aX c2 (ay iY.c.cl d) bh ac]):=by
      have dm:∀b,V.heap.size<=b->b<wr.heap.size->(h_ A j c).ownBlock≠some b->(L.setCell ⟨aH+1,2,none⟩ (.slice q (j+1) t)).heap[b]? =wr.heap[b]? :=λ b h1 B ao=>(q_ _ _ _ _ (show b≠aH+1 by omega)).trans (N.block b B (λ e=>ao e.symm))
      have aA:wr.heap.size<=(L.setCell ⟨aH+1,2,none⟩ (.slice q (j+1) t)).heap.size:=Nat.le_trans N.size (k8 L (aH+1) 2 _).size;refine⟨bo.set 2 _,oS cM (λ b f=>q_ _ _ _ _ (show b≠aH+1 by have:=(cM.lt b f).1;omega)),by rw[e_,m.o.len];rfl,?_,λ e he=>?_,λ e he b f=>?_,λ i dn=>?_⟩
      ·refine(m.o.jr.trans ⟨N.os,N.tape,N.output,N.size,λ b f=>N.block b (by omega) (λ e=>by have:=(m.o.row.lt b e.symm).1;omega)⟩).trans (aG.set (aH+1) 2 _ (λ h=>h.2 rfl))
      ·rcases v_.1 he with h1|h1
       ·exact(m.o.rd e h1).yY aA (λ b f=>by have B:=m.o.ap e h1 b f;exact dm b B.1 B.2.1 B.2.2)
       ·rw[Zy.1 h1];exact bR.1.yY (k8 L (aH+1) 2 _).size (λ b f=>q_ _ _ _ _ (show b≠aH+1 by have:=(bR.2 b f).1;omega))
      ·rcases v_.1 he with h1|h1
       ·obtain⟨B,ao,bu⟩:=m.o.ap e h1 b f;refine⟨B,by omega,λ bn=>?_⟩;rcases dj with bT|bT
        ·exact bu (by rw[<-bT];exact bn)
        ·have:=bT b bn;omega
       ·rw[Zy.1 h1] at f;obtain⟨B,ao⟩:=bR.2 b f;exact⟨by omega,Nat.lt_of_lt_of_le ao (k8 L (aH+1) 2 _).size,dk b f⟩
      ·rcases p_ i es.length with h1|h1
       ·rw[Zq h1];exact m.o.sp i h1
       ·have B:i=es.length:=by rw[e_,List.length_singleton] at dn;omega
        subst B;rw[Zs (n_ _)];simp only[Nat.sub_self,List.getElem_cons_zero];have O:=aV.o.2.1;have hl:=m.o.len;unfold B2;rw[hl,O];exact⟨rfl,aV.o.2.2.1.symm,by show min ac 1099511627776=_;rw[aV.o.2.2.2.1];rfl⟩
     have dp:=U cO;clear cO bo N ag;simp only[bD,execOp];simp[gL,go_sem,Act.eval,Act.put,bS,f11];clear bS f11
     go_wp2_with fail
     go_roundw
     case rel=>exact⟨j+1,q,t,_,by go_num,by have:=aV.o.1;omega,dp.o⟩
     case measure=>have:=aV.o.1;simp[intOf];omega
    ·have dd:¬(j:Int)<(n10:Int):=by omega
     obtain rfl:j=n10:=by omega
     clear ab
     go_upto_region 14 with fail
     have aZ:wr.cell? ⟨G,12,none⟩=some (I 9).v:=af.o.e.kJ (k:=12) (v:=(I 9).v) rfl;have bU:wr.cell? ⟨G,14,none⟩=some (oE I iY):=af.o.e.kJ (k:=14) (v:=oE I iY) rfl;obtain⟨q,jU,t,bV⟩:∃A n c,I 9=⟨A,n,c⟩:=⟨_,_,_,rfl⟩
     obtain⟨Q,R,T,bW⟩:∃A n c,oE I iY=.slice A n c:=by
      unfold oE
      cases iY.jB with
      |none=>exact⟨_,_,_,rfl⟩
      |some h=>exact⟨_,_,_,rfl⟩
     rw[bV] at aZ;rw[bW] at bU;replace aZ:wr.cell? ⟨G,12,none⟩=some (.slice q jU t):=aZ;have cN:=J.o.1.lt;have cP:=J.o.2.2.1.lt;have cQ:=J.o.2.2.2.1.lt;have bX:a.heap.size≠aH+1:=by have:=M.o.2.1.lt;omega
     have a6:aT wr a.heap.size 44 [.slice y n6 z,.slice C k D,.int .i64 iY.bt]:=m.o.jr.blk J.o.2.2.1 ⟨cP,bX⟩;have cR:aT wr aH 115 [.pointer (some ⟨G,0,none⟩)]:=m.o.jr.blk J.o.2.2.2.1 ⟨cQ,by omega⟩;have cS:aT wr (aH+1+1) 47 [.int .i64 0,.slice none 0 0,.slice none 0 0,.slice none 0 0,.slice none 0 0,.int .i64 0,.slice none 0 0,.slice none 0 0]:=m.o.jr.blk J.o.2.2.2.2 ⟨J.o.2.2.2.2.lt,by omega⟩;have dq:G≠aH+1:=λ e=>ad.o.s.g (by rw[e];exact l.o.2.2.2.2.2.2.2.2.2.1)
     have dr:bJ (Ho wr G aH (aH+1) a.heap.size (.int .i64 qt) (.slice qu qv qw) (.slice A j c) s7 s8 (.int .i64 s6) mj sG y n6 z C k D iY.bt q jU t Q R T):=U (by
      have aA:=m.o.jr.size;exact⟨a6.cell 0,a6.cell 1,a6.cell 2,⟨by omega,bX⟩,cR.cell 0,⟨by omega,by omega⟩,aZ,bU,⟨Nat.lt_of_lt_of_le ad.o.e.box.lt aA,dq⟩⟩)
     have bQ:=U (Nq wr G aH (aH+1) a.heap.size (.int .i64 qt) (.slice qu qv qw) (.slice A j c) s7 s8 (.int .i64 s6) mj sG y n6 z C k D iY.bt q jU t Q R T dr.o);have bY:=U (z_ bV (z_ bW (z_ a6 (z_ cS bX))));clear bV bW a6 cR cS cN cP cQ aZ bU;refine zY (rV Tryz.f100 14) 14 82 _ _ [(5,.pointer (some ⟨a.heap.size,0,none⟩)),(2,.pointer (some ⟨aH,0,none⟩)),(3,.pointer (some ⟨aH+1,0,none⟩))] _ (x3 wr G aH (aH+1) a.heap.size (.int .i64 qt) (.slice qu qv qw) (.slice A j c) s7 s8 (.int .i64 s6) mj sG y n6 z C k D iY.bt q jU t Q R T) Hq _ 10 (by kernel_rfl) (by kernel_rfl) (by kernel_rfl) (by kernel_rfl) (by kernel_rfl) (by decide+kernel) (by decide+kernel) (by decide+kernel) (by decide+kernel) (by decide+kernel) rfl ⟨rfl,rfl,rfl,trivial⟩ (DS (GA wr _)) ⟨mj,m.o.gU⟩ bQ.o _ rfl ?_;intro vals L N ag di aW;have f12:aT L (aH+1) 47 [.int .i64 qt,(.slice qu qv qw),.slice A j c,.slice y n6 z,.slice C k D,.int .i64 iY.bt,.slice q jU t,sG]:=ag 12 (by omega) rfl;have f13:vals 13=.pointer (some ⟨aH+1,7,none⟩):=ag 13 (by omega) rfl;have f8:vals 8=.slice Q R T:=ag 8 (by omega) rfl;simp only[ot,Act.put,List.take,f13,f8] at aW;subst aW;have bZ:=f12.cell 7;have cT:=f12.free 7;simp only[x_,y_] at bZ;have ai:=U (f12.set 7 (.slice Q R T));have X:bJ (aT (L.setCell ⟨aH+1,7,none⟩ (.slice Q R T)) (aH+1+1) 47 [.int .i64 0,.slice none 0 0,.slice none 0 0,.slice none 0 0,.slice none 0 0,.int .i64 0,.slice none 0 0,.slice none 0 0]):=U ((bY.o.2.2.2.1.kept N (λ e=>by injection e with e;omega)).kept (k8 L (aH+1) 7 (.slice Q R T)) (λ e=>by injection e with e;omega));have a7:bJ (wr.grownBy (L.setCell ⟨aH+1,7,none⟩ (.slice Q R T)) (some (aH+1))):=U (wZ N (k8 L (aH+1) 7 _));simp only[bD,execOp];simp[gL,go_sem,Act.eval,Act.put,bZ,cT];clear bZ cT f12 N ag;generalize L.setCell ⟨aH+1,7,none⟩ (.slice Q R T)=cU at*;have dt:=ai.o.cell 0;have du:=ai.o.cell 1;have dv:=ai.o.cell 2;have dw:=ai.o.cell 3;have dx:=ai.o.cell 4;have dy:=ai.o.cell 5;have dz:=ai.o.cell 6;have dA:=ai.o.cell 7;have dB:=X.o.cell 0;have dC:=X.o.cell 1;have dD:=X.o.cell 2;have dE:=X.o.cell 3;have dF:=X.o.cell 4;have dG:=X.o.cell 5;have dH:=X.o.cell 6;have dI:=X.o.cell 7;have aj:=X.o.free;have d':=aj 0;have ea:=aj 1;have eb:=aj 2;have ec:=aj 3;have ed:=aj 4;have ee:=aj 5;have ef:=aj 6;have eg:=aj 7;simp only[List.set_cons_succ,List.set_cons_zero,x_,y_] at dt du dv dw dx dy dz dA dB dC dD dE dF dG dH dI
     go_wp2_with fail
     have dJ:=(((((((X.o.set 0 (.int .i64 qt)).set 1 (.slice qu qv qw)).set 2 (.slice A j c)).set 3 (.slice y n6 z)).set 4 (.slice C k D)).set 5 (.int .i64 iY.bt)).set 6 (.slice q jU t)).set 7 (.slice Q R T);have cV:aG (λ b=>b<wr.heap.size/\¬(b=aH+1\/b=aH+1+1)) wr cU:=⟨a7.o.os,a7.o.tape,a7.o.output,a7.o.size,λ b f=>a7.o.block b f.1 (λ e=>by injection e with e;exact f.2 (.inl e))⟩
     have ae:∀(u:World)(i:Nat)(v:Value),aG (λ b=>b<wr.heap.size/\¬(b=aH+1\/b=aH+1+1)) u (u.setCell ⟨aH+1+1,i,none⟩ v):=λ u i v=>aG.set (aH+1+1) i v (λ h=>h.2 (.inr rfl))
     have aE:=(((((((cV.trans (ae cU 0 (.int .i64 qt))).trans (ae _ 1 (.slice qu qv qw))).trans (ae _ 2 (.slice A j c))).trans (ae _ 3 (.slice y n6 z))).trans (ae _ 4 (.slice C k D))).trans (ae _ 5 (.int .i64 iY.bt))).trans (ae _ 6 (.slice q jU t))).trans (ae _ 7 (.slice Q R T));clear cV ae;refine bodyPost_ret (results_cell_row (p:=4) (ty:=47) rfl _ _ (aH+1+1) 47 #[.int .i64 qt,.slice qu qv qw,.slice A j c,.slice y n6 z,.slice C k D,.int .i64 iY.bt,.slice q jU t,.slice Q R T] (0,0) _ rfl dJ Tryz.underlying47 rfl (by kernel_rfl)) rfl ?_;have dK:w.heap.size=aH:=b5;have eh:=m.o.jr.size;have ei:=J.o.1.lt;have ej:=J.o.2.2.2.2.lt;have hlen:=m.o.len;subst hlen;have dL:(I 6).v=.slice y n6 z:=by rw[a'.o];rfl
     have dM:(I 9).v=.slice q jU t:=by rw[bY.o.1];rfl
     have cW:wr.ownsRow (a.heap.size+1) 3 1 (.slice C k D) k (jc ((qs iY.act (oy k)).map (·.1))):=oS J.o.2.1 (λ b f=>by
      have h1:=J.o.2.1.lt b f;have B:=M.o.2.1.lt;exact m.o.jr.keep b ⟨h1.2,by omega⟩)
     refine⟨ak,I,iY,bu,A,c,es,C,D,by rw[dL,dM,bY.o.2.1],l.o.2.2.2.2.2.2.2.1,af.o.still (P:=λ b=>b=aH+1\/b=aH+1+1) aE (λ b f=>?_),?_,l.o.2.1,l.o.2.2.2.1,l.o.2.2.2.2.1,l.o.2.2.2.2.2.1,l.o.2.2.2.2.2.2.1,sF.kW (oS m.o.row (λ b f=>?_)) (by have:=aC.o.2;omega) (λ e he=>?_),by rw[<-aC.o.2],m.o.sp,aL.kW (oS cW (λ b f=>?_)) (by omega),⟨λ b e=>?_,λ e he b f=>?_,λ b e=>?_⟩⟩
     ·rcases f with f|f
      ·rw[f];exact l.o.2.2.2.2.2.2.2.2.2.1
      ·rw[f];exact l.o.2.2.2.2.2.2.2.2.2.2
     ·have aQ:=ar.o.s.lt;have f1:aG K w b3:=aG.q4 (by rw[dK];exact aN.o.2.2.2) aQ;refine(((f1.trans (aw.o.mono l.o.2.2.2.2.2.2.2.1)).trans db.o).trans (m.o.jr.mono λ b f=>?_)).trans (aE.mono λ b f=>?_)
      ·have:=aQ b f;exact⟨by omega,by omega⟩
      ·have:=aQ b f;exact⟨by omega,by omega⟩
     ·have h1:=m.o.row.lt b f;exact aE.keep b ⟨h1.2,by omega⟩
     ·refine(m.o.rd e he).yY aE.size (λ b f=>?_);have h1:=m.o.ap e he b f;exact aE.keep b ⟨h1.2.1,by omega⟩
     ·have h1:=J.o.2.1.lt b f;have B:=M.o.2.2.lt;exact aE.keep b ⟨by omega,by omega⟩
     ·have h1:=(m.o.row.lt b ((ax.own ⟨A,es.length,c⟩).trans e)).1;omega
     ·have h1:=(m.o.ap e he b f).1;omega
     ·have h1:=(cW.lt b ((ax.own ⟨C,k,D⟩).trans e)).1;have B:=M.o.2.1.lt;omega
end
section
open Go.RowKit
def DY(n:Nat)(a:Option Addr)(b d:Nat)(e:Option Addr)(nl cl:Nat)(A:Option Addr)(f c:Nat)(A':Option Addr)(g c':Nat)(h:Int)(i:Option Addr)(j k:Nat)(l:Option Addr)(m o:Nat):Value:=
 .agg #[.int .i64 n,.slice a b d,.slice e nl cl,.slice A f c,.slice A' g c',.int .i64 h,.slice i j k,.slice l m o]
def s9(n:Nat):List Bool:=List.replicate n false
theorem kE.nv{ai:List Bool}(h:kE w A n c ai)(v:Value){p:Addr}(a:∀b off,A=some ⟨b,off,none⟩->b≠p.block):kE (w.setCell p v) A n c ai:=by
 refine⟨h.len,h.cap,h.mu,h.nT,λ d=>?_⟩;obtain⟨b,off,e,f,g⟩:=h.cells d;exact⟨b,off,e,by simpa[World.setCell] using f,λ j i=>(Zj (q_ _ _ _ _ (a b off e))).trans (g j i)⟩
theorem Nu(k:Nat):(madeCells (j_ false).cells k).toList=(s9 k).map j_:=by
 show(madeCells #[j_ false] k).toList=_;rw[toList_madeCells_one];simp[s9]
theorem Nv(k:Nat):(s9 k).length=k:=by simp[s9]
theorem Nw(n:Nat)(w:World)(h:n<=65536):
  Calls u_ 42 #[.int .i64 n] w λ e w'=>∃(A:Option Addr)(c:Nat)(A':Option Addr)(c':Nat)(t:Option Addr)(x:Nat),e=.returned (.tuple #[DY n none 0 0 none 0 0 A (n+1) c A' n c' 1 t (n+1) x none 0 0,.int .i64 0])/\
   aL w' A (n+1) c (si (n+1))/\aL w' A' n c' (rm n)/\kE w' t (n+1) x (s9 (n+1))/\Below w.heap.size w w':=by
 have Y:bJ (∀W:World,Calls u_ 104 #[.int .i64 n] W (Fa (si (n+1)) (rm n) 1 W)):=U λ W=>JA n W h
 obtain⟨i0,y,z,B,C⟩:=info_parts Ak;have Z:∀W:World,(Instr.makeSlice 28 (.int .i64 ((n:Int)+1)) (.int .i64 ((n:Int)+1))).run u_ W=.ok (.slice (some ⟨W.heap.size,0,none⟩) (n+1) (n+1)) (W.alloc (.cells (madeCells (j_ false).cells (n+1)) 4)):=λ W=>by
  have:=run_make (P:=u_) W 28 4 i0 (.bool false) Zv y z .i64 .i64 ((n:Int)+1) ((n:Int)+1) (by omega) (by omega) (by rw[C];omega) (by omega);rw[B,show((n:Int)+1).toNat=n+1 by omega,Nat.mul_one] at this;exact this
 have wn:Zh.wrap ((n:Int)+1)=(n:Int)+1:=by rw[Zr];omega
 clear y z B C;generalize D:madeCells (j_ false).cells (n+1)=cs at Z;have E:=U D;clear D;go_enter Tryz.func42,Tryz.ntmps42
 go_upto_region 1 with fail
 have F:aT (w.alloc (.cells #[.int .i64 0,.slice none 0 0,.slice none 0 0,.slice none 0 0,.slice none 0 0,.int .i64 0,.slice none 0 0,.slice none 0 0] 47)) w.heap.size 47 [.int .i64 0,.slice none 0 0,.slice none 0 0,.slice none 0 0,.slice none 0 0,.int .i64 0,.slice none 0 0,.slice none 0 0]:=aT.new w 47 _;have G:=bz w (.cells #[.int .i64 0,.slice none 0 0,.slice none 0 0,.slice none 0 0,.slice none 0 0,.int .i64 0,.slice none 0 0,.slice none 0 0] 47);have z0:(w.alloc (.cells #[.int .i64 0,.slice none 0 0,.slice none 0 0,.slice none 0 0,.slice none 0 0,.int .i64 0,.slice none 0 0,.slice none 0 0] 47)).heap.size=w.heap.size+1:=by simp
 generalize w.alloc (.cells #[.int .i64 0,.slice none 0 0,.slice none 0 0,.slice none 0 0,.slice none 0 0,.int .i64 0,.slice none 0 0,.slice none 0 0] 47)=w0 at*;have aa:=U G;clear G
 go_upto_region 4 with(go_at_call 104;refine(Y.o _).mono ?_;rintro e w1 ⟨A,c,A',c',rfl,h1,r,H,I,J⟩;have ab:=U H;have ad:=U I;clear H I;rw[v8] at h1;rw[v7] at r;simp only[v8,v7];have p:=U J;have H1:=U h1;have ae:=U r;clear J h1 r)
 have s:=(F.below p.o).below (bz w1 (.cells #[.slice A (n+1) c,.slice A' n c',.int .i64 1] 44));have K:=(aa.o.trans (p.o.mono (by omega))).trans ((bz w1 (.cells #[.slice A (n+1) c,.slice A' n c',.int .i64 1] 44)).mono (by have:=p.o.size;omega));have m:aT (w1.alloc (.cells #[.slice A (n+1) c,.slice A' n c',.int .i64 1] 44)) w1.heap.size 44 [.slice A (n+1) c,.slice A' n c',.int .i64 1]:=aT.new w1 44 _;have af:=U (H1.o.below (bz w1 (.cells #[.slice A (n+1) c,.slice A' n c',.int .i64 1] 44)));have ag:=U (ae.o.below (bz w1 (.cells #[.slice A (n+1) c,.slice A' n c',.int .i64 1] 44)));have aw:=p.o.size;generalize ax:w1.heap.size=ay at*;generalize w1.alloc (.cells #[.slice A (n+1) c,.slice A' n c',.int .i64 1] 44)=d at*;have L:=U K;clear K;have ah:=m.cell 0;have ai:=m.cell 1;have aj:=m.cell 2;have q:=m.below (bz d (.cells cs 4));have z0:=q.cell 0;have ak:=q.cell 1;have z2:=q.cell 2;simp only[x_,y_] at ah ai aj z0 ak z2;clear q;have az:=U m;clear m;have a:=s.below (bz d (.cells cs 4));have M:=a.cell 0;have N:=a.cell 1;have O:=a.cell 2;have Q:=a.cell 3;have R:=a.cell 4;have S:=a.cell 5;have T:=a.cell 6;have V:=a.cell 7;have f:=a.free;have f0:=f 0;have f1:=f 1;have f2:=f 2;have f3:=f 3;have f4:=f 4;have f5:=f 5;have f6:=f 6;have f7:=f 7;have al:=U s;have aA:=U a;clear s F a f;simp only[x_,y_] at M N O Q R S T V;rename_i an X;have ao:=U X;clear X;refine wp_region_noPanic ?_
 go_region_law (fail)
 all_goals
  show an _ _;apply ao.o
  go_wp2_with fail
  have g:∀b off,A=some ⟨b,off,none⟩->b≠w.heap.size:=λ b off e=>by have:=ab.o b off e;omega
  have j:∀b off,A'=some ⟨b,off,none⟩->b≠w.heap.size:=λ b off e=>by have:=ad.o b off e;omega
  have aq:w.heap.size<=d.heap.size:=L.o.size;have aB:=al.o.lt;have k:∀b off,(some ⟨d.heap.size,0,none⟩:Option Addr)=some ⟨b,off,none⟩->b≠w.heap.size:=λ b off e=>by cases e;omega
  have ar:kE (d.alloc (.cells cs 4)) (some ⟨d.heap.size,0,none⟩) (n+1) (n+1) (s9 (n+1)):=by
   have au:(s9 (n+1)).map j_=cs.toList:=by rw[<-E.o,Nu]
   have av:cs.size=n+1:=by rw[<-E.o,size_madeCells]
   exact kE.kW (base:=0) ⟨by simp[Nv],Or.inr ⟨_,_,cs,rfl,Zm _,heap_alloc_new _ _,n_ _,by unfold maxLen;omega,by omega,by rw[au,Zl (by simp[av])]⟩⟩ (by omega)
  have l:∀(u:World)(i:Nat)(v:Value),Below w.heap.size w u->Below w.heap.size w (u.setCell ⟨w.heap.size,i,none⟩ v):=λ u i v hu=>hu.setCell (n_ _) _
  refine bodyPost_ret (v:=.tuple #[DY n none 0 0 none 0 0 A (n+1) c A' n c' 1 (some ⟨d.heap.size,0,none⟩) (n+1) (n+1) none 0 0,.int .i64 0]) (by simp[results,Tryz.results42,go_sem,Act.put,DY,M,N,O,Q,R,S,T,V]) rfl ⟨A,c,A',c',_,_,rfl,?_,?_,?_,?_⟩
  ·exact(((((((((af.o.below (bz d (.cells cs 4))).nv _ g).nv _ g).nv _ g).nv _ g).nv _ g).nv _ g).nv _ g).nv _ g).drew
  ·exact(((((((((ag.o.below (bz d (.cells cs 4))).nv _ j).nv _ j).nv _ j).nv _ j).nv _ j).nv _ j).nv _ j).nv _ j).drew
  ·exact((((((((((ar).nv _ k).nv _ k).nv _ k).nv _ k).nv _ k).nv _ k).nv _ k).nv _ k)).below ((Zt _ _).drew)
  ·exact(l _ _ _ (l _ _ _ (l _ _ _ (l _ _ _ (l _ _ _ (l _ _ _ (l _ _ _ (l _ _ _ (L.o.trans ((bz d (.cells cs 4)).mono aq)))))))))).drew
end
section
open Go.RowKit Go.Sort Go.Lib
theorem Nx(l:List Int)(k:Nat):je l k=aj l k:=rfl
theorem An{a b:Int}:vu act a b<0↔aj act b.toNat<aj act a.toNat\/(aj act b.toNat=aj act a.toNat/\a<b):=by
 have f:vu act a b=rN (og (aj act b.toNat) (aj act a.toNat)) (og a b):=rfl;rw[f];rcases DT (aj act b.toNat) (aj act a.toNat) with⟨h,e⟩|⟨h,e⟩|⟨h,e⟩<;>rw[e]
 ·simp[rN];omega
 ·rcases DT a b with⟨d,c⟩|⟨d,c⟩|⟨d,c⟩<;>rw[c]<;>simp[rN]<;>omega
 ·simp[rN];omega
theorem B3:tO act l=true↔∀i,i<l.length->(0<aj l i/\aj l i<act.length)/\(i=0\/vu act (aj l (i-1)) (aj l i)<0):=by
 unfold tO th;rw[s_];constructor
 ·intro h i a;have:=h i (d_.2 a);rw[r_,Zo,AT,decide_eq_true_eq,decide_eq_true_eq] at this;exact this
 ·intro h i a;rw[r_,Zo,AT,decide_eq_true_eq,decide_eq_true_eq];exact h i (d_.1 a)
theorem DZ{act l:List Int}(h:tO act l=true)(i:Nat):∀j,i<j->j<l.length->vu act (aj l i) (aj l j)<0
 |0,h1,_=>by omega
 |j+1,h1,c=>by
  have a:=(B3.1 h (j+1) c).2;rw[show j+1-1=j by omega] at a;rcases a with a|a
  ·omega
  ·rcases p_ i j with b|b
   ·have d:=DZ h i j b (by omega);rw[An] at*;omega
   ·obtain rfl:i=j:=by omega
    exact a
theorem Ht(h:tO act l=true){i j:Nat}(a:i<l.length)(b:j<l.length)(e:aj l i=aj l j):i=j:=by
 rcases Nat.lt_trichotomy i j with h1|h1|h1
 ·have:=DZ h i j h1 b;rw[An,e] at this;omega
 ·exact h1
 ·have:=DZ h j i h1 a;rw[An,e] at this;omega
theorem Hu:∀(n:Nat)(f:Nat->Nat),(∀i,i<n->f i<n)->(∀i j,i<n->j<n->f i=f j->i=j)->∀v,v<n->∃i,i<n/\f i=v
 |0,f,_,_,v,g=>by omega
 |n+1,f,h1,a,v,g=>by
  have hm:=h1 n (by omega);have c:=Hu n (λ i=>if f i=n then f n else f i) (λ i b=>by
   show(if f i=n then f n else f i)<n;split
   ·rename_i e;have:f n≠n:=λ d=>by have:=a i n (by omega) (by omega) (by omega);omega
    omega
   ·have:=h1 i (by omega);omega) (λ i j b k e=>by
   have e:(if f i=n then f n else f i)=(if f j=n then f n else f j):=e;refine a i j (by omega) (by omega) ?_;split at e<;>split at e
   ·omega
   ·have:=a n j (by omega) (by omega) e;omega
   ·have:=a i n (by omega) (by omega) e;omega
   ·exact e)
  by_cases h:v=n
  ·subst h
   by_cases e:f v=v
   ·exact⟨v,by omega,e⟩
   ·obtain⟨i,b,he⟩:=c (f v) (by omega);have he:(if f i=v then f v else f i)=f v:=he;split at he
    ·rename_i d;exact⟨i,by omega,d⟩
    ·have:=a i v (by omega) (by omega) he;omega
  ·obtain⟨i,b,he⟩:=c v (by omega);have he:(if f i=n then f n else f i)=v:=he;split at he
   ·exact⟨n,by omega,he⟩
   ·exact⟨i,by omega,he⟩
structure sH(n:Nat)(act l:List Int)(y:Int):Prop where
 lg:act.length=n+1
 ql:l.length=n
 a0:aj act 0=0
 qi:∀v,0<=aj act v/\aj act v<=jF
 gW:1<=y/\y<=jF
 k5:tO act l=true
 tB:n<=65536
theorem B4:mS x=false↔0<=x/\x<=jF:=by
 unfold mS jF;rw[Bool.or_eq_false_iff,decide_eq_false_iff_not,decide_eq_false_iff_not];omega
theorem sH.check(h:sH n act l y):tP act l y=true:=by
 have h1:act.any mS=false:=by
  rw[Zu];intro x a;obtain⟨k,hk,e⟩:=qf.1 a;have:=h.qi k;rw[e] at this;have:=B4.2 this;rw[this];simp
 have d:=h.lg;have b:u5 act=true:=by
  unfold u5;rw[h1,Nx,h.a0,h.lg];have:=h.tB;simp;omega
 have c:vZ y=true:=by
  unfold vZ;rw[B4.2 ⟨by have:=h.gW;omega,h.gW.2⟩];have:=h.gW;simp;omega
 unfold tP;rw[b,c,h.k5];rfl
theorem sH.tX(h:sH n act l y){i:Nat}(a:i<n):1<=aj l i/\aj l i<=n:=by
 have:=(B3.1 h.k5 i (by rw[h.ql];exact a)).1;rw[h.lg] at this;omega
theorem sH.new(n:Nat)(h:n<=65536):sH n (si (n+1)) (rm n) 1:=by
 have a:∀v,aj (si (n+1)) v=0:=zP _;refine⟨v8 _,v7 _,a 0,λ v=>by rw[a];unfold jF;omega,by unfold jF;omega,B3.2 λ i b=>?_,h⟩;rw[v7] at b;have hu:∀k,k<n->aj (rm n) k=(k:Int)+1:=λ k hk=>by
  rw[ng (by rw[v7];exact hk)];simp[rm]
 rw[hu i b,v8];refine⟨by omega,?_⟩;rcases f_ i with c|c
 ·exact .inl c
 ·right;rw[hu (i-1) (by omega),An,a,a];omega
theorem Ny(n:Nat):(oy n).Nodup:=by
 have h:((oy n).map (·.1)).Nodup:=by
  rw[DU];refine List.Pairwise.map _ (λ a b c=>?_) (List.nodup_range (n:=n));intro e;exact c (by omega)
 exact List.Pairwise.of_map (λ x:uT n=>x.1) (λ a b c e=>c (by rw[e])) h
theorem sH.sorted(g:act.length=n+1)(a0:aj act 0=0)(m:∀v,0<=aj act v/\aj act v<=jF)(o:1<=y/\y<=jF)(p:n<=65536):sH n act ((qs act (oy n)).map (·.1)) y:=by
 have hp:(qs act (oy n)).Perm (oy n):=List.mergeSort_perm _ _;have q:(qs act (oy n)).length=n:=by
  rw[hp.length_eq];unfold oy;simp
 have r:(qs act (oy n)).Nodup:=hp.nodup_iff.2 (Ny n);have s:(qs act (oy n)).Pairwise λ x y=>(!(ltOf (uu act)) y x)=true:=List.pairwise_mergeSort (λ a b c h1 d=>by
  rw[c_] at*;exact(BZ act n).ntrans _ _ _ d h1) (λ a b=>by
  rw[Zo,c_,c_]
  cases h:ltOf (uu act) b a with
  |false=>exact .inl rfl
  |true=>
   right
   cases d:ltOf (uu act) a b with
   |false=>rfl
   |true=>have:=(BZ act n).trans _ _ _ h d;have:=(BZ act n).irrefl b;simp_all) _
 refine⟨g,by rw[l_,q],a0,m,o,B3.2 λ i f=>?_,p⟩;rw[l_] at f;have j:∀k (hk:k<(qs act (oy n)).length),aj ((qs act (oy n)).map (·.1)) k=(qs act (oy n))[k].1:=λ k hk=>by
  rw[ng (by rw[l_];exact hk),List.getElem_map]
 rw[j i f,g];have t:=((qs act (oy n))[i]).2;refine⟨by omega,?_⟩;rcases f_ i with l|l
 ·exact .inl l
 ·right;rw[j (i-1) (by omega)];have h1:=g_.1 s (i-1) i (by omega) f (by omega);have d:=g_.1 r (i-1) i (by omega) f (by omega);rw[c_,Am,decide_eq_false_iff_not,Al] at h1;rw[An];have u:(qs act (oy n))[i-1].1≠(qs act (oy n))[i].1:=λ e=>d (Subtype.ext e)
  omega
def uv(n:Nat)(ord:List Int)(k:Nat):List Int:=(k_ k).foldl (λ p i=>p.set (aj ord i).toNat (i:Int)) (List.replicate (n+1) 0)
theorem B5(n:Nat)(ord:List Int)(k:Nat):uv n ord (k+1)=(uv n ord k).set (aj ord k).toNat (k:Int):=by
 unfold uv;rw[List.range_succ,List.foldl_append];rfl
theorem Ao(n:Nat)(ord:List Int):∀k,(uv n ord k).length=n+1
 |0=>by simp[uv]
 |k+1=>by rw[B5,List.length_set,Ao n ord k]
theorem D0(n:Nat)(ord:List Int):∀k v,0<=aj (uv n ord k) v
 |0,v=>by
  have:aj (uv n ord 0) v=0:=zP _ _;omega
 |k+1,v=>by
  rw[B5,oP];split
  ·omega
  ·exact D0 n ord k v
theorem D1{n:Nat}{act ord:List Int}{y:Int}(h:sH n act ord y):∀k,k<=n->∀i,i<k->aj (uv n ord k) (aj ord i).toNat=i
 |0,_,i,a=>by omega
 |k+1,hk,i,a=>by
  rw[B5,oP,Ao];have h1:=h.tX (i:=k) (by omega);have b:=h.tX (i:=i) (by omega)
  by_cases e:i=k
  ·subst e;rw[if_pos ⟨rfl,by omega⟩]
  ·rw[if_neg (λ c=>e (Ht h.k5 (by rw[h.ql];omega) (by rw[h.ql];omega) (by omega))),D1 h k (by omega) i (by omega)]
theorem sH.lP{ord:List Int}(h:sH n act ord y):me n ord (uv n ord n):=by
 have hl:=h.ql;refine⟨Ao _ _ _,λ i c=>?_,λ v h1 g k=>?_,λ v=>by have:=D0 n ord n v;omega⟩
 ·have:=h.tX (i:=i) (by omega);exact⟨this.1,this.2,D1 h n (n_ _) i (by omega)⟩
 ·obtain⟨i,c,e⟩:=Hu n (λ i=>(aj ord i).toNat-1) (λ i c=>by have:=h.tX c;show(aj ord i).toNat-1<n;omega) (λ i j c d e=>by
   have e:(aj ord i).toNat-1=(aj ord j).toNat-1:=e;have a:=h.tX c;have b:=h.tX d;exact Ht h.k5 (by omega) (by omega) (by omega)) (v-1) (by omega)
  have e:(aj ord i).toNat-1=v-1:=e;have a:=h.tX c;have f:(aj ord i).toNat=v:=by omega
  have:=D1 h n (n_ _) i c;rw[f] at this;rw[this];refine⟨by omega,?_⟩;rw[Int.toNat_natCast];omega
theorem Nz(h:sy l)(n:∀x∈l,x≠0)(s:r4 l=false):l.Nodup/\∀x∈l,¬-x∈l:=by
 have o:∀i j (c:i<l.length) (d:j<l.length),i<j->pS l[i] l[j]=true:=λ i j c d p=>g_.1 h i j c d p
 refine⟨h.imp λ{a b} t e=>by subst e;exact BL _ t,λ x q u=>?_⟩;obtain⟨i,c,k⟩:=i_.1 q;obtain⟨j,d,m⟩:=i_.1 u;have w:=n x q;have key:∀i j (c:i<l.length) (d:j<l.length),i<j->l[i]= -l[j]->False:=by
  intro i j c d p e;have v:j=i+1:=by
   rcases p_ (i+1) j with h1|h1
   ·exfalso;have f:=o i (i+1) c (by omega) (by omega);have g:=o (i+1) j (by omega) d h1;rw[wO] at f g;unfold rj at f g;have:=n _ (t_ c);split at f<;>split at f<;>split at g<;>split at g<;>omega
   ·omega
  subst v;have r:r4 l=true:=by
   unfold r4 uo;rw[b_];refine⟨i+1,d_.2 d,?_⟩;rw[show i+1-1=i by omega,oN c,oN d,r_,decide_eq_true_eq,beq_iff_eq];exact⟨by omega,e⟩
  rw[s] at r;cases r
 rcases Nat.lt_trichotomy i j with h1|h1|h1
 ·exact key i j c d h1 (by rw[k,m,Int.neg_neg])
 ·subst h1;rw[k] at m;omega
 ·exact key j i d c h1 (by rw[k,m])
theorem Hv(d:∀x∈l,x≠0)(a:r4 l=true):u9 l:=by
 unfold r4 uo at a;rw[b_] at a;obtain⟨i,b,h1⟩:=a;have b:=d_.1 b;rw[r_,decide_eq_true_eq,beq_iff_eq] at h1;have c:je l i∈l:=tN b;have e:je l (i-1)∈l:=tN (by omega);exact⟨je l i,c,d _ c,by rw[<-h1.2];exact e⟩
theorem gK.lT(h:gK n x)(a:n<=65536):lT x 65536=true:=by
 rw[vr];unfold gK aC at h;omega
theorem B6(a:n<=65536)(b:∀x∈g,gK n x)(x:Int):x∈k6 g↔x∈g:=by
 rw[BN];exact⟨λ h=>h.1,λ h=>⟨h,(b x h).lT a⟩⟩
theorem u9.same(h:∀x,x∈a↔x∈b)(t:u9 a):u9 b:=by
 obtain⟨x,h1,c,d⟩:=t;exact⟨x,(h x).1 h1,c,(h _).1 d⟩
theorem sN.same(h:∀x,x∈a↔x∈b)(t:sN M a):sN M b:=by
 obtain⟨x,h1,c⟩:=t;exact⟨x,(h x).1 h1,c⟩
theorem Hw(e:n<=65536)(b:∀x∈g,gK n x)(f:rq F g):FU n F g (k6 g) (r4 (k6 g)):=by
 have hm:=B6 e b;have d:∀x∈k6 g,x≠0:=λ x c=>(b x ((hm x).1 c)).oC
 refine⟨λ a h=>?_,λ a M i=>(f M i).same λ x=>(hm x).symm,hm,λ a=>(Hv d a).same hm⟩;obtain⟨h1,j⟩:=Nz (GM g) d a;exact⟨h,λ x c=>b x ((hm x).1 c),h1,j⟩
theorem NA(b:n<=65536)(h:oD n g):r4 (k6 g)=false/\k6 g≠ []:=by
 have hm:=B6 b h.lt;refine⟨?_,λ e=>?_⟩
 ·cases c:r4 (k6 g) with
  |false=>rfl
  |true=>
   exfalso;obtain⟨x,h1,f,d⟩:=Hv (λ x a=>(h.lt x ((hm x).1 a)).oC) c;exact h.bn x ((hm x).1 h1) ((hm _).1 d)
 ·obtain⟨x,a⟩:=List.exists_mem_of_ne_nil _ h.ne;have:=(hm x).2 a;rw[e] at this;cases this
theorem D2(h:lM n ls=0):n<=65536/\ls.length<=65536/\∀l∈ls,∀x∈l,gK n x:=by
 unfold lM at h;split at h
 ·omega
 ·split at h
  ·omega
  ·split at h
   ·omega
   ·rename_i h1 a e;refine⟨by omega,by omega,λ l hl x c=>?_⟩;rw[Bool.not_eq_false] at a;unfold se at a;have b:=s_.1 a l hl;unfold vX at b;have d:=s_.1 b x c;rw[vr] at d;unfold gK aC;omega
theorem B7(c:n<=65536)(h1:ls.length<=65536)(a:∀l∈ls,∀x∈l,gK n x):lM n ls=0:=by
 refine CE (by omega) ?_ (by omega);unfold se vX;rw[s_];intro l hl;rw[s_];intro x b;have:=a l hl x b;rw[vr];unfold gK aC at this;omega
end
section
open Go.RowKit
def uU(k v:Nat):Bool:=decide (k/2^v%2=1)
theorem B8(k v:Nat):uU k v=k.testBit v:=(Nat.testBit_eq_decide_div_mod_eq).symm
def nO(n k:Nat):List Bool:=false::(k_ n).map (uU k)
theorem Hx(n k:Nat):(nO n k).length=n+1:=by simp[nO]
theorem NB{v:Nat}(h1:1<=v)(a:v<=n):iE (nO n k) v=uU k (v-1):=by
 obtain⟨u,rfl⟩:∃u,v=u+1:=⟨v-1,by omega⟩
 unfold iE nO;rw[Zx,y_,List.getElem?_map,List.getElem?_range (by omega)];rfl
theorem Hy:∀(n:Nat)(f:Nat->Bool),∃k,k<2^n/\∀v,v<n->uU k v=f v
 |0,f=>⟨0,by simp,λ v a=>by omega⟩
 |n+1,f=>by
  obtain⟨k,hk,h⟩:=Hy n f
  cases b:f n with
  |false=>
   refine⟨k,by rw[Nat.pow_succ];omega,λ v a=>?_⟩;rcases p_ v n with h1|h1
   ·exact h v h1
   ·obtain rfl:v=n:=by omega
    rw[B8,Zk hk,b]
  |true=>
   refine⟨2^n+k,by rw[Nat.pow_succ];omega,λ v a=>?_⟩;rcases p_ v n with h1|h1
   ·rw[B8,Nat.testBit_two_pow_add_gt h1,<-B8];exact h v h1
   ·obtain rfl:v=n:=by omega
    rw[B8,Nat.testBit_two_pow_add_eq,Zk hk,b];rfl
theorem Hz(a:gK n x)(b:n<=65536):sg gU x=lB gU x:=by
 rw[E6 (a.lT b)];have c:=a.oC;unfold lB;have e:vt gU x.natAbs=iE gU x.natAbs:=rfl;rw[e]
 by_cases h:x<0
 ·rw[if_pos h,decide_eq_false (show¬0<x by omega)]
  cases iE gU x.natAbs<;>rfl
 ·rw[if_neg h,decide_eq_true (show 0<x by omega)]
  cases iE gU x.natAbs<;>rfl
theorem HA(hl:∀x∈l,gK n x)(b:n<=65536):vY gU l=true↔sN (lB gU) l:=by
 rw[Jh];constructor
 ·rintro⟨x,a,h⟩;exact⟨x,a,by rw[<-Hz (hl x a) b];exact h⟩
 ·rintro⟨x,a,h⟩;exact⟨x,a,by rw[Hz (hl x a) b];exact h⟩
theorem D3(a:lM n ls=0):rO n ls gU=true↔∀l∈ls,sN (lB gU) l:=by
 obtain⟨h1,c,b⟩:=D2 a;unfold rO;rw[a,r_,s_];constructor
 ·rintro⟨_,h⟩ l hl;exact(HA (b l hl) h1).1 (h l hl)
 ·intro h;exact⟨rfl,λ l hl=>(HA (b l hl) h1).2 (h l hl)⟩
def pV(a:List Bool)(l:List Int):Bool:=l.all λ x=>decide (1<=x.natAbs)&&decide (x.natAbs<a.length)&&(iE a x.natAbs==decide (0<x))
theorem B9{a:List Bool}(e:a.length=n+1)(hl:∀x∈l,gK n x):pV a l=true↔∀x∈l,lB a x=true:=by
 unfold pV;rw[s_];refine forall_congr' λ x=>forall_congr' λ b=>?_
 have h:=hl x b;have f:=h.oC;have c:decide (1<=x.natAbs)=true:=decide_eq_true h.1;have d:decide (x.natAbs<a.length)=true:=decide_eq_true (by have:=h.2;unfold aC at this;omega);rw[c,d];unfold lB
 by_cases h1:x<0
 ·rw[if_pos h1,decide_eq_false (show¬0<x by omega)]
  cases iE a x.natAbs<;>simp
 ·rw[if_neg h1,decide_eq_true (show 0<x by omega)]
  cases iE a x.natAbs<;>simp
def pE(n:Nat)(ls:List (List Int))(l:List Int):Bool:=(k_ (2^n)).any λ k=>pV (nO n k) l&&rO n ls (nO n k)
def Can(F:List (List Int))(l:List Int):Prop:=∃M,tQ M F/\∀x∈l,M x=true
theorem HB(b:Mod M)(hk:∀v,v<n->uU k v=M ((v:Int)+1)){x:Int}(a:gK n x):lB (nO n k) x=M x:=by
 unfold gK aC at a;unfold lB;rw[NB a.1 a.2,hk _ (by omega)]
 by_cases h:x<0
 ·rw[if_pos h,show((x.natAbs-1:Nat):Int)+1= -x by omega,b x (by omega),Bool.not_not]
 ·rw[if_neg h,show((x.natAbs-1:Nat):Int)+1=x by omega]
theorem D4(b:lM n ls=0)(hl:∀x∈l,gK n x):pE n ls l=true↔Can ls l:=by
 obtain⟨h1,j,i⟩:=D2 b;unfold pE;rw[b_];constructor
 ·rintro⟨k,hk,h⟩;rw[r_,B9 (Hx n k) hl,D3 b] at h;exact⟨lB (nO n k),⟨Da _,h.2⟩,h.1⟩
 ·rintro⟨M,c,h⟩;obtain⟨k,hk,d⟩:=Hy n λ v=>M ((v:Int)+1)
  refine⟨k,d_.2 hk,?_⟩;rw[r_,B9 (Hx n k) hl,D3 b];refine⟨λ x a=>(HB c.1 d (hl x a)).trans (h x a),λ g f=>?_⟩;obtain⟨x,a,e⟩:=c.2 g f;exact⟨x,a,(HB c.1 d (i g f x a)).trans e⟩
end
section
theorem Can.mono{l':List Int}(h:∀x∈l',x∈l):Can F l->Can F l':=λ⟨M,h1,a⟩=>⟨M,h1,λ x b=>a x (h x b)⟩
def rf(l o:List Int):List Int:=l.filter λ x=>o.contains x
theorem Ca{o:List Int}:x∈rf l o↔x∈l/\x∈o:=by simp[rf]
theorem D5(l o:List Int):(rf l o).Sublist l:=List.filter_sublist
theorem NC{left core:List Int}{i:Nat}(n:left.Nodup)(f:i<left.length)(c:∀x∈core,x∈left.eraseIdx i)(hu:¬Can F core)(g:∀j,j<i->Can F (left.eraseIdx j)):
  ¬Can F (rf left core)/\(rf left core).length<left.length/\i<=(rf left core).length/\∀j,j<i->Can F ((rf left core).eraseIdx j):=by
 have o:∀j (h:j<i),left[j]∈core:=λ j h=>by
  rcases Decidable.em (left[j]∈core) with h1|h1
  ·exact h1
  ·exfalso;refine hu ((g j h).mono λ x a=>?_);obtain⟨k,hk,_,e⟩:=w_.1 (c x a);refine w_.2 ⟨k,hk,λ b=>?_,e⟩;subst b;rw[e] at h1;exact h1 a
 have p:∀x∈core,x∈left:=λ x a=>by
  obtain⟨k,hk,_,e⟩:=w_.1 (c x a);rw[<-e];exact t_ hk
 have e:rf left core=left.take i++rf (left.drop i) core:=by
  have:left.filter (λ x=>core.contains x)=(left.take i++left.drop i).filter (λ x=>core.contains x):=by rw[List.take_append_drop]
  unfold rf;rw[this,List.filter_append]
  congr 1
  rw[List.filter_eq_self];intro x a;obtain⟨k,hk,e⟩:=List.mem_take_iff_getElem.1 a;rw[<-e];simpa using o k (by omega)
 have s:(left.take i).length=i:=by rw[List.length_take];omega
 refine⟨λ h=>hu (h.mono λ x a=>Ca.2 ⟨p x a,a⟩),?_,by rw[e,e_];omega,λ j q=>(g j q).mono λ x a=>?_⟩
 ·unfold rf;rw[List.length_filter_lt_length_iff_exists];refine⟨left[i],t_ f,λ h=>?_⟩;have h:left[i]∈core:=by simpa using h
  obtain⟨k,hk,d,b⟩:=w_.1 (c _ h);have:=List.getElem_inj (xs:=left) (i:=k) (j:=i) (h₀:=hk) (h₁:=f) n;exact d (this.1 b)
 ·obtain⟨k,hk,d,b⟩:=w_.1 a;rcases p_ k i with h1|h1
  ·refine w_.2 ⟨k,by omega,d,?_⟩;rw[<-b];simp only[e];rw[Zq (by omega),List.getElem_take]
  ·have r:x∈rf (left.drop i) core:=by
    rw[<-b];simp only[e];rw[Zs (by omega)];exact t_ _
   obtain⟨m,hm,l⟩:=i_.1 (Ca.1 r).1;rw[List.length_drop] at hm;rw[List.getElem_drop] at l;exact w_.2 ⟨i+m,by omega,by omega,l⟩
structure tH(F:List (List Int))(keep ah:List Int)(k:Nat)(m:List Bool):Prop where
 mod:∀g∈F,sN (lB m) g
 Ac:∀x∈keep,lB m x=true
 done:∀j (h:j<ah.length),j<k->lB m ah[j]=true\/¬Can F (keep++ah.filter (lB m)++[ah[j]])
theorem tH.yes(h:tH F keep ah k m)(hk:k<ah.length)(a:lB m ah[k]=true):tH F keep ah (k+1) m:=
 ⟨h.mod,h.Ac,λ j b c=>by
  rcases p_ j k with h1|h1
  ·exact h.done j b h1
  ·obtain rfl:j=k:=by omega
   exact .inl a⟩
theorem tH.no(h:tH F keep ah k m)(hk:k<ah.length)(a:¬Can F (keep++ah.filter (lB m)++[ah[k]])):tH F keep ah (k+1) m:=
 ⟨h.mod,h.Ac,λ j b c=>by
  rcases p_ j k with h1|h1
  ·exact h.done j b h1
  ·obtain rfl:j=k:=by omega
   exact .inr a⟩
theorem tH.next{lQ:List Bool}(h:tH F keep ah k m)(hk:k<ah.length)(hm:∀g∈F,sN (lB lQ) g)(c:∀x∈keep++ah.filter (lB m)++[ah[k]],lB lQ x=true):tH F keep ah (k+1) lQ:=by
 have h1:∀x∈ah,lB m x=true->lB lQ x=true:=λ x a b=>c x (v_.2 (.inl (v_.2 (.inr (Zn.2 ⟨a,b⟩)))))
 refine⟨hm,λ x a=>c x (v_.2 (.inl (v_.2 (.inl a)))),λ j d n=>?_⟩;rcases p_ j k with b|b
 ·refine(h.done j d b).imp (h1 _ (t_ d)) λ f i=>f (i.mono λ x a=>?_)
  rcases v_.1 a with a|a
  ·rcases v_.1 a with a|a
   ·exact v_.2 (.inl (v_.2 (.inl a)))
   ·obtain⟨e,l⟩:=Zn.1 a;exact v_.2 (.inl (v_.2 (.inr (Zn.2 ⟨e,h1 x e l⟩))))
  ·exact v_.2 (.inr a)
 ·obtain rfl:j=k:=by omega
  exact .inl (c _ (by simp))
theorem tH.whole(h:tH F keep ah ah.length m):∀x∈ah,lB m x=false->¬Can F (keep++ah.filter (lB m)++[x]):=λ x b c=>by
 obtain⟨j,a,e⟩:=i_.1 b;subst e;rcases h.done j a a with h1|h1
 ·rw[c] at h1;cases h1
 ·exact h1
end
section
open Go.RowKit
theorem ND(b off n c:Nat)(w:World)(h:n<=c):Calls u_ 108 #[.slice (some ⟨b,off,none⟩) n c] w λ e w'=>e=.returned (.slice (some ⟨b,off,none⟩) n n)/\w'=w:=by
 have a:(0:Int)<=n:=by omega
 go_enter Tryz.func108,Tryz.ntmps108
 go_wp2;go_ret;exact⟨rfl,rfl⟩
theorem NF(w:World):Calls u_ 108 #[.slice none 0 0] w λ e w'=>e=.returned (.slice none 0 0)/\w'=w:=by
 go_enter Tryz.func108,Tryz.ntmps108
 go_wp2;go_ret;exact⟨rfl,rfl⟩
theorem NG(b off n c:Nat)(w:World)(h:n<=c):Calls u_ 109 #[.slice (some ⟨b,off,none⟩) n c] w λ e w'=>e=.returned (.slice (some ⟨b,off,none⟩) n n)/\w'=w:=by
 have a:(0:Int)<=n:=by omega
 go_enter Tryz.func109,Tryz.ntmps109
 go_wp2;go_ret;exact⟨rfl,rfl⟩
theorem NH(w:World):Calls u_ 109 #[.slice none 0 0] w λ e w'=>e=.returned (.slice none 0 0)/\w'=w:=by
 go_enter Tryz.func109,Tryz.ntmps109
 go_wp2;go_ret;exact⟨rfl,rfl⟩
def NI(a:List Bool)(w:World)(e:Ending)(w':World):Prop:=
 ∃A c,e=.returned (.slice A a.length c)/\w'.ownsRow w.heap.size 4 1 (.slice A a.length c) a.length (a.map j_)/\Below w.heap.size w w'
theorem NJ(A:Option Addr)(n c:Nat)(e:List Bool)(w:World)(h:kE w A n c e):
  Calls u_ 106 #[.slice A n c] w (NI e w):=by
 obtain⟨i0,s,t,v,y⟩:=info_parts Ak;have F:∀(w:World)(a:Option Addr)(n c m c':Nat),(binOp .eql 28 (.slice a n c) (.slice none m c')).run u_ w=.ok (.bool a.isNone) w:=λ w a n c m c'=>Lib.run_eql_slice_nil w _ _ a n c m c' Zv
 have hlen:=h.len;have G:=h.mu;have H:=U h;clear h
 cases A with
 |none=>
  have z:n=0:=by
   rcases f_ n with d|d
   ·exact d
   ·obtain⟨b,off,he,_⟩:=H.o.cells d;cases he
  subst z;have B:e=[]:=Zz hlen;subst B;clear hlen;go_enter Tryz.func106,Tryz.ntmps106
  go_wp2;go_ret;exact⟨none,0,rfl,Zw _ _ _ _,Zt _ _⟩
 |some a=>
  have f:=U hlen;clear hlen;go_enter Tryz.func106,Tryz.ntmps106
  go_wp2_with (at_builtin;refine wpList_append_own _ rfl _ _ 28 rfl w.heap.size 4 i0 (.bool false) 1 1 Zv s t v y rfl (by decide) _ _ _ rfl (World.ownsRow_made w #[] 0 (n_ _) (Zm _) rfl) a n c (e.map j_) rfl ?qc1 ?qc2 ?qc3 ?qc4 ?qc5 ?qc6 ?_)
  case qc1=>simp[f.o]
  case qc2=>
   intro j u p;have q:j<n:=by have:=(List.getElem?_eq_some_iff.1 p).1;simpa[f.o] using this
   obtain⟨b,off,he,i,C⟩:=H.o.cells (by omega);injection he with he
   subst he;rw[Addr.add_lit];rw[World.cell?_alloc_lt _ _ _ (by exact i),C j q];rw[List.getElem?_map,m_ (by rw[f.o];exact q)] at p;have D:j<e.length:=by rw[f.o];exact q
   rw[Zx,m_ D,Option.getD_some];exact p
  case qc3=>intro u hu;obtain⟨x,_,rfl⟩:=Zi.1 hu;rfl
  case qc4=>unfold maxLen;omega
  case qc5=>omega
  case qc6=>simp
  intro v' w1 l E I;go_wp2;go_ret;have i:Below w.heap.size w w1:=((Zt _ w).alloc (n_ _) _).grown E (by simp) (by intro k hk;simp[Value.ownBlock] at hk;omega);have hl:=f.o;subst hl;rcases l.2 with⟨r,d⟩|⟨g,cap,cur,r,J⟩
  ·subst r;refine⟨none,0,?_,?_,i⟩
   ·rw[d];rfl
   ·rw[d] at l⊢;exact l
  ·subst r;exact⟨_,_,rfl,l,i⟩
theorem aY.HC(E:aY K base w G hs cb s)(h:s.act.length<=1000000):
  (hs 6).v=.slice (hs 6).A s.act.length (hs 6).c/\aL w (hs 6).A s.act.length (hs 6).c s.act:=by
 have h1:w.ownsRow base 3 1 (hs 6).v (hs 6).n (jc s.act):=E.e.rows.row 6;have a:(hs 6).n=s.act.length:=E.e.n6;have b:(hs 6).v=.slice (hs 6).A s.act.length (hs 6).c:=by rw[<-a];rfl
 rw[b,a] at h1;exact⟨b,aL.kW h1 (by omega)⟩
theorem aY.HD(E:aY K base w G hs cb s)(h:s.hM.length<=1000000):
  (hs 9).v=.slice (hs 9).A s.hM.length (hs 9).c/\kE w (hs 9).A s.hM.length (hs 9).c s.hM:=by
 have h1:w.ownsRow base 4 1 (hs 9).v (hs 9).n (pL s.hM):=E.e.rows.row 9;have a:(hs 9).n=s.hM.length:=E.e.jU;have b:(hs 9).v=.slice (hs 9).A s.hM.length (hs 9).c:=by rw[<-a];rfl
 rw[b,a] at h1;exact⟨b,kE.kW h1 (by omega)⟩
theorem D6(x:Int)(w:World):Calls u_ 112 #[.int .i64 x] w λ e w'=>e=.returned (.bool (mS x))/\w=w':=by
 by_cases h1:x<0
 ·go_enter Tryz.func112,Tryz.ntmps112
  go_wp2;go_ret;exact⟨mO (by simp[mS,h1]),rfl⟩
 ·by_cases a:1099511627776<x
  all_goals
   go_enter Tryz.func112,Tryz.ntmps112
   go_wp2;go_ret;exact⟨mO (by simp[mS,h1,a]),rfl⟩
structure k7 where
 n:Int
 gs:List (List Int)
 es:List mM
 act:List Int
 ord:List Int
 bt:Int
 hM:List Bool
 aF:List nx
structure ri(w:World)(s:k7)(bp:Option Addr)(aR:Nat)(iV:Option Addr)(cl:Nat)(A:Option Addr)(c:Nat)(A':Option Addr)(c':Nat)(gY:Option Addr)(gJ:Nat)(bu:Option Addr)(bE:Nat):Prop where
 gs:ku w bp s.gs.length aR s.gs
 es:sF w iV s.es.length cl s.es
 act:aL w A s.act.length c s.act
 ord:aL w A' s.ord.length c' s.ord
 hM:kE w gY s.hM.length gJ s.hM
 aF:oz w bu s.aF.length bE s.aF
def rL(n:Int)(a:Option Addr)(b d:Nat)(e:Option Addr)(nl cl:Nat)(A:Option Addr)(f c:Nat)(A':Option Addr)(g c':Nat)(h:Int)(i:Option Addr)(j k:Nat)(l:Option Addr)(m o:Nat):Value:=
 .agg #[.int .i64 n,.slice a b d,.slice e nl cl,.slice A f c,.slice A' g c',.int .i64 h,.slice i j k,.slice l m o]
theorem ri.below{w w':World}{s:k7}{bp:Option Addr}{aR:Nat}{iV:Option Addr}{cl:Nat}{A:Option Addr}{c:Nat}{A':Option Addr}{c':Nat}{gY:Option Addr}{gJ:Nat}{bu:Option Addr}{bE:Nat}(h:ri w s bp aR iV cl A c A' c' gY gJ bu bE)(a:Below w.heap.size w w'):ri w' s bp aR iV cl A c A' c' gY gJ bu bE:=
 ⟨h.gs.below a,h.es.below a,h.act.below a,h.ord.below a,h.hM.below a,h.aF.below a⟩
def tc(e:mM):Bool:=decide (e.r.ai.length=0)||mS e.bh||mS e.ac
def td(n:Int)(p:nx):Bool:=decide (p.lH<1)||decide (3<p.lH)||decide (lM n [p.r.ai]≠0)
def Ap(s:k7):Bool:=decide (s.n<0)||decide (65536<s.n)|| !(tP s.act s.ord s.bt)||decide ((s.act.length:Int)≠s.n+1)||decide ((s.ord.length:Int)≠s.n)||decide ((s.hM.length:Int)≠s.n+1)||iE s.hM 0
def D7(s:k7):Int:=
 if Ap s=true then 1 else if lM s.n s.gs≠0 then lM s.n s.gs else if s.es.any tc=true then 1
 else if lM s.n (s.es.map (·.r.ai))≠0 then lM s.n (s.es.map (·.r.ai)) else if s.aF.any (td s.n)=true then 1 else 0
theorem y4{ai:List α}{p:α->Bool}(h:k<ai.length)(e:p ai[k]=true):ai.any p=true:=b_.2 ⟨_,t_ h,e⟩
theorem HE{ai:List α}{p:α->Bool}(h:k<ai.length)(e:p ai[k]=false)(a:(ai.take k).any p=false):(ai.take (k+1)).any p=false:=by
 rw[List.take_succ_eq_append_getElem h,List.any_append,a];simp[e]
theorem HF{ai:List α}{p:α->Bool}(hl:ai.length=n)(h:¬k<n)(a:(ai.take k).any p=false):ai.any p=false:=by
 rw[Zl (by omega)] at a;exact a
theorem sF.HG{b:Nat}{es:List mM}(h:sF w (some ⟨b,off,none⟩) n c es){k:Nat}(hk:k<n)(a:k<es.length):
  w.cell? ⟨b,off+k*3,none⟩=some (kS es[k].r)/\w.cell? ⟨b,off+k*3+1,none⟩=some (.int .i64 es[k].bh)/\w.cell? ⟨b,off+k*3+2,none⟩=some (.int .i64 es[k].ac)/\aL w es[k].r.A es[k].r.n es[k].r.c es[k].r.ai:=by
 obtain⟨l,m,e,o,d⟩:=h.cells (by omega);injection e with e
 injection e with i j
 subst i j;have f:=d (k*3) (by omega);have h1:=d (k*3+1) (by omega);have g:=d (k*3+2) (by omega);have g0:=B0 es k a 0 (by omega);have g1:=B0 es k a 1 (by omega);have g2:=B0 es k a 2 (by omega);rw[Nat.add_zero] at g0;rw[g0] at f;rw[g1] at h1;rw[g2] at g;exact⟨f,h1,g,h.rows _ (t_ a)⟩
theorem x4:∀es:List nx,(mR es).length=es.length*2
 |[]=>rfl
 |e::es=>by
  have:=x4 es;unfold mR at this⊢;simp only[List.map_cons,List.flatten_cons,e_,this,rK,List.length_cons,List.length_nil];omega
theorem NK(a b:List nx):mR (a++b)=mR a++mR b:=by simp[mR]
theorem D8:∀(es:List nx)(j:Nat)(h:j<es.length)(k:Nat),k<2->(mR es)[j*2+k]? =(rK es[j])[k]?
 |[],j,h,k,hk=>by simp at h
 |e::es,0,h,k,hk=>by
  show(rK e++mR es)[0*2+k]? =_;rw[List.getElem?_append_left (by simp[rK];omega)];simp
 |e::es,j+1,h,k,hk=>by
  show(rK e++mR es)[(j+1)*2+k]? =_;rw[List.getElem?_append_right (by simp[rK];omega)];have:=D8 es j (by simpa using h) k hk;rw[show(j+1)*2+k-(rK e).length=j*2+k by simp[rK];omega,this];rfl
theorem oz.NL{b:Nat}{es:List nx}(h:oz w (some ⟨b,off,none⟩) n c es){k:Nat}(hk:k<n)(a:k<es.length):
  w.cell? ⟨b,off+k*2,none⟩=some (.int .i64 es[k].lH)/\w.cell? ⟨b,off+k*2+1,none⟩=some (kS es[k].r)/\aL w es[k].r.A es[k].r.n es[k].r.c es[k].r.ai:=by
 obtain⟨j,l,e,m,d⟩:=h.cells (by omega);injection e with e
 injection e with g i
 subst g i;have f:=d (k*2) (by omega);have h1:=d (k*2+1) (by omega);have g0:=D8 es k a 0 (by omega);have g1:=D8 es k a 1 (by omega);rw[Nat.add_zero] at g0;rw[g0] at f;rw[g1] at h1;exact⟨f,h1,h.rows _ (t_ a)⟩
end
section
open Go.RowKit Go.Shelf
structure pF(n:Nat)(s:k7):Prop where
 iX:s.n=n
 g1:s.gs.length<=65536
 bH:∀g∈s.gs,∀x∈g,gK n x
 hk:sH n s.act s.ord s.bt
 nG:s.hM.length=n+1
 oU:iE s.hM 0=false
 w6:∀e∈s.es,oD n e.r.ai/\(0<=e.bh/\e.bh<=jF)/\(0<=e.ac/\e.ac<=jF)
 HH:∀e∈s.es,rq s.gs e.r.ai
 D9:(s.es.map (·.r.ai)).Pairwise λ a b=>¬xM a b
 Cb:∀p∈s.aF,(p.lH=1\/p.lH=2\/p.lH=3)/\∀x∈p.r.ai,gK n x
theorem pF.nt{s:k7}(h:pF n s):s.es.length+1<=3^n:=by
 have:=Fq (n:=n) (ls:=s.es.map (·.r.ai)) (λ l hl=>by
  obtain⟨e,he,rfl⟩:=Zi.1 hl;exact(h.w6 e he).1) (show List.Pairwise (λ a b=>¬∀x,x∈a↔x∈b) (s.es.map (·.r.ai)) from h.D9)
 rwa[l_] at this
theorem y5(a:n<=10):3^n<=59049:=by
 have b:3^n<=3^10:=Nat.pow_le_pow_right (by omega) a;have c:(3:Nat)^10=59049:=by decide
 omega
theorem pF.NM{s:k7}(h:pF n s)(c:n<=10):D7 s=0:=by
 have k:=h.nt;have m:=y5 c;have d:Ap s=false:=by
  unfold Ap;rw[h.hk.check,h.oU,h.iX,h.hk.lg,h.hk.ql,h.nG];simp;omega
 have f:lM s.n s.gs=0:=by rw[h.iX];exact B7 (by omega) h.g1 h.bH
 have g:s.es.any tc=false:=by
  rw[Zu];intro e he;obtain⟨h1,a,b⟩:=h.w6 e he;unfold tc;rw[B4.2 a,B4.2 b];have:e.r.ai.length≠0:=λ hl=>h1.ne (Zz hl)
  simpa using this
 have i:lM s.n (s.es.map (·.r.ai))=0:=by
  rw[h.iX];refine B7 (by omega) (by rw[l_];omega) λ l hl=>?_
  obtain⟨e,he,rfl⟩:=Zi.1 hl;exact(h.w6 e he).1.lt
 have j:s.aF.any (td s.n)=false:=by
  rw[Zu];intro p hp;obtain⟨h1,a⟩:=h.Cb p hp;have b:lM s.n [p.r.ai]=0:=by
   rw[h.iX];exact B7 (by omega) (by simp) λ l hl=>by rw[Zy.1 hl];exact a
  unfold td;rw[b];simp;omega
 unfold D7;rw[if_neg (by rw[d];exact Zp),if_neg (by rw[f];simp),if_neg (by rw[g];exact Zp),if_neg (by rw[i];simp),if_neg (by rw[j];exact Zp)]
def oe(e:nx):nw:=⟨e.lH,⟨e.r.A,e.r.n,e.r.c⟩⟩
theorem HI(es:List nx):mj (es.map oe)=mR es:=by
 unfold mj mR;rw[List.map_map];rfl
theorem HJ{K:Nat->Prop}{w:World}{n:Nat}:∀(a:List nw),(∀p∈a,qq K w n p)->∃es:List nx,es.map oe=a/\∀e∈es,((e.lH=1\/e.lH=2\/e.lH=3)/\∀x∈e.r.ai,gK n x)/\aL w e.r.A e.r.n e.r.c e.r.ai
 |[],_=>⟨[],rfl,λ e he=>by cases he⟩
 |p::a,h=>by
  obtain⟨es,h1,b⟩:=HJ a (λ q d=>h q (by simp[d]));obtain⟨f,⟨ai,g,i⟩,_⟩:=h p (by simp);refine⟨⟨p.lH,⟨p.h.A,p.h.n,p.h.c,ai⟩⟩::es,by rw[List.map_cons,h1];rfl,λ e he=>?_⟩;rcases List.mem_cons.1 he with rfl|he
  ·exact⟨⟨f,i⟩,g⟩
  ·exact b e he
theorem aY.HK(E:aY K base w G hs cb s)(P:o5 K w s){es:List nx}(he:es.map oe=s.aF)(j:∀e∈es,aL w e.r.A e.r.n e.r.c e.r.ai)(hl:es.length<=1099511627776):
  ∃A c,oE hs s=.slice A es.length c/\oz w A es.length c es/\(es.length=c\/w.ownsRow base 126 2 (.slice A es.length c) es.length (mR es))/\(A=none->es.length=0/\c=0)/\(A≠none->∃b off,A=some ⟨b,off,none⟩):=by
 have q:mj s.aF=mR es:=by rw[<-he,HI]
 have y:s.aF.length=es.length:=by rw[<-he,l_]
 cases i:s.jB with
 |some h=>
  obtain⟨h1,f,l⟩:=P h i;have z:oE hs s=h.v:=by unfold oE;rw[i]
  rw[z];obtain⟨A,m,c⟩:=h;have h1:m=es.length:=by rw[<-y];exact h1
  have f:c=m:=f;subst f h1;refine⟨A,es.length,rfl,⟨rfl,n_ _,by omega,by unfold maxLen;omega,λ o=>?_,j⟩,.inl rfl,λ e=>?_,λ e=>by rcases l with⟨a,_⟩|⟨b,off,a,_⟩;exact absurd a e;exact⟨b,off,a⟩⟩
  ·rcases l with⟨_,a⟩|⟨b,off,a,t,u⟩
   ·have a:es.length=0:=a;omega
   ·refine⟨b,off,a,E.s.lt b (t o),λ k hk=>?_⟩;have x:k<(mR es).length:=by rw[x4];exact hk
    have:=u k _ (by rw[q];exact m_ x);rw[this,m_ x]
  ·rcases l with⟨_,a⟩|⟨b,off,a,t,u⟩
   ·have a:es.length=0:=a;exact⟨a,a⟩
   ·have a:A=some ⟨b,off,none⟩:=a;rw[e] at a;cases a
 |none=>
  have h1:w.ownsRow base 126 2 (hs 11).v (hs 11).n (cont hs cb s 11):=E.e.rows.row 11;have B:cont hs cb s 11=mR es:=by
   show(match s.jB with|some _=> []|none=>mj s.aF)=_;rw[i];exact q
  have C:oE hs s=(hs 11).v:=by unfold oE;rw[i]
  rw[B] at h1;have f:(hs 11).n=es.length:=by
   have:=h1.1;rw[x4] at this;omega
  rw[C];generalize hs 11=D at*;obtain⟨A,m,c⟩:=D;have f:m=es.length:=f;subst f;refine⟨A,c,rfl,?_,.inr h1,?_,?_⟩
  ·rcases h1.2 with⟨d,p⟩|⟨g,cap,cur,d,I,J,F,H,L,M⟩
   ·simp only[ax.v,o_] at d;obtain⟨rfl,a,rfl⟩:=d;exact⟨rfl,by omega,by omega,by unfold maxLen;omega,λ o=>by omega,j⟩
   ·simp only[ax.v,o_] at d;obtain⟨rfl,_,rfl⟩:=d;refine⟨rfl,F,by omega,H,λ o=>⟨g,0,rfl,(h1.lt g rfl).2,λ k hk=>?_⟩,j⟩;rw[Nat.zero_add];exact h1.cellAt k hk
  ·intro e;rcases h1.2 with⟨d,p⟩|⟨g,cap,cur,d,_⟩
   ·simp only[ax.v,o_] at d;exact⟨p,d.2.2⟩
   ·simp only[ax.v,o_] at d;rw[e] at d
    cases d.1
  ·intro e;rcases h1.2 with⟨d,p⟩|⟨g,cap,cur,d,_⟩
   ·simp only[ax.v,o_] at d;exact absurd d.1 e
   ·simp only[ax.v,o_] at d;exact⟨g,0,d.1⟩
end
end Go.Proofs.YtogdlkfacflmaaaGreat
