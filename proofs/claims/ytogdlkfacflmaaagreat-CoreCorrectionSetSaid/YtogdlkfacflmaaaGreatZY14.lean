/- Parts of the walk of the solver and its core; no condition. -/
import Derived.Test.YtogdlkfacflmaaaGreatZY13
import Derived.Laws.Rows
import Derived.Test.YtogdlkfacflmaaaGreatZY1
import Derived.Test.YtogdlkfacflmaaaGreatZY10
namespace Go.Proofs.YtogdlkfacflmaaaGreat
set_option linter.unusedVariables false
set_option linter.unusedSimpArgs false
set_option maxRecDepth 1000000
set_option maxHeartbeats 8000000
open _root_.And renaming intro→z_
open _root_.List renaming getElem?_cons_succ→y_,getElem?_cons_zero→x_,mem_eraseIdx_iff_getElem→w_,mem_append→v_,getElem_mem→t_,all_eq_true→s_,getElem?_eq_getElem→m_,length_map→l_,range→k_,mem_iff_getElem→i_,pairwise_iff_getElem→g_,length_append→e_,mem_range→d_,any_eq_true→b_,eq_nil_of_length_eq_zero→Zz,mem_singleton→Zy,getD_eq_getElem?_getD→Zx,any_eq_false→Zu,getElem_append_right→Zs,getElem_append_left→Zq,mem_filter→Zn,take_of_length_le→Zl,mem_map→Zi
open _root_.Go.Proofs.Tryz renaming prog→u_,underlying28→Zv
open _root_.Bool renaming and_eq_true→r_,not_eq_true'→c_,noConfusion→Zp,or_eq_true→Zo
open _root_.Go.RowKit.Below renaming heap_setCell→q_,refl→Zt
open _root_.Nat renaming lt_or_ge→p_,le_refl→n_,eq_zero_or_pos→f_,zero_le→Zm,testBit_lt_two_pow→Zk
open _root_.Go.Value.slice renaming injEq→o_
open _root_.Go.Value renaming bool→j_,slice→h_
open _root_.Or renaming inl→a_
open _root_.Go.World renaming ownsRow_nil→Zw,cell?_of_block→Zj
open _root_.Go.IntKind renaming wrap_i64→Zr,i64→Zh
variable{w:World}{base n c G k off:Nat}{A:Option Addr}{act ah a b l g keep:List Int}{K:Nat->Prop}{hs:Nat->ay}{cb:Nat->Nat}{s:au}{F ls:List (List Int)}{x y:Int}{M:Int->Bool}{gX m:List Bool}{α:Type}
section
open Go.RowKit Go.Shelf
def yw(W:World)(G aH b t:Nat)(j k l u y z A m:Value)(c:Option Addr)(n6 d:Nat)(e:Option Addr)(n7 f:Nat)(g:Int)(n:Option Addr)(kf o:Nat)(p:Option Addr)(q r:Nat)(i:Nat)(v:Value)(w:World):Prop:=
 match i with
 |0=>v=.agg #[.slice c n6 d,.slice e n7 f,.int .i64 g]
 |1=>v=.pointer (some ⟨G,0,none⟩)
 |2=>v=.pointer (some ⟨G,0,none⟩)
 |3=>v=.pointer (some ⟨G,12,none⟩)
 |4=>v=.slice n kf o
 |5=>v=.pointer (some ⟨G,0,none⟩)
 |6=>v=.pointer (some ⟨G,0,none⟩)
 |7=>v=.pointer (some ⟨G,14,none⟩)
 |8=>v=.slice p q r
 |9=>v=.pointer (some ⟨b,3,none⟩)
 |10=>∃s,aR w b 47 [j,k,l,.slice c n6 d,.slice e n7 f,.int .i64 g,s,m]
 |11=>v=.pointer (some ⟨b,6,none⟩)
 |12=>aR w b 47 [j,k,l,.slice c n6 d,.slice e n7 f,.int .i64 g,.slice n kf o,m]
 |13=>v=.pointer (some ⟨b,7,none⟩)
 |_=>True
theorem yw.const(W:World)(G aH b c:Nat)(d e f g j k l m:Value)(o:Option Addr)(n6 p:Nat)(q:Option Addr)(n7 r:Nat)(s:Int)(t:Option Addr)(kf v:Nat)(y:Option Addr)(z A:Nat)(i:Nat)(B:i≠10)(C:i≠12)(u:Value)(w w':World)(h:yw W G aH b c d e f g j k l m o n6 p q n7 r s t kf v y z A i u w):yw W G aH b c d e f g j k l m o n6 p q n7 r s t kf v y z A i u w':=by
 match i,h with
 |0,h=>exact h
 |1,h=>exact h
 |2,h=>exact h
 |3,h=>exact h
 |4,h=>exact h
 |5,h=>exact h
 |6,h=>exact h
 |7,h=>exact h
 |8,h=>exact h
 |9,h=>exact h
 |10,h=>exact absurd rfl B
 |11,h=>exact h
 |12,h=>exact absurd rfl C
 |13,h=>exact h
 |n+14,h=>trivial
structure HG(W:World)(G aH iG qX:Nat)(pH j6 lu lM qh nW qi nG:Value)(iC:Option Addr)(n6 jd:Nat)(je:Option Addr)(n7 iB:Nat)(qM:Int)(jg:Option Addr)(kf iy:Nat)(bA:Option Addr)(bK bI:Nat):Prop where
 an:W.cell? ⟨qX,0,none⟩=some (.slice iC n6 jd)
 h1:W.cell? ⟨qX,1,none⟩=some (.slice je n7 iB)
 af:W.cell? ⟨qX,2,none⟩=some (.int .i64 qM)
 Ec:qX<W.heap.size/\qX≠iG
 g0:W.cell? ⟨aH,0,none⟩=some (.pointer (some ⟨G,0,none⟩))
 qf:aH<W.heap.size/\aH≠iG
 ou:W.cell? ⟨G,12,none⟩=some (.slice jg kf iy)
 vF:W.cell? ⟨G,14,none⟩=some (.slice bA bK bI)
 HH:G<W.heap.size/\G≠iG
def HI(j:Nat):Option Nat:=if j=10 then some 12 else none
theorem NL(W:World)(G aH j o:Nat)(r s n m z p H t:Value)(A:Option Addr)(n6 B:Nat)(D:Option Addr)(n7 E:Nat)(F:Int)(I:Option Addr)(kf J:Nat)(K:Option Addr)(L M:Nat)(C:HG W G aH j o r s n m z p H t A n6 B D n7 E F I kf J K L M):
  s8 u_ [some 69,some 70,some 71,some 72,some 73,some 74,some 75,some 76,some 77,some 78,none,some 79,none,some 80,none] [[],[],[1],[2],[3],[],[5],[6],[7],[0],[9,0,0],[0,1,2,3,4,9,10],[11,4,10,0,1,2,3,4,9,10],[0,1,2,3,4,5,6,7,8,9,10,11,12],[13,8,12,0,1,2,3,4,5,6,7,8,9,10,11,12]] [(5,.pointer (some ⟨o,0,none⟩)),(2,.pointer (some ⟨aH,0,none⟩)),(3,.pointer (some ⟨j,0,none⟩))] (λ w=>W.grownBy w (some j)) (yw W G aH j o r s n m z p H t A n6 B D n7 E F I kf J K L M) HI (λ w=>∃q,aR w j 47 [r,s,n,m,z,p,q,t]) 10 0 ((qb Tryz.f100 14).take 14):=by
 have v:∀w b k,W.grownBy w (some j)->b<W.heap.size/\b≠j->w.cell? ⟨b,k,none⟩=W.cell? ⟨b,k,none⟩:=λ w b k c l=>Zj (a:=⟨b,k,none⟩) (c.block b l.1 (λ e=>by injection e with e;exact l.2 e))
 refine⟨?_,?_,?_,?_,?_,?_,?_,?_,?_,?_,?_,?_,?_,?_,trivial⟩
 ·intro vals w f c i d g hp;have p:f (.tmp 5)=_:=g.1 rfl;have ah:=(v w o 0 c C.Ec).trans C.an;have c1:=(v w o 1 c C.Ec).trans C.h1;have c2:=(v w o 2 c C.Ec).trans C.af;simp only[bh,execOp,p];simp[bQ,go_sem,ah,c1,c2];exact .same c rfl
 ·intro vals w f c i d g hp;have n:f (.tmp 2)=_:=g.2.1 rfl;have y:=(v w aH 0 c C.qf).trans C.g0;simp only[bh,execOp,n];simp[bQ,go_sem,y];exact .same c rfl
 ·intro vals w f c i d g hp;obtain⟨⟨f1,N⟩,-⟩:=(⟨d.1 rfl,d.2⟩:_/\_)
  have N:f (.tmp 70)=vals 1:=N _ rfl;have f1:vals 1=_:=f1 (a_ rfl);rw[f1] at N;simp only[bh,execOp,N];simp[bQ,go_sem];exact .same c rfl
 ·intro vals w f c i d g hp;obtain⟨⟨f2,O⟩,-⟩:=(⟨d.1 rfl,d.2⟩:_/\_)
  have O:f (.tmp 71)=vals 2:=O _ rfl;have f2:vals 2=_:=f2 (a_ rfl);rw[f2] at O;simp only[bh,execOp,O];simp[bQ,go_sem];exact .same c rfl
 ·intro vals w f c i d g hp;obtain⟨⟨f3,P⟩,-⟩:=(⟨d.1 rfl,d.2⟩:_/\_)
  have P:f (.tmp 72)=vals 3:=P _ rfl;have f3:vals 3=_:=f3 (a_ rfl);rw[f3] at P;have y:=(v w G 12 c C.HH).trans C.ou;simp only[bh,execOp,P];simp[bQ,go_sem,y];exact .same c rfl
 ·intro vals w f c i d g hp;have n:f (.tmp 2)=_:=g.2.1 rfl;have y:=(v w aH 0 c C.qf).trans C.g0;simp only[bh,execOp,n];simp[bQ,go_sem,y];exact .same c rfl
 ·intro vals w f c i d g hp;obtain⟨⟨f5,Q⟩,-⟩:=(⟨d.1 rfl,d.2⟩:_/\_)
  have Q:f (.tmp 74)=vals 5:=Q _ rfl;have f5:vals 5=_:=f5 (a_ rfl);rw[f5] at Q;simp only[bh,execOp,Q];simp[bQ,go_sem];exact .same c rfl
 ·intro vals w f c i d g hp;obtain⟨⟨f6,R⟩,-⟩:=(⟨d.1 rfl,d.2⟩:_/\_)
  have R:f (.tmp 75)=vals 6:=R _ rfl;have f6:vals 6=_:=f6 (a_ rfl);rw[f6] at R;simp only[bh,execOp,R];simp[bQ,go_sem];exact .same c rfl
 ·intro vals w f c i d g hp;obtain⟨⟨f7,S⟩,-⟩:=(⟨d.1 rfl,d.2⟩:_/\_)
  have S:f (.tmp 76)=vals 7:=S _ rfl;have f7:vals 7=_:=f7 (a_ rfl);rw[f7] at S;have y:=(v w G 14 c C.HH).trans C.vF;simp only[bh,execOp,S];simp[bQ,go_sem,y];exact .same c rfl
 ·intro vals w f c i d g hp;have m:f (.tmp 3)=_:=g.2.2.1 rfl;simp only[bh,execOp,m];simp[bQ,go_sem];exact .same c rfl
 ·intro vals w f c i d g hp;obtain⟨⟨f9,T⟩,⟨f0,U⟩,-⟩:=(⟨d.1 rfl,d.2.1 rfl,d.2.2⟩:_/\_/\_)
  have T:f (.tmp 78)=vals 9:=T _ rfl;have f9:vals 9=_:=f9 (a_ rfl);rw[f9] at T;have U:f (.tmp 69)=vals 0:=U _ rfl;have f0:vals 0=_:=f0 (a_ rfl);rw[f0] at U;obtain⟨q,l⟩:∃q,aR w j 47 [r,s,n,m,z,p,q,t]:=i (Or.inr rfl);have Z:=l.cell 3;have aa:=l.cell 4;have ab:=l.cell 5;have ai:=l.free 3;have aj:=l.free 4;have ak:=l.free 5;simp only[x_,y_] at Z aa ab;simp only[bh,execOp,T,U];simp[bQ,go_sem,Z,aa,ab,ai,aj,ak];have al:=xG (xG (lq w j 3 (.slice A n6 B)) (lq _ j 4 (.slice D n7 E))) (lq _ j 5 (.int .i64 F));exact⟨xG c al,⟨q,((l.set 3 _).set 4 _).set 5 _⟩,λ k u hk ad ae _ Y=>yw.const W G aH j o r s n m z p H t A n6 B D n7 E F I kf J K L M k hk (λ e=>by subst e;exact absurd ae (by decide)) u _ _ Y,λ h=>absurd rfl h⟩
 ·intro vals w f c i d g hp;have m:f (.tmp 3)=_:=g.2.2.1 rfl;simp only[bh,execOp,m];simp[bQ,go_sem];exact .same c rfl
 ·intro vals w f c i d g hp;obtain⟨⟨f11,V⟩,⟨f4,X⟩,⟨f10,ar⟩,-⟩:=(⟨d.1 rfl,d.2.1 rfl,d.2.2.1 rfl,d.2.2.2⟩:_/\_/\_/\_)
  have V:f (.tmp 79)=vals 11:=V _ rfl;have f11:vals 11=_:=f11 (a_ rfl);rw[f11] at V;have X:f (.tmp 73)=vals 4:=X _ rfl;have f4:vals 4=_:=f4 (a_ rfl);rw[f4] at X;obtain⟨q,l⟩:∃q,aR w j 47 [r,s,n,.slice A n6 B,.slice D n7 E,.int .i64 F,q,t]:=f10 (Or.inr rfl);have ag:=l.cell 6;have ao:=l.free 6;simp only[x_,y_] at ag;simp only[bh,execOp,V,X];simp[bQ,go_sem,ag,ao];exact⟨xG c (lq w j 6 _),l.set 6 _,λ k u hk ad ae _ Y=>yw.const W G aH j o r s n m z p H t A n6 B D n7 E F I kf J K L M k (λ e=>by subst e;exact absurd rfl ad) hk u _ _ Y,λ h _ i=>by obtain⟨au,aq⟩:=i;exact⟨_,aq.set 6 _⟩⟩
 ·intro vals w f c i d g hp;have m:f (.tmp 3)=_:=g.2.2.1 rfl;simp only[bh,execOp,m];simp[bQ,go_sem];exact .same c rfl
theorem tn{de:Nat}{w0 w':World}{row:Option Nat}(h:Below de w0 w)(b:w.grownBy w' row)(hs:de<=w.heap.size)(c:∀g,row=some g->de<=g):Below de w0 w':=
 ⟨b.os.trans h.os,b.tape.trans h.tape,b.output.trans h.output,Nat.le_trans h.size b.size,λ k hk=>(b.block k (by omega) (λ e=>by have:=c k e.symm;omega)).trans (h.block k hk)⟩
def Co(s:au)(i:Nat)(e:mT):Prop:=e.r.ai=az s.c.cl (hU s.aO i)/\e.bp=(lN s (hU s.aO i)).bp/\e.ac=min (lN s (hU s.aO i)).ac jK
structure HJ(s:au)(oU W:World)(iG:Nat)(v0 v1 v3 v4 v5 v6 kg:Value)(A:Option Addr)(j c:Nat)(es:List mT):Prop where
 gX:aR W iG 47 [v0,v1,.slice A j c,v3,v4,v5,v6,kg]
 row:W.ownsRow oU.heap.size 74 3 (.slice A j c) j (p0 es)
 len:es.length=j
 jB:aG (λ b=>b<oU.heap.size/\¬b=iG) oU W
 rd:∀e∈es,aP W e.r.A e.r.n e.r.c e.r.ai
 ap:∀e∈es,∀b,e.r.A.map (·.block)=some b->oU.heap.size<=b/\b<W.heap.size/\(h_ A j c).ownBlock≠some b
 sp:∀(i:Nat)(h:i<es.length),Co s i es[i]
def NM(w:World)(A:Option Addr)(es:List mT)(c:Option Addr):Prop:=(∀b,A.map (·.block)=some b->w.heap.size<=b)/\(∀e∈es,∀b,e.r.A.map (·.block)=some b->w.heap.size<=b)/\∀b,c.map (·.block)=some b->w.heap.size<=b
def HK(K:Nat->Prop)(base:Nat)(w:World)(G:Nat)(cb:Nat->Nat)(F:List (List Int))(ah:List Int)(n k l:Nat)(s:au)(qz:Int)(qA:Option Addr)(qB qC:Nat)(e:Ending)(w':World):Prop:=
 ∃(g:Nat->Prop)(d:Nat->ay)(jf:au)(m:Nat)(A:Option Addr)(c:Nat)(es:List mT)(f:Option Addr)(j:Nat),e=.returned (.agg #[.int .i64 qz,.slice qA qB qC,.slice A es.length c,(d 6).v,.slice f n j,.int .i64 jf.bz,(d 9).v,oO d jf])/\(∀b,K b->g b)/\bf g base w' G d cb jf/\aG K w w'/\mF F ah n k jf l m/\
  jf.aF=s.aF/\jf.jG=s.jG/\jf.aO=s.aO/\jf.c.cl=s.c.cl/\sJ w' A es.length c es/\es.length=jf.aO.length/\(∀(i:Nat)(h:i<es.length),Co jf i es[i])/\aP w' f n j ((qy jf.act (oI n)).map (·.1))/\NM w A es f
theorem NN(f:n<=1000)(h:w.ownsRow base 3 1 (.slice A n c) n (jj ((k_ n).map λ j:Nat=>(j:Int)+1))){aH G:Nat}{iC:Option Addr}{n6 jd:Nat}(i:w.cell? ⟨aH,0,none⟩=some (.pointer (some ⟨G,0,none⟩)))(q:w.cell? ⟨G,8,none⟩=some (.slice iC n6 jd))
  (l:n6=n+1) (m:∃b,iC=some ⟨b,0,none⟩/\b<base/\∀v,v<=n->w.cell? ⟨b,v,none⟩=some (.int .i64 (ak act v))) (y:aH<base) (z:G<base) (B:base<=w.heap.size):
  Calls u_ 157 #[.slice A n c,.func (.func 158) #[] #[.pointer (some ⟨aH,0,none⟩)]] w λ e w'=>e=.returned (.tuple #[])/\w'.ownsRow base 3 1 (.slice A n c) n (jj ((qy act (oI n)).map (·.1)))/\Below base w w':=by
 rcases f_ n with d|d
 ·subst d
  haveI:Inhabited Int:=⟨0⟩
  refine(Tryz.slices_SortFunc_none (α:=Int) A c _ w).mono ?_;rintro e w' ⟨rfl,rfl⟩;have o:oI 0=[]:=List.map_eq_nil_iff.1 (by rw[D9];rfl);refine⟨rfl,?_,Zt _ _⟩;rw[o];simp only[qy,List.mergeSort_nil];exact h
 ·obtain⟨k,rfl⟩:∃k,n=k+1:=⟨n-1,by omega⟩
  obtain⟨g,cap,p⟩:=CX h;injection p with r C D
  subst r;obtain⟨b,rfl,E,s⟩:=m;subst l;have t:=h.lt g rfl;refine(NB (ls:=oI (k+1)) (act:=act) (base:=base) (by rw[D9];exact h) t.1 f (by omega) (by omega) i q s ⟨by omega,by omega⟩ ⟨by omega,by omega⟩ ⟨by omega,by omega⟩).mono ?_;rintro e w' ⟨rfl,h1,u⟩;exact⟨rfl,h1,u⟩
theorem NO{fR aB h:Nat}(E:bf K base w G hs cb s)(S:mF F ah n fR s aB h)(cZ:n<=10)(c0:s.c.st.length<=1000000)
  {qz tq:Int} {qA:Option Addr} {qB qC:Nat} {mX tr tu mC sK:Value}:
  Calls u_ 100 #[.pointer (some ⟨G,0,none⟩),.agg #[.int .i64 qz,(.slice qA qB qC),mX,tr,tu,.int .i64 tq,mC,sK]] w (HK K base w G cb F ah n fR aB s qz qA qB qC):=by
 have ar:=U E;have c4:=U S;clear E S;go_enter Tryz.func100,Tryz.ntmps100
 go_upto_region 1 with fail
 have c5:∃al:Nat->Prop,al=qJ (qJ (qJ K w.heap.size) (w.heap.size+1)) (w.heap.size+1+1):=⟨_,rfl⟩
 obtain⟨al,br⟩:=c5;have bs:=bC w (.cells #[.pointer (some ⟨G,0,none⟩)] 115);have aI:=(ar.o.below bs).1.qJ (g:=w.heap.size) (by simp) (by have:=ar.o.e.box.lt;omega) (λ r e=>by have:=(ar.o.e.rows.lt e).2;omega) (λ d Q e=>by have:=(ar.o.e.cls d Q).lt;omega);have an:aR (w.alloc (.cells #[.pointer (some ⟨G,0,none⟩)] 115)) w.heap.size 115 [.pointer (some ⟨G,0,none⟩)]:=aR.new w 115 _;have bt:(w.alloc (.cells #[.pointer (some ⟨G,0,none⟩)] 115)).heap.size=w.heap.size+1:=by simp
 have b2:=bs;generalize w.alloc (.cells #[.pointer (some ⟨G,0,none⟩)] 115)=w1 at*;have a8:=bC w1 (.cells #[.int .i64 qz,(.slice qA qB qC),mX,tr,tu,.int .i64 tq,mC,sK] 47);have av:=(aI.below a8).1.qJ (g:=w1.heap.size) (by simp) (by have:=aI.e.box.lt;omega) (λ r e=>by have:=(aI.e.rows.lt e).2;omega) (λ d Q e=>by have:=(aI.e.cls d Q).lt;omega);have aJ:aR (w1.alloc (.cells #[.int .i64 qz,(.slice qA qB qC),mX,tr,tu,.int .i64 tq,mC,sK] 47)) w1.heap.size 47 [.int .i64 qz,(.slice qA qB qC),mX,tr,tu,.int .i64 tq,mC,sK]:=aR.new w1 47 _;replace an:=an.below a8;have z2:(w1.alloc (.cells #[.int .i64 qz,(.slice qA qB qC),mX,tr,tu,.int .i64 tq,mC,sK] 47)).heap.size=w.heap.size+1+1:=by simp[bt]
 have b3:=b2.trans (a8.mono (by omega));rw[bt] at av aJ;generalize w1.alloc (.cells #[.int .i64 qz,(.slice qA qB qC),mX,tr,tu,.int .i64 tq,mC,sK] 47)=aw at*;have aK:=bC aw (.cells #[.int .i64 0,.slice none 0 0,.slice none 0 0,.slice none 0 0,.slice none 0 0,.int .i64 0,.slice none 0 0,.slice none 0 0] 47);have aL:=(av.below aK).1.qJ (g:=aw.heap.size) (by simp) (by have:=av.e.box.lt;omega) (λ r e=>by have:=(av.e.rows.lt e).2;omega) (λ d Q e=>by have:=(av.e.cls d Q).lt;omega);have bu:aR (aw.alloc (.cells #[.int .i64 0,.slice none 0 0,.slice none 0 0,.slice none 0 0,.slice none 0 0,.int .i64 0,.slice none 0 0,.slice none 0 0] 47)) aw.heap.size 47 [.int .i64 0,.slice none 0 0,.slice none 0 0,.slice none 0 0,.slice none 0 0,.int .i64 0,.slice none 0 0,.slice none 0 0]:=aR.new aw 47 _;replace an:=an.below aK;replace aJ:=aJ.below aK;have b4:=b3.trans (aK.mono (by omega));rw[z2] at aL bu;rw[<-br] at aL;generalize aw.alloc (.cells #[.int .i64 0,.slice none 0 0,.slice none 0 0,.slice none 0 0,.slice none 0 0,.int .i64 0,.slice none 0 0,.slice none 0 0] 47)=b5 at*;have aL:=U aL;have aM:=U (z_ an (z_ aJ (z_ bu b4)));have c1:b5.cell? ⟨w.heap.size,0,none⟩=some (.pointer (some ⟨G,0,none⟩)):=an.cell 0;clear aI av an aJ bu b2 b3 b4 bs a8 aK bt z2;have b6:=U (Hx aL.o c4.o (by omega) c0);have aN:=U br;clear br;obtain⟨aH,b7⟩:∃b,w.heap.size=b:=⟨_,rfl⟩
 rw[b7] at c1 aM aN⊢
 go_upto_region 2 with(go_at_call 147;refine b6.o.mono ?_;rintro e f ⟨rfl,J,jf,bw,b8,ax,b9,b',ca,cc,cd,cf,c6⟩;dsimp only)
 have cg:∀b,K b->al b:=λ b l=>by rw[aN.o];exact .inl (.inl (.inl l))
 have bx:al aH:=by rw[aN.o];exact .inl (.inl (.inr rfl))
 have bA:al (aH+1):=by rw[aN.o];exact .inl (.inr rfl)
 have bB:al (aH+1+1):=by rw[aN.o];exact .inr rfl
 have N:=U (z_ (ax.blk aM.o.1 bx) (z_ (ax.blk aM.o.2.1 bA) (ax.blk aM.o.2.2.1 bB)));have m:=U (z_ b8 (z_ b9 (z_ b' (z_ ca (z_ cc (z_ cd (z_ cf (z_ cg (z_ bx (z_ bA bB))))))))));have ax:=U ax;clear b8 b9 b' ca cc cd cf c6 cg bx bA bB c1 b6;have c1:f.cell? ⟨aH,0,none⟩=some (.pointer (some ⟨G,0,none⟩)):=N.o.1.cell 0;obtain⟨z,n6,B,bD⟩:∃A n c,J 6=⟨A,n,c⟩:=⟨_,_,_,rfl⟩
 have aQ:f.cell? ⟨G,8,none⟩=some (.slice z n6 B):=by have:=m.o.1.e.kP (k:=8) (v:=(J 6).v) rfl;rw[bD] at this;exact this
 have ch:f.cell? ⟨G,9,none⟩=some (.int .i64 jf.bz):=m.o.1.e.kP (k:=9) (v:=.int .i64 jf.bz) rfl;have a':=U bD;clear bD
 go_region_held3 (λ w'=>w'.cell? ⟨aH,0,none⟩=some (.pointer (some ⟨G,0,none⟩))/\w'.cell? ⟨G,8,none⟩=some (.slice z n6 B)/\w'.cell? ⟨G,9,none⟩=some (.int .i64 jf.bz)) (first|exact⟨c1,aQ,ch⟩|go_keep) (fail)
 have nP:aR ((f.alloc (.cells #[.slice z n6 B,.slice none 0 0,.int .i64 jf.bz] 44)).drew) f.heap.size 44 [.slice z n6 B,.slice none 0 0,.int .i64 jf.bz]:=aR.new f 44 _;have cj:Below f.heap.size f ((f.alloc (.cells #[.slice z n6 B,.slice none 0 0,.int .i64 jf.bz] 44)).drew):=(bC f _).drew;have z5:((f.alloc (.cells #[.slice z n6 B,.slice none 0 0,.int .i64 jf.bz] 44)).drew).heap.size=f.heap.size+1:=by
  show(f.alloc _).heap.size=_;simp
 have ck:=m.o.2.1.rg.jH;have ab:f.cell? ⟨G,0,none⟩=some (.int .i64 (n:Int)):=by have:=m.o.1.e.kP (k:=0) (v:=.int .i64 (jf.c.n:Int)) rfl;rw[ck] at this;exact this
 have ba:=U (z_ nP (z_ cj (z_ z5 (z_ ab c1))));have cm:=m.o.1.e.box.lt;have cn:=N.o.1.lt;have aA:=U (z_ cm cn);clear nP cj z5 ck ab c1 aQ ch cm cn;generalize (f.alloc (.cells #[.slice z n6 B,.slice none 0 0,.int .i64 jf.bz] 44)).drew=dP at*
 go_wp2_with fail
 go_loopw [6] (λ i W=>∃(k:Nat)(D:Option Addr)(H:Nat),i=.int .i64 ((k:Int)+1)/\k<=n/\aR W f.heap.size 44 [.slice z n6 B,.slice D k H,.int .i64 jf.bz]/\W.ownsRow (f.heap.size+1) 3 1 (.slice D k H) k (jj ((k_ k).map λ j:Nat=>(j:Int)+1))/\Below f.heap.size f W) (λ i _=>n+1-(intOf i).toNat)
 case atStart=>exact⟨0,none,0,rfl,Zm _,ba.o.1,Zw _ _ _ _,ba.o.2.1⟩
 case round=>
  obtain⟨k,D,H,rfl,hk,bb,hO,bc⟩:=hrel;have Y:=U (z_ hk (z_ bb (z_ hO bc)));have c1:wr.cell? ⟨aH,0,none⟩=some (.pointer (some ⟨G,0,none⟩)):=(bc.cell (p:=⟨aH,0,none⟩) aA.o.2).trans ba.o.2.2.2.2;have ab:wr.cell? ⟨G,0,none⟩=some (.int .i64 (n:Int)):=(bc.cell (p:=⟨G,0,none⟩) aA.o.1).trans ba.o.2.2.2.1;have cp:=bb.cell 1;have c7:=bb.free 1;simp only[x_,y_] at cp;clear hk bb hO bc
  by_cases ad:k<n
  ·have bG:(k:Int)+1<=(n:Int):=by omega
   have d1:decide ((k:Int)+1<=(n:Int))=true:=decide_eq_true bG;have dQ:Zh.wrap ((k:Int)+1+1)=(k:Int)+1+1:=by rw[Zr];omega
   have cq:=U ad;have aC:f.heap.size+1<=wr.heap.size:=by have:=Y.o.2.1.lt;omega
   have bH:bF ((wr.alloc (.cells #[.int .i64 ((k:Int)+1)] 3)).ownsRow (f.heap.size+1) 3 1 (.slice D k H) k (jj ((k_ k).map λ j:Nat=>(j:Int)+1))):=U (mh Y.o.2.2.1 (bC wr _));have cr:=U aC;clear ad aC
   go_upto_region 5 with(at_builtin;refine rB rfl (.tmp 29) (.tmp 31) rfl (f.heap.size+1) (.slice D k H) k ((k_ k).map λ j:Nat=>(j:Int)+1) rfl bH.o (some ⟨wr.heap.size,0,none⟩) 1 1 [(k:Int)+1] rfl (aP.lit wr [(k:Int)+1] 1 _ rfl rfl (by omega)) (by omega) (by have:=cr.o;simp;omega) ?_;intro v9 bE bd;obtain⟨⟨t,kf,y⟩,c8,bg⟩:=ay.kZ bd.1;obtain rfl:v9=.slice t kf y:=c8;have bI:=U ((Y.o.2.1.below (bC wr (.cells #[.int .i64 ((k:Int)+1)] 3))).kept bd.2.1 (λ e=>by have:=(bH.o.lt f.heap.size e.symm).1;omega));have ct:=bI.o.cell 1;have c9:=bI.o.free 1;simp only[x_,y_] at ct;have bJ:=U bd;have da:=U bg;clear bd bg)
   have bg:kf=k+1:=da.o;subst bg;have ao:(bE.setCell ⟨f.heap.size,1,none⟩ (.slice t (k+1) y)).ownsRow (f.heap.size+1) 3 1 (.slice t (k+1) y) (k+1) (jj ((k_ (k+1)).map λ j:Nat=>(j:Int)+1)):=by
    have h1:=o6 bJ.o.1 (w':=bE.setCell ⟨f.heap.size,1,none⟩ (.slice t (k+1) y)) (λ b l=>q_ _ _ _ _ (by show b≠f.heap.size;have:=(bJ.o.1.lt b l).1;omega));rw[List.range_succ,List.map_append];exact h1
   have cu:Below f.heap.size f (bE.setCell ⟨f.heap.size,1,none⟩ (.slice t (k+1) y)):=by
    refine Below.setCell (p:=⟨f.heap.size,1,none⟩) ?_ (n_ _) _;exact tn (Y.o.2.2.2.alloc Y.o.2.2.2.size (.cells #[.int .i64 ((k:Int)+1)] 3)) bJ.o.2.1 (by have:=cr.o;simp;omega) (λ g e=>by have:=(bH.o.lt g e).1;show f.heap.size<=g;omega)
   have cv:=bI.o.set 1 (.slice t (k+1) y);have Z:=U (z_ ao (z_ cu cv));clear ao cu cv ct c9
   go_wp2_with fail
   go_roundw
   case rel=>exact⟨k+1,t,y,by go_num,by have:=cq.o;omega,Z.o.2.2,Z.o.1,Z.o.2.1⟩
   case measure=>have:=cq.o;simp[intOf];omega
  ·have bG:¬(k:Int)+1<=(n:Int):=by omega
   have d1:decide ((k:Int)+1<=(n:Int))=false:=decide_eq_false bG;obtain rfl:k=n:=by have:=Y.o.1;omega
   clear ad;have aQ:wr.cell? ⟨G,8,none⟩=some (.slice z n6 B):=by have:=((Y.o.2.2.2.cell (p:=⟨G,8,none⟩) aA.o.1).trans (m.o.1.e.kP (k:=8) (v:=(J 6).v) rfl));rw[a'.o] at this;exact this
   have dR:∀(fn:Fn)(first cap:Array Value)(w:World),(Instr.makeFunc fn first cap).run u_ w=.ok (.func fn first cap) w:=λ _ _ _ _=>rfl
   have db:jf.act.length=k+1:=m.o.2.1.rg.lB;have cw:=U (NN (act:=jf.act) (by omega) Y.o.2.2.1 c1 aQ (by have:=m.o.1.e.n6;rw[a'.o] at this;show n6=_;have C:n6=jf.act.length:=this;omega) (by
    obtain⟨bK,bj,dS,dT⟩:=m.o.1.e.l7 8 6 rfl m.o.1.e.n6 (by omega);have h1:(J 6).A=some ⟨bK,0,none⟩:=(m.o.1.e.rows.form bj).1;rw[a'.o] at h1;refine⟨bK,h1,by have:=(m.o.1.e.rows.lt bj).2;omega,λ v dU=>?_⟩;exact(Y.o.2.2.2.cell (p:=⟨bK,v,none⟩) (m.o.1.e.rows.lt bj).2).trans (m.o.1.e.yU bj (by omega))) (by have:=aA.o;omega) (by have:=aA.o;omega) (by have:=Y.o.2.1.lt;omega))
   clear aQ db
   go_upto_region 8 with(go_at_call 157;refine cw.o.mono ?_;rintro e I ⟨rfl,cx,cy⟩;dsimp only)
   have cz:aR I f.heap.size 44 [.slice z n6 B,.slice D k H,.int .i64 jf.bz]:=by
    have ad:=Y.o.2.1.lt;exact(cy.block f.heap.size (by omega)).trans Y.o.2.1
   have bL:Below f.heap.size f I:=Y.o.2.2.2.trans (cy.mono (by omega));have Z:=U (z_ cx (z_ cz bL));have gX:=(bL.block (aH+1) (N.o.2.1.lt)).trans N.o.2.1;have bM:bF (aR I (aH+1) 47 [.int .i64 qz,(.slice qA qB qC),mX,tr,tu,.int .i64 tq,mC,sK]):=U gX;clear cx cz bL gX cw cp c7;have s2:=bM.o.cell 2;have cA:=bM.o.free 2;simp only[x_,y_] at s2
   go_upto_region 9 with fail
   have cB:=(m.o.1.below Z.o.2.2).1;have ae:=cB.vb (g:=aH+1) m.o.2.2.2.2.2.2.2.2.2.1 2 (.slice none 0 0);have dc:(I.setCell ⟨aH+1,2,none⟩ (.slice none 0 0)).heap.size=I.heap.size:=by simp
   have cC:aR (I.setCell ⟨aH+1,2,none⟩ (.slice none 0 0)) (aH+1) 47 [.int .i64 qz,(.slice qA qB qC),.slice none 0 0,tr,tu,.int .i64 tq,mC,sK]:=bM.o.set 2 _;have cD:(I.setCell ⟨aH+1,2,none⟩ (.slice none 0 0)).ownsRow (f.heap.size+1) 3 1 (.slice D k H) k (jj ((qy jf.act (oI k)).map (·.1))):=o6 Z.o.1 (λ b l=>q_ _ _ _ _ (by show b≠aH+1;have:=(Z.o.1.lt b l).1;have:=N.o.2.1.lt;omega));have cE:aR (I.setCell ⟨aH+1,2,none⟩ (.slice none 0 0)) f.heap.size 44 [.slice z n6 B,.slice D k H,.int .i64 jf.bz]:=Z.o.2.1.kept (lq I (aH+1) 2 (.slice none 0 0)) (λ e=>by injection e with e;have:=N.o.2.1.lt;omega);have cF:aR (I.setCell ⟨aH+1,2,none⟩ (.slice none 0 0)) aH 115 [.pointer (some ⟨G,0,none⟩)]:=aR.kept (show aR I aH 115 _ from(Z.o.2.2.block aH aA.o.2).trans N.o.1) (lq I (aH+1) 2 (.slice none 0 0)) (λ e=>by injection e with e;omega);have cG:aR (I.setCell ⟨aH+1,2,none⟩ (.slice none 0 0)) (aH+1+1) 47 [.int .i64 0,.slice none 0 0,.slice none 0 0,.slice none 0 0,.slice none 0 0,.int .i64 0,.slice none 0 0,.slice none 0 0]:=aR.kept (show aR I (aH+1+1) 47 _ from(Z.o.2.2.block (aH+1+1) N.o.2.2.lt).trans N.o.2.2) (lq I (aH+1) 2 (.slice none 0 0)) (λ e=>by injection e with e;omega);have ae:=U ae;have dd:bF (aG K f (I.setCell ⟨aH+1,2,none⟩ (.slice none 0 0))):=U (by
    have aS:=ar.o.s.lt;have hw:Below f.heap.size f (I.setCell ⟨aH+1,2,none⟩ (.slice none 0 0))->True:=λ _=>trivial
    refine(aG.rf Z.o.2.2 (λ b l=>m.o.1.s.lt b (m.o.2.2.2.2.2.2.2.1 b l))).trans (aG.set (aH+1) 2 _ (λ hk=>by have:=aS _ hk;omega)))
   have L:=U (z_ cC (z_ cD (z_ cE (z_ cF cG))));clear cB cC cD cE cF cG dc s2 cA;generalize I.setCell ⟨aH+1,2,none⟩ (.slice none 0 0)=X at*;have dV:X.cell? ⟨aH,0,none⟩=some (.pointer (some ⟨G,0,none⟩)):=L.o.2.2.2.1.cell 0;obtain⟨cH,n10,de,bk⟩:∃A n c,J 10=⟨A,n,c⟩:=⟨_,_,_,rfl⟩
   have dW:X.cell? ⟨G,13,none⟩=some (.slice cH n10 de):=by have:=ae.o.e.kP (k:=13) (v:=(J 10).v) rfl;rw[bk] at this;exact this
   have cI:n10=jf.aO.length:=by have:=ae.o.e.n10;rw[bk] at this;exact this
   have aD:=U (z_ bk cI);clear bk cI c1 ab
   go_wp2_with fail
   have dX:jf.aO.length<=60000:=by
    have h1:=m.o.2.1.nA;have C:3^k<=3^10:=Nat.pow_le_pow_right (by omega) cZ;have aq:(3:Nat)^10=59049:=by decide
    omega
   go_loopw [44] (λ i W=>∃(j:Nat)(A:Option Addr)(c:Nat)(es:List mT),i=.int .i64 (j:Int)/\j<=n10/\HJ jf X W (aH+1) (.int .i64 qz) (.slice qA qB qC) tr tu (.int .i64 tq) mC sK A j c es) (λ i _=>n10-(intOf i).toNat)
   case atStart=>exact⟨0,none,0,[],rfl,Zm _,⟨L.o.1,Zw _ _ _ _,rfl,aG.refl,λ e h=>by(cases h),λ e h=>by(cases h),λ i h=>by(simp at h)⟩⟩
   case round=>
    obtain⟨j,A,c,es,rfl,dY,bN⟩:=hrel;have q:=U bN;have ag:=U (ae.o.still (P:=λ b=>b=aH+1) bN.jB (λ b e=>by rw[e];exact m.o.2.2.2.2.2.2.2.2.2.1));clear bN
    by_cases ad:j<n10
    ·have df:(j:Int)<(n10:Int):=by omega
     have bO:j<jf.aO.length:=by rw[<-aD.o.2];exact ad
     obtain⟨d,Q⟩:∃d,hU jf.aO j=d:=⟨_,rfl⟩
     have bl:d<jf.c.cl.length:=by rw[<-Q];exact m.o.2.1.rg.k8 _ (Gn bO)
     obtain⟨g10,bn,cJ⟩:=ag.o.e.rows.addr (r:=10) (by rw[aD.o.1];show n10≠0;omega);rw[aD.o.1] at bn;have bn:cH=some ⟨g10,0,none⟩:=bn;subst bn;have cl:=ag.o.e.Gm cJ bO;rw[Q] at cl;obtain⟨ab,dh,cK,cL,di⟩:=ag.o.Ai bl;obtain⟨aT,aE,aU,aV⟩:∃A n c,J (kO d)=⟨A,n,c⟩:=⟨_,_,_,rfl⟩
     rw[aV] at ab;replace ab:wr.cell? ⟨cb d,0,none⟩=some (.slice aT aE aU):=ab;have cM:aP wr aT aE aU (az jf.c.cl d):=by
      have h1:=ag.o.e.rows.row (kO d);have C:=ag.o.e.An d;rw[aV,DA,BM,yd] at h1;rw[aV] at C;have aq:=(m.o.2.1.gV.jS.mM d bl).len;rw[m.o.2.1.rg.jH] at aq;have C:aE=(az jf.c.cl d).length:=C;exact aP.kZ h1 (by omega)
     obtain⟨bp,bP⟩:∃x,(lN jf d).bp=x:=⟨_,rfl⟩
     obtain⟨ac,bR⟩:∃x,(lN jf d).ac=x:=⟨_,rfl⟩
     rw[bP] at cK;rw[bR] at cL;have s2:=q.o.gX.cell 2;have cA:=q.o.gX.free 2;simp only[x_,y_] at s2;have dZ:Zh.wrap ((j:Int)+1)=(j:Int)+1:=by rw[Zr];omega
     have aW:=U (z_ ad (z_ Q (z_ bP (z_ bR bl))));have dj:bF (HF wr X.heap.size (aH+1) A j c es (cb d) aT aE aU (az jf.c.cl d) bp ac):=U (by
      have cN:=q.o.jB.size;have d':=L.o.1.lt;have ea:=(ae.o.e.cls d bl).lt;have ao:∀g,(h_ A j c).ownBlock=some g->X.heap.size<=g/\g<wr.heap.size:=λ g e=>q.o.row.lt g e
      refine⟨s2,by omega,λ e=>by have:=(ao _ e.symm).1;omega,ab,cK,cL,by omega,λ e=>by have:=(ao _ e.symm).1;omega,cM,λ b e=>?_,λ g e=>(ao g e).2,cN,by have:=aD.o.2;omega⟩;have h1:(J (kO d)).b=some b:=by rw[aV];exact e
      have C:=(ae.o.e.rows.lt h1).2;exact⟨by omega,λ bo=>by have:=(ao _ bo.symm).1;omega⟩)
     have bS:=U (NK wr X.heap.size (aH+1) A j c es (cb d) aT aE aU (az jf.c.cl d) bp ac dj.o);clear ad bO Q bP bR dh di cM aV cJ
     go_upto_region 12 with fail
     refine yg (qb Tryz.f100 12) 20 82 _ _ [(3,.pointer (some ⟨aH+1,0,none⟩)),(8,.pointer (some ⟨cb d,0,none⟩))] _ (GE wr X.heap.size (aH+1) A j c es (cb d) aT aE aU (az jf.c.cl d) bp ac) _ _ 18 (by kernel_rfl) (by kernel_rfl) (by kernel_rfl) (by kernel_rfl) (by kernel_rfl) (by decide+kernel) (by decide+kernel) (by decide+kernel) (by decide+kernel) (by decide+kernel) rfl ⟨rfl,rfl,trivial⟩ (D7 (GU wr _)) (mh q.o.row ((Zt _ _).drew)) bS.o _ rfl ?_;intro vals M O ai dk aX;obtain⟨aY,c2,t,y,f18,bT,cO,dm,dn⟩:∃aY c2 t y,vals 18=.slice t (j+1) y/\tj wr M aY c2 (az jf.c.cl d)/\M.ownsRow X.heap.size 74 3 (.slice t (j+1) y) (j+1) (p0 (es++[Cn aY c2 (az jf.c.cl d) bp ac]))/\((h_ t (j+1) y).ownBlock=(h_ A j c).ownBlock\/∀g,(h_ t (j+1) y).ownBlock=some g->wr.heap.size<=g)/\∀b,aY.map (·.block)=some b->(h_ t (j+1) y).ownBlock≠some b:=ai 18 (by omega) rfl;have f19:vals 19=.pointer (some ⟨aH+1,2,none⟩):=ai 19 (by omega) rfl;simp only[mJ,Act.put,List.take,f18,f19] at aX;subst aX;have cN:=q.o.jB.size;have cP:=L.o.1.lt;have bq:=q.o.gX.kept O (λ e=>by have:=(q.o.row.lt (aH+1) e.symm).1;omega);have bU:=bq.cell 2;have f11:=bq.free 2;simp only[x_,y_] at bU;have cQ:HJ jf X (M.setCell ⟨aH+1,2,none⟩ (.slice t (j+1) y)) (aH+1) (.int .i64 qz) (.slice qA qB qC) tr tu (.int .i64 tq) mC sK t (j+1) y (es++[Cn aY c2 (az jf.c.cl d) bp ac]):=by
      have dp:∀b,X.heap.size<=b->b<wr.heap.size->(h_ A j c).ownBlock≠some b->(M.setCell ⟨aH+1,2,none⟩ (.slice t (j+1) y)).heap[b]? =wr.heap[b]? :=λ b h1 C aq=>(q_ _ _ _ _ (show b≠aH+1 by omega)).trans (O.block b C (λ e=>aq e.symm))
      have aC:wr.heap.size<=(M.setCell ⟨aH+1,2,none⟩ (.slice t (j+1) y)).heap.size:=Nat.le_trans O.size (lq M (aH+1) 2 _).size;refine⟨bq.set 2 _,o6 cO (λ b l=>q_ _ _ _ _ (show b≠aH+1 by have:=(cO.lt b l).1;omega)),by rw[e_,q.o.len];rfl,?_,λ e he=>?_,λ e he b l=>?_,λ i dq=>?_⟩
      ·refine(q.o.jB.trans ⟨O.os,O.tape,O.output,O.size,λ b l=>O.block b (by omega) (λ e=>by have:=(q.o.row.lt b e.symm).1;omega)⟩).trans (aG.set (aH+1) 2 _ (λ h=>h.2 rfl))
      ·rcases v_.1 he with h1|h1
       ·exact(q.o.rd e h1).xC aC (λ b l=>by have C:=q.o.ap e h1 b l;exact dp b C.1 C.2.1 C.2.2)
       ·rw[Zy.1 h1];exact bT.1.xC (lq M (aH+1) 2 _).size (λ b l=>q_ _ _ _ _ (show b≠aH+1 by have:=(bT.2 b l).1;omega))
      ·rcases v_.1 he with h1|h1
       ·obtain⟨C,aq,bw⟩:=q.o.ap e h1 b l;refine⟨C,by omega,λ bo=>?_⟩;rcases dm with bV|bV
        ·exact bw (by rw[<-bV];exact bo)
        ·have:=bV b bo;omega
       ·rw[Zy.1 h1] at l;obtain⟨C,aq⟩:=bT.2 b l;exact⟨by omega,Nat.lt_of_lt_of_le aq (lq M (aH+1) 2 _).size,dn b l⟩
      ·rcases p_ i es.length with h1|h1
       ·rw[Zq h1];exact q.o.sp i h1
       ·have C:i=es.length:=by rw[e_,List.length_singleton] at dq;omega
        subst C;rw[Zs (n_ _)];simp only[Nat.sub_self,List.getElem_cons_zero];have Q:=aW.o.2.1;have hl:=q.o.len;unfold Co;rw[hl,Q];exact⟨rfl,aW.o.2.2.1.symm,by show min ac 1099511627776=_;rw[aW.o.2.2.2.1];rfl⟩
     have dr:=U cQ;clear cQ bq O ai;simp only[bh,execOp];simp[bQ,go_sem,Act.eval,Act.put,bU,f11];clear bU f11
     go_wp2_with fail
     go_roundw
     case rel=>exact⟨j+1,t,y,_,by go_num,by have:=aW.o.1;omega,dr.o⟩
     case measure=>have:=aW.o.1;simp[intOf];omega
    ·have df:¬(j:Int)<(n10:Int):=by omega
     obtain rfl:j=n10:=by omega
     clear ad
     go_upto_region 14 with fail
     have aZ:wr.cell? ⟨G,12,none⟩=some (J 9).v:=ag.o.e.kP (k:=12) (v:=(J 9).v) rfl;have bW:wr.cell? ⟨G,14,none⟩=some (oO J jf):=ag.o.e.kP (k:=14) (v:=oO J jf) rfl;obtain⟨t,kf,y,bX⟩:∃A n c,J 9=⟨A,n,c⟩:=⟨_,_,_,rfl⟩
     obtain⟨R,T,V,bY⟩:∃A n c,oO J jf=.slice A n c:=by
      unfold oO
      cases jf.jG with
      |none=>exact⟨_,_,_,rfl⟩
      |some h=>exact⟨_,_,_,rfl⟩
     rw[bX] at aZ;rw[bY] at bW;replace aZ:wr.cell? ⟨G,12,none⟩=some (.slice t kf y):=aZ;have cP:=L.o.1.lt;have cR:=L.o.2.2.1.lt;have cS:=L.o.2.2.2.1.lt;have bZ:f.heap.size≠aH+1:=by have:=N.o.2.1.lt;omega
     have a6:aR wr f.heap.size 44 [.slice z n6 B,.slice D k H,.int .i64 jf.bz]:=q.o.jB.blk L.o.2.2.1 ⟨cR,bZ⟩;have cT:aR wr aH 115 [.pointer (some ⟨G,0,none⟩)]:=q.o.jB.blk L.o.2.2.2.1 ⟨cS,by omega⟩;have cU:aR wr (aH+1+1) 47 [.int .i64 0,.slice none 0 0,.slice none 0 0,.slice none 0 0,.slice none 0 0,.int .i64 0,.slice none 0 0,.slice none 0 0]:=q.o.jB.blk L.o.2.2.2.2 ⟨L.o.2.2.2.2.lt,by omega⟩;have dt:G≠aH+1:=λ e=>ae.o.s.g (by rw[e];exact m.o.2.2.2.2.2.2.2.2.2.1)
     have du:bF (HG wr G aH (aH+1) f.heap.size (.int .i64 qz) (.slice qA qB qC) (.slice A j c) tr tu (.int .i64 tq) mC sK z n6 B D k H jf.bz t kf y R T V):=U (by
      have aC:=q.o.jB.size;exact⟨a6.cell 0,a6.cell 1,a6.cell 2,⟨by omega,bZ⟩,cT.cell 0,⟨by omega,by omega⟩,aZ,bW,⟨Nat.lt_of_lt_of_le ae.o.e.box.lt aC,dt⟩⟩)
     have bS:=U (NL wr G aH (aH+1) f.heap.size (.int .i64 qz) (.slice qA qB qC) (.slice A j c) tr tu (.int .i64 tq) mC sK z n6 B D k H jf.bz t kf y R T V du.o);have b0:=U (z_ bX (z_ bY (z_ a6 (z_ cU bZ))));clear bX bY a6 cT cU cP cR cS aZ bW;refine yg (qb Tryz.f100 14) 14 82 _ _ [(5,.pointer (some ⟨f.heap.size,0,none⟩)),(2,.pointer (some ⟨aH,0,none⟩)),(3,.pointer (some ⟨aH+1,0,none⟩))] _ (yw wr G aH (aH+1) f.heap.size (.int .i64 qz) (.slice qA qB qC) (.slice A j c) tr tu (.int .i64 tq) mC sK z n6 B D k H jf.bz t kf y R T V) HI _ 10 (by kernel_rfl) (by kernel_rfl) (by kernel_rfl) (by kernel_rfl) (by kernel_rfl) (by decide+kernel) (by decide+kernel) (by decide+kernel) (by decide+kernel) (by decide+kernel) rfl ⟨rfl,rfl,rfl,trivial⟩ (D7 (GU wr _)) ⟨mC,q.o.gX⟩ bS.o _ rfl ?_;intro vals M O ai dk aX;have f12:aR M (aH+1) 47 [.int .i64 qz,(.slice qA qB qC),.slice A j c,.slice z n6 B,.slice D k H,.int .i64 jf.bz,.slice t kf y,sK]:=ai 12 (by omega) rfl;have f13:vals 13=.pointer (some ⟨aH+1,7,none⟩):=ai 13 (by omega) rfl;have f8:vals 8=.slice R T V:=ai 8 (by omega) rfl;simp only[mJ,Act.put,List.take,f13,f8] at aX;subst aX;have b1:=f12.cell 7;have cV:=f12.free 7;simp only[x_,y_] at b1;have aj:=U (f12.set 7 (.slice R T V));have aa:bF (aR (M.setCell ⟨aH+1,7,none⟩ (.slice R T V)) (aH+1+1) 47 [.int .i64 0,.slice none 0 0,.slice none 0 0,.slice none 0 0,.slice none 0 0,.int .i64 0,.slice none 0 0,.slice none 0 0]):=U ((b0.o.2.2.2.1.kept O (λ e=>by injection e with e;omega)).kept (lq M (aH+1) 7 (.slice R T V)) (λ e=>by injection e with e;omega));have a7:bF (wr.grownBy (M.setCell ⟨aH+1,7,none⟩ (.slice R T V)) (some (aH+1))):=U (xG O (lq M (aH+1) 7 _));simp only[bh,execOp];simp[bQ,go_sem,Act.eval,Act.put,b1,cV];clear b1 cV f12 O ai;generalize M.setCell ⟨aH+1,7,none⟩ (.slice R T V)=cW at*;have dv:=aj.o.cell 0;have dw:=aj.o.cell 1;have dx:=aj.o.cell 2;have dy:=aj.o.cell 3;have dz:=aj.o.cell 4;have dA:=aj.o.cell 5;have dB:=aj.o.cell 6;have dC:=aj.o.cell 7;have dD:=aa.o.cell 0;have dE:=aa.o.cell 1;have dF:=aa.o.cell 2;have dG:=aa.o.cell 3;have dH:=aa.o.cell 4;have dI:=aa.o.cell 5;have dJ:=aa.o.cell 6;have dK:=aa.o.cell 7;have ak:=aa.o.free;have eb:=ak 0;have ec:=ak 1;have ed:=ak 2;have ee:=ak 3;have ef:=ak 4;have eg:=ak 5;have eh:=ak 6;have ei:=ak 7;simp only[List.set_cons_succ,List.set_cons_zero,x_,y_] at dv dw dx dy dz dA dB dC dD dE dF dG dH dI dJ dK
     go_wp2_with fail
     have dL:=(((((((aa.o.set 0 (.int .i64 qz)).set 1 (.slice qA qB qC)).set 2 (.slice A j c)).set 3 (.slice z n6 B)).set 4 (.slice D k H)).set 5 (.int .i64 jf.bz)).set 6 (.slice t kf y)).set 7 (.slice R T V);have cX:aG (λ b=>b<wr.heap.size/\¬(b=aH+1\/b=aH+1+1)) wr cW:=⟨a7.o.os,a7.o.tape,a7.o.output,a7.o.size,λ b l=>a7.o.block b l.1 (λ e=>by injection e with e;exact l.2 (.inl e))⟩
     have af:∀(u:World)(i:Nat)(v:Value),aG (λ b=>b<wr.heap.size/\¬(b=aH+1\/b=aH+1+1)) u (u.setCell ⟨aH+1+1,i,none⟩ v):=λ u i v=>aG.set (aH+1+1) i v (λ h=>h.2 (.inr rfl))
     have aF:=(((((((cX.trans (af cW 0 (.int .i64 qz))).trans (af _ 1 (.slice qA qB qC))).trans (af _ 2 (.slice A j c))).trans (af _ 3 (.slice z n6 B))).trans (af _ 4 (.slice D k H))).trans (af _ 5 (.int .i64 jf.bz))).trans (af _ 6 (.slice t kf y))).trans (af _ 7 (.slice R T V));clear cX af;refine bodyPost_ret (results_cell_row (p:=4) (ty:=47) rfl _ _ (aH+1+1) 47 #[.int .i64 qz,.slice qA qB qC,.slice A j c,.slice z n6 B,.slice D k H,.int .i64 jf.bz,.slice t kf y,.slice R T V] (0,0) _ rfl dL Tryz.underlying47 rfl (by kernel_rfl)) rfl ?_;have dM:w.heap.size=aH:=b7;have ej:=q.o.jB.size;have ek:=L.o.1.lt;have en:=L.o.2.2.2.2.lt;have hlen:=q.o.len;subst hlen;have dN:(J 6).v=.slice z n6 B:=by rw[a'.o];rfl
     have dO:(J 9).v=.slice t kf y:=by rw[b0.o.1];rfl
     have cY:wr.ownsRow (f.heap.size+1) 3 1 (.slice D k H) k (jj ((qy jf.act (oI k)).map (·.1))):=o6 L.o.2.1 (λ b l=>by
      have h1:=L.o.2.1.lt b l;have C:=N.o.2.1.lt;exact q.o.jB.keep b ⟨h1.2,by omega⟩)
     refine⟨al,J,jf,bw,A,c,es,D,H,by rw[dN,dO,b0.o.2.1],m.o.2.2.2.2.2.2.2.1,ag.o.still (P:=λ b=>b=aH+1\/b=aH+1+1) aF (λ b l=>?_),?_,m.o.2.1,m.o.2.2.2.1,m.o.2.2.2.2.1,m.o.2.2.2.2.2.1,m.o.2.2.2.2.2.2.1,sJ.kZ (o6 q.o.row (λ b l=>?_)) (by have:=aD.o.2;omega) (λ e he=>?_),by rw[<-aD.o.2],q.o.sp,aP.kZ (o6 cY (λ b l=>?_)) (by omega),⟨λ b e=>?_,λ e he b l=>?_,λ b e=>?_⟩⟩
     ·rcases l with l|l
      ·rw[l];exact m.o.2.2.2.2.2.2.2.2.2.1
      ·rw[l];exact m.o.2.2.2.2.2.2.2.2.2.2
     ·have aS:=ar.o.s.lt;have f1:aG K w b5:=aG.rf (by rw[dM];exact aM.o.2.2.2) aS;refine(((f1.trans (ax.o.mono m.o.2.2.2.2.2.2.2.1)).trans dd.o).trans (q.o.jB.mono λ b l=>?_)).trans (aF.mono λ b l=>?_)
      ·have:=aS b l;exact⟨by omega,by omega⟩
      ·have:=aS b l;exact⟨by omega,by omega⟩
     ·have h1:=q.o.row.lt b l;exact aF.keep b ⟨h1.2,by omega⟩
     ·refine(q.o.rd e he).xC aF.size (λ b l=>?_);have h1:=q.o.ap e he b l;exact aF.keep b ⟨h1.2.1,by omega⟩
     ·have h1:=L.o.2.1.lt b l;have C:=N.o.2.2.lt;exact aF.keep b ⟨by omega,by omega⟩
     ·have h1:=(q.o.row.lt b ((ay.own ⟨A,es.length,c⟩).trans e)).1;omega
     ·have h1:=(q.o.ap e he b l).1;omega
     ·have h1:=(cY.lt b ((ay.own ⟨D,k,H⟩).trans e)).1;have C:=N.o.2.1.lt;omega
end
section
open Go.RowKit
def Ed(n:Nat)(b:Option Addr)(d e:Nat)(f:Option Addr)(nl cl:Nat)(A:Option Addr)(g c:Nat)(A':Option Addr)(i c':Nat)(j:Int)(k:Option Addr)(l m:Nat)(o:Option Addr)(p q:Nat):Value:=
 .agg #[.int .i64 n,.slice b d e,.slice f nl cl,.slice A g c,.slice A' i c',.int .i64 j,.slice k l m,.slice o p q]
def tv(n:Nat):List Bool:=List.replicate n false
theorem kN.nD{ai:List Bool}(h:kN w A n c ai)(v:Value){p:Addr}(d:∀b off,A=some ⟨b,off,none⟩->b≠p.block):kN (w.setCell p v) A n c ai:=by
 refine⟨h.len,h.cap,h.mG,h.n9,λ f=>?_⟩;obtain⟨b,off,e,g,i⟩:=h.cells f;exact⟨b,off,e,by simpa[World.setCell] using g,λ j k=>(Zj (q_ _ _ _ _ (d b off e))).trans (i j k)⟩
theorem NP(k:Nat):(madeCells (j_ false).cells k).toList=(tv k).map j_:=by
 show(madeCells #[j_ false] k).toList=_;rw[toList_madeCells_one];simp[tv]
theorem NQ(k:Nat):(tv k).length=k:=by simp[tv]
theorem NR(n:Nat)(w:World)(h:n<=65536):
  Calls u_ 42 #[.int .i64 n] w λ e w'=>∃(A:Option Addr)(c:Nat)(A':Option Addr)(c':Nat)(y:Option Addr)(z:Nat),e=.returned (.tuple #[Ed n none 0 0 none 0 0 A (n+1) c A' n c' 1 y (n+1) z none 0 0,.int .i64 0])/\
   aP w' A (n+1) c (sv (n+1))/\aP w' A' n c' (rC n)/\kN w' y (n+1) z (tv (n+1))/\Below w.heap.size w w':=by
 have aa:bF (∀W:World,Calls u_ 104 #[.int .i64 n] W (Fw (sv (n+1)) (rC n) 1 W)):=U λ W=>JU n W h
 obtain⟨i0,B,C,D,E⟩:=info_parts AF;have ab:∀W:World,(Instr.makeSlice 28 (.int .i64 ((n:Int)+1)) (.int .i64 ((n:Int)+1))).run u_ W=.ok (.slice (some ⟨W.heap.size,0,none⟩) (n+1) (n+1)) (W.alloc (.cells (madeCells (j_ false).cells (n+1)) 4)):=λ W=>by
  have:=run_make (P:=u_) W 28 4 i0 (.bool false) Zv B C .i64 .i64 ((n:Int)+1) ((n:Int)+1) (by omega) (by omega) (by rw[E];omega) (by omega);rw[D,show((n:Int)+1).toNat=n+1 by omega,Nat.mul_one] at this;exact this
 have wn:Zh.wrap ((n:Int)+1)=(n:Int)+1:=by rw[Zr];omega
 clear B C D E;generalize F:madeCells (j_ false).cells (n+1)=cs at ab;have G:=U F;clear F;go_enter Tryz.func42,Tryz.ntmps42
 go_upto_region 1 with fail
 have H:aR (w.alloc (.cells #[.int .i64 0,.slice none 0 0,.slice none 0 0,.slice none 0 0,.slice none 0 0,.int .i64 0,.slice none 0 0,.slice none 0 0] 47)) w.heap.size 47 [.int .i64 0,.slice none 0 0,.slice none 0 0,.slice none 0 0,.slice none 0 0,.int .i64 0,.slice none 0 0,.slice none 0 0]:=aR.new w 47 _;have I:=bC w (.cells #[.int .i64 0,.slice none 0 0,.slice none 0 0,.slice none 0 0,.slice none 0 0,.int .i64 0,.slice none 0 0,.slice none 0 0] 47);have z0:(w.alloc (.cells #[.int .i64 0,.slice none 0 0,.slice none 0 0,.slice none 0 0,.slice none 0 0,.int .i64 0,.slice none 0 0,.slice none 0 0] 47)).heap.size=w.heap.size+1:=by simp
 generalize w.alloc (.cells #[.int .i64 0,.slice none 0 0,.slice none 0 0,.slice none 0 0,.slice none 0 0,.int .i64 0,.slice none 0 0,.slice none 0 0] 47)=w0 at*;have ad:=U I;clear I
 go_upto_region 4 with(go_at_call 104;refine(aa.o _).mono ?_;rintro e w1 ⟨A,c,A',c',rfl,h1,s,J,K,L⟩;have ae:=U J;have af:=U K;clear J K;rw[wN] at h1;rw[wM] at s;simp only[wN,wM];have q:=U L;have H1:=U h1;have ag:=U s;clear L h1 s)
 have t:=(H.below q.o).below (bC w1 (.cells #[.slice A (n+1) c,.slice A' n c',.int .i64 1] 44));have M:=(ad.o.trans (q.o.mono (by omega))).trans ((bC w1 (.cells #[.slice A (n+1) c,.slice A' n c',.int .i64 1] 44)).mono (by have:=q.o.size;omega));have p:aR (w1.alloc (.cells #[.slice A (n+1) c,.slice A' n c',.int .i64 1] 44)) w1.heap.size 44 [.slice A (n+1) c,.slice A' n c',.int .i64 1]:=aR.new w1 44 _;have ah:=U (H1.o.below (bC w1 (.cells #[.slice A (n+1) c,.slice A' n c',.int .i64 1] 44)));have ai:=U (ag.o.below (bC w1 (.cells #[.slice A (n+1) c,.slice A' n c',.int .i64 1] 44)));have ay:=q.o.size;generalize az:w1.heap.size=aA at*;generalize w1.alloc (.cells #[.slice A (n+1) c,.slice A' n c',.int .i64 1] 44)=f at*;have N:=U M;clear M;have aj:=p.cell 0;have ak:=p.cell 1;have al:=p.cell 2;have r:=p.below (bC f (.cells cs 4));have z0:=r.cell 0;have an:=r.cell 1;have z2:=r.cell 2;simp only[x_,y_] at aj ak al z0 an z2;clear r;have aB:=U p;clear p;have d:=t.below (bC f (.cells cs 4));have O:=d.cell 0;have Q:=d.cell 1;have R:=d.cell 2;have S:=d.cell 3;have T:=d.cell 4;have V:=d.cell 5;have X:=d.cell 6;have Y:=d.cell 7;have g:=d.free;have f0:=g 0;have f1:=g 1;have f2:=g 2;have f3:=g 3;have f4:=g 4;have f5:=g 5;have f6:=g 6;have f7:=g 7;have ao:=U t;have aC:=U d;clear t H d g;simp only[x_,y_] at O Q R S T V X Y;rename_i aq Z;have ar:=U Z;clear Z;refine wp_region_noPanic ?_
 go_region_law (fail)
 all_goals
  show aq _ _;apply ar.o
  go_wp2_with fail
  have j:∀b off,A=some ⟨b,off,none⟩->b≠w.heap.size:=λ b off e=>by have:=ae.o b off e;omega
  have k:∀b off,A'=some ⟨b,off,none⟩->b≠w.heap.size:=λ b off e=>by have:=af.o b off e;omega
  have au:w.heap.size<=f.heap.size:=N.o.size;have aD:=ao.o.lt;have l:∀b off,(some ⟨f.heap.size,0,none⟩:Option Addr)=some ⟨b,off,none⟩->b≠w.heap.size:=λ b off e=>by cases e;omega
  have av:kN (f.alloc (.cells cs 4)) (some ⟨f.heap.size,0,none⟩) (n+1) (n+1) (tv (n+1)):=by
   have aw:(tv (n+1)).map j_=cs.toList:=by rw[<-G.o,NP]
   have ax:cs.size=n+1:=by rw[<-G.o,size_madeCells]
   exact kN.kZ (base:=0) ⟨by simp[NQ],Or.inr ⟨_,_,cs,rfl,Zm _,heap_alloc_new _ _,n_ _,by unfold maxLen;omega,by omega,by rw[aw,Zl (by simp[ax])]⟩⟩ (by omega)
  have m:∀(u:World)(i:Nat)(v:Value),Below w.heap.size w u->Below w.heap.size w (u.setCell ⟨w.heap.size,i,none⟩ v):=λ u i v hu=>hu.setCell (n_ _) _
  refine bodyPost_ret (v:=.tuple #[Ed n none 0 0 none 0 0 A (n+1) c A' n c' 1 (some ⟨f.heap.size,0,none⟩) (n+1) (n+1) none 0 0,.int .i64 0]) (by simp[results,Tryz.results42,go_sem,Act.put,Ed,O,Q,R,S,T,V,X,Y]) rfl ⟨A,c,A',c',_,_,rfl,?_,?_,?_,?_⟩
  ·exact(((((((((ah.o.below (bC f (.cells cs 4))).nD _ j).nD _ j).nD _ j).nD _ j).nD _ j).nD _ j).nD _ j).nD _ j).drew
  ·exact(((((((((ai.o.below (bC f (.cells cs 4))).nD _ k).nD _ k).nD _ k).nD _ k).nD _ k).nD _ k).nD _ k).nD _ k).drew
  ·exact((((((((((av).nD _ l).nD _ l).nD _ l).nD _ l).nD _ l).nD _ l).nD _ l).nD _ l)).below ((Zt _ _).drew)
  ·exact(m _ _ _ (m _ _ _ (m _ _ _ (m _ _ _ (m _ _ _ (m _ _ _ (m _ _ _ (m _ _ _ (N.o.trans ((bC f (.cells cs 4)).mono au)))))))))).drew
end
section
open Go.RowKit Go.Sort Go.Lib
theorem NS(l:List Int)(k:Nat):jP l k=ak l k:=rfl
theorem AI{a b:Int}:vQ act a b<0↔ak act b.toNat<ak act a.toNat\/(ak act b.toNat=ak act a.toNat/\a<b):=by
 have f:vQ act a b=rW (ox (ak act b.toNat) (ak act a.toNat)) (ox a b):=rfl;rw[f];rcases D8 (ak act b.toNat) (ak act a.toNat) with⟨h,e⟩|⟨h,e⟩|⟨h,e⟩<;>rw[e]
 ·simp[rW];omega
 ·rcases D8 a b with⟨d,c⟩|⟨d,c⟩|⟨d,c⟩<;>rw[c]<;>simp[rW]<;>omega
 ·simp[rW];omega
theorem Cq:uf act l=true↔∀i,i<l.length->(0<ak l i/\ak l i<act.length)/\(i=0\/vQ act (ak l (i-1)) (ak l i)<0):=by
 unfold uf tF;rw[s_];constructor
 ·intro h i b;have:=h i (d_.2 b);rw[r_,Zo,Bg,decide_eq_true_eq,decide_eq_true_eq] at this;exact this
 ·intro h i b;rw[r_,Zo,Bg,decide_eq_true_eq,decide_eq_true_eq];exact h i (d_.1 b)
theorem Ee{act l:List Int}(h:uf act l=true)(i:Nat):∀j,i<j->j<l.length->vQ act (ak l i) (ak l j)<0
 |0,h1,_=>by omega
 |j+1,h1,d=>by
  have b:=(Cq.1 h (j+1) d).2;rw[show j+1-1=j by omega] at b;rcases b with b|b
  ·omega
  ·rcases p_ i j with c|c
   ·have e:=Ee h i j c (by omega);rw[AI] at*;omega
   ·obtain rfl:i=j:=by omega
    exact b
theorem HL(h:uf act l=true){i j:Nat}(b:i<l.length)(c:j<l.length)(e:ak l i=ak l j):i=j:=by
 rcases Nat.lt_trichotomy i j with h1|h1|h1
 ·have:=Ee h i j h1 c;rw[AI,e] at this;omega
 ·exact h1
 ·have:=Ee h j i h1 b;rw[AI,e] at this;omega
theorem HM:∀(n:Nat)(f:Nat->Nat),(∀i,i<n->f i<n)->(∀i j,i<n->j<n->f i=f j->i=j)->∀v,v<n->∃i,i<n/\f i=v
 |0,f,_,_,v,k=>by omega
 |n+1,f,h1,b,v,k=>by
  have hm:=h1 n (by omega);have d:=HM n (λ i=>if f i=n then f n else f i) (λ i c=>by
   show(if f i=n then f n else f i)<n;split
   ·rename_i e;have:f n≠n:=λ g=>by have:=b i n (by omega) (by omega) (by omega);omega
    omega
   ·have:=h1 i (by omega);omega) (λ i j c m e=>by
   have e:(if f i=n then f n else f i)=(if f j=n then f n else f j):=e;refine b i j (by omega) (by omega) ?_;split at e<;>split at e
   ·omega
   ·have:=b n j (by omega) (by omega) e;omega
   ·have:=b i n (by omega) (by omega) e;omega
   ·exact e)
  by_cases l:v=n
  ·subst l
   by_cases e:f v=v
   ·exact⟨v,by omega,e⟩
   ·obtain⟨i,c,he⟩:=d (f v) (by omega);have he:(if f i=v then f v else f i)=f v:=he;split at he
    ·rename_i g;exact⟨i,by omega,g⟩
    ·have:=b i v (by omega) (by omega) he;omega
  ·obtain⟨i,c,he⟩:=d v (by omega);have he:(if f i=n then f n else f i)=v:=he;split at he
   ·exact⟨n,by omega,he⟩
   ·exact⟨i,by omega,he⟩
structure sL(n:Nat)(act l:List Int)(y:Int):Prop where
 lB:act.length=n+1
 qs:l.length=n
 a0:ak act 0=0
 qp:∀v,0<=ak act v/\ak act v<=jK
 bO:1<=y/\y<=jK
 k9:uf act l=true
 tP:n<=65536
theorem Cr:mZ x=false↔0<=x/\x<=jK:=by
 unfold mZ jK;rw[Bool.or_eq_false_iff,decide_eq_false_iff_not,decide_eq_false_iff_not];omega
theorem sL.check(h:sL n act l y):ug act l y=true:=by
 have h1:act.any mZ=false:=by
  rw[Zu];intro x b;obtain⟨k,hk,e⟩:=qn.1 b;have:=h.qp k;rw[e] at this;have:=Cr.2 this;rw[this];simp
 have f:=h.lB;have c:vo act=true:=by
  unfold vo;rw[h1,NS,h.a0,h.lB];have:=h.tP;simp;omega
 have d:wL y=true:=by
  unfold wL;rw[Cr.2 ⟨by have:=h.bO;omega,h.bO.2⟩];have:=h.bO;simp;omega
 unfold ug;rw[c,d,h.k9];rfl
theorem sL.ur(h:sL n act l y){i:Nat}(b:i<n):1<=ak l i/\ak l i<=n:=by
 have:=(Cq.1 h.k9 i (by rw[h.qs];exact b)).1;rw[h.lB] at this;omega
theorem sL.new(n:Nat)(h:n<=65536):sL n (sv (n+1)) (rC n) 1:=by
 have b:∀v,ak (sv (n+1)) v=0:=Ag _;refine⟨wN _,wM _,b 0,λ v=>by rw[b];unfold jK;omega,by unfold jK;omega,Cq.2 λ i c=>?_,h⟩;rw[wM] at c;have hu:∀k,k<n->ak (rC n) k=(k:Int)+1:=λ k hk=>by
  rw[nu (by rw[wM];exact hk)];simp[rC]
 rw[hu i c,wN];refine⟨by omega,?_⟩;rcases f_ i with d|d
 ·exact .inl d
 ·right;rw[hu (i-1) (by omega),AI,b,b];omega
theorem NT(n:Nat):(oI n).Nodup:=by
 have h:((oI n).map (·.1)).Nodup:=by
  rw[D9];refine List.Pairwise.map _ (λ a b c=>?_) (List.nodup_range (n:=n));intro e;exact c (by omega)
 exact List.Pairwise.of_map (λ x:ve n=>x.1) (λ a b c e=>c (by rw[e])) h
theorem sL.sorted(g:act.length=n+1)(a0:ak act 0=0)(m:∀v,0<=ak act v/\ak act v<=jK)(o:1<=y/\y<=jK)(p:n<=65536):sL n act ((qy act (oI n)).map (·.1)) y:=by
 have hp:(qy act (oI n)).Perm (oI n):=List.mergeSort_perm _ _;have q:(qy act (oI n)).length=n:=by
  rw[hp.length_eq];unfold oI;simp
 have r:(qy act (oI n)).Nodup:=hp.nodup_iff.2 (NT n);have s:(qy act (oI n)).Pairwise λ x y=>(!(ltOf (uJ act)) y x)=true:=List.pairwise_mergeSort (λ a b c h1 d=>by
  rw[c_] at*;exact(Cl act n).ntrans _ _ _ d h1) (λ a b=>by
  rw[Zo,c_,c_]
  cases h:ltOf (uJ act) b a with
  |false=>exact .inl rfl
  |true=>
   right
   cases d:ltOf (uJ act) a b with
   |false=>rfl
   |true=>have:=(Cl act n).trans _ _ _ h d;have:=(Cl act n).irrefl b;simp_all) _
 refine⟨g,by rw[l_,q],a0,m,o,Cq.2 λ i f=>?_,p⟩;rw[l_] at f;have j:∀k (hk:k<(qy act (oI n)).length),ak ((qy act (oI n)).map (·.1)) k=(qy act (oI n))[k].1:=λ k hk=>by
  rw[nu (by rw[l_];exact hk),List.getElem_map]
 rw[j i f,g];have t:=((qy act (oI n))[i]).2;refine⟨by omega,?_⟩;rcases f_ i with l|l
 ·exact .inl l
 ·right;rw[j (i-1) (by omega)];have h1:=g_.1 s (i-1) i (by omega) f (by omega);have d:=g_.1 r (i-1) i (by omega) f (by omega);rw[c_,AH,decide_eq_false_iff_not,AG] at h1;rw[AI];have u:(qy act (oI n))[i-1].1≠(qy act (oI n))[i].1:=λ e=>d (Subtype.ext e)
  omega
def uK(n:Nat)(ord:List Int)(k:Nat):List Int:=(k_ k).foldl (λ p i=>p.set (ak ord i).toNat (i:Int)) (List.replicate (n+1) 0)
theorem Cs(n:Nat)(ord:List Int)(k:Nat):uK n ord (k+1)=(uK n ord k).set (ak ord k).toNat (k:Int):=by
 unfold uK;rw[List.range_succ,List.foldl_append];rfl
theorem AJ(n:Nat)(ord:List Int):∀k,(uK n ord k).length=n+1
 |0=>by simp[uK]
 |k+1=>by rw[Cs,List.length_set,AJ n ord k]
theorem Ef(n:Nat)(ord:List Int):∀k v,0<=ak (uK n ord k) v
 |0,v=>by
  have:ak (uK n ord 0) v=0:=Ag _ _;omega
 |k+1,v=>by
  rw[Cs,oZ];split
  ·omega
  ·exact Ef n ord k v
theorem Eg{n:Nat}{act ord:List Int}{y:Int}(h:sL n act ord y):∀k,k<=n->∀i,i<k->ak (uK n ord k) (ak ord i).toNat=i
 |0,_,i,b=>by omega
 |k+1,hk,i,b=>by
  rw[Cs,oZ,AJ];have h1:=h.ur (i:=k) (by omega);have c:=h.ur (i:=i) (by omega)
  by_cases e:i=k
  ·subst e;rw[if_pos ⟨rfl,by omega⟩]
  ·rw[if_neg (λ d=>e (HL h.k9 (by rw[h.qs];omega) (by rw[h.qs];omega) (by omega))),Eg h k (by omega) i (by omega)]
theorem sL.lW{ord:List Int}(h:sL n act ord y):mw n ord (uK n ord n):=by
 have hl:=h.qs;refine⟨AJ _ _ _,λ i c=>?_,λ v h1 g k=>?_,λ v=>by have:=Ef n ord n v;omega⟩
 ·have:=h.ur (i:=i) (by omega);exact⟨this.1,this.2,Eg h n (n_ _) i (by omega)⟩
 ·obtain⟨i,c,e⟩:=HM n (λ i=>(ak ord i).toNat-1) (λ i c=>by have:=h.ur c;show(ak ord i).toNat-1<n;omega) (λ i j c d e=>by
   have e:(ak ord i).toNat-1=(ak ord j).toNat-1:=e;have a:=h.ur c;have b:=h.ur d;exact HL h.k9 (by omega) (by omega) (by omega)) (v-1) (by omega)
  have e:(ak ord i).toNat-1=v-1:=e;have a:=h.ur c;have f:(ak ord i).toNat=v:=by omega
  have:=Eg h n (n_ _) i c;rw[f] at this;rw[this];refine⟨by omega,?_⟩;rw[Int.toNat_natCast];omega
theorem NU(h:sD l)(n:∀x∈l,x≠0)(s:sd l=false):l.Nodup/\∀x∈l,¬-x∈l:=by
 have o:∀i j (c:i<l.length) (d:j<l.length),i<j->pZ l[i] l[j]=true:=λ i j c d p=>g_.1 h i j c d p
 refine⟨h.imp λ{a b} t e=>by subst e;exact B8 _ t,λ x q u=>?_⟩;obtain⟨i,c,k⟩:=i_.1 q;obtain⟨j,d,m⟩:=i_.1 u;have w:=n x q;have key:∀i j (c:i<l.length) (d:j<l.length),i<j->l[i]= -l[j]->False:=by
  intro i j c d p e;have v:j=i+1:=by
   rcases p_ (i+1) j with h1|h1
   ·exfalso;have f:=o i (i+1) c (by omega) (by omega);have g:=o (i+1) j (by omega) d h1;rw[xq] at f g;unfold rA at f g;have:=n _ (t_ c);split at f<;>split at f<;>split at g<;>split at g<;>omega
   ·omega
  subst v;have r:sd l=true:=by
   unfold sd uG;rw[b_];refine⟨i+1,d_.2 d,?_⟩;rw[show i+1-1=i by omega,ql c,ql d,r_,decide_eq_true_eq,beq_iff_eq];exact⟨by omega,e⟩
  rw[s] at r;cases r
 rcases Nat.lt_trichotomy i j with h1|h1|h1
 ·exact key i j c d h1 (by rw[k,m,Int.neg_neg])
 ·subst h1;rw[k] at m;omega
 ·exact key j i d c h1 (by rw[k,m])
theorem HN(e:∀x∈l,x≠0)(b:sd l=true):vr l:=by
 unfold sd uG at b;rw[b_] at b;obtain⟨i,c,h1⟩:=b;have c:=d_.1 c;rw[r_,decide_eq_true_eq,beq_iff_eq] at h1;have d:jP l i∈l:=ue c;have f:jP l (i-1)∈l:=ue (by omega);exact⟨jP l i,d,e _ d,by rw[<-h1.2];exact f⟩
theorem gP.l5(h:gP n x)(b:n<=65536):l5 x 65536=true:=by
 rw[vO];unfold gP aD at h;omega
theorem Ct(b:n<=65536)(c:∀x∈g,gP n x)(x:Int):x∈lg g↔x∈g:=by
 rw[Ca];exact⟨λ h=>h.1,λ h=>⟨h,(c x h).l5 b⟩⟩
theorem vr.same(h:∀x,x∈a↔x∈b)(t:vr a):vr b:=by
 obtain⟨x,h1,c,d⟩:=t;exact⟨x,(h x).1 h1,c,(h _).1 d⟩
theorem sW.same(h:∀x,x∈a↔x∈b)(t:sW M a):sW M b:=by
 obtain⟨x,h1,c⟩:=t;exact⟨x,(h x).1 h1,c⟩
theorem HO(f:n<=65536)(c:∀x∈g,gP n x)(i:rD F g):Gd n F g (lg g) (sd (lg g)):=by
 have hm:=Ct f c;have e:∀x∈lg g,x≠0:=λ x d=>(c x ((hm x).1 d)).oM
 refine⟨λ b j=>?_,λ b M k=>(i M k).same λ x=>(hm x).symm,hm,λ b=>(HN e b).same hm⟩;obtain⟨h1,l⟩:=NU (G5 g) e b;exact⟨j,λ x d=>c x ((hm x).1 d),h1,l⟩
theorem NV(c:n<=65536)(h:oN n g):sd (lg g)=false/\lg g≠ []:=by
 have hm:=Ct c h.lt;refine⟨?_,λ e=>?_⟩
 ·cases d:sd (lg g) with
  |false=>rfl
  |true=>
   exfalso;obtain⟨x,h1,i,f⟩:=HN (λ x b=>(h.lt x ((hm x).1 b)).oM) d;exact h.bM x ((hm x).1 h1) ((hm _).1 f)
 ·obtain⟨x,b⟩:=List.exists_mem_of_ne_nil _ h.ne;have:=(hm x).2 b;rw[e] at this;cases this
theorem Eh(h:lS n ls=0):n<=65536/\ls.length<=65536/\∀l∈ls,∀x∈l,gP n x:=by
 unfold lS at h;split at h
 ·omega
 ·split at h
  ·omega
  ·split at h
   ·omega
   ·rename_i h1 b f;refine⟨by omega,by omega,λ l hl x d=>?_⟩;rw[Bool.not_eq_false] at b;unfold sr at b;have c:=s_.1 b l hl;unfold wJ at c;have e:=s_.1 c x d;rw[vO] at e;unfold gP aD;omega
theorem Cu(d:n<=65536)(h1:ls.length<=65536)(b:∀l∈ls,∀x∈l,gP n x):lS n ls=0:=by
 refine CW (by omega) ?_ (by omega);unfold sr wJ;rw[s_];intro l hl;rw[s_];intro x c;have:=b l hl x c;rw[vO];unfold gP aD at this;omega
end
section
open Go.RowKit
def vf(k v:Nat):Bool:=decide (k/2^v%2=1)
theorem Cv(k v:Nat):vf k v=k.testBit v:=(Nat.testBit_eq_decide_div_mod_eq).symm
def nX(n k:Nat):List Bool:=false::(k_ n).map (vf k)
theorem HP(n k:Nat):(nX n k).length=n+1:=by simp[nX]
theorem NW{v:Nat}(h1:1<=v)(b:v<=n):iY (nX n k) v=vf k (v-1):=by
 obtain⟨u,rfl⟩:∃u,v=u+1:=⟨v-1,by omega⟩
 unfold iY nX;rw[Zx,y_,List.getElem?_map,List.getElem?_range (by omega)];rfl
theorem HQ:∀(n:Nat)(f:Nat->Bool),∃k,k<2^n/\∀v,v<n->vf k v=f v
 |0,f=>⟨0,by simp,λ v b=>by omega⟩
 |n+1,f=>by
  obtain⟨k,hk,h⟩:=HQ n f
  cases c:f n with
  |false=>
   refine⟨k,by rw[Nat.pow_succ];omega,λ v b=>?_⟩;rcases p_ v n with h1|h1
   ·exact h v h1
   ·obtain rfl:v=n:=by omega
    rw[Cv,Zk hk,c]
  |true=>
   refine⟨2^n+k,by rw[Nat.pow_succ];omega,λ v b=>?_⟩;rcases p_ v n with h1|h1
   ·rw[Cv,Nat.testBit_two_pow_add_gt h1,<-Cv];exact h v h1
   ·obtain rfl:v=n:=by omega
    rw[Cv,Nat.testBit_two_pow_add_eq,Zk hk,c];rfl
theorem HR(b:gP n x)(c:n<=65536):su gX x=kr gX x:=by
 rw[Fs (b.l5 c)];have d:=b.oM;unfold kr;have e:vP gX x.natAbs=iY gX x.natAbs:=rfl;rw[e]
 by_cases h:x<0
 ·rw[if_pos h,decide_eq_false (show¬0<x by omega)]
  cases iY gX x.natAbs<;>rfl
 ·rw[if_neg h,decide_eq_true (show 0<x by omega)]
  cases iY gX x.natAbs<;>rfl
theorem HS(hl:∀x∈l,gP n x)(c:n<=65536):wK gX l=true↔sW (kr gX) l:=by
 rw[JB];constructor
 ·rintro⟨x,b,h⟩;exact⟨x,b,by rw[<-HR (hl x b) c];exact h⟩
 ·rintro⟨x,b,h⟩;exact⟨x,b,by rw[HR (hl x b) c];exact h⟩
theorem HT(b:lS n ls=0):tE n ls gX=true↔∀l∈ls,sW (kr gX) l:=by
 obtain⟨h1,d,c⟩:=Eh b;unfold tE;rw[b,r_,s_];constructor
 ·rintro⟨_,h⟩ l hl;exact(HS (c l hl) h1).1 (h l hl)
 ·intro h;exact⟨rfl,λ l hl=>(HS (c l hl) h1).2 (h l hl)⟩
def qN(a:List Bool)(l:List Int):Bool:=l.all λ x=>decide (1<=x.natAbs)&&decide (x.natAbs<a.length)&&(iY a x.natAbs==decide (0<x))
theorem Ei{a:List Bool}(e:a.length=n+1)(hl:∀x∈l,gP n x):qN a l=true↔∀x∈l,kr a x=true:=by
 unfold qN;rw[s_];refine forall_congr' λ x=>forall_congr' λ b=>?_
 have h:=hl x b;have f:=h.oM;have c:decide (1<=x.natAbs)=true:=decide_eq_true h.1;have d:decide (x.natAbs<a.length)=true:=decide_eq_true (by have:=h.2;unfold aD at this;omega);rw[c,d];unfold kr
 by_cases h1:x<0
 ·rw[if_pos h1,decide_eq_false (show¬0<x by omega)]
  cases iY a x.natAbs<;>simp
 ·rw[if_neg h1,decide_eq_true (show 0<x by omega)]
  cases iY a x.natAbs<;>simp
def oK(n:Nat)(ls:List (List Int))(l:List Int):Bool:=(k_ (2^n)).any λ k=>qN (nX n k) l&&tE n ls (nX n k)
def Can(F:List (List Int))(l:List Int):Prop:=∃M,sX M F/\∀x∈l,M x=true
theorem HU(c:Mod M)(hk:∀v,v<n->vf k v=M ((v:Int)+1)){x:Int}(b:gP n x):kr (nX n k) x=M x:=by
 unfold gP aD at b;unfold kr;rw[NW b.1 b.2,hk _ (by omega)]
 by_cases h:x<0
 ·rw[if_pos h,show((x.natAbs-1:Nat):Int)+1= -x by omega,c x (by omega),Bool.not_not]
 ·rw[if_neg h,show((x.natAbs-1:Nat):Int)+1=x by omega]
theorem Ej(c:lS n ls=0)(hl:∀x∈l,gP n x):oK n ls l=true↔Can ls l:=by
 obtain⟨h1,m,j⟩:=Eh c;unfold oK;rw[b_];constructor
 ·rintro⟨k,hk,h⟩;rw[r_,Ei (HP n k) hl,HT c] at h;exact⟨kr (nX n k),⟨wh _,h.2⟩,h.1⟩
 ·rintro⟨M,d,h⟩;obtain⟨k,hk,f⟩:=HQ n λ v=>M ((v:Int)+1)
  refine⟨k,d_.2 hk,?_⟩;rw[r_,Ei (HP n k) hl,HT c];refine⟨λ x b=>(HU d.1 f (hl x b)).trans (h x b),λ g i=>?_⟩;obtain⟨x,b,e⟩:=d.2 g i;exact⟨x,b,(HU d.1 f (j g i x b)).trans e⟩
end
section
theorem Can.mono{l':List Int}(h:∀x∈l',x∈l):Can F l->Can F l':=λ⟨M,h1,b⟩=>⟨M,h1,λ x c=>b x (h x c)⟩
def ry(l o:List Int):List Int:=l.filter λ x=>o.contains x
theorem Cw{o:List Int}:x∈ry l o↔x∈l/\x∈o:=by simp[ry]
theorem Ek(l o:List Int):(ry l o).Sublist l:=List.filter_sublist
theorem NX{left core:List Int}{i:Nat}(o:left.Nodup)(g:i<left.length)(d:∀x∈core,x∈left.eraseIdx i)(hu:¬Can F core)(l:∀j,j<i->Can F (left.eraseIdx j)):
  ¬Can F (ry left core)/\(ry left core).length<left.length/\i<=(ry left core).length/\∀j,j<i->Can F ((ry left core).eraseIdx j):=by
 have p:∀j (h:j<i),left[j]∈core:=λ j h=>by
  rcases Decidable.em (left[j]∈core) with h1|h1
  ·exact h1
  ·exfalso;refine hu ((l j h).mono λ x b=>?_);obtain⟨k,hk,_,e⟩:=w_.1 (d x b);refine w_.2 ⟨k,hk,λ c=>?_,e⟩;subst c;rw[e] at h1;exact h1 b
 have q:∀x∈core,x∈left:=λ x b=>by
  obtain⟨k,hk,_,e⟩:=w_.1 (d x b);rw[<-e];exact t_ hk
 have e:ry left core=left.take i++ry (left.drop i) core:=by
  have:left.filter (λ x=>core.contains x)=(left.take i++left.drop i).filter (λ x=>core.contains x):=by rw[List.take_append_drop]
  unfold ry;rw[this,List.filter_append]
  congr 1
  rw[List.filter_eq_self];intro x b;obtain⟨k,hk,e⟩:=List.mem_take_iff_getElem.1 b;rw[<-e];simpa using p k (by omega)
 have t:(left.take i).length=i:=by rw[List.length_take];omega
 refine⟨λ h=>hu (h.mono λ x b=>Cw.2 ⟨q x b,b⟩),?_,by rw[e,e_];omega,λ j r=>(l j r).mono λ x b=>?_⟩
 ·unfold ry;rw[List.length_filter_lt_length_iff_exists];refine⟨left[i],t_ g,λ h=>?_⟩;have h:left[i]∈core:=by simpa using h
  obtain⟨k,hk,f,c⟩:=w_.1 (d _ h);have:=List.getElem_inj (xs:=left) (i:=k) (j:=i) (h₀:=hk) (h₁:=g) o;exact f (this.1 c)
 ·obtain⟨k,hk,f,c⟩:=w_.1 b;rcases p_ k i with h1|h1
  ·refine w_.2 ⟨k,by omega,f,?_⟩;rw[<-c];simp only[e];rw[Zq (by omega),List.getElem_take]
  ·have s:x∈ry (left.drop i) core:=by
    rw[<-c];simp only[e];rw[Zs (by omega)];exact t_ _
   obtain⟨m,hm,n⟩:=i_.1 (Cw.1 s).1;rw[List.length_drop] at hm;rw[List.getElem_drop] at n;exact w_.2 ⟨i+m,by omega,by omega,n⟩
structure tV(F:List (List Int))(keep ah:List Int)(k:Nat)(m:List Bool):Prop where
 mod:∀g∈F,sW (kr m) g
 Av:∀x∈keep,kr m x=true
 done:∀j (h:j<ah.length),j<k->kr m ah[j]=true\/¬Can F (keep++ah.filter (kr m)++[ah[j]])
theorem tV.yes(h:tV F keep ah k m)(hk:k<ah.length)(b:kr m ah[k]=true):tV F keep ah (k+1) m:=
 ⟨h.mod,h.Av,λ j c d=>by
  rcases p_ j k with h1|h1
  ·exact h.done j c h1
  ·obtain rfl:j=k:=by omega
   exact .inl b⟩
theorem tV.no(h:tV F keep ah k m)(hk:k<ah.length)(b:¬Can F (keep++ah.filter (kr m)++[ah[k]])):tV F keep ah (k+1) m:=
 ⟨h.mod,h.Av,λ j c d=>by
  rcases p_ j k with h1|h1
  ·exact h.done j c h1
  ·obtain rfl:j=k:=by omega
   exact .inr b⟩
theorem tV.next{lX:List Bool}(h:tV F keep ah k m)(hk:k<ah.length)(hm:∀g∈F,sW (kr lX) g)(d:∀x∈keep++ah.filter (kr m)++[ah[k]],kr lX x=true):tV F keep ah (k+1) lX:=by
 have h1:∀x∈ah,kr m x=true->kr lX x=true:=λ x b c=>d x (v_.2 (.inl (v_.2 (.inr (Zn.2 ⟨b,c⟩)))))
 refine⟨hm,λ x b=>d x (v_.2 (.inl (v_.2 (.inl b)))),λ j e o=>?_⟩;rcases p_ j k with c|c
 ·refine(h.done j e c).imp (h1 _ (t_ e)) λ i l=>i (l.mono λ x b=>?_)
  rcases v_.1 b with b|b
  ·rcases v_.1 b with b|b
   ·exact v_.2 (.inl (v_.2 (.inl b)))
   ·obtain⟨f,n⟩:=Zn.1 b;exact v_.2 (.inl (v_.2 (.inr (Zn.2 ⟨f,h1 x f n⟩))))
  ·exact v_.2 (.inr b)
 ·obtain rfl:j=k:=by omega
  exact .inl (d _ (by simp))
theorem tV.whole(h:tV F keep ah ah.length m):∀x∈ah,kr m x=false->¬Can F (keep++ah.filter (kr m)++[x]):=λ x c d=>by
 obtain⟨j,b,e⟩:=i_.1 c;subst e;rcases h.done j b b with h1|h1
 ·rw[d] at h1;cases h1
 ·exact h1
end
section
open Go.RowKit
theorem NY(b off n c:Nat)(w:World)(h:n<=c):Calls u_ 108 #[.slice (some ⟨b,off,none⟩) n c] w λ e w'=>e=.returned (.slice (some ⟨b,off,none⟩) n n)/\w'=w:=by
 have d:(0:Int)<=n:=by omega
 go_enter Tryz.func108,Tryz.ntmps108
 go_wp2;go_ret;exact⟨rfl,rfl⟩
theorem NZ(w:World):Calls u_ 108 #[.slice none 0 0] w λ e w'=>e=.returned (.slice none 0 0)/\w'=w:=by
 go_enter Tryz.func108,Tryz.ntmps108
 go_wp2;go_ret;exact⟨rfl,rfl⟩
theorem N0(b off n c:Nat)(w:World)(h:n<=c):Calls u_ 109 #[.slice (some ⟨b,off,none⟩) n c] w λ e w'=>e=.returned (.slice (some ⟨b,off,none⟩) n n)/\w'=w:=by
 have d:(0:Int)<=n:=by omega
 go_enter Tryz.func109,Tryz.ntmps109
 go_wp2;go_ret;exact⟨rfl,rfl⟩
theorem N1(w:World):Calls u_ 109 #[.slice none 0 0] w λ e w'=>e=.returned (.slice none 0 0)/\w'=w:=by
 go_enter Tryz.func109,Tryz.ntmps109
 go_wp2;go_ret;exact⟨rfl,rfl⟩
def N2(b:List Bool)(w:World)(e:Ending)(w':World):Prop:=
 ∃A c,e=.returned (.slice A b.length c)/\w'.ownsRow w.heap.size 4 1 (.slice A b.length c) b.length (b.map j_)/\Below w.heap.size w w'
theorem N3(A:Option Addr)(n c:Nat)(e:List Bool)(w:World)(h:kN w A n c e):
  Calls u_ 106 #[.slice A n c] w (N2 e w):=by
 obtain⟨i0,s,t,v,y⟩:=info_parts AF;have F:∀(w:World)(a:Option Addr)(n c m c':Nat),(binOp .eql 28 (.slice a n c) (.slice none m c')).run u_ w=.ok (.bool a.isNone) w:=λ w a n c m c'=>Lib.run_eql_slice_nil w _ _ a n c m c' Zv
 have hlen:=h.len;have G:=h.mG;have H:=U h;clear h
 cases A with
 |none=>
  have z:n=0:=by
   rcases f_ n with d|d
   ·exact d
   ·obtain⟨b,off,he,_⟩:=H.o.cells d;cases he
  subst z;have B:e=[]:=Zz hlen;subst B;clear hlen;go_enter Tryz.func106,Tryz.ntmps106
  go_wp2;go_ret;exact⟨none,0,rfl,Zw _ _ _ _,Zt _ _⟩
 |some a=>
  have f:=U hlen;clear hlen;go_enter Tryz.func106,Tryz.ntmps106
  go_wp2_with (at_builtin;refine wpList_append_own _ rfl _ _ 28 rfl w.heap.size 4 i0 (.bool false) 1 1 Zv s t v y rfl (by decide) _ _ _ rfl (World.ownsRow_made w #[] 0 (n_ _) (Zm _) rfl) a n c (e.map j_) rfl ?qc1 ?qc2 ?qc3 ?qc4 ?qc5 ?qc6 ?_)
  case qc1=>simp[f.o]
  case qc2=>
   intro j u p;have q:j<n:=by have:=(List.getElem?_eq_some_iff.1 p).1;simpa[f.o] using this
   obtain⟨b,off,he,i,C⟩:=H.o.cells (by omega);injection he with he
   subst he;rw[Addr.add_lit];rw[World.cell?_alloc_lt _ _ _ (by exact i),C j q];rw[List.getElem?_map,m_ (by rw[f.o];exact q)] at p;have D:j<e.length:=by rw[f.o];exact q
   rw[Zx,m_ D,Option.getD_some];exact p
  case qc3=>intro u hu;obtain⟨x,_,rfl⟩:=Zi.1 hu;rfl
  case qc4=>unfold maxLen;omega
  case qc5=>omega
  case qc6=>simp
  intro v' w1 l E I;go_wp2;go_ret;have i:Below w.heap.size w w1:=((Zt _ w).alloc (n_ _) _).grown E (by simp) (by intro k hk;simp[Value.ownBlock] at hk;omega);have hl:=f.o;subst hl;rcases l.2 with⟨r,d⟩|⟨g,cap,cur,r,J⟩
  ·subst r;refine⟨none,0,?_,?_,i⟩
   ·rw[d];rfl
   ·rw[d] at l⊢;exact l
  ·subst r;exact⟨_,_,rfl,l,i⟩
theorem bf.HV(E:bf K base w G hs cb s)(h:s.act.length<=1000000):
  (hs 6).v=.slice (hs 6).A s.act.length (hs 6).c/\aP w (hs 6).A s.act.length (hs 6).c s.act:=by
 have h1:w.ownsRow base 3 1 (hs 6).v (hs 6).n (jj s.act):=E.e.rows.row 6;have b:(hs 6).n=s.act.length:=E.e.n6;have d:(hs 6).v=.slice (hs 6).A s.act.length (hs 6).c:=by rw[<-b];rfl
 rw[d,b] at h1;exact⟨d,aP.kZ h1 (by omega)⟩
theorem bf.HW(E:bf K base w G hs cb s)(h:s.ia.length<=1000000):
  (hs 9).v=.slice (hs 9).A s.ia.length (hs 9).c/\kN w (hs 9).A s.ia.length (hs 9).c s.ia:=by
 have h1:w.ownsRow base 4 1 (hs 9).v (hs 9).n (pR s.ia):=E.e.rows.row 9;have b:(hs 9).n=s.ia.length:=E.e.kf;have d:(hs 9).v=.slice (hs 9).A s.ia.length (hs 9).c:=by rw[<-b];rfl
 rw[d,b] at h1;exact⟨d,kN.kZ h1 (by omega)⟩
theorem El(x:Int)(w:World):Calls u_ 112 #[.int .i64 x] w λ e w'=>e=.returned (.bool (mZ x))/\w=w':=by
 by_cases h1:x<0
 ·go_enter Tryz.func112,Tryz.ntmps112
  go_wp2;go_ret;exact⟨nC (by simp[mZ,h1]),rfl⟩
 ·by_cases b:1099511627776<x
  all_goals
   go_enter Tryz.func112,Tryz.ntmps112
   go_wp2;go_ret;exact⟨nC (by simp[mZ,h1,b]),rfl⟩
structure lp where
 n:Int
 gs:List (List Int)
 es:List mT
 act:List Int
 ord:List Int
 bz:Int
 ia:List Bool
 aF:List nH
structure rz(w:World)(s:lp)(bw:Option Addr)(aS:Nat)(jc:Option Addr)(cl:Nat)(A:Option Addr)(c:Nat)(A':Option Addr)(c':Nat)(hM:Option Addr)(gM:Nat)(bA:Option Addr)(bI:Nat):Prop where
 gs:kE w bw s.gs.length aS s.gs
 es:sJ w jc s.es.length cl s.es
 act:aP w A s.act.length c s.act
 ord:aP w A' s.ord.length c' s.ord
 ia:kN w hM s.ia.length gM s.ia
 aF:oJ w bA s.aF.length bI s.aF
def rT(n:Int)(b:Option Addr)(d e:Nat)(f:Option Addr)(nl cl:Nat)(A:Option Addr)(g c:Nat)(A':Option Addr)(i c':Nat)(j:Int)(k:Option Addr)(l m:Nat)(o:Option Addr)(p q:Nat):Value:=
 .agg #[.int .i64 n,.slice b d e,.slice f nl cl,.slice A g c,.slice A' i c',.int .i64 j,.slice k l m,.slice o p q]
theorem rz.below{w w':World}{s:lp}{bw:Option Addr}{aS:Nat}{jc:Option Addr}{cl:Nat}{A:Option Addr}{c:Nat}{A':Option Addr}{c':Nat}{hM:Option Addr}{gM:Nat}{bA:Option Addr}{bI:Nat}(h:rz w s bw aS jc cl A c A' c' hM gM bA bI)(b:Below w.heap.size w w'):rz w' s bw aS jc cl A c A' c' hM gM bA bI:=
 ⟨h.gs.below b,h.es.below b,h.act.below b,h.ord.below b,h.ia.below b,h.aF.below b⟩
def tw(e:mT):Bool:=decide (e.r.ai.length=0)||mZ e.bp||mZ e.ac
def tA(n:Int)(p:nH):Bool:=decide (p.lQ<1)||decide (3<p.lQ)||decide (lS n [p.r.ai]≠0)
def AK(s:lp):Bool:=decide (s.n<0)||decide (65536<s.n)|| !(ug s.act s.ord s.bz)||decide ((s.act.length:Int)≠s.n+1)||decide ((s.ord.length:Int)≠s.n)||decide ((s.ia.length:Int)≠s.n+1)||iY s.ia 0
def Em(s:lp):Int:=
 if AK s=true then 1 else if lS s.n s.gs≠0 then lS s.n s.gs else if s.es.any tw=true then 1
 else if lS s.n (s.es.map (·.r.ai))≠0 then lS s.n (s.es.map (·.r.ai)) else if s.aF.any (tA s.n)=true then 1 else 0
theorem zu{ai:List α}{p:α->Bool}(h:k<ai.length)(e:p ai[k]=true):ai.any p=true:=b_.2 ⟨_,t_ h,e⟩
theorem HX{ai:List α}{p:α->Bool}(h:k<ai.length)(e:p ai[k]=false)(b:(ai.take k).any p=false):(ai.take (k+1)).any p=false:=by
 rw[List.take_succ_eq_append_getElem h,List.any_append,b];simp[e]
theorem HY{ai:List α}{p:α->Bool}(hl:ai.length=n)(h:¬k<n)(b:(ai.take k).any p=false):ai.any p=false:=by
 rw[Zl (by omega)] at b;exact b
theorem sJ.HZ{b:Nat}{es:List mT}(h:sJ w (some ⟨b,off,none⟩) n c es){k:Nat}(hk:k<n)(d:k<es.length):
  w.cell? ⟨b,off+k*3,none⟩=some (k3 es[k].r)/\w.cell? ⟨b,off+k*3+1,none⟩=some (.int .i64 es[k].bp)/\w.cell? ⟨b,off+k*3+2,none⟩=some (.int .i64 es[k].ac)/\aP w es[k].r.A es[k].r.n es[k].r.c es[k].r.ai:=by
 obtain⟨m,o,e,p,f⟩:=h.cells (by omega);injection e with e
 injection e with j l
 subst j l;have g:=f (k*3) (by omega);have h1:=f (k*3+1) (by omega);have i:=f (k*3+2) (by omega);have g0:=Cm es k d 0 (by omega);have g1:=Cm es k d 1 (by omega);have g2:=Cm es k d 2 (by omega);rw[Nat.add_zero] at g0;rw[g0] at g;rw[g1] at h1;rw[g2] at i;exact⟨g,h1,i,h.rows _ (t_ d)⟩
theorem yx:∀es:List nH,(mX es).length=es.length*2
 |[]=>rfl
 |e::es=>by
  have:=yx es;unfold mX at this⊢;simp only[List.map_cons,List.flatten_cons,e_,this,rS,List.length_cons,List.length_nil];omega
theorem N4(a b:List nH):mX (a++b)=mX a++mX b:=by simp[mX]
theorem En:∀(es:List nH)(j:Nat)(h:j<es.length)(k:Nat),k<2->(mX es)[j*2+k]? =(rS es[j])[k]?
 |[],j,h,k,hk=>by simp at h
 |e::es,0,h,k,hk=>by
  show(rS e++mX es)[0*2+k]? =_;rw[List.getElem?_append_left (by simp[rS];omega)];simp
 |e::es,j+1,h,k,hk=>by
  show(rS e++mX es)[(j+1)*2+k]? =_;rw[List.getElem?_append_right (by simp[rS];omega)];have:=En es j (by simpa using h) k hk;rw[show(j+1)*2+k-(rS e).length=j*2+k by simp[rS];omega,this];rfl
theorem oJ.N5{b:Nat}{es:List nH}(h:oJ w (some ⟨b,off,none⟩) n c es){k:Nat}(hk:k<n)(d:k<es.length):
  w.cell? ⟨b,off+k*2,none⟩=some (.int .i64 es[k].lQ)/\w.cell? ⟨b,off+k*2+1,none⟩=some (k3 es[k].r)/\aP w es[k].r.A es[k].r.n es[k].r.c es[k].r.ai:=by
 obtain⟨l,m,e,o,f⟩:=h.cells (by omega);injection e with e
 injection e with i j
 subst i j;have g:=f (k*2) (by omega);have h1:=f (k*2+1) (by omega);have g0:=En es k d 0 (by omega);have g1:=En es k d 1 (by omega);rw[Nat.add_zero] at g0;rw[g0] at g;rw[g1] at h1;exact⟨g,h1,h.rows _ (t_ d)⟩
end
section
open Go.RowKit Go.Shelf
structure pL(n:Nat)(s:lp):Prop where
 jH:s.n=n
 g1:s.gs.length<=65536
 bL:∀g∈s.gs,∀x∈g,gP n x
 hk:sL n s.act s.ord s.bz
 nM:s.ia.length=n+1
 o8:iY s.ia 0=false
 xI:∀e∈s.es,oN n e.r.ai/\(0<=e.bp/\e.bp<=jK)/\(0<=e.ac/\e.ac<=jK)
 H6:∀e∈s.es,rD s.gs e.r.ai
 Eo:(s.es.map (·.r.ai)).Pairwise λ a b=>¬ya a b
 Cx:∀p∈s.aF,(p.lQ=1\/p.lQ=2\/p.lQ=3)/\∀x∈p.r.ai,gP n x
theorem pL.nA{s:lp}(h:pL n s):s.es.length+1<=3^n:=by
 have:=FK (n:=n) (ls:=s.es.map (·.r.ai)) (λ l hl=>by
  obtain⟨e,he,rfl⟩:=Zi.1 hl;exact(h.xI e he).1) (show List.Pairwise (λ a b=>¬∀x,x∈a↔x∈b) (s.es.map (·.r.ai)) from h.Eo)
 rwa[l_] at this
theorem zv(b:n<=10):3^n<=59049:=by
 have c:3^n<=3^10:=Nat.pow_le_pow_right (by omega) b;have d:(3:Nat)^10=59049:=by decide
 omega
theorem pL.N6{s:lp}(h:pL n s)(d:n<=10):Em s=0:=by
 have m:=h.nA;have o:=zv d;have f:AK s=false:=by
  unfold AK;rw[h.hk.check,h.o8,h.jH,h.hk.lB,h.hk.qs,h.nM];simp;omega
 have g:lS s.n s.gs=0:=by rw[h.jH];exact Cu (by omega) h.g1 h.bL
 have i:s.es.any tw=false:=by
  rw[Zu];intro e he;obtain⟨h1,b,c⟩:=h.xI e he;unfold tw;rw[Cr.2 b,Cr.2 c];have:e.r.ai.length≠0:=λ hl=>h1.ne (Zz hl)
  simpa using this
 have j:lS s.n (s.es.map (·.r.ai))=0:=by
  rw[h.jH];refine Cu (by omega) (by rw[l_];omega) λ l hl=>?_
  obtain⟨e,he,rfl⟩:=Zi.1 hl;exact(h.xI e he).1.lt
 have k:s.aF.any (tA s.n)=false:=by
  rw[Zu];intro p hp;obtain⟨h1,b⟩:=h.Cx p hp;have c:lS s.n [p.r.ai]=0:=by
   rw[h.jH];exact Cu (by omega) (by simp) λ l hl=>by rw[Zy.1 hl];exact b
  unfold tA;rw[c];simp;omega
 unfold Em;rw[if_neg (by rw[f];exact Zp),if_neg (by rw[g];simp),if_neg (by rw[i];exact Zp),if_neg (by rw[j];simp),if_neg (by rw[k];exact Zp)]
def ow(e:nH):nE:=⟨e.lQ,⟨e.r.A,e.r.n,e.r.c⟩⟩
theorem H7(es:List nH):mC (es.map ow)=mX es:=by
 unfold mC mX;rw[List.map_map];rfl
theorem H8{K:Nat->Prop}{w:World}{n:Nat}:∀(b:List nE),(∀p∈b,qx K w n p)->∃es:List nH,es.map ow=b/\∀e∈es,((e.lQ=1\/e.lQ=2\/e.lQ=3)/\∀x∈e.r.ai,gP n x)/\aP w e.r.A e.r.n e.r.c e.r.ai
 |[],_=>⟨[],rfl,λ e he=>by cases he⟩
 |p::b,h=>by
  obtain⟨es,h1,d⟩:=H8 b (λ q f=>h q (by simp[f]));obtain⟨g,⟨ai,i,j⟩,_⟩:=h p (by simp);refine⟨⟨p.lQ,⟨p.h.A,p.h.n,p.h.c,ai⟩⟩::es,by rw[List.map_cons,h1];rfl,λ e he=>?_⟩;rcases List.mem_cons.1 he with rfl|he
  ·exact⟨⟨g,j⟩,i⟩
  ·exact d e he
theorem bf.H9(E:bf K base w G hs cb s)(P:pn K w s){es:List nH}(he:es.map ow=s.aF)(l:∀e∈es,aP w e.r.A e.r.n e.r.c e.r.ai)(hl:es.length<=1099511627776):
  ∃A c,oO hs s=.slice A es.length c/\oJ w A es.length c es/\(es.length=c\/w.ownsRow base 126 2 (.slice A es.length c) es.length (mX es))/\(A=none->es.length=0/\c=0)/\(A≠none->∃b off,A=some ⟨b,off,none⟩):=by
 have t:mC s.aF=mX es:=by rw[<-he,H7]
 have B:s.aF.length=es.length:=by rw[<-he,l_]
 cases j:s.jG with
 |some h=>
  obtain⟨h1,i,o⟩:=P h j;have C:oO hs s=h.v:=by unfold oO;rw[j]
  rw[C];obtain⟨A,m,c⟩:=h;have h1:m=es.length:=by rw[<-B];exact h1
  have i:c=m:=i;subst i h1;refine⟨A,es.length,rfl,⟨rfl,n_ _,by omega,by unfold maxLen;omega,λ p=>?_,l⟩,.inl rfl,λ e=>?_,λ e=>by rcases o with⟨d,_⟩|⟨b,off,d,_⟩;exact absurd d e;exact⟨b,off,d⟩⟩
  ·rcases o with⟨_,d⟩|⟨b,off,d,u,y⟩
   ·have d:es.length=0:=d;omega
   ·refine⟨b,off,d,E.s.lt b (u p),λ k hk=>?_⟩;have z:k<(mX es).length:=by rw[yx];exact hk
    have:=y k _ (by rw[t];exact m_ z);rw[this,m_ z]
  ·rcases o with⟨_,d⟩|⟨b,off,d,u,y⟩
   ·have d:es.length=0:=d;exact⟨d,d⟩
   ·have d:A=some ⟨b,off,none⟩:=d;rw[e] at d;cases d
 |none=>
  have h1:w.ownsRow base 126 2 (hs 11).v (hs 11).n (cont hs cb s 11):=E.e.rows.row 11;have D:cont hs cb s 11=mX es:=by
   show(match s.jG with|some _=> []|none=>mC s.aF)=_;rw[j];exact t
  have F:oO hs s=(hs 11).v:=by unfold oO;rw[j]
  rw[D] at h1;have i:(hs 11).n=es.length:=by
   have:=h1.1;rw[yx] at this;omega
  rw[F];generalize hs 11=H at*;obtain⟨A,m,c⟩:=H;have i:m=es.length:=i;subst i;refine⟨A,c,rfl,?_,.inr h1,?_,?_⟩
  ·rcases h1.2 with⟨f,q⟩|⟨g,cap,cur,f,L,M,I,J,N,O⟩
   ·simp only[ay.v,o_] at f;obtain⟨rfl,d,rfl⟩:=f;exact⟨rfl,by omega,by omega,by unfold maxLen;omega,λ p=>by omega,l⟩
   ·simp only[ay.v,o_] at f;obtain⟨rfl,_,rfl⟩:=f;refine⟨rfl,I,by omega,J,λ p=>⟨g,0,rfl,(h1.lt g rfl).2,λ k hk=>?_⟩,l⟩;rw[Nat.zero_add];exact h1.cellAt k hk
  ·intro e;rcases h1.2 with⟨f,q⟩|⟨g,cap,cur,f,_⟩
   ·simp only[ay.v,o_] at f;exact⟨q,f.2.2⟩
   ·simp only[ay.v,o_] at f;rw[e] at f
    cases f.1
  ·intro e;rcases h1.2 with⟨f,q⟩|⟨g,cap,cur,f,_⟩
   ·simp only[ay.v,o_] at f;exact absurd f.1 e
   ·simp only[ay.v,o_] at f;exact⟨g,0,f.1⟩
end
end Go.Proofs.YtogdlkfacflmaaaGreat
