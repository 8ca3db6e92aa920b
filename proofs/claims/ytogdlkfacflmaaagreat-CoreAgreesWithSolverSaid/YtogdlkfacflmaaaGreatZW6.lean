/- Parts of the walk of the solver and its core; no condition. -/
import Derived.Test.YtogdlkfacflmaaaGreatZW3
import Derived.Test.YtogdlkfacflmaaaGreatZW5
import Derived.ArgAppend
import Derived.Deep.DeepCutAuto
import Derived.WalkMore
import Derived.Test.YtogdlkfacflmaaaGreatZW1
namespace Go.Proofs.YtogdlkfacflmaaaGreat
set_option linter.unusedVariables false
set_option linter.unusedSimpArgs false
set_option maxRecDepth 1000000
set_option maxHeartbeats 8000000
open _root_.And renaming intro→z_
open _root_.Array renaming getD_eq_getD_getElem?→y_,replicate→t_,all_eq_true_iff_forall_mem→q_,getElem?_eq_getElem→j_,mem_of_getElem?→Zz
open _root_.Go.Proofs.Tryz renaming prog→x_
open _root_.Go.Region renaming binds→w_,wanted→l_,ready→Zw
open _root_.List renaming length_set→v_,getD_eq_getElem?_getD→u_,length_append→r_,length_singleton→p_,getElem?_eq_some_iff→i_,all_eq_true→h_,getElem?_eq_getElem→f_,length_cons→d_,set_set→c_,set_getElem_self→Zy,range→Zx,map_set→Zs
open _root_.Go.CallsIn renaming inRound→s_
open _root_.Go renaming callsIn_wide→o_
open _root_.Nat renaming le_refl→n_,eq_zero_or_pos→m_,zero_add→g_,lt_or_ge→Zv
open _root_.Go.Result renaming andThen_ok→k_
open _root_.Bool renaming and_eq_true→e_,or_eq_true→b_
open _root_.Go.Value renaming int→a_
open _root_.Go.Sem renaming run_bind→Zu,run_pure→Zt
open _root_.Go.IntKind renaming i64→Zr
open _root_.Go.KeepsOthers renaming refl→Zq
variable{ws:List (List Nat)}{iq Init:World->Prop}{G mH i id base aH bI bL c6 bt n:Nat}{dead:Nat->Option Nat}{w W:World}{v:Value}{P:Program}{ops:Array Oper}{Q:Exit->Act->World->Prop}{a:Act}{s aI:an}{o:Oper}{K:Nat->Prop}{hs ls:Nat->ax}{cb:Nat->Nat}{out mk:List Int}{op B:Int}{hU:ax}{iO:List Value}{X:Nat->List Value}{aP:List Bool}
section
open Go.RowKit
def z6(ws:List (List Nat))(iq:World->Prop)(G:Nat->Value->World->Prop)(dead:Nat->Option Nat)(Init:World->Prop)(mH:Nat)(i:Nat)(w:World)(v:Value)(w':World):Prop:=
 iq w'/\G i v w'/\(∀j u,j≠i->dead j≠some i->nM ws 8 j i=false->(∀c,dead j=some c->nM ws 8 i c=false)->G j u w->G j u w')/\(i≠mH->nM ws 8 i mH=false->Init w->Init w')
theorem z6.same{G:Nat->Value->World->Prop}(b:iq w)(h:G i v w):z6 ws iq G dead Init mH i w v w:=⟨b,h,λ _ _ _ _ _ _ h=>h,λ _ _ h=>h⟩
theorem z6.more{G:Nat->Value->World->Prop}{w':World}(hm:∀j u w w',Below w.heap.size w w'->G j u w->G j u w')(c:∀w w',Below w.heap.size w w'->Init w->Init w')(b:Below w.heap.size w w')(d:iq w')(h:G i v w'):z6 ws iq G dead Init mH i w v w':=⟨d,h,λ j u _ _ _ _ h=>hm j u w w' b h,λ _ _ h=>c w w' b h⟩
def yK(P:Program)(ds:List (Option Tmp))(ws:List (List Nat))(old:List (Tmp×Value))(iq:World->Prop)(G:Nat->Value->World->Prop)(dead:Nat->Option Nat)(Init:World->Prop)(mH:Nat)(i:Nat)(o:Oper):Prop:=
 ∀(vals:Nat->Value)(w:World)(b:Operand->Value),iq w->(nM ws 8 mH i=true\/i=mH->Init w)->rN ds G dead i vals w b o.after.toList->q9 ds ws i b old->rf b->
  bq P b o w (z6 ws iq G dead Init mH i w)
def uj(P:Program)(ds:List (Option Tmp))(ws:List (List Nat))(old:List (Tmp×Value))(iq:World->Prop)(G:Nat->Value->World->Prop)(dead:Nat->Option Nat)(Init:World->Prop)(mH:Nat):Nat->List Oper->Prop
 |_,[]=>True
 |k,o::r=>yK P ds ws old iq G dead Init mH k o/\uj P ds ws old iq G dead Init mH (k+1) r
theorem uj.at{P:Program}{ds:List (Option Tmp)}{ws:List (List Nat)}{old:List (Tmp×Value)}{iq:World->Prop}{G:Nat->Value->World->Prop}{dead:Nat->Option Nat}{Init:World->Prop}{mH:Nat}:∀{l:List Oper}{k i:Nat}{o:Oper},uj P ds ws old iq G dead Init mH k l->l[i]? =some o->yK P ds ws old iq G dead Init mH (k+i) o
 |[],k,i,o,_,h=>by simp at h
 |x::l,k,0,o,hs,h=>by
  simp only[List.getElem?_cons_zero,Option.some.injEq] at h;subst h;exact hs.1
 |x::l,k,i+1,o,hs,h=>by
  rw[List.getElem?_cons_succ] at h;have:=uj.at hs.2 h
  rwa[show k+1+i=k+(i+1) by omega] at this
section
variable {P:Program}{l:List Oper}{Q:Exit->Act->World->Prop}{a:Act}{old:List (Tmp×Value)}{iq:World->Prop}{G:Nat->Value->World->Prop}{dead:Nat->Option Nat}{Init:World->Prop}{mH:Nat}
theorem Kq{ds:List (Option Tmp)}{ws:List (List Nat)}(S:ws=l.map λ o:Oper=>(o.after.toList.filter (w_ .any)).map (·.on))(D:ds=l.map λ o:Oper=>o.dst)(E:sv l.toArray=true)(z:qd l.toArray=true)(T:sw l.toArray a.tmps.size=true)
  (hold:pK a.eval old)
  {i:Nat} {o:Oper} (p:l.toArray[i]? =some o) (F:yK P ds ws old iq G dead Init mH i o) {listed:Array Bool} {vals:Nat->Value} {w:World} {K:Act->World->Prop} (aq:listed.size=l.toArray.size) (U:iq w) (hF:uf G dead (gK listed) vals w) (H:gK listed mH=false->Init w)
  (V:i∈Zw .any l.toArray listed) (hC:ri ws (gK listed))
  (W:∀v w',iq w'->ri ws (gK (listed.setIfInBounds i true))->uf G dead (gK (listed.setIfInBounds i true)) (kP vals i v) w'->(gK (listed.setIfInBounds i true) mH=false->Init w')->K (jB l.toArray (kP vals i v) (gK (listed.setIfInBounds i true)) a l.toArray.size) w'):
  wpOp P l.toArray Q i K (jB l.toArray vals (gK listed) a l.toArray.size) w:=by
 obtain⟨h1,I,X,J,M⟩:=ug V;obtain rfl:o=X:=by rw[p] at J;injection J
 have f:i<listed.size:=by omega
 have n:gK listed i=false:=by
  unfold gK;rw[y_,j_ f] at I⊢;simpa using I
 unfold wpOp;simp only[p];have Y:o.guard=none:=by
  unfold qd at z;rw[q_] at z;have:=z o (Zz p);simpa using this
 have hw:l_ o (yielded l.toArray (jB l.toArray vals (gK listed) a l.toArray.size).tmps)=true:=by unfold l_;rw[Y]
 rw[if_pos hw];left;unfold yK at F;have Z:=F vals w (jB l.toArray vals (gK listed) a l.toArray.size).eval U (λ q=>H (by
  rcases q with q|q
  ·cases d:gK listed mH with
   |false=>rfl
   |true=>
    have:=hC.reach 8 mH i d q;rw[n] at this;cases this
  ·rw[<-q];exact n)) (rN.of λ e he A=>by
  have hl:=M e (Array.mem_toList_iff.1 he) A;have aa:e.on<l.toArray.size:=by
   rcases Zv e.on listed.size with h|h
   ·omega
   ·rw[y_,Array.getElem?_eq_none h] at hl;cases hl
  refine⟨λ r=>hF e.on hl λ c d=>?_,λ s hs=>?_⟩
  ·rcases r with r|r
   ·rw[r] at d;cases d
   ·rw[r] at d;injection d with d
    rw[<-d];exact n
  ·rw[D,<-wK] at hs;exact yz hs (A7 T hs) hl (λ k hk=>wI E hk hs) _ aa) (q9.of (λ s hs=>yy (λ j s' hl b B=>by
   injection B with B
   subst B;rw[wK,<-D] at b;have:=hC j i hl (A6 hs b);rw[n] at this;cases this) _) hold) (rf.act _)
 refine Z.wp λ v w' ⟨ab,ad,ae,af⟩=>?_
 have ag:(jB l.toArray vals (gK listed) a l.toArray.size).put o.dst v=jB l.toArray (kP vals i v) (gK (listed.setIfInBounds i true)) a l.toArray.size:=by
  rw[oG f];have ah:ow l.toArray i=o.dst:=by unfold ow;rw[p];rfl
  have:=zH (ops:=l.toArray) (vals:=vals) (L:=gK listed) (a:=a) (i:=i) (v:=v) (λ j b s hs=>wI E b hs) n l.toArray.size h1;rw[ah] at this;exact this
 rw[ag];have C:ri ws (gK (listed.setIfInBounds i true)):=by
  rw[oG f];intro j k b N;unfold lI at b⊢
  by_cases e:k=i
  ·rw[if_pos e]
  ·rw[if_neg e]
   by_cases g:j=i
   ·subst g;obtain⟨ar,u,ai,aj,A,ak⟩:=xP S N;rw[p] at u;injection u with u
    subst u;have:=M ai aj A;rw[ak] at this;exact this
   ·rw[if_neg g] at b;exact hC j k b N
 have al:gK (listed.setIfInBounds i true) mH=false->Init w':=λ h=>by
  rw[oG f] at h;unfold lI at h
  by_cases e:mH=i
  ·rw[if_pos e] at h;cases h
  ·rw[if_neg e] at h;refine af (λ g=>e g.symm) ?_ (H h)
   cases t:nM ws 8 i mH with
   |false=>rfl
   |true=>
    have m:=C.reach 8 i mH (by rw[oG f];unfold lI;rw[if_pos rfl]) t;rw[oG f] at m;unfold lI at m;rw[if_neg e,h] at m;cases m
 refine W v w' ab C (λ j b y=>?_) al;rw[oG f] at b y
 by_cases e:j=i
 ·subst e;have g:kP vals j v j=v:=by unfold kP;rw[if_pos rfl]
  rw[g];exact ad
 ·have g:kP vals i v j=vals j:=by unfold kP;rw[if_neg e]
  have an:lI (gK listed) i j=gK listed j:=by unfold lI;rw[if_neg e]
  rw[g];rw[an] at b;refine ae j _ e (λ ao=>?_) ?_ (λ c d=>?_) (hF j b λ c d=>?_)
  ·have:=y i ao;unfold lI at this;rw[if_pos rfl] at this;cases this
  ·cases t:nM ws 8 j i with
   |false=>rfl
   |true=>
    have:=hC.reach 8 j i b t;rw[n] at this;cases this
  ·cases t:nM ws 8 i c with
   |false=>rfl
   |true=>
    have O:=y c d;have m:=C.reach 8 i c (by rw[oG f];unfold lI;rw[if_pos rfl]) t;rw[oG f] at m;rw[m] at O;cases O
  ·have:=y c d;unfold lI at this
   by_cases R:c=i
   ·rw[if_pos R] at this;cases this
   ·rw[if_neg R] at this;exact this
def Bq(ws:List (List Nat))(n:Nat):Bool:=(Zx n).all λ j=>nM ws 8 n j
theorem Kr{ds:List (Option Tmp)}{ws:List (List Nat)}(y:ws=l.map λ o:Oper=>(o.after.toList.filter (w_ .any)).map (·.on))(J:ds=l.map λ o:Oper=>o.dst)(n:Nat)(hlen:l.length=n+1)(K:sv l.toArray=true)(q:qd l.toArray=true)(L:sw l.toArray a.tmps.size=true)(M:uN l.toArray=true)(t:Bq ws n=true)(hold:pK a.eval old)
  (N:uj P ds ws old iq G dead Init mH 0 (l.take n))
  (O:∀o vals w,l[n]? =some o->iq w->(∀j,j<n->dead j=none->G j (vals j) w)->bq P (jB l.toArray vals (mh n) a n).eval o w λ v w'=>Q .normal ((jB l.toArray vals (mh n) a n).put o.dst v) w'):
  ∀(fuel:Nat)(listed:Array Bool)(vals:Nat->Value)(w:World),listed.size=l.toArray.size->ox l.toArray listed<=fuel->0<ox l.toArray listed->gK listed n=false->ri ws (gK listed)->iq w->uf G dead (gK listed) vals w->(gK listed mH=false->Init w)->
   wpAny P .any l.toArray Q fuel listed (jB l.toArray vals (gK listed) a l.toArray.size) w:=by
 intro fuel
 induction fuel with
 |zero=>intro listed vals w p R S;omega
 |succ fuel T=>
  intro listed vals w p R S z hC A hF U;refine⟨λ h=>by have:=A9 M p h;omega,λ i B=>?_⟩;obtain⟨h1,V,o,d,W⟩:=ug B;have C:i<listed.size:=by omega
  have ao:i<l.length:=by simpa using h1
  have D:l[i]? =some o:=by rw[List.getElem?_toArray] at d;exact d
  by_cases E:i=n
  ·subst E;have F:∀k,q8 ws i k=true->gK listed k=true:=λ k h=>by
    obtain⟨aq,s,e,he,X,Y⟩:=xP y h;rw[d] at s;injection s with s
    subst s;have:=W e he X;rw[Y] at this;exact this
   have u:∀j,j<i->gK listed j=true:=λ j f=>by
    unfold Bq at t;simp only[h_,List.mem_range] at t;have b:=t j f;unfold nM at b;rw[b_] at b;rcases b with b|b
    ·exact F j b
    ·obtain⟨k,hk,Z⟩:=List.any_eq_true.1 b;exact hC.reach 7 k j (F k (by unfold q8;simpa using hk)) Z
   have aa:jB l.toArray vals (gK listed) a l.toArray.size=jB l.toArray vals (mh i) a i:=by
    have ab:l.toArray.size=i+1:=by simp[hlen]
    rw[ab];simp only[jB];rw[z];simp only[Bool.false_eq_true,if_false];exact zL i λ j f=>by rw[u j f];unfold mh;simp[f]
   rw[aa];unfold wpOp;simp only[d];have ad:o.guard=none:=by
    unfold qd at q;rw[q_] at q;have:=q o (Zz d);simpa using this
   have hw:l_ o (yielded l.toArray (jB l.toArray vals (mh i) a i).tmps)=true:=by unfold l_;rw[ad]
   rw[if_pos hw];left;refine(O o vals w D A λ j f ae=>hF j (u j f) λ c H=>by rw[ae] at H;cases H).wp λ v w' af=>?_
   refine wpAny_done ?_ af _;rcases ag:Zw .any l.toArray (listed.setIfInBounds i true) with _|⟨k,r⟩
   ·rfl
   ·have hk:k∈Zw .any l.toArray (listed.setIfInBounds i true):=by rw[ag];simp
    obtain⟨b,g,_⟩:=ug hk;exfalso;have ar:k<i+1:=by simpa[hlen] using b
    by_cases e:k=i
    ·subst e;rw[y_,Array.getElem?_setIfInBounds_self_of_lt C] at g
     cases g
    ·have m:=u k (by omega);rw[y_,Array.getElem?_setIfInBounds_ne (λ x=>e x.symm)] at g;unfold gK at m;rw[y_] at m;have ah:k<listed.size:=by omega
     rw[j_ ah] at g m;simp at g m;rw[g] at m;cases m
  ·have ai:yK P ds ws old iq G dead Init mH i o:=by
    have b:(l.take n)[i]? =some o:=by rw[List.getElem?_take,if_pos (by omega)];exact D
    have:=uj.at N b
    rwa[g_] at this
   refine Kq y J K q L hold d ai p A hF U B hC λ v w' aj ak al an=>?_
   have I:gK (listed.setIfInBounds i true) n=false:=by
    rw[oG C];unfold lI;rw[if_neg (λ e=>E e.symm)];exact z
   refine T _ _ w' (by simp[p]) (by have:=A8 (ops:=l.toArray) h1 V;omega) ?_ I ak aj al an;rcases m_ (ox l.toArray (listed.setIfInBounds i true)) with b|b
   ·have:=wL (ops:=l.toArray) (listed:=listed.setIfInBounds i true) (by simp[p]) b n (by simp[hlen]);rw[I] at this;cases this
   ·exact b
end
theorem z7(l:List Oper)(n N:Nat)(ds:List (Option Tmp))(ws:List (List Nat))(old:List (Tmp×Value))(iq:World->Prop)(G:Nat->Value->World->Prop)(dead:Nat->Option Nat)(Init:World->Prop)(mH:Nat)
  (q:ops=l.toArray) (hm:P.follows .mixedOrders=true)
  (m:ds=l.map λ o:Oper=>o.dst) (r:ws=l.map λ o:Oper=>(o.after.toList.filter (w_ .any)).map (·.on)) (hlen:l.length=n+1) (s:sv l.toArray=true) (t:qd l.toArray=true) (u:uN l.toArray=true) (y:Bq ws n=true) (z:sw l.toArray N=true)
  (A:a.tmps.size=N) (hold:pK a.eval old) (B:iq w.drew) (C:Init w.drew)
  (D:uj P ds ws old iq G dead Init mH 0 (l.take n))
  (ol:Oper) (E:l[n]? =some ol) (F:∀vals w,iq w->(∀j,j<n->dead j=none->G j (vals j) w)->∀f,nZ (ds.take n) 0 vals a=f->bq P f.eval ol w λ v w'=>Q .normal (f.put ol.dst v) w'):(Code.region id ops true).wp P Q a w:=by
 subst q;subst A;refine wp_region_any hm ?_;have H:∀o vals w,l[n]? =some o->iq w->(∀j,j<n->dead j=none->G j (vals j) w)->bq P (jB l.toArray vals (mh n) a n).eval o w λ v w'=>Q .normal ((jB l.toArray vals (mh n) a n).put o.dst v) w':=by
  intro o vals w d I J;rw[E] at d;injection d with d
  subst d;rw[zK l vals a n n (n_ _) (by omega),<-m];exact F vals w I J _ rfl
 have b:∀k,gK (t_ l.toArray.size false) k=false:=λ k=>by
  unfold gK;rw[y_,Array.getElem?_replicate];split<;>rfl
 have e:a=jB l.toArray (λ _=>undef) (gK (t_ l.toArray.size false)) a l.toArray.size:=by
  have:∀k,jB l.toArray (λ _=>undef) (gK (t_ l.toArray.size false)) a k=a:=by
   intro k
   induction k with
   |zero=>rfl
   |succ k K=>
    simp only[jB];rw[b k,K];simp
  exact(this _).symm
 have p:=Kr (P:=P) (Q:=Q) (a:=a) (iq:=iq) (G:=G) (dead:=dead) (Init:=Init) (mH:=mH) r m n hlen s t z u y hold D H l.toArray.size (t_ l.toArray.size false) (λ _=>undef) w.drew (by simp)
  (by unfold ox;exact Nat.le_trans (List.length_filter_le _ _) (by simp)) ?_ (b n) (λ j i c=>by rw[b j] at c;cases c) B (λ j c=>by rw[b j] at c;cases c) (λ _=>C)
 ·rw[<-e] at p;exact p
 ·rcases m_ (ox l.toArray (t_ l.toArray.size false)) with g|g
  ·have:=wL (ops:=l.toArray) (listed:=t_ l.toArray.size false) (by simp) g n (by simp[hlen]);rw[b n] at this;cases this
  ·exact g
end
section
open Go.RowKit
def wS:Code->Nat->Option (List Oper)
 | .region id ops _,k=>if id=k then some ops.toList else none
 | .seq x y,k=>(wS x k).or (wS y k)
 | .cond _ x y,k=>(wS x k).or (wS y k)
 | .block _ x,k=>wS x k
 | .loop x,k=>wS x k
 | .scope x,k=>wS x k
 |_,_=>none
def Di(f:Func)(k:Nat):List Oper:=(f.body.bind λ c=>wS c k).getD []
def oW(ds:List (Option Tmp))(cs:List Value)(b c:Nat)(d:Operand->Value):List Edge->Prop
 |[]=>True
 |e::r=>(w_ .any e=true->e.on≠b->e.on≠c->∀s,qB ds e.on=some s->d (.tmp s)=cs.getD e.on undef)/\oW ds cs b c d r
def Ks(P:Program)(ds:List (Option Tmp))(ws:List (List Nat))(old:List (Tmp×Value))(S:World->Prop)(cs:List Value)(c:World)(k8 kU i:Nat)(o:Oper):Prop:=
 ∀(b:Operand->Value)(w:World),S w->(nM ws 8 k8 i=true->w=c)->oW ds cs k8 kU b o.after.toList->pK b old->rf b->bq P b o w λ v w'=>v=cs.getD i undef/\w'=w
def Br(P:Program)(ds:List (Option Tmp))(ws:List (List Nat))(old:List (Tmp×Value))(S:World->Prop)(cs:List Value)(b:World)(k8 kU:Nat):Nat->List Oper->Prop
 |_,[]=>True
 |k,o::r=>(k≠k8->k≠kU->Ks P ds ws old S cs b k8 kU k o)/\Br P ds ws old S cs b k8 kU (k+1) r
def yL(ds:List (Option Tmp))(old:List (Tmp×Value)):Bool:=old.all λ p=>ds.all λ d=>d !=some p.1
theorem Kt{ds:List (Option Tmp)}{s:Tmp}(h:(ds.all λ d=>d !=some s)=true):yA ds ws i s=true:=by
 unfold yA;rw[h_];intro j b;rw[List.mem_range] at b;rw[h_] at h;have:=h ds[j] (List.getElem_mem b);rw[b_];left;unfold qB;rw[u_,f_ b];exact this
theorem q9.ok{ds:List (Option Tmp)}{ws:List (List Nat)}{i:Nat}{av:Operand->Value}:∀{old:List (Tmp×Value)},yL ds old=true->q9 ds ws i av old->pK av old
 |[],_,_=>trivial
 |p::r,h,b=>by
  unfold yL at h;rw[List.all_cons,e_] at h;exact⟨b.1 (Kt h.1),q9.ok (old:=r) h.2 b.2⟩
theorem cF.mono{P:Program}{p q:Value->World->Prop}(b:∀v w,p v w->q v w):∀{r:Result Next},cF P p r->cF P q r:=by
 intro r h;unfold cF at*;split at h<;>first|exact b _ _ h|exact Calls.mono h (λ e w' ⟨v,h1,c⟩=>⟨v,h1,b _ _ c⟩)|exact h.elim
theorem bq.mono{P:Program}{av:Operand->Value}{o:Oper}{w:World}{p q:Value->World->Prop}(h:bq P av o w p)(b:∀v w,p v w->q v w):bq P av o w q:=cF.mono b h
theorem r4{av:Operand->Value}{post:Value->World->Prop}(f:FuncId)(xs:Array Operand)(b:Array TypeId)(c:o.op=.call {callee:=.value (.func f),args:=xs,argTypes:=b})(he:∀args w,(callFunc f args).run P w=.ok (.enter f args) w)(hp:rf av)
  (h:Calls P f (xs.map av) w λ e w'=>∃v,e=.returned v/\post v w'):bq P av o w post:=by
 unfold bq;simp only[execOp,c,resolve,hp.2.2 f,Deferred.ofValue,invoke,Zu,Zt,k_,Array.append_empty,Array.empty_append,he,cF];exact h
section
variable {P:Program}{ds:List (Option Tmp)}{ws:List (List Nat)}{old:List (Tmp×Value)}{S:World->Prop}{cs:List Value}{k8 kU:Nat}{jl:World}{aK:Value->World->Prop}
def sx(cs:List Value)(k8 kU:Nat)(jl:World)(aK:Value->World->Prop)(j:Nat)(v:Value)(w:World):Prop:=
 if j=kU then aK v w else if j=k8 then v=cs.getD k8 undef/\w=jl else v=cs.getD j undef
def wT(k8 kU:Nat)(j:Nat):Option Nat:=if j=k8 then some kU else none
theorem oW.of{i:Nat}{vals:Nat->Value}{w:World}{av:Operand->Value}(c:i≠kU):∀{l:List Edge},rN ds (sx cs k8 kU jl aK) (wT k8 kU) i vals w av l->oW ds cs k8 kU av l
 |[],_=>trivial
 |e::r,h=>⟨λ d h1 f s hs=>by
  obtain⟨b,g⟩:=h.1 d;have b:=b (Or.inl (if_neg h1));unfold sx at b;rw[if_neg f,if_neg h1] at b;rw[g s hs,b],oW.of c h.2⟩
theorem oW.FM{vals:Nat->Value}{w:World}{av:Operand->Value}(f:k8≠kU):∀{l:List Edge},rN ds (sx cs k8 kU jl aK) (wT k8 kU) kU vals w av l->oW ds cs kU kU av l
 |[],_=>trivial
 |e::r,h=>⟨λ g h1 _ s hs=>by
  obtain⟨b,i⟩:=h.1 g;have b:=b (by unfold wT;by_cases d:e.on=k8;exact .inr (if_pos d);exact .inl (if_neg d));unfold sx at b;rw[if_neg h1] at b;rw[i s hs]
  by_cases c:e.on=k8
  ·rw[if_pos c] at b;rw[b.1,c]
  ·rw[if_neg c] at b;exact b,oW.FM f h.2⟩
theorem oW.world{vals:Nat->Value}{w:World}{av:Operand->Value}(c:k8≠kU):∀{l:List Edge},(l.any λ e=>w_ .any e&&e.on==k8)=true->rN ds (sx cs k8 kU jl aK) (wT k8 kU) kU vals w av l->w=jl
 |[],h,_=>by cases h
 |e::r,h,d=>by
  rw[List.any_cons,b_] at h;rcases h with h|h
  ·rw[e_,beq_iff_eq] at h;have b:=(d.1 h.1).1 (.inr (by unfold wT;rw[if_pos h.2]));unfold sx at b;rw[if_neg (by rw[h.2];exact c),if_pos h.2] at b;exact b.2
  ·exact oW.world c h d.2
theorem FN{kJ:World}(i:k8≠kU)(y:yL ds old=true)(d:nM ws 8 kU k8=true)
  (I:S kJ) (z:S jl) (A:∀v w',aK v w'->S w') {l:List Oper}
  (B:∀o,l[kU]? =some o->(o.after.toList.any λ e=>w_ .any e&&e.on==k8)=true)
  (C:∀o,l[k8]? =some o->∀b,oW ds cs k8 kU b o.after.toList->pK b old->rf b->bq P b o kJ λ v w'=>v=cs.getD k8 undef/\w'=jl)
  (D:∀o,l[kU]? =some o->∀b,oW ds cs kU kU b o.after.toList->pK b old->rf b->bq P b o jl aK)
  (J:Br P ds ws old S cs kJ k8 kU 0 l):
  ∀(r:List Oper)(k:Nat),(∀j,r[j]? =l[k+j]?)->Br P ds ws old S cs kJ k8 kU k r->uj P ds ws old S (sx cs k8 kU jl aK) (wT k8 kU) (λ w=>w=kJ) k8 k r
 |[],_,_,_=>trivial
 |o::r,k,hl,hs=>by
  refine⟨?_,FN i y d I z A B C D J r (k+1) (λ j=>by rw[<-show(o::r)[j+1]? =r[j]? from rfl,hl (j+1)];congr 1;omega) hs.2⟩;intro vals w b E F f K hp;have m:=q9.ok y K;have n:l[k]? =some o:=by have:=hl 0;simpa using this.symm
  by_cases c:k=kU
  ·subst c;have hw:=oW.world i (B o n) f;subst hw;have g:=D o n b (oW.FM i f) m hp;refine bq.mono g λ v w' h=>⟨A v w' h,by unfold sx;rw[if_pos rfl];exact h,λ j u p L _ _ q=>?_,λ _ G=>by rw[d] at G;cases G⟩
   unfold sx at*;rw[if_neg p] at*;have s:j≠k8:=λ e=>L (by unfold wT;rw[if_pos e])
   rw[if_neg s] at*;exact q
  ·by_cases t:k=k8
   ·subst t;have hw:=F (.inr rfl);subst hw;have g:=C o n b (oW.of c f) m hp;refine bq.mono g λ v w' h=>?_
    obtain⟨rfl,rfl⟩:=h;refine⟨z,by unfold sx;rw[if_neg c,if_pos rfl];exact⟨rfl,rfl⟩,λ j u p _ H _ q=>?_,λ h=>absurd rfl h⟩;have s:j≠kU:=λ e=>by rw[e,d] at H;cases H
    unfold sx at*;rw[if_neg s,if_neg p] at*;exact q
   ·have g:=hs.1 t c b w E (λ d=>F (.inl d)) (oW.of c f) m hp;refine bq.mono g λ v w' h=>?_
    obtain⟨rfl,rfl⟩:=h;exact .same E (by unfold sx;rw[if_neg c,if_neg t])
end
theorem z8(l:List Oper)(n k8 kU N:Nat)(ds:List (Option Tmp))(ws:List (List Nat))(old:List (Tmp×Value))(S:World->Prop)(cs:List Value)(jl:World)(aK:Value->World->Prop)
  (z:ops=l.toArray) (hm:P.follows .mixedOrders=true)
  (A:ds=l.map λ o:Oper=>o.dst) (B:ws=l.map λ o:Oper=>(o.after.toList.filter (w_ .any)).map (·.on)) (hlen:l.length=n+1) (p:(sv l.toArray&&qd l.toArray&&uN l.toArray&&Bq ws n&&sw l.toArray N&&yL ds old&&nM ws 8 kU k8&&decide (k8<kU)&&decide (kU<n)&&((l.getD kU default).after.toList.any λ e=>w_ .any e&&e.on==k8))=true)
  (C:a.tmps.size=N) (hold:pK a.eval old) (q:S w.drew) (D:S jl) (E:∀v w',aK v w'->S w')
  (F:∀b,oW ds cs k8 kU b (l.getD k8 default).after.toList->pK b old->rf b->bq P b (l.getD k8 default) w.drew λ v w'=>v=cs.getD k8 undef/\w'=jl)
  (G:∀b,oW ds cs kU kU b (l.getD kU default).after.toList->pK b old->rf b->bq P b (l.getD kU default) jl aK)
  (s:Br P ds ws old S cs w.drew k8 kU 0 (l.take n))
  (H:∀u v w',aK v w'->∀c,nZ (ds.take n) 0 (kP (kP (λ j=>cs.getD j undef) k8 u) kU v) a=c->bq P c.eval (l.getD n default) w' λ v w'=>Q .normal (c.put (l.getD n default).dst v) w'):(Code.region id ops true).wp P Q a w:=by
 simp only[e_,decide_eq_true_eq] at p;obtain⟨⟨⟨⟨⟨⟨⟨⟨⟨c1,c2⟩,c3⟩,I⟩,J⟩,K⟩,L⟩,Z⟩,M⟩,O⟩:=p;have m:∀k o,l[k]? =some o->l.getD k default=o:=λ k o h=>by rw[u_,h];rfl
 have gt:∀k o,(l.take n)[k]? =some o->l[k]? =some o/\k<n:=λ k o h=>by
  rw[List.getElem?_take] at h;split at h
  ·exact⟨h,by assumption⟩
  ·cases h
 have R:l[n]? =some (l.getD n default):=by rw[u_,f_ (by omega)];rfl
 refine z7 l n N ds ws old S (sx cs k8 kU jl aK) (wT k8 kU) (λ w'=>w'=w.drew) k8 z hm A B hlen c1 c2 c3 I J C hold q rfl (FN (l:=l.take n) (by omega) K L q D E ?_ ?_ ?_ s _ 0 (λ j=>by rw[g_]) s) _ R ?_
 ·intro o h;rw[<-m _ _ (gt _ _ h).1];exact O
 ·intro o h;rw[<-m _ _ (gt _ _ h).1];exact F
 ·intro o h;rw[<-m _ _ (gt _ _ h).1];exact G
 ·intro vals w' aa t c T;have U:∀j,j<n->vals j=kP (kP (λ j=>cs.getD j undef) k8 (vals k8)) kU (vals kU) j:=λ j V=>by
   unfold kP
   by_cases e:j=kU
   ·rw[if_pos e,e]
   ·rw[if_neg e]
    by_cases i:j=k8
    ·rw[if_pos i,i]
    ·rw[if_neg i];have:=t j V (if_neg i);unfold sx at this
     rwa[if_neg e,if_neg i] at this
  have W:aK (vals kU) w':=by
   have:=t kU M (if_neg (by omega));unfold sx at this
   rwa[if_pos rfl] at this
  refine H (vals k8) (vals kU) w' W c ?_;rw[<-T];have X:∀(r:List (Option Tmp))(k:Nat)(f g:Nat->Value)(a:Act),(∀j,k<=j->j<k+r.length->f j=g j)->nZ r k f a=nZ r k g a:=by
   intro r
   induction r with
   |nil=>intros;rfl
   |cons d r Y=>
    intro k f g a h;rw[nZ,nZ,h k (n_ _) (by rw[d_];omega)];exact Y _ _ _ _ λ j h1 y=>h j (by omega) (by rw[d_];omega)
  exact(X _ _ _ _ _ λ j _ y=>U j (by rw[List.length_take] at y;omega)).symm
end
section
open Go.RowKit Go.Shelf
def uk(s:an)(l:List Int)(d:Nat):Nat->an
 |0=>s
 |j+1=>(uk s l d j).pQ (jE (-(aj l j))) (az (uk s l d j).c.wt (jE (-(aj l j)))++[d])
theorem FO(s:an)(l:List Int)(d:Nat):uk s l d 2={s with c:={s.c with wt:=wD s.c.wt l d}}:=rfl
theorem Bt:∀args w,(callFunc 181 args).run x_ w=.ok (.enter 181 args) w:=enters_of Tryz.func181 (by kernel_rfl) rfl
theorem FP(s:an)(l:List Int)(d:Nat):∀j,(uk s l d j).c.wt.length=s.c.wt.length
 |0=>rfl
 |j+1=>by show(List.set _ _ _).length=_;rw[v_];exact FP s l d j
theorem FQ(s:an)(l:List Int)(d:Nat):∀j,(uk s l d j).c.cl=s.c.cl
 |0=>rfl
 |j+1=>FQ s l d j
theorem FR(s:an)(l:List Int)(d k:Nat):∀j,(az (uk s l d j).c.wt k).length<=(az s.c.wt k).length+j
 |0=>n_ _
 |j+1=>by
  have:=FR s l d k j;show(az (List.set _ _ _) k).length<=_;rw[qw];split
  ·rename_i h;rw[r_,h.1];simp only[p_];omega
  ·omega
def Ku(K:Nat->Prop)(base:Nat)(w:World)(G:Nat)(cb:Nat->Nat)(s s':an)(e:Ending)(w':World):Prop:=
 e=.returned (.tuple #[])/\∃hs',aX K base w' G hs' cb s'/\aC K w w'
def Kv(K:Nat->Prop)(base:Nat)(w:World)(G:Nat)(cb:Nat->Nat)(s s':an)(d:Nat)(b:ax)(e:Ending)(w':World):Prop:=
 e=.returned (.tuple #[])/\∃hs',aX K base w' G hs' cb s'/\aC K w w'/\hs' (kr d)=b
theorem FT(h:aX K base w G hs cb s){d:Nat}(f:d<s.c.cl.length)(z:2<=(az s.c.cl d).length)(hl:∀x∈az s.c.cl d,gW s.c.n x)(a8:s.c.n<=60000)(ah:s.c.wt.length=2*s.c.n+2)(B:∀k,(az s.c.wt k).length<=1000000):
  Calls x_ 180 #[.pointer (some ⟨G,0,none⟩),.pointer (some ⟨cb d,0,none⟩)] w (Kv K base w G cb s (uk s (az s.c.cl d) d 2) d (hs (kr d))):=by
 obtain⟨ai,-,-,-,aE⟩:=h.zV f;obtain⟨m0,I⟩:∃m0,(az s.c.cl d).length=m0:=⟨_,rfl⟩
 obtain⟨bz,aF,S,ak⟩:=h.e.wM (r:=kr d) (m:=m0) ((h.e.z1 d).trans I) (by omega);have cap:=h.e.xV S;rw[h.e.z1,I] at cap;rw[ak] at ai;obtain⟨T,al⟩:∃T,(hs (kr d)).c=T:=⟨_,rfl⟩
 rw[al] at ai cap;have lc:(2:Int)<=(T:Int):=by omega
 have H:=aa h;have aH:=aa S;have L:=aa (z_ I (z_ hl (z_ f (z_ z (z_ ah B)))));clear h S I hl f z ah B ak aF al aE;go_enter Tryz.func180,Tryz.ntmps180
 go_wp2_with fail
 go_loopw [5,12] (λ _ U W=>∃(j:Nat)(i:Nat->ax),j<=2/\U=.int .i64 j/\i 0=hs 0/\i (kr d)=hs (kr d)/\aX K base W G i cb (uk s (az s.c.cl d) d j)/\aC K w W) (λ _ U _=>2-(intOf U).toNat)
 case atStart=>exact⟨0,hs,by omega,rfl,rfl,rfl,H.o,aC.refl⟩
 case round=>
  obtain⟨j,i,aI,rfl,ao,h1,aq,hF⟩:=hrel;have E:=aa aq;have F:=aa hF;have J:=aa (z_ ao h1);clear aq hF ao h1
  by_cases ar:j<2
  ·have aJ:(j:Int)<2:=by omega
   have au:=aa ar;obtain⟨s1,C⟩:∃s1,uk s (az s.c.cl d) d j=s1:=⟨_,rfl⟩
   have y:fE (aX K base wr G i cb s1):=aa (C▸E.o);have M:s1.c.cl=s.c.cl:=by rw[<-C];exact FQ _ _ _ _
   have B:s1.c.wt.length=2*s.c.n+2:=by rw[<-C,FP];exact L.o.2.2.2.2.1
   obtain⟨x,N⟩:∃x,aj (az s.c.cl d) j=x:=⟨_,rfl⟩
   have V:j<(az s.c.cl d).length:=by have:=L.o;omega
   have Y:gW s.c.n x:=by rw[<-N];exact L.o.2.1 _ (lZ V)
   have a': -60000<=x/\x<=60000:=by have:=Y.2;unfold aG at this;omega
   obtain⟨k,hk⟩:∃k:Nat,jE (-x)=k:=⟨_,rfl⟩
   have aK:k<2*s.c.n+2:=by rw[<-hk];exact Y.neg.at
   have av:(i (kr d)).b=some bz:=by rw[J.o.2];exact aH.o
   have aL:=y.o.e.xZ av (k:=j) (by rw[M];exact V);rw[M,N] at aL;obtain⟨g0,Z,aM,f0⟩:=y.o.e.lW 1 0 rfl (y.o.e.jY.trans B) (by omega);have O:=y.o.e.xY Z (k:=k) (by omega);obtain⟨l,g,p,P⟩:∃A n c,i (iA k)=⟨A,n,c⟩:=⟨_,_,_,rfl⟩
   have ab:g=(az s1.c.wt k).length:=by have:=y.o.e.zZ k;rw[P] at this;exact this
   rw[P] at O;have O:wr.cell? ⟨g0,k,none⟩=some (.slice l g p):=O;have aw:g<=1000002:=by rw[ab,<-C];have:=FR s (az s.c.cl d) d k j;have:=L.o.2.2.2.2.2 k;omega
   have wn:Zr.wrap (-x)= -x:=IntWalk.i64_in _ (by omega);have ay:(k:Int)<2*(s.c.n:Int)+2:=by omega
   have D:=aa Z;have X:=aa (z_ C (z_ N (z_ hk (z_ P (z_ ab (z_ aw (z_ M B)))))));clear aI ar C N V Y hk aK av Z P ab aw M B
   go_upto_region 3 with fail
   have q:=aa (y.o.below ((bB wr (.cells #[.pointer (some ⟨cb d,0,none⟩)] 164)).drew));have hp:((wr.alloc (.cells #[.pointer (some ⟨cb d,0,none⟩)] 164)).drew).cell? ⟨wr.heap.size,0,none⟩=some (.pointer (some ⟨cb d,0,none⟩)):=by go_simp
   have aN:=aa (ry.one hp);have aO:fE (((wr.alloc (.cells #[.pointer (some ⟨cb d,0,none⟩)] 164)).drew).ownsRow base 164 1 (.slice l g p) g (kW cb (az s1.c.wt k))):=aa (by
    have:=q.o.1.e.rows.row (iA k);rw[De,zY,X.o.2.2.2.1,vN] at this;exact this)
   have aP:=aa (Nat.le_of_lt q.o.1.e.lt);clear hp;have ad:fE (k<s1.c.wt.length):=aa (by rw[X.o.2.2.2.2.2.2.2];have:=ay;omega);have aQ:fE (∀w:World,Calls x_ 181 #[.int .i64 (-x)] w λ e w'=>e=.returned (.int .i64 (k:Int))/\w=w'):=aa (λ w=>by have:=C2 (-x) w (by omega) (by omega);rw[X.o.2.2.1] at this;exact this);have aR:fE (uk s (az s.c.cl d) d (j+1)=s1.pQ k (az s1.c.wt k++[d])):=aa (by show(uk s (az s.c.cl d) d j).pQ _ _=_;rw[X.o.1,X.o.2.1,X.o.2.2.1]);have ba:G≠g0:=y.o.e.ue 0 g0 D.o;have aS:wr.drew.cell? ⟨g0,k,none⟩=some (.slice l g p):=O;have Q:=q.o.1.e.xY D.o (k:=k) ad.o;rw[X.o.2.2.2.1] at Q;have Q:((wr.alloc (.cells #[.pointer (some ⟨cb d,0,none⟩)] 164)).drew).cell? ⟨g0,k,none⟩=some (.slice l g p):=Q;have ae:=q.o.1.e.rm 1 D.o (q.o.1.e.jY.trans X.o.2.2.2.2.2.2.2) rfl;have aT:wr.drew.cell? ⟨G,1,none⟩=some (.slice (some ⟨g0,0,none⟩) (2*s.c.n+2) (i 0).c):=aM;have bb:((wr.alloc (.cells #[.pointer (some ⟨cb d,0,none⟩)] 164)).drew).heap.size=wr.heap.size+1:=by simp
   refine z8 (rj Tryz.f180 3) 20 17 18 37 [some 16,some 17,some 18,some 19,some 20,some 21,some 22,some 23,some 24,some 25,some 26,some 27,some 28,some 29,some 30,some 31,some 32,some 33,some 34,some 35,none] _ [(0,.pointer (some ⟨G,0,none⟩)),(1,.pointer (some ⟨(cb d),0,none⟩)),(5,.int .i64 x)] (λ w':World=>w'.cell? ⟨G,1,none⟩=some (.slice (some ⟨g0,0,none⟩) (2*s.c.n+2) (i 0).c)/\w'.cell? ⟨g0,k,none⟩=some (.slice l g p)) [.pointer (some ⟨G,0,none⟩),.pointer (some ⟨G,0,none⟩),.pointer (some ⟨G,1,none⟩),.slice (some ⟨g0,0,none⟩) (2*s.c.n+2) (i 0).c,.int .i64 x,.int .i64 (-x),.int .i64 (k:Int),.pointer (some ⟨G,0,none⟩),.pointer (some ⟨G,0,none⟩),.pointer (some ⟨G,1,none⟩),.slice (some ⟨g0,0,none⟩) (2*s.c.n+2) (i 0).c,.int .i64 x,.int .i64 (-x),.int .i64 (k:Int),.pointer (some ⟨g0,k,none⟩),.slice l g p,.pointer (some ⟨(cb d),0,none⟩),.slice (some ⟨wr.heap.size,0,none⟩) 1 1,undef,.pointer (some ⟨g0,k,none⟩)] ((wr.alloc (.cells #[.pointer (some ⟨cb d,0,none⟩)] 164)).drew) (λ v w'=>nW ((wr.alloc (.cells #[.pointer (some ⟨cb d,0,none⟩)] 164)).drew) base 164 (.slice l g p) (g+1) (kW cb (az s1.c.wt k)++[.pointer (some ⟨cb d,0,none⟩)]) v w') (by kernel_rfl) (by kernel_rfl) (by kernel_rfl) rfl (by kernel_rfl) (by kernel_rfl) rfl ⟨rfl,rfl,rfl,trivial⟩ ⟨aT,aS⟩ ⟨ae,Q⟩ (λ v w' af=>?_) (λ t f R hp=>?_) (λ t f R hp=>?_) ?_ ?_
   ·obtain⟨A',c',rfl,aA,ag,-⟩:=aX.Dh (d:=d) q.o.1 D.o ad.o X.o.2.2.2.1 X.o.2.2.2.2.1 ae af;exact⟨aA,ag⟩
   ·obtain⟨-,aB,-⟩:=R;have f:t (.tmp 32)=_:=(f.1 rfl (by decide) (by decide) _ rfl)
    change t (.tmp 32)=.pointer (some ⟨cb d,0,none⟩) at f;show bq _ _ (Oper.mk _ _ _ _ _ _) _ _;simp[bq,execOp,cF,go_sem,f]
   ·have h1:t (.tmp 31)=.slice l g p:=f.1 rfl (by decide) (by decide) _ rfl;have z:t (.tmp 33)=.slice (some ⟨wr.heap.size,0,none⟩) 1 1:=f.2.1 rfl (by decide) (by decide) _ rfl;obtain⟨v',w',g1,g2⟩:=C8 ((wr.alloc (.cells #[.pointer (some ⟨cb d,0,none⟩)] 164)).drew) 160 base (.slice l g p) g (kW cb (az s1.c.wt k)) aO.o (some ⟨wr.heap.size,0,none⟩) 1 1 _ aN.o (by have:=X.o.2.2.2.2.2.1;omega) aP.o;show bq _ _ (Oper.mk _ _ _ _ _ _) _ _;simp only[bq,execOp,resolve,invoke,builtin,Zu,Zt,k_,List.map_toArray,List.map_cons,List.map_nil,h1,z,g1,cF];exact g2
   ·refine⟨?_,?_,?_,?_,?_,?_,?_,?_,?_,?_,?_,?_,?_,?_,?_,?_,?_,?_,?_,?_,trivial⟩
    all_goals
     intro h1 z t w aU _ f R hp
     first
      |exact absurd rfl h1
      |exact absurd rfl z
      |(obtain⟨aV,aB,aW,-⟩:=R;obtain⟨s1,s2⟩:=aU;(try simp[oW,qB,w_] at f);simp[bq,execOp,cF,go_sem,aV,aB,aW,f,s1,s2,wn,ay];done)
      |((try simp[oW,qB,w_] at f);(first|refine r4 181 #[.tmp 21] #[3] rfl Bt hp ?_|refine r4 181 #[.tmp 28] #[3] rfl Bt hp ?_);(first|rw[show(#[Operand.tmp 21].map t)= #[.int .i64 (-x)] by simp[f]]|rw[show(#[Operand.tmp 28].map t)= #[.int .i64 (-x)] by simp[f]]);exact(aQ.o w).mono λ e w' h=>⟨_,h.1,rfl,h.2.symm⟩)
   intro u v9 bG af bc aD;obtain⟨A',c',rfl,aA,ag,f9,aY,aZ⟩:=aX.Dh (d:=d) q.o.1 D.o ad.o X.o.2.2.2.1 X.o.2.2.2.2.1 ae af;have a6:=f9 k;simp[nZ,Act.put,kP] at aD;subst aD;show bq _ _ (Oper.mk _ _ _ _ _ _) _ _;simp[bq,execOp,cF,go_sem,Act.eval,ag,a6];have a7:=F.o.trans (q.o.2.trans aZ);have bd:Zr.wrap ((j:Int)+1)=(j:Int)+1:=IntWalk.i64_in _ (by omega);go_wp2;go_roundw
   case rel=>exact⟨j+1,_,by have:=au.o;omega,by go_num,(bh _ _ (show(0:Nat)≠iA k by unfold iA;omega)).trans J.o.1,(bh _ _ (show kr d≠iA k by unfold iA kr;omega)).trans J.o.2,by rw[aR.o];exact aY,a7⟩
   case measure=>have:=au.o;simp[intOf];omega
  ·obtain rfl:j=2:=by omega
   have aJ:¬((2:Nat):Int)<2:=by omega
   go_wp2_with fail
   go_end0;exact⟨rfl,i,E.o,F.o,J.o.2⟩
theorem Kw(h:aX K base w G hs cb s){d:Nat}(f:d<s.c.cl.length)(b:2<=(az s.c.cl d).length)(hl:∀x∈az s.c.cl d,gW s.c.n x)(g:s.c.n<=60000)(i:s.c.wt.length=2*s.c.n+2)(j:∀k,(az s.c.wt k).length<=1000000):
  Calls x_ 180 #[.pointer (some ⟨G,0,none⟩),.pointer (some ⟨cb d,0,none⟩)] w (Ku K base w G cb s (uk s (az s.c.cl d) d 2)):=
 (FT h f b hl g i j).mono λ e w' ⟨h1,hs',b,l,_⟩=>⟨h1,hs',b,l⟩
end
section
open Go.RowKit Go.Shelf
theorem Kx(w:World)(ty:TypeId)(g kl cap:Nat)(b off m c:Nat)(i:List Value)(d:ry w (some ⟨b,off,none⟩) m c i)(l:kl+m<=cap)(k:∀j,j<m->(w.cell? ⟨g,kl+j,none⟩).isSome=true)(n:∀j,w.frozen? ⟨g,j,none⟩=false):
  (Builtin.append_ #[160,160] ty #[.slice (some ⟨g,0,none⟩) kl cap,.slice (some ⟨b,off,none⟩) m c]).run x_ w=.ok (.slice (some ⟨g,0,none⟩) (kl+m) cap) (w.setCells g kl i):=by
 obtain⟨i0,o,r,f,s⟩:=info_parts Fy;have:=run_append_room_cells (P:=x_) w 160 ty 164 i0 Tryz.underlying160 o g 0 kl cap ⟨b,off,none⟩ m c i (by rw[f,d.len,Nat.mul_one]) (λ j u e=>by
  have t:j<m:=by have:=(i_.1 e).1;simpa[d.len] using this
  obtain⟨v,y,he,k⟩:=d.cells (by omega);injection he with he
  injection he with h1 q
  subst h1 q;rw[Addr.add_lit];exact k j u e) (λ u hu=>by obtain⟨p,rfl⟩:=d.ptr u hu;rfl) l (λ j e=>by
   rw[f,Nat.mul_one,g_];exact k j (by rw[<-d.len];exact e)) (λ j e=>by rw[f];exact n _)
 rw[f,Nat.mul_one,g_] at this;exact this
theorem Dj{rest:List Oper}(e:o.guard=none)(s x:Operand)
  (f:o.op=.call {callee:=.builtin .append,args:= #[s,x],argTypes:= #[160,160]}) (g kl cap b off m c:Nat) (d:List Value) (hs:a.eval s=.slice (some ⟨g,0,none⟩) kl cap) (i:a.eval x=.slice (some ⟨b,off,none⟩) m c)
  (k:ry w (some ⟨b,off,none⟩) m c d) (l:kl+m<=cap) (n:∀j,j<m->(w.cell? ⟨g,kl+j,none⟩).isSome=true) (p:∀j,w.frozen? ⟨g,j,none⟩=false)
  (h:wpList x_ ops Q rest (a.put o.dst (.slice (some ⟨g,0,none⟩) (kl+m) cap)) (w.setCells g kl d)):
  wpList x_ ops Q (o::rest) a w:=by
 have h1:=Kx w o.type g kl cap b off m c d k l n p;refine wpList_plain e λ K q=>?_
 unfold Oper.wp;simp only[execOp,f,resolve,invoke,builtin,Zu,Zt,k_,List.map_toArray,List.map_cons,List.map_nil,hs,i,h1];exact q _ _ h
def s0:List Nat->Nat->List Nat->List Nat
 |raw,_,[]=>raw
 |raw,j,x::l=>s0 (raw.set j x) (j+1) l
theorem FU:∀(l raw:List Nat)(j:Nat),(s0 raw j l).length=raw.length
 |[],_,_=>rfl
 |x::l,raw,j=>by rw[s0,FU l,v_]
theorem FV:∀(l raw:List Nat)(j:Nat),j+l.length<=raw.length->(s0 raw j l).take (j+l.length)=raw.take j++l
 |[],raw,j,_=>by simp[s0]
 |x::l,raw,j,h=>by
  rw[d_] at h⊢;have h1:=FV l (raw.set j x) (j+1) (by rw[v_];omega);rw[s0,show j+(l.length+1)=j+1+l.length by omega,h1];have b:j<(raw.set j x).length:=by rw[v_];omega
  rw[List.take_succ_eq_append_getElem b,List.getElem_set_self,List.take_set_of_le (n_ _),List.append_assoc];rfl
section
variable {K:Nat->Prop}{base:Nat}{w bG W:World}{G:Nat}{hs:Nat->ax}{cb:Nat->Nat}{s:an}
theorem Ky{s:an}{k:Nat}(hk:k<s.c.wt.length):s.pQ k (az s.c.wt k)=s:=by
 have e:s.c.wt.set k (az s.c.wt k)=s.c.wt:=by rw[EP hk,Zy]
 show{s with c:={s.c with wt:=s.c.wt.set k (az s.c.wt k)}}=s;rw[e]
theorem Kz(s:an)(k:Nat)(a b:List Nat):(s.pQ k a).pQ k b=s.pQ k b:=by
 simp[an.pQ,c_]
theorem FW{s:an}{k:Nat}(hk:k<s.c.wt.length)(l:List Nat):az (s.pQ k l).c.wt k=l:=by
 show az (s.c.wt.set k l) k=l;rw[qw,if_pos ⟨rfl,hk⟩]
theorem aX.KA(h:aX K base w G hs cb s){k g:Nat}(i:(hs (iA k)).b=some g)(hk:k<s.c.wt.length)(j d:Nat):aX K base (w.setCell ⟨g,j,none⟩ (sX cb d)) G hs cb (s.pQ k ((az s.c.wt k).set j d))/\aC K w (w.setCell ⟨g,j,none⟩ (sX cb d)):=by
 refine⟨⟨(h.e.cell i j (sX cb d)).eq rfl rfl rfl (λ _ _=>rfl) rfl (λ r=>?_),h.s.more (kZ w g j _).size⟩,aC.set g j _ (h.s.row _ g i)⟩
 by_cases f:r=iA k
 ·subst f;rw[jG,vN,vN,FW hk];simp[kW,Zs]
 ·rw[bh _ _ f]
  by_cases l:r=0
  ·subst l;show((Zx s.c.wt.length).map λ j=>(hs (iA j)).v)=(Zx (s.c.wt.set k _).length).map λ j=>(hs (iA j)).v
   rw[v_]
  ·exact(FL hs cb s l f).symm
theorem aX.Dk:∀(l:List Nat){w:World}{s:an}(h:aX K base w G hs cb s){k g:Nat}(e:(hs (iA k)).b=some g)(hk:k<s.c.wt.length)(j:Nat),aX K base (w.setCells g j (kW cb l)) G hs cb (s.pQ k (s0 (az s.c.wt k) j l))/\aC K w (w.setCells g j (kW cb l))
 |[],w,s,h,k,g,e,hk,j=>by
  rw[s0,Ky hk];exact⟨h,aC.refl⟩
 |d::l,w,s,h,k,g,e,hk,j=>by
  have h1:=h.KA e hk j d;have f:=aX.Dk l h1.1 e (by show k<(s.c.wt.set k _).length;rw[v_];exact hk) (j+1);rw[FW hk,Kz] at f;exact⟨f.1,h1.2.trans f.2⟩
theorem aX.KB(h:aX K base w G hs cb s){g0 k m:Nat}(d:(hs 0).b=some g0)(hk:k<s.c.wt.length)(hm:m<=(az s.c.wt k).length):
  aX K base (w.setCell ⟨g0,k,none⟩ (.slice (hs (iA k)).A m (hs (iA k)).c)) G (iN hs (iA k) ⟨(hs (iA k)).A,m,(hs (iA k)).c⟩) cb (s.pQ k ((az s.c.wt k).take m))/\aC K w (w.setCell ⟨g0,k,none⟩ (.slice (hs (iA k)).A m (hs (iA k)).c)):=by
 refine⟨?_,aC.set g0 k _ (h.s.row 0 g0 d)⟩
 cases f:(hs (iA k)).b with
 |some g=>
  refine h.Dg d hk (h':=⟨(hs (iA k)).A,m,(hs (iA k)).c⟩) ?_ (h.s.cut m);refine(j0.cut h.e f (k:=m) (by rw[h.e.zZ];exact hm)).eq rfl rfl rfl (λ _ _=>rfl) rfl (λ r=>?_)
  by_cases e:r=iA k
  ·subst e;rw[jG,jG,zY,vN];simp[kW]
  ·rw[bh _ _ e,bh _ _ e]
 |none=>
  have i:(hs (iA k)).n=0:=by
   rcases m_ (hs (iA k)).n with j|j
   ·exact j
   ·obtain⟨g,_,o⟩:=h.e.rows.addr (r:=iA k) (by omega);rw[f] at o;cases o
  have hl:az s.c.wt k=[]:=List.eq_nil_of_length_eq_zero (by rw[<-h.e.zZ,i]);have q:m=0:=by rw[hl] at hm;simpa using hm
  subst q;have p:(⟨(hs (iA k)).A,0,(hs (iA k)).c⟩:ax)=hs (iA k):=by rw[<-i]
  have t:Value.slice (hs (iA k)).A 0 (hs (iA k)).c=(hs (iA k)).v:=by rw[<-p];rfl
  have hu:iN hs (iA k) (hs (iA k))=hs:=funext λ r=>by
   by_cases e:r=iA k
   ·subst e;rw[jG]
   ·rw[bh _ _ e]
  have:=h.Dg d hk (h':=hs (iA k)) (w1:=w) (l:=az s.c.wt k) (by
   rw[hu];refine h.e.eq rfl rfl rfl (λ _ _=>rfl) rfl (λ r=>?_)
   by_cases e:r=iA k
   ·subst e;rw[jG,vN]
   ·rw[bh _ _ e]) (by rw[hu];exact h.s)
  rw[p,t,List.take_zero];rw[hl] at this;exact this
def an.sy(s:an)(d:Nat)(l:List Int):an:={s with c:=lK s.c d l}
theorem KC(hs:Nat->ax)(cb:Nat->Nat)(s:an){d r:Nat}{l:List Int}(e:r≠kr d):cont hs cb (s.sy d l) r=cont hs cb s r:=by
 rcases Zv r 13 with h|h
 ·have:r=0\/r=1\/r=2\/r=3\/r=4\/r=5\/r=6\/r=7\/r=8\/r=9\/r=10\/r=11\/r=12:=by omega
  rcases this with rfl|rfl|rfl|rfl|rfl|rfl|rfl|rfl|rfl|rfl|rfl|rfl|rfl<;>rfl
 ·have a0:¬r=0:=by omega
  have a1:¬r=1:=by omega
  have a2:¬r=2:=by omega
  have a3:¬r=3:=by omega
  have a4:¬r=4:=by omega
  have a5:¬r=5:=by omega
  have f:¬r=6:=by omega
  have g:¬r=7:=by omega
  have i:¬r=8:=by omega
  have a9:¬r=9:=by omega
  have j:¬r=10:=by omega
  have k:¬r=11:=by omega
  have a12:¬r=12:=by omega
  unfold cont;simp only[a0,a1,a2,a3,a4,a5,f,g,i,a9,j,k,a12,if_false]
  by_cases hm:r%3=1
  ·rw[if_pos hm,if_pos hm];rfl
  ·rw[if_neg hm,if_neg hm]
   by_cases b:r%3=2
   ·rw[if_pos b,if_pos b];have:az (s.sy d l).c.cl ((r-14)/3)=az s.c.cl ((r-14)/3):=by
     show az (s.c.cl.set d l) _=_;rw[qw,if_neg (λ m=>e (by unfold kr;omega))]
    rw[this]
   ·rw[if_neg b,if_neg b];rfl
theorem aX.FX(h:aX K base w G hs cb s){d g:Nat}(i:(hs (kr d)).b=some g)(k:d<s.c.cl.length)(j:Nat)(x:Int):aX K base (w.setCell ⟨g,j,none⟩ (.int .i64 x)) G hs cb (s.sy d ((az s.c.cl d).set j x))/\aC K w (w.setCell ⟨g,j,none⟩ (.int .i64 x)):=by
 refine⟨⟨(h.e.cell i j (.int .i64 x)).eq rfl rfl rfl (λ _ _=>rfl) (q4 _ _ _).symm (λ r=>?_),?_⟩,aC.set g j _ (h.s.row _ g i)⟩
 ·by_cases f:r=kr d
  ·subst f;rw[jG,xX,xX];show _=iY (az (s.c.cl.set d _) d);rw[qw,if_pos ⟨rfl,k⟩];simp[iY,Zs]
  ·rw[bh _ _ f];exact(KC hs cb s f).symm
 ·show Sep K _ G hs cb (lK s.c d _).cl.length;rw[q4];exact h.s.more (kZ w g j _).size
end
end
section
section
variable {F Fd:List (List Int)}{c:Core}{h:Nat}{P:List Nat}
theorem j7.yM(L:j7 F Fd c h P)(x:Nat):j7 F Fd {c with ag:=x} h P:=
 ⟨⟨L.aL.rE,L.aL.o7,L.aL.pH,L.aL.lit,L.aL.ng,L.aL.tT,L.aL.pos,L.aL.q3,L.aL.ov,L.aL.mq,L.aL.pV⟩,⟨L.jF.mB,L.jF.imp,L.jF.tA,L.jF.tB,L.jF.tC⟩,⟨L.wt.qM,L.wt.qN,L.wt.sS,L.wt.uK⟩,L.rG,L.rH,L.cur,L.hle⟩
theorem yq.mT(W:yq c)(k:Nat):(az c.wt k).length<=c.cl.length:=xK _ _ (W.sS k) (λ d b=>(W.qN k d b).1)
theorem oF.len{n:Nat}{l:List Int}(h:oF n l):l.length<=2*n+2:=by
 have:=xK (2*n+2) (l.map jE) (by
  have:=h.ng;rw[List.nodup_iff_pairwise_ne] at this⊢;exact List.Pairwise.map _ (λ a b c e=>c (vA e)) this) (λ x d=>by
  obtain⟨y,f,rfl⟩:=List.mem_map.1 d;exact(h.lt y f).at)
 rwa[List.length_map] at this
def ko(c:Core)(k:Nat)(l:List Nat):Core:={c with wt:=c.wt.set k l}
theorem Bu{k:Nat}(hk:k<c.wt.length):ko c k (az c.wt k)=c:=by
 show{c with wt:=c.wt.set k (az c.wt k)}=c;rw[EP hk,Zy]
theorem Dl(k:Nat)(a b:List Nat):ko (ko c k a) k b=ko c k b:=by simp[ko,c_]
theorem KD{k0 ky d k:Nat}{ir raw:List Nat}(b:jE (-(w1 c d))=k0)(e:jE (-(aj (az c.cl d) k))=ky)(f:ky≠k0):
  ko (rX c d k ir) k0 raw=ko (lK (ko c k0 raw) d (kL (az c.cl d) 1 k)) ky (az c.wt ky++[d]):=by
 unfold rX ko lK;simp only[b,e]
 congr 1
 rw[List.set_comm _ _ f,c_]
end
structure Aa(F:List (List Int))(jI:List Int)(bH c:Core)(h:Nat):Prop where
 gP:j7 F F c h []
 jI:nr c jI
 sm:tG bH c
end
section
open Go.RowKit Go.Shelf
section
variable {K:Nat->Prop}{base:Nat}{w W:World}{G:Nat}{hs:Nat->ax}{cb:Nat->Nat}{s:an}
theorem Bv(h:aX K base w G hs cb s)(x:Int)(o:Option Nat)(T:jT s.c)(b:gW s.c.n x)(f:s.c.n<=60000)(d:s.c.st.length<=1000000):
  Calls x_ 156 #[.pointer (some ⟨G,0,none⟩),.int .i64 x,qQ cb o] w λ e w'=>e=.returned (.tuple #[])/\∃h':ax,aX K base w' G (iN hs 4 h') cb {s with c:=k6 s.c x o}/\aC K w w':=by
 have g:=b.2;have i:=T.len;refine(JP h.e (Nat.le_of_lt h.e.lt) x o (by rw[T.rE];omega) (by rw[T.o7];omega) (by rw[T.pH];omega) (by omega) (by omega) d).mono ?_;rintro e w' ⟨he,h',E,F,U⟩;exact⟨he,h',⟨E,(h.s.iT (h.s.U U)).more F.size⟩,aC.Fc F h.s⟩
theorem Bw(h:aX K base w G hs cb s)(T:jT s.c)(d:s.c.n<=60000){x:Int}(b:gW s.c.n x):Calls x_ 152 #[.pointer (some ⟨G,0,none⟩),.int .i64 x] w λ e w'=>e=.returned (.int .i8 (jW s.c x))/\w=w':=
 JN h.e x (by rw[T.rE];have:=b.2;omega) T.tT (by have:=b.2;omega)
theorem FY{n:Nat}{x:Int}(b:gW n x)(c:n<=60000)(w:World):Calls x_ 181 #[.int .i64 x] w λ e w'=>e=.returned (.int .i64 (jE x))/\w=w':=
 C2 x w (by have:=b.2;unfold aG at this;omega) (by have:=b.2;unfold aG at this;omega)
end
def Dm(w:World)(p:Addr):Nat:=match w.cell? p with
 |some (.int _ x)=>x.toNat
 |_=>0
theorem aX.yN(h:aX K base w G hs cb s):Dm w ⟨G,7,none⟩=s.c.ag:=by
 unfold Dm;rw[h.e.ku (k:=7) (v:=.int .i64 s.c.ag) rfl];simp
theorem Bx{c2:Core}{k0 g0 kl ir iZ:Nat}{nw:Option Addr}{raw kept:List Nat}
  (E:aX K base w G hs cb {s with c:=ko c2 k0 raw}) (f:(hs 0).b=some g0) (hk:k0<c2.wt.length) (g:hs (iA k0)=⟨nw,ir,iZ⟩) (i:raw.take kl=kept) (hle:kl<=raw.length) (j:az c2.wt k0=kept):
  aX K base ((w.setCell ⟨g0,k0,none⟩ (.slice nw kl iZ)).drew) G (iN hs (iA k0) ⟨nw,kl,iZ⟩) cb {s with c:=c2}/\aC K w ((w.setCell ⟨g0,k0,none⟩ (.slice nw kl iZ)).drew):=by
 have d:az (ko c2 k0 raw).wt k0=raw:=by show az (c2.wt.set k0 raw) k0=raw;rw[qw,if_pos ⟨rfl,hk⟩]
 have h1:=E.KB f (k:=k0) (m:=kl) (by show k0<(c2.wt.set k0 raw).length;rw[v_];exact hk) (by show kl<=(az (ko c2 k0 raw).wt k0).length;rw[d];exact hle);rw[g] at h1;have e:(({s with c:=ko c2 k0 raw}:an).pQ k0 ((az ({s with c:=ko c2 k0 raw}:an).c.wt k0).take kl))={s with c:=c2}:=by
  show({s with c:=ko (ko c2 k0 raw) k0 ((az (ko c2 k0 raw).wt k0).take kl)}:an)=_;rw[d,i,Dl,<-j,Bu hk]
 rw[e] at h1;exact⟨h1.1.drew,h1.2.trans aC.drew⟩
def KE(K:Nat->Prop)(base:Nat)(w:World)(G:Nat)(cb:Nat->Nat)(F:List (List Int))(b:List Int)(s:an)(e:Ending)(w':World):Prop:=
 ∃(p:Option Nat)(c':Core)(hs':Nat->ax)(h':Nat),e=.returned (qQ cb p)/\Aa F b s.c c' h'/\aX K base w' G hs' cb {s with c:=c'}/\aC K w w'/\
  (match p with
   |none=>h'=c'.ay.length/\c'.ag=h'
   |some d=>d<c'.cl.length/\∀x∈az c'.cl d,-x∈c'.ay)
end
section
open Go.RowKit Go.Shelf
section
variable {K:Nat->Prop}{base:Nat}{w bG W:World}{G:Nat}{hs:Nat->ax}{cb:Nat->Nat}{s:an}
structure yO(base:Nat)(w:World)(G:Nat)(hs:Nat->ax)(cb:Nat->Nat)(d bz m bl:Nat)(l:List Int):Prop where
 b:(hs (kr d)).b=some bz
 len:l.length=m
 cap:m<=bl
 ag:w.cell? ⟨cb d,0,none⟩=some (.slice (some ⟨bz,0,none⟩) m bl)
 kC:∀j,j<m->w.cell? ⟨bz,j,none⟩=some (.int .i64 (aj l j))
 k4:∀j,w.frozen? ⟨bz,j,none⟩=false
 ne:cb d≠bz
theorem aX.yP(h:aX K base w G hs cb s){d:Nat}(f:d<s.c.cl.length)(n:1<=(az s.c.cl d).length):∃bz m i,yO base w G hs cb d bz m i (az s.c.cl d):=by
 obtain⟨bz,o,b,k⟩:=h.e.wM (r:=kr d) (h.e.z1 d) (by omega);have cap:=h.e.xV b;rw[h.e.z1] at cap;have g:=(h.zV f).1;rw[k] at g;exact⟨bz,_,_,b,rfl,cap,g,λ j l=>h.e.xZ b l,λ j=>h.e.rows.free b j,h.e.xO f _ _ b⟩
theorem aX.Dn(h:aX K base w G hs cb s){k g:Nat}(f:(hs (iA k)).b=some g){j d:Nat}(i:(az s.c.wt k)[j]? =some d):w.cell? ⟨g,j,none⟩=some (.pointer (some ⟨cb d,0,none⟩)):=h.e.get f (by
 rw[vN];simp[kW,i,sX])
theorem aX.FZ(h:aX K base w G hs cb s){g0 k d lM oo:Nat}{oJ:Option Addr}{v0 v':Value}(i:(hs 0).b=some g0)(hk:k<s.c.wt.length)(f:hs (iA k)=⟨oJ,lM,oo⟩)(l:lM=(az s.c.wt k).length)(m:w.cell? ⟨G,1,none⟩=some v0)
  (g:nW w base 164 (.slice oJ lM oo) (lM+1) (kW cb (az s.c.wt k)++[.pointer (some ⟨cb d,0,none⟩)]) v' bG):
  ∃(A':Option Addr)(c':Nat),v'=.slice A' (lM+1) c'/\bG.cell? ⟨G,1,none⟩=some v0/\bG.cell? ⟨g0,k,none⟩=some (.slice oJ lM oo)/\(∀j,bG.frozen? ⟨g0,j,none⟩=false)/\
   (∀b,b<w.heap.size->(hs (iA k)).b≠some b->∀j,bG.cell? ⟨b,j,none⟩=w.cell? ⟨b,j,none⟩)/\aX K base (bG.setCell ⟨g0,k,none⟩ v') G (iN hs (iA k) ⟨A',lM+1,c'⟩) cb (s.pQ k (az s.c.wt k++[d]))/\aC K w (bG.setCell ⟨g0,k,none⟩ v'):=by
 obtain⟨A',c',n,o,p,f9,E,F⟩:=h.Dh i hk f l m g;refine⟨A',c',n,o,p,f9,λ b q r j=>?_,E,F⟩;have t:=g.2.1;refine World.cell?_of_block (t.block b q (λ e=>r ?_));have:(hs (iA k)).b=(Value.slice oJ lM oo).ownBlock:=by rw[<-ax.own,f];rfl
 rw[this];exact e.symm
theorem KF{kept ls:List Nat}{kl d:Nat}(h:kept.length=kl)(hl:kl<ls.length):(kept++ls.drop kl).set kl d=(kept++[d])++ls.drop (kl+1):=by
 subst h;rw[List.set_append_right _ _ (n_ _),Nat.sub_self,List.drop_eq_getElem_cons hl,List.set_cons_zero,List.append_assoc];rfl
theorem Dp{c:Core}{k:Nat}{l:List Nat}(T:jT c):jT (ko c k l):=⟨T.rE,T.o7,T.pH,T.lit,T.ng,T.tT,T.pos,T.q3,T.ov,T.mq,T.pV⟩
theorem aX.F0(h:aX K base w G hs cb s){d bz i j:Nat}(g:(hs (kr d)).b=some bz)(e:d<s.c.cl.length){x y:Int}(k:aj (az s.c.cl d) i=x)(l:aj (az s.c.cl d) j=y):
  aX K base (((w.setCell ⟨bz,i,none⟩ (.int .i64 y)).setCell ⟨bz,j,none⟩ (.int .i64 x)).drew) G hs cb (s.sy d (kL (az s.c.cl d) i j))/\aC K w (((w.setCell ⟨bz,i,none⟩ (.int .i64 y)).setCell ⟨bz,j,none⟩ (.int .i64 x)).drew):=by
 have h1:=h.FX g e i y;have m:d<(s.sy d ((az s.c.cl d).set i y)).c.cl.length:=by show d<(lK s.c d _).cl.length;rw[q4];exact e
 have f:=h1.1.FX g m j x;have n:az (s.sy d ((az s.c.cl d).set i y)).c.cl d=(az s.c.cl d).set i y:=by show az (s.c.cl.set d _) d=_;rw[qw,if_pos ⟨rfl,e⟩]
 have o:((s.sy d ((az s.c.cl d).set i y)).sy d (((az s.c.cl d).set i y).set j x))=s.sy d (kL (az s.c.cl d) i j):=by
  unfold an.sy lK kL;rw[k,l];simp[c_]
 rw[n,o] at f;exact⟨f.1.drew,h1.2.trans (f.2.trans aC.drew)⟩
end
end
section
open Go.RowKit Go.Shelf
section
variable {K:Nat->Prop}{base:Nat}{w W W' rP:World}{G:Nat}{hs hs':Nat->ax}{cb r0:Nat->Nat}{s s':an}{ls:Nat->ax}{X:Nat->List Value}
theorem lz.app(h:lz K base w W G hs cb s ls X){r:Nat}(f:xW r=3){xs:List Int}{x:Int}{v':Value}(i:nW W w.heap.size 3 (ls r).v ((ls r).n+1) ((xs++[x]).map (a_ .i64)) v' rP):
  ∃h':ax,v'=h'.v/\h'.n=(ls r).n+1/\(h'.b=(ls r).b\/∀g,h'.b=some g->W.heap.size<=g)/\lz K base w rP G hs cb s (iN ls r h') (iN X r (iY (xs++[x])))/\KeepsOthers W rP:=by
 obtain⟨c,j,k⟩:=i;obtain⟨A',c',rfl⟩:=EI c;have d:(⟨A',(ls r).n+1,c'⟩:ax).b=(ls r).b\/∀g,(⟨A',(ls r).n+1,c'⟩:ax).b=some g->W.heap.size<=g:=by
  rcases k with h1|h1
  ·exact .inl (by rw[<-ax.own,<-ax.own];exact h1)
  ·exact .inr (λ g e=>by rw[<-ax.own] at e;have:=h1.symm.trans e;injection this with this;omega)
 refine⟨⟨A',(ls r).n+1,c'⟩,rfl,rfl,d,h.iT (r:=r) (h':=⟨A',(ls r).n+1,c'⟩) (ys:=iY (xs++[x])) (by rw[<-ax.own];exact j) (by rw[f];exact c) d⟩
end
structure kM(K:Nat->Prop)(base:Nat)(w W:World)(G:Nat)(hs:Nat->ax)(cb:Nat->Nat)(s:an)(aH bI bL c6 bt:Nat)(out mk:List Int)(op:Int)(hU:ax)(iO:List Value)(ls:Nat->ax)(X:Nat->List Value):Prop where
 gj:lz K base w W G hs cb s ls X
 nO:ls 0=om aH
 iX:X 0=[.pointer (some ⟨G,0,none⟩)]
 iV:ls 1=om bI
 jK:X 1=[(ls 5).v]
 k7:X 5=iY out
 kz:ls 2=om bL
 kA:X 2=[(ls 6).v]
 kN:X 6=iY mk
 nQ:ls 3=om c6
 kI:X 3=[.int .i64 op]
 p4:ls 4=om bt
 lN:X 4=[.func (.func 182) #[] #[.pointer (some ⟨aH,0,none⟩),.pointer (some ⟨bL,0,none⟩)]]
 s4:ls 11=hU
 uR:X 11=iO
section
variable {K:Nat->Prop}{base:Nat}{w W W' rP:World}{G:Nat}{hs hs':Nat->ax}{cb r0:Nat->Nat}{s s':an}{aH bI bL c6 bt:Nat}{out mk:List Int}{op:Int}{hU:ax}{iO:List Value}{ls:Nat->ax}{X:Nat->List Value}
theorem kM.r5(h:kM K base w W G hs cb s aH bI bL c6 bt out mk op hU iO ls X)(b:lz K base w W' G hs' r0 s' ls X):kM K base w W' G hs' r0 s' aH bI bL c6 bt out mk op hU iO ls X:=⟨b,h.nO,h.iX,h.iV,h.jK,h.k7,h.kz,h.kA,h.kN,h.nQ,h.kI,h.p4,h.lN,h.s4,h.uR⟩
theorem kM.bK(h:kM K base w W G hs cb s aH bI bL c6 bt out mk op hU iO ls X):(ls 0).b=some aH:=by rw[h.nO];rfl
theorem kM.bp(h:kM K base w W G hs cb s aH bI bL c6 bt out mk op hU iO ls X):(ls 1).b=some bI:=by rw[h.iV];rfl
theorem kM.iz(h:kM K base w W G hs cb s aH bI bL c6 bt out mk op hU iO ls X):(ls 2).b=some bL:=by rw[h.kz];rfl
theorem kM.kK(h:kM K base w W G hs cb s aH bI bL c6 bt out mk op hU iO ls X):(ls 3).b=some c6:=by rw[h.nQ];rfl
theorem kM.mD(h:kM K base w W G hs cb s aH bI bL c6 bt out mk op hU iO ls X):(ls 4).b=some bt:=by rw[h.p4];rfl
theorem kM.aF(h:kM K base w W G hs cb s aH bI bL c6 bt out mk op hU iO ls X):W.cell? ⟨aH,0,none⟩=some (.pointer (some ⟨G,0,none⟩)):=(h.gj.kC h.bK (by rw[h.iX];rfl)).1
theorem kM.co(h:kM K base w W G hs cb s aH bI bL c6 bt out mk op hU iO ls X):W.cell? ⟨bI,0,none⟩=some (ls 5).v/\W.frozen? ⟨bI,0,none⟩=false:=h.gj.kC h.bp (by rw[h.jK];rfl)
theorem kM.aV(h:kM K base w W G hs cb s aH bI bL c6 bt out mk op hU iO ls X):W.cell? ⟨bL,0,none⟩=some (ls 6).v/\W.frozen? ⟨bL,0,none⟩=false:=h.gj.kC h.iz (by rw[h.kA];rfl)
theorem kM.wU(h:kM K base w W G hs cb s aH bI bL c6 bt out mk op hU iO ls X):W.cell? ⟨c6,0,none⟩=some (.int .i64 op)/\W.frozen? ⟨c6,0,none⟩=false:=h.gj.kC h.kK (by rw[h.kI];rfl)
theorem kM.kG(h:kM K base w W G hs cb s aH bI bL c6 bt out mk op hU iO ls X):W.cell? ⟨bt,0,none⟩=some (.func (.func 182) #[] #[.pointer (some ⟨aH,0,none⟩),.pointer (some ⟨bL,0,none⟩)]):=(h.gj.kC h.mD (by rw[h.lN];rfl)).1
theorem kM.jX(h:kM K base w W G hs cb s aH bI bL c6 bt out mk op hU iO ls X):(ls 5).n=out.length:=by have:=h.gj.rows.len 5;rw[h.k7] at this;simpa[iY] using this.symm
theorem kM.n6(h:kM K base w W G hs cb s aH bI bL c6 bt out mk op hU iO ls X):(ls 6).n=mk.length:=by have:=h.gj.rows.len 6;rw[h.kN] at this;simpa[iY] using this.symm
theorem kM.grow(h:kM K base w W G hs cb s aH bI bL c6 bt out mk op hU iO ls X)(b:Below W.heap.size W W'):kM K base w W' G hs cb s aH bI bL c6 bt out mk op hU iO ls X:=h.r5 (h.gj.grow b)
theorem kM.drew(h:kM K base w W G hs cb s aH bI bL c6 bt out mk op hU iO ls X):kM K base w W.drew G hs cb s aH bI bL c6 bt out mk op hU iO ls X:=h.r5 h.gj.drew
theorem kM.KG(h:kM K base w W G hs cb s aH bI bL c6 bt out mk op hU iO ls X){x:Int}{v':Value}(f:nW W w.heap.size 3 (ls 6).v ((ls 6).n+1) ((mk++[x]).map (a_ .i64)) v' rP):
  ∃A' c' g i,v'=.slice A' ((ls 6).n+1) c'/\rP.cell? ⟨bL,0,none⟩=some (ls 6).v/\rP.frozen? ⟨bL,0,none⟩=false/\kM K base w (rP.setCell ⟨bL,0,none⟩ v') G hs cb s aH bI bL c6 bt out (mk++[x]) op hU iO g i/\KeepsOthers W (rP.setCell ⟨bL,0,none⟩ v'):=by
 obtain⟨⟨A',j,c'⟩,rfl,c,p,d,l⟩:=h.gj.app (r:=6) rfl f;have c:j=(ls 6).n+1:=c;subst c;have e:(iN ls 6 ⟨A',(ls 6).n+1,c'⟩ 2).b=some bL:=by rw[bh _ _ (by omega)];exact h.iz
 have c2:=d.kC e (k:=0) (v:=(ls 6).v) (by rw[bh _ _ (by omega),h.kA];rfl);obtain⟨m,o⟩:=d.set e 0 (ax.v ⟨A',(ls 6).n+1,c'⟩);refine⟨A',c',iN ls 6 ⟨A',(ls 6).n+1,c'⟩,_,rfl,c2.1,c2.2,⟨m,?_,?_,?_,?_,?_,?_,?_,?_,?_,?_,?_,?_,?_,?_⟩,l.trans o⟩
 ·rw[bh _ _ (by omega)];exact h.nO
 ·rw[bh _ _ (by omega),bh _ _ (by omega)];exact h.iX
 ·rw[bh _ _ (by omega)];exact h.iV
 ·rw[bh _ _ (by omega),bh _ _ (by omega),bh _ _ (by omega)];exact h.jK
 ·rw[bh _ _ (by omega),bh _ _ (by omega)];exact h.k7
 ·rw[bh _ _ (by omega)];exact h.kz
 ·rw[jG,bh _ _ (by omega),jG,h.kA];rfl
 ·rw[bh _ _ (by omega),jG]
 ·rw[bh _ _ (by omega)];exact h.nQ
 ·rw[bh _ _ (by omega),bh _ _ (by omega)];exact h.kI
 ·rw[bh _ _ (by omega)];exact h.p4
 ·rw[bh _ _ (by omega),bh _ _ (by omega)];exact h.lN
 ·rw[bh _ _ (by omega)];exact h.s4
 ·rw[bh _ _ (by omega),bh _ _ (by omega)];exact h.uR
theorem kM.KH(h:kM K base w W G hs cb s aH bI bL c6 bt out mk op hU iO ls X){x:Int}{v':Value}(f:nW W w.heap.size 3 (ls 5).v ((ls 5).n+1) ((out++[x]).map (a_ .i64)) v' rP):
  ∃A' c' g i,v'=.slice A' ((ls 5).n+1) c'/\rP.cell? ⟨bI,0,none⟩=some (ls 5).v/\rP.frozen? ⟨bI,0,none⟩=false/\kM K base w (rP.setCell ⟨bI,0,none⟩ v') G hs cb s aH bI bL c6 bt (out++[x]) mk op hU iO g i/\KeepsOthers W (rP.setCell ⟨bI,0,none⟩ v'):=by
 obtain⟨⟨A',j,c'⟩,rfl,c,p,d,l⟩:=h.gj.app (r:=5) rfl f;have c:j=(ls 5).n+1:=c;subst c;have e:(iN ls 5 ⟨A',(ls 5).n+1,c'⟩ 1).b=some bI:=by rw[bh _ _ (by omega)];exact h.bp
 have c2:=d.kC e (k:=0) (v:=(ls 5).v) (by rw[bh _ _ (by omega),h.jK];rfl);obtain⟨m,o⟩:=d.set e 0 (ax.v ⟨A',(ls 5).n+1,c'⟩);refine⟨A',c',iN ls 5 ⟨A',(ls 5).n+1,c'⟩,_,rfl,c2.1,c2.2,⟨m,?_,?_,?_,?_,?_,?_,?_,?_,?_,?_,?_,?_,?_,?_⟩,l.trans o⟩
 ·rw[bh _ _ (by omega)];exact h.nO
 ·rw[bh _ _ (by omega),bh _ _ (by omega)];exact h.iX
 ·rw[bh _ _ (by omega)];exact h.iV
 ·rw[jG,bh _ _ (by omega),jG,h.jK];rfl
 ·rw[bh _ _ (by omega),jG]
 ·rw[bh _ _ (by omega)];exact h.kz
 ·rw[bh _ _ (by omega),bh _ _ (by omega),bh _ _ (by omega)];exact h.kA
 ·rw[bh _ _ (by omega),bh _ _ (by omega)];exact h.kN
 ·rw[bh _ _ (by omega)];exact h.nQ
 ·rw[bh _ _ (by omega),bh _ _ (by omega)];exact h.kI
 ·rw[bh _ _ (by omega)];exact h.p4
 ·rw[bh _ _ (by omega),bh _ _ (by omega)];exact h.lN
 ·rw[bh _ _ (by omega)];exact h.s4
 ·rw[bh _ _ (by omega),bh _ _ (by omega)];exact h.uR
theorem kM.Dq(h:kM K base w W G hs cb s aH bI bL c6 bt out mk op hU iO ls X)(x:Int):∃b,kM K base w (W.setCell ⟨c6,0,none⟩ (.int .i64 x)) G hs cb s aH bI bL c6 bt out mk x hU iO ls b/\KeepsOthers W (W.setCell ⟨c6,0,none⟩ (.int .i64 x)):=by
 obtain⟨c,d⟩:=h.gj.set h.kK 0 (.int .i64 x);refine⟨_,⟨c,h.nO,?_,h.iV,?_,?_,h.kz,?_,?_,h.nQ,?_,h.p4,?_,h.s4,?_⟩,d⟩
 ·rw[bh _ _ (by omega)];exact h.iX
 ·rw[bh _ _ (by omega)];exact h.jK
 ·rw[bh _ _ (by omega)];exact h.k7
 ·rw[bh _ _ (by omega)];exact h.kA
 ·rw[bh _ _ (by omega)];exact h.kN
 ·rw[jG,h.kI];rfl
 ·rw[bh _ _ (by omega)];exact h.lN
 ·rw[bh _ _ (by omega)];exact h.uR
theorem kM.KI(h:kM K base w W G hs cb s aH bI bL c6 bt out mk op hU iO ls X){g:Nat}(c:(ls 5).b=some g)(k:Nat)(x:Int):∃d,kM K base w (W.setCell ⟨g,k,none⟩ (.int .i64 x)) G hs cb s aH bI bL c6 bt (out.set k x) mk op hU iO ls d/\KeepsOthers W (W.setCell ⟨g,k,none⟩ (.int .i64 x)):=by
 obtain⟨e,f⟩:=h.gj.set c k (.int .i64 x);refine⟨_,⟨e,h.nO,?_,h.iV,?_,?_,h.kz,?_,?_,h.nQ,?_,h.p4,?_,h.s4,?_⟩,f⟩
 ·rw[bh _ _ (by omega)];exact h.iX
 ·rw[bh _ _ (by omega)];exact h.jK
 ·rw[jG,h.k7];unfold iY;rw[Zs]
 ·rw[bh _ _ (by omega)];exact h.kA
 ·rw[bh _ _ (by omega)];exact h.kN
 ·rw[bh _ _ (by omega)];exact h.kI
 ·rw[bh _ _ (by omega)];exact h.lN
 ·rw[bh _ _ (by omega)];exact h.uR
theorem kM.KJ(h:kM K base w W G hs cb s aH bI bL c6 bt out mk op hU iO ls X)(v:Value):∃b c,kM K base w (W.alloc (.cells #[v] 3)) G hs cb s aH bI bL c6 bt out mk op (om W.heap.size) [v] b c:=by
 have B:=h.gj.box 11 v;refine⟨_,_,⟨B,?_,?_,?_,?_,?_,?_,?_,?_,?_,?_,?_,?_,jG _ _ _,jG _ _ _⟩⟩
 ·rw[bh _ _ (by omega)];exact h.nO
 ·rw[bh _ _ (by omega)];exact h.iX
 ·rw[bh _ _ (by omega)];exact h.iV
 ·rw[bh _ _ (by omega),bh _ _ (by omega)];exact h.jK
 ·rw[bh _ _ (by omega)];exact h.k7
 ·rw[bh _ _ (by omega)];exact h.kz
 ·rw[bh _ _ (by omega),bh _ _ (by omega)];exact h.kA
 ·rw[bh _ _ (by omega)];exact h.kN
 ·rw[bh _ _ (by omega)];exact h.nQ
 ·rw[bh _ _ (by omega)];exact h.kI
 ·rw[bh _ _ (by omega)];exact h.p4
 ·rw[bh _ _ (by omega)];exact h.lN
end
def KK(K:Nat->Prop)(base:Nat)(w W:World)(G:Nat)(hs:Nat->ax)(cb:Nat->Nat)(s:an)(aH bI bL c6 bt:Nat)(out mk:List Int)(op:Int)(hU:ax)(iO:List Value)(v:Nat)(e:Ending)(W':World):Prop:=
 e=.returned (.tuple #[])/\∃b c,kM K base w W' G hs cb (s.sY v true) aH bI bL c6 bt out (mk++[(v:Int)]) op hU iO b c/\KeepsOthers W W'
theorem KL(h:kM K base w W G hs cb s aH bI bL c6 bt out mk op hU iO ls X)
  (v:Nat) (t:v<s.aP.length) (hm:mk.length<=1000000):
  Calls x_ 182 #[.int .i64 (v:Int),.pointer (some ⟨aH,0,none⟩),.pointer (some ⟨bL,0,none⟩)] W (KK K base w W G hs cb s aH bI bL c6 bt out mk op hU iO v):=by
 obtain⟨g12,f,u,f12⟩:=h.gj.gH.e.lW 16 12 rfl h.gj.gH.e.n12 (by omega);have aF:=h.aF;have bg:(v:Int)<(s.aP.length:Int):=by omega
 have y:=h.gj.gH.e.zQ f t;have z:=f12 v;have i:=h.gj.back (h.gj.call.wN f v true).1 (h.gj.call.wN f v true).2;have b:=aa (h.r5 i.1);have s5:=aa i.2;clear i h f12 f;go_enter Tryz.func182,Tryz.ntmps182
 go_upto_region 1 with fail
 generalize W.setCell ⟨g12,v,none⟩ (.bool true)=V at b s5⊢;obtain⟨j,n6,k,d⟩:∃A n c,ls 6=⟨A,n,c⟩:=⟨_,_,_,rfl⟩
 have p:n6=mk.length:=by have:=b.o.n6;rw[d] at this;exact this
 have aV:V.cell? ⟨bL,0,none⟩=some (.slice j n6 k):=by have aV:=b.o.aV.1;rw[d] at aV;exact aV
 have g:=aa (b.o.grow (bB V (nX [(v:Int)])));have B:fE ((V.alloc (nX [(v:Int)])).ownsRow w.heap.size 3 1 (.slice j n6 k) n6 (mk.map (a_ .i64))):=aa (by have:=g.o.gj.rows.row 6;rw[d,g.o.kN] at this;exact this);have C:=aa (aS.lit V [(v:Int)] 1 V.heap.size rfl rfl (by omega));have q:=aa (z_ d p);have iR:=b.o.aV.2;clear u aF y z d p
 go_wp2_with (at_builtin;refine uH rfl (.tmp 10) (.tmp 12) rfl w.heap.size (.slice j n6 k) n6 mk rfl B.o (some ⟨V.heap.size,0,none⟩) 1 1 [(v:Int)] rfl C.o (by have:=q.o.2;omega) g.o.gj.iR.size ?_;intro v9 bG r;obtain⟨A',c',D,E,rfl,a1,a2,l,m⟩:=g.o.KG (x:=(v:Int)) (v':=v9) (by rw[q.o.1];exact r);have l:=aa l;have m:=aa m;clear r)
 go_end0;exact⟨rfl,D,E,l.o,s5.o.trans ((KeepsOthers.below (bB V _)).trans m.o)⟩
end
section
open Go.RowKit Go.Shelf
def uS:Code->Nat->Option Code
 | .block k c,n=>if k=n then some c else uS c n
 | .seq a b,n=>match uS a n with
  |some c=>some c
  |none=>uS b n
 | .loop c,n=>uS c n
 | .scope c,n=>uS c n
 | .cond _ a b,n=>match uS a n with
  |some c=>some c
  |none=>uS b n
 |_,_=>none
def mU:Code->Code
 | .seq _ b=>b
 |c=>c
def Dr:Code->Code
 | .seq a _=>a
 |c=>c
def By:Code->Code
 | .cond _ a _=>a
 |c=>c
def F1:Code->Code
 | .loop c=>c
 |c=>c
noncomputable def runIn:Code:=F1 (((Tryz.f145.body.bind λ c=>uS c 2)).getD .skip)
noncomputable def F2:Code:=(Tryz.f145.body.bind λ c=>uS c 3).getD .skip
noncomputable def KM:Code:=mU (mU (mU (mU F2)))
noncomputable def KN:Code:=F1 ((Tryz.f145.body.bind λ c=>uS c 4).getD .skip)
noncomputable def F3:Code:=By (mU ((Tryz.f145.body.bind λ c=>uS c 5).getD .skip))
structure rQ(G:Nat)(gM:Nat->ax)(c1:Core)(s:an)(lit:Int)(ls:List Nat)(k0 g0 iS ir iZ:Nat):Prop where
 bK:(gM 0).b=some g0
 ag:gM (iA k0)=⟨some ⟨iS,0,none⟩,ir,iZ⟩
 len:ir=ls.length
 lb:ir<=100000
 cap:ir<=iZ
 kC:jE lit=k0
 ok:gW s.c.n lit
 wt:c1.wt.length=2*s.c.n+2
 n:c1.n=s.c.n
 aq:s.c.n<=60000
 jA:s.c.st.length<=1000000
 hk:k0<2*s.c.n+2
 st:c1.st=s.c.st
 cl:c1.cl.length=s.c.cl.length
 Ds:s.c.cl.length<=100000
structure mz(K:Nat->Prop)(base:Nat)(w:World)(G:Nat)(cb:Nat->Nat)(F:List (List Int))(ai:List Int)(s:an)(c1:Core)(gM:Nat->ax)(aR:Nat)(lit:Int)(ls:List Nat)(k0:Nat)(i kl:Nat)(kept:List Nat)(c2:Core)(jH:Nat->ax)(W:World):Prop where
 nH:n4 F F ai c1 aR lit ls i kept c2
 s6:kept.length=kl
 gH:aX K base W G jH cb {s with c:=ko c2 k0 (kept++ls.drop kl)}
 hw:jH (iA k0)=gM (iA k0)
 au:jH 0=gM 0
 iR:aC K w W
section
variable {K:Nat->Prop}{base:Nat}{w W:World}{G:Nat}{gM jH:Nat->ax}{cb:Nat->Nat}{s:an}{F:List (List Int)}{ai:List Int}{c1 c2:Core}{aR:Nat}{lit:Int}{ls:List Nat}{k0 g0 iS ir iZ i kl d:Nat}{kept:List Nat}
theorem mz.mu(b:mz K base w G cb F ai s c1 gM aR lit ls k0 i kl kept c2 jH W)(C:rQ G gM c1 s lit ls k0 g0 iS ir iZ):c2.n=s.c.n:=b.nH.sm.n.trans C.n
theorem mz.vO(b:mz K base w G cb F ai s c1 gM aR lit ls k0 i kl kept c2 jH W)(C:rQ G gM c1 s lit ls k0 g0 iS ir iZ):c2.wt.length=2*s.c.n+2:=b.nH.sm.Be.trans C.wt
theorem mz.raw(b:mz K base w G cb F ai s c1 gM aR lit ls k0 i kl kept c2 jH W)(C:rQ G gM c1 s lit ls k0 g0 iS ir iZ):(ko c2 k0 (kept++ls.drop kl)).wt.length=2*s.c.n+2:=by
 show(c2.wt.set _ _).length=_;rw[v_];exact b.vO C
theorem mz.KO(b:mz K base w G cb F ai s c1 gM aR lit ls k0 i kl kept c2 jH W)(C:rQ G gM c1 s lit ls k0 g0 iS ir iZ):c2.cl.length<=100000:=by have:=b.nH.sm.len;have:=C.cl;have:=C.Ds;omega
theorem mz.Bz(b:mz K base w G cb F ai s c1 gM aR lit ls k0 i kl kept c2 jH W):kl<=i:=b.s6▸b.nH.kl
theorem mz.bK(c:mz K base w G cb F ai s c1 gM aR lit ls k0 i kl kept c2 jH W)(C:rQ G gM c1 s lit ls k0 g0 iS ir iZ):(jH 0).b=some g0:=by rw[c.au];exact C.bK
theorem mz.kQ(c:mz K base w G cb F ai s c1 gM aR lit ls k0 i kl kept c2 jH W)(C:rQ G gM c1 s lit ls k0 g0 iS ir iZ):(jH (iA k0)).b=some iS:=by rw[c.hw,C.ag];rfl
theorem mz.rq(b:mz K base w G cb F ai s c1 gM aR lit ls k0 i kl kept c2 jH W)(c:ls[i]? =some d):d<c2.cl.length/\2<=(az c2.cl d).length:=by
 obtain⟨e,rfl⟩:=i_.1 c;have:=b.nH.rq e;exact⟨this.1,this.2.1⟩
theorem mz.ok(b:mz K base w G cb F ai s c1 gM aR lit ls k0 i kl kept c2 jH W)(C:rQ G gM c1 s lit ls k0 g0 iS ir iZ){k:Nat}(e:ls[i]? =some d)(hk:k<(az c2.cl d).length):gW s.c.n (aj (az c2.cl d) k):=by
 have:=(b.nH.gP.jF.mB d (b.rq e).1).lt _ (lZ hk);rw[b.mu C] at this;exact this
theorem mz.m(b:mz K base w G cb F ai s c1 gM aR lit ls k0 i kl kept c2 jH W)(C:rQ G gM c1 s lit ls k0 g0 iS ir iZ)(c:ls[i]? =some d):(az c2.cl d).length<=120002:=by
 have:=(b.nH.gP.jF.mB d (b.rq c).1).len;rw[b.mu C] at this;have:=C.aq;omega
end
end
section
open Go.RowKit Go.Shelf
attribute [local go_sem] Oper.semAt_some
def qj:Code->Nat->Option Code
 | .block k c,n=>if k=n then some c else qj c n
 | .seq a b,n=>match qj a n with
  |some c=>some c
  |none=>qj b n
 | .loop c,n=>qj c n
 | .scope c,n=>qj c n
 | .cond _ a b,n=>match qj a n with
  |some c=>some c
  |none=>qj b n
 | .rangeFunc _ _ _ b,n=>qj b n
 |_,_=>none
noncomputable def KP:Code:=(Tryz.f146.body.bind λ c=>qj c 3).getD .skip
structure r6(n:Nat)(B:Int)(aI:an)(aP:List Bool)(s:an):Prop where
 hk:n5 aI {s with aP:=aI.aP}
 aP:s.aP=aP
 rg:mj n jw B s
theorem r6.mark(h:r6 n B aI aP s)(v:Nat)(b:Bool):r6 n B aI (aP.set v b) (s.sY v b):=
 ⟨h.hk,by show s.aP.set v b=_;rw[h.aP],⟨h.rg.jt,h.rg.lR,h.rg.k5,h.rg.qf,h.rg.a0,h.rg.ru,h.rg.oH,h.rg.nE,h.rg.oS,h.rg.nF,h.rg.pZ,h.rg.kX⟩⟩
theorem r6.F4{qS:Int}{s':an}(h:r6 n B aI aP s)(k:n5 s s')(r:mj n jw qS s'):r6 n qS aI aP s':=
 ⟨⟨k.c.trans h.hk.c,k.gN.trans h.hk.gN,k.aO.trans h.hk.aO,k.aA.trans h.hk.aA,rfl,k.nl.trans h.hk.nl,k.jr.trans h.hk.jr,k.ol.trans h.hk.ol,h.hk.same.trans k.same,k.nF.trans h.hk.nF,λ d=>⟨(k.ci d).1.trans (h.hk.ci d).1,(k.ci d).2.trans (h.hk.ci d).2⟩⟩,k.aP.trans h.aP,r⟩
theorem r6.c{n:Nat}{B:Int}{aI s:an}{aP:List Bool}(h:r6 n B aI aP s):s.c=aI.c:=h.hk.c
inductive vP(bH:Core)(x:Int)(aP:List Bool)(out mk:List Int)(op:Int):List Bool->List Int->List Int->Int->Prop
 |skip (h:iU aP (aG x)=true\/bg bH x=0):vP bH x aP out mk op aP out mk op
 |mS (h:iU aP (aG x)=false) (au:bg bH x≠0) (h1:bg bH x=bH.st.length):vP bH x aP out mk op (aP.set (aG x) true) out (mk++[(aG x:Int)]) (op+1)
 |put (h:iU aP (aG x)=false) (au:bg bH x≠0) (h1:bg bH x≠bH.st.length):vP bH x aP out mk op (aP.set (aG x) true) (out++[x]) (mk++[(aG x:Int)]) op
theorem KQ{x:Int}{jJ c5 iW lB gR gl iw gI gQ u16 gm gn gp gD gq gr gu gv gw gx gy gz fN fO fP u32 fQ fR fS fT fU fV fW fZ ga gb gd gA gB ig gX gY bM bN bO bP bQ bR bS bT bU bV bW bX bY bZ b5 u64 b6 b7 b8 b9 cc cg ck cm cn cp cr ct cu cv cw cz cA cB cC cD cE c7 c8 c9 dc de dh di dm cG cH cI cK cL cM cN cO cQ cR cS cT cU cV cW cZ c4 dn dr dw dx dy dz dA dB dD dF dG dH dI dJ dK dL dM dN dO dP dQ dR dS dU dV dW dX dY dZ ec fF fG fH ee ef ei ej ek en eo ep er eu ew ey fI fJ fK ez eA eB eC eD eE eF eG eH eL eM eN eO eP eR eS eT eU eV eW eX eY eZ e3 e4 e5 e6 e7 e8 e9 fc fe ff fh fk fm gh gi fo fq fu fA fB fC fD:Value}{l:Nat}
  (L:kM K base w W G hs cb s aH bI bL c6 bt out mk op hU iO ls X) (f:r6 n B aI aP s) (bh:n<=10) (aW:aI.c.st.length<=1000000) (aX:aI.aO.length<=100000) (ae:aP.length=n+1) (af:aI.c.lvl.length=n+1) (ag:0<=B) (ah:B<=4611686018427387904) (F:gW n x) (hm:mk.length<=1000) (ai:out.length<=1000) (aj:0<=op/\op<=1000)
  (ak:∀a W,Q .outgrown a W->False)
  (al:∀(a:Act)(W':World)(s':an)(H:Nat->ax)(I:Nat->List Value)(ao:List Bool)(aq mk':List Int)(ar:Int),vP aI.c x aP out mk op ao aq mk' ar->r6 n B aI ao s'->kM K base w W' G hs cb s' aH bI bL c6 bt aq mk' ar hU iO H I->KeepsOthers W W'->Q .normal a W'):
  Code.wpIn (Fence.wide.inRound l) 4 x_ KP (Exit.inBlock 3 Q) {tmps:= #[.pointer (some ⟨G,0,none⟩),jJ,.pointer (some ⟨aH,0,none⟩),c5,.pointer (some ⟨bI,0,none⟩),iW,.pointer (some ⟨bL,0,none⟩),.pointer (some ⟨bt,0,none⟩),.pointer (some ⟨c6,0,none⟩),lB,gR,.int .i64 x,gl,iw,gI,gQ,u16,gm,gn,gp,gD,gq,gr,gu,gv,gw,gx,gy,gz,fN,fO,fP,u32,fQ,fR,fS,fT,fU,fV,fW,fZ,ga,gb,gd,gA,gB,ig,gX,gY,bM,bN,bO,bP,bQ,bR,bS,bT,bU,bV,bW,bX,bY,bZ,b5,u64,b6,b7,b8,b9,cc,cg,ck,cm,cn,cp,cr,ct,cu,cv,cw,cz,cA,cB,cC,cD,cE,c7,c8,c9,dc,de,dh,di,dm,cG,cH,cI,cK,cL,cM,cN,cO,cQ,cR,cS,cT,cU,cV,cW,cZ,c4,dn,dr,dw,dx,dy,dz,dA,dB,dD,dF,dG,dH,dI,dJ,dK,dL,dM,dN,dO,dP,dQ,dR,dS,dU,dV,dW,dX,dY,dZ,ec,fF,fG,fH,ee,ef,ei,ej,ek,en,eo,ep,er,eu,ew,ey,fI,fJ,fK,ez,eA,eB,eC,eD,eE,eF,eG,eH,eL,eM,eN,eO,eP,eR,eS,eT,eU,eV,eW,eX,eY,eZ,e3,e4,e5,e6,e7,e8,e9,fc,fe,ff,fh,fk,fm,gh,gi,fo,fq,fu,fA,fB,fC,fD],defers:=[]} W:=by
 have C:=aa L;have oe:=aa f;have D:=aa al;obtain⟨v,i⟩:∃v,aG x=v:=⟨_,rfl⟩
 have au:1<=v/\v<=n:=by rw[<-i];exact F
 have J:fE (∀w:World,Calls x_ 97 #[.int .i64 x] w λ e w'=>e=.returned (.int .i64 (v:Int))/\w=w'):=aa (λ w=>by have:=sZ x w (by unfold aG at i;omega) (by unfold aG at i;omega);rw[i] at this;exact this);obtain⟨g12,av,aY,f12⟩:=L.gj.gH.e.lW 16 12 rfl L.gj.gH.e.n12 (by rw[f.aP];omega);have aw:=L.gj.gH.e.zQ av (k:=v) (by rw[f.aP];omega);obtain⟨g2,t,M,f2⟩:=L.gj.gH.e.lW 3 2 rfl L.gj.gH.e.mu (by rw[f.c];omega);have c2:=L.gj.gH.e.vH t (k:=v) (by rw[f.c];omega);have bj:(v:Int)<(s.aP.length:Int):=by rw[f.aP];omega
 have aZ:(v:Int)<(s.c.lvl.length:Int):=by rw[f.c];omega
 have aF:=L.aF;obtain⟨g,N⟩:∃l,gV s.c.lvl v=l:=⟨_,rfl⟩
 obtain⟨ay,O⟩:∃b,iU s.aP v=b:=⟨_,rfl⟩
 rw[N] at c2;rw[O] at aw;have az:bg aI.c x=g:=by show gV aI.c.lvl (aG x)=g;rw[i,<-f.c];exact N
 have aA:iU aP (aG x)=ay:=by rw[i,<-f.aP];exact O
 have d:=aa (z_ i (z_ au (z_ az (z_ aA (z_ ae (z_ af (z_ ag (z_ ah (z_ F (z_ hm (z_ ai (z_ aj (z_ aW aX)))))))))))));clear L f al i au N O az aA ae af ag ah F hm ai aj av t f12 f2
 conv=>arg 4;whnf
 cases ay with
 |true=>
  gi_wp2_with (refine⟨trivial,?_⟩;gi_at_call 97;refine(s_ l (o_.2 (J.o _))).mono ?_;rintro e w1 ⟨rfl,rfl⟩)
  exact D.o _ _ s ls X aP out mk op (vP.skip (.inl d.o.2.2.2.1)) oe.o C.o (Zq _)
 |false=>
  by_cases u:g=0
  ·have d1:((g:Int)==0)=true:=by simp[u]
   have P:=aa u;subst u
   gi_wp2_with (refine⟨trivial,?_⟩;gi_at_call 97;refine(s_ l (o_.2 (J.o _))).mono ?_;rintro e w1 ⟨rfl,rfl⟩)
   exact D.o _ _ s ls X aP out mk op (vP.skip (.inr d.o.2.2.1)) oe.o C.o (Zq _)
  ·have d1:((g:Int)==0)=false:=by simp;omega
   have P:=aa u;have kG:=C.o.kG;have aB:=KL C.o v (by rw[oe.o.aP,d.o.2.2.2.2.1];have:=d.o.2.1;omega) (by have:=d.o;omega)
   gi_wp2_with (refine⟨trivial,?_⟩;gi_at_call 97;refine(s_ l (o_.2 (J.o _))).mono ?_;rintro e w1 ⟨rfl,rfl⟩)
   clear u;refine⟨trivial,?_⟩
   gi_at_call 182
   refine(s_ l (o_.2 aB)).mono ?_;clear aB;rintro e w1 ⟨rfl,aC,bk,R,aD⟩;dsimp only;have S:=aa R;have a6:=aa aD;have aF:=R.aF;clear R aD aw c2 aY M kG;have aE:=aa (oe.o.mark v true);have aJ:=Kj S.o.gj.call aE.o.rg (by omega) (by rw[show(s.sY v true).aO=s.aO from rfl,show s.aO=aI.aO from oe.o.hk.aO];exact d.o.2.2.2.2.2.2.2.2.2.2.2.2.2) d.o.2.2.2.2.2.2.1 d.o.2.2.2.2.2.2.2.1 v d.o.2.1
   gi_wp2
   refine⟨trivial,?_⟩
   gi_at_call 184
   refine(s_ l (o_.2 aJ)).mono ?_;clear aJ;rintro e E ⟨rfl,s2,aK,aL,aM,f2⟩;dsimp only;have T:=S.o.gj.back aM f2;have j:=aa (S.o.r5 T.1);have a7:=aa (a6.o.trans T.2);have m:=aa (aE.o.F4 aK aL);clear aK aL aM f2 T aF;have aF:=j.o.aF;obtain⟨g2,t,M,f2⟩:=j.o.gj.gH.e.lW 3 2 rfl j.o.gj.gH.e.mu (by rw[m.o.c];have:=d.o;omega);have c2:=j.o.gj.gH.e.vH t (k:=v) (by rw[m.o.c];have:=d.o;omega);have aZ:(v:Int)<(s2.c.lvl.length:Int):=by rw[m.o.c];have:=d.o;omega
   rw[show gV s2.c.lvl v=g by rw[m.o.c,<-d.o.1];exact d.o.2.2.1] at c2;obtain⟨a8,jX,a',U⟩:∃A n c,hs 5=⟨A,n,c⟩:=⟨_,_,_,rfl⟩
   obtain⟨y,V⟩:∃n,aI.c.st.length=n:=⟨_,rfl⟩
   have aN:jX=y:=by have:=j.o.gj.gH.e.jX;rw[U,m.o.c] at this;exact this.trans V
   have ba:E.cell? ⟨G,6,none⟩=some (.slice a8 y a'):=by have:=j.o.gj.gH.e.ku (k:=6) (v:=(hs 5).v) rfl;rw[U,aN] at this;exact this
   have aQ:=aa V;clear V U aN t f2
   gi_wp2
   refine CJ 12 (by kernel_rfl) (by kernel_rfl) (by rintro⟨_,_,h⟩;exact ak _ _ h) (by kernel_rfl) ?_;simp only[List.take_succ_cons,List.take_zero,List.drop_succ_cons,List.drop_zero]
   iterate 12 still_step
   refine wpStill_nil ?_;change wpList _ _ _ _ _ E.drew;have p:=aa j.o.drew;have aR:=aa (a7.o.trans (KeepsOthers.drew E));clear aF M c2 ba;generalize E.drew=q at*
   by_cases h1:g=y
   ·have d2:((g:Int)==(y:Int))=true:=by simp[h1]
    have H1:=aa h1;clear h1;have wU:=p.o.wU.1;have bl:=p.o.wU.2;have bn:Zr.wrap (op+1)=op+1:=by rw[IntKind.wrap_i64];have:=d.o;omega
    go_wp2_with fail
    gi_wp2
    obtain⟨bb,r,bc⟩:=p.o.Dq (op+1);exact D.o _ _ s2 aC bb (aP.set v true) out (mk++[(v:Int)]) (op+1) (by rw[<-d.o.1];exact vP.mS d.o.2.2.2.1 (by rw[d.o.2.2.1];exact P.o) (by rw[d.o.2.2.1,aQ.o];exact H1.o)) m.o r (aR.o.trans bc)
   ·have d2:((g:Int)==(y:Int))=false:=by simp;omega
    have H1:=aa h1;clear h1;obtain⟨Y,n6,Z,z⟩:∃A n c,aC 5=⟨A,n,c⟩:=⟨_,_,_,rfl⟩
    have aT:n6=out.length:=by have:=p.o.jX;rw[z] at this;exact this
    have co:q.cell? ⟨bI,0,none⟩=some (.slice Y n6 Z):=by have:=p.o.co.1;rw[z] at this;exact this
    have bo:=p.o.co.2;have r:=aa (p.o.grow (bB q (nX [x])));have bd:fE ((q.alloc (nX [x])).ownsRow w.heap.size 3 1 (.slice Y n6 Z) n6 (out.map (a_ .i64))):=aa (by have:=r.o.gj.rows.row 5;rw[z,r.o.k7] at this;exact this);have bf:=aa (aS.lit q [x] 1 q.heap.size rfl rfl (by omega));have aU:=aa (z_ z aT);clear z aT
    go_wp2_with fail
    gi_step
    refine Jn (by kernel_rfl) (by rintro⟨_,_,h⟩;exact ak _ _ h) ?_
    go_wp2_with (at_builtin;refine uH rfl (.tmp 88) (.tmp 90) rfl w.heap.size (.slice Y n6 Z) n6 out rfl bd.o (some ⟨q.heap.size,0,none⟩) 1 1 [x] rfl bf.o (by have:=aU.o.2;have:=d.o;omega) r.o.gj.iR.size ?_;intro v9 bG aV;obtain⟨A',c',H,I,rfl,a1,a2,ab,ad⟩:=r.o.KH (x:=x) (v':=v9) (by rw[aU.o.1];exact aV);have ab:=aa ab;have ad:=aa ad;clear aV)
    gi_wp2
    exact D.o _ _ s2 H I (aP.set v true) (out++[x]) (mk++[(v:Int)]) op (by rw[<-d.o.1];exact vP.put d.o.2.2.2.1 (by rw[d.o.2.2.1];exact P.o) (by rw[d.o.2.2.1,aQ.o];exact H1.o)) m.o ab.o (aR.o.trans ((KeepsOthers.below (bB q _)).trans ad.o))
end
section
open Go.RowKit Go.Shelf
structure vk(F Fd:List (List Int))(aI:an)(n h:Nat)(kF:Int):Prop where
 gP:j7 F Fd aI.c h []
 jt:aI.c.n=n
 n10:n<=10
 st1:0<aI.c.st.length
 st2:aI.c.st.length<=1000000
 kX:aI.aO.length<=100000
 bK:0<=kF
 bp:kF+16*jw<=4611686018427387904
structure mV(K:Nat->Prop)(base:Nat)(w W:World)(G:Nat)(hs:Nat->ax)(cb:Nat->Nat)(n:Nat)(B:Int)(F:List (List Int))(aI:an)(aH bI bL c6 bt:Nat)(hU:ax)(iO:List Value)(i:Nat)(ex:List Int)(ds:List Nat)(s:an)(aP:List Bool)(aL mk:List Int)(ls:Nat->ax)(X:Nat->List Value):Prop where
 aO:kM K base w W G hs cb s aH bI bL c6 bt (0::aL) mk (mS aI.c aP i:Int) hU iO ls X
 kV:r6 n B aI aP s
 li:oh F aI.c i aP aL ex
 sB:mk.Nodup
 qE:∀z:Int,z∈mk↔∃v:Nat,z=v/\iU aP v=true
 sC:aL.length<=mk.length
 ms:oT w.heap.size W ds
section
variable {K:Nat->Prop}{base:Nat}{w W W':World}{G:Nat}{hs:Nat->ax}{cb:Nat->Nat}{n h:Nat}{B kF:Int}{F Fd:List (List Int)}{aI s s':an}{aH bI bL c6 bt:Nat}{hU:ax}{iO:List Value}{i:Nat}{ex:List Int}{ds:List Nat}{aP sA:List Bool}{aL mk:List Int}{ls mK:Nat->ax}{X lQ:Nat->List Value}
theorem F5{l:List Bool}{v:Nat}(h:iU l v=true):v<l.length:=by
 rcases Zv v l.length with h1|h1
 ·exact h1
 ·unfold iU at h;rw[u_,List.getElem?_eq_none h1] at h;cases h
theorem Dt{aP:List Bool}{mk:List Int}(c:mk.Nodup)(hm:∀z:Int,z∈mk↔∃v:Nat,z=v/\iU aP v=true):mk.length<=aP.length:=by
 have h1:(mk.map Int.toNat).Nodup:=by
  show List.Pairwise _ _;rw[List.pairwise_map];refine List.Pairwise.imp_of_mem (λ{x y} b d f e=>?_) c;obtain⟨v,rfl,_⟩:=(hm x).1 b;obtain⟨u,rfl,_⟩:=(hm y).1 d;simp at e;exact f (by rw[e])
 have:=xK aP.length (mk.map Int.toNat) h1 (λ x b=>by
  obtain⟨z,g,rfl⟩:=List.mem_map.1 b;obtain⟨v,rfl,i⟩:=(hm z).1 g;simpa using F5 i)
 simpa using this
theorem mV.mT(H:mV K base w W G hs cb n B F aI aH bI bL c6 bt hU iO i ex ds s aP aL mk ls X)(C:vk F Fd aI n h kF):mk.length<=11/\aP.length=n+1:=by
 have h1:=Dt H.sB H.qE;have b:=H.li.tD;rw[C.jt] at b;have:=C.n10;omega
theorem Ab(c:Core)(aP:List Bool)(i:Nat):mS c aP i<=i:=by
 have:=List.countP_le_length (p:=oP c aP) (l:=Zx i);rw[List.length_range] at this;exact this
theorem mV.step(C:vk F Fd aI n h kF){x:Int}(H:mV K base w W G hs cb n B F aI aH bI bL c6 bt hU iO i (x::ex) ds s aP aL mk ls X){yQ mk':List Int}{yR:Int}(t:vP aI.c x aP (0::aL) mk (mS aI.c aP i) sA yQ mk' yR)(j:r6 n B aI sA s')
  (L:kM K base w W' G hs cb s' aH bI bL c6 bt yQ mk' yR hU iO mK lQ) (k:KeepsOthers W W'):∃u,mV K base w W' G hs cb n B F aI aH bI bL c6 bt hU iO i ex ds s' sA u mk' mK lQ:=by
 have T:=C.gP.aL;have m:gW aI.c.n x:=H.li.wG x (by simp);have o:aP.length=aI.c.n+1:=H.li.tD;have l:∀(d:iU aP (aG x)=false),(mk++[(aG x:Int)]).Nodup/\∀z:Int,z∈mk++[(aG x:Int)]↔∃v:Nat,z=v/\iU (aP.set (aG x) true) v=true:=λ d=>by
  refine⟨?_,λ z=>?_⟩
  ·rw[List.nodup_append];refine⟨H.sB,by simp,λ a y b r e=>?_⟩;rw[List.mem_singleton] at r;subst r;subst e;obtain⟨v,f,p⟩:=(H.qE _).1 y;rw[show v=aG x by omega] at p;rw[d] at p;cases p
  ·rw[List.mem_append,List.mem_singleton,H.qE];constructor
   ·rintro(⟨v,rfl,f⟩|rfl)
    ·exact⟨v,rfl,by rw[A4 o m];split;rfl;exact f⟩
    ·exact⟨aG x,rfl,by rw[A4 o m,if_pos rfl]⟩
   ·rintro⟨v,rfl,f⟩;rw[A4 o m] at f;split at f
    ·rename_i e;exact .inr (by rw[e])
    ·exact .inl ⟨v,rfl,f⟩
 cases t with
 |skip g=>
  rcases g with g|g
  ·exact⟨aL,L,j,H.li.seen T g,H.sB,H.qE,H.sC,H.ms.others k⟩
  ·exact⟨aL,L,j,H.li.drop T C.gP.jF C.st1 g,H.sB,H.qE,H.sC,H.ms.others k⟩
 |mS d q h1=>
  obtain⟨a1,a2⟩:=(H.li.mark T d q).1 h1;refine⟨aL,?_,j,a1,(l d).1,(l d).2,by rw[r_];have:=H.sC;omega,H.ms.others k⟩;rw[a2];exact L
 |put d q h1=>
  obtain⟨a1,a2⟩:=(H.li.mark T d q).2 h1;refine⟨aL++[x],?_,j,a1,(l d).1,(l d).2,by rw[r_,r_,p_,p_];have:=H.sC;omega,H.ms.others k⟩;rw[a2];exact L
theorem mV.r5(H:mV K base w W G hs cb n B F aI aH bI bL c6 bt hU iO i ex ds s aP aL mk ls X){yS:ax}{yT:List Value}(L:kM K base w W' G hs cb s aH bI bL c6 bt (0::aL) mk (mS aI.c aP i:Int) yS yT mK lQ)(k:KeepsOthers W W'):mV K base w W' G hs cb n B F aI aH bI bL c6 bt yS yT i ex ds s aP aL mk mK lQ:=
 ⟨L,H.kV,H.li,H.sB,H.qE,H.sC,H.ms.others k⟩
theorem mV.grow(H:mV K base w W G hs cb n B F aI aH bI bL c6 bt hU iO i ex ds s aP aL mk ls X)(b:Below W.heap.size W W'):mV K base w W' G hs cb n B F aI aH bI bL c6 bt hU iO i ex ds s aP aL mk ls X:=H.r5 (H.aO.grow b) (KeepsOthers.below b)
theorem mV.uP(H:mV K base w W G hs cb n B F aI aH bI bL c6 bt hU iO i ex ds s aP aL mk ls X){N:Nat}{row:Option Nat}(c:W.grownBy W' row)(b:∀r,row=some r->N<=r/\∃o:Obj,W.heap[r]? =some o/\o.isCells=false)(d:w.heap.size<=N)(f:∀D∈ds,D<N):mV K base w W' G hs cb n B F aI aH bI bL c6 bt hU iO i ex ds s aP aL mk ls X:=
 ⟨H.aO.r5 (H.aO.gj.uP c (λ r e=>⟨Nat.le_trans d (b r e).1,(b r e).2⟩)),H.kV,H.li,H.sB,H.qE,H.sC,H.ms.kept c (λ D g e=>by have:=(b D e.symm).1;have:=f D g;omega)⟩
theorem r6.mono(b:r6 n B aI aP s){qS:Int}(c:B<=qS):r6 n qS aI aP s:=⟨b.hk,b.aP,b.rg.mono (Int.le_refl _) c⟩
theorem mV.up(H:mV K base w W G hs cb n B F aI aH bI bL c6 bt hU iO i ex ds s aP aL mk ls X){qS:Int}(b:B<=qS):mV K base w W G hs cb n qS F aI aH bI bL c6 bt hU iO i ex ds s aP aL mk ls X:=⟨H.aO,H.kV.mono b,H.li,H.sB,H.qE,H.sC,H.ms⟩
theorem mV.mark(H:mV K base w W G hs cb n B F aI aH bI bL c6 bt hU iO i ex ds s aP aL mk ls X){D:Nat}(b:w.heap.size<=D)(hm:W.heap[D]? =some (.deferred (some [])))(c:∀E∈ds,E<D):mV K base w W G hs cb n B F aI aH bI bL c6 bt hU iO i ex (D::ds) s aP aL mk ls X:=
 ⟨H.aO,H.kV,H.li,H.sB,H.qE,H.sC,H.ms.cons b hm (λ e=>by have:=c D e;omega)⟩
end
end
end Go.Proofs.YtogdlkfacflmaaaGreat
