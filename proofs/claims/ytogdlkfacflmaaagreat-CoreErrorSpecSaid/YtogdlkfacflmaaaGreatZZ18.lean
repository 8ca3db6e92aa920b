/- Parts of the walk of the solver and its core; no condition. -/
import Derived.Test.YtogdlkfacflmaaaGreatZZ15
import Derived.Test.YtogdlkfacflmaaaGreatZZ17
import Derived.Test.YtogdlkfacflmaaaGreatZZ13
import Derived.Test.YtogdlkfacflmaaaGreatZZ16
import Derived.Shelf.SlicesE.Delete
import Derived.Test.YtogdlkfacflmaaaGreatZZ1
import Derived.Test.YtogdlkfacflmaaaGreatZZ14
namespace Go.Proofs.YtogdlkfacflmaaaGreat
set_option linter.unusedVariables false
set_option linter.unusedSimpArgs false
set_option maxRecDepth 100000
set_option maxHeartbeats 8000000
open _root_.And renaming intro→z_
open _root_.Or renaming inl→y_
open _root_.List renaming getElem?_cons_zero→x_,getElem?_cons_succ→w_,length_append→r_,take_of_length_le→m_,take_succ_eq_append_getElem→k_,map_toArray→f_,map_cons→d_,map_nil→a_
open _root_.Array renaming getD_eq_getD_getElem?→v_,replicate→s_,all_eq_true_iff_forall_mem→l_,getElem?_eq_getElem→h_,mem_of_getElem?→e_
open _root_.Go.Proofs.Tryz renaming prog→u_
open _root_.Nat renaming zero_le→t_,le_trans→q_,le_refl→n_
open _root_.Go.RowKit.Below renaming refl→p_
open _root_.Go.IntKind renaming wrap_i64→o_,i64→j_
open _root_.Go.Region renaming wanted→i_,binds→c_,ready→b_
open _root_.Bool renaming and_eq_true→g_
open _root_.Go.Builtin renaming zeroCells→Zz
variable{ws:List (List Nat)}{iq:World->Prop}{G:Nat->Nat×Nat->(Nat->Value)->World->Prop}{ic:Nat->Nat×Nat}{vals:Nat->Value}{i n aR B cl c c' gJ bE:Nat}{w w' W:World}{v:Value}{ops:Array Oper}{Q:Exit->Act->World->Prop}{a:Act}{bp iV A A' gY bu:Option Addr}{aZ:Nat->Prop}{s:k7}{ls:List (List Int)}
section
open Go.RowKit
def Es(p q:Nat×Nat):Prop:=p.2<=q.1\/q.2<=p.1
def zg(L:Nat->Bool)(b:Nat->Nat×Nat)(w:World):Prop:=(∀j,L j=true->(b j).1<=(b j).2/\(b j).2<=w.heap.size)/\∀j k,j≠k->L j=true->L k=true->Es (b j) (b k)
def zh(b:Nat->Nat×Nat)(i:Nat)(p:Nat×Nat):Nat->Nat×Nat:=λ j=>if j=i then p else b j
def AB(ws:List (List Nat))(iq:World->Prop)(G:Nat->Nat×Nat->(Nat->Value)->World->Prop)(b:Nat->Nat×Nat)(vals:Nat->Value)(i:Nat)(w:World)(v:Value)(w':World):Prop:=
 iq w'/\w.heap.size<=w'.heap.size/\G i (w.heap.size,w'.heap.size) (kU vals i v) w'/\∀j,j≠i->o8 ws 8 j i=false->(b j).2<=w.heap.size->(∀k,qZ ws i k=true->k≠j->Es (b j) (b k))->G j (b j) vals w->G j (b j) vals w'
theorem AB.same(b:iq w)(h:G i (w.heap.size,w.heap.size) (kU vals i v) w):AB ws iq G ic vals i w v w:=⟨b,n_ _,h,λ _ _ _ _ _ h=>h⟩
theorem AB.more(hm:∀j p u w w',Below w.heap.size w w'->p.2<=w.heap.size->G j p u w->G j p u w')(b:Below w.heap.size w w')(c:iq w')(h:G i (w.heap.size,w'.heap.size) (kU vals i v) w'):AB ws iq G ic vals i w v w':=⟨c,b.size,h,λ j _ _ hp _ h=>hm j _ _ w w' b hp h⟩
def AD(P:Program)(ds:List (Option Tmp))(ws:List (List Nat))(old:List (Tmp×Value))(iq:World->Prop)(G:Nat->Nat×Nat->(Nat->Value)->World->Prop)(i:Nat)(o:Oper):Prop:=
 ∀(vals:Nat->Value)(b:Nat->Nat×Nat)(w:World)(c:Operand->Value),iq w->rU ds (λ j _=>G j (b j) vals) (λ _=>none) i vals w c o.after.toList->rG ds ws i c old->rH c->((∀j,qZ ws i j=true->(b j).1<=(b j).2/\(b j).2<=w.heap.size)/\∀j k,j≠k->qZ ws i j=true->qZ ws i k=true->Es (b j) (b k))->
  bD P c o w (AB ws iq G b vals i w)
def Cm(ws:List (List Nat))(G:Nat->Nat×Nat->(Nat->Value)->World->Prop):Prop:=∀i p vals ve w,(∀k,k=i\/o8 ws 8 i k=true->vals k=ve k)->G i p vals w->G i p ve w
def xe(P:Program)(ds:List (Option Tmp))(ws:List (List Nat))(old:List (Tmp×Value))(iq:World->Prop)(G:Nat->Nat×Nat->(Nat->Value)->World->Prop):Nat->List Oper->Prop
 |_,[]=>True
 |k,o::r=>AD P ds ws old iq G k o/\xe P ds ws old iq G (k+1) r
theorem xe.at{P:Program}{ds:List (Option Tmp)}{ws:List (List Nat)}{old:List (Tmp×Value)}{iq:World->Prop}{G:Nat->Nat×Nat->(Nat->Value)->World->Prop}:∀{l:List Oper}{k i:Nat}{o:Oper},xe P ds ws old iq G k l->l[i]? =some o->AD P ds ws old iq G (k+i) o
 |[],k,i,o,_,h=>by simp at h
 |x::l,k,0,o,hs,h=>by
  simp only[x_,Option.some.injEq] at h;subst h;exact hs.1
 |x::l,k,i+1,o,hs,h=>by
  rw[w_] at h;have:=xe.at hs.2 h
  rwa[show k+1+i=k+(i+1) by omega] at this
section
variable {P:Program}{l:List Oper}{Q:Exit->Act->World->Prop}{a:Act}{old:List (Tmp×Value)}{iq:World->Prop}{G:Nat->Nat×Nat->(Nat->Value)->World->Prop}
theorem Pb{ds:List (Option Tmp)}{ws:List (List Nat)}(N:ws=l.map λ o:Oper=>(o.after.toList.filter (c_ .any)).map (·.on))(O:ds=l.map λ o:Oper=>o.dst)(R:sn l.toArray=true)(D:qh l.toArray=true)(Y:sq l.toArray a.tmps.size=true)
  (hold:p0 a.eval old) (Z:Cm ws G)
  {i:Nat} {o:Oper} (m:l.toArray[i]? =some o) (S:AD P ds ws old iq G i o) {listed:Array Bool} {vals:Nat->Value} {ic:Nat->Nat×Nat} {w:World} {K:Act->World->Prop} (ay:listed.size=l.toArray.size) (aa:iq w) (hF:ud (λ j _=>G j (ic j) vals) (λ _=>none) (gO listed) vals w) (d:zg (gO listed) ic w)
  (ab:i∈b_ .any l.toArray listed) (hC:q3 ws (gO listed))
  (ad:∀v w',iq w'->q3 ws (gO (listed.setIfInBounds i true))->ud (λ j _=>G j (zh ic i (w.heap.size,w'.heap.size) j) (kU vals i v)) (λ _=>none) (gO (listed.setIfInBounds i true)) (kU vals i v) w'->zg (gO (listed.setIfInBounds i true)) (zh ic i (w.heap.size,w'.heap.size)) w'->K (jJ l.toArray (kU vals i v) (gO (listed.setIfInBounds i true)) a l.toArray.size) w'):
  wpOp P l.toArray Q i K (jJ l.toArray vals (gO listed) a l.toArray.size) w:=by
 obtain⟨h1,T,ae,U,E⟩:=ue ab;obtain rfl:o=ae:=by rw[m] at U;injection U
 have n:i<listed.size:=by omega
 have t:gO listed i=false:=by
  unfold gO;rw[v_,h_ n] at T⊢;simpa using T
 have A:∀j,qZ ws i j=true->gO listed j=true:=λ j b=>by
  obtain⟨af,f,e,he,u,F⟩:=xH N b;rw[m] at f;injection f with f
  subst f;have:=E e he u;rw[F] at this;exact this
 unfold wpOp;simp only[m];have ag:o.guard=none:=by
  unfold qh at D;rw[l_] at D;have:=D o (e_ m);simpa using this
 have hw:i_ o (yielded l.toArray (jJ l.toArray vals (gO listed) a l.toArray.size).tmps)=true:=by unfold i_;rw[ag]
 rw[if_pos hw];left;unfold AD at S;have ah:=S vals ic w (jJ l.toArray vals (gO listed) a l.toArray.size).eval aa (rU.of λ e he u=>by
  have hl:=E e (Array.mem_toList_iff.1 he) u;have ai:e.on<l.toArray.size:=by
   rcases Nat.lt_or_ge e.on listed.size with h|h
   ·omega
   ·rw[v_,Array.getElem?_eq_none h] at hl;cases hl
  refine⟨λ y=>hF e.on hl λ c g=>?_,λ s hs=>?_⟩
  ·rcases y with y|y
   ·rw[y] at g;cases g
   ·rw[y] at g;injection g with g
    rw[<-g];exact t
  ·rw[O,<-wD] at hs;exact yw hs (A8 Y hs) hl (λ k hk=>wB R hk hs) _ ai) (rG.of (λ s hs=>yu (λ j s' hl b H=>by
   injection H with H
   subst H;rw[wD,<-O] at b;have:=hC j i hl (A7 hs b);rw[t] at this;cases this) _) hold) (rH.act _) ⟨λ j w1=>d.1 j (A j w1),λ j k p w1 aj=>d.2 j k p (A j w1) (A k aj)⟩
 refine ah.wp λ v w' ⟨ak,V,al,an⟩=>?_
 have ao:(jJ l.toArray vals (gO listed) a l.toArray.size).put o.dst v=jJ l.toArray (kU vals i v) (gO (listed.setIfInBounds i true)) a l.toArray.size:=by
  rw[oF n];have aq:oo l.toArray i=o.dst:=by unfold oo;rw[m];rfl
  have:=zC (ops:=l.toArray) (vals:=vals) (L:=gO listed) (a:=a) (i:=i) (v:=v) (λ j b s hs=>wB R b hs) t l.toArray.size h1;rw[aq] at this;exact this
 rw[ao];have ar:q3 ws (gO (listed.setIfInBounds i true)):=by
  rw[oF n];intro j k b W;unfold lI at b⊢
  by_cases e:k=i
  ·rw[if_pos e]
  ·rw[if_neg e]
   by_cases X:j=i
   ·subst X;obtain⟨af,f,au,av,u,F⟩:=xH N W;rw[m] at f;injection f with f
    subst f;have:=E au av u;rw[F] at this;exact this
   ·rw[if_neg X] at b;exact hC j k b W
 have q:∀j,j≠i->zh ic i (w.heap.size,w'.heap.size) j=ic j:=λ j b=>by unfold zh;rw[if_neg b]
 have B:zh ic i (w.heap.size,w'.heap.size) i=(w.heap.size,w'.heap.size):=by unfold zh;rw[if_pos rfl]
 refine ad v w' ak ar (λ j b az=>?_) ⟨λ j b=>?_,λ j k p C z=>?_⟩
 ·rw[oF n] at b
  by_cases e:j=i
  ·subst e;rw[B];exact al
  ·have I:lI (gO listed) i j=gO listed j:=by unfold lI;rw[if_neg e]
   rw[q j e];rw[I] at b;refine Z j _ vals _ w' (λ k hk=>?_) (an j e ?_ (d.1 j b).2 (λ k hk p=>d.2 j k (λ x=>p x.symm) b (A k hk)) (hF j b λ c g=>by cases g))
   ·have aw:k≠i:=by
     rcases hk with rfl|hk
     ·exact e
     ·intro J;subst J;have:=hC.reach 8 j k b hk;rw[t] at this;cases this
    unfold kU;rw[if_neg aw]
   cases ax:o8 ws 8 j i with
   |false=>rfl
   |true=>
    have:=hC.reach 8 j i b ax;rw[t] at this;cases this
 ·rw[oF n] at b
  by_cases e:j=i
  ·subst e;rw[B];exact⟨V,n_ _⟩
  ·have I:lI (gO listed) i j=gO listed j:=by unfold lI;rw[if_neg e]
   rw[I] at b;rw[q j e];exact⟨(d.1 j b).1,q_ (d.1 j b).2 V⟩
 ·rw[oF n] at C z
  by_cases e:j=i
  ·subst e;have r:¬k=j:=λ e=>p e.symm
   have M:lI (gO listed) j k=gO listed k:=by unfold lI;rw[if_neg r]
   rw[M] at z;rw[B,q k r];exact .inr (d.1 k z).2
  ·have M:lI (gO listed) i j=gO listed j:=by unfold lI;rw[if_neg e]
   rw[M] at C
   by_cases r:k=i
   ·subst r;rw[B,q j e];exact .inl (d.1 j C).2
   ·have J:lI (gO listed) i k=gO listed k:=by unfold lI;rw[if_neg r]
    rw[J] at z;rw[q j e,q k r];exact d.2 j k p C z
theorem Pc{ds:List (Option Tmp)}{ws:List (List Nat)}(J:ws=l.map λ o:Oper=>(o.after.toList.filter (c_ .any)).map (·.on))(K:ds=l.map λ o:Oper=>o.dst)(n:Nat)(hlen:l.length=n+1)(L:sn l.toArray=true)(t:qh l.toArray=true)(M:sq l.toArray a.tmps.size=true)(N:uJ l.toArray=true)(u:vD l n=true)(hold:p0 a.eval old)(O:Cm ws G)
  (R:xe P ds ws old iq G 0 (l.take n))
  (S:∀o vals d w,l[n]? =some o->iq w->(∀j,j<n->G j (d j) vals w)->zg (mm n) d w->bD P (jJ l.toArray vals (mm n) a n).eval o w λ v w'=>Q .normal ((jJ l.toArray vals (mm n) a n).put o.dst v) w'):
  ∀(fuel:Nat)(listed:Array Bool)(vals:Nat->Value)(d:Nat->Nat×Nat)(w:World),listed.size=l.toArray.size->oq l.toArray listed<=fuel->0<oq l.toArray listed->gO listed n=false->q3 ws (gO listed)->iq w->ud (λ j _=>G j (d j) vals) (λ _=>none) (gO listed) vals w->zg (gO listed) d w->
   wpAny P .any l.toArray Q fuel listed (jJ l.toArray vals (gO listed) a l.toArray.size) w:=by
 intro fuel
 induction fuel with
 |zero=>intro listed vals d w q T U;omega
 |succ fuel V=>
  intro listed vals d w q T U C hC D hF y;refine⟨λ h=>by have:=Ba N q h;omega,λ i E=>?_⟩;obtain⟨h1,W,o,s,X⟩:=ue E;have F:i<listed.size:=by omega
  have ao:i<l.length:=by simpa using h1
  have z:l[i]? =some o:=by rw[List.getElem?_toArray] at s;exact s
  by_cases H:i=n
  ·subst H;have f:∀j,j<i->gO listed j=true:=λ j g=>by
    unfold vD at u;rw[z] at u;simp only[List.all_eq_true,List.mem_range] at u;have b:=u j g;rw[Array.any_eq_true'] at b;obtain⟨e,he,A⟩:=b;simp only[g_,beq_iff_eq] at A;have:=X e he A.1;rw[A.2] at this;exact this
   have Y:jJ l.toArray vals (gO listed) a l.toArray.size=jJ l.toArray vals (mm i) a i:=by
    have Z:l.toArray.size=i+1:=by simp[hlen]
    rw[Z];simp only[jJ];rw[C];simp only[Bool.false_eq_true,if_false];exact zH i λ j g=>by rw[f j g];unfold mm;simp[g]
   rw[Y];unfold wpOp;simp only[s];have aa:o.guard=none:=by
    unfold qh at t;rw[l_] at t;have:=t o (e_ s);simpa using this
   have hw:i_ o (yielded l.toArray (jJ l.toArray vals (mm i) a i).tmps)=true:=by unfold i_;rw[aa]
   rw[if_pos hw];left;refine(S o vals d w z D (λ j g=>hF j (f j g) λ c ab=>by cases ab) ⟨λ j B=>y.1 j (f j (by simpa[mm] using B)),λ j k ad B ae=>y.2 j k ad (f j (by simpa[mm] using B)) (f k (by simpa[mm] using ae))⟩).wp λ v w' af=>?_
   refine wpAny_done ?_ af _;rcases ag:b_ .any l.toArray (listed.setIfInBounds i true) with _|⟨k,r⟩
   ·rfl
   ·have hk:k∈b_ .any l.toArray (listed.setIfInBounds i true):=by rw[ag];simp
    obtain⟨b,m,_⟩:=ue hk;exfalso;have aq:k<i+1:=by simpa[hlen] using b
    by_cases e:k=i
    ·subst e;rw[v_,Array.getElem?_setIfInBounds_self_of_lt F] at m
     cases m
    ·have p:=f k (by omega);rw[v_,Array.getElem?_setIfInBounds_ne (λ x=>e x.symm)] at m;unfold gO at p;rw[v_] at p;have ah:k<listed.size:=by omega
     rw[h_ ah] at m p;simp at m p;rw[m] at p;cases p
  ·have ai:AD P ds ws old iq G i o:=by
    have b:(l.take n)[i]? =some o:=by rw[List.getElem?_take,if_pos (by omega)];exact z
    have:=xe.at R b
    rwa[Nat.zero_add] at this
   refine Pb J K L t M hold O s ai q D hF y E hC λ v w' aj ak al an=>?_
   have I:gO (listed.setIfInBounds i true) n=false:=by
    rw[oF F];unfold lI;rw[if_neg (λ e=>H e.symm)];exact C
   refine V _ _ _ w' (by simp[q]) (by have:=A9 (ops:=l.toArray) h1 W;omega) ?_ I ak aj al an;rcases Nat.eq_zero_or_pos (oq l.toArray (listed.setIfInBounds i true)) with b|b
   ·have:=wE (ops:=l.toArray) (listed:=listed.setIfInBounds i true) (by simp[q]) b n (by simp[hlen]);rw[I] at this;cases this
   ·exact b
end
theorem Pd{P:Program}{id:Nat}(l:List Oper)(n N:Nat)(ds:List (Option Tmp))(ws:List (List Nat))(old:List (Tmp×Value))(iq:World->Prop)(G:Nat->Nat×Nat->(Nat->Value)->World->Prop)
  (s:ops=l.toArray) (hm:P.follows .mixedOrders=true)
  (q:ds=l.map λ o:Oper=>o.dst) (t:ws=l.map λ o:Oper=>(o.after.toList.filter (c_ .any)).map (·.on)) (hlen:l.length=n+1) (u:sn l.toArray=true) (y:qh l.toArray=true) (z:uJ l.toArray=true) (A:vD l n=true) (B:sq l.toArray N=true)
  (C:a.tmps.size=N) (hold:p0 a.eval old) (D:Cm ws G) (E:iq w.drew)
  (F:xe P ds ws old iq G 0 (l.take n))
  (ol:Oper) (H:l[n]? =some ol) (I:∀vals b w,iq w->(∀j,j<n->G j (b j) vals w)->zg (mm n) b w->∀m,ot (ds.take n) 0 vals a=m->bD P m.eval ol w λ v w'=>Q .normal (m.put ol.dst v) w'):(Code.region id ops true).wp P Q a w:=by
 subst s;subst C;refine wp_region_any hm ?_;have J:∀o vals b w,l[n]? =some o->iq w->(∀j,j<n->G j (b j) vals w)->zg (mm n) b w->bD P (jJ l.toArray vals (mm n) a n).eval o w λ v w'=>Q .normal ((jJ l.toArray vals (mm n) a n).put o.dst v) w':=by
  intro o vals b w g K L M;rw[H] at g;injection g with g
  subst g;rw[zG l vals a n n (n_ _) (by omega),<-q];exact I vals b w K L M _ rfl
 have c:∀k,gO (s_ l.toArray.size false) k=false:=λ k=>by
  unfold gO;rw[v_,Array.getElem?_replicate];split<;>rfl
 have e:a=jJ l.toArray (λ _=>undef) (gO (s_ l.toArray.size false)) a l.toArray.size:=by
  have:∀k,jJ l.toArray (λ _=>undef) (gO (s_ l.toArray.size false)) a k=a:=by
   intro k
   induction k with
   |zero=>rfl
   |succ k O=>
    simp only[jJ];rw[c k,O];simp
  exact(this _).symm
 have r:=Pc (P:=P) (Q:=Q) (a:=a) (iq:=iq) (G:=G) t q n hlen u y B z A hold D F J l.toArray.size (s_ l.toArray.size false) (λ _=>undef) (λ _=>(0,0)) w.drew (by simp)
  (by unfold oq;exact q_ (List.length_filter_le _ _) (by simp)) ?_ (c n) (λ j i d=>by rw[c j] at d;cases d) E (λ j d=>by rw[c j] at d;cases d) ⟨λ j f=>(by rw[c j] at f;cases f),λ j k R f S=>(by rw[c j] at f;cases f)⟩
 ·rw[<-e] at r;exact r
 ·rcases Nat.eq_zero_or_pos (oq l.toArray (s_ l.toArray.size false)) with p|p
  ·have:=wE (ops:=l.toArray) (listed:=s_ l.toArray.size false) (by simp) p n (by simp[hlen]);rw[c n] at this;cases this
  ·exact p
end
section
open Go.RowKit Go.Shelf Go.Sort Go.Lib
structure qd where
 s:k7
 j4:Option Addr
 c1:Nat
 aX:Option Addr
 c2:Nat
 jV:Option Addr
 c3:Nat
 kq:Option Addr
 jx:Nat
 ko:Option Addr
 jI:Nat
 aB:Nat
 kind:Int
 aU:Option Addr
 bq:Nat
 aP:Nat
 bw:Option Addr
 bn:Nat
 aV:Nat
@[reducible] def qd.cells (d:qd) (n:Nat) (bp:Option Addr) (jK aR:Nat):List Value:=[.int .i64 n,.slice bp jK aR,.slice d.j4 d.s.es.length d.c1,.slice d.aX (n+1) d.c2,.slice d.jV n d.c3,.int .i64 d.s.bt,.slice d.kq (n+1) d.jx,.slice d.ko d.s.aF.length d.jI]
@[reducible] def qd.wV (d:qd):List Value:=[.int .i64 d.kind,.slice d.aU d.bq d.aP,.slice d.bw d.bn d.aV,.int .i64 (d.aB:Int)]
def qd.tJ(d:qd)(n:Nat)(b:Option Addr)(c e:Nat):Value:=.tuple #[.agg (d.cells n b c e).toArray,.agg d.wV.toArray,.int .i64 0]
theorem qd.inj{d e:qd}{jK:Nat}(h:d.tJ n bp jK aR=e.tJ n bp jK aR):d.cells n bp jK aR=e.cells n bp jK aR/\d.wV=e.wV:=by
 unfold qd.tJ at h;injection h with h
 injection h with h
 injection h with h1 h
 injection h with b h
 injection h1 with h1
 injection b with b
 injection h1 with h1
 injection b with b
 exact⟨h1,b⟩
structure Cn(aZ:Nat->Prop)(jq B n:Nat)(s:k7)(bp:Option Addr)(aR:Nat)(ah:List Int)(rem:Nat)(p:Nat×Nat)(d:qd)(w:World):Prop where
 bL:jq<p.1
 ok:pF n d.s
 gs:d.s.gs=s.gs
 es:d.s.es.length=s.es.length+d.aB
 aF:d.s.aF.length=s.aF.length+d.aB
 mQ:d.aB<=rem
 pa:d.ko≠none->∃b off,d.ko=some ⟨b,off,none⟩
 ux:d.ko=none->d.s.aF.length=0/\d.jI=0
 rd:∀W':World,aG (λ b=>b<p.2/\¬(aZ b\/(jq<=b/\b<p.1))) w W'->ri W' d.s bp aR d.j4 d.c1 d.aX d.c2 d.jV d.c3 d.kq d.jx d.ko d.jI/\nY (λ _=>True) W' s.gs ah n rem d.aB d.kind d.aU d.bq d.aP d.bw d.bn d.aV
theorem Cn.jr{jq:Nat}{ah:List Int}{rem:Nat}{p:Nat×Nat}{d:qd}(h:Cn aZ jq B n s bp aR ah rem p d w)(f:aG (λ b=>b<p.2/\¬(aZ b\/(jq<=b/\b<p.1))) w w'):Cn aZ jq B n s bp aR ah rem p d w':=
 ⟨h.bL,h.ok,h.gs,h.es,h.aF,h.mQ,h.pa,h.ux,λ W' c=>h.rd W' (f.trans c)⟩
def l7(m:Nat->Prop)(o l B n:Nat)(s:k7)(b:Option Addr)(c:Nat)(q:List Int)(e sp:Nat)(v0 v1 v2 v3 v4 v5 v6 r:Value)(gM:Option Addr)(bK gN:Nat)(i:Nat)(p:Nat×Nat)(vals:Nat->Value)(w:World):Prop:=
 match i with
 |0=>vals 0=.pointer (some ⟨B,0,none⟩)
 |1=>vals 1=.pointer (some ⟨B,0,none⟩)
 |2=>vals 2=.pointer (some ⟨B,0,none⟩)
 |3=>vals 3=.agg #[v0,v1,v2,v3,v4,v5,v6,r]
 |4=>vals 4=.slice gM bK gN
 |5=>vals 5=.pointer (some ⟨B,0,none⟩)
 |6=>vals 6=.pointer (some ⟨B,0,none⟩)
 |7=>vals 7=.pointer (some ⟨B,8,none⟩)
 |8=>vals 8=.agg #[.int .i64 e,.int .i64 sp]
 |9=>vals 9=.int .i64 ((e-sp:Nat):Int)
 |10=>∃d:qd,vals 10=d.tJ n b s.gs.length c/\Cn m o B n s b c q (e-sp) p d w
 |11=>∃d:qd,vals 10=d.tJ n b s.gs.length c/\vals 11=d.tJ n b s.gs.length c
 |12=>∃d:qd,vals 10=d.tJ n b s.gs.length c/\vals 12=.agg (d.cells n b s.gs.length c).toArray
 |13=>∃d:qd,vals 10=d.tJ n b s.gs.length c/\vals 13=.agg d.wV.toArray
 |14=>vals 14=.int .i64 0
 |15=>vals 15=.pointer (some ⟨p.1,0,none⟩)/\p.1<p.2/\l<=p.1/\∃f g j k t u v y,aT w p.1 47 [f,g,j,k,t,u,v,y]
 |16=>vals 16=.pointer (some ⟨p.1,0,none⟩)/\p.1<p.2/\l<=p.1/\∃f g j k,aT w p.1 30 [f,g,j,k]
 |17=>∃(z:Nat)(d:qd),vals 15=.pointer (some ⟨z,0,none⟩)/\vals 10=d.tJ n b s.gs.length c/\aT w z 47 (d.cells n b s.gs.length c)
 |18=>∃(z:Nat)(d:qd),vals 16=.pointer (some ⟨z,0,none⟩)/\vals 10=d.tJ n b s.gs.length c/\aT w z 30 d.wV
 |_=>True
theorem l7.mono(o:Nat->Prop)(q r B n:Nat)(s:k7)(t:Option Addr)(u:Nat)(v:List Int)(y sp:Nat)(v0 v1 v2 v3 v4 v5 v6 A:Value)(gM:Option Addr)(bK gN:Nat)(i:Nat)(p:Nat×Nat)(vals:Nat->Value)(w w':World)(f:Below w.heap.size w w')(hp:p.2<=w.heap.size)(h:l7 o q r B n s t u v y sp v0 v1 v2 v3 v4 v5 v6 A gM bK gN i p vals w):l7 o q r B n s t u v y sp v0 v1 v2 v3 v4 v5 v6 A gM bK gN i p vals w':=by
 match i,h with
 |0,h=>exact h
 |1,h=>exact h
 |2,h=>exact h
 |3,h=>exact h
 |4,h=>exact h
 |5,h=>exact h
 |6,h=>exact h
 |7,h=>exact h
 |8,h=>exact h
 |9,h=>exact h
 |11,h=>exact h
 |12,h=>exact h
 |13,h=>exact h
 |14,h=>exact h
 |10,h=>obtain⟨d,h1,c⟩:=h;exact⟨d,h1,c.jr (aG.q4 f λ b f=>by omega)⟩
 |15,h=>obtain⟨h1,c,e,g,j,k,l,C,D,E,F,m⟩:=h;exact⟨h1,c,e,g,j,k,l,C,D,E,F,m.below f⟩
 |16,h=>obtain⟨h1,c,e,g,j,k,l,m⟩:=h;exact⟨h1,c,e,g,j,k,l,m.below f⟩
 |17,h=>obtain⟨z,d,h1,c,e⟩:=h;exact⟨z,d,h1,c,e.below f⟩
 |18,h=>obtain⟨z,d,h1,c,e⟩:=h;exact⟨z,d,h1,c,e.below f⟩
 |n+19,h=>trivial
theorem l7.Pe(f:Nat->Prop)(g j B n:Nat)(s:k7)(k:Option Addr)(l:Nat)(m:List Int)(o sp:Nat)(v0 v1 v2 v3 v4 v5 v6 q:Value)(gM:Option Addr)(bK gN:Nat):Cm [[],[0],[1],[2],[],[],[5],[6],[7],[8],[3,4,9,9],[10],[11],[11],[11],[],[],[15,12,10,0,1,2,3,4,5,6,7,8,9,10,11,12,15,16],[16,13,17,0,1,2,3,4,5,6,7,8,9,10,11,12,13,15,16,17],[14,18,0,1,2,3,4,5,6,7,8,9,10,11,12,13,14,15,16,17,18]] (l7 f g j B n s k l m o sp v0 v1 v2 v3 v4 v5 v6 q gM bK gN):=by
 intro i p vals ve w b h
 match i,b,h with
 |0,b,h=>exact(b 0 (.inl rfl)).symm.trans h
 |1,b,h=>exact(b 1 (.inl rfl)).symm.trans h
 |2,b,h=>exact(b 2 (.inl rfl)).symm.trans h
 |3,b,h=>exact(b 3 (.inl rfl)).symm.trans h
 |4,b,h=>exact(b 4 (.inl rfl)).symm.trans h
 |5,b,h=>exact(b 5 (.inl rfl)).symm.trans h
 |6,b,h=>exact(b 6 (.inl rfl)).symm.trans h
 |7,b,h=>exact(b 7 (.inl rfl)).symm.trans h
 |8,b,h=>exact(b 8 (.inl rfl)).symm.trans h
 |9,b,h=>exact(b 9 (.inl rfl)).symm.trans h
 |14,b,h=>exact(b 14 (.inl rfl)).symm.trans h
 |10,b,h=>obtain⟨d,h1,c⟩:=h;exact⟨d,(b 10 (.inl rfl)).symm.trans h1,c⟩
 |11,b,h=>obtain⟨d,h1,c⟩:=h;exact⟨d,(b 10 (.inr (by decide+kernel))).symm.trans h1,(b 11 (.inl rfl)).symm.trans c⟩
 |12,b,h=>obtain⟨d,h1,c⟩:=h;exact⟨d,(b 10 (.inr (by decide+kernel))).symm.trans h1,(b 12 (.inl rfl)).symm.trans c⟩
 |13,b,h=>obtain⟨d,h1,c⟩:=h;exact⟨d,(b 10 (.inr (by decide+kernel))).symm.trans h1,(b 13 (.inl rfl)).symm.trans c⟩
 |15,b,h=>exact⟨(b 15 (.inl rfl)).symm.trans h.1,h.2⟩
 |16,b,h=>exact⟨(b 16 (.inl rfl)).symm.trans h.1,h.2⟩
 |17,b,h=>obtain⟨z,d,h1,c,e⟩:=h;exact⟨z,d,(b 15 (.inr (by decide+kernel))).symm.trans h1,(b 10 (.inr (by decide+kernel))).symm.trans c,e⟩
 |18,b,h=>obtain⟨z,d,h1,c,e⟩:=h;exact⟨z,d,(b 16 (.inr (by decide+kernel))).symm.trans h1,(b 10 (.inr (by decide+kernel))).symm.trans c,e⟩
 |n+19,b,h=>trivial
structure Iq(jw:World)(aZ:Nat->Prop)(jq ak B n:Nat)(s:k7)(bp:Option Addr)(aR:Nat)(ah:List Int)(aJ sp:Nat)(v0 v1 v2 v3 v4 v5 v6 j8:Value)(gM:Option Addr)(bK gN:Nat):Prop where
 blk:aT jw B 155 [v0,v1,v2,v3,v4,v5,v6,j8,.int .i64 aJ,.int .i64 sp]
 mQ:sp<=aJ
 qa:aJ<=1099511627776
 lw:jq<ak
 hw:jw.heap.size=ak
 Pf:∀W,Below jw.heap.size jw W->Calls u_ 36 #[.agg #[v0,v1,v2,v3,v4,v5,v6,j8],.slice gM bK gN,.int .i64 ((aJ-sp:Nat):Int)] W (Au (λ b=>aZ b\/(jq<=b/\b<W.heap.size)) W n s bp aR ah (aJ-sp))
theorem Pg:∀args w,(callFunc 36 args).run u_ w=.ok (.enter 36 args) w:=enters_of Tryz.func36 (by kernel_rfl) rfl
theorem Ph:∀args w,(callFunc 140 args).run u_ w=.ok (.enter 140 args) w:=enters_of Tryz.func140 (by kernel_rfl) rfl
theorem Pj(M:World)(A:Nat->Prop)(p D B n:Nat)(s:k7)(q:Option Addr)(r:Nat)(E:List Int)(t sp:Nat)(v0 v1 v2 v3 v4 v5 v6 F:Value)(gM:Option Addr)(bK gN:Nat)(C:Iq M A p D B n s q r E t sp v0 v1 v2 v3 v4 v5 v6 F gM bK gN):
  xe u_ [some 9,some 10,some 11,some 12,some 13,some 14,some 15,some 16,some 17,some 18,some 19,some 8,some 20,some 21,some 22,some 5,some 6,none,none,some 7] [[],[0],[1],[2],[],[],[5],[6],[7],[8],[3,4,9,9],[10],[11],[11],[11],[],[],[15,12,10,0,1,2,3,4,5,6,7,8,9,10,11,12,15,16],[16,13,17,0,1,2,3,4,5,6,7,8,9,10,11,12,13,15,16,17],[14,18,0,1,2,3,4,5,6,7,8,9,10,11,12,13,14,15,16,17,18]] [(0,.pointer (some ⟨B,0,none⟩)),(1,.slice gM bK gN)] (λ w=>Below M.heap.size M w) (l7 A p D B n s q r E t sp v0 v1 v2 v3 v4 v5 v6 F gM bK gN) 0 ((rV Tryz.f77 1).take 19):=by
 have ax:=l7.mono A p D B n s q r E t sp v0 v1 v2 v3 v4 v5 v6 F gM bK gN;have ay:∀w w':World,Below M.heap.size M w->Below w.heap.size w w'->Below M.heap.size M w':=λ w w' k J=>k.trans (J.mono k.size)
 refine⟨?_,?_,?_,?_,?_,?_,?_,?_,?_,?_,?_,?_,?_,?_,?_,?_,?_,?_,?_,trivial⟩
 ·intro vals c w f k g H hp G;have aA:f (.tmp 0)=_:=H.1 rfl;simp only[bD,execOp,aA];simp[gL,go_sem];exact .same k rfl
 ·intro vals c w f k g H hp G;obtain⟨⟨f0,P⟩,-⟩:=(⟨g.1 rfl,trivial⟩:_/\True)
  have P:f (.tmp 9)=vals 0:=P _ rfl;have f0:vals 0=_:=f0 (y_ rfl);rw[f0] at P;simp only[bD,execOp,P];simp[gL,go_sem];exact .same k rfl
 ·intro vals c w f k g H hp G;obtain⟨⟨f1,Q⟩,-⟩:=(⟨g.1 rfl,trivial⟩:_/\True)
  have Q:f (.tmp 10)=vals 1:=Q _ rfl;have f1:vals 1=_:=f1 (y_ rfl);rw[f1] at Q;simp only[bD,execOp,Q];simp[gL,go_sem];exact .same k rfl
 ·intro vals c w f k g H hp G;obtain⟨⟨f2,R⟩,-⟩:=(⟨g.1 rfl,trivial⟩:_/\True)
  have R:f (.tmp 11)=vals 2:=R _ rfl;have f2:vals 2=_:=f2 (y_ rfl);rw[f2] at R;have y:=(C.blk.below k).cell;have ad:=y 0;have ae:=y 1;have af:=y 2;have ag:=y 3;have an:=y 4;have ao:=y 5;have aq:=y 6;have ar:=y 7;simp only[x_,w_] at ad ae af ag an ao aq ar;simp only[bD,execOp,R];simp[gL,go_sem,ad,ae,af,ag,an,ao,aq,ar];exact .same k rfl
 ·intro vals c w f k g H hp G;have aO:f (.tmp 1)=_:=H.2.1 rfl;simp only[bD,execOp,aO];simp[gL,go_sem];exact .same k rfl
 ·intro vals c w f k g H hp G;have aA:f (.tmp 0)=_:=H.1 rfl;simp only[bD,execOp,aA];simp[gL,go_sem];exact .same k rfl
 ·intro vals c w f k g H hp G;obtain⟨⟨f5,S⟩,-⟩:=(⟨g.1 rfl,trivial⟩:_/\True)
  have S:f (.tmp 14)=vals 5:=S _ rfl;have f5:vals 5=_:=f5 (y_ rfl);rw[f5] at S;simp only[bD,execOp,S];simp[gL,go_sem];exact .same k rfl
 ·intro vals c w f k g H hp G;obtain⟨⟨f6,T⟩,-⟩:=(⟨g.1 rfl,trivial⟩:_/\True)
  have T:f (.tmp 15)=vals 6:=T _ rfl;have f6:vals 6=_:=f6 (y_ rfl);rw[f6] at T;simp only[bD,execOp,T];simp[gL,go_sem];exact .same k rfl
 ·intro vals c w f k g H hp G;obtain⟨⟨f7,U⟩,-⟩:=(⟨g.1 rfl,trivial⟩:_/\True)
  have U:f (.tmp 16)=vals 7:=U _ rfl;have f7:vals 7=_:=f7 (y_ rfl);rw[f7] at U;have y:=(C.blk.below k).cell;have aL:=y 8;have aM:=y 9;simp only[x_,w_] at aL aM;simp only[bD,execOp,U];simp[gL,go_sem,aL,aM];exact .same k rfl
 ·intro vals c w f k g H hp G;obtain⟨⟨f8,V⟩,-⟩:=(⟨g.1 rfl,trivial⟩:_/\True)
  have V:f (.tmp 17)=vals 8:=V _ rfl;have f8:vals 8=_:=f8 (y_ rfl);rw[f8] at V;refine tD 140 #[.tmp 17] #[153] rfl Ph hp ?_;simp only[f_,d_,a_,V];refine(O7 w t sp C.mQ C.qa).mono ?_;rintro e w' ⟨rfl,J⟩;exact⟨_,rfl,.more ax J (ay w w' k J) rfl⟩
 ·intro vals c w f k g H hp G;obtain⟨⟨f3,X⟩,⟨f4,Y⟩,⟨f9,Z⟩,-⟩:=(⟨g.1 rfl,g.2.1 rfl,g.2.2.1 rfl,trivial⟩:_/\_/\_/\True)
  have X:f (.tmp 12)=vals 3:=X _ rfl;have f3:vals 3=_:=f3 (y_ rfl);rw[f3] at X;have Y:f (.tmp 13)=vals 4:=Y _ rfl;have f4:vals 4=_:=f4 (y_ rfl);rw[f4] at Y;have Z:f (.tmp 18)=vals 9:=Z _ rfl;have f9:vals 9=_:=f9 (y_ rfl);rw[f9] at Z;refine tD 36 #[.tmp 12,.tmp 13,.tmp 18] #[47,25,3] rfl Pg hp ?_;simp only[f_,d_,a_,X,Y,Z];refine(C.Pf w k).mono ?_;rintro e w' ⟨s',j4,c1,aX,c2,jV,c3,kq,jx,ko,jI,aB,kind,aU,bq,aP,bw,bn,aV,rfl,h1,N,ah,au,aa,aC,aD,bl,J,aQ,aR,aS⟩;refine⟨_,rfl,.more ax J (ay w w' k J) ⟨⟨s',j4,c1,aX,c2,jV,c3,kq,jx,ko,jI,aB,kind,aU,bq,aP,bw,bn,aV⟩,rfl,⟨by have:=k.size;have:=C.lw;have:=C.hw;show p<w.heap.size;omega,N,ah,au,aC,aD,aR,λ e=>?_,aS⟩⟩⟩;exact aQ.2 e
 ·intro vals c w f k g H hp G;obtain⟨⟨f10,ab⟩,-⟩:=(⟨g.1 rfl,trivial⟩:_/\True)
  have ab:f (.tmp 19)=vals 10:=ab _ rfl;replace f10:l7 A p D B n s q r E t sp v0 v1 v2 v3 v4 v5 v6 F gM bK gN 10 (c 10) vals w:=f10 (y_ rfl);obtain⟨d,f10,-⟩:=f10;simp only[bD,execOp,ab];simp[gL,go_sem];exact .same k ⟨d,f10,f10⟩
 ·intro vals c w f k g H hp G;obtain⟨⟨f11,I⟩,-⟩:=(⟨g.1 rfl,trivial⟩:_/\True)
  have I:f (.tmp 8)=vals 11:=I _ rfl;replace f11:l7 A p D B n s q r E t sp v0 v1 v2 v3 v4 v5 v6 F gM bK gN 11 (c 11) vals w:=f11 (y_ rfl);obtain⟨d,f10,f11⟩:=f11;rw[f11] at I;simp only[bD,execOp,I,qd.tJ];simp[gL,go_sem];exact .same k ⟨d,f10,rfl⟩
 ·intro vals c w f k g H hp G;obtain⟨⟨f11,I⟩,-⟩:=(⟨g.1 rfl,trivial⟩:_/\True)
  have I:f (.tmp 8)=vals 11:=I _ rfl;replace f11:l7 A p D B n s q r E t sp v0 v1 v2 v3 v4 v5 v6 F gM bK gN 11 (c 11) vals w:=f11 (y_ rfl);obtain⟨d,f10,f11⟩:=f11;rw[f11] at I;simp only[bD,execOp,I,qd.tJ];simp[gL,go_sem];exact .same k ⟨d,f10,rfl⟩
 ·intro vals c w f k g H hp G;obtain⟨⟨f11,I⟩,-⟩:=(⟨g.1 rfl,trivial⟩:_/\True)
  have I:f (.tmp 8)=vals 11:=I _ rfl;replace f11:l7 A p D B n s q r E t sp v0 v1 v2 v3 v4 v5 v6 F gM bK gN 11 (c 11) vals w:=f11 (y_ rfl);obtain⟨d,f10,f11⟩:=f11;rw[f11] at I;simp only[bD,execOp,I,qd.tJ];simp[gL,go_sem];exact .same k rfl
 ·intro vals c w f k g H hp G;simp only[bD,execOp];simp[gL,go_sem];exact .more ax (bz w _) (ay w _ k (bz w _)) ⟨rfl,by simp,C.hw▸k.size,_,_,_,_,_,_,_,_,aT.new w 47 [.int .i64 0,.slice none 0 0,.slice none 0 0,.slice none 0 0,.slice none 0 0,.int .i64 0,.slice none 0 0,.slice none 0 0]⟩
 ·intro vals c w f k g H hp G;simp only[bD,execOp];simp[gL,go_sem];exact .more ax (bz w _) (ay w _ k (bz w _)) ⟨rfl,by simp,C.hw▸k.size,_,_,_,_,aT.new w 30 [.int .i64 0,.slice none 0 0,.slice none 0 0,.int .i64 0]⟩
 ·intro vals c w f k g H hp G;obtain⟨⟨f15,ai⟩,⟨f12,aj⟩,⟨f10,ab⟩,⟨f0,P⟩,⟨f1,Q⟩,⟨f2,R⟩,⟨f3,X⟩,⟨f4,Y⟩,⟨f5,S⟩,⟨f6,T⟩,⟨f7,U⟩,⟨f8,V⟩,⟨f9,Z⟩,⟨f11,I⟩,⟨f16,ak⟩,-⟩:=(⟨g.1 rfl,g.2.1 rfl,g.2.2.1 rfl,g.2.2.2.1 rfl,g.2.2.2.2.1 rfl,g.2.2.2.2.2.1 rfl,g.2.2.2.2.2.2.1 rfl,g.2.2.2.2.2.2.2.1 rfl,g.2.2.2.2.2.2.2.2.1 rfl,g.2.2.2.2.2.2.2.2.2.1 rfl,g.2.2.2.2.2.2.2.2.2.2.1 rfl,g.2.2.2.2.2.2.2.2.2.2.2.1 rfl,g.2.2.2.2.2.2.2.2.2.2.2.2.1 rfl,g.2.2.2.2.2.2.2.2.2.2.2.2.2.2.1 rfl,g.2.2.2.2.2.2.2.2.2.2.2.2.2.2.2.2.2.2.2.1 rfl,trivial⟩:_/\_/\_/\_/\_/\_/\_/\_/\_/\_/\_/\_/\_/\_/\_/\True)
  have ai:f (.tmp 5)=vals 15:=ai _ rfl;replace f15:l7 A p D B n s q r E t sp v0 v1 v2 v3 v4 v5 v6 F gM bK gN 15 (c 15) vals w:=f15 (y_ rfl);have aj:f (.tmp 20)=vals 12:=aj _ rfl;replace f12:l7 A p D B n s q r E t sp v0 v1 v2 v3 v4 v5 v6 F gM bK gN 12 (c 12) vals w:=f12 (y_ rfl);have ab:f (.tmp 19)=vals 10:=ab _ rfl;replace f10:l7 A p D B n s q r E t sp v0 v1 v2 v3 v4 v5 v6 F gM bK gN 10 (c 10) vals w:=f10 (y_ rfl);have P:f (.tmp 9)=vals 0:=P _ rfl;replace f0:l7 A p D B n s q r E t sp v0 v1 v2 v3 v4 v5 v6 F gM bK gN 0 (c 0) vals w:=f0 (y_ rfl);have Q:f (.tmp 10)=vals 1:=Q _ rfl;replace f1:l7 A p D B n s q r E t sp v0 v1 v2 v3 v4 v5 v6 F gM bK gN 1 (c 1) vals w:=f1 (y_ rfl);have R:f (.tmp 11)=vals 2:=R _ rfl;replace f2:l7 A p D B n s q r E t sp v0 v1 v2 v3 v4 v5 v6 F gM bK gN 2 (c 2) vals w:=f2 (y_ rfl);have X:f (.tmp 12)=vals 3:=X _ rfl;replace f3:l7 A p D B n s q r E t sp v0 v1 v2 v3 v4 v5 v6 F gM bK gN 3 (c 3) vals w:=f3 (y_ rfl);have Y:f (.tmp 13)=vals 4:=Y _ rfl;replace f4:l7 A p D B n s q r E t sp v0 v1 v2 v3 v4 v5 v6 F gM bK gN 4 (c 4) vals w:=f4 (y_ rfl);have S:f (.tmp 14)=vals 5:=S _ rfl;replace f5:l7 A p D B n s q r E t sp v0 v1 v2 v3 v4 v5 v6 F gM bK gN 5 (c 5) vals w:=f5 (y_ rfl);have T:f (.tmp 15)=vals 6:=T _ rfl;replace f6:l7 A p D B n s q r E t sp v0 v1 v2 v3 v4 v5 v6 F gM bK gN 6 (c 6) vals w:=f6 (y_ rfl);have U:f (.tmp 16)=vals 7:=U _ rfl;replace f7:l7 A p D B n s q r E t sp v0 v1 v2 v3 v4 v5 v6 F gM bK gN 7 (c 7) vals w:=f7 (y_ rfl);have V:f (.tmp 17)=vals 8:=V _ rfl;replace f8:l7 A p D B n s q r E t sp v0 v1 v2 v3 v4 v5 v6 F gM bK gN 8 (c 8) vals w:=f8 (y_ rfl);have Z:f (.tmp 18)=vals 9:=Z _ rfl;replace f9:l7 A p D B n s q r E t sp v0 v1 v2 v3 v4 v5 v6 F gM bK gN 9 (c 9) vals w:=f9 (y_ rfl);have I:f (.tmp 8)=vals 11:=I _ rfl;replace f11:l7 A p D B n s q r E t sp v0 v1 v2 v3 v4 v5 v6 F gM bK gN 11 (c 11) vals w:=f11 (y_ rfl);have ak:f (.tmp 6)=vals 16:=ak _ rfl;replace f16:l7 A p D B n s q r E t sp v0 v1 v2 v3 v4 v5 v6 F gM bK gN 16 (c 16) vals w:=f16 (y_ rfl);obtain⟨g15,aW,aY,aZ,a6,a7,a8,bo,bp,br,bs,O⟩:=f15;obtain⟨d,g10,g12⟩:=f12;rw[g15] at ai;rw[g12] at aj;have K:=O.free;have aE:=K 0;have aH:=K 1;have aI:=K 2;have aJ:=K 3;have a':=K 4;have ba:=K 5;have bb:=K 6;have bc:=K 7;have ad:=O.cell 0;have ae:=O.cell 1;have af:=O.cell 2;have ag:=O.cell 3;have an:=O.cell 4;have ao:=O.cell 5;have aq:=O.cell 6;have ar:=O.cell 7;simp only[x_,w_] at ad ae af ag an ao aq ar;have bd:=G.2 10 15 (by decide) rfl rfl;have bf:=G.2 16 15 (by decide) rfl rfl;have bu:=f16.2.1;have av:=aT.Ch O (.int .i64 n) (.slice q s.gs.length r) (.slice d.j4 d.s.es.length d.c1) (.slice d.aX (n+1) d.c2) (.slice d.jV n d.c3) (.int .i64 d.s.bt) (.slice d.kq (n+1) d.jx) (.slice d.ko d.s.aF.length d.jI);have L:∀(u:World)(i:Nat)(v:Value),aG (λ b=>b≠(c 15).1) u (u.setCell ⟨(c 15).1,i,none⟩ v):=λ u i v=>aG.set _ i v (λ h=>h rfl)
  have f1:aG (λ b=>b≠(c 15).1) w _:=((((((((L w 0 (.int .i64 n)).trans (L _ 1 (.slice q s.gs.length r))).trans (L _ 2 (.slice d.j4 d.s.es.length d.c1))).trans (L _ 3 (.slice d.aX (n+1) d.c2))).trans (L _ 4 (.slice d.jV n d.c3))).trans (L _ 5 (.int .i64 d.s.bt))).trans (L _ 6 (.slice d.kq (n+1) d.jx))).trans (L _ 7 (.slice d.ko d.s.aF.length d.jI)))
  simp only[bD,execOp,ai,aj];simp[gL,go_sem,aE,aH,aI,aJ,a',ba,bb,bc,ad,ae,af,ag,an,ao,aq,ar];generalize (((((((w.setCell ⟨(c 15).1,0,none⟩ (.int .i64 n)).setCell ⟨(c 15).1,1,none⟩ (.slice q s.gs.length r)).setCell ⟨(c 15).1,2,none⟩ (.slice d.j4 d.s.es.length d.c1)).setCell ⟨(c 15).1,3,none⟩ (.slice d.aX (n+1) d.c2)).setCell ⟨(c 15).1,4,none⟩ (.slice d.jV n d.c3)).setCell ⟨(c 15).1,5,none⟩ (.int .i64 d.s.bt)).setCell ⟨(c 15).1,6,none⟩ (.slice d.kq (n+1) d.jx)).setCell ⟨(c 15).1,7,none⟩ (.slice d.ko d.s.aF.length d.jI)=W at*;have bg:=C.lw;have bx:=O.lt;have aK:Below M.heap.size M W:=k.trans ⟨f1.os,f1.tape,f1.output,f1.size,λ b J=>f1.keep b (by have:=C.hw;omega)⟩;refine⟨aK,f1.size,⟨(c 15).1,d,g15,g10,av⟩,λ j l m hs o h=>?_⟩
  match j,l,m,hs,o,h with
  |0,l,m,hs,o,h=>exact h
  |1,l,m,hs,o,h=>exact h
  |2,l,m,hs,o,h=>exact h
  |3,l,m,hs,o,h=>exact h
  |4,l,m,hs,o,h=>exact h
  |5,l,m,hs,o,h=>exact h
  |6,l,m,hs,o,h=>exact h
  |7,l,m,hs,o,h=>exact h
  |8,l,m,hs,o,h=>exact h
  |9,l,m,hs,o,h=>exact h
  |11,l,m,hs,o,h=>exact h
  |12,l,m,hs,o,h=>exact h
  |13,l,m,hs,o,h=>exact h
  |14,l,m,hs,o,h=>exact h
  |10,l,m,hs,o,h=>obtain⟨aw,h1,N⟩:=h;exact⟨aw,h1,N.jr (f1.mono λ b J e=>by have aC:¬(p<=b/\b<(c 10).1):=λ h=>J.2 (.inr h);have aD:=J.1;clear J;subst e;rcases bd with aa|aa<;>omega)⟩
  |15,l,m,hs,o,h=>exact⟨g15,aW,aY,_,_,_,_,_,_,_,_,av⟩
  |16,l,m,hs,o,h=>obtain⟨h1,N,ah,m0,m1,m2,m3,au⟩:=h;exact⟨h1,N,ah,m0,m1,m2,m3,f1.blk au (λ e=>by rcases bf with aa|aa<;>omega)⟩
  |17,l,m,hs,o,h=>exact absurd rfl l
  |18,l,m,hs,o,h=>exact absurd m (by decide+kernel)
  |n+19,l,m,hs,o,h=>trivial
 ·intro vals c w f k g H hp G;obtain⟨⟨f16,ak⟩,⟨f13,az⟩,⟨f17,bA⟩,⟨f0,P⟩,⟨f1,Q⟩,⟨f2,R⟩,⟨f3,X⟩,⟨f4,Y⟩,⟨f5,S⟩,⟨f6,T⟩,⟨f7,U⟩,⟨f8,V⟩,⟨f9,Z⟩,⟨f10,ab⟩,⟨f11,I⟩,⟨f12,aj⟩,⟨f15,ai⟩,-⟩:=(⟨g.1 rfl,g.2.1 rfl,g.2.2.1 rfl,g.2.2.2.1 rfl,g.2.2.2.2.1 rfl,g.2.2.2.2.2.1 rfl,g.2.2.2.2.2.2.1 rfl,g.2.2.2.2.2.2.2.1 rfl,g.2.2.2.2.2.2.2.2.1 rfl,g.2.2.2.2.2.2.2.2.2.1 rfl,g.2.2.2.2.2.2.2.2.2.2.1 rfl,g.2.2.2.2.2.2.2.2.2.2.2.1 rfl,g.2.2.2.2.2.2.2.2.2.2.2.2.1 rfl,g.2.2.2.2.2.2.2.2.2.2.2.2.2.1 rfl,g.2.2.2.2.2.2.2.2.2.2.2.2.2.2.1 rfl,g.2.2.2.2.2.2.2.2.2.2.2.2.2.2.2.1 rfl,g.2.2.2.2.2.2.2.2.2.2.2.2.2.2.2.2.2.2.1 rfl,trivial⟩:_/\_/\_/\_/\_/\_/\_/\_/\_/\_/\_/\_/\_/\_/\_/\_/\_/\True)
  have ak:f (.tmp 6)=vals 16:=ak _ rfl;replace f16:l7 A p D B n s q r E t sp v0 v1 v2 v3 v4 v5 v6 F gM bK gN 16 (c 16) vals w:=f16 (y_ rfl);have az:f (.tmp 21)=vals 13:=az _ rfl;replace f13:l7 A p D B n s q r E t sp v0 v1 v2 v3 v4 v5 v6 F gM bK gN 13 (c 13) vals w:=f13 (y_ rfl);replace f17:l7 A p D B n s q r E t sp v0 v1 v2 v3 v4 v5 v6 F gM bK gN 17 (c 17) vals w:=f17 (y_ rfl);have P:f (.tmp 9)=vals 0:=P _ rfl;replace f0:l7 A p D B n s q r E t sp v0 v1 v2 v3 v4 v5 v6 F gM bK gN 0 (c 0) vals w:=f0 (y_ rfl);have Q:f (.tmp 10)=vals 1:=Q _ rfl;replace f1:l7 A p D B n s q r E t sp v0 v1 v2 v3 v4 v5 v6 F gM bK gN 1 (c 1) vals w:=f1 (y_ rfl);have R:f (.tmp 11)=vals 2:=R _ rfl;replace f2:l7 A p D B n s q r E t sp v0 v1 v2 v3 v4 v5 v6 F gM bK gN 2 (c 2) vals w:=f2 (y_ rfl);have X:f (.tmp 12)=vals 3:=X _ rfl;replace f3:l7 A p D B n s q r E t sp v0 v1 v2 v3 v4 v5 v6 F gM bK gN 3 (c 3) vals w:=f3 (y_ rfl);have Y:f (.tmp 13)=vals 4:=Y _ rfl;replace f4:l7 A p D B n s q r E t sp v0 v1 v2 v3 v4 v5 v6 F gM bK gN 4 (c 4) vals w:=f4 (y_ rfl);have S:f (.tmp 14)=vals 5:=S _ rfl;replace f5:l7 A p D B n s q r E t sp v0 v1 v2 v3 v4 v5 v6 F gM bK gN 5 (c 5) vals w:=f5 (y_ rfl);have T:f (.tmp 15)=vals 6:=T _ rfl;replace f6:l7 A p D B n s q r E t sp v0 v1 v2 v3 v4 v5 v6 F gM bK gN 6 (c 6) vals w:=f6 (y_ rfl);have U:f (.tmp 16)=vals 7:=U _ rfl;replace f7:l7 A p D B n s q r E t sp v0 v1 v2 v3 v4 v5 v6 F gM bK gN 7 (c 7) vals w:=f7 (y_ rfl);have V:f (.tmp 17)=vals 8:=V _ rfl;replace f8:l7 A p D B n s q r E t sp v0 v1 v2 v3 v4 v5 v6 F gM bK gN 8 (c 8) vals w:=f8 (y_ rfl);have Z:f (.tmp 18)=vals 9:=Z _ rfl;replace f9:l7 A p D B n s q r E t sp v0 v1 v2 v3 v4 v5 v6 F gM bK gN 9 (c 9) vals w:=f9 (y_ rfl);have ab:f (.tmp 19)=vals 10:=ab _ rfl;replace f10:l7 A p D B n s q r E t sp v0 v1 v2 v3 v4 v5 v6 F gM bK gN 10 (c 10) vals w:=f10 (y_ rfl);have I:f (.tmp 8)=vals 11:=I _ rfl;replace f11:l7 A p D B n s q r E t sp v0 v1 v2 v3 v4 v5 v6 F gM bK gN 11 (c 11) vals w:=f11 (y_ rfl);have aj:f (.tmp 20)=vals 12:=aj _ rfl;replace f12:l7 A p D B n s q r E t sp v0 v1 v2 v3 v4 v5 v6 F gM bK gN 12 (c 12) vals w:=f12 (y_ rfl);have ai:f (.tmp 5)=vals 15:=ai _ rfl;replace f15:l7 A p D B n s q r E t sp v0 v1 v2 v3 v4 v5 v6 F gM bK gN 15 (c 15) vals w:=f15 (y_ rfl);obtain⟨g16,bh,bj,aZ,a6,a7,a8,al⟩:=f16;obtain⟨d,g10,g13⟩:=f13;rw[g16] at ak;rw[g13] at az;have K:=al.free;have aE:=K 0;have aH:=K 1;have aI:=K 2;have aJ:=K 3;have ad:=al.cell 0;have ae:=al.cell 1;have af:=al.cell 2;have ag:=al.cell 3;simp only[x_,w_] at ad ae af ag;have bk:=G.2 10 16 (by decide) rfl rfl;have aN:=G.2 15 16 (by decide) rfl rfl;have g15:=f15.1;have bB:=f15.2.1;have av:=(((al.set 0 (.int .i64 d.kind)).set 1 (.slice d.aU d.bq d.aP)).set 2 (.slice d.bw d.bn d.aV)).set 3 (.int .i64 (d.aB:Int));have L:∀(u:World)(i:Nat)(v:Value),aG (λ b=>b≠(c 16).1) u (u.setCell ⟨(c 16).1,i,none⟩ v):=λ u i v=>aG.set _ i v (λ h=>h rfl)
  have f1:aG (λ b=>b≠(c 16).1) w _:=(((L w 0 (.int .i64 d.kind)).trans (L _ 1 (.slice d.aU d.bq d.aP))).trans (L _ 2 (.slice d.bw d.bn d.aV))).trans (L _ 3 (.int .i64 (d.aB:Int)));simp only[bD,execOp,ak,az];simp[gL,go_sem,aE,aH,aI,aJ,ad,ae,af,ag];generalize (((w.setCell ⟨(c 16).1,0,none⟩ (.int .i64 d.kind)).setCell ⟨(c 16).1,1,none⟩ (.slice d.aU d.bq d.aP)).setCell ⟨(c 16).1,2,none⟩ (.slice d.bw d.bn d.aV)).setCell ⟨(c 16).1,3,none⟩ (.int .i64 (d.aB:Int))=W at*;have bg:=C.lw;have aK:Below M.heap.size M W:=k.trans ⟨f1.os,f1.tape,f1.output,f1.size,λ b J=>f1.keep b (by have:=C.hw;omega)⟩;refine⟨aK,f1.size,⟨(c 16).1,d,g16,g10,av⟩,λ j l m hs o h=>?_⟩
  match j,l,m,hs,o,h with
  |0,l,m,hs,o,h=>exact h
  |1,l,m,hs,o,h=>exact h
  |2,l,m,hs,o,h=>exact h
  |3,l,m,hs,o,h=>exact h
  |4,l,m,hs,o,h=>exact h
  |5,l,m,hs,o,h=>exact h
  |6,l,m,hs,o,h=>exact h
  |7,l,m,hs,o,h=>exact h
  |8,l,m,hs,o,h=>exact h
  |9,l,m,hs,o,h=>exact h
  |11,l,m,hs,o,h=>exact h
  |12,l,m,hs,o,h=>exact h
  |13,l,m,hs,o,h=>exact h
  |14,l,m,hs,o,h=>exact h
  |10,l,m,hs,o,h=>obtain⟨aw,h1,N⟩:=h;exact⟨aw,h1,N.jr (f1.mono λ b J e=>by have aC:¬(p<=b/\b<(c 10).1):=λ h=>J.2 (.inr h);have aD:=J.1;clear J;subst e;rcases bk with aa|aa<;>omega)⟩
  |15,l,m,hs,o,h=>obtain⟨h1,N,ah,m0,m1,m2,m3,m4,m5,m6,m7,au⟩:=h;exact⟨h1,N,ah,m0,m1,m2,m3,m4,m5,m6,m7,f1.blk au (λ e=>by rcases aN with aa|aa<;>omega)⟩
  |16,l,m,hs,o,h=>exact⟨g16,bh,bj,_,_,_,_,av⟩
  |17,l,m,hs,o,h=>obtain⟨z,aw,h1,N,ah⟩:=h;exact⟨z,aw,h1,N,f1.blk ah (λ e=>by rw[g15] at h1;simp at h1;rcases aN with aa|aa<;>omega)⟩
  |18,l,m,hs,o,h=>exact absurd rfl l
  |n+19,l,m,hs,o,h=>trivial
theorem Co{aJ sp:Nat}(m:rM aZ w B n s bp aR iV cl A c A' c' gY gJ bu bE aJ sp){gM:Option Addr}{bK gN:Nat}{ah:List Int}(ag:aL w gM bK gN ah)(hl:∀x∈ah,gK n x)(ai:(ah.map aC).Nodup)(bd:bK<=1000):
  Calls u_ 77 #[.pointer (some ⟨B,0,none⟩),.slice gM bK gN] w (Pa aZ w B n s bp aR ah aJ sp):=by
 have q:=bz w (.cells #[.int .i64 0,.slice none 0 0,.slice none 0 0,.int .i64 0] 30);have aj:aT (w.alloc (.cells #[.int .i64 0,.slice none 0 0,.slice none 0 0,.int .i64 0] 30)) w.heap.size 30 [.int .i64 0,.slice none 0 0,.slice none 0 0,.int .i64 0]:=aT.new w 30 _;have R:=m.blk.below q;have ak:(w.alloc (.cells #[.int .i64 0,.slice none 0 0,.slice none 0 0,.int .i64 0] 30)).heap.size=w.heap.size+1:=by simp
 have bf:=m.blk.lt;go_enter Tryz.func77,Tryz.ntmps77
 go_upto_region 1 with fail
 generalize w.alloc (.cells #[.int .i64 0,.slice none 0 0,.slice none 0 0,.int .i64 0] 30)=w1 at*;have bg:=m.pl;have bh:=m.ok.nt;have bj:=y5 m.n10;have al:s.aF.length<=549755813888:=by omega
 have an:=m.qa;have H:=m.mQ;have ao:Iq w1 aZ w.heap.size w1.heap.size B n s bp aR ah aJ sp (.int .i64 n) (.slice bp s.gs.length aR) (.slice iV s.es.length cl) (.slice A (n+1) c) (.slice A' n c') (.int .i64 s.bt) (.slice gY (n+1) gJ) (.slice bu s.aF.length bE) gM bK gN:=by
  refine⟨R,H,an,by omega,rfl,λ W I=>?_⟩;have bk:uW W (λ b=>aZ b\/(w.heap.size<=b/\b<W.heap.size)) s bp aR iV cl A c A' c' gY gJ bu bE:=λ W' f=>m.Cl W' ((aG.q4 (q.trans (I.mono q.size)) λ b j=>j.1).trans (f.mono λ b j=>⟨by have:=I.size;omega,λ h=>h.elim j.2 (λ h=>by have:=j.1;omega)⟩))
  have:=Oh (aJ-sp) m.ok m.n10 bk ((ag.below q).below I) hl ai bd (by omega) m.bH al m.ux m.pa (λ b j=>by have bQ:=I.size;exact j.elim (λ h=>by have:=m.dl b h;omega) (λ h=>h.2));unfold rL at this;exact this
 have aq:=U (Pj w1 aZ w.heap.size w1.heap.size B n s bp aR ah aJ sp _ _ _ _ _ _ _ _ gM bK gN ao);have l:=U (z_ m (z_ aj (z_ q (z_ R (z_ ak bf)))));clear m aj q R bg bh bj al an H ag hl ai ak ao;refine Pd (rV Tryz.f77 1) 19 42 _ _ [(0,.pointer (some ⟨B,0,none⟩)),(1,.slice gM bK gN)] _ (l7 aZ w.heap.size w1.heap.size B n s bp aR ah aJ sp (.int .i64 n) (.slice bp s.gs.length aR) (.slice iV s.es.length cl) (.slice A (n+1) c) (.slice A' n c') (.int .i64 s.bt) (.slice gY (n+1) gJ) (.slice bu s.aF.length bE) gM bK gN) (by kernel_rfl) (by kernel_rfl) (by kernel_rfl) (by kernel_rfl) (by kernel_rfl) (by decide+kernel) (by decide+kernel) (by decide+kernel) (by decide+kernel) (by decide+kernel) rfl ⟨rfl,rfl,trivial⟩ (l7.Pe _ _ _ _ _ _ _ _ _ _ _ _ _ _ _ _ _ _ _ _ _ _) ((p_ _ _).drew) aq.o _ rfl ?_;intro vals ar F au r S bR av;obtain⟨d,g10,hF⟩:=r 10 (by omega);obtain⟨aw,d1,g15,ax,T⟩:=r 17 (by omega);obtain⟨z2,d2,g16,ay,V⟩:=r 18 (by omega);have f14:vals 14=.int .i64 0:=r 14 (by omega);rw[<-(qd.inj (g10.symm.trans ax)).1] at T;rw[<-(qd.inj (g10.symm.trans ay)).2] at V;have J:aw≠z2:=by
  have g:=r 15 (by omega);have az:=r 16 (by omega);have t:=g15.symm.trans g.1;have bl:=g16.symm.trans az.1;simp at t bl;have h1:=g.2.1;have bo:=az.2.1;have K:=S.2 15 16 (by decide) rfl rfl;rcases K with K|K<;>omega
 have aA:w1.heap.size<=aw:=by
  have g:=r 15 (by omega);have t:=g15.symm.trans g.1;simp at t;rw[t];exact g.2.2.1
 have aD:w1.heap.size<=z2:=by
  have g:=r 16 (by omega);have t:=g16.symm.trans g.1;simp at t;rw[t];exact g.2.2.1
 simp only[ot,Act.put,List.take,g15,g16,f14] at av;subst av;have k:=U (z_ hF (z_ T (z_ V (z_ J (z_ aA (z_ aD au))))));have aE:bJ ((ar 10).2<=F.heap.size):=U (S.1 10 rfl).2;generalize hp:ar 10=p at k aE;clear au r S g10 ax ay g15 g16 f14 hF T V J aA aD aq hp;simp only[bD,execOp];simp[gL,go_sem,Act.eval,Act.put];have E:=l.o.2.2.2.1.below k.o.2.2.2.2.2.2;have aH:=E.cell 8;have L:=E.cell 9;have x:=k.o.2.1.cell;have aI:=x 0;have aK:=x 1;have aM:=x 2;have aN:=x 3;have aO:=x 4;have aQ:=x 5;have aS:=x 6;have aW:=x 7;have u:=k.o.2.2.1.cell;have M:=u 0;have N:=u 1;have O:=u 2;have P:=u 3;simp only[x_,w_] at aH L aI aK aM aN aO aQ aS aW M N O P;have y:=E.free;have br:=y 0;have bs:=y 1;have bx:=y 2;have bA:=y 3;have bB:=y 4;have bC:=y 5;have bF:=y 6;have bG:=y 7;have z:=E.cell;have aY:=z 0;have c1:=z 1;have c2:=z 2;have c3:=z 3;have jx:=z 4;have jI:=z 5;have a6:=z 6;have a7:=z 7;simp only[x_,w_] at aY c1 c2 c3 jx jI a6 a7;have X:bJ (aT _ B 155 [.int .i64 n,.slice bp s.gs.length aR,.slice d.j4 d.s.es.length d.c1,.slice d.aX (n+1) d.c2,.slice d.jV n d.c3,.int .i64 d.s.bt,.slice d.kq (n+1) d.jx,.slice d.ko d.s.aF.length d.jI,.int .i64 aJ,.int .i64 sp]):=U ((((((((E.set 0 (.int .i64 n)).set 1 (.slice bp s.gs.length aR)).set 2 (.slice d.j4 d.s.es.length d.c1)).set 3 (.slice d.aX (n+1) d.c2)).set 4 (.slice d.jV n d.c3)).set 5 (.int .i64 d.s.bt)).set 6 (.slice d.kq (n+1) d.jx)).set 7 (.slice d.ko d.s.aF.length d.jI));have g:∀(u:World)(i:Nat)(v:Value),aG (λ b=>b≠B) u (u.setCell ⟨B,i,none⟩ v):=λ u i v=>aG.set _ i v (λ h=>h rfl)
 have Y:bJ (aG (λ b=>b≠B) F _):=U ((((((((g F 0 (.int .i64 n)).trans (g _ 1 (.slice bp s.gs.length aR))).trans (g _ 2 (.slice d.j4 d.s.es.length d.c1))).trans (g _ 3 (.slice d.aX (n+1) d.c2))).trans (g _ 4 (.slice d.jV n d.c3))).trans (g _ 5 (.int .i64 d.s.bt))).trans (g _ 6 (.slice d.kq (n+1) d.jx))).trans (g _ 7 (.slice d.ko d.s.aF.length d.jI)));clear x u E y z g
 go_upto_region 5 with fail
 generalize (((((((F.setCell ⟨B,0,none⟩ (.int .i64 n)).setCell ⟨B,1,none⟩ (.slice bp s.gs.length aR)).setCell ⟨B,2,none⟩ (.slice d.j4 d.s.es.length d.c1)).setCell ⟨B,3,none⟩ (.slice d.aX (n+1) d.c2)).setCell ⟨B,4,none⟩ (.slice d.jV n d.c3)).setCell ⟨B,5,none⟩ (.int .i64 d.s.bt)).setCell ⟨B,6,none⟩ (.slice d.kq (n+1) d.jx)).setCell ⟨B,7,none⟩ (.slice d.ko d.s.aF.length d.jI)=Q at*;clear br bs bx bA bB bC bF bG aY c1 c2 c3 jx jI a6 a7 aI aK aM aN aO aQ aS aW aH L M N O P;have a8:z2≠B:=λ e=>by have:=k.o.2.2.2.2.2.1;have:=l.o.2.2.2.2.1;omega
 have Z:=Y.o.blk k.o.2.2.1 a8;have L:=X.o.cell 9;have f9:=X.o.free 9;have u:=Z.cell;have M:=u 0;have N:=u 1;have O:=u 2;have P:=u 3;simp only[x_,w_] at L M N O P;have a':w.heap.size≠B:=λ e=>by have:=l.o.2.2.2.2.2;omega
 have D:=Y.o.blk (l.o.2.1.below k.o.2.2.2.2.2.2) a';have v:=D.cell;have v0:=v 0;have v1:=v 1;have v2:=v 2;have v3:=v 3;have g0:=D.free 0;have g1:=D.free 1;have g2:=D.free 2;have g3:=D.free 3;simp only[x_,w_] at v0 v1 v2 v3;have ba:sp+d.aB<=1099511627776:=by have:=k.o.1.mQ;have:=l.o.1.mQ;have:=l.o.1.qa;omega
 have wn:j_.wrap ((sp:Int)+(d.aB:Int))=(sp:Int)+(d.aB:Int):=by rw[o_];omega
 have bS:wrap64 ((sp:Int)+(d.aB:Int))=(sp:Int)+(d.aB:Int):=by unfold wrap64;omega
 have aa:=U (z_ ba (z_ a8 (z_ a' (z_ Z D))));clear u v Z D ba;rename_i bI bb;have bM:=U bb;clear bb;refine wp_region_noPanic ?_
 go_region_law (fail)
 all_goals
  show bI _ _;apply bM.o
  go_wp2_with fail
 all_goals
  have f5:aG (λ b=>b≠B) Q (Q.setCell ⟨B,9,none⟩ (.int .i64 ((sp:Int)+(d.aB:Int)))):=aG.set _ _ _ (λ h=>h rfl);have bN:aT (Q.setCell ⟨B,9,none⟩ (.int .i64 ((sp:Int)+(d.aB:Int)))) B 155 [.int .i64 n,.slice bp s.gs.length aR,.slice d.j4 d.s.es.length d.c1,.slice d.aX (n+1) d.c2,.slice d.jV n d.c3,.int .i64 d.s.bt,.slice d.kq (n+1) d.jx,.slice d.ko d.s.aF.length d.jI,.int .i64 aJ,.int .i64 ((sp:Int)+(d.aB:Int))]:=X.o.set 9 _;have bO:=f5.blk aa.o.2.2.2.2 aa.o.2.2.1;generalize Q.setCell ⟨B,9,none⟩ (.int .i64 ((sp:Int)+(d.aB:Int)))=ab at*;have ad:=(((bO.set 0 (.int .i64 d.kind)).set 1 (.slice d.aU d.bq d.aP)).set 2 (.slice d.bw d.bn d.aV)).set 3 (.int .i64 (d.aB:Int));have g:∀(u:World)(i:Nat)(v:Value),aG (λ b=>b≠w.heap.size) u (u.setCell ⟨w.heap.size,i,none⟩ v):=λ u i v=>aG.set _ i v (λ h=>h rfl)
  have f6:aG (λ b=>b≠w.heap.size) ab _:=(((g ab 0 (.int .i64 d.kind)).trans (g _ 1 (.slice d.aU d.bq d.aP))).trans (g _ 2 (.slice d.bw d.bn d.aV))).trans (g _ 3 (.int .i64 (d.aB:Int)));have ae:=f6.blk bN (λ e=>aa.o.2.2.1 e.symm);generalize (((ab.setCell ⟨w.heap.size,0,none⟩ (.int .i64 d.kind)).setCell ⟨w.heap.size,1,none⟩ (.slice d.aU d.bq d.aP)).setCell ⟨w.heap.size,2,none⟩ (.slice d.bw d.bn d.aV)).setCell ⟨w.heap.size,3,none⟩ (.int .i64 (d.aB:Int))=bP at*;replace ad:=ad.below (p_ _ _).drew;replace ae:=ae.below (p_ _ _).drew;replace f6:=f6.trans aG.drew;generalize bP.drew=W at*;have C:aG (λ b=>b≠B/\b≠w.heap.size) F W:=((Y.o.mono λ b j=>j.1).trans (f5.mono λ b j=>j.1)).trans (f6.mono λ b j=>j.2);have bT:=k.o.1.bL;have bc:∀W',aG (λ b=>b<W.heap.size/\¬aZ b) W W'->_:=λ W' f=>k.o.1.rd W' ((C.mono λ b j=>⟨λ e=>j.2 (.inl (e▸l.o.1.jN)),λ e=>j.2 (.inr (by omega))⟩).trans (f.mono λ b j=>⟨by have:=aE.o;have:=C.size;omega,λ e=>j.2 (.inl e)⟩))
  have t:((sp+d.aB:Nat):Int)=(sp:Int)+(d.aB:Int):=by omega
  have af:=k.o.1.gs;have bU:=k.o.1.es;have bV:=k.o.1.aF;have H:=k.o.1.mQ;have bW:=l.o.1.mQ;have bX:=l.o.1.pl;have bY:=l.o.1.el;refine O8 rfl rfl ad ⟨d.s,d.j4,d.c1,d.aX,d.c2,d.jV,d.c3,d.kq,d.jx,d.ko,d.jI,d.aB,d.kind,d.aU,d.bq,d.aP,d.bw,d.bn,d.aV,rfl,⟨?_,l.o.1.jN,λ b j=>(by have h1:=l.o.1.dl b j;have bo:=k.o.2.2.2.2.2.2.size;have K:=l.o.2.2.1.size;have bZ:=C.size;omega),λ W' f=>(bc W' f).1,k.o.1.ok,l.o.1.n10,by omega,l.o.1.qa,by rw[af];exact l.o.1.bH,by omega,by omega,k.o.1.ux,k.o.1.pa⟩,af,H,(bc W aG.refl).2,?_⟩
  ·rw[t,af];exact ae
  ·have q:=l.o.2.2.1;have G:=k.o.2.2.2.2.2.2;have b0:=l.o.2.2.2.2.1;refine⟨C.os.trans (G.os.trans q.os),C.tape.trans (G.tape.trans q.tape),C.output.trans (G.output.trans q.output),q_ q.size (q_ G.size C.size),λ b j J=>?_⟩;exact(C.keep b ⟨λ e=>J (by rw[e]),by omega⟩).trans ((G.block b (by omega)).trans (q.block b j))
structure tK(w:World)(n:Nat)(s:k7)(bp:Option Addr)(aR:Nat)(iV:Option Addr)(cl:Nat)(A:Option Addr)(c:Nat)(A':Option Addr)(c':Nat)(gY:Option Addr)(gJ:Nat)(bu:Option Addr)(bE:Nat):Prop where
 aN:ri w s bp aR iV cl A c A' c' gY gJ bu bE
 O:pF n s
 jv:s.es=[]
 pl:s.aF.length=s.gs.length
 ux:bu=none->s.aF.length=0/\bE=0
 z6:bp=none->s.gs.length=0/\aR=0
 pp:Plain bu
 Et:Plain bp
theorem tK.below{w w':World}{n:Nat}{s:k7}{bp:Option Addr}{aR:Nat}{iV:Option Addr}{cl:Nat}{A:Option Addr}{c:Nat}{A':Option Addr}{c':Nat}{gY:Option Addr}{gJ:Nat}{bu:Option Addr}{bE:Nat}(h:tK w n s bp aR iV cl A c A' c' gY gJ bu bE)(b:Below w.heap.size w w'):tK w' n s bp aR iV cl A c A' c' gY gJ bu bE:=
 ⟨h.aN.below b,h.O,h.jv,h.pl,h.ux,h.z6,h.pp,h.Et⟩
def sL(n:Nat):k7:=⟨n,[],[],si (n+1),rm n,1,s9 (n+1),[]⟩
theorem tK.new{w:World}{n:Nat}{A:Option Addr}{c:Nat}{A':Option Addr}{c':Nat}{gY:Option Addr}{gJ:Nat}(k:n<=10)(d:aL w A (n+1) c (si (n+1)))(f:aL w A' n c' (rm n))(i:kE w gY (n+1) gJ (s9 (n+1))):
  tK w n (sL n) none 0 none 0 A c A' c' gY gJ none 0:=by
 have b:(s9 (n+1)).length=n+1:=by simp[s9]
 refine⟨⟨ku.nil _ _ _ (t_ _),⟨rfl,t_ _,by simp[sL],t_ _,λ h=>(by simp[sL] at h),λ e he=>(by simp[sL] at he)⟩,?_,?_,?_,⟨rfl,t_ _,by simp[sL],t_ _,λ h=>(by simp[sL] at h),λ e he=>(by simp[sL] at he)⟩⟩,?_,rfl,rfl,λ _=>⟨rfl,rfl⟩,λ _=>⟨rfl,rfl⟩,.inl rfl,.inl rfl⟩
 ·show aL w A (si (n+1)).length c _;rw[v8];exact d
 ·show aL w A' (rm n).length c' _;rw[v7];exact f
 ·show kE w gY (s9 (n+1)).length gJ _;rw[b];exact i
 ·refine⟨rfl,by simp[sL],λ g j=>(by simp[sL] at j),sH.new n (by omega),b,?_,λ e he=>(by simp[sL] at he),λ e he=>(by simp[sL] at he),List.Pairwise.nil,λ p hp=>(by simp[sL] at hp)⟩;simp[sL,s9,iE]
theorem tK.add{ai:List Int}{e:Ending}(S:tK w n s bp aR iV cl A c A' c' gY gJ bu bE)(P:Im w n s bp aR bu bE iV cl A c A' c' gY gJ ai e W):
  ∃(s':k7)(d:Option Addr)(f:Nat)(g:Option Addr)(i:Nat),e=.returned (.tuple #[.agg #[.int .i64 n,.slice d s'.gs.length f,.slice iV s'.es.length cl,.slice A (n+1) c,.slice A' n c',.int .i64 s'.bt,.slice gY (n+1) gJ,.slice g s'.aF.length i],.int .i64 0])/\tK W n s' d f iV cl A c A' c' gY gJ g i/\s'.gs=s.gs++[ai]/\Below w.heap.size w W/\∀j:Nat->Prop,(∀b,j b->b<w.heap.size)->uW w j s bp aR iV cl A c A' c' gY gJ bu bE->uW W j s' d f iV cl A c A' c' gY gJ g i:=by
 obtain⟨s',d,f,g,i,he,h1,l,k,m,u,v,o,p,q,r,t⟩:=P;refine⟨s',d,f,g,i,he,⟨h1,l,m.trans S.jv,?_,q.2,r,.inr ?_,.inr ?_⟩,k,p,t⟩
 ·rw[o,k,S.pl];simp
 ·obtain⟨b,off,e,_⟩:=h1.aF.cells (by omega);exact⟨b,off,e⟩
 ·obtain⟨b,off,e,_⟩:=h1.gs.cells (by rw[k];simp);exact⟨b,off,e⟩
theorem uW.set{iC:Nat}(S:uW w (λ b=>b=iC) s bp aR iV cl A c A' c' gY gJ bu bE)(f:aG (λ b=>b≠iC) w W):uW W (λ b=>b=iC) s bp aR iV cl A c A' c' gY gJ bu bE:=
 λ W' e=>S W' ((f.mono λ b d=>d.2).trans (e.mono λ b d=>⟨Nat.lt_of_lt_of_le d.1 f.size,d.2⟩))
theorem tK.tE(h:tK w n s bp aR iV cl A c A' c' gY gJ bu bE)(b:ri W s bp aR iV cl A c A' c' gY gJ bu bE):tK W n s bp aR iV cl A c A' c' gY gJ bu bE:=
 ⟨b,h.O,h.jv,h.pl,h.ux,h.z6,h.pp,h.Et⟩
theorem aG.eight(v0 v1 v2 v3 v4 v5 v6 d:Value):aG (λ b=>b≠B) W ((((((((W.setCell ⟨B,0,none⟩ v0).setCell ⟨B,1,none⟩ v1).setCell ⟨B,2,none⟩ v2).setCell ⟨B,3,none⟩ v3).setCell ⟨B,4,none⟩ v4).setCell ⟨B,5,none⟩ v5).setCell ⟨B,6,none⟩ v6).setCell ⟨B,7,none⟩ d):=by
 have c:∀(u:World)(i:Nat)(v:Value),aG (λ b=>b≠B) u (u.setCell ⟨B,i,none⟩ v):=λ u i v=>aG.set _ i v (λ h=>h rfl)
 exact(((((((c W 0 v0).trans (c _ 1 v1)).trans (c _ 2 v2)).trans (c _ 3 v3)).trans (c _ 4 v4)).trans (c _ 5 v5)).trans (c _ 6 v6)).trans (c _ 7 d)
theorem Ir(x:Int)(A:Option Addr)(nl cl:Nat)(ls:List (List Int))(g:Int)(r:Option Addr)(s c2:Nat)(i:List (List Int))(w:World)(h:ku w A nl cl ls)(t:ku w r s c2 i)(hw:nZ i.flatten)(hlen:i.flatten.length<=1000000)(l:Int)(he:ny x ls i.flatten g=l)(m:l≠0):
  Calls u_ 76 #[.agg #[.int .i64 x,.slice A nl cl],.int .i64 g,.slice r s c2] w λ e w'=>e=.returned (.tuple #[.pointer none,.int .i64 l])/\Below w.heap.size w w':=by
 have j:Below w.heap.size w (w.alloc (.cells #[.int .i64 x,.slice A nl cl] 24)):=(p_ _ _).alloc (n_ _) _;have k:=o6.new w x A nl cl;generalize y:w.alloc (.cells #[.int .i64 x,.slice A nl cl] 24)=W at j k;have z:=k.bf;have B:=k.c1;have p:=U (xu x A nl cl ls W (h.below j));have d:=U (z_ j k)
 by_cases c:lM x ls=0
 ·have C:∃n:Nat,x=n/\n<=65536:=by
   by_cases C:x<0\/65536<x
   ·rw[xo C] at c;cases c
   ·exact⟨x.toNat,by omega,by omega⟩
  obtain⟨n,rfl,H⟩:=C;have u:l=1:=by
   rw[<-he];unfold ny;rw[if_pos c];split
   ·rename_i f;rw[g_,g_,decide_eq_true_eq,decide_eq_true_eq] at f;exact absurd (HM c f.1.1 f.1.2 f.2) (by rw[he];exact m)
   ·rfl
  subst u;rw[c] at p;have v:bJ (∀W',Below W.heap.size W W'->Calls u_ 139 #[.int .i64 n,.slice r s c2] W' λ e w'=>e=.returned (.bool (r8 n i.flatten))/\Below W'.heap.size W' w'):=U λ W' I=>H6 n H r s c2 i W' ((t.below j).below I) hw hlen
  cases hm:r8 n i.flatten with
  |false=>
   rw[hm] at v;clear h t hw hlen he m j k c hm;go_enter Tryz.func76,Tryz.ntmps76
   go_upto_region 1 with fail
   try rw[y]
   go_upto_region 2 with(go_at_call 107;refine p.o.mono ?_;rintro e w1 ⟨rfl,b⟩;have H1:=U b;have z0:=d.o.2.below b;have z:=z0.bf;have B:=z0.c1;clear z0 b)
   have D:=U (v.o w1 H1.o)
   go_wp2_with (go_at_call 139;refine D.o.mono ?_;rintro e J ⟨rfl,q⟩;have E:=U q;clear q)
   go_ret2
   exact⟨rfl,d.o.1.trans ((H1.o.trans (E.o.mono H1.o.size)).mono d.o.1.size)⟩
  |true=>
   have F:g<0\/¬g<0/\1099511627776<g:=by
    rcases Int.lt_or_le g 0 with f|f
    ·exact .inl f
    ·rcases Int.lt_or_le 1099511627776 g with G|G
     ·exact .inr ⟨by omega,G⟩
     ·exact absurd (HM c hm f G) (by rw[he];exact m)
   rw[hm] at v;clear h t hw hlen he m j k c hm;rcases F with F|⟨F,K⟩
   all_goals
    go_enter Tryz.func76,Tryz.ntmps76
    go_upto_region 1 with fail
    try rw[y]
    go_upto_region 2 with(go_at_call 107;refine p.o.mono ?_;rintro e w1 ⟨rfl,b⟩;have H1:=U b;have z0:=d.o.2.below b;have z:=z0.bf;have B:=z0.c1;clear z0 b)
    have D:=U (v.o w1 H1.o)
    go_wp2_with (go_at_call 139;refine D.o.mono ?_;rintro e J ⟨rfl,q⟩;have E:=U q;clear q)
    go_ret2
    exact⟨rfl,d.o.1.trans ((H1.o.trans (E.o.mono H1.o.size)).mono d.o.1.size)⟩
 ·have u:lM x ls=l:=by
   rw[<-he];unfold ny;rw[if_neg c]
  rw[u] at p;have L:(l==0)=false:=by simpa using m
  clear h t hw hlen he m j k c u;go_enter Tryz.func76,Tryz.ntmps76
  go_upto_region 1 with fail
  try rw[y]
  go_wp2_with (go_at_call 107;refine p.o.mono ?_;rintro e w1 ⟨rfl,b⟩;have H1:=U b;have z0:=d.o.2.below b;have z:=z0.bf;have B:=z0.c1;clear z0 b)
  go_ret2
  exact⟨rfl,d.o.1.trans (H1.o.mono d.o.1.size)⟩
def Pk(w:World)(n:Nat)(ls:List (List Int))(d:Nat)(e:Ending)(W:World):Prop:=
 ∃(B:Nat)(s:k7)(f:Option Addr)(g:Nat)(i:Option Addr)(cl:Nat)(A:Option Addr)(c:Nat)(A':Option Addr)(c':Nat)(j:Option Addr)(k:Nat)(l:Option Addr)(m:Nat),
  e=.returned (.tuple #[.pointer (some ⟨B,0,none⟩),.int .i64 0])/\rM (λ b=>b=B) W B n s f g i cl A c A' c' j k l m d 0/\s.gs=ls/\w.heap.size<=B/\Below w.heap.size w W
theorem Is(n:Nat)(av:n<=10)(A:Option Addr)(nl cl:Nat)(ls:List (List Int))(D:Nat)(ab:Option Addr)(ad c2:Nat)(Q:List (List Int))(w:World)(h:ku w A nl cl ls)(aw:ku w ab ad c2 Q)(hw:nZ Q.flatten)(hlen:Q.flatten.length<=1000000)(aM:ls.length<=40000)(he:ny n ls Q.flatten D=0):
  Calls u_ 76 #[.agg #[.int .i64 n,.slice A nl cl],.int .i64 D,.slice ab ad c2] w (Pk w n ls D):=by
 have R:Below w.heap.size w (w.alloc (.cells #[.int .i64 n,.slice A nl cl] 24)):=(p_ _ _).alloc (n_ _) _;have S:=o6.new w n A nl cl;generalize bl:w.alloc (.cells #[.int .i64 n,.slice A nl cl] 24)=W at R S;have ax:=S.bf;have ay:=S.c1;have aO:=U (xu n A nl cl ls W (h.below R));have T:=U (z_ R S);obtain⟨az,hm,bn,L⟩:=y6 he;obtain⟨aA,_,aP⟩:=D2 az;rw[az] at aO;have bo:bJ (∀W',Below W.heap.size W W'->Calls u_ 139 #[.int .i64 n,.slice ab ad c2] W' λ e w'=>e=.returned (.bool true)/\Below W'.heap.size W' w'):=U λ W' E=>by
  have:=H6 n aA ab ad c2 Q W' ((aw.below R).below E) hw hlen;rw[hm] at this;exact this
 have M:¬(D:Int)<0:=by omega
 have V:¬(1099511627776:Int)<(D:Int):=by omega
 have d1:decide ((D:Int)<0)=false:=decide_eq_false M;have d2:decide ((1099511627776:Int)<(D:Int))=false:=decide_eq_false V;have H:=U h;have I:=U (z_ h.len (z_ aM (z_ aP L)));have bp:bJ (∀W',Calls u_ 42 #[.int .i64 n] W' λ e w'=>∃(A:Option Addr)(c:Nat)(A':Option Addr)(c':Nat)(u:Option Addr)(v:Nat),e=.returned (.tuple #[.agg #[.int .i64 n,.slice none 0 0,.slice none 0 0,.slice A (n+1) c,.slice A' n c',.int .i64 1,.slice u (n+1) v,.slice none 0 0],.int .i64 0])/\
   aL w' A (n+1) c (si (n+1))/\aL w' A' n c' (rm n)/\kE w' u (n+1) v (s9 (n+1))/\Below W'.heap.size W' w'):=U λ W'=>Nw n W' aA
 clear h aw hw hlen he R S az hm bn L aA aP aM;go_enter Tryz.func76,Tryz.ntmps76
 go_upto_region 1 with fail
 try rw[bl]
 go_upto_region 4 with(go_at_call 107;refine aO.o.mono ?_;rintro e w1 ⟨rfl,L⟩;have H1:=U L;have z0:=T.o.2.below L;have ax:=z0.bf;have ay:=z0.c1;clear z0 L)
 have bq:=U (bo.o w1 H1.o)
 go_upto_region 6 with(go_at_call 139;refine bq.o.mono ?_;rintro e bH ⟨rfl,M⟩;have N:=U (z_ M ((T.o.2.below H1.o).below M));have ax:=N.o.2.bf;have ay:=N.o.2.c1;clear M)
 go_upto_region 7 with(go_at_call 42;refine(bp.o _).mono ?_;rintro e J ⟨j,c3,l,m,q,r,rfl,aQ,aR,aS,V⟩;have K:=U (z_ aQ (z_ aR (z_ aS V)));clear aQ aR aS V)
 have aB:=tK.new av K.o.1 K.o.2.1 K.o.2.2.1;have aU:=aT.new J 47 [.int .i64 n,.slice none 0 0,.slice none 0 0,.slice j (n+1) c3,.slice l n m,.int .i64 1,.slice q (n+1) r,.slice none 0 0];have P:=bz J (.cells #[.int .i64 n,.slice none 0 0,.slice none 0 0,.slice j (n+1) c3,.slice l n m,.int .i64 1,.slice q (n+1) r,.slice none 0 0] 47);have aV:uW (J.alloc (.cells #[.int .i64 n,.slice none 0 0,.slice none 0 0,.slice j (n+1) c3,.slice l n m,.int .i64 1,.slice q (n+1) r,.slice none 0 0] 47)) (λ b=>b=J.heap.size) (sL n) none 0 none 0 j c3 l m q r none 0:=λ W' f=>aB.aN.below (P.trans ⟨f.os,f.tape,f.output,f.size,λ b E=>f.keep b ⟨by have:=P.size;omega,by omega⟩⟩)
 have ae:=U (z_ (aB.below P) (z_ aU (z_ aV (T.o.1.trans ((H1.o.trans ((N.o.1.trans ((K.o.2.2.2.trans (P.mono K.o.2.2.2.size)).mono N.o.1.size)).mono H1.o.size)).mono T.o.1.size)))));have br:bJ (w.heap.size<=J.heap.size):=U (q_ T.o.1.size (q_ H1.o.size (q_ N.o.1.size K.o.2.2.2.size)));have aC:=(N.o.2.below K.o.2.2.2).below P;have bI:=aC.bf;have bK:=aC.c1;clear aB aU P aV aC ax ay;generalize J.alloc (.cells #[.int .i64 n,.slice none 0 0,.slice none 0 0,.slice j (n+1) c3,.slice l n m,.int .i64 1,.slice q (n+1) r,.slice none 0 0] 47)=bL at*;generalize J.heap.size=t at*;clear d1 d2 M V
 go_wp2_with fail
 go_loopw [40,10] (λ i e W=>∃(k:Nat)(s:k7)(F:Option Addr)(G:Nat)(u:Option Addr)(v:Nat),i=.int .i64 k/\k<=nl/\e=.int .i64 0/\aT W t 47 [.int .i64 n,.slice F s.gs.length G,.slice none s.es.length 0,.slice j (n+1) c3,.slice l n m,.int .i64 s.bt,.slice q (n+1) r,.slice u s.aF.length v]/\tK W n s F G none 0 j c3 l m q r u v/\uW W (λ b=>b=t) s F G none 0 j c3 l m q r u v/\s.gs=ls.take k/\Below w.heap.size w W) (λ i _ _=>nl-(intOf i).toNat)
 case atStart=>exact⟨0,sL n,none,0,none,0,rfl,t_ _,rfl,ae.o.2.1,ae.o.1,ae.o.2.2.1,rfl,ae.o.2.2.2⟩
 case round=>
  obtain⟨k,s,F,G,u,v,rfl,hk,rfl,af,C,aD,X,Y⟩:=hrel;have y:=af.cell;have bs:=y 0;have aW:=y 1;have aX:=y 2;have bu:=y 3;have bw:=y 4;have bx:=y 5;have bA:=y 6;have aY:=y 7;simp only[x_,w_] at bs aW aX bu bw bx bA aY;have d:=U (z_ af (z_ C (z_ aD (z_ X Y))));obtain⟨bM,ag⟩:∃x,s.gs.length=x:=⟨_,rfl⟩
  obtain⟨bN,ah⟩:∃x,s.es.length=x:=⟨_,rfl⟩
  obtain⟨bO,ai⟩:∃x,s.aF.length=x:=⟨_,rfl⟩
  by_cases Z:k<nl
  ·have bB:(k:Int)<(nl:Int):=by omega
   obtain⟨b,off,rfl,E,aZ⟩:=H.o.cells (by omega);obtain⟨a1,bP,c1,a6,a7⟩:=aZ k Z;have bQ:=(Y.cell (p:=⟨b,off+k,none⟩) E).trans a6;have aj:k<ls.length:=by rw[I.o.1];exact Z
   have bC:=I.o.2.1;have bD:s.gs.length=k:=by rw[X,List.length_take];omega
   have bE:=C.pl;have ak:=O0 C.O av C.aN (a7.below Y) (by rw[tM aj];exact I.o.2.2.1 _ (List.getElem_mem aj)) (by omega) (by omega) C.ux C.z6 C.pp C.Et;unfold rL at ak;rw[ag,ah,ai] at ak;rw[ag] at aW;rw[ah] at aX;rw[ai] at aY;have bF:=U ak;have al:=U (z_ aj Z);have bR:j_.wrap ((k:Int)+1)=(k:Int)+1:=by rw[o_];omega
   clear ak aZ a6 a7 aj Z hk bD bE E y af C aD X Y ag ah ai bC
   go_upto_region 12 with(go_at_call 46;refine bF.o.mono ?_;intro e aE a8;obtain⟨s',an,ao,aq,ar,rfl,a',ba,aH,bb⟩:=d.o.2.1.add a8;have aa:=U (z_ a' (z_ ba (z_ aH bb)));have aI:=d.o.1.below aH;have z:=aI.cell;have z0:=z 0;have bc:=z 1;have z2:=z 2;have z3:=z 3;have z4:=z 4;have z5:=z 5;have bd:=z 6;have bg:=z 7;have g:=aI.free;have g0:=g 0;have g1:=g 1;have g2:=g 2;have g3:=g 3;have g4:=g 4;have g5:=g 5;have g6:=g 6;have g7:=g 7;simp only[x_,w_] at z0 bc z2 z3 z4 z5 bd bg;clear z g aI a' ba aH bb a8)
   have bh:=aT.Ch (show aT aE t 47 [.int .i64 n,.slice F s.gs.length G,.slice none s.es.length 0,.slice j (n+1) c3,.slice l n m,.int .i64 s.bt,.slice q (n+1) r,.slice u s.aF.length v] from d.o.1.below aa.o.2.2.1) (.int .i64 n) (.slice an s'.gs.length ao) (.slice none s'.es.length 0) (.slice j (n+1) c3) (.slice l n m) (.int .i64 s'.bt) (.slice q (n+1) r) (.slice aq s'.aF.length ar);have f8:=aG.eight (W:=aE) (B:=t) (.int .i64 n) (.slice an s'.gs.length ao) (.slice none s'.es.length 0) (.slice j (n+1) c3) (.slice l n m) (.int .i64 s'.bt) (.slice q (n+1) r) (.slice aq s'.aF.length ar);generalize (((((((aE.setCell ⟨t,0,none⟩ (.int .i64 n)).setCell ⟨t,1,none⟩ (.slice an s'.gs.length ao)).setCell ⟨t,2,none⟩ (.slice none s'.es.length 0)).setCell ⟨t,3,none⟩ (.slice j (n+1) c3)).setCell ⟨t,4,none⟩ (.slice l n m)).setCell ⟨t,5,none⟩ (.int .i64 s'.bt)).setCell ⟨t,6,none⟩ (.slice q (n+1) r)).setCell ⟨t,7,none⟩ (.slice aq s'.aF.length ar)=bS at*;clear z0 bc z2 z3 z4 z5 bd bg g0 g1 g2 g3 g4 g5 g6 g7;have bj:=(aa.o.2.2.2 (λ b=>b=t) (λ b e=>e▸d.o.1.lt) d.o.2.2.1).set f8;have au:=U (z_ bh (z_ f8 bj));clear bh f8 bj
   go_wp2_with fail
   go_roundw
   case rel=>
    refine⟨k+1,s',an,ao,aq,ar,by go_num,by have:=al.o.2;omega,rfl,au.o.1,aa.o.1.tE (au.o.2.2 _ aG.refl),au.o.2.2,?_,?_⟩
    ·rw[aa.o.2.1,d.o.2.2.2.1,tM al.o.1,k_ al.o.1]
    ·have f8:=au.o.2.1;exact d.o.2.2.2.2.trans ((aa.o.2.2.1.mono d.o.2.2.2.2.size).trans ⟨f8.os,f8.tape,f8.output,f8.size,λ b E=>f8.keep b (by have:=br.o;omega)⟩)
   case measure=>have:=al.o.2;simp[intOf];omega
  ·have bB:¬(k:Int)<(nl:Int):=by omega
   have bG:k=nl:=by omega
   have bk:s.gs=ls:=by rw[X,m_ (by rw[I.o.1];omega)]
   have aJ:=U bk;clear X bk af C aD Y ag ah ai y bG Z hk
   go_wp2_with fail
   go_ret2
   have aK:=bz wr (.cells #[.int .i64 n,.slice F s.gs.length G,.slice none s.es.length 0,.slice j (n+1) c3,.slice l n m,.int .i64 s.bt,.slice q (n+1) r,.slice u s.aF.length v,.int .i64 D,.int .i64 0] 155);refine⟨wr.heap.size,s,F,G,none,0,j,c3,l,m,q,r,u,v,rfl,⟨aT.new wr 155 [.int .i64 n,.slice F s.gs.length G,.slice none s.es.length 0,.slice j (n+1) c3,.slice l n m,.int .i64 s.bt,.slice q (n+1) r,.slice u s.aF.length v,.int .i64 D,.int .i64 0],rfl,λ b E=>(by subst E;simp),λ W' f=>d.o.2.1.aN.below (aK.trans ⟨f.os,f.tape,f.output,f.size,λ b E=>f.keep b ⟨by have:=aK.size;omega,by omega⟩⟩),d.o.2.1.O,av,t_ _,by have:=I.o.2.2.2;omega,by rw[aJ.o];exact I.o.2.1,?_,by rw[d.o.2.1.jv];rfl,d.o.2.1.ux,λ h=>d.o.2.1.pp.resolve_left h⟩,aJ.o,d.o.2.2.2.2.size,d.o.2.2.2.2.trans (aK.mono d.o.2.2.2.2.size)⟩;have h1:=d.o.2.1.pl;have aw:=I.o.2.1;rw[aJ.o] at h1;omega
end
section
open Go.Shelf
def Tryz.Pm:Go.Shelf.Ren:=⟨λ|45=>80|n=>n,λ|22=>25|23=>3|3=>3|4=>4|0=>0|n=>n,λ|n=>n⟩
theorem Tryz.Pn:Go.Proofs.SlLaysE.n45 u_ Tryz.Pm:={
 mixed:=by kernel_rfl
 f45:=⟨Tryz.f80.name,by decide,Tryz.func80.trans (congrArg some (by kernel_rfl))⟩
 t0:=Tryz.underlying0
 a0:=Tryz.isAgg0
 z0:=Tryz.sizeOf0
 v0:=Tryz.zeroValue0
 t3:=Tryz.underlying3
 a3:=Tryz.isAgg3
 z3:=Tryz.sizeOf3
 v3:=Tryz.zeroValue3
 t4:=Tryz.underlying4
 a4:=Tryz.isAgg4
 z4:=Tryz.sizeOf4
 v4:=Tryz.zeroValue4
 t22:=Tryz.underlying25
 a22:=Tryz.isAgg25
 z22:=Tryz.sizeOf25
 v22:=Tryz.zeroValue25
 a23:=Tryz.isAgg3
 z23:=Tryz.sizeOf3}
open Go.RowKit Go.Sort Go.Lib
theorem Po(w:World)(base g n cap:Nat)(b:List Int)(h:Own w base g n cap b)(d:base<=g)(i:Nat)(t:i<n):
  Calls u_ 80 #[.slice (some ⟨g,0,none⟩) n cap,.int .i64 i,.int .i64 ((i:Int)+1)] w λ e w'=>
   e=.returned (.slice (some ⟨g,0,none⟩) (n-1) cap)/\w'.ownsRow base 3 1 (.slice (some ⟨g,0,none⟩) (n-1) cap) (n-1) ((b.eraseIdx i).map (Value.int .i64))/\Below base w w':=by
 have h':w.ownsRow base 3 1 (.slice (some ⟨g,0,none⟩) n cap) n (b.map oL):=h;obtain⟨u,v,he,h1,y,z,f,j,l⟩:=holds_of_ownsRow h' (by intro e;cases e)
 cases he
 have m:cap<=9223372036854775807:=by unfold maxLen at f;omega
 have o:b.toArray.size=n:=by simp[j]
 obtain⟨i0,p,A,r,B⟩:=info_parts xw;have c:=AnyE.slices_Delete Tryz.Pn oL yW 0 Tryz.zeroValue3 i0 p r g 0 cap i (i+1) b.toArray w l (by omega) m (by omega) (by omega);rw[o] at c;have s:i+1-i=1:=by omega
 rw[s] at c;refine Calls.mono c ?_;rintro e w' ⟨rfl,q,rfl⟩;refine⟨rfl,?_,below_putRow (p_ _ _) d⟩;have hl:(b.take i++b.drop (i+1)).length=n-1:=by rw[r_,List.length_take,List.length_drop];omega
 have:=ownsRow_putRow (q:=q) (k:=n-1) (ys:=(b.take i++b.drop (i+1))++List.replicate 1 0) h' (by rw[r_,hl];simp;omega) (by omega);rw[List.take_left' hl] at this;rw[List.eraseIdx_eq_take_drop_succ];exact this
end
section
open Go.RowKit Go.Shelf Go.Sort Go.Lib
theorem Pp(w:World)(ty:TypeId)(n:Nat)(b:0<n)(r:n<=1000000):
  ∃v' w',(Builtin.append_ #[25,3] ty #[.slice none 0 0,.int .i64 n]).run u_ w=.ok v' w'/\(∃c,v'=.slice (some ⟨w.heap.size,0,none⟩) n c/\n<=c/\w'.ownsRow w.heap.size 3 1 (.slice (some ⟨w.heap.size,0,none⟩) 0 c) 0 [])/\Below w.heap.size w w':=by
 obtain⟨i0,d,e,f,g⟩:=info_parts xw;have i:n≠0:=by omega
 have j:=grownCap_ge w n 0 3;have k:grownCap w n 0 3<=maxLen:=grownCap_le_maxLen w n 0 3 (by unfold maxLen;omega);have l:¬(9223372036854775807<(n:Int)):=by omega
 have m:¬(281474976710656<Builtin.nextslicecap n 0*8):=by rw[nextslicecap_zero b];omega
 have wn:j_.wrap (n:Int)=(n:Int):=by rw[o_];omega
 have o:¬(n:Int)<0:=by omega
 have p:¬(281474976710656<(n:Int)*8):=by omega
 have hle:¬(n:Int)<=0:=by omega
 have q:¬(9223372036854775807<max (n:Int) 0):=by omega
 refine⟨.slice (some ⟨w.heap.size,0,none⟩) n (grownCap w n 0 3),w.drew.alloc (.cells (Zz #[.int .i64 0] n++Zz #[.int .i64 0] (grownCap w n 0 3-n)) 3),?_,⟨_,rfl,j,?_⟩,(p_ _ _).drew.trans (bz w.drew _)⟩
 ·simp[Builtin.append_,run_underlying Tryz.underlying25,run_underlying Tryz.underlying3,sizeOf,typeInfo,zeroValue,d,e,f,g,Builtin.lenOf,Builtin.firstCells,i,l,m,Question.forced,newRow,grownCap,asInt,asIntOf,wn,o,p,hle,q];rfl
 ·refine⟨rfl,.inr ⟨w.heap.size,_,_,rfl,n_ _,heap_alloc_new w.drew _,t_ _,k,?_,by simp⟩⟩;simp only[Array.size_append,size_zeroCells];show n*1+(grownCap w n 0 3-n)*1=_;omega
theorem Pq{rest:List Oper}{o:Oper}(b:o.guard=none)(s x:Operand)
  (d:o.op=.call {callee:=.builtin .append,args:= #[s,x],argTypes:= #[25,3]}) (n:Nat) (hs:a.eval s=.slice none 0 0) (e:a.eval x=.int .i64 n) (f:0<n) (g:n<=1000000)
  (h:∀c w',n<=c->w'.ownsRow w.heap.size 3 1 (.slice (some ⟨w.heap.size,0,none⟩) 0 c) 0 []->Below w.heap.size w w'->wpList u_ ops Q rest (a.put o.dst (.slice (some ⟨w.heap.size,0,none⟩) n c)) w'):
  wpList u_ ops Q (o::rest) a w:=by
 obtain⟨v',w',h1,⟨c,rfl,i,j⟩,k⟩:=Pp w o.type n f g;refine wpList_plain b λ K l=>?_
 unfold Oper.wp;simp only[execOp,d,resolve,invoke,builtin,Sem.run_bind,Sem.run_pure,Result.andThen_ok,f_,d_,a_,hs,e,h1];exact l _ _ (h c w' i j k)
theorem Pr(n:Nat)(g:n<=1000000)(w:World):Calls u_ 143 #[.slice none 0 0,.int .i64 n] w λ e w'=>∃A c,e=.returned (.slice A 0 c)/\w'.ownsRow w.heap.size 3 1 (.slice A 0 c) 0 []/\Below w.heap.size w w':=by
 have h1:¬(n:Int)<0:=by omega
 have wn:j_.wrap (n:Int)=(n:Int):=by rw[o_];omega
 have k:wrap64 (n:Int)=(n:Int):=by unfold wrap64;omega
 by_cases i:0<n
 ·have j:(0:Int)<(n:Int):=by omega
  go_enter Tryz.func143,Tryz.ntmps143
  go_wp2_with (at_builtin;refine Pq rfl (.tmp 20) (.tmp 21) rfl n rfl rfl i g ?_;intro c w' l b d;have f:=U (z_ b d);clear b d)
  go_ret;exact⟨_,_,rfl,f.o.1,f.o.2⟩
 ·have j:¬(0:Int)<(n:Int):=by omega
  obtain rfl:n=0:=by omega
  go_enter Tryz.func143,Tryz.ntmps143
  go_wp2;go_ret;exact⟨none,0,rfl,World.ownsRow_nil _ _ _ _,p_ _ _⟩
theorem Eu(b:i<ls.length):(ls.take (i+1)).flatten=(ls.take i).flatten++n5 ls i:=by
 rw[tM b,k_ b,List.flatten_append];simp
theorem It(i:Nat):(ls.take i).flatten.length<=ls.flatten.length:=by
 have h:ls.flatten=(ls.take i).flatten++(ls.drop i).flatten:=by rw[<-List.flatten_append,List.take_append_drop]
 rw[h,r_];omega
theorem Pt(A:Option Addr)(nl cl:Nat)(ls:List (List Int))(w:World)(h:ku w A nl cl ls)(t:List Int)(E:ls.flatten=t)(hlen:t.length<=1000000):
  Calls u_ 87 #[.slice A nl cl] w λ e w'=>∃p c2,e=.returned (.slice p t.length c2)/\w'.ownsRow w.heap.size 3 1 (.slice p t.length c2) t.length (t.map (Value.int .i64))/\Below w.heap.size w w':=by
 have aa:=h.small;have H:=U h;rw[<-E] at hlen;have u:=U (z_ h.len hlen);have J:=U E;clear h hlen E;go_enter Tryz.func87,Tryz.ntmps87
 go_wp2
 go_loop [11,3] (λ i q=>∃k:Nat,k<=nl/\i=.int .i64 k/\q=.int .i64 ((ls.take k).flatten.length:Nat)) (λ i _=>nl-(intOf i).toNat)
 case atStart=>exact⟨0,t_ _,rfl,rfl⟩
 case round=>
  obtain⟨k,hk,rfl,rfl⟩:=hrel
  by_cases d:k<nl
  ·obtain⟨b,off,rfl,l,z⟩:=H.o.cells (by omega);obtain⟨a1,f,c1,R,y⟩:=z k d;have K:k<ls.length:=by rw[u.o.1];exact d
   have F:(k:Int)<(nl:Int):=by omega
   have c:(ls.take (k+1)).flatten.length=(ls.take k).flatten.length+f:=by rw[Eu K,r_,y.len]
   have hle:=It (ls:=ls) (k+1);have r:=u.o.2;obtain⟨m,hm⟩:∃m,(ls.take k).flatten.length=m:=⟨_,rfl⟩
   rw[hm] at c⊢;have S:=U c;have n:=U d;have ab:¬(m:Int)+(f:Int)<0:=by omega
   have wn:j_.wrap ((m:Int)+(f:Int))=(m:Int)+(f:Int):=by rw[o_];omega
   have ad:wrap64 ((m:Int)+(f:Int))=(m:Int)+(f:Int):=by unfold wrap64;omega
   clear z l y K d hk c hle r hm;go_wp2
   go_round
   case rel=>exact⟨k+1,by have:=n.o;omega,by go_num,by rw[S.o];go_num⟩
   case measure=>have:=n.o;simp[intOf];omega
  ·have F:¬(k:Int)<(nl:Int):=by omega
   have c:(ls.take k).flatten=ls.flatten:=by rw[m_ (by rw[u.o.1];omega)]
   have r:=u.o.2;rw[c];obtain⟨m,hm⟩:∃m,ls.flatten.length=m:=⟨_,rfl⟩
   rw[hm] at r⊢;have T:=U (Pr m r);have ae:=U hm;clear c hm d hk r
   go_wp2_with (go_at_call 143;refine(T.o _).mono ?_;rintro e w1 ⟨V,c1,rfl,B,l⟩;have L:=U (z_ B l);clear B l)
   go_loopw [27,6] (λ i q W=>∃(j:Nat)(p:Option Addr)(c2:Nat),j<=nl/\i=.int .i64 j/\q=.slice p (ls.take j).flatten.length c2/\W.ownsRow w.heap.size 3 1 (.slice p (ls.take j).flatten.length c2) (ls.take j).flatten.length ((ls.take j).flatten.map (Value.int .i64))/\Below w.heap.size w W) (λ i _ _=>nl-(intOf i).toNat)
   case atStart=>exact⟨0,V,c1,t_ _,rfl,rfl,L.o.1,L.o.2⟩
   case round=>
    obtain⟨j,p,c2,M,rfl,rfl,B,l⟩:=hrel;have s:=U (z_ B l);clear B l
    by_cases d:j<nl
    ·obtain⟨b,off,rfl,l,z⟩:=(H.o.below s.o.2).cells (by omega);obtain⟨a1,f,X,R,y⟩:=z j d;have G:j<ls.length:=by rw[u.o.1];exact d
     have F:(j:Int)<(nl:Int):=by omega
     have c:(ls.take (j+1)).flatten.length=(ls.take j).flatten.length+f:=by rw[Eu G,r_,y.len]
     have hle:=It (ls:=ls) (j+1);have r:=u.o.2;have n:=U (z_ d (z_ G (z_ c (z_ y (z_ hle r)))));obtain⟨q,v⟩:∃q,(ls.take j).flatten.length=q:=⟨_,rfl⟩
     rw[v];have D:=U v;clear z l y G d M c hle r v
     go_wp2_with (at_builtin;refine qS rfl (.tmp 31) (.tmp 32) rfl w.heap.size (.slice p q c2) q (ls.take j).flatten rfl (by rw[<-D.o];exact s.o.1) a1 f X _ rfl n.o.2.2.2.1 (by have:=n.o;have:=D.o;omega) s.o.2.size ?_;intro v9 bM I;obtain⟨⟨N,jU,O⟩,Y,C⟩:=ax.kW I.1;obtain rfl:v9=.slice N jU O:=Y;have P:=U I;have Z:=U C;clear I C)
     go_roundw
     case rel=>
      have C:jU=q+f:=Z.o;have c:=n.o.2.2.1;rw[D.o] at c;refine⟨j+1,N,O,by have:=n.o;omega,by go_num,by rw[c,C],?_,?_⟩
      ·rw[c,Eu n.o.2.1];have h1:=P.o.1;rw[C] at h1;exact h1
      ·exact s5 s.o.2 P.o.2.1 s.o.2.size (λ g e=>(s.o.1.lt g (by rw[D.o];exact e)).1)
     case measure=>have:=n.o;simp[intOf];omega
    ·have F:¬(j:Int)<(nl:Int):=by omega
     have c:(ls.take j).flatten=ls.flatten:=by rw[m_ (by rw[u.o.1];omega)]
     have h1:=s.o;rw[c,J.o] at h1;rw[c,J.o];obtain⟨q,v⟩:∃q,t.length=q:=⟨_,rfl⟩
     rw[v] at h1⊢;have H1:=U h1;have Q:=U v;clear c d M h1 v s;go_wp2;go_ret;exact⟨p,c2,by rw[Q.o];rfl,by rw[Q.o];exact H1.o.1,H1.o.2⟩
end
end Go.Proofs.YtogdlkfacflmaaaGreat
