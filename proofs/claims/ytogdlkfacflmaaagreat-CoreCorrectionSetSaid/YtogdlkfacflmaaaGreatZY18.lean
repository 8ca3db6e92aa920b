/- Parts of the walk of the solver and its core; no condition. -/
import Derived.Test.YtogdlkfacflmaaaGreatZY15
import Derived.Test.YtogdlkfacflmaaaGreatZY17
import Derived.Test.YtogdlkfacflmaaaGreatZY13
import Derived.Test.YtogdlkfacflmaaaGreatZY16
import Derived.Shelf.SlicesE.Delete
import Derived.Test.YtogdlkfacflmaaaGreatZY1
import Derived.Test.YtogdlkfacflmaaaGreatZY14
namespace Go.Proofs.YtogdlkfacflmaaaGreat
set_option linter.unusedVariables false
set_option linter.unusedSimpArgs false
set_option maxRecDepth 100000
set_option maxHeartbeats 8000000
open _root_.And renaming intro→z_
open _root_.Or renaming inl→y_
open _root_.List renaming getElem?_cons_zero→x_,getElem?_cons_succ→w_,length_append→r_,take_of_length_le→m_,take_succ_eq_append_getElem→k_,map_toArray→f_,map_cons→d_,map_nil→a_
open _root_.Array renaming getD_eq_getD_getElem?→v_,replicate→s_,all_eq_true_iff_forall_mem→l_,getElem?_eq_getElem→h_,mem_of_getElem?→e_
open _root_.Go.Proofs.Tryz renaming prog→u_
open _root_.Nat renaming zero_le→t_,le_trans→q_,le_refl→n_
open _root_.Go.RowKit.Below renaming refl→p_
open _root_.Go.IntKind renaming wrap_i64→o_,i64→j_
open _root_.Go.Region renaming wanted→i_,binds→c_,ready→b_
open _root_.Bool renaming and_eq_true→g_
open _root_.Go.Builtin renaming zeroCells→Zz
variable{ws:List (List Nat)}{iA:World->Prop}{G:Nat->Nat×Nat->(Nat->Value)->World->Prop}{bR:Nat->Nat×Nat}{vals:Nat->Value}{i n aS B cl c c' gM bI:Nat}{w w' W:World}{v:Value}{ops:Array Oper}{Q:Exit->Act->World->Prop}{a:Act}{bw jc A A' hM bA:Option Addr}{bg:Nat->Prop}{s:lp}{ls:List (List Int)}
section
open Go.RowKit
def EG(p q:Nat×Nat):Prop:=p.2<=q.1\/q.2<=p.1
def zF(L:Nat->Bool)(b:Nat->Nat×Nat)(w:World):Prop:=(∀j,L j=true->(b j).1<=(b j).2/\(b j).2<=w.heap.size)/\∀j k,j≠k->L j=true->L k=true->EG (b j) (b k)
def zG(b:Nat->Nat×Nat)(i:Nat)(p:Nat×Nat):Nat->Nat×Nat:=λ j=>if j=i then p else b j
def AW(ws:List (List Nat))(iA:World->Prop)(G:Nat->Nat×Nat->(Nat->Value)->World->Prop)(b:Nat->Nat×Nat)(vals:Nat->Value)(i:Nat)(w:World)(v:Value)(w':World):Prop:=
 iA w'/\w.heap.size<=w'.heap.size/\G i (w.heap.size,w'.heap.size) (kH vals i v) w'/\∀j,j≠i->nT ws 8 j i=false->(b j).2<=w.heap.size->(∀k,q8 ws i k=true->k≠j->EG (b j) (b k))->G j (b j) vals w->G j (b j) vals w'
theorem AW.same(b:iA w)(h:G i (w.heap.size,w.heap.size) (kH vals i v) w):AW ws iA G bR vals i w v w:=⟨b,n_ _,h,λ _ _ _ _ _ h=>h⟩
theorem AW.more(hm:∀j p u w w',Below w.heap.size w w'->p.2<=w.heap.size->G j p u w->G j p u w')(b:Below w.heap.size w w')(c:iA w')(h:G i (w.heap.size,w'.heap.size) (kH vals i v) w'):AW ws iA G bR vals i w v w':=⟨c,b.size,h,λ j _ _ hp _ h=>hm j _ _ w w' b hp h⟩
def yA(P:Program)(ds:List (Option Tmp))(ws:List (List Nat))(old:List (Tmp×Value))(iA:World->Prop)(G:Nat->Nat×Nat->(Nat->Value)->World->Prop)(i:Nat)(o:Oper):Prop:=
 ∀(vals:Nat->Value)(b:Nat->Nat×Nat)(w:World)(c:Operand->Value),iA w->q7 ds (λ j _=>G j (b j) vals) (λ _=>none) i vals w c o.after.toList->oB ds ws i c old->oC c->((∀j,q8 ws i j=true->(b j).1<=(b j).2/\(b j).2<=w.heap.size)/\∀j k,j≠k->q8 ws i j=true->q8 ws i k=true->EG (b j) (b k))->
  bh P c o w (AW ws iA G b vals i w)
def zH(ws:List (List Nat))(G:Nat->Nat×Nat->(Nat->Value)->World->Prop):Prop:=∀i p vals qd w,(∀k,k=i\/nT ws 8 i k=true->vals k=qd k)->G i p vals w->G i p qd w
def vK(P:Program)(ds:List (Option Tmp))(ws:List (List Nat))(old:List (Tmp×Value))(iA:World->Prop)(G:Nat->Nat×Nat->(Nat->Value)->World->Prop):Nat->List Oper->Prop
 |_,[]=>True
 |k,o::r=>yA P ds ws old iA G k o/\vK P ds ws old iA G (k+1) r
theorem vK.at{P:Program}{ds:List (Option Tmp)}{ws:List (List Nat)}{old:List (Tmp×Value)}{iA:World->Prop}{G:Nat->Nat×Nat->(Nat->Value)->World->Prop}:∀{l:List Oper}{k i:Nat}{o:Oper},vK P ds ws old iA G k l->l[i]? =some o->yA P ds ws old iA G (k+i) o
 |[],k,i,o,_,h=>by simp at h
 |x::l,k,0,o,hs,h=>by
  simp only[x_,Option.some.injEq] at h;subst h;exact hs.1
 |x::l,k,i+1,o,hs,h=>by
  rw[w_] at h;have:=vK.at hs.2 h
  rwa[show k+1+i=k+(i+1) by omega] at this
section
variable {P:Program}{l:List Oper}{Q:Exit->Act->World->Prop}{a:Act}{old:List (Tmp×Value)}{iA:World->Prop}{G:Nat->Nat×Nat->(Nat->Value)->World->Prop}
theorem Py{ds:List (Option Tmp)}{ws:List (List Nat)}(N:ws=l.map λ o:Oper=>(o.after.toList.filter (c_ .any)).map (·.on))(O:ds=l.map λ o:Oper=>o.dst)(R:rN l.toArray=true)(D:pT l.toArray=true)(Y:rO l.toArray a.tmps.size=true)
  (hold:mV a.eval old) (Z:zH ws G)
  {i:Nat} {o:Oper} (m:l.toArray[i]? =some o) (S:yA P ds ws old iA G i o) {listed:Array Bool} {vals:Nat->Value} {bR:Nat->Nat×Nat} {w:World} {K:Act->World->Prop} (ay:listed.size=l.toArray.size) (aa:iA w) (hF:uy (λ j _=>G j (bR j) vals) (λ _=>none) (gQ listed) vals w) (d:zF (gQ listed) bR w)
  (ab:i∈b_ .any l.toArray listed) (hC:q9 ws (gQ listed))
  (ad:∀v w',iA w'->q9 ws (gQ (listed.setIfInBounds i true))->uy (λ j _=>G j (zG bR i (w.heap.size,w'.heap.size) j) (kH vals i v)) (λ _=>none) (gQ (listed.setIfInBounds i true)) (kH vals i v) w'->zF (gQ (listed.setIfInBounds i true)) (zG bR i (w.heap.size,w'.heap.size)) w'->K (jM l.toArray (kH vals i v) (gQ (listed.setIfInBounds i true)) a l.toArray.size) w'):
  wpOp P l.toArray Q i K (jM l.toArray vals (gQ listed) a l.toArray.size) w:=by
 obtain⟨h1,T,ae,U,E⟩:=uA ab;obtain rfl:o=ae:=by rw[m] at U;injection U
 have n:i<listed.size:=by omega
 have t:gQ listed i=false:=by
  unfold gQ;rw[v_,h_ n] at T⊢;simpa using T
 have A:∀j,q8 ws i j=true->gQ listed j=true:=λ j b=>by
  obtain⟨af,f,e,he,u,F⟩:=x5 N b;rw[m] at f;injection f with f
  subst f;have:=E e he u;rw[F] at this;exact this
 unfold wpOp;simp only[m];have ag:o.guard=none:=by
  unfold pT at D;rw[l_] at D;have:=D o (e_ m);simpa using this
 have hw:i_ o (yielded l.toArray (jM l.toArray vals (gQ listed) a l.toArray.size).tmps)=true:=by unfold i_;rw[ag]
 rw[if_pos hw];left;unfold yA at S;have ah:=S vals bR w (jM l.toArray vals (gQ listed) a l.toArray.size).eval aa (q7.of λ e he u=>by
  have hl:=E e (Array.mem_toList_iff.1 he) u;have ai:e.on<l.toArray.size:=by
   rcases Nat.lt_or_ge e.on listed.size with h|h
   ·omega
   ·rw[v_,Array.getElem?_eq_none h] at hl;cases hl
  refine⟨λ y=>hF e.on hl λ c g=>?_,λ s hs=>?_⟩
  ·rcases y with y|y
   ·rw[y] at g;cases g
   ·rw[y] at g;injection g with g
    rw[<-g];exact t
  ·rw[O,<-w8] at hs;exact yS hs (Bv Y hs) hl (λ k hk=>w5 R hk hs) _ ai) (oB.of (λ s hs=>yR (λ j s' hl b H=>by
   injection H with H
   subst H;rw[w8,<-O] at b;have:=hC j i hl (Bu hs b);rw[t] at this;cases this) _) hold) (oC.act _) ⟨λ j w1=>d.1 j (A j w1),λ j k p w1 aj=>d.2 j k p (A j w1) (A k aj)⟩
 refine ah.wp λ v w' ⟨ak,V,al,an⟩=>?_
 have ao:(jM l.toArray vals (gQ listed) a l.toArray.size).put o.dst v=jM l.toArray (kH vals i v) (gQ (listed.setIfInBounds i true)) a l.toArray.size:=by
  rw[oP n];have aq:oA l.toArray i=o.dst:=by unfold oA;rw[m];rfl
  have:=zY (ops:=l.toArray) (vals:=vals) (L:=gQ listed) (a:=a) (i:=i) (v:=v) (λ j b s hs=>w5 R b hs) t l.toArray.size h1;rw[aq] at this;exact this
 rw[ao];have ar:q9 ws (gQ (listed.setIfInBounds i true)):=by
  rw[oP n];intro j k b W;unfold lR at b⊢
  by_cases e:k=i
  ·rw[if_pos e]
  ·rw[if_neg e]
   by_cases X:j=i
   ·subst X;obtain⟨af,f,au,av,u,F⟩:=x5 N W;rw[m] at f;injection f with f
    subst f;have:=E au av u;rw[F] at this;exact this
   ·rw[if_neg X] at b;exact hC j k b W
 have q:∀j,j≠i->zG bR i (w.heap.size,w'.heap.size) j=bR j:=λ j b=>by unfold zG;rw[if_neg b]
 have B:zG bR i (w.heap.size,w'.heap.size) i=(w.heap.size,w'.heap.size):=by unfold zG;rw[if_pos rfl]
 refine ad v w' ak ar (λ j b az=>?_) ⟨λ j b=>?_,λ j k p C z=>?_⟩
 ·rw[oP n] at b
  by_cases e:j=i
  ·subst e;rw[B];exact al
  ·have I:lR (gQ listed) i j=gQ listed j:=by unfold lR;rw[if_neg e]
   rw[q j e];rw[I] at b;refine Z j _ vals _ w' (λ k hk=>?_) (an j e ?_ (d.1 j b).2 (λ k hk p=>d.2 j k (λ x=>p x.symm) b (A k hk)) (hF j b λ c g=>by cases g))
   ·have aw:k≠i:=by
     rcases hk with rfl|hk
     ·exact e
     ·intro J;subst J;have:=hC.reach 8 j k b hk;rw[t] at this;cases this
    unfold kH;rw[if_neg aw]
   cases ax:nT ws 8 j i with
   |false=>rfl
   |true=>
    have:=hC.reach 8 j i b ax;rw[t] at this;cases this
 ·rw[oP n] at b
  by_cases e:j=i
  ·subst e;rw[B];exact⟨V,n_ _⟩
  ·have I:lR (gQ listed) i j=gQ listed j:=by unfold lR;rw[if_neg e]
   rw[I] at b;rw[q j e];exact⟨(d.1 j b).1,q_ (d.1 j b).2 V⟩
 ·rw[oP n] at C z
  by_cases e:j=i
  ·subst e;have r:¬k=j:=λ e=>p e.symm
   have M:lR (gQ listed) j k=gQ listed k:=by unfold lR;rw[if_neg r]
   rw[M] at z;rw[B,q k r];exact .inr (d.1 k z).2
  ·have M:lR (gQ listed) i j=gQ listed j:=by unfold lR;rw[if_neg e]
   rw[M] at C
   by_cases r:k=i
   ·subst r;rw[B,q j e];exact .inl (d.1 j C).2
   ·have J:lR (gQ listed) i k=gQ listed k:=by unfold lR;rw[if_neg r]
    rw[J] at z;rw[q j e,q k r];exact d.2 j k p C z
theorem Pz{ds:List (Option Tmp)}{ws:List (List Nat)}(J:ws=l.map λ o:Oper=>(o.after.toList.filter (c_ .any)).map (·.on))(K:ds=l.map λ o:Oper=>o.dst)(n:Nat)(hlen:l.length=n+1)(L:rN l.toArray=true)(t:pT l.toArray=true)(M:rO l.toArray a.tmps.size=true)(N:tN l.toArray=true)(u:vX l n=true)(hold:mV a.eval old)(O:zH ws G)
  (R:vK P ds ws old iA G 0 (l.take n))
  (S:∀o vals d w,l[n]? =some o->iA w->(∀j,j<n->G j (d j) vals w)->zF (mD n) d w->bh P (jM l.toArray vals (mD n) a n).eval o w λ v w'=>Q .normal ((jM l.toArray vals (mD n) a n).put o.dst v) w'):
  ∀(fuel:Nat)(listed:Array Bool)(vals:Nat->Value)(d:Nat->Nat×Nat)(w:World),listed.size=l.toArray.size->oD l.toArray listed<=fuel->0<oD l.toArray listed->gQ listed n=false->q9 ws (gQ listed)->iA w->uy (λ j _=>G j (d j) vals) (λ _=>none) (gQ listed) vals w->zF (gQ listed) d w->
   wpAny P .any l.toArray Q fuel listed (jM l.toArray vals (gQ listed) a l.toArray.size) w:=by
 intro fuel
 induction fuel with
 |zero=>intro listed vals d w q T U;omega
 |succ fuel V=>
  intro listed vals d w q T U C hC D hF y;refine⟨λ h=>by have:=Bx N q h;omega,λ i E=>?_⟩;obtain⟨h1,W,o,s,X⟩:=uA E;have F:i<listed.size:=by omega
  have ao:i<l.length:=by simpa using h1
  have z:l[i]? =some o:=by rw[List.getElem?_toArray] at s;exact s
  by_cases H:i=n
  ·subst H;have f:∀j,j<i->gQ listed j=true:=λ j g=>by
    unfold vX at u;rw[z] at u;simp only[List.all_eq_true,List.mem_range] at u;have b:=u j g;rw[Array.any_eq_true'] at b;obtain⟨e,he,A⟩:=b;simp only[g_,beq_iff_eq] at A;have:=X e he A.1;rw[A.2] at this;exact this
   have Y:jM l.toArray vals (gQ listed) a l.toArray.size=jM l.toArray vals (mD i) a i:=by
    have Z:l.toArray.size=i+1:=by simp[hlen]
    rw[Z];simp only[jM];rw[C];simp only[Bool.false_eq_true,if_false];exact z7 i λ j g=>by rw[f j g];unfold mD;simp[g]
   rw[Y];unfold wpOp;simp only[s];have aa:o.guard=none:=by
    unfold pT at t;rw[l_] at t;have:=t o (e_ s);simpa using this
   have hw:i_ o (yielded l.toArray (jM l.toArray vals (mD i) a i).tmps)=true:=by unfold i_;rw[aa]
   rw[if_pos hw];left;refine(S o vals d w z D (λ j g=>hF j (f j g) λ c ab=>by cases ab) ⟨λ j B=>y.1 j (f j (by simpa[mD] using B)),λ j k ad B ae=>y.2 j k ad (f j (by simpa[mD] using B)) (f k (by simpa[mD] using ae))⟩).wp λ v w' af=>?_
   refine wpAny_done ?_ af _;rcases ag:b_ .any l.toArray (listed.setIfInBounds i true) with _|⟨k,r⟩
   ·rfl
   ·have hk:k∈b_ .any l.toArray (listed.setIfInBounds i true):=by rw[ag];simp
    obtain⟨b,m,_⟩:=uA hk;exfalso;have aq:k<i+1:=by simpa[hlen] using b
    by_cases e:k=i
    ·subst e;rw[v_,Array.getElem?_setIfInBounds_self_of_lt F] at m
     cases m
    ·have p:=f k (by omega);rw[v_,Array.getElem?_setIfInBounds_ne (λ x=>e x.symm)] at m;unfold gQ at p;rw[v_] at p;have ah:k<listed.size:=by omega
     rw[h_ ah] at m p;simp at m p;rw[m] at p;cases p
  ·have ai:yA P ds ws old iA G i o:=by
    have b:(l.take n)[i]? =some o:=by rw[List.getElem?_take,if_pos (by omega)];exact z
    have:=vK.at R b
    rwa[Nat.zero_add] at this
   refine Py J K L t M hold O s ai q D hF y E hC λ v w' aj ak al an=>?_
   have I:gQ (listed.setIfInBounds i true) n=false:=by
    rw[oP F];unfold lR;rw[if_neg (λ e=>H e.symm)];exact C
   refine V _ _ _ w' (by simp[q]) (by have:=Bw (ops:=l.toArray) h1 W;omega) ?_ I ak aj al an;rcases Nat.eq_zero_or_pos (oD l.toArray (listed.setIfInBounds i true)) with b|b
   ·have:=w9 (ops:=l.toArray) (listed:=listed.setIfInBounds i true) (by simp[q]) b n (by simp[hlen]);rw[I] at this;cases this
   ·exact b
end
theorem EH{P:Program}{id:Nat}(l:List Oper)(n N:Nat)(ds:List (Option Tmp))(ws:List (List Nat))(old:List (Tmp×Value))(iA:World->Prop)(G:Nat->Nat×Nat->(Nat->Value)->World->Prop)
  (s:ops=l.toArray) (hm:P.follows .mixedOrders=true)
  (q:ds=l.map λ o:Oper=>o.dst) (t:ws=l.map λ o:Oper=>(o.after.toList.filter (c_ .any)).map (·.on)) (hlen:l.length=n+1) (u:rN l.toArray=true) (y:pT l.toArray=true) (z:tN l.toArray=true) (A:vX l n=true) (B:rO l.toArray N=true)
  (C:a.tmps.size=N) (hold:mV a.eval old) (D:zH ws G) (E:iA w.drew)
  (F:vK P ds ws old iA G 0 (l.take n))
  (ol:Oper) (H:l[n]? =some ol) (I:∀vals b w,iA w->(∀j,j<n->G j (b j) vals w)->zF (mD n) b w->∀m,mJ (ds.take n) 0 vals a=m->bh P m.eval ol w λ v w'=>Q .normal (m.put ol.dst v) w'):(Code.region id ops true).wp P Q a w:=by
 subst s;subst C;refine wp_region_any hm ?_;have J:∀o vals b w,l[n]? =some o->iA w->(∀j,j<n->G j (b j) vals w)->zF (mD n) b w->bh P (jM l.toArray vals (mD n) a n).eval o w λ v w'=>Q .normal ((jM l.toArray vals (mD n) a n).put o.dst v) w':=by
  intro o vals b w g K L M;rw[H] at g;injection g with g
  subst g;rw[z6 l vals a n n (n_ _) (by omega),<-q];exact I vals b w K L M _ rfl
 have c:∀k,gQ (s_ l.toArray.size false) k=false:=λ k=>by
  unfold gQ;rw[v_,Array.getElem?_replicate];split<;>rfl
 have e:a=jM l.toArray (λ _=>undef) (gQ (s_ l.toArray.size false)) a l.toArray.size:=by
  have:∀k,jM l.toArray (λ _=>undef) (gQ (s_ l.toArray.size false)) a k=a:=by
   intro k
   induction k with
   |zero=>rfl
   |succ k O=>
    simp only[jM];rw[c k,O];simp
  exact(this _).symm
 have r:=Pz (P:=P) (Q:=Q) (a:=a) (iA:=iA) (G:=G) t q n hlen u y B z A hold D F J l.toArray.size (s_ l.toArray.size false) (λ _=>undef) (λ _=>(0,0)) w.drew (by simp)
  (by unfold oD;exact q_ (List.length_filter_le _ _) (by simp)) ?_ (c n) (λ j i d=>by rw[c j] at d;cases d) E (λ j d=>by rw[c j] at d;cases d) ⟨λ j f=>(by rw[c j] at f;cases f),λ j k R f S=>(by rw[c j] at f;cases f)⟩
 ·rw[<-e] at r;exact r
 ·rcases Nat.eq_zero_or_pos (oD l.toArray (s_ l.toArray.size false)) with p|p
  ·have:=w9 (ops:=l.toArray) (listed:=s_ l.toArray.size false) (by simp) p n (by simp[hlen]);rw[c n] at this;cases this
  ·exact p
end
section
open Go.RowKit Go.Shelf Go.Sort Go.Lib
structure qj where
 s:lp
 kK:Option Addr
 c1:Nat
 bl:Option Addr
 c2:Nat
 j8:Option Addr
 c3:Nat
 ku:Option Addr
 jo:Nat
 j7:Option Addr
 jD:Nat
 aB:Nat
 kind:Int
 aK:Option Addr
 aU:Nat
 aJ:Nat
 aX:Option Addr
 bM:Nat
 aM:Nat
@[reducible] def qj.cells (d:qj) (n:Nat) (bw:Option Addr) (jN aS:Nat):List Value:=[.int .i64 n,.slice bw jN aS,.slice d.kK d.s.es.length d.c1,.slice d.bl (n+1) d.c2,.slice d.j8 n d.c3,.int .i64 d.s.bz,.slice d.ku (n+1) d.jo,.slice d.j7 d.s.aF.length d.jD]
@[reducible] def qj.xB (d:qj):List Value:=[.int .i64 d.kind,.slice d.aK d.aU d.aJ,.slice d.aX d.bM d.aM,.int .i64 (d.aB:Int)]
def qj.tY(d:qj)(n:Nat)(b:Option Addr)(c e:Nat):Value:=.tuple #[.agg (d.cells n b c e).toArray,.agg d.xB.toArray,.int .i64 0]
theorem qj.inj{d e:qj}{jN:Nat}(h:d.tY n bw jN aS=e.tY n bw jN aS):d.cells n bw jN aS=e.cells n bw jN aS/\d.xB=e.xB:=by
 unfold qj.tY at h;injection h with h
 injection h with h
 injection h with h1 h
 injection h with b h
 injection h1 with h1
 injection b with b
 injection h1 with h1
 injection b with b
 exact⟨h1,b⟩
structure CH(bg:Nat->Prop)(iW B n:Nat)(s:lp)(bw:Option Addr)(aS:Nat)(ah:List Int)(rem:Nat)(p:Nat×Nat)(d:qj)(w:World):Prop where
 bu:iW<p.1
 ok:pL n d.s
 gs:d.s.gs=s.gs
 es:d.s.es.length=s.es.length+d.aB
 aF:d.s.aF.length=s.aF.length+d.aB
 mW:d.aB<=rem
 pa:d.j7≠none->∃b off,d.j7=some ⟨b,off,none⟩
 uM:d.j7=none->d.s.aF.length=0/\d.jD=0
 rd:∀W':World,aG (λ b=>b<p.2/\¬(bg b\/(iW<=b/\b<p.1))) w W'->rz W' d.s bw aS d.kK d.c1 d.bl d.c2 d.j8 d.c3 d.ku d.jo d.j7 d.jD/\og (λ _=>True) W' s.gs ah n rem d.aB d.kind d.aK d.aU d.aJ d.aX d.bM d.aM
theorem CH.jB{iW:Nat}{ah:List Int}{rem:Nat}{p:Nat×Nat}{d:qj}(h:CH bg iW B n s bw aS ah rem p d w)(f:aG (λ b=>b<p.2/\¬(bg b\/(iW<=b/\b<p.1))) w w'):CH bg iW B n s bw aS ah rem p d w':=
 ⟨h.bu,h.ok,h.gs,h.es,h.aF,h.mW,h.pa,h.uM,λ W' c=>h.rd W' (f.trans c)⟩
def mg(m:Nat->Prop)(o l B n:Nat)(s:lp)(b:Option Addr)(c:Nat)(ah:List Int)(e sp:Nat)(v0 v1 v2 v3 v4 v5 v6 q:Value)(gN:Option Addr)(bN gO:Nat)(i:Nat)(p:Nat×Nat)(vals:Nat->Value)(w:World):Prop:=
 match i with
 |0=>vals 0=.pointer (some ⟨B,0,none⟩)
 |1=>vals 1=.pointer (some ⟨B,0,none⟩)
 |2=>vals 2=.pointer (some ⟨B,0,none⟩)
 |3=>vals 3=.agg #[v0,v1,v2,v3,v4,v5,v6,q]
 |4=>vals 4=.slice gN bN gO
 |5=>vals 5=.pointer (some ⟨B,0,none⟩)
 |6=>vals 6=.pointer (some ⟨B,0,none⟩)
 |7=>vals 7=.pointer (some ⟨B,8,none⟩)
 |8=>vals 8=.agg #[.int .i64 e,.int .i64 sp]
 |9=>vals 9=.int .i64 ((e-sp:Nat):Int)
 |10=>∃d:qj,vals 10=d.tY n b s.gs.length c/\CH m o B n s b c ah (e-sp) p d w
 |11=>∃d:qj,vals 10=d.tY n b s.gs.length c/\vals 11=d.tY n b s.gs.length c
 |12=>∃d:qj,vals 10=d.tY n b s.gs.length c/\vals 12=.agg (d.cells n b s.gs.length c).toArray
 |13=>∃d:qj,vals 10=d.tY n b s.gs.length c/\vals 13=.agg d.xB.toArray
 |14=>vals 14=.int .i64 0
 |15=>vals 15=.pointer (some ⟨p.1,0,none⟩)/\p.1<p.2/\l<=p.1/\∃f g j k r t u v,aR w p.1 47 [f,g,j,k,r,t,u,v]
 |16=>vals 16=.pointer (some ⟨p.1,0,none⟩)/\p.1<p.2/\l<=p.1/\∃f g j k,aR w p.1 30 [f,g,j,k]
 |17=>∃(z:Nat)(d:qj),vals 15=.pointer (some ⟨z,0,none⟩)/\vals 10=d.tY n b s.gs.length c/\aR w z 47 (d.cells n b s.gs.length c)
 |18=>∃(z:Nat)(d:qj),vals 16=.pointer (some ⟨z,0,none⟩)/\vals 10=d.tY n b s.gs.length c/\aR w z 30 d.xB
 |_=>True
theorem mg.mono(o:Nat->Prop)(q r B n:Nat)(s:lp)(t:Option Addr)(u:Nat)(ah:List Int)(v sp:Nat)(v0 v1 v2 v3 v4 v5 v6 y:Value)(gN:Option Addr)(bN gO:Nat)(i:Nat)(p:Nat×Nat)(vals:Nat->Value)(w w':World)(f:Below w.heap.size w w')(hp:p.2<=w.heap.size)(h:mg o q r B n s t u ah v sp v0 v1 v2 v3 v4 v5 v6 y gN bN gO i p vals w):mg o q r B n s t u ah v sp v0 v1 v2 v3 v4 v5 v6 y gN bN gO i p vals w':=by
 match i,h with
 |0,h=>exact h
 |1,h=>exact h
 |2,h=>exact h
 |3,h=>exact h
 |4,h=>exact h
 |5,h=>exact h
 |6,h=>exact h
 |7,h=>exact h
 |8,h=>exact h
 |9,h=>exact h
 |11,h=>exact h
 |12,h=>exact h
 |13,h=>exact h
 |14,h=>exact h
 |10,h=>obtain⟨d,h1,c⟩:=h;exact⟨d,h1,c.jB (aG.rf f λ b f=>by omega)⟩
 |15,h=>obtain⟨h1,c,e,g,j,k,l,A,C,D,E,m⟩:=h;exact⟨h1,c,e,g,j,k,l,A,C,D,E,m.below f⟩
 |16,h=>obtain⟨h1,c,e,g,j,k,l,m⟩:=h;exact⟨h1,c,e,g,j,k,l,m.below f⟩
 |17,h=>obtain⟨z,d,h1,c,e⟩:=h;exact⟨z,d,h1,c,e.below f⟩
 |18,h=>obtain⟨z,d,h1,c,e⟩:=h;exact⟨z,d,h1,c,e.below f⟩
 |n+19,h=>trivial
theorem mg.AX(f:Nat->Prop)(g j B n:Nat)(s:lp)(k:Option Addr)(l:Nat)(ah:List Int)(m sp:Nat)(v0 v1 v2 v3 v4 v5 v6 o:Value)(gN:Option Addr)(bN gO:Nat):zH [[],[0],[1],[2],[],[],[5],[6],[7],[8],[3,4,9,9],[10],[11],[11],[11],[],[],[15,12,10,0,1,2,3,4,5,6,7,8,9,10,11,12,15,16],[16,13,17,0,1,2,3,4,5,6,7,8,9,10,11,12,13,15,16,17],[14,18,0,1,2,3,4,5,6,7,8,9,10,11,12,13,14,15,16,17,18]] (mg f g j B n s k l ah m sp v0 v1 v2 v3 v4 v5 v6 o gN bN gO):=by
 intro i p vals qd w b h
 match i,b,h with
 |0,b,h=>exact(b 0 (.inl rfl)).symm.trans h
 |1,b,h=>exact(b 1 (.inl rfl)).symm.trans h
 |2,b,h=>exact(b 2 (.inl rfl)).symm.trans h
 |3,b,h=>exact(b 3 (.inl rfl)).symm.trans h
 |4,b,h=>exact(b 4 (.inl rfl)).symm.trans h
 |5,b,h=>exact(b 5 (.inl rfl)).symm.trans h
 |6,b,h=>exact(b 6 (.inl rfl)).symm.trans h
 |7,b,h=>exact(b 7 (.inl rfl)).symm.trans h
 |8,b,h=>exact(b 8 (.inl rfl)).symm.trans h
 |9,b,h=>exact(b 9 (.inl rfl)).symm.trans h
 |14,b,h=>exact(b 14 (.inl rfl)).symm.trans h
 |10,b,h=>obtain⟨d,h1,c⟩:=h;exact⟨d,(b 10 (.inl rfl)).symm.trans h1,c⟩
 |11,b,h=>obtain⟨d,h1,c⟩:=h;exact⟨d,(b 10 (.inr (by decide+kernel))).symm.trans h1,(b 11 (.inl rfl)).symm.trans c⟩
 |12,b,h=>obtain⟨d,h1,c⟩:=h;exact⟨d,(b 10 (.inr (by decide+kernel))).symm.trans h1,(b 12 (.inl rfl)).symm.trans c⟩
 |13,b,h=>obtain⟨d,h1,c⟩:=h;exact⟨d,(b 10 (.inr (by decide+kernel))).symm.trans h1,(b 13 (.inl rfl)).symm.trans c⟩
 |15,b,h=>exact⟨(b 15 (.inl rfl)).symm.trans h.1,h.2⟩
 |16,b,h=>exact⟨(b 16 (.inl rfl)).symm.trans h.1,h.2⟩
 |17,b,h=>obtain⟨z,d,h1,c,e⟩:=h;exact⟨z,d,(b 15 (.inr (by decide+kernel))).symm.trans h1,(b 10 (.inr (by decide+kernel))).symm.trans c,e⟩
 |18,b,h=>obtain⟨z,d,h1,c,e⟩:=h;exact⟨z,d,(b 16 (.inr (by decide+kernel))).symm.trans h1,(b 10 (.inr (by decide+kernel))).symm.trans c,e⟩
 |n+19,b,h=>trivial
structure II(iH:World)(bg:Nat->Prop)(iW aj B n:Nat)(s:lp)(bw:Option Addr)(aS:Nat)(ah:List Int)(aW sp:Nat)(v0 v1 v2 v3 v4 v5 v6 kg:Value)(gN:Option Addr)(bN gO:Nat):Prop where
 blk:aR iH B 155 [v0,v1,v2,v3,v4,v5,v6,kg,.int .i64 aW,.int .i64 sp]
 mW:sp<=aW
 ov:aW<=1099511627776
 lw:iW<aj
 hw:iH.heap.size=aj
 PA:∀W,Below iH.heap.size iH W->Calls u_ 36 #[.agg #[v0,v1,v2,v3,v4,v5,v6,kg],.slice gN bN gO,.int .i64 ((aW-sp:Nat):Int)] W (AP (λ b=>bg b\/(iW<=b/\b<W.heap.size)) W n s bw aS ah (aW-sp))
theorem PB:∀args w,(callFunc 36 args).run u_ w=.ok (.enter 36 args) w:=enters_of Tryz.func36 (by kernel_rfl) rfl
theorem PC:∀args w,(callFunc 140 args).run u_ w=.ok (.enter 140 args) w:=enters_of Tryz.func140 (by kernel_rfl) rfl
theorem PD(L:World)(A:Nat->Prop)(p D B n:Nat)(s:lp)(q:Option Addr)(r:Nat)(ah:List Int)(t sp:Nat)(v0 v1 v2 v3 v4 v5 v6 E:Value)(gN:Option Addr)(bN gO:Nat)(C:II L A p D B n s q r ah t sp v0 v1 v2 v3 v4 v5 v6 E gN bN gO):
  vK u_ [some 9,some 10,some 11,some 12,some 13,some 14,some 15,some 16,some 17,some 18,some 19,some 8,some 20,some 21,some 22,some 5,some 6,none,none,some 7] [[],[0],[1],[2],[],[],[5],[6],[7],[8],[3,4,9,9],[10],[11],[11],[11],[],[],[15,12,10,0,1,2,3,4,5,6,7,8,9,10,11,12,15,16],[16,13,17,0,1,2,3,4,5,6,7,8,9,10,11,12,13,15,16,17],[14,18,0,1,2,3,4,5,6,7,8,9,10,11,12,13,14,15,16,17,18]] [(0,.pointer (some ⟨B,0,none⟩)),(1,.slice gN bN gO)] (λ w=>Below L.heap.size L w) (mg A p D B n s q r ah t sp v0 v1 v2 v3 v4 v5 v6 E gN bN gO) 0 ((qb Tryz.f77 1).take 19):=by
 have ax:=mg.mono A p D B n s q r ah t sp v0 v1 v2 v3 v4 v5 v6 E gN bN gO;have ay:∀w w':World,Below L.heap.size L w->Below w.heap.size w w'->Below L.heap.size L w':=λ w w' k I=>k.trans (I.mono k.size)
 refine⟨?_,?_,?_,?_,?_,?_,?_,?_,?_,?_,?_,?_,?_,?_,?_,?_,?_,?_,?_,trivial⟩
 ·intro vals c w f k g G hp F;have aA:f (.tmp 0)=_:=G.1 rfl;simp only[bh,execOp,aA];simp[bQ,go_sem];exact .same k rfl
 ·intro vals c w f k g G hp F;obtain⟨⟨f0,O⟩,-⟩:=(⟨g.1 rfl,trivial⟩:_/\True)
  have O:f (.tmp 9)=vals 0:=O _ rfl;have f0:vals 0=_:=f0 (y_ rfl);rw[f0] at O;simp only[bh,execOp,O];simp[bQ,go_sem];exact .same k rfl
 ·intro vals c w f k g G hp F;obtain⟨⟨f1,P⟩,-⟩:=(⟨g.1 rfl,trivial⟩:_/\True)
  have P:f (.tmp 10)=vals 1:=P _ rfl;have f1:vals 1=_:=f1 (y_ rfl);rw[f1] at P;simp only[bh,execOp,P];simp[bQ,go_sem];exact .same k rfl
 ·intro vals c w f k g G hp F;obtain⟨⟨f2,Q⟩,-⟩:=(⟨g.1 rfl,trivial⟩:_/\True)
  have Q:f (.tmp 11)=vals 2:=Q _ rfl;have f2:vals 2=_:=f2 (y_ rfl);rw[f2] at Q;have y:=(C.blk.below k).cell;have ab:=y 0;have ad:=y 1;have ae:=y 2;have af:=y 3;have an:=y 4;have ao:=y 5;have aq:=y 6;have ar:=y 7;simp only[x_,w_] at ab ad ae af an ao aq ar;simp only[bh,execOp,Q];simp[bQ,go_sem,ab,ad,ae,af,an,ao,aq,ar];exact .same k rfl
 ·intro vals c w f k g G hp F;have aS:f (.tmp 1)=_:=G.2.1 rfl;simp only[bh,execOp,aS];simp[bQ,go_sem];exact .same k rfl
 ·intro vals c w f k g G hp F;have aA:f (.tmp 0)=_:=G.1 rfl;simp only[bh,execOp,aA];simp[bQ,go_sem];exact .same k rfl
 ·intro vals c w f k g G hp F;obtain⟨⟨f5,R⟩,-⟩:=(⟨g.1 rfl,trivial⟩:_/\True)
  have R:f (.tmp 14)=vals 5:=R _ rfl;have f5:vals 5=_:=f5 (y_ rfl);rw[f5] at R;simp only[bh,execOp,R];simp[bQ,go_sem];exact .same k rfl
 ·intro vals c w f k g G hp F;obtain⟨⟨f6,S⟩,-⟩:=(⟨g.1 rfl,trivial⟩:_/\True)
  have S:f (.tmp 15)=vals 6:=S _ rfl;have f6:vals 6=_:=f6 (y_ rfl);rw[f6] at S;simp only[bh,execOp,S];simp[bQ,go_sem];exact .same k rfl
 ·intro vals c w f k g G hp F;obtain⟨⟨f7,T⟩,-⟩:=(⟨g.1 rfl,trivial⟩:_/\True)
  have T:f (.tmp 16)=vals 7:=T _ rfl;have f7:vals 7=_:=f7 (y_ rfl);rw[f7] at T;have y:=(C.blk.below k).cell;have aO:=y 8;have aP:=y 9;simp only[x_,w_] at aO aP;simp only[bh,execOp,T];simp[bQ,go_sem,aO,aP];exact .same k rfl
 ·intro vals c w f k g G hp F;obtain⟨⟨f8,U⟩,-⟩:=(⟨g.1 rfl,trivial⟩:_/\True)
  have U:f (.tmp 17)=vals 8:=U _ rfl;have f8:vals 8=_:=f8 (y_ rfl);rw[f8] at U;refine rP 140 #[.tmp 17] #[153] rfl PC hp ?_;simp only[f_,d_,a_,U];refine(Pu w t sp C.mW C.ov).mono ?_;rintro e w' ⟨rfl,I⟩;exact⟨_,rfl,.more ax I (ay w w' k I) rfl⟩
 ·intro vals c w f k g G hp F;obtain⟨⟨f3,V⟩,⟨f4,X⟩,⟨f9,Y⟩,-⟩:=(⟨g.1 rfl,g.2.1 rfl,g.2.2.1 rfl,trivial⟩:_/\_/\_/\True)
  have V:f (.tmp 12)=vals 3:=V _ rfl;have f3:vals 3=_:=f3 (y_ rfl);rw[f3] at V;have X:f (.tmp 13)=vals 4:=X _ rfl;have f4:vals 4=_:=f4 (y_ rfl);rw[f4] at X;have Y:f (.tmp 18)=vals 9:=Y _ rfl;have f9:vals 9=_:=f9 (y_ rfl);rw[f9] at Y;refine rP 36 #[.tmp 12,.tmp 13,.tmp 18] #[47,25,3] rfl PB hp ?_;simp only[f_,d_,a_,V,X,Y];refine(C.PA w k).mono ?_;rintro e w' ⟨s',kK,c1,bl,c2,j8,c3,ku,jo,j7,jD,aB,kind,aK,aU,aJ,aX,bM,aM,rfl,h1,M,ag,au,Z,aC,aD,bp,I,aT,aV,aW⟩;refine⟨_,rfl,.more ax I (ay w w' k I) ⟨⟨s',kK,c1,bl,c2,j8,c3,ku,jo,j7,jD,aB,kind,aK,aU,aJ,aX,bM,aM⟩,rfl,⟨by have:=k.size;have:=C.lw;have:=C.hw;show p<w.heap.size;omega,M,ag,au,aC,aD,aV,λ e=>?_,aW⟩⟩⟩;exact aT.2 e
 ·intro vals c w f k g G hp F;obtain⟨⟨f10,aa⟩,-⟩:=(⟨g.1 rfl,trivial⟩:_/\True)
  have aa:f (.tmp 19)=vals 10:=aa _ rfl;replace f10:mg A p D B n s q r ah t sp v0 v1 v2 v3 v4 v5 v6 E gN bN gO 10 (c 10) vals w:=f10 (y_ rfl);obtain⟨d,f10,-⟩:=f10;simp only[bh,execOp,aa];simp[bQ,go_sem];exact .same k ⟨d,f10,f10⟩
 ·intro vals c w f k g G hp F;obtain⟨⟨f11,H⟩,-⟩:=(⟨g.1 rfl,trivial⟩:_/\True)
  have H:f (.tmp 8)=vals 11:=H _ rfl;replace f11:mg A p D B n s q r ah t sp v0 v1 v2 v3 v4 v5 v6 E gN bN gO 11 (c 11) vals w:=f11 (y_ rfl);obtain⟨d,f10,f11⟩:=f11;rw[f11] at H;simp only[bh,execOp,H,qj.tY];simp[bQ,go_sem];exact .same k ⟨d,f10,rfl⟩
 ·intro vals c w f k g G hp F;obtain⟨⟨f11,H⟩,-⟩:=(⟨g.1 rfl,trivial⟩:_/\True)
  have H:f (.tmp 8)=vals 11:=H _ rfl;replace f11:mg A p D B n s q r ah t sp v0 v1 v2 v3 v4 v5 v6 E gN bN gO 11 (c 11) vals w:=f11 (y_ rfl);obtain⟨d,f10,f11⟩:=f11;rw[f11] at H;simp only[bh,execOp,H,qj.tY];simp[bQ,go_sem];exact .same k ⟨d,f10,rfl⟩
 ·intro vals c w f k g G hp F;obtain⟨⟨f11,H⟩,-⟩:=(⟨g.1 rfl,trivial⟩:_/\True)
  have H:f (.tmp 8)=vals 11:=H _ rfl;replace f11:mg A p D B n s q r ah t sp v0 v1 v2 v3 v4 v5 v6 E gN bN gO 11 (c 11) vals w:=f11 (y_ rfl);obtain⟨d,f10,f11⟩:=f11;rw[f11] at H;simp only[bh,execOp,H,qj.tY];simp[bQ,go_sem];exact .same k rfl
 ·intro vals c w f k g G hp F;simp only[bh,execOp];simp[bQ,go_sem];exact .more ax (bC w _) (ay w _ k (bC w _)) ⟨rfl,by simp,C.hw▸k.size,_,_,_,_,_,_,_,_,aR.new w 47 [.int .i64 0,.slice none 0 0,.slice none 0 0,.slice none 0 0,.slice none 0 0,.int .i64 0,.slice none 0 0,.slice none 0 0]⟩
 ·intro vals c w f k g G hp F;simp only[bh,execOp];simp[bQ,go_sem];exact .more ax (bC w _) (ay w _ k (bC w _)) ⟨rfl,by simp,C.hw▸k.size,_,_,_,_,aR.new w 30 [.int .i64 0,.slice none 0 0,.slice none 0 0,.int .i64 0]⟩
 ·intro vals c w f k g G hp F;obtain⟨⟨f15,ai⟩,⟨f12,aj⟩,⟨f10,aa⟩,⟨f0,O⟩,⟨f1,P⟩,⟨f2,Q⟩,⟨f3,V⟩,⟨f4,X⟩,⟨f5,R⟩,⟨f6,S⟩,⟨f7,T⟩,⟨f8,U⟩,⟨f9,Y⟩,⟨f11,H⟩,⟨f16,ak⟩,-⟩:=(⟨g.1 rfl,g.2.1 rfl,g.2.2.1 rfl,g.2.2.2.1 rfl,g.2.2.2.2.1 rfl,g.2.2.2.2.2.1 rfl,g.2.2.2.2.2.2.1 rfl,g.2.2.2.2.2.2.2.1 rfl,g.2.2.2.2.2.2.2.2.1 rfl,g.2.2.2.2.2.2.2.2.2.1 rfl,g.2.2.2.2.2.2.2.2.2.2.1 rfl,g.2.2.2.2.2.2.2.2.2.2.2.1 rfl,g.2.2.2.2.2.2.2.2.2.2.2.2.1 rfl,g.2.2.2.2.2.2.2.2.2.2.2.2.2.2.1 rfl,g.2.2.2.2.2.2.2.2.2.2.2.2.2.2.2.2.2.2.2.1 rfl,trivial⟩:_/\_/\_/\_/\_/\_/\_/\_/\_/\_/\_/\_/\_/\_/\_/\True)
  have ai:f (.tmp 5)=vals 15:=ai _ rfl;replace f15:mg A p D B n s q r ah t sp v0 v1 v2 v3 v4 v5 v6 E gN bN gO 15 (c 15) vals w:=f15 (y_ rfl);have aj:f (.tmp 20)=vals 12:=aj _ rfl;replace f12:mg A p D B n s q r ah t sp v0 v1 v2 v3 v4 v5 v6 E gN bN gO 12 (c 12) vals w:=f12 (y_ rfl);have aa:f (.tmp 19)=vals 10:=aa _ rfl;replace f10:mg A p D B n s q r ah t sp v0 v1 v2 v3 v4 v5 v6 E gN bN gO 10 (c 10) vals w:=f10 (y_ rfl);have O:f (.tmp 9)=vals 0:=O _ rfl;replace f0:mg A p D B n s q r ah t sp v0 v1 v2 v3 v4 v5 v6 E gN bN gO 0 (c 0) vals w:=f0 (y_ rfl);have P:f (.tmp 10)=vals 1:=P _ rfl;replace f1:mg A p D B n s q r ah t sp v0 v1 v2 v3 v4 v5 v6 E gN bN gO 1 (c 1) vals w:=f1 (y_ rfl);have Q:f (.tmp 11)=vals 2:=Q _ rfl;replace f2:mg A p D B n s q r ah t sp v0 v1 v2 v3 v4 v5 v6 E gN bN gO 2 (c 2) vals w:=f2 (y_ rfl);have V:f (.tmp 12)=vals 3:=V _ rfl;replace f3:mg A p D B n s q r ah t sp v0 v1 v2 v3 v4 v5 v6 E gN bN gO 3 (c 3) vals w:=f3 (y_ rfl);have X:f (.tmp 13)=vals 4:=X _ rfl;replace f4:mg A p D B n s q r ah t sp v0 v1 v2 v3 v4 v5 v6 E gN bN gO 4 (c 4) vals w:=f4 (y_ rfl);have R:f (.tmp 14)=vals 5:=R _ rfl;replace f5:mg A p D B n s q r ah t sp v0 v1 v2 v3 v4 v5 v6 E gN bN gO 5 (c 5) vals w:=f5 (y_ rfl);have S:f (.tmp 15)=vals 6:=S _ rfl;replace f6:mg A p D B n s q r ah t sp v0 v1 v2 v3 v4 v5 v6 E gN bN gO 6 (c 6) vals w:=f6 (y_ rfl);have T:f (.tmp 16)=vals 7:=T _ rfl;replace f7:mg A p D B n s q r ah t sp v0 v1 v2 v3 v4 v5 v6 E gN bN gO 7 (c 7) vals w:=f7 (y_ rfl);have U:f (.tmp 17)=vals 8:=U _ rfl;replace f8:mg A p D B n s q r ah t sp v0 v1 v2 v3 v4 v5 v6 E gN bN gO 8 (c 8) vals w:=f8 (y_ rfl);have Y:f (.tmp 18)=vals 9:=Y _ rfl;replace f9:mg A p D B n s q r ah t sp v0 v1 v2 v3 v4 v5 v6 E gN bN gO 9 (c 9) vals w:=f9 (y_ rfl);have H:f (.tmp 8)=vals 11:=H _ rfl;replace f11:mg A p D B n s q r ah t sp v0 v1 v2 v3 v4 v5 v6 E gN bN gO 11 (c 11) vals w:=f11 (y_ rfl);have ak:f (.tmp 6)=vals 16:=ak _ rfl;replace f16:mg A p D B n s q r ah t sp v0 v1 v2 v3 v4 v5 v6 E gN bN gO 16 (c 16) vals w:=f16 (y_ rfl);obtain⟨g15,aY,aZ,a6,a7,a8,a',bq,br,bs,bt,N⟩:=f15;obtain⟨d,g10,g12⟩:=f12;rw[g15] at ai;rw[g12] at aj;have J:=N.free;have aE:=J 0;have aH:=J 1;have aI:=J 2;have aL:=J 3;have ba:=J 4;have bb:=J 5;have bc:=J 6;have bd:=J 7;have ab:=N.cell 0;have ad:=N.cell 1;have ae:=N.cell 2;have af:=N.cell 3;have an:=N.cell 4;have ao:=N.cell 5;have aq:=N.cell 6;have ar:=N.cell 7;simp only[x_,w_] at ab ad ae af an ao aq ar;have bf:=F.2 10 15 (by decide) rfl rfl;have bg:=F.2 16 15 (by decide) rfl rfl;have bu:=f16.2.1;have av:=aR.CC N (.int .i64 n) (.slice q s.gs.length r) (.slice d.kK d.s.es.length d.c1) (.slice d.bl (n+1) d.c2) (.slice d.j8 n d.c3) (.int .i64 d.s.bz) (.slice d.ku (n+1) d.jo) (.slice d.j7 d.s.aF.length d.jD);have K:∀(u:World)(i:Nat)(v:Value),aG (λ b=>b≠(c 15).1) u (u.setCell ⟨(c 15).1,i,none⟩ v):=λ u i v=>aG.set _ i v (λ h=>h rfl)
  have f1:aG (λ b=>b≠(c 15).1) w _:=((((((((K w 0 (.int .i64 n)).trans (K _ 1 (.slice q s.gs.length r))).trans (K _ 2 (.slice d.kK d.s.es.length d.c1))).trans (K _ 3 (.slice d.bl (n+1) d.c2))).trans (K _ 4 (.slice d.j8 n d.c3))).trans (K _ 5 (.int .i64 d.s.bz))).trans (K _ 6 (.slice d.ku (n+1) d.jo))).trans (K _ 7 (.slice d.j7 d.s.aF.length d.jD)))
  simp only[bh,execOp,ai,aj];simp[bQ,go_sem,aE,aH,aI,aL,ba,bb,bc,bd,ab,ad,ae,af,an,ao,aq,ar];generalize (((((((w.setCell ⟨(c 15).1,0,none⟩ (.int .i64 n)).setCell ⟨(c 15).1,1,none⟩ (.slice q s.gs.length r)).setCell ⟨(c 15).1,2,none⟩ (.slice d.kK d.s.es.length d.c1)).setCell ⟨(c 15).1,3,none⟩ (.slice d.bl (n+1) d.c2)).setCell ⟨(c 15).1,4,none⟩ (.slice d.j8 n d.c3)).setCell ⟨(c 15).1,5,none⟩ (.int .i64 d.s.bz)).setCell ⟨(c 15).1,6,none⟩ (.slice d.ku (n+1) d.jo)).setCell ⟨(c 15).1,7,none⟩ (.slice d.j7 d.s.aF.length d.jD)=W at*;have bj:=C.lw;have bw:=N.lt;have aN:Below L.heap.size L W:=k.trans ⟨f1.os,f1.tape,f1.output,f1.size,λ b I=>f1.keep b (by have:=C.hw;omega)⟩;refine⟨aN,f1.size,⟨(c 15).1,d,g15,g10,av⟩,λ j l m hs o h=>?_⟩
  match j,l,m,hs,o,h with
  |0,l,m,hs,o,h=>exact h
  |1,l,m,hs,o,h=>exact h
  |2,l,m,hs,o,h=>exact h
  |3,l,m,hs,o,h=>exact h
  |4,l,m,hs,o,h=>exact h
  |5,l,m,hs,o,h=>exact h
  |6,l,m,hs,o,h=>exact h
  |7,l,m,hs,o,h=>exact h
  |8,l,m,hs,o,h=>exact h
  |9,l,m,hs,o,h=>exact h
  |11,l,m,hs,o,h=>exact h
  |12,l,m,hs,o,h=>exact h
  |13,l,m,hs,o,h=>exact h
  |14,l,m,hs,o,h=>exact h
  |10,l,m,hs,o,h=>obtain⟨aw,h1,M⟩:=h;exact⟨aw,h1,M.jB (f1.mono λ b I e=>by have aC:¬(p<=b/\b<(c 10).1):=λ h=>I.2 (.inr h);have aD:=I.1;clear I;subst e;rcases bf with Z|Z<;>omega)⟩
  |15,l,m,hs,o,h=>exact⟨g15,aY,aZ,_,_,_,_,_,_,_,_,av⟩
  |16,l,m,hs,o,h=>obtain⟨h1,M,ag,m0,m1,m2,m3,au⟩:=h;exact⟨h1,M,ag,m0,m1,m2,m3,f1.blk au (λ e=>by rcases bg with Z|Z<;>omega)⟩
  |17,l,m,hs,o,h=>exact absurd rfl l
  |18,l,m,hs,o,h=>exact absurd m (by decide+kernel)
  |n+19,l,m,hs,o,h=>trivial
 ·intro vals c w f k g G hp F;obtain⟨⟨f16,ak⟩,⟨f13,az⟩,⟨f17,bx⟩,⟨f0,O⟩,⟨f1,P⟩,⟨f2,Q⟩,⟨f3,V⟩,⟨f4,X⟩,⟨f5,R⟩,⟨f6,S⟩,⟨f7,T⟩,⟨f8,U⟩,⟨f9,Y⟩,⟨f10,aa⟩,⟨f11,H⟩,⟨f12,aj⟩,⟨f15,ai⟩,-⟩:=(⟨g.1 rfl,g.2.1 rfl,g.2.2.1 rfl,g.2.2.2.1 rfl,g.2.2.2.2.1 rfl,g.2.2.2.2.2.1 rfl,g.2.2.2.2.2.2.1 rfl,g.2.2.2.2.2.2.2.1 rfl,g.2.2.2.2.2.2.2.2.1 rfl,g.2.2.2.2.2.2.2.2.2.1 rfl,g.2.2.2.2.2.2.2.2.2.2.1 rfl,g.2.2.2.2.2.2.2.2.2.2.2.1 rfl,g.2.2.2.2.2.2.2.2.2.2.2.2.1 rfl,g.2.2.2.2.2.2.2.2.2.2.2.2.2.1 rfl,g.2.2.2.2.2.2.2.2.2.2.2.2.2.2.1 rfl,g.2.2.2.2.2.2.2.2.2.2.2.2.2.2.2.1 rfl,g.2.2.2.2.2.2.2.2.2.2.2.2.2.2.2.2.2.2.1 rfl,trivial⟩:_/\_/\_/\_/\_/\_/\_/\_/\_/\_/\_/\_/\_/\_/\_/\_/\_/\True)
  have ak:f (.tmp 6)=vals 16:=ak _ rfl;replace f16:mg A p D B n s q r ah t sp v0 v1 v2 v3 v4 v5 v6 E gN bN gO 16 (c 16) vals w:=f16 (y_ rfl);have az:f (.tmp 21)=vals 13:=az _ rfl;replace f13:mg A p D B n s q r ah t sp v0 v1 v2 v3 v4 v5 v6 E gN bN gO 13 (c 13) vals w:=f13 (y_ rfl);replace f17:mg A p D B n s q r ah t sp v0 v1 v2 v3 v4 v5 v6 E gN bN gO 17 (c 17) vals w:=f17 (y_ rfl);have O:f (.tmp 9)=vals 0:=O _ rfl;replace f0:mg A p D B n s q r ah t sp v0 v1 v2 v3 v4 v5 v6 E gN bN gO 0 (c 0) vals w:=f0 (y_ rfl);have P:f (.tmp 10)=vals 1:=P _ rfl;replace f1:mg A p D B n s q r ah t sp v0 v1 v2 v3 v4 v5 v6 E gN bN gO 1 (c 1) vals w:=f1 (y_ rfl);have Q:f (.tmp 11)=vals 2:=Q _ rfl;replace f2:mg A p D B n s q r ah t sp v0 v1 v2 v3 v4 v5 v6 E gN bN gO 2 (c 2) vals w:=f2 (y_ rfl);have V:f (.tmp 12)=vals 3:=V _ rfl;replace f3:mg A p D B n s q r ah t sp v0 v1 v2 v3 v4 v5 v6 E gN bN gO 3 (c 3) vals w:=f3 (y_ rfl);have X:f (.tmp 13)=vals 4:=X _ rfl;replace f4:mg A p D B n s q r ah t sp v0 v1 v2 v3 v4 v5 v6 E gN bN gO 4 (c 4) vals w:=f4 (y_ rfl);have R:f (.tmp 14)=vals 5:=R _ rfl;replace f5:mg A p D B n s q r ah t sp v0 v1 v2 v3 v4 v5 v6 E gN bN gO 5 (c 5) vals w:=f5 (y_ rfl);have S:f (.tmp 15)=vals 6:=S _ rfl;replace f6:mg A p D B n s q r ah t sp v0 v1 v2 v3 v4 v5 v6 E gN bN gO 6 (c 6) vals w:=f6 (y_ rfl);have T:f (.tmp 16)=vals 7:=T _ rfl;replace f7:mg A p D B n s q r ah t sp v0 v1 v2 v3 v4 v5 v6 E gN bN gO 7 (c 7) vals w:=f7 (y_ rfl);have U:f (.tmp 17)=vals 8:=U _ rfl;replace f8:mg A p D B n s q r ah t sp v0 v1 v2 v3 v4 v5 v6 E gN bN gO 8 (c 8) vals w:=f8 (y_ rfl);have Y:f (.tmp 18)=vals 9:=Y _ rfl;replace f9:mg A p D B n s q r ah t sp v0 v1 v2 v3 v4 v5 v6 E gN bN gO 9 (c 9) vals w:=f9 (y_ rfl);have aa:f (.tmp 19)=vals 10:=aa _ rfl;replace f10:mg A p D B n s q r ah t sp v0 v1 v2 v3 v4 v5 v6 E gN bN gO 10 (c 10) vals w:=f10 (y_ rfl);have H:f (.tmp 8)=vals 11:=H _ rfl;replace f11:mg A p D B n s q r ah t sp v0 v1 v2 v3 v4 v5 v6 E gN bN gO 11 (c 11) vals w:=f11 (y_ rfl);have aj:f (.tmp 20)=vals 12:=aj _ rfl;replace f12:mg A p D B n s q r ah t sp v0 v1 v2 v3 v4 v5 v6 E gN bN gO 12 (c 12) vals w:=f12 (y_ rfl);have ai:f (.tmp 5)=vals 15:=ai _ rfl;replace f15:mg A p D B n s q r ah t sp v0 v1 v2 v3 v4 v5 v6 E gN bN gO 15 (c 15) vals w:=f15 (y_ rfl);obtain⟨g16,bk,bn,a6,a7,a8,a',al⟩:=f16;obtain⟨d,g10,g13⟩:=f13;rw[g16] at ak;rw[g13] at az;have J:=al.free;have aE:=J 0;have aH:=J 1;have aI:=J 2;have aL:=J 3;have ab:=al.cell 0;have ad:=al.cell 1;have ae:=al.cell 2;have af:=al.cell 3;simp only[x_,w_] at ab ad ae af;have bo:=F.2 10 16 (by decide) rfl rfl;have aQ:=F.2 15 16 (by decide) rfl rfl;have g15:=f15.1;have bA:=f15.2.1;have av:=(((al.set 0 (.int .i64 d.kind)).set 1 (.slice d.aK d.aU d.aJ)).set 2 (.slice d.aX d.bM d.aM)).set 3 (.int .i64 (d.aB:Int));have K:∀(u:World)(i:Nat)(v:Value),aG (λ b=>b≠(c 16).1) u (u.setCell ⟨(c 16).1,i,none⟩ v):=λ u i v=>aG.set _ i v (λ h=>h rfl)
  have f1:aG (λ b=>b≠(c 16).1) w _:=(((K w 0 (.int .i64 d.kind)).trans (K _ 1 (.slice d.aK d.aU d.aJ))).trans (K _ 2 (.slice d.aX d.bM d.aM))).trans (K _ 3 (.int .i64 (d.aB:Int)));simp only[bh,execOp,ak,az];simp[bQ,go_sem,aE,aH,aI,aL,ab,ad,ae,af];generalize (((w.setCell ⟨(c 16).1,0,none⟩ (.int .i64 d.kind)).setCell ⟨(c 16).1,1,none⟩ (.slice d.aK d.aU d.aJ)).setCell ⟨(c 16).1,2,none⟩ (.slice d.aX d.bM d.aM)).setCell ⟨(c 16).1,3,none⟩ (.int .i64 (d.aB:Int))=W at*;have bj:=C.lw;have aN:Below L.heap.size L W:=k.trans ⟨f1.os,f1.tape,f1.output,f1.size,λ b I=>f1.keep b (by have:=C.hw;omega)⟩;refine⟨aN,f1.size,⟨(c 16).1,d,g16,g10,av⟩,λ j l m hs o h=>?_⟩
  match j,l,m,hs,o,h with
  |0,l,m,hs,o,h=>exact h
  |1,l,m,hs,o,h=>exact h
  |2,l,m,hs,o,h=>exact h
  |3,l,m,hs,o,h=>exact h
  |4,l,m,hs,o,h=>exact h
  |5,l,m,hs,o,h=>exact h
  |6,l,m,hs,o,h=>exact h
  |7,l,m,hs,o,h=>exact h
  |8,l,m,hs,o,h=>exact h
  |9,l,m,hs,o,h=>exact h
  |11,l,m,hs,o,h=>exact h
  |12,l,m,hs,o,h=>exact h
  |13,l,m,hs,o,h=>exact h
  |14,l,m,hs,o,h=>exact h
  |10,l,m,hs,o,h=>obtain⟨aw,h1,M⟩:=h;exact⟨aw,h1,M.jB (f1.mono λ b I e=>by have aC:¬(p<=b/\b<(c 10).1):=λ h=>I.2 (.inr h);have aD:=I.1;clear I;subst e;rcases bo with Z|Z<;>omega)⟩
  |15,l,m,hs,o,h=>obtain⟨h1,M,ag,m0,m1,m2,m3,m4,m5,m6,m7,au⟩:=h;exact⟨h1,M,ag,m0,m1,m2,m3,m4,m5,m6,m7,f1.blk au (λ e=>by rcases aQ with Z|Z<;>omega)⟩
  |16,l,m,hs,o,h=>exact⟨g16,bk,bn,_,_,_,_,av⟩
  |17,l,m,hs,o,h=>obtain⟨z,aw,h1,M,ag⟩:=h;exact⟨z,aw,h1,M,f1.blk ag (λ e=>by rw[g15] at h1;simp at h1;rcases aQ with Z|Z<;>omega)⟩
  |18,l,m,hs,o,h=>exact absurd rfl l
  |n+19,l,m,hs,o,h=>trivial
theorem CI{aW sp:Nat}(m:rV bg w B n s bw aS jc cl A c A' c' hM gM bA bI aW sp){gN:Option Addr}{bN gO:Nat}{ah:List Int}(ag:aP w gN bN gO ah)(hl:∀x∈ah,gP n x)(ai:(ah.map aD).Nodup)(bd:bN<=1000):
  Calls u_ 77 #[.pointer (some ⟨B,0,none⟩),.slice gN bN gO] w (Px bg w B n s bw aS ah aW sp):=by
 have q:=bC w (.cells #[.int .i64 0,.slice none 0 0,.slice none 0 0,.int .i64 0] 30);have aj:aR (w.alloc (.cells #[.int .i64 0,.slice none 0 0,.slice none 0 0,.int .i64 0] 30)) w.heap.size 30 [.int .i64 0,.slice none 0 0,.slice none 0 0,.int .i64 0]:=aR.new w 30 _;have R:=m.blk.below q;have ak:(w.alloc (.cells #[.int .i64 0,.slice none 0 0,.slice none 0 0,.int .i64 0] 30)).heap.size=w.heap.size+1:=by simp
 have bf:=m.blk.lt;go_enter Tryz.func77,Tryz.ntmps77
 go_upto_region 1 with fail
 generalize w.alloc (.cells #[.int .i64 0,.slice none 0 0,.slice none 0 0,.int .i64 0] 30)=w1 at*;have bj:=m.pl;have bk:=m.ok.nA;have bn:=zv m.n10;have al:s.aF.length<=549755813888:=by omega
 have an:=m.ov;have H:=m.mW;have ao:II w1 bg w.heap.size w1.heap.size B n s bw aS ah aW sp (.int .i64 n) (.slice bw s.gs.length aS) (.slice jc s.es.length cl) (.slice A (n+1) c) (.slice A' n c') (.int .i64 s.bz) (.slice hM (n+1) gM) (.slice bA s.aF.length bI) gN bN gO:=by
  refine⟨R,H,an,by omega,rfl,λ W I=>?_⟩;have bo:vi W (λ b=>bg b\/(w.heap.size<=b/\b<W.heap.size)) s bw aS jc cl A c A' c' hM gM bA bI:=λ W' f=>m.CG W' ((aG.rf (q.trans (I.mono q.size)) λ b j=>j.1).trans (f.mono λ b j=>⟨by have:=I.size;omega,λ h=>h.elim j.2 (λ h=>by have:=j.1;omega)⟩))
  have:=OG (aW-sp) m.ok m.n10 bo ((ag.below q).below I) hl ai bd (by omega) m.bL al m.uM m.pa (λ b j=>by have bR:=I.size;exact j.elim (λ h=>by have:=m.dl b h;omega) (λ h=>h.2));unfold rT at this;exact this
 have aq:=U (PD w1 bg w.heap.size w1.heap.size B n s bw aS ah aW sp _ _ _ _ _ _ _ _ gN bN gO ao);have l:=U (z_ m (z_ aj (z_ q (z_ R (z_ ak bf)))));clear m aj q R bj bk bn al an H ag hl ai ak ao;refine EH (qb Tryz.f77 1) 19 42 _ _ [(0,.pointer (some ⟨B,0,none⟩)),(1,.slice gN bN gO)] _ (mg bg w.heap.size w1.heap.size B n s bw aS ah aW sp (.int .i64 n) (.slice bw s.gs.length aS) (.slice jc s.es.length cl) (.slice A (n+1) c) (.slice A' n c') (.int .i64 s.bz) (.slice hM (n+1) gM) (.slice bA s.aF.length bI) gN bN gO) (by kernel_rfl) (by kernel_rfl) (by kernel_rfl) (by kernel_rfl) (by kernel_rfl) (by decide+kernel) (by decide+kernel) (by decide+kernel) (by decide+kernel) (by decide+kernel) rfl ⟨rfl,rfl,trivial⟩ (mg.AX _ _ _ _ _ _ _ _ _ _ _ _ _ _ _ _ _ _ _ _ _ _) ((p_ _ _).drew) aq.o _ rfl ?_;intro vals ar F au r S bS av;obtain⟨d,g10,hF⟩:=r 10 (by omega);obtain⟨aw,d1,g15,ax,T⟩:=r 17 (by omega);obtain⟨z2,d2,g16,ay,V⟩:=r 18 (by omega);have f14:vals 14=.int .i64 0:=r 14 (by omega);rw[<-(qj.inj (g10.symm.trans ax)).1] at T;rw[<-(qj.inj (g10.symm.trans ay)).2] at V;have J:aw≠z2:=by
  have g:=r 15 (by omega);have az:=r 16 (by omega);have t:=g15.symm.trans g.1;have bp:=g16.symm.trans az.1;simp at t bp;have h1:=g.2.1;have bq:=az.2.1;have K:=S.2 15 16 (by decide) rfl rfl;rcases K with K|K<;>omega
 have aA:w1.heap.size<=aw:=by
  have g:=r 15 (by omega);have t:=g15.symm.trans g.1;simp at t;rw[t];exact g.2.2.1
 have aC:w1.heap.size<=z2:=by
  have g:=r 16 (by omega);have t:=g16.symm.trans g.1;simp at t;rw[t];exact g.2.2.1
 simp only[mJ,Act.put,List.take,g15,g16,f14] at av;subst av;have k:=U (z_ hF (z_ T (z_ V (z_ J (z_ aA (z_ aC au))))));have aE:bF ((ar 10).2<=F.heap.size):=U (S.1 10 rfl).2;generalize hp:ar 10=p at k aE;clear au r S g10 ax ay g15 g16 f14 hF T V J aA aC aq hp;simp only[bh,execOp];simp[bQ,go_sem,Act.eval,Act.put];have E:=l.o.2.2.2.1.below k.o.2.2.2.2.2.2;have aH:=E.cell 8;have L:=E.cell 9;have x:=k.o.2.1.cell;have aI:=x 0;have aL:=x 1;have aN:=x 2;have aO:=x 3;have aQ:=x 4;have aT:=x 5;have aV:=x 6;have aY:=x 7;have u:=k.o.2.2.1.cell;have M:=u 0;have N:=u 1;have O:=u 2;have P:=u 3;simp only[x_,w_] at aH L aI aL aN aO aQ aT aV aY M N O P;have y:=E.free;have br:=y 0;have bs:=y 1;have bt:=y 2;have bx:=y 3;have bB:=y 4;have bD:=y 5;have bE:=y 6;have bG:=y 7;have z:=E.cell;have aZ:=z 0;have c1:=z 1;have c2:=z 2;have c3:=z 3;have jo:=z 4;have jD:=z 5;have a6:=z 6;have a7:=z 7;simp only[x_,w_] at aZ c1 c2 c3 jo jD a6 a7;have X:bF (aR _ B 155 [.int .i64 n,.slice bw s.gs.length aS,.slice d.kK d.s.es.length d.c1,.slice d.bl (n+1) d.c2,.slice d.j8 n d.c3,.int .i64 d.s.bz,.slice d.ku (n+1) d.jo,.slice d.j7 d.s.aF.length d.jD,.int .i64 aW,.int .i64 sp]):=U ((((((((E.set 0 (.int .i64 n)).set 1 (.slice bw s.gs.length aS)).set 2 (.slice d.kK d.s.es.length d.c1)).set 3 (.slice d.bl (n+1) d.c2)).set 4 (.slice d.j8 n d.c3)).set 5 (.int .i64 d.s.bz)).set 6 (.slice d.ku (n+1) d.jo)).set 7 (.slice d.j7 d.s.aF.length d.jD));have g:∀(u:World)(i:Nat)(v:Value),aG (λ b=>b≠B) u (u.setCell ⟨B,i,none⟩ v):=λ u i v=>aG.set _ i v (λ h=>h rfl)
 have Y:bF (aG (λ b=>b≠B) F _):=U ((((((((g F 0 (.int .i64 n)).trans (g _ 1 (.slice bw s.gs.length aS))).trans (g _ 2 (.slice d.kK d.s.es.length d.c1))).trans (g _ 3 (.slice d.bl (n+1) d.c2))).trans (g _ 4 (.slice d.j8 n d.c3))).trans (g _ 5 (.int .i64 d.s.bz))).trans (g _ 6 (.slice d.ku (n+1) d.jo))).trans (g _ 7 (.slice d.j7 d.s.aF.length d.jD)));clear x u E y z g
 go_upto_region 5 with fail
 generalize (((((((F.setCell ⟨B,0,none⟩ (.int .i64 n)).setCell ⟨B,1,none⟩ (.slice bw s.gs.length aS)).setCell ⟨B,2,none⟩ (.slice d.kK d.s.es.length d.c1)).setCell ⟨B,3,none⟩ (.slice d.bl (n+1) d.c2)).setCell ⟨B,4,none⟩ (.slice d.j8 n d.c3)).setCell ⟨B,5,none⟩ (.int .i64 d.s.bz)).setCell ⟨B,6,none⟩ (.slice d.ku (n+1) d.jo)).setCell ⟨B,7,none⟩ (.slice d.j7 d.s.aF.length d.jD)=Q at*;clear br bs bt bx bB bD bE bG aZ c1 c2 c3 jo jD a6 a7 aI aL aN aO aQ aT aV aY aH L M N O P;have a8:z2≠B:=λ e=>by have:=k.o.2.2.2.2.2.1;have:=l.o.2.2.2.2.1;omega
 have Z:=Y.o.blk k.o.2.2.1 a8;have L:=X.o.cell 9;have f9:=X.o.free 9;have u:=Z.cell;have M:=u 0;have N:=u 1;have O:=u 2;have P:=u 3;simp only[x_,w_] at L M N O P;have a':w.heap.size≠B:=λ e=>by have:=l.o.2.2.2.2.2;omega
 have D:=Y.o.blk (l.o.2.1.below k.o.2.2.2.2.2.2) a';have v:=D.cell;have v0:=v 0;have v1:=v 1;have v2:=v 2;have v3:=v 3;have g0:=D.free 0;have g1:=D.free 1;have g2:=D.free 2;have g3:=D.free 3;simp only[x_,w_] at v0 v1 v2 v3;have ba:sp+d.aB<=1099511627776:=by have:=k.o.1.mW;have:=l.o.1.mW;have:=l.o.1.ov;omega
 have wn:j_.wrap ((sp:Int)+(d.aB:Int))=(sp:Int)+(d.aB:Int):=by rw[o_];omega
 have bT:wrap64 ((sp:Int)+(d.aB:Int))=(sp:Int)+(d.aB:Int):=by unfold wrap64;omega
 have aa:=U (z_ ba (z_ a8 (z_ a' (z_ Z D))));clear u v Z D ba;rename_i bH bb;have bJ:=U bb;clear bb;refine wp_region_noPanic ?_
 go_region_law (fail)
 all_goals
  show bH _ _;apply bJ.o
  go_wp2_with fail
 all_goals
  have f5:aG (λ b=>b≠B) Q (Q.setCell ⟨B,9,none⟩ (.int .i64 ((sp:Int)+(d.aB:Int)))):=aG.set _ _ _ (λ h=>h rfl);have bK:aR (Q.setCell ⟨B,9,none⟩ (.int .i64 ((sp:Int)+(d.aB:Int)))) B 155 [.int .i64 n,.slice bw s.gs.length aS,.slice d.kK d.s.es.length d.c1,.slice d.bl (n+1) d.c2,.slice d.j8 n d.c3,.int .i64 d.s.bz,.slice d.ku (n+1) d.jo,.slice d.j7 d.s.aF.length d.jD,.int .i64 aW,.int .i64 ((sp:Int)+(d.aB:Int))]:=X.o.set 9 _;have bO:=f5.blk aa.o.2.2.2.2 aa.o.2.2.1;generalize Q.setCell ⟨B,9,none⟩ (.int .i64 ((sp:Int)+(d.aB:Int)))=ab at*;have ad:=(((bO.set 0 (.int .i64 d.kind)).set 1 (.slice d.aK d.aU d.aJ)).set 2 (.slice d.aX d.bM d.aM)).set 3 (.int .i64 (d.aB:Int));have g:∀(u:World)(i:Nat)(v:Value),aG (λ b=>b≠w.heap.size) u (u.setCell ⟨w.heap.size,i,none⟩ v):=λ u i v=>aG.set _ i v (λ h=>h rfl)
  have f6:aG (λ b=>b≠w.heap.size) ab _:=(((g ab 0 (.int .i64 d.kind)).trans (g _ 1 (.slice d.aK d.aU d.aJ))).trans (g _ 2 (.slice d.aX d.bM d.aM))).trans (g _ 3 (.int .i64 (d.aB:Int)));have ae:=f6.blk bK (λ e=>aa.o.2.2.1 e.symm);generalize (((ab.setCell ⟨w.heap.size,0,none⟩ (.int .i64 d.kind)).setCell ⟨w.heap.size,1,none⟩ (.slice d.aK d.aU d.aJ)).setCell ⟨w.heap.size,2,none⟩ (.slice d.aX d.bM d.aM)).setCell ⟨w.heap.size,3,none⟩ (.int .i64 (d.aB:Int))=bP at*;replace ad:=ad.below (p_ _ _).drew;replace ae:=ae.below (p_ _ _).drew;replace f6:=f6.trans aG.drew;generalize bP.drew=W at*;have C:aG (λ b=>b≠B/\b≠w.heap.size) F W:=((Y.o.mono λ b j=>j.1).trans (f5.mono λ b j=>j.1)).trans (f6.mono λ b j=>j.2);have bU:=k.o.1.bu;have bc:∀W',aG (λ b=>b<W.heap.size/\¬bg b) W W'->_:=λ W' f=>k.o.1.rd W' ((C.mono λ b j=>⟨λ e=>j.2 (.inl (e▸l.o.1.jS)),λ e=>j.2 (.inr (by omega))⟩).trans (f.mono λ b j=>⟨by have:=aE.o;have:=C.size;omega,λ e=>j.2 (.inl e)⟩))
  have t:((sp+d.aB:Nat):Int)=(sp:Int)+(d.aB:Int):=by omega
  have af:=k.o.1.gs;have bV:=k.o.1.es;have bW:=k.o.1.aF;have H:=k.o.1.mW;have bX:=l.o.1.mW;have bY:=l.o.1.pl;have bZ:=l.o.1.el;refine Pv rfl rfl ad ⟨d.s,d.kK,d.c1,d.bl,d.c2,d.j8,d.c3,d.ku,d.jo,d.j7,d.jD,d.aB,d.kind,d.aK,d.aU,d.aJ,d.aX,d.bM,d.aM,rfl,⟨?_,l.o.1.jS,λ b j=>(by have h1:=l.o.1.dl b j;have bq:=k.o.2.2.2.2.2.2.size;have K:=l.o.2.2.1.size;have b0:=C.size;omega),λ W' f=>(bc W' f).1,k.o.1.ok,l.o.1.n10,by omega,l.o.1.ov,by rw[af];exact l.o.1.bL,by omega,by omega,k.o.1.uM,k.o.1.pa⟩,af,H,(bc W aG.refl).2,?_⟩
  ·rw[t,af];exact ae
  ·have q:=l.o.2.2.1;have G:=k.o.2.2.2.2.2.2;have b1:=l.o.2.2.2.2.1;refine⟨C.os.trans (G.os.trans q.os),C.tape.trans (G.tape.trans q.tape),C.output.trans (G.output.trans q.output),q_ q.size (q_ G.size C.size),λ b j J=>?_⟩;exact(C.keep b ⟨λ e=>J (by rw[e]),by omega⟩).trans ((G.block b (by omega)).trans (q.block b j))
structure tZ(w:World)(n:Nat)(s:lp)(bw:Option Addr)(aS:Nat)(jc:Option Addr)(cl:Nat)(A:Option Addr)(c:Nat)(A':Option Addr)(c':Nat)(hM:Option Addr)(gM:Nat)(bA:Option Addr)(bI:Nat):Prop where
 aL:rz w s bw aS jc cl A c A' c' hM gM bA bI
 O:pL n s
 jl:s.es=[]
 pl:s.aF.length=s.gs.length
 uM:bA=none->s.aF.length=0/\bI=0
 wm:bw=none->s.gs.length=0/\aS=0
 pp:Plain bA
 EI:Plain bw
theorem tZ.below{w w':World}{n:Nat}{s:lp}{bw:Option Addr}{aS:Nat}{jc:Option Addr}{cl:Nat}{A:Option Addr}{c:Nat}{A':Option Addr}{c':Nat}{hM:Option Addr}{gM:Nat}{bA:Option Addr}{bI:Nat}(h:tZ w n s bw aS jc cl A c A' c' hM gM bA bI)(b:Below w.heap.size w w'):tZ w' n s bw aS jc cl A c A' c' hM gM bA bI:=
 ⟨h.aL.below b,h.O,h.jl,h.pl,h.uM,h.wm,h.pp,h.EI⟩
def sR(n:Nat):lp:=⟨n,[],[],sv (n+1),rC n,1,tv (n+1),[]⟩
theorem tZ.new{w:World}{n:Nat}{A:Option Addr}{c:Nat}{A':Option Addr}{c':Nat}{hM:Option Addr}{gM:Nat}(k:n<=10)(d:aP w A (n+1) c (sv (n+1)))(f:aP w A' n c' (rC n))(i:kN w hM (n+1) gM (tv (n+1))):
  tZ w n (sR n) none 0 none 0 A c A' c' hM gM none 0:=by
 have b:(tv (n+1)).length=n+1:=by simp[tv]
 refine⟨⟨kE.nil _ _ _ (t_ _),⟨rfl,t_ _,by simp[sR],t_ _,λ h=>(by simp[sR] at h),λ e he=>(by simp[sR] at he)⟩,?_,?_,?_,⟨rfl,t_ _,by simp[sR],t_ _,λ h=>(by simp[sR] at h),λ e he=>(by simp[sR] at he)⟩⟩,?_,rfl,rfl,λ _=>⟨rfl,rfl⟩,λ _=>⟨rfl,rfl⟩,.inl rfl,.inl rfl⟩
 ·show aP w A (sv (n+1)).length c _;rw[wN];exact d
 ·show aP w A' (rC n).length c' _;rw[wM];exact f
 ·show kN w hM (tv (n+1)).length gM _;rw[b];exact i
 ·refine⟨rfl,by simp[sR],λ g j=>(by simp[sR] at j),sL.new n (by omega),b,?_,λ e he=>(by simp[sR] at he),λ e he=>(by simp[sR] at he),List.Pairwise.nil,λ p hp=>(by simp[sR] at hp)⟩;simp[sR,tv,iY]
theorem tZ.add{ai:List Int}{e:Ending}(S:tZ w n s bw aS jc cl A c A' c' hM gM bA bI)(P:IE w n s bw aS bA bI jc cl A c A' c' hM gM ai e W):
  ∃(s':lp)(d:Option Addr)(f:Nat)(g:Option Addr)(i:Nat),e=.returned (.tuple #[.agg #[.int .i64 n,.slice d s'.gs.length f,.slice jc s'.es.length cl,.slice A (n+1) c,.slice A' n c',.int .i64 s'.bz,.slice hM (n+1) gM,.slice g s'.aF.length i],.int .i64 0])/\tZ W n s' d f jc cl A c A' c' hM gM g i/\s'.gs=s.gs++[ai]/\Below w.heap.size w W/\∀j:Nat->Prop,(∀b,j b->b<w.heap.size)->vi w j s bw aS jc cl A c A' c' hM gM bA bI->vi W j s' d f jc cl A c A' c' hM gM g i:=by
 obtain⟨s',d,f,g,i,he,h1,l,k,m,u,v,o,p,q,r,t⟩:=P;refine⟨s',d,f,g,i,he,⟨h1,l,m.trans S.jl,?_,q.2,r,.inr ?_,.inr ?_⟩,k,p,t⟩
 ·rw[o,k,S.pl];simp
 ·obtain⟨b,off,e,_⟩:=h1.aF.cells (by omega);exact⟨b,off,e⟩
 ·obtain⟨b,off,e,_⟩:=h1.gs.cells (by rw[k];simp);exact⟨b,off,e⟩
theorem vi.set{iG:Nat}(S:vi w (λ b=>b=iG) s bw aS jc cl A c A' c' hM gM bA bI)(f:aG (λ b=>b≠iG) w W):vi W (λ b=>b=iG) s bw aS jc cl A c A' c' hM gM bA bI:=
 λ W' e=>S W' ((f.mono λ b d=>d.2).trans (e.mono λ b d=>⟨Nat.lt_of_lt_of_le d.1 f.size,d.2⟩))
theorem tZ.tR(h:tZ w n s bw aS jc cl A c A' c' hM gM bA bI)(b:rz W s bw aS jc cl A c A' c' hM gM bA bI):tZ W n s bw aS jc cl A c A' c' hM gM bA bI:=
 ⟨b,h.O,h.jl,h.pl,h.uM,h.wm,h.pp,h.EI⟩
theorem aG.eight(v0 v1 v2 v3 v4 v5 v6 d:Value):aG (λ b=>b≠B) W ((((((((W.setCell ⟨B,0,none⟩ v0).setCell ⟨B,1,none⟩ v1).setCell ⟨B,2,none⟩ v2).setCell ⟨B,3,none⟩ v3).setCell ⟨B,4,none⟩ v4).setCell ⟨B,5,none⟩ v5).setCell ⟨B,6,none⟩ v6).setCell ⟨B,7,none⟩ d):=by
 have c:∀(u:World)(i:Nat)(v:Value),aG (λ b=>b≠B) u (u.setCell ⟨B,i,none⟩ v):=λ u i v=>aG.set _ i v (λ h=>h rfl)
 exact(((((((c W 0 v0).trans (c _ 1 v1)).trans (c _ 2 v2)).trans (c _ 3 v3)).trans (c _ 4 v4)).trans (c _ 5 v5)).trans (c _ 6 v6)).trans (c _ 7 d)
theorem IJ(x:Int)(A:Option Addr)(nl cl:Nat)(ls:List (List Int))(g:Int)(r:Option Addr)(s c2:Nat)(i:List (List Int))(w:World)(h:kE w A nl cl ls)(t:kE w r s c2 i)(hw:mq i.flatten)(hlen:i.flatten.length<=1000000)(l:Int)(he:kU x ls i.flatten g=l)(m:l≠0):
  Calls u_ 76 #[.agg #[.int .i64 x,.slice A nl cl],.int .i64 g,.slice r s c2] w λ e w'=>e=.returned (.tuple #[.pointer none,.int .i64 l])/\Below w.heap.size w w':=by
 have j:Below w.heap.size w (w.alloc (.cells #[.int .i64 x,.slice A nl cl] 24)):=(p_ _ _).alloc (n_ _) _;have k:=qm.new w x A nl cl;generalize y:w.alloc (.cells #[.int .i64 x,.slice A nl cl] 24)=W at j k;have z:=k.aY;have B:=k.c1;have p:=U (xR x A nl cl ls W (h.below j));have d:=U (z_ j k)
 by_cases c:lS x ls=0
 ·have C:∃n:Nat,x=n/\n<=65536:=by
   by_cases C:x<0\/65536<x
   ·rw[yJ C] at c;cases c
   ·exact⟨x.toNat,by omega,by omega⟩
  obtain⟨n,rfl,H⟩:=C;have u:l=1:=by
   rw[<-he];unfold kU;rw[if_pos c];split
   ·rename_i f;rw[g_,g_,decide_eq_true_eq,decide_eq_true_eq] at f;exact absurd (Ia c f.1.1 f.1.2 f.2) (by rw[he];exact m)
   ·rfl
  subst u;rw[c] at p;have v:bF (∀W',Below W.heap.size W W'->Calls u_ 139 #[.int .i64 n,.slice r s c2] W' λ e w'=>e=.returned (.bool (sM n i.flatten))/\Below W'.heap.size W' w'):=U λ W' I=>Iq n H r s c2 i W' ((t.below j).below I) hw hlen
  cases hm:sM n i.flatten with
  |false=>
   rw[hm] at v;clear h t hw hlen he m j k c hm;go_enter Tryz.func76,Tryz.ntmps76
   go_upto_region 1 with fail
   try rw[y]
   go_upto_region 2 with(go_at_call 107;refine p.o.mono ?_;rintro e w1 ⟨rfl,b⟩;have H1:=U b;have z0:=d.o.2.below b;have z:=z0.aY;have B:=z0.c1;clear z0 b)
   have D:=U (v.o w1 H1.o)
   go_wp2_with (go_at_call 139;refine D.o.mono ?_;rintro e J ⟨rfl,q⟩;have E:=U q;clear q)
   go_ret2
   exact⟨rfl,d.o.1.trans ((H1.o.trans (E.o.mono H1.o.size)).mono d.o.1.size)⟩
  |true=>
   have F:g<0\/¬g<0/\1099511627776<g:=by
    rcases Int.lt_or_le g 0 with f|f
    ·exact .inl f
    ·rcases Int.lt_or_le 1099511627776 g with G|G
     ·exact .inr ⟨by omega,G⟩
     ·exact absurd (Ia c hm f G) (by rw[he];exact m)
   rw[hm] at v;clear h t hw hlen he m j k c hm;rcases F with F|⟨F,K⟩
   all_goals
    go_enter Tryz.func76,Tryz.ntmps76
    go_upto_region 1 with fail
    try rw[y]
    go_upto_region 2 with(go_at_call 107;refine p.o.mono ?_;rintro e w1 ⟨rfl,b⟩;have H1:=U b;have z0:=d.o.2.below b;have z:=z0.aY;have B:=z0.c1;clear z0 b)
    have D:=U (v.o w1 H1.o)
    go_wp2_with (go_at_call 139;refine D.o.mono ?_;rintro e J ⟨rfl,q⟩;have E:=U q;clear q)
    go_ret2
    exact⟨rfl,d.o.1.trans ((H1.o.trans (E.o.mono H1.o.size)).mono d.o.1.size)⟩
 ·have u:lS x ls=l:=by
   rw[<-he];unfold kU;rw[if_neg c]
  rw[u] at p;have L:(l==0)=false:=by simpa using m
  clear h t hw hlen he m j k c u;go_enter Tryz.func76,Tryz.ntmps76
  go_upto_region 1 with fail
  try rw[y]
  go_wp2_with (go_at_call 107;refine p.o.mono ?_;rintro e w1 ⟨rfl,b⟩;have H1:=U b;have z0:=d.o.2.below b;have z:=z0.aY;have B:=z0.c1;clear z0 b)
  go_ret2
  exact⟨rfl,d.o.1.trans (H1.o.mono d.o.1.size)⟩
def PE(w:World)(n:Nat)(ls:List (List Int))(d:Nat)(e:Ending)(W:World):Prop:=
 ∃(B:Nat)(s:lp)(f:Option Addr)(g:Nat)(i:Option Addr)(cl:Nat)(A:Option Addr)(c:Nat)(A':Option Addr)(c':Nat)(j:Option Addr)(k:Nat)(l:Option Addr)(m:Nat),
  e=.returned (.tuple #[.pointer (some ⟨B,0,none⟩),.int .i64 0])/\rV (λ b=>b=B) W B n s f g i cl A c A' c' j k l m d 0/\s.gs=ls/\w.heap.size<=B/\Below w.heap.size w W
theorem IK(n:Nat)(av:n<=10)(A:Option Addr)(nl cl:Nat)(ls:List (List Int))(D:Nat)(ab:Option Addr)(ad c2:Nat)(Q:List (List Int))(w:World)(h:kE w A nl cl ls)(aw:kE w ab ad c2 Q)(hw:mq Q.flatten)(hlen:Q.flatten.length<=1000000)(aM:ls.length<=40000)(he:kU n ls Q.flatten D=0):
  Calls u_ 76 #[.agg #[.int .i64 n,.slice A nl cl],.int .i64 D,.slice ab ad c2] w (PE w n ls D):=by
 have R:Below w.heap.size w (w.alloc (.cells #[.int .i64 n,.slice A nl cl] 24)):=(p_ _ _).alloc (n_ _) _;have S:=qm.new w n A nl cl;generalize bl:w.alloc (.cells #[.int .i64 n,.slice A nl cl] 24)=W at R S;have ax:=S.aY;have ay:=S.c1;have aN:=U (xR n A nl cl ls W (h.below R));have T:=U (z_ R S);obtain⟨az,hm,bn,L⟩:=vg he;obtain⟨aA,_,aO⟩:=Eh az;rw[az] at aN;have bo:bF (∀W',Below W.heap.size W W'->Calls u_ 139 #[.int .i64 n,.slice ab ad c2] W' λ e w'=>e=.returned (.bool true)/\Below W'.heap.size W' w'):=U λ W' E=>by
  have:=Iq n aA ab ad c2 Q W' ((aw.below R).below E) hw hlen;rw[hm] at this;exact this
 have M:¬(D:Int)<0:=by omega
 have V:¬(1099511627776:Int)<(D:Int):=by omega
 have d1:decide ((D:Int)<0)=false:=decide_eq_false M;have d2:decide ((1099511627776:Int)<(D:Int))=false:=decide_eq_false V;have H:=U h;have I:=U (z_ h.len (z_ aM (z_ aO L)));have bp:bF (∀W',Calls u_ 42 #[.int .i64 n] W' λ e w'=>∃(A:Option Addr)(c:Nat)(A':Option Addr)(c':Nat)(u:Option Addr)(v:Nat),e=.returned (.tuple #[.agg #[.int .i64 n,.slice none 0 0,.slice none 0 0,.slice A (n+1) c,.slice A' n c',.int .i64 1,.slice u (n+1) v,.slice none 0 0],.int .i64 0])/\
   aP w' A (n+1) c (sv (n+1))/\aP w' A' n c' (rC n)/\kN w' u (n+1) v (tv (n+1))/\Below W'.heap.size W' w'):=U λ W'=>NR n W' aA
 clear h aw hw hlen he R S az hm bn L aA aO aM;go_enter Tryz.func76,Tryz.ntmps76
 go_upto_region 1 with fail
 try rw[bl]
 go_upto_region 4 with(go_at_call 107;refine aN.o.mono ?_;rintro e w1 ⟨rfl,L⟩;have H1:=U L;have z0:=T.o.2.below L;have ax:=z0.aY;have ay:=z0.c1;clear z0 L)
 have bq:=U (bo.o w1 H1.o)
 go_upto_region 6 with(go_at_call 139;refine bq.o.mono ?_;rintro e bI ⟨rfl,M⟩;have N:=U (z_ M ((T.o.2.below H1.o).below M));have ax:=N.o.2.aY;have ay:=N.o.2.c1;clear M)
 go_upto_region 7 with(go_at_call 42;refine(bp.o _).mono ?_;rintro e J ⟨j,c3,l,m,q,r,rfl,aQ,aS,aT,V⟩;have K:=U (z_ aQ (z_ aS (z_ aT V)));clear aQ aS aT V)
 have aB:=tZ.new av K.o.1 K.o.2.1 K.o.2.2.1;have aU:=aR.new J 47 [.int .i64 n,.slice none 0 0,.slice none 0 0,.slice j (n+1) c3,.slice l n m,.int .i64 1,.slice q (n+1) r,.slice none 0 0];have P:=bC J (.cells #[.int .i64 n,.slice none 0 0,.slice none 0 0,.slice j (n+1) c3,.slice l n m,.int .i64 1,.slice q (n+1) r,.slice none 0 0] 47);have aV:vi (J.alloc (.cells #[.int .i64 n,.slice none 0 0,.slice none 0 0,.slice j (n+1) c3,.slice l n m,.int .i64 1,.slice q (n+1) r,.slice none 0 0] 47)) (λ b=>b=J.heap.size) (sR n) none 0 none 0 j c3 l m q r none 0:=λ W' f=>aB.aL.below (P.trans ⟨f.os,f.tape,f.output,f.size,λ b E=>f.keep b ⟨by have:=P.size;omega,by omega⟩⟩)
 have ae:=U (z_ (aB.below P) (z_ aU (z_ aV (T.o.1.trans ((H1.o.trans ((N.o.1.trans ((K.o.2.2.2.trans (P.mono K.o.2.2.2.size)).mono N.o.1.size)).mono H1.o.size)).mono T.o.1.size)))));have br:bF (w.heap.size<=J.heap.size):=U (q_ T.o.1.size (q_ H1.o.size (q_ N.o.1.size K.o.2.2.2.size)));have aC:=(N.o.2.below K.o.2.2.2).below P;have bJ:=aC.aY;have bK:=aC.c1;clear aB aU P aV aC ax ay;generalize J.alloc (.cells #[.int .i64 n,.slice none 0 0,.slice none 0 0,.slice j (n+1) c3,.slice l n m,.int .i64 1,.slice q (n+1) r,.slice none 0 0] 47)=bL at*;generalize J.heap.size=t at*;clear d1 d2 M V
 go_wp2_with fail
 go_loopw [40,10] (λ i e W=>∃(k:Nat)(s:lp)(F:Option Addr)(G:Nat)(u:Option Addr)(v:Nat),i=.int .i64 k/\k<=nl/\e=.int .i64 0/\aR W t 47 [.int .i64 n,.slice F s.gs.length G,.slice none s.es.length 0,.slice j (n+1) c3,.slice l n m,.int .i64 s.bz,.slice q (n+1) r,.slice u s.aF.length v]/\tZ W n s F G none 0 j c3 l m q r u v/\vi W (λ b=>b=t) s F G none 0 j c3 l m q r u v/\s.gs=ls.take k/\Below w.heap.size w W) (λ i _ _=>nl-(intOf i).toNat)
 case atStart=>exact⟨0,sR n,none,0,none,0,rfl,t_ _,rfl,ae.o.2.1,ae.o.1,ae.o.2.2.1,rfl,ae.o.2.2.2⟩
 case round=>
  obtain⟨k,s,F,G,u,v,rfl,hk,rfl,af,C,aD,X,Y⟩:=hrel;have y:=af.cell;have bs:=y 0;have aW:=y 1;have aX:=y 2;have bt:=y 3;have bu:=y 4;have bw:=y 5;have bx:=y 6;have aZ:=y 7;simp only[x_,w_] at bs aW aX bt bu bw bx aZ;have d:=U (z_ af (z_ C (z_ aD (z_ X Y))));obtain⟨bM,ag⟩:∃x,s.gs.length=x:=⟨_,rfl⟩
  obtain⟨bN,ah⟩:∃x,s.es.length=x:=⟨_,rfl⟩
  obtain⟨bO,ai⟩:∃x,s.aF.length=x:=⟨_,rfl⟩
  by_cases Z:k<nl
  ·have bA:(k:Int)<(nl:Int):=by omega
   obtain⟨b,off,rfl,E,a6⟩:=H.o.cells (by omega);obtain⟨a1,bP,c1,a7,a8⟩:=a6 k Z;have bQ:=(Y.cell (p:=⟨b,off+k,none⟩) E).trans a7;have aj:k<ls.length:=by rw[I.o.1];exact Z
   have bB:=I.o.2.1;have bD:s.gs.length=k:=by rw[X,List.length_take];omega
   have bE:=C.pl;have ak:=Pm C.O av C.aL (a8.below Y) (by rw[ud aj];exact I.o.2.2.1 _ (List.getElem_mem aj)) (by omega) (by omega) C.uM C.wm C.pp C.EI;unfold rT at ak;rw[ag,ah,ai] at ak;rw[ag] at aW;rw[ah] at aX;rw[ai] at aZ;have bG:=U ak;have al:=U (z_ aj Z);have bR:j_.wrap ((k:Int)+1)=(k:Int)+1:=by rw[o_];omega
   clear ak a6 a7 a8 aj Z hk bD bE E y af C aD X Y ag ah ai bB
   go_upto_region 12 with(go_at_call 46;refine bG.o.mono ?_;intro e aE a';obtain⟨s',an,ao,aq,ar,rfl,ba,bb,aH,bc⟩:=d.o.2.1.add a';have aa:=U (z_ ba (z_ bb (z_ aH bc)));have aI:=d.o.1.below aH;have z:=aI.cell;have z0:=z 0;have bd:=z 1;have z2:=z 2;have z3:=z 3;have z4:=z 4;have z5:=z 5;have bf:=z 6;have bg:=z 7;have g:=aI.free;have g0:=g 0;have g1:=g 1;have g2:=g 2;have g3:=g 3;have g4:=g 4;have g5:=g 5;have g6:=g 6;have g7:=g 7;simp only[x_,w_] at z0 bd z2 z3 z4 z5 bf bg;clear z g aI ba bb aH bc a')
   have bh:=aR.CC (show aR aE t 47 [.int .i64 n,.slice F s.gs.length G,.slice none s.es.length 0,.slice j (n+1) c3,.slice l n m,.int .i64 s.bz,.slice q (n+1) r,.slice u s.aF.length v] from d.o.1.below aa.o.2.2.1) (.int .i64 n) (.slice an s'.gs.length ao) (.slice none s'.es.length 0) (.slice j (n+1) c3) (.slice l n m) (.int .i64 s'.bz) (.slice q (n+1) r) (.slice aq s'.aF.length ar);have f8:=aG.eight (W:=aE) (B:=t) (.int .i64 n) (.slice an s'.gs.length ao) (.slice none s'.es.length 0) (.slice j (n+1) c3) (.slice l n m) (.int .i64 s'.bz) (.slice q (n+1) r) (.slice aq s'.aF.length ar);generalize (((((((aE.setCell ⟨t,0,none⟩ (.int .i64 n)).setCell ⟨t,1,none⟩ (.slice an s'.gs.length ao)).setCell ⟨t,2,none⟩ (.slice none s'.es.length 0)).setCell ⟨t,3,none⟩ (.slice j (n+1) c3)).setCell ⟨t,4,none⟩ (.slice l n m)).setCell ⟨t,5,none⟩ (.int .i64 s'.bz)).setCell ⟨t,6,none⟩ (.slice q (n+1) r)).setCell ⟨t,7,none⟩ (.slice aq s'.aF.length ar)=bS at*;clear z0 bd z2 z3 z4 z5 bf bg g0 g1 g2 g3 g4 g5 g6 g7;have bj:=(aa.o.2.2.2 (λ b=>b=t) (λ b e=>e▸d.o.1.lt) d.o.2.2.1).set f8;have au:=U (z_ bh (z_ f8 bj));clear bh f8 bj
   go_wp2_with fail
   go_roundw
   case rel=>
    refine⟨k+1,s',an,ao,aq,ar,by go_num,by have:=al.o.2;omega,rfl,au.o.1,aa.o.1.tR (au.o.2.2 _ aG.refl),au.o.2.2,?_,?_⟩
    ·rw[aa.o.2.1,d.o.2.2.2.1,ud al.o.1,k_ al.o.1]
    ·have f8:=au.o.2.1;exact d.o.2.2.2.2.trans ((aa.o.2.2.1.mono d.o.2.2.2.2.size).trans ⟨f8.os,f8.tape,f8.output,f8.size,λ b E=>f8.keep b (by have:=br.o;omega)⟩)
   case measure=>have:=al.o.2;simp[intOf];omega
  ·have bA:¬(k:Int)<(nl:Int):=by omega
   have bH:k=nl:=by omega
   have bk:s.gs=ls:=by rw[X,m_ (by rw[I.o.1];omega)]
   have aJ:=U bk;clear X bk af C aD Y ag ah ai y bH Z hk
   go_wp2_with fail
   go_ret2
   have aK:=bC wr (.cells #[.int .i64 n,.slice F s.gs.length G,.slice none s.es.length 0,.slice j (n+1) c3,.slice l n m,.int .i64 s.bz,.slice q (n+1) r,.slice u s.aF.length v,.int .i64 D,.int .i64 0] 155);refine⟨wr.heap.size,s,F,G,none,0,j,c3,l,m,q,r,u,v,rfl,⟨aR.new wr 155 [.int .i64 n,.slice F s.gs.length G,.slice none s.es.length 0,.slice j (n+1) c3,.slice l n m,.int .i64 s.bz,.slice q (n+1) r,.slice u s.aF.length v,.int .i64 D,.int .i64 0],rfl,λ b E=>(by subst E;simp),λ W' f=>d.o.2.1.aL.below (aK.trans ⟨f.os,f.tape,f.output,f.size,λ b E=>f.keep b ⟨by have:=aK.size;omega,by omega⟩⟩),d.o.2.1.O,av,t_ _,by have:=I.o.2.2.2;omega,by rw[aJ.o];exact I.o.2.1,?_,by rw[d.o.2.1.jl];rfl,d.o.2.1.uM,λ h=>d.o.2.1.pp.resolve_left h⟩,aJ.o,d.o.2.2.2.2.size,d.o.2.2.2.2.trans (aK.mono d.o.2.2.2.2.size)⟩;have h1:=d.o.2.1.pl;have aw:=I.o.2.1;rw[aJ.o] at h1;omega
end
section
open Go.Shelf
def Tryz.PF:Go.Shelf.Ren:=⟨λ|45=>80|n=>n,λ|22=>25|23=>3|3=>3|4=>4|0=>0|n=>n,λ|n=>n⟩
theorem Tryz.PG:Go.Proofs.SlLaysE.n45 u_ Tryz.PF:={
 mixed:=by kernel_rfl
 f45:=⟨Tryz.f80.name,by decide,Tryz.func80.trans (congrArg some (by kernel_rfl))⟩
 t0:=Tryz.underlying0
 a0:=Tryz.isAgg0
 z0:=Tryz.sizeOf0
 v0:=Tryz.zeroValue0
 t3:=Tryz.underlying3
 a3:=Tryz.isAgg3
 z3:=Tryz.sizeOf3
 v3:=Tryz.zeroValue3
 t4:=Tryz.underlying4
 a4:=Tryz.isAgg4
 z4:=Tryz.sizeOf4
 v4:=Tryz.zeroValue4
 t22:=Tryz.underlying25
 a22:=Tryz.isAgg25
 z22:=Tryz.sizeOf25
 v22:=Tryz.zeroValue25
 a23:=Tryz.isAgg3
 z23:=Tryz.sizeOf3}
open Go.RowKit Go.Sort Go.Lib
theorem PI(w:World)(base g n cap:Nat)(b:List Int)(h:Own w base g n cap b)(d:base<=g)(i:Nat)(t:i<n):
  Calls u_ 80 #[.slice (some ⟨g,0,none⟩) n cap,.int .i64 i,.int .i64 ((i:Int)+1)] w λ e w'=>
   e=.returned (.slice (some ⟨g,0,none⟩) (n-1) cap)/\w'.ownsRow base 3 1 (.slice (some ⟨g,0,none⟩) (n-1) cap) (n-1) ((b.eraseIdx i).map (Value.int .i64))/\Below base w w':=by
 have h':w.ownsRow base 3 1 (.slice (some ⟨g,0,none⟩) n cap) n (b.map oV):=h;obtain⟨u,v,he,h1,y,z,f,j,l⟩:=holds_of_ownsRow h' (by intro e;cases e)
 cases he
 have m:cap<=9223372036854775807:=by unfold maxLen at f;omega
 have o:b.toArray.size=n:=by simp[j]
 obtain⟨i0,p,A,r,B⟩:=info_parts xS;have c:=AnyE.slices_Delete Tryz.PG oV zn 0 Tryz.zeroValue3 i0 p r g 0 cap i (i+1) b.toArray w l (by omega) m (by omega) (by omega);rw[o] at c;have s:i+1-i=1:=by omega
 rw[s] at c;refine Calls.mono c ?_;rintro e w' ⟨rfl,q,rfl⟩;refine⟨rfl,?_,below_putRow (p_ _ _) d⟩;have hl:(b.take i++b.drop (i+1)).length=n-1:=by rw[r_,List.length_take,List.length_drop];omega
 have:=ownsRow_putRow (q:=q) (k:=n-1) (ys:=(b.take i++b.drop (i+1))++List.replicate 1 0) h' (by rw[r_,hl];simp;omega) (by omega);rw[List.take_left' hl] at this;rw[List.eraseIdx_eq_take_drop_succ];exact this
end
section
open Go.RowKit Go.Shelf Go.Sort Go.Lib
theorem PJ(w:World)(ty:TypeId)(n:Nat)(b:0<n)(r:n<=1000000):
  ∃v' w',(Builtin.append_ #[25,3] ty #[.slice none 0 0,.int .i64 n]).run u_ w=.ok v' w'/\(∃c,v'=.slice (some ⟨w.heap.size,0,none⟩) n c/\n<=c/\w'.ownsRow w.heap.size 3 1 (.slice (some ⟨w.heap.size,0,none⟩) 0 c) 0 [])/\Below w.heap.size w w':=by
 obtain⟨i0,d,e,f,g⟩:=info_parts xS;have i:n≠0:=by omega
 have j:=grownCap_ge w n 0 3;have k:grownCap w n 0 3<=maxLen:=grownCap_le_maxLen w n 0 3 (by unfold maxLen;omega);have l:¬(9223372036854775807<(n:Int)):=by omega
 have m:¬(281474976710656<Builtin.nextslicecap n 0*8):=by rw[nextslicecap_zero b];omega
 have wn:j_.wrap (n:Int)=(n:Int):=by rw[o_];omega
 have o:¬(n:Int)<0:=by omega
 have p:¬(281474976710656<(n:Int)*8):=by omega
 have hle:¬(n:Int)<=0:=by omega
 have q:¬(9223372036854775807<max (n:Int) 0):=by omega
 refine⟨.slice (some ⟨w.heap.size,0,none⟩) n (grownCap w n 0 3),w.drew.alloc (.cells (Zz #[.int .i64 0] n++Zz #[.int .i64 0] (grownCap w n 0 3-n)) 3),?_,⟨_,rfl,j,?_⟩,(p_ _ _).drew.trans (bC w.drew _)⟩
 ·simp[Builtin.append_,run_underlying Tryz.underlying25,run_underlying Tryz.underlying3,sizeOf,typeInfo,zeroValue,d,e,f,g,Builtin.lenOf,Builtin.firstCells,i,l,m,Question.forced,newRow,grownCap,asInt,asIntOf,wn,o,p,hle,q];rfl
 ·refine⟨rfl,.inr ⟨w.heap.size,_,_,rfl,n_ _,heap_alloc_new w.drew _,t_ _,k,?_,by simp⟩⟩;simp only[Array.size_append,size_zeroCells];show n*1+(grownCap w n 0 3-n)*1=_;omega
theorem PK{rest:List Oper}{o:Oper}(b:o.guard=none)(s x:Operand)
  (d:o.op=.call {callee:=.builtin .append,args:= #[s,x],argTypes:= #[25,3]}) (n:Nat) (hs:a.eval s=.slice none 0 0) (e:a.eval x=.int .i64 n) (f:0<n) (g:n<=1000000)
  (h:∀c w',n<=c->w'.ownsRow w.heap.size 3 1 (.slice (some ⟨w.heap.size,0,none⟩) 0 c) 0 []->Below w.heap.size w w'->wpList u_ ops Q rest (a.put o.dst (.slice (some ⟨w.heap.size,0,none⟩) n c)) w'):
  wpList u_ ops Q (o::rest) a w:=by
 obtain⟨v',w',h1,⟨c,rfl,i,j⟩,k⟩:=PJ w o.type n f g;refine wpList_plain b λ K l=>?_
 unfold Oper.wp;simp only[execOp,d,resolve,invoke,builtin,Sem.run_bind,Sem.run_pure,Result.andThen_ok,f_,d_,a_,hs,e,h1];exact l _ _ (h c w' i j k)
theorem PL(n:Nat)(g:n<=1000000)(w:World):Calls u_ 143 #[.slice none 0 0,.int .i64 n] w λ e w'=>∃A c,e=.returned (.slice A 0 c)/\w'.ownsRow w.heap.size 3 1 (.slice A 0 c) 0 []/\Below w.heap.size w w':=by
 have h1:¬(n:Int)<0:=by omega
 have wn:j_.wrap (n:Int)=(n:Int):=by rw[o_];omega
 have k:wrap64 (n:Int)=(n:Int):=by unfold wrap64;omega
 by_cases i:0<n
 ·have j:(0:Int)<(n:Int):=by omega
  go_enter Tryz.func143,Tryz.ntmps143
  go_wp2_with (at_builtin;refine PK rfl (.tmp 20) (.tmp 21) rfl n rfl rfl i g ?_;intro c w' l b d;have f:=U (z_ b d);clear b d)
  go_ret;exact⟨_,_,rfl,f.o.1,f.o.2⟩
 ·have j:¬(0:Int)<(n:Int):=by omega
  obtain rfl:n=0:=by omega
  go_enter Tryz.func143,Tryz.ntmps143
  go_wp2;go_ret;exact⟨none,0,rfl,World.ownsRow_nil _ _ _ _,p_ _ _⟩
theorem EJ(b:i<ls.length):(ls.take (i+1)).flatten=(ls.take i).flatten++om ls i:=by
 rw[ud b,k_ b,List.flatten_append];simp
theorem IL(i:Nat):(ls.take i).flatten.length<=ls.flatten.length:=by
 have h:ls.flatten=(ls.take i).flatten++(ls.drop i).flatten:=by rw[<-List.flatten_append,List.take_append_drop]
 rw[h,r_];omega
theorem PM(A:Option Addr)(nl cl:Nat)(ls:List (List Int))(w:World)(h:kE w A nl cl ls)(t:List Int)(E:ls.flatten=t)(hlen:t.length<=1000000):
  Calls u_ 87 #[.slice A nl cl] w λ e w'=>∃p c2,e=.returned (.slice p t.length c2)/\w'.ownsRow w.heap.size 3 1 (.slice p t.length c2) t.length (t.map (Value.int .i64))/\Below w.heap.size w w':=by
 have aa:=h.small;have H:=U h;rw[<-E] at hlen;have u:=U (z_ h.len hlen);have J:=U E;clear h hlen E;go_enter Tryz.func87,Tryz.ntmps87
 go_wp2
 go_loop [11,3] (λ i q=>∃k:Nat,k<=nl/\i=.int .i64 k/\q=.int .i64 ((ls.take k).flatten.length:Nat)) (λ i _=>nl-(intOf i).toNat)
 case atStart=>exact⟨0,t_ _,rfl,rfl⟩
 case round=>
  obtain⟨k,hk,rfl,rfl⟩:=hrel
  by_cases d:k<nl
  ·obtain⟨b,off,rfl,l,z⟩:=H.o.cells (by omega);obtain⟨a1,f,c1,R,y⟩:=z k d;have K:k<ls.length:=by rw[u.o.1];exact d
   have F:(k:Int)<(nl:Int):=by omega
   have c:(ls.take (k+1)).flatten.length=(ls.take k).flatten.length+f:=by rw[EJ K,r_,y.len]
   have hle:=IL (ls:=ls) (k+1);have r:=u.o.2;obtain⟨m,hm⟩:∃m,(ls.take k).flatten.length=m:=⟨_,rfl⟩
   rw[hm] at c⊢;have S:=U c;have n:=U d;have ab:¬(m:Int)+(f:Int)<0:=by omega
   have wn:j_.wrap ((m:Int)+(f:Int))=(m:Int)+(f:Int):=by rw[o_];omega
   have ad:wrap64 ((m:Int)+(f:Int))=(m:Int)+(f:Int):=by unfold wrap64;omega
   clear z l y K d hk c hle r hm;go_wp2
   go_round
   case rel=>exact⟨k+1,by have:=n.o;omega,by go_num,by rw[S.o];go_num⟩
   case measure=>have:=n.o;simp[intOf];omega
  ·have F:¬(k:Int)<(nl:Int):=by omega
   have c:(ls.take k).flatten=ls.flatten:=by rw[m_ (by rw[u.o.1];omega)]
   have r:=u.o.2;rw[c];obtain⟨m,hm⟩:∃m,ls.flatten.length=m:=⟨_,rfl⟩
   rw[hm] at r⊢;have T:=U (PL m r);have ae:=U hm;clear c hm d hk r
   go_wp2_with (go_at_call 143;refine(T.o _).mono ?_;rintro e w1 ⟨V,c1,rfl,B,l⟩;have L:=U (z_ B l);clear B l)
   go_loopw [27,6] (λ i q W=>∃(j:Nat)(p:Option Addr)(c2:Nat),j<=nl/\i=.int .i64 j/\q=.slice p (ls.take j).flatten.length c2/\W.ownsRow w.heap.size 3 1 (.slice p (ls.take j).flatten.length c2) (ls.take j).flatten.length ((ls.take j).flatten.map (Value.int .i64))/\Below w.heap.size w W) (λ i _ _=>nl-(intOf i).toNat)
   case atStart=>exact⟨0,V,c1,t_ _,rfl,rfl,L.o.1,L.o.2⟩
   case round=>
    obtain⟨j,p,c2,M,rfl,rfl,B,l⟩:=hrel;have s:=U (z_ B l);clear B l
    by_cases d:j<nl
    ·obtain⟨b,off,rfl,l,z⟩:=(H.o.below s.o.2).cells (by omega);obtain⟨a1,f,X,R,y⟩:=z j d;have G:j<ls.length:=by rw[u.o.1];exact d
     have F:(j:Int)<(nl:Int):=by omega
     have c:(ls.take (j+1)).flatten.length=(ls.take j).flatten.length+f:=by rw[EJ G,r_,y.len]
     have hle:=IL (ls:=ls) (j+1);have r:=u.o.2;have n:=U (z_ d (z_ G (z_ c (z_ y (z_ hle r)))));obtain⟨q,v⟩:∃q,(ls.take j).flatten.length=q:=⟨_,rfl⟩
     rw[v];have D:=U v;clear z l y G d M c hle r v
     go_wp2_with (at_builtin;refine rB rfl (.tmp 31) (.tmp 32) rfl w.heap.size (.slice p q c2) q (ls.take j).flatten rfl (by rw[<-D.o];exact s.o.1) a1 f X _ rfl n.o.2.2.2.1 (by have:=n.o;have:=D.o;omega) s.o.2.size ?_;intro v9 bE I;obtain⟨⟨N,kf,O⟩,Y,C⟩:=ay.kZ I.1;obtain rfl:v9=.slice N kf O:=Y;have P:=U I;have Z:=U C;clear I C)
     go_roundw
     case rel=>
      have C:kf=q+f:=Z.o;have c:=n.o.2.2.1;rw[D.o] at c;refine⟨j+1,N,O,by have:=n.o;omega,by go_num,by rw[c,C],?_,?_⟩
      ·rw[c,EJ n.o.2.1];have h1:=P.o.1;rw[C] at h1;exact h1
      ·exact tn s.o.2 P.o.2.1 s.o.2.size (λ g e=>(s.o.1.lt g (by rw[D.o];exact e)).1)
     case measure=>have:=n.o;simp[intOf];omega
    ·have F:¬(j:Int)<(nl:Int):=by omega
     have c:(ls.take j).flatten=ls.flatten:=by rw[m_ (by rw[u.o.1];omega)]
     have h1:=s.o;rw[c,J.o] at h1;rw[c,J.o];obtain⟨q,v⟩:∃q,t.length=q:=⟨_,rfl⟩
     rw[v] at h1⊢;have H1:=U h1;have Q:=U v;clear c d M h1 v s;go_wp2;go_ret;exact⟨p,c2,by rw[Q.o];rfl,by rw[Q.o];exact H1.o.1,H1.o.2⟩
end
end Go.Proofs.YtogdlkfacflmaaaGreat
