/- Parts of the walk of the solver and its core; no condition. -/
import Derived.Test.YtogdlkfacflmaaaGreatZZ14
import Derived.Test.YtogdlkfacflmaaaGreatZZ3
import Derived.Test.YtogdlkfacflmaaaGreatZZ13
import Derived.Test.YtogdlkfacflmaaaGreatZZ6
import Derived.Test.YtogdlkfacflmaaaGreatZZ4
import Derived.Test.YtogdlkfacflmaaaGreatZZ10
import Derived.Test.YtogdlkfacflmaaaGreatZZ5
import Derived.Test.YtogdlkfacflmaaaGreatZZ1
namespace Go.Proofs.YtogdlkfacflmaaaGreat
set_option linter.unusedVariables false
set_option linter.unusedSimpArgs false
set_option maxRecDepth 100000
set_option maxHeartbeats 8000000
open _root_.List renaming replicate→z_,length_map→v_,getElem_map→s_,map_toArray→o_,take_of_length_le→m_,map_cons→j_,mem_append→h_,map_nil→g_,all_eq_true→d_,take_succ_eq_append_getElem→b_,mem_iff_getElem→a_,map_append→Zz,eq_nil_of_length_eq_zero→Zy,mem_take_iff_getElem→Zt,pairwise_iff_getElem→Zs,getElem?_eq_some_iff→Zq,getElem_mem→Zp,mem_map→Zk
open _root_.Or renaming inl→y_
open _root_.Go.World renaming cell?_of_block→x_
open _root_.Array renaming getD_eq_getD_getElem?→w_,replicate→n_,all_eq_true_iff_forall_mem→c_,getElem?_eq_getElem→Zr,mem_of_getElem?→Zn
open _root_.Go.Result renaming andThen_ok→u_
open _root_.Bool renaming and_eq_true→t_,or_eq_false_iff→Zm
open _root_.Go.IntKind renaming wrap_i64→r_,i64→i_
open _root_.Go.Proofs.Tryz renaming prog→q_
open _root_.Go.Value renaming int→p_,slice→Zx,pointer→Zu,bool→Zl
open _root_.Go.Sem renaming run_bind→l_,run_pure→k_
open _root_.Nat renaming lt_of_lt_of_le→f_,le_refl→e_,eq_zero_or_pos→Zw,le_trans→Zh
open _root_.Go.Region renaming wanted→Zv,binds→Zj,ready→Zi
open _root_.Int renaming le_refl→Zo
variable{n k G i b size base c j bG:Nat}{ah:List Int}{ls F:List (List Int)}{aJ:Int}{ws:List (List Nat)}{iq:World->Prop}{mk:Nat->Bool}{w w' W:World}{v:Value}{e:TypeId}{xs:List Value}{h jB:ax}{hs:Nat->ax}{cb:Nat->Nat}{K:Nat->Prop}{s:k7}{S:aq}{A:Option Addr}{es:List nx}
section
open Go.RowKit
def tI(n:Int)(x:Int):Bool:=decide (1<=x.natAbs)&&decide ((x.natAbs:Int)<=n)
def r8(n:Int)(a:List Int):Bool:=a.all (tI n)&&decide ((a.map aC).Nodup)
def pG(n:Int)(a:List Int)(k:Nat):Bool:= !(tI n (je a k))||hasB ((a.take k).map λ x=>(aC x:Int)) (aC (je a k):Int)
theorem x5{n:Int}(h:k<ah.length)(a:pG n ah k=true):r8 n ah=false:=by
 cases hm:r8 n ah with
 |false=>rfl
 |true=>
  exfalso;unfold r8 at hm;rw[t_,d_,decide_eq_true_eq] at hm;unfold pG at a;rw[oN h,Bool.or_eq_true] at a;rcases a with a|a
  ·rw[hm.1 _ (Zp h)] at a;cases a
  ·obtain⟨y,b,c⟩:=Zk.1 (u0.1 a);obtain⟨j,d,e⟩:=Zt.1 b;have h1:=Zs.1 hm.2 j k (by rw[v_];omega) (by rw[v_];omega) (by omega);rw[s_,s_,e] at h1;exact h1 (by have:(aC y:Int)=(aC ah[k]:Int):=c;omega)
theorem HL{n:Int}(b:∀k,k<ah.length->pG n ah k=false):r8 n ah=true:=by
 unfold r8;rw[t_,d_,decide_eq_true_eq];constructor
 ·intro x c;obtain⟨k,hk,e⟩:=a_.1 c;have:=b k hk;unfold pG at this;rw[oN hk,Zm,e] at this;simpa using this.1
 ·rw[List.Nodup,Zs];intro i j d a g e;rw[v_] at d a;have:=b j a;unfold pG at this;rw[oN a,Zm] at this;rw[s_,s_] at e;have f:hasB ((ah.take j).map λ x=>(aC x:Int)) (aC ah[j]:Int)=true:=u0.2 (Zk.2 ⟨ah[i],Zt.2 ⟨i,by omega,rfl⟩,by show(aC ah[i]:Int)=_;rw[e]⟩);rw[f] at this;cases this.2
theorem Cc(h:r8 n ah=true):(∀x∈ah,gK n x)/\(ah.map aC).Nodup:=by
 unfold r8 at h;rw[t_,d_,decide_eq_true_eq] at h;refine⟨λ x a=>?_,h.2⟩;have:=h.1 x a;unfold tI at this;rw[t_,decide_eq_true_eq,decide_eq_true_eq] at this;exact⟨this.1,by unfold aC;omega⟩
def ny(n:Int)(ls:List (List Int))(b:List Int)(a:Int):Int:=
 if lM n ls=0 then (if r8 n b&&decide (0<=a)&&decide (a<=1099511627776) then 0 else 1) else lM n ls
theorem y6{n:Int}(h:ny n ls ah aJ=0):lM n ls=0/\r8 n ah=true/\0<=aJ/\aJ<=1099511627776:=by
 unfold ny at h
 by_cases a:lM n ls=0
 ·rw[if_pos a] at h;split at h
  ·rename_i h1;rw[t_,t_,decide_eq_true_eq,decide_eq_true_eq] at h1;exact⟨a,h1.1.1,h1.1.2,h1.2⟩
  ·cases h
 ·rw[if_neg a] at h;exact absurd h a
theorem HM{n:Int}(a:lM n ls=0)(h1:r8 n ah=true)(b:0<=aJ)(c:aJ<=1099511627776):ny n ls ah aJ=0:=by
 unfold ny;rw[if_pos a,h1,decide_eq_true b,decide_eq_true c];rfl
structure w8(F:List (List Int))(n:Nat)(ah:List Int)(m:List Bool):Prop where
 len:m.length=n+1
 m0:iE m 0=false
 sat:∀g∈F,sN (lB m) g
 ah:∀x∈ah,lB m x=true
def vo(F:List (List Int))(n:Nat)(a:List Int)(b:Nat)(kind:Int)(m:List Bool)(core:List Int)(c:Nat):Prop:=
 c<=b/\((kind=1/\core=[]/\w8 F n a m)\/(kind=2/\m=[]/\core.Sublist a/\¬Can F core/\∀j,j<core.length->Can F (core.eraseIdx j))\/
  (kind=3/\m=[]/\c=b/\b<=59048/\core.Sublist a/\(core=[]\/¬Can F core)))
def w9(F:List (List Int))(n:Nat)(keep a:List Int)(b:Nat)(kind:Int)(m:List Bool)(core:List Int)(c:Nat):Prop:=
 c<=b/\((kind=1/\w8 F n keep m/\core=a.filter (λ x=> !(lB m x))/\∀x∈core,¬Can F (keep++a.filter (lB m)++[x]))\/(kind=2/\m=[]/\core.Sublist keep/\¬Can F core)\/
  (kind=3/\c=b/\b<=59048/\(m=[]/\core=[]\/w8 F n keep m/\core=a.filter (λ x=> !(lB m x)))))
theorem w8.can{m:List Bool}(h:w8 F n ah m):Can F ah:=⟨lB m,⟨Da _,h.sat⟩,h.ah⟩
end
section
open Go.RowKit
def nA(v u:Value):Prop:=∀b,v.ownBlock=some b->u.ownBlock≠some b
def y7(mk:Nat->Bool)(L:Nat->Bool)(vals:Nat->Value):Prop:=∀j k,j≠k->mk j=true->mk k=true->L j=true->L k=true->nA (vals j) (vals k)
def Cd(G:Nat->Value->World->Prop)(mk:Nat->Bool):Prop:=∀j u w,mk j=true->G j u w->∀b,u.ownBlock=some b->b<w.heap.size
def Aq(ws:List (List Nat))(iq:World->Prop)(G:Nat->Value->World->Prop)(mk:Nat->Bool)(i:Nat)(w:World)(v:Value)(w':World):Prop:=
 iq w'/\G i v w'/\(∀j u,j≠i->o8 ws 8 j i=false->G j u w->G j u w')/\(mk i=true->∀b,v.ownBlock=some b->w.heap.size<=b)
theorem Aq.same{G:Nat->Value->World->Prop}(a:iq w)(h:G i v w)(hk:mk i=false):Aq ws iq G mk i w v w:=⟨a,h,λ _ _ _ _ h=>h,λ h=>by rw[hk] at h;cases h⟩
theorem Aq.more{G:Nat->Value->World->Prop}(hm:∀j u w w',Below w.heap.size w w'->G j u w->G j u w')(a:Below w.heap.size w w')(c:iq w')(h:G i v w')(hk:mk i=true->∀b,v.ownBlock=some b->w.heap.size<=b):Aq ws iq G mk i w v w':=⟨c,h,λ j u _ _ h=>hm j u w w' a h,hk⟩
def Ar(P:Program)(ds:List (Option Tmp))(ws:List (List Nat))(old:List (Tmp×Value))(iq:World->Prop)(G:Nat->Value->World->Prop)(mk:Nat->Bool)(i:Nat)(o:Oper):Prop:=
 ∀(vals:Nat->Value)(w:World)(a:Operand->Value),iq w->rU ds G (λ _=>none) i vals w a o.after.toList->rG ds ws i a old->rH a->(∀j k,j≠k->mk j=true->mk k=true->qZ ws i j=true->qZ ws i k=true->nA (vals j) (vals k))->
  bD P a o w (Aq ws iq G mk i w)
def xb(P:Program)(ds:List (Option Tmp))(ws:List (List Nat))(old:List (Tmp×Value))(iq:World->Prop)(G:Nat->Value->World->Prop)(mk:Nat->Bool):Nat->List Oper->Prop
 |_,[]=>True
 |k,o::r=>Ar P ds ws old iq G mk k o/\xb P ds ws old iq G mk (k+1) r
theorem xb.at{P:Program}{ds:List (Option Tmp)}{ws:List (List Nat)}{old:List (Tmp×Value)}{iq:World->Prop}{G:Nat->Value->World->Prop}{mk:Nat->Bool}:∀{l:List Oper}{k i:Nat}{o:Oper},xb P ds ws old iq G mk k l->l[i]? =some o->Ar P ds ws old iq G mk (k+i) o
 |[],k,i,o,_,h=>by simp at h
 |x::l,k,0,o,hs,h=>by
  simp only[List.getElem?_cons_zero,Option.some.injEq] at h;subst h;exact hs.1
 |x::l,k,i+1,o,hs,h=>by
  rw[List.getElem?_cons_succ] at h;have:=xb.at hs.2 h
  rwa[show k+1+i=k+(i+1) by omega] at this
section
variable {P:Program}{l:List Oper}{Q:Exit->Act->World->Prop}{a:Act}{old:List (Tmp×Value)}{iq:World->Prop}{G:Nat->Value->World->Prop}{mk:Nat->Bool}
theorem NN{ds:List (Option Tmp)}{ws:List (List Nat)}(J:ws=l.map λ o:Oper=>(o.after.toList.filter (Zj .any)).map (·.on))(M:ds=l.map λ o:Oper=>o.dst)(N:sn l.toArray=true)(B:qh l.toArray=true)(Y:sq l.toArray a.tmps.size=true)
  (hold:p0 a.eval old) (O:Cd G mk)
  {i:Nat} {o:Oper} (n:l.toArray[i]? =some o) (R:Ar P ds ws old iq G mk i o) {listed:Array Bool} {vals:Nat->Value} {w:World} {K:Act->World->Prop} (az:listed.size=l.toArray.size) (Z:iq w) (hF:ud G (λ _=>none) (gO listed) vals w) (S:y7 mk (gO listed) vals)
  (aa:i∈Zi .any l.toArray listed) (hC:q3 ws (gO listed))
  (ab:∀v w',iq w'->q3 ws (gO (listed.setIfInBounds i true))->ud G (λ _=>none) (gO (listed.setIfInBounds i true)) (kU vals i v) w'->y7 mk (gO (listed.setIfInBounds i true)) (kU vals i v)->K (jJ l.toArray (kU vals i v) (gO (listed.setIfInBounds i true)) a l.toArray.size) w'):
  wpOp P l.toArray Q i K (jJ l.toArray vals (gO listed) a l.toArray.size) w:=by
 obtain⟨h1,T,ad,U,C⟩:=ue aa;obtain rfl:o=ad:=by rw[n] at U;injection U
 have r:i<listed.size:=by omega
 have y:gO listed i=false:=by
  unfold gO;rw[w_,Zr r] at T⊢;simpa using T
 have V:∀j,qZ ws i j=true->gO listed j=true:=λ j d=>by
  obtain⟨ae,m,e,he,t,D⟩:=xH J d;rw[n] at m;injection m with m
  subst m;have:=C e he t;rw[D] at this;exact this
 unfold wpOp;simp only[n];have af:o.guard=none:=by
  unfold qh at B;rw[c_] at B;have:=B o (Zn n);simpa using this
 have hw:Zv o (yielded l.toArray (jJ l.toArray vals (gO listed) a l.toArray.size).tmps)=true:=by unfold Zv;rw[af]
 rw[if_pos hw];left;unfold Ar at R;have ag:=R vals w (jJ l.toArray vals (gO listed) a l.toArray.size).eval Z (rU.of λ e he t=>by
  have hl:=C e (Array.mem_toList_iff.1 he) t;have ah:e.on<l.toArray.size:=by
   rcases Nat.lt_or_ge e.on listed.size with h|h
   ·omega
   ·rw[w_,Array.getElem?_eq_none h] at hl;cases hl
  refine⟨λ u=>hF e.on hl λ c f=>?_,λ s hs=>?_⟩
  ·rcases u with u|u
   ·rw[u] at f;cases f
   ·rw[u] at f;injection f with f
    rw[<-f];exact y
  ·rw[M,<-wD] at hs;exact yw hs (A8 Y hs) hl (λ k hk=>wB N hk hs) _ ah) (rG.of (λ s hs=>yu (λ j s' hl d E=>by
   injection E with E
   subst E;rw[wD,<-M] at d;have:=hC j i hl (A7 hs d);rw[y] at this;cases this) _) hold) (rH.act _) (λ j k z m1 m2 w1 ai=>S j k z m1 m2 (V j w1) (V k ai))
 refine ag.wp λ v w' ⟨aj,ak,al,W⟩=>?_
 have an:(jJ l.toArray vals (gO listed) a l.toArray.size).put o.dst v=jJ l.toArray (kU vals i v) (gO (listed.setIfInBounds i true)) a l.toArray.size:=by
  rw[oF r];have ao:oo l.toArray i=o.dst:=by unfold oo;rw[n];rfl
  have:=zC (ops:=l.toArray) (vals:=vals) (L:=gO listed) (a:=a) (i:=i) (v:=v) (λ j d s hs=>wB N d hs) y l.toArray.size h1;rw[ao] at this;exact this
 rw[an];have aq:q3 ws (gO (listed.setIfInBounds i true)):=by
  rw[oF r];intro j k d X;unfold lI at d⊢
  by_cases e:k=i
  ·rw[if_pos e]
  ·rw[if_neg e]
   by_cases g:j=i
   ·subst g;obtain⟨ae,m,ar,au,t,D⟩:=xH J X;rw[n] at m;injection m with m
    subst m;have:=C ar au t;rw[D] at this;exact this
   ·rw[if_neg g] at d;exact hC j k d X
 refine ab v w' aj aq (λ j d aA=>?_) (λ j k z m1 m2 A x=>?_)
 ·rw[oF r] at d
  by_cases e:j=i
  ·subst e;have g:kU vals j v j=v:=by unfold kU;rw[if_pos rfl]
   rw[g];exact ak
  ·have g:kU vals i v j=vals j:=by unfold kU;rw[if_neg e]
   have p:lI (gO listed) i j=gO listed j:=by unfold lI;rw[if_neg e]
   rw[g];rw[p] at d;refine al j _ e ?_ (hF j d λ c f=>by cases f)
   cases av:o8 ws 8 j i with
   |false=>rfl
   |true=>
    have:=hC.reach 8 j i d av;rw[y] at this;cases this
 ·rw[oF r] at A x
  by_cases e:j=i
  ·subst e;have q:¬k=j:=λ e=>z e.symm
   have g:kU vals j v j=v:=by unfold kU;rw[if_pos rfl]
   have p:kU vals j v k=vals k:=by unfold kU;rw[if_neg q]
   have F:lI (gO listed) j k=gO listed k:=by unfold lI;rw[if_neg q]
   rw[F] at x;rw[g,p];intro b H I;have aw:=W m1 b H;have ax:=O k _ _ m2 (hF k x λ c f=>by cases f) b I;omega
  ·have p:kU vals i v j=vals j:=by unfold kU;rw[if_neg e]
   have F:lI (gO listed) i j=gO listed j:=by unfold lI;rw[if_neg e]
   rw[F] at A
   by_cases q:k=i
   ·subst q;have g:kU vals k v k=v:=by unfold kU;rw[if_pos rfl]
    rw[g,p];intro b H I;have aw:=W m2 b I;have ax:=O j _ _ m1 (hF j A λ c f=>by cases f) b H;omega
   ·have g:kU vals i v k=vals k:=by unfold kU;rw[if_neg q]
    have ay:lI (gO listed) i k=gO listed k:=by unfold lI;rw[if_neg q]
    rw[ay] at x;rw[p,g];exact S j k z m1 m2 A x
theorem NO{ds:List (Option Tmp)}{ws:List (List Nat)}(H:ws=l.map λ o:Oper=>(o.after.toList.filter (Zj .any)).map (·.on))(I:ds=l.map λ o:Oper=>o.dst)(n:Nat)(hlen:l.length=n+1)(J:sn l.toArray=true)(s:qh l.toArray=true)(K:sq l.toArray a.tmps.size=true)(L:uJ l.toArray=true)(t:vD l n=true)(hold:p0 a.eval old)(M:Cd G mk)
  (N:xb P ds ws old iq G mk 0 (l.take n))
  (O:∀o vals w,l[n]? =some o->iq w->(∀j,j<n->G j (vals j) w)->y7 mk (mm n) vals->bD P (jJ l.toArray vals (mm n) a n).eval o w λ v w'=>Q .normal ((jJ l.toArray vals (mm n) a n).put o.dst v) w'):
  ∀(fuel:Nat)(listed:Array Bool)(vals:Nat->Value)(w:World),listed.size=l.toArray.size->oq l.toArray listed<=fuel->0<oq l.toArray listed->gO listed n=false->q3 ws (gO listed)->iq w->ud G (λ _=>none) (gO listed) vals w->y7 mk (gO listed) vals->
   wpAny P .any l.toArray Q fuel listed (jJ l.toArray vals (gO listed) a l.toArray.size) w:=by
 intro fuel
 induction fuel with
 |zero=>intro listed vals w m R S;omega
 |succ fuel T=>
  intro listed vals w m R S z hC A hF B;refine⟨λ h=>by have:=Ba L m h;omega,λ i C=>?_⟩;obtain⟨h1,U,o,p,V⟩:=ue C;have D:i<listed.size:=by omega
  have an:i<l.length:=by simpa using h1
  have u:l[i]? =some o:=by rw[List.getElem?_toArray] at p;exact p
  by_cases E:i=n
  ·subst E;have q:∀j,j<i->gO listed j=true:=λ j d=>by
    unfold vD at t;rw[u] at t;simp only[d_,List.mem_range] at t;have b:=t j d;rw[Array.any_eq_true'] at b;obtain⟨e,he,y⟩:=b;simp only[t_,beq_iff_eq] at y;have:=V e he y.1;rw[y.2] at this;exact this
   have W:jJ l.toArray vals (gO listed) a l.toArray.size=jJ l.toArray vals (mm i) a i:=by
    have X:l.toArray.size=i+1:=by simp[hlen]
    rw[X];simp only[jJ];rw[z];simp only[Bool.false_eq_true,if_false];exact zH i λ j d=>by rw[q j d];unfold mm;simp[d]
   rw[W];unfold wpOp;simp only[p];have Y:o.guard=none:=by
    unfold qh at s;rw[c_] at s;have:=s o (Zn p);simpa using this
   have hw:Zv o (yielded l.toArray (jJ l.toArray vals (mm i) a i).tmps)=true:=by unfold Zv;rw[Y]
   rw[if_pos hw];left;refine(O o vals w u A (λ j d=>hF j (q j d) λ c Z=>by cases Z) (λ j k aa m1 m2 ab ad=>B j k aa m1 m2 (q j (by simpa[mm] using ab)) (q k (by simpa[mm] using ad)))).wp λ v w' ae=>?_
   refine wpAny_done ?_ ae _;rcases af:Zi .any l.toArray (listed.setIfInBounds i true) with _|⟨k,r⟩
   ·rfl
   ·have hk:k∈Zi .any l.toArray (listed.setIfInBounds i true):=by rw[af];simp
    obtain⟨b,f,_⟩:=ue hk;exfalso;have ao:k<i+1:=by simpa[hlen] using b
    by_cases e:k=i
    ·subst e;rw[w_,Array.getElem?_setIfInBounds_self_of_lt D] at f
     cases f
    ·have g:=q k (by omega);rw[w_,Array.getElem?_setIfInBounds_ne (λ x=>e x.symm)] at f;unfold gO at g;rw[w_] at g;have ag:k<listed.size:=by omega
     rw[Zr ag] at f g;simp at f g;rw[f] at g;cases g
  ·have ah:Ar P ds ws old iq G mk i o:=by
    have b:(l.take n)[i]? =some o:=by rw[List.getElem?_take,if_pos (by omega)];exact u
    have:=xb.at N b
    rwa[Nat.zero_add] at this
   refine NN H I J s K hold M p ah m A hF B C hC λ v w' ai aj ak al=>?_
   have F:gO (listed.setIfInBounds i true) n=false:=by
    rw[oF D];unfold lI;rw[if_neg (λ e=>E e.symm)];exact z
   refine T _ _ w' (by simp[m]) (by have:=A9 (ops:=l.toArray) h1 U;omega) ?_ F aj ai ak al;rcases Zw (oq l.toArray (listed.setIfInBounds i true)) with b|b
   ·have:=wE (ops:=l.toArray) (listed:=listed.setIfInBounds i true) (by simp[m]) b n (by simp[hlen]);rw[F] at this;cases this
   ·exact b
end
theorem NP{P:Program}{id:Nat}{ops:Array Oper}{Q:Exit->Act->World->Prop}{a:Act}(l:List Oper)(n N:Nat)(ds:List (Option Tmp))(ws:List (List Nat))(old:List (Tmp×Value))(iq:World->Prop)(G:Nat->Value->World->Prop)(mk:Nat->Bool)
  (q:ops=l.toArray) (hm:P.follows .mixedOrders=true)
  (h:ds=l.map λ o:Oper=>o.dst) (r:ws=l.map λ o:Oper=>(o.after.toList.filter (Zj .any)).map (·.on)) (hlen:l.length=n+1) (s:sn l.toArray=true) (t:qh l.toArray=true) (u:uJ l.toArray=true) (x:vD l n=true) (y:sq l.toArray N=true)
  (z:a.tmps.size=N) (hold:p0 a.eval old) (A:Cd G mk) (B:iq w.drew)
  (C:xb P ds ws old iq G mk 0 (l.take n))
  (ol:Oper) (D:l[n]? =some ol) (E:∀vals w,iq w->(∀j,j<n->G j (vals j) w)->y7 mk (mm n) vals->∀f,ot (ds.take n) 0 vals a=f->bD P f.eval ol w λ v w'=>Q .normal (f.put ol.dst v) w'):(Code.region id ops true).wp P Q a w:=by
 subst q;subst z;refine wp_region_any hm ?_;have F:∀o vals w,l[n]? =some o->iq w->(∀j,j<n->G j (vals j) w)->y7 mk (mm n) vals->bD P (jJ l.toArray vals (mm n) a n).eval o w λ v w'=>Q .normal ((jJ l.toArray vals (mm n) a n).put o.dst v) w':=by
  intro o vals w d H I J;rw[D] at d;injection d with d
  subst d;rw[zG l vals a n n (e_ _) (by omega),<-h];exact E vals w H I J _ rfl
 have b:∀k,gO (n_ l.toArray.size false) k=false:=λ k=>by
  unfold gO;rw[w_,Array.getElem?_replicate];split<;>rfl
 have e:a=jJ l.toArray (λ _=>undef) (gO (n_ l.toArray.size false)) a l.toArray.size:=by
  have:∀k,jJ l.toArray (λ _=>undef) (gO (n_ l.toArray.size false)) a k=a:=by
   intro k
   induction k with
   |zero=>rfl
   |succ k K=>
    simp only[jJ];rw[b k,K];simp
  exact(this _).symm
 have m:=NO (P:=P) (Q:=Q) (a:=a) (iq:=iq) (G:=G) (mk:=mk) r h n hlen s t y u x hold A C F l.toArray.size (n_ l.toArray.size false) (λ _=>undef) w.drew (by simp)
  (by unfold oq;exact Zh (List.length_filter_le _ _) (by simp)) ?_ (b n) (λ j i c=>by rw[b j] at c;cases c) B (λ j c=>by rw[b j] at c;cases c) (λ j k L m1 m2 p M=>by rw[b j] at p;cases p)
 ·rw[<-e] at m;exact m
 ·rcases Zw (oq l.toArray (n_ l.toArray.size false)) with g|g
  ·have:=wE (ops:=l.toArray) (listed:=n_ l.toArray.size false) (by simp) g n (by simp[hlen]);rw[b n] at this;cases this
  ·exact g
end
section
open Go.RowKit Go.Shelf
theorem NQ:∀args w,(callFunc 106 args).run q_ w=.ok (.enter 106 args) w:=enters_of Tryz.func106 (by kernel_rfl) rfl
theorem NR:∀args w,(callFunc 109 args).run q_ w=.ok (.enter 109 args) w:=enters_of Tryz.func109 (by kernel_rfl) rfl
theorem NS:(q_.info? 160).map (λ i=>(i.zero,i.size,i.bytes))=some (some (.slice none 0 0),1,24):=by kernel_rfl
theorem NT:(q_.info? 171).map (λ i=>(i.zero,i.size,i.bytes))=some (some (.int .i8 0),1,1):=by kernel_rfl
theorem NU:(q_.info? 164).map (λ i=>(i.zero,i.size,i.bytes))=some (some (.pointer none),1,8):=by kernel_rfl
theorem y8{ty:TypeId}{z:Value}{bt:Nat}(a:(q_.info? e).map (λ i=>(i.zero,i.size,i.bytes))=some (some z,1,bt))(hu:q_.underlying ty=some (.slice e))(b:z.cells= #[z])(k:Nat)(hk:k<=200000)(c:bt<=100)(base:Nat)(d:base<=w.heap.size):
  (Instr.makeSlice ty (.int .i64 (k:Int)) (.int .i64 (k:Int))).run q_ w=.ok (.slice (some ⟨w.heap.size,0,none⟩) k k) (w.alloc (.cells (madeCells #[z] k) e))/\
  (w.alloc (.cells (madeCells #[z] k) e)).ownsRow base e 1 (.slice (some ⟨w.heap.size,0,none⟩) k k) k (z_ k z):=by
 obtain⟨i0,f,g,h,j⟩:=info_parts a;have hm:bt*k<=100*200000:=Nat.mul_le_mul c hk;have:=run_make (P:=q_) w ty e i0 z hu f g .i64 .i64 (k:Int) (k:Int) (by omega) (by omega) (by rw[j,<-Int.natCast_mul];omega) (by omega);rw[h,b,Nat.mul_one,Int.toNat_natCast] at this;refine⟨this,by simp,.inr ⟨_,_,_,rfl,d,heap_alloc_new _ _,e_ _,by unfold maxLen;omega,by rw[size_madeCells];simp,?_⟩⟩;rw[toList_madeCells_one,m_ (by simp)]
theorem HN{mh:Nat}(h:w.ownsRow b e size v n xs)(a:mh<=b):w.ownsRow mh e size v n xs:=by
 refine⟨h.1,h.2.imp id ?_⟩;rintro⟨g,cap,cur,h1,c,d⟩;exact⟨g,cap,cur,h1,Zh a c,d⟩
def qx(n:Nat)(act:List Int)(bt:Int)(hM:List Bool)(aF:List nw)(jB:ax):aq:=
 {c:=nX n,ci:=[],act:=act,bt:=bt,ord:=[],pl:=z_ (n+1) 0,hM:=hM,aM:=[],aF:=aF,aO:=z_ (n+1) false,nl:=[],jB:=some jB}
def r9:Nat->Nat:=λ _=>0
def uw(a h1 b c d e f g:ax)(r:Nat):ax:=
 if r=0 then a else if r=1 then h1 else if r=2 then b else if r=3 then c else if r=6 then d else if r=8 then e else if r=9 then f else if r=12 then g else we
theorem vU(a:w.ownsRow base e size h.v k xs):h.n=k:=by
 rcases a.2 with⟨h1,b⟩|⟨g,cap,cur,h1,_⟩
 ·unfold ax.v at h1;injection h1 with _ h1 _;omega
 ·unfold ax.v at h1;injection h1
theorem nA.ag{h':ax}(p:nA h.v h'.v)(g:Nat)(h1:h.b=some g):h'.b≠some g:=by
 have:=p g (by rw[ax.own];exact h1)
 rwa[ax.own] at this
theorem uV(i h1 j k l m n o:ax)(r:Nat):(r=0\/r=1\/r=2\/r=3\/r=6\/r=8\/r=9\/r=12)\/(uw i h1 j k l m n o r=we/\r≠0/\r≠1/\r≠2/\r≠3/\r≠6/\r≠8/\r≠9/\r≠12):=by
 by_cases a:r=0
 ·exact .inl (.inl a)
 by_cases b:r=1
 ·exact .inl (by omega)
 by_cases c:r=2
 ·exact .inl (by omega)
 by_cases d:r=3
 ·exact .inl (by omega)
 by_cases e:r=6
 ·exact .inl (by omega)
 by_cases f:r=8
 ·exact .inl (by omega)
 by_cases g:r=9
 ·exact .inl (by omega)
 by_cases h:r=12
 ·exact .inl (by omega)
 right;refine⟨?_,a,b,c,d,e,f,g,h⟩;unfold uw;rw[if_neg a,if_neg b,if_neg c,if_neg d,if_neg e,if_neg f,if_neg g,if_neg h]
theorem NV(hs:Nat->ax)(n:Nat)(act:List Int)(a:Int)(b:List Bool)(c:List nw)(d:ax){r:Nat}(h:r≠0/\r≠1/\r≠2/\r≠3/\r≠6/\r≠8/\r≠9/\r≠12):cont hs r9 (qx n act a b c d) r=[]:=by
 obtain⟨f,g,i,j,k,l,m,o⟩:=h;unfold cont;rw[if_neg f,if_neg g,if_neg i,if_neg j]
 by_cases e:r=4
 ·rw[if_pos e];rfl
 rw[if_neg e]
 by_cases e:r=5
 ·rw[if_pos e];rfl
 rw[if_neg e,if_neg k]
 by_cases e:r=7
 ·rw[if_pos e];rfl
 rw[if_neg e,if_neg l,if_neg m]
 by_cases e:r=10
 ·rw[if_pos e];rfl
 rw[if_neg e]
 by_cases e:r=11
 ·rw[if_pos e];rfl
 rw[if_neg e,if_neg o]
 by_cases e:r%3=1
 ·rw[if_pos e];show k3 r9 (ay (z_ _ []) _)=[]
  rw[Bl];rfl
 rw[if_neg e]
 by_cases e:r%3=2
 ·rw[if_pos e];rfl
 ·rw[if_neg e];rfl
theorem NW{act:List Int}{bt:Int}{hM:List Bool}{aF:List nw}{bA mD nL ni nP nQ nR nS:ax}
  (d:w.ownsRow base zz 1 bA.v (2*n+2) (z_ (2*n+2) (Zx none 0 0))) (kY:w.ownsRow base zA 1 mD.v (n+1) (z_ (n+1) (p_ .i8 0))) (f:w.ownsRow base 3 1 nL.v (n+1) (z_ (n+1) (p_ .i64 0))) (i:w.ownsRow base xF 1 ni.v (n+1) (z_ (n+1) (Zu none))) (k:w.ownsRow base 3 1 nP.v (n+1) (jc act)) (l:w.ownsRow base 3 1 nQ.v (n+1) (z_ (n+1) (p_ .i64 0))) (m:w.ownsRow base 4 1 nR.v (n+1) (pL hM)) (o:w.ownsRow base 4 1 nS.v (n+1) (z_ (n+1) (Zl false)))
  (p:nA bA.v mD.v) (q:nA bA.v nL.v) (s:nA bA.v ni.v) (t:nA bA.v nP.v) (u:nA bA.v nQ.v) (x:nA bA.v nR.v) (y:nA bA.v nS.v) (z:nA mD.v nL.v) (A:nA mD.v ni.v) (B:nA mD.v nP.v) (C:nA mD.v nQ.v) (D:nA mD.v nR.v) (E:nA mD.v nS.v) (F:nA nL.v ni.v) (G:nA nL.v nP.v) (H:nA nL.v nQ.v) (I:nA nL.v nR.v) (J:nA nL.v nS.v) (K:nA ni.v nP.v) (L:nA ni.v nQ.v) (M:nA ni.v nR.v) (N:nA ni.v nS.v) (O:nA nP.v nQ.v) (P:nA nP.v nR.v) (Q:nA nP.v nS.v) (R:nA nQ.v nR.v) (S:nA nQ.v nS.v) (T:nA nR.v nS.v):
  mc base qL nE w (uw bA mD nL ni nP nQ nR nS) (cont (uw bA mD nL ni nP nQ nR nS) r9 (qx n act bt hM aF jB)):=by
 refine⟨λ r=>?_,λ r r' g c h1 a=>?_⟩
 ·rcases uV bA mD nL ni nP nQ nR nS r with(rfl|rfl|rfl|rfl|rfl|rfl|rfl|rfl)|⟨e,b⟩
  ·show w.ownsRow base zz 1 bA.v bA.n _;rw[vU d];have:cont (uw bA mD nL ni nP nQ nR nS) r9 (qx n act bt hM aF jB) 0=z_ (2*n+2) (Zx none 0 0):=by
    show(List.range (z_ (2*n+2) ([]:List Nat)).length).map _=_;rw[List.length_replicate];refine List.ext_getElem (by simp) λ j h1 a=>?_
    rw[s_,List.getElem_replicate];have U:(uw bA mD nL ni nP nQ nR nS) (iF j)=we:=by
     rcases uV bA mD nL ni nP nQ nR nS (iF j) with h|h
     ·unfold iF at h;omega
     ·exact h.1
    rw[List.getElem_range,U];rfl
   rw[this];exact d
  ·show w.ownsRow base zA 1 mD.v mD.n _;rw[vU kY];have:cont (uw bA mD nL ni nP nQ nR nS) r9 (qx n act bt hM aF jB) 1=z_ (n+1) (p_ .i8 0):=by
    show sR (z_ (n+1) 0)=_;simp[sR]
   rw[this];exact kY
  ·show w.ownsRow base 3 1 nL.v nL.n _;rw[vU f];have:cont (uw bA mD nL ni nP nQ nR nS) r9 (qx n act bt hM aF jB) 2=z_ (n+1) (p_ .i64 0):=by
    show qg (z_ (n+1) 0)=_;simp[qg]
   rw[this];exact f
  ·show w.ownsRow base xF 1 ni.v ni.n _;rw[vU i];have:cont (uw bA mD nL ni nP nQ nR nS) r9 (qx n act bt hM aF jB) 3=z_ (n+1) (Zu none):=by
    show tZ r9 (z_ (n+1) none)=_;simp[tZ,qM]
   rw[this];exact i
  ·show w.ownsRow base 3 1 nP.v nP.n _;rw[vU k];exact k
  ·show w.ownsRow base 3 1 nQ.v nQ.n _;rw[vU l];have:cont (uw bA mD nL ni nP nQ nR nS) r9 (qx n act bt hM aF jB) 8=z_ (n+1) (p_ .i64 0):=by
    show jc (z_ (n+1) 0)=_;simp[jc]
   rw[this];exact l
  ·show w.ownsRow base 4 1 nR.v nR.n _;rw[vU m];exact m
  ·show w.ownsRow base 4 1 nS.v nS.n _;rw[vU o];have:cont (uw bA mD nL ni nP nQ nR nS) r9 (qx n act bt hM aF jB) 12=z_ (n+1) (Zl false):=by
    show pL (z_ (n+1) false)=_;simp[pL]
   rw[this];exact o
  ·rw[e,NV _ n act bt hM aF jB b];exact World.ownsRow_nil _ _ _ _
 ·rcases uV bA mD nL ni nP nQ nR nS r with(rfl|rfl|rfl|rfl|rfl|rfl|rfl|rfl)|⟨e,b⟩
  ·rcases uV bA mD nL ni nP nQ nR nS r' with(rfl|rfl|rfl|rfl|rfl|rfl|rfl|rfl)|⟨e,b⟩
   ·exact c rfl
   ·exact p.ag g h1 a
   ·exact q.ag g h1 a
   ·exact s.ag g h1 a
   ·exact t.ag g h1 a
   ·exact u.ag g h1 a
   ·exact x.ag g h1 a
   ·exact y.ag g h1 a
   ·rw[e] at a;cases a
  ·rcases uV bA mD nL ni nP nQ nR nS r' with(rfl|rfl|rfl|rfl|rfl|rfl|rfl|rfl)|⟨e,b⟩
   ·exact p.ag g a h1
   ·exact c rfl
   ·exact z.ag g h1 a
   ·exact A.ag g h1 a
   ·exact B.ag g h1 a
   ·exact C.ag g h1 a
   ·exact D.ag g h1 a
   ·exact E.ag g h1 a
   ·rw[e] at a;cases a
  ·rcases uV bA mD nL ni nP nQ nR nS r' with(rfl|rfl|rfl|rfl|rfl|rfl|rfl|rfl)|⟨e,b⟩
   ·exact q.ag g a h1
   ·exact z.ag g a h1
   ·exact c rfl
   ·exact F.ag g h1 a
   ·exact G.ag g h1 a
   ·exact H.ag g h1 a
   ·exact I.ag g h1 a
   ·exact J.ag g h1 a
   ·rw[e] at a;cases a
  ·rcases uV bA mD nL ni nP nQ nR nS r' with(rfl|rfl|rfl|rfl|rfl|rfl|rfl|rfl)|⟨e,b⟩
   ·exact s.ag g a h1
   ·exact A.ag g a h1
   ·exact F.ag g a h1
   ·exact c rfl
   ·exact K.ag g h1 a
   ·exact L.ag g h1 a
   ·exact M.ag g h1 a
   ·exact N.ag g h1 a
   ·rw[e] at a;cases a
  ·rcases uV bA mD nL ni nP nQ nR nS r' with(rfl|rfl|rfl|rfl|rfl|rfl|rfl|rfl)|⟨e,b⟩
   ·exact t.ag g a h1
   ·exact B.ag g a h1
   ·exact G.ag g a h1
   ·exact K.ag g a h1
   ·exact c rfl
   ·exact O.ag g h1 a
   ·exact P.ag g h1 a
   ·exact Q.ag g h1 a
   ·rw[e] at a;cases a
  ·rcases uV bA mD nL ni nP nQ nR nS r' with(rfl|rfl|rfl|rfl|rfl|rfl|rfl|rfl)|⟨e,b⟩
   ·exact u.ag g a h1
   ·exact C.ag g a h1
   ·exact H.ag g a h1
   ·exact L.ag g a h1
   ·exact O.ag g a h1
   ·exact c rfl
   ·exact R.ag g h1 a
   ·exact S.ag g h1 a
   ·rw[e] at a;cases a
  ·rcases uV bA mD nL ni nP nQ nR nS r' with(rfl|rfl|rfl|rfl|rfl|rfl|rfl|rfl)|⟨e,b⟩
   ·exact x.ag g a h1
   ·exact D.ag g a h1
   ·exact I.ag g a h1
   ·exact M.ag g a h1
   ·exact P.ag g a h1
   ·exact R.ag g a h1
   ·exact c rfl
   ·exact T.ag g h1 a
   ·rw[e] at a;cases a
  ·rcases uV bA mD nL ni nP nQ nR nS r' with(rfl|rfl|rfl|rfl|rfl|rfl|rfl|rfl)|⟨e,b⟩
   ·exact y.ag g a h1
   ·exact E.ag g a h1
   ·exact J.ag g a h1
   ·exact N.ag g a h1
   ·exact Q.ag g a h1
   ·exact S.ag g a h1
   ·exact T.ag g a h1
   ·exact c rfl
   ·rw[e] at a;cases a
  ·rw[e] at h1;cases h1
def qH(W:World)(a n:Nat)(act:List Int)(f:Int)(g:List Bool)(A:Option Addr)(c:Nat)(k:Option Addr)(l:Nat)(e:Option Addr)(d m:Nat)(j:List nw)(i:Nat)(v:Value)(w:World):Prop:=
 match i with
 |0=>v=.pointer (some ⟨a,0,none⟩)
 |1=>v=.int .i64 ((n:Int))
 |2=>v=.pointer (some ⟨a,0,none⟩)
 |3=>v=.int .i64 ((n:Int))
 |4=>v=.int .i64 (2*(n:Int))
 |5=>v=.int .i64 (2*(n:Int)+2)
 |6=>∃h:ax,v=h.v/\w.ownsRow W.heap.size zz 1 h.v (2*n+2) (z_ (2*n+2) (Zx none 0 0))
 |7=>v=.pointer (some ⟨a,0,none⟩)
 |8=>v=.int .i64 ((n:Int))
 |9=>v=.int .i64 ((n:Int)+1)
 |10=>∃h:ax,v=h.v/\w.ownsRow W.heap.size zA 1 h.v (n+1) (z_ (n+1) (p_ .i8 0))
 |11=>v=.pointer (some ⟨a,0,none⟩)
 |12=>v=.int .i64 ((n:Int))
 |13=>v=.int .i64 ((n:Int)+1)
 |14=>∃h:ax,v=h.v/\w.ownsRow W.heap.size 3 1 h.v (n+1) (z_ (n+1) (p_ .i64 0))
 |15=>v=.pointer (some ⟨a,0,none⟩)
 |16=>v=.int .i64 ((n:Int))
 |17=>v=.int .i64 ((n:Int)+1)
 |18=>∃h:ax,v=h.v/\w.ownsRow W.heap.size xF 1 h.v (n+1) (z_ (n+1) (Zu none))
 |19=>v=.pointer (some ⟨a,3,none⟩)
 |20=>v=.pointer (some ⟨a,3,none⟩)
 |21=>v=.slice A (n+1) c
 |22=>∃h:ax,v=h.v/\w.ownsRow W.heap.size 3 1 h.v (n+1) (jc act)
 |23=>v=.pointer (some ⟨a,3,none⟩)
 |24=>v=.pointer (some ⟨a,5,none⟩)
 |25=>v=.int .i64 (f)
 |26=>v=.pointer (some ⟨a,0,none⟩)
 |27=>v=.int .i64 ((n:Int))
 |28=>v=.int .i64 ((n:Int)+1)
 |29=>∃h:ax,v=h.v/\w.ownsRow W.heap.size 3 1 h.v (n+1) (z_ (n+1) (p_ .i64 0))
 |30=>v=.pointer (some ⟨a,6,none⟩)
 |31=>v=.slice k (n+1) l
 |32=>∃h:ax,v=h.v/\w.ownsRow W.heap.size 4 1 h.v (n+1) (pL g)
 |33=>v=.pointer (some ⟨a,7,none⟩)
 |34=>v=.slice e d m
 |35=>v=.slice e d d
 |36=>v=.pointer (some ⟨a,0,none⟩)
 |37=>v=.int .i64 ((n:Int))
 |38=>v=.int .i64 ((n:Int)+1)
 |39=>∃h:ax,v=h.v/\w.ownsRow W.heap.size 4 1 h.v (n+1) (z_ (n+1) (Zl false))
 |40=>∃hs,v=.agg (qW hs (qx n act f g j ⟨e,d,d⟩)).toArray/\mc W.heap.size qL nE w hs (cont hs r9 (qx n act f g j ⟨e,d,d⟩))
 |41=>∃hs b,v=.pointer (some ⟨b,0,none⟩)/\aT w b sQ (qW hs (qx n act f g j ⟨e,d,d⟩))/\W.heap.size<=b/\mc W.heap.size qL nE w hs (cont hs r9 (qx n act f g j ⟨e,d,d⟩))
 |_=>True
theorem qH.mono(W:World)(f n:Nat)(act:List Int)(g:Int)(j:List Bool)(A:Option Addr)(c:Nat)(k:Option Addr)(l:Nat)(m:Option Addr)(o p:Nat)(q:List nw)(i:Nat)(u:Value)(w w':World)(e:Below w.heap.size w w')(h:qH W f n act g j A c k l m o p q i u w):qH W f n act g j A c k l m o p q i u w':=by
 match i,h with
 |0,h=>exact h
 |1,h=>exact h
 |2,h=>exact h
 |3,h=>exact h
 |4,h=>exact h
 |5,h=>exact h
 |6,h=>obtain⟨d,h1,a⟩:=h;exact⟨d,h1,mw a e⟩
 |7,h=>exact h
 |8,h=>exact h
 |9,h=>exact h
 |10,h=>obtain⟨d,h1,a⟩:=h;exact⟨d,h1,mw a e⟩
 |11,h=>exact h
 |12,h=>exact h
 |13,h=>exact h
 |14,h=>obtain⟨d,h1,a⟩:=h;exact⟨d,h1,mw a e⟩
 |15,h=>exact h
 |16,h=>exact h
 |17,h=>exact h
 |18,h=>obtain⟨d,h1,a⟩:=h;exact⟨d,h1,mw a e⟩
 |19,h=>exact h
 |20,h=>exact h
 |21,h=>exact h
 |22,h=>obtain⟨d,h1,a⟩:=h;exact⟨d,h1,mw a e⟩
 |23,h=>exact h
 |24,h=>exact h
 |25,h=>exact h
 |26,h=>exact h
 |27,h=>exact h
 |28,h=>exact h
 |29,h=>obtain⟨d,h1,a⟩:=h;exact⟨d,h1,mw a e⟩
 |30,h=>exact h
 |31,h=>exact h
 |32,h=>obtain⟨d,h1,a⟩:=h;exact⟨d,h1,mw a e⟩
 |33,h=>exact h
 |34,h=>exact h
 |35,h=>exact h
 |36,h=>exact h
 |37,h=>exact h
 |38,h=>exact h
 |39,h=>obtain⟨d,h1,a⟩:=h;exact⟨d,h1,mw a e⟩
 |40,h=>obtain⟨hs,h1,a⟩:=h;exact⟨hs,h1,a.below e⟩
 |41,h=>obtain⟨hs,b,h1,a,r,s⟩:=h;exact⟨hs,b,h1,a.below e,r,s.below e⟩
 |n+42,h=>trivial
def Ce(i:Nat):Bool:=[6,10,14,18,22,29,32,39].contains i
theorem qH.lt(W:World)(f n:Nat)(act:List Int)(g:Int)(i:List Bool)(A:Option Addr)(c:Nat)(k:Option Addr)(l:Nat)(m:Option Addr)(o p:Nat)(q:List nw):Cd (qH W f n act g i A c k l m o p q) Ce:=by
 intro j u w hm h b d;have r:j=6\/j=10\/j=14\/j=18\/j=22\/j=29\/j=32\/j=39:=by simpa[Ce] using hm
 rcases r with rfl|rfl|rfl|rfl|rfl|rfl|rfl|rfl
 ·obtain⟨e,rfl,a⟩:=h;exact(a.lt b d).2
 ·obtain⟨e,rfl,a⟩:=h;exact(a.lt b d).2
 ·obtain⟨e,rfl,a⟩:=h;exact(a.lt b d).2
 ·obtain⟨e,rfl,a⟩:=h;exact(a.lt b d).2
 ·obtain⟨e,rfl,a⟩:=h;exact(a.lt b d).2
 ·obtain⟨e,rfl,a⟩:=h;exact(a.lt b d).2
 ·obtain⟨e,rfl,a⟩:=h;exact(a.lt b d).2
 ·obtain⟨e,rfl,a⟩:=h;exact(a.lt b d).2
structure HO(W:World)(iC n:Nat)(act:List Int)(bt:Int)(hM:List Bool)(A:Option Addr)(c:Nat)(gY:Option Addr)(gJ:Nat)(bu:Option Addr)(bG bE:Nat)(aF:List nw):Prop where
 bf:W.cell? ⟨iC,0,none⟩=some (.int .i64 (n:Int))
 c3:W.cell? ⟨iC,3,none⟩=some (.slice A (n+1) c)
 jI:W.cell? ⟨iC,5,none⟩=some (.int .i64 bt)
 kN:W.cell? ⟨iC,6,none⟩=some (.slice gY (n+1) gJ)
 iA:W.cell? ⟨iC,7,none⟩=some (.slice bu bG bE)
 gU:iC<W.heap.size
 NX:aL W A (n+1) c act
 NY:kE W gY (n+1) gJ hM
 clip:∀w,Calls q_ 109 #[.slice bu bG bE] w λ e w'=>e=.returned (.slice bu bG bG)/\w'=w
 tB:n<=60000
theorem NZ(W:World)(k n:Nat)(act:List Int)(z:Int)(s:List Bool)(A:Option Addr)(c:Nat)(L:Option Addr)(M:Nat)(B:Option Addr)(t aB:Nat)(D:List nw)(C:HO W k n act z s A c L M B t aB D):
  xb q_ [some 11,some 12,some 13,some 14,some 15,some 16,some 17,some 18,some 19,some 20,some 21,some 22,some 23,some 24,some 25,some 26,some 27,some 28,some 29,some 30,some 31,some 32,some 33,some 34,some 35,some 36,some 37,some 38,some 39,some 40,some 41,some 42,some 43,some 44,some 45,some 46,some 47,some 48,some 49,some 50,some 51,some 52,some 3] [[],[0],[],[2],[3],[4],[5,5],[],[7],[8],[9,9],[],[11],[12],[13,13],[],[15],[16],[17,17],[],[19],[20],[21],[],[23],[24],[],[26],[27],[28,28],[],[30],[31,22],[],[33],[34,32],[],[36],[37],[38,38],[1,6,10,14,18,22,25,29,32,35,39],[40],[41,35,0,1,2,3,4,5,6,7,8,9,10,11,12,13,14,15,16,17,18,19,20,21,22,23,24,25,26,27,28,29,30,31,32,33,34,35,36,37,38,39,40,41]] [(1,.pointer (some ⟨k,0,none⟩))] (λ w=>Below W.heap.size W w) (qH W k n act z s A c L M B t aB D) Ce 0 ((rV Tryz.f98 1).take 42):=by
 have q:=qH.mono W k n act z s A c L M B t aB D;have r:∀w w':World,Below W.heap.size W w->Below w.heap.size w w'->Below W.heap.size W w':=λ w w' f o=>f.trans (o.mono f.size)
 have bK:=C.tB;refine⟨?_,?_,?_,?_,?_,?_,?_,?_,?_,?_,?_,?_,?_,?_,?_,?_,?_,?_,?_,?_,?_,?_,?_,?_,?_,?_,?_,?_,?_,?_,?_,?_,?_,?_,?_,?_,?_,?_,?_,?_,?_,?_,trivial⟩
 ·intro vals w g f d j hp i;have l:g (.tmp 1)=_:=j.1 rfl;simp only[bD,execOp,l];simp[gL,go_sem];exact .same f rfl rfl
 ·intro vals w g f d j hp i;obtain⟨⟨f0,N⟩,-⟩:=(⟨d.1 rfl,d.2⟩:_/\_)
  have N:g (.tmp 11)=vals 0:=N _ rfl;have f0:vals 0=_:=f0 (y_ rfl);rw[f0] at N;have m:=(x_ (a:=⟨k,0,none⟩) (f.block k C.gU)).trans C.bf;simp only[bD,execOp,N];simp[gL,go_sem,m];exact .same f rfl rfl
 ·intro vals w g f d j hp i;have l:g (.tmp 1)=_:=j.1 rfl;simp only[bD,execOp,l];simp[gL,go_sem];exact .same f rfl rfl
 ·intro vals w g f d j hp i;obtain⟨⟨f2,O⟩,-⟩:=(⟨d.1 rfl,d.2⟩:_/\_)
  have O:g (.tmp 13)=vals 2:=O _ rfl;have f2:vals 2=_:=f2 (y_ rfl);rw[f2] at O;have m:=(x_ (a:=⟨k,0,none⟩) (f.block k C.gU)).trans C.bf;simp only[bD,execOp,O];simp[gL,go_sem,m];exact .same f rfl rfl
 ·intro vals w g f d j hp i;obtain⟨⟨f3,P⟩,-⟩:=(⟨d.1 rfl,d.2⟩:_/\_)
  have P:g (.tmp 14)=vals 3:=P _ rfl;have f3:vals 3=_:=f3 (y_ rfl);rw[f3] at P;have wn:i_.wrap (2*(n:Int))=2*(n:Int):=by rw[r_];omega
  simp only[bD,execOp,P];simp[gL,go_sem,wn,hp.1];exact .same f rfl rfl
 ·intro vals w g f d j hp i;obtain⟨⟨f4,Q⟩,-⟩:=(⟨d.1 rfl,d.2⟩:_/\_)
  have Q:g (.tmp 15)=vals 4:=Q _ rfl;have f4:vals 4=_:=f4 (y_ rfl);rw[f4] at Q;have wn:i_.wrap (2*(n:Int)+2)=2*(n:Int)+2:=by rw[r_];omega
  simp only[bD,execOp,Q];simp[gL,go_sem,wn,hp.1];exact .same f rfl rfl
 ·intro vals w g f d j hp i;obtain⟨⟨f5,E⟩,-⟩:=(⟨d.1 rfl,d.2⟩:_/\_)
  have E:g (.tmp 16)=vals 5:=E _ rfl;have f5:vals 5=_:=f5 (y_ rfl);rw[f5] at E;have p:=y8 (w:=w) NS Tryz.underlying158 rfl (2*n+2) (by omega) (by omega) W.heap.size f.size;rw[show(2*(n:Int)+2)=(((2*n+2):Nat):Int) by omega] at E;simp only[bD,execOp,l_,k_,u_,E,p.1,gL];exact .more q (bz w _) (r w _ f (bz w _)) ⟨⟨_,_,_⟩,rfl,p.2⟩ (λ _ b o=>by have e:some w.heap.size=some b:=o;injection e with e;omega)
 ·intro vals w g f d j hp i;have l:g (.tmp 1)=_:=j.1 rfl;simp only[bD,execOp,l];simp[gL,go_sem];exact .same f rfl rfl
 ·intro vals w g f d j hp i;obtain⟨⟨f7,R⟩,-⟩:=(⟨d.1 rfl,d.2⟩:_/\_)
  have R:g (.tmp 18)=vals 7:=R _ rfl;have f7:vals 7=_:=f7 (y_ rfl);rw[f7] at R;have m:=(x_ (a:=⟨k,0,none⟩) (f.block k C.gU)).trans C.bf;simp only[bD,execOp,R];simp[gL,go_sem,m];exact .same f rfl rfl
 ·intro vals w g f d j hp i;obtain⟨⟨f8,S⟩,-⟩:=(⟨d.1 rfl,d.2⟩:_/\_)
  have S:g (.tmp 19)=vals 8:=S _ rfl;have f8:vals 8=_:=f8 (y_ rfl);rw[f8] at S;have wn:i_.wrap ((n:Int)+1)=(n:Int)+1:=by rw[r_];omega
  simp only[bD,execOp,S];simp[gL,go_sem,wn,hp.1];exact .same f rfl rfl
 ·intro vals w g f d j hp i;obtain⟨⟨f9,F⟩,-⟩:=(⟨d.1 rfl,d.2⟩:_/\_)
  have F:g (.tmp 20)=vals 9:=F _ rfl;have f9:vals 9=_:=f9 (y_ rfl);rw[f9] at F;have p:=y8 (w:=w) NT Tryz.underlying159 rfl (n+1) (by omega) (by omega) W.heap.size f.size;rw[show((n:Int)+1)=(((n+1):Nat):Int) by omega] at F;simp only[bD,execOp,l_,k_,u_,F,p.1,gL];exact .more q (bz w _) (r w _ f (bz w _)) ⟨⟨_,_,_⟩,rfl,p.2⟩ (λ _ b o=>by have e:some w.heap.size=some b:=o;injection e with e;omega)
 ·intro vals w g f d j hp i;have l:g (.tmp 1)=_:=j.1 rfl;simp only[bD,execOp,l];simp[gL,go_sem];exact .same f rfl rfl
 ·intro vals w g f d j hp i;obtain⟨⟨f11,T⟩,-⟩:=(⟨d.1 rfl,d.2⟩:_/\_)
  have T:g (.tmp 22)=vals 11:=T _ rfl;have f11:vals 11=_:=f11 (y_ rfl);rw[f11] at T;have m:=(x_ (a:=⟨k,0,none⟩) (f.block k C.gU)).trans C.bf;simp only[bD,execOp,T];simp[gL,go_sem,m];exact .same f rfl rfl
 ·intro vals w g f d j hp i;obtain⟨⟨f12,U⟩,-⟩:=(⟨d.1 rfl,d.2⟩:_/\_)
  have U:g (.tmp 23)=vals 12:=U _ rfl;have f12:vals 12=_:=f12 (y_ rfl);rw[f12] at U;have wn:i_.wrap ((n:Int)+1)=(n:Int)+1:=by rw[r_];omega
  simp only[bD,execOp,U];simp[gL,go_sem,wn,hp.1];exact .same f rfl rfl
 ·intro vals w g f d j hp i;obtain⟨⟨f13,G⟩,-⟩:=(⟨d.1 rfl,d.2⟩:_/\_)
  have G:g (.tmp 24)=vals 13:=G _ rfl;have f13:vals 13=_:=f13 (y_ rfl);rw[f13] at G;have p:=y8 (w:=w) xw Tryz.underlying25 rfl (n+1) (by omega) (by omega) W.heap.size f.size;rw[show((n:Int)+1)=(((n+1):Nat):Int) by omega] at G;simp only[bD,execOp,l_,k_,u_,G,p.1,gL];exact .more q (bz w _) (r w _ f (bz w _)) ⟨⟨_,_,_⟩,rfl,p.2⟩ (λ _ b o=>by have e:some w.heap.size=some b:=o;injection e with e;omega)
 ·intro vals w g f d j hp i;have l:g (.tmp 1)=_:=j.1 rfl;simp only[bD,execOp,l];simp[gL,go_sem];exact .same f rfl rfl
 ·intro vals w g f d j hp i;obtain⟨⟨f15,V⟩,-⟩:=(⟨d.1 rfl,d.2⟩:_/\_)
  have V:g (.tmp 26)=vals 15:=V _ rfl;have f15:vals 15=_:=f15 (y_ rfl);rw[f15] at V;have m:=(x_ (a:=⟨k,0,none⟩) (f.block k C.gU)).trans C.bf;simp only[bD,execOp,V];simp[gL,go_sem,m];exact .same f rfl rfl
 ·intro vals w g f d j hp i;obtain⟨⟨f16,X⟩,-⟩:=(⟨d.1 rfl,d.2⟩:_/\_)
  have X:g (.tmp 27)=vals 16:=X _ rfl;have f16:vals 16=_:=f16 (y_ rfl);rw[f16] at X;have wn:i_.wrap ((n:Int)+1)=(n:Int)+1:=by rw[r_];omega
  simp only[bD,execOp,X];simp[gL,go_sem,wn,hp.1];exact .same f rfl rfl
 ·intro vals w g f d j hp i;obtain⟨⟨f17,H⟩,-⟩:=(⟨d.1 rfl,d.2⟩:_/\_)
  have H:g (.tmp 28)=vals 17:=H _ rfl;have f17:vals 17=_:=f17 (y_ rfl);rw[f17] at H;have p:=y8 (w:=w) NU Tryz.underlying160 rfl (n+1) (by omega) (by omega) W.heap.size f.size;rw[show((n:Int)+1)=(((n+1):Nat):Int) by omega] at H;simp only[bD,execOp,l_,k_,u_,H,p.1,gL];exact .more q (bz w _) (r w _ f (bz w _)) ⟨⟨_,_,_⟩,rfl,p.2⟩ (λ _ b o=>by have e:some w.heap.size=some b:=o;injection e with e;omega)
 ·intro vals w g f d j hp i;have l:g (.tmp 1)=_:=j.1 rfl;simp only[bD,execOp,l];simp[gL,go_sem];exact .same f rfl rfl
 ·intro vals w g f d j hp i;obtain⟨⟨f19,Y⟩,-⟩:=(⟨d.1 rfl,d.2⟩:_/\_)
  have Y:g (.tmp 30)=vals 19:=Y _ rfl;have f19:vals 19=_:=f19 (y_ rfl);rw[f19] at Y;simp only[bD,execOp,Y];simp[gL,go_sem];exact .same f rfl rfl
 ·intro vals w g f d j hp i;obtain⟨⟨f20,Z⟩,-⟩:=(⟨d.1 rfl,d.2⟩:_/\_)
  have Z:g (.tmp 31)=vals 20:=Z _ rfl;have f20:vals 20=_:=f20 (y_ rfl);rw[f20] at Z;have m:=(x_ (a:=⟨k,3,none⟩) (f.block k C.gU)).trans C.c3;simp only[bD,execOp,Z];simp[gL,go_sem,m];exact .same f rfl rfl
 ·intro vals w g f d j hp i;obtain⟨⟨f21,aa⟩,-⟩:=(⟨d.1 rfl,d.2⟩:_/\_)
  have aa:g (.tmp 32)=vals 21:=aa _ rfl;have f21:vals 21=_:=f21 (y_ rfl);rw[f21] at aa;have I:=C.NX.below f;refine tD 81 #[.tmp 32] #[25] rfl BQ hp ?_;simp only[o_,j_,g_,aa];refine(vj A (n+1) c act w I).mono ?_;rintro e w' ⟨aC,c2,rfl,u,o⟩;have hl:=I.len;rw[hl] at u⊢;refine⟨_,rfl,.more q o (r w w' f o) ⟨⟨aC,n+1,c2⟩,rfl,HN u f.size⟩ (λ _ b e=>(u.lt b e).1)⟩
 ·intro vals w g f d j hp i;have l:g (.tmp 1)=_:=j.1 rfl;simp only[bD,execOp,l];simp[gL,go_sem];exact .same f rfl rfl
 ·intro vals w g f d j hp i;obtain⟨⟨f23,ab⟩,-⟩:=(⟨d.1 rfl,d.2⟩:_/\_)
  have ab:g (.tmp 34)=vals 23:=ab _ rfl;have f23:vals 23=_:=f23 (y_ rfl);rw[f23] at ab;simp only[bD,execOp,ab];simp[gL,go_sem];exact .same f rfl rfl
 ·intro vals w g f d j hp i;obtain⟨⟨f24,ad⟩,-⟩:=(⟨d.1 rfl,d.2⟩:_/\_)
  have ad:g (.tmp 35)=vals 24:=ad _ rfl;have f24:vals 24=_:=f24 (y_ rfl);rw[f24] at ad;have m:=(x_ (a:=⟨k,5,none⟩) (f.block k C.gU)).trans C.jI;simp only[bD,execOp,ad];simp[gL,go_sem,m];exact .same f rfl rfl
 ·intro vals w g f d j hp i;have l:g (.tmp 1)=_:=j.1 rfl;simp only[bD,execOp,l];simp[gL,go_sem];exact .same f rfl rfl
 ·intro vals w g f d j hp i;obtain⟨⟨f26,ae⟩,-⟩:=(⟨d.1 rfl,d.2⟩:_/\_)
  have ae:g (.tmp 37)=vals 26:=ae _ rfl;have f26:vals 26=_:=f26 (y_ rfl);rw[f26] at ae;have m:=(x_ (a:=⟨k,0,none⟩) (f.block k C.gU)).trans C.bf;simp only[bD,execOp,ae];simp[gL,go_sem,m];exact .same f rfl rfl
 ·intro vals w g f d j hp i;obtain⟨⟨f27,af⟩,-⟩:=(⟨d.1 rfl,d.2⟩:_/\_)
  have af:g (.tmp 38)=vals 27:=af _ rfl;have f27:vals 27=_:=f27 (y_ rfl);rw[f27] at af;have wn:i_.wrap ((n:Int)+1)=(n:Int)+1:=by rw[r_];omega
  simp only[bD,execOp,af];simp[gL,go_sem,wn,hp.1];exact .same f rfl rfl
 ·intro vals w g f d j hp i;obtain⟨⟨f28,J⟩,-⟩:=(⟨d.1 rfl,d.2⟩:_/\_)
  have J:g (.tmp 39)=vals 28:=J _ rfl;have f28:vals 28=_:=f28 (y_ rfl);rw[f28] at J;have p:=y8 (w:=w) xw Tryz.underlying25 rfl (n+1) (by omega) (by omega) W.heap.size f.size;rw[show((n:Int)+1)=(((n+1):Nat):Int) by omega] at J;simp only[bD,execOp,l_,k_,u_,J,p.1,gL];exact .more q (bz w _) (r w _ f (bz w _)) ⟨⟨_,_,_⟩,rfl,p.2⟩ (λ _ b o=>by have e:some w.heap.size=some b:=o;injection e with e;omega)
 ·intro vals w g f d j hp i;have l:g (.tmp 1)=_:=j.1 rfl;simp only[bD,execOp,l];simp[gL,go_sem];exact .same f rfl rfl
 ·intro vals w g f d j hp i;obtain⟨⟨f30,ag⟩,-⟩:=(⟨d.1 rfl,d.2⟩:_/\_)
  have ag:g (.tmp 41)=vals 30:=ag _ rfl;have f30:vals 30=_:=f30 (y_ rfl);rw[f30] at ag;have m:=(x_ (a:=⟨k,6,none⟩) (f.block k C.gU)).trans C.kN;simp only[bD,execOp,ag];simp[gL,go_sem,m];exact .same f rfl rfl
 ·intro vals w g f d j hp i;obtain⟨⟨f31,ah⟩,⟨f22,x⟩,-⟩:=(⟨d.1 rfl,d.2.1 rfl,d.2.2⟩:_/\_/\_)
  have ah:g (.tmp 42)=vals 31:=ah _ rfl;have f31:vals 31=_:=f31 (y_ rfl);rw[f31] at ah;have x:g (.tmp 33)=vals 22:=x _ rfl;have I:=C.NY.below f;refine tD 106 #[.tmp 42] #[28] rfl NQ hp ?_;simp only[o_,j_,g_,ah];refine(NJ L (n+1) M s w I).mono ?_;rintro e w' ⟨aC,c2,rfl,u,o⟩;have hl:=I.len;rw[hl] at u⊢;refine⟨_,rfl,.more q o (r w w' f o) ⟨⟨aC,n+1,c2⟩,rfl,HN u f.size⟩ (λ _ b e=>(u.lt b e).1)⟩
 ·intro vals w g f d j hp i;have l:g (.tmp 1)=_:=j.1 rfl;simp only[bD,execOp,l];simp[gL,go_sem];exact .same f rfl rfl
 ·intro vals w g f d j hp i;obtain⟨⟨f33,ai⟩,-⟩:=(⟨d.1 rfl,d.2⟩:_/\_)
  have ai:g (.tmp 44)=vals 33:=ai _ rfl;have f33:vals 33=_:=f33 (y_ rfl);rw[f33] at ai;have m:=(x_ (a:=⟨k,7,none⟩) (f.block k C.gU)).trans C.iA;simp only[bD,execOp,ai];simp[gL,go_sem,m];exact .same f rfl rfl
 ·intro vals w g f d j hp i;obtain⟨⟨f34,aj⟩,⟨f32,y⟩,-⟩:=(⟨d.1 rfl,d.2.1 rfl,d.2.2⟩:_/\_/\_)
  have aj:g (.tmp 45)=vals 34:=aj _ rfl;have f34:vals 34=_:=f34 (y_ rfl);rw[f34] at aj;have y:g (.tmp 43)=vals 32:=y _ rfl;refine tD 109 #[.tmp 45] #[45] rfl NR hp ?_;simp only[o_,j_,g_,aj];refine(C.clip w).mono ?_;rintro e w' ⟨rfl,rfl⟩;exact⟨_,rfl,.same f rfl rfl⟩
 ·intro vals w g f d j hp i;have l:g (.tmp 1)=_:=j.1 rfl;simp only[bD,execOp,l];simp[gL,go_sem];exact .same f rfl rfl
 ·intro vals w g f d j hp i;obtain⟨⟨f36,ak⟩,-⟩:=(⟨d.1 rfl,d.2⟩:_/\_)
  have ak:g (.tmp 47)=vals 36:=ak _ rfl;have f36:vals 36=_:=f36 (y_ rfl);rw[f36] at ak;have m:=(x_ (a:=⟨k,0,none⟩) (f.block k C.gU)).trans C.bf;simp only[bD,execOp,ak];simp[gL,go_sem,m];exact .same f rfl rfl
 ·intro vals w g f d j hp i;obtain⟨⟨f37,al⟩,-⟩:=(⟨d.1 rfl,d.2⟩:_/\_)
  have al:g (.tmp 48)=vals 37:=al _ rfl;have f37:vals 37=_:=f37 (y_ rfl);rw[f37] at al;have wn:i_.wrap ((n:Int)+1)=(n:Int)+1:=by rw[r_];omega
  simp only[bD,execOp,al];simp[gL,go_sem,wn,hp.1];exact .same f rfl rfl
 ·intro vals w g f d j hp i;obtain⟨⟨f38,K⟩,-⟩:=(⟨d.1 rfl,d.2⟩:_/\_)
  have K:g (.tmp 49)=vals 38:=K _ rfl;have f38:vals 38=_:=f38 (y_ rfl);rw[f38] at K;have p:=y8 (w:=w) Ak Tryz.underlying28 rfl (n+1) (by omega) (by omega) W.heap.size f.size;rw[show((n:Int)+1)=(((n+1):Nat):Int) by omega] at K;simp only[bD,execOp,l_,k_,u_,K,p.1,gL];exact .more q (bz w _) (r w _ f (bz w _)) ⟨⟨_,_,_⟩,rfl,p.2⟩ (λ _ b o=>by have e:some w.heap.size=some b:=o;injection e with e;omega)
 ·intro vals w g f d j hp i;obtain⟨⟨f1,an⟩,⟨f6,ao⟩,⟨f10,aq⟩,⟨f14,ar⟩,⟨f18,au⟩,⟨f22,x⟩,⟨f25,av⟩,⟨f29,aw⟩,⟨f32,y⟩,⟨f35,ay⟩,⟨f39,az⟩,-⟩:=(⟨d.1 rfl,d.2.1 rfl,d.2.2.1 rfl,d.2.2.2.1 rfl,d.2.2.2.2.1 rfl,d.2.2.2.2.2.1 rfl,d.2.2.2.2.2.2.1 rfl,d.2.2.2.2.2.2.2.1 rfl,d.2.2.2.2.2.2.2.2.1 rfl,d.2.2.2.2.2.2.2.2.2.1 rfl,d.2.2.2.2.2.2.2.2.2.2.1 rfl,d.2.2.2.2.2.2.2.2.2.2.2⟩:_/\_/\_/\_/\_/\_/\_/\_/\_/\_/\_/\_)
  have an:g (.tmp 12)=vals 1:=an _ rfl;have f1:vals 1=_:=f1 (y_ rfl);rw[f1] at an;have ao:g (.tmp 17)=vals 6:=ao _ rfl;have aq:g (.tmp 21)=vals 10:=aq _ rfl;have ar:g (.tmp 25)=vals 14:=ar _ rfl;have au:g (.tmp 29)=vals 18:=au _ rfl;have x:g (.tmp 33)=vals 22:=x _ rfl;have av:g (.tmp 36)=vals 25:=av _ rfl;have f25:vals 25=_:=f25 (y_ rfl);rw[f25] at av;have aw:g (.tmp 40)=vals 29:=aw _ rfl;have y:g (.tmp 43)=vals 32:=y _ rfl;have ay:g (.tmp 46)=vals 35:=ay _ rfl;have f35:vals 35=_:=f35 (y_ rfl);rw[f35] at ay;have az:g (.tmp 50)=vals 39:=az _ rfl;obtain⟨⟨aD,m6,aE⟩,f6,bB⟩:∃h:ax,vals 6=h.v/\w.ownsRow W.heap.size zz 1 h.v (2*n+2) (z_ (2*n+2) (Zx none 0 0)):=f6 (y_ rfl);replace f6:vals 6=.slice aD m6 aE:=f6;obtain⟨⟨aF,m10,aG⟩,f10,kY⟩:∃h:ax,vals 10=h.v/\w.ownsRow W.heap.size zA 1 h.v (n+1) (z_ (n+1) (p_ .i8 0)):=f10 (y_ rfl);replace f10:vals 10=.slice aF m10 aG:=f10;obtain⟨⟨aH,m14,aI⟩,f14,bC⟩:∃h:ax,vals 14=h.v/\w.ownsRow W.heap.size 3 1 h.v (n+1) (z_ (n+1) (p_ .i64 0)):=f14 (y_ rfl);replace f14:vals 14=.slice aH m14 aI:=f14;obtain⟨⟨aJ,m18,aK⟩,f18,bE⟩:∃h:ax,vals 18=h.v/\w.ownsRow W.heap.size xF 1 h.v (n+1) (z_ (n+1) (Zu none)):=f18 (y_ rfl);replace f18:vals 18=.slice aJ m18 aK:=f18;obtain⟨⟨aL,m22,aM⟩,f22,bF⟩:∃h:ax,vals 22=h.v/\w.ownsRow W.heap.size 3 1 h.v (n+1) (jc act):=f22 (y_ rfl);replace f22:vals 22=.slice aL m22 aM:=f22;obtain⟨⟨aN,aO,aP⟩,f29,bG⟩:∃h:ax,vals 29=h.v/\w.ownsRow W.heap.size 3 1 h.v (n+1) (z_ (n+1) (p_ .i64 0)):=f29 (y_ rfl);replace f29:vals 29=.slice aN aO aP:=f29;obtain⟨⟨aQ,m32,aR⟩,f32,bH⟩:∃h:ax,vals 32=h.v/\w.ownsRow W.heap.size 4 1 h.v (n+1) (pL s):=f32 (y_ rfl);replace f32:vals 32=.slice aQ m32 aR:=f32;obtain⟨⟨aS,aU,aV⟩,f39,bI⟩:∃h:ax,vals 39=h.v/\w.ownsRow W.heap.size 4 1 h.v (n+1) (z_ (n+1) (Zl false)):=f39 (y_ rfl);replace f39:vals 39=.slice aS aU aV:=f39;rw[f6] at ao;rw[f10] at aq;rw[f14] at ar;rw[f18] at au;rw[f22] at x;rw[f29] at aw;rw[f32] at y;rw[f39] at az;have aW:=i 6 10 (by decide) rfl rfl rfl rfl;rw[f6,f10] at aW;have aX:=i 6 14 (by decide) rfl rfl rfl rfl;rw[f6,f14] at aX;have aY:=i 6 18 (by decide) rfl rfl rfl rfl;rw[f6,f18] at aY;have aZ:=i 6 22 (by decide) rfl rfl rfl rfl;rw[f6,f22] at aZ;have a6:=i 6 29 (by decide) rfl rfl rfl rfl;rw[f6,f29] at a6;have a7:=i 6 32 (by decide) rfl rfl rfl rfl;rw[f6,f32] at a7;have a8:=i 6 39 (by decide) rfl rfl rfl rfl;rw[f6,f39] at a8;have a':=i 10 14 (by decide) rfl rfl rfl rfl;rw[f10,f14] at a';have ba:=i 10 18 (by decide) rfl rfl rfl rfl;rw[f10,f18] at ba;have bb:=i 10 22 (by decide) rfl rfl rfl rfl;rw[f10,f22] at bb;have bc:=i 10 29 (by decide) rfl rfl rfl rfl;rw[f10,f29] at bc;have bd:=i 10 32 (by decide) rfl rfl rfl rfl;rw[f10,f32] at bd;have bg:=i 10 39 (by decide) rfl rfl rfl rfl;rw[f10,f39] at bg;have bh:=i 14 18 (by decide) rfl rfl rfl rfl;rw[f14,f18] at bh;have bj:=i 14 22 (by decide) rfl rfl rfl rfl;rw[f14,f22] at bj;have bk:=i 14 29 (by decide) rfl rfl rfl rfl;rw[f14,f29] at bk;have bl:=i 14 32 (by decide) rfl rfl rfl rfl;rw[f14,f32] at bl;have bn:=i 14 39 (by decide) rfl rfl rfl rfl;rw[f14,f39] at bn;have bo:=i 18 22 (by decide) rfl rfl rfl rfl;rw[f18,f22] at bo;have bp:=i 18 29 (by decide) rfl rfl rfl rfl;rw[f18,f29] at bp;have bq:=i 18 32 (by decide) rfl rfl rfl rfl;rw[f18,f32] at bq;have br:=i 18 39 (by decide) rfl rfl rfl rfl;rw[f18,f39] at br;have bs:=i 22 29 (by decide) rfl rfl rfl rfl;rw[f22,f29] at bs;have bt:=i 22 32 (by decide) rfl rfl rfl rfl;rw[f22,f32] at bt;have bu:=i 22 39 (by decide) rfl rfl rfl rfl;rw[f22,f39] at bu;have bw:=i 29 32 (by decide) rfl rfl rfl rfl;rw[f29,f32] at bw;have bx:=i 29 39 (by decide) rfl rfl rfl rfl;rw[f29,f39] at bx;have bA:=i 32 39 (by decide) rfl rfl rfl rfl;rw[f32,f39] at bA;simp only[bD,execOp,o_,j_,g_,an,ao,aq,ar,au,x,av,aw,y,ay,az];clear i d j q r;simp[gL,go_sem];exact .same f ⟨uw ⟨aD,m6,aE⟩ ⟨aF,m10,aG⟩ ⟨aH,m14,aI⟩ ⟨aJ,m18,aK⟩ ⟨aL,m22,aM⟩ ⟨aN,aO,aP⟩ ⟨aQ,m32,aR⟩ ⟨aS,aU,aV⟩,rfl,NW bB kY bC bE bF bG bH bI aW aX aY aZ a6 a7 a8 a' ba bb bc bd bg bh bj bk bl bn bo bp bq br bs bt bu bw bx bA⟩ rfl
 ·intro vals w g f d j hp i;obtain⟨⟨f40,aA⟩,-⟩:=(⟨d.1 rfl,d.2⟩:_/\_)
  have aA:g (.tmp 51)=vals 40:=aA _ rfl;obtain⟨hs,f40,bJ⟩:∃hs,vals 40=.agg (qW hs (qx n act z s D ⟨B,t,t⟩)).toArray/\mc W.heap.size qL nE w hs (cont hs r9 (qx n act z s D ⟨B,t,t⟩)):=f40 (y_ rfl);rw[f40] at aA;simp only[bD,execOp,aA];simp[gL,go_sem];exact .more q (bz w _) (r w _ f (bz w _)) ⟨hs,w.heap.size,rfl,aT.new w sQ _,f.size,bJ.below (bz w _)⟩ (λ h=>by cases h)
def vV(W:World)(G:Nat)(row:Option Nat)(b:Nat):Prop:=b<W.heap.size/\b≠G/\row≠some b
theorem kr.N0{gm zB:List Value}{cls:Nat->List Value}{X:Nat->List Value}(h:kr base W G hs cb gm cls n X){r:Nat}{h':ax}{ys:List Value}(f:aG (vV W G (hs r).b) W w)(q:aT w G sQ zB)(s:w.ownsRow base (qL r) (nE r) h'.v h'.n ys)(a:h'.b=(hs r).b\/∀g,h'.b=some g->W.heap.size<=g):
  kr base w G (iT hs r h') cb zB cls n (iT X r ys):=by
 have hk:∀r' g,r'≠r->(hs r').b=some g->vV W G (hs r).b g:=λ r' g c m=>⟨(h.rows.lt m).2,λ e=>h.uc r' g m e.symm,λ e=>h.rows.apart r' r g c m e⟩
 refine⟨q,⟨λ r'=>?_,λ j k g c h1=>?_⟩,λ d l=>f.blk (h.cls d l) ⟨(h.cls d l).lt,λ e=>h.C3 l e.symm,λ e=>h.xG l r _ e rfl⟩,h.inj,h.qX,h.rE⟩
 ·by_cases e:r'=r
  ·subst e;rw[jO,jO];exact s
  ·rw[bk _ _ e,bk _ _ e];refine oS (h.rows.row r') λ b t=>f.keep b (hk r' b e ?_)
   rw[<-ax.own];exact t
 ·by_cases o:j=r
  ·subst o;rw[jO] at h1;rw[bk _ _ (λ e=>c e.symm)];rcases a with a|a
   ·rw[a] at h1;exact h.rows.apart j k g c h1
   ·intro i;have:=a g h1;have:=(h.rows.lt i).2;omega
  ·rw[bk _ _ o] at h1
   by_cases p:k=r
   ·subst p;rw[jO];intro i;rcases a with a|a
    ·rw[a] at i;exact h.rows.apart j k g c h1 i
    ·have:=a g i;have:=(h.rows.lt h1).2;omega
   ·rw[bk _ _ p];exact h.rows.apart j k g c h1
theorem aL.HP{W:World}{ai:List Int}(h:aL w (some ⟨b,0,none⟩) n c ai)(d:w.heap.size<=w'.heap.size)(hk:w'.heap[b]? =w.heap[b]?):aL w' (some ⟨b,0,none⟩) n c ai:=
 ⟨h.len,h.cap,h.mu,h.nT,λ f=>by
  obtain⟨g,off,e,h1,i⟩:=h.cells f;refine⟨g,off,e,f_ h1 d,λ j k=>?_⟩;injection e with e
  injection e with l m
  subst l m;exact(x_ (a:=⟨b,0+j,none⟩) hk).trans (i j k)⟩
theorem HQ{α:Type}{l:List α}{x:α}(h:l[k]? =some x):l.set k x=l:=by
 refine List.ext_getElem? λ j=>?_
 rw[List.getElem?_set];split
 ·rename_i e;subst e;have:=(Zq.1 h).1;rw[if_pos this,h]
 ·rfl
theorem vV.drop{row:Option Nat}(f:aG (vV W G row) W w)(a:Below w.heap.size w w'):aG (vV W G row) W w':=
 f.trans (aG.q4 a λ b a=>f_ a.1 f.size)
def y9(W:World)(base G:Nat)(L:List Value)(a:Option Addr)(n7 c g8 n8 d x:Nat)(i:Int)(xs:List Int)(j:Nat)(v:Value)(w:World):Prop:=
 match j with
 |0=>v=.pointer (some ⟨G,0,none⟩)
 |1=>v=.pointer (some ⟨G,0,none⟩)
 |2=>v=.pointer (some ⟨G,0,none⟩)
 |3=>v=.pointer (some ⟨G,11,none⟩)
 |4=>v=.slice (some ⟨g8,0,none⟩) n8 d
 |5=>v=.int .i64 (x:Int)
 |6=>v=.pointer (some ⟨G,0,none⟩)
 |7=>v=.pointer (some ⟨G,0,none⟩)
 |8=>v=.pointer (some ⟨G,10,none⟩)
 |9=>v=.slice a n7 c
 |10=>v=.int .i64 (x:Int)
 |11=>∃b,v=.slice (some ⟨b,0,none⟩) 1 1/\W.heap.size<=b/\aL w (some ⟨b,0,none⟩) 1 1 [(x:Int)]
 |12=>∃h:ax,v=h.v/\w.ownsRow base 3 1 h.v (n7+1) (jc (xs++[(x:Int)]))/\(h.b=a.map (·.block)\/∀g,h.b=some g->W.heap.size<=g)/\aT w G sQ L
 |13=>v=.int .i64 i
 |14=>v=.pointer (some ⟨G,0,none⟩)
 |15=>v=.pointer (some ⟨G,10,none⟩)
 |16=>∃h:ax,w.ownsRow base 3 1 h.v (n7+1) (jc (xs++[(x:Int)]))/\(h.b=a.map (·.block)\/∀g,h.b=some g->W.heap.size<=g)/\aT w G sQ (L.set 10 h.v)
 |17=>v=.pointer (some ⟨g8,x,none⟩)
 |_=>True
theorem y9.mono(W:World)(base G:Nat)(L:List Value)(g:Option Addr)(n7 k g8 n8 l x:Nat)(i:Int)(xs:List Int)(j:Nat)(u:Value)(w w':World)(a:Below w.heap.size w w')(h:y9 W base G L g n7 k g8 n8 l x i xs j u w):y9 W base G L g n7 k g8 n8 l x i xs j u w':=by
 match j,h with
 |0,h=>exact h
 |1,h=>exact h
 |2,h=>exact h
 |3,h=>exact h
 |4,h=>exact h
 |5,h=>exact h
 |6,h=>exact h
 |7,h=>exact h
 |8,h=>exact h
 |9,h=>exact h
 |10,h=>exact h
 |11,h=>obtain⟨b,h1,c,d⟩:=h;exact⟨b,h1,c,d.below a⟩
 |12,h=>obtain⟨e,h1,c,d,f⟩:=h;exact⟨e,h1,mw c a,d,f.below a⟩
 |13,h=>exact h
 |14,h=>exact h
 |15,h=>exact h
 |16,h=>obtain⟨e,c,d,f⟩:=h;exact⟨e,mw c a,d,f.below a⟩
 |17,h=>exact h
 |n+18,h=>trivial
def HR(j:Nat):Option Nat:=if j=12 then some 16 else none
structure HS(W:World)(base G:Nat)(L:List Value)(iW:Option Addr)(n7 iA g8 n8 p6 x:Nat)(i:Int)(xs:List Int):Prop where
 l10:L[10]? =some (.slice iW n7 iA)
 sX:L[11]? =some (.slice (some ⟨g8,0,none⟩) n8 p6)
 N1:x<n8
 tB:n8<=1000000
 N2:n7<=1000000
 cI:base<=W.heap.size
 bH:G<W.heap.size
 row:∀g,iW.map (·.block)=some g->g<W.heap.size/\g≠G
def Cf(W:World)(G:Nat)(L:List Value)(a:Option Addr)(w:World):Prop:=aG (vV W G (a.map (·.block))) W w/\∃v,aT w G sQ (L.set 10 v)
def Cg(base G:Nat)(L:List Value)(a:Option Addr)(n7 b:Nat)(xs:List Int)(w:World):Prop:=w.ownsRow base 3 1 (.slice a n7 b) n7 (jc xs)/\aT w G sQ L
theorem N3(W:World)(base G:Nat)(L:List Value)(m:Option Addr)(n7 p g8 n8 V x:Nat)(i:Int)(xs:List Int)(C:HS W base G L m n7 p g8 n8 V x i xs):
  ug q_ [some 62,some 63,some 64,some 65,some 66,some 67,some 68,some 69,some 70,some 71,some 72,some 73,some 74,some 75,some 76,some 77,none,some 78,none] [[],[],[1],[2],[3],[],[],[6],[7],[8],[],[10],[9,11],[],[0,0,4,6,7,8,9,10,11,12],[14,0,4,6,7,8,9,10,11,12],[15,12,12,0,4,6,7,8,9,10,11,12],[4,5,0,1,2,3,4,5,6,7,8,9,10,11,12,13,14,15,16],[17,13,16,0,1,2,3,4,5,6,7,8,9,10,11,12,13,14,15,16]] [(3,.pointer (some ⟨G,0,none⟩)),(5,.int .i64 (x:Int)),(4,.int .i64 i)] (Cf W G L m) (y9 W base G L m n7 p g8 n8 V x i xs) HR (Cg base G L m n7 p xs) 12 0 ((rV Tryz.f98 5).take 18):=by
 have ae:=y9.mono W base G L m n7 p g8 n8 V x i xs;have af:∀w w':World,Below w.heap.size w w'->Cg base G L m n7 p xs w->Cg base G L m n7 p xs w':=λ w w' o h=>⟨mw h.1 o,h.2.below o⟩
 have ag:∀w w':World,Cf W G L m w->Below w.heap.size w w'->Cf W G L m w':=λ w w' d o=>⟨vV.drop d.1 o,d.2.imp λ v h=>h.below o⟩
 refine⟨?_,?_,?_,?_,?_,?_,?_,?_,?_,?_,?_,?_,?_,?_,?_,?_,?_,?_,trivial⟩
 ·intro vals w f d l c j hp;have t:f (.tmp 3)=_:=j.1 rfl;simp only[bD,execOp,t];simp[gL,go_sem];exact .same d rfl
 ·intro vals w f d l c j hp;have t:f (.tmp 3)=_:=j.1 rfl;simp only[bD,execOp,t];simp[gL,go_sem];exact .same d rfl
 ·intro vals w f d l c j hp;obtain⟨⟨f1,A⟩,-⟩:=(⟨c.1 rfl,c.2⟩:_/\_)
  have A:f (.tmp 63)=vals 1:=A _ rfl;have f1:vals 1=_:=f1 (y_ rfl);rw[f1] at A;simp only[bD,execOp,A];simp[gL,go_sem];exact .same d rfl
 ·intro vals w f d l c j hp;obtain⟨⟨f2,B⟩,-⟩:=(⟨c.1 rfl,c.2⟩:_/\_)
  have B:f (.tmp 64)=vals 2:=B _ rfl;have f2:vals 2=_:=f2 (y_ rfl);rw[f2] at B;simp only[bD,execOp,B];simp[gL,go_sem];exact .same d rfl
 ·intro vals w f d l c j hp;obtain⟨⟨f3,D⟩,-⟩:=(⟨c.1 rfl,c.2⟩:_/\_)
  have D:f (.tmp 65)=vals 3:=D _ rfl;have f3:vals 3=_:=f3 (y_ rfl);rw[f3] at D;obtain⟨v0,ah⟩:=d.2;have y:=ah.cell 11;rw[List.getElem?_set_ne (by decide),C.sX] at y;simp only[bD,execOp,D];simp[gL,go_sem,y];exact .same d rfl
 ·intro vals w f d l c j hp;have X:f (.tmp 5)=_:=j.2.1 rfl;simp only[bD,execOp,X];simp[gL,go_sem];exact .same d rfl
 ·intro vals w f d l c j hp;have t:f (.tmp 3)=_:=j.1 rfl;simp only[bD,execOp,t];simp[gL,go_sem];exact .same d rfl
 ·intro vals w f d l c j hp;obtain⟨⟨f6,E⟩,-⟩:=(⟨c.1 rfl,c.2⟩:_/\_)
  have E:f (.tmp 68)=vals 6:=E _ rfl;have f6:vals 6=_:=f6 (y_ rfl);rw[f6] at E;simp only[bD,execOp,E];simp[gL,go_sem];exact .same d rfl
 ·intro vals w f d l c j hp;obtain⟨⟨f7,F⟩,-⟩:=(⟨c.1 rfl,c.2⟩:_/\_)
  have F:f (.tmp 69)=vals 7:=F _ rfl;have f7:vals 7=_:=f7 (y_ rfl);rw[f7] at F;simp only[bD,execOp,F];simp[gL,go_sem];exact .same d rfl
 ·intro vals w f d l c j hp;obtain⟨⟨f8,H⟩,-⟩:=(⟨c.1 rfl,c.2⟩:_/\_)
  have H:f (.tmp 70)=vals 8:=H _ rfl;have f8:vals 8=_:=f8 (y_ rfl);rw[f8] at H;have y:=(l (y_ rfl)).2.cell 10;rw[C.l10] at y;simp only[bD,execOp,H];simp[gL,go_sem,y];exact .same d rfl
 ·intro vals w f d l c j hp;have X:f (.tmp 5)=_:=j.2.1 rfl;simp only[bD,execOp,X];simp[gL,go_sem];exact .same d rfl
 ·intro vals w f d l c j hp;obtain⟨⟨f10,I⟩,-⟩:=(⟨c.1 rfl,c.2⟩:_/\_)
  have I:f (.tmp 72)=vals 10:=I _ rfl;have f10:vals 10=_:=f10 (y_ rfl);rw[f10] at I;simp only[bD,execOp,o_,j_,g_,I];simp[gL,go_sem];exact .more ae af (bz w _) (ag w _ d (bz w _)) ⟨w.heap.size,rfl,d.1.size,aL.lit w [(x:Int)] 1 _ rfl rfl (by omega)⟩
 ·intro vals w f d l c j hp;obtain⟨⟨f9,J⟩,⟨f11,K⟩,-⟩:=(⟨c.1 rfl,c.2.1 rfl,c.2.2⟩:_/\_/\_)
  have J:f (.tmp 71)=vals 9:=J _ rfl;have K:f (.tmp 73)=vals 11:=K _ rfl;have f9:vals 9=_:=f9 (y_ rfl);obtain⟨b,f11,q,s⟩:∃b,vals 11=.slice (some ⟨b,0,none⟩) 1 1/\W.heap.size<=b/\aL w (some ⟨b,0,none⟩) 1 1 [(x:Int)]:=f11 (y_ rfl);rw[f9] at J;rw[f11] at K;have aq:=C.N2;obtain⟨i1,i2⟩:=l (Or.inr rfl);obtain⟨v',w',g1,g2⟩:=CI w 25 base (.slice m n7 p) n7 xs i1 (some ⟨b,0,none⟩) 1 1 [(x:Int)] s (by omega) (Zh C.cI d.1.size);simp only[bD,execOp,resolve,invoke,builtin,l_,k_,u_,o_,j_,g_,J,K,g1,gL];obtain⟨h',ai,ar⟩:=ax.kW g2.1;subst ai;have ab:(Zx m n7 p).ownBlock=m.map (·.block):=ax.own ⟨m,n7,p⟩;have z:=g2.2.1;rw[ab] at z;have a:aT w' G sQ L:=i2.kept z (λ e=>(C.row G e.symm).2 rfl);refine⟨⟨d.1.trans (aG.grown z (λ b o=>f_ o.1 d.1.size) (λ b e hk=>hk.2.2 e)),.slice m n7 p,by rw[HQ C.l10];exact a⟩,⟨h',rfl,g2.1,?_,a⟩,λ k u hk _ r _ a=>?_,λ h _=>absurd rfl h⟩
  ·rcases g2.2.2 with Y|Y
   ·left;rw[<-ax.own,Y,ab]
   ·right;intro g e;rw[<-ax.own,Y] at e;injection e with e
    have:=d.1.size;omega
  ·match k,a,hk,r with
   |0,a,_,_=>exact a
   |1,a,_,_=>exact a
   |2,a,_,_=>exact a
   |3,a,_,_=>exact a
   |4,a,_,_=>exact a
   |5,a,_,_=>exact a
   |6,a,_,_=>exact a
   |7,a,_,_=>exact a
   |8,a,_,_=>exact a
   |9,a,_,_=>exact a
   |10,a,_,_=>exact a
   |11,a,_,_=>obtain⟨b,Z,aa,M⟩:=a;exact⟨b,Z,aa,M.HP (W:=W) z.size (z.block b (by obtain⟨au,off,e,h1,q⟩:=M.cells (by omega);injection e with e;injection e with e;omega) (λ e=>by have:=(C.row b e.symm).1;omega))⟩
   |12,a,hk,_=>exact absurd rfl hk
   |13,a,_,_=>exact a
   |14,a,_,_=>exact a
   |15,a,_,_=>exact a
   |16,a,_,r=>exact absurd r (by decide)
   |17,a,_,_=>exact a
   |n+18,a,_,_=>trivial
 ·intro vals w f d l c j hp;have aj:f (.tmp 4)=_:=j.2.2.1 rfl;simp only[bD,execOp,aj];simp[gL,go_sem];exact .same d rfl
 ·intro vals w f d l c j hp;obtain⟨⟨f0,N⟩,-⟩:=(⟨c.1 rfl,c.2⟩:_/\_)
  have N:f (.tmp 62)=vals 0:=N _ rfl;have f0:vals 0=_:=f0 (y_ rfl);rw[f0] at N;simp only[bD,execOp,N];simp[gL,go_sem];exact .same d rfl
 ·intro vals w f d l c j hp;obtain⟨⟨f14,O⟩,-⟩:=(⟨c.1 rfl,c.2⟩:_/\_)
  have O:f (.tmp 76)=vals 14:=O _ rfl;have f14:vals 14=_:=f14 (y_ rfl);rw[f14] at O;simp only[bD,execOp,O];simp[gL,go_sem];exact .same d rfl
 ·intro vals w f d l c j hp;obtain⟨⟨f15,P⟩,⟨f12,Q⟩,-⟩:=(⟨c.1 rfl,c.2.1 rfl,c.2.2⟩:_/\_/\_)
  have P:f (.tmp 77)=vals 15:=P _ rfl;have Q:f (.tmp 74)=vals 12:=Q _ rfl;have f15:vals 15=_:=f15 (y_ rfl);obtain⟨⟨R,jU,S⟩,f12,h1,q,s⟩:∃h:ax,vals 12=h.v/\w.ownsRow base 3 1 h.v (n7+1) (jc (xs++[(x:Int)]))/\(h.b=m.map (·.block)\/∀g,h.b=some g->W.heap.size<=g)/\aT w G sQ L:=f12 (Or.inr rfl);replace f12:vals 12=.slice R jU S:=f12;rw[f15] at P;rw[f12] at Q;have ad:=s.cell 10;rw[C.l10] at ad;have ak:=s.free 10;simp only[bD,execOp,P,Q];simp[gL,go_sem,ad,ak];have av:=C.bH;have al:=k8 w G 10 (.slice R jU S);refine⟨⟨d.1.trans (aG.set G 10 _ (λ hk=>hk.2.1 rfl)),.slice R jU S,s.set 10 _⟩,⟨⟨R,jU,S⟩,oS h1 (λ b o=>?_),q,s.set 10 _⟩,λ k u hk c r _ a=>?_,λ _ r _=>absurd r (by decide)⟩
  ·refine Below.heap_setCell _ _ _ _ (λ e=>?_);have e:G=b:=e.symm;subst e;rw[ax.own] at o;rcases q with q|q
   ·rw[q] at o;exact(C.row _ o).2 rfl
   ·have:=q _ o;omega
  ·match k,a,hk,c,r with
   |0,a,_,_,_=>exact a
   |1,a,_,_,_=>exact a
   |2,a,_,_,_=>exact a
   |3,a,_,_,_=>exact a
   |4,a,_,_,_=>exact a
   |5,a,_,_,_=>exact a
   |6,a,_,_,_=>exact a
   |7,a,_,_,_=>exact a
   |8,a,_,_,_=>exact a
   |9,a,_,_,_=>exact a
   |10,a,_,_,_=>exact a
   |11,a,_,_,_=>obtain⟨b,Z,aa,M⟩:=a;exact⟨b,Z,aa,M.HP (W:=W) al.size (Below.heap_setCell _ _ _ _ (show b≠G by omega))⟩
   |12,a,_,c,_=>exact absurd rfl c
   |13,a,_,_,_=>exact a
   |14,a,_,_,_=>exact a
   |15,a,_,_,_=>exact a
   |16,a,hk,_,_=>exact absurd rfl hk
   |17,a,_,_,_=>exact a
   |n+18,a,_,_,_=>trivial
 ·intro vals w f d l c j hp;obtain⟨⟨f4,T⟩,⟨f5,U⟩,-⟩:=(⟨c.1 rfl,c.2.1 rfl,c.2.2⟩:_/\_/\_)
  have T:f (.tmp 66)=vals 4:=T _ rfl;have f4:vals 4=_:=f4 (y_ rfl);rw[f4] at T;have U:f (.tmp 67)=vals 5:=U _ rfl;have f5:vals 5=_:=f5 (y_ rfl);rw[f5] at U;have an:(x:Int)<(n8:Int):=by have:=C.N1;omega
  have ao:(0:Int)<=x:=by omega
  simp only[bD,execOp,T,U];simp[gL,go_sem,an,ao];exact .same d rfl
theorem aY.N4{s:aq}(h:aY K base W G hs cb s){h':ax}{x:Int}
  (f:aG (vV W G (hs 7).b) W w) (c:aT w G sQ ((qW hs s).set 10 h'.v)) (i:w.ownsRow base 3 1 h'.v (s.ord.length+1) (jc (s.ord++[x]))) (a:h'.b=(hs 7).b\/∀g,h'.b=some g->W.heap.size<=g):
  aY K base w G (iT hs 7 h') cb (s.vf x)/\aG K W w:=by
 have j:=vU i;have k:w.ownsRow base (qL 7) (nE 7) h'.v h'.n (jc (s.ord++[x])):=by rw[j];exact i
 have l:=h.e.N0 (r:=7) f c k a;refine⟨⟨l.eq rfl rfl rfl (λ d _=>(vH hs s (by omega) _ d).symm) rfl (λ r=>?_),(h.s.ja (r:=7) (h':=h') (λ g e hk=>?_)).more f.size⟩,f.mono (λ b c=>⟨h.s.lt b c,λ e=>h.s.g (e▸c),λ e=>h.s.row 7 b e c⟩)⟩
 ·rw[vG hs cb _ (by omega)]
  by_cases e:r=7
  ·subst e;rw[jO];rfl
  ·rw[bk _ _ e];simp only[cont,if_neg e,aq.vf]
 ·rcases a with a|a
  ·exact h.s.row 7 g (a▸e) hk
  ·have:=a g e;have:=h.s.lt g hk;omega
def qR(n:Nat)(act:List Int)(a:Int)(b:List Bool)(c:List nw)(d:ax)(ord:List Int)(k:Nat):aq:=
 {qx n act a b c d with ord:=ord.take k,pl:=uv n ord k}
theorem N5(n:Nat)(act:List Int)(a:Int)(b:List Bool)(c:List nw)(d:ax)(ord:List Int)(k:Nat)(hk:k<ord.length):((qR n act a b c d ord k).vf (aj ord k)).pM (aj ord k).toNat (k:Int)=qR n act a b c d ord (k+1):=by
 unfold qR;rw[B5,uZ ord k hk];rfl
end
section
theorem oT.take{c:Core}(h:oT c)(l:List Int)(b:Bool):oT (o9 c l b):=by
 unfold o9;have a:oT (kF c l):=h.new l;have f:∀c':Core,oT c'->oT (wu c'):=λ c' h=>h
 split
 ·exact h
 ·split
  ·exact f _ h
  ·split
   ·split
    ·exact f _ a
    ·split
     ·refine a.set _ λ d e=>?_
      injection e with e
      subst e;show c.cl.length<(c.cl++[l]).length;simp
     ·exact a
   ·exact a
theorem HT(s:aq)(l:List Int)(b:Bool)(x:rS):s.c.cl.length<=(s.ou l b x).c.cl.length/\(s.ou l b x).c.cl.length<=s.c.cl.length+1:=by
 have e:(s.ou l b x).c.cl=if b=true\/l.length=0 then s.c.cl else s.c.cl++[l]:=Be _ _ _
 rw[e];split
 ·omega
 ·simp
theorem vR.ou{F Fd:List (List Int)}{n:Nat}{s:aq}(h:vR s){l:List Int}{b:Bool}{x:rS}(H:yF F Fd n (s.ou l b x)):vR (s.ou l b x):=
 ⟨oT.take h.qE l b,λ k d a=>(H.gR.wt.qJ k d a).1,λ d a=>f_ (h.wl d a) (HT s l b x).1⟩
theorem rq.mem{g:List Int}(h:g∈F):rq F g:=λ M a=>a.2 g h
theorem N6{a b:List Int}(c:n<=65536)(d:∀x∈a,gK n x)(e:∀x∈b,gK n x)(h:xM (k6 a) (k6 b)):xM a b:=λ x=>by
 rw[<-B6 c d,<-B6 c e];exact h x
structure tf(n:Nat)(s:k7)(jB:ax)(j k:Nat)(S:aq):Prop where
 mb:yF s.gs (s.gs.take j++(s.es.take k).map (·.r.ai)) n S
 cb:vR S
 act:S.act=s.act
 bt:S.bt=s.bt
 ord:S.ord=s.ord
 pl:S.pl=uv n s.ord n
 hM:S.hM=s.hM
 aF:S.aF=s.aF.map oe
 aO:S.aO=z_ (n+1) false
 nl:S.nl=[]
 jB:S.jB=some jB
 k4:S.aM.length=k
 HU:S.aM.map (ay S.c.cl)=(s.es.take k).map λ e=>k6 e.r.ai
 vT:S.c.cl.length<=j+k
theorem tf.init{n:Nat}{s:k7}{jB:ax}(O:pF n s):tf n s jB 0 0 (qR n s.act s.bt s.hM (s.aF.map oe) jB s.ord n):=by
 have b:∀v,aj (z_ (n+1) 0) v=0:=zP _;refine⟨⟨?_,rfl,rfl,rfl,b 0,rfl,λ d=>?_⟩,⟨λ v d a=>?_,λ k d a=>?_,λ d a=>(by cases a)⟩,rfl,rfl,?_,rfl,rfl,rfl,rfl,rfl,rfl,rfl,rfl,e_ _⟩
 ·exact kC.init s.gs n
 ·show 0<=(([]:List rS).getD d ⟨false,0,0⟩).ac/\_;have e:∀d,lG (qR n s.act s.bt s.hM (s.aF.map oe) jB s.ord n) d=⟨false,0,0⟩:=λ d=>by
   show([]:List rS).getD d ⟨false,0,0⟩=_;rfl
  rw[e];unfold jF;exact⟨Zo _,by decide,Zo _,by decide⟩
 ·have:mz (z_ (n+1) none) v=none:=by
   unfold mz;rw[List.getD_eq_getElem?_getD,List.getElem?_replicate];split<;>rfl
  have a:mz (z_ (n+1) none) v=some d:=a;rw[this] at a;cases a
 ·have a:d∈ay (z_ (2*n+2) []) k:=a;rw[Bl] at a;cases a
 ·show s.ord.take n=s.ord;exact m_ (by rw[O.hk.ql];exact e_ _)
theorem tf.given(H:tf n s jB j 0 S)(O:pF n s)(b:n<=65536)(a:j<s.gs.length):tf n s jB (j+1) 0 (S.ou (k6 (n5 s.gs j)) (r4 (k6 (n5 s.gs j))) ⟨false,0,0⟩):=by
 have hm:n5 s.gs j∈s.gs:=EL a;have h1:=H.mb.take (Hw b (O.bH _ hm) (rq.mem hm)) (x:=⟨false,0,0⟩) (by unfold jF;exact⟨Zo _,by decide,Zo _,by decide⟩);have e:s.gs.take j++(s.es.take 0).map (·.r.ai)++[n5 s.gs j]=s.gs.take (j+1)++(s.es.take 0).map (·.r.ai):=by
  rw[CC _ _ a];simp
 rw[e] at h1;refine⟨h1,H.cb.ou h1,H.act,H.bt,H.ord,H.pl,H.hM,H.aF,H.aO,H.nl,H.jB,H.k4,?_,by have:=(HT S (k6 (n5 s.gs j)) (r4 (k6 (n5 s.gs j))) ⟨false,0,0⟩).2;have:=H.vT;omega⟩;have c:S.aM=[]:=Zy H.k4;show S.aM.map _=_;rw[c];rfl
theorem tf.N7(H:tf n s jB j k S)(O:pF n s)(f:n<=65536)(hk:k<s.es.length):tf n s jB j (k+1) ((S.uK S.c.cl.length).ou (k6 s.es[k].r.ai) (r4 (k6 s.es[k].r.ai)) ⟨true,s.es[k].bh,s.es[k].ac⟩):=by
 have hm:s.es[k]∈s.es:=Zp hk;obtain⟨ok,bh,ac⟩:=O.w6 _ hm;obtain⟨g,h⟩:=NA f ok;have i:yF s.gs (s.gs.take j++(s.es.take k).map (·.r.ai)) n (S.uK S.c.cl.length):=⟨H.mb.gR,H.mb.iX,H.mb.st,H.mb.ag,H.mb.v0,H.mb.nH,H.mb.p5⟩
 have h1:=i.take (Hw f ok.lt (O.HH _ hm)) (x:=⟨true,s.es[k].bh,s.es[k].ac⟩) ⟨ac.1,ac.2,bh.1,bh.2⟩;have e:s.gs.take j++(s.es.take k).map (·.r.ai)++[s.es[k].r.ai]=s.gs.take j++(s.es.take (k+1)).map (·.r.ai):=by
  rw[b_ hk,Zz,List.append_assoc];rfl
 rw[e] at h1;have a:=Kt (S.uK S.c.cl.length) (k6 s.es[k].r.ai) ⟨true,s.es[k].bh,s.es[k].ac⟩ h H.mb.nH;have hold:=λ d ag=>Ks (S.uK S.c.cl.length) (k6 s.es[k].r.ai) false ⟨true,s.es[k].bh,s.es[k].ac⟩ (d:=d) ag H.mb.nH
 rw[g] at h1⊢;have l:vR ((S.uK S.c.cl.length).ou (k6 s.es[k].r.ai) false ⟨true,s.es[k].bh,s.es[k].ac⟩):=by
  refine⟨oT.take H.cb.qE _ _,λ k d ag=>(h1.gR.wt.qJ k d ag).1,λ d ag=>?_⟩;have ag:d∈S.aM++[S.c.cl.length]:=ag;have m:((S.uK S.c.cl.length).ou (k6 s.es[k].r.ai) false ⟨true,s.es[k].bh,s.es[k].ac⟩).c.cl.length=S.c.cl.length+1:=a.1;rcases h_.1 ag with b|b
  ·have:=H.cb.wl d b;omega
  ·rw[List.mem_singleton.1 b];omega
 refine⟨h1,l,H.act,H.bt,H.ord,H.pl,H.hM,H.aF,H.aO,H.nl,H.jB,?_,?_,?_⟩
 ·show(S.aM++[S.c.cl.length]).length=_;rw[List.length_append,H.k4];rfl
 ·show(S.aM++[S.c.cl.length]).map _=_;rw[Zz,b_ hk,Zz,<-H.HU]
  congr 1
  ·refine List.map_congr_left λ d ag=>?_
   exact(hold d (H.cb.wl d ag)).1
  ·show [ay _ S.c.cl.length]=[k6 s.es[k].r.ai]
   rw[show ay ((S.uK S.c.cl.length).ou (k6 s.es[k].r.ai) false ⟨true,s.es[k].bh,s.es[k].ac⟩).c.cl S.c.cl.length=k6 s.es[k].r.ai from a.2.1]
 ·have m:((S.uK S.c.cl.length).ou (k6 s.es[k].r.ai) false ⟨true,s.es[k].bh,s.es[k].ac⟩).c.cl.length=S.c.cl.length+1:=a.1;have:=H.vT;omega
theorem tf.kg(H:tf n s jB s.gs.length s.es.length S)(O:pF n s)(j:n<=65536)(e:List Int):mq s.gs e n s.es.length S 0 S.c.ag:=by
 have T:=H.mb.gR.aK;have f:=H.mb.st;have hk:=O.hk;rw[H.mb.ag];refine⟨⟨T,⟨H.mb.gR.jN.mF,H.mb.gR.jN.imp,λ g k=>H.mb.gR.jN.tn g (by rw[m_ (e_ _)];exact h_.2 (.inl k)),H.mb.gR.jN.tq,H.mb.gR.jN.tr⟩,H.mb.gR.wt,H.mb.gR.rz,H.mb.gR.rA,H.mb.gR.cur,H.mb.gR.hle⟩,?_,nr.low T f e,qj.zero f,λ v h1 h i=>?_,H.aO,?_,H.k4,λ l hl=>?_,H.mb.v0,H.cb.qE⟩
 ·refine⟨H.mb.iX,?_,by rw[H.act];exact hk.lg,λ v=>by rw[H.act];exact hk.qi v,by rw[H.act];exact hk.a0,by rw[H.bt];exact hk.gW.1,by rw[H.bt];exact hk.gW.2,by rw[H.hM];exact O.nG,by rw[H.hM];exact O.oU,H.mb.nH,λ d=>?_,H.cb.wl⟩
  ·rw[H.ord,H.pl];exact hk.lP
  ·have:=H.mb.p5 d;refine⟨this.1,?_,this.2.2.1,this.2.2.2⟩;have p:=this.2.1;unfold jF at*;omega
 ·rw[H.pl];exact D0 _ _ _ _
 ·rw[H.HU,m_ (e_ _)];have h1:=O.D9;rw[List.pairwise_map] at h1⊢;refine(List.Pairwise.and_mem.1 h1).imp ?_;rintro a b ⟨m,o,h⟩ i;exact h (N6 j (O.w6 a m).1.lt (O.w6 b o).1.lt i)
 ·rw[H.nl] at hl;cases hl
end
section
open Go.RowKit Go.Shelf
theorem oz.in(f:oz w A bG c es)(k:Below w.heap.size w W)(l:∀b,A.map (·.block)=some b->0<bG->K b)(m:S.jB=some ⟨A,bG,bG⟩)(i:S.aF=es.map oe)(s:A=none->bG=0)(n:A≠none->∃b off,A=some ⟨b,off,none⟩):o5 K W S:=by
 intro h g;rw[m] at g;injection g with g
 subst g;refine⟨by rw[i,v_];exact f.len.symm,rfl,?_⟩;rcases Zw bG with a|a
 ·rcases Classical.em (A=none) with e|e
  ·exact .inl ⟨e,a⟩
  ·obtain⟨b,off,he⟩:=n e;refine .inr ⟨b,off,he,λ h=>by have h:0<bG:=h;omega,λ j u d=>?_⟩;have:es=[]:=Zy (by rw[f.len];exact a);rw[i,this] at d;simp[mj] at d
 ·obtain⟨b,off,e,o,q⟩:=f.cells a;refine .inr ⟨b,off,e,λ a=>l b (by rw[e];rfl) a,λ j u d=>?_⟩;rw[i,HI] at d;have r:j<bG*2:=by
   have:=(Zq.1 d).1;rw[x4,f.len] at this;exact this
  exact(k.cell (p:=⟨b,off+j,none⟩) o).trans ((q j r).trans d)
theorem oz.lines(d:oz w A bG c es)(f:Below w.heap.size w W)(g:∀e∈es,∀b,e.r.A.map (·.block)=some b->0<e.r.n->K b)(a:∀p∈es,(p.lH=1\/p.lH=2\/p.lH=3)/\∀x∈p.r.ai,gK n x):∀p∈es.map oe,qq K W n p:=by
 intro p hp;obtain⟨e,he,rfl⟩:=Zk.1 hp;have h:=d.rows e he;exact⟨(a e he).1,⟨e.r.ai,h.below f,(a e he).2⟩,λ b i j=>g e he b i j⟩
def za(w W:World)(A:Option Addr)(a c:Nat)(es:List nx):Prop:=(a=c\/W.ownsRow w.heap.size 126 2 (.slice A a c) a (mR es))/\(A=none->a=0/\c=0)
theorem N8{pW:Nat->Prop}{kY:World}{fM aB h:Nat}{bp:Option Addr}{aR:Nat}{es:List mM}{iW:Option Addr}{iA:Nat}
  (Y:∀W,aG pW kY W->ku W bp s.gs.length aR s.gs) (Z:∀W,aG pW kY W->∀e∈s.aF,aL W e.r.A e.r.n e.r.c e.r.ai) (O:pF n s) (x:n<=10) (aa:w.heap.size<=base) (E:∀W,aG pW kY W->aY K base W G hs cb S) (d:mq s.gs ah n fM S aB h) (ab:∀W,aG pW kY W->sF W A es.length c es) (y:es.length=S.aM.length) (u:∀(i:Nat)(h:i<es.length),B2 S i es[i]) (ad:∀W,aG pW kY W->aL W iW n iA ((qs S.act (oy n)).map (·.1)))
  (P:∀W,aG pW kY W->o5 K W S) (L:∀p∈S.aF,qq pW kY n p) (ae:s.aF.map oe<+:S.aF) (av:S.aF.length<=1099511627776) (af:fM=s.es.length):
  ∃(s':k7)(z:Option Addr)(B:Nat)(C:Option Addr)(D:Nat)(f:Option Addr)(j:Nat),(hs 6).v=.slice z (n+1) B/\(hs 9).v=.slice C (n+1) D/\oE hs S=.slice f s'.aF.length j/\s'.bt=S.bt/\s'.es=es/\s'.gs=s.gs/\pF n s'/\s'.es.length=s.es.length+aB/\s.aF<+:s'.aF/\s'.aF.length=S.aF.length/\(f≠none->∃b off,f=some ⟨b,off,none⟩)/\∀W,aG pW kY W->ri W s' bp aR A c z B iW iA C D f j/\za w W f s'.aF.length j s'.aF:=by
 obtain⟨rest,F⟩:=ae;obtain⟨g,ag,H⟩:=HJ (K:=pW) (w:=kY) (n:=n) rest (λ p hp=>L p (by rw[<-F];exact h_.2 (.inr hp)));have m:(s.aF++g).map oe=S.aF:=by rw[Zz,ag,F]
 have hlen:(s.aF++g).length=S.aF.length:=by rw[<-m,v_]
 have I:∀W,aG pW kY W->∀e∈s.aF++g,aL W e.r.A e.r.n e.r.c e.r.ai:=λ W a e he=>by
  rcases h_.1 he with h1|h1
  ·exact Z W a e h1
  ·exact(H e h1).2.jr a (λ b k x=>(L (oe e) (by rw[<-m];exact List.mem_map_of_mem he)).blk b k x)
 obtain⟨f,j,J,_,_,_,aj⟩:=(E kY aG.refl).HK (P kY aG.refl) m (I kY aG.refl) (by omega);have M:∀W,aG pW kY W->oz W f (s.aF++g).length j (s.aF++g)/\za w W f (s.aF++g).length j (s.aF++g):=λ W a=>by
  obtain⟨aw,az,N,ak,al,an,_⟩:=(E W a).HK (P W a) m (I W a) (by omega);rw[J] at N;injection N with d1 d2 d3
  subst d1 d3;exact⟨ak,⟨al.imp id (λ h=>yA h aa),an⟩⟩
 have Q:=E kY aG.refl;have o:=d.rg.lg;obtain⟨a1,_⟩:=Q.HC (by omega);have a2:=λ W a=>((E W a).HC (by omega)).2
 have q:=d.rg.nG;obtain⟨R,_⟩:=Q.HD (by omega);have T:=λ W a=>((E W a).HD (by omega)).2
 rw[o] at a1;simp only[o] at a2;rw[q] at R;simp only[q] at T;have ao:S.c.n=n:=d.rg.iX;have U:sH n S.act ((qs S.act (oy n)).map (·.1)) S.bt:=sH.sorted o d.rg.a0 d.rg.qi ⟨d.rg.q7,d.rg.oG⟩ (by omega);have ar:es.map (·.r.ai)=S.aM.map (ay S.c.cl):=by
  refine List.ext_getElem (by rw[v_,v_,y]) λ i h1 t=>?_
  rw[v_] at h1 t;rw[s_,s_,(u i h1).1,va t]
 have V:∀i (h:i<es.length),gZ S.aM i<S.c.cl.length:=λ i h=>d.rg.k4 _ (by rw[va (by omega)];exact Zp _)
 refine⟨⟨n,s.gs,es,S.act,(qs S.act (oy n)).map (·.1),S.bt,S.hM,s.aF++g⟩,_,_,_,_,f,j,a1,R,J,rfl,rfl,rfl,⟨rfl,O.g1,O.bH,U,q,d.rg.oU,λ e he=>?_,λ e he=>?_,?_,λ p hp=>?_⟩,by show es.length=_;rw[y,d.ql,af],List.prefix_append _ _,hlen,aj,λ W a=>⟨⟨Y W a,ab W a,by show aL W _ S.act.length _ S.act;rw[o];exact a2 W a,by show aL W _ ((qs S.act (oy n)).map (·.1)).length _ _;rw[U.ql];exact ad W a,by show kE W _ S.hM.length _ S.hM;rw[q];exact T W a,(M W a).1⟩,(M W a).2⟩⟩
 ·obtain⟨i,l,rfl⟩:=a_.1 he;obtain⟨h1,t,au⟩:=u i l;have X:=d.gR.jN.mF _ (V i l);rw[ao] at X;have k:=d.rg.p5 (gZ S.aM i);rw[h1,t,au];refine⟨X,⟨k.2.2.1,k.2.2.2⟩,?_⟩;have aA:=k.1;unfold jF at*;omega
 ·obtain⟨i,l,rfl⟩:=a_.1 he;rw[(u i l).1];exact d.gR.jN.imp _ (V i l)
 ·show(es.map (·.r.ai)).Pairwise _;rw[ar];exact d.wK
 ·rcases h_.1 hp with h1|h1
  ·exact O.Cb p h1
  ·exact(H p h1).1
end
end Go.Proofs.YtogdlkfacflmaaaGreat
