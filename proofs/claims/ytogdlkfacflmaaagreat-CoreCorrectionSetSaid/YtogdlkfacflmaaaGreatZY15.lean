/- Parts of the walk of the solver and its core; no condition. -/
import Derived.Test.YtogdlkfacflmaaaGreatZY14
import Derived.Test.YtogdlkfacflmaaaGreatZY3
import Derived.Test.YtogdlkfacflmaaaGreatZY13
import Derived.Test.YtogdlkfacflmaaaGreatZY6
import Derived.Test.YtogdlkfacflmaaaGreatZY4
import Derived.Test.YtogdlkfacflmaaaGreatZY10
import Derived.Test.YtogdlkfacflmaaaGreatZY5
import Derived.Test.YtogdlkfacflmaaaGreatZY1
namespace Go.Proofs.YtogdlkfacflmaaaGreat
set_option linter.unusedVariables false
set_option linter.unusedSimpArgs false
set_option maxRecDepth 100000
set_option maxHeartbeats 8000000
open _root_.List renaming replicate→z_,length_map→u_,getElem_map→s_,map_toArray→o_,take_of_length_le→m_,all_eq_true→j_,map_cons→i_,mem_append→g_,map_nil→f_,take_succ_eq_append_getElem→b_,mem_iff_getElem→a_,map_append→Zz,eq_nil_of_length_eq_zero→Zy,mem_take_iff_getElem→Zt,pairwise_iff_getElem→Zs,getElem?_eq_some_iff→Zq,getElem_mem→Zp,mem_map→Zk
open _root_.Or renaming inl→y_
open _root_.Go.World renaming cell?_of_block→x_
open _root_.Array renaming getD_eq_getD_getElem?→w_,replicate→n_,all_eq_true_iff_forall_mem→c_,getElem?_eq_getElem→Zr,mem_of_getElem?→Zn
open _root_.Bool renaming and_eq_true→v_,or_eq_false_iff→Zm
open _root_.Go.Result renaming andThen_ok→t_
open _root_.Go.IntKind renaming wrap_i64→r_,i64→h_
open _root_.Go.Proofs.Tryz renaming prog→q_
open _root_.Go.Value renaming int→p_,slice→Zx,pointer→Zu,bool→Zl
open _root_.Go.Sem renaming run_bind→l_,run_pure→k_
open _root_.Nat renaming lt_of_lt_of_le→e_,le_refl→d_,eq_zero_or_pos→Zw,le_trans→Zh
open _root_.Go.Region renaming wanted→Zv,binds→Zj,ready→Zi
open _root_.Int renaming le_refl→Zo
variable{n k G i b size base c j bK:Nat}{ah:List Int}{ls F:List (List Int)}{aW:Int}{ws:List (List Nat)}{iA:World->Prop}{mk:Nat->Bool}{w w' W:World}{v:Value}{e:TypeId}{xs:List Value}{h jG:ay}{hs:Nat->ay}{cb:Nat->Nat}{K:Nat->Prop}{s:lp}{S:au}{A:Option Addr}{es:List nH}
section
open Go.RowKit
def vI(n:Int)(x:Int):Bool:=decide (1<=x.natAbs)&&decide ((x.natAbs:Int)<=n)
def sM(n:Int)(ah:List Int):Bool:=ah.all (vI n)&&decide ((ah.map aD).Nodup)
def sN(n:Int)(ah:List Int)(k:Nat):Bool:= !(vI n (jP ah k))||hasB ((ah.take k).map λ x=>(aD x:Int)) (aD (jP ah k):Int)
theorem Ep{n:Int}(h:k<ah.length)(b:sN n ah k=true):sM n ah=false:=by
 cases hm:sM n ah with
 |false=>rfl
 |true=>
  exfalso;unfold sM at hm;rw[v_,j_,decide_eq_true_eq] at hm;unfold sN at b;rw[ql h,Bool.or_eq_true] at b;rcases b with b|b
  ·rw[hm.1 _ (Zp h)] at b;cases b
  ·obtain⟨y,c,d⟩:=Zk.1 (wI.1 b);obtain⟨j,f,e⟩:=Zt.1 c;have h1:=Zs.1 hm.2 j k (by rw[u_];omega) (by rw[u_];omega) (by omega);rw[s_,s_,e] at h1;exact h1 (by have:(aD y:Int)=(aD ah[k]:Int):=d;omega)
theorem N7{n:Int}(c:∀k,k<ah.length->sN n ah k=false):sM n ah=true:=by
 unfold sM;rw[v_,j_,decide_eq_true_eq];constructor
 ·intro x d;obtain⟨k,hk,e⟩:=a_.1 d;have:=c k hk;unfold sN at this;rw[ql hk,Zm,e] at this;simpa using this.1
 ·rw[List.Nodup,Zs];intro i j f b l e;rw[u_] at f b;have:=c j b;unfold sN at this;rw[ql b,Zm] at this;rw[s_,s_] at e;have g:hasB ((ah.take j).map λ x=>(aD x:Int)) (aD ah[j]:Int)=true:=wI.2 (Zk.2 ⟨ah[i],Zt.2 ⟨i,by omega,rfl⟩,by show(aD ah[i]:Int)=_;rw[e]⟩);rw[g] at this;cases this.2
theorem wD(h:sM n ah=true):(∀x∈ah,gP n x)/\(ah.map aD).Nodup:=by
 unfold sM at h;rw[v_,j_,decide_eq_true_eq] at h;refine⟨λ x b=>?_,h.2⟩;have:=h.1 x b;unfold vI at this;rw[v_,decide_eq_true_eq,decide_eq_true_eq] at this;exact⟨this.1,by unfold aD;omega⟩
theorem AL(h1:∀x∈ah,gP n x)(b:(ah.map aD).Nodup):sM n ah=true:=by
 unfold sM;rw[v_,j_,decide_eq_true_eq];refine⟨λ x c=>?_,b⟩;have:=h1 x c;unfold vI;rw[v_,decide_eq_true_eq,decide_eq_true_eq];exact⟨this.1,by have:=this.2;unfold aD at this;omega⟩
def kU(n:Int)(ls:List (List Int))(ah:List Int)(b:Int):Int:=
 if lS n ls=0 then (if sM n ah&&decide (0<=b)&&decide (b<=1099511627776) then 0 else 1) else lS n ls
theorem vg{n:Int}(h:kU n ls ah aW=0):lS n ls=0/\sM n ah=true/\0<=aW/\aW<=1099511627776:=by
 unfold kU at h
 by_cases b:lS n ls=0
 ·rw[if_pos b] at h;split at h
  ·rename_i h1;rw[v_,v_,decide_eq_true_eq,decide_eq_true_eq] at h1;exact⟨b,h1.1.1,h1.1.2,h1.2⟩
  ·cases h
 ·rw[if_neg b] at h;exact absurd h b
theorem Ia{n:Int}(b:lS n ls=0)(h1:sM n ah=true)(c:0<=aW)(d:aW<=1099511627776):kU n ls ah aW=0:=by
 unfold kU;rw[if_pos b,h1,decide_eq_true c,decide_eq_true d];rfl
structure tW(F:List (List Int))(n:Nat)(ah:List Int)(m:List Bool):Prop where
 len:m.length=n+1
 m0:iY m 0=false
 sat:∀g∈F,sW (kr m) g
 ah:∀x∈ah,kr m x=true
def si(F:List (List Int))(n:Nat)(ah:List Int)(b:Nat)(kind:Int)(m:List Bool)(core:List Int)(c:Nat):Prop:=
 c<=b/\((kind=1/\core=[]/\tW F n ah m)\/(kind=2/\m=[]/\core.Sublist ah/\¬Can F core/\∀j,j<core.length->Can F (core.eraseIdx j))\/
  (kind=3/\m=[]/\c=b/\b<=59048/\core.Sublist ah/\(core=[]\/¬Can F core)))
def tX(F:List (List Int))(n:Nat)(keep ah:List Int)(b:Nat)(kind:Int)(m:List Bool)(core:List Int)(c:Nat):Prop:=
 c<=b/\((kind=1/\tW F n keep m/\core=ah.filter (λ x=> !(kr m x))/\∀x∈core,¬Can F (keep++ah.filter (kr m)++[x]))\/(kind=2/\m=[]/\core.Sublist keep/\¬Can F core)\/
  (kind=3/\c=b/\b<=59048/\(m=[]/\core=[]\/tW F n keep m/\core=ah.filter (λ x=> !(kr m x)))))
theorem tW.can{m:List Bool}(h:tW F n ah m):Can F ah:=⟨kr m,⟨wh _,h.sat⟩,h.ah⟩
end
section
open Go.RowKit
def nI(v u:Value):Prop:=∀b,v.ownBlock=some b->u.ownBlock≠some b
def zw(mk:Nat->Bool)(L:Nat->Bool)(vals:Nat->Value):Prop:=∀j k,j≠k->mk j=true->mk k=true->L j=true->L k=true->nI (vals j) (vals k)
def Cy(G:Nat->Value->World->Prop)(mk:Nat->Bool):Prop:=∀j u w,mk j=true->G j u w->∀b,u.ownBlock=some b->b<w.heap.size
def AM(ws:List (List Nat))(iA:World->Prop)(G:Nat->Value->World->Prop)(mk:Nat->Bool)(i:Nat)(w:World)(v:Value)(w':World):Prop:=
 iA w'/\G i v w'/\(∀j u,j≠i->nT ws 8 j i=false->G j u w->G j u w')/\(mk i=true->∀b,v.ownBlock=some b->w.heap.size<=b)
theorem AM.same{G:Nat->Value->World->Prop}(b:iA w)(h:G i v w)(hk:mk i=false):AM ws iA G mk i w v w:=⟨b,h,λ _ _ _ _ h=>h,λ h=>by rw[hk] at h;cases h⟩
theorem AM.more{G:Nat->Value->World->Prop}(hm:∀j u w w',Below w.heap.size w w'->G j u w->G j u w')(c:Below w.heap.size w w')(d:iA w')(h:G i v w')(hk:mk i=true->∀b,v.ownBlock=some b->w.heap.size<=b):AM ws iA G mk i w v w':=⟨d,h,λ j u _ _ h=>hm j u w w' c h,hk⟩
def AN(P:Program)(ds:List (Option Tmp))(ws:List (List Nat))(old:List (Tmp×Value))(iA:World->Prop)(G:Nat->Value->World->Prop)(mk:Nat->Bool)(i:Nat)(o:Oper):Prop:=
 ∀(vals:Nat->Value)(w:World)(b:Operand->Value),iA w->q7 ds G (λ _=>none) i vals w b o.after.toList->oB ds ws i b old->oC b->(∀j k,j≠k->mk j=true->mk k=true->q8 ws i j=true->q8 ws i k=true->nI (vals j) (vals k))->
  bh P b o w (AM ws iA G mk i w)
def xJ(P:Program)(ds:List (Option Tmp))(ws:List (List Nat))(old:List (Tmp×Value))(iA:World->Prop)(G:Nat->Value->World->Prop)(mk:Nat->Bool):Nat->List Oper->Prop
 |_,[]=>True
 |k,o::r=>AN P ds ws old iA G mk k o/\xJ P ds ws old iA G mk (k+1) r
theorem xJ.at{P:Program}{ds:List (Option Tmp)}{ws:List (List Nat)}{old:List (Tmp×Value)}{iA:World->Prop}{G:Nat->Value->World->Prop}{mk:Nat->Bool}:∀{l:List Oper}{k i:Nat}{o:Oper},xJ P ds ws old iA G mk k l->l[i]? =some o->AN P ds ws old iA G mk (k+i) o
 |[],k,i,o,_,h=>by simp at h
 |x::l,k,0,o,hs,h=>by
  simp only[List.getElem?_cons_zero,Option.some.injEq] at h;subst h;exact hs.1
 |x::l,k,i+1,o,hs,h=>by
  rw[List.getElem?_cons_succ] at h;have:=xJ.at hs.2 h
  rwa[show k+1+i=k+(i+1) by omega] at this
section
variable {P:Program}{l:List Oper}{Q:Exit->Act->World->Prop}{a:Act}{old:List (Tmp×Value)}{iA:World->Prop}{G:Nat->Value->World->Prop}{mk:Nat->Bool}
theorem N8{ds:List (Option Tmp)}{ws:List (List Nat)}(M:ws=l.map λ o:Oper=>(o.after.toList.filter (Zj .any)).map (·.on))(N:ds=l.map λ o:Oper=>o.dst)(O:rN l.toArray=true)(C:pT l.toArray=true)(Z:rO l.toArray a.tmps.size=true)
  (hold:mV a.eval old) (R:Cy G mk)
  {i:Nat} {o:Oper} (n:l.toArray[i]? =some o) (S:AN P ds ws old iA G mk i o) {listed:Array Bool} {vals:Nat->Value} {w:World} {K:Act->World->Prop} (aA:listed.size=l.toArray.size) (aa:iA w) (hF:uy G (λ _=>none) (gQ listed) vals w) (T:zw mk (gQ listed) vals)
  (ab:i∈Zi .any l.toArray listed) (hC:q9 ws (gQ listed))
  (ad:∀v w',iA w'->q9 ws (gQ (listed.setIfInBounds i true))->uy G (λ _=>none) (gQ (listed.setIfInBounds i true)) (kH vals i v) w'->zw mk (gQ (listed.setIfInBounds i true)) (kH vals i v)->K (jM l.toArray (kH vals i v) (gQ (listed.setIfInBounds i true)) a l.toArray.size) w'):
  wpOp P l.toArray Q i K (jM l.toArray vals (gQ listed) a l.toArray.size) w:=by
 obtain⟨h1,U,ae,V,D⟩:=uA ab;obtain rfl:o=ae:=by rw[n] at V;injection V
 have r:i<listed.size:=by omega
 have z:gQ listed i=false:=by
  unfold gQ;rw[w_,Zr r] at U⊢;simpa using U
 have W:∀j,q8 ws i j=true->gQ listed j=true:=λ j d=>by
  obtain⟨af,m,e,he,t,E⟩:=x5 M d;rw[n] at m;injection m with m
  subst m;have:=D e he t;rw[E] at this;exact this
 unfold wpOp;simp only[n];have ag:o.guard=none:=by
  unfold pT at C;rw[c_] at C;have:=C o (Zn n);simpa using this
 have hw:Zv o (yielded l.toArray (jM l.toArray vals (gQ listed) a l.toArray.size).tmps)=true:=by unfold Zv;rw[ag]
 rw[if_pos hw];left;unfold AN at S;have ah:=S vals w (jM l.toArray vals (gQ listed) a l.toArray.size).eval aa (q7.of λ e he t=>by
  have hl:=D e (Array.mem_toList_iff.1 he) t;have ai:e.on<l.toArray.size:=by
   rcases Nat.lt_or_ge e.on listed.size with h|h
   ·omega
   ·rw[w_,Array.getElem?_eq_none h] at hl;cases hl
  refine⟨λ u=>hF e.on hl λ c f=>?_,λ s hs=>?_⟩
  ·rcases u with u|u
   ·rw[u] at f;cases f
   ·rw[u] at f;injection f with f
    rw[<-f];exact z
  ·rw[N,<-w8] at hs;exact yS hs (Bv Z hs) hl (λ k hk=>w5 O hk hs) _ ai) (oB.of (λ s hs=>yR (λ j s' hl d F=>by
   injection F with F
   subst F;rw[w8,<-N] at d;have:=hC j i hl (Bu hs d);rw[z] at this;cases this) _) hold) (oC.act _) (λ j k A m1 m2 w1 aj=>T j k A m1 m2 (W j w1) (W k aj))
 refine ah.wp λ v w' ⟨ak,al,an,X⟩=>?_
 have ao:(jM l.toArray vals (gQ listed) a l.toArray.size).put o.dst v=jM l.toArray (kH vals i v) (gQ (listed.setIfInBounds i true)) a l.toArray.size:=by
  rw[oP r];have aq:oA l.toArray i=o.dst:=by unfold oA;rw[n];rfl
  have:=zY (ops:=l.toArray) (vals:=vals) (L:=gQ listed) (a:=a) (i:=i) (v:=v) (λ j d s hs=>w5 O d hs) z l.toArray.size h1;rw[aq] at this;exact this
 rw[ao];have ar:q9 ws (gQ (listed.setIfInBounds i true)):=by
  rw[oP r];intro j k d Y;unfold lR at d⊢
  by_cases e:k=i
  ·rw[if_pos e]
  ·rw[if_neg e]
   by_cases g:j=i
   ·subst g;obtain⟨af,m,au,av,t,E⟩:=x5 M Y;rw[n] at m;injection m with m
    subst m;have:=D au av t;rw[E] at this;exact this
   ·rw[if_neg g] at d;exact hC j k d Y
 refine ad v w' ak ar (λ j d aB=>?_) (λ j k A m1 m2 B y=>?_)
 ·rw[oP r] at d
  by_cases e:j=i
  ·subst e;have g:kH vals j v j=v:=by unfold kH;rw[if_pos rfl]
   rw[g];exact al
  ·have g:kH vals i v j=vals j:=by unfold kH;rw[if_neg e]
   have p:lR (gQ listed) i j=gQ listed j:=by unfold lR;rw[if_neg e]
   rw[g];rw[p] at d;refine an j _ e ?_ (hF j d λ c f=>by cases f)
   cases aw:nT ws 8 j i with
   |false=>rfl
   |true=>
    have:=hC.reach 8 j i d aw;rw[z] at this;cases this
 ·rw[oP r] at B y
  by_cases e:j=i
  ·subst e;have q:¬k=j:=λ e=>A e.symm
   have g:kH vals j v j=v:=by unfold kH;rw[if_pos rfl]
   have p:kH vals j v k=vals k:=by unfold kH;rw[if_neg q]
   have H:lR (gQ listed) j k=gQ listed k:=by unfold lR;rw[if_neg q]
   rw[H] at y;rw[g,p];intro b I J;have ax:=X m1 b I;have ay:=R k _ _ m2 (hF k y λ c f=>by cases f) b J;omega
  ·have p:kH vals i v j=vals j:=by unfold kH;rw[if_neg e]
   have H:lR (gQ listed) i j=gQ listed j:=by unfold lR;rw[if_neg e]
   rw[H] at B
   by_cases q:k=i
   ·subst q;have g:kH vals k v k=v:=by unfold kH;rw[if_pos rfl]
    rw[g,p];intro b I J;have ax:=X m2 b J;have ay:=R j _ _ m1 (hF j B λ c f=>by cases f) b I;omega
   ·have g:kH vals i v k=vals k:=by unfold kH;rw[if_neg q]
    have az:lR (gQ listed) i k=gQ listed k:=by unfold lR;rw[if_neg q]
    rw[az] at y;rw[p,g];exact T j k A m1 m2 B y
theorem N9{ds:List (Option Tmp)}{ws:List (List Nat)}(H:ws=l.map λ o:Oper=>(o.after.toList.filter (Zj .any)).map (·.on))(I:ds=l.map λ o:Oper=>o.dst)(n:Nat)(hlen:l.length=n+1)(J:rN l.toArray=true)(s:pT l.toArray=true)(K:rO l.toArray a.tmps.size=true)(L:tN l.toArray=true)(t:vX l n=true)(hold:mV a.eval old)(M:Cy G mk)
  (N:xJ P ds ws old iA G mk 0 (l.take n))
  (O:∀o vals w,l[n]? =some o->iA w->(∀j,j<n->G j (vals j) w)->zw mk (mD n) vals->bh P (jM l.toArray vals (mD n) a n).eval o w λ v w'=>Q .normal ((jM l.toArray vals (mD n) a n).put o.dst v) w'):
  ∀(fuel:Nat)(listed:Array Bool)(vals:Nat->Value)(w:World),listed.size=l.toArray.size->oD l.toArray listed<=fuel->0<oD l.toArray listed->gQ listed n=false->q9 ws (gQ listed)->iA w->uy G (λ _=>none) (gQ listed) vals w->zw mk (gQ listed) vals->
   wpAny P .any l.toArray Q fuel listed (jM l.toArray vals (gQ listed) a l.toArray.size) w:=by
 intro fuel
 induction fuel with
 |zero=>intro listed vals w m R S;omega
 |succ fuel T=>
  intro listed vals w m R S z hC A hF B;refine⟨λ h=>by have:=Bx L m h;omega,λ i C=>?_⟩;obtain⟨h1,U,o,p,V⟩:=uA C;have D:i<listed.size:=by omega
  have an:i<l.length:=by simpa using h1
  have u:l[i]? =some o:=by rw[List.getElem?_toArray] at p;exact p
  by_cases E:i=n
  ·subst E;have q:∀j,j<i->gQ listed j=true:=λ j d=>by
    unfold vX at t;rw[u] at t;simp only[j_,List.mem_range] at t;have b:=t j d;rw[Array.any_eq_true'] at b;obtain⟨e,he,y⟩:=b;simp only[v_,beq_iff_eq] at y;have:=V e he y.1;rw[y.2] at this;exact this
   have W:jM l.toArray vals (gQ listed) a l.toArray.size=jM l.toArray vals (mD i) a i:=by
    have X:l.toArray.size=i+1:=by simp[hlen]
    rw[X];simp only[jM];rw[z];simp only[Bool.false_eq_true,if_false];exact z7 i λ j d=>by rw[q j d];unfold mD;simp[d]
   rw[W];unfold wpOp;simp only[p];have Y:o.guard=none:=by
    unfold pT at s;rw[c_] at s;have:=s o (Zn p);simpa using this
   have hw:Zv o (yielded l.toArray (jM l.toArray vals (mD i) a i).tmps)=true:=by unfold Zv;rw[Y]
   rw[if_pos hw];left;refine(O o vals w u A (λ j d=>hF j (q j d) λ c Z=>by cases Z) (λ j k aa m1 m2 ab ad=>B j k aa m1 m2 (q j (by simpa[mD] using ab)) (q k (by simpa[mD] using ad)))).wp λ v w' ae=>?_
   refine wpAny_done ?_ ae _;rcases af:Zi .any l.toArray (listed.setIfInBounds i true) with _|⟨k,r⟩
   ·rfl
   ·have hk:k∈Zi .any l.toArray (listed.setIfInBounds i true):=by rw[af];simp
    obtain⟨b,f,_⟩:=uA hk;exfalso;have ao:k<i+1:=by simpa[hlen] using b
    by_cases e:k=i
    ·subst e;rw[w_,Array.getElem?_setIfInBounds_self_of_lt D] at f
     cases f
    ·have g:=q k (by omega);rw[w_,Array.getElem?_setIfInBounds_ne (λ x=>e x.symm)] at f;unfold gQ at g;rw[w_] at g;have ag:k<listed.size:=by omega
     rw[Zr ag] at f g;simp at f g;rw[f] at g;cases g
  ·have ah:AN P ds ws old iA G mk i o:=by
    have b:(l.take n)[i]? =some o:=by rw[List.getElem?_take,if_pos (by omega)];exact u
    have:=xJ.at N b
    rwa[Nat.zero_add] at this
   refine N8 H I J s K hold M p ah m A hF B C hC λ v w' ai aj ak al=>?_
   have F:gQ (listed.setIfInBounds i true) n=false:=by
    rw[oP D];unfold lR;rw[if_neg (λ e=>E e.symm)];exact z
   refine T _ _ w' (by simp[m]) (by have:=Bw (ops:=l.toArray) h1 U;omega) ?_ F aj ai ak al;rcases Zw (oD l.toArray (listed.setIfInBounds i true)) with b|b
   ·have:=w9 (ops:=l.toArray) (listed:=listed.setIfInBounds i true) (by simp[m]) b n (by simp[hlen]);rw[F] at this;cases this
   ·exact b
end
theorem Oa{P:Program}{id:Nat}{ops:Array Oper}{Q:Exit->Act->World->Prop}{a:Act}(l:List Oper)(n N:Nat)(ds:List (Option Tmp))(ws:List (List Nat))(old:List (Tmp×Value))(iA:World->Prop)(G:Nat->Value->World->Prop)(mk:Nat->Bool)
  (r:ops=l.toArray) (hm:P.follows .mixedOrders=true)
  (m:ds=l.map λ o:Oper=>o.dst) (s:ws=l.map λ o:Oper=>(o.after.toList.filter (Zj .any)).map (·.on)) (hlen:l.length=n+1) (t:rN l.toArray=true) (u:pT l.toArray=true) (y:tN l.toArray=true) (z:vX l n=true) (A:rO l.toArray N=true)
  (B:a.tmps.size=N) (hold:mV a.eval old) (C:Cy G mk) (D:iA w.drew)
  (E:xJ P ds ws old iA G mk 0 (l.take n))
  (ol:Oper) (F:l[n]? =some ol) (H:∀vals w,iA w->(∀j,j<n->G j (vals j) w)->zw mk (mD n) vals->∀f,mJ (ds.take n) 0 vals a=f->bh P f.eval ol w λ v w'=>Q .normal (f.put ol.dst v) w'):(Code.region id ops true).wp P Q a w:=by
 subst r;subst B;refine wp_region_any hm ?_;have I:∀o vals w,l[n]? =some o->iA w->(∀j,j<n->G j (vals j) w)->zw mk (mD n) vals->bh P (jM l.toArray vals (mD n) a n).eval o w λ v w'=>Q .normal ((jM l.toArray vals (mD n) a n).put o.dst v) w':=by
  intro o vals w d J K L;rw[F] at d;injection d with d
  subst d;rw[z6 l vals a n n (d_ _) (by omega),<-m];exact H vals w J K L _ rfl
 have b:∀k,gQ (n_ l.toArray.size false) k=false:=λ k=>by
  unfold gQ;rw[w_,Array.getElem?_replicate];split<;>rfl
 have e:a=jM l.toArray (λ _=>undef) (gQ (n_ l.toArray.size false)) a l.toArray.size:=by
  have:∀k,jM l.toArray (λ _=>undef) (gQ (n_ l.toArray.size false)) a k=a:=by
   intro k
   induction k with
   |zero=>rfl
   |succ k M=>
    simp only[jM];rw[b k,M];simp
  exact(this _).symm
 have p:=N9 (P:=P) (Q:=Q) (a:=a) (iA:=iA) (G:=G) (mk:=mk) s m n hlen t u A y z hold C E I l.toArray.size (n_ l.toArray.size false) (λ _=>undef) w.drew (by simp)
  (by unfold oD;exact Zh (List.length_filter_le _ _) (by simp)) ?_ (b n) (λ j i c=>by rw[b j] at c;cases c) D (λ j c=>by rw[b j] at c;cases c) (λ j k O m1 m2 q R=>by rw[b j] at q;cases q)
 ·rw[<-e] at p;exact p
 ·rcases Zw (oD l.toArray (n_ l.toArray.size false)) with g|g
  ·have:=w9 (ops:=l.toArray) (listed:=n_ l.toArray.size false) (by simp) g n (by simp[hlen]);rw[b n] at this;cases this
  ·exact g
end
section
open Go.RowKit Go.Shelf
theorem Ob:∀args w,(callFunc 106 args).run q_ w=.ok (.enter 106 args) w:=enters_of Tryz.func106 (by kernel_rfl) rfl
theorem Oc:∀args w,(callFunc 109 args).run q_ w=.ok (.enter 109 args) w:=enters_of Tryz.func109 (by kernel_rfl) rfl
theorem Od:(q_.info? 160).map (λ i=>(i.zero,i.size,i.bytes))=some (some (.slice none 0 0),1,24):=by kernel_rfl
theorem Oe:(q_.info? 171).map (λ i=>(i.zero,i.size,i.bytes))=some (some (.int .i8 0),1,1):=by kernel_rfl
theorem Of:(q_.info? 164).map (λ i=>(i.zero,i.size,i.bytes))=some (some (.pointer none),1,8):=by kernel_rfl
theorem zx{ty:TypeId}{z:Value}{bz:Nat}(b:(q_.info? e).map (λ i=>(i.zero,i.size,i.bytes))=some (some z,1,bz))(hu:q_.underlying ty=some (.slice e))(c:z.cells= #[z])(k:Nat)(hk:k<=200000)(d:bz<=100)(base:Nat)(f:base<=w.heap.size):
  (Instr.makeSlice ty (.int .i64 (k:Int)) (.int .i64 (k:Int))).run q_ w=.ok (.slice (some ⟨w.heap.size,0,none⟩) k k) (w.alloc (.cells (madeCells #[z] k) e))/\
  (w.alloc (.cells (madeCells #[z] k) e)).ownsRow base e 1 (.slice (some ⟨w.heap.size,0,none⟩) k k) k (z_ k z):=by
 obtain⟨i0,g,j,l,m⟩:=info_parts b;have hm:bz*k<=100*200000:=Nat.mul_le_mul d hk;have:=run_make (P:=q_) w ty e i0 z hu g j .i64 .i64 (k:Int) (k:Int) (by omega) (by omega) (by rw[m,<-Int.natCast_mul];omega) (by omega);rw[l,c,Nat.mul_one,Int.toNat_natCast] at this;refine⟨this,by simp,.inr ⟨_,_,_,rfl,f,heap_alloc_new _ _,d_ _,by unfold maxLen;omega,by rw[size_madeCells];simp,?_⟩⟩;rw[toList_madeCells_one,m_ (by simp)]
theorem Ib{mB:Nat}(h:w.ownsRow b e size v n xs)(c:mB<=b):w.ownsRow mB e size v n xs:=by
 refine⟨h.1,h.2.imp id ?_⟩;rintro⟨g,cap,cur,h1,d,f⟩;exact⟨g,cap,cur,h1,Zh c d,f⟩
def qD(n:Nat)(act:List Int)(bz:Int)(ia:List Bool)(aF:List nE)(jG:ay):au:=
 {c:=oe n,ci:=[],act:=act,bz:=bz,ord:=[],pl:=z_ (n+1) 0,ia:=ia,aO:=[],aF:=aF,aQ:=z_ (n+1) false,nl:=[],jG:=some jG}
def sj:Nat->Nat:=λ _=>0
def uL(b h1 c d e f g i:ay)(r:Nat):ay:=
 if r=0 then b else if r=1 then h1 else if r=2 then c else if r=3 then d else if r=6 then e else if r=8 then f else if r=9 then g else if r=12 then i else wO
theorem wE(b:w.ownsRow base e size h.v k xs):h.n=k:=by
 rcases b.2 with⟨h1,c⟩|⟨g,cap,cur,h1,_⟩
 ·unfold ay.v at h1;injection h1 with _ h1 _;omega
 ·unfold ay.v at h1;injection h1
theorem nI.ag{h':ay}(p:nI h.v h'.v)(g:Nat)(h1:h.b=some g):h'.b≠some g:=by
 have:=p g (by rw[ay.own];exact h1)
 rwa[ay.own] at this
theorem vh(k h1 l m n o p q:ay)(r:Nat):(r=0\/r=1\/r=2\/r=3\/r=6\/r=8\/r=9\/r=12)\/(uL k h1 l m n o p q r=wO/\r≠0/\r≠1/\r≠2/\r≠3/\r≠6/\r≠8/\r≠9/\r≠12):=by
 by_cases b:r=0
 ·exact .inl (.inl b)
 by_cases c:r=1
 ·exact .inl (by omega)
 by_cases d:r=2
 ·exact .inl (by omega)
 by_cases e:r=3
 ·exact .inl (by omega)
 by_cases f:r=6
 ·exact .inl (by omega)
 by_cases g:r=8
 ·exact .inl (by omega)
 by_cases i:r=9
 ·exact .inl (by omega)
 by_cases j:r=12
 ·exact .inl (by omega)
 right;refine⟨?_,b,c,d,e,f,g,i,j⟩;unfold uL;rw[if_neg b,if_neg c,if_neg d,if_neg e,if_neg f,if_neg g,if_neg i,if_neg j]
theorem Og(hs:Nat->ay)(n:Nat)(act:List Int)(b:Int)(c:List Bool)(d:List nE)(f:ay){r:Nat}(h:r≠0/\r≠1/\r≠2/\r≠3/\r≠6/\r≠8/\r≠9/\r≠12):cont hs sj (qD n act b c d f) r=[]:=by
 obtain⟨g,i,j,k,l,m,o,p⟩:=h;unfold cont;rw[if_neg g,if_neg i,if_neg j,if_neg k]
 by_cases e:r=4
 ·rw[if_pos e];rfl
 rw[if_neg e]
 by_cases e:r=5
 ·rw[if_pos e];rfl
 rw[if_neg e,if_neg l]
 by_cases e:r=7
 ·rw[if_pos e];rfl
 rw[if_neg e,if_neg m,if_neg o]
 by_cases e:r=10
 ·rw[if_pos e];rfl
 rw[if_neg e]
 by_cases e:r=11
 ·rw[if_pos e];rfl
 rw[if_neg e,if_neg p]
 by_cases e:r%3=1
 ·rw[if_pos e];show k7 sj (az (z_ _ []) _)=[]
  rw[BI];rfl
 rw[if_neg e]
 by_cases e:r%3=2
 ·rw[if_pos e];rfl
 ·rw[if_neg e];rfl
theorem Oh{act:List Int}{bz:Int}{ia:List Bool}{aF:List nE}{bJ mL nR nw nY nZ n4 n5:ay}
  (f:w.ownsRow base zV 1 bJ.v (2*n+2) (z_ (2*n+2) (Zx none 0 0))) (kW:w.ownsRow base zW 1 mL.v (n+1) (z_ (n+1) (p_ .i8 0))) (i:w.ownsRow base 3 1 nR.v (n+1) (z_ (n+1) (p_ .i64 0))) (k:w.ownsRow base x3 1 nw.v (n+1) (z_ (n+1) (Zu none))) (l:w.ownsRow base 3 1 nY.v (n+1) (jj act)) (m:w.ownsRow base 3 1 nZ.v (n+1) (z_ (n+1) (p_ .i64 0))) (o:w.ownsRow base 4 1 n4.v (n+1) (pR ia)) (p:w.ownsRow base 4 1 n5.v (n+1) (z_ (n+1) (Zl false)))
  (q:nI bJ.v mL.v) (s:nI bJ.v nR.v) (t:nI bJ.v nw.v) (u:nI bJ.v nY.v) (y:nI bJ.v nZ.v) (z:nI bJ.v n4.v) (A:nI bJ.v n5.v) (B:nI mL.v nR.v) (C:nI mL.v nw.v) (D:nI mL.v nY.v) (E:nI mL.v nZ.v) (F:nI mL.v n4.v) (G:nI mL.v n5.v) (H:nI nR.v nw.v) (I:nI nR.v nY.v) (J:nI nR.v nZ.v) (K:nI nR.v n4.v) (L:nI nR.v n5.v) (M:nI nw.v nY.v) (N:nI nw.v nZ.v) (O:nI nw.v n4.v) (P:nI nw.v n5.v) (Q:nI nY.v nZ.v) (R:nI nY.v n4.v) (S:nI nY.v n5.v) (T:nI nZ.v n4.v) (U:nI nZ.v n5.v) (V:nI n4.v n5.v):
  mu base qS nL w (uL bJ mL nR nw nY nZ n4 n5) (cont (uL bJ mL nR nw nY nZ n4 n5) sj (qD n act bz ia aF jG)):=by
 refine⟨λ r=>?_,λ r r' g d h1 b=>?_⟩
 ·rcases vh bJ mL nR nw nY nZ n4 n5 r with(rfl|rfl|rfl|rfl|rfl|rfl|rfl|rfl)|⟨e,c⟩
  ·show w.ownsRow base zV 1 bJ.v bJ.n _;rw[wE f];have:cont (uL bJ mL nR nw nY nZ n4 n5) sj (qD n act bz ia aF jG) 0=z_ (2*n+2) (Zx none 0 0):=by
    show(List.range (z_ (2*n+2) ([]:List Nat)).length).map _=_;rw[List.length_replicate];refine List.ext_getElem (by simp) λ j h1 b=>?_
    rw[s_,List.getElem_replicate];have W:(uL bJ mL nR nw nY nZ n4 n5) (iI j)=wO:=by
     rcases vh bJ mL nR nw nY nZ n4 n5 (iI j) with h|h
     ·unfold iI at h;omega
     ·exact h.1
    rw[List.getElem_range,W];rfl
   rw[this];exact f
  ·show w.ownsRow base zW 1 mL.v mL.n _;rw[wE kW];have:cont (uL bJ mL nR nw nY nZ n4 n5) sj (qD n act bz ia aF jG) 1=z_ (n+1) (p_ .i8 0):=by
    show s4 (z_ (n+1) 0)=_;simp[s4]
   rw[this];exact kW
  ·show w.ownsRow base 3 1 nR.v nR.n _;rw[wE i];have:cont (uL bJ mL nR nw nY nZ n4 n5) sj (qD n act bz ia aF jG) 2=z_ (n+1) (p_ .i64 0):=by
    show qo (z_ (n+1) 0)=_;simp[qo]
   rw[this];exact i
  ·show w.ownsRow base x3 1 nw.v nw.n _;rw[wE k];have:cont (uL bJ mL nR nw nY nZ n4 n5) sj (qD n act bz ia aF jG) 3=z_ (n+1) (Zu none):=by
    show uv sj (z_ (n+1) none)=_;simp[uv,qT]
   rw[this];exact k
  ·show w.ownsRow base 3 1 nY.v nY.n _;rw[wE l];exact l
  ·show w.ownsRow base 3 1 nZ.v nZ.n _;rw[wE m];have:cont (uL bJ mL nR nw nY nZ n4 n5) sj (qD n act bz ia aF jG) 8=z_ (n+1) (p_ .i64 0):=by
    show jj (z_ (n+1) 0)=_;simp[jj]
   rw[this];exact m
  ·show w.ownsRow base 4 1 n4.v n4.n _;rw[wE o];exact o
  ·show w.ownsRow base 4 1 n5.v n5.n _;rw[wE p];have:cont (uL bJ mL nR nw nY nZ n4 n5) sj (qD n act bz ia aF jG) 12=z_ (n+1) (Zl false):=by
    show pR (z_ (n+1) false)=_;simp[pR]
   rw[this];exact p
  ·rw[e,Og _ n act bz ia aF jG c];exact World.ownsRow_nil _ _ _ _
 ·rcases vh bJ mL nR nw nY nZ n4 n5 r with(rfl|rfl|rfl|rfl|rfl|rfl|rfl|rfl)|⟨e,c⟩
  ·rcases vh bJ mL nR nw nY nZ n4 n5 r' with(rfl|rfl|rfl|rfl|rfl|rfl|rfl|rfl)|⟨e,c⟩
   ·exact d rfl
   ·exact q.ag g h1 b
   ·exact s.ag g h1 b
   ·exact t.ag g h1 b
   ·exact u.ag g h1 b
   ·exact y.ag g h1 b
   ·exact z.ag g h1 b
   ·exact A.ag g h1 b
   ·rw[e] at b;cases b
  ·rcases vh bJ mL nR nw nY nZ n4 n5 r' with(rfl|rfl|rfl|rfl|rfl|rfl|rfl|rfl)|⟨e,c⟩
   ·exact q.ag g b h1
   ·exact d rfl
   ·exact B.ag g h1 b
   ·exact C.ag g h1 b
   ·exact D.ag g h1 b
   ·exact E.ag g h1 b
   ·exact F.ag g h1 b
   ·exact G.ag g h1 b
   ·rw[e] at b;cases b
  ·rcases vh bJ mL nR nw nY nZ n4 n5 r' with(rfl|rfl|rfl|rfl|rfl|rfl|rfl|rfl)|⟨e,c⟩
   ·exact s.ag g b h1
   ·exact B.ag g b h1
   ·exact d rfl
   ·exact H.ag g h1 b
   ·exact I.ag g h1 b
   ·exact J.ag g h1 b
   ·exact K.ag g h1 b
   ·exact L.ag g h1 b
   ·rw[e] at b;cases b
  ·rcases vh bJ mL nR nw nY nZ n4 n5 r' with(rfl|rfl|rfl|rfl|rfl|rfl|rfl|rfl)|⟨e,c⟩
   ·exact t.ag g b h1
   ·exact C.ag g b h1
   ·exact H.ag g b h1
   ·exact d rfl
   ·exact M.ag g h1 b
   ·exact N.ag g h1 b
   ·exact O.ag g h1 b
   ·exact P.ag g h1 b
   ·rw[e] at b;cases b
  ·rcases vh bJ mL nR nw nY nZ n4 n5 r' with(rfl|rfl|rfl|rfl|rfl|rfl|rfl|rfl)|⟨e,c⟩
   ·exact u.ag g b h1
   ·exact D.ag g b h1
   ·exact I.ag g b h1
   ·exact M.ag g b h1
   ·exact d rfl
   ·exact Q.ag g h1 b
   ·exact R.ag g h1 b
   ·exact S.ag g h1 b
   ·rw[e] at b;cases b
  ·rcases vh bJ mL nR nw nY nZ n4 n5 r' with(rfl|rfl|rfl|rfl|rfl|rfl|rfl|rfl)|⟨e,c⟩
   ·exact y.ag g b h1
   ·exact E.ag g b h1
   ·exact J.ag g b h1
   ·exact N.ag g b h1
   ·exact Q.ag g b h1
   ·exact d rfl
   ·exact T.ag g h1 b
   ·exact U.ag g h1 b
   ·rw[e] at b;cases b
  ·rcases vh bJ mL nR nw nY nZ n4 n5 r' with(rfl|rfl|rfl|rfl|rfl|rfl|rfl|rfl)|⟨e,c⟩
   ·exact z.ag g b h1
   ·exact F.ag g b h1
   ·exact K.ag g b h1
   ·exact O.ag g b h1
   ·exact R.ag g b h1
   ·exact T.ag g b h1
   ·exact d rfl
   ·exact V.ag g h1 b
   ·rw[e] at b;cases b
  ·rcases vh bJ mL nR nw nY nZ n4 n5 r' with(rfl|rfl|rfl|rfl|rfl|rfl|rfl|rfl)|⟨e,c⟩
   ·exact A.ag g b h1
   ·exact G.ag g b h1
   ·exact L.ag g b h1
   ·exact P.ag g b h1
   ·exact S.ag g b h1
   ·exact U.ag g b h1
   ·exact V.ag g b h1
   ·exact d rfl
   ·rw[e] at b;cases b
  ·rw[e] at h1;cases h1
def qO(W:World)(d n:Nat)(act:List Int)(g:Int)(j:List Bool)(A:Option Addr)(c:Nat)(l:Option Addr)(m:Nat)(f:Option Addr)(e o:Nat)(k:List nE)(i:Nat)(v:Value)(w:World):Prop:=
 match i with
 |0=>v=.pointer (some ⟨d,0,none⟩)
 |1=>v=.int .i64 ((n:Int))
 |2=>v=.pointer (some ⟨d,0,none⟩)
 |3=>v=.int .i64 ((n:Int))
 |4=>v=.int .i64 (2*(n:Int))
 |5=>v=.int .i64 (2*(n:Int)+2)
 |6=>∃h:ay,v=h.v/\w.ownsRow W.heap.size zV 1 h.v (2*n+2) (z_ (2*n+2) (Zx none 0 0))
 |7=>v=.pointer (some ⟨d,0,none⟩)
 |8=>v=.int .i64 ((n:Int))
 |9=>v=.int .i64 ((n:Int)+1)
 |10=>∃h:ay,v=h.v/\w.ownsRow W.heap.size zW 1 h.v (n+1) (z_ (n+1) (p_ .i8 0))
 |11=>v=.pointer (some ⟨d,0,none⟩)
 |12=>v=.int .i64 ((n:Int))
 |13=>v=.int .i64 ((n:Int)+1)
 |14=>∃h:ay,v=h.v/\w.ownsRow W.heap.size 3 1 h.v (n+1) (z_ (n+1) (p_ .i64 0))
 |15=>v=.pointer (some ⟨d,0,none⟩)
 |16=>v=.int .i64 ((n:Int))
 |17=>v=.int .i64 ((n:Int)+1)
 |18=>∃h:ay,v=h.v/\w.ownsRow W.heap.size x3 1 h.v (n+1) (z_ (n+1) (Zu none))
 |19=>v=.pointer (some ⟨d,3,none⟩)
 |20=>v=.pointer (some ⟨d,3,none⟩)
 |21=>v=.slice A (n+1) c
 |22=>∃h:ay,v=h.v/\w.ownsRow W.heap.size 3 1 h.v (n+1) (jj act)
 |23=>v=.pointer (some ⟨d,3,none⟩)
 |24=>v=.pointer (some ⟨d,5,none⟩)
 |25=>v=.int .i64 (g)
 |26=>v=.pointer (some ⟨d,0,none⟩)
 |27=>v=.int .i64 ((n:Int))
 |28=>v=.int .i64 ((n:Int)+1)
 |29=>∃h:ay,v=h.v/\w.ownsRow W.heap.size 3 1 h.v (n+1) (z_ (n+1) (p_ .i64 0))
 |30=>v=.pointer (some ⟨d,6,none⟩)
 |31=>v=.slice l (n+1) m
 |32=>∃h:ay,v=h.v/\w.ownsRow W.heap.size 4 1 h.v (n+1) (pR j)
 |33=>v=.pointer (some ⟨d,7,none⟩)
 |34=>v=.slice f e o
 |35=>v=.slice f e e
 |36=>v=.pointer (some ⟨d,0,none⟩)
 |37=>v=.int .i64 ((n:Int))
 |38=>v=.int .i64 ((n:Int)+1)
 |39=>∃h:ay,v=h.v/\w.ownsRow W.heap.size 4 1 h.v (n+1) (z_ (n+1) (Zl false))
 |40=>∃hs,v=.agg (q5 hs (qD n act g j k ⟨f,e,e⟩)).toArray/\mu W.heap.size qS nL w hs (cont hs sj (qD n act g j k ⟨f,e,e⟩))
 |41=>∃hs b,v=.pointer (some ⟨b,0,none⟩)/\aR w b s0 (q5 hs (qD n act g j k ⟨f,e,e⟩))/\W.heap.size<=b/\mu W.heap.size qS nL w hs (cont hs sj (qD n act g j k ⟨f,e,e⟩))
 |_=>True
theorem qO.mono(W:World)(g n:Nat)(act:List Int)(j:Int)(k:List Bool)(A:Option Addr)(c:Nat)(l:Option Addr)(m:Nat)(o:Option Addr)(p q:Nat)(r:List nE)(i:Nat)(u:Value)(w w':World)(f:Below w.heap.size w w')(h:qO W g n act j k A c l m o p q r i u w):qO W g n act j k A c l m o p q r i u w':=by
 match i,h with
 |0,h=>exact h
 |1,h=>exact h
 |2,h=>exact h
 |3,h=>exact h
 |4,h=>exact h
 |5,h=>exact h
 |6,h=>obtain⟨e,h1,d⟩:=h;exact⟨e,h1,mh d f⟩
 |7,h=>exact h
 |8,h=>exact h
 |9,h=>exact h
 |10,h=>obtain⟨e,h1,d⟩:=h;exact⟨e,h1,mh d f⟩
 |11,h=>exact h
 |12,h=>exact h
 |13,h=>exact h
 |14,h=>obtain⟨e,h1,d⟩:=h;exact⟨e,h1,mh d f⟩
 |15,h=>exact h
 |16,h=>exact h
 |17,h=>exact h
 |18,h=>obtain⟨e,h1,d⟩:=h;exact⟨e,h1,mh d f⟩
 |19,h=>exact h
 |20,h=>exact h
 |21,h=>exact h
 |22,h=>obtain⟨e,h1,d⟩:=h;exact⟨e,h1,mh d f⟩
 |23,h=>exact h
 |24,h=>exact h
 |25,h=>exact h
 |26,h=>exact h
 |27,h=>exact h
 |28,h=>exact h
 |29,h=>obtain⟨e,h1,d⟩:=h;exact⟨e,h1,mh d f⟩
 |30,h=>exact h
 |31,h=>exact h
 |32,h=>obtain⟨e,h1,d⟩:=h;exact⟨e,h1,mh d f⟩
 |33,h=>exact h
 |34,h=>exact h
 |35,h=>exact h
 |36,h=>exact h
 |37,h=>exact h
 |38,h=>exact h
 |39,h=>obtain⟨e,h1,d⟩:=h;exact⟨e,h1,mh d f⟩
 |40,h=>obtain⟨hs,h1,d⟩:=h;exact⟨hs,h1,d.below f⟩
 |41,h=>obtain⟨hs,b,h1,d,s,t⟩:=h;exact⟨hs,b,h1,d.below f,s,t.below f⟩
 |n+42,h=>trivial
def Cz(i:Nat):Bool:=[6,10,14,18,22,29,32,39].contains i
theorem qO.lt(W:World)(g n:Nat)(act:List Int)(i:Int)(k:List Bool)(A:Option Addr)(c:Nat)(l:Option Addr)(m:Nat)(o:Option Addr)(p q:Nat)(r:List nE):Cy (qO W g n act i k A c l m o p q r) Cz:=by
 intro j u w hm h b e;have s:j=6\/j=10\/j=14\/j=18\/j=22\/j=29\/j=32\/j=39:=by simpa[Cz] using hm
 rcases s with rfl|rfl|rfl|rfl|rfl|rfl|rfl|rfl
 ·obtain⟨f,rfl,d⟩:=h;exact(d.lt b e).2
 ·obtain⟨f,rfl,d⟩:=h;exact(d.lt b e).2
 ·obtain⟨f,rfl,d⟩:=h;exact(d.lt b e).2
 ·obtain⟨f,rfl,d⟩:=h;exact(d.lt b e).2
 ·obtain⟨f,rfl,d⟩:=h;exact(d.lt b e).2
 ·obtain⟨f,rfl,d⟩:=h;exact(d.lt b e).2
 ·obtain⟨f,rfl,d⟩:=h;exact(d.lt b e).2
 ·obtain⟨f,rfl,d⟩:=h;exact(d.lt b e).2
structure Ic(W:World)(iG n:Nat)(act:List Int)(bz:Int)(ia:List Bool)(A:Option Addr)(c:Nat)(hM:Option Addr)(gM:Nat)(bA:Option Addr)(bK bI:Nat)(aF:List nE):Prop where
 aY:W.cell? ⟨iG,0,none⟩=some (.int .i64 (n:Int))
 c3:W.cell? ⟨iG,3,none⟩=some (.slice A (n+1) c)
 jD:W.cell? ⟨iG,5,none⟩=some (.int .i64 bz)
 jd:W.cell? ⟨iG,6,none⟩=some (.slice hM (n+1) gM)
 iB:W.cell? ⟨iG,7,none⟩=some (.slice bA bK bI)
 gX:iG<W.heap.size
 Oi:aP W A (n+1) c act
 Oj:kN W hM (n+1) gM ia
 clip:∀w,Calls q_ 109 #[.slice bA bK bI] w λ e w'=>e=.returned (.slice bA bK bK)/\w'=w
 tP:n<=60000
theorem Ol(W:World)(k n:Nat)(act:List Int)(B:Int)(s:List Bool)(A:Option Addr)(c:Nat)(M:Option Addr)(N:Nat)(D:Option Addr)(t aC:Nat)(E:List nE)(C:Ic W k n act B s A c M N D t aC E):
  xJ q_ [some 11,some 12,some 13,some 14,some 15,some 16,some 17,some 18,some 19,some 20,some 21,some 22,some 23,some 24,some 25,some 26,some 27,some 28,some 29,some 30,some 31,some 32,some 33,some 34,some 35,some 36,some 37,some 38,some 39,some 40,some 41,some 42,some 43,some 44,some 45,some 46,some 47,some 48,some 49,some 50,some 51,some 52,some 3] [[],[0],[],[2],[3],[4],[5,5],[],[7],[8],[9,9],[],[11],[12],[13,13],[],[15],[16],[17,17],[],[19],[20],[21],[],[23],[24],[],[26],[27],[28,28],[],[30],[31,22],[],[33],[34,32],[],[36],[37],[38,38],[1,6,10,14,18,22,25,29,32,35,39],[40],[41,35,0,1,2,3,4,5,6,7,8,9,10,11,12,13,14,15,16,17,18,19,20,21,22,23,24,25,26,27,28,29,30,31,32,33,34,35,36,37,38,39,40,41]] [(1,.pointer (some ⟨k,0,none⟩))] (λ w=>Below W.heap.size W w) (qO W k n act B s A c M N D t aC E) Cz 0 ((qb Tryz.f98 1).take 42):=by
 have q:=qO.mono W k n act B s A c M N D t aC E;have r:∀w w':World,Below W.heap.size W w->Below w.heap.size w w'->Below W.heap.size W w':=λ w w' f o=>f.trans (o.mono f.size)
 have bL:=C.tP;refine⟨?_,?_,?_,?_,?_,?_,?_,?_,?_,?_,?_,?_,?_,?_,?_,?_,?_,?_,?_,?_,?_,?_,?_,?_,?_,?_,?_,?_,?_,?_,?_,?_,?_,?_,?_,?_,?_,?_,?_,?_,?_,?_,trivial⟩
 ·intro vals w g f d j hp i;have l:g (.tmp 1)=_:=j.1 rfl;simp only[bh,execOp,l];simp[bQ,go_sem];exact .same f rfl rfl
 ·intro vals w g f d j hp i;obtain⟨⟨f0,O⟩,-⟩:=(⟨d.1 rfl,d.2⟩:_/\_)
  have O:g (.tmp 11)=vals 0:=O _ rfl;have f0:vals 0=_:=f0 (y_ rfl);rw[f0] at O;have m:=(x_ (a:=⟨k,0,none⟩) (f.block k C.gX)).trans C.aY;simp only[bh,execOp,O];simp[bQ,go_sem,m];exact .same f rfl rfl
 ·intro vals w g f d j hp i;have l:g (.tmp 1)=_:=j.1 rfl;simp only[bh,execOp,l];simp[bQ,go_sem];exact .same f rfl rfl
 ·intro vals w g f d j hp i;obtain⟨⟨f2,P⟩,-⟩:=(⟨d.1 rfl,d.2⟩:_/\_)
  have P:g (.tmp 13)=vals 2:=P _ rfl;have f2:vals 2=_:=f2 (y_ rfl);rw[f2] at P;have m:=(x_ (a:=⟨k,0,none⟩) (f.block k C.gX)).trans C.aY;simp only[bh,execOp,P];simp[bQ,go_sem,m];exact .same f rfl rfl
 ·intro vals w g f d j hp i;obtain⟨⟨f3,Q⟩,-⟩:=(⟨d.1 rfl,d.2⟩:_/\_)
  have Q:g (.tmp 14)=vals 3:=Q _ rfl;have f3:vals 3=_:=f3 (y_ rfl);rw[f3] at Q;have wn:h_.wrap (2*(n:Int))=2*(n:Int):=by rw[r_];omega
  simp only[bh,execOp,Q];simp[bQ,go_sem,wn,hp.1];exact .same f rfl rfl
 ·intro vals w g f d j hp i;obtain⟨⟨f4,R⟩,-⟩:=(⟨d.1 rfl,d.2⟩:_/\_)
  have R:g (.tmp 15)=vals 4:=R _ rfl;have f4:vals 4=_:=f4 (y_ rfl);rw[f4] at R;have wn:h_.wrap (2*(n:Int)+2)=2*(n:Int)+2:=by rw[r_];omega
  simp only[bh,execOp,R];simp[bQ,go_sem,wn,hp.1];exact .same f rfl rfl
 ·intro vals w g f d j hp i;obtain⟨⟨f5,F⟩,-⟩:=(⟨d.1 rfl,d.2⟩:_/\_)
  have F:g (.tmp 16)=vals 5:=F _ rfl;have f5:vals 5=_:=f5 (y_ rfl);rw[f5] at F;have p:=zx (w:=w) Od Tryz.underlying158 rfl (2*n+2) (by omega) (by omega) W.heap.size f.size;rw[show(2*(n:Int)+2)=(((2*n+2):Nat):Int) by omega] at F;simp only[bh,execOp,l_,k_,t_,F,p.1,bQ];exact .more q (bC w _) (r w _ f (bC w _)) ⟨⟨_,_,_⟩,rfl,p.2⟩ (λ _ b o=>by have e:some w.heap.size=some b:=o;injection e with e;omega)
 ·intro vals w g f d j hp i;have l:g (.tmp 1)=_:=j.1 rfl;simp only[bh,execOp,l];simp[bQ,go_sem];exact .same f rfl rfl
 ·intro vals w g f d j hp i;obtain⟨⟨f7,S⟩,-⟩:=(⟨d.1 rfl,d.2⟩:_/\_)
  have S:g (.tmp 18)=vals 7:=S _ rfl;have f7:vals 7=_:=f7 (y_ rfl);rw[f7] at S;have m:=(x_ (a:=⟨k,0,none⟩) (f.block k C.gX)).trans C.aY;simp only[bh,execOp,S];simp[bQ,go_sem,m];exact .same f rfl rfl
 ·intro vals w g f d j hp i;obtain⟨⟨f8,T⟩,-⟩:=(⟨d.1 rfl,d.2⟩:_/\_)
  have T:g (.tmp 19)=vals 8:=T _ rfl;have f8:vals 8=_:=f8 (y_ rfl);rw[f8] at T;have wn:h_.wrap ((n:Int)+1)=(n:Int)+1:=by rw[r_];omega
  simp only[bh,execOp,T];simp[bQ,go_sem,wn,hp.1];exact .same f rfl rfl
 ·intro vals w g f d j hp i;obtain⟨⟨f9,G⟩,-⟩:=(⟨d.1 rfl,d.2⟩:_/\_)
  have G:g (.tmp 20)=vals 9:=G _ rfl;have f9:vals 9=_:=f9 (y_ rfl);rw[f9] at G;have p:=zx (w:=w) Oe Tryz.underlying159 rfl (n+1) (by omega) (by omega) W.heap.size f.size;rw[show((n:Int)+1)=(((n+1):Nat):Int) by omega] at G;simp only[bh,execOp,l_,k_,t_,G,p.1,bQ];exact .more q (bC w _) (r w _ f (bC w _)) ⟨⟨_,_,_⟩,rfl,p.2⟩ (λ _ b o=>by have e:some w.heap.size=some b:=o;injection e with e;omega)
 ·intro vals w g f d j hp i;have l:g (.tmp 1)=_:=j.1 rfl;simp only[bh,execOp,l];simp[bQ,go_sem];exact .same f rfl rfl
 ·intro vals w g f d j hp i;obtain⟨⟨f11,U⟩,-⟩:=(⟨d.1 rfl,d.2⟩:_/\_)
  have U:g (.tmp 22)=vals 11:=U _ rfl;have f11:vals 11=_:=f11 (y_ rfl);rw[f11] at U;have m:=(x_ (a:=⟨k,0,none⟩) (f.block k C.gX)).trans C.aY;simp only[bh,execOp,U];simp[bQ,go_sem,m];exact .same f rfl rfl
 ·intro vals w g f d j hp i;obtain⟨⟨f12,V⟩,-⟩:=(⟨d.1 rfl,d.2⟩:_/\_)
  have V:g (.tmp 23)=vals 12:=V _ rfl;have f12:vals 12=_:=f12 (y_ rfl);rw[f12] at V;have wn:h_.wrap ((n:Int)+1)=(n:Int)+1:=by rw[r_];omega
  simp only[bh,execOp,V];simp[bQ,go_sem,wn,hp.1];exact .same f rfl rfl
 ·intro vals w g f d j hp i;obtain⟨⟨f13,H⟩,-⟩:=(⟨d.1 rfl,d.2⟩:_/\_)
  have H:g (.tmp 24)=vals 13:=H _ rfl;have f13:vals 13=_:=f13 (y_ rfl);rw[f13] at H;have p:=zx (w:=w) xS Tryz.underlying25 rfl (n+1) (by omega) (by omega) W.heap.size f.size;rw[show((n:Int)+1)=(((n+1):Nat):Int) by omega] at H;simp only[bh,execOp,l_,k_,t_,H,p.1,bQ];exact .more q (bC w _) (r w _ f (bC w _)) ⟨⟨_,_,_⟩,rfl,p.2⟩ (λ _ b o=>by have e:some w.heap.size=some b:=o;injection e with e;omega)
 ·intro vals w g f d j hp i;have l:g (.tmp 1)=_:=j.1 rfl;simp only[bh,execOp,l];simp[bQ,go_sem];exact .same f rfl rfl
 ·intro vals w g f d j hp i;obtain⟨⟨f15,X⟩,-⟩:=(⟨d.1 rfl,d.2⟩:_/\_)
  have X:g (.tmp 26)=vals 15:=X _ rfl;have f15:vals 15=_:=f15 (y_ rfl);rw[f15] at X;have m:=(x_ (a:=⟨k,0,none⟩) (f.block k C.gX)).trans C.aY;simp only[bh,execOp,X];simp[bQ,go_sem,m];exact .same f rfl rfl
 ·intro vals w g f d j hp i;obtain⟨⟨f16,Y⟩,-⟩:=(⟨d.1 rfl,d.2⟩:_/\_)
  have Y:g (.tmp 27)=vals 16:=Y _ rfl;have f16:vals 16=_:=f16 (y_ rfl);rw[f16] at Y;have wn:h_.wrap ((n:Int)+1)=(n:Int)+1:=by rw[r_];omega
  simp only[bh,execOp,Y];simp[bQ,go_sem,wn,hp.1];exact .same f rfl rfl
 ·intro vals w g f d j hp i;obtain⟨⟨f17,I⟩,-⟩:=(⟨d.1 rfl,d.2⟩:_/\_)
  have I:g (.tmp 28)=vals 17:=I _ rfl;have f17:vals 17=_:=f17 (y_ rfl);rw[f17] at I;have p:=zx (w:=w) Of Tryz.underlying160 rfl (n+1) (by omega) (by omega) W.heap.size f.size;rw[show((n:Int)+1)=(((n+1):Nat):Int) by omega] at I;simp only[bh,execOp,l_,k_,t_,I,p.1,bQ];exact .more q (bC w _) (r w _ f (bC w _)) ⟨⟨_,_,_⟩,rfl,p.2⟩ (λ _ b o=>by have e:some w.heap.size=some b:=o;injection e with e;omega)
 ·intro vals w g f d j hp i;have l:g (.tmp 1)=_:=j.1 rfl;simp only[bh,execOp,l];simp[bQ,go_sem];exact .same f rfl rfl
 ·intro vals w g f d j hp i;obtain⟨⟨f19,Z⟩,-⟩:=(⟨d.1 rfl,d.2⟩:_/\_)
  have Z:g (.tmp 30)=vals 19:=Z _ rfl;have f19:vals 19=_:=f19 (y_ rfl);rw[f19] at Z;simp only[bh,execOp,Z];simp[bQ,go_sem];exact .same f rfl rfl
 ·intro vals w g f d j hp i;obtain⟨⟨f20,aa⟩,-⟩:=(⟨d.1 rfl,d.2⟩:_/\_)
  have aa:g (.tmp 31)=vals 20:=aa _ rfl;have f20:vals 20=_:=f20 (y_ rfl);rw[f20] at aa;have m:=(x_ (a:=⟨k,3,none⟩) (f.block k C.gX)).trans C.c3;simp only[bh,execOp,aa];simp[bQ,go_sem,m];exact .same f rfl rfl
 ·intro vals w g f d j hp i;obtain⟨⟨f21,ab⟩,-⟩:=(⟨d.1 rfl,d.2⟩:_/\_)
  have ab:g (.tmp 32)=vals 21:=ab _ rfl;have f21:vals 21=_:=f21 (y_ rfl);rw[f21] at ab;have J:=C.Oi.below f;refine rP 81 #[.tmp 32] #[25] rfl Cd hp ?_;simp only[o_,i_,f_,ab];refine(vD A (n+1) c act w J).mono ?_;rintro e w' ⟨aD,c2,rfl,u,o⟩;have hl:=J.len;rw[hl] at u⊢;refine⟨_,rfl,.more q o (r w w' f o) ⟨⟨aD,n+1,c2⟩,rfl,Ib u f.size⟩ (λ _ b e=>(u.lt b e).1)⟩
 ·intro vals w g f d j hp i;have l:g (.tmp 1)=_:=j.1 rfl;simp only[bh,execOp,l];simp[bQ,go_sem];exact .same f rfl rfl
 ·intro vals w g f d j hp i;obtain⟨⟨f23,ad⟩,-⟩:=(⟨d.1 rfl,d.2⟩:_/\_)
  have ad:g (.tmp 34)=vals 23:=ad _ rfl;have f23:vals 23=_:=f23 (y_ rfl);rw[f23] at ad;simp only[bh,execOp,ad];simp[bQ,go_sem];exact .same f rfl rfl
 ·intro vals w g f d j hp i;obtain⟨⟨f24,ae⟩,-⟩:=(⟨d.1 rfl,d.2⟩:_/\_)
  have ae:g (.tmp 35)=vals 24:=ae _ rfl;have f24:vals 24=_:=f24 (y_ rfl);rw[f24] at ae;have m:=(x_ (a:=⟨k,5,none⟩) (f.block k C.gX)).trans C.jD;simp only[bh,execOp,ae];simp[bQ,go_sem,m];exact .same f rfl rfl
 ·intro vals w g f d j hp i;have l:g (.tmp 1)=_:=j.1 rfl;simp only[bh,execOp,l];simp[bQ,go_sem];exact .same f rfl rfl
 ·intro vals w g f d j hp i;obtain⟨⟨f26,af⟩,-⟩:=(⟨d.1 rfl,d.2⟩:_/\_)
  have af:g (.tmp 37)=vals 26:=af _ rfl;have f26:vals 26=_:=f26 (y_ rfl);rw[f26] at af;have m:=(x_ (a:=⟨k,0,none⟩) (f.block k C.gX)).trans C.aY;simp only[bh,execOp,af];simp[bQ,go_sem,m];exact .same f rfl rfl
 ·intro vals w g f d j hp i;obtain⟨⟨f27,ag⟩,-⟩:=(⟨d.1 rfl,d.2⟩:_/\_)
  have ag:g (.tmp 38)=vals 27:=ag _ rfl;have f27:vals 27=_:=f27 (y_ rfl);rw[f27] at ag;have wn:h_.wrap ((n:Int)+1)=(n:Int)+1:=by rw[r_];omega
  simp only[bh,execOp,ag];simp[bQ,go_sem,wn,hp.1];exact .same f rfl rfl
 ·intro vals w g f d j hp i;obtain⟨⟨f28,K⟩,-⟩:=(⟨d.1 rfl,d.2⟩:_/\_)
  have K:g (.tmp 39)=vals 28:=K _ rfl;have f28:vals 28=_:=f28 (y_ rfl);rw[f28] at K;have p:=zx (w:=w) xS Tryz.underlying25 rfl (n+1) (by omega) (by omega) W.heap.size f.size;rw[show((n:Int)+1)=(((n+1):Nat):Int) by omega] at K;simp only[bh,execOp,l_,k_,t_,K,p.1,bQ];exact .more q (bC w _) (r w _ f (bC w _)) ⟨⟨_,_,_⟩,rfl,p.2⟩ (λ _ b o=>by have e:some w.heap.size=some b:=o;injection e with e;omega)
 ·intro vals w g f d j hp i;have l:g (.tmp 1)=_:=j.1 rfl;simp only[bh,execOp,l];simp[bQ,go_sem];exact .same f rfl rfl
 ·intro vals w g f d j hp i;obtain⟨⟨f30,ah⟩,-⟩:=(⟨d.1 rfl,d.2⟩:_/\_)
  have ah:g (.tmp 41)=vals 30:=ah _ rfl;have f30:vals 30=_:=f30 (y_ rfl);rw[f30] at ah;have m:=(x_ (a:=⟨k,6,none⟩) (f.block k C.gX)).trans C.jd;simp only[bh,execOp,ah];simp[bQ,go_sem,m];exact .same f rfl rfl
 ·intro vals w g f d j hp i;obtain⟨⟨f31,ai⟩,⟨f22,y⟩,-⟩:=(⟨d.1 rfl,d.2.1 rfl,d.2.2⟩:_/\_/\_)
  have ai:g (.tmp 42)=vals 31:=ai _ rfl;have f31:vals 31=_:=f31 (y_ rfl);rw[f31] at ai;have y:g (.tmp 33)=vals 22:=y _ rfl;have J:=C.Oj.below f;refine rP 106 #[.tmp 42] #[28] rfl Ob hp ?_;simp only[o_,i_,f_,ai];refine(N3 M (n+1) N s w J).mono ?_;rintro e w' ⟨aD,c2,rfl,u,o⟩;have hl:=J.len;rw[hl] at u⊢;refine⟨_,rfl,.more q o (r w w' f o) ⟨⟨aD,n+1,c2⟩,rfl,Ib u f.size⟩ (λ _ b e=>(u.lt b e).1)⟩
 ·intro vals w g f d j hp i;have l:g (.tmp 1)=_:=j.1 rfl;simp only[bh,execOp,l];simp[bQ,go_sem];exact .same f rfl rfl
 ·intro vals w g f d j hp i;obtain⟨⟨f33,aj⟩,-⟩:=(⟨d.1 rfl,d.2⟩:_/\_)
  have aj:g (.tmp 44)=vals 33:=aj _ rfl;have f33:vals 33=_:=f33 (y_ rfl);rw[f33] at aj;have m:=(x_ (a:=⟨k,7,none⟩) (f.block k C.gX)).trans C.iB;simp only[bh,execOp,aj];simp[bQ,go_sem,m];exact .same f rfl rfl
 ·intro vals w g f d j hp i;obtain⟨⟨f34,ak⟩,⟨f32,z⟩,-⟩:=(⟨d.1 rfl,d.2.1 rfl,d.2.2⟩:_/\_/\_)
  have ak:g (.tmp 45)=vals 34:=ak _ rfl;have f34:vals 34=_:=f34 (y_ rfl);rw[f34] at ak;have z:g (.tmp 43)=vals 32:=z _ rfl;refine rP 109 #[.tmp 45] #[45] rfl Oc hp ?_;simp only[o_,i_,f_,ak];refine(C.clip w).mono ?_;rintro e w' ⟨rfl,rfl⟩;exact⟨_,rfl,.same f rfl rfl⟩
 ·intro vals w g f d j hp i;have l:g (.tmp 1)=_:=j.1 rfl;simp only[bh,execOp,l];simp[bQ,go_sem];exact .same f rfl rfl
 ·intro vals w g f d j hp i;obtain⟨⟨f36,al⟩,-⟩:=(⟨d.1 rfl,d.2⟩:_/\_)
  have al:g (.tmp 47)=vals 36:=al _ rfl;have f36:vals 36=_:=f36 (y_ rfl);rw[f36] at al;have m:=(x_ (a:=⟨k,0,none⟩) (f.block k C.gX)).trans C.aY;simp only[bh,execOp,al];simp[bQ,go_sem,m];exact .same f rfl rfl
 ·intro vals w g f d j hp i;obtain⟨⟨f37,an⟩,-⟩:=(⟨d.1 rfl,d.2⟩:_/\_)
  have an:g (.tmp 48)=vals 37:=an _ rfl;have f37:vals 37=_:=f37 (y_ rfl);rw[f37] at an;have wn:h_.wrap ((n:Int)+1)=(n:Int)+1:=by rw[r_];omega
  simp only[bh,execOp,an];simp[bQ,go_sem,wn,hp.1];exact .same f rfl rfl
 ·intro vals w g f d j hp i;obtain⟨⟨f38,L⟩,-⟩:=(⟨d.1 rfl,d.2⟩:_/\_)
  have L:g (.tmp 49)=vals 38:=L _ rfl;have f38:vals 38=_:=f38 (y_ rfl);rw[f38] at L;have p:=zx (w:=w) AF Tryz.underlying28 rfl (n+1) (by omega) (by omega) W.heap.size f.size;rw[show((n:Int)+1)=(((n+1):Nat):Int) by omega] at L;simp only[bh,execOp,l_,k_,t_,L,p.1,bQ];exact .more q (bC w _) (r w _ f (bC w _)) ⟨⟨_,_,_⟩,rfl,p.2⟩ (λ _ b o=>by have e:some w.heap.size=some b:=o;injection e with e;omega)
 ·intro vals w g f d j hp i;obtain⟨⟨f1,ao⟩,⟨f6,aq⟩,⟨f10,ar⟩,⟨f14,au⟩,⟨f18,av⟩,⟨f22,y⟩,⟨f25,aw⟩,⟨f29,ax⟩,⟨f32,z⟩,⟨f35,az⟩,⟨f39,aA⟩,-⟩:=(⟨d.1 rfl,d.2.1 rfl,d.2.2.1 rfl,d.2.2.2.1 rfl,d.2.2.2.2.1 rfl,d.2.2.2.2.2.1 rfl,d.2.2.2.2.2.2.1 rfl,d.2.2.2.2.2.2.2.1 rfl,d.2.2.2.2.2.2.2.2.1 rfl,d.2.2.2.2.2.2.2.2.2.1 rfl,d.2.2.2.2.2.2.2.2.2.2.1 rfl,d.2.2.2.2.2.2.2.2.2.2.2⟩:_/\_/\_/\_/\_/\_/\_/\_/\_/\_/\_/\_)
  have ao:g (.tmp 12)=vals 1:=ao _ rfl;have f1:vals 1=_:=f1 (y_ rfl);rw[f1] at ao;have aq:g (.tmp 17)=vals 6:=aq _ rfl;have ar:g (.tmp 21)=vals 10:=ar _ rfl;have au:g (.tmp 25)=vals 14:=au _ rfl;have av:g (.tmp 29)=vals 18:=av _ rfl;have y:g (.tmp 33)=vals 22:=y _ rfl;have aw:g (.tmp 36)=vals 25:=aw _ rfl;have f25:vals 25=_:=f25 (y_ rfl);rw[f25] at aw;have ax:g (.tmp 40)=vals 29:=ax _ rfl;have z:g (.tmp 43)=vals 32:=z _ rfl;have az:g (.tmp 46)=vals 35:=az _ rfl;have f35:vals 35=_:=f35 (y_ rfl);rw[f35] at az;have aA:g (.tmp 50)=vals 39:=aA _ rfl;obtain⟨⟨aE,m6,aF⟩,f6,bD⟩:∃h:ay,vals 6=h.v/\w.ownsRow W.heap.size zV 1 h.v (2*n+2) (z_ (2*n+2) (Zx none 0 0)):=f6 (y_ rfl);replace f6:vals 6=.slice aE m6 aF:=f6;obtain⟨⟨aG,m10,aH⟩,f10,kW⟩:∃h:ay,vals 10=h.v/\w.ownsRow W.heap.size zW 1 h.v (n+1) (z_ (n+1) (p_ .i8 0)):=f10 (y_ rfl);replace f10:vals 10=.slice aG m10 aH:=f10;obtain⟨⟨aI,m14,aJ⟩,f14,bE⟩:∃h:ay,vals 14=h.v/\w.ownsRow W.heap.size 3 1 h.v (n+1) (z_ (n+1) (p_ .i64 0)):=f14 (y_ rfl);replace f14:vals 14=.slice aI m14 aJ:=f14;obtain⟨⟨aK,m18,aL⟩,f18,bF⟩:∃h:ay,vals 18=h.v/\w.ownsRow W.heap.size x3 1 h.v (n+1) (z_ (n+1) (Zu none)):=f18 (y_ rfl);replace f18:vals 18=.slice aK m18 aL:=f18;obtain⟨⟨aM,m22,aN⟩,f22,bG⟩:∃h:ay,vals 22=h.v/\w.ownsRow W.heap.size 3 1 h.v (n+1) (jj act):=f22 (y_ rfl);replace f22:vals 22=.slice aM m22 aN:=f22;obtain⟨⟨aO,aP,aQ⟩,f29,bH⟩:∃h:ay,vals 29=h.v/\w.ownsRow W.heap.size 3 1 h.v (n+1) (z_ (n+1) (p_ .i64 0)):=f29 (y_ rfl);replace f29:vals 29=.slice aO aP aQ:=f29;obtain⟨⟨aS,m32,aT⟩,f32,bI⟩:∃h:ay,vals 32=h.v/\w.ownsRow W.heap.size 4 1 h.v (n+1) (pR s):=f32 (y_ rfl);replace f32:vals 32=.slice aS m32 aT:=f32;obtain⟨⟨aU,aV,aW⟩,f39,bJ⟩:∃h:ay,vals 39=h.v/\w.ownsRow W.heap.size 4 1 h.v (n+1) (z_ (n+1) (Zl false)):=f39 (y_ rfl);replace f39:vals 39=.slice aU aV aW:=f39;rw[f6] at aq;rw[f10] at ar;rw[f14] at au;rw[f18] at av;rw[f22] at y;rw[f29] at ax;rw[f32] at z;rw[f39] at aA;have aX:=i 6 10 (by decide) rfl rfl rfl rfl;rw[f6,f10] at aX;have aZ:=i 6 14 (by decide) rfl rfl rfl rfl;rw[f6,f14] at aZ;have a6:=i 6 18 (by decide) rfl rfl rfl rfl;rw[f6,f18] at a6;have a7:=i 6 22 (by decide) rfl rfl rfl rfl;rw[f6,f22] at a7;have a8:=i 6 29 (by decide) rfl rfl rfl rfl;rw[f6,f29] at a8;have a':=i 6 32 (by decide) rfl rfl rfl rfl;rw[f6,f32] at a';have ba:=i 6 39 (by decide) rfl rfl rfl rfl;rw[f6,f39] at ba;have bb:=i 10 14 (by decide) rfl rfl rfl rfl;rw[f10,f14] at bb;have bc:=i 10 18 (by decide) rfl rfl rfl rfl;rw[f10,f18] at bc;have bd:=i 10 22 (by decide) rfl rfl rfl rfl;rw[f10,f22] at bd;have bf:=i 10 29 (by decide) rfl rfl rfl rfl;rw[f10,f29] at bf;have bg:=i 10 32 (by decide) rfl rfl rfl rfl;rw[f10,f32] at bg;have bj:=i 10 39 (by decide) rfl rfl rfl rfl;rw[f10,f39] at bj;have bk:=i 14 18 (by decide) rfl rfl rfl rfl;rw[f14,f18] at bk;have bl:=i 14 22 (by decide) rfl rfl rfl rfl;rw[f14,f22] at bl;have bn:=i 14 29 (by decide) rfl rfl rfl rfl;rw[f14,f29] at bn;have bo:=i 14 32 (by decide) rfl rfl rfl rfl;rw[f14,f32] at bo;have bp:=i 14 39 (by decide) rfl rfl rfl rfl;rw[f14,f39] at bp;have bq:=i 18 22 (by decide) rfl rfl rfl rfl;rw[f18,f22] at bq;have br:=i 18 29 (by decide) rfl rfl rfl rfl;rw[f18,f29] at br;have bs:=i 18 32 (by decide) rfl rfl rfl rfl;rw[f18,f32] at bs;have bt:=i 18 39 (by decide) rfl rfl rfl rfl;rw[f18,f39] at bt;have bu:=i 22 29 (by decide) rfl rfl rfl rfl;rw[f22,f29] at bu;have bw:=i 22 32 (by decide) rfl rfl rfl rfl;rw[f22,f32] at bw;have bx:=i 22 39 (by decide) rfl rfl rfl rfl;rw[f22,f39] at bx;have bz:=i 29 32 (by decide) rfl rfl rfl rfl;rw[f29,f32] at bz;have bA:=i 29 39 (by decide) rfl rfl rfl rfl;rw[f29,f39] at bA;have bB:=i 32 39 (by decide) rfl rfl rfl rfl;rw[f32,f39] at bB;simp only[bh,execOp,o_,i_,f_,ao,aq,ar,au,av,y,aw,ax,z,az,aA];clear i d j q r;simp[bQ,go_sem];exact .same f ⟨uL ⟨aE,m6,aF⟩ ⟨aG,m10,aH⟩ ⟨aI,m14,aJ⟩ ⟨aK,m18,aL⟩ ⟨aM,m22,aN⟩ ⟨aO,aP,aQ⟩ ⟨aS,m32,aT⟩ ⟨aU,aV,aW⟩,rfl,Oh bD kW bE bF bG bH bI bJ aX aZ a6 a7 a8 a' ba bb bc bd bf bg bj bk bl bn bo bp bq br bs bt bu bw bx bz bA bB⟩ rfl
 ·intro vals w g f d j hp i;obtain⟨⟨f40,aB⟩,-⟩:=(⟨d.1 rfl,d.2⟩:_/\_)
  have aB:g (.tmp 51)=vals 40:=aB _ rfl;obtain⟨hs,f40,bK⟩:∃hs,vals 40=.agg (q5 hs (qD n act B s E ⟨D,t,t⟩)).toArray/\mu W.heap.size qS nL w hs (cont hs sj (qD n act B s E ⟨D,t,t⟩)):=f40 (y_ rfl);rw[f40] at aB;simp only[bh,execOp,aB];simp[bQ,go_sem];exact .more q (bC w _) (r w _ f (bC w _)) ⟨hs,w.heap.size,rfl,aR.new w s0 _,f.size,bK.below (bC w _)⟩ (λ h=>by cases h)
def wF(W:World)(G:Nat)(row:Option Nat)(b:Nat):Prop:=b<W.heap.size/\b≠G/\row≠some b
theorem kA.Om{gr zX:List Value}{cls:Nat->List Value}{X:Nat->List Value}(h:kA base W G hs cb gr cls n X){r:Nat}{h':ay}{ys:List Value}(f:aG (wF W G (hs r).b) W w)(s:aR w G s0 zX)(t:w.ownsRow base (qS r) (nL r) h'.v h'.n ys)(c:h'.b=(hs r).b\/∀g,h'.b=some g->W.heap.size<=g):
  kA base w G (iV hs r h') cb zX cls n (iV X r ys):=by
 have hk:∀r' g,r'≠r->(hs r').b=some g->wF W G (hs r).b g:=λ r' g i o=>⟨(h.rows.lt o).2,λ e=>h.ux r' g o e.symm,λ e=>h.rows.apart r' r g i o e⟩
 refine⟨s,⟨λ r'=>?_,λ k l g i h1=>?_⟩,λ d m=>f.blk (h.cls d m) ⟨(h.cls d m).lt,λ e=>h.Dj m e.symm,λ e=>h.x4 m r _ e rfl⟩,h.inj,h.q6,h.rL⟩
 ·by_cases e:r'=r
  ·subst e;rw[jT,jT];exact t
  ·rw[bq _ _ e,bq _ _ e];refine o6 (h.rows.row r') λ b u=>f.keep b (hk r' b e ?_)
   rw[<-ay.own];exact u
 ·by_cases p:k=r
  ·subst p;rw[jT] at h1;rw[bq _ _ (λ e=>i e.symm)];rcases c with c|c
   ·rw[c] at h1;exact h.rows.apart k l g i h1
   ·intro j;have:=c g h1;have:=(h.rows.lt j).2;omega
  ·rw[bq _ _ p] at h1
   by_cases q:l=r
   ·subst q;rw[jT];intro j;rcases c with c|c
    ·rw[c] at j;exact h.rows.apart k l g i h1 j
    ·have:=c g j;have:=(h.rows.lt h1).2;omega
   ·rw[bq _ _ q];exact h.rows.apart k l g i h1
theorem aP.Ie{W:World}{ai:List Int}(h:aP w (some ⟨b,0,none⟩) n c ai)(d:w.heap.size<=w'.heap.size)(hk:w'.heap[b]? =w.heap[b]?):aP w' (some ⟨b,0,none⟩) n c ai:=
 ⟨h.len,h.cap,h.mG,h.n9,λ f=>by
  obtain⟨g,off,e,h1,i⟩:=h.cells f;refine⟨g,off,e,e_ h1 d,λ j k=>?_⟩;injection e with e
  injection e with l m
  subst l m;exact(x_ (a:=⟨b,0+j,none⟩) hk).trans (i j k)⟩
theorem Ig{α:Type}{l:List α}{x:α}(h:l[k]? =some x):l.set k x=l:=by
 refine List.ext_getElem? λ j=>?_
 rw[List.getElem?_set];split
 ·rename_i e;subst e;have:=(Zq.1 h).1;rw[if_pos this,h]
 ·rfl
theorem wF.drop{row:Option Nat}(f:aG (wF W G row) W w)(c:Below w.heap.size w w'):aG (wF W G row) W w':=
 f.trans (aG.rf c λ b c=>e_ c.1 f.size)
def zy(W:World)(base G:Nat)(L:List Value)(c:Option Addr)(n7 d g8 n8 e x:Nat)(i:Int)(xs:List Int)(j:Nat)(v:Value)(w:World):Prop:=
 match j with
 |0=>v=.pointer (some ⟨G,0,none⟩)
 |1=>v=.pointer (some ⟨G,0,none⟩)
 |2=>v=.pointer (some ⟨G,0,none⟩)
 |3=>v=.pointer (some ⟨G,11,none⟩)
 |4=>v=.slice (some ⟨g8,0,none⟩) n8 e
 |5=>v=.int .i64 (x:Int)
 |6=>v=.pointer (some ⟨G,0,none⟩)
 |7=>v=.pointer (some ⟨G,0,none⟩)
 |8=>v=.pointer (some ⟨G,10,none⟩)
 |9=>v=.slice c n7 d
 |10=>v=.int .i64 (x:Int)
 |11=>∃b,v=.slice (some ⟨b,0,none⟩) 1 1/\W.heap.size<=b/\aP w (some ⟨b,0,none⟩) 1 1 [(x:Int)]
 |12=>∃h:ay,v=h.v/\w.ownsRow base 3 1 h.v (n7+1) (jj (xs++[(x:Int)]))/\(h.b=c.map (·.block)\/∀g,h.b=some g->W.heap.size<=g)/\aR w G s0 L
 |13=>v=.int .i64 i
 |14=>v=.pointer (some ⟨G,0,none⟩)
 |15=>v=.pointer (some ⟨G,10,none⟩)
 |16=>∃h:ay,w.ownsRow base 3 1 h.v (n7+1) (jj (xs++[(x:Int)]))/\(h.b=c.map (·.block)\/∀g,h.b=some g->W.heap.size<=g)/\aR w G s0 (L.set 10 h.v)
 |17=>v=.pointer (some ⟨g8,x,none⟩)
 |_=>True
theorem zy.mono(W:World)(base G:Nat)(L:List Value)(k:Option Addr)(n7 l g8 n8 m x:Nat)(i:Int)(xs:List Int)(j:Nat)(u:Value)(w w':World)(c:Below w.heap.size w w')(h:zy W base G L k n7 l g8 n8 m x i xs j u w):zy W base G L k n7 l g8 n8 m x i xs j u w':=by
 match j,h with
 |0,h=>exact h
 |1,h=>exact h
 |2,h=>exact h
 |3,h=>exact h
 |4,h=>exact h
 |5,h=>exact h
 |6,h=>exact h
 |7,h=>exact h
 |8,h=>exact h
 |9,h=>exact h
 |10,h=>exact h
 |11,h=>obtain⟨b,h1,d,e⟩:=h;exact⟨b,h1,d,e.below c⟩
 |12,h=>obtain⟨f,h1,d,e,g⟩:=h;exact⟨f,h1,mh d c,e,g.below c⟩
 |13,h=>exact h
 |14,h=>exact h
 |15,h=>exact h
 |16,h=>obtain⟨f,d,e,g⟩:=h;exact⟨f,mh d c,e,g.below c⟩
 |17,h=>exact h
 |n+18,h=>trivial
def Ih(j:Nat):Option Nat:=if j=12 then some 16 else none
structure Ii(W:World)(base G:Nat)(L:List Value)(je:Option Addr)(n7 iB g8 n8 pF x:Nat)(i:Int)(xs:List Int):Prop where
 l10:L[10]? =some (.slice je n7 iB)
 td:L[11]? =some (.slice (some ⟨g8,0,none⟩) n8 pF)
 On:x<n8
 tP:n8<=1000000
 Oo:n7<=1000000
 de:base<=W.heap.size
 bL:G<W.heap.size
 row:∀g,je.map (·.block)=some g->g<W.heap.size/\g≠G
def CA(W:World)(G:Nat)(L:List Value)(b:Option Addr)(w:World):Prop:=aG (wF W G (b.map (·.block))) W w/\∃v,aR w G s0 (L.set 10 v)
def CB(base G:Nat)(L:List Value)(b:Option Addr)(n7 c:Nat)(xs:List Int)(w:World):Prop:=w.ownsRow base 3 1 (.slice b n7 c) n7 (jj xs)/\aR w G s0 L
theorem Oq(W:World)(base G:Nat)(L:List Value)(o:Option Addr)(n7 q g8 n8 X x:Nat)(i:Int)(xs:List Int)(C:Ii W base G L o n7 q g8 n8 X x i xs):
  s8 q_ [some 62,some 63,some 64,some 65,some 66,some 67,some 68,some 69,some 70,some 71,some 72,some 73,some 74,some 75,some 76,some 77,none,some 78,none] [[],[],[1],[2],[3],[],[],[6],[7],[8],[],[10],[9,11],[],[0,0,4,6,7,8,9,10,11,12],[14,0,4,6,7,8,9,10,11,12],[15,12,12,0,4,6,7,8,9,10,11,12],[4,5,0,1,2,3,4,5,6,7,8,9,10,11,12,13,14,15,16],[17,13,16,0,1,2,3,4,5,6,7,8,9,10,11,12,13,14,15,16]] [(3,.pointer (some ⟨G,0,none⟩)),(5,.int .i64 (x:Int)),(4,.int .i64 i)] (CA W G L o) (zy W base G L o n7 q g8 n8 X x i xs) Ih (CB base G L o n7 q xs) 12 0 ((qb Tryz.f98 5).take 18):=by
 have af:=zy.mono W base G L o n7 q g8 n8 X x i xs;have ag:∀w w':World,Below w.heap.size w w'->CB base G L o n7 q xs w->CB base G L o n7 q xs w':=λ w w' p h=>⟨mh h.1 p,h.2.below p⟩
 have ah:∀w w':World,CA W G L o w->Below w.heap.size w w'->CA W G L o w':=λ w w' f p=>⟨wF.drop f.1 p,f.2.imp λ v h=>h.below p⟩
 refine⟨?_,?_,?_,?_,?_,?_,?_,?_,?_,?_,?_,?_,?_,?_,?_,?_,?_,?_,trivial⟩
 ·intro vals w j f m d l hp;have y:j (.tmp 3)=_:=l.1 rfl;simp only[bh,execOp,y];simp[bQ,go_sem];exact .same f rfl
 ·intro vals w j f m d l hp;have y:j (.tmp 3)=_:=l.1 rfl;simp only[bh,execOp,y];simp[bQ,go_sem];exact .same f rfl
 ·intro vals w j f m d l hp;obtain⟨⟨f1,B⟩,-⟩:=(⟨d.1 rfl,d.2⟩:_/\_)
  have B:j (.tmp 63)=vals 1:=B _ rfl;have f1:vals 1=_:=f1 (y_ rfl);rw[f1] at B;simp only[bh,execOp,B];simp[bQ,go_sem];exact .same f rfl
 ·intro vals w j f m d l hp;obtain⟨⟨f2,D⟩,-⟩:=(⟨d.1 rfl,d.2⟩:_/\_)
  have D:j (.tmp 64)=vals 2:=D _ rfl;have f2:vals 2=_:=f2 (y_ rfl);rw[f2] at D;simp only[bh,execOp,D];simp[bQ,go_sem];exact .same f rfl
 ·intro vals w j f m d l hp;obtain⟨⟨f3,E⟩,-⟩:=(⟨d.1 rfl,d.2⟩:_/\_)
  have E:j (.tmp 65)=vals 3:=E _ rfl;have f3:vals 3=_:=f3 (y_ rfl);rw[f3] at E;obtain⟨v0,ai⟩:=f.2;have z:=ai.cell 11;rw[List.getElem?_set_ne (by decide),C.td] at z;simp only[bh,execOp,E];simp[bQ,go_sem,z];exact .same f rfl
 ·intro vals w j f m d l hp;have Y:j (.tmp 5)=_:=l.2.1 rfl;simp only[bh,execOp,Y];simp[bQ,go_sem];exact .same f rfl
 ·intro vals w j f m d l hp;have y:j (.tmp 3)=_:=l.1 rfl;simp only[bh,execOp,y];simp[bQ,go_sem];exact .same f rfl
 ·intro vals w j f m d l hp;obtain⟨⟨f6,F⟩,-⟩:=(⟨d.1 rfl,d.2⟩:_/\_)
  have F:j (.tmp 68)=vals 6:=F _ rfl;have f6:vals 6=_:=f6 (y_ rfl);rw[f6] at F;simp only[bh,execOp,F];simp[bQ,go_sem];exact .same f rfl
 ·intro vals w j f m d l hp;obtain⟨⟨f7,H⟩,-⟩:=(⟨d.1 rfl,d.2⟩:_/\_)
  have H:j (.tmp 69)=vals 7:=H _ rfl;have f7:vals 7=_:=f7 (y_ rfl);rw[f7] at H;simp only[bh,execOp,H];simp[bQ,go_sem];exact .same f rfl
 ·intro vals w j f m d l hp;obtain⟨⟨f8,I⟩,-⟩:=(⟨d.1 rfl,d.2⟩:_/\_)
  have I:j (.tmp 70)=vals 8:=I _ rfl;have f8:vals 8=_:=f8 (y_ rfl);rw[f8] at I;have z:=(m (y_ rfl)).2.cell 10;rw[C.l10] at z;simp only[bh,execOp,I];simp[bQ,go_sem,z];exact .same f rfl
 ·intro vals w j f m d l hp;have Y:j (.tmp 5)=_:=l.2.1 rfl;simp only[bh,execOp,Y];simp[bQ,go_sem];exact .same f rfl
 ·intro vals w j f m d l hp;obtain⟨⟨f10,J⟩,-⟩:=(⟨d.1 rfl,d.2⟩:_/\_)
  have J:j (.tmp 72)=vals 10:=J _ rfl;have f10:vals 10=_:=f10 (y_ rfl);rw[f10] at J;simp only[bh,execOp,o_,i_,f_,J];simp[bQ,go_sem];exact .more af ag (bC w _) (ah w _ f (bC w _)) ⟨w.heap.size,rfl,f.1.size,aP.lit w [(x:Int)] 1 _ rfl rfl (by omega)⟩
 ·intro vals w j f m d l hp;obtain⟨⟨f9,K⟩,⟨f11,M⟩,-⟩:=(⟨d.1 rfl,d.2.1 rfl,d.2.2⟩:_/\_/\_)
  have K:j (.tmp 71)=vals 9:=K _ rfl;have M:j (.tmp 73)=vals 11:=M _ rfl;have f9:vals 9=_:=f9 (y_ rfl);obtain⟨b,f11,r,t⟩:∃b,vals 11=.slice (some ⟨b,0,none⟩) 1 1/\W.heap.size<=b/\aP w (some ⟨b,0,none⟩) 1 1 [(x:Int)]:=f11 (y_ rfl);rw[f9] at K;rw[f11] at M;have ar:=C.Oo;obtain⟨i1,i2⟩:=m (Or.inr rfl);obtain⟨v',w',g1,g2⟩:=zN w 25 base (.slice o n7 q) n7 xs i1 (some ⟨b,0,none⟩) 1 1 [(x:Int)] t (by omega) (Zh C.de f.1.size);simp only[bh,execOp,resolve,invoke,builtin,l_,k_,t_,o_,i_,f_,K,M,g1,bQ];obtain⟨h',aj,au⟩:=ay.kZ g2.1;subst aj;have ad:(Zx o n7 q).ownBlock=o.map (·.block):=ay.own ⟨o,n7,q⟩;have A:=g2.2.1;rw[ad] at A;have c:aR w' G s0 L:=i2.kept A (λ e=>(C.row G e.symm).2 rfl);refine⟨⟨f.1.trans (aG.grown A (λ b p=>e_ p.1 f.1.size) (λ b e hk=>hk.2.2 e)),.slice o n7 q,by rw[Ig C.l10];exact c⟩,⟨h',rfl,g2.1,?_,c⟩,λ k u hk _ s _ c=>?_,λ h _=>absurd rfl h⟩
  ·rcases g2.2.2 with Z|Z
   ·left;rw[<-ay.own,Z,ad]
   ·right;intro g e;rw[<-ay.own,Z] at e;injection e with e
    have:=f.1.size;omega
  ·match k,c,hk,s with
   |0,c,_,_=>exact c
   |1,c,_,_=>exact c
   |2,c,_,_=>exact c
   |3,c,_,_=>exact c
   |4,c,_,_=>exact c
   |5,c,_,_=>exact c
   |6,c,_,_=>exact c
   |7,c,_,_=>exact c
   |8,c,_,_=>exact c
   |9,c,_,_=>exact c
   |10,c,_,_=>exact c
   |11,c,_,_=>obtain⟨b,aa,ab,N⟩:=c;exact⟨b,aa,ab,N.Ie (W:=W) A.size (A.block b (by obtain⟨av,off,e,h1,r⟩:=N.cells (by omega);injection e with e;injection e with e;omega) (λ e=>by have:=(C.row b e.symm).1;omega))⟩
   |12,c,hk,_=>exact absurd rfl hk
   |13,c,_,_=>exact c
   |14,c,_,_=>exact c
   |15,c,_,_=>exact c
   |16,c,_,s=>exact absurd s (by decide)
   |17,c,_,_=>exact c
   |n+18,c,_,_=>trivial
 ·intro vals w j f m d l hp;have ak:j (.tmp 4)=_:=l.2.2.1 rfl;simp only[bh,execOp,ak];simp[bQ,go_sem];exact .same f rfl
 ·intro vals w j f m d l hp;obtain⟨⟨f0,O⟩,-⟩:=(⟨d.1 rfl,d.2⟩:_/\_)
  have O:j (.tmp 62)=vals 0:=O _ rfl;have f0:vals 0=_:=f0 (y_ rfl);rw[f0] at O;simp only[bh,execOp,O];simp[bQ,go_sem];exact .same f rfl
 ·intro vals w j f m d l hp;obtain⟨⟨f14,P⟩,-⟩:=(⟨d.1 rfl,d.2⟩:_/\_)
  have P:j (.tmp 76)=vals 14:=P _ rfl;have f14:vals 14=_:=f14 (y_ rfl);rw[f14] at P;simp only[bh,execOp,P];simp[bQ,go_sem];exact .same f rfl
 ·intro vals w j f m d l hp;obtain⟨⟨f15,Q⟩,⟨f12,R⟩,-⟩:=(⟨d.1 rfl,d.2.1 rfl,d.2.2⟩:_/\_/\_)
  have Q:j (.tmp 77)=vals 15:=Q _ rfl;have R:j (.tmp 74)=vals 12:=R _ rfl;have f15:vals 15=_:=f15 (y_ rfl);obtain⟨⟨S,kf,T⟩,f12,h1,r,t⟩:∃h:ay,vals 12=h.v/\w.ownsRow base 3 1 h.v (n7+1) (jj (xs++[(x:Int)]))/\(h.b=o.map (·.block)\/∀g,h.b=some g->W.heap.size<=g)/\aR w G s0 L:=f12 (Or.inr rfl);replace f12:vals 12=.slice S kf T:=f12;rw[f15] at Q;rw[f12] at R;have ae:=t.cell 10;rw[C.l10] at ae;have al:=t.free 10;simp only[bh,execOp,Q,R];simp[bQ,go_sem,ae,al];have aw:=C.bL;have an:=lq w G 10 (.slice S kf T);refine⟨⟨f.1.trans (aG.set G 10 _ (λ hk=>hk.2.1 rfl)),.slice S kf T,t.set 10 _⟩,⟨⟨S,kf,T⟩,o6 h1 (λ b p=>?_),r,t.set 10 _⟩,λ k u hk d s _ c=>?_,λ _ s _=>absurd s (by decide)⟩
  ·refine Below.heap_setCell _ _ _ _ (λ e=>?_);have e:G=b:=e.symm;subst e;rw[ay.own] at p;rcases r with r|r
   ·rw[r] at p;exact(C.row _ p).2 rfl
   ·have:=r _ p;omega
  ·match k,c,hk,d,s with
   |0,c,_,_,_=>exact c
   |1,c,_,_,_=>exact c
   |2,c,_,_,_=>exact c
   |3,c,_,_,_=>exact c
   |4,c,_,_,_=>exact c
   |5,c,_,_,_=>exact c
   |6,c,_,_,_=>exact c
   |7,c,_,_,_=>exact c
   |8,c,_,_,_=>exact c
   |9,c,_,_,_=>exact c
   |10,c,_,_,_=>exact c
   |11,c,_,_,_=>obtain⟨b,aa,ab,N⟩:=c;exact⟨b,aa,ab,N.Ie (W:=W) an.size (Below.heap_setCell _ _ _ _ (show b≠G by omega))⟩
   |12,c,_,d,_=>exact absurd rfl d
   |13,c,_,_,_=>exact c
   |14,c,_,_,_=>exact c
   |15,c,_,_,_=>exact c
   |16,c,hk,_,_=>exact absurd rfl hk
   |17,c,_,_,_=>exact c
   |n+18,c,_,_,_=>trivial
 ·intro vals w j f m d l hp;obtain⟨⟨f4,U⟩,⟨f5,V⟩,-⟩:=(⟨d.1 rfl,d.2.1 rfl,d.2.2⟩:_/\_/\_)
  have U:j (.tmp 66)=vals 4:=U _ rfl;have f4:vals 4=_:=f4 (y_ rfl);rw[f4] at U;have V:j (.tmp 67)=vals 5:=V _ rfl;have f5:vals 5=_:=f5 (y_ rfl);rw[f5] at V;have ao:(x:Int)<(n8:Int):=by have:=C.On;omega
  have aq:(0:Int)<=x:=by omega
  simp only[bh,execOp,U,V];simp[bQ,go_sem,ao,aq];exact .same f rfl
theorem bf.Ot{s:au}(h:bf K base W G hs cb s){h':ay}{x:Int}
  (f:aG (wF W G (hs 7).b) W w) (i:aR w G s0 ((q5 hs s).set 10 h'.v)) (j:w.ownsRow base 3 1 h'.v (s.ord.length+1) (jj (s.ord++[x]))) (c:h'.b=(hs 7).b\/∀g,h'.b=some g->W.heap.size<=g):
  bf K base w G (iV hs 7 h') cb (s.vw x)/\aG K W w:=by
 have k:=wE j;have l:w.ownsRow base (qS 7) (nL 7) h'.v h'.n (jj (s.ord++[x])):=by rw[k];exact j
 have m:=h.e.Om (r:=7) f i l c;refine⟨⟨m.eq rfl rfl rfl (λ d _=>(v8 hs s (by omega) _ d).symm) rfl (λ r=>?_),(h.s.ji (r:=7) (h':=h') (λ g e hk=>?_)).more f.size⟩,f.mono (λ b i=>⟨h.s.lt b i,λ e=>h.s.g (e▸i),λ e=>h.s.row 7 b e i⟩)⟩
 ·rw[v7 hs cb _ (by omega)]
  by_cases e:r=7
  ·subst e;rw[jT];rfl
  ·rw[bq _ _ e];simp only[cont,if_neg e,au.vw]
 ·rcases c with c|c
  ·exact h.s.row 7 g (c▸e) hk
  ·have:=c g e;have:=h.s.lt g hk;omega
def qY(n:Nat)(act:List Int)(b:Int)(c:List Bool)(d:List nE)(e:ay)(ord:List Int)(k:Nat):au:=
 {qD n act b c d e with ord:=ord.take k,pl:=uK n ord k}
theorem Ou(n:Nat)(act:List Int)(b:Int)(c:List Bool)(d:List nE)(e:ay)(ord:List Int)(k:Nat)(hk:k<ord.length):((qY n act b c d e ord k).vw (ak ord k)).pS (ak ord k).toNat (k:Int)=qY n act b c d e ord (k+1):=by
 unfold qY;rw[Cs,vn ord k hk];rfl
end
section
theorem o7.take{c:Core}(h:o7 c)(l:List Int)(b:Bool):o7 (pE c l b):=by
 unfold pE;have e:o7 (kI c l):=h.new l;have g:∀c':Core,o7 c'->o7 (wW c'):=λ c' h=>h
 split
 ·exact h
 ·split
  ·exact g _ h
  ·split
   ·split
    ·exact g _ e
    ·split
     ·refine e.set _ λ d f=>?_
      injection f with f
      subst f;show c.cl.length<(c.cl++[l]).length;simp
     ·exact e
   ·exact e
theorem Ij(s:au)(l:List Int)(b:Bool)(x:r0):s.c.cl.length<=(s.oE l b x).c.cl.length/\(s.oE l b x).c.cl.length<=s.c.cl.length+1:=by
 have e:(s.oE l b x).c.cl=if b=true\/l.length=0 then s.c.cl else s.c.cl++[l]:=BB _ _ _
 rw[e];split
 ·omega
 ·simp
theorem wA.oE{F Fd:List (List Int)}{n:Nat}{s:au}(h:wA s){l:List Int}{b:Bool}{x:r0}(H:y4 F Fd n (s.oE l b x)):wA (s.oE l b x):=
 ⟨o7.take h.qK l b,λ k d c=>(H.gV.wt.qQ k d c).1,λ d c=>e_ (h.wl d c) (Ij s l b x).1⟩
theorem rD.mem{g:List Int}(h:g∈F):rD F g:=λ M b=>b.2 g h
theorem Ov{a b:List Int}(c:n<=65536)(d:∀x∈a,gP n x)(e:∀x∈b,gP n x)(h:ya (lg a) (lg b)):ya a b:=λ x=>by
 rw[<-Ct c d,<-Ct c e];exact h x
structure tB(n:Nat)(s:lp)(jG:ay)(j k:Nat)(S:au):Prop where
 mo:y4 s.gs (s.gs.take j++(s.es.take k).map (·.r.ai)) n S
 cb:wA S
 act:S.act=s.act
 bz:S.bz=s.bz
 ord:S.ord=s.ord
 pl:S.pl=uK n s.ord n
 ia:S.ia=s.ia
 aF:S.aF=s.aF.map ow
 aQ:S.aQ=z_ (n+1) false
 nl:S.nl=[]
 jG:S.jG=some jG
 k8:S.aO.length=k
 Ik:S.aO.map (az S.c.cl)=(s.es.take k).map λ e=>lg e.r.ai
 wC:S.c.cl.length<=j+k
theorem tB.init{n:Nat}{s:lp}{jG:ay}(O:pL n s):tB n s jG 0 0 (qY n s.act s.bz s.ia (s.aF.map ow) jG s.ord n):=by
 have c:∀v,ak (z_ (n+1) 0) v=0:=Ag _;refine⟨⟨?_,rfl,rfl,rfl,c 0,rfl,λ d=>?_⟩,⟨λ v d b=>?_,λ k d b=>?_,λ d b=>(by cases b)⟩,rfl,rfl,?_,rfl,rfl,rfl,rfl,rfl,rfl,rfl,rfl,d_ _⟩
 ·exact kG.init s.gs n
 ·show 0<=(([]:List r0).getD d ⟨false,0,0⟩).ac/\_;have e:∀d,lN (qY n s.act s.bz s.ia (s.aF.map ow) jG s.ord n) d=⟨false,0,0⟩:=λ d=>by
   show([]:List r0).getD d ⟨false,0,0⟩=_;rfl
  rw[e];unfold jK;exact⟨Zo _,by decide,Zo _,by decide⟩
 ·have:mH (z_ (n+1) none) v=none:=by
   unfold mH;rw[List.getD_eq_getElem?_getD,List.getElem?_replicate];split<;>rfl
  have b:mH (z_ (n+1) none) v=some d:=b;rw[this] at b;cases b
 ·have b:d∈az (z_ (2*n+2) []) k:=b;rw[BI] at b;cases b
 ·show s.ord.take n=s.ord;exact m_ (by rw[O.hk.qs];exact d_ _)
theorem tB.given(H:tB n s jG j 0 S)(O:pL n s)(c:n<=65536)(b:j<s.gs.length):tB n s jG (j+1) 0 (S.oE (lg (om s.gs j)) (sd (lg (om s.gs j))) ⟨false,0,0⟩):=by
 have hm:om s.gs j∈s.gs:=E4 b;have h1:=H.mo.take (HO c (O.bL _ hm) (rD.mem hm)) (x:=⟨false,0,0⟩) (by unfold jK;exact⟨Zo _,by decide,Zo _,by decide⟩);have e:s.gs.take j++(s.es.take 0).map (·.r.ai)++[om s.gs j]=s.gs.take (j+1)++(s.es.take 0).map (·.r.ai):=by
  rw[CU _ _ b];simp
 rw[e] at h1;refine⟨h1,H.cb.oE h1,H.act,H.bz,H.ord,H.pl,H.ia,H.aF,H.aQ,H.nl,H.jG,H.k8,?_,by have:=(Ij S (lg (om s.gs j)) (sd (lg (om s.gs j))) ⟨false,0,0⟩).2;have:=H.wC;omega⟩;have d:S.aO=[]:=Zy H.k8;show S.aO.map _=_;rw[d];rfl
theorem tB.Ow(H:tB n s jG j k S)(O:pL n s)(g:n<=65536)(hk:k<s.es.length):tB n s jG j (k+1) ((S.uZ S.c.cl.length).oE (lg s.es[k].r.ai) (sd (lg s.es[k].r.ai)) ⟨true,s.es[k].bp,s.es[k].ac⟩):=by
 have hm:s.es[k]∈s.es:=Zp hk;obtain⟨ok,bp,ac⟩:=O.xI _ hm;obtain⟨i,l⟩:=NV g ok;have m:y4 s.gs (s.gs.take j++(s.es.take k).map (·.r.ai)) n (S.uZ S.c.cl.length):=⟨H.mo.gV,H.mo.jH,H.mo.st,H.mo.ag,H.mo.v0,H.mo.nN,H.mo.qc⟩
 have h1:=m.take (HO g ok.lt (O.H6 _ hm)) (x:=⟨true,s.es[k].bp,s.es[k].ac⟩) ⟨ac.1,ac.2,bp.1,bp.2⟩;have e:s.gs.take j++(s.es.take k).map (·.r.ai)++[s.es[k].r.ai]=s.gs.take j++(s.es.take (k+1)).map (·.r.ai):=by
  rw[b_ hk,Zz,List.append_assoc];rfl
 rw[e] at h1;have b:=KN (S.uZ S.c.cl.length) (lg s.es[k].r.ai) ⟨true,s.es[k].bp,s.es[k].ac⟩ l H.mo.nN;have hold:=λ d ag=>KM (S.uZ S.c.cl.length) (lg s.es[k].r.ai) false ⟨true,s.es[k].bp,s.es[k].ac⟩ (d:=d) ag H.mo.nN
 rw[i] at h1⊢;have o:wA ((S.uZ S.c.cl.length).oE (lg s.es[k].r.ai) false ⟨true,s.es[k].bp,s.es[k].ac⟩):=by
  refine⟨o7.take H.cb.qK _ _,λ k d ag=>(h1.gV.wt.qQ k d ag).1,λ d ag=>?_⟩;have ag:d∈S.aO++[S.c.cl.length]:=ag;have p:((S.uZ S.c.cl.length).oE (lg s.es[k].r.ai) false ⟨true,s.es[k].bp,s.es[k].ac⟩).c.cl.length=S.c.cl.length+1:=b.1;rcases g_.1 ag with f|f
  ·have:=H.cb.wl d f;omega
  ·rw[List.mem_singleton.1 f];omega
 refine⟨h1,o,H.act,H.bz,H.ord,H.pl,H.ia,H.aF,H.aQ,H.nl,H.jG,?_,?_,?_⟩
 ·show(S.aO++[S.c.cl.length]).length=_;rw[List.length_append,H.k8];rfl
 ·show(S.aO++[S.c.cl.length]).map _=_;rw[Zz,b_ hk,Zz,<-H.Ik]
  congr 1
  ·refine List.map_congr_left λ d ag=>?_
   exact(hold d (H.cb.wl d ag)).1
  ·show [az _ S.c.cl.length]=[lg s.es[k].r.ai]
   rw[show az ((S.uZ S.c.cl.length).oE (lg s.es[k].r.ai) false ⟨true,s.es[k].bp,s.es[k].ac⟩).c.cl S.c.cl.length=lg s.es[k].r.ai from b.2.1]
 ·have p:((S.uZ S.c.cl.length).oE (lg s.es[k].r.ai) false ⟨true,s.es[k].bp,s.es[k].ac⟩).c.cl.length=S.c.cl.length+1:=b.1;have:=H.wC;omega
theorem tB.ko(H:tB n s jG s.gs.length s.es.length S)(O:pL n s)(j:n<=65536)(ah:List Int):mF s.gs ah n s.es.length S 0 S.c.ag:=by
 have T:=H.mo.gV.aN;have e:=H.mo.st;have hk:=O.hk;rw[H.mo.ag];refine⟨⟨T,⟨H.mo.gV.jS.mM,H.mo.gV.jS.imp,λ g k=>H.mo.gV.jS.tH g (by rw[m_ (d_ _)];exact g_.2 (.inl k)),H.mo.gV.jS.tI,H.mo.gV.jS.tJ⟩,H.mo.gV.wt,H.mo.gV.rG,H.mo.gV.rH,H.mo.gV.cur,H.mo.gV.hle⟩,?_,ny.low T e ah,qq.zero e,λ v h1 f i=>?_,H.aQ,?_,H.k8,λ l hl=>?_,H.mo.v0,H.cb.qK⟩
 ·refine⟨H.mo.jH,?_,by rw[H.act];exact hk.lB,λ v=>by rw[H.act];exact hk.qp v,by rw[H.act];exact hk.a0,by rw[H.bz];exact hk.bO.1,by rw[H.bz];exact hk.bO.2,by rw[H.ia];exact O.nM,by rw[H.ia];exact O.o8,H.mo.nN,λ d=>?_,H.cb.wl⟩
  ·rw[H.ord,H.pl];exact hk.lW
  ·have:=H.mo.qc d;refine⟨this.1,?_,this.2.2.1,this.2.2.2⟩;have p:=this.2.1;unfold jK at*;omega
 ·rw[H.pl];exact Ef _ _ _ _
 ·rw[H.Ik,m_ (d_ _)];have h1:=O.Eo;rw[List.pairwise_map] at h1⊢;refine(List.Pairwise.and_mem.1 h1).imp ?_;rintro a b ⟨m,o,f⟩ i;exact f (Ov j (O.xI a m).1.lt (O.xI b o).1.lt i)
 ·rw[H.nl] at hl;cases hl
end
section
open Go.RowKit Go.Shelf
theorem oJ.in(g:oJ w A bK c es)(l:Below w.heap.size w W)(m:∀b,A.map (·.block)=some b->0<bK->K b)(n:S.jG=some ⟨A,bK,bK⟩)(k:S.aF=es.map ow)(t:A=none->bK=0)(o:A≠none->∃b off,A=some ⟨b,off,none⟩):pn K W S:=by
 intro h i;rw[n] at i;injection i with i
 subst i;refine⟨by rw[k,u_];exact g.len.symm,rfl,?_⟩;rcases Zw bK with d|d
 ·rcases Classical.em (A=none) with e|e
  ·exact .inl ⟨e,d⟩
  ·obtain⟨b,off,he⟩:=o e;refine .inr ⟨b,off,he,λ h=>by have h:0<bK:=h;omega,λ j u f=>?_⟩;have:es=[]:=Zy (by rw[g.len];exact d);rw[k,this] at f;simp[mC] at f
 ·obtain⟨b,off,e,q,r⟩:=g.cells d;refine .inr ⟨b,off,e,λ d=>m b (by rw[e];rfl) d,λ j u f=>?_⟩;rw[k,H7] at f;have s:j<bK*2:=by
   have:=(Zq.1 f).1;rw[yx,g.len] at this;exact this
  exact(l.cell (p:=⟨b,off+j,none⟩) q).trans ((r j s).trans f)
theorem oJ.lines(f:oJ w A bK c es)(g:Below w.heap.size w W)(i:∀e∈es,∀b,e.r.A.map (·.block)=some b->0<e.r.n->K b)(d:∀p∈es,(p.lQ=1\/p.lQ=2\/p.lQ=3)/\∀x∈p.r.ai,gP n x):∀p∈es.map ow,qx K W n p:=by
 intro p hp;obtain⟨e,he,rfl⟩:=Zk.1 hp;have j:=f.rows e he;exact⟨(d e he).1,⟨e.r.ai,j.below g,(d e he).2⟩,λ b k l=>i e he b k l⟩
def zz(w W:World)(A:Option Addr)(b c:Nat)(es:List nH):Prop:=(b=c\/W.ownsRow w.heap.size 126 2 (.slice A b c) b (mX es))/\(A=none->b=0/\c=0)
theorem Ox{p5:Nat->Prop}{kW:World}{fR aB h:Nat}{bw:Option Addr}{aS:Nat}{es:List mT}{je:Option Addr}{iB:Nat}
  (aa:∀W,aG p5 kW W->kE W bw s.gs.length aS s.gs) (ab:∀W,aG p5 kW W->∀e∈s.aF,aP W e.r.A e.r.n e.r.c e.r.ai) (O:pL n s) (z:n<=10) (ad:w.heap.size<=base) (E:∀W,aG p5 kW W->bf K base W G hs cb S) (f:mF s.gs ah n fR S aB h) (ae:∀W,aG p5 kW W->sJ W A es.length c es) (B:es.length=S.aO.length) (y:∀(i:Nat)(h:i<es.length),Co S i es[i]) (af:∀W,aG p5 kW W->aP W je n iB ((qy S.act (oI n)).map (·.1)))
  (P:∀W,aG p5 kW W->pn K W S) (L:∀p∈S.aF,qx p5 kW n p) (ag:s.aF.map ow<+:S.aF) (ax:S.aF.length<=1099511627776) (aj:fR=s.es.length):
  ∃(s':lp)(C:Option Addr)(D:Nat)(F:Option Addr)(H:Nat)(g:Option Addr)(k:Nat),(hs 6).v=.slice C (n+1) D/\(hs 9).v=.slice F (n+1) H/\oO hs S=.slice g s'.aF.length k/\s'.bz=S.bz/\s'.es=es/\s'.gs=s.gs/\pL n s'/\s'.es.length=s.es.length+aB/\s.aF<+:s'.aF/\s'.aF.length=S.aF.length/\(g≠none->∃b off,g=some ⟨b,off,none⟩)/\∀W,aG p5 kW W->rz W s' bw aS A c C D je iB F H g k/\zz w W g s'.aF.length k s'.aF:=by
 obtain⟨rest,I⟩:=ag;obtain⟨j,ak,J⟩:=H8 (K:=p5) (w:=kW) (n:=n) rest (λ p hp=>L p (by rw[<-I];exact g_.2 (.inr hp)));have o:(s.aF++j).map ow=S.aF:=by rw[Zz,ak,I]
 have hlen:(s.aF++j).length=S.aF.length:=by rw[<-o,u_]
 have M:∀W,aG p5 kW W->∀e∈s.aF++j,aP W e.r.A e.r.n e.r.c e.r.ai:=λ W d e he=>by
  rcases g_.1 he with h1|h1
  ·exact ab W d e h1
  ·exact(J e h1).2.jB d (λ b l z=>(L (ow e) (by rw[<-o];exact List.mem_map_of_mem he)).blk b l z)
 obtain⟨g,k,N,_,_,_,al⟩:=(E kW aG.refl).H9 (P kW aG.refl) o (M kW aG.refl) (by omega);have Q:∀W,aG p5 kW W->oJ W g (s.aF++j).length k (s.aF++j)/\zz w W g (s.aF++j).length k (s.aF++j):=λ W d=>by
  obtain⟨aA,aC,R,an,ao,aq,_⟩:=(E W d).H9 (P W d) o (M W d) (by omega);rw[N] at R;injection R with d1 d2 d3
  subst d1 d3;exact⟨an,⟨ao.imp id (λ h=>yV h ad),aq⟩⟩
 have T:=E kW aG.refl;have q:=f.rg.lB;obtain⟨a1,_⟩:=T.HV (by omega);have a2:=λ W d=>((E W d).HV (by omega)).2
 have t:=f.rg.nM;obtain⟨U,_⟩:=T.HW (by omega);have V:=λ W d=>((E W d).HW (by omega)).2
 rw[q] at a1;simp only[q] at a2;rw[t] at U;simp only[t] at V;have ar:S.c.n=n:=f.rg.jH;have X:sL n S.act ((qy S.act (oI n)).map (·.1)) S.bz:=sL.sorted q f.rg.a0 f.rg.qp ⟨f.rg.rm,f.rg.oQ⟩ (by omega);have av:es.map (·.r.ai)=S.aO.map (az S.c.cl):=by
  refine List.ext_getElem (by rw[u_,u_,B]) λ i h1 u=>?_
  rw[u_] at h1 u;rw[s_,s_,(y i h1).1,vt u]
 have Y:∀i (h:i<es.length),hU S.aO i<S.c.cl.length:=λ i h=>f.rg.k8 _ (by rw[vt (by omega)];exact Zp _)
 refine⟨⟨n,s.gs,es,S.act,(qy S.act (oI n)).map (·.1),S.bz,S.ia,s.aF++j⟩,_,_,_,_,g,k,a1,U,N,rfl,rfl,rfl,⟨rfl,O.g1,O.bL,X,t,f.rg.o8,λ e he=>?_,λ e he=>?_,?_,λ p hp=>?_⟩,by show es.length=_;rw[B,f.qs,aj],List.prefix_append _ _,hlen,al,λ W d=>⟨⟨aa W d,ae W d,by show aP W _ S.act.length _ S.act;rw[q];exact a2 W d,by show aP W _ ((qy S.act (oI n)).map (·.1)).length _ _;rw[X.qs];exact af W d,by show kN W _ S.ia.length _ S.ia;rw[t];exact V W d,(Q W d).1⟩,(Q W d).2⟩⟩
 ·obtain⟨i,m,rfl⟩:=a_.1 he;obtain⟨h1,u,aw⟩:=y i m;have Z:=f.gV.jS.mM _ (Y i m);rw[ar] at Z;have l:=f.rg.qc (hU S.aO i);rw[h1,u,aw];refine⟨Z,⟨l.2.2.1,l.2.2.2⟩,?_⟩;have aD:=l.1;unfold jK at*;omega
 ·obtain⟨i,m,rfl⟩:=a_.1 he;rw[(y i m).1];exact f.gV.jS.imp _ (Y i m)
 ·show(es.map (·.r.ai)).Pairwise _;rw[av];exact f.xk
 ·rcases g_.1 hp with h1|h1
  ·exact O.Cx p h1
  ·exact(J p h1).1
end
end Go.Proofs.YtogdlkfacflmaaaGreat
