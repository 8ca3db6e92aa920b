/- Parts of the walk of the solver and its core; no condition. -/
import Derived.Test.YtogdlkfacflmaaaGreatZW3
import Derived.Test.YtogdlkfacflmaaaGreatZW14
import Derived.Test.YtogdlkfacflmaaaGreatZW13
import Derived.Test.YtogdlkfacflmaaaGreatZW6
import Derived.Test.YtogdlkfacflmaaaGreatZW4
import Derived.Test.YtogdlkfacflmaaaGreatZW10
import Derived.Test.YtogdlkfacflmaaaGreatZW9
import Derived.Test.YtogdlkfacflmaaaGreatZW1
namespace Go.Proofs.YtogdlkfacflmaaaGreat
set_option linter.unusedVariables false
set_option linter.unusedSimpArgs false
set_option maxRecDepth 100000
set_option maxHeartbeats 8000000
open _root_.List renaming replicate→z_,map_toArray→r_,take_of_length_le→p_,map_cons→m_,mem_append→k_,length_map→j_,map_nil→i_,take_succ_eq_append_getElem→e_,map_append→d_,eq_nil_of_length_eq_zero→c_,getElem?_eq_some_iff→Zw,getElem_map→Zv,mem_iff_getElem→Zr
open _root_.Or renaming inl→y_
open _root_.Go.World renaming cell?_of_block→x_
open _root_.Array renaming getD_eq_getD_getElem?→w_,replicate→q_,all_eq_true_iff_forall_mem→f_,getElem?_eq_getElem→Zx,mem_of_getElem?→Zt
open _root_.Go.Result renaming andThen_ok→v_
open _root_.Go.IntKind renaming wrap_i64→u_,i64→l_
open _root_.Go.Proofs.Tryz renaming prog→t_
open _root_.Go.Value renaming int→s_,slice→b_,pointer→Zy,bool→Zs
open _root_.Go.Sem renaming run_bind→o_,run_pure→n_
open _root_.Nat renaming lt_of_lt_of_le→h_,le_refl→g_,eq_zero_or_pos→a_,le_trans→Zo
open _root_.Go.Region renaming wanted→Zz,binds→Zq,ready→Zp
open _root_.Int renaming le_refl→Zu
variable{ws:List (List Nat)}{iq:World->Prop}{G i b size n base k c j bw:Nat}{mk:Nat->Bool}{w w' W:World}{v:Value}{e:TypeId}{xs:List Value}{h jr:ax}{hs:Nat->ax}{cb:Nat->Nat}{K:Nat->Prop}{s:kf}{S:an}{A:Option Addr}{es:List ny}
section
open Go.RowKit
def nA(v u:Value):Prop:=∀b,v.ownBlock=some b->u.ownBlock≠some b
def za(mk:Nat->Bool)(L:Nat->Bool)(vals:Nat->Value):Prop:=∀j k,j≠k->mk j=true->mk k=true->L j=true->L k=true->nA (vals j) (vals k)
def Ce(G:Nat->Value->World->Prop)(mk:Nat->Bool):Prop:=∀j u w,mk j=true->G j u w->∀b,u.ownBlock=some b->b<w.heap.size
def Av(ws:List (List Nat))(iq:World->Prop)(G:Nat->Value->World->Prop)(mk:Nat->Bool)(i:Nat)(w:World)(v:Value)(w':World):Prop:=
 iq w'/\G i v w'/\(∀j u,j≠i->nM ws 8 j i=false->G j u w->G j u w')/\(mk i=true->∀b,v.ownBlock=some b->w.heap.size<=b)
theorem Av.same{G:Nat->Value->World->Prop}(b:iq w)(h:G i v w)(hk:mk i=false):Av ws iq G mk i w v w:=⟨b,h,λ _ _ _ _ h=>h,λ h=>by rw[hk] at h;cases h⟩
theorem Av.more{G:Nat->Value->World->Prop}(hm:∀j u w w',Below w.heap.size w w'->G j u w->G j u w')(c:Below w.heap.size w w')(d:iq w')(h:G i v w')(hk:mk i=true->∀b,v.ownBlock=some b->w.heap.size<=b):Av ws iq G mk i w v w':=⟨d,h,λ j u _ _ h=>hm j u w w' c h,hk⟩
def Aw(P:Program)(ds:List (Option Tmp))(ws:List (List Nat))(old:List (Tmp×Value))(iq:World->Prop)(G:Nat->Value->World->Prop)(mk:Nat->Bool)(i:Nat)(o:Oper):Prop:=
 ∀(vals:Nat->Value)(w:World)(b:Operand->Value),iq w->rN ds G (λ _=>none) i vals w b o.after.toList->q9 ds ws i b old->rf b->(∀j k,j≠k->mk j=true->mk k=true->q8 ws i j=true->q8 ws i k=true->nA (vals j) (vals k))->
  bq P b o w (Av ws iq G mk i w)
def xq(P:Program)(ds:List (Option Tmp))(ws:List (List Nat))(old:List (Tmp×Value))(iq:World->Prop)(G:Nat->Value->World->Prop)(mk:Nat->Bool):Nat->List Oper->Prop
 |_,[]=>True
 |k,o::r=>Aw P ds ws old iq G mk k o/\xq P ds ws old iq G mk (k+1) r
theorem xq.at{P:Program}{ds:List (Option Tmp)}{ws:List (List Nat)}{old:List (Tmp×Value)}{iq:World->Prop}{G:Nat->Value->World->Prop}{mk:Nat->Bool}:∀{l:List Oper}{k i:Nat}{o:Oper},xq P ds ws old iq G mk k l->l[i]? =some o->Aw P ds ws old iq G mk (k+i) o
 |[],k,i,o,_,h=>by simp at h
 |x::l,k,0,o,hs,h=>by
  simp only[List.getElem?_cons_zero,Option.some.injEq] at h;subst h;exact hs.1
 |x::l,k,i+1,o,hs,h=>by
  rw[List.getElem?_cons_succ] at h;have:=xq.at hs.2 h
  rwa[show k+1+i=k+(i+1) by omega] at this
section
variable {P:Program}{l:List Oper}{Q:Exit->Act->World->Prop}{a:Act}{old:List (Tmp×Value)}{iq:World->Prop}{G:Nat->Value->World->Prop}{mk:Nat->Bool}
theorem Nv{ds:List (Option Tmp)}{ws:List (List Nat)}(M:ws=l.map λ o:Oper=>(o.after.toList.filter (Zq .any)).map (·.on))(N:ds=l.map λ o:Oper=>o.dst)(O:sv l.toArray=true)(C:qd l.toArray=true)(Z:sw l.toArray a.tmps.size=true)
  (hold:pK a.eval old) (R:Ce G mk)
  {i:Nat} {o:Oper} (n:l.toArray[i]? =some o) (S:Aw P ds ws old iq G mk i o) {listed:Array Bool} {vals:Nat->Value} {w:World} {K:Act->World->Prop} (aA:listed.size=l.toArray.size) (aa:iq w) (hF:uf G (λ _=>none) (gK listed) vals w) (T:za mk (gK listed) vals)
  (ab:i∈Zp .any l.toArray listed) (hC:ri ws (gK listed))
  (ad:∀v w',iq w'->ri ws (gK (listed.setIfInBounds i true))->uf G (λ _=>none) (gK (listed.setIfInBounds i true)) (kP vals i v) w'->za mk (gK (listed.setIfInBounds i true)) (kP vals i v)->K (jB l.toArray (kP vals i v) (gK (listed.setIfInBounds i true)) a l.toArray.size) w'):
  wpOp P l.toArray Q i K (jB l.toArray vals (gK listed) a l.toArray.size) w:=by
 obtain⟨h1,U,ae,V,D⟩:=ug ab;obtain rfl:o=ae:=by rw[n] at V;injection V
 have r:i<listed.size:=by omega
 have z:gK listed i=false:=by
  unfold gK;rw[w_,Zx r] at U⊢;simpa using U
 have W:∀j,q8 ws i j=true->gK listed j=true:=λ j d=>by
  obtain⟨af,m,e,he,t,E⟩:=xP M d;rw[n] at m;injection m with m
  subst m;have:=D e he t;rw[E] at this;exact this
 unfold wpOp;simp only[n];have ag:o.guard=none:=by
  unfold qd at C;rw[f_] at C;have:=C o (Zt n);simpa using this
 have hw:Zz o (yielded l.toArray (jB l.toArray vals (gK listed) a l.toArray.size).tmps)=true:=by unfold Zz;rw[ag]
 rw[if_pos hw];left;unfold Aw at S;have ah:=S vals w (jB l.toArray vals (gK listed) a l.toArray.size).eval aa (rN.of λ e he t=>by
  have hl:=D e (Array.mem_toList_iff.1 he) t;have ai:e.on<l.toArray.size:=by
   rcases Nat.lt_or_ge e.on listed.size with h|h
   ·omega
   ·rw[w_,Array.getElem?_eq_none h] at hl;cases hl
  refine⟨λ u=>hF e.on hl λ c f=>?_,λ s hs=>?_⟩
  ·rcases u with u|u
   ·rw[u] at f;cases f
   ·rw[u] at f;injection f with f
    rw[<-f];exact z
  ·rw[N,<-wK] at hs;exact yz hs (A7 Z hs) hl (λ k hk=>wI O hk hs) _ ai) (q9.of (λ s hs=>yy (λ j s' hl d F=>by
   injection F with F
   subst F;rw[wK,<-N] at d;have:=hC j i hl (A6 hs d);rw[z] at this;cases this) _) hold) (rf.act _) (λ j k A m1 m2 w1 aj=>T j k A m1 m2 (W j w1) (W k aj))
 refine ah.wp λ v w' ⟨ak,al,an,X⟩=>?_
 have ao:(jB l.toArray vals (gK listed) a l.toArray.size).put o.dst v=jB l.toArray (kP vals i v) (gK (listed.setIfInBounds i true)) a l.toArray.size:=by
  rw[oG r];have aq:ow l.toArray i=o.dst:=by unfold ow;rw[n];rfl
  have:=zH (ops:=l.toArray) (vals:=vals) (L:=gK listed) (a:=a) (i:=i) (v:=v) (λ j d s hs=>wI O d hs) z l.toArray.size h1;rw[aq] at this;exact this
 rw[ao];have ar:ri ws (gK (listed.setIfInBounds i true)):=by
  rw[oG r];intro j k d Y;unfold lI at d⊢
  by_cases e:k=i
  ·rw[if_pos e]
  ·rw[if_neg e]
   by_cases g:j=i
   ·subst g;obtain⟨af,m,au,av,t,E⟩:=xP M Y;rw[n] at m;injection m with m
    subst m;have:=D au av t;rw[E] at this;exact this
   ·rw[if_neg g] at d;exact hC j k d Y
 refine ad v w' ak ar (λ j d aB=>?_) (λ j k A m1 m2 B y=>?_)
 ·rw[oG r] at d
  by_cases e:j=i
  ·subst e;have g:kP vals j v j=v:=by unfold kP;rw[if_pos rfl]
   rw[g];exact al
  ·have g:kP vals i v j=vals j:=by unfold kP;rw[if_neg e]
   have p:lI (gK listed) i j=gK listed j:=by unfold lI;rw[if_neg e]
   rw[g];rw[p] at d;refine an j _ e ?_ (hF j d λ c f=>by cases f)
   cases aw:nM ws 8 j i with
   |false=>rfl
   |true=>
    have:=hC.reach 8 j i d aw;rw[z] at this;cases this
 ·rw[oG r] at B y
  by_cases e:j=i
  ·subst e;have q:¬k=j:=λ e=>A e.symm
   have g:kP vals j v j=v:=by unfold kP;rw[if_pos rfl]
   have p:kP vals j v k=vals k:=by unfold kP;rw[if_neg q]
   have H:lI (gK listed) j k=gK listed k:=by unfold lI;rw[if_neg q]
   rw[H] at y;rw[g,p];intro b I J;have ax:=X m1 b I;have ay:=R k _ _ m2 (hF k y λ c f=>by cases f) b J;omega
  ·have p:kP vals i v j=vals j:=by unfold kP;rw[if_neg e]
   have H:lI (gK listed) i j=gK listed j:=by unfold lI;rw[if_neg e]
   rw[H] at B
   by_cases q:k=i
   ·subst q;have g:kP vals k v k=v:=by unfold kP;rw[if_pos rfl]
    rw[g,p];intro b I J;have ax:=X m2 b J;have ay:=R j _ _ m1 (hF j B λ c f=>by cases f) b I;omega
   ·have g:kP vals i v k=vals k:=by unfold kP;rw[if_neg q]
    have az:lI (gK listed) i k=gK listed k:=by unfold lI;rw[if_neg q]
    rw[az] at y;rw[p,g];exact T j k A m1 m2 B y
theorem Nw{ds:List (Option Tmp)}{ws:List (List Nat)}(H:ws=l.map λ o:Oper=>(o.after.toList.filter (Zq .any)).map (·.on))(I:ds=l.map λ o:Oper=>o.dst)(n:Nat)(hlen:l.length=n+1)(J:sv l.toArray=true)(s:qd l.toArray=true)(K:sw l.toArray a.tmps.size=true)(L:uN l.toArray=true)(t:vF l n=true)(hold:pK a.eval old)(M:Ce G mk)
  (N:xq P ds ws old iq G mk 0 (l.take n))
  (O:∀o vals w,l[n]? =some o->iq w->(∀j,j<n->G j (vals j) w)->za mk (mh n) vals->bq P (jB l.toArray vals (mh n) a n).eval o w λ v w'=>Q .normal ((jB l.toArray vals (mh n) a n).put o.dst v) w'):
  ∀(fuel:Nat)(listed:Array Bool)(vals:Nat->Value)(w:World),listed.size=l.toArray.size->ox l.toArray listed<=fuel->0<ox l.toArray listed->gK listed n=false->ri ws (gK listed)->iq w->uf G (λ _=>none) (gK listed) vals w->za mk (gK listed) vals->
   wpAny P .any l.toArray Q fuel listed (jB l.toArray vals (gK listed) a l.toArray.size) w:=by
 intro fuel
 induction fuel with
 |zero=>intro listed vals w m R S;omega
 |succ fuel T=>
  intro listed vals w m R S z hC A hF B;refine⟨λ h=>by have:=A9 L m h;omega,λ i C=>?_⟩;obtain⟨h1,U,o,p,V⟩:=ug C;have D:i<listed.size:=by omega
  have an:i<l.length:=by simpa using h1
  have u:l[i]? =some o:=by rw[List.getElem?_toArray] at p;exact p
  by_cases E:i=n
  ·subst E;have q:∀j,j<i->gK listed j=true:=λ j d=>by
    unfold vF at t;rw[u] at t;simp only[List.all_eq_true,List.mem_range] at t;have b:=t j d;rw[Array.any_eq_true'] at b;obtain⟨e,he,y⟩:=b;simp only[Bool.and_eq_true,beq_iff_eq] at y;have:=V e he y.1;rw[y.2] at this;exact this
   have W:jB l.toArray vals (gK listed) a l.toArray.size=jB l.toArray vals (mh i) a i:=by
    have X:l.toArray.size=i+1:=by simp[hlen]
    rw[X];simp only[jB];rw[z];simp only[Bool.false_eq_true,if_false];exact zL i λ j d=>by rw[q j d];unfold mh;simp[d]
   rw[W];unfold wpOp;simp only[p];have Y:o.guard=none:=by
    unfold qd at s;rw[f_] at s;have:=s o (Zt p);simpa using this
   have hw:Zz o (yielded l.toArray (jB l.toArray vals (mh i) a i).tmps)=true:=by unfold Zz;rw[Y]
   rw[if_pos hw];left;refine(O o vals w u A (λ j d=>hF j (q j d) λ c Z=>by cases Z) (λ j k aa m1 m2 ab ad=>B j k aa m1 m2 (q j (by simpa[mh] using ab)) (q k (by simpa[mh] using ad)))).wp λ v w' ae=>?_
   refine wpAny_done ?_ ae _;rcases af:Zp .any l.toArray (listed.setIfInBounds i true) with _|⟨k,r⟩
   ·rfl
   ·have hk:k∈Zp .any l.toArray (listed.setIfInBounds i true):=by rw[af];simp
    obtain⟨b,f,_⟩:=ug hk;exfalso;have ao:k<i+1:=by simpa[hlen] using b
    by_cases e:k=i
    ·subst e;rw[w_,Array.getElem?_setIfInBounds_self_of_lt D] at f
     cases f
    ·have g:=q k (by omega);rw[w_,Array.getElem?_setIfInBounds_ne (λ x=>e x.symm)] at f;unfold gK at g;rw[w_] at g;have ag:k<listed.size:=by omega
     rw[Zx ag] at f g;simp at f g;rw[f] at g;cases g
  ·have ah:Aw P ds ws old iq G mk i o:=by
    have b:(l.take n)[i]? =some o:=by rw[List.getElem?_take,if_pos (by omega)];exact u
    have:=xq.at N b
    rwa[Nat.zero_add] at this
   refine Nv H I J s K hold M p ah m A hF B C hC λ v w' ai aj ak al=>?_
   have F:gK (listed.setIfInBounds i true) n=false:=by
    rw[oG D];unfold lI;rw[if_neg (λ e=>E e.symm)];exact z
   refine T _ _ w' (by simp[m]) (by have:=A8 (ops:=l.toArray) h1 U;omega) ?_ F aj ai ak al;rcases a_ (ox l.toArray (listed.setIfInBounds i true)) with b|b
   ·have:=wL (ops:=l.toArray) (listed:=listed.setIfInBounds i true) (by simp[m]) b n (by simp[hlen]);rw[F] at this;cases this
   ·exact b
end
theorem Nx{P:Program}{id:Nat}{ops:Array Oper}{Q:Exit->Act->World->Prop}{a:Act}(l:List Oper)(n N:Nat)(ds:List (Option Tmp))(ws:List (List Nat))(old:List (Tmp×Value))(iq:World->Prop)(G:Nat->Value->World->Prop)(mk:Nat->Bool)
  (r:ops=l.toArray) (hm:P.follows .mixedOrders=true)
  (m:ds=l.map λ o:Oper=>o.dst) (s:ws=l.map λ o:Oper=>(o.after.toList.filter (Zq .any)).map (·.on)) (hlen:l.length=n+1) (t:sv l.toArray=true) (u:qd l.toArray=true) (y:uN l.toArray=true) (z:vF l n=true) (A:sw l.toArray N=true)
  (B:a.tmps.size=N) (hold:pK a.eval old) (C:Ce G mk) (D:iq w.drew)
  (E:xq P ds ws old iq G mk 0 (l.take n))
  (ol:Oper) (F:l[n]? =some ol) (H:∀vals w,iq w->(∀j,j<n->G j (vals j) w)->za mk (mh n) vals->∀f,nZ (ds.take n) 0 vals a=f->bq P f.eval ol w λ v w'=>Q .normal (f.put ol.dst v) w'):(Code.region id ops true).wp P Q a w:=by
 subst r;subst B;refine wp_region_any hm ?_;have I:∀o vals w,l[n]? =some o->iq w->(∀j,j<n->G j (vals j) w)->za mk (mh n) vals->bq P (jB l.toArray vals (mh n) a n).eval o w λ v w'=>Q .normal ((jB l.toArray vals (mh n) a n).put o.dst v) w':=by
  intro o vals w d J K L;rw[F] at d;injection d with d
  subst d;rw[zK l vals a n n (g_ _) (by omega),<-m];exact H vals w J K L _ rfl
 have b:∀k,gK (q_ l.toArray.size false) k=false:=λ k=>by
  unfold gK;rw[w_,Array.getElem?_replicate];split<;>rfl
 have e:a=jB l.toArray (λ _=>undef) (gK (q_ l.toArray.size false)) a l.toArray.size:=by
  have:∀k,jB l.toArray (λ _=>undef) (gK (q_ l.toArray.size false)) a k=a:=by
   intro k
   induction k with
   |zero=>rfl
   |succ k M=>
    simp only[jB];rw[b k,M];simp
  exact(this _).symm
 have p:=Nw (P:=P) (Q:=Q) (a:=a) (iq:=iq) (G:=G) (mk:=mk) s m n hlen t u A y z hold C E I l.toArray.size (q_ l.toArray.size false) (λ _=>undef) w.drew (by simp)
  (by unfold ox;exact Zo (List.length_filter_le _ _) (by simp)) ?_ (b n) (λ j i c=>by rw[b j] at c;cases c) D (λ j c=>by rw[b j] at c;cases c) (λ j k O m1 m2 q R=>by rw[b j] at q;cases q)
 ·rw[<-e] at p;exact p
 ·rcases a_ (ox l.toArray (q_ l.toArray.size false)) with g|g
  ·have:=wL (ops:=l.toArray) (listed:=q_ l.toArray.size false) (by simp) g n (by simp[hlen]);rw[b n] at this;cases this
  ·exact g
end
section
open Go.RowKit Go.Shelf
theorem Ny:∀args w,(callFunc 106 args).run t_ w=.ok (.enter 106 args) w:=enters_of Tryz.func106 (by kernel_rfl) rfl
theorem Nz:∀args w,(callFunc 109 args).run t_ w=.ok (.enter 109 args) w:=enters_of Tryz.func109 (by kernel_rfl) rfl
theorem NA:(t_.info? 160).map (λ i=>(i.zero,i.size,i.bytes))=some (some (.slice none 0 0),1,24):=by kernel_rfl
theorem NB:(t_.info? 171).map (λ i=>(i.zero,i.size,i.bytes))=some (some (.int .i8 0),1,1):=by kernel_rfl
theorem NC:(t_.info? 164).map (λ i=>(i.zero,i.size,i.bytes))=some (some (.pointer none),1,8):=by kernel_rfl
theorem zb{ty:TypeId}{z:Value}{aZ:Nat}(b:(t_.info? e).map (λ i=>(i.zero,i.size,i.bytes))=some (some z,1,aZ))(hu:t_.underlying ty=some (.slice e))(c:z.cells= #[z])(k:Nat)(hk:k<=200000)(d:aZ<=100)(base:Nat)(f:base<=w.heap.size):
  (Instr.makeSlice ty (.int .i64 (k:Int)) (.int .i64 (k:Int))).run t_ w=.ok (.slice (some ⟨w.heap.size,0,none⟩) k k) (w.alloc (.cells (madeCells #[z] k) e))/\
  (w.alloc (.cells (madeCells #[z] k) e)).ownsRow base e 1 (.slice (some ⟨w.heap.size,0,none⟩) k k) k (z_ k z):=by
 obtain⟨i0,g,j,l,m⟩:=info_parts b;have hm:aZ*k<=100*200000:=Nat.mul_le_mul d hk;have:=run_make (P:=t_) w ty e i0 z hu g j .i64 .i64 (k:Int) (k:Int) (by omega) (by omega) (by rw[m,<-Int.natCast_mul];omega) (by omega);rw[l,c,Nat.mul_one,Int.toNat_natCast] at this;refine⟨this,by simp,.inr ⟨_,_,_,rfl,f,heap_alloc_new _ _,g_ _,by unfold maxLen;omega,by rw[size_madeCells];simp,?_⟩⟩;rw[toList_madeCells_one,p_ (by simp)]
theorem Hq{lC:Nat}(h:w.ownsRow b e size v n xs)(c:lC<=b):w.ownsRow lC e size v n xs:=by
 refine⟨h.1,h.2.imp id ?_⟩;rintro⟨g,cap,cur,h1,d,f⟩;exact⟨g,cap,cur,h1,Zo c d,f⟩
def qt(n:Nat)(act:List Int)(aZ:Int)(gN:List Bool)(aA:List nv)(jr:ax):an:=
 {c:=n9 n,ci:=[],act:=act,aZ:=aZ,ord:=[],pl:=z_ (n+1) 0,gN:=gN,aO:=[],aA:=aA,aP:=z_ (n+1) false,nl:=[],jr:=some jr}
def sn:Nat->Nat:=λ _=>0
def uz(b h1 c d e f g i:ax)(r:Nat):ax:=
 if r=0 then b else if r=1 then h1 else if r=2 then c else if r=3 then d else if r=6 then e else if r=8 then f else if r=9 then g else if r=12 then i else sQ
theorem vX(b:w.ownsRow base e size h.v k xs):h.n=k:=by
 rcases b.2 with⟨h1,c⟩|⟨g,cap,cur,h1,_⟩
 ·unfold ax.v at h1;injection h1 with _ h1 _;omega
 ·unfold ax.v at h1;injection h1
theorem nA.ag{h':ax}(p:nA h.v h'.v)(g:Nat)(h1:h.b=some g):h'.b≠some g:=by
 have:=p g (by rw[ax.own];exact h1)
 rwa[ax.own] at this
theorem uY(k h1 l m n o p q:ax)(r:Nat):(r=0\/r=1\/r=2\/r=3\/r=6\/r=8\/r=9\/r=12)\/(uz k h1 l m n o p q r=sQ/\r≠0/\r≠1/\r≠2/\r≠3/\r≠6/\r≠8/\r≠9/\r≠12):=by
 by_cases b:r=0
 ·exact .inl (.inl b)
 by_cases c:r=1
 ·exact .inl (by omega)
 by_cases d:r=2
 ·exact .inl (by omega)
 by_cases e:r=3
 ·exact .inl (by omega)
 by_cases f:r=6
 ·exact .inl (by omega)
 by_cases g:r=8
 ·exact .inl (by omega)
 by_cases i:r=9
 ·exact .inl (by omega)
 by_cases j:r=12
 ·exact .inl (by omega)
 right;refine⟨?_,b,c,d,e,f,g,i,j⟩;unfold uz;rw[if_neg b,if_neg c,if_neg d,if_neg e,if_neg f,if_neg g,if_neg i,if_neg j]
theorem ND(hs:Nat->ax)(n:Nat)(act:List Int)(b:Int)(c:List Bool)(d:List nv)(f:ax){r:Nat}(h:r≠0/\r≠1/\r≠2/\r≠3/\r≠6/\r≠8/\r≠9/\r≠12):cont hs sn (qt n act b c d f) r=[]:=by
 obtain⟨g,i,j,k,l,m,o,p⟩:=h;unfold cont;rw[if_neg g,if_neg i,if_neg j,if_neg k]
 by_cases e:r=4
 ·rw[if_pos e];rfl
 rw[if_neg e]
 by_cases e:r=5
 ·rw[if_pos e];rfl
 rw[if_neg e,if_neg l]
 by_cases e:r=7
 ·rw[if_pos e];rfl
 rw[if_neg e,if_neg m,if_neg o]
 by_cases e:r=10
 ·rw[if_pos e];rfl
 rw[if_neg e]
 by_cases e:r=11
 ·rw[if_pos e];rfl
 rw[if_neg e,if_neg p]
 by_cases e:r%3=1
 ·rw[if_pos e];show kW sn (az (z_ _ []) _)=[]
  rw[Bl];rfl
 rw[if_neg e]
 by_cases e:r%3=2
 ·rw[if_pos e];rfl
 ·rw[if_neg e];rfl
theorem NF{act:List Int}{aZ:Int}{gN:List Bool}{aA:List nv}{bx l8 nI nj nS nT nU nV:ax}
  (f:w.ownsRow base zD 1 bx.v (2*n+2) (z_ (2*n+2) (b_ none 0 0))) (kg:w.ownsRow base zF 1 l8.v (n+1) (z_ (n+1) (s_ .i8 0))) (i:w.ownsRow base 3 1 nI.v (n+1) (z_ (n+1) (s_ .i64 0))) (k:w.ownsRow base xN 1 nj.v (n+1) (z_ (n+1) (Zy none))) (l:w.ownsRow base 3 1 nS.v (n+1) (iY act)) (m:w.ownsRow base 3 1 nT.v (n+1) (z_ (n+1) (s_ .i64 0))) (o:w.ownsRow base 4 1 nU.v (n+1) (pI gN)) (p:w.ownsRow base 4 1 nV.v (n+1) (z_ (n+1) (Zs false)))
  (q:nA bx.v l8.v) (s:nA bx.v nI.v) (t:nA bx.v nj.v) (u:nA bx.v nS.v) (y:nA bx.v nT.v) (z:nA bx.v nU.v) (A:nA bx.v nV.v) (B:nA l8.v nI.v) (C:nA l8.v nj.v) (D:nA l8.v nS.v) (E:nA l8.v nT.v) (F:nA l8.v nU.v) (G:nA l8.v nV.v) (H:nA nI.v nj.v) (I:nA nI.v nS.v) (J:nA nI.v nT.v) (K:nA nI.v nU.v) (L:nA nI.v nV.v) (M:nA nj.v nS.v) (N:nA nj.v nT.v) (O:nA nj.v nU.v) (P:nA nj.v nV.v) (Q:nA nS.v nT.v) (R:nA nS.v nU.v) (S:nA nS.v nV.v) (T:nA nT.v nU.v) (U:nA nT.v nV.v) (V:nA nU.v nV.v):
  mc base qP nD w (uz bx l8 nI nj nS nT nU nV) (cont (uz bx l8 nI nj nS nT nU nV) sn (qt n act aZ gN aA jr)):=by
 refine⟨λ r=>?_,λ r r' g d h1 b=>?_⟩
 ·rcases uY bx l8 nI nj nS nT nU nV r with(rfl|rfl|rfl|rfl|rfl|rfl|rfl|rfl)|⟨e,c⟩
  ·show w.ownsRow base zD 1 bx.v bx.n _;rw[vX f];have:cont (uz bx l8 nI nj nS nT nU nV) sn (qt n act aZ gN aA jr) 0=z_ (2*n+2) (b_ none 0 0):=by
    show(List.range (z_ (2*n+2) ([]:List Nat)).length).map _=_;rw[List.length_replicate];refine List.ext_getElem (by simp) λ j h1 b=>?_
    rw[Zv,List.getElem_replicate];have W:(uz bx l8 nI nj nS nT nU nV) (iA j)=sQ:=by
     rcases uY bx l8 nI nj nS nT nU nV (iA j) with h|h
     ·unfold iA at h;omega
     ·exact h.1
    rw[List.getElem_range,W];rfl
   rw[this];exact f
  ·show w.ownsRow base zF 1 l8.v l8.n _;rw[vX kg];have:cont (uz bx l8 nI nj nS nT nU nV) sn (qt n act aZ gN aA jr) 1=z_ (n+1) (s_ .i8 0):=by
    show sW (z_ (n+1) 0)=_;simp[sW]
   rw[this];exact kg
  ·show w.ownsRow base 3 1 nI.v nI.n _;rw[vX i];have:cont (uz bx l8 nI nj nS nT nU nV) sn (qt n act aZ gN aA jr) 2=z_ (n+1) (s_ .i64 0):=by
    show qc (z_ (n+1) 0)=_;simp[qc]
   rw[this];exact i
  ·show w.ownsRow base xN 1 nj.v nj.n _;rw[vX k];have:cont (uz bx l8 nI nj nS nT nU nV) sn (qt n act aZ gN aA jr) 3=z_ (n+1) (Zy none):=by
    show uc sn (z_ (n+1) none)=_;simp[uc,qQ]
   rw[this];exact k
  ·show w.ownsRow base 3 1 nS.v nS.n _;rw[vX l];exact l
  ·show w.ownsRow base 3 1 nT.v nT.n _;rw[vX m];have:cont (uz bx l8 nI nj nS nT nU nV) sn (qt n act aZ gN aA jr) 8=z_ (n+1) (s_ .i64 0):=by
    show iY (z_ (n+1) 0)=_;simp[iY]
   rw[this];exact m
  ·show w.ownsRow base 4 1 nU.v nU.n _;rw[vX o];exact o
  ·show w.ownsRow base 4 1 nV.v nV.n _;rw[vX p];have:cont (uz bx l8 nI nj nS nT nU nV) sn (qt n act aZ gN aA jr) 12=z_ (n+1) (Zs false):=by
    show pI (z_ (n+1) false)=_;simp[pI]
   rw[this];exact p
  ·rw[e,ND _ n act aZ gN aA jr c];exact World.ownsRow_nil _ _ _ _
 ·rcases uY bx l8 nI nj nS nT nU nV r with(rfl|rfl|rfl|rfl|rfl|rfl|rfl|rfl)|⟨e,c⟩
  ·rcases uY bx l8 nI nj nS nT nU nV r' with(rfl|rfl|rfl|rfl|rfl|rfl|rfl|rfl)|⟨e,c⟩
   ·exact d rfl
   ·exact q.ag g h1 b
   ·exact s.ag g h1 b
   ·exact t.ag g h1 b
   ·exact u.ag g h1 b
   ·exact y.ag g h1 b
   ·exact z.ag g h1 b
   ·exact A.ag g h1 b
   ·rw[e] at b;cases b
  ·rcases uY bx l8 nI nj nS nT nU nV r' with(rfl|rfl|rfl|rfl|rfl|rfl|rfl|rfl)|⟨e,c⟩
   ·exact q.ag g b h1
   ·exact d rfl
   ·exact B.ag g h1 b
   ·exact C.ag g h1 b
   ·exact D.ag g h1 b
   ·exact E.ag g h1 b
   ·exact F.ag g h1 b
   ·exact G.ag g h1 b
   ·rw[e] at b;cases b
  ·rcases uY bx l8 nI nj nS nT nU nV r' with(rfl|rfl|rfl|rfl|rfl|rfl|rfl|rfl)|⟨e,c⟩
   ·exact s.ag g b h1
   ·exact B.ag g b h1
   ·exact d rfl
   ·exact H.ag g h1 b
   ·exact I.ag g h1 b
   ·exact J.ag g h1 b
   ·exact K.ag g h1 b
   ·exact L.ag g h1 b
   ·rw[e] at b;cases b
  ·rcases uY bx l8 nI nj nS nT nU nV r' with(rfl|rfl|rfl|rfl|rfl|rfl|rfl|rfl)|⟨e,c⟩
   ·exact t.ag g b h1
   ·exact C.ag g b h1
   ·exact H.ag g b h1
   ·exact d rfl
   ·exact M.ag g h1 b
   ·exact N.ag g h1 b
   ·exact O.ag g h1 b
   ·exact P.ag g h1 b
   ·rw[e] at b;cases b
  ·rcases uY bx l8 nI nj nS nT nU nV r' with(rfl|rfl|rfl|rfl|rfl|rfl|rfl|rfl)|⟨e,c⟩
   ·exact u.ag g b h1
   ·exact D.ag g b h1
   ·exact I.ag g b h1
   ·exact M.ag g b h1
   ·exact d rfl
   ·exact Q.ag g h1 b
   ·exact R.ag g h1 b
   ·exact S.ag g h1 b
   ·rw[e] at b;cases b
  ·rcases uY bx l8 nI nj nS nT nU nV r' with(rfl|rfl|rfl|rfl|rfl|rfl|rfl|rfl)|⟨e,c⟩
   ·exact y.ag g b h1
   ·exact E.ag g b h1
   ·exact J.ag g b h1
   ·exact N.ag g b h1
   ·exact Q.ag g b h1
   ·exact d rfl
   ·exact T.ag g h1 b
   ·exact U.ag g h1 b
   ·rw[e] at b;cases b
  ·rcases uY bx l8 nI nj nS nT nU nV r' with(rfl|rfl|rfl|rfl|rfl|rfl|rfl|rfl)|⟨e,c⟩
   ·exact z.ag g b h1
   ·exact F.ag g b h1
   ·exact K.ag g b h1
   ·exact O.ag g b h1
   ·exact R.ag g b h1
   ·exact T.ag g b h1
   ·exact d rfl
   ·exact V.ag g h1 b
   ·rw[e] at b;cases b
  ·rcases uY bx l8 nI nj nS nT nU nV r' with(rfl|rfl|rfl|rfl|rfl|rfl|rfl|rfl)|⟨e,c⟩
   ·exact A.ag g b h1
   ·exact G.ag g b h1
   ·exact L.ag g b h1
   ·exact P.ag g b h1
   ·exact S.ag g b h1
   ·exact U.ag g b h1
   ·exact V.ag g b h1
   ·exact d rfl
   ·rw[e] at b;cases b
  ·rw[e] at h1;cases h1
def qH(W:World)(d n:Nat)(act:List Int)(g:Int)(j:List Bool)(A:Option Addr)(c:Nat)(l:Option Addr)(m:Nat)(f:Option Addr)(e o:Nat)(k:List nv)(i:Nat)(v:Value)(w:World):Prop:=
 match i with
 |0=>v=.pointer (some ⟨d,0,none⟩)
 |1=>v=.int .i64 ((n:Int))
 |2=>v=.pointer (some ⟨d,0,none⟩)
 |3=>v=.int .i64 ((n:Int))
 |4=>v=.int .i64 (2*(n:Int))
 |5=>v=.int .i64 (2*(n:Int)+2)
 |6=>∃h:ax,v=h.v/\w.ownsRow W.heap.size zD 1 h.v (2*n+2) (z_ (2*n+2) (b_ none 0 0))
 |7=>v=.pointer (some ⟨d,0,none⟩)
 |8=>v=.int .i64 ((n:Int))
 |9=>v=.int .i64 ((n:Int)+1)
 |10=>∃h:ax,v=h.v/\w.ownsRow W.heap.size zF 1 h.v (n+1) (z_ (n+1) (s_ .i8 0))
 |11=>v=.pointer (some ⟨d,0,none⟩)
 |12=>v=.int .i64 ((n:Int))
 |13=>v=.int .i64 ((n:Int)+1)
 |14=>∃h:ax,v=h.v/\w.ownsRow W.heap.size 3 1 h.v (n+1) (z_ (n+1) (s_ .i64 0))
 |15=>v=.pointer (some ⟨d,0,none⟩)
 |16=>v=.int .i64 ((n:Int))
 |17=>v=.int .i64 ((n:Int)+1)
 |18=>∃h:ax,v=h.v/\w.ownsRow W.heap.size xN 1 h.v (n+1) (z_ (n+1) (Zy none))
 |19=>v=.pointer (some ⟨d,3,none⟩)
 |20=>v=.pointer (some ⟨d,3,none⟩)
 |21=>v=.slice A (n+1) c
 |22=>∃h:ax,v=h.v/\w.ownsRow W.heap.size 3 1 h.v (n+1) (iY act)
 |23=>v=.pointer (some ⟨d,3,none⟩)
 |24=>v=.pointer (some ⟨d,5,none⟩)
 |25=>v=.int .i64 (g)
 |26=>v=.pointer (some ⟨d,0,none⟩)
 |27=>v=.int .i64 ((n:Int))
 |28=>v=.int .i64 ((n:Int)+1)
 |29=>∃h:ax,v=h.v/\w.ownsRow W.heap.size 3 1 h.v (n+1) (z_ (n+1) (s_ .i64 0))
 |30=>v=.pointer (some ⟨d,6,none⟩)
 |31=>v=.slice l (n+1) m
 |32=>∃h:ax,v=h.v/\w.ownsRow W.heap.size 4 1 h.v (n+1) (pI j)
 |33=>v=.pointer (some ⟨d,7,none⟩)
 |34=>v=.slice f e o
 |35=>v=.slice f e e
 |36=>v=.pointer (some ⟨d,0,none⟩)
 |37=>v=.int .i64 ((n:Int))
 |38=>v=.int .i64 ((n:Int)+1)
 |39=>∃h:ax,v=h.v/\w.ownsRow W.heap.size 4 1 h.v (n+1) (z_ (n+1) (Zs false))
 |40=>∃hs,v=.agg (q6 hs (qt n act g j k ⟨f,e,e⟩)).toArray/\mc W.heap.size qP nD w hs (cont hs sn (qt n act g j k ⟨f,e,e⟩))
 |41=>∃hs b,v=.pointer (some ⟨b,0,none⟩)/\aN w b sV (q6 hs (qt n act g j k ⟨f,e,e⟩))/\W.heap.size<=b/\mc W.heap.size qP nD w hs (cont hs sn (qt n act g j k ⟨f,e,e⟩))
 |_=>True
theorem qH.mono(W:World)(g n:Nat)(act:List Int)(j:Int)(k:List Bool)(A:Option Addr)(c:Nat)(l:Option Addr)(m:Nat)(o:Option Addr)(p q:Nat)(r:List nv)(i:Nat)(u:Value)(w w':World)(f:Below w.heap.size w w')(h:qH W g n act j k A c l m o p q r i u w):qH W g n act j k A c l m o p q r i u w':=by
 match i,h with
 |0,h=>exact h
 |1,h=>exact h
 |2,h=>exact h
 |3,h=>exact h
 |4,h=>exact h
 |5,h=>exact h
 |6,h=>obtain⟨e,h1,d⟩:=h;exact⟨e,h1,nc d f⟩
 |7,h=>exact h
 |8,h=>exact h
 |9,h=>exact h
 |10,h=>obtain⟨e,h1,d⟩:=h;exact⟨e,h1,nc d f⟩
 |11,h=>exact h
 |12,h=>exact h
 |13,h=>exact h
 |14,h=>obtain⟨e,h1,d⟩:=h;exact⟨e,h1,nc d f⟩
 |15,h=>exact h
 |16,h=>exact h
 |17,h=>exact h
 |18,h=>obtain⟨e,h1,d⟩:=h;exact⟨e,h1,nc d f⟩
 |19,h=>exact h
 |20,h=>exact h
 |21,h=>exact h
 |22,h=>obtain⟨e,h1,d⟩:=h;exact⟨e,h1,nc d f⟩
 |23,h=>exact h
 |24,h=>exact h
 |25,h=>exact h
 |26,h=>exact h
 |27,h=>exact h
 |28,h=>exact h
 |29,h=>obtain⟨e,h1,d⟩:=h;exact⟨e,h1,nc d f⟩
 |30,h=>exact h
 |31,h=>exact h
 |32,h=>obtain⟨e,h1,d⟩:=h;exact⟨e,h1,nc d f⟩
 |33,h=>exact h
 |34,h=>exact h
 |35,h=>exact h
 |36,h=>exact h
 |37,h=>exact h
 |38,h=>exact h
 |39,h=>obtain⟨e,h1,d⟩:=h;exact⟨e,h1,nc d f⟩
 |40,h=>obtain⟨hs,h1,d⟩:=h;exact⟨hs,h1,d.below f⟩
 |41,h=>obtain⟨hs,b,h1,d,s,t⟩:=h;exact⟨hs,b,h1,d.below f,s,t.below f⟩
 |n+42,h=>trivial
def Cf(i:Nat):Bool:=[6,10,14,18,22,29,32,39].contains i
theorem qH.lt(W:World)(g n:Nat)(act:List Int)(i:Int)(k:List Bool)(A:Option Addr)(c:Nat)(l:Option Addr)(m:Nat)(o:Option Addr)(p q:Nat)(r:List nv):Ce (qH W g n act i k A c l m o p q r) Cf:=by
 intro j u w hm h b e;have s:j=6\/j=10\/j=14\/j=18\/j=22\/j=29\/j=32\/j=39:=by simpa[Cf] using hm
 rcases s with rfl|rfl|rfl|rfl|rfl|rfl|rfl|rfl
 ·obtain⟨f,rfl,d⟩:=h;exact(d.lt b e).2
 ·obtain⟨f,rfl,d⟩:=h;exact(d.lt b e).2
 ·obtain⟨f,rfl,d⟩:=h;exact(d.lt b e).2
 ·obtain⟨f,rfl,d⟩:=h;exact(d.lt b e).2
 ·obtain⟨f,rfl,d⟩:=h;exact(d.lt b e).2
 ·obtain⟨f,rfl,d⟩:=h;exact(d.lt b e).2
 ·obtain⟨f,rfl,d⟩:=h;exact(d.lt b e).2
 ·obtain⟨f,rfl,d⟩:=h;exact(d.lt b e).2
structure Hr(W:World)(gC n:Nat)(act:List Int)(aZ:Int)(gN:List Bool)(A:Option Addr)(c:Nat)(fM:Option Addr)(bD:Nat)(aQ:Option Addr)(bw aU:Nat)(aA:List nv):Prop where
 bH:W.cell? ⟨gC,0,none⟩=some (.int .i64 (n:Int))
 c3:W.cell? ⟨gC,3,none⟩=some (.slice A (n+1) c)
 gL:W.cell? ⟨gC,5,none⟩=some (.int .i64 aZ)
 jL:W.cell? ⟨gC,6,none⟩=some (.slice fM (n+1) bD)
 hM:W.cell? ⟨gC,7,none⟩=some (.slice aQ bw aU)
 jC:gC<W.heap.size
 NG:aS W A (n+1) c act
 NH:kE W fM (n+1) bD gN
 clip:∀w,Calls t_ 109 #[.slice aQ bw aU] w λ e w'=>e=.returned (.slice aQ bw bw)/\w'=w
 tH:n<=60000
theorem NI(W:World)(k n:Nat)(act:List Int)(B:Int)(s:List Bool)(A:Option Addr)(c:Nat)(M:Option Addr)(N:Nat)(D:Option Addr)(t aC:Nat)(E:List nv)(C:Hr W k n act B s A c M N D t aC E):
  xq t_ [some 11,some 12,some 13,some 14,some 15,some 16,some 17,some 18,some 19,some 20,some 21,some 22,some 23,some 24,some 25,some 26,some 27,some 28,some 29,some 30,some 31,some 32,some 33,some 34,some 35,some 36,some 37,some 38,some 39,some 40,some 41,some 42,some 43,some 44,some 45,some 46,some 47,some 48,some 49,some 50,some 51,some 52,some 3] [[],[0],[],[2],[3],[4],[5,5],[],[7],[8],[9,9],[],[11],[12],[13,13],[],[15],[16],[17,17],[],[19],[20],[21],[],[23],[24],[],[26],[27],[28,28],[],[30],[31,22],[],[33],[34,32],[],[36],[37],[38,38],[1,6,10,14,18,22,25,29,32,35,39],[40],[41,35,0,1,2,3,4,5,6,7,8,9,10,11,12,13,14,15,16,17,18,19,20,21,22,23,24,25,26,27,28,29,30,31,32,33,34,35,36,37,38,39,40,41]] [(1,.pointer (some ⟨k,0,none⟩))] (λ w=>Below W.heap.size W w) (qH W k n act B s A c M N D t aC E) Cf 0 ((rj Tryz.f98 1).take 42):=by
 have q:=qH.mono W k n act B s A c M N D t aC E;have r:∀w w':World,Below W.heap.size W w->Below w.heap.size w w'->Below W.heap.size W w':=λ w w' f o=>f.trans (o.mono f.size)
 have bL:=C.tH;refine⟨?_,?_,?_,?_,?_,?_,?_,?_,?_,?_,?_,?_,?_,?_,?_,?_,?_,?_,?_,?_,?_,?_,?_,?_,?_,?_,?_,?_,?_,?_,?_,?_,?_,?_,?_,?_,?_,?_,?_,?_,?_,?_,trivial⟩
 ·intro vals w g f d j hp i;have l:g (.tmp 1)=_:=j.1 rfl;simp only[bq,execOp,l];simp[cF,go_sem];exact .same f rfl rfl
 ·intro vals w g f d j hp i;obtain⟨⟨f0,O⟩,-⟩:=(⟨d.1 rfl,d.2⟩:_/\_)
  have O:g (.tmp 11)=vals 0:=O _ rfl;have f0:vals 0=_:=f0 (y_ rfl);rw[f0] at O;have m:=(x_ (a:=⟨k,0,none⟩) (f.block k C.jC)).trans C.bH;simp only[bq,execOp,O];simp[cF,go_sem,m];exact .same f rfl rfl
 ·intro vals w g f d j hp i;have l:g (.tmp 1)=_:=j.1 rfl;simp only[bq,execOp,l];simp[cF,go_sem];exact .same f rfl rfl
 ·intro vals w g f d j hp i;obtain⟨⟨f2,P⟩,-⟩:=(⟨d.1 rfl,d.2⟩:_/\_)
  have P:g (.tmp 13)=vals 2:=P _ rfl;have f2:vals 2=_:=f2 (y_ rfl);rw[f2] at P;have m:=(x_ (a:=⟨k,0,none⟩) (f.block k C.jC)).trans C.bH;simp only[bq,execOp,P];simp[cF,go_sem,m];exact .same f rfl rfl
 ·intro vals w g f d j hp i;obtain⟨⟨f3,Q⟩,-⟩:=(⟨d.1 rfl,d.2⟩:_/\_)
  have Q:g (.tmp 14)=vals 3:=Q _ rfl;have f3:vals 3=_:=f3 (y_ rfl);rw[f3] at Q;have wn:l_.wrap (2*(n:Int))=2*(n:Int):=by rw[u_];omega
  simp only[bq,execOp,Q];simp[cF,go_sem,wn,hp.1];exact .same f rfl rfl
 ·intro vals w g f d j hp i;obtain⟨⟨f4,R⟩,-⟩:=(⟨d.1 rfl,d.2⟩:_/\_)
  have R:g (.tmp 15)=vals 4:=R _ rfl;have f4:vals 4=_:=f4 (y_ rfl);rw[f4] at R;have wn:l_.wrap (2*(n:Int)+2)=2*(n:Int)+2:=by rw[u_];omega
  simp only[bq,execOp,R];simp[cF,go_sem,wn,hp.1];exact .same f rfl rfl
 ·intro vals w g f d j hp i;obtain⟨⟨f5,F⟩,-⟩:=(⟨d.1 rfl,d.2⟩:_/\_)
  have F:g (.tmp 16)=vals 5:=F _ rfl;have f5:vals 5=_:=f5 (y_ rfl);rw[f5] at F;have p:=zb (w:=w) NA Tryz.underlying158 rfl (2*n+2) (by omega) (by omega) W.heap.size f.size;rw[show(2*(n:Int)+2)=(((2*n+2):Nat):Int) by omega] at F;simp only[bq,execOp,o_,n_,v_,F,p.1,cF];exact .more q (bB w _) (r w _ f (bB w _)) ⟨⟨_,_,_⟩,rfl,p.2⟩ (λ _ b o=>by have e:some w.heap.size=some b:=o;injection e with e;omega)
 ·intro vals w g f d j hp i;have l:g (.tmp 1)=_:=j.1 rfl;simp only[bq,execOp,l];simp[cF,go_sem];exact .same f rfl rfl
 ·intro vals w g f d j hp i;obtain⟨⟨f7,S⟩,-⟩:=(⟨d.1 rfl,d.2⟩:_/\_)
  have S:g (.tmp 18)=vals 7:=S _ rfl;have f7:vals 7=_:=f7 (y_ rfl);rw[f7] at S;have m:=(x_ (a:=⟨k,0,none⟩) (f.block k C.jC)).trans C.bH;simp only[bq,execOp,S];simp[cF,go_sem,m];exact .same f rfl rfl
 ·intro vals w g f d j hp i;obtain⟨⟨f8,T⟩,-⟩:=(⟨d.1 rfl,d.2⟩:_/\_)
  have T:g (.tmp 19)=vals 8:=T _ rfl;have f8:vals 8=_:=f8 (y_ rfl);rw[f8] at T;have wn:l_.wrap ((n:Int)+1)=(n:Int)+1:=by rw[u_];omega
  simp only[bq,execOp,T];simp[cF,go_sem,wn,hp.1];exact .same f rfl rfl
 ·intro vals w g f d j hp i;obtain⟨⟨f9,G⟩,-⟩:=(⟨d.1 rfl,d.2⟩:_/\_)
  have G:g (.tmp 20)=vals 9:=G _ rfl;have f9:vals 9=_:=f9 (y_ rfl);rw[f9] at G;have p:=zb (w:=w) NB Tryz.underlying159 rfl (n+1) (by omega) (by omega) W.heap.size f.size;rw[show((n:Int)+1)=(((n+1):Nat):Int) by omega] at G;simp only[bq,execOp,o_,n_,v_,G,p.1,cF];exact .more q (bB w _) (r w _ f (bB w _)) ⟨⟨_,_,_⟩,rfl,p.2⟩ (λ _ b o=>by have e:some w.heap.size=some b:=o;injection e with e;omega)
 ·intro vals w g f d j hp i;have l:g (.tmp 1)=_:=j.1 rfl;simp only[bq,execOp,l];simp[cF,go_sem];exact .same f rfl rfl
 ·intro vals w g f d j hp i;obtain⟨⟨f11,U⟩,-⟩:=(⟨d.1 rfl,d.2⟩:_/\_)
  have U:g (.tmp 22)=vals 11:=U _ rfl;have f11:vals 11=_:=f11 (y_ rfl);rw[f11] at U;have m:=(x_ (a:=⟨k,0,none⟩) (f.block k C.jC)).trans C.bH;simp only[bq,execOp,U];simp[cF,go_sem,m];exact .same f rfl rfl
 ·intro vals w g f d j hp i;obtain⟨⟨f12,V⟩,-⟩:=(⟨d.1 rfl,d.2⟩:_/\_)
  have V:g (.tmp 23)=vals 12:=V _ rfl;have f12:vals 12=_:=f12 (y_ rfl);rw[f12] at V;have wn:l_.wrap ((n:Int)+1)=(n:Int)+1:=by rw[u_];omega
  simp only[bq,execOp,V];simp[cF,go_sem,wn,hp.1];exact .same f rfl rfl
 ·intro vals w g f d j hp i;obtain⟨⟨f13,H⟩,-⟩:=(⟨d.1 rfl,d.2⟩:_/\_)
  have H:g (.tmp 24)=vals 13:=H _ rfl;have f13:vals 13=_:=f13 (y_ rfl);rw[f13] at H;have p:=zb (w:=w) xD Tryz.underlying25 rfl (n+1) (by omega) (by omega) W.heap.size f.size;rw[show((n:Int)+1)=(((n+1):Nat):Int) by omega] at H;simp only[bq,execOp,o_,n_,v_,H,p.1,cF];exact .more q (bB w _) (r w _ f (bB w _)) ⟨⟨_,_,_⟩,rfl,p.2⟩ (λ _ b o=>by have e:some w.heap.size=some b:=o;injection e with e;omega)
 ·intro vals w g f d j hp i;have l:g (.tmp 1)=_:=j.1 rfl;simp only[bq,execOp,l];simp[cF,go_sem];exact .same f rfl rfl
 ·intro vals w g f d j hp i;obtain⟨⟨f15,X⟩,-⟩:=(⟨d.1 rfl,d.2⟩:_/\_)
  have X:g (.tmp 26)=vals 15:=X _ rfl;have f15:vals 15=_:=f15 (y_ rfl);rw[f15] at X;have m:=(x_ (a:=⟨k,0,none⟩) (f.block k C.jC)).trans C.bH;simp only[bq,execOp,X];simp[cF,go_sem,m];exact .same f rfl rfl
 ·intro vals w g f d j hp i;obtain⟨⟨f16,Y⟩,-⟩:=(⟨d.1 rfl,d.2⟩:_/\_)
  have Y:g (.tmp 27)=vals 16:=Y _ rfl;have f16:vals 16=_:=f16 (y_ rfl);rw[f16] at Y;have wn:l_.wrap ((n:Int)+1)=(n:Int)+1:=by rw[u_];omega
  simp only[bq,execOp,Y];simp[cF,go_sem,wn,hp.1];exact .same f rfl rfl
 ·intro vals w g f d j hp i;obtain⟨⟨f17,I⟩,-⟩:=(⟨d.1 rfl,d.2⟩:_/\_)
  have I:g (.tmp 28)=vals 17:=I _ rfl;have f17:vals 17=_:=f17 (y_ rfl);rw[f17] at I;have p:=zb (w:=w) NC Tryz.underlying160 rfl (n+1) (by omega) (by omega) W.heap.size f.size;rw[show((n:Int)+1)=(((n+1):Nat):Int) by omega] at I;simp only[bq,execOp,o_,n_,v_,I,p.1,cF];exact .more q (bB w _) (r w _ f (bB w _)) ⟨⟨_,_,_⟩,rfl,p.2⟩ (λ _ b o=>by have e:some w.heap.size=some b:=o;injection e with e;omega)
 ·intro vals w g f d j hp i;have l:g (.tmp 1)=_:=j.1 rfl;simp only[bq,execOp,l];simp[cF,go_sem];exact .same f rfl rfl
 ·intro vals w g f d j hp i;obtain⟨⟨f19,Z⟩,-⟩:=(⟨d.1 rfl,d.2⟩:_/\_)
  have Z:g (.tmp 30)=vals 19:=Z _ rfl;have f19:vals 19=_:=f19 (y_ rfl);rw[f19] at Z;simp only[bq,execOp,Z];simp[cF,go_sem];exact .same f rfl rfl
 ·intro vals w g f d j hp i;obtain⟨⟨f20,aa⟩,-⟩:=(⟨d.1 rfl,d.2⟩:_/\_)
  have aa:g (.tmp 31)=vals 20:=aa _ rfl;have f20:vals 20=_:=f20 (y_ rfl);rw[f20] at aa;have m:=(x_ (a:=⟨k,3,none⟩) (f.block k C.jC)).trans C.c3;simp only[bq,execOp,aa];simp[cF,go_sem,m];exact .same f rfl rfl
 ·intro vals w g f d j hp i;obtain⟨⟨f21,ab⟩,-⟩:=(⟨d.1 rfl,d.2⟩:_/\_)
  have ab:g (.tmp 32)=vals 21:=ab _ rfl;have f21:vals 21=_:=f21 (y_ rfl);rw[f21] at ab;have J:=C.NG.below f;refine r4 81 #[.tmp 32] #[25] rfl BQ hp ?_;simp only[r_,m_,i_,ab];refine(vm A (n+1) c act w J).mono ?_;rintro e w' ⟨aD,c2,rfl,u,o⟩;have hl:=J.len;rw[hl] at u⊢;refine⟨_,rfl,.more q o (r w w' f o) ⟨⟨aD,n+1,c2⟩,rfl,Hq u f.size⟩ (λ _ b e=>(u.lt b e).1)⟩
 ·intro vals w g f d j hp i;have l:g (.tmp 1)=_:=j.1 rfl;simp only[bq,execOp,l];simp[cF,go_sem];exact .same f rfl rfl
 ·intro vals w g f d j hp i;obtain⟨⟨f23,ad⟩,-⟩:=(⟨d.1 rfl,d.2⟩:_/\_)
  have ad:g (.tmp 34)=vals 23:=ad _ rfl;have f23:vals 23=_:=f23 (y_ rfl);rw[f23] at ad;simp only[bq,execOp,ad];simp[cF,go_sem];exact .same f rfl rfl
 ·intro vals w g f d j hp i;obtain⟨⟨f24,ae⟩,-⟩:=(⟨d.1 rfl,d.2⟩:_/\_)
  have ae:g (.tmp 35)=vals 24:=ae _ rfl;have f24:vals 24=_:=f24 (y_ rfl);rw[f24] at ae;have m:=(x_ (a:=⟨k,5,none⟩) (f.block k C.jC)).trans C.gL;simp only[bq,execOp,ae];simp[cF,go_sem,m];exact .same f rfl rfl
 ·intro vals w g f d j hp i;have l:g (.tmp 1)=_:=j.1 rfl;simp only[bq,execOp,l];simp[cF,go_sem];exact .same f rfl rfl
 ·intro vals w g f d j hp i;obtain⟨⟨f26,af⟩,-⟩:=(⟨d.1 rfl,d.2⟩:_/\_)
  have af:g (.tmp 37)=vals 26:=af _ rfl;have f26:vals 26=_:=f26 (y_ rfl);rw[f26] at af;have m:=(x_ (a:=⟨k,0,none⟩) (f.block k C.jC)).trans C.bH;simp only[bq,execOp,af];simp[cF,go_sem,m];exact .same f rfl rfl
 ·intro vals w g f d j hp i;obtain⟨⟨f27,ag⟩,-⟩:=(⟨d.1 rfl,d.2⟩:_/\_)
  have ag:g (.tmp 38)=vals 27:=ag _ rfl;have f27:vals 27=_:=f27 (y_ rfl);rw[f27] at ag;have wn:l_.wrap ((n:Int)+1)=(n:Int)+1:=by rw[u_];omega
  simp only[bq,execOp,ag];simp[cF,go_sem,wn,hp.1];exact .same f rfl rfl
 ·intro vals w g f d j hp i;obtain⟨⟨f28,K⟩,-⟩:=(⟨d.1 rfl,d.2⟩:_/\_)
  have K:g (.tmp 39)=vals 28:=K _ rfl;have f28:vals 28=_:=f28 (y_ rfl);rw[f28] at K;have p:=zb (w:=w) xD Tryz.underlying25 rfl (n+1) (by omega) (by omega) W.heap.size f.size;rw[show((n:Int)+1)=(((n+1):Nat):Int) by omega] at K;simp only[bq,execOp,o_,n_,v_,K,p.1,cF];exact .more q (bB w _) (r w _ f (bB w _)) ⟨⟨_,_,_⟩,rfl,p.2⟩ (λ _ b o=>by have e:some w.heap.size=some b:=o;injection e with e;omega)
 ·intro vals w g f d j hp i;have l:g (.tmp 1)=_:=j.1 rfl;simp only[bq,execOp,l];simp[cF,go_sem];exact .same f rfl rfl
 ·intro vals w g f d j hp i;obtain⟨⟨f30,ah⟩,-⟩:=(⟨d.1 rfl,d.2⟩:_/\_)
  have ah:g (.tmp 41)=vals 30:=ah _ rfl;have f30:vals 30=_:=f30 (y_ rfl);rw[f30] at ah;have m:=(x_ (a:=⟨k,6,none⟩) (f.block k C.jC)).trans C.jL;simp only[bq,execOp,ah];simp[cF,go_sem,m];exact .same f rfl rfl
 ·intro vals w g f d j hp i;obtain⟨⟨f31,ai⟩,⟨f22,y⟩,-⟩:=(⟨d.1 rfl,d.2.1 rfl,d.2.2⟩:_/\_/\_)
  have ai:g (.tmp 42)=vals 31:=ai _ rfl;have f31:vals 31=_:=f31 (y_ rfl);rw[f31] at ai;have y:g (.tmp 33)=vals 22:=y _ rfl;have J:=C.NH.below f;refine r4 106 #[.tmp 42] #[28] rfl Ny hp ?_;simp only[r_,m_,i_,ai];refine(Nq M (n+1) N s w J).mono ?_;rintro e w' ⟨aD,c2,rfl,u,o⟩;have hl:=J.len;rw[hl] at u⊢;refine⟨_,rfl,.more q o (r w w' f o) ⟨⟨aD,n+1,c2⟩,rfl,Hq u f.size⟩ (λ _ b e=>(u.lt b e).1)⟩
 ·intro vals w g f d j hp i;have l:g (.tmp 1)=_:=j.1 rfl;simp only[bq,execOp,l];simp[cF,go_sem];exact .same f rfl rfl
 ·intro vals w g f d j hp i;obtain⟨⟨f33,aj⟩,-⟩:=(⟨d.1 rfl,d.2⟩:_/\_)
  have aj:g (.tmp 44)=vals 33:=aj _ rfl;have f33:vals 33=_:=f33 (y_ rfl);rw[f33] at aj;have m:=(x_ (a:=⟨k,7,none⟩) (f.block k C.jC)).trans C.hM;simp only[bq,execOp,aj];simp[cF,go_sem,m];exact .same f rfl rfl
 ·intro vals w g f d j hp i;obtain⟨⟨f34,ak⟩,⟨f32,z⟩,-⟩:=(⟨d.1 rfl,d.2.1 rfl,d.2.2⟩:_/\_/\_)
  have ak:g (.tmp 45)=vals 34:=ak _ rfl;have f34:vals 34=_:=f34 (y_ rfl);rw[f34] at ak;have z:g (.tmp 43)=vals 32:=z _ rfl;refine r4 109 #[.tmp 45] #[45] rfl Nz hp ?_;simp only[r_,m_,i_,ak];refine(C.clip w).mono ?_;rintro e w' ⟨rfl,rfl⟩;exact⟨_,rfl,.same f rfl rfl⟩
 ·intro vals w g f d j hp i;have l:g (.tmp 1)=_:=j.1 rfl;simp only[bq,execOp,l];simp[cF,go_sem];exact .same f rfl rfl
 ·intro vals w g f d j hp i;obtain⟨⟨f36,al⟩,-⟩:=(⟨d.1 rfl,d.2⟩:_/\_)
  have al:g (.tmp 47)=vals 36:=al _ rfl;have f36:vals 36=_:=f36 (y_ rfl);rw[f36] at al;have m:=(x_ (a:=⟨k,0,none⟩) (f.block k C.jC)).trans C.bH;simp only[bq,execOp,al];simp[cF,go_sem,m];exact .same f rfl rfl
 ·intro vals w g f d j hp i;obtain⟨⟨f37,an⟩,-⟩:=(⟨d.1 rfl,d.2⟩:_/\_)
  have an:g (.tmp 48)=vals 37:=an _ rfl;have f37:vals 37=_:=f37 (y_ rfl);rw[f37] at an;have wn:l_.wrap ((n:Int)+1)=(n:Int)+1:=by rw[u_];omega
  simp only[bq,execOp,an];simp[cF,go_sem,wn,hp.1];exact .same f rfl rfl
 ·intro vals w g f d j hp i;obtain⟨⟨f38,L⟩,-⟩:=(⟨d.1 rfl,d.2⟩:_/\_)
  have L:g (.tmp 49)=vals 38:=L _ rfl;have f38:vals 38=_:=f38 (y_ rfl);rw[f38] at L;have p:=zb (w:=w) BX Tryz.underlying28 rfl (n+1) (by omega) (by omega) W.heap.size f.size;rw[show((n:Int)+1)=(((n+1):Nat):Int) by omega] at L;simp only[bq,execOp,o_,n_,v_,L,p.1,cF];exact .more q (bB w _) (r w _ f (bB w _)) ⟨⟨_,_,_⟩,rfl,p.2⟩ (λ _ b o=>by have e:some w.heap.size=some b:=o;injection e with e;omega)
 ·intro vals w g f d j hp i;obtain⟨⟨f1,ao⟩,⟨f6,aq⟩,⟨f10,ar⟩,⟨f14,au⟩,⟨f18,av⟩,⟨f22,y⟩,⟨f25,aw⟩,⟨f29,ay⟩,⟨f32,z⟩,⟨f35,az⟩,⟨f39,aA⟩,-⟩:=(⟨d.1 rfl,d.2.1 rfl,d.2.2.1 rfl,d.2.2.2.1 rfl,d.2.2.2.2.1 rfl,d.2.2.2.2.2.1 rfl,d.2.2.2.2.2.2.1 rfl,d.2.2.2.2.2.2.2.1 rfl,d.2.2.2.2.2.2.2.2.1 rfl,d.2.2.2.2.2.2.2.2.2.1 rfl,d.2.2.2.2.2.2.2.2.2.2.1 rfl,d.2.2.2.2.2.2.2.2.2.2.2⟩:_/\_/\_/\_/\_/\_/\_/\_/\_/\_/\_/\_)
  have ao:g (.tmp 12)=vals 1:=ao _ rfl;have f1:vals 1=_:=f1 (y_ rfl);rw[f1] at ao;have aq:g (.tmp 17)=vals 6:=aq _ rfl;have ar:g (.tmp 21)=vals 10:=ar _ rfl;have au:g (.tmp 25)=vals 14:=au _ rfl;have av:g (.tmp 29)=vals 18:=av _ rfl;have y:g (.tmp 33)=vals 22:=y _ rfl;have aw:g (.tmp 36)=vals 25:=aw _ rfl;have f25:vals 25=_:=f25 (y_ rfl);rw[f25] at aw;have ay:g (.tmp 40)=vals 29:=ay _ rfl;have z:g (.tmp 43)=vals 32:=z _ rfl;have az:g (.tmp 46)=vals 35:=az _ rfl;have f35:vals 35=_:=f35 (y_ rfl);rw[f35] at az;have aA:g (.tmp 50)=vals 39:=aA _ rfl;obtain⟨⟨aE,m6,aF⟩,f6,bC⟩:∃h:ax,vals 6=h.v/\w.ownsRow W.heap.size zD 1 h.v (2*n+2) (z_ (2*n+2) (b_ none 0 0)):=f6 (y_ rfl);replace f6:vals 6=.slice aE m6 aF:=f6;obtain⟨⟨aG,m10,aH⟩,f10,kg⟩:∃h:ax,vals 10=h.v/\w.ownsRow W.heap.size zF 1 h.v (n+1) (z_ (n+1) (s_ .i8 0)):=f10 (y_ rfl);replace f10:vals 10=.slice aG m10 aH:=f10;obtain⟨⟨aI,m14,aJ⟩,f14,bD⟩:∃h:ax,vals 14=h.v/\w.ownsRow W.heap.size 3 1 h.v (n+1) (z_ (n+1) (s_ .i64 0)):=f14 (y_ rfl);replace f14:vals 14=.slice aI m14 aJ:=f14;obtain⟨⟨aK,m18,aL⟩,f18,bE⟩:∃h:ax,vals 18=h.v/\w.ownsRow W.heap.size xN 1 h.v (n+1) (z_ (n+1) (Zy none)):=f18 (y_ rfl);replace f18:vals 18=.slice aK m18 aL:=f18;obtain⟨⟨aM,m22,aO⟩,f22,bF⟩:∃h:ax,vals 22=h.v/\w.ownsRow W.heap.size 3 1 h.v (n+1) (iY act):=f22 (y_ rfl);replace f22:vals 22=.slice aM m22 aO:=f22;obtain⟨⟨aP,aQ,aR⟩,f29,bG⟩:∃h:ax,vals 29=h.v/\w.ownsRow W.heap.size 3 1 h.v (n+1) (z_ (n+1) (s_ .i64 0)):=f29 (y_ rfl);replace f29:vals 29=.slice aP aQ aR:=f29;obtain⟨⟨aS,m32,aT⟩,f32,bI⟩:∃h:ax,vals 32=h.v/\w.ownsRow W.heap.size 4 1 h.v (n+1) (pI s):=f32 (y_ rfl);replace f32:vals 32=.slice aS m32 aT:=f32;obtain⟨⟨aU,aV,aW⟩,f39,bJ⟩:∃h:ax,vals 39=h.v/\w.ownsRow W.heap.size 4 1 h.v (n+1) (z_ (n+1) (Zs false)):=f39 (y_ rfl);replace f39:vals 39=.slice aU aV aW:=f39;rw[f6] at aq;rw[f10] at ar;rw[f14] at au;rw[f18] at av;rw[f22] at y;rw[f29] at ay;rw[f32] at z;rw[f39] at aA;have aX:=i 6 10 (by decide) rfl rfl rfl rfl;rw[f6,f10] at aX;have aY:=i 6 14 (by decide) rfl rfl rfl rfl;rw[f6,f14] at aY;have aZ:=i 6 18 (by decide) rfl rfl rfl rfl;rw[f6,f18] at aZ;have a6:=i 6 22 (by decide) rfl rfl rfl rfl;rw[f6,f22] at a6;have a7:=i 6 29 (by decide) rfl rfl rfl rfl;rw[f6,f29] at a7;have a8:=i 6 32 (by decide) rfl rfl rfl rfl;rw[f6,f32] at a8;have a':=i 6 39 (by decide) rfl rfl rfl rfl;rw[f6,f39] at a';have ba:=i 10 14 (by decide) rfl rfl rfl rfl;rw[f10,f14] at ba;have bb:=i 10 18 (by decide) rfl rfl rfl rfl;rw[f10,f18] at bb;have bc:=i 10 22 (by decide) rfl rfl rfl rfl;rw[f10,f22] at bc;have bd:=i 10 29 (by decide) rfl rfl rfl rfl;rw[f10,f29] at bd;have bf:=i 10 32 (by decide) rfl rfl rfl rfl;rw[f10,f32] at bf;have bg:=i 10 39 (by decide) rfl rfl rfl rfl;rw[f10,f39] at bg;have bh:=i 14 18 (by decide) rfl rfl rfl rfl;rw[f14,f18] at bh;have bj:=i 14 22 (by decide) rfl rfl rfl rfl;rw[f14,f22] at bj;have bk:=i 14 29 (by decide) rfl rfl rfl rfl;rw[f14,f29] at bk;have bl:=i 14 32 (by decide) rfl rfl rfl rfl;rw[f14,f32] at bl;have bn:=i 14 39 (by decide) rfl rfl rfl rfl;rw[f14,f39] at bn;have bo:=i 18 22 (by decide) rfl rfl rfl rfl;rw[f18,f22] at bo;have bp:=i 18 29 (by decide) rfl rfl rfl rfl;rw[f18,f29] at bp;have br:=i 18 32 (by decide) rfl rfl rfl rfl;rw[f18,f32] at br;have bs:=i 18 39 (by decide) rfl rfl rfl rfl;rw[f18,f39] at bs;have bt:=i 22 29 (by decide) rfl rfl rfl rfl;rw[f22,f29] at bt;have bu:=i 22 32 (by decide) rfl rfl rfl rfl;rw[f22,f32] at bu;have bw:=i 22 39 (by decide) rfl rfl rfl rfl;rw[f22,f39] at bw;have bx:=i 29 32 (by decide) rfl rfl rfl rfl;rw[f29,f32] at bx;have bz:=i 29 39 (by decide) rfl rfl rfl rfl;rw[f29,f39] at bz;have bA:=i 32 39 (by decide) rfl rfl rfl rfl;rw[f32,f39] at bA;simp only[bq,execOp,r_,m_,i_,ao,aq,ar,au,av,y,aw,ay,z,az,aA];clear i d j q r;simp[cF,go_sem];exact .same f ⟨uz ⟨aE,m6,aF⟩ ⟨aG,m10,aH⟩ ⟨aI,m14,aJ⟩ ⟨aK,m18,aL⟩ ⟨aM,m22,aO⟩ ⟨aP,aQ,aR⟩ ⟨aS,m32,aT⟩ ⟨aU,aV,aW⟩,rfl,NF bC kg bD bE bF bG bI bJ aX aY aZ a6 a7 a8 a' ba bb bc bd bf bg bh bj bk bl bn bo bp br bs bt bu bw bx bz bA⟩ rfl
 ·intro vals w g f d j hp i;obtain⟨⟨f40,aB⟩,-⟩:=(⟨d.1 rfl,d.2⟩:_/\_)
  have aB:g (.tmp 51)=vals 40:=aB _ rfl;obtain⟨hs,f40,bK⟩:∃hs,vals 40=.agg (q6 hs (qt n act B s E ⟨D,t,t⟩)).toArray/\mc W.heap.size qP nD w hs (cont hs sn (qt n act B s E ⟨D,t,t⟩)):=f40 (y_ rfl);rw[f40] at aB;simp only[bq,execOp,aB];simp[cF,go_sem];exact .more q (bB w _) (r w _ f (bB w _)) ⟨hs,w.heap.size,rfl,aN.new w sV _,f.size,bK.below (bB w _)⟩ (λ h=>by cases h)
def vY(W:World)(G:Nat)(row:Option Nat)(b:Nat):Prop:=b<W.heap.size/\b≠G/\row≠some b
theorem j0.NJ{gj zG:List Value}{cls:Nat->List Value}{X:Nat->List Value}(h:j0 base W G hs cb gj cls n X){r:Nat}{h':ax}{ys:List Value}(f:aC (vY W G (hs r).b) W w)(s:aN w G sV zG)(t:w.ownsRow base (qP r) (nD r) h'.v h'.n ys)(c:h'.b=(hs r).b\/∀g,h'.b=some g->W.heap.size<=g):
  j0 base w G (iN hs r h') cb zG cls n (iN X r ys):=by
 have hk:∀r' g,r'≠r->(hs r').b=some g->vY W G (hs r).b g:=λ r' g i o=>⟨(h.rows.lt o).2,λ e=>h.ue r' g o e.symm,λ e=>h.rows.apart r' r g i o e⟩
 refine⟨s,⟨λ r'=>?_,λ k l g i h1=>?_⟩,λ d m=>f.blk (h.cls d m) ⟨(h.cls d m).lt,λ e=>h.CZ m e.symm,λ e=>h.xO m r _ e rfl⟩,h.inj,h.q7,h.rL⟩
 ·by_cases e:r'=r
  ·subst e;rw[jG,jG];exact t
  ·rw[bh _ _ e,bh _ _ e];refine pL (h.rows.row r') λ b u=>f.keep b (hk r' b e ?_)
   rw[<-ax.own];exact u
 ·by_cases p:k=r
  ·subst p;rw[jG] at h1;rw[bh _ _ (λ e=>i e.symm)];rcases c with c|c
   ·rw[c] at h1;exact h.rows.apart k l g i h1
   ·intro j;have:=c g h1;have:=(h.rows.lt j).2;omega
  ·rw[bh _ _ p] at h1
   by_cases q:l=r
   ·subst q;rw[jG];intro j;rcases c with c|c
    ·rw[c] at j;exact h.rows.apart k l g i h1 j
    ·have:=c g j;have:=(h.rows.lt h1).2;omega
   ·rw[bh _ _ q];exact h.rows.apart k l g i h1
theorem aS.Hs{W:World}{ah:List Int}(h:aS w (some ⟨b,0,none⟩) n c ah)(d:w.heap.size<=w'.heap.size)(hk:w'.heap[b]? =w.heap[b]?):aS w' (some ⟨b,0,none⟩) n c ah:=
 ⟨h.len,h.cap,h.mG,h.od,λ f=>by
  obtain⟨g,off,e,h1,i⟩:=h.cells f;refine⟨g,off,e,h_ h1 d,λ j k=>?_⟩;injection e with e
  injection e with l m
  subst l m;exact(x_ (a:=⟨b,0+j,none⟩) hk).trans (i j k)⟩
theorem Ht{α:Type}{l:List α}{x:α}(h:l[k]? =some x):l.set k x=l:=by
 refine List.ext_getElem? λ j=>?_
 rw[List.getElem?_set];split
 ·rename_i e;subst e;have:=(Zw.1 h).1;rw[if_pos this,h]
 ·rfl
theorem vY.drop{row:Option Nat}(f:aC (vY W G row) W w)(c:Below w.heap.size w w'):aC (vY W G row) W w':=
 f.trans (aC.pY c λ b c=>h_ c.1 f.size)
def zc(W:World)(base G:Nat)(L:List Value)(c:Option Addr)(n7 d g8 n8 e x:Nat)(i:Int)(xs:List Int)(j:Nat)(v:Value)(w:World):Prop:=
 match j with
 |0=>v=.pointer (some ⟨G,0,none⟩)
 |1=>v=.pointer (some ⟨G,0,none⟩)
 |2=>v=.pointer (some ⟨G,0,none⟩)
 |3=>v=.pointer (some ⟨G,11,none⟩)
 |4=>v=.slice (some ⟨g8,0,none⟩) n8 e
 |5=>v=.int .i64 (x:Int)
 |6=>v=.pointer (some ⟨G,0,none⟩)
 |7=>v=.pointer (some ⟨G,0,none⟩)
 |8=>v=.pointer (some ⟨G,10,none⟩)
 |9=>v=.slice c n7 d
 |10=>v=.int .i64 (x:Int)
 |11=>∃b,v=.slice (some ⟨b,0,none⟩) 1 1/\W.heap.size<=b/\aS w (some ⟨b,0,none⟩) 1 1 [(x:Int)]
 |12=>∃h:ax,v=h.v/\w.ownsRow base 3 1 h.v (n7+1) (iY (xs++[(x:Int)]))/\(h.b=c.map (·.block)\/∀g,h.b=some g->W.heap.size<=g)/\aN w G sV L
 |13=>v=.int .i64 i
 |14=>v=.pointer (some ⟨G,0,none⟩)
 |15=>v=.pointer (some ⟨G,10,none⟩)
 |16=>∃h:ax,w.ownsRow base 3 1 h.v (n7+1) (iY (xs++[(x:Int)]))/\(h.b=c.map (·.block)\/∀g,h.b=some g->W.heap.size<=g)/\aN w G sV (L.set 10 h.v)
 |17=>v=.pointer (some ⟨g8,x,none⟩)
 |_=>True
theorem zc.mono(W:World)(base G:Nat)(L:List Value)(k:Option Addr)(n7 l g8 n8 m x:Nat)(i:Int)(xs:List Int)(j:Nat)(u:Value)(w w':World)(c:Below w.heap.size w w')(h:zc W base G L k n7 l g8 n8 m x i xs j u w):zc W base G L k n7 l g8 n8 m x i xs j u w':=by
 match j,h with
 |0,h=>exact h
 |1,h=>exact h
 |2,h=>exact h
 |3,h=>exact h
 |4,h=>exact h
 |5,h=>exact h
 |6,h=>exact h
 |7,h=>exact h
 |8,h=>exact h
 |9,h=>exact h
 |10,h=>exact h
 |11,h=>obtain⟨b,h1,d,e⟩:=h;exact⟨b,h1,d,e.below c⟩
 |12,h=>obtain⟨f,h1,d,e,g⟩:=h;exact⟨f,h1,nc d c,e,g.below c⟩
 |13,h=>exact h
 |14,h=>exact h
 |15,h=>exact h
 |16,h=>obtain⟨f,d,e,g⟩:=h;exact⟨f,nc d c,e,g.below c⟩
 |17,h=>exact h
 |n+18,h=>trivial
def Hu(j:Nat):Option Nat:=if j=12 then some 16 else none
structure Hv(W:World)(base G:Nat)(L:List Value)(iy:Option Addr)(n7 hM g8 n8 p0 x:Nat)(i:Int)(xs:List Int):Prop where
 l10:L[10]? =some (.slice iy n7 hM)
 s4:L[11]? =some (.slice (some ⟨g8,0,none⟩) n8 p0)
 NK:x<n8
 tH:n8<=1000000
 NL:n7<=1000000
 bK:base<=W.heap.size
 bz:G<W.heap.size
 row:∀g,iy.map (·.block)=some g->g<W.heap.size/\g≠G
def Cg(W:World)(G:Nat)(L:List Value)(b:Option Addr)(w:World):Prop:=aC (vY W G (b.map (·.block))) W w/\∃v,aN w G sV (L.set 10 v)
def Ch(base G:Nat)(L:List Value)(b:Option Addr)(n7 c:Nat)(xs:List Int)(w:World):Prop:=w.ownsRow base 3 1 (.slice b n7 c) n7 (iY xs)/\aN w G sV L
theorem NM(W:World)(base G:Nat)(L:List Value)(o:Option Addr)(n7 q g8 n8 X x:Nat)(i:Int)(xs:List Int)(C:Hv W base G L o n7 q g8 n8 X x i xs):
  uj t_ [some 62,some 63,some 64,some 65,some 66,some 67,some 68,some 69,some 70,some 71,some 72,some 73,some 74,some 75,some 76,some 77,none,some 78,none] [[],[],[1],[2],[3],[],[],[6],[7],[8],[],[10],[9,11],[],[0,0,4,6,7,8,9,10,11,12],[14,0,4,6,7,8,9,10,11,12],[15,12,12,0,4,6,7,8,9,10,11,12],[4,5,0,1,2,3,4,5,6,7,8,9,10,11,12,13,14,15,16],[17,13,16,0,1,2,3,4,5,6,7,8,9,10,11,12,13,14,15,16]] [(3,.pointer (some ⟨G,0,none⟩)),(5,.int .i64 (x:Int)),(4,.int .i64 i)] (Cg W G L o) (zc W base G L o n7 q g8 n8 X x i xs) Hu (Ch base G L o n7 q xs) 12 0 ((rj Tryz.f98 5).take 18):=by
 have af:=zc.mono W base G L o n7 q g8 n8 X x i xs;have ag:∀w w':World,Below w.heap.size w w'->Ch base G L o n7 q xs w->Ch base G L o n7 q xs w':=λ w w' p h=>⟨nc h.1 p,h.2.below p⟩
 have ah:∀w w':World,Cg W G L o w->Below w.heap.size w w'->Cg W G L o w':=λ w w' f p=>⟨vY.drop f.1 p,f.2.imp λ v h=>h.below p⟩
 refine⟨?_,?_,?_,?_,?_,?_,?_,?_,?_,?_,?_,?_,?_,?_,?_,?_,?_,?_,trivial⟩
 ·intro vals w j f m d l hp;have y:j (.tmp 3)=_:=l.1 rfl;simp only[bq,execOp,y];simp[cF,go_sem];exact .same f rfl
 ·intro vals w j f m d l hp;have y:j (.tmp 3)=_:=l.1 rfl;simp only[bq,execOp,y];simp[cF,go_sem];exact .same f rfl
 ·intro vals w j f m d l hp;obtain⟨⟨f1,B⟩,-⟩:=(⟨d.1 rfl,d.2⟩:_/\_)
  have B:j (.tmp 63)=vals 1:=B _ rfl;have f1:vals 1=_:=f1 (y_ rfl);rw[f1] at B;simp only[bq,execOp,B];simp[cF,go_sem];exact .same f rfl
 ·intro vals w j f m d l hp;obtain⟨⟨f2,D⟩,-⟩:=(⟨d.1 rfl,d.2⟩:_/\_)
  have D:j (.tmp 64)=vals 2:=D _ rfl;have f2:vals 2=_:=f2 (y_ rfl);rw[f2] at D;simp only[bq,execOp,D];simp[cF,go_sem];exact .same f rfl
 ·intro vals w j f m d l hp;obtain⟨⟨f3,E⟩,-⟩:=(⟨d.1 rfl,d.2⟩:_/\_)
  have E:j (.tmp 65)=vals 3:=E _ rfl;have f3:vals 3=_:=f3 (y_ rfl);rw[f3] at E;obtain⟨v0,ai⟩:=f.2;have z:=ai.cell 11;rw[List.getElem?_set_ne (by decide),C.s4] at z;simp only[bq,execOp,E];simp[cF,go_sem,z];exact .same f rfl
 ·intro vals w j f m d l hp;have Y:j (.tmp 5)=_:=l.2.1 rfl;simp only[bq,execOp,Y];simp[cF,go_sem];exact .same f rfl
 ·intro vals w j f m d l hp;have y:j (.tmp 3)=_:=l.1 rfl;simp only[bq,execOp,y];simp[cF,go_sem];exact .same f rfl
 ·intro vals w j f m d l hp;obtain⟨⟨f6,F⟩,-⟩:=(⟨d.1 rfl,d.2⟩:_/\_)
  have F:j (.tmp 68)=vals 6:=F _ rfl;have f6:vals 6=_:=f6 (y_ rfl);rw[f6] at F;simp only[bq,execOp,F];simp[cF,go_sem];exact .same f rfl
 ·intro vals w j f m d l hp;obtain⟨⟨f7,H⟩,-⟩:=(⟨d.1 rfl,d.2⟩:_/\_)
  have H:j (.tmp 69)=vals 7:=H _ rfl;have f7:vals 7=_:=f7 (y_ rfl);rw[f7] at H;simp only[bq,execOp,H];simp[cF,go_sem];exact .same f rfl
 ·intro vals w j f m d l hp;obtain⟨⟨f8,I⟩,-⟩:=(⟨d.1 rfl,d.2⟩:_/\_)
  have I:j (.tmp 70)=vals 8:=I _ rfl;have f8:vals 8=_:=f8 (y_ rfl);rw[f8] at I;have z:=(m (y_ rfl)).2.cell 10;rw[C.l10] at z;simp only[bq,execOp,I];simp[cF,go_sem,z];exact .same f rfl
 ·intro vals w j f m d l hp;have Y:j (.tmp 5)=_:=l.2.1 rfl;simp only[bq,execOp,Y];simp[cF,go_sem];exact .same f rfl
 ·intro vals w j f m d l hp;obtain⟨⟨f10,J⟩,-⟩:=(⟨d.1 rfl,d.2⟩:_/\_)
  have J:j (.tmp 72)=vals 10:=J _ rfl;have f10:vals 10=_:=f10 (y_ rfl);rw[f10] at J;simp only[bq,execOp,r_,m_,i_,J];simp[cF,go_sem];exact .more af ag (bB w _) (ah w _ f (bB w _)) ⟨w.heap.size,rfl,f.1.size,aS.lit w [(x:Int)] 1 _ rfl rfl (by omega)⟩
 ·intro vals w j f m d l hp;obtain⟨⟨f9,K⟩,⟨f11,M⟩,-⟩:=(⟨d.1 rfl,d.2.1 rfl,d.2.2⟩:_/\_/\_)
  have K:j (.tmp 71)=vals 9:=K _ rfl;have M:j (.tmp 73)=vals 11:=M _ rfl;have f9:vals 9=_:=f9 (y_ rfl);obtain⟨b,f11,r,t⟩:∃b,vals 11=.slice (some ⟨b,0,none⟩) 1 1/\W.heap.size<=b/\aS w (some ⟨b,0,none⟩) 1 1 [(x:Int)]:=f11 (y_ rfl);rw[f9] at K;rw[f11] at M;have ar:=C.NL;obtain⟨i1,i2⟩:=m (Or.inr rfl);obtain⟨v',w',g1,g2⟩:=CD w 25 base (.slice o n7 q) n7 xs i1 (some ⟨b,0,none⟩) 1 1 [(x:Int)] t (by omega) (Zo C.bK f.1.size);simp only[bq,execOp,resolve,invoke,builtin,o_,n_,v_,r_,m_,i_,K,M,g1,cF];obtain⟨h',aj,au⟩:=ax.lG g2.1;subst aj;have ad:(b_ o n7 q).ownBlock=o.map (·.block):=ax.own ⟨o,n7,q⟩;have A:=g2.2.1;rw[ad] at A;have c:aN w' G sV L:=i2.kept A (λ e=>(C.row G e.symm).2 rfl);refine⟨⟨f.1.trans (aC.grown A (λ b p=>h_ p.1 f.1.size) (λ b e hk=>hk.2.2 e)),.slice o n7 q,by rw[Ht C.l10];exact c⟩,⟨h',rfl,g2.1,?_,c⟩,λ k u hk _ s _ c=>?_,λ h _=>absurd rfl h⟩
  ·rcases g2.2.2 with Z|Z
   ·left;rw[<-ax.own,Z,ad]
   ·right;intro g e;rw[<-ax.own,Z] at e;injection e with e
    have:=f.1.size;omega
  ·match k,c,hk,s with
   |0,c,_,_=>exact c
   |1,c,_,_=>exact c
   |2,c,_,_=>exact c
   |3,c,_,_=>exact c
   |4,c,_,_=>exact c
   |5,c,_,_=>exact c
   |6,c,_,_=>exact c
   |7,c,_,_=>exact c
   |8,c,_,_=>exact c
   |9,c,_,_=>exact c
   |10,c,_,_=>exact c
   |11,c,_,_=>obtain⟨b,aa,ab,N⟩:=c;exact⟨b,aa,ab,N.Hs (W:=W) A.size (A.block b (by obtain⟨av,off,e,h1,r⟩:=N.cells (by omega);injection e with e;injection e with e;omega) (λ e=>by have:=(C.row b e.symm).1;omega))⟩
   |12,c,hk,_=>exact absurd rfl hk
   |13,c,_,_=>exact c
   |14,c,_,_=>exact c
   |15,c,_,_=>exact c
   |16,c,_,s=>exact absurd s (by decide)
   |17,c,_,_=>exact c
   |n+18,c,_,_=>trivial
 ·intro vals w j f m d l hp;have ak:j (.tmp 4)=_:=l.2.2.1 rfl;simp only[bq,execOp,ak];simp[cF,go_sem];exact .same f rfl
 ·intro vals w j f m d l hp;obtain⟨⟨f0,O⟩,-⟩:=(⟨d.1 rfl,d.2⟩:_/\_)
  have O:j (.tmp 62)=vals 0:=O _ rfl;have f0:vals 0=_:=f0 (y_ rfl);rw[f0] at O;simp only[bq,execOp,O];simp[cF,go_sem];exact .same f rfl
 ·intro vals w j f m d l hp;obtain⟨⟨f14,P⟩,-⟩:=(⟨d.1 rfl,d.2⟩:_/\_)
  have P:j (.tmp 76)=vals 14:=P _ rfl;have f14:vals 14=_:=f14 (y_ rfl);rw[f14] at P;simp only[bq,execOp,P];simp[cF,go_sem];exact .same f rfl
 ·intro vals w j f m d l hp;obtain⟨⟨f15,Q⟩,⟨f12,R⟩,-⟩:=(⟨d.1 rfl,d.2.1 rfl,d.2.2⟩:_/\_/\_)
  have Q:j (.tmp 77)=vals 15:=Q _ rfl;have R:j (.tmp 74)=vals 12:=R _ rfl;have f15:vals 15=_:=f15 (y_ rfl);obtain⟨⟨S,j3,T⟩,f12,h1,r,t⟩:∃h:ax,vals 12=h.v/\w.ownsRow base 3 1 h.v (n7+1) (iY (xs++[(x:Int)]))/\(h.b=o.map (·.block)\/∀g,h.b=some g->W.heap.size<=g)/\aN w G sV L:=f12 (Or.inr rfl);replace f12:vals 12=.slice S j3 T:=f12;rw[f15] at Q;rw[f12] at R;have ae:=t.cell 10;rw[C.l10] at ae;have al:=t.free 10;simp only[bq,execOp,Q,R];simp[cF,go_sem,ae,al];have aw:=C.bz;have an:=kZ w G 10 (.slice S j3 T);refine⟨⟨f.1.trans (aC.set G 10 _ (λ hk=>hk.2.1 rfl)),.slice S j3 T,t.set 10 _⟩,⟨⟨S,j3,T⟩,pL h1 (λ b p=>?_),r,t.set 10 _⟩,λ k u hk d s _ c=>?_,λ _ s _=>absurd s (by decide)⟩
  ·refine Below.heap_setCell _ _ _ _ (λ e=>?_);have e:G=b:=e.symm;subst e;rw[ax.own] at p;rcases r with r|r
   ·rw[r] at p;exact(C.row _ p).2 rfl
   ·have:=r _ p;omega
  ·match k,c,hk,d,s with
   |0,c,_,_,_=>exact c
   |1,c,_,_,_=>exact c
   |2,c,_,_,_=>exact c
   |3,c,_,_,_=>exact c
   |4,c,_,_,_=>exact c
   |5,c,_,_,_=>exact c
   |6,c,_,_,_=>exact c
   |7,c,_,_,_=>exact c
   |8,c,_,_,_=>exact c
   |9,c,_,_,_=>exact c
   |10,c,_,_,_=>exact c
   |11,c,_,_,_=>obtain⟨b,aa,ab,N⟩:=c;exact⟨b,aa,ab,N.Hs (W:=W) an.size (Below.heap_setCell _ _ _ _ (show b≠G by omega))⟩
   |12,c,_,d,_=>exact absurd rfl d
   |13,c,_,_,_=>exact c
   |14,c,_,_,_=>exact c
   |15,c,_,_,_=>exact c
   |16,c,hk,_,_=>exact absurd rfl hk
   |17,c,_,_,_=>exact c
   |n+18,c,_,_,_=>trivial
 ·intro vals w j f m d l hp;obtain⟨⟨f4,U⟩,⟨f5,V⟩,-⟩:=(⟨d.1 rfl,d.2.1 rfl,d.2.2⟩:_/\_/\_)
  have U:j (.tmp 66)=vals 4:=U _ rfl;have f4:vals 4=_:=f4 (y_ rfl);rw[f4] at U;have V:j (.tmp 67)=vals 5:=V _ rfl;have f5:vals 5=_:=f5 (y_ rfl);rw[f5] at V;have ao:(x:Int)<(n8:Int):=by have:=C.NK;omega
  have aq:(0:Int)<=x:=by omega
  simp only[bq,execOp,U,V];simp[cF,go_sem,ao,aq];exact .same f rfl
theorem aX.NN{s:an}(h:aX K base W G hs cb s){h':ax}{x:Int}
  (f:aC (vY W G (hs 7).b) W w) (i:aN w G sV ((q6 hs s).set 10 h'.v)) (j:w.ownsRow base 3 1 h'.v (s.ord.length+1) (iY (s.ord++[x]))) (c:h'.b=(hs 7).b\/∀g,h'.b=some g->W.heap.size<=g):
  aX K base w G (iN hs 7 h') cb (s.vi x)/\aC K W w:=by
 have k:=vX j;have l:w.ownsRow base (qP 7) (nD 7) h'.v h'.n (iY (s.ord++[x])):=by rw[k];exact j
 have m:=h.e.NJ (r:=7) f i l c;refine⟨⟨m.eq rfl rfl rfl (λ d _=>(vJ hs s (by omega) _ d).symm) rfl (λ r=>?_),(h.s.iT (r:=7) (h':=h') (λ g e hk=>?_)).more f.size⟩,f.mono (λ b i=>⟨h.s.lt b i,λ e=>h.s.g (e▸i),λ e=>h.s.row 7 b e i⟩)⟩
 ·rw[vI hs cb _ (by omega)]
  by_cases e:r=7
  ·subst e;rw[jG];rfl
  ·rw[bh _ _ e];simp only[cont,if_neg e,an.vi]
 ·rcases c with c|c
  ·exact h.s.row 7 g (c▸e) hk
  ·have:=c g e;have:=h.s.lt g hk;omega
def qX(n:Nat)(act:List Int)(b:Int)(c:List Bool)(d:List nv)(e:ax)(ord:List Int)(k:Nat):an:=
 {qt n act b c d e with ord:=ord.take k,pl:=ux n ord k}
theorem NO(n:Nat)(act:List Int)(b:Int)(c:List Bool)(d:List nv)(e:ax)(ord:List Int)(k:Nat)(hk:k<ord.length):((qX n act b c d e ord k).vi (aj ord k)).pJ (aj ord k).toNat (k:Int)=qX n act b c d e ord (k+1):=by
 unfold qX;rw[B8,ym ord k hk];rfl
end
section
theorem oR.take{c:Core}(h:oR c)(l:List Int)(b:Bool):oR (o8 c l b):=by
 unfold o8;have e:oR (kn c l):=h.new l;have g:∀c':Core,oR c'->oR (wE c'):=λ c' h=>h
 split
 ·exact h
 ·split
  ·exact g _ h
  ·split
   ·split
    ·exact g _ e
    ·split
     ·refine e.set _ λ d f=>?_
      injection f with f
      subst f;show c.cl.length<(c.cl++[l]).length;simp
     ·exact e
   ·exact e
theorem Hw(s:an)(l:List Int)(b:Bool)(x:rZ):s.c.cl.length<=(s.oy l b x).c.cl.length/\(s.oy l b x).c.cl.length<=s.c.cl.length+1:=by
 have e:(s.oy l b x).c.cl=if b=true\/l.length=0 then s.c.cl else s.c.cl++[l]:=Bd _ _ _
 rw[e];split
 ·omega
 ·simp
theorem vT.oy{F Fd:List (List Int)}{n:Nat}{s:an}(h:vT s){l:List Int}{b:Bool}{x:rZ}(H:yI F Fd n (s.oy l b x)):vT (s.oy l b x):=
 ⟨oR.take h.qD l b,λ k d c=>(H.gP.wt.qN k d c).1,λ d c=>h_ (h.wl d c) (Hw s l b x).1⟩
theorem rD.mem{F:List (List Int)}{g:List Int}(h:g∈F):rD F g:=λ M b=>b.2 g h
theorem NP{a b:List Int}(c:n<=65536)(d:∀x∈a,gW n x)(e:∀x∈b,gW n x)(h:xU (kY a) (kY b)):xU a b:=λ x=>by
 rw[<-B9 c d,<-B9 c e];exact h x
structure th(n:Nat)(s:kf)(jr:ax)(j k:Nat)(S:an):Prop where
 l9:yI s.gs (s.gs.take j++(s.es.take k).map (·.r.ah)) n S
 cb:vT S
 act:S.act=s.act
 aZ:S.aZ=s.aZ
 ord:S.ord=s.ord
 pl:S.pl=ux n s.ord n
 gN:S.gN=s.gN
 aA:S.aA=s.aA.map nK
 aP:S.aP=z_ (n+1) false
 nl:S.nl=[]
 jr:S.jr=some jr
 kX:S.aO.length=k
 Hx:S.aO.map (az S.c.cl)=(s.es.take k).map λ e=>kY e.r.ah
 vV:S.c.cl.length<=j+k
theorem th.init{n:Nat}{s:kf}{jr:ax}(O:oB n s):th n s jr 0 0 (qX n s.act s.aZ s.gN (s.aA.map nK) jr s.ord n):=by
 have c:∀v,aj (z_ (n+1) 0) v=0:=zT _;refine⟨⟨?_,rfl,rfl,rfl,c 0,rfl,λ d=>?_⟩,⟨λ v d b=>?_,λ k d b=>?_,λ d b=>(by cases b)⟩,rfl,rfl,?_,rfl,rfl,rfl,rfl,rfl,rfl,rfl,rfl,g_ _⟩
 ·exact j7.init s.gs n
 ·show 0<=(([]:List rZ).getD d ⟨false,0,0⟩).ac/\_;have e:∀d,lF (qX n s.act s.aZ s.gN (s.aA.map nK) jr s.ord n) d=⟨false,0,0⟩:=λ d=>by
   show([]:List rZ).getD d ⟨false,0,0⟩=_;rfl
  rw[e];unfold jw;exact⟨Zu _,by decide,Zu _,by decide⟩
 ·have:mo (z_ (n+1) none) v=none:=by
   unfold mo;rw[List.getD_eq_getElem?_getD,List.getElem?_replicate];split<;>rfl
  have b:mo (z_ (n+1) none) v=some d:=b;rw[this] at b;cases b
 ·have b:d∈az (z_ (2*n+2) []) k:=b;rw[Bl] at b;cases b
 ·show s.ord.take n=s.ord;exact p_ (by rw[O.hk.pN];exact g_ _)
theorem th.given(H:th n s jr j 0 S)(O:oB n s)(c:n<=65536)(b:j<s.gs.length):th n s jr (j+1) 0 (S.oy (kY (mb s.gs j)) (se (kY (mb s.gs j))) ⟨false,0,0⟩):=by
 have hm:mb s.gs j∈s.gs:=Cz b;have h1:=H.l9.take (G1 c (O.bz _ hm) (rD.mem hm)) (x:=⟨false,0,0⟩) (by unfold jw;exact⟨Zu _,by decide,Zu _,by decide⟩);have e:s.gs.take j++(s.es.take 0).map (·.r.ah)++[mb s.gs j]=s.gs.take (j+1)++(s.es.take 0).map (·.r.ah):=by
  rw[Ey _ _ b];simp
 rw[e] at h1;refine⟨h1,H.cb.oy h1,H.act,H.aZ,H.ord,H.pl,H.gN,H.aA,H.aP,H.nl,H.jr,H.kX,?_,by have:=(Hw S (kY (mb s.gs j)) (se (kY (mb s.gs j))) ⟨false,0,0⟩).2;have:=H.vV;omega⟩;have d:S.aO=[]:=c_ H.kX;show S.aO.map _=_;rw[d];rfl
theorem th.NQ(H:th n s jr j k S)(O:oB n s)(g:n<=65536)(hk:k<s.es.length):th n s jr j (k+1) ((S.uO S.c.cl.length).oy (kY s.es[k].r.ah) (se (kY s.es[k].r.ah)) ⟨true,s.es[k].bg,s.es[k].ac⟩):=by
 have hm:s.es[k]∈s.es:=List.getElem_mem hk;obtain⟨ok,bg,ac⟩:=O.xm _ hm;obtain⟨i,l⟩:=Nh g ok;have m:yI s.gs (s.gs.take j++(s.es.take k).map (·.r.ah)) n (S.uO S.c.cl.length):=⟨H.l9.gP,H.l9.jt,H.l9.st,H.l9.ag,H.l9.v0,H.l9.nF,H.l9.pZ⟩
 have h1:=m.take (G1 g ok.lt (O.Hi _ hm)) (x:=⟨true,s.es[k].bg,s.es[k].ac⟩) ⟨ac.1,ac.2,bg.1,bg.2⟩;have e:s.gs.take j++(s.es.take k).map (·.r.ah)++[s.es[k].r.ah]=s.gs.take j++(s.es.take (k+1)).map (·.r.ah):=by
  rw[e_ hk,d_,List.append_assoc];rfl
 rw[e] at h1;have b:=J9 (S.uO S.c.cl.length) (kY s.es[k].r.ah) ⟨true,s.es[k].bg,s.es[k].ac⟩ l H.l9.nF;have hold:=λ d ag=>J8 (S.uO S.c.cl.length) (kY s.es[k].r.ah) false ⟨true,s.es[k].bg,s.es[k].ac⟩ (d:=d) ag H.l9.nF
 rw[i] at h1⊢;have o:vT ((S.uO S.c.cl.length).oy (kY s.es[k].r.ah) false ⟨true,s.es[k].bg,s.es[k].ac⟩):=by
  refine⟨oR.take H.cb.qD _ _,λ k d ag=>(h1.gP.wt.qN k d ag).1,λ d ag=>?_⟩;have ag:d∈S.aO++[S.c.cl.length]:=ag;have p:((S.uO S.c.cl.length).oy (kY s.es[k].r.ah) false ⟨true,s.es[k].bg,s.es[k].ac⟩).c.cl.length=S.c.cl.length+1:=b.1;rcases k_.1 ag with f|f
  ·have:=H.cb.wl d f;omega
  ·rw[List.mem_singleton.1 f];omega
 refine⟨h1,o,H.act,H.aZ,H.ord,H.pl,H.gN,H.aA,H.aP,H.nl,H.jr,?_,?_,?_⟩
 ·show(S.aO++[S.c.cl.length]).length=_;rw[List.length_append,H.kX];rfl
 ·show(S.aO++[S.c.cl.length]).map _=_;rw[d_,e_ hk,d_,<-H.Hx]
  congr 1
  ·refine List.map_congr_left λ d ag=>?_
   exact(hold d (H.cb.wl d ag)).1
  ·show [az _ S.c.cl.length]=[kY s.es[k].r.ah]
   rw[show az ((S.uO S.c.cl.length).oy (kY s.es[k].r.ah) false ⟨true,s.es[k].bg,s.es[k].ac⟩).c.cl S.c.cl.length=kY s.es[k].r.ah from b.2.1]
 ·have p:((S.uO S.c.cl.length).oy (kY s.es[k].r.ah) false ⟨true,s.es[k].bg,s.es[k].ac⟩).c.cl.length=S.c.cl.length+1:=b.1;have:=H.vV;omega
theorem th.jZ(H:th n s jr s.gs.length s.es.length S)(O:oB n s)(k:n<=65536)(e:List Int):mm s.gs e n s.es.length S 0 S.c.ag:=by
 have T:=H.l9.gP.aL;have f:=H.l9.st;have hk:=O.hk;rw[H.l9.ag];refine⟨⟨T,⟨H.l9.gP.jF.mB,H.l9.gP.jF.imp,λ g m=>H.l9.gP.jF.tA g (by rw[p_ (g_ _)];exact k_.2 (.inl m)),H.l9.gP.jF.tB,H.l9.gP.jF.tC⟩,H.l9.gP.wt,H.l9.gP.rG,H.l9.gP.rH,H.l9.gP.cur,H.l9.gP.hle⟩,?_,nr.low T f e,qg.zero f,λ v h1 i j=>?_,H.aP,?_,H.kX,λ l hl=>?_,H.l9.v0,H.cb.qD⟩
 ·refine⟨H.l9.jt,?_,by rw[H.act];exact hk.k5,λ v=>by rw[H.act];exact hk.qf v,by rw[H.act];exact hk.a0,by rw[H.aZ];exact hk.jV.1,by rw[H.aZ];exact hk.jV.2,by rw[H.gN];exact O.nE,by rw[H.gN];exact O.oS,H.l9.nF,λ d=>?_,H.cb.wl⟩
  ·rw[H.ord,H.pl];exact hk.lR
  ·have:=H.l9.pZ d;refine⟨this.1,?_,this.2.2.1,this.2.2.2⟩;have q:=this.2.1;unfold jw at*;omega
 ·rw[H.pl];exact DU _ _ _ _
 ·rw[H.Hx,p_ (g_ _)];have h1:=O.D2;rw[List.pairwise_map] at h1⊢;refine(List.Pairwise.and_mem.1 h1).imp ?_;rintro a b ⟨o,p,i⟩ j;exact i (NP k (O.xm a o).1.lt (O.xm b p).1.lt j)
 ·rw[H.nl] at hl;cases hl
end
section
open Go.RowKit Go.Shelf
theorem oa.in(g:oa w A bw c es)(l:Below w.heap.size w W)(m:∀b,A.map (·.block)=some b->0<bw->K b)(n:S.jr=some ⟨A,bw,bw⟩)(k:S.aA=es.map nK)(t:A=none->bw=0)(o:A≠none->∃b off,A=some ⟨b,off,none⟩):oM K W S:=by
 intro h i;rw[n] at i;injection i with i
 subst i;refine⟨by rw[k,j_];exact g.len.symm,rfl,?_⟩;rcases a_ bw with d|d
 ·rcases Classical.em (A=none) with e|e
  ·exact .inl ⟨e,d⟩
  ·obtain⟨b,off,he⟩:=o e;refine .inr ⟨b,off,he,λ h=>by have h:0<bw:=h;omega,λ j u f=>?_⟩;have:es=[]:=c_ (by rw[g.len];exact d);rw[k,this] at f;simp[mg] at f
 ·obtain⟨b,off,e,q,r⟩:=g.cells d;refine .inr ⟨b,off,e,λ d=>m b (by rw[e];rfl) d,λ j u f=>?_⟩;rw[k,Hj] at f;have s:j<bw*2:=by
   have:=(Zw.1 f).1;rw[yd,g.len] at this;exact this
  exact(l.cell (p:=⟨b,off+j,none⟩) q).trans ((r j s).trans f)
theorem oa.lines(f:oa w A bw c es)(g:Below w.heap.size w W)(i:∀e∈es,∀b,e.r.A.map (·.block)=some b->0<e.r.n->K b)(d:∀p∈es,(p.lH=1\/p.lH=2\/p.lH=3)/\∀x∈p.r.ah,gW n x):∀p∈es.map nK,qm K W n p:=by
 intro p hp;obtain⟨e,he,rfl⟩:=List.mem_map.1 hp;have j:=f.rows e he;exact⟨(d e he).1,⟨e.r.ah,j.below g,(d e he).2⟩,λ b k l=>i e he b k l⟩
def yf(w W:World)(A:Option Addr)(b c:Nat)(es:List ny):Prop:=(b=c\/W.ownsRow w.heap.size 126 2 (.slice A b c) b (mP es))/\(A=none->b=0/\c=0)
structure Ay(w:World)(s:kf)(ia:Option Addr)(cl:Nat)(A:Option Addr)(c:Nat)(A':Option Addr)(c':Nat)(fM:Option Addr)(bD:Nat):Prop where
 es:rR w ia s.es.length cl s.es
 act:aS w A s.act.length c s.act
 ord:aS w A' s.ord.length c' s.ord
 gN:kE w fM s.gN.length bD s.gN
 rows:∀e∈s.aA,aS w e.r.A e.r.n e.r.c e.r.ah
def Ci(nB:Nat->Prop)(c:Option Addr)(d e b:Nat):Prop:=nB b/\(d≠e->c.map (·.block)≠some b)
theorem Hy{gO:Option Addr}{gT:Nat}(P:oM K W S)(c:nL hs S=.slice gO bw gT)(g:bw≠gT):(hs 11).b=gO.map (·.block):=by
 have d:(hs 11).v=.slice gO bw gT:=by
  rw[<-c];unfold nL
  cases e:S.jr with
  |none=>rfl
  |some h=>
   exfalso;obtain⟨h1,i,_⟩:=P h e;have f:nL hs S=h.v:=by unfold nL;rw[e]
   rw[f] at c;unfold ax.v at c;injection c with d1 d2 d3
   omega
 unfold ax.v at d;injection d with d1
 unfold ax.b;rw[d1]
theorem NR{nB:Nat->Prop}{kg:World}{ai:List Int}{fL aB h:Nat}{aM:Option Addr}{aF:Nat}{es:List mJ}{iy:Option Addr}{hM:Nat}
  (al:∀W,aC nB kg W->∀e∈s.aA,aS W e.r.A e.r.n e.r.c e.r.ah) (O:oB n s) (y:n<=10) (ao:w.heap.size<=base) (E:∀W,aC nB kg W->aX K base W G hs cb S) (j:mm s.gs ai n fL S aB h) (Y:∀W,aC nB kg W->rR W A es.length c es) (Z:es.length=S.aO.length) (M:∀(i:Nat)(h:i<es.length),B3 S i es[i]) (aa:∀W,aC nB kg W->aS W iy n hM ((o5 S.act (nJ n)).map (·.1)))
  (aq:∀r b,(hs r).b=some b->nB b) (ab:∀q,(hs 11).b=some q->∀W,aC (λ b=>nB b/\b≠q) kg W->rR W A es.length c es/\aS W iy n hM ((o5 S.act (nJ n)).map (·.1))) (ar:∀p∈S.aA,∀b,p.h.b=some b->0<p.h.n->∀r,(hs r).b≠some b)
  (P:∀W,aC nB kg W->oM K W S) (L:∀p∈S.aA,qm nB kg n p) (au:s.aA.map nK<+:S.aA) (aN:S.aA.length<=1099511627776) (av:fL=s.es.length):
  ∃(s':kf)(N:Option Addr)(Q:Nat)(R:Option Addr)(T:Nat)(k:Option Addr)(m:Nat),(hs 6).v=.slice N (n+1) Q/\(hs 9).v=.slice R (n+1) T/\nL hs S=.slice k s'.aA.length m/\s'.aZ=S.aZ/\s'.es=es/\s'.gs=s.gs/\oB n s'/\s'.es.length=s.es.length+aB/\s.aA<+:s'.aA/\s'.aA.length=S.aA.length/\(k≠none->∃b off,k=some ⟨b,off,none⟩)/\(∀W,aC nB kg W->(kD W aM s.gs.length aF s.gs->qs W s' aM aF A c N Q iy hM R T k m)/\yf w W k s'.aA.length m s'.aA)/\
   ∀W,aC (Ci nB k s'.aA.length m) kg W->Ay W s' A c N Q iy hM R T:=by
 obtain⟨rest,ad⟩:=au;obtain⟨l,aw,o⟩:=Hl (K:=nB) (w:=kg) (n:=n) rest (λ p hp=>L p (by rw[<-ad];exact k_.2 (.inr hp)));have z:(s.aA++l).map nK=S.aA:=by rw[d_,aw,ad]
 have hlen:(s.aA++l).length=S.aA.length:=by rw[<-z,j_]
 have F:∀W,aC nB kg W->∀e∈s.aA++l,aS W e.r.A e.r.n e.r.c e.r.ah:=λ W d e he=>by
  rcases k_.1 he with h1|h1
  ·exact al W d e h1
  ·exact(o e h1).2.iR d (λ b g y=>(L (nK e) (by rw[<-z];exact List.mem_map_of_mem he)).blk b g y)
 obtain⟨k,m,U,_,_,_,ay⟩:=(E kg aC.refl).Ho (P kg aC.refl) z (F kg aC.refl) (by omega);have ae:∀W,aC nB kg W->oa W k (s.aA++l).length m (s.aA++l)/\yf w W k (s.aA++l).length m (s.aA++l):=λ W d=>by
  obtain⟨aP,aQ,af,aD,aE,aG,_⟩:=(E W d).Ho (P W d) z (F W d) (by omega);rw[U] at af;injection af with d1 d2 d3
  subst d1 d3;exact⟨aD,⟨aE.imp id (λ h=>yD h ao),aG⟩⟩
 have V:=E kg aC.refl;have t:=j.rg.k5;obtain⟨a1,_⟩:=V.G9 (by omega);have a2:=λ W d=>((E W d).G9 (by omega)).2
 have u:=j.rg.nE;obtain⟨ag,_⟩:=V.He (by omega);have H:=λ W d=>((E W d).He (by omega)).2
 rw[t] at a1;simp only[t] at a2;rw[u] at ag;simp only[u] at H;have aH:S.c.n=n:=j.rg.jt;have I:sK n S.act ((o5 S.act (nJ n)).map (·.1)) S.aZ:=sK.sorted t j.rg.a0 j.rg.qf ⟨j.rg.ru,j.rg.oH⟩ (by omega);have aI:es.map (·.r.ah)=S.aO.map (az S.c.cl):=by
  refine List.ext_getElem (by rw[j_,j_,Z]) λ i h1 J=>?_
  rw[j_] at h1 J;rw[Zv,Zv,(M i h1).1,vf J]
 have aj:∀i (h:i<es.length),gV S.aO i<S.c.cl.length:=λ i h=>j.rg.kX _ (by rw[vf (by omega)];exact List.getElem_mem _)
 refine⟨⟨n,s.gs,es,S.act,(o5 S.act (nJ n)).map (·.1),S.aZ,S.gN,s.aA++l⟩,_,_,_,_,k,m,a1,ag,U,rfl,rfl,rfl,⟨rfl,O.g1,O.bz,I,u,j.rg.oS,λ e he=>?_,λ e he=>?_,?_,λ p hp=>?_⟩,by show es.length=_;rw[Z,j.pN,av],List.prefix_append _ _,hlen,ay,λ W d=>⟨λ aJ=>⟨aJ,Y W d,by show aS W _ S.act.length _ S.act;rw[t];exact a2 W d,by show aS W _ ((o5 S.act (nJ n)).map (·.1)).length _ _;rw[I.pN];exact aa W d,by show kE W _ S.gN.length _ S.gN;rw[u];exact H W d,(ae W d).1⟩,(ae W d).2⟩,λ W d=>?_⟩
 ·obtain⟨i,B,rfl⟩:=Zr.1 he;obtain⟨h1,J,aK⟩:=M i B;have C:=j.gP.jF.mB _ (aj i B);rw[aH] at C;have g:=j.rg.pZ (gV S.aO i);rw[h1,J,aK];refine⟨C,⟨g.2.2.1,g.2.2.2⟩,?_⟩;have aR:=g.1;unfold jw at*;omega
 ·obtain⟨i,B,rfl⟩:=Zr.1 he;rw[(M i B).1];exact j.gP.jF.imp _ (aj i B)
 ·show(es.map (·.r.ah)).Pairwise _;rw[aI];exact j.wR
 ·rcases k_.1 hp with h1|h1
  ·exact O.Cc p h1
  ·exact(o p h1).1
 ·have all:aC nB kg W->Ay W ⟨n,s.gs,es,S.act,(o5 S.act (nJ n)).map (·.1),S.aZ,S.gN,s.aA++l⟩ A c (hs 6).A (hs 6).c iy hM (hs 9).A (hs 9).c:=λ d=>
   ⟨Y W d,by show aS W _ S.act.length _ S.act;rw[t];exact a2 W d,by show aS W _ ((o5 S.act (nJ n)).map (·.1)).length _ _;rw[I.pN];exact aa W d,by show kE W _ S.gN.length _ S.gN;rw[u];exact H W d,F W d⟩
  by_cases C:(s.aA++l).length=m
  ·exact all (d.mono λ b g=>⟨g,λ h=>absurd C h⟩)
  ·have D:=Hy (P kg aC.refl) U C
   cases X:k.map (·.block) with
   |none=>exact all (d.mono λ b g=>⟨g,λ _ e=>by rw[X] at e;cases e⟩)
   |some q=>
    rw[X] at D;have f:aC (λ b=>nB b/\b≠q) kg W:=d.mono λ b g=>⟨g.1,λ _ e=>by rw[X] at e;injection e with e;exact g.2 e.symm⟩
    have ak:∀r,r≠11->∀b,(hs r).b=some b->nB b/\b≠q:=λ r aL b e=>⟨aq r b e,λ o=>V.e.rows.apart r 11 b aL e (by rw[D,o])⟩
    refine⟨(ab q D W f).1,?_,?_,?_,λ e he=>?_⟩
    ·show aS W _ S.act.length _ S.act;rw[t];exact(a2 kg aC.refl).iR f (λ b e _=>ak 6 (by decide) b e)
    ·show aS W _ ((o5 S.act (nJ n)).map (·.1)).length _ _;rw[I.pN];exact(ab q D W f).2
    ·show kE W _ S.gN.length _ S.gN;rw[u];exact(H kg aC.refl).iR f (λ b e=>ak 9 (by decide) b e)
    ·have hm:nK e∈S.aA:=by rw[<-z];exact List.mem_map_of_mem he
     exact(F kg aC.refl e he).iR f (λ b g y=>⟨(L (nK e) hm).blk b g y,λ o=>ar (nK e) hm b g y 11 (by rw[D,o])⟩)
end
end Go.Proofs.YtogdlkfacflmaaaGreat
