/- Parts of the walk of the solver and its core; no condition. -/
import Derived.Orders
import Derived.Below
import Derived.Test.YtogdlkfacflmaaaGreatZQ1
import Derived.BigRegion
import Derived.OwnWalkIn
import Derived.TacticsInMore
import Derived.LoopNIn
import Derived.LoopIn
namespace Go.Proofs.YtogdlkfacflmaaaGreat
set_option linter.unusedVariables false
set_option linter.unusedSimpArgs false
set_option maxRecDepth 100000
set_option maxHeartbeats 4000000
open _root_.And renaming intro→z_
open _root_.Array renaming getD_eq_getD_getElem?→y_,getElem?_eq_getElem→u_,all_eq_true_iff_forall_mem→t_,getElem?_setIfInBounds_self_of_lt→p_,getElem?_eq_some_iff→o_,getElem?_setIfInBounds_ne→i_,replicate→Zt,mem_of_getElem?→Zc,getElem?_eq_none→ZR,mem_toList_iff→ZM
open _root_.List renaming getD_eq_getElem?_getD→x_,length_set→v_,range→s_,length_append→q_,getElem?_map→m_,mem_range→k_,drop_eq_getElem_cons→j_,getElem?_eq_none→e_,length_singleton→d_,getElem?_eq_some_iff→c_,replicate→b_,mem_map→Zx,map_set→Zw,mem_filter→Zv,eq_nil_of_length_eq_zero→Zr,getElem?_toArray→Zq,mem_append_left→Zp,take_succ_cons→Zm,drop_succ_cons→Zl,getElem?_range→Zk,getElem?_eq_getElem→Zj,drop_zero→Zh,take_zero→Zg,all_eq_true→Zf,length_take→Ze,length_map→Z0,mem_cons→Z7,length_drop→ZY,length_eq_zero_iff→ZX,getElem?_replicate→ZW,getElem?_cons_zero→ZV,nodup_cons→ZS,length_filter_le→ZO,mem_cons_of_mem→ZL
open _root_.Go.Proofs.Tryz renaming prog→w_
open _root_.Nat renaming le_refl→r_,lt_or_ge→l_,add_sub_cancel→f_,lt_of_lt_of_le→Zu,eq_zero_or_pos→Zi,le_trans→Z3,zero_le→Z6
open _root_.Int renaming tdiv_eq_ediv_of_nonneg→n_,le_trans→Z5,tdiv→ZZ
open _root_.Go.Region renaming binds→h_,ready→a_,wanted→Z8
open _root_.Go.RowKit.Below renaming refl→g_
open _root_.Go renaming wp_region_still_tail→Zo,wpStill_nil→ZQ,wpQuiet_nil→ZP
open _root_.Go.IntKind renaming i64→Zn,wrap_i64→Zd
open _root_.Or renaming inl→Z4,inr→Z_
open _root_.Option renaming getD_some→Z9,map_some→ZT
open _root_.Bool renaming or_eq_true→ZU
open _root_.Iff renaming rfl→ZN
open _root_.Go.Value renaming int→ZK,slice→ZI
open _root_.Option.some renaming injEq→ZJ
variable{a:Act}{ops:Array Oper}{listed:Array Bool}{i n k base G g7 g8 gZ pz p bu m mQ:Nat}{ws:List (List Nat)}{s s' s1:aj}{x y A B A' q4:Int}{hs:Nat->aq}{cb:Nat->Nat}{c:Core}{l ord pl:List Int}{K:Nat->Prop}{Q:Exit->Act->World->Prop}{W W':World}{hU Init:World->Prop}{dead:Nat->Option Nat}
section
open Go.RowKit
def pg(ops:Array Oper)(j:Nat):Option Tmp:=(ops[j]?).bind λ o:Oper=>o.dst
def j4(ops:Array Oper)(vals:Nat->Value)(L:Nat->Bool)(a:Act):Nat->Act
 |0=>a
 |k+1=>if L k=true then (j4 ops vals L a k).put (pg ops k) (vals k) else j4 ops vals L a k
def k6(vals:Nat->Value)(i:Nat)(v:Value):Nat->Value:=λ j=>if j=i then v else vals j
def k9(L:Nat->Bool)(i:Nat):Nat->Bool:=λ j=>if j=i then true else L j
theorem put_comm{d e:Option Tmp}{u v:Value}(h:∀s,d=some s->e≠some s):(a.put d u).put e v=(a.put e v).put d u:=by
 cases d with
 |none=>rfl
 |some d=>
  cases e with
  |none=>rfl
  |some e=>
   have b:d≠e:=λ x=>h d rfl (x▸rfl)
   simp only[Act.put];rw[Array.setIfInBounds_comm _ _ b]
section
variable {ops:Array Oper}{vals:Nat->Value}{L:Nat->Bool}{a:Act}{i:Nat}{v:Value}
theorem Fe:∀k,k<=i->j4 ops (k6 vals i v) (k9 L i) a k=j4 ops vals L a k
 |0,_=>rfl
 |k+1,hk=>by
  have b:k≠i:=by omega
  simp only[j4,Fe k (by omega)];have c:k9 L i k=L k:=by unfold k9;rw[if_neg b]
  have d:k6 vals i v k=vals k:=by unfold k6;rw[if_neg b]
  rw[c,d]
theorem Bm(d:∀j,j≠i->∀s,pg ops i=some s->pg ops j≠some s)(f:L i=false):∀k,i<k->
  (j4 ops vals L a k).put (pg ops i) v=j4 ops (k6 vals i v) (k9 L i) a k
 |0,h=>by omega
 |k+1,h=>by
  by_cases e:k=i
  ·subst e;simp only[j4];rw[Fe k (r_ _),f];have b:k9 L k k=true:=by unfold k9;rw[if_pos rfl]
   have c:k6 vals k v k=v:=by unfold k6;rw[if_pos rfl]
   rw[b,c];simp
  ·simp only[j4];have b:k9 L i k=L k:=by unfold k9;rw[if_neg e]
   have c:k6 vals i v k=vals k:=by unfold k6;rw[if_neg e]
   rw[b,c,<-Bm d f k (by omega)]
   by_cases hk:L k=true
   ·rw[if_pos hk,if_pos hk];exact put_comm λ s h1 g=>d k e s g h1
   ·rw[if_neg hk,if_neg hk]
theorem JK(a:Act)(d:Option Tmp)(v:Value):(a.put d v).tmps.size=a.tmps.size:=by
 cases d<;>simp[Act.put]
theorem Df:∀k,(j4 ops vals L a k).tmps.size=a.tmps.size
 |0=>rfl
 |k+1=>by
  simp only[j4];split
  ·rw[JK,Df k]
  ·exact Df k
theorem Ff{a:Act}{d:Option Tmp}{v:Value}{x:Operand}(h:∀s,d=some s->x≠ .tmp s):(a.put d v).eval x=a.eval x:=by
 cases d with
 |none=>rfl
 |some s=>
  cases x with
  |tmp t=>
   have b:s≠t:=λ e=>h s rfl (e▸rfl)
   simp only[Act.put,Act.eval];rw[y_,y_,i_ b]
  |const v=>rfl
  |global g=>rfl
  |func f=>rfl
theorem JL{a:Act}{s:Tmp}{v:Value}(h:s<a.tmps.size):(a.put (some s) v).eval (.tmp s)=v:=by
 simp only[Act.put,Act.eval];rw[y_,p_ h];rfl
theorem zS{x:Operand}(h:∀j s,L j=true->pg ops j=some s->x≠ .tmp s):∀k,(j4 ops vals L a k).eval x=a.eval x
 |0=>rfl
 |k+1=>by
  simp only[j4]
  by_cases hk:L k=true
  ·rw[if_pos hk,Ff (λ s=>h k s hk),zS h k]
  ·rw[if_neg hk];exact zS h k
theorem zT{j:Nat}{s:Tmp}(b:pg ops j=some s)(hs:s<a.tmps.size)(c:L j=true)(d:∀i,i≠j->pg ops i≠some s):∀k,j<k->(j4 ops vals L a k).eval (.tmp s)=vals j
 |0,h=>by omega
 |k+1,h=>by
  by_cases e:k=j
  ·subst e;simp only[j4];rw[if_pos c,b,JL (by rw[Df];exact hs)]
  ·simp only[j4];split
   ·rw[Ff (λ t g f=>d k e (by rw[g];injection f with f;rw[f]))];exact zT b hs c d k (by omega)
   ·exact zT b hs c d k (by omega)
end
def gF(P:Program)(post:Value->World->Prop):Result Next->Prop
 | .ok (.value v) w'=>post v w'
 | .ok .skip w'=>post undef w'
 | .ok (.enter f args) w'=>Calls P f args w' λ e b=>∃v,e=.returned v/\post v b
 |_=>False
def bn(P:Program)(b:Operand->Value)(o:Oper)(w:World)(post:Value->World->Prop):Prop:=gF P post ((execOp b o).run P w)
theorem bn.wp{P:Program}{o:Oper}{a:Act}{w:World}{post:Value->World->Prop}{K:Act->World->Prop}{Q:Exit->Act->World->Prop}(h:bn P a.eval o w post)(hk:∀v w',post v w'->K (a.put o.dst v) w'):o.wp P a w K Q:=by
 unfold bn at h;unfold Oper.wp;generalize (execOp a.eval o).run P w=r at*
 cases r with
 |ok n w'=>
  cases n<;>simp only[gF] at h<;>simp only[Oper.upon]
  case value u=>exact hk _ _ h
  case skip=>exact hk _ _ h
  case enter f args=>
   refine h.mono λ e b ⟨v,he,hp⟩=>?_
   subst he;exact hk _ _ hp
 |halt x w'=>simp only[gF] at h
def tS(ops:Array Oper):Bool:=(s_ ops.size).all λ i=>(s_ ops.size).all λ j=>j==i||match pg ops i with
 |some s=>pg ops j !=some s
 |none=>true
def rW(ops:Array Oper):Bool:=ops.all λ o=>o.guard.isNone
theorem yD(h:tS ops=true){i j:Nat}(e:j≠i){s:Tmp}(c:pg ops i=some s):pg ops j≠some s:=by
 intro d;have f:i<ops.size:=by
  cases b:ops[i]? with
  |none=>unfold pg at c;rw[b] at c;cases c
  |some o=>exact(o_.1 b).1
 have g:j<ops.size:=by
  cases b:ops[j]? with
  |none=>unfold pg at d;rw[b] at d;cases d
  |some o=>exact(o_.1 b).1
 unfold tS at h;simp only[Zf,k_] at h;have h1:=h i f j g;rw[c] at h1;simp only[ZU,beq_iff_eq,e,false_or,bne_iff_ne,ne_eq] at h1;exact h1 d
def ic(listed:Array Bool):Nat->Bool:=λ j=>listed.getD j false
theorem qm(h:i<listed.size):ic (listed.setIfInBounds i true)=k9 (ic listed) i:=by
 funext j;unfold ic k9
 by_cases e:j=i
 ·subst e;rw[if_pos rfl,y_,p_ h];rfl
 ·rw[if_neg e];show(listed.setIfInBounds i true).getD j false=listed.getD j false;rw[y_,y_,i_ (λ x=>e x.symm)]
def vS(G:Nat->Value->World->Prop)(dead:Nat->Option Nat)(L:Nat->Bool)(vals:Nat->Value)(w:World):Prop:=
 ∀j,L j=true->(∀c,dead j=some c->L c=false)->G j (vals j) w
def qn(ds:List (Option Tmp))(j:Nat):Option Tmp:=ds.getD j none
def sk(ds:List (Option Tmp))(G:Nat->Value->World->Prop)(dead:Nat->Option Nat)(i:Nat)(vals:Nat->Value)(w:World)(b:Operand->Value):List Edge->Prop
 |[]=>True
 |e::r=>(h_ .any e=true->((dead e.on=none\/dead e.on=some i)->G e.on (vals e.on) w)/\∀s,qn ds e.on=some s->b (.tmp s)=vals e.on)/\sk ds G dead i vals w b r
def qo(ws:List (List Nat))(j i:Nat):Bool:=(ws.getD j []).contains i
def qp(b:Operand->Value):List (Tmp×Value)->Prop
 |[]=>True
 |p::r=>b (.tmp p.1)=p.2/\qp b r
def yE(ds:List (Option Tmp))(ws:List (List Nat))(i:Nat)(s:Tmp):Bool:=(s_ ds.length).all λ j=>qn ds j !=some s||qo ws j i
def ry(ds:List (Option Tmp))(ws:List (List Nat))(i:Nat)(b:Operand->Value):List (Tmp×Value)->Prop
 |[]=>True
 |p::r=>(yE ds ws i p.1=true->b (.tmp p.1)=p.2)/\ry ds ws i b r
theorem ry.of{pN Fg:Operand->Value}{ds:List (Option Tmp)}{ws:List (List Nat)}{i:Nat}(he:∀s,yE ds ws i s=true->Fg (.tmp s)=pN (.tmp s)):∀{l:List (Tmp×Value)},qp pN l->ry ds ws i Fg l
 |[],_=>trivial
 |p::r,h=>⟨λ b=>(he _ b).trans h.1,ry.of he h.2⟩
theorem Dg{ds:List (Option Tmp)}{s:Tmp}(h:yE ds ws i s=true){j:Nat}(b:qn ds j=some s):qo ws j i=true:=by
 have c:j<ds.length:=by
  rcases l_ j ds.length with h1|h1
  ·exact h1
  ·unfold qn at b;rw[x_,e_ h1] at b;cases b
 unfold yE at h;rw[Zf] at h;have:=h j (k_.2 c);rw[b] at this;simpa using this
def rz(b:Operand->Value):Prop:=(∀v,b (.const v)=v)/\(∀g,b (.global g)=.pointer (some ⟨g,0,none⟩))/\∀f,b (.func f)=.func (.func f) #[] #[]
theorem rz.act(a:Act):rz a.eval:=⟨λ _=>rfl,λ _=>rfl,λ _=>rfl⟩
def pn(ws:List (List Nat)):Nat->Nat->Nat->Bool
 |0,j,i=>qo ws j i
 |n+1,j,i=>qo ws j i||(ws.getD j []).any λ k=>pn ws n k i
theorem sk.of{ds:List (Option Tmp)}{G:Nat->Value->World->Prop}{dead:Nat->Option Nat}{i:Nat}{vals:Nat->Value}{w:World}{az:Operand->Value}:∀{l:List Edge},(∀e∈l,h_ .any e=true->((dead e.on=none\/dead e.on=some i)->G e.on (vals e.on) w)/\∀s,qn ds e.on=some s->az (.tmp s)=vals e.on)->sk ds G dead i vals w az l
 |[],_=>trivial
 |e::r,h=>⟨h e (by simp),sk.of λ b he=>h b (by simp[he])⟩
def tT(ops:Array Oper)(n:Nat):Bool:=ops.all λ o=>match o.dst with|some s=>decide (s<n)|none=>true
theorem Dh(h:tT ops n=true){j:Nat}{s:Tmp}(hs:pg ops j=some s):s<n:=by
 unfold pg at hs
 cases b:ops[j]? with
 |none=>rw[b] at hs;cases hs
 |some o=>
  rw[b] at hs;have hs':o.dst=some s:=hs;unfold tT at h;rw[t_] at h;have:=h o (Zc b);simp only[hs',decide_eq_true_eq] at this;exact this
theorem vT{md:Region.Mode}(h:i∈a_ md ops listed):i<ops.size/\listed.getD i true=false/\∃o,ops[i]? =some o/\∀e∈o.after,h_ md e=true->listed.getD e.on false=true:=by
 unfold a_ at h;obtain⟨h1,c⟩:=Zv.1 h;have d:=k_.1 h1;simp only[Bool.and_eq_true,Bool.not_eq_true'] at c;refine⟨d,c.1,ops[i],u_ d,λ e he g=>?_⟩;have b:=c.2;rw[u_ d] at b;simp only[ZT,Z9] at b;rw[t_] at b;have f:=b e he;rw[g] at f;simpa using f
section
variable {ops:Array Oper}
def p9(ops:Array Oper)(listed:Array Bool):Nat:=((s_ ops.size).filter λ i=> !listed.getD i true).length
theorem Di{listed:Array Bool}{i:Nat}(b:i<ops.size)(h:listed.getD i true=false):p9 ops (listed.setIfInBounds i true)<p9 ops listed:=by
 unfold p9;have c:i<listed.size:=by
  rcases l_ i listed.size with h1|h1
  ·exact h1
  ·rw[y_,ZR h1] at h;cases h
 have e:((s_ ops.size).filter λ j=> !(listed.setIfInBounds i true).getD j true)=((s_ ops.size).filter λ j=> !listed.getD j true).filter λ j=>j !=i:=by
  rw[List.filter_filter];refine List.filter_congr λ j _=>?_
  by_cases e:j=i
  ·subst e;rw[y_,p_ c];simp
  ·rw[y_,i_ (λ x=>e x.symm),y_];simp[e]
 rw[e];have hm:i∈(s_ ops.size).filter λ j=> !listed.getD j true:=Zv.2 ⟨k_.2 b,by rw[h];rfl⟩
 generalize ((s_ ops.size).filter λ j=> !listed.getD j true)=l at*;clear e;rcases l_ (l.filter λ j=>j !=i).length l.length with h1|h1
 ·exact h1
 ·have d:=List.filter_eq_self.1 (List.length_filter_eq_length_iff.1 (Nat.le_antisymm (ZO _ _) h1)|>λ h=>List.filter_eq_self.2 h);have:=d i hm;simp at this
end
def vD(ops:Array Oper):Bool:=(s_ ops.size).all λ i=>match ops[i]? with
 |some o=>o.after.all λ e=> !Region.binds .any e||decide (e.on<i)
 |none=>true
theorem Dj(h:vD ops=true){listed:Array Bool}(m:listed.size=ops.size)(f:a_ .any ops listed=[]):p9 ops listed=0:=by
 have key:∀i,i<ops.size->listed.getD i true=true:=by
  intro i
  induction i using Nat.strongRecOn with
  |_ i g=>
   intro b
   cases hl:listed.getD i true with
   |true=>rfl
   |false=>
    exfalso;have:i∈a_ .any ops listed:=by
     unfold a_;refine Zv.2 ⟨k_.2 b,?_⟩;rw[hl,u_ b];simp only[Bool.not_false,Bool.true_and,ZT,Z9];rw[t_];intro e he
     cases j:h_ .any e with
     |false=>rfl
     |true=>
      unfold vD at h;simp only[Zf,k_] at h;have h1:=h i b;rw[u_ b] at h1;simp only[] at h1;rw[t_] at h1;have c:=h1 e he;rw[j] at c;have k:e.on<i:=by simpa using c
      have d:=g e.on k (by omega);have l:e.on<listed.size:=by omega
      rw[y_,u_ l] at d⊢;simpa using d
    rw[f] at this;cases this
 unfold p9;rw[ZX,List.filter_eq_nil_iff];intro i b;rw[key i (k_.1 b)];simp
theorem yF(l:List Oper)(j:Nat):pg l.toArray j=qn (l.map λ o:Oper=>o.dst) j:=by
 unfold pg qn;rw[Zq,x_,m_]
 cases l[j]? <;>rfl
def oI:List (Option Tmp)->Nat->(Nat->Value)->Act->Act
 |[],_,_,a=>a
 |d::r,k,vals,a=>oI r (k+1) vals (a.put d (vals k))
theorem Fh:∀(l:List (Option Tmp))(d:Option Tmp)(k:Nat)(vals:Nat->Value)(a:Act),oI (l++[d]) k vals a=(oI l k vals a).put d (vals (k+l.length))
 |[],d,k,vals,a=>rfl
 |e::l,d,k,vals,a=>by
  rw[List.cons_append,oI,Fh l d,oI,List.length_cons]
  congr 2
  omega
def ng(n:Nat):Nat->Bool:=λ j=>decide (j<n)
theorem Bn(l:List Oper)(vals:Nat->Value)(a:Act)(n:Nat):∀k,k<=n->k<=l.length->j4 l.toArray vals (ng n) a k=oI ((l.map λ o:Oper=>o.dst).take k) 0 vals a
 |0,_,_=>rfl
 |k+1,hk,hl=>by
  have e:(l.map λ o:Oper=>o.dst).take (k+1)=(l.map λ o:Oper=>o.dst).take k++[pg l.toArray k]:=by
   rw[List.take_add_one]
   congr 1
   rw[m_,Zj (by omega)];unfold pg;rw[Zq,Zj (by omega)];rfl
  rw[e,Fh];simp only[j4];have b:ng n k=true:=by unfold ng;simp;omega
  rw[if_pos b,Bn l vals a n k (by omega) (by omega),Ze,Z0]
  congr 2
  omega
def xQ(l:List Oper)(n:Nat):Bool:=match l[n]? with
 |some o=>(s_ n).all λ j=>o.after.any λ e=>h_ .any e&&e.on==j
 |none=>false
section
variable {P:Program}{l:List Oper}{Q:Exit->Act->World->Prop}{a:Act}{old:List (Tmp×Value)}{hU:World->Prop}{G:Nat->Value->World->Prop}{dead:Nat->Option Nat}
theorem Bo{ops:Array Oper}{vals:Nat->Value}{L Dk:Nat->Bool}{a:Act}:∀k,(∀j,j<k->L j=Dk j)->j4 ops vals L a k=j4 ops vals Dk a k
 |0,_=>rfl
 |k+1,h=>by
  simp only[j4];rw[Bo k (λ j b=>h j (by omega)),h k (by omega)]
theorem yG{ops:Array Oper}{listed:Array Bool}(e:listed.size=ops.size)(b:p9 ops listed=0):∀j,j<ops.size->ic listed j=true:=λ j c=>by
 cases hl:ic listed j with
 |true=>rfl
 |false=>
  have h1:j∈(s_ ops.size).filter λ i=> !listed.getD i true:=by
   refine Zv.2 ⟨k_.2 c,?_⟩;unfold ic at hl;have d:j<listed.size:=by omega
   rw[y_,u_ d] at hl⊢;simpa using hl
  unfold p9 at b;rw[ZX] at b;rw[b] at h1;cases h1
theorem yH{ws:List (List Nat)}(c:ws=l.map λ o:Oper=>(o.after.toList.filter (h_ .any)).map (·.on)){j i:Nat}(h:qo ws j i=true):∃o,l.toArray[j]? =some o/\∃e∈o.after,h_ .any e=true/\e.on=i:=by
 unfold qo at h;rw[c,x_,m_] at h
 cases b:l[j]? with
 |none=>rw[b] at h;simp at h
 |some o=>
  rw[b] at h;simp only[ZT,Z9,List.contains_eq_mem,decide_eq_true_eq] at h;obtain⟨e,he,d⟩:=Zx.1 h;obtain⟨f,g⟩:=Zv.1 he;exact⟨o,by rw[Zq];exact b,e,ZM.1 f,g,d⟩
def sn(ws:List (List Nat))(L:Nat->Bool):Prop:=∀j i,L j=true->qo ws j i=true->L i=true
theorem sn.reach{ws:List (List Nat)}{L:Nat->Bool}(h:sn ws L):∀(n j i:Nat),L j=true->pn ws n j i=true->L i=true
 |0,j,i,c,b=>h j i c b
 |n+1,j,i,c,b=>by
  unfold pn at b;rw[ZU] at b;rcases b with b|b
  ·exact h j i c b
  ·obtain⟨k,hk,d⟩:=List.any_eq_true.1 b;exact h.reach n k i (h j k c (by unfold qo;simpa using hk)) d
end
def vU:Code->Nat->Option (List Oper)
 | .region id ops _,k=>if id=k then some ops.toList else none
 | .seq x y,k=>(vU x k).or (vU y k)
 | .cond _ x y,k=>(vU x k).or (vU y k)
 | .block _ x,k=>vU x k
 | .loop x,k=>vU x k
 | .rangeFunc _ _ x y,k=>(vU x k).or (vU y k)
 |_,_=>none
def tu(f:Func)(k:Nat):List Oper:=(f.body.bind λ c=>vU c k).getD []
end
section
open Go.RowKit Go.Shelf
section
variable {base:Nat}{w w':World}{G:Nat}{hs:Nat->aq}{cb:Nat->Nat}{gw:List Value}{cls:Nat->List Value}{n:Nat}{X:Nat->List Value}
theorem j5.wR(h:j5 base w G hs cb gw cls n X){r m:Nat}(d:(hs r).n=m)(e:m≠0):∃g,(hs r).A=some ⟨g,0,none⟩/\(hs r).b=some g/\(hs r).v=.slice (some ⟨g,0,none⟩) m (hs r).c:=by
 obtain⟨g,h1,f⟩:=h.rows.addr (r:=r) (by rw[d];exact e);exact⟨g,h1,f,by unfold aq.v;rw[h1,d]⟩
theorem j5.get(h:j5 base w G hs cb gw cls n X){r g:Nat}(d:(hs r).b=some g){k:Nat}{v:Value}(c:(X r)[k]? =some v):w.cell? ⟨g,k,none⟩=some v:=by
 have hl:=h.rows.len r;have hk:k<(X r).length:=(c_.1 c).1;rw[h.rows.cell d (by omega)];exact c
theorem j5.kA(h:j5 base w G hs cb gw cls n X){k:Nat}{v:Value}(b:gw[k]? =some v):w.cell? ⟨G,k,none⟩=some v:=by rw[h.box.cell];exact b
end
theorem Bp{k:IntKind}(h:x=y):Ending.returned (.int k x)=.returned (.int k y):=by rw[h]
theorem sM(l:Int)(w:World)(b: -1000000<=l)(h1:l<=1000000):Calls w_ 97 #[.int .i64 l] w λ e w'=>e=.returned (.int .i64 (aH l))/\w=w':=by
 have c:wrap64 (-l)= -l:=by unfold wrap64;omega
 rcases Int.lt_or_le l (-l) with h|h
 ·have e:bI (-l=(aH l:Int)):=U (by unfold aH;omega);go_enter Tryz.func97,Tryz.ntmps97
  go_wp2
  all_goals
   go_ret;exact⟨Bp e.o,rfl⟩
 ·have e:bI (l=(aH l:Int)):=U (by unfold aH;omega);go_enter Tryz.func97,Tryz.ntmps97
  go_wp2
  all_goals
   go_ret;exact⟨Bp e.o,rfl⟩
theorem Dl(l:Int)(w:World)(d: -1000000<=l)(h1:l<=1000000):Calls w_ 181 #[.int .i64 l] w λ e w'=>e=.returned (.int .i64 (jD l))/\w=w':=by
 by_cases hl:l<0
 ·have b:wrap64 (-2*l)= -2*l:=by unfold wrap64;omega
  have f:wrap64 (-2*l+1)= -2*l+1:=by unfold wrap64;omega
  have c: -2*l+1=(jD l:Int):=by unfold jD;rw[if_pos hl];omega
  go_enter Tryz.func181,Tryz.ntmps181
  go_wp2;go_ret;exact⟨rfl,rfl⟩
 ·have b:wrap64 (2*l)=2*l:=by unfold wrap64;omega
  have c:2*l=(jD l:Int):=by unfold jD;rw[if_neg hl];omega
  go_enter Tryz.func181,Tryz.ntmps181
  go_wp2;go_ret;exact⟨rfl,rfl⟩
theorem JM{w:World}(h:iX base w G hs cb s)(l:Int)(f:aH l<s.c.val.length)(i:∀v,ai s.c.val v=0\/ai s.c.val v=1\/ai s.c.val v= -1)(hl:aH l<=65536):
  Calls w_ 152 #[.pointer (some ⟨G,0,none⟩),.int .i64 l] w λ e w'=>e=.returned (.int .i8 (jZ s.c l))/\w=w':=by
 obtain⟨n,j⟩:∃n,(hs 1).n=n:=⟨_,rfl⟩
 have hlen:=h.rows.len 1;have q:s.c.val.length=n:=by
  have:(cont hs cb s 1).length=s.c.val.length:=by simp[cont,tn]
  rw[this] at hlen;have:nU 1=1:=rfl;rw[this] at hlen;omega
 obtain⟨g,-,y,k⟩:=h.wR (r:=1) j (by omega);have B:w.cell? ⟨G,2,none⟩=some (.slice (some ⟨g,0,none⟩) n (hs 1).c):=h.kA (by rw[<-k];rfl);obtain⟨x,b⟩:∃x,ai s.c.val (aH l)=x:=⟨_,rfl⟩
 have z:w.cell? ⟨g,aH l,none⟩=some (.int .i8 x):=h.get y (by
  show(tn s.c.val)[aH l]? =_;unfold tn;rw[m_,Zj f];rw[ny f] at b;rw[b];rfl)
 have t:=i (aH l);rw[b] at t;have A:aH l<n:=by omega
 obtain⟨m,hm⟩:∃m:Nat,aH l=m:=⟨_,rfl⟩
 rw[hm] at z A hl;have C:(m:Int)<(n:Int):=by omega
 by_cases u:l<0
 ·have d:jZ s.c l= -x:=by unfold jZ;rw[if_pos u,b]
  have D:wrap64 (-l)=(m:Int):=by unfold wrap64;unfold aH at hm;omega
  obtain rfl:l= -(m:Int):=by unfold aH at hm;omega
  have p:=U d;have E:=U hm;clear h i f j hlen q k b d hm;have F:IntKind.i8.wrap (-x)= -x:=by rcases t with rfl|rfl|rfl<;>rfl
  go_enter Tryz.func152,Tryz.ntmps152
  go_wp2;go_ret;exact⟨Bp p.o.symm,rfl⟩
 ·have d:jZ s.c l=x:=by unfold jZ;rw[if_neg u,b]
  obtain rfl:l=(m:Int):=by unfold aH at hm;omega
  have p:=U d;clear h i f j hlen q k b d hm;go_enter Tryz.func152,Tryz.ntmps152
  go_wp2;go_ret;exact⟨Bp p.o.symm,rfl⟩
end
section
open Go.RowKit Go.Shelf
structure Fr(hs:Nat->aq)(G:Nat)(cb:Nat->Nat)(n:Nat)(w w':World):Prop where
 os:w'.os=w.os
 tape:w'.tape=w.tape
 output:w'.output=w.output
 size:w.heap.size<=w'.heap.size
 keep:∀b,b<w.heap.size->b≠G->(∀r,(hs r).b≠some b)->(∀d,d<n->cb d≠b)->w'.heap[b]? =w.heap[b]?
section
variable {base:Nat}{w w' w1:World}{G:Nat}{hs hs':Nat->aq}{cb:Nat->Nat}{gw:List Value}{cls:Nat->List Value}{n:Nat}{X:Nat->List Value}
theorem Fr.trans(h:Fr hs G cb n w w1)(h':Fr hs G cb n w1 w'):Fr hs G cb n w w':=
 ⟨h'.os.trans h.os,h'.tape.trans h.tape,h'.output.trans h.output,Z3 h.size h'.size,λ b c h1 d e=>(h'.keep b (Zu c h.size) h1 d e).trans (h.keep b c h1 d e)⟩
theorem Fr.then(h:Fr hs G cb n w w1)(h':Fr hs' G cb n w1 w')(i:∀r g,(hs' r).b=some g->(∃r',(hs r').b=some g)\/w.heap.size<=g):Fr hs G cb n w w':=
 ⟨h'.os.trans h.os,h'.tape.trans h.tape,h'.output.trans h.output,Z3 h.size h'.size,λ b c h1 d f=>(h'.keep b (Zu c h.size) h1 (λ r e=>by
  rcases i r b e with⟨r',j⟩|hle
  ·exact d r' j
  ·omega) f).trans (h.keep b c h1 d f)⟩
theorem Fr.cell(r g k:Nat)(v:Value)(c:(hs r).b=some g):Fr hs G cb n w (w.setCell ⟨g,k,none⟩ v):=by
 have h:=kK w g k v;exact⟨h.os,h.tape,h.output,h.size,λ b d _ f _=>h.block b d (λ e=>f r (by rw[c];injection e with e;rw[e]))⟩
theorem Fr.kA(k:Nat)(v:Value):Fr hs G cb n w (w.setCell ⟨G,k,none⟩ v):=by
 have h:=kK w G k v;exact⟨h.os,h.tape,h.output,h.size,λ b c h1 _ _=>h.block b c (λ e=>h1 (by injection e))⟩
theorem Fr.grown(r:Nat)(c:w.grownBy w' (hs r).b):Fr hs G cb n w w':=
 ⟨c.os,c.tape,c.output,c.size,λ b d _ f _=>c.block b d (λ e=>f r e.symm)⟩
theorem Fr.q3(h:Below w.heap.size w w'):Fr hs G cb n w w':=
 ⟨h.os,h.tape,h.output,h.size,λ b c _ _ _=>h.block b c⟩
end
section
variable {base:Nat}{w w':World}{G:Nat}{hs:Nat->aq}{cb:Nat->Nat}{s:aj}
theorem iX.kJ(h:iX base w G hs cb s):(hs 1).n=s.c.val.length:=by
 have h1:=h.rows.len 1;rw[show(cont hs cb s 1).length=s.c.val.length by simp[cont,tn],show nU 1=1 from rfl] at h1;omega
theorem iX.mb(h:iX base w G hs cb s):(hs 2).n=s.c.lvl.length:=by
 have h1:=h.rows.len 2;rw[show(cont hs cb s 2).length=s.c.lvl.length by simp[cont,ql],show nU 2=1 from rfl] at h1;omega
theorem iX.nA(h:iX base w G hs cb s):(hs 3).n=s.c.j9.length:=by
 have h1:=h.rows.len 3;rw[show(cont hs cb s 3).length=s.c.j9.length by simp[cont,uw],show nU 3=1 from rfl] at h1;omega
theorem iX.j6(h:iX base w G hs cb s):(hs 4).n=s.c.au.length:=by
 have h1:=h.rows.len 4;rw[show(cont hs cb s 4).length=s.c.au.length by simp[cont,gX],show nU 4=1 from rfl] at h1;omega
theorem iX.j0(h:iX base w G hs cb s):(hs 5).n=s.c.st.length:=by
 have h1:=h.rows.len 5;rw[show(cont hs cb s 5).length=s.c.st.length by simp[cont,ql],show nU 5=1 from rfl] at h1;omega
theorem iX.n6(h:iX base w G hs cb s):(hs 6).n=s.act.length:=by
 have h1:=h.rows.len 6;rw[show(cont hs cb s 6).length=s.act.length by simp[cont,gX],show nU 6=1 from rfl] at h1;omega
theorem iX.n7(h:iX base w G hs cb s):(hs 7).n=s.ord.length:=by
 have h1:=h.rows.len 7;rw[show(cont hs cb s 7).length=s.ord.length by simp[cont,gX],show nU 7=1 from rfl] at h1;omega
theorem iX.n8(h:iX base w G hs cb s):(hs 8).n=s.pl.length:=by
 have h1:=h.rows.len 8;rw[show(cont hs cb s 8).length=s.pl.length by simp[cont,gX],show nU 8=1 from rfl] at h1;omega
theorem iX.jJ(h:iX base w G hs cb s):(hs 9).n=s.bl.length:=by
 have h1:=h.rows.len 9;rw[show(cont hs cb s 9).length=s.bl.length by simp[cont,nO],show nU 9=1 from rfl] at h1;omega
theorem iX.n12(h:iX base w G hs cb s):(hs 12).n=s.aN.length:=by
 have h1:=h.rows.len 12;rw[show(cont hs cb s 12).length=s.aN.length by simp[cont,nO],show nU 12=1 from rfl] at h1;omega
end
section
variable {base:Nat}{w w':World}{G:Nat}{hs:Nat->aq}{cb:Nat->Nat}{s:aj}
theorem iX.xR(h:iX base w G hs cb s){g:Nat}(d:(hs 1).b=some g)(k:Nat)(x:Int):iX base (w.setCell ⟨g,k,none⟩ (.int .i8 x)) G hs cb (s.pe k x):=by
 refine(h.cell d k (.int .i8 x)).eq rfl rfl rfl (λ _ _=>rfl) rfl (λ r=>?_)
 by_cases e:r=1
 ·subst e;rw[jH];show(tn s.c.val).set k _=tn (s.c.val.set k x);simp[tn,Zw]
 ·rw[aX _ _ e];simp only[cont,if_neg e,aj.pe,aj.rV,aj.qI,aj.wQ,aj.p8,aj.tR,aj.pV,aj.ux,aj.tr]
theorem iX.Fi(h:iX base w G hs cb s){g:Nat}(d:(hs 2).b=some g)(k:Nat)(x:Nat):iX base (w.setCell ⟨g,k,none⟩ (.int .i64 (x:Int))) G hs cb (s.rV k x):=by
 refine(h.cell d k (.int .i64 (x:Int))).eq rfl rfl rfl (λ _ _=>rfl) rfl (λ r=>?_)
 by_cases e:r=2
 ·subst e;rw[jH];show(ql s.c.lvl).set k _=ql (s.c.lvl.set k x);simp[ql,Zw]
 ·rw[aX _ _ e];simp only[cont,if_neg e,aj.pe,aj.rV,aj.qI,aj.wQ,aj.p8,aj.tR,aj.pV,aj.ux,aj.tr]
theorem iX.zU(h:iX base w G hs cb s){g:Nat}(d:(hs 3).b=some g)(k:Nat)(x:Option Nat):iX base (w.setCell ⟨g,k,none⟩ (qZ cb x)) G hs cb (s.qI k x):=by
 refine(h.cell d k (qZ cb x)).eq rfl rfl rfl (λ _ _=>rfl) rfl (λ r=>?_)
 by_cases e:r=3
 ·subst e;rw[jH];show(uw cb s.c.j9).set k _=uw cb (s.c.j9.set k x);simp[uw,Zw]
 ·rw[aX _ _ e];simp only[cont,if_neg e,aj.pe,aj.rV,aj.qI,aj.wQ,aj.p8,aj.tR,aj.pV,aj.ux,aj.tr]
theorem iX.Bq(h:iX base w G hs cb s){g:Nat}(c:(hs 6).b=some g)(k:Nat)(x:Int):iX base (w.setCell ⟨g,k,none⟩ (.int .i64 x)) G hs cb (s.p8 k x):=by
 refine(h.cell c k (.int .i64 x)).eq rfl rfl rfl (λ _ _=>rfl) rfl (λ r=>?_)
 by_cases e:r=6
 ·subst e;rw[jH];show(gX s.act).set k _=gX (s.act.set k x);simp[gX,Zw]
 ·rw[aX _ _ e];simp only[cont,if_neg e,aj.pe,aj.rV,aj.qI,aj.wQ,aj.p8,aj.tR,aj.pV,aj.ux,aj.tr]
theorem iX.Fj(h:iX base w G hs cb s){g:Nat}(c:(hs 7).b=some g)(k:Nat)(x:Int):iX base (w.setCell ⟨g,k,none⟩ (.int .i64 x)) G hs cb (s.tR k x):=by
 refine(h.cell c k (.int .i64 x)).eq rfl rfl rfl (λ _ _=>rfl) rfl (λ r=>?_)
 by_cases e:r=7
 ·subst e;rw[jH];show(gX s.ord).set k _=gX (s.ord.set k x);simp[gX,Zw]
 ·rw[aX _ _ e];simp only[cont,if_neg e,aj.pe,aj.rV,aj.qI,aj.wQ,aj.p8,aj.tR,aj.pV,aj.ux,aj.tr]
theorem iX.xS(h:iX base w G hs cb s){g:Nat}(c:(hs 8).b=some g)(k:Nat)(x:Int):iX base (w.setCell ⟨g,k,none⟩ (.int .i64 x)) G hs cb (s.pV k x):=by
 refine(h.cell c k (.int .i64 x)).eq rfl rfl rfl (λ _ _=>rfl) rfl (λ r=>?_)
 by_cases e:r=8
 ·subst e;rw[jH];show(gX s.pl).set k _=gX (s.pl.set k x);simp[gX,Zw]
 ·rw[aX _ _ e];simp only[cont,if_neg e,aj.pe,aj.rV,aj.qI,aj.wQ,aj.p8,aj.tR,aj.pV,aj.ux,aj.tr]
theorem iX.zV(h:iX base w G hs cb s){g:Nat}(c:(hs 9).b=some g)(k:Nat)(x:Bool):iX base (w.setCell ⟨g,k,none⟩ (.bool x)) G hs cb (s.ux k x):=by
 refine(h.cell c k (.bool x)).eq rfl rfl rfl (λ _ _=>rfl) rfl (λ r=>?_)
 by_cases e:r=9
 ·subst e;rw[jH];show(nO s.bl).set k _=nO (s.bl.set k x);simp[nO,Zw]
 ·rw[aX _ _ e];simp only[cont,if_neg e,aj.pe,aj.rV,aj.qI,aj.wQ,aj.p8,aj.tR,aj.pV,aj.ux,aj.tr]
theorem iX.wS(h:iX base w G hs cb s){g:Nat}(c:(hs 12).b=some g)(k:Nat)(x:Bool):iX base (w.setCell ⟨g,k,none⟩ (.bool x)) G hs cb (s.tr k x):=by
 refine(h.cell c k (.bool x)).eq rfl rfl rfl (λ _ _=>rfl) rfl (λ r=>?_)
 by_cases e:r=12
 ·subst e;rw[jH];show(nO s.aN).set k _=nO (s.aN.set k x);simp[nO,Zw]
 ·rw[aX _ _ e];simp only[cont,if_neg e,aj.pe,aj.rV,aj.qI,aj.wQ,aj.p8,aj.tR,aj.pV,aj.ux,aj.tr]
end
section
variable {base:Nat}{w w':World}{G:Nat}{hs:Nat->aq}{cb:Nat->Nat}{gw:List Value}{cls:Nat->List Value}{n:Nat}{X:Nat->List Value}
theorem j5.lV(h:j5 base w G hs cb gw cls n X)(k r:Nat){m:Nat}(hk:gw[k]? =some (hs r).v)(e:(hs r).n=m)(f:m≠0):
  ∃g,(hs r).b=some g/\w.cell? ⟨G,k,none⟩=some (.slice (some ⟨g,0,none⟩) m (hs r).c)/\∀j,w.frozen? ⟨g,j,none⟩=false:=by
 obtain⟨g,h1,d,i⟩:=h.wR (r:=r) e f;exact⟨g,d,by rw[<-i];exact h.kA hk,λ j=>h.rows.free d j⟩
theorem j5.free(h:j5 base w G hs cb gw cls n X)(k:Nat):w.frozen? ⟨G,k,none⟩=false:=h.box.free k
theorem j5.wT(h:j5 base w G hs cb gw cls n X){r r' g nM:Nat}(c:r≠r')(h1:(hs r).b=some g)(d:(hs r').b=some nM):g≠nM:=λ e=>by
 subst e;exact h.rows.apart r r' g c h1 d
end
section
variable {base:Nat}{w w':World}{G:Nat}{hs:Nat->aq}{cb:Nat->Nat}{s:aj}
theorem iX.zW(h:iX base w G hs cb s){g:Nat}(d:(hs 1).b=some g){k:Nat}(hk:k<s.c.val.length):w.cell? ⟨g,k,none⟩=some (.int .i8 (ai s.c.val k)):=h.get d (by
 show(tn s.c.val)[k]? =_;rw[ny hk];simp[tn,hk])
theorem iX.vV(h:iX base w G hs cb s){g:Nat}(d:(hs 2).b=some g){k:Nat}(hk:k<s.c.lvl.length):w.cell? ⟨g,k,none⟩=some (.int .i64 (gQ s.c.lvl k:Int)):=h.get d (by
 show(ql s.c.lvl)[k]? =_;rw[vA hk];simp[ql,hk])
theorem iX.yI(h:iX base w G hs cb s){g:Nat}(d:(hs 3).b=some g){k:Nat}(hk:k<s.c.j9.length):w.cell? ⟨g,k,none⟩=some (qZ cb (mF s.c.j9 k)):=h.get d (by
 show(uw cb s.c.j9)[k]? =_;rw[E1 hk];simp[uw,hk])
theorem iX.zX(h:iX base w G hs cb s){g:Nat}(d:(hs 4).b=some g){k:Nat}(hk:k<s.c.au.length):w.cell? ⟨g,k,none⟩=some (.int .i64 (ai s.c.au k)):=h.get d (by
 show(gX s.c.au)[k]? =_;rw[ny hk];simp[gX,hk])
theorem iX.Fk(h:iX base w G hs cb s){g:Nat}(d:(hs 5).b=some g){k:Nat}(hk:k<s.c.st.length):w.cell? ⟨g,k,none⟩=some (.int .i64 (gQ s.c.st k:Int)):=h.get d (by
 show(ql s.c.st)[k]? =_;rw[vA hk];simp[ql,hk])
theorem iX.yJ(h:iX base w G hs cb s){g:Nat}(c:(hs 6).b=some g){k:Nat}(hk:k<s.act.length):w.cell? ⟨g,k,none⟩=some (.int .i64 (ai s.act k)):=h.get c (by
 show(gX s.act)[k]? =_;rw[ny hk];simp[gX,hk])
theorem iX.xT(h:iX base w G hs cb s){g:Nat}(c:(hs 7).b=some g){k:Nat}(hk:k<s.ord.length):w.cell? ⟨g,k,none⟩=some (.int .i64 (ai s.ord k)):=h.get c (by
 show(gX s.ord)[k]? =_;rw[ny hk];simp[gX,hk])
theorem iX.wU(h:iX base w G hs cb s){g:Nat}(c:(hs 8).b=some g){k:Nat}(hk:k<s.pl.length):w.cell? ⟨g,k,none⟩=some (.int .i64 (ai s.pl k)):=h.get c (by
 show(gX s.pl)[k]? =_;rw[ny hk];simp[gX,hk])
theorem iX.Fl(h:iX base w G hs cb s){g:Nat}(c:(hs 9).b=some g){k:Nat}(hk:k<s.bl.length):w.cell? ⟨g,k,none⟩=some (.bool (jE s.bl k)):=h.get c (by
 show(nO s.bl)[k]? =_;simp[nO,jE,hk,x_])
theorem iX.zY(h:iX base w G hs cb s){g:Nat}(c:(hs 12).b=some g){k:Nat}(hk:k<s.aN.length):w.cell? ⟨g,k,none⟩=some (.bool (jE s.aN k)):=h.get c (by
 show(nO s.aN)[k]? =_;simp[nO,jE,hk,x_])
end
end
section
open Go.RowKit Go.Shelf
theorem vW(hs:Nat->aq)(cb:Nat->Nat)(s:aj){mO:Nat}(b:mO<13)(h':aq)(r:Nat):cont (iH hs mO h') cb s r=cont hs cb s r:=by
 unfold cont;have:∀k,iH hs mO h' (ij k)=hs (ij k):=λ k=>aX _ _ (by unfold ij;omega)
 simp only[this]
theorem vX(hs:Nat->aq)(s:aj){mO:Nat}(b:mO<13)(h':aq)(d:Nat):tQ (iH hs mO h') s d=tQ hs s d:=by
 unfold tQ;rw[aX _ _ (by unfold kz;omega)]
section
variable {base:Nat}{w di:World}{G:Nat}{hs:Nat->aq}{cb:Nat->Nat}{s:aj}
theorem j5.rA{gw:List Value}{cls:Nat->List Value}{n:Nat}{X:Nat->List Value}(h:j5 base w G hs cb gw cls n X)(k:Nat){r g m:Nat}(d:(hs r).b=some g)(e:(hs r).n=m)(hk:gw[k]? =some (hs r).v):w.cell? ⟨G,k,none⟩=some (.slice (some ⟨g,0,none⟩) m (hs r).c):=by
 rw[h.kA hk];unfold aq.v;rw[(h.rows.form d).1,e]
theorem j5.after{gw:List Value}{cls:Nat->List Value}{n:Nat}{X:Nat->List Value}(h:j5 base w G hs cb gw cls n X){r:Nat}(c:w.grownBy di (hs r).b)(k:Nat):di.cell? ⟨G,k,none⟩=w.cell? ⟨G,k,none⟩/\di.frozen? ⟨G,k,none⟩=false:=by
 have hk:=h.box.kept c (λ e=>h.uy r G e.symm rfl);exact⟨by rw[hk.cell,h.box.cell],hk.free k⟩
theorem iX.Fm(h:iX base w G hs cb s){v':Value}{x:Int}(m:oa w base 3 (hs 4).v (s.c.au.length+1) ((s.c.au++[x]).map (ZK .i64)) v' di):
  ∃(A':Option Addr)(c':Nat),v'=.slice A' (s.c.au.length+1) c'/\((aq.mk A' (s.c.au.length+1) c').b=(hs 4).b\/(aq.mk A' (s.c.au.length+1) c').b=some w.heap.size)/\di.cell? ⟨G,5,none⟩=some (hs 4).v/\di.frozen? ⟨G,5,none⟩=false/\
   iX base (di.setCell ⟨G,5,none⟩ v') G (iH hs 4 ⟨A',s.c.au.length+1,c'⟩) cb (s.yC x)/\Fr hs G cb s.c.cl.length w (di.setCell ⟨G,5,none⟩ v'):=by
 obtain⟨j,i,f⟩:=m;obtain⟨h',rfl,k⟩:=aq.lz j;rw[aq.own] at i f;rw[aq.own] at f;obtain⟨a1,a2⟩:=h.after i 5;have n:=h.iS (r:=4) (h':=h') i (by rw[k];exact j) (f.imp id (λ e g i=>by rw[e] at i;injection i with i;omega));have o:=n.field 5 h'.v;obtain⟨A',p,c'⟩:=h';obtain rfl:p=_:=k;refine⟨A',c',rfl,f,by rw[a1];exact h.kA rfl,a2,?_,?_⟩
 ·refine o.eq rfl rfl rfl (λ d _=>(vX hs s (by omega) _ d).symm) rfl (λ r=>?_);rw[vW hs cb _ (by omega)]
  by_cases e:r=4
  ·subst e;rw[jH];rfl
  ·rw[aX _ _ e];simp only[cont,if_neg e,aj.yC]
 ·refine(Fr.grown 4 i).then (hs':=iH hs 4 ⟨A',s.c.au.length+1,c'⟩) (Fr.kA 5 _) (λ r g e=>?_)
  by_cases l:r=4
  ·subst l;rw[jH] at e;rcases f with f|f
   ·exact Z4 ⟨4,f▸e⟩
   ·rw[f] at e;injection e with e;exact Z_ (by omega)
  ·rw[aX _ _ l] at e;exact Z4 ⟨r,e⟩
end
end
section
open Go.RowKit Go.Shelf
theorem bK(w:World)(o:Obj):Below w.heap.size w (w.alloc o):=(g_ _ _).alloc (r_ _) _
def JN(base:Nat)(w:World)(G:Nat)(hs:Nat->aq)(cb:Nat->Nat)(s:aj)(x:Int)(o:Option Nat)(e:Ending)(w':World):Prop:=
 e=.returned (.tuple #[])/\∃h':aq,iX base w' G (iH hs 4 h') cb {s with c:=k5 s.c x o}/\Fr hs G cb s.c.cl.length w w'/\(h'.b=(hs 4).b\/∃g,h'.b=some g/\w.heap.size<=g)
theorem JO{w:World}(h:iX base w G hs cb s)(T:base<=w.heap.size)(x:Int)(o:Option Nat)
  (H:aH x<s.c.val.length) (z2:aH x<s.c.lvl.length) (z3:aH x<s.c.j9.length) (V:aH x<=65536) (ak:s.c.au.length<=1000000) (al:s.c.st.length<=1000000):
  Calls w_ 156 #[.pointer (some ⟨G,0,none⟩),.int .i64 x,qZ cb o] w (JN base w G hs cb s x o):=by
 obtain⟨g1,I,D,f1⟩:=h.lV 2 1 rfl h.kJ (by omega);obtain⟨g2,W,X,f2⟩:=h.lV 3 2 rfl h.mb (by omega);obtain⟨g3,Y,z,f3⟩:=h.lV 4 3 rfl h.nA (by omega);obtain⟨m,hm⟩:∃m:Nat,aH x=m:=⟨_,rfl⟩
 have an: -65536<=x/\x<=65536:=by unfold aH at V;omega
 obtain⟨pa,J⟩:∃pa,qZ cb o=.pointer pa:=by cases o with|none=>exact⟨_,rfl⟩|some d=>exact⟨_,rfl⟩
 rw[J];have aa:=U J;clear J;have ab:(hs 5).n=s.c.st.length:=h.j0;have i:=U h;have c1:=h.zW I (k:=m) (by rw[<-hm];exact H);have E:=U hm;have Z:=U (z_ H (z_ z2 z3));have ao:(m:Int)<(s.c.val.length:Int):=by omega
 have ag:m<s.c.val.length:=by omega
 have ad:m<s.c.lvl.length:=by omega
 have ae:m<s.c.j9.length:=by omega
 have ar:(m:Int)<(s.c.lvl.length:Int):=by omega
 have av:(m:Int)<(s.c.j9.length:Int):=by omega
 have F:=f1 m;have t:=U I;have l:=U W;have p:=U Y;have aw:=U f1;have af:=U T;clear h I W Y f1 f2 f3 hm H z2 z3 V T
 by_cases ah:x<0
 ·go_enter Tryz.func156,Tryz.ntmps156
  go_upto_region 1 with(go_at_call 97;refine(sM x _ (by omega) (by omega)).mono ?_;rintro e w1 ⟨rfl,rfl⟩;rw[E.o])
  go_upto_region 2 with fail
  have B:=U (i.o.xR t.o m 1);generalize g:w.setCell ⟨g1,m,none⟩ (.int .i8 1)=w1 at B;have ai:bI (Fr hs G cb s.c.cl.length w w1):=U (g▸Fr.cell 1 g1 m _ t.o);clear g D X z c1 F;have D:=B.o.rA 2 t.o (show(hs 1).n=s.c.val.length from i.o.kJ) rfl;have c1:=B.o.zW t.o (k:=m) (by show m<(s.c.val.set m 1).length;rw[v_];exact ag);have F:w1.frozen? ⟨g1,m,none⟩=false:=B.o.rows.free t.o m
  go_upto_region 4 with fail
  have b:bI (iX base (w1.setCell ⟨g1,m,none⟩ (.int .i8 (-1))) G hs cb (s.pe m (-1))):=U (by
   have:=B.o.xR t.o m (-1)
   rwa[show(s.pe m 1).pe m (-1)=s.pe m (-1) by simp[aj.pe,List.set_set]] at this)
  generalize g:w1.setCell ⟨g1,m,none⟩ (.int .i8 (-1))=j at b;have K:bI (Fr hs G cb s.c.cl.length w j):=U (ai.o.trans (g▸Fr.cell 1 g1 m _ t.o));clear g D c1 F;have z:=b.o.rA 3 l.o (show(hs 2).n=s.c.lvl.length from i.o.mb) rfl;have L:=b.o.rA 4 p.o (show(hs 3).n=s.c.j9.length from i.o.nA) rfl;have M:j.cell? ⟨G,6,none⟩=some (.slice (hs 5).A s.c.st.length (hs 5).c):=by rw[<-ab];exact b.o.kA rfl
  have c2:=b.o.vV l.o (k:=m) ad;have c3:=b.o.yI p.o (k:=m) ae;have N:j.frozen? ⟨g2,m,none⟩=false:=b.o.rows.free l.o m;have O:j.frozen? ⟨g3,m,none⟩=false:=b.o.rows.free p.o m;have n23:g2≠g3:=b.o.wT (r:=2) (r':=3) (by omega) l.o p.o;have n32:g3≠g2:=λ e=>n23 e.symm
  go_wp2_with fail
  go_region
  have u:bI (iX base ((j.setCell ⟨g2,m,none⟩ (.int .i64 (s.c.st.length:Int))).setCell ⟨g3,m,none⟩ (.pointer pa)).drew G hs cb (((s.pe m (-1)).rV m s.c.st.length).qI m o)):=U (by
   have:=((b.o.Fi l.o m s.c.st.length).zU p.o m o).below (g_ _ _).drew
   rwa[aa.o] at this)
  generalize g:((j.setCell ⟨g2,m,none⟩ (.int .i64 (s.c.st.length:Int))).setCell ⟨g3,m,none⟩ (.pointer pa)).drew=f at u;have y:bI (Fr hs G cb s.c.cl.length w f):=U (K.o.trans (g▸((Fr.cell 2 g2 m _ l.o).trans (Fr.cell 3 g3 m _ p.o)).trans (Fr.q3 (g_ _ _).drew)));clear g z L M c2 c3 N O n23 n32;have P:f.cell? ⟨G,5,none⟩=some (.slice (hs 4).A s.c.au.length (hs 4).c):=by rw[<-(show(hs 4).n=s.c.au.length from i.o.j6)];exact u.o.kA rfl
  go_wp2_with (at_builtin;refine vq rfl (.tmp 45) (.tmp 47) rfl base (.slice (hs 4).A s.c.au.length (hs 4).c) s.c.au.length s.c.au rfl (by have:=(u.o.below (bK f (.cells #[.int .i64 x] 3))).rows.row 4;rw[aq.v,i.o.j6] at this;exact this) (some ⟨f.heap.size,0,none⟩) 1 1 [x] rfl (aQ.lit f [x] 1 _ rfl rfl (by omega)) (by omega) (by have:=y.o.size;have:=af.o;simp;omega) ?_;intro v9 di C;obtain⟨A',c',rfl,q,P,f5,Q,R⟩:=iX.Fm (s:=((s.pe m (-1)).rV m s.c.st.length).qI m o) (x:=x) (u.o.below (bK f (.cells #[.int .i64 x] 3))) (by rw[show(hs 4).v=.slice (hs 4).A s.c.au.length (hs 4).c by rw[aq.v,i.o.j6]];exact C);clear C)
  go_end0;refine⟨rfl,⟨A',s.c.au.length+1,c'⟩,?_,(y.o.trans (Fr.q3 (bK f _))).trans R,?_⟩
  ·have e:(((s.pe m (-1)).rV m s.c.st.length).qI m o).yC x={s with c:=k5 s.c x o}:=by
    have S:vP x= -1:=by unfold vP;rw[if_pos ah]
    simp only[aj.pe,aj.rV,aj.qI,aj.yC,k5,E.o,S]
   rw[<-e];exact Q
  ·rcases q with q|q
   ·exact Z4 q
   ·exact Z_ ⟨_,q,by have:=y.o.size;simp;omega⟩
 ·go_enter Tryz.func156,Tryz.ntmps156
  go_upto_region 1 with(go_at_call 97;refine(sM x _ (by omega) (by omega)).mono ?_;rintro e w1 ⟨rfl,rfl⟩;rw[E.o])
  go_upto_region 2 with fail
  have b:=U (i.o.xR t.o m 1);generalize g:w.setCell ⟨g1,m,none⟩ (.int .i8 1)=j at b;have K:bI (Fr hs G cb s.c.cl.length w j):=U (g▸Fr.cell 1 g1 m _ t.o);clear g D X z c1 F;have z:=b.o.rA 3 l.o (show(hs 2).n=s.c.lvl.length from i.o.mb) rfl;have L:=b.o.rA 4 p.o (show(hs 3).n=s.c.j9.length from i.o.nA) rfl;have M:j.cell? ⟨G,6,none⟩=some (.slice (hs 5).A s.c.st.length (hs 5).c):=by rw[<-ab];exact b.o.kA rfl
  have c2:=b.o.vV l.o (k:=m) ad;have c3:=b.o.yI p.o (k:=m) ae;have N:j.frozen? ⟨g2,m,none⟩=false:=b.o.rows.free l.o m;have O:j.frozen? ⟨g3,m,none⟩=false:=b.o.rows.free p.o m;have n23:g2≠g3:=b.o.wT (r:=2) (r':=3) (by omega) l.o p.o;have n32:g3≠g2:=λ e=>n23 e.symm
  go_wp2_with fail
  go_region
  have u:bI (iX base ((j.setCell ⟨g2,m,none⟩ (.int .i64 (s.c.st.length:Int))).setCell ⟨g3,m,none⟩ (.pointer pa)).drew G hs cb (((s.pe m 1).rV m s.c.st.length).qI m o)):=U (by
   have:=((b.o.Fi l.o m s.c.st.length).zU p.o m o).below (g_ _ _).drew
   rwa[aa.o] at this)
  generalize g:((j.setCell ⟨g2,m,none⟩ (.int .i64 (s.c.st.length:Int))).setCell ⟨g3,m,none⟩ (.pointer pa)).drew=f at u;have y:bI (Fr hs G cb s.c.cl.length w f):=U (K.o.trans (g▸((Fr.cell 2 g2 m _ l.o).trans (Fr.cell 3 g3 m _ p.o)).trans (Fr.q3 (g_ _ _).drew)));clear g z L M c2 c3 N O n23 n32;have P:f.cell? ⟨G,5,none⟩=some (.slice (hs 4).A s.c.au.length (hs 4).c):=by rw[<-(show(hs 4).n=s.c.au.length from i.o.j6)];exact u.o.kA rfl
  go_wp2_with (at_builtin;refine vq rfl (.tmp 45) (.tmp 47) rfl base (.slice (hs 4).A s.c.au.length (hs 4).c) s.c.au.length s.c.au rfl (by have:=(u.o.below (bK f (.cells #[.int .i64 x] 3))).rows.row 4;rw[aq.v,i.o.j6] at this;exact this) (some ⟨f.heap.size,0,none⟩) 1 1 [x] rfl (aQ.lit f [x] 1 _ rfl rfl (by omega)) (by omega) (by have:=y.o.size;have:=af.o;simp;omega) ?_;intro v9 di C;obtain⟨A',c',rfl,q,P,f5,Q,R⟩:=iX.Fm (s:=((s.pe m 1).rV m s.c.st.length).qI m o) (x:=x) (u.o.below (bK f (.cells #[.int .i64 x] 3))) (by rw[show(hs 4).v=.slice (hs 4).A s.c.au.length (hs 4).c by rw[aq.v,i.o.j6]];exact C);clear C)
  go_end0;refine⟨rfl,⟨A',s.c.au.length+1,c'⟩,?_,(y.o.trans (Fr.q3 (bK f _))).trans R,?_⟩
  ·have e:(((s.pe m 1).rV m s.c.st.length).qI m o).yC x={s with c:=k5 s.c x o}:=by
    have S:vP x=1:=by unfold vP;rw[if_neg (by omega)]
    simp only[aj.pe,aj.rV,aj.qI,aj.yC,k5,E.o,S]
   rw[<-e];exact Q
  ·rcases q with q|q
   ·exact Z4 q
   ·exact Z_ ⟨_,q,by have:=y.o.size;simp;omega⟩
end
section
open Go.RowKit Go.Shelf
structure Sep(K:Nat->Prop)(w:World)(G:Nat)(hs:Nat->aq)(cb:Nat->Nat)(n:Nat):Prop where
 lt:∀b,K b->b<w.heap.size
 g:¬K G
 row:∀r b,(hs r).b=some b->¬K b
 cl:∀d,d<n->¬K (cb d)
structure aD(K:Nat->Prop)(w w':World):Prop where
 os:w'.os=w.os
 tape:w'.tape=w.tape
 output:w'.output=w.output
 size:w.heap.size<=w'.heap.size
 keep:∀b,K b->w'.heap[b]? =w.heap[b]?
def qJ(K:Nat->Prop)(c:Nat):Nat->Prop:=λ b=>K b\/b=c
section
variable {base:Nat}{w w' w1:World}{G:Nat}{hs hs':Nat->aq}{cb:Nat->Nat}{gw:List Value}{cls:Nat->List Value}{n:Nat}{X:Nat->List Value}{K kW:Nat->Prop}
theorem aD.refl:aD K w w:=⟨rfl,rfl,rfl,r_ _,λ _ _=>rfl⟩
theorem aD.trans(h:aD K w w1)(h':aD K w1 w'):aD K w w':=
 ⟨h'.os.trans h.os,h'.tape.trans h.tape,h'.output.trans h.output,Z3 h.size h'.size,λ b c=>(h'.keep b c).trans (h.keep b c)⟩
theorem aD.mono(h:aD K w w')(hk:∀b,kW b->K b):aD kW w w':=⟨h.os,h.tape,h.output,h.size,λ b c=>h.keep b (hk b c)⟩
theorem aD.below(h:aD K w w')(hk:∀b,b<base->K b):Below base w w':=⟨h.os,h.tape,h.output,h.size,λ b c=>h.keep b (hk b c)⟩
theorem aD.q3(h:Below w.heap.size w w')(hl:∀b,K b->b<w.heap.size):aD K w w':=⟨h.os,h.tape,h.output,h.size,λ b c=>h.block b (hl b c)⟩
theorem aD.cell(h:aD K w w'){p:Addr}(hk:K p.block):w'.cell? p=w.cell? p:=World.cell?_of_block (h.keep p.block hk)
theorem aD.blk(h:aD K w w'){b:Nat}{t:TypeId}{cs:List Value}(c:aO w b t cs)(hk:K b):aO w' b t cs:=(h.keep b hk).trans c
theorem aD.set(b k:Nat)(v:Value)(hk:¬K b):aD K w (w.setCell ⟨b,k,none⟩ v):=by
 have h:=kK w b k v;refine⟨h.os,h.tape,h.output,h.size,λ c d=>?_⟩;exact Below.heap_setCell _ _ _ _ (λ e=>hk (by have f:c=b:=e;rw[<-f];exact d))
theorem aD.grown{row:Option Nat}(h:w.grownBy w' row)(hl:∀b,K b->b<w.heap.size)(d:∀b,row=some b->¬K b):aD K w w':=
 ⟨h.os,h.tape,h.output,h.size,λ b c=>h.block b (hl b c) (λ e=>d b e.symm c)⟩
theorem aD.Fo(h:Fr hs G cb n w w')(s:Sep K w G hs cb n):aD K w w':=
 ⟨h.os,h.tape,h.output,h.size,λ b c=>h.keep b (s.lt b c) (λ e=>s.g (e▸c)) (λ r e=>s.row r b e c) (λ d f e=>s.cl d f (e▸c))⟩
theorem Sep.more(s:Sep K w G hs cb n)(h:w.heap.size<=w'.heap.size):Sep K w' G hs cb n:=⟨λ b aa=>Zu (s.lt b aa) h,s.g,s.row,s.cl⟩
theorem Sep.mono(s:Sep K w G hs cb n)(hk:∀b,kW b->K b):Sep kW w G hs cb n:=⟨λ b aa=>s.lt b (hk b aa),λ h=>s.g (hk _ h),λ r b h aa=>s.row r b h (hk _ aa),λ d c h=>s.cl d c (hk _ h)⟩
theorem Sep.iS(s:Sep K w G hs cb n){r:Nat}{h':aq}(aa:∀g,h'.b=some g->¬K g):Sep K w G (iH hs r h') cb n:=
 ⟨s.lt,s.g,λ r' b e=>by
  by_cases c:r'=r
  ·subst c;rw[jH] at e;exact aa b e
  ·rw[aX _ _ c] at e;exact s.row r' b e,s.cl⟩
theorem Sep.aa(s:Sep K w G hs cb n){r:Nat}{h':aq}(aa:h'.b=(hs r).b\/∃g,h'.b=some g/\w.heap.size<=g):∀g,h'.b=some g->¬K g:=by
 intro g e hk;rcases aa with aa|⟨c,aa,hle⟩
 ·exact s.row r g (aa▸e) hk
 ·rw[aa] at e;injection e with e;subst e;have:=s.lt _ hk;omega
theorem j5.lt(h:j5 base w G hs cb gw cls n X):base<w.heap.size:=by have:=h.ru;have:=h.box.lt;omega
theorem mP{e:TypeId}{size:Nat}{v:Value}{k bp:Nat}{xs:List Value}(h:w.ownsRow bp e size v k xs)(c:∀b,v.ownBlock=some b->w'.heap[b]? =w.heap[b]?):w'.ownsRow bp e size v k xs:=by
 refine⟨h.1,h.2.imp id ?_⟩;rintro⟨g,cap,cur,rfl,h1,d,f⟩;exact⟨g,cap,cur,rfl,h1,(c g rfl).trans d,f⟩
theorem yK{e:TypeId}{size:Nat}{v:Value}{k bp bg:Nat}{xs:List Value}(h:w.ownsRow bp e size v k xs)(b:bg<=bp):w.ownsRow bg e size v k xs:=by
 refine⟨h.1,h.2.imp id ?_⟩;rintro⟨g,cap,cur,rfl,h1,c⟩;exact⟨g,cap,cur,rfl,Z3 b h1,c⟩
theorem j5.app(h:j5 base w G hs cb gw cls n X)(s:Sep K w G hs cb n){r m:Nat}{v':Value}{ys:List Value}(f:w'.ownsRow base (qY r) (nU r) v' m ys)(c:w.grownBy w' (hs r).v.ownBlock)(aa:v'.ownBlock=(hs r).v.ownBlock\/v'.ownBlock=some w.heap.size):
  ∃h':aq,v'=h'.v/\h'.n=m/\j5 base w' G (iH hs r h') cb gw cls n (iH X r ys)/\Sep K w' G (iH hs r h') cb n/\aD K w w':=by
 obtain⟨h',rfl,rfl⟩:=aq.lz f;rw[aq.own] at c aa;rw[aq.own] at aa;have i:h'.b=(hs r).b\/∃g,h'.b=some g/\w.heap.size<=g:=aa.imp id (λ e=>⟨_,e,r_ _⟩);refine⟨h',rfl,rfl,h.iS c f (i.imp id (λ⟨g,e,hle⟩ j d=>by rw[e] at d;injection d with d;omega)),(s.iS (s.aa i)).more c.size,aD.grown c s.lt (λ b e=>s.row r b e)⟩
theorem j5.JP(h:j5 base w G hs cb gw cls n X){r:Nat}{h':aq}{ys:List Value}(l:w.ownsRow base (qY r) (nU r) h'.v h'.n ys)(f:∀g,h'.b=some g->∀r',(hs r').b≠some g):
  j5 base w G (iH hs r h') cb gw cls n (iH X r ys):=by
 refine⟨h.box,⟨λ r'=>?_,λ c d g i h1=>?_⟩,h.cls,h.inj,h.ru,h.rU⟩
 ·by_cases e:r'=r
  ·subst e;rw[jH,jH];exact l
  ·rw[aX _ _ e,aX _ _ e];exact h.rows.row r'
 ·by_cases j:c=r
  ·subst j;rw[jH] at h1;rw[aX _ _ (λ e=>i e.symm)];exact f g h1 d
  ·rw[aX _ _ j] at h1
   by_cases k:d=r
   ·subst k;rw[jH];exact λ m=>f g m c h1
   ·rw[aX _ _ k];exact h.rows.apart c d g i h1
end
structure aU(K:Nat->Prop)(base:Nat)(w:World)(G:Nat)(hs:Nat->aq)(cb:Nat->Nat)(s:aj):Prop where
 e:iX base w G hs cb s
 s:Sep K w G hs cb s.c.cl.length
section
variable {base:Nat}{w w' w1:World}{G:Nat}{hs hs':Nat->aq}{cb:Nat->Nat}{s:aj}{K kW:Nat->Prop}
theorem aU.below(h:aU K base w G hs cb s)(b:Below w.heap.size w w'):aU K base w' G hs cb s/\aD K w w':=⟨⟨h.e.below b,h.s.more b.size⟩,aD.q3 b h.s.lt⟩
theorem aU.uW{s':aj}(h:aU K base w G hs cb s)(e:iX base w' G hs cb s')(b:s'.c.cl.length=s.c.cl.length)(f:Fr hs G cb s.c.cl.length w w'):aU K base w' G hs cb s'/\aD K w w':=⟨⟨e,by rw[b];exact h.s.more f.size⟩,.Fo f h.s⟩
theorem aU.Br(h:aU K base w G hs cb s)(hk:∀b,kW b->K b):aU kW base w G hs cb s:=⟨h.e,h.s.mono hk⟩
end
end
section
def pO(c:Core)(l:List Int)(both:Bool):Core:=
 if both=true then c
 else if l.length=0 then wN c
 else if l.length=1 then
  if jZ c (ai l 0)= -1 then wN (kj c l)
  else if jZ c (ai l 0)=0 then k5 (kj c l) (ai l 0) (some c.cl.length)
  else kj c l
 else kj c l
theorem imp_nil{F:List (List Int)}(h:pL F []):Unsat F:=λ M b=>by
 obtain⟨x,c,_⟩:=h M b
 cases c
theorem JQ(c:Core)(l:List Int)(b:Bool):(pO c l b).n=c.n:=by
 unfold pO;repeat (first|rfl|split)
theorem JR(c:Core)(l:List Int)(b:Bool):(pO c l b).st=c.st:=by
 unfold pO;repeat (first|rfl|split)
theorem JS(c:Core)(l:List Int)(b:Bool):(pO c l b).ag=c.ag:=by
 unfold pO;repeat (first|rfl|split)
theorem Bs(c:Core)(l:List Int)(b:Bool):(pO c l b).cl=if b=true\/l.length=0 then c.cl else c.cl++[l]:=by
 unfold pO
 by_cases h:b=true
 ·rw[if_pos h,if_pos (Z4 h)]
 ·rw[if_neg h]
  by_cases d:l.length=0
  ·rw[if_pos d,if_pos (Z_ d)];rfl
  ·rw[if_neg d,if_neg (c:=b=true\/l.length=0) (λ i=>i.elim h d)]
   by_cases e:l.length=1
   ·rw[if_pos e]
    by_cases f:jZ c (ai l 0)= -1
    ·rw[if_pos f];rfl
    ·rw[if_neg f]
     by_cases g:jZ c (ai l 0)=0
     ·rw[if_pos g];rfl
     ·rw[if_neg g];rfl
   ·rw[if_neg e];rfl
section
variable {F Fd:List (List Int)}{c:Core}{l:List Int}
theorem kf.take{h:Nat}{g:List Int}{both:Bool}(L:kf F Fd c h [])(hs:c.st=[])(E:h=0)(hl:both=false->l≠ []->oR c.n l)(f:both=false->pL F l)(o:∀x,x∈l↔x∈g)(G:both=true->vz g):
  kf F (Fd++[g]) (pO c l both) h []:=by
 have T:=L.aL;have B:∀i,lC c.st i=0:=λ i=>by rw[hs];rfl
 have H:c.st.length=0:=by rw[hs];rfl
 unfold pO
 by_cases p:both=true
 ·rw[if_pos p];exact L.more (Z_ (Z4 (G p)))
 ·rw[if_neg p];have d:both=false:=by simpa using p
  by_cases q:l.length=0
  ·rw[if_pos q];have:l=[]:=Zr q;have hu:Unsat F:=imp_nil (by have:=f d;rwa[‹l=[]›] at this);exact(L.E8 hu).more (Z4 rfl)
  ·rw[if_neg q];have s:l≠ []:=λ e=>q (by rw[e];rfl)
   have ok:=hl d s;have t:2<=l.length->∀a b,(a=ai l 0/\b=ai l 1\/a=ai l 1/\b=ai l 0)-> -a∈c.au.take h->b∈c.au/\aR c b<=aR c a:=λ _ a b _ hm=>by
    rw[E] at hm;simp at hm
   have r:∀k,k<c.st.length->wI (c.au.take (gQ c.st k)) l:=λ k hk=>by omega
   by_cases h1:l.length=1
   ·rw[if_pos h1];have hm:ai l 0∈l:=l5 (by omega);have u:=ok.lt _ hm;have C:∀y∈l,y=ai l 0:=λ y m=>by
     obtain⟨k,hk,e⟩:=qj.1 m;obtain rfl:k=0:=by omega
     exact e.symm
    by_cases v:jZ c (ai l 0)= -1
    ·rw[if_pos v];have hu:Unsat F:=λ M w=>by
      obtain⟨i,z,e⟩:=qj.1 ((T.xK u).1 v);have j:=yA T L.jK w i z (B i);rw[e] at j;obtain⟨y,m,D⟩:=f d M w;rw[C y m] at D;rw[w.1 _ u.oQ,D] at j
      cases j
     have I:=(L.E8 hu).new (l:=l) (g:=g) ok (f d) o t r (λ _=>Z4 rfl);exact I
    ·rw[if_neg v]
     by_cases A:jZ c (ai l 0)=0
     ·rw[if_pos A];exact L.E7 ok (f d) o A (λ y m s=>absurd (C y m) s) (λ _=>H) (λ j=>by omega) r
     ·rw[if_neg A];have J:jZ c (ai l 0)=1:=by have:=T.range (ai l 0);omega
      obtain⟨i,z,e⟩:=qj.1 ((T.pos _ u).1 J);exact L.new ok (f d) o t r (λ _=>Z_ ⟨i,z,e,B i⟩)
   ·rw[if_neg h1];exact L.new ok (f d) o t r (λ j=>absurd j h1)
end
end
section
def pq(c:Core):Prop:=∀v d,mF c.j9 v=some d->d<c.cl.length
structure tU(c0 c:Core):Prop where
 n:c.n=c0.n
 st:c.st=c0.st
 len:c.cl.length=c0.cl.length
 l9:c.l9=c0.l9
 Bt:c.wt.length=c0.wt.length
 au:∃e,c.au=c0.au++e
 cls:∀d x,x∈ax c.cl d↔x∈ax c0.cl d
 v0:ai c.val 0=ai c0.val 0
 qK:pq c0->pq c
theorem tU.refl(c:Core):tU c c:=⟨rfl,rfl,rfl,rfl,rfl,⟨[],by simp⟩,λ _ _=>ZN,rfl,id⟩
theorem tU.trans{a b c:Core}(h:tU a b)(h':tU b c):tU a c:=
 ⟨h'.n.trans h.n,h'.st.trans h.st,h'.len.trans h.len,h'.l9.trans h.l9,h'.Bt.trans h.Bt,by
  obtain⟨e,he⟩:=h.au;obtain⟨f,g⟩:=h'.au;exact⟨e++f,by rw[g,he,List.append_assoc]⟩,λ d x=>(h'.cls d x).trans (h.cls d x),h'.v0.trans h.v0,λ w=>h'.qK (h.qK w)⟩
theorem pq.set{c:Core}(h:pq c){x:Int}(o:Option Nat)(e:∀d,o=some d->d<c.cl.length):pq (k5 c x o):=by
 intro v d b;have b:mF (c.j9.set (aH x) o) v=some d:=b;show d<c.cl.length;rw[wG] at b;split at b
 ·exact e d b
 ·exact h v d b
theorem Fp:∀(xs:List Int)(l:List (Option Nat))(v d:Nat),mF (th l xs) v=some d->mF l v=some d
 |[],_,_,_,h=>h
 |x::xs,l,v,d,h=>by
  have h1:=Fp xs (l.set (aH x) none) v d h;rw[wG] at h1;split at h1
  ·cases h1
  ·exact h1
theorem pq.back(h:pq c)(level:Nat):pq (mJ c level):=λ v d b=>h v d (Fp _ _ v d b)
theorem pq.new(h:pq c)(l:List Int):pq (kj c l):=λ v d b=>by
 show d<(c.cl++[l]).length;rw[q_];have:=h v d b;omega
theorem jV.len(T:jV c):c.au.length<=c.n:=by
 have h:=xL (c.n+1) (0::c.au.map aH) (ZS.2 ⟨λ h=>by
  obtain⟨x,b,e⟩:=Zx.1 h;have:=(T.lit x b).1;omega,T.nr⟩) (λ v d=>by
  rcases Z7.1 d with rfl|d
  ·omega
  ·obtain⟨x,b,e⟩:=Zx.1 d;have:=(T.lit x b).2;omega)
 simp at h;omega
structure ou(F Fd:List (List Int))(jL:List Int)(c0:Core)(h:Nat)(lit:Int)(list:List Nat)(i:Nat)(kept:List Nat)(c:Core):Prop where
 gK:kf F Fd c (h+1) (list.drop i)
 kB:ai c.au h=lit
 wt:ax c.wt (jD lit)=kept++list.drop i
 kl:kept.length<=i
 Dm:i<=list.length
 sm:tU c0 c
 ag:c.ag=h+1
 jL:nI c jL
 cur:∀k,k<c.st.length->gQ c.st k<=h
section
variable {F Fd:List (List Int)}{jL:List Int}{c0 c:Core}{h:Nat}{lit:Int}{list kept:List Nat}{i:Nat}
theorem ou.start(L:kf F Fd c0 h [])(A:nI c0 jL)(ay:h<c0.au.length):ou F Fd jL c0 h (ai c0.au h) (ax c0.wt (jD (ai c0.au h))) 0 [] {c0 with ag:=h+1}:=
 ⟨by rw[Zh];exact L.next ay,rfl,by simp,r_ _,Z6 _,⟨rfl,rfl,rfl,rfl,rfl,⟨[],by simp⟩,λ _ _=>ZN,rfl,λ w=>w⟩,rfl,A.same rfl rfl rfl,L.cur⟩
theorem ou.rB(V:ou F Fd jL c0 h lit list i kept c)(b:i<list.length):list[i]<c.cl.length/\2<=(ax c.cl list[i]).length/\(lit= -(w0 c list[i])\/lit= -(w1 c list[i])):=by
 have hm:list[i]∈ax c.wt (jD lit):=by rw[V.wt,j_ b];exact List.mem_append_right _ (List.mem_cons_self)
 obtain⟨h1,d,e⟩:=V.gK.wt.qW _ _ hm;exact⟨h1,d,e.imp vO vO⟩
theorem ou.ay(V:ou F Fd jL c0 h lit list i kept c):h<c.au.length:=V.gK.hle
theorem ou.Fq(V:ou F Fd jL c0 h lit list i kept c):lit∈c.au:=by rw[<-V.kB];exact l5 V.ay
theorem ou.swap(V:ou F Fd jL c0 h lit list i kept c)(b:i<list.length):ou F Fd jL c0 h lit list i kept (lN c list[i] (kL (ax c.cl list[i]) 0 1)):=by
 obtain⟨h1,f,_⟩:=V.rB b;have hm:=wL (l:=ax c.cl list[i]) (i:=0) (j:=1) (by omega) (by omega);refine⟨V.gK.swap h1 f,V.kB,V.wt,V.kl,V.Dm,V.sm.trans ⟨rfl,rfl,rj _ _ _,rfl,rfl,⟨[],by simp[lN]⟩,λ e x=>?_,rfl,λ w v d g=>by rw[rj];exact w v d g⟩,V.ag,V.jL.same rfl rfl rfl,V.cur⟩;rw[uo];split
 ·rename_i k;rw[<-k.1];exact hm x
 ·exact ZN
theorem ou.keep(V:ou F Fd jL c0 h lit list i kept c)(b:i<list.length)(hw:w1 c list[i]= -lit)(d:w0 c list[i]∈c.au):ou F Fd jL c0 h lit list (i+1) (kept++[list[i]]) c:=by
 obtain⟨h1,e,_⟩:=V.rB b;have L:=V.gK;rw[j_ b] at L;refine⟨L.kept h1 e (by omega) ?_ d (λ k hk=>?_),V.kB,?_,?_,b,V.sm,V.ag,V.jL,V.cur⟩
 ·rw[f_,V.kB,hw];omega
 ·rw[f_];exact V.cur k hk
 ·rw[V.wt,j_ b];simp
 ·rw[q_,d_];have:=V.kl;omega
theorem ou.move(V:ou F Fd jL c0 h lit list i kept c)(f:i<list.length)(hw:w1 c list[i]= -lit){k:Nat}(hk:2<=k)(g:k<(ax c.cl list[i]).length)(p:jZ c (ai (ax c.cl list[i]) k)≠-1):
  ou F Fd jL c0 h lit list (i+1) kept (se c list[i] k (kept++list.drop (i+1)))/\jD (-(ai (ax c.cl list[i]) k))≠jD lit:=by
 obtain⟨h1,z,_⟩:=V.rB f;have L:=V.gK;have T:=L.aL;have n:=L.jK.mI _ h1;have q:=n.lt _ (l5 g);have r:¬-(ai (ax c.cl list[i]) k)∈c.au:=λ b=>p ((T.xK q).2 b)
 have o:jD (-(ai (ax c.cl list[i]) k))≠jD lit:=λ e=>by
  have A:=vO e;have:ai (ax c.cl list[i]) 1=ai (ax c.cl list[i]) k:=by
   have B:w1 c list[i]=ai (ax c.cl list[i]) 1:=rfl;omega
  have:=uU n.nr (i:=1) (j:=k) (by omega) g this;omega
 have m: -(w1 c list[i])=lit:=by rw[hw];omega
 have s:=V.wt;rw[j_ f] at L;have t:=L.move (kept:=kept) h1 hk g (by omega) (by rw[f_,V.kB,m]) r (by rw[m,s,j_ f]);have hm:=wL (l:=ax c.cl list[i]) (i:=1) (j:=k) (by omega) g;refine⟨⟨t,V.kB,?_,by have:=V.kl;omega,f,V.sm.trans ⟨rfl,rfl,rj _ _ _,rfl,?_,⟨[],by simp[se,lN]⟩,λ e x=>?_,rfl,λ w v d u=>by show d<(lN c list[i] (kL (ax c.cl list[i]) 1 k)).cl.length;rw[rj];exact w v d u⟩,V.ag,V.jL.same rfl rfl rfl,V.cur⟩,o⟩
 ·show ax ((c.wt.set (jD (-(w1 c list[i]))) (kept++list.drop (i+1))).set (jD (-(ai (ax c.cl list[i]) k))) _) (jD lit)=_;have y:jD (-(w1 c list[i]))<c.wt.length:=by rw[L.wt.qV,m];exact(T.lit _ V.Fq).at
  rw[qE,if_neg (λ b=>o b.1),qE,if_pos ⟨by rw[m],y⟩]
 ·show((c.wt.set _ _).set _ _).length=_;rw[v_,v_]
 ·show x∈ax (lN c list[i] (kL (ax c.cl list[i]) 1 k)).cl e↔_;rw[uo];split
  ·rename_i b;rw[<-b.1];exact hm x
  ·exact ZN
theorem ou.Fs(V:ou F Fd jL c0 h lit list i kept c)(g:i<list.length)(hw:w1 c list[i]= -lit)(j:∀k,2<=k->k<(ax c.cl list[i]).length->jZ c (ai (ax c.cl list[i]) k)= -1):
  ∀x∈ax c.cl list[i],x≠w0 c list[i]-> -x∈c.au:=by
 obtain⟨h1,m,_⟩:=V.rB g;intro x b l;obtain⟨k,hk,e⟩:=qj.1 b;have ay:=(V.gK.jK.mI _ h1).lt x b;rcases l_ k 2 with d|d
 ·rcases Zi k with f|f
  ·subst f;exact absurd e.symm l
  ·obtain rfl:k=1:=by omega
   have:x= -lit:=by rw[<-e];exact hw
   rw[this,Int.neg_neg];exact V.Fq
 ·exact(V.gK.aL.xK ay).1 (by rw[<-e];exact j k d hk)
theorem ou.JT(V:ou F Fd jL c0 h lit list i kept c)(b:i<list.length)(hw:w1 c list[i]= -lit)(g:∀k,2<=k->k<(ax c.cl list[i]).length->jZ c (ai (ax c.cl list[i]) k)= -1)(j:jZ c (w0 c list[i])= -1):
  kf F Fd c h []/\∀x∈ax c.cl list[i],-x∈c.au:=by
 obtain⟨h1,l,_⟩:=V.rB b;have d:=V.gK.low (by omega) (λ k hk=>by rw[f_];exact V.cur k hk);rw[f_] at d;refine⟨d,λ x f=>?_⟩
 by_cases e:x=w0 c list[i]
 ·rw[e];exact(V.gK.aL.xK ((V.gK.jK.mI _ h1).lt _ (e▸f))).1 j
 ·exact V.Fs b hw g x f e
theorem ou.set(V:ou F Fd jL c0 h lit list i kept c)(b:i<list.length)(hw:w1 c list[i]= -lit)(j:∀k,2<=k->k<(ax c.cl list[i]).length->jZ c (ai (ax c.cl list[i]) k)= -1)(g:jZ c (w0 c list[i])=0):
  ou F Fd jL c0 h lit list (i+1) (kept++[list[i]]) (k5 c (w0 c list[i]) (some list[i])):=by
 obtain⟨h1,p,_⟩:=V.rB b;have T:=V.gK.aL;have l:=V.gK.jK.mI _ h1;have hm:w0 c list[i]∈ax c.cl list[i]:=l5 (by omega);have f:=l.lt _ hm;have m:=V.gK.set (w:=some list[i]) f g ⟨h1,hm,V.Fs b hw j⟩;have n:ou F Fd jL c0 h lit list i kept (k5 c (w0 c list[i]) (some list[i])):=by
  refine⟨m,?_,V.wt,V.kl,V.Dm,V.sm.trans ⟨rfl,rfl,rfl,rfl,rfl,⟨[_],rfl⟩,λ _ _=>ZN,by show ai (c.val.set _ _) 0=_;rw[o7,if_neg (by have:=f.1;omega)],λ w v d o=>pq.set w (some list[i]) (λ e he=>by injection he with he;rw[<-he];exact h1) v d o⟩,V.ag,V.jL.set T f g,V.cur⟩;show ai (c.au++[_]) h=lit;rw[sJ V.ay];exact V.kB
 exact n.keep b hw (by show w0 c list[i]∈c.au++[_];simp)
theorem ou.done(V:ou F Fd jL c0 h lit list list.length kept c):kf F Fd c (h+1) []/\ax c.wt (jD lit)=kept:=by
 have h1:=V.gK;have b:=V.wt;rw[List.drop_length] at h1 b;exact⟨h1,by rw[b];simp⟩
end
end
section
structure qq(c:Core)(mO:List Int)(i level:Nat)(r:List Int):Prop where
 mem:∀x,x∈r↔x∈mO
 len:r.length=mO.length
 ag:ai r 0=ai mO 0
 nr:r.Nodup
 le:∀k,1<=k->k<i->k<r.length->aR c (ai r k)<=level
 Ft:2<=i->2<=r.length->aR c (ai r 1)=level
 low:i<=1->level=0
 lt:level<c.st.length
structure gY(F:List (List Int))(c:Core)(u:Int)(r:List Int):Prop where
 imp:pL F (u::r)
 Fu: -u∈c.au
 Fv:aR c u=c.st.length
 Bu:∀x∈r,-x∈c.au/\1<=aR c x/\aR c x<c.st.length
 nr:r.Nodup
section
variable {F Fd:List (List Int)}{c:Core}{r mO:List Int}{i level:Nat}{u:Int}
theorem qq.start(b:mO.Nodup)(hs:0<c.st.length):qq c mO 1 0 mO:=
 ⟨λ _=>ZN,rfl,rfl,b,λ k h1 d=>by omega,λ h=>by omega,λ _=>rfl,hs⟩
theorem qq.stay(h:qq c mO i level r)(h1:1<=i)(f:i<r.length)(hl:aR c (ai r i)<=level)(e:i=1->1<=aR c (ai r 1)):qq c mO (i+1) level r:=
 ⟨h.mem,h.len,h.ag,h.nr,λ k a b d=>by
  rcases l_ k i with hk|hk
  ·exact h.le k a hk d
  ·obtain rfl:k=i:=by omega
   exact hl,λ a b=>by
  rcases l_ i 2 with hk|hk
  ·obtain rfl:i=1:=by omega
   have:=e rfl;have:=h.low (r_ _);omega
  ·exact h.Ft hk b,λ a=>by omega,h.lt⟩
theorem qq.iS(h:qq c mO i level r)(h1:1<=i)(f:i<r.length)(hl:level<aR c (ai r i))(hs:aR c (ai r i)<c.st.length):qq c mO (i+1) (aR c (ai r i)) (kL r 1 i):=by
 have g:=λ k=>qF (l:=r) (i:=1) (j:=i) (by omega) f k
 refine⟨λ x=>(wL (by omega) f x).trans (h.mem x),(sd _ _ _).trans h.len,?_,E5 (by omega) f h.nr,λ k a b d=>?_,λ a b=>?_,λ a=>by omega,hs⟩
 ·rw[g,if_neg (by omega),if_neg (by omega)];exact h.ag
 ·rw[sd] at d;rw[g]
  by_cases e:k=i
  ·rw[if_pos e];rcases l_ i 2 with hk|hk
   ·obtain rfl:i=1:=by omega
    exact r_ _
   ·have:=h.le 1 (r_ _) (by omega) (by omega);omega
  ·rw[if_neg e]
   by_cases m:k=1
   ·rw[if_pos m];exact r_ _
   ·rw[if_neg m];have:=h.le k a (by omega) d;omega
 ·rw[g]
  by_cases e:1=i
  ·rw[if_pos e];rw[e]
  ·rw[if_neg e,if_pos rfl]
theorem gY.nodup(h:gY F c u r)(T:jV c):(u::r).Nodup:=
 ZS.2 ⟨λ hu=>by have:=(h.Bu u hu).2.2;have:=h.Fv;omega,h.nr⟩
theorem qq.done(h:qq c (u::mO) i level r)(o:r.length=i)(L:gY F c u mO)(T:jV c):uV F c r level:=by
 have j:ai r 0=u:=h.ag;have hlen:r.length=mO.length+1:=h.len;have f:∀x∈r,-x∈c.au:=λ x d=>by
  rcases Z7.1 ((h.mem x).1 d) with rfl|d
  ·exact L.Fu
  ·exact(L.Bu x d).1
 refine⟨⟨λ e=>by rw[e] at hlen;simp at hlen,λ x d=>by have:=(T.lit _ (f x d)).neg;rwa[Int.neg_neg] at this,h.nr,λ x d l=>T.apart (f x d) (by exact f _ l)⟩,?_,f,by rw[j];exact L.Fv,λ k a b=>h.le k a (by omega) b,h.lt,λ g=>h.Ft (by omega) g,λ g=>h.low (by omega)⟩
 ·intro M m;obtain⟨x,d,n⟩:=L.imp M m;exact⟨x,(h.mem x).2 d,n⟩
end
end
section
def js:Int:=1099511627776
def lH(s:aj)(d:Nat):si:=s.ci.getD d ⟨false,0,0⟩
structure mu(n:Nat)(A B:Int)(s:aj):Prop where
 jh:s.c.n=n
 lT:mh n s.ord s.pl
 kM:s.act.length=n+1
 pP:∀v,0<=ai s.act v/\ai s.act v<=A
 a0:ai s.act 0=0
 rC:1<=s.aM
 oS:s.aM<=A
 nB:s.bl.length=n+1
 oT:jE s.bl 0=false
 nV:s.ci.length=s.c.cl.length
 qa:∀d,0<=(lH s d).ac/\(lH s d).ac<=B/\0<=(lH s d).aR/\(lH s d).aR<=js
 kX:∀d∈s.aI,d<s.c.cl.length
structure ov(s s':aj):Prop where
 c:s'.c=s.c
 bl:s'.bl=s.bl
 aI:s'.aI=s.aI
 aA:s'.aA=s.aA
 aN:s'.aN=s.aN
 nl:s'.nl=s.nl
 jl:s'.jl=s.jl
 ol:s'.ord.length=s.ord.length
 same:vR s.pl s'.pl
 nV:s'.ci.length=s.ci.length
 ci:∀d,(lH s' d).kU=(lH s d).kU/\(lH s' d).aR=(lH s d).aR
theorem ov.refl(s:aj):ov s s:=⟨rfl,rfl,rfl,rfl,rfl,rfl,rfl,rfl,.refl _,rfl,λ _=>⟨rfl,rfl⟩⟩
theorem ov.trans{a b c:aj}(h:ov a b)(h':ov b c):ov a c:=
 ⟨h'.c.trans h.c,h'.bl.trans h.bl,h'.aI.trans h.aI,h'.aA.trans h.aA,h'.aN.trans h.aN,h'.nl.trans h.nl,h'.jl.trans h.jl,h'.ol.trans h.ol,h.same.trans h'.same,h'.nV.trans h.nV,
  λ d=>⟨(h'.ci d).1.trans (h.ci d).1,(h'.ci d).2.trans (h.ci d).2⟩⟩
structure pW(s s':aj):Prop where
 eq:∃o p,s'={s with ord:=o,pl:=p}
 lT:mh s.c.n s'.ord s'.pl
 ol:s'.ord.length=s.ord.length
 same:vR s.pl s'.pl
theorem pW.refl{s:aj}(h:mh s.c.n s.ord s.pl):pW s s:=⟨⟨s.ord,s.pl,rfl⟩,h,rfl,.refl _⟩
theorem pW.trans{a b c:aj}(h:pW a b)(h':pW b c):pW a c:=by
 obtain⟨o,p,rfl⟩:=h.eq;obtain⟨d,e,rfl⟩:=h'.eq;exact⟨⟨d,e,rfl⟩,h'.lT,h'.ol.trans h.ol,h.same.trans h'.same⟩
theorem pW.hk(h:pW s s'):ov s s':=by
 obtain⟨o,p,rfl⟩:=h.eq;exact⟨rfl,rfl,rfl,rfl,rfl,rfl,rfl,h.ol,h.same,rfl,λ _=>⟨rfl,rfl⟩⟩
theorem pW.rg(h:pW s s')(r:mu n A B s):mu n A B s':=by
 obtain⟨o,p,rfl⟩:=h.eq;have:=h.lT;rw[r.jh] at this;exact⟨r.jh,this,r.kM,r.pP,r.a0,r.rC,r.oS,r.nB,r.oT,r.nV,r.qa,r.kX⟩
theorem Dn(h:l.length<=k):ai l k=0:=by simp[ai,x_,e_ h]
theorem mu.act{n:Nat}{A A' B:Int}{s:aj}(r:mu n A B s)(d:A<=A'){v:Nat}(e:1<=v){x:Int}(c:0<=x)(h1:x<=A'):mu n A' B (s.p8 v x):=by
 refine⟨r.jh,r.lT,by show(s.act.set v x).length=_;rw[v_];exact r.kM,λ u=>?_,?_,r.rC,by have:=r.oS;show s.aM<=_;omega,r.nB,r.oT,r.nV,r.qa,r.kX⟩
 ·show 0<=ai (s.act.set v x) u/\_;have b:ai (s.p8 v x).act u=if v=u/\v<s.act.length then x else ai s.act u:=o7 _ _ _ _
  rw[show ai (s.act.set v x) u=_ from b,b];split
  ·exact⟨c,h1⟩
  ·have:=r.pP u;exact⟨this.1,by omega⟩
 ·show ai (s.act.set v x) 0=0;rw[o7,if_neg (by omega)];exact r.a0
theorem ov.act(s:aj)(v:Nat)(x:Int):ov s (s.p8 v x):=⟨rfl,rfl,rfl,rfl,rfl,rfl,rfl,rfl,.refl _,rfl,λ _=>⟨rfl,rfl⟩⟩
def aj.vY(s:aj)(x:Int):aj:={s with aM:=x}
theorem mu.zZ(r:mu n A B s)(b:A<=A'){x:Int}(c:1<=x)(h1:x<=A'):mu n A' B (s.vY x):=
 ⟨r.jh,r.lT,r.kM,λ u=>by have:=r.pP u;exact⟨this.1,Z5 this.2 b⟩,r.a0,c,h1,r.nB,r.oT,r.nV,r.qa,r.kX⟩
theorem ov.zZ(s:aj)(x:Int):ov s (s.vY x):=⟨rfl,rfl,rfl,rfl,rfl,rfl,rfl,rfl,.refl _,rfl,λ _=>⟨rfl,rfl⟩⟩
theorem mu.mono(r:mu n A B s)(b:A<=A')(c:B<=q4):mu n A' q4 s:=
 ⟨r.jh,r.lT,r.kM,λ u=>by have:=r.pP u;exact⟨this.1,Z5 this.2 b⟩,r.a0,r.rC,Z5 r.oS b,r.nB,r.oT,r.nV,λ d=>by have:=r.qa d;exact⟨this.1,Z5 this.2.1 c,this.2.2⟩,r.kX⟩
def aj.wV(s:aj)(d:Nat)(x:Int):aj:={s with ci:=s.ci.set d {lH s d with ac:=x}}
theorem z1(s:aj)(d:Nat)(x:Int)(e:Nat):lH (s.wV d x) e=if d=e/\d<s.ci.length then {lH s e with ac:=x} else lH s e:=by
 unfold lH aj.wV;dsimp only;simp only[x_,List.getElem?_set]
 by_cases h:d=e
 ·subst h
  by_cases b:d<s.ci.length
  ·simp[b,lH,x_]
  ·simp[b]
 ·simp[h]
theorem mu.ow(r:mu n A B s)(b:B<=q4){d:Nat}{x:Int}(c:0<=x)(h1:x<=q4):mu n A q4 (s.wV d x):=by
 refine⟨r.jh,r.lT,r.kM,r.pP,r.a0,r.rC,r.oS,r.nB,r.oT,by show(s.ci.set _ _).length=_;rw[v_];exact r.nV,λ e=>?_,r.kX⟩;rw[z1];have:=r.qa e;split
 ·exact⟨c,h1,this.2.2⟩
 ·exact⟨this.1,Z5 this.2.1 b,this.2.2⟩
theorem ov.ow(s:aj)(d:Nat)(x:Int):ov s (s.wV d x):=by
 refine⟨rfl,rfl,rfl,rfl,rfl,rfl,rfl,rfl,.refl _,by show(s.ci.set _ _).length=_;rw[v_],λ e=>?_⟩;rw[z1];split<;>exact⟨rfl,rfl⟩
end
section
open Go.RowKit Go.Shelf
def aj.swp(s:aj)(i k:Nat):aj:={s with ord:=kL s.ord i k,pl:=uv s.ord s.pl i k}
def Bv(g7 g8 i k a b:Nat)(w:World):World:=(((((w.setCell ⟨g7,i,none⟩ (.int .i64 (b:Int))).setCell ⟨g7,k,none⟩ (.int .i64 (a:Int))).drew).setCell ⟨g8,b,none⟩ (.int .i64 (i:Int))).setCell ⟨g8,a,none⟩ (.int .i64 (k:Int))).drew
def Fw(g7 g8 i k a b:Nat)(w:World)(e:Ending)(w':World):Prop:=e=.returned (.tuple #[])/\w'=Bv g7 g8 i k a b w
theorem JU{w:World}{n7 n8:Nat}(i k a b:Nat)(c:i≠k)(d:k≠i)(e:a≠b)(f:b≠a)(g:w.cell? ⟨G,10,none⟩=some (.slice (some ⟨g7,0,none⟩) n7 gZ))(j:w.cell? ⟨G,11,none⟩=some (.slice (some ⟨g8,0,none⟩) n8 pz))
  (li:(i:Int)<(n7:Int)) (l:(k:Int)<(n7:Int)) (m:(a:Int)<(n8:Int)) (lb:(b:Int)<(n8:Int)) (c1:w.cell? ⟨g7,i,none⟩=some (.int .i64 (a:Int))) (c2:w.cell? ⟨g7,k,none⟩=some (.int .i64 (b:Int)))
  (d1:∃v,w.cell? ⟨g8,a,none⟩=some v) (d2:∃v,w.cell? ⟨g8,b,none⟩=some v) (f1:w.frozen? ⟨g7,i,none⟩=false) (f2:w.frozen? ⟨g7,k,none⟩=false) (f3:w.frozen? ⟨g8,a,none⟩=false) (f4:w.frozen? ⟨g8,b,none⟩=false) (n:G≠g7) (o:g7≠G) (p:G≠g8) (q:g7≠g8) (r:g8≠g7):
   Calls w_ 193 #[.pointer (some ⟨G,0,none⟩),.int .i64 i,.int .i64 k] w (Fw g7 g8 i k a b w):=by
 obtain⟨v1,d1⟩:=d1;obtain⟨v2,d2⟩:=d2;go_enter Tryz.func193,Tryz.ntmps193
 go_wp2_with fail
 go_region
 go_wp2_with fail
 go_region
 go_wp2;go_end0;exact⟨rfl,rfl⟩
theorem JV{w:World}{n7 n8:Nat}(i a:Nat)(b:w.cell? ⟨G,10,none⟩=some (.slice (some ⟨g7,0,none⟩) n7 gZ))(c:w.cell? ⟨G,11,none⟩=some (.slice (some ⟨g8,0,none⟩) n8 pz))
  (li:(i:Int)<(n7:Int)) (d:(a:Int)<(n8:Int)) (c1:w.cell? ⟨g7,i,none⟩=some (.int .i64 (a:Int)))
  (d1:∃v,w.cell? ⟨g8,a,none⟩=some v) (f1:w.frozen? ⟨g7,i,none⟩=false) (f3:w.frozen? ⟨g8,a,none⟩=false) (e:G≠g7) (f:g7≠G) (g:G≠g8) (j:g7≠g8) (k:g8≠g7):
   Calls w_ 193 #[.pointer (some ⟨G,0,none⟩),.int .i64 i,.int .i64 i] w (Fw g7 g8 i i a a w):=by
 obtain⟨v1,d1⟩:=d1;go_enter Tryz.func193,Tryz.ntmps193
 go_wp2_with fail
 go_region
 go_wp2_with fail
 go_region
 go_wp2;go_end0;exact⟨rfl,rfl⟩
theorem Dp{w:World}(h:aU K base w G hs cb s)(O:mh s.c.n s.ord s.pl)(i k:Nat)(l:i<s.ord.length)(hk:k<s.ord.length):
  Calls w_ 193 #[.pointer (some ⟨G,0,none⟩),.int .i64 i,.int .i64 k] w λ e w'=>e=.returned (.tuple #[])/\aU K base w' G hs cb (s.swp i k)/\aD K w w':=by
 have J:=O.sL;obtain⟨g7,f,y,f7⟩:=h.e.lV 10 7 rfl h.e.n7 (by omega);obtain⟨g8,g,z,f8⟩:=h.e.lV 11 8 rfl h.e.n8 (by omega);have m:=O.inv i l;have t:=O.inv k hk;obtain⟨a,u⟩:∃a:Nat,ai s.ord i=a:=⟨(ai s.ord i).toNat,by omega⟩
 obtain⟨b,o⟩:∃b:Nat,ai s.ord k=b:=⟨(ai s.ord k).toNat,by omega⟩
 have c1:=h.e.xT f l;have c2:=h.e.xT f hk;rw[u] at c1 m;rw[o] at c2 t;have A:i≠k->a≠b:=λ L e=>by
  rw[Int.toNat_natCast] at m t;rw[e] at m;have:=m.2.2.symm.trans t.2.2;omega
 have d1:=h.e.wU g (k:=a) (by omega);have d2:=h.e.wU g (k:=b) (by omega);have p:=h.e.uy 7 g7 f;have B:=h.e.uy 8 g8 g;have q:g7≠g8:=h.e.wT (r:=7) (r':=8) (by omega) f g;have D:iX base (Bv g7 g8 i k a b w) G hs cb (s.swp i k):=by
  have h1:=j5.below (iX.xS (iX.xS (s:=(s.tR i b).tR k a) (j5.below (iX.Fj (iX.Fj h.e f i b) f k a) (g_ _ _).drew) g b i) g a k) (g_ _ _).drew;have e:(((((s.tR i b).tR k a)).pV b i).pV a k)=s.swp i k:=by
   have E:ai (kL s.ord i k) i=if i=k then ai s.ord i else ai s.ord k:=by rw[qF l hk];simp
   have F:ai (kL s.ord i k) k=ai s.ord i:=by rw[qF l hk,if_pos rfl]
   have H:ai (kL s.ord i k) i=b:=by
    rw[E];split
    ·rename_i h;rw[<-o,h]
    ·exact o
   have I:ai (kL s.ord i k) k=a:=by rw[F,u]
   unfold aj.swp uv;rw[H,I];unfold kL;rw[u,o];rfl
  rw[<-e];exact h1
 have hF:aD K w (Bv g7 g8 i k a b w):=by
  have k7:=h.s.row 7 g7 f;have k8:=h.s.row 8 g8 g;have d:∀W:World,aD K W W.drew:=λ W=>⟨rfl,rfl,rfl,r_ _,λ _ _=>rfl⟩
  exact(((((aD.set g7 i _ k7).trans (aD.set g7 k _ k7)).trans (d _)).trans (aD.set g8 b _ k8)).trans (aD.set g8 a _ k8)).trans (d _)
 have C:aU K base (Bv g7 g8 i k a b w) G hs cb (s.swp i k):=⟨D,h.s.more hF.size⟩
 by_cases j:i=k
 ·subst j;obtain rfl:a=b:=by omega
  exact(JV i a y z (by omega) (by omega) c1 ⟨_,d1⟩ (f7 i) (f8 a) p p.symm B q q.symm).mono λ e w' ⟨h1,v⟩=>by subst v;exact⟨h1,C,hF⟩
 ·exact(JU i k a b j (λ e=>j e.symm) (A j) (A j).symm y z (by omega) (by omega) (by omega) (by omega) c1 c2 ⟨_,d1⟩ ⟨_,d2⟩ (f7 i) (f7 k) (f8 a) (f8 b) p p.symm B q q.symm).mono λ e w' ⟨h1,v⟩=>by subst v;exact⟨h1,C,hF⟩
theorem pW.swp{s:aj}(O:mh s.c.n s.ord s.pl){i k:Nat}(b:i<s.ord.length)(hk:k<s.ord.length):pW s (s.swp i k):=⟨⟨_,_,rfl⟩,O.swap b hk,sd _ _ _,O.Fb b hk⟩
end
section
open Go.RowKit Go.Shelf
def Bw(s:aj)(v u:Nat):Bool:=decide (rJ (oz (ai s.act u) (ai s.act v)) ((v:Int)-(u:Int))<0)
theorem JW{w:World}{g c:Nat}(v u:Nat)(x y:Int)(q:w.cell? ⟨G,8,none⟩=some (.slice (some ⟨g,0,none⟩) n c))(b:(v:Int)<(n:Int))(hu:(u:Int)<(n:Int))(d:v<=65536)(f:u<=65536)
  (i:w.cell? ⟨g,v,none⟩=some (.int .i64 x)) (j:w.cell? ⟨g,u,none⟩=some (.int .i64 y)):
  Calls w_ 225 #[.pointer (some ⟨G,0,none⟩),.int .i64 v,.int .i64 u] w λ e w'=>e=.returned (.bool (decide (rJ (oz y x) ((v:Int)-(u:Int))<0)))/\Below w.heap.size w w':=by
 have k:wrap64 ((v:Int)-(u:Int))=(v:Int)-(u:Int):=by unfold wrap64;omega
 go_enter Tryz.func225,Tryz.ntmps225
 go_wp2;refine Zo 18 (by kernel_rfl) (by kernel_rfl) ?_;simp only[Zm,Zg,Zl,Zh]
 iterate 14 still_step
 still_call ((zD _ _ _).mono (λ e w' h=>⟨h.1,h.2.symm⟩))
 iterate 3 still_step
 refine ZQ ?_;change wpList _ _ _ _ _ w.drew
 go_wp2_with fail
 refine(A0 w.heap.size (oz y x) ((v:Int)-(u:Int)) _ (by go_simp) (by go_simp)).mono ?_;rintro e w' ⟨rfl,rfl⟩;go_wp2;go_ret;exact⟨mo rfl,((g_ _ _).alloc (r_ _) _).drew⟩
section
variable {K:Nat->Prop}{base:Nat}{w:World}{G:Nat}{hs:Nat->aq}{cb:Nat->Nat}{s:aj}
theorem JX(h:iX base w G hs cb s)(v u:Nat)(c:v<s.act.length)(hu:u<s.act.length)(hl:s.act.length<=65537):
  Calls w_ 225 #[.pointer (some ⟨G,0,none⟩),.int .i64 v,.int .i64 u] w λ e w'=>e=.returned (.bool (Bw s v u))/\Below w.heap.size w w':=by
 obtain⟨g,b,q,f⟩:=h.lV 8 6 rfl h.n6 (by omega);exact JW v u _ _ q (by omega) (by omega) (by omega) (by omega) (h.yJ b c) (h.yJ b hu)
end
end
section
open Go.RowKit Go.Shelf
section
variable {K:Nat->Prop}{base:Nat}{w W:World}{G:Nat}{hs:Nat->aq}{cb:Nat->Nat}{s:aj}
theorem kC.ahead(h:iX base W G hs cb s)(u:kC W){v z:Nat}(d:v<s.act.length)(f:z<s.act.length)(hl:s.act.length<=65537){b:Bool}(g:Bw s v z=b):
  Calls w_ 225 #[.pointer (some ⟨G,0,none⟩),.int .i64 v,.int .i64 z] u.val λ e w'=>e=.returned (.bool b)/\∃i:kC W,w'=i.val:=
 kC.call u ((JX (h.below u.ok) v z d f hl).mono λ e w' c=>⟨c.1.trans (by rw[g]),c.2⟩)
end
def Fx(K:Nat->Prop)(base:Nat)(w:World)(G:Nat)(hs:Nat->aq)(cb:Nat->Nat)(s:aj)(e:Ending)(w':World):Prop:=
 e=.returned (.tuple #[])/\∃s',pW s s'/\aU K base w' G hs cb s'/\aD K w w'
theorem yL(x:Nat)(h:x<=9223372036854775807):Zn.wrap (x:Int)=x:=by rw[Zd];omega
theorem mh.nat(O:mh n ord pl){i:Nat}(b:i<ord.length):∃a:Nat,ai ord i=a/\1<=a/\a<=n:=by
 have:=O.inv i b;exact⟨(ai ord i).toNat,by omega,by omega,by omega⟩
theorem Dq{w:World}(h:aU K base w G hs cb s)(O:mh s.c.n s.ord s.pl)(S:s.act.length=s.c.n+1)(af:s.c.n<=65536)(i:Nat)(T:i<s.ord.length)(ag:s.ord.length<=65537):
  Calls w_ 187 #[.pointer (some ⟨G,0,none⟩),.int .i64 i] w (Fx K base w G hs cb s):=by
 have H:=U h;have V:=U O;clear h O;go_enter Tryz.func187,Tryz.ntmps187
 go_wp2_with fail
 go_loopw [1] (λ s1 W=>∃(k:Nat)(s':aj),s1=.int .i64 k/\k<s.ord.length/\pW s s'/\aU K base W G hs cb s'/\aD K w W) (λ s1 _=>(intOf s1).toNat)
 case atStart=>exact⟨i,s,rfl,T,pW.refl V.o,H.o,aD.refl⟩
 case round=>
  obtain⟨k,s',rfl,hk,hO,I,hF⟩:=hrel;have E:=U I;have F:=U hF;have r:=U hO;clear I hF
  by_cases X:k=0
  ·subst X;clear hO
   go_wp2_with fail
   refine vp (by kernel_rfl) (by kernel_rfl) ?_
   repeat (go_big_quiet_step (fail))
   refine ZP ?_;intro Y d;replace d:=kC.o d
   go_wp2_with fail
   go_end0;have:=E.o.below d;exact⟨rfl,s',r.o,this.1,F.o.trans this.2⟩
  ·obtain⟨m,rfl⟩:∃m,k=m+1:=⟨k-1,by omega⟩
   obtain⟨p,hp⟩:∃p,p=m/2:=⟨_,rfl⟩
   obtain⟨ah,ai,he⟩:=hO.eq;have t:s'.ord.length=s.ord.length:=hO.ol;have l:mh s'.c.n s'.ord s'.pl:=by rw[he];have:=hO.lT;rw[he] at this;exact this
   have J:s'.act.length=s.c.n+1:=by rw[he];exact S
   have L:s'.c.n=s.c.n:=by rw[he]
   clear hO he;obtain⟨k0,y⟩:∃k0,k0=m+1:=⟨_,rfl⟩
   obtain⟨a,z,a1,a2⟩:=l.nat (i:=k0) (by omega);obtain⟨b,A,ak,al⟩:=l.nat (i:=p) (by omega);obtain⟨g7,j,M,f7⟩:=E.o.e.lV 10 7 rfl (E.o.e.n7.trans t) (by omega);have c1:=E.o.e.xT j (k:=k0) (by omega);have c2:=E.o.e.xT j (k:=p) (by omega);rw[z] at c1;rw[A] at c2;have B:=E.o.e.rows.lt j;have Z:=λ u:kC wr=>u.cell (E.o.e.box.lt) M
   have aa:=λ u:kC wr=>u.cell B.2 c1
   have ab:=λ u:kC wr=>u.cell B.2 c2
   have an:(k0:Int)-1=(m:Int):=by omega
   have ao:ZZ (m:Int) 2=(p:Int):=by rw[n_ (by omega)];omega
   have ar:=yL m (by omega);have k2:=yL p (by omega);have ad:(0:Int)<(k0:Int):=by omega
   have d0:decide ((0:Int)<(k0:Int))=true:=decide_eq_true ad;have d1:decide (0<k0)=true:=decide_eq_true (by omega);have au:(k0:Int)<(s.ord.length:Int):=by omega
   have av:(p:Int)<(s.ord.length:Int):=by omega
   have aw:=U z;have ax:=U A;have q:=U hp;have g:=U y;have N:=U l;have f:=U (z_ t (z_ J L));have ay:=U j;generalize P:Bw s' a b=v;have ae:=U P;rw[<-y];clear z A hp y l t J L j B M c1 c2 P f7
   go_wp2_with fail
   refine vp (by kernel_rfl) (by kernel_rfl) ?_
   repeat (go_big_quiet_step ((go_at_call 225;exact kC.ahead E.o.e _ (by have:=f.o;omega) (by have:=f.o;omega) (by have:=f.o;omega) ae.o)))
   refine ZP ?_;intro Y d;replace d:=kC.o d;have Q:=U (E.o.below d).1;have R:=U (F.o.trans (E.o.below d).2);clear Z aa ab d
   cases v
   ·go_wp2_with fail
    go_end0;exact⟨rfl,s',r.o,Q.o,R.o⟩
   ·go_wp2_with (go_at_call 193;refine(Dp Q.o N.o k0 p (by have:=f.o;have:=g.o;omega) (by have:=f.o;have:=g.o;have:=q.o;omega)).mono ?_;rintro e az ⟨rfl,C,D⟩;have C:=U C;have D:=U D)
    go_roundw
    case rel=>exact⟨p,_,by go_num,by have:=g.o;have:=q.o;omega,r.o.trans (pW.swp N.o (by have:=f.o;have:=g.o;omega) (by have:=f.o;have:=g.o;have:=q.o;omega)),C.o,R.o.trans D.o⟩
    case measure=>have:=g.o;have:=q.o;simp[intOf];omega
end
section
open Go.RowKit Go.Shelf
theorem Fy{w:World}(h:aU K base w G hs cb s)(O:mh s.c.n s.ord s.pl)(ax:s.act.length=s.c.n+1)(aO:s.c.n<=65536)(i:Nat)(ay:i<s.ord.length)(aP:s.ord.length<=65537):
  Calls w_ 194 #[.pointer (some ⟨G,0,none⟩),.int .i64 i] w (Fx K base w G hs cb s):=by
 have H:=U h;have az:=U O;clear h O;go_enter Tryz.func194,Tryz.ntmps194
 go_wp2_with fail
 go_loopw [1,4,6] (λ s1 _ _ W=>∃(k:Nat)(s':aj),s1=.int .i64 k/\k<s.ord.length/\pW s s'/\aU K base W G hs cb s'/\aD K w W) (λ s1 _ _ _=>s.ord.length-(intOf s1).toNat)
 case atStart=>exact⟨i,s,rfl,ay,pW.refl az.o,H.o,aD.refl⟩
 case round=>
  obtain⟨k,s',rfl,hk,hO,ad,hF⟩:=hrel;have E:=U ad;have F:=U hF;have ae:=U hO;clear ad hF;obtain⟨aQ,aR,he⟩:=hO.eq;have C:s'.ord.length=s.ord.length:=hO.ol;have D:mh s'.c.n s'.ord s'.pl:=by rw[he];have:=hO.lT;rw[he] at this;exact this
  have P:s'.act.length=s.c.n+1:=by rw[he];exact ax
  have Q:s'.c.n=s.c.n:=by rw[he]
  clear hO he;obtain⟨c,R⟩:∃c,c=2*k+1:=⟨_,rfl⟩
  obtain⟨d,S⟩:∃d,d=2*k+2:=⟨_,rfl⟩
  have I:2*(k:Int)+1=(c:Int):=by omega
  have J:2*(k:Int)+2=(d:Int):=by omega
  have k0:=yL (2*k) (by omega);have aA:=yL c (by omega);have k2:=yL d (by omega);have aB:=U (z_ R S);clear R S
  go_wp2_with fail
  obtain⟨r,A⟩:∃r,r=wr.heap.size:=⟨_,rfl⟩
  have T:Below wr.heap.size wr (wr.alloc (.cells #[.int .i64 c,.int .i64 d] 3)):=bK wr _;have m1:(wr.alloc (.cells #[.int .i64 c,.int .i64 d] 3)).cell? ⟨r,0,none⟩=some (.int .i64 c):=by subst A;go_simp
  have m2:(wr.alloc (.cells #[.int .i64 c,.int .i64 d] 3)).cell? ⟨r,1,none⟩=some (.int .i64 d):=by subst A;go_simp
  have af:r<(wr.alloc (.cells #[.int .i64 c,.int .i64 d] 3)).heap.size:=by subst A;simp
  rw[<-A];have ag:=U (E.o.below T).1;have aC:=U (F.o.trans (E.o.below T).2);generalize (wr.alloc (.cells #[.int .i64 c,.int .i64 d] 3))=w1 at*;clear A T I J k0 aA k2;have M:=U (z_ m1 (z_ m2 af));clear m1 m2 af
  go_loopw [4,6,16] (λ iK _ V W=>∃(j b:Nat),V=.int .i64 j/\j<=2/\iK=.int .i64 b/\k<=b/\b<s.ord.length/\Below w1.heap.size w1 W) (λ _ _ V _=>2-(intOf V).toNat)
  case atStart=>exact⟨0,k,rfl,by omega,rfl,r_ _,hk,g_ _ _⟩
  case round=>
   obtain⟨j,b,rfl,ah,rfl,t,y,L⟩:=hrel;have z:=U L;have g:=U (ag.o.below L).1;have ai:=U (aC.o.trans (ag.o.below L).2);clear L
   by_cases ak:j<2
   ·obtain⟨x,aS,al,an⟩:∃x:Nat,wr.cell? ⟨r,j,none⟩=some (.int .i64 x)/\k<x/\x<=2*k+2:=by
     obtain⟨R,S⟩:=aB.o;rcases l_ j 1 with h1|h1
     ·obtain rfl:j=0:=by omega
      exact⟨c,(z.o.cell M.o.2.2).trans M.o.1,by omega,by omega⟩
     ·obtain rfl:j=1:=by omega
      exact⟨d,(z.o.cell M.o.2.2).trans M.o.2.1,by omega,by omega⟩
    have aT:decide ((j:Int)<2)=true:=decide_eq_true (by omega);have aE:(j:Int)<2:=by omega
    have p:=U (z_ ah (z_ ak (z_ al an)));clear ah ak al an;obtain⟨g7,q,ao,f7⟩:=g.o.e.lV 10 7 rfl (g.o.e.n7.trans C) (by omega);have ar:=λ u:kC wr=>u.cell (g.o.e.box.lt) ao
    clear ao
    by_cases B:x<s.ord.length
    ·have X:(x:Int)<(s.ord.length:Int):=by omega
     have lb:(b:Int)<(s.ord.length:Int):=by omega
     have aF:decide ((x:Int)<(s.ord.length:Int))=true:=decide_eq_true X;have aG:decide (x<s.ord.length)=true:=decide_eq_true B;obtain⟨a,Y,a1,a2⟩:=D.nat (i:=x) (by omega);obtain⟨e,he,I,J⟩:=D.nat (i:=b) (by omega);have c1:=g.o.e.xT q (k:=x) (by omega);have c2:=g.o.e.xT q (k:=b) (by omega);rw[Y] at c1;rw[he] at c2;have Z:=g.o.e.rows.lt q;have aH:=λ u:kC wr=>u.cell Z.2 c1
     have aI:=λ u:kC wr=>u.cell Z.2 c2
     generalize au:Bw s' a e=v;have aJ:=U au;have m:=U (z_ C (z_ P Q));have av:=U (z_ Y (z_ he (z_ a1 (z_ a2 (z_ I J)))));have aK:=U q;have f:=U (z_ t y);have aL:=U B;clear Y he c1 c2 Z au f7 q a1 a2 I J t y B
     go_wp2_with fail
     refine vp (by kernel_rfl) (by kernel_rfl) ?_
     repeat (go_big_quiet_step ((go_at_call 225;exact kC.ahead g.o.e _ (by have:=m.o;have:=av.o;omega) (by have:=m.o;have:=av.o;omega) (by have:=m.o;omega) aJ.o)))
     refine ZP ?_;intro aM l;replace l:=kC.o l;have N:=U (z.o.trans (l.mono z.o.size));clear ar aH aI l
     cases v
     ·go_wp2_with fail
      go_roundw
      case rel=>exact⟨j+1,b,by go_num,by have:=p.o;omega,rfl,f.o.1,f.o.2,N.o⟩
      case measure=>have:=p.o;simp[intOf];omega
     ·go_wp2_with fail
      go_roundw
      case rel=>exact⟨j+1,x,by go_num,by have:=p.o;omega,rfl,by have:=p.o;omega,aL.o,N.o⟩
      case measure=>have:=p.o;simp[intOf];omega
    ·have X:¬(x:Int)<(s.ord.length:Int):=by omega
     have aF:decide ((x:Int)<(s.ord.length:Int))=false:=decide_eq_false X;have aG:decide (x<s.ord.length)=false:=decide_eq_false B;have aK:=U q;have f:=U (z_ t y);clear f7 q t y B
     go_wp2_with fail
     refine vp (by kernel_rfl) (by kernel_rfl) ?_
     repeat (go_big_quiet_step (fail))
     refine ZP ?_;intro aM l;replace l:=kC.o l;have N:=U (z.o.trans (l.mono z.o.size));clear ar l
     go_wp2_with fail
     go_roundw
     case rel=>exact⟨j+1,b,by go_num,by have:=p.o;omega,rfl,f.o.1,f.o.2,N.o⟩
     case measure=>have:=p.o;simp[intOf];omega
   ·have aE:¬(j:Int)<2:=by omega
    by_cases aw:b=k
    ·subst aw
     go_wp2_with fail
     go_end0;exact⟨rfl,s',ae.o,g.o,ai.o⟩
    ·have aN:¬(b:Int)=(k:Int):=by omega
     have f:=U (z_ t (z_ y aw));have m:=U (z_ C (z_ P Q));clear t y C P Q;have aV:((b:Int)==(k:Int))=false:=by simpa using aN
     go_wp2_with (go_at_call 193;refine(Dp g.o D k b (by have:=m.o;omega) (by have:=m.o;have:=f.o;omega)).mono ?_;rintro e aW ⟨rfl,aa,ab⟩;have aa:=U aa;have ab:=U ab)
     go_roundw
     case rel=>exact⟨b,_,by go_num,by have:=f.o;omega,ae.o.trans (pW.swp D (by have:=m.o;omega) (by have:=m.o;have:=f.o;omega)),aa.o,ai.o.trans ab.o⟩
     case measure=>have:=f.o;simp[intOf];omega
end
section
open Go.RowKit Go.Shelf
section
variable {K:Nat->Prop}{base:Nat}{w w' W:World}{G:Nat}{hs:Nat->aq}{cb:Nat->Nat}{s:aj}
theorem aU.xR(h:aU K base w G hs cb s){g:Nat}(c:(hs 1).b=some g)(k:Nat)(x:Int):aU K base (w.setCell ⟨g,k,none⟩ (.int .i8 x)) G hs cb (s.pe k x)/\aD K w (w.setCell ⟨g,k,none⟩ (.int .i8 x)):=h.uW (iX.xR h.e c k x) rfl (Fr.cell 1 g k _ c)
theorem aU.zU(h:aU K base w G hs cb s){g:Nat}(c:(hs 3).b=some g)(k:Nat)(x:Option Nat):aU K base (w.setCell ⟨g,k,none⟩ (qZ cb x)) G hs cb (s.qI k x)/\aD K w (w.setCell ⟨g,k,none⟩ (qZ cb x)):=h.uW (iX.zU h.e c k x) rfl (Fr.cell 3 g k _ c)
theorem aU.Bq(h:aU K base w G hs cb s){g:Nat}(c:(hs 6).b=some g)(k:Nat)(x:Int):aU K base (w.setCell ⟨g,k,none⟩ (.int .i64 x)) G hs cb (s.p8 k x)/\aD K w (w.setCell ⟨g,k,none⟩ (.int .i64 x)):=h.uW (iX.Bq h.e c k x) rfl (Fr.cell 6 g k _ c)
theorem aU.xS(h:aU K base w G hs cb s){g:Nat}(c:(hs 8).b=some g)(k:Nat)(x:Int):aU K base (w.setCell ⟨g,k,none⟩ (.int .i64 x)) G hs cb (s.pV k x)/\aD K w (w.setCell ⟨g,k,none⟩ (.int .i64 x)):=h.uW (iX.xS h.e c k x) rfl (Fr.cell 8 g k _ c)
theorem aU.zV(h:aU K base w G hs cb s){g:Nat}(c:(hs 9).b=some g)(k:Nat)(x:Bool):aU K base (w.setCell ⟨g,k,none⟩ (.bool x)) G hs cb (s.ux k x)/\aD K w (w.setCell ⟨g,k,none⟩ (.bool x)):=h.uW (iX.zV h.e c k x) rfl (Fr.cell 9 g k _ c)
theorem aU.wS(h:aU K base w G hs cb s){g:Nat}(c:(hs 12).b=some g)(k:Nat)(x:Bool):aU K base (w.setCell ⟨g,k,none⟩ (.bool x)) G hs cb (s.tr k x)/\aD K w (w.setCell ⟨g,k,none⟩ (.bool x)):=h.uW (iX.wS h.e c k x) rfl (Fr.cell 12 g k _ c)
theorem aD.kA(h:aU K base w G hs cb s)(k:Nat)(v:Value):aD K w (w.setCell ⟨G,k,none⟩ v):=aD.set G k v h.s.g
theorem aD.drew:aD K w w.drew:=⟨rfl,rfl,rfl,r_ _,λ _ _=>rfl⟩
theorem aU.drew(h:aU K base w G hs cb s):aU K base w.drew G hs cb s:=(h.below (g_ _ _).drew).1
theorem Sep.cut{n:Nat}(h:Sep K w G hs cb n){r:Nat}(m:Nat):Sep K w G (iH hs r ⟨(hs r).A,m,(hs r).c⟩) cb n:=h.iS (λ g e=>h.row r g e)
theorem aU.JY(h:aU K base w G hs cb s){g:Nat}(f:(hs 7).b=some g){m:Nat}(hm:m<=s.ord.length):
  aU K base (w.setCell ⟨G,10,none⟩ (.slice (some ⟨g,0,none⟩) m (hs 7).c)) G (iH hs 7 ⟨(hs 7).A,m,(hs 7).c⟩) cb {s with ord:=s.ord.take m}/\aD K w (w.setCell ⟨G,10,none⟩ (.slice (some ⟨g,0,none⟩) m (hs 7).c)):=by
 have i:=(h.e.rows.form f).1;rw[<-i];refine⟨⟨?_,(h.s.cut (r:=7) m).more (kK w G 10 _).size⟩,aD.kA h 10 _⟩;have j:=(j5.cut h.e f (k:=m) (by rw[h.e.n7];exact hm)).field 10 (.slice (hs 7).A m (hs 7).c);refine j.eq rfl rfl rfl (λ d _=>(vX hs s (by omega) _ d).symm) rfl (λ r=>?_);rw[vW hs cb _ (by omega)]
 by_cases e:r=7
 ·subst e;rw[jH];show(gX s.ord).take (m*1)=gX (s.ord.take m);simp[gX]
 ·rw[aX _ _ e];simp only[cont,if_neg e]
theorem aU.Fz(h:aU K base w G hs cb s){g:Nat}(f:(hs 4).b=some g){m:Nat}(hm:m<=s.c.au.length):
  aU K base (w.setCell ⟨G,5,none⟩ (.slice (some ⟨g,0,none⟩) m (hs 4).c)) G (iH hs 4 ⟨(hs 4).A,m,(hs 4).c⟩) cb {s with c:={s.c with au:=s.c.au.take m}}/\aD K w (w.setCell ⟨G,5,none⟩ (.slice (some ⟨g,0,none⟩) m (hs 4).c)):=by
 have i:=(h.e.rows.form f).1;rw[<-i];refine⟨⟨?_,(h.s.cut (r:=4) m).more (kK w G 5 _).size⟩,aD.kA h 5 _⟩;have j:=(j5.cut h.e f (k:=m) (by rw[h.e.j6];exact hm)).field 5 (.slice (hs 4).A m (hs 4).c);refine j.eq rfl rfl rfl (λ d _=>(vX hs s (by omega) _ d).symm) rfl (λ r=>?_);rw[vW hs cb _ (by omega)]
 by_cases e:r=4
 ·subst e;rw[jH];show(gX s.c.au).take (m*1)=gX (s.c.au.take m);simp[gX]
 ·rw[aX _ _ e];simp only[cont,if_neg e]
theorem aU.FA(h:aU K base w G hs cb s){g:Nat}(f:(hs 5).b=some g){m:Nat}(hm:m<=s.c.st.length):
  aU K base (w.setCell ⟨G,6,none⟩ (.slice (some ⟨g,0,none⟩) m (hs 5).c)) G (iH hs 5 ⟨(hs 5).A,m,(hs 5).c⟩) cb {s with c:={s.c with st:=s.c.st.take m}}/\aD K w (w.setCell ⟨G,6,none⟩ (.slice (some ⟨g,0,none⟩) m (hs 5).c)):=by
 have i:=(h.e.rows.form f).1;rw[<-i];refine⟨⟨?_,(h.s.cut (r:=5) m).more (kK w G 6 _).size⟩,aD.kA h 6 _⟩;have j:=(j5.cut h.e f (k:=m) (by rw[h.e.j0];exact hm)).field 6 (.slice (hs 5).A m (hs 5).c);refine j.eq rfl rfl rfl (λ d _=>(vX hs s (by omega) _ d).symm) rfl (λ r=>?_);rw[vW hs cb _ (by omega)]
 by_cases e:r=5
 ·subst e;rw[jH];show(ql s.c.st).take (m*1)=ql (s.c.st.take m);simp[ql]
 ·rw[aX _ _ e];simp only[cont,if_neg e]
theorem aU.Bx(h:aU K base w G hs cb s)(x:Nat):aU K base (w.setCell ⟨G,7,none⟩ (.int .i64 (x:Int))) G hs cb {s with c:={s.c with ag:=x}}/\aD K w (w.setCell ⟨G,7,none⟩ (.int .i64 (x:Int))):=
 ⟨⟨(h.e.field 7 _).eq rfl rfl rfl (λ _ _=>rfl) rfl (λ _=>rfl),h.s.more (kK w G 7 _).size⟩,aD.kA h 7 _⟩
theorem aU.FB(h:aU K base w G hs cb s)(x:Int):aU K base (w.setCell ⟨G,9,none⟩ (.int .i64 x)) G hs cb (s.vY x)/\aD K w (w.setCell ⟨G,9,none⟩ (.int .i64 x)):=
 ⟨⟨(h.e.field 9 _).eq rfl rfl rfl (λ _ _=>rfl) rfl (λ _=>rfl),h.s.more (kK w G 9 _).size⟩,aD.kA h 9 _⟩
theorem aU.FC(h:aU K base w G hs cb s):aU K base (w.setCell ⟨G,15,none⟩ (.bool true)) G hs cb {s with c:=wN s.c}/\aD K w (w.setCell ⟨G,15,none⟩ (.bool true)):=
 ⟨⟨(h.e.field 15 _).eq rfl rfl rfl (λ _ _=>rfl) rfl (λ _=>rfl),h.s.more (kK w G 15 _).size⟩,aD.kA h 15 _⟩
end
end
section
open Go.RowKit Go.Shelf
def JZ(K:Nat->Prop)(base:Nat)(w:World)(G:Nat)(cb:Nat->Nat)(s:aj)(e:Ending)(w':World):Prop:=
 ∃(v:Nat)(hs':Nat->aq)(s':aj),e=.returned (.int .i64 v)/\ai s.ord 0=v/\1<=v/\v<=s.c.n/\(∃o p,s'={s with ord:=o,pl:=p})/\aU K base w' G hs' cb s'/\aD K w w'/\mh s.c.n s'.ord s'.pl/\s'.ord.length+1=s.ord.length/\(∀u:Nat,u≠v->(0<=ai s'.pl u↔0<=ai s.pl u))
theorem J1{w:World}(h:aU K base w G hs cb s)(O:mh s.c.n s.ord s.pl)(al:s.act.length=s.c.n+1)(aI:s.c.n<=65536)(X:0<s.ord.length)(aJ:s.ord.length<=65537):
  Calls w_ 155 #[.pointer (some ⟨G,0,none⟩)] w (JZ K base w G cb s):=by
 obtain⟨m,hm⟩:∃m,s.ord.length=m+1:=⟨s.ord.length-1,by omega⟩
 obtain⟨g7,J,Y,f7⟩:=h.e.lV 10 7 rfl (h.e.n7.trans hm) (by omega);obtain⟨v,r,v1,v2⟩:=O.nat (i:=0) X;have c0:=h.e.xT J (k:=0) X;rw[r] at c0;have H:=U h;have B:=U O;have C:=U J;have L:=U r;have y:=U (z_ v1 v2);have f:=U hm;have em:((m+1:Nat):Int)-1=(m:Int):=by omega
 have aK:=yL m (by omega);have lm:(0:Int)<((m+1:Nat):Int):=by omega
 clear h O J r v1 v2 hm f7;go_enter Tryz.func155,Tryz.ntmps155
 go_upto_region 3 with(go_at_call 193;refine(Dp H.o B.o 0 m (by have:=f.o;omega) (by have:=f.o;omega)).mono ?_;rintro e D ⟨rfl,t,M⟩;have t:=U t;have M:=U M)
 have an:(hs 7).n=m+1:=H.o.e.n7.trans f.o;have Y:D.cell? ⟨G,10,none⟩=some (.slice (some ⟨g7,0,none⟩) (m+1) (hs 7).c):=t.o.e.rA 10 C.o an rfl;have f7:D.frozen? ⟨G,10,none⟩=false:=t.o.e.free 10;have cap:m+1<=(hs 7).c:=by
  obtain⟨_,ao⟩:=t.o.e.rows.row 7;rcases ao with⟨N,_⟩|⟨aL,Z,cur,r,_,_,aM,_⟩
  ·have:=(t.o.e.rows.form C.o).1;unfold aq.v at N;rw[this] at N
   cases N
  ·unfold aq.v at r;injection r with _ _ r
   omega
 have Z:(m:Int)<=((hs 7).c:Int):=by omega
 refine Zo 14 (by kernel_rfl) (by kernel_rfl) ?_;simp only[Zm,Zg,Zl,Zh]
 iterate 14 still_step
 refine ZQ ?_;change wpList _ _ _ _ _ D.drew
 go_upto_region 4 with fail
 have P:=B.o.sL;have hlen:=f.o;have i0:0<s.ord.length:=by omega
 have Q:m<s.ord.length:=by omega
 have g:=t.o.JY C.o (m:=m) (by show m<=(kL s.ord 0 m).length;rw[sd];omega);have aa:=B.o.swap i0 Q;have E:=aa.pop (by rw[sd];omega);rw[sd,hlen,f_] at E;have ab:ai (kL s.ord 0 m) m=v:=by rw[qF i0 Q,if_pos rfl];exact L.o
 rw[ab,Int.toNat_natCast] at E;have ad:=U (M.o.trans (g.2.trans aD.drew));have g:=U g.1.drew;generalize (D.setCell ⟨G,10,none⟩ (.slice (some ⟨g7,0,none⟩) m (hs 7).c)).drew=ar at g ad;have ae:=U E;obtain⟨g8,R,au,f8⟩:=g.o.e.lV 11 8 rfl (g.o.e.n8.trans (by show(uv s.ord s.pl 0 m).length=s.c.n+1;unfold uv;rw[v_,v_];exact P)) (by omega);have av:=g.o.e.wU R (k:=v) (by show v<(uv s.ord s.pl 0 m).length;unfold uv;rw[v_,v_,P];have:=y.o;omega);have aw:=f8 v;have aR:(v:Int)<((s.c.n+1:Nat):Int):=by have:=y.o;omega
 have ax:=U R;clear f8 R aa E ab Q i0 hlen P Y f7 cap Z c0
 go_upto_region 5 with fail
 have j:=g.o.xS ax.o v (-1);have S:=U (ad.o.trans j.2);have j:=U j.1;generalize (ar.setCell ⟨g8,v,none⟩ (.int .i64 (-1)))=ay at j S;clear au av aw;obtain⟨d,l⟩:∃d,d=({s.swp 0 m with ord:=(kL s.ord 0 m).take m}:aj).pV v (-1):=⟨_,rfl⟩
 have af:(({s.swp 0 m with ord:=(s.swp 0 m).ord.take m}:aj).pV v (-1))=d:=l.symm;rw[af] at j;have F:mh d.c.n d.ord d.pl:=by rw[l];exact ae.o
 have ag:d.ord.length=m:=by rw[l];show((kL s.ord 0 m).take m).length=m;rw[Ze,sd];have:=f.o;omega
 have T:d.c.n=s.c.n:=by rw[l];rfl
 have a5:d.act.length=d.c.n+1:=by rw[T,<-al,l];rfl
 have ah:∃o p,d={s with ord:=o,pl:=p}:=⟨_,_,l⟩
 have ak:∀u:Nat,u≠v->(0<=ai d.pl u↔0<=ai s.pl u):=λ u hu=>by
  rw[l];show 0<=ai ((uv s.ord s.pl 0 m).set v (-1)) u↔_;rw[o7,if_neg (λ az=>hu az.1.symm)];exact B.o.Fb (by have:=f.o;omega) (by have:=f.o;omega) u
 have aN:ay.cell? ⟨G,10,none⟩=some (.slice (some ⟨g7,0,none⟩) m (hs 7).c):=by
  have aA:(iH hs 7 ⟨(hs 7).A,m,(hs 7).c⟩ 7).b=some g7:=by rw[jH];exact C.o
  have:=j.o.e.rA 10 aA (m:=m) (by rw[jH]) rfl
  rwa[jH] at this
 have I:=U (z_ ah ak);have F:=U F;have q:=U (z_ ag (z_ T a5));clear ah ak ag T a5 af ae l
 by_cases aB:m=0
 ·have aC:¬(0:Int)<(m:Int):=by omega
  have aO:=U aB
  go_wp2_with fail
  go_ret;exact⟨v,_,d,rfl,L.o,y.o.1,y.o.2,I.o.1,j.o,S.o,by have:=F.o;rwa[q.o.2.1] at this,by have:=q.o;have:=f.o;omega,I.o.2⟩
 ·have aC:(0:Int)<(m:Int):=by omega
  go_wp2_with (go_at_call 194;refine(Fy j.o F.o q.o.2.2 (by have:=q.o;omega) 0 (by have:=q.o;omega) (by have:=q.o;have:=f.o;omega)).mono ?_;rintro e aP ⟨rfl,tv,z,V,W⟩;have V:=U V;have W:=U W;have z:=U z)
  go_ret;refine⟨v,_,tv,rfl,L.o,y.o.1,y.o.2,?_,V.o,S.o.trans W.o,?_,?_,?_⟩
  ·obtain⟨o,p,aE⟩:=I.o.1;obtain⟨aF,aG,aH⟩:=z.o.eq;exact⟨aF,aG,by rw[aH,aE]⟩
  ·have:=z.o.lT;rwa[q.o.2.1] at this
  ·rw[z.o.ol];have:=q.o;have:=f.o;omega
  ·exact λ u hu=>(z.o.same u).trans (I.o.2 u hu)
end
section
structure qs(c:Core)(m:Nat):Prop where
 str:∀k,k<c.st.length->m<=k->gQ c.st k<if k+1<c.st.length then gQ c.st (k+1) else c.au.length
section
variable {c c':Core}{m:Nat}
theorem qs.at(h:qs c m):∀j,m+j<c.st.length->j<=gQ c.st (m+j)
 |0,_=>Z6 _
 |j+1,d=>by
  have h1:=qs.at h j (by omega);have b:=h.str (m+j) (by omega) (by omega);rw[if_pos (by omega)] at b;rw[show m+(j+1)=m+j+1 by omega];omega
theorem qs.len(h:qs c m):c.st.length<=m+c.au.length:=by
 rcases l_ m c.st.length with hl|hl
 ·have h1:=h.at (c.st.length-1-m) (by omega);have b:=h.str (c.st.length-1) (by omega) (by omega);rw[if_neg (by omega)] at b;rw[show m+(c.st.length-1-m)=c.st.length-1 by omega] at h1;omega
 ·omega
theorem qs.grow(h:qs c m)(hs:c'.st=c.st)(b:c.au.length<=c'.au.length):qs c' m:=by
 refine⟨λ k hk hm=>?_⟩;rw[hs] at hk⊢;have:=h.str k hk hm;split
 ·rename_i h1;rw[if_pos h1] at this;exact this
 ·rename_i h1;rw[if_neg h1] at this;omega
theorem qs.zero(h:c.st=[]):qs c m:=⟨λ k hk=>by rw[h] at hk;simp at hk⟩
theorem qs.level(h:qs c m)(T:jV c)(hl:c.st.length<m):qs (nH c) m:=by
 refine⟨λ k hk hm=>?_⟩;have e:(nH c).st=c.st++[c.au.length]:=rfl;rw[e,q_,d_] at hk;omega
theorem qs.decide(h:qs c m)(T:jV c)(x:Int):qs (k5 (nH c) x none) m:=by
 refine⟨λ k hk hm=>?_⟩;have e:(k5 (nH c) x none).st=c.st++[c.au.length]:=rfl;have d:(k5 (nH c) x none).au=c.au++[x]:=rfl;rw[e,q_,d_] at hk;rw[e,d,q_,d_,q_,d_]
 by_cases h1:k<c.st.length
 ·rw[xI h1,if_pos (by omega)];have:=h.str k h1 hm
  by_cases b:k+1<c.st.length
  ·rw[if_pos b] at this;rw[xI b];exact this
  ·rw[if_neg b] at this;have f:k+1=c.st.length:=by omega
   rw[f,xJ];exact this
 ·have g:k=c.st.length:=by omega
  rw[if_neg (by omega),g,xJ];omega
theorem qs.back(h:qs c m)(T:jV c){level:Nat}(hl:level<c.st.length):qs (mJ c level) m:=by
 refine⟨λ k hk hm=>?_⟩;have e:(mJ c level).st=c.st.take level:=rfl;have b:(mJ c level).au=c.au.take (gQ c.st level):=rfl;have hlen:(c.st.take level).length=level:=by rw[Ze];omega
 have d:(c.au.take (gQ c.st level)).length=gQ c.st level:=by rw[Ze];have:=T.oH level hl;omega
 rw[e,hlen] at hk;rw[e,b,hlen,d,uS hk];have:=h.str k (by omega) hm;rw[if_pos (by omega)] at this
 by_cases h1:k+1<level
 ·rw[if_pos h1,uS h1];exact this
 ·rw[if_neg h1];obtain rfl:k+1=level:=by omega
  exact this
end
end
section
def xU(a b:List Int):Prop:=∀x,x∈a↔x∈b
structure mw(F:List (List Int))(jL:List Int)(n gx:Nat)(s:aj)(sp h:Nat):Prop where
 gK:kf F F s.c h []
 rg:mu n js (js*(1+16*(sp:Int))) s
 vZ:nI s.c jL
 lb:qs s.c jL.length
 un:∀v,1<=v->v<=n->ai s.c.val v=0->0<=ai s.pl v
 aN:s.aN=b_ (n+1) false
 wX:(s.aI.map (ax s.c.cl)).Pairwise λ a b=>¬xU a b
 pE:s.aI.length=gx+sp
 yM:∀l∈s.nl,∀x∈l,gU n x
 v0:ai s.c.val 0=0
 qK:pq s.c
structure bf(level:Nat)(s s':aj):Prop where
 c:s'.c=mJ s.c level
 aI:s'.aI=s.aI
 aA:s'.aA=s.aA
 aN:s'.aN=s.aN
 nl:s'.nl=s.nl
 jl:s'.jl=s.jl
 ci:s'.ci=s.ci
 aM:s'.aM=s.aM
 yN:∀v,0<=ai s.pl v->0<=ai s'.pl v
 FD:∀v,1<=v->v<=s.c.n->ai s'.c.val v=0->ai s.c.val v=0\/0<=ai s'.pl v
theorem yO(l:List si)(x:si)(d:Nat):(l++[x]).getD d ⟨false,0,0⟩=if d=l.length then x else l.getD d ⟨false,0,0⟩:=by
 simp only[x_]
 by_cases h:d<l.length
 ·rw[List.getElem?_append_left h,if_neg (by omega)]
 ·rw[List.getElem?_append_right (by omega)]
  by_cases b:d=l.length
  ·subst b;simp
  ·rw[if_neg b,e_ (by simp;omega),e_ (by omega)]
section
variable {F:List (List Int)}{jL:List Int}{n gx:Nat}{s s':aj}{sp h h':Nat}
theorem sq{c:Core}(T:jV c){v:Nat}(h1:1<=v)(b:v<=c.n):ai c.val v=0↔¬(v:Int)∈c.au/\¬-(v:Int)∈c.au:=by
 have hl:gU c.n (v:Int):=⟨by unfold aH;omega,by unfold aH;omega⟩
 rw[<-T.open hl];unfold jZ aH;rw[if_neg (by omega),Int.natAbs_natCast]
theorem By{f g:Nat->List Int}:∀(l:List Nat),(∀d∈l,xU (g d) (f d))->(l.map f).Pairwise (λ a b=>¬xU a b)->(l.map g).Pairwise (λ a b=>¬xU a b)
 |[],_,_=>List.Pairwise.nil
 |d::l,hs,hp=>by
  rw[List.map_cons,List.pairwise_cons] at hp⊢;refine⟨λ b c=>?_,By l (λ e he=>hs e (ZL _ he)) hp.2⟩;obtain⟨e,he,rfl⟩:=Zx.1 c;intro i;refine hp.1 (f e) (Zx.2 ⟨e,he,rfl⟩) (λ x=>?_);have h1:=hs d List.mem_cons_self x;have j:=hs e (ZL _ he) x;exact h1.symm.trans ((i x).trans j)
theorem mw.run(S:mw F jL n gx s sp h){c':Core}(m:tU s.c c')(L:kf F F c' h' [])(A:nI c' jL):mw F jL n gx {s with c:=c'} sp h':=by
 have i:c'.n=n:=m.n.trans S.rg.jh;refine⟨L,⟨i,S.rg.lT,S.rg.kM,S.rg.pP,S.rg.a0,S.rg.rC,S.rg.oS,S.rg.nB,S.rg.oT,?_,S.rg.qa,λ d j=>?_⟩,A,S.lb.grow m.st ?_,λ v h1 b k=>S.un v h1 b ?_,S.aN,?_,S.pE,S.yM,m.v0.trans S.v0,m.qK S.qK⟩
 ·show s.ci.length=c'.cl.length;rw[m.len];exact S.rg.nV
 ·show d<c'.cl.length;rw[m.len];exact S.rg.kX d j
 ·obtain⟨e,he⟩:=m.au;rw[he,q_];omega
 ·have f:=(sq L.aL h1 (by rw[i];exact b)).1 k;obtain⟨e,he⟩:=m.au;rw[he] at f;exact(sq S.gK.aL h1 (by rw[S.rg.jh];exact b)).2 ⟨λ g=>f.1 (Zp _ g),λ g=>f.2 (Zp _ g)⟩
 ·exact By _ (λ d _ x=>m.cls d x) S.wX
theorem mw.back(S:mw F jL n gx s sp h){level:Nat}(hl:level<s.c.st.length)(k:bf level s s')(r:mu n js (js*(1+16*(sp:Int))) s'):mw F jL n gx s' sp (gQ s.c.st level):=by
 have f:∀d,ax s'.c.cl d=ax s.c.cl d:=λ d=>by rw[k.c];rfl
 refine⟨by rw[k.c];exact S.gK.back hl,r,by rw[k.c];exact S.vZ.back S.gK.aL hl,by rw[k.c];exact S.lb.back S.gK.aL hl,λ v h1 e g=>?_,k.aN.trans S.aN,?_,by rw[k.aI];exact S.pE,by rw[k.nl];exact S.yM,?_,by rw[k.c];exact S.qK.back level⟩
 ·rcases k.FD v h1 (by rw[S.rg.jh];exact e) g with b|b
  ·exact k.yN v (S.un v h1 e b)
  ·exact b
 ·rw[k.aI];exact By _ (λ d _ x=>by rw[f]) S.wX
 ·rw[k.c];show ai (zero s.c.val _) 0=0;rw[yz];split
  ·rfl
  ·exact S.v0
theorem mw.nW(S:mw F jL n gx s sp h):s.aI.length+1<=3^n:=by
 have:=Fa (n:=n) (ls:=s.aI.map (ax s.c.cl)) (λ l hl=>by
  obtain⟨d,b,rfl⟩:=Zx.1 hl;have:=S.gK.jK.mI d (S.rg.kX d b);rw[S.rg.jh] at this;exact this) (S.wX.imp λ h e=>h e)
 rwa[Z0] at this
theorem mw.level(S:mw F jL n gx s sp h)(b:h=s.c.au.length)(d:s.c.l9=false)(hk:s.c.st.length<jL.length)(e:ai jL s.c.st.length∈s.c.au):mw F jL n gx {s with c:=nH s.c} sp h:=by
 subst b;refine⟨S.gK.level d,⟨S.rg.jh,S.rg.lT,S.rg.kM,S.rg.pP,S.rg.a0,S.rg.rC,S.rg.oS,S.rg.nB,S.rg.oT,S.rg.nV,S.rg.qa,S.rg.kX⟩,S.vZ.level S.gK.aL (λ _=>e),S.lb.level S.gK.aL hk,S.un,S.aN,S.wX,S.pE,S.yM,S.v0,S.qK⟩
theorem mw.decide{aF:aj}(S:mw F jL n gx s sp h)(b:h=s.c.au.length)(o:s.c.l9=false){x:Int}(j:gU n x)(k:jZ s.c x=0)(p:s.c.st.length<jL.length->x=ai jL s.c.st.length)
  (e:aF={s with ord:=aF.ord,pl:=aF.pl}) (q:mh n aF.ord aF.pl) (r:∀v:Nat,1<=v->v<=n->ai s.c.val v=0->v≠aH x->0<=ai aF.pl v):
  mw F jL n gx {aF with c:=k5 (nH s.c) x none} sp h:=by
 subst b;rw[e];have l:gU s.c.n x:=by rw[S.rg.jh];exact j
 have G:=S.gK.decide o l k;refine⟨G,⟨S.rg.jh,q,S.rg.kM,S.rg.pP,S.rg.a0,S.rg.rC,S.rg.oS,S.rg.nB,S.rg.oT,S.rg.nV,S.rg.qa,S.rg.kX⟩,S.vZ.decide S.gK.aL l k p,S.lb.decide S.gK.aL x,λ v h1 g t=>?_,S.aN,S.wX,S.pE,S.yM,by show ai (s.c.val.set _ _) 0=0;rw[o7,if_neg (by have:=j.1;omega)];exact S.v0,pq.set (show pq (nH s.c) from S.qK) none (λ d u=>by cases u)⟩;have f:=(sq G.aL h1 (by show v<=s.c.n;rw[S.rg.jh];exact g)).1 t;have w:(k5 (nH s.c) x none).au=s.c.au++[x]:=rfl;rw[w] at f;have y:=(sq S.gK.aL h1 (by rw[S.rg.jh];exact g)).2 ⟨λ b=>f.1 (Zp _ b),λ b=>f.2 (Zp _ b)⟩;refine r v h1 g y (λ m=>?_);rcases Int.natAbs_eq x with i|i
 ·exact f.1 (by rw[m];unfold aH;rw[<-i];simp)
 ·exact f.2 (by rw[m];unfold aH;rw[<-i];simp)
end
end
section
def sN(b:List Bool)(x:Int):Bool:=if x<0 then !(jE b x.natAbs) else jE b x.natAbs
theorem FE(b:List Bool):Mod (sN b):=λ x c=>by
 unfold sN;rw[Int.natAbs_neg]
 by_cases h:x<0
 ·rw[if_pos h,if_neg (by omega)];simp
 ·rw[if_neg h,if_pos (by omega)]
def v7(s:aj):List Bool:=(s_ (s.c.n+1)).map λ v=>decide (0<ai s.c.val v)
theorem J2(s:aj):(v7 s).length=s.c.n+1:=by simp[v7]
theorem Dr(s:aj){v:Nat}(h:v<=s.c.n):jE (v7 s) v=decide (0<ai s.c.val v):=by
 unfold v7 jE;rw[x_,m_,Zk (by omega)];rfl
section
variable {F:List (List Int)}{jL:List Int}{n gx:Nat}{s:aj}{sp h:Nat}
theorem FF(T:jV s.c)(x:Int)(f:gU s.c.n x)(d:jZ s.c x≠0):sN (v7 s) x=true↔jZ s.c x=1:=by
 have g:x.natAbs<=s.c.n:=f.2;have e:=T.range x;unfold jZ at*;unfold sN;unfold aH at*;rw[Dr s g]
 by_cases b:x<0
 ·rw[if_pos b];rw[if_pos b] at d e⊢;simp only[Bool.not_eq_true',decide_eq_false_iff_not];omega
 ·rw[if_neg b];rw[if_neg b] at d e⊢;simp only[decide_eq_true_eq];omega
theorem mw.yes(S:mw F jL n gx s sp h)(j:h=s.c.au.length)(k:s.c.l9=false)(p:s.ord.length=0)(hF:∀g∈F,∀x∈g,gU n x)(hl:jL.length<=s.c.st.length):
  (∀g∈F,uj (sN (v7 s)) g)/\(∀x∈jL,sN (v7 s) x=true):=by
 subst j;have T:=S.gK.aL;have e:∀x,gU s.c.n x->jZ s.c x≠0:=λ x b i=>by
  have l:ai s.c.val (aH x)=0:=by unfold jZ at i;split at i<;>omega
  have d:gU n x:=by rw[<-S.rg.jh];exact b
  have h1:=S.un (aH x) d.1 d.2 l;have q:=(S.rg.lT.o (aH x) d.1 d.2 h1).1;omega
 refine⟨JA S.gK k e (FE _) (λ x b=>FF T x b (e x b)) (λ g m x b=>by rw[S.rg.jh];exact hF g m x b),λ x b=>?_⟩;have hm:=S.vZ.all hl x b;have f:=T.lit x hm;exact(FF T x f (e x f)).2 ((T.pos x f).2 hm)
theorem mw.J3(S:mw F jL n gx s sp h):jE (v7 s) 0=false:=by
 rw[Dr s (Z6 _),S.v0];rfl
theorem mw.core(S:mw F jL n gx s sp h)(hk:s.c.st.length<jL.length){p:Int}(hp:ai jL s.c.st.length=p){out:List Int}
  (f:∀x∈out,x=p\/(x∈s.c.au/\mF s.c.j9 (aH x)=none)) (hu:∀M,tK M F->¬∀x∈p::out,M x=true) (g:p∈out):
  ∀M,tK M F->¬∀x∈jL.filter (λ x=>out.contains x),M x=true:=by
 intro M j l;refine hu M j (λ x b=>?_);have d:x∈out:=by
  rcases Z7.1 b with rfl|b
  ·exact g
  ·exact b
 refine l x (Zv.2 ⟨?_,by simpa using d⟩);rcases f x d with rfl|⟨h1,m⟩
 ·rw[<-hp];exact l5 hk
 ·obtain⟨i,o,e⟩:=qj.1 h1;obtain⟨k,q,k2,k3⟩:=S.vZ.dec i o (by rw[e];exact m);rw[e] at k3;rw[k3 (by omega)];exact l5 (by omega)
end
end
section
def ox(n:Nat):Core:=⟨n,b_ (2*n+2) [],b_ (n+1) 0,b_ (n+1) 0,b_ (n+1) none,[],[],0,false,[]⟩
theorem yP(n:Nat)(k:Nat):ai (b_ n 0) k=0:=by
 unfold ai;rw[x_,ZW];split<;>rfl
theorem Bz{α:Type}(n:Nat)(k:Nat):ax (b_ n ([]:List α)) k=[]:=by
 unfold ax;rw[x_,ZW];split<;>rfl
theorem kf.init(F:List (List Int))(n:Nat):kf F [] (ox n) 0 []:=by
 have f:∀x,jZ (ox n) x=0:=λ x=>by
  unfold jZ;have:∀k,ai (ox n).val k=0:=yP _;rw[this];split<;>rfl
 refine⟨⟨by simp[ox],by simp[ox],by simp[ox],λ x e=>by simp[ox] at e,by simp[ox],λ v=>Z4 (yP _ _),λ x e=>?_,λ j k _ hk=>by simp[ox] at hk,λ k hk=>by simp[ox] at hk,λ i c=>by simp[ox] at c,λ i c=>by simp[ox] at c⟩,
  ⟨λ d b=>by simp[ox] at b,λ d b=>by simp[ox] at b,λ g l=>by simp at l,λ h=>by simp[ox] at h,Z_ λ d b=>by simp[ox] at b⟩,
  ⟨by simp[ox],λ k d b=>?_,λ k=>?_,λ d b=>by simp[ox] at b⟩,λ d b=>by simp[ox] at b,λ k hk=>by simp[ox] at hk,λ k hk=>by simp[ox] at hk,Z6 _⟩
 ·rw[f];simp[ox]
 ·have:ax (ox n).wt k=[]:=Bz _ _;rw[this] at b;cases b
 ·have:ax (ox n).wt k=[]:=Bz _ _;rw[this];exact List.nodup_nil
structure FG(n:Nat)(F:List (List Int))(g l:List Int)(both:Bool):Prop where
 ok:both=false->l≠ []->oR n l
 imp:both=false->pL F l
 mem:∀x,x∈l↔x∈g
 J4:both=true->vz g
def aj.oJ(s:aj)(l:List Int)(both:Bool)(x:si):aj:={s with c:=pO s.c l both,ci:=if both=true\/l.length=0 then s.ci else s.ci++[x]}
section
variable {F Fd:List (List Int)}{c:Core}{n:Nat}
theorem nI.low(T:jV c)(hs:c.st=[])(b:List Int):nI c b:=by
 refine⟨λ k hk=>by rw[hs] at hk;simp at hk,λ i d hw=>?_⟩;have:=T.p7 i d;rw[hw] at this;obtain⟨k,hk,_⟩:=this;rw[hs] at hk;simp at hk
theorem J5{l:List Int}{b:Bool}(h:ai c.val 0=0)(hl:b=false->l≠ []->oR n l):ai (pO c l b).val 0=0:=by
 unfold pO
 by_cases h1:b=true
 ·rw[if_pos h1];exact h
 ·rw[if_neg h1]
  by_cases d:l.length=0
  ·rw[if_pos d];exact h
  ·rw[if_neg d]
   by_cases f:l.length=1
   ·rw[if_pos f]
    by_cases g:jZ c (ai l 0)= -1
    ·rw[if_pos g];exact h
    ·rw[if_neg g]
     by_cases i:jZ c (ai l 0)=0
     ·rw[if_pos i];show ai (c.val.set _ _) 0=0;have:=((hl (by simpa using h1) (λ e=>d (by rw[e];rfl))).lt (ai l 0) (l5 (by omega))).1;rw[o7,if_neg (by omega)];exact h
     ·rw[if_neg i];exact h
   ·rw[if_neg f];exact h
end
structure yQ(F Fd:List (List Int))(n:Nat)(s:aj):Prop where
 gK:kf F Fd s.c 0 []
 jh:s.c.n=n
 st:s.c.st=[]
 ag:s.c.ag=0
 v0:ai s.c.val 0=0
 nV:s.ci.length=s.c.cl.length
 qa:∀d,0<=(lH s d).ac/\(lH s d).ac<=js/\0<=(lH s d).aR/\(lH s d).aR<=js
theorem yQ.take{F Fd:List (List Int)}{n:Nat}{s:aj}(h:yQ F Fd n s){g l:List Int}{both:Bool}(k:FG n F g l both){x:si}(b:0<=x.ac/\x.ac<=js/\0<=x.aR/\x.aR<=js):yQ F (Fd++[g]) n (s.oJ l both x):=by
 refine⟨h.gK.take h.st rfl (by rw[h.jh];exact k.ok) k.imp k.mem k.J4,(JQ _ _ _).trans h.jh,(JR _ _ _).trans h.st,(JS _ _ _).trans h.ag,J5 h.v0 k.ok,?_,λ d=>?_⟩
 ·show(if both=true\/l.length=0 then s.ci else s.ci++[x]).length=(pO s.c l both).cl.length;rw[Bs];split
  ·exact h.nV
  ·rw[q_,q_,h.nV];rfl
 ·have e:lH (s.oJ l both x) d=(if both=true\/l.length=0 then s.ci else s.ci++[x]).getD d ⟨false,0,0⟩:=rfl;rw[e];split
  ·exact h.qa d
  ·rw[yO];split
   ·exact b
   ·exact h.qa d
theorem J6(s:aj)(l:List Int)(both:Bool)(x:si){d:Nat}(b:d<s.c.cl.length)(e:s.ci.length=s.c.cl.length):ax (s.oJ l both x).c.cl d=ax s.c.cl d/\lH (s.oJ l both x) d=lH s d:=by
 refine⟨?_,?_⟩
 ·show ax (pO s.c l both).cl d=_;rw[Bs];split
  ·rfl
  ·exact Bd b
 ·show(if both=true\/l.length=0 then s.ci else s.ci++[x]).getD d ⟨false,0,0⟩=_;split
  ·rfl
  ·rw[yO,if_neg (by omega)];rfl
theorem J7(s:aj)(l:List Int)(x:si)(hl:l≠ [])(d:s.ci.length=s.c.cl.length):(s.oJ l false x).c.cl.length=s.c.cl.length+1/\ax (s.oJ l false x).c.cl s.c.cl.length=l/\lH (s.oJ l false x) s.c.cl.length=x:=by
 have b:¬(false=true\/l.length=0):=λ h=>h.elim (λ h=>by cases h) (λ h=>hl (Zr h))
 have e:(s.oJ l false x).c.cl=s.c.cl++[l]:=by
  show(pO s.c l false).cl=_;rw[Bs,if_neg b]
 refine⟨by rw[e];simp,by rw[e];exact uR _ _,?_⟩;show(if false=true\/l.length=0 then s.ci else s.ci++[x]).getD s.c.cl.length ⟨false,0,0⟩=x;rw[if_neg b,yO,if_pos d.symm]
end
section
theorem mh.len(O:mh n ord pl):ord.length<=n:=by
 have h:=xL n (ord.map λ x=>x.toNat-1) ?_ ?_
 ·rwa[Z0] at h
 ·rw[List.nodup_iff_pairwise_ne,List.pairwise_iff_getElem];intro i j c d l e;rw[Z0] at c d;rw[List.getElem_map,List.getElem_map] at e;have a:=O.inv i c;have b:=O.inv j d;rw[ny c] at a;rw[ny d] at b;have:=O.inj c d (by rw[ny c,ny d];omega);omega
 ·intro x f;obtain⟨y,g,rfl⟩:=Zx.1 f;obtain⟨k,hk,rfl⟩:=qj.1 g;have:=O.inv k hk;omega
structure pX(s:aj)(xs:List Int)(j:Nat)(s1:aj):Prop where
 c:s1.c={s.c with val:=zero s.c.val (xs.take j),j9:=th s.c.j9 (xs.take j)}
 act:s1.act=s.act
 aM:s1.aM=s.aM
 ci:s1.ci=s.ci
 aI:s1.aI=s.aI
 aA:s1.aA=s.aA
 aN:s1.aN=s.aN
 nl:s1.nl=s.nl
 jl:s1.jl=s.jl
 nB:s1.bl.length=s.bl.length
 oT:jE s1.bl 0=jE s.bl 0
 lT:mh s.c.n s1.ord s1.pl
 yN:∀v,0<=ai s.pl v->0<=ai s1.pl v
 Ds:∀x∈xs.take j,0<=ai s1.pl (aH x)
def aj.vE(s:aj)(x:Int):aj:={s with ord:=s.ord++[x]}
def aj.FH(s:aj)(x:Nat):aj:={s with c:={s.c with st:=s.c.st++[x]}}
def aj.uX(s:aj)(x:Nat):aj:={s with aI:=s.aI++[x]}
def aj.uz(s:aj)(v:Nat)(b:Bool):aj:=((s.ux v b).pe v 0).qI v none
section
variable {s s1:aj}{xs:List Int}{j:Nat}
theorem pX.start(O:mh s.c.n s.ord s.pl):pX s xs 0 s:=
 ⟨by simp[zero,th],rfl,rfl,rfl,rfl,rfl,rfl,rfl,rfl,rfl,rfl,O,λ _ h=>h,λ x b=>by simp at b⟩
theorem yR{xs:List Int}{j:Nat}(b:j<xs.length):xs.take (j+1)=xs.take j++[ai xs j]:=by
 rw[ny b,List.take_succ_eq_append_getElem b]
theorem FI(h:pX s xs j s1)(d:j<xs.length)(b:Bool):(s1.uz (aH (ai xs j)) b).c={s.c with val:=zero s.c.val (xs.take (j+1)),j9:=th s.c.j9 (xs.take (j+1))}:=by
 unfold aj.uz aj.ux aj.pe aj.qI;dsimp only;rw[h.c,yR d];simp[zero,th,List.foldl_append]
theorem pX.stay(h:pX s xs j s1)(c:j<xs.length)(d:1<=aH (ai xs j))(b:Bool)(hp:0<=ai s1.pl (aH (ai xs j))):pX s xs (j+1) (s1.uz (aH (ai xs j)) b):=
 ⟨FI h c b,h.act,h.aM,h.ci,h.aI,h.aA,h.aN,h.nl,h.jl,by show(s1.bl.set _ _).length=_;rw[v_];exact h.nB,
  by show jE (s1.bl.set _ _) 0=_;rw[zM,if_neg (by omega)];exact h.oT,h.lT,h.yN,λ x hm=>by
   rw[yR c] at hm;rcases List.mem_append.1 hm with hm|hm
   ·exact h.Ds x hm
   ·rw[List.mem_singleton.1 hm];exact hp⟩
theorem pX.push(h:pX s xs j s1)(b:1<=aH (ai xs j))(d:aH (ai xs j)<=s.c.n)(hp:ai s1.pl (aH (ai xs j))<0):mh s.c.n (s1.ord++[(aH (ai xs j):Int)]) (s1.pl.set (aH (ai xs j)) (s1.ord.length:Int)):=h.lT.push b d hp
theorem pX.back(h:pX s xs j s1)(d:j<xs.length)(q:1<=aH (ai xs j))(r:aH (ai xs j)<=s.c.n)(b:Bool)(hp:ai s1.pl (aH (ai xs j))<0){iK:aj}
   (hO:pW (((s1.uz (aH (ai xs j)) b).pV (aH (ai xs j)) (s1.ord.length:Int)).vE (aH (ai xs j):Int)) iK):pX s xs (j+1) iK:=by
 obtain⟨o,p,he⟩:=hO.eq;have f:∀u,ai (s1.pl.set (aH (ai xs j)) (s1.ord.length:Int)) u=if aH (ai xs j)=u then (s1.ord.length:Int) else ai s1.pl u:=λ u=>by
   rw[o7]
   by_cases e:aH (ai xs j)=u
   ·rw[if_pos e,if_pos ⟨e,by rw[h.lT.sL];omega⟩]
   ·rw[if_neg e,if_neg (λ k=>e k.1)]
 have g:∀u,0<=ai iK.pl u↔0<=ai (s1.pl.set (aH (ai xs j)) (s1.ord.length:Int)) u:=hO.same;have l:iK.c={s.c with val:=zero s.c.val (xs.take (j+1)),j9:=th s.c.j9 (xs.take (j+1))}:=by rw[<-FI h d b,he];rfl
 refine⟨l,by rw[he];exact h.act,by rw[he];exact h.aM,by rw[he];exact h.ci,by rw[he];exact h.aI,by rw[he];exact h.aA,by rw[he];exact h.aN,by rw[he];exact h.nl,by rw[he];exact h.jl,
  by rw[he];show(s1.bl.set _ _).length=_;rw[v_];exact h.nB,
  by rw[he];show jE (s1.bl.set _ _) 0=_;rw[zM,if_neg (by omega)];exact h.oT,?_,λ v m=>?_,λ x hm=>?_⟩
 · have:=hO.lT;have e:(((s1.uz (aH (ai xs j)) b).pV (aH (ai xs j)) (s1.ord.length:Int)).vE (aH (ai xs j):Int)).c.n=s.c.n:=by show s1.c.n=_;rw[h.c]
   rwa[e] at this
 · rw[g,f];split
   ·omega
   ·exact h.yN v m
 · rw[yR d] at hm;rw[g,f];split
   ·omega
   ·rename_i i;rcases List.mem_append.1 hm with hm|hm
    ·exact h.Ds x hm
    ·rw[List.mem_singleton.1 hm] at i;exact absurd rfl i
def aj.z6(s:aj)(m level:Nat):aj:={s with c:={s.c with au:=s.c.au.take m,st:=s.c.st.take level,ag:=m}}
theorem pX.done{level:Nat}(h:pX s (s.c.au.drop (gQ s.c.st level)) (s.c.au.drop (gQ s.c.st level)).length s1):bf level s (s1.z6 (gQ s.c.st level) level):=by
 have d:(s1.z6 (gQ s.c.st level) level).c=mJ s.c level:=by
  show({s1.c with au:=s1.c.au.take _,st:=s1.c.st.take _,ag:=_}:Core)=_;rw[h.c,List.take_length];rfl
 refine⟨d,h.aI,h.aA,h.aN,h.nl,h.jl,h.ci,h.aM,h.yN,λ v h1 g e=>?_⟩;rw[d] at e;have b:ai (zero s.c.val (s.c.au.drop (gQ s.c.st level))) v=0:=e;rw[yz] at b;split at b
 ·rename_i hm;obtain⟨x,f,rfl⟩:=Zx.1 hm;exact Z_ (h.Ds x (by rw[List.take_length];exact f))
 ·exact Z4 b
theorem pX.rg{n:Nat}{A B:Int}{m level:Nat}(h:pX s xs j s1)(r:mu n A B s)(f:1<=n):mu n A B (s1.z6 m level):=by
 have b:(s1.z6 m level).c.cl=s.c.cl:=by show s1.c.cl=_;rw[h.c]
 refine⟨by show s1.c.n=n;rw[h.c];exact r.jh,by have:=h.lT;rwa[r.jh] at this,by show s1.act.length=_;rw[h.act];exact r.kM,λ v=>by show 0<=ai s1.act v/\ai s1.act v<=A;rw[h.act];exact r.pP v,by show ai s1.act 0=0;rw[h.act];exact r.a0,by show 1<=s1.aM;rw[h.aM];exact r.rC,by show s1.aM<=A;rw[h.aM];exact r.oS,h.nB.trans r.nB,h.oT.trans r.oT,by rw[b];show s1.ci.length=_;rw[h.ci];exact r.nV,λ d=>?_,λ d e=>?_⟩
 ·have:lH (s1.z6 m level) d=lH s d:=by show s1.ci.getD d _=_;rw[h.ci];rfl
  rw[this];exact r.qa d
 ·rw[b];exact r.kX d (by rw[<-h.aI];exact e)
end
end
section
open Go.RowKit Go.Shelf
theorem FJ:(w_.info? 164).map (λ i=>(i.zero,i.size,i.bytes))=some (some (.pointer none),1,8):=by kernel_rfl
structure rD(w:World)(A:Option Addr)(m c:Nat)(ah:List Value):Prop where
 len:ah.length=m
 cells:0<m->∃b off,A=some ⟨b,off,none⟩/\∀j u,ah[j]? =some u->w.cell? ⟨b,off+j,none⟩=some u
 ptr:∀u∈ah,∃p,u=.pointer p
theorem rD.one{w:World}{b:Nat}{p:Option Addr}(h:w.cell? ⟨b,0,none⟩=some (.pointer p)):rD w (some ⟨b,0,none⟩) 1 1 [.pointer p]:=
 ⟨rfl,λ _=>⟨b,0,rfl,λ j u c=>by
  have:j=0:=by have:=(c_.1 c).1;simpa using this
  subst this;simp only[ZV,ZJ] at c;subst c;exact h⟩,λ u hu=>⟨p,by simpa using hu⟩⟩
theorem Dt(w:World)(ty:TypeId)(base:Nat)(v:Value)(n:Nat)(xs:List Value)(f:w.ownsRow base 164 1 v n xs)
  (A:Option Addr) (m c:Nat) (e:List Value) (d:rD w A m c e) (o:(n+m)*8<=140737488355328) (q:base<=w.heap.size):
  ∃v' w',(Builtin.append_ #[160,160] ty #[v,.slice A m c]).run w_ w=.ok v' w'/\oa w base 164 v (n+m) (xs++e) v' w':=by
 obtain⟨i0,i,r,s,t⟩:=info_parts FJ
 cases A with
 |none=>
  have hm:m=0:=by
   rcases Zi m with g|g
   ·exact g
   ·obtain⟨b,off,he,_⟩:=d.cells g;cases he
  subst hm;have y:e=[]:=Zr d.len;subst y;exact⟨v,w,CV Tryz.underlying160 w base ty i0 i v n 1 _ f c,by simpa using f,World.grownBy.refl w _,.inl rfl⟩
 |some k=>
  have z:∀j u,e[j]? =some u->w.cell? (k.add j)=some u:=by
   intro j u l;have F:j<m:=by have:=(c_.1 l).1;simpa[d.len] using this
   obtain⟨b,off,he,B⟩:=d.cells (by omega);injection he with he
   subst he;rw[Addr.add_lit];exact B j u l
  obtain⟨v',w',h1,C,D,_,E⟩:=run_append_own_at (P:=w_) w base 160 ty 164 i0 (.pointer none) 1 8 Tryz.underlying160 i r s t rfl (by decide) v n _ f k m c e (by rw[d.len,Nat.mul_one]) z (by intro u hu;obtain⟨p,rfl⟩:=d.ptr u hu;rfl) (by unfold maxLen;omega) o q;exact⟨v',w',h1,C,D,E⟩
theorem FK{w:World}{rest:List Oper}{o:Oper}(d:o.guard=none)(s x:Operand)
  (e:o.op=.call {callee:=.builtin .append,args:= #[s,x],argTypes:= #[160,160]}) (base:Nat) (v:Value) (n:Nat) (xs:List Value) (hs:a.eval s=v) (f:w.ownsRow base 164 1 v n xs)
  (A:Option Addr) (m c:Nat) (b:List Value) (g:a.eval x=.slice A m c) (i:rD w A m c b) (j:(n+m)*8<=140737488355328) (k:base<=w.heap.size)
  (h:∀v' w',oa w base 164 v (n+m) (xs++b) v' w'->wpList w_ ops Q rest (a.put o.dst v') w'):
  wpList w_ ops Q (o::rest) a w:=by
 obtain⟨v',w',h1,l⟩:=Dt w o.type base v n xs f A m c b i j k;refine wpList_plain d λ K p=>?_
 unfold Oper.wp;simp only[execOp,e,resolve,invoke,builtin,Sem.run_bind,Sem.run_pure,Result.andThen_ok,List.map_toArray,List.map_cons,List.map_nil,hs,g,h1];exact p _ _ (h v' w' l)
section
variable {K:Nat->Prop}{base:Nat}{w di W:World}{G:Nat}{hs:Nat->aq}{cb:Nat->Nat}{s:aj}
theorem j5.xV{gw:List Value}{cls:Nat->List Value}{n:Nat}{X:Nat->List Value}(h:j5 base w G hs cb gw cls n X){r g:Nat}(f:(hs r).b=some g):(hs r).n<=(hs r).c:=by
 obtain⟨_,i⟩:=h.rows.row r;rcases i with⟨d,_⟩|⟨j,k,cur,e,_,_,l,_⟩
 ·have:=(h.rows.form f).1;unfold aq.v at d;rw[this] at d
  cases d
 ·unfold aq.v at e;injection e with _ _ e
  omega
theorem aU.J8(h:aU K base w G hs cb s){v':Value}{x:Int}(c:oa w base 3 (hs 7).v (s.ord.length+1) ((s.ord++[x]).map (ZK .i64)) v' di):
  ∃h':aq,v'=h'.v/\h'.n=s.ord.length+1/\di.cell? ⟨G,10,none⟩=some (hs 7).v/\di.frozen? ⟨G,10,none⟩=false/\aU K base (di.setCell ⟨G,10,none⟩ v') G (iH hs 7 h') cb (s.vE x)/\aD K w (di.setCell ⟨G,10,none⟩ v'):=by
 obtain⟨f,b,i⟩:=c;obtain⟨a1,a2⟩:=h.e.after (r:=7) (by rw[<-aq.own];exact b) 10;obtain⟨h',rfl,j,k,l,m⟩:=j5.app h.e h.s (r:=7) f b i;refine⟨h',rfl,j,by rw[a1];exact h.e.kA rfl,a2,⟨?_,l.more (kK di G 10 _).size⟩,m.trans (aD.set G 10 _ h.s.g)⟩;refine(k.field 10 h'.v).eq rfl rfl rfl (λ d _=>(vX hs s (by omega) _ d).symm) rfl (λ r=>?_);rw[vW hs cb _ (by omega)]
 by_cases e:r=7
 ·subst e;rw[jH];rfl
 ·rw[aX _ _ e];simp only[cont,if_neg e,aj.vE]
theorem aU.FL(h:aU K base w G hs cb s){v':Value}{x:Nat}(f:oa w base 3 (hs 5).v (s.c.st.length+1) (ql (s.c.st++[x])) v' di):
  ∃h':aq,v'=h'.v/\h'.n=s.c.st.length+1/\di.cell? ⟨G,6,none⟩=some (hs 5).v/\di.frozen? ⟨G,6,none⟩=false/\aU K base (di.setCell ⟨G,6,none⟩ v') G (iH hs 5 h') cb (s.FH x)/\aD K w (di.setCell ⟨G,6,none⟩ v'):=by
 obtain⟨i,b,j⟩:=f;obtain⟨a1,a2⟩:=h.e.after (r:=5) (by rw[<-aq.own];exact b) 6;obtain⟨h',rfl,k,l,m,o⟩:=j5.app h.e h.s (r:=5) i b j;refine⟨h',rfl,k,by rw[a1];exact h.e.kA rfl,a2,⟨?_,m.more (kK di G 6 _).size⟩,o.trans (aD.set G 6 _ h.s.g)⟩;refine(l.field 6 h'.v).eq rfl rfl rfl (λ d _=>(vX hs s (by omega) _ d).symm) rfl (λ r=>?_);rw[vW hs cb _ (by omega)]
 by_cases e:r=5
 ·subst e;rw[jH];rfl
 ·rw[aX _ _ e];simp only[cont,if_neg e,aj.FH]
theorem aU.FM(h:aU K base w G hs cb s){v':Value}{x:Nat}(c:oa w base 164 (hs 10).v (s.aI.length+1) (kV cb (s.aI++[x])) v' di):
  ∃h':aq,v'=h'.v/\h'.n=s.aI.length+1/\di.cell? ⟨G,13,none⟩=some (hs 10).v/\di.frozen? ⟨G,13,none⟩=false/\aU K base (di.setCell ⟨G,13,none⟩ v') G (iH hs 10 h') cb (s.uX x)/\aD K w (di.setCell ⟨G,13,none⟩ v'):=by
 obtain⟨f,b,i⟩:=c;obtain⟨a1,a2⟩:=h.e.after (r:=10) (by rw[<-aq.own];exact b) 13;obtain⟨h',rfl,j,k,l,m⟩:=j5.app h.e h.s (r:=10) f b i;refine⟨h',rfl,j,by rw[a1];exact h.e.kA rfl,a2,⟨?_,l.more (kK di G 13 _).size⟩,m.trans (aD.set G 13 _ h.s.g)⟩;refine(k.field 13 h'.v).eq rfl rfl rfl (λ d _=>(vX hs s (by omega) _ d).symm) rfl (λ r=>?_);rw[vW hs cb _ (by omega)]
 by_cases e:r=10
 ·subst e;rw[jH];rfl
 ·rw[aX _ _ e];simp only[cont,if_neg e,aj.uX]
end
end
section
open Go.RowKit Go.Shelf
def J9(K:Nat->Prop)(base:Nat)(w:World)(G:Nat)(cb:Nat->Nat)(n:Nat)(A B:Int)(level:Nat)(s:aj)(e:Ending)(w':World):Prop:=
 e=.returned (.tuple #[])/\∃hs' s',bf level s s'/\mu n A B s'/\aU K base w' G hs' cb s'/\aD K w w'
theorem FN{w:World}(h:aU K base w G hs cb s)(r:mu n A B s)(T:jV s.c)(b9:n<=60000)(level:Nat)(hl:level<s.c.st.length)(b':s.c.st.length<=1000000)(ca:0<s.c.au.length):
  Calls w_ 147 #[.pointer (some ⟨G,0,none⟩),.int .i64 level] w (J9 K base w G cb n A B level s):=by
 obtain⟨from_,az⟩:∃m,gQ s.c.st level=m:=⟨_,rfl⟩
 have bg:from_<=s.c.au.length:=by rw[<-az];exact T.oH level hl
 have aK:=T.len;rw[r.jh] at aK;obtain⟨g5,aL,bh,f5⟩:=h.e.lV 6 5 rfl h.e.j0 (by omega);have c5:=h.e.Fk aL hl;rw[az] at c5;have H:=U h;have C:=U r;have aM:=U T;have Z:=U aL;have cc:¬(s.c.st.length:Int)<=(level:Int):=by omega
 have cd:(level:Int)<(s.c.st.length:Int):=by omega
 obtain⟨g4,aa,bJ,f4⟩:=h.e.lV 5 4 rfl h.e.j6 (by omega);have bj:=h.e.xV aa;rw[h.e.j6] at bj;obtain⟨c4,D⟩:∃c4,(hs 4).c=c4:=⟨_,rfl⟩
 rw[D] at bJ bj;have cf:(from_:Int)<=(s.c.au.length:Int):=by omega
 have cg:(s.c.au.length:Int)<=(c4:Int):=by omega
 have u:=U (z_ az (z_ bg aK));have al:=U aa;clear h r T aL f5 f4 aa az bg aK;go_enter Tryz.func147,Tryz.ntmps147
 go_wp2_with fail
 case inr hcf=>
  generalize hm:s.c.au.length-from_=m;have ab:=U hm;clear hm
  go_loopw [6,7,29] (λ _ _ Q W=>∃(k:Nat)(l:Nat->aq)(s1:aj),k<=m/\Q=.int .i64 k/\pX s (s.c.au.drop from_) k s1/\aU K base W G l cb s1/\aD K w W/\∀r,r≠7->l r=hs r) (λ _ _ Q _=>m-(intOf Q).toNat)
  case atStart=>exact⟨0,hs,s,by omega,rfl,pX.start (C.o.jh▸C.o.lT),H.o,aD.refl,λ _ _=>rfl⟩
  case round=>
   obtain⟨k,l,s1,hk,rfl,an,I,hF,hH⟩:=hrel;have E:=U I;have F:=U hF;have j:=U an;have L:=U hH;clear I hF an hH
   by_cases aN:k<m
   ·have bk:(k:Int)<(m:Int):=by omega
    have aA:=U aN;have ch:k<60000:=by have:=u.o;have:=ab.o;omega
    obtain⟨bL,bM,bN⟩:=u.o;have hm:=ab.o;have aB:from_+k<s.c.au.length:=by omega
    have aO:k<(s.c.au.drop from_).length:=by rw[ZY];omega
    have bn:ai (s.c.au.drop from_) k=ai s.c.au (from_+k):=by
     rw[ny aO,ny aB,List.getElem_drop]
    have y:s1.c.au=s.c.au:=by rw[j.o.c]
    have ad:s.c.n=n:=C.o.jh;obtain⟨x,aC⟩:∃x,ai s.c.au (from_+k)=x:=⟨_,rfl⟩
    have aP:gU s.c.n x:=by rw[<-aC];exact aM.o.lit _ (l5 aB)
    obtain⟨v,aE⟩:∃v:Nat,aH x=v:=⟨_,rfl⟩
    have bo:1<=v/\v<=n:=by have:=aP;unfold gU at this;rw[aE,ad] at this;exact this
    have cj: -60000<=x/\x<=60000:=by unfold aH at aE;omega
    have aa:(l 4).b=some g4:=by rw[L.o 4 (by omega)];exact al.o
    have c1:=E.o.e.zX aa (k:=from_+k) (by rw[y];exact aB);rw[y,aC] at c1;have aS:s1.bl.length=n+1:=j.o.nB.trans C.o.nB;have aT:s1.c.val.length=n+1:=by rw[j.o.c];show(zero s.c.val _).length=_;rw[C7,aM.o.rN,ad]
    have aV:s1.c.j9.length=n+1:=by rw[j.o.c];show(th s.c.j9 _).length=_;rw[C8,aM.o.o8,ad]
    have bp:s1.pl.length=n+1:=by have:=j.o.lT.sL;rw[ad] at this;exact this
    obtain⟨g9,ao,bO,f9⟩:=E.o.e.lV 12 9 rfl (E.o.e.jJ.trans aS) (by omega);obtain⟨g1,ar,bP,f1⟩:=E.o.e.lV 2 1 rfl (E.o.e.kJ.trans aT) (by omega);obtain⟨g3,av,bQ,f3⟩:=E.o.e.lV 4 3 rfl (E.o.e.nA.trans aV) (by omega);have d9:=E.o.e.Fl ao (k:=v) (by omega);have d1:=E.o.e.zW ar (k:=v) (by omega);have d3:=E.o.e.yI av (k:=v) (by omega);obtain⟨pa,bq⟩:∃pa,qZ cb (mF s1.c.j9 v)=.pointer pa:=by cases mF s1.c.j9 v with|none=>exact⟨_,rfl⟩|some d=>exact⟨_,rfl⟩
    rw[bq] at d3;have bR:=f9 v;have bS:=f1 v;have bT:=f3 v;have br:g9≠g1:=E.o.e.wT (r:=9) (r':=1) (by omega) ao ar;have bs:g9≠g3:=E.o.e.wT (r:=9) (r':=3) (by omega) ao av;have n13:g1≠g3:=E.o.e.wT (r:=1) (r':=3) (by omega) ar av;have n19:=br.symm;have n39:=bs.symm;have n31:=n13.symm;have aR:(v:Int)<((n+1:Nat):Int):=by omega
    have aW:=U ao;have bt:=U ar;have bU:=U av;have f:=U (z_ aC (z_ aE (z_ bn (z_ aP aO))));have M:=U (z_ aS (z_ aT (z_ aV (z_ bp ad))));have N:=U bo;clear ao ar av aa f9 f1 f3 aC aE bn aP aO aS aT aV bp ad bo bL bM bN hm aB y bq
    go_upto_region 6 with(go_at_call 97;refine(sM x _ (by omega) (by omega)).mono ?_;rintro e w1 ⟨rfl,rfl⟩;rw[f.o.2.1])
    go_wp2_with fail
    go_region
    generalize bV:decide (0<x)=b;have z:=((E.o.zV aW.o v b).1.xR bt.o v 0).1.zU bU.o v none;have aw:=U (F.o.trans ((((E.o.zV aW.o v b).2.trans (((E.o.zV aW.o v b).1.xR bt.o v 0).2.trans z.2)).trans aD.drew)));have z:bI (aU K base ((((wr.setCell ⟨g9,v,none⟩ (.bool b)).setCell ⟨g1,v,none⟩ (.int .i8 0)).setCell ⟨g3,v,none⟩ (.pointer none)).drew) G l cb (s1.uz v b)):=U z.1.drew;have aw:bI (aD K w ((((wr.setCell ⟨g9,v,none⟩ (.bool b)).setCell ⟨g1,v,none⟩ (.int .i8 0)).setCell ⟨g3,v,none⟩ (.pointer none)).drew)):=aw;generalize (((wr.setCell ⟨g9,v,none⟩ (.bool b)).setCell ⟨g1,v,none⟩ (.int .i8 0)).setCell ⟨g3,v,none⟩ (.pointer none)).drew=bu at z aw;clear bO bP bQ d9 d1 d3 bR bS bT br bs n13 n19 n39 n31 c1 bV;obtain⟨g8,ae,aY,f8⟩:=z.o.e.lV 11 8 rfl (z.o.e.n8.trans M.o.2.2.2.1) (by omega);have d8:=z.o.e.wU ae (k:=v) (by show v<s1.pl.length;have:=M.o.2.2.2.1;have:=N.o;omega);rw[show(s1.uz v b).pl=s1.pl from rfl] at d8;obtain⟨pv,aZ⟩:∃pv,ai s1.pl v=pv:=⟨_,rfl⟩
    rw[aZ] at d8;have bW:=f8 v;have bX:=U ae;have rD:=U aZ;clear ae f8 aZ
    by_cases hp:0<=pv
    ·have bw:¬pv<0:=by omega
     have aF:=U hp;clear hp
     go_wp2_with fail
     go_roundw
     case rel=>exact⟨k+1,l,_,by have:=aA.o;omega,by go_num,(by
       have:=pX.stay (b:=b) j.o f.o.2.2.2.2 (by rw[f.o.2.2.1,f.o.1,f.o.2.1];exact N.o.1) (by rw[f.o.2.2.1,f.o.1,f.o.2.1,rD.o];exact aF.o);rw[f.o.2.2.1,f.o.1,f.o.2.1] at this;exact this),z.o,aw.o,L.o⟩
     case measure=>have:=aA.o;simp[intOf];omega
    ·have bw:pv<0:=by omega
     have aF:=U bw;clear hp;obtain⟨R,n7,S,aG⟩:∃R n7 S,l 7=⟨R,n7,S⟩:=⟨_,_,_,rfl⟩
     obtain⟨i,aI⟩:∃i,s1.ord.length=i:=⟨_,rfl⟩
     have a6:n7=i:=by have:=z.o.e.n7;rw[aG] at this;exact this.trans aI
     have a7:bu.cell? ⟨G,10,none⟩=some (.slice R i S):=by have:=z.o.e.kA (k:=10) (v:=(l 7).v) rfl;rw[aG,a6] at this;exact this
     have bx:i<=n:=by have:=j.o.lT.len;rw[aI,M.o.2.2.2.2] at this;exact this
     have q:=U (z_ aG (z_ a6 (z_ aI bx)));clear aG a6 aI bx
     go_wp2_with fail
     go_region
     have af:=z.o.xS bX.o v (i:Int);have bz:=U (aw.o.trans (af.2.trans aD.drew));have af:=U af.1.drew;generalize (bu.setCell ⟨g8,v,none⟩ (.int .i64 (i:Int))).drew=ax at af bz;clear aY d8 bW a7;have a7:ax.cell? ⟨G,10,none⟩=some (.slice R i S):=by have:=af.o.e.kA (k:=10) (v:=(l 7).v) rfl;rw[q.o.1,q.o.2.1] at this;exact this
     have aJ:=U (af.o.below (bK ax (.cells #[.int .i64 (v:Int)] 3)));have bA:(ax.alloc (.cells #[.int .i64 (v:Int)] 3)).ownsRow base 3 1 (.slice R i S) i (s1.ord.map (ZK .i64)):=by have:=aJ.o.1.e.rows.row 7;rw[q.o.1,q.o.2.1] at this;exact this
     have bY:=U bA;have bZ:=U aJ.o.1.e.lt;have bB:(l 7).v=.slice R i S:=by rw[q.o.1,q.o.2.1];rfl
     have b0:=U bB;clear bA bB
     go_upto_region 10 with(at_builtin;refine vq rfl (.tmp 78) (.tmp 80) rfl base (.slice R i S) i s1.ord rfl bY.o (some ⟨ax.heap.size,0,none⟩) 1 1 [(v:Int)] rfl (aQ.lit ax [(v:Int)] 1 _ rfl rfl (by omega)) (by have:=q.o;omega) (Nat.le_of_lt bZ.o) ?_;intro v9 di bC;obtain⟨⟨A',b1,c'⟩,b2,bD,bh,f5,O,ag⟩:=aU.J8 (s:=(s1.uz v b).pV v (i:Int)) (x:=(v:Int)) aJ.o.1 (by rw[b0.o];rw[show((s1.uz v b).pV v (i:Int)).ord.length=i from q.o.2.2.1];exact bC);obtain rfl:b1=i+1:=bD.trans (by rw[show((s1.uz v b).pV v (i:Int)).ord.length=i from q.o.2.2.1]);obtain rfl:v9=.slice A' (i+1) c':=b2)
     have ag:=U (bz.o.trans (aJ.o.2.trans ag));have O:bI (aU K base (di.setCell ⟨G,10,none⟩ (.slice A' (i+1) c')) G (iH l 7 ⟨A',i+1,c'⟩) cb (((s1.uz v b).pV v (i:Int)).vE (v:Int))):=U O;have ag:bI (aD K w (di.setCell ⟨G,10,none⟩ (.slice A' (i+1) c'))):=ag;generalize di.setCell ⟨G,10,none⟩ (.slice A' (i+1) c')=ck at O ag;clear a7 bh f5 bD bC;have ah:mh s.c.n (s1.ord++[(v:Int)]) (s1.pl.set v (i:Int)):=by
      have:=j.o.push (by rw[f.o.2.2.1,f.o.1,f.o.2.1];exact N.o.1) (by rw[f.o.2.2.1,f.o.1,f.o.2.1,M.o.2.2.2.2];exact N.o.2) (by rw[f.o.2.2.1,f.o.1,f.o.2.1,rD.o];exact aF.o);rw[f.o.2.2.1,f.o.1,f.o.2.1,q.o.2.2.1] at this;exact this
     obtain⟨iK,P⟩:∃iK,iK=((s1.uz v b).pV v (i:Int)).vE (v:Int):=⟨_,rfl⟩
     rw[<-P] at O;have j6:iK.c.n=n:=by rw[P];show s1.c.n=n;rw[j.o.c];exact M.o.2.2.2.2
     have ah:mh iK.c.n iK.ord iK.pl:=by rw[j6,P,<-M.o.2.2.2.2];exact ah
     have a4:iK.act.length=iK.c.n+1:=by rw[j6,P];show s1.act.length=_;rw[j.o.act];exact C.o.kM
     have bE:iK.ord.length=i+1:=by rw[P];show(s1.ord++[_]).length=_;rw[q_,q.o.2.2.1];rfl
     have bF:ai iK.pl v=i:=by rw[P];show ai (s1.pl.set v _) v=_;rw[o7,if_pos ⟨rfl,by have:=M.o.2.2.2.1;have:=N.o;omega⟩]
     obtain⟨cm,ae,aY,f8⟩:=O.o.e.lV 11 8 rfl (O.o.e.n8.trans ah.sL) (by omega);rw[j6] at aY;have d8:=O.o.e.wU ae (k:=v) (by rw[ah.sL,j6];have:=N.o;omega);rw[bF] at d8;have ak:=U (z_ P (z_ j6 (z_ ah (z_ a4 bE))));clear P j6 ah a4 bE bF f8 ae
     go_wp2_with (go_at_call 187;refine(Dq O.o ak.o.2.2.1 ak.o.2.2.2.1 (by have:=ak.o.2.1;omega) i (by have:=ak.o.2.2.2.2;omega) (by have:=ak.o.2.2.2.2;have:=q.o;omega)).mono ?_;rintro e cn ⟨rfl,bG,a8,a',ba⟩;have a':=U a';have ba:=U ba;have a8:=U a8)
     go_roundw
     case rel=>exact⟨k+1,_,bG,by have:=aA.o;omega,by go_num,(by
       have:=pX.back (b:=b) (iK:=bG) j.o f.o.2.2.2.2 (by rw[f.o.2.2.1,f.o.1,f.o.2.1];exact N.o.1) (by rw[f.o.2.2.1,f.o.1,f.o.2.1,M.o.2.2.2.2];exact N.o.2) (by rw[f.o.2.2.1,f.o.1,f.o.2.1,rD.o];exact aF.o);rw[f.o.2.2.1,f.o.1,f.o.2.1,q.o.2.2.1] at this;refine this ?_;rw[<-ak.o.1];exact a8.o),a'.o,ag.o.trans ba.o,λ r bH=>by rw[aX _ _ bH];exact L.o r bH⟩
     case measure=>have:=aA.o;simp[intOf];omega
   ·obtain rfl:k=m:=by omega
    have bk:¬(k:Int)<(k:Int):=by omega
    go_upto_region 12 with fail
    have p:l 4=hs 4:=L.o 4 (by omega);have t:l 5=hs 5:=L.o 5 (by omega);have y:s1.c.au.length=s.c.au.length:=by rw[j.o.c]
    have V:s1.c.st.length=s.c.st.length:=by rw[j.o.c]
    have bb:=E.o.e.rA 5 (r:=4) (by rw[p];exact al.o) (E.o.e.j6.trans y) rfl;have bc:=E.o.e.rA 6 (r:=5) (by rw[t];exact Z.o) (E.o.e.j0.trans V) rfl;have ay:∃v,wr.cell? ⟨G,7,none⟩=some v:=⟨_,E.o.e.kA (k:=7) rfl⟩
    obtain⟨b3,ay⟩:=ay;rw[p,D] at bb;rw[t] at bc;have b4:(level:Int)<=((hs 5).c:Int):=by have:=H.o.e.xV Z.o;rw[H.o.e.j0] at this;omega
    have b5:(from_:Int)<=(c4:Int):=by omega
    have b6:=E.o.e.free 5;have b7:=E.o.e.free 6;have b8:=E.o.e.free 7;have X:=E.o.Fz (g:=g4) (m:=from_) (by rw[p];exact al.o) (by rw[y];exact u.o.2.1);have Y:=X.1.FA (g:=g5) (m:=level) (by rw[aX _ _ (by omega),t];exact Z.o) (by show level<=s1.c.st.length;rw[V];omega);have J:=Y.1.Bx from_;rw[p,D,aX _ _ (show(5:Nat)≠4 by omega),t] at J;have hF:=U (F.o.trans ((by have:=X.2;rw[p,D] at this;exact this:aD K wr _).trans ((by have:=Y.2;rw[p,D,aX _ _ (show(5:Nat)≠4 by omega),t] at this;exact this:aD K _ _).trans (J.2.trans aD.drew))));have I:=U J.1.drew;clear X Y J p t y V
    go_wp2_with fail
    go_region
    go_wp2;go_end0;refine⟨rfl,_,_,?_,?_,I.o,hF.o⟩
    ·have bd:k=(s.c.au.drop from_).length:=by rw[ZY];exact ab.o.symm
     have bf:pX s (s.c.au.drop (gQ s.c.st level)) (s.c.au.drop (gQ s.c.st level)).length s1:=by rw[u.o.1,<-bd];exact j.o
     have:=bf.done;rw[u.o.1] at this;exact this
    ·exact j.o.rg (m:=from_) (level:=level) C.o (by have:=u.o;omega)
 case inl hcf=>
  subst h;generalize hm:s.c.au.length-c4=m;have ab:=U hm;clear hm
  go_loopw [6,7,29] (λ _ _ Q W=>∃(k:Nat)(l:Nat->aq)(s1:aj),k<=m/\Q=.int .i64 k/\pX s (s.c.au.drop c4) k s1/\aU K base W G l cb s1/\aD K w W/\∀r,r≠7->l r=hs r) (λ _ _ Q _=>m-(intOf Q).toNat)
  case atStart=>exact⟨0,hs,s,by omega,rfl,pX.start (C.o.jh▸C.o.lT),H.o,aD.refl,λ _ _=>rfl⟩
  case round=>
   obtain⟨k,l,s1,hk,rfl,an,I,hF,hH⟩:=hrel;have E:=U I;have F:=U hF;have j:=U an;have L:=U hH;clear I hF an hH
   by_cases aN:k<m
   ·exact absurd aN (by have:=ab.o;have:=u.o;omega)
   ·obtain rfl:k=m:=by omega
    have bk:¬(k:Int)<(k:Int):=by omega
    go_upto_region 12 with fail
    have p:l 4=hs 4:=L.o 4 (by omega);have t:l 5=hs 5:=L.o 5 (by omega);have y:s1.c.au.length=s.c.au.length:=by rw[j.o.c]
    have V:s1.c.st.length=s.c.st.length:=by rw[j.o.c]
    have bb:=E.o.e.rA 5 (r:=4) (by rw[p];exact al.o) (E.o.e.j6.trans y) rfl;have bc:=E.o.e.rA 6 (r:=5) (by rw[t];exact Z.o) (E.o.e.j0.trans V) rfl;have ay:∃v,wr.cell? ⟨G,7,none⟩=some v:=⟨_,E.o.e.kA (k:=7) rfl⟩
    obtain⟨b3,ay⟩:=ay;rw[p,D] at bb;rw[t] at bc;have b4:(level:Int)<=((hs 5).c:Int):=by have:=H.o.e.xV Z.o;rw[H.o.e.j0] at this;omega
    have b5:(c4:Int)<=(c4:Int):=by omega
    have b6:=E.o.e.free 5;have b7:=E.o.e.free 6;have b8:=E.o.e.free 7;have X:=E.o.Fz (g:=g4) (m:=c4) (by rw[p];exact al.o) (by rw[y];exact u.o.2.1);have Y:=X.1.FA (g:=g5) (m:=level) (by rw[aX _ _ (by omega),t];exact Z.o) (by show level<=s1.c.st.length;rw[V];omega);have J:=Y.1.Bx c4;rw[p,D,aX _ _ (show(5:Nat)≠4 by omega),t] at J;have hF:=U (F.o.trans ((by have:=X.2;rw[p,D] at this;exact this:aD K wr _).trans ((by have:=Y.2;rw[p,D,aX _ _ (show(5:Nat)≠4 by omega),t] at this;exact this:aD K _ _).trans (J.2.trans aD.drew))));have I:=U J.1.drew;clear X Y J p t y V
    go_wp2_with fail
    go_region
    go_wp2;go_end0;refine⟨rfl,_,_,?_,?_,I.o,hF.o⟩
    ·have bd:k=(s.c.au.drop c4).length:=by rw[ZY];exact ab.o.symm
     have bf:pX s (s.c.au.drop (gQ s.c.st level)) (s.c.au.drop (gQ s.c.st level)).length s1:=by rw[u.o.1,<-bd];exact j.o
     have:=bf.done;rw[u.o.1] at this;exact this
    ·exact j.o.rg (m:=c4) (level:=level) C.o (by have:=u.o;omega)
end
section
open Go.RowKit Go.Shelf
section
variable {K:Nat->Prop}{base:Nat}{w w' W:World}{G:Nat}{hs:Nat->aq}{cb:Nat->Nat}{s:aj}
theorem BA{s:aj}{d:Nat}:s.ci.getD d ⟨false,0,0⟩=lH s d:=rfl
theorem aU.z7(h:aU K base w G hs cb s){d:Nat}(b:d<s.c.cl.length):w.cell? ⟨cb d,0,none⟩=some (hs (kz d)).v/\w.cell? ⟨cb d,1,none⟩=some (.bool (lH s d).kU)/\w.cell? ⟨cb d,2,none⟩=some (.int .i64 (lH s d).aR)/\w.cell? ⟨cb d,3,none⟩=some (.int .i64 (lH s d).ac)/\∀k,w.frozen? ⟨cb d,k,none⟩=false:=by
 have:=h.e.cls d b;exact⟨by rw[this.cell];rfl,by rw[this.cell];rfl,by rw[this.cell];rfl,by rw[this.cell];rfl,λ k=>this.free k⟩
theorem aU.FO(h:aU K base w G hs cb s){d:Nat}(f:d<s.c.cl.length)(i:s.ci.length=s.c.cl.length)(x:Int):aU K base (w.setCell ⟨cb d,3,none⟩ (.int .i64 x)) G hs cb (s.wV d x)/\aD K w (w.setCell ⟨cb d,3,none⟩ (.int .i64 x)):=by
 refine⟨⟨(h.e.JJ f 3 (.int .i64 x)).eq rfl rfl rfl (λ e he=>?_) rfl (λ _=>rfl),h.s.more (kK w (cb d) 3 _).size⟩,aD.set (cb d) 3 _ (h.s.cl d f)⟩
 by_cases b:e=d
 ·subst b;rw[jH];unfold tQ;rw[BA,BA,z1,if_pos ⟨rfl,by omega⟩];rfl
 ·rw[aX _ _ b];unfold tQ;rw[BA,BA,z1,if_neg (λ g=>b g.1.symm)]
theorem iX.n10(h:iX base w G hs cb s):(hs 10).n=s.aI.length:=by
 have h1:=h.rows.len 10;rw[show(cont hs cb s 10).length=s.aI.length by simp[cont,kV],show nU 10=1 from rfl] at h1;omega
theorem iX.FP(h:iX base w G hs cb s){g:Nat}(c:(hs 10).b=some g){k:Nat}(hk:k<s.aI.length):w.cell? ⟨g,k,none⟩=some (.pointer (some ⟨cb (gQ s.aI k),0,none⟩)):=h.get c (by
 show(kV cb s.aI)[k]? =_;rw[vA hk];simp[kV,hk,tq])
end
theorem FQ{l:List Nat}(h:k<l.length):gQ l k∈l:=by rw[vA h];exact List.getElem_mem h
theorem J'{l:Nat}(h:l/2=p):ZZ (l:Int) 2=(p:Int):=by rw[n_ (by omega)];omega
theorem wrap_small(p:Nat)(h:p<=65536):wrap64 (p:Int)=(p:Int):=by unfold wrap64;omega
theorem Ka(p:Nat)(h:p<=65536):wrap64 ((p:Int)-1)=(p:Int)-1:=by unfold wrap64;omega
theorem half_start{l:Nat}(h:p=0\/p-1<l): -1<=(p:Int)-1/\(p:Int)-1<l:=by omega
structure z8(s:aj)(A' B:Int)(k:Nat)(s1:aj):Prop where
 eq:∃a,s1={s with act:=a}
 kM:s1.act.length=s.act.length
 jF:∀u,u<k->0<=ai s1.act u/\ai s1.act u<=A'
 an:∀u,k<=u->ai s1.act u=ai s.act u
 a0:ai s1.act 0=0
structure Aa(s:aj)(B:Int)(s1:aj):Prop where
 eq:∃a,s1={s with ci:=a}
 kM:s1.ci.length=s.ci.length
 ci:∀d,(lH s1 d).kU=(lH s d).kU/\(lH s1 d).aR=(lH s d).aR/\0<=(lH s1 d).ac/\(lH s1 d).ac<=B
def Kb(K:Nat->Prop)(base:Nat)(w:World)(G:Nat)(hs:Nat->aq)(cb:Nat->Nat)(n:Nat)(A' B:Int)(s:aj)(e:Ending)(w':World):Prop:=
 e=.returned (.tuple #[])/\∃s',ov s s'/\mu n A' B s'/\aU K base w' G hs cb s'/\aD K w w'
theorem z8.step(h:z8 s A' B k s1)(hk:k<s.act.length){x:Int}(c:0<=x)(h1:x<=A')(d:k=0->x=0):z8 s A' B (k+1) (s1.p8 k x):=by
 have b:∀u,ai (s1.p8 k x).act u=if k=u then x else ai s1.act u:=λ u=>by
  show ai (s1.act.set k x) u=_;rw[o7]
  by_cases e:k=u
  ·rw[if_pos e,if_pos ⟨e,by rw[h.kM];exact hk⟩]
  ·rw[if_neg e,if_neg (λ f=>e f.1)]
 obtain⟨a,g⟩:=h.eq;refine⟨⟨s1.act.set k x,by rw[g];rfl⟩,by show(s1.act.set k x).length=_;rw[v_];exact h.kM,λ u hu=>?_,λ u hu=>?_,?_⟩
 ·rw[b];split
  ·exact⟨c,h1⟩
  ·exact h.jF u (by omega)
 ·rw[b,if_neg (by omega)];exact h.an u (by omega)
 ·rw[b];split
  ·exact d (by omega)
  ·exact h.a0
theorem Aa.step(h:Aa s B s1)(d:Nat){x:Int}(b:0<=x)(h1:x<=B):Aa s B (s1.wV d x):=by
 obtain⟨a,c⟩:=h.eq;refine⟨⟨(s1.wV d x).ci,by rw[c];rfl⟩,by show(s1.ci.set _ _).length=_;rw[v_];exact h.kM,λ e=>?_⟩;rw[z1];have:=h.ci e;split
 ·exact⟨this.1,this.2.1,b,h1⟩
 ·exact this
theorem Kc{s2:aj}(r:mu n A B s)(h1:z8 s A' B s.act.length s1)(b:Aa s1 B s2){x:Int}(k:1<=x)(l:x<=A'){s3:aj}(i:pW (s2.vY x) s3):ov s s3/\mu n A' B s3:=by
 obtain⟨a,rfl⟩:=h1.eq;obtain⟨c,rfl⟩:=b.eq;have q:0<=A':=by omega
 have m:mu n A' B (({({s with act:=a}:aj) with ci:=c}:aj).vY x):=by
  refine⟨r.jh,r.lT,h1.kM.trans r.kM,λ v=>?_,h1.a0,k,l,r.nB,r.oT,b.kM.trans r.nV,λ d=>?_,r.kX⟩
  ·rcases l_ v s.act.length with f|f
   ·exact h1.jF v f
   ·have e:=h1.an v f;rw[Dn f] at e;have t:ai a v=0:=e;show 0<=ai a v/\ai a v<=A';omega
  ·have g:=b.ci d;have j:=r.qa d;have o:lH ({s with act:=a}:aj) d=lH s d:=rfl;rw[o] at g;exact⟨g.2.2.1,g.2.2.2,by have:=g.2.1;have p:(lH (({({s with act:=a}:aj) with ci:=c}:aj).vY x) d).aR=(lH s d).aR:=this;rw[p];exact⟨j.2.2.1,j.2.2.2⟩⟩
 refine⟨?_,i.rg m⟩;refine ov.trans ?_ i.hk;exact⟨rfl,rfl,rfl,rfl,rfl,rfl,rfl,rfl,.refl _,b.kM,λ d=>⟨(b.ci d).1,(b.ci d).2.1⟩⟩
theorem FR{w:World}(h:aU K base w G hs cb s)(r:mu n A B s)(bG:n<=60000)(bs:s.aI.length<=100000)(Y:A<=4398046511104)(bH:1<=A')(bJ:A/1024<=A')(bK:0<=B)(bL:B<=4611686018427387904):
  Calls w_ 188 #[.pointer (some ⟨G,0,none⟩)] w (Kb K base w G hs cb n A' B s):=by
 have ax:=r.kM;obtain⟨g6,aY,bM,f6⟩:=h.e.lV 8 6 rfl (h.e.n6.trans ax) (by omega);have H:=U h;have l:=U r;have ak:=U aY;have aa:=U ax;clear h r aY f6 ax;go_enter Tryz.func188,Tryz.ntmps188
 go_wp2_with fail
 go_loopw [2,11] (λ _ rE W=>∃(k:Nat)(s1:aj),k<=n+1/\rE=.int .i64 k/\z8 s A' B k s1/\aU K base W G hs cb s1/\aD K w W) (λ _ rE _=>n+1-(intOf rE).toNat)
 case atStart=>exact⟨0,s,by omega,rfl,⟨⟨_,rfl⟩,rfl,λ u hu=>by omega,λ u hu=>rfl,l.o.a0⟩,H.o,aD.refl⟩
 case round=>
  obtain⟨k,s1,hk,rfl,aZ,N,hF⟩:=hrel;have E:=U N;have F:=U hF;have g:=U aZ;clear N hF aZ
  by_cases ay:k<n+1
  ·have bt:(k:Int)<((n+1:Nat):Int):=by omega
   have bN:=E.o.e.rA 8 ak.o (E.o.e.n6.trans (g.o.kM.trans aa.o)) rfl;have I:=g.o.an k (r_ _);have T:=l.o.pP k;have a6:=l.o.a0;have c1:=E.o.e.yJ ak.o (k:=k) (by rw[g.o.kM,aa.o];omega);rw[I] at c1;obtain⟨x,az⟩:∃x,ai s.act k=x:=⟨_,rfl⟩
   rw[az] at c1 T;have f6:=E.o.e.rows.free ak.o k;have Q:ZZ x 1024=x/1024:=n_ T.1;have ab:x/1024<=A':=by omega
   have ad:0<=x/1024:=by omega
   have R:k=0->x/1024=0:=λ e=>by subst e;rw[az] at a6;omega
   obtain⟨y,O⟩:∃y,x/1024=y:=⟨_,rfl⟩
   rw[O] at Q ab ad R;have aA:wrap64 y=y:=by unfold wrap64;omega
   have Z:=U (z_ ad (z_ ab (z_ R ay)));clear I a6 az R O ay
   go_wp2_with fail
   have J:=E.o.Bq ak.o k y;have bu:=g.o.step (k:=k) (by rw[aa.o];exact Z.o.2.2.2) Z.o.1 Z.o.2.1 Z.o.2.2.1;go_roundw
   case rel=>exact⟨k+1,_,by have:=Z.o;omega,by go_num,bu,J.1,F.o.trans J.2⟩
   case measure=>have:=Z.o;simp[intOf];omega
  ·obtain rfl:k=n+1:=by omega
   obtain⟨al,n10,aB,ao⟩:∃al n10 aB,hs 10=⟨al,n10,aB⟩:=⟨_,_,_,rfl⟩
   obtain⟨t,ar⟩:∃t,s.aI.length=t:=⟨_,rfl⟩
   have aC:s1.aI.length=t:=by obtain⟨a,f⟩:=g.o.eq;rw[f];exact ar
   have aE:n10=t:=by have:=E.o.e.n10;rw[ao] at this;exact this.trans aC
   have bw:wr.cell? ⟨G,13,none⟩=some (.slice al t aB):=by have:=E.o.e.kA (k:=13) (v:=(hs 10).v) rfl;rw[ao,aE] at this;exact this
   have bt:¬((n+1:Nat):Int)<((n+1:Nat):Int):=by omega
   rw[ar] at bs;have L:=U (z_ ao (z_ ar (z_ aC aE)));clear ao ar aC aE ay
   go_wp2_with fail
   go_loopw [4,29] (λ _ aF W=>∃(k:Nat)(s2:aj),k<=t/\aF=.int .i64 k/\Aa s1 B s2/\aU K base W G hs cb s2/\aD K w W) (λ _ aF _=>t-(intOf aF).toNat)
   case atStart=>exact⟨0,s1,by omega,rfl,⟨⟨_,rfl⟩,rfl,λ d=>by
    obtain⟨a,f⟩:=g.o.eq;have:lH s1 d=lH s d:=by rw[f];rfl
    have ae:=l.o.qa d;rw[this];exact⟨rfl,rfl,ae.1,ae.2.1⟩⟩,E.o,F.o⟩
   case round=>
    obtain⟨j,s2,bO,rfl,a7,N,hF⟩:=hrel;have J:=U N;have a8:=U hF;have M:=U a7;clear N hF a7;have aG:s2.aI=s.aI:=by obtain⟨a,f⟩:=g.o.eq;obtain⟨b,C⟩:=M.o.eq;rw[C,f]
    have aH:s2.c.cl=s.c.cl:=by obtain⟨a,f⟩:=g.o.eq;obtain⟨b,C⟩:=M.o.eq;rw[C,f]
    have a':s2.ci.length=s2.c.cl.length:=by rw[aH,M.o.kM];obtain⟨a,f⟩:=g.o.eq;rw[f];exact l.o.nV
    by_cases au:j<t
    ·have bx:(j:Int)<(t:Int):=by omega
     obtain⟨g10,Y,ba,-⟩:=J.o.e.wR (r:=10) (m:=t) (by rw[L.o.1];exact L.o.2.2.2) (by omega);rw[L.o.1] at Y;have Y:al=some ⟨g10,0,none⟩:=Y;subst Y;have c1:=J.o.e.FP ba (k:=j) (by rw[aG,L.o.2.1];exact au);obtain⟨d,aJ⟩:∃d,gQ s2.aI j=d:=⟨_,rfl⟩
     have aK:d<s2.c.cl.length:=by rw[aH,<-aJ,aG];exact l.o.kX _ (FQ (by rw[L.o.2.1];exact au))
     rw[aJ] at c1;obtain⟨-,-,-,c4,f4⟩:=J.o.z7 aK;have T:=M.o.ci d;obtain⟨x,I⟩:∃x,(lH s2 d).ac=x:=⟨_,rfl⟩
     rw[I] at c4 T;have f43:=f4 3;have Q:ZZ x 1024=x/1024:=n_ T.2.2.1;have ab:x/1024<=B:=by omega
     have ad:0<=x/1024:=by omega
     obtain⟨y,O⟩:∃y,x/1024=y:=⟨_,rfl⟩
     rw[O] at Q ab ad;have aA:wrap64 y=y:=by unfold wrap64;omega
     have Z:=U (z_ ad (z_ ab (z_ aK (z_ a' au))));clear T I O au aJ aK a' f4 aG aH ba
     go_wp2_with fail
     have D:=J.o.FO Z.o.2.2.1 Z.o.2.2.2.1 y;have bz:=M.o.step d Z.o.1 Z.o.2.1;go_roundw
     case rel=>exact⟨j+1,_,by have:=Z.o;omega,by go_num,bz,D.1,a8.o.trans D.2⟩
     case measure=>have:=Z.o;simp[intOf];omega
    ·obtain rfl:j=t:=by omega
     have bx:¬(j:Int)<(j:Int):=by omega
     clear bw;have bb:s2.aM=s.aM:=by obtain⟨a,f⟩:=g.o.eq;obtain⟨b,C⟩:=M.o.eq;rw[C,f]
     obtain⟨x,I⟩:∃x,s.aM=x:=⟨_,rfl⟩
     have c9:=J.o.e.kA (k:=9) (v:=.int .i64 s2.aM) rfl;rw[bb,I] at c9;have f9:=J.o.e.free 9;have bA:1<=x:=by rw[<-I];exact l.o.rC
     have bB:x<=A:=by rw[<-I];exact l.o.oS
     have Q:ZZ x 1024=x/1024:=n_ (by omega);obtain⟨y,O⟩:∃y,x/1024=y:=⟨_,rfl⟩
     have bC:0<=y/\y<=A':=by omega
     rw[O] at Q;have aA:wrap64 y=y:=by unfold wrap64;omega
     clear bb I O bA bB
     go_upto_region 11 with fail
     obtain⟨z,R⟩:∃z,(if 1<y then y else 1)=z:=⟨_,rfl⟩
     rw[R];have bc:1<=z/\z<=A':=by rw[<-R];split<;>omega
     have D:=J.o.FB z;have bd:=U (a8.o.trans D.2);have D:=U D.1;generalize wr.setCell ⟨G,9,none⟩ (.int .i64 z)=bD at D bd;clear R Q aA bC c9 f9;obtain⟨s3,V⟩:∃s3,s3=s2.vY z:=⟨_,rfl⟩
     rw[<-V] at D;have aL:mh n s3.ord s3.pl:=by obtain⟨a,f⟩:=g.o.eq;obtain⟨b,C⟩:=M.o.eq;rw[V,C,f];exact l.o.lT
     have bf:s3.c.n=n:=by obtain⟨a,f⟩:=g.o.eq;obtain⟨b,C⟩:=M.o.eq;rw[V,C,f];exact l.o.jh
     have bg:s3.act.length=n+1:=by rw[V];show s2.act.length=_;obtain⟨b,C⟩:=M.o.eq;rw[C];exact g.o.kM.trans aa.o
     have aN:=aL.len;obtain⟨S,av⟩:∃S,s3.ord.length=S:=⟨_,rfl⟩
     rw[av] at aN;obtain⟨aO,n7,aP,aQ⟩:∃aO n7 aP,hs 7=⟨aO,n7,aP⟩:=⟨_,_,_,rfl⟩
     have bh:n7=S:=by have:=D.o.e.n7;rw[aQ] at this;exact this.trans av
     have bP:bD.cell? ⟨G,10,none⟩=some (.slice aO S aP):=by have:=D.o.e.kA (k:=10) (v:=(hs 7).v) rfl;rw[aQ,bh] at this;exact this
     obtain⟨p,hp⟩:∃p:Nat,S/2=p:=⟨_,rfl⟩
     have aw:p<=65536/\(p=0\/p-1<S):=by omega
     have Q:=J' hp;have bQ:=wrap_small p aw.1;have bR:=Ka p aw.1;have bj:=half_start aw.2;have P:=U (z_ hp (z_ V (z_ aL (z_ bf (z_ bg (z_ aN (z_ av bc)))))));have bk:=U bj;clear hp V aL bf bg aN av bc aQ bh aw bj
     go_wp2_with fail
     go_loopw [5] (λ af W=>∃(i:Int)(iK:aj),af=.int .i64 i/\ -1<=i/\i<S/\pW s3 iK/\aU K base W G hs cb iK/\aD K w W) (λ af _=>(intOf af+1).toNat)
     case atStart=>
      obtain⟨bl,aR,aS,ag,aT,bn,bo,Ab⟩:=P.o;exact⟨(p:Int)-1,s3,rfl,bk.o.1,bk.o.2,pW.refl (by rw[ag];exact aS),D.o,bd.o⟩
     case round=>
      obtain⟨i,iK,rfl,bS,bT,hO,N,hF⟩:=hrel;have bp:=U N;have bq:=U hF;have ah:=U hO;clear N hF hO
      by_cases bU:0<=i
      ·obtain⟨m,rfl⟩:∃m:Nat,i=m:=⟨i.toNat,by omega⟩
       have bV:wrap64 ((m:Int)-1)=(m:Int)-1:=by have:=P.o;unfold wrap64;omega
       have X:bI (mh iK.c.n iK.ord iK.pl/\iK.act.length=iK.c.n+1/\iK.c.n<=65536/\m<iK.ord.length/\iK.ord.length<=65537):=U (by
        obtain⟨bl,aR,aS,ag,aT,bn,bo,Ab⟩:=P.o;have h1:=ah.o.ol;have ae:=ah.o.lT;obtain⟨o,q,br⟩:=ah.o.eq;have bE:iK.c.n=n:=by rw[br];exact ag
        have bW:iK.act.length=n+1:=by rw[br];exact aT
        rw[ag] at ae;rw[bE];exact⟨ae,by omega,by omega,by omega,by omega⟩)
       go_wp2_with (go_at_call 194;refine(Fy bp.o X.o.1 X.o.2.1 X.o.2.2.1 m X.o.2.2.2.1 X.o.2.2.2.2).mono ?_;rintro e bX ⟨rfl,af,aV,aW,aX⟩;have aW:=U aW;have aX:=U aX;have aV:=U aV)
       go_roundw
       case rel=>exact⟨(m:Int)-1,af,by go_num,by omega,by omega,ah.o.trans aV.o,aW.o,bq.o.trans aX.o⟩
       case measure=>simp[intOf];omega
      ·have bF:i= -1:=by omega
       subst bF
       go_wp2_with fail
       go_end0;obtain⟨bl,aR,aS,ag,aT,bn,bo,Ab⟩:=P.o;have:=Kc (s3:=iK) l.o (by have:=g.o;rwa[<-aa.o] at this) M.o Ab.1 Ab.2 (by rw[<-aR];exact ah.o);exact⟨rfl,iK,this.1,this.2,bp.o,bq.o⟩
end
section
open Go.RowKit Go.Shelf
def pQ(B bu m:Nat)(W W':World):Prop:=(∀v,W.cell? ⟨B,0,none⟩=some v->W'.cell? ⟨B,0,none⟩=some v)/\∀(k:Nat)(v:Value),k<m->W.cell? ⟨bu,k,none⟩=some v->W'.cell? ⟨bu,k,none⟩=some v
theorem pQ.refl(B bu m:Nat)(W:World):pQ B bu m W W:=⟨λ _ h=>h,λ _ _ _ h=>h⟩
theorem pQ.trans{B:Nat}{jo jI kg:World}(h:pQ B bu m jo jI)(k:pQ B bu m jI kg):pQ B bu m jo kg:=⟨λ v e=>k.1 v (h.1 v e),λ j v b e=>k.2 j v b (h.2 j v b e)⟩
theorem pQ.yS{B:Nat}{row:Option Nat}(b:W.grownBy W' row)(h1:some B≠row)(c:some bu≠row):pQ B bu m W W':=⟨λ v h=>b.cell h h1,λ k v _ h=>b.cell h c⟩
def others(l:List Int)(u:Int):List Int:=l.filter λ y=>y !=u
theorem Ke{u:Int}(hk:k<l.length):others (l.take (k+1)) u=if ai l k=u then others (l.take k) u else others (l.take k) u++[ai l k]:=by
 rw[yR hk];unfold others;rw[List.filter_append]
 by_cases h:ai l k=u
 ·rw[if_pos h];simp[h]
 ·rw[if_neg h];simp[h]
theorem FT(l:List Int)(u:Int)(k:Nat):others (l.take k) u<+:others l u:=by
 unfold others;exact(List.take_prefix k l).filter _
theorem Du:∀args w,(callFunc 224 args).run w_ w=.ok (.enter 224 args) w:=enters_of Tryz.func224 (by kernel_rfl) rfl
theorem Kf(F:Fence)(n:Nat)(H:F.fn 224)(I:F.round=none)(R:1<=n)(l w f b bu m J:Nat)(cl:List Int)(u:Int)(hl:cl.length=m)(hm:m<=1000000)(c y:List Int->World->Prop)
  (K:∀pre (x:Int) W,c pre W->(pre++[x])<+:others cl u->YieldAt F (n-1) w_ l #[.int .i64 x] W λ e W'=>
   (e=.returned (.bool true)/\c (pre++[x]) W'/\pQ f bu m W W')\/(e=.returned (.bool false)/\y (pre++[x]) W'))
  (W:World) (c1:W.cell? ⟨w,0,none⟩=some (.pointer (some ⟨b,0,none⟩))) (c2:W.cell? ⟨f,0,none⟩=some (.int .i64 u)) (c3:W.cell? ⟨b,0,none⟩=some (.slice (some ⟨bu,0,none⟩) m J))
  (z:∀k,k<m->W.cell? ⟨bu,k,none⟩=some (.int .i64 (ai cl k))) (L:c [] W):
  CallsIn F n w_ 224 #[.func (.yield l) #[] #[],.pointer (some ⟨w,0,none⟩),.pointer (some ⟨f,0,none⟩)] W λ e W'=>(∃v,e=.returned v)/\
   ((∃ys,ys=others cl u/\c ys W')\/(∃pre,pre<+:others cl u/\y pre W')):=by
 have M:=U z;have A:=U hl;clear z hl;refine callsIn_of_wp Tryz.func224 rfl H ?_ I;simp only[Tryz.ntmps224,List.size_toArray,List.length_cons,List.length_nil,Nat.reduceAdd,Nat.reduceSub,Array.replicate_succ,Array.replicate_zero,List.push_toArray,List.append_toArray,List.nil_append,List.cons_append]
 gi_wp2
 gi_loopw [11] (λ i wr=>∃k:Nat,k<=m/\i=.int .i64 k/\c (others (cl.take k) u) wr/\pQ f bu m W wr) (λ i _=>m-(intOf i).toNat)
 case atStart=>exact⟨0,Z6 _,rfl,by rw[Zg];exact L,pQ.refl _ _ _ _⟩
 case round=>
  obtain⟨k,hk,rfl,B,j⟩:=hrel;have p:=U B;have q:=U j;have S:=j.1 _ c2;clear B j
  by_cases r:k<m
  ·have N:=q.o.2 k _ r (M.o k r);have s:k<cl.length:=by rw[A.o];exact r
   have d:=U (Ke (u:=u) s);have T:Zn.wrap ((k:Int)+1)=(k:Int)+1:=by rw[Zd];omega
   have V:(k:Int)<(m:Int):=by omega
   have X:=U s;obtain⟨x,C⟩:∃x,ai cl k=x:=⟨_,rfl⟩
   rw[C] at N d;clear C s
   by_cases he:x=u
   ·have O:(x !=u)=false:=by simp[he]
    have g:=U he;clear he
    gi_wp2
    refine⟨λ _ h=>(by cases h),?_⟩
    gi_wp2
    go_roundw
    case rel=>exact⟨k+1,by omega,by go_num,by rw[d.o,if_pos g.o];exact p.o,q.o⟩
    case measure=>simp[intOf];omega
   ·have O:(x !=u)=true:=by simp[he]
    obtain⟨fn,tmps,assign,body,Y,P⟩:=K _ x wr p.o (by have:=d.o;rw[if_neg he] at this;rw[<-this];exact FT _ _ _);have g:=U he;clear he
    gi_wp2
    refine P.mono ?_;rintro e Z (⟨rfl,D,E⟩|⟨rfl,G⟩)
    ·have t:=U D;have Q:=U E;clear D E
     gi_wp2
     go_roundw
     case rel=>exact⟨k+1,by omega,by go_num,by rw[d.o,if_neg g.o];exact t.o,q.o.trans Q.o⟩
     case measure=>simp[intOf];omega
    ·have t:=U G;clear G
     gi_wp2
     refine bodyPost_ret (results_none rfl _ _ _) rfl ?_;refine⟨⟨_,rfl⟩,.inr ⟨_,?_,t.o⟩⟩;have:=d.o;rw[if_neg g.o] at this;rw[<-this];exact FT _ _ _
  ·obtain rfl:k=m:=by omega
   gi_wp2
   go_end0;exact⟨⟨_,rfl⟩,.inl ⟨_,by rw[List.take_of_length_le (by rw[A.o];exact r_ _)],p.o⟩⟩
theorem Dv(p:Option Addr)(x:Int)(w:World):
  Calls w_ 183 #[.pointer p,.int .i64 x] w λ e w'=>e=.returned (.func (.func 224) #[] #[.pointer (some ⟨w.heap.size,0,none⟩),.pointer (some ⟨w.heap.size+1,0,none⟩)])/\
   w'=(w.alloc (.cells #[.pointer p] 164)).alloc (.cells #[.int .i64 x] 3):=by
 have b:∀(fn:Fn)(first cap:Array Value)(w:World),(Instr.makeFunc fn first cap).run w_ w=.ok (.func fn first cap) w:=λ _ _ _ _=>rfl
 go_enter Tryz.func183,Tryz.ntmps183
 go_wp2;go_ret;exact⟨rfl,rfl⟩
theorem Dw(n:Nat)(g:1<=n)(d c b bu m f:Nat)(cl:List Int)(u:Int)(hl:cl.length=m)(hm:m<=1000000)(w:World)(c1:w.cell? ⟨d,0,none⟩=some (.pointer (some ⟨b,0,none⟩)))(c2:w.cell? ⟨c,0,none⟩=some (.int .i64 u))
  (c3:w.cell? ⟨b,0,none⟩=some (.slice (some ⟨bu,0,none⟩) m f)) (i:∀k,k<m->w.cell? ⟨bu,k,none⟩=some (.int .i64 (ai cl k))) (h1:d<w.heap.size) (j:c<w.heap.size) (o:b<w.heap.size) (q:bu<w.heap.size):
  C0 Fence.wide n w_ 224 #[.pointer (some ⟨d,0,none⟩),.pointer (some ⟨c,0,none⟩)] (λ x:Int=> #[.int .i64 x]) (pQ c bu m) (λ pre x=>(pre++[x])<+:others cl u) (λ ys=>ys=others cl u) (λ pre=>pre<+:others cl u) w:=
 λ l r s W e t v=>Kf Fence.wide n trivial rfl g l d c b bu m f cl u hl hm r s t W ((e.cell (p:=⟨d,0,none⟩) h1).trans c1) ((e.cell (p:=⟨c,0,none⟩) j).trans c2) ((e.cell (p:=⟨b,0,none⟩) o).trans c3)
  (λ k hk=>(e.cell (p:=⟨bu,k,none⟩) q).trans (i k hk)) v
section
variable {base:Nat}{w w':World}{G:Nat}{hs:Nat->aq}{cb:Nat->Nat}{gw:List Value}{cls:Nat->List Value}{n:Nat}{X:Nat->List Value}{K:Nat->Prop}{s:aj}
theorem j5.tW(h:j5 base w G hs cb gw cls n X){row:Option Nat}(i:w.grownBy w' row)(l:∀r,row=some r->∃o:Obj,w.heap[r]? =some o/\o.isCells=false):j5 base w' G hs cb gw cls n X:=by
 have f:∀b (t:TypeId) (cs:List Value),aO w b t cs->some b≠row:=λ b t cs f e=>by
  obtain⟨o,c,j⟩:=l b e.symm;have:w.heap[b]? =_:=f;rw[this] at c;cases c;cases j
 refine⟨h.box.kept i (f _ _ _ h.box),h.rows.kept i (λ r g m e=>?_),λ d p=>(h.cls d p).kept i (f _ _ _ (h.cls d p)),h.inj,h.ru,h.rU⟩;obtain⟨o,c,j⟩:=l g e;rcases(h.rows.row r).2 with⟨k,_⟩|⟨s,cap,cur,k,_,q,_⟩
 ·have:(hs r).v.ownBlock=some g:=by rw[aq.own];exact m
  rw[k] at this;cases this
 ·have:(hs r).v.ownBlock=some g:=by rw[aq.own];exact m
  rw[k] at this
  cases this
  rw[q] at c;cases c;cases j
theorem aU.tW(h:aU K base w G hs cb s){row:Option Nat}(b:w.grownBy w' row)(c:∀r,row=some r->∃o:Obj,w.heap[r]? =some o/\o.isCells=false):aU K base w' G hs cb s:=
 ⟨h.e.tW b c,h.s.more b.size⟩
end
end
section
open Go.RowKit Go.Shelf
structure pF(jw:Nat)(W:World)(ds:List Nat):Prop where
 nr:ds.Nodup
 kB:∀D∈ds,jw<=D/\W.heap[D]? =some (.deferred (some []))
section
variable {jw:Nat}{W W':World}{ds:List Nat}{row:Option Nat}
theorem pF.lt(h:pF jw W ds){D:Nat}(b:D∈ds):D<W.heap.size:=(o_.1 (h.kB D b).2).1
theorem pF.kept(h:pF jw W ds)(c:W.grownBy W' row)(d:∀D∈ds,some D≠row):pF jw W' ds:=
 ⟨h.nr,λ D b=>⟨(h.kB D b).1,(c.block D (h.lt b) (d D b)).trans (h.kB D b).2⟩⟩
theorem pF.below(h:pF jw W ds)(c:Below W.heap.size W W'):pF jw W' ds:=⟨h.nr,λ D b=>⟨(h.kB D b).1,(c.block D (h.lt b)).trans (h.kB D b).2⟩⟩
theorem pF.cons(h:pF jw W ds){D:Nat}(c:jw<=D)(hm:W.heap[D]? =some (.deferred (some [])))(d:D∉ds):pF jw W (D::ds):=
 ⟨ZS.2 ⟨d,h.nr⟩,λ E b=>by exact(Z7.1 b).elim (λ e=>by subst e;exact⟨c,hm⟩) (λ b=>h.kB E b)⟩
theorem pF.Kg(h:pF jw W ds)(c:W.grownBy W' row)(d:∀r,row=some r->∃cs t b,W.heap[r]? =some (.cells cs t b)):pF jw W' ds:=
 h.kept c (λ D f e=>by obtain⟨cs,t,b,h1⟩:=d D e.symm;rw[(h.kB D f).2] at h1;cases h1)
end
theorem Ac{w:World}{b:Nat}{t:TypeId}{cs:List Value}(h:aO w b t cs):∃cs t c,w.heap[b]? =some (.cells cs t c):=⟨_,_,_,h⟩
theorem sO{w:World}{e:TypeId}{size:Nat}{v:Value}{xs:List Value}(h:w.ownsRow base e size v n xs){g:Nat}(b:v.ownBlock=some g):∃cs,w.heap[g]? =some (.cells cs e (0,0)):=by
 rcases h.2 with⟨c,_⟩|⟨f,cap,cur,c,_,d,_⟩
 ·rw[c] at b;cases b
 ·rw[c] at b;cases b;exact⟨_,d⟩
theorem lY.block{w:World}{b:Nat}{S:List Int}(h:lY w b n S):∃es clock,w.heap[b]? =some (.map es clock):=by
 obtain⟨D,⟨es,clock,h1,c⟩,d⟩:=h;exact⟨es,clock,h1⟩
theorem Dx(w:World)(base:Nat)(b:List Int)(n:Nat)(c:b.length=n)(d:base<=w.heap.size)(hm:n<=1000):(w.alloc (.cells (gX b).toArray 3)).ownsRow base 3 1 (.slice (some ⟨w.heap.size,0,none⟩) n n) n (gX b):=by
 subst c;have:=World.ownsRow_lit (base:=base) (e:=3) (size:=1) w (gX b).toArray b.length d (by unfold maxLen;omega) (by simp[gX]);simpa[gX] using this
structure pY(w W:World)(G aG bf bm m:Nat)(S:List Int)(A:Option Addr)(n c:Nat)(out:List Int)(ds:List Nat):Prop where
 below:Below w.heap.size w W
 qc:aO W aG 115 [.pointer (some ⟨G,0,none⟩)]
 qt:aO W bf 114 [.map (some bm)]
 set:lY W bm m S
 row:W.ownsRow w.heap.size 3 1 (.slice A n c) n (gX out)
 uY:pF w.heap.size W ds
 lm:w.heap.size<=bm
 gK:w.heap.size<=aG
 l6:w.heap.size<=bf
section
variable {w W W':World}{G aG bf bm m:Nat}{S:List Int}{A:Option Addr}{n c:Nat}{out:List Int}{ds:List Nat}
theorem pY.len(h:pY w W G aG bf bm m S A n c out ds):out.length=n:=by have:=h.row.1;simpa[gX] using this
theorem pY.grow(h:pY w W G aG bf bm m S A n c out ds)(b:Below W.heap.size W W'):pY w W' G aG bf bm m S A n c out ds:=
 ⟨h.below.trans (b.mono h.below.size),h.qc.below b,h.qt.below b,h.set.below b h.set.lt,lR h.row b,h.uY.below b,h.lm,h.gK,h.l6⟩
theorem pY.tW(h:pY w W G aG bf bm m S A n c out ds){B:Nat}{row:Option Nat}(d:W.grownBy W' row)(f:∀r,row=some r->B<=r/\∃o:Obj,W.heap[r]? =some o/\o.isCells=false)(y:w.heap.size<=B)(hm:bm<B)(l:∀D∈ds,D<B):pY w W' G aG bf bm m S A n c out ds:=by
 have i:∀b,(∃cs t j,W.heap[b]? =some (.cells cs t j))->some b≠row:=λ b ⟨cs,t,j,p⟩ e=>by
  obtain⟨_,o,k,q⟩:=f b e.symm;rw[p] at k;cases k;cases q
 refine⟨h.below.grown d h.below.size (λ g e=>by have:=(f g e).1;omega),h.qc.kept d (i _ (Ac h.qc)),h.qt.kept d (i _ (Ac h.qt)),h.set.kept d (λ e=>by have:=(f bm e.symm).1;omega),h.row.kept d ?_,h.uY.kept d (λ D s e=>by have:=(f D e.symm).1;have:=l D s;omega),h.lm,h.gK,h.l6⟩
 cases u:(ZI A n c).ownBlock with
 |none=>exact .inl rfl
 |some g=>
  obtain⟨cs,v⟩:=sO h.row u;exact .inr (i g ⟨_,_,_,v⟩)
theorem pY.put(h:pY w W G aG bf bm m S A n c out ds){mz:Nat}{oA:List Int}(hs:lY W' bm mz oA)(d:W.grownBy W' (some bm)):pY w W' G aG bf bm mz oA A n c out ds:=by
 obtain⟨es,cl,hm⟩:=h.set.block;have f:∀b,(∃cs t i,W.heap[b]? =some (.cells cs t i))->some b≠some bm:=λ b ⟨cs,t,i,j⟩ e=>by
  injection e with e;subst e;rw[j] at hm;cases hm
 refine⟨h.below.grown d h.below.size (λ g e=>by cases e;exact h.lm),h.qc.kept d (f _ (Ac h.qc)),h.qt.kept d (f _ (Ac h.qt)),hs,h.row.kept d ?_,h.uY.kept d (λ D k e=>by injection e with e;subst e;rw[(h.uY.kB D k).2] at hm;cases hm),h.lm,h.gK,h.l6⟩
 cases l:(ZI A n c).ownBlock with
 |none=>exact .inl rfl
 |some g=>
  obtain⟨cs,o⟩:=sO h.row l;exact .inr (f g ⟨_,_,_,o⟩)
theorem pY.app(h:pY w W G aG bf bm m S A n c out ds){x:Int}{v':Value}(i:oa W w.heap.size 3 (.slice A n c) (n+1) ((out++[x]).map (ZK .i64)) v' W'):∃A' c',v'=.slice A' (n+1) c'/\pY w W' G aG bf bm m S A' (n+1) c' (out++[x]) ds:=by
 obtain⟨f,b,_⟩:=i;obtain⟨A',c',rfl⟩:=EO f;have d:∀r,(ZI A n c).ownBlock=some r->∃cs,W.heap[r]? =some (.cells cs 3 (0,0)):=λ r e=>sO h.row e
 refine⟨A',c',rfl,h.below.grown b h.below.size (λ g e=>(h.row.lt g e).1),h.qc.kept b (λ e=>?_),h.qt.kept b (λ e=>?_),h.set.kept b (λ e=>?_),f,h.uY.Kg b (λ r e=>by obtain⟨cs,h1⟩:=d r e;exact⟨_,_,_,h1⟩),h.lm,h.gK,h.l6⟩
 ·obtain⟨cs,h1⟩:=d aG e.symm;rw[show W.heap[aG]? =_ from h.qc] at h1;simp at h1
 ·obtain⟨cs,h1⟩:=d bf e.symm;rw[show W.heap[bf]? =_ from h.qt] at h1;simp at h1
 ·obtain⟨cs,h1⟩:=d bm e.symm;obtain⟨es,cl,j⟩:=h.set.block;rw[j] at h1;cases h1
theorem pY.mark(h:pY w W G aG bf bm m S A n c out ds){D:Nat}(b:w.heap.size<=D)(hm:W.heap[D]? =some (.deferred (some [])))(d:∀E∈ds,E<D):pY w W G aG bf bm m S A n c out (D::ds):=
 ⟨h.below,h.qc,h.qt,h.set,h.row,h.uY.cons b hm (λ e=>by have:=d D e;omega),h.lm,h.gK,h.l6⟩
end
end
section
open Go.RowKit Go.Shelf
section
variable {base:Nat}{w w':World}{G:Nat}{hs:Nat->aq}{cb:Nat->Nat}{gw:List Value}{cls:Nat->List Value}{n:Nat}{X:Nat->List Value}
theorem j5.off(h:j5 base w G hs cb gw cls n X){row:Option Nat}(c:w.grownBy w' row)(f:∀g,row=some g->g≠G/\(∀r,(hs r).b≠some g)/\∀d,d<n->cb d≠g):j5 base w' G hs cb gw cls n X:=
 ⟨h.box.kept c (λ e=>(f G e.symm).1 rfl),h.rows.kept c (λ r g j e=>(f g e).2.1 r j),λ d i=>(h.cls d i).kept c (λ e=>(f _ e.symm).2.2 d i rfl),h.inj,h.ru,h.rU⟩
theorem mg.others{l8:Type}{ty:l8->TypeId}{nT:l8->Nat}{ls:l8->aq}{Y:l8->List Value}(h:mg base ty nT w ls Y){K:Nat->Prop}(f:aD K w w')(hk:∀r g,(ls r).b=some g->K g):mg base ty nT w' ls Y:=
 ⟨λ r=>mP (h.row r) (λ b c=>f.keep b (hk r b (by rw[<-aq.own];exact c))),h.apart⟩
theorem mg.FU{l8:Type}{ty:l8->TypeId}{nT:l8->Nat}{ls:l8->aq}{Y:l8->List Value}(h:mg base ty nT w ls Y){r:l8}{g:Nat}(d:(ls r).b=some g){o:Obj}(c:w.heap[g]? =some o):o.isCells=true:=by
 obtain⟨cs,e⟩:=sO (h.row r) (g:=g) (by rw[aq.own];exact d);rw[e] at c;cases c;rfl
end
def xW(r:Nat):TypeId:=if r=0 then 115 else if r=1 then 25 else if r=2 then 25 else if r=4 then 170 else if r=7 then 114 else if r=8 then 129 else if r=10 then 164 else 3
structure lI(K:Nat->Prop)(base:Nat)(w W:World)(G:Nat)(hs:Nat->aq)(cb:Nat->Nat)(s:aj)(ls:Nat->aq)(X:Nat->List Value):Prop where
 gz:aU (λ b=>K b\/∃r,(ls r).b=some b) base W G hs cb s
 rows:mg w.heap.size xW (λ _=>1) W ls X
 iP:aD K w W
 kl:∀b,K b->b<w.heap.size
def oD(B:Nat):aq:=⟨some ⟨B,0,none⟩,1,1⟩
section
variable {K:Nat->Prop}{base:Nat}{w W W':World}{G:Nat}{hs hs':Nat->aq}{cb sj:Nat->Nat}{s s':aj}{ls:Nat->aq}{X:Nat->List Value}
theorem KeepsOthers.below{A B:World}(h:Below A.heap.size A B):KeepsOthers A B:=⟨h.size,λ k o hk _=>(h.block k (o_.1 hk).1).trans hk⟩
theorem KeepsOthers.grown{A B:World}{row:Option Nat}(h:A.grownBy B row)(c:∀g,row=some g->∃cs t b,A.heap[g]? =some (.cells cs t b)):KeepsOthers A B:=
 ⟨h.size,λ k o hk d=>(h.block k (o_.1 hk).1 (λ e=>by obtain⟨cs,t,b,h1⟩:=c k e.symm;rw[h1] at hk;cases hk;cases d)).trans hk⟩
theorem lI.call(h:lI K base w W G hs cb s ls X):aU (λ b=>(K b\/∃r,(ls r).b=some b)\/∃o:Obj,W.heap[b]? =some o/\o.isCells=false) base W G hs cb s:=by
 refine⟨h.gz.e,⟨λ b c=>?_,λ c=>?_,λ r b j c=>?_,λ d k c=>?_⟩⟩
 ·rcases c with c|⟨o,f,_⟩
  ·exact h.gz.s.lt b c
  ·exact(o_.1 f).1
 ·rcases c with c|⟨o,f,i⟩
  ·exact h.gz.s.g c
  ·have h1:W.heap[G]? =_:=h.gz.e.box;rw[h1] at f;cases f;cases i
 ·rcases c with c|⟨o,f,i⟩
  ·exact h.gz.s.row r b j c
  ·rw[h.gz.e.rows.FU j f] at i;cases i
 ·rcases c with c|⟨o,f,i⟩
  ·exact h.gz.s.cl d k c
  ·have h1:W.heap[cb d]? =_:=h.gz.e.cls d k;rw[h1] at f;cases f;cases i
theorem lI.back(h:lI K base w W G hs cb s ls X)(e:aU (λ b=>(K b\/∃r,(ls r).b=some b)\/∃o:Obj,W.heap[b]? =some o/\o.isCells=false) base W' G hs' sj s')(f:aD (λ b=>(K b\/∃r,(ls r).b=some b)\/∃o:Obj,W.heap[b]? =some o/\o.isCells=false) W W'):
  lI K base w W' G hs' sj s' ls X/\KeepsOthers W W':=
 ⟨⟨e.Br (λ b c=>.inl c),h.rows.others f (λ r g d=>.inl (.inr ⟨r,d⟩)),h.iP.trans (f.mono (λ b c=>.inl (.inl c))),h.kl⟩,f.size,λ k o hk i=>(f.keep k (.inr ⟨o,hk,i⟩)).trans hk⟩
theorem lI.grow(h:lI K base w W G hs cb s ls X)(c:Below W.heap.size W W'):lI K base w W' G hs cb s ls X:=
 ⟨(h.gz.below c).1,h.rows.below c,h.iP.trans ((h.gz.below c).2.mono (λ b hk=>.inl hk)),h.kl⟩
theorem lI.drew(h:lI K base w W G hs cb s ls X):lI K base w W.drew G hs cb s ls X:=h.grow ((g_ _ W).drew)
theorem lI.tW(h:lI K base w W G hs cb s ls X){row:Option Nat}(c:W.grownBy W' row)(d:∀r,row=some r->w.heap.size<=r/\∃o:Obj,W.heap[r]? =some o/\o.isCells=false):lI K base w W' G hs cb s ls X:=
 ⟨h.gz.tW c (λ r e=>(d r e).2),h.rows.kept c (λ r g j e=>by obtain⟨_,o,k,i⟩:=d g e;rw[h.rows.FU j k] at i;cases i),
  h.iP.trans (aD.grown c (λ b f=>h.gz.s.lt b (.inl f)) (λ b e f=>by have:=(d b e).1;have:=h.kl b f;omega)),h.kl⟩
theorem lI.iS(h:lI K base w W G hs cb s ls X){r:Nat}{h':aq}{ys:List Value}(f:W.grownBy W' (ls r).b)(l:W'.ownsRow w.heap.size (xW r) 1 h'.v h'.n ys)(m:h'.b=(ls r).b\/∀g,h'.b=some g->W.heap.size<=g):
  lI K base w W' G hs cb s (iH ls r h') (iH X r ys)/\KeepsOthers W W':=by
 have p:∀g,(ls r).b=some g->w.heap.size<=g/\g<W.heap.size:=λ g e=>h.rows.lt e
 have q:∀g,(ls r).b=some g->g≠G/\(∀r',(hs r').b≠some g)/\∀d,d<s.c.cl.length->cb d≠g:=λ g e=>by
  refine⟨λ i=>?_,λ r' i=>?_,λ d j i=>?_⟩
  ·subst i;exact h.gz.s.g (.inr ⟨r,e⟩)
  ·exact h.gz.s.row r' g i (.inr ⟨r,e⟩)
  ·subst i;exact h.gz.s.cl d j (.inr ⟨r,e⟩)
 have t:=h.gz.e.off f q;refine⟨⟨⟨t,?_⟩,h.rows.iS (r:=r) f l m,h.iP.trans (aD.grown f (λ b hk=>h.gz.s.lt b (.inl hk)) (λ b e hk=>by have:=(p b e).1;have:=h.kl b hk;omega)),h.kl⟩,
  KeepsOthers.grown f (λ g e=>by obtain⟨cs,u⟩:=sO (h.rows.row r) (g:=g) (by rw[aq.own];exact e);exact⟨_,_,_,u⟩)⟩
 have k:∀b,(∃r',(iH ls r h' r').b=some b)->(∃r',(ls r').b=some b)\/(W.heap.size<=b/\h'.b=some b):=λ b ⟨r',e⟩=>by
  by_cases o:r'=r
  ·subst o;rw[jH] at e;rcases m with h1|h1
   ·exact .inl ⟨r',by rw[<-h1];exact e⟩
   ·exact .inr ⟨h1 b e,e⟩
  ·rw[aX _ _ o] at e;exact .inl ⟨r',e⟩
 have y:∀b,h'.b=some b->b<W'.heap.size:=λ b e=>(td l (g:=b) (by rw[aq.own];exact e)).2
 refine⟨λ b hk=>?_,λ hk=>?_,λ r' b e hk=>?_,λ d j hk=>?_⟩
 ·rcases hk with hk|hk
  ·exact Zu (h.gz.s.lt b (.inl hk)) f.size
  ·rcases k b hk with hk|⟨_,hk⟩
   ·exact Zu (h.gz.s.lt b (.inr hk)) f.size
   ·exact y b hk
 ·rcases hk with hk|hk
  ·exact h.gz.s.g (.inl hk)
  ·rcases k G hk with hk|⟨hk,_⟩
   ·exact h.gz.s.g (.inr hk)
   ·have:=h.gz.e.box.lt;omega
 ·rcases hk with hk|hk
  ·exact h.gz.s.row r' b e (.inl hk)
  ·rcases k b hk with hk|⟨hk,_⟩
   ·exact h.gz.s.row r' b e (.inr hk)
   ·have:=(h.gz.e.rows.lt e).2;omega
 ·rcases hk with hk|hk
  ·exact h.gz.s.cl d j (.inl hk)
  ·rcases k _ hk with hk|⟨hk,_⟩
   ·exact h.gz.s.cl d j (.inr hk)
   ·have:=(h.gz.e.cls d j).lt;omega
theorem lI.fresh(h:lI K base w W G hs cb s ls X){r:Nat}{h':aq}{ys:List Value}(c:Below W.heap.size W W')(d:W'.ownsRow w.heap.size (xW r) 1 h'.v h'.n ys)(e:∀g,h'.b=some g->W.heap.size<=g):
  lI K base w W' G hs cb s (iH ls r h') (iH X r ys):=
 (h.iS (r:=r) (h':=h') (ys:=ys) ⟨c.os,c.tape,c.output,c.size,λ k hk _=>c.block k hk⟩ d (.inr e)).1
theorem lI.box(h:lI K base w W G hs cb s ls X)(r:Nat)(v:Value):lI K base w (W.alloc (.cells #[v] (xW r))) G hs cb s (iH ls r (oD W.heap.size)) (iH X r [v]):=
 h.fresh (bK W _) (by
  have:=World.ownsRow_lit (base:=w.heap.size) (e:=xW r) (size:=1) W #[v] 1 h.iP.size (by unfold maxLen;omega) (by simp);simpa[oD,aq.v] using this) (λ g e=>by cases e;exact r_ _)
theorem lI.set(h:lI K base w W G hs cb s ls X){r g:Nat}(c:(ls r).b=some g)(k:Nat)(v:Value):lI K base w (W.setCell ⟨g,k,none⟩ v) G hs cb s ls (iH X r ((X r).set k v))/\KeepsOthers W (W.setCell ⟨g,k,none⟩ v):=by
 have e:=h.rows.set c k v;have f:W.grownBy (W.setCell ⟨g,k,none⟩ v) (ls r).b:=by rw[c];exact kK W g k v
 have i:iH ls r (ls r)=ls:=by funext r';unfold iH;split<;>simp_all
 have d:=e.row r;rw[jH] at d;have:=h.iS (r:=r) (h':=ls r) (ys:=(X r).set k v) f d (.inl rfl);rw[i] at this;exact this
theorem lI.kB(h:lI K base w W G hs cb s ls X){r g:Nat}(c:(ls r).b=some g){k:Nat}{v:Value}(d:(X r)[k]? =some v):W.cell? ⟨g,k,none⟩=some v/\W.frozen? ⟨g,k,none⟩=false:=by
 refine⟨?_,h.rows.free c k⟩;have hk:k<(ls r).n*1:=by rw[<-h.rows.len r];exact(c_.1 d).1
 rw[h.rows.cell c hk,d]
theorem lI.lt(h:lI K base w W G hs cb s ls X){r g:Nat}(c:(ls r).b=some g):w.heap.size<=g/\g<W.heap.size:=h.rows.lt c
theorem lI.start(h:aU K base w G hs cb s):lI K base w w G hs cb s (λ _=>mM) (λ _=> []):=
 ⟨h.Br (λ b c=>by rcases c with c|⟨r,e⟩;exact c;cases e),⟨λ r=>World.ownsRow_nil _ _ _ _,λ r r' g _ e=>by cases e⟩,aD.refl,h.s.lt⟩
theorem lI.off(h:lI K base w W G hs cb s ls X){r g:Nat}(e:(ls r).b=some g):g≠G/\(∀r',(hs r').b≠some g)/\∀d,d<s.c.cl.length->cb d≠g:=
 ⟨λ f=>by subst f;exact h.gz.s.g (.inr ⟨r,e⟩),λ r' f=>h.gz.s.row r' g f (.inr ⟨r,e⟩),λ d i f=>by subst f;exact h.gz.s.cl d i (.inr ⟨r,e⟩)⟩
end
theorem pF.others{jw:Nat}{ds:List Nat}(h:pF jw W ds)(k:KeepsOthers W W'):pF jw W' ds:=⟨h.nr,λ D b=>⟨(h.kB D b).1,k.same D _ (h.kB D b).2 rfl⟩⟩
end
section
open Go.RowKit Go.Shelf
def FV(K:Nat->Prop)(base:Nat)(w:World)(G:Nat)(hs:Nat->aq)(cb:Nat->Nat)(n:Nat)(B:Int)(s:aj)(e:Ending)(w':World):Prop:=
 e=.returned (.tuple #[])/\∃s',ov s s'/\mu n js B s'/\aU K base w' G hs cb s'/\aD K w w'
theorem BB(b:0<=x)(h1:x<=4611686018427387904):wrap64 x=x:=by unfold wrap64;omega
theorem Kh{w:World}(h:aU K base w G hs cb s)(r:mu n js B s)(aa:n<=60000)(ab:s.aI.length<=100000)(ad:0<=B)(ae:B<=4611686018427387904)(v:Nat)(af:1<=v/\v<=n):
  Calls w_ 184 #[.pointer (some ⟨G,0,none⟩),.int .i64 v] w (FV K base w G hs cb n B s):=by
 obtain⟨g6,D,ag,f6⟩:=h.e.lV 8 6 rfl (h.e.n6.trans r.kM) (by omega);have c6:=h.e.yJ D (k:=v) (by rw[r.kM];omega);have ah:=f6 v;obtain⟨x,E⟩:∃x,ai s.act v=x:=⟨_,rfl⟩
 obtain⟨y,F⟩:∃y,s.aM=y:=⟨_,rfl⟩
 have c9:=h.e.kA (k:=9) (v:=.int .i64 s.aM) rfl;rw[F] at c9;rw[E] at c6;have R:0<=x/\x<=js:=by rw[<-E];exact r.pP v
 have S:1<=y/\y<=js:=by rw[<-F];exact⟨r.rC,r.oS⟩
 obtain⟨z,ak⟩:∃z,x+y=z:=⟨_,rfl⟩
 have H:0<=z/\z<=2199023255552:=by unfold js at R S;omega
 have T:wrap64 z=z:=BB H.1 (by omega);have ar:Zn.wrap z=z:=by rw[Zd];unfold wrap64 at T;omega
 have aR:(v:Int)<(n:Int)+1:=by omega
 have al:=U h;have I:=U r;have J:=U D;have V:=U af;have Z:=U H;clear h r D f6 E F R S H;go_enter Tryz.func184,Tryz.ntmps184
 go_wp2_with fail
 refine Zo 13 (by kernel_rfl) (by kernel_rfl) ?_;simp only[Zm,Zg,Zl,Zh]
 iterate 13 still_step
 refine ZQ ?_;change wpList _ _ _ _ _ w.drew
 go_upto_region 1 with fail
 have d:=al.o.Bq J.o v z;have L:=U (d.2.trans aD.drew);have d:=U d.1.drew;generalize (w.setCell ⟨g6,v,none⟩ (.int .i64 z)).drew=w1 at d L;have M:bI (mu n 2199023255552 B (s.p8 v z)):=U (I.o.act (by unfold js;omega) V.o.1 Z.o.1 Z.o.2);have W:=d.o.e.rA 8 J.o (d.o.e.n6.trans M.o.kM) rfl;have N:=d.o.e.yJ J.o (k:=v) (by rw[M.o.kM];have:=V.o;omega);have Y:ai (s.p8 v z).act v=z:=by show ai (s.act.set v z) v=z;rw[o7,if_pos ⟨rfl,by rw[I.o.kM];have:=V.o;omega⟩]
 rw[Y] at N;clear ag c6 c9 ah T Y ak
 by_cases au:1099511627776<z
 ·go_upto_region 3 with(go_at_call 188;refine(FR (A:=2199023255552) (A':=js) d.o M.o aa ab (by omega) (by unfold js;omega) (by unfold js;omega) ad ae).mono ?_;rintro e av ⟨rfl,s2,i,b,c,j⟩;have c:=U c;have j:=U (L.o.trans j);have i:=U ((ov.act s v z).trans i);have b:=U b)
  clear W N;have l:=b.o.lT.sL;obtain⟨g8,t,an,f8⟩:=c.o.e.lV 11 8 rfl (c.o.e.n8.trans l) (by omega);have d8:=c.o.e.wU t (k:=v) (by rw[l];have:=V.o;omega);obtain⟨pv,f⟩:∃pv,ai s2.pl v=pv:=⟨_,rfl⟩
  rw[f] at d8;have u:0<=pv->pv<s2.ord.length:=λ O=>by rw[<-f];exact(b.o.lT.o v V.o.1 V.o.2 (by rw[f];exact O)).1
  have C:=b.o.lT.len;have X:=U (z_ u C);clear l t f8 f u C
  by_cases hp:0<=pv
  ·have P:(v:Int)<((n+1:Nat):Int):=by have:=V.o;omega
   obtain⟨p,rfl⟩:∃p:Nat,pv=p:=⟨pv.toNat,by omega⟩
   go_wp2_with (go_at_call 187;refine(Dq c.o (by have:=b.o.lT;rw[b.o.jh];exact this) (by rw[b.o.kM,b.o.jh]) (by rw[b.o.jh];omega) p (by have:=X.o.1 (by omega);omega) (by have:=X.o.2;omega)).mono ?_;rintro e ao ⟨rfl,Q,g,m,q⟩;have m:=U m;have q:=U q;have g:=U g)
   go_end0;exact⟨rfl,Q,i.o.trans g.o.hk,g.o.rg b.o,m.o,j.o.trans q.o⟩
  ·have P:(v:Int)<((n+1:Nat):Int):=by have:=V.o;omega
   go_wp2_with fail
   go_end0;exact⟨rfl,s2,i.o,b.o,c.o,j.o⟩
 ·have b:bI (mu n js B (s.p8 v z)):=U (I.o.act (Int.le_refl _) V.o.1 Z.o.1 (by unfold js;omega))
  go_upto_region 3 with fail
  have c:=d;have j:=L;have i:bI (ov s (s.p8 v z)):=U (ov.act s v z);clear W N;have l:=b.o.lT.sL;obtain⟨g8,t,an,f8⟩:=c.o.e.lV 11 8 rfl (c.o.e.n8.trans l) (by omega);have d8:=c.o.e.wU t (k:=v) (by rw[l];have:=V.o;omega);obtain⟨pv,f⟩:∃pv,ai (s.p8 v z).pl v=pv:=⟨_,rfl⟩
  rw[f] at d8;have u:0<=pv->pv<(s.p8 v z).ord.length:=λ O=>by rw[<-f];exact(b.o.lT.o v V.o.1 V.o.2 (by rw[f];exact O)).1
  have C:=b.o.lT.len;have X:=U (z_ u C);clear l t f8 f u C
  by_cases hp:0<=pv
  ·have P:(v:Int)<((n+1:Nat):Int):=by have:=V.o;omega
   obtain⟨p,rfl⟩:∃p:Nat,pv=p:=⟨pv.toNat,by omega⟩
   go_wp2_with (go_at_call 187;refine(Dq c.o (by have:=b.o.lT;rw[b.o.jh];exact this) (by rw[b.o.kM,b.o.jh]) (by rw[b.o.jh];omega) p (by have:=X.o.1 (by omega);omega) (by have:=X.o.2;omega)).mono ?_;rintro e ao ⟨rfl,Q,g,m,q⟩;have m:=U m;have q:=U q;have g:=U g)
   go_end0;exact⟨rfl,Q,i.o.trans g.o.hk,g.o.rg b.o,m.o,j.o.trans q.o⟩
  ·have P:(v:Int)<((n+1:Nat):Int):=by have:=V.o;omega
   go_wp2_with fail
   go_end0;exact⟨rfl,(s.p8 v z),i.o,b.o,c.o,j.o⟩
theorem Dy(b:0<=x)(h1:x<=4611686018427387904):Zn.wrap x=x:=by rw[Zd];omega
theorem Ki(b:0<=x)(h:x/20=y):ZZ x 20=y:=by rw[n_ b,h]
theorem Kj{w:World}(h:aU K base w G hs cb s)(r:mu n js B s)(D:n<=60000)(E:s.aI.length<=100000)(F:0<=B)(H:B<=4611686018427387904):
  Calls w_ 149 #[.pointer (some ⟨G,0,none⟩)] w (FV K base w G hs cb n B s):=by
 obtain⟨y,d⟩:∃y,s.aM=y:=⟨_,rfl⟩
 have c9:=h.e.kA (k:=9) (v:=.int .i64 s.aM) rfl;rw[d] at c9;have f9:=h.e.free 9;have l:1<=y/\y<=js:=by rw[<-d];exact⟨r.rC,r.oS⟩
 obtain⟨q,m⟩:∃q,y/20=q:=⟨_,rfl⟩
 obtain⟨p,hp⟩:∃p,q+1=p:=⟨_,rfl⟩
 obtain⟨z,I⟩:∃z,y+p=z:=⟨_,rfl⟩
 have t:0<=q/\0<=p/\1<=z/\z<=2199023255552/\q<=z/\p<=z:=by unfold js at l;omega
 have J:=Ki (by omega) m;have w1:wrap64 z=z:=BB (by omega) (by omega);have L:Zn.wrap z=z:=Dy (by omega) (by omega);have u:wrap64 q=q:=BB (by omega) (by omega);have k2:Zn.wrap q=q:=Dy (by omega) (by omega);have M:wrap64 p=p:=BB (by omega) (by omega);have k3:Zn.wrap p=p:=Dy (by omega) (by omega);have N:=U h;have C:=U r;have Z:=U t;clear h r d l m t;go_enter Tryz.func149,Tryz.ntmps149
 go_wp2_with fail
 refine Zo 13 (by kernel_rfl) (by kernel_rfl) ?_;simp only[Zm,Zg,Zl,Zh]
 iterate 13 still_step
 refine ZQ ?_;change wpList _ _ _ _ _ w.drew
 go_upto_region 1 with fail
 have b:=N.o.FB z;have f:=U (b.2.trans aD.drew);have b:=U b.1.drew;generalize (w.setCell ⟨G,9,none⟩ (.int .i64 z)).drew=P at b f;have O:bI (mu n 2199023255552 B (s.vY z)):=U (C.o.zZ (by unfold js;omega) Z.o.2.2.1 Z.o.2.2.2.1);have Q:=b.o.e.kA (k:=9) (v:=.int .i64 z) rfl;clear c9 f9 w1 u M L k2 k3 J hp I
 by_cases R:1099511627776<z
 ·go_wp2_with (go_at_call 188;refine(FR (A:=2199023255552) (A':=js) b.o O.o D E (by omega) (by unfold js;omega) (by unfold js;omega) F H).mono ?_;rintro e u ⟨rfl,s2,g,c,i,j⟩;have i:=U i;have j:=U (f.o.trans j);have g:=U ((ov.zZ s z).trans g);have c:=U c)
  go_end0;exact⟨rfl,s2,g.o,c.o,i.o,j.o⟩
 ·have c:bI (mu n js B (s.vY z)):=U (C.o.zZ (Int.le_refl _) Z.o.2.2.1 (by unfold js;omega))
  go_wp2_with fail
  go_end0;exact⟨rfl,_,ov.zZ s z,c.o,b.o,f.o⟩
end
section
open Go.RowKit Go.Shelf
theorem Dz(k:Nat):qY (ij k)=164:=by
 unfold qY ij;rw[if_neg (by omega),if_neg (by omega),if_neg (by omega),if_neg (by omega),if_neg (by omega),if_neg (by omega),if_neg (by omega),if_neg (by omega),if_pos (by omega)];rfl
theorem Ad(k:Nat):nU (ij k)=1:=by unfold nU ij;rw[if_neg (by omega)]
theorem DA(k:Nat):qY (kz k)=3:=by
 unfold qY kz;rw[if_neg (by omega),if_neg (by omega),if_neg (by omega),if_neg (by omega),if_neg (by omega),if_neg (by omega),if_neg (by omega),if_neg (by omega),if_neg (by omega)]
theorem BC(k:Nat):nU (kz k)=1:=by unfold nU kz;rw[if_neg (by omega)]
theorem v8(hs:Nat->aq)(cb:Nat->Nat)(s:aj)(k:Nat):cont hs cb s (ij k)=kV cb (ax s.c.wt k):=by
 unfold cont ij;rw[if_neg (by omega),if_neg (by omega),if_neg (by omega),if_neg (by omega),if_neg (by omega),if_neg (by omega),if_neg (by omega),if_neg (by omega),if_neg (by omega),if_neg (by omega),if_neg (by omega),if_neg (by omega),if_neg (by omega),if_pos (by omega)];rw[show(13+3*k-13)/3=k by omega]
theorem xX(hs:Nat->aq)(cb:Nat->Nat)(s:aj)(k:Nat):cont hs cb s (kz k)=gX (ax s.c.cl k):=by
 unfold cont kz;rw[if_neg (by omega),if_neg (by omega),if_neg (by omega),if_neg (by omega),if_neg (by omega),if_neg (by omega),if_neg (by omega),if_neg (by omega),if_neg (by omega),if_neg (by omega),if_neg (by omega),if_neg (by omega),if_neg (by omega),if_neg (by omega),if_pos (by omega)];rw[show(14+3*k-14)/3=k by omega]
def aj.pZ(s:aj)(k:Nat)(l:List Nat):aj:={s with c:={s.c with wt:=s.c.wt.set k l}}
theorem Kk{f:Nat->Value}{v:Value}:((s_ n).map f).set k v=(s_ n).map (λ j=>if j=k then v else f j):=by
 refine List.ext_getElem? λ j=>?_
 rw[List.getElem?_set,m_,m_]
 by_cases b:j<n
 ·rw[Zk b]
  by_cases e:k=j
  ·subst e;simp[b]
  ·rw[if_neg e];simp[Ne.symm e]
 ·rw[e_ (by simpa using b)]
  by_cases e:k=j
  ·subst e;simp[b]
  ·rw[if_neg e];rfl
theorem Kl(hs hs':Nat->aq)(cb:Nat->Nat)(s:aj){r:Nat}(b:r≠0):cont hs cb s r=cont hs' cb s r:=by
 unfold cont;rw[if_neg b,if_neg b]
theorem FW(hs:Nat->aq)(cb:Nat->Nat)(s:aj){k r:Nat}{l:List Nat}(d:r≠0)(e:r≠ij k):cont hs cb (s.pZ k l) r=cont hs cb s r:=by
 rcases l_ r 13 with h|h
 ·have:r=1\/r=2\/r=3\/r=4\/r=5\/r=6\/r=7\/r=8\/r=9\/r=10\/r=11\/r=12:=by omega
  rcases this with rfl|rfl|rfl|rfl|rfl|rfl|rfl|rfl|rfl|rfl|rfl|rfl<;>rfl
 ·have a0:¬r=0:=d;have a1:¬r=1:=by omega
  have a2:¬r=2:=by omega
  have a3:¬r=3:=by omega
  have a4:¬r=4:=by omega
  have a5:¬r=5:=by omega
  have f:¬r=6:=by omega
  have g:¬r=7:=by omega
  have i:¬r=8:=by omega
  have a9:¬r=9:=by omega
  have j:¬r=10:=by omega
  have m:¬r=11:=by omega
  have a12:¬r=12:=by omega
  unfold cont;simp only[a0,a1,a2,a3,a4,a5,f,g,i,a9,j,m,a12,if_false]
  by_cases hm:r%3=1
  ·rw[if_pos hm,if_pos hm];have:ax (s.pZ k l).c.wt ((r-13)/3)=ax s.c.wt ((r-13)/3):=by
    show ax (s.c.wt.set k l) _=_;rw[qE,if_neg (λ n=>e (by unfold ij;omega))]
   rw[this]
  ·rw[if_neg hm,if_neg hm]
   by_cases b:r%3=2
   ·rw[if_pos b,if_pos b];rfl
   ·rw[if_neg b,if_neg b];rfl
section
variable {K:Nat->Prop}{base:Nat}{w di W:World}{G:Nat}{hs:Nat->aq}{cb:Nat->Nat}{s:aj}
theorem iX.jw(h:iX base w G hs cb s):(hs 0).n=s.c.wt.length:=by
 have h1:=h.rows.len 0;rw[show(cont hs cb s 0).length=s.c.wt.length by simp[cont],show nU 0=1 from rfl] at h1;omega
theorem iX.Ae(h:iX base w G hs cb s)(k:Nat):(hs (ij k)).n=(ax s.c.wt k).length:=by
 have h1:=h.rows.len (ij k);rw[v8,Ad] at h1;simp[kV] at h1;omega
theorem iX.Af(h:iX base w G hs cb s)(k:Nat):(hs (kz k)).n=(ax s.c.cl k).length:=by
 have h1:=h.rows.len (kz k);rw[xX,BC] at h1;simp[gX] at h1;omega
theorem iX.xY(h:iX base w G hs cb s){g:Nat}(d:(hs 0).b=some g){k:Nat}(hk:k<s.c.wt.length):w.cell? ⟨g,k,none⟩=some (hs (ij k)).v:=h.get d (by
 show((s_ s.c.wt.length).map λ k=>(hs (ij k)).v)[k]? =_;rw[m_,Zk hk];rfl)
theorem iX.xZ(h:iX base w G hs cb s){d g:Nat}(e:(hs (kz d)).b=some g){k:Nat}(hk:k<(ax s.c.cl d).length):w.cell? ⟨g,k,none⟩=some (.int .i64 (ai (ax s.c.cl d) k)):=h.get e (by
 rw[xX,ny hk];simp[gX,hk])
theorem aU.DB{w1:World}(h:aU K base w G hs cb s){g0:Nat}(m:(hs 0).b=some g0){k:Nat}(hk:k<s.c.wt.length){h':aq}{l:List Nat}
  (n:j5 base w1 G (iH hs (ij k) h') cb (rq hs s) (tQ hs s) s.c.cl.length (iH (cont hs cb s) (ij k) (kV cb l))) (o:Sep K w1 G (iH hs (ij k) h') cb s.c.cl.length):
  aU K base (w1.setCell ⟨g0,k,none⟩ h'.v) G (iH hs (ij k) h') cb (s.pZ k l):=by
 have i:(0:Nat)≠ij k:=by unfold ij;omega
 have p:(iH hs (ij k) h' 0).b=some g0:=by rw[aX _ _ i];exact m
 refine⟨(n.cell p k h'.v).eq rfl rfl ?_ (λ d _=>?_) rfl (λ r=>?_),o.more (kK w1 g0 k _).size⟩
 ·have e:∀r,r<13->iH hs (ij k) h' r=hs r:=λ r q=>aX _ _ (by unfold ij;omega)
  unfold rq oc;rw[e 0 (by omega),e 1 (by omega),e 2 (by omega),e 3 (by omega),e 4 (by omega),e 5 (by omega),e 6 (by omega),e 7 (by omega),e 8 (by omega),e 9 (by omega),e 10 (by omega),e 11 (by omega),e 12 (by omega)];rfl
 ·unfold tQ;rw[aX _ _ (show kz d≠ij k by unfold kz ij;omega)];rfl
 ·by_cases f:r=0
  ·subst f;rw[jH,aX _ _ i];show((s_ s.c.wt.length).map λ j=>(hs (ij j)).v).set k h'.v=(s_ (s.c.wt.set k l).length).map λ j=>(iH hs (ij k) h' (ij j)).v
   rw[Kk,v_];refine List.map_congr_left λ j _=>?_
   by_cases e:j=k
   ·subst e;rw[if_pos rfl,jH]
   ·rw[if_neg e,aX _ _ (show ij j≠ij k by unfold ij;omega)]
  ·rw[aX _ _ f]
   by_cases g:r=ij k
   ·subst g;rw[jH,v8];show _=kV cb (ax (s.c.wt.set k l) k);rw[qE,if_pos ⟨rfl,hk⟩]
   ·rw[aX _ _ g];rw[Kl (iH hs (ij k) h') hs cb _ f];exact(FW hs cb s f g).symm
theorem aU.Km(h:aU K base w G hs cb s){g0:Nat}(f:(hs 0).b=some g0){k:Nat}(hk:k<s.c.wt.length){v':Value}{d:Nat}(p:oa w base 164 (hs (ij k)).v ((ax s.c.wt k).length+1) (kV cb (ax s.c.wt k++[d])) v' di):
  ∃h':aq,v'=h'.v/\h'.n=(ax s.c.wt k).length+1/\di.cell? ⟨g0,k,none⟩=some (hs (ij k)).v/\(∀j,di.frozen? ⟨g0,j,none⟩=false)/\di.cell? ⟨G,1,none⟩=some (hs 0).v/\aU K base (di.setCell ⟨g0,k,none⟩ v') G (iH hs (ij k) h') cb (s.pZ k (ax s.c.wt k++[d]))/\aD K w (di.setCell ⟨g0,k,none⟩ v'):=by
 obtain⟨g,l,q⟩:=p;have g:di.ownsRow base (qY (ij k)) (nU (ij k)) v' ((ax s.c.wt k).length+1) (kV cb (ax s.c.wt k++[d])):=by rw[Dz,Ad];exact g
 obtain⟨h',rfl,t,i,u,y⟩:=j5.app h.e h.s (r:=ij k) g l q;have m:(0:Nat)≠ij k:=by unfold ij;omega
 have o:(iH hs (ij k) h' 0).b=some g0:=by rw[aX _ _ m];exact f
 refine⟨h',rfl,t,?_,λ j=>i.rows.free o j,(h.e.after (r:=ij k) (by rw[<-aq.own];exact l) 1).1.trans (h.e.kA rfl),h.DB f hk i u,y.trans (aD.set g0 k _ (h.s.row 0 g0 f))⟩;refine i.get o ?_;rw[aX _ _ m];show((s_ s.c.wt.length).map λ k=>(hs (ij k)).v)[k]? =_;rw[m_,Zk hk];rfl
theorem aU.DC(h:aU K base w G hs cb s){g0 k d lP oE:Nat}{oU:Option Addr}{v0 v':Value}(l:(hs 0).b=some g0)(hk:k<s.c.wt.length)(f:hs (ij k)=⟨oU,lP,oE⟩)(g:lP=(ax s.c.wt k).length)(m:w.cell? ⟨G,1,none⟩=some v0)
  (i:oa w base 164 (.slice oU lP oE) (lP+1) (kV cb (ax s.c.wt k)++[.pointer (some ⟨cb d,0,none⟩)]) v' di):
  ∃(A':Option Addr)(c':Nat),v'=.slice A' (lP+1) c'/\di.cell? ⟨G,1,none⟩=some v0/\di.cell? ⟨g0,k,none⟩=some (.slice oU lP oE)/\(∀j,di.frozen? ⟨g0,j,none⟩=false)/\aU K base (di.setCell ⟨g0,k,none⟩ v') G (iH hs (ij k) ⟨A',lP+1,c'⟩) cb (s.pZ k (ax s.c.wt k++[d]))/\aD K w (di.setCell ⟨g0,k,none⟩ v'):=by
 obtain⟨⟨A',n,c'⟩,o,p,q,f9,r,t,u⟩:=h.Km (d:=d) l hk (v':=v') (di:=di) (by
  rw[f,<-g];rw[show kV cb (ax s.c.wt k)++[Value.pointer (some ⟨cb d,0,none⟩)]=kV cb (ax s.c.wt k++[d]) by simp[kV,tq]] at i;exact i)
 obtain rfl:n=lP+1:=by rw[g];exact p
 refine⟨A',c',o,?_,by rw[q,f];rfl,f9,t,u⟩;rw[r,<-m];exact(h.e.kA rfl).symm
end
end
section
open Go.RowKit
def Ag(ws:List (List Nat))(hU:World->Prop)(G:Nat->Value->World->Prop)(dead:Nat->Option Nat)(Init:World->Prop)(mQ:Nat)(i:Nat)(w:World)(v:Value)(w':World):Prop:=
 hU w'/\G i v w'/\(∀j u,j≠i->dead j≠some i->pn ws 8 j i=false->(∀c,dead j=some c->pn ws 8 i c=false)->G j u w->G j u w')/\(i≠mQ->pn ws 8 i mQ=false->Init w->Init w')
theorem Ag.same{G:Nat->Value->World->Prop}{w:World}{v:Value}(b:hU w)(h:G i v w):Ag ws hU G dead Init mQ i w v w:=⟨b,h,λ _ _ _ _ _ _ h=>h,λ _ _ h=>h⟩
theorem Ag.more{G:Nat->Value->World->Prop}{w w':World}{v:Value}(hm:∀j u w w',Below w.heap.size w w'->G j u w->G j u w')(c:∀w w',Below w.heap.size w w'->Init w->Init w')(b:Below w.heap.size w w')(d:hU w')(h:G i v w'):Ag ws hU G dead Init mQ i w v w':=⟨d,h,λ j u _ _ _ _ h=>hm j u w w' b h,λ _ _ h=>c w w' b h⟩
def yT(P:Program)(ds:List (Option Tmp))(ws:List (List Nat))(old:List (Tmp×Value))(hU:World->Prop)(G:Nat->Value->World->Prop)(dead:Nat->Option Nat)(Init:World->Prop)(mQ:Nat)(i:Nat)(o:Oper):Prop:=
 ∀(vals:Nat->Value)(w:World)(b:Operand->Value),hU w->(pn ws 8 mQ i=true\/i=mQ->Init w)->sk ds G dead i vals w b o.after.toList->ry ds ws i b old->rz b->
  bn P b o w (Ag ws hU G dead Init mQ i w)
def uB(P:Program)(ds:List (Option Tmp))(ws:List (List Nat))(old:List (Tmp×Value))(hU:World->Prop)(G:Nat->Value->World->Prop)(dead:Nat->Option Nat)(Init:World->Prop)(mQ:Nat):Nat->List Oper->Prop
 |_,[]=>True
 |k,o::r=>yT P ds ws old hU G dead Init mQ k o/\uB P ds ws old hU G dead Init mQ (k+1) r
theorem uB.at{P:Program}{ds:List (Option Tmp)}{ws:List (List Nat)}{old:List (Tmp×Value)}{hU:World->Prop}{G:Nat->Value->World->Prop}{dead:Nat->Option Nat}{Init:World->Prop}{mQ:Nat}:∀{l:List Oper}{k i:Nat}{o:Oper},uB P ds ws old hU G dead Init mQ k l->l[i]? =some o->yT P ds ws old hU G dead Init mQ (k+i) o
 |[],k,i,o,_,h=>by simp at h
 |x::l,k,0,o,hs,h=>by
  simp only[ZV,ZJ] at h;subst h;exact hs.1
 |x::l,k,i+1,o,hs,h=>by
  rw[List.getElem?_cons_succ] at h;have:=uB.at hs.2 h
  rwa[show k+1+i=k+(i+1) by omega] at this
section
variable {P:Program}{l:List Oper}{Q:Exit->Act->World->Prop}{a:Act}{old:List (Tmp×Value)}{hU:World->Prop}{G:Nat->Value->World->Prop}{dead:Nat->Option Nat}{Init:World->Prop}{mQ:Nat}
theorem Kn{ds:List (Option Tmp)}{ws:List (List Nat)}(S:ws=l.map λ o:Oper=>(o.after.toList.filter (h_ .any)).map (·.on))(D:ds=l.map λ o:Oper=>o.dst)(E:tS l.toArray=true)(z:rW l.toArray=true)(T:tT l.toArray a.tmps.size=true)
  (hold:qp a.eval old)
  {i:Nat} {o:Oper} (p:l.toArray[i]? =some o) (F:yT P ds ws old hU G dead Init mQ i o) {listed:Array Bool} {vals:Nat->Value} {w:World} {K:Act->World->Prop} (an:listed.size=l.toArray.size) (U:hU w) (hF:vS G dead (ic listed) vals w) (H:ic listed mQ=false->Init w)
  (V:i∈a_ .any l.toArray listed) (hC:sn ws (ic listed))
  (W:∀v w',hU w'->sn ws (ic (listed.setIfInBounds i true))->vS G dead (ic (listed.setIfInBounds i true)) (k6 vals i v) w'->(ic (listed.setIfInBounds i true) mQ=false->Init w')->K (j4 l.toArray (k6 vals i v) (ic (listed.setIfInBounds i true)) a l.toArray.size) w'):
  wpOp P l.toArray Q i K (j4 l.toArray vals (ic listed) a l.toArray.size) w:=by
 obtain⟨h1,I,X,J,M⟩:=vT V;obtain rfl:o=X:=by rw[p] at J;injection J
 have f:i<listed.size:=by omega
 have n:ic listed i=false:=by
  unfold ic;rw[y_,u_ f] at I⊢;simpa using I
 unfold wpOp;simp only[p];have Y:o.guard=none:=by
  unfold rW at z;rw[t_] at z;have:=z o (Zc p);simpa using this
 have hw:Z8 o (yielded l.toArray (j4 l.toArray vals (ic listed) a l.toArray.size).tmps)=true:=by unfold Z8;rw[Y]
 rw[if_pos hw];left;unfold yT at F;have Z:=F vals w (j4 l.toArray vals (ic listed) a l.toArray.size).eval U (λ q=>H (by
  rcases q with q|q
  ·cases d:ic listed mQ with
   |false=>rfl
   |true=>
    have:=hC.reach 8 mQ i d q;rw[n] at this;cases this
  ·rw[<-q];exact n)) (sk.of λ e he A=>by
  have hl:=M e (ZM.1 he) A;have aa:e.on<l.toArray.size:=by
   rcases l_ e.on listed.size with h|h
   ·omega
   ·rw[y_,ZR h] at hl;cases hl
  refine⟨λ r=>hF e.on hl λ c d=>?_,λ s hs=>?_⟩
  ·rcases r with r|r
   ·rw[r] at d;cases d
   ·rw[r] at d;injection d with d
    rw[<-d];exact n
  ·rw[D,<-yF] at hs;exact zT hs (Dh T hs) hl (λ k hk=>yD E hk hs) _ aa) (ry.of (λ s hs=>zS (λ j s' hl b B=>by
   injection B with B
   subst B;rw[yF,<-D] at b;have:=hC j i hl (Dg hs b);rw[n] at this;cases this) _) hold) (rz.act _)
 refine Z.wp λ v w' ⟨ab,k2,k3,ad⟩=>?_
 have ae:(j4 l.toArray vals (ic listed) a l.toArray.size).put o.dst v=j4 l.toArray (k6 vals i v) (ic (listed.setIfInBounds i true)) a l.toArray.size:=by
  rw[qm f];have af:pg l.toArray i=o.dst:=by unfold pg;rw[p];rfl
  have:=Bm (ops:=l.toArray) (vals:=vals) (L:=ic listed) (a:=a) (i:=i) (v:=v) (λ j b s hs=>yD E b hs) n l.toArray.size h1;rw[af] at this;exact this
 rw[ae];have C:sn ws (ic (listed.setIfInBounds i true)):=by
  rw[qm f];intro j k b N;unfold k9 at b⊢
  by_cases e:k=i
  ·rw[if_pos e]
  ·rw[if_neg e]
   by_cases g:j=i
   ·subst g;obtain⟨ao,u,ag,ah,A,ai⟩:=yH S N;rw[p] at u;injection u with u
    subst u;have:=M ag ah A;rw[ai] at this;exact this
   ·rw[if_neg g] at b;exact hC j k b N
 have aj:ic (listed.setIfInBounds i true) mQ=false->Init w':=λ h=>by
  rw[qm f] at h;unfold k9 at h
  by_cases e:mQ=i
  ·rw[if_pos e] at h;cases h
  ·rw[if_neg e] at h;refine ad (λ g=>e g.symm) ?_ (H h)
   cases t:pn ws 8 i mQ with
   |false=>rfl
   |true=>
    have m:=C.reach 8 i mQ (by rw[qm f];unfold k9;rw[if_pos rfl]) t;rw[qm f] at m;unfold k9 at m;rw[if_neg e,h] at m;cases m
 refine W v w' ab C (λ j b y=>?_) aj;rw[qm f] at b y
 by_cases e:j=i
 ·subst e;have g:k6 vals j v j=v:=by unfold k6;rw[if_pos rfl]
  rw[g];exact k2
 ·have g:k6 vals i v j=vals j:=by unfold k6;rw[if_neg e]
  have ak:k9 (ic listed) i j=ic listed j:=by unfold k9;rw[if_neg e]
  rw[g];rw[ak] at b;refine k3 j _ e (λ al=>?_) ?_ (λ c d=>?_) (hF j b λ c d=>?_)
  ·have:=y i al;unfold k9 at this;rw[if_pos rfl] at this;cases this
  ·cases t:pn ws 8 j i with
   |false=>rfl
   |true=>
    have:=hC.reach 8 j i b t;rw[n] at this;cases this
  ·cases t:pn ws 8 i c with
   |false=>rfl
   |true=>
    have O:=y c d;have m:=C.reach 8 i c (by rw[qm f];unfold k9;rw[if_pos rfl]) t;rw[qm f] at m;rw[m] at O;cases O
  ·have:=y c d;unfold k9 at this
   by_cases R:c=i
   ·rw[if_pos R] at this;cases this
   ·rw[if_neg R] at this;exact this
def BD(ws:List (List Nat))(n:Nat):Bool:=(s_ n).all λ j=>pn ws 8 n j
theorem Ko{ds:List (Option Tmp)}{ws:List (List Nat)}(y:ws=l.map λ o:Oper=>(o.after.toList.filter (h_ .any)).map (·.on))(J:ds=l.map λ o:Oper=>o.dst)(n:Nat)(hlen:l.length=n+1)(K:tS l.toArray=true)(q:rW l.toArray=true)(L:tT l.toArray a.tmps.size=true)(M:vD l.toArray=true)(t:BD ws n=true)(hold:qp a.eval old)
  (N:uB P ds ws old hU G dead Init mQ 0 (l.take n))
  (O:∀o vals w,l[n]? =some o->hU w->(∀j,j<n->dead j=none->G j (vals j) w)->bn P (j4 l.toArray vals (ng n) a n).eval o w λ v w'=>Q .normal ((j4 l.toArray vals (ng n) a n).put o.dst v) w'):
  ∀(fuel:Nat)(listed:Array Bool)(vals:Nat->Value)(w:World),listed.size=l.toArray.size->p9 l.toArray listed<=fuel->0<p9 l.toArray listed->ic listed n=false->sn ws (ic listed)->hU w->vS G dead (ic listed) vals w->(ic listed mQ=false->Init w)->
   wpAny P .any l.toArray Q fuel listed (j4 l.toArray vals (ic listed) a l.toArray.size) w:=by
 intro fuel
 induction fuel with
 |zero=>intro listed vals w p R S;omega
 |succ fuel T=>
  intro listed vals w p R S z hC A hF U;refine⟨λ h=>by have:=Dj M p h;omega,λ i B=>?_⟩;obtain⟨h1,V,o,d,W⟩:=vT B;have C:i<listed.size:=by omega
  have an:i<l.length:=by simpa using h1
  have D:l[i]? =some o:=by rw[Zq] at d;exact d
  by_cases E:i=n
  ·subst E;have F:∀k,qo ws i k=true->ic listed k=true:=λ k h=>by
    obtain⟨ao,s,e,he,X,Y⟩:=yH y h;rw[d] at s;injection s with s
    subst s;have:=W e he X;rw[Y] at this;exact this
   have u:∀j,j<i->ic listed j=true:=λ j f=>by
    unfold BD at t;simp only[Zf,k_] at t;have b:=t j f;unfold pn at b;rw[ZU] at b;rcases b with b|b
    ·exact F j b
    ·obtain⟨k,hk,Z⟩:=List.any_eq_true.1 b;exact hC.reach 7 k j (F k (by unfold qo;simpa using hk)) Z
   have aa:j4 l.toArray vals (ic listed) a l.toArray.size=j4 l.toArray vals (ng i) a i:=by
    have ab:l.toArray.size=i+1:=by simp[hlen]
    rw[ab];simp only[j4];rw[z];simp only[Bool.false_eq_true,if_false];exact Bo i λ j f=>by rw[u j f];unfold ng;simp[f]
   rw[aa];unfold wpOp;simp only[d];have ad:o.guard=none:=by
    unfold rW at q;rw[t_] at q;have:=q o (Zc d);simpa using this
   have hw:Z8 o (yielded l.toArray (j4 l.toArray vals (ng i) a i).tmps)=true:=by unfold Z8;rw[ad]
   rw[if_pos hw];left;refine(O o vals w D A λ j f ae=>hF j (u j f) λ c H=>by rw[ae] at H;cases H).wp λ v w' af=>?_
   refine wpAny_done ?_ af _;rcases ag:a_ .any l.toArray (listed.setIfInBounds i true) with _|⟨k,r⟩
   ·rfl
   ·have hk:k∈a_ .any l.toArray (listed.setIfInBounds i true):=by rw[ag];simp
    obtain⟨b,g,_⟩:=vT hk;exfalso;have aq:k<i+1:=by simpa[hlen] using b
    by_cases e:k=i
    ·subst e;rw[y_,p_ C] at g
     cases g
    ·have m:=u k (by omega);rw[y_,i_ (λ x=>e x.symm)] at g;unfold ic at m;rw[y_] at m;have ah:k<listed.size:=by omega
     rw[u_ ah] at g m;simp at g m;rw[g] at m;cases m
  ·have ai:yT P ds ws old hU G dead Init mQ i o:=by
    have b:(l.take n)[i]? =some o:=by rw[List.getElem?_take,if_pos (by omega)];exact D
    have:=uB.at N b
    rwa[Nat.zero_add] at this
   refine Kn y J K q L hold d ai p A hF U B hC λ v w' aj ak k2 al=>?_
   have I:ic (listed.setIfInBounds i true) n=false:=by
    rw[qm C];unfold k9;rw[if_neg (λ e=>E e.symm)];exact z
   refine T _ _ w' (by simp[p]) (by have:=Di (ops:=l.toArray) h1 V;omega) ?_ I ak aj k2 al;rcases Zi (p9 l.toArray (listed.setIfInBounds i true)) with b|b
   ·have:=yG (ops:=l.toArray) (listed:=listed.setIfInBounds i true) (by simp[p]) b n (by simp[hlen]);rw[I] at this;cases this
   ·exact b
end
theorem Ah{P:Program}{id:Nat}{w:World}(l:List Oper)(n N:Nat)(ds:List (Option Tmp))(ws:List (List Nat))(old:List (Tmp×Value))(hU:World->Prop)(G:Nat->Value->World->Prop)(dead:Nat->Option Nat)(Init:World->Prop)(mQ:Nat)
  (q:ops=l.toArray) (hm:P.follows .mixedOrders=true)
  (m:ds=l.map λ o:Oper=>o.dst) (r:ws=l.map λ o:Oper=>(o.after.toList.filter (h_ .any)).map (·.on)) (hlen:l.length=n+1) (s:tS l.toArray=true) (t:rW l.toArray=true) (u:vD l.toArray=true) (y:BD ws n=true) (z:tT l.toArray N=true)
  (A:a.tmps.size=N) (hold:qp a.eval old) (B:hU w.drew) (C:Init w.drew)
  (D:uB P ds ws old hU G dead Init mQ 0 (l.take n))
  (ol:Oper) (E:l[n]? =some ol) (F:∀vals w,hU w->(∀j,j<n->dead j=none->G j (vals j) w)->∀f,oI (ds.take n) 0 vals a=f->bn P f.eval ol w λ v w'=>Q .normal (f.put ol.dst v) w'):(Code.region id ops true).wp P Q a w:=by
 subst q;subst A;refine wp_region_any hm ?_;have H:∀o vals w,l[n]? =some o->hU w->(∀j,j<n->dead j=none->G j (vals j) w)->bn P (j4 l.toArray vals (ng n) a n).eval o w λ v w'=>Q .normal ((j4 l.toArray vals (ng n) a n).put o.dst v) w':=by
  intro o vals w d I J;rw[E] at d;injection d with d
  subst d;rw[Bn l vals a n n (r_ _) (by omega),<-m];exact F vals w I J _ rfl
 have b:∀k,ic (Zt l.toArray.size false) k=false:=λ k=>by
  unfold ic;rw[y_,Array.getElem?_replicate];split<;>rfl
 have e:a=j4 l.toArray (λ _=>undef) (ic (Zt l.toArray.size false)) a l.toArray.size:=by
  have:∀k,j4 l.toArray (λ _=>undef) (ic (Zt l.toArray.size false)) a k=a:=by
   intro k
   induction k with
   |zero=>rfl
   |succ k K=>
    simp only[j4];rw[b k,K];simp
  exact(this _).symm
 have p:=Ko (P:=P) (Q:=Q) (a:=a) (hU:=hU) (G:=G) (dead:=dead) (Init:=Init) (mQ:=mQ) r m n hlen s t z u y hold D H l.toArray.size (Zt l.toArray.size false) (λ _=>undef) w.drew (by simp)
  (by unfold p9;exact Z3 (ZO _ _) (by simp)) ?_ (b n) (λ j i c=>by rw[b j] at c;cases c) B (λ j c=>by rw[b j] at c;cases c) (λ _=>C)
 ·rw[<-e] at p;exact p
 ·rcases Zi (p9 l.toArray (Zt l.toArray.size false)) with g|g
  ·have:=yG (ops:=l.toArray) (listed:=Zt l.toArray.size false) (by simp) g n (by simp[hlen]);rw[b n] at this;cases this
  ·exact g
end
end Go.Proofs.YtogdlkfacflmaaaGreat
