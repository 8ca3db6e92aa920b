/- Parts of the walk of the solver and its core; no condition. -/
import Derived.WalkKit
import Derived.Below
import Derived.Laws.OwnMore
import Derived.Test.YtogdlkfacflmaaaGreatZW1
namespace Go.Proofs.YtogdlkfacflmaaaGreat
set_option linter.unusedVariables false
set_option linter.unusedSimpArgs false
open _root_.List renaming getD_eq_getElem?_getD→z_,take_append_of_le_length→x_,mem_singleton→w_,length_append→u_,mem_append→t_,length_take→s_,mem_iff_getElem→r_,take_length→q_,getElem?_eq_getElem→p_,length_pos_iff→o_,take_take→m_,length_singleton→l_,mem_cons→j_,getElem?_append_left→i_,getElem?_set→h_,nodup_append→g_,mem_map→f_,map_cons→e_,nodup_iff_pairwise_ne→d_,getElem_drop→c_,getElem_inj→b_,length_drop→a_,length_set→Zz,nodup_cons→Zy,countP_eq_length→Zx
open _root_.Or renaming inr→y_,inl→v_
open _root_.Nat renaming le_refl→n_,lt_or_ge→k_
open _root_.Decidable renaming em→Zw
variable{n k m:Nat}{l7 α:Type}{t:TypeId}{cs:List Value}{w':World}{x y:Int}{l:List Int}
section
open Go.RowKit
structure ax where
 A:Option Addr
 n:Nat
 c:Nat
def ax.v(h:ax):Value:=.slice h.A h.n h.c
def ax.b(h:ax):Option Nat:=h.A.map (·.block)
def sQ:ax:=⟨none,0,0⟩
theorem ax.own(h:ax):h.v.ownBlock=h.b:=by
 obtain⟨A,n,c⟩:=h
 cases A<;>rfl
theorem ax.lG{w:World}{base:Nat}{e:TypeId}{size:Nat}{v:Value}{xs:List Value}(h:w.ownsRow base e size v n xs):∃k:ax,v=k.v/\k.n=n:=by
 rcases h.2 with⟨rfl,rfl⟩|⟨g,cap,cur,rfl,_⟩
 ·exact⟨sQ,rfl,rfl⟩
 ·exact⟨⟨_,_,_⟩,rfl,rfl⟩
def iN{l7 α:Type}[DecidableEq l7](f:l7->α)(r:l7)(x:α):l7->α:=λ y=>if y=r then x else f y
theorem jG[DecidableEq l7](f:l7->α)(r:l7)(x:α):iN f r x r=x:=if_pos rfl
theorem bh[DecidableEq l7](f:l7->α){r y:l7}(x:α)(h:y≠r):iN f r x y=f y:=if_neg h
def aN(w:World)(b:Nat)(t:TypeId)(cs:List Value):Prop:=w.heap[b]? =some (.cells cs.toArray t (0,0))
theorem aN.lt{w:World}{b:Nat}(h:aN w b t cs):b<w.heap.size:=(Array.getElem?_eq_some_iff.1 h).1
theorem aN.cell{w:World}{b:Nat}(h:aN w b t cs)(k:Nat):w.cell? ⟨b,k,none⟩=cs[k]? :=by
 simp[World.cell?,show w.heap[b]? =_ from h]
theorem aN.free{w:World}{b:Nat}(h:aN w b t cs)(k:Nat):w.frozen? ⟨b,k,none⟩=false:=by
 simp[World.frozen?,show w.heap[b]? =_ from h]
theorem aN.kept{w:World}{b:Nat}{row:Option Nat}(h:aN w b t cs)(c:w.grownBy w' row)(d:some b≠row):aN w' b t cs:=(c.block b h.lt d).trans h
theorem aN.below{w:World}{b:Nat}(h:aN w b t cs)(c:Below w.heap.size w w'):aN w' b t cs:=(c.block b h.lt).trans h
theorem aN.new(w:World)(t:TypeId)(cs:List Value):aN (w.alloc (.cells cs.toArray t)) w.heap.size t cs:=heap_alloc_new w _
theorem aN.set{w:World}{b:Nat}{t:TypeId}{cs:List Value}(h:aN w b t cs)(k:Nat)(v:Value):aN (w.setCell ⟨b,k,none⟩ v) b t (cs.set k v):=by
 unfold aN at*;have:=heap_setCell_same w b k cs.toArray t v h;rw[this];simp
theorem kZ(w:World)(b k:Nat)(v:Value):w.grownBy (w.setCell ⟨b,k,none⟩ v) (some b):=
 ⟨rfl,rfl,rfl,by simp[World.setCell],λ j d c=>Below.heap_setCell _ _ _ _ (λ e=>c (by rw[e]))⟩
structure mc{l7:Type}(base:Nat)(ty:l7->TypeId)(nY:l7->Nat)(w:World)(hs:l7->ax)(X:l7->List Value):Prop where
 row:∀r,w.ownsRow base (ty r) (nY r) (hs r).v (hs r).n (X r)
 apart:∀r r' g,r≠r'->(hs r).b=some g->(hs r').b≠some g
section
variable {l7:Type}{base:Nat}{ty:l7->TypeId}{nY:l7->Nat}{w w':World}{hs:l7->ax}{X:l7->List Value}
theorem mc.kept{row:Option Nat}(h:mc base ty nY w hs X)(c:w.grownBy w' row)(d:∀r g,(hs r).b=some g->row≠some g):mc base ty nY w' hs X:=by
 refine⟨λ r=>(h.row r).kept c ?_,h.apart⟩;rw[ax.own]
 cases f:(hs r).b with
 |none=>exact v_ rfl
 |some g=>exact y_ λ e=>d r g f e.symm
theorem mc.below(h:mc base ty nY w hs X)(c:Below w.heap.size w w'):mc base ty nY w' hs X:=
 ⟨λ r=>(h.row r).kept ⟨c.os,c.tape,c.output,c.size,λ k hk _=>c.block k hk⟩ (by
  rw[ax.own];exact Or.imp id (λ(h:(hs r).b≠none)=>h) (Zw ((hs r).b=none))),h.apart⟩
theorem mc.len(h:mc base ty nY w hs X)(r:l7):(X r).length=(hs r).n*nY r:=(h.row r).1
theorem mc.lt(h:mc base ty nY w hs X){r:l7}{g:Nat}(c:(hs r).b=some g):base<=g/\g<w.heap.size:=(h.row r).lt g (by rw[ax.own];exact c)
theorem mc.addr(h:mc base ty nY w hs X){r:l7}(c:(hs r).n≠0):∃g,(hs r).A=some ⟨g,0,none⟩/\(hs r).b=some g:=by
 rcases(h.row r).2 with⟨_,d⟩|⟨g,cap,cur,e,_⟩
 ·exact absurd d c
 ·have:(hs r).A=some ⟨g,0,none⟩:=by
   have:=e;unfold ax.v at this;injection this
  exact⟨g,this,by unfold ax.b;rw[this];rfl⟩
theorem mc.form(h:mc base ty nY w hs X){r:l7}{g:Nat}(d:(hs r).b=some g):(hs r).A=some ⟨g,0,none⟩/\w.ownsRow base (ty r) (nY r) (.slice (some ⟨g,0,none⟩) (hs r).n (hs r).c) (hs r).n (X r):=by
 have f:=h.row r;rcases f.2 with⟨h1,_⟩|⟨j,cap,cur,i,_⟩
 ·unfold ax.v at h1;injection h1 with h1
  unfold ax.b at d;rw[h1] at d;cases d
 ·unfold ax.v at i;injection i with h1 e k
  have:j=g:=by
   unfold ax.b at d;rw[h1] at d;injection d
  subst this;refine⟨h1,?_⟩;have e:=f;unfold ax.v at e;rw[h1] at e;exact e
theorem mc.cell(h:mc base ty nY w hs X){r:l7}{g:Nat}(c:(hs r).b=some g){k:Nat}(hk:k<(hs r).n*nY r):w.cell? ⟨g,k,none⟩=(X r)[k]? :=(h.form c).2.cellAt k hk
theorem mc.free(h:mc base ty nY w hs X){r:l7}{g:Nat}(c:(hs r).b=some g)(k:Nat):w.frozen? ⟨g,k,none⟩=false:=(h.form c).2.frozenAt k
theorem mc.CN(h:mc base ty nY w hs X){b:Nat}{t:TypeId}{cs:List Value}(f:aN w b t cs)(i:∀r,ty r≠t)(r:l7)(g:Nat)(j:(hs r).b=some g):some b≠some g:=by
 intro e;injection e with e
 subst e;rcases((h.form j).2).2 with⟨h1,_⟩|⟨l,cap,cur,c,_,d,_⟩
 ·cases h1
 ·injection c with c
  injection c with c
  injection c with c
  subst c;rw[show w.heap[b]? =_ from f] at d;injection d with d
  injection d with _ k
  exact i r k.symm
variable [DecidableEq l7]
theorem mc.set(h:mc base ty nY w hs X){r:l7}{g:Nat}(c:(hs r).b=some g)(k:Nat)(v:Value):mc base ty nY (w.setCell ⟨g,k,none⟩ v) hs (iN X r ((X r).set k v)):=by
 refine⟨λ r'=>?_,h.apart⟩
 by_cases e:r'=r
 ·subst e;rw[jG];have:=(h.form c).2.stored k v;unfold ax.v;rw[(h.form c).1];exact this.1
 ·rw[bh _ _ e];refine(h.row r').kept (kZ w g k v) ?_;rw[ax.own];exact y_ λ d=>h.apart r r' g (λ f=>e f.symm) c d
theorem mc.iT(h:mc base ty nY w hs X){r:l7}{h':ax}{ys:List Value}(m:w.grownBy w' (hs r).b)(o:w'.ownsRow base (ty r) (nY r) h'.v h'.n ys)(c:h'.b=(hs r).b\/∀g,h'.b=some g->w.heap.size<=g):
  mc base ty nY w' (iN hs r h') (iN X r ys):=by
 refine⟨λ r'=>?_,λ f i g k h1=>?_⟩
 ·by_cases e:r'=r
  ·subst e;rw[jG,jG];exact o
  ·rw[bh _ _ e,bh _ _ e];refine(h.row r').kept m ?_;rw[ax.own]
   cases p:(hs r').b with
   |none=>exact v_ rfl
   |some g=>exact y_ λ d=>h.apart r' r g e p d.symm
 ·by_cases l:f=r
  ·subst l;have d:i≠f:=λ e=>k e.symm
   rw[jG] at h1;rw[bh _ _ d];rcases c with c|c
   ·rw[c] at h1;exact h.apart f i g k h1
   ·intro j;have:=c g h1;have:=(h.lt j).2;omega
  ·rw[bh _ _ l] at h1
   by_cases d:i=r
   ·subst d;rw[jG];intro j;rcases c with c|c
    ·rw[c] at j;exact h.apart f i g k h1 j
    ·have:=c g j;have:=(h.lt h1).2;omega
   ·rw[bh _ _ d];exact h.apart f i g k h1
theorem Jo{e:TypeId}{size:Nat}{g n cap k:Nat}{xs:List Value}(h:w.ownsRow base e size (.slice (some ⟨g,0,none⟩) n cap) n xs)(hk:k<=n):w.ownsRow base e size (.slice (some ⟨g,0,none⟩) k cap) k (xs.take (k*size)):=by
 rcases h.2 with⟨h1,_⟩|⟨m,o,cur,c,h1,d,p,f,i,j⟩
 ·cases h1
 ·injection c with b _ l
  injection b with b
  injection b with b
  subst b;subst l;have hle:k*size<=n*size:=Nat.mul_le_mul_right _ hk;refine⟨by rw[s_,h.1];omega,.inr ⟨_,_,cur,rfl,h1,d,by omega,f,i,?_⟩⟩;rw[<-j,m_]
  congr 1
  omega
theorem mc.cut(h:mc base ty nY w hs X){r:l7}{g:Nat}(d:(hs r).b=some g){k:Nat}(hk:k<=(hs r).n):mc base ty nY w (iN hs r ⟨(hs r).A,k,(hs r).c⟩) (iN X r ((X r).take (k*nY r))):=by
 refine h.iT ⟨rfl,rfl,rfl,n_ _,λ _ _ _=>rfl⟩ ?_ (v_ rfl);unfold ax.v;rw[(h.form d).1];exact Jo (h.form d).2 hk
end
end
section
def aG(x:Int):Nat:=x.natAbs
theorem oN(x:Int):aG (-x)=aG x:=Int.natAbs_neg x
theorem CO(h:aG x=aG y):x=y\/x= -y:=Int.natAbs_eq_natAbs_iff.1 h
def jE(x:Int):Nat:=if x<0 then 2*x.natAbs+1 else 2*x.natAbs
theorem vA(h:jE x=jE y):x=y:=by
 unfold jE at h;split at h<;>split at h<;>omega
def gW(n:Nat)(x:Int):Prop:=1<=aG x/\aG x<=n
theorem gW.neg(h:gW n x):gW n (-x):=by unfold gW at*;rw[oN];exact h
theorem gW.oE(h:gW n x):x≠0:=by rintro rfl;have:=h.1;simp[aG] at this
theorem gW.at(h:gW n x):jE x<2*n+2:=by unfold jE;unfold gW aG at h;split<;>omega
def Mod(M:Int->Bool):Prop:=∀x,x≠0->M (-x)= !(M x)
def sR(M:Int->Bool)(l:List Int):Prop:=∃x∈l,M x=true
def tS(M:Int->Bool)(F:List (List Int)):Prop:=Mod M/\∀l∈F,sR M l
def rD(F:List (List Int))(l:List Int):Prop:=∀M,tS M F->sR M l
def Unsat(F:List (List Int)):Prop:=∀M,¬tS M F
structure oF(n:Nat)(l:List Int):Prop where
 ne:l≠ []
 lt:∀x∈l,gW n x
 ng:l.Nodup
 bE:∀x∈l,¬-x∈l
def ve(l:List Int):Prop:=∃x∈l,x≠0/\ -x∈l
theorem ve.Jp{M:Int->Bool}(b:Mod M){l:List Int}(h:ve l):sR M l:=by
 obtain⟨x,c,d,e⟩:=h
 cases hm:M x with
 |true=>exact⟨x,c,hm⟩
 |false=>exact⟨-x,e,by rw[b x d,hm];rfl⟩
structure Core where
 n:Nat
 wt:List (List Nat)
 val:List Int
 lvl:List Nat
 j6:List (Option Nat)
 ay:List Int
 st:List Nat
 ag:Nat
 kS:Bool
 cl:List (List Int)
def aj(l:List Int)(k:Nat):Int:=l.getD k 0
def gV(l:List Nat)(k:Nat):Nat:=l.getD k 0
def az{α:Type}(l:List (List α))(k:Nat):List α:=l.getD k []
def mo(l:List (Option Nat))(k:Nat):Option Nat:=l.getD k none
theorem nh(h:k<l.length):aj l k=l[k]:=by simp[aj,z_,p_ h]
theorem vf{l:List Nat}(h:k<l.length):gV l k=l[k]:=by simp[gV,z_,p_ h]
theorem EP{l:List (List α)}(h:k<l.length):az l k=l[k]:=by simp[az,z_,p_ h]
theorem ER{l:List (Option Nat)}(h:k<l.length):mo l k=l[k]:=by simp[mo,z_,p_ h]
theorem lZ(h:k<l.length):aj l k∈l:=by rw[nh h];exact List.getElem_mem h
theorem oO(l:List Int)(k j:Nat)(x:Int):aj (l.set k x) j=if k=j/\k<l.length then x else aj l j:=by
 simp only[aj,z_,h_]
 by_cases h:k=j
 ·subst h
  by_cases b:k<l.length
  ·simp[b]
  ·simp[b]
 ·simp[h]
theorem Jq(l:List Nat)(k j:Nat)(x:Nat):gV (l.set k x) j=if k=j/\k<l.length then x else gV l j:=by
 simp only[gV,z_,h_]
 by_cases h:k=j
 ·subst h
  by_cases b:k<l.length
  ·simp[b]
  ·simp[b]
 ·simp[h]
theorem qw(l:List (List α))(k j:Nat)(x:List α):az (l.set k x) j=if k=j/\k<l.length then x else az l j:=by
 simp only[az,z_,h_]
 by_cases h:k=j
 ·subst h
  by_cases b:k<l.length
  ·simp[b]
  ·simp[b]
 ·simp[h]
theorem wu(l:List (Option Nat))(k j:Nat)(x:Option Nat):mo (l.set k x) j=if k=j/\k<l.length then x else mo l j:=by
 simp only[mo,z_,h_]
 by_cases h:k=j
 ·subst h
  by_cases b:k<l.length
  ·simp[b]
  ·simp[b]
 ·simp[h]
theorem tw{a b:List Int}(h:k<a.length):aj (a++b) k=aj a k:=by
 simp only[aj,z_,i_ h]
theorem xG(a:List Int)(x:Int):aj (a++[x]) a.length=x:=by simp[aj,z_]
theorem xH{a b:List Nat}(h:k<a.length):gV (a++b) k=gV a k:=by
 simp only[gV,z_,i_ h]
theorem xI(a:List Nat)(x:Nat):gV (a++[x]) a.length=x:=by simp[gV,z_]
theorem AX{a b:List (List α)}(h:k<a.length):az (a++b) k=az a k:=by
 simp only[az,z_,i_ h]
theorem uI(a:List (List α))(x:List α):az (a++[x]) a.length=x:=by simp[az,z_]
theorem wv(h:k<m):aj (l.take m) k=aj l k:=by
 simp only[aj,z_,List.getElem?_take,if_pos h]
theorem uJ{l:List Nat}(h:k<m):gV (l.take m) k=gV l k:=by
 simp only[gV,z_,List.getElem?_take,if_pos h]
theorem pG:x∈l.take m↔∃k,k<m/\k<l.length/\aj l k=x:=by
 constructor
 ·intro h;obtain⟨k,hk,e⟩:=r_.1 h;rw[s_] at hk;refine⟨k,by omega,by omega,?_⟩;rw[List.getElem_take] at e;rw[nh (by omega),e]
 ·rintro⟨k,h1,b,rfl⟩;rw[nh b];exact List.mem_take_iff_getElem.2 ⟨k,by omega,rfl⟩
theorem qb:x∈l↔∃k,k<l.length/\aj l k=x:=by
 have:=pG (l:=l) (m:=l.length) (x:=x);rw[q_] at this;rw[this];exact⟨λ⟨k,_,h⟩=>⟨k,h⟩,λ⟨k,h⟩=>⟨k,h.1,h⟩⟩
def jW(c:Core)(x:Int):Int:=if x<0 then-(aj c.val (aG x)) else aj c.val (aG x)
def lD(st:List Nat)(i:Nat):Nat:=st.countP (·<=i)
def bg(c:Core)(x:Int):Nat:=gV c.lvl (aG x)
def wz(T l:List Int):Prop:=(∃x∈l,x∈T)\/∃x∈l,∃y∈l,x≠y/\¬-x∈T/\¬-y∈T
def w0(c:Core)(i:Nat):Int:=aj (az c.cl i) 0
def w1(c:Core)(i:Nat):Int:=aj (az c.cl i) 1
structure jT(c:Core):Prop where
 rE:c.val.length=c.n+1
 o7:c.lvl.length=c.n+1
 pH:c.j6.length=c.n+1
 lit:∀x∈c.ay,gW c.n x
 ng:(c.ay.map aG).Nodup
 tT:∀v,aj c.val v=0\/aj c.val v=1\/aj c.val v= -1
 pos:∀x,gW c.n x->(jW c x=1↔x∈c.ay)
 q3:∀j k,j<=k->k<c.st.length->gV c.st j<=gV c.st k
 ov:∀k,k<c.st.length->gV c.st k<=c.ay.length
 mq:∀i,i<c.ay.length->bg c (aj c.ay i)=lD c.st i
 pV:∀i,i<c.ay.length->match mo c.j6 (aG (aj c.ay i)) with
  |none=>∃k,k<c.st.length/\gV c.st k=i
  |some d=>d<c.cl.length/\aj c.ay i∈az c.cl d/\∀x∈az c.cl d,x≠aj c.ay i-> -x∈c.ay.take i
theorem Jr{c:Core}(h:gW n x):jW c (-x)= -(jW c x):=by
 unfold jW;rw[oN];have:=h.oE
 by_cases h1:x<0
 ·rw[if_pos h1,if_neg (by omega)];omega
 ·rw[if_neg h1,if_pos (by omega)]
theorem jT.range{c:Core}(h:jT c)(x:Int):jW c x=0\/jW c x=1\/jW c x= -1:=by
 unfold jW;have:=h.tT (aG x);split<;>omega
theorem jT.xJ{c:Core}(h:jT c){x:Int}(b:gW c.n x):jW c x= -1↔-x∈c.ay:=by
 rw[<-h.pos _ b.neg,Jr b];omega
theorem jT.open{c:Core}(h:jT c){x:Int}(b:gW c.n x):jW c x=0↔¬x∈c.ay/\¬-x∈c.ay:=by
 rw[<-h.pos _ b,<-h.xJ b];have:=h.range x;omega
theorem jT.place{c:Core}(h:jT c){i j:Nat}(b:i<c.ay.length)(d:j<c.ay.length)(e:aG (aj c.ay i)=aG (aj c.ay j)):i=j:=by
 have f:=h.ng;rw[nh b,nh d] at e;have:=b_ (xs:=c.ay.map aG) (i:=i) (j:=j) (h₀:=by simpa using b) (h₁:=by simpa using d) f;simp only[List.getElem_map] at this;exact this.1 e
theorem jT.apart{c:Core}(h:jT c){x:Int}(b:x∈c.ay):¬-x∈c.ay:=by
 intro d;obtain⟨i,e,f⟩:=qb.1 b;obtain⟨j,g,k⟩:=qb.1 d;have:=h.place e g (by rw[f,k,oN]);subst this;have:=(h.lit x b).oE;omega
theorem CP{st:List Nat}{i j:Nat}(h:i<=j):lD st i<=lD st j:=by
 unfold lD;exact List.countP_mono_left λ x _ b=>by simp at b⊢;omega
theorem wA(st:List Nat)(i:Nat):lD st i<=st.length:=List.countP_le_length
theorem tU{c:Core}(h:jT c){i k:Nat}(hk:k<c.st.length):k<lD c.st i↔gV c.st k<=i:=by
 have hm:=h.q3;unfold lD;generalize c.st=st at*;clear h
 induction st generalizing k with
 |nil=>simp at hk
 |cons a r m=>
  rw[List.countP_cons]
  by_cases d:a<=i
  ·have f:(decide (a<=i))=true:=by simpa using d
   rw[f,if_pos rfl]
   cases k with
   |zero=>simp[gV,d]
   |succ k=>
    have:=m (k:=k) (by simpa using hk) (λ j n t o=>by have:=hm (j+1) (n+1) (by omega) (by simpa using o);simpa[gV] using this);have e:gV (a::r) (k+1)=gV r k:=by simp[gV]
    rw[e];exact⟨λ h=>this.1 (by omega),λ h=>by have:=this.2 h;omega⟩
  ·have f:(decide (a<=i))=false:=by simpa using d
   rw[f];simp only[Bool.false_eq_true,if_false,Nat.add_zero];have p:r.countP (λ x=>decide (x<=i))=0:=by
    rw[List.countP_eq_zero];intro b q;obtain⟨j,l,e⟩:=r_.1 q;have:=hm 0 (j+1) (by omega) (by simpa using l);have s:gV (a::r) (j+1)=b:=by rw[vf (by simpa using l)];simpa using e
    rw[s] at this;have g:gV (a::r) 0=a:=by simp[gV]
    rw[g] at this;simp;omega
   rw[p];have:=hm 0 k (by omega) hk;have g:gV (a::r) 0=a:=by simp[gV]
   rw[g] at this;omega
theorem sr(h:x∈l.take m):x∈l:=List.mem_of_mem_take h
theorem CQ(h:x∈l.take m)(hk:m<=k):x∈l.take k:=by
 rw[pG] at h⊢;obtain⟨j,h1,b⟩:=h;exact⟨j,by omega,b⟩
end
section
structure rF(F Fd:List (List Int))(c:Core):Prop where
 mB:∀d,d<c.cl.length->oF c.n (az c.cl d)
 imp:∀d,d<c.cl.length->rD F (az c.cl d)
 tA:∀g∈Fd,c.kS=true\/ve g\/(∃i,i<c.ay.length/\aj c.ay i∈g/\lD c.st i=0)\/∃d,d<c.cl.length/\∀x,x∈az c.cl d↔x∈g
 tB:c.kS=true->Unsat F
 tC:c.kS=true\/∀d,d<c.cl.length->(az c.cl d).length=1->∃i,i<c.ay.length/\aj c.ay i=w0 c d/\lD c.st i=0
structure yq(c:Core):Prop where
 qM:c.wt.length=2*c.n+2
 qN:∀k d,d∈az c.wt k->d<c.cl.length/\2<=(az c.cl d).length/\(k=jE (-(w0 c d))\/k=jE (-(w1 c d)))
 sS:∀k,(az c.wt k).Nodup
 uK:∀d,d<c.cl.length->2<=(az c.cl d).length->d∈az c.wt (jE (-(w0 c d)))/\d∈az c.wt (jE (-(w1 c d)))
def wB(c:Core)(d:Nat)(a b:Int):Prop:=(a=w0 c d/\b=w1 c d)\/(a=w1 c d/\b=w0 c d)
def Js(c:Core)(h:Nat)(P:List Nat):Prop:=∀d,d<c.cl.length->2<=(az c.cl d).length->∀a b,wB c d a b-> -a∈c.ay.take h->(d∈P/\aj c.ay (h-1)= -a)\/(b∈c.ay/\bg c b<=bg c a)
def CR(c:Core):Prop:=∀k,k<c.st.length->∀d,d<c.cl.length->wz (c.ay.take (gV c.st k)) (az c.cl d)
structure j7(F Fd:List (List Int))(c:Core)(h:Nat)(P:List Nat):Prop where
 aL:jT c
 jF:rF F Fd c
 wt:yq c
 rG:Js c h P
 rH:CR c
 cur:∀k,k<c.st.length->gV c.st k<=h
 hle:h<=c.ay.length
def vC(x:Int):Int:=if x<0 then-1 else 1
def k6(c:Core)(x:Int)(w:Option Nat):Core:={c with val:=c.val.set (aG x) (vC x),lvl:=c.lvl.set (aG x) c.st.length,j6:=c.j6.set (aG x) w,ay:=c.ay++[x]}
def ES(c:Core)(x:Int):Option Nat->Prop
 |none=>∃k,k<c.st.length/\gV c.st k=c.ay.length
 |some d=>d<c.cl.length/\x∈az c.cl d/\∀y∈az c.cl d,y≠x-> -y∈c.ay
section
variable {c:Core}{x:Int}{w:Option Nat}
theorem Jt(h:jT c)(d:gW c.n x)(y:Int)(f:gW c.n y):jW (k6 c x w) y=if y=x then 1 else if y= -x then-1 else jW c y:=by
 have hl:aG x<c.val.length:=by rw[h.rE];have:=d.2;omega
 have i:=d.oE;have j:=f.oE;unfold jW k6;simp only[oO]
 by_cases e:y=x
 ·subst e;rw[if_pos rfl];simp only[hl,and_self,if_true];unfold vC
  by_cases h1:y<0<;>simp[h1]
 ·rw[if_neg e]
  by_cases b:y= -x
  ·subst b;rw[if_pos rfl,oN];simp only[hl,and_self,if_true];unfold vC
   by_cases h1:x<0
   ·rw[if_neg (by omega),if_pos h1]
   ·rw[if_pos (by omega),if_neg h1]
  ·rw[if_neg b];have:¬(aG x=aG y/\aG x<c.val.length):=λ g=>by
    rcases CO g.1 with h1|h1
    ·exact e h1.symm
    ·exact b (by omega)
   rw[if_neg this]
theorem vD{y:Int}(h:jT c)(d:gW c.n x)(f:jW c x=0)(b:y∈c.ay):aG y≠aG x:=by
 intro e;obtain⟨h1,g⟩:=(h.open d).1 f;rcases CO e with e|e
 ·exact h1 (e▸b)
 ·exact g (e▸b)
theorem AY(h:jT c)(b:gW c.n x)(y:Int):bg (k6 c x w) y=if aG y=aG x then c.st.length else bg c y:=by
 have hl:aG x<c.lvl.length:=by rw[h.o7];have:=b.2;omega
 unfold bg k6;simp only[Jq]
 by_cases e:aG y=aG x
 ·rw[if_pos e,if_pos ⟨e.symm,hl⟩]
 ·rw[if_neg e,if_neg λ d=>e d.1.symm]
theorem jT.set(h:jT c)(f:gW c.n x)(l:jW c x=0)(hw:ES c x w):jT (k6 c x w):=by
 have D:aG x<c.val.length:=by rw[h.rE];have:=f.2;omega
 have t:aG x<c.j6.length:=by rw[h.pH];have:=f.2;omega
 obtain⟨E,u⟩:=(h.open f).1 l;have g:(k6 c x w).ay=c.ay++[x]:=rfl;have m:(k6 c x w).st=c.st:=rfl;have z:(k6 c x w).cl=c.cl:=rfl;have F:(k6 c x w).n=c.n:=rfl;refine⟨by simp[k6,h.rE],by simp[k6,h.o7],by simp[k6,h.pH],?_,?_,?_,?_,h.q3,?_,?_,?_⟩
 ·intro y j;rw[g] at j;rcases t_.1 j with h1|h1
  ·exact h.lit y h1
  ·rw[w_.1 h1];exact f
 ·rw[g,List.map_append,g_];refine⟨h.ng,by simp,λ a o b r e=>?_⟩;obtain⟨y,j,rfl⟩:=f_.1 o;simp only[e_,List.map_nil,w_] at r;rw[r] at e;exact vD h f l j e
 ·intro v;show aj (c.val.set (aG x) (vC x)) v=0\/_;simp only[k6,oO]
  by_cases e:aG x=v/\aG x<c.val.length
  ·rw[if_pos e];unfold vC;split<;>omega
  ·rw[if_neg e];exact h.tT v
 ·intro y j;have s:gW c.n y:=j;rw[Jt h f y s,g,t_,w_]
  by_cases e:y=x
  ·simp[e]
  ·rw[if_neg e]
   by_cases p:y= -x
   ·rw[if_pos p];constructor
    ·intro h1;omega
    ·rintro(h1|h1)
     ·exact absurd (p▸h1) u
     ·exact absurd h1 e
   ·rw[if_neg p,h.pos y s];constructor
    ·exact v_
    ·rintro(h1|h1)
     ·exact h1
     ·exact absurd h1 e
 ·intro k hk;have:=h.ov k hk;rw[m,g,u_];simp;omega
 ·intro i q;rw[g,u_,l_] at q;rw[g,m,AY h f]
  by_cases e:i<c.ay.length
  ·rw[tw e,if_neg (vD h f l (lZ e))];exact h.mq i e
  ·obtain rfl:i=c.ay.length:=by omega
   rw[xG,if_pos rfl];have:lD c.st c.ay.length=c.st.length:=by
    unfold lD;rw[Zx];intro a o;obtain⟨k,hk,e⟩:=r_.1 o;have:=h.ov k hk;rw[vf hk,e] at this;simpa using this
   exact this.symm
 ·intro i q;rw[g,u_,l_] at q;have A:(k6 c x w).j6=c.j6.set (aG x) w:=rfl;rw[g,m,z,A]
  by_cases e:i<c.ay.length
  ·have B:=vD h f l (lZ e);rw[tw e,wu,if_neg (λ C=>B C.1.symm),x_ (by omega)];exact h.pV i e
  ·obtain rfl:i=c.ay.length:=by omega
   rw[xG,wu,if_pos ⟨rfl,t⟩,x_ (n_ _),q_]
   cases w with
   |none=>exact hw
   |some d=>exact hw
theorem rF.set{F Fd:List (List Int)}(h:rF F Fd c):rF F Fd (k6 c x w):=by
 refine⟨h.mB,h.imp,λ g j=>(h.tA g j).imp id (Or.imp id (Or.imp ?_ id)),h.tB,h.tC.imp id λ h1 d k hl=>?_⟩
 ·rintro⟨i,b,e,f⟩;refine⟨i,?_,?_,f⟩
  ·show i<(c.ay++[x]).length;rw[u_];omega
  ·show aj (c.ay++[x]) i∈g;rw[tw b];exact e
 obtain⟨i,b,e,f⟩:=h1 d k hl;refine⟨i,?_,?_,f⟩
 ·show i<(c.ay++[x]).length;rw[u_];omega
 ·show aj (c.ay++[x]) i=w0 c d;rw[tw b,e]
theorem j7.set{F Fd:List (List Int)}{h:Nat}{P:List Nat}(L:j7 F Fd c h P)(e:gW c.n x)(g:jW c x=0)(hw:ES c x w):j7 F Fd (k6 c x w) h P:=by
 have i:(k6 c x w).ay=c.ay++[x]:=rfl;refine⟨L.aL.set e g hw,L.jF.set,⟨L.wt.qM,L.wt.qN,L.wt.sS,L.wt.uK⟩,?_,?_,L.cur,?_⟩
 ·intro d j hl a b l f;rw[i,x_ L.hle] at f;have p:h≠0:=by rintro rfl;simp at f
  rw[i,tw (by have:=L.hle;omega),AY L.aL e,AY L.aL e,t_];have m:aG a≠aG x:=by
   have:=vD L.aL e g (sr f)
   rwa[oN] at this
  rw[if_neg m];rcases L.rG d j hl a b l f with h1|⟨h1,o⟩
  ·exact v_ h1
  ·rw[if_neg (vD L.aL e g h1)];exact y_ ⟨v_ h1,o⟩
 ·intro k hk d j;have:=L.rH k hk d j;show wz ((c.ay++[x]).take (gV c.st k)) (az c.cl d);rw[x_ (L.aL.ov k hk)];exact this
 ·rw[i,u_];have:=L.hle;omega
end
def zero(v:List Int)(xs:List Int):List Int:=xs.foldl (λ v x=>v.set (aG x) 0) v
def sU(v:List (Option Nat))(xs:List Int):List (Option Nat):=xs.foldl (λ v x=>v.set (aG x) none) v
theorem CS(v:List Int):∀xs,(zero v xs).length=v.length
 |[]=>rfl
 |x::xs=>by
  show(zero (v.set (aG x) 0) xs).length=_;rw[CS _ xs,Zz]
theorem CT(v:List (Option Nat)):∀xs,(sU v xs).length=v.length
 |[]=>rfl
 |x::xs=>by
  show(sU (v.set (aG x) none) xs).length=_;rw[CT _ xs,Zz]
theorem yt:∀(xs:List Int)(v:List Int)(k:Nat),aj (zero v xs) k=if k∈xs.map aG then 0 else aj v k
 |[],v,k=>rfl
 |x::xs,v,k=>by
  show aj (zero (v.set (aG x) 0) xs) k=_;rw[yt xs,oO]
  by_cases h1:k∈xs.map aG
  ·rw[if_pos h1,if_pos (by simp[e_];right;simpa using h1)]
  ·rw[if_neg h1]
   by_cases b:aG x=k
   ·rw[if_pos (show k∈(x::xs).map aG by simp[b])]
    by_cases c:aG x<v.length
    ·rw[if_pos ⟨b,c⟩]
    ·rw[if_neg (λ d=>c d.2)];simp[aj,z_,<-b,List.getElem?_eq_none (Nat.le_of_not_lt c)]
   ·rw[if_neg (λ d=>b d.1),if_neg];simp only[e_,j_,not_or];exact⟨λ e=>b e.symm,h1⟩
theorem CU:∀(xs:List Int)(v:List (Option Nat))(k:Nat),¬k∈xs.map aG->mo (sU v xs) k=mo v k
 |[],v,k,_=>rfl
 |x::xs,v,k,h=>by
  simp only[e_,j_,not_or] at h;show mo (sU (v.set (aG x) none) xs) k=_;rw[CU xs _ k h.2,wu,if_neg (λ b=>h.1 b.1.symm)]
def mC(c:Core)(level:Nat):Core:=
 {c with val:=zero c.val (c.ay.drop (gV c.st level)),j6:=sU c.j6 (c.ay.drop (gV c.st level)),ay:=c.ay.take (gV c.st level),st:=c.st.take level,ag:=gV c.st level}
section
variable {c:Core}{level:Nat}
theorem ET{c:Core}{m:Nat}{x:Int}:x∈c.ay.drop m↔∃k,m<=k/\k<c.ay.length/\aj c.ay k=x:=by
 constructor
 ·intro h;obtain⟨k,hk,e⟩:=r_.1 h;rw[a_] at hk;refine⟨m+k,by omega,by omega,?_⟩;rw[c_] at e;rw[nh (by omega),e]
 ·rintro⟨k,h1,b,rfl⟩;rw[nh b];refine r_.2 ⟨k-m,by rw[a_];omega,?_⟩;rw[c_]
  congr 1
  omega
theorem jT.split(h:jT c){m:Nat}{x:Int}(b:x∈c.ay.take m):¬aG x∈(c.ay.drop m).map aG:=by
 intro d;obtain⟨y,f,e⟩:=f_.1 d;obtain⟨k,h1,g,rfl⟩:=ET.1 f;obtain⟨j,l,i,rfl⟩:=pG.1 b;have:=h.place g i e;omega
theorem CV(h:jT c)(hl:level<c.st.length){i:Nat}(d:i<gV c.st level):lD (c.st.take level) i=lD c.st i:=by
 unfold lD
 conv=>rhs;rw[<-List.take_append_drop level c.st]
 rw[List.countP_append];have f:(c.st.drop level).countP (λ x=>decide (x<=i))=0:=by
  rw[List.countP_eq_zero];intro a b;obtain⟨k,hk,e⟩:=r_.1 b;rw[a_] at hk;rw[c_] at e;have:=h.q3 level (level+k) (by omega) (by omega);rw[vf (show level+k<c.st.length by omega),e] at this;simp;omega
 omega
theorem jT.back(h:jT c)(hl:level<c.st.length):jT (mC c level):=by
 have w:=h.ov level hl;have d:(mC c level).ay=c.ay.take (gV c.st level):=rfl;have f:(mC c level).st=c.st.take level:=rfl;have hlen:(mC c level).ay.length=gV c.st level:=by rw[d,s_];omega
 have m:(mC c level).st.length=level:=by rw[f,s_];omega
 refine⟨by simp[mC,CS,h.rE],h.o7,by simp[mC,CT,h.pH],λ x g=>h.lit x (sr g),?_,?_,?_,?_,?_,?_,?_⟩
 ·rw[d,List.map_take];exact h.ng.sublist (List.take_sublist _ _)
 ·intro v;show aj (zero c.val _) v=0\/_;simp only[mC,yt]
  by_cases e:v∈(c.ay.drop (gV c.st level)).map aG
  ·rw[if_pos e];exact v_ rfl
  ·rw[if_neg e];exact h.tT v
 ·intro x g;have p:gW c.n x:=g;have q:(mC c level).val=zero c.val (c.ay.drop (gV c.st level)):=rfl;have key:jW (mC c level) x=if aG x∈(c.ay.drop (gV c.st level)).map aG then 0 else jW c x:=by
   unfold jW;rw[q,yt]
   by_cases e:aG x∈(c.ay.drop (gV c.st level)).map aG
   ·rw[if_pos e,if_pos e];split<;>rfl
   ·rw[if_neg e,if_neg e]
  rw[key,d]
  by_cases e:aG x∈(c.ay.drop (gV c.st level)).map aG
  ·rw[if_pos e];constructor
   ·intro h1;omega
   ·intro h1;exact absurd e (h.split h1)
  ·rw[if_neg e,h.pos x p];constructor
   ·intro h1;obtain⟨k,hk,o⟩:=qb.1 h1;refine pG.2 ⟨k,?_,hk,o⟩;rcases k_ k (gV c.st level) with l|l
    ·exact l
    ·exact absurd (f_.2 ⟨x,ET.2 ⟨k,l,hk,o⟩,rfl⟩) e
   ·exact sr
 ·intro j k r hk;rw[m] at hk;rw[f,uJ (by omega),uJ hk];exact h.q3 j k r (by omega)
 ·intro k hk;rw[m] at hk;rw[hlen,f,uJ hk];exact h.q3 k level (by omega) hl
 ·intro i b;rw[hlen] at b;rw[d,wv b,f,CV h hl b];exact h.mq i (by omega)
 ·intro i b;rw[hlen] at b;have s:(mC c level).j6=sU c.j6 (c.ay.drop (gV c.st level)):=rfl;have t:aj c.ay i∈c.ay.take (gV c.st level):=pG.2 ⟨i,b,by omega,rfl⟩;rw[d,wv b,f,s,CU _ _ _ (h.split t),m_,show min i (gV c.st level)=i by omega];have:=h.pV i (by omega);split at this
  ·obtain⟨k,hk,e⟩:=this;have u:k<level:=by
    rcases k_ k level with h1|h1
    ·exact h1
    ·have:=h.q3 level k h1 hk;omega
   exact⟨k,by rw[s_];omega,by rw[uJ u];exact e⟩
  ·exact this
theorem j7.back{F Fd:List (List Int)}{h:Nat}(L:j7 F Fd c h [])(hl:level<c.st.length):j7 F Fd (mC c level) (gV c.st level) []:=by
 have C:=L.aL.ov level hl;have n:(mC c level).ay=c.ay.take (gV c.st level):=rfl;have o:(mC c level).st=c.st.take level:=rfl;have hlen:(mC c level).ay.length=gV c.st level:=by rw[n,s_];omega
 have u:(mC c level).st.length=level:=by rw[o,s_];omega
 have v:∀i,lD c.st i=0->i<gV c.st level:=λ i l=>by
  rcases k_ i (gV c.st level) with f|f
  ·exact f
  ·have:=(tU L.aL (i:=i) hl).2 f;omega
 refine⟨L.aL.back hl,⟨L.jF.mB,L.jF.imp,λ g w=>(L.jF.tA g w).imp id (Or.imp id (Or.imp ?_ id)),L.jF.tB,?_⟩,⟨L.wt.qM,L.wt.qN,L.wt.sS,L.wt.uK⟩,?_,?_,?_,by rw[hlen];exact n_ _⟩
 ·rintro⟨i,y,q,l⟩;have m:=v i l;exact⟨i,by rw[hlen];exact m,by rw[n,wv m];exact q,by rw[o,CV L.aL hl m];exact l⟩
 ·refine L.jF.tC.imp id λ h1 d p r=>?_
  obtain⟨i,y,q,l⟩:=h1 d p r;have m:i<gV c.st level:=by
   rcases k_ i (gV c.st level) with f|f
   ·exact f
   ·have:=(tU L.aL (i:=i) hl).2 f;omega
  exact⟨i,by rw[hlen];exact m,by rw[n,wv m];exact q,by rw[o,CV L.aL hl m];exact l⟩
 ·intro d p r a b z s;rw[n,m_,Nat.min_self] at s;right;have A: -a∈c.ay.take h:=CQ s (L.cur level hl);rcases L.rG d p r a b z A with⟨h1,_⟩|⟨h1,f⟩
  ·cases h1
  ·refine⟨?_,f⟩;rw[n];obtain⟨j,D,B,e⟩:=pG.1 s;obtain⟨k,hk,l⟩:=qb.1 h1;have E:bg c a=lD c.st j:=by
    rw[<-L.aL.mq j B,e];unfold bg;rw[oN]
   have G:bg c b=lD c.st k:=by rw[<-L.aL.mq k hk,l]
   have H:¬level<lD c.st j:=λ t=>by have:=(tU L.aL (i:=j) hl).1 t;omega
   have I:¬gV c.st level<=k:=λ t=>by have:=(tU L.aL (i:=k) hl).2 t;omega
   exact pG.2 ⟨k,by omega,hk,l⟩
 ·intro k hk d p;rw[u] at hk;have:=L.rH k (by omega) d p;rw[n,o,uJ hk,m_,Nat.min_eq_left (L.aL.q3 k level (by omega) hl)];exact this
 ·intro k hk;rw[u] at hk;rw[o,uJ hk];exact L.aL.q3 k level (by omega) hl
end
end
section
section
variable {F Fd:List (List Int)}{c:Core}
theorem oF.w{n:Nat}{l:List Int}(h:oF n l)(c:2<=l.length):aj l 0∈l/\aj l 1∈l/\aj l 0≠aj l 1/\aj l 0≠-(aj l 1):=by
 have b:=lZ (l:=l) (k:=0) (by omega);have h1:=lZ (l:=l) (k:=1) (by omega);refine⟨b,h1,λ e=>?_,λ e=>h.bE _ h1 (e▸b)⟩;rw[nh (show 0<l.length by omega),nh (show 1<l.length by omega)] at e;have:=(b_ h.ng).1 e;omega
theorem EU(L:j7 F Fd c c.ay.length [])(k:c.kS=false):∀d,d<c.cl.length->wz c.ay (az c.cl d):=by
 intro d b;have g:=L.jF.mB d b;have l:0<(az c.cl d).length:=o_.2 g.ne
 by_cases j:2<=(az c.cl d).length
 ·obtain⟨m0,m1,m,_⟩:=g.w j;have f:=L.rG d b j;rw[show c.ay.take c.ay.length=c.ay from q_] at f
  by_cases f0: -(w0 c d)∈c.ay
  ·rcases f _ _ (v_ ⟨rfl,rfl⟩) f0 with⟨h,_⟩|⟨h,_⟩
   ·cases h
   ·exact v_ ⟨_,m1,h⟩
  ·by_cases f1: -(w1 c d)∈c.ay
   ·rcases f _ _ (y_ ⟨rfl,rfl⟩) f1 with⟨h,_⟩|⟨h,_⟩
    ·cases h
    ·exact v_ ⟨_,m0,h⟩
   ·exact y_ ⟨_,m0,_,m1,m,f0,f1⟩
 ·rcases L.jF.tC with h|h
  ·rw[k] at h;cases h
  ·obtain⟨i,n,e,_⟩:=h d b (by omega);exact v_ ⟨aj (az c.cl d) 0,lZ l,by rw[show aj (az c.cl d) 0=w0 c d from rfl,<-e];exact lZ n⟩
def nk(c:Core):Core:={c with st:=c.st++[c.ay.length]}
theorem CW(h:jT c){i:Nat}(b:i<c.ay.length):lD (c.st++[c.ay.length]) i=lD c.st i:=by
 unfold lD;rw[List.countP_append];simp;omega
theorem j7.level(L:j7 F Fd c c.ay.length [])(r:c.kS=false):j7 F Fd (nk c) c.ay.length []:=by
 have l:(nk c).st=c.st++[c.ay.length]:=rfl;have s:(nk c).ay=c.ay:=rfl;have T:=L.aL;have hlen:(nk c).st.length=c.st.length+1:=by rw[l];simp
 have f:∀k,k<c.st.length->gV (nk c).st k=gV c.st k:=λ k hk=>by rw[l,xH hk]
 have n:gV (nk c).st c.st.length=c.ay.length:=by rw[l,xI]
 refine⟨⟨T.rE,T.o7,T.pH,T.lit,T.ng,T.tT,T.pos,?_,?_,?_,?_⟩,⟨L.jF.mB,L.jF.imp,λ g t=>(L.jF.tA g t).imp id (Or.imp id (Or.imp (λ⟨i,b,p,m⟩=>⟨i,b,p,by rw[l,CW T b];exact m⟩) id)),L.jF.tB,?_⟩,⟨L.wt.qM,L.wt.qN,L.wt.sS,L.wt.uK⟩,L.rG,?_,?_,n_ _⟩
 ·intro j k u hk;rw[hlen] at hk
  by_cases e:k<c.st.length
  ·rw[f j (by omega),f k e];exact T.q3 j k u e
  ·obtain rfl:k=c.st.length:=by omega
   rw[n]
   by_cases m:j<c.st.length
   ·rw[f j m];exact T.ov j m
   ·obtain rfl:j=c.st.length:=by omega
    rw[n];exact n_ _
 ·intro k hk;rw[hlen] at hk
  by_cases e:k<c.st.length
  ·rw[f k e];exact T.ov k e
  ·obtain rfl:k=c.st.length:=by omega
   rw[n];exact n_ _
 ·intro i b;rw[l,CW T b];exact T.mq i b
 ·intro i b;have:=T.pV i b;show match mo c.j6 (aG (aj c.ay i)) with
   |none=>∃k,k<(nk c).st.length/\gV (nk c).st k=i
   |some d=>d<c.cl.length/\aj c.ay i∈az c.cl d/\∀x∈az c.cl d,x≠aj c.ay i-> -x∈c.ay.take i
  cases q:mo c.j6 (aG (aj c.ay i)) with
  |none=>
   rw[q] at this;obtain⟨k,hk,e⟩:=this;exact⟨k,by rw[hlen];omega,by rw[f k hk];exact e⟩
  |some d=>rw[q] at this;exact this
 ·refine L.jF.tC.imp id λ h1 d o hl=>?_
  obtain⟨i,b,p,m⟩:=h1 d o hl;exact⟨i,b,p,by rw[l,CW T b];exact m⟩
 ·intro k hk d o;rw[hlen] at hk;rw[s]
  by_cases e:k<c.st.length
  ·rw[f k e];exact L.rH k e d o
  ·obtain rfl:k=c.st.length:=by omega
   rw[n,q_];exact EU L r d o
 ·intro k hk;rw[hlen] at hk
  by_cases e:k<c.st.length
  ·rw[f k e];exact L.cur k e
  ·obtain rfl:k=c.st.length:=by omega
   rw[n];exact n_ _
theorem j7.decide(L:j7 F Fd c c.ay.length [])(b:c.kS=false){x:Int}(d:gW c.n x)(e:jW c x=0):j7 F Fd (k6 (nk c) x none) c.ay.length []:=by
 refine(L.level b).set (c:=nk c) d e ⟨c.st.length,?_,?_⟩
 ·show c.st.length<(c.st++[c.ay.length]).length;simp
 ·exact xI _ _
theorem yu(T:jT c)(D:rF F Fd c){M:Int->Bool}(b:tS M F):∀i,i<c.ay.length->lD c.st i=0->M (aj c.ay i)=true:=by
 intro i
 induction i using Nat.strongRecOn with
 |_ i l=>
  intro m hl;have:=T.pV i m;split at this
  ·obtain⟨k,hk,e⟩:=this;have:=(tU T (i:=i) hk).2 (by omega);omega
  ·rename_i d _;obtain⟨f,r,n⟩:=this;obtain⟨y,g,hm⟩:=D.imp d f M b
   by_cases e:y=aj c.ay i
   ·rw[<-e];exact hm
   ·obtain⟨j,o,p,q⟩:=pG.1 (n y g e);have h1:=l j o p (by have:=CP (st:=c.st) (i:=j) (j:=i) (by omega);omega);rw[q,b.1 y ((D.mB d f).lt y g).oE,hm] at h1
    cases h1
theorem Ju(T:jT c)(D:rF F Fd c)(l:c.st.length=0){d:Nat}(f:d<c.cl.length)(j:∀x∈az c.cl d,-x∈c.ay):Unsat F:=by
 intro M b;obtain⟨y,g,hm⟩:=D.imp d f M b;obtain⟨i,k,e⟩:=qb.1 (j y g);have h1:=yu T D b i k (by have:=wA c.st i;omega);rw[e,b.1 y ((D.mB d f).lt y g).oE,hm] at h1
 cases h1
def kL(l:List Int)(i j:Nat):List Int:=(l.set i (aj l j)).set j (aj l i)
theorem rW(l:List Int)(i j:Nat):(kL l i j).length=l.length:=by unfold kL;simp
theorem qx{l:List Int}{i j:Nat}(d:i<l.length)(e:j<l.length)(k:Nat):aj (kL l i j) k=if k=j then aj l i else if k=i then aj l j else aj l k:=by
 unfold kL;rw[oO,oO]
 by_cases h1:k=j
 ·subst h1;rw[if_pos ⟨rfl,by simpa using e⟩,if_pos rfl]
 ·rw[if_neg (λ b=>h1 b.1.symm),if_neg h1]
  by_cases c:k=i
  ·subst c;rw[if_pos ⟨rfl,d⟩,if_pos rfl]
  ·rw[if_neg (λ b=>c b.1.symm),if_neg c]
theorem wC{l:List Int}{i j:Nat}(b:i<l.length)(c:j<l.length)(x:Int):x∈kL l i j↔x∈l:=by
 rw[qb,qb,rW];constructor
 ·rintro⟨k,hk,e⟩;rw[qx b c] at e
  by_cases h1:k=j
  ·rw[if_pos h1] at e;exact⟨i,b,e⟩
  ·rw[if_neg h1] at e
   by_cases d:k=i
   ·rw[if_pos d] at e;exact⟨j,c,e⟩
   ·rw[if_neg d] at e;exact⟨k,hk,e⟩
 ·rintro⟨k,hk,e⟩
  by_cases h1:k=i
  ·refine⟨j,c,?_⟩;rw[qx b c,if_pos rfl,<-h1];exact e
  ·by_cases d:k=j
   ·refine⟨i,b,?_⟩;rw[qx b c]
    by_cases f:i=j
    ·exact absurd (d.trans f.symm) h1
    ·rw[if_neg f,if_pos rfl,<-d];exact e
   ·exact⟨k,hk,by rw[qx b c,if_neg d,if_neg h1];exact e⟩
theorem Jv{l:List Int}(h:∀i j,i<l.length->j<l.length->aj l i=aj l j->i=j):l.Nodup:=by
 rw[d_,List.pairwise_iff_getElem];intro i j b c d e;have:=h i j b c (by rw[nh b,nh c];exact e);omega
theorem uL{l:List Int}(h:l.Nodup){i j:Nat}(b:i<l.length)(c:j<l.length)(e:aj l i=aj l j):i=j:=by
 rw[nh b,nh c] at e;exact(b_ h).1 e
theorem EV{l:List Int}{i j:Nat}(f:i<l.length)(g:j<l.length)(h:l.Nodup):(kL l i j).Nodup:=by
 refine Jv λ a b k m e=>?_
 rw[rW] at k m;rw[qx f g,qx f g] at e
 by_cases a1:a=j
 ·rw[if_pos a1] at e
  by_cases c:b=j
  ·omega
  ·rw[if_neg c] at e
   by_cases d:b=i
   ·rw[if_pos d] at e;have:=uL h f g e;omega
   ·rw[if_neg d] at e;have:=uL h f m e;omega
 ·rw[if_neg a1] at e
  by_cases a2:a=i
  ·rw[if_pos a2] at e
   by_cases c:b=j
   ·rw[if_pos c] at e;have:=uL h g f e;omega
   ·rw[if_neg c] at e
    by_cases d:b=i
    ·omega
    ·rw[if_neg d] at e;have:=uL h g m e;omega
  ·rw[if_neg a2] at e
   by_cases c:b=j
   ·rw[if_pos c] at e;have:=uL h k f e;omega
   ·rw[if_neg c] at e
    by_cases d:b=i
    ·rw[if_pos d] at e;have:=uL h k g e;omega
    ·rw[if_neg d] at e;exact uL h k m e
theorem oF.swap{n:Nat}{l:List Int}{i j:Nat}(b:i<l.length)(c:j<l.length)(h:oF n l):oF n (kL l i j):=by
 refine⟨λ e=>?_,λ x d=>h.lt x ((wC b c x).1 d),EV b c h.ng,λ x d f=>h.bE x ((wC b c x).1 d) ((wC b c _).1 f)⟩;have:=rW l i j;rw[e] at this;simp at this;omega
def lK(c:Core)(d:Nat)(l:List Int):Core:={c with cl:=c.cl.set d l}
theorem tV(c:Core)(d e:Nat)(l:List Int):az (lK c d l).cl e=if d=e/\d<c.cl.length then l else az c.cl e:=qw _ _ _ _
theorem q4(c:Core)(d:Nat)(l:List Int):(lK c d l).cl.length=c.cl.length:=by simp[lK]
theorem jT.iT(h:jT c){d:Nat}{l:List Int}(hl:∀x,x∈l↔x∈az c.cl d):jT (lK c d l):=by
 refine⟨h.rE,h.o7,h.pH,h.lit,h.ng,h.tT,h.pos,h.q3,h.ov,h.mq,λ i f=>?_⟩;have:=h.pV i f;show match mo c.j6 (aG (aj c.ay i)) with
   |none=>∃k,k<c.st.length/\gV c.st k=i
   |some e=>e<(lK c d l).cl.length/\aj c.ay i∈az (lK c d l).cl e/\∀x∈az (lK c d l).cl e,x≠aj c.ay i-> -x∈c.ay.take i
 cases b:mo c.j6 (aG (aj c.ay i)) with
 |none=>rw[b] at this;exact this
 |some e=>
  rw[b] at this;show e<(lK c d l).cl.length/\aj c.ay i∈az (lK c d l).cl e/\∀x∈az (lK c d l).cl e,x≠aj c.ay i-> -x∈c.ay.take i;rw[q4,tV]
  by_cases h1:d=e/\d<c.cl.length
  ·rw[if_pos h1];obtain⟨rfl,_⟩:=h1;exact⟨this.1,(hl _).2 this.2.1,λ x g=>this.2.2 x ((hl x).1 g)⟩
  ·rw[if_neg h1];exact this
theorem rF.iT(h:rF F Fd c){d:Nat}{l:List Int}(hl:∀x,x∈l↔x∈az c.cl d)(m:d<c.cl.length->oF c.n l)(hlen:d<c.cl.length->l.length=(az c.cl d).length):rF F Fd (lK c d l):=by
 have f:∀e x,x∈az (lK c d l).cl e↔x∈az c.cl e:=λ e x=>by
  rw[tV]
  by_cases h1:d=e/\d<c.cl.length
  ·rw[if_pos h1];obtain⟨rfl,_⟩:=h1;exact hl x
  ·rw[if_neg h1]
 refine⟨λ e he=>?_,λ e he M o=>?_,λ g p=>?_,h.tB,h.tC.imp id λ h1 e he hle=>?_⟩
 ·rw[q4] at he;rw[tV]
  by_cases h1:d=e/\d<c.cl.length
  ·rw[if_pos h1];exact m h1.2
  ·rw[if_neg h1];exact h.mB e he
 ·rw[q4] at he;obtain⟨y,q,hm⟩:=h.imp e he M o;exact⟨y,(f e y).2 q,hm⟩
 ·rcases h.tA g p with h1|h1|h1|⟨e,he,h1⟩
  ·exact v_ h1
  ·exact y_ (v_ h1)
  ·exact y_ (y_ (v_ h1))
  ·exact y_ (y_ (y_ ⟨e,by rw[q4];exact he,λ x=>by rw[f];exact h1 x⟩))
 ·rw[q4] at he;have r:(az c.cl e).length=1:=by
   rw[tV] at hle
   by_cases j:d=e/\d<c.cl.length
   ·rw[if_pos j] at hle;obtain⟨rfl,b⟩:=j;rw[<-hlen b];exact hle
   ·rw[if_neg j] at hle;exact hle
  obtain⟨i,s,t,u⟩:=h1 e he r;refine⟨i,s,?_,u⟩;show aj c.ay i=w0 (lK c d l) e;rw[t];have b:w0 c e∈az (lK c d l).cl e:=(f e _).2 (lZ (by omega));have k:w0 (lK c d l) e∈az (lK c d l).cl e:=lZ (by omega);obtain⟨z,v⟩:=List.length_eq_one_iff.1 hle;rw[v,w_] at b k;rw[b,k]
theorem EW(h:CR c){d:Nat}{l:List Int}(hl:∀x,x∈l↔x∈az c.cl d):CR (lK c d l):=by
 intro k hk e he;rw[q4] at he;have:=h k hk e he;show wz (c.ay.take (gV c.st k)) (az (lK c d l).cl e);rw[tV]
 by_cases h1:d=e/\d<c.cl.length
 ·rw[if_pos h1];obtain⟨rfl,_⟩:=h1;rcases this with⟨x,b,f⟩|⟨x,b,y,g,f⟩
  ·exact v_ ⟨x,(hl x).2 b,f⟩
  ·exact y_ ⟨x,(hl x).2 b,y,(hl y).2 g,f⟩
 ·rw[if_neg h1];exact this
end
section
variable {F Fd:List (List Int)}{c:Core}{h:Nat}{P:List Nat}{d:Nat}
theorem Jw(c:Core)(e:Nat)(b:d<c.cl.length)(g:2<=(az c.cl d).length):(w0 (lK c d (kL (az c.cl d) 0 1)) e=if d=e then w1 c e else w0 c e)/\(w1 (lK c d (kL (az c.cl d) 0 1)) e=if d=e then w0 c e else w1 c e):=by
 unfold w0 w1;rw[tV]
 by_cases h1:d=e
 ·subst h1;rw[if_pos ⟨rfl,b⟩,if_pos rfl,if_pos rfl,qx (by omega) (by omega),qx (by omega) (by omega)];simp
 ·rw[if_neg (λ f=>h1 f.1),if_neg h1,if_neg h1];exact⟨rfl,rfl⟩
theorem j7.swap(L:j7 F Fd c h P)(g:d<c.cl.length)(n:2<=(az c.cl d).length):j7 F Fd (lK c d (kL (az c.cl d) 0 1)) h P:=by
 have hm:=wC (l:=az c.cl d) (i:=0) (j:=1) (by omega) (by omega);have hw:=λ e=>Jw c e g n
 have hlen:∀e,(az (lK c d (kL (az c.cl d) 0 1)).cl e).length=(az c.cl e).length:=λ e=>by
  rw[tV]
  by_cases h1:d=e/\d<c.cl.length
  ·rw[if_pos h1];obtain⟨rfl,_⟩:=h1;exact rW _ _ _
  ·rw[if_neg h1]
 refine⟨L.aL.iT hm,L.jF.iT hm (λ g=>(L.jF.mB d g).swap (by omega) (by omega)) (λ _=>rW _ _ _),⟨L.wt.qM,λ k e he=>?_,L.wt.sS,λ e he hl=>?_⟩,λ e he hl a b f o=>?_,EW L.rH hm,L.cur,L.hle⟩
 ·obtain⟨p,q,m⟩:=L.wt.qN k e he;refine⟨by rw[q4];exact p,by rw[hlen];exact q,?_⟩;rw[(hw e).1,(hw e).2]
  by_cases h1:d=e
  ·rw[if_pos h1,if_pos h1];exact m.symm
  ·rw[if_neg h1,if_neg h1];exact m
 ·rw[q4] at he;rw[hlen] at hl;have:=L.wt.uK e he hl;rw[(hw e).1,(hw e).2]
  by_cases h1:d=e
  ·rw[if_pos h1,if_pos h1];exact⟨this.2,this.1⟩
  ·rw[if_neg h1,if_neg h1];exact this
 ·rw[q4] at he;rw[hlen] at hl;refine L.rG e he hl a b ?_ o;unfold wB at f⊢;rw[(hw e).1,(hw e).2] at f
  by_cases h1:d=e
  ·rw[if_pos h1,if_pos h1] at f;exact f.symm
  ·rw[if_neg h1,if_neg h1] at f;exact f
def rX(c:Core)(d k:Nat)(ir:List Nat):Core:=
 let x:=w1 c d;let y:=aj (az c.cl d) k
 {lK c d (kL (az c.cl d) 1 k) with wt:=(c.wt.set (jE (-x)) ir).set (jE (-y)) (az c.wt (jE (-y))++[d])}
theorem j7.move{kept rest:List Nat}{k:Nat}(L:j7 F Fd c h (d::rest))(u:d<c.cl.length)(hk:2<=k)(t:k<(az c.cl d).length)(p:h≠0)(O:aj c.ay (h-1)= -(w1 c d))(P:¬-(aj (az c.cl d) k)∈c.ay)(G:az c.wt (jE (-(w1 c d)))=kept++d::rest):
  j7 F Fd (rX c d k (kept++rest)) h rest:=by
 have v:=L.jF.mB d u;have hm:=wC (l:=az c.cl d) (i:=1) (j:=k) (by omega) t;obtain⟨x,r⟩:∃x,w1 c d=x:=⟨_,rfl⟩
 obtain⟨y,A⟩:∃y,aj (az c.cl d) k=y:=⟨_,rfl⟩
 rw[r] at O G;rw[A] at P;have Q:x≠y:=λ e=>by
  have:=uL v.ng (i:=1) (j:=k) (by omega) t (by rw[show aj (az c.cl d) 1=x from r,A,e]);omega
 have U:w0 c d≠y:=λ e=>by
  have:=uL v.ng (i:=0) (j:=k) (by omega) t (by rw[show aj (az c.cl d) 0=w0 c d from rfl,A,e]);omega
 have V:x∈az c.cl d:=by rw[<-r];exact lZ (by omega)
 have W:y∈az c.cl d:=by rw[<-A];exact lZ t
 have X:=(v.lt x V)
 have Y:=(v.lt y W)
 have ah:jE (-x)≠jE (-y):=λ e=>Q (by have:=vA e;omega)
 have n:rX c d k (kept++rest)={lK c d (kL (az c.cl d) 1 k) with wt:=(c.wt.set (jE (-x)) (kept++rest)).set (jE (-y)) (az c.wt (jE (-y))++[d])}:=by
  unfold rX;rw[r,A]
 have J:∀e,w0 (rX c d k (kept++rest)) e=w0 c e:=λ e=>by
  rw[n];show aj (az (lK c d (kL (az c.cl d) 1 k)).cl e) 0=_;rw[tV]
  by_cases h1:d=e/\d<c.cl.length
  ·rw[if_pos h1];obtain⟨rfl,_⟩:=h1;rw[qx (by omega) t,if_neg (by omega),if_neg (by omega)];rfl
  ·rw[if_neg h1];rfl
 have K:∀e,w1 (rX c d k (kept++rest)) e=if d=e then y else w1 c e:=λ e=>by
  rw[n];show aj (az (lK c d (kL (az c.cl d) 1 k)).cl e) 1=_;rw[tV]
  by_cases h1:d=e
  ·rw[if_pos ⟨h1,u⟩,if_pos h1,qx (by omega) t,if_neg (by omega),if_pos rfl];exact A
  ·rw[if_neg (λ p=>h1 p.1),if_neg h1];rfl
 have hlen:∀e,(az (rX c d k (kept++rest)).cl e).length=(az c.cl e).length:=λ e=>by
  rw[n];show(az (lK c d (kL (az c.cl d) 1 k)).cl e).length=_;rw[tV]
  by_cases h1:d=e/\d<c.cl.length
  ·rw[if_pos h1];obtain⟨rfl,_⟩:=h1;exact rW _ _ _
  ·rw[if_neg h1]
 have M:(rX c d k (kept++rest)).cl.length=c.cl.length:=by rw[n];exact q4 _ _ _
 have H:∀j,az (rX c d k (kept++rest)).wt j=if j=jE (-y) then az c.wt (jE (-y))++[d] else if j=jE (-x) then kept++rest else az c.wt j:=λ j=>by
  rw[n];show az ((c.wt.set (jE (-x)) (kept++rest)).set (jE (-y)) (az c.wt (jE (-y))++[d])) j=_;rw[qw,qw];have Z:jE (-x)<c.wt.length:=by rw[L.wt.qM];exact X.neg.at
  have aa:jE (-y)<c.wt.length:=by rw[L.wt.qM];exact Y.neg.at
  by_cases h1:j=jE (-y)
  ·rw[if_pos ⟨h1.symm,by simpa using aa⟩,if_pos h1]
  ·rw[if_neg (λ p=>h1 p.1.symm),if_neg h1]
   by_cases f:j=jE (-x)
   ·rw[if_pos ⟨f.symm,Z⟩,if_pos f]
   ·rw[if_neg (λ p=>f p.1.symm),if_neg f]
 have D:=L.wt.sS (jE (-x));rw[G] at D;have ab:¬d∈kept++rest:=by
  rw[g_,Zy] at D;intro p;rcases t_.1 p with h1|h1
  ·exact D.2.2 d h1 d (by simp) rfl
  ·exact D.2.1.1 h1
 have R:¬d∈az c.wt (jE (-y)):=λ p=>by
  obtain⟨_,_,g⟩:=L.wt.qN _ d p;rcases g with g|g
  ·have:=vA g;exact U (by omega)
  ·have:=vA g;exact Q (by omega)
 have o:=L.aL.iT hm;refine⟨by rw[n];exact⟨o.rE,o.o7,o.pH,o.lit,o.ng,o.tT,o.pos,o.q3,o.ov,o.mq,o.pV⟩,?_,⟨?_,?_,?_,?_⟩,?_,?_,L.cur,L.hle⟩
 ·have E:=L.jF.iT hm (λ u=>(L.jF.mB d u).swap (by omega) t) (λ _=>rW _ _ _);rw[n];exact⟨E.mB,E.imp,E.tA,E.tB,E.tC⟩
 ·rw[n];show((c.wt.set (jE (-x)) (kept++rest)).set (jE (-y)) (az c.wt (jE (-y))++[d])).length=_;simp[L.wt.qM,lK]
 ·intro j e he;rw[H] at he;rw[M,hlen,J,K]
  by_cases h1:j=jE (-y)
  ·rw[if_pos h1] at he;rcases t_.1 he with f|f
   ·rw[<-h1] at f;obtain⟨g,q,s⟩:=L.wt.qN j e f;refine⟨g,q,?_⟩;have m:d≠e:=by rintro rfl;rw[h1] at f;exact R f
    rw[if_neg m];exact s
   ·rw[w_.1 f];exact⟨u,by omega,y_ (by rw[if_pos rfl];exact h1)⟩
  ·rw[if_neg h1] at he;have S:e∈az c.wt j/\(d=e->j≠jE (-x)):=by
    by_cases f:j=jE (-x)
    ·rw[if_pos f] at he;refine⟨?_,λ m=>absurd (m▸he) ab⟩;rw[f,G];rcases t_.1 he with g|g
     ·simp[g]
     ·simp[g]
    ·rw[if_neg f] at he;exact⟨he,λ _=>f⟩
   obtain⟨g,q,s⟩:=L.wt.qN j e S.1;refine⟨g,q,?_⟩
   by_cases m:d=e
   ·rw[if_pos m];rcases s with s|s
    ·exact v_ s
    ·exact absurd (by rw[s,<-m,r]) (S.2 m)
   ·rw[if_neg m];exact s
 ·intro j;rw[H]
  by_cases h1:j=jE (-y)
  ·rw[if_pos h1,g_];refine⟨L.wt.sS _,by simp,λ a B b ad e=>R ?_⟩;rw[w_.1 ad] at e;exact e▸B
  ·rw[if_neg h1]
   by_cases f:j=jE (-x)
   ·rw[if_pos f];refine D.sublist ?_;exact List.Sublist.append_left (List.sublist_cons_self _ _) _
   ·rw[if_neg f];exact L.wt.sS j
 ·intro e he hl;rw[M] at he;rw[hlen] at hl;have N:=L.wt.uK e he hl;rw[J,K];have keep:∀j,(d=e->j≠jE (-x))->e∈az c.wt j->e∈az (rX c d k (kept++rest)).wt j:=λ j I h1=>by
   rw[H]
   by_cases f:j=jE (-y)
   ·rw[if_pos f,<-f];simp[h1]
   ·rw[if_neg f]
    by_cases g:j=jE (-x)
    ·rw[if_pos g];rw[g,G] at h1;have m:e≠d:=λ q=>I q.symm g
     simp only[t_,j_] at h1⊢;rcases h1 with h1|h1|h1
     ·exact v_ h1
     ·exact absurd h1 m
     ·exact y_ h1
    ·rw[if_neg g];exact h1
  by_cases m:d=e
  ·subst m;rw[if_pos rfl];refine⟨keep _ (λ _ ae=>?_) N.1,?_⟩
   ·have g:=vA ae;have q:=(v.w (by omega)).2.2.1;apply q;show w0 c d=w1 c d;rw[r];omega
   ·rw[H,if_pos rfl];simp
  ·rw[if_neg m];exact⟨keep _ (λ h1=>absurd h1 m) N.1,keep _ (λ h1=>absurd h1 m) N.2⟩
 ·intro e he hl a b C B;rw[M] at he;rw[hlen] at hl;have af:(rX c d k (kept++rest)).ay=c.ay:=by rw[n];rfl
  have T:∀z,bg (rX c d k (kept++rest)) z=bg c z:=λ z=>by rw[n];rfl
  rw[af] at B⊢;rw[T,T];unfold wB at C;rw[J,K] at C
  by_cases m:d=e
  ·subst m;rw[if_pos rfl] at C;exfalso;rcases C with⟨rfl,rfl⟩|⟨rfl,rfl⟩
   ·
    have ag:¬x∈c.ay:=λ h1=>by
     have f: -x∈c.ay:=by rw[<-O];exact lZ (by have:=L.hle;omega)
     exact L.aL.apart h1 f
    rcases L.rG d u hl (w0 c d) x (v_ ⟨rfl,r.symm⟩) B with⟨_,h1⟩|⟨h1,_⟩
    ·have q:=(v.w (by omega)).2.2.1;apply q;show w0 c d=w1 c d;rw[r];omega
    ·exact ag h1
   ·exact P (sr B)
  ·rw[if_neg m] at C;rcases L.rG e he hl a b C B with⟨h1,f⟩|h1
   ·left;refine⟨?_,f⟩;rcases j_.1 h1 with g|g
    ·exact absurd g.symm m
    ·exact g
   ·exact y_ h1
 ·have:=EW L.rH hm;intro j I e he;have g:=this j (by rw[n] at I;exact I) e (by rw[n] at he;exact he);rw[n];exact g
end
end
section
def wD(wt:List (List Nat))(l:List Int)(d:Nat):List (List Nat):=
 let w':=wt.set (jE (-(aj l 0))) (az wt (jE (-(aj l 0)))++[d])
 w'.set (jE (-(aj l 1))) (az w' (jE (-(aj l 1)))++[d])
def kn(c:Core)(l:List Int):Core:={c with cl:=c.cl++[l],wt:=if 2<=l.length then wD c.wt l c.cl.length else c.wt}
section
variable {F Fd:List (List Int)}{c:Core}{l:List Int}
theorem rI{d:Nat}(b:d<c.cl.length):az (kn c l).cl d=az c.cl d:=AX b
theorem rJ:az (kn c l).cl c.cl.length=l:=uI _ _
theorem qy:(kn c l).cl.length=c.cl.length+1:=by simp[kn]
theorem jT.new(h:jT c):jT (kn c l):=by
 refine⟨h.rE,h.o7,h.pH,h.lit,h.ng,h.tT,h.pos,h.q3,h.ov,h.mq,λ i d=>?_⟩;have:=h.pV i d;show match mo c.j6 (aG (aj c.ay i)) with
   |none=>∃k,k<c.st.length/\gV c.st k=i
   |some e=>e<(kn c l).cl.length/\aj c.ay i∈az (kn c l).cl e/\∀x∈az (kn c l).cl e,x≠aj c.ay i-> -x∈c.ay.take i
 cases b:mo c.j6 (aG (aj c.ay i)) with
 |none=>rw[b] at this;exact this
 |some e=>
  rw[b] at this;obtain⟨h1,f,g⟩:=this;show e<(kn c l).cl.length/\aj c.ay i∈az (kn c l).cl e/\∀x∈az (kn c l).cl e,x≠aj c.ay i-> -x∈c.ay.take i;rw[qy,rI h1];exact⟨by omega,f,g⟩
theorem Jx(hl:oF c.n l)(g:2<=l.length)(hs:c.wt.length=2*c.n+2)(j:Nat):
  az (wD c.wt l c.cl.length) j=if j=jE (-(aj l 0))\/j=jE (-(aj l 1)) then az c.wt j++[c.cl.length] else az c.wt j:=by
 obtain⟨m0,m1,i,_⟩:=hl.w g;have k:jE (-(aj l 0))≠jE (-(aj l 1)):=λ e=>i (by have:=vA e;omega)
 have aI:jE (-(aj l 0))<c.wt.length:=by rw[hs];exact(hl.lt _ m0).neg.at
 have s1:jE (-(aj l 1))<c.wt.length:=by rw[hs];exact(hl.lt _ m1).neg.at
 unfold wD;simp only[qw,Zz]
 by_cases d:j=jE (-(aj l 1))
 ·subst d;rw[if_pos ⟨rfl,s1⟩,if_pos (y_ rfl),if_neg (λ b=>k b.1)]
 ·rw[if_neg (λ b=>d b.1.symm)]
  by_cases f:j=jE (-(aj l 0))
  ·subst f;rw[if_pos ⟨rfl,aI⟩,if_pos (v_ rfl)]
  ·rw[if_neg (λ b=>f b.1.symm),if_neg (λ b=>b.elim f d)]
theorem tW{d:Nat}(b:d<c.cl.length):w0 (kn c l) d=w0 c d/\w1 (kn c l) d=w1 c d:=by
 unfold w0 w1;rw[rI b];exact⟨rfl,rfl⟩
theorem vg:w0 (kn c l) c.cl.length=aj l 0/\w1 (kn c l) c.cl.length=aj l 1:=by
 unfold w0 w1;rw[rJ];exact⟨rfl,rfl⟩
theorem yq.new(h:yq c)(hl:oF c.n l):yq (kn c l):=by
 have k:∀j,az (kn c l).wt j=if 2<=l.length/\(j=jE (-(aj l 0))\/j=jE (-(aj l 1))) then az c.wt j++[c.cl.length] else az c.wt j:=λ j=>by
  show az (if 2<=l.length then wD c.wt l c.cl.length else c.wt) j=_
  by_cases m:2<=l.length
  ·rw[if_pos m,Jx hl m h.qM]
   by_cases f:j=jE (-(aj l 0))\/j=jE (-(aj l 1))
   ·rw[if_pos f,if_pos ⟨m,f⟩]
   ·rw[if_neg f,if_neg (λ p=>f p.2)]
  ·rw[if_neg m,if_neg (λ p=>m p.1)]
 refine⟨?_,λ j d g=>?_,λ j=>?_,λ d g o=>?_⟩
 ·show(if 2<=l.length then wD c.wt l c.cl.length else c.wt).length=_;split
  ·unfold wD;simp[h.qM];rfl
  ·exact h.qM
 ·rw[k] at g
  by_cases f:2<=l.length/\(j=jE (-(aj l 0))\/j=jE (-(aj l 1)))
  ·rw[if_pos f] at g;rcases t_.1 g with q|q
   ·obtain⟨i,r,s⟩:=h.qN j d q;rw[qy,rI i,(tW i).1,(tW i).2];exact⟨by omega,r,s⟩
   ·rw[w_.1 q,qy,rJ,vg.1,vg.2];exact⟨by omega,f.1,f.2⟩
  ·rw[if_neg f] at g;obtain⟨i,r,s⟩:=h.qN j d g;rw[qy,rI i,(tW i).1,(tW i).2];exact⟨by omega,r,s⟩
 ·rw[k];split
  ·rw[g_];refine⟨h.sS j,by simp,λ a t b u e=>?_⟩;rw[w_.1 u] at e;have:=(h.qN j a t).1;omega
  ·exact h.sS j
 ·rw[qy] at g
  by_cases e:d<c.cl.length
  ·rw[rI e] at o;rw[(tW e).1,(tW e).2,k,k];have:=h.uK d e o;constructor
   ·split
    ·simp[this.1]
    ·exact this.1
   ·split
    ·simp[this.2]
    ·exact this.2
  ·obtain rfl:d=c.cl.length:=by omega
   rw[rJ] at o;rw[vg.1,vg.2,k,k,if_pos ⟨o,v_ rfl⟩,if_pos ⟨o,y_ rfl⟩];simp
theorem j7.new{h:Nat}{g:List Int}(L:j7 F Fd c h [])(hl:oF c.n l)(r:rD F l)(s:∀x,x∈l↔x∈g)
  (t:2<=l.length->∀a b,(a=aj l 0/\b=aj l 1\/a=aj l 1/\b=aj l 0)-> -a∈c.ay.take h->b∈c.ay/\bg c b<=bg c a)
  (u:∀k,k<c.st.length->wz (c.ay.take (gV c.st k)) l) (hu:l.length=1->c.kS=true\/∃i,i<c.ay.length/\aj c.ay i=aj l 0/\lD c.st i=0):
  j7 F (Fd++[g]) (kn c l) h []:=by
 refine⟨L.aL.new,⟨λ d j=>?_,λ d j=>?_,λ v w=>?_,L.jF.tB,?_⟩,L.wt.new hl,λ d j f a b m q=>?_,λ k hk d j=>?_,L.cur,L.hle⟩
 ·rw[qy] at j
  by_cases e:d<c.cl.length
  ·rw[rI e];exact L.jF.mB d e
  ·obtain rfl:d=c.cl.length:=by omega
   rw[rJ];exact hl
 ·rw[qy] at j
  by_cases e:d<c.cl.length
  ·rw[rI e];exact L.jF.imp d e
  ·obtain rfl:d=c.cl.length:=by omega
   rw[rJ];exact r
 ·rcases t_.1 w with h1|h1
  ·rcases L.jF.tA v h1 with f|f|f|⟨d,j,f⟩
   ·exact v_ f
   ·exact y_ (v_ f)
   ·exact y_ (y_ (v_ f))
   ·exact y_ (y_ (y_ ⟨d,by rw[qy];omega,by rw[rI j];exact f⟩))
  ·rw[w_.1 h1];exact y_ (y_ (y_ ⟨c.cl.length,by rw[qy];omega,by rw[rJ];exact s⟩))
 ·by_cases o:c.kS=true
  ·exact v_ o
  ·refine y_ λ d j h1=>?_
   rw[qy] at j
   by_cases e:d<c.cl.length
   ·rw[rI e] at h1;rw[(tW e).1];exact(L.jF.tC.resolve_left o) d e h1
   ·obtain rfl:d=c.cl.length:=by omega
    rw[rJ] at h1;rw[vg.1];exact(hu h1).resolve_left o
 ·rw[qy] at j;right
  by_cases e:d<c.cl.length
  ·rw[rI e] at f;unfold wB at m;rw[(tW e).1,(tW e).2] at m;rcases L.rG d e f a b m q with⟨p,_⟩|p
   ·cases p
   ·exact p
  ·obtain rfl:d=c.cl.length:=by omega
   rw[rJ] at f;unfold wB at m;rw[vg.1,vg.2] at m;exact t f a b m q
 ·rw[qy] at j
  by_cases e:d<c.cl.length
  ·rw[rI e];exact L.rH k hk d e
  ·obtain rfl:d=c.cl.length:=by omega
   rw[rJ];exact u k hk
theorem j7.EX{h:Nat}{g:List Int}(L:j7 F Fd c h [])(hl:oF c.n l)(p:rD F l)(D:∀x,x∈l↔x∈g)(s:jW c (aj l 0)=0)(E:∀y∈l,y≠aj l 0-> -y∈c.ay)
  (G:l.length=1->c.st.length=0) (H:2<=l.length->c.st.length<=bg c (aj l 1))
  (I:∀k,k<c.st.length->wz (c.ay.take (gV c.st k)) l):
  j7 F (Fd++[g]) (k6 (kn c l) (aj l 0) (some c.cl.length)) h []:=by
 have u:0<l.length:=o_.2 hl.ne;have r:=hl.lt _ (lZ u);have m:(k6 (kn c l) (aj l 0) (some c.cl.length)).ay=c.ay++[aj l 0]:=rfl;have J:=L.aL.new (l:=l)|>.set (c:=kn c l) (x:=aj l 0) (w:=some c.cl.length) r s (by
  refine⟨by rw[qy];omega,?_,?_⟩
  ·rw[rJ];exact lZ u
  ·rw[rJ];exact E)
 have v:∀i,i<c.ay.length->aj (c.ay++[aj l 0]) i=aj c.ay i:=λ i p=>tw p
 refine⟨J,⟨λ d f=>?_,λ d f=>?_,λ z K=>?_,L.jF.tB,?_⟩,?_,λ d f j a b o t=>?_,λ k hk d f=>?_,L.cur,by rw[m,u_];have:=L.hle;omega⟩
 ·have f:d<(kn c l).cl.length:=f;rw[qy] at f;show oF c.n (az (kn c l).cl d)
  by_cases e:d<c.cl.length
  ·rw[rI e];exact L.jF.mB d e
  ·obtain rfl:d=c.cl.length:=by omega
   rw[rJ];exact hl
 ·have f:d<(kn c l).cl.length:=f;rw[qy] at f;show rD F (az (kn c l).cl d)
  by_cases e:d<c.cl.length
  ·rw[rI e];exact L.jF.imp d e
  ·obtain rfl:d=c.cl.length:=by omega
   rw[rJ];exact p
 ·rcases t_.1 K with h1|h1
  ·rcases L.jF.tA z h1 with j|j|⟨i,p,j,q⟩|⟨d,f,j⟩
   ·exact v_ j
   ·exact y_ (v_ j)
   ·refine y_ (y_ (v_ ⟨i,by rw[m,u_];omega,?_,q⟩));rw[m,v i p];exact j
   ·refine y_ (y_ (y_ ⟨d,?_,?_⟩))
    ·show d<(kn c l).cl.length;rw[qy];omega
    ·show∀x,x∈az (kn c l).cl d↔x∈z;rw[rI f];exact j
  ·rw[w_.1 h1];refine y_ (y_ (y_ ⟨c.cl.length,?_,?_⟩))
   ·show c.cl.length<(kn c l).cl.length;rw[qy];omega
   ·show∀x,x∈az (kn c l).cl c.cl.length↔x∈g;rw[rJ];exact D
 ·by_cases A:c.kS=true
  ·exact v_ A
  ·refine y_ λ d f h1=>?_
   have f:d<(kn c l).cl.length:=f;have h1:(az (kn c l).cl d).length=1:=h1;rw[qy] at f
   by_cases e:d<c.cl.length
   ·rw[rI e] at h1;obtain⟨i,p,M,N⟩:=(L.jF.tC.resolve_left A) d e h1;refine⟨i,by rw[m,u_];omega,?_,N⟩;rw[m,v i p,M];exact(tW e).1.symm
   ·obtain rfl:d=c.cl.length:=by omega
    rw[rJ] at h1;have hs:=G h1;refine⟨c.ay.length,by rw[m];simp,?_,?_⟩
    ·rw[m,xG];exact vg.1.symm
    ·have:=wA c.st c.ay.length;show lD c.st c.ay.length=0;omega
 ·have:=L.wt.new hl;exact⟨this.qM,this.qN,this.sS,this.uK⟩
 ·have f:d<(kn c l).cl.length:=f;have j:2<=(az (kn c l).cl d).length:=j;have o:wB (kn c l) d a b:=o;rw[m,x_ L.hle] at t;rw[qy] at f;right;have B:aG a≠aG (aj l 0):=by
   have:=vD L.aL r s (sr t)
   rwa[oN] at this
  have C:∀y,bg (k6 (kn c l) (aj l 0) (some c.cl.length)) y=if aG y=aG (aj l 0) then c.st.length else bg c y:=λ y=>AY (c:=kn c l) (L.aL.new) r y
  rw[C,C,if_neg B,m,t_,w_]
  by_cases e:d<c.cl.length
  ·rw[rI e] at j;unfold wB at o;rw[(tW e).1,(tW e).2] at o;rcases L.rG d e j a b o t with⟨q,_⟩|⟨q,O⟩
   ·cases q
   ·rw[if_neg (vD L.aL r s q)];exact⟨v_ q,O⟩
  ·obtain rfl:d=c.cl.length:=by omega
   rw[rJ] at j;unfold wB at o;rw[vg.1,vg.2] at o;rcases o with⟨rfl,rfl⟩|⟨rfl,rfl⟩
   ·exact absurd rfl B
   ·rw[if_pos rfl];exact⟨y_ rfl,H j⟩
 ·have f:d<(kn c l).cl.length:=f;rw[qy] at f;show wz ((c.ay++[aj l 0]).take (gV c.st k)) (az (kn c l).cl d);rw[x_ (L.aL.ov k hk)]
  by_cases e:d<c.cl.length
  ·rw[rI e];exact L.rH k hk d e
  ·obtain rfl:d=c.cl.length:=by omega
   rw[rJ];exact I k hk
theorem j7.more{h:Nat}{P:List Nat}{g:List Int}(L:j7 F Fd c h P)(b:c.kS=true\/ve g\/∃i,i<c.ay.length/\aj c.ay i∈g/\lD c.st i=0):j7 F (Fd++[g]) c h P:=by
 refine⟨L.aL,⟨L.jF.mB,L.jF.imp,λ d e=>?_,L.jF.tB,L.jF.tC⟩,L.wt,L.rG,L.rH,L.cur,L.hle⟩;rcases t_.1 e with h1|h1
 ·exact L.jF.tA d h1
 ·rw[w_.1 h1];rcases b with b|b|b
  ·exact v_ b
  ·exact y_ (v_ b)
  ·exact y_ (y_ (v_ b))
def wE(c:Core):Core:={c with kS:=true}
theorem j7.EY{h:Nat}{P:List Nat}(L:j7 F Fd c h P)(hu:Unsat F):j7 F Fd (wE c) h P:=
 ⟨⟨L.aL.rE,L.aL.o7,L.aL.pH,L.aL.lit,L.aL.ng,L.aL.tT,L.aL.pos,L.aL.q3,L.aL.ov,L.aL.mq,L.aL.pV⟩,⟨L.jF.mB,L.jF.imp,λ g _=>v_ rfl,λ _=>hu,v_ rfl⟩,⟨L.wt.qM,L.wt.qN,L.wt.sS,L.wt.uK⟩,L.rG,L.rH,L.cur,L.hle⟩
theorem j7.same{h:Nat}{P:List Nat}{EZ:List (List Int)}(L:j7 F Fd c h P)(he:∀g∈EZ,g∈Fd):j7 F EZ c h P:=
 ⟨L.aL,⟨L.jF.mB,L.jF.imp,λ g b=>L.jF.tA g (he g b),L.jF.tB,L.jF.tC⟩,L.wt,L.rG,L.rH,L.cur,L.hle⟩
end
section
variable {F Fd:List (List Int)}{c:Core}{h:Nat}{d:Nat}{rest:List Nat}
theorem j7.next(L:j7 F Fd c h [])(l:h<c.ay.length):j7 F Fd {c with ag:=h+1} (h+1) (az c.wt (jE (aj c.ay h))):=by
 refine⟨⟨L.aL.rE,L.aL.o7,L.aL.pH,L.aL.lit,L.aL.ng,L.aL.tT,L.aL.pos,L.aL.q3,L.aL.ov,L.aL.mq,L.aL.pV⟩,⟨L.jF.mB,L.jF.imp,L.jF.tA,L.jF.tB,L.jF.tC⟩,⟨L.wt.qM,L.wt.qN,L.wt.sS,L.wt.uK⟩,λ e he hl a b g m=>?_,L.rH,λ k hk=>Nat.le_succ_of_le (L.cur k hk),l⟩;obtain⟨j,h1,n,d⟩:=pG.1 m
 by_cases o:j<h
 ·rcases L.rG e he hl a b g (pG.2 ⟨j,o,n,d⟩) with⟨f,_⟩|f
  ·cases f
  ·exact y_ f
 ·obtain rfl:j=h:=by omega
  left;refine⟨?_,d⟩;have i:=L.wt.uK e he hl;rw[d];rcases g with⟨rfl,rfl⟩|⟨rfl,rfl⟩
  ·exact i.1
  ·exact i.2
theorem j7.kept(L:j7 F Fd c h (d::rest))(o:d<c.cl.length)(p:2<=(az c.cl d).length)(C:h≠0)(q:aj c.ay (h-1)= -(w1 c d))(g:w0 c d∈c.ay)(r:∀k,k<c.st.length->gV c.st k<=h-1):j7 F Fd c h rest:=by
 have s:=L.jF.mB d o;refine⟨L.aL,L.jF,L.wt,λ e he hl a b m f=>?_,L.rH,L.cur,L.hle⟩
 by_cases n:e=d
 ·subst n;right;obtain⟨m0,m1,D,_⟩:=s.w p;rcases m with⟨rfl,rfl⟩|⟨rfl,rfl⟩
  ·exact absurd (sr f) (L.aL.apart g)
  ·refine⟨g,?_⟩;have t:h-1<c.ay.length:=by have:=L.hle;omega
   obtain⟨i,u,v⟩:=qb.1 g;have y:bg c (w0 c e)=lD c.st i:=by rw[<-L.aL.mq i u];rw[<-v]
   have z:bg c (w1 c e)=lD c.st (h-1):=by
    rw[<-L.aL.mq _ t,q];unfold bg;rw[oN]
   have A:lD c.st (h-1)=c.st.length:=by
    unfold lD;rw[Zx];intro a f;obtain⟨k,hk,e⟩:=r_.1 f;have:=r k hk;rw[vf hk,e] at this;simpa using this
   rw[y,z,A];exact wA _ _
 ·rcases L.rG e he hl a b m f with⟨j,B⟩|j
  ·rcases j_.1 j with l|l
   ·exact absurd l n
   ·exact v_ ⟨l,B⟩
  ·exact y_ j
theorem j7.low{P:List Nat}(L:j7 F Fd c h P)(p:h≠0)(g:∀k,k<c.st.length->gV c.st k<=h-1):j7 F Fd c (h-1) []:=by
 refine⟨L.aL,L.jF,L.wt,λ e he hl a b l d=>?_,L.rH,g,by have:=L.hle;omega⟩;right;rcases L.rG e he hl a b l (CQ d (by omega)) with⟨f,m⟩|f
 ·exfalso;obtain⟨j,q,n,o⟩:=pG.1 d;have:=L.aL.place (i:=h-1) (j:=j) (by have:=L.hle;omega) n (by rw[m,o]);omega
 ·exact f
end
theorem Jy{F Fd:List (List Int)}{c:Core}(L:j7 F Fd c c.ay.length [])(l:c.kS=false)(m:∀x,gW c.n x->jW c x≠0){M:Int->Bool}(o:Mod M)(hm:∀x,gW c.n x->(M x=true↔jW c x=1))(hF:∀g∈Fd,∀x∈g,gW c.n x):∀g∈Fd,sR M g:=by
 intro g j;have T:=L.aL;rcases L.jF.tA g j with h|h|⟨i,p,h,_⟩|⟨d,k,h⟩
 ·rw[l] at h;cases h
 ·exact h.Jp o
 ·refine⟨_,h,?_⟩;rw[hm _ (hF g j _ h)];exact(T.pos _ (hF g j _ h)).2 (lZ p)
 ·rcases EU L l d k with⟨x,f,q⟩|⟨x,f,y,t,u,h1,v⟩
  ·have e:=(L.jF.mB d k).lt x f;exact⟨x,(h x).1 f,(hm x e).2 ((T.pos x e).2 q)⟩
  ·have e:=(L.jF.mB d k).lt x f;refine⟨x,(h x).1 f,(hm x e).2 ?_⟩;have b:=T.range x;have r:=m x e;have s:=T.xJ e;rcases b with b|b|b
   ·exact absurd b r
   ·exact b
   ·exact absurd (s.1 b) h1
end
section
structure uM(F:List (List Int))(c:Core)(l:List Int)(level:Nat):Prop where
 ok:oF c.n l
 imp:rD F l
 AZ:∀x∈l,-x∈c.ay
 top:bg c (aj l 0)=c.st.length
 Jz:∀k,1<=k->k<l.length->bg c (aj l k)<=level
 mq:level<c.st.length
 snd:2<=l.length->bg c (aj l 1)=level
 one:l.length=1->level=0
section
variable {F Fd:List (List Int)}{c:Core}{l:List Int}{level:Nat}
theorem jT.at(T:jT c){x:Int}(d: -x∈c.ay):∃j,j<c.ay.length/\aj c.ay j= -x/\lD c.st j=bg c x:=by
 obtain⟨j,b,e⟩:=qb.1 d;refine⟨j,b,e,?_⟩;rw[<-T.mq j b,e];unfold bg;rw[oN]
theorem uM.low(L:uM F c l level)(T:jT c):∀x∈l,x≠aj l 0-> -x∈c.ay.take (gV c.st level):=by
 intro x b d;obtain⟨k,hk,e⟩:=qb.1 b;have f:1<=k:=by
  rcases Nat.eq_zero_or_pos k with h|h
  ·subst h;exact absurd e.symm d
  ·exact h
 have h1:=L.Jz k f hk;rw[e] at h1;obtain⟨j,g,m,o⟩:=T.at (L.AZ x b);have p:¬gV c.st level<=j:=λ n=>by have:=(tU T (i:=j) L.mq).2 n;omega
 exact pG.2 ⟨j,by omega,g,m⟩
theorem uM.fresh(L:uM F c l level)(T:jT c):jW (mC c level) (aj l 0)=0:=by
 have b:0<l.length:=o_.2 L.ok.ne;have hm:=lZ b;have d:=L.ok.lt _ hm;rw[(T.back L.mq).open d];have f:(mC c level).ay=c.ay.take (gV c.st level):=rfl;rw[f];refine⟨λ h=>T.apart (sr h) (L.AZ _ hm),λ h=>?_⟩;obtain⟨j,h1,g,k⟩:=pG.1 h;have e:bg c (aj l 0)=lD c.st j:=by
  rw[<-T.mq j g,k];unfold bg;rw[oN]
 have m:level<lD c.st j:=by rw[<-e,L.top];exact L.mq
 have:=(tU T (i:=j) L.mq).1 m;omega
def zz(c:Core)(l:List Int)(level:Nat):Core:=k6 (kn (mC c level) l) (aj l 0) (some c.cl.length)
theorem j7.keep{h:Nat}(G:j7 F Fd c h [])(L:uM F c l level):j7 F Fd (zz c l level) (gV c.st level) []:=by
 have B:=G.back L.mq;have t:(mC c level).ay=c.ay.take (gV c.st level):=rfl;have r:(mC c level).st=c.st.take level:=rfl;have f:(mC c level).st.length=level:=by rw[r,s_];have:=L.mq;omega
 have u:=L.low G.aL;refine(B.EX (g:=l) L.ok L.imp (λ _=>Iff.rfl) (L.fresh G.aL) u (λ h1=>by rw[f];exact L.one h1) (λ b=>by rw[f];exact Nat.le_of_eq (L.snd b).symm) ?_).same (λ g v=>by simp[v]);intro k hk;rw[f] at hk;have b:2<=l.length:=by
  have z:0<l.length:=o_.2 L.ok.ne;rcases k_ l.length 2 with d|d
  ·have:=L.one (by omega);omega
  ·exact d
 obtain⟨m0,m1,y,_⟩:=L.ok.w b;have s:∀x∈((mC c level).ay.take (gV (mC c level).st k)),x∈c.ay.take (gV c.st k):=λ x m=>by
  rw[t,r,uJ hk] at m;rw[m_] at m;exact CQ m (by omega)
 have n:k<c.st.length:=by have:=L.mq;omega
 refine y_ ⟨_,m0,_,m1,y,λ o=>?_,λ o=>?_⟩
 ·obtain⟨j,d,p,q⟩:=pG.1 (s _ o);have e:bg c (aj l 0)=lD c.st j:=by rw[<-G.aL.mq j p,q];unfold bg;rw[oN]
  have:=(tU G.aL (i:=j) n).1 (by rw[<-e,L.top];exact n);omega
 ·obtain⟨j,d,p,q⟩:=pG.1 (s _ o);have e:bg c (aj l 1)=lD c.st j:=by rw[<-G.aL.mq j p,q];unfold bg;rw[oN]
  have:=(tU G.aL (i:=j) n).1 (by rw[<-e,L.snd b];exact hk);omega
theorem uM.new{h:Nat}(G:j7 F Fd c h [])(L:uM F c l level):∀d,d<c.cl.length->¬∀x,x∈az c.cl d↔x∈l:=by
 intro d i b;have g:=L.low G.aL;rcases G.rH level L.mq d i with⟨x,f,j⟩|⟨x,f,y,k,m,h1,n⟩
 ·exact G.aL.apart (sr j) (L.AZ x ((b x).1 f))
 ·have ex:x=aj l 0:=by
   rcases Zw (x=aj l 0) with e|e
   ·exact e
   ·exact absurd (g x ((b x).1 f) e) h1
  have o:y=aj l 0:=by
   rcases Zw (y=aj l 0) with e|e
   ·exact e
   ·exact absurd (g y ((b y).1 k) e) n
  exact m (ex.trans o.symm)
end
def rK(l:List Int)(v:Nat):Nat:=if ((v:Int)∈l) then 1 else if (-(v:Int)∈l) then 2 else 0
def rY(l:List Int):Nat->Nat
 |0=>0
 |n+1=>rY l n+3^n*rK l (n+1)
theorem JA(l:List Int)(v:Nat):rK l v<=2:=by unfold rK;split<;>(try split)<;>omega
theorem A0(l:List Int):∀n,rY l n<3^n
 |0=>by simp[rY]
 |n+1=>by
  have h1:=A0 l n;have b:=JA l (n+1);have c:3^n*rK l (n+1)<=3^n*2:=Nat.mul_le_mul_left _ b;rw[rY,Nat.pow_succ];omega
theorem CX{l l':List Int}:∀n,rY l n=rY l' n->∀v,1<=v->v<=n->rK l v=rK l' v
 |0,_,v,h1,c=>by omega
 |n+1,h,v,h1,c=>by
  rw[rY,rY] at h;have a:=A0 l n;have b:=A0 l' n;have e:rK l (n+1)=rK l' (n+1):=by
   have d:(rY l n+3^n*rK l (n+1))/3^n=rK l (n+1):=by
    rw[Nat.add_mul_div_left _ _ (Nat.pow_pos (by omega)),Nat.div_eq_of_lt a,Nat.zero_add]
   have f:(rY l' n+3^n*rK l' (n+1))/3^n=rK l' (n+1):=by
    rw[Nat.add_mul_div_left _ _ (Nat.pow_pos (by omega)),Nat.div_eq_of_lt b,Nat.zero_add]
   rw[<-d,h,f]
  rcases k_ v (n+1) with g|g
  ·exact CX n (by rw[e] at h;omega) v h1 (by omega)
  ·obtain rfl:v=n+1:=by omega
   exact e
theorem JB{l':List Int}(h:oF n l)(h':oF n l')(e:rY l n=rY l' n):∀x,x∈l↔x∈l':=by
 have key:∀{a b:List Int},oF n a->oF n b->(∀v,1<=v->v<=n->rK a v=rK b v)->∀x∈a,x∈b:=by
  intro a b i o d x f;have hl:=i.lt x f;have h1:=d (aG x) hl.1 hl.2;unfold rK at h1;rcases Int.lt_or_le x 0 with k|k
  ·have m:(-((aG x:Nat):Int))=x:=by unfold aG;omega
   have g:((aG x:Nat):Int)= -x:=by unfold aG;omega
   rw[m,g,if_neg (i.bE x f),if_pos f] at h1
   by_cases c: -x∈b
   ·rw[if_pos c] at h1;cases h1
   ·rw[if_neg c] at h1
    by_cases j:x∈b
    ·exact j
    ·rw[if_neg j] at h1;cases h1
  ·have g:((aG x:Nat):Int)=x:=by unfold aG;omega
   rw[g,if_pos f] at h1
   by_cases c:x∈b
   ·exact c
   ·rw[if_neg c] at h1;split at h1<;>cases h1
 have d:=CX n e;exact λ x=>⟨key h h' d x,key h' h (λ v a b=>(d v a b).symm) x⟩
theorem JC(h:oF n l):rY l n≠0:=by
 intro e;have c:∀m,rY [] m=0:=by
  intro m
  induction m with
  |zero=>rfl
  |succ m d=>rw[rY,d];simp[rK]
 have f:=CX (l:=l) (l':=[]) n (by rw[e,c]);obtain⟨x,b⟩:=List.exists_mem_of_ne_nil _ h.ne;have hl:=h.lt x b;have h1:=f (aG x) hl.1 hl.2;unfold rK at h1;simp only[List.not_mem_nil,if_false] at h1;rcases Int.lt_or_le x 0 with g|g
 ·have i:(-((aG x:Nat):Int))=x:=by unfold aG;omega
  rw[i,if_pos b] at h1;split at h1<;>cases h1
 ·have j:((aG x:Nat):Int)=x:=by unfold aG;omega
  rw[j,if_pos b] at h1
  cases h1
theorem xK:∀(m:Nat)(l:List Nat),l.Nodup->(∀x∈l,x<m)->l.length<=m
 |0,l,_,h=>by
  cases l with
  |nil=>simp
  |cons a r=>have:=h a (by simp);omega
 |m+1,l,b,h=>by
  have h1:=xK m (l.filter λ x=>x !=m) (b.sublist List.filter_sublist) (λ x c=>by
   obtain⟨d,f⟩:=List.mem_filter.1 c;have:=h x d;have:x≠m:=by simpa using f
   omega)
  have d:l.length<=(l.filter λ x=>x !=m).length+1:=by
   clear h h1
   induction l with
   |nil=>simp
   |cons a r g=>
    rw[Zy] at b
    by_cases e:a=m
    ·subst e;have:(r.filter λ x=>x !=a)=r:=List.filter_eq_self.2 λ x c=>by
      simp only[bne_iff_ne,ne_eq];rintro rfl;exact b.1 c
     simp[List.filter_cons,this]
    ·have:=g b.2;simp[List.filter_cons,e];omega
  omega
theorem E0{ls:List (List Int)}(c:∀l∈ls,oF n l)(d:ls.Pairwise λ a b=>¬∀x,x∈a↔x∈b):ls.length+1<=3^n:=by
 have f:(0::ls.map λ l=>rY l n).Nodup:=by
  rw[Zy];refine⟨λ h=>?_,?_⟩
  ·obtain⟨l,hl,e⟩:=f_.1 h;exact JC (c l hl) e
  ·rw[d_];rw[List.pairwise_map];exact d.imp_of_mem λ g i h e=>h (JB (c _ g) (c _ i) e)
 have:=xK (3^n) _ f (λ x j=>by
  rcases j_.1 j with h|h
  ·subst h;exact Nat.pow_pos (by omega)
  ·obtain⟨l,_,rfl⟩:=f_.1 h;exact A0 l n)
 simpa using this
structure nr(c:Core)(jI:List Int):Prop where
 ind:∀k,k<c.st.length->k<jI.length->aj jI k∈c.ay.take (if k+1<c.st.length then gV c.st (k+1) else c.ay.length)
 dec:∀i,i<c.ay.length->mo c.j6 (aG (aj c.ay i))=none->∃k,k<c.st.length/\gV c.st k=i/\(k<jI.length->aj c.ay i=aj jI k)
section
variable {c:Core}{jI:List Int}
theorem nr.same{c':Core}(h:nr c jI)(h1:c'.ay=c.ay)(b:c'.st=c.st)(d:c'.j6=c.j6):nr c' jI:=
 ⟨by rw[h1,b];exact h.ind,by rw[h1,b,d];exact h.dec⟩
theorem nr.set(h:nr c jI)(T:jT c){x:Int}{d:Nat}(f:gW c.n x)(g:jW c x=0):nr (k6 c x (some d)) jI:=by
 have b:(k6 c x (some d)).ay=c.ay++[x]:=rfl;refine⟨λ k hk j=>?_,λ i l hw=>?_⟩
 ·have:=h.ind k hk j;show aj jI k∈(c.ay++[x]).take (if k+1<c.st.length then gV c.st (k+1) else (c.ay++[x]).length);split
  ·rename_i h1;rw[if_pos h1] at this;rw[x_ (T.ov _ h1)];exact this
  ·rename_i h1;rw[if_neg h1,q_] at this;rw[q_];simp[this]
 ·rw[b,u_,l_] at l;have m:(k6 c x (some d)).j6=c.j6.set (aG x) (some d):=rfl;have hl:aG x<c.j6.length:=by rw[T.pH];have:=f.2;omega
  rw[m,b] at hw
  by_cases e:i<c.ay.length
  ·rw[tw e,wu,if_neg (λ o=>vD T f g (lZ e) o.1.symm)] at hw;rw[b,tw e];exact h.dec i e hw
  ·obtain rfl:i=c.ay.length:=by omega
   rw[xG,wu,if_pos ⟨rfl,hl⟩] at hw
   cases hw
theorem nr.back(h:nr c jI)(T:jT c){level:Nat}(hl:level<c.st.length):nr (mC c level) jI:=by
 have o:=T.ov level hl;have b:(mC c level).ay=c.ay.take (gV c.st level):=rfl;have f:(mC c level).st=c.st.take level:=rfl;have hlen:(mC c level).ay.length=gV c.st level:=by rw[b,s_];omega
 have g:(mC c level).st.length=level:=by rw[f,s_];omega
 refine⟨λ k hk l=>?_,λ i d hw=>?_⟩
 ·rw[g] at hk;have:=h.ind k (by omega) l;rw[g,hlen,b,f,m_];rw[if_pos (show k+1<c.st.length by omega)] at this
  by_cases h1:k+1<level
  ·rw[if_pos h1,uJ h1,Nat.min_eq_left (T.q3 _ _ (by omega) hl)];exact this
  ·rw[if_neg h1,Nat.min_self,show level=k+1 by omega];exact this
 ·rw[hlen] at d;have m:(mC c level).j6=sU c.j6 (c.ay.drop (gV c.st level)):=rfl;rw[b,wv d,m,CU _ _ _ (T.split (pG.2 ⟨i,d,by omega,rfl⟩))] at hw;obtain⟨k,hk,e,n⟩:=h.dec i (by omega) hw;have j:k<level:=by
   rcases k_ k level with h1|h1
   ·exact h1
   ·have:=T.q3 level k h1 hk;omega
  exact⟨k,by rw[g];exact j,by rw[f,uJ j];exact e,by rw[b,wv d];exact n⟩
theorem nr.level(h:nr c jI)(T:jT c)(g:c.st.length<jI.length->aj jI c.st.length∈c.ay):nr (nk c) jI:=by
 have d:(nk c).st=c.st++[c.ay.length]:=rfl;have hlen:(nk c).st.length=c.st.length+1:=by rw[d];simp
 have j:(nk c).ay=c.ay:=rfl;refine⟨λ k hk f=>?_,λ i l hw=>?_⟩
 ·rw[hlen] at hk;rw[hlen,j]
  by_cases h1:k<c.st.length
  ·have:=h.ind k h1 f;rw[if_pos (by omega)]
   by_cases b:k+1<c.st.length
   ·rw[if_pos b] at this;rw[d,xH b];exact this
   ·rw[if_neg b] at this;rw[show k+1=c.st.length by omega,d,xI];exact this
  ·obtain rfl:k=c.st.length:=by omega
   rw[if_neg (by omega),q_];exact g f
 ·obtain⟨k,hk,e,b⟩:=h.dec i l hw;exact⟨k,by rw[hlen];omega,by rw[d,xH hk];exact e,b⟩
theorem nr.decide(h:nr c jI)(T:jT c){x:Int}(m:gW c.n x)(o:jW c x=0)(j:c.st.length<jI.length->x=aj jI c.st.length):nr (k6 (nk c) x none) jI:=by
 have d:(k6 (nk c) x none).st=c.st++[c.ay.length]:=rfl;have hlen:(k6 (nk c) x none).st.length=c.st.length+1:=by rw[d];simp
 have f:(k6 (nk c) x none).ay=c.ay++[x]:=rfl;refine⟨λ k hk l=>?_,λ i p hw=>?_⟩
 ·rw[hlen] at hk;rw[hlen,f]
  by_cases h1:k<c.st.length
  ·have:=h.ind k h1 l;rw[if_pos (by omega)]
   by_cases b:k+1<c.st.length
   ·rw[if_pos b] at this;rw[d,xH b,x_ (T.ov _ b)];exact this
   ·rw[if_neg b] at this;rw[show k+1=c.st.length by omega,d,xI,x_ (n_ _)];exact this
  ·obtain rfl:k=c.st.length:=by omega
   rw[if_neg (by omega),q_,<-j l];simp
 ·rw[f,u_,l_] at p;have q:(k6 (nk c) x none).j6=c.j6.set (aG x) none:=rfl;rw[q,f] at hw
  by_cases e:i<c.ay.length
  ·rw[tw e,wu,if_neg (λ r=>vD T m o (lZ e) r.1.symm)] at hw;obtain⟨k,hk,s,b⟩:=h.dec i e hw;refine⟨k,by rw[hlen];omega,by rw[d,xH hk];exact s,λ g=>?_⟩;rw[f,tw e];exact b g
  ·obtain rfl:i=c.ay.length:=by omega
   refine⟨c.st.length,by rw[hlen];omega,by rw[d,xI],λ g=>?_⟩;rw[f,xG];exact j g
theorem nr.keep(h:nr c jI){F:List (List Int)}{l:List Int}{level:Nat}(T:jT c)(L:uM F c l level):nr (zz c l level) jI:=by
 have b:0<l.length:=o_.2 L.ok.ne;have h1:=(h.back T L.mq)
 have d:nr (kn (mC c level) l) jI:=h1.same rfl rfl rfl;exact d.set ((T.back L.mq).new) (L.ok.lt _ (lZ b)) (L.fresh T)
theorem nr.all(h:nr c jI)(hl:jI.length<=c.st.length):∀x∈jI,x∈c.ay:=by
 intro x b;obtain⟨k,hk,e⟩:=qb.1 b;have:=h.ind k (by omega) hk;rw[e] at this;exact sr this
end
end
end Go.Proofs.YtogdlkfacflmaaaGreat
