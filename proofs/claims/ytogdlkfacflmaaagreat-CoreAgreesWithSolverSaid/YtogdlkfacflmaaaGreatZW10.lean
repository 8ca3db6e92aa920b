/- Parts of the walk of the solver and its core; no condition. -/
import Derived.Test.YtogdlkfacflmaaaGreatZW9
import Derived.Lib.OwnBridge
import Derived.Lib.AppendIntMem
import Derived.IntWalk
import Derived.Deep.QuietTactic
import Derived.BigQuiet
import Derived.Test.YtogdlkfacflmaaaGreatZW6
import Derived.Test.YtogdlkfacflmaaaGreatZW1
namespace Go.Proofs.YtogdlkfacflmaaaGreat
set_option linter.unusedVariables false
set_option linter.unusedSimpArgs false
set_option maxRecDepth 100000
set_option maxHeartbeats 4000000
open _root_.And renaming intro→z_
open _root_.Go.Proofs.Tryz renaming prog→y_,underlying45→d_
open _root_.Bool renaming false_ne_true→x_,noConfusion→k_,not_eq_true'→f_
open _root_.Or renaming inr→w_,inl→u_
open _root_.List renaming eq_nil_of_length_eq_zero→v_,length_append→t_,mem_cons→s_,pairwise_cons→r_,length_filter_le→q_,map_cons→o_,mem_singleton→n_,map_toArray→j_,map_nil→i_,length_map→h_,getElem?_eq_some_iff→c_,mem_map→b_,getElem?_eq_getElem→a_,getElem?_cons_zero→Zx,map_append→Zw,length_singleton→Zt,pairwise_append→Zr,mem_append_left→Zq
open _root_.Go.World renaming cell?_of_block→p_,drewN_drewN→e_
open _root_.Go.RowKit.Below renaming refl→m_
open _root_.Nat renaming le_refl→l_,le_of_lt→g_,zero_le→Zu,lt_or_ge→Zp,le_trans→Zn,zero_add→Zm
open _root_.Go.Lib renaming compactUpTo_succ→Zz,holds_of_ownsRow→Zy,ownsRow_putRow→Zs
open _root_.Go.Value renaming int→Zv
open _root_.Go.Addr renaming add_lit→Zo
open _root_.Go.Value.slice renaming injEq→Zl
open _root_.Option.some renaming injEq→Zk
open _root_.Go.IntKind renaming i64→Zj
variable{a b x:Int}{c base g n cap G:Nat}{l ah:List Int}{w w':World}{A:Option Addr}{K:Nat->Prop}{hs:Nat->ax}{cb:Nat->Nat}{s:an}
section
open Go.RowKit Go.Shelf Go.Sort Go.Lib
theorem LD:∀args w,(callFunc 221 args).run y_ w=.ok (.enter 221 args) w:=enters_of Tryz.func221 (by kernel_rfl) rfl
theorem LF:∀args w,(callFunc 222 args).run y_ w=.ok (.enter 222 args) w:=enters_of Tryz.func222 (by kernel_rfl) rfl
theorem Gj(x:Int)(w:World):Calls y_ 221 #[.int .i64 x] w λ e w'=>e=.returned (.bool (!(mQ x 65536)))/\w=w':=by
 go_enter Tryz.func221,Tryz.ntmps221
 go_wp2_with (go_at_call 163;refine(EB x 65536 w (by omega) (by omega)).mono ?_;rintro e w' ⟨rfl,rfl⟩)
 go_ret;exact⟨rfl,rfl⟩
def BK(a b:Int):Int:=rV (ou (rB a) (rB b)) (ou b a)
theorem LG(x y:Int)(w:World)(b: -65536<=x)(c:x<=65536)(d: -65536<=y)(f:y<=65536):
  Calls y_ 222 #[.int .i64 x,.int .i64 y] w λ e w'=>e=.returned (.int .i64 (BK x y))/\w'=w.alloc (.cells #[.int .i64 (ou (rB x) (rB y)),.int .i64 (ou y x)] 3):=by
 have g:=aa (z_ b c);have i:=aa (z_ d f);clear b c d f;go_enter Tryz.func222,Tryz.ntmps222
 go_wp2_with (first
  |(go_at_call 168;refine(Iu _ _ (by first|exact g.o.1|exact i.o.1) (by first|exact g.o.2|exact i.o.2)).mono ?_;rintro e w' ⟨rfl,rfl⟩)
  |(go_at_call 160;refine(zv _ _ _).mono ?_;rintro e w' ⟨rfl,rfl⟩)
  |(go_at_call 159;refine(AN w.heap.size (ou (rB x) (rB y)) (ou y x) _ (by go_simp) (by go_simp)).mono ?_;rintro e w' ⟨rfl,rfl⟩))
 go_ret;exact⟨rfl,rfl⟩
theorem LH(b:Value)(w:World):
  Calls y_ 142 #[.slice none 0 0,b] w λ e w'=>e=.returned (.int .i64 (-1))/\w=w':=by
 go_enter Tryz.func142,Tryz.ntmps142
 go_wp2;refine wp_loop_rounds 1 ?_;rw[rounds_succ];go_wp2;go_ret;exact⟨rfl,rfl⟩
theorem Dy(b:Value)(w:World):
  Calls y_ 85 #[.slice none 0 0,b] w λ e w'=>e=.returned (.slice none 0 0)/\w=w':=by
 have c:=LH b w;go_enter Tryz.func85,Tryz.ntmps85
 go_wp2_with (go_at_call 142;refine c.mono ?_;rintro e w' ⟨rfl,rfl⟩)
 go_ret;exact⟨rfl,rfl⟩
theorem LI(w:World):
  Calls y_ 223 #[.slice none 0 0] w λ e w'=>e=.returned (.slice none 0 0)/\w=w':=by
 go_enter Tryz.func223,Tryz.ntmps223
 go_wp2;go_ret;exact⟨rfl,rfl⟩
def pR(a b:Int):Bool:=decide (rB a<rB b)||(decide (rB a=rB b)&&decide (b<a))
theorem wV:pR a b=true↔rB a<rB b\/(rB a=rB b/\b<a):=by simp[pR]
theorem BL(a:Int):¬pR a a=true:=by rw[wV];omega
theorem Dz{c:Int}(h1:pR a b=true)(d:pR b c=true):pR a c=true:=by rw[wV] at*;omega
theorem LJ(h1:pR a b=true):¬pR b a=true:=by rw[wV] at*;omega
theorem BM(h:a≠b):pR a b=true\/pR b a=true:=by rw[wV,wV];omega
def sD(l:List Int):Prop:=l.Pairwise λ a b=>pR a b=true
theorem Gk:∀{l m:List Int},sD l->sD m->(∀x,x∈l↔x∈m)->l=m
 |[],[],_,_,_=>rfl
 |[],y::m,_,_,h=>by have:=(h y).2 (by simp);simp at this
 |x::l,[],_,_,h=>by have:=(h x).1 (by simp);simp at this
 |x::l,y::m,h1,i,h=>by
  have d:=r_.1 h1;have f:=r_.1 i;have e:x=y:=by
   have b:=(h x).1 (by simp);have c:=(h y).2 (by simp);rcases s_.1 b with b|b
   ·exact b
   ·rcases s_.1 c with c|c
    ·exact c.symm
    ·exact absurd (d.1 y c) (LJ (f.1 x b))
  subst e
  congr 1
  refine Gk d.2 f.2 λ z=>?_
  have g:=h z;simp only[s_] at g;constructor
  ·intro hm;rcases g.1 (w_ hm) with e|e
   ·subst e;exact absurd (d.1 z hm) (BL z)
   ·exact e
  ·intro hm;rcases g.2 (w_ hm) with e|e
   ·subst e;exact absurd (f.1 z hm) (BL z)
   ·exact e
def wW(x:Int):List Int->List Int
 |[]=> [x]
 |y::l=>if pR y x=true then y::wW x l else x::y::l
theorem DA{x z:Int}:∀{l:List Int},z∈wW x l↔z=x\/z∈l
 |[]=>by simp[wW]
 |y::l=>by
  unfold wW;split
  ·simp only[s_,DA];constructor
   ·rintro(h|h|h)
    ·exact w_ (u_ h)
    ·exact u_ h
    ·exact w_ (w_ h)
   ·rintro(h|h|h)
    ·exact w_ (u_ h)
    ·exact u_ h
    ·exact w_ (w_ h)
  ·simp
theorem Gl{x:Int}:∀{l:List Int},sD l->x∉l->sD (wW x l)
 |[],_,_=>by simp[wW,sD]
 |y::l,h,b=>by
  have h':=r_.1 h;simp only[s_,not_or] at b;unfold wW;split
  ·rename_i c;refine r_.2 ⟨λ z d=>?_,Gl h'.2 b.2⟩;rcases DA.1 d with e|e
   ·subst e;exact c
   ·exact h'.1 z e
  ·rename_i c;have f:pR x y=true:=(BM b.1).resolve_right c;refine r_.2 ⟨λ z d=>?_,h⟩;rcases s_.1 d with e|e
   ·subst e;exact f
   ·exact Dz f (h'.1 z e)
def x6(out:List Int)(x:Int):List Int:=if mQ x 65536=true/\hasB out x=false then wW x out else out
def kY(l:List Int):List Int:=l.foldl x6 []
theorem DB:∀(l out:List Int),sD out->(sD (l.foldl x6 out)/\∀x,x∈l.foldl x6 out↔x∈out\/(x∈l/\mQ x 65536=true))
 |[],out,h=>⟨h,λ x=>by simp⟩
 |y::l,out,h=>by
  have hs:sD (x6 out y)/\∀x,x∈x6 out y↔x∈out\/(x=y/\mQ x 65536=true):=by
   unfold x6;split
   ·rename_i c;have f:y∉out:=λ hm=>by have:=we.2 hm;rw[c.2] at this;cases this
    refine⟨Gl h f,λ x=>?_⟩;rw[DA];constructor
    ·rintro(e|e)
     ·subst e;exact w_ ⟨rfl,c.1⟩
     ·exact u_ e
    ·rintro(e|⟨e,_⟩)
     ·exact w_ e
     ·exact u_ e
   ·rename_i c;refine⟨h,λ x=>⟨u_,?_⟩⟩;rintro(e|⟨e,b⟩)
    ·exact e
    ·subst e
     cases d:hasB out x with
     |true=>exact we.1 d
     |false=>exact absurd ⟨b,d⟩ c
  obtain⟨h1,g⟩:=DB l (x6 out y) hs.1;refine⟨h1,λ x=>?_⟩;rw[List.foldl_cons,g,hs.2,s_];constructor
  ·rintro((e|⟨e,b⟩)|⟨e,b⟩)
   ·exact u_ e
   ·exact w_ ⟨u_ e,b⟩
   ·exact w_ ⟨w_ e,b⟩
  ·rintro(e|⟨e|e,b⟩)
   ·exact u_ (u_ e)
   ·exact u_ (w_ ⟨e,b⟩)
   ·exact w_ ⟨e,b⟩
theorem Gm(l:List Int):sD (kY l):=(DB l [] (by simp[sD])).1
theorem BN:x∈kY l↔x∈l/\mQ x 65536=true:=by
 have:=(DB l [] (by simp[sD])).2 x;simpa[kY] using this
theorem LK{m:List Int}(h:sD m)(hm:∀x,x∈m↔x∈l/\mQ x 65536=true):m=kY l:=
 Gk h (Gm l) λ x=>by rw[hm,BN]
abbrev sd:={x:Int//x≠0/\ -65536<=x/\x<=65536}
instance:Inhabited sd:=⟨⟨1,by decide⟩⟩
def oL(x:Int):Value:=.int .i64 x
def yY(x:sd):Value:=.int .i64 x.1
def sE(x y:sd):Int:=BK x.1 y.1
theorem LL{y:Int}:BK x y<0↔pR x y=true:=by
 rw[wV];unfold BK rV ou;(repeat' split)<;>omega
theorem Af(x y:sd):ltOf sE x y=pR x.1 y.1:=by
 unfold ltOf sE;rw[Bool.eq_iff_iff,decide_eq_true_eq,LL]
theorem BO:SWO (ltOf sE) where
 irrefl x:=by rw[Af];simpa using BL x.1
 trans x y z h1 c:=by rw[Af] at*;exact Dz h1 c
 ntrans x y z h1 c:=by
  rw[Af] at*
  cases h:pR x.1 z.1 with
  |false=>rfl
  |true=>
   exfalso;have a:¬pR x.1 y.1=true:=by rw[h1];exact k_
   have b:¬pR y.1 z.1=true:=by rw[c];exact k_
   rw[wV] at*;omega
theorem LM(x y:sd)(h1:ltOf sE x y=false)(b:ltOf sE y x=false):x=y:=by
 rw[Af] at*;rcases Classical.em (x.1=y.1) with e|e
 ·exact Subtype.ext e
 ·rcases BM e with h|h
  ·rw[h1] at h;cases h
  ·rw[b] at h;cases h
theorem LN(blk off size:Nat)(w:World):CmpLays1 y_ 222 #[] yY sE blk off size w:=by
 intro m os b hs x y;refine(LG x.1 y.1 _ x.2.2.1 x.2.2.2 y.2.2.1 y.2.2.2).mono ?_;rintro e w' ⟨rfl,rfl⟩;exact⟨rfl,0, #[_],by rw[alloc_eq_grow];rfl⟩
def yZ(x:Int):Bool:= !(mQ x 65536)
theorem LO(w:World):PredAt y_ 221 #[] oL yZ w:=by
 intro W x _;unfold FnGives;exact(Gj x W).mono λ _ _ ⟨he,hw⟩=>⟨he,0,by rw[<-hw];rfl⟩
theorem LP(blk off size:Nat)(w:World):PredOver y_ 221 #[] oL yZ blk off size w:=by
 intro n os b x _;unfold FnGives;exact(Gj x _).mono λ _ _ ⟨he,hw⟩=>⟨he,0,by rw[<-hw];rfl⟩
theorem y4:OneCell oL:=λ _=>rfl
theorem LQ:OneCell yY:=λ _=>rfl
theorem filter_eq(b:List Int):(b.filter λ x=> !yZ x)=b.filter λ x=>mQ x 65536:=by
 congr 1;funext x;simp[yZ]
def x7(b:List Int):List sd:=b.filterMap λ x=>if h:x≠0/\ -65536<=x/\x<=65536 then some ⟨x,h⟩ else none
theorem Gn(b:List Int):(x7 b).map (·.1)=b.filter λ x=>mQ x 65536:=by
 induction b with
 |nil=>rfl
 |cons x l d=>
  unfold x7 at*
  by_cases h:x≠0/\ -65536<=x/\x<=65536
  ·have c:mQ x 65536=true:=wh.2 h;rw[List.filterMap_cons,List.filter_cons,c,dif_pos h];simpa using d
  ·have c:mQ x 65536=false:=by
    cases e:mQ x 65536 with
    |false=>rfl
    |true=>exact absurd (wh.1 e) h
   rw[List.filterMap_cons,List.filter_cons,c,dif_neg h];simpa using d
def Gp(d:Array sd)(m:Nat):Prop:=∀i j,i<j->j<m->pR d[j]!.1 d[i]!.1=false
theorem Gq(d:Array sd):∀m,Gp d m->
  sD ((compactUpTo d m).map (·.1))/\(∀x,x∈compactUpTo d m↔∃i,i<m/\d[i]! =x)
 |0,_=>⟨by simp[compactUpTo,sD],λ x=>by simp[compactUpTo]⟩
 |m+1,h=>by
  obtain⟨h1,g⟩:=Gq d m (λ i j c t=>h i j c (by omega));rw[Zz]
  by_cases hk:keeps d m=true
  ·rw[if_pos hk];constructor
   ·rw[Zw];refine Zr.2 ⟨h1,by simp,λ a o b k=>?_⟩;simp only[o_,i_,n_] at k;subst k;obtain⟨y,p,rfl⟩:=b_.1 o;obtain⟨i,c,rfl⟩:=(g y).1 p;have q:d[m]! ≠d[m-1]! :=by
     have:=of_decide_eq_true hk;rcases this with e|e
     ·omega
     ·exact e
    have a1:pR d[m]!.1 d[m-1]!.1=false:=h (m-1) m (by omega) (by omega);have a2:pR d[m-1]!.1 d[m]!.1=true:=(BM (λ e=>q (Subtype.ext e.symm))).resolve_right (by rw[a1];exact k_);rcases Zp i (m-1) with f|l
    ·have a3:pR d[m-1]!.1 d[i]!.1=false:=h i (m-1) f (by omega);rcases Classical.em (d[i]!.1=d[m-1]!.1) with e|e
     ·rw[e];exact a2
     ·exact Dz ((BM e).resolve_right (by rw[a3];exact k_)) a2
    ·have:i=m-1:=by omega
     subst this;exact a2
   ·intro x;rw[List.mem_append,g,n_];constructor
    ·rintro(⟨i,c,e⟩|e)
     ·exact⟨i,by omega,e⟩
     ·exact⟨m,by omega,e.symm⟩
    ·rintro⟨i,c,e⟩;rcases Zp i m with f|l
     ·exact u_ ⟨i,f,e⟩
     ·have:i=m:=by omega
      subst this;exact w_ e.symm
  ·rw[if_neg hk,List.append_nil];refine⟨h1,λ x=>?_⟩;rw[g];constructor
   ·rintro⟨i,c,e⟩;exact⟨i,by omega,e⟩
   ·rintro⟨i,c,e⟩;rcases Zp i m with f|l
    ·exact⟨i,f,e⟩
    ·have r:i=m:=by omega
     subst r;have n:¬(i=0\/d[i]! ≠d[i-1]!):=λ s=>hk (decide_eq_true s)
     have u:i≠0:=λ e=>n (u_ e)
     have he:d[i]! =d[i-1]! :=Classical.byContradiction λ e=>n (w_ e)
     exact⟨i-1,by omega,by rw[<-he];exact e⟩
def uq(b:List Int):List sd:=(x7 b).mergeSort λ x y=> !(ltOf sE) y x
theorem LR{x:sd}:x∈x7 ah↔x.1∈ah:=by
 unfold x7;rw[List.mem_filterMap];constructor
 ·rintro⟨a,b,h⟩;split at h
  ·injection h with h;rw[<-h];exact b
  ·cases h
 ·intro h;exact⟨x.1,h,by rw[dif_pos x.2]⟩
theorem LS(d:List Int):Gp (uq d).toArray (uq d).length:=by
 have h:(uq d).Pairwise λ x y=>(!(ltOf sE) y x)=true:=by
  refine List.pairwise_mergeSort ?_ ?_ _
  ·intro a b c h1 e;simp only[f_] at*;exact BO.ntrans c b a e h1
  ·intro a b;simp only[Bool.or_eq_true,f_]
   cases h1:ltOf sE b a with
   |false=>exact u_ rfl
   |true=>
    right
    cases e:ltOf sE a b with
    |false=>rfl
    |true=>have:=BO.trans _ _ _ h1 e;rw[BO.irrefl] at this;cases this
 intro i j g f;have:=List.pairwise_iff_getElem.1 h i j (by omega) f g;simp only[f_,Af] at this;rw[getElem!_pos _ _ (by simpa using f),getElem!_pos _ _ (by simp;omega)];simpa using this
theorem Gr(b:List Int):(compactUpTo (uq b).toArray (uq b).length).map (·.1)=kY b:=by
 obtain⟨h1,d⟩:=Gq (uq b).toArray (uq b).length (LS b);refine LK h1 λ x=>?_
 rw[b_];have hm:∀y:sd,y∈compactUpTo (uq b).toArray (uq b).length↔y.1∈b:=by
  intro y;rw[d,<-LR,<-List.mem_mergeSort (le:=λ x y=> !(ltOf sE) y x)];show _↔y∈uq b;rw[List.mem_iff_getElem];constructor
  ·rintro⟨i,c,e⟩;rw[getElem!_pos _ _ (by simpa using c)] at e;exact⟨i,c,by simpa using e⟩
  ·rintro⟨i,c,e⟩;exact⟨i,c,by rw[getElem!_pos _ _ (by simpa using c)];simpa using e⟩
 constructor
 ·rintro⟨y,f,rfl⟩;exact⟨(hm y).1 f,wh.2 y.2⟩
 ·rintro⟨g,j⟩;exact⟨⟨x,wh.1 j⟩,(hm _).2 g,rfl⟩
def LU(b:List Int)(w:World)(e:Ending)(w':World):Prop:=
 ∃A c,e=.returned (.slice A b.length c)/\w'.ownsRow w.heap.size 3 1 (.slice A b.length c) b.length (b.map (Zv .i64))/\Below w.heap.size w w'
theorem vm(A:Option Addr)(n c:Nat)(f:List Int)(w:World)(h:aS w A n c f):
  Calls y_ 81 #[.slice A n c] w (LU f w):=by
 obtain⟨i0,s,t,v,y⟩:=info_parts xD;have E:∀(w:World)(a:Option Addr)(n c m c':Nat),(binOp .eql 25 (.slice a n c) (.slice none m c')).run y_ w=.ok (.bool a.isNone) w:=λ w a n c m c'=>Lib.run_eql_slice_nil w _ _ a n c m c' Tryz.underlying25
 have hlen:=h.len;have F:=h.mG;have H:=aa h;clear h
 cases A with
 |none=>
  have z:n=0:=by
   rcases Nat.eq_zero_or_pos n with d|d
   ·exact d
   ·obtain⟨b,off,he,_⟩:=H.o.cells d;cases he
  subst z;have B:f=[]:=v_ hlen;subst B;clear hlen;go_enter Tryz.func81,Tryz.ntmps81
  go_wp2;go_ret;exact⟨none,0,rfl,World.ownsRow_nil _ _ _ _,m_ _ _⟩
 |some a=>
  have e:=aa hlen;clear hlen;go_enter Tryz.func81,Tryz.ntmps81
  go_wp2_with (at_builtin;refine wpList_append_own _ rfl _ _ 25 rfl w.heap.size 3 i0 (.int .i64 0) 1 8 Tryz.underlying25 s t v y rfl (by decide) _ _ _ rfl (World.ownsRow_made w #[] 0 (l_ _) (Zu _) rfl) a n c (f.map (Zv .i64)) rfl ?qc1 ?qc2 ?qc3 ?qc4 ?qc5 ?qc6 ?_)
  case qc1=>simp[e.o]
  case qc2=>
   intro j u p;have q:j<n:=by have:=(c_.1 p).1;simpa[e.o] using this
   obtain⟨b,off,he,i,C⟩:=H.o.cells (by omega);injection he with he
   subst he;rw[Zo];rw[World.cell?_alloc_lt _ _ _ (by exact i),C j q];rw[List.getElem?_map,a_ (by rw[e.o];exact q)] at p;rw[qK (by rw[e.o];exact q)];exact p
  case qc3=>intro u hu;obtain⟨x,_,rfl⟩:=b_.1 hu;rfl
  case qc4=>unfold maxLen;omega
  case qc5=>omega
  case qc6=>simp
  intro v' w1 l D G;go_wp2;go_ret;have i:Below w.heap.size w w1:=((m_ _ w).alloc (l_ _) _).grown D (by simp) (by intro k hk;simp[Value.ownBlock] at hk;omega);have hl:=e.o;subst hl;rcases l.2 with⟨r,d⟩|⟨g,cap,cur,r,I⟩
  ·subst r;refine⟨none,0,?_,?_,i⟩
   ·rw[d];rfl
   ·rw[d] at l⊢;exact l
  ·subst r;exact⟨_,_,rfl,l,i⟩
def Own(w:World)(base g n cap:Nat)(b:List Int):Prop:=w.ownsRow base 3 1 (.slice (some ⟨g,0,none⟩) n cap) n (b.map (Zv .i64))
theorem below_grow{B:Nat}{a:World}(h:Below B a w)(b:B<=w.heap.size)(os:Array Obj):Below B a (grow w os):=
 ⟨h.os,h.tape,h.output,by simp only[grow,Array.size_append];have:=h.size;omega,λ k hk=>by
  rw[<-h.block k hk];simp only[grow];rw[Array.getElem?_append_left (by omega)]⟩
theorem Gs(l:List sd):l.map yY=(l.map (·.1)).map (Zv .i64):=by rw[List.map_map];rfl
theorem LV(w:World)(base g n cap:Nat)(b:List Int)(h:Own w base g n cap b)(f:base<=g):
  Calls y_ 85 #[.slice (some ⟨g,0,none⟩) n cap,.func (.func 221) #[] #[]] w λ e w'=>
   ∃m,e=.returned (.slice (some ⟨g,0,none⟩) m cap)/\Own w' base g m cap (b.filter λ x=>mQ x 65536)/\Below base w w':=by
 have h':w.ownsRow base 3 1 (.slice (some ⟨g,0,none⟩) n cap) n (b.map oL):=h;obtain⟨r,s,he,h1,t,i,j,c,l⟩:=Zy h' (by intro e;cases e)
 cases he
 have o:n<=9223372036854775807:=by unfold maxLen at j;omega
 have d:=Tryz.slices_DeleteFunc oL y4 yZ 221 #[] LD 0 Tryz.zeroValue3 g 0 cap b.toArray w (LO w) (LP _ _ _ w) l (by simpa[c] using o) (by simpa[c] using i);have hs:b.toArray.size=n:=by simp[c]
 rw[hs] at d;refine d.mono ?_;rintro e w' ⟨rfl,q,rfl⟩;have p:b.toArray.toList.filter (λ x=> !yZ x)=b.filter λ x=>mQ x 65536:=filter_eq b
 rw[p];have hle:=q_ (λ x=>mQ x 65536) b;refine⟨_,rfl,?_,below_putRow (m_ _ _) f⟩;have:=Zs (q:=q) (k:=(b.filter λ x=>mQ x 65536).length) (ys:=(b.filter λ x=>mQ x 65536)++List.replicate (n-(b.filter λ x=>mQ x 65536).length) 0) h' (by simp;omega) (by omega);rw[List.take_left' rfl] at this;exact this
theorem LW(w:World)(base g m cap:Nat)(ls:List sd)(h:Own w base g m cap (ls.map (·.1)))(i:base<=g)(hm:m*8<=140737488355328):
  Calls y_ 157 #[.slice (some ⟨g,0,none⟩) m cap,.func (.func 222) #[] #[]] w λ e w'=>
   e=.returned (.tuple #[])/\Own w' base g m cap ((ls.mergeSort λ x y=> !(ltOf sE) y x).map (·.1))/\Below base w w':=by
 have h':w.ownsRow base 3 1 (.slice (some ⟨g,0,none⟩) m cap) m (ls.map yY):=by rw[Gs];exact h
 obtain⟨p,r,he,h1,j,s,t,b,l⟩:=Zy h' (by intro e;cases e)
 cases he
 have n:m<4611686018427387904:=by omega
 have c:=Tryz.slices_SortFunc_total yY LQ sE BO 222 #[] g 0 cap ls.toArray w LF (LN _ _ _ w) l j (by simpa[b] using n) LM;have hs:ls.toArray.size=m:=by simp[b]
 rw[hs] at c;refine c.mono ?_;rintro e w' ⟨rfl,q,os,rfl⟩;have f:=Zs (q:=q) (k:=m) (ys:=ls.mergeSort λ x y=> !(ltOf sE) y x) h' (by simp[b]) (l_ _);rw[List.take_of_length_le (by simp[b]),Gs] at f;refine⟨rfl,?_,?_⟩
 ·have:=ownsRow_grow f 0 os;exact this
 ·have o:=below_putRow (enc:=yY) (q:=q) (d:=(ls.mergeSort λ x y=> !(ltOf sE) y x).toArray) (m_ base w) i;exact below_grow o (by simp[putRow,mapBlock,Sort.ahead];omega) os
theorem Gt(ls:List sd):∀m,m<=ls.length->compactUpTo (ls.map (·.1)).toArray m=(compactUpTo ls.toArray m).map (·.1)
 |0,_=>by simp[compactUpTo]
 |m+1,h=>by
  have b:∀j,j<ls.length->(ls.map (·.1)).toArray[j]! =(ls.toArray[j]!).1:=by
   intro j c;rw[getElem!_pos _ _ (by simpa using c),getElem!_pos _ _ (by simpa using c)];simp
  rw[Zz,Zz,Zw,Gt ls m (by omega)]
  congr 1
  have hk:keeps (ls.map (·.1)).toArray m=keeps ls.toArray m:=by
   unfold keeps;rw[b m (by omega),b (m-1) (by omega)]
   congr 1
   rw[ne_eq,ne_eq,Subtype.ext_iff]
  rw[hk,b m (by omega)];split<;>simp
theorem LX(w:World)(base g n cap:Nat)(ls:List sd)(h:Own w base g n cap (ls.map (·.1)))(c:base<=g):
  Calls y_ 223 #[.slice (some ⟨g,0,none⟩) n cap] w λ e w'=>
   ∃m,e=.returned (.slice (some ⟨g,0,none⟩) m cap)/\Own w' base g m cap ((compactUpTo ls.toArray ls.length).map (·.1))/\Below base w w':=by
 have h':w.ownsRow base 3 1 (.slice (some ⟨g,0,none⟩) n cap) n ((ls.map (·.1)).map oL):=h;obtain⟨o,p,he,h1,r,d,f,i,j⟩:=Zy h' (by intro e;cases e)
 cases he
 have l:n<=9223372036854775807:=by unfold maxLen at f;omega
 have hl:ls.length=n:=by simpa using i
 have hs:(ls.map (·.1)).toArray.size=n:=by simp[hl]
 have b:=Tryz.slices_Compact oL y4 (EqlAt.intD _ _ _) ⟨λ x y w=>by rw[oL,oL,(NeqAt.int y_ 3 .i64).1 x y w];congr 1,.int _ _ _⟩ 0 Tryz.zeroValue3 g 0 cap (ls.map (·.1)).toArray w j (by rw[hs];exact l) (by rw[hs];exact d);rw[hs] at b;refine b.mono ?_;rintro e w' ⟨rfl,q,rfl⟩;rw[<-hl,Gt ls ls.length (l_ _)];have hle:((compactUpTo ls.toArray ls.length).map (·.1)).length<=n:=by
  rw[h_];unfold compactUpTo;rw[h_];refine Zn (q_ _ _) (by simp[hl])
 refine⟨_,rfl,?_,below_putRow (m_ _ _) c⟩;have:=Zs (q:=q) (k:=((compactUpTo ls.toArray ls.length).map (·.1)).length) (ys:=((compactUpTo ls.toArray ls.length).map (·.1))++List.replicate (n-((compactUpTo ls.toArray ls.length).map (·.1)).length) 0) h' (by simp at hle⊢;omega) hle;rw[List.take_left' rfl] at this;rw[hl] at this⊢;exact this
def ur(l:List Int)(k:Nat):Bool:=(List.range k).any λ i=>decide (0<i)&&(j8 l (i-1)== -(j8 l i))
def se(l:List Int):Bool:=ur l l.length
theorem Gu(l:List Int)(k:Nat):ur l (k+1)=(ur l k||(decide (0<k)&&(j8 l (k-1)== -(j8 l k)))):=by
 unfold ur;rw[List.range_succ,List.any_append];simp
theorem LY(l:List Int){j k:Nat}(h:j<=k)(b:ur l j=true):ur l k=true:=by
 unfold ur at*;rw[List.any_eq_true] at*;obtain⟨x,c,he⟩:=b;exact⟨x,by rw[List.mem_range] at*;omega,he⟩
theorem LZ{k:Nat}(hk:k<l.length)(h:ur l (k+1)=true):se l=true:=LY l (by omega) h
theorem L0(h:x∈kY ah):x≠0/\ -65536<=x/\x<=65536:=wh.1 (BN.1 h).2
theorem L1(b:List Int):CA (kY b):=λ x h=>L0 h
theorem L2(b:List Int):(kY b).length<=b.length:=by
 rw[<-Gr];rw[h_];unfold compactUpTo;rw[h_];refine Zn (q_ _ _) ?_;rw[List.length_range];unfold uq;rw[List.length_mergeSort];unfold x7;exact List.length_filterMap_le _ _
def L3(b:List Int)(w:World)(e:Ending)(w':World):Prop:=
 ∃A c,e=.returned (.tuple #[.slice A (kY b).length c,.bool (se (kY b))])/\aS w' A (kY b).length c (kY b)/\w'.ownsRow w.heap.size 3 1 (.slice A (kY b).length c) (kY b).length ((kY b).map (Zv .i64))/\Below w.heap.size w w'
theorem Own.wX(h:Own w base g n cap ah)(b:n*8<=140737488355328):aS w (some ⟨g,0,none⟩) n cap ah:=aS.lG h b
theorem Own.len(h:Own w base g n cap ah):ah.length=n:=by simpa using h.1
theorem Gv{jq:Nat}{a b:Bool}(d:n=jq)(h:a=b):Ending.returned (.tuple #[.slice A n c,.bool a])=.returned (.tuple #[.slice A jq c,.bool b]):=by rw[d,h]
theorem L4(A:Option Addr)(n c:Nat)(d:List Int)(w:World)(h:aS w A n c d):
  Calls y_ 179 #[.slice A n c] w (L3 d w):=by
 have M:=vm A n c d w h;have N:=h.mG;have hlen:=h.len;have C:=aa (z_ hlen N);clear h hlen N;go_enter Tryz.func179,Tryz.ntmps179
 go_wp2_with fail
 refine M.mono ?_;clear M;rintro e w1 ⟨aC,c1,rfl,t,O⟩;have D:=aa O;clear O;rcases t.2 with⟨p,u⟩|⟨g,cap,cur,p,E,ah⟩
 ·have ai:d=[]:=v_ u;subst ai;simp only[Zl] at p;obtain⟨rfl,-,rfl⟩:=p;clear t u;have aj:=Dy (.func (.func 221) #[] #[]) w1;have ak:Calls y_ 157 #[.slice none 0 0,.func (.func 222) #[] #[]] w1 λ e w'=>e=.returned (.tuple #[])/\w1=w':=(Tryz.slices_SortFunc_none (α:=sd) none 0 (.func (.func 222) #[] #[]) w1).mono λ _ _ ⟨h1,al⟩=>⟨h1,al.symm⟩
  have an:=LI w1
  go_wp2_with (first
   |(go_at_call 85;refine aj.mono ?_;rintro e w' ⟨rfl,rfl⟩)
   |(go_at_call 157;refine ak.mono ?_;rintro e w' ⟨rfl,rfl⟩)
   |(go_at_call 223;refine an.mono ?_;rintro e w' ⟨rfl,rfl⟩))
  refine wp_loop_rounds 1 ?_;rw[rounds_succ];go_wp2
  go_ret2
  exact⟨none,0,rfl,aS.nil _ _ _ (Zu _),⟨rfl,u_ ⟨rfl,rfl⟩⟩,D.o⟩
 ·simp only[Zl] at p;obtain⟨rfl,-,rfl⟩:=p;have P:Own w1 w.heap.size g d.length c1 d:=t;clear ah t
  go_wp2_with fail
  refine(LV w1 w.heap.size g d.length c1 d P E).mono ?_;rintro e ao ⟨m2,rfl,v,Q⟩;rw[<-Gn] at v;have F:=v.len;have R:m2*8<=140737488355328:=by
   rw[Gn] at F;have:=q_ (λ x=>mQ x 65536) d;have:=C.o;omega
  have S:=LW ao w.heap.size g m2 c1 (x7 d) v E R;have aq:=aa F;have T:=aa Q;clear F Q v P
  go_wp2_with fail
  refine S.mono ?_;clear S;rintro e ar ⟨rfl,U,V⟩;have W:=LX ar w.heap.size g m2 c1 (uq d) U E;have X:=aa V;clear V U
  go_wp2_with fail
  refine W.mono ?_;clear W;rintro e G ⟨m,rfl,r,Y⟩;rw[Gr] at r;have hm:=r.len;have au:m*8<=140737488355328:=by
   have:=L2 d;have:=C.o;omega
  have Z:=r.wX au;have H:=aa Z;have f:=aa hm;have ab:=aa r;have y:fE (Below w.heap.size w G):=aa (((D.o.trans T.o).trans X.o).trans Y);clear hm Z r Y D T X aq R C;have av:=aa (L1 d);go_wp2
  go_loopw [15] (λ i wr=>∃k q:Nat,k<=m/\i=.int .i64 k/\ur (kY d) k=false/\wr=G.drewN q) (λ i _=>m-(intOf i).toNat)
  case atStart=>exact⟨0,0,Zu _,rfl,rfl,rfl⟩
  case round=>
   obtain⟨k,q,hk,rfl,ad,rfl⟩:=hrel;have I:=aa ad;clear ad
   by_cases ae:k<m
   ·obtain⟨b,off,J,aD,z⟩:=H.o.cells (by omega);injection J with J
    injection J with aw ax
    subst aw ax;have ay:=z k ae;have hl:k<(kY d).length:=by rw[f.o];exact ae
    have B:=av.o.at hl;have aE:=Iv B.2.1 B.2.2;have az:=aa B;clear B
    by_cases u:0<k
    ·have aA:=z (k-1) (by omega);obtain⟨j,K⟩:∃j,k-1=j:=⟨_,rfl⟩
     rw[K,Zm] at aA;rw[Zm] at ay;clear z;have af:=I.o;have l:=Gu (kY d) k;rw[af,K,decide_eq_true u,Bool.false_or,Bool.true_and] at l;have s:=aa l;have aF:Zj.wrap ((k:Int)-1)=(j:Int):=by rw[show(k:Int)-1=(j:Int) by omega];exact IntWalk.i64_in (j:Int) (by omega)
     have aG:j<m:=by omega
     have aH:(j:Int)<(m:Int):=by omega
     have aI:(k:Int)<(m:Int):=by omega
     have aJ:(0:Int)<(k:Int):=by omega
     have aK:Zj.wrap (-(j8 (kY d) k))= -(j8 (kY d) k):=by have:=az.o;exact IntWalk.i64_in (-(j8 (kY d) k)) (by omega)
     clear l af K;generalize aL:(j8 (kY d) j== -(j8 (kY d) k))=o at s
     cases o
     ·go_wp2_with fail
      go_quiet (fail)
      go_wp2;go_roundw
      case rel=>exact⟨k+1,_,by omega,by go_num,s.o,rfl⟩
      case measure=>simp[intOf];omega
     ·go_wp2_with fail
      go_quiet (fail)
      go_wp2
      go_ret2
      exact⟨_,_,Gv f.o.symm (LZ hl s.o).symm,by rw[f.o,e_];exact H.o.below (AO _ _),by rw[f.o,e_];exact nc ab.o (AO _ _),by rw[e_];exact y.o.trans ((AO _ _).mono y.o.size)⟩
    ·obtain rfl:k=0:=by omega
     have l:=Gu (kY d) 0;rw[I.o] at l;have s:=aa l;clear l z
     go_wp2_with fail
     go_quiet (fail)
     go_wp2;go_roundw
     case rel=>exact⟨1,_,by omega,by go_num,s.o,rfl⟩
     case measure=>simp[intOf];omega
   ·have L:=aa (AO G q);have ag:ur (kY d) (kY d).length=false:=by
     have:=I.o;rw[show k=(kY d).length by rw[f.o];omega] at this;exact this
    have aB:=aa ag;clear ag;go_wp2
    go_ret2
    exact⟨_,_,Gv f.o.symm aB.o.symm,by rw[f.o];exact H.o.below L.o,by rw[f.o];exact nc ab.o L.o,y.o.trans (L.o.mono y.o.size)⟩
end
section
open Go.RowKit Go.Shelf
section
variable {K:Nat->Prop}{base:Nat}{w W:World}{G:Nat}{hs:Nat->ax}{cb:Nat->Nat}{s:an}
theorem L5{b lC:Nat}{t wY:TypeId}{cs Gw:List Value}(h:aN w b t cs)(h':aN w lC wY Gw)(c:t≠wY):b≠lC:=λ e=>by
 subst e;have:=h.symm.trans h';injection this with this
 injection this with _ d
 exact c d
theorem aX.other(h:aX K base w G hs cb s){b k:Nat}{v:Value}(j:G≠b)(l:∀r g,(hs r).b=some g->b≠g)(m:∀d,d<s.c.cl.length->cb d≠b)(n:¬K b):aX K base (w.setCell ⟨b,k,none⟩ v) G hs cb s/\aC K w (w.setCell ⟨b,k,none⟩ v):=by
 have f:=kZ w b k v;refine⟨⟨⟨h.e.box.kept f (λ e=>j (by injection e)),h.e.rows.kept f (λ r g e o=>l r g e (by injection o)),λ d i=>(h.e.cls d i).kept f (λ e=>m d i (by injection e)),h.e.inj,h.e.q7,h.e.rL⟩,h.s.more f.size⟩,aC.set b k v n⟩
theorem an.L6{l:List Int}{x:rZ}(h:l.length<2):s.r9 l x={s with c:=kn s.c l,ci:=s.ci++[x]}:=by
 unfold an.r9 kn;rw[if_neg (by omega)]
def vn(K:Nat->Prop)(base:Nat)(w:World)(G:Nat)(cb:Nat->Nat)(s':an)(e:Ending)(w':World):Prop:=
 e=.returned (.tuple #[])/\∃hs',aX K base w' G hs' cb s'/\aC K w w'
theorem vn.to{s1 s2:an}{e:Ending}{w':World}(h:vn K base w G cb s1 e w')(b:s1=s2):vn K base w G cb s2 e w':=b▸h
end
theorem Gx(h:aX K base w G hs cb s)(T:jT s.c)(ao:s.ci.length=s.c.cl.length)(aQ:s.c.n<=60000)(aq:s.c.wt.length=2*s.c.n+2)(ar:∀k,(az s.c.wt k).length<=1000000)(au:s.c.st.length<=1000000)
  {nw:Option Addr} {jY bH blk:Nat} {ah:List Int} {x:rZ} (av:cb s.c.cl.length=blk) (hblk:aN w blk vh [.slice nw jY bH,.bool x.kV,.int .i64 x.bg,.int .i64 x.ac]) (aw:base<=blk) (ay:¬K blk) (aA:∀d,d<s.c.cl.length->cb d≠blk) (aB:aS w nw jY bH ah) (j:∀z∈ah,gW s.c.n z):
  Calls y_ 144 #[.pointer (some ⟨G,0,none⟩),.pointer (some ⟨blk,0,none⟩)] w (vn K base w G cb (s.oy (kY ah) (se (kY ah)) x)):=by
 have U:=hblk.cell 0;have U:w.cell? ⟨blk,0,none⟩=some (.slice nw jY bH):=U;have aD:=aa (L4 nw jY bH ah w aB);obtain⟨l,hl⟩:∃l,kY ah=l:=⟨_,rfl⟩
 obtain⟨m,hm⟩:∃m,l.length=m:=⟨_,rfl⟩
 have aE:∀z∈l,gW s.c.n z:=λ z aR=>j z (BN.1 (hl▸aR)).1
 have D:=aa (z_ h (z_ T (z_ ao (z_ aQ (z_ aq (z_ ar (z_ au (z_ av (z_ hblk (z_ aw (z_ ay (z_ aA (z_ hl (z_ hm aE))))))))))))));clear h T ao aq ar au av aw ay aA aB j hl hm aE hblk;go_enter Tryz.func144,Tryz.ntmps144
 go_upto_region 1 with(go_at_call 179;refine aD.o.mono ?_;rintro e w1 ⟨A,c,rfl,aF,aG,aH⟩;have u:=aa (z_ aF (z_ aG aH));clear aF aG aH)
 have hl:=D.o.2.2.2.2.2.2.2.2.2.2.2.2.1;have hm:=D.o.2.2.2.2.2.2.2.2.2.2.2.2.2.1;obtain⟨b,V⟩:∃b,se l=b:=⟨_,rfl⟩
 rw[hl,hm] at u;rw[hl,hm,V];have E:=aa (D.o.1.below u.o.2.2);have B:=D.o.2.2.2.2.2.2.2.2.1.below u.o.2.2;have aT:w1.cell? ⟨blk,0,none⟩=some (.slice nw jY bH):=B.cell 0;have f1:w1.frozen? ⟨blk,0,none⟩=false:=B.free 0;have X:=aa (z_ hl (z_ hm V));clear hl hm V U aD;have W:=B.set 0 (.slice A m c);have Y:=E.o.1.other (b:=blk) (k:=0) (v:=.slice A m c) (L5 E.o.1.e.box B (by decide)) (λ r g F aU=>E.o.1.e.rows.CN B (λ r=>(CY r).2) r g F (by rw[aU])) D.o.2.2.2.2.2.2.2.2.2.2.2.1 D.o.2.2.2.2.2.2.2.2.2.2.1;have p:=aa (E.o.2.trans Y.2);have q:=aa Y.1;clear Y;have Z:(w1.setCell ⟨blk,0,none⟩ (.slice A m c)).ownsRow base 3 1 (ax.v ⟨A,m,c⟩) m (iY l):=by
  refine yD (pL u.o.2.1 (λ g ab=>Below.heap_setCell _ _ _ _ (λ e=>?_))) (g_ D.o.1.e.lt);have h1:=u.o.2.1.lt g ab;have aI:=D.o.2.2.2.2.2.2.2.2.1.lt;have e:g=blk:=e;omega
 have aJ:∀g,(⟨A,m,c⟩:ax).b=some g->(∀r,(hs r).b≠some g)/\¬K g:=λ g ab=>by
  have h1:=u.o.2.1.lt g (by rw[show Value.slice A m c=ax.v ⟨A,m,c⟩ from rfl,ax.own];exact ab);refine⟨λ r e=>?_,λ hk=>?_⟩
  ·have:=(D.o.1.e.rows.lt e).2;omega
  ·have:=D.o.1.s.lt g hk;omega
 go_upto_region 3 with fail
 generalize w1.setCell ⟨blk,0,none⟩ (.slice A m c)=i at W q p Z⊢;have H:fE (aX K base i G (iN hs (kr s.c.cl.length) ⟨A,m,c⟩) cb (s.r9 l x)):=aa (q.o.r9 (hl:=⟨A,m,c⟩) (by rw[D.o.2.2.2.2.2.2.2.1];exact W) (by rw[D.o.2.2.2.2.2.2.2.1];exact D.o.2.2.2.2.2.2.2.2.2.1) (by rw[D.o.2.2.2.2.2.2.2.1];exact D.o.2.2.2.2.2.2.2.2.2.2.1) (by rw[D.o.2.2.2.2.2.2.2.1];exact D.o.2.2.2.2.2.2.2.2.2.2.2.1) Z aJ D.o.2.2.1);clear Z aJ W aT f1 B E
 cases b with
 |true=>
  go_wp2_with fail
  go_end0;refine vn.to (s1:=s) ⟨rfl,_,q.o,p.o⟩ ?_;unfold an.oy o8;rw[X.o.1,X.o.2.2,if_pos rfl,if_pos (u_ rfl)]
 |false=>
  by_cases L:m=0
  ·subst L;have aV:i.cell? ⟨G,15,none⟩=some (.bool s.c.kS):=q.o.e.ku (k:=15) (v:=.bool s.c.kS) rfl;have f15:=q.o.e.free 15;have f:=q.o.Fs;have f:=aa (z_ f.1 (p.o.trans f.2))
   go_wp2_with fail
   go_end0;refine vn.to (s1:={s with c:=wE s.c}) ⟨rfl,_,f.o.1,f.o.2⟩ ?_;unfold an.oy o8;rw[X.o.1,X.o.2.2,X.o.2.1,if_neg (by decide),if_pos rfl,if_pos (w_ rfl)]
  ·have a7:((m:Int)==0)=false:=by rw[beq_eq_false_iff_ne];omega
   have a8:decide ((m:Int)=0)=false:=decide_eq_false (by omega);obtain⟨bz,M,ad,-⟩:=H.o.e.wM (r:=kr s.c.cl.length) (m:=m) (by rw[jG]) L;rw[jG] at M;have M:A=some ⟨bz,0,none⟩:=M;subst M;have I:=H.o.e.xV ad;rw[jG] at I;have I:m<=c:=I;obtain⟨y,N⟩:∃y,aj l 0=y:=⟨_,rfl⟩
   have O:az (s.r9 l x).c.cl s.c.cl.length=l:=by show az (s.c.cl++[l]) _=l;rw[uI]
   have a':i.cell? ⟨bz,0,none⟩=some (.int .i64 y):=by
    have:=H.o.e.xZ ad (k:=0) (by rw[O,X.o.2.1];omega);rw[O,N] at this;exact this
   have aK:gW s.c.n y:=by rw[<-N];exact D.o.2.2.2.2.2.2.2.2.2.2.2.2.2.2 _ (lZ (by rw[X.o.2.1];omega))
   have C:=aa (z_ N (z_ aK O));have aW:=aa I;clear N aK O ad I
   by_cases aL:m=1
   ·subst aL;have aM:s.r9 l x={s with c:=kn s.c l,ci:=s.ci++[x]}:=an.L6 (by rw[X.o.2.1];omega);obtain⟨z,j⟩:∃z,jW s.c y=z:=⟨_,rfl⟩
    have F:=D.o.2.1.range y;rw[j] at F;have J:fE (aX K base i G (iN hs (kr s.c.cl.length) ⟨some ⟨bz,0,none⟩,1,c⟩) cb {s with c:=kn s.c l,ci:=s.ci++[x]}):=aa (aM▸H.o);have ae:fE (Calls y_ 152 #[.pointer (some ⟨G,0,none⟩),.int .i64 y] i λ e w'=>e=.returned (.int .i8 z)/\i=w'):=aa (by
     have:=Bw J.o D.o.2.1.new D.o.2.2.2.1 (x:=y) C.o.2.1;rw[show jW (({s with c:=kn s.c l,ci:=s.ci++[x]}:an).c) y=z from j] at this;exact this)
    have aO:=aa (z_ j F);clear aM j F;have c1:(1:Int)<=(c:Int):=by have:=aW.o;omega
    have af:fE (∀c':Core,o8 s.c l false=c'->∀s',s'=({s with c:=c',ci:=s.ci++[x]}:an)->s'=s.oy (kY ah) (se (kY ah)) x):=aa (λ c' h1 s' aI=>by
     unfold an.oy;rw[X.o.1,X.o.2.2,h1,if_neg (by rw[X.o.2.1];decide),aI])
    have ag:fE (o8 s.c l false=if z= -1 then wE (kn s.c l) else if z=0 then k6 (kn s.c l) y (some s.c.cl.length) else kn s.c l):=aa (by
     unfold o8;rw[if_neg (by decide),if_neg (by rw[X.o.2.1];decide),if_pos (by rw[X.o.2.1]),C.o.1,aO.o.1])
    by_cases P:z= -1
    ·have ai:z<0:=by omega
     have aY:decide (z<0)=true:=decide_eq_true ai;have Q:=aa P;clear P;have aV:i.cell? ⟨G,15,none⟩=some (.bool s.c.kS):=J.o.e.ku (k:=15) (v:=.bool s.c.kS) rfl;have f15:=q.o.e.free 15;have f:=J.o.Fs;have f:=aa (z_ f.1 (p.o.trans f.2))
     go_wp2_with (go_at_call 152;refine ae.o.mono ?_;rintro e R ⟨rfl,rfl⟩;dsimp only)
     go_end0;refine vn.to ⟨rfl,_,f.o.1,f.o.2⟩ (af.o (wE (kn s.c l)) (by rw[ag.o,if_pos Q.o]) _ rfl)
    ·have ai:¬z<0:=by have:=aO.o;omega
     have aY:decide (z<0)=false:=decide_eq_false ai;have Q:=aa P;clear P
     by_cases t:z=0
     ·have d0:(z==0)=true:=beq_iff_eq.2 t;have aZ:decide (z=0)=true:=decide_eq_true t;have ak:=aa t;clear t;have a6:fE (Calls y_ 156 #[.pointer (some ⟨G,0,none⟩),.int .i64 y,.pointer (some ⟨blk,0,none⟩)] i λ e w'=>e=.returned (.tuple #[])/\∃h':ax,aX K base w' G (iN (iN hs (kr s.c.cl.length) ⟨some ⟨bz,0,none⟩,1,c⟩) 4 h') cb {s with c:=k6 (kn s.c l) y (some s.c.cl.length),ci:=s.ci++[x]}/\aC K i w'):=aa (by
       have h1:=Bv J.o y (some s.c.cl.length) D.o.2.1.new (show gW s.c.n y from C.o.2.1) (show s.c.n<=60000 from D.o.2.2.2.1) (show s.c.st.length<=1000000 from D.o.2.2.2.2.2.2.1);rw[show qQ cb (some s.c.cl.length)=.pointer (some ⟨blk,0,none⟩) by show Value.pointer (some ⟨cb s.c.cl.length,0,none⟩)=_;rw[D.o.2.2.2.2.2.2.2.1]] at h1;exact h1)
      go_wp2_with (first|(go_at_call 152;refine ae.o.mono ?_;rintro e R ⟨rfl,rfl⟩;dsimp only)|(go_at_call 156;refine a6.o.mono ?_;rintro e R ⟨rfl,h',f,al⟩;dsimp only))
      go_end0;refine vn.to ⟨rfl,_,f,p.o.trans al⟩ (af.o (k6 (kn s.c l) y (some s.c.cl.length)) (by rw[ag.o,if_neg Q.o,if_pos ak.o]) _ rfl)
     ·have d0:(z==0)=false:=by rw[beq_eq_false_iff_ne];exact t
      have aZ:decide (z=0)=false:=decide_eq_false t;have ak:=aa t
      go_wp2_with (go_at_call 152;refine ae.o.mono ?_;rintro e R ⟨rfl,rfl⟩;dsimp only)
      go_end0;refine vn.to ⟨rfl,_,J.o,p.o⟩ (af.o (kn s.c l) (by rw[ag.o,if_neg Q.o,if_neg ak.o]) _ rfl)
   ·have ba:((m:Int)==1)=false:=by rw[beq_eq_false_iff_ne];omega
    have bb:decide ((m:Int)=1)=false:=decide_eq_false (by omega);have aP:fE (2<=l.length):=aa (by rw[X.o.2.1];omega);have S:=Kw H.o (d:=s.c.cl.length) (by show _<(s.c.cl++[l]).length;simp) (by rw[C.o.2.2];exact aP.o) (by rw[C.o.2.2];exact D.o.2.2.2.2.2.2.2.2.2.2.2.2.2.2) (show s.c.n<=60000 from D.o.2.2.2.1) (show s.c.wt.length=2*s.c.n+2 from D.o.2.2.2.2.1) (show∀k,(az s.c.wt k).length<=1000000 from D.o.2.2.2.2.2.1);rw[D.o.2.2.2.2.2.2.2.1,FO,C.o.2.2] at S;have S:=aa S
    go_wp2_with (go_at_call 180;refine S.o.mono ?_;rintro e R ⟨rfl,bc,f,al⟩;dsimp only)
    go_end0;refine vn.to ⟨rfl,_,f,p.o.trans al⟩ ?_;unfold an.oy o8;rw[X.o.1,X.o.2.2,X.o.2.1,if_neg (by decide),if_neg L,if_neg aL,if_neg (by rintro(h|h);cases h;exact L h)];unfold kn;rw[if_pos aP.o];rfl
end
section
open Go.RowKit Go.Shelf
theorem Gy:(y_.info? 126).map (λ i=>(i.zero,i.size,i.bytes))=some (some (.agg #[.int .i64 0,.slice none 0 0]),2,32):=by kernel_rfl
theorem DC:∀l:List nv,(mg l).length=l.length*2
 |[]=>rfl
 |p::l=>by
  have:=DC l;unfold mg at this⊢;simp only[o_,List.flatten_cons,t_,List.length_cons,List.length_nil,this];omega
theorem L7(a b:List nv):mg (a++b)=mg a++mg b:=by simp[mg]
def oM(K:Nat->Prop)(w:World)(s:an):Prop:=∀h,s.jr=some h->h.n=s.aA.length/\h.c=h.n/\((h.A=none/\h.n=0)\/∃b off,h.A=some ⟨b,off,none⟩/\(0<h.n->K b)/\∀j u,(mg s.aA)[j]? =some u->w.cell? ⟨b,off+j,none⟩=some u)
theorem oM.kept{s':an}(h:oM K w s)(f:aC K w w')(h1:s'.jr=s.jr)(m:s'.aA=s.aA):oM K w' s':=by
 intro d k;rw[h1] at k;obtain⟨a,b,c⟩:=h d k;rw[m];refine⟨a,b,c.imp id ?_⟩;rintro⟨l,off,e,hk,o⟩;refine⟨l,off,e,hk,λ j u g=>?_⟩;have q:0<d.n:=by
  rcases Nat.eq_zero_or_pos d.n with i|i
  ·rw[i] at a;have:s.aA=[]:=v_ a.symm;rw[this] at g;simp[mg] at g
  ·exact i
 rw[f.cell (p:=⟨l,off+j,none⟩) (hk q)];exact o j u g
def tJ(hs:Nat->ax)(s:an):Option Nat:=match s.jr with
 |some _=>none
 |none=>(hs 11).b
def BP(w:World)(base:Nat)(row:Option Nat)(n:Nat)(ys:List Value)(v':Value)(w':World):Prop:=
 w'.ownsRow base 126 2 v' n ys/\w.grownBy w' row/\(v'.ownBlock=row\/∀g,v'.ownBlock=some g->w.heap.size<=g)
theorem L8(h:aX K base w G hs cb s)(P:oM K w s)(ty:TypeId)(f c1:Nat)(p:nv)(L:w.cell? ⟨f,0,none⟩=some (.int .i64 p.lH))(h1:w.cell? ⟨f,1,none⟩=some p.h.v)(Q:s.aA.length<=1099511627776):
  ∃v' w',(Builtin.append_ #[45,45] ty #[nL hs s,.slice (some ⟨f,0,none⟩) 1 c1]).run y_ w=.ok v' w'/\BP w base (tJ hs s) (s.aA.length+1) (mg (s.aA++[p])) v' w':=by
 obtain⟨i0,q,r,t,y⟩:=info_parts Gy;have z:∀j u,([.int .i64 p.lH,p.h.v]:List Value)[j]? =some u->w.cell? ((⟨f,0,none⟩:Addr).add j)=some u:=by
  intro j u i;have R:j<2:=(c_.1 i).1;rw[Zo,Zm];rcases(show j=0\/j=1 by omega) with rfl|rfl
  ·simp only[Zx,Zk] at i;subst i;exact L
  ·simp only[List.getElem?_cons_succ,Zx,Zk] at i;subst i;exact h1
 have H:∀u∈([.int .i64 p.lH,p.h.v]:List Value),u.oneCell'=true:=by
  intro u hu;simp only[s_,List.not_mem_nil,or_false] at hu;rcases hu with rfl|rfl<;>rfl
 have I:mg (s.aA++[p])=mg s.aA++[.int .i64 p.lH,p.h.v]:=by rw[L7];rfl
 have B:=g_ h.e.lt
 cases k:s.jr with
 |none=>
  have C:=h.e.rows.row 11;have l:cont hs cb s 11=mg s.aA:=by show(match s.jr with|some _=> []|none=>mg s.aA)=_;rw[k]
  have o:(hs 11).n=s.aA.length:=by
   have:=C.1;rw[l,DC] at this;have M:nD 11=2:=rfl;rw[M] at this;omega
  rw[l,o] at C;obtain⟨v',w',g1,g2,g3,_,g5⟩:=run_append_own_at (P:=y_) w base 45 ty 126 i0 (.agg #[.int .i64 0,.slice none 0 0]) 2 32 d_ q r t y rfl (by decide) (hs 11).v s.aA.length (mg s.aA) C ⟨f,0,none⟩ 1 c1 [.int .i64 p.lH,p.h.v] rfl z H (by unfold maxLen;omega) (by omega) B;have D:nL hs s=(hs 11).v:=by unfold nL;rw[k]
  have E:tJ hs s=(hs 11).b:=by unfold tJ;rw[k]
  rw[D,E,I];rw[ax.own] at g3 g5;exact⟨v',w',g1,g2,g3,g5.imp id (λ e g d=>by rw[e] at d;injection d with d;omega)⟩
 |some F=>
  obtain⟨a,b,c⟩:=P F k;have D:nL hs s=F.v:=by unfold nL;rw[k]
  have E:tJ hs s=none:=by unfold tJ;rw[k]
  rw[D,E,I];obtain⟨A,n,J⟩:=F;rcases c with⟨m,o⟩|⟨N,off,m,hk,l⟩
  ·simp only at m o a b;subst m;subst o;subst b;have O:s.aA=[]:=v_ a.symm;rw[O];obtain⟨v',w',g1,g2,g3,_,g5⟩:=run_append_own_at (P:=y_) w base 45 ty 126 i0 (.agg #[.int .i64 0,.slice none 0 0]) 2 32 d_ q r t y rfl (by decide) (.slice none 0 0) 0 [] (World.ownsRow_nil _ _ _ _) ⟨f,0,none⟩ 1 c1 [.int .i64 p.lH,p.h.v] rfl z H (by unfold maxLen;omega) (by omega) B;refine⟨v',w',g1,g2,g3,g5.imp id (λ e g d=>by rw[e] at d;injection d with d;omega)⟩
  ·simp only at m hk l a b;subst m;subst b;obtain⟨v',w',g1,g2,g3⟩:=run_append_arg_grows (P:=y_) w 45 ty 126 i0 (.agg #[.int .i64 0,.slice none 0 0]) 2 32 d_ q r t y rfl (by decide) ⟨N,off,none⟩ J J (mg s.aA) (by rw[DC,a]) (λ j u i=>by rw[Zo];exact l j u i) ⟨f,0,none⟩ 1 c1 [.int .i64 p.lH,p.h.v] rfl z (by omega) (by unfold maxLen;omega) (by omega);refine⟨v',w',g1,?_,g3,w_ (λ g d=>(g2.lt g d).1)⟩;rw[<-a];exact yD g2 B
section
variable {K:Nat->Prop}{base:Nat}{w bG W:World}{G:Nat}{hs:Nat->ax}{cb:Nat->Nat}{s:an}
theorem L9{row:Option Nat}{w w':World}(h:w.grownBy w' none):w.grownBy w' row:=⟨h.os,h.tape,h.output,h.size,λ k hk _=>h.block k hk (by simp)⟩
theorem aX.Gz(h:aX K base w G hs cb s){v':Value}{p:nv}(q:BP w base (tJ hs s) (s.aA.length+1) (mg (s.aA++[p])) v' bG):
  ∃h':ax,v'=h'.v/\bG.cell? ⟨G,14,none⟩=some (nL hs s)/\bG.frozen? ⟨G,14,none⟩=false/\aX K base (bG.setCell ⟨G,14,none⟩ v') G (iN hs 11 h') cb {s with aA:=s.aA++[p],jr:=none}/\aC K w (bG.setCell ⟨G,14,none⟩ v'):=by
 obtain⟨n,j,f⟩:=q;have m:w.grownBy bG (hs 11).b:=by
  unfold tJ at j
  cases l:s.jr with
  |none=>rw[l] at j;exact j
  |some t=>rw[l] at j;exact L9 j
 obtain⟨h',rfl,u⟩:=ax.lG n;rw[ax.own] at f;have i:h'.b=(hs 11).b\/∀g,h'.b=some g->w.heap.size<=g:=by
  rcases f with f|f
  ·unfold tJ at f
   cases l:s.jr with
   |none=>rw[l] at f;exact u_ f
   |some t=>rw[l] at f;exact w_ (λ g e=>by rw[f] at e;cases e)
  ·exact w_ f
 have o:=h.e.iT (r:=11) (h':=h') (ys:=mg (s.aA++[p])) m (by rw[u];exact n) i;have y:∀k,bG.cell? ⟨G,k,none⟩=w.cell? ⟨G,k,none⟩:=λ k=>p_ (m.block G h.e.box.lt (λ e=>h.e.ue 11 G e.symm rfl))
 have z:Sep K bG G (iN hs 11 h') cb s.c.cl.length:=(h.s.iT (λ g e hk=>by
  rcases i with i|i
  ·exact h.s.row 11 g (i▸e) hk
  ·have:=i g e;have:=h.s.lt g hk;omega)).more m.size
 refine⟨h',rfl,by rw[y];exact h.e.ku rfl,o.free 14,⟨?_,z.more (kZ bG G 14 _).size⟩,(aC.grown m h.s.lt (λ b e=>h.s.row 11 b e)).trans (aC.set G 14 _ h.s.g)⟩;refine(o.field 14 h'.v).eq rfl rfl ?_ (λ d _=>(vJ hs s (by omega) _ d).symm) rfl (λ r=>?_)
 ·simp[q6,nL,iN]
 ·rw[vI hs cb _ (by omega)]
  by_cases e:r=11
  ·subst e;rw[jG];rfl
  ·rw[bh _ _ e];simp only[cont,if_neg e]
end
end
section
open Go.RowKit
def uT(ds:List (Option Tmp))(cs:List Value)(sp:Nat->Bool)(b:Operand->Value):List Edge->Prop
 |[]=>True
 |e::r=>(Region.binds .any e=true->sp e.on=false->∀s,qB ds e.on=some s->b (.tmp s)=cs.getD e.on undef)/\uT ds cs sp b r
def vU(cs:List Value)(sp:Nat->Bool)(G:Nat->Value->World->Prop)(j:Nat)(v:Value)(w:World):Prop:=if sp j=true then G j v w else v=cs.getD j undef
def Ag(sp:Nat->Bool)(dead:Nat->Option Nat)(j:Nat):Option Nat:=if sp j=true then dead j else none
theorem uT.of{ds:List (Option Tmp)}{cs:List Value}{sp:Nat->Bool}{G:Nat->Value->World->Prop}{dead:Nat->Option Nat}{i:Nat}{vals:Nat->Value}{w:World}{av:Operand->Value}:∀{l:List Edge},rN ds (vU cs sp G) (Ag sp dead) i vals w av l->uT ds cs sp av l
 |[],_=>trivial
 |e::r,h=>⟨λ c h1 s hs=>by
  obtain⟨b,d⟩:=h.1 c;have b:=b (u_ (by unfold Ag;rw[h1];rfl));unfold vU at b;rw[h1] at b;rw[d s hs];exact b,uT.of h.2⟩
def Ah(P:Program)(ds:List (Option Tmp))(ws:List (List Nat))(old:List (Tmp×Value))(S:World->Prop)(cs:List Value)(sp:Nat->Bool)(G:Nat->Value->World->Prop)(dead:Nat->Option Nat)(Init:World->Prop)(mH:Nat):Nat->List Oper->Prop
 |_,[]=>True
 |k,o::r=>((sp k=true->yK P ds ws old S (vU cs sp G) (Ag sp dead) Init mH k o)/\(sp k=false->∀(b:Operand->Value)(w:World),S w->uT ds cs sp b o.after.toList->pK b old->rf b->bq P b o w λ v w'=>v=cs.getD k undef/\w'=w))/\Ah P ds ws old S cs sp G dead Init mH (k+1) r
theorem Ah.ok{P:Program}{ds:List (Option Tmp)}{ws:List (List Nat)}{old:List (Tmp×Value)}{S:World->Prop}{cs:List Value}{sp:Nat->Bool}{G:Nat->Value->World->Prop}{dead:Nat->Option Nat}{Init:World->Prop}{mH:Nat}(b:yL ds old=true):∀{k:Nat}{l:List Oper},Ah P ds ws old S cs sp G dead Init mH k l->uj P ds ws old S (vU cs sp G) (Ag sp dead) Init mH k l
 |_,[],_=>trivial
 |k,o::r,h=>⟨by
  cases hk:sp k with
  |true=>exact h.1.1 hk
  |false=>
   intro vals w d c i e f hp;refine bq.mono (h.1.2 hk d w c (uT.of e) (q9.ok b f) hp) λ v w' ⟨h1,g⟩=>?_
   subst g;exact .same c (by unfold vU;rw[hk];exact h1),Ah.ok b h.2⟩
end
section
open Go.RowKit Go.Shelf
theorem lY.len{w:World}{b n:Nat}{S:List Int}(h:lY w b n S)(ty:TypeId):∃m:Nat,m<=n/\(Builtin.len_ #[114] ty #[.map (some b)]).run y_ w=.ok (.int .i64 (m:Int)) w:=by
 obtain⟨D,h1,c⟩:=h;exact⟨_,h1.size_le,h1.len Tryz.underlying114 ty⟩
theorem DD(x:Int)(b:0<=x)(h1:x<=1000000):(Lit.int .i64 x).wf=true:=by
 simp[Lit.wf,IntKind.min,IntKind.max,IntKind.bits,IntKind.signed];omega
def an.wZ(s:an)(l:List Int)(bg:Int)(aA:List nv):an:=
 {s with c:=k6 (kn s.c l) (aj l 0) (some s.c.cl.length),ci:=s.ci++[⟨true,bg,s.aZ⟩],aO:=s.aO++[s.c.cl.length],aA:=aA,jr:=none}
structure qm(K:Nat->Prop)(w:World)(n:Nat)(p:nv):Prop where
 lH:p.lH=1\/p.lH=2\/p.lH=3
 rd:∃ah,aS w p.h.A p.h.n p.h.c ah/\∀x∈ah,gW n x
 blk:∀b,p.h.b=some b->0<p.h.n->K b
theorem aS.iR(h:aS w A n c ah)(f:aC K w w')(hk:∀b,A.map (·.block)=some b->0<n->K b):aS w' A n c ah:=
 ⟨h.len,h.cap,h.mG,h.od,λ d=>by
  obtain⟨b,off,e,h1,g⟩:=h.cells d;refine⟨b,off,e,Nat.lt_of_lt_of_le h1 f.size,λ j i=>?_⟩;rw[f.cell (p:=⟨b,off+j,none⟩) (hk b (by rw[e];rfl) d)];exact g j i⟩
theorem qm.iR{K:Nat->Prop}{w w':World}{n:Nat}{p:nv}(h:qm K w n p)(f:aC K w w'):qm K w' n p:=by
 obtain⟨b,h1,c⟩:=h.rd;exact⟨h.lH,⟨b,h1.iR f h.blk,c⟩,h.blk⟩
theorem qm.mono{k3:Nat->Prop}{p:nv}(h:qm K w n p)(hk:∀b,K b->k3 b):qm k3 w n p:=⟨h.lH,h.rd,λ b e c=>hk b (h.blk b e c)⟩
theorem aX.qC(h:aX K base w G hs cb s){g:Nat}(k:g<w.heap.size)(l:g≠G)(m:∀r,(hs r).b≠some g)(n:∀d,d<s.c.cl.length->cb d≠g):aX (qC K g) base w G hs cb s:=
 ⟨h.e,⟨λ b f=>f.elim (h.s.lt b) (λ e=>by rw[e];exact k),λ f=>f.elim h.s.g (λ e=>l e.symm),λ r b e f=>f.elim (h.s.row r b e) (λ i=>m r (by rw[e,i])),λ d j f=>f.elim (h.s.cl d j) (λ i=>n d j i)⟩⟩
def Ma(V:World)(l:List Int)(App:Option Addr->Nat->World->Value->World->Prop)(i:Nat)(v:Value)(w:World):Prop:=
 if i=6 then∃b c2,v=.slice b l.length c2/\Below V.heap.size V w/\w.ownsRow V.heap.size 3 1 (.slice b l.length c2) l.length (iY l)
 else if i=7 then∃b c2,v=.agg #[.int .i64 2,.slice b l.length c2]/\Below V.heap.size V w/\w.ownsRow V.heap.size 3 1 (.slice b l.length c2) l.length (iY l)
 else if i=8 then∃b c2 w1,v=.slice (some ⟨w1.heap.size,0,none⟩) 1 1/\Below V.heap.size V w1/\w1.ownsRow V.heap.size 3 1 (.slice b l.length c2) l.length (iY l)/\w=w1.alloc (.cells #[.int .i64 2,.slice b l.length c2] 126)
 else∃b c2 w1,Below V.heap.size V w1/\w1.ownsRow V.heap.size 3 1 (.slice b l.length c2) l.length (iY l)/\App b c2 w1 v w
def y5(i:Nat):Bool:=i==6||i==7||i==8||i==9
def Mb(i:Nat):Option Nat:=if i=9 then none else some (i+1)
theorem BQ:∀args w,(callFunc 81 args).run y_ w=.ok (.enter 81 args) w:=enters_of Tryz.func81 (by kernel_rfl) rfl
def GA(K:Nat->Prop)(base:Nat)(w:World)(G:Nat)(s:an)(l:List Int)(e:Ending)(w':World):Prop:=
 e=.returned (.tuple #[])/\∃(d:Nat->Prop)(hs':Nat->ax)(f:Nat->Nat)(bg:Int)(p:nv),(∀b,K b->d b)/\aX d base w' G hs' f (s.wZ l bg (s.aA++[p]))/\aC K w w'/\0<=bg/\bg<=l.length/\qm d w' s.c.n p/\∀b,p.h.b=some b->w.heap.size<=b
theorem Mc(h:aX K base w G hs cb s)(C:vT s)(P:oM K w s)(T:jT s.c)(b3:s.ci.length=s.c.cl.length)(b4:s.c.n<=60000)(b5:s.c.wt.length=2*s.c.n+2)(b6:∀k,(az s.c.wt k).length<=1000000)(b7:s.c.st.length<=1000000)(b8:s.aO.length<=1000000)(b9:s.aA.length<=1099511627776)
  {bz m c:Nat} {l:List Int} (hm:l.length=m) (bb:1<=m) (b':m<=200000) (O:w.ownsRow base 3 1 (.slice (some ⟨bz,0,none⟩) m c) m (iY l)) (ca:∀r,(hs r).b≠some bz) (cc:¬K bz) (hl:∀z∈l,gW s.c.n z) (cd:∀z∈l,gV s.c.lvl (aG z)<=1000000):
  Calls y_ 148 #[.pointer (some ⟨G,0,none⟩),.slice (some ⟨bz,0,none⟩) m c] w (GA K base w G s l):=by
 have lc:m<=c:=by
  rcases O.2 with⟨L,_⟩|⟨g,cap,cur,L,_,_,bc,_⟩
  ·cases L
  ·injection L with h1 F ao;omega
 have cf:bz<w.heap.size:=(O.lt bz rfl).2;have cg:∀k,k<m->w.cell? ⟨bz,k,none⟩=some (.int .i64 (aj l k)):=λ k hk=>by
  have:=O.cellAt k (by omega);rw[this];unfold iY;rw[List.getElem?_map,a_ (by omega),nh (by omega)];rfl
 have D:=aa (z_ h (z_ C (z_ P (z_ T (z_ b3 (z_ b4 (z_ b5 (z_ b6 (z_ b7 (z_ b8 (z_ b9 (z_ hm (z_ O (z_ ca (z_ cc (z_ hl (z_ cd cf)))))))))))))))));have dn:=aa cg;have dO:(m:Int)<=(c:Int):=by omega
 have aB:=aa (z_ bb (z_ b' lc));clear h C P T b3 b5 b6 b7 b8 b9 hm O ca cc hl cd cf cg bb b' lc b4;have dp:= @run_makeMap y_;go_enter Tryz.func148,Tryz.ntmps148
 go_upto_region 1 with fail
 have ch:=aa (lY.made w);have cj:=aa ((m_ w.heap.size w).alloc (l_ _) (.map #[] 0));generalize dq:w.alloc (.map #[] 0)=dP at ch cj⊢;clear dq dp
 go_wp2_with fail
 go_loopw [11] (λ i wr=>∃k:Nat,k<=m/\i=.int .i64 k/\(∃S,lY wr w.heap.size k S)/\Below w.heap.size w wr) (λ i _=>m-(intOf i).toNat)
 case atStart=>exact⟨0,Zu _,rfl,⟨_,ch.o⟩,cj.o⟩
 case round=>
  obtain⟨k,hk,rfl,⟨S,bd⟩,ck⟩:=hrel;have cm:=aa bd;have V:=aa ck;have dr:=aa hk;clear bd ck hk
  by_cases aI:k<m
  ·have bx:(k:Int)<(m:Int):=by omega
   have dt:decide ((k:Int)<(m:Int))=true:=decide_eq_true bx;obtain⟨x,bA⟩:∃x,aj l k=x:=⟨_,rfl⟩
   have bC:x∈l:=by rw[<-bA];exact lZ (by rw[D.o.2.2.2.2.2.2.2.2.2.2.2.1];exact aI)
   have cn:=D.o.2.2.2.2.2.2.2.2.2.2.2.2.2.2.2.1 x bC;have cp:=D.o.2.2.2.2.2.2.2.2.2.2.2.2.2.2.2.2.1 x bC;have du:wr.cell? ⟨bz,k,none⟩=some (.int .i64 x):=by
    rw[p_ (V.o.block bz D.o.2.2.2.2.2.2.2.2.2.2.2.2.2.2.2.2.2),dn.o k aI,bA]
   have E:=(D.o.1.below V.o).1;obtain⟨v,L⟩:∃v,aG x=v:=⟨_,rfl⟩
   have dv:=D.o.2.2.2.1.o7;have cq:=cn.2;have dw:=D.o.2.2.2.2.2.1;rw[L] at cq;obtain⟨g2,cr,dx,f3⟩:=E.e.lW 3 2 rfl E.e.mu (by omega);obtain⟨y,aD⟩:∃y,gV s.c.lvl v=y:=⟨_,rfl⟩
   have ct:=E.e.vH cr (k:=v) (by omega);rw[aD] at ct;rw[L,aD] at cp;have bg:(v:Int)<(s.c.lvl.length:Int):=by omega
   have dQ:(0:Int)<=(v:Int):=by omega
   have dR:Zj.wrap ((k:Int)+1)=(k:Int)+1:=by rw[IntKind.wrap_i64];have:=aB.o;omega
   have dy:fE (∀w:World,Calls y_ 97 #[.int .i64 x] w λ e w'=>e=.returned (.int .i64 (v:Int))/\w=w'):=aa (λ w=>by have:=sZ x w (by unfold aG at L;omega) (by unfold aG at L;omega);rw[L] at this;exact this);obtain⟨w1,dS,cu,cv⟩:=cm.o.drew.put (n:=k) (by have:=aB.o;unfold maxLen;omega) (x:=(y:Int)) (DD _ (by omega) (by omega));have X:=aa (z_ cu (z_ cv aI));clear cu cv bA bC cn cp dv cq dw cr f3 aI L aD E
   go_upto_region 4 with fail
   refine wp_region_still_tail 9 (by kernel_rfl) (by kernel_rfl) ?_;simp only[List.take_succ_cons,List.take_zero,List.drop_succ_cons,List.drop_zero]
   iterate 6 still_step
   still_call ((dy.o _).mono (λ e w' h=>⟨h.1,h.2.symm⟩))
   iterate 2 still_step
   refine wpStill_nil ?_;change wpList _ _ _ _ _ wr.drew;clear du dx ct
   go_wp2_with fail
   go_roundw
   case rel=>
    refine⟨k+1,by have:=X.o.2.2;omega,by go_num,⟨_,X.o.1⟩,V.o.drew.grown X.o.2.1 V.o.size (λ j e=>by cases e;exact l_ _)⟩
   case measure=>have:=X.o.2.2;simp[intOf];omega
  ·have bx:¬(k:Int)<(m:Int):=by omega
   have dt:decide ((k:Int)<(m:Int))=false:=decide_eq_false bx;obtain⟨bg,cw,hlen⟩:=cm.o.drew.len 3;have qR:=aa (z_ cw aI);clear cw aI;have E:=aa (D.o.1.below V.o);have dz:wr.cell? ⟨G,9,none⟩=some (.int .i64 s.aZ):=E.o.1.e.ku (k:=9) (v:=.int .i64 s.aZ) rfl
   go_upto_region 6 with fail
   refine wp_region_still_tail 8 (by kernel_rfl) (by kernel_rfl) ?_;simp only[List.take_succ_cons,List.take_zero,List.drop_succ_cons,List.drop_zero]
   iterate 8 still_step
   refine wpStill_nil ?_;change wpList _ _ _ _ _ wr.drew
   go_upto_region 7 with fail
   have bf:Below w.heap.size w ((wr.alloc (.cells #[.slice (some ⟨bz,0,none⟩) m c,.bool true,.int .i64 (bg:Int),.int .i64 s.aZ] 166)).drew):=(V.o.alloc V.o.size _).drew;have hblk:aN ((wr.alloc (.cells #[.slice (some ⟨bz,0,none⟩) m c,.bool true,.int .i64 (bg:Int),.int .i64 s.aZ] 166)).drew) wr.heap.size vh [.slice (some ⟨bz,0,none⟩) m c,.bool true,.int .i64 (bg:Int),.int .i64 s.aZ]:=aN.new wr vh _;have cx:((wr.alloc (.cells #[.slice (some ⟨bz,0,none⟩) m c,.bool true,.int .i64 (bg:Int),.int .i64 s.aZ] 166)).drew).heap.size=wr.heap.size+1:=by simp
   have bD:=(E.o.1.below ((bB wr (.cells #[.slice (some ⟨bz,0,none⟩) m c,.bool true,.int .i64 (bg:Int),.int .i64 s.aZ] 166)).drew)).1;generalize (wr.alloc (.cells #[.slice (some ⟨bz,0,none⟩) m c,.bool true,.int .i64 (bg:Int),.int .i64 s.aZ] 166)).drew=ad at bf hblk cx bD⊢;have aE:=(bD.Dx D.o.2.1 wr.heap.size).r9 (hl:=⟨some ⟨bz,0,none⟩,m,c⟩) (l:=l) (x:=⟨true,(bg:Int),s.aZ⟩) (by rw[jG];exact hblk) (by rw[jG];exact Zn (g_ D.o.1.e.lt) V.o.size) (by rw[jG];exact λ hk=>by have:=D.o.1.s.lt _ hk;have:=V.o.size;omega) (λ d H=>by rw[jG,bh _ _ (by omega)];have:=(D.o.1.e.cls d H).lt;have:=V.o.size;omega)
    (nc D.o.2.2.2.2.2.2.2.2.2.2.2.2.1 bf) (λ g aL=>by
     have aL:some bz=some g:=aL;injection aL with aL
     subst aL;exact⟨D.o.2.2.2.2.2.2.2.2.2.2.2.2.2.1,D.o.2.2.2.2.2.2.2.2.2.2.2.2.2.2.1⟩) D.o.2.2.2.2.1
   obtain⟨I,bE⟩:∃f,iN cb s.c.cl.length wr.heap.size=f:=⟨_,rfl⟩
   have bF:I s.c.cl.length=wr.heap.size:=by rw[<-bE,jG]
   rw[bE] at aE;obtain⟨aM,bH⟩:∃f,iN hs (kr s.c.cl.length) ⟨some ⟨bz,0,none⟩,m,c⟩=f:=⟨_,rfl⟩
   have cy:aM (kr s.c.cl.length)=⟨some ⟨bz,0,none⟩,m,c⟩:=by rw[<-bH,jG]
   rw[bH] at aE;obtain⟨s1,bj⟩:∃s1,s.r9 l ⟨true,(bg:Int),s.aZ⟩=s1:=⟨_,rfl⟩
   rw[bj] at aE;have cz:aC K w ad:=aC.pY bf D.o.1.s.lt;obtain⟨blk,cA⟩:∃b,wr.heap.size=b:=⟨_,rfl⟩
   rw[cA] at bF⊢;obtain⟨aP,n10,aQ,bk⟩:∃A n c,aM 10=⟨A,n,c⟩:=⟨_,_,_,rfl⟩
   have bI:s1.aO=s.aO:=by rw[<-bj];rfl
   have dA:ad.cell? ⟨G,13,none⟩=some (.slice aP n10 aQ):=by have:=aE.e.ku (k:=13) (v:=(aM 10).v) rfl;rw[bk] at this;exact this
   have cB:=aE.e.rows.row 10;have cC:n10=s.aO.length:=by
    have:=cB.1;rw[bk] at this;have F:(kW I s1.aO).length=n10*1:=this;rw[bI] at F;simp[kW] at F;omega
   have dB:=aa aE;have dC:=aa cz;have Y:=aa (z_ bF (z_ cy (z_ bj (z_ bk (z_ bI cC)))));clear aE cz bF cy bj bk bI cC bD bf hblk cx bE bH dz cA cB hlen;have aR:=aa (dB.o.below (bB ad (.cells #[.pointer (some ⟨blk,0,none⟩)] 164)));have hp:(ad.alloc (.cells #[.pointer (some ⟨blk,0,none⟩)] 164)).cell? ⟨ad.heap.size,0,none⟩=some (.pointer (some ⟨blk,0,none⟩)):=by go_simp
   have cD:=aa (ry.one hp);have ae:fE ((ad.alloc (.cells #[.pointer (some ⟨blk,0,none⟩)] 164)).ownsRow base 164 1 (.slice aP n10 aQ) n10 (kW I s.aO)):=aa (by
    have:=aR.o.1.e.rows.row 10;rw[Y.o.2.2.2.1] at this;rw[<-Y.o.2.2.2.2.1];exact this)
   have cE:=aa (g_ aR.o.1.e.lt);have cG:fE (∀v9 bG,nW (ad.alloc (.cells #[.pointer (some ⟨blk,0,none⟩)] 164)) base 164 (.slice aP n10 aQ) (n10+1) (kW I s.aO++[.pointer (some ⟨blk,0,none⟩)]) v9 bG->nW (ad.alloc (.cells #[.pointer (some ⟨blk,0,none⟩)] 164)) base 164 (aM 10).v (s1.aO.length+1) (kW I (s1.aO++[s.c.cl.length])) v9 bG):=aa (λ v9 bG af=>by
    have e:kW I (s1.aO++[s.c.cl.length])=kW I s.aO++[.pointer (some ⟨blk,0,none⟩)]:=by simp[kW,sX,Y.o.1,Y.o.2.2.2.2.1]
    rw[e,Y.o.2.2.2.1,Y.o.2.2.2.2.1,<-Y.o.2.2.2.2.2];exact af)
   clear hp
   go_upto_region 8 with(at_builtin;refine Fz rfl (.tmp 38) (.tmp 40) rfl base (.slice aP n10 aQ) n10 (kW I s.aO) rfl ae.o (some ⟨ad.heap.size,0,none⟩) 1 1 _ rfl cD.o (by have:=Y.o.2.2.2.2.2;have:=D.o.2.2.2.2.2.2.2.2.2.1;omega) cE.o ?_;intro v9 bG af;obtain⟨⟨bJ,bK,c3⟩,aF,dD,aH,a2,J,aT⟩:=aX.FB (x:=s.c.cl.length) aR.o.1 (v':=v9) (cG.o v9 bG af);change v9=.slice bJ bK c3 at aF;subst aF;have J:=aa J;have aT:=aa aT;clear af dD;have a1:bG.cell? ⟨G,13,none⟩=some (.slice aP n10 aQ):=(by rw[Y.o.2.2.2.1] at aH;exact aH);clear aH)
   generalize bG.setCell ⟨G,13,none⟩ (.slice bJ bK c3)=t at J aT⊢;have bL:fE (aC K w t):=aa (dC.o.trans (aR.o.2.trans aT.o));obtain⟨s3,bM⟩:∃s3,s1.uO s.c.cl.length=s3:=⟨_,rfl⟩
   obtain⟨aq,bN⟩:∃f,iN aM 10 ⟨bJ,bK,c3⟩=f:=⟨_,rfl⟩
   rw[bM,bN] at J;have bO:aq (kr s.c.cl.length)=⟨some ⟨bz,0,none⟩,m,c⟩:=by rw[<-bN,bh _ _ (by unfold kr;omega)];exact Y.o.2.1
   have aU:s3={s with c:={s.c with cl:=s.c.cl++[l]},ci:=s.ci++[⟨true,(bg:Int),s.aZ⟩],aO:=s.aO++[s.c.cl.length]}:=by rw[<-bM,<-Y.o.2.2.1];rfl
   have bP:az s3.c.cl s.c.cl.length=l:=by rw[aU];show az (s.c.cl++[l]) _=l;rw[uI]
   have bQ:s3.aA=s.aA:=by rw[aU]
   have bR:s3.jr=s.jr:=by rw[aU]
   have cH:oM K t s3:=D.o.2.2.1.kept bL.o bR bQ;obtain⟨ar,au,av,bS⟩:∃A n c,nL aq s3=.slice A n c:=by
    unfold nL
    cases s3.jr with
    |none=>exact⟨_,_,_,rfl⟩
    |some h=>exact⟨_,_,_,rfl⟩
   have bl:t.cell? ⟨G,14,none⟩=some (.slice ar au av):=by have:=J.o.e.ku (k:=14) (v:=nL aq s3) rfl;rw[bS] at this;exact this
   have cI:t.ownsRow base 3 1 (.slice (some ⟨bz,0,none⟩) m c) m (iY l):=by
    have:=J.o.e.rows.row (kr s.c.cl.length);rw[bO,Df,Bp,xX,bP] at this;exact this
   have cJ:=aa (vm (some ⟨bz,0,none⟩) m c l t.drew (by
    have:=aS.lG cI (by have:=aB.o;omega);exact this.below (m_ _ _).drew))
   have Z:=aa (z_ bO (z_ aU (z_ bP (z_ bQ (z_ bR (z_ cH bS))))));clear bO aU bP bQ bR cH bS cI aT aR cD ae cE cG bM bN a1 a2 dA;have cK:fE (∀w1,Below t.drew.heap.size t.drew w1->w1.cell? ⟨G,14,none⟩=some (.slice ar au av)):=aa (λ w1 aJ=>by rw[p_ (aJ.block G J.o.e.box.lt)];exact bl);have bn:fE (∀(q:Option Addr)(c2:Nat)(w1:World),Below t.drew.heap.size t.drew w1->aX K base (w1.alloc (.cells #[.int .i64 2,.slice q l.length c2] 126)) G aq I s3/\oM K (w1.alloc (.cells #[.int .i64 2,.slice q l.length c2] 126)) s3/\(w1.alloc (.cells #[.int .i64 2,.slice q l.length c2] 126)).cell? ⟨G,14,none⟩=some (.slice ar au av)/\(w1.alloc (.cells #[.int .i64 2,.slice q l.length c2] 126)).cell? ⟨w1.heap.size,0,none⟩=some (.int .i64 2)/\(w1.alloc (.cells #[.int .i64 2,.slice q l.length c2] 126)).cell? ⟨w1.heap.size,1,none⟩=some (.slice q l.length c2)):=aa (λ q c2 w1 B=>⟨(J.o.drew.below (B.alloc B.size (.cells #[.int .i64 2,.slice q l.length c2] 126))).1,Z.o.2.2.2.2.2.1.kept (aC.drew.trans (J.o.drew.below (B.alloc B.size (.cells #[.int .i64 2,.slice q l.length c2] 126))).2) rfl rfl,cK.o _ (B.alloc B.size _),by go_simp,by go_simp⟩);have dT:l.length=m:=D.o.2.2.2.2.2.2.2.2.2.2.2.1;refine z7 (rj Tryz.f148 8) 12 68 [some 44,some 45,some 46,some 47,some 48,some 49,some 50,some 51,some 52,some 53,some 54,some 55,none] _ [(0,.pointer (some ⟨G,0,none⟩)),(1,.slice (some ⟨bz,0,none⟩) m c)] (λ w:World=>w.cell? ⟨G,14,none⟩=some (.slice ar au av)) (vU [.pointer (some ⟨G,0,none⟩),.pointer (some ⟨G,0,none⟩),.pointer (some ⟨G,0,none⟩),.pointer (some ⟨G,14,none⟩),.slice ar au av,.slice (some ⟨bz,0,none⟩) m c,undef,undef,undef,undef,.pointer (some ⟨G,0,none⟩),.pointer (some ⟨G,14,none⟩)] y5 (Ma t.drew l (λ q c2 w1 v w=>BP (w1.alloc (.cells #[.int .i64 2,.slice q l.length c2] 126)) base (tJ aq s3) (s3.aA.length+1) (mg (s3.aA++[⟨2,⟨q,l.length,c2⟩⟩])) v w))) (Ag y5 Mb) (λ w=>w=t.drew) 6 (by kernel_rfl) (by kernel_rfl) (by kernel_rfl) rfl (by kernel_rfl) (by kernel_rfl) (by kernel_rfl) (by kernel_rfl) (by kernel_rfl) (by kernel_rfl) rfl ⟨rfl,rfl,trivial⟩ bl rfl (Ah.ok (by kernel_rfl) ?_) _ rfl ?_
   ·refine⟨?_,?_,?_,?_,?_,?_,⟨λ _=>?_,λ h=>(by cases h)⟩,⟨λ _=>?_,λ h=>(by cases h)⟩,⟨λ _=>?_,λ h=>(by cases h)⟩,⟨λ _=>?_,λ h=>(by cases h)⟩,?_,?_,trivial⟩
    rotate_left 6
    ·intro vals w ag bo bp H O hp;obtain rfl:=bp (.inr rfl);have dE:ag (.tmp 49)=vals 5:=(H.1 rfl).2 _ rfl;have f5:vals 5=.slice (some ⟨bz,0,none⟩) m c:=(H.1 rfl).1 (.inl rfl);refine r4 81 #[.tmp 49] #[25] rfl BQ hp ?_;simp only[j_,o_,i_,dE,f5];refine cJ.o.mono ?_;rintro e w1 ⟨q,c2,rfl,W,B⟩;refine⟨_,rfl,(p_ (a:=⟨G,14,none⟩) (B.block G J.o.e.box.lt)).trans bl,⟨q,c2,rfl,B,W⟩,λ j u aV aW aY a6 aw=>?_,λ h=>absurd rfl h⟩;unfold vU at*;split at aw
     ·rename_i hs;have ah:j=6\/j=7\/j=8\/j=9:=by simpa[y5,or_assoc] using hs
      exfalso;rcases ah with rfl|rfl|rfl|rfl<;>first|exact aV rfl|exact aW rfl|exact x_ (aY.symm.trans rfl)|exact x_ ((a6 _ rfl).symm.trans rfl)
     ·rename_i hs;rw[if_neg hs];exact aw
    ·intro vals w ag bo bp H O hp;have cL:ag (.tmp 50)=vals 6:=(H.1 rfl).2 _ rfl;obtain⟨q,c2,f6,B,W⟩:∃q c2,vals 6=.slice q l.length c2/\Below t.drew.heap.size t.drew w/\w.ownsRow t.drew.heap.size 3 1 (.slice q l.length c2) l.length (iY l):=(H.1 rfl).1 (.inr rfl);rw[f6] at cL;simp only[bq,execOp,j_,o_,i_,cL,hp.1];simp[cF,go_sem];exact .same bo ⟨q,c2,rfl,B,W⟩
    ·intro vals w ag bo bp H O hp;have cM:ag (.tmp 51)=vals 7:=(H.1 rfl).2 _ rfl;obtain⟨q,c2,f7,B,W⟩:∃q c2,vals 7=.agg #[.int .i64 2,.slice q l.length c2]/\Below t.drew.heap.size t.drew w/\w.ownsRow t.drew.heap.size 3 1 (.slice q l.length c2) l.length (iY l):=(H.1 rfl).1 (.inr rfl);rw[f7] at cM;simp only[bq,execOp,j_,o_,i_,cM];simp[cF,go_sem];refine⟨(bn.o q c2 w B).2.2.1,⟨q,c2,w,rfl,B,W,rfl⟩,λ j u aV aW aY a6 aw=>?_,λ h=>λ bT=>False.elim (x_ (bT.symm.trans (by kernel_rfl)))⟩;unfold vU at*;split at aw
     ·rename_i hs;have ah:j=6\/j=7\/j=8\/j=9:=by simpa[y5,or_assoc] using hs
      exfalso;rcases ah with rfl|rfl|rfl|rfl<;>first|exact aV rfl|exact aW rfl|exact x_ (aY.symm.trans rfl)|exact x_ ((a6 _ rfl).symm.trans rfl)
     ·rename_i hs;rw[if_neg hs];exact aw
    ·intro vals w ag bo bp H O hp;have cN:ag (.tmp 48)=vals 4:=(H.1 rfl).2 _ rfl;have f4:vals 4=.slice ar au av:=(H.1 rfl).1 (.inl rfl);have cO:ag (.tmp 52)=vals 8:=(H.2.1 rfl).2 _ rfl;obtain⟨q,c2,w1,f8,B,W,rfl⟩:∃(q:Option Addr)(c2:Nat)(w1:World),vals 8=.slice (some ⟨w1.heap.size,0,none⟩) 1 1/\Below t.drew.heap.size t.drew w1/\w1.ownsRow t.drew.heap.size 3 1 (.slice q l.length c2) l.length (iY l)/\w=w1.alloc (.cells #[.int .i64 2,.slice q l.length c2] 126):=(H.2.1 rfl).1 (.inr rfl);rw[f4] at cN;rw[f8] at cO;obtain⟨h1,F,ao,ah,bc⟩:=bn.o q c2 w1 B;obtain⟨v',w',g1,g2⟩:=L8 h1 F 45 w1.heap.size 1 ⟨2,⟨q,l.length,c2⟩⟩ ah bc (by have:=D.o.2.2.2.2.2.2.2.2.2.2.1;rw[Z.o.2.2.2.1];exact this);rw[Z.o.2.2.2.2.2.2] at g1;simp only[bq,execOp,resolve,invoke,builtin,Sem.run_bind,Sem.run_pure,Result.andThen_ok,j_,o_,i_,cN,cO,g1,cF];obtain⟨h',-,dF,-⟩:=aX.Gz h1 g2;refine⟨dF.trans (by rw[Z.o.2.2.2.2.2.2]),⟨q,c2,w1,B,W,g2⟩,λ j u aV aW aY a6 aw=>?_,λ h=>λ bT=>False.elim (x_ (bT.symm.trans (by kernel_rfl)))⟩;unfold vU at*;split at aw
     ·rename_i hs;have ah:j=6\/j=7\/j=8\/j=9:=by simpa[y5,or_assoc] using hs
      exfalso;rcases ah with rfl|rfl|rfl|rfl<;>first|exact aV rfl|exact aW rfl|exact x_ (aY.symm.trans rfl)|exact x_ ((a6 _ rfl).symm.trans rfl)
     ·rename_i hs;rw[if_neg hs];exact aw
    all_goals
     refine⟨λ h=>(by cases h),λ _ ag w bd H O hp=>?_⟩;obtain⟨dG,dH,-⟩:=O
     try simp[uT,qB,Region.binds,y5] at H
     simp[bq,execOp,cF,go_sem,dG,dH,H,bd,hp.1]
   intro vals bG dI ab dU cP;obtain⟨q,c2,w1,B,W,af⟩:∃(q:Option Addr)(c2:Nat)(w1:World),Below t.drew.heap.size t.drew w1/\w1.ownsRow t.drew.heap.size 3 1 (.slice q l.length c2) l.length (iY l)/\BP (w1.alloc (.cells #[.int .i64 2,.slice q l.length c2] 126)) base (tJ aq s3) (s3.aA.length+1) (mg (s3.aA++[(⟨2,⟨q,l.length,c2⟩⟩:nv)])) (vals 9) bG:=ab 9 (by omega) rfl;obtain⟨h1,F,ao,ah,bc⟩:=bn.o q c2 w1 B;obtain⟨⟨Q,R,U⟩,aF,aH,a2,a7,a8⟩:=aX.Gz h1 af;change vals 9=.slice Q R U at aF;rw[aF] at af a7 a8;have a1:bG.cell? ⟨G,14,none⟩=some (.slice ar au av):=by rw[Z.o.2.2.2.2.2.2] at aH;exact aH
   have a7:=aa a7;have a8:=aa a8;have br:=aa af;have ae:=aa W;have bU:=aa B;have k0:vals 0=.pointer (some ⟨G,0,none⟩):=ab 0 (by omega) rfl;have cQ:vals 1=.pointer (some ⟨G,0,none⟩):=ab 1 (by omega) rfl;have cR:vals 2=.pointer (some ⟨G,0,none⟩):=ab 2 (by omega) rfl;have cS:vals 3=.pointer (some ⟨G,14,none⟩):=ab 3 (by omega) rfl;have cT:vals 4=.slice ar au av:=ab 4 (by omega) rfl;have cU:vals 5=.slice (some ⟨bz,0,none⟩) m c:=ab 5 (by omega) rfl;have cV:vals 10=.pointer (some ⟨G,0,none⟩):=ab 10 (by omega) rfl;have cW:vals 11=.pointer (some ⟨G,14,none⟩):=ab 11 (by omega) rfl;simp[nZ,Act.put,aF,k0,cQ,cR,cS,cT,cU,cV,cW] at cP;subst cP;show bq _ _ (Oper.mk _ _ _ _ _ _) _ _;simp[bq,execOp,cF,go_sem,Act.eval,a1,a2];clear af W B aF aH h1 F ao ah bc k0 cQ cR cS cT cU cV cW ab dI
   iterate 1
    have cX:∀b,t.heap.size<=b->b<w1.heap.size->(bG.setCell ⟨G,14,none⟩ (.slice Q R U)).heap[b]? =w1.heap[b]? :=λ b B cY=>by
     have dV:=J.o.e.box.lt;rw[Below.heap_setCell _ _ _ _ (show b≠G by omega)];rw[br.o.2.1.block b (by simp;omega) (λ e=>by
      have e:=e.symm;unfold tJ at e
      cases a':s3.jr with
      |none=>rw[a'] at e;have:=(J.o.e.rows.lt (r:=11) e).2;omega
      |some h=>rw[a'] at e;cases e)]
     first|exact heap_alloc_old w1 _ cY|exact heap_alloc_old w1 _ _ cY
    have cZ:(bG.setCell ⟨G,14,none⟩ (.slice Q R U)).ownsRow base 3 1 (ax.v ⟨q,l.length,c2⟩) l.length (iY l):=
     yD (pL ae.o (λ b aJ=>cX b (ae.o.lt b aJ).1 (ae.o.lt b aJ).2)) (g_ J.o.e.lt)
    obtain⟨g2,bs⟩:∃g2,(⟨q,l.length,c2⟩:ax).b=some g2:=by
     rcases ae.o.2 with⟨L,_⟩|⟨g,cap,cur,L,_⟩
     ·injection L with c0 dW dX
      have h1:=aB.o.1;have F:l.length=m:=D.o.2.2.2.2.2.2.2.2.2.2.2.1;omega
     ·injection L with c0
      exact⟨g,by show q.map _=_;rw[c0];rfl⟩
    have bt:=ae.o.lt g2 (by show(ax.v ⟨q,l.length,c2⟩).ownBlock=_;rw[ax.own];exact bs);have dJ:t.heap.size<=g2:=bt.1;have c4:g2<(bG.setCell ⟨G,14,none⟩ (.slice Q R U)).heap.size:=by
     have h1:=(kZ bG G 14 (.slice Q R U)).size;have F:=br.o.2.1.size;have ao:=bt.2;simp at F;omega
    have ai:=a7.o.qC (g:=g2) c4 (by have:=J.o.e.box.lt;omega) (λ r e=>by
     by_cases c5:r=11
     ·subst c5;rw[jG] at e;rcases br.o.2.2 with h1|h1
      ·have F:(ax.v ⟨Q,R,U⟩).ownBlock=tJ aq s3:=h1;rw[ax.own,e] at F;unfold tJ at F
       cases a':s3.jr with
       |none=>rw[a'] at F;have:=(J.o.e.rows.lt (r:=11) F.symm).2;omega
       |some h=>rw[a'] at F;cases F
      ·have:=h1 g2 (by show(ax.v ⟨Q,R,U⟩).ownBlock=_;rw[ax.own];exact e);have ao:=bt.2;simp at this;omega
     ·rw[bh _ _ c5] at e;have:=(J.o.e.rows.lt e).2;omega) (λ d H e=>by have:=(J.o.e.cls d H).lt;omega)
    have bu:qm (qC K g2) (bG.setCell ⟨G,14,none⟩ (.slice Q R U)) s.c.n ⟨2,⟨q,l.length,c2⟩⟩:=⟨.inr (.inl rfl),⟨l,aS.lG cZ (by show l.length*8<=140737488355328;have h1:=aB.o.2.1;have F:l.length=m:=D.o.2.2.2.2.2.2.2.2.2.2.2.1;omega),D.o.2.2.2.2.2.2.2.2.2.2.2.2.2.2.2.1⟩,λ b e _=>.inr (by rw[bs] at e;injection e with e;exact e.symm)⟩
    have c6:=aa (bL.o.trans (aC.drew.trans ((J.o.drew.below (bU.o.alloc bU.o.size (.cells #[.int .i64 2,.slice q l.length c2] 126))).2.trans a8.o)));obtain⟨M,bV⟩:∃M,qC K g2=M:=⟨_,rfl⟩
    have c7:fE (∀b,K b->M b):=aa (λ b aJ=>by rw[<-bV];exact .inl aJ);rw[bV] at ai bu;obtain⟨p,hp⟩:∃p:nv,(⟨2,⟨q,l.length,c2⟩⟩:nv)=p:=⟨_,rfl⟩
    have bW:∀b,(⟨2,⟨q,l.length,c2⟩⟩:nv).h.b=some b->w.heap.size<=b:=λ b e=>by
     have e:(⟨q,l.length,c2⟩:ax).b=some b:=e;rw[bs] at e;injection e with e
     subst e;have:=bL.o.size;omega
    rw[hp] at bu bW;have dK:=aa bW;have c8:({s3 with aA:=s3.aA++[p],jr:=none}:an)={s with c:={s.c with cl:=s.c.cl++[l]},ci:=s.ci++[⟨true,(bg:Int),s.aZ⟩],aO:=s.aO++[s.c.cl.length],aA:=s.aA++[p],jr:=none}:=by rw[Z.o.2.1]
    obtain⟨bX,bY⟩:∃f,iN aq 11 ⟨Q,R,U⟩=f:=⟨_,rfl⟩
    have c9:bX (kr s.c.cl.length)=⟨some ⟨bz,0,none⟩,m,c⟩:=by
     rw[<-bY,bh _ _ (by unfold kr;omega)];exact Z.o.1
    have ai:aX M base (bG.setCell ⟨G,14,none⟩ (.slice Q R U)) G bX I {s3 with aA:=s3.aA++[p],jr:=none}:=by rw[<-bY,<-hp];exact ai
    rw[c8] at ai;have da:=aa bu;clear bY c8 cX cZ hp a7 a8 br ae bU bn cJ bu bW bV bs bt dJ c4
    go_upto_region 9 with fail
    generalize bG.setCell ⟨G,14,none⟩ (.slice Q R U)=db at ai c6 da⊢;clear a1 a2 bl cK;obtain⟨y,aD⟩:∃y,aj l 0=y:=⟨_,rfl⟩
    have bb:=aB.o.1;have dc:=D.o.2.2.2.2.2.2.2.2.2.2.2.1;have dd:gW s.c.n y:=by rw[<-aD];exact D.o.2.2.2.2.2.2.2.2.2.2.2.2.2.2.2.1 _ (lZ (by omega))
    have dY:(0:Int)<(m:Int):=by omega
    have ai:=aa ai;have ak:=aa (z_ aD (z_ dd (z_ c9 dc)));clear aD dd c9 dc bb;have de:fE (∀(bG:World)(bZ:Nat->ax),aX M base bG G bZ I {s with c:=k6 (kn s.c l) y (some s.c.cl.length),ci:=s.ci++[⟨true,(bg:Int),s.aZ⟩],aO:=s.aO++[s.c.cl.length],aA:=s.aA++[p],jr:=none}->aC M db bG->GA K base w G s l (.returned (.tuple #[])) bG):=aa (λ bG bZ ba aK=>by
     refine⟨rfl,M,bZ,I,(bg:Int),p,c7.o,?_,c6.o.trans (aK.mono c7.o),by omega,by have:=qR.o;have:=dr.o;have:=ak.o.2.2.2;omega,da.o.iR aK,dK.o⟩;unfold an.wZ;rw[ak.o.1];exact ba)
    have df:fE (∀(ay:World)(al:Nat->ax),aX M base ay G al I {s with c:=kn s.c l,ci:=s.ci++[⟨true,(bg:Int),s.aZ⟩],aO:=s.aO++[s.c.cl.length],aA:=s.aA++[p],jr:=none}->Calls y_ 156 #[.pointer (some ⟨G,0,none⟩),.int .i64 y,.pointer (some ⟨blk,0,none⟩)] ay λ e w'=>e=.returned (.tuple #[])/\∃h':ax,aX M base w' G (iN al 4 h') I {s with c:=k6 (kn s.c l) y (some s.c.cl.length),ci:=s.ci++[⟨true,(bg:Int),s.aZ⟩],aO:=s.aO++[s.c.cl.length],aA:=s.aA++[p],jr:=none}/\aC M ay w'):=aa (λ ay al N=>by
     have h1:=Bv N y (some s.c.cl.length) D.o.2.2.2.1.new (show gW s.c.n y from ak.o.2.1) (show s.c.n<=60000 from D.o.2.2.2.2.2.1) (show s.c.st.length<=1000000 from D.o.2.2.2.2.2.2.2.2.1);rw[show qQ I (some s.c.cl.length)=.pointer (some ⟨blk,0,none⟩) by show Value.pointer (some ⟨I s.c.cl.length,0,none⟩)=_;rw[Y.o.1]] at h1;exact h1)
    have dh:fE (∀(ay:World)(al:Nat->ax)(b0:an),aX M base ay G al I b0->b0.c.cl=s.c.cl++[l]->al (kr s.c.cl.length)=⟨some ⟨bz,0,none⟩,m,c⟩->ay.cell? ⟨bz,0,none⟩=some (.int .i64 y)):=aa (λ ay al b0 N h1 F=>by
     have ao:=N.e.xZ (d:=s.c.cl.length) (g:=bz) (by rw[F];rfl) (k:=0) (by rw[h1,uI];have:=ak.o.2.2.2;have:=aB.o;omega);rw[h1,uI,ak.o.1] at ao;exact ao)
    by_cases di:2<=m
    ·have g1:(1:Int)<(m:Int):=by omega
     have d1:decide ((1:Int)<(m:Int))=true:=decide_eq_true g1;have dj:fE (2<=l.length):=aa (by have:=ak.o.2.2.2;omega);have bw:=FT ai.o (d:=s.c.cl.length) (by show _<(s.c.cl++[l]).length;simp) (by show 2<=(az (s.c.cl++[l]) _).length;rw[uI];exact dj.o) (by show∀x∈az (s.c.cl++[l]) _,_;rw[uI];exact D.o.2.2.2.2.2.2.2.2.2.2.2.2.2.2.2.1) (show s.c.n<=60000 from D.o.2.2.2.2.2.1) (show s.c.wt.length=2*s.c.n+2 from D.o.2.2.2.2.2.2.1) (show∀k,(az s.c.wt k).length<=1000000 from D.o.2.2.2.2.2.2.2.1);rw[Y.o.1,ak.o.2.2.1,FO] at bw;have bw:=aa bw;clear di
     go_upto_region 11 with(go_at_call 180;refine bw.o.mono ?_;rintro e dL ⟨rfl,al,N,b1,dk⟩;dsimp only)
     have N:aX M base dL G al I {s with c:=kn s.c l,ci:=s.ci++[⟨true,(bg:Int),s.aZ⟩],aO:=s.aO++[s.c.cl.length],aA:=s.aA++[p],jr:=none}:=by
      have e:kn s.c l={s.c with cl:=s.c.cl++[l],wt:=wD s.c.wt l s.c.cl.length}:=by unfold kn;rw[if_pos dj.o]
      rw[e];have dm:=N;rw[show az ({s with c:={s.c with cl:=s.c.cl++[l]},ci:=s.ci++[⟨true,(bg:Int),s.aZ⟩],aO:=s.aO++[s.c.cl.length],aA:=s.aA++[p],jr:=none}:an).c.cl s.c.cl.length=l from uI _ _] at dm;exact dm
     have dM:=dh.o _ _ _ N rfl dk;have b2:=aa (df.o _ _ N);have b1:=aa b1;clear N dk
     go_wp2_with (go_at_call 156;refine b2.o.mono ?_;rintro e dN ⟨rfl,h',ba,aK⟩;dsimp only)
     go_end0;exact de.o _ _ ba (b1.o.trans aK)
    ·have g1:¬(1:Int)<(m:Int):=by omega
     have d1:decide ((1:Int)<(m:Int))=false:=decide_eq_false g1;have N:aX M base db G bX I {s with c:=kn s.c l,ci:=s.ci++[⟨true,(bg:Int),s.aZ⟩],aO:=s.aO++[s.c.cl.length],aA:=s.aA++[p],jr:=none}:=by
      have e:kn s.c l={s.c with cl:=s.c.cl++[l]}:=by unfold kn;rw[if_neg (by have:=ak.o.2.2.2;omega)]
      rw[e];exact ai.o
     have dM:=dh.o _ _ _ N rfl ak.o.2.2.1;have b2:=aa (df.o _ _ N);clear N di
     go_wp2_with (go_at_call 156;refine b2.o.mono ?_;rintro e dN ⟨rfl,h',ba,aK⟩;dsimp only)
     go_end0;exact de.o _ _ ba aK
end
section
section
variable {F:List (List Int)}{ai:List Int}{n fL:Nat}{s s':an}{sp h h':Nat}
theorem mm.conflict(S:mm F ai n fL s sp h){l:List Int}{level:Nat}(L:uM F s.c l level){B:Int}{uu s1 s3:an}(k0:n5 s uu)(k:bt level uu s1)(r:mj n jw B s1)(I:0<=B/\jw<=B)(bg:Int)(J:0<=bg/\bg<=jw)(aA:List nv)
  (f:n5 (s1.wZ l bg aA) s3) (w:mj n jw (jw*(1+16*((sp+1:Nat):Int))) s3):
  mm F ai n fL s3 (sp+1) (gV s.c.st level)/\s3.c.ag=gV s.c.st level/\s3.aA=aA/\s3.jr=none:=by
 have i:uu.c=s.c:=k0.c;have K:level<uu.c.st.length:=by rw[i];exact L.mq
 have j:s1.c=mC s.c level:=by rw[k.c,i]
 have y:(s1.wZ l bg aA).c=zz s.c l level:=by
  show k6 (kn s1.c l) (aj l 0) (some s1.c.cl.length)=_;rw[j];rfl
 have z:s1.c.cl=s.c.cl:=by rw[j];rfl
 have M:=L.fresh S.gP.aL;have A:=S.gP.aL.back L.mq;have p:=S.gP.keep L;have C:s1.aO=s.aO:=k.aO.trans k0.aO;have q:∀d∈s.aO,d<s.c.cl.length:=S.rg.kX;have c3:s3.c=zz s.c l level:=f.c.trans y;have t:s3.aO=s.aO++[s.c.cl.length]:=by
  rw[f.aO];show s1.aO++[s1.c.cl.length]=_;rw[C,z]
 have D:∀v,1<=v->v<=n->aj s1.c.val v=0->0<=aj s1.pl v:=λ v h1 g m=>by
  rcases k.Ft v h1 (by rw[i,S.rg.jt];exact g) m with e|e
  ·refine k.yG v ((k0.same v).2 (S.un v h1 g ?_));rw[i] at e;exact e
  ·exact e
 refine⟨⟨by rw[c3];exact p,w,by rw[c3];exact S.vL.keep S.gP.aL L,?_,λ v h1 g m=>?_,?_,?_,?_,?_,?_,?_⟩,by rw[c3];rfl,f.aA,f.jr⟩
 ·rw[c3];refine(S.lb.back S.gP.aL L.mq).grow rfl ?_;show _<=((mC s.c level).ay++[aj l 0]).length;rw[t_];omega
 ·rw[c3] at m;have e:=(rO p.aL h1 (by show v<=s.c.n;rw[S.rg.jt];exact g)).1 m;have E:(zz s.c l level).ay=s1.c.ay++[aj l 0]:=by rw[j];rfl
  rw[E] at e;refine(f.same v).2 (D v h1 g ?_);rw[j] at e⊢;exact(rO A h1 (by show v<=s.c.n;rw[S.rg.jt];exact g)).2 ⟨λ o=>e.1 (Zq _ o),λ o=>e.2 (Zq _ o)⟩
 ·rw[f.aP];show s1.aP=_;rw[k.aP,k0.aP];exact S.aP
 ·rw[t,c3];show((s.aO++[s.c.cl.length]).map (az (s.c.cl++[l]))).Pairwise _;rw[Zw,List.map_singleton,Zr];have u:∀d∈s.aO,az (s.c.cl++[l]) d=az s.c.cl d:=λ d ag=>AX (q d ag)
  refine⟨Bj _ (λ d ag x=>by rw[u d ag]) S.wR,by simp,λ a G b H=>?_⟩;rw[n_.1 H,uI];obtain⟨d,ag,rfl⟩:=b_.1 G;rw[u d ag];exact L.new S.gP d (q d ag)
 ·rw[t,t_,Zt,S.pN];omega
 ·rw[f.nl];show∀l'∈s1.nl,_;rw[k.nl,k0.nl];exact S.yF
 ·rw[c3];show aj ((zero s.c.val _).set _ _) 0=0;have:=(L.ok.lt _ (lZ (List.length_pos_iff.2 L.ok.ne))).1;rw[oO,if_neg (by omega),yt];split
  ·rfl
  ·exact S.v0
 ·rw[c3];exact oR.set ((S.qD.back level).new l) _ (λ d ag=>by injection ag with ag;rw[<-ag];show s.c.cl.length<(s.c.cl++[l]).length;simp)
theorem mj.wZ{B:Int}(r:mj n jw B s)(i:jw<=B){l:List Int}(bg:Int)(f:0<=bg/\bg<=jw)(b:List nv):mj n jw B (s.wZ l bg b):=by
 refine⟨r.jt,r.lR,r.k5,r.qf,r.a0,r.ru,r.oH,r.nE,r.oS,?_,λ d=>?_,λ d g=>?_⟩
 ·show(s.ci++[_]).length=(s.c.cl++[l]).length;rw[t_,t_,r.nF];rfl
 ·have e:lF (s.wZ l bg b) d=if d=s.ci.length then ⟨true,bg,s.aZ⟩ else lF s d:=yH _ _ _
  rw[e];split
  ·have h1:=r.ru;have j:=r.oH;exact⟨by show 0<=s.aZ;omega,by show s.aZ<=B;omega,f⟩
  ·exact r.pZ d
 ·show d<(s.c.cl++[l]).length;rw[t_,Zt];rcases List.mem_append.1 g with h1|h1
  ·have:=r.kX d h1;omega
  ·rw[n_.1 h1];omega
end
end
end Go.Proofs.YtogdlkfacflmaaaGreat
