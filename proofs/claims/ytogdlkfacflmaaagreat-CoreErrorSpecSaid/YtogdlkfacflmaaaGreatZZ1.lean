/- Parts of the walk of the solver and its core; no condition. -/
import Derived.Test.YtogdlkfacflmaaaGreatProg
import Derived.WalkKit
import Derived.WalkSpells
import Derived.WalkLawsBesides
import Derived.Lib.Hide
import Derived.Below
import Derived.Laws.OwnMore
import Derived.Calls
import Derived.Deep.Quiet
import Derived.Deep.QuietTactic
import Derived.BigQuiet
import Derived.Shelf.Abstract
import Derived.StillTailTactics
import Derived.Maps.OwnOps
import Derived.Maps.OwnSet
import Derived.Maps.Views
import Derived.RangeFuncBox
import Derived.IntWalk
import Derived.OwnWalkIn
import Derived.LoadGo3
import Derived.Lib.OwnBridge
import Derived.Lib.AppendIntMem
import Derived.Deep.RegionLaw
import Derived.Deep.RegionHeld3
import Derived.Deep.CutBlock
import Derived.Deep.DeepCutAuto
import Derived.Laws.MakeOwn
import Derived.Maps.AppendAt
import Derived.RegionTactic
import Derived.BigRegion
namespace Go.Proofs.YtogdlkfacflmaaaGreat
set_option linter.unusedVariables false
set_option linter.unusedSimpArgs false
set_option maxRecDepth 100000
set_option maxHeartbeats 2000000
open _root_.Go.Proofs.Tryz renaming prog→z_,ntmps164→l_,func164→j_,underlying25→f_,underlying3→c_,underlying4→Zs,ntmps159→Zh,ntmps115→Zg,ntmps163→Zf,ntmps107→Ze,func159→Zb,func115→Za,func163→Z0,ntmps88→Z3,func107→Z4
open _root_.Go.RowKit.Below renaming refl→y_,heap_alloc→b_,heap_setCell→Zy
open _root_.List renaming getElem?_eq_getElem→x_,getD_eq_getElem?_getD→u_,getElem_mem→r_,take_of_length_le→q_,eq_nil_of_length_eq_zero→p_,getElem?_map→m_,getElem?_eq_some_iff→h_,getElem?_take_of_lt→g_,take_succ_eq_append_getElem→d_,map_cons→Zx,all_eq_false→Zv,any_eq_true→Zr,map_toArray→Zq,map_append→Zl,map_nil→Z_
open _root_.Go.Value renaming int→w_
open _root_.Nat renaming le_refl→v_,zero_le→t_,lt_of_lt_of_le→s_,eq_zero_or_pos→Zz,lt_or_ge→Zt,add_zero→Zo
open _root_.Go.World renaming cell?→o_,frozen?→Zw,cell?_of_block→Zi,setCell→Zc
open _root_.Go.Value.slice renaming injEq→n_
open _root_.Array renaming getElem?_eq_none→k_,getElem?_toList→a_
open _root_.Go.Builtin renaming append_→i_,firstCells→Z5
open _root_.Go renaming rounds_succ→e_,wp_loop_rounds→Zk,heap_alloc_new→Zj
open _root_.Go.Result renaming andThen_ok→Zu
open _root_.Bool renaming and_eq_true→Zp
open _root_.Int renaming eq_ofNat_of_zero_le→Zn
open _root_.Go.Ending renaming returned→Zm
open _root_.Go.Region renaming wanted→Zd
open _root_.Go.Addr renaming add_lit→Z6
open _root_.Go.World.grownBy renaming refl→Z7
open _root_.Go.Sem renaming run_bind→Z8,run_pure→Z9
variable{p:Int->Bool}{ai l S act:List Int}{k n c b base m B size:Nat}{w w' W w1:World}{A:Option Addr}{a:Act}{x:Int}{ls:List (List Int)}{P:Program}{Q:Exit->Act->World->Prop}{f:FuncId}{args:Array Value}{v:Value}{e t:TypeId}{xs:List Value}{ops:Array Oper}{rest:List Oper}{gU:List Bool}
section
def bJ(p:Prop):Prop:=p
theorem bJ.o{p:Prop}(h:bJ p):p:=h
theorem U{p:Prop}(h:p):bJ p:=h
end
section
open Go.RowKit Go.Shelf
def je(a:List Int)(k:Nat):Int:=a.getD k 0
theorem oN(h:k<ai.length):je ai k=ai[k]:=by simp[je,u_,x_ h]
theorem uZ(a:List Int)(k:Nat)(h:k<a.length):a.take (k+1)=a.take k++[je a k]:=by
 rw[d_ h,oN h]
structure aL(w:World)(A:Option Addr)(n c:Nat)(ai:List Int):Prop where
 len:ai.length=n
 cap:n<=c
 mu:n*8<=140737488355328
 nT:c<=maxLen
 cells:0<n->∃b off,A=some ⟨b,off,none⟩/\b<w.heap.size/\∀j,j<n->w.cell? ⟨b,off+j,none⟩=some (.int .i64 (je ai j))
theorem aL.below(h:aL w A n c ai)(a:Below w.heap.size w w'):aL w' A n c ai:=
 ⟨h.len,h.cap,h.mu,h.nT,λ e=>by
  obtain⟨b,off,rfl,d,f⟩:=h.cells e;exact⟨b,off,rfl,s_ d a.size,λ j g=>(a.cell (p:=⟨b,off+j,none⟩) d).trans (f j g)⟩⟩
theorem aL.nil(w:World)(A:Option Addr)(c:Nat)(a:c<=maxLen):aL w A 0 c []:=⟨rfl,t_ _,by omega,a,λ h=>absurd h (by omega)⟩
theorem aL.drew{w:World}{A:Option Addr}{n c:Nat}{ai:List Int}(h:aL w A n c ai):aL w.drew A n c ai:=h.below ((y_ _ _).drew)
theorem aL.alloc{w:World}{A:Option Addr}{n c:Nat}{ai:List Int}(h:aL w A n c ai)(o:Obj):aL (w.alloc o) A n c ai:=h.below ((y_ _ _).alloc (v_ _) _)
theorem aL.small(h:aL w A n c ai):n<=17592186044416:=by have:=h.mu;omega
theorem IN(a:Below W.heap.size W w1):(∀b o,b<W.heap.size->w1.cell? ⟨b,o,none⟩=W.cell? ⟨b,o,none⟩)/\(∀b o,b<W.heap.size->w1.frozen? ⟨b,o,none⟩=W.frozen? ⟨b,o,none⟩):=
 ⟨λ b o h=>a.cell (p:=⟨b,o,none⟩) h,λ b o h=>a.frozen (p:=⟨b,o,none⟩) h⟩
theorem mO{a b:Bool}(h:a=b):Zm (.bool a)=.returned (.bool b):=by rw[h]
theorem pI{k:IntKind}{a b:Int}(h:a=b):Zm (.int k a)=.returned (.int k b):=by rw[h]
theorem aL.kW(h:w.ownsRow base 3 1 (.slice A n c) n (ai.map (w_ .i64)))(d:n*8<=140737488355328):aL w A n c ai:=by
 obtain⟨h1,k⟩:=h;have hl:ai.length=n:=by simpa using h1
 rcases k with⟨a,f⟩|⟨g,cap,cur,a,r,b,l,m,s,o⟩
 ·simp only[n_] at a;obtain⟨rfl,_,rfl⟩:=a;subst f;exact⟨hl,v_ _,d,t_ _,λ h=>absurd h (by omega)⟩
 ·simp only[n_] at a;obtain⟨rfl,_,rfl⟩:=a;refine⟨hl,l,d,m,λ f=>⟨g,0,rfl,?_,λ j t=>?_⟩⟩
  ·rcases Zt g w.heap.size with p|q
   ·exact p
   ·rw[k_ q] at b;cases b
  ·have u:j<cur.size:=by omega
   have e:cur[j]? =some (.int .i64 (je ai j)):=by
    have i:(cur.toList.take (n*1))[j]? =(ai.map (w_ .i64))[j]? :=by rw[o]
    rw[g_ (by omega),m_,x_ (by omega:j<ai.length)] at i;rw[<-a_,i,oN (by omega)];rfl
   simp[o_,b,e]
def hasB(a:List Int)(x:Int):Bool:=a.contains x
theorem u0:hasB ai x=true↔x∈ai:=by simp[hasB]
theorem zm(a:List Int)(x y:Int):hasB (a++[y]) x=(hasB a x||(y==x)):=by
 rw[Bool.eq_iff_iff,u0,Bool.or_eq_true,u0,beq_iff_eq,List.mem_append,List.mem_singleton];exact⟨λ h=>h.imp id Eq.symm,λ h=>h.imp id Eq.symm⟩
theorem IP(h:k<ai.length)(e:(je ai k==x)=true):hasB ai x=true:=by
 rw[u0];rw[oN h] at e;have:ai[k]=x:=by simpa using e
 rw[<-this];exact r_ h
theorem IQ(h:k<ai.length)(e:(je ai k==x)=false)(a:hasB (ai.take k) x=false):hasB (ai.take (k+1)) x=false:=by
 rw[uZ ai k h,zm,a,e];rfl
theorem IS(hl:ai.length=n)(h:¬k<n)(a:hasB (ai.take k) x=false):hasB ai x=false:=by
 rw[q_ (by omega)] at a;exact a
def n5(ls:List (List Int))(k:Nat):List Int:=ls.getD k []
theorem tM(h:k<ls.length):n5 ls k=ls[k]:=by simp[n5,u_,x_ h]
theorem CC(ls:List (List Int))(k:Nat)(h:k<ls.length):ls.take (k+1)=ls.take k++[n5 ls k]:=by
 rw[d_ h,tM h]
theorem EL(h:k<ls.length):n5 ls k∈ls:=by rw[tM h];exact r_ h
theorem tN(h:k<ai.length):je ai k∈ai:=by rw[oN h];exact r_ h
structure ku(w:World)(A:Option Addr)(n c:Nat)(ls:List (List Int)):Prop where
 len:ls.length=n
 cap:n<=c
 mu:n*24<=140737488355328
 nT:c<=maxLen
 cells:0<n->∃b off,A=some ⟨b,off,none⟩/\b<w.heap.size/\∀j,j<n->∃A' gE c',w.cell? ⟨b,off+j,none⟩=some (.slice A' gE c')/\aL w A' gE c' (n5 ls j)
theorem ku.below{w w':World}{A:Option Addr}{n c:Nat}{ls:List (List Int)}(h:ku w A n c ls)(a:Below w.heap.size w w'):ku w' A n c ls:=
 ⟨h.len,h.cap,h.mu,h.nT,λ e=>by
  obtain⟨b,off,rfl,d,f⟩:=h.cells e;refine⟨b,off,rfl,s_ d a.size,λ j g=>?_⟩;obtain⟨A',i,c',h1,k⟩:=f j g;exact⟨A',i,c',(a.cell (p:=⟨b,off+j,none⟩) d).trans h1,k.below a⟩⟩
theorem ku.nil(w:World)(A:Option Addr)(c:Nat)(a:c<=maxLen):ku w A 0 c []:=⟨rfl,t_ _,by omega,a,λ h=>absurd h (by omega)⟩
theorem ku.small(h:ku w A n c ls):n<=5864062014806:=by have:=h.mu;omega
structure mE(w:World) where
 val:World
 ok:Below w.heap.size w val
instance (w:World):Nonempty (mE w):=⟨⟨w,y_ _ _⟩⟩
theorem yh{id:Nat}{l:List Oper}(hm:P.follows .mixedOrders=true)(b:Region.lexB .any l.toArray=true)
  (h:wpQuiet P l.toArray (λ w'=>∃u:mE w,w'=u.val) (λ c=>∀w',(∃u:mE w,w'=u.val)->Q .normal c w') l a):(Code.region id l.toArray true).wp P Q a w:=
 wp_region_quiet (C:=λ w'=>∃u:mE w,w'=u.val) hm b ⟨⟨w.drew,(y_ _ _).drew⟩,rfl⟩ (by simpa using h)
theorem mE.call(u:mE w)(h:Calls P f args u.val λ e w'=>e=.returned v/\Below u.val.heap.size u.val w'):
  Calls P f args u.val λ e w'=>e=.returned v/\∃a:mE w,w'=a.val:=
 h.mono λ _ w' ⟨he,b⟩=>⟨he,⟨w',u.ok.trans (b.mono u.ok.size)⟩,rfl⟩
theorem mE.same(u:mE w)(h:Calls P f args u.val λ e w'=>e=.returned v/\u.val=w'):
  Calls P f args u.val λ e w'=>e=.returned v/\∃a:mE w,w'=a.val:=
 h.mono λ _ _ ⟨he,b⟩=>⟨he,u,b.symm⟩
theorem mE.cell{w:World}{p:Addr}{v:Value}(u:mE w)(hp:p.block<w.heap.size)(h:w.cell? p=some v):u.val.cell? p=some v:=(u.ok.cell hp).trans h
theorem mE.o(h:∃u:mE w,w'=u.val):Below w.heap.size w w':=by
 obtain⟨u,rfl⟩:=h;exact u.ok
def og(x y:Int):Int:=if x<y then-1 else if y<x then 1 else 0
theorem EN(x:Int)(w:World):Calls z_ 196 #[.int .i64 x] w λ e w'=>e=.returned (.bool false)/\w=w':=by
 go_enter Tryz.func196,Tryz.ntmps196
 go_wp2;go_ret;exact⟨mO (by simp),rfl⟩
theorem zn(x y:Int)(w:World):Calls z_ 160 #[.int .i64 x,.int .i64 y] w λ e w'=>e=.returned (.int .i64 (og x y))/\w=w':=by
 by_cases h1:x<y
 ·go_enter Tryz.func160,Tryz.ntmps160
  go_wp2_with (go_at_call 196;refine(EN _ _).mono ?_;rintro e w' ⟨rfl,rfl⟩)
  go_ret;exact⟨pI (by simp[og,h1]),rfl⟩
 ·by_cases a:y<x
  all_goals
   go_enter Tryz.func160,Tryz.ntmps160
   go_wp2_with (go_at_call 196;refine(EN _ _).mono ?_;rintro e w' ⟨rfl,rfl⟩)
   go_ret;exact⟨pI (by unfold og;split<;>(try split)<;>omega),rfl⟩
def rN(x y:Int):Int:=if x=0 then y else x
theorem AQ(g:Nat)(x y:Int)(w:World)(i:w.cell? ⟨g,0,none⟩=some (.int .i64 x))(h1:w.cell? ⟨g,1,none⟩=some (.int .i64 y)):
  Calls z_ 159 #[.slice (some ⟨g,0,none⟩) 2 2] w λ e w'=>e=.returned (.int .i64 (rN x y))/\w=w':=by
 by_cases a:x=0
 ·have d:(x !=0)=false:=by simp[a]
  have c:=U a;clear a
  by_cases b:y=0
  ·have f:(y !=0)=false:=by simp[b]
   have h:=U b;clear b;go_enter Zb,Zh
   go_wp2;refine Zk 3 ?_;rw[e_];go_wp2;rw[e_];go_wp2;rw[e_];go_wp2;go_ret;exact⟨pI (by rw[rN,if_pos c.o,h.o]),rfl⟩
  ·have f:(y !=0)=true:=by simpa using b
   clear b;go_enter Zb,Zh
   go_wp2;refine Zk 2 ?_;rw[e_];go_wp2;rw[e_];go_wp2;go_ret;exact⟨pI (by rw[rN,if_pos c.o]),rfl⟩
 ·have d:(x !=0)=true:=by simpa using a
  have c:=U a;clear a;go_enter Zb,Zh
  go_wp2;refine Zk 1 ?_;rw[e_];go_wp2;go_ret;exact⟨pI (by rw[rN,if_neg c.o]),rfl⟩
def lT(x n:Int):Bool:=decide (x≠0)&&decide (-n<=x)&&decide (x<=n)
theorem vr{n:Int}:lT x n=true↔x≠0/\ -n<=x/\x<=n:=by simp[lT,and_assoc]
theorem IT{n:Int}(a:0<=n)(h1:n<=65536):wrap64 (-n)= -n:=by unfold wrap64;omega
theorem IU{n:Int}(a:0<=n)(h1:n<=65536):wrap64 (0-n)= -n:=by unfold wrap64;omega
theorem IV(x n:Int)(w:World)(c:0<=n)(h1:n<=65536):Calls z_ 115 #[.int .i64 x,.int .i64 n] w λ e w'=>e=.returned (.bool (lT x n))/\w=w':=by
 have hw:=IU c h1
 by_cases a:x=0
 ·have d:(x !=0)=false:=by simp[a]
  have b:=U a;clear a;go_enter Za,Zg
  go_wp2;go_ret;exact⟨mO (by simp[lT,b.o]),rfl⟩
 ·have d:(x !=0)=true:=by simpa using a
  have b:=U a;clear a
  by_cases f: -n<=x
  ·by_cases g:x<=n
   all_goals
    go_enter Za,Zg
    go_wp2;go_ret;exact⟨mO (by simp[lT,b.o,f,g]),rfl⟩
  ·go_enter Za,Zg
   go_wp2;go_ret;exact⟨mO (by rw[lT,decide_eq_false (show¬-n<=x by omega),Bool.and_false,Bool.false_and]),rfl⟩
theorem EO(x n:Int)(w:World)(c:0<=n)(h1:n<=65536):Calls z_ 163 #[.int .i64 x,.int .i64 n] w λ e w'=>e=.returned (.bool (lT x n))/\w=w':=by
 have hw:=IT c h1
 by_cases a:x=0
 ·have d:(x !=0)=false:=by simp[a]
  have b:=U a;clear a;go_enter Z0,Zf
  go_wp2;go_ret;exact⟨mO (by simp[lT,b.o]),rfl⟩
 ·have d:(x !=0)=true:=by simpa using a
  have b:=U a;clear a
  by_cases f: -n<=x
  ·by_cases g:x<=n
   all_goals
    go_enter Z0,Zf
    go_wp2;go_ret;exact⟨mO (by simp[lT,b.o,f,g]),rfl⟩
  ·go_enter Z0,Zf
   go_wp2;go_ret;exact⟨mO (by rw[lT,decide_eq_false (show¬-n<=x by omega),Bool.and_false,Bool.false_and]),rfl⟩
def rj(x:Int):Int:=if x<0 then-x else x
theorem IW(x:Int)(w:World)(a: -65536<=x)(h1:x<=65536):Calls z_ 168 #[.int .i64 x] w λ e w'=>e=.returned (.int .i64 (rj x))/\w=w':=by
 have hw:wrap64 (-x)= -x:=by unfold wrap64;omega
 go_enter Tryz.func168,Tryz.ntmps168
 go_wp2
 all_goals
  go_ret;exact⟨pI (by unfold rj;split<;>omega),rfl⟩
theorem AR(w:World)(q:Nat):Below w.heap.size w (w.drewN q):=⟨rfl,rfl,rfl,v_ _,λ _ _=>rfl⟩
theorem IX(h:k<ai.length)(e:p (je ai k)=false):ai.all p=false:=by
 rw[oN h] at e;rw[Zv];exact⟨_,r_ h,by simp[e]⟩
theorem IY(h:k<ai.length)(e:p (je ai k)=true)(a:(ai.take k).all p=true):(ai.take (k+1)).all p=true:=by
 rw[uZ ai k h,List.all_append,a];simp[e]
theorem IZ(hl:ai.length=n)(h:¬k<n)(a:(ai.take k).all p=true):ai.all p=true:=by
 rw[q_ (by omega)] at a;exact a
def CD(a:List Int):Prop:=∀x∈a,x≠0/\ -65536<=x/\x<=65536
theorem CD.at(h:CD ai)(hk:k<ai.length):je ai k≠0/\ -65536<=je ai k/\je ai k<=65536:=h _ (tN hk)
theorem I1(a: -65536<=x)(h1:x<=65536):wrap64 (-x)= -x:=by unfold wrap64;omega
def vX(n:Int)(l:List Int):Bool:=l.all λ x=>lT x n
def se(n:Int)(ls:List (List Int)):Bool:=ls.all (vX n)
def lM(n:Int)(ls:List (List Int)):Int:=if n<0\/65536<n then 1 else if se n ls=false then 1 else if 65536<ls.length then 2 else 0
theorem EP{n:Int}(h:k<ls.length)(e:vX n (n5 ls k)=false):se n ls=false:=by
 rw[tM h] at e;unfold se;rw[Zv];exact⟨_,r_ h,by simp[e]⟩
theorem ER{n:Int}(h:k<ls.length)(e:vX n (n5 ls k)=true)(a:se n (ls.take k)=true):se n (ls.take (k+1))=true:=by
 unfold se at*;rw[CC ls k h,List.all_append,a];simp[e]
theorem ES{n:Int}(hl:ls.length=m)(h:¬k<m)(a:se n (ls.take k)=true):se n ls=true:=by
 rw[q_ (by omega)] at a;exact a
theorem xo{n:Int}(h:n<0\/65536<n):lM n ls=1:=if_pos h
theorem ET{n:Int}(h:se n ls=false):lM n ls=1:=by unfold lM;split<;>simp[h]
theorem EU{n:Int}(a:0<=n/\n<=65536)(h:se n ls=true)(hl:65536<ls.length):lM n ls=2:=by
 unfold lM;rw[if_neg (by omega),if_neg (by rw[h];exact Bool.noConfusion),if_pos hl]
theorem CE{n:Int}(a:0<=n/\n<=65536)(h:se n ls=true)(hl:¬65536<ls.length):lM n ls=0:=by
 unfold lM;rw[if_neg (by omega),if_neg (by rw[h];exact Bool.noConfusion),if_neg hl]
structure o6(w:World)(B:Nat)(x:Int)(A:Option Addr)(n c:Nat):Prop where
 lt:B<w.heap.size
 bf:w.cell? ⟨B,0,none⟩=some (.int .i64 x)
 c1:w.cell? ⟨B,1,none⟩=some (.slice A n c)
theorem o6.below(h:o6 w B x A n c)(a:Below w.heap.size w w'):o6 w' B x A n c:=
 ⟨s_ h.lt a.size,(a.cell (p:=⟨B,0,none⟩) h.lt).trans h.bf,(a.cell (p:=⟨B,1,none⟩) h.lt).trans h.c1⟩
theorem o6.new(w:World)(x:Int)(A:Option Addr)(n c:Nat):o6 (w.alloc (.cells #[.int .i64 x,.slice A n c] 24)) w.heap.size x A n c:=
 ⟨by simp,by simp,by simp⟩
theorem xq(r:Bool)(x n:Int)(w:World)(a:0<=n)(h1:n<=65536)(b:lT x n=r):Calls z_ 115 #[.int .i64 x,.int .i64 n] w λ e w'=>e=.returned (.bool r)/\w=w':=
 (IV x n w a h1).mono λ _ _ ⟨he,hw⟩=>⟨by rw[he,b],hw⟩
theorem I2(x:Int)(A:Option Addr)(n c:Nat)(ls:List (List Int))(w:World)(h:ku w A n c ls)(F:0<=x)(h1:x<=65536):
  Calls z_ 88 #[.agg #[.int .i64 x,.slice A n c]] w λ e w'=>e=.returned (.int .i64 (lM x ls))/\Below w.heap.size w w':=by
 have aq:=h.small;have H:=U h;clear h;have ar:¬x<0:=by omega
 have z2:¬65536<x:=by omega
 have g:=U (And.intro F h1);clear F h1;go_enter Tryz.func88,Z3
 go_wp2;have B:Below w.heap.size w (w.alloc (.cells #[.int .i64 x,.slice A n c] 24)):=(y_ _ _).alloc (v_ _) _;have C:=o6.new w x A n c;generalize aj:w.alloc (.cells #[.int .i64 x,.slice A n c] 24)=W at B C⊢;clear aj;have f:=U B;have m:=U C;have au:w.heap.size<W.heap.size:=m.o.lt;clear B C
 go_loopw [3] (λ i wr=>∃k:Nat,k<=n/\i=.int .i64 k/\se x (ls.take k)=true/\Below W.heap.size W wr) (λ i _=>n-(intOf i).toNat)
 case atStart=>exact⟨0,t_ _,rfl,rfl,y_ _ _⟩
 case round=>
  obtain⟨k,hk,rfl,G,I⟩:=hrel;have J:=U G;have a:=U I;clear G I;have K:=(m.o.below a.o).bf;have L:=(m.o.below a.o).c1
  by_cases q:k<n
  ·obtain⟨b,off,rfl,M,N⟩:=((H.o.below f.o).below a.o).cells (by omega);obtain⟨a1,r,c1,O,D⟩:=N k q;clear N;have s:=U D;have av:=D.small;clear D;have ak:(k:Int)<(n:Int):=by omega
   rename World=>V
   go_wp2_with fail
   go_loopw [4] (λ i al=>∃j:Nat,j<=r/\i=.int .i64 j/\((n5 ls k).take j).all (λ y=>lT y x)=true/\Below V.heap.size V al) (λ i _=>r-(intOf i).toNat)
   case atStart=>exact⟨0,t_ _,rfl,rfl,y_ _ _⟩
   case round=>
    obtain⟨j,aw,rfl,P,Q⟩:=hrel;have R:=U P;have d:=U Q;clear P Q;have E:w.heap.size<V.heap.size:=(m.o.below a.o).lt;have S:=(d.o.cell (p:=⟨w.heap.size,0,none⟩) E).trans K;have T:=(d.o.cell (p:=⟨w.heap.size,1,none⟩) E).trans L;have X:=(d.o.cell (p:=⟨b,off+k,none⟩) M).trans O;have Y:Below w.heap.size w wr:=f.o.trans ((a.o.trans (d.o.mono a.o.size)).mono f.o.size);have Z:=U Y;clear Y
    by_cases t:j<r
    ·obtain⟨aa,ab,rfl,ad,ae⟩:=(s.o.below d.o).cells (by omega);have af:=ae j t;clear ae;have v:w.heap.size<wr.heap.size:=s_ E d.o.size;have l:b<wr.heap.size:=s_ M d.o.size;have ax:(j:Int)<(r:Int):=by omega
     generalize ag:lT (je (n5 ls k) j) x=o;have z:=U ag;clear ag K L O
     cases o
     ·go_wp2_with fail
      refine yh (by kernel_rfl) (by kernel_rfl) ?_;have g0:=λ u:mE wr=>u.cell (p:=⟨w.heap.size,0,none⟩) v S
      have g1:=λ u:mE wr=>u.cell (p:=⟨w.heap.size,1,none⟩) v T
      have gk:=λ u:mE wr=>u.cell (p:=⟨b,off+k,none⟩) l X
      have an:=λ u:mE wr=>u.cell (p:=⟨aa,ab+j,none⟩) ad af
      repeat (go_big_quiet_step ((go_at_call 115;exact mE.same _ (xq false _ _ _ g.o.1 g.o.2 z.o))))
      refine wpQuiet_nil ?_;rintro _ ⟨⟨ao,l⟩,rfl⟩
      go_wp2_with fail
      go_ret;exact⟨pI (ET (EP (k:=k) (by rw[H.o.len];exact q) (IX (p:=λ y=>lT y x) (by rw[s.o.len];exact t) z.o))).symm,Z.o.trans (l.mono Z.o.size)⟩
     ·go_wp2_with fail
      refine yh (by kernel_rfl) (by kernel_rfl) ?_;have g0:=λ u:mE wr=>u.cell (p:=⟨w.heap.size,0,none⟩) v S
      have g1:=λ u:mE wr=>u.cell (p:=⟨w.heap.size,1,none⟩) v T
      have gk:=λ u:mE wr=>u.cell (p:=⟨b,off+k,none⟩) l X
      have an:=λ u:mE wr=>u.cell (p:=⟨aa,ab+j,none⟩) ad af
      repeat (go_big_quiet_step ((go_at_call 115;exact mE.same _ (xq true _ _ _ g.o.1 g.o.2 z.o))))
      refine wpQuiet_nil ?_;rintro _ ⟨⟨ao,l⟩,rfl⟩
      go_wp2_with fail
      go_roundw
      case rel=>exact⟨j+1,by omega,by go_num,IY (p:=λ y=>lT y x) (by rw[s.o.len];exact t) z.o R.o,d.o.trans (l.mono d.o.size)⟩
      case measure=>simp[intOf];omega
    ·go_wp2_with fail
     go_roundw
     case rel=>exact⟨k+1,by omega,by go_num,ER (by rw[H.o.len];exact q) (IZ s.o.len t R.o) J.o,a.o.trans (d.o.mono a.o.size)⟩
     case measure=>simp[intOf];omega
  ·have ah:=ES H.o.len q J.o;have ai:=U ah;clear ah;have ak:¬(k:Int)<(n:Int):=by omega
   by_cases ay:(65536:Int)<n
   ·go_wp2_with fail
    go_ret;exact⟨pI (EU g.o ai.o (by rw[H.o.len];omega)).symm,f.o.trans (a.o.mono f.o.size)⟩
   ·go_wp2_with fail
    go_ret;exact⟨pI (CE g.o ai.o (by rw[H.o.len];omega)).symm,f.o.trans (a.o.mono f.o.size)⟩
theorem I3(x:Int)(A:Option Addr)(n c:Nat)(w:World)(h:x<0\/65536<x):
  Calls z_ 88 #[.agg #[.int .i64 x,.slice A n c]] w λ e w'=>e=.returned (.int .i64 1)/\Below w.heap.size w w':=by
 by_cases a:x<0
 ·clear h;go_enter Tryz.func88,Z3
  go_wp2;go_ret;exact⟨rfl,(y_ _ _).alloc (v_ _) _⟩
 ·have h1:65536<x:=by omega
  clear h;go_enter Tryz.func88,Z3
  go_wp2;go_ret;exact⟨rfl,(y_ _ _).alloc (v_ _) _⟩
theorem CF(x:Int)(A:Option Addr)(n c:Nat)(ls:List (List Int))(w:World)(h:ku w A n c ls):
  Calls z_ 88 #[.agg #[.int .i64 x,.slice A n c]] w λ e w'=>e=.returned (.int .i64 (lM x ls))/\Below w.heap.size w w':=by
 by_cases a:x<0\/65536<x
 ·rw[xo a];exact I3 x A n c w a
 ·exact I2 x A n c ls w h (by omega) (by omega)
theorem EV(he:P.underlying e=some .bool){v:Value}{x:Bool}{sM:List MemPlace}(h:plainElem (H:=Unit) P e v=some (.lit (.bool x),sM)):v=.bool x:=by
 unfold plainElem at h;rw[he] at h
 cases v<;>simp at h
 rw[h.1]
def lY(w:World)(b n:Nat)(S:List Int):Prop:=
 ∃D:DataW Unit,w.ownsMap z_ 3 (plainElem z_ 4) b n D/\∀x,(Lit.int .i64 x).wf=true->D.atKey (.int .i64 x) (.lit (.bool false))=.lit (.bool (hasB S x))
theorem lY.made(w:World):lY (w.alloc (.map #[] 0)) w.heap.size 0 []:=
 ⟨_,World.ownsMap_made w _ _ _,λ x _=>rfl⟩
theorem lY.lt{w:World}{b n:Nat}{S:List Int}(h:lY w b n S):b<w.heap.size:=by
 obtain⟨D,h1,a⟩:=h;exact h1.lt
theorem lY.kept{w w':World}{b n:Nat}{S:List Int}{row:Option Nat}(h:lY w b n S)(a:w.grownBy w' row)(c:some b≠row):lY w' b n S:=by
 obtain⟨D,h1,d⟩:=h;exact⟨D,h1.kept a c,d⟩
theorem lY.alloc{w:World}{b n:Nat}{S:List Int}(h:lY w b n S)(o:Obj):lY (w.alloc o) b n S:=by
 obtain⟨D,h1,a⟩:=h;exact⟨D,h1.alloc o,a⟩
theorem lY.drew{w:World}{b n:Nat}{S:List Int}(h:lY w b n S):lY w.drew b n S:=by
 obtain⟨D,h1,a⟩:=h;exact⟨D,h1.drew,a⟩
theorem lY.below(h:lY w b n S)(a:Below B w w')(c:b<B):lY w' b n S:=by
 obtain⟨D,⟨es,clock,h1,d⟩,e⟩:=h;exact⟨D,⟨es,clock,(a.block b c).trans h1,d⟩,e⟩
theorem lY.look(h:lY w b n S){x:Int}(a:(Lit.int .i64 x).wf=true):
  (Instr.lookup 114 (.map (some b)) (.int .i64 x) false).run z_ w=.ok (.bool (hasB S x)) w:=by
 obtain⟨D,h1,d⟩:=h;obtain⟨v,g,e,c⟩:=h1.lookup (Maps.int_keyed c_) Tryz.underlying114 (z:=.bool false) (Tryz.zeroValue4 w) (plainElem_bool Zs false) (Maps.keyOf_int_mk c_ a);rw[d x a] at c;have f:=EV Zs c;rw[e,f]
theorem lY.put(h:lY w b n S)(a:n<maxLen){x:Int}(c:(Lit.int .i64 x).wf=true):
  ∃w',(Instr.mapUpdate 114 (.map (some b)) (.int .i64 x) (.bool true)).run z_ w=.ok () w'/\lY w' b (n+1) (S++[x])/\w.grownBy w' (some b):=by
 obtain⟨D,h1,d⟩:=h;obtain⟨w',f,g,i⟩:=h1.update (Maps.int_keyed c_) Tryz.underlying114 a (Maps.keyOf_int_mk c_ c) (plainElem_bool Zs true);refine⟨w',f,⟨_,g,λ y j=>?_⟩,i⟩
 by_cases e:y=x
 ·subst e;rw[Maps.atKey_put_same h1.isMap (by simp[WideAt.IsKeyLit]),zm];simp
 ·rw[Maps.atKey_put_other (by simpa using e),d y j,zm];have:(x==y)=false:=by simpa using Ne.symm e
  rw[this,Bool.or_false]
theorem EW(h:k<ai.length)(e:p (je ai k)=true):ai.any p=true:=by
 rw[oN h] at e;rw[Zr];exact⟨_,r_ h,e⟩
theorem EX(h:k<ai.length)(e:p (je ai k)=false)(a:(ai.take k).any p=false):(ai.take (k+1)).any p=false:=by
 rw[uZ ai k h,List.any_append,a];simp[e]
theorem EY(hl:ai.length=n)(h:¬k<n)(a:(ai.take k).any p=false):ai.any p=false:=by
 rw[q_ (by omega)] at a;exact a
def I4(p:Int->Bool)(a:List Int)(w:World)(e:Ending)(w':World):Prop:=∃r:Int,e=.returned (.int .i64 r)/\(decide (0<=r)=a.any p)/\w=w'
theorem I5(g:Nat)(lb:Array Value)(p:Int->Bool)(t:∀args w,(callFunc g args).run z_ w=.ok (.enter g args) w)(A:Option Addr)(n c:Nat)(a:List Int)(w:World)(h:aL w A n c a)
  (hp:∀x∈a,Calls z_ g (#[.int .i64 x]++lb) w λ e w'=>e=.returned (.bool (p x))/\w=w'):
  Calls z_ 142 #[.slice A n c,.func (.func g) #[] lb] w (I4 p a w):=by
 have u:=h.small;have H:=U h;clear h;have s:=U hp;clear hp;go_enter Tryz.func142,Tryz.ntmps142
 go_wp2
 go_loop [8] (λ i=>∃k:Nat,k<=n/\i=.int .i64 k/\(a.take k).any p=false) (λ i=>n-(intOf i).toNat)
 case atStart=>exact⟨0,t_ _,rfl,rfl⟩
 case round=>
  obtain⟨k,hk,rfl,j⟩:=hrel;have l:=U j;clear j
  by_cases d:k<n
  ·obtain⟨b,off,rfl,v,m⟩:=H.o.cells (by omega);have y:=m k d;clear m;have hl:k<a.length:=by rw[H.o.len];exact d
   have f:=s.o (je a k) (tN hl);generalize q:p (je a k)=o at f;have r:=U q;clear q
   cases o
   ·go_wp2_with (go_at_fn g;refine f.mono ?_;rintro e w' ⟨rfl,rfl⟩)
    go_round
    case rel=>exact⟨k+1,by omega,by go_num,EX hl r.o l.o⟩
    case measure=>simp[intOf];omega
   ·go_wp2_with (go_at_fn g;refine f.mono ?_;rintro e w' ⟨rfl,rfl⟩)
    go_ret;exact⟨k,rfl,by rw[EW hl r.o];simp,rfl⟩
  ·go_wp2;go_ret;exact⟨-1,rfl,by rw[EY H.o.len d l.o];rfl,rfl⟩
theorem I6(g:Nat)(lb:Array Value)(p:Int->Bool)(b:∀args w,(callFunc g args).run z_ w=.ok (.enter g args) w)(A:Option Addr)(n c:Nat)(a:List Int)(w:World)(h:aL w A n c a)
  (hp:∀x∈a,Calls z_ g (#[.int .i64 x]++lb) w λ e w'=>e=.returned (.bool (p x))/\w=w'):
  Calls z_ 120 #[.slice A n c,.func (.func g) #[] lb] w λ e w'=>e=.returned (.bool (a.any p))/\w=w':=by
 have d:=I5 g lb p b A n c a w h hp;clear h hp;go_enter Tryz.func120,Tryz.ntmps120
 go_wp2_with (go_at_call 142;refine d.mono ?_;rintro e w' ⟨r,rfl,f,rfl⟩)
 all_goals
  go_ret;exact⟨mO (by rw[<-f]),rfl⟩
theorem I7:∀args w,(callFunc 162 args).run z_ w=.ok (.enter 162 args) w:=enters_of Tryz.func162 (by kernel_rfl) rfl
theorem I8(B:Nat)(n x:Int)(w:World)(b:w.cell? ⟨B,0,none⟩=some (.int .i64 n))(a:0<=n)(h1:n<=65536):
  Calls z_ 162 #[.int .i64 x,.pointer (some ⟨B,0,none⟩)] w λ e w'=>e=.returned (.bool (!(lT x n)))/\w=w':=by
 go_enter Tryz.func162,Tryz.ntmps162
 go_wp2_with (go_at_call 163;refine(EO x n w a h1).mono ?_;rintro e w' ⟨rfl,rfl⟩)
 go_ret;exact⟨rfl,rfl⟩
theorem I9(n:Int)(l:List Int):l.any (λ x=> !(lT x n))= !(vX n l):=by
 unfold vX;rw[List.not_all_eq_any_not]
theorem Ja(x:Int)(A:Option Addr)(n c:Nat)(ls:List (List Int))(w:World)(h:ku w A n c ls)(m:0<=x)(h1:x<=65536):
  Calls z_ 107 #[.agg #[.int .i64 x,.slice A n c]] w λ e w'=>e=.returned (.int .i64 (lM x ls))/\Below w.heap.size w w':=by
 have E:=h.small;have H:=U h;clear h;have F:¬x<0:=by omega
 have z2:¬65536<x:=by omega
 have d:=U (And.intro m h1);clear m h1;go_enter Z4,Ze
 go_wp2;have l:Below w.heap.size w (w.alloc (.cells #[.int .i64 x,.slice A n c] 24)):=(y_ _ _).alloc (v_ _) _;have a:=o6.new w x A n c;generalize B:w.alloc (.cells #[.int .i64 x,.slice A n c] 24)=W at l a⊢;clear B;have f:=U l;have G:=U a;have C:=a.bf;have I:=a.c1;clear l a
 go_loop [16] (λ i=>∃k:Nat,k<=n/\i=.int .i64 k/\se x (ls.take k)=true) (λ i=>n-(intOf i).toNat)
 case atStart=>exact⟨0,t_ _,rfl,rfl⟩
 case round=>
  obtain⟨k,hk,rfl,p⟩:=hrel;have q:=U p;clear p
  by_cases g:k<n
  ·obtain⟨b,off,rfl,J,r⟩:=(H.o.below f.o).cells (by omega);obtain⟨a1,D,c1,K,s⟩:=r k g;clear r;have j:=I6 162 #[.pointer (some ⟨w.heap.size,0,none⟩)] (λ y=> !(lT y x)) I7 a1 D c1 (n5 ls k) W s (λ y _=>I8 w.heap.size x y W C d.o.1 d.o.2);rw[I9] at j;clear s;generalize t:vX x (n5 ls k)=o at j;have u:=U t;clear t
   cases o
   ·go_wp2_with (go_at_call 120;refine j.mono ?_;rintro e w' ⟨rfl,rfl⟩)
    go_ret;exact⟨pI (ET (EP (k:=k) (by rw[H.o.len];exact g) u.o)).symm,f.o⟩
   ·go_wp2_with (go_at_call 120;refine j.mono ?_;rintro e w' ⟨rfl,rfl⟩)
    go_round
    case rel=>exact⟨k+1,by omega,by go_num,ER (by rw[H.o.len];exact g) u.o q.o⟩
    case measure=>simp[intOf];omega
  ·have v:=ES H.o.len g q.o;have z:=U v;clear v;have L:¬(k:Int)<(n:Int):=by omega
   by_cases M:(65536:Int)<n
   ·go_wp2;go_ret;exact⟨pI (EU d.o z.o (by rw[H.o.len];omega)).symm,f.o⟩
   ·go_wp2;go_ret;exact⟨pI (CE d.o z.o (by rw[H.o.len];omega)).symm,f.o⟩
theorem Jb(x:Int)(A:Option Addr)(n c:Nat)(w:World)(h:x<0\/65536<x):
  Calls z_ 107 #[.agg #[.int .i64 x,.slice A n c]] w λ e w'=>e=.returned (.int .i64 1)/\Below w.heap.size w w':=by
 by_cases a:x<0
 ·clear h;go_enter Z4,Ze
  go_wp2;go_ret;exact⟨rfl,(y_ _ _).alloc (v_ _) _⟩
 ·have h1:65536<x:=by omega
  clear h;go_enter Z4,Ze
  go_wp2;go_ret;exact⟨rfl,(y_ _ _).alloc (v_ _) _⟩
theorem xu(x:Int)(A:Option Addr)(n c:Nat)(ls:List (List Int))(w:World)(h:ku w A n c ls):
  Calls z_ 107 #[.agg #[.int .i64 x,.slice A n c]] w λ e w'=>e=.returned (.int .i64 (lM x ls))/\Below w.heap.size w w':=by
 by_cases a:x<0\/65536<x
 ·rw[xo a];exact Jb x A n c w a
 ·exact Ja x A n c ls w h (by omega) (by omega)
theorem xw:(z_.info? 3).map (λ i=>(i.zero,i.size,i.bytes))=some (some (.int .i64 0),1,8):=by kernel_rfl
structure Row where
 A:Option Addr
 n:Nat
 c:Nat
 ai:List Int
theorem CG(h:W.ownsRow base e size v (k+1) xs):∃g cap,v=.slice (some ⟨g,0,none⟩) (k+1) cap:=by
 rcases h.2 with⟨_,b⟩|⟨g,cap,cur,a,_⟩
 ·omega
 ·exact⟨g,cap,a⟩
theorem AS(h:w.ownsRow base e size v n xs){g:Nat}(a:v.ownBlock=some g):base<=g/\g<w.heap.size:=by
 rcases h.2 with⟨rfl,_⟩|⟨b,cap,cur,rfl,d,c,_⟩
 ·simp[Value.ownBlock] at a
 ·have:b=g:=by simpa[Value.ownBlock] using a
  subst this;refine⟨d,?_⟩;rcases Zt b w.heap.size with f|i
  ·exact f
  ·rw[k_ i] at c;cases c
theorem mw(h:w.ownsRow B e k v n xs)(a:Below w.heap.size w w'):w'.ownsRow B e k v n xs:=
 h.kept (row:=none) ⟨a.os,a.tape,a.output,a.size,λ j b _=>a.block j b⟩ (by cases c:v.ownBlock<;>simp)
theorem EZ:(z_.info? 25).map (λ i=>(i.zero,i.size,i.bytes))=some (some (.slice none 0 0),1,24):=by kernel_rfl
def kS(r:Row):Value:=.slice r.A r.n r.c
theorem CH(a:z_.underlying t=some (.slice e))(w:World)(base:Nat)(ty:TypeId)(i0:TypeInfo)(b:z_.info? e=some i0)(v:Value)(n size:Nat)(xs:List Value)(d:w.ownsRow base e size v n xs)(c:Nat):
  (i_ #[t,t] ty #[v,.slice none 0 c]).run z_ w=.ok v w:=by
 rcases d.2 with⟨rfl,rfl⟩|⟨g,cap,cur,rfl,_,_,f,_⟩
 ·simp[i_,run_underlying a,sizeOf,typeInfo,b,Builtin.lenOf,Z5]
 ·simp[i_,run_underlying a,sizeOf,typeInfo,b,Builtin.lenOf,Z5,f,storeCells]
theorem aL.news{off:Nat}(h:aL w (some ⟨b,off,none⟩) n c ai):∀j u,(ai.map (w_ .i64))[j]? =some u->w.cell? (Addr.add ⟨b,off,none⟩ j)=some u:=by
 intro j u a;have hl:=h.len;have d:j<n:=by have:=(h_.1 a).1;simpa[hl] using this
 obtain⟨f,g,he,i,e⟩:=h.cells (by omega);simp only[Option.some.injEq,Addr.mk.injEq] at he;obtain⟨rfl,rfl,_⟩:=he;rw[Z6,e j d];rw[m_,x_ (by rw[hl];exact d)] at a;rw[oN (by rw[hl];exact d)];exact a
def nj(w:World)(base:Nat)(e:TypeId)(v:Value)(k:Nat)(ys:List Value)(v':Value)(w':World):Prop:=
 w'.ownsRow base e 1 v' k ys/\w.grownBy w' v.ownBlock/\(v'.ownBlock=v.ownBlock\/v'.ownBlock=some w.heap.size)
theorem CI(w:World)(ty:TypeId)(base:Nat)(v:Value)(n:Nat)(xs:List Int)(e:w.ownsRow base 3 1 v n (xs.map (w_ .i64)))
  (A:Option Addr) (m c:Nat) (d:List Int) (a:aL w A m c d) (k:(n+m)*8<=140737488355328) (l:base<=w.heap.size):
  ∃v' w',(i_ #[25,25] ty #[v,.slice A m c]).run z_ w=.ok v' w'/\nj w base 3 v (n+m) ((xs++d).map (w_ .i64)) v' w':=by
 obtain⟨i0,g,o,p,q⟩:=info_parts xw
 cases A with
 |none=>
  have hm:m=0:=by
   rcases Zz m with f|f
   ·exact f
   ·obtain⟨b,off,he,_⟩:=a.cells f;cases he
  subst hm;have r:d=[]:=p_ a.len;subst r;exact⟨v,w,CH f_ w base ty i0 g v n 1 _ e c,by simpa using e,Z7 w _,.inl rfl⟩
 |some h=>
  have s:∀j u,(d.map (w_ .i64))[j]? =some u->w.cell? (h.add j)=some u:=by
   intro j u i;have B:j<m:=by have:=(h_.1 i).1;simpa[a.len] using this
   obtain⟨b,off,he,_⟩:=a.cells (by omega);injection he with he
   subst he;exact a.news j u i
  obtain⟨v',w',h1,t,y,_,z⟩:=run_append_own_at (P:=z_) w base 25 ty 3 i0 (.int .i64 0) 1 8 f_ g o p q rfl (by decide) v n _ e h m c (d.map (w_ .i64)) (by simp[a.len]) s (by intro u hu;obtain⟨x,_,rfl⟩:=List.mem_map.1 hu;rfl) (by unfold maxLen;omega) k l;exact⟨v',w',h1,by rw[Zl];exact t,y,z⟩
theorem E0{o:Oper}{K:Act->World->Prop}{E:Prop}(d:o.guard=none)(s x:Operand)
  (e:o.op=.call {callee:=.builtin .append,args:= #[s,x],argTypes:= #[25,25]}) (base:Nat) (v:Value) (n:Nat) (xs:List Int) (hs:a.eval s=v) (f:w.ownsRow base 3 1 v n (xs.map (w_ .i64)))
  (A:Option Addr) (m c:Nat) (b:List Int) (g:a.eval x=.slice A m c) (i:aL w A m c b) (j:(n+m)*8<=140737488355328) (k:base<=w.heap.size)
  (h:∀v' w',nj w base 3 v (n+m) ((xs++b).map (w_ .i64)) v' w'->K (a.put o.dst v') w'):
  if Zd o (yielded ops a.tmps)=true then Oper.wp z_ o a w K Q else E:=by
 have hw:Zd o (yielded ops a.tmps)=true:=by simp[Zd,d]
 rw[if_pos hw];obtain⟨v',w',h1,l⟩:=CI w o.type base v n xs f A m c b i j k;unfold Oper.wp;simp only[execOp,e,resolve,invoke,builtin,Z8,Z9,Zu,Zq,Zx,Z_,hs,g,h1];exact h v' w' l
theorem qS{o:Oper}(d:o.guard=none)(s x:Operand)
  (e:o.op=.call {callee:=.builtin .append,args:= #[s,x],argTypes:= #[25,25]}) (base:Nat) (v:Value) (n:Nat) (xs:List Int) (hs:a.eval s=v) (f:w.ownsRow base 3 1 v n (xs.map (w_ .i64)))
  (A:Option Addr) (m c:Nat) (b:List Int) (g:a.eval x=.slice A m c) (i:aL w A m c b) (j:(n+m)*8<=140737488355328) (k:base<=w.heap.size)
  (h:∀v' w',nj w base 3 v (n+m) ((xs++b).map (w_ .i64)) v' w'->wpList z_ ops Q rest (a.put o.dst v') w'):
  wpList z_ ops Q (o::rest) a w:=by
 obtain⟨v',w',h1,l⟩:=CI w o.type base v n xs f A m c b i j k;refine wpList_plain d λ K p=>?_
 unfold Oper.wp;simp only[execOp,e,resolve,invoke,builtin,Z8,Z9,Zu,Zq,Zx,Z_,hs,g,h1];exact p _ _ (h v' w' l)
structure oh(w:World)(A:Option Addr)(n c:Nat)(rs:List Row):Prop where
 len:rs.length=n
 cap:n<=c
 mu:n*24<=140737488355328
 nT:c<=maxLen
 cells:0<n->∃b off,A=some ⟨b,off,none⟩/\b<w.heap.size/\∀j u,(rs.map kS)[j]? =some u->w.cell? ⟨b,off+j,none⟩=some u
 rows:∀r∈rs,aL w r.A r.n r.c r.ai
theorem oh.below{w w':World}{A:Option Addr}{n c:Nat}{rs:List Row}(h:oh w A n c rs)(a:Below w.heap.size w w'):oh w' A n c rs:=
 ⟨h.len,h.cap,h.mu,h.nT,λ e=>by
  obtain⟨b,off,rfl,d,f⟩:=h.cells e;exact⟨b,off,rfl,s_ d a.size,λ j u g=>(a.cell (p:=⟨b,off+j,none⟩) d).trans (f j u g)⟩,λ r i=>(h.rows r i).below a⟩
theorem oh.CJ{rs:List Row}(h:oh w A n c rs):ku w A n c (rs.map (·.ai)):=
 ⟨by rw[List.length_map];exact h.len,h.cap,h.mu,h.nT,λ d=>by
  obtain⟨b,off,rfl,e,f⟩:=h.cells d;refine⟨b,off,rfl,e,λ j g=>?_⟩;have a:j<rs.length:=by rw[h.len];exact g
  refine⟨rs[j].A,rs[j].n,rs[j].c,f j _ (by rw[m_,x_ a];rfl),?_⟩;rw[tM (by simpa using a)];simpa using h.rows _ (r_ a)⟩
theorem E1{w:World}{b off:Nat}:∀(ls:List (List Int))(k:Nat),(∀j,j<ls.length->∃A' d c',w.cell? ⟨b,off+(k+j),none⟩=some (.slice A' d c')/\aL w A' d c' (n5 ls j))->
  ∃rs:List Row,rs.map (·.ai)=ls/\(∀j u,(rs.map kS)[j]? =some u->w.cell? ⟨b,off+(k+j),none⟩=some u)/\∀r∈rs,aL w r.A r.n r.c r.ai
 |[],k,h=>⟨[],rfl,λ j u a=>by simp at a,λ r f=>by cases f⟩
 |l::ls,k,h=>by
  obtain⟨A',d,c',h1,g⟩:=h 0 (by simp);obtain⟨rs,i,m,o⟩:=E1 (w:=w) (b:=b) (off:=off) ls (k+1) (λ j a=>by
   obtain⟨A',d,c',h1,g⟩:=h (j+1) (by simpa using a);refine⟨A',d,c',?_,g⟩;rw[show k+1+j=k+(j+1) by omega];exact h1)
  refine⟨⟨A',d,c',l⟩::rs,by rw[Zx,i],λ j u a=>?_,λ r f=>?_⟩
  ·cases j with
   |zero=>simp at a;subst a;exact h1
   |succ j=>rw[show k+(j+1)=k+1+j by omega];exact m j u (by simpa using a)
  ·rcases List.mem_cons.1 f with e|e
   ·subst e;exact g
   ·exact o r e
theorem ku.E2(h:ku w A n c ls):∃rs:List Row,rs.map (·.ai)=ls/\oh w A n c rs:=by
 rcases Zz n with a|a
 ·have:ls=[]:=p_ (by rw[h.len];exact a);subst this;exact⟨[],rfl,⟨by have:=h.len;simpa using this,h.cap,h.mu,h.nT,λ g=>absurd g (by omega),λ r i=>by cases i⟩⟩
 ·obtain⟨b,off,e,k,l⟩:=h.cells a;obtain⟨rs,f,m,o⟩:=E1 (w:=w) (b:=b) (off:=off) ls 0 (λ j d=>by rw[Nat.zero_add];exact l j (by rw[<-h.len];exact d));refine⟨rs,f,⟨?_,h.cap,h.mu,h.nT,λ _=>⟨b,off,e,k,λ j u d=>?_⟩,o⟩⟩
  ·rw[<-h.len,<-f,List.length_map]
  ·have:=m j u d;rwa[Nat.zero_add] at this
theorem Je(w:World)(ty:TypeId)(base:Nat)(v:Value)(n:Nat)(xs:List Row)(d:w.ownsRow base 25 1 v n (xs.map kS))
  (A:Option Addr) (m c:Nat) (rs:List Row) (a:oh w A m c rs) (i:(n+m)*24<=140737488355328) (k:base<=w.heap.size):
  ∃v' w',(i_ #[22,22] ty #[v,.slice A m c]).run z_ w=.ok v' w'/\nj w base 25 v (n+m) ((xs++rs).map kS) v' w':=by
 obtain⟨i0,f,l,o,p⟩:=info_parts EZ
 cases A with
 |none=>
  have hm:m=0:=by
   rcases Zz m with e|e
   ·exact e
   ·obtain⟨b,off,he,_⟩:=a.cells e;cases he
  subst hm;have q:rs=[]:=p_ a.len;subst q;exact⟨v,w,CH Tryz.underlying22 w base ty i0 f v n 1 _ d c,by simpa using d,Z7 w _,.inl rfl⟩
 |some g=>
  have r:∀j u,(rs.map kS)[j]? =some u->w.cell? (g.add j)=some u:=by
   intro j u h;have B:j<m:=by have:=(h_.1 h).1;simpa[a.len] using this
   obtain⟨b,off,he,_,s⟩:=a.cells (by omega);injection he with he
   subst he;rw[Z6];exact s j u h
  obtain⟨v',w',h1,t,y,_,z⟩:=run_append_own_at (P:=z_) w base 22 ty 25 i0 (.slice none 0 0) 1 24 Tryz.underlying22 f l o p rfl (by decide) v n _ d g m c (rs.map kS) (by simp[a.len]) r (by intro u hu;obtain⟨x,_,rfl⟩:=List.mem_map.1 hu;rfl) (by unfold maxLen;omega) i k;exact⟨v',w',h1,by rw[Zl];exact t,y,z⟩
theorem Jf{o:Oper}(b:o.guard=none)(s x:Operand)
  (d:o.op=.call {callee:=.builtin .append,args:= #[s,x],argTypes:= #[22,22]}) (base:Nat) (v:Value) (n:Nat) (xs:List Row) (hs:a.eval s=v) (e:w.ownsRow base 25 1 v n (xs.map kS))
  (A:Option Addr) (m c:Nat) (rs:List Row) (f:a.eval x=.slice A m c) (g:oh w A m c rs) (i:(n+m)*24<=140737488355328) (j:base<=w.heap.size)
  (h:∀v' w',nj w base 25 v (n+m) ((xs++rs).map kS) v' w'->wpList z_ ops Q rest (a.put o.dst v') w'):
  wpList z_ ops Q (o::rest) a w:=by
 obtain⟨v',w',h1,k⟩:=Je w o.type base v n xs e A m c rs g i j;refine wpList_plain b λ K l=>?_
 unfold Oper.wp;simp only[execOp,d,resolve,invoke,builtin,Z8,Z9,Zu,Zq,Zx,Z_,hs,f,h1];exact l _ _ (h v' w' k)
theorem E3(h:w.ownsRow base e size v n xs):∃A c,v=.slice A n c:=by
 rcases h.2 with⟨rfl,rfl⟩|⟨g,cap,cur,rfl,_⟩
 ·exact⟨none,0,rfl⟩
 ·exact⟨some ⟨g,0,none⟩,cap,rfl⟩
theorem E4(w:World)(base s:Nat)(e:TypeId)(hs:s=w.heap.size)(a:base<=w.heap.size):(w.alloc (.cells #[] e)).ownsRow base e 1 (.slice (some ⟨s,0,none⟩) 0 0) 0 []:=by
 subst hs;exact World.ownsRow_made w #[] 0 a (t_ _) rfl
def mP(a:List Int):Obj:=.cells ((a.map (w_ .i64)).toArray) 3
theorem aL.lit(w:World)(a:List Int)(n s:Nat)(c:a.length=n)(hs:s=w.heap.size)(h:n<=1000):aL (w.alloc (mP a)) (some ⟨s,0,none⟩) n n a:=by
 subst hs;refine⟨c,v_ _,by omega,by unfold maxLen;omega,λ d=>⟨w.heap.size,0,rfl,by simp,λ j e=>?_⟩⟩;have b:(w.alloc (mP a)).heap[w.heap.size]? =some (mP a):=World.alloc_heap_new w _;generalize w.alloc (mP a)=W at b;have:((a.map (w_ .i64)).toArray)[j]? =some (.int .i64 (je a j)):=by
  rw[List.getElem?_toArray,m_,x_ (by omega:j<a.length),oN (by omega)];rfl
 unfold mP at b;simp[o_,b,this]
theorem E5{g cap:Nat}(h:w.ownsRow base e 1 (.slice (some ⟨g,0,none⟩) n cap) n xs)(u:Value):
  (w.setCell ⟨g,k,none⟩ u).ownsRow base e 1 (.slice (some ⟨g,0,none⟩) n cap) n (xs.set k u):=by
 obtain⟨h1,b⟩:=h;rcases b with⟨a,_⟩|⟨o,p,cur,a,c,d,f,i,j,l⟩
 ·cases a
 ·cases a
  refine⟨by rw[List.length_set];exact h1,.inr ⟨g,cap,cur.setIfInBounds k u,rfl,c,?_,f,i,by rw[Array.size_setIfInBounds];exact j,?_⟩⟩
  ·obtain⟨m,hk⟩:=Array.getElem?_eq_some_iff.1 d;show(w.heap.modify g _)[g]? =_;rw[Array.getElem?_eq_getElem (by rw[Array.size_modify];exact m),Array.getElem_modify_self,hk];rfl
  ·rw[Array.toList_setIfInBounds,List.take_set,l]
theorem ku.kW{rs:List Row}(h:w.ownsRow base 25 1 (.slice A n c) n (rs.map kS))(l:∀r∈rs,aL w r.A r.n r.c r.ai)(f:n*24<=140737488355328):ku w A n c (rs.map (·.ai)):=by
 obtain⟨h1,m⟩:=h;have hl:rs.length=n:=by simpa using h1
 rcases m with⟨a,i⟩|⟨g,cap,cur,a,u,b,o,p,v,q⟩
 ·simp only[n_] at a;obtain⟨rfl,_,rfl⟩:=a;subst i;exact⟨by simpa using hl,v_ _,f,t_ _,λ h=>absurd h (by omega)⟩
 ·simp only[n_] at a;obtain⟨rfl,_,rfl⟩:=a;refine⟨by simpa using hl,o,f,p,λ i=>⟨g,0,rfl,?_,λ j x=>?_⟩⟩
  ·rcases Zt g w.heap.size with s|t
   ·exact s
   ·rw[k_ t] at b;cases b
  ·have d:j<rs.length:=by omega
   have e:cur[j]? =some (kS rs[j]):=by
    have k:(cur.toList.take (n*1))[j]? =(rs.map kS)[j]? :=by rw[q]
    rw[g_ (by omega),m_,x_ d] at k;rw[<-a_,k];rfl
   refine⟨rs[j].A,rs[j].n,rs[j].c,by simp[o_,b,e];rfl,?_⟩;have:=l _ (r_ d);rw[tM (by simpa using d)];simpa using this
theorem aL.take{w:World}{A:Option Addr}{n c:Nat}{ai:List Int}(h:aL w A n c ai){k:Nat}(hk:k<=n):aL w A k c (ai.take k):=by
 have f:=h.mu;have g:=h.cap;refine⟨by simp[h.len];omega,by omega,by omega,h.nT,λ i=>?_⟩;obtain⟨b,off,rfl,a,d⟩:=h.cells (by omega);refine⟨b,off,rfl,a,λ j e=>?_⟩;rw[d j (by omega)];unfold je;simp[u_,List.getElem?_take,e]
theorem aL.cut(h:aL w A n c ai){k:Nat}(hk:k<=n):aL w (Option.map (λ x=>x.add k) A) (n-k) (c-k) (ai.drop k):=by
 have hl:=h.len;have e:=h.cap;have f:=h.mu;have hm:=h.nT;refine⟨by simp[hl],by omega,by omega,by omega,λ g=>?_⟩;obtain⟨b,off,rfl,a,d⟩:=h.cells (by omega);refine⟨b,off+k,by rw[Option.map_some,Z6],a,λ j i=>?_⟩;have:=d (k+j) (by omega);rw[show off+(k+j)=off+k+j by omega] at this;rw[this];simp[je,u_]
theorem aL.zero(hm:m=0)(a:ai.length=0)(b:c<=maxLen):aL w A m c ai:=by
 subst hm;rw[p_ a];exact aL.nil w A c b
structure kE(w:World)(A:Option Addr)(n c:Nat)(gU:List Bool):Prop where
 len:gU.length=n
 cap:n<=c
 mu:n<=140737488355328
 nT:c<=maxLen
 cells:0<n->∃b off,A=some ⟨b,off,none⟩/\b<w.heap.size/\∀j,j<n->w.cell? ⟨b,off+j,none⟩=some (.bool (gU.getD j false))
theorem kE.below(h:kE w A n c gU)(a:Below w.heap.size w w'):kE w' A n c gU:=
 ⟨h.len,h.cap,h.mu,h.nT,λ e=>by
  obtain⟨b,off,rfl,d,f⟩:=h.cells e;exact⟨b,off,rfl,s_ d a.size,λ j g=>(a.cell (p:=⟨b,off+j,none⟩) d).trans (f j g)⟩⟩
def vt(a:List Bool)(v:Nat):Bool:=a.getD v false
def sg(a:List Bool)(x:Int):Bool:=if lT x 65536=true then vt a x.natAbs==decide (0<x) else false
def vY(a:List Bool)(l:List Int):Bool:=l.any (sg a)
def rO(x:Int)(ls:List (List Int))(a:List Bool):Bool:=lM x ls==0&&ls.all (vY a)
theorem Jg(h:lT x 65536=false):sg gU x=false:=by unfold sg;rw[if_neg (by simp[h])]
theorem E6(h:lT x 65536=true):sg gU x=(vt gU x.natAbs==decide (0<x)):=by unfold sg;rw[if_pos h]
theorem E7{v:Nat}(hl:gU.length=n)(h:¬v<n):vt gU v=false:=by
 unfold vt;rw[u_,List.getElem?_eq_none (by omega)];rfl
theorem kE.kW(h:w.ownsRow base 4 1 (.slice A n c) n (gU.map Value.bool))(d:n<=140737488355328):kE w A n c gU:=by
 obtain⟨h1,k⟩:=h;have hl:gU.length=n:=by simpa using h1
 rcases k with⟨a,f⟩|⟨g,cap,cur,a,r,b,l,m,s,o⟩
 ·simp only[n_] at a;obtain⟨rfl,_,rfl⟩:=a;subst f;exact⟨hl,v_ _,d,t_ _,λ h=>absurd h (by omega)⟩
 ·simp only[n_] at a;obtain⟨rfl,_,rfl⟩:=a;refine⟨hl,l,d,m,λ f=>⟨g,0,rfl,?_,λ j t=>?_⟩⟩
  ·rcases Zt g w.heap.size with p|q
   ·exact p
   ·rw[k_ q] at b;cases b
  ·have e:cur[j]? =some (.bool (gU.getD j false)):=by
    have i:(cur.toList.take (n*1))[j]? =(gU.map Value.bool)[j]? :=by rw[o]
    rw[g_ (by omega),m_,x_ (by omega:j<gU.length)] at i;rw[<-a_,i,u_,x_ (by omega:j<gU.length)];rfl
   simp[o_,b,e]
theorem Jh:vY gU l=true↔∃x∈l,sg gU x=true:=by unfold vY;rw[Zr]
end
section
open Go.RowKit
def xx(n:Nat)(v:Int):Bool:=decide (0<v)&&decide (v<n)
theorem AT{v:Int}:xx n v=true↔0<v/\v<n:=by simp[xx]
theorem CK(B:Nat)(A:Option Addr)(n c:Nat)(v:Int)(w:World)(d:w.cell? ⟨B,0,none⟩=some (.slice A n c)):
  Calls z_ 206 #[.pointer (some ⟨B,0,none⟩),.int .i64 v] w λ e w'=>e=.returned (.bool (xx n v))/\w=w':=by
 by_cases a:0<v
 ·by_cases b:v<n
  all_goals
   go_enter Tryz.func206,Tryz.ntmps206
   go_wp2;go_ret;exact⟨mO (by simp[xx,a,b]),rfl⟩
 ·go_enter Tryz.func206,Tryz.ntmps206
  go_wp2;go_ret;exact⟨mO (by rw[xx,decide_eq_false (show¬0<v by omega)];rfl),rfl⟩
def mS(n:Int):Bool:=decide (n<0)||decide (1099511627776<n)
theorem AU(x:Int)(w:World):Calls z_ 205 #[.int .i64 x] w λ e w'=>e=.returned (.bool (mS x))/\w=w':=by
 by_cases h1:x<0
 ·go_enter Tryz.func205,Tryz.ntmps205
  go_wp2;go_ret;exact⟨mO (by simp[mS,h1]),rfl⟩
 ·by_cases a:1099511627776<x
  all_goals
   go_enter Tryz.func205,Tryz.ntmps205
   go_wp2;go_ret;exact⟨mO (by simp[mS,h1,a]),rfl⟩
def vu(act:List Int)(a b:Int):Int:=rN (og (je act b.toNat) (je act a.toNat)) (og a b)
theorem Ji(B b off n c:Nat)(act:List Int)(x y:Nat)(w:World)(a:B<w.heap.size)(d:b<w.heap.size)(f:w.cell? ⟨B,0,none⟩=some (.slice (some ⟨b,off,none⟩) n c))
  (g:x<n) (i:y<n) (j:n<=17592186044416) (k:w.cell? ⟨b,off+x,none⟩=some (.int .i64 (je act x))) (l:w.cell? ⟨b,off+y,none⟩=some (.int .i64 (je act y))):
  Calls z_ 207 #[.pointer (some ⟨B,0,none⟩),.int .i64 x,.int .i64 y] w λ e w'=>e=.returned (.int .i64 (vu act x y))/\Below w.heap.size w w':=by
 have m:(x:Int)<(n:Int):=by omega
 have o:(y:Int)<(n:Int):=by omega
 go_enter Tryz.func207,Tryz.ntmps207
 go_wp2;refine wp_region_still_tail 20 (by kernel_rfl) (by kernel_rfl) ?_;simp only[List.take_succ_cons,List.take_zero,List.drop_succ_cons,List.drop_zero]
 iterate 16 still_step
 still_call ((zn _ _ _).mono (λ e w' h=>⟨h.1,h.2.symm⟩))
 still_step
 still_step
 still_call ((zn _ _ _).mono (λ e w' h=>⟨h.1,h.2.symm⟩))
 refine wpStill_nil ?_;change wpList _ _ _ _ _ w.drew
 go_wp2_with fail
 refine(AQ w.heap.size (og (je act y) (je act x)) (og x y) _ (by go_simp) (by go_simp)).mono ?_;rintro e w' ⟨rfl,rfl⟩;go_wp2;go_ret;exact⟨pI (by simp[vu]),((y_ _ _).alloc (v_ _) _).drew⟩
def Jj(a:List Int)(w:World)(e:Ending)(w':World):Prop:=∃r:Int,e=.returned (.int .i64 r)/\(decide (0<=r)=a.any mS)/\w=w'
theorem Jk(h:k<ai.length)(e:mS (je ai k)=true):ai.any mS=true:=by
 rw[oN h] at e;rw[Zr];exact⟨_,r_ h,e⟩
theorem Jl(h:k<ai.length)(e:mS (je ai k)=false)(a:(ai.take k).any mS=false):(ai.take (k+1)).any mS=false:=by
 rw[uZ ai k h,List.any_append,a];simp[e]
theorem Jm(hl:ai.length=n)(h:¬k<n)(a:(ai.take k).any mS=false):ai.any mS=false:=by
 rw[q_ (by omega)] at a;exact a
theorem Jn(A:Option Addr)(n c:Nat)(a:List Int)(w:World)(h:aL w A n c a):
  Calls z_ 142 #[.slice A n c,.func (.func 205) #[] #[]] w (Jj a w):=by
 have p:=h.small;have H:=U h;clear h;go_enter Tryz.func142,Tryz.ntmps142
 go_wp2
 go_loop [8] (λ i=>∃k:Nat,k<=n/\i=.int .i64 k/\(a.take k).any mS=false) (λ i=>n-(intOf i).toNat)
 case atStart=>exact⟨0,t_ _,rfl,rfl⟩
 case round=>
  obtain⟨k,hk,rfl,g⟩:=hrel;have j:=U g;clear g
  by_cases d:k<n
  ·obtain⟨b,off,rfl,q,l⟩:=H.o.cells (by omega);have r:=l k d;clear l;generalize m:mS (je a k)=o;have f:=U m;clear m
   cases o
   ·go_wp2_with (go_at_call 205;refine(AU _ _).mono ?_;rintro e w' ⟨rfl,rfl⟩;rw[f.o])
    go_round
    case rel=>exact⟨k+1,by omega,by go_num,Jl (by rw[H.o.len];exact d) f.o j.o⟩
    case measure=>simp[intOf];omega
   ·go_wp2_with (go_at_call 205;refine(AU _ _).mono ?_;rintro e w' ⟨rfl,rfl⟩;rw[f.o])
    go_ret;exact⟨k,rfl,by rw[Jk (by rw[H.o.len];exact d) f.o];simp,rfl⟩
  ·go_wp2;go_ret;exact⟨-1,rfl,by rw[Jm H.o.len d j.o];rfl,rfl⟩
theorem AV(A:Option Addr)(n c:Nat)(a:List Int)(w:World)(h:aL w A n c a):
  Calls z_ 120 #[.slice A n c,.func (.func 205) #[] #[]] w λ e w'=>e=.returned (.bool (a.any mS))/\w=w':=by
 have H:=U h;clear h;go_enter Tryz.func120,Tryz.ntmps120
 go_wp2_with fail
 refine(Jn A n c a _ H.o).mono ?_;rintro e w' ⟨r,rfl,b,rfl⟩;have d:=U b;clear b;go_wp2;go_ret;exact⟨mO d.o,rfl⟩
def th(act l:List Int)(i:Nat):Bool:=xx act.length (je l i)&&(decide (i=0)||decide (vu act (je l (i-1)) (je l i)<0))
def tO(act l:List Int):Bool:=(List.range l.length).all (th act l)
def u5(act:List Int):Bool:=decide (0<act.length)&&decide (act.length<=65537)&&decide (je act 0=0)&& !(act.any mS)
def vZ(y:Int):Bool:=decide (y≠0)&& !(mS y)
def tP(act l:List Int)(y:Int):Bool:=u5 act&&vZ y&&tO act l
def yj(b:Bool):Int:=if b then 0 else 1
theorem CL{b:Bool}(h:x=yj b):Zm (.int .i64 x)=.returned (.int .i64 (yj b)):=by rw[h]
theorem Jo(B:Nat)(A:Option Addr)(n c:Nat)(act:List Int)(a b:Int)(w:World)(f:B<w.heap.size)(i:w.cell? ⟨B,0,none⟩=some (.slice A n c))(h:aL w A n c act)
  (j:0<=a/\a<n) (k:0<=b/\b<n):
  Calls z_ 207 #[.pointer (some ⟨B,0,none⟩),.int .i64 a,.int .i64 b] w λ e w'=>e=.returned (.int .i64 (vu act a b))/\Below w.heap.size w w':=by
 obtain⟨x,rfl⟩:=Zn j.1;obtain⟨y,rfl⟩:=Zn k.1;obtain⟨g,off,rfl,l,d⟩:=h.cells (by omega);exact Ji B g off n c act x y w f l i (by omega) (by omega) h.small (d x (by omega)) (d y (by omega))
theorem E8(h:∀i,i<k->th act l i=true)(e:th act l k=true):∀i,i<k+1->th act l i=true:=by
 intro i b
 by_cases a:i=k
 ·subst a;exact e
 ·exact h i (by omega)
theorem Jp(hl:l.length=n)(hk:¬k<n)(h:∀i,i<k->th act l i=true):tO act l=true:=by
 unfold tO;rw[List.all_eq_true];intro i a;rw[List.mem_range] at a;exact h i (by omega)
theorem E9(hk:k<l.length)(h:th act l k=false):tO act l=false:=by
 unfold tO;rw[Zv];exact⟨k,List.mem_range.2 hk,by simp[h]⟩
section
variable (B:Nat)(A:Option Addr)(n c:Nat)(act:List Int)(A':Option Addr)(gE c':Nat)(l:List Int)(y:Int)(w:World)
theorem Jq(r:B<w.heap.size)(N:w.cell? ⟨B,0,none⟩=some (.slice A n c))(O:w.cell? ⟨B,1,none⟩=some (.slice A' gE c'))(ah:w.cell? ⟨B,2,none⟩=some (.int .i64 y))
  (h:aL w A n c act) (h':aL w A' gE c' l) (z:u5 act=true) (C:vZ y=true):
  Calls z_ 164 #[.pointer (some ⟨B,0,none⟩)] w λ e w'=>e=.returned (.int .i64 (yj (tO act l)))/\Below w.heap.size w w':=by
 have ai:=h.small;have aj:=h'.small;have hlen:=h.len;simp only[u5,vZ,Zp,decide_eq_true_eq,Bool.not_eq_true',ne_eq,hlen] at z C;obtain⟨⟨⟨a1,a2⟩,a3⟩,a4⟩:=z;obtain⟨D,E⟩:=C;have ak:((n:Int)==0)=false:=by simp;omega
 have z2:¬(65537:Int)<n:=by omega
 have z3:(je act 0 !=0)=false:=by simp[a3]
 have z4:(y==0)=false:=by simpa using D
 obtain⟨b,off,rfl,al,F⟩:=h.cells (by omega);have P:=F 0 (by omega);simp only[Zo] at P;have H:=U h;have g:=U h';have f:=U hlen;have Q:=U a4;have R:=U E;clear h h' hlen a4 E a3 D F;go_enter j_,l_
 go_wp2_with fail
 refine(AV _ n c act _ H.o).mono ?_;rintro e w' ⟨rfl,rfl⟩;rw[Q.o]
 go_wp2_with fail
 refine(AU _ _).mono ?_;rintro e w' ⟨rfl,rfl⟩;rw[R.o]
 go_wp2_with fail
 go_loopw [64] (λ i wr=>∃k:Nat,k<=gE/\i=.int .i64 k/\(∀i,i<k->th act l i=true)/\Below w.heap.size w wr) (λ i _=>gE-(intOf i).toNat)
 case atStart=>exact⟨0,t_ _,rfl,λ i S=>absurd S (Nat.not_lt_zero _),y_ _ _⟩
 case round=>
  obtain⟨k,hk,rfl,G,a⟩:=hrel;have j:=U G;clear G;have H1:=U (H.o.below a);obtain⟨s,T⟩:=IN a;have V:B<wr.heap.size:=s_ r a.size;have m:=(s B 0 r).trans N;have an:=(s B 1 r).trans O;clear s T
  by_cases q:k<gE
  ·obtain⟨t,u,rfl,I,v⟩:=g.o.cells (by omega);have W:=(a.cell (p:=⟨t,u+k,none⟩) I).trans (v k q);have x:0<k->wr.cell? ⟨t,u+(k-1),none⟩=some (.int .i64 (je l (k-1))):=λ ao=>(a.cell (p:=⟨t,u+(k-1),none⟩) I).trans (v (k-1) (by omega))
   clear v;generalize J:xx n (je l k)=X;have d:=U J;clear J
   cases X
   ·go_wp2_with (go_at_call 206;refine(CK B _ n c _ _ m).mono ?_;rintro e w' ⟨rfl,rfl⟩;rw[d.o])
    go_ret;exact⟨CL (by rw[E9 (k:=k) (by rw[g.o.len];exact q) (by simp[th,f.o,d.o])];rfl),a⟩
   ·by_cases Y:k=0
    ·subst Y;simp only[Zo] at W;clear x
     go_wp2_with (go_at_call 206;refine(CK B _ n c _ _ m).mono ?_;rintro e w' ⟨rfl,rfl⟩;rw[d.o])
     go_roundw
     case rel=>exact⟨1,by omega,by go_num,E8 j.o (by simp[th,f.o,d.o]),a⟩
     case measure=>simp[intOf];omega
    ·have Z:0<k:=by omega
     have aq:(0:Int)<k:=by omega
     have ar:=x Z;clear x;have hp:=j.o (k-1) (by omega);simp only[th,Zp,f.o,AT] at hp;have aa:=hp.1;clear hp;have ab:=AT.1 d.o
     go_wp2_with fail
     refine(CK B _ n c _ _ m).mono ?_;rintro e w' ⟨rfl,rfl⟩;rw[d.o]
     go_wp2_with fail
     refine(Jo B _ n c act _ _ _ V m H1.o ⟨by omega,aa.2⟩ ⟨by omega,ab.2⟩).mono ?_;rintro e ad ⟨rfl,ae⟩;generalize K:vu act (je l (k-1)) (je l k)=af;have L:=U K;clear K;have M:Below w.heap.size w ad:=a.trans (ae.mono a.size)
     by_cases ag:af<0
     ·go_wp2_with fail
      go_roundw
      case rel=>exact⟨k+1,by omega,by go_num,E8 j.o (by simp only[th,f.o,d.o,L.o];simp[ag]),M⟩
      case measure=>simp[intOf];omega
     ·go_wp2_with fail
      go_ret;exact⟨CL (by rw[E9 (k:=k) (by rw[g.o.len];exact q) (by simp only[th,f.o,d.o,L.o];simp;omega)];rfl),M⟩
  ·go_wp2_with fail
   go_ret;exact⟨CL (by rw[Jp g.o.len q j.o];rfl),a⟩
theorem Jr(l:B<w.heap.size)(m:w.cell? ⟨B,0,none⟩=some (.slice A n c))
  (h:aL w A n c act) (a:u5 act=false):
  Calls z_ 164 #[.pointer (some ⟨B,0,none⟩)] w λ e w'=>e=.returned (.int .i64 1)/\Below w.heap.size w w':=by
 have p:=h.small;have hlen:=h.len
 by_cases a1:n=0
 ·have f:((n:Int)==0)=true:=by simp[a1]
  clear a h a1 hlen;go_enter j_,l_
  go_wp2_with fail
  go_ret;exact⟨rfl,y_ _ _⟩
 have f:((n:Int)==0)=false:=by simp;omega
 by_cases a2:65537<n
 ·have z2:(65537:Int)<n:=by omega
  clear a h hlen;go_enter j_,l_
  go_wp2_with fail
  go_ret;exact⟨rfl,y_ _ _⟩
 have z2:¬(65537:Int)<n:=by omega
 have hp:0<n:=by omega
 obtain⟨b,off,rfl,q,d⟩:=h.cells hp;have g:=d 0 hp;simp only[Zo] at g;clear d
 by_cases a3:je act 0=0
 ·have z3:(je act 0 !=0)=false:=by simp[a3]
  have a4:act.any mS=true:=by
   simp only[u5,hlen,a3] at a;have i:decide (0<n)=true:=by simpa using hp
   have j:decide (n<=65537)=true:=by simp;omega
   rw[i,j] at a;simpa using a
  have H:=U h;have k:=U a4;clear a h hlen a3 a4;go_enter j_,l_
  go_wp2_with fail
  refine(AV _ n c act _ H.o).mono ?_;rintro e w' ⟨rfl,rfl⟩;rw[k.o]
  go_wp2_with fail
  go_ret;exact⟨rfl,y_ _ _⟩
 ·have z3:(je act 0 !=0)=true:=by simpa using a3
  clear a h hlen a3;go_enter j_,l_
  go_wp2_with fail
  go_ret;exact⟨rfl,y_ _ _⟩
theorem Js(p:B<w.heap.size)(q:w.cell? ⟨B,0,none⟩=some (.slice A n c))(r:w.cell? ⟨B,2,none⟩=some (.int .i64 y))
  (h:aL w A n c act) (d:u5 act=true) (f:vZ y=false):
  Calls z_ 164 #[.pointer (some ⟨B,0,none⟩)] w λ e w'=>e=.returned (.int .i64 1)/\Below w.heap.size w w':=by
 have s:=h.small;have hlen:=h.len;simp only[u5,Zp,decide_eq_true_eq,Bool.not_eq_true',hlen] at d;obtain⟨⟨⟨a1,a2⟩,a3⟩,a4⟩:=d;have t:((n:Int)==0)=false:=by simp;omega
 have z2:¬(65537:Int)<n:=by omega
 have z3:(je act 0 !=0)=false:=by simp[a3]
 obtain⟨b,off,rfl,u,g⟩:=h.cells (by omega);have k:=g 0 (by omega);simp only[Zo] at k;have H:=U h;have i:=U a4;have l:=U f;clear h hlen a4 a3 g f
 by_cases a:y=0
 ·have z4:(y==0)=true:=by simpa using a
  clear a;go_enter j_,l_
  go_wp2_with fail
  refine(AV _ n c act _ H.o).mono ?_;rintro e w' ⟨rfl,rfl⟩;rw[i.o]
  go_wp2_with fail
  go_ret;exact⟨rfl,y_ _ _⟩
 ·have z4:(y==0)=false:=by simpa using a
  have j:mS y=true:=by have:=l.o;simp only[vZ] at this;simpa[a] using this
  have m:=U j;clear a j;go_enter j_,l_
  go_wp2_with fail
  refine(AV _ n c act _ H.o).mono ?_;rintro e w' ⟨rfl,rfl⟩;rw[i.o]
  go_wp2_with fail
  refine(AU _ _).mono ?_;rintro e w' ⟨rfl,rfl⟩;rw[m.o]
  go_wp2_with fail
  go_ret;exact⟨rfl,y_ _ _⟩
theorem Jt(d:B<w.heap.size)(f:w.cell? ⟨B,0,none⟩=some (.slice A n c))(i:w.cell? ⟨B,1,none⟩=some (.slice A' gE c'))(g:w.cell? ⟨B,2,none⟩=some (.int .i64 y))
  (h:aL w A n c act) (h':aL w A' gE c' l):
  Calls z_ 164 #[.pointer (some ⟨B,0,none⟩)] w λ e w'=>e=.returned (.int .i64 (yj (tP act l y)))/\Below w.heap.size w w':=by
 cases a:u5 act
 ·have e:tP act l y=false:=by simp[tP,a]
  rw[e];exact Jr B A n c act w d f h a
 ·cases b:vZ y
  ·have e:tP act l y=false:=by simp[tP,b]
   rw[e];exact Js B A n c act y w d f g h a b
  ·have e:tP act l y=tO act l:=by simp[tP,a,b]
   rw[e];exact Jq B A n c act A' gE c' l y w d f i g h h' a b
theorem Ju(h:aL w A n c act)(h':aL w A' gE c' l):
  Calls z_ 111 #[.agg #[.slice A n c,.slice A' gE c',.int .i64 y]] w λ e w'=>e=.returned (.int .i64 (yj (tP act l y)))/\Below w.heap.size w w':=by
 have H:=U h;have a:=U h';clear h h';go_enter Tryz.func111,Tryz.ntmps111
 go_wp2_with fail
 refine(Jt (w.heap.size+1) A n c act A' gE c' l y _ (by simp) (by go_simp) (by go_simp) (by go_simp) ((H.o.alloc _).alloc _) ((a.o.alloc _).alloc _)).mono ?_;rintro e d ⟨rfl,b⟩
 go_wp2_with fail
 go_ret;exact⟨rfl,(((y_ _ _).alloc (v_ _) _).alloc (by simp) _).trans (b.mono (by simp;omega))⟩
end
end
section
open Go.RowKit
def rm(k:Nat):List Int:=(List.range k).map (λ i:Nat=>(i:Int)+1)
theorem v7(k:Nat):(rm k).length=k:=by simp[rm]
theorem Jw(k:Nat):rm (k+1)=rm k++[(k:Int)+1]:=by simp[rm,List.range_succ]
def si(k:Nat):List Int:=List.replicate k 0
theorem v8(k:Nat):(si k).length=k:=by simp[si]
theorem Jx(k:Nat):(madeCells (w_ .i64 0).cells k).toList=(si k).map (w_ .i64):=by
 show(madeCells #[w_ .i64 0] k).toList=_;rw[toList_madeCells_one];simp[si]
def Fa(act l:List Int)(y:Int)(w:World)(e:Ending)(w':World):Prop:=
 ∃(A:Option Addr)(c:Nat)(A':Option Addr)(c':Nat),e=.returned (.tuple #[.agg #[.slice A act.length c,.slice A' l.length c',.int .i64 y],.int .i64 0])/\
  aL w' A act.length c act/\aL w' A' l.length c' l/\(∀b off,A=some ⟨b,off,none⟩->w.heap.size<=b)/\(∀b off,A'=some ⟨b,off,none⟩->w.heap.size<=b)/\Below w.heap.size w w'
theorem aL.nv(h:aL w A n c ai)(v:Value){p:Addr}(a:∀b off,A=some ⟨b,off,none⟩->b≠p.block):aL (w.setCell p v) A n c ai:=by
 refine⟨h.len,h.cap,h.mu,h.nT,λ d=>?_⟩;obtain⟨b,off,e,f,g⟩:=h.cells d;exact⟨b,off,e,by simpa[Zc] using f,λ j i=>(Zi (Zy _ _ _ _ (a b off e))).trans (g j i)⟩
theorem Jy{o:Obj}{row:Option Nat}{i:Nat}(a:(w.alloc o).grownBy w1 row)(b:∀g,row=some g->base<=g)(c:i<base)(hs:i<w.heap.size):w1.heap[i]? =w.heap[i]? :=
 (a.block i (by simp;omega) (λ e=>by have:=b i e.symm;omega)).trans (b_ _ _ _ hs)
theorem Jz{jE kz kT v1:Value}(h:w.heap[B]? =some (.cells #[jE,kz,kT] t (0,0))):
  (w.setCell ⟨B,1,none⟩ v1).heap[B]? =some (.cells #[jE,v1,kT] t (0,0)):=by
 simp[Zc,Array.getElem?_modify,h]
theorem JA(n:Nat)(w:World)(h:n<=65536):
  Calls z_ 104 #[.int .i64 n] w (Fa (si (n+1)) (rm n) 1 w):=by
 obtain⟨i0,a,y,z,B⟩:=info_parts xw;have N:∀W:World,(Instr.makeSlice 25 (.int .i64 ((n:Int)+1)) (.int .i64 ((n:Int)+1))).run z_ W=.ok (.slice (some ⟨W.heap.size,0,none⟩) (n+1) (n+1)) (W.alloc (.cells (madeCells (w_ .i64 0).cells (n+1)) 3)):=λ W=>by
  have:=run_make (P:=z_) W 25 3 i0 (.int .i64 0) f_ a y .i64 .i64 ((n:Int)+1) ((n:Int)+1) (by omega) (by omega) (by rw[B];omega) (by omega);rw[z,show((n:Int)+1).toNat=n+1 by omega,Nat.mul_one] at this;exact this
 generalize C:madeCells (w_ .i64 0).cells (n+1)=cs at N;have D:=U C;clear C;go_enter Tryz.func104,Tryz.ntmps104
 go_wp2_with fail
 go_loopw [18] (λ i wr=>∃(k:Nat)(A:Option Addr)(c:Nat),k<=n/\i=.int .i64 k/\wr.heap[w.heap.size+1+1]? =some (.cells #[.slice (some ⟨w.heap.size+1,0,none⟩) (n+1) (n+1),.slice A k c,.int .i64 1] 44 (0,0))/\
   wr.heap[w.heap.size+1]? =some (.cells cs 3 (0,0))/\wr.heap[w.heap.size]? =some (.cells #[.slice none 0 0,.slice none 0 0,.int .i64 0] 44 (0,0))/\
   wr.ownsRow (w.heap.size+3) 3 1 (.slice A k c) k ((rm k).map (w_ .i64))/\Below w.heap.size w wr/\w.heap.size+1+1<wr.heap.size) (λ i _=>n-(intOf i).toNat)
 case atStart=>
  refine⟨0,none,0,t_ _,rfl,?_,?_,?_,World.ownsRow_nil _ _ _ _,?_,by simp⟩
  ·have e:=Zj ((w.alloc (.cells #[.slice none 0 0,.slice none 0 0,.int .i64 0] 44)).alloc (.cells cs 3)) (.cells #[.slice (some ⟨w.heap.size+1,0,none⟩) (n+1) (n+1),.slice none 0 0,.int .i64 1] 44);simpa using e
  ·have e:=Zj (w.alloc (.cells #[.slice none 0 0,.slice none 0 0,.int .i64 0] 44)) (.cells cs 3);exact(b_ _ _ _ (by simp)).trans (by simpa using e)
  ·exact(b_ _ _ _ (by simp;omega)).trans ((b_ _ _ _ (by simp)).trans (Zj _ _))
  ·exact(((y_ _ _).alloc (v_ _) _).alloc (by simp) _).alloc (by simp;omega) _
 case round=>
  obtain⟨k,A,c,hk,rfl,hH,E,d,f,r,s⟩:=hrel;have O:=U hH;have F:=U E;have m:=U d;have ae:wr.cell? ⟨w.heap.size+1+1,0,none⟩=some (.slice (some ⟨w.heap.size+1,0,none⟩) (n+1) (n+1)):=by simp[o_,hH]
  have G:wr.cell? ⟨w.heap.size+1+1,1,none⟩=some (.slice A k c):=by simp[o_,hH]
  have af:wr.cell? ⟨w.heap.size+1+1,2,none⟩=some (.int .i64 1):=by simp[o_,hH]
  have H:wr.frozen? ⟨w.heap.size+1+1,1,none⟩=false:=by simp[Zw,hH]
  have j:∀i,i<3->∃u,wr.cell? ⟨w.heap.size,i,none⟩=some u:=λ i a=>by
   match i,a with
   |0,_=>exact⟨_,by simp[o_,d];rfl⟩
   |1,_=>exact⟨_,by simp[o_,d];rfl⟩
   |2,_=>exact⟨_,by simp[o_,d];rfl⟩
  clear hH E d
  by_cases ag:k<n
  ·clear j
   go_wp2_with (at_builtin;refine wpList_append_own_at _ rfl _ _ 25 rfl (w.heap.size+3) 3 i0 (.int .i64 0) 1 8 f_ a y z B rfl (by decide) _ _ _ rfl (f.alloc _) ⟨wr.heap.size,0,none⟩ 1 1 [.int .i64 ((k:Int)+1)] rfl rfl (cell_one_new _ _ _) (by simp[Value.oneCell']) (by unfold maxLen;omega) (by omega) (by simp;omega) ?_;intro v' w1 I t ah ai;obtain⟨Q,R,rfl⟩:=CG I;have J:∀g,(Value.slice A k c).ownBlock=some g->w.heap.size+3<=g:=(λ g x=>(AS f x).1);have l:=(λ i (a:i<w.heap.size+3) (hs:i<wr.heap.size)=>Jy t J a hs);have aj:w1.cell? ⟨w.heap.size+1+1,1,none⟩=some (.slice A k c):=(Zi (l (w.heap.size+1+1) (by omega) s)).trans G;have ak:w1.frozen? ⟨w.heap.size+1+1,1,none⟩=false:=(World.frozen?_of_block (l (w.heap.size+1+1) (by omega) s)).trans H;clear G H)
   have S:=Jz (v1:=.slice (some ⟨Q,0,none⟩) (k+1) R) ((l (w.heap.size+1+1) (by omega) s).trans O.o);have al:wr.heap.size<=w1.heap.size:=by have:=t.size;simp at this;omega
   go_roundw
   case rel=>
    refine⟨k+1,_,_,by omega,by go_num,S,?_,?_,?_,?_,?_⟩
    ·exact(Zy _ _ _ _ (by simp)).trans ((l (w.heap.size+1) (by omega) (by omega)).trans F.o)
    ·exact(Zy _ _ _ _ (by simp;omega)).trans ((l w.heap.size (by omega) (by omega)).trans m.o)
    ·rw[Jw,Zl];exact ownsRow_setCell_below I (by simp) _
    ·exact((r.alloc r.size _).grown t (by simp;omega) (λ g x=>by have:=J g x;omega)).setCell (by simp;omega) _
    ·simp[Zc];omega
   case measure=>simp[intOf];omega
  ·have T:k=n:=by omega
   subst T;obtain⟨an,V⟩:=j 0 (by omega);obtain⟨ao,X⟩:=j 1 (by omega);obtain⟨aq,Y⟩:=j 2 (by omega);have ar:wr.frozen? ⟨w.heap.size,0,none⟩=false:=by simp[Zw,m.o]
   have au:wr.frozen? ⟨w.heap.size,1,none⟩=false:=by simp[Zw,m.o]
   have av:wr.frozen? ⟨w.heap.size,2,none⟩=false:=by simp[Zw,m.o]
   clear j;have K:aL wr (some ⟨w.heap.size+1,0,none⟩) (k+1) (k+1) (si (k+1)):=by
    have Z:(si (k+1)).map (w_ .i64)=cs.toList:=by rw[<-D.o,Jx]
    have aa:cs.size=k+1:=by rw[<-D.o,size_madeCells]
    exact aL.kW (base:=0) ⟨by simp[v8],Or.inr ⟨_,_,cs,rfl,t_ _,F.o,v_ _,by unfold maxLen;omega,by omega,by rw[Z,q_ (by simp[aa])]⟩⟩ (by omega)
   have L:aL wr A k c (rm k):=aL.kW f (by omega);have M:∀b off,A=some ⟨b,off,none⟩->w.heap.size+3<=b:=λ b off e=>(AS f (g:=b) (by rw[e];rfl)).1
   have ab:=U K;have ad:=U L;have q:=U M;clear K L M f
   go_wp2_with fail
   refine bodyPost_ret (v:=.tuple #[.agg #[.slice (some ⟨w.heap.size+1,0,none⟩) (k+1) (k+1),.slice A k c,.int .i64 1],.int .i64 0]) (by simp[results,Tryz.results104,go_sem,V,X,Y]) rfl ?_;refine⟨_,_,_,_,by rw[v8,v7],?_,?_,λ b off e=>by cases e;omega,λ b off e=>by have:=q.o b off e;omega,((r.setCell (by simp) _).setCell (by simp) _).setCell (by simp) _⟩
   ·rw[v8];exact((ab.o.nv _ (p:=⟨w.heap.size,0,none⟩) λ b off e=>by cases e;simp).nv _ (p:=⟨w.heap.size,1,none⟩) λ b off e=>by cases e;simp).nv _ (p:=⟨w.heap.size,2,none⟩) λ b off e=>by cases e;simp
   ·rw[v7];exact((ad.o.nv _ (p:=⟨w.heap.size,0,none⟩) λ b off e=>by have:=q.o b off e;simp;omega).nv _ (p:=⟨w.heap.size,1,none⟩) λ b off e=>by have:=q.o b off e;simp;omega).nv _ (p:=⟨w.heap.size,2,none⟩) λ b off e=>by have:=q.o b off e;simp;omega
end
end Go.Proofs.YtogdlkfacflmaaaGreat
