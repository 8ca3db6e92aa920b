/- Parts of the walk of the solver and its core; no condition. -/
import Derived.Test.YtogdlkfacflmaaaGreatProg
import Derived.WalkKit
import Derived.WalkSpells
import Derived.WalkLawsBesides
import Derived.Lib.Hide
import Derived.Below
import Derived.Laws.OwnMore
import Derived.Calls
import Derived.Deep.Quiet
import Derived.Deep.QuietTactic
import Derived.BigQuiet
import Derived.Shelf.Abstract
import Derived.StillTailTactics
import Derived.Maps.OwnOps
import Derived.Maps.OwnSet
import Derived.Maps.Views
import Derived.RangeFuncBox
import Derived.IntWalk
import Derived.OwnWalkIn
import Derived.LoadGo3
import Derived.Lib.OwnBridge
import Derived.Lib.AppendIntMem
import Derived.Deep.RegionLaw
import Derived.Deep.RegionHeld3
import Derived.Deep.CutBlock
import Derived.Deep.DeepCutAuto
import Derived.Laws.MakeOwn
import Derived.Maps.AppendAt
import Derived.RegionTactic
import Derived.BigRegion
import Derived.RangeFuncNested
import Derived.RangeFuncBound
import Derived.RangeFuncCalls
import Derived.RangeFuncLeaves
import Derived.OrdersIn
import Derived.Test.YtogdlkfacflmaaaGreatRows
namespace Go.Proofs.YtogdlkfacflmaaaGreat
set_option linter.unusedVariables false
set_option linter.unusedSimpArgs false
set_option maxRecDepth 100000
set_option maxHeartbeats 2000000
open _root_.Go.Proofs.Tryz renaming prog→z_,underlying25→d_,underlying3→a_,underlying4→Zp
open _root_.List renaming getElem?_eq_getElem→y_,getD_eq_getElem?_getD→t_,getElem_mem→s_,eq_nil_of_length_eq_zero→q_,take_of_length_le→o_,getElem?_map→l_,getElem?_eq_some_iff→f_,getElem?_take_of_lt→e_,take_succ_eq_append_getElem→b_,map_cons→Zt,any_eq_true→Zo,map_toArray→Zn,map_append→Zj,getElem?_toArray→Zg,mem_cons→Zc,map_nil→Z6
open _root_.Nat renaming le_refl→x_,zero_le→r_,lt_of_lt_of_le→n_,eq_zero_or_pos→Zv,lt_or_ge→Zq,add_zero→Zm
open _root_.Go.RowKit.Below renaming refl→w_,heap_alloc→i_,heap_setCell→Zu
open _root_.Go.Value renaming int→v_
open _root_.Go.World renaming putObj_heap_other→u_,cell?→p_,alloc_heap_new→Zx,cell?_of_block→Zw,frozen?→Zs,setCell→Zb
open _root_.Go.Value.slice renaming injEq→m_
open _root_.Go.Fence renaming wide→k_
open _root_.Array renaming getElem?_eq_none→j_,getElem?_eq_some_iff→h_,getElem?_toList→Zy,replicate→Zi
open _root_.Go.Builtin renaming append_→g_,firstCells→Za
open _root_.Go renaming rounds_succ→c_,wp_loop_rounds→Zf,heap_alloc_new→Ze
open _root_.Bool renaming and_eq_true→Zz
open _root_.Go.Result renaming andThen_ok→Zr
open _root_.Int renaming eq_ofNat_of_zero_le→Zl
open _root_.Go.Ending renaming returned→Zk
open _root_.Go.Code renaming region→Zh
open _root_.Go.Region renaming wanted→Zd
open _root_.Go.Addr renaming add_lit→Z0
open _root_.Go.World.grownBy renaming refl→Z3
open _root_.Go.Sem renaming run_bind→Z4,run_pure→Z5
variable{p:Int->Bool}{ah l S act:List Int}{k n c b base m B size:Nat}{w w' W w1:World}{A:Option Addr}{a:Act}{x:Int}{ls:List (List Int)}{P:Program}{Q:Exit->Act->World->Prop}{v:Value}{e t:TypeId}{xs:List Value}{ops:Array Oper}{rest:List Oper}{jC:List Bool}
section
def fE(p:Prop):Prop:=p
theorem fE.o{p:Prop}(h:fE p):p:=h
theorem aa{p:Prop}(h:p):fE p:=h
end
section
open Go.RowKit Go.Shelf
def j8(b:List Int)(k:Nat):Int:=b.getD k 0
theorem qK(h:k<ah.length):j8 ah k=ah[k]:=by simp[j8,t_,y_ h]
theorem ym(b:List Int)(k:Nat)(h:k<b.length):b.take (k+1)=b.take k++[j8 b k]:=by
 rw[b_ h,qK h]
structure aS(w:World)(A:Option Addr)(n c:Nat)(ah:List Int):Prop where
 len:ah.length=n
 cap:n<=c
 mG:n*8<=140737488355328
 od:c<=maxLen
 cells:0<n->∃b off,A=some ⟨b,off,none⟩/\b<w.heap.size/\∀j,j<n->w.cell? ⟨b,off+j,none⟩=some (.int .i64 (j8 ah j))
theorem aS.below(h:aS w A n c ah)(d:Below w.heap.size w w'):aS w' A n c ah:=
 ⟨h.len,h.cap,h.mG,h.od,λ f=>by
  obtain⟨b,off,rfl,e,g⟩:=h.cells f;exact⟨b,off,rfl,n_ e d.size,λ j i=>(d.cell (p:=⟨b,off+j,none⟩) e).trans (g j i)⟩⟩
theorem aS.nil(w:World)(A:Option Addr)(c:Nat)(b:c<=maxLen):aS w A 0 c []:=⟨rfl,r_ _,by omega,b,λ h=>absurd h (by omega)⟩
theorem aS.drew{w:World}{A:Option Addr}{n c:Nat}{ah:List Int}(h:aS w A n c ah):aS w.drew A n c ah:=h.below ((w_ _ _).drew)
theorem aS.alloc{w:World}{A:Option Addr}{n c:Nat}{ah:List Int}(h:aS w A n c ah)(o:Obj):aS (w.alloc o) A n c ah:=h.below ((w_ _ _).alloc (x_ _) _)
theorem aS.small(h:aS w A n c ah):n<=17592186044416:=by have:=h.mG;omega
theorem Ip(c:Below W.heap.size W w1):(∀b o,b<W.heap.size->w1.cell? ⟨b,o,none⟩=W.cell? ⟨b,o,none⟩)/\(∀b o,b<W.heap.size->w1.frozen? ⟨b,o,none⟩=W.frozen? ⟨b,o,none⟩):=
 ⟨λ b o h=>c.cell (p:=⟨b,o,none⟩) h,λ b o h=>c.frozen (p:=⟨b,o,none⟩) h⟩
theorem qZ{a b:Bool}(h:a=b):Zk (.bool a)=.returned (.bool b):=by rw[h]
theorem qv{k:IntKind}{a b:Int}(h:a=b):Zk (.int k a)=.returned (.int k b):=by rw[h]
theorem aS.lG(h:w.ownsRow base 3 1 (.slice A n c) n (ah.map (v_ .i64)))(f:n*8<=140737488355328):aS w A n c ah:=by
 obtain⟨h1,l⟩:=h;have hl:ah.length=n:=by simpa using h1
 rcases l with⟨b,i⟩|⟨g,cap,cur,b,s,d,m,o,t,p⟩
 ·simp only[m_] at b;obtain⟨rfl,_,rfl⟩:=b;subst i;exact⟨hl,x_ _,f,r_ _,λ h=>absurd h (by omega)⟩
 ·simp only[m_] at b;obtain⟨rfl,_,rfl⟩:=b;refine⟨hl,m,f,o,λ i=>⟨g,0,rfl,?_,λ j u=>?_⟩⟩
  ·rcases Zq g w.heap.size with q|r
   ·exact q
   ·rw[j_ r] at d;cases d
  ·have v:j<cur.size:=by omega
   have e:cur[j]? =some (.int .i64 (j8 ah j)):=by
    have k:(cur.toList.take (n*1))[j]? =(ah.map (v_ .i64))[j]? :=by rw[p]
    rw[e_ (by omega),l_,y_ (by omega:j<ah.length)] at k;rw[<-Zy,k,qK (by omega)];rfl
   simp[p_,d,e]
def hasB(b:List Int)(x:Int):Bool:=b.contains x
theorem we:hasB ah x=true↔x∈ah:=by simp[hasB]
theorem zu(b:List Int)(x y:Int):hasB (b++[y]) x=(hasB b x||(y==x)):=by
 rw[Bool.eq_iff_iff,we,Bool.or_eq_true,we,beq_iff_eq,List.mem_append,List.mem_singleton];exact⟨λ h=>h.imp id Eq.symm,λ h=>h.imp id Eq.symm⟩
theorem Iq(h:k<ah.length)(e:(j8 ah k==x)=true):hasB ah x=true:=by
 rw[we];rw[qK h] at e;have:ah[k]=x:=by simpa using e
 rw[<-this];exact s_ h
theorem Ir(h:k<ah.length)(e:(j8 ah k==x)=false)(b:hasB (ah.take k) x=false):hasB (ah.take (k+1)) x=false:=by
 rw[ym ah k h,zu,b,e];rfl
theorem Is(hl:ah.length=n)(h:¬k<n)(b:hasB (ah.take k) x=false):hasB ah x=false:=by
 rw[o_ (by omega)] at b;exact b
def mb(ls:List (List Int))(k:Nat):List Int:=ls.getD k []
theorem tP(h:k<ls.length):mb ls k=ls[k]:=by simp[mb,t_,y_ h]
theorem Ey(ls:List (List Int))(k:Nat)(h:k<ls.length):ls.take (k+1)=ls.take k++[mb ls k]:=by
 rw[b_ h,tP h]
theorem Cz(h:k<ls.length):mb ls k∈ls:=by rw[tP h];exact s_ h
theorem wg(h:k<ah.length):j8 ah k∈ah:=by rw[qK h];exact s_ h
structure kD(w:World)(A:Option Addr)(n c:Nat)(ls:List (List Int)):Prop where
 len:ls.length=n
 cap:n<=c
 mG:n*24<=140737488355328
 od:c<=maxLen
 cells:0<n->∃b off,A=some ⟨b,off,none⟩/\b<w.heap.size/\∀j,j<n->∃A' jq c',w.cell? ⟨b,off+j,none⟩=some (.slice A' jq c')/\aS w A' jq c' (mb ls j)
theorem kD.below{w w':World}{A:Option Addr}{n c:Nat}{ls:List (List Int)}(h:kD w A n c ls)(d:Below w.heap.size w w'):kD w' A n c ls:=
 ⟨h.len,h.cap,h.mG,h.od,λ f=>by
  obtain⟨b,off,rfl,e,g⟩:=h.cells f;refine⟨b,off,rfl,n_ e d.size,λ j i=>?_⟩;obtain⟨A',k,c',h1,l⟩:=g j i;exact⟨A',k,c',(d.cell (p:=⟨b,off+j,none⟩) e).trans h1,l.below d⟩⟩
theorem kD.nil(w:World)(A:Option Addr)(c:Nat)(b:c<=maxLen):kD w A 0 c []:=⟨rfl,r_ _,by omega,b,λ h=>absurd h (by omega)⟩
theorem kD.small(h:kD w A n c ls):n<=5864062014806:=by have:=h.mG;omega
structure ot(w:World) where
 val:World
 ok:Below w.heap.size w val
instance (w:World):Nonempty (ot w):=⟨⟨w,w_ _ _⟩⟩
theorem AM{id:Nat}{l:List Oper}(hm:P.follows .mixedOrders=true)(b:Region.lexB .any l.toArray=true)
  (h:wpQuiet P l.toArray (λ w'=>∃u:ot w,w'=u.val) (λ c=>∀w',(∃u:ot w,w'=u.val)->Q .normal c w') l a):(Zh id l.toArray true).wp P Q a w:=
 wp_region_quiet (C:=λ w'=>∃u:ot w,w'=u.val) hm b ⟨⟨w.drew,(w_ _ _).drew⟩,rfl⟩ (by simpa using h)
theorem ot.call{f:FuncId}{args:Array Value}(u:ot w)(h:Calls P f args u.val λ e w'=>e=.returned v/\Below u.val.heap.size u.val w'):
  Calls P f args u.val λ e w'=>e=.returned v/\∃b:ot w,w'=b.val:=
 h.mono λ _ w' ⟨he,c⟩=>⟨he,⟨w',u.ok.trans (c.mono u.ok.size)⟩,rfl⟩
theorem ot.cell{w:World}{p:Addr}{v:Value}(u:ot w)(hp:p.block<w.heap.size)(h:w.cell? p=some v):u.val.cell? p=some v:=(u.ok.cell hp).trans h
theorem ot.o(h:∃u:ot w,w'=u.val):Below w.heap.size w w':=by
 obtain⟨u,rfl⟩:=h;exact u.ok
def ou(x y:Int):Int:=if x<y then-1 else if y<x then 1 else 0
theorem EA(x:Int)(w:World):Calls z_ 196 #[.int .i64 x] w λ e w'=>e=.returned (.bool false)/\w=w':=by
 go_enter Tryz.func196,Tryz.ntmps196
 go_wp2;go_ret;exact⟨qZ (by simp),rfl⟩
theorem zv(x y:Int)(w:World):Calls z_ 160 #[.int .i64 x,.int .i64 y] w λ e w'=>e=.returned (.int .i64 (ou x y))/\w=w':=by
 by_cases h1:x<y
 ·go_enter Tryz.func160,Tryz.ntmps160
  go_wp2_with (go_at_call 196;refine(EA _ _).mono ?_;rintro e w' ⟨rfl,rfl⟩)
  go_ret;exact⟨qv (by simp[ou,h1]),rfl⟩
 ·by_cases b:y<x
  all_goals
   go_enter Tryz.func160,Tryz.ntmps160
   go_wp2_with (go_at_call 196;refine(EA _ _).mono ?_;rintro e w' ⟨rfl,rfl⟩)
   go_ret;exact⟨qv (by unfold ou;split<;>(try split)<;>omega),rfl⟩
def rV(x y:Int):Int:=if x=0 then y else x
theorem AN(g:Nat)(x y:Int)(w:World)(k:w.cell? ⟨g,0,none⟩=some (.int .i64 x))(h1:w.cell? ⟨g,1,none⟩=some (.int .i64 y)):
  Calls z_ 159 #[.slice (some ⟨g,0,none⟩) 2 2] w λ e w'=>e=.returned (.int .i64 (rV x y))/\w=w':=by
 by_cases b:x=0
 ·have f:(x !=0)=false:=by simp[b]
  have d:=aa b;clear b
  by_cases c:y=0
  ·have i:(y !=0)=false:=by simp[c]
   have j:=aa c;clear c;go_enter Tryz.func159,Tryz.ntmps159
   go_wp2;refine Zf 3 ?_;rw[c_];go_wp2;rw[c_];go_wp2;rw[c_];go_wp2;go_ret;exact⟨qv (by rw[rV,if_pos d.o,j.o]),rfl⟩
  ·have i:(y !=0)=true:=by simpa using c
   clear c;go_enter Tryz.func159,Tryz.ntmps159
   go_wp2;refine Zf 2 ?_;rw[c_];go_wp2;rw[c_];go_wp2;go_ret;exact⟨qv (by rw[rV,if_pos d.o]),rfl⟩
 ·have f:(x !=0)=true:=by simpa using b
  have d:=aa b;clear b;go_enter Tryz.func159,Tryz.ntmps159
  go_wp2;refine Zf 1 ?_;rw[c_];go_wp2;go_ret;exact⟨qv (by rw[rV,if_neg d.o]),rfl⟩
def mQ(x n:Int):Bool:=decide (x≠0)&&decide (-n<=x)&&decide (x<=n)
theorem wh{n:Int}:mQ x n=true↔x≠0/\ -n<=x/\x<=n:=by simp[mQ,and_assoc]
theorem It{n:Int}(b:0<=n)(h1:n<=65536):wrap64 (-n)= -n:=by unfold wrap64;omega
theorem EB(x n:Int)(w:World)(d:0<=n)(h1:n<=65536):Calls z_ 163 #[.int .i64 x,.int .i64 n] w λ e w'=>e=.returned (.bool (mQ x n))/\w=w':=by
 have hw:=It d h1
 by_cases b:x=0
 ·have f:(x !=0)=false:=by simp[b]
  have c:=aa b;clear b;go_enter Tryz.func163,Tryz.ntmps163
  go_wp2;go_ret;exact⟨qZ (by simp[mQ,c.o]),rfl⟩
 ·have f:(x !=0)=true:=by simpa using b
  have c:=aa b;clear b
  by_cases g: -n<=x
  ·by_cases i:x<=n
   all_goals
    go_enter Tryz.func163,Tryz.ntmps163
    go_wp2;go_ret;exact⟨qZ (by simp[mQ,c.o,g,i]),rfl⟩
  ·go_enter Tryz.func163,Tryz.ntmps163
   go_wp2;go_ret;exact⟨qZ (by rw[mQ,decide_eq_false (show¬-n<=x by omega),Bool.and_false,Bool.false_and]),rfl⟩
def rB(x:Int):Int:=if x<0 then-x else x
theorem Iu(x:Int)(w:World)(b: -65536<=x)(h1:x<=65536):Calls z_ 168 #[.int .i64 x] w λ e w'=>e=.returned (.int .i64 (rB x))/\w=w':=by
 have hw:wrap64 (-x)= -x:=by unfold wrap64;omega
 go_enter Tryz.func168,Tryz.ntmps168
 go_wp2
 all_goals
  go_ret;exact⟨qv (by unfold rB;split<;>omega),rfl⟩
theorem AO(w:World)(q:Nat):Below w.heap.size w (w.drewN q):=⟨rfl,rfl,rfl,x_ _,λ _ _=>rfl⟩
def CA(b:List Int):Prop:=∀x∈b,x≠0/\ -65536<=x/\x<=65536
theorem CA.at(h:CA ah)(hk:k<ah.length):j8 ah k≠0/\ -65536<=j8 ah k/\j8 ah k<=65536:=h _ (wg hk)
theorem Iv(b: -65536<=x)(h1:x<=65536):wrap64 (-x)= -x:=by unfold wrap64;omega
def wj(n:Int)(l:List Int):Bool:=l.all λ x=>mQ x n
def sO(n:Int)(ls:List (List Int)):Bool:=ls.all (wj n)
def lq(n:Int)(ls:List (List Int)):Int:=if n<0\/65536<n then 1 else if sO n ls=false then 1 else if 65536<ls.length then 2 else 0
theorem Iw{n:Int}(h:k<ls.length)(e:wj n (mb ls k)=false):sO n ls=false:=by
 rw[tP h] at e;unfold sO;rw[List.all_eq_false];exact⟨_,s_ h,by simp[e]⟩
theorem Iy{n:Int}(h:k<ls.length)(e:wj n (mb ls k)=true)(b:sO n (ls.take k)=true):sO n (ls.take (k+1))=true:=by
 unfold sO at*;rw[Ey ls k h,List.all_append,b];simp[e]
theorem Iz{n:Int}(hl:ls.length=m)(h:¬k<m)(b:sO n (ls.take k)=true):sO n ls=true:=by
 rw[o_ (by omega)] at b;exact b
theorem xC{n:Int}(h:n<0\/65536<n):lq n ls=1:=if_pos h
theorem IA{n:Int}(h:sO n ls=false):lq n ls=1:=by unfold lq;split<;>simp[h]
theorem IB{n:Int}(b:0<=n/\n<=65536)(h:sO n ls=true)(hl:65536<ls.length):lq n ls=2:=by
 unfold lq;rw[if_neg (by omega),if_neg (by rw[h];exact Bool.noConfusion),if_pos hl]
theorem EC{n:Int}(b:0<=n/\n<=65536)(h:sO n ls=true)(hl:¬65536<ls.length):lq n ls=0:=by
 unfold lq;rw[if_neg (by omega),if_neg (by rw[h];exact Bool.noConfusion),if_neg hl]
structure tu(w:World)(B:Nat)(x:Int)(A:Option Addr)(n c:Nat):Prop where
 lt:B<w.heap.size
 bH:w.cell? ⟨B,0,none⟩=some (.int .i64 x)
 c1:w.cell? ⟨B,1,none⟩=some (.slice A n c)
theorem tu.below(h:tu w B x A n c)(b:Below w.heap.size w w'):tu w' B x A n c:=
 ⟨n_ h.lt b.size,(b.cell (p:=⟨B,0,none⟩) h.lt).trans h.bH,(b.cell (p:=⟨B,1,none⟩) h.lt).trans h.c1⟩
theorem tu.new(w:World)(x:Int)(A:Option Addr)(n c:Nat):tu (w.alloc (.cells #[.int .i64 x,.slice A n c] 24)) w.heap.size x A n c:=
 ⟨by simp,by simp,by simp⟩
theorem ED(he:P.underlying e=some .bool){v:Value}{x:Bool}{sP:List MemPlace}(h:plainElem (H:=Unit) P e v=some (.lit (.bool x),sP)):v=.bool x:=by
 unfold plainElem at h;rw[he] at h
 cases v<;>simp at h
 rw[h.1]
def lY(w:World)(b n:Nat)(S:List Int):Prop:=
 ∃D:DataW Unit,w.ownsMap z_ 3 (plainElem z_ 4) b n D/\∀x,(Lit.int .i64 x).wf=true->D.atKey (.int .i64 x) (.lit (.bool false))=.lit (.bool (hasB S x))
theorem lY.made(w:World):lY (w.alloc (.map #[] 0)) w.heap.size 0 []:=
 ⟨_,World.ownsMap_made w _ _ _,λ x _=>rfl⟩
theorem lY.lt{w:World}{b n:Nat}{S:List Int}(h:lY w b n S):b<w.heap.size:=by
 obtain⟨D,h1,c⟩:=h;exact h1.lt
theorem lY.kept{w w':World}{b n:Nat}{S:List Int}{row:Option Nat}(h:lY w b n S)(c:w.grownBy w' row)(d:some b≠row):lY w' b n S:=by
 obtain⟨D,h1,e⟩:=h;exact⟨D,h1.kept c d,e⟩
theorem lY.alloc{w:World}{b n:Nat}{S:List Int}(h:lY w b n S)(o:Obj):lY (w.alloc o) b n S:=by
 obtain⟨D,h1,c⟩:=h;exact⟨D,h1.alloc o,c⟩
theorem lY.drew{w:World}{b n:Nat}{S:List Int}(h:lY w b n S):lY w.drew b n S:=by
 obtain⟨D,h1,c⟩:=h;exact⟨D,h1.drew,c⟩
theorem lY.below(h:lY w b n S)(c:Below B w w')(d:b<B):lY w' b n S:=by
 obtain⟨D,⟨es,clock,h1,e⟩,f⟩:=h;exact⟨D,⟨es,clock,(c.block b d).trans h1,e⟩,f⟩
theorem lY.look(h:lY w b n S){x:Int}(c:(Lit.int .i64 x).wf=true):
  (Instr.lookup 114 (.map (some b)) (.int .i64 x) false).run z_ w=.ok (.bool (hasB S x)) w:=by
 obtain⟨D,h1,e⟩:=h;obtain⟨v,i,f,d⟩:=h1.lookup (Maps.int_keyed a_) Tryz.underlying114 (z:=.bool false) (Tryz.zeroValue4 w) (plainElem_bool Zp false) (Maps.keyOf_int_mk a_ c);rw[e x c] at d;have g:=ED Zp d;rw[f,g]
theorem lY.put(h:lY w b n S)(c:n<maxLen){x:Int}(d:(Lit.int .i64 x).wf=true):
  ∃w',(Instr.mapUpdate 114 (.map (some b)) (.int .i64 x) (.bool true)).run z_ w=.ok () w'/\lY w' b (n+1) (S++[x])/\w.grownBy w' (some b):=by
 obtain⟨D,h1,f⟩:=h;obtain⟨w',g,i,j⟩:=h1.update (Maps.int_keyed a_) Tryz.underlying114 c (Maps.keyOf_int_mk a_ d) (plainElem_bool Zp true);refine⟨w',g,⟨_,i,λ y k=>?_⟩,j⟩
 by_cases e:y=x
 ·subst e;rw[Maps.atKey_put_same h1.isMap (by simp[WideAt.IsKeyLit]),zu];simp
 ·rw[Maps.atKey_put_other (by simpa using e),f y k,zu];have:(x==y)=false:=by simpa using Ne.symm e
  rw[this,Bool.or_false]
theorem IC(h:k<ah.length)(e:p (j8 ah k)=true):ah.any p=true:=by
 rw[qK h] at e;rw[Zo];exact⟨_,s_ h,e⟩
theorem ID(h:k<ah.length)(e:p (j8 ah k)=false)(b:(ah.take k).any p=false):(ah.take (k+1)).any p=false:=by
 rw[ym ah k h,List.any_append,b];simp[e]
theorem IE(hl:ah.length=n)(h:¬k<n)(b:(ah.take k).any p=false):ah.any p=false:=by
 rw[o_ (by omega)] at b;exact b
def IF(p:Int->Bool)(b:List Int)(w:World)(e:Ending)(w':World):Prop:=∃r:Int,e=.returned (.int .i64 r)/\(decide (0<=r)=b.any p)/\w=w'
theorem IG(g:Nat)(lb:Array Value)(p:Int->Bool)(u:∀args w,(callFunc g args).run z_ w=.ok (.enter g args) w)(A:Option Addr)(n c:Nat)(d:List Int)(w:World)(h:aS w A n c d)
  (hp:∀x∈d,Calls z_ g (#[.int .i64 x]++lb) w λ e w'=>e=.returned (.bool (p x))/\w=w'):
  Calls z_ 142 #[.slice A n c,.func (.func g) #[] lb] w (IF p d w):=by
 have v:=h.small;have H:=aa h;clear h;have t:=aa hp;clear hp;go_enter Tryz.func142,Tryz.ntmps142
 go_wp2
 go_loop [8] (λ i=>∃k:Nat,k<=n/\i=.int .i64 k/\(d.take k).any p=false) (λ i=>n-(intOf i).toNat)
 case atStart=>exact⟨0,r_ _,rfl,rfl⟩
 case round=>
  obtain⟨k,hk,rfl,l⟩:=hrel;have m:=aa l;clear l
  by_cases f:k<n
  ·obtain⟨b,off,rfl,y,q⟩:=H.o.cells (by omega);have z:=q k f;clear q;have hl:k<d.length:=by rw[H.o.len];exact f
   have j:=t.o (j8 d k) (wg hl);generalize r:p (j8 d k)=o at j;have s:=aa r;clear r
   cases o
   ·go_wp2_with (go_at_fn g;refine j.mono ?_;rintro e w' ⟨rfl,rfl⟩)
    go_round
    case rel=>exact⟨k+1,by omega,by go_num,ID hl s.o m.o⟩
    case measure=>simp[intOf];omega
   ·go_wp2_with (go_at_fn g;refine j.mono ?_;rintro e w' ⟨rfl,rfl⟩)
    go_ret;exact⟨k,rfl,by rw[IC hl s.o];simp,rfl⟩
  ·go_wp2;go_ret;exact⟨-1,rfl,by rw[IE H.o.len f m.o];rfl,rfl⟩
theorem II(g:Nat)(lb:Array Value)(p:Int->Bool)(d:∀args w,(callFunc g args).run z_ w=.ok (.enter g args) w)(A:Option Addr)(n c:Nat)(b:List Int)(w:World)(h:aS w A n c b)
  (hp:∀x∈b,Calls z_ g (#[.int .i64 x]++lb) w λ e w'=>e=.returned (.bool (p x))/\w=w'):
  Calls z_ 120 #[.slice A n c,.func (.func g) #[] lb] w λ e w'=>e=.returned (.bool (b.any p))/\w=w':=by
 have f:=IG g lb p d A n c b w h hp;clear h hp;go_enter Tryz.func120,Tryz.ntmps120
 go_wp2_with (go_at_call 142;refine f.mono ?_;rintro e w' ⟨r,rfl,i,rfl⟩)
 all_goals
  go_ret;exact⟨qZ (by rw[<-i]),rfl⟩
theorem IJ:∀args w,(callFunc 162 args).run z_ w=.ok (.enter 162 args) w:=enters_of Tryz.func162 (by kernel_rfl) rfl
theorem IK(B:Nat)(n x:Int)(w:World)(c:w.cell? ⟨B,0,none⟩=some (.int .i64 n))(b:0<=n)(h1:n<=65536):
  Calls z_ 162 #[.int .i64 x,.pointer (some ⟨B,0,none⟩)] w λ e w'=>e=.returned (.bool (!(mQ x n)))/\w=w':=by
 go_enter Tryz.func162,Tryz.ntmps162
 go_wp2_with (go_at_call 163;refine(EB x n w b h1).mono ?_;rintro e w' ⟨rfl,rfl⟩)
 go_ret;exact⟨rfl,rfl⟩
theorem IL(n:Int)(l:List Int):l.any (λ x=> !(mQ x n))= !(wj n l):=by
 unfold wj;rw[List.not_all_eq_any_not]
theorem IM(x:Int)(A:Option Addr)(n c:Nat)(ls:List (List Int))(w:World)(h:kD w A n c ls)(p:0<=x)(h1:x<=65536):
  Calls z_ 107 #[.agg #[.int .i64 x,.slice A n c]] w λ e w'=>e=.returned (.int .i64 (lq x ls))/\Below w.heap.size w w':=by
 have F:=h.small;have H:=aa h;clear h;have G:¬x<0:=by omega
 have z2:¬65536<x:=by omega
 have f:=aa (And.intro p h1);clear p h1;go_enter Tryz.func107,Tryz.ntmps107
 go_wp2;have m:Below w.heap.size w (w.alloc (.cells #[.int .i64 x,.slice A n c] 24)):=(w_ _ _).alloc (x_ _) _;have d:=tu.new w x A n c;generalize C:w.alloc (.cells #[.int .i64 x,.slice A n c] 24)=W at m d⊢;clear C;have g:=aa m;have I:=aa d;have D:=d.bH;have J:=d.c1;clear m d
 go_loop [16] (λ i=>∃k:Nat,k<=n/\i=.int .i64 k/\sO x (ls.take k)=true) (λ i=>n-(intOf i).toNat)
 case atStart=>exact⟨0,r_ _,rfl,rfl⟩
 case round=>
  obtain⟨k,hk,rfl,q⟩:=hrel;have r:=aa q;clear q
  by_cases j:k<n
  ·obtain⟨b,off,rfl,K,s⟩:=(H.o.below g.o).cells (by omega);obtain⟨a1,E,c1,L,t⟩:=s k j;clear s;have l:=II 162 #[.pointer (some ⟨w.heap.size,0,none⟩)] (λ y=> !(mQ y x)) IJ a1 E c1 (mb ls k) W t (λ y _=>IK w.heap.size x y W D f.o.1 f.o.2);rw[IL] at l;clear t;generalize u:wj x (mb ls k)=o at l;have v:=aa u;clear u
   cases o
   ·go_wp2_with (go_at_call 120;refine l.mono ?_;rintro e w' ⟨rfl,rfl⟩)
    go_ret;exact⟨qv (IA (Iw (k:=k) (by rw[H.o.len];exact j) v.o)).symm,g.o⟩
   ·go_wp2_with (go_at_call 120;refine l.mono ?_;rintro e w' ⟨rfl,rfl⟩)
    go_round
    case rel=>exact⟨k+1,by omega,by go_num,Iy (by rw[H.o.len];exact j) v.o r.o⟩
    case measure=>simp[intOf];omega
  ·have z:=Iz H.o.len j r.o;have B:=aa z;clear z;have M:¬(k:Int)<(n:Int):=by omega
   by_cases N:(65536:Int)<n
   ·go_wp2;go_ret;exact⟨qv (IB f.o B.o (by rw[H.o.len];omega)).symm,g.o⟩
   ·go_wp2;go_ret;exact⟨qv (EC f.o B.o (by rw[H.o.len];omega)).symm,g.o⟩
theorem IN(x:Int)(A:Option Addr)(n c:Nat)(w:World)(h:x<0\/65536<x):
  Calls z_ 107 #[.agg #[.int .i64 x,.slice A n c]] w λ e w'=>e=.returned (.int .i64 1)/\Below w.heap.size w w':=by
 by_cases b:x<0
 ·clear h;go_enter Tryz.func107,Tryz.ntmps107
  go_wp2;go_ret;exact⟨rfl,(w_ _ _).alloc (x_ _) _⟩
 ·have h1:65536<x:=by omega
  clear h;go_enter Tryz.func107,Tryz.ntmps107
  go_wp2;go_ret;exact⟨rfl,(w_ _ _).alloc (x_ _) _⟩
theorem wk(x:Int)(A:Option Addr)(n c:Nat)(ls:List (List Int))(w:World)(h:kD w A n c ls):
  Calls z_ 107 #[.agg #[.int .i64 x,.slice A n c]] w λ e w'=>e=.returned (.int .i64 (lq x ls))/\Below w.heap.size w w':=by
 by_cases b:x<0\/65536<x
 ·rw[xC b];exact IN x A n c w b
 ·exact IM x A n c ls w h (by omega) (by omega)
theorem xD:(z_.info? 3).map (λ i=>(i.zero,i.size,i.bytes))=some (some (.int .i64 0),1,8):=by kernel_rfl
structure Row where
 A:Option Addr
 n:Nat
 c:Nat
 ah:List Int
theorem CB(h:W.ownsRow base e size v (k+1) xs):∃g cap,v=.slice (some ⟨g,0,none⟩) (k+1) cap:=by
 rcases h.2 with⟨_,c⟩|⟨g,cap,cur,b,_⟩
 ·omega
 ·exact⟨g,cap,b⟩
theorem AP(h:w.ownsRow base e size v n xs){g:Nat}(b:v.ownBlock=some g):base<=g/\g<w.heap.size:=by
 rcases h.2 with⟨rfl,_⟩|⟨c,cap,cur,rfl,f,d,_⟩
 ·simp[Value.ownBlock] at b
 ·have:c=g:=by simpa[Value.ownBlock] using b
  subst this;refine⟨f,?_⟩;rcases Zq c w.heap.size with i|j
  ·exact i
  ·rw[j_ j] at d;cases d
theorem nc(h:w.ownsRow B e k v n xs)(b:Below w.heap.size w w'):w'.ownsRow B e k v n xs:=
 h.kept (row:=none) ⟨b.os,b.tape,b.output,b.size,λ j c _=>b.block j c⟩ (by cases d:v.ownBlock<;>simp)
theorem EE:(z_.info? 25).map (λ i=>(i.zero,i.size,i.bytes))=some (some (.slice none 0 0),1,24):=by kernel_rfl
def kO(r:Row):Value:=.slice r.A r.n r.c
theorem CC(b:z_.underlying t=some (.slice e))(w:World)(base:Nat)(ty:TypeId)(i0:TypeInfo)(d:z_.info? e=some i0)(v:Value)(n size:Nat)(xs:List Value)(f:w.ownsRow base e size v n xs)(c:Nat):
  (g_ #[t,t] ty #[v,.slice none 0 c]).run z_ w=.ok v w:=by
 rcases f.2 with⟨rfl,rfl⟩|⟨g,cap,cur,rfl,_,_,i,_⟩
 ·simp[g_,run_underlying b,sizeOf,typeInfo,d,Builtin.lenOf,Za]
 ·simp[g_,run_underlying b,sizeOf,typeInfo,d,Builtin.lenOf,Za,i,storeCells]
theorem aS.news{off:Nat}(h:aS w (some ⟨b,off,none⟩) n c ah):∀j u,(ah.map (v_ .i64))[j]? =some u->w.cell? (Addr.add ⟨b,off,none⟩ j)=some u:=by
 intro j u d;have hl:=h.len;have e:j<n:=by have:=(f_.1 d).1;simpa[hl] using this
 obtain⟨g,i,he,k,f⟩:=h.cells (by omega);simp only[Option.some.injEq,Addr.mk.injEq] at he;obtain⟨rfl,rfl,_⟩:=he;rw[Z0,f j e];rw[l_,y_ (by rw[hl];exact e)] at d;rw[qK (by rw[hl];exact e)];exact d
def nW(w:World)(base:Nat)(e:TypeId)(v:Value)(k:Nat)(ys:List Value)(v':Value)(w':World):Prop:=
 w'.ownsRow base e 1 v' k ys/\w.grownBy w' v.ownBlock/\(v'.ownBlock=v.ownBlock\/v'.ownBlock=some w.heap.size)
theorem CD(w:World)(ty:TypeId)(base:Nat)(v:Value)(n:Nat)(xs:List Int)(f:w.ownsRow base 3 1 v n (xs.map (v_ .i64)))
  (A:Option Addr) (m c:Nat) (e:List Int) (d:aS w A m c e) (o:(n+m)*8<=140737488355328) (p:base<=w.heap.size):
  ∃v' w',(g_ #[25,25] ty #[v,.slice A m c]).run z_ w=.ok v' w'/\nW w base 3 v (n+m) ((xs++e).map (v_ .i64)) v' w':=by
 obtain⟨i0,i,q,r,s⟩:=info_parts xD
 cases A with
 |none=>
  have hm:m=0:=by
   rcases Zv m with g|g
   ·exact g
   ·obtain⟨b,off,he,_⟩:=d.cells g;cases he
  subst hm;have t:e=[]:=q_ d.len;subst t;exact⟨v,w,CC d_ w base ty i0 i v n 1 _ f c,by simpa using f,Z3 w _,.inl rfl⟩
 |some k=>
  have y:∀j u,(e.map (v_ .i64))[j]? =some u->w.cell? (k.add j)=some u:=by
   intro j u l;have D:j<m:=by have:=(f_.1 l).1;simpa[d.len] using this
   obtain⟨b,off,he,_⟩:=d.cells (by omega);injection he with he
   subst he;exact d.news j u l
  obtain⟨v',w',h1,z,B,_,C⟩:=run_append_own_at (P:=z_) w base 25 ty 3 i0 (.int .i64 0) 1 8 d_ i q r s rfl (by decide) v n _ f k m c (e.map (v_ .i64)) (by simp[d.len]) y (by intro u hu;obtain⟨x,_,rfl⟩:=List.mem_map.1 hu;rfl) (by unfold maxLen;omega) o p;exact⟨v',w',h1,by rw[Zj];exact z,B,C⟩
theorem EF{o:Oper}{K:Act->World->Prop}{E:Prop}(d:o.guard=none)(s x:Operand)
  (e:o.op=.call {callee:=.builtin .append,args:= #[s,x],argTypes:= #[25,25]}) (base:Nat) (v:Value) (n:Nat) (xs:List Int) (hs:a.eval s=v) (f:w.ownsRow base 3 1 v n (xs.map (v_ .i64)))
  (A:Option Addr) (m c:Nat) (b:List Int) (g:a.eval x=.slice A m c) (i:aS w A m c b) (j:(n+m)*8<=140737488355328) (k:base<=w.heap.size)
  (h:∀v' w',nW w base 3 v (n+m) ((xs++b).map (v_ .i64)) v' w'->K (a.put o.dst v') w'):
  if Zd o (yielded ops a.tmps)=true then Oper.wp z_ o a w K Q else E:=by
 have hw:Zd o (yielded ops a.tmps)=true:=by simp[Zd,d]
 rw[if_pos hw];obtain⟨v',w',h1,l⟩:=CD w o.type base v n xs f A m c b i j k;unfold Oper.wp;simp only[execOp,e,resolve,invoke,builtin,Z4,Z5,Zr,Zn,Zt,Z6,hs,g,h1];exact h v' w' l
theorem uH{o:Oper}(d:o.guard=none)(s x:Operand)
  (e:o.op=.call {callee:=.builtin .append,args:= #[s,x],argTypes:= #[25,25]}) (base:Nat) (v:Value) (n:Nat) (xs:List Int) (hs:a.eval s=v) (f:w.ownsRow base 3 1 v n (xs.map (v_ .i64)))
  (A:Option Addr) (m c:Nat) (b:List Int) (g:a.eval x=.slice A m c) (i:aS w A m c b) (j:(n+m)*8<=140737488355328) (k:base<=w.heap.size)
  (h:∀v' w',nW w base 3 v (n+m) ((xs++b).map (v_ .i64)) v' w'->wpList z_ ops Q rest (a.put o.dst v') w'):
  wpList z_ ops Q (o::rest) a w:=by
 obtain⟨v',w',h1,l⟩:=CD w o.type base v n xs f A m c b i j k;refine wpList_plain d λ K p=>?_
 unfold Oper.wp;simp only[execOp,e,resolve,invoke,builtin,Z4,Z5,Zr,Zn,Zt,Z6,hs,g,h1];exact p _ _ (h v' w' l)
structure oe(w:World)(A:Option Addr)(n c:Nat)(rs:List Row):Prop where
 len:rs.length=n
 cap:n<=c
 mG:n*24<=140737488355328
 od:c<=maxLen
 cells:0<n->∃b off,A=some ⟨b,off,none⟩/\b<w.heap.size/\∀j u,(rs.map kO)[j]? =some u->w.cell? ⟨b,off+j,none⟩=some u
 rows:∀r∈rs,aS w r.A r.n r.c r.ah
theorem oe.below{w w':World}{A:Option Addr}{n c:Nat}{rs:List Row}(h:oe w A n c rs)(d:Below w.heap.size w w'):oe w' A n c rs:=
 ⟨h.len,h.cap,h.mG,h.od,λ f=>by
  obtain⟨b,off,rfl,e,g⟩:=h.cells f;exact⟨b,off,rfl,n_ e d.size,λ j u i=>(d.cell (p:=⟨b,off+j,none⟩) e).trans (g j u i)⟩,λ r k=>(h.rows r k).below d⟩
theorem oe.AQ{rs:List Row}(h:oe w A n c rs):kD w A n c (rs.map (·.ah)):=
 ⟨by rw[List.length_map];exact h.len,h.cap,h.mG,h.od,λ e=>by
  obtain⟨b,off,rfl,f,g⟩:=h.cells e;refine⟨b,off,rfl,f,λ j i=>?_⟩;have d:j<rs.length:=by rw[h.len];exact i
  refine⟨rs[j].A,rs[j].n,rs[j].c,g j _ (by rw[l_,y_ d];rfl),?_⟩;rw[tP (by simpa using d)];simpa using h.rows _ (s_ d)⟩
theorem EG{w:World}{b off:Nat}:∀(ls:List (List Int))(k:Nat),(∀j,j<ls.length->∃A' f c',w.cell? ⟨b,off+(k+j),none⟩=some (.slice A' f c')/\aS w A' f c' (mb ls j))->
  ∃rs:List Row,rs.map (·.ah)=ls/\(∀j u,(rs.map kO)[j]? =some u->w.cell? ⟨b,off+(k+j),none⟩=some u)/\∀r∈rs,aS w r.A r.n r.c r.ah
 |[],k,h=>⟨[],rfl,λ j u d=>by simp at d,λ r g=>by cases g⟩
 |l::ls,k,h=>by
  obtain⟨A',f,c',h1,i⟩:=h 0 (by simp);obtain⟨rs,m,o,p⟩:=EG (w:=w) (b:=b) (off:=off) ls (k+1) (λ j d=>by
   obtain⟨A',f,c',h1,i⟩:=h (j+1) (by simpa using d);refine⟨A',f,c',?_,i⟩;rw[show k+1+j=k+(j+1) by omega];exact h1)
  refine⟨⟨A',f,c',l⟩::rs,by rw[Zt,m],λ j u d=>?_,λ r g=>?_⟩
  ·cases j with
   |zero=>simp at d;subst d;exact h1
   |succ j=>rw[show k+(j+1)=k+1+j by omega];exact o j u (by simpa using d)
  ·rcases Zc.1 g with e|e
   ·subst e;exact i
   ·exact p r e
theorem kD.EH(h:kD w A n c ls):∃rs:List Row,rs.map (·.ah)=ls/\oe w A n c rs:=by
 rcases Zv n with d|d
 ·have:ls=[]:=q_ (by rw[h.len];exact d);subst this;exact⟨[],rfl,⟨by have:=h.len;simpa using this,h.cap,h.mG,h.od,λ i=>absurd i (by omega),λ r k=>by cases k⟩⟩
 ·obtain⟨b,off,e,l,m⟩:=h.cells d;obtain⟨rs,g,o,p⟩:=EG (w:=w) (b:=b) (off:=off) ls 0 (λ j f=>by rw[Nat.zero_add];exact m j (by rw[<-h.len];exact f));refine⟨rs,g,⟨?_,h.cap,h.mG,h.od,λ _=>⟨b,off,e,l,λ j u f=>?_⟩,p⟩⟩
  ·rw[<-h.len,<-g,List.length_map]
  ·have:=o j u f;rwa[Nat.zero_add] at this
theorem IS(w:World)(ty:TypeId)(base:Nat)(v:Value)(n:Nat)(xs:List Row)(e:w.ownsRow base 25 1 v n (xs.map kO))
  (A:Option Addr) (m c:Nat) (rs:List Row) (d:oe w A m c rs) (l:(n+m)*24<=140737488355328) (o:base<=w.heap.size):
  ∃v' w',(g_ #[22,22] ty #[v,.slice A m c]).run z_ w=.ok v' w'/\nW w base 25 v (n+m) ((xs++rs).map kO) v' w':=by
 obtain⟨i0,g,p,q,r⟩:=info_parts EE
 cases A with
 |none=>
  have hm:m=0:=by
   rcases Zv m with f|f
   ·exact f
   ·obtain⟨b,off,he,_⟩:=d.cells f;cases he
  subst hm;have s:rs=[]:=q_ d.len;subst s;exact⟨v,w,CC Tryz.underlying22 w base ty i0 g v n 1 _ e c,by simpa using e,Z3 w _,.inl rfl⟩
 |some i=>
  have t:∀j u,(rs.map kO)[j]? =some u->w.cell? (i.add j)=some u:=by
   intro j u k;have D:j<m:=by have:=(f_.1 k).1;simpa[d.len] using this
   obtain⟨b,off,he,_,y⟩:=d.cells (by omega);injection he with he
   subst he;rw[Z0];exact y j u k
  obtain⟨v',w',h1,z,B,_,C⟩:=run_append_own_at (P:=z_) w base 22 ty 25 i0 (.slice none 0 0) 1 24 Tryz.underlying22 g p q r rfl (by decide) v n _ e i m c (rs.map kO) (by simp[d.len]) t (by intro u hu;obtain⟨x,_,rfl⟩:=List.mem_map.1 hu;rfl) (by unfold maxLen;omega) l o;exact⟨v',w',h1,by rw[Zj];exact z,B,C⟩
theorem IT{o:Oper}(b:o.guard=none)(s x:Operand)
  (d:o.op=.call {callee:=.builtin .append,args:= #[s,x],argTypes:= #[22,22]}) (base:Nat) (v:Value) (n:Nat) (xs:List Row) (hs:a.eval s=v) (e:w.ownsRow base 25 1 v n (xs.map kO))
  (A:Option Addr) (m c:Nat) (rs:List Row) (f:a.eval x=.slice A m c) (g:oe w A m c rs) (i:(n+m)*24<=140737488355328) (j:base<=w.heap.size)
  (h:∀v' w',nW w base 25 v (n+m) ((xs++rs).map kO) v' w'->wpList z_ ops Q rest (a.put o.dst v') w'):
  wpList z_ ops Q (o::rest) a w:=by
 obtain⟨v',w',h1,k⟩:=IS w o.type base v n xs e A m c rs g i j;refine wpList_plain b λ K l=>?_
 unfold Oper.wp;simp only[execOp,d,resolve,invoke,builtin,Z4,Z5,Zr,Zn,Zt,Z6,hs,f,h1];exact l _ _ (h v' w' k)
theorem EI(h:w.ownsRow base e size v n xs):∃A c,v=.slice A n c:=by
 rcases h.2 with⟨rfl,rfl⟩|⟨g,cap,cur,rfl,_⟩
 ·exact⟨none,0,rfl⟩
 ·exact⟨some ⟨g,0,none⟩,cap,rfl⟩
def nX(b:List Int):Obj:=.cells ((b.map (v_ .i64)).toArray) 3
theorem aS.lit(w:World)(b:List Int)(n s:Nat)(d:b.length=n)(hs:s=w.heap.size)(h:n<=1000):aS (w.alloc (nX b)) (some ⟨s,0,none⟩) n n b:=by
 subst hs;refine⟨d,x_ _,by omega,by unfold maxLen;omega,λ e=>⟨w.heap.size,0,rfl,by simp,λ j f=>?_⟩⟩;have c:(w.alloc (nX b)).heap[w.heap.size]? =some (nX b):=Zx w _;generalize w.alloc (nX b)=W at c;have:((b.map (v_ .i64)).toArray)[j]? =some (.int .i64 (j8 b j)):=by
  rw[Zg,l_,y_ (by omega:j<b.length),qK (by omega)];rfl
 unfold nX at c;simp[p_,c,this]
theorem IU{g cap:Nat}(h:w.ownsRow base e 1 (.slice (some ⟨g,0,none⟩) n cap) n xs)(u:Value):
  (w.setCell ⟨g,k,none⟩ u).ownsRow base e 1 (.slice (some ⟨g,0,none⟩) n cap) n (xs.set k u):=by
 obtain⟨h1,c⟩:=h;rcases c with⟨b,_⟩|⟨p,q,cur,b,d,f,i,j,l,m⟩
 ·cases b
 ·cases b
  refine⟨by rw[List.length_set];exact h1,.inr ⟨g,cap,cur.setIfInBounds k u,rfl,d,?_,i,j,by rw[Array.size_setIfInBounds];exact l,?_⟩⟩
  ·obtain⟨o,hk⟩:=h_.1 f;show(w.heap.modify g _)[g]? =_;rw[Array.getElem?_eq_getElem (by rw[Array.size_modify];exact o),Array.getElem_modify_self,hk];rfl
  ·rw[Array.toList_setIfInBounds,List.take_set,m]
theorem kD.lG{rs:List Row}(h:w.ownsRow base 25 1 (.slice A n c) n (rs.map kO))(m:∀r∈rs,aS w r.A r.n r.c r.ah)(i:n*24<=140737488355328):kD w A n c (rs.map (·.ah)):=by
 obtain⟨h1,o⟩:=h;have hl:rs.length=n:=by simpa using h1
 rcases o with⟨b,k⟩|⟨g,cap,cur,b,v,d,p,q,y,s⟩
 ·simp only[m_] at b;obtain⟨rfl,_,rfl⟩:=b;subst k;exact⟨by simpa using hl,x_ _,i,r_ _,λ h=>absurd h (by omega)⟩
 ·simp only[m_] at b;obtain⟨rfl,_,rfl⟩:=b;refine⟨by simpa using hl,p,i,q,λ k=>⟨g,0,rfl,?_,λ j z=>?_⟩⟩
  ·rcases Zq g w.heap.size with t|u
   ·exact t
   ·rw[j_ u] at d;cases d
  ·have f:j<rs.length:=by omega
   have e:cur[j]? =some (kO rs[j]):=by
    have l:(cur.toList.take (n*1))[j]? =(rs.map kO)[j]? :=by rw[s]
    rw[e_ (by omega),l_,y_ f] at l;rw[<-Zy,l];rfl
   refine⟨rs[j].A,rs[j].n,rs[j].c,by simp[p_,d,e];rfl,?_⟩;have:=m _ (s_ f);rw[tP (by simpa using f)];simpa using this
theorem aS.take{w:World}{A:Option Addr}{n c:Nat}{ah:List Int}(h:aS w A n c ah){k:Nat}(hk:k<=n):aS w A k c (ah.take k):=by
 have g:=h.mG;have i:=h.cap;refine⟨by simp[h.len];omega,by omega,by omega,h.od,λ l=>?_⟩;obtain⟨b,off,rfl,d,e⟩:=h.cells (by omega);refine⟨b,off,rfl,d,λ j f=>?_⟩;rw[e j (by omega)];unfold j8;simp[t_,List.getElem?_take,f]
theorem aS.cut(h:aS w A n c ah){k:Nat}(hk:k<=n):aS w (Option.map (λ x=>x.add k) A) (n-k) (c-k) (ah.drop k):=by
 have hl:=h.len;have f:=h.cap;have g:=h.mG;have hm:=h.od;refine⟨by simp[hl],by omega,by omega,by omega,λ i=>?_⟩;obtain⟨b,off,rfl,d,e⟩:=h.cells (by omega);refine⟨b,off+k,by rw[Option.map_some,Z0],d,λ j l=>?_⟩;have:=e (k+j) (by omega);rw[show off+(k+j)=off+k+j by omega] at this;rw[this];simp[j8,t_]
theorem aS.zero(hm:m=0)(b:ah.length=0)(d:c<=maxLen):aS w A m c ah:=by
 subst hm;rw[q_ b];exact aS.nil w A c d
structure kE(w:World)(A:Option Addr)(n c:Nat)(jC:List Bool):Prop where
 len:jC.length=n
 cap:n<=c
 mG:n<=140737488355328
 od:c<=maxLen
 cells:0<n->∃b off,A=some ⟨b,off,none⟩/\b<w.heap.size/\∀j,j<n->w.cell? ⟨b,off+j,none⟩=some (.bool (jC.getD j false))
theorem kE.below(h:kE w A n c jC)(d:Below w.heap.size w w'):kE w' A n c jC:=
 ⟨h.len,h.cap,h.mG,h.od,λ f=>by
  obtain⟨b,off,rfl,e,g⟩:=h.cells f;exact⟨b,off,rfl,n_ e d.size,λ j i=>(d.cell (p:=⟨b,off+j,none⟩) e).trans (g j i)⟩⟩
def CE(b:List Bool)(v:Nat):Bool:=b.getD v false
def vv(b:List Bool)(x:Int):Bool:=if mQ x 65536=true then CE b x.natAbs==decide (0<x) else false
def AR(b:List Bool)(l:List Int):Bool:=l.any (vv b)
def CF(x:Int)(ls:List (List Int))(b:List Bool):Bool:=lq x ls==0&&ls.all (AR b)
theorem IV(h:mQ x 65536=true):vv jC x=(CE jC x.natAbs==decide (0<x)):=by unfold vv;rw[if_pos h]
theorem kE.lG(h:w.ownsRow base 4 1 (.slice A n c) n (jC.map Value.bool))(f:n<=140737488355328):kE w A n c jC:=by
 obtain⟨h1,l⟩:=h;have hl:jC.length=n:=by simpa using h1
 rcases l with⟨b,i⟩|⟨g,cap,cur,b,s,d,m,o,t,p⟩
 ·simp only[m_] at b;obtain⟨rfl,_,rfl⟩:=b;subst i;exact⟨hl,x_ _,f,r_ _,λ h=>absurd h (by omega)⟩
 ·simp only[m_] at b;obtain⟨rfl,_,rfl⟩:=b;refine⟨hl,m,f,o,λ i=>⟨g,0,rfl,?_,λ j u=>?_⟩⟩
  ·rcases Zq g w.heap.size with q|r
   ·exact q
   ·rw[j_ r] at d;cases d
  ·have e:cur[j]? =some (.bool (jC.getD j false)):=by
    have k:(cur.toList.take (n*1))[j]? =(jC.map Value.bool)[j]? :=by rw[p]
    rw[e_ (by omega),l_,y_ (by omega:j<jC.length)] at k;rw[<-Zy,k,t_,y_ (by omega:j<jC.length)];rfl
   simp[p_,d,e]
theorem IW:AR jC l=true↔∃x∈l,vv jC x=true:=by unfold AR;rw[Zo]
end
section
open Go.RowKit
def xE(n:Nat)(v:Int):Bool:=decide (0<v)&&decide (v<n)
theorem AS{v:Int}:xE n v=true↔0<v/\v<n:=by simp[xE]
theorem CG(B:Nat)(A:Option Addr)(n c:Nat)(v:Int)(w:World)(f:w.cell? ⟨B,0,none⟩=some (.slice A n c)):
  Calls z_ 206 #[.pointer (some ⟨B,0,none⟩),.int .i64 v] w λ e w'=>e=.returned (.bool (xE n v))/\w=w':=by
 by_cases b:0<v
 ·by_cases d:v<n
  all_goals
   go_enter Tryz.func206,Tryz.ntmps206
   go_wp2;go_ret;exact⟨qZ (by simp[xE,b,d]),rfl⟩
 ·go_enter Tryz.func206,Tryz.ntmps206
  go_wp2;go_ret;exact⟨qZ (by rw[xE,decide_eq_false (show¬0<v by omega)];rfl),rfl⟩
def mR(n:Int):Bool:=decide (n<0)||decide (1099511627776<n)
theorem AT(x:Int)(w:World):Calls z_ 205 #[.int .i64 x] w λ e w'=>e=.returned (.bool (mR x))/\w=w':=by
 by_cases h1:x<0
 ·go_enter Tryz.func205,Tryz.ntmps205
  go_wp2;go_ret;exact⟨qZ (by simp[mR,h1]),rfl⟩
 ·by_cases b:1099511627776<x
  all_goals
   go_enter Tryz.func205,Tryz.ntmps205
   go_wp2;go_ret;exact⟨qZ (by simp[mR,h1,b]),rfl⟩
def vw(act:List Int)(a b:Int):Int:=rV (ou (j8 act b.toNat) (j8 act a.toNat)) (ou a b)
theorem IX(B b off n c:Nat)(act:List Int)(x y:Nat)(w:World)(d:B<w.heap.size)(f:b<w.heap.size)(g:w.cell? ⟨B,0,none⟩=some (.slice (some ⟨b,off,none⟩) n c))
  (i:x<n) (j:y<n) (k:n<=17592186044416) (l:w.cell? ⟨b,off+x,none⟩=some (.int .i64 (j8 act x))) (m:w.cell? ⟨b,off+y,none⟩=some (.int .i64 (j8 act y))):
  Calls z_ 207 #[.pointer (some ⟨B,0,none⟩),.int .i64 x,.int .i64 y] w λ e w'=>e=.returned (.int .i64 (vw act x y))/\Below w.heap.size w w':=by
 have o:(x:Int)<(n:Int):=by omega
 have p:(y:Int)<(n:Int):=by omega
 go_enter Tryz.func207,Tryz.ntmps207
 go_wp2;refine wp_region_still_tail 20 (by kernel_rfl) (by kernel_rfl) ?_;simp only[List.take_succ_cons,List.take_zero,List.drop_succ_cons,List.drop_zero]
 iterate 16 still_step
 still_call ((zv _ _ _).mono (λ e w' h=>⟨h.1,h.2.symm⟩))
 still_step
 still_step
 still_call ((zv _ _ _).mono (λ e w' h=>⟨h.1,h.2.symm⟩))
 refine wpStill_nil ?_;change wpList _ _ _ _ _ w.drew
 go_wp2_with fail
 refine(AN w.heap.size (ou (j8 act y) (j8 act x)) (ou x y) _ (by go_simp) (by go_simp)).mono ?_;rintro e w' ⟨rfl,rfl⟩;go_wp2;go_ret;exact⟨qv (by simp[vw]),((w_ _ _).alloc (x_ _) _).drew⟩
def IY(b:List Int)(w:World)(e:Ending)(w':World):Prop:=∃r:Int,e=.returned (.int .i64 r)/\(decide (0<=r)=b.any mR)/\w=w'
theorem IZ(h:k<ah.length)(e:mR (j8 ah k)=true):ah.any mR=true:=by
 rw[qK h] at e;rw[Zo];exact⟨_,s_ h,e⟩
theorem I1(h:k<ah.length)(e:mR (j8 ah k)=false)(b:(ah.take k).any mR=false):(ah.take (k+1)).any mR=false:=by
 rw[ym ah k h,List.any_append,b];simp[e]
theorem I2(hl:ah.length=n)(h:¬k<n)(b:(ah.take k).any mR=false):ah.any mR=false:=by
 rw[o_ (by omega)] at b;exact b
theorem I3(A:Option Addr)(n c:Nat)(d:List Int)(w:World)(h:aS w A n c d):
  Calls z_ 142 #[.slice A n c,.func (.func 205) #[] #[]] w (IY d w):=by
 have q:=h.small;have H:=aa h;clear h;go_enter Tryz.func142,Tryz.ntmps142
 go_wp2
 go_loop [8] (λ i=>∃k:Nat,k<=n/\i=.int .i64 k/\(d.take k).any mR=false) (λ i=>n-(intOf i).toNat)
 case atStart=>exact⟨0,r_ _,rfl,rfl⟩
 case round=>
  obtain⟨k,hk,rfl,j⟩:=hrel;have l:=aa j;clear j
  by_cases f:k<n
  ·obtain⟨b,off,rfl,r,m⟩:=H.o.cells (by omega);have s:=m k f;clear m;generalize p:mR (j8 d k)=o;have g:=aa p;clear p
   cases o
   ·go_wp2_with (go_at_call 205;refine(AT _ _).mono ?_;rintro e w' ⟨rfl,rfl⟩;rw[g.o])
    go_round
    case rel=>exact⟨k+1,by omega,by go_num,I1 (by rw[H.o.len];exact f) g.o l.o⟩
    case measure=>simp[intOf];omega
   ·go_wp2_with (go_at_call 205;refine(AT _ _).mono ?_;rintro e w' ⟨rfl,rfl⟩;rw[g.o])
    go_ret;exact⟨k,rfl,by rw[IZ (by rw[H.o.len];exact f) g.o];simp,rfl⟩
  ·go_wp2;go_ret;exact⟨-1,rfl,by rw[I2 H.o.len f l.o];rfl,rfl⟩
theorem AU(A:Option Addr)(n c:Nat)(b:List Int)(w:World)(h:aS w A n c b):
  Calls z_ 120 #[.slice A n c,.func (.func 205) #[] #[]] w λ e w'=>e=.returned (.bool (b.any mR))/\w=w':=by
 have H:=aa h;clear h;go_enter Tryz.func120,Tryz.ntmps120
 go_wp2_with fail
 refine(I3 A n c b _ H.o).mono ?_;rintro e w' ⟨r,rfl,d,rfl⟩;have f:=aa d;clear d;go_wp2;go_ret;exact⟨qZ f.o,rfl⟩
def tv(act l:List Int)(i:Nat):Bool:=xE act.length (j8 l i)&&(decide (i=0)||decide (vw act (j8 l (i-1)) (j8 l i)<0))
def tQ(act l:List Int):Bool:=(List.range l.length).all (tv act l)
def va(act:List Int):Bool:=decide (0<act.length)&&decide (act.length<=65537)&&decide (j8 act 0=0)&& !(act.any mR)
def wm(y:Int):Bool:=decide (y≠0)&& !(mR y)
def tR(act l:List Int)(y:Int):Bool:=va act&&wm y&&tQ act l
def yo(b:Bool):Int:=if b then 0 else 1
theorem CH{b:Bool}(h:x=yo b):Zk (.int .i64 x)=.returned (.int .i64 (yo b)):=by rw[h]
theorem I4(B:Nat)(A:Option Addr)(n c:Nat)(act:List Int)(a b:Int)(w:World)(f:B<w.heap.size)(i:w.cell? ⟨B,0,none⟩=some (.slice A n c))(h:aS w A n c act)
  (j:0<=a/\a<n) (k:0<=b/\b<n):
  Calls z_ 207 #[.pointer (some ⟨B,0,none⟩),.int .i64 a,.int .i64 b] w λ e w'=>e=.returned (.int .i64 (vw act a b))/\Below w.heap.size w w':=by
 obtain⟨x,rfl⟩:=Zl j.1;obtain⟨y,rfl⟩:=Zl k.1;obtain⟨g,off,rfl,l,d⟩:=h.cells (by omega);exact IX B g off n c act x y w f l i (by omega) (by omega) h.small (d x (by omega)) (d y (by omega))
theorem EJ(h:∀i,i<k->tv act l i=true)(e:tv act l k=true):∀i,i<k+1->tv act l i=true:=by
 intro i c
 by_cases b:i=k
 ·subst b;exact e
 ·exact h i (by omega)
theorem I5(hl:l.length=n)(hk:¬k<n)(h:∀i,i<k->tv act l i=true):tQ act l=true:=by
 unfold tQ;rw[List.all_eq_true];intro i b;rw[List.mem_range] at b;exact h i (by omega)
theorem EK(hk:k<l.length)(h:tv act l k=false):tQ act l=false:=by
 unfold tQ;rw[List.all_eq_false];exact⟨k,List.mem_range.2 hk,by simp[h]⟩
section
variable (B:Nat)(A:Option Addr)(n c:Nat)(act:List Int)(A':Option Addr)(jq c':Nat)(l:List Int)(y:Int)(w:World)
theorem I6(s:B<w.heap.size)(P:w.cell? ⟨B,0,none⟩=some (.slice A n c))(Q:w.cell? ⟨B,1,none⟩=some (.slice A' jq c'))(aj:w.cell? ⟨B,2,none⟩=some (.int .i64 y))
  (h:aS w A n c act) (h':aS w A' jq c' l) (D:va act=true) (E:wm y=true):
  Calls z_ 164 #[.pointer (some ⟨B,0,none⟩)] w λ e w'=>e=.returned (.int .i64 (yo (tQ act l)))/\Below w.heap.size w w':=by
 have ak:=h.small;have al:=h'.small;have hlen:=h.len;simp only[va,wm,Zz,decide_eq_true_eq,Bool.not_eq_true',ne_eq,hlen] at D E;obtain⟨⟨⟨a1,a2⟩,a3⟩,a4⟩:=D;obtain⟨F,G⟩:=E;have an:((n:Int)==0)=false:=by simp;omega
 have z2:¬(65537:Int)<n:=by omega
 have z3:(j8 act 0 !=0)=false:=by simp[a3]
 have z4:(y==0)=false:=by simpa using F
 obtain⟨b,off,rfl,ao,I⟩:=h.cells (by omega);have R:=I 0 (by omega);simp only[Zm] at R;have H:=aa h;have j:=aa h';have g:=aa hlen;have S:=aa a4;have T:=aa G;clear h h' hlen a4 G a3 F I;go_enter Tryz.func164,Tryz.ntmps164
 go_wp2_with fail
 refine(AU _ n c act _ H.o).mono ?_;rintro e w' ⟨rfl,rfl⟩;rw[S.o]
 go_wp2_with fail
 refine(AT _ _).mono ?_;rintro e w' ⟨rfl,rfl⟩;rw[T.o]
 go_wp2_with fail
 go_loopw [64] (λ i wr=>∃k:Nat,k<=jq/\i=.int .i64 k/\(∀i,i<k->tv act l i=true)/\Below w.heap.size w wr) (λ i _=>jq-(intOf i).toNat)
 case atStart=>exact⟨0,r_ _,rfl,λ i U=>absurd U (Nat.not_lt_zero _),w_ _ _⟩
 case round=>
  obtain⟨k,hk,rfl,J,d⟩:=hrel;have m:=aa J;clear J;have H1:=aa (H.o.below d);obtain⟨t,V⟩:=Ip d;have W:B<wr.heap.size:=n_ s d.size;have q:=(t B 0 s).trans P;have aq:=(t B 1 s).trans Q;clear t V
  by_cases r:k<jq
  ·obtain⟨u,v,rfl,K,z⟩:=j.o.cells (by omega);have X:=(d.cell (p:=⟨u,v+k,none⟩) K).trans (z k r);have C:0<k->wr.cell? ⟨u,v+(k-1),none⟩=some (.int .i64 (j8 l (k-1))):=λ ar=>(d.cell (p:=⟨u,v+(k-1),none⟩) K).trans (z (k-1) (by omega))
   clear z;generalize L:xE n (j8 l k)=Y;have f:=aa L;clear L
   cases Y
   ·go_wp2_with (go_at_call 206;refine(CG B _ n c _ _ q).mono ?_;rintro e w' ⟨rfl,rfl⟩;rw[f.o])
    go_ret;exact⟨CH (by rw[EK (k:=k) (by rw[j.o.len];exact r) (by simp[tv,g.o,f.o])];rfl),d⟩
   ·by_cases Z:k=0
    ·subst Z;simp only[Zm] at X;clear C
     go_wp2_with (go_at_call 206;refine(CG B _ n c _ _ q).mono ?_;rintro e w' ⟨rfl,rfl⟩;rw[f.o])
     go_roundw
     case rel=>exact⟨1,by omega,by go_num,EJ m.o (by simp[tv,g.o,f.o]),d⟩
     case measure=>simp[intOf];omega
    ·have ab:0<k:=by omega
     have au:(0:Int)<k:=by omega
     have av:=C ab;clear C;have hp:=m.o (k-1) (by omega);simp only[tv,Zz,g.o,AS] at hp;have ad:=hp.1;clear hp;have ae:=AS.1 f.o
     go_wp2_with fail
     refine(CG B _ n c _ _ q).mono ?_;rintro e w' ⟨rfl,rfl⟩;rw[f.o]
     go_wp2_with fail
     refine(I4 B _ n c act _ _ _ W q H1.o ⟨by omega,ad.2⟩ ⟨by omega,ae.2⟩).mono ?_;rintro e af ⟨rfl,ag⟩;generalize M:vw act (j8 l (k-1)) (j8 l k)=ah;have N:=aa M;clear M;have O:Below w.heap.size w af:=d.trans (ag.mono d.size)
     by_cases ai:ah<0
     ·go_wp2_with fail
      go_roundw
      case rel=>exact⟨k+1,by omega,by go_num,EJ m.o (by simp only[tv,g.o,f.o,N.o];simp[ai]),O⟩
      case measure=>simp[intOf];omega
     ·go_wp2_with fail
      go_ret;exact⟨CH (by rw[EK (k:=k) (by rw[j.o.len];exact r) (by simp only[tv,g.o,f.o,N.o];simp;omega)];rfl),O⟩
  ·go_wp2_with fail
   go_ret;exact⟨CH (by rw[I5 j.o.len r m.o];rfl),d⟩
theorem I7(m:B<w.heap.size)(p:w.cell? ⟨B,0,none⟩=some (.slice A n c))
  (h:aS w A n c act) (d:va act=false):
  Calls z_ 164 #[.pointer (some ⟨B,0,none⟩)] w λ e w'=>e=.returned (.int .i64 1)/\Below w.heap.size w w':=by
 have q:=h.small;have hlen:=h.len
 by_cases a1:n=0
 ·have g:((n:Int)==0)=true:=by simp[a1]
  clear d h a1 hlen;go_enter Tryz.func164,Tryz.ntmps164
  go_wp2_with fail
  go_ret;exact⟨rfl,w_ _ _⟩
 have g:((n:Int)==0)=false:=by simp;omega
 by_cases a2:65537<n
 ·have z2:(65537:Int)<n:=by omega
  clear d h hlen;go_enter Tryz.func164,Tryz.ntmps164
  go_wp2_with fail
  go_ret;exact⟨rfl,w_ _ _⟩
 have z2:¬(65537:Int)<n:=by omega
 have hp:0<n:=by omega
 obtain⟨b,off,rfl,r,f⟩:=h.cells hp;have i:=f 0 hp;simp only[Zm] at i;clear f
 by_cases a3:j8 act 0=0
 ·have z3:(j8 act 0 !=0)=false:=by simp[a3]
  have a4:act.any mR=true:=by
   simp only[va,hlen,a3] at d;have j:decide (0<n)=true:=by simpa using hp
   have k:decide (n<=65537)=true:=by simp;omega
   rw[j,k] at d;simpa using d
  have H:=aa h;have l:=aa a4;clear d h hlen a3 a4;go_enter Tryz.func164,Tryz.ntmps164
  go_wp2_with fail
  refine(AU _ n c act _ H.o).mono ?_;rintro e w' ⟨rfl,rfl⟩;rw[l.o]
  go_wp2_with fail
  go_ret;exact⟨rfl,w_ _ _⟩
 ·have z3:(j8 act 0 !=0)=true:=by simpa using a3
  clear d h hlen a3;go_enter Tryz.func164,Tryz.ntmps164
  go_wp2_with fail
  go_ret;exact⟨rfl,w_ _ _⟩
theorem I8(q:B<w.heap.size)(r:w.cell? ⟨B,0,none⟩=some (.slice A n c))(s:w.cell? ⟨B,2,none⟩=some (.int .i64 y))
  (h:aS w A n c act) (f:va act=true) (g:wm y=false):
  Calls z_ 164 #[.pointer (some ⟨B,0,none⟩)] w λ e w'=>e=.returned (.int .i64 1)/\Below w.heap.size w w':=by
 have t:=h.small;have hlen:=h.len;simp only[va,Zz,decide_eq_true_eq,Bool.not_eq_true',hlen] at f;obtain⟨⟨⟨a1,a2⟩,a3⟩,a4⟩:=f;have u:((n:Int)==0)=false:=by simp;omega
 have z2:¬(65537:Int)<n:=by omega
 have z3:(j8 act 0 !=0)=false:=by simp[a3]
 obtain⟨b,off,rfl,v,i⟩:=h.cells (by omega);have l:=i 0 (by omega);simp only[Zm] at l;have H:=aa h;have j:=aa a4;have m:=aa g;clear h hlen a4 a3 i g
 by_cases d:y=0
 ·have z4:(y==0)=true:=by simpa using d
  clear d;go_enter Tryz.func164,Tryz.ntmps164
  go_wp2_with fail
  refine(AU _ n c act _ H.o).mono ?_;rintro e w' ⟨rfl,rfl⟩;rw[j.o]
  go_wp2_with fail
  go_ret;exact⟨rfl,w_ _ _⟩
 ·have z4:(y==0)=false:=by simpa using d
  have k:mR y=true:=by have:=m.o;simp only[wm] at this;simpa[d] using this
  have p:=aa k;clear d k;go_enter Tryz.func164,Tryz.ntmps164
  go_wp2_with fail
  refine(AU _ n c act _ H.o).mono ?_;rintro e w' ⟨rfl,rfl⟩;rw[j.o]
  go_wp2_with fail
  refine(AT _ _).mono ?_;rintro e w' ⟨rfl,rfl⟩;rw[p.o]
  go_wp2_with fail
  go_ret;exact⟨rfl,w_ _ _⟩
theorem I9(f:B<w.heap.size)(g:w.cell? ⟨B,0,none⟩=some (.slice A n c))(j:w.cell? ⟨B,1,none⟩=some (.slice A' jq c'))(i:w.cell? ⟨B,2,none⟩=some (.int .i64 y))
  (h:aS w A n c act) (h':aS w A' jq c' l):
  Calls z_ 164 #[.pointer (some ⟨B,0,none⟩)] w λ e w'=>e=.returned (.int .i64 (yo (tR act l y)))/\Below w.heap.size w w':=by
 cases b:va act
 ·have e:tR act l y=false:=by simp[tR,b]
  rw[e];exact I7 B A n c act w f g h b
 ·cases d:wm y
  ·have e:tR act l y=false:=by simp[tR,d]
   rw[e];exact I8 B A n c act y w f g i h b d
  ·have e:tR act l y=tQ act l:=by simp[tR,b,d]
   rw[e];exact I6 B A n c act A' jq c' l y w f g j i h h' b d
theorem Ja(h:aS w A n c act)(h':aS w A' jq c' l):
  Calls z_ 111 #[.agg #[.slice A n c,.slice A' jq c',.int .i64 y]] w λ e w'=>e=.returned (.int .i64 (yo (tR act l y)))/\Below w.heap.size w w':=by
 have H:=aa h;have b:=aa h';clear h h';go_enter Tryz.func111,Tryz.ntmps111
 go_wp2_with fail
 refine(I9 (w.heap.size+1) A n c act A' jq c' l y _ (by simp) (by go_simp) (by go_simp) (by go_simp) ((H.o.alloc _).alloc _) ((b.o.alloc _).alloc _)).mono ?_;rintro e f ⟨rfl,d⟩
 go_wp2_with fail
 go_ret;exact⟨rfl,(((w_ _ _).alloc (x_ _) _).alloc (by simp) _).trans (d.mono (by simp;omega))⟩
end
end
section
open Go.RowKit
def qL(k:Nat):List Int:=(List.range k).map (λ i:Nat=>(i:Int)+1)
theorem wo(k:Nat):(qL k).length=k:=by simp[qL]
theorem Jc(k:Nat):qL (k+1)=qL k++[(k:Int)+1]:=by simp[qL,List.range_succ]
def xF:Value:=.agg #[.slice none 0 0,.slice none 0 0,.int .i64 0]
def rC(k:Nat):List Int:=List.replicate k 0
theorem wq(k:Nat):(rC k).length=k:=by simp[rC]
theorem Jd(k:Nat):(madeCells (v_ .i64 0).cells k).toList=(rC k).map (v_ .i64):=by
 show(madeCells #[v_ .i64 0] k).toList=_;rw[toList_madeCells_one];simp[rC]
theorem Je(n:Int)(w:World)(h:n<0\/65536<n):
  Calls z_ 104 #[.int .i64 n] w λ e w'=>e=.returned (.tuple #[xF,.int .i64 1])/\Below w.heap.size w w':=by
 by_cases h1:n<0
 ·clear h;go_enter Tryz.func104,Tryz.ntmps104
  go_wp2;refine bodyPost_ret (v:=.tuple #[xF,.int .i64 1]) (by simp[results,Tryz.results104,go_sem,xF]) rfl ⟨rfl,?_⟩;exact(w_ _ _).alloc (x_ _) _
 ·have b:65536<n:=by omega
  clear h;go_enter Tryz.func104,Tryz.ntmps104
  go_wp2;refine bodyPost_ret (v:=.tuple #[xF,.int .i64 1]) (by simp[results,Tryz.results104,go_sem,xF]) rfl ⟨rfl,?_⟩;exact(w_ _ _).alloc (x_ _) _
def EL(act l:List Int)(y:Int)(w:World)(e:Ending)(w':World):Prop:=
 ∃(A:Option Addr)(c:Nat)(A':Option Addr)(c':Nat),e=.returned (.tuple #[.agg #[.slice A act.length c,.slice A' l.length c',.int .i64 y],.int .i64 0])/\
  aS w' A act.length c act/\aS w' A' l.length c' l/\(∀b off,A=some ⟨b,off,none⟩->w.heap.size<=b)/\(∀b off,A'=some ⟨b,off,none⟩->w.heap.size<=b)/\Below w.heap.size w w'
theorem aS.nu(h:aS w A n c ah)(v:Value){p:Addr}(d:∀b off,A=some ⟨b,off,none⟩->b≠p.block):aS (w.setCell p v) A n c ah:=by
 refine⟨h.len,h.cap,h.mG,h.od,λ f=>?_⟩;obtain⟨b,off,e,g,i⟩:=h.cells f;exact⟨b,off,e,by simpa[Zb] using g,λ j k=>(Zw (Zu _ _ _ _ (d b off e))).trans (i j k)⟩
theorem Jf{o:Obj}{row:Option Nat}{i:Nat}(b:(w.alloc o).grownBy w1 row)(c:∀g,row=some g->base<=g)(d:i<base)(hs:i<w.heap.size):w1.heap[i]? =w.heap[i]? :=
 (b.block i (by simp;omega) (λ e=>by have:=c i e.symm;omega)).trans (i_ _ _ _ hs)
theorem Jg{iX jK kA v1:Value}(h:w.heap[B]? =some (.cells #[iX,jK,kA] t (0,0))):
  (w.setCell ⟨B,1,none⟩ v1).heap[B]? =some (.cells #[iX,v1,kA] t (0,0)):=by
 simp[Zb,Array.getElem?_modify,h]
theorem Jh(n:Nat)(w:World)(h:n<=65536):
  Calls z_ 104 #[.int .i64 n] w (EL (rC (n+1)) (qL n) 1 w):=by
 obtain⟨i0,d,B,C,D⟩:=info_parts xD;have Q:∀W:World,(Instr.makeSlice 25 (.int .i64 ((n:Int)+1)) (.int .i64 ((n:Int)+1))).run z_ W=.ok (.slice (some ⟨W.heap.size,0,none⟩) (n+1) (n+1)) (W.alloc (.cells (madeCells (v_ .i64 0).cells (n+1)) 3)):=λ W=>by
  have:=run_make (P:=z_) W 25 3 i0 (.int .i64 0) d_ d B .i64 .i64 ((n:Int)+1) ((n:Int)+1) (by omega) (by omega) (by rw[D];omega) (by omega);rw[C,show((n:Int)+1).toNat=n+1 by omega,Nat.mul_one] at this;exact this
 generalize E:madeCells (v_ .i64 0).cells (n+1)=cs at Q;have F:=aa E;clear E;go_enter Tryz.func104,Tryz.ntmps104
 go_wp2_with fail
 go_loopw [18] (λ i wr=>∃(k:Nat)(A:Option Addr)(c:Nat),k<=n/\i=.int .i64 k/\wr.heap[w.heap.size+1+1]? =some (.cells #[.slice (some ⟨w.heap.size+1,0,none⟩) (n+1) (n+1),.slice A k c,.int .i64 1] 44 (0,0))/\
   wr.heap[w.heap.size+1]? =some (.cells cs 3 (0,0))/\wr.heap[w.heap.size]? =some (.cells #[.slice none 0 0,.slice none 0 0,.int .i64 0] 44 (0,0))/\
   wr.ownsRow (w.heap.size+3) 3 1 (.slice A k c) k ((qL k).map (v_ .i64))/\Below w.heap.size w wr/\w.heap.size+1+1<wr.heap.size) (λ i _=>n-(intOf i).toNat)
 case atStart=>
  refine⟨0,none,0,r_ _,rfl,?_,?_,?_,World.ownsRow_nil _ _ _ _,?_,by simp⟩
  ·have e:=Ze ((w.alloc (.cells #[.slice none 0 0,.slice none 0 0,.int .i64 0] 44)).alloc (.cells cs 3)) (.cells #[.slice (some ⟨w.heap.size+1,0,none⟩) (n+1) (n+1),.slice none 0 0,.int .i64 1] 44);simpa using e
  ·have e:=Ze (w.alloc (.cells #[.slice none 0 0,.slice none 0 0,.int .i64 0] 44)) (.cells cs 3);exact(i_ _ _ _ (by simp)).trans (by simpa using e)
  ·exact(i_ _ _ _ (by simp;omega)).trans ((i_ _ _ _ (by simp)).trans (Ze _ _))
  ·exact(((w_ _ _).alloc (x_ _) _).alloc (by simp) _).alloc (by simp;omega) _
 case round=>
  obtain⟨k,A,c,hk,rfl,hH,G,f,j,s,t⟩:=hrel;have R:=aa hH;have H:=aa G;have q:=aa f;have ag:wr.cell? ⟨w.heap.size+1+1,0,none⟩=some (.slice (some ⟨w.heap.size+1,0,none⟩) (n+1) (n+1)):=by simp[p_,hH]
  have I:wr.cell? ⟨w.heap.size+1+1,1,none⟩=some (.slice A k c):=by simp[p_,hH]
  have ah:wr.cell? ⟨w.heap.size+1+1,2,none⟩=some (.int .i64 1):=by simp[p_,hH]
  have J:wr.frozen? ⟨w.heap.size+1+1,1,none⟩=false:=by simp[Zs,hH]
  have l:∀i,i<3->∃u,wr.cell? ⟨w.heap.size,i,none⟩=some u:=λ i d=>by
   match i,d with
   |0,_=>exact⟨_,by simp[p_,f];rfl⟩
   |1,_=>exact⟨_,by simp[p_,f];rfl⟩
   |2,_=>exact⟨_,by simp[p_,f];rfl⟩
  clear hH G f
  by_cases ai:k<n
  ·clear l
   go_wp2_with (at_builtin;refine wpList_append_own_at _ rfl _ _ 25 rfl (w.heap.size+3) 3 i0 (.int .i64 0) 1 8 d_ d B C D rfl (by decide) _ _ _ rfl (j.alloc _) ⟨wr.heap.size,0,none⟩ 1 1 [.int .i64 ((k:Int)+1)] rfl rfl (cell_one_new _ _ _) (by simp[Value.oneCell']) (by unfold maxLen;omega) (by omega) (by simp;omega) ?_;intro v' w1 K y aj ak;obtain⟨S,T,rfl⟩:=CB K;have L:∀g,(Value.slice A k c).ownBlock=some g->w.heap.size+3<=g:=(λ g z=>(AP j z).1);have m:=(λ i (d:i<w.heap.size+3) (hs:i<wr.heap.size)=>Jf y L d hs);have al:w1.cell? ⟨w.heap.size+1+1,1,none⟩=some (.slice A k c):=(Zw (m (w.heap.size+1+1) (by omega) t)).trans I;have an:w1.frozen? ⟨w.heap.size+1+1,1,none⟩=false:=(World.frozen?_of_block (m (w.heap.size+1+1) (by omega) t)).trans J;clear I J)
   have U:=Jg (v1:=.slice (some ⟨S,0,none⟩) (k+1) T) ((m (w.heap.size+1+1) (by omega) t).trans R.o);have ao:wr.heap.size<=w1.heap.size:=by have:=y.size;simp at this;omega
   go_roundw
   case rel=>
    refine⟨k+1,_,_,by omega,by go_num,U,?_,?_,?_,?_,?_⟩
    ·exact(Zu _ _ _ _ (by simp)).trans ((m (w.heap.size+1) (by omega) (by omega)).trans H.o)
    ·exact(Zu _ _ _ _ (by simp;omega)).trans ((m w.heap.size (by omega) (by omega)).trans q.o)
    ·rw[Jc,Zj];exact ownsRow_setCell_below K (by simp) _
    ·exact((s.alloc s.size _).grown y (by simp;omega) (λ g z=>by have:=L g z;omega)).setCell (by simp;omega) _
    ·simp[Zb];omega
   case measure=>simp[intOf];omega
  ·have V:k=n:=by omega
   subst V;obtain⟨aq,X⟩:=l 0 (by omega);obtain⟨ar,Y⟩:=l 1 (by omega);obtain⟨au,Z⟩:=l 2 (by omega);have av:wr.frozen? ⟨w.heap.size,0,none⟩=false:=by simp[Zs,q.o]
   have aw:wr.frozen? ⟨w.heap.size,1,none⟩=false:=by simp[Zs,q.o]
   have ax:wr.frozen? ⟨w.heap.size,2,none⟩=false:=by simp[Zs,q.o]
   clear l;have M:aS wr (some ⟨w.heap.size+1,0,none⟩) (k+1) (k+1) (rC (k+1)):=by
    have ab:(rC (k+1)).map (v_ .i64)=cs.toList:=by rw[<-F.o,Jd]
    have ad:cs.size=k+1:=by rw[<-F.o,size_madeCells]
    exact aS.lG (base:=0) ⟨by simp[wq],Or.inr ⟨_,_,cs,rfl,r_ _,H.o,x_ _,by unfold maxLen;omega,by omega,by rw[ab,o_ (by simp[ad])]⟩⟩ (by omega)
   have N:aS wr A k c (qL k):=aS.lG j (by omega);have O:∀b off,A=some ⟨b,off,none⟩->w.heap.size+3<=b:=λ b off e=>(AP j (g:=b) (by rw[e];rfl)).1
   have ae:=aa M;have af:=aa N;have r:=aa O;clear M N O j
   go_wp2_with fail
   refine bodyPost_ret (v:=.tuple #[.agg #[.slice (some ⟨w.heap.size+1,0,none⟩) (k+1) (k+1),.slice A k c,.int .i64 1],.int .i64 0]) (by simp[results,Tryz.results104,go_sem,X,Y,Z]) rfl ?_;refine⟨_,_,_,_,by rw[wq,wo],?_,?_,λ b off e=>by cases e;omega,λ b off e=>by have:=r.o b off e;omega,((s.setCell (by simp) _).setCell (by simp) _).setCell (by simp) _⟩
   ·rw[wq];exact((ae.o.nu _ (p:=⟨w.heap.size,0,none⟩) λ b off e=>by cases e;simp).nu _ (p:=⟨w.heap.size,1,none⟩) λ b off e=>by cases e;simp).nu _ (p:=⟨w.heap.size,2,none⟩) λ b off e=>by cases e;simp
   ·rw[wo];exact((af.o.nu _ (p:=⟨w.heap.size,0,none⟩) λ b off e=>by have:=r.o b off e;simp;omega).nu _ (p:=⟨w.heap.size,1,none⟩) λ b off e=>by have:=r.o b off e;simp;omega).nu _ (p:=⟨w.heap.size,2,none⟩) λ b off e=>by have:=r.o b off e;simp;omega
end
section
open Go.RowKit
variable {F:Fence}{n:Nat}{P:Program}
def EM{α:Type}(F:Fence)(n:Nat)(P:Program)(g:Nat)(lb:Array Value)(f:α->Array Value)(i:World->World->Prop)(j:List α->α->Prop)(S k:List α->Prop)(w:World):Prop:=
 ∀(l:Nat)(b d:List α->World->Prop)(W:World),Below w.heap.size w W->
  (∀pre x c,b pre c->j pre x->YieldAt F (n-1) P l (f x) c λ e W'=>
   (e=.returned (.bool true)/\b (pre++[x]) W'/\i c W')\/(e=.returned (.bool false)/\d (pre++[x]) W'))->
  b [] W->
  CallsIn F n P g (#[.func (.yield l) #[] #[]]++lb) W λ e W'=>(∃v,e=.returned v)/\((∃xs,S xs/\b xs W')\/(∃pre,k pre/\d pre W'))
def Ji(fn:FuncId)(tmps:Array Value)(b:Array Tmp)(assign body:Code)(D:Nat)(st:LoopState)(c:Option Code):Loop:=
 {state:=st,pending:=c,fn,tmps,params:=b,assign,body,defers:=D}
structure vc(W:World)(D:Nat)(r:Loop):Prop where
 log:W.heap[D+1]? =some (.loop r)
 AW:W.heap[D]? =some (.deferred (some []))
theorem vc.put{W:World}{D:Nat}{r:Loop}(h:vc W D r)(r':Loop):vc (W.putObj (D+1) (.loop r')) D r':=
 ⟨World.putObj_heap_same (h_.1 h.log).1,(u_ (by omega)).trans h.AW⟩
theorem vc.from{W W':World}{D:Nat}{r:Loop}(h:vc W D r)(hk:KeepsFrom D W W'):vc W' D r:=
 ⟨hk.same _ _ (by omega) h.log rfl,hk.same _ _ (x_ _) h.AW rfl⟩
theorem CI{α:Type}{g:Operand}{sP:Array Tmp}{assign body:Code}{Q:Exit->Act->World->Prop}{a:Act}{w:World}
  (ae:F.round=none) (h1:1<=n) {gf:Nat} {lb:Array Value} (af:a.eval g=.func (.func gf) #[] lb) (ag:F.fn gf) (ah:∀args w,(callFunc gf args).run P w=.ok (.enter gf args) w)
  {yp:α->Array Value} {vb:World->World->Prop} {zw:List α->α->Prop} {S AV:List α->Prop} {w0:World} (ai:EM F (n-1) P gf lb yp vb zw S AV w0)
  (L:∀{A B C:World},vb A B->vb B C->vb A C) (U:∀(W:World)(l:Nat)(o aj:Obj),w.heap.size<=l->W.heap[l]? =some o->o.isCells=false->o.isWalk=false->vb W (W.putObj l aj)) (V:Below w0.heap.size w0 w) (ak:∀x,(yp x).size=sP.size)
  (f:List α->World->Prop) (E:Code->List α->World->Prop) (G:OwnFrom w.heap.size f) (H:∀c,OwnFrom w.heap.size (E c)) (al:f [] w) (X:α->World->Act) (j:α->World->World)
  (an:∀(l:Nat)(pre:List α)(x:α)(W:World)(K:Act->World->Prop),f pre W->zw pre x->K (X x W) (j x W)->
   assign.wpIn (F.inRound l) (n-1-1) P (Exit.then K (λ _ _ _=>False)) {tmps:=(sP.zip (yp x)).foldl (λ t (p,v)=>t.setIfInBounds p v) a.tmps,defers:=[]} W)
  (ao:∀(pre:List α)(x:α)(W:World),f pre W->KeepsFrom w.heap.size W (j x W)/\vb W (j x W))
  (aq:∀(l:Nat)(pre:List α)(x:α)(y W:World),f pre y->(∃o Y:Obj,W=(j x y).putObj (w.heap.size+1) o/\o.isCells=false/\(j x y).heap[w.heap.size+1]? =some Y/\Y.isCells=false)->zw pre x->w.heap.size+1<y.heap.size->body.wpIn (F.inRound l) (n-1-1) P (ownPostG w.heap.size vb f E (pre++[x]) W) (X x y) W)
  (ar:∀(D:Nat)(xs:List α)(W:World),w.heap.size<=D->S xs->f xs W->W.heap[D]? =some (.deferred (some []))->Q .normal {a with defers:={target:=.collected D,args:= #[]}::a.defers} W)
  (au:∀(D:Nat)(c:Code)(pre:List α)(W:World),w.heap.size<=D->AV pre->E c pre W->W.heap[D]? =some (.deferred (some []))->c.wpIn F n P Q {a with defers:={target:=.collected D,args:= #[]}::a.defers} W):
  (Code.rangeFunc g sP assign body).wpIn F n P Q a w:=by
 refine wpIn_rangeFunc λ fn av=>?_
 rw[ae];obtain⟨b,k⟩:∃b:LoopState->Option Code->Loop,b=Ji fn a.tmps sP assign body w.heap.size:=⟨_,rfl⟩
 have aw:∀st z,(b st z).params=sP:=λ st z=>by rw[k];rfl
 have M:∀st z,(b st z).state=st:=λ st z=>by rw[k];rfl
 obtain⟨m,I⟩:∃m,(w.alloc (.deferred (some []))).alloc (.loop (b .ready none))=m:=⟨_,rfl⟩
 have ax:vc m w.heap.size (b .ready none):=by
  rw[<-I];refine⟨?_,(i_ _ _ _ (by simp)).trans (Zx w _)⟩;have:=Zx (w.alloc (.deferred (some []))) (.loop (b .ready none))
  rwa[World.size_alloc] at this
 refine⟨w.heap.size+1,[{target:=.collected w.heap.size,args:= #[]}],m,{target:=.fn (.func gf) lb,args:= #[.func (.yield (w.heap.size+1)) #[] #[]]},m,gf,
  #[.func (.yield (w.heap.size+1)) #[] #[]]++lb,m,by rw[<-I,k];exact run_enterLoop_outer _ _ _ _ _,by simp only[resolve,af];simp[go_sem],λ aE Z=>by simp[Target.leads] at Z;subst Z;exact ag,by simp[invoke,go_sem,ah],λ _=>h1,?_⟩
 refine(ai (w.heap.size+1) (λ pre W=>f pre W/\vc W w.heap.size (b .ready none)) (λ pre W=>∃c,E c pre W/\vc W w.heap.size (b .done (some c))) m (by
  rw[<-I];exact V.trans ((((w_ _ w).alloc (x_ _) _).alloc (by simp) _).mono V.size)) ?_ ⟨by rw[<-I];exact G.alloc _ (G.alloc _ al),ax⟩).mono ?_
 ·rintro pre x W ⟨q,N⟩ aa;have ab:=run_yield (P:=P) (args:=yp x) N.log (by rw[aw];exact ak x);rw[k] at ab;refine⟨fn,_,assign,body,ab,roundIn_of_wpIn av ?_⟩;have ad:=ao pre x W q;have J:=N.from ad.1
  refine an _ pre x W _ q aa ⟨_,run_beginRound J.log (by rw[M]),?_⟩;have ay:=J.put {b .ready none with state:=.busy};refine wpIn_mono (aq _ pre x W _ q ⟨_,_,rfl,rfl,J.log,rfl⟩ aa (h_.1 N.log).1) ?_;have az:vb W ((j x W).putObj (w.heap.size+1) (.loop {b .ready none with state:=.busy})):=L ad.2 (U _ _ _ _ (by omega) J.log rfl rfl);have fin:∀(jump:Option Code)(d:World),KeepsFrom w.heap.size ((j x W).putObj (w.heap.size+1) (.loop {b .ready none with state:=.busy})) d->
    ∃O,O=d.putObj (w.heap.size+1) (.loop (b (if jump.isNone then .ready else .done) jump))/\(Instr.endRound (w.heap.size+1) jump).run P d=.ok (.bool jump.isNone) O/\
    d.heap[w.heap.size+1]? =some (.loop {b .ready none with state:=.busy})/\vc O w.heap.size (b (if jump.isNone then .ready else .done) jump):=λ jump d R=>by
   have T:=ay.from R
   refine⟨_,rfl,?_,T.log,T.put _⟩;have:=run_endRound (P:=P) jump T.log;rw[k] at this⊢;exact this
  rintro e a3 d hp
  cases e with
  |normal=>
   obtain⟨R,aA,aB⟩:=hp;obtain⟨_,rfl,r,i,s⟩:=fin none d R;exact⟨_,_,r,.inl ⟨rfl,⟨G.putObj _ aB (by omega) i rfl,s⟩,L (L az aA) (U _ _ _ _ (by omega) i rfl rfl)⟩⟩
  |ret=>
   obtain⟨_,rfl,r,i,s⟩:=fin (some .ret) d hp.1;exact⟨_,_,r,.inr ⟨rfl,_,(H _).putObj _ hp.2 (by omega) i rfl,s⟩⟩
  |exit id=>
   obtain⟨_,rfl,r,i,s⟩:=fin (some (.exit id)) d hp.1;exact⟨_,_,r,.inr ⟨rfl,_,(H _).putObj _ hp.2 (by omega) i rfl,s⟩⟩
  |goto t=>
   obtain⟨_,rfl,r,i,s⟩:=fin (some (.goto t)) d hp.1;exact⟨_,_,r,.inr ⟨rfl,_,(H _).putObj _ hp.2 (by omega) i rfl,s⟩⟩
  |panic aF=>exact hp.elim
  |outgrown=>exact hp.elim
 ·rintro e aG ⟨⟨v,rfl⟩,(⟨xs,aC,q,u⟩|⟨pre,aD,c,q,u⟩)⟩
  ·exact⟨none,_,by have:=run_endLoop (P:=P) u.log (by rw[M];simp);rw[k] at this;exact this,ar _ xs _ (x_ _) aC (G.putObj _ q (by omega) u.log rfl) ((u_ (by omega)).trans u.AW)⟩
  ·exact⟨some c,_,by have:=run_endLoop (P:=P) u.log (by rw[M];simp);rw[k] at this;exact this,au _ c pre _ (x_ _) aD ((H c).putObj _ q (by omega) u.log rfl) ((u_ (by omega)).trans u.AW)⟩
def zx(ops:List Oper):Bool:=ops.all λ o=>match o.op with| .defer _=>false|_=>true
theorem Jj{ops:List Oper}(h:zx ops=true){i:Nat}{o:Oper}(b:ops.toArray[i]? =some o):∀c,o.op≠ .defer c:=by
 intro c e;have hm:o∈ops:=by
  rw[Zg] at b;exact List.mem_of_getElem? b
 have:=List.all_eq_true.1 h o hm;rw[e] at this
 cases this
theorem Jk{o:Oper}(g:∀c,o.op≠ .defer c){l:Nat}{a:Act}{w:World}{next:Act->World->Prop}{Q:Exit->Act->World->Prop}(i:¬LetsOut Q)(h:o.wp P a w next Q):o.wpIn (k_.inRound l) n P a w next Q:=by
 unfold Oper.wp at h;unfold Oper.wpIn;refine⟨λ _ _=>trivial,?_⟩;rw[Oper.semAt_eq _ _ _ g];generalize (execOp a.eval o).run P w=r at*
 cases r with
 |ok x w'=>
  cases x with
  |enter f args=>exact⟨λ h=>by simp[Fence.inRound,k_] at h,(callsIn_wide (n:=n-1)).2 (Calls.mono h λ e j he=>by cases e<;>exact he)⟩
  |row r args=>exact⟨λ h=>by simp[Fence.inRound,k_] at h,λ c cs _=>let ⟨v,w',r,s⟩:=h c cs;⟨v,w',r,stepsIn_wide.2 s⟩⟩
  |round l f t s b=>exact h.elim
  |value v=>exact h
  |skip=>exact h
  |defer d=>exact h
  |_=>exact h.elim
 |halt x w'=>cases x<;>exact h
theorem zy{ops:List Oper}{l:Nat}{Q:Exit->Act->World->Prop}(c:zx ops=true)(b:¬LetsOut Q):∀(L:List Nat)(a:Act)(w:World),wpOps P ops.toArray Q L a w->wpOpsIn (k_.inRound l) n P ops.toArray Q L a w
 |[],a,w,h=>h
 |i::rest,a,w,h=>by
  simp only[wpOps] at h;simp only[wpOpsIn]
  cases d:ops.toArray[i]? with
  |none=>rw[d] at h;exact zy c b rest a w h
  |some o=>
   rw[d] at h;dsimp only at h⊢;split at h
   ·rename_i hw;rw[if_pos hw];rcases h with h|h
    ·exact Oper.wpIn_mono (λ a w h=>zy c b rest a w h) (Jk (Jj c d) b h)
    ·exact absurd h.2 b
   ·rename_i hw;rw[if_neg hw];exact⟨λ _ _=>trivial,zy c b rest _ w h⟩
theorem Jl{id:Nat}{ops:List Oper}{l:Nat}{Q:Exit->Act->World->Prop}{a:Act}{w:World}(hm:P.follows .mixedOrders=true)(b:zx ops=true)(c:¬LetsOut Q)
  (h:wpAny P .any ops.toArray Q ops.toArray.size (Zi ops.toArray.size false) a {w with drawn:=w.drawn+1}):(Zh id ops.toArray true).wpIn (k_.inRound l) n P Q a w:=
 wpIn_region_draw λ t=>by
  simp only[Region.schedule,hm,Bool.true_or,if_true];exact zy b c _ _ _ (wpAny_sound ops.toArray.size t _ a _ h)
theorem CJ{id:Nat}{l:Nat}{Q:Exit->Act->World->Prop}{a:Act}{w:World}{ops:List Oper}(m:Nat)(hm:P.follows .mixedOrders=true)(o:zx ops=true)(p:¬LetsOut Q)(d:Region.lexTailB .any ops.toArray m=true)
  (h:wpStill P ops.toArray {w with drawn:=w.drawn+1} (λ c=>wpList P ops.toArray Q (ops.drop m) c {w with drawn:=w.drawn+1}) (ops.take m) a):(Zh id ops.toArray true).wpIn (k_.inRound l) n P Q a w:=by
 simp only[Region.lexTailB,Zz,decide_eq_true_eq] at d;obtain⟨⟨⟨⟨h1,e⟩,q⟩,r⟩,f⟩:=d;have y:m<ops.length:=by simpa using e
 have b:(ops.take m).length=m:=by simp;omega
 have s:m+(ops.drop m).length=ops.toArray.size:=by simp;omega
 have u:ops.toArray.size-m=(ops.drop m).length:=by simp
 rw[u] at f;have H:=wpAnyL_lex (md:=.any) (g:=(ops.drop m).length) h1 q r e (ops.take m) 0 _ a (λ j i=>by rw[b] at i;simp[i]) (by simpa using b)
  (show HeadInv .any ops.toArray m (Zi ops.toArray.size false) from⟨by simp,λ j z _ hl=>(by rw[getD_replicate_false] at hl;cases hl),λ t _ v=>getD_in (by simpa using v) (getD_replicate_false _ _)⟩) (by rw[b];exact f) h
 refine Jl hm o p ?_;have K:=wpAny_of_head (Q':=Q) (g:=(ops.drop m).length) (λ listed c k=>wpAny_of_seq (md:=.any) (Q':=Q) (ops.drop m) m listed c _ (λ j=>by simp[List.getElem?_drop]) k.1 k.2) _ _ _ H;rw[b,s] at K;exact K
def oD(D:Nat):Deferred:={target:=.collected D,args:= #[]}
structure Shut(ds:List Nat)(W W':World):Prop where
 os:W'.os=W.os
 tape:W'.tape=W.tape
 output:W'.output=W.output
 size:W'.heap.size=W.heap.size
 block:∀k,k∉ds->W'.heap[k]? =W.heap[k]?
theorem Shut.below{ds:List Nat}{W W' w:World}{CK:Nat}(h:Shut ds W W')(b:Below CK w W)(c:∀D∈ds,CK<=D):Below CK w W':=
 ⟨h.os.trans b.os,h.tape.trans b.tape,h.output.trans b.output,by rw[h.size];exact b.size,λ k hk=>(h.block k (λ hm=>by have:=c k hm;omega)).trans (b.block k hk)⟩
theorem Shut.cell{ds:List Nat}{W W':World}(h:Shut ds W W'){p:Addr}(hp:p.block∉ds):W'.cell? p=W.cell? p:=Zw (w:=W) (h.block p.block hp)
theorem EN{F:Fence}{n:Nat}{P:Program}{fn:Func}{tmps:Array Value}{aK:Ending->World->Prop}{u:FrameMode}(hu:u≠ .run):∀(ds:List Nat)(W:World),ds.Nodup->(∀D∈ds,W.heap[D]? =some (.deferred (some [])))->
  (∀W',Shut ds W W'->LeavesIn F n P fn tmps aK [] u W')->LeavesInM F n P fn tmps aK (ds.map oD) u W
 |[],W,_,_,h=>h W ⟨rfl,rfl,rfl,rfl,λ _ _=>rfl⟩
 |D::ds,W,f,b,h=>by
  have c:=List.nodup_cons.1 f;refine⟨hu,.inl ⟨D,_,rfl,run_takeDeferred (b D (by simp)),EN hu ds _ c.2 (λ E d=>?_) (λ W' hs=>h W' ?_)⟩⟩
  ·rw[u_ (by intro e;subst e;exact c.1 d)];exact b E (by simp[d])
  ·refine⟨hs.os,hs.tape,hs.output,hs.size.trans (by simp[World.putObj]),λ k hk=>?_⟩;simp only[Zc,not_or] at hk;rw[hs.block k hk.2,u_ (by intro e;exact hk.1 e)]
theorem CL{f:FuncId}{fn:Func}{c:Code}{args:Array Value}{w:World}{aK:Ending->World->Prop}(b:P.funcs[f]? =some fn)(d:fn.body=some c)
  (h:c.wp P (bodyPostM k_ 6 P fn aK) {tmps:=args++Zi (fn.ntmps-args.size) undef,defers:=[]} w):Calls P f args w aK:=
 (callsIn_wide (n:=6)).1 (callsIn_of_wp_marks b d trivial (wpIn_wide.2 h) rfl)
theorem Jm{fn:Func}{aK:Ending->World->Prop}{a:Act}{w:World}{v:Value}(b:(results fn a.tmps).run P w=.ok v w)(c:a.defers=[])(d:aK (.returned v) w):bodyPostM k_ 6 P fn aK .ret a w:=by
 show LeavesInM _ _ _ _ _ _ a.defers _ _;rw[c];exact⟨v,b,d⟩
theorem CM{fn:Func}{aK:Ending->World->Prop}{a:Act}{w:World}(ds:List Nat)(b:a.defers=ds.map oD)(c:ds.Nodup)(d:∀D∈ds,w.heap[D]? =some (.deferred (some [])))
  (h:∀W',Shut ds w W'->∃v,(results fn a.tmps).run P W'=.ok v W'/\aK (.returned v) W'):bodyPostM k_ 6 P fn aK .ret a w:=by
 show LeavesInM _ _ _ _ _ _ a.defers _ _;rw[b];exact EN (by simp) ds _ c d h
theorem EO{F:Fence}{n:Nat}{P:Program}{fn:Func}{tmps:Array Value}{aK:Ending->World->Prop}{u:FrameMode}(hu:u≠ .run)(rest:List Deferred):∀(ds:List Nat)(W:World),ds.Nodup->(∀D∈ds,W.heap[D]? =some (.deferred (some [])))->
  (∀W',Shut ds W W'->LeavesInM F n P fn tmps aK rest u W')->LeavesInM F n P fn tmps aK (ds.map oD++rest) u W
 |[],W,_,_,h=>h W ⟨rfl,rfl,rfl,rfl,λ _ _=>rfl⟩
 |D::ds,W,f,b,h=>by
  have c:=List.nodup_cons.1 f;refine⟨hu,.inl ⟨D,_,rfl,run_takeDeferred (b D (by simp)),EO hu rest ds _ c.2 (λ E d=>?_) (λ W' hs=>h W' ?_)⟩⟩
  ·rw[u_ (by intro e;subst e;exact c.1 d)];exact b E (by simp[d])
  ·refine⟨hs.os,hs.tape,hs.output,hs.size.trans (by simp[World.putObj]),λ k hk=>?_⟩;simp only[Zc,not_or] at hk;rw[hs.block k hk.2,u_ (by intro e;exact hk.1 e)]
theorem Jn{n:Nat}{P:Program}{id:Nat}{l:Nat}{Q:Exit->Act->World->Prop}{a:Act}{w:World}{ops:List Oper}(b:zx ops=true)(c:¬LetsOut Q)(h:wpList P ops.toArray Q ops a w):(Zh id ops.toArray false).wpIn (k_.inRound l) n P Q a w:=by
 refine wpIn_region (zy b c _ a w ?_);rw[List.range_eq_range',<-Array.length_toList,wpOps_eq_wpList _ 0 (by simp)];simpa using h
end
end Go.Proofs.YtogdlkfacflmaaaGreat
