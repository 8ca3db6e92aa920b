/- Parts of the walk of the solver and its core; no condition. -/
import Derived.Test.YtogdlkfacflmaaaGreatProg
import Derived.WalkKit
import Derived.WalkSpells
import Derived.WalkLawsBesides
import Derived.Lib.Hide
import Derived.Below
import Derived.Laws.OwnMore
import Derived.Calls
import Derived.Deep.Quiet
import Derived.Deep.QuietTactic
import Derived.BigQuiet
import Derived.Shelf.Abstract
import Derived.StillTailTactics
import Derived.Maps.OwnOps
import Derived.Maps.OwnSet
import Derived.Maps.Views
import Derived.RangeFuncBox
import Derived.IntWalk
import Derived.OwnWalkIn
import Derived.LoadGo3
import Derived.Lib.OwnBridge
import Derived.Lib.AppendIntMem
import Derived.Deep.RegionLaw
import Derived.Deep.RegionHeld3
import Derived.Deep.CutBlock
import Derived.Deep.DeepCutAuto
import Derived.Laws.MakeOwn
import Derived.Maps.AppendAt
import Derived.RegionTactic
import Derived.BigRegion
import Derived.RangeFuncNested
import Derived.RangeFuncBound
import Derived.RangeFuncCalls
import Derived.RangeFuncLeaves
import Derived.OrdersIn
import Derived.Test.YtogdlkfacflmaaaGreatRows
namespace Go.Proofs.YtogdlkfacflmaaaGreat
set_option linter.unusedVariables false
set_option linter.unusedSimpArgs false
set_option maxRecDepth 100000
set_option maxHeartbeats 2000000
open _root_.Go.Proofs.Tryz renaming prog→z_,underlying25→Zm,underlying3→Zh,underlying4→ZX
open _root_.List renaming getD_eq_getElem?_getD→y_,getElem?_eq_getElem→x_,getElem_mem→s_,take_of_length_le→p_,mem_singleton→n_,mem_append→m_,mem_iff_getElem→l_,take_append_of_le_length→k_,length_take→j_,length_append→g_,map_cons→f_,getElem?_map→d_,mem_cons→Zx,eq_nil_of_length_eq_zero→Zu,getElem?_eq_some_iff→Zp,getElem?_append_left→Zo,getElem?_take_of_lt→Zn,getElem?_set→Zl,take_succ_eq_append_getElem→Zi,any_eq_true→Zg,take_length→Ze,mem_map→Zc,map_append→Z0,take_take→Z5,getElem?_take→Z8,nodup_append→ZZ,getElem_drop→ZY,map_toArray→ZW,map_nil→ZV,getElem_inj→ZU,length_drop→ZT,not_all_eq_any_not→ZS,any_append→ZP,length_set→ZO,nodup_cons→ZM,getElem?_toArray→ZK,getElem?_eq_none→ZJ,length_singleton→ZI
open _root_.Nat renaming le_refl→w_,zero_le→r_,lt_of_lt_of_le→i_,lt_or_ge→a_,add_zero→Z3,eq_zero_or_pos→Z7
open _root_.Go.RowKit.Below renaming refl→v_,heap_setCell→Zw,heap_alloc→Zr
open _root_.Go.Value renaming int→u_
open _root_.Go.World renaming putObj_heap_other→t_,cell?→q_,alloc_heap_new→Zt,frozen?→Zj,cell?_of_block→Z4,setCell→Z9
open _root_.Array renaming getElem?_eq_some_iff→o_,getElem?_eq_none→Zv,getElem?_toList→Zd,replicate→ZN
open _root_.Or renaming inl→h_,inr→c_
open _root_.Go.Value.slice renaming injEq→e_
open _root_.Go.Fence renaming wide→b_
open _root_.Go.Builtin renaming append_→Zq,firstCells→ZF
open _root_.Go renaming rounds_succ→Zk,heap_alloc_new→Z6,wp_loop_rounds→ZH
open _root_.Bool renaming and_eq_true→Zf
open _root_.Go.Result renaming andThen_ok→Z_
open _root_.Int renaming eq_ofNat_of_zero_le→ZR
open _root_.Go.Ending renaming returned→ZQ
open _root_.Go.Code renaming region→ZL
open _root_.Go.Region renaming wanted→ZG
open _root_.Go.World.grownBy renaming refl→ZE
open _root_.Go.Sem renaming run_bind→ZD,run_pure→ZC
variable{p:List Int->Bool}{ah l S act:List Int}{k n c base m B size g i:Nat}{w' W:World}{A:Option Addr}{a:Act}{x y:Int}{ls:List (List Int)}{P:Program}{Q:Exit->Act->World->Prop}{e t:TypeId}{xs cs:List Value}{row:Option Nat}{u:Value}{ops:Array Oper}{rest:List Oper}{gq:List Bool}{l5 α:Type}
section
def bF(p:Prop):Prop:=p
theorem bF.o{p:Prop}(h:bF p):p:=h
theorem U{p:Prop}(h:p):bF p:=h
end
section
open Go.RowKit Go.Shelf
def jv(b:List Int)(k:Nat):Int:=b.getD k 0
theorem pW(h:k<ah.length):jv ah k=ah[k]:=by simp[jv,y_,x_ h]
theorem tK(b:List Int)(k:Nat)(h:k<b.length):b.take (k+1)=b.take k++[jv b k]:=by
 rw[Zi h,pW h]
structure aN(w:World)(A:Option Addr)(n c:Nat)(ah:List Int):Prop where
 len:ah.length=n
 cap:n<=c
 mP:n*8<=140737488355328
 oo:c<=maxLen
 cells:0<n->∃b off,A=some ⟨b,off,none⟩/\b<w.heap.size/\∀j,j<n->w.cell? ⟨b,off+j,none⟩=some (.int .i64 (jv ah j))
theorem aN.below{w:World}(h:aN w A n c ah)(d:Below w.heap.size w w'):aN w' A n c ah:=
 ⟨h.len,h.cap,h.mP,h.oo,λ f=>by
  obtain⟨b,off,rfl,e,g⟩:=h.cells f;exact⟨b,off,rfl,i_ e d.size,λ j i=>(d.cell (p:=⟨b,off+j,none⟩) e).trans (g j i)⟩⟩
theorem aN.nil(w:World)(A:Option Addr)(c:Nat)(b:c<=maxLen):aN w A 0 c []:=⟨rfl,r_ _,by omega,b,λ h=>absurd h (by omega)⟩
theorem aN.drew{w:World}{A:Option Addr}{n c:Nat}{ah:List Int}(h:aN w A n c ah):aN w.drew A n c ah:=h.below ((v_ _ _).drew)
theorem aN.alloc{w:World}{A:Option Addr}{n c:Nat}{ah:List Int}(h:aN w A n c ah)(o:Obj):aN (w.alloc o) A n c ah:=h.below ((v_ _ _).alloc (w_ _) _)
theorem aN.small{w:World}(h:aN w A n c ah):n<=17592186044416:=by have:=h.mP;omega
theorem I9{w1:World}(c:Below W.heap.size W w1):(∀b o,b<W.heap.size->w1.cell? ⟨b,o,none⟩=W.cell? ⟨b,o,none⟩)/\(∀b o,b<W.heap.size->w1.frozen? ⟨b,o,none⟩=W.frozen? ⟨b,o,none⟩):=
 ⟨λ b o h=>c.cell (p:=⟨b,o,none⟩) h,λ b o h=>c.frozen (p:=⟨b,o,none⟩) h⟩
theorem lS{a b:Bool}(h:a=b):ZQ (.bool a)=.returned (.bool b):=by rw[h]
theorem qH{k:IntKind}{a b:Int}(h:a=b):ZQ (.int k a)=.returned (.int k b):=by rw[h]
theorem aN.lq{w:World}(h:w.ownsRow base 3 1 (.slice A n c) n (ah.map (u_ .i64)))(f:n*8<=140737488355328):aN w A n c ah:=by
 obtain⟨h1,l⟩:=h;have hl:ah.length=n:=by simpa using h1
 rcases l with⟨b,i⟩|⟨g,cap,cur,b,s,d,m,o,t,p⟩
 ·simp only[e_] at b;obtain⟨rfl,_,rfl⟩:=b;subst i;exact⟨hl,w_ _,f,r_ _,λ h=>absurd h (by omega)⟩
 ·simp only[e_] at b;obtain⟨rfl,_,rfl⟩:=b;refine⟨hl,m,f,o,λ i=>⟨g,0,rfl,?_,λ j u=>?_⟩⟩
  ·rcases a_ g w.heap.size with q|r
   ·exact q
   ·rw[Zv r] at d;cases d
  ·have v:j<cur.size:=by omega
   have e:cur[j]? =some (.int .i64 (jv ah j)):=by
    have k:(cur.toList.take (n*1))[j]? =(ah.map (u_ .i64))[j]? :=by rw[p]
    rw[Zn (by omega),d_,x_ (by omega:j<ah.length)] at k;rw[<-Zd,k,pW (by omega)];rfl
   simp[q_,d,e]
def hasB(b:List Int)(x:Int):Bool:=b.contains x
theorem oQ:hasB ah x=true↔x∈ah:=by simp[hasB]
theorem yz(b:List Int)(x y:Int):hasB (b++[y]) x=(hasB b x||(y==x)):=by
 rw[Bool.eq_iff_iff,oQ,Bool.or_eq_true,oQ,beq_iff_eq,m_,n_];exact⟨λ h=>h.imp id Eq.symm,λ h=>h.imp id Eq.symm⟩
theorem E6(h:k<ah.length)(e:(jv ah k==x)=true):hasB ah x=true:=by
 rw[oQ];rw[pW h] at e;have:ah[k]=x:=by simpa using e
 rw[<-this];exact s_ h
theorem E7(h:k<ah.length)(e:(jv ah k==x)=false)(b:hasB (ah.take k) x=false):hasB (ah.take (k+1)) x=false:=by
 rw[tK ah k h,yz,b,e];rfl
theorem E8(hl:ah.length=n)(h:¬k<n)(b:hasB (ah.take k) x=false):hasB ah x=false:=by
 rw[p_ (by omega)] at b;exact b
def oR(ls:List (List Int))(k:Nat):List Int:=ls.getD k []
theorem vN(h:k<ls.length):oR ls k=ls[k]:=by simp[oR,y_,x_ h]
theorem CS(ls:List (List Int))(k:Nat)(h:k<ls.length):ls.take (k+1)=ls.take k++[oR ls k]:=by
 rw[Zi h,vN h]
theorem zI(h:k<ls.length):oR ls k∈ls:=by rw[vN h];exact s_ h
theorem vO(h:k<ah.length):jv ah k∈ah:=by rw[pW h];exact s_ h
structure mc(w:World)(A:Option Addr)(n c:Nat)(ls:List (List Int)):Prop where
 len:ls.length=n
 cap:n<=c
 mP:n*24<=140737488355328
 oo:c<=maxLen
 cells:0<n->∃b off,A=some ⟨b,off,none⟩/\b<w.heap.size/\∀j,j<n->∃A' ig c',w.cell? ⟨b,off+j,none⟩=some (.slice A' ig c')/\aN w A' ig c' (oR ls j)
theorem mc.below{w w':World}{A:Option Addr}{n c:Nat}{ls:List (List Int)}(h:mc w A n c ls)(d:Below w.heap.size w w'):mc w' A n c ls:=
 ⟨h.len,h.cap,h.mP,h.oo,λ f=>by
  obtain⟨b,off,rfl,e,g⟩:=h.cells f;refine⟨b,off,rfl,i_ e d.size,λ j i=>?_⟩;obtain⟨A',k,c',h1,l⟩:=g j i;exact⟨A',k,c',(d.cell (p:=⟨b,off+j,none⟩) e).trans h1,l.below d⟩⟩
theorem mc.nil(w:World)(A:Option Addr)(c:Nat)(b:c<=maxLen):mc w A 0 c []:=⟨rfl,r_ _,by omega,b,λ h=>absurd h (by omega)⟩
theorem mc.small{w:World}(h:mc w A n c ls):n<=5864062014806:=by have:=h.mP;omega
structure oD(w:World) where
 val:World
 ok:Below w.heap.size w val
instance (w:World):Nonempty (oD w):=⟨⟨w,v_ _ _⟩⟩
theorem A9{id:Nat}{w:World}{l:List Oper}(hm:P.follows .mixedOrders=true)(b:Region.lexB .any l.toArray=true)
  (h:wpQuiet P l.toArray (λ w'=>∃u:oD w,w'=u.val) (λ c=>∀w',(∃u:oD w,w'=u.val)->Q .normal c w') l a):(ZL id l.toArray true).wp P Q a w:=
 wp_region_quiet (C:=λ w'=>∃u:oD w,w'=u.val) hm b ⟨⟨w.drew,(v_ _ _).drew⟩,rfl⟩ (by simpa using h)
theorem oD.call{f:FuncId}{args:Array Value}{w:World}{v:Value}(u:oD w)(h:Calls P f args u.val λ e w'=>e=.returned v/\Below u.val.heap.size u.val w'):
  Calls P f args u.val λ e w'=>e=.returned v/\∃b:oD w,w'=b.val:=
 h.mono λ _ w' ⟨he,c⟩=>⟨he,⟨w',u.ok.trans (c.mono u.ok.size)⟩,rfl⟩
theorem oD.cell{w:World}{p:Addr}{v:Value}(u:oD w)(hp:p.block<w.heap.size)(h:w.cell? p=some v):u.val.cell? p=some v:=(u.ok.cell hp).trans h
theorem oD.o{w:World}(h:∃u:oD w,w'=u.val):Below w.heap.size w w':=by
 obtain⟨u,rfl⟩:=h;exact u.ok
theorem Ja(A:Option Addr)(n c:Nat)(f:List Int)(x:Int)(w:World)(h:aN w A n c f):
  Calls z_ 101 #[.slice A n c,.int .i64 x] w λ e w'=>e=.returned (.bool (hasB f x))/\w=w':=by
 have m:=h.small;have H:=U h;clear h;go_enter Tryz.func101,Tryz.ntmps101
 go_wp2
 go_loop [5] (λ i=>∃k:Nat,k<=n/\i=.int .i64 k/\hasB (f.take k) x=false) (λ i=>n-(intOf i).toNat)
 case atStart=>exact⟨0,r_ _,rfl,rfl⟩
 case round=>
  obtain⟨k,hk,rfl,g⟩:=hrel;have j:=U g;clear g
  by_cases d:k<n
  ·obtain⟨b,off,rfl,p,l⟩:=H.o.cells (by omega);have q:=l k d;clear l;go_wp2
   ·go_ret;exact⟨lS (E6 (by rw[H.o.len];exact d) (by assumption)).symm,rfl⟩
   ·go_round
    case rel=>exact⟨k+1,by omega,by go_num,E7 (by rw[H.o.len];exact d) (by assumption) j.o⟩
    case measure=>simp[intOf];omega
  ·go_wp2;go_ret;exact⟨lS (E8 H.o.len d j.o).symm,rfl⟩
def oE(x y:Int):Int:=if x<y then-1 else if y<x then 1 else 0
theorem Ba(x:Int)(w:World):Calls z_ 196 #[.int .i64 x] w λ e w'=>e=.returned (.bool false)/\w=w':=by
 go_enter Tryz.func196,Tryz.ntmps196
 go_wp2;go_ret;exact⟨lS (by simp),rfl⟩
theorem zJ(x y:Int)(w:World):Calls z_ 160 #[.int .i64 x,.int .i64 y] w λ e w'=>e=.returned (.int .i64 (oE x y))/\w=w':=by
 by_cases h1:x<y
 ·go_enter Tryz.func160,Tryz.ntmps160
  go_wp2_with (go_at_call 196;refine(Ba _ _).mono ?_;rintro e w' ⟨rfl,rfl⟩)
  go_ret;exact⟨qH (by simp[oE,h1]),rfl⟩
 ·by_cases b:y<x
  all_goals
   go_enter Tryz.func160,Tryz.ntmps160
   go_wp2_with (go_at_call 196;refine(Ba _ _).mono ?_;rintro e w' ⟨rfl,rfl⟩)
   go_ret;exact⟨qH (by unfold oE;split<;>(try split)<;>omega),rfl⟩
def sg(x y:Int):Int:=if x=0 then y else x
theorem Bb(g:Nat)(x y:Int)(w:World)(k:w.cell? ⟨g,0,none⟩=some (.int .i64 x))(h1:w.cell? ⟨g,1,none⟩=some (.int .i64 y)):
  Calls z_ 159 #[.slice (some ⟨g,0,none⟩) 2 2] w λ e w'=>e=.returned (.int .i64 (sg x y))/\w=w':=by
 by_cases b:x=0
 ·have f:(x !=0)=false:=by simp[b]
  have d:=U b;clear b
  by_cases c:y=0
  ·have i:(y !=0)=false:=by simp[c]
   have j:=U c;clear c;go_enter Tryz.func159,Tryz.ntmps159
   go_wp2;refine ZH 3 ?_;rw[Zk];go_wp2;rw[Zk];go_wp2;rw[Zk];go_wp2;go_ret;exact⟨qH (by rw[sg,if_pos d.o,j.o]),rfl⟩
  ·have i:(y !=0)=true:=by simpa using c
   clear c;go_enter Tryz.func159,Tryz.ntmps159
   go_wp2;refine ZH 2 ?_;rw[Zk];go_wp2;rw[Zk];go_wp2;go_ret;exact⟨qH (by rw[sg,if_pos d.o]),rfl⟩
 ·have f:(x !=0)=true:=by simpa using b
  have d:=U b;clear b;go_enter Tryz.func159,Tryz.ntmps159
  go_wp2;refine ZH 1 ?_;rw[Zk];go_wp2;go_ret;exact⟨qH (by rw[sg,if_neg d.o]),rfl⟩
def lz(x n:Int):Bool:=decide (x≠0)&&decide (-n<=x)&&decide (x<=n)
theorem s8{n:Int}:lz x n=true↔x≠0/\ -n<=x/\x<=n:=by simp[lz,and_assoc]
theorem Jb{n:Int}(b:0<=n)(h1:n<=65536):wrap64 (-n)= -n:=by unfold wrap64;omega
theorem Jc{n:Int}(b:0<=n)(h1:n<=65536):wrap64 (0-n)= -n:=by unfold wrap64;omega
theorem Jd(x n:Int)(w:World)(d:0<=n)(h1:n<=65536):Calls z_ 115 #[.int .i64 x,.int .i64 n] w λ e w'=>e=.returned (.bool (lz x n))/\w=w':=by
 have hw:=Jc d h1
 by_cases b:x=0
 ·have f:(x !=0)=false:=by simp[b]
  have c:=U b;clear b;go_enter Tryz.func115,Tryz.ntmps115
  go_wp2;go_ret;exact⟨lS (by simp[lz,c.o]),rfl⟩
 ·have f:(x !=0)=true:=by simpa using b
  have c:=U b;clear b
  by_cases g: -n<=x
  ·by_cases i:x<=n
   all_goals
    go_enter Tryz.func115,Tryz.ntmps115
    go_wp2;go_ret;exact⟨lS (by simp[lz,c.o,g,i]),rfl⟩
  ·go_enter Tryz.func115,Tryz.ntmps115
   go_wp2;go_ret;exact⟨lS (by rw[lz,decide_eq_false (show¬-n<=x by omega),Bool.and_false,Bool.false_and]),rfl⟩
theorem CT(x n:Int)(w:World)(d:0<=n)(h1:n<=65536):Calls z_ 163 #[.int .i64 x,.int .i64 n] w λ e w'=>e=.returned (.bool (lz x n))/\w=w':=by
 have hw:=Jb d h1
 by_cases b:x=0
 ·have f:(x !=0)=false:=by simp[b]
  have c:=U b;clear b;go_enter Tryz.func163,Tryz.ntmps163
  go_wp2;go_ret;exact⟨lS (by simp[lz,c.o]),rfl⟩
 ·have f:(x !=0)=true:=by simpa using b
  have c:=U b;clear b
  by_cases g: -n<=x
  ·by_cases i:x<=n
   all_goals
    go_enter Tryz.func163,Tryz.ntmps163
    go_wp2;go_ret;exact⟨lS (by simp[lz,c.o,g,i]),rfl⟩
  ·go_enter Tryz.func163,Tryz.ntmps163
   go_wp2;go_ret;exact⟨lS (by rw[lz,decide_eq_false (show¬-n<=x by omega),Bool.and_false,Bool.false_and]),rfl⟩
def qV(x:Int):Int:=if x<0 then-x else x
theorem Fa(x:Int)(w:World)(b: -65536<=x)(h1:x<=65536):Calls z_ 168 #[.int .i64 x] w λ e w'=>e=.returned (.int .i64 (qV x))/\w=w':=by
 have hw:wrap64 (-x)= -x:=by unfold wrap64;omega
 go_enter Tryz.func168,Tryz.ntmps168
 go_wp2
 all_goals
  go_ret;exact⟨qH (by unfold qV;split<;>omega),rfl⟩
theorem tL(w:World)(q:Nat):Below w.heap.size w (w.drewN q):=⟨rfl,rfl,rfl,w_ _,λ _ _=>rfl⟩
def CU(b:List Int):Prop:=∀x∈b,x≠0/\ -65536<=x/\x<=65536
theorem CU.at(h:CU ah)(hk:k<ah.length):jv ah k≠0/\ -65536<=jv ah k/\jv ah k<=65536:=h _ (vO hk)
theorem Je(b: -65536<=x)(h1:x<=65536):wrap64 (-x)= -x:=by unfold wrap64;omega
def wH(n:Int)(l:List Int):Bool:=l.all λ x=>lz x n
def s9(n:Int)(ls:List (List Int)):Bool:=ls.all (wH n)
def lB(n:Int)(ls:List (List Int)):Int:=if n<0\/65536<n then 1 else if s9 n ls=false then 1 else if 65536<ls.length then 2 else 0
theorem Jf{n:Int}(h:k<ls.length)(e:wH n (oR ls k)=false):s9 n ls=false:=by
 rw[vN h] at e;unfold s9;rw[List.all_eq_false];exact⟨_,s_ h,by simp[e]⟩
theorem Jg{n:Int}(h:k<ls.length)(e:wH n (oR ls k)=true)(b:s9 n (ls.take k)=true):s9 n (ls.take (k+1))=true:=by
 unfold s9 at*;rw[CS ls k h,List.all_append,b];simp[e]
theorem Jh{n:Int}(hl:ls.length=m)(h:¬k<m)(b:s9 n (ls.take k)=true):s9 n ls=true:=by
 rw[p_ (by omega)] at b;exact b
theorem Ji{n:Int}(h:n<0\/65536<n):lB n ls=1:=if_pos h
theorem Jj{n:Int}(h:s9 n ls=false):lB n ls=1:=by unfold lB;split<;>simp[h]
theorem Jk{n:Int}(b:0<=n/\n<=65536)(h:s9 n ls=true)(hl:65536<ls.length):lB n ls=2:=by
 unfold lB;rw[if_neg (by omega),if_neg (by rw[h];exact Bool.noConfusion),if_pos hl]
theorem Fb{n:Int}(b:0<=n/\n<=65536)(h:s9 n ls=true)(hl:¬65536<ls.length):lB n ls=0:=by
 unfold lB;rw[if_neg (by omega),if_neg (by rw[h];exact Bool.noConfusion),if_neg hl]
structure CV(w:World)(B:Nat)(x:Int)(A:Option Addr)(n c:Nat):Prop where
 lt:B<w.heap.size
 c0:w.cell? ⟨B,0,none⟩=some (.int .i64 x)
 c1:w.cell? ⟨B,1,none⟩=some (.slice A n c)
theorem CV.new(w:World)(x:Int)(A:Option Addr)(n c:Nat):CV (w.alloc (.cells #[.int .i64 x,.slice A n c] 24)) w.heap.size x A n c:=
 ⟨by simp,by simp,by simp⟩
theorem xK(r:Bool)(x n:Int)(w:World)(b:0<=n)(h1:n<=65536)(c:lz x n=r):Calls z_ 115 #[.int .i64 x,.int .i64 n] w λ e w'=>e=.returned (.bool r)/\w=w':=
 (Jd x n w b h1).mono λ _ _ ⟨he,hw⟩=>⟨by rw[he,c],hw⟩
theorem Fc(he:P.underlying e=some .bool){v:Value}{x:Bool}{mu:List MemPlace}(h:plainElem (H:=Unit) P e v=some (.lit (.bool x),mu)):v=.bool x:=by
 unfold plainElem at h;rw[he] at h
 cases v<;>simp at h
 rw[h.1]
def lT(w:World)(b n:Nat)(S:List Int):Prop:=
 ∃D:DataW Unit,w.ownsMap z_ 3 (plainElem z_ 4) b n D/\∀x,(Lit.int .i64 x).wf=true->D.atKey (.int .i64 x) (.lit (.bool false))=.lit (.bool (hasB S x))
theorem lT.made(w:World):lT (w.alloc (.map #[] 0)) w.heap.size 0 []:=
 ⟨_,World.ownsMap_made w _ _ _,λ x _=>rfl⟩
theorem lT.lt{w:World}{b n:Nat}{S:List Int}(h:lT w b n S):b<w.heap.size:=by
 obtain⟨D,h1,c⟩:=h;exact h1.lt
theorem lT.kept{w w':World}{b n:Nat}{S:List Int}{row:Option Nat}(h:lT w b n S)(c:w.grownBy w' row)(d:some b≠row):lT w' b n S:=by
 obtain⟨D,h1,e⟩:=h;exact⟨D,h1.kept c d,e⟩
theorem lT.alloc{w:World}{b n:Nat}{S:List Int}(h:lT w b n S)(o:Obj):lT (w.alloc o) b n S:=by
 obtain⟨D,h1,c⟩:=h;exact⟨D,h1.alloc o,c⟩
theorem lT.drew{w:World}{b n:Nat}{S:List Int}(h:lT w b n S):lT w.drew b n S:=by
 obtain⟨D,h1,c⟩:=h;exact⟨D,h1.drew,c⟩
theorem lT.below{w:World}{b:Nat}(h:lT w b n S)(c:Below B w w')(d:b<B):lT w' b n S:=by
 obtain⟨D,⟨es,clock,h1,e⟩,f⟩:=h;exact⟨D,⟨es,clock,(c.block b d).trans h1,e⟩,f⟩
theorem lT.look{w:World}{b:Nat}(h:lT w b n S){x:Int}(c:(Lit.int .i64 x).wf=true):
  (Instr.lookup 114 (.map (some b)) (.int .i64 x) false).run z_ w=.ok (.bool (hasB S x)) w:=by
 obtain⟨D,h1,e⟩:=h;obtain⟨v,i,f,d⟩:=h1.lookup (Maps.int_keyed Zh) Tryz.underlying114 (z:=.bool false) (Tryz.zeroValue4 w) (plainElem_bool ZX false) (Maps.keyOf_int_mk Zh c);rw[e x c] at d;have g:=Fc ZX d;rw[f,g]
theorem lT.put{w:World}{b:Nat}(h:lT w b n S)(c:n<maxLen){x:Int}(d:(Lit.int .i64 x).wf=true):
  ∃w',(Instr.mapUpdate 114 (.map (some b)) (.int .i64 x) (.bool true)).run z_ w=.ok () w'/\lT w' b (n+1) (S++[x])/\w.grownBy w' (some b):=by
 obtain⟨D,h1,f⟩:=h;obtain⟨w',g,i,j⟩:=h1.update (Maps.int_keyed Zh) Tryz.underlying114 c (Maps.keyOf_int_mk Zh d) (plainElem_bool ZX true);refine⟨w',g,⟨_,i,λ y k=>?_⟩,j⟩
 by_cases e:y=x
 ·subst e;rw[Maps.atKey_put_same h1.isMap (by simp[WideAt.IsKeyLit]),yz];simp
 ·rw[Maps.atKey_put_other (by simpa using e),f y k,yz];have:(x==y)=false:=by simpa using Ne.symm e
  rw[this,Bool.or_false]
theorem Fe{p:Int->Bool}(h:k<ah.length)(e:p (jv ah k)=true):ah.any p=true:=by
 rw[pW h] at e;rw[Zg];exact⟨_,s_ h,e⟩
theorem Ff{p:Int->Bool}(h:k<ah.length)(e:p (jv ah k)=false)(b:(ah.take k).any p=false):(ah.take (k+1)).any p=false:=by
 rw[tK ah k h,ZP,b];simp[e]
theorem Fg{p:Int->Bool}(hl:ah.length=n)(h:¬k<n)(b:(ah.take k).any p=false):ah.any p=false:=by
 rw[p_ (by omega)] at b;exact b
def Jl(p:Int->Bool)(b:List Int)(w:World)(e:Ending)(w':World):Prop:=∃r:Int,e=.returned (.int .i64 r)/\(decide (0<=r)=b.any p)/\w=w'
theorem Jm(g:Nat)(lb:Array Value)(p:Int->Bool)(u:∀args w,(callFunc g args).run z_ w=.ok (.enter g args) w)(A:Option Addr)(n c:Nat)(d:List Int)(w:World)(h:aN w A n c d)
  (hp:∀x∈d,Calls z_ g (#[.int .i64 x]++lb) w λ e w'=>e=.returned (.bool (p x))/\w=w'):
  Calls z_ 142 #[.slice A n c,.func (.func g) #[] lb] w (Jl p d w):=by
 have v:=h.small;have H:=U h;clear h;have t:=U hp;clear hp;go_enter Tryz.func142,Tryz.ntmps142
 go_wp2
 go_loop [8] (λ i=>∃k:Nat,k<=n/\i=.int .i64 k/\(d.take k).any p=false) (λ i=>n-(intOf i).toNat)
 case atStart=>exact⟨0,r_ _,rfl,rfl⟩
 case round=>
  obtain⟨k,hk,rfl,l⟩:=hrel;have m:=U l;clear l
  by_cases f:k<n
  ·obtain⟨b,off,rfl,y,q⟩:=H.o.cells (by omega);have z:=q k f;clear q;have hl:k<d.length:=by rw[H.o.len];exact f
   have j:=t.o (jv d k) (vO hl);generalize r:p (jv d k)=o at j;have s:=U r;clear r
   cases o
   ·go_wp2_with (go_at_fn g;refine j.mono ?_;rintro e w' ⟨rfl,rfl⟩)
    go_round
    case rel=>exact⟨k+1,by omega,by go_num,Ff hl s.o m.o⟩
    case measure=>simp[intOf];omega
   ·go_wp2_with (go_at_fn g;refine j.mono ?_;rintro e w' ⟨rfl,rfl⟩)
    go_ret;exact⟨k,rfl,by rw[Fe hl s.o];simp,rfl⟩
  ·go_wp2;go_ret;exact⟨-1,rfl,by rw[Fg H.o.len f m.o];rfl,rfl⟩
theorem CW(g:Nat)(lb:Array Value)(p:Int->Bool)(d:∀args w,(callFunc g args).run z_ w=.ok (.enter g args) w)(A:Option Addr)(n c:Nat)(b:List Int)(w:World)(h:aN w A n c b)
  (hp:∀x∈b,Calls z_ g (#[.int .i64 x]++lb) w λ e w'=>e=.returned (.bool (p x))/\w=w'):
  Calls z_ 120 #[.slice A n c,.func (.func g) #[] lb] w λ e w'=>e=.returned (.bool (b.any p))/\w=w':=by
 have f:=Jm g lb p d A n c b w h hp;clear h hp;go_enter Tryz.func120,Tryz.ntmps120
 go_wp2_with (go_at_call 142;refine f.mono ?_;rintro e w' ⟨r,rfl,i,rfl⟩)
 all_goals
  go_ret;exact⟨lS (by rw[<-i]),rfl⟩
theorem Jn:∀args w,(callFunc 162 args).run z_ w=.ok (.enter 162 args) w:=enters_of Tryz.func162 (by kernel_rfl) rfl
theorem Jo(B:Nat)(n x:Int)(w:World)(c:w.cell? ⟨B,0,none⟩=some (.int .i64 n))(b:0<=n)(h1:n<=65536):
  Calls z_ 162 #[.int .i64 x,.pointer (some ⟨B,0,none⟩)] w λ e w'=>e=.returned (.bool (!(lz x n)))/\w=w':=by
 go_enter Tryz.func162,Tryz.ntmps162
 go_wp2_with (go_at_call 163;refine(CT x n w b h1).mono ?_;rintro e w' ⟨rfl,rfl⟩)
 go_ret;exact⟨rfl,rfl⟩
theorem Jp(n:Int)(l:List Int):l.any (λ x=> !(lz x n))= !(wH n l):=by
 unfold wH;rw[ZS]
theorem Jq(x:Int)(A:Option Addr)(n c:Nat)(ls:List (List Int))(w:World)(h:mc w A n c ls)(p:0<=x)(h1:x<=65536):
  Calls z_ 107 #[.agg #[.int .i64 x,.slice A n c]] w λ e w'=>e=.returned (.int .i64 (lB x ls))/\Below w.heap.size w w':=by
 have F:=h.small;have H:=U h;clear h;have G:¬x<0:=by omega
 have z2:¬65536<x:=by omega
 have f:=U (And.intro p h1);clear p h1;go_enter Tryz.func107,Tryz.ntmps107
 go_wp2;have m:Below w.heap.size w (w.alloc (.cells #[.int .i64 x,.slice A n c] 24)):=(v_ _ _).alloc (w_ _) _;have d:=CV.new w x A n c;generalize C:w.alloc (.cells #[.int .i64 x,.slice A n c] 24)=W at m d⊢;clear C;have g:=U m;have I:=U d;have D:=d.c0;have J:=d.c1;clear m d
 go_loop [16] (λ i=>∃k:Nat,k<=n/\i=.int .i64 k/\s9 x (ls.take k)=true) (λ i=>n-(intOf i).toNat)
 case atStart=>exact⟨0,r_ _,rfl,rfl⟩
 case round=>
  obtain⟨k,hk,rfl,q⟩:=hrel;have r:=U q;clear q
  by_cases j:k<n
  ·obtain⟨b,off,rfl,K,s⟩:=(H.o.below g.o).cells (by omega);obtain⟨a1,E,c1,L,t⟩:=s k j;clear s;have l:=CW 162 #[.pointer (some ⟨w.heap.size,0,none⟩)] (λ y=> !(lz y x)) Jn a1 E c1 (oR ls k) W t (λ y _=>Jo w.heap.size x y W D f.o.1 f.o.2);rw[Jp] at l;clear t;generalize u:wH x (oR ls k)=o at l;have v:=U u;clear u
   cases o
   ·go_wp2_with (go_at_call 120;refine l.mono ?_;rintro e w' ⟨rfl,rfl⟩)
    go_ret;exact⟨qH (Jj (Jf (k:=k) (by rw[H.o.len];exact j) v.o)).symm,g.o⟩
   ·go_wp2_with (go_at_call 120;refine l.mono ?_;rintro e w' ⟨rfl,rfl⟩)
    go_round
    case rel=>exact⟨k+1,by omega,by go_num,Jg (by rw[H.o.len];exact j) v.o r.o⟩
    case measure=>simp[intOf];omega
  ·have z:=Jh H.o.len j r.o;have B:=U z;clear z;have M:¬(k:Int)<(n:Int):=by omega
   by_cases N:(65536:Int)<n
   ·go_wp2;go_ret;exact⟨qH (Jk f.o B.o (by rw[H.o.len];omega)).symm,g.o⟩
   ·go_wp2;go_ret;exact⟨qH (Fb f.o B.o (by rw[H.o.len];omega)).symm,g.o⟩
theorem Jr(x:Int)(A:Option Addr)(n c:Nat)(w:World)(h:x<0\/65536<x):
  Calls z_ 107 #[.agg #[.int .i64 x,.slice A n c]] w λ e w'=>e=.returned (.int .i64 1)/\Below w.heap.size w w':=by
 by_cases b:x<0
 ·clear h;go_enter Tryz.func107,Tryz.ntmps107
  go_wp2;go_ret;exact⟨rfl,(v_ _ _).alloc (w_ _) _⟩
 ·have h1:65536<x:=by omega
  clear h;go_enter Tryz.func107,Tryz.ntmps107
  go_wp2;go_ret;exact⟨rfl,(v_ _ _).alloc (w_ _) _⟩
theorem vP(x:Int)(A:Option Addr)(n c:Nat)(ls:List (List Int))(w:World)(h:mc w A n c ls):
  Calls z_ 107 #[.agg #[.int .i64 x,.slice A n c]] w λ e w'=>e=.returned (.int .i64 (lB x ls))/\Below w.heap.size w w':=by
 by_cases b:x<0\/65536<x
 ·rw[Ji b];exact Jr x A n c w b
 ·exact Jq x A n c ls w h (by omega) (by omega)
theorem zK:(z_.info? 3).map (λ i=>(i.zero,i.size,i.bytes))=some (some (.int .i64 0),1,8):=by kernel_rfl
structure Row where
 A:Option Addr
 n:Nat
 c:Nat
 ah:List Int
theorem yA{v:Value}(h:W.ownsRow base e size v (k+1) xs):∃g cap,v=.slice (some ⟨g,0,none⟩) (k+1) cap:=by
 rcases h.2 with⟨_,c⟩|⟨g,cap,cur,b,_⟩
 ·omega
 ·exact⟨g,cap,b⟩
theorem tc{w:World}{v:Value}(h:w.ownsRow base e size v n xs){g:Nat}(b:v.ownBlock=some g):base<=g/\g<w.heap.size:=by
 rcases h.2 with⟨rfl,_⟩|⟨c,cap,cur,rfl,f,d,_⟩
 ·simp[Value.ownBlock] at b
 ·have:c=g:=by simpa[Value.ownBlock] using b
  subst this;refine⟨f,?_⟩;rcases a_ c w.heap.size with i|j
  ·exact i
  ·rw[Zv j] at d;cases d
theorem lU{v:Value}{w:World}(h:w.ownsRow B e k v n xs)(b:Below w.heap.size w w'):w'.ownsRow B e k v n xs:=
 h.kept (row:=none) ⟨b.os,b.tape,b.output,b.size,λ j c _=>b.block j c⟩ (by cases d:v.ownBlock<;>simp)
theorem CX{ji jD:World}(h:W.grownBy ji row)(b:ji.grownBy jD row):W.grownBy jD row:=
 ⟨b.os.trans h.os,b.tape.trans h.tape,b.output.trans h.output,Nat.le_trans h.size b.size,λ k hk c=>(b.block k (i_ hk h.size) c).trans (h.block k hk c)⟩
theorem Bc:(z_.info? 25).map (λ i=>(i.zero,i.size,i.bytes))=some (some (.slice none 0 0),1,24):=by kernel_rfl
def kF(r:Row):Value:=.slice r.A r.n r.c
def uh(w:World)(B:Nat)(u v:Value):Prop:=w.heap[B]? =some (.cells #[u,v] 24 (0,0))
theorem uh.lt{w:World}{v:Value}(h:uh w B u v):B<w.heap.size:=(o_.1 h).1
theorem uh.c0{w:World}{v:Value}(h:uh w B u v):w.cell? ⟨B,0,none⟩=some u:=by simp[q_,show w.heap[B]? =_ from h]
theorem uh.c1{w:World}{v:Value}(h:uh w B u v):w.cell? ⟨B,1,none⟩=some v:=by simp[q_,show w.heap[B]? =_ from h]
theorem uh.below{w:World}{v:Value}(h:uh w B u v)(b:Below w.heap.size w w'):uh w' B u v:=(b.block B h.lt).trans h
theorem uh.new(w:World)(u v:Value):uh (w.alloc (.cells #[u,v] 24)) w.heap.size u v:=Zt w _
theorem Ju{w:World}(v:Value):w.grownBy (w.setCell ⟨B,k,none⟩ v) (some B):=
 ⟨rfl,rfl,rfl,(KeepsWalks.setCell w _ v).size,λ j _ b=>Zw _ _ _ j (λ e=>b (by rw[e]))⟩
theorem CY(b:z_.underlying t=some (.slice e))(w:World)(base:Nat)(ty:TypeId)(i0:TypeInfo)(d:z_.info? e=some i0)(v:Value)(n size:Nat)(xs:List Value)(f:w.ownsRow base e size v n xs)(c:Nat):
  (Zq #[t,t] ty #[v,.slice none 0 c]).run z_ w=.ok v w:=by
 rcases f.2 with⟨rfl,rfl⟩|⟨g,cap,cur,rfl,_,_,i,_⟩
 ·simp[Zq,run_underlying b,sizeOf,typeInfo,d,Builtin.lenOf,ZF]
 ·simp[Zq,run_underlying b,sizeOf,typeInfo,d,Builtin.lenOf,ZF,i,storeCells]
theorem aN.news{w:World}{b off:Nat}(h:aN w (some ⟨b,off,none⟩) n c ah):∀j u,(ah.map (u_ .i64))[j]? =some u->w.cell? (Addr.add ⟨b,off,none⟩ j)=some u:=by
 intro j u d;have hl:=h.len;have e:j<n:=by have:=(Zp.1 d).1;simpa[hl] using this
 obtain⟨g,i,he,k,f⟩:=h.cells (by omega);simp only[Option.some.injEq,Addr.mk.injEq] at he;obtain⟨rfl,rfl,_⟩:=he;rw[Addr.add_lit,f j e];rw[d_,x_ (by rw[hl];exact e)] at d;rw[pW (by rw[hl];exact e)];exact d
def n9(w:World)(base:Nat)(e:TypeId)(v:Value)(k:Nat)(ys:List Value)(v':Value)(w':World):Prop:=
 w'.ownsRow base e 1 v' k ys/\w.grownBy w' v.ownBlock/\(v'.ownBlock=v.ownBlock\/v'.ownBlock=some w.heap.size)
theorem zL(w:World)(ty:TypeId)(base:Nat)(v:Value)(n:Nat)(xs:List Int)(f:w.ownsRow base 3 1 v n (xs.map (u_ .i64)))
  (A:Option Addr) (m c:Nat) (e:List Int) (d:aN w A m c e) (o:(n+m)*8<=140737488355328) (p:base<=w.heap.size):
  ∃v' w',(Zq #[25,25] ty #[v,.slice A m c]).run z_ w=.ok v' w'/\n9 w base 3 v (n+m) ((xs++e).map (u_ .i64)) v' w':=by
 obtain⟨i0,i,q,r,s⟩:=info_parts zK
 cases A with
 |none=>
  have hm:m=0:=by
   rcases Z7 m with g|g
   ·exact g
   ·obtain⟨b,off,he,_⟩:=d.cells g;cases he
  subst hm;have t:e=[]:=Zu d.len;subst t;exact⟨v,w,CY Zm w base ty i0 i v n 1 _ f c,by simpa using f,ZE w _,.inl rfl⟩
 |some k=>
  have y:∀j u,(e.map (u_ .i64))[j]? =some u->w.cell? (k.add j)=some u:=by
   intro j u l;have D:j<m:=by have:=(Zp.1 l).1;simpa[d.len] using this
   obtain⟨b,off,he,_⟩:=d.cells (by omega);injection he with he
   subst he;exact d.news j u l
  obtain⟨v',w',h1,z,B,_,C⟩:=run_append_own_at (P:=z_) w base 25 ty 3 i0 (.int .i64 0) 1 8 Zm i q r s rfl (by decide) v n _ f k m c (e.map (u_ .i64)) (by simp[d.len]) y (by intro u hu;obtain⟨x,_,rfl⟩:=Zc.1 hu;rfl) (by unfold maxLen;omega) o p;exact⟨v',w',h1,by rw[Z0];exact z,B,C⟩
theorem Fh{w:World}{o:Oper}{K:Act->World->Prop}{E:Prop}(d:o.guard=none)(s x:Operand)
  (e:o.op=.call {callee:=.builtin .append,args:= #[s,x],argTypes:= #[25,25]}) (base:Nat) (v:Value) (n:Nat) (xs:List Int) (hs:a.eval s=v) (f:w.ownsRow base 3 1 v n (xs.map (u_ .i64)))
  (A:Option Addr) (m c:Nat) (b:List Int) (g:a.eval x=.slice A m c) (i:aN w A m c b) (j:(n+m)*8<=140737488355328) (k:base<=w.heap.size)
  (h:∀v' w',n9 w base 3 v (n+m) ((xs++b).map (u_ .i64)) v' w'->K (a.put o.dst v') w'):
  if ZG o (yielded ops a.tmps)=true then Oper.wp z_ o a w K Q else E:=by
 have hw:ZG o (yielded ops a.tmps)=true:=by simp[ZG,d]
 rw[if_pos hw];obtain⟨v',w',h1,l⟩:=zL w o.type base v n xs f A m c b i j k;unfold Oper.wp;simp only[execOp,e,resolve,invoke,builtin,ZD,ZC,Z_,ZW,f_,ZV,hs,g,h1];exact h v' w' l
theorem vp{w:World}{o:Oper}(d:o.guard=none)(s x:Operand)
  (e:o.op=.call {callee:=.builtin .append,args:= #[s,x],argTypes:= #[25,25]}) (base:Nat) (v:Value) (n:Nat) (xs:List Int) (hs:a.eval s=v) (f:w.ownsRow base 3 1 v n (xs.map (u_ .i64)))
  (A:Option Addr) (m c:Nat) (b:List Int) (g:a.eval x=.slice A m c) (i:aN w A m c b) (j:(n+m)*8<=140737488355328) (k:base<=w.heap.size)
  (h:∀v' w',n9 w base 3 v (n+m) ((xs++b).map (u_ .i64)) v' w'->wpList z_ ops Q rest (a.put o.dst v') w'):
  wpList z_ ops Q (o::rest) a w:=by
 obtain⟨v',w',h1,l⟩:=zL w o.type base v n xs f A m c b i j k;refine wpList_plain d λ K p=>?_
 unfold Oper.wp;simp only[execOp,e,resolve,invoke,builtin,ZD,ZC,Z_,ZW,f_,ZV,hs,g,h1];exact p _ _ (h v' w' l)
structure nU(w:World)(A:Option Addr)(n c:Nat)(rs:List Row):Prop where
 len:rs.length=n
 cap:n<=c
 mP:n*24<=140737488355328
 oo:c<=maxLen
 cells:0<n->∃b off,A=some ⟨b,off,none⟩/\b<w.heap.size/\∀j u,(rs.map kF)[j]? =some u->w.cell? ⟨b,off+j,none⟩=some u
 rows:∀r∈rs,aN w r.A r.n r.c r.ah
theorem nU.below{w w':World}{A:Option Addr}{n c:Nat}{rs:List Row}(h:nU w A n c rs)(d:Below w.heap.size w w'):nU w' A n c rs:=
 ⟨h.len,h.cap,h.mP,h.oo,λ f=>by
  obtain⟨b,off,rfl,e,g⟩:=h.cells f;exact⟨b,off,rfl,i_ e d.size,λ j u i=>(d.cell (p:=⟨b,off+j,none⟩) e).trans (g j u i)⟩,λ r k=>(h.rows r k).below d⟩
theorem nU.CZ{w:World}{rs:List Row}(h:nU w A n c rs):mc w A n c (rs.map (·.ah)):=
 ⟨by rw[List.length_map];exact h.len,h.cap,h.mP,h.oo,λ e=>by
  obtain⟨b,off,rfl,f,g⟩:=h.cells e;refine⟨b,off,rfl,f,λ j i=>?_⟩;have d:j<rs.length:=by rw[h.len];exact i
  refine⟨rs[j].A,rs[j].n,rs[j].c,g j _ (by rw[d_,x_ d];rfl),?_⟩;rw[vN (by simpa using d)];simpa using h.rows _ (s_ d)⟩
theorem Fi{w:World}{b off:Nat}:∀(ls:List (List Int))(k:Nat),(∀j,j<ls.length->∃A' f c',w.cell? ⟨b,off+(k+j),none⟩=some (.slice A' f c')/\aN w A' f c' (oR ls j))->
  ∃rs:List Row,rs.map (·.ah)=ls/\(∀j u,(rs.map kF)[j]? =some u->w.cell? ⟨b,off+(k+j),none⟩=some u)/\∀r∈rs,aN w r.A r.n r.c r.ah
 |[],k,h=>⟨[],rfl,λ j u d=>by simp at d,λ r g=>by cases g⟩
 |l::ls,k,h=>by
  obtain⟨A',f,c',h1,i⟩:=h 0 (by simp);obtain⟨rs,m,o,p⟩:=Fi (w:=w) (b:=b) (off:=off) ls (k+1) (λ j d=>by
   obtain⟨A',f,c',h1,i⟩:=h (j+1) (by simpa using d);refine⟨A',f,c',?_,i⟩;rw[show k+1+j=k+(j+1) by omega];exact h1)
  refine⟨⟨A',f,c',l⟩::rs,by rw[f_,m],λ j u d=>?_,λ r g=>?_⟩
  ·cases j with
   |zero=>simp at d;subst d;exact h1
   |succ j=>rw[show k+(j+1)=k+1+j by omega];exact o j u (by simpa using d)
  ·rcases Zx.1 g with e|e
   ·subst e;exact i
   ·exact p r e
theorem mc.zM{w:World}(h:mc w A n c ls):∃rs:List Row,rs.map (·.ah)=ls/\nU w A n c rs:=by
 rcases Z7 n with d|d
 ·have:ls=[]:=Zu (by rw[h.len];exact d);subst this;exact⟨[],rfl,⟨by have:=h.len;simpa using this,h.cap,h.mP,h.oo,λ i=>absurd i (by omega),λ r k=>by cases k⟩⟩
 ·obtain⟨b,off,e,l,m⟩:=h.cells d;obtain⟨rs,g,o,p⟩:=Fi (w:=w) (b:=b) (off:=off) ls 0 (λ j f=>by rw[Nat.zero_add];exact m j (by rw[<-h.len];exact f));refine⟨rs,g,⟨?_,h.cap,h.mP,h.oo,λ _=>⟨b,off,e,l,λ j u f=>?_⟩,p⟩⟩
  ·rw[<-h.len,<-g,List.length_map]
  ·have:=o j u f;rwa[Nat.zero_add] at this
theorem Jv(w:World)(ty:TypeId)(base:Nat)(v:Value)(n:Nat)(xs:List Row)(e:w.ownsRow base 25 1 v n (xs.map kF))
  (A:Option Addr) (m c:Nat) (rs:List Row) (d:nU w A m c rs) (l:(n+m)*24<=140737488355328) (o:base<=w.heap.size):
  ∃v' w',(Zq #[22,22] ty #[v,.slice A m c]).run z_ w=.ok v' w'/\n9 w base 25 v (n+m) ((xs++rs).map kF) v' w':=by
 obtain⟨i0,g,p,q,r⟩:=info_parts Bc
 cases A with
 |none=>
  have hm:m=0:=by
   rcases Z7 m with f|f
   ·exact f
   ·obtain⟨b,off,he,_⟩:=d.cells f;cases he
  subst hm;have s:rs=[]:=Zu d.len;subst s;exact⟨v,w,CY Tryz.underlying22 w base ty i0 g v n 1 _ e c,by simpa using e,ZE w _,.inl rfl⟩
 |some i=>
  have t:∀j u,(rs.map kF)[j]? =some u->w.cell? (i.add j)=some u:=by
   intro j u k;have D:j<m:=by have:=(Zp.1 k).1;simpa[d.len] using this
   obtain⟨b,off,he,_,y⟩:=d.cells (by omega);injection he with he
   subst he;rw[Addr.add_lit];exact y j u k
  obtain⟨v',w',h1,z,B,_,C⟩:=run_append_own_at (P:=z_) w base 22 ty 25 i0 (.slice none 0 0) 1 24 Tryz.underlying22 g p q r rfl (by decide) v n _ e i m c (rs.map kF) (by simp[d.len]) t (by intro u hu;obtain⟨x,_,rfl⟩:=Zc.1 hu;rfl) (by unfold maxLen;omega) l o;exact⟨v',w',h1,by rw[Z0];exact z,B,C⟩
theorem Fj{w:World}{o:Oper}(b:o.guard=none)(s x:Operand)
  (d:o.op=.call {callee:=.builtin .append,args:= #[s,x],argTypes:= #[22,22]}) (base:Nat) (v:Value) (n:Nat) (xs:List Row) (hs:a.eval s=v) (e:w.ownsRow base 25 1 v n (xs.map kF))
  (A:Option Addr) (m c:Nat) (rs:List Row) (f:a.eval x=.slice A m c) (g:nU w A m c rs) (i:(n+m)*24<=140737488355328) (j:base<=w.heap.size)
  (h:∀v' w',n9 w base 25 v (n+m) ((xs++rs).map kF) v' w'->wpList z_ ops Q rest (a.put o.dst v') w'):
  wpList z_ ops Q (o::rest) a w:=by
 obtain⟨v',w',h1,k⟩:=Jv w o.type base v n xs e A m c rs g i j;refine wpList_plain b λ K l=>?_
 unfold Oper.wp;simp only[execOp,d,resolve,invoke,builtin,ZD,ZC,Z_,ZW,f_,ZV,hs,f,h1];exact l _ _ (h v' w' k)
theorem Fk{w:World}{v:Value}(h:w.ownsRow base e size v n xs):∃A c,v=.slice A n c:=by
 rcases h.2 with⟨rfl,rfl⟩|⟨g,cap,cur,rfl,_⟩
 ·exact⟨none,0,rfl⟩
 ·exact⟨some ⟨g,0,none⟩,cap,rfl⟩
def lW(b:List Int):Obj:=.cells ((b.map (u_ .i64)).toArray) 3
theorem aN.lit(w:World)(b:List Int)(n s:Nat)(d:b.length=n)(hs:s=w.heap.size)(h:n<=1000):aN (w.alloc (lW b)) (some ⟨s,0,none⟩) n n b:=by
 subst hs;refine⟨d,w_ _,by omega,by unfold maxLen;omega,λ e=>⟨w.heap.size,0,rfl,by simp,λ j f=>?_⟩⟩;have c:(w.alloc (lW b)).heap[w.heap.size]? =some (lW b):=Zt w _;generalize w.alloc (lW b)=W at c;have:((b.map (u_ .i64)).toArray)[j]? =some (.int .i64 (jv b j)):=by
  rw[ZK,d_,x_ (by omega:j<b.length),pW (by omega)];rfl
 unfold lW at c;simp[q_,c,this]
theorem C0{w:World}{cap:Nat}(h:w.ownsRow base e 1 (.slice (some ⟨g,0,none⟩) n cap) n xs)(u:Value):
  (w.setCell ⟨g,k,none⟩ u).ownsRow base e 1 (.slice (some ⟨g,0,none⟩) n cap) n (xs.set k u):=by
 obtain⟨h1,c⟩:=h;rcases c with⟨b,_⟩|⟨p,q,cur,b,d,f,i,j,l,m⟩
 ·cases b
 ·cases b
  refine⟨by rw[ZO];exact h1,.inr ⟨g,cap,cur.setIfInBounds k u,rfl,d,?_,i,j,by rw[Array.size_setIfInBounds];exact l,?_⟩⟩
  ·obtain⟨o,hk⟩:=o_.1 f;show(w.heap.modify g _)[g]? =_;rw[Array.getElem?_eq_getElem (by rw[Array.size_modify];exact o),Array.getElem_modify_self,hk];rfl
  ·rw[Array.toList_setIfInBounds,List.take_set,m]
theorem mc.lq{w:World}{rs:List Row}(h:w.ownsRow base 25 1 (.slice A n c) n (rs.map kF))(m:∀r∈rs,aN w r.A r.n r.c r.ah)(i:n*24<=140737488355328):mc w A n c (rs.map (·.ah)):=by
 obtain⟨h1,o⟩:=h;have hl:rs.length=n:=by simpa using h1
 rcases o with⟨b,k⟩|⟨g,cap,cur,b,v,d,p,q,y,s⟩
 ·simp only[e_] at b;obtain⟨rfl,_,rfl⟩:=b;subst k;exact⟨by simpa using hl,w_ _,i,r_ _,λ h=>absurd h (by omega)⟩
 ·simp only[e_] at b;obtain⟨rfl,_,rfl⟩:=b;refine⟨by simpa using hl,p,i,q,λ k=>⟨g,0,rfl,?_,λ j z=>?_⟩⟩
  ·rcases a_ g w.heap.size with t|u
   ·exact t
   ·rw[Zv u] at d;cases d
  ·have f:j<rs.length:=by omega
   have e:cur[j]? =some (kF rs[j]):=by
    have l:(cur.toList.take (n*1))[j]? =(rs.map kF)[j]? :=by rw[s]
    rw[Zn (by omega),d_,x_ f] at l;rw[<-Zd,l];rfl
   refine⟨rs[j].A,rs[j].n,rs[j].c,by simp[q_,d,e];rfl,?_⟩;have:=m _ (s_ f);rw[vN (by simpa using f)];simpa using this
theorem aN.take{w:World}{A:Option Addr}{n c:Nat}{ah:List Int}(h:aN w A n c ah){k:Nat}(hk:k<=n):aN w A k c (ah.take k):=by
 have g:=h.mP;have i:=h.cap;refine⟨by simp[h.len];omega,by omega,by omega,h.oo,λ l=>?_⟩;obtain⟨b,off,rfl,d,e⟩:=h.cells (by omega);refine⟨b,off,rfl,d,λ j f=>?_⟩;rw[e j (by omega)];unfold jv;simp[y_,Z8,f]
theorem vq(r:Bool)(A:Option Addr)(n c:Nat)(b:List Int)(x:Int)(w:World)(h:aN w A n c b)(d:hasB b x=r):
  Calls z_ 101 #[.slice A n c,.int .i64 x] w λ e w'=>e=.returned (.bool r)/\w=w':=by
 have:=Ja A n c b x w h;rw[d] at this;exact this
structure kS(w:World)(A:Option Addr)(n c:Nat)(gq:List Bool):Prop where
 len:gq.length=n
 cap:n<=c
 mP:n<=140737488355328
 oo:c<=maxLen
 cells:0<n->∃b off,A=some ⟨b,off,none⟩/\b<w.heap.size/\∀j,j<n->w.cell? ⟨b,off+j,none⟩=some (.bool (gq.getD j false))
theorem kS.below{w:World}(h:kS w A n c gq)(d:Below w.heap.size w w'):kS w' A n c gq:=
 ⟨h.len,h.cap,h.mP,h.oo,λ f=>by
  obtain⟨b,off,rfl,e,g⟩:=h.cells f;exact⟨b,off,rfl,i_ e d.size,λ j i=>(d.cell (p:=⟨b,off+j,none⟩) e).trans (g j i)⟩⟩
def uP(b:List Bool)(v:Nat):Bool:=b.getD v false
def oa(b:List Bool)(x:Int):Bool:=if lz x 65536=true then uP b x.natAbs==decide (0<x) else false
def oF(b:List Bool)(l:List Int):Bool:=l.any (oa b)
def vQ(x:Int)(ls:List (List Int))(b:List Bool):Bool:=lB x ls==0&&ls.all (oF b)
theorem Fl(h:lz x 65536=false):oa gq x=false:=by unfold oa;rw[if_neg (by simp[h])]
theorem C1(h:lz x 65536=true):oa gq x=(uP gq x.natAbs==decide (0<x)):=by unfold oa;rw[if_pos h]
theorem C2(r:Bool)(x n:Int)(w:World)(b:0<=n)(h1:n<=65536)(c:lz x n=r):
  Calls z_ 163 #[.int .i64 x,.int .i64 n] w λ e w'=>e=.returned (.bool r)/\w=w':=by
 have:=CT x n w b h1;rw[c] at this;exact this
theorem Jw(x:Int):qV x=(x.natAbs:Int):=by unfold qV;split<;>omega
theorem C3{v:Nat}(hl:gq.length=n)(h:¬v<n):uP gq v=false:=by
 unfold uP;rw[y_,ZJ (by omega)];rfl
theorem Jx(x:Int)(A:Option Addr)(n c:Nat)(g:List Bool)(w:World)(h:kS w A n c g):
  Calls z_ 122 #[.int .i64 x,.slice A n c] w λ e w'=>e=.returned (.bool (oa g x))/\w=w':=by
 have hl:=h.len
 cases d:lz x 65536
 ·rw[Fl d];have i:=U d;clear d h hl;go_enter Tryz.func122,Tryz.ntmps122
  go_wp2_with (go_at_call 163;refine(C2 false x 65536 w (by omega) (by omega) i.o).mono ?_;rintro e w' ⟨rfl,rfl⟩)
  go_ret;exact⟨rfl,rfl⟩
 ·rw[C1 d];have j:=s8.1 d;have f:=Fa x w j.2.1 j.2.2;rw[Jw] at f;have i:=U d;clear d j;generalize x.natAbs=k at f⊢;have j:=h.mP
  by_cases l:k<n
  ·obtain⟨b,off,rfl,q,m⟩:=h.cells (by omega);have p:=m k l;have e:g.getD k false=uP g k:=rfl;rw[e] at p;generalize uP g k=v at p⊢;clear m h hl e
   by_cases hp:0<x
   all_goals
    go_enter Tryz.func122,Tryz.ntmps122
    go_wp2_with (first|(go_at_call 163;refine(C2 true x 65536 w (by omega) (by omega) i.o).mono ?_;rintro e w' ⟨rfl,rfl⟩)|(go_at_call 168;refine f.mono ?_;clear f;rintro e w' ⟨rfl,rfl⟩))
    go_ret;exact⟨lS (by simp[hp]),rfl⟩
  ·rw[C3 hl l];clear h hl
   by_cases hp:0<x
   all_goals
    go_enter Tryz.func122,Tryz.ntmps122
    go_wp2_with (first|(go_at_call 163;refine(C2 true x 65536 w (by omega) (by omega) i.o).mono ?_;rintro e w' ⟨rfl,rfl⟩)|(go_at_call 168;refine f.mono ?_;clear f;rintro e w' ⟨rfl,rfl⟩))
    go_ret;exact⟨lS (by simp[hp]),rfl⟩
theorem Jy:∀args w,(callFunc 121 args).run z_ w=.ok (.enter 121 args) w:=enters_of Tryz.func121 (by kernel_rfl) rfl
theorem Jz:∀args w,(callFunc 118 args).run z_ w=.ok (.enter 118 args) w:=enters_of Tryz.func118 (by kernel_rfl) rfl
theorem JA(B:Nat)(x:Int)(A:Option Addr)(n c:Nat)(b:List Bool)(w:World)(d:w.cell? ⟨B,0,none⟩=some (.slice A n c))(h:kS w A n c b):
  Calls z_ 121 #[.int .i64 x,.pointer (some ⟨B,0,none⟩)] w λ e w'=>e=.returned (.bool (oa b x))/\w=w':=by
 have H:=U h;clear h;go_enter Tryz.func121,Tryz.ntmps121
 go_wp2_with (go_at_call 122;refine(Jx x A n c b w H.o).mono ?_;rintro e w' ⟨rfl,rfl⟩)
 go_ret;exact⟨rfl,rfl⟩
theorem Fm(A:Option Addr)(n c:Nat)(f:List Int)(A':Option Addr)(b c':Nat)(d:List Bool)(w:World)(h:aN w A n c f)(h':kS w A' b c' d):
  Calls z_ 60 #[.slice A n c,.slice A' b c'] w λ e w'=>e=.returned (.bool (oF d f))/\Below w.heap.size w w':=by
 have g:Below w.heap.size w (w.alloc (.cells #[.slice A' b c'] 28)):=(v_ _ _).alloc (w_ _) _;have i:=CW 121 #[.pointer (some ⟨w.heap.size,0,none⟩)] (oa d) Jy A n c f (w.alloc (.cells #[.slice A' b c'] 28)) (h.alloc _) (λ y _=>JA w.heap.size y A' b c' d _ (by simp) (h'.below g));have j:=U g;clear h h' g;go_enter Tryz.func60,Tryz.ntmps60
 go_wp2_with (go_at_call 120;refine i.mono ?_;clear i;rintro e w' ⟨rfl,rfl⟩)
 go_ret;exact⟨rfl,j.o⟩
theorem C4(r:Bool)(A:Option Addr)(n c:Nat)(b:List Int)(A':Option Addr)(d c':Nat)(f:List Bool)(w:World)(h:aN w A n c b)(h':kS w A' d c' f)(g:oF f b=r):
  Calls z_ 60 #[.slice A n c,.slice A' d c'] w λ e w'=>e=.returned (.bool r)/\Below w.heap.size w w':=by
 have:=Fm A n c b A' d c' f w h h';rw[g] at this;exact this
theorem JB(B:Nat)(A:Option Addr)(n c:Nat)(b:List Int)(A':Option Addr)(f c':Nat)(d:List Bool)(w:World)(l:w.cell? ⟨B,0,none⟩=some (.slice A' f c'))(h:aN w A n c b)(h':kS w A' f c' d):
  Calls z_ 118 #[.slice A n c,.pointer (some ⟨B,0,none⟩)] w λ e w'=>e=.returned (.bool (!(oF d b)))/\Below w.heap.size w w':=by
 have H:=U h;have i:=U h';clear h h';generalize g:oF d b=v;have j:=U g;clear g;go_enter Tryz.func118,Tryz.ntmps118
 go_wp2_with (go_at_call 60;refine(C4 v A n c b A' f c' d w H.o i.o j.o).mono ?_;rintro e w' ⟨rfl,k⟩)
 go_ret;exact⟨rfl,k⟩
theorem Fo(h:k<ls.length)(e:p (oR ls k)=true):ls.any p=true:=by
 rw[Zg];exact⟨_,zI h,e⟩
theorem Fp(h:k<ls.length)(e:p (oR ls k)=false)(b:(ls.take k).any p=false):(ls.take (k+1)).any p=false:=by
 rw[CS ls k h,ZP,b];simp[e]
theorem Fq(hl:ls.length=n)(h:¬k<n)(b:(ls.take k).any p=false):ls.any p=false:=by
 rw[p_ (by omega)] at b;exact b
def yB(g:Nat)(lb:Array Value)(p:List Int->Bool)(w:World):Prop:=
 ∀(A:Option Addr)(n c:Nat)(b:List Int)(W:World),Below w.heap.size w W->aN W A n c b->Calls z_ g (#[.slice A n c]++lb) W λ e w'=>e=.returned (.bool (p b))/\Below W.heap.size W w'
theorem yB.val{lb:Array Value}{w:World}(h:yB g lb p w)(r:Bool)(A:Option Addr)(n c:Nat)(b:List Int)(W:World)(d:Below w.heap.size w W)(f:aN W A n c b)(he:p b=r):
  Calls z_ g (#[.slice A n c]++lb) W λ e w'=>e=.returned (.bool r)/\Below W.heap.size W w':=by
 have:=h A n c b W d f;rw[he] at this;exact this
def Fs(p:List Int->Bool)(ls:List (List Int))(w:World)(e:Ending)(w':World):Prop:=∃r:Int,e=.returned (.int .i64 r)/\(decide (0<=r)=ls.any p)/\Below w.heap.size w w'
theorem JC(g:Nat)(lb:Array Value)(p:List Int->Bool)(D:∀args w,(callFunc g args).run z_ w=.ok (.enter g args) w)(A:Option Addr)(n c:Nat)(ls:List (List Int))(w:World)(h:mc w A n c ls)
  (hp:yB g lb p w):Calls z_ 167 #[.slice A n c,.func (.func g) #[] lb] w (Fs p ls w):=by
 have E:=h.small;have H:=U h;clear h;have u:=U hp;clear hp;go_enter Tryz.func167,Tryz.ntmps167
 go_wp2
 go_loopw [8] (λ i W=>∃k:Nat,k<=n/\i=.int .i64 k/\(ls.take k).any p=false/\Below w.heap.size w W) (λ i _=>n-(intOf i).toNat)
 case atStart=>exact⟨0,r_ _,rfl,rfl,v_ _ _⟩
 case round=>
  obtain⟨k,hk,rfl,v,y⟩:=hrel;have z:=U v;have d:=U y;clear v y
  by_cases q:k<n
  ·obtain⟨b,off,rfl,F,B⟩:=(H.o.below d.o).cells (by omega);obtain⟨a1,C,c1,G,m⟩:=B k q;clear B;have hl:k<ls.length:=by rw[H.o.len];exact q
   cases f:p (oR ls k)
   ·have j:=u.o.val false a1 C c1 (oR ls k) wr d.o m f;have r:=U f;have s:=U hl;clear f m hl
    go_wp2_with (go_at_fn g;refine j.mono ?_;clear j;rintro e w' ⟨rfl,l⟩;have t:=U l;clear l)
    go_roundw
    case rel=>exact⟨k+1,by omega,by go_num,Fp s.o r.o z.o,d.o.trans (t.o.mono d.o.size)⟩
    case measure=>simp[intOf];omega
   ·have j:=u.o.val true a1 C c1 (oR ls k) wr d.o m f;have r:=U f;have s:=U hl;clear f m hl
    go_wp2_with (go_at_fn g;refine j.mono ?_;clear j;rintro e w' ⟨rfl,l⟩;have t:=U l;clear l)
    go_ret;exact⟨k,rfl,by rw[Fo s.o r.o];simp,d.o.trans (t.o.mono d.o.size)⟩
  ·go_wp2;go_ret;exact⟨-1,rfl,by rw[Fq H.o.len q z.o];rfl,d.o⟩
theorem JD(g:Nat)(lb:Array Value)(p:List Int->Bool)(b:∀args w,(callFunc g args).run z_ w=.ok (.enter g args) w)(A:Option Addr)(n c:Nat)(ls:List (List Int))(w:World)(h:mc w A n c ls)
  (hp:yB g lb p w):Calls z_ 119 #[.slice A n c,.func (.func g) #[] lb] w λ e w'=>e=.returned (.bool (ls.any p))/\Below w.heap.size w w':=by
 have d:=JC g lb p b A n c ls w h hp;clear h hp;go_enter Tryz.func119,Tryz.ntmps119
 go_wp2_with (go_at_call 167;refine d.mono ?_;rintro e w' ⟨r,rfl,f,i⟩)
 all_goals
  go_ret;exact⟨lS (by rw[<-f]),i⟩
theorem JE(r:Bool)(g:Nat)(lb:Array Value)(p:List Int->Bool)(b:∀args w,(callFunc g args).run z_ w=.ok (.enter g args) w)(A:Option Addr)(n c:Nat)(ls:List (List Int))(w:World)(h:mc w A n c ls)
  (hp:yB g lb p w) (d:ls.any p=r):Calls z_ 119 #[.slice A n c,.func (.func g) #[] lb] w λ e w'=>e=.returned (.bool r)/\Below w.heap.size w w':=by
 have:=JD g lb p b A n c ls w h hp;rw[d] at this;exact this
theorem JF(b:List Bool)(ls:List (List Int)):ls.any (λ l=> !(oF b l))= !(ls.all (oF b)):=by rw[ZS]
theorem Bd(x:Int)(A:Option Addr)(n c:Nat)(ls:List (List Int))(A':Option Addr)(b c':Nat)(d:List Bool)(w:World)(h:mc w A n c ls)(h':kS w A' b c' d):
  Calls z_ 58 #[.agg #[.int .i64 x,.slice A n c],.slice A' b c'] w λ e w'=>e=.returned (.bool (vQ x ls d))/\Below w.heap.size w w':=by
 have m:Below w.heap.size w ((w.alloc (.cells #[.int .i64 x,.slice A n c] 24)).alloc (.cells #[.slice A' b c'] 28)):=((v_ _ _).alloc (w_ _) _).alloc (by simp) _;have g:=U ((uh.new w (.int .i64 x) (.slice A n c)).below ((v_ _ _).alloc (w_ _) (.cells #[.slice A' b c'] 28)));have u:((w.alloc (.cells #[.int .i64 x,.slice A n c] 24)).alloc (.cells #[.slice A' b c'] 28)).cell? ⟨w.heap.size+1,0,none⟩=some (.slice A' b c'):=by simp
 have t:=U (h.below m);have B:=U (h'.below m);have q:=U m;have C:=U u;clear h h' m u;have v:∀W,Below ((w.alloc (.cells #[.int .i64 x,.slice A n c] 24)).alloc (.cells #[.slice A' b c'] 28)).heap.size ((w.alloc (.cells #[.int .i64 x,.slice A n c] 24)).alloc (.cells #[.slice A' b c'] 28)) W->yB 118 #[.pointer (some ⟨w.heap.size+1,0,none⟩)] (λ l=> !(oF d l)) W:=by
  intro W y D E c1 F G H r;have i:=y.trans (H.mono y.size);exact JB (w.heap.size+1) D E c1 F A' b c' d G ((i.cell (p:=⟨w.heap.size+1,0,none⟩) (by simp)).trans C.o) r (B.o.below i)
 have I:=U v;clear v
 cases hk:(lB x ls==0)
 ·have j:vQ x ls d=false:=by unfold vQ;rw[hk];rfl
  rw[j];have f:=vP x A n c ls _ t.o;generalize lB x ls=O at f hk;clear j;go_enter Tryz.func58,Tryz.ntmps58
  go_upto_region 2 with fail
  generalize (w.alloc (.cells #[.int .i64 x,.slice A n c] 24)).alloc (.cells #[.slice A' b c'] 28)=J at*;have K:=g.o.c0;have L:=g.o.c1
  go_wp2_with (go_at_call 107;refine f.mono ?_;clear f;rintro e w' ⟨rfl,k⟩)
  go_ret;exact⟨rfl,q.o.trans (k.mono q.o.size)⟩
 ·have j:vQ x ls d=ls.all (oF d):=by unfold vQ;rw[hk];rfl
  rw[j];have f:=vP x A n c ls _ t.o;have z:lB x ls=0:=by simpa using hk
  rw[z] at f;clear j hk z
  cases r:ls.all (oF d)
  all_goals
   have M:=U ((JF d ls).trans (congrArg (!·) r));clear r;go_enter Tryz.func58,Tryz.ntmps58
   go_upto_region 2 with fail
   generalize (w.alloc (.cells #[.int .i64 x,.slice A n c] 24)).alloc (.cells #[.slice A' b c'] 28)=J at*;have K:=g.o.c0;have L:=g.o.c1
   go_wp2_with (first
    |(go_at_call 107;refine f.mono ?_;clear f;rintro e w1 ⟨rfl,k⟩;have s:=U k;have t1:=(g.o.below k).c1;clear k)
    |(go_at_call 119;refine(JE _ 118 _ _ Jz A n c ls _ (t.o.below s.o) (I.o _ s.o) M.o).mono ?_;rintro e P ⟨rfl,i⟩;have N:=U i;clear i))
   go_ret;exact⟨rfl,q.o.trans ((s.o.trans (N.o.mono s.o.size)).mono q.o.size)⟩
theorem kS.lq{w:World}(h:w.ownsRow base 4 1 (.slice A n c) n (gq.map Value.bool))(f:n<=140737488355328):kS w A n c gq:=by
 obtain⟨h1,l⟩:=h;have hl:gq.length=n:=by simpa using h1
 rcases l with⟨b,i⟩|⟨g,cap,cur,b,s,d,m,o,t,p⟩
 ·simp only[e_] at b;obtain⟨rfl,_,rfl⟩:=b;subst i;exact⟨hl,w_ _,f,r_ _,λ h=>absurd h (by omega)⟩
 ·simp only[e_] at b;obtain⟨rfl,_,rfl⟩:=b;refine⟨hl,m,f,o,λ i=>⟨g,0,rfl,?_,λ j u=>?_⟩⟩
  ·rcases a_ g w.heap.size with q|r
   ·exact q
   ·rw[Zv r] at d;cases d
  ·have e:cur[j]? =some (.bool (gq.getD j false)):=by
    have k:(cur.toList.take (n*1))[j]? =(gq.map Value.bool)[j]? :=by rw[p]
    rw[Zn (by omega),d_,x_ (by omega:j<gq.length)] at k;rw[<-Zd,k,y_,x_ (by omega:j<gq.length)];rfl
   simp[q_,d,e]
theorem JG:oF gq l=true↔∃x∈l,oa gq x=true:=by unfold oF;rw[Zg]
end
section
open Go.RowKit
def xL(n:Nat)(v:Int):Bool:=decide (0<v)&&decide (v<n)
theorem Be{v:Int}:xL n v=true↔0<v/\v<n:=by simp[xL]
theorem C5(B:Nat)(A:Option Addr)(n c:Nat)(v:Int)(w:World)(f:w.cell? ⟨B,0,none⟩=some (.slice A n c)):
  Calls z_ 206 #[.pointer (some ⟨B,0,none⟩),.int .i64 v] w λ e w'=>e=.returned (.bool (xL n v))/\w=w':=by
 by_cases b:0<v
 ·by_cases d:v<n
  all_goals
   go_enter Tryz.func206,Tryz.ntmps206
   go_wp2;go_ret;exact⟨lS (by simp[xL,b,d]),rfl⟩
 ·go_enter Tryz.func206,Tryz.ntmps206
  go_wp2;go_ret;exact⟨lS (by rw[xL,decide_eq_false (show¬0<v by omega)];rfl),rfl⟩
def nt(n:Int):Bool:=decide (n<0)||decide (1099511627776<n)
theorem Bf(x:Int)(w:World):Calls z_ 205 #[.int .i64 x] w λ e w'=>e=.returned (.bool (nt x))/\w=w':=by
 by_cases h1:x<0
 ·go_enter Tryz.func205,Tryz.ntmps205
  go_wp2;go_ret;exact⟨lS (by simp[nt,h1]),rfl⟩
 ·by_cases b:1099511627776<x
  all_goals
   go_enter Tryz.func205,Tryz.ntmps205
   go_wp2;go_ret;exact⟨lS (by simp[nt,h1,b]),rfl⟩
def vR(act:List Int)(a b:Int):Int:=sg (oE (jv act b.toNat) (jv act a.toNat)) (oE a b)
theorem JH(B b off n c:Nat)(act:List Int)(x y:Nat)(w:World)(d:B<w.heap.size)(f:b<w.heap.size)(g:w.cell? ⟨B,0,none⟩=some (.slice (some ⟨b,off,none⟩) n c))
  (i:x<n) (j:y<n) (k:n<=17592186044416) (l:w.cell? ⟨b,off+x,none⟩=some (.int .i64 (jv act x))) (m:w.cell? ⟨b,off+y,none⟩=some (.int .i64 (jv act y))):
  Calls z_ 207 #[.pointer (some ⟨B,0,none⟩),.int .i64 x,.int .i64 y] w λ e w'=>e=.returned (.int .i64 (vR act x y))/\Below w.heap.size w w':=by
 have o:(x:Int)<(n:Int):=by omega
 have p:(y:Int)<(n:Int):=by omega
 go_enter Tryz.func207,Tryz.ntmps207
 go_wp2;refine wp_region_still_tail 20 (by kernel_rfl) (by kernel_rfl) ?_;simp only[List.take_succ_cons,List.take_zero,List.drop_succ_cons,List.drop_zero]
 iterate 16 still_step
 still_call ((zJ _ _ _).mono (λ e w' h=>⟨h.1,h.2.symm⟩))
 still_step
 still_step
 still_call ((zJ _ _ _).mono (λ e w' h=>⟨h.1,h.2.symm⟩))
 refine wpStill_nil ?_;change wpList _ _ _ _ _ w.drew
 go_wp2_with fail
 refine(Bb w.heap.size (oE (jv act y) (jv act x)) (oE x y) _ (by go_simp) (by go_simp)).mono ?_;rintro e w' ⟨rfl,rfl⟩;go_wp2;go_ret;exact⟨qH (by simp[vR]),((v_ _ _).alloc (w_ _) _).drew⟩
def JI(b:List Int)(w:World)(e:Ending)(w':World):Prop:=∃r:Int,e=.returned (.int .i64 r)/\(decide (0<=r)=b.any nt)/\w=w'
theorem JJ(h:k<ah.length)(e:nt (jv ah k)=true):ah.any nt=true:=by
 rw[pW h] at e;rw[Zg];exact⟨_,s_ h,e⟩
theorem JK(h:k<ah.length)(e:nt (jv ah k)=false)(b:(ah.take k).any nt=false):(ah.take (k+1)).any nt=false:=by
 rw[tK ah k h,ZP,b];simp[e]
theorem JL(hl:ah.length=n)(h:¬k<n)(b:(ah.take k).any nt=false):ah.any nt=false:=by
 rw[p_ (by omega)] at b;exact b
theorem JM(A:Option Addr)(n c:Nat)(d:List Int)(w:World)(h:aN w A n c d):
  Calls z_ 142 #[.slice A n c,.func (.func 205) #[] #[]] w (JI d w):=by
 have q:=h.small;have H:=U h;clear h;go_enter Tryz.func142,Tryz.ntmps142
 go_wp2
 go_loop [8] (λ i=>∃k:Nat,k<=n/\i=.int .i64 k/\(d.take k).any nt=false) (λ i=>n-(intOf i).toNat)
 case atStart=>exact⟨0,r_ _,rfl,rfl⟩
 case round=>
  obtain⟨k,hk,rfl,j⟩:=hrel;have l:=U j;clear j
  by_cases f:k<n
  ·obtain⟨b,off,rfl,r,m⟩:=H.o.cells (by omega);have s:=m k f;clear m;generalize p:nt (jv d k)=o;have g:=U p;clear p
   cases o
   ·go_wp2_with (go_at_call 205;refine(Bf _ _).mono ?_;rintro e w' ⟨rfl,rfl⟩;rw[g.o])
    go_round
    case rel=>exact⟨k+1,by omega,by go_num,JK (by rw[H.o.len];exact f) g.o l.o⟩
    case measure=>simp[intOf];omega
   ·go_wp2_with (go_at_call 205;refine(Bf _ _).mono ?_;rintro e w' ⟨rfl,rfl⟩;rw[g.o])
    go_ret;exact⟨k,rfl,by rw[JJ (by rw[H.o.len];exact f) g.o];simp,rfl⟩
  ·go_wp2;go_ret;exact⟨-1,rfl,by rw[JL H.o.len f l.o];rfl,rfl⟩
theorem Bg(A:Option Addr)(n c:Nat)(b:List Int)(w:World)(h:aN w A n c b):
  Calls z_ 120 #[.slice A n c,.func (.func 205) #[] #[]] w λ e w'=>e=.returned (.bool (b.any nt))/\w=w':=by
 have H:=U h;clear h;go_enter Tryz.func120,Tryz.ntmps120
 go_wp2_with fail
 refine(JM A n c b _ H.o).mono ?_;rintro e w' ⟨r,rfl,d,rfl⟩;have f:=U d;clear d;go_wp2;go_ret;exact⟨lS f.o,rfl⟩
def tM(act l:List Int)(i:Nat):Bool:=xL act.length (jv l i)&&(decide (i=0)||decide (vR act (jv l (i-1)) (jv l i)<0))
def uj(act l:List Int):Bool:=(List.range l.length).all (tM act l)
def vr(act:List Int):Bool:=decide (0<act.length)&&decide (act.length<=65537)&&decide (jv act 0=0)&& !(act.any nt)
def wI(y:Int):Bool:=decide (y≠0)&& !(nt y)
def tN(act l:List Int)(y:Int):Bool:=vr act&&wI y&&uj act l
def yC(b:Bool):Int:=if b then 0 else 1
theorem C6{b:Bool}(h:x=yC b):ZQ (.int .i64 x)=.returned (.int .i64 (yC b)):=by rw[h]
theorem JN(B:Nat)(A:Option Addr)(n c:Nat)(act:List Int)(a b:Int)(w:World)(f:B<w.heap.size)(i:w.cell? ⟨B,0,none⟩=some (.slice A n c))(h:aN w A n c act)
  (j:0<=a/\a<n) (k:0<=b/\b<n):
  Calls z_ 207 #[.pointer (some ⟨B,0,none⟩),.int .i64 a,.int .i64 b] w λ e w'=>e=.returned (.int .i64 (vR act a b))/\Below w.heap.size w w':=by
 obtain⟨x,rfl⟩:=ZR j.1;obtain⟨y,rfl⟩:=ZR k.1;obtain⟨g,off,rfl,l,d⟩:=h.cells (by omega);exact JH B g off n c act x y w f l i (by omega) (by omega) h.small (d x (by omega)) (d y (by omega))
theorem Ft(h:∀i,i<k->tM act l i=true)(e:tM act l k=true):∀i,i<k+1->tM act l i=true:=by
 intro i c
 by_cases b:i=k
 ·subst b;exact e
 ·exact h i (by omega)
theorem JO(hl:l.length=n)(hk:¬k<n)(h:∀i,i<k->tM act l i=true):uj act l=true:=by
 unfold uj;rw[List.all_eq_true];intro i b;rw[List.mem_range] at b;exact h i (by omega)
theorem Fu(hk:k<l.length)(h:tM act l k=false):uj act l=false:=by
 unfold uj;rw[List.all_eq_false];exact⟨k,List.mem_range.2 hk,by simp[h]⟩
section
variable (B:Nat)(A:Option Addr)(n c:Nat)(act:List Int)(A':Option Addr)(ig c':Nat)(l:List Int)(y:Int)(w:World)
theorem JP(s:B<w.heap.size)(P:w.cell? ⟨B,0,none⟩=some (.slice A n c))(Q:w.cell? ⟨B,1,none⟩=some (.slice A' ig c'))(aj:w.cell? ⟨B,2,none⟩=some (.int .i64 y))
  (h:aN w A n c act) (h':aN w A' ig c' l) (D:vr act=true) (E:wI y=true):
  Calls z_ 164 #[.pointer (some ⟨B,0,none⟩)] w λ e w'=>e=.returned (.int .i64 (yC (uj act l)))/\Below w.heap.size w w':=by
 have ak:=h.small;have al:=h'.small;have hlen:=h.len;simp only[vr,wI,Zf,decide_eq_true_eq,Bool.not_eq_true',ne_eq,hlen] at D E;obtain⟨⟨⟨a1,a2⟩,a3⟩,a4⟩:=D;obtain⟨F,G⟩:=E;have an:((n:Int)==0)=false:=by simp;omega
 have z2:¬(65537:Int)<n:=by omega
 have z3:(jv act 0 !=0)=false:=by simp[a3]
 have z4:(y==0)=false:=by simpa using F
 obtain⟨b,off,rfl,ao,I⟩:=h.cells (by omega);have R:=I 0 (by omega);simp only[Z3] at R;have H:=U h;have j:=U h';have g:=U hlen;have S:=U a4;have T:=U G;clear h h' hlen a4 G a3 F I;go_enter Tryz.func164,Tryz.ntmps164
 go_wp2_with fail
 refine(Bg _ n c act _ H.o).mono ?_;rintro e w' ⟨rfl,rfl⟩;rw[S.o]
 go_wp2_with fail
 refine(Bf _ _).mono ?_;rintro e w' ⟨rfl,rfl⟩;rw[T.o]
 go_wp2_with fail
 go_loopw [64] (λ i wr=>∃k:Nat,k<=ig/\i=.int .i64 k/\(∀i,i<k->tM act l i=true)/\Below w.heap.size w wr) (λ i _=>ig-(intOf i).toNat)
 case atStart=>exact⟨0,r_ _,rfl,λ i V=>absurd V (Nat.not_lt_zero _),v_ _ _⟩
 case round=>
  obtain⟨k,hk,rfl,J,d⟩:=hrel;have m:=U J;clear J;have H1:=U (H.o.below d);obtain⟨t,W⟩:=I9 d;have X:B<wr.heap.size:=i_ s d.size;have q:=(t B 0 s).trans P;have aq:=(t B 1 s).trans Q;clear t W
  by_cases r:k<ig
  ·obtain⟨u,v,rfl,K,z⟩:=j.o.cells (by omega);have Y:=(d.cell (p:=⟨u,v+k,none⟩) K).trans (z k r);have C:0<k->wr.cell? ⟨u,v+(k-1),none⟩=some (.int .i64 (jv l (k-1))):=λ ar=>(d.cell (p:=⟨u,v+(k-1),none⟩) K).trans (z (k-1) (by omega))
   clear z;generalize L:xL n (jv l k)=Z;have f:=U L;clear L
   cases Z
   ·go_wp2_with (go_at_call 206;refine(C5 B _ n c _ _ q).mono ?_;rintro e w' ⟨rfl,rfl⟩;rw[f.o])
    go_ret;exact⟨C6 (by rw[Fu (k:=k) (by rw[j.o.len];exact r) (by simp[tM,g.o,f.o])];rfl),d⟩
   ·by_cases aa:k=0
    ·subst aa;simp only[Z3] at Y;clear C
     go_wp2_with (go_at_call 206;refine(C5 B _ n c _ _ q).mono ?_;rintro e w' ⟨rfl,rfl⟩;rw[f.o])
     go_roundw
     case rel=>exact⟨1,by omega,by go_num,Ft m.o (by simp[tM,g.o,f.o]),d⟩
     case measure=>simp[intOf];omega
    ·have ab:0<k:=by omega
     have au:(0:Int)<k:=by omega
     have av:=C ab;clear C;have hp:=m.o (k-1) (by omega);simp only[tM,Zf,g.o,Be] at hp;have ad:=hp.1;clear hp;have ae:=Be.1 f.o
     go_wp2_with fail
     refine(C5 B _ n c _ _ q).mono ?_;rintro e w' ⟨rfl,rfl⟩;rw[f.o]
     go_wp2_with fail
     refine(JN B _ n c act _ _ _ X q H1.o ⟨by omega,ad.2⟩ ⟨by omega,ae.2⟩).mono ?_;rintro e af ⟨rfl,ag⟩;generalize M:vR act (jv l (k-1)) (jv l k)=ah;have N:=U M;clear M;have O:Below w.heap.size w af:=d.trans (ag.mono d.size)
     by_cases ai:ah<0
     ·go_wp2_with fail
      go_roundw
      case rel=>exact⟨k+1,by omega,by go_num,Ft m.o (by simp only[tM,g.o,f.o,N.o];simp[ai]),O⟩
      case measure=>simp[intOf];omega
     ·go_wp2_with fail
      go_ret;exact⟨C6 (by rw[Fu (k:=k) (by rw[j.o.len];exact r) (by simp only[tM,g.o,f.o,N.o];simp;omega)];rfl),O⟩
  ·go_wp2_with fail
   go_ret;exact⟨C6 (by rw[JO j.o.len r m.o];rfl),d⟩
theorem JQ(m:B<w.heap.size)(p:w.cell? ⟨B,0,none⟩=some (.slice A n c))
  (h:aN w A n c act) (d:vr act=false):
  Calls z_ 164 #[.pointer (some ⟨B,0,none⟩)] w λ e w'=>e=.returned (.int .i64 1)/\Below w.heap.size w w':=by
 have q:=h.small;have hlen:=h.len
 by_cases a1:n=0
 ·have g:((n:Int)==0)=true:=by simp[a1]
  clear d h a1 hlen;go_enter Tryz.func164,Tryz.ntmps164
  go_wp2_with fail
  go_ret;exact⟨rfl,v_ _ _⟩
 have g:((n:Int)==0)=false:=by simp;omega
 by_cases a2:65537<n
 ·have z2:(65537:Int)<n:=by omega
  clear d h hlen;go_enter Tryz.func164,Tryz.ntmps164
  go_wp2_with fail
  go_ret;exact⟨rfl,v_ _ _⟩
 have z2:¬(65537:Int)<n:=by omega
 have hp:0<n:=by omega
 obtain⟨b,off,rfl,r,f⟩:=h.cells hp;have i:=f 0 hp;simp only[Z3] at i;clear f
 by_cases a3:jv act 0=0
 ·have z3:(jv act 0 !=0)=false:=by simp[a3]
  have a4:act.any nt=true:=by
   simp only[vr,hlen,a3] at d;have j:decide (0<n)=true:=by simpa using hp
   have k:decide (n<=65537)=true:=by simp;omega
   rw[j,k] at d;simpa using d
  have H:=U h;have l:=U a4;clear d h hlen a3 a4;go_enter Tryz.func164,Tryz.ntmps164
  go_wp2_with fail
  refine(Bg _ n c act _ H.o).mono ?_;rintro e w' ⟨rfl,rfl⟩;rw[l.o]
  go_wp2_with fail
  go_ret;exact⟨rfl,v_ _ _⟩
 ·have z3:(jv act 0 !=0)=true:=by simpa using a3
  clear d h hlen a3;go_enter Tryz.func164,Tryz.ntmps164
  go_wp2_with fail
  go_ret;exact⟨rfl,v_ _ _⟩
theorem JR(q:B<w.heap.size)(r:w.cell? ⟨B,0,none⟩=some (.slice A n c))(s:w.cell? ⟨B,2,none⟩=some (.int .i64 y))
  (h:aN w A n c act) (f:vr act=true) (g:wI y=false):
  Calls z_ 164 #[.pointer (some ⟨B,0,none⟩)] w λ e w'=>e=.returned (.int .i64 1)/\Below w.heap.size w w':=by
 have t:=h.small;have hlen:=h.len;simp only[vr,Zf,decide_eq_true_eq,Bool.not_eq_true',hlen] at f;obtain⟨⟨⟨a1,a2⟩,a3⟩,a4⟩:=f;have u:((n:Int)==0)=false:=by simp;omega
 have z2:¬(65537:Int)<n:=by omega
 have z3:(jv act 0 !=0)=false:=by simp[a3]
 obtain⟨b,off,rfl,v,i⟩:=h.cells (by omega);have l:=i 0 (by omega);simp only[Z3] at l;have H:=U h;have j:=U a4;have m:=U g;clear h hlen a4 a3 i g
 by_cases d:y=0
 ·have z4:(y==0)=true:=by simpa using d
  clear d;go_enter Tryz.func164,Tryz.ntmps164
  go_wp2_with fail
  refine(Bg _ n c act _ H.o).mono ?_;rintro e w' ⟨rfl,rfl⟩;rw[j.o]
  go_wp2_with fail
  go_ret;exact⟨rfl,v_ _ _⟩
 ·have z4:(y==0)=false:=by simpa using d
  have k:nt y=true:=by have:=m.o;simp only[wI] at this;simpa[d] using this
  have p:=U k;clear d k;go_enter Tryz.func164,Tryz.ntmps164
  go_wp2_with fail
  refine(Bg _ n c act _ H.o).mono ?_;rintro e w' ⟨rfl,rfl⟩;rw[j.o]
  go_wp2_with fail
  refine(Bf _ _).mono ?_;rintro e w' ⟨rfl,rfl⟩;rw[p.o]
  go_wp2_with fail
  go_ret;exact⟨rfl,v_ _ _⟩
theorem JS(f:B<w.heap.size)(g:w.cell? ⟨B,0,none⟩=some (.slice A n c))(j:w.cell? ⟨B,1,none⟩=some (.slice A' ig c'))(i:w.cell? ⟨B,2,none⟩=some (.int .i64 y))
  (h:aN w A n c act) (h':aN w A' ig c' l):
  Calls z_ 164 #[.pointer (some ⟨B,0,none⟩)] w λ e w'=>e=.returned (.int .i64 (yC (tN act l y)))/\Below w.heap.size w w':=by
 cases b:vr act
 ·have e:tN act l y=false:=by simp[tN,b]
  rw[e];exact JQ B A n c act w f g h b
 ·cases d:wI y
  ·have e:tN act l y=false:=by simp[tN,d]
   rw[e];exact JR B A n c act y w f g i h b d
  ·have e:tN act l y=uj act l:=by simp[tN,b,d]
   rw[e];exact JP B A n c act A' ig c' l y w f g j i h h' b d
theorem Fv(h:aN w A n c act)(h':aN w A' ig c' l):
  Calls z_ 111 #[.agg #[.slice A n c,.slice A' ig c',.int .i64 y]] w λ e w'=>e=.returned (.int .i64 (yC (tN act l y)))/\Below w.heap.size w w':=by
 have H:=U h;have b:=U h';clear h h';go_enter Tryz.func111,Tryz.ntmps111
 go_wp2_with fail
 refine(JS (w.heap.size+1) A n c act A' ig c' l y _ (by simp) (by go_simp) (by go_simp) (by go_simp) ((H.o.alloc _).alloc _) ((b.o.alloc _).alloc _)).mono ?_;rintro e f ⟨rfl,d⟩
 go_wp2_with fail
 go_ret;exact⟨rfl,(((v_ _ _).alloc (w_ _) _).alloc (by simp) _).trans (d.mono (by simp;omega))⟩
end
end
section
open Go.RowKit
def si(k:Nat):List Int:=(List.range k).map (λ i:Nat=>(i:Int)+1)
theorem wJ(k:Nat):(si k).length=k:=by simp[si]
theorem JU(k:Nat):si (k+1)=si k++[(k:Int)+1]:=by simp[si,List.range_succ]
def rO(k:Nat):List Int:=List.replicate k 0
theorem vt(k:Nat):(rO k).length=k:=by simp[rO]
theorem JV(k:Nat):(madeCells (u_ .i64 0).cells k).toList=(rO k).map (u_ .i64):=by
 show(madeCells #[u_ .i64 0] k).toList=_;rw[toList_madeCells_one];simp[rO]
def Fw(act l:List Int)(y:Int)(w:World)(e:Ending)(w':World):Prop:=
 ∃(A:Option Addr)(c:Nat)(A':Option Addr)(c':Nat),e=.returned (.tuple #[.agg #[.slice A act.length c,.slice A' l.length c',.int .i64 y],.int .i64 0])/\
  aN w' A act.length c act/\aN w' A' l.length c' l/\(∀b off,A=some ⟨b,off,none⟩->w.heap.size<=b)/\(∀b off,A'=some ⟨b,off,none⟩->w.heap.size<=b)/\Below w.heap.size w w'
theorem aN.nQ{w:World}(h:aN w A n c ah)(v:Value){p:Addr}(d:∀b off,A=some ⟨b,off,none⟩->b≠p.block):aN (w.setCell p v) A n c ah:=by
 refine⟨h.len,h.cap,h.mP,h.oo,λ f=>?_⟩;obtain⟨b,off,e,g,i⟩:=h.cells f;exact⟨b,off,e,by simpa[Z9] using g,λ j k=>(Z4 (Zw _ _ _ _ (d b off e))).trans (i j k)⟩
theorem JW{w w1:World}{o:Obj}(b:(w.alloc o).grownBy w1 row)(c:∀g,row=some g->base<=g)(d:i<base)(hs:i<w.heap.size):w1.heap[i]? =w.heap[i]? :=
 (b.block i (by simp;omega) (λ e=>by have:=c i e.symm;omega)).trans (Zr _ _ _ hs)
theorem JX{w:World}{iN jR ku v1:Value}(h:w.heap[B]? =some (.cells #[iN,jR,ku] t (0,0))):
  (w.setCell ⟨B,1,none⟩ v1).heap[B]? =some (.cells #[iN,v1,ku] t (0,0)):=by
 simp[Z9,Array.getElem?_modify,h]
theorem JY(n:Nat)(w:World)(h:n<=65536):
  Calls z_ 104 #[.int .i64 n] w (Fw (rO (n+1)) (si n) 1 w):=by
 obtain⟨i0,d,B,C,D⟩:=info_parts zK;have Q:∀W:World,(Instr.makeSlice 25 (.int .i64 ((n:Int)+1)) (.int .i64 ((n:Int)+1))).run z_ W=.ok (.slice (some ⟨W.heap.size,0,none⟩) (n+1) (n+1)) (W.alloc (.cells (madeCells (u_ .i64 0).cells (n+1)) 3)):=λ W=>by
  have:=run_make (P:=z_) W 25 3 i0 (.int .i64 0) Zm d B .i64 .i64 ((n:Int)+1) ((n:Int)+1) (by omega) (by omega) (by rw[D];omega) (by omega);rw[C,show((n:Int)+1).toNat=n+1 by omega,Nat.mul_one] at this;exact this
 generalize E:madeCells (u_ .i64 0).cells (n+1)=cs at Q;have F:=U E;clear E;go_enter Tryz.func104,Tryz.ntmps104
 go_wp2_with fail
 go_loopw [18] (λ i wr=>∃(k:Nat)(A:Option Addr)(c:Nat),k<=n/\i=.int .i64 k/\wr.heap[w.heap.size+1+1]? =some (.cells #[.slice (some ⟨w.heap.size+1,0,none⟩) (n+1) (n+1),.slice A k c,.int .i64 1] 44 (0,0))/\
   wr.heap[w.heap.size+1]? =some (.cells cs 3 (0,0))/\wr.heap[w.heap.size]? =some (.cells #[.slice none 0 0,.slice none 0 0,.int .i64 0] 44 (0,0))/\
   wr.ownsRow (w.heap.size+3) 3 1 (.slice A k c) k ((si k).map (u_ .i64))/\Below w.heap.size w wr/\w.heap.size+1+1<wr.heap.size) (λ i _=>n-(intOf i).toNat)
 case atStart=>
  refine⟨0,none,0,r_ _,rfl,?_,?_,?_,World.ownsRow_nil _ _ _ _,?_,by simp⟩
  ·have e:=Z6 ((w.alloc (.cells #[.slice none 0 0,.slice none 0 0,.int .i64 0] 44)).alloc (.cells cs 3)) (.cells #[.slice (some ⟨w.heap.size+1,0,none⟩) (n+1) (n+1),.slice none 0 0,.int .i64 1] 44);simpa using e
  ·have e:=Z6 (w.alloc (.cells #[.slice none 0 0,.slice none 0 0,.int .i64 0] 44)) (.cells cs 3);exact(Zr _ _ _ (by simp)).trans (by simpa using e)
  ·exact(Zr _ _ _ (by simp;omega)).trans ((Zr _ _ _ (by simp)).trans (Z6 _ _))
  ·exact(((v_ _ _).alloc (w_ _) _).alloc (by simp) _).alloc (by simp;omega) _
 case round=>
  obtain⟨k,A,c,hk,rfl,hH,G,f,j,s,t⟩:=hrel;have R:=U hH;have H:=U G;have q:=U f;have ag:wr.cell? ⟨w.heap.size+1+1,0,none⟩=some (.slice (some ⟨w.heap.size+1,0,none⟩) (n+1) (n+1)):=by simp[q_,hH]
  have I:wr.cell? ⟨w.heap.size+1+1,1,none⟩=some (.slice A k c):=by simp[q_,hH]
  have ah:wr.cell? ⟨w.heap.size+1+1,2,none⟩=some (.int .i64 1):=by simp[q_,hH]
  have J:wr.frozen? ⟨w.heap.size+1+1,1,none⟩=false:=by simp[Zj,hH]
  have l:∀i,i<3->∃u,wr.cell? ⟨w.heap.size,i,none⟩=some u:=λ i d=>by
   match i,d with
   |0,_=>exact⟨_,by simp[q_,f];rfl⟩
   |1,_=>exact⟨_,by simp[q_,f];rfl⟩
   |2,_=>exact⟨_,by simp[q_,f];rfl⟩
  clear hH G f
  by_cases ai:k<n
  ·clear l
   go_wp2_with (at_builtin;refine wpList_append_own_at _ rfl _ _ 25 rfl (w.heap.size+3) 3 i0 (.int .i64 0) 1 8 Zm d B C D rfl (by decide) _ _ _ rfl (j.alloc _) ⟨wr.heap.size,0,none⟩ 1 1 [.int .i64 ((k:Int)+1)] rfl rfl (cell_one_new _ _ _) (by simp[Value.oneCell']) (by unfold maxLen;omega) (by omega) (by simp;omega) ?_;intro v' w1 K y aj ak;obtain⟨S,T,rfl⟩:=yA K;have L:∀g,(Value.slice A k c).ownBlock=some g->w.heap.size+3<=g:=(λ g z=>(tc j z).1);have m:=(λ i (d:i<w.heap.size+3) (hs:i<wr.heap.size)=>JW y L d hs);have al:w1.cell? ⟨w.heap.size+1+1,1,none⟩=some (.slice A k c):=(Z4 (m (w.heap.size+1+1) (by omega) t)).trans I;have an:w1.frozen? ⟨w.heap.size+1+1,1,none⟩=false:=(World.frozen?_of_block (m (w.heap.size+1+1) (by omega) t)).trans J;clear I J)
   have V:=JX (v1:=.slice (some ⟨S,0,none⟩) (k+1) T) ((m (w.heap.size+1+1) (by omega) t).trans R.o);have ao:wr.heap.size<=w1.heap.size:=by have:=y.size;simp at this;omega
   go_roundw
   case rel=>
    refine⟨k+1,_,_,by omega,by go_num,V,?_,?_,?_,?_,?_⟩
    ·exact(Zw _ _ _ _ (by simp)).trans ((m (w.heap.size+1) (by omega) (by omega)).trans H.o)
    ·exact(Zw _ _ _ _ (by simp;omega)).trans ((m w.heap.size (by omega) (by omega)).trans q.o)
    ·rw[JU,Z0];exact ownsRow_setCell_below K (by simp) _
    ·exact((s.alloc s.size _).grown y (by simp;omega) (λ g z=>by have:=L g z;omega)).setCell (by simp;omega) _
    ·simp[Z9];omega
   case measure=>simp[intOf];omega
  ·have X:k=n:=by omega
   subst X;obtain⟨aq,Y⟩:=l 0 (by omega);obtain⟨ar,Z⟩:=l 1 (by omega);obtain⟨au,aa⟩:=l 2 (by omega);have av:wr.frozen? ⟨w.heap.size,0,none⟩=false:=by simp[Zj,q.o]
   have aw:wr.frozen? ⟨w.heap.size,1,none⟩=false:=by simp[Zj,q.o]
   have ax:wr.frozen? ⟨w.heap.size,2,none⟩=false:=by simp[Zj,q.o]
   clear l;have M:aN wr (some ⟨w.heap.size+1,0,none⟩) (k+1) (k+1) (rO (k+1)):=by
    have ab:(rO (k+1)).map (u_ .i64)=cs.toList:=by rw[<-F.o,JV]
    have ad:cs.size=k+1:=by rw[<-F.o,size_madeCells]
    exact aN.lq (base:=0) ⟨by simp[vt],c_ ⟨_,_,cs,rfl,r_ _,H.o,w_ _,by unfold maxLen;omega,by omega,by rw[ab,p_ (by simp[ad])]⟩⟩ (by omega)
   have N:aN wr A k c (si k):=aN.lq j (by omega);have O:∀b off,A=some ⟨b,off,none⟩->w.heap.size+3<=b:=λ b off e=>(tc j (g:=b) (by rw[e];rfl)).1
   have ae:=U M;have af:=U N;have r:=U O;clear M N O j
   go_wp2_with fail
   refine bodyPost_ret (v:=.tuple #[.agg #[.slice (some ⟨w.heap.size+1,0,none⟩) (k+1) (k+1),.slice A k c,.int .i64 1],.int .i64 0]) (by simp[results,Tryz.results104,go_sem,Y,Z,aa]) rfl ?_;refine⟨_,_,_,_,by rw[vt,wJ],?_,?_,λ b off e=>by cases e;omega,λ b off e=>by have:=r.o b off e;omega,((s.setCell (by simp) _).setCell (by simp) _).setCell (by simp) _⟩
   ·rw[vt];exact((ae.o.nQ _ (p:=⟨w.heap.size,0,none⟩) λ b off e=>by cases e;simp).nQ _ (p:=⟨w.heap.size,1,none⟩) λ b off e=>by cases e;simp).nQ _ (p:=⟨w.heap.size,2,none⟩) λ b off e=>by cases e;simp
   ·rw[wJ];exact((af.o.nQ _ (p:=⟨w.heap.size,0,none⟩) λ b off e=>by have:=r.o b off e;simp;omega).nQ _ (p:=⟨w.heap.size,1,none⟩) λ b off e=>by have:=r.o b off e;simp;omega).nQ _ (p:=⟨w.heap.size,2,none⟩) λ b off e=>by have:=r.o b off e;simp;omega
end
section
open Go.RowKit
variable {F:Fence}{n:Nat}{P:Program}
def C7{α:Type}(F:Fence)(n:Nat)(P:Program)(g:Nat)(lb:Array Value)(f:α->Array Value)(i:World->World->Prop)(j:List α->α->Prop)(S k:List α->Prop)(w:World):Prop:=
 ∀(l:Nat)(b d:List α->World->Prop)(W:World),Below w.heap.size w W->
  (∀pre x c,b pre c->j pre x->YieldAt F (n-1) P l (f x) c λ e W'=>
   (e=.returned (.bool true)/\b (pre++[x]) W'/\i c W')\/(e=.returned (.bool false)/\d (pre++[x]) W'))->
  b [] W->
  CallsIn F n P g (#[.func (.yield l) #[] #[]]++lb) W λ e W'=>(∃v,e=.returned v)/\((∃xs,S xs/\b xs W')\/(∃pre,k pre/\d pre W'))
def JZ(fn:FuncId)(tmps:Array Value)(b:Array Tmp)(assign body:Code)(D:Nat)(st:LoopState)(c:Option Code):Loop:=
 {state:=st,pending:=c,fn,tmps,params:=b,assign,body,defers:=D}
structure vv(W:World)(D:Nat)(r:Loop):Prop where
 log:W.heap[D+1]? =some (.loop r)
 Bi:W.heap[D]? =some (.deferred (some []))
theorem vv.put{W:World}{D:Nat}{r:Loop}(h:vv W D r)(r':Loop):vv (W.putObj (D+1) (.loop r')) D r':=
 ⟨World.putObj_heap_same (o_.1 h.log).1,(t_ (by omega)).trans h.Bi⟩
theorem vv.from{W W':World}{D:Nat}{r:Loop}(h:vv W D r)(hk:KeepsFrom D W W'):vv W' D r:=
 ⟨hk.same _ _ (by omega) h.log rfl,hk.same _ _ (w_ _) h.Bi rfl⟩
theorem Bj{α:Type}{g:Operand}{mu:Array Tmp}{assign body:Code}{Q:Exit->Act->World->Prop}{a:Act}{w:World}
  (ae:F.round=none) (h1:1<=n) {gf:Nat} {lb:Array Value} (af:a.eval g=.func (.func gf) #[] lb) (ag:F.fn gf) (ah:∀args w,(callFunc gf args).run P w=.ok (.enter gf args) w)
  {yD:α->Array Value} {vu:World->World->Prop} {zN:List α->α->Prop} {S Bh:List α->Prop} {w0:World} (ai:C7 F (n-1) P gf lb yD vu zN S Bh w0)
  (L:∀{A B C:World},vu A B->vu B C->vu A C) (U:∀(W:World)(l:Nat)(o aj:Obj),w.heap.size<=l->W.heap[l]? =some o->o.isCells=false->o.isWalk=false->vu W (W.putObj l aj)) (V:Below w0.heap.size w0 w) (ak:∀x,(yD x).size=mu.size)
  (f:List α->World->Prop) (E:Code->List α->World->Prop) (G:OwnFrom w.heap.size f) (H:∀c,OwnFrom w.heap.size (E c)) (al:f [] w) (X:α->World->Act) (j:α->World->World)
  (an:∀(l:Nat)(pre:List α)(x:α)(W:World)(K:Act->World->Prop),f pre W->zN pre x->K (X x W) (j x W)->
   assign.wpIn (F.inRound l) (n-1-1) P (Exit.then K (λ _ _ _=>False)) {tmps:=(mu.zip (yD x)).foldl (λ t (p,v)=>t.setIfInBounds p v) a.tmps,defers:=[]} W)
  (ao:∀(pre:List α)(x:α)(W:World),f pre W->KeepsFrom w.heap.size W (j x W)/\vu W (j x W))
  (aq:∀(l:Nat)(pre:List α)(x:α)(y W:World),f pre y->(∃o Y:Obj,W=(j x y).putObj (w.heap.size+1) o/\o.isCells=false/\(j x y).heap[w.heap.size+1]? =some Y/\Y.isCells=false)->zN pre x->w.heap.size+1<y.heap.size->body.wpIn (F.inRound l) (n-1-1) P (ownPostG w.heap.size vu f E (pre++[x]) W) (X x y) W)
  (ar:∀(D:Nat)(xs:List α)(W:World),w.heap.size<=D->S xs->f xs W->W.heap[D]? =some (.deferred (some []))->Q .normal {a with defers:={target:=.collected D,args:= #[]}::a.defers} W)
  (au:∀(D:Nat)(c:Code)(pre:List α)(W:World),w.heap.size<=D->Bh pre->E c pre W->W.heap[D]? =some (.deferred (some []))->c.wpIn F n P Q {a with defers:={target:=.collected D,args:= #[]}::a.defers} W):
  (Code.rangeFunc g mu assign body).wpIn F n P Q a w:=by
 refine wpIn_rangeFunc λ fn av=>?_
 rw[ae];obtain⟨b,k⟩:∃b:LoopState->Option Code->Loop,b=JZ fn a.tmps mu assign body w.heap.size:=⟨_,rfl⟩
 have aw:∀st z,(b st z).params=mu:=λ st z=>by rw[k];rfl
 have M:∀st z,(b st z).state=st:=λ st z=>by rw[k];rfl
 obtain⟨m,I⟩:∃m,(w.alloc (.deferred (some []))).alloc (.loop (b .ready none))=m:=⟨_,rfl⟩
 have ax:vv m w.heap.size (b .ready none):=by
  rw[<-I];refine⟨?_,(Zr _ _ _ (by simp)).trans (Zt w _)⟩;have:=Zt (w.alloc (.deferred (some []))) (.loop (b .ready none))
  rwa[World.size_alloc] at this
 refine⟨w.heap.size+1,[{target:=.collected w.heap.size,args:= #[]}],m,{target:=.fn (.func gf) lb,args:= #[.func (.yield (w.heap.size+1)) #[] #[]]},m,gf,
  #[.func (.yield (w.heap.size+1)) #[] #[]]++lb,m,by rw[<-I,k];exact run_enterLoop_outer _ _ _ _ _,by simp only[resolve,af];simp[go_sem],λ aE Z=>by simp[Target.leads] at Z;subst Z;exact ag,by simp[invoke,go_sem,ah],λ _=>h1,?_⟩
 refine(ai (w.heap.size+1) (λ pre W=>f pre W/\vv W w.heap.size (b .ready none)) (λ pre W=>∃c,E c pre W/\vv W w.heap.size (b .done (some c))) m (by
  rw[<-I];exact V.trans ((((v_ _ w).alloc (w_ _) _).alloc (by simp) _).mono V.size)) ?_ ⟨by rw[<-I];exact G.alloc _ (G.alloc _ al),ax⟩).mono ?_
 ·rintro pre x W ⟨q,N⟩ aa;have ab:=run_yield (P:=P) (args:=yD x) N.log (by rw[aw];exact ak x);rw[k] at ab;refine⟨fn,_,assign,body,ab,roundIn_of_wpIn av ?_⟩;have ad:=ao pre x W q;have J:=N.from ad.1
  refine an _ pre x W _ q aa ⟨_,run_beginRound J.log (by rw[M]),?_⟩;have ay:=J.put {b .ready none with state:=.busy};refine wpIn_mono (aq _ pre x W _ q ⟨_,_,rfl,rfl,J.log,rfl⟩ aa (o_.1 N.log).1) ?_;have az:vu W ((j x W).putObj (w.heap.size+1) (.loop {b .ready none with state:=.busy})):=L ad.2 (U _ _ _ _ (by omega) J.log rfl rfl);have fin:∀(jump:Option Code)(d:World),KeepsFrom w.heap.size ((j x W).putObj (w.heap.size+1) (.loop {b .ready none with state:=.busy})) d->
    ∃O,O=d.putObj (w.heap.size+1) (.loop (b (if jump.isNone then .ready else .done) jump))/\(Instr.endRound (w.heap.size+1) jump).run P d=.ok (.bool jump.isNone) O/\
    d.heap[w.heap.size+1]? =some (.loop {b .ready none with state:=.busy})/\vv O w.heap.size (b (if jump.isNone then .ready else .done) jump):=λ jump d R=>by
   have T:=ay.from R
   refine⟨_,rfl,?_,T.log,T.put _⟩;have:=run_endRound (P:=P) jump T.log;rw[k] at this⊢;exact this
  rintro e a3 d hp
  cases e with
  |normal=>
   obtain⟨R,aA,aB⟩:=hp;obtain⟨_,rfl,r,i,s⟩:=fin none d R;exact⟨_,_,r,.inl ⟨rfl,⟨G.putObj _ aB (by omega) i rfl,s⟩,L (L az aA) (U _ _ _ _ (by omega) i rfl rfl)⟩⟩
  |ret=>
   obtain⟨_,rfl,r,i,s⟩:=fin (some .ret) d hp.1;exact⟨_,_,r,.inr ⟨rfl,_,(H _).putObj _ hp.2 (by omega) i rfl,s⟩⟩
  |exit id=>
   obtain⟨_,rfl,r,i,s⟩:=fin (some (.exit id)) d hp.1;exact⟨_,_,r,.inr ⟨rfl,_,(H _).putObj _ hp.2 (by omega) i rfl,s⟩⟩
  |goto t=>
   obtain⟨_,rfl,r,i,s⟩:=fin (some (.goto t)) d hp.1;exact⟨_,_,r,.inr ⟨rfl,_,(H _).putObj _ hp.2 (by omega) i rfl,s⟩⟩
  |panic aF=>exact hp.elim
  |outgrown=>exact hp.elim
 ·rintro e aG ⟨⟨v,rfl⟩,(⟨xs,aC,q,u⟩|⟨pre,aD,c,q,u⟩)⟩
  ·exact⟨none,_,by have:=run_endLoop (P:=P) u.log (by rw[M];simp);rw[k] at this;exact this,ar _ xs _ (w_ _) aC (G.putObj _ q (by omega) u.log rfl) ((t_ (by omega)).trans u.Bi)⟩
  ·exact⟨some c,_,by have:=run_endLoop (P:=P) u.log (by rw[M];simp);rw[k] at this;exact this,au _ c pre _ (w_ _) aD ((H c).putObj _ q (by omega) u.log rfl) ((t_ (by omega)).trans u.Bi)⟩
def zO(ops:List Oper):Bool:=ops.all λ o=>match o.op with| .defer _=>false|_=>true
theorem J1{ops:List Oper}(h:zO ops=true){i:Nat}{o:Oper}(b:ops.toArray[i]? =some o):∀c,o.op≠ .defer c:=by
 intro c e;have hm:o∈ops:=by
  rw[ZK] at b;exact List.mem_of_getElem? b
 have:=List.all_eq_true.1 h o hm;rw[e] at this
 cases this
theorem J2{o:Oper}(g:∀c,o.op≠ .defer c){l:Nat}{a:Act}{w:World}{next:Act->World->Prop}{Q:Exit->Act->World->Prop}(i:¬LetsOut Q)(h:o.wp P a w next Q):o.wpIn (b_.inRound l) n P a w next Q:=by
 unfold Oper.wp at h;unfold Oper.wpIn;refine⟨λ _ _=>trivial,?_⟩;rw[Oper.semAt_eq _ _ _ g];generalize (execOp a.eval o).run P w=r at*
 cases r with
 |ok x w'=>
  cases x with
  |enter f args=>exact⟨λ h=>by simp[Fence.inRound,b_] at h,(callsIn_wide (n:=n-1)).2 (Calls.mono h λ e j he=>by cases e<;>exact he)⟩
  |row r args=>exact⟨λ h=>by simp[Fence.inRound,b_] at h,λ c cs _=>let ⟨v,w',r,s⟩:=h c cs;⟨v,w',r,stepsIn_wide.2 s⟩⟩
  |round l f t s b=>exact h.elim
  |value v=>exact h
  |skip=>exact h
  |defer d=>exact h
  |_=>exact h.elim
 |halt x w'=>cases x<;>exact h
theorem zP{ops:List Oper}{l:Nat}{Q:Exit->Act->World->Prop}(c:zO ops=true)(b:¬LetsOut Q):∀(L:List Nat)(a:Act)(w:World),wpOps P ops.toArray Q L a w->wpOpsIn (b_.inRound l) n P ops.toArray Q L a w
 |[],a,w,h=>h
 |i::rest,a,w,h=>by
  simp only[wpOps] at h;simp only[wpOpsIn]
  cases d:ops.toArray[i]? with
  |none=>rw[d] at h;exact zP c b rest a w h
  |some o=>
   rw[d] at h;dsimp only at h⊢;split at h
   ·rename_i hw;rw[if_pos hw];rcases h with h|h
    ·exact Oper.wpIn_mono (λ a w h=>zP c b rest a w h) (J2 (J1 c d) b h)
    ·exact absurd h.2 b
   ·rename_i hw;rw[if_neg hw];exact⟨λ _ _=>trivial,zP c b rest _ w h⟩
theorem J3{id:Nat}{ops:List Oper}{l:Nat}{Q:Exit->Act->World->Prop}{a:Act}{w:World}(hm:P.follows .mixedOrders=true)(b:zO ops=true)(c:¬LetsOut Q)
  (h:wpAny P .any ops.toArray Q ops.toArray.size (ZN ops.toArray.size false) a {w with drawn:=w.drawn+1}):(ZL id ops.toArray true).wpIn (b_.inRound l) n P Q a w:=
 wpIn_region_draw λ t=>by
  simp only[Region.schedule,hm,Bool.true_or,if_true];exact zP b c _ _ _ (wpAny_sound ops.toArray.size t _ a _ h)
theorem C8{id:Nat}{l:Nat}{Q:Exit->Act->World->Prop}{a:Act}{w:World}{ops:List Oper}(m:Nat)(hm:P.follows .mixedOrders=true)(o:zO ops=true)(p:¬LetsOut Q)(d:Region.lexTailB .any ops.toArray m=true)
  (h:wpStill P ops.toArray {w with drawn:=w.drawn+1} (λ c=>wpList P ops.toArray Q (ops.drop m) c {w with drawn:=w.drawn+1}) (ops.take m) a):(ZL id ops.toArray true).wpIn (b_.inRound l) n P Q a w:=by
 simp only[Region.lexTailB,Zf,decide_eq_true_eq] at d;obtain⟨⟨⟨⟨h1,e⟩,q⟩,r⟩,f⟩:=d;have y:m<ops.length:=by simpa using e
 have b:(ops.take m).length=m:=by simp;omega
 have s:m+(ops.drop m).length=ops.toArray.size:=by simp;omega
 have u:ops.toArray.size-m=(ops.drop m).length:=by simp
 rw[u] at f;have H:=wpAnyL_lex (md:=.any) (g:=(ops.drop m).length) h1 q r e (ops.take m) 0 _ a (λ j i=>by rw[b] at i;simp[i]) (by simpa using b)
  (show HeadInv .any ops.toArray m (ZN ops.toArray.size false) from⟨by simp,λ j z _ hl=>(by rw[getD_replicate_false] at hl;cases hl),λ t _ v=>getD_in (by simpa using v) (getD_replicate_false _ _)⟩) (by rw[b];exact f) h
 refine J3 hm o p ?_;have K:=wpAny_of_head (Q':=Q) (g:=(ops.drop m).length) (λ listed c k=>wpAny_of_seq (md:=.any) (Q':=Q) (ops.drop m) m listed c _ (λ j=>by simp[List.getElem?_drop]) k.1 k.2) _ _ _ H;rw[b,s] at K;exact K
def oS(D:Nat):Deferred:={target:=.collected D,args:= #[]}
structure Shut(ds:List Nat)(W W':World):Prop where
 os:W'.os=W.os
 tape:W'.tape=W.tape
 output:W'.output=W.output
 size:W'.heap.size=W.heap.size
 block:∀k,k∉ds->W'.heap[k]? =W.heap[k]?
theorem Shut.below{ds:List Nat}{W W' w:World}{C9:Nat}(h:Shut ds W W')(b:Below C9 w W)(c:∀D∈ds,C9<=D):Below C9 w W':=
 ⟨h.os.trans b.os,h.tape.trans b.tape,h.output.trans b.output,by rw[h.size];exact b.size,λ k hk=>(h.block k (λ hm=>by have:=c k hm;omega)).trans (b.block k hk)⟩
theorem Shut.cell{ds:List Nat}{W W':World}(h:Shut ds W W'){p:Addr}(hp:p.block∉ds):W'.cell? p=W.cell? p:=Z4 (w:=W) (h.block p.block hp)
theorem Fx{F:Fence}{n:Nat}{P:Program}{fn:Func}{tmps:Array Value}{aO:Ending->World->Prop}{u:FrameMode}(hu:u≠ .run):∀(ds:List Nat)(W:World),ds.Nodup->(∀D∈ds,W.heap[D]? =some (.deferred (some [])))->
  (∀W',Shut ds W W'->LeavesIn F n P fn tmps aO [] u W')->LeavesInM F n P fn tmps aO (ds.map oS) u W
 |[],W,_,_,h=>h W ⟨rfl,rfl,rfl,rfl,λ _ _=>rfl⟩
 |D::ds,W,f,b,h=>by
  have c:=ZM.1 f;refine⟨hu,.inl ⟨D,_,rfl,run_takeDeferred (b D (by simp)),Fx hu ds _ c.2 (λ E d=>?_) (λ W' hs=>h W' ?_)⟩⟩
  ·rw[t_ (by intro e;subst e;exact c.1 d)];exact b E (by simp[d])
  ·refine⟨hs.os,hs.tape,hs.output,hs.size.trans (by simp[World.putObj]),λ k hk=>?_⟩;simp only[Zx,not_or] at hk;rw[hs.block k hk.2,t_ (by intro e;exact hk.1 e)]
theorem Bk{f:FuncId}{fn:Func}{c:Code}{args:Array Value}{w:World}{aO:Ending->World->Prop}(b:P.funcs[f]? =some fn)(d:fn.body=some c)
  (h:c.wp P (bodyPostM b_ 6 P fn aO) {tmps:=args++ZN (fn.ntmps-args.size) undef,defers:=[]} w):Calls P f args w aO:=
 (callsIn_wide (n:=6)).1 (callsIn_of_wp_marks b d trivial (wpIn_wide.2 h) rfl)
theorem J4{fn:Func}{aO:Ending->World->Prop}{a:Act}{w:World}{v:Value}(b:(results fn a.tmps).run P w=.ok v w)(c:a.defers=[])(d:aO (.returned v) w):bodyPostM b_ 6 P fn aO .ret a w:=by
 show LeavesInM _ _ _ _ _ _ a.defers _ _;rw[c];exact⟨v,b,d⟩
theorem Bl{fn:Func}{aO:Ending->World->Prop}{a:Act}{w:World}(ds:List Nat)(b:a.defers=ds.map oS)(c:ds.Nodup)(d:∀D∈ds,w.heap[D]? =some (.deferred (some [])))
  (h:∀W',Shut ds w W'->∃v,(results fn a.tmps).run P W'=.ok v W'/\aO (.returned v) W'):bodyPostM b_ 6 P fn aO .ret a w:=by
 show LeavesInM _ _ _ _ _ _ a.defers _ _;rw[b];exact Fx (by simp) ds _ c d h
theorem Fy{F:Fence}{n:Nat}{P:Program}{fn:Func}{tmps:Array Value}{aO:Ending->World->Prop}{u:FrameMode}(hu:u≠ .run)(rest:List Deferred):∀(ds:List Nat)(W:World),ds.Nodup->(∀D∈ds,W.heap[D]? =some (.deferred (some [])))->
  (∀W',Shut ds W W'->LeavesInM F n P fn tmps aO rest u W')->LeavesInM F n P fn tmps aO (ds.map oS++rest) u W
 |[],W,_,_,h=>h W ⟨rfl,rfl,rfl,rfl,λ _ _=>rfl⟩
 |D::ds,W,f,b,h=>by
  have c:=ZM.1 f;refine⟨hu,.inl ⟨D,_,rfl,run_takeDeferred (b D (by simp)),Fy hu rest ds _ c.2 (λ E d=>?_) (λ W' hs=>h W' ?_)⟩⟩
  ·rw[t_ (by intro e;subst e;exact c.1 d)];exact b E (by simp[d])
  ·refine⟨hs.os,hs.tape,hs.output,hs.size.trans (by simp[World.putObj]),λ k hk=>?_⟩;simp only[Zx,not_or] at hk;rw[hs.block k hk.2,t_ (by intro e;exact hk.1 e)]
theorem Fz{n:Nat}{P:Program}{id:Nat}{l:Nat}{Q:Exit->Act->World->Prop}{a:Act}{w:World}{ops:List Oper}(b:zO ops=true)(c:¬LetsOut Q)(h:wpList P ops.toArray Q ops a w):(ZL id ops.toArray false).wpIn (b_.inRound l) n P Q a w:=by
 refine wpIn_region (zP b c _ a w ?_);rw[List.range_eq_range',<-Array.length_toList,wpOps_eq_wpList _ 0 (by simp)];simpa using h
end
section
open Go.RowKit
structure aq where
 A:Option Addr
 n:Nat
 c:Nat
def aq.v(h:aq):Value:=.slice h.A h.n h.c
def aq.b(h:aq):Option Nat:=h.A.map (·.block)
def lX:aq:=⟨none,0,0⟩
theorem aq.own(h:aq):h.v.ownBlock=h.b:=by
 obtain⟨A,n,c⟩:=h
 cases A<;>rfl
theorem aq.lq{w:World}{v:Value}(h:w.ownsRow base e size v n xs):∃k:aq,v=k.v/\k.n=n:=by
 rcases h.2 with⟨rfl,rfl⟩|⟨g,cap,cur,rfl,_⟩
 ·exact⟨lX,rfl,rfl⟩
 ·exact⟨⟨_,_,_⟩,rfl,rfl⟩
def iH{l5 α:Type}[DecidableEq l5](f:l5->α)(r:l5)(x:α):l5->α:=λ y=>if y=r then x else f y
theorem jC[DecidableEq l5](f:l5->α)(r:l5)(x:α):iH f r x r=x:=if_pos rfl
theorem aV[DecidableEq l5](f:l5->α){r y:l5}(x:α)(h:y≠r):iH f r x y=f y:=if_neg h
def aM(w:World)(b:Nat)(t:TypeId)(cs:List Value):Prop:=w.heap[b]? =some (.cells cs.toArray t (0,0))
theorem aM.lt{w:World}{b:Nat}(h:aM w b t cs):b<w.heap.size:=(o_.1 h).1
theorem aM.cell{w:World}{b:Nat}(h:aM w b t cs)(k:Nat):w.cell? ⟨b,k,none⟩=cs[k]? :=by
 simp[q_,show w.heap[b]? =_ from h]
theorem aM.free{w:World}{b:Nat}(h:aM w b t cs)(k:Nat):w.frozen? ⟨b,k,none⟩=false:=by
 simp[Zj,show w.heap[b]? =_ from h]
theorem aM.kept{w:World}{b:Nat}(h:aM w b t cs)(c:w.grownBy w' row)(d:some b≠row):aM w' b t cs:=(c.block b h.lt d).trans h
theorem aM.below{w:World}{b:Nat}(h:aM w b t cs)(c:Below w.heap.size w w'):aM w' b t cs:=(c.block b h.lt).trans h
theorem aM.new(w:World)(t:TypeId)(cs:List Value):aM (w.alloc (.cells cs.toArray t)) w.heap.size t cs:=Z6 w _
theorem aM.set{w:World}{b:Nat}{t:TypeId}{cs:List Value}(h:aM w b t cs)(k:Nat)(v:Value):aM (w.setCell ⟨b,k,none⟩ v) b t (cs.set k v):=by
 unfold aM at*;have:=heap_setCell_same w b k cs.toArray t v h;rw[this];simp
theorem kK(w:World)(b k:Nat)(v:Value):w.grownBy (w.setCell ⟨b,k,none⟩ v) (some b):=
 ⟨rfl,rfl,rfl,by simp[Z9],λ j d c=>Zw _ _ _ _ (λ e=>c (by rw[e]))⟩
structure l9{l5:Type}(base:Nat)(ty:l5->TypeId)(nV:l5->Nat)(w:World)(hs:l5->aq)(X:l5->List Value):Prop where
 row:∀r,w.ownsRow base (ty r) (nV r) (hs r).v (hs r).n (X r)
 apart:∀r r' g,r≠r'->(hs r).b=some g->(hs r').b≠some g
section
variable {l5:Type}{base:Nat}{ty:l5->TypeId}{nV:l5->Nat}{w w':World}{hs:l5->aq}{X:l5->List Value}
theorem l9.kept{row:Option Nat}(h:l9 base ty nV w hs X)(c:w.grownBy w' row)(d:∀r g,(hs r).b=some g->row≠some g):l9 base ty nV w' hs X:=by
 refine⟨λ r=>(h.row r).kept c ?_,h.apart⟩;rw[aq.own]
 cases f:(hs r).b with
 |none=>exact h_ rfl
 |some g=>exact c_ λ e=>d r g f e.symm
theorem l9.below(h:l9 base ty nV w hs X)(c:Below w.heap.size w w'):l9 base ty nV w' hs X:=
 ⟨λ r=>(h.row r).kept ⟨c.os,c.tape,c.output,c.size,λ k hk _=>c.block k hk⟩ (by
  rw[aq.own];exact Or.imp id (λ(h:(hs r).b≠none)=>h) (Decidable.em ((hs r).b=none))),h.apart⟩
theorem l9.len(h:l9 base ty nV w hs X)(r:l5):(X r).length=(hs r).n*nV r:=(h.row r).1
theorem l9.lt(h:l9 base ty nV w hs X){r:l5}{g:Nat}(c:(hs r).b=some g):base<=g/\g<w.heap.size:=(h.row r).lt g (by rw[aq.own];exact c)
theorem l9.addr(h:l9 base ty nV w hs X){r:l5}(c:(hs r).n≠0):∃g,(hs r).A=some ⟨g,0,none⟩/\(hs r).b=some g:=by
 rcases(h.row r).2 with⟨_,d⟩|⟨g,cap,cur,e,_⟩
 ·exact absurd d c
 ·have:(hs r).A=some ⟨g,0,none⟩:=by
   have:=e;unfold aq.v at this;injection this
  exact⟨g,this,by unfold aq.b;rw[this];rfl⟩
theorem l9.form(h:l9 base ty nV w hs X){r:l5}{g:Nat}(d:(hs r).b=some g):(hs r).A=some ⟨g,0,none⟩/\w.ownsRow base (ty r) (nV r) (.slice (some ⟨g,0,none⟩) (hs r).n (hs r).c) (hs r).n (X r):=by
 have f:=h.row r;rcases f.2 with⟨h1,_⟩|⟨j,cap,cur,i,_⟩
 ·unfold aq.v at h1;injection h1 with h1
  unfold aq.b at d;rw[h1] at d;cases d
 ·unfold aq.v at i;injection i with h1 e k
  have:j=g:=by
   unfold aq.b at d;rw[h1] at d;injection d
  subst this;refine⟨h1,?_⟩;have e:=f;unfold aq.v at e;rw[h1] at e;exact e
theorem l9.cell(h:l9 base ty nV w hs X){r:l5}{g:Nat}(c:(hs r).b=some g){k:Nat}(hk:k<(hs r).n*nV r):w.cell? ⟨g,k,none⟩=(X r)[k]? :=(h.form c).2.cellAt k hk
theorem l9.free(h:l9 base ty nV w hs X){r:l5}{g:Nat}(c:(hs r).b=some g)(k:Nat):w.frozen? ⟨g,k,none⟩=false:=(h.form c).2.frozenAt k
theorem l9.Da(h:l9 base ty nV w hs X){b:Nat}{t:TypeId}{cs:List Value}(f:aM w b t cs)(i:∀r,ty r≠t)(r:l5)(g:Nat)(j:(hs r).b=some g):some b≠some g:=by
 intro e;injection e with e
 subst e;rcases((h.form j).2).2 with⟨h1,_⟩|⟨l,cap,cur,c,_,d,_⟩
 ·cases h1
 ·injection c with c
  injection c with c
  injection c with c
  subst c;rw[show w.heap[b]? =_ from f] at d;injection d with d
  injection d with _ k
  exact i r k.symm
variable [DecidableEq l5]
theorem l9.set(h:l9 base ty nV w hs X){r:l5}{g:Nat}(c:(hs r).b=some g)(k:Nat)(v:Value):l9 base ty nV (w.setCell ⟨g,k,none⟩ v) hs (iH X r ((X r).set k v)):=by
 refine⟨λ r'=>?_,h.apart⟩
 by_cases e:r'=r
 ·subst e;rw[jC];have:=(h.form c).2.stored k v;unfold aq.v;rw[(h.form c).1];exact this.1
 ·rw[aV _ _ e];refine(h.row r').kept (kK w g k v) ?_;rw[aq.own];exact c_ λ d=>h.apart r r' g (λ f=>e f.symm) c d
theorem l9.iS(h:l9 base ty nV w hs X){r:l5}{h':aq}{ys:List Value}(m:w.grownBy w' (hs r).b)(o:w'.ownsRow base (ty r) (nV r) h'.v h'.n ys)(c:h'.b=(hs r).b\/∀g,h'.b=some g->w.heap.size<=g):
  l9 base ty nV w' (iH hs r h') (iH X r ys):=by
 refine⟨λ r'=>?_,λ f i g k h1=>?_⟩
 ·by_cases e:r'=r
  ·subst e;rw[jC,jC];exact o
  ·rw[aV _ _ e,aV _ _ e];refine(h.row r').kept m ?_;rw[aq.own]
   cases p:(hs r').b with
   |none=>exact h_ rfl
   |some g=>exact c_ λ d=>h.apart r' r g e p d.symm
 ·by_cases l:f=r
  ·subst l;have d:i≠f:=λ e=>k e.symm
   rw[jC] at h1;rw[aV _ _ d];rcases c with c|c
   ·rw[c] at h1;exact h.apart f i g k h1
   ·intro j;have:=c g h1;have:=(h.lt j).2;omega
  ·rw[aV _ _ l] at h1
   by_cases d:i=r
   ·subst d;rw[jC];intro j;rcases c with c|c
    ·rw[c] at j;exact h.apart f i g k h1 j
    ·have:=c g j;have:=(h.lt h1).2;omega
   ·rw[aV _ _ d];exact h.apart f i g k h1
theorem J5{e:TypeId}{size:Nat}{g n cap k:Nat}{xs:List Value}(h:w.ownsRow base e size (.slice (some ⟨g,0,none⟩) n cap) n xs)(hk:k<=n):w.ownsRow base e size (.slice (some ⟨g,0,none⟩) k cap) k (xs.take (k*size)):=by
 rcases h.2 with⟨h1,_⟩|⟨m,o,cur,c,h1,d,p,f,i,j⟩
 ·cases h1
 ·injection c with b _ l
  injection b with b
  injection b with b
  subst b;subst l;have hle:k*size<=n*size:=Nat.mul_le_mul_right _ hk;refine⟨by rw[j_,h.1];omega,.inr ⟨_,_,cur,rfl,h1,d,by omega,f,i,?_⟩⟩;rw[<-j,Z5]
  congr 1
  omega
theorem l9.cut(h:l9 base ty nV w hs X){r:l5}{g:Nat}(d:(hs r).b=some g){k:Nat}(hk:k<=(hs r).n):l9 base ty nV w (iH hs r ⟨(hs r).A,k,(hs r).c⟩) (iH X r ((X r).take (k*nV r))):=by
 refine h.iS ⟨rfl,rfl,rfl,w_ _,λ _ _ _=>rfl⟩ ?_ (h_ rfl);unfold aq.v;rw[(h.form d).1];exact J5 (h.form d).2 hk
end
end
section
def aI(x:Int):Nat:=x.natAbs
theorem oG(x:Int):aI (-x)=aI x:=Int.natAbs_neg x
theorem zQ(h:aI x=aI y):x=y\/x= -y:=Int.natAbs_eq_natAbs_iff.1 h
def jy(x:Int):Nat:=if x<0 then 2*x.natAbs+1 else 2*x.natAbs
theorem vT(h:jy x=jy y):x=y:=by
 unfold jy at h;split at h<;>split at h<;>omega
def gF(n:Nat)(x:Int):Prop:=1<=aI x/\aI x<=n
theorem gF.neg(h:gF n x):gF n (-x):=by unfold gF at*;rw[oG];exact h
theorem gF.oH(h:gF n x):x≠0:=by rintro rfl;have:=h.1;simp[aI] at this
theorem gF.at(h:gF n x):jy x<2*n+2:=by unfold jy;unfold gF aI at h;split<;>omega
def Mod(M:Int->Bool):Prop:=∀x,x≠0->M (-x)= !(M x)
def uk(M:Int->Bool)(l:List Int):Prop:=∃x∈l,M x=true
def tO(M:Int->Bool)(F:List (List Int)):Prop:=Mod M/\∀l∈F,uk M l
def pM(F:List (List Int))(l:List Int):Prop:=∀M,tO M F->uk M l
def Unsat(F:List (List Int)):Prop:=∀M,¬tO M F
structure oT(n:Nat)(l:List Int):Prop where
 ne:l≠ []
 lt:∀x∈l,gF n x
 nu:l.Nodup
 ic:∀x∈l,¬-x∈l
def vw(l:List Int):Prop:=∃x∈l,x≠0/\ -x∈l
theorem vw.J6{M:Int->Bool}(b:Mod M){l:List Int}(h:vw l):uk M l:=by
 obtain⟨x,c,d,e⟩:=h
 cases hm:M x with
 |true=>exact⟨x,c,hm⟩
 |false=>exact⟨-x,e,by rw[b x d,hm];rfl⟩
structure Core where
 n:Nat
 wt:List (List Nat)
 val:List Int
 lvl:List Nat
 j9:List (Option Nat)
 av:List Int
 st:List Nat
 ag:Nat
 lC:Bool
 cl:List (List Int)
def ai(l:List Int)(k:Nat):Int:=l.getD k 0
def gO(l:List Nat)(k:Nat):Nat:=l.getD k 0
def aA{α:Type}(l:List (List α))(k:Nat):List α:=l.getD k []
def mw(l:List (Option Nat))(k:Nat):Option Nat:=l.getD k none
theorem nC(h:k<l.length):ai l k=l[k]:=by simp[ai,y_,x_ h]
theorem vz{l:List Nat}(h:k<l.length):gO l k=l[k]:=by simp[gO,y_,x_ h]
theorem FA{l:List (List α)}(h:k<l.length):aA l k=l[k]:=by simp[aA,y_,x_ h]
theorem FB{l:List (Option Nat)}(h:k<l.length):mw l k=l[k]:=by simp[mw,y_,x_ h]
theorem lY(h:k<l.length):ai l k∈l:=by rw[nC h];exact s_ h
theorem o9(l:List Int)(k j:Nat)(x:Int):ai (l.set k x) j=if k=j/\k<l.length then x else ai l j:=by
 simp only[ai,y_,Zl]
 by_cases h:k=j
 ·subst h
  by_cases b:k<l.length
  ·simp[b]
  ·simp[b]
 ·simp[h]
theorem J7(l:List Nat)(k j:Nat)(x:Nat):gO (l.set k x) j=if k=j/\k<l.length then x else gO l j:=by
 simp only[gO,y_,Zl]
 by_cases h:k=j
 ·subst h
  by_cases b:k<l.length
  ·simp[b]
  ·simp[b]
 ·simp[h]
theorem qI(l:List (List α))(k j:Nat)(x:List α):aA (l.set k x) j=if k=j/\k<l.length then x else aA l j:=by
 simp only[aA,y_,Zl]
 by_cases h:k=j
 ·subst h
  by_cases b:k<l.length
  ·simp[b]
  ·simp[b]
 ·simp[h]
theorem wK(l:List (Option Nat))(k j:Nat)(x:Option Nat):mw (l.set k x) j=if k=j/\k<l.length then x else mw l j:=by
 simp only[mw,y_,Zl]
 by_cases h:k=j
 ·subst h
  by_cases b:k<l.length
  ·simp[b]
  ·simp[b]
 ·simp[h]
theorem sJ{a b:List Int}(h:k<a.length):ai (a++b) k=ai a k:=by
 simp only[ai,y_,Zo h]
theorem xM(a:List Int)(x:Int):ai (a++[x]) a.length=x:=by simp[ai,y_]
theorem xN{a b:List Nat}(h:k<a.length):gO (a++b) k=gO a k:=by
 simp only[gO,y_,Zo h]
theorem xO(a:List Nat)(x:Nat):gO (a++[x]) a.length=x:=by simp[gO,y_]
theorem Bm{a b:List (List α)}(h:k<a.length):aA (a++b) k=aA a k:=by
 simp only[aA,y_,Zo h]
theorem uQ(a:List (List α))(x:List α):aA (a++[x]) a.length=x:=by simp[aA,y_]
theorem wL(h:k<m):ai (l.take m) k=ai l k:=by
 simp only[ai,y_,Z8,if_pos h]
theorem uR{l:List Nat}(h:k<m):gO (l.take m) k=gO l k:=by
 simp only[gO,y_,Z8,if_pos h]
theorem pX:x∈l.take m↔∃k,k<m/\k<l.length/\ai l k=x:=by
 constructor
 ·intro h;obtain⟨k,hk,e⟩:=l_.1 h;rw[j_] at hk;refine⟨k,by omega,by omega,?_⟩;rw[List.getElem_take] at e;rw[nC (by omega),e]
 ·rintro⟨k,h1,b,rfl⟩;rw[nC b];exact List.mem_take_iff_getElem.2 ⟨k,by omega,rfl⟩
theorem qn:x∈l↔∃k,k<l.length/\ai l k=x:=by
 have:=pX (l:=l) (m:=l.length) (x:=x);rw[Ze] at this;rw[this];exact⟨λ⟨k,_,h⟩=>⟨k,h⟩,λ⟨k,h⟩=>⟨k,h.1,h⟩⟩
def jY(c:Core)(x:Int):Int:=if x<0 then-(ai c.val (aI x)) else ai c.val (aI x)
def lu(st:List Nat)(i:Nat):Nat:=st.countP (·<=i)
def aS(c:Core)(x:Int):Nat:=gO c.lvl (aI x)
def wM(T l:List Int):Prop:=(∃x∈l,x∈T)\/∃x∈l,∃y∈l,x≠y/\¬-x∈T/\¬-y∈T
def w0(c:Core)(i:Nat):Int:=ai (aA c.cl i) 0
def w1(c:Core)(i:Nat):Int:=ai (aA c.cl i) 1
structure jU(c:Core):Prop where
 rP:c.val.length=c.n+1
 pN:c.lvl.length=c.n+1
 pe:c.j9.length=c.n+1
 lit:∀x∈c.av,gF c.n x
 nu:(c.av.map aI).Nodup
 um:∀v,ai c.val v=0\/ai c.val v=1\/ai c.val v= -1
 pos:∀x,gF c.n x->(jY c x=1↔x∈c.av)
 ru:∀j k,j<=k->k<c.st.length->gO c.st j<=gO c.st k
 oI:∀k,k<c.st.length->gO c.st k<=c.av.length
 mz:∀i,i<c.av.length->aS c (ai c.av i)=lu c.st i
 qc:∀i,i<c.av.length->match mw c.j9 (aI (ai c.av i)) with
  |none=>∃k,k<c.st.length/\gO c.st k=i
  |some d=>d<c.cl.length/\ai c.av i∈aA c.cl d/\∀x∈aA c.cl d,x≠ai c.av i-> -x∈c.av.take i
theorem J8{c:Core}(h:gF n x):jY c (-x)= -(jY c x):=by
 unfold jY;rw[oG];have:=h.oH
 by_cases h1:x<0
 ·rw[if_pos h1,if_neg (by omega)];omega
 ·rw[if_neg h1,if_pos (by omega)]
theorem jU.range{c:Core}(h:jU c)(x:Int):jY c x=0\/jY c x=1\/jY c x= -1:=by
 unfold jY;have:=h.um (aI x);split<;>omega
theorem jU.xP{c:Core}(h:jU c){x:Int}(b:gF c.n x):jY c x= -1↔-x∈c.av:=by
 rw[<-h.pos _ b.neg,J8 b];omega
theorem jU.open{c:Core}(h:jU c){x:Int}(b:gF c.n x):jY c x=0↔¬x∈c.av/\¬-x∈c.av:=by
 rw[<-h.pos _ b,<-h.xP b];have:=h.range x;omega
theorem jU.place{c:Core}(h:jU c){i j:Nat}(b:i<c.av.length)(d:j<c.av.length)(e:aI (ai c.av i)=aI (ai c.av j)):i=j:=by
 have f:=h.nu;rw[nC b,nC d] at e;have:=ZU (xs:=c.av.map aI) (i:=i) (j:=j) (h₀:=by simpa using b) (h₁:=by simpa using d) f;simp only[List.getElem_map] at this;exact this.1 e
theorem jU.apart{c:Core}(h:jU c){x:Int}(b:x∈c.av):¬-x∈c.av:=by
 intro d;obtain⟨i,e,f⟩:=qn.1 b;obtain⟨j,g,k⟩:=qn.1 d;have:=h.place e g (by rw[f,k,oG]);subst this;have:=(h.lit x b).oH;omega
theorem Db{st:List Nat}{j:Nat}(h:i<=j):lu st i<=lu st j:=by
 unfold lu;exact List.countP_mono_left λ x _ b=>by simp at b⊢;omega
theorem wN(st:List Nat)(i:Nat):lu st i<=st.length:=List.countP_le_length
theorem uo{c:Core}(h:jU c){i k:Nat}(hk:k<c.st.length):k<lu c.st i↔gO c.st k<=i:=by
 have hm:=h.ru;unfold lu;generalize c.st=st at*;clear h
 induction st generalizing k with
 |nil=>simp at hk
 |cons a r m=>
  rw[List.countP_cons]
  by_cases d:a<=i
  ·have f:(decide (a<=i))=true:=by simpa using d
   rw[f,if_pos rfl]
   cases k with
   |zero=>simp[gO,d]
   |succ k=>
    have:=m (k:=k) (by simpa using hk) (λ j n t o=>by have:=hm (j+1) (n+1) (by omega) (by simpa using o);simpa[gO] using this);have e:gO (a::r) (k+1)=gO r k:=by simp[gO]
    rw[e];exact⟨λ h=>this.1 (by omega),λ h=>by have:=this.2 h;omega⟩
  ·have f:(decide (a<=i))=false:=by simpa using d
   rw[f];simp only[Bool.false_eq_true,if_false,Z3];have p:r.countP (λ x=>decide (x<=i))=0:=by
    rw[List.countP_eq_zero];intro b q;obtain⟨j,l,e⟩:=l_.1 q;have:=hm 0 (j+1) (by omega) (by simpa using l);have s:gO (a::r) (j+1)=b:=by rw[vz (by simpa using l)];simpa using e
    rw[s] at this;have g:gO (a::r) 0=a:=by simp[gO]
    rw[g] at this;simp;omega
   rw[p];have:=hm 0 k (by omega) hk;have g:gO (a::r) 0=a:=by simp[gO]
   rw[g] at this;omega
theorem sK(h:x∈l.take m):x∈l:=List.mem_of_mem_take h
theorem Dc(h:x∈l.take m)(hk:m<=k):x∈l.take k:=by
 rw[pX] at h⊢;obtain⟨j,h1,b⟩:=h;exact⟨j,by omega,b⟩
end
section
structure rQ(F Fd:List (List Int))(c:Core):Prop where
 mD:∀d,d<c.cl.length->oT c.n (aA c.cl d)
 imp:∀d,d<c.cl.length->pM F (aA c.cl d)
 tP:∀g∈Fd,c.lC=true\/vw g\/(∃i,i<c.av.length/\ai c.av i∈g/\lu c.st i=0)\/∃d,d<c.cl.length/\∀x,x∈aA c.cl d↔x∈g
 tQ:c.lC=true->Unsat F
 tR:c.lC=true\/∀d,d<c.cl.length->(aA c.cl d).length=1->∃i,i<c.av.length/\ai c.av i=w0 c d/\lu c.st i=0
structure yE(c:Core):Prop where
 qW:c.wt.length=2*c.n+2
 qX:∀k d,d∈aA c.wt k->d<c.cl.length/\2<=(aA c.cl d).length/\(k=jy (-(w0 c d))\/k=jy (-(w1 c d)))
 td:∀k,(aA c.wt k).Nodup
 uS:∀d,d<c.cl.length->2<=(aA c.cl d).length->d∈aA c.wt (jy (-(w0 c d)))/\d∈aA c.wt (jy (-(w1 c d)))
def wO(c:Core)(d:Nat)(a b:Int):Prop:=(a=w0 c d/\b=w1 c d)\/(a=w1 c d/\b=w0 c d)
def J9(c:Core)(h:Nat)(P:List Nat):Prop:=∀d,d<c.cl.length->2<=(aA c.cl d).length->∀a b,wO c d a b-> -a∈c.av.take h->(d∈P/\ai c.av (h-1)= -a)\/(b∈c.av/\aS c b<=aS c a)
def Dd(c:Core):Prop:=∀k,k<c.st.length->∀d,d<c.cl.length->wM (c.av.take (gO c.st k)) (aA c.cl d)
structure kf(F Fd:List (List Int))(c:Core)(h:Nat)(P:List Nat):Prop where
 au:jU c
 jG:rQ F Fd c
 wt:yE c
 rR:J9 c h P
 rS:Dd c
 cur:∀k,k<c.st.length->gO c.st k<=h
 hle:h<=c.av.length
def vU(x:Int):Int:=if x<0 then-1 else 1
def k5(c:Core)(x:Int)(w:Option Nat):Core:={c with val:=c.val.set (aI x) (vU x),lvl:=c.lvl.set (aI x) c.st.length,j9:=c.j9.set (aI x) w,av:=c.av++[x]}
def FC(c:Core)(x:Int):Option Nat->Prop
 |none=>∃k,k<c.st.length/\gO c.st k=c.av.length
 |some d=>d<c.cl.length/\x∈aA c.cl d/\∀y∈aA c.cl d,y≠x-> -y∈c.av
section
variable {c:Core}{x:Int}{w:Option Nat}
theorem J'(h:jU c)(d:gF c.n x)(y:Int)(f:gF c.n y):jY (k5 c x w) y=if y=x then 1 else if y= -x then-1 else jY c y:=by
 have hl:aI x<c.val.length:=by rw[h.rP];have:=d.2;omega
 have i:=d.oH;have j:=f.oH;unfold jY k5;simp only[o9]
 by_cases e:y=x
 ·subst e;rw[if_pos rfl];simp only[hl,and_self,if_true];unfold vU
  by_cases h1:y<0<;>simp[h1]
 ·rw[if_neg e]
  by_cases b:y= -x
  ·subst b;rw[if_pos rfl,oG];simp only[hl,and_self,if_true];unfold vU
   by_cases h1:x<0
   ·rw[if_neg (by omega),if_pos h1]
   ·rw[if_pos (by omega),if_neg h1]
  ·rw[if_neg b];have:¬(aI x=aI y/\aI x<c.val.length):=λ g=>by
    rcases zQ g.1 with h1|h1
    ·exact e h1.symm
    ·exact b (by omega)
   rw[if_neg this]
theorem vV{y:Int}(h:jU c)(d:gF c.n x)(f:jY c x=0)(b:y∈c.av):aI y≠aI x:=by
 intro e;obtain⟨h1,g⟩:=(h.open d).1 f;rcases zQ e with e|e
 ·exact h1 (e▸b)
 ·exact g (e▸b)
theorem Bn(h:jU c)(b:gF c.n x)(y:Int):aS (k5 c x w) y=if aI y=aI x then c.st.length else aS c y:=by
 have hl:aI x<c.lvl.length:=by rw[h.pN];have:=b.2;omega
 unfold aS k5;simp only[J7]
 by_cases e:aI y=aI x
 ·rw[if_pos e,if_pos ⟨e.symm,hl⟩]
 ·rw[if_neg e,if_neg λ d=>e d.1.symm]
theorem jU.set(h:jU c)(f:gF c.n x)(l:jY c x=0)(hw:FC c x w):jU (k5 c x w):=by
 have D:aI x<c.val.length:=by rw[h.rP];have:=f.2;omega
 have t:aI x<c.j9.length:=by rw[h.pe];have:=f.2;omega
 obtain⟨E,u⟩:=(h.open f).1 l;have g:(k5 c x w).av=c.av++[x]:=rfl;have m:(k5 c x w).st=c.st:=rfl;have z:(k5 c x w).cl=c.cl:=rfl;have F:(k5 c x w).n=c.n:=rfl;refine⟨by simp[k5,h.rP],by simp[k5,h.pN],by simp[k5,h.pe],?_,?_,?_,?_,h.ru,?_,?_,?_⟩
 ·intro y j;rw[g] at j;rcases m_.1 j with h1|h1
  ·exact h.lit y h1
  ·rw[n_.1 h1];exact f
 ·rw[g,Z0,ZZ];refine⟨h.nu,by simp,λ a o b r e=>?_⟩;obtain⟨y,j,rfl⟩:=Zc.1 o;simp only[f_,ZV,n_] at r;rw[r] at e;exact vV h f l j e
 ·intro v;show ai (c.val.set (aI x) (vU x)) v=0\/_;simp only[k5,o9]
  by_cases e:aI x=v/\aI x<c.val.length
  ·rw[if_pos e];unfold vU;split<;>omega
  ·rw[if_neg e];exact h.um v
 ·intro y j;have s:gF c.n y:=j;rw[J' h f y s,g,m_,n_]
  by_cases e:y=x
  ·simp[e]
  ·rw[if_neg e]
   by_cases p:y= -x
   ·rw[if_pos p];constructor
    ·intro h1;omega
    ·rintro(h1|h1)
     ·exact absurd (p▸h1) u
     ·exact absurd h1 e
   ·rw[if_neg p,h.pos y s];constructor
    ·exact h_
    ·rintro(h1|h1)
     ·exact h1
     ·exact absurd h1 e
 ·intro k hk;have:=h.oI k hk;rw[m,g,g_];simp;omega
 ·intro i q;rw[g,g_,ZI] at q;rw[g,m,Bn h f]
  by_cases e:i<c.av.length
  ·rw[sJ e,if_neg (vV h f l (lY e))];exact h.mz i e
  ·obtain rfl:i=c.av.length:=by omega
   rw[xM,if_pos rfl];have:lu c.st c.av.length=c.st.length:=by
    unfold lu;rw[List.countP_eq_length];intro a o;obtain⟨k,hk,e⟩:=l_.1 o;have:=h.oI k hk;rw[vz hk,e] at this;simpa using this
   exact this.symm
 ·intro i q;rw[g,g_,ZI] at q;have A:(k5 c x w).j9=c.j9.set (aI x) w:=rfl;rw[g,m,z,A]
  by_cases e:i<c.av.length
  ·have B:=vV h f l (lY e);rw[sJ e,wK,if_neg (λ C=>B C.1.symm),k_ (by omega)];exact h.qc i e
  ·obtain rfl:i=c.av.length:=by omega
   rw[xM,wK,if_pos ⟨rfl,t⟩,k_ (w_ _),Ze]
   cases w with
   |none=>exact hw
   |some d=>exact hw
theorem rQ.set{F Fd:List (List Int)}(h:rQ F Fd c):rQ F Fd (k5 c x w):=by
 refine⟨h.mD,h.imp,λ g j=>(h.tP g j).imp id (Or.imp id (Or.imp ?_ id)),h.tQ,h.tR.imp id λ h1 d k hl=>?_⟩
 ·rintro⟨i,b,e,f⟩;refine⟨i,?_,?_,f⟩
  ·show i<(c.av++[x]).length;rw[g_];omega
  ·show ai (c.av++[x]) i∈g;rw[sJ b];exact e
 obtain⟨i,b,e,f⟩:=h1 d k hl;refine⟨i,?_,?_,f⟩
 ·show i<(c.av++[x]).length;rw[g_];omega
 ·show ai (c.av++[x]) i=w0 c d;rw[sJ b,e]
theorem kf.set{F Fd:List (List Int)}{h:Nat}{P:List Nat}(L:kf F Fd c h P)(e:gF c.n x)(g:jY c x=0)(hw:FC c x w):kf F Fd (k5 c x w) h P:=by
 have i:(k5 c x w).av=c.av++[x]:=rfl;refine⟨L.au.set e g hw,L.jG.set,⟨L.wt.qW,L.wt.qX,L.wt.td,L.wt.uS⟩,?_,?_,L.cur,?_⟩
 ·intro d j hl a b l f;rw[i,k_ L.hle] at f;have p:h≠0:=by rintro rfl;simp at f
  rw[i,sJ (by have:=L.hle;omega),Bn L.au e,Bn L.au e,m_];have m:aI a≠aI x:=by
   have:=vV L.au e g (sK f)
   rwa[oG] at this
  rw[if_neg m];rcases L.rR d j hl a b l f with h1|⟨h1,o⟩
  ·exact h_ h1
  ·rw[if_neg (vV L.au e g h1)];exact c_ ⟨h_ h1,o⟩
 ·intro k hk d j;have:=L.rS k hk d j;show wM ((c.av++[x]).take (gO c.st k)) (aA c.cl d);rw[k_ (L.au.oI k hk)];exact this
 ·rw[i,g_];have:=L.hle;omega
end
def zero(v:List Int)(xs:List Int):List Int:=xs.foldl (λ v x=>v.set (aI x) 0) v
def tf(v:List (Option Nat))(xs:List Int):List (Option Nat):=xs.foldl (λ v x=>v.set (aI x) none) v
theorem De(v:List Int):∀xs,(zero v xs).length=v.length
 |[]=>rfl
 |x::xs=>by
  show(zero (v.set (aI x) 0) xs).length=_;rw[De _ xs,ZO]
theorem Df(v:List (Option Nat)):∀xs,(tf v xs).length=v.length
 |[]=>rfl
 |x::xs=>by
  show(tf (v.set (aI x) none) xs).length=_;rw[Df _ xs,ZO]
theorem yF:∀(xs:List Int)(v:List Int)(k:Nat),ai (zero v xs) k=if k∈xs.map aI then 0 else ai v k
 |[],v,k=>rfl
 |x::xs,v,k=>by
  show ai (zero (v.set (aI x) 0) xs) k=_;rw[yF xs,o9]
  by_cases h1:k∈xs.map aI
  ·rw[if_pos h1,if_pos (by simp[f_];right;simpa using h1)]
  ·rw[if_neg h1]
   by_cases b:aI x=k
   ·rw[if_pos (show k∈(x::xs).map aI by simp[b])]
    by_cases c:aI x<v.length
    ·rw[if_pos ⟨b,c⟩]
    ·rw[if_neg (λ d=>c d.2)];simp[ai,y_,<-b,ZJ (Nat.le_of_not_lt c)]
   ·rw[if_neg (λ d=>b d.1),if_neg];simp only[f_,Zx,not_or];exact⟨λ e=>b e.symm,h1⟩
theorem Dg:∀(xs:List Int)(v:List (Option Nat))(k:Nat),¬k∈xs.map aI->mw (tf v xs) k=mw v k
 |[],v,k,_=>rfl
 |x::xs,v,k,h=>by
  simp only[f_,Zx,not_or] at h;show mw (tf (v.set (aI x) none) xs) k=_;rw[Dg xs _ k h.2,wK,if_neg (λ b=>h.1 b.1.symm)]
def mE(c:Core)(level:Nat):Core:=
 {c with val:=zero c.val (c.av.drop (gO c.st level)),j9:=tf c.j9 (c.av.drop (gO c.st level)),av:=c.av.take (gO c.st level),st:=c.st.take level,ag:=gO c.st level}
section
variable {c:Core}{level:Nat}
theorem FD{c:Core}{m:Nat}{x:Int}:x∈c.av.drop m↔∃k,m<=k/\k<c.av.length/\ai c.av k=x:=by
 constructor
 ·intro h;obtain⟨k,hk,e⟩:=l_.1 h;rw[ZT] at hk;refine⟨m+k,by omega,by omega,?_⟩;rw[ZY] at e;rw[nC (by omega),e]
 ·rintro⟨k,h1,b,rfl⟩;rw[nC b];refine l_.2 ⟨k-m,by rw[ZT];omega,?_⟩;rw[ZY]
  congr 1
  omega
theorem jU.split(h:jU c){m:Nat}{x:Int}(b:x∈c.av.take m):¬aI x∈(c.av.drop m).map aI:=by
 intro d;obtain⟨y,f,e⟩:=Zc.1 d;obtain⟨k,h1,g,rfl⟩:=FD.1 f;obtain⟨j,l,i,rfl⟩:=pX.1 b;have:=h.place g i e;omega
theorem Dh(h:jU c)(hl:level<c.st.length){i:Nat}(d:i<gO c.st level):lu (c.st.take level) i=lu c.st i:=by
 unfold lu
 conv=>rhs;rw[<-List.take_append_drop level c.st]
 rw[List.countP_append];have f:(c.st.drop level).countP (λ x=>decide (x<=i))=0:=by
  rw[List.countP_eq_zero];intro a b;obtain⟨k,hk,e⟩:=l_.1 b;rw[ZT] at hk;rw[ZY] at e;have:=h.ru level (level+k) (by omega) (by omega);rw[vz (show level+k<c.st.length by omega),e] at this;simp;omega
 omega
theorem jU.back(h:jU c)(hl:level<c.st.length):jU (mE c level):=by
 have w:=h.oI level hl;have d:(mE c level).av=c.av.take (gO c.st level):=rfl;have f:(mE c level).st=c.st.take level:=rfl;have hlen:(mE c level).av.length=gO c.st level:=by rw[d,j_];omega
 have m:(mE c level).st.length=level:=by rw[f,j_];omega
 refine⟨by simp[mE,De,h.rP],h.pN,by simp[mE,Df,h.pe],λ x g=>h.lit x (sK g),?_,?_,?_,?_,?_,?_,?_⟩
 ·rw[d,List.map_take];exact h.nu.sublist (List.take_sublist _ _)
 ·intro v;show ai (zero c.val _) v=0\/_;simp only[mE,yF]
  by_cases e:v∈(c.av.drop (gO c.st level)).map aI
  ·rw[if_pos e];exact h_ rfl
  ·rw[if_neg e];exact h.um v
 ·intro x g;have p:gF c.n x:=g;have q:(mE c level).val=zero c.val (c.av.drop (gO c.st level)):=rfl;have key:jY (mE c level) x=if aI x∈(c.av.drop (gO c.st level)).map aI then 0 else jY c x:=by
   unfold jY;rw[q,yF]
   by_cases e:aI x∈(c.av.drop (gO c.st level)).map aI
   ·rw[if_pos e,if_pos e];split<;>rfl
   ·rw[if_neg e,if_neg e]
  rw[key,d]
  by_cases e:aI x∈(c.av.drop (gO c.st level)).map aI
  ·rw[if_pos e];constructor
   ·intro h1;omega
   ·intro h1;exact absurd e (h.split h1)
  ·rw[if_neg e,h.pos x p];constructor
   ·intro h1;obtain⟨k,hk,o⟩:=qn.1 h1;refine pX.2 ⟨k,?_,hk,o⟩;rcases a_ k (gO c.st level) with l|l
    ·exact l
    ·exact absurd (Zc.2 ⟨x,FD.2 ⟨k,l,hk,o⟩,rfl⟩) e
   ·exact sK
 ·intro j k r hk;rw[m] at hk;rw[f,uR (by omega),uR hk];exact h.ru j k r (by omega)
 ·intro k hk;rw[m] at hk;rw[hlen,f,uR hk];exact h.ru k level (by omega) hl
 ·intro i b;rw[hlen] at b;rw[d,wL b,f,Dh h hl b];exact h.mz i (by omega)
 ·intro i b;rw[hlen] at b;have s:(mE c level).j9=tf c.j9 (c.av.drop (gO c.st level)):=rfl;have t:ai c.av i∈c.av.take (gO c.st level):=pX.2 ⟨i,b,by omega,rfl⟩;rw[d,wL b,f,s,Dg _ _ _ (h.split t),Z5,show min i (gO c.st level)=i by omega];have:=h.qc i (by omega);split at this
  ·obtain⟨k,hk,e⟩:=this;have u:k<level:=by
    rcases a_ k level with h1|h1
    ·exact h1
    ·have:=h.ru level k h1 hk;omega
   exact⟨k,by rw[j_];omega,by rw[uR u];exact e⟩
  ·exact this
theorem kf.back{F Fd:List (List Int)}{h:Nat}(L:kf F Fd c h [])(hl:level<c.st.length):kf F Fd (mE c level) (gO c.st level) []:=by
 have C:=L.au.oI level hl;have n:(mE c level).av=c.av.take (gO c.st level):=rfl;have o:(mE c level).st=c.st.take level:=rfl;have hlen:(mE c level).av.length=gO c.st level:=by rw[n,j_];omega
 have u:(mE c level).st.length=level:=by rw[o,j_];omega
 have v:∀i,lu c.st i=0->i<gO c.st level:=λ i l=>by
  rcases a_ i (gO c.st level) with f|f
  ·exact f
  ·have:=(uo L.au (i:=i) hl).2 f;omega
 refine⟨L.au.back hl,⟨L.jG.mD,L.jG.imp,λ g w=>(L.jG.tP g w).imp id (Or.imp id (Or.imp ?_ id)),L.jG.tQ,?_⟩,⟨L.wt.qW,L.wt.qX,L.wt.td,L.wt.uS⟩,?_,?_,?_,by rw[hlen];exact w_ _⟩
 ·rintro⟨i,y,q,l⟩;have m:=v i l;exact⟨i,by rw[hlen];exact m,by rw[n,wL m];exact q,by rw[o,Dh L.au hl m];exact l⟩
 ·refine L.jG.tR.imp id λ h1 d p r=>?_
  obtain⟨i,y,q,l⟩:=h1 d p r;have m:i<gO c.st level:=by
   rcases a_ i (gO c.st level) with f|f
   ·exact f
   ·have:=(uo L.au (i:=i) hl).2 f;omega
  exact⟨i,by rw[hlen];exact m,by rw[n,wL m];exact q,by rw[o,Dh L.au hl m];exact l⟩
 ·intro d p r a b z s;rw[n,Z5,Nat.min_self] at s;right;have A: -a∈c.av.take h:=Dc s (L.cur level hl);rcases L.rR d p r a b z A with⟨h1,_⟩|⟨h1,f⟩
  ·cases h1
  ·refine⟨?_,f⟩;rw[n];obtain⟨j,D,B,e⟩:=pX.1 s;obtain⟨k,hk,l⟩:=qn.1 h1;have E:aS c a=lu c.st j:=by
    rw[<-L.au.mz j B,e];unfold aS;rw[oG]
   have G:aS c b=lu c.st k:=by rw[<-L.au.mz k hk,l]
   have H:¬level<lu c.st j:=λ t=>by have:=(uo L.au (i:=j) hl).1 t;omega
   have I:¬gO c.st level<=k:=λ t=>by have:=(uo L.au (i:=k) hl).2 t;omega
   exact pX.2 ⟨k,by omega,hk,l⟩
 ·intro k hk d p;rw[u] at hk;have:=L.rS k (by omega) d p;rw[n,o,uR hk,Z5,Nat.min_eq_left (L.au.ru k level (by omega) hl)];exact this
 ·intro k hk;rw[u] at hk;rw[o,uR hk];exact L.au.ru k level (by omega) hl
end
end
section
section
variable {F Fd:List (List Int)}{c:Core}
theorem oT.w{n:Nat}{l:List Int}(h:oT n l)(c:2<=l.length):ai l 0∈l/\ai l 1∈l/\ai l 0≠ai l 1/\ai l 0≠-(ai l 1):=by
 have b:=lY (l:=l) (k:=0) (by omega);have h1:=lY (l:=l) (k:=1) (by omega);refine⟨b,h1,λ e=>?_,λ e=>h.ic _ h1 (e▸b)⟩;rw[nC (show 0<l.length by omega),nC (show 1<l.length by omega)] at e;have:=(ZU h.nu).1 e;omega
theorem FE(L:kf F Fd c c.av.length [])(k:c.lC=false):∀d,d<c.cl.length->wM c.av (aA c.cl d):=by
 intro d b;have g:=L.jG.mD d b;have l:0<(aA c.cl d).length:=List.length_pos_iff.2 g.ne
 by_cases j:2<=(aA c.cl d).length
 ·obtain⟨m0,m1,m,_⟩:=g.w j;have f:=L.rR d b j;rw[show c.av.take c.av.length=c.av from Ze] at f
  by_cases f0: -(w0 c d)∈c.av
  ·rcases f _ _ (h_ ⟨rfl,rfl⟩) f0 with⟨h,_⟩|⟨h,_⟩
   ·cases h
   ·exact h_ ⟨_,m1,h⟩
  ·by_cases f1: -(w1 c d)∈c.av
   ·rcases f _ _ (c_ ⟨rfl,rfl⟩) f1 with⟨h,_⟩|⟨h,_⟩
    ·cases h
    ·exact h_ ⟨_,m0,h⟩
   ·exact c_ ⟨_,m0,_,m1,m,f0,f1⟩
 ·rcases L.jG.tR with h|h
  ·rw[k] at h;cases h
  ·obtain⟨i,n,e,_⟩:=h d b (by omega);exact h_ ⟨ai (aA c.cl d) 0,lY l,by rw[show ai (aA c.cl d) 0=w0 c d from rfl,<-e];exact lY n⟩
def nJ(c:Core):Core:={c with st:=c.st++[c.av.length]}
theorem Di(h:jU c){i:Nat}(b:i<c.av.length):lu (c.st++[c.av.length]) i=lu c.st i:=by
 unfold lu;rw[List.countP_append];simp;omega
theorem kf.level(L:kf F Fd c c.av.length [])(r:c.lC=false):kf F Fd (nJ c) c.av.length []:=by
 have l:(nJ c).st=c.st++[c.av.length]:=rfl;have s:(nJ c).av=c.av:=rfl;have T:=L.au;have hlen:(nJ c).st.length=c.st.length+1:=by rw[l];simp
 have f:∀k,k<c.st.length->gO (nJ c).st k=gO c.st k:=λ k hk=>by rw[l,xN hk]
 have n:gO (nJ c).st c.st.length=c.av.length:=by rw[l,xO]
 refine⟨⟨T.rP,T.pN,T.pe,T.lit,T.nu,T.um,T.pos,?_,?_,?_,?_⟩,⟨L.jG.mD,L.jG.imp,λ g t=>(L.jG.tP g t).imp id (Or.imp id (Or.imp (λ⟨i,b,p,m⟩=>⟨i,b,p,by rw[l,Di T b];exact m⟩) id)),L.jG.tQ,?_⟩,⟨L.wt.qW,L.wt.qX,L.wt.td,L.wt.uS⟩,L.rR,?_,?_,w_ _⟩
 ·intro j k u hk;rw[hlen] at hk
  by_cases e:k<c.st.length
  ·rw[f j (by omega),f k e];exact T.ru j k u e
  ·obtain rfl:k=c.st.length:=by omega
   rw[n]
   by_cases m:j<c.st.length
   ·rw[f j m];exact T.oI j m
   ·obtain rfl:j=c.st.length:=by omega
    rw[n];exact w_ _
 ·intro k hk;rw[hlen] at hk
  by_cases e:k<c.st.length
  ·rw[f k e];exact T.oI k e
  ·obtain rfl:k=c.st.length:=by omega
   rw[n];exact w_ _
 ·intro i b;rw[l,Di T b];exact T.mz i b
 ·intro i b;have:=T.qc i b;show match mw c.j9 (aI (ai c.av i)) with
   |none=>∃k,k<(nJ c).st.length/\gO (nJ c).st k=i
   |some d=>d<c.cl.length/\ai c.av i∈aA c.cl d/\∀x∈aA c.cl d,x≠ai c.av i-> -x∈c.av.take i
  cases q:mw c.j9 (aI (ai c.av i)) with
  |none=>
   rw[q] at this;obtain⟨k,hk,e⟩:=this;exact⟨k,by rw[hlen];omega,by rw[f k hk];exact e⟩
  |some d=>rw[q] at this;exact this
 ·refine L.jG.tR.imp id λ h1 d o hl=>?_
  obtain⟨i,b,p,m⟩:=h1 d o hl;exact⟨i,b,p,by rw[l,Di T b];exact m⟩
 ·intro k hk d o;rw[hlen] at hk;rw[s]
  by_cases e:k<c.st.length
  ·rw[f k e];exact L.rS k e d o
  ·obtain rfl:k=c.st.length:=by omega
   rw[n,Ze];exact FE L r d o
 ·intro k hk;rw[hlen] at hk
  by_cases e:k<c.st.length
  ·rw[f k e];exact L.cur k e
  ·obtain rfl:k=c.st.length:=by omega
   rw[n];exact w_ _
theorem kf.decide(L:kf F Fd c c.av.length [])(b:c.lC=false){x:Int}(d:gF c.n x)(e:jY c x=0):kf F Fd (k5 (nJ c) x none) c.av.length []:=by
 refine(L.level b).set (c:=nJ c) d e ⟨c.st.length,?_,?_⟩
 ·show c.st.length<(c.st++[c.av.length]).length;simp
 ·exact xO _ _
theorem yG(T:jU c)(D:rQ F Fd c){M:Int->Bool}(b:tO M F):∀i,i<c.av.length->lu c.st i=0->M (ai c.av i)=true:=by
 intro i
 induction i using Nat.strongRecOn with
 |_ i l=>
  intro m hl;have:=T.qc i m;split at this
  ·obtain⟨k,hk,e⟩:=this;have:=(uo T (i:=i) hk).2 (by omega);omega
  ·rename_i d _;obtain⟨f,r,n⟩:=this;obtain⟨y,g,hm⟩:=D.imp d f M b
   by_cases e:y=ai c.av i
   ·rw[<-e];exact hm
   ·obtain⟨j,o,p,q⟩:=pX.1 (n y g e);have h1:=l j o p (by have:=Db (st:=c.st) (i:=j) (j:=i) (by omega);omega);rw[q,b.1 y ((D.mD d f).lt y g).oH,hm] at h1
    cases h1
theorem Ka(T:jU c)(D:rQ F Fd c)(l:c.st.length=0){d:Nat}(f:d<c.cl.length)(j:∀x∈aA c.cl d,-x∈c.av):Unsat F:=by
 intro M b;obtain⟨y,g,hm⟩:=D.imp d f M b;obtain⟨i,k,e⟩:=qn.1 (j y g);have h1:=yG T D b i k (by have:=wN c.st i;omega);rw[e,b.1 y ((D.mD d f).lt y g).oH,hm] at h1
 cases h1
def kL(l:List Int)(i j:Nat):List Int:=(l.set i (ai l j)).set j (ai l i)
theorem sj(l:List Int)(i j:Nat):(kL l i j).length=l.length:=by unfold kL;simp
theorem qJ{l:List Int}{i j:Nat}(d:i<l.length)(e:j<l.length)(k:Nat):ai (kL l i j) k=if k=j then ai l i else if k=i then ai l j else ai l k:=by
 unfold kL;rw[o9,o9]
 by_cases h1:k=j
 ·subst h1;rw[if_pos ⟨rfl,by simpa using e⟩,if_pos rfl]
 ·rw[if_neg (λ b=>h1 b.1.symm),if_neg h1]
  by_cases c:k=i
  ·subst c;rw[if_pos ⟨rfl,d⟩,if_pos rfl]
  ·rw[if_neg (λ b=>c b.1.symm),if_neg c]
theorem wP{l:List Int}{i j:Nat}(b:i<l.length)(c:j<l.length)(x:Int):x∈kL l i j↔x∈l:=by
 rw[qn,qn,sj];constructor
 ·rintro⟨k,hk,e⟩;rw[qJ b c] at e
  by_cases h1:k=j
  ·rw[if_pos h1] at e;exact⟨i,b,e⟩
  ·rw[if_neg h1] at e
   by_cases d:k=i
   ·rw[if_pos d] at e;exact⟨j,c,e⟩
   ·rw[if_neg d] at e;exact⟨k,hk,e⟩
 ·rintro⟨k,hk,e⟩
  by_cases h1:k=i
  ·refine⟨j,c,?_⟩;rw[qJ b c,if_pos rfl,<-h1];exact e
  ·by_cases d:k=j
   ·refine⟨i,b,?_⟩;rw[qJ b c]
    by_cases f:i=j
    ·exact absurd (d.trans f.symm) h1
    ·rw[if_neg f,if_pos rfl,<-d];exact e
   ·exact⟨k,hk,by rw[qJ b c,if_neg d,if_neg h1];exact e⟩
theorem Kb{l:List Int}(h:∀i j,i<l.length->j<l.length->ai l i=ai l j->i=j):l.Nodup:=by
 rw[List.nodup_iff_pairwise_ne,List.pairwise_iff_getElem];intro i j b c d e;have:=h i j b c (by rw[nC b,nC c];exact e);omega
theorem uT{l:List Int}(h:l.Nodup){i j:Nat}(b:i<l.length)(c:j<l.length)(e:ai l i=ai l j):i=j:=by
 rw[nC b,nC c] at e;exact(ZU h).1 e
theorem FF{l:List Int}{i j:Nat}(f:i<l.length)(g:j<l.length)(h:l.Nodup):(kL l i j).Nodup:=by
 refine Kb λ a b k m e=>?_
 rw[sj] at k m;rw[qJ f g,qJ f g] at e
 by_cases a1:a=j
 ·rw[if_pos a1] at e
  by_cases c:b=j
  ·omega
  ·rw[if_neg c] at e
   by_cases d:b=i
   ·rw[if_pos d] at e;have:=uT h f g e;omega
   ·rw[if_neg d] at e;have:=uT h f m e;omega
 ·rw[if_neg a1] at e
  by_cases a2:a=i
  ·rw[if_pos a2] at e
   by_cases c:b=j
   ·rw[if_pos c] at e;have:=uT h g f e;omega
   ·rw[if_neg c] at e
    by_cases d:b=i
    ·omega
    ·rw[if_neg d] at e;have:=uT h g m e;omega
  ·rw[if_neg a2] at e
   by_cases c:b=j
   ·rw[if_pos c] at e;have:=uT h k f e;omega
   ·rw[if_neg c] at e
    by_cases d:b=i
    ·rw[if_pos d] at e;have:=uT h k g e;omega
    ·rw[if_neg d] at e;exact uT h k m e
theorem oT.swap{n:Nat}{l:List Int}{i j:Nat}(b:i<l.length)(c:j<l.length)(h:oT n l):oT n (kL l i j):=by
 refine⟨λ e=>?_,λ x d=>h.lt x ((wP b c x).1 d),FF b c h.nu,λ x d f=>h.ic x ((wP b c x).1 d) ((wP b c _).1 f)⟩;have:=sj l i j;rw[e] at this;simp at this;omega
def lF(c:Core)(d:Nat)(l:List Int):Core:={c with cl:=c.cl.set d l}
theorem uq(c:Core)(d e:Nat)(l:List Int):aA (lF c d l).cl e=if d=e/\d<c.cl.length then l else aA c.cl e:=qI _ _ _ _
theorem ry(c:Core)(d:Nat)(l:List Int):(lF c d l).cl.length=c.cl.length:=by simp[lF]
theorem jU.iS(h:jU c){d:Nat}{l:List Int}(hl:∀x,x∈l↔x∈aA c.cl d):jU (lF c d l):=by
 refine⟨h.rP,h.pN,h.pe,h.lit,h.nu,h.um,h.pos,h.ru,h.oI,h.mz,λ i f=>?_⟩;have:=h.qc i f;show match mw c.j9 (aI (ai c.av i)) with
   |none=>∃k,k<c.st.length/\gO c.st k=i
   |some e=>e<(lF c d l).cl.length/\ai c.av i∈aA (lF c d l).cl e/\∀x∈aA (lF c d l).cl e,x≠ai c.av i-> -x∈c.av.take i
 cases b:mw c.j9 (aI (ai c.av i)) with
 |none=>rw[b] at this;exact this
 |some e=>
  rw[b] at this;show e<(lF c d l).cl.length/\ai c.av i∈aA (lF c d l).cl e/\∀x∈aA (lF c d l).cl e,x≠ai c.av i-> -x∈c.av.take i;rw[ry,uq]
  by_cases h1:d=e/\d<c.cl.length
  ·rw[if_pos h1];obtain⟨rfl,_⟩:=h1;exact⟨this.1,(hl _).2 this.2.1,λ x g=>this.2.2 x ((hl x).1 g)⟩
  ·rw[if_neg h1];exact this
theorem rQ.iS(h:rQ F Fd c){d:Nat}{l:List Int}(hl:∀x,x∈l↔x∈aA c.cl d)(m:d<c.cl.length->oT c.n l)(hlen:d<c.cl.length->l.length=(aA c.cl d).length):rQ F Fd (lF c d l):=by
 have f:∀e x,x∈aA (lF c d l).cl e↔x∈aA c.cl e:=λ e x=>by
  rw[uq]
  by_cases h1:d=e/\d<c.cl.length
  ·rw[if_pos h1];obtain⟨rfl,_⟩:=h1;exact hl x
  ·rw[if_neg h1]
 refine⟨λ e he=>?_,λ e he M o=>?_,λ g p=>?_,h.tQ,h.tR.imp id λ h1 e he hle=>?_⟩
 ·rw[ry] at he;rw[uq]
  by_cases h1:d=e/\d<c.cl.length
  ·rw[if_pos h1];exact m h1.2
  ·rw[if_neg h1];exact h.mD e he
 ·rw[ry] at he;obtain⟨y,q,hm⟩:=h.imp e he M o;exact⟨y,(f e y).2 q,hm⟩
 ·rcases h.tP g p with h1|h1|h1|⟨e,he,h1⟩
  ·exact h_ h1
  ·exact c_ (h_ h1)
  ·exact c_ (c_ (h_ h1))
  ·exact c_ (c_ (c_ ⟨e,by rw[ry];exact he,λ x=>by rw[f];exact h1 x⟩))
 ·rw[ry] at he;have r:(aA c.cl e).length=1:=by
   rw[uq] at hle
   by_cases j:d=e/\d<c.cl.length
   ·rw[if_pos j] at hle;obtain⟨rfl,b⟩:=j;rw[<-hlen b];exact hle
   ·rw[if_neg j] at hle;exact hle
  obtain⟨i,s,t,u⟩:=h1 e he r;refine⟨i,s,?_,u⟩;show ai c.av i=w0 (lF c d l) e;rw[t];have b:w0 c e∈aA (lF c d l).cl e:=(f e _).2 (lY (by omega));have k:w0 (lF c d l) e∈aA (lF c d l).cl e:=lY (by omega);obtain⟨z,v⟩:=List.length_eq_one_iff.1 hle;rw[v,n_] at b k;rw[b,k]
theorem FG(h:Dd c){d:Nat}{l:List Int}(hl:∀x,x∈l↔x∈aA c.cl d):Dd (lF c d l):=by
 intro k hk e he;rw[ry] at he;have:=h k hk e he;show wM (c.av.take (gO c.st k)) (aA (lF c d l).cl e);rw[uq]
 by_cases h1:d=e/\d<c.cl.length
 ·rw[if_pos h1];obtain⟨rfl,_⟩:=h1;rcases this with⟨x,b,f⟩|⟨x,b,y,g,f⟩
  ·exact h_ ⟨x,(hl x).2 b,f⟩
  ·exact c_ ⟨x,(hl x).2 b,y,(hl y).2 g,f⟩
 ·rw[if_neg h1];exact this
end
section
variable {F Fd:List (List Int)}{c:Core}{h:Nat}{P:List Nat}{d:Nat}
theorem Kc(c:Core)(e:Nat)(b:d<c.cl.length)(g:2<=(aA c.cl d).length):(w0 (lF c d (kL (aA c.cl d) 0 1)) e=if d=e then w1 c e else w0 c e)/\(w1 (lF c d (kL (aA c.cl d) 0 1)) e=if d=e then w0 c e else w1 c e):=by
 unfold w0 w1;rw[uq]
 by_cases h1:d=e
 ·subst h1;rw[if_pos ⟨rfl,b⟩,if_pos rfl,if_pos rfl,qJ (by omega) (by omega),qJ (by omega) (by omega)];simp
 ·rw[if_neg (λ f=>h1 f.1),if_neg h1,if_neg h1];exact⟨rfl,rfl⟩
theorem kf.swap(L:kf F Fd c h P)(g:d<c.cl.length)(n:2<=(aA c.cl d).length):kf F Fd (lF c d (kL (aA c.cl d) 0 1)) h P:=by
 have hm:=wP (l:=aA c.cl d) (i:=0) (j:=1) (by omega) (by omega);have hw:=λ e=>Kc c e g n
 have hlen:∀e,(aA (lF c d (kL (aA c.cl d) 0 1)).cl e).length=(aA c.cl e).length:=λ e=>by
  rw[uq]
  by_cases h1:d=e/\d<c.cl.length
  ·rw[if_pos h1];obtain⟨rfl,_⟩:=h1;exact sj _ _ _
  ·rw[if_neg h1]
 refine⟨L.au.iS hm,L.jG.iS hm (λ g=>(L.jG.mD d g).swap (by omega) (by omega)) (λ _=>sj _ _ _),⟨L.wt.qW,λ k e he=>?_,L.wt.td,λ e he hl=>?_⟩,λ e he hl a b f o=>?_,FG L.rS hm,L.cur,L.hle⟩
 ·obtain⟨p,q,m⟩:=L.wt.qX k e he;refine⟨by rw[ry];exact p,by rw[hlen];exact q,?_⟩;rw[(hw e).1,(hw e).2]
  by_cases h1:d=e
  ·rw[if_pos h1,if_pos h1];exact m.symm
  ·rw[if_neg h1,if_neg h1];exact m
 ·rw[ry] at he;rw[hlen] at hl;have:=L.wt.uS e he hl;rw[(hw e).1,(hw e).2]
  by_cases h1:d=e
  ·rw[if_pos h1,if_pos h1];exact⟨this.2,this.1⟩
  ·rw[if_neg h1,if_neg h1];exact this
 ·rw[ry] at he;rw[hlen] at hl;refine L.rR e he hl a b ?_ o;unfold wO at f⊢;rw[(hw e).1,(hw e).2] at f
  by_cases h1:d=e
  ·rw[if_pos h1,if_pos h1] at f;exact f.symm
  ·rw[if_neg h1,if_neg h1] at f;exact f
def sk(c:Core)(d k:Nat)(gU:List Nat):Core:=
 let x:=w1 c d;let y:=ai (aA c.cl d) k
 {lF c d (kL (aA c.cl d) 1 k) with wt:=(c.wt.set (jy (-x)) gU).set (jy (-y)) (aA c.wt (jy (-y))++[d])}
theorem kf.move{kept rest:List Nat}{k:Nat}(L:kf F Fd c h (d::rest))(u:d<c.cl.length)(hk:2<=k)(t:k<(aA c.cl d).length)(p:h≠0)(O:ai c.av (h-1)= -(w1 c d))(P:¬-(ai (aA c.cl d) k)∈c.av)(G:aA c.wt (jy (-(w1 c d)))=kept++d::rest):
  kf F Fd (sk c d k (kept++rest)) h rest:=by
 have v:=L.jG.mD d u;have hm:=wP (l:=aA c.cl d) (i:=1) (j:=k) (by omega) t;obtain⟨x,r⟩:∃x,w1 c d=x:=⟨_,rfl⟩
 obtain⟨y,A⟩:∃y,ai (aA c.cl d) k=y:=⟨_,rfl⟩
 rw[r] at O G;rw[A] at P;have Q:x≠y:=λ e=>by
  have:=uT v.nu (i:=1) (j:=k) (by omega) t (by rw[show ai (aA c.cl d) 1=x from r,A,e]);omega
 have U:w0 c d≠y:=λ e=>by
  have:=uT v.nu (i:=0) (j:=k) (by omega) t (by rw[show ai (aA c.cl d) 0=w0 c d from rfl,A,e]);omega
 have V:x∈aA c.cl d:=by rw[<-r];exact lY (by omega)
 have W:y∈aA c.cl d:=by rw[<-A];exact lY t
 have X:=(v.lt x V)
 have Y:=(v.lt y W)
 have ah:jy (-x)≠jy (-y):=λ e=>Q (by have:=vT e;omega)
 have n:sk c d k (kept++rest)={lF c d (kL (aA c.cl d) 1 k) with wt:=(c.wt.set (jy (-x)) (kept++rest)).set (jy (-y)) (aA c.wt (jy (-y))++[d])}:=by
  unfold sk;rw[r,A]
 have J:∀e,w0 (sk c d k (kept++rest)) e=w0 c e:=λ e=>by
  rw[n];show ai (aA (lF c d (kL (aA c.cl d) 1 k)).cl e) 0=_;rw[uq]
  by_cases h1:d=e/\d<c.cl.length
  ·rw[if_pos h1];obtain⟨rfl,_⟩:=h1;rw[qJ (by omega) t,if_neg (by omega),if_neg (by omega)];rfl
  ·rw[if_neg h1];rfl
 have K:∀e,w1 (sk c d k (kept++rest)) e=if d=e then y else w1 c e:=λ e=>by
  rw[n];show ai (aA (lF c d (kL (aA c.cl d) 1 k)).cl e) 1=_;rw[uq]
  by_cases h1:d=e
  ·rw[if_pos ⟨h1,u⟩,if_pos h1,qJ (by omega) t,if_neg (by omega),if_pos rfl];exact A
  ·rw[if_neg (λ p=>h1 p.1),if_neg h1];rfl
 have hlen:∀e,(aA (sk c d k (kept++rest)).cl e).length=(aA c.cl e).length:=λ e=>by
  rw[n];show(aA (lF c d (kL (aA c.cl d) 1 k)).cl e).length=_;rw[uq]
  by_cases h1:d=e/\d<c.cl.length
  ·rw[if_pos h1];obtain⟨rfl,_⟩:=h1;exact sj _ _ _
  ·rw[if_neg h1]
 have M:(sk c d k (kept++rest)).cl.length=c.cl.length:=by rw[n];exact ry _ _ _
 have H:∀j,aA (sk c d k (kept++rest)).wt j=if j=jy (-y) then aA c.wt (jy (-y))++[d] else if j=jy (-x) then kept++rest else aA c.wt j:=λ j=>by
  rw[n];show aA ((c.wt.set (jy (-x)) (kept++rest)).set (jy (-y)) (aA c.wt (jy (-y))++[d])) j=_;rw[qI,qI];have Z:jy (-x)<c.wt.length:=by rw[L.wt.qW];exact X.neg.at
  have aa:jy (-y)<c.wt.length:=by rw[L.wt.qW];exact Y.neg.at
  by_cases h1:j=jy (-y)
  ·rw[if_pos ⟨h1.symm,by simpa using aa⟩,if_pos h1]
  ·rw[if_neg (λ p=>h1 p.1.symm),if_neg h1]
   by_cases f:j=jy (-x)
   ·rw[if_pos ⟨f.symm,Z⟩,if_pos f]
   ·rw[if_neg (λ p=>f p.1.symm),if_neg f]
 have D:=L.wt.td (jy (-x));rw[G] at D;have ab:¬d∈kept++rest:=by
  rw[ZZ,ZM] at D;intro p;rcases m_.1 p with h1|h1
  ·exact D.2.2 d h1 d (by simp) rfl
  ·exact D.2.1.1 h1
 have R:¬d∈aA c.wt (jy (-y)):=λ p=>by
  obtain⟨_,_,g⟩:=L.wt.qX _ d p;rcases g with g|g
  ·have:=vT g;exact U (by omega)
  ·have:=vT g;exact Q (by omega)
 have o:=L.au.iS hm;refine⟨by rw[n];exact⟨o.rP,o.pN,o.pe,o.lit,o.nu,o.um,o.pos,o.ru,o.oI,o.mz,o.qc⟩,?_,⟨?_,?_,?_,?_⟩,?_,?_,L.cur,L.hle⟩
 ·have E:=L.jG.iS hm (λ u=>(L.jG.mD d u).swap (by omega) t) (λ _=>sj _ _ _);rw[n];exact⟨E.mD,E.imp,E.tP,E.tQ,E.tR⟩
 ·rw[n];show((c.wt.set (jy (-x)) (kept++rest)).set (jy (-y)) (aA c.wt (jy (-y))++[d])).length=_;simp[L.wt.qW,lF]
 ·intro j e he;rw[H] at he;rw[M,hlen,J,K]
  by_cases h1:j=jy (-y)
  ·rw[if_pos h1] at he;rcases m_.1 he with f|f
   ·rw[<-h1] at f;obtain⟨g,q,s⟩:=L.wt.qX j e f;refine⟨g,q,?_⟩;have m:d≠e:=by rintro rfl;rw[h1] at f;exact R f
    rw[if_neg m];exact s
   ·rw[n_.1 f];exact⟨u,by omega,c_ (by rw[if_pos rfl];exact h1)⟩
  ·rw[if_neg h1] at he;have S:e∈aA c.wt j/\(d=e->j≠jy (-x)):=by
    by_cases f:j=jy (-x)
    ·rw[if_pos f] at he;refine⟨?_,λ m=>absurd (m▸he) ab⟩;rw[f,G];rcases m_.1 he with g|g
     ·simp[g]
     ·simp[g]
    ·rw[if_neg f] at he;exact⟨he,λ _=>f⟩
   obtain⟨g,q,s⟩:=L.wt.qX j e S.1;refine⟨g,q,?_⟩
   by_cases m:d=e
   ·rw[if_pos m];rcases s with s|s
    ·exact h_ s
    ·exact absurd (by rw[s,<-m,r]) (S.2 m)
   ·rw[if_neg m];exact s
 ·intro j;rw[H]
  by_cases h1:j=jy (-y)
  ·rw[if_pos h1,ZZ];refine⟨L.wt.td _,by simp,λ a B b ad e=>R ?_⟩;rw[n_.1 ad] at e;exact e▸B
  ·rw[if_neg h1]
   by_cases f:j=jy (-x)
   ·rw[if_pos f];refine D.sublist ?_;exact List.Sublist.append_left (List.sublist_cons_self _ _) _
   ·rw[if_neg f];exact L.wt.td j
 ·intro e he hl;rw[M] at he;rw[hlen] at hl;have N:=L.wt.uS e he hl;rw[J,K];have keep:∀j,(d=e->j≠jy (-x))->e∈aA c.wt j->e∈aA (sk c d k (kept++rest)).wt j:=λ j I h1=>by
   rw[H]
   by_cases f:j=jy (-y)
   ·rw[if_pos f,<-f];simp[h1]
   ·rw[if_neg f]
    by_cases g:j=jy (-x)
    ·rw[if_pos g];rw[g,G] at h1;have m:e≠d:=λ q=>I q.symm g
     simp only[m_,Zx] at h1⊢;rcases h1 with h1|h1|h1
     ·exact h_ h1
     ·exact absurd h1 m
     ·exact c_ h1
    ·rw[if_neg g];exact h1
  by_cases m:d=e
  ·subst m;rw[if_pos rfl];refine⟨keep _ (λ _ ae=>?_) N.1,?_⟩
   ·have g:=vT ae;have q:=(v.w (by omega)).2.2.1;apply q;show w0 c d=w1 c d;rw[r];omega
   ·rw[H,if_pos rfl];simp
  ·rw[if_neg m];exact⟨keep _ (λ h1=>absurd h1 m) N.1,keep _ (λ h1=>absurd h1 m) N.2⟩
 ·intro e he hl a b C B;rw[M] at he;rw[hlen] at hl;have af:(sk c d k (kept++rest)).av=c.av:=by rw[n];rfl
  have T:∀z,aS (sk c d k (kept++rest)) z=aS c z:=λ z=>by rw[n];rfl
  rw[af] at B⊢;rw[T,T];unfold wO at C;rw[J,K] at C
  by_cases m:d=e
  ·subst m;rw[if_pos rfl] at C;exfalso;rcases C with⟨rfl,rfl⟩|⟨rfl,rfl⟩
   ·
    have ag:¬x∈c.av:=λ h1=>by
     have f: -x∈c.av:=by rw[<-O];exact lY (by have:=L.hle;omega)
     exact L.au.apart h1 f
    rcases L.rR d u hl (w0 c d) x (h_ ⟨rfl,r.symm⟩) B with⟨_,h1⟩|⟨h1,_⟩
    ·have q:=(v.w (by omega)).2.2.1;apply q;show w0 c d=w1 c d;rw[r];omega
    ·exact ag h1
   ·exact P (sK B)
  ·rw[if_neg m] at C;rcases L.rR e he hl a b C B with⟨h1,f⟩|h1
   ·left;refine⟨?_,f⟩;rcases Zx.1 h1 with g|g
    ·exact absurd g.symm m
    ·exact g
   ·exact c_ h1
 ·have:=FG L.rS hm;intro j I e he;have g:=this j (by rw[n] at I;exact I) e (by rw[n] at he;exact he);rw[n];exact g
end
end
end Go.Proofs.YtogdlkfacflmaaaGreat
