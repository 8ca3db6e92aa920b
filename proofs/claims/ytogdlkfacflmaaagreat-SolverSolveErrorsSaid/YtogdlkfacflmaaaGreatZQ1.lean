/- Parts of the walk of the solver and its core; no condition. -/
import Derived.Test.YtogdlkfacflmaaaGreatProg
import Derived.WalkKit
import Derived.WalkSpells
import Derived.WalkLawsBesides
import Derived.Lib.Hide
import Derived.Below
import Derived.Laws.OwnMore
import Derived.Calls
import Derived.Deep.Quiet
import Derived.Deep.QuietTactic
import Derived.BigQuiet
import Derived.Shelf.Abstract
import Derived.StillTailTactics
import Derived.Maps.OwnOps
import Derived.Maps.OwnSet
import Derived.Maps.Views
import Derived.RangeFuncBox
import Derived.IntWalk
import Derived.OwnWalkIn
import Derived.LoadGo3
import Derived.Lib.OwnBridge
import Derived.Lib.AppendIntMem
import Derived.Deep.RegionLaw
import Derived.Deep.RegionHeld3
import Derived.Deep.CutBlock
import Derived.Deep.DeepCutAuto
import Derived.Laws.MakeOwn
import Derived.Maps.AppendAt
import Derived.RegionTactic
import Derived.BigRegion
import Derived.RangeFuncNested
import Derived.RangeFuncBound
import Derived.RangeFuncCalls
import Derived.RangeFuncLeaves
import Derived.OrdersIn
import Derived.Test.YtogdlkfacflmaaaGreatRows
namespace Go.Proofs.YtogdlkfacflmaaaGreat
set_option linter.unusedVariables false
set_option linter.unusedSimpArgs false
set_option maxRecDepth 100000
set_option maxHeartbeats 2000000
open _root_.Go.Proofs.Tryz renaming prog→z_,underlying25→Z0,underlying3→Z8,underlying4→ZJ
open _root_.List renaming getD_eq_getElem?_getD→y_,getElem?_eq_getElem→v_,mem_singleton→t_,take_append_of_le_length→r_,mem_cons→q_,length_append→p_,mem_append→o_,take_of_length_le→m_,length_take→j_,getElem_mem→g_,take_length→e_,mem_iff_getElem→c_,length_singleton→a_,map_cons→Zx,getElem?_map→Zv,length_pos_iff→Zt,eq_nil_of_length_eq_zero→Zp,getElem?_set→Zo,nodup_append→Zn,mem_map→Zm,take_take→Zl,getElem?_eq_some_iff→Zh,length_set→Zg,nodup_cons→Zf,getElem?_append_left→Ze,getElem?_take_of_lt→Zd,take_succ_eq_append_getElem→Z7,any_eq_true→Z9,map_append→ZY,mem_filter→ZV,mem_range→ZT,replicate→ZS,getElem?_take→ZQ,countP_append→ZP,nodup_iff_pairwise_ne→ZN,all_eq_false→ZM,getElem_drop→ZK,map_toArray→ZI,map_nil→ZH,getElem_inj→ZE,length_drop→ZD,not_all_eq_any_not→ZC,any_append→Yz,getElem?_toArray→Yu,getElem?_eq_none→Yt,countP_eq_length→Yr,range→Yp
open _root_.Or renaming inr→x_,inl→u_
open _root_.Nat renaming le_refl→w_,lt_or_ge→l_,zero_le→k_,lt_of_lt_of_le→i_,eq_zero_or_pos→Zc,add_zero→ZX,zero_add→ZG,strongRecOn→Yx
open _root_.Go.RowKit.Below renaming refl→s_,heap_setCell→Zr,heap_alloc→Zj
open _root_.Go.Value renaming int→n_
open _root_.Go.World renaming putObj_heap_other→h_,cell?→d_,alloc_heap_new→Zk,frozen?→Z5,cell?_of_block→ZW,setCell→ZO
open _root_.Bool renaming and_eq_true→f_,and_true→Z6,and_false→ZU
open _root_.Array renaming getElem?_eq_some_iff→b_,getElem?_eq_none→Zq,getElem?_toList→Z_,replicate→Yy
open _root_.Go.Value.slice renaming injEq→Zw
open _root_.Go.Fence renaming wide→Zu
open _root_.Go.Builtin renaming append_→Zi,firstCells→Yn
open _root_.Int renaming toNat_natCast→Z3,eq_ofNat_of_zero_le→ZB,neg_neg→Yv
open _root_.Go renaming rounds_succ→Z4,heap_alloc_new→ZR,wp_loop_rounds→Yq
open _root_.And renaming intro→ZZ
open _root_.Go.Result renaming andThen_ok→ZL
open _root_.Decidable renaming em→ZF
open _root_.Go.Ending renaming returned→ZA
open _root_.Go.Code renaming region→Yw
open _root_.Go.Region renaming wanted→Yo
open _root_.Go.World.grownBy renaming refl→Ym
open _root_.Go.Sem renaming run_bind→Yl,run_pure→Yk
variable{p:Int->Bool}{ah l S act:List Int}{k n c base m B size g i:Nat}{w' W:World}{A:Option Addr}{a:Act}{x y:Int}{ls:List (List Int)}{P:Program}{Q:Exit->Act->World->Prop}{f:FuncId}{args:Array Value}{e t:TypeId}{xs cs:List Value}{row:Option Nat}{u:Value}{ops:Array Oper}{rest:List Oper}{gR:List Bool}{l8 α:Type}
section
def bI(p:Prop):Prop:=p
theorem bI.o{p:Prop}(h:bI p):p:=h
theorem U{p:Prop}(h:p):bI p:=h
end
section
open Go.RowKit Go.Shelf
def iJ(b:List Int)(k:Nat):Int:=b.getD k 0
theorem rI(h:k<ah.length):iJ ah k=ah[k]:=by simp[iJ,y_,v_ h]
theorem s9(b:List Int)(k:Nat)(h:k<b.length):b.take (k+1)=b.take k++[iJ b k]:=by
 rw[Z7 h,rI h]
structure aQ(w:World)(A:Option Addr)(n c:Nat)(ah:List Int):Prop where
 len:ah.length=n
 cap:n<=c
 mW:n*8<=140737488355328
 o6:c<=maxLen
 cells:0<n->∃b off,A=some ⟨b,off,none⟩/\b<w.heap.size/\∀j,j<n->w.cell? ⟨b,off+j,none⟩=some (.int .i64 (iJ ah j))
theorem aQ.below{w:World}(h:aQ w A n c ah)(d:Below w.heap.size w w'):aQ w' A n c ah:=
 ⟨h.len,h.cap,h.mW,h.o6,λ f=>by
  obtain⟨b,off,rfl,e,g⟩:=h.cells f;exact⟨b,off,rfl,i_ e d.size,λ j i=>(d.cell (p:=⟨b,off+j,none⟩) e).trans (g j i)⟩⟩
theorem aQ.nil(w:World)(A:Option Addr)(c:Nat)(b:c<=maxLen):aQ w A 0 c []:=⟨rfl,k_ _,by omega,b,λ h=>absurd h (by omega)⟩
theorem aQ.drew{w:World}{A:Option Addr}{n c:Nat}{ah:List Int}(h:aQ w A n c ah):aQ w.drew A n c ah:=h.below ((s_ _ _).drew)
theorem aQ.alloc{w:World}{A:Option Addr}{n c:Nat}{ah:List Int}(h:aQ w A n c ah)(o:Obj):aQ (w.alloc o) A n c ah:=h.below ((s_ _ _).alloc (w_ _) _)
theorem aQ.small{w:World}(h:aQ w A n c ah):n<=17592186044416:=by have:=h.mW;omega
theorem Ih{w1:World}(c:Below W.heap.size W w1):(∀b o,b<W.heap.size->w1.cell? ⟨b,o,none⟩=W.cell? ⟨b,o,none⟩)/\(∀b o,b<W.heap.size->w1.frozen? ⟨b,o,none⟩=W.frozen? ⟨b,o,none⟩):=
 ⟨λ b o h=>c.cell (p:=⟨b,o,none⟩) h,λ b o h=>c.frozen (p:=⟨b,o,none⟩) h⟩
theorem mo{a b:Bool}(h:a=b):ZA (.bool a)=.returned (.bool b):=by rw[h]
theorem nL{k:IntKind}{a b:Int}(h:a=b):ZA (.int k a)=.returned (.int k b):=by rw[h]
theorem aQ.lz{w:World}(h:w.ownsRow base 3 1 (.slice A n c) n (ah.map (n_ .i64)))(f:n*8<=140737488355328):aQ w A n c ah:=by
 obtain⟨h1,l⟩:=h;have hl:ah.length=n:=by simpa using h1
 rcases l with⟨b,i⟩|⟨g,cap,cur,b,s,d,m,o,t,p⟩
 ·simp only[Zw] at b;obtain⟨rfl,_,rfl⟩:=b;subst i;exact⟨hl,w_ _,f,k_ _,λ h=>absurd h (by omega)⟩
 ·simp only[Zw] at b;obtain⟨rfl,_,rfl⟩:=b;refine⟨hl,m,f,o,λ i=>⟨g,0,rfl,?_,λ j u=>?_⟩⟩
  ·rcases l_ g w.heap.size with q|r
   ·exact q
   ·rw[Zq r] at d;cases d
  ·have v:j<cur.size:=by omega
   have e:cur[j]? =some (.int .i64 (iJ ah j)):=by
    have k:(cur.toList.take (n*1))[j]? =(ah.map (n_ .i64))[j]? :=by rw[p]
    rw[Zd (by omega),Zv,v_ (by omega:j<ah.length)] at k;rw[<-Z_,k,rI (by omega)];rfl
   simp[d_,d,e]
def hasB(b:List Int)(x:Int):Bool:=b.contains x
theorem qR:hasB ah x=true↔x∈ah:=by simp[hasB]
theorem ym(b:List Int)(x y:Int):hasB (b++[y]) x=(hasB b x||(y==x)):=by
 rw[Bool.eq_iff_iff,qR,Bool.or_eq_true,qR,beq_iff_eq,o_,t_];exact⟨λ h=>h.imp id Eq.symm,λ h=>h.imp id Eq.symm⟩
theorem Ey(h:k<ah.length)(e:(iJ ah k==x)=true):hasB ah x=true:=by
 rw[qR];rw[rI h] at e;have:ah[k]=x:=by simpa using e
 rw[<-this];exact g_ h
theorem Ez(h:k<ah.length)(e:(iJ ah k==x)=false)(b:hasB (ah.take k) x=false):hasB (ah.take (k+1)) x=false:=by
 rw[s9 ah k h,ym,b,e];rfl
theorem EA(hl:ah.length=n)(h:¬k<n)(b:hasB (ah.take k) x=false):hasB ah x=false:=by
 rw[m_ (by omega)] at b;exact b
def oq(ls:List (List Int))(k:Nat):List Int:=ls.getD k []
theorem xE(h:k<ls.length):oq ls k=ls[k]:=by simp[oq,y_,v_ h]
theorem AY(ls:List (List Int))(k:Nat)(h:k<ls.length):ls.take (k+1)=ls.take k++[oq ls k]:=by
 rw[Z7 h,xE h]
theorem zC(h:k<ls.length):oq ls k∈ls:=by rw[xE h];exact g_ h
theorem vM(h:k<ah.length):iJ ah k∈ah:=by rw[rI h];exact g_ h
structure lF(w:World)(A:Option Addr)(n c:Nat)(ls:List (List Int)):Prop where
 len:ls.length=n
 cap:n<=c
 mW:n*24<=140737488355328
 o6:c<=maxLen
 cells:0<n->∃b off,A=some ⟨b,off,none⟩/\b<w.heap.size/\∀j,j<n->∃A' gB c',w.cell? ⟨b,off+j,none⟩=some (.slice A' gB c')/\aQ w A' gB c' (oq ls j)
theorem lF.below{w w':World}{A:Option Addr}{n c:Nat}{ls:List (List Int)}(h:lF w A n c ls)(d:Below w.heap.size w w'):lF w' A n c ls:=
 ⟨h.len,h.cap,h.mW,h.o6,λ f=>by
  obtain⟨b,off,rfl,e,g⟩:=h.cells f;refine⟨b,off,rfl,i_ e d.size,λ j i=>?_⟩;obtain⟨A',k,c',h1,l⟩:=g j i;exact⟨A',k,c',(d.cell (p:=⟨b,off+j,none⟩) e).trans h1,l.below d⟩⟩
theorem lF.nil(w:World)(A:Option Addr)(c:Nat)(b:c<=maxLen):lF w A 0 c []:=⟨rfl,k_ _,by omega,b,λ h=>absurd h (by omega)⟩
theorem lF.small{w:World}(h:lF w A n c ls):n<=5864062014806:=by have:=h.mW;omega
structure kC(w:World) where
 val:World
 ok:Below w.heap.size w val
instance (w:World):Nonempty (kC w):=⟨⟨w,s_ _ _⟩⟩
theorem vp{id:Nat}{w:World}{l:List Oper}(hm:P.follows .mixedOrders=true)(b:Region.lexB .any l.toArray=true)
  (h:wpQuiet P l.toArray (λ w'=>∃u:kC w,w'=u.val) (λ c=>∀w',(∃u:kC w,w'=u.val)->Q .normal c w') l a):(Yw id l.toArray true).wp P Q a w:=
 wp_region_quiet (C:=λ w'=>∃u:kC w,w'=u.val) hm b ⟨⟨w.drew,(s_ _ _).drew⟩,rfl⟩ (by simpa using h)
theorem kC.call{w:World}{v:Value}(u:kC w)(h:Calls P f args u.val λ e w'=>e=.returned v/\Below u.val.heap.size u.val w'):
  Calls P f args u.val λ e w'=>e=.returned v/\∃b:kC w,w'=b.val:=
 h.mono λ _ w' ⟨he,c⟩=>⟨he,⟨w',u.ok.trans (c.mono u.ok.size)⟩,rfl⟩
theorem kC.same{w:World}{v:Value}(u:kC w)(h:Calls P f args u.val λ e w'=>e=.returned v/\u.val=w'):
  Calls P f args u.val λ e w'=>e=.returned v/\∃b:kC w,w'=b.val:=
 h.mono λ _ _ ⟨he,c⟩=>⟨he,u,c.symm⟩
theorem kC.cell{w:World}{p:Addr}{v:Value}(u:kC w)(hp:p.block<w.heap.size)(h:w.cell? p=some v):u.val.cell? p=some v:=(u.ok.cell hp).trans h
theorem kC.o{w:World}(h:∃u:kC w,w'=u.val):Below w.heap.size w w':=by
 obtain⟨u,rfl⟩:=h;exact u.ok
theorem Ii(A:Option Addr)(n c:Nat)(f:List Int)(x:Int)(w:World)(h:aQ w A n c f):
  Calls z_ 101 #[.slice A n c,.int .i64 x] w λ e w'=>e=.returned (.bool (hasB f x))/\w=w':=by
 have m:=h.small;have H:=U h;clear h;go_enter Tryz.func101,Tryz.ntmps101
 go_wp2
 go_loop [5] (λ i=>∃k:Nat,k<=n/\i=.int .i64 k/\hasB (f.take k) x=false) (λ i=>n-(intOf i).toNat)
 case atStart=>exact⟨0,k_ _,rfl,rfl⟩
 case round=>
  obtain⟨k,hk,rfl,g⟩:=hrel;have j:=U g;clear g
  by_cases d:k<n
  ·obtain⟨b,off,rfl,p,l⟩:=H.o.cells (by omega);have q:=l k d;clear l;go_wp2
   ·go_ret;exact⟨mo (Ey (by rw[H.o.len];exact d) (by assumption)).symm,rfl⟩
   ·go_round
    case rel=>exact⟨k+1,by omega,by go_num,Ez (by rw[H.o.len];exact d) (by assumption) j.o⟩
    case measure=>simp[intOf];omega
  ·go_wp2;go_ret;exact⟨mo (EA H.o.len d j.o).symm,rfl⟩
def oz(x y:Int):Int:=if x<y then-1 else if y<x then 1 else 0
theorem AZ(x:Int)(w:World):Calls z_ 196 #[.int .i64 x] w λ e w'=>e=.returned (.bool false)/\w=w':=by
 go_enter Tryz.func196,Tryz.ntmps196
 go_wp2;go_ret;exact⟨mo (by simp),rfl⟩
theorem zD(x y:Int)(w:World):Calls z_ 160 #[.int .i64 x,.int .i64 y] w λ e w'=>e=.returned (.int .i64 (oz x y))/\w=w':=by
 by_cases h1:x<y
 ·go_enter Tryz.func160,Tryz.ntmps160
  go_wp2_with (go_at_call 196;refine(AZ _ _).mono ?_;rintro e w' ⟨rfl,rfl⟩)
  go_ret;exact⟨nL (by simp[oz,h1]),rfl⟩
 ·by_cases b:y<x
  all_goals
   go_enter Tryz.func160,Tryz.ntmps160
   go_wp2_with (go_at_call 196;refine(AZ _ _).mono ?_;rintro e w' ⟨rfl,rfl⟩)
   go_ret;exact⟨nL (by unfold oz;split<;>(try split)<;>omega),rfl⟩
def rJ(x y:Int):Int:=if x=0 then y else x
theorem A0(g:Nat)(x y:Int)(w:World)(k:w.cell? ⟨g,0,none⟩=some (.int .i64 x))(h1:w.cell? ⟨g,1,none⟩=some (.int .i64 y)):
  Calls z_ 159 #[.slice (some ⟨g,0,none⟩) 2 2] w λ e w'=>e=.returned (.int .i64 (rJ x y))/\w=w':=by
 by_cases b:x=0
 ·have f:(x !=0)=false:=by simp[b]
  have d:=U b;clear b
  by_cases c:y=0
  ·have i:(y !=0)=false:=by simp[c]
   have j:=U c;clear c;go_enter Tryz.func159,Tryz.ntmps159
   go_wp2;refine Yq 3 ?_;rw[Z4];go_wp2;rw[Z4];go_wp2;rw[Z4];go_wp2;go_ret;exact⟨nL (by rw[rJ,if_pos d.o,j.o]),rfl⟩
  ·have i:(y !=0)=true:=by simpa using c
   clear c;go_enter Tryz.func159,Tryz.ntmps159
   go_wp2;refine Yq 2 ?_;rw[Z4];go_wp2;rw[Z4];go_wp2;go_ret;exact⟨nL (by rw[rJ,if_pos d.o]),rfl⟩
 ·have f:(x !=0)=true:=by simpa using b
  have d:=U b;clear b;go_enter Tryz.func159,Tryz.ntmps159
  go_wp2;refine Yq 1 ?_;rw[Z4];go_wp2;go_ret;exact⟨nL (by rw[rJ,if_neg d.o]),rfl⟩
def lG(x n:Int):Bool:=decide (x≠0)&&decide (-n<=x)&&decide (x<=n)
theorem uP{n:Int}:lG x n=true↔x≠0/\ -n<=x/\x<=n:=by simp[lG,and_assoc]
theorem Ij{n:Int}(b:0<=n)(h1:n<=65536):wrap64 (-n)= -n:=by unfold wrap64;omega
theorem Ik{n:Int}(b:0<=n)(h1:n<=65536):wrap64 (0-n)= -n:=by unfold wrap64;omega
theorem Il(x n:Int)(w:World)(d:0<=n)(h1:n<=65536):Calls z_ 115 #[.int .i64 x,.int .i64 n] w λ e w'=>e=.returned (.bool (lG x n))/\w=w':=by
 have hw:=Ik d h1
 by_cases b:x=0
 ·have f:(x !=0)=false:=by simp[b]
  have c:=U b;clear b;go_enter Tryz.func115,Tryz.ntmps115
  go_wp2;go_ret;exact⟨mo (by simp[lG,c.o]),rfl⟩
 ·have f:(x !=0)=true:=by simpa using b
  have c:=U b;clear b
  by_cases g: -n<=x
  ·by_cases i:x<=n
   all_goals
    go_enter Tryz.func115,Tryz.ntmps115
    go_wp2;go_ret;exact⟨mo (by simp[lG,c.o,g,i]),rfl⟩
  ·go_enter Tryz.func115,Tryz.ntmps115
   go_wp2;go_ret;exact⟨mo (by rw[lG,decide_eq_false (show¬-n<=x by omega),ZU,Bool.false_and]),rfl⟩
theorem CP(x n:Int)(w:World)(d:0<=n)(h1:n<=65536):Calls z_ 163 #[.int .i64 x,.int .i64 n] w λ e w'=>e=.returned (.bool (lG x n))/\w=w':=by
 have hw:=Ij d h1
 by_cases b:x=0
 ·have f:(x !=0)=false:=by simp[b]
  have c:=U b;clear b;go_enter Tryz.func163,Tryz.ntmps163
  go_wp2;go_ret;exact⟨mo (by simp[lG,c.o]),rfl⟩
 ·have f:(x !=0)=true:=by simpa using b
  have c:=U b;clear b
  by_cases g: -n<=x
  ·by_cases i:x<=n
   all_goals
    go_enter Tryz.func163,Tryz.ntmps163
    go_wp2;go_ret;exact⟨mo (by simp[lG,c.o,g,i]),rfl⟩
  ·go_enter Tryz.func163,Tryz.ntmps163
   go_wp2;go_ret;exact⟨mo (by rw[lG,decide_eq_false (show¬-n<=x by omega),ZU,Bool.false_and]),rfl⟩
def qS(x:Int):Int:=if x<0 then-x else x
theorem EC(x:Int)(w:World)(b: -65536<=x)(h1:x<=65536):Calls z_ 168 #[.int .i64 x] w λ e w'=>e=.returned (.int .i64 (qS x))/\w=w':=by
 have hw:wrap64 (-x)= -x:=by unfold wrap64;omega
 go_enter Tryz.func168,Tryz.ntmps168
 go_wp2
 all_goals
  go_ret;exact⟨nL (by unfold qS;split<;>omega),rfl⟩
theorem tc(w:World)(q:Nat):Below w.heap.size w (w.drewN q):=⟨rfl,rfl,rfl,w_ _,λ _ _=>rfl⟩
theorem Im(h:k<ah.length)(e:p (iJ ah k)=false):ah.all p=false:=by
 rw[rI h] at e;rw[ZM];exact⟨_,g_ h,by simp[e]⟩
theorem Io(h:k<ah.length)(e:p (iJ ah k)=true)(b:(ah.take k).all p=true):(ah.take (k+1)).all p=true:=by
 rw[s9 ah k h,List.all_append,b];simp[e]
theorem Ip(hl:ah.length=n)(h:¬k<n)(b:(ah.take k).all p=true):ah.all p=true:=by
 rw[m_ (by omega)] at b;exact b
def CQ(b:List Int):Prop:=∀x∈b,x≠0/\ -65536<=x/\x<=65536
theorem CQ.at(h:CQ ah)(hk:k<ah.length):iJ ah k≠0/\ -65536<=iJ ah k/\iJ ah k<=65536:=h _ (vM hk)
theorem Iq(b: -65536<=x)(h1:x<=65536):wrap64 (-x)= -x:=by unfold wrap64;omega
def uf(ls:List (List Int)):Nat:=(ls.map List.length).sum
theorem Ir(h:k<ls.length):uf (ls.take (k+1))=uf (ls.take k)+(oq ls k).length:=by
 rw[AY ls k h];simp[uf]
def yo(ls:List (List Int)):Bool:=decide (ls.length<=200)&&decide (uf (ls.take 200)<=1000)
theorem Is(A:Option Addr)(n c:Nat)(ls:List (List Int))(w:World)(h:lF w A n c ls):
  Calls z_ 103 #[.slice A n c] w λ e w'=>e=.returned (.bool (yo ls))/\w=w':=by
 have z:=h.small;have H:=U h;clear h;go_enter Tryz.func103,Tryz.ntmps103
 go_wp2
 go_loop [3,4] (λ s i=>∃(k:Nat),k<=n/\k<=200/\s=.int .i64 (uf (ls.take k):Nat)/\i=.int .i64 k/\uf (ls.take k)<=k*17592186044416) (λ _ i=>n-(intOf i).toNat)
 case atStart=>exact⟨0,k_ _,by omega,rfl,rfl,by simp[uf]⟩
 case round=>
  obtain⟨k,hk,r,rfl,rfl,j⟩:=hrel
  by_cases f:k<n
  ·by_cases l:k<200
   ·obtain⟨b,off,rfl,J,t⟩:=H.o.cells (by omega);obtain⟨a1,B,c1,K,q⟩:=t k f;clear t;have u:=q.small;have m:=q.len;have p:=Ir (ls:=ls) (k:=k) (by rw[H.o.len];exact f);rw[m] at p;clear m q;generalize d:uf (ls.take k)=S at*;generalize v:uf (ls.take (k+1))=C at*;have hw:wrap64 ((S:Int)+(B:Int))=(C:Int):=by rw[p];unfold wrap64;omega
    have g:=U (ZZ p (ZZ d v));have y:=U (ZZ j (ZZ u l));have D:(k:Int)<200:=by omega
    clear p d v j u l r;go_wp2
    go_round
    case rel=>exact⟨k+1,by omega,by have:=y.o;omega,by rw[g.o.2.2];first|rfl|rw[hw]|simp[hw],by go_num,by have:=y.o;rw[g.o.2.2,g.o.1];omega⟩
    case measure=>simp[intOf];omega
   ·generalize d:uf (ls.take k)=S at*;have g:=U d;clear d;have D:¬(k:Int)<200:=by omega
    have m:(k:Int)<n:=by omega
    have F:¬(n:Int)<=200:=by omega
    have G:=U (ZZ f l);clear f l hk r z j;go_wp2;go_ret;exact⟨mo (by have:=G.o;rw[yo,H.o.len,decide_eq_false (by omega)];rfl),rfl⟩
  ·have m:¬(k:Int)<n:=by omega
   have F:(n:Int)<=200:=by omega
   generalize d:uf (ls.take k)=S at*;have g:=U d;clear d;have e:uf (ls.take 200)=S:=by rw[<-g.o,m_ (by rw[H.o.len];omega),m_ (by rw[H.o.len];omega)]
   have E:=U e;have I:=U f;clear e f hk j
   by_cases L:(S:Int)<=1000
   all_goals
    go_wp2;go_ret;refine⟨mo ?_,rfl⟩;have:=I.o;rw[yo,H.o.len,E.o,decide_eq_true (by omega),Bool.true_and];simp;omega
def wD(n:Int)(l:List Int):Bool:=l.all λ x=>lG x n
def sH(n:Int)(ls:List (List Int)):Bool:=ls.all (wD n)
def kZ(n:Int)(ls:List (List Int)):Int:=if n<0\/65536<n then 1 else if sH n ls=false then 1 else if 65536<ls.length then 2 else 0
theorem ED{n:Int}(h:k<ls.length)(e:wD n (oq ls k)=false):sH n ls=false:=by
 rw[xE h] at e;unfold sH;rw[ZM];exact⟨_,g_ h,by simp[e]⟩
theorem EE{n:Int}(h:k<ls.length)(e:wD n (oq ls k)=true)(b:sH n (ls.take k)=true):sH n (ls.take (k+1))=true:=by
 unfold sH at*;rw[AY ls k h,List.all_append,b];simp[e]
theorem EF{n:Int}(hl:ls.length=m)(h:¬k<m)(b:sH n (ls.take k)=true):sH n ls=true:=by
 rw[m_ (by omega)] at b;exact b
theorem EG{n:Int}(h:n<0\/65536<n):kZ n ls=1:=if_pos h
theorem EH{n:Int}(h:sH n ls=false):kZ n ls=1:=by unfold kZ;split<;>simp[h]
theorem EI{n:Int}(b:0<=n/\n<=65536)(h:sH n ls=true)(hl:65536<ls.length):kZ n ls=2:=by
 unfold kZ;rw[if_neg (by omega),if_neg (by rw[h];exact Bool.noConfusion),if_pos hl]
theorem CR{n:Int}(b:0<=n/\n<=65536)(h:sH n ls=true)(hl:¬65536<ls.length):kZ n ls=0:=by
 unfold kZ;rw[if_neg (by omega),if_neg (by rw[h];exact Bool.noConfusion),if_neg hl]
structure xF(w:World)(B:Nat)(x:Int)(A:Option Addr)(n c:Nat):Prop where
 lt:B<w.heap.size
 c0:w.cell? ⟨B,0,none⟩=some (.int .i64 x)
 c1:w.cell? ⟨B,1,none⟩=some (.slice A n c)
theorem xF.below{w:World}(h:xF w B x A n c)(b:Below w.heap.size w w'):xF w' B x A n c:=
 ⟨i_ h.lt b.size,(b.cell (p:=⟨B,0,none⟩) h.lt).trans h.c0,(b.cell (p:=⟨B,1,none⟩) h.lt).trans h.c1⟩
theorem xF.new(w:World)(x:Int)(A:Option Addr)(n c:Nat):xF (w.alloc (.cells #[.int .i64 x,.slice A n c] 24)) w.heap.size x A n c:=
 ⟨by simp,by simp,by simp⟩
theorem CS(r:Bool)(x n:Int)(w:World)(b:0<=n)(h1:n<=65536)(c:lG x n=r):Calls z_ 115 #[.int .i64 x,.int .i64 n] w λ e w'=>e=.returned (.bool r)/\w=w':=
 (Il x n w b h1).mono λ _ _ ⟨he,hw⟩=>⟨by rw[he,c],hw⟩
theorem It(x:Int)(A:Option Addr)(n c:Nat)(ls:List (List Int))(w:World)(h:lF w A n c ls)(G:0<=x)(h1:x<=65536):
  Calls z_ 88 #[.agg #[.int .i64 x,.slice A n c]] w λ e w'=>e=.returned (.int .i64 (kZ x ls))/\Below w.heap.size w w':=by
 have ar:=h.small;have H:=U h;clear h;have au:¬x<0:=by omega
 have z2:¬65536<x:=by omega
 have l:=U (ZZ G h1);clear G h1;go_enter Tryz.func88,Tryz.ntmps88
 go_wp2;have C:Below w.heap.size w (w.alloc (.cells #[.int .i64 x,.slice A n c] 24)):=(s_ _ _).alloc (w_ _) _;have D:=xF.new w x A n c;generalize ak:w.alloc (.cells #[.int .i64 x,.slice A n c] 24)=W at C D⊢;clear ak;have g:=U C;have q:=U D;have av:w.heap.size<W.heap.size:=q.o.lt;clear C D
 go_loopw [3] (λ i wr=>∃k:Nat,k<=n/\i=.int .i64 k/\sH x (ls.take k)=true/\Below W.heap.size W wr) (λ i _=>n-(intOf i).toNat)
 case atStart=>exact⟨0,k_ _,rfl,rfl,s_ _ _⟩
 case round=>
  obtain⟨k,hk,rfl,I,J⟩:=hrel;have K:=U I;have d:=U J;clear I J;have L:=(q.o.below d.o).c0;have M:=(q.o.below d.o).c1
  by_cases r:k<n
  ·obtain⟨b,off,rfl,N,O⟩:=((H.o.below g.o).below d.o).cells (by omega);obtain⟨a1,s,c1,P,E⟩:=O k r;clear O;have t:=U E;have aw:=E.small;clear E;have al:(k:Int)<(n:Int):=by omega
   rename World=>V
   go_wp2_with fail
   go_loopw [4] (λ i an=>∃j:Nat,j<=s/\i=.int .i64 j/\((oq ls k).take j).all (λ y=>lG y x)=true/\Below V.heap.size V an) (λ i _=>s-(intOf i).toNat)
   case atStart=>exact⟨0,k_ _,rfl,rfl,s_ _ _⟩
   case round=>
    obtain⟨j,ax,rfl,Q,R⟩:=hrel;have S:=U Q;have f:=U R;clear Q R;have F:w.heap.size<V.heap.size:=(q.o.below d.o).lt;have T:=(f.o.cell (p:=⟨w.heap.size,0,none⟩) F).trans L;have X:=(f.o.cell (p:=⟨w.heap.size,1,none⟩) F).trans M;have Y:=(f.o.cell (p:=⟨b,off+k,none⟩) N).trans P;have Z:Below w.heap.size w wr:=g.o.trans ((d.o.trans (f.o.mono d.o.size)).mono g.o.size);have aa:=U Z;clear Z
    by_cases v:j<s
    ·obtain⟨ab,ad,rfl,ae,af⟩:=(t.o.below f.o).cells (by omega);have ag:=af j v;clear af;have z:w.heap.size<wr.heap.size:=i_ F f.o.size;have m:b<wr.heap.size:=i_ N f.o.size;have ay:(j:Int)<(s:Int):=by omega
     generalize ah:lG (iJ (oq ls k) j) x=o;have B:=U ah;clear ah L M P
     cases o
     ·go_wp2_with fail
      refine vp (by kernel_rfl) (by kernel_rfl) ?_;have g0:=λ u:kC wr=>u.cell (p:=⟨w.heap.size,0,none⟩) z T
      have g1:=λ u:kC wr=>u.cell (p:=⟨w.heap.size,1,none⟩) z X
      have gk:=λ u:kC wr=>u.cell (p:=⟨b,off+k,none⟩) m Y
      have ao:=λ u:kC wr=>u.cell (p:=⟨ab,ad+j,none⟩) ae ag
      repeat (go_big_quiet_step ((go_at_call 115;exact kC.same _ (CS false _ _ _ l.o.1 l.o.2 B.o))))
      refine wpQuiet_nil ?_;rintro _ ⟨⟨aq,m⟩,rfl⟩
      go_wp2_with fail
      go_ret;exact⟨nL (EH (ED (k:=k) (by rw[H.o.len];exact r) (Im (p:=λ y=>lG y x) (by rw[t.o.len];exact v) B.o))).symm,aa.o.trans (m.mono aa.o.size)⟩
     ·go_wp2_with fail
      refine vp (by kernel_rfl) (by kernel_rfl) ?_;have g0:=λ u:kC wr=>u.cell (p:=⟨w.heap.size,0,none⟩) z T
      have g1:=λ u:kC wr=>u.cell (p:=⟨w.heap.size,1,none⟩) z X
      have gk:=λ u:kC wr=>u.cell (p:=⟨b,off+k,none⟩) m Y
      have ao:=λ u:kC wr=>u.cell (p:=⟨ab,ad+j,none⟩) ae ag
      repeat (go_big_quiet_step ((go_at_call 115;exact kC.same _ (CS true _ _ _ l.o.1 l.o.2 B.o))))
      refine wpQuiet_nil ?_;rintro _ ⟨⟨aq,m⟩,rfl⟩
      go_wp2_with fail
      go_roundw
      case rel=>exact⟨j+1,by omega,by go_num,Io (p:=λ y=>lG y x) (by rw[t.o.len];exact v) B.o S.o,f.o.trans (m.mono f.o.size)⟩
      case measure=>simp[intOf];omega
    ·go_wp2_with fail
     go_roundw
     case rel=>exact⟨k+1,by omega,by go_num,EE (by rw[H.o.len];exact r) (Ip t.o.len v S.o) K.o,d.o.trans (f.o.mono d.o.size)⟩
     case measure=>simp[intOf];omega
  ·have ai:=EF H.o.len r K.o;have aj:=U ai;clear ai;have al:¬(k:Int)<(n:Int):=by omega
   by_cases az:(65536:Int)<n
   ·go_wp2_with fail
    go_ret;exact⟨nL (EI l.o aj.o (by rw[H.o.len];omega)).symm,g.o.trans (d.o.mono g.o.size)⟩
   ·go_wp2_with fail
    go_ret;exact⟨nL (CR l.o aj.o (by rw[H.o.len];omega)).symm,g.o.trans (d.o.mono g.o.size)⟩
theorem Iu(x:Int)(A:Option Addr)(n c:Nat)(w:World)(h:x<0\/65536<x):
  Calls z_ 88 #[.agg #[.int .i64 x,.slice A n c]] w λ e w'=>e=.returned (.int .i64 1)/\Below w.heap.size w w':=by
 by_cases b:x<0
 ·clear h;go_enter Tryz.func88,Tryz.ntmps88
  go_wp2;go_ret;exact⟨rfl,(s_ _ _).alloc (w_ _) _⟩
 ·have h1:65536<x:=by omega
  clear h;go_enter Tryz.func88,Tryz.ntmps88
  go_wp2;go_ret;exact⟨rfl,(s_ _ _).alloc (w_ _) _⟩
theorem Iv(x:Int)(A:Option Addr)(n c:Nat)(ls:List (List Int))(w:World)(h:lF w A n c ls):
  Calls z_ 88 #[.agg #[.int .i64 x,.slice A n c]] w λ e w'=>e=.returned (.int .i64 (kZ x ls))/\Below w.heap.size w w':=by
 by_cases b:x<0\/65536<x
 ·rw[EG b];exact Iu x A n c w b
 ·exact It x A n c ls w h (by omega) (by omega)
theorem EJ(he:P.underlying e=some .bool){v:Value}{x:Bool}{mC:List MemPlace}(h:plainElem (H:=Unit) P e v=some (.lit (.bool x),mC)):v=.bool x:=by
 unfold plainElem at h;rw[he] at h
 cases v<;>simp at h
 rw[h.1]
def lY(w:World)(b n:Nat)(S:List Int):Prop:=
 ∃D:DataW Unit,w.ownsMap z_ 3 (plainElem z_ 4) b n D/\∀x,(Lit.int .i64 x).wf=true->D.atKey (.int .i64 x) (.lit (.bool false))=.lit (.bool (hasB S x))
theorem lY.made(w:World):lY (w.alloc (.map #[] 0)) w.heap.size 0 []:=
 ⟨_,World.ownsMap_made w _ _ _,λ x _=>rfl⟩
theorem lY.lt{w:World}{b n:Nat}{S:List Int}(h:lY w b n S):b<w.heap.size:=by
 obtain⟨D,h1,c⟩:=h;exact h1.lt
theorem lY.kept{w w':World}{b n:Nat}{S:List Int}{row:Option Nat}(h:lY w b n S)(c:w.grownBy w' row)(d:some b≠row):lY w' b n S:=by
 obtain⟨D,h1,e⟩:=h;exact⟨D,h1.kept c d,e⟩
theorem lY.alloc{w:World}{b n:Nat}{S:List Int}(h:lY w b n S)(o:Obj):lY (w.alloc o) b n S:=by
 obtain⟨D,h1,c⟩:=h;exact⟨D,h1.alloc o,c⟩
theorem lY.drew{w:World}{b n:Nat}{S:List Int}(h:lY w b n S):lY w.drew b n S:=by
 obtain⟨D,h1,c⟩:=h;exact⟨D,h1.drew,c⟩
theorem lY.below{w:World}{b:Nat}(h:lY w b n S)(c:Below B w w')(d:b<B):lY w' b n S:=by
 obtain⟨D,⟨es,clock,h1,e⟩,f⟩:=h;exact⟨D,⟨es,clock,(c.block b d).trans h1,e⟩,f⟩
theorem lY.look{w:World}{b:Nat}(h:lY w b n S){x:Int}(c:(Lit.int .i64 x).wf=true):
  (Instr.lookup 114 (.map (some b)) (.int .i64 x) false).run z_ w=.ok (.bool (hasB S x)) w:=by
 obtain⟨D,h1,e⟩:=h;obtain⟨v,i,f,d⟩:=h1.lookup (Maps.int_keyed Z8) Tryz.underlying114 (z:=.bool false) (Tryz.zeroValue4 w) (plainElem_bool ZJ false) (Maps.keyOf_int_mk Z8 c);rw[e x c] at d;have g:=EJ ZJ d;rw[f,g]
theorem lY.put{w:World}{b:Nat}(h:lY w b n S)(c:n<maxLen){x:Int}(d:(Lit.int .i64 x).wf=true):
  ∃w',(Instr.mapUpdate 114 (.map (some b)) (.int .i64 x) (.bool true)).run z_ w=.ok () w'/\lY w' b (n+1) (S++[x])/\w.grownBy w' (some b):=by
 obtain⟨D,h1,f⟩:=h;obtain⟨w',g,i,j⟩:=h1.update (Maps.int_keyed Z8) Tryz.underlying114 c (Maps.keyOf_int_mk Z8 d) (plainElem_bool ZJ true);refine⟨w',g,⟨_,i,λ y k=>?_⟩,j⟩
 by_cases e:y=x
 ·subst e;rw[Maps.atKey_put_same h1.isMap (by simp[WideAt.IsKeyLit]),ym];simp
 ·rw[Maps.atKey_put_other (by simpa using e),f y k,ym];have:(x==y)=false:=by simpa using Ne.symm e
  rw[this,Bool.or_false]
theorem Iw(h:k<ah.length)(e:p (iJ ah k)=true):ah.any p=true:=by
 rw[rI h] at e;rw[Z9];exact⟨_,g_ h,e⟩
theorem EK(h:k<ah.length)(e:p (iJ ah k)=false)(b:(ah.take k).any p=false):(ah.take (k+1)).any p=false:=by
 rw[s9 ah k h,Yz,b];simp[e]
theorem EL(hl:ah.length=n)(h:¬k<n)(b:(ah.take k).any p=false):ah.any p=false:=by
 rw[m_ (by omega)] at b;exact b
def Iy(p:Int->Bool)(b:List Int)(w:World)(e:Ending)(w':World):Prop:=∃r:Int,e=.returned (.int .i64 r)/\(decide (0<=r)=b.any p)/\w=w'
theorem Iz(g:Nat)(lb:Array Value)(p:Int->Bool)(u:∀args w,(callFunc g args).run z_ w=.ok (.enter g args) w)(A:Option Addr)(n c:Nat)(d:List Int)(w:World)(h:aQ w A n c d)
  (hp:∀x∈d,Calls z_ g (#[.int .i64 x]++lb) w λ e w'=>e=.returned (.bool (p x))/\w=w'):
  Calls z_ 142 #[.slice A n c,.func (.func g) #[] lb] w (Iy p d w):=by
 have v:=h.small;have H:=U h;clear h;have t:=U hp;clear hp;go_enter Tryz.func142,Tryz.ntmps142
 go_wp2
 go_loop [8] (λ i=>∃k:Nat,k<=n/\i=.int .i64 k/\(d.take k).any p=false) (λ i=>n-(intOf i).toNat)
 case atStart=>exact⟨0,k_ _,rfl,rfl⟩
 case round=>
  obtain⟨k,hk,rfl,l⟩:=hrel;have m:=U l;clear l
  by_cases f:k<n
  ·obtain⟨b,off,rfl,y,q⟩:=H.o.cells (by omega);have z:=q k f;clear q;have hl:k<d.length:=by rw[H.o.len];exact f
   have j:=t.o (iJ d k) (vM hl);generalize r:p (iJ d k)=o at j;have s:=U r;clear r
   cases o
   ·go_wp2_with (go_at_fn g;refine j.mono ?_;rintro e w' ⟨rfl,rfl⟩)
    go_round
    case rel=>exact⟨k+1,by omega,by go_num,EK hl s.o m.o⟩
    case measure=>simp[intOf];omega
   ·go_wp2_with (go_at_fn g;refine j.mono ?_;rintro e w' ⟨rfl,rfl⟩)
    go_ret;exact⟨k,rfl,by rw[Iw hl s.o];simp,rfl⟩
  ·go_wp2;go_ret;exact⟨-1,rfl,by rw[EL H.o.len f m.o];rfl,rfl⟩
theorem CT(g:Nat)(lb:Array Value)(p:Int->Bool)(d:∀args w,(callFunc g args).run z_ w=.ok (.enter g args) w)(A:Option Addr)(n c:Nat)(b:List Int)(w:World)(h:aQ w A n c b)
  (hp:∀x∈b,Calls z_ g (#[.int .i64 x]++lb) w λ e w'=>e=.returned (.bool (p x))/\w=w'):
  Calls z_ 120 #[.slice A n c,.func (.func g) #[] lb] w λ e w'=>e=.returned (.bool (b.any p))/\w=w':=by
 have f:=Iz g lb p d A n c b w h hp;clear h hp;go_enter Tryz.func120,Tryz.ntmps120
 go_wp2_with (go_at_call 142;refine f.mono ?_;rintro e w' ⟨r,rfl,i,rfl⟩)
 all_goals
  go_ret;exact⟨mo (by rw[<-i]),rfl⟩
theorem IA:∀args w,(callFunc 162 args).run z_ w=.ok (.enter 162 args) w:=enters_of Tryz.func162 (by kernel_rfl) rfl
theorem IB(B:Nat)(n x:Int)(w:World)(c:w.cell? ⟨B,0,none⟩=some (.int .i64 n))(b:0<=n)(h1:n<=65536):
  Calls z_ 162 #[.int .i64 x,.pointer (some ⟨B,0,none⟩)] w λ e w'=>e=.returned (.bool (!(lG x n)))/\w=w':=by
 go_enter Tryz.func162,Tryz.ntmps162
 go_wp2_with (go_at_call 163;refine(CP x n w b h1).mono ?_;rintro e w' ⟨rfl,rfl⟩)
 go_ret;exact⟨rfl,rfl⟩
theorem IC(n:Int)(l:List Int):l.any (λ x=> !(lG x n))= !(wD n l):=by
 unfold wD;rw[ZC]
theorem ID(x:Int)(A:Option Addr)(n c:Nat)(ls:List (List Int))(w:World)(h:lF w A n c ls)(p:0<=x)(h1:x<=65536):
  Calls z_ 107 #[.agg #[.int .i64 x,.slice A n c]] w λ e w'=>e=.returned (.int .i64 (kZ x ls))/\Below w.heap.size w w':=by
 have F:=h.small;have H:=U h;clear h;have G:¬x<0:=by omega
 have z2:¬65536<x:=by omega
 have f:=U (ZZ p h1);clear p h1;go_enter Tryz.func107,Tryz.ntmps107
 go_wp2;have m:Below w.heap.size w (w.alloc (.cells #[.int .i64 x,.slice A n c] 24)):=(s_ _ _).alloc (w_ _) _;have d:=xF.new w x A n c;generalize C:w.alloc (.cells #[.int .i64 x,.slice A n c] 24)=W at m d⊢;clear C;have g:=U m;have I:=U d;have D:=d.c0;have J:=d.c1;clear m d
 go_loop [16] (λ i=>∃k:Nat,k<=n/\i=.int .i64 k/\sH x (ls.take k)=true) (λ i=>n-(intOf i).toNat)
 case atStart=>exact⟨0,k_ _,rfl,rfl⟩
 case round=>
  obtain⟨k,hk,rfl,q⟩:=hrel;have r:=U q;clear q
  by_cases j:k<n
  ·obtain⟨b,off,rfl,K,s⟩:=(H.o.below g.o).cells (by omega);obtain⟨a1,E,c1,L,t⟩:=s k j;clear s;have l:=CT 162 #[.pointer (some ⟨w.heap.size,0,none⟩)] (λ y=> !(lG y x)) IA a1 E c1 (oq ls k) W t (λ y _=>IB w.heap.size x y W D f.o.1 f.o.2);rw[IC] at l;clear t;generalize u:wD x (oq ls k)=o at l;have v:=U u;clear u
   cases o
   ·go_wp2_with (go_at_call 120;refine l.mono ?_;rintro e w' ⟨rfl,rfl⟩)
    go_ret;exact⟨nL (EH (ED (k:=k) (by rw[H.o.len];exact j) v.o)).symm,g.o⟩
   ·go_wp2_with (go_at_call 120;refine l.mono ?_;rintro e w' ⟨rfl,rfl⟩)
    go_round
    case rel=>exact⟨k+1,by omega,by go_num,EE (by rw[H.o.len];exact j) v.o r.o⟩
    case measure=>simp[intOf];omega
  ·have z:=EF H.o.len j r.o;have B:=U z;clear z;have M:¬(k:Int)<(n:Int):=by omega
   by_cases N:(65536:Int)<n
   ·go_wp2;go_ret;exact⟨nL (EI f.o B.o (by rw[H.o.len];omega)).symm,g.o⟩
   ·go_wp2;go_ret;exact⟨nL (CR f.o B.o (by rw[H.o.len];omega)).symm,g.o⟩
theorem IE(x:Int)(A:Option Addr)(n c:Nat)(w:World)(h:x<0\/65536<x):
  Calls z_ 107 #[.agg #[.int .i64 x,.slice A n c]] w λ e w'=>e=.returned (.int .i64 1)/\Below w.heap.size w w':=by
 by_cases b:x<0
 ·clear h;go_enter Tryz.func107,Tryz.ntmps107
  go_wp2;go_ret;exact⟨rfl,(s_ _ _).alloc (w_ _) _⟩
 ·have h1:65536<x:=by omega
  clear h;go_enter Tryz.func107,Tryz.ntmps107
  go_wp2;go_ret;exact⟨rfl,(s_ _ _).alloc (w_ _) _⟩
theorem vN(x:Int)(A:Option Addr)(n c:Nat)(ls:List (List Int))(w:World)(h:lF w A n c ls):
  Calls z_ 107 #[.agg #[.int .i64 x,.slice A n c]] w λ e w'=>e=.returned (.int .i64 (kZ x ls))/\Below w.heap.size w w':=by
 by_cases b:x<0\/65536<x
 ·rw[EG b];exact IE x A n c w b
 ·exact ID x A n c ls w h (by omega) (by omega)
theorem zF:(z_.info? 3).map (λ i=>(i.zero,i.size,i.bytes))=some (some (.int .i64 0),1,8):=by kernel_rfl
structure Row where
 A:Option Addr
 n:Nat
 c:Nat
 ah:List Int
theorem yp{v:Value}(h:W.ownsRow base e size v (k+1) xs):∃g cap,v=.slice (some ⟨g,0,none⟩) (k+1) cap:=by
 rcases h.2 with⟨_,c⟩|⟨g,cap,cur,b,_⟩
 ·omega
 ·exact⟨g,cap,b⟩
theorem td{w:World}{v:Value}(h:w.ownsRow base e size v n xs){g:Nat}(b:v.ownBlock=some g):base<=g/\g<w.heap.size:=by
 rcases h.2 with⟨rfl,_⟩|⟨c,cap,cur,rfl,f,d,_⟩
 ·simp[Value.ownBlock] at b
 ·have:c=g:=by simpa[Value.ownBlock] using b
  subst this;refine⟨f,?_⟩;rcases l_ c w.heap.size with i|j
  ·exact i
  ·rw[Zq j] at d;cases d
theorem lR{v:Value}{w:World}(h:w.ownsRow B e k v n xs)(b:Below w.heap.size w w'):w'.ownsRow B e k v n xs:=
 h.kept (row:=none) ⟨b.os,b.tape,b.output,b.size,λ j c _=>b.block j c⟩ (by cases d:v.ownBlock<;>simp)
theorem CU{jo jI:World}(h:W.grownBy jo row)(b:jo.grownBy jI row):W.grownBy jI row:=
 ⟨b.os.trans h.os,b.tape.trans h.tape,b.output.trans h.output,Nat.le_trans h.size b.size,λ k hk c=>(b.block k (i_ hk h.size) c).trans (h.block k hk c)⟩
theorem A1:(z_.info? 25).map (λ i=>(i.zero,i.size,i.bytes))=some (some (.slice none 0 0),1,24):=by kernel_rfl
def ki(r:Row):Value:=.slice r.A r.n r.c
def ug(w:World)(B:Nat)(u v:Value):Prop:=w.heap[B]? =some (.cells #[u,v] 24 (0,0))
theorem ug.lt{w:World}{v:Value}(h:ug w B u v):B<w.heap.size:=(b_.1 h).1
theorem ug.c0{w:World}{v:Value}(h:ug w B u v):w.cell? ⟨B,0,none⟩=some u:=by simp[d_,show w.heap[B]? =_ from h]
theorem ug.c1{w:World}{v:Value}(h:ug w B u v):w.cell? ⟨B,1,none⟩=some v:=by simp[d_,show w.heap[B]? =_ from h]
theorem ug.below{w:World}{v:Value}(h:ug w B u v)(b:Below w.heap.size w w'):ug w' B u v:=(b.block B h.lt).trans h
theorem ug.new(w:World)(u v:Value):ug (w.alloc (.cells #[u,v] 24)) w.heap.size u v:=Zk w _
theorem II{w:World}(v:Value):w.grownBy (w.setCell ⟨B,k,none⟩ v) (some B):=
 ⟨rfl,rfl,rfl,(KeepsWalks.setCell w _ v).size,λ j _ b=>Zr _ _ _ j (λ e=>b (by rw[e]))⟩
theorem CV(b:z_.underlying t=some (.slice e))(w:World)(base:Nat)(ty:TypeId)(i0:TypeInfo)(d:z_.info? e=some i0)(v:Value)(n size:Nat)(xs:List Value)(f:w.ownsRow base e size v n xs)(c:Nat):
  (Zi #[t,t] ty #[v,.slice none 0 c]).run z_ w=.ok v w:=by
 rcases f.2 with⟨rfl,rfl⟩|⟨g,cap,cur,rfl,_,_,i,_⟩
 ·simp[Zi,run_underlying b,sizeOf,typeInfo,d,Builtin.lenOf,Yn]
 ·simp[Zi,run_underlying b,sizeOf,typeInfo,d,Builtin.lenOf,Yn,i,storeCells]
theorem aQ.news{w:World}{b off:Nat}(h:aQ w (some ⟨b,off,none⟩) n c ah):∀j u,(ah.map (n_ .i64))[j]? =some u->w.cell? (Addr.add ⟨b,off,none⟩ j)=some u:=by
 intro j u d;have hl:=h.len;have e:j<n:=by have:=(Zh.1 d).1;simpa[hl] using this
 obtain⟨g,i,he,k,f⟩:=h.cells (by omega);simp only[Option.some.injEq,Addr.mk.injEq] at he;obtain⟨rfl,rfl,_⟩:=he;rw[Addr.add_lit,f j e];rw[Zv,v_ (by rw[hl];exact e)] at d;rw[rI (by rw[hl];exact e)];exact d
def oa(w:World)(base:Nat)(e:TypeId)(v:Value)(k:Nat)(ys:List Value)(v':Value)(w':World):Prop:=
 w'.ownsRow base e 1 v' k ys/\w.grownBy w' v.ownBlock/\(v'.ownBlock=v.ownBlock\/v'.ownBlock=some w.heap.size)
theorem zG(w:World)(ty:TypeId)(base:Nat)(v:Value)(n:Nat)(xs:List Int)(f:w.ownsRow base 3 1 v n (xs.map (n_ .i64)))
  (A:Option Addr) (m c:Nat) (e:List Int) (d:aQ w A m c e) (o:(n+m)*8<=140737488355328) (p:base<=w.heap.size):
  ∃v' w',(Zi #[25,25] ty #[v,.slice A m c]).run z_ w=.ok v' w'/\oa w base 3 v (n+m) ((xs++e).map (n_ .i64)) v' w':=by
 obtain⟨i0,i,q,r,s⟩:=info_parts zF
 cases A with
 |none=>
  have hm:m=0:=by
   rcases Zc m with g|g
   ·exact g
   ·obtain⟨b,off,he,_⟩:=d.cells g;cases he
  subst hm;have t:e=[]:=Zp d.len;subst t;exact⟨v,w,CV Z0 w base ty i0 i v n 1 _ f c,by simpa using f,Ym w _,.inl rfl⟩
 |some k=>
  have y:∀j u,(e.map (n_ .i64))[j]? =some u->w.cell? (k.add j)=some u:=by
   intro j u l;have D:j<m:=by have:=(Zh.1 l).1;simpa[d.len] using this
   obtain⟨b,off,he,_⟩:=d.cells (by omega);injection he with he
   subst he;exact d.news j u l
  obtain⟨v',w',h1,z,B,_,C⟩:=run_append_own_at (P:=z_) w base 25 ty 3 i0 (.int .i64 0) 1 8 Z0 i q r s rfl (by decide) v n _ f k m c (e.map (n_ .i64)) (by simp[d.len]) y (by intro u hu;obtain⟨x,_,rfl⟩:=Zm.1 hu;rfl) (by unfold maxLen;omega) o p;exact⟨v',w',h1,by rw[ZY];exact z,B,C⟩
theorem EM{w:World}{o:Oper}{K:Act->World->Prop}{E:Prop}(d:o.guard=none)(s x:Operand)
  (e:o.op=.call {callee:=.builtin .append,args:= #[s,x],argTypes:= #[25,25]}) (base:Nat) (v:Value) (n:Nat) (xs:List Int) (hs:a.eval s=v) (f:w.ownsRow base 3 1 v n (xs.map (n_ .i64)))
  (A:Option Addr) (m c:Nat) (b:List Int) (g:a.eval x=.slice A m c) (i:aQ w A m c b) (j:(n+m)*8<=140737488355328) (k:base<=w.heap.size)
  (h:∀v' w',oa w base 3 v (n+m) ((xs++b).map (n_ .i64)) v' w'->K (a.put o.dst v') w'):
  if Yo o (yielded ops a.tmps)=true then Oper.wp z_ o a w K Q else E:=by
 have hw:Yo o (yielded ops a.tmps)=true:=by simp[Yo,d]
 rw[if_pos hw];obtain⟨v',w',h1,l⟩:=zG w o.type base v n xs f A m c b i j k;unfold Oper.wp;simp only[execOp,e,resolve,invoke,builtin,Yl,Yk,ZL,ZI,Zx,ZH,hs,g,h1];exact h v' w' l
theorem vq{w:World}{o:Oper}(d:o.guard=none)(s x:Operand)
  (e:o.op=.call {callee:=.builtin .append,args:= #[s,x],argTypes:= #[25,25]}) (base:Nat) (v:Value) (n:Nat) (xs:List Int) (hs:a.eval s=v) (f:w.ownsRow base 3 1 v n (xs.map (n_ .i64)))
  (A:Option Addr) (m c:Nat) (b:List Int) (g:a.eval x=.slice A m c) (i:aQ w A m c b) (j:(n+m)*8<=140737488355328) (k:base<=w.heap.size)
  (h:∀v' w',oa w base 3 v (n+m) ((xs++b).map (n_ .i64)) v' w'->wpList z_ ops Q rest (a.put o.dst v') w'):
  wpList z_ ops Q (o::rest) a w:=by
 obtain⟨v',w',h1,l⟩:=zG w o.type base v n xs f A m c b i j k;refine wpList_plain d λ K p=>?_
 unfold Oper.wp;simp only[execOp,e,resolve,invoke,builtin,Yl,Yk,ZL,ZI,Zx,ZH,hs,g,h1];exact p _ _ (h v' w' l)
structure nG(w:World)(A:Option Addr)(n c:Nat)(rs:List Row):Prop where
 len:rs.length=n
 cap:n<=c
 mW:n*24<=140737488355328
 o6:c<=maxLen
 cells:0<n->∃b off,A=some ⟨b,off,none⟩/\b<w.heap.size/\∀j u,(rs.map ki)[j]? =some u->w.cell? ⟨b,off+j,none⟩=some u
 rows:∀r∈rs,aQ w r.A r.n r.c r.ah
theorem nG.below{w w':World}{A:Option Addr}{n c:Nat}{rs:List Row}(h:nG w A n c rs)(d:Below w.heap.size w w'):nG w' A n c rs:=
 ⟨h.len,h.cap,h.mW,h.o6,λ f=>by
  obtain⟨b,off,rfl,e,g⟩:=h.cells f;exact⟨b,off,rfl,i_ e d.size,λ j u i=>(d.cell (p:=⟨b,off+j,none⟩) e).trans (g j u i)⟩,λ r k=>(h.rows r k).below d⟩
theorem nG.A2{w:World}{rs:List Row}(h:nG w A n c rs):lF w A n c (rs.map (·.ah)):=
 ⟨by rw[List.length_map];exact h.len,h.cap,h.mW,h.o6,λ e=>by
  obtain⟨b,off,rfl,f,g⟩:=h.cells e;refine⟨b,off,rfl,f,λ j i=>?_⟩;have d:j<rs.length:=by rw[h.len];exact i
  refine⟨rs[j].A,rs[j].n,rs[j].c,g j _ (by rw[Zv,v_ d];rfl),?_⟩;rw[xE (by simpa using d)];simpa using h.rows _ (g_ d)⟩
theorem EN{w:World}{b off:Nat}:∀(ls:List (List Int))(k:Nat),(∀j,j<ls.length->∃A' f c',w.cell? ⟨b,off+(k+j),none⟩=some (.slice A' f c')/\aQ w A' f c' (oq ls j))->
  ∃rs:List Row,rs.map (·.ah)=ls/\(∀j u,(rs.map ki)[j]? =some u->w.cell? ⟨b,off+(k+j),none⟩=some u)/\∀r∈rs,aQ w r.A r.n r.c r.ah
 |[],k,h=>⟨[],rfl,λ j u d=>by simp at d,λ r g=>by cases g⟩
 |l::ls,k,h=>by
  obtain⟨A',f,c',h1,i⟩:=h 0 (by simp);obtain⟨rs,m,o,p⟩:=EN (w:=w) (b:=b) (off:=off) ls (k+1) (λ j d=>by
   obtain⟨A',f,c',h1,i⟩:=h (j+1) (by simpa using d);refine⟨A',f,c',?_,i⟩;rw[show k+1+j=k+(j+1) by omega];exact h1)
  refine⟨⟨A',f,c',l⟩::rs,by rw[Zx,m],λ j u d=>?_,λ r g=>?_⟩
  ·cases j with
   |zero=>simp at d;subst d;exact h1
   |succ j=>rw[show k+(j+1)=k+1+j by omega];exact o j u (by simpa using d)
  ·rcases q_.1 g with e|e
   ·subst e;exact i
   ·exact p r e
theorem lF.yq{w:World}(h:lF w A n c ls):∃rs:List Row,rs.map (·.ah)=ls/\nG w A n c rs:=by
 rcases Zc n with d|d
 ·have:ls=[]:=Zp (by rw[h.len];exact d);subst this;exact⟨[],rfl,⟨by have:=h.len;simpa using this,h.cap,h.mW,h.o6,λ i=>absurd i (by omega),λ r k=>by cases k⟩⟩
 ·obtain⟨b,off,e,l,m⟩:=h.cells d;obtain⟨rs,g,o,p⟩:=EN (w:=w) (b:=b) (off:=off) ls 0 (λ j f=>by rw[ZG];exact m j (by rw[<-h.len];exact f));refine⟨rs,g,⟨?_,h.cap,h.mW,h.o6,λ _=>⟨b,off,e,l,λ j u f=>?_⟩,p⟩⟩
  ·rw[<-h.len,<-g,List.length_map]
  ·have:=o j u f;rwa[ZG] at this
theorem IJ(w:World)(ty:TypeId)(base:Nat)(v:Value)(n:Nat)(xs:List Row)(e:w.ownsRow base 25 1 v n (xs.map ki))
  (A:Option Addr) (m c:Nat) (rs:List Row) (d:nG w A m c rs) (l:(n+m)*24<=140737488355328) (o:base<=w.heap.size):
  ∃v' w',(Zi #[22,22] ty #[v,.slice A m c]).run z_ w=.ok v' w'/\oa w base 25 v (n+m) ((xs++rs).map ki) v' w':=by
 obtain⟨i0,g,p,q,r⟩:=info_parts A1
 cases A with
 |none=>
  have hm:m=0:=by
   rcases Zc m with f|f
   ·exact f
   ·obtain⟨b,off,he,_⟩:=d.cells f;cases he
  subst hm;have s:rs=[]:=Zp d.len;subst s;exact⟨v,w,CV Tryz.underlying22 w base ty i0 g v n 1 _ e c,by simpa using e,Ym w _,.inl rfl⟩
 |some i=>
  have t:∀j u,(rs.map ki)[j]? =some u->w.cell? (i.add j)=some u:=by
   intro j u k;have D:j<m:=by have:=(Zh.1 k).1;simpa[d.len] using this
   obtain⟨b,off,he,_,y⟩:=d.cells (by omega);injection he with he
   subst he;rw[Addr.add_lit];exact y j u k
  obtain⟨v',w',h1,z,B,_,C⟩:=run_append_own_at (P:=z_) w base 22 ty 25 i0 (.slice none 0 0) 1 24 Tryz.underlying22 g p q r rfl (by decide) v n _ e i m c (rs.map ki) (by simp[d.len]) t (by intro u hu;obtain⟨x,_,rfl⟩:=Zm.1 hu;rfl) (by unfold maxLen;omega) l o;exact⟨v',w',h1,by rw[ZY];exact z,B,C⟩
theorem CW{w:World}{o:Oper}(b:o.guard=none)(s x:Operand)
  (d:o.op=.call {callee:=.builtin .append,args:= #[s,x],argTypes:= #[22,22]}) (base:Nat) (v:Value) (n:Nat) (xs:List Row) (hs:a.eval s=v) (e:w.ownsRow base 25 1 v n (xs.map ki))
  (A:Option Addr) (m c:Nat) (rs:List Row) (f:a.eval x=.slice A m c) (g:nG w A m c rs) (i:(n+m)*24<=140737488355328) (j:base<=w.heap.size)
  (h:∀v' w',oa w base 25 v (n+m) ((xs++rs).map ki) v' w'->wpList z_ ops Q rest (a.put o.dst v') w'):
  wpList z_ ops Q (o::rest) a w:=by
 obtain⟨v',w',h1,k⟩:=IJ w o.type base v n xs e A m c rs g i j;refine wpList_plain b λ K l=>?_
 unfold Oper.wp;simp only[execOp,d,resolve,invoke,builtin,Yl,Yk,ZL,ZI,Zx,ZH,hs,f,h1];exact l _ _ (h v' w' k)
theorem EO{w:World}{v:Value}(h:w.ownsRow base e size v n xs):∃A c,v=.slice A n c:=by
 rcases h.2 with⟨rfl,rfl⟩|⟨g,cap,cur,rfl,_⟩
 ·exact⟨none,0,rfl⟩
 ·exact⟨some ⟨g,0,none⟩,cap,rfl⟩
def mD(b:List Int):Obj:=.cells ((b.map (n_ .i64)).toArray) 3
theorem aQ.lit(w:World)(b:List Int)(n s:Nat)(d:b.length=n)(hs:s=w.heap.size)(h:n<=1000):aQ (w.alloc (mD b)) (some ⟨s,0,none⟩) n n b:=by
 subst hs;refine⟨d,w_ _,by omega,by unfold maxLen;omega,λ e=>⟨w.heap.size,0,rfl,by simp,λ j f=>?_⟩⟩;have c:(w.alloc (mD b)).heap[w.heap.size]? =some (mD b):=Zk w _;generalize w.alloc (mD b)=W at c;have:((b.map (n_ .i64)).toArray)[j]? =some (.int .i64 (iJ b j)):=by
  rw[Yu,Zv,v_ (by omega:j<b.length),rI (by omega)];rfl
 unfold mD at c;simp[d_,c,this]
theorem IK{w:World}{cap:Nat}(h:w.ownsRow base e 1 (.slice (some ⟨g,0,none⟩) n cap) n xs)(u:Value):
  (w.setCell ⟨g,k,none⟩ u).ownsRow base e 1 (.slice (some ⟨g,0,none⟩) n cap) n (xs.set k u):=by
 obtain⟨h1,c⟩:=h;rcases c with⟨b,_⟩|⟨p,q,cur,b,d,f,i,j,l,m⟩
 ·cases b
 ·cases b
  refine⟨by rw[Zg];exact h1,.inr ⟨g,cap,cur.setIfInBounds k u,rfl,d,?_,i,j,by rw[Array.size_setIfInBounds];exact l,?_⟩⟩
  ·obtain⟨o,hk⟩:=b_.1 f;show(w.heap.modify g _)[g]? =_;rw[Array.getElem?_eq_getElem (by rw[Array.size_modify];exact o),Array.getElem_modify_self,hk];rfl
  ·rw[Array.toList_setIfInBounds,List.take_set,m]
theorem lF.lz{w:World}{rs:List Row}(h:w.ownsRow base 25 1 (.slice A n c) n (rs.map ki))(m:∀r∈rs,aQ w r.A r.n r.c r.ah)(i:n*24<=140737488355328):lF w A n c (rs.map (·.ah)):=by
 obtain⟨h1,o⟩:=h;have hl:rs.length=n:=by simpa using h1
 rcases o with⟨b,k⟩|⟨g,cap,cur,b,v,d,p,q,y,s⟩
 ·simp only[Zw] at b;obtain⟨rfl,_,rfl⟩:=b;subst k;exact⟨by simpa using hl,w_ _,i,k_ _,λ h=>absurd h (by omega)⟩
 ·simp only[Zw] at b;obtain⟨rfl,_,rfl⟩:=b;refine⟨by simpa using hl,p,i,q,λ k=>⟨g,0,rfl,?_,λ j z=>?_⟩⟩
  ·rcases l_ g w.heap.size with t|u
   ·exact t
   ·rw[Zq u] at d;cases d
  ·have f:j<rs.length:=by omega
   have e:cur[j]? =some (ki rs[j]):=by
    have l:(cur.toList.take (n*1))[j]? =(rs.map ki)[j]? :=by rw[s]
    rw[Zd (by omega),Zv,v_ f] at l;rw[<-Z_,l];rfl
   refine⟨rs[j].A,rs[j].n,rs[j].c,by simp[d_,d,e];rfl,?_⟩;have:=m _ (g_ f);rw[xE (by simpa using f)];simpa using this
theorem aQ.take{w:World}{A:Option Addr}{n c:Nat}{ah:List Int}(h:aQ w A n c ah){k:Nat}(hk:k<=n):aQ w A k c (ah.take k):=by
 have g:=h.mW;have i:=h.cap;refine⟨by simp[h.len];omega,by omega,by omega,h.o6,λ l=>?_⟩;obtain⟨b,off,rfl,d,e⟩:=h.cells (by omega);refine⟨b,off,rfl,d,λ j f=>?_⟩;rw[e j (by omega)];unfold iJ;simp[y_,ZQ,f]
theorem zH(r:Bool)(A:Option Addr)(n c:Nat)(b:List Int)(x:Int)(w:World)(h:aQ w A n c b)(d:hasB b x=r):
  Calls z_ 101 #[.slice A n c,.int .i64 x] w λ e w'=>e=.returned (.bool r)/\w=w':=by
 have:=Ii A n c b x w h;rw[d] at this;exact this
structure lB(w:World)(A:Option Addr)(n c:Nat)(gR:List Bool):Prop where
 len:gR.length=n
 cap:n<=c
 mW:n<=140737488355328
 o6:c<=maxLen
 cells:0<n->∃b off,A=some ⟨b,off,none⟩/\b<w.heap.size/\∀j,j<n->w.cell? ⟨b,off+j,none⟩=some (.bool (gR.getD j false))
theorem lB.below{w:World}(h:lB w A n c gR)(d:Below w.heap.size w w'):lB w' A n c gR:=
 ⟨h.len,h.cap,h.mW,h.o6,λ f=>by
  obtain⟨b,off,rfl,e,g⟩:=h.cells f;exact⟨b,off,rfl,i_ e d.size,λ j i=>(d.cell (p:=⟨b,off+j,none⟩) e).trans (g j i)⟩⟩
theorem lB.nil(w:World)(A:Option Addr)(c:Nat)(b:c<=maxLen):lB w A 0 c []:=⟨rfl,k_ _,by omega,b,λ h=>absurd h (by omega)⟩
def xG(b:List Bool)(v:Nat):Bool:=b.getD v false
def vr(b:List Bool)(x:Int):Bool:=if lG x 65536=true then xG b x.natAbs==decide (0<x) else false
def tJ(b:List Bool)(l:List Int):Bool:=l.any (vr b)
def wE(x:Int)(ls:List (List Int))(b:List Bool):Bool:=kZ x ls==0&&ls.all (tJ b)
theorem IL(h:lG x 65536=false):vr gR x=false:=by unfold vr;rw[if_neg (by simp[h])]
theorem EP(h:lG x 65536=true):vr gR x=(xG gR x.natAbs==decide (0<x)):=by unfold vr;rw[if_pos h]
theorem CX(r:Bool)(x n:Int)(w:World)(b:0<=n)(h1:n<=65536)(c:lG x n=r):
  Calls z_ 163 #[.int .i64 x,.int .i64 n] w λ e w'=>e=.returned (.bool r)/\w=w':=by
 have:=CP x n w b h1;rw[c] at this;exact this
theorem IM(x:Int):qS x=(x.natAbs:Int):=by unfold qS;split<;>omega
theorem IN{v:Nat}(hl:gR.length=n)(h:¬v<n):xG gR v=false:=by
 unfold xG;rw[y_,Yt (by omega)];rfl
theorem IP(x:Int)(A:Option Addr)(n c:Nat)(g:List Bool)(w:World)(h:lB w A n c g):
  Calls z_ 122 #[.int .i64 x,.slice A n c] w λ e w'=>e=.returned (.bool (vr g x))/\w=w':=by
 have hl:=h.len
 cases d:lG x 65536
 ·rw[IL d];have i:=U d;clear d h hl;go_enter Tryz.func122,Tryz.ntmps122
  go_wp2_with (go_at_call 163;refine(CX false x 65536 w (by omega) (by omega) i.o).mono ?_;rintro e w' ⟨rfl,rfl⟩)
  go_ret;exact⟨rfl,rfl⟩
 ·rw[EP d];have j:=uP.1 d;have f:=EC x w j.2.1 j.2.2;rw[IM] at f;have i:=U d;clear d j;generalize x.natAbs=k at f⊢;have j:=h.mW
  by_cases l:k<n
  ·obtain⟨b,off,rfl,q,m⟩:=h.cells (by omega);have p:=m k l;have e:g.getD k false=xG g k:=rfl;rw[e] at p;generalize xG g k=v at p⊢;clear m h hl e
   by_cases hp:0<x
   all_goals
    go_enter Tryz.func122,Tryz.ntmps122
    go_wp2_with (first|(go_at_call 163;refine(CX true x 65536 w (by omega) (by omega) i.o).mono ?_;rintro e w' ⟨rfl,rfl⟩)|(go_at_call 168;refine f.mono ?_;clear f;rintro e w' ⟨rfl,rfl⟩))
    go_ret;exact⟨mo (by simp[hp]),rfl⟩
  ·rw[IN hl l];clear h hl
   by_cases hp:0<x
   all_goals
    go_enter Tryz.func122,Tryz.ntmps122
    go_wp2_with (first|(go_at_call 163;refine(CX true x 65536 w (by omega) (by omega) i.o).mono ?_;rintro e w' ⟨rfl,rfl⟩)|(go_at_call 168;refine f.mono ?_;clear f;rintro e w' ⟨rfl,rfl⟩))
    go_ret;exact⟨mo (by simp[hp]),rfl⟩
theorem IQ:∀args w,(callFunc 121 args).run z_ w=.ok (.enter 121 args) w:=enters_of Tryz.func121 (by kernel_rfl) rfl
theorem IS:∀args w,(callFunc 118 args).run z_ w=.ok (.enter 118 args) w:=enters_of Tryz.func118 (by kernel_rfl) rfl
theorem IT(B:Nat)(x:Int)(A:Option Addr)(n c:Nat)(b:List Bool)(w:World)(d:w.cell? ⟨B,0,none⟩=some (.slice A n c))(h:lB w A n c b):
  Calls z_ 121 #[.int .i64 x,.pointer (some ⟨B,0,none⟩)] w λ e w'=>e=.returned (.bool (vr b x))/\w=w':=by
 have H:=U h;clear h;go_enter Tryz.func121,Tryz.ntmps121
 go_wp2_with (go_at_call 122;refine(IP x A n c b w H.o).mono ?_;rintro e w' ⟨rfl,rfl⟩)
 go_ret;exact⟨rfl,rfl⟩
theorem IU(A:Option Addr)(n c:Nat)(f:List Int)(A':Option Addr)(b c':Nat)(d:List Bool)(w:World)(h:aQ w A n c f)(h':lB w A' b c' d):
  Calls z_ 60 #[.slice A n c,.slice A' b c'] w λ e w'=>e=.returned (.bool (tJ d f))/\Below w.heap.size w w':=by
 have g:Below w.heap.size w (w.alloc (.cells #[.slice A' b c'] 28)):=(s_ _ _).alloc (w_ _) _;have i:=CT 121 #[.pointer (some ⟨w.heap.size,0,none⟩)] (vr d) IQ A n c f (w.alloc (.cells #[.slice A' b c'] 28)) (h.alloc _) (λ y _=>IT w.heap.size y A' b c' d _ (by simp) (h'.below g));have j:=U g;clear h h' g;go_enter Tryz.func60,Tryz.ntmps60
 go_wp2_with (go_at_call 120;refine i.mono ?_;clear i;rintro e w' ⟨rfl,rfl⟩)
 go_ret;exact⟨rfl,j.o⟩
theorem IV(r:Bool)(A:Option Addr)(n c:Nat)(b:List Int)(A':Option Addr)(d c':Nat)(f:List Bool)(w:World)(h:aQ w A n c b)(h':lB w A' d c' f)(g:tJ f b=r):
  Calls z_ 60 #[.slice A n c,.slice A' d c'] w λ e w'=>e=.returned (.bool r)/\Below w.heap.size w w':=by
 have:=IU A n c b A' d c' f w h h';rw[g] at this;exact this
theorem IW(B:Nat)(A:Option Addr)(n c:Nat)(b:List Int)(A':Option Addr)(f c':Nat)(d:List Bool)(w:World)(l:w.cell? ⟨B,0,none⟩=some (.slice A' f c'))(h:aQ w A n c b)(h':lB w A' f c' d):
  Calls z_ 118 #[.slice A n c,.pointer (some ⟨B,0,none⟩)] w λ e w'=>e=.returned (.bool (!(tJ d b)))/\Below w.heap.size w w':=by
 have H:=U h;have i:=U h';clear h h';generalize g:tJ d b=v;have j:=U g;clear g;go_enter Tryz.func118,Tryz.ntmps118
 go_wp2_with (go_at_call 60;refine(IV v A n c b A' f c' d w H.o i.o j.o).mono ?_;rintro e w' ⟨rfl,k⟩)
 go_ret;exact⟨rfl,k⟩
theorem ER{p:List Int->Bool}(h:k<ls.length)(e:p (oq ls k)=true):ls.any p=true:=by
 rw[Z9];exact⟨_,zC h,e⟩
theorem ES{p:List Int->Bool}(h:k<ls.length)(e:p (oq ls k)=false)(b:(ls.take k).any p=false):(ls.take (k+1)).any p=false:=by
 rw[AY ls k h,Yz,b];simp[e]
theorem ET{p:List Int->Bool}(hl:ls.length=n)(h:¬k<n)(b:(ls.take k).any p=false):ls.any p=false:=by
 rw[m_ (by omega)] at b;exact b
def yt(g:Nat)(lb:Array Value)(p:List Int->Bool)(w:World):Prop:=
 ∀(A:Option Addr)(n c:Nat)(b:List Int)(W:World),Below w.heap.size w W->aQ W A n c b->Calls z_ g (#[.slice A n c]++lb) W λ e w'=>e=.returned (.bool (p b))/\Below W.heap.size W w'
theorem yt.val{lb:Array Value}{p:List Int->Bool}{w:World}(h:yt g lb p w)(r:Bool)(A:Option Addr)(n c:Nat)(b:List Int)(W:World)(d:Below w.heap.size w W)(f:aQ W A n c b)(he:p b=r):
  Calls z_ g (#[.slice A n c]++lb) W λ e w'=>e=.returned (.bool r)/\Below W.heap.size W w':=by
 have:=h A n c b W d f;rw[he] at this;exact this
def EU(p:List Int->Bool)(ls:List (List Int))(w:World)(e:Ending)(w':World):Prop:=∃r:Int,e=.returned (.int .i64 r)/\(decide (0<=r)=ls.any p)/\Below w.heap.size w w'
theorem IX(g:Nat)(lb:Array Value)(p:List Int->Bool)(D:∀args w,(callFunc g args).run z_ w=.ok (.enter g args) w)(A:Option Addr)(n c:Nat)(ls:List (List Int))(w:World)(h:lF w A n c ls)
  (hp:yt g lb p w):Calls z_ 167 #[.slice A n c,.func (.func g) #[] lb] w (EU p ls w):=by
 have E:=h.small;have H:=U h;clear h;have u:=U hp;clear hp;go_enter Tryz.func167,Tryz.ntmps167
 go_wp2
 go_loopw [8] (λ i W=>∃k:Nat,k<=n/\i=.int .i64 k/\(ls.take k).any p=false/\Below w.heap.size w W) (λ i _=>n-(intOf i).toNat)
 case atStart=>exact⟨0,k_ _,rfl,rfl,s_ _ _⟩
 case round=>
  obtain⟨k,hk,rfl,v,y⟩:=hrel;have z:=U v;have d:=U y;clear v y
  by_cases q:k<n
  ·obtain⟨b,off,rfl,F,B⟩:=(H.o.below d.o).cells (by omega);obtain⟨a1,C,c1,G,m⟩:=B k q;clear B;have hl:k<ls.length:=by rw[H.o.len];exact q
   cases f:p (oq ls k)
   ·have j:=u.o.val false a1 C c1 (oq ls k) wr d.o m f;have r:=U f;have s:=U hl;clear f m hl
    go_wp2_with (go_at_fn g;refine j.mono ?_;clear j;rintro e w' ⟨rfl,l⟩;have t:=U l;clear l)
    go_roundw
    case rel=>exact⟨k+1,by omega,by go_num,ES s.o r.o z.o,d.o.trans (t.o.mono d.o.size)⟩
    case measure=>simp[intOf];omega
   ·have j:=u.o.val true a1 C c1 (oq ls k) wr d.o m f;have r:=U f;have s:=U hl;clear f m hl
    go_wp2_with (go_at_fn g;refine j.mono ?_;clear j;rintro e w' ⟨rfl,l⟩;have t:=U l;clear l)
    go_ret;exact⟨k,rfl,by rw[ER s.o r.o];simp,d.o.trans (t.o.mono d.o.size)⟩
  ·go_wp2;go_ret;exact⟨-1,rfl,by rw[ET H.o.len q z.o];rfl,d.o⟩
theorem IY(g:Nat)(lb:Array Value)(p:List Int->Bool)(b:∀args w,(callFunc g args).run z_ w=.ok (.enter g args) w)(A:Option Addr)(n c:Nat)(ls:List (List Int))(w:World)(h:lF w A n c ls)
  (hp:yt g lb p w):Calls z_ 119 #[.slice A n c,.func (.func g) #[] lb] w λ e w'=>e=.returned (.bool (ls.any p))/\Below w.heap.size w w':=by
 have d:=IX g lb p b A n c ls w h hp;clear h hp;go_enter Tryz.func119,Tryz.ntmps119
 go_wp2_with (go_at_call 167;refine d.mono ?_;rintro e w' ⟨r,rfl,f,i⟩)
 all_goals
  go_ret;exact⟨mo (by rw[<-f]),i⟩
theorem IZ(r:Bool)(g:Nat)(lb:Array Value)(p:List Int->Bool)(b:∀args w,(callFunc g args).run z_ w=.ok (.enter g args) w)(A:Option Addr)(n c:Nat)(ls:List (List Int))(w:World)(h:lF w A n c ls)
  (hp:yt g lb p w) (d:ls.any p=r):Calls z_ 119 #[.slice A n c,.func (.func g) #[] lb] w λ e w'=>e=.returned (.bool r)/\Below w.heap.size w w':=by
 have:=IY g lb p b A n c ls w h hp;rw[d] at this;exact this
theorem I1(b:List Bool)(ls:List (List Int)):ls.any (λ l=> !(tJ b l))= !(ls.all (tJ b)):=by rw[ZC]
theorem I2(x:Int)(A:Option Addr)(n c:Nat)(ls:List (List Int))(A':Option Addr)(b c':Nat)(d:List Bool)(w:World)(h:lF w A n c ls)(h':lB w A' b c' d):
  Calls z_ 58 #[.agg #[.int .i64 x,.slice A n c],.slice A' b c'] w λ e w'=>e=.returned (.bool (wE x ls d))/\Below w.heap.size w w':=by
 have m:Below w.heap.size w ((w.alloc (.cells #[.int .i64 x,.slice A n c] 24)).alloc (.cells #[.slice A' b c'] 28)):=((s_ _ _).alloc (w_ _) _).alloc (by simp) _;have g:=U ((ug.new w (.int .i64 x) (.slice A n c)).below ((s_ _ _).alloc (w_ _) (.cells #[.slice A' b c'] 28)));have u:((w.alloc (.cells #[.int .i64 x,.slice A n c] 24)).alloc (.cells #[.slice A' b c'] 28)).cell? ⟨w.heap.size+1,0,none⟩=some (.slice A' b c'):=by simp
 have t:=U (h.below m);have B:=U (h'.below m);have q:=U m;have C:=U u;clear h h' m u;have v:∀W,Below ((w.alloc (.cells #[.int .i64 x,.slice A n c] 24)).alloc (.cells #[.slice A' b c'] 28)).heap.size ((w.alloc (.cells #[.int .i64 x,.slice A n c] 24)).alloc (.cells #[.slice A' b c'] 28)) W->yt 118 #[.pointer (some ⟨w.heap.size+1,0,none⟩)] (λ l=> !(tJ d l)) W:=by
  intro W y D E c1 F G H r;have i:=y.trans (H.mono y.size);exact IW (w.heap.size+1) D E c1 F A' b c' d G ((i.cell (p:=⟨w.heap.size+1,0,none⟩) (by simp)).trans C.o) r (B.o.below i)
 have I:=U v;clear v
 cases hk:(kZ x ls==0)
 ·have j:wE x ls d=false:=by unfold wE;rw[hk];rfl
  rw[j];have f:=vN x A n c ls _ t.o;generalize kZ x ls=O at f hk;clear j;go_enter Tryz.func58,Tryz.ntmps58
  go_upto_region 2 with fail
  generalize (w.alloc (.cells #[.int .i64 x,.slice A n c] 24)).alloc (.cells #[.slice A' b c'] 28)=J at*;have K:=g.o.c0;have L:=g.o.c1
  go_wp2_with (go_at_call 107;refine f.mono ?_;clear f;rintro e w' ⟨rfl,k⟩)
  go_ret;exact⟨rfl,q.o.trans (k.mono q.o.size)⟩
 ·have j:wE x ls d=ls.all (tJ d):=by unfold wE;rw[hk];rfl
  rw[j];have f:=vN x A n c ls _ t.o;have z:kZ x ls=0:=by simpa using hk
  rw[z] at f;clear j hk z
  cases r:ls.all (tJ d)
  all_goals
   have M:=U ((I1 d ls).trans (congrArg (!·) r));clear r;go_enter Tryz.func58,Tryz.ntmps58
   go_upto_region 2 with fail
   generalize (w.alloc (.cells #[.int .i64 x,.slice A n c] 24)).alloc (.cells #[.slice A' b c'] 28)=J at*;have K:=g.o.c0;have L:=g.o.c1
   go_wp2_with (first
    |(go_at_call 107;refine f.mono ?_;clear f;rintro e w1 ⟨rfl,k⟩;have s:=U k;have t1:=(g.o.below k).c1;clear k)
    |(go_at_call 119;refine(IZ _ 118 _ _ IS A n c ls _ (t.o.below s.o) (I.o _ s.o) M.o).mono ?_;rintro e P ⟨rfl,i⟩;have N:=U i;clear i))
   go_ret;exact⟨rfl,q.o.trans ((s.o.trans (N.o.mono s.o.size)).mono q.o.size)⟩
theorem lB.lz{w:World}(h:w.ownsRow base 4 1 (.slice A n c) n (gR.map Value.bool))(f:n<=140737488355328):lB w A n c gR:=by
 obtain⟨h1,l⟩:=h;have hl:gR.length=n:=by simpa using h1
 rcases l with⟨b,i⟩|⟨g,cap,cur,b,s,d,m,o,t,p⟩
 ·simp only[Zw] at b;obtain⟨rfl,_,rfl⟩:=b;subst i;exact⟨hl,w_ _,f,k_ _,λ h=>absurd h (by omega)⟩
 ·simp only[Zw] at b;obtain⟨rfl,_,rfl⟩:=b;refine⟨hl,m,f,o,λ i=>⟨g,0,rfl,?_,λ j u=>?_⟩⟩
  ·rcases l_ g w.heap.size with q|r
   ·exact q
   ·rw[Zq r] at d;cases d
  ·have e:cur[j]? =some (.bool (gR.getD j false)):=by
    have k:(cur.toList.take (n*1))[j]? =(gR.map Value.bool)[j]? :=by rw[p]
    rw[Zd (by omega),Zv,v_ (by omega:j<gR.length)] at k;rw[<-Z_,k,y_,v_ (by omega:j<gR.length)];rfl
   simp[d_,d,e]
theorem I3:tJ gR l=true↔∃x∈l,vr gR x=true:=by unfold tJ;rw[Z9]
end
section
open Go.RowKit
def uh(n:Nat)(v:Int):Bool:=decide (0<v)&&decide (v<n)
theorem yu{v:Int}:uh n v=true↔0<v/\v<n:=by simp[uh]
theorem CY(B:Nat)(A:Option Addr)(n c:Nat)(v:Int)(w:World)(f:w.cell? ⟨B,0,none⟩=some (.slice A n c)):
  Calls z_ 206 #[.pointer (some ⟨B,0,none⟩),.int .i64 v] w λ e w'=>e=.returned (.bool (uh n v))/\w=w':=by
 by_cases b:0<v
 ·by_cases d:v<n
  all_goals
   go_enter Tryz.func206,Tryz.ntmps206
   go_wp2;go_ret;exact⟨mo (by simp[uh,b,d]),rfl⟩
 ·go_enter Tryz.func206,Tryz.ntmps206
  go_wp2;go_ret;exact⟨mo (by rw[uh,decide_eq_false (show¬0<v by omega)];rfl),rfl⟩
def kO(n:Int):Bool:=decide (n<0)||decide (1099511627776<n)
theorem A3(x:Int)(w:World):Calls z_ 205 #[.int .i64 x] w λ e w'=>e=.returned (.bool (kO x))/\w=w':=by
 by_cases h1:x<0
 ·go_enter Tryz.func205,Tryz.ntmps205
  go_wp2;go_ret;exact⟨mo (by simp[kO,h1]),rfl⟩
 ·by_cases b:1099511627776<x
  all_goals
   go_enter Tryz.func205,Tryz.ntmps205
   go_wp2;go_ret;exact⟨mo (by simp[kO,h1,b]),rfl⟩
def sI(act:List Int)(a b:Int):Int:=rJ (oz (iJ act b.toNat) (iJ act a.toNat)) (oz a b)
theorem I4(B b off n c:Nat)(act:List Int)(x y:Nat)(w:World)(d:B<w.heap.size)(f:b<w.heap.size)(g:w.cell? ⟨B,0,none⟩=some (.slice (some ⟨b,off,none⟩) n c))
  (i:x<n) (j:y<n) (k:n<=17592186044416) (l:w.cell? ⟨b,off+x,none⟩=some (.int .i64 (iJ act x))) (m:w.cell? ⟨b,off+y,none⟩=some (.int .i64 (iJ act y))):
  Calls z_ 207 #[.pointer (some ⟨B,0,none⟩),.int .i64 x,.int .i64 y] w λ e w'=>e=.returned (.int .i64 (sI act x y))/\Below w.heap.size w w':=by
 have o:(x:Int)<(n:Int):=by omega
 have p:(y:Int)<(n:Int):=by omega
 go_enter Tryz.func207,Tryz.ntmps207
 go_wp2;refine wp_region_still_tail 20 (by kernel_rfl) (by kernel_rfl) ?_;simp only[List.take_succ_cons,List.take_zero,List.drop_succ_cons,List.drop_zero]
 iterate 16 still_step
 still_call ((zD _ _ _).mono (λ e w' h=>⟨h.1,h.2.symm⟩))
 still_step
 still_step
 still_call ((zD _ _ _).mono (λ e w' h=>⟨h.1,h.2.symm⟩))
 refine wpStill_nil ?_;change wpList _ _ _ _ _ w.drew
 go_wp2_with fail
 refine(A0 w.heap.size (oz (iJ act y) (iJ act x)) (oz x y) _ (by go_simp) (by go_simp)).mono ?_;rintro e w' ⟨rfl,rfl⟩;go_wp2;go_ret;exact⟨nL (by simp[sI]),((s_ _ _).alloc (w_ _) _).drew⟩
def I5(b:List Int)(w:World)(e:Ending)(w':World):Prop:=∃r:Int,e=.returned (.int .i64 r)/\(decide (0<=r)=b.any kO)/\w=w'
theorem I6(h:k<ah.length)(e:kO (iJ ah k)=true):ah.any kO=true:=by
 rw[rI h] at e;rw[Z9];exact⟨_,g_ h,e⟩
theorem I7(h:k<ah.length)(e:kO (iJ ah k)=false)(b:(ah.take k).any kO=false):(ah.take (k+1)).any kO=false:=by
 rw[s9 ah k h,Yz,b];simp[e]
theorem I8(hl:ah.length=n)(h:¬k<n)(b:(ah.take k).any kO=false):ah.any kO=false:=by
 rw[m_ (by omega)] at b;exact b
theorem I9(A:Option Addr)(n c:Nat)(d:List Int)(w:World)(h:aQ w A n c d):
  Calls z_ 142 #[.slice A n c,.func (.func 205) #[] #[]] w (I5 d w):=by
 have q:=h.small;have H:=U h;clear h;go_enter Tryz.func142,Tryz.ntmps142
 go_wp2
 go_loop [8] (λ i=>∃k:Nat,k<=n/\i=.int .i64 k/\(d.take k).any kO=false) (λ i=>n-(intOf i).toNat)
 case atStart=>exact⟨0,k_ _,rfl,rfl⟩
 case round=>
  obtain⟨k,hk,rfl,j⟩:=hrel;have l:=U j;clear j
  by_cases f:k<n
  ·obtain⟨b,off,rfl,r,m⟩:=H.o.cells (by omega);have s:=m k f;clear m;generalize p:kO (iJ d k)=o;have g:=U p;clear p
   cases o
   ·go_wp2_with (go_at_call 205;refine(A3 _ _).mono ?_;rintro e w' ⟨rfl,rfl⟩;rw[g.o])
    go_round
    case rel=>exact⟨k+1,by omega,by go_num,I7 (by rw[H.o.len];exact f) g.o l.o⟩
    case measure=>simp[intOf];omega
   ·go_wp2_with (go_at_call 205;refine(A3 _ _).mono ?_;rintro e w' ⟨rfl,rfl⟩;rw[g.o])
    go_ret;exact⟨k,rfl,by rw[I6 (by rw[H.o.len];exact f) g.o];simp,rfl⟩
  ·go_wp2;go_ret;exact⟨-1,rfl,by rw[I8 H.o.len f l.o];rfl,rfl⟩
theorem A4(A:Option Addr)(n c:Nat)(b:List Int)(w:World)(h:aQ w A n c b):
  Calls z_ 120 #[.slice A n c,.func (.func 205) #[] #[]] w λ e w'=>e=.returned (.bool (b.any kO))/\w=w':=by
 have H:=U h;clear h;go_enter Tryz.func120,Tryz.ntmps120
 go_wp2_with fail
 refine(I9 A n c b _ H.o).mono ?_;rintro e w' ⟨r,rfl,d,rfl⟩;have f:=U d;clear d;go_wp2;go_ret;exact⟨mo f.o,rfl⟩
def qT(act l:List Int)(i:Nat):Bool:=uh act.length (iJ l i)&&(decide (i=0)||decide (sI act (iJ l (i-1)) (iJ l i)<0))
def tf(act l:List Int):Bool:=(Yp l.length).all (qT act l)
def uQ(act:List Int):Bool:=decide (0<act.length)&&decide (act.length<=65537)&&decide (iJ act 0=0)&& !(act.any kO)
def vt(y:Int):Bool:=decide (y≠0)&& !(kO y)
def p6(act l:List Int)(y:Int):Bool:=uQ act&&vt y&&tf act l
def qU(b:Bool):Int:=if b then 0 else 1
theorem yw{b:Bool}(h:x=qU b):ZA (.int .i64 x)=.returned (.int .i64 (qU b)):=by rw[h]
theorem Ja(B:Nat)(A:Option Addr)(n c:Nat)(act:List Int)(a b:Int)(w:World)(f:B<w.heap.size)(i:w.cell? ⟨B,0,none⟩=some (.slice A n c))(h:aQ w A n c act)
  (j:0<=a/\a<n) (k:0<=b/\b<n):
  Calls z_ 207 #[.pointer (some ⟨B,0,none⟩),.int .i64 a,.int .i64 b] w λ e w'=>e=.returned (.int .i64 (sI act a b))/\Below w.heap.size w w':=by
 obtain⟨x,rfl⟩:=ZB j.1;obtain⟨y,rfl⟩:=ZB k.1;obtain⟨g,off,rfl,l,d⟩:=h.cells (by omega);exact I4 B g off n c act x y w f l i (by omega) (by omega) h.small (d x (by omega)) (d y (by omega))
theorem A5(h:∀i,i<k->qT act l i=true)(e:qT act l k=true):∀i,i<k+1->qT act l i=true:=by
 intro i c
 by_cases b:i=k
 ·subst b;exact e
 ·exact h i (by omega)
theorem EV(hl:l.length=n)(hk:¬k<n)(h:∀i,i<k->qT act l i=true):tf act l=true:=by
 unfold tf;rw[List.all_eq_true];intro i b;rw[ZT] at b;exact h i (by omega)
theorem A6(hk:k<l.length)(h:qT act l k=false):tf act l=false:=by
 unfold tf;rw[ZM];exact⟨k,ZT.2 hk,by simp[h]⟩
section
variable (B:Nat)(A:Option Addr)(n c:Nat)(act:List Int)(A':Option Addr)(gB c':Nat)(l:List Int)(y:Int)(w:World)
theorem Jb(s:B<w.heap.size)(P:w.cell? ⟨B,0,none⟩=some (.slice A n c))(Q:w.cell? ⟨B,1,none⟩=some (.slice A' gB c'))(aj:w.cell? ⟨B,2,none⟩=some (.int .i64 y))
  (h:aQ w A n c act) (h':aQ w A' gB c' l) (D:uQ act=true) (E:vt y=true):
  Calls z_ 164 #[.pointer (some ⟨B,0,none⟩)] w λ e w'=>e=.returned (.int .i64 (qU (tf act l)))/\Below w.heap.size w w':=by
 have ak:=h.small;have al:=h'.small;have hlen:=h.len;simp only[uQ,vt,f_,decide_eq_true_eq,Bool.not_eq_true',ne_eq,hlen] at D E;obtain⟨⟨⟨a1,a2⟩,a3⟩,a4⟩:=D;obtain⟨F,G⟩:=E;have an:((n:Int)==0)=false:=by simp;omega
 have z2:¬(65537:Int)<n:=by omega
 have z3:(iJ act 0 !=0)=false:=by simp[a3]
 have z4:(y==0)=false:=by simpa using F
 obtain⟨b,off,rfl,ao,I⟩:=h.cells (by omega);have R:=I 0 (by omega);simp only[ZX] at R;have H:=U h;have j:=U h';have g:=U hlen;have S:=U a4;have T:=U G;clear h h' hlen a4 G a3 F I;go_enter Tryz.func164,Tryz.ntmps164
 go_wp2_with fail
 refine(A4 _ n c act _ H.o).mono ?_;rintro e w' ⟨rfl,rfl⟩;rw[S.o]
 go_wp2_with fail
 refine(A3 _ _).mono ?_;rintro e w' ⟨rfl,rfl⟩;rw[T.o]
 go_wp2_with fail
 go_loopw [64] (λ i wr=>∃k:Nat,k<=gB/\i=.int .i64 k/\(∀i,i<k->qT act l i=true)/\Below w.heap.size w wr) (λ i _=>gB-(intOf i).toNat)
 case atStart=>exact⟨0,k_ _,rfl,λ i V=>absurd V (Nat.not_lt_zero _),s_ _ _⟩
 case round=>
  obtain⟨k,hk,rfl,J,d⟩:=hrel;have m:=U J;clear J;have H1:=U (H.o.below d);obtain⟨t,W⟩:=Ih d;have X:B<wr.heap.size:=i_ s d.size;have q:=(t B 0 s).trans P;have aq:=(t B 1 s).trans Q;clear t W
  by_cases r:k<gB
  ·obtain⟨u,v,rfl,K,z⟩:=j.o.cells (by omega);have Y:=(d.cell (p:=⟨u,v+k,none⟩) K).trans (z k r);have C:0<k->wr.cell? ⟨u,v+(k-1),none⟩=some (.int .i64 (iJ l (k-1))):=λ ar=>(d.cell (p:=⟨u,v+(k-1),none⟩) K).trans (z (k-1) (by omega))
   clear z;generalize L:uh n (iJ l k)=Z;have f:=U L;clear L
   cases Z
   ·go_wp2_with (go_at_call 206;refine(CY B _ n c _ _ q).mono ?_;rintro e w' ⟨rfl,rfl⟩;rw[f.o])
    go_ret;exact⟨yw (by rw[A6 (k:=k) (by rw[j.o.len];exact r) (by simp[qT,g.o,f.o])];rfl),d⟩
   ·by_cases aa:k=0
    ·subst aa;simp only[ZX] at Y;clear C
     go_wp2_with (go_at_call 206;refine(CY B _ n c _ _ q).mono ?_;rintro e w' ⟨rfl,rfl⟩;rw[f.o])
     go_roundw
     case rel=>exact⟨1,by omega,by go_num,A5 m.o (by simp[qT,g.o,f.o]),d⟩
     case measure=>simp[intOf];omega
    ·have ab:0<k:=by omega
     have au:(0:Int)<k:=by omega
     have av:=C ab;clear C;have hp:=m.o (k-1) (by omega);simp only[qT,f_,g.o,yu] at hp;have ad:=hp.1;clear hp;have ae:=yu.1 f.o
     go_wp2_with fail
     refine(CY B _ n c _ _ q).mono ?_;rintro e w' ⟨rfl,rfl⟩;rw[f.o]
     go_wp2_with fail
     refine(Ja B _ n c act _ _ _ X q H1.o ⟨by omega,ad.2⟩ ⟨by omega,ae.2⟩).mono ?_;rintro e af ⟨rfl,ag⟩;generalize M:sI act (iJ l (k-1)) (iJ l k)=ah;have N:=U M;clear M;have O:Below w.heap.size w af:=d.trans (ag.mono d.size)
     by_cases ai:ah<0
     ·go_wp2_with fail
      go_roundw
      case rel=>exact⟨k+1,by omega,by go_num,A5 m.o (by simp only[qT,g.o,f.o,N.o];simp[ai]),O⟩
      case measure=>simp[intOf];omega
     ·go_wp2_with fail
      go_ret;exact⟨yw (by rw[A6 (k:=k) (by rw[j.o.len];exact r) (by simp only[qT,g.o,f.o,N.o];simp;omega)];rfl),O⟩
  ·go_wp2_with fail
   go_ret;exact⟨yw (by rw[EV j.o.len r m.o];rfl),d⟩
theorem Jc(m:B<w.heap.size)(p:w.cell? ⟨B,0,none⟩=some (.slice A n c))
  (h:aQ w A n c act) (d:uQ act=false):
  Calls z_ 164 #[.pointer (some ⟨B,0,none⟩)] w λ e w'=>e=.returned (.int .i64 1)/\Below w.heap.size w w':=by
 have q:=h.small;have hlen:=h.len
 by_cases a1:n=0
 ·have g:((n:Int)==0)=true:=by simp[a1]
  clear d h a1 hlen;go_enter Tryz.func164,Tryz.ntmps164
  go_wp2_with fail
  go_ret;exact⟨rfl,s_ _ _⟩
 have g:((n:Int)==0)=false:=by simp;omega
 by_cases a2:65537<n
 ·have z2:(65537:Int)<n:=by omega
  clear d h hlen;go_enter Tryz.func164,Tryz.ntmps164
  go_wp2_with fail
  go_ret;exact⟨rfl,s_ _ _⟩
 have z2:¬(65537:Int)<n:=by omega
 have hp:0<n:=by omega
 obtain⟨b,off,rfl,r,f⟩:=h.cells hp;have i:=f 0 hp;simp only[ZX] at i;clear f
 by_cases a3:iJ act 0=0
 ·have z3:(iJ act 0 !=0)=false:=by simp[a3]
  have a4:act.any kO=true:=by
   simp only[uQ,hlen,a3] at d;have j:decide (0<n)=true:=by simpa using hp
   have k:decide (n<=65537)=true:=by simp;omega
   rw[j,k] at d;simpa using d
  have H:=U h;have l:=U a4;clear d h hlen a3 a4;go_enter Tryz.func164,Tryz.ntmps164
  go_wp2_with fail
  refine(A4 _ n c act _ H.o).mono ?_;rintro e w' ⟨rfl,rfl⟩;rw[l.o]
  go_wp2_with fail
  go_ret;exact⟨rfl,s_ _ _⟩
 ·have z3:(iJ act 0 !=0)=true:=by simpa using a3
  clear d h hlen a3;go_enter Tryz.func164,Tryz.ntmps164
  go_wp2_with fail
  go_ret;exact⟨rfl,s_ _ _⟩
theorem Jd(q:B<w.heap.size)(r:w.cell? ⟨B,0,none⟩=some (.slice A n c))(s:w.cell? ⟨B,2,none⟩=some (.int .i64 y))
  (h:aQ w A n c act) (f:uQ act=true) (g:vt y=false):
  Calls z_ 164 #[.pointer (some ⟨B,0,none⟩)] w λ e w'=>e=.returned (.int .i64 1)/\Below w.heap.size w w':=by
 have t:=h.small;have hlen:=h.len;simp only[uQ,f_,decide_eq_true_eq,Bool.not_eq_true',hlen] at f;obtain⟨⟨⟨a1,a2⟩,a3⟩,a4⟩:=f;have u:((n:Int)==0)=false:=by simp;omega
 have z2:¬(65537:Int)<n:=by omega
 have z3:(iJ act 0 !=0)=false:=by simp[a3]
 obtain⟨b,off,rfl,v,i⟩:=h.cells (by omega);have l:=i 0 (by omega);simp only[ZX] at l;have H:=U h;have j:=U a4;have m:=U g;clear h hlen a4 a3 i g
 by_cases d:y=0
 ·have z4:(y==0)=true:=by simpa using d
  clear d;go_enter Tryz.func164,Tryz.ntmps164
  go_wp2_with fail
  refine(A4 _ n c act _ H.o).mono ?_;rintro e w' ⟨rfl,rfl⟩;rw[j.o]
  go_wp2_with fail
  go_ret;exact⟨rfl,s_ _ _⟩
 ·have z4:(y==0)=false:=by simpa using d
  have k:kO y=true:=by have:=m.o;simp only[vt] at this;simpa[d] using this
  have p:=U k;clear d k;go_enter Tryz.func164,Tryz.ntmps164
  go_wp2_with fail
  refine(A4 _ n c act _ H.o).mono ?_;rintro e w' ⟨rfl,rfl⟩;rw[j.o]
  go_wp2_with fail
  refine(A3 _ _).mono ?_;rintro e w' ⟨rfl,rfl⟩;rw[p.o]
  go_wp2_with fail
  go_ret;exact⟨rfl,s_ _ _⟩
theorem Je(f:B<w.heap.size)(g:w.cell? ⟨B,0,none⟩=some (.slice A n c))(j:w.cell? ⟨B,1,none⟩=some (.slice A' gB c'))(i:w.cell? ⟨B,2,none⟩=some (.int .i64 y))
  (h:aQ w A n c act) (h':aQ w A' gB c' l):
  Calls z_ 164 #[.pointer (some ⟨B,0,none⟩)] w λ e w'=>e=.returned (.int .i64 (qU (p6 act l y)))/\Below w.heap.size w w':=by
 cases b:uQ act
 ·have e:p6 act l y=false:=by simp[p6,b]
  rw[e];exact Jc B A n c act w f g h b
 ·cases d:vt y
  ·have e:p6 act l y=false:=by simp[p6,d]
   rw[e];exact Jd B A n c act y w f g i h b d
  ·have e:p6 act l y=tf act l:=by simp[p6,b,d]
   rw[e];exact Jb B A n c act A' gB c' l y w f g j i h h' b d
theorem CZ(h:aQ w A n c act)(h':aQ w A' gB c' l):
  Calls z_ 111 #[.agg #[.slice A n c,.slice A' gB c',.int .i64 y]] w λ e w'=>e=.returned (.int .i64 (qU (p6 act l y)))/\Below w.heap.size w w':=by
 have H:=U h;have b:=U h';clear h h';go_enter Tryz.func111,Tryz.ntmps111
 go_wp2_with fail
 refine(Je (w.heap.size+1) A n c act A' gB c' l y _ (by simp) (by go_simp) (by go_simp) (by go_simp) ((H.o.alloc _).alloc _) ((b.o.alloc _).alloc _)).mono ?_;rintro e f ⟨rfl,d⟩
 go_wp2_with fail
 go_ret;exact⟨rfl,(((s_ _ _).alloc (w_ _) _).alloc (by simp) _).trans (d.mono (by simp;omega))⟩
end
end
section
open Go.RowKit
def r9(k:Nat):List Int:=(Yp k).map (λ i:Nat=>(i:Int)+1)
theorem wF(k:Nat):(r9 k).length=k:=by simp[r9]
theorem Jg(k:Nat):r9 (k+1)=r9 k++[(k:Int)+1]:=by simp[r9,List.range_succ]
def rL(k:Nat):List Int:=ZS k 0
theorem vu(k:Nat):(rL k).length=k:=by simp[rL]
theorem Jh(k:Nat):(madeCells (n_ .i64 0).cells k).toList=(rL k).map (n_ .i64):=by
 show(madeCells #[n_ .i64 0] k).toList=_;rw[toList_madeCells_one];simp[rL]
def EW(act l:List Int)(y:Int)(w:World)(e:Ending)(w':World):Prop:=
 ∃(A:Option Addr)(c:Nat)(A':Option Addr)(c':Nat),e=.returned (.tuple #[.agg #[.slice A act.length c,.slice A' l.length c',.int .i64 y],.int .i64 0])/\
  aQ w' A act.length c act/\aQ w' A' l.length c' l/\(∀b off,A=some ⟨b,off,none⟩->w.heap.size<=b)/\(∀b off,A'=some ⟨b,off,none⟩->w.heap.size<=b)/\Below w.heap.size w w'
theorem aQ.nN{w:World}(h:aQ w A n c ah)(v:Value){p:Addr}(d:∀b off,A=some ⟨b,off,none⟩->b≠p.block):aQ (w.setCell p v) A n c ah:=by
 refine⟨h.len,h.cap,h.mW,h.o6,λ f=>?_⟩;obtain⟨b,off,e,g,i⟩:=h.cells f;exact⟨b,off,e,by simpa[ZO] using g,λ j k=>(ZW (Zr _ _ _ _ (d b off e))).trans (i j k)⟩
theorem Ji{w w1:World}{o:Obj}(b:(w.alloc o).grownBy w1 row)(c:∀g,row=some g->base<=g)(d:i<base)(hs:i<w.heap.size):w1.heap[i]? =w.heap[i]? :=
 (b.block i (by simp;omega) (λ e=>by have:=c i e.symm;omega)).trans (Zj _ _ _ hs)
theorem Jj{w:World}{gI iL jk v1:Value}(h:w.heap[B]? =some (.cells #[gI,iL,jk] t (0,0))):
  (w.setCell ⟨B,1,none⟩ v1).heap[B]? =some (.cells #[gI,v1,jk] t (0,0)):=by
 simp[ZO,Array.getElem?_modify,h]
theorem Jk(n:Nat)(w:World)(h:n<=65536):
  Calls z_ 104 #[.int .i64 n] w (EW (rL (n+1)) (r9 n) 1 w):=by
 obtain⟨i0,d,B,C,D⟩:=info_parts zF;have Q:∀W:World,(Instr.makeSlice 25 (.int .i64 ((n:Int)+1)) (.int .i64 ((n:Int)+1))).run z_ W=.ok (.slice (some ⟨W.heap.size,0,none⟩) (n+1) (n+1)) (W.alloc (.cells (madeCells (n_ .i64 0).cells (n+1)) 3)):=λ W=>by
  have:=run_make (P:=z_) W 25 3 i0 (.int .i64 0) Z0 d B .i64 .i64 ((n:Int)+1) ((n:Int)+1) (by omega) (by omega) (by rw[D];omega) (by omega);rw[C,show((n:Int)+1).toNat=n+1 by omega,Nat.mul_one] at this;exact this
 generalize E:madeCells (n_ .i64 0).cells (n+1)=cs at Q;have F:=U E;clear E;go_enter Tryz.func104,Tryz.ntmps104
 go_wp2_with fail
 go_loopw [18] (λ i wr=>∃(k:Nat)(A:Option Addr)(c:Nat),k<=n/\i=.int .i64 k/\wr.heap[w.heap.size+1+1]? =some (.cells #[.slice (some ⟨w.heap.size+1,0,none⟩) (n+1) (n+1),.slice A k c,.int .i64 1] 44 (0,0))/\
   wr.heap[w.heap.size+1]? =some (.cells cs 3 (0,0))/\wr.heap[w.heap.size]? =some (.cells #[.slice none 0 0,.slice none 0 0,.int .i64 0] 44 (0,0))/\
   wr.ownsRow (w.heap.size+3) 3 1 (.slice A k c) k ((r9 k).map (n_ .i64))/\Below w.heap.size w wr/\w.heap.size+1+1<wr.heap.size) (λ i _=>n-(intOf i).toNat)
 case atStart=>
  refine⟨0,none,0,k_ _,rfl,?_,?_,?_,World.ownsRow_nil _ _ _ _,?_,by simp⟩
  ·have e:=ZR ((w.alloc (.cells #[.slice none 0 0,.slice none 0 0,.int .i64 0] 44)).alloc (.cells cs 3)) (.cells #[.slice (some ⟨w.heap.size+1,0,none⟩) (n+1) (n+1),.slice none 0 0,.int .i64 1] 44);simpa using e
  ·have e:=ZR (w.alloc (.cells #[.slice none 0 0,.slice none 0 0,.int .i64 0] 44)) (.cells cs 3);exact(Zj _ _ _ (by simp)).trans (by simpa using e)
  ·exact(Zj _ _ _ (by simp;omega)).trans ((Zj _ _ _ (by simp)).trans (ZR _ _))
  ·exact(((s_ _ _).alloc (w_ _) _).alloc (by simp) _).alloc (by simp;omega) _
 case round=>
  obtain⟨k,A,c,hk,rfl,hH,G,f,j,s,t⟩:=hrel;have R:=U hH;have H:=U G;have q:=U f;have ag:wr.cell? ⟨w.heap.size+1+1,0,none⟩=some (.slice (some ⟨w.heap.size+1,0,none⟩) (n+1) (n+1)):=by simp[d_,hH]
  have I:wr.cell? ⟨w.heap.size+1+1,1,none⟩=some (.slice A k c):=by simp[d_,hH]
  have ah:wr.cell? ⟨w.heap.size+1+1,2,none⟩=some (.int .i64 1):=by simp[d_,hH]
  have J:wr.frozen? ⟨w.heap.size+1+1,1,none⟩=false:=by simp[Z5,hH]
  have l:∀i,i<3->∃u,wr.cell? ⟨w.heap.size,i,none⟩=some u:=λ i d=>by
   match i,d with
   |0,_=>exact⟨_,by simp[d_,f];rfl⟩
   |1,_=>exact⟨_,by simp[d_,f];rfl⟩
   |2,_=>exact⟨_,by simp[d_,f];rfl⟩
  clear hH G f
  by_cases ai:k<n
  ·clear l
   go_wp2_with (at_builtin;refine wpList_append_own_at _ rfl _ _ 25 rfl (w.heap.size+3) 3 i0 (.int .i64 0) 1 8 Z0 d B C D rfl (by decide) _ _ _ rfl (j.alloc _) ⟨wr.heap.size,0,none⟩ 1 1 [.int .i64 ((k:Int)+1)] rfl rfl (cell_one_new _ _ _) (by simp[Value.oneCell']) (by unfold maxLen;omega) (by omega) (by simp;omega) ?_;intro v' w1 K y aj ak;obtain⟨S,T,rfl⟩:=yp K;have L:∀g,(Value.slice A k c).ownBlock=some g->w.heap.size+3<=g:=(λ g z=>(td j z).1);have m:=(λ i (d:i<w.heap.size+3) (hs:i<wr.heap.size)=>Ji y L d hs);have al:w1.cell? ⟨w.heap.size+1+1,1,none⟩=some (.slice A k c):=(ZW (m (w.heap.size+1+1) (by omega) t)).trans I;have an:w1.frozen? ⟨w.heap.size+1+1,1,none⟩=false:=(World.frozen?_of_block (m (w.heap.size+1+1) (by omega) t)).trans J;clear I J)
   have V:=Jj (v1:=.slice (some ⟨S,0,none⟩) (k+1) T) ((m (w.heap.size+1+1) (by omega) t).trans R.o);have ao:wr.heap.size<=w1.heap.size:=by have:=y.size;simp at this;omega
   go_roundw
   case rel=>
    refine⟨k+1,_,_,by omega,by go_num,V,?_,?_,?_,?_,?_⟩
    ·exact(Zr _ _ _ _ (by simp)).trans ((m (w.heap.size+1) (by omega) (by omega)).trans H.o)
    ·exact(Zr _ _ _ _ (by simp;omega)).trans ((m w.heap.size (by omega) (by omega)).trans q.o)
    ·rw[Jg,ZY];exact ownsRow_setCell_below K (by simp) _
    ·exact((s.alloc s.size _).grown y (by simp;omega) (λ g z=>by have:=L g z;omega)).setCell (by simp;omega) _
    ·simp[ZO];omega
   case measure=>simp[intOf];omega
  ·have X:k=n:=by omega
   subst X;obtain⟨aq,Y⟩:=l 0 (by omega);obtain⟨ar,Z⟩:=l 1 (by omega);obtain⟨au,aa⟩:=l 2 (by omega);have av:wr.frozen? ⟨w.heap.size,0,none⟩=false:=by simp[Z5,q.o]
   have aw:wr.frozen? ⟨w.heap.size,1,none⟩=false:=by simp[Z5,q.o]
   have ax:wr.frozen? ⟨w.heap.size,2,none⟩=false:=by simp[Z5,q.o]
   clear l;have M:aQ wr (some ⟨w.heap.size+1,0,none⟩) (k+1) (k+1) (rL (k+1)):=by
    have ab:(rL (k+1)).map (n_ .i64)=cs.toList:=by rw[<-F.o,Jh]
    have ad:cs.size=k+1:=by rw[<-F.o,size_madeCells]
    exact aQ.lz (base:=0) ⟨by simp[vu],x_ ⟨_,_,cs,rfl,k_ _,H.o,w_ _,by unfold maxLen;omega,by omega,by rw[ab,m_ (by simp[ad])]⟩⟩ (by omega)
   have N:aQ wr A k c (r9 k):=aQ.lz j (by omega);have O:∀b off,A=some ⟨b,off,none⟩->w.heap.size+3<=b:=λ b off e=>(td j (g:=b) (by rw[e];rfl)).1
   have ae:=U M;have af:=U N;have r:=U O;clear M N O j
   go_wp2_with fail
   refine bodyPost_ret (v:=.tuple #[.agg #[.slice (some ⟨w.heap.size+1,0,none⟩) (k+1) (k+1),.slice A k c,.int .i64 1],.int .i64 0]) (by simp[results,Tryz.results104,go_sem,Y,Z,aa]) rfl ?_;refine⟨_,_,_,_,by rw[vu,wF],?_,?_,λ b off e=>by cases e;omega,λ b off e=>by have:=r.o b off e;omega,((s.setCell (by simp) _).setCell (by simp) _).setCell (by simp) _⟩
   ·rw[vu];exact((ae.o.nN _ (p:=⟨w.heap.size,0,none⟩) λ b off e=>by cases e;simp).nN _ (p:=⟨w.heap.size,1,none⟩) λ b off e=>by cases e;simp).nN _ (p:=⟨w.heap.size,2,none⟩) λ b off e=>by cases e;simp
   ·rw[wF];exact((af.o.nN _ (p:=⟨w.heap.size,0,none⟩) λ b off e=>by have:=r.o b off e;simp;omega).nN _ (p:=⟨w.heap.size,1,none⟩) λ b off e=>by have:=r.o b off e;simp;omega).nN _ (p:=⟨w.heap.size,2,none⟩) λ b off e=>by have:=r.o b off e;simp;omega
end
section
open Go.RowKit
variable {F:Fence}{n:Nat}{P:Program}
def C0{α:Type}(F:Fence)(n:Nat)(P:Program)(g:Nat)(lb:Array Value)(f:α->Array Value)(i:World->World->Prop)(j:List α->α->Prop)(S k:List α->Prop)(w:World):Prop:=
 ∀(l:Nat)(b d:List α->World->Prop)(W:World),Below w.heap.size w W->
  (∀pre x c,b pre c->j pre x->YieldAt F (n-1) P l (f x) c λ e W'=>
   (e=.returned (.bool true)/\b (pre++[x]) W'/\i c W')\/(e=.returned (.bool false)/\d (pre++[x]) W'))->
  b [] W->
  CallsIn F n P g (#[.func (.yield l) #[] #[]]++lb) W λ e W'=>(∃v,e=.returned v)/\((∃xs,S xs/\b xs W')\/(∃pre,k pre/\d pre W'))
def Jl(fn:FuncId)(tmps:Array Value)(b:Array Tmp)(assign body:Code)(D:Nat)(st:LoopState)(c:Option Code):Loop:=
 {state:=st,pending:=c,fn,tmps,params:=b,assign,body,defers:=D}
structure vw(W:World)(D:Nat)(r:Loop):Prop where
 log:W.heap[D+1]? =some (.loop r)
 A8:W.heap[D]? =some (.deferred (some []))
theorem vw.put{W:World}{D:Nat}{r:Loop}(h:vw W D r)(r':Loop):vw (W.putObj (D+1) (.loop r')) D r':=
 ⟨World.putObj_heap_same (b_.1 h.log).1,(h_ (by omega)).trans h.A8⟩
theorem vw.from{W W':World}{D:Nat}{r:Loop}(h:vw W D r)(hk:KeepsFrom D W W'):vw W' D r:=
 ⟨hk.same _ _ (by omega) h.log rfl,hk.same _ _ (w_ _) h.A8 rfl⟩
theorem A9{α:Type}{g:Operand}{mC:Array Tmp}{assign body:Code}{Q:Exit->Act->World->Prop}{a:Act}{w:World}
  (ae:F.round=none) (h1:1<=n) {gf:Nat} {lb:Array Value} (af:a.eval g=.func (.func gf) #[] lb) (ag:F.fn gf) (ah:∀args w,(callFunc gf args).run P w=.ok (.enter gf args) w)
  {yx:α->Array Value} {vv:World->World->Prop} {zI:List α->α->Prop} {S A7:List α->Prop} {w0:World} (ai:C0 F (n-1) P gf lb yx vv zI S A7 w0)
  (L:∀{A B C:World},vv A B->vv B C->vv A C) (U:∀(W:World)(l:Nat)(o aj:Obj),w.heap.size<=l->W.heap[l]? =some o->o.isCells=false->o.isWalk=false->vv W (W.putObj l aj)) (V:Below w0.heap.size w0 w) (ak:∀x,(yx x).size=mC.size)
  (f:List α->World->Prop) (E:Code->List α->World->Prop) (G:OwnFrom w.heap.size f) (H:∀c,OwnFrom w.heap.size (E c)) (al:f [] w) (X:α->World->Act) (j:α->World->World)
  (an:∀(l:Nat)(pre:List α)(x:α)(W:World)(K:Act->World->Prop),f pre W->zI pre x->K (X x W) (j x W)->
   assign.wpIn (F.inRound l) (n-1-1) P (Exit.then K (λ _ _ _=>False)) {tmps:=(mC.zip (yx x)).foldl (λ t (p,v)=>t.setIfInBounds p v) a.tmps,defers:=[]} W)
  (ao:∀(pre:List α)(x:α)(W:World),f pre W->KeepsFrom w.heap.size W (j x W)/\vv W (j x W))
  (aq:∀(l:Nat)(pre:List α)(x:α)(y W:World),f pre y->(∃o Y:Obj,W=(j x y).putObj (w.heap.size+1) o/\o.isCells=false/\(j x y).heap[w.heap.size+1]? =some Y/\Y.isCells=false)->zI pre x->w.heap.size+1<y.heap.size->body.wpIn (F.inRound l) (n-1-1) P (ownPostG w.heap.size vv f E (pre++[x]) W) (X x y) W)
  (ar:∀(D:Nat)(xs:List α)(W:World),w.heap.size<=D->S xs->f xs W->W.heap[D]? =some (.deferred (some []))->Q .normal {a with defers:={target:=.collected D,args:= #[]}::a.defers} W)
  (au:∀(D:Nat)(c:Code)(pre:List α)(W:World),w.heap.size<=D->A7 pre->E c pre W->W.heap[D]? =some (.deferred (some []))->c.wpIn F n P Q {a with defers:={target:=.collected D,args:= #[]}::a.defers} W):
  (Code.rangeFunc g mC assign body).wpIn F n P Q a w:=by
 refine wpIn_rangeFunc λ fn av=>?_
 rw[ae];obtain⟨b,k⟩:∃b:LoopState->Option Code->Loop,b=Jl fn a.tmps mC assign body w.heap.size:=⟨_,rfl⟩
 have aw:∀st z,(b st z).params=mC:=λ st z=>by rw[k];rfl
 have M:∀st z,(b st z).state=st:=λ st z=>by rw[k];rfl
 obtain⟨m,I⟩:∃m,(w.alloc (.deferred (some []))).alloc (.loop (b .ready none))=m:=⟨_,rfl⟩
 have ax:vw m w.heap.size (b .ready none):=by
  rw[<-I];refine⟨?_,(Zj _ _ _ (by simp)).trans (Zk w _)⟩;have:=Zk (w.alloc (.deferred (some []))) (.loop (b .ready none))
  rwa[World.size_alloc] at this
 refine⟨w.heap.size+1,[{target:=.collected w.heap.size,args:= #[]}],m,{target:=.fn (.func gf) lb,args:= #[.func (.yield (w.heap.size+1)) #[] #[]]},m,gf,
  #[.func (.yield (w.heap.size+1)) #[] #[]]++lb,m,by rw[<-I,k];exact run_enterLoop_outer _ _ _ _ _,by simp only[resolve,af];simp[go_sem],λ aE Z=>by simp[Target.leads] at Z;subst Z;exact ag,by simp[invoke,go_sem,ah],λ _=>h1,?_⟩
 refine(ai (w.heap.size+1) (λ pre W=>f pre W/\vw W w.heap.size (b .ready none)) (λ pre W=>∃c,E c pre W/\vw W w.heap.size (b .done (some c))) m (by
  rw[<-I];exact V.trans ((((s_ _ w).alloc (w_ _) _).alloc (by simp) _).mono V.size)) ?_ ⟨by rw[<-I];exact G.alloc _ (G.alloc _ al),ax⟩).mono ?_
 ·rintro pre x W ⟨q,N⟩ aa;have ab:=run_yield (P:=P) (args:=yx x) N.log (by rw[aw];exact ak x);rw[k] at ab;refine⟨fn,_,assign,body,ab,roundIn_of_wpIn av ?_⟩;have ad:=ao pre x W q;have J:=N.from ad.1
  refine an _ pre x W _ q aa ⟨_,run_beginRound J.log (by rw[M]),?_⟩;have ay:=J.put {b .ready none with state:=.busy};refine wpIn_mono (aq _ pre x W _ q ⟨_,_,rfl,rfl,J.log,rfl⟩ aa (b_.1 N.log).1) ?_;have az:vv W ((j x W).putObj (w.heap.size+1) (.loop {b .ready none with state:=.busy})):=L ad.2 (U _ _ _ _ (by omega) J.log rfl rfl);have fin:∀(jump:Option Code)(d:World),KeepsFrom w.heap.size ((j x W).putObj (w.heap.size+1) (.loop {b .ready none with state:=.busy})) d->
    ∃O,O=d.putObj (w.heap.size+1) (.loop (b (if jump.isNone then .ready else .done) jump))/\(Instr.endRound (w.heap.size+1) jump).run P d=.ok (.bool jump.isNone) O/\
    d.heap[w.heap.size+1]? =some (.loop {b .ready none with state:=.busy})/\vw O w.heap.size (b (if jump.isNone then .ready else .done) jump):=λ jump d R=>by
   have T:=ay.from R
   refine⟨_,rfl,?_,T.log,T.put _⟩;have:=run_endRound (P:=P) jump T.log;rw[k] at this⊢;exact this
  rintro e a3 d hp
  cases e with
  |normal=>
   obtain⟨R,aA,aB⟩:=hp;obtain⟨_,rfl,r,i,s⟩:=fin none d R;exact⟨_,_,r,.inl ⟨rfl,⟨G.putObj _ aB (by omega) i rfl,s⟩,L (L az aA) (U _ _ _ _ (by omega) i rfl rfl)⟩⟩
  |ret=>
   obtain⟨_,rfl,r,i,s⟩:=fin (some .ret) d hp.1;exact⟨_,_,r,.inr ⟨rfl,_,(H _).putObj _ hp.2 (by omega) i rfl,s⟩⟩
  |exit id=>
   obtain⟨_,rfl,r,i,s⟩:=fin (some (.exit id)) d hp.1;exact⟨_,_,r,.inr ⟨rfl,_,(H _).putObj _ hp.2 (by omega) i rfl,s⟩⟩
  |goto t=>
   obtain⟨_,rfl,r,i,s⟩:=fin (some (.goto t)) d hp.1;exact⟨_,_,r,.inr ⟨rfl,_,(H _).putObj _ hp.2 (by omega) i rfl,s⟩⟩
  |panic aF=>exact hp.elim
  |outgrown=>exact hp.elim
 ·rintro e aG ⟨⟨v,rfl⟩,(⟨xs,aC,q,u⟩|⟨pre,aD,c,q,u⟩)⟩
  ·exact⟨none,_,by have:=run_endLoop (P:=P) u.log (by rw[M];simp);rw[k] at this;exact this,ar _ xs _ (w_ _) aC (G.putObj _ q (by omega) u.log rfl) ((h_ (by omega)).trans u.A8)⟩
  ·exact⟨some c,_,by have:=run_endLoop (P:=P) u.log (by rw[M];simp);rw[k] at this;exact this,au _ c pre _ (w_ _) aD ((H c).putObj _ q (by omega) u.log rfl) ((h_ (by omega)).trans u.A8)⟩
def zJ(ops:List Oper):Bool:=ops.all λ o=>match o.op with| .defer _=>false|_=>true
theorem Jm{ops:List Oper}(h:zJ ops=true){i:Nat}{o:Oper}(b:ops.toArray[i]? =some o):∀c,o.op≠ .defer c:=by
 intro c e;have hm:o∈ops:=by
  rw[Yu] at b;exact List.mem_of_getElem? b
 have:=List.all_eq_true.1 h o hm;rw[e] at this
 cases this
theorem Jn{o:Oper}(g:∀c,o.op≠ .defer c){l:Nat}{a:Act}{w:World}{next:Act->World->Prop}{Q:Exit->Act->World->Prop}(i:¬LetsOut Q)(h:o.wp P a w next Q):o.wpIn (Zu.inRound l) n P a w next Q:=by
 unfold Oper.wp at h;unfold Oper.wpIn;refine⟨λ _ _=>trivial,?_⟩;rw[Oper.semAt_eq _ _ _ g];generalize (execOp a.eval o).run P w=r at*
 cases r with
 |ok x w'=>
  cases x with
  |enter f args=>exact⟨λ h=>by simp[Fence.inRound,Zu] at h,(callsIn_wide (n:=n-1)).2 (Calls.mono h λ e j he=>by cases e<;>exact he)⟩
  |row r args=>exact⟨λ h=>by simp[Fence.inRound,Zu] at h,λ c cs _=>let ⟨v,w',r,s⟩:=h c cs;⟨v,w',r,stepsIn_wide.2 s⟩⟩
  |round l f t s b=>exact h.elim
  |value v=>exact h
  |skip=>exact h
  |defer d=>exact h
  |_=>exact h.elim
 |halt x w'=>cases x<;>exact h
theorem zK{ops:List Oper}{l:Nat}{Q:Exit->Act->World->Prop}(c:zJ ops=true)(b:¬LetsOut Q):∀(L:List Nat)(a:Act)(w:World),wpOps P ops.toArray Q L a w->wpOpsIn (Zu.inRound l) n P ops.toArray Q L a w
 |[],a,w,h=>h
 |i::rest,a,w,h=>by
  simp only[wpOps] at h;simp only[wpOpsIn]
  cases d:ops.toArray[i]? with
  |none=>rw[d] at h;exact zK c b rest a w h
  |some o=>
   rw[d] at h;dsimp only at h⊢;split at h
   ·rename_i hw;rw[if_pos hw];rcases h with h|h
    ·exact Oper.wpIn_mono (λ a w h=>zK c b rest a w h) (Jn (Jm c d) b h)
    ·exact absurd h.2 b
   ·rename_i hw;rw[if_neg hw];exact⟨λ _ _=>trivial,zK c b rest _ w h⟩
theorem Jo{id:Nat}{ops:List Oper}{l:Nat}{Q:Exit->Act->World->Prop}{a:Act}{w:World}(hm:P.follows .mixedOrders=true)(b:zJ ops=true)(c:¬LetsOut Q)
  (h:wpAny P .any ops.toArray Q ops.toArray.size (Yy ops.toArray.size false) a {w with drawn:=w.drawn+1}):(Yw id ops.toArray true).wpIn (Zu.inRound l) n P Q a w:=
 wpIn_region_draw λ t=>by
  simp only[Region.schedule,hm,Bool.true_or,if_true];exact zK b c _ _ _ (wpAny_sound ops.toArray.size t _ a _ h)
theorem C1{id:Nat}{l:Nat}{Q:Exit->Act->World->Prop}{a:Act}{w:World}{ops:List Oper}(m:Nat)(hm:P.follows .mixedOrders=true)(o:zJ ops=true)(p:¬LetsOut Q)(d:Region.lexTailB .any ops.toArray m=true)
  (h:wpStill P ops.toArray {w with drawn:=w.drawn+1} (λ c=>wpList P ops.toArray Q (ops.drop m) c {w with drawn:=w.drawn+1}) (ops.take m) a):(Yw id ops.toArray true).wpIn (Zu.inRound l) n P Q a w:=by
 simp only[Region.lexTailB,f_,decide_eq_true_eq] at d;obtain⟨⟨⟨⟨h1,e⟩,q⟩,r⟩,f⟩:=d;have y:m<ops.length:=by simpa using e
 have b:(ops.take m).length=m:=by simp;omega
 have s:m+(ops.drop m).length=ops.toArray.size:=by simp;omega
 have u:ops.toArray.size-m=(ops.drop m).length:=by simp
 rw[u] at f;have H:=wpAnyL_lex (md:=.any) (g:=(ops.drop m).length) h1 q r e (ops.take m) 0 _ a (λ j i=>by rw[b] at i;simp[i]) (by simpa using b)
  (show HeadInv .any ops.toArray m (Yy ops.toArray.size false) from⟨by simp,λ j z _ hl=>(by rw[getD_replicate_false] at hl;cases hl),λ t _ v=>getD_in (by simpa using v) (getD_replicate_false _ _)⟩) (by rw[b];exact f) h
 refine Jo hm o p ?_;have K:=wpAny_of_head (Q':=Q) (g:=(ops.drop m).length) (λ listed c k=>wpAny_of_seq (md:=.any) (Q':=Q) (ops.drop m) m listed c _ (λ j=>by simp[List.getElem?_drop]) k.1 k.2) _ _ _ H;rw[b,s] at K;exact K
def oO(D:Nat):Deferred:={target:=.collected D,args:= #[]}
structure Shut(ds:List Nat)(W W':World):Prop where
 os:W'.os=W.os
 tape:W'.tape=W.tape
 output:W'.output=W.output
 size:W'.heap.size=W.heap.size
 block:∀k,k∉ds->W'.heap[k]? =W.heap[k]?
theorem Shut.below{ds:List Nat}{W W' w:World}{C2:Nat}(h:Shut ds W W')(b:Below C2 w W)(c:∀D∈ds,C2<=D):Below C2 w W':=
 ⟨h.os.trans b.os,h.tape.trans b.tape,h.output.trans b.output,by rw[h.size];exact b.size,λ k hk=>(h.block k (λ hm=>by have:=c k hm;omega)).trans (b.block k hk)⟩
theorem Shut.cell{ds:List Nat}{W W':World}(h:Shut ds W W'){p:Addr}(hp:p.block∉ds):W'.cell? p=W.cell? p:=ZW (w:=W) (h.block p.block hp)
theorem EX{F:Fence}{n:Nat}{P:Program}{fn:Func}{tmps:Array Value}{aP:Ending->World->Prop}{u:FrameMode}(hu:u≠ .run):∀(ds:List Nat)(W:World),ds.Nodup->(∀D∈ds,W.heap[D]? =some (.deferred (some [])))->
  (∀W',Shut ds W W'->LeavesIn F n P fn tmps aP [] u W')->LeavesInM F n P fn tmps aP (ds.map oO) u W
 |[],W,_,_,h=>h W ⟨rfl,rfl,rfl,rfl,λ _ _=>rfl⟩
 |D::ds,W,f,b,h=>by
  have c:=Zf.1 f;refine⟨hu,.inl ⟨D,_,rfl,run_takeDeferred (b D (by simp)),EX hu ds _ c.2 (λ E d=>?_) (λ W' hs=>h W' ?_)⟩⟩
  ·rw[h_ (by intro e;subst e;exact c.1 d)];exact b E (by simp[d])
  ·refine⟨hs.os,hs.tape,hs.output,hs.size.trans (by simp[World.putObj]),λ k hk=>?_⟩;simp only[q_,not_or] at hk;rw[hs.block k hk.2,h_ (by intro e;exact hk.1 e)]
theorem Ba{f:FuncId}{fn:Func}{c:Code}{args:Array Value}{w:World}{aP:Ending->World->Prop}(b:P.funcs[f]? =some fn)(d:fn.body=some c)
  (h:c.wp P (bodyPostM Zu 6 P fn aP) {tmps:=args++Yy (fn.ntmps-args.size) undef,defers:=[]} w):Calls P f args w aP:=
 (callsIn_wide (n:=6)).1 (callsIn_of_wp_marks b d trivial (wpIn_wide.2 h) rfl)
theorem Jp{fn:Func}{aP:Ending->World->Prop}{a:Act}{w:World}{v:Value}(b:(results fn a.tmps).run P w=.ok v w)(c:a.defers=[])(d:aP (.returned v) w):bodyPostM Zu 6 P fn aP .ret a w:=by
 show LeavesInM _ _ _ _ _ _ a.defers _ _;rw[c];exact⟨v,b,d⟩
theorem Bb{fn:Func}{aP:Ending->World->Prop}{a:Act}{w:World}(ds:List Nat)(b:a.defers=ds.map oO)(c:ds.Nodup)(d:∀D∈ds,w.heap[D]? =some (.deferred (some [])))
  (h:∀W',Shut ds w W'->∃v,(results fn a.tmps).run P W'=.ok v W'/\aP (.returned v) W'):bodyPostM Zu 6 P fn aP .ret a w:=by
 show LeavesInM _ _ _ _ _ _ a.defers _ _;rw[b];exact EX (by simp) ds _ c d h
theorem EY{F:Fence}{n:Nat}{P:Program}{fn:Func}{tmps:Array Value}{aP:Ending->World->Prop}{u:FrameMode}(hu:u≠ .run)(rest:List Deferred):∀(ds:List Nat)(W:World),ds.Nodup->(∀D∈ds,W.heap[D]? =some (.deferred (some [])))->
  (∀W',Shut ds W W'->LeavesInM F n P fn tmps aP rest u W')->LeavesInM F n P fn tmps aP (ds.map oO++rest) u W
 |[],W,_,_,h=>h W ⟨rfl,rfl,rfl,rfl,λ _ _=>rfl⟩
 |D::ds,W,f,b,h=>by
  have c:=Zf.1 f;refine⟨hu,.inl ⟨D,_,rfl,run_takeDeferred (b D (by simp)),EY hu rest ds _ c.2 (λ E d=>?_) (λ W' hs=>h W' ?_)⟩⟩
  ·rw[h_ (by intro e;subst e;exact c.1 d)];exact b E (by simp[d])
  ·refine⟨hs.os,hs.tape,hs.output,hs.size.trans (by simp[World.putObj]),λ k hk=>?_⟩;simp only[q_,not_or] at hk;rw[hs.block k hk.2,h_ (by intro e;exact hk.1 e)]
theorem EZ{n:Nat}{P:Program}{id:Nat}{l:Nat}{Q:Exit->Act->World->Prop}{a:Act}{w:World}{ops:List Oper}(b:zJ ops=true)(c:¬LetsOut Q)(h:wpList P ops.toArray Q ops a w):(Yw id ops.toArray false).wpIn (Zu.inRound l) n P Q a w:=by
 refine wpIn_region (zK b c _ a w ?_);rw[List.range_eq_range',<-Array.length_toList,wpOps_eq_wpList _ 0 (by simp)];simpa using h
end
section
open Go.RowKit
structure aq where
 A:Option Addr
 n:Nat
 c:Nat
def aq.v(h:aq):Value:=.slice h.A h.n h.c
def aq.b(h:aq):Option Nat:=h.A.map (·.block)
def mM:aq:=⟨none,0,0⟩
theorem aq.own(h:aq):h.v.ownBlock=h.b:=by
 obtain⟨A,n,c⟩:=h
 cases A<;>rfl
theorem aq.lz{w:World}{v:Value}(h:w.ownsRow base e size v n xs):∃k:aq,v=k.v/\k.n=n:=by
 rcases h.2 with⟨rfl,rfl⟩|⟨g,cap,cur,rfl,_⟩
 ·exact⟨mM,rfl,rfl⟩
 ·exact⟨⟨_,_,_⟩,rfl,rfl⟩
def iH{l8 α:Type}[DecidableEq l8](f:l8->α)(r:l8)(x:α):l8->α:=λ y=>if y=r then x else f y
theorem jH[DecidableEq l8](f:l8->α)(r:l8)(x:α):iH f r x r=x:=if_pos rfl
theorem aX[DecidableEq l8](f:l8->α){r y:l8}(x:α)(h:y≠r):iH f r x y=f y:=if_neg h
def aO(w:World)(b:Nat)(t:TypeId)(cs:List Value):Prop:=w.heap[b]? =some (.cells cs.toArray t (0,0))
theorem aO.lt{w:World}{b:Nat}(h:aO w b t cs):b<w.heap.size:=(b_.1 h).1
theorem aO.cell{w:World}{b:Nat}(h:aO w b t cs)(k:Nat):w.cell? ⟨b,k,none⟩=cs[k]? :=by
 simp[d_,show w.heap[b]? =_ from h]
theorem aO.free{w:World}{b:Nat}(h:aO w b t cs)(k:Nat):w.frozen? ⟨b,k,none⟩=false:=by
 simp[Z5,show w.heap[b]? =_ from h]
theorem aO.kept{w:World}{b:Nat}(h:aO w b t cs)(c:w.grownBy w' row)(d:some b≠row):aO w' b t cs:=(c.block b h.lt d).trans h
theorem aO.below{w:World}{b:Nat}(h:aO w b t cs)(c:Below w.heap.size w w'):aO w' b t cs:=(c.block b h.lt).trans h
theorem aO.new(w:World)(t:TypeId)(cs:List Value):aO (w.alloc (.cells cs.toArray t)) w.heap.size t cs:=ZR w _
theorem aO.set{w:World}{b:Nat}{t:TypeId}{cs:List Value}(h:aO w b t cs)(k:Nat)(v:Value):aO (w.setCell ⟨b,k,none⟩ v) b t (cs.set k v):=by
 unfold aO at*;have:=heap_setCell_same w b k cs.toArray t v h;rw[this];simp
theorem kK(w:World)(b k:Nat)(v:Value):w.grownBy (w.setCell ⟨b,k,none⟩ v) (some b):=
 ⟨rfl,rfl,rfl,by simp[ZO],λ j d c=>Zr _ _ _ _ (λ e=>c (by rw[e]))⟩
structure mg{l8:Type}(base:Nat)(ty:l8->TypeId)(nT:l8->Nat)(w:World)(hs:l8->aq)(X:l8->List Value):Prop where
 row:∀r,w.ownsRow base (ty r) (nT r) (hs r).v (hs r).n (X r)
 apart:∀r r' g,r≠r'->(hs r).b=some g->(hs r').b≠some g
section
variable {l8:Type}{base:Nat}{ty:l8->TypeId}{nT:l8->Nat}{w w':World}{hs:l8->aq}{X:l8->List Value}
theorem mg.kept{row:Option Nat}(h:mg base ty nT w hs X)(c:w.grownBy w' row)(d:∀r g,(hs r).b=some g->row≠some g):mg base ty nT w' hs X:=by
 refine⟨λ r=>(h.row r).kept c ?_,h.apart⟩;rw[aq.own]
 cases f:(hs r).b with
 |none=>exact u_ rfl
 |some g=>exact x_ λ e=>d r g f e.symm
theorem mg.below(h:mg base ty nT w hs X)(c:Below w.heap.size w w'):mg base ty nT w' hs X:=
 ⟨λ r=>(h.row r).kept ⟨c.os,c.tape,c.output,c.size,λ k hk _=>c.block k hk⟩ (by
  rw[aq.own];exact Or.imp id (λ(h:(hs r).b≠none)=>h) (ZF ((hs r).b=none))),h.apart⟩
theorem mg.len(h:mg base ty nT w hs X)(r:l8):(X r).length=(hs r).n*nT r:=(h.row r).1
theorem mg.lt(h:mg base ty nT w hs X){r:l8}{g:Nat}(c:(hs r).b=some g):base<=g/\g<w.heap.size:=(h.row r).lt g (by rw[aq.own];exact c)
theorem mg.addr(h:mg base ty nT w hs X){r:l8}(c:(hs r).n≠0):∃g,(hs r).A=some ⟨g,0,none⟩/\(hs r).b=some g:=by
 rcases(h.row r).2 with⟨_,d⟩|⟨g,cap,cur,e,_⟩
 ·exact absurd d c
 ·have:(hs r).A=some ⟨g,0,none⟩:=by
   have:=e;unfold aq.v at this;injection this
  exact⟨g,this,by unfold aq.b;rw[this];rfl⟩
theorem mg.form(h:mg base ty nT w hs X){r:l8}{g:Nat}(d:(hs r).b=some g):(hs r).A=some ⟨g,0,none⟩/\w.ownsRow base (ty r) (nT r) (.slice (some ⟨g,0,none⟩) (hs r).n (hs r).c) (hs r).n (X r):=by
 have f:=h.row r;rcases f.2 with⟨h1,_⟩|⟨j,cap,cur,i,_⟩
 ·unfold aq.v at h1;injection h1 with h1
  unfold aq.b at d;rw[h1] at d;cases d
 ·unfold aq.v at i;injection i with h1 e k
  have:j=g:=by
   unfold aq.b at d;rw[h1] at d;injection d
  subst this;refine⟨h1,?_⟩;have e:=f;unfold aq.v at e;rw[h1] at e;exact e
theorem mg.cell(h:mg base ty nT w hs X){r:l8}{g:Nat}(c:(hs r).b=some g){k:Nat}(hk:k<(hs r).n*nT r):w.cell? ⟨g,k,none⟩=(X r)[k]? :=(h.form c).2.cellAt k hk
theorem mg.free(h:mg base ty nT w hs X){r:l8}{g:Nat}(c:(hs r).b=some g)(k:Nat):w.frozen? ⟨g,k,none⟩=false:=(h.form c).2.frozenAt k
theorem mg.C3(h:mg base ty nT w hs X){b:Nat}{t:TypeId}{cs:List Value}(f:aO w b t cs)(i:∀r,ty r≠t)(r:l8)(g:Nat)(j:(hs r).b=some g):some b≠some g:=by
 intro e;injection e with e
 subst e;rcases((h.form j).2).2 with⟨h1,_⟩|⟨l,cap,cur,c,_,d,_⟩
 ·cases h1
 ·injection c with c
  injection c with c
  injection c with c
  subst c;rw[show w.heap[b]? =_ from f] at d;injection d with d
  injection d with _ k
  exact i r k.symm
variable [DecidableEq l8]
theorem mg.set(h:mg base ty nT w hs X){r:l8}{g:Nat}(c:(hs r).b=some g)(k:Nat)(v:Value):mg base ty nT (w.setCell ⟨g,k,none⟩ v) hs (iH X r ((X r).set k v)):=by
 refine⟨λ r'=>?_,h.apart⟩
 by_cases e:r'=r
 ·subst e;rw[jH];have:=(h.form c).2.stored k v;unfold aq.v;rw[(h.form c).1];exact this.1
 ·rw[aX _ _ e];refine(h.row r').kept (kK w g k v) ?_;rw[aq.own];exact x_ λ d=>h.apart r r' g (λ f=>e f.symm) c d
theorem mg.iS(h:mg base ty nT w hs X){r:l8}{h':aq}{ys:List Value}(m:w.grownBy w' (hs r).b)(o:w'.ownsRow base (ty r) (nT r) h'.v h'.n ys)(c:h'.b=(hs r).b\/∀g,h'.b=some g->w.heap.size<=g):
  mg base ty nT w' (iH hs r h') (iH X r ys):=by
 refine⟨λ r'=>?_,λ f i g k h1=>?_⟩
 ·by_cases e:r'=r
  ·subst e;rw[jH,jH];exact o
  ·rw[aX _ _ e,aX _ _ e];refine(h.row r').kept m ?_;rw[aq.own]
   cases p:(hs r').b with
   |none=>exact u_ rfl
   |some g=>exact x_ λ d=>h.apart r' r g e p d.symm
 ·by_cases l:f=r
  ·subst l;have d:i≠f:=λ e=>k e.symm
   rw[jH] at h1;rw[aX _ _ d];rcases c with c|c
   ·rw[c] at h1;exact h.apart f i g k h1
   ·intro j;have:=c g h1;have:=(h.lt j).2;omega
  ·rw[aX _ _ l] at h1
   by_cases d:i=r
   ·subst d;rw[jH];intro j;rcases c with c|c
    ·rw[c] at j;exact h.apart f i g k h1 j
    ·have:=c g j;have:=(h.lt h1).2;omega
   ·rw[aX _ _ d];exact h.apart f i g k h1
theorem Jq{e:TypeId}{size:Nat}{g n cap k:Nat}{xs:List Value}(h:w.ownsRow base e size (.slice (some ⟨g,0,none⟩) n cap) n xs)(hk:k<=n):w.ownsRow base e size (.slice (some ⟨g,0,none⟩) k cap) k (xs.take (k*size)):=by
 rcases h.2 with⟨h1,_⟩|⟨m,o,cur,c,h1,d,p,f,i,j⟩
 ·cases h1
 ·injection c with b _ l
  injection b with b
  injection b with b
  subst b;subst l;have hle:k*size<=n*size:=Nat.mul_le_mul_right _ hk;refine⟨by rw[j_,h.1];omega,.inr ⟨_,_,cur,rfl,h1,d,by omega,f,i,?_⟩⟩;rw[<-j,Zl]
  congr 1
  omega
theorem mg.cut(h:mg base ty nT w hs X){r:l8}{g:Nat}(d:(hs r).b=some g){k:Nat}(hk:k<=(hs r).n):mg base ty nT w (iH hs r ⟨(hs r).A,k,(hs r).c⟩) (iH X r ((X r).take (k*nT r))):=by
 refine h.iS ⟨rfl,rfl,rfl,w_ _,λ _ _ _=>rfl⟩ ?_ (u_ rfl);unfold aq.v;rw[(h.form d).1];exact Jq (h.form d).2 hk
end
end
section
def aH(x:Int):Nat:=x.natAbs
theorem oP(x:Int):aH (-x)=aH x:=Int.natAbs_neg x
theorem Bc(h:aH x=aH y):x=y\/x= -y:=Int.natAbs_eq_natAbs_iff.1 h
def jD(x:Int):Nat:=if x<0 then 2*x.natAbs+1 else 2*x.natAbs
theorem vO(h:jD x=jD y):x=y:=by
 unfold jD at h;split at h<;>split at h<;>omega
def gU(n:Nat)(x:Int):Prop:=1<=aH x/\aH x<=n
theorem gU.neg(h:gU n x):gU n (-x):=by unfold gU at*;rw[oP];exact h
theorem gU.oQ(h:gU n x):x≠0:=by rintro rfl;have:=h.1;simp[aH] at this
theorem gU.at(h:gU n x):jD x<2*n+2:=by unfold jD;unfold gU aH at h;split<;>omega
def Mod(M:Int->Bool):Prop:=∀x,x≠0->M (-x)= !(M x)
def uj(M:Int->Bool)(l:List Int):Prop:=∃x∈l,M x=true
def tK(M:Int->Bool)(F:List (List Int)):Prop:=Mod M/\∀l∈F,uj M l
def pL(F:List (List Int))(l:List Int):Prop:=∀M,tK M F->uj M l
def Unsat(F:List (List Int)):Prop:=∀M,¬tK M F
structure oR(n:Nat)(l:List Int):Prop where
 ne:l≠ []
 lt:∀x∈l,gU n x
 nr:l.Nodup
 jC:∀x∈l,¬-x∈l
def vz(l:List Int):Prop:=∃x∈l,x≠0/\ -x∈l
theorem vz.Jr{M:Int->Bool}(b:Mod M){l:List Int}(h:vz l):uj M l:=by
 obtain⟨x,c,d,e⟩:=h
 cases hm:M x with
 |true=>exact⟨x,c,hm⟩
 |false=>exact⟨-x,e,by rw[b x d,hm];rfl⟩
structure Core where
 n:Nat
 wt:List (List Nat)
 val:List Int
 lvl:List Nat
 j9:List (Option Nat)
 au:List Int
 st:List Nat
 ag:Nat
 l9:Bool
 cl:List (List Int)
def ai(l:List Int)(k:Nat):Int:=l.getD k 0
def gQ(l:List Nat)(k:Nat):Nat:=l.getD k 0
def ax{α:Type}(l:List (List α))(k:Nat):List α:=l.getD k []
def mF(l:List (Option Nat))(k:Nat):Option Nat:=l.getD k none
theorem ny(h:k<l.length):ai l k=l[k]:=by simp[ai,y_,v_ h]
theorem vA{l:List Nat}(h:k<l.length):gQ l k=l[k]:=by simp[gQ,y_,v_ h]
theorem E0{l:List (List α)}(h:k<l.length):ax l k=l[k]:=by simp[ax,y_,v_ h]
theorem E1{l:List (Option Nat)}(h:k<l.length):mF l k=l[k]:=by simp[mF,y_,v_ h]
theorem l5(h:k<l.length):ai l k∈l:=by rw[ny h];exact g_ h
theorem o7(l:List Int)(k j:Nat)(x:Int):ai (l.set k x) j=if k=j/\k<l.length then x else ai l j:=by
 simp only[ai,y_,Zo]
 by_cases h:k=j
 ·subst h
  by_cases b:k<l.length
  ·simp[b]
  ·simp[b]
 ·simp[h]
theorem Js(l:List Nat)(k j:Nat)(x:Nat):gQ (l.set k x) j=if k=j/\k<l.length then x else gQ l j:=by
 simp only[gQ,y_,Zo]
 by_cases h:k=j
 ·subst h
  by_cases b:k<l.length
  ·simp[b]
  ·simp[b]
 ·simp[h]
theorem qE(l:List (List α))(k j:Nat)(x:List α):ax (l.set k x) j=if k=j/\k<l.length then x else ax l j:=by
 simp only[ax,y_,Zo]
 by_cases h:k=j
 ·subst h
  by_cases b:k<l.length
  ·simp[b]
  ·simp[b]
 ·simp[h]
theorem wG(l:List (Option Nat))(k j:Nat)(x:Option Nat):mF (l.set k x) j=if k=j/\k<l.length then x else mF l j:=by
 simp only[mF,y_,Zo]
 by_cases h:k=j
 ·subst h
  by_cases b:k<l.length
  ·simp[b]
  ·simp[b]
 ·simp[h]
theorem sJ{a b:List Int}(h:k<a.length):ai (a++b) k=ai a k:=by
 simp only[ai,y_,Ze h]
theorem xH(a:List Int)(x:Int):ai (a++[x]) a.length=x:=by simp[ai,y_]
theorem xI{a b:List Nat}(h:k<a.length):gQ (a++b) k=gQ a k:=by
 simp only[gQ,y_,Ze h]
theorem xJ(a:List Nat)(x:Nat):gQ (a++[x]) a.length=x:=by simp[gQ,y_]
theorem Bd{a b:List (List α)}(h:k<a.length):ax (a++b) k=ax a k:=by
 simp only[ax,y_,Ze h]
theorem uR(a:List (List α))(x:List α):ax (a++[x]) a.length=x:=by simp[ax,y_]
theorem wH(h:k<m):ai (l.take m) k=ai l k:=by
 simp only[ai,y_,ZQ,if_pos h]
theorem uS{l:List Nat}(h:k<m):gQ (l.take m) k=gQ l k:=by
 simp only[gQ,y_,ZQ,if_pos h]
theorem pU:x∈l.take m↔∃k,k<m/\k<l.length/\ai l k=x:=by
 constructor
 ·intro h;obtain⟨k,hk,e⟩:=c_.1 h;rw[j_] at hk;refine⟨k,by omega,by omega,?_⟩;rw[List.getElem_take] at e;rw[ny (by omega),e]
 ·rintro⟨k,h1,b,rfl⟩;rw[ny b];exact List.mem_take_iff_getElem.2 ⟨k,by omega,rfl⟩
theorem qj:x∈l↔∃k,k<l.length/\ai l k=x:=by
 have:=pU (l:=l) (m:=l.length) (x:=x);rw[e_] at this;rw[this];exact⟨λ⟨k,_,h⟩=>⟨k,h⟩,λ⟨k,h⟩=>⟨k,h.1,h⟩⟩
def jZ(c:Core)(x:Int):Int:=if x<0 then-(ai c.val (aH x)) else ai c.val (aH x)
def lC(st:List Nat)(i:Nat):Nat:=st.countP (·<=i)
def aR(c:Core)(x:Int):Nat:=gQ c.lvl (aH x)
def wI(T l:List Int):Prop:=(∃x∈l,x∈T)\/∃x∈l,∃y∈l,x≠y/\¬-x∈T/\¬-y∈T
def w0(c:Core)(i:Nat):Int:=ai (ax c.cl i) 0
def w1(c:Core)(i:Nat):Int:=ai (ax c.cl i) 1
structure jV(c:Core):Prop where
 rN:c.val.length=c.n+1
 pM:c.lvl.length=c.n+1
 o8:c.j9.length=c.n+1
 lit:∀x∈c.au,gU c.n x
 nr:(c.au.map aH).Nodup
 uk:∀v,ai c.val v=0\/ai c.val v=1\/ai c.val v= -1
 pos:∀x,gU c.n x->(jZ c x=1↔x∈c.au)
 ri:∀j k,j<=k->k<c.st.length->gQ c.st j<=gQ c.st k
 oH:∀k,k<c.st.length->gQ c.st k<=c.au.length
 mG:∀i,i<c.au.length->aR c (ai c.au i)=lC c.st i
 p7:∀i,i<c.au.length->match mF c.j9 (aH (ai c.au i)) with
  |none=>∃k,k<c.st.length/\gQ c.st k=i
  |some d=>d<c.cl.length/\ai c.au i∈ax c.cl d/\∀x∈ax c.cl d,x≠ai c.au i-> -x∈c.au.take i
theorem Jt{c:Core}(h:gU n x):jZ c (-x)= -(jZ c x):=by
 unfold jZ;rw[oP];have:=h.oQ
 by_cases h1:x<0
 ·rw[if_pos h1,if_neg (by omega)];omega
 ·rw[if_neg h1,if_pos (by omega)]
theorem jV.range{c:Core}(h:jV c)(x:Int):jZ c x=0\/jZ c x=1\/jZ c x= -1:=by
 unfold jZ;have:=h.uk (aH x);split<;>omega
theorem jV.xK{c:Core}(h:jV c){x:Int}(b:gU c.n x):jZ c x= -1↔-x∈c.au:=by
 rw[<-h.pos _ b.neg,Jt b];omega
theorem jV.open{c:Core}(h:jV c){x:Int}(b:gU c.n x):jZ c x=0↔¬x∈c.au/\¬-x∈c.au:=by
 rw[<-h.pos _ b,<-h.xK b];have:=h.range x;omega
theorem jV.place{c:Core}(h:jV c){i j:Nat}(b:i<c.au.length)(d:j<c.au.length)(e:aH (ai c.au i)=aH (ai c.au j)):i=j:=by
 have f:=h.nr;rw[ny b,ny d] at e;have:=ZE (xs:=c.au.map aH) (i:=i) (j:=j) (h₀:=by simpa using b) (h₁:=by simpa using d) f;simp only[List.getElem_map] at this;exact this.1 e
theorem jV.apart{c:Core}(h:jV c){x:Int}(b:x∈c.au):¬-x∈c.au:=by
 intro d;obtain⟨i,e,f⟩:=qj.1 b;obtain⟨j,g,k⟩:=qj.1 d;have:=h.place e g (by rw[f,k,oP]);subst this;have:=(h.lit x b).oQ;omega
theorem C4{st:List Nat}{j:Nat}(h:i<=j):lC st i<=lC st j:=by
 unfold lC;exact List.countP_mono_left λ x _ b=>by simp at b⊢;omega
theorem wJ(st:List Nat)(i:Nat):lC st i<=st.length:=List.countP_le_length
theorem um{c:Core}(h:jV c){i k:Nat}(hk:k<c.st.length):k<lC c.st i↔gQ c.st k<=i:=by
 have hm:=h.ri;unfold lC;generalize c.st=st at*;clear h
 induction st generalizing k with
 |nil=>simp at hk
 |cons a r m=>
  rw[List.countP_cons]
  by_cases d:a<=i
  ·have f:(decide (a<=i))=true:=by simpa using d
   rw[f,if_pos rfl]
   cases k with
   |zero=>simp[gQ,d]
   |succ k=>
    have:=m (k:=k) (by simpa using hk) (λ j n t o=>by have:=hm (j+1) (n+1) (by omega) (by simpa using o);simpa[gQ] using this);have e:gQ (a::r) (k+1)=gQ r k:=by simp[gQ]
    rw[e];exact⟨λ h=>this.1 (by omega),λ h=>by have:=this.2 h;omega⟩
  ·have f:(decide (a<=i))=false:=by simpa using d
   rw[f];simp only[Bool.false_eq_true,if_false,ZX];have p:r.countP (λ x=>decide (x<=i))=0:=by
    rw[List.countP_eq_zero];intro b q;obtain⟨j,l,e⟩:=c_.1 q;have:=hm 0 (j+1) (by omega) (by simpa using l);have s:gQ (a::r) (j+1)=b:=by rw[vA (by simpa using l)];simpa using e
    rw[s] at this;have g:gQ (a::r) 0=a:=by simp[gQ]
    rw[g] at this;simp;omega
   rw[p];have:=hm 0 k (by omega) hk;have g:gQ (a::r) 0=a:=by simp[gQ]
   rw[g] at this;omega
theorem sK(h:x∈l.take m):x∈l:=List.mem_of_mem_take h
theorem C5(h:x∈l.take m)(hk:m<=k):x∈l.take k:=by
 rw[pU] at h⊢;obtain⟨j,h1,b⟩:=h;exact⟨j,by omega,b⟩
end
section
structure rO(F Fd:List (List Int))(c:Core):Prop where
 mI:∀d,d<c.cl.length->oR c.n (ax c.cl d)
 imp:∀d,d<c.cl.length->pL F (ax c.cl d)
 tL:∀g∈Fd,c.l9=true\/vz g\/(∃i,i<c.au.length/\ai c.au i∈g/\lC c.st i=0)\/∃d,d<c.cl.length/\∀x,x∈ax c.cl d↔x∈g
 tM:c.l9=true->Unsat F
 tN:c.l9=true\/∀d,d<c.cl.length->(ax c.cl d).length=1->∃i,i<c.au.length/\ai c.au i=w0 c d/\lC c.st i=0
structure yy(c:Core):Prop where
 qV:c.wt.length=2*c.n+2
 qW:∀k d,d∈ax c.wt k->d<c.cl.length/\2<=(ax c.cl d).length/\(k=jD (-(w0 c d))\/k=jD (-(w1 c d)))
 tg:∀k,(ax c.wt k).Nodup
 uT:∀d,d<c.cl.length->2<=(ax c.cl d).length->d∈ax c.wt (jD (-(w0 c d)))/\d∈ax c.wt (jD (-(w1 c d)))
def wK(c:Core)(d:Nat)(a b:Int):Prop:=(a=w0 c d/\b=w1 c d)\/(a=w1 c d/\b=w0 c d)
def Ju(c:Core)(h:Nat)(P:List Nat):Prop:=∀d,d<c.cl.length->2<=(ax c.cl d).length->∀a b,wK c d a b-> -a∈c.au.take h->(d∈P/\ai c.au (h-1)= -a)\/(b∈c.au/\aR c b<=aR c a)
def C6(c:Core):Prop:=∀k,k<c.st.length->∀d,d<c.cl.length->wI (c.au.take (gQ c.st k)) (ax c.cl d)
structure kf(F Fd:List (List Int))(c:Core)(h:Nat)(P:List Nat):Prop where
 aL:jV c
 jK:rO F Fd c
 wt:yy c
 rP:Ju c h P
 rQ:C6 c
 cur:∀k,k<c.st.length->gQ c.st k<=h
 hle:h<=c.au.length
def vP(x:Int):Int:=if x<0 then-1 else 1
def k5(c:Core)(x:Int)(w:Option Nat):Core:={c with val:=c.val.set (aH x) (vP x),lvl:=c.lvl.set (aH x) c.st.length,j9:=c.j9.set (aH x) w,au:=c.au++[x]}
def E2(c:Core)(x:Int):Option Nat->Prop
 |none=>∃k,k<c.st.length/\gQ c.st k=c.au.length
 |some d=>d<c.cl.length/\x∈ax c.cl d/\∀y∈ax c.cl d,y≠x-> -y∈c.au
section
variable {c:Core}{x:Int}{w:Option Nat}
theorem Jv(h:jV c)(d:gU c.n x)(y:Int)(f:gU c.n y):jZ (k5 c x w) y=if y=x then 1 else if y= -x then-1 else jZ c y:=by
 have hl:aH x<c.val.length:=by rw[h.rN];have:=d.2;omega
 have i:=d.oQ;have j:=f.oQ;unfold jZ k5;simp only[o7]
 by_cases e:y=x
 ·subst e;rw[if_pos rfl];simp only[hl,and_self,if_true];unfold vP
  by_cases h1:y<0<;>simp[h1]
 ·rw[if_neg e]
  by_cases b:y= -x
  ·subst b;rw[if_pos rfl,oP];simp only[hl,and_self,if_true];unfold vP
   by_cases h1:x<0
   ·rw[if_neg (by omega),if_pos h1]
   ·rw[if_pos (by omega),if_neg h1]
  ·rw[if_neg b];have:¬(aH x=aH y/\aH x<c.val.length):=λ g=>by
    rcases Bc g.1 with h1|h1
    ·exact e h1.symm
    ·exact b (by omega)
   rw[if_neg this]
theorem vQ{y:Int}(h:jV c)(d:gU c.n x)(f:jZ c x=0)(b:y∈c.au):aH y≠aH x:=by
 intro e;obtain⟨h1,g⟩:=(h.open d).1 f;rcases Bc e with e|e
 ·exact h1 (e▸b)
 ·exact g (e▸b)
theorem Be(h:jV c)(b:gU c.n x)(y:Int):aR (k5 c x w) y=if aH y=aH x then c.st.length else aR c y:=by
 have hl:aH x<c.lvl.length:=by rw[h.pM];have:=b.2;omega
 unfold aR k5;simp only[Js]
 by_cases e:aH y=aH x
 ·rw[if_pos e,if_pos ⟨e.symm,hl⟩]
 ·rw[if_neg e,if_neg λ d=>e d.1.symm]
theorem jV.set(h:jV c)(f:gU c.n x)(l:jZ c x=0)(hw:E2 c x w):jV (k5 c x w):=by
 have D:aH x<c.val.length:=by rw[h.rN];have:=f.2;omega
 have t:aH x<c.j9.length:=by rw[h.o8];have:=f.2;omega
 obtain⟨E,u⟩:=(h.open f).1 l;have g:(k5 c x w).au=c.au++[x]:=rfl;have m:(k5 c x w).st=c.st:=rfl;have z:(k5 c x w).cl=c.cl:=rfl;have F:(k5 c x w).n=c.n:=rfl;refine⟨by simp[k5,h.rN],by simp[k5,h.pM],by simp[k5,h.o8],?_,?_,?_,?_,h.ri,?_,?_,?_⟩
 ·intro y j;rw[g] at j;rcases o_.1 j with h1|h1
  ·exact h.lit y h1
  ·rw[t_.1 h1];exact f
 ·rw[g,ZY,Zn];refine⟨h.nr,by simp,λ a o b r e=>?_⟩;obtain⟨y,j,rfl⟩:=Zm.1 o;simp only[Zx,ZH,t_] at r;rw[r] at e;exact vQ h f l j e
 ·intro v;show ai (c.val.set (aH x) (vP x)) v=0\/_;simp only[k5,o7]
  by_cases e:aH x=v/\aH x<c.val.length
  ·rw[if_pos e];unfold vP;split<;>omega
  ·rw[if_neg e];exact h.uk v
 ·intro y j;have s:gU c.n y:=j;rw[Jv h f y s,g,o_,t_]
  by_cases e:y=x
  ·simp[e]
  ·rw[if_neg e]
   by_cases p:y= -x
   ·rw[if_pos p];constructor
    ·intro h1;omega
    ·rintro(h1|h1)
     ·exact absurd (p▸h1) u
     ·exact absurd h1 e
   ·rw[if_neg p,h.pos y s];constructor
    ·exact u_
    ·rintro(h1|h1)
     ·exact h1
     ·exact absurd h1 e
 ·intro k hk;have:=h.oH k hk;rw[m,g,p_];simp;omega
 ·intro i q;rw[g,p_,a_] at q;rw[g,m,Be h f]
  by_cases e:i<c.au.length
  ·rw[sJ e,if_neg (vQ h f l (l5 e))];exact h.mG i e
  ·obtain rfl:i=c.au.length:=by omega
   rw[xH,if_pos rfl];have:lC c.st c.au.length=c.st.length:=by
    unfold lC;rw[Yr];intro a o;obtain⟨k,hk,e⟩:=c_.1 o;have:=h.oH k hk;rw[vA hk,e] at this;simpa using this
   exact this.symm
 ·intro i q;rw[g,p_,a_] at q;have A:(k5 c x w).j9=c.j9.set (aH x) w:=rfl;rw[g,m,z,A]
  by_cases e:i<c.au.length
  ·have B:=vQ h f l (l5 e);rw[sJ e,wG,if_neg (λ C=>B C.1.symm),r_ (by omega)];exact h.p7 i e
  ·obtain rfl:i=c.au.length:=by omega
   rw[xH,wG,if_pos ⟨rfl,t⟩,r_ (w_ _),e_]
   cases w with
   |none=>exact hw
   |some d=>exact hw
theorem rO.set{F Fd:List (List Int)}(h:rO F Fd c):rO F Fd (k5 c x w):=by
 refine⟨h.mI,h.imp,λ g j=>(h.tL g j).imp id (Or.imp id (Or.imp ?_ id)),h.tM,h.tN.imp id λ h1 d k hl=>?_⟩
 ·rintro⟨i,b,e,f⟩;refine⟨i,?_,?_,f⟩
  ·show i<(c.au++[x]).length;rw[p_];omega
  ·show ai (c.au++[x]) i∈g;rw[sJ b];exact e
 obtain⟨i,b,e,f⟩:=h1 d k hl;refine⟨i,?_,?_,f⟩
 ·show i<(c.au++[x]).length;rw[p_];omega
 ·show ai (c.au++[x]) i=w0 c d;rw[sJ b,e]
theorem kf.set{F Fd:List (List Int)}{h:Nat}{P:List Nat}(L:kf F Fd c h P)(e:gU c.n x)(g:jZ c x=0)(hw:E2 c x w):kf F Fd (k5 c x w) h P:=by
 have i:(k5 c x w).au=c.au++[x]:=rfl;refine⟨L.aL.set e g hw,L.jK.set,⟨L.wt.qV,L.wt.qW,L.wt.tg,L.wt.uT⟩,?_,?_,L.cur,?_⟩
 ·intro d j hl a b l f;rw[i,r_ L.hle] at f;have p:h≠0:=by rintro rfl;simp at f
  rw[i,sJ (by have:=L.hle;omega),Be L.aL e,Be L.aL e,o_];have m:aH a≠aH x:=by
   have:=vQ L.aL e g (sK f)
   rwa[oP] at this
  rw[if_neg m];rcases L.rP d j hl a b l f with h1|⟨h1,o⟩
  ·exact u_ h1
  ·rw[if_neg (vQ L.aL e g h1)];exact x_ ⟨u_ h1,o⟩
 ·intro k hk d j;have:=L.rQ k hk d j;show wI ((c.au++[x]).take (gQ c.st k)) (ax c.cl d);rw[r_ (L.aL.oH k hk)];exact this
 ·rw[i,p_];have:=L.hle;omega
end
def zero(v:List Int)(xs:List Int):List Int:=xs.foldl (λ v x=>v.set (aH x) 0) v
def th(v:List (Option Nat))(xs:List Int):List (Option Nat):=xs.foldl (λ v x=>v.set (aH x) none) v
theorem C7(v:List Int):∀xs,(zero v xs).length=v.length
 |[]=>rfl
 |x::xs=>by
  show(zero (v.set (aH x) 0) xs).length=_;rw[C7 _ xs,Zg]
theorem C8(v:List (Option Nat)):∀xs,(th v xs).length=v.length
 |[]=>rfl
 |x::xs=>by
  show(th (v.set (aH x) none) xs).length=_;rw[C8 _ xs,Zg]
theorem yz:∀(xs:List Int)(v:List Int)(k:Nat),ai (zero v xs) k=if k∈xs.map aH then 0 else ai v k
 |[],v,k=>rfl
 |x::xs,v,k=>by
  show ai (zero (v.set (aH x) 0) xs) k=_;rw[yz xs,o7]
  by_cases h1:k∈xs.map aH
  ·rw[if_pos h1,if_pos (by simp[Zx];right;simpa using h1)]
  ·rw[if_neg h1]
   by_cases b:aH x=k
   ·rw[if_pos (show k∈(x::xs).map aH by simp[b])]
    by_cases c:aH x<v.length
    ·rw[if_pos ⟨b,c⟩]
    ·rw[if_neg (λ d=>c d.2)];simp[ai,y_,<-b,Yt (Nat.le_of_not_lt c)]
   ·rw[if_neg (λ d=>b d.1),if_neg];simp only[Zx,q_,not_or];exact⟨λ e=>b e.symm,h1⟩
theorem C9:∀(xs:List Int)(v:List (Option Nat))(k:Nat),¬k∈xs.map aH->mF (th v xs) k=mF v k
 |[],v,k,_=>rfl
 |x::xs,v,k,h=>by
  simp only[Zx,q_,not_or] at h;show mF (th (v.set (aH x) none) xs) k=_;rw[C9 xs _ k h.2,wG,if_neg (λ b=>h.1 b.1.symm)]
def mJ(c:Core)(level:Nat):Core:=
 {c with val:=zero c.val (c.au.drop (gQ c.st level)),j9:=th c.j9 (c.au.drop (gQ c.st level)),au:=c.au.take (gQ c.st level),st:=c.st.take level,ag:=gQ c.st level}
section
variable {c:Core}{level:Nat}
theorem E3{c:Core}{m:Nat}{x:Int}:x∈c.au.drop m↔∃k,m<=k/\k<c.au.length/\ai c.au k=x:=by
 constructor
 ·intro h;obtain⟨k,hk,e⟩:=c_.1 h;rw[ZD] at hk;refine⟨m+k,by omega,by omega,?_⟩;rw[ZK] at e;rw[ny (by omega),e]
 ·rintro⟨k,h1,b,rfl⟩;rw[ny b];refine c_.2 ⟨k-m,by rw[ZD];omega,?_⟩;rw[ZK]
  congr 1
  omega
theorem jV.split(h:jV c){m:Nat}{x:Int}(b:x∈c.au.take m):¬aH x∈(c.au.drop m).map aH:=by
 intro d;obtain⟨y,f,e⟩:=Zm.1 d;obtain⟨k,h1,g,rfl⟩:=E3.1 f;obtain⟨j,l,i,rfl⟩:=pU.1 b;have:=h.place g i e;omega
theorem Da(h:jV c)(hl:level<c.st.length){i:Nat}(d:i<gQ c.st level):lC (c.st.take level) i=lC c.st i:=by
 unfold lC
 conv=>rhs;rw[<-List.take_append_drop level c.st]
 rw[ZP];have f:(c.st.drop level).countP (λ x=>decide (x<=i))=0:=by
  rw[List.countP_eq_zero];intro a b;obtain⟨k,hk,e⟩:=c_.1 b;rw[ZD] at hk;rw[ZK] at e;have:=h.ri level (level+k) (by omega) (by omega);rw[vA (show level+k<c.st.length by omega),e] at this;simp;omega
 omega
theorem jV.back(h:jV c)(hl:level<c.st.length):jV (mJ c level):=by
 have w:=h.oH level hl;have d:(mJ c level).au=c.au.take (gQ c.st level):=rfl;have f:(mJ c level).st=c.st.take level:=rfl;have hlen:(mJ c level).au.length=gQ c.st level:=by rw[d,j_];omega
 have m:(mJ c level).st.length=level:=by rw[f,j_];omega
 refine⟨by simp[mJ,C7,h.rN],h.pM,by simp[mJ,C8,h.o8],λ x g=>h.lit x (sK g),?_,?_,?_,?_,?_,?_,?_⟩
 ·rw[d,List.map_take];exact h.nr.sublist (List.take_sublist _ _)
 ·intro v;show ai (zero c.val _) v=0\/_;simp only[mJ,yz]
  by_cases e:v∈(c.au.drop (gQ c.st level)).map aH
  ·rw[if_pos e];exact u_ rfl
  ·rw[if_neg e];exact h.uk v
 ·intro x g;have p:gU c.n x:=g;have q:(mJ c level).val=zero c.val (c.au.drop (gQ c.st level)):=rfl;have key:jZ (mJ c level) x=if aH x∈(c.au.drop (gQ c.st level)).map aH then 0 else jZ c x:=by
   unfold jZ;rw[q,yz]
   by_cases e:aH x∈(c.au.drop (gQ c.st level)).map aH
   ·rw[if_pos e,if_pos e];split<;>rfl
   ·rw[if_neg e,if_neg e]
  rw[key,d]
  by_cases e:aH x∈(c.au.drop (gQ c.st level)).map aH
  ·rw[if_pos e];constructor
   ·intro h1;omega
   ·intro h1;exact absurd e (h.split h1)
  ·rw[if_neg e,h.pos x p];constructor
   ·intro h1;obtain⟨k,hk,o⟩:=qj.1 h1;refine pU.2 ⟨k,?_,hk,o⟩;rcases l_ k (gQ c.st level) with l|l
    ·exact l
    ·exact absurd (Zm.2 ⟨x,E3.2 ⟨k,l,hk,o⟩,rfl⟩) e
   ·exact sK
 ·intro j k r hk;rw[m] at hk;rw[f,uS (by omega),uS hk];exact h.ri j k r (by omega)
 ·intro k hk;rw[m] at hk;rw[hlen,f,uS hk];exact h.ri k level (by omega) hl
 ·intro i b;rw[hlen] at b;rw[d,wH b,f,Da h hl b];exact h.mG i (by omega)
 ·intro i b;rw[hlen] at b;have s:(mJ c level).j9=th c.j9 (c.au.drop (gQ c.st level)):=rfl;have t:ai c.au i∈c.au.take (gQ c.st level):=pU.2 ⟨i,b,by omega,rfl⟩;rw[d,wH b,f,s,C9 _ _ _ (h.split t),Zl,show min i (gQ c.st level)=i by omega];have:=h.p7 i (by omega);split at this
  ·obtain⟨k,hk,e⟩:=this;have u:k<level:=by
    rcases l_ k level with h1|h1
    ·exact h1
    ·have:=h.ri level k h1 hk;omega
   exact⟨k,by rw[j_];omega,by rw[uS u];exact e⟩
  ·exact this
theorem kf.back{F Fd:List (List Int)}{h:Nat}(L:kf F Fd c h [])(hl:level<c.st.length):kf F Fd (mJ c level) (gQ c.st level) []:=by
 have C:=L.aL.oH level hl;have n:(mJ c level).au=c.au.take (gQ c.st level):=rfl;have o:(mJ c level).st=c.st.take level:=rfl;have hlen:(mJ c level).au.length=gQ c.st level:=by rw[n,j_];omega
 have u:(mJ c level).st.length=level:=by rw[o,j_];omega
 have v:∀i,lC c.st i=0->i<gQ c.st level:=λ i l=>by
  rcases l_ i (gQ c.st level) with f|f
  ·exact f
  ·have:=(um L.aL (i:=i) hl).2 f;omega
 refine⟨L.aL.back hl,⟨L.jK.mI,L.jK.imp,λ g w=>(L.jK.tL g w).imp id (Or.imp id (Or.imp ?_ id)),L.jK.tM,?_⟩,⟨L.wt.qV,L.wt.qW,L.wt.tg,L.wt.uT⟩,?_,?_,?_,by rw[hlen];exact w_ _⟩
 ·rintro⟨i,y,q,l⟩;have m:=v i l;exact⟨i,by rw[hlen];exact m,by rw[n,wH m];exact q,by rw[o,Da L.aL hl m];exact l⟩
 ·refine L.jK.tN.imp id λ h1 d p r=>?_
  obtain⟨i,y,q,l⟩:=h1 d p r;have m:i<gQ c.st level:=by
   rcases l_ i (gQ c.st level) with f|f
   ·exact f
   ·have:=(um L.aL (i:=i) hl).2 f;omega
  exact⟨i,by rw[hlen];exact m,by rw[n,wH m];exact q,by rw[o,Da L.aL hl m];exact l⟩
 ·intro d p r a b z s;rw[n,Zl,Nat.min_self] at s;right;have A: -a∈c.au.take h:=C5 s (L.cur level hl);rcases L.rP d p r a b z A with⟨h1,_⟩|⟨h1,f⟩
  ·cases h1
  ·refine⟨?_,f⟩;rw[n];obtain⟨j,D,B,e⟩:=pU.1 s;obtain⟨k,hk,l⟩:=qj.1 h1;have E:aR c a=lC c.st j:=by
    rw[<-L.aL.mG j B,e];unfold aR;rw[oP]
   have G:aR c b=lC c.st k:=by rw[<-L.aL.mG k hk,l]
   have H:¬level<lC c.st j:=λ t=>by have:=(um L.aL (i:=j) hl).1 t;omega
   have I:¬gQ c.st level<=k:=λ t=>by have:=(um L.aL (i:=k) hl).2 t;omega
   exact pU.2 ⟨k,by omega,hk,l⟩
 ·intro k hk d p;rw[u] at hk;have:=L.rQ k (by omega) d p;rw[n,o,uS hk,Zl,Nat.min_eq_left (L.aL.ri k level (by omega) hl)];exact this
 ·intro k hk;rw[u] at hk;rw[o,uS hk];exact L.aL.ri k level (by omega) hl
end
end
section
section
variable {F Fd:List (List Int)}{c:Core}
theorem oR.w{n:Nat}{l:List Int}(h:oR n l)(c:2<=l.length):ai l 0∈l/\ai l 1∈l/\ai l 0≠ai l 1/\ai l 0≠-(ai l 1):=by
 have b:=l5 (l:=l) (k:=0) (by omega);have h1:=l5 (l:=l) (k:=1) (by omega);refine⟨b,h1,λ e=>?_,λ e=>h.jC _ h1 (e▸b)⟩;rw[ny (show 0<l.length by omega),ny (show 1<l.length by omega)] at e;have:=(ZE h.nr).1 e;omega
theorem E4(L:kf F Fd c c.au.length [])(k:c.l9=false):∀d,d<c.cl.length->wI c.au (ax c.cl d):=by
 intro d b;have g:=L.jK.mI d b;have l:0<(ax c.cl d).length:=Zt.2 g.ne
 by_cases j:2<=(ax c.cl d).length
 ·obtain⟨m0,m1,m,_⟩:=g.w j;have f:=L.rP d b j;rw[show c.au.take c.au.length=c.au from e_] at f
  by_cases f0: -(w0 c d)∈c.au
  ·rcases f _ _ (u_ ⟨rfl,rfl⟩) f0 with⟨h,_⟩|⟨h,_⟩
   ·cases h
   ·exact u_ ⟨_,m1,h⟩
  ·by_cases f1: -(w1 c d)∈c.au
   ·rcases f _ _ (x_ ⟨rfl,rfl⟩) f1 with⟨h,_⟩|⟨h,_⟩
    ·cases h
    ·exact u_ ⟨_,m0,h⟩
   ·exact x_ ⟨_,m0,_,m1,m,f0,f1⟩
 ·rcases L.jK.tN with h|h
  ·rw[k] at h;cases h
  ·obtain⟨i,n,e,_⟩:=h d b (by omega);exact u_ ⟨ai (ax c.cl d) 0,l5 l,by rw[show ai (ax c.cl d) 0=w0 c d from rfl,<-e];exact l5 n⟩
def nH(c:Core):Core:={c with st:=c.st++[c.au.length]}
theorem Db(h:jV c){i:Nat}(b:i<c.au.length):lC (c.st++[c.au.length]) i=lC c.st i:=by
 unfold lC;rw[ZP];simp;omega
theorem kf.level(L:kf F Fd c c.au.length [])(r:c.l9=false):kf F Fd (nH c) c.au.length []:=by
 have l:(nH c).st=c.st++[c.au.length]:=rfl;have s:(nH c).au=c.au:=rfl;have T:=L.aL;have hlen:(nH c).st.length=c.st.length+1:=by rw[l];simp
 have f:∀k,k<c.st.length->gQ (nH c).st k=gQ c.st k:=λ k hk=>by rw[l,xI hk]
 have n:gQ (nH c).st c.st.length=c.au.length:=by rw[l,xJ]
 refine⟨⟨T.rN,T.pM,T.o8,T.lit,T.nr,T.uk,T.pos,?_,?_,?_,?_⟩,⟨L.jK.mI,L.jK.imp,λ g t=>(L.jK.tL g t).imp id (Or.imp id (Or.imp (λ⟨i,b,p,m⟩=>⟨i,b,p,by rw[l,Db T b];exact m⟩) id)),L.jK.tM,?_⟩,⟨L.wt.qV,L.wt.qW,L.wt.tg,L.wt.uT⟩,L.rP,?_,?_,w_ _⟩
 ·intro j k u hk;rw[hlen] at hk
  by_cases e:k<c.st.length
  ·rw[f j (by omega),f k e];exact T.ri j k u e
  ·obtain rfl:k=c.st.length:=by omega
   rw[n]
   by_cases m:j<c.st.length
   ·rw[f j m];exact T.oH j m
   ·obtain rfl:j=c.st.length:=by omega
    rw[n];exact w_ _
 ·intro k hk;rw[hlen] at hk
  by_cases e:k<c.st.length
  ·rw[f k e];exact T.oH k e
  ·obtain rfl:k=c.st.length:=by omega
   rw[n];exact w_ _
 ·intro i b;rw[l,Db T b];exact T.mG i b
 ·intro i b;have:=T.p7 i b;show match mF c.j9 (aH (ai c.au i)) with
   |none=>∃k,k<(nH c).st.length/\gQ (nH c).st k=i
   |some d=>d<c.cl.length/\ai c.au i∈ax c.cl d/\∀x∈ax c.cl d,x≠ai c.au i-> -x∈c.au.take i
  cases q:mF c.j9 (aH (ai c.au i)) with
  |none=>
   rw[q] at this;obtain⟨k,hk,e⟩:=this;exact⟨k,by rw[hlen];omega,by rw[f k hk];exact e⟩
  |some d=>rw[q] at this;exact this
 ·refine L.jK.tN.imp id λ h1 d o hl=>?_
  obtain⟨i,b,p,m⟩:=h1 d o hl;exact⟨i,b,p,by rw[l,Db T b];exact m⟩
 ·intro k hk d o;rw[hlen] at hk;rw[s]
  by_cases e:k<c.st.length
  ·rw[f k e];exact L.rQ k e d o
  ·obtain rfl:k=c.st.length:=by omega
   rw[n,e_];exact E4 L r d o
 ·intro k hk;rw[hlen] at hk
  by_cases e:k<c.st.length
  ·rw[f k e];exact L.cur k e
  ·obtain rfl:k=c.st.length:=by omega
   rw[n];exact w_ _
theorem kf.decide(L:kf F Fd c c.au.length [])(b:c.l9=false){x:Int}(d:gU c.n x)(e:jZ c x=0):kf F Fd (k5 (nH c) x none) c.au.length []:=by
 refine(L.level b).set (c:=nH c) d e ⟨c.st.length,?_,?_⟩
 ·show c.st.length<(c.st++[c.au.length]).length;simp
 ·exact xJ _ _
theorem yA(T:jV c)(D:rO F Fd c){M:Int->Bool}(b:tK M F):∀i,i<c.au.length->lC c.st i=0->M (ai c.au i)=true:=by
 intro i
 induction i using Yx with
 |_ i l=>
  intro m hl;have:=T.p7 i m;split at this
  ·obtain⟨k,hk,e⟩:=this;have:=(um T (i:=i) hk).2 (by omega);omega
  ·rename_i d _;obtain⟨f,r,n⟩:=this;obtain⟨y,g,hm⟩:=D.imp d f M b
   by_cases e:y=ai c.au i
   ·rw[<-e];exact hm
   ·obtain⟨j,o,p,q⟩:=pU.1 (n y g e);have h1:=l j o p (by have:=C4 (st:=c.st) (i:=j) (j:=i) (by omega);omega);rw[q,b.1 y ((D.mI d f).lt y g).oQ,hm] at h1
    cases h1
theorem Jw(T:jV c)(D:rO F Fd c)(l:c.st.length=0){d:Nat}(f:d<c.cl.length)(j:∀x∈ax c.cl d,-x∈c.au):Unsat F:=by
 intro M b;obtain⟨y,g,hm⟩:=D.imp d f M b;obtain⟨i,k,e⟩:=qj.1 (j y g);have h1:=yA T D b i k (by have:=wJ c.st i;omega);rw[e,b.1 y ((D.mI d f).lt y g).oQ,hm] at h1
 cases h1
def kL(l:List Int)(i j:Nat):List Int:=(l.set i (ai l j)).set j (ai l i)
theorem sd(l:List Int)(i j:Nat):(kL l i j).length=l.length:=by unfold kL;simp
theorem qF{l:List Int}{i j:Nat}(d:i<l.length)(e:j<l.length)(k:Nat):ai (kL l i j) k=if k=j then ai l i else if k=i then ai l j else ai l k:=by
 unfold kL;rw[o7,o7]
 by_cases h1:k=j
 ·subst h1;rw[if_pos ⟨rfl,by simpa using e⟩,if_pos rfl]
 ·rw[if_neg (λ b=>h1 b.1.symm),if_neg h1]
  by_cases c:k=i
  ·subst c;rw[if_pos ⟨rfl,d⟩,if_pos rfl]
  ·rw[if_neg (λ b=>c b.1.symm),if_neg c]
theorem wL{l:List Int}{i j:Nat}(b:i<l.length)(c:j<l.length)(x:Int):x∈kL l i j↔x∈l:=by
 rw[qj,qj,sd];constructor
 ·rintro⟨k,hk,e⟩;rw[qF b c] at e
  by_cases h1:k=j
  ·rw[if_pos h1] at e;exact⟨i,b,e⟩
  ·rw[if_neg h1] at e
   by_cases d:k=i
   ·rw[if_pos d] at e;exact⟨j,c,e⟩
   ·rw[if_neg d] at e;exact⟨k,hk,e⟩
 ·rintro⟨k,hk,e⟩
  by_cases h1:k=i
  ·refine⟨j,c,?_⟩;rw[qF b c,if_pos rfl,<-h1];exact e
  ·by_cases d:k=j
   ·refine⟨i,b,?_⟩;rw[qF b c]
    by_cases f:i=j
    ·exact absurd (d.trans f.symm) h1
    ·rw[if_neg f,if_pos rfl,<-d];exact e
   ·exact⟨k,hk,by rw[qF b c,if_neg d,if_neg h1];exact e⟩
theorem Jx{l:List Int}(h:∀i j,i<l.length->j<l.length->ai l i=ai l j->i=j):l.Nodup:=by
 rw[ZN,List.pairwise_iff_getElem];intro i j b c d e;have:=h i j b c (by rw[ny b,ny c];exact e);omega
theorem uU{l:List Int}(h:l.Nodup){i j:Nat}(b:i<l.length)(c:j<l.length)(e:ai l i=ai l j):i=j:=by
 rw[ny b,ny c] at e;exact(ZE h).1 e
theorem E5{l:List Int}{i j:Nat}(f:i<l.length)(g:j<l.length)(h:l.Nodup):(kL l i j).Nodup:=by
 refine Jx λ a b k m e=>?_
 rw[sd] at k m;rw[qF f g,qF f g] at e
 by_cases a1:a=j
 ·rw[if_pos a1] at e
  by_cases c:b=j
  ·omega
  ·rw[if_neg c] at e
   by_cases d:b=i
   ·rw[if_pos d] at e;have:=uU h f g e;omega
   ·rw[if_neg d] at e;have:=uU h f m e;omega
 ·rw[if_neg a1] at e
  by_cases a2:a=i
  ·rw[if_pos a2] at e
   by_cases c:b=j
   ·rw[if_pos c] at e;have:=uU h g f e;omega
   ·rw[if_neg c] at e
    by_cases d:b=i
    ·omega
    ·rw[if_neg d] at e;have:=uU h g m e;omega
  ·rw[if_neg a2] at e
   by_cases c:b=j
   ·rw[if_pos c] at e;have:=uU h k f e;omega
   ·rw[if_neg c] at e
    by_cases d:b=i
    ·rw[if_pos d] at e;have:=uU h k g e;omega
    ·rw[if_neg d] at e;exact uU h k m e
theorem oR.swap{n:Nat}{l:List Int}{i j:Nat}(b:i<l.length)(c:j<l.length)(h:oR n l):oR n (kL l i j):=by
 refine⟨λ e=>?_,λ x d=>h.lt x ((wL b c x).1 d),E5 b c h.nr,λ x d f=>h.jC x ((wL b c x).1 d) ((wL b c _).1 f)⟩;have:=sd l i j;rw[e] at this;simp at this;omega
def lN(c:Core)(d:Nat)(l:List Int):Core:={c with cl:=c.cl.set d l}
theorem uo(c:Core)(d e:Nat)(l:List Int):ax (lN c d l).cl e=if d=e/\d<c.cl.length then l else ax c.cl e:=qE _ _ _ _
theorem rj(c:Core)(d:Nat)(l:List Int):(lN c d l).cl.length=c.cl.length:=by simp[lN]
theorem jV.iS(h:jV c){d:Nat}{l:List Int}(hl:∀x,x∈l↔x∈ax c.cl d):jV (lN c d l):=by
 refine⟨h.rN,h.pM,h.o8,h.lit,h.nr,h.uk,h.pos,h.ri,h.oH,h.mG,λ i f=>?_⟩;have:=h.p7 i f;show match mF c.j9 (aH (ai c.au i)) with
   |none=>∃k,k<c.st.length/\gQ c.st k=i
   |some e=>e<(lN c d l).cl.length/\ai c.au i∈ax (lN c d l).cl e/\∀x∈ax (lN c d l).cl e,x≠ai c.au i-> -x∈c.au.take i
 cases b:mF c.j9 (aH (ai c.au i)) with
 |none=>rw[b] at this;exact this
 |some e=>
  rw[b] at this;show e<(lN c d l).cl.length/\ai c.au i∈ax (lN c d l).cl e/\∀x∈ax (lN c d l).cl e,x≠ai c.au i-> -x∈c.au.take i;rw[rj,uo]
  by_cases h1:d=e/\d<c.cl.length
  ·rw[if_pos h1];obtain⟨rfl,_⟩:=h1;exact⟨this.1,(hl _).2 this.2.1,λ x g=>this.2.2 x ((hl x).1 g)⟩
  ·rw[if_neg h1];exact this
theorem rO.iS(h:rO F Fd c){d:Nat}{l:List Int}(hl:∀x,x∈l↔x∈ax c.cl d)(m:d<c.cl.length->oR c.n l)(hlen:d<c.cl.length->l.length=(ax c.cl d).length):rO F Fd (lN c d l):=by
 have f:∀e x,x∈ax (lN c d l).cl e↔x∈ax c.cl e:=λ e x=>by
  rw[uo]
  by_cases h1:d=e/\d<c.cl.length
  ·rw[if_pos h1];obtain⟨rfl,_⟩:=h1;exact hl x
  ·rw[if_neg h1]
 refine⟨λ e he=>?_,λ e he M o=>?_,λ g p=>?_,h.tM,h.tN.imp id λ h1 e he hle=>?_⟩
 ·rw[rj] at he;rw[uo]
  by_cases h1:d=e/\d<c.cl.length
  ·rw[if_pos h1];exact m h1.2
  ·rw[if_neg h1];exact h.mI e he
 ·rw[rj] at he;obtain⟨y,q,hm⟩:=h.imp e he M o;exact⟨y,(f e y).2 q,hm⟩
 ·rcases h.tL g p with h1|h1|h1|⟨e,he,h1⟩
  ·exact u_ h1
  ·exact x_ (u_ h1)
  ·exact x_ (x_ (u_ h1))
  ·exact x_ (x_ (x_ ⟨e,by rw[rj];exact he,λ x=>by rw[f];exact h1 x⟩))
 ·rw[rj] at he;have r:(ax c.cl e).length=1:=by
   rw[uo] at hle
   by_cases j:d=e/\d<c.cl.length
   ·rw[if_pos j] at hle;obtain⟨rfl,b⟩:=j;rw[<-hlen b];exact hle
   ·rw[if_neg j] at hle;exact hle
  obtain⟨i,s,t,u⟩:=h1 e he r;refine⟨i,s,?_,u⟩;show ai c.au i=w0 (lN c d l) e;rw[t];have b:w0 c e∈ax (lN c d l).cl e:=(f e _).2 (l5 (by omega));have k:w0 (lN c d l) e∈ax (lN c d l).cl e:=l5 (by omega);obtain⟨z,v⟩:=List.length_eq_one_iff.1 hle;rw[v,t_] at b k;rw[b,k]
theorem E6(h:C6 c){d:Nat}{l:List Int}(hl:∀x,x∈l↔x∈ax c.cl d):C6 (lN c d l):=by
 intro k hk e he;rw[rj] at he;have:=h k hk e he;show wI (c.au.take (gQ c.st k)) (ax (lN c d l).cl e);rw[uo]
 by_cases h1:d=e/\d<c.cl.length
 ·rw[if_pos h1];obtain⟨rfl,_⟩:=h1;rcases this with⟨x,b,f⟩|⟨x,b,y,g,f⟩
  ·exact u_ ⟨x,(hl x).2 b,f⟩
  ·exact x_ ⟨x,(hl x).2 b,y,(hl y).2 g,f⟩
 ·rw[if_neg h1];exact this
end
section
variable {F Fd:List (List Int)}{c:Core}{h:Nat}{P:List Nat}{d:Nat}
theorem Jy(c:Core)(e:Nat)(b:d<c.cl.length)(g:2<=(ax c.cl d).length):(w0 (lN c d (kL (ax c.cl d) 0 1)) e=if d=e then w1 c e else w0 c e)/\(w1 (lN c d (kL (ax c.cl d) 0 1)) e=if d=e then w0 c e else w1 c e):=by
 unfold w0 w1;rw[uo]
 by_cases h1:d=e
 ·subst h1;rw[if_pos ⟨rfl,b⟩,if_pos rfl,if_pos rfl,qF (by omega) (by omega),qF (by omega) (by omega)];simp
 ·rw[if_neg (λ f=>h1 f.1),if_neg h1,if_neg h1];exact⟨rfl,rfl⟩
theorem kf.swap(L:kf F Fd c h P)(g:d<c.cl.length)(n:2<=(ax c.cl d).length):kf F Fd (lN c d (kL (ax c.cl d) 0 1)) h P:=by
 have hm:=wL (l:=ax c.cl d) (i:=0) (j:=1) (by omega) (by omega);have hw:=λ e=>Jy c e g n
 have hlen:∀e,(ax (lN c d (kL (ax c.cl d) 0 1)).cl e).length=(ax c.cl e).length:=λ e=>by
  rw[uo]
  by_cases h1:d=e/\d<c.cl.length
  ·rw[if_pos h1];obtain⟨rfl,_⟩:=h1;exact sd _ _ _
  ·rw[if_neg h1]
 refine⟨L.aL.iS hm,L.jK.iS hm (λ g=>(L.jK.mI d g).swap (by omega) (by omega)) (λ _=>sd _ _ _),⟨L.wt.qV,λ k e he=>?_,L.wt.tg,λ e he hl=>?_⟩,λ e he hl a b f o=>?_,E6 L.rQ hm,L.cur,L.hle⟩
 ·obtain⟨p,q,m⟩:=L.wt.qW k e he;refine⟨by rw[rj];exact p,by rw[hlen];exact q,?_⟩;rw[(hw e).1,(hw e).2]
  by_cases h1:d=e
  ·rw[if_pos h1,if_pos h1];exact m.symm
  ·rw[if_neg h1,if_neg h1];exact m
 ·rw[rj] at he;rw[hlen] at hl;have:=L.wt.uT e he hl;rw[(hw e).1,(hw e).2]
  by_cases h1:d=e
  ·rw[if_pos h1,if_pos h1];exact⟨this.2,this.1⟩
  ·rw[if_neg h1,if_neg h1];exact this
 ·rw[rj] at he;rw[hlen] at hl;refine L.rP e he hl a b ?_ o;unfold wK at f⊢;rw[(hw e).1,(hw e).2] at f
  by_cases h1:d=e
  ·rw[if_pos h1,if_pos h1] at f;exact f.symm
  ·rw[if_neg h1,if_neg h1] at f;exact f
def se(c:Core)(d k:Nat)(gY:List Nat):Core:=
 let x:=w1 c d;let y:=ai (ax c.cl d) k
 {lN c d (kL (ax c.cl d) 1 k) with wt:=(c.wt.set (jD (-x)) gY).set (jD (-y)) (ax c.wt (jD (-y))++[d])}
theorem kf.move{kept rest:List Nat}{k:Nat}(L:kf F Fd c h (d::rest))(u:d<c.cl.length)(hk:2<=k)(t:k<(ax c.cl d).length)(p:h≠0)(O:ai c.au (h-1)= -(w1 c d))(P:¬-(ai (ax c.cl d) k)∈c.au)(G:ax c.wt (jD (-(w1 c d)))=kept++d::rest):
  kf F Fd (se c d k (kept++rest)) h rest:=by
 have v:=L.jK.mI d u;have hm:=wL (l:=ax c.cl d) (i:=1) (j:=k) (by omega) t;obtain⟨x,r⟩:∃x,w1 c d=x:=⟨_,rfl⟩
 obtain⟨y,A⟩:∃y,ai (ax c.cl d) k=y:=⟨_,rfl⟩
 rw[r] at O G;rw[A] at P;have Q:x≠y:=λ e=>by
  have:=uU v.nr (i:=1) (j:=k) (by omega) t (by rw[show ai (ax c.cl d) 1=x from r,A,e]);omega
 have U:w0 c d≠y:=λ e=>by
  have:=uU v.nr (i:=0) (j:=k) (by omega) t (by rw[show ai (ax c.cl d) 0=w0 c d from rfl,A,e]);omega
 have V:x∈ax c.cl d:=by rw[<-r];exact l5 (by omega)
 have W:y∈ax c.cl d:=by rw[<-A];exact l5 t
 have X:=(v.lt x V)
 have Y:=(v.lt y W)
 have ah:jD (-x)≠jD (-y):=λ e=>Q (by have:=vO e;omega)
 have n:se c d k (kept++rest)={lN c d (kL (ax c.cl d) 1 k) with wt:=(c.wt.set (jD (-x)) (kept++rest)).set (jD (-y)) (ax c.wt (jD (-y))++[d])}:=by
  unfold se;rw[r,A]
 have J:∀e,w0 (se c d k (kept++rest)) e=w0 c e:=λ e=>by
  rw[n];show ai (ax (lN c d (kL (ax c.cl d) 1 k)).cl e) 0=_;rw[uo]
  by_cases h1:d=e/\d<c.cl.length
  ·rw[if_pos h1];obtain⟨rfl,_⟩:=h1;rw[qF (by omega) t,if_neg (by omega),if_neg (by omega)];rfl
  ·rw[if_neg h1];rfl
 have K:∀e,w1 (se c d k (kept++rest)) e=if d=e then y else w1 c e:=λ e=>by
  rw[n];show ai (ax (lN c d (kL (ax c.cl d) 1 k)).cl e) 1=_;rw[uo]
  by_cases h1:d=e
  ·rw[if_pos ⟨h1,u⟩,if_pos h1,qF (by omega) t,if_neg (by omega),if_pos rfl];exact A
  ·rw[if_neg (λ p=>h1 p.1),if_neg h1];rfl
 have hlen:∀e,(ax (se c d k (kept++rest)).cl e).length=(ax c.cl e).length:=λ e=>by
  rw[n];show(ax (lN c d (kL (ax c.cl d) 1 k)).cl e).length=_;rw[uo]
  by_cases h1:d=e/\d<c.cl.length
  ·rw[if_pos h1];obtain⟨rfl,_⟩:=h1;exact sd _ _ _
  ·rw[if_neg h1]
 have M:(se c d k (kept++rest)).cl.length=c.cl.length:=by rw[n];exact rj _ _ _
 have H:∀j,ax (se c d k (kept++rest)).wt j=if j=jD (-y) then ax c.wt (jD (-y))++[d] else if j=jD (-x) then kept++rest else ax c.wt j:=λ j=>by
  rw[n];show ax ((c.wt.set (jD (-x)) (kept++rest)).set (jD (-y)) (ax c.wt (jD (-y))++[d])) j=_;rw[qE,qE];have Z:jD (-x)<c.wt.length:=by rw[L.wt.qV];exact X.neg.at
  have aa:jD (-y)<c.wt.length:=by rw[L.wt.qV];exact Y.neg.at
  by_cases h1:j=jD (-y)
  ·rw[if_pos ⟨h1.symm,by simpa using aa⟩,if_pos h1]
  ·rw[if_neg (λ p=>h1 p.1.symm),if_neg h1]
   by_cases f:j=jD (-x)
   ·rw[if_pos ⟨f.symm,Z⟩,if_pos f]
   ·rw[if_neg (λ p=>f p.1.symm),if_neg f]
 have D:=L.wt.tg (jD (-x));rw[G] at D;have ab:¬d∈kept++rest:=by
  rw[Zn,Zf] at D;intro p;rcases o_.1 p with h1|h1
  ·exact D.2.2 d h1 d (by simp) rfl
  ·exact D.2.1.1 h1
 have R:¬d∈ax c.wt (jD (-y)):=λ p=>by
  obtain⟨_,_,g⟩:=L.wt.qW _ d p;rcases g with g|g
  ·have:=vO g;exact U (by omega)
  ·have:=vO g;exact Q (by omega)
 have o:=L.aL.iS hm;refine⟨by rw[n];exact⟨o.rN,o.pM,o.o8,o.lit,o.nr,o.uk,o.pos,o.ri,o.oH,o.mG,o.p7⟩,?_,⟨?_,?_,?_,?_⟩,?_,?_,L.cur,L.hle⟩
 ·have E:=L.jK.iS hm (λ u=>(L.jK.mI d u).swap (by omega) t) (λ _=>sd _ _ _);rw[n];exact⟨E.mI,E.imp,E.tL,E.tM,E.tN⟩
 ·rw[n];show((c.wt.set (jD (-x)) (kept++rest)).set (jD (-y)) (ax c.wt (jD (-y))++[d])).length=_;simp[L.wt.qV,lN]
 ·intro j e he;rw[H] at he;rw[M,hlen,J,K]
  by_cases h1:j=jD (-y)
  ·rw[if_pos h1] at he;rcases o_.1 he with f|f
   ·rw[<-h1] at f;obtain⟨g,q,s⟩:=L.wt.qW j e f;refine⟨g,q,?_⟩;have m:d≠e:=by rintro rfl;rw[h1] at f;exact R f
    rw[if_neg m];exact s
   ·rw[t_.1 f];exact⟨u,by omega,x_ (by rw[if_pos rfl];exact h1)⟩
  ·rw[if_neg h1] at he;have S:e∈ax c.wt j/\(d=e->j≠jD (-x)):=by
    by_cases f:j=jD (-x)
    ·rw[if_pos f] at he;refine⟨?_,λ m=>absurd (m▸he) ab⟩;rw[f,G];rcases o_.1 he with g|g
     ·simp[g]
     ·simp[g]
    ·rw[if_neg f] at he;exact⟨he,λ _=>f⟩
   obtain⟨g,q,s⟩:=L.wt.qW j e S.1;refine⟨g,q,?_⟩
   by_cases m:d=e
   ·rw[if_pos m];rcases s with s|s
    ·exact u_ s
    ·exact absurd (by rw[s,<-m,r]) (S.2 m)
   ·rw[if_neg m];exact s
 ·intro j;rw[H]
  by_cases h1:j=jD (-y)
  ·rw[if_pos h1,Zn];refine⟨L.wt.tg _,by simp,λ a B b ad e=>R ?_⟩;rw[t_.1 ad] at e;exact e▸B
  ·rw[if_neg h1]
   by_cases f:j=jD (-x)
   ·rw[if_pos f];refine D.sublist ?_;exact List.Sublist.append_left (List.sublist_cons_self _ _) _
   ·rw[if_neg f];exact L.wt.tg j
 ·intro e he hl;rw[M] at he;rw[hlen] at hl;have N:=L.wt.uT e he hl;rw[J,K];have keep:∀j,(d=e->j≠jD (-x))->e∈ax c.wt j->e∈ax (se c d k (kept++rest)).wt j:=λ j I h1=>by
   rw[H]
   by_cases f:j=jD (-y)
   ·rw[if_pos f,<-f];simp[h1]
   ·rw[if_neg f]
    by_cases g:j=jD (-x)
    ·rw[if_pos g];rw[g,G] at h1;have m:e≠d:=λ q=>I q.symm g
     simp only[o_,q_] at h1⊢;rcases h1 with h1|h1|h1
     ·exact u_ h1
     ·exact absurd h1 m
     ·exact x_ h1
    ·rw[if_neg g];exact h1
  by_cases m:d=e
  ·subst m;rw[if_pos rfl];refine⟨keep _ (λ _ ae=>?_) N.1,?_⟩
   ·have g:=vO ae;have q:=(v.w (by omega)).2.2.1;apply q;show w0 c d=w1 c d;rw[r];omega
   ·rw[H,if_pos rfl];simp
  ·rw[if_neg m];exact⟨keep _ (λ h1=>absurd h1 m) N.1,keep _ (λ h1=>absurd h1 m) N.2⟩
 ·intro e he hl a b C B;rw[M] at he;rw[hlen] at hl;have af:(se c d k (kept++rest)).au=c.au:=by rw[n];rfl
  have T:∀z,aR (se c d k (kept++rest)) z=aR c z:=λ z=>by rw[n];rfl
  rw[af] at B⊢;rw[T,T];unfold wK at C;rw[J,K] at C
  by_cases m:d=e
  ·subst m;rw[if_pos rfl] at C;exfalso;rcases C with⟨rfl,rfl⟩|⟨rfl,rfl⟩
   ·
    have ag:¬x∈c.au:=λ h1=>by
     have f: -x∈c.au:=by rw[<-O];exact l5 (by have:=L.hle;omega)
     exact L.aL.apart h1 f
    rcases L.rP d u hl (w0 c d) x (u_ ⟨rfl,r.symm⟩) B with⟨_,h1⟩|⟨h1,_⟩
    ·have q:=(v.w (by omega)).2.2.1;apply q;show w0 c d=w1 c d;rw[r];omega
    ·exact ag h1
   ·exact P (sK B)
  ·rw[if_neg m] at C;rcases L.rP e he hl a b C B with⟨h1,f⟩|h1
   ·left;refine⟨?_,f⟩;rcases q_.1 h1 with g|g
    ·exact absurd g.symm m
    ·exact g
   ·exact x_ h1
 ·have:=E6 L.rQ hm;intro j I e he;have g:=this j (by rw[n] at I;exact I) e (by rw[n] at he;exact he);rw[n];exact g
end
end
section
def wM(wt:List (List Nat))(l:List Int)(d:Nat):List (List Nat):=
 let w':=wt.set (jD (-(ai l 0))) (ax wt (jD (-(ai l 0)))++[d])
 w'.set (jD (-(ai l 1))) (ax w' (jD (-(ai l 1)))++[d])
def kj(c:Core)(l:List Int):Core:={c with cl:=c.cl++[l],wt:=if 2<=l.length then wM c.wt l c.cl.length else c.wt}
section
variable {F Fd:List (List Int)}{c:Core}{l:List Int}
theorem rR{d:Nat}(b:d<c.cl.length):ax (kj c l).cl d=ax c.cl d:=Bd b
theorem rS:ax (kj c l).cl c.cl.length=l:=uR _ _
theorem qG:(kj c l).cl.length=c.cl.length+1:=by simp[kj]
theorem jV.new(h:jV c):jV (kj c l):=by
 refine⟨h.rN,h.pM,h.o8,h.lit,h.nr,h.uk,h.pos,h.ri,h.oH,h.mG,λ i d=>?_⟩;have:=h.p7 i d;show match mF c.j9 (aH (ai c.au i)) with
   |none=>∃k,k<c.st.length/\gQ c.st k=i
   |some e=>e<(kj c l).cl.length/\ai c.au i∈ax (kj c l).cl e/\∀x∈ax (kj c l).cl e,x≠ai c.au i-> -x∈c.au.take i
 cases b:mF c.j9 (aH (ai c.au i)) with
 |none=>rw[b] at this;exact this
 |some e=>
  rw[b] at this;obtain⟨h1,f,g⟩:=this;show e<(kj c l).cl.length/\ai c.au i∈ax (kj c l).cl e/\∀x∈ax (kj c l).cl e,x≠ai c.au i-> -x∈c.au.take i;rw[qG,rR h1];exact⟨by omega,f,g⟩
theorem Jz(hl:oR c.n l)(g:2<=l.length)(hs:c.wt.length=2*c.n+2)(j:Nat):
  ax (wM c.wt l c.cl.length) j=if j=jD (-(ai l 0))\/j=jD (-(ai l 1)) then ax c.wt j++[c.cl.length] else ax c.wt j:=by
 obtain⟨m0,m1,i,_⟩:=hl.w g;have k:jD (-(ai l 0))≠jD (-(ai l 1)):=λ e=>i (by have:=vO e;omega)
 have aF:jD (-(ai l 0))<c.wt.length:=by rw[hs];exact(hl.lt _ m0).neg.at
 have s1:jD (-(ai l 1))<c.wt.length:=by rw[hs];exact(hl.lt _ m1).neg.at
 unfold wM;simp only[qE,Zg]
 by_cases d:j=jD (-(ai l 1))
 ·subst d;rw[if_pos ⟨rfl,s1⟩,if_pos (x_ rfl),if_neg (λ b=>k b.1)]
 ·rw[if_neg (λ b=>d b.1.symm)]
  by_cases f:j=jD (-(ai l 0))
  ·subst f;rw[if_pos ⟨rfl,aF⟩,if_pos (u_ rfl)]
  ·rw[if_neg (λ b=>f b.1.symm),if_neg (λ b=>b.elim f d)]
theorem uq{d:Nat}(b:d<c.cl.length):w0 (kj c l) d=w0 c d/\w1 (kj c l) d=w1 c d:=by
 unfold w0 w1;rw[rR b];exact⟨rfl,rfl⟩
theorem vB:w0 (kj c l) c.cl.length=ai l 0/\w1 (kj c l) c.cl.length=ai l 1:=by
 unfold w0 w1;rw[rS];exact⟨rfl,rfl⟩
theorem yy.new(h:yy c)(hl:oR c.n l):yy (kj c l):=by
 have k:∀j,ax (kj c l).wt j=if 2<=l.length/\(j=jD (-(ai l 0))\/j=jD (-(ai l 1))) then ax c.wt j++[c.cl.length] else ax c.wt j:=λ j=>by
  show ax (if 2<=l.length then wM c.wt l c.cl.length else c.wt) j=_
  by_cases m:2<=l.length
  ·rw[if_pos m,Jz hl m h.qV]
   by_cases f:j=jD (-(ai l 0))\/j=jD (-(ai l 1))
   ·rw[if_pos f,if_pos ⟨m,f⟩]
   ·rw[if_neg f,if_neg (λ p=>f p.2)]
  ·rw[if_neg m,if_neg (λ p=>m p.1)]
 refine⟨?_,λ j d g=>?_,λ j=>?_,λ d g o=>?_⟩
 ·show(if 2<=l.length then wM c.wt l c.cl.length else c.wt).length=_;split
  ·unfold wM;simp[h.qV];rfl
  ·exact h.qV
 ·rw[k] at g
  by_cases f:2<=l.length/\(j=jD (-(ai l 0))\/j=jD (-(ai l 1)))
  ·rw[if_pos f] at g;rcases o_.1 g with q|q
   ·obtain⟨i,k2,k3⟩:=h.qW j d q;rw[qG,rR i,(uq i).1,(uq i).2];exact⟨by omega,k2,k3⟩
   ·rw[t_.1 q,qG,rS,vB.1,vB.2];exact⟨by omega,f.1,f.2⟩
  ·rw[if_neg f] at g;obtain⟨i,k2,k3⟩:=h.qW j d g;rw[qG,rR i,(uq i).1,(uq i).2];exact⟨by omega,k2,k3⟩
 ·rw[k];split
  ·rw[Zn];refine⟨h.tg j,by simp,λ a r b s e=>?_⟩;rw[t_.1 s] at e;have:=(h.qW j a r).1;omega
  ·exact h.tg j
 ·rw[qG] at g
  by_cases e:d<c.cl.length
  ·rw[rR e] at o;rw[(uq e).1,(uq e).2,k,k];have:=h.uT d e o;constructor
   ·split
    ·simp[this.1]
    ·exact this.1
   ·split
    ·simp[this.2]
    ·exact this.2
  ·obtain rfl:d=c.cl.length:=by omega
   rw[rS] at o;rw[vB.1,vB.2,k,k,if_pos ⟨o,u_ rfl⟩,if_pos ⟨o,x_ rfl⟩];simp
theorem kf.new{h:Nat}{g:List Int}(L:kf F Fd c h [])(hl:oR c.n l)(r:pL F l)(s:∀x,x∈l↔x∈g)
  (t:2<=l.length->∀a b,(a=ai l 0/\b=ai l 1\/a=ai l 1/\b=ai l 0)-> -a∈c.au.take h->b∈c.au/\aR c b<=aR c a)
  (u:∀k,k<c.st.length->wI (c.au.take (gQ c.st k)) l) (hu:l.length=1->c.l9=true\/∃i,i<c.au.length/\ai c.au i=ai l 0/\lC c.st i=0):
  kf F (Fd++[g]) (kj c l) h []:=by
 refine⟨L.aL.new,⟨λ d j=>?_,λ d j=>?_,λ v w=>?_,L.jK.tM,?_⟩,L.wt.new hl,λ d j f a b m q=>?_,λ k hk d j=>?_,L.cur,L.hle⟩
 ·rw[qG] at j
  by_cases e:d<c.cl.length
  ·rw[rR e];exact L.jK.mI d e
  ·obtain rfl:d=c.cl.length:=by omega
   rw[rS];exact hl
 ·rw[qG] at j
  by_cases e:d<c.cl.length
  ·rw[rR e];exact L.jK.imp d e
  ·obtain rfl:d=c.cl.length:=by omega
   rw[rS];exact r
 ·rcases o_.1 w with h1|h1
  ·rcases L.jK.tL v h1 with f|f|f|⟨d,j,f⟩
   ·exact u_ f
   ·exact x_ (u_ f)
   ·exact x_ (x_ (u_ f))
   ·exact x_ (x_ (x_ ⟨d,by rw[qG];omega,by rw[rR j];exact f⟩))
  ·rw[t_.1 h1];exact x_ (x_ (x_ ⟨c.cl.length,by rw[qG];omega,by rw[rS];exact s⟩))
 ·by_cases o:c.l9=true
  ·exact u_ o
  ·refine x_ λ d j h1=>?_
   rw[qG] at j
   by_cases e:d<c.cl.length
   ·rw[rR e] at h1;rw[(uq e).1];exact(L.jK.tN.resolve_left o) d e h1
   ·obtain rfl:d=c.cl.length:=by omega
    rw[rS] at h1;rw[vB.1];exact(hu h1).resolve_left o
 ·rw[qG] at j;right
  by_cases e:d<c.cl.length
  ·rw[rR e] at f;unfold wK at m;rw[(uq e).1,(uq e).2] at m;rcases L.rP d e f a b m q with⟨p,_⟩|p
   ·cases p
   ·exact p
  ·obtain rfl:d=c.cl.length:=by omega
   rw[rS] at f;unfold wK at m;rw[vB.1,vB.2] at m;exact t f a b m q
 ·rw[qG] at j
  by_cases e:d<c.cl.length
  ·rw[rR e];exact L.rQ k hk d e
  ·obtain rfl:d=c.cl.length:=by omega
   rw[rS];exact u k hk
theorem kf.E7{h:Nat}{g:List Int}(L:kf F Fd c h [])(hl:oR c.n l)(p:pL F l)(D:∀x,x∈l↔x∈g)(s:jZ c (ai l 0)=0)(E:∀y∈l,y≠ai l 0-> -y∈c.au)
  (G:l.length=1->c.st.length=0) (H:2<=l.length->c.st.length<=aR c (ai l 1))
  (I:∀k,k<c.st.length->wI (c.au.take (gQ c.st k)) l):
  kf F (Fd++[g]) (k5 (kj c l) (ai l 0) (some c.cl.length)) h []:=by
 have u:0<l.length:=Zt.2 hl.ne;have r:=hl.lt _ (l5 u);have m:(k5 (kj c l) (ai l 0) (some c.cl.length)).au=c.au++[ai l 0]:=rfl;have J:=L.aL.new (l:=l)|>.set (c:=kj c l) (x:=ai l 0) (w:=some c.cl.length) r s (by
  refine⟨by rw[qG];omega,?_,?_⟩
  ·rw[rS];exact l5 u
  ·rw[rS];exact E)
 have v:∀i,i<c.au.length->ai (c.au++[ai l 0]) i=ai c.au i:=λ i p=>sJ p
 refine⟨J,⟨λ d f=>?_,λ d f=>?_,λ z K=>?_,L.jK.tM,?_⟩,?_,λ d f j a b o t=>?_,λ k hk d f=>?_,L.cur,by rw[m,p_];have:=L.hle;omega⟩
 ·have f:d<(kj c l).cl.length:=f;rw[qG] at f;show oR c.n (ax (kj c l).cl d)
  by_cases e:d<c.cl.length
  ·rw[rR e];exact L.jK.mI d e
  ·obtain rfl:d=c.cl.length:=by omega
   rw[rS];exact hl
 ·have f:d<(kj c l).cl.length:=f;rw[qG] at f;show pL F (ax (kj c l).cl d)
  by_cases e:d<c.cl.length
  ·rw[rR e];exact L.jK.imp d e
  ·obtain rfl:d=c.cl.length:=by omega
   rw[rS];exact p
 ·rcases o_.1 K with h1|h1
  ·rcases L.jK.tL z h1 with j|j|⟨i,p,j,q⟩|⟨d,f,j⟩
   ·exact u_ j
   ·exact x_ (u_ j)
   ·refine x_ (x_ (u_ ⟨i,by rw[m,p_];omega,?_,q⟩));rw[m,v i p];exact j
   ·refine x_ (x_ (x_ ⟨d,?_,?_⟩))
    ·show d<(kj c l).cl.length;rw[qG];omega
    ·show∀x,x∈ax (kj c l).cl d↔x∈z;rw[rR f];exact j
  ·rw[t_.1 h1];refine x_ (x_ (x_ ⟨c.cl.length,?_,?_⟩))
   ·show c.cl.length<(kj c l).cl.length;rw[qG];omega
   ·show∀x,x∈ax (kj c l).cl c.cl.length↔x∈g;rw[rS];exact D
 ·by_cases A:c.l9=true
  ·exact u_ A
  ·refine x_ λ d f h1=>?_
   have f:d<(kj c l).cl.length:=f;have h1:(ax (kj c l).cl d).length=1:=h1;rw[qG] at f
   by_cases e:d<c.cl.length
   ·rw[rR e] at h1;obtain⟨i,p,M,N⟩:=(L.jK.tN.resolve_left A) d e h1;refine⟨i,by rw[m,p_];omega,?_,N⟩;rw[m,v i p,M];exact(uq e).1.symm
   ·obtain rfl:d=c.cl.length:=by omega
    rw[rS] at h1;have hs:=G h1;refine⟨c.au.length,by rw[m];simp,?_,?_⟩
    ·rw[m,xH];exact vB.1.symm
    ·have:=wJ c.st c.au.length;show lC c.st c.au.length=0;omega
 ·have:=L.wt.new hl;exact⟨this.qV,this.qW,this.tg,this.uT⟩
 ·have f:d<(kj c l).cl.length:=f;have j:2<=(ax (kj c l).cl d).length:=j;have o:wK (kj c l) d a b:=o;rw[m,r_ L.hle] at t;rw[qG] at f;right;have B:aH a≠aH (ai l 0):=by
   have:=vQ L.aL r s (sK t)
   rwa[oP] at this
  have C:∀y,aR (k5 (kj c l) (ai l 0) (some c.cl.length)) y=if aH y=aH (ai l 0) then c.st.length else aR c y:=λ y=>Be (c:=kj c l) (L.aL.new) r y
  rw[C,C,if_neg B,m,o_,t_]
  by_cases e:d<c.cl.length
  ·rw[rR e] at j;unfold wK at o;rw[(uq e).1,(uq e).2] at o;rcases L.rP d e j a b o t with⟨q,_⟩|⟨q,O⟩
   ·cases q
   ·rw[if_neg (vQ L.aL r s q)];exact⟨u_ q,O⟩
  ·obtain rfl:d=c.cl.length:=by omega
   rw[rS] at j;unfold wK at o;rw[vB.1,vB.2] at o;rcases o with⟨rfl,rfl⟩|⟨rfl,rfl⟩
   ·exact absurd rfl B
   ·rw[if_pos rfl];exact⟨x_ rfl,H j⟩
 ·have f:d<(kj c l).cl.length:=f;rw[qG] at f;show wI ((c.au++[ai l 0]).take (gQ c.st k)) (ax (kj c l).cl d);rw[r_ (L.aL.oH k hk)]
  by_cases e:d<c.cl.length
  ·rw[rR e];exact L.rQ k hk d e
  ·obtain rfl:d=c.cl.length:=by omega
   rw[rS];exact I k hk
theorem kf.more{h:Nat}{P:List Nat}{g:List Int}(L:kf F Fd c h P)(b:c.l9=true\/vz g\/∃i,i<c.au.length/\ai c.au i∈g/\lC c.st i=0):kf F (Fd++[g]) c h P:=by
 refine⟨L.aL,⟨L.jK.mI,L.jK.imp,λ d e=>?_,L.jK.tM,L.jK.tN⟩,L.wt,L.rP,L.rQ,L.cur,L.hle⟩;rcases o_.1 e with h1|h1
 ·exact L.jK.tL d h1
 ·rw[t_.1 h1];rcases b with b|b|b
  ·exact u_ b
  ·exact x_ (u_ b)
  ·exact x_ (x_ (u_ b))
def wN(c:Core):Core:={c with l9:=true}
theorem kf.E8{h:Nat}{P:List Nat}(L:kf F Fd c h P)(hu:Unsat F):kf F Fd (wN c) h P:=
 ⟨⟨L.aL.rN,L.aL.pM,L.aL.o8,L.aL.lit,L.aL.nr,L.aL.uk,L.aL.pos,L.aL.ri,L.aL.oH,L.aL.mG,L.aL.p7⟩,⟨L.jK.mI,L.jK.imp,λ g _=>u_ rfl,λ _=>hu,u_ rfl⟩,⟨L.wt.qV,L.wt.qW,L.wt.tg,L.wt.uT⟩,L.rP,L.rQ,L.cur,L.hle⟩
theorem kf.same{h:Nat}{P:List Nat}{E9:List (List Int)}(L:kf F Fd c h P)(he:∀g∈E9,g∈Fd):kf F E9 c h P:=
 ⟨L.aL,⟨L.jK.mI,L.jK.imp,λ g b=>L.jK.tL g (he g b),L.jK.tM,L.jK.tN⟩,L.wt,L.rP,L.rQ,L.cur,L.hle⟩
end
section
variable {F Fd:List (List Int)}{c:Core}{h:Nat}{d:Nat}{rest:List Nat}
theorem kf.next(L:kf F Fd c h [])(l:h<c.au.length):kf F Fd {c with ag:=h+1} (h+1) (ax c.wt (jD (ai c.au h))):=by
 refine⟨⟨L.aL.rN,L.aL.pM,L.aL.o8,L.aL.lit,L.aL.nr,L.aL.uk,L.aL.pos,L.aL.ri,L.aL.oH,L.aL.mG,L.aL.p7⟩,⟨L.jK.mI,L.jK.imp,L.jK.tL,L.jK.tM,L.jK.tN⟩,⟨L.wt.qV,L.wt.qW,L.wt.tg,L.wt.uT⟩,λ e he hl a b g m=>?_,L.rQ,λ k hk=>Nat.le_succ_of_le (L.cur k hk),l⟩;obtain⟨j,h1,n,d⟩:=pU.1 m
 by_cases o:j<h
 ·rcases L.rP e he hl a b g (pU.2 ⟨j,o,n,d⟩) with⟨f,_⟩|f
  ·cases f
  ·exact x_ f
 ·obtain rfl:j=h:=by omega
  left;refine⟨?_,d⟩;have i:=L.wt.uT e he hl;rw[d];rcases g with⟨rfl,rfl⟩|⟨rfl,rfl⟩
  ·exact i.1
  ·exact i.2
theorem kf.kept(L:kf F Fd c h (d::rest))(o:d<c.cl.length)(p:2<=(ax c.cl d).length)(C:h≠0)(q:ai c.au (h-1)= -(w1 c d))(g:w0 c d∈c.au)(r:∀k,k<c.st.length->gQ c.st k<=h-1):kf F Fd c h rest:=by
 have s:=L.jK.mI d o;refine⟨L.aL,L.jK,L.wt,λ e he hl a b m f=>?_,L.rQ,L.cur,L.hle⟩
 by_cases n:e=d
 ·subst n;right;obtain⟨m0,m1,D,_⟩:=s.w p;rcases m with⟨rfl,rfl⟩|⟨rfl,rfl⟩
  ·exact absurd (sK f) (L.aL.apart g)
  ·refine⟨g,?_⟩;have t:h-1<c.au.length:=by have:=L.hle;omega
   obtain⟨i,u,v⟩:=qj.1 g;have y:aR c (w0 c e)=lC c.st i:=by rw[<-L.aL.mG i u];rw[<-v]
   have z:aR c (w1 c e)=lC c.st (h-1):=by
    rw[<-L.aL.mG _ t,q];unfold aR;rw[oP]
   have A:lC c.st (h-1)=c.st.length:=by
    unfold lC;rw[Yr];intro a f;obtain⟨k,hk,e⟩:=c_.1 f;have:=r k hk;rw[vA hk,e] at this;simpa using this
   rw[y,z,A];exact wJ _ _
 ·rcases L.rP e he hl a b m f with⟨j,B⟩|j
  ·rcases q_.1 j with l|l
   ·exact absurd l n
   ·exact u_ ⟨l,B⟩
  ·exact x_ j
theorem kf.low{P:List Nat}(L:kf F Fd c h P)(p:h≠0)(g:∀k,k<c.st.length->gQ c.st k<=h-1):kf F Fd c (h-1) []:=by
 refine⟨L.aL,L.jK,L.wt,λ e he hl a b l d=>?_,L.rQ,g,by have:=L.hle;omega⟩;right;rcases L.rP e he hl a b l (C5 d (by omega)) with⟨f,m⟩|f
 ·exfalso;obtain⟨j,q,n,o⟩:=pU.1 d;have:=L.aL.place (i:=h-1) (j:=j) (by have:=L.hle;omega) n (by rw[m,o]);omega
 ·exact f
end
theorem JA{F Fd:List (List Int)}{c:Core}(L:kf F Fd c c.au.length [])(l:c.l9=false)(m:∀x,gU c.n x->jZ c x≠0){M:Int->Bool}(o:Mod M)(hm:∀x,gU c.n x->(M x=true↔jZ c x=1))(hF:∀g∈Fd,∀x∈g,gU c.n x):∀g∈Fd,uj M g:=by
 intro g j;have T:=L.aL;rcases L.jK.tL g j with h|h|⟨i,p,h,_⟩|⟨d,k,h⟩
 ·rw[l] at h;cases h
 ·exact h.Jr o
 ·refine⟨_,h,?_⟩;rw[hm _ (hF g j _ h)];exact(T.pos _ (hF g j _ h)).2 (l5 p)
 ·rcases E4 L l d k with⟨x,f,q⟩|⟨x,f,y,t,u,h1,v⟩
  ·have e:=(L.jK.mI d k).lt x f;exact⟨x,(h x).1 f,(hm x e).2 ((T.pos x e).2 q)⟩
  ·have e:=(L.jK.mI d k).lt x f;refine⟨x,(h x).1 f,(hm x e).2 ?_⟩;have b:=T.range x;have r:=m x e;have s:=T.xK e;rcases b with b|b|b
   ·exact absurd b r
   ·exact b
   ·exact absurd (s.1 b) h1
end
section
structure uV(F:List (List Int))(c:Core)(l:List Int)(level:Nat):Prop where
 ok:oR c.n l
 imp:pL F l
 Bf:∀x∈l,-x∈c.au
 top:aR c (ai l 0)=c.st.length
 JB:∀k,1<=k->k<l.length->aR c (ai l k)<=level
 mG:level<c.st.length
 snd:2<=l.length->aR c (ai l 1)=level
 one:l.length=1->level=0
section
variable {F Fd:List (List Int)}{c:Core}{l:List Int}{level:Nat}
theorem jV.at(T:jV c){x:Int}(d: -x∈c.au):∃j,j<c.au.length/\ai c.au j= -x/\lC c.st j=aR c x:=by
 obtain⟨j,b,e⟩:=qj.1 d;refine⟨j,b,e,?_⟩;rw[<-T.mG j b,e];unfold aR;rw[oP]
theorem uV.low(L:uV F c l level)(T:jV c):∀x∈l,x≠ai l 0-> -x∈c.au.take (gQ c.st level):=by
 intro x b d;obtain⟨k,hk,e⟩:=qj.1 b;have f:1<=k:=by
  rcases Zc k with h|h
  ·subst h;exact absurd e.symm d
  ·exact h
 have h1:=L.JB k f hk;rw[e] at h1;obtain⟨j,g,m,o⟩:=T.at (L.Bf x b);have p:¬gQ c.st level<=j:=λ n=>by have:=(um T (i:=j) L.mG).2 n;omega
 exact pU.2 ⟨j,by omega,g,m⟩
theorem uV.fresh(L:uV F c l level)(T:jV c):jZ (mJ c level) (ai l 0)=0:=by
 have b:0<l.length:=Zt.2 L.ok.ne;have hm:=l5 b;have d:=L.ok.lt _ hm;rw[(T.back L.mG).open d];have f:(mJ c level).au=c.au.take (gQ c.st level):=rfl;rw[f];refine⟨λ h=>T.apart (sK h) (L.Bf _ hm),λ h=>?_⟩;obtain⟨j,h1,g,k⟩:=pU.1 h;have e:aR c (ai l 0)=lC c.st j:=by
  rw[<-T.mG j g,k];unfold aR;rw[oP]
 have m:level<lC c.st j:=by rw[<-e,L.top];exact L.mG
 have:=(um T (i:=j) L.mG).1 m;omega
def zL(c:Core)(l:List Int)(level:Nat):Core:=k5 (kj (mJ c level) l) (ai l 0) (some c.cl.length)
theorem kf.keep{h:Nat}(G:kf F Fd c h [])(L:uV F c l level):kf F Fd (zL c l level) (gQ c.st level) []:=by
 have B:=G.back L.mG;have t:(mJ c level).au=c.au.take (gQ c.st level):=rfl;have r:(mJ c level).st=c.st.take level:=rfl;have f:(mJ c level).st.length=level:=by rw[r,j_];have:=L.mG;omega
 have u:=L.low G.aL;refine(B.E7 (g:=l) L.ok L.imp (λ _=>Iff.rfl) (L.fresh G.aL) u (λ h1=>by rw[f];exact L.one h1) (λ b=>by rw[f];exact Nat.le_of_eq (L.snd b).symm) ?_).same (λ g v=>by simp[v]);intro k hk;rw[f] at hk;have b:2<=l.length:=by
  have z:0<l.length:=Zt.2 L.ok.ne;rcases l_ l.length 2 with d|d
  ·have:=L.one (by omega);omega
  ·exact d
 obtain⟨m0,m1,y,_⟩:=L.ok.w b;have s:∀x∈((mJ c level).au.take (gQ (mJ c level).st k)),x∈c.au.take (gQ c.st k):=λ x m=>by
  rw[t,r,uS hk] at m;rw[Zl] at m;exact C5 m (by omega)
 have n:k<c.st.length:=by have:=L.mG;omega
 refine x_ ⟨_,m0,_,m1,y,λ o=>?_,λ o=>?_⟩
 ·obtain⟨j,d,p,q⟩:=pU.1 (s _ o);have e:aR c (ai l 0)=lC c.st j:=by rw[<-G.aL.mG j p,q];unfold aR;rw[oP]
  have:=(um G.aL (i:=j) n).1 (by rw[<-e,L.top];exact n);omega
 ·obtain⟨j,d,p,q⟩:=pU.1 (s _ o);have e:aR c (ai l 1)=lC c.st j:=by rw[<-G.aL.mG j p,q];unfold aR;rw[oP]
  have:=(um G.aL (i:=j) n).1 (by rw[<-e,L.snd b];exact hk);omega
theorem uV.new{h:Nat}(G:kf F Fd c h [])(L:uV F c l level):∀d,d<c.cl.length->¬∀x,x∈ax c.cl d↔x∈l:=by
 intro d i b;have g:=L.low G.aL;rcases G.rQ level L.mG d i with⟨x,f,j⟩|⟨x,f,y,k,m,h1,n⟩
 ·exact G.aL.apart (sK j) (L.Bf x ((b x).1 f))
 ·have ex:x=ai l 0:=by
   rcases ZF (x=ai l 0) with e|e
   ·exact e
   ·exact absurd (g x ((b x).1 f) e) h1
  have o:y=ai l 0:=by
   rcases ZF (y=ai l 0) with e|e
   ·exact e
   ·exact absurd (g y ((b y).1 k) e) n
  exact m (ex.trans o.symm)
end
def rT(l:List Int)(v:Nat):Nat:=if ((v:Int)∈l) then 1 else if (-(v:Int)∈l) then 2 else 0
def sg(l:List Int):Nat->Nat
 |0=>0
 |n+1=>sg l n+3^n*rT l (n+1)
theorem JC(l:List Int)(v:Nat):rT l v<=2:=by unfold rT;split<;>(try split)<;>omega
theorem Bg(l:List Int):∀n,sg l n<3^n
 |0=>by simp[sg]
 |n+1=>by
  have h1:=Bg l n;have b:=JC l (n+1);have c:3^n*rT l (n+1)<=3^n*2:=Nat.mul_le_mul_left _ b;rw[sg,Nat.pow_succ];omega
theorem Dc{l l':List Int}:∀n,sg l n=sg l' n->∀v,1<=v->v<=n->rT l v=rT l' v
 |0,_,v,h1,c=>by omega
 |n+1,h,v,h1,c=>by
  rw[sg,sg] at h;have a:=Bg l n;have b:=Bg l' n;have e:rT l (n+1)=rT l' (n+1):=by
   have d:(sg l n+3^n*rT l (n+1))/3^n=rT l (n+1):=by
    rw[Nat.add_mul_div_left _ _ (Nat.pow_pos (by omega)),Nat.div_eq_of_lt a,ZG]
   have f:(sg l' n+3^n*rT l' (n+1))/3^n=rT l' (n+1):=by
    rw[Nat.add_mul_div_left _ _ (Nat.pow_pos (by omega)),Nat.div_eq_of_lt b,ZG]
   rw[<-d,h,f]
  rcases l_ v (n+1) with g|g
  ·exact Dc n (by rw[e] at h;omega) v h1 (by omega)
  ·obtain rfl:v=n+1:=by omega
   exact e
theorem JD{l':List Int}(h:oR n l)(h':oR n l')(e:sg l n=sg l' n):∀x,x∈l↔x∈l':=by
 have key:∀{a b:List Int},oR n a->oR n b->(∀v,1<=v->v<=n->rT a v=rT b v)->∀x∈a,x∈b:=by
  intro a b i o d x f;have hl:=i.lt x f;have h1:=d (aH x) hl.1 hl.2;unfold rT at h1;rcases Int.lt_or_le x 0 with k|k
  ·have m:(-((aH x:Nat):Int))=x:=by unfold aH;omega
   have g:((aH x:Nat):Int)= -x:=by unfold aH;omega
   rw[m,g,if_neg (i.jC x f),if_pos f] at h1
   by_cases c: -x∈b
   ·rw[if_pos c] at h1;cases h1
   ·rw[if_neg c] at h1
    by_cases j:x∈b
    ·exact j
    ·rw[if_neg j] at h1;cases h1
  ·have g:((aH x:Nat):Int)=x:=by unfold aH;omega
   rw[g,if_pos f] at h1
   by_cases c:x∈b
   ·exact c
   ·rw[if_neg c] at h1;split at h1<;>cases h1
 have d:=Dc n e;exact λ x=>⟨key h h' d x,key h' h (λ v a b=>(d v a b).symm) x⟩
theorem JE(h:oR n l):sg l n≠0:=by
 intro e;have c:∀m,sg [] m=0:=by
  intro m
  induction m with
  |zero=>rfl
  |succ m d=>rw[sg,d];simp[rT]
 have f:=Dc (l:=l) (l':=[]) n (by rw[e,c]);obtain⟨x,b⟩:=List.exists_mem_of_ne_nil _ h.ne;have hl:=h.lt x b;have h1:=f (aH x) hl.1 hl.2;unfold rT at h1;simp only[List.not_mem_nil,if_false] at h1;rcases Int.lt_or_le x 0 with g|g
 ·have i:(-((aH x:Nat):Int))=x:=by unfold aH;omega
  rw[i,if_pos b] at h1;split at h1<;>cases h1
 ·have j:((aH x:Nat):Int)=x:=by unfold aH;omega
  rw[j,if_pos b] at h1
  cases h1
theorem xL:∀(m:Nat)(l:List Nat),l.Nodup->(∀x∈l,x<m)->l.length<=m
 |0,l,_,h=>by
  cases l with
  |nil=>simp
  |cons a r=>have:=h a (by simp);omega
 |m+1,l,b,h=>by
  have h1:=xL m (l.filter λ x=>x !=m) (b.sublist List.filter_sublist) (λ x c=>by
   obtain⟨d,f⟩:=ZV.1 c;have:=h x d;have:x≠m:=by simpa using f
   omega)
  have d:l.length<=(l.filter λ x=>x !=m).length+1:=by
   clear h h1
   induction l with
   |nil=>simp
   |cons a r g=>
    rw[Zf] at b
    by_cases e:a=m
    ·subst e;have:(r.filter λ x=>x !=a)=r:=List.filter_eq_self.2 λ x c=>by
      simp only[bne_iff_ne,ne_eq];rintro rfl;exact b.1 c
     simp[List.filter_cons,this]
    ·have:=g b.2;simp[List.filter_cons,e];omega
  omega
theorem Fa(c:∀l∈ls,oR n l)(d:ls.Pairwise λ a b=>¬∀x,x∈a↔x∈b):ls.length+1<=3^n:=by
 have f:(0::ls.map λ l=>sg l n).Nodup:=by
  rw[Zf];refine⟨λ h=>?_,?_⟩
  ·obtain⟨l,hl,e⟩:=Zm.1 h;exact JE (c l hl) e
  ·rw[ZN];rw[List.pairwise_map];exact d.imp_of_mem λ g i h e=>h (JD (c _ g) (c _ i) e)
 have:=xL (3^n) _ f (λ x j=>by
  rcases q_.1 j with h|h
  ·subst h;exact Nat.pow_pos (by omega)
  ·obtain⟨l,_,rfl⟩:=Zm.1 h;exact Bg l n)
 simpa using this
structure nI(c:Core)(jL:List Int):Prop where
 ind:∀k,k<c.st.length->k<jL.length->ai jL k∈c.au.take (if k+1<c.st.length then gQ c.st (k+1) else c.au.length)
 dec:∀i,i<c.au.length->mF c.j9 (aH (ai c.au i))=none->∃k,k<c.st.length/\gQ c.st k=i/\(k<jL.length->ai c.au i=ai jL k)
section
variable {c:Core}{jL:List Int}
theorem nI.same{c':Core}(h:nI c jL)(h1:c'.au=c.au)(b:c'.st=c.st)(d:c'.j9=c.j9):nI c' jL:=
 ⟨by rw[h1,b];exact h.ind,by rw[h1,b,d];exact h.dec⟩
theorem nI.set(h:nI c jL)(T:jV c){x:Int}{d:Nat}(f:gU c.n x)(g:jZ c x=0):nI (k5 c x (some d)) jL:=by
 have b:(k5 c x (some d)).au=c.au++[x]:=rfl;refine⟨λ k hk j=>?_,λ i l hw=>?_⟩
 ·have:=h.ind k hk j;show ai jL k∈(c.au++[x]).take (if k+1<c.st.length then gQ c.st (k+1) else (c.au++[x]).length);split
  ·rename_i h1;rw[if_pos h1] at this;rw[r_ (T.oH _ h1)];exact this
  ·rename_i h1;rw[if_neg h1,e_] at this;rw[e_];simp[this]
 ·rw[b,p_,a_] at l;have m:(k5 c x (some d)).j9=c.j9.set (aH x) (some d):=rfl;have hl:aH x<c.j9.length:=by rw[T.o8];have:=f.2;omega
  rw[m,b] at hw
  by_cases e:i<c.au.length
  ·rw[sJ e,wG,if_neg (λ o=>vQ T f g (l5 e) o.1.symm)] at hw;rw[b,sJ e];exact h.dec i e hw
  ·obtain rfl:i=c.au.length:=by omega
   rw[xH,wG,if_pos ⟨rfl,hl⟩] at hw
   cases hw
theorem nI.back(h:nI c jL)(T:jV c){level:Nat}(hl:level<c.st.length):nI (mJ c level) jL:=by
 have o:=T.oH level hl;have b:(mJ c level).au=c.au.take (gQ c.st level):=rfl;have f:(mJ c level).st=c.st.take level:=rfl;have hlen:(mJ c level).au.length=gQ c.st level:=by rw[b,j_];omega
 have g:(mJ c level).st.length=level:=by rw[f,j_];omega
 refine⟨λ k hk l=>?_,λ i d hw=>?_⟩
 ·rw[g] at hk;have:=h.ind k (by omega) l;rw[g,hlen,b,f,Zl];rw[if_pos (show k+1<c.st.length by omega)] at this
  by_cases h1:k+1<level
  ·rw[if_pos h1,uS h1,Nat.min_eq_left (T.ri _ _ (by omega) hl)];exact this
  ·rw[if_neg h1,Nat.min_self,show level=k+1 by omega];exact this
 ·rw[hlen] at d;have m:(mJ c level).j9=th c.j9 (c.au.drop (gQ c.st level)):=rfl;rw[b,wH d,m,C9 _ _ _ (T.split (pU.2 ⟨i,d,by omega,rfl⟩))] at hw;obtain⟨k,hk,e,n⟩:=h.dec i (by omega) hw;have j:k<level:=by
   rcases l_ k level with h1|h1
   ·exact h1
   ·have:=T.ri level k h1 hk;omega
  exact⟨k,by rw[g];exact j,by rw[f,uS j];exact e,by rw[b,wH d];exact n⟩
theorem nI.level(h:nI c jL)(T:jV c)(g:c.st.length<jL.length->ai jL c.st.length∈c.au):nI (nH c) jL:=by
 have d:(nH c).st=c.st++[c.au.length]:=rfl;have hlen:(nH c).st.length=c.st.length+1:=by rw[d];simp
 have j:(nH c).au=c.au:=rfl;refine⟨λ k hk f=>?_,λ i l hw=>?_⟩
 ·rw[hlen] at hk;rw[hlen,j]
  by_cases h1:k<c.st.length
  ·have:=h.ind k h1 f;rw[if_pos (by omega)]
   by_cases b:k+1<c.st.length
   ·rw[if_pos b] at this;rw[d,xI b];exact this
   ·rw[if_neg b] at this;rw[show k+1=c.st.length by omega,d,xJ];exact this
  ·obtain rfl:k=c.st.length:=by omega
   rw[if_neg (by omega),e_];exact g f
 ·obtain⟨k,hk,e,b⟩:=h.dec i l hw;exact⟨k,by rw[hlen];omega,by rw[d,xI hk];exact e,b⟩
theorem nI.decide(h:nI c jL)(T:jV c){x:Int}(m:gU c.n x)(o:jZ c x=0)(j:c.st.length<jL.length->x=ai jL c.st.length):nI (k5 (nH c) x none) jL:=by
 have d:(k5 (nH c) x none).st=c.st++[c.au.length]:=rfl;have hlen:(k5 (nH c) x none).st.length=c.st.length+1:=by rw[d];simp
 have f:(k5 (nH c) x none).au=c.au++[x]:=rfl;refine⟨λ k hk l=>?_,λ i p hw=>?_⟩
 ·rw[hlen] at hk;rw[hlen,f]
  by_cases h1:k<c.st.length
  ·have:=h.ind k h1 l;rw[if_pos (by omega)]
   by_cases b:k+1<c.st.length
   ·rw[if_pos b] at this;rw[d,xI b,r_ (T.oH _ b)];exact this
   ·rw[if_neg b] at this;rw[show k+1=c.st.length by omega,d,xJ,r_ (w_ _)];exact this
  ·obtain rfl:k=c.st.length:=by omega
   rw[if_neg (by omega),e_,<-j l];simp
 ·rw[f,p_,a_] at p;have q:(k5 (nH c) x none).j9=c.j9.set (aH x) none:=rfl;rw[q,f] at hw
  by_cases e:i<c.au.length
  ·rw[sJ e,wG,if_neg (λ r=>vQ T m o (l5 e) r.1.symm)] at hw;obtain⟨k,hk,s,b⟩:=h.dec i e hw;refine⟨k,by rw[hlen];omega,by rw[d,xI hk];exact s,λ g=>?_⟩;rw[f,sJ e];exact b g
  ·obtain rfl:i=c.au.length:=by omega
   refine⟨c.st.length,by rw[hlen];omega,by rw[d,xJ],λ g=>?_⟩;rw[f,xH];exact j g
theorem nI.keep(h:nI c jL){F:List (List Int)}{l:List Int}{level:Nat}(T:jV c)(L:uV F c l level):nI (zL c l level) jL:=by
 have b:0<l.length:=Zt.2 L.ok.ne;have h1:=(h.back T L.mG)
 have d:nI (kj (mJ c level) l) jL:=h1.same rfl rfl rfl;exact d.set ((T.back L.mG).new) (L.ok.lt _ (l5 b)) (L.fresh T)
theorem nI.all(h:nI c jL)(hl:jL.length<=c.st.length):∀x∈jL,x∈c.au:=by
 intro x b;obtain⟨k,hk,e⟩:=qj.1 b;have:=h.ind k (by omega) hk;rw[e] at this;exact sK this
end
end
section
def jE(l:List Bool)(k:Nat):Bool:=l.getD k false
theorem Bh{l:List Bool}(h:k<l.length):jE l k=l[k]:=by simp[jE,y_,v_ h]
theorem zM(l:List Bool)(k j:Nat)(x:Bool):jE (l.set k x) j=if k=j/\k<l.length then x else jE l j:=by
 simp only[jE,y_,Zo]
 by_cases h:k=j
 ·subst h
  by_cases b:k<l.length
  ·simp[b]
  ·simp[b]
 ·simp[h]
def o9(c:Core)(aN:List Bool)(j:Nat):Bool:=decide (lC c.st j=c.st.length)&&jE aN (aH (ai c.au j))
def nt(c:Core)(aN:List Bool)(i:Nat):Nat:=(Yp i).countP (o9 c aN)
theorem zN(c:Core)(aN:List Bool)(i:Nat):nt c aN (i+1)=nt c aN i+if o9 c aN i=true then 1 else 0:=by
 unfold nt;rw[List.range_succ,ZP];simp[List.countP_cons]
theorem Bi{c:Core}{aN:List Bool}:0<nt c aN i↔∃j,j<i/\o9 c aN j=true:=by
 unfold nt;rw[List.countP_pos_iff];exact⟨λ⟨j,h1,b⟩=>⟨j,ZT.1 h1,b⟩,λ⟨j,h1,b⟩=>⟨j,ZT.2 h1,b⟩⟩
structure oB(F:List (List Int))(c:Core)(i:Nat)(aN:List Bool)(aL ex:List Int):Prop where
 tO:aN.length=c.n+1
 qX:i<=c.au.length
 ur:∀x∈aL,-x∈c.au/\1<=aR c x/\aR c x<c.st.length/\jE aN (aH x)=true
 xM:aL.Nodup
 wO:∀x,-x∈c.au->jE aN (aH x)=true->x∈aL\/aR c x=c.st.length
 zO:∀v,jE aN v=true->∃x,-x∈c.au/\aH x=v
 xN:∀y∈ex,-y∈c.au.take i
 wP:∀y∈ex,gU c.n y
 uu:∀M,tK M F->(∃y∈ex,M y=true)\/(∃x∈aL,M x=true)\/∃j,j<i/\o9 c aN j=true/\M (-(ai c.au j))=true
 act:∃j,j<i/\lC c.st j=c.st.length/\(jE aN (aH (ai c.au j))=true\/ -(ai c.au j)∈ex)
section
variable {F Fd:List (List Int)}{c:Core}{i:Nat}{aN:List Bool}{aL ex:List Int}
theorem Bj(n:Nat)(v:Nat):jE (ZS n false) v=false:=by
 simp only[jE,y_,List.getElem?_replicate];split<;>rfl
theorem JF(T:jV c)(hs:0<c.st.length){j:Nat}(b:gQ c.st (c.st.length-1)<=j):lC c.st j=c.st.length:=by
 have h1:=(um T (i:=j) (k:=c.st.length-1) (by omega)).2 b;have:=wJ c.st j;omega
theorem oB.start{h:Nat}{d:Nat}(G:kf F Fd c h [])(hs:0<c.st.length)(g:d<c.cl.length)(i:∀x∈ax c.cl d,-x∈c.au):oB F c c.au.length (ZS (c.n+1) false) [] (ax c.cl d):=by
 refine⟨by simp,w_ _,λ x b=>by(cases b),List.nodup_nil,λ x _ h1=>?_,λ v h1=>?_,λ y f=>by rw[e_];exact i y f,λ y f=>(G.jK.mI d g).lt y f,λ M l=>u_ (G.jK.imp d g M l),?_⟩
 ·rw[Bj] at h1;cases h1
 ·rw[Bj] at h1;cases h1
 ·have key:∀x∈ax c.cl d,¬-x∈c.au.take (gQ c.st (c.st.length-1))->∃j,j<c.au.length/\lC c.st j=c.st.length/\(jE (ZS (c.n+1) false) (aH (ai c.au j))=true\/ -(ai c.au j)∈ax c.cl d):=by
   intro x b m;obtain⟨j,k,e,_⟩:=G.aL.at (i x b);refine⟨j,k,JF G.aL hs ?_,x_ ?_⟩
   ·rcases l_ j (gQ c.st (c.st.length-1)) with h1|h1
    ·exact absurd (pU.2 ⟨j,h1,k,e⟩) m
    ·exact h1
   ·rw[e,Yv];exact b
  rcases G.rQ (c.st.length-1) (by omega) d g with⟨x,b,o⟩|⟨x,b,y,f,_,h1,_⟩
  ·exact absurd (sK o) (λ h1=>G.aL.apart h1 (i x b))
  ·exact key x b h1
theorem oB.drop{y:Int}(T:jV c)(D:rO F Fd c)(h:oB F c i aN aL (y::ex))(hs:0<c.st.length)(l:aR c y=0):oB F c i aN aL ex:=by
 have m:=h.xN y (by simp);obtain⟨j,h1,f,g⟩:=pU.1 m;have n:lC c.st j=0:=by rw[<-T.mG j f,g];unfold aR;rw[oP];exact l
 refine⟨h.tO,h.qX,h.ur,h.xM,h.wO,h.zO,λ z b=>h.xN z (by simp[b]),λ z b=>h.wP z (by simp[b]),λ M d=>?_,?_⟩
 ·rcases h.uu M d with⟨z,b,hm⟩|o
  ·rcases q_.1 b with e|e
   ·subst e;have:=yA T D d j f n;rw[g,d.1 z (h.wP z (by simp)).oQ,hm] at this
    cases this
   ·exact u_ ⟨z,e,hm⟩
  ·exact x_ o
 ·obtain⟨k,p,k2,k3⟩:=h.act;refine⟨k,p,k2,k3.imp id λ q=>?_⟩;rcases q_.1 q with e|e
  ·exfalso;have hk:k<c.au.length:=by have:=h.qX;omega
   have:aR c y=lC c.st k:=by rw[<-e,<-T.mG k hk];unfold aR;rw[oP]
   omega
  ·exact e
theorem oB.seen{y:Int}(T:jV c)(h:oB F c i aN aL (y::ex))(hs:jE aN (aH y)=true):oB F c i aN aL ex:=by
 have f:=h.xN y (by simp);obtain⟨j,h1,m,g⟩:=pU.1 f;have l:aH (ai c.au j)=aH y:=by rw[g,oP]
 refine⟨h.tO,h.qX,h.ur,h.xM,h.wO,h.zO,λ z b=>h.xN z (by simp[b]),λ z b=>h.wP z (by simp[b]),λ M n=>?_,?_⟩
 ·rcases h.uu M n with⟨z,b,hm⟩|o
  ·rcases q_.1 b with e|e
   ·subst e;rcases h.wO z (sK f) hs with d|d
    ·exact x_ (u_ ⟨z,d,hm⟩)
    ·refine x_ (x_ ⟨j,h1,?_,?_⟩)
     ·unfold o9;rw[l,hs,Z6,decide_eq_true_iff,<-d,<-T.mG j m];unfold aR;rw[l]
     ·rw[g,Yv];exact hm
   ·exact u_ ⟨z,e,hm⟩
  ·exact x_ o
 ·obtain⟨k,p,k2,k3⟩:=h.act;refine⟨k,p,k2,?_⟩;rcases k3 with k3|q
  ·exact u_ k3
  ·rcases q_.1 q with e|e
   ·left;have:aH (ai c.au k)=aH y:=by rw[<-e,oP]
    rw[this];exact hs
   ·exact x_ e
theorem Bk{c:Core}{aN:List Bool}{y:Int}(b:aN.length=c.n+1)(hl:gU c.n y)(v:Nat):jE (aN.set (aH y) true) v=if aH y=v then true else jE aN v:=by
 rw[zM];have:aH y<aN.length:=by rw[b];have:=hl.2;omega
 by_cases e:aH y=v
 ·rw[if_pos ⟨e,this⟩,if_pos e]
 ·rw[if_neg (λ d=>e d.1),if_neg e]
theorem oB.mark{y:Int}(T:jV c)(h:oB F c i aN aL (y::ex))(hs:jE aN (aH y)=false)(W:aR c y≠0):
  (aR c y=c.st.length->oB F c i (aN.set (aH y) true) aL ex/\nt c (aN.set (aH y) true) i=nt c aN i+1)/\
  (aR c y≠c.st.length->oB F c i (aN.set (aH y) true) (aL++[y]) ex/\nt c (aN.set (aH y) true) i=nt c aN i):=by
 have A:=h.xN y (by simp);have O:=h.wP y (by simp);obtain⟨j,h1,C,G⟩:=pU.1 A;have B:aH (ai c.au j)=aH y:=by rw[G,oP]
 have H:lC c.st j=aR c y:=by rw[<-T.mG j C];unfold aR;rw[B]
 have n:=Bk (c:=c) h.tO O;have s:∀v,jE aN v=true->jE (aN.set (aH y) true) v=true:=λ v t=>by rw[n];split;rfl;exact t
 have I:∀k,k<c.au.length->o9 c (aN.set (aH y) true) k=if k=j then decide (aR c y=c.st.length) else o9 c aN k:=by
  intro k hk;unfold o9;rw[n]
  by_cases e:k=j
  ·subst e;rw[if_pos B.symm,if_pos rfl,Z6,H]
  ·rw[if_neg e]
   by_cases f:aH y=aH (ai c.au k)
   ·exact absurd (T.place hk C (by rw[B,f])) e
   ·rw[if_neg f]
 have J:∃k,k<i/\lC c.st k=c.st.length/\(jE (aN.set (aH y) true) (aH (ai c.au k))=true\/ -(ai c.au k)∈ex):=by
  obtain⟨k,u,k2,k3⟩:=h.act;refine⟨k,u,k2,?_⟩;rcases k3 with k3|P
  ·exact u_ (s _ k3)
  ·rcases q_.1 P with e|e
   ·left;rw[n,if_pos];rw[<-e,oP]
   ·exact x_ e
 have X:aR c y<=c.st.length:=by rw[<-H];exact wJ _ _
 have Q:∀x∈aL,aH x≠aH y:=λ x l e=>by
  have:=(h.ur x l).2.2.2;rw[e,hs] at this;cases this
 have K:∀v,jE (aN.set (aH y) true) v=true->∃x,-x∈c.au/\aH x=v:=λ v t=>by
  rw[n] at t
  by_cases e:aH y=v
  ·exact⟨y,sK A,e⟩
  ·rw[if_neg e] at t;exact h.zO v t
 have L:∀m,m<=c.au.length->nt c (aN.set (aH y) true) m=nt c aN m+if j<m/\aR c y=c.st.length then 1 else 0:=by
  intro m
  induction m with
  |zero=>intro _;simp[nt]
  |succ m R=>
   intro hm;rw[zN,zN,R (by omega),I m (by omega)]
   by_cases e:m=j
   ·subst e;have S:o9 c aN m=false:=by unfold o9;rw[B,hs,ZU]
    rw[if_pos rfl,S]
    by_cases f:aR c y=c.st.length
    ·simp[f]
    ·simp[f]
   ·rw[if_neg e];generalize (if o9 c aN m=true then 1 else 0)=q;have N:(j<m/\aR c y=c.st.length)↔(j<m+1/\aR c y=c.st.length):=⟨λ o=>⟨by omega,o.2⟩,λ o=>⟨by omega,o.2⟩⟩
    by_cases f:j<m/\aR c y=c.st.length
    ·rw[if_pos f,if_pos (N.1 f)];omega
    ·rw[if_neg f,if_neg (λ o=>f (N.2 o))];omega
 constructor
 ·intro r;refine⟨⟨by simp[h.tO],h.qX,λ x l=>?_,h.xM,λ x l p=>?_,K,λ z g=>h.xN z (by simp[g]),λ z g=>h.wP z (by simp[g]),λ M D=>?_,J⟩,?_⟩
  ·obtain⟨a,b,d,e⟩:=h.ur x l;exact⟨a,b,d,s _ e⟩
  ·rw[n] at p
   by_cases e:aH y=aH x
   ·right;unfold aR at r⊢;rw[<-e];exact r
   ·rw[if_neg e] at p;exact h.wO x l p
  ·rcases h.uu M D with⟨z,g,hm⟩|w|⟨k,u,k2,k3⟩
   ·rcases q_.1 g with e|e
    ·subst e;refine x_ (x_ ⟨j,h1,?_,by rw[G,Yv];exact hm⟩);rw[I j C,if_pos rfl,decide_eq_true_iff];exact r
    ·exact u_ ⟨z,e,hm⟩
   ·exact x_ (u_ w)
   ·refine x_ (x_ ⟨k,u,?_,k3⟩);unfold o9 at k2⊢;rw[f_] at k2⊢;exact⟨k2.1,s _ k2.2⟩
  ·rw[L i h.qX,if_pos ⟨h1,r⟩]
 ·intro r;refine⟨⟨by simp[h.tO],h.qX,λ x l=>?_,?_,λ x l p=>?_,K,λ z g=>h.xN z (by simp[g]),λ z g=>h.wP z (by simp[g]),λ M D=>?_,J⟩,?_⟩
  ·rcases o_.1 l with w|w
   ·obtain⟨a,b,d,e⟩:=h.ur x w;exact⟨a,b,d,s _ e⟩
   ·rw[t_.1 w];exact⟨sK A,by omega,by omega,by rw[n,if_pos rfl]⟩
  ·rw[Zn];refine⟨h.xM,by simp,λ a U b V e=>?_⟩;rw[t_.1 V] at e;exact Q a U (by rw[e])
  ·rw[n] at p
   by_cases e:aH y=aH x
   ·left;rcases Bc e with f|f
    ·simp[f]
    ·exfalso;have E:x∈c.au:=by
      have:=sK A;rw[f,Yv] at this;exact this
     exact T.apart E l
   ·rw[if_neg e] at p;exact(h.wO x l p).imp (λ E=>by simp[E]) id
  ·rcases h.uu M D with⟨z,g,hm⟩|⟨z,g,hm⟩|⟨k,u,k2,k3⟩
   ·rcases q_.1 g with e|e
    ·subst e;exact x_ (u_ ⟨z,by simp,hm⟩)
    ·exact u_ ⟨z,e,hm⟩
   ·exact x_ (u_ ⟨z,by simp[g],hm⟩)
   ·refine x_ (x_ ⟨k,u,?_,k3⟩);unfold o9 at k2⊢;rw[f_] at k2⊢;exact⟨k2.1,s _ k2.2⟩
  ·rw[L i h.qX,if_neg (λ o=>r o.2)];rfl
theorem oB.open(h:oB F c i aN aL []):0<nt c aN i:=by
 rw[Bi];obtain⟨k,b,k2,k3⟩:=h.act;refine⟨k,b,?_⟩;unfold o9;rcases k3 with k3|k3
 ·rw[k3,Z6,decide_eq_true_iff];exact k2
 ·cases k3
theorem oB.down(h:oB F c (i+1) aN aL [])(hs:jE aN (aH (ai c.au i))=false):oB F c i aN aL []/\nt c aN i=nt c aN (i+1):=by
 have e:o9 c aN i=false:=by unfold o9;rw[hs,ZU]
 refine⟨⟨h.tO,by have:=h.qX;omega,h.ur,h.xM,h.wO,h.zO,λ y d=>by(cases d),λ y d=>by(cases d),λ M f=>?_,?_⟩,by rw[zN,e];rfl⟩
 ·rcases h.uu M f with h1|h1|⟨k,g,k2,k3⟩
  ·exact u_ h1
  ·exact x_ (u_ h1)
  ·refine x_ (x_ ⟨k,?_,k2,k3⟩);rcases l_ k i with b|b
   ·exact b
   ·obtain rfl:k=i:=by omega
    rw[e] at k2;cases k2
 ·obtain⟨k,g,k2,k3⟩:=h.act;refine⟨k,?_,k2,k3⟩;rcases l_ k i with b|b
  ·exact b
  ·obtain rfl:k=i:=by omega
   rcases k3 with k3|k3
   ·rw[hs] at k3;cases k3
   ·cases k3
theorem oB.top(T:jV c)(h:oB F c (i+1) aN aL []):lC c.st i=c.st.length:=by
 obtain⟨k,b,k2,_⟩:=Bi.1 h.open|>.imp λ k ⟨b,k2⟩=>(⟨b,(by unfold o9 at k2;rw[f_,decide_eq_true_iff] at k2;exact k2.1),trivial⟩:k<i+1/\lC c.st k=c.st.length/\True)
 have h1:=C4 (st:=c.st) (i:=k) (j:=i) (by omega);have:=wJ c.st i;omega
theorem oB.done(T:jV c)(h:oB F c (i+1) aN aL [])(hs:jE aN (aH (ai c.au i))=true)(h1:nt c aN (i+1)=1):pL F (-(ai c.au i)::aL):=by
 have b:o9 c aN i=true:=by unfold o9;rw[hs,Z6,decide_eq_true_iff];exact h.top T
 rw[zN,b,if_pos rfl] at h1;intro M d;rcases h.uu M d with⟨y,f,_⟩|⟨x,g,hm⟩|⟨k,j,k2,k3⟩
 ·cases f
 ·exact⟨x,by simp[g],hm⟩
 ·by_cases e:k=i
  ·subst e;exact⟨_,by simp,k3⟩
  ·have:0<nt c aN i:=Bi.2 ⟨k,by omega,k2⟩;omega
theorem oB.reason(T:jV c)(D:rO F Fd c)(h:oB F c (i+1) aN aL [])(hs:jE aN (aH (ai c.au i))=true)(h1:nt c aN (i+1)≠1):
  ∃d,mF c.j9 (aH (ai c.au i))=some d/\d<c.cl.length/\oB F c i aN aL ((ax c.cl d).filter λ y=>y !=ai c.au i)/\nt c aN (i+1)=nt c aN i+1:=by
 have r:=h.top T;have s:o9 c aN i=true:=by unfold o9;rw[hs,Z6,decide_eq_true_iff];exact r
 have t:nt c aN (i+1)=nt c aN i+1:=by rw[zN,s,if_pos rfl]
 have o:i<c.au.length:=by have:=h.qX;omega
 obtain⟨k,u,k2⟩:=Bi.1 (show 0<nt c aN i by have:=h.open;omega);have v:lC c.st k=c.st.length:=by unfold o9 at k2;rw[f_,decide_eq_true_iff] at k2;exact k2.1
 have hw:=T.p7 i o
 cases p:mF c.j9 (aH (ai c.au i)) with
 |none=>
  rw[p] at hw;obtain⟨m,hm,e⟩:=hw;have:=(um T (i:=k) hm).1 (by omega);omega
 |some d=>
  rw[p] at hw;obtain⟨f,B,w⟩:=hw;refine⟨d,rfl,f,⟨h.tO,by omega,h.ur,h.xM,h.wO,h.zO,λ y b=>?_,λ y b=>?_,λ M g=>?_,⟨k,u,v,u_ ?_⟩⟩,t⟩
  ·obtain⟨l,z⟩:=ZV.1 b;exact w y l (by simpa using z)
  ·exact(D.mI d f).lt y (ZV.1 b).1
  ·rcases h.uu M g with⟨y,b,_⟩|l|⟨j,C,A,n⟩
   ·cases b
   ·exact x_ (u_ l)
   ·by_cases e:j=i
    ·subst e;obtain⟨y,b,hm⟩:=D.imp d f M g
     by_cases q:y=ai c.au j
     ·rw[g.1 _ (T.lit _ (l5 o)).oQ,<-q,hm] at n;cases n
     ·exact u_ ⟨y,ZV.2 ⟨b,by simpa using q⟩,hm⟩
    ·exact x_ (x_ ⟨j,by omega,A,n⟩)
  ·unfold o9 at k2;rw[f_] at k2;exact k2.2
inductive rm(c:Core)(aN:List Bool):Int->Prop
 |mk (x:Int) (d:Nat) (hw:mF c.j9 (aH x)=some d) (h:∀y∈ax c.cl d,y≠-x->jE aN (aH y)=false->aR c y≠0->rm c aN y):rm c aN x
def pos(c:Core)(x:Int):Nat:=c.au.idxOf (-x)
theorem pos_at(T:jV c){x:Int}{j:Nat}(b:j<c.au.length)(e:ai c.au j= -x):pos c x=j:=by
 have d: -x∈c.au:=qj.2 ⟨j,b,e⟩;unfold pos;have h1:=List.idxOf_lt_length_of_mem d;have f:ai c.au (c.au.idxOf (-x))= -x:=by rw[ny h1];exact List.getElem_idxOf h1
 exact T.place h1 b (by rw[f,e])
theorem JG(T:jV c)(D:rO F Fd c)(hm:∀x,-x∈c.au->jE aN (aH x)=true->x∈aL\/aR c x=c.st.length){M:Int->Bool}(b:tK M F):∀(k:Nat)(x:Int),pos c x=k-> -x∈c.au->aR c x<c.st.length->rm c aN x->(∀z∈aL,pos c z<k->M z=false)->M x=false:=by
 intro k
 induction k using Yx with
 |_ k v=>
  intro x hk n hl w o;obtain⟨_,d,hw,A⟩:=w;obtain⟨j,p,e,N⟩:=T.at n;have B:j=k:=by rw[<-hk];exact(pos_at T p e).symm
  subst B;have q:=T.p7 j p;rw[e,oP,hw] at q;obtain⟨r,O,C⟩:=q;obtain⟨y,g,f⟩:=D.imp d r M b;have E:x≠0:=by have:=(T.lit _ n).oQ;omega
  by_cases l:y= -x
  ·rw[l,b.1 x E] at f
   cases G:M x with
   |true=>rw[G] at f;cases f
   |false=>rfl
  ·exfalso;obtain⟨m,m1,m2,m3⟩:=pU.1 (C y g l);have H:pos c y=m:=pos_at T m2 m3;have P:aR c y=lC c.st m:=by rw[<-T.mG m m2,m3];unfold aR;rw[oP]
   have s: -y∈c.au:=qj.2 ⟨m,m2,m3⟩;have I:aR c y<c.st.length:=by
    have:=C4 (st:=c.st) (i:=m) (j:=j) (by omega);omega
   have t:M y=false:=by
    by_cases h1:jE aN (aH y)=true
    ·rcases hm y s h1 with u|u
     ·exact o y u (by omega)
     ·omega
    by_cases h1:aR c y=0
    ·have:=yA T D b m m2 (by omega);rw[m3,b.1 y ((D.mI d r).lt y g).oQ] at this
     cases J:M y with
     |true=>rw[J] at this;cases this
     |false=>rfl
    ·rename_i K;exact v m m1 y H s I (A y g l (by simpa using K) h1) (λ z L Q=>o z L (by omega))
   rw[f] at t;cases t
theorem JH(T:jV c)(D:rO F Fd c)(hm:∀x,-x∈c.au->jE aN (aH x)=true->x∈aL\/aR c x=c.st.length)(g:∀x∈aL,-x∈c.au/\aR c x<c.st.length){u:Int}(l:pL F (u::aL)){r:List Int}(m:∀x∈aL,x∈r\/rm c aN x):pL F (u::r):=by
 intro M i;rcases ZF (∃x∈u::r,M x=true) with h|h
 ·exact h
 ·exfalso;have j:∀x∈u::r,M x=false:=λ x d=>by
   cases b:M x with
   |false=>rfl
   |true=>exact absurd ⟨x,d,b⟩ h
  have key:∀(k:Nat)(z:Int),pos c z=k->z∈aL->M z=false:=by
   intro k
   induction k using Yx with
   |_ k n=>
    intro z hk f;rcases m z f with h1|h1
    ·exact j z (by simp[h1])
    ·exact JG T D hm i k z hk (g z f).1 (g z f).2 h1 (λ y o p=>n _ p y rfl o)
  obtain⟨x,d,b⟩:=l M i;rcases q_.1 d with e|e
  ·rw[j x (by simp[e])] at b;cases b
  ·rw[key _ x rfl e] at b;cases b
end
structure qH(F:List (List Int))(c:Core)(p:Int)(i:Nat)(mk:Int->Bool)(out:List Int):Prop where
 qX:i<=c.au.length
 Bl:∀x∈out,x=p\/(x∈c.au/\mF c.j9 (aH x)=none)
 uu:∀M,tK M F->(∀x∈p::out,M x=true)->∃j,j<i/\1<=lC c.st j/\mk (aH (ai c.au j))=true/\M (ai c.au j)=false
section
variable {F Fd:List (List Int)}{c:Core}{p:Int}{i:Nat}{mk:Int->Bool}{out:List Int}
theorem qH.start(T:jV c)(hp: -p∈c.au)(hl:1<=aR c p)(hm:mk (aH p)=true):qH F c p c.au.length mk [p]:=by
 refine⟨w_ _,λ x b=>u_ (t_.1 b),λ M d f=>?_⟩;obtain⟨j,g,e,h1⟩:=T.at hp;refine⟨j,g,by omega,by rw[e,oP];exact hm,?_⟩;rw[e,d.1 p (by have:=(T.lit _ hp).oQ;omega),f p (by simp)];rfl
theorem qH.skip(h:qH F c p (i+1) mk out)(hs:mk (aH (ai c.au i))=false):qH F c p i mk out:=by
 refine⟨by have:=h.qX;omega,h.Bl,λ M e f=>?_⟩;obtain⟨j,h1,g,b,k⟩:=h.uu M e f;refine⟨j,?_,g,b,k⟩;rcases l_ j i with d|d
 ·exact d
 ·obtain rfl:j=i:=by omega
  rw[hs] at b;cases b
theorem qH.decision(h:qH F c p (i+1) mk out)(k:mF c.j9 (aH (ai c.au i))=none):qH F c p i mk (out++[ai c.au i]):=by
 have l:i<c.au.length:=by have:=h.qX;omega
 refine⟨by omega,λ x b=>?_,λ M m f=>?_⟩
 ·rcases o_.1 b with h1|h1
  ·exact h.Bl x h1
  ·rw[t_.1 h1];exact x_ ⟨l5 l,k⟩
 ·obtain⟨j,h1,n,o,d⟩:=h.uu M m (λ x b=>f x (by rcases q_.1 b with e|e<;>simp[e]));refine⟨j,?_,n,o,d⟩;rcases l_ j i with g|g
  ·exact g
  ·obtain rfl:j=i:=by omega
   rw[f _ (by simp)] at d;cases d
theorem qH.reason(T:jV c)(D:rO F Fd c)(h:qH F c p (i+1) mk out){d:Nat}(hw:mF c.j9 (aH (ai c.au i))=some d){mk':Int->Bool}(hm:∀v,mk v=true->mk' v=true)(r:∀y∈ax c.cl d,y≠ai c.au i->0<aR c y->mk' (aH y)=true):qH F c p i mk' out:=by
 have s:i<c.au.length:=by have:=h.qX;omega
 refine⟨by omega,h.Bl,λ M b t=>?_⟩;obtain⟨j,h1,u,w,f⟩:=h.uu M b t
 by_cases e:j=i
 ·subst e;have m:=T.p7 j s;rw[hw] at m;obtain⟨n,B,z⟩:=m;obtain⟨y,g,o⟩:=D.imp d n M b;have q:y≠ai c.au j:=by rintro rfl;rw[o] at f;cases f
  obtain⟨k,C,k2,k3⟩:=pU.1 (z y g q);have E:aR c y=lC c.st k:=by rw[<-T.mG k k2,k3];unfold aR;rw[oP]
  have l:M (ai c.au k)=false:=by rw[k3,b.1 y ((D.mI d n).lt y g).oQ,o];rfl
  by_cases A:lC c.st k=0
  ·rw[yA T D b k k2 A] at l;cases l
  ·exact⟨k,by omega,by omega,by rw[k3,oP];exact r y g q (by omega),l⟩
 ·exact⟨j,by omega,u,hm _ w,f⟩
theorem qH.done(T:jV c)(h:qH F c p i mk out)(hs:0<c.st.length)(e:i<=gQ c.st 0):∀M,tK M F->¬∀x∈p::out,M x=true:=by
 intro M b d;obtain⟨j,h1,f,_⟩:=h.uu M b d;have:=(um T (i:=j) hs).1 (by omega);omega
end
end
section
structure mh(n:Nat)(ord pl:List Int):Prop where
 sL:pl.length=n+1
 inv:∀i,i<ord.length->1<=ai ord i/\ai ord i<=n/\ai pl (ai ord i).toNat=i
 o:∀v:Nat,1<=v->v<=n->0<=ai pl v->ai pl v<ord.length/\ai ord (ai pl v).toNat=v
 tP:∀v,-1<=ai pl v
section
variable {n:Nat}{ord pl:List Int}
theorem mh.inj(h:mh n ord pl){i j:Nat}(b:i<ord.length)(c:j<ord.length)(e:ai ord i=ai ord j):i=j:=by
 have h1:=(h.inv i b).2.2;have d:=(h.inv j c).2.2;rw[e] at h1;omega
def uv(ord pl:List Int)(i k:Nat):List Int:=(pl.set (ai (kL ord i k) i).toNat (i:Int)).set (ai (kL ord i k) k).toNat (k:Int)
theorem yB(h:mh n ord pl){i k:Nat}(d:i<ord.length)(hk:k<ord.length)(v:Nat):
  ai (uv ord pl i k) v=if (v:Int)=ai ord i then (k:Int) else if (v:Int)=ai ord k then (i:Int) else ai pl v:=by
 have a:=h.inv i d;have b:=h.inv k hk;have j:ai (kL ord i k) k=ai ord i:=by rw[qF d hk,if_pos rfl]
 have l:ai (kL ord i k) i=if i=k then ai ord i else ai ord k:=by rw[qF d hk];simp
 unfold uv;rw[j,l,o7]
 by_cases c:(v:Int)=ai ord i
 ·rw[if_pos c,if_pos ⟨by omega,by rw[Zg,h.sL];omega⟩]
 ·rw[if_neg c,if_neg (λ f=>c (by omega)),o7]
  by_cases g:i=k
  ·subst g;rw[if_pos rfl,if_neg (λ f=>c (by omega)),if_neg c]
  ·rw[if_neg g]
   by_cases e:(v:Int)=ai ord k
   ·rw[if_pos e,if_pos ⟨by omega,by rw[h.sL];omega⟩]
   ·rw[if_neg e,if_neg (λ f=>e (by omega))]
theorem mh.swap(h:mh n ord pl){i k:Nat}(d:i<ord.length)(hk:k<ord.length):mh n (kL ord i k) (uv ord pl i k):=by
 have a:=h.inv i d;have b:=h.inv k hk;refine⟨by unfold uv;simp[h.sL],λ j l=>?_,λ v h1 r m=>?_,λ v=>?_⟩
 ·rw[sd] at l;have c:=h.inv j l;rw[qF d hk]
  by_cases e:j=k
  ·rw[if_pos e];refine⟨a.1,a.2.1,?_⟩;rw[yB h d hk,if_pos (by omega),e]
  ·rw[if_neg e]
   by_cases f:j=i
   ·rw[if_pos f];refine⟨b.1,b.2.1,?_⟩;rw[yB h d hk]
    by_cases q:((ai ord k).toNat:Int)=ai ord i
    ·have:=h.inj hk d (by omega);omega
    ·rw[if_neg q,if_pos (by omega),f]
   ·rw[if_neg f];refine⟨c.1,c.2.1,?_⟩;rw[yB h d hk,if_neg (λ g=>f (h.inj l d (by omega))),if_neg (λ g=>e (h.inj l hk (by omega)))];exact c.2.2
 ·rw[yB h d hk] at m⊢;rw[sd]
  by_cases e:(v:Int)=ai ord i
  ·rw[if_pos e,qF d hk,if_pos (by omega)];exact⟨by omega,e.symm⟩
  ·rw[if_neg e] at m⊢
   by_cases f:(v:Int)=ai ord k
   ·rw[if_pos f,qF d hk];have q:i≠k:=by rintro rfl;exact e f
    rw[if_neg (by omega),if_pos (by omega)];exact⟨by omega,f.symm⟩
   ·rw[if_neg f] at m⊢;obtain⟨s,p⟩:=h.o v h1 r m;refine⟨s,?_⟩;rw[qF d hk,if_neg (λ g=>f (by rw[<-p,g])),if_neg (λ g=>e (by rw[<-p,g]))];exact p
 ·rw[yB h d hk];split
  ·omega
  ·split
   ·omega
   ·exact h.tP v
def vR(pl b:List Int):Prop:=∀v,0<=ai b v↔0<=ai pl v
theorem vR.refl(pl:List Int):vR pl pl:=λ _=>Iff.rfl
theorem vR.trans{a b c:List Int}(h:vR a b)(h':vR b c):vR a c:=λ v=>(h' v).trans (h v)
theorem mh.Fb(h:mh n ord pl){i k:Nat}(d:i<ord.length)(hk:k<ord.length):vR pl (uv ord pl i k):=by
 intro v;rw[yB h d hk]
 by_cases b:(v:Int)=ai ord i
 ·rw[if_pos b];have:=(h.inv i d).2.2;rw[<-b] at this;simp only[Z3] at this;omega
 ·rw[if_neg b]
  by_cases c:(v:Int)=ai ord k
  ·rw[if_pos c];have:=(h.inv k hk).2.2;rw[<-c] at this;simp only[Z3] at this;omega
  ·rw[if_neg c]
theorem mh.push(h:mh n ord pl){v:Nat}(h1:1<=v)(j:v<=n)(k:ai pl v<0):mh n (ord++[(v:Int)]) (pl.set v (ord.length:Int)):=by
 have d:∀u,ai (pl.set v (ord.length:Int)) u=if v=u then (ord.length:Int) else ai pl u:=λ u=>by
  rw[o7]
  by_cases e:v=u
  ·rw[if_pos e,if_pos ⟨e,by rw[h.sL];omega⟩]
  ·rw[if_neg e,if_neg (λ f=>e f.1)]
 refine⟨by simp[h.sL],λ i g=>?_,λ u a b c=>?_,λ u=>?_⟩
 ·rw[p_,a_] at g
  by_cases e:i<ord.length
  ·rw[sJ e];have:=h.inv i e;refine⟨this.1,this.2.1,?_⟩;rw[d,if_neg]
   ·exact this.2.2
   ·rintro rfl;have:=this.2.2;omega
  ·obtain rfl:i=ord.length:=by omega
   rw[xH];refine⟨by omega,by omega,?_⟩;rw[d,if_pos (by omega)]
 ·rw[d] at c⊢;rw[p_,a_]
  by_cases e:v=u
  ·rw[if_pos e];refine⟨by omega,?_⟩;rw[Z3,xH,e]
  ·rw[if_neg e] at c⊢;obtain⟨l,k2⟩:=h.o u a b c;exact⟨by omega,by rw[sJ (by omega)];exact k2⟩
 ·rw[d];split
  ·omega
  ·exact h.tP u
theorem mh.pop(h:mh n ord pl)(hl:0<ord.length):mh n (ord.take (ord.length-1)) (pl.set (ai ord (ord.length-1)).toNat (-1)):=by
 obtain⟨m,hm⟩:∃m,ord.length=m+1:=⟨ord.length-1,by omega⟩
 have l:ord.length-1=m:=by omega
 rw[l];have a:=h.inv m (by omega);have f:∀u,ai (pl.set (ai ord m).toNat (-1)) u=if (ai ord m).toNat=u then-1 else ai pl u:=λ u=>by
  rw[o7]
  by_cases e:(ai ord m).toNat=u
  ·rw[if_pos e,if_pos ⟨e,by rw[h.sL];omega⟩]
  ·rw[if_neg e,if_neg (λ g=>e g.1)]
 have hlen:(ord.take m).length=m:=by rw[j_];omega
 refine⟨by simp[h.sL],λ i k=>?_,λ u b c d=>?_,λ u=>?_⟩
 ·rw[hlen] at k;rw[wH k];have:=h.inv i (by omega);refine⟨this.1,this.2.1,?_⟩;rw[f,if_neg]
  ·exact this.2.2
  ·intro e;have:=h.inj (i:=m) (j:=i) (by omega) (by omega) (by omega);omega
 ·rw[f] at d⊢;rw[hlen]
  by_cases e:(ai ord m).toNat=u
  ·rw[if_pos e] at d;omega
  ·rw[if_neg e] at d⊢;obtain⟨p,k2⟩:=h.o u b c d;have q:ai pl u≠m:=λ g=>e (by rw[g] at k2;simp only[Z3] at k2;omega)
   exact⟨by omega,by rw[wH (by omega)];exact k2⟩
 ·rw[f];split
  ·omega
  ·exact h.tP u
end
end
section
open Go.RowKit
def tj:TypeId:=162
def vC:TypeId:=166
def zP:TypeId:=160
def xO:TypeId:=164
def zQ:TypeId:=171
def JI:TypeId:=126
def ij(k:Nat):Nat:=13+3*k
def kz(k:Nat):Nat:=14+3*k
def qY(r:Nat):TypeId:=
 if r=0 then zP else if r=1 then zQ else if r=3 then xO else if r=9 then 4 else if r=10 then xO else if r=11 then JI else if r=12 then 4
 else if r<13 then 3 else if r%3=1 then xO else 3
def nU(r:Nat):Nat:=if r=11 then 2 else 1
structure si where
 kU:Bool
 aR:Int
 ac:Int
structure mS where
 iM:Int
 h:aq
structure aj where
 c:Core
 ci:List si
 act:List Int
 aM:Int
 ord:List Int
 pl:List Int
 bl:List Bool
 aI:List Nat
 aA:List mS
 aN:List Bool
 nl:List (List Int)
 jl:Option aq
def gX(l:List Int):List Value:=l.map (n_ .i64)
def ql(l:List Nat):List Value:=l.map λ x:Nat=>n_ .i64 (x:Int)
def tn(l:List Int):List Value:=l.map (n_ .i8)
def nO(l:List Bool):List Value:=l.map Value.bool
def tq(cb:Nat->Nat)(d:Nat):Value:=.pointer (some ⟨cb d,0,none⟩)
def qZ(cb:Nat->Nat):Option Nat->Value
 |none=>.pointer none
 |some d=>tq cb d
def kV(cb:Nat->Nat)(l:List Nat):List Value:=l.map (tq cb)
def uw(cb:Nat->Nat)(l:List (Option Nat)):List Value:=l.map (qZ cb)
def mq(l:List mS):List Value:=(l.map λ p=> [n_ .i64 p.iM,p.h.v]).flatten
def cont(hs:Nat->aq)(cb:Nat->Nat)(s:aj)(r:Nat):List Value:=
 if r=0 then (Yp s.c.wt.length).map λ k=>(hs (ij k)).v
 else if r=1 then tn s.c.val else if r=2 then ql s.c.lvl else if r=3 then uw cb s.c.j9 else if r=4 then gX s.c.au else if r=5 then ql s.c.st
 else if r=6 then gX s.act else if r=7 then gX s.ord else if r=8 then gX s.pl else if r=9 then nO s.bl else if r=10 then kV cb s.aI
 else if r=11 then (match s.jl with|some _=> []|none=>mq s.aA) else if r=12 then nO s.aN
 else if r%3=1 then kV cb (ax s.c.wt ((r-13)/3)) else if r%3=2 then gX (ax s.c.cl ((r-14)/3)) else gX (ax s.nl ((r-15)/3))
def oc(hs:Nat->aq)(s:aj):Value:=match s.jl with
 |some h=>h.v
 |none=>(hs 11).v
def rq(hs:Nat->aq)(s:aj):List Value:=
 [.int .i64 s.c.n,(hs 0).v,(hs 1).v,(hs 2).v,(hs 3).v,(hs 4).v,(hs 5).v,.int .i64 s.c.ag,(hs 6).v,.int .i64 s.aM,(hs 7).v,(hs 8).v,(hs 9).v,(hs 10).v,oc hs s,.bool s.c.l9,(hs 12).v]
def tQ(hs:Nat->aq)(s:aj)(d:Nat):List Value:=
 [(hs (kz d)).v,.bool (s.ci.getD d ⟨false,0,0⟩).kU,.int .i64 (s.ci.getD d ⟨false,0,0⟩).aR,.int .i64 (s.ci.getD d ⟨false,0,0⟩).ac]
structure j5(base:Nat)(w:World)(G:Nat)(hs:Nat->aq)(cb:Nat->Nat)(gw:List Value)(cls:Nat->List Value)(n:Nat)(X:Nat->List Value):Prop where
 box:aO w G tj gw
 rows:mg base qY nU w hs X
 cls:∀d,d<n->aO w (cb d) vC (cls d)
 inj:∀d e,d<n->e<n->cb d=cb e->d=e
 ru:base<=G
 rU:∀d,d<n->base<=cb d
abbrev iX(base:Nat)(w:World)(G:Nat)(hs:Nat->aq)(cb:Nat->Nat)(s:aj):Prop:=j5 base w G hs cb (rq hs s) (tQ hs s) s.c.cl.length (cont hs cb s)
def aj.pe(s:aj)(k:Nat)(x:Int):aj:={s with c:={s.c with val:=s.c.val.set k x}}
def aj.rV(s:aj)(k:Nat)(x:Nat):aj:={s with c:={s.c with lvl:=s.c.lvl.set k x}}
def aj.qI(s:aj)(k:Nat)(x:Option Nat):aj:={s with c:={s.c with j9:=s.c.j9.set k x}}
def aj.wQ(s:aj)(k:Nat)(x:Int):aj:={s with c:={s.c with au:=s.c.au.set k x}}
def aj.p8(s:aj)(k:Nat)(x:Int):aj:={s with act:=s.act.set k x}
def aj.tR(s:aj)(k:Nat)(x:Int):aj:={s with ord:=s.ord.set k x}
def aj.pV(s:aj)(k:Nat)(x:Int):aj:={s with pl:=s.pl.set k x}
def aj.ux(s:aj)(k:Nat)(x:Bool):aj:={s with bl:=s.bl.set k x}
def aj.tr(s:aj)(k:Nat)(x:Bool):aj:={s with aN:=s.aN.set k x}
def aj.yC(s:aj)(x:Int):aj:={s with c:={s.c with au:=s.c.au++[x]}}
theorem Dd(r:Nat):qY r≠tj/\qY r≠vC:=by
 unfold qY
 repeat (split;·exact⟨by decide,by decide⟩)
 exact⟨by decide,by decide⟩
section
variable {base:Nat}{w w':World}{G:Nat}{hs:Nat->aq}{cb:Nat->Nat}{gw:List Value}{cls:Nat->List Value}{n:Nat}{X:Nat->List Value}
theorem j5.below(h:j5 base w G hs cb gw cls n X)(b:Below w.heap.size w w'):j5 base w' G hs cb gw cls n X:=
 ⟨h.box.below b,h.rows.below b,λ d c=>(h.cls d c).below b,h.inj,h.ru,h.rU⟩
theorem j5.De(h:j5 base w G hs cb gw cls n X){d:Nat}(c:d<n):G≠cb d:=by
 intro e;have h1:=h.box;have b:=h.cls d c;rw[<-e] at b;unfold aO at h1 b;rw[h1] at b;injection b with b
 injection b with _ b
 exact absurd b (by decide)
theorem j5.uy(h:j5 base w G hs cb gw cls n X)(r g:Nat)(c:(hs r).b=some g):G≠g:=by
 have:=h.rows.C3 h.box (λ r=>(Dd r).1) r g c;intro e;exact this (by rw[e])
theorem j5.xP(h:j5 base w G hs cb gw cls n X){d:Nat}(c:d<n)(r g:Nat)(f:(hs r).b=some g):cb d≠g:=by
 have:=h.rows.C3 (h.cls d c) (λ r=>(Dd r).2) r g f;intro e;exact this (by rw[e])
theorem j5.field(h:j5 base w G hs cb gw cls n X)(k:Nat)(v:Value):j5 base (w.setCell ⟨G,k,none⟩ v) G hs cb (gw.set k v) cls n X:=
 ⟨h.box.set k v,h.rows.kept (kK w G k v) (λ r g c e=>h.uy r g c (by injection e)),λ d b=>(h.cls d b).kept (kK w G k v) (λ e=>h.De b (by injection e with e;exact e.symm)),h.inj,h.ru,h.rU⟩
theorem j5.JJ(h:j5 base w G hs cb gw cls n X){d:Nat}(b:d<n)(k:Nat)(v:Value):j5 base (w.setCell ⟨cb d,k,none⟩ v) G hs cb gw (iH cls d ((cls d).set k v)) n X:=by
 refine⟨h.box.kept (kK w (cb d) k v) (λ e=>h.De b (by injection e)),h.rows.kept (kK w (cb d) k v) (λ r g f e=>h.xP b r g f (by injection e)),λ e he=>?_,h.inj,h.ru,h.rU⟩
 by_cases c:e=d
 ·subst c;rw[jH];exact(h.cls e he).set k v
 ·rw[aX _ _ c];exact(h.cls e he).kept (kK w (cb d) k v) (λ i=>c (h.inj e d he b (by injection i)))
theorem j5.cell(h:j5 base w G hs cb gw cls n X){r g:Nat}(c:(hs r).b=some g)(k:Nat)(v:Value):j5 base (w.setCell ⟨g,k,none⟩ v) G hs cb gw cls n (iH X r ((X r).set k v)):=
 ⟨h.box.kept (kK w g k v) (λ e=>h.uy r g c (by injection e)),h.rows.set c k v,λ d f=>(h.cls d f).kept (kK w g k v) (λ e=>h.xP f r g c (by injection e)),h.inj,h.ru,h.rU⟩
theorem j5.iS(h:j5 base w G hs cb gw cls n X){r:Nat}{h':aq}{ys:List Value}(c:w.grownBy w' (hs r).b)(i:w'.ownsRow base (qY r) (nU r) h'.v h'.n ys)(j:h'.b=(hs r).b\/∀g,h'.b=some g->w.heap.size<=g):
  j5 base w' G (iH hs r h') cb gw cls n (iH X r ys):=by
 refine⟨h.box.kept c (λ e=>?_),h.rows.iS c i j,λ d f=>(h.cls d f).kept c (λ e=>?_),h.inj,h.ru,h.rU⟩
 ·exact h.uy r G e.symm rfl
 ·exact h.xP f r (cb d) e.symm rfl
theorem j5.cut(h:j5 base w G hs cb gw cls n X){r g:Nat}(d:(hs r).b=some g){k:Nat}(hk:k<=(hs r).n):j5 base w G (iH hs r ⟨(hs r).A,k,(hs r).c⟩) cb gw cls n (iH X r ((X r).take (k*nU r))):=
 ⟨h.box,h.rows.cut d hk,h.cls,h.inj,h.ru,h.rU⟩
theorem j5.eq{hs':Nat->aq}{sj:Nat->Nat}{zR:List Value}{Fc:Nat->List Value}{gB:Nat}{lS:Nat->List Value}(h:j5 base w G hs cb gw cls n X)(h1:hs=hs')(c:cb=sj)(e:gw=zR)(f:∀d,d<n->cls d=Fc d)(g:n=gB)(i:∀r,X r=lS r):j5 base w G hs' sj zR Fc gB lS:=by
 subst h1 c e g;have j:X=lS:=funext i;subst j;exact⟨h.box,h.rows,λ d b=>by rw[<-f d b];exact h.cls d b,h.inj,h.ru,h.rU⟩
end
end
end Go.Proofs.YtogdlkfacflmaaaGreat
