/- Parts of the walk of the solver and its core; no condition. -/
import Derived.Test.YtogdlkfacflmaaaGreatProg
import Derived.WalkKit
import Derived.WalkSpells
import Derived.WalkLawsBesides
import Derived.Lib.Hide
import Derived.Below
import Derived.Laws.OwnMore
import Derived.Calls
import Derived.Deep.Quiet
import Derived.Deep.QuietTactic
import Derived.BigQuiet
import Derived.Shelf.Abstract
import Derived.StillTailTactics
import Derived.Maps.OwnOps
import Derived.Maps.OwnSet
import Derived.Maps.Views
import Derived.RangeFuncBox
import Derived.IntWalk
import Derived.OwnWalkIn
import Derived.LoadGo3
import Derived.Lib.OwnBridge
import Derived.Lib.AppendIntMem
import Derived.Deep.RegionLaw
import Derived.Deep.RegionHeld3
import Derived.Deep.CutBlock
import Derived.Deep.DeepCutAuto
import Derived.Laws.MakeOwn
import Derived.Maps.AppendAt
import Derived.RegionTactic
import Derived.BigRegion
namespace Go.Proofs.YtogdlkfacflmaaaGreat
set_option linter.unusedVariables false
set_option linter.unusedSimpArgs false
set_option maxRecDepth 100000
set_option maxHeartbeats 2000000
open _root_.Go.Proofs.Tryz renaming prog→z_,underlying25→h_,underlying3→e_,underlying4→Zu
open _root_.Go.RowKit.Below renaming refl→y_,heap_alloc→d_,heap_setCell→a_
open _root_.List renaming getElem?_eq_getElem→x_,getD_eq_getElem?_getD→u_,getElem_mem→r_,take_of_length_le→q_,eq_nil_of_length_eq_zero→p_,getElem?_map→m_,getElem?_eq_some_iff→j_,getElem?_take_of_lt→i_,take_succ_eq_append_getElem→f_,map_cons→Zz,all_eq_false→Zx,any_eq_true→Zt,map_toArray→Zs,map_append→Zn,map_nil→Zc
open _root_.Go.Value renaming int→w_
open _root_.Nat renaming le_refl→v_,zero_le→t_,lt_of_lt_of_le→s_,eq_zero_or_pos→b_,lt_or_ge→Zv,add_zero→Zq
open _root_.Go.World renaming cell?→o_,frozen?→Zy,cell?_of_block→Zk,setCell→Zi
open _root_.Go.Value.slice renaming injEq→n_
open _root_.Array renaming getElem?_eq_none→l_,getElem?_toList→c_
open _root_.Go.Builtin renaming append_→k_,firstCells→Zh
open _root_.Go renaming rounds_succ→g_,wp_loop_rounds→Zm,heap_alloc_new→Zl
open _root_.Go.Result renaming andThen_ok→Zw
open _root_.Bool renaming and_eq_true→Zr
open _root_.Int renaming eq_ofNat_of_zero_le→Zp
open _root_.Go.Ending renaming returned→Zo
open _root_.Go.Region renaming wanted→Zj
open _root_.Go.Addr renaming add_lit→Zg
open _root_.Go.World.grownBy renaming refl→Zf
open _root_.Go.Sem renaming run_bind→Ze,run_pure→Zd
variable{p:Int->Bool}{ai l S act:List Int}{k n c b base m B size:Nat}{w w' W w1:World}{A:Option Addr}{a:Act}{x:Int}{ls:List (List Int)}{P:Program}{Q:Exit->Act->World->Prop}{f:FuncId}{args:Array Value}{v:Value}{e t:TypeId}{xs:List Value}{ops:Array Oper}{rest:List Oper}{gX:List Bool}
section
def bF(p:Prop):Prop:=p
theorem bF.o{p:Prop}(h:bF p):p:=h
theorem U{p:Prop}(h:p):bF p:=h
end
section
open Go.RowKit Go.Shelf
def jP(b:List Int)(k:Nat):Int:=b.getD k 0
theorem ql(h:k<ai.length):jP ai k=ai[k]:=by simp[jP,u_,x_ h]
theorem vn(b:List Int)(k:Nat)(h:k<b.length):b.take (k+1)=b.take k++[jP b k]:=by
 rw[f_ h,ql h]
structure aP(w:World)(A:Option Addr)(n c:Nat)(ai:List Int):Prop where
 len:ai.length=n
 cap:n<=c
 mG:n*8<=140737488355328
 n9:c<=maxLen
 cells:0<n->∃b off,A=some ⟨b,off,none⟩/\b<w.heap.size/\∀j,j<n->w.cell? ⟨b,off+j,none⟩=some (.int .i64 (jP ai j))
theorem aP.below(h:aP w A n c ai)(d:Below w.heap.size w w'):aP w' A n c ai:=
 ⟨h.len,h.cap,h.mG,h.n9,λ f=>by
  obtain⟨b,off,rfl,e,g⟩:=h.cells f;exact⟨b,off,rfl,s_ e d.size,λ j i=>(d.cell (p:=⟨b,off+j,none⟩) e).trans (g j i)⟩⟩
theorem aP.nil(w:World)(A:Option Addr)(c:Nat)(b:c<=maxLen):aP w A 0 c []:=⟨rfl,t_ _,by omega,b,λ h=>absurd h (by omega)⟩
theorem aP.drew{w:World}{A:Option Addr}{n c:Nat}{ai:List Int}(h:aP w A n c ai):aP w.drew A n c ai:=h.below ((y_ _ _).drew)
theorem aP.alloc{w:World}{A:Option Addr}{n c:Nat}{ai:List Int}(h:aP w A n c ai)(o:Obj):aP (w.alloc o) A n c ai:=h.below ((y_ _ _).alloc (v_ _) _)
theorem aP.small(h:aP w A n c ai):n<=17592186044416:=by have:=h.mG;omega
theorem Ja(c:Below W.heap.size W w1):(∀b o,b<W.heap.size->w1.cell? ⟨b,o,none⟩=W.cell? ⟨b,o,none⟩)/\(∀b o,b<W.heap.size->w1.frozen? ⟨b,o,none⟩=W.frozen? ⟨b,o,none⟩):=
 ⟨λ b o h=>c.cell (p:=⟨b,o,none⟩) h,λ b o h=>c.frozen (p:=⟨b,o,none⟩) h⟩
theorem nC{a b:Bool}(h:a=b):Zo (.bool a)=.returned (.bool b):=by rw[h]
theorem pO{k:IntKind}{a b:Int}(h:a=b):Zo (.int k a)=.returned (.int k b):=by rw[h]
theorem aP.kZ(h:w.ownsRow base 3 1 (.slice A n c) n (ai.map (w_ .i64)))(f:n*8<=140737488355328):aP w A n c ai:=by
 obtain⟨h1,l⟩:=h;have hl:ai.length=n:=by simpa using h1
 rcases l with⟨b,i⟩|⟨g,cap,cur,b,s,d,m,o,t,p⟩
 ·simp only[n_] at b;obtain⟨rfl,_,rfl⟩:=b;subst i;exact⟨hl,v_ _,f,t_ _,λ h=>absurd h (by omega)⟩
 ·simp only[n_] at b;obtain⟨rfl,_,rfl⟩:=b;refine⟨hl,m,f,o,λ i=>⟨g,0,rfl,?_,λ j u=>?_⟩⟩
  ·rcases Zv g w.heap.size with q|r
   ·exact q
   ·rw[l_ r] at d;cases d
  ·have v:j<cur.size:=by omega
   have e:cur[j]? =some (.int .i64 (jP ai j)):=by
    have k:(cur.toList.take (n*1))[j]? =(ai.map (w_ .i64))[j]? :=by rw[p]
    rw[i_ (by omega),m_,x_ (by omega:j<ai.length)] at k;rw[<-c_,k,ql (by omega)];rfl
   simp[o_,d,e]
def hasB(b:List Int)(x:Int):Bool:=b.contains x
theorem wI:hasB ai x=true↔x∈ai:=by simp[hasB]
theorem zL(b:List Int)(x y:Int):hasB (b++[y]) x=(hasB b x||(y==x)):=by
 rw[Bool.eq_iff_iff,wI,Bool.or_eq_true,wI,beq_iff_eq,List.mem_append,List.mem_singleton];exact⟨λ h=>h.imp id Eq.symm,λ h=>h.imp id Eq.symm⟩
theorem Jb(h:k<ai.length)(e:(jP ai k==x)=true):hasB ai x=true:=by
 rw[wI];rw[ql h] at e;have:ai[k]=x:=by simpa using e
 rw[<-this];exact r_ h
theorem Jc(h:k<ai.length)(e:(jP ai k==x)=false)(b:hasB (ai.take k) x=false):hasB (ai.take (k+1)) x=false:=by
 rw[vn ai k h,zL,b,e];rfl
theorem Jd(hl:ai.length=n)(h:¬k<n)(b:hasB (ai.take k) x=false):hasB ai x=false:=by
 rw[q_ (by omega)] at b;exact b
def om(ls:List (List Int))(k:Nat):List Int:=ls.getD k []
theorem ud(h:k<ls.length):om ls k=ls[k]:=by simp[om,u_,x_ h]
theorem CU(ls:List (List Int))(k:Nat)(h:k<ls.length):ls.take (k+1)=ls.take k++[om ls k]:=by
 rw[f_ h,ud h]
theorem E4(h:k<ls.length):om ls k∈ls:=by rw[ud h];exact r_ h
theorem ue(h:k<ai.length):jP ai k∈ai:=by rw[ql h];exact r_ h
structure kE(w:World)(A:Option Addr)(n c:Nat)(ls:List (List Int)):Prop where
 len:ls.length=n
 cap:n<=c
 mG:n*24<=140737488355328
 n9:c<=maxLen
 cells:0<n->∃b off,A=some ⟨b,off,none⟩/\b<w.heap.size/\∀j,j<n->∃A' iw c',w.cell? ⟨b,off+j,none⟩=some (.slice A' iw c')/\aP w A' iw c' (om ls j)
theorem kE.below{w w':World}{A:Option Addr}{n c:Nat}{ls:List (List Int)}(h:kE w A n c ls)(d:Below w.heap.size w w'):kE w' A n c ls:=
 ⟨h.len,h.cap,h.mG,h.n9,λ f=>by
  obtain⟨b,off,rfl,e,g⟩:=h.cells f;refine⟨b,off,rfl,s_ e d.size,λ j i=>?_⟩;obtain⟨A',k,c',h1,l⟩:=g j i;exact⟨A',k,c',(d.cell (p:=⟨b,off+j,none⟩) e).trans h1,l.below d⟩⟩
theorem kE.nil(w:World)(A:Option Addr)(c:Nat)(b:c<=maxLen):kE w A 0 c []:=⟨rfl,t_ _,by omega,b,λ h=>absurd h (by omega)⟩
theorem kE.small(h:kE w A n c ls):n<=5864062014806:=by have:=h.mG;omega
structure bt(w:World) where
 val:World
 ok:Below w.heap.size w val
instance (w:World):Nonempty (bt w):=⟨⟨w,y_ _ _⟩⟩
theorem mA{id:Nat}{l:List Oper}(hm:P.follows .mixedOrders=true)(b:Region.lexB .any l.toArray=true)
  (h:wpQuiet P l.toArray (λ w'=>∃u:bt w,w'=u.val) (λ c=>∀w',(∃u:bt w,w'=u.val)->Q .normal c w') l a):(Code.region id l.toArray true).wp P Q a w:=
 wp_region_quiet (C:=λ w'=>∃u:bt w,w'=u.val) hm b ⟨⟨w.drew,(y_ _ _).drew⟩,rfl⟩ (by simpa using h)
theorem bt.call(u:bt w)(h:Calls P f args u.val λ e w'=>e=.returned v/\Below u.val.heap.size u.val w'):
  Calls P f args u.val λ e w'=>e=.returned v/\∃b:bt w,w'=b.val:=
 h.mono λ _ w' ⟨he,c⟩=>⟨he,⟨w',u.ok.trans (c.mono u.ok.size)⟩,rfl⟩
theorem bt.same(u:bt w)(h:Calls P f args u.val λ e w'=>e=.returned v/\u.val=w'):
  Calls P f args u.val λ e w'=>e=.returned v/\∃b:bt w,w'=b.val:=
 h.mono λ _ _ ⟨he,c⟩=>⟨he,u,c.symm⟩
theorem bt.cell{w:World}{p:Addr}{v:Value}(u:bt w)(hp:p.block<w.heap.size)(h:w.cell? p=some v):u.val.cell? p=some v:=(u.ok.cell hp).trans h
theorem bt.o(h:∃u:bt w,w'=u.val):Below w.heap.size w w':=by
 obtain⟨u,rfl⟩:=h;exact u.ok
def ox(x y:Int):Int:=if x<y then-1 else if y<x then 1 else 0
theorem E6(x:Int)(w:World):Calls z_ 196 #[.int .i64 x] w λ e w'=>e=.returned (.bool false)/\w=w':=by
 go_enter Tryz.func196,Tryz.ntmps196
 go_wp2;go_ret;exact⟨nC (by simp),rfl⟩
theorem zM(x y:Int)(w:World):Calls z_ 160 #[.int .i64 x,.int .i64 y] w λ e w'=>e=.returned (.int .i64 (ox x y))/\w=w':=by
 by_cases h1:x<y
 ·go_enter Tryz.func160,Tryz.ntmps160
  go_wp2_with (go_at_call 196;refine(E6 _ _).mono ?_;rintro e w' ⟨rfl,rfl⟩)
  go_ret;exact⟨pO (by simp[ox,h1]),rfl⟩
 ·by_cases b:y<x
  all_goals
   go_enter Tryz.func160,Tryz.ntmps160
   go_wp2_with (go_at_call 196;refine(E6 _ _).mono ?_;rintro e w' ⟨rfl,rfl⟩)
   go_ret;exact⟨pO (by unfold ox;split<;>(try split)<;>omega),rfl⟩
def rW(x y:Int):Int:=if x=0 then y else x
theorem Bd(g:Nat)(x y:Int)(w:World)(k:w.cell? ⟨g,0,none⟩=some (.int .i64 x))(h1:w.cell? ⟨g,1,none⟩=some (.int .i64 y)):
  Calls z_ 159 #[.slice (some ⟨g,0,none⟩) 2 2] w λ e w'=>e=.returned (.int .i64 (rW x y))/\w=w':=by
 by_cases b:x=0
 ·have f:(x !=0)=false:=by simp[b]
  have d:=U b;clear b
  by_cases c:y=0
  ·have i:(y !=0)=false:=by simp[c]
   have j:=U c;clear c;go_enter Tryz.func159,Tryz.ntmps159
   go_wp2;refine Zm 3 ?_;rw[g_];go_wp2;rw[g_];go_wp2;rw[g_];go_wp2;go_ret;exact⟨pO (by rw[rW,if_pos d.o,j.o]),rfl⟩
  ·have i:(y !=0)=true:=by simpa using c
   clear c;go_enter Tryz.func159,Tryz.ntmps159
   go_wp2;refine Zm 2 ?_;rw[g_];go_wp2;rw[g_];go_wp2;go_ret;exact⟨pO (by rw[rW,if_pos d.o]),rfl⟩
 ·have f:(x !=0)=true:=by simpa using b
  have d:=U b;clear b;go_enter Tryz.func159,Tryz.ntmps159
  go_wp2;refine Zm 1 ?_;rw[g_];go_wp2;go_ret;exact⟨pO (by rw[rW,if_neg d.o]),rfl⟩
def l5(x n:Int):Bool:=decide (x≠0)&&decide (-n<=x)&&decide (x<=n)
theorem vO{n:Int}:l5 x n=true↔x≠0/\ -n<=x/\x<=n:=by simp[l5,and_assoc]
theorem Je{n:Int}(b:0<=n)(h1:n<=65536):wrap64 (-n)= -n:=by unfold wrap64;omega
theorem Jf{n:Int}(b:0<=n)(h1:n<=65536):wrap64 (0-n)= -n:=by unfold wrap64;omega
theorem Jg(x n:Int)(w:World)(d:0<=n)(h1:n<=65536):Calls z_ 115 #[.int .i64 x,.int .i64 n] w λ e w'=>e=.returned (.bool (l5 x n))/\w=w':=by
 have hw:=Jf d h1
 by_cases b:x=0
 ·have f:(x !=0)=false:=by simp[b]
  have c:=U b;clear b;go_enter Tryz.func115,Tryz.ntmps115
  go_wp2;go_ret;exact⟨nC (by simp[l5,c.o]),rfl⟩
 ·have f:(x !=0)=true:=by simpa using b
  have c:=U b;clear b
  by_cases g: -n<=x
  ·by_cases i:x<=n
   all_goals
    go_enter Tryz.func115,Tryz.ntmps115
    go_wp2;go_ret;exact⟨nC (by simp[l5,c.o,g,i]),rfl⟩
  ·go_enter Tryz.func115,Tryz.ntmps115
   go_wp2;go_ret;exact⟨nC (by rw[l5,decide_eq_false (show¬-n<=x by omega),Bool.and_false,Bool.false_and]),rfl⟩
theorem E7(x n:Int)(w:World)(d:0<=n)(h1:n<=65536):Calls z_ 163 #[.int .i64 x,.int .i64 n] w λ e w'=>e=.returned (.bool (l5 x n))/\w=w':=by
 have hw:=Je d h1
 by_cases b:x=0
 ·have f:(x !=0)=false:=by simp[b]
  have c:=U b;clear b;go_enter Tryz.func163,Tryz.ntmps163
  go_wp2;go_ret;exact⟨nC (by simp[l5,c.o]),rfl⟩
 ·have f:(x !=0)=true:=by simpa using b
  have c:=U b;clear b
  by_cases g: -n<=x
  ·by_cases i:x<=n
   all_goals
    go_enter Tryz.func163,Tryz.ntmps163
    go_wp2;go_ret;exact⟨nC (by simp[l5,c.o,g,i]),rfl⟩
  ·go_enter Tryz.func163,Tryz.ntmps163
   go_wp2;go_ret;exact⟨nC (by rw[l5,decide_eq_false (show¬-n<=x by omega),Bool.and_false,Bool.false_and]),rfl⟩
def rA(x:Int):Int:=if x<0 then-x else x
theorem Jh(x:Int)(w:World)(b: -65536<=x)(h1:x<=65536):Calls z_ 168 #[.int .i64 x] w λ e w'=>e=.returned (.int .i64 (rA x))/\w=w':=by
 have hw:wrap64 (-x)= -x:=by unfold wrap64;omega
 go_enter Tryz.func168,Tryz.ntmps168
 go_wp2
 all_goals
  go_ret;exact⟨pO (by unfold rA;split<;>omega),rfl⟩
theorem Be(w:World)(q:Nat):Below w.heap.size w (w.drewN q):=⟨rfl,rfl,rfl,v_ _,λ _ _=>rfl⟩
theorem Ji(h:k<ai.length)(e:p (jP ai k)=false):ai.all p=false:=by
 rw[ql h] at e;rw[Zx];exact⟨_,r_ h,by simp[e]⟩
theorem Jj(h:k<ai.length)(e:p (jP ai k)=true)(b:(ai.take k).all p=true):(ai.take (k+1)).all p=true:=by
 rw[vn ai k h,List.all_append,b];simp[e]
theorem Jk(hl:ai.length=n)(h:¬k<n)(b:(ai.take k).all p=true):ai.all p=true:=by
 rw[q_ (by omega)] at b;exact b
def CV(b:List Int):Prop:=∀x∈b,x≠0/\ -65536<=x/\x<=65536
theorem CV.at(h:CV ai)(hk:k<ai.length):jP ai k≠0/\ -65536<=jP ai k/\jP ai k<=65536:=h _ (ue hk)
theorem Jl(b: -65536<=x)(h1:x<=65536):wrap64 (-x)= -x:=by unfold wrap64;omega
def wJ(n:Int)(l:List Int):Bool:=l.all λ x=>l5 x n
def sr(n:Int)(ls:List (List Int)):Bool:=ls.all (wJ n)
def lS(n:Int)(ls:List (List Int)):Int:=if n<0\/65536<n then 1 else if sr n ls=false then 1 else if 65536<ls.length then 2 else 0
theorem E8{n:Int}(h:k<ls.length)(e:wJ n (om ls k)=false):sr n ls=false:=by
 rw[ud h] at e;unfold sr;rw[Zx];exact⟨_,r_ h,by simp[e]⟩
theorem E9{n:Int}(h:k<ls.length)(e:wJ n (om ls k)=true)(b:sr n (ls.take k)=true):sr n (ls.take (k+1))=true:=by
 unfold sr at*;rw[CU ls k h,List.all_append,b];simp[e]
theorem Fa{n:Int}(hl:ls.length=m)(h:¬k<m)(b:sr n (ls.take k)=true):sr n ls=true:=by
 rw[q_ (by omega)] at b;exact b
theorem yJ{n:Int}(h:n<0\/65536<n):lS n ls=1:=if_pos h
theorem Fb{n:Int}(h:sr n ls=false):lS n ls=1:=by unfold lS;split<;>simp[h]
theorem Fc{n:Int}(b:0<=n/\n<=65536)(h:sr n ls=true)(hl:65536<ls.length):lS n ls=2:=by
 unfold lS;rw[if_neg (by omega),if_neg (by rw[h];exact Bool.noConfusion),if_pos hl]
theorem CW{n:Int}(b:0<=n/\n<=65536)(h:sr n ls=true)(hl:¬65536<ls.length):lS n ls=0:=by
 unfold lS;rw[if_neg (by omega),if_neg (by rw[h];exact Bool.noConfusion),if_neg hl]
structure qm(w:World)(B:Nat)(x:Int)(A:Option Addr)(n c:Nat):Prop where
 lt:B<w.heap.size
 aY:w.cell? ⟨B,0,none⟩=some (.int .i64 x)
 c1:w.cell? ⟨B,1,none⟩=some (.slice A n c)
theorem qm.below(h:qm w B x A n c)(b:Below w.heap.size w w'):qm w' B x A n c:=
 ⟨s_ h.lt b.size,(b.cell (p:=⟨B,0,none⟩) h.lt).trans h.aY,(b.cell (p:=⟨B,1,none⟩) h.lt).trans h.c1⟩
theorem qm.new(w:World)(x:Int)(A:Option Addr)(n c:Nat):qm (w.alloc (.cells #[.int .i64 x,.slice A n c] 24)) w.heap.size x A n c:=
 ⟨by simp,by simp,by simp⟩
theorem xQ(r:Bool)(x n:Int)(w:World)(b:0<=n)(h1:n<=65536)(c:l5 x n=r):Calls z_ 115 #[.int .i64 x,.int .i64 n] w λ e w'=>e=.returned (.bool r)/\w=w':=
 (Jg x n w b h1).mono λ _ _ ⟨he,hw⟩=>⟨by rw[he,c],hw⟩
theorem Jm(x:Int)(A:Option Addr)(n c:Nat)(ls:List (List Int))(w:World)(h:kE w A n c ls)(G:0<=x)(h1:x<=65536):
  Calls z_ 88 #[.agg #[.int .i64 x,.slice A n c]] w λ e w'=>e=.returned (.int .i64 (lS x ls))/\Below w.heap.size w w':=by
 have ar:=h.small;have H:=U h;clear h;have au:¬x<0:=by omega
 have z2:¬65536<x:=by omega
 have l:=U (And.intro G h1);clear G h1;go_enter Tryz.func88,Tryz.ntmps88
 go_wp2;have C:Below w.heap.size w (w.alloc (.cells #[.int .i64 x,.slice A n c] 24)):=(y_ _ _).alloc (v_ _) _;have D:=qm.new w x A n c;generalize ak:w.alloc (.cells #[.int .i64 x,.slice A n c] 24)=W at C D⊢;clear ak;have g:=U C;have q:=U D;have av:w.heap.size<W.heap.size:=q.o.lt;clear C D
 go_loopw [3] (λ i wr=>∃k:Nat,k<=n/\i=.int .i64 k/\sr x (ls.take k)=true/\Below W.heap.size W wr) (λ i _=>n-(intOf i).toNat)
 case atStart=>exact⟨0,t_ _,rfl,rfl,y_ _ _⟩
 case round=>
  obtain⟨k,hk,rfl,I,J⟩:=hrel;have K:=U I;have d:=U J;clear I J;have L:=(q.o.below d.o).aY;have M:=(q.o.below d.o).c1
  by_cases r:k<n
  ·obtain⟨b,off,rfl,N,O⟩:=((H.o.below g.o).below d.o).cells (by omega);obtain⟨a1,s,c1,P,E⟩:=O k r;clear O;have t:=U E;have aw:=E.small;clear E;have al:(k:Int)<(n:Int):=by omega
   rename World=>V
   go_wp2_with fail
   go_loopw [4] (λ i an=>∃j:Nat,j<=s/\i=.int .i64 j/\((om ls k).take j).all (λ y=>l5 y x)=true/\Below V.heap.size V an) (λ i _=>s-(intOf i).toNat)
   case atStart=>exact⟨0,t_ _,rfl,rfl,y_ _ _⟩
   case round=>
    obtain⟨j,ax,rfl,Q,R⟩:=hrel;have S:=U Q;have f:=U R;clear Q R;have F:w.heap.size<V.heap.size:=(q.o.below d.o).lt;have T:=(f.o.cell (p:=⟨w.heap.size,0,none⟩) F).trans L;have X:=(f.o.cell (p:=⟨w.heap.size,1,none⟩) F).trans M;have Y:=(f.o.cell (p:=⟨b,off+k,none⟩) N).trans P;have Z:Below w.heap.size w wr:=g.o.trans ((d.o.trans (f.o.mono d.o.size)).mono g.o.size);have aa:=U Z;clear Z
    by_cases v:j<s
    ·obtain⟨ab,ad,rfl,ae,af⟩:=(t.o.below f.o).cells (by omega);have ag:=af j v;clear af;have z:w.heap.size<wr.heap.size:=s_ F f.o.size;have m:b<wr.heap.size:=s_ N f.o.size;have ay:(j:Int)<(s:Int):=by omega
     generalize ah:l5 (jP (om ls k) j) x=o;have B:=U ah;clear ah L M P
     cases o
     ·go_wp2_with fail
      refine mA (by kernel_rfl) (by kernel_rfl) ?_;have g0:=λ u:bt wr=>u.cell (p:=⟨w.heap.size,0,none⟩) z T
      have g1:=λ u:bt wr=>u.cell (p:=⟨w.heap.size,1,none⟩) z X
      have gk:=λ u:bt wr=>u.cell (p:=⟨b,off+k,none⟩) m Y
      have ao:=λ u:bt wr=>u.cell (p:=⟨ab,ad+j,none⟩) ae ag
      repeat (go_big_quiet_step ((go_at_call 115;exact bt.same _ (xQ false _ _ _ l.o.1 l.o.2 B.o))))
      refine wpQuiet_nil ?_;rintro _ ⟨⟨aq,m⟩,rfl⟩
      go_wp2_with fail
      go_ret;exact⟨pO (Fb (E8 (k:=k) (by rw[H.o.len];exact r) (Ji (p:=λ y=>l5 y x) (by rw[t.o.len];exact v) B.o))).symm,aa.o.trans (m.mono aa.o.size)⟩
     ·go_wp2_with fail
      refine mA (by kernel_rfl) (by kernel_rfl) ?_;have g0:=λ u:bt wr=>u.cell (p:=⟨w.heap.size,0,none⟩) z T
      have g1:=λ u:bt wr=>u.cell (p:=⟨w.heap.size,1,none⟩) z X
      have gk:=λ u:bt wr=>u.cell (p:=⟨b,off+k,none⟩) m Y
      have ao:=λ u:bt wr=>u.cell (p:=⟨ab,ad+j,none⟩) ae ag
      repeat (go_big_quiet_step ((go_at_call 115;exact bt.same _ (xQ true _ _ _ l.o.1 l.o.2 B.o))))
      refine wpQuiet_nil ?_;rintro _ ⟨⟨aq,m⟩,rfl⟩
      go_wp2_with fail
      go_roundw
      case rel=>exact⟨j+1,by omega,by go_num,Jj (p:=λ y=>l5 y x) (by rw[t.o.len];exact v) B.o S.o,f.o.trans (m.mono f.o.size)⟩
      case measure=>simp[intOf];omega
    ·go_wp2_with fail
     go_roundw
     case rel=>exact⟨k+1,by omega,by go_num,E9 (by rw[H.o.len];exact r) (Jk t.o.len v S.o) K.o,d.o.trans (f.o.mono d.o.size)⟩
     case measure=>simp[intOf];omega
  ·have ai:=Fa H.o.len r K.o;have aj:=U ai;clear ai;have al:¬(k:Int)<(n:Int):=by omega
   by_cases az:(65536:Int)<n
   ·go_wp2_with fail
    go_ret;exact⟨pO (Fc l.o aj.o (by rw[H.o.len];omega)).symm,g.o.trans (d.o.mono g.o.size)⟩
   ·go_wp2_with fail
    go_ret;exact⟨pO (CW l.o aj.o (by rw[H.o.len];omega)).symm,g.o.trans (d.o.mono g.o.size)⟩
theorem Jn(x:Int)(A:Option Addr)(n c:Nat)(w:World)(h:x<0\/65536<x):
  Calls z_ 88 #[.agg #[.int .i64 x,.slice A n c]] w λ e w'=>e=.returned (.int .i64 1)/\Below w.heap.size w w':=by
 by_cases b:x<0
 ·clear h;go_enter Tryz.func88,Tryz.ntmps88
  go_wp2;go_ret;exact⟨rfl,(y_ _ _).alloc (v_ _) _⟩
 ·have h1:65536<x:=by omega
  clear h;go_enter Tryz.func88,Tryz.ntmps88
  go_wp2;go_ret;exact⟨rfl,(y_ _ _).alloc (v_ _) _⟩
theorem Fe(x:Int)(A:Option Addr)(n c:Nat)(ls:List (List Int))(w:World)(h:kE w A n c ls):
  Calls z_ 88 #[.agg #[.int .i64 x,.slice A n c]] w λ e w'=>e=.returned (.int .i64 (lS x ls))/\Below w.heap.size w w':=by
 by_cases b:x<0\/65536<x
 ·rw[yJ b];exact Jn x A n c w b
 ·exact Jm x A n c ls w h (by omega) (by omega)
theorem Ff(he:P.underlying e=some .bool){v:Value}{x:Bool}{sV:List MemPlace}(h:plainElem (H:=Unit) P e v=some (.lit (.bool x),sV)):v=.bool x:=by
 unfold plainElem at h;rw[he] at h
 cases v<;>simp at h
 rw[h.1]
def mb(w:World)(b n:Nat)(S:List Int):Prop:=
 ∃D:DataW Unit,w.ownsMap z_ 3 (plainElem z_ 4) b n D/\∀x,(Lit.int .i64 x).wf=true->D.atKey (.int .i64 x) (.lit (.bool false))=.lit (.bool (hasB S x))
theorem mb.made(w:World):mb (w.alloc (.map #[] 0)) w.heap.size 0 []:=
 ⟨_,World.ownsMap_made w _ _ _,λ x _=>rfl⟩
theorem mb.lt{w:World}{b n:Nat}{S:List Int}(h:mb w b n S):b<w.heap.size:=by
 obtain⟨D,h1,c⟩:=h;exact h1.lt
theorem mb.kept{w w':World}{b n:Nat}{S:List Int}{row:Option Nat}(h:mb w b n S)(c:w.grownBy w' row)(d:some b≠row):mb w' b n S:=by
 obtain⟨D,h1,e⟩:=h;exact⟨D,h1.kept c d,e⟩
theorem mb.alloc{w:World}{b n:Nat}{S:List Int}(h:mb w b n S)(o:Obj):mb (w.alloc o) b n S:=by
 obtain⟨D,h1,c⟩:=h;exact⟨D,h1.alloc o,c⟩
theorem mb.drew{w:World}{b n:Nat}{S:List Int}(h:mb w b n S):mb w.drew b n S:=by
 obtain⟨D,h1,c⟩:=h;exact⟨D,h1.drew,c⟩
theorem mb.below(h:mb w b n S)(c:Below B w w')(d:b<B):mb w' b n S:=by
 obtain⟨D,⟨es,clock,h1,e⟩,f⟩:=h;exact⟨D,⟨es,clock,(c.block b d).trans h1,e⟩,f⟩
theorem mb.look(h:mb w b n S){x:Int}(c:(Lit.int .i64 x).wf=true):
  (Instr.lookup 114 (.map (some b)) (.int .i64 x) false).run z_ w=.ok (.bool (hasB S x)) w:=by
 obtain⟨D,h1,e⟩:=h;obtain⟨v,i,f,d⟩:=h1.lookup (Maps.int_keyed e_) Tryz.underlying114 (z:=.bool false) (Tryz.zeroValue4 w) (plainElem_bool Zu false) (Maps.keyOf_int_mk e_ c);rw[e x c] at d;have g:=Ff Zu d;rw[f,g]
theorem mb.put(h:mb w b n S)(c:n<maxLen){x:Int}(d:(Lit.int .i64 x).wf=true):
  ∃w',(Instr.mapUpdate 114 (.map (some b)) (.int .i64 x) (.bool true)).run z_ w=.ok () w'/\mb w' b (n+1) (S++[x])/\w.grownBy w' (some b):=by
 obtain⟨D,h1,f⟩:=h;obtain⟨w',g,i,j⟩:=h1.update (Maps.int_keyed e_) Tryz.underlying114 c (Maps.keyOf_int_mk e_ d) (plainElem_bool Zu true);refine⟨w',g,⟨_,i,λ y k=>?_⟩,j⟩
 by_cases e:y=x
 ·subst e;rw[Maps.atKey_put_same h1.isMap (by simp[WideAt.IsKeyLit]),zL];simp
 ·rw[Maps.atKey_put_other (by simpa using e),f y k,zL];have:(x==y)=false:=by simpa using Ne.symm e
  rw[this,Bool.or_false]
theorem Fg(h:k<ai.length)(e:p (jP ai k)=true):ai.any p=true:=by
 rw[ql h] at e;rw[Zt];exact⟨_,r_ h,e⟩
theorem Fh(h:k<ai.length)(e:p (jP ai k)=false)(b:(ai.take k).any p=false):(ai.take (k+1)).any p=false:=by
 rw[vn ai k h,List.any_append,b];simp[e]
theorem Fi(hl:ai.length=n)(h:¬k<n)(b:(ai.take k).any p=false):ai.any p=false:=by
 rw[q_ (by omega)] at b;exact b
def Jo(p:Int->Bool)(b:List Int)(w:World)(e:Ending)(w':World):Prop:=∃r:Int,e=.returned (.int .i64 r)/\(decide (0<=r)=b.any p)/\w=w'
theorem Jp(g:Nat)(lb:Array Value)(p:Int->Bool)(u:∀args w,(callFunc g args).run z_ w=.ok (.enter g args) w)(A:Option Addr)(n c:Nat)(d:List Int)(w:World)(h:aP w A n c d)
  (hp:∀x∈d,Calls z_ g (#[.int .i64 x]++lb) w λ e w'=>e=.returned (.bool (p x))/\w=w'):
  Calls z_ 142 #[.slice A n c,.func (.func g) #[] lb] w (Jo p d w):=by
 have v:=h.small;have H:=U h;clear h;have t:=U hp;clear hp;go_enter Tryz.func142,Tryz.ntmps142
 go_wp2
 go_loop [8] (λ i=>∃k:Nat,k<=n/\i=.int .i64 k/\(d.take k).any p=false) (λ i=>n-(intOf i).toNat)
 case atStart=>exact⟨0,t_ _,rfl,rfl⟩
 case round=>
  obtain⟨k,hk,rfl,l⟩:=hrel;have m:=U l;clear l
  by_cases f:k<n
  ·obtain⟨b,off,rfl,y,q⟩:=H.o.cells (by omega);have z:=q k f;clear q;have hl:k<d.length:=by rw[H.o.len];exact f
   have j:=t.o (jP d k) (ue hl);generalize r:p (jP d k)=o at j;have s:=U r;clear r
   cases o
   ·go_wp2_with (go_at_fn g;refine j.mono ?_;rintro e w' ⟨rfl,rfl⟩)
    go_round
    case rel=>exact⟨k+1,by omega,by go_num,Fh hl s.o m.o⟩
    case measure=>simp[intOf];omega
   ·go_wp2_with (go_at_fn g;refine j.mono ?_;rintro e w' ⟨rfl,rfl⟩)
    go_ret;exact⟨k,rfl,by rw[Fg hl s.o];simp,rfl⟩
  ·go_wp2;go_ret;exact⟨-1,rfl,by rw[Fi H.o.len f m.o];rfl,rfl⟩
theorem Jq(g:Nat)(lb:Array Value)(p:Int->Bool)(d:∀args w,(callFunc g args).run z_ w=.ok (.enter g args) w)(A:Option Addr)(n c:Nat)(b:List Int)(w:World)(h:aP w A n c b)
  (hp:∀x∈b,Calls z_ g (#[.int .i64 x]++lb) w λ e w'=>e=.returned (.bool (p x))/\w=w'):
  Calls z_ 120 #[.slice A n c,.func (.func g) #[] lb] w λ e w'=>e=.returned (.bool (b.any p))/\w=w':=by
 have f:=Jp g lb p d A n c b w h hp;clear h hp;go_enter Tryz.func120,Tryz.ntmps120
 go_wp2_with (go_at_call 142;refine f.mono ?_;rintro e w' ⟨r,rfl,i,rfl⟩)
 all_goals
  go_ret;exact⟨nC (by rw[<-i]),rfl⟩
theorem Jr:∀args w,(callFunc 162 args).run z_ w=.ok (.enter 162 args) w:=enters_of Tryz.func162 (by kernel_rfl) rfl
theorem Js(B:Nat)(n x:Int)(w:World)(c:w.cell? ⟨B,0,none⟩=some (.int .i64 n))(b:0<=n)(h1:n<=65536):
  Calls z_ 162 #[.int .i64 x,.pointer (some ⟨B,0,none⟩)] w λ e w'=>e=.returned (.bool (!(l5 x n)))/\w=w':=by
 go_enter Tryz.func162,Tryz.ntmps162
 go_wp2_with (go_at_call 163;refine(E7 x n w b h1).mono ?_;rintro e w' ⟨rfl,rfl⟩)
 go_ret;exact⟨rfl,rfl⟩
theorem Jt(n:Int)(l:List Int):l.any (λ x=> !(l5 x n))= !(wJ n l):=by
 unfold wJ;rw[List.not_all_eq_any_not]
theorem Ju(x:Int)(A:Option Addr)(n c:Nat)(ls:List (List Int))(w:World)(h:kE w A n c ls)(p:0<=x)(h1:x<=65536):
  Calls z_ 107 #[.agg #[.int .i64 x,.slice A n c]] w λ e w'=>e=.returned (.int .i64 (lS x ls))/\Below w.heap.size w w':=by
 have F:=h.small;have H:=U h;clear h;have G:¬x<0:=by omega
 have z2:¬65536<x:=by omega
 have f:=U (And.intro p h1);clear p h1;go_enter Tryz.func107,Tryz.ntmps107
 go_wp2;have m:Below w.heap.size w (w.alloc (.cells #[.int .i64 x,.slice A n c] 24)):=(y_ _ _).alloc (v_ _) _;have d:=qm.new w x A n c;generalize C:w.alloc (.cells #[.int .i64 x,.slice A n c] 24)=W at m d⊢;clear C;have g:=U m;have I:=U d;have D:=d.aY;have J:=d.c1;clear m d
 go_loop [16] (λ i=>∃k:Nat,k<=n/\i=.int .i64 k/\sr x (ls.take k)=true) (λ i=>n-(intOf i).toNat)
 case atStart=>exact⟨0,t_ _,rfl,rfl⟩
 case round=>
  obtain⟨k,hk,rfl,q⟩:=hrel;have r:=U q;clear q
  by_cases j:k<n
  ·obtain⟨b,off,rfl,K,s⟩:=(H.o.below g.o).cells (by omega);obtain⟨a1,E,c1,L,t⟩:=s k j;clear s;have l:=Jq 162 #[.pointer (some ⟨w.heap.size,0,none⟩)] (λ y=> !(l5 y x)) Jr a1 E c1 (om ls k) W t (λ y _=>Js w.heap.size x y W D f.o.1 f.o.2);rw[Jt] at l;clear t;generalize u:wJ x (om ls k)=o at l;have v:=U u;clear u
   cases o
   ·go_wp2_with (go_at_call 120;refine l.mono ?_;rintro e w' ⟨rfl,rfl⟩)
    go_ret;exact⟨pO (Fb (E8 (k:=k) (by rw[H.o.len];exact j) v.o)).symm,g.o⟩
   ·go_wp2_with (go_at_call 120;refine l.mono ?_;rintro e w' ⟨rfl,rfl⟩)
    go_round
    case rel=>exact⟨k+1,by omega,by go_num,E9 (by rw[H.o.len];exact j) v.o r.o⟩
    case measure=>simp[intOf];omega
  ·have z:=Fa H.o.len j r.o;have B:=U z;clear z;have M:¬(k:Int)<(n:Int):=by omega
   by_cases N:(65536:Int)<n
   ·go_wp2;go_ret;exact⟨pO (Fc f.o B.o (by rw[H.o.len];omega)).symm,g.o⟩
   ·go_wp2;go_ret;exact⟨pO (CW f.o B.o (by rw[H.o.len];omega)).symm,g.o⟩
theorem Jv(x:Int)(A:Option Addr)(n c:Nat)(w:World)(h:x<0\/65536<x):
  Calls z_ 107 #[.agg #[.int .i64 x,.slice A n c]] w λ e w'=>e=.returned (.int .i64 1)/\Below w.heap.size w w':=by
 by_cases b:x<0
 ·clear h;go_enter Tryz.func107,Tryz.ntmps107
  go_wp2;go_ret;exact⟨rfl,(y_ _ _).alloc (v_ _) _⟩
 ·have h1:65536<x:=by omega
  clear h;go_enter Tryz.func107,Tryz.ntmps107
  go_wp2;go_ret;exact⟨rfl,(y_ _ _).alloc (v_ _) _⟩
theorem xR(x:Int)(A:Option Addr)(n c:Nat)(ls:List (List Int))(w:World)(h:kE w A n c ls):
  Calls z_ 107 #[.agg #[.int .i64 x,.slice A n c]] w λ e w'=>e=.returned (.int .i64 (lS x ls))/\Below w.heap.size w w':=by
 by_cases b:x<0\/65536<x
 ·rw[yJ b];exact Jv x A n c w b
 ·exact Ju x A n c ls w h (by omega) (by omega)
theorem xS:(z_.info? 3).map (λ i=>(i.zero,i.size,i.bytes))=some (some (.int .i64 0),1,8):=by kernel_rfl
structure Row where
 A:Option Addr
 n:Nat
 c:Nat
 ai:List Int
theorem CX(h:W.ownsRow base e size v (k+1) xs):∃g cap,v=.slice (some ⟨g,0,none⟩) (k+1) cap:=by
 rcases h.2 with⟨_,c⟩|⟨g,cap,cur,b,_⟩
 ·omega
 ·exact⟨g,cap,b⟩
theorem Bf(h:w.ownsRow base e size v n xs){g:Nat}(b:v.ownBlock=some g):base<=g/\g<w.heap.size:=by
 rcases h.2 with⟨rfl,_⟩|⟨c,cap,cur,rfl,f,d,_⟩
 ·simp[Value.ownBlock] at b
 ·have:c=g:=by simpa[Value.ownBlock] using b
  subst this;refine⟨f,?_⟩;rcases Zv c w.heap.size with i|j
  ·exact i
  ·rw[l_ j] at d;cases d
theorem mh(h:w.ownsRow B e k v n xs)(b:Below w.heap.size w w'):w'.ownsRow B e k v n xs:=
 h.kept (row:=none) ⟨b.os,b.tape,b.output,b.size,λ j c _=>b.block j c⟩ (by cases d:v.ownBlock<;>simp)
theorem Fj:(z_.info? 25).map (λ i=>(i.zero,i.size,i.bytes))=some (some (.slice none 0 0),1,24):=by kernel_rfl
def k3(r:Row):Value:=.slice r.A r.n r.c
theorem CY(b:z_.underlying t=some (.slice e))(w:World)(base:Nat)(ty:TypeId)(i0:TypeInfo)(d:z_.info? e=some i0)(v:Value)(n size:Nat)(xs:List Value)(f:w.ownsRow base e size v n xs)(c:Nat):
  (k_ #[t,t] ty #[v,.slice none 0 c]).run z_ w=.ok v w:=by
 rcases f.2 with⟨rfl,rfl⟩|⟨g,cap,cur,rfl,_,_,i,_⟩
 ·simp[k_,run_underlying b,sizeOf,typeInfo,d,Builtin.lenOf,Zh]
 ·simp[k_,run_underlying b,sizeOf,typeInfo,d,Builtin.lenOf,Zh,i,storeCells]
theorem aP.news{off:Nat}(h:aP w (some ⟨b,off,none⟩) n c ai):∀j u,(ai.map (w_ .i64))[j]? =some u->w.cell? (Addr.add ⟨b,off,none⟩ j)=some u:=by
 intro j u d;have hl:=h.len;have e:j<n:=by have:=(j_.1 d).1;simpa[hl] using this
 obtain⟨g,i,he,k,f⟩:=h.cells (by omega);simp only[Option.some.injEq,Addr.mk.injEq] at he;obtain⟨rfl,rfl,_⟩:=he;rw[Zg,f j e];rw[m_,x_ (by rw[hl];exact e)] at d;rw[ql (by rw[hl];exact e)];exact d
def mY(w:World)(base:Nat)(e:TypeId)(v:Value)(k:Nat)(ys:List Value)(v':Value)(w':World):Prop:=
 w'.ownsRow base e 1 v' k ys/\w.grownBy w' v.ownBlock/\(v'.ownBlock=v.ownBlock\/v'.ownBlock=some w.heap.size)
theorem zN(w:World)(ty:TypeId)(base:Nat)(v:Value)(n:Nat)(xs:List Int)(f:w.ownsRow base 3 1 v n (xs.map (w_ .i64)))
  (A:Option Addr) (m c:Nat) (e:List Int) (d:aP w A m c e) (o:(n+m)*8<=140737488355328) (p:base<=w.heap.size):
  ∃v' w',(k_ #[25,25] ty #[v,.slice A m c]).run z_ w=.ok v' w'/\mY w base 3 v (n+m) ((xs++e).map (w_ .i64)) v' w':=by
 obtain⟨i0,i,q,r,s⟩:=info_parts xS
 cases A with
 |none=>
  have hm:m=0:=by
   rcases b_ m with g|g
   ·exact g
   ·obtain⟨b,off,he,_⟩:=d.cells g;cases he
  subst hm;have t:e=[]:=p_ d.len;subst t;exact⟨v,w,CY h_ w base ty i0 i v n 1 _ f c,by simpa using f,Zf w _,.inl rfl⟩
 |some k=>
  have y:∀j u,(e.map (w_ .i64))[j]? =some u->w.cell? (k.add j)=some u:=by
   intro j u l;have D:j<m:=by have:=(j_.1 l).1;simpa[d.len] using this
   obtain⟨b,off,he,_⟩:=d.cells (by omega);injection he with he
   subst he;exact d.news j u l
  obtain⟨v',w',h1,z,B,_,C⟩:=run_append_own_at (P:=z_) w base 25 ty 3 i0 (.int .i64 0) 1 8 h_ i q r s rfl (by decide) v n _ f k m c (e.map (w_ .i64)) (by simp[d.len]) y (by intro u hu;obtain⟨x,_,rfl⟩:=List.mem_map.1 hu;rfl) (by unfold maxLen;omega) o p;exact⟨v',w',h1,by rw[Zn];exact z,B,C⟩
theorem Fk{o:Oper}{K:Act->World->Prop}{E:Prop}(d:o.guard=none)(s x:Operand)
  (e:o.op=.call {callee:=.builtin .append,args:= #[s,x],argTypes:= #[25,25]}) (base:Nat) (v:Value) (n:Nat) (xs:List Int) (hs:a.eval s=v) (f:w.ownsRow base 3 1 v n (xs.map (w_ .i64)))
  (A:Option Addr) (m c:Nat) (b:List Int) (g:a.eval x=.slice A m c) (i:aP w A m c b) (j:(n+m)*8<=140737488355328) (k:base<=w.heap.size)
  (h:∀v' w',mY w base 3 v (n+m) ((xs++b).map (w_ .i64)) v' w'->K (a.put o.dst v') w'):
  if Zj o (yielded ops a.tmps)=true then Oper.wp z_ o a w K Q else E:=by
 have hw:Zj o (yielded ops a.tmps)=true:=by simp[Zj,d]
 rw[if_pos hw];obtain⟨v',w',h1,l⟩:=zN w o.type base v n xs f A m c b i j k;unfold Oper.wp;simp only[execOp,e,resolve,invoke,builtin,Ze,Zd,Zw,Zs,Zz,Zc,hs,g,h1];exact h v' w' l
theorem rB{o:Oper}(d:o.guard=none)(s x:Operand)
  (e:o.op=.call {callee:=.builtin .append,args:= #[s,x],argTypes:= #[25,25]}) (base:Nat) (v:Value) (n:Nat) (xs:List Int) (hs:a.eval s=v) (f:w.ownsRow base 3 1 v n (xs.map (w_ .i64)))
  (A:Option Addr) (m c:Nat) (b:List Int) (g:a.eval x=.slice A m c) (i:aP w A m c b) (j:(n+m)*8<=140737488355328) (k:base<=w.heap.size)
  (h:∀v' w',mY w base 3 v (n+m) ((xs++b).map (w_ .i64)) v' w'->wpList z_ ops Q rest (a.put o.dst v') w'):
  wpList z_ ops Q (o::rest) a w:=by
 obtain⟨v',w',h1,l⟩:=zN w o.type base v n xs f A m c b i j k;refine wpList_plain d λ K p=>?_
 unfold Oper.wp;simp only[execOp,e,resolve,invoke,builtin,Ze,Zd,Zw,Zs,Zz,Zc,hs,g,h1];exact p _ _ (h v' w' l)
structure oy(w:World)(A:Option Addr)(n c:Nat)(rs:List Row):Prop where
 len:rs.length=n
 cap:n<=c
 mG:n*24<=140737488355328
 n9:c<=maxLen
 cells:0<n->∃b off,A=some ⟨b,off,none⟩/\b<w.heap.size/\∀j u,(rs.map k3)[j]? =some u->w.cell? ⟨b,off+j,none⟩=some u
 rows:∀r∈rs,aP w r.A r.n r.c r.ai
theorem oy.below{w w':World}{A:Option Addr}{n c:Nat}{rs:List Row}(h:oy w A n c rs)(d:Below w.heap.size w w'):oy w' A n c rs:=
 ⟨h.len,h.cap,h.mG,h.n9,λ f=>by
  obtain⟨b,off,rfl,e,g⟩:=h.cells f;exact⟨b,off,rfl,s_ e d.size,λ j u i=>(d.cell (p:=⟨b,off+j,none⟩) e).trans (g j u i)⟩,λ r k=>(h.rows r k).below d⟩
theorem oy.CZ{rs:List Row}(h:oy w A n c rs):kE w A n c (rs.map (·.ai)):=
 ⟨by rw[List.length_map];exact h.len,h.cap,h.mG,h.n9,λ e=>by
  obtain⟨b,off,rfl,f,g⟩:=h.cells e;refine⟨b,off,rfl,f,λ j i=>?_⟩;have d:j<rs.length:=by rw[h.len];exact i
  refine⟨rs[j].A,rs[j].n,rs[j].c,g j _ (by rw[m_,x_ d];rfl),?_⟩;rw[ud (by simpa using d)];simpa using h.rows _ (r_ d)⟩
theorem Fl{w:World}{b off:Nat}:∀(ls:List (List Int))(k:Nat),(∀j,j<ls.length->∃A' f c',w.cell? ⟨b,off+(k+j),none⟩=some (.slice A' f c')/\aP w A' f c' (om ls j))->
  ∃rs:List Row,rs.map (·.ai)=ls/\(∀j u,(rs.map k3)[j]? =some u->w.cell? ⟨b,off+(k+j),none⟩=some u)/\∀r∈rs,aP w r.A r.n r.c r.ai
 |[],k,h=>⟨[],rfl,λ j u d=>by simp at d,λ r g=>by cases g⟩
 |l::ls,k,h=>by
  obtain⟨A',f,c',h1,i⟩:=h 0 (by simp);obtain⟨rs,m,o,p⟩:=Fl (w:=w) (b:=b) (off:=off) ls (k+1) (λ j d=>by
   obtain⟨A',f,c',h1,i⟩:=h (j+1) (by simpa using d);refine⟨A',f,c',?_,i⟩;rw[show k+1+j=k+(j+1) by omega];exact h1)
  refine⟨⟨A',f,c',l⟩::rs,by rw[Zz,m],λ j u d=>?_,λ r g=>?_⟩
  ·cases j with
   |zero=>simp at d;subst d;exact h1
   |succ j=>rw[show k+(j+1)=k+1+j by omega];exact o j u (by simpa using d)
  ·rcases List.mem_cons.1 g with e|e
   ·subst e;exact i
   ·exact p r e
theorem kE.Fm(h:kE w A n c ls):∃rs:List Row,rs.map (·.ai)=ls/\oy w A n c rs:=by
 rcases b_ n with d|d
 ·have:ls=[]:=p_ (by rw[h.len];exact d);subst this;exact⟨[],rfl,⟨by have:=h.len;simpa using this,h.cap,h.mG,h.n9,λ i=>absurd i (by omega),λ r k=>by cases k⟩⟩
 ·obtain⟨b,off,e,l,m⟩:=h.cells d;obtain⟨rs,g,o,p⟩:=Fl (w:=w) (b:=b) (off:=off) ls 0 (λ j f=>by rw[Nat.zero_add];exact m j (by rw[<-h.len];exact f));refine⟨rs,g,⟨?_,h.cap,h.mG,h.n9,λ _=>⟨b,off,e,l,λ j u f=>?_⟩,p⟩⟩
  ·rw[<-h.len,<-g,List.length_map]
  ·have:=o j u f;rwa[Nat.zero_add] at this
theorem Jy(w:World)(ty:TypeId)(base:Nat)(v:Value)(n:Nat)(xs:List Row)(e:w.ownsRow base 25 1 v n (xs.map k3))
  (A:Option Addr) (m c:Nat) (rs:List Row) (d:oy w A m c rs) (l:(n+m)*24<=140737488355328) (o:base<=w.heap.size):
  ∃v' w',(k_ #[22,22] ty #[v,.slice A m c]).run z_ w=.ok v' w'/\mY w base 25 v (n+m) ((xs++rs).map k3) v' w':=by
 obtain⟨i0,g,p,q,r⟩:=info_parts Fj
 cases A with
 |none=>
  have hm:m=0:=by
   rcases b_ m with f|f
   ·exact f
   ·obtain⟨b,off,he,_⟩:=d.cells f;cases he
  subst hm;have s:rs=[]:=p_ d.len;subst s;exact⟨v,w,CY Tryz.underlying22 w base ty i0 g v n 1 _ e c,by simpa using e,Zf w _,.inl rfl⟩
 |some i=>
  have t:∀j u,(rs.map k3)[j]? =some u->w.cell? (i.add j)=some u:=by
   intro j u k;have D:j<m:=by have:=(j_.1 k).1;simpa[d.len] using this
   obtain⟨b,off,he,_,y⟩:=d.cells (by omega);injection he with he
   subst he;rw[Zg];exact y j u k
  obtain⟨v',w',h1,z,B,_,C⟩:=run_append_own_at (P:=z_) w base 22 ty 25 i0 (.slice none 0 0) 1 24 Tryz.underlying22 g p q r rfl (by decide) v n _ e i m c (rs.map k3) (by simp[d.len]) t (by intro u hu;obtain⟨x,_,rfl⟩:=List.mem_map.1 hu;rfl) (by unfold maxLen;omega) l o;exact⟨v',w',h1,by rw[Zn];exact z,B,C⟩
theorem Jz{o:Oper}(b:o.guard=none)(s x:Operand)
  (d:o.op=.call {callee:=.builtin .append,args:= #[s,x],argTypes:= #[22,22]}) (base:Nat) (v:Value) (n:Nat) (xs:List Row) (hs:a.eval s=v) (e:w.ownsRow base 25 1 v n (xs.map k3))
  (A:Option Addr) (m c:Nat) (rs:List Row) (f:a.eval x=.slice A m c) (g:oy w A m c rs) (i:(n+m)*24<=140737488355328) (j:base<=w.heap.size)
  (h:∀v' w',mY w base 25 v (n+m) ((xs++rs).map k3) v' w'->wpList z_ ops Q rest (a.put o.dst v') w'):
  wpList z_ ops Q (o::rest) a w:=by
 obtain⟨v',w',h1,k⟩:=Jy w o.type base v n xs e A m c rs g i j;refine wpList_plain b λ K l=>?_
 unfold Oper.wp;simp only[execOp,d,resolve,invoke,builtin,Ze,Zd,Zw,Zs,Zz,Zc,hs,f,h1];exact l _ _ (h v' w' k)
theorem Fo(h:w.ownsRow base e size v n xs):∃A c,v=.slice A n c:=by
 rcases h.2 with⟨rfl,rfl⟩|⟨g,cap,cur,rfl,_⟩
 ·exact⟨none,0,rfl⟩
 ·exact⟨some ⟨g,0,none⟩,cap,rfl⟩
theorem Fp(w:World)(base s:Nat)(e:TypeId)(hs:s=w.heap.size)(b:base<=w.heap.size):(w.alloc (.cells #[] e)).ownsRow base e 1 (.slice (some ⟨s,0,none⟩) 0 0) 0 []:=by
 subst hs;exact World.ownsRow_made w #[] 0 b (t_ _) rfl
def lH(b:List Int):Obj:=.cells ((b.map (w_ .i64)).toArray) 3
theorem aP.lit(w:World)(b:List Int)(n s:Nat)(d:b.length=n)(hs:s=w.heap.size)(h:n<=1000):aP (w.alloc (lH b)) (some ⟨s,0,none⟩) n n b:=by
 subst hs;refine⟨d,v_ _,by omega,by unfold maxLen;omega,λ e=>⟨w.heap.size,0,rfl,by simp,λ j f=>?_⟩⟩;have c:(w.alloc (lH b)).heap[w.heap.size]? =some (lH b):=World.alloc_heap_new w _;generalize w.alloc (lH b)=W at c;have:((b.map (w_ .i64)).toArray)[j]? =some (.int .i64 (jP b j)):=by
  rw[List.getElem?_toArray,m_,x_ (by omega:j<b.length),ql (by omega)];rfl
 unfold lH at c;simp[o_,c,this]
theorem Fq{g cap:Nat}(h:w.ownsRow base e 1 (.slice (some ⟨g,0,none⟩) n cap) n xs)(u:Value):
  (w.setCell ⟨g,k,none⟩ u).ownsRow base e 1 (.slice (some ⟨g,0,none⟩) n cap) n (xs.set k u):=by
 obtain⟨h1,c⟩:=h;rcases c with⟨b,_⟩|⟨p,q,cur,b,d,f,i,j,l,m⟩
 ·cases b
 ·cases b
  refine⟨by rw[List.length_set];exact h1,.inr ⟨g,cap,cur.setIfInBounds k u,rfl,d,?_,i,j,by rw[Array.size_setIfInBounds];exact l,?_⟩⟩
  ·obtain⟨o,hk⟩:=Array.getElem?_eq_some_iff.1 f;show(w.heap.modify g _)[g]? =_;rw[Array.getElem?_eq_getElem (by rw[Array.size_modify];exact o),Array.getElem_modify_self,hk];rfl
  ·rw[Array.toList_setIfInBounds,List.take_set,m]
theorem kE.kZ{rs:List Row}(h:w.ownsRow base 25 1 (.slice A n c) n (rs.map k3))(m:∀r∈rs,aP w r.A r.n r.c r.ai)(i:n*24<=140737488355328):kE w A n c (rs.map (·.ai)):=by
 obtain⟨h1,o⟩:=h;have hl:rs.length=n:=by simpa using h1
 rcases o with⟨b,k⟩|⟨g,cap,cur,b,v,d,p,q,y,s⟩
 ·simp only[n_] at b;obtain⟨rfl,_,rfl⟩:=b;subst k;exact⟨by simpa using hl,v_ _,i,t_ _,λ h=>absurd h (by omega)⟩
 ·simp only[n_] at b;obtain⟨rfl,_,rfl⟩:=b;refine⟨by simpa using hl,p,i,q,λ k=>⟨g,0,rfl,?_,λ j z=>?_⟩⟩
  ·rcases Zv g w.heap.size with t|u
   ·exact t
   ·rw[l_ u] at d;cases d
  ·have f:j<rs.length:=by omega
   have e:cur[j]? =some (k3 rs[j]):=by
    have l:(cur.toList.take (n*1))[j]? =(rs.map k3)[j]? :=by rw[s]
    rw[i_ (by omega),m_,x_ f] at l;rw[<-c_,l];rfl
   refine⟨rs[j].A,rs[j].n,rs[j].c,by simp[o_,d,e];rfl,?_⟩;have:=m _ (r_ f);rw[ud (by simpa using f)];simpa using this
theorem aP.take{w:World}{A:Option Addr}{n c:Nat}{ai:List Int}(h:aP w A n c ai){k:Nat}(hk:k<=n):aP w A k c (ai.take k):=by
 have g:=h.mG;have i:=h.cap;refine⟨by simp[h.len];omega,by omega,by omega,h.n9,λ l=>?_⟩;obtain⟨b,off,rfl,d,e⟩:=h.cells (by omega);refine⟨b,off,rfl,d,λ j f=>?_⟩;rw[e j (by omega)];unfold jP;simp[u_,List.getElem?_take,f]
theorem aP.cut(h:aP w A n c ai){k:Nat}(hk:k<=n):aP w (Option.map (λ x=>x.add k) A) (n-k) (c-k) (ai.drop k):=by
 have hl:=h.len;have f:=h.cap;have g:=h.mG;have hm:=h.n9;refine⟨by simp[hl],by omega,by omega,by omega,λ i=>?_⟩;obtain⟨b,off,rfl,d,e⟩:=h.cells (by omega);refine⟨b,off+k,by rw[Option.map_some,Zg],d,λ j l=>?_⟩;have:=e (k+j) (by omega);rw[show off+(k+j)=off+k+j by omega] at this;rw[this];simp[jP,u_]
theorem aP.zero(hm:m=0)(b:ai.length=0)(d:c<=maxLen):aP w A m c ai:=by
 subst hm;rw[p_ b];exact aP.nil w A c d
structure kN(w:World)(A:Option Addr)(n c:Nat)(gX:List Bool):Prop where
 len:gX.length=n
 cap:n<=c
 mG:n<=140737488355328
 n9:c<=maxLen
 cells:0<n->∃b off,A=some ⟨b,off,none⟩/\b<w.heap.size/\∀j,j<n->w.cell? ⟨b,off+j,none⟩=some (.bool (gX.getD j false))
theorem kN.below(h:kN w A n c gX)(d:Below w.heap.size w w'):kN w' A n c gX:=
 ⟨h.len,h.cap,h.mG,h.n9,λ f=>by
  obtain⟨b,off,rfl,e,g⟩:=h.cells f;exact⟨b,off,rfl,s_ e d.size,λ j i=>(d.cell (p:=⟨b,off+j,none⟩) e).trans (g j i)⟩⟩
def vP(b:List Bool)(v:Nat):Bool:=b.getD v false
def su(b:List Bool)(x:Int):Bool:=if l5 x 65536=true then vP b x.natAbs==decide (0<x) else false
def wK(b:List Bool)(l:List Int):Bool:=l.any (su b)
def tE(x:Int)(ls:List (List Int))(b:List Bool):Bool:=lS x ls==0&&ls.all (wK b)
theorem JA(h:l5 x 65536=false):su gX x=false:=by unfold su;rw[if_neg (by simp[h])]
theorem Fs(h:l5 x 65536=true):su gX x=(vP gX x.natAbs==decide (0<x)):=by unfold su;rw[if_pos h]
theorem Ft{v:Nat}(hl:gX.length=n)(h:¬v<n):vP gX v=false:=by
 unfold vP;rw[u_,List.getElem?_eq_none (by omega)];rfl
theorem kN.kZ(h:w.ownsRow base 4 1 (.slice A n c) n (gX.map Value.bool))(f:n<=140737488355328):kN w A n c gX:=by
 obtain⟨h1,l⟩:=h;have hl:gX.length=n:=by simpa using h1
 rcases l with⟨b,i⟩|⟨g,cap,cur,b,s,d,m,o,t,p⟩
 ·simp only[n_] at b;obtain⟨rfl,_,rfl⟩:=b;subst i;exact⟨hl,v_ _,f,t_ _,λ h=>absurd h (by omega)⟩
 ·simp only[n_] at b;obtain⟨rfl,_,rfl⟩:=b;refine⟨hl,m,f,o,λ i=>⟨g,0,rfl,?_,λ j u=>?_⟩⟩
  ·rcases Zv g w.heap.size with q|r
   ·exact q
   ·rw[l_ r] at d;cases d
  ·have e:cur[j]? =some (.bool (gX.getD j false)):=by
    have k:(cur.toList.take (n*1))[j]? =(gX.map Value.bool)[j]? :=by rw[p]
    rw[i_ (by omega),m_,x_ (by omega:j<gX.length)] at k;rw[<-c_,k,u_,x_ (by omega:j<gX.length)];rfl
   simp[o_,d,e]
theorem JB:wK gX l=true↔∃x∈l,su gX x=true:=by unfold wK;rw[Zt]
end
section
open Go.RowKit
def xT(n:Nat)(v:Int):Bool:=decide (0<v)&&decide (v<n)
theorem Bg{v:Int}:xT n v=true↔0<v/\v<n:=by simp[xT]
theorem C0(B:Nat)(A:Option Addr)(n c:Nat)(v:Int)(w:World)(f:w.cell? ⟨B,0,none⟩=some (.slice A n c)):
  Calls z_ 206 #[.pointer (some ⟨B,0,none⟩),.int .i64 v] w λ e w'=>e=.returned (.bool (xT n v))/\w=w':=by
 by_cases b:0<v
 ·by_cases d:v<n
  all_goals
   go_enter Tryz.func206,Tryz.ntmps206
   go_wp2;go_ret;exact⟨nC (by simp[xT,b,d]),rfl⟩
 ·go_enter Tryz.func206,Tryz.ntmps206
  go_wp2;go_ret;exact⟨nC (by rw[xT,decide_eq_false (show¬0<v by omega)];rfl),rfl⟩
def mZ(n:Int):Bool:=decide (n<0)||decide (1099511627776<n)
theorem Bh(x:Int)(w:World):Calls z_ 205 #[.int .i64 x] w λ e w'=>e=.returned (.bool (mZ x))/\w=w':=by
 by_cases h1:x<0
 ·go_enter Tryz.func205,Tryz.ntmps205
  go_wp2;go_ret;exact⟨nC (by simp[mZ,h1]),rfl⟩
 ·by_cases b:1099511627776<x
  all_goals
   go_enter Tryz.func205,Tryz.ntmps205
   go_wp2;go_ret;exact⟨nC (by simp[mZ,h1,b]),rfl⟩
def vQ(act:List Int)(a b:Int):Int:=rW (ox (jP act b.toNat) (jP act a.toNat)) (ox a b)
theorem JC(B b off n c:Nat)(act:List Int)(x y:Nat)(w:World)(d:B<w.heap.size)(f:b<w.heap.size)(g:w.cell? ⟨B,0,none⟩=some (.slice (some ⟨b,off,none⟩) n c))
  (i:x<n) (j:y<n) (k:n<=17592186044416) (l:w.cell? ⟨b,off+x,none⟩=some (.int .i64 (jP act x))) (m:w.cell? ⟨b,off+y,none⟩=some (.int .i64 (jP act y))):
  Calls z_ 207 #[.pointer (some ⟨B,0,none⟩),.int .i64 x,.int .i64 y] w λ e w'=>e=.returned (.int .i64 (vQ act x y))/\Below w.heap.size w w':=by
 have o:(x:Int)<(n:Int):=by omega
 have p:(y:Int)<(n:Int):=by omega
 go_enter Tryz.func207,Tryz.ntmps207
 go_wp2;refine wp_region_still_tail 20 (by kernel_rfl) (by kernel_rfl) ?_;simp only[List.take_succ_cons,List.take_zero,List.drop_succ_cons,List.drop_zero]
 iterate 16 still_step
 still_call ((zM _ _ _).mono (λ e w' h=>⟨h.1,h.2.symm⟩))
 still_step
 still_step
 still_call ((zM _ _ _).mono (λ e w' h=>⟨h.1,h.2.symm⟩))
 refine wpStill_nil ?_;change wpList _ _ _ _ _ w.drew
 go_wp2_with fail
 refine(Bd w.heap.size (ox (jP act y) (jP act x)) (ox x y) _ (by go_simp) (by go_simp)).mono ?_;rintro e w' ⟨rfl,rfl⟩;go_wp2;go_ret;exact⟨pO (by simp[vQ]),((y_ _ _).alloc (v_ _) _).drew⟩
def JD(b:List Int)(w:World)(e:Ending)(w':World):Prop:=∃r:Int,e=.returned (.int .i64 r)/\(decide (0<=r)=b.any mZ)/\w=w'
theorem JE(h:k<ai.length)(e:mZ (jP ai k)=true):ai.any mZ=true:=by
 rw[ql h] at e;rw[Zt];exact⟨_,r_ h,e⟩
theorem JF(h:k<ai.length)(e:mZ (jP ai k)=false)(b:(ai.take k).any mZ=false):(ai.take (k+1)).any mZ=false:=by
 rw[vn ai k h,List.any_append,b];simp[e]
theorem JG(hl:ai.length=n)(h:¬k<n)(b:(ai.take k).any mZ=false):ai.any mZ=false:=by
 rw[q_ (by omega)] at b;exact b
theorem JH(A:Option Addr)(n c:Nat)(d:List Int)(w:World)(h:aP w A n c d):
  Calls z_ 142 #[.slice A n c,.func (.func 205) #[] #[]] w (JD d w):=by
 have q:=h.small;have H:=U h;clear h;go_enter Tryz.func142,Tryz.ntmps142
 go_wp2
 go_loop [8] (λ i=>∃k:Nat,k<=n/\i=.int .i64 k/\(d.take k).any mZ=false) (λ i=>n-(intOf i).toNat)
 case atStart=>exact⟨0,t_ _,rfl,rfl⟩
 case round=>
  obtain⟨k,hk,rfl,j⟩:=hrel;have l:=U j;clear j
  by_cases f:k<n
  ·obtain⟨b,off,rfl,r,m⟩:=H.o.cells (by omega);have s:=m k f;clear m;generalize p:mZ (jP d k)=o;have g:=U p;clear p
   cases o
   ·go_wp2_with (go_at_call 205;refine(Bh _ _).mono ?_;rintro e w' ⟨rfl,rfl⟩;rw[g.o])
    go_round
    case rel=>exact⟨k+1,by omega,by go_num,JF (by rw[H.o.len];exact f) g.o l.o⟩
    case measure=>simp[intOf];omega
   ·go_wp2_with (go_at_call 205;refine(Bh _ _).mono ?_;rintro e w' ⟨rfl,rfl⟩;rw[g.o])
    go_ret;exact⟨k,rfl,by rw[JE (by rw[H.o.len];exact f) g.o];simp,rfl⟩
  ·go_wp2;go_ret;exact⟨-1,rfl,by rw[JG H.o.len f l.o];rfl,rfl⟩
theorem Bi(A:Option Addr)(n c:Nat)(b:List Int)(w:World)(h:aP w A n c b):
  Calls z_ 120 #[.slice A n c,.func (.func 205) #[] #[]] w λ e w'=>e=.returned (.bool (b.any mZ))/\w=w':=by
 have H:=U h;clear h;go_enter Tryz.func120,Tryz.ntmps120
 go_wp2_with fail
 refine(JH A n c b _ H.o).mono ?_;rintro e w' ⟨r,rfl,d,rfl⟩;have f:=U d;clear d;go_wp2;go_ret;exact⟨nC f.o,rfl⟩
def tF(act l:List Int)(i:Nat):Bool:=xT act.length (jP l i)&&(decide (i=0)||decide (vQ act (jP l (i-1)) (jP l i)<0))
def uf(act l:List Int):Bool:=(List.range l.length).all (tF act l)
def vo(act:List Int):Bool:=decide (0<act.length)&&decide (act.length<=65537)&&decide (jP act 0=0)&& !(act.any mZ)
def wL(y:Int):Bool:=decide (y≠0)&& !(mZ y)
def ug(act l:List Int)(y:Int):Bool:=vo act&&wL y&&uf act l
def yK(b:Bool):Int:=if b then 0 else 1
theorem C1{b:Bool}(h:x=yK b):Zo (.int .i64 x)=.returned (.int .i64 (yK b)):=by rw[h]
theorem JI(B:Nat)(A:Option Addr)(n c:Nat)(act:List Int)(a b:Int)(w:World)(f:B<w.heap.size)(i:w.cell? ⟨B,0,none⟩=some (.slice A n c))(h:aP w A n c act)
  (j:0<=a/\a<n) (k:0<=b/\b<n):
  Calls z_ 207 #[.pointer (some ⟨B,0,none⟩),.int .i64 a,.int .i64 b] w λ e w'=>e=.returned (.int .i64 (vQ act a b))/\Below w.heap.size w w':=by
 obtain⟨x,rfl⟩:=Zp j.1;obtain⟨y,rfl⟩:=Zp k.1;obtain⟨g,off,rfl,l,d⟩:=h.cells (by omega);exact JC B g off n c act x y w f l i (by omega) (by omega) h.small (d x (by omega)) (d y (by omega))
theorem Fu(h:∀i,i<k->tF act l i=true)(e:tF act l k=true):∀i,i<k+1->tF act l i=true:=by
 intro i c
 by_cases b:i=k
 ·subst b;exact e
 ·exact h i (by omega)
theorem JJ(hl:l.length=n)(hk:¬k<n)(h:∀i,i<k->tF act l i=true):uf act l=true:=by
 unfold uf;rw[List.all_eq_true];intro i b;rw[List.mem_range] at b;exact h i (by omega)
theorem Fv(hk:k<l.length)(h:tF act l k=false):uf act l=false:=by
 unfold uf;rw[Zx];exact⟨k,List.mem_range.2 hk,by simp[h]⟩
section
variable (B:Nat)(A:Option Addr)(n c:Nat)(act:List Int)(A':Option Addr)(iw c':Nat)(l:List Int)(y:Int)(w:World)
theorem JK(s:B<w.heap.size)(P:w.cell? ⟨B,0,none⟩=some (.slice A n c))(Q:w.cell? ⟨B,1,none⟩=some (.slice A' iw c'))(aj:w.cell? ⟨B,2,none⟩=some (.int .i64 y))
  (h:aP w A n c act) (h':aP w A' iw c' l) (D:vo act=true) (E:wL y=true):
  Calls z_ 164 #[.pointer (some ⟨B,0,none⟩)] w λ e w'=>e=.returned (.int .i64 (yK (uf act l)))/\Below w.heap.size w w':=by
 have ak:=h.small;have al:=h'.small;have hlen:=h.len;simp only[vo,wL,Zr,decide_eq_true_eq,Bool.not_eq_true',ne_eq,hlen] at D E;obtain⟨⟨⟨a1,a2⟩,a3⟩,a4⟩:=D;obtain⟨F,G⟩:=E;have an:((n:Int)==0)=false:=by simp;omega
 have z2:¬(65537:Int)<n:=by omega
 have z3:(jP act 0 !=0)=false:=by simp[a3]
 have z4:(y==0)=false:=by simpa using F
 obtain⟨b,off,rfl,ao,I⟩:=h.cells (by omega);have R:=I 0 (by omega);simp only[Zq] at R;have H:=U h;have j:=U h';have g:=U hlen;have S:=U a4;have T:=U G;clear h h' hlen a4 G a3 F I;go_enter Tryz.func164,Tryz.ntmps164
 go_wp2_with fail
 refine(Bi _ n c act _ H.o).mono ?_;rintro e w' ⟨rfl,rfl⟩;rw[S.o]
 go_wp2_with fail
 refine(Bh _ _).mono ?_;rintro e w' ⟨rfl,rfl⟩;rw[T.o]
 go_wp2_with fail
 go_loopw [64] (λ i wr=>∃k:Nat,k<=iw/\i=.int .i64 k/\(∀i,i<k->tF act l i=true)/\Below w.heap.size w wr) (λ i _=>iw-(intOf i).toNat)
 case atStart=>exact⟨0,t_ _,rfl,λ i V=>absurd V (Nat.not_lt_zero _),y_ _ _⟩
 case round=>
  obtain⟨k,hk,rfl,J,d⟩:=hrel;have m:=U J;clear J;have H1:=U (H.o.below d);obtain⟨t,W⟩:=Ja d;have X:B<wr.heap.size:=s_ s d.size;have q:=(t B 0 s).trans P;have aq:=(t B 1 s).trans Q;clear t W
  by_cases r:k<iw
  ·obtain⟨u,v,rfl,K,z⟩:=j.o.cells (by omega);have Y:=(d.cell (p:=⟨u,v+k,none⟩) K).trans (z k r);have C:0<k->wr.cell? ⟨u,v+(k-1),none⟩=some (.int .i64 (jP l (k-1))):=λ ar=>(d.cell (p:=⟨u,v+(k-1),none⟩) K).trans (z (k-1) (by omega))
   clear z;generalize L:xT n (jP l k)=Z;have f:=U L;clear L
   cases Z
   ·go_wp2_with (go_at_call 206;refine(C0 B _ n c _ _ q).mono ?_;rintro e w' ⟨rfl,rfl⟩;rw[f.o])
    go_ret;exact⟨C1 (by rw[Fv (k:=k) (by rw[j.o.len];exact r) (by simp[tF,g.o,f.o])];rfl),d⟩
   ·by_cases aa:k=0
    ·subst aa;simp only[Zq] at Y;clear C
     go_wp2_with (go_at_call 206;refine(C0 B _ n c _ _ q).mono ?_;rintro e w' ⟨rfl,rfl⟩;rw[f.o])
     go_roundw
     case rel=>exact⟨1,by omega,by go_num,Fu m.o (by simp[tF,g.o,f.o]),d⟩
     case measure=>simp[intOf];omega
    ·have ab:0<k:=by omega
     have au:(0:Int)<k:=by omega
     have av:=C ab;clear C;have hp:=m.o (k-1) (by omega);simp only[tF,Zr,g.o,Bg] at hp;have ad:=hp.1;clear hp;have ae:=Bg.1 f.o
     go_wp2_with fail
     refine(C0 B _ n c _ _ q).mono ?_;rintro e w' ⟨rfl,rfl⟩;rw[f.o]
     go_wp2_with fail
     refine(JI B _ n c act _ _ _ X q H1.o ⟨by omega,ad.2⟩ ⟨by omega,ae.2⟩).mono ?_;rintro e af ⟨rfl,ag⟩;generalize M:vQ act (jP l (k-1)) (jP l k)=ah;have N:=U M;clear M;have O:Below w.heap.size w af:=d.trans (ag.mono d.size)
     by_cases ai:ah<0
     ·go_wp2_with fail
      go_roundw
      case rel=>exact⟨k+1,by omega,by go_num,Fu m.o (by simp only[tF,g.o,f.o,N.o];simp[ai]),O⟩
      case measure=>simp[intOf];omega
     ·go_wp2_with fail
      go_ret;exact⟨C1 (by rw[Fv (k:=k) (by rw[j.o.len];exact r) (by simp only[tF,g.o,f.o,N.o];simp;omega)];rfl),O⟩
  ·go_wp2_with fail
   go_ret;exact⟨C1 (by rw[JJ j.o.len r m.o];rfl),d⟩
theorem JL(m:B<w.heap.size)(p:w.cell? ⟨B,0,none⟩=some (.slice A n c))
  (h:aP w A n c act) (d:vo act=false):
  Calls z_ 164 #[.pointer (some ⟨B,0,none⟩)] w λ e w'=>e=.returned (.int .i64 1)/\Below w.heap.size w w':=by
 have q:=h.small;have hlen:=h.len
 by_cases a1:n=0
 ·have g:((n:Int)==0)=true:=by simp[a1]
  clear d h a1 hlen;go_enter Tryz.func164,Tryz.ntmps164
  go_wp2_with fail
  go_ret;exact⟨rfl,y_ _ _⟩
 have g:((n:Int)==0)=false:=by simp;omega
 by_cases a2:65537<n
 ·have z2:(65537:Int)<n:=by omega
  clear d h hlen;go_enter Tryz.func164,Tryz.ntmps164
  go_wp2_with fail
  go_ret;exact⟨rfl,y_ _ _⟩
 have z2:¬(65537:Int)<n:=by omega
 have hp:0<n:=by omega
 obtain⟨b,off,rfl,r,f⟩:=h.cells hp;have i:=f 0 hp;simp only[Zq] at i;clear f
 by_cases a3:jP act 0=0
 ·have z3:(jP act 0 !=0)=false:=by simp[a3]
  have a4:act.any mZ=true:=by
   simp only[vo,hlen,a3] at d;have j:decide (0<n)=true:=by simpa using hp
   have k:decide (n<=65537)=true:=by simp;omega
   rw[j,k] at d;simpa using d
  have H:=U h;have l:=U a4;clear d h hlen a3 a4;go_enter Tryz.func164,Tryz.ntmps164
  go_wp2_with fail
  refine(Bi _ n c act _ H.o).mono ?_;rintro e w' ⟨rfl,rfl⟩;rw[l.o]
  go_wp2_with fail
  go_ret;exact⟨rfl,y_ _ _⟩
 ·have z3:(jP act 0 !=0)=true:=by simpa using a3
  clear d h hlen a3;go_enter Tryz.func164,Tryz.ntmps164
  go_wp2_with fail
  go_ret;exact⟨rfl,y_ _ _⟩
theorem JM(q:B<w.heap.size)(r:w.cell? ⟨B,0,none⟩=some (.slice A n c))(s:w.cell? ⟨B,2,none⟩=some (.int .i64 y))
  (h:aP w A n c act) (f:vo act=true) (g:wL y=false):
  Calls z_ 164 #[.pointer (some ⟨B,0,none⟩)] w λ e w'=>e=.returned (.int .i64 1)/\Below w.heap.size w w':=by
 have t:=h.small;have hlen:=h.len;simp only[vo,Zr,decide_eq_true_eq,Bool.not_eq_true',hlen] at f;obtain⟨⟨⟨a1,a2⟩,a3⟩,a4⟩:=f;have u:((n:Int)==0)=false:=by simp;omega
 have z2:¬(65537:Int)<n:=by omega
 have z3:(jP act 0 !=0)=false:=by simp[a3]
 obtain⟨b,off,rfl,v,i⟩:=h.cells (by omega);have l:=i 0 (by omega);simp only[Zq] at l;have H:=U h;have j:=U a4;have m:=U g;clear h hlen a4 a3 i g
 by_cases d:y=0
 ·have z4:(y==0)=true:=by simpa using d
  clear d;go_enter Tryz.func164,Tryz.ntmps164
  go_wp2_with fail
  refine(Bi _ n c act _ H.o).mono ?_;rintro e w' ⟨rfl,rfl⟩;rw[j.o]
  go_wp2_with fail
  go_ret;exact⟨rfl,y_ _ _⟩
 ·have z4:(y==0)=false:=by simpa using d
  have k:mZ y=true:=by have:=m.o;simp only[wL] at this;simpa[d] using this
  have p:=U k;clear d k;go_enter Tryz.func164,Tryz.ntmps164
  go_wp2_with fail
  refine(Bi _ n c act _ H.o).mono ?_;rintro e w' ⟨rfl,rfl⟩;rw[j.o]
  go_wp2_with fail
  refine(Bh _ _).mono ?_;rintro e w' ⟨rfl,rfl⟩;rw[p.o]
  go_wp2_with fail
  go_ret;exact⟨rfl,y_ _ _⟩
theorem JN(f:B<w.heap.size)(g:w.cell? ⟨B,0,none⟩=some (.slice A n c))(j:w.cell? ⟨B,1,none⟩=some (.slice A' iw c'))(i:w.cell? ⟨B,2,none⟩=some (.int .i64 y))
  (h:aP w A n c act) (h':aP w A' iw c' l):
  Calls z_ 164 #[.pointer (some ⟨B,0,none⟩)] w λ e w'=>e=.returned (.int .i64 (yK (ug act l y)))/\Below w.heap.size w w':=by
 cases b:vo act
 ·have e:ug act l y=false:=by simp[ug,b]
  rw[e];exact JL B A n c act w f g h b
 ·cases d:wL y
  ·have e:ug act l y=false:=by simp[ug,d]
   rw[e];exact JM B A n c act y w f g i h b d
  ·have e:ug act l y=uf act l:=by simp[ug,b,d]
   rw[e];exact JK B A n c act A' iw c' l y w f g j i h h' b d
theorem JO(h:aP w A n c act)(h':aP w A' iw c' l):
  Calls z_ 111 #[.agg #[.slice A n c,.slice A' iw c',.int .i64 y]] w λ e w'=>e=.returned (.int .i64 (yK (ug act l y)))/\Below w.heap.size w w':=by
 have H:=U h;have b:=U h';clear h h';go_enter Tryz.func111,Tryz.ntmps111
 go_wp2_with fail
 refine(JN (w.heap.size+1) A n c act A' iw c' l y _ (by simp) (by go_simp) (by go_simp) (by go_simp) ((H.o.alloc _).alloc _) ((b.o.alloc _).alloc _)).mono ?_;rintro e f ⟨rfl,d⟩
 go_wp2_with fail
 go_ret;exact⟨rfl,(((y_ _ _).alloc (v_ _) _).alloc (by simp) _).trans (d.mono (by simp;omega))⟩
end
end
section
open Go.RowKit
def rC(k:Nat):List Int:=(List.range k).map (λ i:Nat=>(i:Int)+1)
theorem wM(k:Nat):(rC k).length=k:=by simp[rC]
theorem JQ(k:Nat):rC (k+1)=rC k++[(k:Int)+1]:=by simp[rC,List.range_succ]
def sv(k:Nat):List Int:=List.replicate k 0
theorem wN(k:Nat):(sv k).length=k:=by simp[sv]
theorem JR(k:Nat):(madeCells (w_ .i64 0).cells k).toList=(sv k).map (w_ .i64):=by
 show(madeCells #[w_ .i64 0] k).toList=_;rw[toList_madeCells_one];simp[sv]
def Fw(act l:List Int)(y:Int)(w:World)(e:Ending)(w':World):Prop:=
 ∃(A:Option Addr)(c:Nat)(A':Option Addr)(c':Nat),e=.returned (.tuple #[.agg #[.slice A act.length c,.slice A' l.length c',.int .i64 y],.int .i64 0])/\
  aP w' A act.length c act/\aP w' A' l.length c' l/\(∀b off,A=some ⟨b,off,none⟩->w.heap.size<=b)/\(∀b off,A'=some ⟨b,off,none⟩->w.heap.size<=b)/\Below w.heap.size w w'
theorem aP.nD(h:aP w A n c ai)(v:Value){p:Addr}(d:∀b off,A=some ⟨b,off,none⟩->b≠p.block):aP (w.setCell p v) A n c ai:=by
 refine⟨h.len,h.cap,h.mG,h.n9,λ f=>?_⟩;obtain⟨b,off,e,g,i⟩:=h.cells f;exact⟨b,off,e,by simpa[Zi] using g,λ j k=>(Zk (a_ _ _ _ _ (d b off e))).trans (i j k)⟩
theorem JS{o:Obj}{row:Option Nat}{i:Nat}(b:(w.alloc o).grownBy w1 row)(c:∀g,row=some g->base<=g)(d:i<base)(hs:i<w.heap.size):w1.heap[i]? =w.heap[i]? :=
 (b.block i (by simp;omega) (λ e=>by have:=c i e.symm;omega)).trans (d_ _ _ _ hs)
theorem JT{jJ kC k4 v1:Value}(h:w.heap[B]? =some (.cells #[jJ,kC,k4] t (0,0))):
  (w.setCell ⟨B,1,none⟩ v1).heap[B]? =some (.cells #[jJ,v1,k4] t (0,0)):=by
 simp[Zi,Array.getElem?_modify,h]
theorem JU(n:Nat)(w:World)(h:n<=65536):
  Calls z_ 104 #[.int .i64 n] w (Fw (sv (n+1)) (rC n) 1 w):=by
 obtain⟨i0,d,B,C,D⟩:=info_parts xS;have Q:∀W:World,(Instr.makeSlice 25 (.int .i64 ((n:Int)+1)) (.int .i64 ((n:Int)+1))).run z_ W=.ok (.slice (some ⟨W.heap.size,0,none⟩) (n+1) (n+1)) (W.alloc (.cells (madeCells (w_ .i64 0).cells (n+1)) 3)):=λ W=>by
  have:=run_make (P:=z_) W 25 3 i0 (.int .i64 0) h_ d B .i64 .i64 ((n:Int)+1) ((n:Int)+1) (by omega) (by omega) (by rw[D];omega) (by omega);rw[C,show((n:Int)+1).toNat=n+1 by omega,Nat.mul_one] at this;exact this
 generalize E:madeCells (w_ .i64 0).cells (n+1)=cs at Q;have F:=U E;clear E;go_enter Tryz.func104,Tryz.ntmps104
 go_wp2_with fail
 go_loopw [18] (λ i wr=>∃(k:Nat)(A:Option Addr)(c:Nat),k<=n/\i=.int .i64 k/\wr.heap[w.heap.size+1+1]? =some (.cells #[.slice (some ⟨w.heap.size+1,0,none⟩) (n+1) (n+1),.slice A k c,.int .i64 1] 44 (0,0))/\
   wr.heap[w.heap.size+1]? =some (.cells cs 3 (0,0))/\wr.heap[w.heap.size]? =some (.cells #[.slice none 0 0,.slice none 0 0,.int .i64 0] 44 (0,0))/\
   wr.ownsRow (w.heap.size+3) 3 1 (.slice A k c) k ((rC k).map (w_ .i64))/\Below w.heap.size w wr/\w.heap.size+1+1<wr.heap.size) (λ i _=>n-(intOf i).toNat)
 case atStart=>
  refine⟨0,none,0,t_ _,rfl,?_,?_,?_,World.ownsRow_nil _ _ _ _,?_,by simp⟩
  ·have e:=Zl ((w.alloc (.cells #[.slice none 0 0,.slice none 0 0,.int .i64 0] 44)).alloc (.cells cs 3)) (.cells #[.slice (some ⟨w.heap.size+1,0,none⟩) (n+1) (n+1),.slice none 0 0,.int .i64 1] 44);simpa using e
  ·have e:=Zl (w.alloc (.cells #[.slice none 0 0,.slice none 0 0,.int .i64 0] 44)) (.cells cs 3);exact(d_ _ _ _ (by simp)).trans (by simpa using e)
  ·exact(d_ _ _ _ (by simp;omega)).trans ((d_ _ _ _ (by simp)).trans (Zl _ _))
  ·exact(((y_ _ _).alloc (v_ _) _).alloc (by simp) _).alloc (by simp;omega) _
 case round=>
  obtain⟨k,A,c,hk,rfl,hH,G,f,j,s,t⟩:=hrel;have R:=U hH;have H:=U G;have q:=U f;have ag:wr.cell? ⟨w.heap.size+1+1,0,none⟩=some (.slice (some ⟨w.heap.size+1,0,none⟩) (n+1) (n+1)):=by simp[o_,hH]
  have I:wr.cell? ⟨w.heap.size+1+1,1,none⟩=some (.slice A k c):=by simp[o_,hH]
  have ah:wr.cell? ⟨w.heap.size+1+1,2,none⟩=some (.int .i64 1):=by simp[o_,hH]
  have J:wr.frozen? ⟨w.heap.size+1+1,1,none⟩=false:=by simp[Zy,hH]
  have l:∀i,i<3->∃u,wr.cell? ⟨w.heap.size,i,none⟩=some u:=λ i d=>by
   match i,d with
   |0,_=>exact⟨_,by simp[o_,f];rfl⟩
   |1,_=>exact⟨_,by simp[o_,f];rfl⟩
   |2,_=>exact⟨_,by simp[o_,f];rfl⟩
  clear hH G f
  by_cases ai:k<n
  ·clear l
   go_wp2_with (at_builtin;refine wpList_append_own_at _ rfl _ _ 25 rfl (w.heap.size+3) 3 i0 (.int .i64 0) 1 8 h_ d B C D rfl (by decide) _ _ _ rfl (j.alloc _) ⟨wr.heap.size,0,none⟩ 1 1 [.int .i64 ((k:Int)+1)] rfl rfl (cell_one_new _ _ _) (by simp[Value.oneCell']) (by unfold maxLen;omega) (by omega) (by simp;omega) ?_;intro v' w1 K y aj ak;obtain⟨S,T,rfl⟩:=CX K;have L:∀g,(Value.slice A k c).ownBlock=some g->w.heap.size+3<=g:=(λ g z=>(Bf j z).1);have m:=(λ i (d:i<w.heap.size+3) (hs:i<wr.heap.size)=>JS y L d hs);have al:w1.cell? ⟨w.heap.size+1+1,1,none⟩=some (.slice A k c):=(Zk (m (w.heap.size+1+1) (by omega) t)).trans I;have an:w1.frozen? ⟨w.heap.size+1+1,1,none⟩=false:=(World.frozen?_of_block (m (w.heap.size+1+1) (by omega) t)).trans J;clear I J)
   have V:=JT (v1:=.slice (some ⟨S,0,none⟩) (k+1) T) ((m (w.heap.size+1+1) (by omega) t).trans R.o);have ao:wr.heap.size<=w1.heap.size:=by have:=y.size;simp at this;omega
   go_roundw
   case rel=>
    refine⟨k+1,_,_,by omega,by go_num,V,?_,?_,?_,?_,?_⟩
    ·exact(a_ _ _ _ _ (by simp)).trans ((m (w.heap.size+1) (by omega) (by omega)).trans H.o)
    ·exact(a_ _ _ _ _ (by simp;omega)).trans ((m w.heap.size (by omega) (by omega)).trans q.o)
    ·rw[JQ,Zn];exact ownsRow_setCell_below K (by simp) _
    ·exact((s.alloc s.size _).grown y (by simp;omega) (λ g z=>by have:=L g z;omega)).setCell (by simp;omega) _
    ·simp[Zi];omega
   case measure=>simp[intOf];omega
  ·have X:k=n:=by omega
   subst X;obtain⟨aq,Y⟩:=l 0 (by omega);obtain⟨ar,Z⟩:=l 1 (by omega);obtain⟨au,aa⟩:=l 2 (by omega);have av:wr.frozen? ⟨w.heap.size,0,none⟩=false:=by simp[Zy,q.o]
   have aw:wr.frozen? ⟨w.heap.size,1,none⟩=false:=by simp[Zy,q.o]
   have ax:wr.frozen? ⟨w.heap.size,2,none⟩=false:=by simp[Zy,q.o]
   clear l;have M:aP wr (some ⟨w.heap.size+1,0,none⟩) (k+1) (k+1) (sv (k+1)):=by
    have ab:(sv (k+1)).map (w_ .i64)=cs.toList:=by rw[<-F.o,JR]
    have ad:cs.size=k+1:=by rw[<-F.o,size_madeCells]
    exact aP.kZ (base:=0) ⟨by simp[wN],Or.inr ⟨_,_,cs,rfl,t_ _,H.o,v_ _,by unfold maxLen;omega,by omega,by rw[ab,q_ (by simp[ad])]⟩⟩ (by omega)
   have N:aP wr A k c (rC k):=aP.kZ j (by omega);have O:∀b off,A=some ⟨b,off,none⟩->w.heap.size+3<=b:=λ b off e=>(Bf j (g:=b) (by rw[e];rfl)).1
   have ae:=U M;have af:=U N;have r:=U O;clear M N O j
   go_wp2_with fail
   refine bodyPost_ret (v:=.tuple #[.agg #[.slice (some ⟨w.heap.size+1,0,none⟩) (k+1) (k+1),.slice A k c,.int .i64 1],.int .i64 0]) (by simp[results,Tryz.results104,go_sem,Y,Z,aa]) rfl ?_;refine⟨_,_,_,_,by rw[wN,wM],?_,?_,λ b off e=>by cases e;omega,λ b off e=>by have:=r.o b off e;omega,((s.setCell (by simp) _).setCell (by simp) _).setCell (by simp) _⟩
   ·rw[wN];exact((ae.o.nD _ (p:=⟨w.heap.size,0,none⟩) λ b off e=>by cases e;simp).nD _ (p:=⟨w.heap.size,1,none⟩) λ b off e=>by cases e;simp).nD _ (p:=⟨w.heap.size,2,none⟩) λ b off e=>by cases e;simp
   ·rw[wM];exact((af.o.nD _ (p:=⟨w.heap.size,0,none⟩) λ b off e=>by have:=r.o b off e;simp;omega).nD _ (p:=⟨w.heap.size,1,none⟩) λ b off e=>by have:=r.o b off e;simp;omega).nD _ (p:=⟨w.heap.size,2,none⟩) λ b off e=>by have:=r.o b off e;simp;omega
end
end Go.Proofs.YtogdlkfacflmaaaGreat
