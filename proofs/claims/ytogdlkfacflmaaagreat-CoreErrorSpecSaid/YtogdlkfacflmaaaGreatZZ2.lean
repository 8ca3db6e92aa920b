/- Parts of the walk of the solver and its core; no condition. -/
import Derived.RangeFuncNested
import Derived.RangeFuncBound
import Derived.RangeFuncCalls
import Derived.RangeFuncLeaves
import Derived.StillTailTactics
import Derived.Deep.Quiet
import Derived.OrdersIn
import Derived.Test.YtogdlkfacflmaaaGreatRows
import Derived.WalkKit
import Derived.Below
import Derived.Laws.OwnMore
import Derived.Test.YtogdlkfacflmaaaGreatZZ1
namespace Go.Proofs.YtogdlkfacflmaaaGreat
set_option linter.unusedVariables false
set_option linter.unusedSimpArgs false
open _root_.List renaming getD_eq_getElem?_getD→z_,mem_singleton→x_,mem_append→v_,take_append_of_le_length→u_,length_append→t_,mem_iff_getElem→r_,length_take→p_,getElem?_eq_getElem→n_,mem_cons→m_,getElem?_append_left→k_,getElem?_set→j_,nodup_append→i_,take_length→h_,take_take→g_,map_cons→f_,getElem_drop→e_,getElem_inj→d_,length_drop→c_,nodup_cons→Zz,length_set→Zy,length_singleton→Zx,countP_eq_length→Zw,mem_map→Zu
open _root_.Or renaming inr→y_,inl→w_
open _root_.Go.World renaming putObj_heap_other→s_,alloc_heap_new→Zv
open _root_.Nat renaming le_refl→q_,lt_or_ge→b_
open _root_.Go.Fence renaming wide→o_
open _root_.Array renaming getElem?_eq_some_iff→l_,replicate→a_
variable{n k m:Nat}{l8 α:Type}{t:TypeId}{cs:List Value}{w':World}{x y:Int}{l:List Int}
section
open Go.RowKit
variable {F:Fence}{n:Nat}{P:Program}
def Fb{α:Type}(F:Fence)(n:Nat)(P:Program)(g:Nat)(lb:Array Value)(d:α->Array Value)(f:World->World->Prop)(h:List α->α->Prop)(S i:List α->Prop)(w:World):Prop:=
 ∀(l:Nat)(a c:List α->World->Prop)(W:World),Below w.heap.size w W->
  (∀pre x b,a pre b->h pre x->YieldAt F (n-1) P l (d x) b λ e W'=>
   (e=.returned (.bool true)/\a (pre++[x]) W'/\f b W')\/(e=.returned (.bool false)/\c (pre++[x]) W'))->
  a [] W->
  CallsIn F n P g (#[.func (.yield l) #[] #[]]++lb) W λ e W'=>(∃v,e=.returned v)/\((∃xs,S xs/\a xs W')\/(∃pre,i pre/\c pre W'))
def JB(fn:FuncId)(tmps:Array Value)(a:Array Tmp)(assign body:Code)(D:Nat)(st:LoopState)(b:Option Code):Loop:=
 {state:=st,pending:=b,fn,tmps,params:=a,assign,body,defers:=D}
structure u7(W:World)(D:Nat)(r:Loop):Prop where
 log:W.heap[D+1]? =some (.loop r)
 AX:W.heap[D]? =some (.deferred (some []))
theorem u7.put{W:World}{D:Nat}{r:Loop}(h:u7 W D r)(r':Loop):u7 (W.putObj (D+1) (.loop r')) D r':=
 ⟨World.putObj_heap_same (l_.1 h.log).1,(s_ (by omega)).trans h.AX⟩
theorem u7.from{W W':World}{D:Nat}{r:Loop}(h:u7 W D r)(hk:KeepsFrom D W W'):u7 W' D r:=
 ⟨hk.same _ _ (by omega) h.log rfl,hk.same _ _ (q_ _) h.AX rfl⟩
theorem CM{α:Type}{g:Operand}{sM:Array Tmp}{assign body:Code}{Q:Exit->Act->World->Prop}{a:Act}{w:World}
  (ad:F.round=none) (h1:1<=n) {gf:Nat} {lb:Array Value} (ae:a.eval g=.func (.func gf) #[] lb) (af:F.fn gf) (ag:∀args w,(callFunc gf args).run P w=.ok (.enter gf args) w)
  {yl:α->Array Value} {u6:World->World->Prop} {zo:List α->α->Prop} {S AW:List α->Prop} {w0:World} (ah:Fb F (n-1) P gf lb yl u6 zo S AW w0)
  (J:∀{A B C:World},u6 A B->u6 B C->u6 A C) (T:∀(W:World)(l:Nat)(o ai:Obj),w.heap.size<=l->W.heap[l]? =some o->o.isCells=false->o.isWalk=false->u6 W (W.putObj l ai)) (U:Below w0.heap.size w0 w) (aj:∀x,(yl x).size=sM.size)
  (f:List α->World->Prop) (z:Code->List α->World->Prop) (E:OwnFrom w.heap.size f) (G:∀c,OwnFrom w.heap.size (z c)) (ak:f [] w) (V:α->World->Act) (i:α->World->World)
  (al:∀(l:Nat)(pre:List α)(x:α)(W:World)(K:Act->World->Prop),f pre W->zo pre x->K (V x W) (i x W)->
   assign.wpIn (F.inRound l) (n-1-1) P (Exit.then K (λ _ _ _=>False)) {tmps:=(sM.zip (yl x)).foldl (λ t (p,v)=>t.setIfInBounds p v) a.tmps,defers:=[]} W)
  (an:∀(pre:List α)(x:α)(W:World),f pre W->KeepsFrom w.heap.size W (i x W)/\u6 W (i x W))
  (ao:∀(l:Nat)(pre:List α)(x:α)(u W:World),f pre u->(∃o X:Obj,W=(i x u).putObj (w.heap.size+1) o/\o.isCells=false/\(i x u).heap[w.heap.size+1]? =some X/\X.isCells=false)->zo pre x->w.heap.size+1<u.heap.size->body.wpIn (F.inRound l) (n-1-1) P (ownPostG w.heap.size u6 f z (pre++[x]) W) (V x u) W)
  (aq:∀(D:Nat)(xs:List α)(W:World),w.heap.size<=D->S xs->f xs W->W.heap[D]? =some (.deferred (some []))->Q .normal {a with defers:={target:=.collected D,args:= #[]}::a.defers} W)
  (ar:∀(D:Nat)(c:Code)(pre:List α)(W:World),w.heap.size<=D->AW pre->z c pre W->W.heap[D]? =some (.deferred (some []))->c.wpIn F n P Q {a with defers:={target:=.collected D,args:= #[]}::a.defers} W):
  (Code.rangeFunc g sM assign body).wpIn F n P Q a w:=by
 refine wpIn_rangeFunc λ fn au=>?_
 rw[ad];obtain⟨b,j⟩:∃b:LoopState->Option Code->Loop,b=JB fn a.tmps sM assign body w.heap.size:=⟨_,rfl⟩
 have av:∀st y,(b st y).params=sM:=λ st y=>by rw[j];rfl
 have L:∀st y,(b st y).state=st:=λ st y=>by rw[j];rfl
 obtain⟨k,H⟩:∃k,(w.alloc (.deferred (some []))).alloc (.loop (b .ready none))=k:=⟨_,rfl⟩
 have aw:u7 k w.heap.size (b .ready none):=by
  rw[<-H];refine⟨?_,(Below.heap_alloc _ _ _ (by simp)).trans (Zv w _)⟩;have:=Zv (w.alloc (.deferred (some []))) (.loop (b .ready none))
  rwa[World.size_alloc] at this
 refine⟨w.heap.size+1,[{target:=.collected w.heap.size,args:= #[]}],k,{target:=.fn (.func gf) lb,args:= #[.func (.yield (w.heap.size+1)) #[] #[]]},k,gf,
  #[.func (.yield (w.heap.size+1)) #[] #[]]++lb,k,by rw[<-H,j];exact run_enterLoop_outer _ _ _ _ _,by simp only[resolve,ae];simp[go_sem],λ aD Y=>by simp[Target.leads] at Y;subst Y;exact af,by simp[invoke,go_sem,ag],λ _=>h1,?_⟩
 refine(ah (w.heap.size+1) (λ pre W=>f pre W/\u7 W w.heap.size (b .ready none)) (λ pre W=>∃c,z c pre W/\u7 W w.heap.size (b .done (some c))) k (by
  rw[<-H];exact U.trans ((((Below.refl _ w).alloc (q_ _) _).alloc (by simp) _).mono U.size)) ?_ ⟨by rw[<-H];exact E.alloc _ (E.alloc _ ak),aw⟩).mono ?_
 ·rintro pre x W ⟨m,M⟩ Z;have aa:=run_yield (P:=P) (args:=yl x) M.log (by rw[av];exact aj x);rw[j] at aa;refine⟨fn,_,assign,body,aa,roundIn_of_wpIn au ?_⟩;have ab:=an pre x W m;have I:=M.from ab.1
  refine al _ pre x W _ m Z ⟨_,run_beginRound I.log (by rw[L]),?_⟩;have ax:=I.put {b .ready none with state:=.busy};refine wpIn_mono (ao _ pre x W _ m ⟨_,_,rfl,rfl,I.log,rfl⟩ Z (l_.1 M.log).1) ?_;have ay:u6 W ((i x W).putObj (w.heap.size+1) (.loop {b .ready none with state:=.busy})):=J ab.2 (T _ _ _ _ (by omega) I.log rfl rfl);have fin:∀(jump:Option Code)(d:World),KeepsFrom w.heap.size ((i x W).putObj (w.heap.size+1) (.loop {b .ready none with state:=.busy})) d->
    ∃N,N=d.putObj (w.heap.size+1) (.loop (b (if jump.isNone then .ready else .done) jump))/\(Instr.endRound (w.heap.size+1) jump).run P d=.ok (.bool jump.isNone) N/\
    d.heap[w.heap.size+1]? =some (.loop {b .ready none with state:=.busy})/\u7 N w.heap.size (b (if jump.isNone then .ready else .done) jump):=λ jump d O=>by
   have R:=ax.from O
   refine⟨_,rfl,?_,R.log,R.put _⟩;have:=run_endRound (P:=P) jump R.log;rw[j] at this⊢;exact this
  rintro e a3 d hp
  cases e with
  |normal=>
   obtain⟨O,az,aA⟩:=hp;obtain⟨_,rfl,q,h,r⟩:=fin none d O;exact⟨_,_,q,.inl ⟨rfl,⟨E.putObj _ aA (by omega) h rfl,r⟩,J (J ay az) (T _ _ _ _ (by omega) h rfl rfl)⟩⟩
  |ret=>
   obtain⟨_,rfl,q,h,r⟩:=fin (some .ret) d hp.1;exact⟨_,_,q,.inr ⟨rfl,_,(G _).putObj _ hp.2 (by omega) h rfl,r⟩⟩
  |exit id=>
   obtain⟨_,rfl,q,h,r⟩:=fin (some (.exit id)) d hp.1;exact⟨_,_,q,.inr ⟨rfl,_,(G _).putObj _ hp.2 (by omega) h rfl,r⟩⟩
  |goto t=>
   obtain⟨_,rfl,q,h,r⟩:=fin (some (.goto t)) d hp.1;exact⟨_,_,q,.inr ⟨rfl,_,(G _).putObj _ hp.2 (by omega) h rfl,r⟩⟩
  |panic aE=>exact hp.elim
  |outgrown=>exact hp.elim
 ·rintro e aF ⟨⟨v,rfl⟩,(⟨xs,aB,m,s⟩|⟨pre,aC,c,m,s⟩)⟩
  ·exact⟨none,_,by have:=run_endLoop (P:=P) s.log (by rw[L];simp);rw[j] at this;exact this,aq _ xs _ (q_ _) aB (E.putObj _ m (by omega) s.log rfl) ((s_ (by omega)).trans s.AX)⟩
  ·exact⟨some c,_,by have:=run_endLoop (P:=P) s.log (by rw[L];simp);rw[j] at this;exact this,ar _ c pre _ (q_ _) aC ((G c).putObj _ m (by omega) s.log rfl) ((s_ (by omega)).trans s.AX)⟩
def zq(ops:List Oper):Bool:=ops.all λ o=>match o.op with| .defer _=>false|_=>true
theorem JC{ops:List Oper}(h:zq ops=true){i:Nat}{o:Oper}(a:ops.toArray[i]? =some o):∀c,o.op≠ .defer c:=by
 intro c e;have hm:o∈ops:=by
  rw[List.getElem?_toArray] at a;exact List.mem_of_getElem? a
 have:=List.all_eq_true.1 h o hm;rw[e] at this
 cases this
theorem JD{o:Oper}(g:∀c,o.op≠ .defer c){l:Nat}{a:Act}{w:World}{next:Act->World->Prop}{Q:Exit->Act->World->Prop}(i:¬LetsOut Q)(h:o.wp P a w next Q):o.wpIn (o_.inRound l) n P a w next Q:=by
 unfold Oper.wp at h;unfold Oper.wpIn;refine⟨λ _ _=>trivial,?_⟩;rw[Oper.semAt_eq _ _ _ g];generalize (execOp a.eval o).run P w=r at*
 cases r with
 |ok x w'=>
  cases x with
  |enter f args=>exact⟨λ h=>by simp[Fence.inRound,o_] at h,(callsIn_wide (n:=n-1)).2 (Calls.mono h λ e j he=>by cases e<;>exact he)⟩
  |row r args=>exact⟨λ h=>by simp[Fence.inRound,o_] at h,λ c cs _=>let ⟨v,w',r,s⟩:=h c cs;⟨v,w',r,stepsIn_wide.2 s⟩⟩
  |round l f t s b=>exact h.elim
  |value v=>exact h
  |skip=>exact h
  |defer d=>exact h
  |_=>exact h.elim
 |halt x w'=>cases x<;>exact h
theorem zu{ops:List Oper}{l:Nat}{Q:Exit->Act->World->Prop}(c:zq ops=true)(b:¬LetsOut Q):∀(L:List Nat)(a:Act)(w:World),wpOps P ops.toArray Q L a w->wpOpsIn (o_.inRound l) n P ops.toArray Q L a w
 |[],a,w,h=>h
 |i::rest,a,w,h=>by
  simp only[wpOps] at h;simp only[wpOpsIn]
  cases d:ops.toArray[i]? with
  |none=>rw[d] at h;exact zu c b rest a w h
  |some o=>
   rw[d] at h;dsimp only at h⊢;split at h
   ·rename_i hw;rw[if_pos hw];rcases h with h|h
    ·exact Oper.wpIn_mono (λ a w h=>zu c b rest a w h) (JD (JC c d) b h)
    ·exact absurd h.2 b
   ·rename_i hw;rw[if_neg hw];exact⟨λ _ _=>trivial,zu c b rest _ w h⟩
theorem JE{id:Nat}{ops:List Oper}{l:Nat}{Q:Exit->Act->World->Prop}{a:Act}{w:World}(hm:P.follows .mixedOrders=true)(b:zq ops=true)(c:¬LetsOut Q)
  (h:wpAny P .any ops.toArray Q ops.toArray.size (a_ ops.toArray.size false) a {w with drawn:=w.drawn+1}):(Code.region id ops.toArray true).wpIn (o_.inRound l) n P Q a w:=
 wpIn_region_draw λ t=>by
  simp only[Region.schedule,hm,Bool.true_or,if_true];exact zu b c _ _ _ (wpAny_sound ops.toArray.size t _ a _ h)
theorem CN{id:Nat}{l:Nat}{Q:Exit->Act->World->Prop}{a:Act}{w:World}{ops:List Oper}(m:Nat)(hm:P.follows .mixedOrders=true)(o:zq ops=true)(p:¬LetsOut Q)(d:Region.lexTailB .any ops.toArray m=true)
  (h:wpStill P ops.toArray {w with drawn:=w.drawn+1} (λ c=>wpList P ops.toArray Q (ops.drop m) c {w with drawn:=w.drawn+1}) (ops.take m) a):(Code.region id ops.toArray true).wpIn (o_.inRound l) n P Q a w:=by
 simp only[Region.lexTailB,Bool.and_eq_true,decide_eq_true_eq] at d;obtain⟨⟨⟨⟨h1,e⟩,q⟩,r⟩,f⟩:=d;have x:m<ops.length:=by simpa using e
 have b:(ops.take m).length=m:=by simp;omega
 have s:m+(ops.drop m).length=ops.toArray.size:=by simp;omega
 have u:ops.toArray.size-m=(ops.drop m).length:=by simp
 rw[u] at f;have H:=wpAnyL_lex (md:=.any) (g:=(ops.drop m).length) h1 q r e (ops.take m) 0 _ a (λ j i=>by rw[b] at i;simp[i]) (by simpa using b)
  (show HeadInv .any ops.toArray m (a_ ops.toArray.size false) from⟨by simp,λ j y _ hl=>(by rw[getD_replicate_false] at hl;cases hl),λ t _ v=>getD_in (by simpa using v) (getD_replicate_false _ _)⟩) (by rw[b];exact f) h
 refine JE hm o p ?_;have K:=wpAny_of_head (Q':=Q) (g:=(ops.drop m).length) (λ listed c k=>wpAny_of_seq (md:=.any) (Q':=Q) (ops.drop m) m listed c _ (λ j=>by simp[List.getElem?_drop]) k.1 k.2) _ _ _ H;rw[b,s] at K;exact K
def oB(D:Nat):Deferred:={target:=.collected D,args:= #[]}
structure Shut(ds:List Nat)(W W':World):Prop where
 os:W'.os=W.os
 tape:W'.tape=W.tape
 output:W'.output=W.output
 size:W'.heap.size=W.heap.size
 block:∀k,k∉ds->W'.heap[k]? =W.heap[k]?
theorem Shut.below{ds:List Nat}{W W' w:World}{CO:Nat}(h:Shut ds W W')(a:Below CO w W)(b:∀D∈ds,CO<=D):Below CO w W':=
 ⟨h.os.trans a.os,h.tape.trans a.tape,h.output.trans a.output,by rw[h.size];exact a.size,λ k hk=>(h.block k (λ hm=>by have:=b k hm;omega)).trans (a.block k hk)⟩
theorem Shut.cell{ds:List Nat}{W W':World}(h:Shut ds W W'){p:Addr}(hp:p.block∉ds):W'.cell? p=W.cell? p:=World.cell?_of_block (w:=W) (h.block p.block hp)
theorem Fc{F:Fence}{n:Nat}{P:Program}{fn:Func}{tmps:Array Value}{aN:Ending->World->Prop}{u:FrameMode}(hu:u≠ .run):∀(ds:List Nat)(W:World),ds.Nodup->(∀D∈ds,W.heap[D]? =some (.deferred (some [])))->
  (∀W',Shut ds W W'->LeavesIn F n P fn tmps aN [] u W')->LeavesInM F n P fn tmps aN (ds.map oB) u W
 |[],W,_,_,h=>h W ⟨rfl,rfl,rfl,rfl,λ _ _=>rfl⟩
 |D::ds,W,d,a,h=>by
  have b:=Zz.1 d;refine⟨hu,.inl ⟨D,_,rfl,run_takeDeferred (a D (by simp)),Fc hu ds _ b.2 (λ E c=>?_) (λ W' hs=>h W' ?_)⟩⟩
  ·rw[s_ (by intro e;subst e;exact b.1 c)];exact a E (by simp[c])
  ·refine⟨hs.os,hs.tape,hs.output,hs.size.trans (by simp[World.putObj]),λ k hk=>?_⟩;simp only[m_,not_or] at hk;rw[hs.block k hk.2,s_ (by intro e;exact hk.1 e)]
theorem CP{f:FuncId}{fn:Func}{c:Code}{args:Array Value}{w:World}{aN:Ending->World->Prop}(a:P.funcs[f]? =some fn)(b:fn.body=some c)
  (h:c.wp P (bodyPostM o_ 6 P fn aN) {tmps:=args++a_ (fn.ntmps-args.size) undef,defers:=[]} w):Calls P f args w aN:=
 (callsIn_wide (n:=6)).1 (callsIn_of_wp_marks a b trivial (wpIn_wide.2 h) rfl)
theorem JF{fn:Func}{aN:Ending->World->Prop}{a:Act}{w:World}{v:Value}(b:(results fn a.tmps).run P w=.ok v w)(c:a.defers=[])(d:aN (.returned v) w):bodyPostM o_ 6 P fn aN .ret a w:=by
 show LeavesInM _ _ _ _ _ _ a.defers _ _;rw[c];exact⟨v,b,d⟩
theorem CQ{fn:Func}{aN:Ending->World->Prop}{a:Act}{w:World}(ds:List Nat)(b:a.defers=ds.map oB)(c:ds.Nodup)(d:∀D∈ds,w.heap[D]? =some (.deferred (some [])))
  (h:∀W',Shut ds w W'->∃v,(results fn a.tmps).run P W'=.ok v W'/\aN (.returned v) W'):bodyPostM o_ 6 P fn aN .ret a w:=by
 show LeavesInM _ _ _ _ _ _ a.defers _ _;rw[b];exact Fc (by simp) ds _ c d h
theorem Fe{F:Fence}{n:Nat}{P:Program}{fn:Func}{tmps:Array Value}{aN:Ending->World->Prop}{u:FrameMode}(hu:u≠ .run)(rest:List Deferred):∀(ds:List Nat)(W:World),ds.Nodup->(∀D∈ds,W.heap[D]? =some (.deferred (some [])))->
  (∀W',Shut ds W W'->LeavesInM F n P fn tmps aN rest u W')->LeavesInM F n P fn tmps aN (ds.map oB++rest) u W
 |[],W,_,_,h=>h W ⟨rfl,rfl,rfl,rfl,λ _ _=>rfl⟩
 |D::ds,W,d,a,h=>by
  have b:=Zz.1 d;refine⟨hu,.inl ⟨D,_,rfl,run_takeDeferred (a D (by simp)),Fe hu rest ds _ b.2 (λ E c=>?_) (λ W' hs=>h W' ?_)⟩⟩
  ·rw[s_ (by intro e;subst e;exact b.1 c)];exact a E (by simp[c])
  ·refine⟨hs.os,hs.tape,hs.output,hs.size.trans (by simp[World.putObj]),λ k hk=>?_⟩;simp only[m_,not_or] at hk;rw[hs.block k hk.2,s_ (by intro e;exact hk.1 e)]
theorem JG{n:Nat}{P:Program}{id:Nat}{l:Nat}{Q:Exit->Act->World->Prop}{a:Act}{w:World}{ops:List Oper}(b:zq ops=true)(c:¬LetsOut Q)(h:wpList P ops.toArray Q ops a w):(Code.region id ops.toArray false).wpIn (o_.inRound l) n P Q a w:=by
 refine wpIn_region (zu b c _ a w ?_);rw[List.range_eq_range',<-Array.length_toList,wpOps_eq_wpList _ 0 (by simp)];simpa using h
end
section
open Go.RowKit
structure ax where
 A:Option Addr
 n:Nat
 c:Nat
def ax.v(h:ax):Value:=.slice h.A h.n h.c
def ax.b(h:ax):Option Nat:=h.A.map (·.block)
def we:ax:=⟨none,0,0⟩
theorem ax.own(h:ax):h.v.ownBlock=h.b:=by
 obtain⟨A,n,c⟩:=h
 cases A<;>rfl
theorem ax.kW{w:World}{base:Nat}{e:TypeId}{size:Nat}{v:Value}{xs:List Value}(h:w.ownsRow base e size v n xs):∃k:ax,v=k.v/\k.n=n:=by
 rcases h.2 with⟨rfl,rfl⟩|⟨g,cap,cur,rfl,_⟩
 ·exact⟨we,rfl,rfl⟩
 ·exact⟨⟨_,_,_⟩,rfl,rfl⟩
def iT{l8 α:Type}[DecidableEq l8](f:l8->α)(r:l8)(x:α):l8->α:=λ y=>if y=r then x else f y
theorem jO[DecidableEq l8](f:l8->α)(r:l8)(x:α):iT f r x r=x:=if_pos rfl
theorem bk[DecidableEq l8](f:l8->α){r y:l8}(x:α)(h:y≠r):iT f r x y=f y:=if_neg h
def aT(w:World)(b:Nat)(t:TypeId)(cs:List Value):Prop:=w.heap[b]? =some (.cells cs.toArray t (0,0))
theorem aT.lt{w:World}{b:Nat}(h:aT w b t cs):b<w.heap.size:=(l_.1 h).1
theorem aT.cell{w:World}{b:Nat}(h:aT w b t cs)(k:Nat):w.cell? ⟨b,k,none⟩=cs[k]? :=by
 simp[World.cell?,show w.heap[b]? =_ from h]
theorem aT.free{w:World}{b:Nat}(h:aT w b t cs)(k:Nat):w.frozen? ⟨b,k,none⟩=false:=by
 simp[World.frozen?,show w.heap[b]? =_ from h]
theorem aT.kept{w:World}{b:Nat}{row:Option Nat}(h:aT w b t cs)(a:w.grownBy w' row)(c:some b≠row):aT w' b t cs:=(a.block b h.lt c).trans h
theorem aT.below{w:World}{b:Nat}(h:aT w b t cs)(a:Below w.heap.size w w'):aT w' b t cs:=(a.block b h.lt).trans h
theorem aT.new(w:World)(t:TypeId)(cs:List Value):aT (w.alloc (.cells cs.toArray t)) w.heap.size t cs:=heap_alloc_new w _
theorem aT.set{w:World}{b:Nat}{t:TypeId}{cs:List Value}(h:aT w b t cs)(k:Nat)(v:Value):aT (w.setCell ⟨b,k,none⟩ v) b t (cs.set k v):=by
 unfold aT at*;have:=heap_setCell_same w b k cs.toArray t v h;rw[this];simp
theorem k8(w:World)(b k:Nat)(v:Value):w.grownBy (w.setCell ⟨b,k,none⟩ v) (some b):=
 ⟨rfl,rfl,rfl,by simp[World.setCell],λ j c a=>Below.heap_setCell _ _ _ _ (λ e=>a (by rw[e]))⟩
structure mc{l8:Type}(base:Nat)(ty:l8->TypeId)(nU:l8->Nat)(w:World)(hs:l8->ax)(X:l8->List Value):Prop where
 row:∀r,w.ownsRow base (ty r) (nU r) (hs r).v (hs r).n (X r)
 apart:∀r r' g,r≠r'->(hs r).b=some g->(hs r').b≠some g
section
variable {l8:Type}{base:Nat}{ty:l8->TypeId}{nU:l8->Nat}{w w':World}{hs:l8->ax}{X:l8->List Value}
theorem mc.kept{row:Option Nat}(h:mc base ty nU w hs X)(a:w.grownBy w' row)(c:∀r g,(hs r).b=some g->row≠some g):mc base ty nU w' hs X:=by
 refine⟨λ r=>(h.row r).kept a ?_,h.apart⟩;rw[ax.own]
 cases d:(hs r).b with
 |none=>exact w_ rfl
 |some g=>exact y_ λ e=>c r g d e.symm
theorem mc.below(h:mc base ty nU w hs X)(a:Below w.heap.size w w'):mc base ty nU w' hs X:=
 ⟨λ r=>(h.row r).kept ⟨a.os,a.tape,a.output,a.size,λ k hk _=>a.block k hk⟩ (by
  rw[ax.own];exact Or.imp id (λ(h:(hs r).b≠none)=>h) (Decidable.em ((hs r).b=none))),h.apart⟩
theorem mc.len(h:mc base ty nU w hs X)(r:l8):(X r).length=(hs r).n*nU r:=(h.row r).1
theorem mc.lt(h:mc base ty nU w hs X){r:l8}{g:Nat}(a:(hs r).b=some g):base<=g/\g<w.heap.size:=(h.row r).lt g (by rw[ax.own];exact a)
theorem mc.addr(h:mc base ty nU w hs X){r:l8}(a:(hs r).n≠0):∃g,(hs r).A=some ⟨g,0,none⟩/\(hs r).b=some g:=by
 rcases(h.row r).2 with⟨_,c⟩|⟨g,cap,cur,d,_⟩
 ·exact absurd c a
 ·have:(hs r).A=some ⟨g,0,none⟩:=by
   have:=d;unfold ax.v at this;injection this
  exact⟨g,this,by unfold ax.b;rw[this];rfl⟩
theorem mc.form(h:mc base ty nU w hs X){r:l8}{g:Nat}(a:(hs r).b=some g):(hs r).A=some ⟨g,0,none⟩/\w.ownsRow base (ty r) (nU r) (.slice (some ⟨g,0,none⟩) (hs r).n (hs r).c) (hs r).n (X r):=by
 have e:=h.row r;rcases e.2 with⟨h1,_⟩|⟨i,cap,cur,f,_⟩
 ·unfold ax.v at h1;injection h1 with h1
  unfold ax.b at a;rw[h1] at a;cases a
 ·unfold ax.v at f;injection f with h1 d j
  have:i=g:=by
   unfold ax.b at a;rw[h1] at a;injection a
  subst this;refine⟨h1,?_⟩;have d:=e;unfold ax.v at d;rw[h1] at d;exact d
theorem mc.cell(h:mc base ty nU w hs X){r:l8}{g:Nat}(a:(hs r).b=some g){k:Nat}(hk:k<(hs r).n*nU r):w.cell? ⟨g,k,none⟩=(X r)[k]? :=(h.form a).2.cellAt k hk
theorem mc.free(h:mc base ty nU w hs X){r:l8}{g:Nat}(a:(hs r).b=some g)(k:Nat):w.frozen? ⟨g,k,none⟩=false:=(h.form a).2.frozenAt k
theorem mc.CR(h:mc base ty nU w hs X){b:Nat}{t:TypeId}{cs:List Value}(d:aT w b t cs)(f:∀r,ty r≠t)(r:l8)(g:Nat)(i:(hs r).b=some g):some b≠some g:=by
 intro e;injection e with e
 subst e;rcases((h.form i).2).2 with⟨h1,_⟩|⟨k,cap,cur,a,_,c,_⟩
 ·cases h1
 ·injection a with a
  injection a with a
  injection a with a
  subst a;rw[show w.heap[b]? =_ from d] at c;injection c with c
  injection c with _ j
  exact f r j.symm
variable [DecidableEq l8]
theorem mc.set(h:mc base ty nU w hs X){r:l8}{g:Nat}(a:(hs r).b=some g)(k:Nat)(v:Value):mc base ty nU (w.setCell ⟨g,k,none⟩ v) hs (iT X r ((X r).set k v)):=by
 refine⟨λ r'=>?_,h.apart⟩
 by_cases e:r'=r
 ·subst e;rw[jO];have:=(h.form a).2.stored k v;unfold ax.v;rw[(h.form a).1];exact this.1
 ·rw[bk _ _ e];refine(h.row r').kept (k8 w g k v) ?_;rw[ax.own];exact y_ λ c=>h.apart r r' g (λ d=>e d.symm) a c
theorem mc.ja(h:mc base ty nU w hs X){r:l8}{h':ax}{ys:List Value}(l:w.grownBy w' (hs r).b)(m:w'.ownsRow base (ty r) (nU r) h'.v h'.n ys)(a:h'.b=(hs r).b\/∀g,h'.b=some g->w.heap.size<=g):
  mc base ty nU w' (iT hs r h') (iT X r ys):=by
 refine⟨λ r'=>?_,λ d f g j h1=>?_⟩
 ·by_cases e:r'=r
  ·subst e;rw[jO,jO];exact m
  ·rw[bk _ _ e,bk _ _ e];refine(h.row r').kept l ?_;rw[ax.own]
   cases o:(hs r').b with
   |none=>exact w_ rfl
   |some g=>exact y_ λ c=>h.apart r' r g e o c.symm
 ·by_cases k:d=r
  ·subst k;have c:f≠d:=λ e=>j e.symm
   rw[jO] at h1;rw[bk _ _ c];rcases a with a|a
   ·rw[a] at h1;exact h.apart d f g j h1
   ·intro i;have:=a g h1;have:=(h.lt i).2;omega
  ·rw[bk _ _ k] at h1
   by_cases c:f=r
   ·subst c;rw[jO];intro i;rcases a with a|a
    ·rw[a] at i;exact h.apart d f g j h1 i
    ·have:=a g i;have:=(h.lt h1).2;omega
   ·rw[bk _ _ c];exact h.apart d f g j h1
theorem JH{e:TypeId}{size:Nat}{g n cap k:Nat}{xs:List Value}(h:w.ownsRow base e size (.slice (some ⟨g,0,none⟩) n cap) n xs)(hk:k<=n):w.ownsRow base e size (.slice (some ⟨g,0,none⟩) k cap) k (xs.take (k*size)):=by
 rcases h.2 with⟨h1,_⟩|⟨l,m,cur,b,h1,c,o,d,f,i⟩
 ·cases h1
 ·injection b with a _ j
  injection a with a
  injection a with a
  subst a;subst j;have hle:k*size<=n*size:=Nat.mul_le_mul_right _ hk;refine⟨by rw[p_,h.1];omega,.inr ⟨_,_,cur,rfl,h1,c,by omega,d,f,?_⟩⟩;rw[<-i,g_]
  congr 1
  omega
theorem mc.cut(h:mc base ty nU w hs X){r:l8}{g:Nat}(a:(hs r).b=some g){k:Nat}(hk:k<=(hs r).n):mc base ty nU w (iT hs r ⟨(hs r).A,k,(hs r).c⟩) (iT X r ((X r).take (k*nU r))):=by
 refine h.ja ⟨rfl,rfl,rfl,q_ _,λ _ _ _=>rfl⟩ ?_ (w_ rfl);unfold ax.v;rw[(h.form a).1];exact JH (h.form a).2 hk
end
end
section
def aC(x:Int):Nat:=x.natAbs
theorem oO(x:Int):aC (-x)=aC x:=Int.natAbs_neg x
theorem CS(h:aC x=aC y):x=y\/x= -y:=Int.natAbs_eq_natAbs_iff.1 h
def jM(x:Int):Nat:=if x<0 then 2*x.natAbs+1 else 2*x.natAbs
theorem vw(h:jM x=jM y):x=y:=by
 unfold jM at h;split at h<;>split at h<;>omega
def gK(n:Nat)(x:Int):Prop:=1<=aC x/\aC x<=n
theorem gK.neg(h:gK n x):gK n (-x):=by unfold gK at*;rw[oO];exact h
theorem gK.oC(h:gK n x):x≠0:=by rintro rfl;have:=h.1;simp[aC] at this
theorem gK.at(h:gK n x):jM x<2*n+2:=by unfold jM;unfold gK aC at h;split<;>omega
def Mod(M:Int->Bool):Prop:=∀x,x≠0->M (-x)= !(M x)
def sN(M:Int->Bool)(l:List Int):Prop:=∃x∈l,M x=true
def tQ(M:Int->Bool)(F:List (List Int)):Prop:=Mod M/\∀l∈F,sN M l
def rq(F:List (List Int))(l:List Int):Prop:=∀M,tQ M F->sN M l
def Unsat(F:List (List Int)):Prop:=∀M,¬tQ M F
structure oD(n:Nat)(l:List Int):Prop where
 ne:l≠ []
 lt:∀x∈l,gK n x
 nc:l.Nodup
 bn:∀x∈l,¬-x∈l
def u9(l:List Int):Prop:=∃x∈l,x≠0/\ -x∈l
theorem u9.JI{M:Int->Bool}(a:Mod M){l:List Int}(h:u9 l):sN M l:=by
 obtain⟨x,b,c,d⟩:=h
 cases hm:M x with
 |true=>exact⟨x,b,hm⟩
 |false=>exact⟨-x,d,by rw[a x c,hm];rfl⟩
structure Core where
 n:Nat
 wt:List (List Nat)
 val:List Int
 lvl:List Nat
 kB:List (Option Nat)
 av:List Int
 st:List Nat
 ag:Nat
 l9:Bool
 cl:List (List Int)
def aj(l:List Int)(k:Nat):Int:=l.getD k 0
def gZ(l:List Nat)(k:Nat):Nat:=l.getD k 0
def ay{α:Type}(l:List (List α))(k:Nat):List α:=l.getD k []
def mz(l:List (Option Nat))(k:Nat):Option Nat:=l.getD k none
theorem ng(h:k<l.length):aj l k=l[k]:=by simp[aj,z_,n_ h]
theorem va{l:List Nat}(h:k<l.length):gZ l k=l[k]:=by simp[gZ,z_,n_ h]
theorem Ff{l:List (List α)}(h:k<l.length):ay l k=l[k]:=by simp[ay,z_,n_ h]
theorem Fg{l:List (Option Nat)}(h:k<l.length):mz l k=l[k]:=by simp[mz,z_,n_ h]
theorem lZ(h:k<l.length):aj l k∈l:=by rw[ng h];exact List.getElem_mem h
theorem oP(l:List Int)(k j:Nat)(x:Int):aj (l.set k x) j=if k=j/\k<l.length then x else aj l j:=by
 simp only[aj,z_,j_]
 by_cases h:k=j
 ·subst h
  by_cases a:k<l.length
  ·simp[a]
  ·simp[a]
 ·simp[h]
theorem JJ(l:List Nat)(k j:Nat)(x:Nat):gZ (l.set k x) j=if k=j/\k<l.length then x else gZ l j:=by
 simp only[gZ,z_,j_]
 by_cases h:k=j
 ·subst h
  by_cases a:k<l.length
  ·simp[a]
  ·simp[a]
 ·simp[h]
theorem qy(l:List (List α))(k j:Nat)(x:List α):ay (l.set k x) j=if k=j/\k<l.length then x else ay l j:=by
 simp only[ay,z_,j_]
 by_cases h:k=j
 ·subst h
  by_cases a:k<l.length
  ·simp[a]
  ·simp[a]
 ·simp[h]
theorem wg(l:List (Option Nat))(k j:Nat)(x:Option Nat):mz (l.set k x) j=if k=j/\k<l.length then x else mz l j:=by
 simp only[mz,z_,j_]
 by_cases h:k=j
 ·subst h
  by_cases a:k<l.length
  ·simp[a]
  ·simp[a]
 ·simp[h]
theorem tj{a b:List Int}(h:k<a.length):aj (a++b) k=aj a k:=by
 simp only[aj,z_,k_ h]
theorem xy(a:List Int)(x:Int):aj (a++[x]) a.length=x:=by simp[aj,z_]
theorem xz{a b:List Nat}(h:k<a.length):gZ (a++b) k=gZ a k:=by
 simp only[gZ,z_,k_ h]
theorem xA(a:List Nat)(x:Nat):gZ (a++[x]) a.length=x:=by simp[gZ,z_]
theorem AY{a b:List (List α)}(h:k<a.length):ay (a++b) k=ay a k:=by
 simp only[ay,z_,k_ h]
theorem uE(a:List (List α))(x:List α):ay (a++[x]) a.length=x:=by simp[ay,z_]
theorem wh(h:k<m):aj (l.take m) k=aj l k:=by
 simp only[aj,z_,List.getElem?_take,if_pos h]
theorem uF{l:List Nat}(h:k<m):gZ (l.take m) k=gZ l k:=by
 simp only[gZ,z_,List.getElem?_take,if_pos h]
theorem pJ:x∈l.take m↔∃k,k<m/\k<l.length/\aj l k=x:=by
 constructor
 ·intro h;obtain⟨k,hk,e⟩:=r_.1 h;rw[p_] at hk;refine⟨k,by omega,by omega,?_⟩;rw[List.getElem_take] at e;rw[ng (by omega),e]
 ·rintro⟨k,h1,a,rfl⟩;rw[ng a];exact List.mem_take_iff_getElem.2 ⟨k,by omega,rfl⟩
theorem qf:x∈l↔∃k,k<l.length/\aj l k=x:=by
 have:=pJ (l:=l) (m:=l.length) (x:=x);rw[h_] at this;rw[this];exact⟨λ⟨k,_,h⟩=>⟨k,h⟩,λ⟨k,h⟩=>⟨k,h.1,h⟩⟩
def j9(c:Core)(x:Int):Int:=if x<0 then-(aj c.val (aC x)) else aj c.val (aC x)
def lE(st:List Nat)(i:Nat):Nat:=st.countP (·<=i)
def bh(c:Core)(x:Int):Nat:=gZ c.lvl (aC x)
def wj(T l:List Int):Prop:=(∃x∈l,x∈T)\/∃x∈l,∃y∈l,x≠y/\¬-x∈T/\¬-y∈T
def w0(c:Core)(i:Nat):Int:=aj (ay c.cl i) 0
def w1(c:Core)(i:Nat):Int:=aj (ay c.cl i) 1
structure j6(c:Core):Prop where
 ru:c.val.length=c.n+1
 o7:c.lvl.length=c.n+1
 pK:c.kB.length=c.n+1
 lit:∀x∈c.av,gK c.n x
 nc:(c.av.map aC).Nodup
 tR:∀v,aj c.val v=0\/aj c.val v=1\/aj c.val v= -1
 pos:∀x,gK c.n x->(j9 c x=1↔x∈c.av)
 qT:∀j k,j<=k->k<c.st.length->gZ c.st j<=gZ c.st k
 om:∀k,k<c.st.length->gZ c.st k<=c.av.length
 mA:∀i,i<c.av.length->bh c (aj c.av i)=lE c.st i
 pY:∀i,i<c.av.length->match mz c.kB (aC (aj c.av i)) with
  |none=>∃k,k<c.st.length/\gZ c.st k=i
  |some d=>d<c.cl.length/\aj c.av i∈ay c.cl d/\∀x∈ay c.cl d,x≠aj c.av i-> -x∈c.av.take i
theorem JK{c:Core}(h:gK n x):j9 c (-x)= -(j9 c x):=by
 unfold j9;rw[oO];have:=h.oC
 by_cases h1:x<0
 ·rw[if_pos h1,if_neg (by omega)];omega
 ·rw[if_neg h1,if_pos (by omega)]
theorem j6.range{c:Core}(h:j6 c)(x:Int):j9 c x=0\/j9 c x=1\/j9 c x= -1:=by
 unfold j9;have:=h.tR (aC x);split<;>omega
theorem j6.xB{c:Core}(h:j6 c){x:Int}(a:gK c.n x):j9 c x= -1↔-x∈c.av:=by
 rw[<-h.pos _ a.neg,JK a];omega
theorem j6.open{c:Core}(h:j6 c){x:Int}(a:gK c.n x):j9 c x=0↔¬x∈c.av/\¬-x∈c.av:=by
 rw[<-h.pos _ a,<-h.xB a];have:=h.range x;omega
theorem j6.place{c:Core}(h:j6 c){i j:Nat}(a:i<c.av.length)(b:j<c.av.length)(e:aC (aj c.av i)=aC (aj c.av j)):i=j:=by
 have d:=h.nc;rw[ng a,ng b] at e;have:=d_ (xs:=c.av.map aC) (i:=i) (j:=j) (h₀:=by simpa using a) (h₁:=by simpa using b) d;simp only[List.getElem_map] at this;exact this.1 e
theorem j6.apart{c:Core}(h:j6 c){x:Int}(a:x∈c.av):¬-x∈c.av:=by
 intro b;obtain⟨i,d,e⟩:=qf.1 a;obtain⟨j,f,g⟩:=qf.1 b;have:=h.place d f (by rw[e,g,oO]);subst this;have:=(h.lit x a).oC;omega
theorem CT{st:List Nat}{i j:Nat}(h:i<=j):lE st i<=lE st j:=by
 unfold lE;exact List.countP_mono_left λ x _ a=>by simp at a⊢;omega
theorem wk(st:List Nat)(i:Nat):lE st i<=st.length:=List.countP_le_length
theorem tS{c:Core}(h:j6 c){i k:Nat}(hk:k<c.st.length):k<lE c.st i↔gZ c.st k<=i:=by
 have hm:=h.qT;unfold lE;generalize c.st=st at*;clear h
 induction st generalizing k with
 |nil=>simp at hk
 |cons a r m=>
  rw[List.countP_cons]
  by_cases d:a<=i
  ·have f:(decide (a<=i))=true:=by simpa using d
   rw[f,if_pos rfl]
   cases k with
   |zero=>simp[gZ,d]
   |succ k=>
    have:=m (k:=k) (by simpa using hk) (λ j n t o=>by have:=hm (j+1) (n+1) (by omega) (by simpa using o);simpa[gZ] using this);have e:gZ (a::r) (k+1)=gZ r k:=by simp[gZ]
    rw[e];exact⟨λ h=>this.1 (by omega),λ h=>by have:=this.2 h;omega⟩
  ·have f:(decide (a<=i))=false:=by simpa using d
   rw[f];simp only[Bool.false_eq_true,if_false,Nat.add_zero];have p:r.countP (λ x=>decide (x<=i))=0:=by
    rw[List.countP_eq_zero];intro b q;obtain⟨j,l,e⟩:=r_.1 q;have:=hm 0 (j+1) (by omega) (by simpa using l);have s:gZ (a::r) (j+1)=b:=by rw[va (by simpa using l)];simpa using e
    rw[s] at this;have g:gZ (a::r) 0=a:=by simp[gZ]
    rw[g] at this;simp;omega
   rw[p];have:=hm 0 k (by omega) hk;have g:gZ (a::r) 0=a:=by simp[gZ]
   rw[g] at this;omega
theorem sj(h:x∈l.take m):x∈l:=List.mem_of_mem_take h
theorem CU(h:x∈l.take m)(hk:m<=k):x∈l.take k:=by
 rw[pJ] at h⊢;obtain⟨j,h1,a⟩:=h;exact⟨j,by omega,a⟩
end
section
structure ry(F Fd:List (List Int))(c:Core):Prop where
 mF:∀d,d<c.cl.length->oD c.n (ay c.cl d)
 imp:∀d,d<c.cl.length->rq F (ay c.cl d)
 tn:∀g∈Fd,c.l9=true\/u9 g\/(∃i,i<c.av.length/\aj c.av i∈g/\lE c.st i=0)\/∃d,d<c.cl.length/\∀x,x∈ay c.cl d↔x∈g
 tq:c.l9=true->Unsat F
 tr:c.l9=true\/∀d,d<c.cl.length->(ay c.cl d).length=1->∃i,i<c.av.length/\aj c.av i=w0 c d/\lE c.st i=0
structure ym(c:Core):Prop where
 qI:c.wt.length=2*c.n+2
 qJ:∀k d,d∈ay c.wt k->d<c.cl.length/\2<=(ay c.cl d).length/\(k=jM (-(w0 c d))\/k=jM (-(w1 c d)))
 sO:∀k,(ay c.wt k).Nodup
 uG:∀d,d<c.cl.length->2<=(ay c.cl d).length->d∈ay c.wt (jM (-(w0 c d)))/\d∈ay c.wt (jM (-(w1 c d)))
def wm(c:Core)(d:Nat)(a b:Int):Prop:=(a=w0 c d/\b=w1 c d)\/(a=w1 c d/\b=w0 c d)
def JL(c:Core)(h:Nat)(P:List Nat):Prop:=∀d,d<c.cl.length->2<=(ay c.cl d).length->∀a b,wm c d a b-> -a∈c.av.take h->(d∈P/\aj c.av (h-1)= -a)\/(b∈c.av/\bh c b<=bh c a)
def CV(c:Core):Prop:=∀k,k<c.st.length->∀d,d<c.cl.length->wj (c.av.take (gZ c.st k)) (ay c.cl d)
structure kC(F Fd:List (List Int))(c:Core)(h:Nat)(P:List Nat):Prop where
 aK:j6 c
 jN:ry F Fd c
 wt:ym c
 rz:JL c h P
 rA:CV c
 cur:∀k,k<c.st.length->gZ c.st k<=h
 hle:h<=c.av.length
def vA(x:Int):Int:=if x<0 then-1 else 1
def lp(c:Core)(x:Int)(w:Option Nat):Core:={c with val:=c.val.set (aC x) (vA x),lvl:=c.lvl.set (aC x) c.st.length,kB:=c.kB.set (aC x) w,av:=c.av++[x]}
def Fh(c:Core)(x:Int):Option Nat->Prop
 |none=>∃k,k<c.st.length/\gZ c.st k=c.av.length
 |some d=>d<c.cl.length/\x∈ay c.cl d/\∀y∈ay c.cl d,y≠x-> -y∈c.av
section
variable {c:Core}{x:Int}{w:Option Nat}
theorem JM(h:j6 c)(b:gK c.n x)(y:Int)(d:gK c.n y):j9 (lp c x w) y=if y=x then 1 else if y= -x then-1 else j9 c y:=by
 have hl:aC x<c.val.length:=by rw[h.ru];have:=b.2;omega
 have g:=b.oC;have i:=d.oC;unfold j9 lp;simp only[oP]
 by_cases e:y=x
 ·subst e;rw[if_pos rfl];simp only[hl,and_self,if_true];unfold vA
  by_cases h1:y<0<;>simp[h1]
 ·rw[if_neg e]
  by_cases a:y= -x
  ·subst a;rw[if_pos rfl,oO];simp only[hl,and_self,if_true];unfold vA
   by_cases h1:x<0
   ·rw[if_neg (by omega),if_pos h1]
   ·rw[if_pos (by omega),if_neg h1]
  ·rw[if_neg a];have:¬(aC x=aC y/\aC x<c.val.length):=λ f=>by
    rcases CS f.1 with h1|h1
    ·exact e h1.symm
    ·exact a (by omega)
   rw[if_neg this]
theorem vB{y:Int}(h:j6 c)(b:gK c.n x)(d:j9 c x=0)(a:y∈c.av):aC y≠aC x:=by
 intro e;obtain⟨h1,f⟩:=(h.open b).1 d;rcases CS e with e|e
 ·exact h1 (e▸a)
 ·exact f (e▸a)
theorem AZ(h:j6 c)(a:gK c.n x)(y:Int):bh (lp c x w) y=if aC y=aC x then c.st.length else bh c y:=by
 have hl:aC x<c.lvl.length:=by rw[h.o7];have:=a.2;omega
 unfold bh lp;simp only[JJ]
 by_cases e:aC y=aC x
 ·rw[if_pos e,if_pos ⟨e.symm,hl⟩]
 ·rw[if_neg e,if_neg λ b=>e b.1.symm]
theorem j6.set(h:j6 c)(f:gK c.n x)(l:j9 c x=0)(hw:Fh c x w):j6 (lp c x w):=by
 have D:aC x<c.val.length:=by rw[h.ru];have:=f.2;omega
 have t:aC x<c.kB.length:=by rw[h.pK];have:=f.2;omega
 obtain⟨E,u⟩:=(h.open f).1 l;have g:(lp c x w).av=c.av++[x]:=rfl;have m:(lp c x w).st=c.st:=rfl;have z:(lp c x w).cl=c.cl:=rfl;have F:(lp c x w).n=c.n:=rfl;refine⟨by simp[lp,h.ru],by simp[lp,h.o7],by simp[lp,h.pK],?_,?_,?_,?_,h.qT,?_,?_,?_⟩
 ·intro y j;rw[g] at j;rcases v_.1 j with h1|h1
  ·exact h.lit y h1
  ·rw[x_.1 h1];exact f
 ·rw[g,List.map_append,i_];refine⟨h.nc,by simp,λ a o b r e=>?_⟩;obtain⟨y,j,rfl⟩:=Zu.1 o;simp only[f_,List.map_nil,x_] at r;rw[r] at e;exact vB h f l j e
 ·intro v;show aj (c.val.set (aC x) (vA x)) v=0\/_;simp only[lp,oP]
  by_cases e:aC x=v/\aC x<c.val.length
  ·rw[if_pos e];unfold vA;split<;>omega
  ·rw[if_neg e];exact h.tR v
 ·intro y j;have s:gK c.n y:=j;rw[JM h f y s,g,v_,x_]
  by_cases e:y=x
  ·simp[e]
  ·rw[if_neg e]
   by_cases p:y= -x
   ·rw[if_pos p];constructor
    ·intro h1;omega
    ·rintro(h1|h1)
     ·exact absurd (p▸h1) u
     ·exact absurd h1 e
   ·rw[if_neg p,h.pos y s];constructor
    ·exact w_
    ·rintro(h1|h1)
     ·exact h1
     ·exact absurd h1 e
 ·intro k hk;have:=h.om k hk;rw[m,g,t_];simp;omega
 ·intro i q;rw[g,t_,Zx] at q;rw[g,m,AZ h f]
  by_cases e:i<c.av.length
  ·rw[tj e,if_neg (vB h f l (lZ e))];exact h.mA i e
  ·obtain rfl:i=c.av.length:=by omega
   rw[xy,if_pos rfl];have:lE c.st c.av.length=c.st.length:=by
    unfold lE;rw[Zw];intro a o;obtain⟨k,hk,e⟩:=r_.1 o;have:=h.om k hk;rw[va hk,e] at this;simpa using this
   exact this.symm
 ·intro i q;rw[g,t_,Zx] at q;have A:(lp c x w).kB=c.kB.set (aC x) w:=rfl;rw[g,m,z,A]
  by_cases e:i<c.av.length
  ·have B:=vB h f l (lZ e);rw[tj e,wg,if_neg (λ C=>B C.1.symm),u_ (by omega)];exact h.pY i e
  ·obtain rfl:i=c.av.length:=by omega
   rw[xy,wg,if_pos ⟨rfl,t⟩,u_ (q_ _),h_]
   cases w with
   |none=>exact hw
   |some d=>exact hw
theorem ry.set{F Fd:List (List Int)}(h:ry F Fd c):ry F Fd (lp c x w):=by
 refine⟨h.mF,h.imp,λ g f=>(h.tn g f).imp id (Or.imp id (Or.imp ?_ id)),h.tq,h.tr.imp id λ h1 d j hl=>?_⟩
 ·rintro⟨i,a,b,e⟩;refine⟨i,?_,?_,e⟩
  ·show i<(c.av++[x]).length;rw[t_];omega
  ·show aj (c.av++[x]) i∈g;rw[tj a];exact b
 obtain⟨i,a,b,e⟩:=h1 d j hl;refine⟨i,?_,?_,e⟩
 ·show i<(c.av++[x]).length;rw[t_];omega
 ·show aj (c.av++[x]) i=w0 c d;rw[tj a,b]
theorem kC.set{F Fd:List (List Int)}{h:Nat}{P:List Nat}(L:kC F Fd c h P)(e:gK c.n x)(g:j9 c x=0)(hw:Fh c x w):kC F Fd (lp c x w) h P:=by
 have i:(lp c x w).av=c.av++[x]:=rfl;refine⟨L.aK.set e g hw,L.jN.set,⟨L.wt.qI,L.wt.qJ,L.wt.sO,L.wt.uG⟩,?_,?_,L.cur,?_⟩
 ·intro d j hl a b l f;rw[i,u_ L.hle] at f;have p:h≠0:=by rintro rfl;simp at f
  rw[i,tj (by have:=L.hle;omega),AZ L.aK e,AZ L.aK e,v_];have m:aC a≠aC x:=by
   have:=vB L.aK e g (sj f)
   rwa[oO] at this
  rw[if_neg m];rcases L.rz d j hl a b l f with h1|⟨h1,o⟩
  ·exact w_ h1
  ·rw[if_neg (vB L.aK e g h1)];exact y_ ⟨w_ h1,o⟩
 ·intro k hk d j;have:=L.rA k hk d j;show wj ((c.av++[x]).take (gZ c.st k)) (ay c.cl d);rw[u_ (L.aK.om k hk)];exact this
 ·rw[i,t_];have:=L.hle;omega
end
def zero(v:List Int)(xs:List Int):List Int:=xs.foldl (λ v x=>v.set (aC x) 0) v
def sP(v:List (Option Nat))(xs:List Int):List (Option Nat):=xs.foldl (λ v x=>v.set (aC x) none) v
theorem CW(v:List Int):∀xs,(zero v xs).length=v.length
 |[]=>rfl
 |x::xs=>by
  show(zero (v.set (aC x) 0) xs).length=_;rw[CW _ xs,Zy]
theorem CX(v:List (Option Nat)):∀xs,(sP v xs).length=v.length
 |[]=>rfl
 |x::xs=>by
  show(sP (v.set (aC x) none) xs).length=_;rw[CX _ xs,Zy]
theorem yo:∀(xs:List Int)(v:List Int)(k:Nat),aj (zero v xs) k=if k∈xs.map aC then 0 else aj v k
 |[],v,k=>rfl
 |x::xs,v,k=>by
  show aj (zero (v.set (aC x) 0) xs) k=_;rw[yo xs,oP]
  by_cases h1:k∈xs.map aC
  ·rw[if_pos h1,if_pos (by simp[f_];right;simpa using h1)]
  ·rw[if_neg h1]
   by_cases a:aC x=k
   ·rw[if_pos (show k∈(x::xs).map aC by simp[a])]
    by_cases b:aC x<v.length
    ·rw[if_pos ⟨a,b⟩]
    ·rw[if_neg (λ c=>b c.2)];simp[aj,z_,<-a,List.getElem?_eq_none (Nat.le_of_not_lt b)]
   ·rw[if_neg (λ c=>a c.1),if_neg];simp only[f_,m_,not_or];exact⟨λ e=>a e.symm,h1⟩
theorem CY:∀(xs:List Int)(v:List (Option Nat))(k:Nat),¬k∈xs.map aC->mz (sP v xs) k=mz v k
 |[],v,k,_=>rfl
 |x::xs,v,k,h=>by
  simp only[f_,m_,not_or] at h;show mz (sP (v.set (aC x) none) xs) k=_;rw[CY xs _ k h.2,wg,if_neg (λ a=>h.1 a.1.symm)]
def mG(c:Core)(level:Nat):Core:=
 {c with val:=zero c.val (c.av.drop (gZ c.st level)),kB:=sP c.kB (c.av.drop (gZ c.st level)),av:=c.av.take (gZ c.st level),st:=c.st.take level,ag:=gZ c.st level}
section
variable {c:Core}{level:Nat}
theorem Fi{c:Core}{m:Nat}{x:Int}:x∈c.av.drop m↔∃k,m<=k/\k<c.av.length/\aj c.av k=x:=by
 constructor
 ·intro h;obtain⟨k,hk,e⟩:=r_.1 h;rw[c_] at hk;refine⟨m+k,by omega,by omega,?_⟩;rw[e_] at e;rw[ng (by omega),e]
 ·rintro⟨k,h1,a,rfl⟩;rw[ng a];refine r_.2 ⟨k-m,by rw[c_];omega,?_⟩;rw[e_]
  congr 1
  omega
theorem j6.split(h:j6 c){m:Nat}{x:Int}(a:x∈c.av.take m):¬aC x∈(c.av.drop m).map aC:=by
 intro b;obtain⟨y,d,e⟩:=Zu.1 b;obtain⟨k,h1,f,rfl⟩:=Fi.1 d;obtain⟨j,i,g,rfl⟩:=pJ.1 a;have:=h.place f g e;omega
theorem CZ(h:j6 c)(hl:level<c.st.length){i:Nat}(d:i<gZ c.st level):lE (c.st.take level) i=lE c.st i:=by
 unfold lE
 conv=>rhs;rw[<-List.take_append_drop level c.st]
 rw[List.countP_append];have f:(c.st.drop level).countP (λ x=>decide (x<=i))=0:=by
  rw[List.countP_eq_zero];intro a b;obtain⟨k,hk,e⟩:=r_.1 b;rw[c_] at hk;rw[e_] at e;have:=h.qT level (level+k) (by omega) (by omega);rw[va (show level+k<c.st.length by omega),e] at this;simp;omega
 omega
theorem j6.back(h:j6 c)(hl:level<c.st.length):j6 (mG c level):=by
 have u:=h.om level hl;have b:(mG c level).av=c.av.take (gZ c.st level):=rfl;have d:(mG c level).st=c.st.take level:=rfl;have hlen:(mG c level).av.length=gZ c.st level:=by rw[b,p_];omega
 have l:(mG c level).st.length=level:=by rw[d,p_];omega
 refine⟨by simp[mG,CW,h.ru],h.o7,by simp[mG,CX,h.pK],λ x f=>h.lit x (sj f),?_,?_,?_,?_,?_,?_,?_⟩
 ·rw[b,List.map_take];exact h.nc.sublist (List.take_sublist _ _)
 ·intro v;show aj (zero c.val _) v=0\/_;simp only[mG,yo]
  by_cases e:v∈(c.av.drop (gZ c.st level)).map aC
  ·rw[if_pos e];exact w_ rfl
  ·rw[if_neg e];exact h.tR v
 ·intro x f;have o:gK c.n x:=f;have p:(mG c level).val=zero c.val (c.av.drop (gZ c.st level)):=rfl;have key:j9 (mG c level) x=if aC x∈(c.av.drop (gZ c.st level)).map aC then 0 else j9 c x:=by
   unfold j9;rw[p,yo]
   by_cases e:aC x∈(c.av.drop (gZ c.st level)).map aC
   ·rw[if_pos e,if_pos e];split<;>rfl
   ·rw[if_neg e,if_neg e]
  rw[key,b]
  by_cases e:aC x∈(c.av.drop (gZ c.st level)).map aC
  ·rw[if_pos e];constructor
   ·intro h1;omega
   ·intro h1;exact absurd e (h.split h1)
  ·rw[if_neg e,h.pos x o];constructor
   ·intro h1;obtain⟨k,hk,m⟩:=qf.1 h1;refine pJ.2 ⟨k,?_,hk,m⟩;rcases b_ k (gZ c.st level) with g|g
    ·exact g
    ·exact absurd (Zu.2 ⟨x,Fi.2 ⟨k,g,hk,m⟩,rfl⟩) e
   ·exact sj
 ·intro j k q hk;rw[l] at hk;rw[d,uF (by omega),uF hk];exact h.qT j k q (by omega)
 ·intro k hk;rw[l] at hk;rw[hlen,d,uF hk];exact h.qT k level (by omega) hl
 ·intro i a;rw[hlen] at a;rw[b,wh a,d,CZ h hl a];exact h.mA i (by omega)
 ·intro i a;rw[hlen] at a;have r:(mG c level).kB=sP c.kB (c.av.drop (gZ c.st level)):=rfl;have s:aj c.av i∈c.av.take (gZ c.st level):=pJ.2 ⟨i,a,by omega,rfl⟩;rw[b,wh a,d,r,CY _ _ _ (h.split s),g_,show min i (gZ c.st level)=i by omega];have:=h.pY i (by omega);split at this
  ·obtain⟨k,hk,e⟩:=this;have t:k<level:=by
    rcases b_ k level with h1|h1
    ·exact h1
    ·have:=h.qT level k h1 hk;omega
   exact⟨k,by rw[p_];omega,by rw[uF t];exact e⟩
  ·exact this
theorem kC.back{F Fd:List (List Int)}{h:Nat}(L:kC F Fd c h [])(hl:level<c.st.length):kC F Fd (mG c level) (gZ c.st level) []:=by
 have B:=L.aK.om level hl;have n:(mG c level).av=c.av.take (gZ c.st level):=rfl;have o:(mG c level).st=c.st.take level:=rfl;have hlen:(mG c level).av.length=gZ c.st level:=by rw[n,p_];omega
 have u:(mG c level).st.length=level:=by rw[o,p_];omega
 have v:∀i,lE c.st i=0->i<gZ c.st level:=λ i l=>by
  rcases b_ i (gZ c.st level) with f|f
  ·exact f
  ·have:=(tS L.aK (i:=i) hl).2 f;omega
 refine⟨L.aK.back hl,⟨L.jN.mF,L.jN.imp,λ g w=>(L.jN.tn g w).imp id (Or.imp id (Or.imp ?_ id)),L.jN.tq,?_⟩,⟨L.wt.qI,L.wt.qJ,L.wt.sO,L.wt.uG⟩,?_,?_,?_,by rw[hlen];exact q_ _⟩
 ·rintro⟨i,x,q,l⟩;have m:=v i l;exact⟨i,by rw[hlen];exact m,by rw[n,wh m];exact q,by rw[o,CZ L.aK hl m];exact l⟩
 ·refine L.jN.tr.imp id λ h1 d p r=>?_
  obtain⟨i,x,q,l⟩:=h1 d p r;have m:i<gZ c.st level:=by
   rcases b_ i (gZ c.st level) with f|f
   ·exact f
   ·have:=(tS L.aK (i:=i) hl).2 f;omega
  exact⟨i,by rw[hlen];exact m,by rw[n,wh m];exact q,by rw[o,CZ L.aK hl m];exact l⟩
 ·intro d p r a b y s;rw[n,g_,Nat.min_self] at s;right;have z: -a∈c.av.take h:=CU s (L.cur level hl);rcases L.rz d p r a b y z with⟨h1,_⟩|⟨h1,f⟩
  ·cases h1
  ·refine⟨?_,f⟩;rw[n];obtain⟨j,C,A,e⟩:=pJ.1 s;obtain⟨k,hk,l⟩:=qf.1 h1;have D:bh c a=lE c.st j:=by
    rw[<-L.aK.mA j A,e];unfold bh;rw[oO]
   have E:bh c b=lE c.st k:=by rw[<-L.aK.mA k hk,l]
   have G:¬level<lE c.st j:=λ t=>by have:=(tS L.aK (i:=j) hl).1 t;omega
   have H:¬gZ c.st level<=k:=λ t=>by have:=(tS L.aK (i:=k) hl).2 t;omega
   exact pJ.2 ⟨k,by omega,hk,l⟩
 ·intro k hk d p;rw[u] at hk;have:=L.rA k (by omega) d p;rw[n,o,uF hk,g_,Nat.min_eq_left (L.aK.qT k level (by omega) hl)];exact this
 ·intro k hk;rw[u] at hk;rw[o,uF hk];exact L.aK.qT k level (by omega) hl
end
end
section
section
variable {F Fd:List (List Int)}{c:Core}
theorem oD.w{n:Nat}{l:List Int}(h:oD n l)(b:2<=l.length):aj l 0∈l/\aj l 1∈l/\aj l 0≠aj l 1/\aj l 0≠-(aj l 1):=by
 have a:=lZ (l:=l) (k:=0) (by omega);have h1:=lZ (l:=l) (k:=1) (by omega);refine⟨a,h1,λ e=>?_,λ e=>h.bn _ h1 (e▸a)⟩;rw[ng (show 0<l.length by omega),ng (show 1<l.length by omega)] at e;have:=(d_ h.nc).1 e;omega
theorem Fj(L:kC F Fd c c.av.length [])(j:c.l9=false):∀d,d<c.cl.length->wj c.av (ay c.cl d):=by
 intro d a;have f:=L.jN.mF d a;have k:0<(ay c.cl d).length:=List.length_pos_iff.2 f.ne
 by_cases g:2<=(ay c.cl d).length
 ·obtain⟨m0,m1,l,_⟩:=f.w g;have b:=L.rz d a g;rw[show c.av.take c.av.length=c.av from h_] at b
  by_cases f0: -(w0 c d)∈c.av
  ·rcases b _ _ (w_ ⟨rfl,rfl⟩) f0 with⟨h,_⟩|⟨h,_⟩
   ·cases h
   ·exact w_ ⟨_,m1,h⟩
  ·by_cases f1: -(w1 c d)∈c.av
   ·rcases b _ _ (y_ ⟨rfl,rfl⟩) f1 with⟨h,_⟩|⟨h,_⟩
    ·cases h
    ·exact w_ ⟨_,m0,h⟩
   ·exact y_ ⟨_,m0,_,m1,l,f0,f1⟩
 ·rcases L.jN.tr with h|h
  ·rw[j] at h;cases h
  ·obtain⟨i,m,e,_⟩:=h d a (by omega);exact w_ ⟨aj (ay c.cl d) 0,lZ k,by rw[show aj (ay c.cl d) 0=w0 c d from rfl,<-e];exact lZ m⟩
def nk(c:Core):Core:={c with st:=c.st++[c.av.length]}
theorem C0(h:j6 c){i:Nat}(a:i<c.av.length):lE (c.st++[c.av.length]) i=lE c.st i:=by
 unfold lE;rw[List.countP_append];simp;omega
theorem kC.level(L:kC F Fd c c.av.length [])(p:c.l9=false):kC F Fd (nk c) c.av.length []:=by
 have f:(nk c).st=c.st++[c.av.length]:=rfl;have q:(nk c).av=c.av:=rfl;have T:=L.aK;have hlen:(nk c).st.length=c.st.length+1:=by rw[f];simp
 have b:∀k,k<c.st.length->gZ (nk c).st k=gZ c.st k:=λ k hk=>by rw[f,xz hk]
 have l:gZ (nk c).st c.st.length=c.av.length:=by rw[f,xA]
 refine⟨⟨T.ru,T.o7,T.pK,T.lit,T.nc,T.tR,T.pos,?_,?_,?_,?_⟩,⟨L.jN.mF,L.jN.imp,λ g r=>(L.jN.tn g r).imp id (Or.imp id (Or.imp (λ⟨i,a,n,h⟩=>⟨i,a,n,by rw[f,C0 T a];exact h⟩) id)),L.jN.tq,?_⟩,⟨L.wt.qI,L.wt.qJ,L.wt.sO,L.wt.uG⟩,L.rz,?_,?_,q_ _⟩
 ·intro j k s hk;rw[hlen] at hk
  by_cases e:k<c.st.length
  ·rw[b j (by omega),b k e];exact T.qT j k s e
  ·obtain rfl:k=c.st.length:=by omega
   rw[l]
   by_cases h:j<c.st.length
   ·rw[b j h];exact T.om j h
   ·obtain rfl:j=c.st.length:=by omega
    rw[l];exact q_ _
 ·intro k hk;rw[hlen] at hk
  by_cases e:k<c.st.length
  ·rw[b k e];exact T.om k e
  ·obtain rfl:k=c.st.length:=by omega
   rw[l];exact q_ _
 ·intro i a;rw[f,C0 T a];exact T.mA i a
 ·intro i a;have:=T.pY i a;show match mz c.kB (aC (aj c.av i)) with
   |none=>∃k,k<(nk c).st.length/\gZ (nk c).st k=i
   |some d=>d<c.cl.length/\aj c.av i∈ay c.cl d/\∀x∈ay c.cl d,x≠aj c.av i-> -x∈c.av.take i
  cases o:mz c.kB (aC (aj c.av i)) with
  |none=>
   rw[o] at this;obtain⟨k,hk,e⟩:=this;exact⟨k,by rw[hlen];omega,by rw[b k hk];exact e⟩
  |some d=>rw[o] at this;exact this
 ·refine L.jN.tr.imp id λ h1 d m hl=>?_
  obtain⟨i,a,n,h⟩:=h1 d m hl;exact⟨i,a,n,by rw[f,C0 T a];exact h⟩
 ·intro k hk d m;rw[hlen] at hk;rw[q]
  by_cases e:k<c.st.length
  ·rw[b k e];exact L.rA k e d m
  ·obtain rfl:k=c.st.length:=by omega
   rw[l,h_];exact Fj L p d m
 ·intro k hk;rw[hlen] at hk
  by_cases e:k<c.st.length
  ·rw[b k e];exact L.cur k e
  ·obtain rfl:k=c.st.length:=by omega
   rw[l];exact q_ _
theorem kC.decide(L:kC F Fd c c.av.length [])(a:c.l9=false){x:Int}(b:gK c.n x)(d:j9 c x=0):kC F Fd (lp (nk c) x none) c.av.length []:=by
 refine(L.level a).set (c:=nk c) b d ⟨c.st.length,?_,?_⟩
 ·show c.st.length<(c.st++[c.av.length]).length;simp
 ·exact xA _ _
theorem yp(T:j6 c)(D:ry F Fd c){M:Int->Bool}(a:tQ M F):∀i,i<c.av.length->lE c.st i=0->M (aj c.av i)=true:=by
 intro i
 induction i using Nat.strongRecOn with
 |_ i g=>
  intro h hl;have:=T.pY i h;split at this
  ·obtain⟨k,hk,e⟩:=this;have:=(tS T (i:=i) hk).2 (by omega);omega
  ·rename_i d _;obtain⟨b,p,l⟩:=this;obtain⟨y,f,hm⟩:=D.imp d b M a
   by_cases e:y=aj c.av i
   ·rw[<-e];exact hm
   ·obtain⟨j,m,n,o⟩:=pJ.1 (l y f e);have h1:=g j m n (by have:=CT (st:=c.st) (i:=j) (j:=i) (by omega);omega);rw[o,a.1 y ((D.mF d b).lt y f).oC,hm] at h1
    cases h1
theorem JN(T:j6 c)(D:ry F Fd c)(j:c.st.length=0){d:Nat}(b:d<c.cl.length)(g:∀x∈ay c.cl d,-x∈c.av):Unsat F:=by
 intro M a;obtain⟨y,f,hm⟩:=D.imp d b M a;obtain⟨i,h,e⟩:=qf.1 (g y f);have h1:=yp T D a i h (by have:=wk c.st i;omega);rw[e,a.1 y ((D.mF d b).lt y f).oC,hm] at h1
 cases h1
def kQ(l:List Int)(i j:Nat):List Int:=(l.set i (aj l j)).set j (aj l i)
theorem rP(l:List Int)(i j:Nat):(kQ l i j).length=l.length:=by unfold kQ;simp
theorem qz{l:List Int}{i j:Nat}(c:i<l.length)(d:j<l.length)(k:Nat):aj (kQ l i j) k=if k=j then aj l i else if k=i then aj l j else aj l k:=by
 unfold kQ;rw[oP,oP]
 by_cases h1:k=j
 ·subst h1;rw[if_pos ⟨rfl,by simpa using d⟩,if_pos rfl]
 ·rw[if_neg (λ a=>h1 a.1.symm),if_neg h1]
  by_cases b:k=i
  ·subst b;rw[if_pos ⟨rfl,c⟩,if_pos rfl]
  ·rw[if_neg (λ a=>b a.1.symm),if_neg b]
theorem wo{l:List Int}{i j:Nat}(a:i<l.length)(b:j<l.length)(x:Int):x∈kQ l i j↔x∈l:=by
 rw[qf,qf,rP];constructor
 ·rintro⟨k,hk,e⟩;rw[qz a b] at e
  by_cases h1:k=j
  ·rw[if_pos h1] at e;exact⟨i,a,e⟩
  ·rw[if_neg h1] at e
   by_cases c:k=i
   ·rw[if_pos c] at e;exact⟨j,b,e⟩
   ·rw[if_neg c] at e;exact⟨k,hk,e⟩
 ·rintro⟨k,hk,e⟩
  by_cases h1:k=i
  ·refine⟨j,b,?_⟩;rw[qz a b,if_pos rfl,<-h1];exact e
  ·by_cases c:k=j
   ·refine⟨i,a,?_⟩;rw[qz a b]
    by_cases d:i=j
    ·exact absurd (c.trans d.symm) h1
    ·rw[if_neg d,if_pos rfl,<-c];exact e
   ·exact⟨k,hk,by rw[qz a b,if_neg c,if_neg h1];exact e⟩
theorem JO{l:List Int}(h:∀i j,i<l.length->j<l.length->aj l i=aj l j->i=j):l.Nodup:=by
 rw[List.nodup_iff_pairwise_ne,List.pairwise_iff_getElem];intro i j a b c e;have:=h i j a b (by rw[ng a,ng b];exact e);omega
theorem uH{l:List Int}(h:l.Nodup){i j:Nat}(a:i<l.length)(b:j<l.length)(e:aj l i=aj l j):i=j:=by
 rw[ng a,ng b] at e;exact(d_ h).1 e
theorem Fk{l:List Int}{i j:Nat}(f:i<l.length)(g:j<l.length)(h:l.Nodup):(kQ l i j).Nodup:=by
 refine JO λ a b k m e=>?_
 rw[rP] at k m;rw[qz f g,qz f g] at e
 by_cases a1:a=j
 ·rw[if_pos a1] at e
  by_cases c:b=j
  ·omega
  ·rw[if_neg c] at e
   by_cases d:b=i
   ·rw[if_pos d] at e;have:=uH h f g e;omega
   ·rw[if_neg d] at e;have:=uH h f m e;omega
 ·rw[if_neg a1] at e
  by_cases a2:a=i
  ·rw[if_pos a2] at e
   by_cases c:b=j
   ·rw[if_pos c] at e;have:=uH h g f e;omega
   ·rw[if_neg c] at e
    by_cases d:b=i
    ·omega
    ·rw[if_neg d] at e;have:=uH h g m e;omega
  ·rw[if_neg a2] at e
   by_cases c:b=j
   ·rw[if_pos c] at e;have:=uH h k f e;omega
   ·rw[if_neg c] at e
    by_cases d:b=i
    ·rw[if_pos d] at e;have:=uH h k g e;omega
    ·rw[if_neg d] at e;exact uH h k m e
theorem oD.swap{n:Nat}{l:List Int}{i j:Nat}(a:i<l.length)(b:j<l.length)(h:oD n l):oD n (kQ l i j):=by
 refine⟨λ e=>?_,λ x c=>h.lt x ((wo a b x).1 c),Fk a b h.nc,λ x c d=>h.bn x ((wo a b x).1 c) ((wo a b _).1 d)⟩;have:=rP l i j;rw[e] at this;simp at this;omega
def lJ(c:Core)(d:Nat)(l:List Int):Core:={c with cl:=c.cl.set d l}
theorem tT(c:Core)(d e:Nat)(l:List Int):ay (lJ c d l).cl e=if d=e/\d<c.cl.length then l else ay c.cl e:=qy _ _ _ _
theorem qU(c:Core)(d:Nat)(l:List Int):(lJ c d l).cl.length=c.cl.length:=by simp[lJ]
theorem j6.ja(h:j6 c){d:Nat}{l:List Int}(hl:∀x,x∈l↔x∈ay c.cl d):j6 (lJ c d l):=by
 refine⟨h.ru,h.o7,h.pK,h.lit,h.nc,h.tR,h.pos,h.qT,h.om,h.mA,λ i b=>?_⟩;have:=h.pY i b;show match mz c.kB (aC (aj c.av i)) with
   |none=>∃k,k<c.st.length/\gZ c.st k=i
   |some e=>e<(lJ c d l).cl.length/\aj c.av i∈ay (lJ c d l).cl e/\∀x∈ay (lJ c d l).cl e,x≠aj c.av i-> -x∈c.av.take i
 cases a:mz c.kB (aC (aj c.av i)) with
 |none=>rw[a] at this;exact this
 |some e=>
  rw[a] at this;show e<(lJ c d l).cl.length/\aj c.av i∈ay (lJ c d l).cl e/\∀x∈ay (lJ c d l).cl e,x≠aj c.av i-> -x∈c.av.take i;rw[qU,tT]
  by_cases h1:d=e/\d<c.cl.length
  ·rw[if_pos h1];obtain⟨rfl,_⟩:=h1;exact⟨this.1,(hl _).2 this.2.1,λ x f=>this.2.2 x ((hl x).1 f)⟩
  ·rw[if_neg h1];exact this
theorem ry.ja(h:ry F Fd c){d:Nat}{l:List Int}(hl:∀x,x∈l↔x∈ay c.cl d)(k:d<c.cl.length->oD c.n l)(hlen:d<c.cl.length->l.length=(ay c.cl d).length):ry F Fd (lJ c d l):=by
 have b:∀e x,x∈ay (lJ c d l).cl e↔x∈ay c.cl e:=λ e x=>by
  rw[tT]
  by_cases h1:d=e/\d<c.cl.length
  ·rw[if_pos h1];obtain⟨rfl,_⟩:=h1;exact hl x
  ·rw[if_neg h1]
 refine⟨λ e he=>?_,λ e he M m=>?_,λ g o=>?_,h.tq,h.tr.imp id λ h1 e he hle=>?_⟩
 ·rw[qU] at he;rw[tT]
  by_cases h1:d=e/\d<c.cl.length
  ·rw[if_pos h1];exact k h1.2
  ·rw[if_neg h1];exact h.mF e he
 ·rw[qU] at he;obtain⟨y,p,hm⟩:=h.imp e he M m;exact⟨y,(b e y).2 p,hm⟩
 ·rcases h.tn g o with h1|h1|h1|⟨e,he,h1⟩
  ·exact w_ h1
  ·exact y_ (w_ h1)
  ·exact y_ (y_ (w_ h1))
  ·exact y_ (y_ (y_ ⟨e,by rw[qU];exact he,λ x=>by rw[b];exact h1 x⟩))
 ·rw[qU] at he;have q:(ay c.cl e).length=1:=by
   rw[tT] at hle
   by_cases f:d=e/\d<c.cl.length
   ·rw[if_pos f] at hle;obtain⟨rfl,a⟩:=f;rw[<-hlen a];exact hle
   ·rw[if_neg f] at hle;exact hle
  obtain⟨i,r,s,t⟩:=h1 e he q;refine⟨i,r,?_,t⟩;show aj c.av i=w0 (lJ c d l) e;rw[s];have a:w0 c e∈ay (lJ c d l).cl e:=(b e _).2 (lZ (by omega));have j:w0 (lJ c d l) e∈ay (lJ c d l).cl e:=lZ (by omega);obtain⟨z,u⟩:=List.length_eq_one_iff.1 hle;rw[u,x_] at a j;rw[a,j]
theorem Fl(h:CV c){d:Nat}{l:List Int}(hl:∀x,x∈l↔x∈ay c.cl d):CV (lJ c d l):=by
 intro k hk e he;rw[qU] at he;have:=h k hk e he;show wj (c.av.take (gZ c.st k)) (ay (lJ c d l).cl e);rw[tT]
 by_cases h1:d=e/\d<c.cl.length
 ·rw[if_pos h1];obtain⟨rfl,_⟩:=h1;rcases this with⟨x,a,b⟩|⟨x,a,y,f,b⟩
  ·exact w_ ⟨x,(hl x).2 a,b⟩
  ·exact y_ ⟨x,(hl x).2 a,y,(hl y).2 f,b⟩
 ·rw[if_neg h1];exact this
end
section
variable {F Fd:List (List Int)}{c:Core}{h:Nat}{P:List Nat}{d:Nat}
theorem JP(c:Core)(e:Nat)(a:d<c.cl.length)(f:2<=(ay c.cl d).length):(w0 (lJ c d (kQ (ay c.cl d) 0 1)) e=if d=e then w1 c e else w0 c e)/\(w1 (lJ c d (kQ (ay c.cl d) 0 1)) e=if d=e then w0 c e else w1 c e):=by
 unfold w0 w1;rw[tT]
 by_cases h1:d=e
 ·subst h1;rw[if_pos ⟨rfl,a⟩,if_pos rfl,if_pos rfl,qz (by omega) (by omega),qz (by omega) (by omega)];simp
 ·rw[if_neg (λ b=>h1 b.1),if_neg h1,if_neg h1];exact⟨rfl,rfl⟩
theorem kC.swap(L:kC F Fd c h P)(g:d<c.cl.length)(n:2<=(ay c.cl d).length):kC F Fd (lJ c d (kQ (ay c.cl d) 0 1)) h P:=by
 have hm:=wo (l:=ay c.cl d) (i:=0) (j:=1) (by omega) (by omega);have hw:=λ e=>JP c e g n
 have hlen:∀e,(ay (lJ c d (kQ (ay c.cl d) 0 1)).cl e).length=(ay c.cl e).length:=λ e=>by
  rw[tT]
  by_cases h1:d=e/\d<c.cl.length
  ·rw[if_pos h1];obtain⟨rfl,_⟩:=h1;exact rP _ _ _
  ·rw[if_neg h1]
 refine⟨L.aK.ja hm,L.jN.ja hm (λ g=>(L.jN.mF d g).swap (by omega) (by omega)) (λ _=>rP _ _ _),⟨L.wt.qI,λ k e he=>?_,L.wt.sO,λ e he hl=>?_⟩,λ e he hl a b f o=>?_,Fl L.rA hm,L.cur,L.hle⟩
 ·obtain⟨p,q,m⟩:=L.wt.qJ k e he;refine⟨by rw[qU];exact p,by rw[hlen];exact q,?_⟩;rw[(hw e).1,(hw e).2]
  by_cases h1:d=e
  ·rw[if_pos h1,if_pos h1];exact m.symm
  ·rw[if_neg h1,if_neg h1];exact m
 ·rw[qU] at he;rw[hlen] at hl;have:=L.wt.uG e he hl;rw[(hw e).1,(hw e).2]
  by_cases h1:d=e
  ·rw[if_pos h1,if_pos h1];exact⟨this.2,this.1⟩
  ·rw[if_neg h1,if_neg h1];exact this
 ·rw[qU] at he;rw[hlen] at hl;refine L.rz e he hl a b ?_ o;unfold wm at f⊢;rw[(hw e).1,(hw e).2] at f
  by_cases h1:d=e
  ·rw[if_pos h1,if_pos h1] at f;exact f.symm
  ·rw[if_neg h1,if_neg h1] at f;exact f
def rQ(c:Core)(d k:Nat)(ir:List Nat):Core:=
 let x:=w1 c d;let y:=aj (ay c.cl d) k
 {lJ c d (kQ (ay c.cl d) 1 k) with wt:=(c.wt.set (jM (-x)) ir).set (jM (-y)) (ay c.wt (jM (-y))++[d])}
theorem kC.move{kept rest:List Nat}{k:Nat}(L:kC F Fd c h (d::rest))(u:d<c.cl.length)(hk:2<=k)(t:k<(ay c.cl d).length)(p:h≠0)(O:aj c.av (h-1)= -(w1 c d))(P:¬-(aj (ay c.cl d) k)∈c.av)(G:ay c.wt (jM (-(w1 c d)))=kept++d::rest):
  kC F Fd (rQ c d k (kept++rest)) h rest:=by
 have v:=L.jN.mF d u;have hm:=wo (l:=ay c.cl d) (i:=1) (j:=k) (by omega) t;obtain⟨x,r⟩:∃x,w1 c d=x:=⟨_,rfl⟩
 obtain⟨y,A⟩:∃y,aj (ay c.cl d) k=y:=⟨_,rfl⟩
 rw[r] at O G;rw[A] at P;have Q:x≠y:=λ e=>by
  have:=uH v.nc (i:=1) (j:=k) (by omega) t (by rw[show aj (ay c.cl d) 1=x from r,A,e]);omega
 have U:w0 c d≠y:=λ e=>by
  have:=uH v.nc (i:=0) (j:=k) (by omega) t (by rw[show aj (ay c.cl d) 0=w0 c d from rfl,A,e]);omega
 have V:x∈ay c.cl d:=by rw[<-r];exact lZ (by omega)
 have W:y∈ay c.cl d:=by rw[<-A];exact lZ t
 have X:=(v.lt x V)
 have Y:=(v.lt y W)
 have ah:jM (-x)≠jM (-y):=λ e=>Q (by have:=vw e;omega)
 have n:rQ c d k (kept++rest)={lJ c d (kQ (ay c.cl d) 1 k) with wt:=(c.wt.set (jM (-x)) (kept++rest)).set (jM (-y)) (ay c.wt (jM (-y))++[d])}:=by
  unfold rQ;rw[r,A]
 have J:∀e,w0 (rQ c d k (kept++rest)) e=w0 c e:=λ e=>by
  rw[n];show aj (ay (lJ c d (kQ (ay c.cl d) 1 k)).cl e) 0=_;rw[tT]
  by_cases h1:d=e/\d<c.cl.length
  ·rw[if_pos h1];obtain⟨rfl,_⟩:=h1;rw[qz (by omega) t,if_neg (by omega),if_neg (by omega)];rfl
  ·rw[if_neg h1];rfl
 have K:∀e,w1 (rQ c d k (kept++rest)) e=if d=e then y else w1 c e:=λ e=>by
  rw[n];show aj (ay (lJ c d (kQ (ay c.cl d) 1 k)).cl e) 1=_;rw[tT]
  by_cases h1:d=e
  ·rw[if_pos ⟨h1,u⟩,if_pos h1,qz (by omega) t,if_neg (by omega),if_pos rfl];exact A
  ·rw[if_neg (λ p=>h1 p.1),if_neg h1];rfl
 have hlen:∀e,(ay (rQ c d k (kept++rest)).cl e).length=(ay c.cl e).length:=λ e=>by
  rw[n];show(ay (lJ c d (kQ (ay c.cl d) 1 k)).cl e).length=_;rw[tT]
  by_cases h1:d=e/\d<c.cl.length
  ·rw[if_pos h1];obtain⟨rfl,_⟩:=h1;exact rP _ _ _
  ·rw[if_neg h1]
 have M:(rQ c d k (kept++rest)).cl.length=c.cl.length:=by rw[n];exact qU _ _ _
 have H:∀j,ay (rQ c d k (kept++rest)).wt j=if j=jM (-y) then ay c.wt (jM (-y))++[d] else if j=jM (-x) then kept++rest else ay c.wt j:=λ j=>by
  rw[n];show ay ((c.wt.set (jM (-x)) (kept++rest)).set (jM (-y)) (ay c.wt (jM (-y))++[d])) j=_;rw[qy,qy];have Z:jM (-x)<c.wt.length:=by rw[L.wt.qI];exact X.neg.at
  have aa:jM (-y)<c.wt.length:=by rw[L.wt.qI];exact Y.neg.at
  by_cases h1:j=jM (-y)
  ·rw[if_pos ⟨h1.symm,by simpa using aa⟩,if_pos h1]
  ·rw[if_neg (λ p=>h1 p.1.symm),if_neg h1]
   by_cases f:j=jM (-x)
   ·rw[if_pos ⟨f.symm,Z⟩,if_pos f]
   ·rw[if_neg (λ p=>f p.1.symm),if_neg f]
 have D:=L.wt.sO (jM (-x));rw[G] at D;have ab:¬d∈kept++rest:=by
  rw[i_,Zz] at D;intro p;rcases v_.1 p with h1|h1
  ·exact D.2.2 d h1 d (by simp) rfl
  ·exact D.2.1.1 h1
 have R:¬d∈ay c.wt (jM (-y)):=λ p=>by
  obtain⟨_,_,g⟩:=L.wt.qJ _ d p;rcases g with g|g
  ·have:=vw g;exact U (by omega)
  ·have:=vw g;exact Q (by omega)
 have o:=L.aK.ja hm;refine⟨by rw[n];exact⟨o.ru,o.o7,o.pK,o.lit,o.nc,o.tR,o.pos,o.qT,o.om,o.mA,o.pY⟩,?_,⟨?_,?_,?_,?_⟩,?_,?_,L.cur,L.hle⟩
 ·have E:=L.jN.ja hm (λ u=>(L.jN.mF d u).swap (by omega) t) (λ _=>rP _ _ _);rw[n];exact⟨E.mF,E.imp,E.tn,E.tq,E.tr⟩
 ·rw[n];show((c.wt.set (jM (-x)) (kept++rest)).set (jM (-y)) (ay c.wt (jM (-y))++[d])).length=_;simp[L.wt.qI,lJ]
 ·intro j e he;rw[H] at he;rw[M,hlen,J,K]
  by_cases h1:j=jM (-y)
  ·rw[if_pos h1] at he;rcases v_.1 he with f|f
   ·rw[<-h1] at f;obtain⟨g,q,s⟩:=L.wt.qJ j e f;refine⟨g,q,?_⟩;have m:d≠e:=by rintro rfl;rw[h1] at f;exact R f
    rw[if_neg m];exact s
   ·rw[x_.1 f];exact⟨u,by omega,y_ (by rw[if_pos rfl];exact h1)⟩
  ·rw[if_neg h1] at he;have S:e∈ay c.wt j/\(d=e->j≠jM (-x)):=by
    by_cases f:j=jM (-x)
    ·rw[if_pos f] at he;refine⟨?_,λ m=>absurd (m▸he) ab⟩;rw[f,G];rcases v_.1 he with g|g
     ·simp[g]
     ·simp[g]
    ·rw[if_neg f] at he;exact⟨he,λ _=>f⟩
   obtain⟨g,q,s⟩:=L.wt.qJ j e S.1;refine⟨g,q,?_⟩
   by_cases m:d=e
   ·rw[if_pos m];rcases s with s|s
    ·exact w_ s
    ·exact absurd (by rw[s,<-m,r]) (S.2 m)
   ·rw[if_neg m];exact s
 ·intro j;rw[H]
  by_cases h1:j=jM (-y)
  ·rw[if_pos h1,i_];refine⟨L.wt.sO _,by simp,λ a B b ad e=>R ?_⟩;rw[x_.1 ad] at e;exact e▸B
  ·rw[if_neg h1]
   by_cases f:j=jM (-x)
   ·rw[if_pos f];refine D.sublist ?_;exact List.Sublist.append_left (List.sublist_cons_self _ _) _
   ·rw[if_neg f];exact L.wt.sO j
 ·intro e he hl;rw[M] at he;rw[hlen] at hl;have N:=L.wt.uG e he hl;rw[J,K];have keep:∀j,(d=e->j≠jM (-x))->e∈ay c.wt j->e∈ay (rQ c d k (kept++rest)).wt j:=λ j I h1=>by
   rw[H]
   by_cases f:j=jM (-y)
   ·rw[if_pos f,<-f];simp[h1]
   ·rw[if_neg f]
    by_cases g:j=jM (-x)
    ·rw[if_pos g];rw[g,G] at h1;have m:e≠d:=λ q=>I q.symm g
     simp only[v_,m_] at h1⊢;rcases h1 with h1|h1|h1
     ·exact w_ h1
     ·exact absurd h1 m
     ·exact y_ h1
    ·rw[if_neg g];exact h1
  by_cases m:d=e
  ·subst m;rw[if_pos rfl];refine⟨keep _ (λ _ ae=>?_) N.1,?_⟩
   ·have g:=vw ae;have q:=(v.w (by omega)).2.2.1;apply q;show w0 c d=w1 c d;rw[r];omega
   ·rw[H,if_pos rfl];simp
  ·rw[if_neg m];exact⟨keep _ (λ h1=>absurd h1 m) N.1,keep _ (λ h1=>absurd h1 m) N.2⟩
 ·intro e he hl a b C B;rw[M] at he;rw[hlen] at hl;have af:(rQ c d k (kept++rest)).av=c.av:=by rw[n];rfl
  have T:∀z,bh (rQ c d k (kept++rest)) z=bh c z:=λ z=>by rw[n];rfl
  rw[af] at B⊢;rw[T,T];unfold wm at C;rw[J,K] at C
  by_cases m:d=e
  ·subst m;rw[if_pos rfl] at C;exfalso;rcases C with⟨rfl,rfl⟩|⟨rfl,rfl⟩
   ·
    have ag:¬x∈c.av:=λ h1=>by
     have f: -x∈c.av:=by rw[<-O];exact lZ (by have:=L.hle;omega)
     exact L.aK.apart h1 f
    rcases L.rz d u hl (w0 c d) x (w_ ⟨rfl,r.symm⟩) B with⟨_,h1⟩|⟨h1,_⟩
    ·have q:=(v.w (by omega)).2.2.1;apply q;show w0 c d=w1 c d;rw[r];omega
    ·exact ag h1
   ·exact P (sj B)
  ·rw[if_neg m] at C;rcases L.rz e he hl a b C B with⟨h1,f⟩|h1
   ·left;refine⟨?_,f⟩;rcases m_.1 h1 with g|g
    ·exact absurd g.symm m
    ·exact g
   ·exact y_ h1
 ·have:=Fl L.rA hm;intro j I e he;have g:=this j (by rw[n] at I;exact I) e (by rw[n] at he;exact he);rw[n];exact g
end
end
section
def wq(wt:List (List Nat))(l:List Int)(d:Nat):List (List Nat):=
 let w':=wt.set (jM (-(aj l 0))) (ay wt (jM (-(aj l 0)))++[d])
 w'.set (jM (-(aj l 1))) (ay w' (jM (-(aj l 1)))++[d])
def kF(c:Core)(l:List Int):Core:={c with cl:=c.cl++[l],wt:=if 2<=l.length then wq c.wt l c.cl.length else c.wt}
section
variable {F Fd:List (List Int)}{c:Core}{l:List Int}
theorem rB{d:Nat}(a:d<c.cl.length):ay (kF c l).cl d=ay c.cl d:=AY a
theorem rC:ay (kF c l).cl c.cl.length=l:=uE _ _
theorem qA:(kF c l).cl.length=c.cl.length+1:=by simp[kF]
theorem j6.new(h:j6 c):j6 (kF c l):=by
 refine⟨h.ru,h.o7,h.pK,h.lit,h.nc,h.tR,h.pos,h.qT,h.om,h.mA,λ i b=>?_⟩;have:=h.pY i b;show match mz c.kB (aC (aj c.av i)) with
   |none=>∃k,k<c.st.length/\gZ c.st k=i
   |some e=>e<(kF c l).cl.length/\aj c.av i∈ay (kF c l).cl e/\∀x∈ay (kF c l).cl e,x≠aj c.av i-> -x∈c.av.take i
 cases a:mz c.kB (aC (aj c.av i)) with
 |none=>rw[a] at this;exact this
 |some e=>
  rw[a] at this;obtain⟨h1,d,f⟩:=this;show e<(kF c l).cl.length/\aj c.av i∈ay (kF c l).cl e/\∀x∈ay (kF c l).cl e,x≠aj c.av i-> -x∈c.av.take i;rw[qA,rB h1];exact⟨by omega,d,f⟩
theorem JQ(hl:oD c.n l)(f:2<=l.length)(hs:c.wt.length=2*c.n+2)(j:Nat):
  ay (wq c.wt l c.cl.length) j=if j=jM (-(aj l 0))\/j=jM (-(aj l 1)) then ay c.wt j++[c.cl.length] else ay c.wt j:=by
 obtain⟨m0,m1,g,_⟩:=hl.w f;have h:jM (-(aj l 0))≠jM (-(aj l 1)):=λ e=>g (by have:=vw e;omega)
 have aI:jM (-(aj l 0))<c.wt.length:=by rw[hs];exact(hl.lt _ m0).neg.at
 have s1:jM (-(aj l 1))<c.wt.length:=by rw[hs];exact(hl.lt _ m1).neg.at
 unfold wq;simp only[qy,Zy]
 by_cases b:j=jM (-(aj l 1))
 ·subst b;rw[if_pos ⟨rfl,s1⟩,if_pos (y_ rfl),if_neg (λ a=>h a.1)]
 ·rw[if_neg (λ a=>b a.1.symm)]
  by_cases d:j=jM (-(aj l 0))
  ·subst d;rw[if_pos ⟨rfl,aI⟩,if_pos (w_ rfl)]
  ·rw[if_neg (λ a=>d a.1.symm),if_neg (λ a=>a.elim d b)]
theorem tU{d:Nat}(a:d<c.cl.length):w0 (kF c l) d=w0 c d/\w1 (kF c l) d=w1 c d:=by
 unfold w0 w1;rw[rB a];exact⟨rfl,rfl⟩
theorem vb:w0 (kF c l) c.cl.length=aj l 0/\w1 (kF c l) c.cl.length=aj l 1:=by
 unfold w0 w1;rw[rC];exact⟨rfl,rfl⟩
theorem ym.new(h:ym c)(hl:oD c.n l):ym (kF c l):=by
 have k:∀j,ay (kF c l).wt j=if 2<=l.length/\(j=jM (-(aj l 0))\/j=jM (-(aj l 1))) then ay c.wt j++[c.cl.length] else ay c.wt j:=λ j=>by
  show ay (if 2<=l.length then wq c.wt l c.cl.length else c.wt) j=_
  by_cases m:2<=l.length
  ·rw[if_pos m,JQ hl m h.qI]
   by_cases f:j=jM (-(aj l 0))\/j=jM (-(aj l 1))
   ·rw[if_pos f,if_pos ⟨m,f⟩]
   ·rw[if_neg f,if_neg (λ p=>f p.2)]
  ·rw[if_neg m,if_neg (λ p=>m p.1)]
 refine⟨?_,λ j d g=>?_,λ j=>?_,λ d g o=>?_⟩
 ·show(if 2<=l.length then wq c.wt l c.cl.length else c.wt).length=_;split
  ·unfold wq;simp[h.qI];rfl
  ·exact h.qI
 ·rw[k] at g
  by_cases f:2<=l.length/\(j=jM (-(aj l 0))\/j=jM (-(aj l 1)))
  ·rw[if_pos f] at g;rcases v_.1 g with q|q
   ·obtain⟨i,r,s⟩:=h.qJ j d q;rw[qA,rB i,(tU i).1,(tU i).2];exact⟨by omega,r,s⟩
   ·rw[x_.1 q,qA,rC,vb.1,vb.2];exact⟨by omega,f.1,f.2⟩
  ·rw[if_neg f] at g;obtain⟨i,r,s⟩:=h.qJ j d g;rw[qA,rB i,(tU i).1,(tU i).2];exact⟨by omega,r,s⟩
 ·rw[k];split
  ·rw[i_];refine⟨h.sO j,by simp,λ a t b u e=>?_⟩;rw[x_.1 u] at e;have:=(h.qJ j a t).1;omega
  ·exact h.sO j
 ·rw[qA] at g
  by_cases e:d<c.cl.length
  ·rw[rB e] at o;rw[(tU e).1,(tU e).2,k,k];have:=h.uG d e o;constructor
   ·split
    ·simp[this.1]
    ·exact this.1
   ·split
    ·simp[this.2]
    ·exact this.2
  ·obtain rfl:d=c.cl.length:=by omega
   rw[rC] at o;rw[vb.1,vb.2,k,k,if_pos ⟨o,w_ rfl⟩,if_pos ⟨o,y_ rfl⟩];simp
theorem kC.new{h:Nat}{g:List Int}(L:kC F Fd c h [])(hl:oD c.n l)(r:rq F l)(s:∀x,x∈l↔x∈g)
  (t:2<=l.length->∀a b,(a=aj l 0/\b=aj l 1\/a=aj l 1/\b=aj l 0)-> -a∈c.av.take h->b∈c.av/\bh c b<=bh c a)
  (u:∀k,k<c.st.length->wj (c.av.take (gZ c.st k)) l) (hu:l.length=1->c.l9=true\/∃i,i<c.av.length/\aj c.av i=aj l 0/\lE c.st i=0):
  kC F (Fd++[g]) (kF c l) h []:=by
 refine⟨L.aK.new,⟨λ d j=>?_,λ d j=>?_,λ v w=>?_,L.jN.tq,?_⟩,L.wt.new hl,λ d j f a b m q=>?_,λ k hk d j=>?_,L.cur,L.hle⟩
 ·rw[qA] at j
  by_cases e:d<c.cl.length
  ·rw[rB e];exact L.jN.mF d e
  ·obtain rfl:d=c.cl.length:=by omega
   rw[rC];exact hl
 ·rw[qA] at j
  by_cases e:d<c.cl.length
  ·rw[rB e];exact L.jN.imp d e
  ·obtain rfl:d=c.cl.length:=by omega
   rw[rC];exact r
 ·rcases v_.1 w with h1|h1
  ·rcases L.jN.tn v h1 with f|f|f|⟨d,j,f⟩
   ·exact w_ f
   ·exact y_ (w_ f)
   ·exact y_ (y_ (w_ f))
   ·exact y_ (y_ (y_ ⟨d,by rw[qA];omega,by rw[rB j];exact f⟩))
  ·rw[x_.1 h1];exact y_ (y_ (y_ ⟨c.cl.length,by rw[qA];omega,by rw[rC];exact s⟩))
 ·by_cases o:c.l9=true
  ·exact w_ o
  ·refine y_ λ d j h1=>?_
   rw[qA] at j
   by_cases e:d<c.cl.length
   ·rw[rB e] at h1;rw[(tU e).1];exact(L.jN.tr.resolve_left o) d e h1
   ·obtain rfl:d=c.cl.length:=by omega
    rw[rC] at h1;rw[vb.1];exact(hu h1).resolve_left o
 ·rw[qA] at j;right
  by_cases e:d<c.cl.length
  ·rw[rB e] at f;unfold wm at m;rw[(tU e).1,(tU e).2] at m;rcases L.rz d e f a b m q with⟨p,_⟩|p
   ·cases p
   ·exact p
  ·obtain rfl:d=c.cl.length:=by omega
   rw[rC] at f;unfold wm at m;rw[vb.1,vb.2] at m;exact t f a b m q
 ·rw[qA] at j
  by_cases e:d<c.cl.length
  ·rw[rB e];exact L.rA k hk d e
  ·obtain rfl:d=c.cl.length:=by omega
   rw[rC];exact u k hk
theorem kC.Fm{h:Nat}{g:List Int}(L:kC F Fd c h [])(hl:oD c.n l)(p:rq F l)(D:∀x,x∈l↔x∈g)(s:j9 c (aj l 0)=0)(E:∀y∈l,y≠aj l 0-> -y∈c.av)
  (G:l.length=1->c.st.length=0) (H:2<=l.length->c.st.length<=bh c (aj l 1))
  (I:∀k,k<c.st.length->wj (c.av.take (gZ c.st k)) l):
  kC F (Fd++[g]) (lp (kF c l) (aj l 0) (some c.cl.length)) h []:=by
 have u:0<l.length:=List.length_pos_iff.2 hl.ne;have r:=hl.lt _ (lZ u);have m:(lp (kF c l) (aj l 0) (some c.cl.length)).av=c.av++[aj l 0]:=rfl;have J:=L.aK.new (l:=l)|>.set (c:=kF c l) (x:=aj l 0) (w:=some c.cl.length) r s (by
  refine⟨by rw[qA];omega,?_,?_⟩
  ·rw[rC];exact lZ u
  ·rw[rC];exact E)
 have v:∀i,i<c.av.length->aj (c.av++[aj l 0]) i=aj c.av i:=λ i p=>tj p
 refine⟨J,⟨λ d f=>?_,λ d f=>?_,λ z K=>?_,L.jN.tq,?_⟩,?_,λ d f j a b o t=>?_,λ k hk d f=>?_,L.cur,by rw[m,t_];have:=L.hle;omega⟩
 ·have f:d<(kF c l).cl.length:=f;rw[qA] at f;show oD c.n (ay (kF c l).cl d)
  by_cases e:d<c.cl.length
  ·rw[rB e];exact L.jN.mF d e
  ·obtain rfl:d=c.cl.length:=by omega
   rw[rC];exact hl
 ·have f:d<(kF c l).cl.length:=f;rw[qA] at f;show rq F (ay (kF c l).cl d)
  by_cases e:d<c.cl.length
  ·rw[rB e];exact L.jN.imp d e
  ·obtain rfl:d=c.cl.length:=by omega
   rw[rC];exact p
 ·rcases v_.1 K with h1|h1
  ·rcases L.jN.tn z h1 with j|j|⟨i,p,j,q⟩|⟨d,f,j⟩
   ·exact w_ j
   ·exact y_ (w_ j)
   ·refine y_ (y_ (w_ ⟨i,by rw[m,t_];omega,?_,q⟩));rw[m,v i p];exact j
   ·refine y_ (y_ (y_ ⟨d,?_,?_⟩))
    ·show d<(kF c l).cl.length;rw[qA];omega
    ·show∀x,x∈ay (kF c l).cl d↔x∈z;rw[rB f];exact j
  ·rw[x_.1 h1];refine y_ (y_ (y_ ⟨c.cl.length,?_,?_⟩))
   ·show c.cl.length<(kF c l).cl.length;rw[qA];omega
   ·show∀x,x∈ay (kF c l).cl c.cl.length↔x∈g;rw[rC];exact D
 ·by_cases A:c.l9=true
  ·exact w_ A
  ·refine y_ λ d f h1=>?_
   have f:d<(kF c l).cl.length:=f;have h1:(ay (kF c l).cl d).length=1:=h1;rw[qA] at f
   by_cases e:d<c.cl.length
   ·rw[rB e] at h1;obtain⟨i,p,M,N⟩:=(L.jN.tr.resolve_left A) d e h1;refine⟨i,by rw[m,t_];omega,?_,N⟩;rw[m,v i p,M];exact(tU e).1.symm
   ·obtain rfl:d=c.cl.length:=by omega
    rw[rC] at h1;have hs:=G h1;refine⟨c.av.length,by rw[m];simp,?_,?_⟩
    ·rw[m,xy];exact vb.1.symm
    ·have:=wk c.st c.av.length;show lE c.st c.av.length=0;omega
 ·have:=L.wt.new hl;exact⟨this.qI,this.qJ,this.sO,this.uG⟩
 ·have f:d<(kF c l).cl.length:=f;have j:2<=(ay (kF c l).cl d).length:=j;have o:wm (kF c l) d a b:=o;rw[m,u_ L.hle] at t;rw[qA] at f;right;have B:aC a≠aC (aj l 0):=by
   have:=vB L.aK r s (sj t)
   rwa[oO] at this
  have C:∀y,bh (lp (kF c l) (aj l 0) (some c.cl.length)) y=if aC y=aC (aj l 0) then c.st.length else bh c y:=λ y=>AZ (c:=kF c l) (L.aK.new) r y
  rw[C,C,if_neg B,m,v_,x_]
  by_cases e:d<c.cl.length
  ·rw[rB e] at j;unfold wm at o;rw[(tU e).1,(tU e).2] at o;rcases L.rz d e j a b o t with⟨q,_⟩|⟨q,O⟩
   ·cases q
   ·rw[if_neg (vB L.aK r s q)];exact⟨w_ q,O⟩
  ·obtain rfl:d=c.cl.length:=by omega
   rw[rC] at j;unfold wm at o;rw[vb.1,vb.2] at o;rcases o with⟨rfl,rfl⟩|⟨rfl,rfl⟩
   ·exact absurd rfl B
   ·rw[if_pos rfl];exact⟨y_ rfl,H j⟩
 ·have f:d<(kF c l).cl.length:=f;rw[qA] at f;show wj ((c.av++[aj l 0]).take (gZ c.st k)) (ay (kF c l).cl d);rw[u_ (L.aK.om k hk)]
  by_cases e:d<c.cl.length
  ·rw[rB e];exact L.rA k hk d e
  ·obtain rfl:d=c.cl.length:=by omega
   rw[rC];exact I k hk
theorem kC.more{h:Nat}{P:List Nat}{g:List Int}(L:kC F Fd c h P)(a:c.l9=true\/u9 g\/∃i,i<c.av.length/\aj c.av i∈g/\lE c.st i=0):kC F (Fd++[g]) c h P:=by
 refine⟨L.aK,⟨L.jN.mF,L.jN.imp,λ b d=>?_,L.jN.tq,L.jN.tr⟩,L.wt,L.rz,L.rA,L.cur,L.hle⟩;rcases v_.1 d with h1|h1
 ·exact L.jN.tn b h1
 ·rw[x_.1 h1];rcases a with a|a|a
  ·exact w_ a
  ·exact y_ (w_ a)
  ·exact y_ (y_ (w_ a))
def wu(c:Core):Core:={c with l9:=true}
theorem kC.Fo{h:Nat}{P:List Nat}(L:kC F Fd c h P)(hu:Unsat F):kC F Fd (wu c) h P:=
 ⟨⟨L.aK.ru,L.aK.o7,L.aK.pK,L.aK.lit,L.aK.nc,L.aK.tR,L.aK.pos,L.aK.qT,L.aK.om,L.aK.mA,L.aK.pY⟩,⟨L.jN.mF,L.jN.imp,λ g _=>w_ rfl,λ _=>hu,w_ rfl⟩,⟨L.wt.qI,L.wt.qJ,L.wt.sO,L.wt.uG⟩,L.rz,L.rA,L.cur,L.hle⟩
theorem kC.same{h:Nat}{P:List Nat}{Fp:List (List Int)}(L:kC F Fd c h P)(he:∀g∈Fp,g∈Fd):kC F Fp c h P:=
 ⟨L.aK,⟨L.jN.mF,L.jN.imp,λ g a=>L.jN.tn g (he g a),L.jN.tq,L.jN.tr⟩,L.wt,L.rz,L.rA,L.cur,L.hle⟩
end
section
variable {F Fd:List (List Int)}{c:Core}{h:Nat}{d:Nat}{rest:List Nat}
theorem kC.next(L:kC F Fd c h [])(l:h<c.av.length):kC F Fd {c with ag:=h+1} (h+1) (ay c.wt (jM (aj c.av h))):=by
 refine⟨⟨L.aK.ru,L.aK.o7,L.aK.pK,L.aK.lit,L.aK.nc,L.aK.tR,L.aK.pos,L.aK.qT,L.aK.om,L.aK.mA,L.aK.pY⟩,⟨L.jN.mF,L.jN.imp,L.jN.tn,L.jN.tq,L.jN.tr⟩,⟨L.wt.qI,L.wt.qJ,L.wt.sO,L.wt.uG⟩,λ e he hl a b g m=>?_,L.rA,λ k hk=>Nat.le_succ_of_le (L.cur k hk),l⟩;obtain⟨j,h1,n,d⟩:=pJ.1 m
 by_cases o:j<h
 ·rcases L.rz e he hl a b g (pJ.2 ⟨j,o,n,d⟩) with⟨f,_⟩|f
  ·cases f
  ·exact y_ f
 ·obtain rfl:j=h:=by omega
  left;refine⟨?_,d⟩;have i:=L.wt.uG e he hl;rw[d];rcases g with⟨rfl,rfl⟩|⟨rfl,rfl⟩
  ·exact i.1
  ·exact i.2
theorem kC.kept(L:kC F Fd c h (d::rest))(o:d<c.cl.length)(p:2<=(ay c.cl d).length)(B:h≠0)(q:aj c.av (h-1)= -(w1 c d))(g:w0 c d∈c.av)(r:∀k,k<c.st.length->gZ c.st k<=h-1):kC F Fd c h rest:=by
 have s:=L.jN.mF d o;refine⟨L.aK,L.jN,L.wt,λ e he hl a b m f=>?_,L.rA,L.cur,L.hle⟩
 by_cases n:e=d
 ·subst n;right;obtain⟨m0,m1,C,_⟩:=s.w p;rcases m with⟨rfl,rfl⟩|⟨rfl,rfl⟩
  ·exact absurd (sj f) (L.aK.apart g)
  ·refine⟨g,?_⟩;have t:h-1<c.av.length:=by have:=L.hle;omega
   obtain⟨i,u,v⟩:=qf.1 g;have x:bh c (w0 c e)=lE c.st i:=by rw[<-L.aK.mA i u];rw[<-v]
   have y:bh c (w1 c e)=lE c.st (h-1):=by
    rw[<-L.aK.mA _ t,q];unfold bh;rw[oO]
   have z:lE c.st (h-1)=c.st.length:=by
    unfold lE;rw[Zw];intro a f;obtain⟨k,hk,e⟩:=r_.1 f;have:=r k hk;rw[va hk,e] at this;simpa using this
   rw[x,y,z];exact wk _ _
 ·rcases L.rz e he hl a b m f with⟨j,A⟩|j
  ·rcases m_.1 j with l|l
   ·exact absurd l n
   ·exact w_ ⟨l,A⟩
  ·exact y_ j
theorem kC.low{P:List Nat}(L:kC F Fd c h P)(p:h≠0)(g:∀k,k<c.st.length->gZ c.st k<=h-1):kC F Fd c (h-1) []:=by
 refine⟨L.aK,L.jN,L.wt,λ e he hl a b l d=>?_,L.rA,g,by have:=L.hle;omega⟩;right;rcases L.rz e he hl a b l (CU d (by omega)) with⟨f,m⟩|f
 ·exfalso;obtain⟨j,q,n,o⟩:=pJ.1 d;have:=L.aK.place (i:=h-1) (j:=j) (by have:=L.hle;omega) n (by rw[m,o]);omega
 ·exact f
end
theorem JR{F Fd:List (List Int)}{c:Core}(L:kC F Fd c c.av.length [])(k:c.l9=false)(l:∀x,gK c.n x->j9 c x≠0){M:Int->Bool}(m:Mod M)(hm:∀x,gK c.n x->(M x=true↔j9 c x=1))(hF:∀g∈Fd,∀x∈g,gK c.n x):∀g∈Fd,sN M g:=by
 intro g f;have T:=L.aK;rcases L.jN.tn g f with h|h|⟨i,o,h,_⟩|⟨d,j,h⟩
 ·rw[k] at h;cases h
 ·exact h.JI m
 ·refine⟨_,h,?_⟩;rw[hm _ (hF g f _ h)];exact(T.pos _ (hF g f _ h)).2 (lZ o)
 ·rcases Fj L k d j with⟨x,e,p⟩|⟨x,e,y,s,t,h1,u⟩
  ·have b:=(L.jN.mF d j).lt x e;exact⟨x,(h x).1 e,(hm x b).2 ((T.pos x b).2 p)⟩
  ·have b:=(L.jN.mF d j).lt x e;refine⟨x,(h x).1 e,(hm x b).2 ?_⟩;have a:=T.range x;have q:=l x b;have r:=T.xB b;rcases a with a|a|a
   ·exact absurd a q
   ·exact a
   ·exact absurd (r.1 a) h1
end
end Go.Proofs.YtogdlkfacflmaaaGreat
