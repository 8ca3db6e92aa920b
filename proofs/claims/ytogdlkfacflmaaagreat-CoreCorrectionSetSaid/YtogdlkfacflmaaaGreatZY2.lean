/- Parts of the walk of the solver and its core; no condition. -/
import Derived.RangeFuncNested
import Derived.RangeFuncBound
import Derived.RangeFuncCalls
import Derived.RangeFuncLeaves
import Derived.StillTailTactics
import Derived.Deep.Quiet
import Derived.OrdersIn
import Derived.Test.YtogdlkfacflmaaaGreatRows
import Derived.WalkKit
import Derived.Below
import Derived.Laws.OwnMore
import Derived.Test.YtogdlkfacflmaaaGreatZY1
namespace Go.Proofs.YtogdlkfacflmaaaGreat
set_option linter.unusedVariables false
set_option linter.unusedSimpArgs false
open _root_.List renaming getD_eq_getElem?_getD→z_,mem_singleton→x_,mem_append→v_,take_append_of_le_length→u_,length_append→t_,mem_iff_getElem→r_,length_take→p_,getElem?_eq_getElem→n_,mem_cons→m_,getElem?_append_left→k_,getElem?_set→j_,nodup_append→i_,take_length→h_,take_take→g_,map_cons→f_,getElem_drop→e_,getElem_inj→d_,length_drop→c_,nodup_cons→Zz,length_set→Zy,length_singleton→Zx,countP_eq_length→Zw,mem_map→Zu
open _root_.Or renaming inr→y_,inl→w_
open _root_.Go.World renaming putObj_heap_other→s_,alloc_heap_new→Zv
open _root_.Nat renaming le_refl→q_,lt_or_ge→b_
open _root_.Go.Fence renaming wide→o_
open _root_.Array renaming getElem?_eq_some_iff→l_,replicate→a_
variable{n k m:Nat}{mj α:Type}{t:TypeId}{cs:List Value}{w':World}{x y:Int}{l:List Int}
section
open Go.RowKit
variable {F:Fence}{n:Nat}{P:Program}
def Fx{α:Type}(F:Fence)(n:Nat)(P:Program)(g:Nat)(lb:Array Value)(f:α->Array Value)(i:World->World->Prop)(j:List α->α->Prop)(S k:List α->Prop)(w:World):Prop:=
 ∀(l:Nat)(b d:List α->World->Prop)(W:World),Below w.heap.size w W->
  (∀pre x c,b pre c->j pre x->YieldAt F (n-1) P l (f x) c λ e W'=>
   (e=.returned (.bool true)/\b (pre++[x]) W'/\i c W')\/(e=.returned (.bool false)/\d (pre++[x]) W'))->
  b [] W->
  CallsIn F n P g (#[.func (.yield l) #[] #[]]++lb) W λ e W'=>(∃v,e=.returned v)/\((∃xs,S xs/\b xs W')\/(∃pre,k pre/\d pre W'))
def JV(fn:FuncId)(tmps:Array Value)(b:Array Tmp)(assign body:Code)(D:Nat)(st:LoopState)(c:Option Code):Loop:=
 {state:=st,pending:=c,fn,tmps,params:=b,assign,body,defers:=D}
structure vq(W:World)(D:Nat)(r:Loop):Prop where
 log:W.heap[D+1]? =some (.loop r)
 Bk:W.heap[D]? =some (.deferred (some []))
theorem vq.put{W:World}{D:Nat}{r:Loop}(h:vq W D r)(r':Loop):vq (W.putObj (D+1) (.loop r')) D r':=
 ⟨World.putObj_heap_same (l_.1 h.log).1,(s_ (by omega)).trans h.Bk⟩
theorem vq.from{W W':World}{D:Nat}{r:Loop}(h:vq W D r)(hk:KeepsFrom D W W'):vq W' D r:=
 ⟨hk.same _ _ (by omega) h.log rfl,hk.same _ _ (q_ _) h.Bk rfl⟩
theorem C2{α:Type}{g:Operand}{sV:Array Tmp}{assign body:Code}{Q:Exit->Act->World->Prop}{a:Act}{w:World}
  (ae:F.round=none) (h1:1<=n) {gf:Nat} {lb:Array Value} (af:a.eval g=.func (.func gf) #[] lb) (ag:F.fn gf) (ah:∀args w,(callFunc gf args).run P w=.ok (.enter gf args) w)
  {yL:α->Array Value} {vp:World->World->Prop} {zO:List α->α->Prop} {S Bj:List α->Prop} {w0:World} (ai:Fx F (n-1) P gf lb yL vp zO S Bj w0)
  (L:∀{A B C:World},vp A B->vp B C->vp A C) (U:∀(W:World)(l:Nat)(o aj:Obj),w.heap.size<=l->W.heap[l]? =some o->o.isCells=false->o.isWalk=false->vp W (W.putObj l aj)) (V:Below w0.heap.size w0 w) (ak:∀x,(yL x).size=sV.size)
  (f:List α->World->Prop) (E:Code->List α->World->Prop) (G:OwnFrom w.heap.size f) (H:∀c,OwnFrom w.heap.size (E c)) (al:f [] w) (X:α->World->Act) (j:α->World->World)
  (an:∀(l:Nat)(pre:List α)(x:α)(W:World)(K:Act->World->Prop),f pre W->zO pre x->K (X x W) (j x W)->
   assign.wpIn (F.inRound l) (n-1-1) P (Exit.then K (λ _ _ _=>False)) {tmps:=(sV.zip (yL x)).foldl (λ t (p,v)=>t.setIfInBounds p v) a.tmps,defers:=[]} W)
  (ao:∀(pre:List α)(x:α)(W:World),f pre W->KeepsFrom w.heap.size W (j x W)/\vp W (j x W))
  (aq:∀(l:Nat)(pre:List α)(x:α)(y W:World),f pre y->(∃o Y:Obj,W=(j x y).putObj (w.heap.size+1) o/\o.isCells=false/\(j x y).heap[w.heap.size+1]? =some Y/\Y.isCells=false)->zO pre x->w.heap.size+1<y.heap.size->body.wpIn (F.inRound l) (n-1-1) P (ownPostG w.heap.size vp f E (pre++[x]) W) (X x y) W)
  (ar:∀(D:Nat)(xs:List α)(W:World),w.heap.size<=D->S xs->f xs W->W.heap[D]? =some (.deferred (some []))->Q .normal {a with defers:={target:=.collected D,args:= #[]}::a.defers} W)
  (au:∀(D:Nat)(c:Code)(pre:List α)(W:World),w.heap.size<=D->Bj pre->E c pre W->W.heap[D]? =some (.deferred (some []))->c.wpIn F n P Q {a with defers:={target:=.collected D,args:= #[]}::a.defers} W):
  (Code.rangeFunc g sV assign body).wpIn F n P Q a w:=by
 refine wpIn_rangeFunc λ fn av=>?_
 rw[ae];obtain⟨b,k⟩:∃b:LoopState->Option Code->Loop,b=JV fn a.tmps sV assign body w.heap.size:=⟨_,rfl⟩
 have aw:∀st z,(b st z).params=sV:=λ st z=>by rw[k];rfl
 have M:∀st z,(b st z).state=st:=λ st z=>by rw[k];rfl
 obtain⟨m,I⟩:∃m,(w.alloc (.deferred (some []))).alloc (.loop (b .ready none))=m:=⟨_,rfl⟩
 have ax:vq m w.heap.size (b .ready none):=by
  rw[<-I];refine⟨?_,(Below.heap_alloc _ _ _ (by simp)).trans (Zv w _)⟩;have:=Zv (w.alloc (.deferred (some []))) (.loop (b .ready none))
  rwa[World.size_alloc] at this
 refine⟨w.heap.size+1,[{target:=.collected w.heap.size,args:= #[]}],m,{target:=.fn (.func gf) lb,args:= #[.func (.yield (w.heap.size+1)) #[] #[]]},m,gf,
  #[.func (.yield (w.heap.size+1)) #[] #[]]++lb,m,by rw[<-I,k];exact run_enterLoop_outer _ _ _ _ _,by simp only[resolve,af];simp[go_sem],λ aE Z=>by simp[Target.leads] at Z;subst Z;exact ag,by simp[invoke,go_sem,ah],λ _=>h1,?_⟩
 refine(ai (w.heap.size+1) (λ pre W=>f pre W/\vq W w.heap.size (b .ready none)) (λ pre W=>∃c,E c pre W/\vq W w.heap.size (b .done (some c))) m (by
  rw[<-I];exact V.trans ((((Below.refl _ w).alloc (q_ _) _).alloc (by simp) _).mono V.size)) ?_ ⟨by rw[<-I];exact G.alloc _ (G.alloc _ al),ax⟩).mono ?_
 ·rintro pre x W ⟨q,N⟩ aa;have ab:=run_yield (P:=P) (args:=yL x) N.log (by rw[aw];exact ak x);rw[k] at ab;refine⟨fn,_,assign,body,ab,roundIn_of_wpIn av ?_⟩;have ad:=ao pre x W q;have J:=N.from ad.1
  refine an _ pre x W _ q aa ⟨_,run_beginRound J.log (by rw[M]),?_⟩;have ay:=J.put {b .ready none with state:=.busy};refine wpIn_mono (aq _ pre x W _ q ⟨_,_,rfl,rfl,J.log,rfl⟩ aa (l_.1 N.log).1) ?_;have az:vp W ((j x W).putObj (w.heap.size+1) (.loop {b .ready none with state:=.busy})):=L ad.2 (U _ _ _ _ (by omega) J.log rfl rfl);have fin:∀(jump:Option Code)(d:World),KeepsFrom w.heap.size ((j x W).putObj (w.heap.size+1) (.loop {b .ready none with state:=.busy})) d->
    ∃O,O=d.putObj (w.heap.size+1) (.loop (b (if jump.isNone then .ready else .done) jump))/\(Instr.endRound (w.heap.size+1) jump).run P d=.ok (.bool jump.isNone) O/\
    d.heap[w.heap.size+1]? =some (.loop {b .ready none with state:=.busy})/\vq O w.heap.size (b (if jump.isNone then .ready else .done) jump):=λ jump d R=>by
   have T:=ay.from R
   refine⟨_,rfl,?_,T.log,T.put _⟩;have:=run_endRound (P:=P) jump T.log;rw[k] at this⊢;exact this
  rintro e a3 d hp
  cases e with
  |normal=>
   obtain⟨R,aA,aB⟩:=hp;obtain⟨_,rfl,r,i,s⟩:=fin none d R;exact⟨_,_,r,.inl ⟨rfl,⟨G.putObj _ aB (by omega) i rfl,s⟩,L (L az aA) (U _ _ _ _ (by omega) i rfl rfl)⟩⟩
  |ret=>
   obtain⟨_,rfl,r,i,s⟩:=fin (some .ret) d hp.1;exact⟨_,_,r,.inr ⟨rfl,_,(H _).putObj _ hp.2 (by omega) i rfl,s⟩⟩
  |exit id=>
   obtain⟨_,rfl,r,i,s⟩:=fin (some (.exit id)) d hp.1;exact⟨_,_,r,.inr ⟨rfl,_,(H _).putObj _ hp.2 (by omega) i rfl,s⟩⟩
  |goto t=>
   obtain⟨_,rfl,r,i,s⟩:=fin (some (.goto t)) d hp.1;exact⟨_,_,r,.inr ⟨rfl,_,(H _).putObj _ hp.2 (by omega) i rfl,s⟩⟩
  |panic aF=>exact hp.elim
  |outgrown=>exact hp.elim
 ·rintro e aG ⟨⟨v,rfl⟩,(⟨xs,aC,q,u⟩|⟨pre,aD,c,q,u⟩)⟩
  ·exact⟨none,_,by have:=run_endLoop (P:=P) u.log (by rw[M];simp);rw[k] at this;exact this,ar _ xs _ (q_ _) aC (G.putObj _ q (by omega) u.log rfl) ((s_ (by omega)).trans u.Bk)⟩
  ·exact⟨some c,_,by have:=run_endLoop (P:=P) u.log (by rw[M];simp);rw[k] at this;exact this,au _ c pre _ (q_ _) aD ((H c).putObj _ q (by omega) u.log rfl) ((s_ (by omega)).trans u.Bk)⟩
def zP(ops:List Oper):Bool:=ops.all λ o=>match o.op with| .defer _=>false|_=>true
theorem JW{ops:List Oper}(h:zP ops=true){i:Nat}{o:Oper}(b:ops.toArray[i]? =some o):∀c,o.op≠ .defer c:=by
 intro c e;have hm:o∈ops:=by
  rw[List.getElem?_toArray] at b;exact List.mem_of_getElem? b
 have:=List.all_eq_true.1 h o hm;rw[e] at this
 cases this
theorem JX{o:Oper}(g:∀c,o.op≠ .defer c){l:Nat}{a:Act}{w:World}{next:Act->World->Prop}{Q:Exit->Act->World->Prop}(i:¬LetsOut Q)(h:o.wp P a w next Q):o.wpIn (o_.inRound l) n P a w next Q:=by
 unfold Oper.wp at h;unfold Oper.wpIn;refine⟨λ _ _=>trivial,?_⟩;rw[Oper.semAt_eq _ _ _ g];generalize (execOp a.eval o).run P w=r at*
 cases r with
 |ok x w'=>
  cases x with
  |enter f args=>exact⟨λ h=>by simp[Fence.inRound,o_] at h,(callsIn_wide (n:=n-1)).2 (Calls.mono h λ e j he=>by cases e<;>exact he)⟩
  |row r args=>exact⟨λ h=>by simp[Fence.inRound,o_] at h,λ c cs _=>let ⟨v,w',r,s⟩:=h c cs;⟨v,w',r,stepsIn_wide.2 s⟩⟩
  |round l f t s b=>exact h.elim
  |value v=>exact h
  |skip=>exact h
  |defer d=>exact h
  |_=>exact h.elim
 |halt x w'=>cases x<;>exact h
theorem zQ{ops:List Oper}{l:Nat}{Q:Exit->Act->World->Prop}(c:zP ops=true)(b:¬LetsOut Q):∀(L:List Nat)(a:Act)(w:World),wpOps P ops.toArray Q L a w->wpOpsIn (o_.inRound l) n P ops.toArray Q L a w
 |[],a,w,h=>h
 |i::rest,a,w,h=>by
  simp only[wpOps] at h;simp only[wpOpsIn]
  cases d:ops.toArray[i]? with
  |none=>rw[d] at h;exact zQ c b rest a w h
  |some o=>
   rw[d] at h;dsimp only at h⊢;split at h
   ·rename_i hw;rw[if_pos hw];rcases h with h|h
    ·exact Oper.wpIn_mono (λ a w h=>zQ c b rest a w h) (JX (JW c d) b h)
    ·exact absurd h.2 b
   ·rename_i hw;rw[if_neg hw];exact⟨λ _ _=>trivial,zQ c b rest _ w h⟩
theorem JY{id:Nat}{ops:List Oper}{l:Nat}{Q:Exit->Act->World->Prop}{a:Act}{w:World}(hm:P.follows .mixedOrders=true)(b:zP ops=true)(c:¬LetsOut Q)
  (h:wpAny P .any ops.toArray Q ops.toArray.size (a_ ops.toArray.size false) a {w with drawn:=w.drawn+1}):(Code.region id ops.toArray true).wpIn (o_.inRound l) n P Q a w:=
 wpIn_region_draw λ t=>by
  simp only[Region.schedule,hm,Bool.true_or,if_true];exact zQ b c _ _ _ (wpAny_sound ops.toArray.size t _ a _ h)
theorem C3{id:Nat}{l:Nat}{Q:Exit->Act->World->Prop}{a:Act}{w:World}{ops:List Oper}(m:Nat)(hm:P.follows .mixedOrders=true)(o:zP ops=true)(p:¬LetsOut Q)(d:Region.lexTailB .any ops.toArray m=true)
  (h:wpStill P ops.toArray {w with drawn:=w.drawn+1} (λ c=>wpList P ops.toArray Q (ops.drop m) c {w with drawn:=w.drawn+1}) (ops.take m) a):(Code.region id ops.toArray true).wpIn (o_.inRound l) n P Q a w:=by
 simp only[Region.lexTailB,Bool.and_eq_true,decide_eq_true_eq] at d;obtain⟨⟨⟨⟨h1,e⟩,q⟩,r⟩,f⟩:=d;have y:m<ops.length:=by simpa using e
 have b:(ops.take m).length=m:=by simp;omega
 have s:m+(ops.drop m).length=ops.toArray.size:=by simp;omega
 have u:ops.toArray.size-m=(ops.drop m).length:=by simp
 rw[u] at f;have H:=wpAnyL_lex (md:=.any) (g:=(ops.drop m).length) h1 q r e (ops.take m) 0 _ a (λ j i=>by rw[b] at i;simp[i]) (by simpa using b)
  (show HeadInv .any ops.toArray m (a_ ops.toArray.size false) from⟨by simp,λ j z _ hl=>(by rw[getD_replicate_false] at hl;cases hl),λ t _ v=>getD_in (by simpa using v) (getD_replicate_false _ _)⟩) (by rw[b];exact f) h
 refine JY hm o p ?_;have K:=wpAny_of_head (Q':=Q) (g:=(ops.drop m).length) (λ listed c k=>wpAny_of_seq (md:=.any) (Q':=Q) (ops.drop m) m listed c _ (λ j=>by simp[List.getElem?_drop]) k.1 k.2) _ _ _ H;rw[b,s] at K;exact K
def oL(D:Nat):Deferred:={target:=.collected D,args:= #[]}
structure Shut(ds:List Nat)(W W':World):Prop where
 os:W'.os=W.os
 tape:W'.tape=W.tape
 output:W'.output=W.output
 size:W'.heap.size=W.heap.size
 block:∀k,k∉ds->W'.heap[k]? =W.heap[k]?
theorem Shut.below{ds:List Nat}{W W' w:World}{C4:Nat}(h:Shut ds W W')(b:Below C4 w W)(c:∀D∈ds,C4<=D):Below C4 w W':=
 ⟨h.os.trans b.os,h.tape.trans b.tape,h.output.trans b.output,by rw[h.size];exact b.size,λ k hk=>(h.block k (λ hm=>by have:=c k hm;omega)).trans (b.block k hk)⟩
theorem Shut.cell{ds:List Nat}{W W':World}(h:Shut ds W W'){p:Addr}(hp:p.block∉ds):W'.cell? p=W.cell? p:=World.cell?_of_block (w:=W) (h.block p.block hp)
theorem Fy{F:Fence}{n:Nat}{P:Program}{fn:Func}{tmps:Array Value}{aL:Ending->World->Prop}{u:FrameMode}(hu:u≠ .run):∀(ds:List Nat)(W:World),ds.Nodup->(∀D∈ds,W.heap[D]? =some (.deferred (some [])))->
  (∀W',Shut ds W W'->LeavesIn F n P fn tmps aL [] u W')->LeavesInM F n P fn tmps aL (ds.map oL) u W
 |[],W,_,_,h=>h W ⟨rfl,rfl,rfl,rfl,λ _ _=>rfl⟩
 |D::ds,W,f,b,h=>by
  have c:=Zz.1 f;refine⟨hu,.inl ⟨D,_,rfl,run_takeDeferred (b D (by simp)),Fy hu ds _ c.2 (λ E d=>?_) (λ W' hs=>h W' ?_)⟩⟩
  ·rw[s_ (by intro e;subst e;exact c.1 d)];exact b E (by simp[d])
  ·refine⟨hs.os,hs.tape,hs.output,hs.size.trans (by simp[World.putObj]),λ k hk=>?_⟩;simp only[m_,not_or] at hk;rw[hs.block k hk.2,s_ (by intro e;exact hk.1 e)]
theorem C5{f:FuncId}{fn:Func}{c:Code}{args:Array Value}{w:World}{aL:Ending->World->Prop}(b:P.funcs[f]? =some fn)(d:fn.body=some c)
  (h:c.wp P (bodyPostM o_ 6 P fn aL) {tmps:=args++a_ (fn.ntmps-args.size) undef,defers:=[]} w):Calls P f args w aL:=
 (callsIn_wide (n:=6)).1 (callsIn_of_wp_marks b d trivial (wpIn_wide.2 h) rfl)
theorem JZ{fn:Func}{aL:Ending->World->Prop}{a:Act}{w:World}{v:Value}(b:(results fn a.tmps).run P w=.ok v w)(c:a.defers=[])(d:aL (.returned v) w):bodyPostM o_ 6 P fn aL .ret a w:=by
 show LeavesInM _ _ _ _ _ _ a.defers _ _;rw[c];exact⟨v,b,d⟩
theorem C6{fn:Func}{aL:Ending->World->Prop}{a:Act}{w:World}(ds:List Nat)(b:a.defers=ds.map oL)(c:ds.Nodup)(d:∀D∈ds,w.heap[D]? =some (.deferred (some [])))
  (h:∀W',Shut ds w W'->∃v,(results fn a.tmps).run P W'=.ok v W'/\aL (.returned v) W'):bodyPostM o_ 6 P fn aL .ret a w:=by
 show LeavesInM _ _ _ _ _ _ a.defers _ _;rw[b];exact Fy (by simp) ds _ c d h
theorem Fz{F:Fence}{n:Nat}{P:Program}{fn:Func}{tmps:Array Value}{aL:Ending->World->Prop}{u:FrameMode}(hu:u≠ .run)(rest:List Deferred):∀(ds:List Nat)(W:World),ds.Nodup->(∀D∈ds,W.heap[D]? =some (.deferred (some [])))->
  (∀W',Shut ds W W'->LeavesInM F n P fn tmps aL rest u W')->LeavesInM F n P fn tmps aL (ds.map oL++rest) u W
 |[],W,_,_,h=>h W ⟨rfl,rfl,rfl,rfl,λ _ _=>rfl⟩
 |D::ds,W,f,b,h=>by
  have c:=Zz.1 f;refine⟨hu,.inl ⟨D,_,rfl,run_takeDeferred (b D (by simp)),Fz hu rest ds _ c.2 (λ E d=>?_) (λ W' hs=>h W' ?_)⟩⟩
  ·rw[s_ (by intro e;subst e;exact c.1 d)];exact b E (by simp[d])
  ·refine⟨hs.os,hs.tape,hs.output,hs.size.trans (by simp[World.putObj]),λ k hk=>?_⟩;simp only[m_,not_or] at hk;rw[hs.block k hk.2,s_ (by intro e;exact hk.1 e)]
theorem J1{n:Nat}{P:Program}{id:Nat}{l:Nat}{Q:Exit->Act->World->Prop}{a:Act}{w:World}{ops:List Oper}(b:zP ops=true)(c:¬LetsOut Q)(h:wpList P ops.toArray Q ops a w):(Code.region id ops.toArray false).wpIn (o_.inRound l) n P Q a w:=by
 refine wpIn_region (zQ b c _ a w ?_);rw[List.range_eq_range',<-Array.length_toList,wpOps_eq_wpList _ 0 (by simp)];simpa using h
end
section
open Go.RowKit
structure ay where
 A:Option Addr
 n:Nat
 c:Nat
def ay.v(h:ay):Value:=.slice h.A h.n h.c
def ay.b(h:ay):Option Nat:=h.A.map (·.block)
def wO:ay:=⟨none,0,0⟩
theorem ay.own(h:ay):h.v.ownBlock=h.b:=by
 obtain⟨A,n,c⟩:=h
 cases A<;>rfl
theorem ay.kZ{w:World}{base:Nat}{e:TypeId}{size:Nat}{v:Value}{xs:List Value}(h:w.ownsRow base e size v n xs):∃k:ay,v=k.v/\k.n=n:=by
 rcases h.2 with⟨rfl,rfl⟩|⟨g,cap,cur,rfl,_⟩
 ·exact⟨wO,rfl,rfl⟩
 ·exact⟨⟨_,_,_⟩,rfl,rfl⟩
def iV{mj α:Type}[DecidableEq mj](f:mj->α)(r:mj)(x:α):mj->α:=λ y=>if y=r then x else f y
theorem jT[DecidableEq mj](f:mj->α)(r:mj)(x:α):iV f r x r=x:=if_pos rfl
theorem bq[DecidableEq mj](f:mj->α){r y:mj}(x:α)(h:y≠r):iV f r x y=f y:=if_neg h
def aR(w:World)(b:Nat)(t:TypeId)(cs:List Value):Prop:=w.heap[b]? =some (.cells cs.toArray t (0,0))
theorem aR.lt{w:World}{b:Nat}(h:aR w b t cs):b<w.heap.size:=(l_.1 h).1
theorem aR.cell{w:World}{b:Nat}(h:aR w b t cs)(k:Nat):w.cell? ⟨b,k,none⟩=cs[k]? :=by
 simp[World.cell?,show w.heap[b]? =_ from h]
theorem aR.free{w:World}{b:Nat}(h:aR w b t cs)(k:Nat):w.frozen? ⟨b,k,none⟩=false:=by
 simp[World.frozen?,show w.heap[b]? =_ from h]
theorem aR.kept{w:World}{b:Nat}{row:Option Nat}(h:aR w b t cs)(c:w.grownBy w' row)(d:some b≠row):aR w' b t cs:=(c.block b h.lt d).trans h
theorem aR.below{w:World}{b:Nat}(h:aR w b t cs)(c:Below w.heap.size w w'):aR w' b t cs:=(c.block b h.lt).trans h
theorem aR.new(w:World)(t:TypeId)(cs:List Value):aR (w.alloc (.cells cs.toArray t)) w.heap.size t cs:=heap_alloc_new w _
theorem aR.set{w:World}{b:Nat}{t:TypeId}{cs:List Value}(h:aR w b t cs)(k:Nat)(v:Value):aR (w.setCell ⟨b,k,none⟩ v) b t (cs.set k v):=by
 unfold aR at*;have:=heap_setCell_same w b k cs.toArray t v h;rw[this];simp
theorem lq(w:World)(b k:Nat)(v:Value):w.grownBy (w.setCell ⟨b,k,none⟩ v) (some b):=
 ⟨rfl,rfl,rfl,by simp[World.setCell],λ j d c=>Below.heap_setCell _ _ _ _ (λ e=>c (by rw[e]))⟩
structure mu{mj:Type}(base:Nat)(ty:mj->TypeId)(oa:mj->Nat)(w:World)(hs:mj->ay)(X:mj->List Value):Prop where
 row:∀r,w.ownsRow base (ty r) (oa r) (hs r).v (hs r).n (X r)
 apart:∀r r' g,r≠r'->(hs r).b=some g->(hs r').b≠some g
section
variable {mj:Type}{base:Nat}{ty:mj->TypeId}{oa:mj->Nat}{w w':World}{hs:mj->ay}{X:mj->List Value}
theorem mu.kept{row:Option Nat}(h:mu base ty oa w hs X)(c:w.grownBy w' row)(d:∀r g,(hs r).b=some g->row≠some g):mu base ty oa w' hs X:=by
 refine⟨λ r=>(h.row r).kept c ?_,h.apart⟩;rw[ay.own]
 cases f:(hs r).b with
 |none=>exact w_ rfl
 |some g=>exact y_ λ e=>d r g f e.symm
theorem mu.below(h:mu base ty oa w hs X)(c:Below w.heap.size w w'):mu base ty oa w' hs X:=
 ⟨λ r=>(h.row r).kept ⟨c.os,c.tape,c.output,c.size,λ k hk _=>c.block k hk⟩ (by
  rw[ay.own];exact Or.imp id (λ(h:(hs r).b≠none)=>h) (Decidable.em ((hs r).b=none))),h.apart⟩
theorem mu.len(h:mu base ty oa w hs X)(r:mj):(X r).length=(hs r).n*oa r:=(h.row r).1
theorem mu.lt(h:mu base ty oa w hs X){r:mj}{g:Nat}(c:(hs r).b=some g):base<=g/\g<w.heap.size:=(h.row r).lt g (by rw[ay.own];exact c)
theorem mu.addr(h:mu base ty oa w hs X){r:mj}(c:(hs r).n≠0):∃g,(hs r).A=some ⟨g,0,none⟩/\(hs r).b=some g:=by
 rcases(h.row r).2 with⟨_,d⟩|⟨g,cap,cur,e,_⟩
 ·exact absurd d c
 ·have:(hs r).A=some ⟨g,0,none⟩:=by
   have:=e;unfold ay.v at this;injection this
  exact⟨g,this,by unfold ay.b;rw[this];rfl⟩
theorem mu.form(h:mu base ty oa w hs X){r:mj}{g:Nat}(d:(hs r).b=some g):(hs r).A=some ⟨g,0,none⟩/\w.ownsRow base (ty r) (oa r) (.slice (some ⟨g,0,none⟩) (hs r).n (hs r).c) (hs r).n (X r):=by
 have f:=h.row r;rcases f.2 with⟨h1,_⟩|⟨j,cap,cur,i,_⟩
 ·unfold ay.v at h1;injection h1 with h1
  unfold ay.b at d;rw[h1] at d;cases d
 ·unfold ay.v at i;injection i with h1 e k
  have:j=g:=by
   unfold ay.b at d;rw[h1] at d;injection d
  subst this;refine⟨h1,?_⟩;have e:=f;unfold ay.v at e;rw[h1] at e;exact e
theorem mu.cell(h:mu base ty oa w hs X){r:mj}{g:Nat}(c:(hs r).b=some g){k:Nat}(hk:k<(hs r).n*oa r):w.cell? ⟨g,k,none⟩=(X r)[k]? :=(h.form c).2.cellAt k hk
theorem mu.free(h:mu base ty oa w hs X){r:mj}{g:Nat}(c:(hs r).b=some g)(k:Nat):w.frozen? ⟨g,k,none⟩=false:=(h.form c).2.frozenAt k
theorem mu.C7(h:mu base ty oa w hs X){b:Nat}{t:TypeId}{cs:List Value}(f:aR w b t cs)(i:∀r,ty r≠t)(r:mj)(g:Nat)(j:(hs r).b=some g):some b≠some g:=by
 intro e;injection e with e
 subst e;rcases((h.form j).2).2 with⟨h1,_⟩|⟨l,cap,cur,c,_,d,_⟩
 ·cases h1
 ·injection c with c
  injection c with c
  injection c with c
  subst c;rw[show w.heap[b]? =_ from f] at d;injection d with d
  injection d with _ k
  exact i r k.symm
variable [DecidableEq mj]
theorem mu.set(h:mu base ty oa w hs X){r:mj}{g:Nat}(c:(hs r).b=some g)(k:Nat)(v:Value):mu base ty oa (w.setCell ⟨g,k,none⟩ v) hs (iV X r ((X r).set k v)):=by
 refine⟨λ r'=>?_,h.apart⟩
 by_cases e:r'=r
 ·subst e;rw[jT];have:=(h.form c).2.stored k v;unfold ay.v;rw[(h.form c).1];exact this.1
 ·rw[bq _ _ e];refine(h.row r').kept (lq w g k v) ?_;rw[ay.own];exact y_ λ d=>h.apart r r' g (λ f=>e f.symm) c d
theorem mu.ji(h:mu base ty oa w hs X){r:mj}{h':ay}{ys:List Value}(m:w.grownBy w' (hs r).b)(o:w'.ownsRow base (ty r) (oa r) h'.v h'.n ys)(c:h'.b=(hs r).b\/∀g,h'.b=some g->w.heap.size<=g):
  mu base ty oa w' (iV hs r h') (iV X r ys):=by
 refine⟨λ r'=>?_,λ f i g k h1=>?_⟩
 ·by_cases e:r'=r
  ·subst e;rw[jT,jT];exact o
  ·rw[bq _ _ e,bq _ _ e];refine(h.row r').kept m ?_;rw[ay.own]
   cases p:(hs r').b with
   |none=>exact w_ rfl
   |some g=>exact y_ λ d=>h.apart r' r g e p d.symm
 ·by_cases l:f=r
  ·subst l;have d:i≠f:=λ e=>k e.symm
   rw[jT] at h1;rw[bq _ _ d];rcases c with c|c
   ·rw[c] at h1;exact h.apart f i g k h1
   ·intro j;have:=c g h1;have:=(h.lt j).2;omega
  ·rw[bq _ _ l] at h1
   by_cases d:i=r
   ·subst d;rw[jT];intro j;rcases c with c|c
    ·rw[c] at j;exact h.apart f i g k h1 j
    ·have:=c g j;have:=(h.lt h1).2;omega
   ·rw[bq _ _ d];exact h.apart f i g k h1
theorem J2{e:TypeId}{size:Nat}{g n cap k:Nat}{xs:List Value}(h:w.ownsRow base e size (.slice (some ⟨g,0,none⟩) n cap) n xs)(hk:k<=n):w.ownsRow base e size (.slice (some ⟨g,0,none⟩) k cap) k (xs.take (k*size)):=by
 rcases h.2 with⟨h1,_⟩|⟨m,o,cur,c,h1,d,p,f,i,j⟩
 ·cases h1
 ·injection c with b _ l
  injection b with b
  injection b with b
  subst b;subst l;have hle:k*size<=n*size:=Nat.mul_le_mul_right _ hk;refine⟨by rw[p_,h.1];omega,.inr ⟨_,_,cur,rfl,h1,d,by omega,f,i,?_⟩⟩;rw[<-j,g_]
  congr 1
  omega
theorem mu.cut(h:mu base ty oa w hs X){r:mj}{g:Nat}(d:(hs r).b=some g){k:Nat}(hk:k<=(hs r).n):mu base ty oa w (iV hs r ⟨(hs r).A,k,(hs r).c⟩) (iV X r ((X r).take (k*oa r))):=by
 refine h.ji ⟨rfl,rfl,rfl,q_ _,λ _ _ _=>rfl⟩ ?_ (w_ rfl);unfold ay.v;rw[(h.form d).1];exact J2 (h.form d).2 hk
end
end
section
def aD(x:Int):Nat:=x.natAbs
theorem oW(x:Int):aD (-x)=aD x:=Int.natAbs_neg x
theorem C8(h:aD x=aD y):x=y\/x= -y:=Int.natAbs_eq_natAbs_iff.1 h
def jR(x:Int):Nat:=if x<0 then 2*x.natAbs+1 else 2*x.natAbs
theorem vS(h:jR x=jR y):x=y:=by
 unfold jR at h;split at h<;>split at h<;>omega
def gP(n:Nat)(x:Int):Prop:=1<=aD x/\aD x<=n
theorem gP.neg(h:gP n x):gP n (-x):=by unfold gP at*;rw[oW];exact h
theorem gP.oM(h:gP n x):x≠0:=by rintro rfl;have:=h.1;simp[aD] at this
theorem gP.at(h:gP n x):jR x<2*n+2:=by unfold jR;unfold gP aD at h;split<;>omega
def Mod(M:Int->Bool):Prop:=∀x,x≠0->M (-x)= !(M x)
def sW(M:Int->Bool)(l:List Int):Prop:=∃x∈l,M x=true
def sX(M:Int->Bool)(F:List (List Int)):Prop:=Mod M/\∀l∈F,sW M l
def rD(F:List (List Int))(l:List Int):Prop:=∀M,sX M F->sW M l
def Unsat(F:List (List Int)):Prop:=∀M,¬sX M F
structure oN(n:Nat)(l:List Int):Prop where
 ne:l≠ []
 lt:∀x∈l,gP n x
 nt:l.Nodup
 bM:∀x∈l,¬-x∈l
def vr(l:List Int):Prop:=∃x∈l,x≠0/\ -x∈l
theorem vr.J3{M:Int->Bool}(b:Mod M){l:List Int}(h:vr l):sW M l:=by
 obtain⟨x,c,d,e⟩:=h
 cases hm:M x with
 |true=>exact⟨x,c,hm⟩
 |false=>exact⟨-x,e,by rw[b x d,hm];rfl⟩
structure Core where
 n:Nat
 wt:List (List Nat)
 val:List Int
 lvl:List Nat
 kF:List (Option Nat)
 ax:List Int
 st:List Nat
 ag:Nat
 mm:Bool
 cl:List (List Int)
def ak(l:List Int)(k:Nat):Int:=l.getD k 0
def hU(l:List Nat)(k:Nat):Nat:=l.getD k 0
def az{α:Type}(l:List (List α))(k:Nat):List α:=l.getD k []
def mH(l:List (Option Nat))(k:Nat):Option Nat:=l.getD k none
theorem nu(h:k<l.length):ak l k=l[k]:=by simp[ak,z_,n_ h]
theorem vt{l:List Nat}(h:k<l.length):hU l k=l[k]:=by simp[hU,z_,n_ h]
theorem FA{l:List (List α)}(h:k<l.length):az l k=l[k]:=by simp[az,z_,n_ h]
theorem FB{l:List (Option Nat)}(h:k<l.length):mH l k=l[k]:=by simp[mH,z_,n_ h]
theorem mc(h:k<l.length):ak l k∈l:=by rw[nu h];exact List.getElem_mem h
theorem oZ(l:List Int)(k j:Nat)(x:Int):ak (l.set k x) j=if k=j/\k<l.length then x else ak l j:=by
 simp only[ak,z_,j_]
 by_cases h:k=j
 ·subst h
  by_cases b:k<l.length
  ·simp[b]
  ·simp[b]
 ·simp[h]
theorem J4(l:List Nat)(k j:Nat)(x:Nat):hU (l.set k x) j=if k=j/\k<l.length then x else hU l j:=by
 simp only[hU,z_,j_]
 by_cases h:k=j
 ·subst h
  by_cases b:k<l.length
  ·simp[b]
  ·simp[b]
 ·simp[h]
theorem qE(l:List (List α))(k j:Nat)(x:List α):az (l.set k x) j=if k=j/\k<l.length then x else az l j:=by
 simp only[az,z_,j_]
 by_cases h:k=j
 ·subst h
  by_cases b:k<l.length
  ·simp[b]
  ·simp[b]
 ·simp[h]
theorem wP(l:List (Option Nat))(k j:Nat)(x:Option Nat):mH (l.set k x) j=if k=j/\k<l.length then x else mH l j:=by
 simp only[mH,z_,j_]
 by_cases h:k=j
 ·subst h
  by_cases b:k<l.length
  ·simp[b]
  ·simp[b]
 ·simp[h]
theorem tG{a b:List Int}(h:k<a.length):ak (a++b) k=ak a k:=by
 simp only[ak,z_,k_ h]
theorem xU(a:List Int)(x:Int):ak (a++[x]) a.length=x:=by simp[ak,z_]
theorem xV{a b:List Nat}(h:k<a.length):hU (a++b) k=hU a k:=by
 simp only[hU,z_,k_ h]
theorem xW(a:List Nat)(x:Nat):hU (a++[x]) a.length=x:=by simp[hU,z_]
theorem Bl{a b:List (List α)}(h:k<a.length):az (a++b) k=az a k:=by
 simp only[az,z_,k_ h]
theorem uU(a:List (List α))(x:List α):az (a++[x]) a.length=x:=by simp[az,z_]
theorem wQ(h:k<m):ak (l.take m) k=ak l k:=by
 simp only[ak,z_,List.getElem?_take,if_pos h]
theorem uV{l:List Nat}(h:k<m):hU (l.take m) k=hU l k:=by
 simp only[hU,z_,List.getElem?_take,if_pos h]
theorem pP:x∈l.take m↔∃k,k<m/\k<l.length/\ak l k=x:=by
 constructor
 ·intro h;obtain⟨k,hk,e⟩:=r_.1 h;rw[p_] at hk;refine⟨k,by omega,by omega,?_⟩;rw[List.getElem_take] at e;rw[nu (by omega),e]
 ·rintro⟨k,h1,b,rfl⟩;rw[nu b];exact List.mem_take_iff_getElem.2 ⟨k,by omega,rfl⟩
theorem qn:x∈l↔∃k,k<l.length/\ak l k=x:=by
 have:=pP (l:=l) (m:=l.length) (x:=x);rw[h_] at this;rw[this];exact⟨λ⟨k,_,h⟩=>⟨k,h⟩,λ⟨k,h⟩=>⟨k,h.1,h⟩⟩
def ki(c:Core)(x:Int):Int:=if x<0 then-(ak c.val (aD x)) else ak c.val (aD x)
def lI(st:List Nat)(i:Nat):Nat:=st.countP (·<=i)
def bp(c:Core)(x:Int):Nat:=hU c.lvl (aD x)
def wR(T l:List Int):Prop:=(∃x∈l,x∈T)\/∃x∈l,∃y∈l,x≠y/\¬-x∈T/\¬-y∈T
def w0(c:Core)(i:Nat):Int:=ak (az c.cl i) 0
def w1(c:Core)(i:Nat):Int:=ak (az c.cl i) 1
structure j9(c:Core):Prop where
 rE:c.val.length=c.n+1
 pz:c.lvl.length=c.n+1
 pQ:c.kF.length=c.n+1
 lit:∀x∈c.ax,gP c.n x
 nt:(c.ax.map aD).Nodup
 uh:∀v,ak c.val v=0\/ak c.val v=1\/ak c.val v= -1
 pos:∀x,gP c.n x->(ki c x=1↔x∈c.ax)
 qZ:∀j k,j<=k->k<c.st.length->hU c.st j<=hU c.st k
 oz:∀k,k<c.st.length->hU c.st k<=c.ax.length
 mI:∀i,i<c.ax.length->bp c (ak c.ax i)=lI c.st i
 p7:∀i,i<c.ax.length->match mH c.kF (aD (ak c.ax i)) with
  |none=>∃k,k<c.st.length/\hU c.st k=i
  |some d=>d<c.cl.length/\ak c.ax i∈az c.cl d/\∀x∈az c.cl d,x≠ak c.ax i-> -x∈c.ax.take i
theorem J5{c:Core}(h:gP n x):ki c (-x)= -(ki c x):=by
 unfold ki;rw[oW];have:=h.oM
 by_cases h1:x<0
 ·rw[if_pos h1,if_neg (by omega)];omega
 ·rw[if_neg h1,if_pos (by omega)]
theorem j9.range{c:Core}(h:j9 c)(x:Int):ki c x=0\/ki c x=1\/ki c x= -1:=by
 unfold ki;have:=h.uh (aD x);split<;>omega
theorem j9.xX{c:Core}(h:j9 c){x:Int}(b:gP c.n x):ki c x= -1↔-x∈c.ax:=by
 rw[<-h.pos _ b.neg,J5 b];omega
theorem j9.open{c:Core}(h:j9 c){x:Int}(b:gP c.n x):ki c x=0↔¬x∈c.ax/\¬-x∈c.ax:=by
 rw[<-h.pos _ b,<-h.xX b];have:=h.range x;omega
theorem j9.place{c:Core}(h:j9 c){i j:Nat}(b:i<c.ax.length)(d:j<c.ax.length)(e:aD (ak c.ax i)=aD (ak c.ax j)):i=j:=by
 have f:=h.nt;rw[nu b,nu d] at e;have:=d_ (xs:=c.ax.map aD) (i:=i) (j:=j) (h₀:=by simpa using b) (h₁:=by simpa using d) f;simp only[List.getElem_map] at this;exact this.1 e
theorem j9.apart{c:Core}(h:j9 c){x:Int}(b:x∈c.ax):¬-x∈c.ax:=by
 intro d;obtain⟨i,e,f⟩:=qn.1 b;obtain⟨j,g,k⟩:=qn.1 d;have:=h.place e g (by rw[f,k,oW]);subst this;have:=(h.lit x b).oM;omega
theorem C9{st:List Nat}{i j:Nat}(h:i<=j):lI st i<=lI st j:=by
 unfold lI;exact List.countP_mono_left λ x _ b=>by simp at b⊢;omega
theorem wS(st:List Nat)(i:Nat):lI st i<=st.length:=List.countP_le_length
theorem uj{c:Core}(h:j9 c){i k:Nat}(hk:k<c.st.length):k<lI c.st i↔hU c.st k<=i:=by
 have hm:=h.qZ;unfold lI;generalize c.st=st at*;clear h
 induction st generalizing k with
 |nil=>simp at hk
 |cons a r m=>
  rw[List.countP_cons]
  by_cases d:a<=i
  ·have f:(decide (a<=i))=true:=by simpa using d
   rw[f,if_pos rfl]
   cases k with
   |zero=>simp[hU,d]
   |succ k=>
    have:=m (k:=k) (by simpa using hk) (λ j n t o=>by have:=hm (j+1) (n+1) (by omega) (by simpa using o);simpa[hU] using this);have e:hU (a::r) (k+1)=hU r k:=by simp[hU]
    rw[e];exact⟨λ h=>this.1 (by omega),λ h=>by have:=this.2 h;omega⟩
  ·have f:(decide (a<=i))=false:=by simpa using d
   rw[f];simp only[Bool.false_eq_true,if_false,Nat.add_zero];have p:r.countP (λ x=>decide (x<=i))=0:=by
    rw[List.countP_eq_zero];intro b q;obtain⟨j,l,e⟩:=r_.1 q;have:=hm 0 (j+1) (by omega) (by simpa using l);have s:hU (a::r) (j+1)=b:=by rw[vt (by simpa using l)];simpa using e
    rw[s] at this;have g:hU (a::r) 0=a:=by simp[hU]
    rw[g] at this;simp;omega
   rw[p];have:=hm 0 k (by omega) hk;have g:hU (a::r) 0=a:=by simp[hU]
   rw[g] at this;omega
theorem sw(h:x∈l.take m):x∈l:=List.mem_of_mem_take h
theorem Da(h:x∈l.take m)(hk:m<=k):x∈l.take k:=by
 rw[pP] at h⊢;obtain⟨j,h1,b⟩:=h;exact⟨j,by omega,b⟩
end
section
structure rF(F Fd:List (List Int))(c:Core):Prop where
 mM:∀d,d<c.cl.length->oN c.n (az c.cl d)
 imp:∀d,d<c.cl.length->rD F (az c.cl d)
 tH:∀g∈Fd,c.mm=true\/vr g\/(∃i,i<c.ax.length/\ak c.ax i∈g/\lI c.st i=0)\/∃d,d<c.cl.length/\∀x,x∈az c.cl d↔x∈g
 tI:c.mm=true->Unsat F
 tJ:c.mm=true\/∀d,d<c.cl.length->(az c.cl d).length=1->∃i,i<c.ax.length/\ak c.ax i=w0 c d/\lI c.st i=0
structure yM(c:Core):Prop where
 qP:c.wt.length=2*c.n+2
 qQ:∀k d,d∈az c.wt k->d<c.cl.length/\2<=(az c.cl d).length/\(k=jR (-(w0 c d))\/k=jR (-(w1 c d)))
 sY:∀k,(az c.wt k).Nodup
 uW:∀d,d<c.cl.length->2<=(az c.cl d).length->d∈az c.wt (jR (-(w0 c d)))/\d∈az c.wt (jR (-(w1 c d)))
def wT(c:Core)(d:Nat)(a b:Int):Prop:=(a=w0 c d/\b=w1 c d)\/(a=w1 c d/\b=w0 c d)
def J6(c:Core)(h:Nat)(P:List Nat):Prop:=∀d,d<c.cl.length->2<=(az c.cl d).length->∀a b,wT c d a b-> -a∈c.ax.take h->(d∈P/\ak c.ax (h-1)= -a)\/(b∈c.ax/\bp c b<=bp c a)
def Db(c:Core):Prop:=∀k,k<c.st.length->∀d,d<c.cl.length->wR (c.ax.take (hU c.st k)) (az c.cl d)
structure kG(F Fd:List (List Int))(c:Core)(h:Nat)(P:List Nat):Prop where
 aN:j9 c
 jS:rF F Fd c
 wt:yM c
 rG:J6 c h P
 rH:Db c
 cur:∀k,k<c.st.length->hU c.st k<=h
 hle:h<=c.ax.length
def vU(x:Int):Int:=if x<0 then-1 else 1
def lC(c:Core)(x:Int)(w:Option Nat):Core:={c with val:=c.val.set (aD x) (vU x),lvl:=c.lvl.set (aD x) c.st.length,kF:=c.kF.set (aD x) w,ax:=c.ax++[x]}
def FC(c:Core)(x:Int):Option Nat->Prop
 |none=>∃k,k<c.st.length/\hU c.st k=c.ax.length
 |some d=>d<c.cl.length/\x∈az c.cl d/\∀y∈az c.cl d,y≠x-> -y∈c.ax
section
variable {c:Core}{x:Int}{w:Option Nat}
theorem J7(h:j9 c)(d:gP c.n x)(y:Int)(f:gP c.n y):ki (lC c x w) y=if y=x then 1 else if y= -x then-1 else ki c y:=by
 have hl:aD x<c.val.length:=by rw[h.rE];have:=d.2;omega
 have i:=d.oM;have j:=f.oM;unfold ki lC;simp only[oZ]
 by_cases e:y=x
 ·subst e;rw[if_pos rfl];simp only[hl,and_self,if_true];unfold vU
  by_cases h1:y<0<;>simp[h1]
 ·rw[if_neg e]
  by_cases b:y= -x
  ·subst b;rw[if_pos rfl,oW];simp only[hl,and_self,if_true];unfold vU
   by_cases h1:x<0
   ·rw[if_neg (by omega),if_pos h1]
   ·rw[if_pos (by omega),if_neg h1]
  ·rw[if_neg b];have:¬(aD x=aD y/\aD x<c.val.length):=λ g=>by
    rcases C8 g.1 with h1|h1
    ·exact e h1.symm
    ·exact b (by omega)
   rw[if_neg this]
theorem vV{y:Int}(h:j9 c)(d:gP c.n x)(f:ki c x=0)(b:y∈c.ax):aD y≠aD x:=by
 intro e;obtain⟨h1,g⟩:=(h.open d).1 f;rcases C8 e with e|e
 ·exact h1 (e▸b)
 ·exact g (e▸b)
theorem Bm(h:j9 c)(b:gP c.n x)(y:Int):bp (lC c x w) y=if aD y=aD x then c.st.length else bp c y:=by
 have hl:aD x<c.lvl.length:=by rw[h.pz];have:=b.2;omega
 unfold bp lC;simp only[J4]
 by_cases e:aD y=aD x
 ·rw[if_pos e,if_pos ⟨e.symm,hl⟩]
 ·rw[if_neg e,if_neg λ d=>e d.1.symm]
theorem j9.set(h:j9 c)(f:gP c.n x)(l:ki c x=0)(hw:FC c x w):j9 (lC c x w):=by
 have D:aD x<c.val.length:=by rw[h.rE];have:=f.2;omega
 have t:aD x<c.kF.length:=by rw[h.pQ];have:=f.2;omega
 obtain⟨E,u⟩:=(h.open f).1 l;have g:(lC c x w).ax=c.ax++[x]:=rfl;have m:(lC c x w).st=c.st:=rfl;have z:(lC c x w).cl=c.cl:=rfl;have F:(lC c x w).n=c.n:=rfl;refine⟨by simp[lC,h.rE],by simp[lC,h.pz],by simp[lC,h.pQ],?_,?_,?_,?_,h.qZ,?_,?_,?_⟩
 ·intro y j;rw[g] at j;rcases v_.1 j with h1|h1
  ·exact h.lit y h1
  ·rw[x_.1 h1];exact f
 ·rw[g,List.map_append,i_];refine⟨h.nt,by simp,λ a o b r e=>?_⟩;obtain⟨y,j,rfl⟩:=Zu.1 o;simp only[f_,List.map_nil,x_] at r;rw[r] at e;exact vV h f l j e
 ·intro v;show ak (c.val.set (aD x) (vU x)) v=0\/_;simp only[lC,oZ]
  by_cases e:aD x=v/\aD x<c.val.length
  ·rw[if_pos e];unfold vU;split<;>omega
  ·rw[if_neg e];exact h.uh v
 ·intro y j;have s:gP c.n y:=j;rw[J7 h f y s,g,v_,x_]
  by_cases e:y=x
  ·simp[e]
  ·rw[if_neg e]
   by_cases p:y= -x
   ·rw[if_pos p];constructor
    ·intro h1;omega
    ·rintro(h1|h1)
     ·exact absurd (p▸h1) u
     ·exact absurd h1 e
   ·rw[if_neg p,h.pos y s];constructor
    ·exact w_
    ·rintro(h1|h1)
     ·exact h1
     ·exact absurd h1 e
 ·intro k hk;have:=h.oz k hk;rw[m,g,t_];simp;omega
 ·intro i q;rw[g,t_,Zx] at q;rw[g,m,Bm h f]
  by_cases e:i<c.ax.length
  ·rw[tG e,if_neg (vV h f l (mc e))];exact h.mI i e
  ·obtain rfl:i=c.ax.length:=by omega
   rw[xU,if_pos rfl];have:lI c.st c.ax.length=c.st.length:=by
    unfold lI;rw[Zw];intro a o;obtain⟨k,hk,e⟩:=r_.1 o;have:=h.oz k hk;rw[vt hk,e] at this;simpa using this
   exact this.symm
 ·intro i q;rw[g,t_,Zx] at q;have A:(lC c x w).kF=c.kF.set (aD x) w:=rfl;rw[g,m,z,A]
  by_cases e:i<c.ax.length
  ·have B:=vV h f l (mc e);rw[tG e,wP,if_neg (λ C=>B C.1.symm),u_ (by omega)];exact h.p7 i e
  ·obtain rfl:i=c.ax.length:=by omega
   rw[xU,wP,if_pos ⟨rfl,t⟩,u_ (q_ _),h_]
   cases w with
   |none=>exact hw
   |some d=>exact hw
theorem rF.set{F Fd:List (List Int)}(h:rF F Fd c):rF F Fd (lC c x w):=by
 refine⟨h.mM,h.imp,λ g j=>(h.tH g j).imp id (Or.imp id (Or.imp ?_ id)),h.tI,h.tJ.imp id λ h1 d k hl=>?_⟩
 ·rintro⟨i,b,e,f⟩;refine⟨i,?_,?_,f⟩
  ·show i<(c.ax++[x]).length;rw[t_];omega
  ·show ak (c.ax++[x]) i∈g;rw[tG b];exact e
 obtain⟨i,b,e,f⟩:=h1 d k hl;refine⟨i,?_,?_,f⟩
 ·show i<(c.ax++[x]).length;rw[t_];omega
 ·show ak (c.ax++[x]) i=w0 c d;rw[tG b,e]
theorem kG.set{F Fd:List (List Int)}{h:Nat}{P:List Nat}(L:kG F Fd c h P)(e:gP c.n x)(g:ki c x=0)(hw:FC c x w):kG F Fd (lC c x w) h P:=by
 have i:(lC c x w).ax=c.ax++[x]:=rfl;refine⟨L.aN.set e g hw,L.jS.set,⟨L.wt.qP,L.wt.qQ,L.wt.sY,L.wt.uW⟩,?_,?_,L.cur,?_⟩
 ·intro d j hl a b l f;rw[i,u_ L.hle] at f;have p:h≠0:=by rintro rfl;simp at f
  rw[i,tG (by have:=L.hle;omega),Bm L.aN e,Bm L.aN e,v_];have m:aD a≠aD x:=by
   have:=vV L.aN e g (sw f)
   rwa[oW] at this
  rw[if_neg m];rcases L.rG d j hl a b l f with h1|⟨h1,o⟩
  ·exact w_ h1
  ·rw[if_neg (vV L.aN e g h1)];exact y_ ⟨w_ h1,o⟩
 ·intro k hk d j;have:=L.rH k hk d j;show wR ((c.ax++[x]).take (hU c.st k)) (az c.cl d);rw[u_ (L.aN.oz k hk)];exact this
 ·rw[i,t_];have:=L.hle;omega
end
def zero(v:List Int)(xs:List Int):List Int:=xs.foldl (λ v x=>v.set (aD x) 0) v
def sZ(v:List (Option Nat))(xs:List Int):List (Option Nat):=xs.foldl (λ v x=>v.set (aD x) none) v
theorem Dc(v:List Int):∀xs,(zero v xs).length=v.length
 |[]=>rfl
 |x::xs=>by
  show(zero (v.set (aD x) 0) xs).length=_;rw[Dc _ xs,Zy]
theorem Dd(v:List (Option Nat)):∀xs,(sZ v xs).length=v.length
 |[]=>rfl
 |x::xs=>by
  show(sZ (v.set (aD x) none) xs).length=_;rw[Dd _ xs,Zy]
theorem yN:∀(xs:List Int)(v:List Int)(k:Nat),ak (zero v xs) k=if k∈xs.map aD then 0 else ak v k
 |[],v,k=>rfl
 |x::xs,v,k=>by
  show ak (zero (v.set (aD x) 0) xs) k=_;rw[yN xs,oZ]
  by_cases h1:k∈xs.map aD
  ·rw[if_pos h1,if_pos (by simp[f_];right;simpa using h1)]
  ·rw[if_neg h1]
   by_cases b:aD x=k
   ·rw[if_pos (show k∈(x::xs).map aD by simp[b])]
    by_cases c:aD x<v.length
    ·rw[if_pos ⟨b,c⟩]
    ·rw[if_neg (λ d=>c d.2)];simp[ak,z_,<-b,List.getElem?_eq_none (Nat.le_of_not_lt c)]
   ·rw[if_neg (λ d=>b d.1),if_neg];simp only[f_,m_,not_or];exact⟨λ e=>b e.symm,h1⟩
theorem De:∀(xs:List Int)(v:List (Option Nat))(k:Nat),¬k∈xs.map aD->mH (sZ v xs) k=mH v k
 |[],v,k,_=>rfl
 |x::xs,v,k,h=>by
  simp only[f_,m_,not_or] at h;show mH (sZ (v.set (aD x) none) xs) k=_;rw[De xs _ k h.2,wP,if_neg (λ b=>h.1 b.1.symm)]
def mN(c:Core)(level:Nat):Core:=
 {c with val:=zero c.val (c.ax.drop (hU c.st level)),kF:=sZ c.kF (c.ax.drop (hU c.st level)),ax:=c.ax.take (hU c.st level),st:=c.st.take level,ag:=hU c.st level}
section
variable {c:Core}{level:Nat}
theorem FD{c:Core}{m:Nat}{x:Int}:x∈c.ax.drop m↔∃k,m<=k/\k<c.ax.length/\ak c.ax k=x:=by
 constructor
 ·intro h;obtain⟨k,hk,e⟩:=r_.1 h;rw[c_] at hk;refine⟨m+k,by omega,by omega,?_⟩;rw[e_] at e;rw[nu (by omega),e]
 ·rintro⟨k,h1,b,rfl⟩;rw[nu b];refine r_.2 ⟨k-m,by rw[c_];omega,?_⟩;rw[e_]
  congr 1
  omega
theorem j9.split(h:j9 c){m:Nat}{x:Int}(b:x∈c.ax.take m):¬aD x∈(c.ax.drop m).map aD:=by
 intro d;obtain⟨y,f,e⟩:=Zu.1 d;obtain⟨k,h1,g,rfl⟩:=FD.1 f;obtain⟨j,l,i,rfl⟩:=pP.1 b;have:=h.place g i e;omega
theorem Df(h:j9 c)(hl:level<c.st.length){i:Nat}(d:i<hU c.st level):lI (c.st.take level) i=lI c.st i:=by
 unfold lI
 conv=>rhs;rw[<-List.take_append_drop level c.st]
 rw[List.countP_append];have f:(c.st.drop level).countP (λ x=>decide (x<=i))=0:=by
  rw[List.countP_eq_zero];intro a b;obtain⟨k,hk,e⟩:=r_.1 b;rw[c_] at hk;rw[e_] at e;have:=h.qZ level (level+k) (by omega) (by omega);rw[vt (show level+k<c.st.length by omega),e] at this;simp;omega
 omega
theorem j9.back(h:j9 c)(hl:level<c.st.length):j9 (mN c level):=by
 have w:=h.oz level hl;have d:(mN c level).ax=c.ax.take (hU c.st level):=rfl;have f:(mN c level).st=c.st.take level:=rfl;have hlen:(mN c level).ax.length=hU c.st level:=by rw[d,p_];omega
 have m:(mN c level).st.length=level:=by rw[f,p_];omega
 refine⟨by simp[mN,Dc,h.rE],h.pz,by simp[mN,Dd,h.pQ],λ x g=>h.lit x (sw g),?_,?_,?_,?_,?_,?_,?_⟩
 ·rw[d,List.map_take];exact h.nt.sublist (List.take_sublist _ _)
 ·intro v;show ak (zero c.val _) v=0\/_;simp only[mN,yN]
  by_cases e:v∈(c.ax.drop (hU c.st level)).map aD
  ·rw[if_pos e];exact w_ rfl
  ·rw[if_neg e];exact h.uh v
 ·intro x g;have p:gP c.n x:=g;have q:(mN c level).val=zero c.val (c.ax.drop (hU c.st level)):=rfl;have key:ki (mN c level) x=if aD x∈(c.ax.drop (hU c.st level)).map aD then 0 else ki c x:=by
   unfold ki;rw[q,yN]
   by_cases e:aD x∈(c.ax.drop (hU c.st level)).map aD
   ·rw[if_pos e,if_pos e];split<;>rfl
   ·rw[if_neg e,if_neg e]
  rw[key,d]
  by_cases e:aD x∈(c.ax.drop (hU c.st level)).map aD
  ·rw[if_pos e];constructor
   ·intro h1;omega
   ·intro h1;exact absurd e (h.split h1)
  ·rw[if_neg e,h.pos x p];constructor
   ·intro h1;obtain⟨k,hk,o⟩:=qn.1 h1;refine pP.2 ⟨k,?_,hk,o⟩;rcases b_ k (hU c.st level) with l|l
    ·exact l
    ·exact absurd (Zu.2 ⟨x,FD.2 ⟨k,l,hk,o⟩,rfl⟩) e
   ·exact sw
 ·intro j k r hk;rw[m] at hk;rw[f,uV (by omega),uV hk];exact h.qZ j k r (by omega)
 ·intro k hk;rw[m] at hk;rw[hlen,f,uV hk];exact h.qZ k level (by omega) hl
 ·intro i b;rw[hlen] at b;rw[d,wQ b,f,Df h hl b];exact h.mI i (by omega)
 ·intro i b;rw[hlen] at b;have s:(mN c level).kF=sZ c.kF (c.ax.drop (hU c.st level)):=rfl;have t:ak c.ax i∈c.ax.take (hU c.st level):=pP.2 ⟨i,b,by omega,rfl⟩;rw[d,wQ b,f,s,De _ _ _ (h.split t),g_,show min i (hU c.st level)=i by omega];have:=h.p7 i (by omega);split at this
  ·obtain⟨k,hk,e⟩:=this;have u:k<level:=by
    rcases b_ k level with h1|h1
    ·exact h1
    ·have:=h.qZ level k h1 hk;omega
   exact⟨k,by rw[p_];omega,by rw[uV u];exact e⟩
  ·exact this
theorem kG.back{F Fd:List (List Int)}{h:Nat}(L:kG F Fd c h [])(hl:level<c.st.length):kG F Fd (mN c level) (hU c.st level) []:=by
 have C:=L.aN.oz level hl;have n:(mN c level).ax=c.ax.take (hU c.st level):=rfl;have o:(mN c level).st=c.st.take level:=rfl;have hlen:(mN c level).ax.length=hU c.st level:=by rw[n,p_];omega
 have u:(mN c level).st.length=level:=by rw[o,p_];omega
 have v:∀i,lI c.st i=0->i<hU c.st level:=λ i l=>by
  rcases b_ i (hU c.st level) with f|f
  ·exact f
  ·have:=(uj L.aN (i:=i) hl).2 f;omega
 refine⟨L.aN.back hl,⟨L.jS.mM,L.jS.imp,λ g w=>(L.jS.tH g w).imp id (Or.imp id (Or.imp ?_ id)),L.jS.tI,?_⟩,⟨L.wt.qP,L.wt.qQ,L.wt.sY,L.wt.uW⟩,?_,?_,?_,by rw[hlen];exact q_ _⟩
 ·rintro⟨i,y,q,l⟩;have m:=v i l;exact⟨i,by rw[hlen];exact m,by rw[n,wQ m];exact q,by rw[o,Df L.aN hl m];exact l⟩
 ·refine L.jS.tJ.imp id λ h1 d p r=>?_
  obtain⟨i,y,q,l⟩:=h1 d p r;have m:i<hU c.st level:=by
   rcases b_ i (hU c.st level) with f|f
   ·exact f
   ·have:=(uj L.aN (i:=i) hl).2 f;omega
  exact⟨i,by rw[hlen];exact m,by rw[n,wQ m];exact q,by rw[o,Df L.aN hl m];exact l⟩
 ·intro d p r a b z s;rw[n,g_,Nat.min_self] at s;right;have A: -a∈c.ax.take h:=Da s (L.cur level hl);rcases L.rG d p r a b z A with⟨h1,_⟩|⟨h1,f⟩
  ·cases h1
  ·refine⟨?_,f⟩;rw[n];obtain⟨j,D,B,e⟩:=pP.1 s;obtain⟨k,hk,l⟩:=qn.1 h1;have E:bp c a=lI c.st j:=by
    rw[<-L.aN.mI j B,e];unfold bp;rw[oW]
   have G:bp c b=lI c.st k:=by rw[<-L.aN.mI k hk,l]
   have H:¬level<lI c.st j:=λ t=>by have:=(uj L.aN (i:=j) hl).1 t;omega
   have I:¬hU c.st level<=k:=λ t=>by have:=(uj L.aN (i:=k) hl).2 t;omega
   exact pP.2 ⟨k,by omega,hk,l⟩
 ·intro k hk d p;rw[u] at hk;have:=L.rH k (by omega) d p;rw[n,o,uV hk,g_,Nat.min_eq_left (L.aN.qZ k level (by omega) hl)];exact this
 ·intro k hk;rw[u] at hk;rw[o,uV hk];exact L.aN.qZ k level (by omega) hl
end
end
section
section
variable {F Fd:List (List Int)}{c:Core}
theorem oN.w{n:Nat}{l:List Int}(h:oN n l)(c:2<=l.length):ak l 0∈l/\ak l 1∈l/\ak l 0≠ak l 1/\ak l 0≠-(ak l 1):=by
 have b:=mc (l:=l) (k:=0) (by omega);have h1:=mc (l:=l) (k:=1) (by omega);refine⟨b,h1,λ e=>?_,λ e=>h.bM _ h1 (e▸b)⟩;rw[nu (show 0<l.length by omega),nu (show 1<l.length by omega)] at e;have:=(d_ h.nt).1 e;omega
theorem FE(L:kG F Fd c c.ax.length [])(k:c.mm=false):∀d,d<c.cl.length->wR c.ax (az c.cl d):=by
 intro d b;have g:=L.jS.mM d b;have l:0<(az c.cl d).length:=List.length_pos_iff.2 g.ne
 by_cases j:2<=(az c.cl d).length
 ·obtain⟨m0,m1,m,_⟩:=g.w j;have f:=L.rG d b j;rw[show c.ax.take c.ax.length=c.ax from h_] at f
  by_cases f0: -(w0 c d)∈c.ax
  ·rcases f _ _ (w_ ⟨rfl,rfl⟩) f0 with⟨h,_⟩|⟨h,_⟩
   ·cases h
   ·exact w_ ⟨_,m1,h⟩
  ·by_cases f1: -(w1 c d)∈c.ax
   ·rcases f _ _ (y_ ⟨rfl,rfl⟩) f1 with⟨h,_⟩|⟨h,_⟩
    ·cases h
    ·exact w_ ⟨_,m0,h⟩
   ·exact y_ ⟨_,m0,_,m1,m,f0,f1⟩
 ·rcases L.jS.tJ with h|h
  ·rw[k] at h;cases h
  ·obtain⟨i,n,e,_⟩:=h d b (by omega);exact w_ ⟨ak (az c.cl d) 0,mc l,by rw[show ak (az c.cl d) 0=w0 c d from rfl,<-e];exact mc n⟩
def nx(c:Core):Core:={c with st:=c.st++[c.ax.length]}
theorem Dg(h:j9 c){i:Nat}(b:i<c.ax.length):lI (c.st++[c.ax.length]) i=lI c.st i:=by
 unfold lI;rw[List.countP_append];simp;omega
theorem kG.level(L:kG F Fd c c.ax.length [])(r:c.mm=false):kG F Fd (nx c) c.ax.length []:=by
 have l:(nx c).st=c.st++[c.ax.length]:=rfl;have s:(nx c).ax=c.ax:=rfl;have T:=L.aN;have hlen:(nx c).st.length=c.st.length+1:=by rw[l];simp
 have f:∀k,k<c.st.length->hU (nx c).st k=hU c.st k:=λ k hk=>by rw[l,xV hk]
 have n:hU (nx c).st c.st.length=c.ax.length:=by rw[l,xW]
 refine⟨⟨T.rE,T.pz,T.pQ,T.lit,T.nt,T.uh,T.pos,?_,?_,?_,?_⟩,⟨L.jS.mM,L.jS.imp,λ g t=>(L.jS.tH g t).imp id (Or.imp id (Or.imp (λ⟨i,b,p,m⟩=>⟨i,b,p,by rw[l,Dg T b];exact m⟩) id)),L.jS.tI,?_⟩,⟨L.wt.qP,L.wt.qQ,L.wt.sY,L.wt.uW⟩,L.rG,?_,?_,q_ _⟩
 ·intro j k u hk;rw[hlen] at hk
  by_cases e:k<c.st.length
  ·rw[f j (by omega),f k e];exact T.qZ j k u e
  ·obtain rfl:k=c.st.length:=by omega
   rw[n]
   by_cases m:j<c.st.length
   ·rw[f j m];exact T.oz j m
   ·obtain rfl:j=c.st.length:=by omega
    rw[n];exact q_ _
 ·intro k hk;rw[hlen] at hk
  by_cases e:k<c.st.length
  ·rw[f k e];exact T.oz k e
  ·obtain rfl:k=c.st.length:=by omega
   rw[n];exact q_ _
 ·intro i b;rw[l,Dg T b];exact T.mI i b
 ·intro i b;have:=T.p7 i b;show match mH c.kF (aD (ak c.ax i)) with
   |none=>∃k,k<(nx c).st.length/\hU (nx c).st k=i
   |some d=>d<c.cl.length/\ak c.ax i∈az c.cl d/\∀x∈az c.cl d,x≠ak c.ax i-> -x∈c.ax.take i
  cases q:mH c.kF (aD (ak c.ax i)) with
  |none=>
   rw[q] at this;obtain⟨k,hk,e⟩:=this;exact⟨k,by rw[hlen];omega,by rw[f k hk];exact e⟩
  |some d=>rw[q] at this;exact this
 ·refine L.jS.tJ.imp id λ h1 d o hl=>?_
  obtain⟨i,b,p,m⟩:=h1 d o hl;exact⟨i,b,p,by rw[l,Dg T b];exact m⟩
 ·intro k hk d o;rw[hlen] at hk;rw[s]
  by_cases e:k<c.st.length
  ·rw[f k e];exact L.rH k e d o
  ·obtain rfl:k=c.st.length:=by omega
   rw[n,h_];exact FE L r d o
 ·intro k hk;rw[hlen] at hk
  by_cases e:k<c.st.length
  ·rw[f k e];exact L.cur k e
  ·obtain rfl:k=c.st.length:=by omega
   rw[n];exact q_ _
theorem kG.decide(L:kG F Fd c c.ax.length [])(b:c.mm=false){x:Int}(d:gP c.n x)(e:ki c x=0):kG F Fd (lC (nx c) x none) c.ax.length []:=by
 refine(L.level b).set (c:=nx c) d e ⟨c.st.length,?_,?_⟩
 ·show c.st.length<(c.st++[c.ax.length]).length;simp
 ·exact xW _ _
theorem yO(T:j9 c)(D:rF F Fd c){M:Int->Bool}(b:sX M F):∀i,i<c.ax.length->lI c.st i=0->M (ak c.ax i)=true:=by
 intro i
 induction i using Nat.strongRecOn with
 |_ i l=>
  intro m hl;have:=T.p7 i m;split at this
  ·obtain⟨k,hk,e⟩:=this;have:=(uj T (i:=i) hk).2 (by omega);omega
  ·rename_i d _;obtain⟨f,r,n⟩:=this;obtain⟨y,g,hm⟩:=D.imp d f M b
   by_cases e:y=ak c.ax i
   ·rw[<-e];exact hm
   ·obtain⟨j,o,p,q⟩:=pP.1 (n y g e);have h1:=l j o p (by have:=C9 (st:=c.st) (i:=j) (j:=i) (by omega);omega);rw[q,b.1 y ((D.mM d f).lt y g).oM,hm] at h1
    cases h1
theorem J8(T:j9 c)(D:rF F Fd c)(l:c.st.length=0){d:Nat}(f:d<c.cl.length)(j:∀x∈az c.cl d,-x∈c.ax):Unsat F:=by
 intro M b;obtain⟨y,g,hm⟩:=D.imp d f M b;obtain⟨i,k,e⟩:=qn.1 (j y g);have h1:=yO T D b i k (by have:=wS c.st i;omega);rw[e,b.1 y ((D.mM d f).lt y g).oM,hm] at h1
 cases h1
def kX(l:List Int)(i j:Nat):List Int:=(l.set i (ak l j)).set j (ak l i)
theorem rX(l:List Int)(i j:Nat):(kX l i j).length=l.length:=by unfold kX;simp
theorem qF{l:List Int}{i j:Nat}(d:i<l.length)(e:j<l.length)(k:Nat):ak (kX l i j) k=if k=j then ak l i else if k=i then ak l j else ak l k:=by
 unfold kX;rw[oZ,oZ]
 by_cases h1:k=j
 ·subst h1;rw[if_pos ⟨rfl,by simpa using e⟩,if_pos rfl]
 ·rw[if_neg (λ b=>h1 b.1.symm),if_neg h1]
  by_cases c:k=i
  ·subst c;rw[if_pos ⟨rfl,d⟩,if_pos rfl]
  ·rw[if_neg (λ b=>c b.1.symm),if_neg c]
theorem wU{l:List Int}{i j:Nat}(b:i<l.length)(c:j<l.length)(x:Int):x∈kX l i j↔x∈l:=by
 rw[qn,qn,rX];constructor
 ·rintro⟨k,hk,e⟩;rw[qF b c] at e
  by_cases h1:k=j
  ·rw[if_pos h1] at e;exact⟨i,b,e⟩
  ·rw[if_neg h1] at e
   by_cases d:k=i
   ·rw[if_pos d] at e;exact⟨j,c,e⟩
   ·rw[if_neg d] at e;exact⟨k,hk,e⟩
 ·rintro⟨k,hk,e⟩
  by_cases h1:k=i
  ·refine⟨j,c,?_⟩;rw[qF b c,if_pos rfl,<-h1];exact e
  ·by_cases d:k=j
   ·refine⟨i,b,?_⟩;rw[qF b c]
    by_cases f:i=j
    ·exact absurd (d.trans f.symm) h1
    ·rw[if_neg f,if_pos rfl,<-d];exact e
   ·exact⟨k,hk,by rw[qF b c,if_neg d,if_neg h1];exact e⟩
theorem J9{l:List Int}(h:∀i j,i<l.length->j<l.length->ak l i=ak l j->i=j):l.Nodup:=by
 rw[List.nodup_iff_pairwise_ne,List.pairwise_iff_getElem];intro i j b c d e;have:=h i j b c (by rw[nu b,nu c];exact e);omega
theorem uX{l:List Int}(h:l.Nodup){i j:Nat}(b:i<l.length)(c:j<l.length)(e:ak l i=ak l j):i=j:=by
 rw[nu b,nu c] at e;exact(d_ h).1 e
theorem FF{l:List Int}{i j:Nat}(f:i<l.length)(g:j<l.length)(h:l.Nodup):(kX l i j).Nodup:=by
 refine J9 λ a b k m e=>?_
 rw[rX] at k m;rw[qF f g,qF f g] at e
 by_cases a1:a=j
 ·rw[if_pos a1] at e
  by_cases c:b=j
  ·omega
  ·rw[if_neg c] at e
   by_cases d:b=i
   ·rw[if_pos d] at e;have:=uX h f g e;omega
   ·rw[if_neg d] at e;have:=uX h f m e;omega
 ·rw[if_neg a1] at e
  by_cases a2:a=i
  ·rw[if_pos a2] at e
   by_cases c:b=j
   ·rw[if_pos c] at e;have:=uX h g f e;omega
   ·rw[if_neg c] at e
    by_cases d:b=i
    ·omega
    ·rw[if_neg d] at e;have:=uX h g m e;omega
  ·rw[if_neg a2] at e
   by_cases c:b=j
   ·rw[if_pos c] at e;have:=uX h k f e;omega
   ·rw[if_neg c] at e
    by_cases d:b=i
    ·rw[if_pos d] at e;have:=uX h k g e;omega
    ·rw[if_neg d] at e;exact uX h k m e
theorem oN.swap{n:Nat}{l:List Int}{i j:Nat}(b:i<l.length)(c:j<l.length)(h:oN n l):oN n (kX l i j):=by
 refine⟨λ e=>?_,λ x d=>h.lt x ((wU b c x).1 d),FF b c h.nt,λ x d f=>h.bM x ((wU b c x).1 d) ((wU b c _).1 f)⟩;have:=rX l i j;rw[e] at this;simp at this;omega
def lT(c:Core)(d:Nat)(l:List Int):Core:={c with cl:=c.cl.set d l}
theorem uk(c:Core)(d e:Nat)(l:List Int):az (lT c d l).cl e=if d=e/\d<c.cl.length then l else az c.cl e:=qE _ _ _ _
theorem q3(c:Core)(d:Nat)(l:List Int):(lT c d l).cl.length=c.cl.length:=by simp[lT]
theorem j9.ji(h:j9 c){d:Nat}{l:List Int}(hl:∀x,x∈l↔x∈az c.cl d):j9 (lT c d l):=by
 refine⟨h.rE,h.pz,h.pQ,h.lit,h.nt,h.uh,h.pos,h.qZ,h.oz,h.mI,λ i f=>?_⟩;have:=h.p7 i f;show match mH c.kF (aD (ak c.ax i)) with
   |none=>∃k,k<c.st.length/\hU c.st k=i
   |some e=>e<(lT c d l).cl.length/\ak c.ax i∈az (lT c d l).cl e/\∀x∈az (lT c d l).cl e,x≠ak c.ax i-> -x∈c.ax.take i
 cases b:mH c.kF (aD (ak c.ax i)) with
 |none=>rw[b] at this;exact this
 |some e=>
  rw[b] at this;show e<(lT c d l).cl.length/\ak c.ax i∈az (lT c d l).cl e/\∀x∈az (lT c d l).cl e,x≠ak c.ax i-> -x∈c.ax.take i;rw[q3,uk]
  by_cases h1:d=e/\d<c.cl.length
  ·rw[if_pos h1];obtain⟨rfl,_⟩:=h1;exact⟨this.1,(hl _).2 this.2.1,λ x g=>this.2.2 x ((hl x).1 g)⟩
  ·rw[if_neg h1];exact this
theorem rF.ji(h:rF F Fd c){d:Nat}{l:List Int}(hl:∀x,x∈l↔x∈az c.cl d)(m:d<c.cl.length->oN c.n l)(hlen:d<c.cl.length->l.length=(az c.cl d).length):rF F Fd (lT c d l):=by
 have f:∀e x,x∈az (lT c d l).cl e↔x∈az c.cl e:=λ e x=>by
  rw[uk]
  by_cases h1:d=e/\d<c.cl.length
  ·rw[if_pos h1];obtain⟨rfl,_⟩:=h1;exact hl x
  ·rw[if_neg h1]
 refine⟨λ e he=>?_,λ e he M o=>?_,λ g p=>?_,h.tI,h.tJ.imp id λ h1 e he hle=>?_⟩
 ·rw[q3] at he;rw[uk]
  by_cases h1:d=e/\d<c.cl.length
  ·rw[if_pos h1];exact m h1.2
  ·rw[if_neg h1];exact h.mM e he
 ·rw[q3] at he;obtain⟨y,q,hm⟩:=h.imp e he M o;exact⟨y,(f e y).2 q,hm⟩
 ·rcases h.tH g p with h1|h1|h1|⟨e,he,h1⟩
  ·exact w_ h1
  ·exact y_ (w_ h1)
  ·exact y_ (y_ (w_ h1))
  ·exact y_ (y_ (y_ ⟨e,by rw[q3];exact he,λ x=>by rw[f];exact h1 x⟩))
 ·rw[q3] at he;have r:(az c.cl e).length=1:=by
   rw[uk] at hle
   by_cases j:d=e/\d<c.cl.length
   ·rw[if_pos j] at hle;obtain⟨rfl,b⟩:=j;rw[<-hlen b];exact hle
   ·rw[if_neg j] at hle;exact hle
  obtain⟨i,s,t,u⟩:=h1 e he r;refine⟨i,s,?_,u⟩;show ak c.ax i=w0 (lT c d l) e;rw[t];have b:w0 c e∈az (lT c d l).cl e:=(f e _).2 (mc (by omega));have k:w0 (lT c d l) e∈az (lT c d l).cl e:=mc (by omega);obtain⟨z,v⟩:=List.length_eq_one_iff.1 hle;rw[v,x_] at b k;rw[b,k]
theorem FG(h:Db c){d:Nat}{l:List Int}(hl:∀x,x∈l↔x∈az c.cl d):Db (lT c d l):=by
 intro k hk e he;rw[q3] at he;have:=h k hk e he;show wR (c.ax.take (hU c.st k)) (az (lT c d l).cl e);rw[uk]
 by_cases h1:d=e/\d<c.cl.length
 ·rw[if_pos h1];obtain⟨rfl,_⟩:=h1;rcases this with⟨x,b,f⟩|⟨x,b,y,g,f⟩
  ·exact w_ ⟨x,(hl x).2 b,f⟩
  ·exact y_ ⟨x,(hl x).2 b,y,(hl y).2 g,f⟩
 ·rw[if_neg h1];exact this
end
section
variable {F Fd:List (List Int)}{c:Core}{h:Nat}{P:List Nat}{d:Nat}
theorem J'(c:Core)(e:Nat)(b:d<c.cl.length)(g:2<=(az c.cl d).length):(w0 (lT c d (kX (az c.cl d) 0 1)) e=if d=e then w1 c e else w0 c e)/\(w1 (lT c d (kX (az c.cl d) 0 1)) e=if d=e then w0 c e else w1 c e):=by
 unfold w0 w1;rw[uk]
 by_cases h1:d=e
 ·subst h1;rw[if_pos ⟨rfl,b⟩,if_pos rfl,if_pos rfl,qF (by omega) (by omega),qF (by omega) (by omega)];simp
 ·rw[if_neg (λ f=>h1 f.1),if_neg h1,if_neg h1];exact⟨rfl,rfl⟩
theorem kG.swap(L:kG F Fd c h P)(g:d<c.cl.length)(n:2<=(az c.cl d).length):kG F Fd (lT c d (kX (az c.cl d) 0 1)) h P:=by
 have hm:=wU (l:=az c.cl d) (i:=0) (j:=1) (by omega) (by omega);have hw:=λ e=>J' c e g n
 have hlen:∀e,(az (lT c d (kX (az c.cl d) 0 1)).cl e).length=(az c.cl e).length:=λ e=>by
  rw[uk]
  by_cases h1:d=e/\d<c.cl.length
  ·rw[if_pos h1];obtain⟨rfl,_⟩:=h1;exact rX _ _ _
  ·rw[if_neg h1]
 refine⟨L.aN.ji hm,L.jS.ji hm (λ g=>(L.jS.mM d g).swap (by omega) (by omega)) (λ _=>rX _ _ _),⟨L.wt.qP,λ k e he=>?_,L.wt.sY,λ e he hl=>?_⟩,λ e he hl a b f o=>?_,FG L.rH hm,L.cur,L.hle⟩
 ·obtain⟨p,q,m⟩:=L.wt.qQ k e he;refine⟨by rw[q3];exact p,by rw[hlen];exact q,?_⟩;rw[(hw e).1,(hw e).2]
  by_cases h1:d=e
  ·rw[if_pos h1,if_pos h1];exact m.symm
  ·rw[if_neg h1,if_neg h1];exact m
 ·rw[q3] at he;rw[hlen] at hl;have:=L.wt.uW e he hl;rw[(hw e).1,(hw e).2]
  by_cases h1:d=e
  ·rw[if_pos h1,if_pos h1];exact⟨this.2,this.1⟩
  ·rw[if_neg h1,if_neg h1];exact this
 ·rw[q3] at he;rw[hlen] at hl;refine L.rG e he hl a b ?_ o;unfold wT at f⊢;rw[(hw e).1,(hw e).2] at f
  by_cases h1:d=e
  ·rw[if_pos h1,if_pos h1] at f;exact f.symm
  ·rw[if_neg h1,if_neg h1] at f;exact f
def rY(c:Core)(d k:Nat)(iD:List Nat):Core:=
 let x:=w1 c d;let y:=ak (az c.cl d) k
 {lT c d (kX (az c.cl d) 1 k) with wt:=(c.wt.set (jR (-x)) iD).set (jR (-y)) (az c.wt (jR (-y))++[d])}
theorem kG.move{kept rest:List Nat}{k:Nat}(L:kG F Fd c h (d::rest))(u:d<c.cl.length)(hk:2<=k)(t:k<(az c.cl d).length)(p:h≠0)(O:ak c.ax (h-1)= -(w1 c d))(P:¬-(ak (az c.cl d) k)∈c.ax)(G:az c.wt (jR (-(w1 c d)))=kept++d::rest):
  kG F Fd (rY c d k (kept++rest)) h rest:=by
 have v:=L.jS.mM d u;have hm:=wU (l:=az c.cl d) (i:=1) (j:=k) (by omega) t;obtain⟨x,r⟩:∃x,w1 c d=x:=⟨_,rfl⟩
 obtain⟨y,A⟩:∃y,ak (az c.cl d) k=y:=⟨_,rfl⟩
 rw[r] at O G;rw[A] at P;have Q:x≠y:=λ e=>by
  have:=uX v.nt (i:=1) (j:=k) (by omega) t (by rw[show ak (az c.cl d) 1=x from r,A,e]);omega
 have U:w0 c d≠y:=λ e=>by
  have:=uX v.nt (i:=0) (j:=k) (by omega) t (by rw[show ak (az c.cl d) 0=w0 c d from rfl,A,e]);omega
 have V:x∈az c.cl d:=by rw[<-r];exact mc (by omega)
 have W:y∈az c.cl d:=by rw[<-A];exact mc t
 have X:=(v.lt x V)
 have Y:=(v.lt y W)
 have ah:jR (-x)≠jR (-y):=λ e=>Q (by have:=vS e;omega)
 have n:rY c d k (kept++rest)={lT c d (kX (az c.cl d) 1 k) with wt:=(c.wt.set (jR (-x)) (kept++rest)).set (jR (-y)) (az c.wt (jR (-y))++[d])}:=by
  unfold rY;rw[r,A]
 have J:∀e,w0 (rY c d k (kept++rest)) e=w0 c e:=λ e=>by
  rw[n];show ak (az (lT c d (kX (az c.cl d) 1 k)).cl e) 0=_;rw[uk]
  by_cases h1:d=e/\d<c.cl.length
  ·rw[if_pos h1];obtain⟨rfl,_⟩:=h1;rw[qF (by omega) t,if_neg (by omega),if_neg (by omega)];rfl
  ·rw[if_neg h1];rfl
 have K:∀e,w1 (rY c d k (kept++rest)) e=if d=e then y else w1 c e:=λ e=>by
  rw[n];show ak (az (lT c d (kX (az c.cl d) 1 k)).cl e) 1=_;rw[uk]
  by_cases h1:d=e
  ·rw[if_pos ⟨h1,u⟩,if_pos h1,qF (by omega) t,if_neg (by omega),if_pos rfl];exact A
  ·rw[if_neg (λ p=>h1 p.1),if_neg h1];rfl
 have hlen:∀e,(az (rY c d k (kept++rest)).cl e).length=(az c.cl e).length:=λ e=>by
  rw[n];show(az (lT c d (kX (az c.cl d) 1 k)).cl e).length=_;rw[uk]
  by_cases h1:d=e/\d<c.cl.length
  ·rw[if_pos h1];obtain⟨rfl,_⟩:=h1;exact rX _ _ _
  ·rw[if_neg h1]
 have M:(rY c d k (kept++rest)).cl.length=c.cl.length:=by rw[n];exact q3 _ _ _
 have H:∀j,az (rY c d k (kept++rest)).wt j=if j=jR (-y) then az c.wt (jR (-y))++[d] else if j=jR (-x) then kept++rest else az c.wt j:=λ j=>by
  rw[n];show az ((c.wt.set (jR (-x)) (kept++rest)).set (jR (-y)) (az c.wt (jR (-y))++[d])) j=_;rw[qE,qE];have Z:jR (-x)<c.wt.length:=by rw[L.wt.qP];exact X.neg.at
  have aa:jR (-y)<c.wt.length:=by rw[L.wt.qP];exact Y.neg.at
  by_cases h1:j=jR (-y)
  ·rw[if_pos ⟨h1.symm,by simpa using aa⟩,if_pos h1]
  ·rw[if_neg (λ p=>h1 p.1.symm),if_neg h1]
   by_cases f:j=jR (-x)
   ·rw[if_pos ⟨f.symm,Z⟩,if_pos f]
   ·rw[if_neg (λ p=>f p.1.symm),if_neg f]
 have D:=L.wt.sY (jR (-x));rw[G] at D;have ab:¬d∈kept++rest:=by
  rw[i_,Zz] at D;intro p;rcases v_.1 p with h1|h1
  ·exact D.2.2 d h1 d (by simp) rfl
  ·exact D.2.1.1 h1
 have R:¬d∈az c.wt (jR (-y)):=λ p=>by
  obtain⟨_,_,g⟩:=L.wt.qQ _ d p;rcases g with g|g
  ·have:=vS g;exact U (by omega)
  ·have:=vS g;exact Q (by omega)
 have o:=L.aN.ji hm;refine⟨by rw[n];exact⟨o.rE,o.pz,o.pQ,o.lit,o.nt,o.uh,o.pos,o.qZ,o.oz,o.mI,o.p7⟩,?_,⟨?_,?_,?_,?_⟩,?_,?_,L.cur,L.hle⟩
 ·have E:=L.jS.ji hm (λ u=>(L.jS.mM d u).swap (by omega) t) (λ _=>rX _ _ _);rw[n];exact⟨E.mM,E.imp,E.tH,E.tI,E.tJ⟩
 ·rw[n];show((c.wt.set (jR (-x)) (kept++rest)).set (jR (-y)) (az c.wt (jR (-y))++[d])).length=_;simp[L.wt.qP,lT]
 ·intro j e he;rw[H] at he;rw[M,hlen,J,K]
  by_cases h1:j=jR (-y)
  ·rw[if_pos h1] at he;rcases v_.1 he with f|f
   ·rw[<-h1] at f;obtain⟨g,q,s⟩:=L.wt.qQ j e f;refine⟨g,q,?_⟩;have m:d≠e:=by rintro rfl;rw[h1] at f;exact R f
    rw[if_neg m];exact s
   ·rw[x_.1 f];exact⟨u,by omega,y_ (by rw[if_pos rfl];exact h1)⟩
  ·rw[if_neg h1] at he;have S:e∈az c.wt j/\(d=e->j≠jR (-x)):=by
    by_cases f:j=jR (-x)
    ·rw[if_pos f] at he;refine⟨?_,λ m=>absurd (m▸he) ab⟩;rw[f,G];rcases v_.1 he with g|g
     ·simp[g]
     ·simp[g]
    ·rw[if_neg f] at he;exact⟨he,λ _=>f⟩
   obtain⟨g,q,s⟩:=L.wt.qQ j e S.1;refine⟨g,q,?_⟩
   by_cases m:d=e
   ·rw[if_pos m];rcases s with s|s
    ·exact w_ s
    ·exact absurd (by rw[s,<-m,r]) (S.2 m)
   ·rw[if_neg m];exact s
 ·intro j;rw[H]
  by_cases h1:j=jR (-y)
  ·rw[if_pos h1,i_];refine⟨L.wt.sY _,by simp,λ a B b ad e=>R ?_⟩;rw[x_.1 ad] at e;exact e▸B
  ·rw[if_neg h1]
   by_cases f:j=jR (-x)
   ·rw[if_pos f];refine D.sublist ?_;exact List.Sublist.append_left (List.sublist_cons_self _ _) _
   ·rw[if_neg f];exact L.wt.sY j
 ·intro e he hl;rw[M] at he;rw[hlen] at hl;have N:=L.wt.uW e he hl;rw[J,K];have keep:∀j,(d=e->j≠jR (-x))->e∈az c.wt j->e∈az (rY c d k (kept++rest)).wt j:=λ j I h1=>by
   rw[H]
   by_cases f:j=jR (-y)
   ·rw[if_pos f,<-f];simp[h1]
   ·rw[if_neg f]
    by_cases g:j=jR (-x)
    ·rw[if_pos g];rw[g,G] at h1;have m:e≠d:=λ q=>I q.symm g
     simp only[v_,m_] at h1⊢;rcases h1 with h1|h1|h1
     ·exact w_ h1
     ·exact absurd h1 m
     ·exact y_ h1
    ·rw[if_neg g];exact h1
  by_cases m:d=e
  ·subst m;rw[if_pos rfl];refine⟨keep _ (λ _ ae=>?_) N.1,?_⟩
   ·have g:=vS ae;have q:=(v.w (by omega)).2.2.1;apply q;show w0 c d=w1 c d;rw[r];omega
   ·rw[H,if_pos rfl];simp
  ·rw[if_neg m];exact⟨keep _ (λ h1=>absurd h1 m) N.1,keep _ (λ h1=>absurd h1 m) N.2⟩
 ·intro e he hl a b C B;rw[M] at he;rw[hlen] at hl;have af:(rY c d k (kept++rest)).ax=c.ax:=by rw[n];rfl
  have T:∀z,bp (rY c d k (kept++rest)) z=bp c z:=λ z=>by rw[n];rfl
  rw[af] at B⊢;rw[T,T];unfold wT at C;rw[J,K] at C
  by_cases m:d=e
  ·subst m;rw[if_pos rfl] at C;exfalso;rcases C with⟨rfl,rfl⟩|⟨rfl,rfl⟩
   ·
    have ag:¬x∈c.ax:=λ h1=>by
     have f: -x∈c.ax:=by rw[<-O];exact mc (by have:=L.hle;omega)
     exact L.aN.apart h1 f
    rcases L.rG d u hl (w0 c d) x (w_ ⟨rfl,r.symm⟩) B with⟨_,h1⟩|⟨h1,_⟩
    ·have q:=(v.w (by omega)).2.2.1;apply q;show w0 c d=w1 c d;rw[r];omega
    ·exact ag h1
   ·exact P (sw B)
  ·rw[if_neg m] at C;rcases L.rG e he hl a b C B with⟨h1,f⟩|h1
   ·left;refine⟨?_,f⟩;rcases m_.1 h1 with g|g
    ·exact absurd g.symm m
    ·exact g
   ·exact y_ h1
 ·have:=FG L.rH hm;intro j I e he;have g:=this j (by rw[n] at I;exact I) e (by rw[n] at he;exact he);rw[n];exact g
end
end
section
def wV(wt:List (List Nat))(l:List Int)(d:Nat):List (List Nat):=
 let w':=wt.set (jR (-(ak l 0))) (az wt (jR (-(ak l 0)))++[d])
 w'.set (jR (-(ak l 1))) (az w' (jR (-(ak l 1)))++[d])
def kI(c:Core)(l:List Int):Core:={c with cl:=c.cl++[l],wt:=if 2<=l.length then wV c.wt l c.cl.length else c.wt}
section
variable {F Fd:List (List Int)}{c:Core}{l:List Int}
theorem rI{d:Nat}(b:d<c.cl.length):az (kI c l).cl d=az c.cl d:=Bl b
theorem rJ:az (kI c l).cl c.cl.length=l:=uU _ _
theorem qG:(kI c l).cl.length=c.cl.length+1:=by simp[kI]
theorem j9.new(h:j9 c):j9 (kI c l):=by
 refine⟨h.rE,h.pz,h.pQ,h.lit,h.nt,h.uh,h.pos,h.qZ,h.oz,h.mI,λ i d=>?_⟩;have:=h.p7 i d;show match mH c.kF (aD (ak c.ax i)) with
   |none=>∃k,k<c.st.length/\hU c.st k=i
   |some e=>e<(kI c l).cl.length/\ak c.ax i∈az (kI c l).cl e/\∀x∈az (kI c l).cl e,x≠ak c.ax i-> -x∈c.ax.take i
 cases b:mH c.kF (aD (ak c.ax i)) with
 |none=>rw[b] at this;exact this
 |some e=>
  rw[b] at this;obtain⟨h1,f,g⟩:=this;show e<(kI c l).cl.length/\ak c.ax i∈az (kI c l).cl e/\∀x∈az (kI c l).cl e,x≠ak c.ax i-> -x∈c.ax.take i;rw[qG,rI h1];exact⟨by omega,f,g⟩
theorem Ka(hl:oN c.n l)(g:2<=l.length)(hs:c.wt.length=2*c.n+2)(j:Nat):
  az (wV c.wt l c.cl.length) j=if j=jR (-(ak l 0))\/j=jR (-(ak l 1)) then az c.wt j++[c.cl.length] else az c.wt j:=by
 obtain⟨m0,m1,i,_⟩:=hl.w g;have k:jR (-(ak l 0))≠jR (-(ak l 1)):=λ e=>i (by have:=vS e;omega)
 have aI:jR (-(ak l 0))<c.wt.length:=by rw[hs];exact(hl.lt _ m0).neg.at
 have s1:jR (-(ak l 1))<c.wt.length:=by rw[hs];exact(hl.lt _ m1).neg.at
 unfold wV;simp only[qE,Zy]
 by_cases d:j=jR (-(ak l 1))
 ·subst d;rw[if_pos ⟨rfl,s1⟩,if_pos (y_ rfl),if_neg (λ b=>k b.1)]
 ·rw[if_neg (λ b=>d b.1.symm)]
  by_cases f:j=jR (-(ak l 0))
  ·subst f;rw[if_pos ⟨rfl,aI⟩,if_pos (w_ rfl)]
  ·rw[if_neg (λ b=>f b.1.symm),if_neg (λ b=>b.elim f d)]
theorem um{d:Nat}(b:d<c.cl.length):w0 (kI c l) d=w0 c d/\w1 (kI c l) d=w1 c d:=by
 unfold w0 w1;rw[rI b];exact⟨rfl,rfl⟩
theorem vu:w0 (kI c l) c.cl.length=ak l 0/\w1 (kI c l) c.cl.length=ak l 1:=by
 unfold w0 w1;rw[rJ];exact⟨rfl,rfl⟩
theorem yM.new(h:yM c)(hl:oN c.n l):yM (kI c l):=by
 have k:∀j,az (kI c l).wt j=if 2<=l.length/\(j=jR (-(ak l 0))\/j=jR (-(ak l 1))) then az c.wt j++[c.cl.length] else az c.wt j:=λ j=>by
  show az (if 2<=l.length then wV c.wt l c.cl.length else c.wt) j=_
  by_cases m:2<=l.length
  ·rw[if_pos m,Ka hl m h.qP]
   by_cases f:j=jR (-(ak l 0))\/j=jR (-(ak l 1))
   ·rw[if_pos f,if_pos ⟨m,f⟩]
   ·rw[if_neg f,if_neg (λ p=>f p.2)]
  ·rw[if_neg m,if_neg (λ p=>m p.1)]
 refine⟨?_,λ j d g=>?_,λ j=>?_,λ d g o=>?_⟩
 ·show(if 2<=l.length then wV c.wt l c.cl.length else c.wt).length=_;split
  ·unfold wV;simp[h.qP];rfl
  ·exact h.qP
 ·rw[k] at g
  by_cases f:2<=l.length/\(j=jR (-(ak l 0))\/j=jR (-(ak l 1)))
  ·rw[if_pos f] at g;rcases v_.1 g with q|q
   ·obtain⟨i,r,s⟩:=h.qQ j d q;rw[qG,rI i,(um i).1,(um i).2];exact⟨by omega,r,s⟩
   ·rw[x_.1 q,qG,rJ,vu.1,vu.2];exact⟨by omega,f.1,f.2⟩
  ·rw[if_neg f] at g;obtain⟨i,r,s⟩:=h.qQ j d g;rw[qG,rI i,(um i).1,(um i).2];exact⟨by omega,r,s⟩
 ·rw[k];split
  ·rw[i_];refine⟨h.sY j,by simp,λ a t b u e=>?_⟩;rw[x_.1 u] at e;have:=(h.qQ j a t).1;omega
  ·exact h.sY j
 ·rw[qG] at g
  by_cases e:d<c.cl.length
  ·rw[rI e] at o;rw[(um e).1,(um e).2,k,k];have:=h.uW d e o;constructor
   ·split
    ·simp[this.1]
    ·exact this.1
   ·split
    ·simp[this.2]
    ·exact this.2
  ·obtain rfl:d=c.cl.length:=by omega
   rw[rJ] at o;rw[vu.1,vu.2,k,k,if_pos ⟨o,w_ rfl⟩,if_pos ⟨o,y_ rfl⟩];simp
theorem kG.new{h:Nat}{g:List Int}(L:kG F Fd c h [])(hl:oN c.n l)(r:rD F l)(s:∀x,x∈l↔x∈g)
  (t:2<=l.length->∀a b,(a=ak l 0/\b=ak l 1\/a=ak l 1/\b=ak l 0)-> -a∈c.ax.take h->b∈c.ax/\bp c b<=bp c a)
  (u:∀k,k<c.st.length->wR (c.ax.take (hU c.st k)) l) (hu:l.length=1->c.mm=true\/∃i,i<c.ax.length/\ak c.ax i=ak l 0/\lI c.st i=0):
  kG F (Fd++[g]) (kI c l) h []:=by
 refine⟨L.aN.new,⟨λ d j=>?_,λ d j=>?_,λ v w=>?_,L.jS.tI,?_⟩,L.wt.new hl,λ d j f a b m q=>?_,λ k hk d j=>?_,L.cur,L.hle⟩
 ·rw[qG] at j
  by_cases e:d<c.cl.length
  ·rw[rI e];exact L.jS.mM d e
  ·obtain rfl:d=c.cl.length:=by omega
   rw[rJ];exact hl
 ·rw[qG] at j
  by_cases e:d<c.cl.length
  ·rw[rI e];exact L.jS.imp d e
  ·obtain rfl:d=c.cl.length:=by omega
   rw[rJ];exact r
 ·rcases v_.1 w with h1|h1
  ·rcases L.jS.tH v h1 with f|f|f|⟨d,j,f⟩
   ·exact w_ f
   ·exact y_ (w_ f)
   ·exact y_ (y_ (w_ f))
   ·exact y_ (y_ (y_ ⟨d,by rw[qG];omega,by rw[rI j];exact f⟩))
  ·rw[x_.1 h1];exact y_ (y_ (y_ ⟨c.cl.length,by rw[qG];omega,by rw[rJ];exact s⟩))
 ·by_cases o:c.mm=true
  ·exact w_ o
  ·refine y_ λ d j h1=>?_
   rw[qG] at j
   by_cases e:d<c.cl.length
   ·rw[rI e] at h1;rw[(um e).1];exact(L.jS.tJ.resolve_left o) d e h1
   ·obtain rfl:d=c.cl.length:=by omega
    rw[rJ] at h1;rw[vu.1];exact(hu h1).resolve_left o
 ·rw[qG] at j;right
  by_cases e:d<c.cl.length
  ·rw[rI e] at f;unfold wT at m;rw[(um e).1,(um e).2] at m;rcases L.rG d e f a b m q with⟨p,_⟩|p
   ·cases p
   ·exact p
  ·obtain rfl:d=c.cl.length:=by omega
   rw[rJ] at f;unfold wT at m;rw[vu.1,vu.2] at m;exact t f a b m q
 ·rw[qG] at j
  by_cases e:d<c.cl.length
  ·rw[rI e];exact L.rH k hk d e
  ·obtain rfl:d=c.cl.length:=by omega
   rw[rJ];exact u k hk
theorem kG.FH{h:Nat}{g:List Int}(L:kG F Fd c h [])(hl:oN c.n l)(p:rD F l)(D:∀x,x∈l↔x∈g)(s:ki c (ak l 0)=0)(E:∀y∈l,y≠ak l 0-> -y∈c.ax)
  (G:l.length=1->c.st.length=0) (H:2<=l.length->c.st.length<=bp c (ak l 1))
  (I:∀k,k<c.st.length->wR (c.ax.take (hU c.st k)) l):
  kG F (Fd++[g]) (lC (kI c l) (ak l 0) (some c.cl.length)) h []:=by
 have u:0<l.length:=List.length_pos_iff.2 hl.ne;have r:=hl.lt _ (mc u);have m:(lC (kI c l) (ak l 0) (some c.cl.length)).ax=c.ax++[ak l 0]:=rfl;have J:=L.aN.new (l:=l)|>.set (c:=kI c l) (x:=ak l 0) (w:=some c.cl.length) r s (by
  refine⟨by rw[qG];omega,?_,?_⟩
  ·rw[rJ];exact mc u
  ·rw[rJ];exact E)
 have v:∀i,i<c.ax.length->ak (c.ax++[ak l 0]) i=ak c.ax i:=λ i p=>tG p
 refine⟨J,⟨λ d f=>?_,λ d f=>?_,λ z K=>?_,L.jS.tI,?_⟩,?_,λ d f j a b o t=>?_,λ k hk d f=>?_,L.cur,by rw[m,t_];have:=L.hle;omega⟩
 ·have f:d<(kI c l).cl.length:=f;rw[qG] at f;show oN c.n (az (kI c l).cl d)
  by_cases e:d<c.cl.length
  ·rw[rI e];exact L.jS.mM d e
  ·obtain rfl:d=c.cl.length:=by omega
   rw[rJ];exact hl
 ·have f:d<(kI c l).cl.length:=f;rw[qG] at f;show rD F (az (kI c l).cl d)
  by_cases e:d<c.cl.length
  ·rw[rI e];exact L.jS.imp d e
  ·obtain rfl:d=c.cl.length:=by omega
   rw[rJ];exact p
 ·rcases v_.1 K with h1|h1
  ·rcases L.jS.tH z h1 with j|j|⟨i,p,j,q⟩|⟨d,f,j⟩
   ·exact w_ j
   ·exact y_ (w_ j)
   ·refine y_ (y_ (w_ ⟨i,by rw[m,t_];omega,?_,q⟩));rw[m,v i p];exact j
   ·refine y_ (y_ (y_ ⟨d,?_,?_⟩))
    ·show d<(kI c l).cl.length;rw[qG];omega
    ·show∀x,x∈az (kI c l).cl d↔x∈z;rw[rI f];exact j
  ·rw[x_.1 h1];refine y_ (y_ (y_ ⟨c.cl.length,?_,?_⟩))
   ·show c.cl.length<(kI c l).cl.length;rw[qG];omega
   ·show∀x,x∈az (kI c l).cl c.cl.length↔x∈g;rw[rJ];exact D
 ·by_cases A:c.mm=true
  ·exact w_ A
  ·refine y_ λ d f h1=>?_
   have f:d<(kI c l).cl.length:=f;have h1:(az (kI c l).cl d).length=1:=h1;rw[qG] at f
   by_cases e:d<c.cl.length
   ·rw[rI e] at h1;obtain⟨i,p,M,N⟩:=(L.jS.tJ.resolve_left A) d e h1;refine⟨i,by rw[m,t_];omega,?_,N⟩;rw[m,v i p,M];exact(um e).1.symm
   ·obtain rfl:d=c.cl.length:=by omega
    rw[rJ] at h1;have hs:=G h1;refine⟨c.ax.length,by rw[m];simp,?_,?_⟩
    ·rw[m,xU];exact vu.1.symm
    ·have:=wS c.st c.ax.length;show lI c.st c.ax.length=0;omega
 ·have:=L.wt.new hl;exact⟨this.qP,this.qQ,this.sY,this.uW⟩
 ·have f:d<(kI c l).cl.length:=f;have j:2<=(az (kI c l).cl d).length:=j;have o:wT (kI c l) d a b:=o;rw[m,u_ L.hle] at t;rw[qG] at f;right;have B:aD a≠aD (ak l 0):=by
   have:=vV L.aN r s (sw t)
   rwa[oW] at this
  have C:∀y,bp (lC (kI c l) (ak l 0) (some c.cl.length)) y=if aD y=aD (ak l 0) then c.st.length else bp c y:=λ y=>Bm (c:=kI c l) (L.aN.new) r y
  rw[C,C,if_neg B,m,v_,x_]
  by_cases e:d<c.cl.length
  ·rw[rI e] at j;unfold wT at o;rw[(um e).1,(um e).2] at o;rcases L.rG d e j a b o t with⟨q,_⟩|⟨q,O⟩
   ·cases q
   ·rw[if_neg (vV L.aN r s q)];exact⟨w_ q,O⟩
  ·obtain rfl:d=c.cl.length:=by omega
   rw[rJ] at j;unfold wT at o;rw[vu.1,vu.2] at o;rcases o with⟨rfl,rfl⟩|⟨rfl,rfl⟩
   ·exact absurd rfl B
   ·rw[if_pos rfl];exact⟨y_ rfl,H j⟩
 ·have f:d<(kI c l).cl.length:=f;rw[qG] at f;show wR ((c.ax++[ak l 0]).take (hU c.st k)) (az (kI c l).cl d);rw[u_ (L.aN.oz k hk)]
  by_cases e:d<c.cl.length
  ·rw[rI e];exact L.rH k hk d e
  ·obtain rfl:d=c.cl.length:=by omega
   rw[rJ];exact I k hk
theorem kG.more{h:Nat}{P:List Nat}{g:List Int}(L:kG F Fd c h P)(b:c.mm=true\/vr g\/∃i,i<c.ax.length/\ak c.ax i∈g/\lI c.st i=0):kG F (Fd++[g]) c h P:=by
 refine⟨L.aN,⟨L.jS.mM,L.jS.imp,λ d e=>?_,L.jS.tI,L.jS.tJ⟩,L.wt,L.rG,L.rH,L.cur,L.hle⟩;rcases v_.1 e with h1|h1
 ·exact L.jS.tH d h1
 ·rw[x_.1 h1];rcases b with b|b|b
  ·exact w_ b
  ·exact y_ (w_ b)
  ·exact y_ (y_ (w_ b))
def wW(c:Core):Core:={c with mm:=true}
theorem kG.FI{h:Nat}{P:List Nat}(L:kG F Fd c h P)(hu:Unsat F):kG F Fd (wW c) h P:=
 ⟨⟨L.aN.rE,L.aN.pz,L.aN.pQ,L.aN.lit,L.aN.nt,L.aN.uh,L.aN.pos,L.aN.qZ,L.aN.oz,L.aN.mI,L.aN.p7⟩,⟨L.jS.mM,L.jS.imp,λ g _=>w_ rfl,λ _=>hu,w_ rfl⟩,⟨L.wt.qP,L.wt.qQ,L.wt.sY,L.wt.uW⟩,L.rG,L.rH,L.cur,L.hle⟩
theorem kG.same{h:Nat}{P:List Nat}{FJ:List (List Int)}(L:kG F Fd c h P)(he:∀g∈FJ,g∈Fd):kG F FJ c h P:=
 ⟨L.aN,⟨L.jS.mM,L.jS.imp,λ g b=>L.jS.tH g (he g b),L.jS.tI,L.jS.tJ⟩,L.wt,L.rG,L.rH,L.cur,L.hle⟩
end
section
variable {F Fd:List (List Int)}{c:Core}{h:Nat}{d:Nat}{rest:List Nat}
theorem kG.next(L:kG F Fd c h [])(l:h<c.ax.length):kG F Fd {c with ag:=h+1} (h+1) (az c.wt (jR (ak c.ax h))):=by
 refine⟨⟨L.aN.rE,L.aN.pz,L.aN.pQ,L.aN.lit,L.aN.nt,L.aN.uh,L.aN.pos,L.aN.qZ,L.aN.oz,L.aN.mI,L.aN.p7⟩,⟨L.jS.mM,L.jS.imp,L.jS.tH,L.jS.tI,L.jS.tJ⟩,⟨L.wt.qP,L.wt.qQ,L.wt.sY,L.wt.uW⟩,λ e he hl a b g m=>?_,L.rH,λ k hk=>Nat.le_succ_of_le (L.cur k hk),l⟩;obtain⟨j,h1,n,d⟩:=pP.1 m
 by_cases o:j<h
 ·rcases L.rG e he hl a b g (pP.2 ⟨j,o,n,d⟩) with⟨f,_⟩|f
  ·cases f
  ·exact y_ f
 ·obtain rfl:j=h:=by omega
  left;refine⟨?_,d⟩;have i:=L.wt.uW e he hl;rw[d];rcases g with⟨rfl,rfl⟩|⟨rfl,rfl⟩
  ·exact i.1
  ·exact i.2
theorem kG.kept(L:kG F Fd c h (d::rest))(o:d<c.cl.length)(p:2<=(az c.cl d).length)(C:h≠0)(q:ak c.ax (h-1)= -(w1 c d))(g:w0 c d∈c.ax)(r:∀k,k<c.st.length->hU c.st k<=h-1):kG F Fd c h rest:=by
 have s:=L.jS.mM d o;refine⟨L.aN,L.jS,L.wt,λ e he hl a b m f=>?_,L.rH,L.cur,L.hle⟩
 by_cases n:e=d
 ·subst n;right;obtain⟨m0,m1,D,_⟩:=s.w p;rcases m with⟨rfl,rfl⟩|⟨rfl,rfl⟩
  ·exact absurd (sw f) (L.aN.apart g)
  ·refine⟨g,?_⟩;have t:h-1<c.ax.length:=by have:=L.hle;omega
   obtain⟨i,u,v⟩:=qn.1 g;have y:bp c (w0 c e)=lI c.st i:=by rw[<-L.aN.mI i u];rw[<-v]
   have z:bp c (w1 c e)=lI c.st (h-1):=by
    rw[<-L.aN.mI _ t,q];unfold bp;rw[oW]
   have A:lI c.st (h-1)=c.st.length:=by
    unfold lI;rw[Zw];intro a f;obtain⟨k,hk,e⟩:=r_.1 f;have:=r k hk;rw[vt hk,e] at this;simpa using this
   rw[y,z,A];exact wS _ _
 ·rcases L.rG e he hl a b m f with⟨j,B⟩|j
  ·rcases m_.1 j with l|l
   ·exact absurd l n
   ·exact w_ ⟨l,B⟩
  ·exact y_ j
theorem kG.low{P:List Nat}(L:kG F Fd c h P)(p:h≠0)(g:∀k,k<c.st.length->hU c.st k<=h-1):kG F Fd c (h-1) []:=by
 refine⟨L.aN,L.jS,L.wt,λ e he hl a b l d=>?_,L.rH,g,by have:=L.hle;omega⟩;right;rcases L.rG e he hl a b l (Da d (by omega)) with⟨f,m⟩|f
 ·exfalso;obtain⟨j,q,n,o⟩:=pP.1 d;have:=L.aN.place (i:=h-1) (j:=j) (by have:=L.hle;omega) n (by rw[m,o]);omega
 ·exact f
end
theorem Kb{F Fd:List (List Int)}{c:Core}(L:kG F Fd c c.ax.length [])(l:c.mm=false)(m:∀x,gP c.n x->ki c x≠0){M:Int->Bool}(o:Mod M)(hm:∀x,gP c.n x->(M x=true↔ki c x=1))(hF:∀g∈Fd,∀x∈g,gP c.n x):∀g∈Fd,sW M g:=by
 intro g j;have T:=L.aN;rcases L.jS.tH g j with h|h|⟨i,p,h,_⟩|⟨d,k,h⟩
 ·rw[l] at h;cases h
 ·exact h.J3 o
 ·refine⟨_,h,?_⟩;rw[hm _ (hF g j _ h)];exact(T.pos _ (hF g j _ h)).2 (mc p)
 ·rcases FE L l d k with⟨x,f,q⟩|⟨x,f,y,t,u,h1,v⟩
  ·have e:=(L.jS.mM d k).lt x f;exact⟨x,(h x).1 f,(hm x e).2 ((T.pos x e).2 q)⟩
  ·have e:=(L.jS.mM d k).lt x f;refine⟨x,(h x).1 f,(hm x e).2 ?_⟩;have b:=T.range x;have r:=m x e;have s:=T.xX e;rcases b with b|b|b
   ·exact absurd b r
   ·exact b
   ·exact absurd (s.1 b) h1
end
end Go.Proofs.YtogdlkfacflmaaaGreat
