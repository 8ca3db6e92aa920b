/- Parts of the walk of the solver and its core; no condition. -/
import Derived.Test.YtogdlkfacflmaaaGreatZY5
import Derived.Test.YtogdlkfacflmaaaGreatZY3
import Derived.ArgAppend
import Derived.Deep.DeepCutAuto
import Derived.WalkMore
import Derived.Test.YtogdlkfacflmaaaGreatZY1
namespace Go.Proofs.YtogdlkfacflmaaaGreat
set_option linter.unusedVariables false
set_option linter.unusedSimpArgs false
set_option maxRecDepth 100000
set_option maxHeartbeats 2000000
open _root_.Array renaming getD_eq_getD_getElem?→z_,replicate→t_,all_eq_true_iff_forall_mem→q_,getElem?_eq_getElem→k_,mem_of_getElem?→b_
open _root_.List renaming length_set→y_,range→u_,getD_eq_getElem?_getD→s_,getElem?_map→r_,getElem?_range→p_,getElem?_eq_some_iff→j_,all_eq_true→i_,getElem?_eq_getElem→g_,length_cons→e_,set_set→d_,set_getElem_self→a_,map_set→Zv
open _root_.And renaming intro→x_
open _root_.Go.Region renaming binds→w_,wanted→m_,ready→Zy
open _root_.Go.Proofs.Tryz renaming prog→v_
open _root_.Nat renaming le_refl→o_,eq_zero_or_pos→n_,zero_add→h_,lt_or_ge→Zz
open _root_.Go.Result renaming andThen_ok→l_
open _root_.Bool renaming and_eq_true→f_,or_eq_true→c_
open _root_.Go.Sem renaming run_bind→Zx,run_pure→Zw
open _root_.Go.Value renaming int→Zu
variable{v:Value}{ws:List (List Nat)}{iA Init:World->Prop}{G mR i id base:Nat}{dead:Nat->Option Nat}{w:World}{P:Program}{ops:Array Oper}{Q:Exit->Act->World->Prop}{a:Act}{s:au}{o:Oper}{K:Nat->Prop}{hs:Nat->ay}{cb:Nat->Nat}
section
open Go.RowKit Go.Shelf
theorem Dz(k:Nat):qS (iI k)=164:=by
 unfold qS iI;rw[if_neg (by omega),if_neg (by omega),if_neg (by omega),if_neg (by omega),if_neg (by omega),if_neg (by omega),if_neg (by omega),if_neg (by omega),if_pos (by omega)];rfl
theorem Al(k:Nat):nL (iI k)=1:=by unfold nL iI;rw[if_neg (by omega)]
theorem DA(k:Nat):qS (kO k)=3:=by
 unfold qS kO;rw[if_neg (by omega),if_neg (by omega),if_neg (by omega),if_neg (by omega),if_neg (by omega),if_neg (by omega),if_neg (by omega),if_neg (by omega),if_neg (by omega)]
theorem BM(k:Nat):nL (kO k)=1:=by unfold nL kO;rw[if_neg (by omega)]
theorem wk(hs:Nat->ay)(cb:Nat->Nat)(s:au)(k:Nat):cont hs cb s (iI k)=k7 cb (az s.c.wt k):=by
 unfold cont iI;rw[if_neg (by omega),if_neg (by omega),if_neg (by omega),if_neg (by omega),if_neg (by omega),if_neg (by omega),if_neg (by omega),if_neg (by omega),if_neg (by omega),if_neg (by omega),if_neg (by omega),if_neg (by omega),if_neg (by omega),if_pos (by omega)];rw[show(13+3*k-13)/3=k by omega]
theorem yd(hs:Nat->ay)(cb:Nat->Nat)(s:au)(k:Nat):cont hs cb s (kO k)=jj (az s.c.cl k):=by
 unfold cont kO;rw[if_neg (by omega),if_neg (by omega),if_neg (by omega),if_neg (by omega),if_neg (by omega),if_neg (by omega),if_neg (by omega),if_neg (by omega),if_neg (by omega),if_neg (by omega),if_neg (by omega),if_neg (by omega),if_neg (by omega),if_neg (by omega),if_pos (by omega)];rw[show(14+3*k-14)/3=k by omega]
def au.pY(s:au)(k:Nat)(l:List Nat):au:={s with c:={s.c with wt:=s.c.wt.set k l}}
theorem K0{f:Nat->Value}{n k:Nat}:((u_ n).map f).set k v=(u_ n).map (λ j=>if j=k then v else f j):=by
 refine List.ext_getElem? λ j=>?_
 rw[List.getElem?_set,r_,r_]
 by_cases b:j<n
 ·rw[p_ b]
  by_cases e:k=j
  ·subst e;simp[b]
  ·rw[if_neg e];simp[Ne.symm e]
 ·rw[List.getElem?_eq_none (by simpa using b)]
  by_cases e:k=j
  ·subst e;simp[b]
  ·rw[if_neg e];rfl
theorem K1(hs hs':Nat->ay)(cb:Nat->Nat)(s:au){r:Nat}(b:r≠0):cont hs cb s r=cont hs' cb s r:=by
 unfold cont;rw[if_neg b,if_neg b]
theorem Gu(hs:Nat->ay)(cb:Nat->Nat)(s:au){k r:Nat}{l:List Nat}(d:r≠0)(e:r≠iI k):cont hs cb (s.pY k l) r=cont hs cb s r:=by
 rcases Zz r 13 with h|h
 ·have:r=1\/r=2\/r=3\/r=4\/r=5\/r=6\/r=7\/r=8\/r=9\/r=10\/r=11\/r=12:=by omega
  rcases this with rfl|rfl|rfl|rfl|rfl|rfl|rfl|rfl|rfl|rfl|rfl|rfl<;>rfl
 ·have a0:¬r=0:=d;have a1:¬r=1:=by omega
  have a2:¬r=2:=by omega
  have a3:¬r=3:=by omega
  have a4:¬r=4:=by omega
  have a5:¬r=5:=by omega
  have f:¬r=6:=by omega
  have g:¬r=7:=by omega
  have i:¬r=8:=by omega
  have a9:¬r=9:=by omega
  have j:¬r=10:=by omega
  have m:¬r=11:=by omega
  have a12:¬r=12:=by omega
  unfold cont;simp only[a0,a1,a2,a3,a4,a5,f,g,i,a9,j,m,a12,if_false]
  by_cases hm:r%3=1
  ·rw[if_pos hm,if_pos hm];have:az (s.pY k l).c.wt ((r-13)/3)=az s.c.wt ((r-13)/3):=by
    show az (s.c.wt.set k l) _=_;rw[qE,if_neg (λ n=>e (by unfold iI;omega))]
   rw[this]
  ·rw[if_neg hm,if_neg hm]
   by_cases b:r%3=2
   ·rw[if_pos b,if_pos b];rfl
   ·rw[if_neg b,if_neg b];rfl
section
variable {K:Nat->Prop}{base:Nat}{w bE W:World}{G:Nat}{hs:Nat->ay}{cb:Nat->Nat}{s:au}
theorem jm.kL(h:jm base w G hs cb s):(hs 0).n=s.c.wt.length:=by
 have h1:=h.rows.len 0;rw[show(cont hs cb s 0).length=s.c.wt.length by simp[cont],show nL 0=1 from rfl] at h1;omega
theorem jm.Am(h:jm base w G hs cb s)(k:Nat):(hs (iI k)).n=(az s.c.wt k).length:=by
 have h1:=h.rows.len (iI k);rw[wk,Al] at h1;simp[k7] at h1;omega
theorem jm.An(h:jm base w G hs cb s)(k:Nat):(hs (kO k)).n=(az s.c.cl k).length:=by
 have h1:=h.rows.len (kO k);rw[yd,BM] at h1;simp[jj] at h1;omega
theorem jm.ye(h:jm base w G hs cb s){g:Nat}(d:(hs 0).b=some g){k:Nat}(hk:k<s.c.wt.length):w.cell? ⟨g,k,none⟩=some (hs (iI k)).v:=h.get d (by
 show((u_ s.c.wt.length).map λ k=>(hs (iI k)).v)[k]? =_;rw[r_,p_ hk];rfl)
theorem jm.yf(h:jm base w G hs cb s){d g:Nat}(e:(hs (kO d)).b=some g){k:Nat}(hk:k<(az s.c.cl d).length):w.cell? ⟨g,k,none⟩=some (.int .i64 (ak (az s.c.cl d) k)):=h.get e (by
 rw[yd,nu hk];simp[jj,hk])
theorem bf.DB{w1:World}(h:bf K base w G hs cb s){g0:Nat}(m:(hs 0).b=some g0){k:Nat}(hk:k<s.c.wt.length){h':ay}{l:List Nat}
  (n:kA base w1 G (iV hs (iI k) h') cb (q5 hs s) (tL hs s) s.c.cl.length (iV (cont hs cb s) (iI k) (k7 cb l))) (o:Sep K w1 G (iV hs (iI k) h') cb s.c.cl.length):
  bf K base (w1.setCell ⟨g0,k,none⟩ h'.v) G (iV hs (iI k) h') cb (s.pY k l):=by
 have i:(0:Nat)≠iI k:=by unfold iI;omega
 have p:(iV hs (iI k) h' 0).b=some g0:=by rw[bq _ _ i];exact m
 refine⟨(n.cell p k h'.v).eq rfl rfl ?_ (λ d _=>?_) rfl (λ r=>?_),o.more (lq w1 g0 k _).size⟩
 ·have e:∀r,r<13->iV hs (iI k) h' r=hs r:=λ r q=>bq _ _ (by unfold iI;omega)
  unfold q5 oO;rw[e 0 (by omega),e 1 (by omega),e 2 (by omega),e 3 (by omega),e 4 (by omega),e 5 (by omega),e 6 (by omega),e 7 (by omega),e 8 (by omega),e 9 (by omega),e 10 (by omega),e 11 (by omega),e 12 (by omega)];rfl
 ·unfold tL;rw[bq _ _ (show kO d≠iI k by unfold kO iI;omega)];rfl
 ·by_cases f:r=0
  ·subst f;rw[jT,bq _ _ i];show((u_ s.c.wt.length).map λ j=>(hs (iI j)).v).set k h'.v=(u_ (s.c.wt.set k l).length).map λ j=>(iV hs (iI k) h' (iI j)).v
   rw[K0,y_];refine List.map_congr_left λ j _=>?_
   by_cases e:j=k
   ·subst e;rw[if_pos rfl,jT]
   ·rw[if_neg e,bq _ _ (show iI j≠iI k by unfold iI;omega)]
  ·rw[bq _ _ f]
   by_cases g:r=iI k
   ·subst g;rw[jT,wk];show _=k7 cb (az (s.c.wt.set k l) k);rw[qE,if_pos ⟨rfl,hk⟩]
   ·rw[bq _ _ g];rw[K1 (iV hs (iI k) h') hs cb _ f];exact(Gu hs cb s f g).symm
theorem bf.K2(h:bf K base w G hs cb s){g0:Nat}(f:(hs 0).b=some g0){k:Nat}(hk:k<s.c.wt.length){v':Value}{d:Nat}(p:mY w base 164 (hs (iI k)).v ((az s.c.wt k).length+1) (k7 cb (az s.c.wt k++[d])) v' bE):
  ∃h':ay,v'=h'.v/\h'.n=(az s.c.wt k).length+1/\bE.cell? ⟨g0,k,none⟩=some (hs (iI k)).v/\(∀j,bE.frozen? ⟨g0,j,none⟩=false)/\bE.cell? ⟨G,1,none⟩=some (hs 0).v/\bf K base (bE.setCell ⟨g0,k,none⟩ v') G (iV hs (iI k) h') cb (s.pY k (az s.c.wt k++[d]))/\aG K w (bE.setCell ⟨g0,k,none⟩ v'):=by
 obtain⟨g,l,q⟩:=p;have g:bE.ownsRow base (qS (iI k)) (nL (iI k)) v' ((az s.c.wt k).length+1) (k7 cb (az s.c.wt k++[d])):=by rw[Dz,Al];exact g
 obtain⟨h',rfl,t,i,u,y⟩:=kA.app h.e h.s (r:=iI k) g l q;have m:(0:Nat)≠iI k:=by unfold iI;omega
 have o:(iV hs (iI k) h' 0).b=some g0:=by rw[bq _ _ m];exact f
 refine⟨h',rfl,t,?_,λ j=>i.rows.free o j,(h.e.after (r:=iI k) (by rw[<-ay.own];exact l) 1).1.trans (h.e.kP rfl),h.DB f hk i u,y.trans (aG.set g0 k _ (h.s.row 0 g0 f))⟩;refine i.get o ?_;rw[bq _ _ m];show((u_ s.c.wt.length).map λ k=>(hs (iI k)).v)[k]? =_;rw[r_,p_ hk];rfl
theorem bf.DC(h:bf K base w G hs cb s){g0 k d lU ot:Nat}{oT:Option Addr}{v0 v':Value}(l:(hs 0).b=some g0)(hk:k<s.c.wt.length)(f:hs (iI k)=⟨oT,lU,ot⟩)(g:lU=(az s.c.wt k).length)(m:w.cell? ⟨G,1,none⟩=some v0)
  (i:mY w base 164 (.slice oT lU ot) (lU+1) (k7 cb (az s.c.wt k)++[.pointer (some ⟨cb d,0,none⟩)]) v' bE):
  ∃(A':Option Addr)(c':Nat),v'=.slice A' (lU+1) c'/\bE.cell? ⟨G,1,none⟩=some v0/\bE.cell? ⟨g0,k,none⟩=some (.slice oT lU ot)/\(∀j,bE.frozen? ⟨g0,j,none⟩=false)/\bf K base (bE.setCell ⟨g0,k,none⟩ v') G (iV hs (iI k) ⟨A',lU+1,c'⟩) cb (s.pY k (az s.c.wt k++[d]))/\aG K w (bE.setCell ⟨g0,k,none⟩ v'):=by
 obtain⟨⟨A',n,c'⟩,o,p,q,f9,r,t,u⟩:=h.K2 (d:=d) l hk (v':=v') (bE:=bE) (by
  rw[f,<-g];rw[show k7 cb (az s.c.wt k)++[Value.pointer (some ⟨cb d,0,none⟩)]=k7 cb (az s.c.wt k++[d]) by simp[k7,s5]] at i;exact i)
 obtain rfl:n=lU+1:=by rw[g];exact p
 refine⟨A',c',o,?_,by rw[q,f];rfl,f9,t,u⟩;rw[r,<-m];exact(h.e.kP rfl).symm
end
end
section
open Go.RowKit
def Ao(ws:List (List Nat))(iA:World->Prop)(G:Nat->Value->World->Prop)(dead:Nat->Option Nat)(Init:World->Prop)(mR:Nat)(i:Nat)(w:World)(v:Value)(w':World):Prop:=
 iA w'/\G i v w'/\(∀j u,j≠i->dead j≠some i->nT ws 8 j i=false->(∀c,dead j=some c->nT ws 8 i c=false)->G j u w->G j u w')/\(i≠mR->nT ws 8 i mR=false->Init w->Init w')
theorem Ao.same{G:Nat->Value->World->Prop}(b:iA w)(h:G i v w):Ao ws iA G dead Init mR i w v w:=⟨b,h,λ _ _ _ _ _ _ h=>h,λ _ _ h=>h⟩
theorem Ao.more{G:Nat->Value->World->Prop}{w':World}(hm:∀j u w w',Below w.heap.size w w'->G j u w->G j u w')(c:∀w w',Below w.heap.size w w'->Init w->Init w')(b:Below w.heap.size w w')(d:iA w')(h:G i v w'):Ao ws iA G dead Init mR i w v w':=⟨d,h,λ j u _ _ _ _ h=>hm j u w w' b h,λ _ _ h=>c w w' b h⟩
def y6(P:Program)(ds:List (Option Tmp))(ws:List (List Nat))(old:List (Tmp×Value))(iA:World->Prop)(G:Nat->Value->World->Prop)(dead:Nat->Option Nat)(Init:World->Prop)(mR:Nat)(i:Nat)(o:Oper):Prop:=
 ∀(vals:Nat->Value)(w:World)(b:Operand->Value),iA w->(nT ws 8 mR i=true\/i=mR->Init w)->q7 ds G dead i vals w b o.after.toList->oB ds ws i b old->oC b->
  bh P b o w (Ao ws iA G dead Init mR i w)
def s8(P:Program)(ds:List (Option Tmp))(ws:List (List Nat))(old:List (Tmp×Value))(iA:World->Prop)(G:Nat->Value->World->Prop)(dead:Nat->Option Nat)(Init:World->Prop)(mR:Nat):Nat->List Oper->Prop
 |_,[]=>True
 |k,o::r=>y6 P ds ws old iA G dead Init mR k o/\s8 P ds ws old iA G dead Init mR (k+1) r
theorem s8.at{P:Program}{ds:List (Option Tmp)}{ws:List (List Nat)}{old:List (Tmp×Value)}{iA:World->Prop}{G:Nat->Value->World->Prop}{dead:Nat->Option Nat}{Init:World->Prop}{mR:Nat}:∀{l:List Oper}{k i:Nat}{o:Oper},s8 P ds ws old iA G dead Init mR k l->l[i]? =some o->y6 P ds ws old iA G dead Init mR (k+i) o
 |[],k,i,o,_,h=>by simp at h
 |x::l,k,0,o,hs,h=>by
  simp only[List.getElem?_cons_zero,Option.some.injEq] at h;subst h;exact hs.1
 |x::l,k,i+1,o,hs,h=>by
  rw[List.getElem?_cons_succ] at h;have:=s8.at hs.2 h
  rwa[show k+1+i=k+(i+1) by omega] at this
section
variable {P:Program}{l:List Oper}{Q:Exit->Act->World->Prop}{a:Act}{old:List (Tmp×Value)}{iA:World->Prop}{G:Nat->Value->World->Prop}{dead:Nat->Option Nat}{Init:World->Prop}{mR:Nat}
theorem K3{ds:List (Option Tmp)}{ws:List (List Nat)}(S:ws=l.map λ o:Oper=>(o.after.toList.filter (w_ .any)).map (·.on))(D:ds=l.map λ o:Oper=>o.dst)(E:rN l.toArray=true)(z:pT l.toArray=true)(T:rO l.toArray a.tmps.size=true)
  (hold:mV a.eval old)
  {i:Nat} {o:Oper} (p:l.toArray[i]? =some o) (F:y6 P ds ws old iA G dead Init mR i o) {listed:Array Bool} {vals:Nat->Value} {w:World} {K:Act->World->Prop} (aq:listed.size=l.toArray.size) (U:iA w) (hF:uy G dead (gQ listed) vals w) (H:gQ listed mR=false->Init w)
  (V:i∈Zy .any l.toArray listed) (hC:q9 ws (gQ listed))
  (W:∀v w',iA w'->q9 ws (gQ (listed.setIfInBounds i true))->uy G dead (gQ (listed.setIfInBounds i true)) (kH vals i v) w'->(gQ (listed.setIfInBounds i true) mR=false->Init w')->K (jM l.toArray (kH vals i v) (gQ (listed.setIfInBounds i true)) a l.toArray.size) w'):
  wpOp P l.toArray Q i K (jM l.toArray vals (gQ listed) a l.toArray.size) w:=by
 obtain⟨h1,I,X,J,M⟩:=uA V;obtain rfl:o=X:=by rw[p] at J;injection J
 have f:i<listed.size:=by omega
 have n:gQ listed i=false:=by
  unfold gQ;rw[z_,k_ f] at I⊢;simpa using I
 unfold wpOp;simp only[p];have Y:o.guard=none:=by
  unfold pT at z;rw[q_] at z;have:=z o (b_ p);simpa using this
 have hw:m_ o (yielded l.toArray (jM l.toArray vals (gQ listed) a l.toArray.size).tmps)=true:=by unfold m_;rw[Y]
 rw[if_pos hw];left;unfold y6 at F;have Z:=F vals w (jM l.toArray vals (gQ listed) a l.toArray.size).eval U (λ q=>H (by
  rcases q with q|q
  ·cases d:gQ listed mR with
   |false=>rfl
   |true=>
    have:=hC.reach 8 mR i d q;rw[n] at this;cases this
  ·rw[<-q];exact n)) (q7.of λ e he A=>by
  have hl:=M e (Array.mem_toList_iff.1 he) A;have aa:e.on<l.toArray.size:=by
   rcases Zz e.on listed.size with h|h
   ·omega
   ·rw[z_,Array.getElem?_eq_none h] at hl;cases hl
  refine⟨λ r=>hF e.on hl λ c d=>?_,λ s hs=>?_⟩
  ·rcases r with r|r
   ·rw[r] at d;cases d
   ·rw[r] at d;injection d with d
    rw[<-d];exact n
  ·rw[D,<-w8] at hs;exact yS hs (Bv T hs) hl (λ k hk=>w5 E hk hs) _ aa) (oB.of (λ s hs=>yR (λ j s' hl b B=>by
   injection B with B
   subst B;rw[w8,<-D] at b;have:=hC j i hl (Bu hs b);rw[n] at this;cases this) _) hold) (oC.act _)
 refine Z.wp λ v w' ⟨ab,ad,ae,af⟩=>?_
 have ag:(jM l.toArray vals (gQ listed) a l.toArray.size).put o.dst v=jM l.toArray (kH vals i v) (gQ (listed.setIfInBounds i true)) a l.toArray.size:=by
  rw[oP f];have ah:oA l.toArray i=o.dst:=by unfold oA;rw[p];rfl
  have:=zY (ops:=l.toArray) (vals:=vals) (L:=gQ listed) (a:=a) (i:=i) (v:=v) (λ j b s hs=>w5 E b hs) n l.toArray.size h1;rw[ah] at this;exact this
 rw[ag];have C:q9 ws (gQ (listed.setIfInBounds i true)):=by
  rw[oP f];intro j k b N;unfold lR at b⊢
  by_cases e:k=i
  ·rw[if_pos e]
  ·rw[if_neg e]
   by_cases g:j=i
   ·subst g;obtain⟨ar,u,ai,aj,A,ak⟩:=x5 S N;rw[p] at u;injection u with u
    subst u;have:=M ai aj A;rw[ak] at this;exact this
   ·rw[if_neg g] at b;exact hC j k b N
 have al:gQ (listed.setIfInBounds i true) mR=false->Init w':=λ h=>by
  rw[oP f] at h;unfold lR at h
  by_cases e:mR=i
  ·rw[if_pos e] at h;cases h
  ·rw[if_neg e] at h;refine af (λ g=>e g.symm) ?_ (H h)
   cases t:nT ws 8 i mR with
   |false=>rfl
   |true=>
    have m:=C.reach 8 i mR (by rw[oP f];unfold lR;rw[if_pos rfl]) t;rw[oP f] at m;unfold lR at m;rw[if_neg e,h] at m;cases m
 refine W v w' ab C (λ j b y=>?_) al;rw[oP f] at b y
 by_cases e:j=i
 ·subst e;have g:kH vals j v j=v:=by unfold kH;rw[if_pos rfl]
  rw[g];exact ad
 ·have g:kH vals i v j=vals j:=by unfold kH;rw[if_neg e]
  have an:lR (gQ listed) i j=gQ listed j:=by unfold lR;rw[if_neg e]
  rw[g];rw[an] at b;refine ae j _ e (λ ao=>?_) ?_ (λ c d=>?_) (hF j b λ c d=>?_)
  ·have:=y i ao;unfold lR at this;rw[if_pos rfl] at this;cases this
  ·cases t:nT ws 8 j i with
   |false=>rfl
   |true=>
    have:=hC.reach 8 j i b t;rw[n] at this;cases this
  ·cases t:nT ws 8 i c with
   |false=>rfl
   |true=>
    have O:=y c d;have m:=C.reach 8 i c (by rw[oP f];unfold lR;rw[if_pos rfl]) t;rw[oP f] at m;rw[m] at O;cases O
  ·have:=y c d;unfold lR at this
   by_cases R:c=i
   ·rw[if_pos R] at this;cases this
   ·rw[if_neg R] at this;exact this
def y7(ws:List (List Nat))(n:Nat):Bool:=(u_ n).all λ j=>nT ws 8 n j
theorem K4{ds:List (Option Tmp)}{ws:List (List Nat)}(y:ws=l.map λ o:Oper=>(o.after.toList.filter (w_ .any)).map (·.on))(J:ds=l.map λ o:Oper=>o.dst)(n:Nat)(hlen:l.length=n+1)(K:rN l.toArray=true)(q:pT l.toArray=true)(L:rO l.toArray a.tmps.size=true)(M:tN l.toArray=true)(t:y7 ws n=true)(hold:mV a.eval old)
  (N:s8 P ds ws old iA G dead Init mR 0 (l.take n))
  (O:∀o vals w,l[n]? =some o->iA w->(∀j,j<n->dead j=none->G j (vals j) w)->bh P (jM l.toArray vals (mD n) a n).eval o w λ v w'=>Q .normal ((jM l.toArray vals (mD n) a n).put o.dst v) w'):
  ∀(fuel:Nat)(listed:Array Bool)(vals:Nat->Value)(w:World),listed.size=l.toArray.size->oD l.toArray listed<=fuel->0<oD l.toArray listed->gQ listed n=false->q9 ws (gQ listed)->iA w->uy G dead (gQ listed) vals w->(gQ listed mR=false->Init w)->
   wpAny P .any l.toArray Q fuel listed (jM l.toArray vals (gQ listed) a l.toArray.size) w:=by
 intro fuel
 induction fuel with
 |zero=>intro listed vals w p R S;omega
 |succ fuel T=>
  intro listed vals w p R S z hC A hF U;refine⟨λ h=>by have:=Bx M p h;omega,λ i B=>?_⟩;obtain⟨h1,V,o,d,W⟩:=uA B;have C:i<listed.size:=by omega
  have ao:i<l.length:=by simpa using h1
  have D:l[i]? =some o:=by rw[List.getElem?_toArray] at d;exact d
  by_cases E:i=n
  ·subst E;have F:∀k,q8 ws i k=true->gQ listed k=true:=λ k h=>by
    obtain⟨aq,s,e,he,X,Y⟩:=x5 y h;rw[d] at s;injection s with s
    subst s;have:=W e he X;rw[Y] at this;exact this
   have u:∀j,j<i->gQ listed j=true:=λ j f=>by
    unfold y7 at t;simp only[i_,List.mem_range] at t;have b:=t j f;unfold nT at b;rw[c_] at b;rcases b with b|b
    ·exact F j b
    ·obtain⟨k,hk,Z⟩:=List.any_eq_true.1 b;exact hC.reach 7 k j (F k (by unfold q8;simpa using hk)) Z
   have aa:jM l.toArray vals (gQ listed) a l.toArray.size=jM l.toArray vals (mD i) a i:=by
    have ab:l.toArray.size=i+1:=by simp[hlen]
    rw[ab];simp only[jM];rw[z];simp only[Bool.false_eq_true,if_false];exact z7 i λ j f=>by rw[u j f];unfold mD;simp[f]
   rw[aa];unfold wpOp;simp only[d];have ad:o.guard=none:=by
    unfold pT at q;rw[q_] at q;have:=q o (b_ d);simpa using this
   have hw:m_ o (yielded l.toArray (jM l.toArray vals (mD i) a i).tmps)=true:=by unfold m_;rw[ad]
   rw[if_pos hw];left;refine(O o vals w D A λ j f ae=>hF j (u j f) λ c H=>by rw[ae] at H;cases H).wp λ v w' af=>?_
   refine wpAny_done ?_ af _;rcases ag:Zy .any l.toArray (listed.setIfInBounds i true) with _|⟨k,r⟩
   ·rfl
   ·have hk:k∈Zy .any l.toArray (listed.setIfInBounds i true):=by rw[ag];simp
    obtain⟨b,g,_⟩:=uA hk;exfalso;have ar:k<i+1:=by simpa[hlen] using b
    by_cases e:k=i
    ·subst e;rw[z_,Array.getElem?_setIfInBounds_self_of_lt C] at g
     cases g
    ·have m:=u k (by omega);rw[z_,Array.getElem?_setIfInBounds_ne (λ x=>e x.symm)] at g;unfold gQ at m;rw[z_] at m;have ah:k<listed.size:=by omega
     rw[k_ ah] at g m;simp at g m;rw[g] at m;cases m
  ·have ai:y6 P ds ws old iA G dead Init mR i o:=by
    have b:(l.take n)[i]? =some o:=by rw[List.getElem?_take,if_pos (by omega)];exact D
    have:=s8.at N b
    rwa[h_] at this
   refine K3 y J K q L hold d ai p A hF U B hC λ v w' aj ak al an=>?_
   have I:gQ (listed.setIfInBounds i true) n=false:=by
    rw[oP C];unfold lR;rw[if_neg (λ e=>E e.symm)];exact z
   refine T _ _ w' (by simp[p]) (by have:=Bw (ops:=l.toArray) h1 V;omega) ?_ I ak aj al an;rcases n_ (oD l.toArray (listed.setIfInBounds i true)) with b|b
   ·have:=w9 (ops:=l.toArray) (listed:=listed.setIfInBounds i true) (by simp[p]) b n (by simp[hlen]);rw[I] at this;cases this
   ·exact b
end
theorem yg(l:List Oper)(n N:Nat)(ds:List (Option Tmp))(ws:List (List Nat))(old:List (Tmp×Value))(iA:World->Prop)(G:Nat->Value->World->Prop)(dead:Nat->Option Nat)(Init:World->Prop)(mR:Nat)
  (q:ops=l.toArray) (hm:P.follows .mixedOrders=true)
  (m:ds=l.map λ o:Oper=>o.dst) (r:ws=l.map λ o:Oper=>(o.after.toList.filter (w_ .any)).map (·.on)) (hlen:l.length=n+1) (s:rN l.toArray=true) (t:pT l.toArray=true) (u:tN l.toArray=true) (y:y7 ws n=true) (z:rO l.toArray N=true)
  (A:a.tmps.size=N) (hold:mV a.eval old) (B:iA w.drew) (C:Init w.drew)
  (D:s8 P ds ws old iA G dead Init mR 0 (l.take n))
  (ol:Oper) (E:l[n]? =some ol) (F:∀vals w,iA w->(∀j,j<n->dead j=none->G j (vals j) w)->∀f,mJ (ds.take n) 0 vals a=f->bh P f.eval ol w λ v w'=>Q .normal (f.put ol.dst v) w'):(Code.region id ops true).wp P Q a w:=by
 subst q;subst A;refine wp_region_any hm ?_;have H:∀o vals w,l[n]? =some o->iA w->(∀j,j<n->dead j=none->G j (vals j) w)->bh P (jM l.toArray vals (mD n) a n).eval o w λ v w'=>Q .normal ((jM l.toArray vals (mD n) a n).put o.dst v) w':=by
  intro o vals w d I J;rw[E] at d;injection d with d
  subst d;rw[z6 l vals a n n (o_ _) (by omega),<-m];exact F vals w I J _ rfl
 have b:∀k,gQ (t_ l.toArray.size false) k=false:=λ k=>by
  unfold gQ;rw[z_,Array.getElem?_replicate];split<;>rfl
 have e:a=jM l.toArray (λ _=>undef) (gQ (t_ l.toArray.size false)) a l.toArray.size:=by
  have:∀k,jM l.toArray (λ _=>undef) (gQ (t_ l.toArray.size false)) a k=a:=by
   intro k
   induction k with
   |zero=>rfl
   |succ k K=>
    simp only[jM];rw[b k,K];simp
  exact(this _).symm
 have p:=K4 (P:=P) (Q:=Q) (a:=a) (iA:=iA) (G:=G) (dead:=dead) (Init:=Init) (mR:=mR) r m n hlen s t z u y hold D H l.toArray.size (t_ l.toArray.size false) (λ _=>undef) w.drew (by simp)
  (by unfold oD;exact Nat.le_trans (List.length_filter_le _ _) (by simp)) ?_ (b n) (λ j i c=>by rw[b j] at c;cases c) B (λ j c=>by rw[b j] at c;cases c) (λ _=>C)
 ·rw[<-e] at p;exact p
 ·rcases n_ (oD l.toArray (t_ l.toArray.size false)) with g|g
  ·have:=w9 (ops:=l.toArray) (listed:=t_ l.toArray.size false) (by simp) g n (by simp[hlen]);rw[b n] at this;cases this
  ·exact g
end
section
open Go.RowKit
def xm:Code->Nat->Option (List Oper)
 | .region id ops _,k=>if id=k then some ops.toList else none
 | .seq x y,k=>(xm x k).or (xm y k)
 | .cond _ x y,k=>(xm x k).or (xm y k)
 | .block _ x,k=>xm x k
 | .loop x,k=>xm x k
 | .scope x,k=>xm x k
 |_,_=>none
def DD(f:Func)(k:Nat):List Oper:=(f.body.bind λ c=>xm c k).getD []
def mz(ds:List (Option Tmp))(cs:List Value)(b c:Nat)(d:Operand->Value):List Edge->Prop
 |[]=>True
 |e::r=>(w_ .any e=true->e.on≠b->e.on≠c->∀s,p9 ds e.on=some s->d (.tmp s)=cs.getD e.on undef)/\mz ds cs b c d r
def K5(P:Program)(ds:List (Option Tmp))(ws:List (List Nat))(old:List (Tmp×Value))(S:World->Prop)(cs:List Value)(c:World)(jb iE i:Nat)(o:Oper):Prop:=
 ∀(b:Operand->Value)(w:World),S w->(nT ws 8 jb i=true->w=c)->mz ds cs jb iE b o.after.toList->mV b old->oC b->bh P b o w λ v w'=>v=cs.getD i undef/\w'=w
def vA(P:Program)(ds:List (Option Tmp))(ws:List (List Nat))(old:List (Tmp×Value))(S:World->Prop)(cs:List Value)(b:World)(jb iE:Nat):Nat->List Oper->Prop
 |_,[]=>True
 |k,o::r=>(k≠jb->k≠iE->K5 P ds ws old S cs b jb iE k o)/\vA P ds ws old S cs b jb iE (k+1) r
def yh(ds:List (Option Tmp))(old:List (Tmp×Value)):Bool:=old.all λ p=>ds.all λ d=>d !=some p.1
theorem K6{ds:List (Option Tmp)}{s:Tmp}(h:(ds.all λ d=>d !=some s)=true):uz ds ws i s=true:=by
 unfold uz;rw[i_];intro j b;rw[List.mem_range] at b;rw[i_] at h;have:=h ds[j] (List.getElem_mem b);rw[c_];left;unfold p9;rw[s_,g_ b];exact this
theorem oB.ok{ds:List (Option Tmp)}{ws:List (List Nat)}{i:Nat}{aq:Operand->Value}:∀{old:List (Tmp×Value)},yh ds old=true->oB ds ws i aq old->mV aq old
 |[],_,_=>trivial
 |p::r,h,b=>by
  unfold yh at h;rw[List.all_cons,f_] at h;exact⟨b.1 (K6 h.1),oB.ok (old:=r) h.2 b.2⟩
theorem bQ.mono{P:Program}{p q:Value->World->Prop}(b:∀v w,p v w->q v w):∀{r:Result Next},bQ P p r->bQ P q r:=by
 intro r h;unfold bQ at*;split at h<;>first|exact b _ _ h|exact Calls.mono h (λ e w' ⟨v,h1,c⟩=>⟨v,h1,b _ _ c⟩)|exact h.elim
theorem bh.mono{P:Program}{aq:Operand->Value}{o:Oper}{w:World}{p q:Value->World->Prop}(h:bh P aq o w p)(b:∀v w,p v w->q v w):bh P aq o w q:=bQ.mono b h
theorem rP{aq:Operand->Value}{post:Value->World->Prop}(f:FuncId)(xs:Array Operand)(b:Array TypeId)(c:o.op=.call {callee:=.value (.func f),args:=xs,argTypes:=b})(he:∀args w,(callFunc f args).run P w=.ok (.enter f args) w)(hp:oC aq)
  (h:Calls P f (xs.map aq) w λ e w'=>∃v,e=.returned v/\post v w'):bh P aq o w post:=by
 unfold bh;simp only[execOp,c,resolve,hp.2.2 f,Deferred.ofValue,invoke,Zx,Zw,l_,Array.append_empty,Array.empty_append,he,bQ];exact h
section
variable {P:Program}{ds:List (Option Tmp)}{ws:List (List Nat)}{old:List (Tmp×Value)}{S:World->Prop}{cs:List Value}{jb iE:Nat}{iH:World}{aL:Value->World->Prop}
def nB(cs:List Value)(jb iE:Nat)(iH:World)(aL:Value->World->Prop)(j:Nat)(v:Value)(w:World):Prop:=
 if j=iE then aL v w else if j=jb then v=cs.getD jb undef/\w=iH else v=cs.getD j undef
def s9(jb iE:Nat)(j:Nat):Option Nat:=if j=jb then some iE else none
theorem mz.of{i:Nat}{vals:Nat->Value}{w:World}{aq:Operand->Value}(c:i≠iE):∀{l:List Edge},q7 ds (nB cs jb iE iH aL) (s9 jb iE) i vals w aq l->mz ds cs jb iE aq l
 |[],_=>trivial
 |e::r,h=>⟨λ d h1 f s hs=>by
  obtain⟨b,g⟩:=h.1 d;have b:=b (Or.inl (if_neg h1));unfold nB at b;rw[if_neg f,if_neg h1] at b;rw[g s hs,b],mz.of c h.2⟩
theorem mz.BO{vals:Nat->Value}{w:World}{aq:Operand->Value}(f:jb≠iE):∀{l:List Edge},q7 ds (nB cs jb iE iH aL) (s9 jb iE) iE vals w aq l->mz ds cs iE iE aq l
 |[],_=>trivial
 |e::r,h=>⟨λ g h1 _ s hs=>by
  obtain⟨b,i⟩:=h.1 g;have b:=b (by unfold s9;by_cases d:e.on=jb;exact .inr (if_pos d);exact .inl (if_neg d));unfold nB at b;rw[if_neg h1] at b;rw[i s hs]
  by_cases c:e.on=jb
  ·rw[if_pos c] at b;rw[b.1,c]
  ·rw[if_neg c] at b;exact b,mz.BO f h.2⟩
theorem mz.world{vals:Nat->Value}{w:World}{aq:Operand->Value}(c:jb≠iE):∀{l:List Edge},(l.any λ e=>w_ .any e&&e.on==jb)=true->q7 ds (nB cs jb iE iH aL) (s9 jb iE) iE vals w aq l->w=iH
 |[],h,_=>by cases h
 |e::r,h,d=>by
  rw[List.any_cons,c_] at h;rcases h with h|h
  ·rw[f_,beq_iff_eq] at h;have b:=(d.1 h.1).1 (.inr (by unfold s9;rw[if_pos h.2]));unfold nB at b;rw[if_neg (by rw[h.2];exact c),if_pos h.2] at b;exact b.2
  ·exact mz.world c h d.2
theorem Gv{kz:World}(i:jb≠iE)(y:yh ds old=true)(d:nT ws 8 iE jb=true)
  (I:S kz) (z:S iH) (A:∀v w',aL v w'->S w') {l:List Oper}
  (B:∀o,l[iE]? =some o->(o.after.toList.any λ e=>w_ .any e&&e.on==jb)=true)
  (C:∀o,l[jb]? =some o->∀b,mz ds cs jb iE b o.after.toList->mV b old->oC b->bh P b o kz λ v w'=>v=cs.getD jb undef/\w'=iH)
  (D:∀o,l[iE]? =some o->∀b,mz ds cs iE iE b o.after.toList->mV b old->oC b->bh P b o iH aL)
  (J:vA P ds ws old S cs kz jb iE 0 l):
  ∀(r:List Oper)(k:Nat),(∀j,r[j]? =l[k+j]?)->vA P ds ws old S cs kz jb iE k r->s8 P ds ws old S (nB cs jb iE iH aL) (s9 jb iE) (λ w=>w=kz) jb k r
 |[],_,_,_=>trivial
 |o::r,k,hl,hs=>by
  refine⟨?_,Gv i y d I z A B C D J r (k+1) (λ j=>by rw[<-show(o::r)[j+1]? =r[j]? from rfl,hl (j+1)];congr 1;omega) hs.2⟩;intro vals w b E F f K hp;have m:=oB.ok y K;have n:l[k]? =some o:=by have:=hl 0;simpa using this.symm
  by_cases c:k=iE
  ·subst c;have hw:=mz.world i (B o n) f;subst hw;have g:=D o n b (mz.BO i f) m hp;refine bh.mono g λ v w' h=>⟨A v w' h,by unfold nB;rw[if_pos rfl];exact h,λ j u p L _ _ q=>?_,λ _ G=>by rw[d] at G;cases G⟩
   unfold nB at*;rw[if_neg p] at*;have s:j≠jb:=λ e=>L (by unfold s9;rw[if_pos e])
   rw[if_neg s] at*;exact q
  ·by_cases t:k=jb
   ·subst t;have hw:=F (.inr rfl);subst hw;have g:=C o n b (mz.of c f) m hp;refine bh.mono g λ v w' h=>?_
    obtain⟨rfl,rfl⟩:=h;refine⟨z,by unfold nB;rw[if_neg c,if_pos rfl];exact⟨rfl,rfl⟩,λ j u p _ H _ q=>?_,λ h=>absurd rfl h⟩;have s:j≠iE:=λ e=>by rw[e,d] at H;cases H
    unfold nB at*;rw[if_neg s,if_neg p] at*;exact q
   ·have g:=hs.1 t c b w E (λ d=>F (.inl d)) (mz.of c f) m hp;refine bh.mono g λ v w' h=>?_
    obtain⟨rfl,rfl⟩:=h;exact .same E (by unfold nB;rw[if_neg c,if_neg t])
end
theorem Ap(l:List Oper)(n jb iE N:Nat)(ds:List (Option Tmp))(ws:List (List Nat))(old:List (Tmp×Value))(S:World->Prop)(cs:List Value)(iH:World)(aL:Value->World->Prop)
  (z:ops=l.toArray) (hm:P.follows .mixedOrders=true)
  (A:ds=l.map λ o:Oper=>o.dst) (B:ws=l.map λ o:Oper=>(o.after.toList.filter (w_ .any)).map (·.on)) (hlen:l.length=n+1) (p:(rN l.toArray&&pT l.toArray&&tN l.toArray&&y7 ws n&&rO l.toArray N&&yh ds old&&nT ws 8 iE jb&&decide (jb<iE)&&decide (iE<n)&&((l.getD iE default).after.toList.any λ e=>w_ .any e&&e.on==jb))=true)
  (C:a.tmps.size=N) (hold:mV a.eval old) (q:S w.drew) (D:S iH) (E:∀v w',aL v w'->S w')
  (F:∀b,mz ds cs jb iE b (l.getD jb default).after.toList->mV b old->oC b->bh P b (l.getD jb default) w.drew λ v w'=>v=cs.getD jb undef/\w'=iH)
  (G:∀b,mz ds cs iE iE b (l.getD iE default).after.toList->mV b old->oC b->bh P b (l.getD iE default) iH aL)
  (s:vA P ds ws old S cs w.drew jb iE 0 (l.take n))
  (H:∀u v w',aL v w'->∀c,mJ (ds.take n) 0 (kH (kH (λ j=>cs.getD j undef) jb u) iE v) a=c->bh P c.eval (l.getD n default) w' λ v w'=>Q .normal (c.put (l.getD n default).dst v) w'):(Code.region id ops true).wp P Q a w:=by
 simp only[f_,decide_eq_true_eq] at p;obtain⟨⟨⟨⟨⟨⟨⟨⟨⟨c1,c2⟩,c3⟩,I⟩,J⟩,K⟩,L⟩,Z⟩,M⟩,O⟩:=p;have m:∀k o,l[k]? =some o->l.getD k default=o:=λ k o h=>by rw[s_,h];rfl
 have gt:∀k o,(l.take n)[k]? =some o->l[k]? =some o/\k<n:=λ k o h=>by
  rw[List.getElem?_take] at h;split at h
  ·exact⟨h,by assumption⟩
  ·cases h
 have R:l[n]? =some (l.getD n default):=by rw[s_,g_ (by omega)];rfl
 refine yg l n N ds ws old S (nB cs jb iE iH aL) (s9 jb iE) (λ w'=>w'=w.drew) jb z hm A B hlen c1 c2 c3 I J C hold q rfl (Gv (l:=l.take n) (by omega) K L q D E ?_ ?_ ?_ s _ 0 (λ j=>by rw[h_]) s) _ R ?_
 ·intro o h;rw[<-m _ _ (gt _ _ h).1];exact O
 ·intro o h;rw[<-m _ _ (gt _ _ h).1];exact F
 ·intro o h;rw[<-m _ _ (gt _ _ h).1];exact G
 ·intro vals w' aa t c T;have U:∀j,j<n->vals j=kH (kH (λ j=>cs.getD j undef) jb (vals jb)) iE (vals iE) j:=λ j V=>by
   unfold kH
   by_cases e:j=iE
   ·rw[if_pos e,e]
   ·rw[if_neg e]
    by_cases i:j=jb
    ·rw[if_pos i,i]
    ·rw[if_neg i];have:=t j V (if_neg i);unfold nB at this
     rwa[if_neg e,if_neg i] at this
  have W:aL (vals iE) w':=by
   have:=t iE M (if_neg (by omega));unfold nB at this
   rwa[if_pos rfl] at this
  refine H (vals jb) (vals iE) w' W c ?_;rw[<-T];have X:∀(r:List (Option Tmp))(k:Nat)(f g:Nat->Value)(a:Act),(∀j,k<=j->j<k+r.length->f j=g j)->mJ r k f a=mJ r k g a:=by
   intro r
   induction r with
   |nil=>intros;rfl
   |cons d r Y=>
    intro k f g a h;rw[mJ,mJ,h k (o_ _) (by rw[e_];omega)];exact Y _ _ _ _ λ j h1 y=>h j (by omega) (by rw[e_];omega)
  exact(X _ _ _ _ _ λ j _ y=>U j (by rw[List.length_take] at y;omega)).symm
end
section
open Go.RowKit Go.Shelf
def uC(s:au)(l:List Int)(d:Nat):Nat->au
 |0=>s
 |j+1=>(uC s l d j).pY (jR (-(ak l j))) (az (uC s l d j).c.wt (jR (-(ak l j)))++[d])
theorem Gw(s:au)(l:List Int)(d:Nat):uC s l d 2={s with c:={s.c with wt:=wV s.c.wt l d}}:=rfl
theorem BP:∀args w,(callFunc 181 args).run v_ w=.ok (.enter 181 args) w:=enters_of Tryz.func181 (by kernel_rfl) rfl
theorem Gx(s:au)(l:List Int)(d:Nat):∀j,(uC s l d j).c.wt.length=s.c.wt.length
 |0=>rfl
 |j+1=>by show(List.set _ _ _).length=_;rw[y_];exact Gx s l d j
theorem Gy(s:au)(l:List Int)(d:Nat):∀j,(uC s l d j).c.cl=s.c.cl
 |0=>rfl
 |j+1=>Gy s l d j
theorem Gz(s:au)(l:List Int)(d k:Nat):∀j,(az (uC s l d j).c.wt k).length<=(az s.c.wt k).length+j
 |0=>o_ _
 |j+1=>by
  have:=Gz s l d k j;show(az (List.set _ _ _) k).length<=_;rw[qE];split
  ·rename_i h;rw[List.length_append,h.1];simp only[List.length_singleton];omega
  ·omega
def K7(K:Nat->Prop)(base:Nat)(w:World)(G:Nat)(cb:Nat->Nat)(s s':au)(e:Ending)(w':World):Prop:=
 e=.returned (.tuple #[])/\∃hs',bf K base w' G hs' cb s'/\aG K w w'
def K8(K:Nat->Prop)(base:Nat)(w:World)(G:Nat)(cb:Nat->Nat)(s s':au)(d:Nat)(b:ay)(e:Ending)(w':World):Prop:=
 e=.returned (.tuple #[])/\∃hs',bf K base w' G hs' cb s'/\aG K w w'/\hs' (kO d)=b
theorem GA(h:bf K base w G hs cb s){d:Nat}(f:d<s.c.cl.length)(z:2<=(az s.c.cl d).length)(hl:∀x∈az s.c.cl d,gP s.c.n x)(a7:s.c.n<=60000)(ah:s.c.wt.length=2*s.c.n+2)(B:∀k,(az s.c.wt k).length<=1000000):
  Calls v_ 180 #[.pointer (some ⟨G,0,none⟩),.pointer (some ⟨cb d,0,none⟩)] w (K8 K base w G cb s (uC s (az s.c.cl d) d 2) d (hs (kO d))):=by
 obtain⟨ai,-,-,-,aE⟩:=h.Ai f;obtain⟨m0,I⟩:∃m0,(az s.c.cl d).length=m0:=⟨_,rfl⟩
 obtain⟨bL,aF,S,aj⟩:=h.e.xb (r:=kO d) (m:=m0) ((h.e.An d).trans I) (by omega);have cap:=h.e.yb S;rw[h.e.An,I] at cap;rw[aj] at ai;obtain⟨T,al⟩:∃T,(hs (kO d)).c=T:=⟨_,rfl⟩
 rw[al] at ai cap;have lc:(2:Int)<=(T:Int):=by omega
 have H:=U h;have aH:=U S;have L:=U (x_ I (x_ hl (x_ f (x_ z (x_ ah B)))));clear h S I hl f z ah B aj aF al aE;go_enter Tryz.func180,Tryz.ntmps180
 go_wp2_with fail
 go_loopw [5,12] (λ _ V W=>∃(j:Nat)(i:Nat->ay),j<=2/\V=.int .i64 j/\i 0=hs 0/\i (kO d)=hs (kO d)/\bf K base W G i cb (uC s (az s.c.cl d) d j)/\aG K w W) (λ _ V _=>2-(intOf V).toNat)
 case atStart=>exact⟨0,hs,by omega,rfl,rfl,rfl,H.o,aG.refl⟩
 case round=>
  obtain⟨j,i,aI,rfl,an,h1,ao,hF⟩:=hrel;have E:=U ao;have F:=U hF;have J:=U (x_ an h1);clear ao hF an h1
  by_cases aq:j<2
  ·have aJ:(j:Int)<2:=by omega
   have ar:=U aq;obtain⟨s1,C⟩:∃s1,uC s (az s.c.cl d) d j=s1:=⟨_,rfl⟩
   have y:bF (bf K base wr G i cb s1):=U (C▸E.o);have M:s1.c.cl=s.c.cl:=by rw[<-C];exact Gy _ _ _ _
   have B:s1.c.wt.length=2*s.c.n+2:=by rw[<-C,Gx];exact L.o.2.2.2.2.1
   obtain⟨x,N⟩:∃x,ak (az s.c.cl d) j=x:=⟨_,rfl⟩
   have Y:j<(az s.c.cl d).length:=by have:=L.o;omega
   have Z:gP s.c.n x:=by rw[<-N];exact L.o.2.1 _ (mc Y)
   have a8: -60000<=x/\x<=60000:=by have:=Z.2;unfold aD at this;omega
   obtain⟨k,hk⟩:∃k:Nat,jR (-x)=k:=⟨_,rfl⟩
   have aK:k<2*s.c.n+2:=by rw[<-hk];exact Z.neg.at
   have av:(i (kO d)).b=some bL:=by rw[J.o.2];exact aH.o
   have aL:=y.o.e.yf av (k:=j) (by rw[M];exact Y);rw[M,N] at aL;obtain⟨g0,aa,aM,f0⟩:=y.o.e.l7 1 0 rfl (y.o.e.kL.trans B) (by omega);have O:=y.o.e.ye aa (k:=k) (by omega);obtain⟨l,g,p,P⟩:∃A n c,i (iI k)=⟨A,n,c⟩:=⟨_,_,_,rfl⟩
   have ab:g=(az s1.c.wt k).length:=by have:=y.o.e.Am k;rw[P] at this;exact this
   rw[P] at O;have O:wr.cell? ⟨g0,k,none⟩=some (.slice l g p):=O;have aw:g<=1000002:=by rw[ab,<-C];have:=Gz s (az s.c.cl d) d k j;have:=L.o.2.2.2.2.2 k;omega
   have wn:IntKind.i64.wrap (-x)= -x:=IntWalk.i64_in _ (by omega);have ax:(k:Int)<2*(s.c.n:Int)+2:=by omega
   have D:=U aa;have X:=U (x_ C (x_ N (x_ hk (x_ P (x_ ab (x_ aw (x_ M B)))))));clear aI aq C N Y Z hk aK av aa P ab aw M B
   go_upto_region 3 with fail
   have q:=U (y.o.below ((bC wr (.cells #[.pointer (some ⟨cb d,0,none⟩)] 164)).drew));have hp:((wr.alloc (.cells #[.pointer (some ⟨cb d,0,none⟩)] 164)).drew).cell? ⟨wr.heap.size,0,none⟩=some (.pointer (some ⟨cb d,0,none⟩)):=by go_simp
   have aN:=U (rq.one hp);have aO:bF (((wr.alloc (.cells #[.pointer (some ⟨cb d,0,none⟩)] 164)).drew).ownsRow base 164 1 (.slice l g p) g (k7 cb (az s1.c.wt k))):=U (by
    have:=q.o.1.e.rows.row (iI k);rw[Dz,Al,X.o.2.2.2.1,wk] at this;exact this)
   have aP:=U (Nat.le_of_lt q.o.1.e.lt);clear hp;have ad:bF (k<s1.c.wt.length):=U (by rw[X.o.2.2.2.2.2.2.2];have:=ax;omega);have aQ:bF (∀w:World,Calls v_ 181 #[.int .i64 (-x)] w λ e w'=>e=.returned (.int .i64 (k:Int))/\w=w'):=U (λ w=>by have:=Dm (-x) w (by omega) (by omega);rw[X.o.2.2.1] at this;exact this);have aR:bF (uC s (az s.c.cl d) d (j+1)=s1.pY k (az s1.c.wt k++[d])):=U (by show(uC s (az s.c.cl d) d j).pY _ _=_;rw[X.o.1,X.o.2.1,X.o.2.2.1]);have a':G≠g0:=y.o.e.ux 0 g0 D.o;have aS:wr.drew.cell? ⟨g0,k,none⟩=some (.slice l g p):=O;have Q:=q.o.1.e.ye D.o (k:=k) ad.o;rw[X.o.2.2.2.1] at Q;have Q:((wr.alloc (.cells #[.pointer (some ⟨cb d,0,none⟩)] 164)).drew).cell? ⟨g0,k,none⟩=some (.slice l g p):=Q;have ae:=q.o.1.e.ri 1 D.o (q.o.1.e.kL.trans X.o.2.2.2.2.2.2.2) rfl;have aT:wr.drew.cell? ⟨G,1,none⟩=some (.slice (some ⟨g0,0,none⟩) (2*s.c.n+2) (i 0).c):=aM;have ba:((wr.alloc (.cells #[.pointer (some ⟨cb d,0,none⟩)] 164)).drew).heap.size=wr.heap.size+1:=by simp
   refine Ap (qb Tryz.f180 3) 20 17 18 37 [some 16,some 17,some 18,some 19,some 20,some 21,some 22,some 23,some 24,some 25,some 26,some 27,some 28,some 29,some 30,some 31,some 32,some 33,some 34,some 35,none] _ [(0,.pointer (some ⟨G,0,none⟩)),(1,.pointer (some ⟨(cb d),0,none⟩)),(5,.int .i64 x)] (λ w':World=>w'.cell? ⟨G,1,none⟩=some (.slice (some ⟨g0,0,none⟩) (2*s.c.n+2) (i 0).c)/\w'.cell? ⟨g0,k,none⟩=some (.slice l g p)) [.pointer (some ⟨G,0,none⟩),.pointer (some ⟨G,0,none⟩),.pointer (some ⟨G,1,none⟩),.slice (some ⟨g0,0,none⟩) (2*s.c.n+2) (i 0).c,.int .i64 x,.int .i64 (-x),.int .i64 (k:Int),.pointer (some ⟨G,0,none⟩),.pointer (some ⟨G,0,none⟩),.pointer (some ⟨G,1,none⟩),.slice (some ⟨g0,0,none⟩) (2*s.c.n+2) (i 0).c,.int .i64 x,.int .i64 (-x),.int .i64 (k:Int),.pointer (some ⟨g0,k,none⟩),.slice l g p,.pointer (some ⟨(cb d),0,none⟩),.slice (some ⟨wr.heap.size,0,none⟩) 1 1,undef,.pointer (some ⟨g0,k,none⟩)] ((wr.alloc (.cells #[.pointer (some ⟨cb d,0,none⟩)] 164)).drew) (λ v w'=>mY ((wr.alloc (.cells #[.pointer (some ⟨cb d,0,none⟩)] 164)).drew) base 164 (.slice l g p) (g+1) (k7 cb (az s1.c.wt k)++[.pointer (some ⟨cb d,0,none⟩)]) v w') (by kernel_rfl) (by kernel_rfl) (by kernel_rfl) rfl (by kernel_rfl) (by kernel_rfl) rfl ⟨rfl,rfl,rfl,trivial⟩ ⟨aT,aS⟩ ⟨ae,Q⟩ (λ v w' af=>?_) (λ t f R hp=>?_) (λ t f R hp=>?_) ?_ ?_
   ·obtain⟨A',c',rfl,aA,ag,-⟩:=bf.DC (d:=d) q.o.1 D.o ad.o X.o.2.2.2.1 X.o.2.2.2.2.1 ae af;exact⟨aA,ag⟩
   ·obtain⟨-,aB,-⟩:=R;have f:t (.tmp 32)=_:=(f.1 rfl (by decide) (by decide) _ rfl)
    change t (.tmp 32)=.pointer (some ⟨cb d,0,none⟩) at f;show bh _ _ (Oper.mk _ _ _ _ _ _) _ _;simp[bh,execOp,bQ,go_sem,f]
   ·have h1:t (.tmp 31)=.slice l g p:=f.1 rfl (by decide) (by decide) _ rfl;have z:t (.tmp 33)=.slice (some ⟨wr.heap.size,0,none⟩) 1 1:=f.2.1 rfl (by decide) (by decide) _ rfl;obtain⟨v',w',g1,g2⟩:=Dt ((wr.alloc (.cells #[.pointer (some ⟨cb d,0,none⟩)] 164)).drew) 160 base (.slice l g p) g (k7 cb (az s1.c.wt k)) aO.o (some ⟨wr.heap.size,0,none⟩) 1 1 _ aN.o (by have:=X.o.2.2.2.2.2.1;omega) aP.o;show bh _ _ (Oper.mk _ _ _ _ _ _) _ _;simp only[bh,execOp,resolve,invoke,builtin,Zx,Zw,l_,List.map_toArray,List.map_cons,List.map_nil,h1,z,g1,bQ];exact g2
   ·refine⟨?_,?_,?_,?_,?_,?_,?_,?_,?_,?_,?_,?_,?_,?_,?_,?_,?_,?_,?_,?_,trivial⟩
    all_goals
     intro h1 z t w aU _ f R hp
     first
      |exact absurd rfl h1
      |exact absurd rfl z
      |(obtain⟨aV,aB,aW,-⟩:=R;obtain⟨s1,s2⟩:=aU;(try simp[mz,p9,w_] at f);simp[bh,execOp,bQ,go_sem,aV,aB,aW,f,s1,s2,wn,ax];done)
      |((try simp[mz,p9,w_] at f);(first|refine rP 181 #[.tmp 21] #[3] rfl BP hp ?_|refine rP 181 #[.tmp 28] #[3] rfl BP hp ?_);(first|rw[show(#[Operand.tmp 21].map t)= #[.int .i64 (-x)] by simp[f]]|rw[show(#[Operand.tmp 28].map t)= #[.int .i64 (-x)] by simp[f]]);exact(aQ.o w).mono λ e w' h=>⟨_,h.1,rfl,h.2.symm⟩)
   intro u v9 bE af bb aC;obtain⟨A',c',rfl,aA,ag,f9,aX,aY⟩:=bf.DC (d:=d) q.o.1 D.o ad.o X.o.2.2.2.1 X.o.2.2.2.2.1 ae af;have aZ:=f9 k;simp[mJ,Act.put,kH] at aC;subst aC;show bh _ _ (Oper.mk _ _ _ _ _ _) _ _;simp[bh,execOp,bQ,go_sem,Act.eval,ag,aZ];have a6:=F.o.trans (q.o.2.trans aY);have bc:IntKind.i64.wrap ((j:Int)+1)=(j:Int)+1:=IntWalk.i64_in _ (by omega);go_wp2;go_roundw
   case rel=>exact⟨j+1,_,by have:=ar.o;omega,by go_num,(bq _ _ (show(0:Nat)≠iI k by unfold iI;omega)).trans J.o.1,(bq _ _ (show kO d≠iI k by unfold iI kO;omega)).trans J.o.2,by rw[aR.o];exact aX,a6⟩
   case measure=>have:=ar.o;simp[intOf];omega
  ·obtain rfl:j=2:=by omega
   have aJ:¬((2:Nat):Int)<2:=by omega
   go_wp2_with fail
   go_end0;exact⟨rfl,i,E.o,F.o,J.o.2⟩
theorem K9(h:bf K base w G hs cb s){d:Nat}(f:d<s.c.cl.length)(b:2<=(az s.c.cl d).length)(hl:∀x∈az s.c.cl d,gP s.c.n x)(g:s.c.n<=60000)(i:s.c.wt.length=2*s.c.n+2)(j:∀k,(az s.c.wt k).length<=1000000):
  Calls v_ 180 #[.pointer (some ⟨G,0,none⟩),.pointer (some ⟨cb d,0,none⟩)] w (K7 K base w G cb s (uC s (az s.c.cl d) d 2)):=
 (GA h f b hl g i j).mono λ e w' ⟨h1,hs',b,l,_⟩=>⟨h1,hs',b,l⟩
end
section
open Go.RowKit Go.Shelf
theorem La(w:World)(ty:TypeId)(g kl cap:Nat)(b off m c:Nat)(i:List Value)(d:rq w (some ⟨b,off,none⟩) m c i)(l:kl+m<=cap)(k:∀j,j<m->(w.cell? ⟨g,kl+j,none⟩).isSome=true)(n:∀j,w.frozen? ⟨g,j,none⟩=false):
  (Builtin.append_ #[160,160] ty #[.slice (some ⟨g,0,none⟩) kl cap,.slice (some ⟨b,off,none⟩) m c]).run v_ w=.ok (.slice (some ⟨g,0,none⟩) (kl+m) cap) (w.setCells g kl i):=by
 obtain⟨i0,o,r,f,s⟩:=info_parts Gg;have:=run_append_room_cells (P:=v_) w 160 ty 164 i0 Tryz.underlying160 o g 0 kl cap ⟨b,off,none⟩ m c i (by rw[f,d.len,Nat.mul_one]) (λ j u e=>by
  have t:j<m:=by have:=(j_.1 e).1;simpa[d.len] using this
  obtain⟨v,y,he,k⟩:=d.cells (by omega);injection he with he
  injection he with h1 q
  subst h1 q;rw[Addr.add_lit];exact k j u e) (λ u hu=>by obtain⟨p,rfl⟩:=d.ptr u hu;rfl) l (λ j e=>by
   rw[f,Nat.mul_one,h_];exact k j (by rw[<-d.len];exact e)) (λ j e=>by rw[f];exact n _)
 rw[f,Nat.mul_one,h_] at this;exact this
theorem DE{rest:List Oper}(e:o.guard=none)(s x:Operand)
  (f:o.op=.call {callee:=.builtin .append,args:= #[s,x],argTypes:= #[160,160]}) (g kl cap b off m c:Nat) (d:List Value) (hs:a.eval s=.slice (some ⟨g,0,none⟩) kl cap) (i:a.eval x=.slice (some ⟨b,off,none⟩) m c)
  (k:rq w (some ⟨b,off,none⟩) m c d) (l:kl+m<=cap) (n:∀j,j<m->(w.cell? ⟨g,kl+j,none⟩).isSome=true) (p:∀j,w.frozen? ⟨g,j,none⟩=false)
  (h:wpList v_ ops Q rest (a.put o.dst (.slice (some ⟨g,0,none⟩) (kl+m) cap)) (w.setCells g kl d)):
  wpList v_ ops Q (o::rest) a w:=by
 have h1:=La w o.type g kl cap b off m c d k l n p;refine wpList_plain e λ K q=>?_
 unfold Oper.wp;simp only[execOp,f,resolve,invoke,builtin,Zx,Zw,l_,List.map_toArray,List.map_cons,List.map_nil,hs,i,h1];exact q _ _ h
def tc:List Nat->Nat->List Nat->List Nat
 |raw,_,[]=>raw
 |raw,j,x::l=>tc (raw.set j x) (j+1) l
theorem GB:∀(l raw:List Nat)(j:Nat),(tc raw j l).length=raw.length
 |[],_,_=>rfl
 |x::l,raw,j=>by rw[tc,GB l,y_]
theorem GC:∀(l raw:List Nat)(j:Nat),j+l.length<=raw.length->(tc raw j l).take (j+l.length)=raw.take j++l
 |[],raw,j,_=>by simp[tc]
 |x::l,raw,j,h=>by
  rw[e_] at h⊢;have h1:=GC l (raw.set j x) (j+1) (by rw[y_];omega);rw[tc,show j+(l.length+1)=j+1+l.length by omega,h1];have b:j<(raw.set j x).length:=by rw[y_];omega
  rw[List.take_succ_eq_append_getElem b,List.getElem_set_self,List.take_set_of_le (o_ _),List.append_assoc];rfl
section
variable {K:Nat->Prop}{base:Nat}{w bE W:World}{G:Nat}{hs:Nat->ay}{cb:Nat->Nat}{s:au}
theorem Lb{s:au}{k:Nat}(hk:k<s.c.wt.length):s.pY k (az s.c.wt k)=s:=by
 have e:s.c.wt.set k (az s.c.wt k)=s.c.wt:=by rw[FA hk,a_]
 show{s with c:={s.c with wt:=s.c.wt.set k (az s.c.wt k)}}=s;rw[e]
theorem Lc(s:au)(k:Nat)(a b:List Nat):(s.pY k a).pY k b=s.pY k b:=by
 simp[au.pY,d_]
theorem GD{s:au}{k:Nat}(hk:k<s.c.wt.length)(l:List Nat):az (s.pY k l).c.wt k=l:=by
 show az (s.c.wt.set k l) k=l;rw[qE,if_pos ⟨rfl,hk⟩]
theorem bf.Ld(h:bf K base w G hs cb s){k g:Nat}(i:(hs (iI k)).b=some g)(hk:k<s.c.wt.length)(j d:Nat):bf K base (w.setCell ⟨g,j,none⟩ (s5 cb d)) G hs cb (s.pY k ((az s.c.wt k).set j d))/\aG K w (w.setCell ⟨g,j,none⟩ (s5 cb d)):=by
 refine⟨⟨(h.e.cell i j (s5 cb d)).eq rfl rfl rfl (λ _ _=>rfl) rfl (λ r=>?_),h.s.more (lq w g j _).size⟩,aG.set g j _ (h.s.row _ g i)⟩
 by_cases f:r=iI k
 ·subst f;rw[jT,wk,wk,GD hk];simp[k7,Zv]
 ·rw[bq _ _ f]
  by_cases l:r=0
  ·subst l;show((u_ s.c.wt.length).map λ j=>(hs (iI j)).v)=(u_ (s.c.wt.set k _).length).map λ j=>(hs (iI j)).v
   rw[y_]
  ·exact(Gu hs cb s l f).symm
theorem bf.DF:∀(l:List Nat){w:World}{s:au}(h:bf K base w G hs cb s){k g:Nat}(e:(hs (iI k)).b=some g)(hk:k<s.c.wt.length)(j:Nat),bf K base (w.setCells g j (k7 cb l)) G hs cb (s.pY k (tc (az s.c.wt k) j l))/\aG K w (w.setCells g j (k7 cb l))
 |[],w,s,h,k,g,e,hk,j=>by
  rw[tc,Lb hk];exact⟨h,aG.refl⟩
 |d::l,w,s,h,k,g,e,hk,j=>by
  have h1:=h.Ld e hk j d;have f:=bf.DF l h1.1 e (by show k<(s.c.wt.set k _).length;rw[y_];exact hk) (j+1);rw[GD hk,Lc] at f;exact⟨f.1,h1.2.trans f.2⟩
theorem bf.Le(h:bf K base w G hs cb s){g0 k m:Nat}(d:(hs 0).b=some g0)(hk:k<s.c.wt.length)(hm:m<=(az s.c.wt k).length):
  bf K base (w.setCell ⟨g0,k,none⟩ (.slice (hs (iI k)).A m (hs (iI k)).c)) G (iV hs (iI k) ⟨(hs (iI k)).A,m,(hs (iI k)).c⟩) cb (s.pY k ((az s.c.wt k).take m))/\aG K w (w.setCell ⟨g0,k,none⟩ (.slice (hs (iI k)).A m (hs (iI k)).c)):=by
 refine⟨?_,aG.set g0 k _ (h.s.row 0 g0 d)⟩
 cases f:(hs (iI k)).b with
 |some g=>
  refine h.DB d hk (h':=⟨(hs (iI k)).A,m,(hs (iI k)).c⟩) ?_ (h.s.cut m);refine(kA.cut h.e f (k:=m) (by rw[h.e.Am];exact hm)).eq rfl rfl rfl (λ _ _=>rfl) rfl (λ r=>?_)
  by_cases e:r=iI k
  ·subst e;rw[jT,jT,Al,wk];simp[k7]
  ·rw[bq _ _ e,bq _ _ e]
 |none=>
  have i:(hs (iI k)).n=0:=by
   rcases n_ (hs (iI k)).n with j|j
   ·exact j
   ·obtain⟨g,_,o⟩:=h.e.rows.addr (r:=iI k) (by omega);rw[f] at o;cases o
  have hl:az s.c.wt k=[]:=List.eq_nil_of_length_eq_zero (by rw[<-h.e.Am,i]);have q:m=0:=by rw[hl] at hm;simpa using hm
  subst q;have p:(⟨(hs (iI k)).A,0,(hs (iI k)).c⟩:ay)=hs (iI k):=by rw[<-i]
  have t:Value.slice (hs (iI k)).A 0 (hs (iI k)).c=(hs (iI k)).v:=by rw[<-p];rfl
  have hu:iV hs (iI k) (hs (iI k))=hs:=funext λ r=>by
   by_cases e:r=iI k
   ·subst e;rw[jT]
   ·rw[bq _ _ e]
  have:=h.DB d hk (h':=hs (iI k)) (w1:=w) (l:=az s.c.wt k) (by
   rw[hu];refine h.e.eq rfl rfl rfl (λ _ _=>rfl) rfl (λ r=>?_)
   by_cases e:r=iI k
   ·subst e;rw[jT,wk]
   ·rw[bq _ _ e]) (by rw[hu];exact h.s)
  rw[p,t,List.take_zero];rw[hl] at this;exact this
def au.sy(s:au)(d:Nat)(l:List Int):au:={s with c:=lT s.c d l}
theorem Lf(hs:Nat->ay)(cb:Nat->Nat)(s:au){d r:Nat}{l:List Int}(e:r≠kO d):cont hs cb (s.sy d l) r=cont hs cb s r:=by
 rcases Zz r 13 with h|h
 ·have:r=0\/r=1\/r=2\/r=3\/r=4\/r=5\/r=6\/r=7\/r=8\/r=9\/r=10\/r=11\/r=12:=by omega
  rcases this with rfl|rfl|rfl|rfl|rfl|rfl|rfl|rfl|rfl|rfl|rfl|rfl|rfl<;>rfl
 ·have a0:¬r=0:=by omega
  have a1:¬r=1:=by omega
  have a2:¬r=2:=by omega
  have a3:¬r=3:=by omega
  have a4:¬r=4:=by omega
  have a5:¬r=5:=by omega
  have f:¬r=6:=by omega
  have g:¬r=7:=by omega
  have i:¬r=8:=by omega
  have a9:¬r=9:=by omega
  have j:¬r=10:=by omega
  have k:¬r=11:=by omega
  have a12:¬r=12:=by omega
  unfold cont;simp only[a0,a1,a2,a3,a4,a5,f,g,i,a9,j,k,a12,if_false]
  by_cases hm:r%3=1
  ·rw[if_pos hm,if_pos hm];rfl
  ·rw[if_neg hm,if_neg hm]
   by_cases b:r%3=2
   ·rw[if_pos b,if_pos b];have:az (s.sy d l).c.cl ((r-14)/3)=az s.c.cl ((r-14)/3):=by
     show az (s.c.cl.set d l) _=_;rw[qE,if_neg (λ m=>e (by unfold kO;omega))]
    rw[this]
   ·rw[if_neg b,if_neg b];rfl
theorem bf.GF(h:bf K base w G hs cb s){d g:Nat}(i:(hs (kO d)).b=some g)(k:d<s.c.cl.length)(j:Nat)(x:Int):bf K base (w.setCell ⟨g,j,none⟩ (.int .i64 x)) G hs cb (s.sy d ((az s.c.cl d).set j x))/\aG K w (w.setCell ⟨g,j,none⟩ (.int .i64 x)):=by
 refine⟨⟨(h.e.cell i j (.int .i64 x)).eq rfl rfl rfl (λ _ _=>rfl) (q3 _ _ _).symm (λ r=>?_),?_⟩,aG.set g j _ (h.s.row _ g i)⟩
 ·by_cases f:r=kO d
  ·subst f;rw[jT,yd,yd];show _=jj (az (s.c.cl.set d _) d);rw[qE,if_pos ⟨rfl,k⟩];simp[jj,Zv]
  ·rw[bq _ _ f];exact(Lf hs cb s f).symm
 ·show Sep K _ G hs cb (lT s.c d _).cl.length;rw[q3];exact h.s.more (lq w g j _).size
end
end
section
section
variable {F Fd:List (List Int)}{c:Core}{h:Nat}{P:List Nat}
theorem kG.y8(L:kG F Fd c h P)(x:Nat):kG F Fd {c with ag:=x} h P:=
 ⟨⟨L.aN.rE,L.aN.pz,L.aN.pQ,L.aN.lit,L.aN.nt,L.aN.uh,L.aN.pos,L.aN.qZ,L.aN.oz,L.aN.mI,L.aN.p7⟩,⟨L.jS.mM,L.jS.imp,L.jS.tH,L.jS.tI,L.jS.tJ⟩,⟨L.wt.qP,L.wt.qQ,L.wt.sY,L.wt.uW⟩,L.rG,L.rH,L.cur,L.hle⟩
theorem yM.nA(W:yM c)(k:Nat):(az c.wt k).length<=c.cl.length:=xY _ _ (W.sY k) (λ d b=>(W.qQ k d b).1)
theorem oN.len{n:Nat}{l:List Int}(h:oN n l):l.length<=2*n+2:=by
 have:=xY (2*n+2) (l.map jR) (by
  have:=h.nt;rw[List.nodup_iff_pairwise_ne] at this⊢;exact List.Pairwise.map _ (λ a b c e=>c (vS e)) this) (λ x d=>by
  obtain⟨y,f,rfl⟩:=List.mem_map.1 d;exact(h.lt y f).at)
 rwa[List.length_map] at this
def kM(c:Core)(k:Nat)(l:List Nat):Core:={c with wt:=c.wt.set k l}
theorem BQ{k:Nat}(hk:k<c.wt.length):kM c k (az c.wt k)=c:=by
 show{c with wt:=c.wt.set k (az c.wt k)}=c;rw[FA hk,a_]
theorem DG(k:Nat)(a b:List Nat):kM (kM c k a) k b=kM c k b:=by simp[kM,d_]
theorem Lg{k0 ky d k:Nat}{iD raw:List Nat}(b:jR (-(w1 c d))=k0)(e:jR (-(ak (az c.cl d) k))=ky)(f:ky≠k0):
  kM (rY c d k iD) k0 raw=kM (lT (kM c k0 raw) d (kX (az c.cl d) 1 k)) ky (az c.wt ky++[d]):=by
 unfold rY kM lT;simp only[b,e]
 congr 1
 rw[List.set_comm _ _ f,d_]
end
structure Aq(F:List (List Int))(jW:List Int)(aY c:Core)(h:Nat):Prop where
 gV:kG F F c h []
 jW:ny c jW
 sm:tO aY c
end
section
open Go.RowKit Go.Shelf
section
variable {K:Nat->Prop}{base:Nat}{w W:World}{G:Nat}{hs:Nat->ay}{cb:Nat->Nat}{s:au}
theorem BR(h:bf K base w G hs cb s)(x:Int)(o:Option Nat)(T:j9 s.c)(b:gP s.c.n x)(f:s.c.n<=60000)(d:s.c.st.length<=1000000):
  Calls v_ 156 #[.pointer (some ⟨G,0,none⟩),.int .i64 x,qT cb o] w λ e w'=>e=.returned (.tuple #[])/\∃h':ay,bf K base w' G (iV hs 4 h') cb {s with c:=lC s.c x o}/\aG K w w':=by
 have g:=b.2;have i:=T.len;refine(Ku h.e (Nat.le_of_lt h.e.lt) x o (by rw[T.rE];omega) (by rw[T.pz];omega) (by rw[T.pQ];omega) (by omega) (by omega) d).mono ?_;rintro e w' ⟨he,h',E,F,aa⟩;exact⟨he,h',⟨E,(h.s.ji (h.s.aa aa)).more F.size⟩,aG.FX F h.s⟩
theorem BS(h:bf K base w G hs cb s)(T:j9 s.c)(d:s.c.n<=60000){x:Int}(b:gP s.c.n x):Calls v_ 152 #[.pointer (some ⟨G,0,none⟩),.int .i64 x] w λ e w'=>e=.returned (.int .i8 (ki s.c x))/\w=w':=
 Ks h.e x (by rw[T.rE];have:=b.2;omega) T.uh (by have:=b.2;omega)
theorem GG{n:Nat}{x:Int}(b:gP n x)(c:n<=60000)(w:World):Calls v_ 181 #[.int .i64 x] w λ e w'=>e=.returned (.int .i64 (jR x))/\w=w':=
 Dm x w (by have:=b.2;unfold aD at this;omega) (by have:=b.2;unfold aD at this;omega)
end
def DH(w:World)(p:Addr):Nat:=match w.cell? p with
 |some (.int _ x)=>x.toNat
 |_=>0
theorem bf.y9(h:bf K base w G hs cb s):DH w ⟨G,7,none⟩=s.c.ag:=by
 unfold DH;rw[h.e.kP (k:=7) (v:=.int .i64 s.c.ag) rfl];simp
theorem BU{c2:Core}{k0 g0 kl iD jk:Nat}{pe:Option Addr}{raw kept:List Nat}
  (E:bf K base w G hs cb {s with c:=kM c2 k0 raw}) (f:(hs 0).b=some g0) (hk:k0<c2.wt.length) (g:hs (iI k0)=⟨pe,iD,jk⟩) (i:raw.take kl=kept) (hle:kl<=raw.length) (j:az c2.wt k0=kept):
  bf K base ((w.setCell ⟨g0,k0,none⟩ (.slice pe kl jk)).drew) G (iV hs (iI k0) ⟨pe,kl,jk⟩) cb {s with c:=c2}/\aG K w ((w.setCell ⟨g0,k0,none⟩ (.slice pe kl jk)).drew):=by
 have d:az (kM c2 k0 raw).wt k0=raw:=by show az (c2.wt.set k0 raw) k0=raw;rw[qE,if_pos ⟨rfl,hk⟩]
 have h1:=E.Le f (k:=k0) (m:=kl) (by show k0<(c2.wt.set k0 raw).length;rw[y_];exact hk) (by show kl<=(az (kM c2 k0 raw).wt k0).length;rw[d];exact hle);rw[g] at h1;have e:(({s with c:=kM c2 k0 raw}:au).pY k0 ((az ({s with c:=kM c2 k0 raw}:au).c.wt k0).take kl))={s with c:=c2}:=by
  show({s with c:=kM (kM c2 k0 raw) k0 ((az (kM c2 k0 raw).wt k0).take kl)}:au)=_;rw[d,i,DG,<-j,BQ hk]
 rw[e] at h1;exact⟨h1.1.drew,h1.2.trans aG.drew⟩
def Lh(K:Nat->Prop)(base:Nat)(w:World)(G:Nat)(cb:Nat->Nat)(F:List (List Int))(ah:List Int)(s:au)(e:Ending)(w':World):Prop:=
 ∃(p:Option Nat)(c':Core)(hs':Nat->ay)(h':Nat),e=.returned (qT cb p)/\Aq F ah s.c c' h'/\bf K base w' G hs' cb {s with c:=c'}/\aG K w w'/\
  (match p with
   |none=>h'=c'.ax.length/\c'.ag=h'
   |some d=>d<c'.cl.length/\∀x∈az c'.cl d,-x∈c'.ax)
end
section
open Go.RowKit Go.Shelf
section
variable {K:Nat->Prop}{base:Nat}{w bE W:World}{G:Nat}{hs:Nat->ay}{cb:Nat->Nat}{s:au}
structure za(base:Nat)(w:World)(G:Nat)(hs:Nat->ay)(cb:Nat->Nat)(d bL m aM:Nat)(l:List Int):Prop where
 b:(hs (kO d)).b=some bL
 len:l.length=m
 cap:m<=aM
 ag:w.cell? ⟨cb d,0,none⟩=some (.slice (some ⟨bL,0,none⟩) m aM)
 kR:∀j,j<m->w.cell? ⟨bL,j,none⟩=some (.int .i64 (ak l j))
 lJ:∀j,w.frozen? ⟨bL,j,none⟩=false
 ne:cb d≠bL
theorem bf.zb(h:bf K base w G hs cb s){d:Nat}(f:d<s.c.cl.length)(n:1<=(az s.c.cl d).length):∃bL m i,za base w G hs cb d bL m i (az s.c.cl d):=by
 obtain⟨bL,o,b,k⟩:=h.e.xb (r:=kO d) (h.e.An d) (by omega);have cap:=h.e.yb b;rw[h.e.An] at cap;have g:=(h.Ai f).1;rw[k] at g;exact⟨bL,_,_,b,rfl,cap,g,λ j l=>h.e.yf b l,λ j=>h.e.rows.free b j,h.e.x4 f _ _ b⟩
theorem bf.DI(h:bf K base w G hs cb s){k g:Nat}(f:(hs (iI k)).b=some g){j d:Nat}(i:(az s.c.wt k)[j]? =some d):w.cell? ⟨g,j,none⟩=some (.pointer (some ⟨cb d,0,none⟩)):=h.e.get f (by
 rw[wk];simp[k7,i,s5])
theorem bf.GH(h:bf K base w G hs cb s){g0 k d lU ot:Nat}{oT:Option Addr}{v0 v':Value}(i:(hs 0).b=some g0)(hk:k<s.c.wt.length)(f:hs (iI k)=⟨oT,lU,ot⟩)(l:lU=(az s.c.wt k).length)(m:w.cell? ⟨G,1,none⟩=some v0)
  (g:mY w base 164 (.slice oT lU ot) (lU+1) (k7 cb (az s.c.wt k)++[.pointer (some ⟨cb d,0,none⟩)]) v' bE):
  ∃(A':Option Addr)(c':Nat),v'=.slice A' (lU+1) c'/\bE.cell? ⟨G,1,none⟩=some v0/\bE.cell? ⟨g0,k,none⟩=some (.slice oT lU ot)/\(∀j,bE.frozen? ⟨g0,j,none⟩=false)/\
   (∀b,b<w.heap.size->(hs (iI k)).b≠some b->∀j,bE.cell? ⟨b,j,none⟩=w.cell? ⟨b,j,none⟩)/\bf K base (bE.setCell ⟨g0,k,none⟩ v') G (iV hs (iI k) ⟨A',lU+1,c'⟩) cb (s.pY k (az s.c.wt k++[d]))/\aG K w (bE.setCell ⟨g0,k,none⟩ v'):=by
 obtain⟨A',c',n,o,p,f9,E,F⟩:=h.DC i hk f l m g;refine⟨A',c',n,o,p,f9,λ b q r j=>?_,E,F⟩;have t:=g.2.1;refine World.cell?_of_block (t.block b q (λ e=>r ?_));have:(hs (iI k)).b=(Value.slice oT lU ot).ownBlock:=by rw[<-ay.own,f];rfl
 rw[this];exact e.symm
theorem Li{kept ls:List Nat}{kl d:Nat}(h:kept.length=kl)(hl:kl<ls.length):(kept++ls.drop kl).set kl d=(kept++[d])++ls.drop (kl+1):=by
 subst h;rw[List.set_append_right _ _ (o_ _),Nat.sub_self,List.drop_eq_getElem_cons hl,List.set_cons_zero,List.append_assoc];rfl
theorem DJ{c:Core}{k:Nat}{l:List Nat}(T:j9 c):j9 (kM c k l):=⟨T.rE,T.pz,T.pQ,T.lit,T.nt,T.uh,T.pos,T.qZ,T.oz,T.mI,T.p7⟩
theorem bf.GI(h:bf K base w G hs cb s){d bL i j:Nat}(g:(hs (kO d)).b=some bL)(e:d<s.c.cl.length){x y:Int}(k:ak (az s.c.cl d) i=x)(l:ak (az s.c.cl d) j=y):
  bf K base (((w.setCell ⟨bL,i,none⟩ (.int .i64 y)).setCell ⟨bL,j,none⟩ (.int .i64 x)).drew) G hs cb (s.sy d (kX (az s.c.cl d) i j))/\aG K w (((w.setCell ⟨bL,i,none⟩ (.int .i64 y)).setCell ⟨bL,j,none⟩ (.int .i64 x)).drew):=by
 have h1:=h.GF g e i y;have m:d<(s.sy d ((az s.c.cl d).set i y)).c.cl.length:=by show d<(lT s.c d _).cl.length;rw[q3];exact e
 have f:=h1.1.GF g m j x;have n:az (s.sy d ((az s.c.cl d).set i y)).c.cl d=(az s.c.cl d).set i y:=by show az (s.c.cl.set d _) d=_;rw[qE,if_pos ⟨rfl,e⟩]
 have o:((s.sy d ((az s.c.cl d).set i y)).sy d (((az s.c.cl d).set i y).set j x))=s.sy d (kX (az s.c.cl d) i j):=by
  unfold au.sy lT kX;rw[k,l];simp[d_]
 rw[n,o] at f;exact⟨f.1.drew,h1.2.trans (f.2.trans aG.drew)⟩
end
end
section
open Go.RowKit Go.Shelf
section
variable {K:Nat->Prop}{base:Nat}{w W W' rQ:World}{G:Nat}{hs hs':Nat->ay}{cb r4:Nat->Nat}{s s':au}{ls:Nat->ay}{X:Nat->List Value}
theorem lF.app(h:lF K base w W G hs cb s ls X){r:Nat}(f:yc r=3){xs:List Int}{x:Int}{v':Value}(i:mY W w.heap.size 3 (ls r).v ((ls r).n+1) ((xs++[x]).map (Zu .i64)) v' rQ):
  ∃h':ay,v'=h'.v/\h'.n=(ls r).n+1/\(h'.b=(ls r).b\/∀g,h'.b=some g->W.heap.size<=g)/\lF K base w rQ G hs cb s (iV ls r h') (iV X r (jj (xs++[x])))/\KeepsOthers W rQ:=by
 obtain⟨c,j,k⟩:=i;obtain⟨A',c',rfl⟩:=Fo c;have d:(⟨A',(ls r).n+1,c'⟩:ay).b=(ls r).b\/∀g,(⟨A',(ls r).n+1,c'⟩:ay).b=some g->W.heap.size<=g:=by
  rcases k with h1|h1
  ·exact .inl (by rw[<-ay.own,<-ay.own];exact h1)
  ·exact .inr (λ g e=>by rw[<-ay.own] at e;have:=h1.symm.trans e;injection this with this;omega)
 refine⟨⟨A',(ls r).n+1,c'⟩,rfl,rfl,d,h.ji (r:=r) (h':=⟨A',(ls r).n+1,c'⟩) (ys:=jj (xs++[x])) (by rw[<-ay.own];exact j) (by rw[f];exact c) d⟩
end
structure kY(K:Nat->Prop)(base:Nat)(w W:World)(G:Nat)(hs:Nat->ay)(cb:Nat->Nat)(s:au)(aH bP bS dh bD:Nat)(out mk:List Int)(op:Int)(ij:ay)(iX:List Value)(ls:Nat->ay)(X:Nat->List Value):Prop where
 gr:lF K base w W G hs cb s ls X
 nV:ls 0=oq aH
 jJ:X 0=[.pointer (some ⟨G,0,none⟩)]
 ja:ls 1=oq bP
 kC:X 1=[(ls 5).v]
 l8:X 5=jj out
 kB:ls 2=oq bS
 k4:X 2=[(ls 6).v]
 lG:X 6=jj mk
 nF:ls 3=oq dh
 lD:X 3=[.int .i64 op]
 pW:ls 4=oq bD
 mP:X 4=[.func (.func 182) #[] #[.pointer (some ⟨aH,0,none⟩),.pointer (some ⟨bS,0,none⟩)]]
 td:ls 11=ij
 u9:X 11=iX
section
variable {K:Nat->Prop}{base:Nat}{w W W' rQ:World}{G:Nat}{hs hs':Nat->ay}{cb r4:Nat->Nat}{s s':au}{aH bP bS dh bD:Nat}{out mk:List Int}{op:Int}{ij:ay}{iX:List Value}{ls:Nat->ay}{X:Nat->List Value}
theorem kY.tR(h:kY K base w W G hs cb s aH bP bS dh bD out mk op ij iX ls X)(b:lF K base w W' G hs' r4 s' ls X):kY K base w W' G hs' r4 s' aH bP bS dh bD out mk op ij iX ls X:=⟨b,h.nV,h.jJ,h.ja,h.kC,h.l8,h.kB,h.k4,h.lG,h.nF,h.lD,h.pW,h.mP,h.td,h.u9⟩
theorem kY.de(h:kY K base w W G hs cb s aH bP bS dh bD out mk op ij iX ls X):(ls 0).b=some aH:=by rw[h.nV];rfl
theorem kY.aZ(h:kY K base w W G hs cb s aH bP bS dh bD out mk op ij iX ls X):(ls 1).b=some bP:=by rw[h.ja];rfl
theorem kY.gq(h:kY K base w W G hs cb s aH bP bS dh bD out mk op ij iX ls X):(ls 2).b=some bS:=by rw[h.kB];rfl
theorem kY.ic(h:kY K base w W G hs cb s aH bP bS dh bD out mk op ij iX ls X):(ls 3).b=some dh:=by rw[h.nF];rfl
theorem kY.kn(h:kY K base w W G hs cb s aH bP bS dh bD out mk op ij iX ls X):(ls 4).b=some bD:=by rw[h.pW];rfl
theorem kY.aS(h:kY K base w W G hs cb s aH bP bS dh bD out mk op ij iX ls X):W.cell? ⟨aH,0,none⟩=some (.pointer (some ⟨G,0,none⟩)):=(h.gr.kR h.de (by rw[h.jJ];rfl)).1
theorem kY.co(h:kY K base w W G hs cb s aH bP bS dh bD out mk op ij iX ls X):W.cell? ⟨bP,0,none⟩=some (ls 5).v/\W.frozen? ⟨bP,0,none⟩=false:=h.gr.kR h.aZ (by rw[h.kC];rfl)
theorem kY.aJ(h:kY K base w W G hs cb s aH bP bS dh bD out mk op ij iX ls X):W.cell? ⟨bS,0,none⟩=some (ls 6).v/\W.frozen? ⟨bS,0,none⟩=false:=h.gr.kR h.gq (by rw[h.k4];rfl)
theorem kY.xo(h:kY K base w W G hs cb s aH bP bS dh bD out mk op ij iX ls X):W.cell? ⟨dh,0,none⟩=some (.int .i64 op)/\W.frozen? ⟨dh,0,none⟩=false:=h.gr.kR h.ic (by rw[h.lD];rfl)
theorem kY.gT(h:kY K base w W G hs cb s aH bP bS dh bD out mk op ij iX ls X):W.cell? ⟨bD,0,none⟩=some (.func (.func 182) #[] #[.pointer (some ⟨aH,0,none⟩),.pointer (some ⟨bS,0,none⟩)]):=(h.gr.kR h.kn (by rw[h.mP];rfl)).1
theorem kY.kj(h:kY K base w W G hs cb s aH bP bS dh bD out mk op ij iX ls X):(ls 5).n=out.length:=by have:=h.gr.rows.len 5;rw[h.l8] at this;simpa[jj] using this.symm
theorem kY.n6(h:kY K base w W G hs cb s aH bP bS dh bD out mk op ij iX ls X):(ls 6).n=mk.length:=by have:=h.gr.rows.len 6;rw[h.lG] at this;simpa[jj] using this.symm
theorem kY.grow(h:kY K base w W G hs cb s aH bP bS dh bD out mk op ij iX ls X)(b:Below W.heap.size W W'):kY K base w W' G hs cb s aH bP bS dh bD out mk op ij iX ls X:=h.tR (h.gr.grow b)
theorem kY.drew(h:kY K base w W G hs cb s aH bP bS dh bD out mk op ij iX ls X):kY K base w W.drew G hs cb s aH bP bS dh bD out mk op ij iX ls X:=h.tR h.gr.drew
theorem kY.Lj(h:kY K base w W G hs cb s aH bP bS dh bD out mk op ij iX ls X){x:Int}{v':Value}(f:mY W w.heap.size 3 (ls 6).v ((ls 6).n+1) ((mk++[x]).map (Zu .i64)) v' rQ):
  ∃A' c' g i,v'=.slice A' ((ls 6).n+1) c'/\rQ.cell? ⟨bS,0,none⟩=some (ls 6).v/\rQ.frozen? ⟨bS,0,none⟩=false/\kY K base w (rQ.setCell ⟨bS,0,none⟩ v') G hs cb s aH bP bS dh bD out (mk++[x]) op ij iX g i/\KeepsOthers W (rQ.setCell ⟨bS,0,none⟩ v'):=by
 obtain⟨⟨A',j,c'⟩,rfl,c,p,d,l⟩:=h.gr.app (r:=6) rfl f;have c:j=(ls 6).n+1:=c;subst c;have e:(iV ls 6 ⟨A',(ls 6).n+1,c'⟩ 2).b=some bS:=by rw[bq _ _ (by omega)];exact h.gq
 have c2:=d.kR e (k:=0) (v:=(ls 6).v) (by rw[bq _ _ (by omega),h.k4];rfl);obtain⟨m,o⟩:=d.set e 0 (ay.v ⟨A',(ls 6).n+1,c'⟩);refine⟨A',c',iV ls 6 ⟨A',(ls 6).n+1,c'⟩,_,rfl,c2.1,c2.2,⟨m,?_,?_,?_,?_,?_,?_,?_,?_,?_,?_,?_,?_,?_,?_⟩,l.trans o⟩
 ·rw[bq _ _ (by omega)];exact h.nV
 ·rw[bq _ _ (by omega),bq _ _ (by omega)];exact h.jJ
 ·rw[bq _ _ (by omega)];exact h.ja
 ·rw[bq _ _ (by omega),bq _ _ (by omega),bq _ _ (by omega)];exact h.kC
 ·rw[bq _ _ (by omega),bq _ _ (by omega)];exact h.l8
 ·rw[bq _ _ (by omega)];exact h.kB
 ·rw[jT,bq _ _ (by omega),jT,h.k4];rfl
 ·rw[bq _ _ (by omega),jT]
 ·rw[bq _ _ (by omega)];exact h.nF
 ·rw[bq _ _ (by omega),bq _ _ (by omega)];exact h.lD
 ·rw[bq _ _ (by omega)];exact h.pW
 ·rw[bq _ _ (by omega),bq _ _ (by omega)];exact h.mP
 ·rw[bq _ _ (by omega)];exact h.td
 ·rw[bq _ _ (by omega),bq _ _ (by omega)];exact h.u9
theorem kY.Lk(h:kY K base w W G hs cb s aH bP bS dh bD out mk op ij iX ls X){x:Int}{v':Value}(f:mY W w.heap.size 3 (ls 5).v ((ls 5).n+1) ((out++[x]).map (Zu .i64)) v' rQ):
  ∃A' c' g i,v'=.slice A' ((ls 5).n+1) c'/\rQ.cell? ⟨bP,0,none⟩=some (ls 5).v/\rQ.frozen? ⟨bP,0,none⟩=false/\kY K base w (rQ.setCell ⟨bP,0,none⟩ v') G hs cb s aH bP bS dh bD (out++[x]) mk op ij iX g i/\KeepsOthers W (rQ.setCell ⟨bP,0,none⟩ v'):=by
 obtain⟨⟨A',j,c'⟩,rfl,c,p,d,l⟩:=h.gr.app (r:=5) rfl f;have c:j=(ls 5).n+1:=c;subst c;have e:(iV ls 5 ⟨A',(ls 5).n+1,c'⟩ 1).b=some bP:=by rw[bq _ _ (by omega)];exact h.aZ
 have c2:=d.kR e (k:=0) (v:=(ls 5).v) (by rw[bq _ _ (by omega),h.kC];rfl);obtain⟨m,o⟩:=d.set e 0 (ay.v ⟨A',(ls 5).n+1,c'⟩);refine⟨A',c',iV ls 5 ⟨A',(ls 5).n+1,c'⟩,_,rfl,c2.1,c2.2,⟨m,?_,?_,?_,?_,?_,?_,?_,?_,?_,?_,?_,?_,?_,?_⟩,l.trans o⟩
 ·rw[bq _ _ (by omega)];exact h.nV
 ·rw[bq _ _ (by omega),bq _ _ (by omega)];exact h.jJ
 ·rw[bq _ _ (by omega)];exact h.ja
 ·rw[jT,bq _ _ (by omega),jT,h.kC];rfl
 ·rw[bq _ _ (by omega),jT]
 ·rw[bq _ _ (by omega)];exact h.kB
 ·rw[bq _ _ (by omega),bq _ _ (by omega),bq _ _ (by omega)];exact h.k4
 ·rw[bq _ _ (by omega),bq _ _ (by omega)];exact h.lG
 ·rw[bq _ _ (by omega)];exact h.nF
 ·rw[bq _ _ (by omega),bq _ _ (by omega)];exact h.lD
 ·rw[bq _ _ (by omega)];exact h.pW
 ·rw[bq _ _ (by omega),bq _ _ (by omega)];exact h.mP
 ·rw[bq _ _ (by omega)];exact h.td
 ·rw[bq _ _ (by omega),bq _ _ (by omega)];exact h.u9
theorem kY.DK(h:kY K base w W G hs cb s aH bP bS dh bD out mk op ij iX ls X)(x:Int):∃b,kY K base w (W.setCell ⟨dh,0,none⟩ (.int .i64 x)) G hs cb s aH bP bS dh bD out mk x ij iX ls b/\KeepsOthers W (W.setCell ⟨dh,0,none⟩ (.int .i64 x)):=by
 obtain⟨c,d⟩:=h.gr.set h.ic 0 (.int .i64 x);refine⟨_,⟨c,h.nV,?_,h.ja,?_,?_,h.kB,?_,?_,h.nF,?_,h.pW,?_,h.td,?_⟩,d⟩
 ·rw[bq _ _ (by omega)];exact h.jJ
 ·rw[bq _ _ (by omega)];exact h.kC
 ·rw[bq _ _ (by omega)];exact h.l8
 ·rw[bq _ _ (by omega)];exact h.k4
 ·rw[bq _ _ (by omega)];exact h.lG
 ·rw[jT,h.lD];rfl
 ·rw[bq _ _ (by omega)];exact h.mP
 ·rw[bq _ _ (by omega)];exact h.u9
theorem kY.Ll(h:kY K base w W G hs cb s aH bP bS dh bD out mk op ij iX ls X){g:Nat}(c:(ls 5).b=some g)(k:Nat)(x:Int):∃d,kY K base w (W.setCell ⟨g,k,none⟩ (.int .i64 x)) G hs cb s aH bP bS dh bD (out.set k x) mk op ij iX ls d/\KeepsOthers W (W.setCell ⟨g,k,none⟩ (.int .i64 x)):=by
 obtain⟨e,f⟩:=h.gr.set c k (.int .i64 x);refine⟨_,⟨e,h.nV,?_,h.ja,?_,?_,h.kB,?_,?_,h.nF,?_,h.pW,?_,h.td,?_⟩,f⟩
 ·rw[bq _ _ (by omega)];exact h.jJ
 ·rw[bq _ _ (by omega)];exact h.kC
 ·rw[jT,h.l8];unfold jj;rw[Zv]
 ·rw[bq _ _ (by omega)];exact h.k4
 ·rw[bq _ _ (by omega)];exact h.lG
 ·rw[bq _ _ (by omega)];exact h.lD
 ·rw[bq _ _ (by omega)];exact h.mP
 ·rw[bq _ _ (by omega)];exact h.u9
theorem kY.Lm(h:kY K base w W G hs cb s aH bP bS dh bD out mk op ij iX ls X)(v:Value):∃b c,kY K base w (W.alloc (.cells #[v] 3)) G hs cb s aH bP bS dh bD out mk op (oq W.heap.size) [v] b c:=by
 have B:=h.gr.box 11 v;refine⟨_,_,⟨B,?_,?_,?_,?_,?_,?_,?_,?_,?_,?_,?_,?_,jT _ _ _,jT _ _ _⟩⟩
 ·rw[bq _ _ (by omega)];exact h.nV
 ·rw[bq _ _ (by omega)];exact h.jJ
 ·rw[bq _ _ (by omega)];exact h.ja
 ·rw[bq _ _ (by omega),bq _ _ (by omega)];exact h.kC
 ·rw[bq _ _ (by omega)];exact h.l8
 ·rw[bq _ _ (by omega)];exact h.kB
 ·rw[bq _ _ (by omega),bq _ _ (by omega)];exact h.k4
 ·rw[bq _ _ (by omega)];exact h.lG
 ·rw[bq _ _ (by omega)];exact h.nF
 ·rw[bq _ _ (by omega)];exact h.lD
 ·rw[bq _ _ (by omega)];exact h.pW
 ·rw[bq _ _ (by omega)];exact h.mP
end
def Lo(K:Nat->Prop)(base:Nat)(w W:World)(G:Nat)(hs:Nat->ay)(cb:Nat->Nat)(s:au)(aH bP bS dh bD:Nat)(out mk:List Int)(op:Int)(ij:ay)(iX:List Value)(v:Nat)(e:Ending)(W':World):Prop:=
 e=.returned (.tuple #[])/\∃b c,kY K base w W' G hs cb (s.s6 v true) aH bP bS dh bD out (mk++[(v:Int)]) op ij iX b c/\KeepsOthers W W'
theorem Lp{W:World}{aH bP bS dh bD:Nat}{out mk:List Int}{op:Int}{ij:ay}{iX:List Value}{ls:Nat->ay}{X:Nat->List Value}(h:kY K base w W G hs cb s aH bP bS dh bD out mk op ij iX ls X)
  (v:Nat) (t:v<s.aQ.length) (hm:mk.length<=1000000):
  Calls v_ 182 #[.int .i64 (v:Int),.pointer (some ⟨aH,0,none⟩),.pointer (some ⟨bS,0,none⟩)] W (Lo K base w W G hs cb s aH bP bS dh bD out mk op ij iX v):=by
 obtain⟨g12,f,u,f12⟩:=h.gr.gK.e.l7 16 12 rfl h.gr.gK.e.n12 (by omega);have aS:=h.aS;have bp:(v:Int)<(s.aQ.length:Int):=by omega
 have y:=h.gr.gK.e.Ad f t;have z:=f12 v;have i:=h.gr.back (h.gr.call.xd f v true).1 (h.gr.call.xd f v true).2;have b:=U (h.tR i.1);have tf:=U i.2;clear i h f12 f;go_enter Tryz.func182,Tryz.ntmps182
 go_upto_region 1 with fail
 generalize W.setCell ⟨g12,v,none⟩ (.bool true)=V at b tf⊢;obtain⟨j,n6,k,d⟩:∃A n c,ls 6=⟨A,n,c⟩:=⟨_,_,_,rfl⟩
 have p:n6=mk.length:=by have:=b.o.n6;rw[d] at this;exact this
 have aJ:V.cell? ⟨bS,0,none⟩=some (.slice j n6 k):=by have aJ:=b.o.aJ.1;rw[d] at aJ;exact aJ
 have g:=U (b.o.grow (bC V (lH [(v:Int)])));have B:bF ((V.alloc (lH [(v:Int)])).ownsRow w.heap.size 3 1 (.slice j n6 k) n6 (mk.map (Zu .i64))):=U (by have:=g.o.gr.rows.row 6;rw[d,g.o.lG] at this;exact this);have C:=U (aP.lit V [(v:Int)] 1 V.heap.size rfl rfl (by omega));have q:=U (x_ d p);have jB:=b.o.aJ.2;clear u aS y z d p
 go_wp2_with (at_builtin;refine rB rfl (.tmp 10) (.tmp 12) rfl w.heap.size (.slice j n6 k) n6 mk rfl B.o (some ⟨V.heap.size,0,none⟩) 1 1 [(v:Int)] rfl C.o (by have:=q.o.2;omega) g.o.gr.jB.size ?_;intro v9 bE r;obtain⟨A',c',D,E,rfl,a1,a2,l,m⟩:=g.o.Lj (x:=(v:Int)) (v':=v9) (by rw[q.o.1];exact r);have l:=U l;have m:=U m;clear r)
 go_end0;exact⟨rfl,D,E,l.o,tf.o.trans ((KeepsOthers.below (bC V _)).trans m.o)⟩
end
section
open Go.RowKit Go.Shelf
def va:Code->Nat->Option Code
 | .block k c,n=>if k=n then some c else va c n
 | .seq a b,n=>match va a n with
  |some c=>some c
  |none=>va b n
 | .loop c,n=>va c n
 | .scope c,n=>va c n
 | .cond _ a b,n=>match va a n with
  |some c=>some c
  |none=>va b n
 |_,_=>none
def ng:Code->Code
 | .seq _ b=>b
 |c=>c
def DL:Code->Code
 | .seq a _=>a
 |c=>c
def BV:Code->Code
 | .cond _ a _=>a
 |c=>c
def GJ:Code->Code
 | .loop c=>c
 |c=>c
noncomputable def runIn:Code:=GJ (((Tryz.f145.body.bind λ c=>va c 2)).getD .skip)
noncomputable def GK:Code:=(Tryz.f145.body.bind λ c=>va c 3).getD .skip
noncomputable def Lr:Code:=ng (ng (ng (ng GK)))
noncomputable def Ls:Code:=GJ ((Tryz.f145.body.bind λ c=>va c 4).getD .skip)
noncomputable def GL:Code:=BV (ng ((Tryz.f145.body.bind λ c=>va c 5).getD .skip))
structure rR(G:Nat)(gR:Nat->ay)(c1:Core)(s:au)(lit:Int)(ls:List Nat)(k0 g0 jh iD jk:Nat):Prop where
 de:(gR 0).b=some g0
 ag:gR (iI k0)=⟨some ⟨jh,0,none⟩,iD,jk⟩
 len:iD=ls.length
 lb:iD<=100000
 cap:iD<=jk
 kR:jR lit=k0
 ok:gP s.c.n lit
 wt:c1.wt.length=2*s.c.n+2
 n:c1.n=s.c.n
 av:s.c.n<=60000
 jA:s.c.st.length<=1000000
 hk:k0<2*s.c.n+2
 st:c1.st=s.c.st
 cl:c1.cl.length=s.c.cl.length
 DM:s.c.cl.length<=100000
structure mK(K:Nat->Prop)(base:Nat)(w:World)(G:Nat)(cb:Nat->Nat)(F:List (List Int))(ah:List Int)(s:au)(c1:Core)(gR:Nat->ay)(aT:Nat)(lit:Int)(ls:List Nat)(k0:Nat)(i kl:Nat)(kept:List Nat)(c2:Core)(jQ:Nat->ay)(W:World):Prop where
 nO:oc F F ah c1 aT lit ls i kept c2
 tg:kept.length=kl
 gK:bf K base W G jQ cb {s with c:=kM c2 k0 (kept++ls.drop kl)}
 hw:jQ (iI k0)=gR (iI k0)
 an:jQ 0=gR 0
 jB:aG K w W
section
variable {K:Nat->Prop}{base:Nat}{w W:World}{G:Nat}{gR jQ:Nat->ay}{cb:Nat->Nat}{s:au}{F:List (List Int)}{ah:List Int}{c1 c2:Core}{aT:Nat}{lit:Int}{ls:List Nat}{k0 g0 jh iD jk i kl d:Nat}{kept:List Nat}
theorem mK.kJ(b:mK K base w G cb F ah s c1 gR aT lit ls k0 i kl kept c2 jQ W)(C:rR G gR c1 s lit ls k0 g0 jh iD jk):c2.n=s.c.n:=b.nO.sm.n.trans C.n
theorem mK.wo(b:mK K base w G cb F ah s c1 gR aT lit ls k0 i kl kept c2 jQ W)(C:rR G gR c1 s lit ls k0 g0 jh iD jk):c2.wt.length=2*s.c.n+2:=b.nO.sm.BC.trans C.wt
theorem mK.raw(b:mK K base w G cb F ah s c1 gR aT lit ls k0 i kl kept c2 jQ W)(C:rR G gR c1 s lit ls k0 g0 jh iD jk):(kM c2 k0 (kept++ls.drop kl)).wt.length=2*s.c.n+2:=by
 show(c2.wt.set _ _).length=_;rw[y_];exact b.wo C
theorem mK.Lt(b:mK K base w G cb F ah s c1 gR aT lit ls k0 i kl kept c2 jQ W)(C:rR G gR c1 s lit ls k0 g0 jh iD jk):c2.cl.length<=100000:=by have:=b.nO.sm.len;have:=C.cl;have:=C.DM;omega
theorem mK.BW(b:mK K base w G cb F ah s c1 gR aT lit ls k0 i kl kept c2 jQ W):kl<=i:=b.tg▸b.nO.kl
theorem mK.de(c:mK K base w G cb F ah s c1 gR aT lit ls k0 i kl kept c2 jQ W)(C:rR G gR c1 s lit ls k0 g0 jh iD jk):(jQ 0).b=some g0:=by rw[c.an];exact C.de
theorem mK.jU(c:mK K base w G cb F ah s c1 gR aT lit ls k0 i kl kept c2 jQ W)(C:rR G gR c1 s lit ls k0 g0 jh iD jk):(jQ (iI k0)).b=some jh:=by rw[c.hw,C.ag];rfl
theorem mK.rj(b:mK K base w G cb F ah s c1 gR aT lit ls k0 i kl kept c2 jQ W)(c:ls[i]? =some d):d<c2.cl.length/\2<=(az c2.cl d).length:=by
 obtain⟨e,rfl⟩:=j_.1 c;have:=b.nO.rj e;exact⟨this.1,this.2.1⟩
theorem mK.ok(b:mK K base w G cb F ah s c1 gR aT lit ls k0 i kl kept c2 jQ W)(C:rR G gR c1 s lit ls k0 g0 jh iD jk){k:Nat}(e:ls[i]? =some d)(hk:k<(az c2.cl d).length):gP s.c.n (ak (az c2.cl d) k):=by
 have:=(b.nO.gV.jS.mM d (b.rj e).1).lt _ (mc hk);rw[b.kJ C] at this;exact this
theorem mK.m(b:mK K base w G cb F ah s c1 gR aT lit ls k0 i kl kept c2 jQ W)(C:rR G gR c1 s lit ls k0 g0 jh iD jk)(c:ls[i]? =some d):(az c2.cl d).length<=120002:=by
 have:=(b.nO.gV.jS.mM d (b.rj c).1).len;rw[b.kJ C] at this;have:=C.av;omega
end
end
end Go.Proofs.YtogdlkfacflmaaaGreat
