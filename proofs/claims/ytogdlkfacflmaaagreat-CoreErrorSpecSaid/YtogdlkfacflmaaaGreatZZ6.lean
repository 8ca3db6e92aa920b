/- Parts of the walk of the solver and its core; no condition. -/
import Derived.Test.YtogdlkfacflmaaaGreatZZ5
import Derived.Test.YtogdlkfacflmaaaGreatZZ3
import Derived.ArgAppend
import Derived.Deep.DeepCutAuto
import Derived.WalkMore
import Derived.Test.YtogdlkfacflmaaaGreatZZ1
namespace Go.Proofs.YtogdlkfacflmaaaGreat
set_option linter.unusedVariables false
set_option linter.unusedSimpArgs false
set_option maxRecDepth 100000
set_option maxHeartbeats 2000000
open _root_.Array renaming getD_eq_getD_getElem?→z_,replicate→t_,all_eq_true_iff_forall_mem→q_,getElem?_eq_getElem→k_,mem_of_getElem?→b_
open _root_.List renaming length_set→y_,range→u_,getD_eq_getElem?_getD→s_,getElem?_map→r_,getElem?_range→p_,getElem?_eq_some_iff→j_,all_eq_true→i_,getElem?_eq_getElem→g_,length_cons→e_,set_set→d_,set_getElem_self→a_,map_set→Zv
open _root_.And renaming intro→x_
open _root_.Go.Region renaming binds→w_,wanted→m_,ready→Zy
open _root_.Go.Proofs.Tryz renaming prog→v_,f145→Zt
open _root_.Nat renaming le_refl→o_,eq_zero_or_pos→n_,zero_add→h_,lt_or_ge→Zz
open _root_.Go.Result renaming andThen_ok→l_
open _root_.Bool renaming and_eq_true→f_,or_eq_true→c_
open _root_.Go.Sem renaming run_bind→Zx,run_pure→Zw
open _root_.Go.Value renaming int→Zu
variable{v:Value}{ws:List (List Nat)}{iq Init:World->Prop}{G mK i id base:Nat}{dead:Nat->Option Nat}{w:World}{P:Program}{ops:Array Oper}{Q:Exit->Act->World->Prop}{a:Act}{s:aq}{o:Oper}{K:Nat->Prop}{hs:Nat->ax}{cb:Nat->Nat}
section
open Go.RowKit Go.Shelf
theorem Dj(k:Nat):qL (iF k)=164:=by
 unfold qL iF;rw[if_neg (by omega),if_neg (by omega),if_neg (by omega),if_neg (by omega),if_neg (by omega),if_neg (by omega),if_neg (by omega),if_neg (by omega),if_pos (by omega)];rfl
theorem zU(k:Nat):nE (iF k)=1:=by unfold nE iF;rw[if_neg (by omega)]
theorem Dk(k:Nat):qL (kI k)=3:=by
 unfold qL kI;rw[if_neg (by omega),if_neg (by omega),if_neg (by omega),if_neg (by omega),if_neg (by omega),if_neg (by omega),if_neg (by omega),if_neg (by omega),if_neg (by omega)]
theorem Bp(k:Nat):nE (kI k)=1:=by unfold nE kI;rw[if_neg (by omega)]
theorem vL(hs:Nat->ax)(cb:Nat->Nat)(s:aq)(k:Nat):cont hs cb s (iF k)=k3 cb (ay s.c.wt k):=by
 unfold cont iF;rw[if_neg (by omega),if_neg (by omega),if_neg (by omega),if_neg (by omega),if_neg (by omega),if_neg (by omega),if_neg (by omega),if_neg (by omega),if_neg (by omega),if_neg (by omega),if_neg (by omega),if_neg (by omega),if_neg (by omega),if_pos (by omega)];rw[show(13+3*k-13)/3=k by omega]
theorem xP(hs:Nat->ax)(cb:Nat->Nat)(s:aq)(k:Nat):cont hs cb s (kI k)=jc (ay s.c.cl k):=by
 unfold cont kI;rw[if_neg (by omega),if_neg (by omega),if_neg (by omega),if_neg (by omega),if_neg (by omega),if_neg (by omega),if_neg (by omega),if_neg (by omega),if_neg (by omega),if_neg (by omega),if_neg (by omega),if_neg (by omega),if_neg (by omega),if_neg (by omega),if_pos (by omega)];rw[show(14+3*k-14)/3=k by omega]
def aq.pR(s:aq)(k:Nat)(l:List Nat):aq:={s with c:={s.c with wt:=s.c.wt.set k l}}
theorem KG{f:Nat->Value}{n k:Nat}:((u_ n).map f).set k v=(u_ n).map (λ j=>if j=k then v else f j):=by
 refine List.ext_getElem? λ j=>?_
 rw[List.getElem?_set,r_,r_]
 by_cases a:j<n
 ·rw[p_ a]
  by_cases e:k=j
  ·subst e;simp[a]
  ·rw[if_neg e];simp[Ne.symm e]
 ·rw[List.getElem?_eq_none (by simpa using a)]
  by_cases e:k=j
  ·subst e;simp[a]
  ·rw[if_neg e];rfl
theorem KH(hs hs':Nat->ax)(cb:Nat->Nat)(s:aq){r:Nat}(a:r≠0):cont hs cb s r=cont hs' cb s r:=by
 unfold cont;rw[if_neg a,if_neg a]
theorem Ga(hs:Nat->ax)(cb:Nat->Nat)(s:aq){k r:Nat}{l:List Nat}(b:r≠0)(d:r≠iF k):cont hs cb (s.pR k l) r=cont hs cb s r:=by
 rcases Zz r 13 with h|h
 ·have:r=1\/r=2\/r=3\/r=4\/r=5\/r=6\/r=7\/r=8\/r=9\/r=10\/r=11\/r=12:=by omega
  rcases this with rfl|rfl|rfl|rfl|rfl|rfl|rfl|rfl|rfl|rfl|rfl|rfl<;>rfl
 ·have a0:¬r=0:=b;have a1:¬r=1:=by omega
  have a2:¬r=2:=by omega
  have a3:¬r=3:=by omega
  have a4:¬r=4:=by omega
  have a5:¬r=5:=by omega
  have e:¬r=6:=by omega
  have f:¬r=7:=by omega
  have g:¬r=8:=by omega
  have a9:¬r=9:=by omega
  have i:¬r=10:=by omega
  have j:¬r=11:=by omega
  have a12:¬r=12:=by omega
  unfold cont;simp only[a0,a1,a2,a3,a4,a5,e,f,g,a9,i,j,a12,if_false]
  by_cases hm:r%3=1
  ·rw[if_pos hm,if_pos hm];have:ay (s.pR k l).c.wt ((r-13)/3)=ay s.c.wt ((r-13)/3):=by
    show ay (s.c.wt.set k l) _=_;rw[qy,if_neg (λ m=>d (by unfold iF;omega))]
   rw[this]
  ·rw[if_neg hm,if_neg hm]
   by_cases a:r%3=2
   ·rw[if_pos a,if_pos a];rfl
   ·rw[if_neg a,if_neg a];rfl
section
variable {K:Nat->Prop}{base:Nat}{w bM W:World}{G:Nat}{hs:Nat->ax}{cb:Nat->Nat}{s:aq}
theorem jf.kG(h:jf base w G hs cb s):(hs 0).n=s.c.wt.length:=by
 have h1:=h.rows.len 0;rw[show(cont hs cb s 0).length=s.c.wt.length by simp[cont],show nE 0=1 from rfl] at h1;omega
theorem jf.zV(h:jf base w G hs cb s)(k:Nat):(hs (iF k)).n=(ay s.c.wt k).length:=by
 have h1:=h.rows.len (iF k);rw[vL,zU] at h1;simp[k3] at h1;omega
theorem jf.zW(h:jf base w G hs cb s)(k:Nat):(hs (kI k)).n=(ay s.c.cl k).length:=by
 have h1:=h.rows.len (kI k);rw[xP,Bp] at h1;simp[jc] at h1;omega
theorem jf.xQ(h:jf base w G hs cb s){g:Nat}(a:(hs 0).b=some g){k:Nat}(hk:k<s.c.wt.length):w.cell? ⟨g,k,none⟩=some (hs (iF k)).v:=h.get a (by
 show((u_ s.c.wt.length).map λ k=>(hs (iF k)).v)[k]? =_;rw[r_,p_ hk];rfl)
theorem jf.xR(h:jf base w G hs cb s){d g:Nat}(a:(hs (kI d)).b=some g){k:Nat}(hk:k<(ay s.c.cl d).length):w.cell? ⟨g,k,none⟩=some (.int .i64 (aj (ay s.c.cl d) k)):=h.get a (by
 rw[xP,ng hk];simp[jc,hk])
theorem aY.Dl{w1:World}(h:aY K base w G hs cb s){g0:Nat}(i:(hs 0).b=some g0){k:Nat}(hk:k<s.c.wt.length){h':ax}{l:List Nat}
  (m:kr base w1 G (iT hs (iF k) h') cb (qW hs s) (tv hs s) s.c.cl.length (iT (cont hs cb s) (iF k) (k3 cb l))) (n:Sep K w1 G (iT hs (iF k) h') cb s.c.cl.length):
  aY K base (w1.setCell ⟨g0,k,none⟩ h'.v) G (iT hs (iF k) h') cb (s.pR k l):=by
 have g:(0:Nat)≠iF k:=by unfold iF;omega
 have o:(iT hs (iF k) h' 0).b=some g0:=by rw[bk _ _ g];exact i
 refine⟨(m.cell o k h'.v).eq rfl rfl ?_ (λ d _=>?_) rfl (λ r=>?_),n.more (k8 w1 g0 k _).size⟩
 ·have e:∀r,r<13->iT hs (iF k) h' r=hs r:=λ r p=>bk _ _ (by unfold iF;omega)
  unfold qW oE;rw[e 0 (by omega),e 1 (by omega),e 2 (by omega),e 3 (by omega),e 4 (by omega),e 5 (by omega),e 6 (by omega),e 7 (by omega),e 8 (by omega),e 9 (by omega),e 10 (by omega),e 11 (by omega),e 12 (by omega)];rfl
 ·unfold tv;rw[bk _ _ (show kI d≠iF k by unfold kI iF;omega)];rfl
 ·by_cases a:r=0
  ·subst a;rw[jO,bk _ _ g];show((u_ s.c.wt.length).map λ j=>(hs (iF j)).v).set k h'.v=(u_ (s.c.wt.set k l).length).map λ j=>(iT hs (iF k) h' (iF j)).v
   rw[KG,y_];refine List.map_congr_left λ j _=>?_
   by_cases e:j=k
   ·subst e;rw[if_pos rfl,jO]
   ·rw[if_neg e,bk _ _ (show iF j≠iF k by unfold iF;omega)]
  ·rw[bk _ _ a]
   by_cases f:r=iF k
   ·subst f;rw[jO,vL];show _=k3 cb (ay (s.c.wt.set k l) k);rw[qy,if_pos ⟨rfl,hk⟩]
   ·rw[bk _ _ f];rw[KH (iT hs (iF k) h') hs cb _ a];exact(Ga hs cb s a f).symm
theorem aY.KI(h:aY K base w G hs cb s){g0:Nat}(a:(hs 0).b=some g0){k:Nat}(hk:k<s.c.wt.length){v':Value}{d:Nat}(o:nj w base 164 (hs (iF k)).v ((ay s.c.wt k).length+1) (k3 cb (ay s.c.wt k++[d])) v' bM):
  ∃h':ax,v'=h'.v/\h'.n=(ay s.c.wt k).length+1/\bM.cell? ⟨g0,k,none⟩=some (hs (iF k)).v/\(∀j,bM.frozen? ⟨g0,j,none⟩=false)/\bM.cell? ⟨G,1,none⟩=some (hs 0).v/\aY K base (bM.setCell ⟨g0,k,none⟩ v') G (iT hs (iF k) h') cb (s.pR k (ay s.c.wt k++[d]))/\aG K w (bM.setCell ⟨g0,k,none⟩ v'):=by
 obtain⟨f,i,p⟩:=o;have f:bM.ownsRow base (qL (iF k)) (nE (iF k)) v' ((ay s.c.wt k).length+1) (k3 cb (ay s.c.wt k++[d])):=by rw[Dj,zU];exact f
 obtain⟨h',rfl,q,g,t,u⟩:=kr.app h.e h.s (r:=iF k) f i p;have l:(0:Nat)≠iF k:=by unfold iF;omega
 have m:(iT hs (iF k) h' 0).b=some g0:=by rw[bk _ _ l];exact a
 refine⟨h',rfl,q,?_,λ j=>g.rows.free m j,(h.e.after (r:=iF k) (by rw[<-ax.own];exact i) 1).1.trans (h.e.kJ rfl),h.Dl a hk g t,u.trans (aG.set g0 k _ (h.s.row 0 g0 a))⟩;refine g.get m ?_;rw[bk _ _ l];show((u_ s.c.wt.length).map λ k=>(hs (iF k)).v)[k]? =_;rw[r_,p_ hk];rfl
theorem aY.Dm(h:aY K base w G hs cb s){g0 k d lK oa:Nat}{oJ:Option Addr}{v0 v':Value}(i:(hs 0).b=some g0)(hk:k<s.c.wt.length)(a:hs (iF k)=⟨oJ,lK,oa⟩)(f:lK=(ay s.c.wt k).length)(l:w.cell? ⟨G,1,none⟩=some v0)
  (g:nj w base 164 (.slice oJ lK oa) (lK+1) (k3 cb (ay s.c.wt k)++[.pointer (some ⟨cb d,0,none⟩)]) v' bM):
  ∃(A':Option Addr)(c':Nat),v'=.slice A' (lK+1) c'/\bM.cell? ⟨G,1,none⟩=some v0/\bM.cell? ⟨g0,k,none⟩=some (.slice oJ lK oa)/\(∀j,bM.frozen? ⟨g0,j,none⟩=false)/\aY K base (bM.setCell ⟨g0,k,none⟩ v') G (iT hs (iF k) ⟨A',lK+1,c'⟩) cb (s.pR k (ay s.c.wt k++[d]))/\aG K w (bM.setCell ⟨g0,k,none⟩ v'):=by
 obtain⟨⟨A',m,c'⟩,n,o,p,f9,q,r,t⟩:=h.KI (d:=d) i hk (v':=v') (bM:=bM) (by
  rw[a,<-f];rw[show k3 cb (ay s.c.wt k)++[Value.pointer (some ⟨cb d,0,none⟩)]=k3 cb (ay s.c.wt k++[d]) by simp[k3,sS]] at g;exact g)
 obtain rfl:m=lK+1:=by rw[f];exact o
 refine⟨A',c',n,?_,by rw[p,a];rfl,f9,r,t⟩;rw[q,<-l];exact(h.e.kJ rfl).symm
end
end
section
open Go.RowKit
def zX(ws:List (List Nat))(iq:World->Prop)(G:Nat->Value->World->Prop)(dead:Nat->Option Nat)(Init:World->Prop)(mK:Nat)(i:Nat)(w:World)(v:Value)(w':World):Prop:=
 iq w'/\G i v w'/\(∀j u,j≠i->dead j≠some i->o8 ws 8 j i=false->(∀c,dead j=some c->o8 ws 8 i c=false)->G j u w->G j u w')/\(i≠mK->o8 ws 8 i mK=false->Init w->Init w')
theorem zX.same{G:Nat->Value->World->Prop}(a:iq w)(h:G i v w):zX ws iq G dead Init mK i w v w:=⟨a,h,λ _ _ _ _ _ _ h=>h,λ _ _ h=>h⟩
theorem zX.more{G:Nat->Value->World->Prop}{w':World}(hm:∀j u w w',Below w.heap.size w w'->G j u w->G j u w')(b:∀w w',Below w.heap.size w w'->Init w->Init w')(a:Below w.heap.size w w')(c:iq w')(h:G i v w'):zX ws iq G dead Init mK i w v w':=⟨c,h,λ j u _ _ _ _ h=>hm j u w w' a h,λ _ _ h=>b w w' a h⟩
def yH(P:Program)(ds:List (Option Tmp))(ws:List (List Nat))(old:List (Tmp×Value))(iq:World->Prop)(G:Nat->Value->World->Prop)(dead:Nat->Option Nat)(Init:World->Prop)(mK:Nat)(i:Nat)(o:Oper):Prop:=
 ∀(vals:Nat->Value)(w:World)(a:Operand->Value),iq w->(o8 ws 8 mK i=true\/i=mK->Init w)->rU ds G dead i vals w a o.after.toList->rG ds ws i a old->rH a->
  bD P a o w (zX ws iq G dead Init mK i w)
def ug(P:Program)(ds:List (Option Tmp))(ws:List (List Nat))(old:List (Tmp×Value))(iq:World->Prop)(G:Nat->Value->World->Prop)(dead:Nat->Option Nat)(Init:World->Prop)(mK:Nat):Nat->List Oper->Prop
 |_,[]=>True
 |k,o::r=>yH P ds ws old iq G dead Init mK k o/\ug P ds ws old iq G dead Init mK (k+1) r
theorem ug.at{P:Program}{ds:List (Option Tmp)}{ws:List (List Nat)}{old:List (Tmp×Value)}{iq:World->Prop}{G:Nat->Value->World->Prop}{dead:Nat->Option Nat}{Init:World->Prop}{mK:Nat}:∀{l:List Oper}{k i:Nat}{o:Oper},ug P ds ws old iq G dead Init mK k l->l[i]? =some o->yH P ds ws old iq G dead Init mK (k+i) o
 |[],k,i,o,_,h=>by simp at h
 |x::l,k,0,o,hs,h=>by
  simp only[List.getElem?_cons_zero,Option.some.injEq] at h;subst h;exact hs.1
 |x::l,k,i+1,o,hs,h=>by
  rw[List.getElem?_cons_succ] at h;have:=ug.at hs.2 h
  rwa[show k+1+i=k+(i+1) by omega] at this
section
variable {P:Program}{l:List Oper}{Q:Exit->Act->World->Prop}{a:Act}{old:List (Tmp×Value)}{iq:World->Prop}{G:Nat->Value->World->Prop}{dead:Nat->Option Nat}{Init:World->Prop}{mK:Nat}
theorem KJ{ds:List (Option Tmp)}{ws:List (List Nat)}(R:ws=l.map λ o:Oper=>(o.after.toList.filter (w_ .any)).map (·.on))(C:ds=l.map λ o:Oper=>o.dst)(D:sn l.toArray=true)(y:qh l.toArray=true)(S:sq l.toArray a.tmps.size=true)
  (hold:p0 a.eval old)
  {i:Nat} {o:Oper} (p:l.toArray[i]? =some o) (E:yH P ds ws old iq G dead Init mK i o) {listed:Array Bool} {vals:Nat->Value} {w:World} {K:Act->World->Prop} (ao:listed.size=l.toArray.size) (T:iq w) (hF:ud G dead (gO listed) vals w) (F:gO listed mK=false->Init w)
  (U:i∈Zy .any l.toArray listed) (hC:q3 ws (gO listed))
  (V:∀v w',iq w'->q3 ws (gO (listed.setIfInBounds i true))->ud G dead (gO (listed.setIfInBounds i true)) (kU vals i v) w'->(gO (listed.setIfInBounds i true) mK=false->Init w')->K (jJ l.toArray (kU vals i v) (gO (listed.setIfInBounds i true)) a l.toArray.size) w'):
  wpOp P l.toArray Q i K (jJ l.toArray vals (gO listed) a l.toArray.size) w:=by
 obtain⟨h1,H,W,I,J⟩:=ue U;obtain rfl:o=W:=by rw[p] at I;injection I
 have f:i<listed.size:=by omega
 have n:gO listed i=false:=by
  unfold gO;rw[z_,k_ f] at H⊢;simpa using H
 unfold wpOp;simp only[p];have X:o.guard=none:=by
  unfold qh at y;rw[q_] at y;have:=y o (b_ p);simpa using this
 have hw:m_ o (yielded l.toArray (jJ l.toArray vals (gO listed) a l.toArray.size).tmps)=true:=by unfold m_;rw[X]
 rw[if_pos hw];left;unfold yH at E;have Y:=E vals w (jJ l.toArray vals (gO listed) a l.toArray.size).eval T (λ q=>F (by
  rcases q with q|q
  ·cases d:gO listed mK with
   |false=>rfl
   |true=>
    have:=hC.reach 8 mK i d q;rw[n] at this;cases this
  ·rw[<-q];exact n)) (rU.of λ e he z=>by
  have hl:=J e (Array.mem_toList_iff.1 he) z;have Z:e.on<l.toArray.size:=by
   rcases Zz e.on listed.size with h|h
   ·omega
   ·rw[z_,Array.getElem?_eq_none h] at hl;cases hl
  refine⟨λ r=>hF e.on hl λ c d=>?_,λ s hs=>?_⟩
  ·rcases r with r|r
   ·rw[r] at d;cases d
   ·rw[r] at d;injection d with d
    rw[<-d];exact n
  ·rw[C,<-wD] at hs;exact yw hs (A8 S hs) hl (λ k hk=>wB D hk hs) _ Z) (rG.of (λ s hs=>yu (λ j s' hl b A=>by
   injection A with A
   subst A;rw[wD,<-C] at b;have:=hC j i hl (A7 hs b);rw[n] at this;cases this) _) hold) (rH.act _)
 refine Y.wp λ v w' ⟨aa,ab,ad,ae⟩=>?_
 have af:(jJ l.toArray vals (gO listed) a l.toArray.size).put o.dst v=jJ l.toArray (kU vals i v) (gO (listed.setIfInBounds i true)) a l.toArray.size:=by
  rw[oF f];have ag:oo l.toArray i=o.dst:=by unfold oo;rw[p];rfl
  have:=zC (ops:=l.toArray) (vals:=vals) (L:=gO listed) (a:=a) (i:=i) (v:=v) (λ j b s hs=>wB D b hs) n l.toArray.size h1;rw[ag] at this;exact this
 rw[af];have B:q3 ws (gO (listed.setIfInBounds i true)):=by
  rw[oF f];intro j k b M;unfold lI at b⊢
  by_cases e:k=i
  ·rw[if_pos e]
  ·rw[if_neg e]
   by_cases g:j=i
   ·subst g;obtain⟨aq,u,ah,ai,z,aj⟩:=xH R M;rw[p] at u;injection u with u
    subst u;have:=J ah ai z;rw[aj] at this;exact this
   ·rw[if_neg g] at b;exact hC j k b M
 have ak:gO (listed.setIfInBounds i true) mK=false->Init w':=λ h=>by
  rw[oF f] at h;unfold lI at h
  by_cases e:mK=i
  ·rw[if_pos e] at h;cases h
  ·rw[if_neg e] at h;refine ae (λ g=>e g.symm) ?_ (F h)
   cases t:o8 ws 8 i mK with
   |false=>rfl
   |true=>
    have m:=B.reach 8 i mK (by rw[oF f];unfold lI;rw[if_pos rfl]) t;rw[oF f] at m;unfold lI at m;rw[if_neg e,h] at m;cases m
 refine V v w' aa B (λ j b x=>?_) ak;rw[oF f] at b x
 by_cases e:j=i
 ·subst e;have g:kU vals j v j=v:=by unfold kU;rw[if_pos rfl]
  rw[g];exact ab
 ·have g:kU vals i v j=vals j:=by unfold kU;rw[if_neg e]
  have al:lI (gO listed) i j=gO listed j:=by unfold lI;rw[if_neg e]
  rw[g];rw[al] at b;refine ad j _ e (λ an=>?_) ?_ (λ c d=>?_) (hF j b λ c d=>?_)
  ·have:=x i an;unfold lI at this;rw[if_pos rfl] at this;cases this
  ·cases t:o8 ws 8 j i with
   |false=>rfl
   |true=>
    have:=hC.reach 8 j i b t;rw[n] at this;cases this
  ·cases t:o8 ws 8 i c with
   |false=>rfl
   |true=>
    have N:=x c d;have m:=B.reach 8 i c (by rw[oF f];unfold lI;rw[if_pos rfl]) t;rw[oF f] at m;rw[m] at N;cases N
  ·have:=x c d;unfold lI at this
   by_cases O:c=i
   ·rw[if_pos O] at this;cases this
   ·rw[if_neg O] at this;exact this
def Bq(ws:List (List Nat))(n:Nat):Bool:=(u_ n).all λ j=>o8 ws 8 n j
theorem KK{ds:List (Option Tmp)}{ws:List (List Nat)}(y:ws=l.map λ o:Oper=>(o.after.toList.filter (w_ .any)).map (·.on))(J:ds=l.map λ o:Oper=>o.dst)(n:Nat)(hlen:l.length=n+1)(K:sn l.toArray=true)(q:qh l.toArray=true)(L:sq l.toArray a.tmps.size=true)(M:uJ l.toArray=true)(t:Bq ws n=true)(hold:p0 a.eval old)
  (N:ug P ds ws old iq G dead Init mK 0 (l.take n))
  (O:∀o vals w,l[n]? =some o->iq w->(∀j,j<n->dead j=none->G j (vals j) w)->bD P (jJ l.toArray vals (mm n) a n).eval o w λ v w'=>Q .normal ((jJ l.toArray vals (mm n) a n).put o.dst v) w'):
  ∀(fuel:Nat)(listed:Array Bool)(vals:Nat->Value)(w:World),listed.size=l.toArray.size->oq l.toArray listed<=fuel->0<oq l.toArray listed->gO listed n=false->q3 ws (gO listed)->iq w->ud G dead (gO listed) vals w->(gO listed mK=false->Init w)->
   wpAny P .any l.toArray Q fuel listed (jJ l.toArray vals (gO listed) a l.toArray.size) w:=by
 intro fuel
 induction fuel with
 |zero=>intro listed vals w p R S;omega
 |succ fuel T=>
  intro listed vals w p R S z hC A hF U;refine⟨λ h=>by have:=Ba M p h;omega,λ i B=>?_⟩;obtain⟨h1,V,o,d,W⟩:=ue B;have C:i<listed.size:=by omega
  have ao:i<l.length:=by simpa using h1
  have D:l[i]? =some o:=by rw[List.getElem?_toArray] at d;exact d
  by_cases E:i=n
  ·subst E;have F:∀k,qZ ws i k=true->gO listed k=true:=λ k h=>by
    obtain⟨aq,s,e,he,X,Y⟩:=xH y h;rw[d] at s;injection s with s
    subst s;have:=W e he X;rw[Y] at this;exact this
   have u:∀j,j<i->gO listed j=true:=λ j f=>by
    unfold Bq at t;simp only[i_,List.mem_range] at t;have b:=t j f;unfold o8 at b;rw[c_] at b;rcases b with b|b
    ·exact F j b
    ·obtain⟨k,hk,Z⟩:=List.any_eq_true.1 b;exact hC.reach 7 k j (F k (by unfold qZ;simpa using hk)) Z
   have aa:jJ l.toArray vals (gO listed) a l.toArray.size=jJ l.toArray vals (mm i) a i:=by
    have ab:l.toArray.size=i+1:=by simp[hlen]
    rw[ab];simp only[jJ];rw[z];simp only[Bool.false_eq_true,if_false];exact zH i λ j f=>by rw[u j f];unfold mm;simp[f]
   rw[aa];unfold wpOp;simp only[d];have ad:o.guard=none:=by
    unfold qh at q;rw[q_] at q;have:=q o (b_ d);simpa using this
   have hw:m_ o (yielded l.toArray (jJ l.toArray vals (mm i) a i).tmps)=true:=by unfold m_;rw[ad]
   rw[if_pos hw];left;refine(O o vals w D A λ j f ae=>hF j (u j f) λ c H=>by rw[ae] at H;cases H).wp λ v w' af=>?_
   refine wpAny_done ?_ af _;rcases ag:Zy .any l.toArray (listed.setIfInBounds i true) with _|⟨k,r⟩
   ·rfl
   ·have hk:k∈Zy .any l.toArray (listed.setIfInBounds i true):=by rw[ag];simp
    obtain⟨b,g,_⟩:=ue hk;exfalso;have ar:k<i+1:=by simpa[hlen] using b
    by_cases e:k=i
    ·subst e;rw[z_,Array.getElem?_setIfInBounds_self_of_lt C] at g
     cases g
    ·have m:=u k (by omega);rw[z_,Array.getElem?_setIfInBounds_ne (λ x=>e x.symm)] at g;unfold gO at m;rw[z_] at m;have ah:k<listed.size:=by omega
     rw[k_ ah] at g m;simp at g m;rw[g] at m;cases m
  ·have ai:yH P ds ws old iq G dead Init mK i o:=by
    have b:(l.take n)[i]? =some o:=by rw[List.getElem?_take,if_pos (by omega)];exact D
    have:=ug.at N b
    rwa[h_] at this
   refine KJ y J K q L hold d ai p A hF U B hC λ v w' aj ak al an=>?_
   have I:gO (listed.setIfInBounds i true) n=false:=by
    rw[oF C];unfold lI;rw[if_neg (λ e=>E e.symm)];exact z
   refine T _ _ w' (by simp[p]) (by have:=A9 (ops:=l.toArray) h1 V;omega) ?_ I ak aj al an;rcases n_ (oq l.toArray (listed.setIfInBounds i true)) with b|b
   ·have:=wE (ops:=l.toArray) (listed:=listed.setIfInBounds i true) (by simp[p]) b n (by simp[hlen]);rw[I] at this;cases this
   ·exact b
end
theorem zY(l:List Oper)(n N:Nat)(ds:List (Option Tmp))(ws:List (List Nat))(old:List (Tmp×Value))(iq:World->Prop)(G:Nat->Value->World->Prop)(dead:Nat->Option Nat)(Init:World->Prop)(mK:Nat)
  (p:ops=l.toArray) (hm:P.follows .mixedOrders=true)
  (h:ds=l.map λ o:Oper=>o.dst) (q:ws=l.map λ o:Oper=>(o.after.toList.filter (w_ .any)).map (·.on)) (hlen:l.length=n+1) (r:sn l.toArray=true) (s:qh l.toArray=true) (t:uJ l.toArray=true) (u:Bq ws n=true) (x:sq l.toArray N=true)
  (y:a.tmps.size=N) (hold:p0 a.eval old) (z:iq w.drew) (A:Init w.drew)
  (B:ug P ds ws old iq G dead Init mK 0 (l.take n))
  (ol:Oper) (C:l[n]? =some ol) (D:∀vals w,iq w->(∀j,j<n->dead j=none->G j (vals j) w)->∀f,ot (ds.take n) 0 vals a=f->bD P f.eval ol w λ v w'=>Q .normal (f.put ol.dst v) w'):(Code.region id ops true).wp P Q a w:=by
 subst p;subst y;refine wp_region_any hm ?_;have E:∀o vals w,l[n]? =some o->iq w->(∀j,j<n->dead j=none->G j (vals j) w)->bD P (jJ l.toArray vals (mm n) a n).eval o w λ v w'=>Q .normal ((jJ l.toArray vals (mm n) a n).put o.dst v) w':=by
  intro o vals w d F H;rw[C] at d;injection d with d
  subst d;rw[zG l vals a n n (o_ _) (by omega),<-h];exact D vals w F H _ rfl
 have b:∀k,gO (t_ l.toArray.size false) k=false:=λ k=>by
  unfold gO;rw[z_,Array.getElem?_replicate];split<;>rfl
 have e:a=jJ l.toArray (λ _=>undef) (gO (t_ l.toArray.size false)) a l.toArray.size:=by
  have:∀k,jJ l.toArray (λ _=>undef) (gO (t_ l.toArray.size false)) a k=a:=by
   intro k
   induction k with
   |zero=>rfl
   |succ k I=>
    simp only[jJ];rw[b k,I];simp
  exact(this _).symm
 have m:=KK (P:=P) (Q:=Q) (a:=a) (iq:=iq) (G:=G) (dead:=dead) (Init:=Init) (mK:=mK) q h n hlen r s x t u hold B E l.toArray.size (t_ l.toArray.size false) (λ _=>undef) w.drew (by simp)
  (by unfold oq;exact Nat.le_trans (List.length_filter_le _ _) (by simp)) ?_ (b n) (λ j i c=>by rw[b j] at c;cases c) z (λ j c=>by rw[b j] at c;cases c) (λ _=>A)
 ·rw[<-e] at m;exact m
 ·rcases n_ (oq l.toArray (t_ l.toArray.size false)) with g|g
  ·have:=wE (ops:=l.toArray) (listed:=t_ l.toArray.size false) (by simp) g n (by simp[hlen]);rw[b n] at this;cases this
  ·exact g
end
section
open Go.RowKit
def wL:Code->Nat->Option (List Oper)
 | .region id ops _,k=>if id=k then some ops.toList else none
 | .seq x y,k=>(wL x k).or (wL y k)
 | .cond _ x y,k=>(wL x k).or (wL y k)
 | .block _ x,k=>wL x k
 | .loop x,k=>wL x k
 | .scope x,k=>wL x k
 |_,_=>none
def Dn(f:Func)(k:Nat):List Oper:=(f.body.bind λ c=>wL c k).getD []
def oW(ds:List (Option Tmp))(cs:List Value)(a b:Nat)(c:Operand->Value):List Edge->Prop
 |[]=>True
 |e::r=>(w_ .any e=true->e.on≠a->e.on≠b->∀s,qY ds e.on=some s->c (.tmp s)=cs.getD e.on undef)/\oW ds cs a b c r
def KL(P:Program)(ds:List (Option Tmp))(ws:List (List Nat))(old:List (Tmp×Value))(S:World->Prop)(cs:List Value)(b:World)(lq kX i:Nat)(o:Oper):Prop:=
 ∀(a:Operand->Value)(w:World),S w->(o8 ws 8 lq i=true->w=b)->oW ds cs lq kX a o.after.toList->p0 a old->rH a->bD P a o w λ v w'=>v=cs.getD i undef/\w'=w
def Br(P:Program)(ds:List (Option Tmp))(ws:List (List Nat))(old:List (Tmp×Value))(S:World->Prop)(cs:List Value)(a:World)(lq kX:Nat):Nat->List Oper->Prop
 |_,[]=>True
 |k,o::r=>(k≠lq->k≠kX->KL P ds ws old S cs a lq kX k o)/\Br P ds ws old S cs a lq kX (k+1) r
def zZ(ds:List (Option Tmp))(old:List (Tmp×Value)):Bool:=old.all λ p=>ds.all λ d=>d !=some p.1
theorem KM{ds:List (Option Tmp)}{s:Tmp}(h:(ds.all λ d=>d !=some s)=true):yx ds ws i s=true:=by
 unfold yx;rw[i_];intro j a;rw[List.mem_range] at a;rw[i_] at h;have:=h ds[j] (List.getElem_mem a);rw[c_];left;unfold qY;rw[s_,g_ a];exact this
theorem rG.ok{ds:List (Option Tmp)}{ws:List (List Nat)}{i:Nat}{az:Operand->Value}:∀{old:List (Tmp×Value)},zZ ds old=true->rG ds ws i az old->p0 az old
 |[],_,_=>trivial
 |p::r,h,a=>by
  unfold zZ at h;rw[List.all_cons,f_] at h;exact⟨a.1 (KM h.1),rG.ok (old:=r) h.2 a.2⟩
theorem gL.mono{P:Program}{p q:Value->World->Prop}(a:∀v w,p v w->q v w):∀{r:Result Next},gL P p r->gL P q r:=by
 intro r h;unfold gL at*;split at h<;>first|exact a _ _ h|exact Calls.mono h (λ e w' ⟨v,h1,b⟩=>⟨v,h1,a _ _ b⟩)|exact h.elim
theorem bD.mono{P:Program}{az:Operand->Value}{o:Oper}{w:World}{p q:Value->World->Prop}(h:bD P az o w p)(a:∀v w,p v w->q v w):bD P az o w q:=gL.mono a h
theorem tD{az:Operand->Value}{post:Value->World->Prop}(f:FuncId)(xs:Array Operand)(a:Array TypeId)(b:o.op=.call {callee:=.value (.func f),args:=xs,argTypes:=a})(he:∀args w,(callFunc f args).run P w=.ok (.enter f args) w)(hp:rH az)
  (h:Calls P f (xs.map az) w λ e w'=>∃v,e=.returned v/\post v w'):bD P az o w post:=by
 unfold bD;simp only[execOp,b,resolve,hp.2.2 f,Deferred.ofValue,invoke,Zx,Zw,l_,Array.append_empty,Array.empty_append,he,gL];exact h
section
variable {P:Program}{ds:List (Option Tmp)}{ws:List (List Nat)}{old:List (Tmp×Value)}{S:World->Prop}{cs:List Value}{lq kX:Nat}{jw:World}{aN:Value->World->Prop}
def sr(cs:List Value)(lq kX:Nat)(jw:World)(aN:Value->World->Prop)(j:Nat)(v:Value)(w:World):Prop:=
 if j=kX then aN v w else if j=lq then v=cs.getD lq undef/\w=jw else v=cs.getD j undef
def wM(lq kX:Nat)(j:Nat):Option Nat:=if j=lq then some kX else none
theorem oW.of{i:Nat}{vals:Nat->Value}{w:World}{az:Operand->Value}(b:i≠kX):∀{l:List Edge},rU ds (sr cs lq kX jw aN) (wM lq kX) i vals w az l->oW ds cs lq kX az l
 |[],_=>trivial
 |e::r,h=>⟨λ c h1 d s hs=>by
  obtain⟨a,f⟩:=h.1 c;have a:=a (Or.inl (if_neg h1));unfold sr at a;rw[if_neg d,if_neg h1] at a;rw[f s hs,a],oW.of b h.2⟩
theorem oW.Gb{vals:Nat->Value}{w:World}{az:Operand->Value}(d:lq≠kX):∀{l:List Edge},rU ds (sr cs lq kX jw aN) (wM lq kX) kX vals w az l->oW ds cs kX kX az l
 |[],_=>trivial
 |e::r,h=>⟨λ f h1 _ s hs=>by
  obtain⟨a,g⟩:=h.1 f;have a:=a (by unfold wM;by_cases c:e.on=lq;exact .inr (if_pos c);exact .inl (if_neg c));unfold sr at a;rw[if_neg h1] at a;rw[g s hs]
  by_cases b:e.on=lq
  ·rw[if_pos b] at a;rw[a.1,b]
  ·rw[if_neg b] at a;exact a,oW.Gb d h.2⟩
theorem oW.world{vals:Nat->Value}{w:World}{az:Operand->Value}(b:lq≠kX):∀{l:List Edge},(l.any λ e=>w_ .any e&&e.on==lq)=true->rU ds (sr cs lq kX jw aN) (wM lq kX) kX vals w az l->w=jw
 |[],h,_=>by cases h
 |e::r,h,c=>by
  rw[List.any_cons,c_] at h;rcases h with h|h
  ·rw[f_,beq_iff_eq] at h;have a:=(c.1 h.1).1 (.inr (by unfold wM;rw[if_pos h.2]));unfold sr at a;rw[if_neg (by rw[h.2];exact b),if_pos h.2] at a;exact a.2
  ·exact oW.world b h c.2
theorem Gc{kO:World}(f:lq≠kX)(t:zZ ds old=true)(c:o8 ws 8 kX lq=true)
  (G:S kO) (x:S jw) (y:∀v w',aN v w'->S w') {l:List Oper}
  (z:∀o,l[kX]? =some o->(o.after.toList.any λ e=>w_ .any e&&e.on==lq)=true)
  (A:∀o,l[lq]? =some o->∀a,oW ds cs lq kX a o.after.toList->p0 a old->rH a->bD P a o kO λ v w'=>v=cs.getD lq undef/\w'=jw)
  (B:∀o,l[kX]? =some o->∀a,oW ds cs kX kX a o.after.toList->p0 a old->rH a->bD P a o jw aN)
  (H:Br P ds ws old S cs kO lq kX 0 l):
  ∀(r:List Oper)(k:Nat),(∀j,r[j]? =l[k+j]?)->Br P ds ws old S cs kO lq kX k r->ug P ds ws old S (sr cs lq kX jw aN) (wM lq kX) (λ w=>w=kO) lq k r
 |[],_,_,_=>trivial
 |o::r,k,hl,hs=>by
  refine⟨?_,Gc f t c G x y z A B H r (k+1) (λ j=>by rw[<-show(o::r)[j+1]? =r[j]? from rfl,hl (j+1)];congr 1;omega) hs.2⟩;intro vals w a C D d I hp;have i:=rG.ok t I;have m:l[k]? =some o:=by have:=hl 0;simpa using this.symm
  by_cases b:k=kX
  ·subst b;have hw:=oW.world f (z o m) d;subst hw;have g:=B o m a (oW.Gb f d) i hp;refine bD.mono g λ v w' h=>⟨y v w' h,by unfold sr;rw[if_pos rfl];exact h,λ j u n J _ _ p=>?_,λ _ E=>by rw[c] at E;cases E⟩
   unfold sr at*;rw[if_neg n] at*;have q:j≠lq:=λ e=>J (by unfold wM;rw[if_pos e])
   rw[if_neg q] at*;exact p
  ·by_cases s:k=lq
   ·subst s;have hw:=D (.inr rfl);subst hw;have g:=A o m a (oW.of b d) i hp;refine bD.mono g λ v w' h=>?_
    obtain⟨rfl,rfl⟩:=h;refine⟨x,by unfold sr;rw[if_neg b,if_pos rfl];exact⟨rfl,rfl⟩,λ j u n _ F _ p=>?_,λ h=>absurd rfl h⟩;have q:j≠kX:=λ e=>by rw[e,c] at F;cases F
    unfold sr at*;rw[if_neg q,if_neg n] at*;exact p
   ·have g:=hs.1 s b a w C (λ c=>D (.inl c)) (oW.of b d) i hp;refine bD.mono g λ v w' h=>?_
    obtain⟨rfl,rfl⟩:=h;exact .same C (by unfold sr;rw[if_neg b,if_neg s])
end
theorem z1(l:List Oper)(n lq kX N:Nat)(ds:List (Option Tmp))(ws:List (List Nat))(old:List (Tmp×Value))(S:World->Prop)(cs:List Value)(jw:World)(aN:Value->World->Prop)
  (y:ops=l.toArray) (hm:P.follows .mixedOrders=true)
  (z:ds=l.map λ o:Oper=>o.dst) (A:ws=l.map λ o:Oper=>(o.after.toList.filter (w_ .any)).map (·.on)) (hlen:l.length=n+1) (p:(sn l.toArray&&qh l.toArray&&uJ l.toArray&&Bq ws n&&sq l.toArray N&&zZ ds old&&o8 ws 8 kX lq&&decide (lq<kX)&&decide (kX<n)&&((l.getD kX default).after.toList.any λ e=>w_ .any e&&e.on==lq))=true)
  (B:a.tmps.size=N) (hold:p0 a.eval old) (q:S w.drew) (C:S jw) (D:∀v w',aN v w'->S w')
  (E:∀b,oW ds cs lq kX b (l.getD lq default).after.toList->p0 b old->rH b->bD P b (l.getD lq default) w.drew λ v w'=>v=cs.getD lq undef/\w'=jw)
  (F:∀b,oW ds cs kX kX b (l.getD kX default).after.toList->p0 b old->rH b->bD P b (l.getD kX default) jw aN)
  (s:Br P ds ws old S cs w.drew lq kX 0 (l.take n))
  (G:∀u v w',aN v w'->∀c,ot (ds.take n) 0 (kU (kU (λ j=>cs.getD j undef) lq u) kX v) a=c->bD P c.eval (l.getD n default) w' λ v w'=>Q .normal (c.put (l.getD n default).dst v) w'):(Code.region id ops true).wp P Q a w:=by
 simp only[f_,decide_eq_true_eq] at p;obtain⟨⟨⟨⟨⟨⟨⟨⟨⟨c1,c2⟩,c3⟩,H⟩,I⟩,J⟩,K⟩,Y⟩,L⟩,M⟩:=p;have m:∀k o,l[k]? =some o->l.getD k default=o:=λ k o h=>by rw[s_,h];rfl
 have gt:∀k o,(l.take n)[k]? =some o->l[k]? =some o/\k<n:=λ k o h=>by
  rw[List.getElem?_take] at h;split at h
  ·exact⟨h,by assumption⟩
  ·cases h
 have O:l[n]? =some (l.getD n default):=by rw[s_,g_ (by omega)];rfl
 refine zY l n N ds ws old S (sr cs lq kX jw aN) (wM lq kX) (λ w'=>w'=w.drew) lq y hm z A hlen c1 c2 c3 H I B hold q rfl (Gc (l:=l.take n) (by omega) J K q C D ?_ ?_ ?_ s _ 0 (λ j=>by rw[h_]) s) _ O ?_
 ·intro o h;rw[<-m _ _ (gt _ _ h).1];exact M
 ·intro o h;rw[<-m _ _ (gt _ _ h).1];exact E
 ·intro o h;rw[<-m _ _ (gt _ _ h).1];exact F
 ·intro vals w' Z t c R;have T:∀j,j<n->vals j=kU (kU (λ j=>cs.getD j undef) lq (vals lq)) kX (vals kX) j:=λ j U=>by
   unfold kU
   by_cases e:j=kX
   ·rw[if_pos e,e]
   ·rw[if_neg e]
    by_cases i:j=lq
    ·rw[if_pos i,i]
    ·rw[if_neg i];have:=t j U (if_neg i);unfold sr at this
     rwa[if_neg e,if_neg i] at this
  have V:aN (vals kX) w':=by
   have:=t kX L (if_neg (by omega));unfold sr at this
   rwa[if_pos rfl] at this
  refine G (vals lq) (vals kX) w' V c ?_;rw[<-R];have W:∀(r:List (Option Tmp))(k:Nat)(f g:Nat->Value)(a:Act),(∀j,k<=j->j<k+r.length->f j=g j)->ot r k f a=ot r k g a:=by
   intro r
   induction r with
   |nil=>intros;rfl
   |cons d r X=>
    intro k f g a h;rw[ot,ot,h k (o_ _) (by rw[e_];omega)];exact X _ _ _ _ λ j h1 x=>h j (by omega) (by rw[e_];omega)
  exact(W _ _ _ _ _ λ j _ x=>T j (by rw[List.length_take] at x;omega)).symm
end
section
open Go.RowKit Go.Shelf
def uh(s:aq)(l:List Int)(d:Nat):Nat->aq
 |0=>s
 |j+1=>(uh s l d j).pR (jM (-(aj l j))) (ay (uh s l d j).c.wt (jM (-(aj l j)))++[d])
theorem Gd(s:aq)(l:List Int)(d:Nat):uh s l d 2={s with c:={s.c with wt:=wq s.c.wt l d}}:=rfl
theorem Bt:∀args w,(callFunc 181 args).run v_ w=.ok (.enter 181 args) w:=enters_of Tryz.func181 (by kernel_rfl) rfl
theorem Ge(s:aq)(l:List Int)(d:Nat):∀j,(uh s l d j).c.wt.length=s.c.wt.length
 |0=>rfl
 |j+1=>by show(List.set _ _ _).length=_;rw[y_];exact Ge s l d j
theorem Gf(s:aq)(l:List Int)(d:Nat):∀j,(uh s l d j).c.cl=s.c.cl
 |0=>rfl
 |j+1=>Gf s l d j
theorem Gg(s:aq)(l:List Int)(d k:Nat):∀j,(ay (uh s l d j).c.wt k).length<=(ay s.c.wt k).length+j
 |0=>o_ _
 |j+1=>by
  have:=Gg s l d k j;show(ay (List.set _ _ _) k).length<=_;rw[qy];split
  ·rename_i h;rw[List.length_append,h.1];simp only[List.length_singleton];omega
  ·omega
def KN(K:Nat->Prop)(base:Nat)(w:World)(G:Nat)(cb:Nat->Nat)(s s':aq)(e:Ending)(w':World):Prop:=
 e=.returned (.tuple #[])/\∃hs',aY K base w' G hs' cb s'/\aG K w w'
def KO(K:Nat->Prop)(base:Nat)(w:World)(G:Nat)(cb:Nat->Nat)(s s':aq)(d:Nat)(a:ax)(e:Ending)(w':World):Prop:=
 e=.returned (.tuple #[])/\∃hs',aY K base w' G hs' cb s'/\aG K w w'/\hs' (kI d)=a
theorem Gh(h:aY K base w G hs cb s){d:Nat}(a:d<s.c.cl.length)(y:2<=(ay s.c.cl d).length)(hl:∀x∈ay s.c.cl d,gK s.c.n x)(a7:s.c.n<=60000)(ag:s.c.wt.length=2*s.c.n+2)(z:∀k,(ay s.c.wt k).length<=1000000):
  Calls v_ 180 #[.pointer (some ⟨G,0,none⟩),.pointer (some ⟨cb d,0,none⟩)] w (KO K base w G cb s (uh s (ay s.c.cl d) d 2) d (hs (kI d))):=by
 obtain⟨ah,-,-,-,aD⟩:=h.zR a;obtain⟨m0,D⟩:∃m0,(ay s.c.cl d).length=m0:=⟨_,rfl⟩
 obtain⟨bH,aE,R,ai⟩:=h.e.wF (r:=kI d) (m:=m0) ((h.e.zW d).trans D) (by omega);have cap:=h.e.xN R;rw[h.e.zW,D] at cap;rw[ai] at ah;obtain⟨S,ak⟩:∃S,(hs (kI d)).c=S:=⟨_,rfl⟩
 rw[ak] at ah cap;have lc:(2:Int)<=(S:Int):=by omega
 have H:=U h;have aF:=U R;have L:=U (x_ D (x_ hl (x_ a (x_ y (x_ ag z)))));clear h R D hl a y ag z ai aE ak aD;go_enter Tryz.func180,Tryz.ntmps180
 go_wp2_with fail
 go_loopw [5,12] (λ _ T W=>∃(j:Nat)(g:Nat->ax),j<=2/\T=.int .i64 j/\g 0=hs 0/\g (kI d)=hs (kI d)/\aY K base W G g cb (uh s (ay s.c.cl d) d j)/\aG K w W) (λ _ T _=>2-(intOf T).toNat)
 case atStart=>exact⟨0,hs,by omega,rfl,rfl,rfl,H.o,aG.refl⟩
 case round=>
  obtain⟨j,g,aH,rfl,al,h1,an,hF⟩:=hrel;have E:=U an;have F:=U hF;have I:=U (x_ al h1);clear an hF al h1
  by_cases ao:j<2
  ·have aI:(j:Int)<2:=by omega
   have ar:=U ao;obtain⟨s1,B⟩:∃s1,uh s (ay s.c.cl d) d j=s1:=⟨_,rfl⟩
   have t:bJ (aY K base wr G g cb s1):=U (B▸E.o);have J:s1.c.cl=s.c.cl:=by rw[<-B];exact Gf _ _ _ _
   have z:s1.c.wt.length=2*s.c.n+2:=by rw[<-B,Ge];exact L.o.2.2.2.2.1
   obtain⟨x,M⟩:∃x,aj (ay s.c.cl d) j=x:=⟨_,rfl⟩
   have V:j<(ay s.c.cl d).length:=by have:=L.o;omega
   have Y:gK s.c.n x:=by rw[<-M];exact L.o.2.1 _ (lZ V)
   have a8: -60000<=x/\x<=60000:=by have:=Y.2;unfold aC at this;omega
   obtain⟨k,hk⟩:∃k:Nat,jM (-x)=k:=⟨_,rfl⟩
   have aJ:k<2*s.c.n+2:=by rw[<-hk];exact Y.neg.at
   have au:(g (kI d)).b=some bH:=by rw[I.o.2];exact aF.o
   have aK:=t.o.e.xR au (k:=j) (by rw[J];exact V);rw[J,M] at aK;obtain⟨g0,Z,aL,f0⟩:=t.o.e.lV 1 0 rfl (t.o.e.kG.trans z) (by omega);have N:=t.o.e.xQ Z (k:=k) (by omega);obtain⟨i,f,l,O⟩:∃A n c,g (iF k)=⟨A,n,c⟩:=⟨_,_,_,rfl⟩
   have aa:f=(ay s1.c.wt k).length:=by have:=t.o.e.zV k;rw[O] at this;exact this
   rw[O] at N;have N:wr.cell? ⟨g0,k,none⟩=some (.slice i f l):=N;have av:f<=1000002:=by rw[aa,<-B];have:=Gg s (ay s.c.cl d) d k j;have:=L.o.2.2.2.2.2 k;omega
   have wn:IntKind.i64.wrap (-x)= -x:=IntWalk.i64_in _ (by omega);have aw:(k:Int)<2*(s.c.n:Int)+2:=by omega
   have C:=U Z;have X:=U (x_ B (x_ M (x_ hk (x_ O (x_ aa (x_ av (x_ J z)))))));clear aH ao B M V Y hk aJ au Z O aa av J z
   go_upto_region 3 with fail
   have p:=U (t.o.below ((bz wr (.cells #[.pointer (some ⟨cb d,0,none⟩)] 164)).drew));have hp:((wr.alloc (.cells #[.pointer (some ⟨cb d,0,none⟩)] 164)).drew).cell? ⟨wr.heap.size,0,none⟩=some (.pointer (some ⟨cb d,0,none⟩)):=by go_simp
   have aM:=U (q8.one hp);have aN:bJ (((wr.alloc (.cells #[.pointer (some ⟨cb d,0,none⟩)] 164)).drew).ownsRow base 164 1 (.slice i f l) f (k3 cb (ay s1.c.wt k))):=U (by
    have:=p.o.1.e.rows.row (iF k);rw[Dj,zU,X.o.2.2.2.1,vL] at this;exact this)
   have aO:=U (Nat.le_of_lt p.o.1.e.lt);clear hp;have ab:bJ (k<s1.c.wt.length):=U (by rw[X.o.2.2.2.2.2.2.2];have:=aw;omega);have aP:bJ (∀w:World,Calls v_ 181 #[.int .i64 (-x)] w λ e w'=>e=.returned (.int .i64 (k:Int))/\w=w'):=U (λ w=>by have:=C6 (-x) w (by omega) (by omega);rw[X.o.2.2.1] at this;exact this);have aQ:bJ (uh s (ay s.c.cl d) d (j+1)=s1.pR k (ay s1.c.wt k++[d])):=U (by show(uh s (ay s.c.cl d) d j).pR _ _=_;rw[X.o.1,X.o.2.1,X.o.2.2.1]);have a':G≠g0:=t.o.e.uc 0 g0 C.o;have aR:wr.drew.cell? ⟨g0,k,none⟩=some (.slice i f l):=N;have P:=p.o.1.e.xQ C.o (k:=k) ab.o;rw[X.o.2.2.2.1] at P;have P:((wr.alloc (.cells #[.pointer (some ⟨cb d,0,none⟩)] 164)).drew).cell? ⟨g0,k,none⟩=some (.slice i f l):=P;have ad:=p.o.1.e.q5 1 C.o (p.o.1.e.kG.trans X.o.2.2.2.2.2.2.2) rfl;have aS:wr.drew.cell? ⟨G,1,none⟩=some (.slice (some ⟨g0,0,none⟩) (2*s.c.n+2) (g 0).c):=aL;have ba:((wr.alloc (.cells #[.pointer (some ⟨cb d,0,none⟩)] 164)).drew).heap.size=wr.heap.size+1:=by simp
   refine z1 (rV Tryz.f180 3) 20 17 18 37 [some 16,some 17,some 18,some 19,some 20,some 21,some 22,some 23,some 24,some 25,some 26,some 27,some 28,some 29,some 30,some 31,some 32,some 33,some 34,some 35,none] _ [(0,.pointer (some ⟨G,0,none⟩)),(1,.pointer (some ⟨(cb d),0,none⟩)),(5,.int .i64 x)] (λ w':World=>w'.cell? ⟨G,1,none⟩=some (.slice (some ⟨g0,0,none⟩) (2*s.c.n+2) (g 0).c)/\w'.cell? ⟨g0,k,none⟩=some (.slice i f l)) [.pointer (some ⟨G,0,none⟩),.pointer (some ⟨G,0,none⟩),.pointer (some ⟨G,1,none⟩),.slice (some ⟨g0,0,none⟩) (2*s.c.n+2) (g 0).c,.int .i64 x,.int .i64 (-x),.int .i64 (k:Int),.pointer (some ⟨G,0,none⟩),.pointer (some ⟨G,0,none⟩),.pointer (some ⟨G,1,none⟩),.slice (some ⟨g0,0,none⟩) (2*s.c.n+2) (g 0).c,.int .i64 x,.int .i64 (-x),.int .i64 (k:Int),.pointer (some ⟨g0,k,none⟩),.slice i f l,.pointer (some ⟨(cb d),0,none⟩),.slice (some ⟨wr.heap.size,0,none⟩) 1 1,undef,.pointer (some ⟨g0,k,none⟩)] ((wr.alloc (.cells #[.pointer (some ⟨cb d,0,none⟩)] 164)).drew) (λ v w'=>nj ((wr.alloc (.cells #[.pointer (some ⟨cb d,0,none⟩)] 164)).drew) base 164 (.slice i f l) (f+1) (k3 cb (ay s1.c.wt k)++[.pointer (some ⟨cb d,0,none⟩)]) v w') (by kernel_rfl) (by kernel_rfl) (by kernel_rfl) rfl (by kernel_rfl) (by kernel_rfl) rfl ⟨rfl,rfl,rfl,trivial⟩ ⟨aS,aR⟩ ⟨ad,P⟩ (λ v w' ae=>?_) (λ q a Q hp=>?_) (λ q a Q hp=>?_) ?_ ?_
   ·obtain⟨A',c',rfl,az,af,-⟩:=aY.Dm (d:=d) p.o.1 C.o ab.o X.o.2.2.2.1 X.o.2.2.2.2.1 ad ae;exact⟨az,af⟩
   ·obtain⟨-,aA,-⟩:=Q;have a:q (.tmp 32)=_:=(a.1 rfl (by decide) (by decide) _ rfl)
    change q (.tmp 32)=.pointer (some ⟨cb d,0,none⟩) at a;show bD _ _ (Oper.mk _ _ _ _ _ _) _ _;simp[bD,execOp,gL,go_sem,a]
   ·have h1:q (.tmp 31)=.slice i f l:=a.1 rfl (by decide) (by decide) _ rfl;have y:q (.tmp 33)=.slice (some ⟨wr.heap.size,0,none⟩) 1 1:=a.2.1 rfl (by decide) (by decide) _ rfl;obtain⟨v',w',g1,g2⟩:=Dd ((wr.alloc (.cells #[.pointer (some ⟨cb d,0,none⟩)] 164)).drew) 160 base (.slice i f l) f (k3 cb (ay s1.c.wt k)) aN.o (some ⟨wr.heap.size,0,none⟩) 1 1 _ aM.o (by have:=X.o.2.2.2.2.2.1;omega) aO.o;show bD _ _ (Oper.mk _ _ _ _ _ _) _ _;simp only[bD,execOp,resolve,invoke,builtin,Zx,Zw,l_,List.map_toArray,List.map_cons,List.map_nil,h1,y,g1,gL];exact g2
   ·refine⟨?_,?_,?_,?_,?_,?_,?_,?_,?_,?_,?_,?_,?_,?_,?_,?_,?_,?_,?_,?_,trivial⟩
    all_goals
     intro h1 y q w aT _ a Q hp
     first
      |exact absurd rfl h1
      |exact absurd rfl y
      |(obtain⟨aU,aA,aV,-⟩:=Q;obtain⟨s1,s2⟩:=aT;(try simp[oW,qY,w_] at a);simp[bD,execOp,gL,go_sem,aU,aA,aV,a,s1,s2,wn,aw];done)
      |((try simp[oW,qY,w_] at a);(first|refine tD 181 #[.tmp 21] #[3] rfl Bt hp ?_|refine tD 181 #[.tmp 28] #[3] rfl Bt hp ?_);(first|rw[show(#[Operand.tmp 21].map q)= #[.int .i64 (-x)] by simp[a]]|rw[show(#[Operand.tmp 28].map q)= #[.int .i64 (-x)] by simp[a]]);exact(aP.o w).mono λ e w' h=>⟨_,h.1,rfl,h.2.symm⟩)
   intro u v9 bM ae bb aB;obtain⟨A',c',rfl,az,af,f9,aW,aX⟩:=aY.Dm (d:=d) p.o.1 C.o ab.o X.o.2.2.2.1 X.o.2.2.2.2.1 ad ae;have aZ:=f9 k;simp[ot,Act.put,kU] at aB;subst aB;show bD _ _ (Oper.mk _ _ _ _ _ _) _ _;simp[bD,execOp,gL,go_sem,Act.eval,af,aZ];have a6:=F.o.trans (p.o.2.trans aX);have bc:IntKind.i64.wrap ((j:Int)+1)=(j:Int)+1:=IntWalk.i64_in _ (by omega);go_wp2;go_roundw
   case rel=>exact⟨j+1,_,by have:=ar.o;omega,by go_num,(bk _ _ (show(0:Nat)≠iF k by unfold iF;omega)).trans I.o.1,(bk _ _ (show kI d≠iF k by unfold iF kI;omega)).trans I.o.2,by rw[aQ.o];exact aW,a6⟩
   case measure=>have:=ar.o;simp[intOf];omega
  ·obtain rfl:j=2:=by omega
   have aI:¬((2:Nat):Int)<2:=by omega
   go_wp2_with fail
   go_end0;exact⟨rfl,g,E.o,F.o,I.o.2⟩
theorem KP(h:aY K base w G hs cb s){d:Nat}(b:d<s.c.cl.length)(a:2<=(ay s.c.cl d).length)(hl:∀x∈ay s.c.cl d,gK s.c.n x)(f:s.c.n<=60000)(g:s.c.wt.length=2*s.c.n+2)(i:∀k,(ay s.c.wt k).length<=1000000):
  Calls v_ 180 #[.pointer (some ⟨G,0,none⟩),.pointer (some ⟨cb d,0,none⟩)] w (KN K base w G cb s (uh s (ay s.c.cl d) d 2)):=
 (Gh h b a hl f g i).mono λ e w' ⟨h1,hs',a,j,_⟩=>⟨h1,hs',a,j⟩
end
section
open Go.RowKit Go.Shelf
theorem KQ(w:World)(ty:TypeId)(g kl cap:Nat)(b off m c:Nat)(f:List Value)(a:q8 w (some ⟨b,off,none⟩) m c f)(i:kl+m<=cap)(h:∀j,j<m->(w.cell? ⟨g,kl+j,none⟩).isSome=true)(k:∀j,w.frozen? ⟨g,j,none⟩=false):
  (Builtin.append_ #[160,160] ty #[.slice (some ⟨g,0,none⟩) kl cap,.slice (some ⟨b,off,none⟩) m c]).run v_ w=.ok (.slice (some ⟨g,0,none⟩) (kl+m) cap) (w.setCells g kl f):=by
 obtain⟨i0,l,o,e,q⟩:=info_parts FX;have:=run_append_room_cells (P:=v_) w 160 ty 164 i0 Tryz.underlying160 l g 0 kl cap ⟨b,off,none⟩ m c f (by rw[e,a.len,Nat.mul_one]) (λ j u d=>by
  have r:j<m:=by have:=(j_.1 d).1;simpa[a.len] using this
  obtain⟨s,t,he,h⟩:=a.cells (by omega);injection he with he
  injection he with h1 n
  subst h1 n;rw[Addr.add_lit];exact h j u d) (λ u hu=>by obtain⟨p,rfl⟩:=a.ptr u hu;rfl) i (λ j d=>by
   rw[e,Nat.mul_one,h_];exact h j (by rw[<-a.len];exact d)) (λ j d=>by rw[e];exact k _)
 rw[e,Nat.mul_one,h_] at this;exact this
theorem Dp{rest:List Oper}(e:o.guard=none)(s x:Operand)
  (f:o.op=.call {callee:=.builtin .append,args:= #[s,x],argTypes:= #[160,160]}) (g kl cap b off m c:Nat) (d:List Value) (hs:a.eval s=.slice (some ⟨g,0,none⟩) kl cap) (i:a.eval x=.slice (some ⟨b,off,none⟩) m c)
  (k:q8 w (some ⟨b,off,none⟩) m c d) (l:kl+m<=cap) (n:∀j,j<m->(w.cell? ⟨g,kl+j,none⟩).isSome=true) (p:∀j,w.frozen? ⟨g,j,none⟩=false)
  (h:wpList v_ ops Q rest (a.put o.dst (.slice (some ⟨g,0,none⟩) (kl+m) cap)) (w.setCells g kl d)):
  wpList v_ ops Q (o::rest) a w:=by
 have h1:=KQ w o.type g kl cap b off m c d k l n p;refine wpList_plain e λ K q=>?_
 unfold Oper.wp;simp only[execOp,f,resolve,invoke,builtin,Zx,Zw,l_,List.map_toArray,List.map_cons,List.map_nil,hs,i,h1];exact q _ _ h
def sW:List Nat->Nat->List Nat->List Nat
 |raw,_,[]=>raw
 |raw,j,x::l=>sW (raw.set j x) (j+1) l
theorem Gi:∀(l raw:List Nat)(j:Nat),(sW raw j l).length=raw.length
 |[],_,_=>rfl
 |x::l,raw,j=>by rw[sW,Gi l,y_]
theorem Gj:∀(l raw:List Nat)(j:Nat),j+l.length<=raw.length->(sW raw j l).take (j+l.length)=raw.take j++l
 |[],raw,j,_=>by simp[sW]
 |x::l,raw,j,h=>by
  rw[e_] at h⊢;have h1:=Gj l (raw.set j x) (j+1) (by rw[y_];omega);rw[sW,show j+(l.length+1)=j+1+l.length by omega,h1];have a:j<(raw.set j x).length:=by rw[y_];omega
  rw[List.take_succ_eq_append_getElem a,List.getElem_set_self,List.take_set_of_le (o_ _),List.append_assoc];rfl
section
variable {K:Nat->Prop}{base:Nat}{w bM W:World}{G:Nat}{hs:Nat->ax}{cb:Nat->Nat}{s:aq}
theorem KR{s:aq}{k:Nat}(hk:k<s.c.wt.length):s.pR k (ay s.c.wt k)=s:=by
 have e:s.c.wt.set k (ay s.c.wt k)=s.c.wt:=by rw[Ff hk,a_]
 show{s with c:={s.c with wt:=s.c.wt.set k (ay s.c.wt k)}}=s;rw[e]
theorem KS(s:aq)(k:Nat)(a b:List Nat):(s.pR k a).pR k b=s.pR k b:=by
 simp[aq.pR,d_]
theorem Gk{s:aq}{k:Nat}(hk:k<s.c.wt.length)(l:List Nat):ay (s.pR k l).c.wt k=l:=by
 show ay (s.c.wt.set k l) k=l;rw[qy,if_pos ⟨rfl,hk⟩]
theorem aY.KT(h:aY K base w G hs cb s){k g:Nat}(f:(hs (iF k)).b=some g)(hk:k<s.c.wt.length)(j d:Nat):aY K base (w.setCell ⟨g,j,none⟩ (sS cb d)) G hs cb (s.pR k ((ay s.c.wt k).set j d))/\aG K w (w.setCell ⟨g,j,none⟩ (sS cb d)):=by
 refine⟨⟨(h.e.cell f j (sS cb d)).eq rfl rfl rfl (λ _ _=>rfl) rfl (λ r=>?_),h.s.more (k8 w g j _).size⟩,aG.set g j _ (h.s.row _ g f)⟩
 by_cases a:r=iF k
 ·subst a;rw[jO,vL,vL,Gk hk];simp[k3,Zv]
 ·rw[bk _ _ a]
  by_cases i:r=0
  ·subst i;show((u_ s.c.wt.length).map λ j=>(hs (iF j)).v)=(u_ (s.c.wt.set k _).length).map λ j=>(hs (iF j)).v
   rw[y_]
  ·exact(Ga hs cb s i a).symm
theorem aY.Dq:∀(l:List Nat){w:World}{s:aq}(h:aY K base w G hs cb s){k g:Nat}(a:(hs (iF k)).b=some g)(hk:k<s.c.wt.length)(j:Nat),aY K base (w.setCells g j (k3 cb l)) G hs cb (s.pR k (sW (ay s.c.wt k) j l))/\aG K w (w.setCells g j (k3 cb l))
 |[],w,s,h,k,g,a,hk,j=>by
  rw[sW,KR hk];exact⟨h,aG.refl⟩
 |d::l,w,s,h,k,g,a,hk,j=>by
  have h1:=h.KT a hk j d;have e:=aY.Dq l h1.1 a (by show k<(s.c.wt.set k _).length;rw[y_];exact hk) (j+1);rw[Gk hk,KS] at e;exact⟨e.1,h1.2.trans e.2⟩
theorem aY.KU(h:aY K base w G hs cb s){g0 k m:Nat}(a:(hs 0).b=some g0)(hk:k<s.c.wt.length)(hm:m<=(ay s.c.wt k).length):
  aY K base (w.setCell ⟨g0,k,none⟩ (.slice (hs (iF k)).A m (hs (iF k)).c)) G (iT hs (iF k) ⟨(hs (iF k)).A,m,(hs (iF k)).c⟩) cb (s.pR k ((ay s.c.wt k).take m))/\aG K w (w.setCell ⟨g0,k,none⟩ (.slice (hs (iF k)).A m (hs (iF k)).c)):=by
 refine⟨?_,aG.set g0 k _ (h.s.row 0 g0 a)⟩
 cases d:(hs (iF k)).b with
 |some g=>
  refine h.Dl a hk (h':=⟨(hs (iF k)).A,m,(hs (iF k)).c⟩) ?_ (h.s.cut m);refine(kr.cut h.e d (k:=m) (by rw[h.e.zV];exact hm)).eq rfl rfl rfl (λ _ _=>rfl) rfl (λ r=>?_)
  by_cases e:r=iF k
  ·subst e;rw[jO,jO,zU,vL];simp[k3]
  ·rw[bk _ _ e,bk _ _ e]
 |none=>
  have f:(hs (iF k)).n=0:=by
   rcases n_ (hs (iF k)).n with i|i
   ·exact i
   ·obtain⟨g,_,j⟩:=h.e.rows.addr (r:=iF k) (by omega);rw[d] at j;cases j
  have hl:ay s.c.wt k=[]:=List.eq_nil_of_length_eq_zero (by rw[<-h.e.zV,f]);have p:m=0:=by rw[hl] at hm;simpa using hm
  subst p;have o:(⟨(hs (iF k)).A,0,(hs (iF k)).c⟩:ax)=hs (iF k):=by rw[<-f]
  have q:Value.slice (hs (iF k)).A 0 (hs (iF k)).c=(hs (iF k)).v:=by rw[<-o];rfl
  have hu:iT hs (iF k) (hs (iF k))=hs:=funext λ r=>by
   by_cases e:r=iF k
   ·subst e;rw[jO]
   ·rw[bk _ _ e]
  have:=h.Dl a hk (h':=hs (iF k)) (w1:=w) (l:=ay s.c.wt k) (by
   rw[hu];refine h.e.eq rfl rfl rfl (λ _ _=>rfl) rfl (λ r=>?_)
   by_cases e:r=iF k
   ·subst e;rw[jO,vL]
   ·rw[bk _ _ e]) (by rw[hu];exact h.s)
  rw[o,q,List.take_zero];rw[hl] at this;exact this
def aq.su(s:aq)(d:Nat)(l:List Int):aq:={s with c:=lJ s.c d l}
theorem KV(hs:Nat->ax)(cb:Nat->Nat)(s:aq){d r:Nat}{l:List Int}(b:r≠kI d):cont hs cb (s.su d l) r=cont hs cb s r:=by
 rcases Zz r 13 with h|h
 ·have:r=0\/r=1\/r=2\/r=3\/r=4\/r=5\/r=6\/r=7\/r=8\/r=9\/r=10\/r=11\/r=12:=by omega
  rcases this with rfl|rfl|rfl|rfl|rfl|rfl|rfl|rfl|rfl|rfl|rfl|rfl|rfl<;>rfl
 ·have a0:¬r=0:=by omega
  have a1:¬r=1:=by omega
  have a2:¬r=2:=by omega
  have a3:¬r=3:=by omega
  have a4:¬r=4:=by omega
  have a5:¬r=5:=by omega
  have e:¬r=6:=by omega
  have f:¬r=7:=by omega
  have g:¬r=8:=by omega
  have a9:¬r=9:=by omega
  have i:¬r=10:=by omega
  have j:¬r=11:=by omega
  have a12:¬r=12:=by omega
  unfold cont;simp only[a0,a1,a2,a3,a4,a5,e,f,g,a9,i,j,a12,if_false]
  by_cases hm:r%3=1
  ·rw[if_pos hm,if_pos hm];rfl
  ·rw[if_neg hm,if_neg hm]
   by_cases a:r%3=2
   ·rw[if_pos a,if_pos a];have:ay (s.su d l).c.cl ((r-14)/3)=ay s.c.cl ((r-14)/3):=by
     show ay (s.c.cl.set d l) _=_;rw[qy,if_neg (λ k=>b (by unfold kI;omega))]
    rw[this]
   ·rw[if_neg a,if_neg a];rfl
theorem aY.Gl(h:aY K base w G hs cb s){d g:Nat}(f:(hs (kI d)).b=some g)(i:d<s.c.cl.length)(j:Nat)(x:Int):aY K base (w.setCell ⟨g,j,none⟩ (.int .i64 x)) G hs cb (s.su d ((ay s.c.cl d).set j x))/\aG K w (w.setCell ⟨g,j,none⟩ (.int .i64 x)):=by
 refine⟨⟨(h.e.cell f j (.int .i64 x)).eq rfl rfl rfl (λ _ _=>rfl) (qU _ _ _).symm (λ r=>?_),?_⟩,aG.set g j _ (h.s.row _ g f)⟩
 ·by_cases a:r=kI d
  ·subst a;rw[jO,xP,xP];show _=jc (ay (s.c.cl.set d _) d);rw[qy,if_pos ⟨rfl,i⟩];simp[jc,Zv]
  ·rw[bk _ _ a];exact(KV hs cb s a).symm
 ·show Sep K _ G hs cb (lJ s.c d _).cl.length;rw[qU];exact h.s.more (k8 w g j _).size
end
end
section
section
variable {F Fd:List (List Int)}{c:Core}{h:Nat}{P:List Nat}
theorem kC.yI(L:kC F Fd c h P)(x:Nat):kC F Fd {c with ag:=x} h P:=
 ⟨⟨L.aK.ru,L.aK.o7,L.aK.pK,L.aK.lit,L.aK.nc,L.aK.tR,L.aK.pos,L.aK.qT,L.aK.om,L.aK.mA,L.aK.pY⟩,⟨L.jN.mF,L.jN.imp,L.jN.tn,L.jN.tq,L.jN.tr⟩,⟨L.wt.qI,L.wt.qJ,L.wt.sO,L.wt.uG⟩,L.rz,L.rA,L.cur,L.hle⟩
theorem ym.nt(W:ym c)(k:Nat):(ay c.wt k).length<=c.cl.length:=xC _ _ (W.sO k) (λ d a=>(W.qJ k d a).1)
theorem oD.len{n:Nat}{l:List Int}(h:oD n l):l.length<=2*n+2:=by
 have:=xC (2*n+2) (l.map jM) (by
  have:=h.nc;rw[List.nodup_iff_pairwise_ne] at this⊢;exact List.Pairwise.map _ (λ a b c e=>c (vw e)) this) (λ x d=>by
  obtain⟨y,f,rfl⟩:=List.mem_map.1 d;exact(h.lt y f).at)
 rwa[List.length_map] at this
def kH(c:Core)(k:Nat)(l:List Nat):Core:={c with wt:=c.wt.set k l}
theorem Bu{k:Nat}(hk:k<c.wt.length):kH c k (ay c.wt k)=c:=by
 show{c with wt:=c.wt.set k (ay c.wt k)}=c;rw[Ff hk,a_]
theorem Dr(k:Nat)(a b:List Nat):kH (kH c k a) k b=kH c k b:=by simp[kH,d_]
theorem KW{k0 ky d k:Nat}{ir raw:List Nat}(a:jM (-(w1 c d))=k0)(b:jM (-(aj (ay c.cl d) k))=ky)(e:ky≠k0):
  kH (rQ c d k ir) k0 raw=kH (lJ (kH c k0 raw) d (kQ (ay c.cl d) 1 k)) ky (ay c.wt ky++[d]):=by
 unfold rQ kH lJ;simp only[a,b]
 congr 1
 rw[List.set_comm _ _ e,d_]
end
structure z7(F:List (List Int))(jS:List Int)(bf c:Core)(h:Nat):Prop where
 gR:kC F F c h []
 jS:nr c jS
 sm:tA bf c
end
section
open Go.RowKit Go.Shelf
section
variable {K:Nat->Prop}{base:Nat}{w W:World}{G:Nat}{hs:Nat->ax}{cb:Nat->Nat}{s:aq}
theorem Bv(h:aY K base w G hs cb s)(x:Int)(o:Option Nat)(T:j6 s.c)(a:gK s.c.n x)(d:s.c.n<=60000)(b:s.c.st.length<=1000000):
  Calls v_ 156 #[.pointer (some ⟨G,0,none⟩),.int .i64 x,qM cb o] w λ e w'=>e=.returned (.tuple #[])/\∃h':ax,aY K base w' G (iT hs 4 h') cb {s with c:=lp s.c x o}/\aG K w w':=by
 have f:=a.2;have g:=T.len;refine(J9 h.e (Nat.le_of_lt h.e.lt) x o (by rw[T.ru];omega) (by rw[T.o7];omega) (by rw[T.pK];omega) (by omega) (by omega) b).mono ?_;rintro e w' ⟨he,h',E,F,aa⟩;exact⟨he,h',⟨E,(h.s.ja (h.s.aa aa)).more F.size⟩,aG.FD F h.s⟩
theorem Bw(h:aY K base w G hs cb s)(T:j6 s.c)(b:s.c.n<=60000){x:Int}(a:gK s.c.n x):Calls v_ 152 #[.pointer (some ⟨G,0,none⟩),.int .i64 x] w λ e w'=>e=.returned (.int .i8 (j9 s.c x))/\w=w':=
 J7 h.e x (by rw[T.ru];have:=a.2;omega) T.tR (by have:=a.2;omega)
theorem Gm{n:Nat}{x:Int}(a:gK n x)(b:n<=60000)(w:World):Calls v_ 181 #[.int .i64 x] w λ e w'=>e=.returned (.int .i64 (jM x))/\w=w':=
 C6 x w (by have:=a.2;unfold aC at this;omega) (by have:=a.2;unfold aC at this;omega)
end
def Ds(w:World)(p:Addr):Nat:=match w.cell? p with
 |some (.int _ x)=>x.toNat
 |_=>0
theorem aY.yJ(h:aY K base w G hs cb s):Ds w ⟨G,7,none⟩=s.c.ag:=by
 unfold Ds;rw[h.e.kJ (k:=7) (v:=.int .i64 s.c.ag) rfl];simp
theorem Bx{c2:Core}{k0 g0 kl ir jd:Nat}{oZ:Option Addr}{raw kept:List Nat}
  (E:aY K base w G hs cb {s with c:=kH c2 k0 raw}) (d:(hs 0).b=some g0) (hk:k0<c2.wt.length) (f:hs (iF k0)=⟨oZ,ir,jd⟩) (g:raw.take kl=kept) (hle:kl<=raw.length) (h:ay c2.wt k0=kept):
  aY K base ((w.setCell ⟨g0,k0,none⟩ (.slice oZ kl jd)).drew) G (iT hs (iF k0) ⟨oZ,kl,jd⟩) cb {s with c:=c2}/\aG K w ((w.setCell ⟨g0,k0,none⟩ (.slice oZ kl jd)).drew):=by
 have a:ay (kH c2 k0 raw).wt k0=raw:=by show ay (c2.wt.set k0 raw) k0=raw;rw[qy,if_pos ⟨rfl,hk⟩]
 have h1:=E.KU d (k:=k0) (m:=kl) (by show k0<(c2.wt.set k0 raw).length;rw[y_];exact hk) (by show kl<=(ay (kH c2 k0 raw).wt k0).length;rw[a];exact hle);rw[f] at h1;have e:(({s with c:=kH c2 k0 raw}:aq).pR k0 ((ay ({s with c:=kH c2 k0 raw}:aq).c.wt k0).take kl))={s with c:=c2}:=by
  show({s with c:=kH (kH c2 k0 raw) k0 ((ay (kH c2 k0 raw).wt k0).take kl)}:aq)=_;rw[a,g,Dr,<-h,Bu hk]
 rw[e] at h1;exact⟨h1.1.drew,h1.2.trans aG.drew⟩
def KX(K:Nat->Prop)(base:Nat)(w:World)(G:Nat)(cb:Nat->Nat)(F:List (List Int))(a:List Int)(s:aq)(e:Ending)(w':World):Prop:=
 ∃(p:Option Nat)(c':Core)(hs':Nat->ax)(h':Nat),e=.returned (qM cb p)/\z7 F a s.c c' h'/\aY K base w' G hs' cb {s with c:=c'}/\aG K w w'/\
  (match p with
   |none=>h'=c'.av.length/\c'.ag=h'
   |some d=>d<c'.cl.length/\∀x∈ay c'.cl d,-x∈c'.av)
end
section
open Go.RowKit Go.Shelf
section
variable {K:Nat->Prop}{base:Nat}{w bM W:World}{G:Nat}{hs:Nat->ax}{cb:Nat->Nat}{s:aq}
structure yK(base:Nat)(w:World)(G:Nat)(hs:Nat->ax)(cb:Nat->Nat)(d bH m aV:Nat)(l:List Int):Prop where
 b:(hs (kI d)).b=some bH
 len:l.length=m
 cap:m<=aV
 ag:w.cell? ⟨cb d,0,none⟩=some (.slice (some ⟨bH,0,none⟩) m aV)
 kL:∀j,j<m->w.cell? ⟨bH,j,none⟩=some (.int .i64 (aj l j))
 mB:∀j,w.frozen? ⟨bH,j,none⟩=false
 ne:cb d≠bH
theorem aY.yL(h:aY K base w G hs cb s){d:Nat}(b:d<s.c.cl.length)(l:1<=(ay s.c.cl d).length):∃bH m g,yK base w G hs cb d bH m g (ay s.c.cl d):=by
 obtain⟨bH,n,a,i⟩:=h.e.wF (r:=kI d) (h.e.zW d) (by omega);have cap:=h.e.xN a;rw[h.e.zW] at cap;have f:=(h.zR b).1;rw[i] at f;exact⟨bH,_,_,a,rfl,cap,f,λ j k=>h.e.xR a k,λ j=>h.e.rows.free a j,h.e.xG b _ _ a⟩
theorem aY.Dt(h:aY K base w G hs cb s){k g:Nat}(a:(hs (iF k)).b=some g){j d:Nat}(f:(ay s.c.wt k)[j]? =some d):w.cell? ⟨g,j,none⟩=some (.pointer (some ⟨cb d,0,none⟩)):=h.e.get a (by
 rw[vL];simp[k3,f,sS])
theorem aY.Gn(h:aY K base w G hs cb s){g0 k d lK oa:Nat}{oJ:Option Addr}{v0 v':Value}(g:(hs 0).b=some g0)(hk:k<s.c.wt.length)(a:hs (iF k)=⟨oJ,lK,oa⟩)(i:lK=(ay s.c.wt k).length)(l:w.cell? ⟨G,1,none⟩=some v0)
  (f:nj w base 164 (.slice oJ lK oa) (lK+1) (k3 cb (ay s.c.wt k)++[.pointer (some ⟨cb d,0,none⟩)]) v' bM):
  ∃(A':Option Addr)(c':Nat),v'=.slice A' (lK+1) c'/\bM.cell? ⟨G,1,none⟩=some v0/\bM.cell? ⟨g0,k,none⟩=some (.slice oJ lK oa)/\(∀j,bM.frozen? ⟨g0,j,none⟩=false)/\
   (∀b,b<w.heap.size->(hs (iF k)).b≠some b->∀j,bM.cell? ⟨b,j,none⟩=w.cell? ⟨b,j,none⟩)/\aY K base (bM.setCell ⟨g0,k,none⟩ v') G (iT hs (iF k) ⟨A',lK+1,c'⟩) cb (s.pR k (ay s.c.wt k++[d]))/\aG K w (bM.setCell ⟨g0,k,none⟩ v'):=by
 obtain⟨A',c',m,n,o,f9,E,F⟩:=h.Dm g hk a i l f;refine⟨A',c',m,n,o,f9,λ b p q j=>?_,E,F⟩;have r:=f.2.1;refine World.cell?_of_block (r.block b p (λ e=>q ?_));have:(hs (iF k)).b=(Value.slice oJ lK oa).ownBlock:=by rw[<-ax.own,a];rfl
 rw[this];exact e.symm
theorem KY{kept ls:List Nat}{kl d:Nat}(h:kept.length=kl)(hl:kl<ls.length):(kept++ls.drop kl).set kl d=(kept++[d])++ls.drop (kl+1):=by
 subst h;rw[List.set_append_right _ _ (o_ _),Nat.sub_self,List.drop_eq_getElem_cons hl,List.set_cons_zero,List.append_assoc];rfl
theorem Du{c:Core}{k:Nat}{l:List Nat}(T:j6 c):j6 (kH c k l):=⟨T.ru,T.o7,T.pK,T.lit,T.nc,T.tR,T.pos,T.qT,T.om,T.mA,T.pY⟩
theorem aY.Gp(h:aY K base w G hs cb s){d bH i j:Nat}(f:(hs (kI d)).b=some bH)(a:d<s.c.cl.length){x y:Int}(g:aj (ay s.c.cl d) i=x)(k:aj (ay s.c.cl d) j=y):
  aY K base (((w.setCell ⟨bH,i,none⟩ (.int .i64 y)).setCell ⟨bH,j,none⟩ (.int .i64 x)).drew) G hs cb (s.su d (kQ (ay s.c.cl d) i j))/\aG K w (((w.setCell ⟨bH,i,none⟩ (.int .i64 y)).setCell ⟨bH,j,none⟩ (.int .i64 x)).drew):=by
 have h1:=h.Gl f a i y;have l:d<(s.su d ((ay s.c.cl d).set i y)).c.cl.length:=by show d<(lJ s.c d _).cl.length;rw[qU];exact a
 have e:=h1.1.Gl f l j x;have m:ay (s.su d ((ay s.c.cl d).set i y)).c.cl d=(ay s.c.cl d).set i y:=by show ay (s.c.cl.set d _) d=_;rw[qy,if_pos ⟨rfl,a⟩]
 have n:((s.su d ((ay s.c.cl d).set i y)).su d (((ay s.c.cl d).set i y).set j x))=s.su d (kQ (ay s.c.cl d) i j):=by
  unfold aq.su lJ kQ;rw[g,k];simp[d_]
 rw[m,n] at e;exact⟨e.1.drew,h1.2.trans (e.2.trans aG.drew)⟩
end
end
section
open Go.RowKit Go.Shelf
section
variable {K:Nat->Prop}{base:Nat}{w W W' rI:World}{G:Nat}{hs hs':Nat->ax}{cb rT:Nat->Nat}{s s':aq}{ls:Nat->ax}{X:Nat->List Value}
theorem lC.app(h:lC K base w W G hs cb s ls X){r:Nat}(d:xO r=3){xs:List Int}{x:Int}{v':Value}(f:nj W w.heap.size 3 (ls r).v ((ls r).n+1) ((xs++[x]).map (Zu .i64)) v' rI):
  ∃h':ax,v'=h'.v/\h'.n=(ls r).n+1/\(h'.b=(ls r).b\/∀g,h'.b=some g->W.heap.size<=g)/\lC K base w rI G hs cb s (iT ls r h') (iT X r (jc (xs++[x])))/\KeepsOthers W rI:=by
 obtain⟨a,i,j⟩:=f;obtain⟨A',c',rfl⟩:=E3 a;have c:(⟨A',(ls r).n+1,c'⟩:ax).b=(ls r).b\/∀g,(⟨A',(ls r).n+1,c'⟩:ax).b=some g->W.heap.size<=g:=by
  rcases j with h1|h1
  ·exact .inl (by rw[<-ax.own,<-ax.own];exact h1)
  ·exact .inr (λ g e=>by rw[<-ax.own] at e;have:=h1.symm.trans e;injection this with this;omega)
 refine⟨⟨A',(ls r).n+1,c'⟩,rfl,rfl,c,h.ja (r:=r) (h':=⟨A',(ls r).n+1,c'⟩) (ys:=jc (xs++[x])) (by rw[<-ax.own];exact i) (by rw[d];exact a) c⟩
end
structure kR(K:Nat->Prop)(base:Nat)(w W:World)(G:Nat)(hs:Nat->ax)(cb:Nat->Nat)(s:aq)(aH bN bO c8 bx:Nat)(out mk:List Int)(op:Int)(iw:ax)(iU:List Value)(ls:Nat->ax)(X:Nat->List Value):Prop where
 gm:lC K base w W G hs cb s ls X
 nN:ls 0=n9 aH
 jE:X 0=[.pointer (some ⟨G,0,none⟩)]
 iu:ls 1=n9 bN
 kz:X 1=[(ls 5).v]
 lW:X 5=jc out
 j7:ls 2=n9 bO
 kT:X 2=[(ls 6).v]
 lD:X 6=jc mk
 nu:ls 3=n9 c8
 lu:X 3=[.int .i64 op]
 pP:ls 4=n9 bx
 mH:X 4=[.func (.func 182) #[] #[.pointer (some ⟨aH,0,none⟩),.pointer (some ⟨bO,0,none⟩)]]
 sX:ls 11=iw
 uP:X 11=iU
section
variable {K:Nat->Prop}{base:Nat}{w W W' rI:World}{G:Nat}{hs hs':Nat->ax}{cb rT:Nat->Nat}{s s':aq}{aH bN bO c8 bx:Nat}{out mk:List Int}{op:Int}{iw:ax}{iU:List Value}{ls:Nat->ax}{X:Nat->List Value}
theorem kR.tE(h:kR K base w W G hs cb s aH bN bO c8 bx out mk op iw iU ls X)(b:lC K base w W' G hs' rT s' ls X):kR K base w W' G hs' rT s' aH bN bO c8 bx out mk op iw iU ls X:=⟨b,h.nN,h.jE,h.iu,h.kz,h.lW,h.j7,h.kT,h.lD,h.nu,h.lu,h.pP,h.mH,h.sX,h.uP⟩
theorem kR.cI(h:kR K base w W G hs cb s aH bN bO c8 bx out mk op iw iU ls X):(ls 0).b=some aH:=by rw[h.nN];rfl
theorem kR.aQ(h:kR K base w W G hs cb s aH bN bO c8 bx out mk op iw iU ls X):(ls 1).b=some bN:=by rw[h.iu];rfl
theorem kR.bI(h:kR K base w W G hs cb s aH bN bO c8 bx out mk op iw iU ls X):(ls 2).b=some bO:=by rw[h.j7];rfl
theorem kR.gQ(h:kR K base w W G hs cb s aH bN bO c8 bx out mk op iw iU ls X):(ls 3).b=some c8:=by rw[h.nu];rfl
theorem kR.jT(h:kR K base w W G hs cb s aH bN bO c8 bx out mk op iw iU ls X):(ls 4).b=some bx:=by rw[h.pP];rfl
theorem kR.aR(h:kR K base w W G hs cb s aH bN bO c8 bx out mk op iw iU ls X):W.cell? ⟨aH,0,none⟩=some (.pointer (some ⟨G,0,none⟩)):=(h.gm.kL h.cI (by rw[h.jE];rfl)).1
theorem kR.co(h:kR K base w W G hs cb s aH bN bO c8 bx out mk op iw iU ls X):W.cell? ⟨bN,0,none⟩=some (ls 5).v/\W.frozen? ⟨bN,0,none⟩=false:=h.gm.kL h.aQ (by rw[h.kz];rfl)
theorem kR.aP(h:kR K base w W G hs cb s aH bN bO c8 bx out mk op iw iU ls X):W.cell? ⟨bO,0,none⟩=some (ls 6).v/\W.frozen? ⟨bO,0,none⟩=false:=h.gm.kL h.bI (by rw[h.kT];rfl)
theorem kR.wN(h:kR K base w W G hs cb s aH bN bO c8 bx out mk op iw iU ls X):W.cell? ⟨c8,0,none⟩=some (.int .i64 op)/\W.frozen? ⟨c8,0,none⟩=false:=h.gm.kL h.gQ (by rw[h.lu];rfl)
theorem kR.iB(h:kR K base w W G hs cb s aH bN bO c8 bx out mk op iw iU ls X):W.cell? ⟨bx,0,none⟩=some (.func (.func 182) #[] #[.pointer (some ⟨aH,0,none⟩),.pointer (some ⟨bO,0,none⟩)]):=(h.gm.kL h.jT (by rw[h.mH];rfl)).1
theorem kR.kf(h:kR K base w W G hs cb s aH bN bO c8 bx out mk op iw iU ls X):(ls 5).n=out.length:=by have:=h.gm.rows.len 5;rw[h.lW] at this;simpa[jc] using this.symm
theorem kR.n6(h:kR K base w W G hs cb s aH bN bO c8 bx out mk op iw iU ls X):(ls 6).n=mk.length:=by have:=h.gm.rows.len 6;rw[h.lD] at this;simpa[jc] using this.symm
theorem kR.grow(h:kR K base w W G hs cb s aH bN bO c8 bx out mk op iw iU ls X)(a:Below W.heap.size W W'):kR K base w W' G hs cb s aH bN bO c8 bx out mk op iw iU ls X:=h.tE (h.gm.grow a)
theorem kR.drew(h:kR K base w W G hs cb s aH bN bO c8 bx out mk op iw iU ls X):kR K base w W.drew G hs cb s aH bN bO c8 bx out mk op iw iU ls X:=h.tE h.gm.drew
theorem kR.KZ(h:kR K base w W G hs cb s aH bN bO c8 bx out mk op iw iU ls X){x:Int}{v':Value}(e:nj W w.heap.size 3 (ls 6).v ((ls 6).n+1) ((mk++[x]).map (Zu .i64)) v' rI):
  ∃A' c' f g,v'=.slice A' ((ls 6).n+1) c'/\rI.cell? ⟨bO,0,none⟩=some (ls 6).v/\rI.frozen? ⟨bO,0,none⟩=false/\kR K base w (rI.setCell ⟨bO,0,none⟩ v') G hs cb s aH bN bO c8 bx out (mk++[x]) op iw iU f g/\KeepsOthers W (rI.setCell ⟨bO,0,none⟩ v'):=by
 obtain⟨⟨A',i,c'⟩,rfl,a,o,c,j⟩:=h.gm.app (r:=6) rfl e;have a:i=(ls 6).n+1:=a;subst a;have d:(iT ls 6 ⟨A',(ls 6).n+1,c'⟩ 2).b=some bO:=by rw[bk _ _ (by omega)];exact h.bI
 have c2:=c.kL d (k:=0) (v:=(ls 6).v) (by rw[bk _ _ (by omega),h.kT];rfl);obtain⟨l,m⟩:=c.set d 0 (ax.v ⟨A',(ls 6).n+1,c'⟩);refine⟨A',c',iT ls 6 ⟨A',(ls 6).n+1,c'⟩,_,rfl,c2.1,c2.2,⟨l,?_,?_,?_,?_,?_,?_,?_,?_,?_,?_,?_,?_,?_,?_⟩,j.trans m⟩
 ·rw[bk _ _ (by omega)];exact h.nN
 ·rw[bk _ _ (by omega),bk _ _ (by omega)];exact h.jE
 ·rw[bk _ _ (by omega)];exact h.iu
 ·rw[bk _ _ (by omega),bk _ _ (by omega),bk _ _ (by omega)];exact h.kz
 ·rw[bk _ _ (by omega),bk _ _ (by omega)];exact h.lW
 ·rw[bk _ _ (by omega)];exact h.j7
 ·rw[jO,bk _ _ (by omega),jO,h.kT];rfl
 ·rw[bk _ _ (by omega),jO]
 ·rw[bk _ _ (by omega)];exact h.nu
 ·rw[bk _ _ (by omega),bk _ _ (by omega)];exact h.lu
 ·rw[bk _ _ (by omega)];exact h.pP
 ·rw[bk _ _ (by omega),bk _ _ (by omega)];exact h.mH
 ·rw[bk _ _ (by omega)];exact h.sX
 ·rw[bk _ _ (by omega),bk _ _ (by omega)];exact h.uP
theorem kR.K0(h:kR K base w W G hs cb s aH bN bO c8 bx out mk op iw iU ls X){x:Int}{v':Value}(e:nj W w.heap.size 3 (ls 5).v ((ls 5).n+1) ((out++[x]).map (Zu .i64)) v' rI):
  ∃A' c' f g,v'=.slice A' ((ls 5).n+1) c'/\rI.cell? ⟨bN,0,none⟩=some (ls 5).v/\rI.frozen? ⟨bN,0,none⟩=false/\kR K base w (rI.setCell ⟨bN,0,none⟩ v') G hs cb s aH bN bO c8 bx (out++[x]) mk op iw iU f g/\KeepsOthers W (rI.setCell ⟨bN,0,none⟩ v'):=by
 obtain⟨⟨A',i,c'⟩,rfl,a,o,c,j⟩:=h.gm.app (r:=5) rfl e;have a:i=(ls 5).n+1:=a;subst a;have d:(iT ls 5 ⟨A',(ls 5).n+1,c'⟩ 1).b=some bN:=by rw[bk _ _ (by omega)];exact h.aQ
 have c2:=c.kL d (k:=0) (v:=(ls 5).v) (by rw[bk _ _ (by omega),h.kz];rfl);obtain⟨l,m⟩:=c.set d 0 (ax.v ⟨A',(ls 5).n+1,c'⟩);refine⟨A',c',iT ls 5 ⟨A',(ls 5).n+1,c'⟩,_,rfl,c2.1,c2.2,⟨l,?_,?_,?_,?_,?_,?_,?_,?_,?_,?_,?_,?_,?_,?_⟩,j.trans m⟩
 ·rw[bk _ _ (by omega)];exact h.nN
 ·rw[bk _ _ (by omega),bk _ _ (by omega)];exact h.jE
 ·rw[bk _ _ (by omega)];exact h.iu
 ·rw[jO,bk _ _ (by omega),jO,h.kz];rfl
 ·rw[bk _ _ (by omega),jO]
 ·rw[bk _ _ (by omega)];exact h.j7
 ·rw[bk _ _ (by omega),bk _ _ (by omega),bk _ _ (by omega)];exact h.kT
 ·rw[bk _ _ (by omega),bk _ _ (by omega)];exact h.lD
 ·rw[bk _ _ (by omega)];exact h.nu
 ·rw[bk _ _ (by omega),bk _ _ (by omega)];exact h.lu
 ·rw[bk _ _ (by omega)];exact h.pP
 ·rw[bk _ _ (by omega),bk _ _ (by omega)];exact h.mH
 ·rw[bk _ _ (by omega)];exact h.sX
 ·rw[bk _ _ (by omega),bk _ _ (by omega)];exact h.uP
theorem kR.Dv(h:kR K base w W G hs cb s aH bN bO c8 bx out mk op iw iU ls X)(x:Int):∃a,kR K base w (W.setCell ⟨c8,0,none⟩ (.int .i64 x)) G hs cb s aH bN bO c8 bx out mk x iw iU ls a/\KeepsOthers W (W.setCell ⟨c8,0,none⟩ (.int .i64 x)):=by
 obtain⟨b,c⟩:=h.gm.set h.gQ 0 (.int .i64 x);refine⟨_,⟨b,h.nN,?_,h.iu,?_,?_,h.j7,?_,?_,h.nu,?_,h.pP,?_,h.sX,?_⟩,c⟩
 ·rw[bk _ _ (by omega)];exact h.jE
 ·rw[bk _ _ (by omega)];exact h.kz
 ·rw[bk _ _ (by omega)];exact h.lW
 ·rw[bk _ _ (by omega)];exact h.kT
 ·rw[bk _ _ (by omega)];exact h.lD
 ·rw[jO,h.lu];rfl
 ·rw[bk _ _ (by omega)];exact h.mH
 ·rw[bk _ _ (by omega)];exact h.uP
theorem kR.K1(h:kR K base w W G hs cb s aH bN bO c8 bx out mk op iw iU ls X){g:Nat}(a:(ls 5).b=some g)(k:Nat)(x:Int):∃c,kR K base w (W.setCell ⟨g,k,none⟩ (.int .i64 x)) G hs cb s aH bN bO c8 bx (out.set k x) mk op iw iU ls c/\KeepsOthers W (W.setCell ⟨g,k,none⟩ (.int .i64 x)):=by
 obtain⟨d,e⟩:=h.gm.set a k (.int .i64 x);refine⟨_,⟨d,h.nN,?_,h.iu,?_,?_,h.j7,?_,?_,h.nu,?_,h.pP,?_,h.sX,?_⟩,e⟩
 ·rw[bk _ _ (by omega)];exact h.jE
 ·rw[bk _ _ (by omega)];exact h.kz
 ·rw[jO,h.lW];unfold jc;rw[Zv]
 ·rw[bk _ _ (by omega)];exact h.kT
 ·rw[bk _ _ (by omega)];exact h.lD
 ·rw[bk _ _ (by omega)];exact h.lu
 ·rw[bk _ _ (by omega)];exact h.mH
 ·rw[bk _ _ (by omega)];exact h.uP
theorem kR.K2(h:kR K base w W G hs cb s aH bN bO c8 bx out mk op iw iU ls X)(v:Value):∃a b,kR K base w (W.alloc (.cells #[v] 3)) G hs cb s aH bN bO c8 bx out mk op (n9 W.heap.size) [v] a b:=by
 have B:=h.gm.box 11 v;refine⟨_,_,⟨B,?_,?_,?_,?_,?_,?_,?_,?_,?_,?_,?_,?_,jO _ _ _,jO _ _ _⟩⟩
 ·rw[bk _ _ (by omega)];exact h.nN
 ·rw[bk _ _ (by omega)];exact h.jE
 ·rw[bk _ _ (by omega)];exact h.iu
 ·rw[bk _ _ (by omega),bk _ _ (by omega)];exact h.kz
 ·rw[bk _ _ (by omega)];exact h.lW
 ·rw[bk _ _ (by omega)];exact h.j7
 ·rw[bk _ _ (by omega),bk _ _ (by omega)];exact h.kT
 ·rw[bk _ _ (by omega)];exact h.lD
 ·rw[bk _ _ (by omega)];exact h.nu
 ·rw[bk _ _ (by omega)];exact h.lu
 ·rw[bk _ _ (by omega)];exact h.pP
 ·rw[bk _ _ (by omega)];exact h.mH
end
def K3(K:Nat->Prop)(base:Nat)(w W:World)(G:Nat)(hs:Nat->ax)(cb:Nat->Nat)(s:aq)(aH bN bO c8 bx:Nat)(out mk:List Int)(op:Int)(iw:ax)(iU:List Value)(v:Nat)(e:Ending)(W':World):Prop:=
 e=.returned (.tuple #[])/\∃a b,kR K base w W' G hs cb (s.sU v true) aH bN bO c8 bx out (mk++[(v:Int)]) op iw iU a b/\KeepsOthers W W'
theorem K4{W:World}{aH bN bO c8 bx:Nat}{out mk:List Int}{op:Int}{iw:ax}{iU:List Value}{ls:Nat->ax}{X:Nat->List Value}(h:kR K base w W G hs cb s aH bN bO c8 bx out mk op iw iU ls X)
  (v:Nat) (r:v<s.aO.length) (hm:mk.length<=1000000):
  Calls v_ 182 #[.int .i64 (v:Int),.pointer (some ⟨aH,0,none⟩),.pointer (some ⟨bO,0,none⟩)] W (K3 K base w W G hs cb s aH bN bO c8 bx out mk op iw iU v):=by
 obtain⟨g12,d,t,f12⟩:=h.gm.fN.e.lV 16 12 rfl h.gm.fN.e.n12 (by omega);have aR:=h.aR;have bh:(v:Int)<(s.aO.length:Int):=by omega
 have u:=h.gm.fN.e.zM d r;have y:=f12 v;have g:=h.gm.back (h.gm.call.wG d v true).1 (h.gm.call.wG d v true).2;have a:=U (h.tE g.1);have sY:=U g.2;clear g h f12 d;go_enter Tryz.func182,Tryz.ntmps182
 go_upto_region 1 with fail
 generalize W.setCell ⟨g12,v,none⟩ (.bool true)=V at a sY⊢;obtain⟨i,n6,j,b⟩:∃A n c,ls 6=⟨A,n,c⟩:=⟨_,_,_,rfl⟩
 have m:n6=mk.length:=by have:=a.o.n6;rw[b] at this;exact this
 have aP:V.cell? ⟨bO,0,none⟩=some (.slice i n6 j):=by have aP:=a.o.aP.1;rw[b] at aP;exact aP
 have f:=U (a.o.grow (bz V (mP [(v:Int)])));have z:bJ ((V.alloc (mP [(v:Int)])).ownsRow w.heap.size 3 1 (.slice i n6 j) n6 (mk.map (Zu .i64))):=U (by have:=f.o.gm.rows.row 6;rw[b,f.o.lD] at this;exact this);have B:=U (aL.lit V [(v:Int)] 1 V.heap.size rfl rfl (by omega));have p:=U (x_ b m);have jr:=a.o.aP.2;clear t aR u y b m
 go_wp2_with (at_builtin;refine qS rfl (.tmp 10) (.tmp 12) rfl w.heap.size (.slice i n6 j) n6 mk rfl z.o (some ⟨V.heap.size,0,none⟩) 1 1 [(v:Int)] rfl B.o (by have:=p.o.2;omega) f.o.gm.jr.size ?_;intro v9 bM q;obtain⟨A',c',C,D,rfl,a1,a2,k,l⟩:=f.o.KZ (x:=(v:Int)) (v':=v9) (by rw[p.o.1];exact q);have k:=U k;have l:=U l;clear q)
 go_end0;exact⟨rfl,C,D,k.o,sY.o.trans ((KeepsOthers.below (bz V _)).trans l.o)⟩
end
section
open Go.RowKit Go.Shelf
def uQ:Code->Nat->Option Code
 | .block k c,n=>if k=n then some c else uQ c n
 | .seq a b,n=>match uQ a n with
  |some c=>some c
  |none=>uQ b n
 | .loop c,n=>uQ c n
 | .scope c,n=>uQ c n
 | .cond _ a b,n=>match uQ a n with
  |some c=>some c
  |none=>uQ b n
 |_,_=>none
def mU:Code->Code
 | .seq _ b=>b
 |c=>c
def Dw:Code->Code
 | .seq a _=>a
 |c=>c
def By:Code->Code
 | .cond _ a _=>a
 |c=>c
def Gq:Code->Code
 | .loop c=>c
 |c=>c
noncomputable def runIn:Code:=Gq (((Zt.body.bind λ c=>uQ c 2)).getD .skip)
noncomputable def Gr:Code:=(Zt.body.bind λ c=>uQ c 3).getD .skip
noncomputable def K5:Code:=mU (mU (mU (mU Gr)))
noncomputable def K6:Code:=Gq ((Zt.body.bind λ c=>uQ c 4).getD .skip)
noncomputable def Gs:Code:=By (mU ((Zt.body.bind λ c=>uQ c 5).getD .skip))
structure rJ(G:Nat)(gP:Nat->ax)(c1:Core)(s:aq)(lit:Int)(ls:List Nat)(k0 g0 iZ ir jd:Nat):Prop where
 cI:(gP 0).b=some g0
 ag:gP (iF k0)=⟨some ⟨iZ,0,none⟩,ir,jd⟩
 len:ir=ls.length
 lb:ir<=100000
 cap:ir<=jd
 kL:jM lit=k0
 ok:gK s.c.n lit
 wt:c1.wt.length=2*s.c.n+2
 n:c1.n=s.c.n
 au:s.c.n<=60000
 jH:s.c.st.length<=1000000
 hk:k0<2*s.c.n+2
 st:c1.st=s.c.st
 cl:c1.cl.length=s.c.cl.length
 Dx:s.c.cl.length<=100000
structure mC(K:Nat->Prop)(base:Nat)(w:World)(G:Nat)(cb:Nat->Nat)(F:List (List Int))(ah:List Int)(s:aq)(c1:Core)(gP:Nat->ax)(aS:Nat)(lit:Int)(ls:List Nat)(k0:Nat)(i kl:Nat)(kept:List Nat)(c2:Core)(jQ:Nat->ax)(W:World):Prop where
 nI:nV F F ah c1 aS lit ls i kept c2
 sZ:kept.length=kl
 fN:aY K base W G jQ cb {s with c:=kH c2 k0 (kept++ls.drop kl)}
 hw:jQ (iF k0)=gP (iF k0)
 an:jQ 0=gP 0
 jr:aG K w W
section
variable {K:Nat->Prop}{base:Nat}{w W:World}{G:Nat}{gP jQ:Nat->ax}{cb:Nat->Nat}{s:aq}{F:List (List Int)}{ah:List Int}{c1 c2:Core}{aS:Nat}{lit:Int}{ls:List Nat}{k0 g0 iZ ir jd i kl d:Nat}{kept:List Nat}
theorem mC.kj(a:mC K base w G cb F ah s c1 gP aS lit ls k0 i kl kept c2 jQ W)(C:rJ G gP c1 s lit ls k0 g0 iZ ir jd):c2.n=s.c.n:=a.nI.sm.n.trans C.n
theorem mC.vM(a:mC K base w G cb F ah s c1 gP aS lit ls k0 i kl kept c2 jQ W)(C:rJ G gP c1 s lit ls k0 g0 iZ ir jd):c2.wt.length=2*s.c.n+2:=a.nI.sm.Bf.trans C.wt
theorem mC.raw(a:mC K base w G cb F ah s c1 gP aS lit ls k0 i kl kept c2 jQ W)(C:rJ G gP c1 s lit ls k0 g0 iZ ir jd):(kH c2 k0 (kept++ls.drop kl)).wt.length=2*s.c.n+2:=by
 show(c2.wt.set _ _).length=_;rw[y_];exact a.vM C
theorem mC.K7(a:mC K base w G cb F ah s c1 gP aS lit ls k0 i kl kept c2 jQ W)(C:rJ G gP c1 s lit ls k0 g0 iZ ir jd):c2.cl.length<=100000:=by have:=a.nI.sm.len;have:=C.cl;have:=C.Dx;omega
theorem mC.Bz(a:mC K base w G cb F ah s c1 gP aS lit ls k0 i kl kept c2 jQ W):kl<=i:=a.sZ▸a.nI.kl
theorem mC.cI(a:mC K base w G cb F ah s c1 gP aS lit ls k0 i kl kept c2 jQ W)(C:rJ G gP c1 s lit ls k0 g0 iZ ir jd):(jQ 0).b=some g0:=by rw[a.an];exact C.cI
theorem mC.kD(a:mC K base w G cb F ah s c1 gP aS lit ls k0 i kl kept c2 jQ W)(C:rJ G gP c1 s lit ls k0 g0 iZ ir jd):(jQ (iF k0)).b=some iZ:=by rw[a.hw,C.ag];rfl
theorem mC.q6(a:mC K base w G cb F ah s c1 gP aS lit ls k0 i kl kept c2 jQ W)(b:ls[i]? =some d):d<c2.cl.length/\2<=(ay c2.cl d).length:=by
 obtain⟨c,rfl⟩:=j_.1 b;have:=a.nI.q6 c;exact⟨this.1,this.2.1⟩
theorem mC.ok(a:mC K base w G cb F ah s c1 gP aS lit ls k0 i kl kept c2 jQ W)(C:rJ G gP c1 s lit ls k0 g0 iZ ir jd){k:Nat}(b:ls[i]? =some d)(hk:k<(ay c2.cl d).length):gK s.c.n (aj (ay c2.cl d) k):=by
 have:=(a.nI.gR.jN.mF d (a.q6 b).1).lt _ (lZ hk);rw[a.kj C] at this;exact this
theorem mC.m(a:mC K base w G cb F ah s c1 gP aS lit ls k0 i kl kept c2 jQ W)(C:rJ G gP c1 s lit ls k0 g0 iZ ir jd)(b:ls[i]? =some d):(ay c2.cl d).length<=120002:=by
 have:=(a.nI.gR.jN.mF d (a.q6 b).1).len;rw[a.kj C] at this;have:=C.au;omega
end
end
end Go.Proofs.YtogdlkfacflmaaaGreat
