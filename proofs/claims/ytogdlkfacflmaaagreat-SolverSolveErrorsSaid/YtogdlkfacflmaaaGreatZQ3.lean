/- Parts of the walk of the solver and its core; no condition. -/
import Derived.Test.YtogdlkfacflmaaaGreatZQ2
import Derived.ArgAppend
import Derived.Deep.DeepCutAuto
import Derived.WalkMore
import Derived.Test.YtogdlkfacflmaaaGreatZQ1
import Derived.Deep.LoopGhost
import Derived.Maps.RangeWalk
import Derived.Laws.EntriesVeiled
import Derived.Laws.ResultCell
namespace Go.Proofs.YtogdlkfacflmaaaGreat
set_option linter.unusedVariables false
set_option linter.unusedSimpArgs false
set_option maxRecDepth 1000000
set_option maxHeartbeats 8000000
open _root_.And renaming intro→z_
open _root_.Go.Proofs.Tryz renaming prog→y_,underlying3→c_,underlying4→Z4
open _root_.Go.IntKind renaming wrap_i64→x_,i64→v_
open _root_.Nat renaming le_refl→w_,mul_le_mul_right→Zm,reduceAdd→ZT,reduceSub→ZS,zero_add→ZP,le_of_lt→ZO,le_trans→ZN
open _root_.List renaming length_cons→u_,length_set→s_,length_append→q_,length_singleton→p_,mem_singleton→o_,getElem?_eq_getElem→n_,take_succ_cons→m_,drop_succ_cons→l_,replicate→k_,mem_append→h_,getD_eq_getElem?_getD→g_,take_zero→e_,take_of_length_le→a_,drop_zero→Zx,append_assoc→Zv,length_filter_le→Zq,map_set→Zp,append_toArray→Zk,nodup_nil→Zi,size_toArray→Zf,push_toArray→Ze,getElem?_map→Zd,getElem?_eq_some_iff→Zc,set_set→Z3,cons_append→Z5,length_nil→Z7,nil_append→Z8,length_pos_of_mem→Z9,set_getElem_self→ZZ,map_cons→ZU
open _root_.Go.World renaming cell?_of_block→t_,putObj_heap_other→b_
open _root_.Go.CallsIn renaming inRound→r_
open _root_.Go.RowKit.Below renaming refl→j_
open _root_.Go renaming callsIn_wide→i_,wp_region_still_tail→f_,wpStill_nil→Zu
open _root_.Go.Region renaming binds→d_
open _root_.Go.Fence renaming wide→Zw
open _root_.Go.Value renaming int→Zt
open _root_.Go.Code renaming wp→Zr
open _root_.Array renaming replicate_succ→Zo,replicate_zero→Zn
open _root_.Int renaming mul_le_mul_of_nonneg_left→Zl
open _root_.Go.KeepsFrom renaming refl→Zj,of_grownBy→ZV
open _root_.Go.Result renaming andThen_ok→Zh
open _root_.Go.Maps renaming keyOf_int_mk→Zg,int_keyed→ZY,atKey_of_not_has→ZX
open _root_.Bool renaming and_eq_true→Z0
open _root_.Go.Oper renaming semAt_some→Z6,mk→Z_
open _root_.Go.Instr renaming makeFunc→ZW
open _root_.Go.Sem renaming run_bind→ZR,run_pure→ZQ
open _root_.Go.KeepsOthers renaming refl→ZM
variable{ds:List Nat}{i base G aG bH bJ dm n h d lq lX bm:Nat}{s aF:aj}{P:Program}{ops:Array Oper}{Q:Exit->Act->World->Prop}{a:Act}{K:Nat->Prop}{hs ls:Nat->aq}{cb:Nat->Nat}{l7:Option Addr}{W A:World}{out mk aL r:List Int}{op B x kD:Int}{ig:aq}{iI:List Value}{X:Nat->List Value}{aN:List Bool}{j8 gA hM kP gG dn gT gr gE u16 dr dw dx gh dy dz dA dB dD dF dG dH cu cv cw u32 cz cA cB cC cD cE cF cG cH cI cK dI dJ gO gM gN bx bz bA bB bC bD bE bF bG bL bM bN bO bP bQ u64 bR bS bT bU bV bW bX bY bZ b5 b6 b7 b8 b9 cc cg ck cm cn cp cr dK dL dM dN dO dP dQ dR cL cM cN cO cQ cR cS cT cU cV cW cZ c7 c8 dc de dh dS dU dV dW dX dY dZ ec ee ef ei ej ek en eo ep er eu ew ey ez eA eB eC eD eE eF eG eH eL gi gj gl eM eN eO eP eR eS eT eU eV eW eX eY gm gn gp eZ e3 e4 e5 e6 e7 e8 e9 fc fe ff fh fk fm fo fq fu fA fB fC fD fE fF fG fH fI fJ fK fL fM fN fO fP fQ fR fS gu gv fT fU fV fW fZ ga gb gq:Value}{F Fd:List (List Int)}{f:Int->Option Bool}
section
open Go.RowKit
def wY:Code->Nat->Option (List Oper)
 | .region id ops _,k=>if id=k then some ops.toList else none
 | .seq x y,k=>(wY x k).or (wY y k)
 | .cond _ x y,k=>(wY x k).or (wY y k)
 | .block _ x,k=>wY x k
 | .loop x,k=>wY x k
 | .scope x,k=>wY x k
 |_,_=>none
def DD(f:Func)(k:Nat):List Oper:=(f.body.bind λ c=>wY c k).getD []
def pG(ds:List (Option Tmp))(cs:List Value)(b c:Nat)(d:Operand->Value):List Edge->Prop
 |[]=>True
 |e::r=>(d_ .any e=true->e.on≠b->e.on≠c->∀s,qn ds e.on=some s->d (.tmp s)=cs.getD e.on undef)/\pG ds cs b c d r
def Kq(P:Program)(ds:List (Option Tmp))(ws:List (List Nat))(old:List (Tmp×Value))(S:World->Prop)(cs:List Value)(c:World)(lp kQ i:Nat)(o:Oper):Prop:=
 ∀(b:Operand->Value)(w:World),S w->(pn ws 8 lp i=true->w=c)->pG ds cs lp kQ b o.after.toList->qp b old->rz b->bn P b o w λ v w'=>v=cs.getD i undef/\w'=w
def BE(P:Program)(ds:List (Option Tmp))(ws:List (List Nat))(old:List (Tmp×Value))(S:World->Prop)(cs:List Value)(b:World)(lp kQ:Nat):Nat->List Oper->Prop
 |_,[]=>True
 |k,o::r=>(k≠lp->k≠kQ->Kq P ds ws old S cs b lp kQ k o)/\BE P ds ws old S cs b lp kQ (k+1) r
def yU(ds:List (Option Tmp))(old:List (Tmp×Value)):Bool:=old.all λ p=>ds.all λ d=>d !=some p.1
theorem Kr{ds:List (Option Tmp)}{ws:List (List Nat)}{s:Tmp}(h:(ds.all λ d=>d !=some s)=true):yE ds ws i s=true:=by
 unfold yE;rw[List.all_eq_true];intro j b;rw[List.mem_range] at b;rw[List.all_eq_true] at h;have:=h ds[j] (List.getElem_mem b);rw[Bool.or_eq_true];left;unfold qn;rw[g_,n_ b];exact this
theorem ry.ok{ds:List (Option Tmp)}{ws:List (List Nat)}{i:Nat}{az:Operand->Value}:∀{old:List (Tmp×Value)},yU ds old=true->ry ds ws i az old->qp az old
 |[],_,_=>trivial
 |p::r,h,b=>by
  unfold yU at h;rw[List.all_cons,Z0] at h;exact⟨b.1 (Kr h.1),ry.ok (old:=r) h.2 b.2⟩
theorem gF.mono{P:Program}{p q:Value->World->Prop}(b:∀v w,p v w->q v w):∀{r:Result Next},gF P p r->gF P q r:=by
 intro r h;unfold gF at*;split at h<;>first|exact b _ _ h|exact Calls.mono h (λ e w' ⟨v,h1,c⟩=>⟨v,h1,b _ _ c⟩)|exact h.elim
theorem bn.mono{P:Program}{az:Operand->Value}{o:Oper}{w:World}{p q:Value->World->Prop}(h:bn P az o w p)(b:∀v w,p v w->q v w):bn P az o w q:=gF.mono b h
theorem va{w:World}{az:Operand->Value}{o:Oper}{post:Value->World->Prop}(f:FuncId)(xs:Array Operand)(b:Array TypeId)(c:o.op=.call {callee:=.value (.func f),args:=xs,argTypes:=b})(he:∀args w,(callFunc f args).run P w=.ok (.enter f args) w)(hp:rz az)
  (h:Calls P f (xs.map az) w λ e w'=>∃v,e=.returned v/\post v w'):bn P az o w post:=by
 unfold bn;simp only[execOp,c,resolve,hp.2.2 f,Deferred.ofValue,invoke,ZR,ZQ,Zh,Array.append_empty,Array.empty_append,he,gF];exact h
section
variable {P:Program}{ds:List (Option Tmp)}{ws:List (List Nat)}{old:List (Tmp×Value)}{S:World->Prop}{cs:List Value}{lp kQ:Nat}{jo:World}{aP:Value->World->Prop}
def sP(cs:List Value)(lp kQ:Nat)(jo:World)(aP:Value->World->Prop)(j:Nat)(v:Value)(w:World):Prop:=
 if j=kQ then aP v w else if j=lp then v=cs.getD lp undef/\w=jo else v=cs.getD j undef
def wZ(lp kQ:Nat)(j:Nat):Option Nat:=if j=lp then some kQ else none
theorem pG.of{i:Nat}{vals:Nat->Value}{w:World}{az:Operand->Value}(c:i≠kQ):∀{l:List Edge},sk ds (sP cs lp kQ jo aP) (wZ lp kQ) i vals w az l->pG ds cs lp kQ az l
 |[],_=>trivial
 |e::r,h=>⟨λ d h1 f s hs=>by
  obtain⟨b,g⟩:=h.1 d;have b:=b (Or.inl (if_neg h1));unfold sP at b;rw[if_neg f,if_neg h1] at b;rw[g s hs,b],pG.of c h.2⟩
theorem pG.FX{vals:Nat->Value}{w:World}{az:Operand->Value}(f:lp≠kQ):∀{l:List Edge},sk ds (sP cs lp kQ jo aP) (wZ lp kQ) kQ vals w az l->pG ds cs kQ kQ az l
 |[],_=>trivial
 |e::r,h=>⟨λ g h1 _ s hs=>by
  obtain⟨b,i⟩:=h.1 g;have b:=b (by unfold wZ;by_cases d:e.on=lp;exact .inr (if_pos d);exact .inl (if_neg d));unfold sP at b;rw[if_neg h1] at b;rw[i s hs]
  by_cases c:e.on=lp
  ·rw[if_pos c] at b;rw[b.1,c]
  ·rw[if_neg c] at b;exact b,pG.FX f h.2⟩
theorem pG.world{vals:Nat->Value}{w:World}{az:Operand->Value}(c:lp≠kQ):∀{l:List Edge},(l.any λ e=>d_ .any e&&e.on==lp)=true->sk ds (sP cs lp kQ jo aP) (wZ lp kQ) kQ vals w az l->w=jo
 |[],h,_=>by cases h
 |e::r,h,d=>by
  rw[List.any_cons,Bool.or_eq_true] at h;rcases h with h|h
  ·rw[Z0,beq_iff_eq] at h;have b:=(d.1 h.1).1 (.inr (by unfold wZ;rw[if_pos h.2]));unfold sP at b;rw[if_neg (by rw[h.2];exact c),if_pos h.2] at b;exact b.2
  ·exact pG.world c h d.2
theorem FY{mE:World}(i:lp≠kQ)(y:yU ds old=true)(d:pn ws 8 kQ lp=true)
  (I:S mE) (z:S jo) (A:∀v w',aP v w'->S w') {l:List Oper}
  (B:∀o,l[kQ]? =some o->(o.after.toList.any λ e=>d_ .any e&&e.on==lp)=true)
  (C:∀o,l[lp]? =some o->∀b,pG ds cs lp kQ b o.after.toList->qp b old->rz b->bn P b o mE λ v w'=>v=cs.getD lp undef/\w'=jo)
  (D:∀o,l[kQ]? =some o->∀b,pG ds cs kQ kQ b o.after.toList->qp b old->rz b->bn P b o jo aP)
  (J:BE P ds ws old S cs mE lp kQ 0 l):
  ∀(r:List Oper)(k:Nat),(∀j,r[j]? =l[k+j]?)->BE P ds ws old S cs mE lp kQ k r->uB P ds ws old S (sP cs lp kQ jo aP) (wZ lp kQ) (λ w=>w=mE) lp k r
 |[],_,_,_=>trivial
 |o::r,k,hl,hs=>by
  refine⟨?_,FY i y d I z A B C D J r (k+1) (λ j=>by rw[<-show(o::r)[j+1]? =r[j]? from rfl,hl (j+1)];congr 1;omega) hs.2⟩;intro vals w b E F f K hp;have m:=ry.ok y K;have n:l[k]? =some o:=by have:=hl 0;simpa using this.symm
  by_cases c:k=kQ
  ·subst c;have hw:=pG.world i (B o n) f;subst hw;have g:=D o n b (pG.FX i f) m hp;refine bn.mono g λ v w' h=>⟨A v w' h,by unfold sP;rw[if_pos rfl];exact h,λ j u p L _ _ q=>?_,λ _ G=>by rw[d] at G;cases G⟩
   unfold sP at*;rw[if_neg p] at*;have s:j≠lp:=λ e=>L (by unfold wZ;rw[if_pos e])
   rw[if_neg s] at*;exact q
  ·by_cases t:k=lp
   ·subst t;have hw:=F (.inr rfl);subst hw;have g:=C o n b (pG.of c f) m hp;refine bn.mono g λ v w' h=>?_
    obtain⟨rfl,rfl⟩:=h;refine⟨z,by unfold sP;rw[if_neg c,if_pos rfl];exact⟨rfl,rfl⟩,λ j u p _ H _ q=>?_,λ h=>absurd rfl h⟩;have s:j≠kQ:=λ e=>by rw[e,d] at H;cases H
    unfold sP at*;rw[if_neg s,if_neg p] at*;exact q
   ·have g:=hs.1 t c b w E (λ d=>F (.inl d)) (pG.of c f) m hp;refine bn.mono g λ v w' h=>?_
    obtain⟨rfl,rfl⟩:=h;exact .same E (by unfold sP;rw[if_neg c,if_neg t])
end
theorem Ai{id:Nat}{w:World}(l:List Oper)(n lp kQ N:Nat)(ds:List (Option Tmp))(ws:List (List Nat))(old:List (Tmp×Value))(S:World->Prop)(cs:List Value)(jo:World)(aP:Value->World->Prop)
  (z:ops=l.toArray) (hm:P.follows .mixedOrders=true)
  (A:ds=l.map λ o:Oper=>o.dst) (B:ws=l.map λ o:Oper=>(o.after.toList.filter (d_ .any)).map (·.on)) (hlen:l.length=n+1) (p:(tS l.toArray&&rW l.toArray&&vD l.toArray&&BD ws n&&tT l.toArray N&&yU ds old&&pn ws 8 kQ lp&&decide (lp<kQ)&&decide (kQ<n)&&((l.getD kQ default).after.toList.any λ e=>d_ .any e&&e.on==lp))=true)
  (C:a.tmps.size=N) (hold:qp a.eval old) (q:S w.drew) (D:S jo) (E:∀v w',aP v w'->S w')
  (F:∀b,pG ds cs lp kQ b (l.getD lp default).after.toList->qp b old->rz b->bn P b (l.getD lp default) w.drew λ v w'=>v=cs.getD lp undef/\w'=jo)
  (G:∀b,pG ds cs kQ kQ b (l.getD kQ default).after.toList->qp b old->rz b->bn P b (l.getD kQ default) jo aP)
  (s:BE P ds ws old S cs w.drew lp kQ 0 (l.take n))
  (H:∀u v w',aP v w'->∀c,oI (ds.take n) 0 (k6 (k6 (λ j=>cs.getD j undef) lp u) kQ v) a=c->bn P c.eval (l.getD n default) w' λ v w'=>Q .normal (c.put (l.getD n default).dst v) w'):(Code.region id ops true).wp P Q a w:=by
 simp only[Z0,decide_eq_true_eq] at p;obtain⟨⟨⟨⟨⟨⟨⟨⟨⟨c1,c2⟩,c3⟩,c4⟩,c5⟩,c6⟩,I⟩,V⟩,c9⟩,J⟩:=p;have m:∀k o,l[k]? =some o->l.getD k default=o:=λ k o h=>by rw[g_,h];rfl
 have gt:∀k o,(l.take n)[k]? =some o->l[k]? =some o/\k<n:=λ k o h=>by
  rw[List.getElem?_take] at h;split at h
  ·exact⟨h,by assumption⟩
  ·cases h
 have K:l[n]? =some (l.getD n default):=by rw[g_,n_ (by omega)];rfl
 refine Ah l n N ds ws old S (sP cs lp kQ jo aP) (wZ lp kQ) (λ w'=>w'=w.drew) lp z hm A B hlen c1 c2 c3 c4 c5 C hold q rfl (FY (l:=l.take n) (by omega) c6 I q D E ?_ ?_ ?_ s _ 0 (λ j=>by rw[ZP]) s) _ K ?_
 ·intro o h;rw[<-m _ _ (gt _ _ h).1];exact J
 ·intro o h;rw[<-m _ _ (gt _ _ h).1];exact F
 ·intro o h;rw[<-m _ _ (gt _ _ h).1];exact G
 ·intro vals w' W t c L;have M:∀j,j<n->vals j=k6 (k6 (λ j=>cs.getD j undef) lp (vals lp)) kQ (vals kQ) j:=λ j O=>by
   unfold k6
   by_cases e:j=kQ
   ·rw[if_pos e,e]
   ·rw[if_neg e]
    by_cases i:j=lp
    ·rw[if_pos i,i]
    ·rw[if_neg i];have:=t j O (if_neg i);unfold sP at this
     rwa[if_neg e,if_neg i] at this
  have R:aP (vals kQ) w':=by
   have:=t kQ c9 (if_neg (by omega));unfold sP at this
   rwa[if_pos rfl] at this
  refine H (vals lp) (vals kQ) w' R c ?_;rw[<-L];have T:∀(r:List (Option Tmp))(k:Nat)(f g:Nat->Value)(a:Act),(∀j,k<=j->j<k+r.length->f j=g j)->oI r k f a=oI r k g a:=by
   intro r
   induction r with
   |nil=>intros;rfl
   |cons d r U=>
    intro k f g a h;rw[oI,oI,h k (w_ _) (by rw[u_];omega)];exact U _ _ _ _ λ j h1 y=>h j (by omega) (by rw[u_];omega)
  exact(T _ _ _ _ _ λ j _ y=>M j (by rw[List.length_take] at y;omega)).symm
end
section
open Go.RowKit Go.Shelf
def uC(s:aj)(l:List Int)(d:Nat):Nat->aj
 |0=>s
 |j+1=>(uC s l d j).pZ (jD (-(ai l j))) (ax (uC s l d j).c.wt (jD (-(ai l j)))++[d])
theorem FZ(s:aj)(l:List Int)(d:Nat):uC s l d 2={s with c:={s.c with wt:=wM s.c.wt l d}}:=rfl
theorem BF:∀args w,(callFunc 181 args).run y_ w=.ok (.enter 181 args) w:=enters_of Tryz.func181 (by kernel_rfl) rfl
theorem F0(s:aj)(l:List Int)(d:Nat):∀j,(uC s l d j).c.wt.length=s.c.wt.length
 |0=>rfl
 |j+1=>by show(List.set _ _ _).length=_;rw[s_];exact F0 s l d j
theorem F1(s:aj)(l:List Int)(d:Nat):∀j,(uC s l d j).c.cl=s.c.cl
 |0=>rfl
 |j+1=>F1 s l d j
theorem F2(s:aj)(l:List Int)(d k:Nat):∀j,(ax (uC s l d j).c.wt k).length<=(ax s.c.wt k).length+j
 |0=>w_ _
 |j+1=>by
  have:=F2 s l d k j;show(ax (List.set _ _ _) k).length<=_;rw[qE];split
  ·rename_i h;rw[q_,h.1];simp only[p_];omega
  ·omega
def Ks(K:Nat->Prop)(base:Nat)(w:World)(G:Nat)(cb:Nat->Nat)(s s':aj)(e:Ending)(w':World):Prop:=
 e=.returned (.tuple #[])/\∃hs',aU K base w' G hs' cb s'/\aD K w w'
def Kt(K:Nat->Prop)(base:Nat)(w:World)(G:Nat)(cb:Nat->Nat)(s s':aj)(d:Nat)(b:aq)(e:Ending)(w':World):Prop:=
 e=.returned (.tuple #[])/\∃hs',aU K base w' G hs' cb s'/\aD K w w'/\hs' (kz d)=b
theorem F3{w:World}(h:aU K base w G hs cb s){d:Nat}(f:d<s.c.cl.length)(z:2<=(ax s.c.cl d).length)(hl:∀x∈ax s.c.cl d,gU s.c.n x)(a8:s.c.n<=60000)(ah:s.c.wt.length=2*s.c.n+2)(B:∀k,(ax s.c.wt k).length<=1000000):
  Calls y_ 180 #[.pointer (some ⟨G,0,none⟩),.pointer (some ⟨cb d,0,none⟩)] w (Kt K base w G cb s (uC s (ax s.c.cl d) d 2) d (hs (kz d))):=by
 obtain⟨c0,-,-,-,aC⟩:=h.z7 f;obtain⟨m0,I⟩:∃m0,(ax s.c.cl d).length=m0:=⟨_,rfl⟩
 obtain⟨bu,aE,S,ak⟩:=h.e.wR (r:=kz d) (m:=m0) ((h.e.Af d).trans I) (by omega);have cap:=h.e.xV S;rw[h.e.Af,I] at cap;rw[ak] at c0;obtain⟨T,al⟩:∃T,(hs (kz d)).c=T:=⟨_,rfl⟩
 rw[al] at c0 cap;have lc:(2:Int)<=(T:Int):=by omega
 have H:=U h;have aF:=U S;have L:=U (z_ I (z_ hl (z_ f (z_ z (z_ ah B)))));clear h S I hl f z ah B ak aE al aC;go_enter Tryz.func180,Tryz.ntmps180
 go_wp2_with fail
 go_loopw [5,12] (λ _ V W=>∃(j:Nat)(i:Nat->aq),j<=2/\V=.int .i64 j/\i 0=hs 0/\i (kz d)=hs (kz d)/\aU K base W G i cb (uC s (ax s.c.cl d) d j)/\aD K w W) (λ _ V _=>2-(intOf V).toNat)
 case atStart=>exact⟨0,hs,by omega,rfl,rfl,rfl,H.o,aD.refl⟩
 case round=>
  obtain⟨j,i,aG,rfl,an,h1,ao,hF⟩:=hrel;have E:=U ao;have F:=U hF;have J:=U (z_ an h1);clear ao hF an h1
  by_cases ar:j<2
  ·have aI:(j:Int)<2:=by omega
   have au:=U ar;obtain⟨s1,C⟩:∃s1,uC s (ax s.c.cl d) d j=s1:=⟨_,rfl⟩
   have y:bI (aU K base wr G i cb s1):=U (C▸E.o);have M:s1.c.cl=s.c.cl:=by rw[<-C];exact F1 _ _ _ _
   have B:s1.c.wt.length=2*s.c.n+2:=by rw[<-C,F0];exact L.o.2.2.2.2.1
   obtain⟨x,N⟩:∃x,ai (ax s.c.cl d) j=x:=⟨_,rfl⟩
   have Y:j<(ax s.c.cl d).length:=by have:=L.o;omega
   have Z:gU s.c.n x:=by rw[<-N];exact L.o.2.1 _ (l5 Y)
   have a': -60000<=x/\x<=60000:=by have:=Z.2;unfold aH at this;omega
   obtain⟨k,hk⟩:∃k:Nat,jD (-x)=k:=⟨_,rfl⟩
   have aJ:k<2*s.c.n+2:=by rw[<-hk];exact Z.neg.at
   have av:(i (kz d)).b=some bu:=by rw[J.o.2];exact aF.o
   have aK:=y.o.e.xZ av (k:=j) (by rw[M];exact Y);rw[M,N] at aK;obtain⟨g0,aa,aL,f0⟩:=y.o.e.lV 1 0 rfl (y.o.e.jw.trans B) (by omega);have O:=y.o.e.xY aa (k:=k) (by omega);obtain⟨l,g,p,P⟩:∃A n c,i (ij k)=⟨A,n,c⟩:=⟨_,_,_,rfl⟩
   have ab:g=(ax s1.c.wt k).length:=by have:=y.o.e.Ae k;rw[P] at this;exact this
   rw[P] at O;have O:wr.cell? ⟨g0,k,none⟩=some (.slice l g p):=O;have aw:g<=1000002:=by rw[ab,<-C];have:=F2 s (ax s.c.cl d) d k j;have:=L.o.2.2.2.2.2 k;omega
   have wn:v_.wrap (-x)= -x:=IntWalk.i64_in _ (by omega);have ay:(k:Int)<2*(s.c.n:Int)+2:=by omega
   have D:=U aa;have X:=U (z_ C (z_ N (z_ hk (z_ P (z_ ab (z_ aw (z_ M B)))))));clear aG ar C N Y Z hk aJ av aa P ab aw M B
   go_upto_region 3 with fail
   have q:=U (y.o.below ((bK wr (.cells #[.pointer (some ⟨cb d,0,none⟩)] 164)).drew));have hp:((wr.alloc (.cells #[.pointer (some ⟨cb d,0,none⟩)] 164)).drew).cell? ⟨wr.heap.size,0,none⟩=some (.pointer (some ⟨cb d,0,none⟩)):=by go_simp
   have aM:=U (rD.one hp);have aN:bI (((wr.alloc (.cells #[.pointer (some ⟨cb d,0,none⟩)] 164)).drew).ownsRow base 164 1 (.slice l g p) g (kV cb (ax s1.c.wt k))):=U (by
    have:=q.o.1.e.rows.row (ij k);rw[Dz,Ad,X.o.2.2.2.1,v8] at this;exact this)
   have aO:=U (ZO q.o.1.e.lt);clear hp;have ad:bI (k<s1.c.wt.length):=U (by rw[X.o.2.2.2.2.2.2.2];have:=ay;omega);have aP:bI (∀w:World,Calls y_ 181 #[.int .i64 (-x)] w λ e w'=>e=.returned (.int .i64 (k:Int))/\w=w'):=U (λ w=>by have:=Dl (-x) w (by omega) (by omega);rw[X.o.2.2.1] at this;exact this);have aQ:bI (uC s (ax s.c.cl d) d (j+1)=s1.pZ k (ax s1.c.wt k++[d])):=U (by show(uC s (ax s.c.cl d) d j).pZ _ _=_;rw[X.o.1,X.o.2.1,X.o.2.2.1]);have ba:G≠g0:=y.o.e.uy 0 g0 D.o;have aR:wr.drew.cell? ⟨g0,k,none⟩=some (.slice l g p):=O;have Q:=q.o.1.e.xY D.o (k:=k) ad.o;rw[X.o.2.2.2.1] at Q;have Q:((wr.alloc (.cells #[.pointer (some ⟨cb d,0,none⟩)] 164)).drew).cell? ⟨g0,k,none⟩=some (.slice l g p):=Q;have ae:=q.o.1.e.rA 1 D.o (q.o.1.e.jw.trans X.o.2.2.2.2.2.2.2) rfl;have aS:wr.drew.cell? ⟨G,1,none⟩=some (.slice (some ⟨g0,0,none⟩) (2*s.c.n+2) (i 0).c):=aL;have bb:((wr.alloc (.cells #[.pointer (some ⟨cb d,0,none⟩)] 164)).drew).heap.size=wr.heap.size+1:=by simp
   refine Ai (tu Tryz.f180 3) 20 17 18 37 [some 16,some 17,some 18,some 19,some 20,some 21,some 22,some 23,some 24,some 25,some 26,some 27,some 28,some 29,some 30,some 31,some 32,some 33,some 34,some 35,none] _ [(0,.pointer (some ⟨G,0,none⟩)),(1,.pointer (some ⟨(cb d),0,none⟩)),(5,.int .i64 x)] (λ w':World=>w'.cell? ⟨G,1,none⟩=some (.slice (some ⟨g0,0,none⟩) (2*s.c.n+2) (i 0).c)/\w'.cell? ⟨g0,k,none⟩=some (.slice l g p)) [.pointer (some ⟨G,0,none⟩),.pointer (some ⟨G,0,none⟩),.pointer (some ⟨G,1,none⟩),.slice (some ⟨g0,0,none⟩) (2*s.c.n+2) (i 0).c,.int .i64 x,.int .i64 (-x),.int .i64 (k:Int),.pointer (some ⟨G,0,none⟩),.pointer (some ⟨G,0,none⟩),.pointer (some ⟨G,1,none⟩),.slice (some ⟨g0,0,none⟩) (2*s.c.n+2) (i 0).c,.int .i64 x,.int .i64 (-x),.int .i64 (k:Int),.pointer (some ⟨g0,k,none⟩),.slice l g p,.pointer (some ⟨(cb d),0,none⟩),.slice (some ⟨wr.heap.size,0,none⟩) 1 1,undef,.pointer (some ⟨g0,k,none⟩)] ((wr.alloc (.cells #[.pointer (some ⟨cb d,0,none⟩)] 164)).drew) (λ v w'=>oa ((wr.alloc (.cells #[.pointer (some ⟨cb d,0,none⟩)] 164)).drew) base 164 (.slice l g p) (g+1) (kV cb (ax s1.c.wt k)++[.pointer (some ⟨cb d,0,none⟩)]) v w') (by kernel_rfl) (by kernel_rfl) (by kernel_rfl) rfl (by kernel_rfl) (by kernel_rfl) rfl ⟨rfl,rfl,rfl,trivial⟩ ⟨aS,aR⟩ ⟨ae,Q⟩ (λ v w' af=>?_) (λ t f R hp=>?_) (λ t f R hp=>?_) ?_ ?_
   ·obtain⟨A',c',rfl,az,ag,-⟩:=aU.DC (d:=d) q.o.1 D.o ad.o X.o.2.2.2.1 X.o.2.2.2.2.1 ae af;exact⟨az,ag⟩
   ·obtain⟨-,aA,-⟩:=R;have f:t (.tmp 32)=_:=(f.1 rfl (by decide) (by decide) _ rfl)
    change t (.tmp 32)=.pointer (some ⟨cb d,0,none⟩) at f;show bn _ _ (Z_ _ _ _ _ _ _) _ _;simp[bn,execOp,gF,go_sem,f]
   ·have h1:t (.tmp 31)=.slice l g p:=f.1 rfl (by decide) (by decide) _ rfl;have z:t (.tmp 33)=.slice (some ⟨wr.heap.size,0,none⟩) 1 1:=f.2.1 rfl (by decide) (by decide) _ rfl;obtain⟨v',w',g1,g2⟩:=Dt ((wr.alloc (.cells #[.pointer (some ⟨cb d,0,none⟩)] 164)).drew) 160 base (.slice l g p) g (kV cb (ax s1.c.wt k)) aN.o (some ⟨wr.heap.size,0,none⟩) 1 1 _ aM.o (by have:=X.o.2.2.2.2.2.1;omega) aO.o;show bn _ _ (Z_ _ _ _ _ _ _) _ _;simp only[bn,execOp,resolve,invoke,builtin,ZR,ZQ,Zh,List.map_toArray,ZU,List.map_nil,h1,z,g1,gF];exact g2
   ·refine⟨?_,?_,?_,?_,?_,?_,?_,?_,?_,?_,?_,?_,?_,?_,?_,?_,?_,?_,?_,?_,trivial⟩
    all_goals
     intro h1 z t w aT _ f R hp
     first
      |exact absurd rfl h1
      |exact absurd rfl z
      |(obtain⟨aV,aA,aW,-⟩:=R;obtain⟨s1,s2⟩:=aT;(try simp[pG,qn,d_] at f);simp[bn,execOp,gF,go_sem,aV,aA,aW,f,s1,s2,wn,ay];done)
      |((try simp[pG,qn,d_] at f);(first|refine va 181 #[.tmp 21] #[3] rfl BF hp ?_|refine va 181 #[.tmp 28] #[3] rfl BF hp ?_);(first|rw[show(#[Operand.tmp 21].map t)= #[.int .i64 (-x)] by simp[f]]|rw[show(#[Operand.tmp 28].map t)= #[.int .i64 (-x)] by simp[f]]);exact(aP.o w).mono λ e w' h=>⟨_,h.1,rfl,h.2.symm⟩)
   intro u v9 di af bc aB;obtain⟨A',c',rfl,az,ag,f9,aY,aZ⟩:=aU.DC (d:=d) q.o.1 D.o ad.o X.o.2.2.2.1 X.o.2.2.2.2.1 ae af;have a6:=f9 k;simp[oI,Act.put,k6] at aB;subst aB;show bn _ _ (Z_ _ _ _ _ _ _) _ _;simp[bn,execOp,gF,go_sem,Act.eval,ag,a6];have a7:=F.o.trans (q.o.2.trans aZ);have bd:v_.wrap ((j:Int)+1)=(j:Int)+1:=IntWalk.i64_in _ (by omega);go_wp2;go_roundw
   case rel=>exact⟨j+1,_,by have:=au.o;omega,by go_num,(aX _ _ (show(0:Nat)≠ij k by unfold ij;omega)).trans J.o.1,(aX _ _ (show kz d≠ij k by unfold ij kz;omega)).trans J.o.2,by rw[aQ.o];exact aY,a7⟩
   case measure=>have:=au.o;simp[intOf];omega
  ·obtain rfl:j=2:=by omega
   have aI:¬((2:Nat):Int)<2:=by omega
   go_wp2_with fail
   go_end0;exact⟨rfl,i,E.o,F.o,J.o.2⟩
theorem Ku{w:World}(h:aU K base w G hs cb s){d:Nat}(f:d<s.c.cl.length)(b:2<=(ax s.c.cl d).length)(hl:∀x∈ax s.c.cl d,gU s.c.n x)(g:s.c.n<=60000)(i:s.c.wt.length=2*s.c.n+2)(j:∀k,(ax s.c.wt k).length<=1000000):
  Calls y_ 180 #[.pointer (some ⟨G,0,none⟩),.pointer (some ⟨cb d,0,none⟩)] w (Ks K base w G cb s (uC s (ax s.c.cl d) d 2)):=
 (F3 h f b hl g i j).mono λ e w' ⟨h1,hs',b,l,_⟩=>⟨h1,hs',b,l⟩
end
section
open Go.RowKit Go.Shelf
theorem Kv(w:World)(ty:TypeId)(g kl cap:Nat)(b off m c:Nat)(i:List Value)(d:rD w (some ⟨b,off,none⟩) m c i)(l:kl+m<=cap)(k:∀j,j<m->(w.cell? ⟨g,kl+j,none⟩).isSome=true)(n:∀j,w.frozen? ⟨g,j,none⟩=false):
  (Builtin.append_ #[160,160] ty #[.slice (some ⟨g,0,none⟩) kl cap,.slice (some ⟨b,off,none⟩) m c]).run y_ w=.ok (.slice (some ⟨g,0,none⟩) (kl+m) cap) (w.setCells g kl i):=by
 obtain⟨i0,o,r,f,s⟩:=info_parts FJ;have:=run_append_room_cells (P:=y_) w 160 ty 164 i0 Tryz.underlying160 o g 0 kl cap ⟨b,off,none⟩ m c i (by rw[f,d.len,Nat.mul_one]) (λ j u e=>by
  have t:j<m:=by have:=(Zc.1 e).1;simpa[d.len] using this
  obtain⟨v,y,he,k⟩:=d.cells (by omega);injection he with he
  injection he with h1 q
  subst h1 q;rw[Addr.add_lit];exact k j u e) (λ u hu=>by obtain⟨p,rfl⟩:=d.ptr u hu;rfl) l (λ j e=>by
   rw[f,Nat.mul_one,ZP];exact k j (by rw[<-d.len];exact e)) (λ j e=>by rw[f];exact n _)
 rw[f,Nat.mul_one,ZP] at this;exact this
theorem DE{w:World}{rest:List Oper}{o:Oper}(e:o.guard=none)(s x:Operand)
  (f:o.op=.call {callee:=.builtin .append,args:= #[s,x],argTypes:= #[160,160]}) (g kl cap b off m c:Nat) (d:List Value) (hs:a.eval s=.slice (some ⟨g,0,none⟩) kl cap) (i:a.eval x=.slice (some ⟨b,off,none⟩) m c)
  (k:rD w (some ⟨b,off,none⟩) m c d) (l:kl+m<=cap) (n:∀j,j<m->(w.cell? ⟨g,kl+j,none⟩).isSome=true) (p:∀j,w.frozen? ⟨g,j,none⟩=false)
  (h:wpList y_ ops Q rest (a.put o.dst (.slice (some ⟨g,0,none⟩) (kl+m) cap)) (w.setCells g kl d)):
  wpList y_ ops Q (o::rest) a w:=by
 have h1:=Kv w o.type g kl cap b off m c d k l n p;refine wpList_plain e λ K q=>?_
 unfold Oper.wp;simp only[execOp,f,resolve,invoke,builtin,ZR,ZQ,Zh,List.map_toArray,ZU,List.map_nil,hs,i,h1];exact q _ _ h
def tw:List Nat->Nat->List Nat->List Nat
 |raw,_,[]=>raw
 |raw,j,x::l=>tw (raw.set j x) (j+1) l
theorem F4:∀(l raw:List Nat)(j:Nat),(tw raw j l).length=raw.length
 |[],_,_=>rfl
 |x::l,raw,j=>by rw[tw,F4 l,s_]
theorem F5:∀(l raw:List Nat)(j:Nat),j+l.length<=raw.length->(tw raw j l).take (j+l.length)=raw.take j++l
 |[],raw,j,_=>by simp[tw]
 |x::l,raw,j,h=>by
  rw[u_] at h⊢;have h1:=F5 l (raw.set j x) (j+1) (by rw[s_];omega);rw[tw,show j+(l.length+1)=j+1+l.length by omega,h1];have b:j<(raw.set j x).length:=by rw[s_];omega
  rw[List.take_succ_eq_append_getElem b,List.getElem_set_self,List.take_set_of_le (w_ _),Zv];rfl
section
variable {K:Nat->Prop}{base:Nat}{w di W:World}{G:Nat}{hs:Nat->aq}{cb:Nat->Nat}{s:aj}
theorem Kw{s:aj}{k:Nat}(hk:k<s.c.wt.length):s.pZ k (ax s.c.wt k)=s:=by
 have e:s.c.wt.set k (ax s.c.wt k)=s.c.wt:=by rw[E0 hk,ZZ]
 show{s with c:={s.c with wt:=s.c.wt.set k (ax s.c.wt k)}}=s;rw[e]
theorem Kx(s:aj)(k:Nat)(a b:List Nat):(s.pZ k a).pZ k b=s.pZ k b:=by
 simp[aj.pZ,Z3]
theorem F6{s:aj}{k:Nat}(hk:k<s.c.wt.length)(l:List Nat):ax (s.pZ k l).c.wt k=l:=by
 show ax (s.c.wt.set k l) k=l;rw[qE,if_pos ⟨rfl,hk⟩]
theorem aU.Ky(h:aU K base w G hs cb s){k g:Nat}(i:(hs (ij k)).b=some g)(hk:k<s.c.wt.length)(j d:Nat):aU K base (w.setCell ⟨g,j,none⟩ (tq cb d)) G hs cb (s.pZ k ((ax s.c.wt k).set j d))/\aD K w (w.setCell ⟨g,j,none⟩ (tq cb d)):=by
 refine⟨⟨(h.e.cell i j (tq cb d)).eq rfl rfl rfl (λ _ _=>rfl) rfl (λ r=>?_),h.s.more (kK w g j _).size⟩,aD.set g j _ (h.s.row _ g i)⟩
 by_cases f:r=ij k
 ·subst f;rw[jH,v8,v8,F6 hk];simp[kV,Zp]
 ·rw[aX _ _ f]
  by_cases l:r=0
  ·subst l;show((List.range s.c.wt.length).map λ j=>(hs (ij j)).v)=(List.range (s.c.wt.set k _).length).map λ j=>(hs (ij j)).v
   rw[s_]
  ·exact(FW hs cb s l f).symm
theorem aU.DF:∀(l:List Nat){w:World}{s:aj}(h:aU K base w G hs cb s){k g:Nat}(e:(hs (ij k)).b=some g)(hk:k<s.c.wt.length)(j:Nat),aU K base (w.setCells g j (kV cb l)) G hs cb (s.pZ k (tw (ax s.c.wt k) j l))/\aD K w (w.setCells g j (kV cb l))
 |[],w,s,h,k,g,e,hk,j=>by
  rw[tw,Kw hk];exact⟨h,aD.refl⟩
 |d::l,w,s,h,k,g,e,hk,j=>by
  have h1:=h.Ky e hk j d;have f:=aU.DF l h1.1 e (by show k<(s.c.wt.set k _).length;rw[s_];exact hk) (j+1);rw[F6 hk,Kx] at f;exact⟨f.1,h1.2.trans f.2⟩
theorem aU.Kz(h:aU K base w G hs cb s){g0 k m:Nat}(d:(hs 0).b=some g0)(hk:k<s.c.wt.length)(hm:m<=(ax s.c.wt k).length):
  aU K base (w.setCell ⟨g0,k,none⟩ (.slice (hs (ij k)).A m (hs (ij k)).c)) G (iH hs (ij k) ⟨(hs (ij k)).A,m,(hs (ij k)).c⟩) cb (s.pZ k ((ax s.c.wt k).take m))/\aD K w (w.setCell ⟨g0,k,none⟩ (.slice (hs (ij k)).A m (hs (ij k)).c)):=by
 refine⟨?_,aD.set g0 k _ (h.s.row 0 g0 d)⟩
 cases f:(hs (ij k)).b with
 |some g=>
  refine h.DB d hk (h':=⟨(hs (ij k)).A,m,(hs (ij k)).c⟩) ?_ (h.s.cut m);refine(j5.cut h.e f (k:=m) (by rw[h.e.Ae];exact hm)).eq rfl rfl rfl (λ _ _=>rfl) rfl (λ r=>?_)
  by_cases e:r=ij k
  ·subst e;rw[jH,jH,Ad,v8];simp[kV]
  ·rw[aX _ _ e,aX _ _ e]
 |none=>
  have i:(hs (ij k)).n=0:=by
   rcases Nat.eq_zero_or_pos (hs (ij k)).n with j|j
   ·exact j
   ·obtain⟨g,_,o⟩:=h.e.rows.addr (r:=ij k) (by omega);rw[f] at o;cases o
  have hl:ax s.c.wt k=[]:=List.eq_nil_of_length_eq_zero (by rw[<-h.e.Ae,i]);have q:m=0:=by rw[hl] at hm;simpa using hm
  subst q;have p:(⟨(hs (ij k)).A,0,(hs (ij k)).c⟩:aq)=hs (ij k):=by rw[<-i]
  have t:Value.slice (hs (ij k)).A 0 (hs (ij k)).c=(hs (ij k)).v:=by rw[<-p];rfl
  have hu:iH hs (ij k) (hs (ij k))=hs:=funext λ r=>by
   by_cases e:r=ij k
   ·subst e;rw[jH]
   ·rw[aX _ _ e]
  have:=h.DB d hk (h':=hs (ij k)) (w1:=w) (l:=ax s.c.wt k) (by
   rw[hu];refine h.e.eq rfl rfl rfl (λ _ _=>rfl) rfl (λ r=>?_)
   by_cases e:r=ij k
   ·subst e;rw[jH,v8]
   ·rw[aX _ _ e]) (by rw[hu];exact h.s)
  rw[p,t,e_];rw[hl] at this;exact this
def aj.sQ(s:aj)(d:Nat)(l:List Int):aj:={s with c:=lN s.c d l}
theorem KA(hs:Nat->aq)(cb:Nat->Nat)(s:aj){d r:Nat}{l:List Int}(e:r≠kz d):cont hs cb (s.sQ d l) r=cont hs cb s r:=by
 rcases Nat.lt_or_ge r 13 with h|h
 ·have:r=0\/r=1\/r=2\/r=3\/r=4\/r=5\/r=6\/r=7\/r=8\/r=9\/r=10\/r=11\/r=12:=by omega
  rcases this with rfl|rfl|rfl|rfl|rfl|rfl|rfl|rfl|rfl|rfl|rfl|rfl|rfl<;>rfl
 ·have a0:¬r=0:=by omega
  have a1:¬r=1:=by omega
  have a2:¬r=2:=by omega
  have a3:¬r=3:=by omega
  have a4:¬r=4:=by omega
  have a5:¬r=5:=by omega
  have f:¬r=6:=by omega
  have g:¬r=7:=by omega
  have i:¬r=8:=by omega
  have a9:¬r=9:=by omega
  have j:¬r=10:=by omega
  have k:¬r=11:=by omega
  have a12:¬r=12:=by omega
  unfold cont;simp only[a0,a1,a2,a3,a4,a5,f,g,i,a9,j,k,a12,if_false]
  by_cases hm:r%3=1
  ·rw[if_pos hm,if_pos hm];rfl
  ·rw[if_neg hm,if_neg hm]
   by_cases b:r%3=2
   ·rw[if_pos b,if_pos b];have:ax (s.sQ d l).c.cl ((r-14)/3)=ax s.c.cl ((r-14)/3):=by
     show ax (s.c.cl.set d l) _=_;rw[qE,if_neg (λ m=>e (by unfold kz;omega))]
    rw[this]
   ·rw[if_neg b,if_neg b];rfl
theorem aU.F7(h:aU K base w G hs cb s){d g:Nat}(i:(hs (kz d)).b=some g)(k:d<s.c.cl.length)(j:Nat)(x:Int):aU K base (w.setCell ⟨g,j,none⟩ (.int .i64 x)) G hs cb (s.sQ d ((ax s.c.cl d).set j x))/\aD K w (w.setCell ⟨g,j,none⟩ (.int .i64 x)):=by
 refine⟨⟨(h.e.cell i j (.int .i64 x)).eq rfl rfl rfl (λ _ _=>rfl) (rj _ _ _).symm (λ r=>?_),?_⟩,aD.set g j _ (h.s.row _ g i)⟩
 ·by_cases f:r=kz d
  ·subst f;rw[jH,xX,xX];show _=gX (ax (s.c.cl.set d _) d);rw[qE,if_pos ⟨rfl,k⟩];simp[gX,Zp]
  ·rw[aX _ _ f];exact(KA hs cb s f).symm
 ·show Sep K _ G hs cb (lN s.c d _).cl.length;rw[rj];exact h.s.more (kK w g j _).size
end
end
section
section
variable {F Fd:List (List Int)}{c:Core}{h:Nat}{P:List Nat}
theorem kf.yW(L:kf F Fd c h P)(x:Nat):kf F Fd {c with ag:=x} h P:=
 ⟨⟨L.aL.rN,L.aL.pM,L.aL.o8,L.aL.lit,L.aL.nr,L.aL.uk,L.aL.pos,L.aL.ri,L.aL.oH,L.aL.mG,L.aL.p7⟩,⟨L.jK.mI,L.jK.imp,L.jK.tL,L.jK.tM,L.jK.tN⟩,⟨L.wt.qV,L.wt.qW,L.wt.tg,L.wt.uT⟩,L.rP,L.rQ,L.cur,L.hle⟩
theorem yy.nW(W:yy c)(k:Nat):(ax c.wt k).length<=c.cl.length:=xL _ _ (W.tg k) (λ d b=>(W.qW k d b).1)
theorem oR.len{n:Nat}{l:List Int}(h:oR n l):l.length<=2*n+2:=by
 have:=xL (2*n+2) (l.map jD) (by
  have:=h.nr;rw[List.nodup_iff_pairwise_ne] at this⊢;exact List.Pairwise.map _ (λ a b c e=>c (vO e)) this) (λ x d=>by
  obtain⟨y,f,rfl⟩:=List.mem_map.1 d;exact(h.lt y f).at)
 rwa[List.length_map] at this
def ku(c:Core)(k:Nat)(l:List Nat):Core:={c with wt:=c.wt.set k l}
theorem BG{k:Nat}(hk:k<c.wt.length):ku c k (ax c.wt k)=c:=by
 show{c with wt:=c.wt.set k (ax c.wt k)}=c;rw[E0 hk,ZZ]
theorem DG(k:Nat)(a b:List Nat):ku (ku c k a) k b=ku c k b:=by simp[ku,Z3]
theorem KB{k0 ky d k:Nat}{gY raw:List Nat}(b:jD (-(w1 c d))=k0)(e:jD (-(ai (ax c.cl d) k))=ky)(f:ky≠k0):
  ku (se c d k gY) k0 raw=ku (lN (ku c k0 raw) d (kL (ax c.cl d) 1 k)) ky (ax c.wt ky++[d]):=by
 unfold se ku lN;simp only[b,e]
 congr 1
 rw[List.set_comm _ _ f,Z3]
end
structure Aj(F:List (List Int))(jL:List Int)(c0 c:Core)(h:Nat):Prop where
 gK:kf F F c h []
 jL:nI c jL
 sm:tU c0 c
end
section
open Go.RowKit Go.Shelf
section
variable {K:Nat->Prop}{base:Nat}{w W:World}{G:Nat}{hs:Nat->aq}{cb:Nat->Nat}{s:aj}
theorem BH(h:aU K base w G hs cb s)(x:Int)(o:Option Nat)(T:jV s.c)(b:gU s.c.n x)(f:s.c.n<=60000)(d:s.c.st.length<=1000000):
  Calls y_ 156 #[.pointer (some ⟨G,0,none⟩),.int .i64 x,qZ cb o] w λ e w'=>e=.returned (.tuple #[])/\∃h':aq,aU K base w' G (iH hs 4 h') cb {s with c:=k5 s.c x o}/\aD K w w':=by
 have g:=b.2;have i:=T.len;refine(JO h.e (ZO h.e.lt) x o (by rw[T.rN];omega) (by rw[T.pM];omega) (by rw[T.o8];omega) (by omega) (by omega) d).mono ?_;rintro e w' ⟨he,h',E,F,aa⟩;exact⟨he,h',⟨E,(h.s.iS (h.s.aa aa)).more F.size⟩,aD.Fo F h.s⟩
theorem BI(h:aU K base w G hs cb s)(T:jV s.c)(d:s.c.n<=60000){x:Int}(b:gU s.c.n x):Calls y_ 152 #[.pointer (some ⟨G,0,none⟩),.int .i64 x] w λ e w'=>e=.returned (.int .i8 (jZ s.c x))/\w=w':=
 JM h.e x (by rw[T.rN];have:=b.2;omega) T.uk (by have:=b.2;omega)
theorem F8{n:Nat}{x:Int}(b:gU n x)(c:n<=60000)(w:World):Calls y_ 181 #[.int .i64 x] w λ e w'=>e=.returned (.int .i64 (jD x))/\w=w':=
 Dl x w (by have:=b.2;unfold aH at this;omega) (by have:=b.2;unfold aH at this;omega)
end
def DH(w:World)(p:Addr):Nat:=match w.cell? p with
 |some (.int _ x)=>x.toNat
 |_=>0
theorem aU.yX{w:World}(h:aU K base w G hs cb s):DH w ⟨G,7,none⟩=s.c.ag:=by
 unfold DH;rw[h.e.kA (k:=7) (v:=.int .i64 s.c.ag) rfl];simp
theorem BJ{w:World}{c2:Core}{k0 g0 kl gY iU:Nat}{raw kept:List Nat}
  (E:aU K base w G hs cb {s with c:=ku c2 k0 raw}) (f:(hs 0).b=some g0) (hk:k0<c2.wt.length) (g:hs (ij k0)=⟨l7,gY,iU⟩) (i:raw.take kl=kept) (hle:kl<=raw.length) (j:ax c2.wt k0=kept):
  aU K base ((w.setCell ⟨g0,k0,none⟩ (.slice l7 kl iU)).drew) G (iH hs (ij k0) ⟨l7,kl,iU⟩) cb {s with c:=c2}/\aD K w ((w.setCell ⟨g0,k0,none⟩ (.slice l7 kl iU)).drew):=by
 have d:ax (ku c2 k0 raw).wt k0=raw:=by show ax (c2.wt.set k0 raw) k0=raw;rw[qE,if_pos ⟨rfl,hk⟩]
 have h1:=E.Kz f (k:=k0) (m:=kl) (by show k0<(c2.wt.set k0 raw).length;rw[s_];exact hk) (by show kl<=(ax (ku c2 k0 raw).wt k0).length;rw[d];exact hle);rw[g] at h1;have e:(({s with c:=ku c2 k0 raw}:aj).pZ k0 ((ax ({s with c:=ku c2 k0 raw}:aj).c.wt k0).take kl))={s with c:=c2}:=by
  show({s with c:=ku (ku c2 k0 raw) k0 ((ax (ku c2 k0 raw).wt k0).take kl)}:aj)=_;rw[d,i,DG,<-j,BG hk]
 rw[e] at h1;exact⟨h1.1.drew,h1.2.trans aD.drew⟩
def KD(K:Nat->Prop)(base:Nat)(w:World)(G:Nat)(cb:Nat->Nat)(F:List (List Int))(b:List Int)(s:aj)(e:Ending)(w':World):Prop:=
 ∃(p:Option Nat)(c':Core)(hs':Nat->aq)(h':Nat),e=.returned (qZ cb p)/\Aj F b s.c c' h'/\aU K base w' G hs' cb {s with c:=c'}/\aD K w w'/\
  (match p with
   |none=>h'=c'.au.length/\c'.ag=h'
   |some d=>d<c'.cl.length/\∀x∈ax c'.cl d,-x∈c'.au)
end
section
open Go.RowKit Go.Shelf
section
variable {K:Nat->Prop}{base:Nat}{w di W:World}{G:Nat}{hs:Nat->aq}{cb:Nat->Nat}{s:aj}
structure yY(base:Nat)(w:World)(G:Nat)(hs:Nat->aq)(cb:Nat->Nat)(d bu m gL:Nat)(l:List Int):Prop where
 b:(hs (kz d)).b=some bu
 len:l.length=m
 cap:m<=gL
 ag:w.cell? ⟨cb d,0,none⟩=some (.slice (some ⟨bu,0,none⟩) m gL)
 kB:∀j,j<m->w.cell? ⟨bu,j,none⟩=some (.int .i64 (ai l j))
 uW:∀j,w.frozen? ⟨bu,j,none⟩=false
 ne:cb d≠bu
theorem aU.yZ(h:aU K base w G hs cb s){d:Nat}(f:d<s.c.cl.length)(l:1<=(ax s.c.cl d).length):∃bu m g,yY base w G hs cb d bu m g (ax s.c.cl d):=by
 obtain⟨bu,n,b,i⟩:=h.e.wR (r:=kz d) (h.e.Af d) (by omega);have cap:=h.e.xV b;rw[h.e.Af] at cap;have c0:=(h.z7 f).1;rw[i] at c0;exact⟨bu,_,_,b,rfl,cap,c0,λ j k=>h.e.xZ b k,λ j=>h.e.rows.free b j,h.e.xP f _ _ b⟩
theorem aU.DI(h:aU K base w G hs cb s){k g:Nat}(f:(hs (ij k)).b=some g){j d:Nat}(i:(ax s.c.wt k)[j]? =some d):w.cell? ⟨g,j,none⟩=some (.pointer (some ⟨cb d,0,none⟩)):=h.e.get f (by
 rw[v8];simp[kV,i,tq])
theorem aU.F9(h:aU K base w G hs cb s){g0 k d lP oE:Nat}{oU:Option Addr}{v0 v':Value}(i:(hs 0).b=some g0)(hk:k<s.c.wt.length)(f:hs (ij k)=⟨oU,lP,oE⟩)(l:lP=(ax s.c.wt k).length)(m:w.cell? ⟨G,1,none⟩=some v0)
  (g:oa w base 164 (.slice oU lP oE) (lP+1) (kV cb (ax s.c.wt k)++[.pointer (some ⟨cb d,0,none⟩)]) v' di):
  ∃(A':Option Addr)(c':Nat),v'=.slice A' (lP+1) c'/\di.cell? ⟨G,1,none⟩=some v0/\di.cell? ⟨g0,k,none⟩=some (.slice oU lP oE)/\(∀j,di.frozen? ⟨g0,j,none⟩=false)/\
   (∀b,b<w.heap.size->(hs (ij k)).b≠some b->∀j,di.cell? ⟨b,j,none⟩=w.cell? ⟨b,j,none⟩)/\aU K base (di.setCell ⟨g0,k,none⟩ v') G (iH hs (ij k) ⟨A',lP+1,c'⟩) cb (s.pZ k (ax s.c.wt k++[d]))/\aD K w (di.setCell ⟨g0,k,none⟩ v'):=by
 obtain⟨A',c',n,o,p,f9,E,F⟩:=h.DC i hk f l m g;refine⟨A',c',n,o,p,f9,λ b q r j=>?_,E,F⟩;have t:=g.2.1;refine t_ (t.block b q (λ e=>r ?_));have:(hs (ij k)).b=(Value.slice oU lP oE).ownBlock:=by rw[<-aq.own,f];rfl
 rw[this];exact e.symm
theorem KE{kept ls:List Nat}{kl d:Nat}(h:kept.length=kl)(hl:kl<ls.length):(kept++ls.drop kl).set kl d=(kept++[d])++ls.drop (kl+1):=by
 subst h;rw[List.set_append_right _ _ (w_ _),Nat.sub_self,List.drop_eq_getElem_cons hl,List.set_cons_zero,Zv];rfl
theorem DJ{c:Core}{k:Nat}{l:List Nat}(T:jV c):jV (ku c k l):=⟨T.rN,T.pM,T.o8,T.lit,T.nr,T.uk,T.pos,T.ri,T.oH,T.mG,T.p7⟩
theorem aU.Ga(h:aU K base w G hs cb s){d bu i j:Nat}(g:(hs (kz d)).b=some bu)(e:d<s.c.cl.length){x y:Int}(k:ai (ax s.c.cl d) i=x)(l:ai (ax s.c.cl d) j=y):
  aU K base (((w.setCell ⟨bu,i,none⟩ (.int .i64 y)).setCell ⟨bu,j,none⟩ (.int .i64 x)).drew) G hs cb (s.sQ d (kL (ax s.c.cl d) i j))/\aD K w (((w.setCell ⟨bu,i,none⟩ (.int .i64 y)).setCell ⟨bu,j,none⟩ (.int .i64 x)).drew):=by
 have h1:=h.F7 g e i y;have m:d<(s.sQ d ((ax s.c.cl d).set i y)).c.cl.length:=by show d<(lN s.c d _).cl.length;rw[rj];exact e
 have f:=h1.1.F7 g m j x;have n:ax (s.sQ d ((ax s.c.cl d).set i y)).c.cl d=(ax s.c.cl d).set i y:=by show ax (s.c.cl.set d _) d=_;rw[qE,if_pos ⟨rfl,e⟩]
 have o:((s.sQ d ((ax s.c.cl d).set i y)).sQ d (((ax s.c.cl d).set i y).set j x))=s.sQ d (kL (ax s.c.cl d) i j):=by
  unfold aj.sQ lN kL;rw[k,l];simp[Z3]
 rw[n,o] at f;exact⟨f.1.drew,h1.2.trans (f.2.trans aD.drew)⟩
end
end
section
open Go.RowKit Go.Shelf
section
variable {K:Nat->Prop}{base:Nat}{w W W' rF:World}{G:Nat}{hs hs':Nat->aq}{cb sj:Nat->Nat}{s s':aj}{ls:Nat->aq}{X:Nat->List Value}
theorem lI.app(h:lI K base w W G hs cb s ls X){r:Nat}(f:xW r=3){xs:List Int}{x:Int}{v':Value}(i:oa W w.heap.size 3 (ls r).v ((ls r).n+1) ((xs++[x]).map (Zt .i64)) v' rF):
  ∃h':aq,v'=h'.v/\h'.n=(ls r).n+1/\(h'.b=(ls r).b\/∀g,h'.b=some g->W.heap.size<=g)/\lI K base w rF G hs cb s (iH ls r h') (iH X r (gX (xs++[x])))/\KeepsOthers W rF:=by
 obtain⟨c,j,k⟩:=i;obtain⟨A',c',rfl⟩:=EO c;have d:(⟨A',(ls r).n+1,c'⟩:aq).b=(ls r).b\/∀g,(⟨A',(ls r).n+1,c'⟩:aq).b=some g->W.heap.size<=g:=by
  rcases k with h1|h1
  ·exact .inl (by rw[<-aq.own,<-aq.own];exact h1)
  ·exact .inr (λ g e=>by rw[<-aq.own] at e;have:=h1.symm.trans e;injection this with this;omega)
 refine⟨⟨A',(ls r).n+1,c'⟩,rfl,rfl,d,h.iS (r:=r) (h':=⟨A',(ls r).n+1,c'⟩) (ys:=gX (xs++[x])) (by rw[<-aq.own];exact j) (by rw[f];exact c) d⟩
end
structure kN(K:Nat->Prop)(base:Nat)(w W:World)(G:Nat)(hs:Nat->aq)(cb:Nat->Nat)(s:aj)(aG bH bJ dm bf:Nat)(out mk:List Int)(op:Int)(ig:aq)(iI:List Value)(ls:Nat->aq)(X:Nat->List Value):Prop where
 gw:lI K base w W G hs cb s ls X
 qb:ls 0=oD aG
 gI:X 0=[.pointer (some ⟨G,0,none⟩)]
 jm:ls 1=oD bH
 iL:X 1=[(ls 5).v]
 jj:X 5=gX out
 kr:ls 2=oD bJ
 jk:X 2=[(ls 6).v]
 iV:X 6=gX mk
 pH:ls 3=oD dm
 jt:X 3=[.int .i64 op]
 rX:ls 4=oD bf
 jv:X 4=[.func (.func 182) #[] #[.pointer (some ⟨aG,0,none⟩),.pointer (some ⟨bJ,0,none⟩)]]
 tA:ls 11=ig
 vb:X 11=iI
section
variable {K:Nat->Prop}{base:Nat}{w W W' rF:World}{G:Nat}{hs hs':Nat->aq}{cb sj:Nat->Nat}{s s':aj}{aG bH bJ dm bf:Nat}{out mk:List Int}{op:Int}{ig:aq}{iI:List Value}{ls:Nat->aq}{X:Nat->List Value}
theorem kN.vc(h:kN K base w W G hs cb s aG bH bJ dm bf out mk op ig iI ls X)(b:lI K base w W' G hs' sj s' ls X):kN K base w W' G hs' sj s' aG bH bJ dm bf out mk op ig iI ls X:=⟨b,h.qb,h.gI,h.jm,h.iL,h.jj,h.kr,h.jk,h.iV,h.pH,h.jt,h.rX,h.jv,h.tA,h.vb⟩
theorem kN.bp(h:kN K base w W G hs cb s aG bH bJ dm bf out mk op ig iI ls X):(ls 0).b=some aG:=by rw[h.qb];rfl
theorem kN.bg(h:kN K base w W G hs cb s aG bH bJ dm bf out mk op ig iI ls X):(ls 1).b=some bH:=by rw[h.jm];rfl
theorem kN.gd(h:kN K base w W G hs cb s aG bH bJ dm bf out mk op ig iI ls X):(ls 2).b=some bJ:=by rw[h.kr];rfl
theorem kN.mj(h:kN K base w W G hs cb s aG bH bJ dm bf out mk op ig iI ls X):(ls 3).b=some dm:=by rw[h.pH];rfl
theorem kN.qM(h:kN K base w W G hs cb s aG bH bJ dm bf out mk op ig iI ls X):(ls 4).b=some bf:=by rw[h.rX];rfl
theorem kN.aS(h:kN K base w W G hs cb s aG bH bJ dm bf out mk op ig iI ls X):W.cell? ⟨aG,0,none⟩=some (.pointer (some ⟨G,0,none⟩)):=(h.gw.kB h.bp (by rw[h.gI];rfl)).1
theorem kN.co(h:kN K base w W G hs cb s aG bH bJ dm bf out mk op ig iI ls X):W.cell? ⟨bH,0,none⟩=some (ls 5).v/\W.frozen? ⟨bH,0,none⟩=false:=h.gw.kB h.bg (by rw[h.iL];rfl)
theorem kN.j3(h:kN K base w W G hs cb s aG bH bJ dm bf out mk op ig iI ls X):W.cell? ⟨bJ,0,none⟩=some (ls 6).v/\W.frozen? ⟨bJ,0,none⟩=false:=h.gw.kB h.gd (by rw[h.jk];rfl)
theorem kN.w5(h:kN K base w W G hs cb s aG bH bJ dm bf out mk op ig iI ls X):W.cell? ⟨dm,0,none⟩=some (.int .i64 op)/\W.frozen? ⟨dm,0,none⟩=false:=h.gw.kB h.mj (by rw[h.jt];rfl)
theorem kN.su(h:kN K base w W G hs cb s aG bH bJ dm bf out mk op ig iI ls X):W.cell? ⟨bf,0,none⟩=some (.func (.func 182) #[] #[.pointer (some ⟨aG,0,none⟩),.pointer (some ⟨bJ,0,none⟩)]):=(h.gw.kB h.qM (by rw[h.jv];rfl)).1
theorem kN.j0(h:kN K base w W G hs cb s aG bH bJ dm bf out mk op ig iI ls X):(ls 5).n=out.length:=by have:=h.gw.rows.len 5;rw[h.jj] at this;simpa[gX] using this.symm
theorem kN.n6(h:kN K base w W G hs cb s aG bH bJ dm bf out mk op ig iI ls X):(ls 6).n=mk.length:=by have:=h.gw.rows.len 6;rw[h.iV] at this;simpa[gX] using this.symm
theorem kN.grow(h:kN K base w W G hs cb s aG bH bJ dm bf out mk op ig iI ls X)(b:Below W.heap.size W W'):kN K base w W' G hs cb s aG bH bJ dm bf out mk op ig iI ls X:=h.vc (h.gw.grow b)
theorem kN.drew(h:kN K base w W G hs cb s aG bH bJ dm bf out mk op ig iI ls X):kN K base w W.drew G hs cb s aG bH bJ dm bf out mk op ig iI ls X:=h.vc h.gw.drew
theorem kN.KF(h:kN K base w W G hs cb s aG bH bJ dm bf out mk op ig iI ls X){x:Int}{v':Value}(f:oa W w.heap.size 3 (ls 6).v ((ls 6).n+1) ((mk++[x]).map (Zt .i64)) v' rF):
  ∃A' c' g i,v'=.slice A' ((ls 6).n+1) c'/\rF.cell? ⟨bJ,0,none⟩=some (ls 6).v/\rF.frozen? ⟨bJ,0,none⟩=false/\kN K base w (rF.setCell ⟨bJ,0,none⟩ v') G hs cb s aG bH bJ dm bf out (mk++[x]) op ig iI g i/\KeepsOthers W (rF.setCell ⟨bJ,0,none⟩ v'):=by
 obtain⟨⟨A',j,c'⟩,rfl,c,o,d,l⟩:=h.gw.app (r:=6) rfl f;have c:j=(ls 6).n+1:=c;subst c;have e:(iH ls 6 ⟨A',(ls 6).n+1,c'⟩ 2).b=some bJ:=by rw[aX _ _ (by omega)];exact h.gd
 have c2:=d.kB e (k:=0) (v:=(ls 6).v) (by rw[aX _ _ (by omega),h.jk];rfl);obtain⟨m,k2⟩:=d.set e 0 (aq.v ⟨A',(ls 6).n+1,c'⟩);refine⟨A',c',iH ls 6 ⟨A',(ls 6).n+1,c'⟩,_,rfl,c2.1,c2.2,⟨m,?_,?_,?_,?_,?_,?_,?_,?_,?_,?_,?_,?_,?_,?_⟩,l.trans k2⟩
 ·rw[aX _ _ (by omega)];exact h.qb
 ·rw[aX _ _ (by omega),aX _ _ (by omega)];exact h.gI
 ·rw[aX _ _ (by omega)];exact h.jm
 ·rw[aX _ _ (by omega),aX _ _ (by omega),aX _ _ (by omega)];exact h.iL
 ·rw[aX _ _ (by omega),aX _ _ (by omega)];exact h.jj
 ·rw[aX _ _ (by omega)];exact h.kr
 ·rw[jH,aX _ _ (by omega),jH,h.jk];rfl
 ·rw[aX _ _ (by omega),jH]
 ·rw[aX _ _ (by omega)];exact h.pH
 ·rw[aX _ _ (by omega),aX _ _ (by omega)];exact h.jt
 ·rw[aX _ _ (by omega)];exact h.rX
 ·rw[aX _ _ (by omega),aX _ _ (by omega)];exact h.jv
 ·rw[aX _ _ (by omega)];exact h.tA
 ·rw[aX _ _ (by omega),aX _ _ (by omega)];exact h.vb
theorem kN.KG(h:kN K base w W G hs cb s aG bH bJ dm bf out mk op ig iI ls X){x:Int}{v':Value}(f:oa W w.heap.size 3 (ls 5).v ((ls 5).n+1) ((out++[x]).map (Zt .i64)) v' rF):
  ∃A' c' g i,v'=.slice A' ((ls 5).n+1) c'/\rF.cell? ⟨bH,0,none⟩=some (ls 5).v/\rF.frozen? ⟨bH,0,none⟩=false/\kN K base w (rF.setCell ⟨bH,0,none⟩ v') G hs cb s aG bH bJ dm bf (out++[x]) mk op ig iI g i/\KeepsOthers W (rF.setCell ⟨bH,0,none⟩ v'):=by
 obtain⟨⟨A',j,c'⟩,rfl,c,o,d,l⟩:=h.gw.app (r:=5) rfl f;have c:j=(ls 5).n+1:=c;subst c;have e:(iH ls 5 ⟨A',(ls 5).n+1,c'⟩ 1).b=some bH:=by rw[aX _ _ (by omega)];exact h.bg
 have c2:=d.kB e (k:=0) (v:=(ls 5).v) (by rw[aX _ _ (by omega),h.iL];rfl);obtain⟨m,k2⟩:=d.set e 0 (aq.v ⟨A',(ls 5).n+1,c'⟩);refine⟨A',c',iH ls 5 ⟨A',(ls 5).n+1,c'⟩,_,rfl,c2.1,c2.2,⟨m,?_,?_,?_,?_,?_,?_,?_,?_,?_,?_,?_,?_,?_,?_⟩,l.trans k2⟩
 ·rw[aX _ _ (by omega)];exact h.qb
 ·rw[aX _ _ (by omega),aX _ _ (by omega)];exact h.gI
 ·rw[aX _ _ (by omega)];exact h.jm
 ·rw[jH,aX _ _ (by omega),jH,h.iL];rfl
 ·rw[aX _ _ (by omega),jH]
 ·rw[aX _ _ (by omega)];exact h.kr
 ·rw[aX _ _ (by omega),aX _ _ (by omega),aX _ _ (by omega)];exact h.jk
 ·rw[aX _ _ (by omega),aX _ _ (by omega)];exact h.iV
 ·rw[aX _ _ (by omega)];exact h.pH
 ·rw[aX _ _ (by omega),aX _ _ (by omega)];exact h.jt
 ·rw[aX _ _ (by omega)];exact h.rX
 ·rw[aX _ _ (by omega),aX _ _ (by omega)];exact h.jv
 ·rw[aX _ _ (by omega)];exact h.tA
 ·rw[aX _ _ (by omega),aX _ _ (by omega)];exact h.vb
theorem kN.DK(h:kN K base w W G hs cb s aG bH bJ dm bf out mk op ig iI ls X)(x:Int):∃b,kN K base w (W.setCell ⟨dm,0,none⟩ (.int .i64 x)) G hs cb s aG bH bJ dm bf out mk x ig iI ls b/\KeepsOthers W (W.setCell ⟨dm,0,none⟩ (.int .i64 x)):=by
 obtain⟨c,k2⟩:=h.gw.set h.mj 0 (.int .i64 x);refine⟨_,⟨c,h.qb,?_,h.jm,?_,?_,h.kr,?_,?_,h.pH,?_,h.rX,?_,h.tA,?_⟩,k2⟩
 ·rw[aX _ _ (by omega)];exact h.gI
 ·rw[aX _ _ (by omega)];exact h.iL
 ·rw[aX _ _ (by omega)];exact h.jj
 ·rw[aX _ _ (by omega)];exact h.jk
 ·rw[aX _ _ (by omega)];exact h.iV
 ·rw[jH,h.jt];rfl
 ·rw[aX _ _ (by omega)];exact h.jv
 ·rw[aX _ _ (by omega)];exact h.vb
theorem kN.KH(h:kN K base w W G hs cb s aG bH bJ dm bf out mk op ig iI ls X){g:Nat}(c:(ls 5).b=some g)(k:Nat)(x:Int):∃d,kN K base w (W.setCell ⟨g,k,none⟩ (.int .i64 x)) G hs cb s aG bH bJ dm bf (out.set k x) mk op ig iI ls d/\KeepsOthers W (W.setCell ⟨g,k,none⟩ (.int .i64 x)):=by
 obtain⟨e,k2⟩:=h.gw.set c k (.int .i64 x);refine⟨_,⟨e,h.qb,?_,h.jm,?_,?_,h.kr,?_,?_,h.pH,?_,h.rX,?_,h.tA,?_⟩,k2⟩
 ·rw[aX _ _ (by omega)];exact h.gI
 ·rw[aX _ _ (by omega)];exact h.iL
 ·rw[jH,h.jj];unfold gX;rw[Zp]
 ·rw[aX _ _ (by omega)];exact h.jk
 ·rw[aX _ _ (by omega)];exact h.iV
 ·rw[aX _ _ (by omega)];exact h.jt
 ·rw[aX _ _ (by omega)];exact h.jv
 ·rw[aX _ _ (by omega)];exact h.vb
theorem kN.KI(h:kN K base w W G hs cb s aG bH bJ dm bf out mk op ig iI ls X)(v:Value):∃b c,kN K base w (W.alloc (.cells #[v] 3)) G hs cb s aG bH bJ dm bf out mk op (oD W.heap.size) [v] b c:=by
 have B:=h.gw.box 11 v;refine⟨_,_,⟨B,?_,?_,?_,?_,?_,?_,?_,?_,?_,?_,?_,?_,jH _ _ _,jH _ _ _⟩⟩
 ·rw[aX _ _ (by omega)];exact h.qb
 ·rw[aX _ _ (by omega)];exact h.gI
 ·rw[aX _ _ (by omega)];exact h.jm
 ·rw[aX _ _ (by omega),aX _ _ (by omega)];exact h.iL
 ·rw[aX _ _ (by omega)];exact h.jj
 ·rw[aX _ _ (by omega)];exact h.kr
 ·rw[aX _ _ (by omega),aX _ _ (by omega)];exact h.jk
 ·rw[aX _ _ (by omega)];exact h.iV
 ·rw[aX _ _ (by omega)];exact h.pH
 ·rw[aX _ _ (by omega)];exact h.jt
 ·rw[aX _ _ (by omega)];exact h.rX
 ·rw[aX _ _ (by omega)];exact h.jv
end
def KJ(K:Nat->Prop)(base:Nat)(w W:World)(G:Nat)(hs:Nat->aq)(cb:Nat->Nat)(s:aj)(aG bH bJ dm bf:Nat)(out mk:List Int)(op:Int)(ig:aq)(iI:List Value)(v:Nat)(e:Ending)(W':World):Prop:=
 e=.returned (.tuple #[])/\∃b c,kN K base w W' G hs cb (s.tr v true) aG bH bJ dm bf out (mk++[(v:Int)]) op ig iI b c/\KeepsOthers W W'
theorem KK{w:World}{bf:Nat}(h:kN K base w W G hs cb s aG bH bJ dm bf out mk op ig iI ls X)
  (v:Nat) (r:v<s.aN.length) (hm:mk.length<=1000000):
  Calls y_ 182 #[.int .i64 (v:Int),.pointer (some ⟨aG,0,none⟩),.pointer (some ⟨bJ,0,none⟩)] W (KJ K base w W G hs cb s aG bH bJ dm bf out mk op ig iI v):=by
 obtain⟨g12,f,t,f12⟩:=h.gw.gz.e.lV 16 12 rfl h.gw.gz.e.n12 (by omega);have aS:=h.aS;have aR:(v:Int)<(s.aN.length:Int):=by omega
 have c12:=h.gw.gz.e.zY f r;have u:=f12 v;have i:=h.gw.back (h.gw.call.wS f v true).1 (h.gw.call.wS f v true).2;have b:=U (h.vc i.1);have qd:=U i.2;clear i h f12 f;go_enter Tryz.func182,Tryz.ntmps182
 go_upto_region 1 with fail
 generalize W.setCell ⟨g12,v,none⟩ (.bool true)=V at b qd⊢;obtain⟨j,n6,c6,d⟩:∃A n c,ls 6=⟨A,n,c⟩:=⟨_,_,_,rfl⟩
 have m:n6=mk.length:=by have:=b.o.n6;rw[d] at this;exact this
 have j3:V.cell? ⟨bJ,0,none⟩=some (.slice j n6 c6):=by have j3:=b.o.j3.1;rw[d] at j3;exact j3
 have g:=U (b.o.grow (bK V (mD [(v:Int)])));have y:bI ((V.alloc (mD [(v:Int)])).ownsRow w.heap.size 3 1 (.slice j n6 c6) n6 (mk.map (Zt .i64))):=U (by have:=g.o.gw.rows.row 6;rw[d,g.o.iV] at this;exact this);have z:=U (aQ.lit V [(v:Int)] 1 V.heap.size rfl rfl (by omega));have p:=U (z_ d m);have iP:=b.o.j3.2;clear t aS c12 u d m
 go_wp2_with (at_builtin;refine vq rfl (.tmp 10) (.tmp 12) rfl w.heap.size (.slice j n6 c6) n6 mk rfl y.o (some ⟨V.heap.size,0,none⟩) 1 1 [(v:Int)] rfl z.o (by have:=p.o.2;omega) g.o.gw.iP.size ?_;intro v9 di q;obtain⟨A',c',B,C,rfl,a1,a2,k,l⟩:=g.o.KF (x:=(v:Int)) (v':=v9) (by rw[p.o.1];exact q);have k:=U k;have l:=U l;clear q)
 go_end0;exact⟨rfl,B,C,k.o,qd.o.trans ((KeepsOthers.below (bK V _)).trans l.o)⟩
end
section
open Go.RowKit Go.Shelf
def ve:Code->Nat->Option Code
 | .block k c,n=>if k=n then some c else ve c n
 | .seq a b,n=>match ve a n with
  |some c=>some c
  |none=>ve b n
 | .loop c,n=>ve c n
 | .scope c,n=>ve c n
 | .cond _ a b,n=>match ve a n with
  |some c=>some c
  |none=>ve b n
 |_,_=>none
def nu:Code->Code
 | .seq _ b=>b
 |c=>c
def DL:Code->Code
 | .seq a _=>a
 |c=>c
def BK:Code->Code
 | .cond _ a _=>a
 |c=>c
def Gb:Code->Code
 | .loop c=>c
 |c=>c
noncomputable def runIn:Code:=Gb (((Tryz.f145.body.bind λ c=>ve c 2)).getD .skip)
noncomputable def Gc:Code:=(Tryz.f145.body.bind λ c=>ve c 3).getD .skip
noncomputable def KL:Code:=nu (nu (nu (nu Gc)))
noncomputable def KM:Code:=Gb ((Tryz.f145.body.bind λ c=>ve c 4).getD .skip)
noncomputable def Gd:Code:=BK (nu ((Tryz.f145.body.bind λ c=>ve c 5).getD .skip))
structure rY(G:Nat)(gD:Nat->aq)(c1:Core)(s:aj)(lit:Int)(ls:List Nat)(k0 g0 iQ gY iU:Nat):Prop where
 bp:(gD 0).b=some g0
 ag:gD (ij k0)=⟨some ⟨iQ,0,none⟩,gY,iU⟩
 len:gY=ls.length
 lb:gY<=100000
 cap:gY<=iU
 kB:jD lit=k0
 ok:gU s.c.n lit
 wt:c1.wt.length=2*s.c.n+2
 n:c1.n=s.c.n
 ak:s.c.n<=60000
 jq:s.c.st.length<=1000000
 hk:k0<2*s.c.n+2
 st:c1.st=s.c.st
 cl:c1.cl.length=s.c.cl.length
 DM:s.c.cl.length<=100000
structure mH(K:Nat->Prop)(base:Nat)(w:World)(G:Nat)(cb:Nat->Nat)(F:List (List Int))(aC:List Int)(s:aj)(c1:Core)(gD:Nat->aq)(aK:Nat)(lit:Int)(ls:List Nat)(k0:Nat)(i kl:Nat)(kept:List Nat)(c2:Core)(jU:Nat->aq)(W:World):Prop where
 nX:ou F F aC c1 aK lit ls i kept c2
 tB:kept.length=kl
 gz:aU K base W G jU cb {s with c:=ku c2 k0 (kept++ls.drop kl)}
 hw:jU (ij k0)=gD (ij k0)
 av:jU 0=gD 0
 iP:aD K w W
section
variable {K:Nat->Prop}{base:Nat}{w W:World}{G:Nat}{gD jU:Nat->aq}{cb:Nat->Nat}{s:aj}{F:List (List Int)}{aC:List Int}{c1 c2:Core}{aK:Nat}{lit:Int}{ls:List Nat}{k0 g0 iQ gY iU i kl d:Nat}{kept:List Nat}
theorem mH.mb(b:mH K base w G cb F aC s c1 gD aK lit ls k0 i kl kept c2 jU W)(C:rY G gD c1 s lit ls k0 g0 iQ gY iU):c2.n=s.c.n:=b.nX.sm.n.trans C.n
theorem mH.vf(b:mH K base w G cb F aC s c1 gD aK lit ls k0 i kl kept c2 jU W)(C:rY G gD c1 s lit ls k0 g0 iQ gY iU):c2.wt.length=2*s.c.n+2:=b.nX.sm.Bt.trans C.wt
theorem mH.raw(b:mH K base w G cb F aC s c1 gD aK lit ls k0 i kl kept c2 jU W)(C:rY G gD c1 s lit ls k0 g0 iQ gY iU):(ku c2 k0 (kept++ls.drop kl)).wt.length=2*s.c.n+2:=by
 show(c2.wt.set _ _).length=_;rw[s_];exact b.vf C
theorem mH.KN(b:mH K base w G cb F aC s c1 gD aK lit ls k0 i kl kept c2 jU W)(C:rY G gD c1 s lit ls k0 g0 iQ gY iU):c2.cl.length<=100000:=by have:=b.nX.sm.len;have:=C.cl;have:=C.DM;omega
theorem mH.BL(b:mH K base w G cb F aC s c1 gD aK lit ls k0 i kl kept c2 jU W):kl<=i:=b.tB▸b.nX.kl
theorem mH.bp(c:mH K base w G cb F aC s c1 gD aK lit ls k0 i kl kept c2 jU W)(C:rY G gD c1 s lit ls k0 g0 iQ gY iU):(jU 0).b=some g0:=by rw[c.av];exact C.bp
theorem mH.lM(c:mH K base w G cb F aC s c1 gD aK lit ls k0 i kl kept c2 jU W)(C:rY G gD c1 s lit ls k0 g0 iQ gY iU):(jU (ij k0)).b=some iQ:=by rw[c.hw,C.ag];rfl
theorem mH.rB(b:mH K base w G cb F aC s c1 gD aK lit ls k0 i kl kept c2 jU W)(c:ls[i]? =some d):d<c2.cl.length/\2<=(ax c2.cl d).length:=by
 obtain⟨e,rfl⟩:=Zc.1 c;have:=b.nX.rB e;exact⟨this.1,this.2.1⟩
theorem mH.ok(b:mH K base w G cb F aC s c1 gD aK lit ls k0 i kl kept c2 jU W)(C:rY G gD c1 s lit ls k0 g0 iQ gY iU){k:Nat}(e:ls[i]? =some d)(hk:k<(ax c2.cl d).length):gU s.c.n (ai (ax c2.cl d) k):=by
 have:=(b.nX.gK.jK.mI d (b.rB e).1).lt _ (l5 hk);rw[b.mb C] at this;exact this
theorem mH.m(b:mH K base w G cb F aC s c1 gD aK lit ls k0 i kl kept c2 jU W)(C:rY G gD c1 s lit ls k0 g0 iQ gY iU)(c:ls[i]? =some d):(ax c2.cl d).length<=120002:=by
 have:=(b.nX.gK.jK.mI d (b.rB c).1).len;rw[b.mb C] at this;have:=C.ak;omega
end
end
section
open Go.RowKit Go.Shelf
attribute [local go_sem] Z6
def qu:Code->Nat->Option Code
 | .block k c,n=>if k=n then some c else qu c n
 | .seq a b,n=>match qu a n with
  |some c=>some c
  |none=>qu b n
 | .loop c,n=>qu c n
 | .scope c,n=>qu c n
 | .cond _ a b,n=>match qu a n with
  |some c=>some c
  |none=>qu b n
 | .rangeFunc _ _ _ b,n=>qu b n
 |_,_=>none
noncomputable def KO:Code:=(Tryz.f146.body.bind λ c=>qu c 3).getD .skip
structure sv(n:Nat)(B:Int)(aF:aj)(aN:List Bool)(s:aj):Prop where
 hk:ov aF {s with aN:=aF.aN}
 aN:s.aN=aN
 rg:mu n js B s
theorem sv.mark(h:sv n B aF aN s)(v:Nat)(b:Bool):sv n B aF (aN.set v b) (s.tr v b):=
 ⟨h.hk,by show s.aN.set v b=_;rw[h.aN],⟨h.rg.jh,h.rg.lT,h.rg.kM,h.rg.pP,h.rg.a0,h.rg.rC,h.rg.oS,h.rg.nB,h.rg.oT,h.rg.nV,h.rg.qa,h.rg.kX⟩⟩
theorem sv.Ge{q4:Int}{s':aj}(h:sv n B aF aN s)(k:ov s s')(r:mu n js q4 s'):sv n q4 aF aN s':=
 ⟨⟨k.c.trans h.hk.c,k.bl.trans h.hk.bl,k.aI.trans h.hk.aI,k.aA.trans h.hk.aA,rfl,k.nl.trans h.hk.nl,k.jl.trans h.hk.jl,k.ol.trans h.hk.ol,h.hk.same.trans k.same,k.nV.trans h.hk.nV,λ d=>⟨(k.ci d).1.trans (h.hk.ci d).1,(k.ci d).2.trans (h.hk.ci d).2⟩⟩,k.aN.trans h.aN,r⟩
theorem sv.c{n:Nat}{B:Int}{aF s:aj}{aN:List Bool}(h:sv n B aF aN s):s.c=aF.c:=h.hk.c
inductive we(c0:Core)(x:Int)(aN:List Bool)(out mk:List Int)(op:Int):List Bool->List Int->List Int->Int->Prop
 |skip (h:jE aN (aH x)=true\/aR c0 x=0):we c0 x aN out mk op aN out mk op
 |nt (h:jE aN (aH x)=false) (av:aR c0 x≠0) (h1:aR c0 x=c0.st.length):we c0 x aN out mk op (aN.set (aH x) true) out (mk++[(aH x:Int)]) (op+1)
 |put (h:jE aN (aH x)=false) (av:aR c0 x≠0) (h1:aR c0 x≠c0.st.length):we c0 x aN out mk op (aN.set (aH x) true) (out++[x]) (mk++[(aH x:Int)]) op
theorem KP{w:World}{bf:Nat}{l:Nat}
  (L:kN K base w W G hs cb s aG bH bJ dm bf out mk op ig iI ls X) (f:sv n B aF aN s) (bd:n<=10) (aV:aF.c.st.length<=1000000) (aW:aF.aI.length<=100000) (ad:aN.length=n+1) (ae:aF.c.lvl.length=n+1) (af:0<=B) (ag:B<=4611686018427387904) (F:gU n x) (hm:mk.length<=1000) (ah:out.length<=1000) (ai:0<=op/\op<=1000)
  (ak:∀a W,Q .outgrown a W->False)
  (al:∀(a:Act)(W':World)(s':aj)(H:Nat->aq)(I:Nat->List Value)(an:List Bool)(ao mk':List Int)(ar:Int),we aF.c x aN out mk op an ao mk' ar->sv n B aF an s'->kN K base w W' G hs cb s' aG bH bJ dm bf ao mk' ar ig iI H I->KeepsOthers W W'->Q .normal a W'):
  Code.wpIn (Zw.inRound l) 4 y_ KO (Exit.inBlock 3 Q) {tmps:= #[.pointer (some ⟨G,0,none⟩),j8,.pointer (some ⟨aG,0,none⟩),gA,.pointer (some ⟨bH,0,none⟩),hM,.pointer (some ⟨bJ,0,none⟩),.pointer (some ⟨bf,0,none⟩),.pointer (some ⟨dm,0,none⟩),kP,gG,.int .i64 x,dn,gT,gr,gE,u16,dr,dw,dx,gh,dy,dz,dA,dB,dD,dF,dG,dH,cu,cv,cw,u32,cz,cA,cB,cC,cD,cE,cF,cG,cH,cI,cK,dI,dJ,gO,gM,gN,bx,bz,bA,bB,bC,bD,bE,bF,bG,bL,bM,bN,bO,bP,bQ,u64,bR,bS,bT,bU,bV,bW,bX,bY,bZ,b5,b6,b7,b8,b9,cc,cg,ck,cm,cn,cp,cr,dK,dL,dM,dN,dO,dP,dQ,dR,cL,cM,cN,cO,cQ,cR,cS,cT,cU,cV,cW,cZ,c7,c8,dc,de,dh,dS,dU,dV,dW,dX,dY,dZ,ec,ee,ef,ei,ej,ek,en,eo,ep,er,eu,ew,ey,ez,eA,eB,eC,eD,eE,eF,eG,eH,eL,gi,gj,gl,eM,eN,eO,eP,eR,eS,eT,eU,eV,eW,eX,eY,gm,gn,gp,eZ,e3,e4,e5,e6,e7,e8,e9,fc,fe,ff,fh,fk,fm,fo,fq,fu,fA,fB,fC,fD,fE,fF,fG,fH,fI,fJ,fK,fL,fM,fN,fO,fP,fQ,fR,fS,gu,gv,fT,fU,fV,fW,fZ,ga,gb],defers:=[]} W:=by
 have C:=U L;have nG:=U f;have D:=U al;obtain⟨v,i⟩:∃v,aH x=v:=⟨_,rfl⟩
 have au:1<=v/\v<=n:=by rw[<-i];exact F
 have J:bI (∀w:World,Calls y_ 97 #[.int .i64 x] w λ e w'=>e=.returned (.int .i64 (v:Int))/\w=w'):=U (λ w=>by have:=sM x w (by unfold aH at i;omega) (by unfold aH at i;omega);rw[i] at this;exact this);obtain⟨g12,av,aX,f12⟩:=L.gw.gz.e.lV 16 12 rfl L.gw.gz.e.n12 (by rw[f.aN];omega);have c12:=L.gw.gz.e.zY av (k:=v) (by rw[f.aN];omega);obtain⟨g2,t,M,f2⟩:=L.gw.gz.e.lV 3 2 rfl L.gw.gz.e.mb (by rw[f.c];omega);have c2:=L.gw.gz.e.vV t (k:=v) (by rw[f.c];omega);have bg:(v:Int)<(s.aN.length:Int):=by rw[f.aN];omega
 have aY:(v:Int)<(s.c.lvl.length:Int):=by rw[f.c];omega
 have aS:=L.aS;obtain⟨g,N⟩:∃l,gQ s.c.lvl v=l:=⟨_,rfl⟩
 obtain⟨aw,O⟩:∃b,jE s.aN v=b:=⟨_,rfl⟩
 rw[N] at c2;rw[O] at c12;have ax:aR aF.c x=g:=by show gQ aF.c.lvl (aH x)=g;rw[i,<-f.c];exact N
 have ay:jE aN (aH x)=aw:=by rw[i,<-f.aN];exact O
 have d:=U (z_ i (z_ au (z_ ax (z_ ay (z_ ad (z_ ae (z_ af (z_ ag (z_ F (z_ hm (z_ ah (z_ ai (z_ aV aW)))))))))))));clear L f al i au N O ax ay ad ae af ag F hm ah ai av t f12 f2
 conv=>arg 4;whnf
 cases aw with
 |true=>
  gi_wp2_with (refine⟨trivial,?_⟩;gi_at_call 97;refine(r_ l (i_.2 (J.o _))).mono ?_;rintro e w1 ⟨rfl,rfl⟩)
  exact D.o _ _ s ls X aN out mk op (we.skip (.inl d.o.2.2.2.1)) nG.o C.o (ZM _)
 |false=>
  by_cases u:g=0
  ·have d1:((g:Int)==0)=true:=by simp[u]
   have P:=U u;subst u
   gi_wp2_with (refine⟨trivial,?_⟩;gi_at_call 97;refine(r_ l (i_.2 (J.o _))).mono ?_;rintro e w1 ⟨rfl,rfl⟩)
   exact D.o _ _ s ls X aN out mk op (we.skip (.inr d.o.2.2.1)) nG.o C.o (ZM _)
  ·have d1:((g:Int)==0)=false:=by simp;omega
   have P:=U u;have su:=C.o.su;have az:=KK C.o v (by rw[nG.o.aN,d.o.2.2.2.2.1];have:=d.o.2.1;omega) (by have:=d.o;omega)
   gi_wp2_with (refine⟨trivial,?_⟩;gi_at_call 97;refine(r_ l (i_.2 (J.o _))).mono ?_;rintro e w1 ⟨rfl,rfl⟩)
   clear u;refine⟨trivial,?_⟩
   gi_at_call 182
   refine(r_ l (i_.2 az)).mono ?_;clear az;rintro e w1 ⟨rfl,aA,bh,R,aB⟩;dsimp only;have S:=U R;have aZ:=U aB;have aS:=R.aS;clear R aB c12 c2 aX M su;have aC:=U (nG.o.mark v true);have aD:=Kh S.o.gw.call aC.o.rg (by omega) (by rw[show(s.tr v true).aI=s.aI from rfl,show s.aI=aF.aI from nG.o.hk.aI];exact d.o.2.2.2.2.2.2.2.2.2.2.2.2.2) d.o.2.2.2.2.2.2.1 d.o.2.2.2.2.2.2.2.1 v d.o.2.1
   gi_wp2
   refine⟨trivial,?_⟩
   gi_at_call 184
   refine(r_ l (i_.2 aD)).mono ?_;clear aD;rintro e E ⟨rfl,s2,aE,aJ,aK,f2⟩;dsimp only;have T:=S.o.gw.back aK f2;have j:=U (S.o.vc T.1);have a6:=U (aZ.o.trans T.2);have m:=U (aC.o.Ge aE aJ);clear aE aJ aK f2 T aS;have aS:=j.o.aS;obtain⟨g2,t,M,f2⟩:=j.o.gw.gz.e.lV 3 2 rfl j.o.gw.gz.e.mb (by rw[m.o.c];have:=d.o;omega);have c2:=j.o.gw.gz.e.vV t (k:=v) (by rw[m.o.c];have:=d.o;omega);have aY:(v:Int)<(s2.c.lvl.length:Int):=by rw[m.o.c];have:=d.o;omega
   rw[show gQ s2.c.lvl v=g by rw[m.o.c,<-d.o.1];exact d.o.2.2.1] at c2;obtain⟨a7,j0,c5,V⟩:∃A n c,hs 5=⟨A,n,c⟩:=⟨_,_,_,rfl⟩
   obtain⟨y,Y⟩:∃n,aF.c.st.length=n:=⟨_,rfl⟩
   have aL:j0=y:=by have:=j.o.gw.gz.e.j0;rw[V,m.o.c] at this;exact this.trans Y
   have a8:E.cell? ⟨G,6,none⟩=some (.slice a7 y c5):=by have:=j.o.gw.gz.e.kA (k:=6) (v:=(hs 5).v) rfl;rw[V,aL] at this;exact this
   have aM:=U Y;clear Y V aL t f2
   gi_wp2
   refine C1 12 (by kernel_rfl) (by kernel_rfl) (by rintro⟨_,_,h⟩;exact ak _ _ h) (by kernel_rfl) ?_;simp only[m_,e_,l_,Zx]
   iterate 12 still_step
   refine Zu ?_;change wpList _ _ _ _ _ E.drew;have p:=U j.o.drew;have aO:=U (a6.o.trans (KeepsOthers.drew E));clear aS M c2 a8;generalize E.drew=q at*
   by_cases h1:g=y
   ·have d2:((g:Int)==(y:Int))=true:=by simp[h1]
    have H1:=U h1;clear h1;have w5:=p.o.w5.1;have bj:=p.o.w5.2;have bk:v_.wrap (op+1)=op+1:=by rw[x_];have:=d.o;omega
    go_wp2_with fail
    gi_wp2
    obtain⟨a',r,ba⟩:=p.o.DK (op+1);exact D.o _ _ s2 aA a' (aN.set v true) out (mk++[(v:Int)]) (op+1) (by rw[<-d.o.1];exact we.nt d.o.2.2.2.1 (by rw[d.o.2.2.1];exact P.o) (by rw[d.o.2.2.1,aM.o];exact H1.o)) m.o r (aO.o.trans ba)
   ·have d2:((g:Int)==(y:Int))=false:=by simp;omega
    have H1:=U h1;clear h1;obtain⟨Z,n6,c6,z⟩:∃A n c,aA 5=⟨A,n,c⟩:=⟨_,_,_,rfl⟩
    have aP:n6=out.length:=by have:=p.o.j0;rw[z] at this;exact this
    have co:q.cell? ⟨bH,0,none⟩=some (.slice Z n6 c6):=by have:=p.o.co.1;rw[z] at this;exact this
    have bl:=p.o.co.2;have r:=U (p.o.grow (bK q (mD [x])));have bb:bI ((q.alloc (mD [x])).ownsRow w.heap.size 3 1 (.slice Z n6 c6) n6 (out.map (Zt .i64))):=U (by have:=r.o.gw.rows.row 5;rw[z,r.o.jj] at this;exact this);have bc:=U (aQ.lit q [x] 1 q.heap.size rfl rfl (by omega));have aT:=U (z_ z aP);clear z aP
    go_wp2_with fail
    gi_step
    refine EZ (by kernel_rfl) (by rintro⟨_,_,h⟩;exact ak _ _ h) ?_
    go_wp2_with (at_builtin;refine vq rfl (.tmp 88) (.tmp 90) rfl w.heap.size (.slice Z n6 c6) n6 out rfl bb.o (some ⟨q.heap.size,0,none⟩) 1 1 [x] rfl bc.o (by have:=aT.o.2;have:=d.o;omega) r.o.gw.iP.size ?_;intro v9 di aU;obtain⟨A',c',H,I,rfl,a1,a2,aa,ab⟩:=r.o.KG (x:=x) (v':=v9) (by rw[aT.o.1];exact aU);have aa:=U aa;have ab:=U ab;clear aU)
    gi_wp2
    exact D.o _ _ s2 H I (aN.set v true) (out++[x]) (mk++[(v:Int)]) op (by rw[<-d.o.1];exact we.put d.o.2.2.2.1 (by rw[d.o.2.2.1];exact P.o) (by rw[d.o.2.2.1,aM.o];exact H1.o)) m.o aa.o (aO.o.trans ((KeepsOthers.below (bK q _)).trans ab.o))
end
section
open Go.RowKit Go.Shelf
structure vF(F Fd:List (List Int))(aF:aj)(n h:Nat)(kD:Int):Prop where
 gK:kf F Fd aF.c h []
 jh:aF.c.n=n
 n10:n<=10
 st1:0<aF.c.st.length
 st2:aF.c.st.length<=1000000
 kX:aF.aI.length<=100000
 bp:0<=kD
 bg:kD+16*js<=4611686018427387904
structure nv(K:Nat->Prop)(base:Nat)(w W:World)(G:Nat)(hs:Nat->aq)(cb:Nat->Nat)(n:Nat)(B:Int)(F:List (List Int))(aF:aj)(aG bH bJ dm bf:Nat)(ig:aq)(iI:List Value)(i:Nat)(ex:List Int)(ds:List Nat)(s:aj)(aN:List Bool)(aL mk:List Int)(ls:Nat->aq)(X:Nat->List Value):Prop where
 aI:kN K base w W G hs cb s aG bH bJ dm bf (0::aL) mk (nt aF.c aN i:Int) ig iI ls X
 kU:sv n B aF aN s
 li:oB F aF.c i aN aL ex
 sS:mk.Nodup
 qN:∀z:Int,z∈mk↔∃v:Nat,z=v/\jE aN v=true
 sU:aL.length<=mk.length
 ms:pF w.heap.size W ds
section
variable {K:Nat->Prop}{base:Nat}{w W W':World}{G:Nat}{hs:Nat->aq}{cb:Nat->Nat}{n h:Nat}{B kD:Int}{F Fd:List (List Int)}{aF s s':aj}{aG bH bJ dm bf:Nat}{ig:aq}{iI:List Value}{i:Nat}{ex:List Int}{ds:List Nat}{aN sR:List Bool}{aL mk:List Int}{ls mU:Nat->aq}{X lS:Nat->List Value}
theorem Gf{l:List Bool}{v:Nat}(h:jE l v=true):v<l.length:=by
 rcases Nat.lt_or_ge v l.length with h1|h1
 ·exact h1
 ·unfold jE at h;rw[g_,List.getElem?_eq_none h1] at h;cases h
theorem DN{aN:List Bool}{mk:List Int}(c:mk.Nodup)(hm:∀z:Int,z∈mk↔∃v:Nat,z=v/\jE aN v=true):mk.length<=aN.length:=by
 have h1:(mk.map Int.toNat).Nodup:=by
  show List.Pairwise _ _;rw[List.pairwise_map];refine List.Pairwise.imp_of_mem (λ{x y} b d f e=>?_) c;obtain⟨v,rfl,_⟩:=(hm x).1 b;obtain⟨u,rfl,_⟩:=(hm y).1 d;simp at e;exact f (by rw[e])
 have:=xL aN.length (mk.map Int.toNat) h1 (λ x b=>by
  obtain⟨z,g,rfl⟩:=List.mem_map.1 b;obtain⟨v,rfl,i⟩:=(hm z).1 g;simpa using Gf i)
 simpa using this
theorem nv.nW(H:nv K base w W G hs cb n B F aF aG bH bJ dm bf ig iI i ex ds s aN aL mk ls X)(C:vF F Fd aF n h kD):mk.length<=11/\aN.length=n+1:=by
 have h1:=DN H.sS H.qN;have b:=H.li.tO;rw[C.jh] at b;have:=C.n10;omega
theorem Ak(c:Core)(aN:List Bool)(i:Nat):nt c aN i<=i:=by
 have:=List.countP_le_length (p:=o9 c aN) (l:=List.range i);rw[List.length_range] at this;exact this
theorem nv.step(C:vF F Fd aF n h kD){x:Int}(H:nv K base w W G hs cb n B F aF aG bH bJ dm bf ig iI i (x::ex) ds s aN aL mk ls X){y4 mk':List Int}{y5:Int}(t:we aF.c x aN (0::aL) mk (nt aF.c aN i) sR y4 mk' y5)(j:sv n B aF sR s')
  (L:kN K base w W' G hs cb s' aG bH bJ dm bf y4 mk' y5 ig iI mU lS) (k:KeepsOthers W W'):∃u,nv K base w W' G hs cb n B F aF aG bH bJ dm bf ig iI i ex ds s' sR u mk' mU lS:=by
 have T:=C.gK.aL;have m:gU aF.c.n x:=H.li.wP x (by simp);have o:aN.length=aF.c.n+1:=H.li.tO;have l:∀(d:jE aN (aH x)=false),(mk++[(aH x:Int)]).Nodup/\∀z:Int,z∈mk++[(aH x:Int)]↔∃v:Nat,z=v/\jE (aN.set (aH x) true) v=true:=λ d=>by
  refine⟨?_,λ z=>?_⟩
  ·rw[List.nodup_append];refine⟨H.sS,by simp,λ a y b r e=>?_⟩;rw[o_] at r;subst r;subst e;obtain⟨v,f,p⟩:=(H.qN _).1 y;rw[show v=aH x by omega] at p;rw[d] at p;cases p
  ·rw[h_,o_,H.qN];constructor
   ·rintro(⟨v,rfl,f⟩|rfl)
    ·exact⟨v,rfl,by rw[Bk o m];split;rfl;exact f⟩
    ·exact⟨aH x,rfl,by rw[Bk o m,if_pos rfl]⟩
   ·rintro⟨v,rfl,f⟩;rw[Bk o m] at f;split at f
    ·rename_i e;exact .inr (by rw[e])
    ·exact .inl ⟨v,rfl,f⟩
 cases t with
 |skip g=>
  rcases g with g|g
  ·exact⟨aL,L,j,H.li.seen T g,H.sS,H.qN,H.sU,H.ms.others k⟩
  ·exact⟨aL,L,j,H.li.drop T C.gK.jK C.st1 g,H.sS,H.qN,H.sU,H.ms.others k⟩
 |nt d q h1=>
  obtain⟨a1,a2⟩:=(H.li.mark T d q).1 h1;refine⟨aL,?_,j,a1,(l d).1,(l d).2,by rw[q_];have:=H.sU;omega,H.ms.others k⟩;rw[a2];exact L
 |put d q h1=>
  obtain⟨a1,a2⟩:=(H.li.mark T d q).2 h1;refine⟨aL++[x],?_,j,a1,(l d).1,(l d).2,by rw[q_,q_,p_,p_];have:=H.sU;omega,H.ms.others k⟩;rw[a2];exact L
theorem nv.vc(H:nv K base w W G hs cb n B F aF aG bH bJ dm bf ig iI i ex ds s aN aL mk ls X){y6:aq}{y7:List Value}(L:kN K base w W' G hs cb s aG bH bJ dm bf (0::aL) mk (nt aF.c aN i:Int) y6 y7 mU lS)(k:KeepsOthers W W'):nv K base w W' G hs cb n B F aF aG bH bJ dm bf y6 y7 i ex ds s aN aL mk mU lS:=
 ⟨L,H.kU,H.li,H.sS,H.qN,H.sU,H.ms.others k⟩
theorem nv.grow(H:nv K base w W G hs cb n B F aF aG bH bJ dm bf ig iI i ex ds s aN aL mk ls X)(b:Below W.heap.size W W'):nv K base w W' G hs cb n B F aF aG bH bJ dm bf ig iI i ex ds s aN aL mk ls X:=H.vc (H.aI.grow b) (KeepsOthers.below b)
theorem nv.tW(H:nv K base w W G hs cb n B F aF aG bH bJ dm bf ig iI i ex ds s aN aL mk ls X){N:Nat}{row:Option Nat}(c:W.grownBy W' row)(b:∀r,row=some r->N<=r/\∃o:Obj,W.heap[r]? =some o/\o.isCells=false)(d:w.heap.size<=N)(f:∀D∈ds,D<N):nv K base w W' G hs cb n B F aF aG bH bJ dm bf ig iI i ex ds s aN aL mk ls X:=
 ⟨H.aI.vc (H.aI.gw.tW c (λ r e=>⟨ZN d (b r e).1,(b r e).2⟩)),H.kU,H.li,H.sS,H.qN,H.sU,H.ms.kept c (λ D g e=>by have:=(b D e.symm).1;have:=f D g;omega)⟩
theorem sv.mono(b:sv n B aF aN s){q4:Int}(c:B<=q4):sv n q4 aF aN s:=⟨b.hk,b.aN,b.rg.mono (Int.le_refl _) c⟩
theorem nv.up(H:nv K base w W G hs cb n B F aF aG bH bJ dm bf ig iI i ex ds s aN aL mk ls X){q4:Int}(b:B<=q4):nv K base w W G hs cb n q4 F aF aG bH bJ dm bf ig iI i ex ds s aN aL mk ls X:=⟨H.aI,H.kU.mono b,H.li,H.sS,H.qN,H.sU,H.ms⟩
theorem nv.mark(H:nv K base w W G hs cb n B F aF aG bH bJ dm bf ig iI i ex ds s aN aL mk ls X){D:Nat}(b:w.heap.size<=D)(hm:W.heap[D]? =some (.deferred (some [])))(c:∀E∈ds,E<D):nv K base w W G hs cb n B F aF aG bH bJ dm bf ig iI i ex (D::ds) s aN aL mk ls X:=
 ⟨H.aI,H.kU,H.li,H.sS,H.qN,H.sU,H.ms.cons b hm (λ e=>by have:=c D e;omega)⟩
end
end
section
open Go.RowKit Go.Shelf
attribute [local go_sem] Z6
noncomputable def KQ:Code:=(Tryz.f146.body.bind λ c=>qu c 2).getD .skip
def BM(K:Nat->Prop)(base:Nat)(w:World)(G:Nat)(hs:Nat->aq)(cb:Nat->Nat)(n:Nat)(B:Int)(F:List (List Int))(aF:aj)(aG b c d bf:Nat)(e:aq)(f:List Value)(i:Nat)(ex:List Int)(ds:List Nat)(pre:List Int)(V:World):Prop:=
 ∃(s:aj)(g:List Bool)(j mk:List Int)(ls:Nat->aq)(X:Nat->List Value),nv K base w V G hs cb n B F aF aG b c d bf e f i (ex.drop pre.length) ds s g j mk ls X
theorem KR{pre ex:List Int}(h:(pre++[x])<+:ex):ex.drop pre.length=x::ex.drop (pre++[x]).length:=by
 obtain⟨r,rfl⟩:=h;rw[Zv,List.drop_left,<-Zv,List.drop_left];rfl
theorem KS{w:World}{bf:Nat}{gy ji:Nat}{lit:Int}
  (C:vF F Fd aF n h kD) (Z:0<=B) (aa:B<=4611686018427387904) (H:nv K base w W G hs cb n B F aF aG bH bJ dm bf (oD ji) [.int .i64 lit] i (others (ax aF.c.cl d) lit) ds s aN aL mk ls X) (ag:d<aF.c.cl.length) (hm:1<=(ax aF.c.cl d).length) (c1:W.cell? ⟨gy,0,none⟩=some (.pointer (some ⟨cb d,0,none⟩))) (ay:gy<W.heap.size)
  (ab:∀(D:Nat)(W':World)(s':aj)(M:List Bool)(N mk':List Int)(O:Nat->aq)(P:Nat->List Value),nv K base w W' G hs cb n B F aF aG bH bJ dm bf (oD ji) [.int .i64 lit] i [] (D::ds) s' M N mk' O P->Q .normal {tmps:= #[.pointer (some ⟨G,0,none⟩),j8,.pointer (some ⟨aG,0,none⟩),gA,.pointer (some ⟨bH,0,none⟩),hM,.pointer (some ⟨bJ,0,none⟩),.pointer (some ⟨bf,0,none⟩),.pointer (some ⟨dm,0,none⟩),kP,gG,gq,dn,gT,gr,gE,u16,dr,dw,dx,gh,dy,dz,dA,dB,dD,dF,dG,dH,cu,cv,cw,u32,cz,cA,cB,cC,cD,cE,cF,cG,cH,cI,cK,dI,dJ,.func (.func 224) #[] #[.pointer (some ⟨gy,0,none⟩),.pointer (some ⟨ji,0,none⟩)],gM,gN,bx,bz,bA,bB,bC,bD,bE,bF,bG,bL,bM,bN,bO,bP,bQ,u64,bR,bS,bT,bU,bV,bW,bX,bY,bZ,b5,b6,b7,b8,b9,cc,cg,ck,cm,cn,cp,cr,dK,dL,dM,dN,dO,dP,dQ,dR,cL,cM,cN,cO,cQ,cR,cS,cT,cU,cV,cW,cZ,c7,c8,dc,de,dh,dS,dU,dV,dW,dX,dY,dZ,ec,ee,ef,ei,ej,ek,en,eo,ep,er,eu,ew,ey,ez,eA,eB,eC,eD,eE,eF,eG,eH,eL,gi,gj,gl,eM,eN,eO,eP,eR,eS,eT,eU,eV,eW,eX,eY,gm,gn,gp,eZ,e3,e4,e5,e6,e7,e8,e9,fc,fe,ff,fh,fk,fm,fo,fq,fu,fA,fB,fC,fD,fE,fF,fG,fH,fI,fJ,fK,fL,fM,fN,fO,fP,fQ,fR,fS,gu,gv,fT,fU,fV,fW,fZ,ga,gb],defers:=oO D::ds.map oO} W'):
  Zr y_ KQ Q {tmps:= #[.pointer (some ⟨G,0,none⟩),j8,.pointer (some ⟨aG,0,none⟩),gA,.pointer (some ⟨bH,0,none⟩),hM,.pointer (some ⟨bJ,0,none⟩),.pointer (some ⟨bf,0,none⟩),.pointer (some ⟨dm,0,none⟩),kP,gG,gq,dn,gT,gr,gE,u16,dr,dw,dx,gh,dy,dz,dA,dB,dD,dF,dG,dH,cu,cv,cw,u32,cz,cA,cB,cC,cD,cE,cF,cG,cH,cI,cK,dI,dJ,.func (.func 224) #[] #[.pointer (some ⟨gy,0,none⟩),.pointer (some ⟨ji,0,none⟩)],gM,gN,bx,bz,bA,bB,bC,bD,bE,bF,bG,bL,bM,bN,bO,bP,bQ,u64,bR,bS,bT,bU,bV,bW,bX,bY,bZ,b5,b6,b7,b8,b9,cc,cg,ck,cm,cn,cp,cr,dK,dL,dM,dN,dO,dP,dQ,dR,cL,cM,cN,cO,cQ,cR,cS,cT,cU,cV,cW,cZ,c7,c8,dc,de,dh,dS,dU,dV,dW,dX,dY,dZ,ec,ee,ef,ei,ej,ek,en,eo,ep,er,eu,ew,ey,ez,eA,eB,eC,eD,eE,eF,eG,eH,eL,gi,gj,gl,eM,eN,eO,eP,eR,eS,eT,eU,eV,eW,eX,eY,gm,gn,gp,eZ,e3,e4,e5,e6,e7,e8,e9,fc,fe,ff,fh,fk,fm,fo,fq,fu,fA,fB,fC,fD,fE,fF,fG,fH,fI,fJ,fK,fL,fM,fN,fO,fP,fQ,fR,fS,gu,gv,fT,fU,fV,fW,fZ,ga,gb],defers:=ds.map oO} W:=by
 have R:=U H;have u:s.c=aF.c:=H.kU.c;obtain⟨bu,m1,az,f⟩:=H.aI.gw.gz.yZ (d:=d) (by rw[u];exact ag) (by rw[u];exact hm);rw[u] at f;have aA:m1<=22:=by have:=(C.gK.jK.mI d ag).len;have:=C.jh;have:=C.n10;have:=f.len;omega
 have aB:=(H.aI.gw.gz.e.rows.lt f.b).2;have aC:=(H.aI.gw.gz.e.cls d (by rw[u];exact ag)).lt;have c2:W.cell? ⟨ji,0,none⟩=some (.int .i64 lit):=(H.aI.gw.kB (r:=11) (g:=ji) (by rw[H.aI.tA];rfl) (by rw[H.aI.vb];rfl)).1;have aD:=(H.aI.gw.lt (r:=11) (g:=ji) (by rw[H.aI.tA];rfl)).2;have j:=U C;have aZ:=U (z_ f (z_ aA (z_ ag hm)));have ad:=U (z_ Z aa);have aE:=U ab;have ae:OwnFrom W.heap.size (BM K base w G hs cb n B F aF aG bH bJ dm bf (oD ji) [.int .i64 lit] i (others (ax aF.c.cl d) lit) ds):=by
  rintro pre a6 gy row ⟨s1,q,z,A,I,J,h1⟩ aH aJ;exact⟨s1,q,z,A,I,J,h1.tW aH aJ R.o.aI.gw.iP.size (λ D T=>R.o.ms.lt T)⟩
 have af:=U ae;have aK:bI (∀(V m:World)(pre ah:List Int),BM K base w G hs cb n B F aF aG bH bJ dm bf (oD ji) [.int .i64 lit] i (others (ax aF.c.cl d) lit) ds pre V->BM K base w G hs cb n B F aF aG bH bJ dm bf (oD ji) [.int .i64 lit] i (others (ax aF.c.cl d) lit) ds ah m->pQ ji bu m1 V m):=U (by
  rintro V m pre ah ⟨s1,q,z,A,I,J,h1⟩ ⟨s2,a7,a8,a',ba,bb,p⟩;have aM:V.cell? ⟨ji,0,none⟩=some (.int .i64 lit):=(h1.aI.gw.kB (r:=11) (g:=ji) (by rw[h1.aI.tA];rfl) (by rw[h1.aI.vb];rfl)).1;have aO:m.cell? ⟨ji,0,none⟩=some (.int .i64 lit):=(p.aI.gw.kB (r:=11) (g:=ji) (by rw[p.aI.tA];rfl) (by rw[p.aI.vb];rfl)).1;refine⟨λ v t=>by rw[aM] at t;rw[aO,<-t],λ k v hk t=>?_⟩;have ai:=h1.aI.gw.gz.e.xZ (d:=d) f.b (k:=k) (by rw[h1.kU.c,f.len];exact hk);have ak:=p.aI.gw.gz.e.xZ (d:=d) f.b (k:=k) (by rw[p.kU.c,f.len];exact hk);rw[h1.kU.c] at ai;rw[p.kU.c] at ak;rw[ai] at t;rw[ak,<-t])
 have bc:=H.aI.gw.iP.size;clear H C u ag hm Z aa ab ae
 conv=>arg 2;whnf
 refine(wpIn_wide (n:=6)).1 ?_;refine A9 (F:=Zw) (w0:=W) rfl (by omega) (gf:=224) (lb:= #[.pointer (some ⟨gy,0,none⟩),.pointer (some ⟨ji,0,none⟩)]) rfl trivial Du
  (Dw (6-1) (by omega) gy ji (cb d) bu m1 az (ax aF.c.cl d) lit f.len (by omega) W c1 c2 f.ag f.kB ay aD aC aB)
  (λ h k=>h.trans k) (λ V l o bd hl t al _=>⟨λ v Y=>(t_ (w:=V) (b_ (by show ji≠l;omega))).trans Y,λ k v _ Y=>(t_ (w:=V) (b_ (by show bu≠l;omega))).trans Y⟩) (j_ _ _) (λ _=>rfl)
  (BM K base w G hs cb n B F aF aG bH bJ dm bf (oD ji) [.int .i64 lit] i (others (ax aF.c.cl d) lit) ds) (λ _ _ _=>False)
  af.o (λ _ _ _ _ _ h=>h.elim) ⟨s,aN,aL,mk,ls,X,R.o⟩
  ?a1 ?w1 ?assign ?kw1 ?body ?done ?stop
 case assign=>
  intro l pre y m bg S an aP
  gi_wp2
  exact aP
 case kw1=>
  intro pre y m S;exact⟨Zj _ _,pQ.refl _ _ _ _⟩
 case body=>
  rintro l pre y ao m S ⟨o,aQ,ar,al,au,av⟩ an bh;have aw:=af.o _ _ _ _ S (show ao.grownBy m (some (W.heap.size+1)) by rw[ar];exact grownBy_putObj' ao (W.heap.size+1) o) (λ r e=>by cases e;exact⟨by omega,aQ,au,av⟩);have aR:=U aw;clear S ar al au av;obtain⟨s1,q,z,A,I,J,h1⟩:=aw;rw[KR an] at h1;have aS:=h1.nW j.o;have aT:gU n y:=by have:=h1.li.wP y (by simp);rw[j.o.jh] at this;exact this
  have bj:=Ak aF.c q i;have bk:=h1.li.qX;have aU:=j.o.gK.aL.len;rw[j.o.jh] at aU;have bl:=j.o.n10;refine wpIn_block ?_;refine KP (l:=l) (x:=y) h1.aI h1.kU j.o.n10 j.o.st2 j.o.kX aS.2 (by have:=j.o.gK.aL.pM;rw[j.o.jh] at this;exact this) ad.o.1 ad.o.2 aT (by omega) (by have:=h1.sU;simp;omega) (by omega) ?_ ?_
  ·intro a W' h;exact h
  intro a W' s' O P M bn mk' bo aV aW L k;obtain⟨N,p⟩:=h1.step j.o aV aW L k;exact⟨k.from _,aK.o _ _ _ _ aR.o ⟨s',M,N,mk',O,P,p⟩,s',M,N,mk',O,P,p⟩
 case done=>
  rintro D ys m T rfl ⟨s1,q,z,A,I,J,h1⟩ aX;rw[List.drop_length] at h1;exact aE.o D m s1 q z A I J (h1.mark (by omega) aX (λ E aY=>by have:=R.o.ms.lt aY;omega))
 case stop=>
  rintro D bp pre m T bq h;exact h.elim
end
section
open Go.RowKit Go.Shelf
noncomputable def KT:Code:=(Tryz.f146.body.bind λ c=>qu c 4).getD .skip
theorem KU{w:World}{bf:Nat}
  (C:vF F Fd aF n h kD) (H:nv K base w W G hs cb n B F aF aG bH bJ dm bf ig iI i [] ds s aN aL mk ls X)
  (t:∀(j:Nat)(cL cM cN cO cQ cR cS cT cU cV cW cZ c7 c8 dc de dh:Value)(W':World),nv K base w W' G hs cb n B F aF aG bH bJ dm bf ig iI (j+1) [] ds s aN aL mk ls X->j<i->jE aN (aH (ai aF.c.au j))=true->Q (.exit 4) {tmps:= #[.pointer (some ⟨G,0,none⟩),j8,.pointer (some ⟨aG,0,none⟩),gA,.pointer (some ⟨bH,0,none⟩),hM,.pointer (some ⟨bJ,0,none⟩),.pointer (some ⟨bf,0,none⟩),.pointer (some ⟨dm,0,none⟩),kP,.int .i64 (j:Int),gq,dn,gT,gr,gE,u16,dr,dw,dx,gh,dy,dz,dA,dB,dD,dF,dG,dH,cu,cv,cw,u32,cz,cA,cB,cC,cD,cE,cF,cG,cH,cI,cK,dI,dJ,gO,gM,gN,bx,bz,bA,bB,bC,bD,bE,bF,bG,bL,bM,bN,bO,bP,bQ,u64,bR,bS,bT,bU,bV,bW,bX,bY,bZ,b5,b6,b7,b8,b9,cc,cg,ck,cm,cn,cp,cr,dK,dL,dM,dN,dO,dP,dQ,dR,cL,cM,cN,cO,cQ,cR,cS,cT,cU,cV,cW,cZ,c7,c8,dc,de,dh,dS,dU,dV,dW,dX,dY,dZ,ec,ee,ef,ei,ej,ek,en,eo,ep,er,eu,ew,ey,ez,eA,eB,eC,eD,eE,eF,eG,eH,eL,gi,gj,gl,eM,eN,eO,eP,eR,eS,eT,eU,eV,eW,eX,eY,gm,gn,gp,eZ,e3,e4,e5,e6,e7,e8,e9,fc,fe,ff,fh,fk,fm,fo,fq,fu,fA,fB,fC,fD,fE,fF,fG,fH,fI,fJ,fK,fL,fM,fN,fO,fP,fQ,fR,fS,gu,gv,fT,fU,fV,fW,fZ,ga,gb],defers:=ds.map oO} W'):
  Zr y_ KT Q {tmps:= #[.pointer (some ⟨G,0,none⟩),j8,.pointer (some ⟨aG,0,none⟩),gA,.pointer (some ⟨bH,0,none⟩),hM,.pointer (some ⟨bJ,0,none⟩),.pointer (some ⟨bf,0,none⟩),.pointer (some ⟨dm,0,none⟩),kP,.int .i64 ((i:Int)-1),gq,dn,gT,gr,gE,u16,dr,dw,dx,gh,dy,dz,dA,dB,dD,dF,dG,dH,cu,cv,cw,u32,cz,cA,cB,cC,cD,cE,cF,cG,cH,cI,cK,dI,dJ,gO,gM,gN,bx,bz,bA,bB,bC,bD,bE,bF,bG,bL,bM,bN,bO,bP,bQ,u64,bR,bS,bT,bU,bV,bW,bX,bY,bZ,b5,b6,b7,b8,b9,cc,cg,ck,cm,cn,cp,cr,dK,dL,dM,dN,dO,dP,dQ,dR,cL,cM,cN,cO,cQ,cR,cS,cT,cU,cV,cW,cZ,c7,c8,dc,de,dh,dS,dU,dV,dW,dX,dY,dZ,ec,ee,ef,ei,ej,ek,en,eo,ep,er,eu,ew,ey,ez,eA,eB,eC,eD,eE,eF,eG,eH,eL,gi,gj,gl,eM,eN,eO,eP,eR,eS,eT,eU,eV,eW,eX,eY,gm,gn,gp,eZ,e3,e4,e5,e6,e7,e8,e9,fc,fe,ff,fh,fk,fm,fo,fq,fu,fA,fB,fC,fD,fE,fF,fG,fH,fI,fJ,fK,fL,fM,fN,fO,fP,fQ,fR,fS,gu,gv,fT,fU,fV,fW,fZ,ga,gb],defers:=ds.map oO} W:=by
 have M:=U t;have g:=U C;have N:=U H;have O:=H.li.open
 have h1:=Ak aF.c aN i;have aa:1<=i:=by omega
 clear C H t O h1
 conv=>arg 2;whnf
 dsimp only
 go_loopw [10] (λ x W'=>∃j:Nat,x=.int .i64 (j:Int)/\j<i/\nv K base w W' G hs cb n B F aF aG bH bJ dm bf ig iI (j+1) [] ds s aN aL mk ls X) (λ x _=>(intOf x).toNat)
 case atStart=>
  refine⟨i-1,by congr 1;omega,by omega,?_⟩;rw[show i-1+1=i by omega];exact N.o
 case round=>
  obtain⟨j,rfl,P,d⟩:=hrel;have L:=U d;have aS:=d.aI.aS;have p:j<aF.c.au.length:=by have:=d.li.qX;omega
  have ab:=g.o.gK.aL.len;have ad:=g.o.n10;have R:=g.o.jh;obtain⟨x,m⟩:∃x,ai aF.c.au j=x:=⟨_,rfl⟩
  have u:gU n x:=by have:=g.o.gK.aL.lit _ (l5 p);rw[m,R] at this;exact this
  obtain⟨v,l⟩:∃v,aH x=v:=⟨_,rfl⟩
  have S:v<=n:=by have:=u.2;omega
  have T:bI (∀w:World,Calls y_ 97 #[.int .i64 x] w λ e w'=>e=.returned (.int .i64 (v:Int))/\w=w'):=U (λ w=>by have:=sM x w (by unfold aH at l;omega) (by unfold aH at l;omega);rw[l] at this;exact this);have V:=(d.nW g.o).2;obtain⟨g12,y,Y,f12⟩:=d.aI.gw.gz.e.lV 16 12 rfl d.aI.gw.gz.e.n12 (by rw[d.kU.aN];omega);have c12:=d.aI.gw.gz.e.zY y (k:=v) (by rw[d.kU.aN];omega);have ae:(v:Int)<(s.aN.length:Int):=by rw[d.kU.aN];omega
  obtain⟨g4,z,Z,f4⟩:=d.aI.gw.gz.e.lV 5 4 rfl d.aI.gw.gz.e.j6 (by rw[d.kU.c];omega);have c4:=d.aI.gw.gz.e.zX z (k:=j) (by rw[d.kU.c];exact p);have af:(j:Int)<(s.c.au.length:Int):=by rw[d.kU.c];omega
  rw[show ai s.c.au j=x by rw[d.kU.c];exact m] at c4;obtain⟨A,q⟩:∃b,jE s.aN v=b:=⟨_,rfl⟩
  rw[q] at c12;have E:jE aN (aH (ai aF.c.au j))=A:=by rw[m,l,<-d.kU.aN];exact q
  have r:=U (z_ E (z_ P p));have ag:v_.wrap ((j:Int)-1)=(j:Int)-1:=by rw[x_];omega
  clear d u l S V y f12 z f4 q E m
  go_wp2_with fail
  refine f_ 14 (by kernel_rfl) (by kernel_rfl) ?_;simp only[m_,e_,l_,Zx]
  iterate 11 still_step
  still_call ((T.o _).mono (λ e w' h=>⟨h.1,h.2.symm⟩))
  iterate 2 still_step
  refine Zu ?_;change wpList _ _ _ _ _ wr.drew;have f:=U (L.o.grow ((j_ _ wr).drew));clear aS Y c12 Z c4;generalize wr.drew=ah at*
  cases A with
  |true=>
   go_wp2_with fail
   exact M.o j _ _ _ _ _ _ _ _ _ _ _ _ _ _ _ _ _ _ f.o r.o.2.1 r.o.1
  |false=>
   obtain⟨a1,a2⟩:=f.o.li.down r.o.1;have I:=a1.open
   have J:=Ak aF.c aN j;have D:=U (z_ a1 (z_ a2 (z_ I J)));clear a1 a2 I J
   go_wp2_with fail
   go_roundw
   case rel=>
    refine⟨j-1,by congr 1;have:=D.o;omega,by have:=D.o;omega,?_⟩;rw[show j-1+1=j by have:=D.o;omega];exact⟨by rw[D.o.2.1];exact f.o.aI,f.o.kU,D.o.1,f.o.sS,f.o.qN,f.o.sU,f.o.ms⟩
   case measure=>simp[intOf];have:=D.o;omega
structure BN(K:Nat->Prop)(base:Nat)(w W:World)(G:Nat)(hs:Nat->aq)(cb:Nat->Nat)(n:Nat)(B:Int)(F:List (List Int))(aF:aj)(aG bH bJ dm bf:Nat)(op:Int)(ig:aq)(iI:List Value)(j:Nat)(ds:List Nat)(s:aj)(aN:List Bool)(aL mk:List Int)(ls:Nat->aq)(X:Nat->List Value):Prop where
 aI:kN K base w W G hs cb s aG bH bJ dm bf (0::aL) mk op ig iI ls X
 kU:sv n B aF aN s
 li:oB F aF.c (j+1) aN aL []
 sS:mk.Nodup
 qN:∀z:Int,z∈mk↔∃v:Nat,z=v/\jE aN v=true
 sU:aL.length<=mk.length
 ms:pF w.heap.size W ds
 x2:jE aN (aH (ai aF.c.au j))=true
 one:nt aF.c aN (j+1)=1
noncomputable def Gg:Code:=nu ((Tryz.f146.body.bind λ c=>qu c 1).getD .skip)
theorem KV{w:World}{bf:Nat}{lit:Int}
  (C:vF F Fd aF n h kD) (Y:0<=B) (Z:B<=4611686018427387904) (H:nv K base w W G hs cb n B F aF aG bH bJ dm bf ig iI i (others (ax aF.c.cl d) lit) ds s aN aL mk ls X) (aa:d<aF.c.cl.length) (hm:1<=(ax aF.c.cl d).length)
  (q:∀(j:Nat)(op:Int)(ig:aq)(iI:List Value)(s:aj)(aN:List Bool)(aL mk:List Int)(ls:Nat->aq)(X:Nat->List Value)(ds:List Nat)(aA gA aB gq dn gT gr gE u16 dr dw dx gh dy dz dA dB dD dF dG dH cu cv cw u32 cz cA cB cC cD cE cF cG cH cI cK dI dJ gO gM gN bx bz bA bB bC bD bE bF bG bL bM bN bO bP bQ u64 bR bS bT bU bV bW bX bY bZ b5 b6 b7 b8 b9 cc cg ck cm cn cp cr dK dL dM dN dO dP dQ dR cL cM cN cO cQ cR cS cT cU cV cW cZ c7 c8 dc de dh dS dU dV dW dX dY dZ ec ee ef ei ej ek en eo ep er eu ew ey ez eA eB eC eD eE eF eG eH eL gi gj gl eM eN eO eP eR eS eT eU eV eW eX eY gm gn gp eZ e3 e4 e5 e6 e7 e8 e9 fc fe ff fh fk fm fo fq fu fA fB fC fD fE fF fG fH fI fJ fK fL fM fN fO fP fQ fR fS gu gv fT fU fV fW fZ ga gb:Value)(W':World),BN K base w W' G hs cb n B F aF aG bH bJ dm bf op ig iI j ds s aN aL mk ls X->Q (.exit 0) {tmps:= #[.pointer (some ⟨G,0,none⟩),aA,.pointer (some ⟨aG,0,none⟩),gA,.pointer (some ⟨bH,0,none⟩),.int .i64 0,.pointer (some ⟨bJ,0,none⟩),.pointer (some ⟨bf,0,none⟩),.pointer (some ⟨dm,0,none⟩),.int .i64 (ai aF.c.au j),aB,gq,dn,gT,gr,gE,u16,dr,dw,dx,gh,dy,dz,dA,dB,dD,dF,dG,dH,cu,cv,cw,u32,cz,cA,cB,cC,cD,cE,cF,cG,cH,cI,cK,dI,dJ,gO,gM,gN,bx,bz,bA,bB,bC,bD,bE,bF,bG,bL,bM,bN,bO,bP,bQ,u64,bR,bS,bT,bU,bV,bW,bX,bY,bZ,b5,b6,b7,b8,b9,cc,cg,ck,cm,cn,cp,cr,dK,dL,dM,dN,dO,dP,dQ,dR,cL,cM,cN,cO,cQ,cR,cS,cT,cU,cV,cW,cZ,c7,c8,dc,de,dh,dS,dU,dV,dW,dX,dY,dZ,ec,ee,ef,ei,ej,ek,en,eo,ep,er,eu,ew,ey,ez,eA,eB,eC,eD,eE,eF,eG,eH,eL,gi,gj,gl,eM,eN,eO,eP,eR,eS,eT,eU,eV,eW,eX,eY,gm,gn,gp,eZ,e3,e4,e5,e6,e7,e8,e9,fc,fe,ff,fh,fk,fm,fo,fq,fu,fA,fB,fC,fD,fE,fF,fG,fH,fI,fJ,fK,fL,fM,fN,fO,fP,fQ,fR,fS,gu,gv,fT,fU,fV,fW,fZ,ga,gb],defers:=ds.map oO} W')
  (hk:∀(j m:Nat)(ab:Int)(ig:aq)(iI:List Value)(s:aj)(aN:List Bool)(aL mk:List Int)(ls:Nat->aq)(X:Nat->List Value)(ds:List Nat)(gA gq dn gT gr gE u16 dr dw dx gh dy dz dA dB dD dF dG dH cu cv cw u32 cz cA cB cC cD cE cF cG cH cI cK dI dJ gO gM gN bx bz bA bB bC bD bE bF bG bL bM bN bO bP bQ u64 bR bS bT bU bV bW bX bY bZ b5 b6 b7 b8 b9 cc cg ck cm cn cp cr dK dL dM dN dO dP dQ dR cL cM cN cO cQ cR cS cT cU cV cW cZ c7 c8 dc de dh dS dU dV dW dX dY dZ ec ee ef ei ej ek en eo ep er eu ew ey ez eA eB eC eD eE eF eG eH eL gi gj gl eM eN eO eP eR eS eT eU eV eW eX eY gm gn gp eZ e3 e4 e5 e6 e7 e8 e9 fc fe ff fh fk fm fo fq fu fA fB fC fD fE fF fG fH fI fJ fK fL fM fN fO fP fQ fR fS gu gv fT fU fV fW fZ ga gb:Value)(W':World),nv K base w W' G hs cb n B F aF aG bH bJ dm bf ig iI j (others (ax aF.c.cl m) ab) ds s aN aL mk ls X->m<aF.c.cl.length->1<=(ax aF.c.cl m).length->j<i->Q .normal {tmps:= #[.pointer (some ⟨G,0,none⟩),.pointer (some ⟨cb m,0,none⟩),.pointer (some ⟨aG,0,none⟩),gA,.pointer (some ⟨bH,0,none⟩),.int .i64 0,.pointer (some ⟨bJ,0,none⟩),.pointer (some ⟨bf,0,none⟩),.pointer (some ⟨dm,0,none⟩),.int .i64 ab,.int .i64 (j:Int),gq,dn,gT,gr,gE,u16,dr,dw,dx,gh,dy,dz,dA,dB,dD,dF,dG,dH,cu,cv,cw,u32,cz,cA,cB,cC,cD,cE,cF,cG,cH,cI,cK,dI,dJ,gO,gM,gN,bx,bz,bA,bB,bC,bD,bE,bF,bG,bL,bM,bN,bO,bP,bQ,u64,bR,bS,bT,bU,bV,bW,bX,bY,bZ,b5,b6,b7,b8,b9,cc,cg,ck,cm,cn,cp,cr,dK,dL,dM,dN,dO,dP,dQ,dR,cL,cM,cN,cO,cQ,cR,cS,cT,cU,cV,cW,cZ,c7,c8,dc,de,dh,dS,dU,dV,dW,dX,dY,dZ,ec,ee,ef,ei,ej,ek,en,eo,ep,er,eu,ew,ey,ez,eA,eB,eC,eD,eE,eF,eG,eH,eL,gi,gj,gl,eM,eN,eO,eP,eR,eS,eT,eU,eV,eW,eX,eY,gm,gn,gp,eZ,e3,e4,e5,e6,e7,e8,e9,fc,fe,ff,fh,fk,fm,fo,fq,fu,fA,fB,fC,fD,fE,fF,fG,fH,fI,fJ,fK,fL,fM,fN,fO,fP,fQ,fR,fS,gu,gv,fT,fU,fV,fW,fZ,ga,gb],defers:=ds.map oO} W'):
  Zr y_ Gg Q {tmps:= #[.pointer (some ⟨G,0,none⟩),.pointer (some ⟨cb d,0,none⟩),.pointer (some ⟨aG,0,none⟩),gA,.pointer (some ⟨bH,0,none⟩),.int .i64 0,.pointer (some ⟨bJ,0,none⟩),.pointer (some ⟨bf,0,none⟩),.pointer (some ⟨dm,0,none⟩),.int .i64 lit,.int .i64 (i:Int),gq,dn,gT,gr,gE,u16,dr,dw,dx,gh,dy,dz,dA,dB,dD,dF,dG,dH,cu,cv,cw,u32,cz,cA,cB,cC,cD,cE,cF,cG,cH,cI,cK,dI,dJ,gO,gM,gN,bx,bz,bA,bB,bC,bD,bE,bF,bG,bL,bM,bN,bO,bP,bQ,u64,bR,bS,bT,bU,bV,bW,bX,bY,bZ,b5,b6,b7,b8,b9,cc,cg,ck,cm,cn,cp,cr,dK,dL,dM,dN,dO,dP,dQ,dR,cL,cM,cN,cO,cQ,cR,cS,cT,cU,cV,cW,cZ,c7,c8,dc,de,dh,dS,dU,dV,dW,dX,dY,dZ,ec,ee,ef,ei,ej,ek,en,eo,ep,er,eu,ew,ey,ez,eA,eB,eC,eD,eE,eF,eG,eH,eL,gi,gj,gl,eM,eN,eO,eP,eR,eS,eT,eU,eV,eW,eX,eY,gm,gn,gp,eZ,e3,e4,e5,e6,e7,e8,e9,fc,fe,ff,fh,fk,fm,fo,fq,fu,fA,fB,fC,fD,fE,fF,fG,fH,fI,fJ,fK,fL,fM,fN,fO,fP,fQ,fR,fS,gu,gv,fT,fU,fV,fW,fZ,ga,gb],defers:=ds.map oO} W:=by
 have aC:=U q;have aD:=U hk;have l:=U C;have ad:=U H;have u:=U (z_ Y (z_ Z (z_ aa hm)));clear C H q hk Y Z aa hm
 conv=>arg 2;whnf
 dsimp only
 go_wp2_with (go_at_call 183;refine(Dv _ _ _).mono ?_;rintro e w1 ⟨rfl,rfl⟩;dsimp only)
 have H1:=ad.o.grow (bK W (.cells #[.pointer (some ⟨cb d,0,none⟩)] 164));obtain⟨aY,aZ,L⟩:=H1.aI.KI (.int .i64 lit);have ae:(W.alloc (.cells #[.pointer (some ⟨cb d,0,none⟩)] 164)).heap.size=W.heap.size+1:=by simp
 rw[ae] at L;have af:=H1.vc L (KeepsOthers.below (bK _ _));have c1:((W.alloc (.cells #[.pointer (some ⟨cb d,0,none⟩)] 164)).alloc (.cells #[.int .i64 lit] 3)).cell? ⟨W.heap.size,0,none⟩=some (.pointer (some ⟨cb d,0,none⟩)):=by go_simp
 have ag:W.heap.size<((W.alloc (.cells #[.pointer (some ⟨cb d,0,none⟩)] 164)).alloc (.cells #[.int .i64 lit] 3)).heap.size:=by simp;omega
 clear H1 L ae ad;generalize ((W.alloc (.cells #[.pointer (some ⟨cb d,0,none⟩)] 164)).alloc (.cells #[.int .i64 lit] 3))=a6 at*;refine KS l.o u.o.1 u.o.2.1 af u.o.2.2.1 u.o.2.2.2 c1 ag ?_;clear af c1 ag;intro D a7 s3 p y z A a8 E;have aE:=E.li.qX;have N:=E.li.open
 have O:=Ak aF.c p i;have a':=l.o.gK.aL.len;have aJ:=l.o.jh;have ba:=l.o.n10;have aK:=U E;have aM:v_.wrap ((i:Int)-1)=(i:Int)-1:=by rw[x_];omega
 clear E
 go_wp2_with fail
 refine KU (ds:=D::ds) l.o aK.o ?_;intro j cL cM cN cO cQ cR cS cT cU cV cW cZ c7 c8 dc de dh P b aO ah;clear aE N O aM;have f:=U b;have R:j<aF.c.au.length:=by have:=b.li.qX;omega
 have aS:=b.aI.aS;obtain⟨g4,ak,aP,f4⟩:=b.aI.gw.gz.e.lV 5 4 rfl b.aI.gw.gz.e.j6 (by rw[b.kU.c];omega);have c4:=b.aI.gw.gz.e.zX ak (k:=j) (by rw[b.kU.c];exact R);have bb:(j:Int)<(s3.c.au.length:Int):=by rw[b.kU.c];omega
 obtain⟨x,q⟩:∃x,ai aF.c.au j=x:=⟨_,rfl⟩
 rw[show ai s3.c.au j=x by rw[b.kU.c];exact q] at c4;have al:gU n x:=by have:=l.o.gK.aL.lit _ (l5 R);rw[q,aJ] at this;exact this
 have w5:=b.aI.w5.1;have aQ:=b.aI.w5.2;have N:=b.li.open
 have O:=Ak aF.c p (j+1);obtain⟨g,S⟩:∃o:Nat,nt aF.c p (j+1)=o:=⟨_,rfl⟩
 rw[S] at w5 N O;have bc:v_.wrap ((g:Int)-1)=(g:Int)-1:=by rw[x_];omega
 have M:=U (z_ q (z_ al (z_ S (z_ R (z_ aO ah)))));clear b ak f4 q al S ah
 by_cases h1:g=1
 ·have aR:((g:Int)-1==0)=true:=by simp;omega
  have H1:=U h1;clear h1
  go_wp2_with fail
  obtain⟨t,I,J⟩:=f.o.aI.DK ((g:Int)-1);have aT:BN K base w (P.setCell ⟨dm,0,none⟩ (.int .i64 ((g:Int)-1))) G hs cb n B F aF aG bH bJ dm bf ((g:Int)-1) _ _ j (D::ds) s3 p y z A t:=⟨I,f.o.kU,f.o.li,f.o.sS,f.o.qN,f.o.sU,f.o.ms.others J,M.o.2.2.2.2.2,by rw[M.o.2.2.1];exact H1.o⟩
  have an:=aC.o j ((g:Int)-1) (oD (W.heap.size+1)) [.int .i64 lit] s3 p y z A t (D::ds);rw[M.o.1] at an;apply an;exact aT
 ·have aR:((g:Int)-1==0)=false:=by simp;omega
  have H1:=U h1;clear h1
  go_upto_region 23 with fail
  obtain⟨t,I,J⟩:=f.o.aI.DK ((g:Int)-1);obtain⟨m,hw,ao,ar,av⟩:=f.o.li.reason l.o.gK.aL l.o.gK.jK M.o.2.2.2.2.2 (by rw[M.o.2.2.1];exact H1.o);have T:=l.o.gK.aL.p7 j M.o.2.2.2.1;rw[hw] at T;have aw:(g:Int)-1=(nt aF.c p j:Int):=by rw[M.o.2.2.1] at av;omega
  have hH:nv K base w (P.setCell ⟨dm,0,none⟩ (.int .i64 ((g:Int)-1))) G hs cb n B F aF aG bH bJ dm bf _ _ j (others (ax aF.c.cl m) x) (D::ds) s3 p y z A t:=⟨by rw[<-aw];exact I,f.o.kU,by rw[<-M.o.1];exact ar,f.o.sS,f.o.qN,f.o.sU,f.o.ms.others J⟩
  have hH:=U hH;rw[M.o.1] at hw;have ay:=U (z_ ao (Z9 T.2.1));clear I J ao ar av T aw aS aP c4 w5 aQ;generalize P.setCell ⟨dm,0,none⟩ (.int .i64 ((g:Int)-1))=V at*;have aS:=hH.o.aI.aS;obtain⟨v,r⟩:∃v,aH x=v:=⟨_,rfl⟩
  have bd:v<=n:=by have:=M.o.2.1.2;omega
  have aU:bI (∀w:World,Calls y_ 97 #[.int .i64 x] w λ e w'=>e=.returned (.int .i64 (v:Int))/\w=w'):=U (λ w=>by have:=sM x w (by unfold aH at r;omega) (by unfold aH at r;omega);rw[r] at this;exact this);obtain⟨g3,az,aV,f3⟩:=hH.o.aI.gw.gz.e.lV 4 3 rfl hH.o.aI.gw.gz.e.nA (by rw[hH.o.kU.c];have:=l.o.gK.aL.o8;omega);have c3:=hH.o.aI.gw.gz.e.yI az (k:=v) (by rw[hH.o.kU.c];have:=l.o.gK.aL.o8;omega);have bg:(v:Int)<(s3.c.j9.length:Int):=by rw[hH.o.kU.c];have:=l.o.gK.aL.o8;omega
  rw[hH.o.kU.c,<-r,hw] at c3;rw[r] at c3;have c3:V.cell? ⟨g3,v,none⟩=some (.pointer (some ⟨cb m,0,none⟩)):=c3;clear hw az f3 r;refine f_ 8 (by kernel_rfl) (by kernel_rfl) ?_;simp only[m_,e_,l_,Zx]
  iterate 5 still_step
  still_call ((aU.o _).mono (λ e w' h=>⟨h.1,h.2.symm⟩))
  iterate 2 still_step
  refine Zu ?_;change wpList _ _ _ _ _ V.drew;have aW:=U (hH.o.grow ((j_ _ V).drew));clear aS aV c3
  go_wp2_with fail
  have aX:=aD.o j m x (oD (W.heap.size+1)) [.int .i64 lit] s3 p y z A t (D::ds);apply aX
  ·exact aW.o
  ·exact ay.o.1
  ·exact ay.o.2
  ·exact M.o.2.2.2.2.1
noncomputable def KW:Code:=(Tryz.f146.body.bind λ c=>qu c 0).getD .skip
def BO(K:Nat->Prop)(base:Nat)(w:World)(G:Nat)(hs:Nat->aq)(cb:Nat->Nat)(n:Nat)(b:Int)(F:List (List Int))(aF:aj)(aG e f g bf:Nat)(i d:Nat)(lit:Int)(ds:List Nat)(W:World):Prop:=
 ∃(j:aq)(k:List Value)(s:aj)(l:List Bool)(m mk:List Int)(ls:Nat->aq)(X:Nat->List Value),nv K base w W G hs cb n (b+js*((aF.c.au.length-i:Nat):Int)) F aF aG e f g bf j k i (others (ax aF.c.cl d) lit) ds s l m mk ls X/\d<aF.c.cl.length/\1<=(ax aF.c.cl d).length
inductive y8(K:Nat->Prop)(base:Nat)(w:World)(G:Nat)(hs:Nat->aq)(cb:Nat->Nat)(n:Nat)(kD:Int)(F:List (List Int))(aF:aj)(aG bH bJ dm bf:Nat):Nat->Act->World->Prop
 |mk {i d:Nat} {lit:Int} {ds:List Nat} {gA gq dn gT gr gE u16 dr dw dx gh dy dz dA dB dD dF dG dH cu cv cw u32 cz cA cB cC cD cE cF cG cH cI cK dI dJ gO gM gN bx bz bA bB bC bD bE bF bG bL bM bN bO bP bQ u64 bR bS bT bU bV bW bX bY bZ b5 b6 b7 b8 b9 cc cg ck cm cn cp cr dK dL dM dN dO dP dQ dR cL cM cN cO cQ cR cS cT cU cV cW cZ c7 c8 dc de dh dS dU dV dW dX dY dZ ec ee ef ei ej ek en eo ep er eu ew ey ez eA eB eC eD eE eF eG eH eL gi gj gl eM eN eO eP eR eS eT eU eV eW eX eY gm gn gp eZ e3 e4 e5 e6 e7 e8 e9 fc fe ff fh fk fm fo fq fu fA fB fC fD fE fF fG fH fI fJ fK fL fM fN fO fP fQ fR fS gu gv fT fU fV fW fZ ga gb:Value} {W:World} (h:BO K base w G hs cb n kD F aF aG bH bJ dm bf i d lit ds W):y8 K base w G hs cb n kD F aF aG bH bJ dm bf i {tmps:= #[.pointer (some ⟨G,0,none⟩),.pointer (some ⟨cb d,0,none⟩),.pointer (some ⟨aG,0,none⟩),gA,.pointer (some ⟨bH,0,none⟩),.int .i64 0,.pointer (some ⟨bJ,0,none⟩),.pointer (some ⟨bf,0,none⟩),.pointer (some ⟨dm,0,none⟩),.int .i64 lit,.int .i64 (i:Int),gq,dn,gT,gr,gE,u16,dr,dw,dx,gh,dy,dz,dA,dB,dD,dF,dG,dH,cu,cv,cw,u32,cz,cA,cB,cC,cD,cE,cF,cG,cH,cI,cK,dI,dJ,gO,gM,gN,bx,bz,bA,bB,bC,bD,bE,bF,bG,bL,bM,bN,bO,bP,bQ,u64,bR,bS,bT,bU,bV,bW,bX,bY,bZ,b5,b6,b7,b8,b9,cc,cg,ck,cm,cn,cp,cr,dK,dL,dM,dN,dO,dP,dQ,dR,cL,cM,cN,cO,cQ,cR,cS,cT,cU,cV,cW,cZ,c7,c8,dc,de,dh,dS,dU,dV,dW,dX,dY,dZ,ec,ee,ef,ei,ej,ek,en,eo,ep,er,eu,ew,ey,ez,eA,eB,eC,eD,eE,eF,eG,eH,eL,gi,gj,gl,eM,eN,eO,eP,eR,eS,eT,eU,eV,eW,eX,eY,gm,gn,gp,eZ,e3,e4,e5,e6,e7,e8,e9,fc,fe,ff,fh,fk,fm,fo,fq,fu,fA,fB,fC,fD,fE,fF,fG,fH,fI,fJ,fK,fL,fM,fN,fO,fP,fQ,fR,fS,gu,gv,fT,fU,fV,fW,fZ,ga,gb],defers:=ds.map oO} W
theorem y8.elim{w:World}{bf:Nat}{g:Nat}(b:y8 K base w G hs cb n kD F aF aG bH bJ dm bf g a W){P:Prop}(k:∀{i d:Nat}{lit:Int}{ds:List Nat}{c e f j l m u16 o p q r s t u v y z A B C D E u32 H I J L M N O Q R S T U V X Y Z aa ab ad ae af ag ah ai ak al an ao ar au av u64 aw ax ay az aA aB aC aD aE aH aI aJ aK aL aM aN aO aP aQ aR aS aT aU aV aW aX aY aZ a6 a7 a8 a' ba bb bc bd bg bh bj bk bl bn bo bp bq br bs bt bu bw bx bz bA bB bC bD bE bF bG bI bK bL bM bN bO bP bQ bR bS bT bU bV bW bX bY bZ b0 b1 b2 b3 b4 b5 b6 b7 b8 b9 b' ca cc cd cf cg ch cj ck cm cn cp cq cr ct cu cv cw cx cy cz cA cB cC cD cE cF cG cH cI cJ cK cL cM cN cO cP cQ cR cS cT cU cV cW cX cY cZ c7 c8 da db dc dd:Value},a={tmps:= #[.pointer (some ⟨G,0,none⟩),.pointer (some ⟨cb d,0,none⟩),.pointer (some ⟨aG,0,none⟩),c,.pointer (some ⟨bH,0,none⟩),.int .i64 0,.pointer (some ⟨bJ,0,none⟩),.pointer (some ⟨bf,0,none⟩),.pointer (some ⟨dm,0,none⟩),.int .i64 lit,.int .i64 (i:Int),e,f,j,l,m,u16,o,p,q,r,s,t,u,v,y,z,A,B,C,D,E,u32,H,I,J,L,M,N,O,Q,R,S,T,U,V,X,Y,Z,aa,ab,ad,ae,af,ag,ah,ai,ak,al,an,ao,ar,au,av,u64,aw,ax,ay,az,aA,aB,aC,aD,aE,aH,aI,aJ,aK,aL,aM,aN,aO,aP,aQ,aR,aS,aT,aU,aV,aW,aX,aY,aZ,a6,a7,a8,a',ba,bb,bc,bd,bg,bh,bj,bk,bl,bn,bo,bp,bq,br,bs,bt,bu,bw,bx,bz,bA,bB,bC,bD,bE,bF,bG,bI,bK,bL,bM,bN,bO,bP,bQ,bR,bS,bT,bU,bV,bW,bX,bY,bZ,b0,b1,b2,b3,b4,b5,b6,b7,b8,b9,b',ca,cc,cd,cf,cg,ch,cj,ck,cm,cn,cp,cq,cr,ct,cu,cv,cw,cx,cy,cz,cA,cB,cC,cD,cE,cF,cG,cH,cI,cJ,cK,cL,cM,cN,cO,cP,cQ,cR,cS,cT,cU,cV,cW,cX,cY,cZ,c7,c8,da,db,dc,dd],defers:=ds.map oO}->g=i->BO K base w G hs cb n kD F aF aG bH bJ dm bf i d lit ds W->P):P:=by
 cases b with
 |mk h=>exact k rfl rfl h
theorem nv.ow{K:Nat->Prop}{base:Nat}{w W:World}{G:Nat}{hs:Nat->aq}{cb:Nat->Nat}{n:Nat}{B q4:Int}{F:List (List Int)}{aF s:aj}{aG bH bJ dm bf:Nat}{ig:aq}{iI:List Value}{i:Nat}{ex:List Int}{ds:List Nat}{aN:List Bool}{aL mk:List Int}{ls:Nat->aq}{X:Nat->List Value}
  (H:nv K base w W G hs cb n B F aF aG bH bJ dm bf ig iI i ex ds s aN aL mk ls X) {d:Nat} (f:d<s.c.cl.length) {x:Int} (g:0<=x) (h1:x<=q4) (j:B<=q4):nv K base w (W.setCell ⟨cb d,3,none⟩ (.int .i64 x)) G hs cb n q4 F aF aG bH bJ dm bf ig iI i ex ds (s.wV d x) aN aL mk ls X:=by
 have e:=H.aI.gw.call.FO f H.kU.rg.nV x;have b:=H.aI.gw.back e.1 e.2;exact⟨H.aI.vc b.1,H.kU.Ge (ov.ow s d x) (H.kU.rg.ow j g h1),H.li,H.sS,H.qN,H.sU,H.ms.others b.2⟩
theorem KX{w:World}{bf:Nat}{lit:Int}
  (C:vF F Fd aF n h kD) (H:BO K base w G hs cb n kD F aF aG bH bJ dm bf i d lit ds W)
  (ag:∀(j:Nat)(B:Int)(op:Int)(y:aq)(z:List Value)(s:aj)(A:List Bool)(aL mk:List Int)(ls:Nat->aq)(X:Nat->List Value)(ds:List Nat)(ah gA ak gq dn gT gr gE u16 dr dw dx gh dy dz dA dB dD dF dG dH cu cv cw u32 cz cA cB cC cD cE cF cG cH cI cK dI dJ gO gM gN bx bz bA bB bC bD bE bF bG bL bM bN bO bP bQ u64 bR bS bT bU bV bW bX bY bZ b5 b6 b7 b8 b9 cc cg ck cm cn cp cr dK dL dM dN dO dP dQ dR cL cM cN cO cQ cR cS cT cU cV cW cZ c7 c8 dc de dh dS dU dV dW dX dY dZ ec ee ef ei ej ek en eo ep er eu ew ey ez eA eB eC eD eE eF eG eH eL gi gj gl eM eN eO eP eR eS eT eU eV eW eX eY gm gn gp eZ e3 e4 e5 e6 e7 e8 e9 fc fe ff fh fk fm fo fq fu fA fB fC fD fE fF fG fH fI fJ fK fL fM fN fO fP fQ fR fS gu gv fT fU fV fW fZ ga gb:Value)(W':World),B<=kD+16*js->BN K base w W' G hs cb n B F aF aG bH bJ dm bf op y z j ds s A aL mk ls X->Q (.exit 0) {tmps:= #[.pointer (some ⟨G,0,none⟩),ah,.pointer (some ⟨aG,0,none⟩),gA,.pointer (some ⟨bH,0,none⟩),.int .i64 0,.pointer (some ⟨bJ,0,none⟩),.pointer (some ⟨bf,0,none⟩),.pointer (some ⟨dm,0,none⟩),.int .i64 (ai aF.c.au j),ak,gq,dn,gT,gr,gE,u16,dr,dw,dx,gh,dy,dz,dA,dB,dD,dF,dG,dH,cu,cv,cw,u32,cz,cA,cB,cC,cD,cE,cF,cG,cH,cI,cK,dI,dJ,gO,gM,gN,bx,bz,bA,bB,bC,bD,bE,bF,bG,bL,bM,bN,bO,bP,bQ,u64,bR,bS,bT,bU,bV,bW,bX,bY,bZ,b5,b6,b7,b8,b9,cc,cg,ck,cm,cn,cp,cr,dK,dL,dM,dN,dO,dP,dQ,dR,cL,cM,cN,cO,cQ,cR,cS,cT,cU,cV,cW,cZ,c7,c8,dc,de,dh,dS,dU,dV,dW,dX,dY,dZ,ec,ee,ef,ei,ej,ek,en,eo,ep,er,eu,ew,ey,ez,eA,eB,eC,eD,eE,eF,eG,eH,eL,gi,gj,gl,eM,eN,eO,eP,eR,eS,eT,eU,eV,eW,eX,eY,gm,gn,gp,eZ,e3,e4,e5,e6,e7,e8,e9,fc,fe,ff,fh,fk,fm,fo,fq,fu,fA,fB,fC,fD,fE,fF,fG,fH,fI,fJ,fK,fL,fM,fN,fO,fP,fQ,fR,fS,gu,gv,fT,fU,fV,fW,fZ,ga,gb],defers:=ds.map oO} W'):
  Zr y_ KW Q {tmps:= #[.pointer (some ⟨G,0,none⟩),.pointer (some ⟨cb d,0,none⟩),.pointer (some ⟨aG,0,none⟩),gA,.pointer (some ⟨bH,0,none⟩),.int .i64 0,.pointer (some ⟨bJ,0,none⟩),.pointer (some ⟨bf,0,none⟩),.pointer (some ⟨dm,0,none⟩),.int .i64 lit,.int .i64 (i:Int),gq,dn,gT,gr,gE,u16,dr,dw,dx,gh,dy,dz,dA,dB,dD,dF,dG,dH,cu,cv,cw,u32,cz,cA,cB,cC,cD,cE,cF,cG,cH,cI,cK,dI,dJ,gO,gM,gN,bx,bz,bA,bB,bC,bD,bE,bF,bG,bL,bM,bN,bO,bP,bQ,u64,bR,bS,bT,bU,bV,bW,bX,bY,bZ,b5,b6,b7,b8,b9,cc,cg,ck,cm,cn,cp,cr,dK,dL,dM,dN,dO,dP,dQ,dR,cL,cM,cN,cO,cQ,cR,cS,cT,cU,cV,cW,cZ,c7,c8,dc,de,dh,dS,dU,dV,dW,dX,dY,dZ,ec,ee,ef,ei,ej,ek,en,eo,ep,er,eu,ew,ey,ez,eA,eB,eC,eD,eE,eF,eG,eH,eL,gi,gj,gl,eM,eN,eO,eP,eR,eS,eT,eU,eV,eW,eX,eY,gm,gn,gp,eZ,e3,e4,e5,e6,e7,e8,e9,fc,fe,ff,fh,fk,fm,fo,fq,fu,fA,fB,fC,fD,fE,fF,fG,fH,fI,fJ,fK,fL,fM,fN,fO,fP,fQ,fR,fS,gu,gv,fT,fU,fV,fW,fZ,ga,gb],defers:=ds.map oO} W:=by
 have aN:=U ag;have p:=U C;clear C ag
 conv=>arg 2;whnf
 dsimp only;refine wp_loop_ghost_k (y8 K base w G hs cb n kD F aF aG bH bJ dm bf) i ?start ?round
 case start=>exact y8.mk H
 case round=>
  clear H;intro g a W al bc an ao ar;refine al.elim ?_;intro i d lit ds gA gq dn gT gr gE u16 dr dw dx gh dy dz dA dB dD dF dG dH cu cv cw u32 cz cA cB cC cD cE cF cG cH cI cK dI dJ gO gM gN bx bz bA bB bC bD bE bF bG bL bM bN bO bP bQ u64 bR bS bT bU bV bW bX bY bZ b5 b6 b7 b8 b9 cc cg ck cm cn cp cr dK dL dM dN dO dP dQ dR cL cM cN cO cQ cR cS cT cU cV cW cZ c7 c8 dc de dh dS dU dV dW dX dY dZ ec ee ef ei ej ek en eo ep er eu ew ey ez eA eB eC eD eE eF eG eH eL gi gj gl eM eN eO eP eR eS eT eU eV eW eX eY gm gn gp eZ e3 e4 e5 e6 e7 e8 e9 fc fe ff fh fk fm fo fq fu fA fB fC fD fE fF fG fH fI fJ fK fL fM fN fO fP fQ fR fS gu gv fT fU fV fW fZ ga gb aO D aP;clear al;subst aO;replace D:=D.symm;subst D;obtain⟨y,z,s,A,aL,mk,ls,X,f,E,hm⟩:=aP;have av:=U (z_ E hm);have I:d<s.c.cl.length:=by rw[f.kU.c];exact E
  obtain⟨aQ,J,aR,M,aw⟩:=f.aI.gw.gz.z7 I;have q:=f.kU.rg.qa d;have ay:=f.kU.rg.rC;have az:=f.kU.rg.oS;have O:=f.li.qX;have aA:=p.o.gK.aL.len;have aT:=p.o.jh;have aU:=p.o.n10;have aV:=p.o.bg;have aW:=p.o.bp;have aB:W.cell? ⟨G,9,none⟩=some (.int .i64 s.aM):=f.aI.gw.gz.e.kA (k:=9) (v:=.int .i64 s.aM) rfl;have aS:=f.aI.aS;obtain⟨ac,aC⟩:∃a,(lH s d).ac=a:=⟨_,rfl⟩
  obtain⟨r,aD⟩:∃a,s.aM=a:=⟨_,rfl⟩
  rw[aC] at M q;rw[aD] at aB ay az;obtain⟨m,P⟩:∃t,aF.c.au.length=t:=⟨_,rfl⟩
  rw[P] at q O aA f;have f3:=aw 3;have hmul:js*((m-i:Nat):Int)<=js*10:=Zl (by omega) (by unfold js;omega);have aE:0<=js*((m-i:Nat):Int):=Int.mul_nonneg (by unfold js;omega) (by omega);obtain⟨l,R⟩:∃b,js*((m-i:Nat):Int)=b:=⟨_,rfl⟩
  rw[R] at hmul aE q f;have aX:js=1099511627776:=rfl;have bd:v_.wrap (ac+r)=ac+r:=by rw[x_];omega
  have L:=U f;have N:=U (z_ P (z_ R (z_ (show 0<=kD+l+js by omega) (z_ (show kD+l+js<=4611686018427387904 by omega) (z_ (show kD+l+js<=kD+16*js by omega) (z_ (show 0<=ac+r by omega) (z_ (show ac+r<=kD+l+js by omega) (z_ I (z_ O (show kD+l<=kD+l+js by omega))))))))));have rest:bI (∀(s1:aj)(cu cv cw u32 cz cA cB cC cD cE cF cG cH cI cK:Value)(S:World),nv K base w S G hs cb n (kD+l+js) F aF aG bH bJ dm bf y z i (others (ax aF.c.cl d) lit) ds s1 A aL mk ls X->Zr y_ Gg (Exit.inBlock 1 (Exit.then an (Q))) {tmps:= #[.pointer (some ⟨G,0,none⟩),.pointer (some ⟨cb d,0,none⟩),.pointer (some ⟨aG,0,none⟩),gA,.pointer (some ⟨bH,0,none⟩),.int .i64 0,.pointer (some ⟨bJ,0,none⟩),.pointer (some ⟨bf,0,none⟩),.pointer (some ⟨dm,0,none⟩),.int .i64 lit,.int .i64 (i:Int),gq,dn,gT,gr,gE,u16,dr,dw,dx,gh,dy,dz,dA,dB,dD,dF,dG,dH,cu,cv,cw,u32,cz,cA,cB,cC,cD,cE,cF,cG,cH,cI,cK,dI,dJ,gO,gM,gN,bx,bz,bA,bB,bC,bD,bE,bF,bG,bL,bM,bN,bO,bP,bQ,u64,bR,bS,bT,bU,bV,bW,bX,bY,bZ,b5,b6,b7,b8,b9,cc,cg,ck,cm,cn,cp,cr,dK,dL,dM,dN,dO,dP,dQ,dR,cL,cM,cN,cO,cQ,cR,cS,cT,cU,cV,cW,cZ,c7,c8,dc,de,dh,dS,dU,dV,dW,dX,dY,dZ,ec,ee,ef,ei,ej,ek,en,eo,ep,er,eu,ew,ey,ez,eA,eB,eC,eD,eE,eF,eG,eH,eL,gi,gj,gl,eM,eN,eO,eP,eR,eS,eT,eU,eV,eW,eX,eY,gm,gn,gp,eZ,e3,e4,e5,e6,e7,e8,e9,fc,fe,ff,fh,fk,fm,fo,fq,fu,fA,fB,fC,fD,fE,fF,fG,fH,fI,fJ,fK,fL,fM,fN,fO,fP,fQ,fR,fS,gu,gv,fT,fU,fV,fW,fZ,ga,gb],defers:=ds.map oO} S):=U (by
   intro s1 cu cv cw u32 cz cA cB cC cD cE cF cG cH cI cK S h1;refine KV p.o N.o.2.2.1 N.o.2.2.2.1 h1 av.o.1 av.o.2 ?_ ?_
   ·intro j op T Y s' Z aa mk' ab ad ae ah gA ak gq dn gT gr gE u16 dr dw dx gh dy dz dA dB dD dF dG dH cu cv cw u32 cz cA cB cC cD cE cF cG cH cI cK dI dJ gO gM gN bx bz bA bB bC bD bE bF bG bL bM bN bO bP bQ u64 bR bS bT bU bV bW bX bY bZ b5 b6 b7 b8 b9 cc cg ck cm cn cp cr dK dL dM dN dO dP dQ dR cL cM cN cO cQ cR cS cT cU cV cW cZ c7 c8 dc de dh dS dU dV dW dX dY dZ ec ee ef ei ej ek en eo ep er eu ew ey ez eA eB eC eD eE eF eG eH eL gi gj gl eM eN eO eP eR eS eT eU eV eW eX eY gm gn gp eZ e3 e4 e5 e6 e7 e8 e9 fc fe ff fh fk fm fo fq fu fA fB fC fD fE fF fG fH fI fJ fK fL fM fN fO fP fQ fR fS gu gv fT fU fV fW fZ ga gb W' aY;have af:=aN.o j (kD+l+js) op T Y s' Z aa mk' ab ad ae;show Q (.exit 0) _ _;apply af
    ·exact N.o.2.2.2.2.1
    ·exact aY
   ·intro j aZ a6 T Y s' Z aa mk' ab ad ae gA gq dn gT gr gE u16 dr dw dx gh dy dz dA dB dD dF dG dH cu cv cw u32 cz cA cB cC cD cE cF cG cH cI cK dI dJ gO gM gN bx bz bA bB bC bD bE bF bG bL bM bN bO bP bQ u64 bR bS bT bU bV bW bX bY bZ b5 b6 b7 b8 b9 cc cg ck cm cn cp cr dK dL dM dN dO dP dQ dR cL cM cN cO cQ cR cS cT cU cV cW cZ c7 c8 dc de dh dS dU dV dW dX dY dZ ec ee ef ei ej ek en eo ep er eu ew ey ez eA eB eC eD eE eF eG eH eL gi gj gl eM eN eO eP eR eS eT eU eV eW eX eY gm gn gp eZ e3 e4 e5 e6 e7 e8 e9 fc fe ff fh fk fm fo fq fu fA fB fC fD fE fF fG fH fI fJ fK fL fM fN fO fP fQ fR fS gu gv fT fU fV fW fZ ga gb W' af a7 a8 a';show an _ _;refine ar _ _ (Handed.intro j a' (ao _ _ _ (y8.mk (d:=aZ) (lit:=a6) (ds:=ae) ⟨T,Y,s',Z,aa,mk',ab,ad,af.up ?_,a7,a8⟩)));rw[N.o.1,<-N.o.2.1];have bh:js*((m-i:Nat):Int)+js<=js*((m-j:Nat):Int):=by
     have ba:((m-i:Nat):Int)+1<=((m-j:Nat):Int):=by have:=N.o.2.2.2.2.2.2.2.2.1;omega
     have aH:=Zl ba (show 0<=js by unfold js;omega);rw[Int.mul_add,Int.mul_one] at aH;exact aH
    omega)
  clear f E hm aC aD P hmul aE R q aQ aR I aw ay az O aA aT aU aV aW aX ao ar;refine wp_block ?_;refine wp_seq_k ?_;intro bj aJ;have aK:=U aJ;clear aJ
  cases u:(lH s d).kU with
  |true=>
   rw[u] at J;clear u
   go_wp2_with fail
   refine f_ 11 (by kernel_rfl) (by kernel_rfl) ?_;simp only[m_,e_,l_,Zx]
   iterate 11 still_step
   refine Zu ?_;change wpList _ _ _ _ _ W.drew;have M:W.drew.cell? ⟨cb d,3,none⟩=some (.int .i64 ac):=M;have f3:W.drew.frozen? ⟨cb d,3,none⟩=false:=f3;have bb:=U ((L.o.grow ((j_ _ W).drew)).ow (d:=d) N.o.2.2.2.2.2.2.2.1 N.o.2.2.2.2.2.1 N.o.2.2.2.2.2.2.1 N.o.2.2.2.2.2.2.2.2.2);clear aS aB J;generalize W.drew=V at*
   go_wp2_with fail
   apply aK.o;apply rest.o;exact bb.o
  |false=>
   rw[u] at J;clear u
   go_wp2_with fail
   apply aK.o;apply rest.o;exact L.o.up N.o.2.2.2.2.2.2.2.2.2
end
section
open Go.RowKit Go.Shelf
def r0(x:Int):Bool:=(Lit.int .i64 x).wf
theorem za(c: -9223372036854775808<=x)(h1:x<=9223372036854775807):r0 x=true:=by
 have a:v_.min= -9223372036854775808:=by decide
 have b:v_.max=9223372036854775807:=by decide
 unfold r0 Lit.wf;simp[a,b];omega
structure BP{β:Type}(e:TypeId)(pN:β->Value)(lW:β->DataW Unit)(ok:β->Prop)(z0:β):Prop where
 Al:∀x,ok x->plainElem (H:=Unit) y_ e (pN x)=some (lW x,[])
 inv:∀v x mC,plainElem (H:=Unit) y_ e v=some (lW x,mC)->v=pN x
 all:∀v y,plainElem (H:=Unit) y_ e v=some y->∃x,v=pN x/\y.1=lW x
 zero:∀w,(zeroValue e).run y_ w=.ok (pN z0) w
 DO:ok z0
def tC(v:Bool):DataW Unit:=.lit (.bool v)
theorem BQ:BP 4 Value.bool tC (λ _=>True) false where
 Al x _:=plainElem_bool Z4 x
 inv v x b h:=EJ Z4 h
 all v y h:=by
  have hu:=Z4;generalize y_=P at h hu;unfold plainElem at h;rw[hu] at h
  cases v<;>simp at h
  subst h;exact⟨_,rfl,rfl⟩
 zero:=Tryz.zeroValue4
 DO:=trivial
section
variable {β:Type}{e:TypeId}{pN:β->Value}{lW:β->DataW Unit}{ok:β->Prop}{z0:β}
def Am(lW:β->DataW Unit)(D:DataW Unit)(f:Int->Option β):Prop:=
 (∀x,r0 x=true->Maps.has D (.int .i64 x)=(f x).isSome)/\∀x v,r0 x=true->f x=some v->∀b,D.atKey (.int .i64 x) b=lW v
def mV(e:TypeId)(lW:β->DataW Unit)(w:World)(b n:Nat)(f:Int->Option β):Prop:=
 ∃D:DataW Unit,w.ownsMap y_ 3 (plainElem y_ e) b n D/\Am lW D f
def DP:Int->Option β:=λ _=>none
def vg(f:Int->Option β)(x:Int)(v:β):Int->Option β:=λ y=>if y=x then some v else f y
theorem mV.made(w:World):mV e lW (w.alloc (.map #[] 0)) w.heap.size 0 DP:=
 ⟨_,World.ownsMap_made w _ _ _,λ x _=>rfl,λ x v _ h=>by cases h⟩
theorem mV.lt{w:World}{b n:Nat}{f:Int->Option β}(h:mV e lW w b n f):b<w.heap.size:=by
 obtain⟨D,h1,c⟩:=h;exact h1.lt
theorem mV.kept{w w':World}{b n:Nat}{f:Int->Option β}{row:Option Nat}(h:mV e lW w b n f)(c:w.grownBy w' row)(d:some b≠row):mV e lW w' b n f:=by
 obtain⟨D,h1,g⟩:=h;exact⟨D,h1.kept c d,g⟩
theorem mV.alloc{w:World}{b n:Nat}{f:Int->Option β}(h:mV e lW w b n f)(o:Obj):mV e lW (w.alloc o) b n f:=by
 obtain⟨D,h1,c⟩:=h;exact⟨D,h1.alloc o,c⟩
theorem mV.below{w w':World}{b n B:Nat}{f:Int->Option β}(h:mV e lW w b n f)(c:Below B w w')(d:b<B):mV e lW w' b n f:=by
 obtain⟨D,⟨es,clock,h1,g⟩,i⟩:=h;exact⟨D,⟨es,clock,(c.block b d).trans h1,g⟩,i⟩
theorem mV.setCell{w:World}{b n:Nat}{f:Int->Option β}(h:mV e lW w b n f){a:Addr}(c:b≠a.block)(u:Value):mV e lW (w.setCell a u) b n f:=by
 obtain⟨D,h1,d⟩:=h;exact⟨D,h1.setCell c u,d⟩
theorem mV.look(E:BP e pN lW ok z0){t:TypeId}(i:y_.underlying t=some (.map 3 e)){w:World}{b n:Nat}{f:Int->Option β}(h:mV e lW w b n f){x:Int}(d:r0 x=true):
  (Instr.lookup t (.map (some b)) (.int .i64 x) false).run y_ w=.ok (pN ((f x).getD z0)) w:=by
 obtain⟨D,h1,j,k⟩:=h;obtain⟨v,m,l,c⟩:=h1.lookup (ZY c_) i (E.zero w) (E.Al _ E.DO) (Zg c_ d);rw[l]
 cases g:f x with
 |none=>
  rw[ZX (by rw[j x d,g];rfl)] at c;rw[E.inv _ _ _ c];rfl
 |some y=>
  rw[k x y d g] at c;rw[E.inv _ _ _ c];rfl
theorem mV.KY(E:BP e pN lW ok z0){t:TypeId}(j:y_.underlying t=some (.map 3 e)){w:World}{b n:Nat}{f:Int->Option β}(h:mV e lW w b n f){x:Int}(c:r0 x=true):
  (Instr.lookup t (.map (some b)) (.int .i64 x) true).run y_ w=.ok (.tuple #[pN ((f x).getD z0),.bool (f x).isSome]) w:=by
 obtain⟨D,h1,g,k⟩:=h;obtain⟨v,m,l,d⟩:=h1.look_ok (ZY c_) j (E.zero w) (E.Al _ E.DO) (Zg c_ c);rw[l,g x c]
 cases i:f x with
 |none=>
  rw[ZX (by rw[g x c,i];rfl)] at d;rw[E.inv _ _ _ d];rfl
 |some y=>
  rw[k x y c i] at d;rw[E.inv _ _ _ d];rfl
theorem Gi{x y:Int}(h:y≠x):(Lit.int .i64 y)≠(Lit.int .i64 x):=by simpa using h
theorem Am.put{D:DataW Unit}{f:Int->Option β}(d:Maps.IsMap D)(h:Am lW D f)(x:Int)(v:β):Am lW (D.put (.int .i64 x) (lW v)) (vg f x v):=by
 refine⟨λ y c=>?_,λ y u c hu e=>?_⟩
 ·by_cases b:y=x
  ·subst b;rw[Maps.has_put_same d (by simp[WideAt.IsKeyLit])];simp[vg]
  ·rw[Maps.has_put_other (Gi b),h.1 y c];simp[vg,b]
 ·by_cases b:y=x
  ·subst b;rw[Maps.atKey_put_same d (by simp[WideAt.IsKeyLit])];simp[vg] at hu;rw[hu]
  ·rw[Maps.atKey_put_other (Gi b)];simp[vg,b] at hu;exact h.2 y u c hu e
theorem mV.put(E:BP e pN lW ok z0){t:TypeId}(c:y_.underlying t=some (.map 3 e)){w:World}{b n:Nat}{f:Int->Option β}(h:mV e lW w b n f)(d:n<maxLen){x:Int}(g:r0 x=true){v:β}(i:ok v):
  ∃w',(Instr.mapUpdate t (.map (some b)) (.int .i64 x) (pN v)).run y_ w=.ok () w'/\mV e lW w' b (n+1) (vg f x v)/\w.mapTurned w' b:=by
 obtain⟨D,h1,j⟩:=h;obtain⟨w',k,l,m⟩:=h1.store (ZY c_) c d (Zg c_ g) (E.Al v i);exact⟨w',k,⟨_,l,j.put h1.isMap x v⟩,m⟩
variable {ops:Array Oper}{rest:List Oper}{o:Oper}{a:Act}{Q:Exit->Act->World->Prop}
end
def wg(S:List Int):Int->Option Bool:=λ x=>if hasB S x=true then some true else none
theorem KZ(S:List Int)(x:Int):(wg S x).getD false=hasB S x:=by
 unfold wg;cases h:hasB S x<;>simp[h]
theorem K0(S:List Int)(x:Int):(wg S x).isSome=hasB S x:=by
 unfold wg;cases h:hasB S x<;>simp[h]
theorem K1(S:List Int)(x:Int):vg (wg S) x true=wg (S++[x]):=by
 funext y;unfold vg wg;rw[ym]
 by_cases b:y=x
 ·subst b;simp
 ·have c:(x==y)=false:=by simpa using Ne.symm b
  simp[b,c]
end
section
open Go.RowKit Go.Shelf
theorem mV.BR{β:Type}{e:TypeId}{lW:β->DataW Unit}{w:World}{b:Nat}{f:Int->Option β}(h:mV e lW w b n f):∃es clock,w.heap[b]? =some (.map es clock):=by
 obtain⟨D,⟨es,clock,h1,c⟩,d⟩:=h;exact⟨es,clock,h1⟩
theorem zb{B C:World}{b:Nat}{row:Option Nat}(h:A.grownBy B (some b))(k:B.grownBy C row)(f:∀r,row=some r->A.heap.size<=r\/r=b):A.grownBy C (some b):=
 ⟨k.os.trans h.os,k.tape.trans h.tape,k.output.trans h.output,ZN h.size k.size,λ i c d=>(k.block i (Nat.lt_of_lt_of_le c h.size) (λ e=>by
  rcases f i e.symm with h1|h1
  ·omega
  ·exact d (by rw[h1]))).trans (h.block i c d)⟩
theorem Gj(A:World)(row:Option Nat):A.grownBy A row:=⟨rfl,rfl,rfl,w_ _,λ _ _ _=>rfl⟩
theorem An{B:World}(row:Option Nat)(h:Below A.heap.size A B):A.grownBy B row:=⟨h.os,h.tape,h.output,h.size,λ k hk _=>h.block k hk⟩
structure sw(base:Nat)(W:World)(G:Nat)(hs:Nat->aq)(cb:Nat->Nat)(s:aj)(lq aG lX bm m:Nat)(f:Int->Option Bool):Prop where
 e:iX base W G hs cb s
 rK:aO W lq 114 [.map (some bm)]
 qc:aO W aG 115 [.pointer (some ⟨G,0,none⟩)]
 tV:aO W lX 129 [.func (.func 185) #[] #[.pointer (some ⟨lq,0,none⟩),.pointer (some ⟨aG,0,none⟩),.pointer (some ⟨lX,0,none⟩)]]
 oL:mV 4 tC W bm m f
 snd:∀y,f y=some true->rm s.c s.aN y
section
variable {base:Nat}{W W':World}{G:Nat}{hs:Nat->aq}{cb:Nat->Nat}{s:aj}{lq aG lX bm m:Nat}{f:Int->Option Bool}
theorem sw.below(h:sw base W G hs cb s lq aG lX bm m f)(b:Below W.heap.size W W'):sw base W' G hs cb s lq aG lX bm m f:=
 ⟨h.e.below b,h.rK.below b,h.qc.below b,h.tV.below b,h.oL.below b h.oL.lt,h.snd⟩
theorem x3{b:Nat}{t:TypeId}{cs:List Value}(h:aO W b t cs){row:Option Nat}(d:∀r,row=some r->∃o:Obj,W.heap[r]? =some o/\o.isCells=false):some b≠row:=λ e=>by
 obtain⟨o,c,f⟩:=d b e.symm;have:W.heap[b]? =_:=h;rw[this] at c;cases c;cases f
theorem sw.isMap(h:sw base W G hs cb s lq aG lX bm m f):∀r,some bm=some r->∃o:Obj,W.heap[r]? =some o/\o.isCells=false:=λ r e=>by
 obtain⟨es,cl,h1⟩:=h.oL.BR;cases e;exact⟨_,h1,rfl⟩
theorem sw.put(h:sw base W G hs cb s lq aG lX bm m f){mz:Nat}{ot:Int->Option Bool}(b:W.grownBy W' (some bm))(hm:mV 4 tC W' bm mz ot)(hs':∀y,ot y=some true->rm s.c s.aN y):sw base W' G hs cb s lq aG lX bm mz ot:=
 ⟨h.e.tW b h.isMap,h.rK.kept b (x3 h.rK h.isMap),h.qc.kept b (x3 h.qc h.isMap),h.tV.kept b (x3 h.tV h.isMap),hm,hs'⟩
theorem sw.box(h:sw base W G hs cb s lq aG lX bm m f)(d:W.grownBy W' (some bm)){b:Nat}{t:TypeId}{cs:List Value}(c:aO W b t cs):aO W' b t cs:=c.kept d (x3 c h.isMap)
end
theorem K2(lD lq kG bm m:Nat)(f:Int->Option Bool)(x:Int)(yes:Bool)(u:FrameMode)(n:Nat)(W:World)(b:aO W lD 4 [.bool yes])(hk:aO W lq 114 [.map (some bm)])(c:aO W kG 3 [.int .i64 x])(hm:mV 4 tC W bm m f)(i:r0 x=true)(j:m<maxLen):
  CallsDIn Zw n y_ 186 #[.pointer (some ⟨lD,0,none⟩),.pointer (some ⟨lq,0,none⟩),.pointer (some ⟨kG,0,none⟩)] u W λ e k W'=>k=u/\(e=.returned (.tuple #[])/\mV 4 tC W' bm (m+1) (vg f x yes)/\W.grownBy W' (some bm)):=by
 obtain⟨W',l,d,g⟩:=hm.put BQ Tryz.underlying114 j i (v:=yes) trivial;have p:W.cell? ⟨lD,0,none⟩=some (.bool yes):=b.cell 0;have q:W.cell? ⟨lq,0,none⟩=some (.map (some bm)):=hk.cell 0;have c5:W.cell? ⟨kG,0,none⟩=some (.int .i64 x):=c.cell 0;have H:=U (z_ d g.grown);clear d g b hk c hm;refine callsDIn_of_wp Tryz.func186 rfl trivial ?_;simp only[Tryz.ntmps186,Zf,u_,Z7,ZT,ZS,Zo,Zn,Ze,Zk,Z8,Z5]
 gi_wp2
 go_end0;exact⟨rfl,H.o.1,H.o.2⟩
def Gk(base:Nat)(W:World)(G:Nat)(hs:Nat->aq)(cb:Nat->Nat)(s:aj)(lq aG lX bm m:Nat)(x:Int)(q:Nat)(e:Ending)(W':World):Prop:=
 ∃(b:Bool)(d:Nat)(f:Int->Option Bool),e=.returned (.bool b)/\(b=true->rm s.c s.aN x)/\sw base W' G hs cb s lq aG lX bm d f/\W.grownBy W' (some bm)/\d<=m+q
theorem Gl(tmps:Array Value)(lD:Nat)(yes:Bool)(W:World)(b:tmps[7]? =some (.pointer (some ⟨lD,0,none⟩)))(c:W.cell? ⟨lD,0,none⟩=some (.bool yes)):(results Tryz.f185 tmps).run y_ W=.ok (.bool yes) W:=by
 simp[results,Tryz.f185,b,c,go_sem]
def Gm(lD lq kG:Nat):Deferred:={target:=.fn (.func 186) #[.pointer (some ⟨lD,0,none⟩),.pointer (some ⟨lq,0,none⟩),.pointer (some ⟨kG,0,none⟩)],args:= #[]}
theorem BS{mE:World}{m0 m:Nat}{yes:Bool}{lD kG q:Nat}
  (w:a.defers=ds.map oO++[Gm lD lq kG]) (J:a.tmps[7]? =some (.pointer (some ⟨lD,0,none⟩))) (h:sw base W G hs cb s lq aG lX bm m f) (o:mE.grownBy W (some bm)) (v:pF mE.heap.size W ds) (C:aO W lD 4 [.bool yes]) (K:aO W kG 3 [.int .i64 x]) (L:r0 x=true) (E:yes=true->rm s.c s.aN x) (z:m<maxLen) (M:m+1<=m0+q):
  bodyPostM Zw 6 y_ Tryz.f185 (Gk base mE G hs cb s lq aG lX bm m0 x q) .ret a W:=by
 show LeavesInM Zw 6 y_ Tryz.f185 a.tmps _ a.defers .returning W;rw[w];refine EY (by simp) _ ds W v.nr (λ D p=>(v.kB D p).2) (λ i l=>?_);have u:∀b,(∃cs t F,W.heap[b]? =some (Obj.cells cs t F))\/(∃es cl,W.heap[b]? =some (Obj.map es cl))->i.heap[b]? =W.heap[b]? :=λ b u=>l.block b (λ p=>by
  have h1:=(v.kB b p).2;rcases u with⟨cs,t,F,j⟩|⟨es,cl,j⟩
  ·rw[j] at h1;cases h1
  ·rw[j] at h1;cases h1)
 have hblk:∀{b:Nat}{t:TypeId}{cs:List Value},aO W b t cs->aO i b t cs:=λ H=>(u _ (.inl ⟨_,_,_,H⟩)).trans H
 have N:mE.grownBy i (some bm):=⟨l.os.trans o.os,l.tape.trans o.tape,l.output.trans o.output,by rw[l.size];exact o.size,λ k hk z=>(l.block k (λ p=>by have:=(v.kB k p).1;omega)).trans (o.block k hk z)⟩
 have O:iX base i G hs cb s:=by
  refine⟨hblk h.e.box,⟨λ r=>mP (h.e.rows.row r) (λ b P=>?_),h.e.rows.apart⟩,λ d w=>hblk (h.e.cls d w),h.e.inj,h.e.ru,h.e.rU⟩;obtain⟨cs,j⟩:=sO (h.e.rows.row r) P;exact u b (.inl ⟨_,_,_,j⟩)
 have I:mV 4 tC i bm m f:=by
  obtain⟨D,⟨es,clock,h1,Q⟩,j⟩:=h.oL;exact⟨D,⟨es,clock,(u bm (.inr ⟨es,clock,h1⟩)).trans h1,Q⟩,j⟩
 have A:sw base i G hs cb s lq aG lX bm m f:=⟨O,hblk h.rK,hblk h.qc,hblk h.tV,I,h.snd⟩
 refine⟨by simp,.inr ⟨λ _=>by omega,_,_,186, #[.pointer (some ⟨lD,0,none⟩),.pointer (some ⟨lq,0,none⟩),.pointer (some ⟨kG,0,none⟩)],rfl,?_,λ g V=>trivial,?_⟩⟩
 ·simp[Gm,invoke,go_sem,enters_of Tryz.func186 (by kernel_rfl) rfl]
 ·refine(K2 lD lq kG bm m f x yes .returning _ i (hblk C) A.rK (hblk K) I L z).mono ?_;rintro e X R ⟨rfl,rfl,S,B⟩;have T:sw base R G hs cb s lq aG lX bm (m+1) (vg f x yes):=A.put B S (λ y n=>by
   unfold vg at n;split at n
   ·rename_i e;subst e;injection n with n;exact E n
   ·exact h.snd y n)
  have U:=A.box B (hblk C);exact⟨_,Gl _ _ _ _ J (U.cell 0),yes,m+1,_,rfl,E,T,zb N B (λ r e=>by cases e;exact .inr rfl),M⟩
end
section
open Go.RowKit Go.Shelf
attribute [local go_sem] Z6
theorem K3(h:gU n x)(b:n<=60000):r0 x=true:=za (by have:=h.2;unfold aH at this;omega) (by have:=h.2;unfold aH at this;omega)
def BU(W:World)(s:aj)(bm m Q:Nat)(x deep:Int)(st:Bool)(pre:List Int)(b:World):Prop:=
 ∃(d:Nat)(e:Int->Option Bool),W.grownBy b (some bm)/\mV 4 tC b bm d e/\(∀y,e y=some true->rm s.c s.aN y)/\aO b W.heap.size 3 [.int .i64 x]/\aO b (W.heap.size+1) 3 [.int .i64 deep]/\aO b (W.heap.size+1+1) 4 [.bool false]/\(st=true->∀y∈pre,jE s.aN (aH y)=false->aR s.c y≠0->rm s.c s.aN y)/\d<=m+pre.length*Q
def K4(W:World)(s:aj)(bm m Q:Nat)(x deep:Int)(c:Code)(pre:List Int)(b:World):Prop:=c=.ret/\BU W s bm m Q x deep false pre b
theorem K5(T:jV s.c)(D:rO F Fd s.c)(cO:s.c.n<=10)(cP:s.aN.length=s.c.n+1):
  ∀(p:Nat)(x:Int)(deep:Int)(W:World)(m:Nat)(f:Int->Option Bool),p<s.c.au.length->ai s.c.au p= -x->0<=deep->deep<=1001->sw base W G hs cb s lq aG lX bm m f->m+24^(p+1)<=4611686018427387904->
  Calls y_ 185 #[.int .i64 x,.int .i64 deep,.pointer (some ⟨lq,0,none⟩),.pointer (some ⟨aG,0,none⟩),.pointer (some ⟨lX,0,none⟩)] W (Gk base W G hs cb s lq aG lX bm m x (24^(p+1))):=by
 intro p
 induction p using Nat.strongRecOn with
 |ind p bc=>?_
 intro x deep W m f hp bd ck cm bD bE;have aF:gU s.c.n x:=by have:=T.lit _ (l5 hp);rw[bd] at this;have:=this.neg;rwa[Int.neg_neg] at this
 have bF:=K3 aF (by omega);obtain⟨Q,aI⟩:∃Q,24^p=Q:=⟨_,rfl⟩
 have bf:24^(p+1)=24*Q:=by rw[Nat.pow_succ,aI,Nat.mul_comm]
 have bG:1<=Q:=by rw[<-aI];exact Nat.pow_pos (by omega)
 rw[bf] at bE⊢;have bc:=U bc;have cn:=U (z_ ck cm);have I:=U bD;have ae:=U T;have cp:=U D;have q:=U (z_ hp (z_ bd (z_ aF (z_ bF (z_ aI (z_ bf (z_ bG bE)))))));obtain⟨v,an⟩:∃v,aH x=v:=⟨_,rfl⟩
 have bH:v<=s.c.n:=by have:=aF.2;omega
 have cq:bI (∀w:World,Calls y_ 97 #[.int .i64 x] w λ e w'=>e=.returned (.int .i64 (v:Int))/\w=w'):=U (λ w=>by have:=sM x w (by unfold aH at an;omega) (by unfold aH at an;omega);rw[an] at this;exact this);have cQ:∀(fn:Fn)(first cap:Array Value)(w:World),(ZW fn first cap).run y_ w=.ok (.func fn first cap) w:=λ _ _ _ _=>rfl
 have aJ:=U (z_ an bH);clear hp bd aF bF aI bf bG bD T D an bH;refine Ba Tryz.func185 rfl ?_;simp only[Tryz.ntmps185,Zf,u_,Z7,ZT,ZS,Zo,Zn,Ze,Zk,Z8,Z5]
 go_upto_region 1 with fail
 have aK:Below W.heap.size W (((W.alloc (.cells #[.int .i64 x] 3)).alloc (.cells #[.int .i64 deep] 3)).alloc (.cells #[.bool false] 4)):=(((j_ _ W).alloc (w_ _) _).alloc (by simp) _).alloc (by simp;omega) _;have kG:aO (((W.alloc (.cells #[.int .i64 x] 3)).alloc (.cells #[.int .i64 deep] 3)).alloc (.cells #[.bool false] 4)) W.heap.size 3 [.int .i64 x]:=((aO.new W 3 [.int .i64 x]).below (bK _ _)).below (bK _ _);have bJ:aO (((W.alloc (.cells #[.int .i64 x] 3)).alloc (.cells #[.int .i64 deep] 3)).alloc (.cells #[.bool false] 4)) (W.heap.size+1) 3 [.int .i64 deep]:=by
  have:=(aO.new (W.alloc (.cells #[.int .i64 x] 3)) 3 [.int .i64 deep]).below (bK _ (.cells #[.bool false] 4));simpa using this
 have lD:aO (((W.alloc (.cells #[.int .i64 x] 3)).alloc (.cells #[.int .i64 deep] 3)).alloc (.cells #[.bool false] 4)) (W.heap.size+1+1) 4 [.bool false]:=by
  have:=aO.new ((W.alloc (.cells #[.int .i64 x] 3)).alloc (.cells #[.int .i64 deep] 3)) 4 [.bool false];simpa using this
 have aL:(((W.alloc (.cells #[.int .i64 x] 3)).alloc (.cells #[.int .i64 deep] 3)).alloc (.cells #[.bool false] 4)).heap.size=W.heap.size+1+1+1:=by simp
 generalize ((W.alloc (.cells #[.int .i64 x] 3)).alloc (.cells #[.int .i64 deep] 3)).alloc (.cells #[.bool false] 4)=V at*;have af:=U (I.o.below aK);have cr:=U (An (some bm) aK);have aM:=U (z_ kG (z_ bJ lD));have ct:V.cell? ⟨lq,0,none⟩=some (.map (some bm)):=af.o.rK.cell 0;have c5:V.cell? ⟨W.heap.size,0,none⟩=some (.int .i64 x):=kG.cell 0;have aP:V.cell? ⟨W.heap.size+1+1,0,none⟩=some (.bool false):=lD.cell 0;have f7:=lD.free 0;have av:=af.o.oL.KY BQ Tryz.underlying114 q.o.2.2.2.1;have bg:=U aK;clear aK kG bJ lD
 cases aw:f x with
 |some b=>
  rw[aw] at av;dsimp only[Option.getD_some,Option.isSome_some] at av;have cu:=U aw;clear aw
  go_wp2_with fail
  have Y:Below W.heap.size W (V.setCell ⟨W.heap.size+1+1,0,none⟩ (.bool b)):=bg.o.setCell (p:=⟨W.heap.size+1+1,0,none⟩) (by simp;omega) _;refine Jp (Gl _ (W.heap.size+1+1) b _ rfl (((aM.o.2.2).set 0 (.bool b)).cell 0)) rfl ?_;exact⟨b,m,f,rfl,λ e=>I.o.snd x (by rw[cu.o,e]),I.o.below Y,An _ Y,by omega⟩
 |none=>
  rw[aw] at av;dsimp only[Option.getD_none,Option.isSome_none] at av;clear aw
  go_upto_region 5 with fail
  have aS:V.cell? ⟨aG,0,none⟩=some (.pointer (some ⟨G,0,none⟩)):=af.o.qc.cell 0;obtain⟨g3,bL,aQ,f3⟩:=af.o.e.lV 4 3 rfl af.o.e.nA (by have:=ae.o.o8;omega);have c3:=af.o.e.yI bL (k:=v) (by have:=ae.o.o8;have:=aJ.o;omega);have cR:(v:Int)<(s.c.j9.length:Int):=by have:=ae.o.o8;have:=aJ.o;omega
  have c6:V.cell? ⟨W.heap.size+1,0,none⟩=some (.int .i64 deep):=aM.o.2.1.cell 0;have bh:=ae.o.p7 p q.o.1;have bM:aH (ai s.c.au p)=v:=by rw[q.o.2.1,oP];exact aJ.o.1
  rw[bM] at bh;obtain⟨pv,B⟩:∃pv:Option Addr,qZ cb (mF s.c.j9 v)=.pointer pv:=by cases mF s.c.j9 v with
   |none=>exact⟨_,rfl⟩
   |some d=>exact⟨_,rfl⟩
  rw[B] at c3;have bN:=U B;clear B;refine f_ 8 (by kernel_rfl) (by kernel_rfl) ?_;simp only[m_,e_,l_,Zx]
  iterate 5 still_step
  still_call ((cq.o _).mono (λ e w' h=>⟨h.1,h.2.symm⟩))
  iterate 2 still_step
  refine Zu ?_;change wpList _ _ _ _ _ V.drew;have bO:=U bh;have bj:Below W.heap.size W V.drew:=bg.o.drew;have aa:=U (show aO V.drew W.heap.size 3 [.int .i64 x]/\aO V.drew (W.heap.size+1) 3 [.int .i64 deep]/\aO V.drew (W.heap.size+1+1) 4 [.bool false] from aM.o);have ay:=U bj;have cv:=U (I.o.below bj);have c5:V.drew.cell? ⟨W.heap.size,0,none⟩=some (.int .i64 x):=c5;have c6:V.drew.cell? ⟨W.heap.size+1,0,none⟩=some (.int .i64 deep):=c6;have aP:V.drew.cell? ⟨W.heap.size+1+1,0,none⟩=some (.bool false):=aP;have f7:V.drew.frozen? ⟨W.heap.size+1+1,0,none⟩=false:=f7;have aL:V.drew.heap.size=W.heap.size+1+1+1:=aL;clear bj bh bM bL f3 aQ aS av ct aM bg af cr c3;have B:=bN.o;clear bN;generalize V.drew=u at*
  cases hw:mF s.c.j9 v with
  |none=>
   rw[hw] at B;clear hw bO;have B:Value.pointer none=.pointer pv:=B;injection B with B
   subst B
   go_wp2_with fail
   have Y:Below W.heap.size W (u.setCell ⟨W.heap.size+1+1,0,none⟩ (.bool false)):=ay.o.setCell (p:=⟨W.heap.size+1+1,0,none⟩) (by simp;omega) _;exact BS (ds:=[]) (yes:=false) (lD:=W.heap.size+1+1) (kG:=W.heap.size) rfl rfl (I.o.below Y) (An _ Y) ⟨Zi,λ D h=>by cases h⟩ (aa.o.2.2.set 0 (.bool false)) (aa.o.1.kept (kK _ _ _ _) (by simp;omega)) q.o.2.2.2.1 (λ e=>by cases e) (by have:=q.o;unfold maxLen;omega) (by have:=q.o;omega)
  |some d=>
   rw[hw] at B;have bP:=U hw;clear hw;have B:Value.pointer (some ⟨cb d,0,none⟩)=.pointer pv:=B;injection B with B
   subst B
   by_cases bQ:1000<deep
   ·have d1:decide (1000<deep)=true:=by simp;omega
    go_wp2_with fail
    have Y:Below W.heap.size W (u.setCell ⟨W.heap.size+1+1,0,none⟩ (.bool false)):=ay.o.setCell (p:=⟨W.heap.size+1+1,0,none⟩) (by simp;omega) _;exact BS (ds:=[]) (yes:=false) (lD:=W.heap.size+1+1) (kG:=W.heap.size) rfl rfl (I.o.below Y) (An _ Y) ⟨Zi,λ D h=>by cases h⟩ (aa.o.2.2.set 0 (.bool false)) (aa.o.1.kept (kK _ _ _ _) (by simp;omega)) q.o.2.2.2.1 (λ e=>by cases e) (by have:=q.o;unfold maxLen;omega) (by have:=q.o;omega)
   ·have d1:decide (1000<deep)=false:=by simp;omega
    have cw:=U bQ;clear bQ
    go_upto_region 8 with fail
    have bR:=bO.o;rw[bP.o] at bR;obtain⟨ag,bk,bS⟩:=bR;have cS:v_.wrap (-x)= -x:=by rw[x_];have:=q.o.2.2.1.2;unfold aH at this;omega
    have cx:=U aL;clear aL
    go_wp2_with (go_at_call 183;refine(Dv _ _ _).mono ?_;rintro e w1 ⟨rfl,rfl⟩;dsimp only)
    have az:Below u.heap.size u ((u.alloc (.cells #[.pointer (some ⟨cb d,0,none⟩)] 164)).alloc (.cells #[.int .i64 (-x)] 3)):=(bK u (.cells #[.pointer (some ⟨cb d,0,none⟩)] 164)).trans ((bK _ (.cells #[.int .i64 (-x)] 3)).mono (by simp));have cy:((u.alloc (.cells #[.pointer (some ⟨cb d,0,none⟩)] 164)).alloc (.cells #[.int .i64 (-x)] 3)).cell? ⟨u.heap.size,0,none⟩=some (.pointer (some ⟨cb d,0,none⟩)):=by go_simp
    have k2:((u.alloc (.cells #[.pointer (some ⟨cb d,0,none⟩)] 164)).alloc (.cells #[.int .i64 (-x)] 3)).cell? ⟨u.heap.size+1,0,none⟩=some (.int .i64 (-x)):=by go_simp
    have cT:((u.alloc (.cells #[.pointer (some ⟨cb d,0,none⟩)] 164)).alloc (.cells #[.int .i64 (-x)] 3)).heap.size=u.heap.size+1+1:=by simp
    have bl:=U (ay.o.trans (az.mono ay.o.size));have bn:=U (z_ (aa.o.1.below az) (z_ (aa.o.2.1.below az) (aa.o.2.2.below az)));clear az aa ay cv;generalize (u.alloc (.cells #[.pointer (some ⟨cb d,0,none⟩)] 164)).alloc (.cells #[.int .i64 (-x)] 3)=ao at*;have aA:=U (I.o.below bl.o);have bT:aU (λ _=>False) base ao G hs cb s:=⟨aA.o.e,⟨λ b h=>h.elim,λ h=>h,λ r b _ h=>h,λ d ag h=>h⟩⟩
    obtain⟨bu,m1,cz,C⟩:=bT.yZ ag (Z9 bk);have bo:=cp.o.mI d ag;have cA:m1<=22:=by have:=bo.len;have:=C.len;omega
    have cU:=(I.o.e.rows.lt C.b).2;have cV:=(I.o.e.cls d ag).lt;have Z:=U (z_ ag (z_ bk (z_ bo (z_ cA (z_ C bS)))));have cB:bI (bu≠bm):=U (λ e=>by
     obtain⟨cs,h1⟩:=sO (aA.o.e.rows.row (kz d)) (g:=bu) (by rw[aq.own];exact C.b);obtain⟨es,cl,J⟩:=aA.o.oL.BR;rw[e,J] at h1;cases h1)
    have K:=U (z_ bl.o.size (z_ I.o.oL.lt cx.o));have bU:∀(st:Bool),OwnFrom ao.heap.size (λ(pre:List Int)(j:World)=>BU W s bm m Q x deep st pre j):=by
     rintro st pre bV bW row ⟨P,ab,h1,J,M,N,R,L,S,O⟩ ah ak;exact⟨P,ab,zb h1 ah (λ r e=>.inl (by have:=(ak r e).1;have:=K.o.1;omega)),J.kept ah (λ e=>by have:=(ak bm e.symm).1;have:=K.o;omega),M,N.kept ah (x3 N (λ r e=>(ak r e).2)),R.kept ah (x3 R (λ r e=>(ak r e).2)),L.kept ah (x3 L (λ r e=>(ak r e).2)),S,O⟩
    have bp:=U bU;clear ag bk bo bU bS bT;refine(wpIn_wide (n:=6)).1 ?_;refine A9 (F:=Zw) (w0:=ao) rfl (by omega) (gf:=224) (lb:= #[.pointer (some ⟨u.heap.size,0,none⟩),.pointer (some ⟨u.heap.size+1,0,none⟩)]) rfl trivial Du
     (Dw (6-1) (by omega) u.heap.size (u.heap.size+1) (cb d) bu m1 cz (ax s.c.cl d) (-x) C.len (by omega) ao cy k2 C.ag C.kB (by omega) (by omega) (by have:=K.o;omega) (by have:=K.o;omega))
     (λ h k=>h.trans k) (λ V l o cW hl an bX _=>⟨λ v bq=>(t_ (w:=V) (b_ (by show u.heap.size+1≠l;omega))).trans bq,λ k v _ bq=>(t_ (w:=V) (b_ (by show bu≠l;have:=K.o;omega))).trans bq⟩) (j_ _ _) (λ _=>rfl)
     (λ(pre:List Int)(j:World)=>BU W s bm m Q x deep true pre j)
     (λ c pre j=>K4 W s bm m Q x deep c pre j)
     (bp.o true) (λ c pre bV bW row h ah ak=>⟨h.1,bp.o false pre bV bW row h.2 ah ak⟩) ⟨m,f,An _ bl.o,aA.o.oL,aA.o.snd,bn.o.1,bn.o.2.1,bn.o.2.2,λ _ y h=>absurd h List.not_mem_nil,by simp⟩
     ?a1 ?w1 ?assign ?kw1 ?body ?done ?stop
    case assign=>
     intro l pre y j cX aR aT cC
     gi_wp2
     exact cC
    case kw1=>
     intro pre y j aR;exact⟨Zj _ _,pQ.refl _ _ _ _⟩
    case body=>
     rintro l pre y bY j aR ⟨o,cD,bZ,bX,b0,b1⟩ aT cY;have cE:=bp.o true _ _ _ _ aR (show bY.grownBy j (some (ao.heap.size+1)) by rw[bZ];exact grownBy_putObj' bY (ao.heap.size+1) o) (λ r e=>by cases e;exact⟨by omega,cD,b0,b1⟩);clear aR bZ bX b0 b1;obtain⟨P,ab,h1,J,M,N,R,L,S,O⟩:=cE;have b2:y∈others (ax s.c.cl d) (-x):=aT.subset (by simp);obtain⟨br,b3⟩:=List.mem_filter.1 b2;have aB:gU s.c.n y:=Z.o.2.2.1.lt y br;have b4:=Z.o.2.2.2.2.2 y br (by rw[q.o.2.1];simpa using b3);obtain⟨aV,b5,b6,b7⟩:=pU.1 b4;obtain⟨ad,aC⟩:∃v,aH y=v:=⟨_,rfl⟩
     have b8:ad<=s.c.n:=by have:=aB.2;omega
     have bs:bI (∀w:World,Calls y_ 97 #[.int .i64 y] w λ e w'=>e=.returned (.int .i64 (ad:Int))/\w=w'):=U (λ w=>by have:=sM y w (by unfold aH at aC;omega) (by unfold aH at aC;omega);rw[aC] at this;exact this);have hlen:pre.length+1<=22:=by
      have aD:=aT.length_le;have aW:(others (ax s.c.cl d) (-x)).length<=(ax s.c.cl d).length:=Zq _ _;have aQ:=Z.o.2.2.2.2.1.len;have b9:=Z.o.2.2.2.1;rw[q_,p_] at aD;omega
     have A:=I.o.put h1 J M;obtain⟨g12,b',cZ,f12⟩:=A.e.lV 16 12 rfl A.e.n12 (by omega);have c12:=A.e.zY b' (k:=ad) (by omega);obtain⟨g2,ca,aW,f2⟩:=A.e.lV 3 2 rfl A.e.mb (by have:=ae.o.pM;omega);have c2:=A.e.vV ca (k:=ad) (by have:=ae.o.pM;omega);have c7:(ad:Int)<(s.aN.length:Int):=by omega
     have c8:(ad:Int)<(s.c.lvl.length:Int):=by have:=ae.o.pM;omega
     have da:j.cell? ⟨aG,0,none⟩=some (.pointer (some ⟨G,0,none⟩)):=A.qc.cell 0;have db:j.cell? ⟨lX,0,none⟩=some (.func (.func 185) #[] #[.pointer (some ⟨lq,0,none⟩),.pointer (some ⟨aG,0,none⟩),.pointer (some ⟨lX,0,none⟩)]):=A.tV.cell 0;have dc:j.cell? ⟨W.heap.size+1,0,none⟩=some (.int .i64 deep):=R.cell 0;have wd:v_.wrap (deep+1)=deep+1:=by rw[x_];omega
     obtain⟨ar,bt⟩:∃l,gQ s.c.lvl ad=l:=⟨_,rfl⟩
     obtain⟨cc,bw⟩:∃b,jE s.aN ad=b:=⟨_,rfl⟩
     rw[bt] at c2;rw[bw] at c12;have hmul:(pre.length+1)*Q<=22*Q:=Zm Q hlen;have aX:(pre.length+1)*Q=pre.length*Q+Q:=Nat.succ_mul _ _;obtain⟨cd,bx⟩:∃cd,pre.length*Q=cd:=⟨_,rfl⟩
     rw[bx] at O aX;rw[aX] at hmul;have i:=U (z_ h1 (z_ J (z_ M (z_ N (z_ R (z_ L (z_ S O)))))));have X:=U (z_ aB (z_ aC (z_ b8 (z_ hlen (z_ bt (z_ bw (z_ b5 (z_ b6 (z_ b7 (z_ hmul (z_ aX bx)))))))))));have A:=U A;have bz:bI (P+24^(aV+1)<=4611686018427387904/\24^(aV+1)<=Q):=U (by
      have aD:24^(aV+1)<=24^p:=Nat.pow_le_pow_right (by omega) (by omega);rw[q.o.2.2.2.2.1] at aD;have aW:=q.o.2.2.2.2.2.2.2;exact⟨by omega,aD⟩)
     have bA:bI (∀(aY:Nat)(aZ:Int->Option Bool)(al:World),W.grownBy al (some bm)->mV 4 tC al bm aY aZ->(∀y,aZ y=some true->rm s.c s.aN y)->aO al W.heap.size 3 [.int .i64 x]->aO al (W.heap.size+1) 3 [.int .i64 deep]->aO al (W.heap.size+1+1) 4 [.bool false]->(cc=false->ar≠0->rm s.c s.aN y)->aY<=P+Q->
       BU W s bm m Q x deep true (pre++[y]) al):=U (λ aY aZ al a1 a2 a3 a4 a5 cF cG dd=>⟨aY,aZ,a1,a2,a3,a4,a5,cF,λ _ z cH a6 a7=>(h_.1 cH).elim (λ h=>i.o.2.2.2.2.2.2.1 rfl z h a6 a7) (λ h=>by
        rw[o_] at h;subst h;exact cG (by rw[<-X.o.2.2.2.2.2.1,<-X.o.2.1];exact a6) (by rw[<-X.o.2.2.2.2.1,<-X.o.2.1];exact a7)),by rw[q_,p_,X.o.2.2.2.2.2.2.2.2.2.2.1];have:=i.o.2.2.2.2.2.2.2;omega⟩)
     clear h1 J M N R L S O aB aC b8 hlen bt bw b5 b6 b7 hmul aX bx b2 br b3 b4 b' ca f12 f2 aT
     cases cc with
     |true=>
      gi_wp2_with (refine⟨trivial,?_⟩;gi_at_call 97;refine(r_ l (i_.2 (bs.o _))).mono ?_;rintro e w1 ⟨rfl,rfl⟩)
      refine⟨λ _ h=>(by cases h),?_⟩
      gi_wp2
      exact⟨Zj _ _,pQ.refl _ _ _ _,bA.o P ab j i.o.1 i.o.2.1 i.o.2.2.1 i.o.2.2.2.1 i.o.2.2.2.2.1 i.o.2.2.2.2.2.1 (λ h=>by cases h) (by omega)⟩
     |false=>
      by_cases aB:0<ar
      ·have d1:decide ((0:Int)<(ar:Int))=true:=by simp;omega
       have cI:(0:Int)<(ar:Int):=by omega
       have cf:=bc.o aV X.o.2.2.2.2.2.2.1 y (deep+1) j P ab (by have:=X.o.2.2.2.2.2.2.2.1;exact this) X.o.2.2.2.2.2.2.2.2.1 (by have:=cn.o;omega) (by have:=cw.o;omega) A.o bz.o.1
       gi_wp2_with (refine⟨trivial,?_⟩;gi_at_call 97;refine(r_ l (i_.2 (bs.o _))).mono ?_;rintro e w1 ⟨rfl,rfl⟩)
       refine⟨trivial,?_⟩
       gi_at_call 185
       refine(r_ l (i_.2 cf)).mono ?_;clear cf;rintro e w1 ⟨b,m2,cg,rfl,a8,a',ba,bb⟩;dsimp only
       cases b with
       |true=>
        have t:=U (z_ a8 (z_ a' (z_ ba bb)));clear a8 a' ba bb
        gi_wp2
        exact⟨ZV t.o.2.2.1 (λ r e=>by cases e;have:=K.o;omega),pQ.yS t.o.2.2.1 (λ e=>by injection e with e;have:=K.o;omega) (λ e=>by injection e with e;exact cB.o e),bA.o m2 cg w1 (zb i.o.1 t.o.2.2.1 (λ r e=>by cases e;exact .inr rfl)) t.o.2.1.oL t.o.2.1.snd (A.o.box t.o.2.2.1 i.o.2.2.2.1) (A.o.box t.o.2.2.1 i.o.2.2.2.2.1) (A.o.box t.o.2.2.1 i.o.2.2.2.2.2.1) (λ _ _=>t.o.1 trivial) (by have:=t.o.2.2.2;have:=bz.o.2;omega)⟩
       |false=>
        have t:=U (z_ a8 (z_ a' (z_ ba bb)));clear a8 a' ba bb;have bB:=U (A.o.box t.o.2.2.1 i.o.2.2.2.2.2.1);have aP:w1.cell? ⟨W.heap.size+1+1,0,none⟩=some (.bool false):=bB.o.cell 0;have f7:w1.frozen? ⟨W.heap.size+1+1,0,none⟩=false:=bB.o.free 0
        gi_wp2
        refine⟨(ZV t.o.2.2.1 (λ r e=>by cases e;have:=K.o;omega)).trans ((KeepsOthers.setCell _ _ _).from _),rfl,m2,cg,zb (zb i.o.1 t.o.2.2.1 (λ r e=>by cases e;exact .inr rfl)) (kK _ _ _ _) (λ r e=>by cases e;exact .inl (by omega)),t.o.2.1.oL.setCell (λ e=>by have:=K.o;simp at e;omega) _,t.o.2.1.snd,(A.o.box t.o.2.2.1 i.o.2.2.2.1).kept (kK _ _ _ _) (by simp;omega),(A.o.box t.o.2.2.1 i.o.2.2.2.2.1).kept (kK _ _ _ _) (by simp),bB.o.set 0 (.bool false),(λ h=>absurd h (by decide)),?_⟩;rw[q_,p_,X.o.2.2.2.2.2.2.2.2.2.2.1];have:=t.o.2.2.2;have:=bz.o.2;have:=i.o.2.2.2.2.2.2.2;omega
      ·have d1:decide ((0:Int)<(ar:Int))=false:=by simp;omega
       have cI:¬(0:Int)<(ar:Int):=by omega
       gi_wp2_with (refine⟨trivial,?_⟩;gi_at_call 97;refine(r_ l (i_.2 (bs.o _))).mono ?_;rintro e w1 ⟨rfl,rfl⟩)
       refine⟨λ _ h=>(by cases h),?_⟩
       gi_wp2
       exact⟨Zj _ _,pQ.refl _ _ _ _,bA.o P ab j i.o.1 i.o.2.1 i.o.2.2.1 i.o.2.2.2.1 i.o.2.2.2.2.1 i.o.2.2.2.2.2.1 (λ _ h=>absurd (Nat.pos_of_ne_zero h) aB) (by omega)⟩
    case done=>
     rintro D ys j cJ rfl ⟨P,ab,h1,J,M,N,R,L,S,O⟩ aE;have hlen:(others (ax s.c.cl d) (-x)).length<=22:=by
      have aW:(others (ax s.c.cl d) (-x)).length<=(ax s.c.cl d).length:=Zq _ _;have aQ:=Z.o.2.2.2.2.1.len;have b9:=Z.o.2.2.2.1;omega
     have hmul:(others (ax s.c.cl d) (-x)).length*Q<=22*Q:=Zm Q hlen;have ch:rm s.c s.aN x:=rm.mk x d (by rw[aJ.o.1];exact bP.o) (λ y cK cL a6 a7=>S rfl y (List.mem_filter.2 ⟨cK,by simpa using cL⟩) a6 a7);have aP:j.cell? ⟨W.heap.size+1+1,0,none⟩=some (.bool false):=L.cell 0;have f7:j.frozen? ⟨W.heap.size+1+1,0,none⟩=false:=L.free 0;have H:=U (z_ h1 (z_ J (z_ M (z_ N (z_ L (z_ O (z_ hmul (z_ ch aE))))))));clear h1 J M N R L S O hmul ch aE hlen
     gi_wp2
     go_wp2_with fail
     have cj:W.grownBy (j.setCell ⟨W.heap.size+1+1,0,none⟩ (.bool true)) (some bm):=zb H.o.1 (kK _ _ _ _) (λ r e=>by cases e;exact .inl (by omega));have cM:mV 4 tC (j.setCell ⟨W.heap.size+1+1,0,none⟩ (.bool true)) bm P ab:=H.o.2.1.setCell (λ e=>by have:=K.o;simp at e;omega) _;exact BS (ds:=[D]) (yes:=true) (lD:=W.heap.size+1+1) (kG:=W.heap.size) rfl rfl (I.o.put cj cM H.o.2.2.1) cj ⟨by simp,λ E bC=>by
      obtain rfl:=o_.1 bC;refine⟨by have:=K.o;omega,?_⟩;exact((kK j (W.heap.size+1+1) 0 (.bool true)).block E (Array.getElem?_eq_some_iff.1 H.o.2.2.2.2.2.2.2.2).1 (λ e=>by have:=K.o;injection e with e;omega)).trans H.o.2.2.2.2.2.2.2.2⟩ (H.o.2.2.2.2.1.set 0 (.bool true)) (H.o.2.2.2.1.kept (kK _ _ _ _) (by simp;omega)) q.o.2.2.2.1 (λ _=>H.o.2.2.2.2.2.2.2.1) (by have:=q.o.2.2.2.2.2.2;have:=H.o.2.2.2.2.2.1;have:=H.o.2.2.2.2.2.2.1;unfold maxLen;omega) (by have:=q.o.2.2.2.2.2.2;have:=H.o.2.2.2.2.2.1;have:=H.o.2.2.2.2.2.2.1;omega)
    case stop=>
     rintro D de pre j cJ cN ⟨rfl,P,ab,h1,J,M,N,R,L,S,O⟩ aE;have hlen:pre.length<=22:=by
      have aD:=cN.length_le;have aW:(others (ax s.c.cl d) (-x)).length<=(ax s.c.cl d).length:=Zq _ _;have aQ:=Z.o.2.2.2.2.1.len;have b9:=Z.o.2.2.2.1;omega
     have hmul:pre.length*Q<=22*Q:=Zm Q hlen;have H:=U (z_ h1 (z_ J (z_ M (z_ N (z_ L (z_ O (z_ hmul aE)))))));clear h1 J M N R L S O hmul aE hlen
     gi_wp2
     exact BS (ds:=[D]) (yes:=false) (lD:=W.heap.size+1+1) (kG:=W.heap.size) rfl rfl (I.o.put H.o.1 H.o.2.1 H.o.2.2.1) H.o.1 ⟨by simp,λ E bC=>by
      obtain rfl:=o_.1 bC;exact⟨by have:=K.o;omega,H.o.2.2.2.2.2.2.2⟩⟩ H.o.2.2.2.2.1 H.o.2.2.2.1 q.o.2.2.2.1 (λ e=>by cases e) (by have:=q.o.2.2.2.2.2.2;have:=H.o.2.2.2.2.2.1;have:=H.o.2.2.2.2.2.2.1;unfold maxLen;omega) (by have:=q.o.2.2.2.2.2.2;have:=H.o.2.2.2.2.2.1;have:=H.o.2.2.2.2.2.2.1;omega)
end
section
open Go.RowKit Go.Shelf
noncomputable def K6:Code:=(Tryz.f146.body.bind λ c=>qu c 6).getD .skip
theorem lI.blk{w:World}(h:lI K base w W G hs cb s ls X){r B:Nat}{v:Value}(hl:ls r=oD B)(d:X r=[v]):aO W B (xW r) [v]:=by
 have h1:=h.rows.row r;rw[hl,d] at h1;rcases h1.2 with⟨c,_⟩|⟨g,cap,cur,c,_,e,_,_,f,i⟩
 ·cases c
 ·simp only[oD,aq.v] at c;injection c with b l j
  injection b with b
  injection b with b
  subst b;subst j;have:cur= #[v]:=by
   apply Array.toList_inj.1;have k:cur.toList.length=1:=by simpa using f
   rw[<-i,a_ (by rw[k];simp[oD])]
  show W.heap[B]? =_;rw[e,this]
structure q6(K:Nat->Prop)(base:Nat)(w W:World)(G:Nat)(hs:Nat->aq)(cb:Nat->Nat)(s:aj)(aG bH bJ dm bf lq lX bm m:Nat)(f:Int->Option Bool)(out mk:List Int)(op:Int)(ig:aq)(iI:List Value)(r:List Int)(ds:List Nat)(ls:Nat->aq)(X:Nat->List Value):Prop where
 aI:kN K base w W G hs cb s aG bH bJ dm bf out mk op ig iI ls X
 sr:ls 7=oD lq
 jx:X 7=[.map (some bm)]
 BV:ls 8=oD lX
 BW:X 8=[.func (.func 185) #[] #[.pointer (some ⟨lq,0,none⟩),.pointer (some ⟨aG,0,none⟩),.pointer (some ⟨lX,0,none⟩)]]
 uD:X 9=gX r
 oL:mV 4 tC W bm m f
 snd:∀y,f y=some true->rm s.c s.aN y
 BX:w.heap.size<=bm
 ms:pF w.heap.size W ds
section
variable {K:Nat->Prop}{base:Nat}{w W W' rF:World}{G:Nat}{hs:Nat->aq}{cb:Nat->Nat}{s:aj}{aG bH bJ dm bf lq lX bm m:Nat}{f:Int->Option Bool}{out mk:List Int}{op:Int}{ig:aq}{iI:List Value}{r:List Int}{ds:List Nat}{ls:Nat->aq}{X:Nat->List Value}
theorem q6.tV(h:q6 K base w W G hs cb s aG bH bJ dm bf lq lX bm m f out mk op ig iI r ds ls X):sw base W G hs cb s lq aG lX bm m f:=
 ⟨h.aI.gw.gz.e,h.aI.gw.blk h.sr h.jx,h.aI.gw.blk h.aI.qb h.aI.gI,h.aI.gw.blk h.BV h.BW,h.oL,h.snd⟩
theorem q6.put(h:q6 K base w W G hs cb s aG bH bJ dm bf lq lX bm m f out mk op ig iI r ds ls X){mz:Nat}{ot:Int->Option Bool}(b:W.grownBy W' (some bm))(hm:mV 4 tC W' bm mz ot)(hs':∀y,ot y=some true->rm s.c s.aN y):q6 K base w W' G hs cb s aG bH bJ dm bf lq lX bm mz ot out mk op ig iI r ds ls X:=by
 obtain⟨es,cl,h1⟩:=h.oL.BR;refine⟨h.aI.vc (h.aI.gw.tW b (λ r e=>by cases e;exact⟨h.BX,_,h1,rfl⟩)),h.sr,h.jx,h.BV,h.BW,h.uD,hm,hs',h.BX,h.ms.kept b (λ D d e=>?_)⟩;injection e with e
 subst e;rw[(h.ms.kB D d).2] at h1;cases h1
theorem q6.grow(h:q6 K base w W G hs cb s aG bH bJ dm bf lq lX bm m f out mk op ig iI r ds ls X)(b:Below W.heap.size W W'):q6 K base w W' G hs cb s aG bH bJ dm bf lq lX bm m f out mk op ig iI r ds ls X:=
 ⟨h.aI.grow b,h.sr,h.jx,h.BV,h.BW,h.uD,h.oL.below b h.oL.lt,h.snd,h.BX,h.ms.below b⟩
theorem q6.jJ(h:q6 K base w W G hs cb s aG bH bJ dm bf lq lX bm m f out mk op ig iI r ds ls X):(ls 9).n=r.length:=by have:=h.aI.gw.rows.len 9;rw[h.uD] at this;simpa[gX] using this.symm
theorem q6.app(h:q6 K base w W G hs cb s aG bH bJ dm bf lq lX bm m f out mk op ig iI r ds ls X){x:Int}{v':Value}(d:oa W w.heap.size 3 (ls 9).v ((ls 9).n+1) ((r++[x]).map (Zt .i64)) v' rF):
  ∃A' c' b i,v'=.slice A' ((ls 9).n+1) c'/\b 9=⟨A',(ls 9).n+1,c'⟩/\b 5=ls 5/\q6 K base w rF G hs cb s aG bH bJ dm bf lq lX bm m f out mk op ig iI (r++[x]) ds b i:=by
 obtain⟨⟨A',j,c'⟩,rfl,c,p,k,l⟩:=h.aI.gw.app (r:=9) rfl d;have c:j=(ls 9).n+1:=c;subst c;obtain⟨es,cl,h1⟩:=h.oL.BR;have o:=d.2.1;refine⟨A',c',_,_,rfl,jH _ _ _,aX _ _ (by omega),⟨⟨k,?_,?_,?_,?_,?_,?_,?_,?_,?_,?_,?_,?_,?_,?_⟩,?_,?_,?_,?_,jH _ _ _,h.oL.kept o (λ e=>?_),h.snd,h.BX,h.ms.others l⟩⟩
 all_goals first|(rw[aX _ _ (by omega)];first|exact h.aI.qb|exact h.aI.gI|exact h.aI.jm|exact h.aI.jj|exact h.aI.kr|exact h.aI.iV|exact h.aI.pH|exact h.aI.jt|exact h.aI.rX|exact h.aI.jv|exact h.aI.tA|exact h.aI.vb|exact h.sr|exact h.jx|exact h.BV|exact h.BW)|skip
 ·rw[aX _ _ (by omega),aX _ _ (by omega)];exact h.aI.iL
 ·rw[aX _ _ (by omega),aX _ _ (by omega)];exact h.aI.jk
 ·obtain⟨cs,g⟩:=sO (h.aI.gw.rows.row 9) e.symm;rw[h1] at g;cases g
end
theorem K7{w:World}{bf:Nat}{u:Int}{go od co:Nat}{nh:Option Addr}{jw c0 K8:Nat}
  (C:vF F Fd aF n h kD) (H:q6 K base w W G hs cb s aG bH bJ dm bf lq lX bm 0 f (u::aL) mk op ig iI [u] ds ls X) (q:ls 5=⟨some ⟨go,0,none⟩,od+1,co⟩) (t:ls 9=⟨l7,jw,c0⟩) (T:aL.length=od) (a6:od<=20) (Y:s.c=aF.c) (Z:s.aN=aN) (aa:aN.length=n+1) (ab:∀x∈aL,-x∈aF.c.au) (A:0<od->nh=some ⟨go,1,none⟩)
  (ad:∀(m:Nat)(f:Int->Option Bool)(r:List Int)(d:Option Addr)(jJ c9:Nat)(ls:Nat->aq)(X:Nat->List Value)(j8 gA kP gG gq dn aD aE u16 dr dw dx gh dy dz dA dB dD dF dG dH cu cv cw u32 cz cA cB cC cD cE cF cG cH cI cK dI dJ gO gM gN bx bz bA bB bC bD bE bF bG bL bM bN bO bP bQ u64 bR bS bT bU bV bW bX bY bZ b5 b6 b7 b8 b9 cc cg ck cm cn cp cr dK dL dM dN dO dP dQ dR cL cM cN cO cQ cR cS cT cU cV cW cZ c7 c8 dc de dh dS dU dV dW dX dY dZ ec ee ef ei ej ek en eo ep er eu ew ey ez eA eB eC eD eE eF eG eH eL aH aJ aK eM eN eO eP eR eS eT eU eV eW eX eY gm gn gp eZ e3 e4 e5 e6 e7 e8 e9 fc fe ff fh fk fm fo fq fu fA fB fC fD fE fF fG fH fI fJ fK fL fM fN fO fP fQ fR fS gu gv fT fU fV fW fZ ga gb:Value)(W':World),q6 K base w W' G hs cb s aG bH bJ dm bf lq lX bm m f (u::aL) mk op ig iI (u::r) ds ls X->ls 9=⟨d,jJ,c9⟩->r.Sublist aL->(∀x∈aL,x∈r\/rm aF.c aN x)->Q (.exit 6) {tmps:= #[.pointer (some ⟨G,0,none⟩),j8,.pointer (some ⟨aG,0,none⟩),gA,.pointer (some ⟨bH,0,none⟩),.int .i64 0,.pointer (some ⟨bJ,0,none⟩),.pointer (some ⟨bf,0,none⟩),.pointer (some ⟨dm,0,none⟩),kP,gG,gq,dn,aD,aE,.slice d jJ c9,u16,dr,dw,dx,gh,dy,dz,dA,dB,dD,dF,dG,dH,cu,cv,cw,u32,cz,cA,cB,cC,cD,cE,cF,cG,cH,cI,cK,dI,dJ,gO,gM,gN,bx,bz,bA,bB,bC,bD,bE,bF,bG,bL,bM,bN,bO,bP,bQ,u64,bR,bS,bT,bU,bV,bW,bX,bY,bZ,b5,b6,b7,b8,b9,cc,cg,ck,cm,cn,cp,cr,dK,dL,dM,dN,dO,dP,dQ,dR,cL,cM,cN,cO,cQ,cR,cS,cT,cU,cV,cW,cZ,c7,c8,dc,de,dh,dS,dU,dV,dW,dX,dY,dZ,ec,ee,ef,ei,ej,ek,en,eo,ep,er,eu,ew,ey,ez,eA,eB,eC,eD,eE,eF,eG,eH,eL,aH,aJ,aK,eM,eN,eO,eP,eR,eS,eT,eU,eV,eW,eX,eY,gm,gn,gp,eZ,e3,e4,e5,e6,e7,e8,e9,fc,fe,ff,fh,fk,fm,fo,fq,fu,fA,fB,fC,fD,fE,fF,fG,fH,fI,fJ,fK,fL,fM,fN,fO,fP,fQ,fR,fS,gu,gv,fT,fU,fV,fW,fZ,ga,gb],defers:=ds.map oO} W'):
  Zr y_ K6 Q {tmps:= #[.pointer (some ⟨G,0,none⟩),j8,.pointer (some ⟨aG,0,none⟩),gA,.pointer (some ⟨bH,0,none⟩),.int .i64 0,.pointer (some ⟨bJ,0,none⟩),.pointer (some ⟨bf,0,none⟩),.pointer (some ⟨dm,0,none⟩),kP,gG,gq,dn,.pointer (some ⟨lq,0,none⟩),.pointer (some ⟨lX,0,none⟩),.slice l7 jw c0,u16,dr,dw,dx,gh,dy,dz,dA,dB,dD,dF,dG,dH,cu,cv,cw,u32,cz,cA,cB,cC,cD,cE,cF,cG,cH,cI,cK,dI,dJ,gO,gM,gN,bx,bz,bA,bB,bC,bD,bE,bF,bG,bL,bM,bN,bO,bP,bQ,u64,bR,bS,bT,bU,bV,bW,bX,bY,bZ,b5,b6,b7,b8,b9,cc,cg,ck,cm,cn,cp,cr,dK,dL,dM,dN,dO,dP,dQ,dR,cL,cM,cN,cO,cQ,cR,cS,cT,cU,cV,cW,cZ,c7,c8,dc,de,dh,dS,dU,dV,dW,dX,dY,dZ,ec,ee,ef,ei,ej,ek,en,eo,ep,er,eu,ew,ey,ez,eA,eB,eC,eD,eE,eF,eG,eH,eL,.slice nh od K8,.int .i64 (od:Int),.int .i64 0,eM,eN,eO,eP,eR,eS,eT,eU,eV,eW,eX,eY,gm,gn,gp,eZ,e3,e4,e5,e6,e7,e8,e9,fc,fe,ff,fh,fk,fm,fo,fq,fu,fA,fB,fC,fD,fE,fF,fG,fH,fI,fJ,fK,fL,fM,fN,fO,fP,fQ,fR,fS,gu,gv,fT,fU,fV,fW,fZ,ga,gb],defers:=ds.map oO} W:=by
 have aM:=U ad;have i:=U C;have aO:=U H;have V:=U (z_ q (z_ t (z_ T (z_ Y (z_ Z (z_ aa ab))))));have aP:=U A;clear C H ad q t T Y Z aa ab A
 conv=>arg 2;whnf
 dsimp only
 go_loopw [15,143] (λ aR N W'=>∃(k m:Nat)(f:Int->Option Bool)(r:List Int)(d:Option Addr)(jJ c9:Nat)(ls:Nat->aq)(X:Nat->List Value),aR=.slice d jJ c9/\N=.int .i64 (k:Int)/\k<=od/\q6 K base w W' G hs cb s aG bH bJ dm bf lq lX bm m f (u::aL) mk op ig iI (u::r) ds ls X/\ls 9=⟨d,jJ,c9⟩/\ls 5=⟨some ⟨go,0,none⟩,od+1,co⟩/\r.Sublist (aL.take k)/\(∀x∈aL.take k,x∈r\/rm aF.c aN x)/\m<=k*63403380965376) (λ _ N _=>od-(intOf N).toNat)
 case atStart=>exact⟨0,0,f,[],l7,jw,c0,ls,X,rfl,rfl,Nat.zero_le _,aO.o,V.o.2.1,V.o.1,by simp,λ x B=>by simp at B,w_ _⟩
 case round=>
  obtain⟨k,m,f,r,d,jJ,c9,ls,X,rfl,rfl,hk,ae,t,q,af,B,hm⟩:=hrel;have L:=U ae;have D:=U (z_ hk (z_ t (z_ q (z_ af (z_ B hm)))));clear hk t q af B hm ae
  by_cases E:k<od
  ·have aS:(k:Int)<(od:Int):=by omega
   have A:=aP.o (by omega);subst A;obtain⟨x,I⟩:∃x,ai aL k=x:=⟨_,rfl⟩
   have v:k<aL.length:=by rw[V.o.2.2.1];exact E
   have ag:x∈aL:=by rw[<-I];exact l5 v
   have aT:wr.cell? ⟨go,1+k,none⟩=some (.int .i64 x):=by
    refine(L.o.aI.gw.kB (r:=5) (g:=go) (by rw[D.o.2.2.1];rfl) (k:=1+k) ?_).1;rw[L.o.aI.jj];unfold gX;rw[ZU,Nat.add_comm,List.getElem?_cons_succ,Zd,n_ v,<-I,ny v];rfl
   have aU:wr.cell? ⟨lX,0,none⟩=some (.func (.func 185) #[] #[.pointer (some ⟨lq,0,none⟩),.pointer (some ⟨aG,0,none⟩),.pointer (some ⟨lX,0,none⟩)]):=L.o.tV.tV.cell 0;obtain⟨p,hp,ah⟩:=qj.1 (V.o.2.2.2.2.2.2 x ag);have ak:=i.o.gK.aL.len;rw[i.o.jh] at ak;have al:24^(p+1)<=63403380965376:=ZN (Nat.pow_le_pow_right (by omega) (show p+1<=10 by have:=i.o.n10;omega)) (by decide);have an:=K5 (base:=base) (G:=G) (hs:=hs) (cb:=cb) (s:=s) (lq:=lq) (aG:=aG) (lX:=lX) (bm:=bm) (F:=F) (Fd:=Fd) (by rw[V.o.2.2.2.1];exact i.o.gK.aL) (by rw[V.o.2.2.2.1];exact i.o.gK.jK) (by rw[V.o.2.2.2.1,i.o.jh];exact i.o.n10) (by rw[V.o.2.2.2.2.1,V.o.2.2.2.2.2.1,V.o.2.2.2.1,i.o.jh]) p x 0 wr m f (by rw[V.o.2.2.2.1];exact hp) (by rw[V.o.2.2.2.1];exact ah) (Int.le_refl _) (by omega) L.o.tV (by have:=D.o.2.2.2.2.2;omega);have j:=U (z_ I (z_ v (z_ al E)));have a7:v_.wrap ((k:Int)+1)=(k:Int)+1:=by rw[x_];omega
   clear I v ag hp ah al E ak
   go_wp2_with fail
   refine an.mono ?_;clear an;rintro e w1 ⟨b,m2,f2,rfl,ao,O,ar,av⟩;dsimp only;have P:=U (L.o.put ar O.oL O.snd);have R:=U (z_ ao av);clear ao O ar av aT aU;have J:bI (aL.take (k+1)=aL.take k++[x]):=U (by rw[yR j.o.2.1,j.o.1])
   cases b with
   |true=>
    go_wp2_with fail
    go_roundw
    case rel=>
     refine⟨k+1,m2,f2,r,d,jJ,c9,ls,X,rfl,by go_num,by have:=j.o;omega,P.o,D.o.2.1,D.o.2.2.1,?_,?_,by have:=R.o.2;have:=j.o.2.2.1;have:=D.o.2.2.2.2.2;omega⟩
     ·rw[J.o];exact D.o.2.2.2.1.trans (List.sublist_append_left _ _)
     ·rw[J.o];intro y S;rcases h_.1 S with h|h
      ·exact D.o.2.2.2.2.1 y h
      ·rw[o_] at h;subst h;have l:=R.o.1 rfl;rw[V.o.2.2.2.1,V.o.2.2.2.2.1] at l;exact .inr l
    case measure=>have:=j.o;simp[intOf];omega
   |false=>
    have M:=U (P.o.grow (bK w1 (mD [x])));have aw:jJ=(u::r).length:=by have:=P.o.jJ;rw[D.o.2.1] at this;exact this
    have ax:r.length<=20:=by have h1:=D.o.2.2.2.1.length_le;rw[List.length_take] at h1;omega
    have aV:bI ((w1.alloc (mD [x])).ownsRow w.heap.size 3 1 (.slice d jJ c9) jJ ((u::r).map (Zt .i64))):=U (by have:=M.o.aI.gw.rows.row 9;rw[D.o.2.1,M.o.uD] at this;exact this);have aW:=U (aQ.lit w1 [x] 1 w1.heap.size rfl rfl (by omega));have aX:=U (z_ aw ax);clear aw ax
    go_wp2_with (at_builtin;refine vq rfl (.tmp 151) (.tmp 153) rfl w.heap.size (.slice d jJ c9) jJ (u::r) rfl aV.o (some ⟨w1.heap.size,0,none⟩) 1 1 [x] rfl aW.o (by have:=aX.o;simp at this;omega) M.o.aI.gw.iP.size ?_;intro v9 di ay;obtain⟨A',c',aY,aZ,rfl,az,aA,z⟩:=M.o.app (x:=x) (v':=v9) (by rw[D.o.2.1];exact ay);have z:=U (z_ z (z_ az aA));clear ay az aA)
    go_roundw
    case rel=>
     refine⟨k+1,m2,f2,r++[x],A',_,c',aY,aZ,rfl,by go_num,by have:=j.o;omega,z.o.1,z.o.2.1,by rw[z.o.2.2];exact D.o.2.2.1,?_,?_,by have:=R.o.2;have:=j.o.2.2.1;have:=D.o.2.2.2.2.2;omega⟩
     ·rw[J.o];exact D.o.2.2.2.1.append (List.Sublist.refl _)
     ·rw[J.o];intro y S;rcases h_.1 S with h|h
      ·rcases D.o.2.2.2.2.1 y h with l|l
       ·exact .inl (h_.2 (.inl l))
       ·exact .inr l
      ·exact .inl (h_.2 (.inr h))
    case measure=>have:=j.o;simp[intOf];omega
  ·have aS:¬(k:Int)<(od:Int):=by omega
   have aB:k=od:=by have:=D.o.1;omega
   have aC:=U aB;clear E aB
   go_wp2_with fail
   apply aM.o
   ·exact L.o
   ·exact D.o.2.1
   ·have:=D.o.2.2.2.1;rwa[aC.o,a_ (by rw[V.o.2.2.1];exact w_ _)] at this
   ·have:=D.o.2.2.2.2.1;rwa[aC.o,a_ (by rw[V.o.2.2.1];exact w_ _)] at this
end
section
open Go.RowKit Go.Shelf
noncomputable def K9:Code:=(Tryz.f146.body.bind λ c=>qu c 8).getD .skip
structure sx(K:Nat->Prop)(base:Nat)(w W:World)(G:Nat)(hs:Nat->aq)(cb:Nat->Nat)(s:aj)(aG bH bJ dm bf:Nat)(out mk:List Int)(op:Int)(ig:aq)(iI:List Value)(r:List Int)(ds:List Nat)(ls:Nat->aq)(X:Nat->List Value):Prop where
 aI:kN K base w W G hs cb s aG bH bJ dm bf out mk op ig iI ls X
 uD:X 9=gX r
 ms:pF w.heap.size W ds
theorem sx.grow{K:Nat->Prop}{base:Nat}{w W W':World}{G:Nat}{hs:Nat->aq}{cb:Nat->Nat}{s:aj}{aG bH bJ dm bf:Nat}{out mk:List Int}{op:Int}{ig:aq}{iI:List Value}{r:List Int}{ds:List Nat}{ls:Nat->aq}{X:Nat->List Value}(h:sx K base w W G hs cb s aG bH bJ dm bf out mk op ig iI r ds ls X)(b:Below W.heap.size W W'):sx K base w W' G hs cb s aG bH bJ dm bf out mk op ig iI r ds ls X:=
 ⟨h.aI.grow b,h.uD,h.ms.below b⟩
theorem sx.wS{K:Nat->Prop}{base:Nat}{w W:World}{G:Nat}{hs:Nat->aq}{cb:Nat->Nat}{s:aj}{aG bH bJ dm bf:Nat}{out mk:List Int}{op:Int}{ig:aq}{iI:List Value}{r:List Int}{ds:List Nat}{ls:Nat->aq}{X:Nat->List Value}(h:sx K base w W G hs cb s aG bH bJ dm bf out mk op ig iI r ds ls X){g:Nat}(c:(hs 12).b=some g)(v:Nat)(b:Bool):sx K base w (W.setCell ⟨g,v,none⟩ (.bool b)) G hs cb (s.tr v b) aG bH bJ dm bf out mk op ig iI r ds ls X:=by
 have e:=h.aI.gw.back (h.aI.gw.call.wS c v b).1 (h.aI.gw.call.wS c v b).2;exact⟨h.aI.vc e.1,h.uD,h.ms.others e.2⟩
theorem La{l:List Bool}(hl:l.length=n)(h:∀v,jE l v=false):l=k_ n false:=by
 refine List.ext_getElem (by simp[hl]) (λ k h1 b=>?_);rw[<-Bh h1,h k,List.getElem_replicate]
theorem Lb{w:World}{bf:Nat}{kn:Option Addr}{jT j3:Nat}{iR:Option Addr}{jJ c9:Nat}
  (H:sx K base w W G hs cb s aG bH bJ dm bf out mk op ig iI r ds ls X) (i:ls 6=⟨kn,jT,j3⟩) (ad:jT<=1000) (t:s.aN=aN) (y:∀z:Int,z∈mk↔∃v:Nat,z=v/\jE aN v=true)
  (A:∀(j8 gA kP gG gq dn gT gr u16 dr dw dx gh dy dz dA dB dD dF dG dH cu cv cw u32 cz cA cB cC cD cE cF cG cH cI cK dI dJ gO gM gN bx bz bA bB bC bD bE bF bG bL bM bN bO bP bQ u64 bR bS bT bU bV bW bX bY bZ b5 b6 b7 b8 b9 cc cg ck cm cn cp cr dK dL dM dN dO dP dQ dR cL cM cN cO cQ cR cS cT cU cV cW cZ c7 c8 dc de dh dS dU dV dW dX dY dZ ec ee ef ei ej ek en eo ep er eu ew ey ez eA eB eC eD eE eF eG eH eL gi gj gl eM eN eO eP eR eS eT eU eV eW eX eY O P R eZ e3 e4 e5 e6 e7 e8 e9 fc fe ff fh fk fm fo fq fu fA fB fC fD fE fF fG fH fI fJ fK fL fM fN fO fP fQ fR fS gu gv fT fU fV fW fZ ga gb:Value)(W':World),sx K base w W' G hs cb {s with aN:=k_ aN.length false} aG bH bJ dm bf out mk op ig iI r ds ls X->Q (.exit 8) {tmps:= #[.pointer (some ⟨G,0,none⟩),j8,.pointer (some ⟨aG,0,none⟩),gA,.pointer (some ⟨bH,0,none⟩),.int .i64 0,.pointer (some ⟨bJ,0,none⟩),.pointer (some ⟨bf,0,none⟩),.pointer (some ⟨dm,0,none⟩),kP,gG,gq,dn,gT,gr,.slice iR jJ c9,u16,dr,dw,dx,gh,dy,dz,dA,dB,dD,dF,dG,dH,cu,cv,cw,u32,cz,cA,cB,cC,cD,cE,cF,cG,cH,cI,cK,dI,dJ,gO,gM,gN,bx,bz,bA,bB,bC,bD,bE,bF,bG,bL,bM,bN,bO,bP,bQ,u64,bR,bS,bT,bU,bV,bW,bX,bY,bZ,b5,b6,b7,b8,b9,cc,cg,ck,cm,cn,cp,cr,dK,dL,dM,dN,dO,dP,dQ,dR,cL,cM,cN,cO,cQ,cR,cS,cT,cU,cV,cW,cZ,c7,c8,dc,de,dh,dS,dU,dV,dW,dX,dY,dZ,ec,ee,ef,ei,ej,ek,en,eo,ep,er,eu,ew,ey,ez,eA,eB,eC,eD,eE,eF,eG,eH,eL,gi,gj,gl,eM,eN,eO,eP,eR,eS,eT,eU,eV,eW,eX,eY,O,P,R,eZ,e3,e4,e5,e6,e7,e8,e9,fc,fe,ff,fh,fk,fm,fo,fq,fu,fA,fB,fC,fD,fE,fF,fG,fH,fI,fJ,fK,fL,fM,fN,fO,fP,fQ,fR,fS,gu,gv,fT,fU,fV,fW,fZ,ga,gb],defers:=ds.map oO} W'):
  Zr y_ K9 Q {tmps:= #[.pointer (some ⟨G,0,none⟩),j8,.pointer (some ⟨aG,0,none⟩),gA,.pointer (some ⟨bH,0,none⟩),.int .i64 0,.pointer (some ⟨bJ,0,none⟩),.pointer (some ⟨bf,0,none⟩),.pointer (some ⟨dm,0,none⟩),kP,gG,gq,dn,gT,gr,.slice iR jJ c9,u16,dr,dw,dx,gh,dy,dz,dA,dB,dD,dF,dG,dH,cu,cv,cw,u32,cz,cA,cB,cC,cD,cE,cF,cG,cH,cI,cK,dI,dJ,gO,gM,gN,bx,bz,bA,bB,bC,bD,bE,bF,bG,bL,bM,bN,bO,bP,bQ,u64,bR,bS,bT,bU,bV,bW,bX,bY,bZ,b5,b6,b7,b8,b9,cc,cg,ck,cm,cn,cp,cr,dK,dL,dM,dN,dO,dP,dQ,dR,cL,cM,cN,cO,cQ,cR,cS,cT,cU,cV,cW,cZ,c7,c8,dc,de,dh,dS,dU,dV,dW,dX,dY,dZ,ec,ee,ef,ei,ej,ek,en,eo,ep,er,eu,ew,ey,ez,eA,eB,eC,eD,eE,eF,eG,eH,eL,gi,gj,gl,eM,eN,eO,eP,eR,eS,eT,eU,eV,eW,eX,eY,.slice kn jT j3,.int .i64 (jT:Int),.int .i64 0,eZ,e3,e4,e5,e6,e7,e8,e9,fc,fe,ff,fh,fk,fm,fo,fq,fu,fA,fB,fC,fD,fE,fF,fG,fH,fI,fJ,fK,fL,fM,fN,fO,fP,fQ,fR,fS,gu,gv,fT,fU,fV,fW,fZ,ga,gb],defers:=ds.map oO} W:=by
 have S:=U A;have T:=U H;have B:mk.length=jT:=by have:=H.aI.n6;rw[i] at this;exact this.symm
 have V:=U (z_ i (z_ t (z_ y B)));clear H A t y B
 conv=>arg 2;whnf
 dsimp only
 go_loopw [158] (λ x W'=>∃(k:Nat)(b:List Bool),x=.int .i64 (k:Int)/\k<=jT/\b.length=aN.length/\(∀v:Nat,jE b v=true->jE aN v=true/\¬(v:Int)∈mk.take k)/\sx K base w W' G hs cb {s with aN:=b} aG bH bJ dm bf out mk op ig iI r ds ls X) (λ x _=>jT-(intOf x).toNat)
 case atStart=>exact⟨0,aN,rfl,Nat.zero_le _,rfl,λ v h=>⟨h,by simp⟩,by rw[<-V.o.2.1];exact T.o⟩
 case round=>
  obtain⟨k,b,rfl,hk,C,E,F⟩:=hrel;have L:=U F;have D:=U (z_ hk (z_ C E));clear F hk C E
  by_cases j:k<jT
  ·have Y:(k:Int)<(jT:Int):=by omega
   obtain⟨I,l,J⟩:=L.o.aI.gw.rows.addr (r:=6) (by rw[i];show jT≠0;omega);rw[i] at l;have l:kn=some ⟨I,0,none⟩:=l;subst l;have f:k<mk.length:=by rw[V.o.2.2.2];exact j
   obtain⟨v,g,m⟩:=(V.o.2.2.1 (ai mk k)).1 (l5 f);have ae:wr.cell? ⟨I,k,none⟩=some (.int .i64 (v:Int)):=by
    refine(L.o.aI.gw.kB J (k:=k) ?_).1;rw[L.o.aI.iV];unfold gX;rw[Zd,n_ f,<-g,ny f];rfl
   have n:v<b.length:=by rw[D.o.2.1];exact Gf m
   have aS:=L.o.aI.aS;obtain⟨g12,p,M,f12⟩:=L.o.aI.gw.gz.e.lV 16 12 rfl L.o.aI.gw.gz.e.n12 (by show b.length≠0;omega);have af:=f12 v;have c12:=L.o.aI.gw.gz.e.zY p (k:=v) n;have ag:(v:Int)<(b.length:Int):=by omega
   have M:wr.cell? ⟨G,16,none⟩=some (.slice (some ⟨g12,0,none⟩) b.length (hs 12).c):=M;have ah:v_.wrap ((k:Int)+1)=(k:Int)+1:=by rw[x_];omega
   have d:=U (z_ j (z_ f (z_ g (z_ m (z_ n p)))));clear j f g m n p f12 J
   go_wp2_with fail
   have Z:=L.o.wS d.o.2.2.2.2.2 v false;go_roundw
   case rel=>
    refine⟨k+1,b.set v false,by go_num,by have:=d.o.1;omega,by rw[s_];exact D.o.2.1,λ u hu=>?_,Z⟩;rw[zM] at hu;split at hu
    ·cases hu
    ·rename_i aa;obtain⟨h1,q⟩:=D.o.2.2 u hu;refine⟨h1,λ hm=>?_⟩;rw[yR d.o.2.1,h_,o_,d.o.2.2.1] at hm;rcases hm with hm|hm
     ·exact q hm
     ·exact aa ⟨by omega,d.o.2.2.2.2.1⟩
   case measure=>have:=d.o;simp[intOf];omega
  ·have Y:¬(k:Int)<(jT:Int):=by omega
   have N:k=jT:=by have:=D.o.1;omega
   have ab:=U N;clear j N
   go_wp2_with fail
   apply S.o;have e:b=k_ aN.length false:=La D.o.2.1 (λ v=>by
    cases g:jE b v with
    |false=>rfl
    |true=>
     obtain⟨h1,q⟩:=D.o.2.2 v g;refine absurd ?_ q;rw[ab.o,a_ (by rw[V.o.2.2.2];exact w_ _)];exact(V.o.2.2.1 _).2 ⟨v,rfl,h1⟩)
   rw[<-e];exact L.o
noncomputable def Lc:Code:=(Tryz.f146.body.bind λ c=>qu c 10).getD .skip
theorem sx.swap{w:World}{bf:Nat}(h:sx K base w W G hs cb s aG bH bJ dm bf out mk op ig iI r ds ls X){g:Nat}(c:(ls 9).b=some g)(i:Nat):
  ∃d,sx K base w ((W.setCell ⟨g,1,none⟩ (.int .i64 (ai r i))).setCell ⟨g,i,none⟩ (.int .i64 (ai r 1))) G hs cb s aG bH bJ dm bf out mk op ig iI (kL r 1 i) ds ls d:=by
 obtain⟨e,f⟩:=h.aI.gw.set c 1 (.int .i64 (ai r i));obtain⟨j,k2⟩:=e.set c i (.int .i64 (ai r 1));refine⟨_,⟨j,h.aI.qb,?_,h.aI.jm,?_,?_,h.aI.kr,?_,?_,h.aI.pH,?_,h.aI.rX,?_,h.aI.tA,?_⟩,?_,(h.ms.others f).others k2⟩
 all_goals first|(rw[aX _ _ (by omega),aX _ _ (by omega)];first|exact h.aI.gI|exact h.aI.iL|exact h.aI.jj|exact h.aI.jk|exact h.aI.iV|exact h.aI.jt|exact h.aI.jv|exact h.aI.vb)|skip
 rw[jH,jH,h.uD];unfold kL gX;rw[Zp,Zp]
theorem Ld{w:World}{bf:Nat}{mO:List Int}{nw jg jM:Nat}
  (H:sx K base w W G hs cb s aG bH bJ dm bf out mk op ig iI mO ds ls X) (E:ls 9=⟨some ⟨nw,0,none⟩,jg,jM⟩) (aa:1<=jg) (aY:jg<=1000) (aZ:n<=60000) (ab:mO.Nodup) (ad:0<s.c.st.length) (ae:s.c.st.length<=1000000) (i:∀x∈mO,gU n x) (af:s.c.lvl.length=n+1) (ah:∀x∈mO,x≠ai mO 0->1<=aR s.c x/\aR s.c x<s.c.st.length)
  (ak:∀(level:Nat)(r:List Int)(X:Nat->List Value)(j8 gA kP gG gq dn gT gr u16 dr dw dx aE dy dz dA dB dD dF dG dH cu cv cw u32 cz cA cB cC cD cE cF cG cH cI cK dI dJ gO gM gN bx bz bA bB bC bD bE bF bG bL bM bN bO bP bQ u64 bR bS bT bU bV bW bX bY bZ b5 b6 b7 b8 b9 cc cg ck cm cn cp cr dK dL dM dN dO dP dQ dR cL cM cN cO cQ cR cS cT cU cV cW cZ c7 c8 dc de dh dS dU dV dW dX dY dZ ec ee ef ei ej ek en eo ep er eu ew ey ez eA eB eC eD eE eF eG eH eL gi gj gl eM eN eO eP eR eS eT eU eV eW eX eY gm gn gp eZ e3 e4 e5 e6 e7 e8 e9 fc fe ff fh fk fm fo fq fu fA fB fC fD fE fF fG fH fI fJ fK fL fM fN fO fP fQ fR fS gu gv fT fU fV fW fZ ga gb:Value)(W':World),sx K base w W' G hs cb s aG bH bJ dm bf out mk op ig iI r ds ls X->qq s.c mO jg level r->Q (.exit 10) {tmps:= #[.pointer (some ⟨G,0,none⟩),j8,.pointer (some ⟨aG,0,none⟩),gA,.pointer (some ⟨bH,0,none⟩),.int .i64 (level:Int),.pointer (some ⟨bJ,0,none⟩),.pointer (some ⟨bf,0,none⟩),.pointer (some ⟨dm,0,none⟩),kP,gG,gq,dn,gT,gr,.slice (some ⟨nw,0,none⟩) jg jM,u16,dr,dw,dx,aE,dy,dz,dA,dB,dD,dF,dG,dH,cu,cv,cw,u32,cz,cA,cB,cC,cD,cE,cF,cG,cH,cI,cK,dI,dJ,gO,gM,gN,bx,bz,bA,bB,bC,bD,bE,bF,bG,bL,bM,bN,bO,bP,bQ,u64,bR,bS,bT,bU,bV,bW,bX,bY,bZ,b5,b6,b7,b8,b9,cc,cg,ck,cm,cn,cp,cr,dK,dL,dM,dN,dO,dP,dQ,dR,cL,cM,cN,cO,cQ,cR,cS,cT,cU,cV,cW,cZ,c7,c8,dc,de,dh,dS,dU,dV,dW,dX,dY,dZ,ec,ee,ef,ei,ej,ek,en,eo,ep,er,eu,ew,ey,ez,eA,eB,eC,eD,eE,eF,eG,eH,eL,gi,gj,gl,eM,eN,eO,eP,eR,eS,eT,eU,eV,eW,eX,eY,gm,gn,gp,eZ,e3,e4,e5,e6,e7,e8,e9,fc,fe,ff,fh,fk,fm,fo,fq,fu,fA,fB,fC,fD,fE,fF,fG,fH,fI,fJ,fK,fL,fM,fN,fO,fP,fQ,fR,fS,gu,gv,fT,fU,fV,fW,fZ,ga,gb],defers:=ds.map oO} W'):
  Zr y_ Lc Q {tmps:= #[.pointer (some ⟨G,0,none⟩),j8,.pointer (some ⟨aG,0,none⟩),gA,.pointer (some ⟨bH,0,none⟩),.int .i64 0,.pointer (some ⟨bJ,0,none⟩),.pointer (some ⟨bf,0,none⟩),.pointer (some ⟨dm,0,none⟩),kP,gG,gq,dn,gT,gr,.slice (some ⟨nw,0,none⟩) jg jM,u16,dr,dw,dx,.int .i64 1,dy,dz,dA,dB,dD,dF,dG,dH,cu,cv,cw,u32,cz,cA,cB,cC,cD,cE,cF,cG,cH,cI,cK,dI,dJ,gO,gM,gN,bx,bz,bA,bB,bC,bD,bE,bF,bG,bL,bM,bN,bO,bP,bQ,u64,bR,bS,bT,bU,bV,bW,bX,bY,bZ,b5,b6,b7,b8,b9,cc,cg,ck,cm,cn,cp,cr,dK,dL,dM,dN,dO,dP,dQ,dR,cL,cM,cN,cO,cQ,cR,cS,cT,cU,cV,cW,cZ,c7,c8,dc,de,dh,dS,dU,dV,dW,dX,dY,dZ,ec,ee,ef,ei,ej,ek,en,eo,ep,er,eu,ew,ey,ez,eA,eB,eC,eD,eE,eF,eG,eH,eL,gi,gj,gl,eM,eN,eO,eP,eR,eS,eT,eU,eV,eW,eX,eY,gm,gn,gp,eZ,e3,e4,e5,e6,e7,e8,e9,fc,fe,ff,fh,fk,fm,fo,fq,fu,fA,fB,fC,fD,fE,fF,fG,fH,fI,fJ,fK,fL,fM,fN,fO,fP,fQ,fR,fS,gu,gv,fT,fU,fV,fW,fZ,ga,gb],defers:=ds.map oO} W:=by
 have aF:=U ak;have aJ:=U H;have F:mO.length=jg:=by have:=H.aI.gw.rows.len 9;rw[H.uD,E] at this;simpa[gX] using this
 have V:=U (z_ E (z_ aa (z_ ab (z_ ad (z_ ae (z_ i (z_ af (z_ ah F))))))));clear H ak E ab ad ae i af ah F
 conv=>arg 2;whnf
 dsimp only
 go_loopw [5,20] (λ aK I W'=>∃(k level:Nat)(r:List Int)(X:Nat->List Value),aK=.int .i64 (level:Int)/\I=.int .i64 (k:Int)/\1<=k/\k<=jg/\qq s.c mO k level r/\sx K base w W' G hs cb s aG bH bJ dm bf out mk op ig iI r ds ls X) (λ _ I _=>jg-(intOf I).toNat)
 case atStart=>exact⟨1,0,mO,X,rfl,rfl,w_ _,aa,qq.start V.o.2.2.1 V.o.2.2.2.1,aJ.o⟩
 case round=>
  obtain⟨k,level,r,X,rfl,rfl,al,hk,J,an⟩:=hrel;have L:=U an;have D:=U (z_ al (z_ hk J));have F:r.length=jg:=J.len.trans V.o.2.2.2.2.2.2.2.2;clear an hk J al
  by_cases i:k<jg
  ·have aL:(k:Int)<(jg:Int):=by omega
   have A:k<r.length:=by omega
   obtain⟨x,f⟩:∃x,ai r k=x:=⟨_,rfl⟩
   have M:x∈mO:=(D.o.2.2.mem x).1 (by rw[<-f];exact l5 A);have ao:=V.o.2.2.2.2.2.1 x M;have ar:(ls 9).b=some nw:=by rw[V.o.1];rfl
   have N:∀j,j<jg->wr.cell? ⟨nw,j,none⟩=some (.int .i64 (ai r j))/\wr.frozen? ⟨nw,j,none⟩=false:=λ j a6=>L.o.aI.gw.kB ar (k:=j) (by
    rw[L.o.uD];unfold gX;rw[Zd,n_ (by omega),ny (by omega)];rfl)
   have l:=(N k i).1;rw[f] at l;have aS:=L.o.aI.aS;obtain⟨v,p⟩:∃v,aH x=v:=⟨_,rfl⟩
   have aM:v<=n:=by have:=ao.2;omega
   have aN:bI (∀w:World,Calls y_ 97 #[.int .i64 x] w λ e w'=>e=.returned (.int .i64 (v:Int))/\w=w'):=U (λ w=>by have:=sM x w (by unfold aH at p;omega) (by unfold aH at p;omega);rw[p] at this;exact this);obtain⟨g2,au,aO,f2⟩:=L.o.aI.gw.gz.e.lV 3 2 rfl L.o.aI.gw.gz.e.mb (by have:=V.o;omega);have c2:=L.o.aI.gw.gz.e.vV au (k:=v) (by have:=V.o;omega);have a7:(v:Int)<(s.c.lvl.length:Int):=by have:=V.o;omega
   obtain⟨y,O⟩:∃y,gQ s.c.lvl v=y:=⟨_,rfl⟩
   rw[O] at c2;have a8:v_.wrap ((k:Int)+1)=(k:Int)+1:=by rw[x_];omega
   have P:aR s.c (ai r k)=y:=by rw[f];show gQ s.c.lvl (aH x)=y;rw[p,O]
   have av:x≠ai mO 0:=by
    rw[<-f,<-D.o.2.2.ag];intro e;have:=uU D.o.2.2.nr A (by omega) e;have:=D.o.1;omega
   have R:=V.o.2.2.2.2.2.2.2.1 x M av;rw[show aR s.c x=y by rw[<-P,f]] at R;have d:=U (z_ f (z_ A (z_ i (z_ P (z_ R N)))));clear f A M ao p aM O P av R au f2 N ar
   go_wp2_with fail
   refine f_ 11 (by kernel_rfl) (by kernel_rfl) ?_;simp only[m_,e_,l_,Zx]
   iterate 8 still_step
   still_call ((aN.o _).mono (λ e w' h=>⟨h.1,h.2.symm⟩))
   iterate 2 still_step
   refine Zu ?_;change wpList _ _ _ _ _ wr.drew;have S:=U (L.o.grow ((j_ _ wr).drew));have l:wr.drew.cell? ⟨nw,k,none⟩=some (.int .i64 x):=l;have c1:wr.drew.cell? ⟨nw,1,none⟩=some (.int .i64 (ai r 1)):=(d.o.2.2.2.2.2 1 (by have:=D.o;have:=d.o.2.2.1;omega)).1;have f1:wr.drew.frozen? ⟨nw,1,none⟩=false:=(d.o.2.2.2.2.2 1 (by have:=D.o;have:=d.o.2.2.1;omega)).2;have aw:wr.drew.frozen? ⟨nw,k,none⟩=false:=(d.o.2.2.2.2.2 k d.o.2.2.1).2;have aP:(1:Int)<(jg:Int):=by have:=D.o;have:=d.o.2.2.1;omega
   clear aS aO c2;generalize wr.drew=ax at*
   by_cases B:level<y
   ·have d1:decide ((level:Int)<(y:Int))=true:=by simp;omega
    have aQ:(level:Int)<(y:Int):=by omega
    have C:=U B;clear B;obtain⟨z,T⟩:∃z,ai r 1=z:=⟨_,rfl⟩
    rw[T] at c1;have ay:=U T;clear T
    by_cases az:k=1
    ·subst az;obtain rfl:z=x:=by rw[<-ay.o,d.o.1]
     go_upto_region 46 with fail
     clear aw l
     go_region_held3 (λ w'=>w'.cell? ⟨nw,1,none⟩=some (.int .i64 z)/\w'.frozen? ⟨nw,1,none⟩=false) (first|exact⟨c1,f1⟩|(refine⟨?_,?_⟩<;>go_simp)) (fail)
     all_goals
      go_wp2_with fail
      obtain⟨Y,q⟩:=S.o.swap (g:=nw) (by rw[V.o.1];rfl) 1;rw[d.o.1] at q;go_roundw
      case rel=>
       refine⟨1+1,y,_,Y,rfl,by go_num,by omega,by have:=d.o.2.2.1;omega,?_,q.grow ((j_ _ _).drew)⟩;have:=D.o.2.2.iS D.o.1 d.o.2.1 (by rw[d.o.2.2.2.1];exact C.o) (by rw[d.o.2.2.2.1];exact d.o.2.2.2.2.1.2);rw[d.o.2.2.2.1] at this;exact this
      case measure=>have:=d.o;simp[intOf];omega
    ·have aA:1≠k:=λ e=>az e.symm
     have aT:¬1=k:=aA
     go_upto_region 46 with fail
     have aB:(k:Int)<(jg:Int):=by have:=d.o.2.2.1;omega
     refine Ai (tu Tryz.f146 46) 13 11 12 204 [some 190,some 191,some 192,some 193,some 194,some 195,some 196,some 197,some 198,some 199,some 200,none,some 201,none] _ [(15,.slice (some ⟨nw,0,none⟩) jg jM),(20,.int .i64 (k:Int))] (λ _=>True) [.slice (some ⟨nw,0,none⟩) jg jM,.slice (some ⟨nw,0,none⟩) jg jM,.int .i64 (k:Int),.slice (some ⟨nw,0,none⟩) jg jM,.int .i64 (k:Int),.pointer (some ⟨nw,k,none⟩),.int .i64 x,.slice (some ⟨nw,0,none⟩) jg jM,.pointer (some ⟨nw,1,none⟩),.int .i64 z,.pointer (some ⟨nw,1,none⟩),undef,undef] (ax.drew.setCell ⟨nw,1,none⟩ (.int .i64 x)) (λ v w'=>v=.pointer (some ⟨nw,k,none⟩)/\w'=(ax.drew.setCell ⟨nw,1,none⟩ (.int .i64 x))) (by kernel_rfl) (by kernel_rfl) (by kernel_rfl) rfl (by kernel_rfl) (by kernel_rfl) rfl ⟨rfl,rfl,trivial⟩ trivial trivial (λ _ _ _=>trivial) (λ m ag Z hp=>?_) (λ m ag Z hp=>?_) ?_ ?_
     ·have h1:m (.tmp 200)=.pointer (some ⟨nw,1,none⟩):=ag.1 rfl (by decide) (by decide) _ rfl;have t:m (.tmp 196)=.int .i64 x:=ag.2.1 rfl (by decide) (by decide) _ rfl;show bn _ _ (Z_ _ _ _ _ _ _) _ _;simp[bn,execOp,gF,go_sem,h1,t,c1,f1]
     ·have h1:m (.tmp 191)=.slice (some ⟨nw,0,none⟩) jg jM:=ag.1 rfl (by decide) (by decide) _ rfl;have t:m (.tmp 192)=.int .i64 (k:Int):=ag.2.1 rfl (by decide) (by decide) _ rfl;show bn _ _ (Z_ _ _ _ _ _ _) _ _;simp[bn,execOp,gF,go_sem,h1,t,aB]
     ·refine⟨?_,?_,?_,?_,?_,?_,?_,?_,?_,?_,?_,?_,?_,trivial⟩
      all_goals
       intro h1 t m w _ aU ag Z hp
       first
        |exact absurd rfl h1
        |exact absurd rfl t
        |(obtain⟨aV,aW,-⟩:=Z;(try obtain rfl:=aU rfl);(try simp[pG,qn,d_] at ag);simp[bn,execOp,gF,go_sem,aV,aW,ag,c1,l,aB,aP,hp.1];done)
     rintro u v w' ⟨rfl,rfl⟩ a' aC;simp[oI,Act.put,k6] at aC;subst aC;rw[show((tu Tryz.f146 46).getD 13 default).dst=none from rfl];show bn _ _ (Z_ _ _ _ _ _ _) _ _;simp[bn,execOp,gF,go_sem,Act.eval,Act.put,l,aw,aA,aT]
     iterate 1
      go_wp2_with fail
      obtain⟨Y,q⟩:=S.o.swap (g:=nw) (by rw[V.o.1];rfl) k;rw[d.o.1,ay.o] at q;go_roundw
      case rel=>
       refine⟨k+1,y,_,Y,rfl,by go_num,by omega,by have:=d.o.2.2.1;omega,?_,q.grow ((j_ _ _).drew)⟩;have:=D.o.2.2.iS D.o.1 d.o.2.1 (by rw[d.o.2.2.2.1];exact C.o) (by rw[d.o.2.2.2.1];exact d.o.2.2.2.2.1.2);rw[d.o.2.2.2.1] at this;exact this
      case measure=>have:=d.o;simp[intOf];omega
   ·have d1:decide ((level:Int)<(y:Int))=false:=by simp;omega
    have aQ:¬(level:Int)<(y:Int):=by omega
    have C:=U B;clear B
    go_wp2_with fail
    go_roundw
    case rel=>
     exact⟨k+1,level,r,X,rfl,by go_num,by omega,by have:=d.o.2.2.1;omega,D.o.2.2.stay D.o.1 d.o.2.1 (by rw[d.o.2.2.2.1];have:=C.o;omega) (λ e=>by subst e;rw[d.o.2.2.2.1];exact d.o.2.2.2.2.1.1),S.o⟩
    case measure=>have:=d.o;simp[intOf];omega
  ·have aL:¬(k:Int)<(jg:Int):=by omega
   have aD:k=jg:=by have:=D.o;omega
   have aX:=U aD;clear i aD
   go_wp2_with fail
   apply aF.o
   ·exact L.o
   ·rw[<-aX.o];exact D.o.2.2
def Gn(K:Nat->Prop)(base:Nat)(w:World)(G:Nat)(hs:Nat->aq)(cb:Nat->Nat)(n:Nat)(f:Int)(F:List (List Int))(aF:aj)(e:Ending)(w':World):Prop:=
 ∃(bu c level:Nat)(l:List Int)(s':aj),e=.returned (.tuple #[.slice (some ⟨bu,0,none⟩) l.length c,.int .i64 (level:Int)])/\uV F aF.c l level/\aU K base w' G hs cb s'/\aD K w w'/\ov aF s'/\mu n js (f+16*js) s'/\
  w'.ownsRow base 3 1 (.slice (some ⟨bu,0,none⟩) l.length c) l.length (gX l)/\(bu≠G/\(∀r,(hs r).b≠some bu)/\∀d,d<s'.c.cl.length->cb d≠bu)/\¬K bu
def vG(lq aG lX:Nat):Value:=.func (.func 185) #[] #[.pointer (some ⟨lq,0,none⟩),.pointer (some ⟨aG,0,none⟩),.pointer (some ⟨lX,0,none⟩)]
theorem q6.make{w V:World}{bf:Nat}(L:kN K base w V G hs cb s aG bH bJ dm bf out mk op ig iI ls X)(i:pF w.heap.size V ds)(u:Int):
  ∃b j,b 9=⟨some ⟨V.heap.size+1+1+1,0,none⟩,1,1⟩/\b 5=ls 5/\b 6=ls 6/\q6 K base w ((((V.alloc (.map #[] 0)).alloc (.cells #[.map (some V.heap.size)] 114)).alloc (.cells #[vG (V.heap.size+1) aG (V.heap.size+1+1)] 129)).alloc (.cells #[.int .i64 u] 3)) G hs cb s aG bH bJ dm bf (V.heap.size+1) (V.heap.size+1+1) V.heap.size 0 DP out mk op ig iI [u] ds b j:=by
 have k:=L.gw.grow (bK V (.map #[] 0));have s1:(V.alloc (.map #[] 0)).heap.size=V.heap.size+1:=by simp
 have c:=k.box 7 (.map (some V.heap.size));rw[s1] at c;have c:lI K base w ((V.alloc (.map #[] 0)).alloc (.cells #[.map (some V.heap.size)] 114)) G hs cb s _ _:=c;have s2:((V.alloc (.map #[] 0)).alloc (.cells #[.map (some V.heap.size)] 114)).heap.size=V.heap.size+1+1:=by simp
 have d:=c.box 8 (vG (V.heap.size+1) aG (V.heap.size+1+1));rw[s2] at d;have d:lI K base w (((V.alloc (.map #[] 0)).alloc (.cells #[.map (some V.heap.size)] 114)).alloc (.cells #[vG (V.heap.size+1) aG (V.heap.size+1+1)] 129)) G hs cb s _ _:=d;have s3:(((V.alloc (.map #[] 0)).alloc (.cells #[.map (some V.heap.size)] 114)).alloc (.cells #[vG (V.heap.size+1) aG (V.heap.size+1+1)] 129)).heap.size=V.heap.size+1+1+1:=by simp
 have hw:=L.gw.iP.size;have l:=d.fresh (r:=9) (h':=⟨some ⟨V.heap.size+1+1+1,0,none⟩,1,1⟩) (ys:=gX [u]) (bK _ (.cells (gX [u]).toArray 3)) (by have:=Dx (((V.alloc (.map #[] 0)).alloc (.cells #[.map (some V.heap.size)] 114)).alloc (.cells #[vG (V.heap.size+1) aG (V.heap.size+1+1)] 129)) w.heap.size [u] 1 rfl (by omega) (by omega);rw[s3] at this;exact this) (λ g e=>by
  have f:some (V.heap.size+1+1+1)=some g:=e;injection f with f
  omega)
 have m:mV 4 tC ((((V.alloc (.map #[] 0)).alloc (.cells #[.map (some V.heap.size)] 114)).alloc (.cells #[vG (V.heap.size+1) aG (V.heap.size+1+1)] 129)).alloc (.cells #[.int .i64 u] 3)) V.heap.size 0 DP:=(((mV.made V).alloc _).alloc _).alloc _;have n:Below V.heap.size V ((((V.alloc (.map #[] 0)).alloc (.cells #[.map (some V.heap.size)] 114)).alloc (.cells #[vG (V.heap.size+1) aG (V.heap.size+1+1)] 129)).alloc (.cells #[.int .i64 u] 3)):=((((j_ _ V).alloc (w_ _) _).alloc (by simp) _).alloc (by omega) _).alloc (by omega) _;refine⟨_,_,jH _ _ _,?_,?_,⟨⟨l,?_,?_,?_,?_,?_,?_,?_,?_,?_,?_,?_,?_,?_,?_⟩,?_,?_,?_,?_,jH _ _ _,m,(λ y h=>by cases h),hw,i.below n⟩⟩
 ·rw[aX _ _ (by omega),aX _ _ (by omega),aX _ _ (by omega)]
 ·rw[aX _ _ (by omega),aX _ _ (by omega),aX _ _ (by omega)]
 ·rw[aX _ _ (by omega),aX _ _ (by omega),aX _ _ (by omega)];exact L.qb
 ·rw[aX _ _ (by omega),aX _ _ (by omega),aX _ _ (by omega)];exact L.gI
 ·rw[aX _ _ (by omega),aX _ _ (by omega),aX _ _ (by omega)];exact L.jm
 ·rw[aX _ _ (by omega),aX _ _ (by omega),aX _ _ (by omega),aX _ _ (by omega),aX _ _ (by omega),aX _ _ (by omega)];exact L.iL
 ·rw[aX _ _ (by omega),aX _ _ (by omega),aX _ _ (by omega)];exact L.jj
 ·rw[aX _ _ (by omega),aX _ _ (by omega),aX _ _ (by omega)];exact L.kr
 ·rw[aX _ _ (by omega),aX _ _ (by omega),aX _ _ (by omega),aX _ _ (by omega),aX _ _ (by omega),aX _ _ (by omega)];exact L.jk
 ·rw[aX _ _ (by omega),aX _ _ (by omega),aX _ _ (by omega)];exact L.iV
 ·rw[aX _ _ (by omega),aX _ _ (by omega),aX _ _ (by omega)];exact L.pH
 ·rw[aX _ _ (by omega),aX _ _ (by omega),aX _ _ (by omega)];exact L.jt
 ·rw[aX _ _ (by omega),aX _ _ (by omega),aX _ _ (by omega)];exact L.rX
 ·rw[aX _ _ (by omega),aX _ _ (by omega),aX _ _ (by omega)];exact L.jv
 ·rw[aX _ _ (by omega),aX _ _ (by omega),aX _ _ (by omega)];exact L.tA
 ·rw[aX _ _ (by omega),aX _ _ (by omega),aX _ _ (by omega)];exact L.vb
 ·rw[aX _ _ (by omega),aX _ _ (by omega),jH]
 ·rw[aX _ _ (by omega),aX _ _ (by omega),jH]
 ·rw[aX _ _ (by omega),jH]
 ·rw[aX _ _ (by omega),jH];rfl
theorem lI.shut{w W':World}(h:lI K base w W G hs cb s ls X)(k:pF w.heap.size W ds)(c:Shut ds W W'):lI K base w W' G hs cb s ls X:=by
 have g:∀b cs t l,W.heap[b]? =some (Obj.cells cs t l)->W'.heap[b]? =W.heap[b]? :=λ b cs t l f=>c.block b (λ i=>by
  have h1:=(k.kB b i).2;rw[f] at h1;cases h1)
 have hblk:∀{b:Nat}{t:TypeId}{cs:List Value},aO W b t cs->aO W' b t cs:=λ m=>(g _ _ _ _ m).trans m
 refine⟨⟨⟨hblk h.gz.e.box,⟨λ r=>mP (h.gz.e.rows.row r) (λ b j=>?_),h.gz.e.rows.apart⟩,λ d n=>hblk (h.gz.e.cls d n),h.gz.e.inj,h.gz.e.ru,h.gz.e.rU⟩,h.gz.s.more (by rw[c.size];exact w_ _)⟩,⟨λ r=>mP (h.rows.row r) (λ b j=>?_),h.rows.apart⟩,⟨c.os.trans h.iP.os,c.tape.trans h.iP.tape,c.output.trans h.iP.output,by rw[c.size];exact h.iP.size,λ b hk=>(c.block b (λ i=>by have:=(k.kB b i).1;have:=h.kl b hk;omega)).trans (h.iP.keep b hk)⟩,h.kl⟩
 ·obtain⟨cs,f⟩:=sO (h.gz.e.rows.row r) j;exact g b _ _ _ f
 ·obtain⟨cs,f⟩:=sO (h.rows.row r) j;exact g b _ _ _ f
theorem Lf(tmps:Array Value)(b:Nat)(v v5:Value)(W:World)(c:tmps[4]? =some (.pointer (some ⟨b,0,none⟩)))(d:tmps[5]? =some v5)(e:W.cell? ⟨b,0,none⟩=some v):(results Tryz.f146 tmps).run y_ W=.ok (.tuple #[v,v5]) W:=by
 rw[results_cell_tmp (p:=4) (u:=5) (ty:=25) rfl];simp[c,d,e,go_sem]
theorem Lg{A:Option Addr}{gB c:Nat}{v:Value}(h:n=gB):Ending.returned (.tuple #[.slice A n c,v])=.returned (.tuple #[.slice A gB c,v]):=by rw[h]
noncomputable def Lh:Code:=nu (nu (nu (nu (nu (nu (Tryz.f146.body.getD .skip))))))
theorem Li{w:World}{bf:Nat}{j:Nat}
  (aC:base<=w.heap.size) (C:vF F Fd aF n h kD) (aD:aF.aN=k_ (n+1) false) (aE:B<=kD+16*js) (H:BN K base w W G hs cb n B F aF aG bH bJ dm bf op ig iI j ds s aN aL mk ls X):
  Zr y_ Lh (bodyPostM Zw 6 y_ Tryz.f146 (Gn K base w G hs cb n kD F aF)) {tmps:= #[.pointer (some ⟨G,0,none⟩),j8,.pointer (some ⟨aG,0,none⟩),gA,.pointer (some ⟨bH,0,none⟩),.int .i64 0,.pointer (some ⟨bJ,0,none⟩),.pointer (some ⟨bf,0,none⟩),.pointer (some ⟨dm,0,none⟩),.int .i64 (ai aF.c.au j),gG,gq,dn,gT,gr,gE,u16,dr,dw,dx,gh,dy,dz,dA,dB,dD,dF,dG,dH,cu,cv,cw,u32,cz,cA,cB,cC,cD,cE,cF,cG,cH,cI,cK,dI,dJ,gO,gM,gN,bx,bz,bA,bB,bC,bD,bE,bF,bG,bL,bM,bN,bO,bP,bQ,u64,bR,bS,bT,bU,bV,bW,bX,bY,bZ,b5,b6,b7,b8,b9,cc,cg,ck,cm,cn,cp,cr,dK,dL,dM,dN,dO,dP,dQ,dR,cL,cM,cN,cO,cQ,cR,cS,cT,cU,cV,cW,cZ,c7,c8,dc,de,dh,dS,dU,dV,dW,dX,dY,dZ,ec,ee,ef,ei,ej,ek,en,eo,ep,er,eu,ew,ey,ez,eA,eB,eC,eD,eE,eF,eG,eH,eL,gi,gj,gl,eM,eN,eO,eP,eR,eS,eT,eU,eV,eW,eX,eY,gm,gn,gp,eZ,e3,e4,e5,e6,e7,e8,e9,fc,fe,ff,fh,fk,fm,fo,fq,fu,fA,fB,fC,fD,fE,fF,fG,fH,fI,fJ,fK,fL,fM,fN,fO,fP,fQ,fR,fS,gu,gv,fT,fU,fV,fW,fZ,ga,gb],defers:=ds.map oO} W:=by
 have d:=U H;have i:=U C;have al:=U (z_ aE (z_ aD aC));have b':∀(fn:Fn)(first cap:Array Value)(w:World),(ZW fn first cap).run y_ w=.ok (.func fn first cap) w:=λ _ _ _ _=>rfl
 have ca:= @run_makeMap y_;obtain⟨x,T⟩:∃x,ai aF.c.au j=x:=⟨_,rfl⟩
 have an:j<aF.c.au.length:=by have:=H.li.qX;omega
 have ao:gU n x:=by have:=C.gK.aL.lit _ (l5 an);rw[T,C.jh] at this;exact this
 obtain⟨go,aJ,ar⟩:=H.aI.gw.rows.addr (r:=5) (by rw[H.aI.j0];simp);have Y:ls 5=⟨some ⟨go,0,none⟩,aL.length+1,(ls 5).c⟩:=by
  have h1:=H.aI.j0;rw[u_] at h1;rw[<-h1,<-aJ]
 have co:W.cell? ⟨bH,0,none⟩=some (.slice (some ⟨go,0,none⟩) (aL.length+1) (ls 5).c):=by have co:=H.aI.co.1;rw[Y] at co;exact co
 obtain⟨P,av⟩:∃t,aL.length=t:=⟨_,rfl⟩
 obtain⟨c5,aK⟩:∃t,(ls 5).c=t:=⟨_,rfl⟩
 rw[av,aK] at co Y;have g0:=H.aI.gw.kB ar (k:=0) (v:=.int .i64 0) (by rw[H.aI.jj];rfl);have gc:=g0.1;have gf:=g0.2;have cd:v_.wrap (-x)= -x:=by rw[x_];have h1:=ao.2;have z:=C.n10;unfold aH at h1;omega
 have l:=U (z_ T (z_ ao (z_ an (z_ Y (z_ ar av)))));rw[T];clear H C aE aD T ao an aJ ar Y av aK g0 aC
 conv=>arg 2;whnf
 dsimp only
 go_upto_region 25 with fail
 obtain⟨cf,E,aM⟩:=d.o.aI.KH l.o.2.2.2.2.1 0 (-x);have aO:=d.o.ms.others aM;obtain⟨ch,cj,J,aP,aQ,I⟩:=q6.make E aO (-x);have I:=U I;have c0:(W.setCell ⟨go,0,none⟩ (.int .i64 (-x))).cell? ⟨go,0,none⟩=some (.int .i64 (-x)):=(E.gw.kB l.o.2.2.2.2.1 (k:=0) (v:=.int .i64 (-x)) (by rw[E.jj];rfl)).1;have co:=E.co.1;rw[l.o.2.2.2.1] at co;have co:(W.setCell ⟨go,0,none⟩ (.int .i64 (-x))).cell? ⟨bH,0,none⟩=some (.slice (some ⟨go,0,none⟩) (P+1) c5):=co;have bl:=(E.gw.lt l.o.2.2.2.2.1).2;have bn:=(E.gw.lt E.bg).2;have Q:=U (z_ J (z_ aP aQ));clear E aM aO J aP aQ gc gf;generalize W.setCell ⟨go,0,none⟩ (.int .i64 (-x))=V at*
 go_upto_region 28 with fail
 have Z:Below V.heap.size V (((V.alloc (.map #[] 0)).alloc (.cells #[.map (some V.heap.size)] 114)).alloc (.cells #[vG (V.heap.size+1) aG (V.heap.size+1+1)] 129)):=(((j_ _ V).alloc (w_ _) _).alloc (by simp) _).alloc (by simp;omega) _;have bo:(((V.alloc (.map #[] 0)).alloc (.cells #[.map (some V.heap.size)] 114)).alloc (.cells #[vG (V.heap.size+1) aG (V.heap.size+1+1)] 129)).heap.size=V.heap.size+1+1+1:=by simp
 unfold vG at I Z bo;have co:=(t_ (a:=⟨bH,0,none⟩) (Z.block bH bn)).trans co;have c0:=(t_ (a:=⟨go,0,none⟩) (Z.block go bl)).trans c0;clear Z;generalize (((V.alloc (.map #[] 0)).alloc (.cells #[.map (some V.heap.size)] 114)).alloc (.cells #[.func (.func 185) #[] #[.pointer (some ⟨V.heap.size+1,0,none⟩),.pointer (some ⟨aG,0,none⟩),.pointer (some ⟨V.heap.size+1+1,0,none⟩)]] 129))=aS at*
 go_upto_region 29 with fail
 have aa:(aS.alloc (.cells #[.int .i64 (-x)] 3)).cell? ⟨bH,0,none⟩=some (.slice (some ⟨go,0,none⟩) (P+1) c5):=by
  have aa:=I.o.aI.co.1;rw[Q.o.2.1,l.o.2.2.2.1] at aa;exact aa
 have bp:P+1<=c5:=by
  have h1:=I.o.aI.gw.gz.e.rows;have z:=I.o.aI.gw.rows.row 5;rw[Q.o.2.1,l.o.2.2.2.1] at z;rcases z.2 with⟨ab,_⟩|⟨g,cap,cur,ab,_,_,ad,_⟩
  ·cases ab
  ·simp only[aq.v] at ab;injection ab with cq ct cx
   have ad:P+1<=cap:=ad;omega
 clear co c0;generalize aS.alloc (.cells #[.int .i64 (-x)] 3)=cy at*;have aT:P<=20:=by
  have h1:=d.o.sU;have z:=DN d.o.sS d.o.qN;have bq:=d.o.li.tO;have br:=i.o.jh;have ad:=i.o.n10;have R:=l.o.2.2.2.2.2;omega
 go_wp2_with fail
 all_goals
  refine K7 i.o I.o (Q.o.2.1.trans l.o.2.2.2.1) Q.o.1 l.o.2.2.2.2.2 aT d.o.kU.c d.o.kU.aN (by have:=d.o.li.tO;rw[i.o.jh] at this;exact this) (λ y f=>(d.o.li.ur y f).1) (λ cJ=>by first|rfl|(exfalso;omega)) ?_;intro m5 f5 L bs jJ c9 aw bt j8 gA aU gG gq dn gT gr u16 dr dw dx gh dy dz dA dB dD dF dG dH cu cv cw u32 cz cA cB cC cD cE cF cG cH cI cK dI dJ gO gM gN bx bz bA bB bC bD bE bF bG bL bM bN bO bP bQ u64 bR bS bT bU bV bW bX bY bZ b5 b6 b7 b8 b9 cc cg ck cm cn cp cr dK dL dM dN dO dP dQ dR cL cM cN cO cQ cR cS cT cU cV cW cZ c7 c8 dc de dh dS dU dV dW dX dY dZ ec ee ef ei ej ek en eo ep er eu ew ey ez eA eB eC eD eE eF eG eH eL gi gj gl eM eN eO eP eR eS eT eU eV eW eX eY gm gn gp eZ e3 e4 e5 e6 e7 e8 e9 fc fe ff fh fk fm fo fq fu fA fB fC fD fE fF fG fH fI fJ fK fL fM fN fO fP fQ fR fS gu gv fT fU fV fW fZ ga gb aV u J ae aW;have bu:∀y∈aL,-y∈aF.c.au:=λ y f=>(d.o.li.ur y f).1
  have aY:gY F aF.c (-x) L:=by
   have C:=i.o;have H:=d.o;have ax:ai aF.c.au j=x:=l.o.1;have aZ:=H.li.done C.gK.aL H.x2 H.one;rw[ax] at aZ;have bw:lC aF.c.st j=aF.c.st.length:=oB.top C.gK.aL H.li;refine⟨JH C.gK.aL C.gK.jK H.li.wO (λ y f=>⟨(H.li.ur y f).1,(H.li.ur y f).2.2.1⟩) aZ aW,by rw[Int.neg_neg,<-ax];exact l5 l.o.2.2.1,?_,λ y f=>?_,ae.nodup H.li.xM⟩
   ·show gQ aF.c.lvl (aH (-x))=_;rw[oP,<-ax];exact(C.gK.aL.mG j l.o.2.2.1).trans bw
   ·have:=H.li.ur y (ae.subset f);exact⟨this.1,this.2.1,this.2.2.1⟩
  obtain⟨N,af,ag⟩:=u.aI.gw.rows.addr (r:=9) (by have:=u.jJ;rw[u_] at this;omega);rw[J] at af;have af:bs=some ⟨N,0,none⟩:=af;subst af;have a6:jJ=L.length+1:=by have:=u.jJ;rw[J,u_] at this;exact this
  obtain⟨a7,ah,j3,R⟩:∃A n c,aw 6=⟨A,n,c⟩:=⟨_,_,_,rfl⟩
  have bI:aV.cell? ⟨bJ,0,none⟩=some (.slice a7 ah j3):=by have:=u.aI.j3.1;rw[R] at this;exact this
  have a8:ah<=1000:=by
   have h1:=u.aI.n6;rw[R] at h1;have h1:ah=mk.length:=h1;have z:=DN d.o.sS d.o.qN;have bq:=d.o.li.tO;have br:=i.o.jh;have ad:=i.o.n10;omega
  have a':L.length<=20:=by have:=ae.length_le;have:=l.o.2.2.2.2.2;omega
  have ba:sx K base w aV G hs cb s aG bH bJ dm bf (-x::aL) mk op ig iI (-x::L) ds aw bt:=⟨u.aI,u.uD,u.ms⟩
  have p:=U (z_ ba (z_ J (z_ aY (z_ a6 a'))));clear ba u J ae aW aa bp aT bu aY ag a' I Q a6
  go_wp2_with fail
  refine Lb (jJ:=jJ) p.o.1 R a8 d.o.kU.aN d.o.qN ?_;intro j8 gA aU gG gq dn gT gr u16 dr dw dx gh dy dz dA dB dD dF dG dH cu cv cw u32 cz cA cB cC cD cE cF cG cH cI cK dI dJ gO gM gN bx bz bA bB bC bD bE bF bG bL bM bN bO bP bQ u64 bR bS bT bU bV bW bX bY bZ b5 b6 b7 b8 b9 cc cg ck cm cn cp cr dK dL dM dN dO dP dQ dR cL cM cN cO cQ cR cS cT cU cV cW cZ c7 c8 dc de dh dS dU dV dW dX dY dZ ec ee ef ei ej ek en eo ep er eu ew ey ez eA eB eC eD eE eF eG eH eL gi gj gl eM eN eO eP eR eS eT eU eV eW eX eY gm gn gp eZ e3 e4 e5 e6 e7 e8 e9 fc fe ff fh fk fm fo fq fu fA fB fC fD fE fF fG fH fI fJ fK fL fM fN fO fP fQ fR fS gu gv fT fU fV fW fZ ga gb cP ay;have ay:=U ay;clear bI a8 R a7 ah j3
  go_wp2_with fail
  have ak:=i.o.gK.aL;have O:s.c=aF.c:=d.o.kU.c;have bb:=p.o.2.2.1.nodup ak;have bc:∀y∈-x::L,gU n y:=λ y f=>by
   have h1: -y∈aF.c.au:=by
    rcases List.mem_cons.1 f with rfl|f
    ·exact p.o.2.2.1.Fu
    ·exact(p.o.2.2.1.Bu y f).1
   have:=ak.lit _ h1;rw[i.o.jh] at this;have:=this.neg
   rwa[Int.neg_neg] at this
  refine Ld (n:=n) ay.o p.o.2.1 (by have:=p.o.2.2.2.1;omega) (by have:=p.o.2.2.2;omega) (by have:=i.o.n10;omega) bb (by show 0<s.c.st.length;rw[O];exact i.o.st1) (by show s.c.st.length<=_;rw[O];exact i.o.st2) bc (by show s.c.lvl.length=_;rw[O,ak.pM,i.o.jh]) (λ y f bd=>by
   have h1:ai (-x::L) 0= -x:=rfl;rw[h1] at bd;show 1<=aR s.c y/\aR s.c y<s.c.st.length;rw[O];rcases List.mem_cons.1 f with z|f
   ·exact absurd z bd
   ·exact(p.o.2.2.1.Bu y f).2) ?_
  intro level az cX j8 gA aU gG gq dn gT gr u16 dr dw dx gh dy dz dA dB dD dF dG dH cu cv cw u32 cz cA cB cC cD cE cF cG cH cI cK dI dJ gO gM gN bx bz bA bB bC bD bE bF bG bL bM bN bO bP bQ u64 bR bS bT bU bV bW bX bY bZ b5 b6 b7 b8 b9 cc cg ck cm cn cp cr dK dL dM dN dO dP dQ dR cL cM cN cO cQ cR cS cT cU cV cW cZ c7 c8 dc de dh dS dU dV dW dX dY dZ ec ee ef ei ej ek en eo ep er eu ew ey ez eA eB eC eD eE eF eG eH eL gi gj gl eM eN eO eP eR eS eT eU eV eW eX eY gm gn gp eZ e3 e4 e5 e6 e7 e8 e9 fc fe ff fh fk fm fo fq fu fA fB fC fD fE fF fG fH fI fJ fK fL fM fN fO fP fQ fR fS gu gv fT fU fV fW fZ ga gb cY bh S;have S:qq s.c (-x::L) jJ level az:=S;rw[O] at S;have q:=U (z_ bh S);have bj:=U p.o.2.1;clear bh S bb bc ak O;have da:=q.o.1.aI.co.1;have db:=q.o.1.aI.co.2
  go_wp2_with fail
  obtain⟨bK,k8⟩:=q.o.1.aI.gw.set q.o.1.aI.bg 0 (.slice (some ⟨N,0,none⟩) jJ c9);have aA:=q.o.1.ms.others k8;refine Bb ds rfl aA.nr (λ D b0=>(aA.kB D b0).2) (λ W' b1=>?_);have M:=bK.shut aA b1;have b2:=(M.kB q.o.1.aI.bg (k:=0) (v:=.slice (some ⟨N,0,none⟩) jJ c9) (by rw[jH,q.o.1.aI.iL];rfl)).1;refine⟨_,Lf _ bH _ _ W' rfl rfl b2,?_⟩;have aB:az.length=jJ:=by have:=q.o.2.len;rw[this,u_];exact p.o.2.2.2.1.symm
  have bk:=M.rows.row 9;rw[bj.o,aX _ _ (by omega),q.o.1.uD] at bk;have b3:({s with aN:=k_ aN.length false}:aj)={s with aN:=aF.aN}:=by
   rw[al.o.2.1,d.o.li.tO,i.o.jh]
  have ag:(aw 9).b=some N:=by rw[bj.o];rfl
  have m:=d.o.kU.rg.mono (Int.le_refl _) al.o.1;refine⟨N,c9,level,az,_,Lg aB.symm,q.o.2.done aB p.o.2.2.1 i.o.gK.aL,M.gz.Br (λ b b4=>.inl b4),M.iP,by rw[b3];exact d.o.kU.hk,⟨m.jh,m.lT,m.kM,m.pP,m.a0,m.rC,m.oS,m.nB,m.oT,m.nV,m.qa,m.kX⟩,?_,M.off ag,λ hk=>?_⟩
  ·rw[aB];exact yK bk al.o.2.2
  ·have h1:=M.kl N hk;have z:=(M.lt ag).1;omega
theorem Lj{w:World}(E:aU K base w G hs cb aF)(C:vF F Fd aF n h kD)(r:mu n js kD aF)(M:aF.aN=k_ (n+1) false){d:Nat}(N:d<aF.c.cl.length)(O:∀x∈ax aF.c.cl d,-x∈aF.c.au):
  Calls y_ 146 #[.pointer (some ⟨G,0,none⟩),.pointer (some ⟨cb d,0,none⟩)] w (Gn K base w G hs cb n kD F aF):=by
 have P:=U E;have m:=U C;have nG:=U r;have b:=U (z_ M (z_ N O));have aB:∀(fn:Fn)(first cap:Array Value)(w:World),(ZW fn first cap).run y_ w=.ok (.func fn first cap) w:=λ _ _ _ _=>rfl
 have aC:= @run_makeMap y_;clear E C r M N O;refine Ba Tryz.func146 rfl ?_;simp only[Tryz.ntmps146,Zf,u_,Z7,ZT,ZS,Zo,Zn,Ze,Zk,Z8,Z5]
 go_upto_region 2 with fail
 have Q:=((lI.start P.o).box 0 (.pointer (some ⟨G,0,none⟩))).box 1 (.slice none 0 0);have f:=Q.box 2 (.slice none 0 0);have R:(w.alloc (.cells #[.pointer (some ⟨G,0,none⟩)] 115)).heap.size=w.heap.size+1:=by simp
 have S:((w.alloc (.cells #[.pointer (some ⟨G,0,none⟩)] 115)).alloc (.cells #[.slice none 0 0] 25)).heap.size=w.heap.size+1+1:=by simp
 have y:(((w.alloc (.cells #[.pointer (some ⟨G,0,none⟩)] 115)).alloc (.cells #[.slice none 0 0] 25)).alloc (.cells #[.slice none 0 0] 25)).heap.size=w.heap.size+1+1+1:=by simp
 have f:lI K base w (((w.alloc (.cells #[.pointer (some ⟨G,0,none⟩)] 115)).alloc (.cells #[.slice none 0 0] 25)).alloc (.cells #[.slice none 0 0] 25)) G hs cb aF (iH (iH (iH (λ _=>mM) 0 (oD w.heap.size)) 1 (oD (w.heap.size+1))) 2 (oD (w.heap.size+1+1))) (iH (iH (iH (λ _=> []) 0 [.pointer (some ⟨G,0,none⟩)]) 1 [.slice none 0 0]) 2 [.slice none 0 0]):=by
  rw[show oD (w.heap.size+1)=oD (w.alloc (.cells #[.pointer (some ⟨G,0,none⟩)] 115)).heap.size by rw[R],show oD (w.heap.size+1+1)=oD ((w.alloc (.cells #[.pointer (some ⟨G,0,none⟩)] 115)).alloc (.cells #[.slice none 0 0] 25)).heap.size by rw[S]];exact f
 have f:=U f;clear Q R S;generalize (((w.alloc (.cells #[.pointer (some ⟨G,0,none⟩)] 115)).alloc (.cells #[.slice none 0 0] 25)).alloc (.cells #[.slice none 0 0] 25))=H at*
 go_upto_region 3 with fail
 have i:=f.o.box 4 (.func (.func 182) #[] #[.pointer (some ⟨w.heap.size,0,none⟩),.pointer (some ⟨w.heap.size+1+1,0,none⟩)]);rw[y] at i;have T:(H.alloc (.cells #[.func (.func 182) #[] #[.pointer (some ⟨w.heap.size,0,none⟩),.pointer (some ⟨w.heap.size+1+1,0,none⟩)]] 170)).heap.size=w.heap.size+1+1+1+1:=by simp[y]
 have i:=U (show lI K base w (H.alloc (.cells #[.func (.func 182) #[] #[.pointer (some ⟨w.heap.size,0,none⟩),.pointer (some ⟨w.heap.size+1+1,0,none⟩)]] 170)) G hs cb aF _ _ from i);clear y f;generalize H.alloc (.cells #[.func (.func 182) #[] #[.pointer (some ⟨w.heap.size,0,none⟩),.pointer (some ⟨w.heap.size+1+1,0,none⟩)]] 170)=l at*;have V:=(i.o.set (r:=1) (g:=w.heap.size+1) (by rw[aX _ _ (by omega),aX _ _ (by omega),jH];rfl) 0 (.slice (some ⟨w.heap.size+1+1+1+1,0,none⟩) 1 1)).1;have c1:=i.o.kB (r:=1) (g:=w.heap.size+1) (by rw[aX _ _ (by omega),aX _ _ (by omega),jH];rfl) (k:=0) (v:=.slice none 0 0) (by rw[aX _ _ (by omega),aX _ _ (by omega),jH];rfl);have al:=c1.1;have f1:=c1.2;have an:w.heap.size+1<l.heap.size:=by omega
 have I:(l.setCell ⟨w.heap.size+1,0,none⟩ (.slice (some ⟨w.heap.size+1+1+1+1,0,none⟩) 1 1)).heap.size=w.heap.size+1+1+1+1:=by simp[T]
 have W:=V.fresh (r:=5) (h':=⟨some ⟨w.heap.size+1+1+1+1,0,none⟩,1,1⟩) (ys:=gX [0]) (bK _ (.cells (gX [0]).toArray 3)) (by have:=Dx (l.setCell ⟨w.heap.size+1,0,none⟩ (.slice (some ⟨w.heap.size+1+1+1+1,0,none⟩) 1 1)) w.heap.size [0] 1 rfl (by omega) (by omega);rw[I] at this;exact this) (λ g e=>by
  have Y:some (w.heap.size+1+1+1+1)=some g:=e;injection Y with Y
  omega)
 have p:=W.box 3 (.int .i64 0);have Z:((l.setCell ⟨w.heap.size+1,0,none⟩ (.slice (some ⟨w.heap.size+1+1+1+1,0,none⟩) 1 1)).alloc (.cells (gX [0]).toArray 3)).heap.size=w.heap.size+1+1+1+1+1:=by simp[I]
 rw[Z] at p;have p:=U (show lI K base w (((l.setCell ⟨w.heap.size+1,0,none⟩ (.slice (some ⟨w.heap.size+1+1+1+1,0,none⟩) 1 1)).alloc (.cells #[.int .i64 0] 3)).alloc (.cells #[.int .i64 0] 3)) G hs cb aF _ _ from p);clear V c1 i W I Z
 go_upto_region 5 with fail
 clear al f1 T an;generalize (((l.setCell ⟨w.heap.size+1,0,none⟩ (.slice (some ⟨w.heap.size+1+1+1+1,0,none⟩) 1 1)).alloc (.cells #[.int .i64 0] 3)).alloc (.cells #[.int .i64 0] 3))=t at*;have u:=m.o.gK;have ao:=m.o.jh;have q:kN K base w t G hs cb aF w.heap.size (w.heap.size+1) (w.heap.size+1+1) (w.heap.size+1+1+1+1+1) (w.heap.size+1+1+1) [0] [] 0 mM [] _ _:=⟨p.o,rfl,rfl,rfl,rfl,rfl,rfl,rfl,rfl,rfl,rfl,rfl,rfl,rfl,rfl⟩
 have aa:nt aF.c (k_ (n+1) false) aF.c.au.length=0:=by
  unfold nt;rw[List.countP_eq_zero];intro k hk h1;unfold o9 at h1;rw[Bj] at h1;simp at h1
 have J:=oB.start u m.o.st1 b.o.2.1 b.o.2.2;rw[ao] at J;have ab:others (ax aF.c.cl d) 0=ax aF.c.cl d:=by
  unfold others;rw[List.filter_eq_self];intro x ar;have:=(u.jK.mI d b.o.2.1).lt x ar;simpa using this.oQ
 have ad:nv K base w t G hs cb n kD F aF w.heap.size (w.heap.size+1) (w.heap.size+1+1) (w.heap.size+1+1+1+1+1) (w.heap.size+1+1+1) mM [] aF.c.au.length (others (ax aF.c.cl d) 0) [] aF (k_ (n+1) false) [] [] _ _:=
  ⟨by rw[aa];exact q,⟨ov.refl aF,b.o.1,nG.o⟩,by rw[ab];exact J,Zi,λ z=>⟨λ h=>(by cases h),λ⟨v,_,h⟩=>by rw[Bj] at h;cases h⟩,w_ _,⟨Zi,λ D h=>by cases h⟩⟩
 have hH:BO K base w G hs cb n kD F aF w.heap.size (w.heap.size+1) (w.heap.size+1+1) (w.heap.size+1+1+1+1+1) (w.heap.size+1+1+1) aF.c.au.length d 0 [] t:=
  ⟨_,_,_,_,_,_,_,_,ad.up (by rw[Nat.sub_self];simp),b.o.2.1,by
   have:=(u.jK.mI d b.o.2.1).ne;exact List.length_pos_iff.2 this⟩
 have ae:=U hH;have aS:=q.aS;obtain⟨av,j6,c4,L⟩:∃A n c,hs 4=⟨A,n,c⟩:=⟨_,_,_,rfl⟩
 have af:j6=aF.c.au.length:=by have:=q.gw.gz.e.j6;rw[L] at this;exact this
 have aw:t.cell? ⟨G,5,none⟩=some (.slice av aF.c.au.length c4):=by have:=q.gw.gz.e.kA (k:=5) (v:=(hs 4).v) rfl;rw[L,af] at this;exact this
 clear q aa J ab ad hH L af u p
 go_wp2_with fail
 refine KX (ds:=[]) m.o ae.o ?_;clear ae aS aw;intro j B op aD aE s aN aH mk ls X ds aI aJ aK aL aM aO aP aQ u16 aR aT aV aW aY aZ a6 a7 a8 a' ba bb bc bd bg u32 bh bj bk bl bn bo bp bq br bs bt bu bw bx bz bA bB bC bD bE bF bG bH bI bJ bL bM bN bO bP bQ u64 bR bS bT bU bV bW bX bY bZ b0 b1 b2 b3 b4 b5 b6 b7 b8 b9 b' ca cc cd cf cg ch cj ck cm cn cp cq cr ct cu cv cw cx cy cz cA cB cC cD cE cF cG cH cI cJ cK cL cM cN cO cP cQ cR cS cT cU cV cW cX cY cZ c7 c8 da db dc dd de df dh di dj dk dm dn dp dq dr dt du dv dw dx dy dz dA dB dC dD dE dF dG dH dI dJ dK dL dM dN dO dP dQ dR dS dT dU dV dW dX dY dZ d' ea eb ec ed ee ef eg eh ei ej ek en eo ep er et eu ev ew ey ez eA eB ag ah;have ai:=U ah;have ay:=U ag;generalize w.heap.size+1+1+1+1+1=eC at*;generalize w.heap.size+1+1+1=bf at*;generalize w.heap.size+1+1=eD at*;generalize w.heap.size+1=eE at*;generalize eF:w.heap.size=aG at ai⊢;clear ah ag;rename_i az ak;have aA:=U ak;clear ak;show az _ _;apply aA.o;exact Li (ZO P.o.e.lt) m.o b.o.1 ay.o ai.o
end
end Go.Proofs.YtogdlkfacflmaaaGreat
