/- Parts of the walk of the solver and its core; no condition. -/
import Derived.Test.YtogdlkfacflmaaaGreatZV3
import Derived.ArgAppend
import Derived.Deep.DeepCutAuto
import Derived.WalkMore
import Derived.Test.YtogdlkfacflmaaaGreatZV2
import Derived.Deep.LoopGhost
import Derived.Test.YtogdlkfacflmaaaGreatZV1
import Derived.Maps.RangeWalk
namespace Go.Proofs.YtogdlkfacflmaaaGreat
set_option linter.unusedVariables false
set_option linter.unusedSimpArgs false
set_option maxRecDepth 1000000
set_option maxHeartbeats 8000000
open _root_.And renaming intro→z_
open _root_.Go.Proofs.Tryz renaming prog→y_,underlying3→o_,underlying4→Zo
open _root_.Go.CallsIn renaming inRound→x_
open _root_.Go.IntKind renaming wrap_i64→w_,i64→v_
open _root_.List renaming mem_singleton→u_,length_append→t_,length_set→r_,length_singleton→q_,take_succ_cons→n_,drop_succ_cons→m_,mem_append→k_,take_zero→j_,drop_zero→g_,append_assoc→f_,take_of_length_le→e_,length_filter_le→c_,getElem?_eq_some_iff→Zr,length_cons→Zq,set_set→Zp,length_pos_of_mem→Zm,set_getElem_self→Zl,map_set→Ze
open _root_.Go renaming callsIn_wide→s_,wp_region_still_tail→i_,wpStill_nil→Zu
open _root_.Go.World renaming cell?_of_block→p_,putObj_heap_other→l_
open _root_.Nat renaming le_refl→h_,mul_le_mul_right→Zx,le_trans→Zd
open _root_.Go.Value renaming int→d_
open _root_.Go.Fence renaming wide→b_
open _root_.Go.RowKit.Below renaming refl→a_
open _root_.Int renaming mul_le_mul_of_nonneg_left→Zw
open _root_.Go.KeepsFrom renaming refl→Zv,of_grownBy→Zf
open _root_.Go.Maps renaming keyOf_int_mk→Zt,int_keyed→Zj,atKey_of_not_has→Zi
open _root_.Go.Oper renaming semAt_some→Zn
open _root_.Go.Code renaming wp→Zk
open _root_.Array renaming replicate_succ→Zh,replicate_zero→Zg
open _root_.Go.KeepsOthers renaming refl→Zc
variable{w W A:World}{a:Act}{Q:Exit->Act->World->Prop}{K:Nat->Prop}{base G aH bG bI di aY n h i d b lp lR bm:Nat}{hs ls:Nat->aq}{cb:Nat->Nat}{s aG:an}{l6:Option Addr}{out mk au:List Int}{op B x jW lit:Int}{hU:aq}{iJ:List Value}{X:Nat->List Value}{aK:List Bool}{j7 gx gQ kP gG dm gP gr gC u16 dn dr dw gd dx dy dz dA dB dD dF dG cr ct cu u32 cv cw cz cA cB cC cD cE cF cG cH dH dI gM gK gL bu bw bx bz bA bB bC bD bE bK bL bM bN bO bP u64 bQ bR bS bT bU bV bW bX bY bZ b5 b6 b7 b8 b9 cc cg ck cm cn cp dJ dK dL dM dN dO dP dQ cI cK cL cM cN cO cQ cR cS cT cU cV cW cZ c7 c8 dc dR dS dU dV dW dX dY dZ ec ee ef ei ej ek en eo ep er eu ew ey ez eA eB eC eD eE eF eG eH gh gi gj eL eM eN eO eP eR eS eT eU eV eW eX gl gm gn eY eZ e3 e4 e5 e6 e7 e8 e9 fc fe ff fh fk fm fo fq fu fA fB fC fD fE fF fG fH fI fJ fK fL fM fN fO fP fQ fR gu gv fS fT fU fV fW fZ ga gp:Value}{F Fd:List (List Int)}{ds:List Nat}{f:Int->Option Bool}
section
open Go.RowKit Go.Shelf
theorem K9(w:World)(ty:TypeId)(g kl cap:Nat)(b off m c:Nat)(i:List Value)(d:rH w (some ⟨b,off,none⟩) m c i)(l:kl+m<=cap)(k:∀j,j<m->(w.cell? ⟨g,kl+j,none⟩).isSome=true)(n:∀j,w.frozen? ⟨g,j,none⟩=false):
  (Builtin.append_ #[160,160] ty #[.slice (some ⟨g,0,none⟩) kl cap,.slice (some ⟨b,off,none⟩) m c]).run y_ w=.ok (.slice (some ⟨g,0,none⟩) (kl+m) cap) (w.setCells g kl i):=by
 obtain⟨i0,o,r,f,s⟩:=info_parts Gg;have:=run_append_room_cells (P:=y_) w 160 ty 164 i0 Tryz.underlying160 o g 0 kl cap ⟨b,off,none⟩ m c i (by rw[f,d.len,Nat.mul_one]) (λ j u e=>by
  have t:j<m:=by have:=(Zr.1 e).1;simpa[d.len] using this
  obtain⟨v,y,he,k⟩:=d.cells (by omega);injection he with he
  injection he with h1 q
  subst h1 q;rw[Addr.add_lit];exact k j u e) (λ u hu=>by obtain⟨p,rfl⟩:=d.ptr u hu;rfl) l (λ j e=>by
   rw[f,Nat.mul_one,Nat.zero_add];exact k j (by rw[<-d.len];exact e)) (λ j e=>by rw[f];exact n _)
 rw[f,Nat.mul_one,Nat.zero_add] at this;exact this
theorem DL{ops:Array Oper}{rest:List Oper}{o:Oper}(e:o.guard=none)(s x:Operand)
  (f:o.op=.call {callee:=.builtin .append,args:= #[s,x],argTypes:= #[160,160]}) (g kl cap b off m c:Nat) (d:List Value) (hs:a.eval s=.slice (some ⟨g,0,none⟩) kl cap) (i:a.eval x=.slice (some ⟨b,off,none⟩) m c)
  (k:rH w (some ⟨b,off,none⟩) m c d) (l:kl+m<=cap) (n:∀j,j<m->(w.cell? ⟨g,kl+j,none⟩).isSome=true) (p:∀j,w.frozen? ⟨g,j,none⟩=false)
  (h:wpList y_ ops Q rest (a.put o.dst (.slice (some ⟨g,0,none⟩) (kl+m) cap)) (w.setCells g kl d)):
  wpList y_ ops Q (o::rest) a w:=by
 have h1:=K9 w o.type g kl cap b off m c d k l n p;refine wpList_plain e λ K q=>?_
 unfold Oper.wp;simp only[execOp,f,resolve,invoke,builtin,Sem.run_bind,Sem.run_pure,Result.andThen_ok,List.map_toArray,List.map_cons,List.map_nil,hs,i,h1];exact q _ _ h
def tu:List Nat->Nat->List Nat->List Nat
 |raw,_,[]=>raw
 |raw,j,x::l=>tu (raw.set j x) (j+1) l
theorem GB:∀(l raw:List Nat)(j:Nat),(tu raw j l).length=raw.length
 |[],_,_=>rfl
 |x::l,raw,j=>by rw[tu,GB l,r_]
theorem GC:∀(l raw:List Nat)(j:Nat),j+l.length<=raw.length->(tu raw j l).take (j+l.length)=raw.take j++l
 |[],raw,j,_=>by simp[tu]
 |x::l,raw,j,h=>by
  rw[Zq] at h⊢;have h1:=GC l (raw.set j x) (j+1) (by rw[r_];omega);rw[tu,show j+(l.length+1)=j+1+l.length by omega,h1];have b:j<(raw.set j x).length:=by rw[r_];omega
  rw[List.take_succ_eq_append_getElem b,List.getElem_set_self,List.take_set_of_le (h_ _),f_];rfl
section
variable {K:Nat->Prop}{base:Nat}{w gb W:World}{G:Nat}{hs:Nat->aq}{cb:Nat->Nat}{s:an}
theorem La{s:an}{k:Nat}(hk:k<s.c.wt.length):s.p6 k (aA s.c.wt k)=s:=by
 have e:s.c.wt.set k (aA s.c.wt k)=s.c.wt:=by rw[FA hk,Zl]
 show{s with c:={s.c with wt:=s.c.wt.set k (aA s.c.wt k)}}=s;rw[e]
theorem Lb(s:an)(k:Nat)(a b:List Nat):(s.p6 k a).p6 k b=s.p6 k b:=by
 simp[an.p6,Zp]
theorem GD{s:an}{k:Nat}(hk:k<s.c.wt.length)(l:List Nat):aA (s.p6 k l).c.wt k=l:=by
 show aA (s.c.wt.set k l) k=l;rw[qI,if_pos ⟨rfl,hk⟩]
theorem aP.Lc(h:aP K base w G hs cb s){k g:Nat}(i:(hs (ij k)).b=some g)(hk:k<s.c.wt.length)(j d:Nat):aP K base (w.setCell ⟨g,j,none⟩ (tj cb d)) G hs cb (s.p6 k ((aA s.c.wt k).set j d))/\aF K w (w.setCell ⟨g,j,none⟩ (tj cb d)):=by
 refine⟨⟨(h.e.cell i j (tj cb d)).eq rfl rfl rfl (λ _ _=>rfl) rfl (λ r=>?_),h.s.more (kK w g j _).size⟩,aF.set g j _ (h.s.row _ g i)⟩
 by_cases f:r=ij k
 ·subst f;rw[jC,wk,wk,GD hk];simp[kU,Ze]
 ·rw[aV _ _ f]
  by_cases l:r=0
  ·subst l;show((List.range s.c.wt.length).map λ j=>(hs (ij j)).v)=(List.range (s.c.wt.set k _).length).map λ j=>(hs (ij j)).v
   rw[r_]
  ·exact(Gt hs cb s l f).symm
theorem aP.DM:∀(l:List Nat){w:World}{s:an}(h:aP K base w G hs cb s){k g:Nat}(e:(hs (ij k)).b=some g)(hk:k<s.c.wt.length)(j:Nat),aP K base (w.setCells g j (kU cb l)) G hs cb (s.p6 k (tu (aA s.c.wt k) j l))/\aF K w (w.setCells g j (kU cb l))
 |[],w,s,h,k,g,e,hk,j=>by
  rw[tu,La hk];exact⟨h,aF.refl⟩
 |d::l,w,s,h,k,g,e,hk,j=>by
  have h1:=h.Lc e hk j d;have f:=aP.DM l h1.1 e (by show k<(s.c.wt.set k _).length;rw[r_];exact hk) (j+1);rw[GD hk,Lb] at f;exact⟨f.1,h1.2.trans f.2⟩
theorem aP.Ld(h:aP K base w G hs cb s){g0 k m:Nat}(d:(hs 0).b=some g0)(hk:k<s.c.wt.length)(hm:m<=(aA s.c.wt k).length):
  aP K base (w.setCell ⟨g0,k,none⟩ (.slice (hs (ij k)).A m (hs (ij k)).c)) G (iH hs (ij k) ⟨(hs (ij k)).A,m,(hs (ij k)).c⟩) cb (s.p6 k ((aA s.c.wt k).take m))/\aF K w (w.setCell ⟨g0,k,none⟩ (.slice (hs (ij k)).A m (hs (ij k)).c)):=by
 refine⟨?_,aF.set g0 k _ (h.s.row 0 g0 d)⟩
 cases f:(hs (ij k)).b with
 |some g=>
  refine h.DI d hk (h':=⟨(hs (ij k)).A,m,(hs (ij k)).c⟩) ?_ (h.s.cut m);refine(j5.cut h.e f (k:=m) (by rw[h.e.Ak];exact hm)).eq rfl rfl rfl (λ _ _=>rfl) rfl (λ r=>?_)
  by_cases e:r=ij k
  ·subst e;rw[jC,jC,Aj,wk];simp[kU]
  ·rw[aV _ _ e,aV _ _ e]
 |none=>
  have i:(hs (ij k)).n=0:=by
   rcases Nat.eq_zero_or_pos (hs (ij k)).n with j|j
   ·exact j
   ·obtain⟨g,_,o⟩:=h.e.rows.addr (r:=ij k) (by omega);rw[f] at o;cases o
  have hl:aA s.c.wt k=[]:=List.eq_nil_of_length_eq_zero (by rw[<-h.e.Ak,i]);have q:m=0:=by rw[hl] at hm;simpa using hm
  subst q;have p:(⟨(hs (ij k)).A,0,(hs (ij k)).c⟩:aq)=hs (ij k):=by rw[<-i]
  have t:Value.slice (hs (ij k)).A 0 (hs (ij k)).c=(hs (ij k)).v:=by rw[<-p];rfl
  have hu:iH hs (ij k) (hs (ij k))=hs:=funext λ r=>by
   by_cases e:r=ij k
   ·subst e;rw[jC]
   ·rw[aV _ _ e]
  have:=h.DI d hk (h':=hs (ij k)) (w1:=w) (l:=aA s.c.wt k) (by
   rw[hu];refine h.e.eq rfl rfl rfl (λ _ _=>rfl) rfl (λ r=>?_)
   by_cases e:r=ij k
   ·subst e;rw[jC,wk]
   ·rw[aV _ _ e]) (by rw[hu];exact h.s)
  rw[p,t,j_];rw[hl] at this;exact this
def an.sP(s:an)(d:Nat)(l:List Int):an:={s with c:=lF s.c d l}
theorem Le(hs:Nat->aq)(cb:Nat->Nat)(s:an){d r:Nat}{l:List Int}(e:r≠kz d):cont hs cb (s.sP d l) r=cont hs cb s r:=by
 rcases Nat.lt_or_ge r 13 with h|h
 ·have:r=0\/r=1\/r=2\/r=3\/r=4\/r=5\/r=6\/r=7\/r=8\/r=9\/r=10\/r=11\/r=12:=by omega
  rcases this with rfl|rfl|rfl|rfl|rfl|rfl|rfl|rfl|rfl|rfl|rfl|rfl|rfl<;>rfl
 ·have a0:¬r=0:=by omega
  have a1:¬r=1:=by omega
  have a2:¬r=2:=by omega
  have a3:¬r=3:=by omega
  have a4:¬r=4:=by omega
  have a5:¬r=5:=by omega
  have f:¬r=6:=by omega
  have g:¬r=7:=by omega
  have i:¬r=8:=by omega
  have a9:¬r=9:=by omega
  have j:¬r=10:=by omega
  have k:¬r=11:=by omega
  have a12:¬r=12:=by omega
  unfold cont;simp only[a0,a1,a2,a3,a4,a5,f,g,i,a9,j,k,a12,if_false]
  by_cases hm:r%3=1
  ·rw[if_pos hm,if_pos hm];rfl
  ·rw[if_neg hm,if_neg hm]
   by_cases b:r%3=2
   ·rw[if_pos b,if_pos b];have:aA (s.sP d l).c.cl ((r-14)/3)=aA s.c.cl ((r-14)/3):=by
     show aA (s.c.cl.set d l) _=_;rw[qI,if_neg (λ m=>e (by unfold kz;omega))]
    rw[this]
   ·rw[if_neg b,if_neg b];rfl
theorem aP.GF(h:aP K base w G hs cb s){d g:Nat}(i:(hs (kz d)).b=some g)(k:d<s.c.cl.length)(j:Nat)(x:Int):aP K base (w.setCell ⟨g,j,none⟩ (.int .i64 x)) G hs cb (s.sP d ((aA s.c.cl d).set j x))/\aF K w (w.setCell ⟨g,j,none⟩ (.int .i64 x)):=by
 refine⟨⟨(h.e.cell i j (.int .i64 x)).eq rfl rfl rfl (λ _ _=>rfl) (ry _ _ _).symm (λ r=>?_),?_⟩,aF.set g j _ (h.s.row _ g i)⟩
 ·by_cases f:r=kz d
  ·subst f;rw[jC,x4,x4];show _=gT (aA (s.c.cl.set d _) d);rw[qI,if_pos ⟨rfl,k⟩];simp[gT,Ze]
  ·rw[aV _ _ f];exact(Le hs cb s f).symm
 ·show Sep K _ G hs cb (lF s.c d _).cl.length;rw[ry];exact h.s.more (kK w g j _).size
end
end
section
section
variable {F Fd:List (List Int)}{c:Core}{h:Nat}{P:List Nat}
theorem kf.y6(L:kf F Fd c h P)(x:Nat):kf F Fd {c with ag:=x} h P:=
 ⟨⟨L.au.rP,L.au.pN,L.au.pe,L.au.lit,L.au.nu,L.au.um,L.au.pos,L.au.ru,L.au.oI,L.au.mz,L.au.qc⟩,⟨L.jG.mD,L.jG.imp,L.jG.tP,L.jG.tQ,L.jG.tR⟩,⟨L.wt.qW,L.wt.qX,L.wt.td,L.wt.uS⟩,L.rR,L.rS,L.cur,L.hle⟩
theorem yE.ov(W:yE c)(k:Nat):(aA c.wt k).length<=c.cl.length:=xQ _ _ (W.td k) (λ d b=>(W.qX k d b).1)
theorem oT.len{n:Nat}{l:List Int}(h:oT n l):l.length<=2*n+2:=by
 have:=xQ (2*n+2) (l.map jy) (by
  have:=h.nu;rw[List.nodup_iff_pairwise_ne] at this⊢;exact List.Pairwise.map _ (λ a b c e=>c (vT e)) this) (λ x d=>by
  obtain⟨y,f,rfl⟩:=List.mem_map.1 d;exact(h.lt y f).at)
 rwa[List.length_map] at this
def kr(c:Core)(k:Nat)(l:List Nat):Core:={c with wt:=c.wt.set k l}
theorem BQ{k:Nat}(hk:k<c.wt.length):kr c k (aA c.wt k)=c:=by
 show{c with wt:=c.wt.set k (aA c.wt k)}=c;rw[FA hk,Zl]
theorem DN(k:Nat)(a b:List Nat):kr (kr c k a) k b=kr c k b:=by simp[kr,Zp]
theorem Lf{k0 ky d k:Nat}{gU raw:List Nat}(b:jy (-(w1 c d))=k0)(e:jy (-(ai (aA c.cl d) k))=ky)(f:ky≠k0):
  kr (sk c d k gU) k0 raw=kr (lF (kr c k0 raw) d (kL (aA c.cl d) 1 k)) ky (aA c.wt ky++[d]):=by
 unfold sk kr lF;simp only[b,e]
 congr 1
 rw[List.set_comm _ _ f,Zp]
end
structure Ap(F:List (List Int))(jH:List Int)(c0 c:Core)(h:Nat):Prop where
 gH:kf F F c h []
 jH:nK c jH
 sm:tY c0 c
end
section
open Go.RowKit Go.Shelf
section
variable {K:Nat->Prop}{base:Nat}{w W:World}{G:Nat}{hs:Nat->aq}{cb:Nat->Nat}{s:an}
theorem BR(h:aP K base w G hs cb s)(x:Int)(o:Option Nat)(T:jU s.c)(b:gF s.c.n x)(f:s.c.n<=60000)(d:s.c.st.length<=1000000):
  Calls y_ 156 #[.pointer (some ⟨G,0,none⟩),.int .i64 x,q3 cb o] w λ e w'=>e=.returned (.tuple #[])/\∃h':aq,aP K base w' G (iH hs 4 h') cb {s with c:=k5 s.c x o}/\aF K w w':=by
 have g:=b.2;have i:=T.len;refine(Ku h.e (Nat.le_of_lt h.e.lt) x o (by rw[T.rP];omega) (by rw[T.pN];omega) (by rw[T.pe];omega) (by omega) (by omega) d).mono ?_;rintro e w' ⟨he,h',E,F,aa⟩;exact⟨he,h',⟨E,(h.s.iS (h.s.aa aa)).more F.size⟩,aF.FX F h.s⟩
theorem BS(h:aP K base w G hs cb s)(T:jU s.c)(d:s.c.n<=60000){x:Int}(b:gF s.c.n x):Calls y_ 152 #[.pointer (some ⟨G,0,none⟩),.int .i64 x] w λ e w'=>e=.returned (.int .i8 (jY s.c x))/\w=w':=
 Ks h.e x (by rw[T.rP];have:=b.2;omega) T.um (by have:=b.2;omega)
theorem GG{n:Nat}{x:Int}(b:gF n x)(c:n<=60000)(w:World):Calls y_ 181 #[.int .i64 x] w λ e w'=>e=.returned (.int .i64 (jy x))/\w=w':=
 Dt x w (by have:=b.2;unfold aI at this;omega) (by have:=b.2;unfold aI at this;omega)
end
def DO(w:World)(p:Addr):Nat:=match w.cell? p with
 |some (.int _ x)=>x.toNat
 |_=>0
theorem aP.y7(h:aP K base w G hs cb s):DO w ⟨G,7,none⟩=s.c.ag:=by
 unfold DO;rw[h.e.kA (k:=7) (v:=.int .i64 s.c.ag) rfl];simp
theorem BU{c2:Core}{k0 g0 kl gU iT:Nat}{raw kept:List Nat}
  (E:aP K base w G hs cb {s with c:=kr c2 k0 raw}) (f:(hs 0).b=some g0) (hk:k0<c2.wt.length) (g:hs (ij k0)=⟨l6,gU,iT⟩) (i:raw.take kl=kept) (hle:kl<=raw.length) (j:aA c2.wt k0=kept):
  aP K base ((w.setCell ⟨g0,k0,none⟩ (.slice l6 kl iT)).drew) G (iH hs (ij k0) ⟨l6,kl,iT⟩) cb {s with c:=c2}/\aF K w ((w.setCell ⟨g0,k0,none⟩ (.slice l6 kl iT)).drew):=by
 have d:aA (kr c2 k0 raw).wt k0=raw:=by show aA (c2.wt.set k0 raw) k0=raw;rw[qI,if_pos ⟨rfl,hk⟩]
 have h1:=E.Ld f (k:=k0) (m:=kl) (by show k0<(c2.wt.set k0 raw).length;rw[r_];exact hk) (by show kl<=(aA (kr c2 k0 raw).wt k0).length;rw[d];exact hle);rw[g] at h1;have e:(({s with c:=kr c2 k0 raw}:an).p6 k0 ((aA ({s with c:=kr c2 k0 raw}:an).c.wt k0).take kl))={s with c:=c2}:=by
  show({s with c:=kr (kr c2 k0 raw) k0 ((aA (kr c2 k0 raw).wt k0).take kl)}:an)=_;rw[d,i,DN,<-j,BQ hk]
 rw[e] at h1;exact⟨h1.1.drew,h1.2.trans aF.drew⟩
def Lh(K:Nat->Prop)(base:Nat)(w:World)(G:Nat)(cb:Nat->Nat)(F:List (List Int))(b:List Int)(s:an)(e:Ending)(w':World):Prop:=
 ∃(p:Option Nat)(c':Core)(hs':Nat->aq)(h':Nat),e=.returned (q3 cb p)/\Ap F b s.c c' h'/\aP K base w' G hs' cb {s with c:=c'}/\aF K w w'/\
  (match p with
   |none=>h'=c'.av.length/\c'.ag=h'
   |some d=>d<c'.cl.length/\∀x∈aA c'.cl d,-x∈c'.av)
end
section
open Go.RowKit Go.Shelf
section
variable {K:Nat->Prop}{base:Nat}{w gb W:World}{G:Nat}{hs:Nat->aq}{cb:Nat->Nat}{s:an}
structure y8(base:Nat)(w:World)(G:Nat)(hs:Nat->aq)(cb:Nat->Nat)(d bk m dh:Nat)(l:List Int):Prop where
 b:(hs (kz d)).b=some bk
 len:l.length=m
 cap:m<=dh
 ag:w.cell? ⟨cb d,0,none⟩=some (.slice (some ⟨bk,0,none⟩) m dh)
 kB:∀j,j<m->w.cell? ⟨bk,j,none⟩=some (.int .i64 (ai l j))
 uV:∀j,w.frozen? ⟨bk,j,none⟩=false
 ne:cb d≠bk
theorem aP.y9(h:aP K base w G hs cb s){d:Nat}(f:d<s.c.cl.length)(l:1<=(aA s.c.cl d).length):∃bk m g,y8 base w G hs cb d bk m g (aA s.c.cl d):=by
 obtain⟨bk,n,b,i⟩:=h.e.wV (r:=kz d) (h.e.Al d) (by omega);have cap:=h.e.x2 b;rw[h.e.Al] at cap;have c0:=(h.Ae f).1;rw[i] at c0;exact⟨bk,_,_,b,rfl,cap,c0,λ j k=>h.e.x6 b k,λ j=>h.e.rows.free b j,h.e.xU f _ _ b⟩
theorem aP.DP(h:aP K base w G hs cb s){k g:Nat}(f:(hs (ij k)).b=some g){j d:Nat}(i:(aA s.c.wt k)[j]? =some d):w.cell? ⟨g,j,none⟩=some (.pointer (some ⟨cb d,0,none⟩)):=h.e.get f (by
 rw[wk];simp[kU,i,tj])
theorem aP.GH(h:aP K base w G hs cb s){g0 k d lG oA:Nat}{oZ:Option Addr}{v0 v':Value}(i:(hs 0).b=some g0)(hk:k<s.c.wt.length)(f:hs (ij k)=⟨oZ,lG,oA⟩)(l:lG=(aA s.c.wt k).length)(m:w.cell? ⟨G,1,none⟩=some v0)
  (g:n9 w base 164 (.slice oZ lG oA) (lG+1) (kU cb (aA s.c.wt k)++[.pointer (some ⟨cb d,0,none⟩)]) v' gb):
  ∃(A':Option Addr)(c':Nat),v'=.slice A' (lG+1) c'/\gb.cell? ⟨G,1,none⟩=some v0/\gb.cell? ⟨g0,k,none⟩=some (.slice oZ lG oA)/\(∀j,gb.frozen? ⟨g0,j,none⟩=false)/\
   (∀b,b<w.heap.size->(hs (ij k)).b≠some b->∀j,gb.cell? ⟨b,j,none⟩=w.cell? ⟨b,j,none⟩)/\aP K base (gb.setCell ⟨g0,k,none⟩ v') G (iH hs (ij k) ⟨A',lG+1,c'⟩) cb (s.p6 k (aA s.c.wt k++[d]))/\aF K w (gb.setCell ⟨g0,k,none⟩ v'):=by
 obtain⟨A',c',n,o,p,f9,E,F⟩:=h.DJ i hk f l m g;refine⟨A',c',n,o,p,f9,λ b q r j=>?_,E,F⟩;have t:=g.2.1;refine p_ (t.block b q (λ e=>r ?_));have:(hs (ij k)).b=(Value.slice oZ lG oA).ownBlock:=by rw[<-aq.own,f];rfl
 rw[this];exact e.symm
theorem Li{kept ls:List Nat}{kl d:Nat}(h:kept.length=kl)(hl:kl<ls.length):(kept++ls.drop kl).set kl d=(kept++[d])++ls.drop (kl+1):=by
 subst h;rw[List.set_append_right _ _ (h_ _),Nat.sub_self,List.drop_eq_getElem_cons hl,List.set_cons_zero,f_];rfl
theorem DQ{c:Core}{k:Nat}{l:List Nat}(T:jU c):jU (kr c k l):=⟨T.rP,T.pN,T.pe,T.lit,T.nu,T.um,T.pos,T.ru,T.oI,T.mz,T.qc⟩
theorem aP.GI(h:aP K base w G hs cb s){d bk i j:Nat}(g:(hs (kz d)).b=some bk)(e:d<s.c.cl.length){x y:Int}(k:ai (aA s.c.cl d) i=x)(l:ai (aA s.c.cl d) j=y):
  aP K base (((w.setCell ⟨bk,i,none⟩ (.int .i64 y)).setCell ⟨bk,j,none⟩ (.int .i64 x)).drew) G hs cb (s.sP d (kL (aA s.c.cl d) i j))/\aF K w (((w.setCell ⟨bk,i,none⟩ (.int .i64 y)).setCell ⟨bk,j,none⟩ (.int .i64 x)).drew):=by
 have h1:=h.GF g e i y;have m:d<(s.sP d ((aA s.c.cl d).set i y)).c.cl.length:=by show d<(lF s.c d _).cl.length;rw[ry];exact e
 have f:=h1.1.GF g m j x;have n:aA (s.sP d ((aA s.c.cl d).set i y)).c.cl d=(aA s.c.cl d).set i y:=by show aA (s.c.cl.set d _) d=_;rw[qI,if_pos ⟨rfl,e⟩]
 have o:((s.sP d ((aA s.c.cl d).set i y)).sP d (((aA s.c.cl d).set i y).set j x))=s.sP d (kL (aA s.c.cl d) i j):=by
  unfold an.sP lF kL;rw[k,l];simp[Zp]
 rw[n,o] at f;exact⟨f.1.drew,h1.2.trans (f.2.trans aF.drew)⟩
end
end
section
open Go.RowKit Go.Shelf
section
variable {K:Nat->Prop}{base:Nat}{w W W' ni:World}{G:Nat}{hs hs':Nat->aq}{cb sr:Nat->Nat}{s s':an}{ls:Nat->aq}{X:Nat->List Value}
theorem iK.app(h:iK K base w W G hs cb s ls X){r:Nat}(f:x3 r=3){xs:List Int}{x:Int}{v':Value}(i:n9 W w.heap.size 3 (ls r).v ((ls r).n+1) ((xs++[x]).map (d_ .i64)) v' ni):
  ∃h':aq,v'=h'.v/\h'.n=(ls r).n+1/\(h'.b=(ls r).b\/∀g,h'.b=some g->W.heap.size<=g)/\iK K base w ni G hs cb s (iH ls r h') (iH X r (gT (xs++[x])))/\KeepsOthers W ni:=by
 obtain⟨c,j,k⟩:=i;obtain⟨A',c',rfl⟩:=Fk c;have d:(⟨A',(ls r).n+1,c'⟩:aq).b=(ls r).b\/∀g,(⟨A',(ls r).n+1,c'⟩:aq).b=some g->W.heap.size<=g:=by
  rcases k with h1|h1
  ·exact .inl (by rw[<-aq.own,<-aq.own];exact h1)
  ·exact .inr (λ g e=>by rw[<-aq.own] at e;have:=h1.symm.trans e;injection this with this;omega)
 refine⟨⟨A',(ls r).n+1,c'⟩,rfl,rfl,d,h.iS (r:=r) (h':=⟨A',(ls r).n+1,c'⟩) (ys:=gT (xs++[x])) (by rw[<-aq.own];exact j) (by rw[f];exact c) d⟩
end
structure kN(K:Nat->Prop)(base:Nat)(w W:World)(G:Nat)(hs:Nat->aq)(cb:Nat->Nat)(s:an)(aH bG bI di aY:Nat)(out mk:List Int)(op:Int)(hU:aq)(iJ:List Value)(ls:Nat->aq)(X:Nat->List Value):Prop where
 de:iK K base w W G hs cb s ls X
 qP:ls 0=oz aH
 iN:X 0=[.pointer (some ⟨G,0,none⟩)]
 hM:ls 1=oz bG
 jR:X 1=[(ls 5).v]
 kC:X 5=gT out
 jK:ls 2=oz bI
 ku:X 2=[(ls 6).v]
 kg:X 6=gT mk
 pJ:ls 3=oz di
 kI:X 3=[.int .i64 op]
 rZ:ls 4=oz aY
 kJ:X 4=[.func (.func 182) #[] #[.pointer (some ⟨aH,0,none⟩),.pointer (some ⟨bI,0,none⟩)]]
 tv:ls 11=hU
 vb:X 11=iJ
section
variable {K:Nat->Prop}{base:Nat}{w W W' ni:World}{G:Nat}{hs hs':Nat->aq}{cb sr:Nat->Nat}{s s':an}{aH bG bI di aY:Nat}{out mk:List Int}{op:Int}{hU:aq}{iJ:List Value}{ls:Nat->aq}{X:Nat->List Value}
theorem kN.vc(h:kN K base w W G hs cb s aH bG bI di aY out mk op hU iJ ls X)(b:iK K base w W' G hs' sr s' ls X):kN K base w W' G hs' sr s' aH bG bI di aY out mk op hU iJ ls X:=⟨b,h.qP,h.iN,h.hM,h.jR,h.kC,h.jK,h.ku,h.kg,h.pJ,h.kI,h.rZ,h.kJ,h.tv,h.vb⟩
theorem kN.bf(h:kN K base w W G hs cb s aH bG bI di aY out mk op hU iJ ls X):(ls 0).b=some aH:=by rw[h.qP];rfl
theorem kN.aU(h:kN K base w W G hs cb s aH bG bI di aY out mk op hU iJ ls X):(ls 1).b=some bG:=by rw[h.hM];rfl
theorem kN.bl(h:kN K base w W G hs cb s aH bG bI di aY out mk op hU iJ ls X):(ls 2).b=some bI:=by rw[h.jK];rfl
theorem kN.jJ(h:kN K base w W G hs cb s aH bG bI di aY out mk op hU iJ ls X):(ls 3).b=some di:=by rw[h.pJ];rfl
theorem kN.tw(h:kN K base w W G hs cb s aH bG bI di aY out mk op hU iJ ls X):(ls 4).b=some aY:=by rw[h.rZ];rfl
theorem kN.bn(h:kN K base w W G hs cb s aH bG bI di aY out mk op hU iJ ls X):W.cell? ⟨aH,0,none⟩=some (.pointer (some ⟨G,0,none⟩)):=(h.de.kB h.bf (by rw[h.iN];rfl)).1
theorem kN.co(h:kN K base w W G hs cb s aH bG bI di aY out mk op hU iJ ls X):W.cell? ⟨bG,0,none⟩=some (ls 5).v/\W.frozen? ⟨bG,0,none⟩=false:=h.de.kB h.aU (by rw[h.jR];rfl)
theorem kN.jh(h:kN K base w W G hs cb s aH bG bI di aY out mk op hU iJ ls X):W.cell? ⟨bI,0,none⟩=some (ls 6).v/\W.frozen? ⟨bI,0,none⟩=false:=h.de.kB h.bl (by rw[h.ku];rfl)
theorem kN.xb(h:kN K base w W G hs cb s aH bG bI di aY out mk op hU iJ ls X):W.cell? ⟨di,0,none⟩=some (.int .i64 op)/\W.frozen? ⟨di,0,none⟩=false:=h.de.kB h.jJ (by rw[h.kI];rfl)
theorem kN.pT(h:kN K base w W G hs cb s aH bG bI di aY out mk op hU iJ ls X):W.cell? ⟨aY,0,none⟩=some (.func (.func 182) #[] #[.pointer (some ⟨aH,0,none⟩),.pointer (some ⟨bI,0,none⟩)]):=(h.de.kB h.tw (by rw[h.kJ];rfl)).1
theorem kN.jZ(h:kN K base w W G hs cb s aH bG bI di aY out mk op hU iJ ls X):(ls 5).n=out.length:=by have:=h.de.rows.len 5;rw[h.kC] at this;simpa[gT] using this.symm
theorem kN.n6(h:kN K base w W G hs cb s aH bG bI di aY out mk op hU iJ ls X):(ls 6).n=mk.length:=by have:=h.de.rows.len 6;rw[h.kg] at this;simpa[gT] using this.symm
theorem kN.grow(h:kN K base w W G hs cb s aH bG bI di aY out mk op hU iJ ls X)(b:Below W.heap.size W W'):kN K base w W' G hs cb s aH bG bI di aY out mk op hU iJ ls X:=h.vc (h.de.grow b)
theorem kN.drew(h:kN K base w W G hs cb s aH bG bI di aY out mk op hU iJ ls X):kN K base w W.drew G hs cb s aH bG bI di aY out mk op hU iJ ls X:=h.vc h.de.drew
theorem kN.Lj(h:kN K base w W G hs cb s aH bG bI di aY out mk op hU iJ ls X){x:Int}{v':Value}(f:n9 W w.heap.size 3 (ls 6).v ((ls 6).n+1) ((mk++[x]).map (d_ .i64)) v' ni):
  ∃A' c' g i,v'=.slice A' ((ls 6).n+1) c'/\ni.cell? ⟨bI,0,none⟩=some (ls 6).v/\ni.frozen? ⟨bI,0,none⟩=false/\kN K base w (ni.setCell ⟨bI,0,none⟩ v') G hs cb s aH bG bI di aY out (mk++[x]) op hU iJ g i/\KeepsOthers W (ni.setCell ⟨bI,0,none⟩ v'):=by
 obtain⟨⟨A',j,c'⟩,rfl,c,o,d,l⟩:=h.de.app (r:=6) rfl f;have c:j=(ls 6).n+1:=c;subst c;have e:(iH ls 6 ⟨A',(ls 6).n+1,c'⟩ 2).b=some bI:=by rw[aV _ _ (by omega)];exact h.bl
 have c2:=d.kB e (k:=0) (v:=(ls 6).v) (by rw[aV _ _ (by omega),h.ku];rfl);obtain⟨m,k2⟩:=d.set e 0 (aq.v ⟨A',(ls 6).n+1,c'⟩);refine⟨A',c',iH ls 6 ⟨A',(ls 6).n+1,c'⟩,_,rfl,c2.1,c2.2,⟨m,?_,?_,?_,?_,?_,?_,?_,?_,?_,?_,?_,?_,?_,?_⟩,l.trans k2⟩
 ·rw[aV _ _ (by omega)];exact h.qP
 ·rw[aV _ _ (by omega),aV _ _ (by omega)];exact h.iN
 ·rw[aV _ _ (by omega)];exact h.hM
 ·rw[aV _ _ (by omega),aV _ _ (by omega),aV _ _ (by omega)];exact h.jR
 ·rw[aV _ _ (by omega),aV _ _ (by omega)];exact h.kC
 ·rw[aV _ _ (by omega)];exact h.jK
 ·rw[jC,aV _ _ (by omega),jC,h.ku];rfl
 ·rw[aV _ _ (by omega),jC]
 ·rw[aV _ _ (by omega)];exact h.pJ
 ·rw[aV _ _ (by omega),aV _ _ (by omega)];exact h.kI
 ·rw[aV _ _ (by omega)];exact h.rZ
 ·rw[aV _ _ (by omega),aV _ _ (by omega)];exact h.kJ
 ·rw[aV _ _ (by omega)];exact h.tv
 ·rw[aV _ _ (by omega),aV _ _ (by omega)];exact h.vb
theorem kN.Lk(h:kN K base w W G hs cb s aH bG bI di aY out mk op hU iJ ls X){x:Int}{v':Value}(f:n9 W w.heap.size 3 (ls 5).v ((ls 5).n+1) ((out++[x]).map (d_ .i64)) v' ni):
  ∃A' c' g i,v'=.slice A' ((ls 5).n+1) c'/\ni.cell? ⟨bG,0,none⟩=some (ls 5).v/\ni.frozen? ⟨bG,0,none⟩=false/\kN K base w (ni.setCell ⟨bG,0,none⟩ v') G hs cb s aH bG bI di aY (out++[x]) mk op hU iJ g i/\KeepsOthers W (ni.setCell ⟨bG,0,none⟩ v'):=by
 obtain⟨⟨A',j,c'⟩,rfl,c,o,d,l⟩:=h.de.app (r:=5) rfl f;have c:j=(ls 5).n+1:=c;subst c;have e:(iH ls 5 ⟨A',(ls 5).n+1,c'⟩ 1).b=some bG:=by rw[aV _ _ (by omega)];exact h.aU
 have c2:=d.kB e (k:=0) (v:=(ls 5).v) (by rw[aV _ _ (by omega),h.jR];rfl);obtain⟨m,k2⟩:=d.set e 0 (aq.v ⟨A',(ls 5).n+1,c'⟩);refine⟨A',c',iH ls 5 ⟨A',(ls 5).n+1,c'⟩,_,rfl,c2.1,c2.2,⟨m,?_,?_,?_,?_,?_,?_,?_,?_,?_,?_,?_,?_,?_,?_⟩,l.trans k2⟩
 ·rw[aV _ _ (by omega)];exact h.qP
 ·rw[aV _ _ (by omega),aV _ _ (by omega)];exact h.iN
 ·rw[aV _ _ (by omega)];exact h.hM
 ·rw[jC,aV _ _ (by omega),jC,h.jR];rfl
 ·rw[aV _ _ (by omega),jC]
 ·rw[aV _ _ (by omega)];exact h.jK
 ·rw[aV _ _ (by omega),aV _ _ (by omega),aV _ _ (by omega)];exact h.ku
 ·rw[aV _ _ (by omega),aV _ _ (by omega)];exact h.kg
 ·rw[aV _ _ (by omega)];exact h.pJ
 ·rw[aV _ _ (by omega),aV _ _ (by omega)];exact h.kI
 ·rw[aV _ _ (by omega)];exact h.rZ
 ·rw[aV _ _ (by omega),aV _ _ (by omega)];exact h.kJ
 ·rw[aV _ _ (by omega)];exact h.tv
 ·rw[aV _ _ (by omega),aV _ _ (by omega)];exact h.vb
theorem kN.DR(h:kN K base w W G hs cb s aH bG bI di aY out mk op hU iJ ls X)(x:Int):∃b,kN K base w (W.setCell ⟨di,0,none⟩ (.int .i64 x)) G hs cb s aH bG bI di aY out mk x hU iJ ls b/\KeepsOthers W (W.setCell ⟨di,0,none⟩ (.int .i64 x)):=by
 obtain⟨c,k2⟩:=h.de.set h.jJ 0 (.int .i64 x);refine⟨_,⟨c,h.qP,?_,h.hM,?_,?_,h.jK,?_,?_,h.pJ,?_,h.rZ,?_,h.tv,?_⟩,k2⟩
 ·rw[aV _ _ (by omega)];exact h.iN
 ·rw[aV _ _ (by omega)];exact h.jR
 ·rw[aV _ _ (by omega)];exact h.kC
 ·rw[aV _ _ (by omega)];exact h.ku
 ·rw[aV _ _ (by omega)];exact h.kg
 ·rw[jC,h.kI];rfl
 ·rw[aV _ _ (by omega)];exact h.kJ
 ·rw[aV _ _ (by omega)];exact h.vb
theorem kN.Ll(h:kN K base w W G hs cb s aH bG bI di aY out mk op hU iJ ls X){g:Nat}(c:(ls 5).b=some g)(k:Nat)(x:Int):∃d,kN K base w (W.setCell ⟨g,k,none⟩ (.int .i64 x)) G hs cb s aH bG bI di aY (out.set k x) mk op hU iJ ls d/\KeepsOthers W (W.setCell ⟨g,k,none⟩ (.int .i64 x)):=by
 obtain⟨e,k2⟩:=h.de.set c k (.int .i64 x);refine⟨_,⟨e,h.qP,?_,h.hM,?_,?_,h.jK,?_,?_,h.pJ,?_,h.rZ,?_,h.tv,?_⟩,k2⟩
 ·rw[aV _ _ (by omega)];exact h.iN
 ·rw[aV _ _ (by omega)];exact h.jR
 ·rw[jC,h.kC];unfold gT;rw[Ze]
 ·rw[aV _ _ (by omega)];exact h.ku
 ·rw[aV _ _ (by omega)];exact h.kg
 ·rw[aV _ _ (by omega)];exact h.kI
 ·rw[aV _ _ (by omega)];exact h.kJ
 ·rw[aV _ _ (by omega)];exact h.vb
theorem kN.Lm(h:kN K base w W G hs cb s aH bG bI di aY out mk op hU iJ ls X)(v:Value):∃b c,kN K base w (W.alloc (.cells #[v] 3)) G hs cb s aH bG bI di aY out mk op (oz W.heap.size) [v] b c:=by
 have B:=h.de.box 11 v;refine⟨_,_,⟨B,?_,?_,?_,?_,?_,?_,?_,?_,?_,?_,?_,?_,jC _ _ _,jC _ _ _⟩⟩
 ·rw[aV _ _ (by omega)];exact h.qP
 ·rw[aV _ _ (by omega)];exact h.iN
 ·rw[aV _ _ (by omega)];exact h.hM
 ·rw[aV _ _ (by omega),aV _ _ (by omega)];exact h.jR
 ·rw[aV _ _ (by omega)];exact h.kC
 ·rw[aV _ _ (by omega)];exact h.jK
 ·rw[aV _ _ (by omega),aV _ _ (by omega)];exact h.ku
 ·rw[aV _ _ (by omega)];exact h.kg
 ·rw[aV _ _ (by omega)];exact h.pJ
 ·rw[aV _ _ (by omega)];exact h.kI
 ·rw[aV _ _ (by omega)];exact h.rZ
 ·rw[aV _ _ (by omega)];exact h.kJ
end
def Lo(K:Nat->Prop)(base:Nat)(w W:World)(G:Nat)(hs:Nat->aq)(cb:Nat->Nat)(s:an)(aH bG bI di aY:Nat)(out mk:List Int)(op:Int)(hU:aq)(iJ:List Value)(v:Nat)(e:Ending)(W':World):Prop:=
 e=.returned (.tuple #[])/\∃b c,kN K base w W' G hs cb (s.tn v true) aH bG bI di aY out (mk++[(v:Int)]) op hU iJ b c/\KeepsOthers W W'
theorem Lp(h:kN K base w W G hs cb s aH bG bI di aY out mk op hU iJ ls X)
  (v:Nat) (r:v<s.aK.length) (hm:mk.length<=1000000):
  Calls y_ 182 #[.int .i64 (v:Int),.pointer (some ⟨aH,0,none⟩),.pointer (some ⟨bI,0,none⟩)] W (Lo K base w W G hs cb s aH bG bI di aY out mk op hU iJ v):=by
 obtain⟨g12,f,t,f12⟩:=h.de.gA.e.lN 16 12 rfl h.de.gA.e.n12 (by omega);have bn:=h.bn;have aS:(v:Int)<(s.aK.length:Int):=by omega
 have c12:=h.de.gA.e.Aa f r;have u:=f12 v;have i:=h.de.back (h.de.call.wW f v true).1 (h.de.call.wW f v true).2;have b:=U (h.vc i.1);have qi:=U i.2;clear i h f12 f;go_enter Tryz.func182,Tryz.ntmps182
 go_upto_region 1 with fail
 generalize W.setCell ⟨g12,v,none⟩ (.bool true)=V at b qi⊢;obtain⟨j,n6,c6,d⟩:∃A n c,ls 6=⟨A,n,c⟩:=⟨_,_,_,rfl⟩
 have m:n6=mk.length:=by have:=b.o.n6;rw[d] at this;exact this
 have jh:V.cell? ⟨bI,0,none⟩=some (.slice j n6 c6):=by have jh:=b.o.jh.1;rw[d] at jh;exact jh
 have g:=U (b.o.grow (bg V (lW [(v:Int)])));have y:bF ((V.alloc (lW [(v:Int)])).ownsRow w.heap.size 3 1 (.slice j n6 c6) n6 (mk.map (d_ .i64))):=U (by have:=g.o.de.rows.row 6;rw[d,g.o.kg] at this;exact this);have z:=U (aN.lit V [(v:Int)] 1 V.heap.size rfl rfl (by omega));have p:=U (z_ d m);have iQ:=b.o.jh.2;clear t bn c12 u d m
 go_wp2_with (at_builtin;refine vp rfl (.tmp 10) (.tmp 12) rfl w.heap.size (.slice j n6 c6) n6 mk rfl y.o (some ⟨V.heap.size,0,none⟩) 1 1 [(v:Int)] rfl z.o (by have:=p.o.2;omega) g.o.de.iQ.size ?_;intro v9 gb q;obtain⟨A',c',B,C,rfl,a1,a2,k,l⟩:=g.o.Lj (x:=(v:Int)) (v':=v9) (by rw[p.o.1];exact q);have k:=U k;have l:=U l;clear q)
 go_end0;exact⟨rfl,B,C,k.o,qi.o.trans ((KeepsOthers.below (bg V _)).trans l.o)⟩
end
section
open Go.RowKit Go.Shelf
def ve:Code->Nat->Option Code
 | .block k c,n=>if k=n then some c else ve c n
 | .seq a b,n=>match ve a n with
  |some c=>some c
  |none=>ve b n
 | .loop c,n=>ve c n
 | .scope c,n=>ve c n
 | .cond _ a b,n=>match ve a n with
  |some c=>some c
  |none=>ve b n
 |_,_=>none
def nw:Code->Code
 | .seq _ b=>b
 |c=>c
def DS:Code->Code
 | .seq a _=>a
 |c=>c
def BV:Code->Code
 | .cond _ a _=>a
 |c=>c
def GJ:Code->Code
 | .loop c=>c
 |c=>c
noncomputable def runIn:Code:=GJ (((Tryz.f145.body.bind λ c=>ve c 2)).getD .skip)
noncomputable def GK:Code:=(Tryz.f145.body.bind λ c=>ve c 3).getD .skip
noncomputable def Lr:Code:=nw (nw (nw (nw GK)))
noncomputable def Ls:Code:=GJ ((Tryz.f145.body.bind λ c=>ve c 4).getD .skip)
noncomputable def GL:Code:=BV (nw ((Tryz.f145.body.bind λ c=>ve c 5).getD .skip))
structure r0(G:Nat)(gB:Nat->aq)(c1:Core)(s:an)(lit:Int)(ls:List Nat)(k0 g0 iR gU iT:Nat):Prop where
 bf:(gB 0).b=some g0
 ag:gB (ij k0)=⟨some ⟨iR,0,none⟩,gU,iT⟩
 len:gU=ls.length
 lb:gU<=100000
 cap:gU<=iT
 kB:jy lit=k0
 ok:gF s.c.n lit
 wt:c1.wt.length=2*s.c.n+2
 n:c1.n=s.c.n
 aj:s.c.n<=60000
 jq:s.c.st.length<=1000000
 hk:k0<2*s.c.n+2
 st:c1.st=s.c.st
 cl:c1.cl.length=s.c.cl.length
 DT:s.c.cl.length<=100000
structure mB(K:Nat->Prop)(base:Nat)(w:World)(G:Nat)(cb:Nat->Nat)(F:List (List Int))(ax:List Int)(s:an)(c1:Core)(gB:Nat->aq)(aL:Nat)(lit:Int)(ls:List Nat)(k0:Nat)(i kl:Nat)(kept:List Nat)(c2:Core)(jS:Nat->aq)(W:World):Prop where
 nY:ot F F ax c1 aL lit ls i kept c2
 tA:kept.length=kl
 gA:aP K base W G jS cb {s with c:=kr c2 k0 (kept++ls.drop kl)}
 hw:jS (ij k0)=gB (ij k0)
 ay:jS 0=gB 0
 iQ:aF K w W
section
variable {K:Nat->Prop}{base:Nat}{w W:World}{G:Nat}{gB jS:Nat->aq}{cb:Nat->Nat}{s:an}{F:List (List Int)}{ax:List Int}{c1 c2:Core}{aL:Nat}{lit:Int}{ls:List Nat}{k0 g0 iR gU iT i kl d:Nat}{kept:List Nat}
theorem mB.lD(b:mB K base w G cb F ax s c1 gB aL lit ls k0 i kl kept c2 jS W)(C:r0 G gB c1 s lit ls k0 g0 iR gU iT):c2.n=s.c.n:=b.nY.sm.n.trans C.n
theorem mB.wm(b:mB K base w G cb F ax s c1 gB aL lit ls k0 i kl kept c2 jS W)(C:r0 G gB c1 s lit ls k0 g0 iR gU iT):c2.wt.length=2*s.c.n+2:=b.nY.sm.BC.trans C.wt
theorem mB.raw(b:mB K base w G cb F ax s c1 gB aL lit ls k0 i kl kept c2 jS W)(C:r0 G gB c1 s lit ls k0 g0 iR gU iT):(kr c2 k0 (kept++ls.drop kl)).wt.length=2*s.c.n+2:=by
 show(c2.wt.set _ _).length=_;rw[r_];exact b.wm C
theorem mB.Lt(b:mB K base w G cb F ax s c1 gB aL lit ls k0 i kl kept c2 jS W)(C:r0 G gB c1 s lit ls k0 g0 iR gU iT):c2.cl.length<=100000:=by have:=b.nY.sm.len;have:=C.cl;have:=C.DT;omega
theorem mB.BW(b:mB K base w G cb F ax s c1 gB aL lit ls k0 i kl kept c2 jS W):kl<=i:=b.tA▸b.nY.kl
theorem mB.bf(c:mB K base w G cb F ax s c1 gB aL lit ls k0 i kl kept c2 jS W)(C:r0 G gB c1 s lit ls k0 g0 iR gU iT):(jS 0).b=some g0:=by rw[c.ay];exact C.bf
theorem mB.kZ(c:mB K base w G cb F ax s c1 gB aL lit ls k0 i kl kept c2 jS W)(C:r0 G gB c1 s lit ls k0 g0 iR gU iT):(jS (ij k0)).b=some iR:=by rw[c.hw,C.ag];rfl
theorem mB.rF(b:mB K base w G cb F ax s c1 gB aL lit ls k0 i kl kept c2 jS W)(c:ls[i]? =some d):d<c2.cl.length/\2<=(aA c2.cl d).length:=by
 obtain⟨e,rfl⟩:=Zr.1 c;have:=b.nY.rF e;exact⟨this.1,this.2.1⟩
theorem mB.ok(b:mB K base w G cb F ax s c1 gB aL lit ls k0 i kl kept c2 jS W)(C:r0 G gB c1 s lit ls k0 g0 iR gU iT){k:Nat}(e:ls[i]? =some d)(hk:k<(aA c2.cl d).length):gF s.c.n (ai (aA c2.cl d) k):=by
 have:=(b.nY.gH.jG.mD d (b.rF e).1).lt _ (lY hk);rw[b.lD C] at this;exact this
theorem mB.m(b:mB K base w G cb F ax s c1 gB aL lit ls k0 i kl kept c2 jS W)(C:r0 G gB c1 s lit ls k0 g0 iR gU iT)(c:ls[i]? =some d):(aA c2.cl d).length<=120002:=by
 have:=(b.nY.gH.jG.mD d (b.rF c).1).len;rw[b.lD C] at this;have:=C.aj;omega
end
end
section
open Go.RowKit Go.Shelf
attribute [local go_sem] Zn
def qw:Code->Nat->Option Code
 | .block k c,n=>if k=n then some c else qw c n
 | .seq a b,n=>match qw a n with
  |some c=>some c
  |none=>qw b n
 | .loop c,n=>qw c n
 | .scope c,n=>qw c n
 | .cond _ a b,n=>match qw a n with
  |some c=>some c
  |none=>qw b n
 | .rangeFunc _ _ _ b,n=>qw b n
 |_,_=>none
noncomputable def Lu:Code:=(Tryz.f146.body.bind λ c=>qw c 3).getD .skip
structure sy(n:Nat)(B:Int)(aG:an)(aK:List Bool)(s:an):Prop where
 hk:ou aG {s with aK:=aG.aK}
 aK:s.aK=aK
 rg:mh n jl B s
theorem sy.mark(h:sy n B aG aK s)(v:Nat)(b:Bool):sy n B aG (aK.set v b) (s.tn v b):=
 ⟨h.hk,by show s.aK.set v b=_;rw[h.aK],⟨h.rg.gV,h.rg.lJ,h.rg.kM,h.rg.pR,h.rg.a0,h.rg.rG,h.rg.oU,h.rg.nE,h.rg.oV,h.rg.nX,h.rg.qg,h.rg.kW⟩⟩
theorem sy.GM{q5:Int}{s':an}(h:sy n B aG aK s)(k:ou s s')(r:mh n jl q5 s'):sy n q5 aG aK s':=
 ⟨⟨k.c.trans h.hk.c,k.bH.trans h.hk.bH,k.aJ.trans h.hk.aJ,k.aD.trans h.hk.aD,rfl,k.nl.trans h.hk.nl,k.jg.trans h.hk.jg,k.ol.trans h.hk.ol,h.hk.same.trans k.same,k.nX.trans h.hk.nX,λ d=>⟨(k.ci d).1.trans (h.hk.ci d).1,(k.ci d).2.trans (h.hk.ci d).2⟩⟩,k.aK.trans h.aK,r⟩
theorem sy.c{n:Nat}{B:Int}{aG s:an}{aK:List Bool}(h:sy n B aG aK s):s.c=aG.c:=h.hk.c
inductive wo(c0:Core)(x:Int)(aK:List Bool)(out mk:List Int)(op:Int):List Bool->List Int->List Int->Int->Prop
 |skip (h:jr aK (aI x)=true\/aS c0 x=0):wo c0 x aK out mk op aK out mk op
 |nv (h:jr aK (aI x)=false) (ay:aS c0 x≠0) (h1:aS c0 x=c0.st.length):wo c0 x aK out mk op (aK.set (aI x) true) out (mk++[(aI x:Int)]) (op+1)
 |put (h:jr aK (aI x)=false) (ay:aS c0 x≠0) (h1:aS c0 x≠c0.st.length):wo c0 x aK out mk op (aK.set (aI x) true) (out++[x]) (mk++[(aI x:Int)]) op
theorem Lv{l:Nat}
  (L:kN K base w W G hs cb s aH bG bI di aY out mk op hU iJ ls X) (f:sy n B aG aK s) (bd:n<=10) (aU:aG.c.st.length<=1000000) (aV:aG.aJ.length<=100000) (ad:aK.length=n+1) (ae:aG.c.lvl.length=n+1) (af:0<=B) (ag:B<=4611686018427387904) (F:gF n x) (hm:mk.length<=1000) (ah:out.length<=1000) (ai:0<=op/\op<=1000)
  (aj:∀a W,Q .outgrown a W->False)
  (ak:∀(a:Act)(W':World)(s':an)(H:Nat->aq)(I:Nat->List Value)(al:List Bool)(ao mk':List Int)(ar:Int),wo aG.c x aK out mk op al ao mk' ar->sy n B aG al s'->kN K base w W' G hs cb s' aH bG bI di aY ao mk' ar hU iJ H I->KeepsOthers W W'->Q .normal a W'):
  Code.wpIn (b_.inRound l) 4 y_ Lu (Exit.inBlock 3 Q) {tmps:= #[.pointer (some ⟨G,0,none⟩),j7,.pointer (some ⟨aH,0,none⟩),gx,.pointer (some ⟨bG,0,none⟩),gQ,.pointer (some ⟨bI,0,none⟩),.pointer (some ⟨aY,0,none⟩),.pointer (some ⟨di,0,none⟩),kP,gG,.int .i64 x,dm,gP,gr,gC,u16,dn,dr,dw,gd,dx,dy,dz,dA,dB,dD,dF,dG,cr,ct,cu,u32,cv,cw,cz,cA,cB,cC,cD,cE,cF,cG,cH,dH,dI,gM,gK,gL,bu,bw,bx,bz,bA,bB,bC,bD,bE,bK,bL,bM,bN,bO,bP,u64,bQ,bR,bS,bT,bU,bV,bW,bX,bY,bZ,b5,b6,b7,b8,b9,cc,cg,ck,cm,cn,cp,dJ,dK,dL,dM,dN,dO,dP,dQ,cI,cK,cL,cM,cN,cO,cQ,cR,cS,cT,cU,cV,cW,cZ,c7,c8,dc,dR,dS,dU,dV,dW,dX,dY,dZ,ec,ee,ef,ei,ej,ek,en,eo,ep,er,eu,ew,ey,ez,eA,eB,eC,eD,eE,eF,eG,eH,gh,gi,gj,eL,eM,eN,eO,eP,eR,eS,eT,eU,eV,eW,eX,gl,gm,gn,eY,eZ,e3,e4,e5,e6,e7,e8,e9,fc,fe,ff,fh,fk,fm,fo,fq,fu,fA,fB,fC,fD,fE,fF,fG,fH,fI,fJ,fK,fL,fM,fN,fO,fP,fQ,fR,gu,gv,fS,fT,fU,fV,fW,fZ,ga],defers:=[]} W:=by
 have C:=U L;have nU:=U f;have D:=U ak;obtain⟨v,i⟩:∃v,aI x=v:=⟨_,rfl⟩
 have au:1<=v/\v<=n:=by rw[<-i];exact F
 have J:bF (∀w:World,Calls y_ 97 #[.int .i64 x] w λ e w'=>e=.returned (.int .i64 (v:Int))/\w=w'):=U (λ w=>by have:=sM x w (by unfold aI at i;omega) (by unfold aI at i;omega);rw[i] at this;exact this);obtain⟨g12,av,aW,f12⟩:=L.de.gA.e.lN 16 12 rfl L.de.gA.e.n12 (by rw[f.aK];omega);have c12:=L.de.gA.e.Aa av (k:=v) (by rw[f.aK];omega);obtain⟨g2,t,M,f2⟩:=L.de.gA.e.lN 3 2 rfl L.de.gA.e.lD (by rw[f.c];omega);have c2:=L.de.gA.e.v7 t (k:=v) (by rw[f.c];omega);have bf:(v:Int)<(s.aK.length:Int):=by rw[f.aK];omega
 have aX:(v:Int)<(s.c.lvl.length:Int):=by rw[f.c];omega
 have bn:=L.bn;obtain⟨g,N⟩:∃l,gO s.c.lvl v=l:=⟨_,rfl⟩
 obtain⟨aw,O⟩:∃b,jr s.aK v=b:=⟨_,rfl⟩
 rw[N] at c2;rw[O] at c12;have ax:aS aG.c x=g:=by show gO aG.c.lvl (aI x)=g;rw[i,<-f.c];exact N
 have ay:jr aK (aI x)=aw:=by rw[i,<-f.aK];exact O
 have d:=U (z_ i (z_ au (z_ ax (z_ ay (z_ ad (z_ ae (z_ af (z_ ag (z_ F (z_ hm (z_ ah (z_ ai (z_ aU aV)))))))))))));clear L f ak i au N O ax ay ad ae af ag F hm ah ai av t f12 f2
 conv=>arg 4;whnf
 cases aw with
 |true=>
  gi_wp2_with (refine⟨trivial,?_⟩;gi_at_call 97;refine(x_ l (s_.2 (J.o _))).mono ?_;rintro e w1 ⟨rfl,rfl⟩)
  exact D.o _ _ s ls X aK out mk op (wo.skip (.inl d.o.2.2.2.1)) nU.o C.o (Zc _)
 |false=>
  by_cases u:g=0
  ·have d1:((g:Int)==0)=true:=by simp[u]
   have P:=U u;subst u
   gi_wp2_with (refine⟨trivial,?_⟩;gi_at_call 97;refine(x_ l (s_.2 (J.o _))).mono ?_;rintro e w1 ⟨rfl,rfl⟩)
   exact D.o _ _ s ls X aK out mk op (wo.skip (.inr d.o.2.2.1)) nU.o C.o (Zc _)
  ·have d1:((g:Int)==0)=false:=by simp;omega
   have P:=U u;have pT:=C.o.pT;have az:=Lp C.o v (by rw[nU.o.aK,d.o.2.2.2.2.1];have:=d.o.2.1;omega) (by have:=d.o;omega)
   gi_wp2_with (refine⟨trivial,?_⟩;gi_at_call 97;refine(x_ l (s_.2 (J.o _))).mono ?_;rintro e w1 ⟨rfl,rfl⟩)
   clear u;refine⟨trivial,?_⟩
   gi_at_call 182
   refine(x_ l (s_.2 az)).mono ?_;clear az;rintro e w1 ⟨rfl,aA,bh,R,aB⟩;dsimp only;have S:=U R;have aZ:=U aB;have bn:=R.bn;clear R aB c12 c2 aW M pT;have aC:=U (nU.o.mark v true);have aD:=KW S.o.de.call aC.o.rg (by omega) (by rw[show(s.tn v true).aJ=s.aJ from rfl,show s.aJ=aG.aJ from nU.o.hk.aJ];exact d.o.2.2.2.2.2.2.2.2.2.2.2.2.2) d.o.2.2.2.2.2.2.1 d.o.2.2.2.2.2.2.2.1 v d.o.2.1
   gi_wp2
   refine⟨trivial,?_⟩
   gi_at_call 184
   refine(x_ l (s_.2 aD)).mono ?_;clear aD;rintro e E ⟨rfl,s2,aE,aF,aL,f2⟩;dsimp only;have T:=S.o.de.back aL f2;have j:=U (S.o.vc T.1);have a6:=U (aZ.o.trans T.2);have m:=U (aC.o.GM aE aF);clear aE aF aL f2 T bn;have bn:=j.o.bn;obtain⟨g2,t,M,f2⟩:=j.o.de.gA.e.lN 3 2 rfl j.o.de.gA.e.lD (by rw[m.o.c];have:=d.o;omega);have c2:=j.o.de.gA.e.v7 t (k:=v) (by rw[m.o.c];have:=d.o;omega);have aX:(v:Int)<(s2.c.lvl.length:Int):=by rw[m.o.c];have:=d.o;omega
   rw[show gO s2.c.lvl v=g by rw[m.o.c,<-d.o.1];exact d.o.2.2.1] at c2;obtain⟨a7,jZ,c5,V⟩:∃A n c,hs 5=⟨A,n,c⟩:=⟨_,_,_,rfl⟩
   obtain⟨y,Y⟩:∃n,aG.c.st.length=n:=⟨_,rfl⟩
   have aM:jZ=y:=by have:=j.o.de.gA.e.jZ;rw[V,m.o.c] at this;exact this.trans Y
   have a8:E.cell? ⟨G,6,none⟩=some (.slice a7 y c5):=by have:=j.o.de.gA.e.kA (k:=6) (v:=(hs 5).v) rfl;rw[V,aM] at this;exact this
   have aO:=U Y;clear Y V aM t f2
   gi_wp2
   refine C8 12 (by kernel_rfl) (by kernel_rfl) (by rintro⟨_,_,h⟩;exact aj _ _ h) (by kernel_rfl) ?_;simp only[n_,j_,m_,g_]
   iterate 12 still_step
   refine Zu ?_;change wpList _ _ _ _ _ E.drew;have p:=U j.o.drew;have aP:=U (a6.o.trans (KeepsOthers.drew E));clear bn M c2 a8;generalize E.drew=q at*
   by_cases h1:g=y
   ·have d2:((g:Int)==(y:Int))=true:=by simp[h1]
    have H1:=U h1;clear h1;have xb:=p.o.xb.1;have bj:=p.o.xb.2;have bk:v_.wrap (op+1)=op+1:=by rw[w_];have:=d.o;omega
    go_wp2_with fail
    gi_wp2
    obtain⟨a',r,ba⟩:=p.o.DR (op+1);exact D.o _ _ s2 aA a' (aK.set v true) out (mk++[(v:Int)]) (op+1) (by rw[<-d.o.1];exact wo.nv d.o.2.2.2.1 (by rw[d.o.2.2.1];exact P.o) (by rw[d.o.2.2.1,aO.o];exact H1.o)) m.o r (aP.o.trans ba)
   ·have d2:((g:Int)==(y:Int))=false:=by simp;omega
    have H1:=U h1;clear h1;obtain⟨Z,n6,c6,z⟩:∃A n c,aA 5=⟨A,n,c⟩:=⟨_,_,_,rfl⟩
    have aQ:n6=out.length:=by have:=p.o.jZ;rw[z] at this;exact this
    have co:q.cell? ⟨bG,0,none⟩=some (.slice Z n6 c6):=by have:=p.o.co.1;rw[z] at this;exact this
    have bl:=p.o.co.2;have r:=U (p.o.grow (bg q (lW [x])));have bb:bF ((q.alloc (lW [x])).ownsRow w.heap.size 3 1 (.slice Z n6 c6) n6 (out.map (d_ .i64))):=U (by have:=r.o.de.rows.row 5;rw[z,r.o.kC] at this;exact this);have bc:=U (aN.lit q [x] 1 q.heap.size rfl rfl (by omega));have aR:=U (z_ z aQ);clear z aQ
    go_wp2_with fail
    gi_step
    refine Fz (by kernel_rfl) (by rintro⟨_,_,h⟩;exact aj _ _ h) ?_
    go_wp2_with (at_builtin;refine vp rfl (.tmp 88) (.tmp 90) rfl w.heap.size (.slice Z n6 c6) n6 out rfl bb.o (some ⟨q.heap.size,0,none⟩) 1 1 [x] rfl bc.o (by have:=aR.o.2;have:=d.o;omega) r.o.de.iQ.size ?_;intro v9 gb aT;obtain⟨A',c',H,I,rfl,a1,a2,aa,ab⟩:=r.o.Lk (x:=x) (v':=v9) (by rw[aR.o.1];exact aT);have aa:=U aa;have ab:=U ab;clear aT)
    gi_wp2
    exact D.o _ _ s2 H I (aK.set v true) (out++[x]) (mk++[(v:Int)]) op (by rw[<-d.o.1];exact wo.put d.o.2.2.2.1 (by rw[d.o.2.2.1];exact P.o) (by rw[d.o.2.2.1,aO.o];exact H1.o)) m.o aa.o (aP.o.trans ((KeepsOthers.below (bg q _)).trans ab.o))
end
section
open Go.RowKit Go.Shelf
structure vE(F Fd:List (List Int))(aG:an)(n h:Nat)(jW:Int):Prop where
 gH:kf F Fd aG.c h []
 gV:aG.c.n=n
 n10:n<=10
 st1:0<aG.c.st.length
 st2:aG.c.st.length<=1000000
 kW:aG.aJ.length<=100000
 bf:0<=jW
 aU:jW+16*jl<=4611686018427387904
structure nx(K:Nat->Prop)(base:Nat)(w W:World)(G:Nat)(hs:Nat->aq)(cb:Nat->Nat)(n:Nat)(B:Int)(F:List (List Int))(aG:an)(aH bG bI di aY:Nat)(hU:aq)(iJ:List Value)(i:Nat)(ex:List Int)(ds:List Nat)(s:an)(aK:List Bool)(au mk:List Int)(ls:Nat->aq)(X:Nat->List Value):Prop where
 aJ:kN K base w W G hs cb s aH bG bI di aY (0::au) mk (nv aG.c aK i:Int) hU iJ ls X
 kT:sy n B aG aK s
 li:oy F aG.c i aK au ex
 sR:mk.Nodup
 qR:∀z:Int,z∈mk↔∃v:Nat,z=v/\jr aK v=true
 sS:au.length<=mk.length
 ms:pH w.heap.size W ds
section
variable {K:Nat->Prop}{base:Nat}{w W W':World}{G:Nat}{hs:Nat->aq}{cb:Nat->Nat}{n h:Nat}{B jW:Int}{F Fd:List (List Int)}{aG s s':an}{aH bG bI di aY:Nat}{hU:aq}{iJ:List Value}{i:Nat}{ex:List Int}{ds:List Nat}{aK sQ:List Bool}{au mk:List Int}{ls mS:Nat->aq}{X lI:Nat->List Value}
theorem GN{l:List Bool}{v:Nat}(h:jr l v=true):v<l.length:=by
 rcases Nat.lt_or_ge v l.length with h1|h1
 ·exact h1
 ·unfold jr at h;rw[List.getD_eq_getElem?_getD,List.getElem?_eq_none h1] at h;cases h
theorem DU{aK:List Bool}{mk:List Int}(c:mk.Nodup)(hm:∀z:Int,z∈mk↔∃v:Nat,z=v/\jr aK v=true):mk.length<=aK.length:=by
 have h1:(mk.map Int.toNat).Nodup:=by
  show List.Pairwise _ _;rw[List.pairwise_map];refine List.Pairwise.imp_of_mem (λ{x y} b d f e=>?_) c;obtain⟨v,rfl,_⟩:=(hm x).1 b;obtain⟨u,rfl,_⟩:=(hm y).1 d;simp at e;exact f (by rw[e])
 have:=xQ aK.length (mk.map Int.toNat) h1 (λ x b=>by
  obtain⟨z,g,rfl⟩:=List.mem_map.1 b;obtain⟨v,rfl,i⟩:=(hm z).1 g;simpa using GN i)
 simpa using this
theorem nx.ov(H:nx K base w W G hs cb n B F aG aH bG bI di aY hU iJ i ex ds s aK au mk ls X)(C:vE F Fd aG n h jW):mk.length<=11/\aK.length=n+1:=by
 have h1:=DU H.sR H.qR;have b:=H.li.tS;rw[C.gV] at b;have:=C.n10;omega
theorem Aq(c:Core)(aK:List Bool)(i:Nat):nv c aK i<=i:=by
 have:=List.countP_le_length (p:=pg c aK) (l:=List.range i);rw[List.length_range] at this;exact this
theorem nx.step(C:vE F Fd aG n h jW){x:Int}(H:nx K base w W G hs cb n B F aG aH bG bI di aY hU iJ i (x::ex) ds s aK au mk ls X){za mk':List Int}{zb:Int}(t:wo aG.c x aK (0::au) mk (nv aG.c aK i) sQ za mk' zb)(j:sy n B aG sQ s')
  (L:kN K base w W' G hs cb s' aH bG bI di aY za mk' zb hU iJ mS lI) (k:KeepsOthers W W'):∃u,nx K base w W' G hs cb n B F aG aH bG bI di aY hU iJ i ex ds s' sQ u mk' mS lI:=by
 have T:=C.gH.au;have m:gF aG.c.n x:=H.li.wT x (by simp);have o:aK.length=aG.c.n+1:=H.li.tS;have l:∀(d:jr aK (aI x)=false),(mk++[(aI x:Int)]).Nodup/\∀z:Int,z∈mk++[(aI x:Int)]↔∃v:Nat,z=v/\jr (aK.set (aI x) true) v=true:=λ d=>by
  refine⟨?_,λ z=>?_⟩
  ·rw[List.nodup_append];refine⟨H.sR,by simp,λ a y b r e=>?_⟩;rw[u_] at r;subst r;subst e;obtain⟨v,f,p⟩:=(H.qR _).1 y;rw[show v=aI x by omega] at p;rw[d] at p;cases p
  ·rw[k_,u_,H.qR];constructor
   ·rintro(⟨v,rfl,f⟩|rfl)
    ·exact⟨v,rfl,by rw[Bt o m];split;rfl;exact f⟩
    ·exact⟨aI x,rfl,by rw[Bt o m,if_pos rfl]⟩
   ·rintro⟨v,rfl,f⟩;rw[Bt o m] at f;split at f
    ·rename_i e;exact .inr (by rw[e])
    ·exact .inl ⟨v,rfl,f⟩
 cases t with
 |skip g=>
  rcases g with g|g
  ·exact⟨au,L,j,H.li.seen T g,H.sR,H.qR,H.sS,H.ms.others k⟩
  ·exact⟨au,L,j,H.li.drop T C.gH.jG C.st1 g,H.sR,H.qR,H.sS,H.ms.others k⟩
 |nv d q h1=>
  obtain⟨a1,a2⟩:=(H.li.mark T d q).1 h1;refine⟨au,?_,j,a1,(l d).1,(l d).2,by rw[t_];have:=H.sS;omega,H.ms.others k⟩;rw[a2];exact L
 |put d q h1=>
  obtain⟨a1,a2⟩:=(H.li.mark T d q).2 h1;refine⟨au++[x],?_,j,a1,(l d).1,(l d).2,by rw[t_,t_,q_,q_];have:=H.sS;omega,H.ms.others k⟩;rw[a2];exact L
theorem nx.vc(H:nx K base w W G hs cb n B F aG aH bG bI di aY hU iJ i ex ds s aK au mk ls X){zc:aq}{ze:List Value}(L:kN K base w W' G hs cb s aH bG bI di aY (0::au) mk (nv aG.c aK i:Int) zc ze mS lI)(k:KeepsOthers W W'):nx K base w W' G hs cb n B F aG aH bG bI di aY zc ze i ex ds s aK au mk mS lI:=
 ⟨L,H.kT,H.li,H.sR,H.qR,H.sS,H.ms.others k⟩
theorem nx.grow(H:nx K base w W G hs cb n B F aG aH bG bI di aY hU iJ i ex ds s aK au mk ls X)(b:Below W.heap.size W W'):nx K base w W' G hs cb n B F aG aH bG bI di aY hU iJ i ex ds s aK au mk ls X:=H.vc (H.aJ.grow b) (KeepsOthers.below b)
theorem nx.ua(H:nx K base w W G hs cb n B F aG aH bG bI di aY hU iJ i ex ds s aK au mk ls X){N:Nat}{row:Option Nat}(c:W.grownBy W' row)(b:∀r,row=some r->N<=r/\∃o:Obj,W.heap[r]? =some o/\o.isCells=false)(d:w.heap.size<=N)(f:∀D∈ds,D<N):nx K base w W' G hs cb n B F aG aH bG bI di aY hU iJ i ex ds s aK au mk ls X:=
 ⟨H.aJ.vc (H.aJ.de.ua c (λ r e=>⟨Zd d (b r e).1,(b r e).2⟩)),H.kT,H.li,H.sR,H.qR,H.sS,H.ms.kept c (λ D g e=>by have:=(b D e.symm).1;have:=f D g;omega)⟩
theorem sy.mono(b:sy n B aG aK s){q5:Int}(c:B<=q5):sy n q5 aG aK s:=⟨b.hk,b.aK,b.rg.mono (Int.le_refl _) c⟩
theorem nx.up(H:nx K base w W G hs cb n B F aG aH bG bI di aY hU iJ i ex ds s aK au mk ls X){q5:Int}(b:B<=q5):nx K base w W G hs cb n q5 F aG aH bG bI di aY hU iJ i ex ds s aK au mk ls X:=⟨H.aJ,H.kT.mono b,H.li,H.sR,H.qR,H.sS,H.ms⟩
theorem nx.mark(H:nx K base w W G hs cb n B F aG aH bG bI di aY hU iJ i ex ds s aK au mk ls X){D:Nat}(b:w.heap.size<=D)(hm:W.heap[D]? =some (.deferred (some [])))(c:∀E∈ds,E<D):nx K base w W G hs cb n B F aG aH bG bI di aY hU iJ i ex (D::ds) s aK au mk ls X:=
 ⟨H.aJ,H.kT,H.li,H.sR,H.qR,H.sS,H.ms.cons b hm (λ e=>by have:=c D e;omega)⟩
end
end
section
open Go.RowKit Go.Shelf
attribute [local go_sem] Zn
noncomputable def Lw:Code:=(Tryz.f146.body.bind λ c=>qw c 2).getD .skip
def BX(K:Nat->Prop)(base:Nat)(w:World)(G:Nat)(hs:Nat->aq)(cb:Nat->Nat)(n:Nat)(B:Int)(F:List (List Int))(aG:an)(aH b c d aY:Nat)(e:aq)(f:List Value)(i:Nat)(ex:List Int)(ds:List Nat)(pre:List Int)(V:World):Prop:=
 ∃(s:an)(g:List Bool)(j mk:List Int)(ls:Nat->aq)(X:Nat->List Value),nx K base w V G hs cb n B F aG aH b c d aY e f i (ex.drop pre.length) ds s g j mk ls X
theorem Lx{pre ex:List Int}(h:(pre++[x])<+:ex):ex.drop pre.length=x::ex.drop (pre++[x]).length:=by
 obtain⟨r,rfl⟩:=h;rw[f_,List.drop_left,<-f_,List.drop_left];rfl
theorem Ly{iO iL:Nat}
  (C:vE F Fd aG n h jW) (Z:0<=B) (aa:B<=4611686018427387904) (H:nx K base w W G hs cb n B F aG aH bG bI di aY (oz iL) [.int .i64 lit] i (others (aA aG.c.cl d) lit) ds s aK au mk ls X) (ag:d<aG.c.cl.length) (hm:1<=(aA aG.c.cl d).length) (c1:W.cell? ⟨iO,0,none⟩=some (.pointer (some ⟨cb d,0,none⟩))) (ay:iO<W.heap.size)
  (ab:∀(D:Nat)(W':World)(s':an)(M:List Bool)(N mk':List Int)(O:Nat->aq)(P:Nat->List Value),nx K base w W' G hs cb n B F aG aH bG bI di aY (oz iL) [.int .i64 lit] i [] (D::ds) s' M N mk' O P->Q .normal {tmps:= #[.pointer (some ⟨G,0,none⟩),j7,.pointer (some ⟨aH,0,none⟩),gx,.pointer (some ⟨bG,0,none⟩),gQ,.pointer (some ⟨bI,0,none⟩),.pointer (some ⟨aY,0,none⟩),.pointer (some ⟨di,0,none⟩),kP,gG,gp,dm,gP,gr,gC,u16,dn,dr,dw,gd,dx,dy,dz,dA,dB,dD,dF,dG,cr,ct,cu,u32,cv,cw,cz,cA,cB,cC,cD,cE,cF,cG,cH,dH,dI,.func (.func 224) #[] #[.pointer (some ⟨iO,0,none⟩),.pointer (some ⟨iL,0,none⟩)],gK,gL,bu,bw,bx,bz,bA,bB,bC,bD,bE,bK,bL,bM,bN,bO,bP,u64,bQ,bR,bS,bT,bU,bV,bW,bX,bY,bZ,b5,b6,b7,b8,b9,cc,cg,ck,cm,cn,cp,dJ,dK,dL,dM,dN,dO,dP,dQ,cI,cK,cL,cM,cN,cO,cQ,cR,cS,cT,cU,cV,cW,cZ,c7,c8,dc,dR,dS,dU,dV,dW,dX,dY,dZ,ec,ee,ef,ei,ej,ek,en,eo,ep,er,eu,ew,ey,ez,eA,eB,eC,eD,eE,eF,eG,eH,gh,gi,gj,eL,eM,eN,eO,eP,eR,eS,eT,eU,eV,eW,eX,gl,gm,gn,eY,eZ,e3,e4,e5,e6,e7,e8,e9,fc,fe,ff,fh,fk,fm,fo,fq,fu,fA,fB,fC,fD,fE,fF,fG,fH,fI,fJ,fK,fL,fM,fN,fO,fP,fQ,fR,gu,gv,fS,fT,fU,fV,fW,fZ,ga],defers:=oS D::ds.map oS} W'):
  Zk y_ Lw Q {tmps:= #[.pointer (some ⟨G,0,none⟩),j7,.pointer (some ⟨aH,0,none⟩),gx,.pointer (some ⟨bG,0,none⟩),gQ,.pointer (some ⟨bI,0,none⟩),.pointer (some ⟨aY,0,none⟩),.pointer (some ⟨di,0,none⟩),kP,gG,gp,dm,gP,gr,gC,u16,dn,dr,dw,gd,dx,dy,dz,dA,dB,dD,dF,dG,cr,ct,cu,u32,cv,cw,cz,cA,cB,cC,cD,cE,cF,cG,cH,dH,dI,.func (.func 224) #[] #[.pointer (some ⟨iO,0,none⟩),.pointer (some ⟨iL,0,none⟩)],gK,gL,bu,bw,bx,bz,bA,bB,bC,bD,bE,bK,bL,bM,bN,bO,bP,u64,bQ,bR,bS,bT,bU,bV,bW,bX,bY,bZ,b5,b6,b7,b8,b9,cc,cg,ck,cm,cn,cp,dJ,dK,dL,dM,dN,dO,dP,dQ,cI,cK,cL,cM,cN,cO,cQ,cR,cS,cT,cU,cV,cW,cZ,c7,c8,dc,dR,dS,dU,dV,dW,dX,dY,dZ,ec,ee,ef,ei,ej,ek,en,eo,ep,er,eu,ew,ey,ez,eA,eB,eC,eD,eE,eF,eG,eH,gh,gi,gj,eL,eM,eN,eO,eP,eR,eS,eT,eU,eV,eW,eX,gl,gm,gn,eY,eZ,e3,e4,e5,e6,e7,e8,e9,fc,fe,ff,fh,fk,fm,fo,fq,fu,fA,fB,fC,fD,fE,fF,fG,fH,fI,fJ,fK,fL,fM,fN,fO,fP,fQ,fR,gu,gv,fS,fT,fU,fV,fW,fZ,ga],defers:=ds.map oS} W:=by
 have R:=U H;have u:s.c=aG.c:=H.kT.c;obtain⟨bk,m1,az,f⟩:=H.aJ.de.gA.y9 (d:=d) (by rw[u];exact ag) (by rw[u];exact hm);rw[u] at f;have aB:m1<=22:=by have:=(C.gH.jG.mD d ag).len;have:=C.gV;have:=C.n10;have:=f.len;omega
 have aC:=(H.aJ.de.gA.e.rows.lt f.b).2;have aD:=(H.aJ.de.gA.e.cls d (by rw[u];exact ag)).lt;have c2:W.cell? ⟨iL,0,none⟩=some (.int .i64 lit):=(H.aJ.de.kB (r:=11) (g:=iL) (by rw[H.aJ.tv];rfl) (by rw[H.aJ.vb];rfl)).1;have aE:=(H.aJ.de.lt (r:=11) (g:=iL) (by rw[H.aJ.tv];rfl)).2;have j:=U C;have a6:=U (z_ f (z_ aB (z_ ag hm)));have ad:=U (z_ Z aa);have aF:=U ab;have ae:OwnFrom W.heap.size (BX K base w G hs cb n B F aG aH bG bI di aY (oz iL) [.int .i64 lit] i (others (aA aG.c.cl d) lit) ds):=by
  rintro pre a7 iO row ⟨s1,q,z,A,I,J,h1⟩ aI aL;exact⟨s1,q,z,A,I,J,h1.ua aI aL R.o.aJ.de.iQ.size (λ D T=>R.o.ms.lt T)⟩
 have af:=U ae;have aM:bF (∀(V m:World)(pre ah:List Int),BX K base w G hs cb n B F aG aH bG bI di aY (oz iL) [.int .i64 lit] i (others (aA aG.c.cl d) lit) ds pre V->BX K base w G hs cb n B F aG aH bG bI di aY (oz iL) [.int .i64 lit] i (others (aA aG.c.cl d) lit) ds ah m->pS iL bk m1 V m):=U (by
  rintro V m pre ah ⟨s1,q,z,A,I,J,h1⟩ ⟨s2,a8,a',ba,bb,bc,p⟩;have aN:V.cell? ⟨iL,0,none⟩=some (.int .i64 lit):=(h1.aJ.de.kB (r:=11) (g:=iL) (by rw[h1.aJ.tv];rfl) (by rw[h1.aJ.vb];rfl)).1;have aO:m.cell? ⟨iL,0,none⟩=some (.int .i64 lit):=(p.aJ.de.kB (r:=11) (g:=iL) (by rw[p.aJ.tv];rfl) (by rw[p.aJ.vb];rfl)).1;refine⟨λ v t=>by rw[aN] at t;rw[aO,<-t],λ k v hk t=>?_⟩;have ai:=h1.aJ.de.gA.e.x6 (d:=d) f.b (k:=k) (by rw[h1.kT.c,f.len];exact hk);have aj:=p.aJ.de.gA.e.x6 (d:=d) f.b (k:=k) (by rw[p.kT.c,f.len];exact hk);rw[h1.kT.c] at ai;rw[p.kT.c] at aj;rw[ai] at t;rw[aj,<-t])
 have bd:=H.aJ.de.iQ.size;clear H C u ag hm Z aa ab ae
 conv=>arg 2;whnf
 refine(wpIn_wide (n:=6)).1 ?_;refine Bj (F:=b_) (w0:=W) rfl (by omega) (gf:=224) (lb:= #[.pointer (some ⟨iO,0,none⟩),.pointer (some ⟨iL,0,none⟩)]) rfl trivial DB
  (DD (6-1) (by omega) iO iL (cb d) bk m1 az (aA aG.c.cl d) lit f.len (by omega) W c1 c2 f.ag f.kB ay aE aD aC)
  (λ h k=>h.trans k) (λ V l o bf hl t ak _=>⟨λ v Y=>(p_ (w:=V) (l_ (by show iL≠l;omega))).trans Y,λ k v _ Y=>(p_ (w:=V) (l_ (by show bk≠l;omega))).trans Y⟩) (a_ _ _) (λ _=>rfl)
  (BX K base w G hs cb n B F aG aH bG bI di aY (oz iL) [.int .i64 lit] i (others (aA aG.c.cl d) lit) ds) (λ _ _ _=>False)
  af.o (λ _ _ _ _ _ h=>h.elim) ⟨s,aK,au,mk,ls,X,R.o⟩
  ?a1 ?w1 ?assign ?kw1 ?body ?done ?stop
 case assign=>
  intro l pre y m bg S al aP
  gi_wp2
  exact aP
 case kw1=>
  intro pre y m S;exact⟨Zv _ _,pS.refl _ _ _ _⟩
 case body=>
  rintro l pre y ao m S ⟨o,aQ,ar,ak,av,aw⟩ al bh;have ax:=af.o _ _ _ _ S (show ao.grownBy m (some (W.heap.size+1)) by rw[ar];exact grownBy_putObj' ao (W.heap.size+1) o) (λ r e=>by cases e;exact⟨by omega,aQ,av,aw⟩);have aR:=U ax;clear S ar ak av aw;obtain⟨s1,q,z,A,I,J,h1⟩:=ax;rw[Lx al] at h1;have aS:=h1.ov j.o;have aT:gF n y:=by have:=h1.li.wT y (by simp);rw[j.o.gV] at this;exact this
  have bj:=Aq aG.c q i;have bl:=h1.li.qY;have aU:=j.o.gH.au.len;rw[j.o.gV] at aU;have bn:=j.o.n10;refine wpIn_block ?_;refine Lv (l:=l) (x:=y) h1.aJ h1.kT j.o.n10 j.o.st2 j.o.kW aS.2 (by have:=j.o.gH.au.pN;rw[j.o.gV] at this;exact this) ad.o.1 ad.o.2 aT (by omega) (by have:=h1.sS;simp;omega) (by omega) ?_ ?_
  ·intro a W' h;exact h
  intro a W' s' O P M bo mk' bp aV aW L k;obtain⟨N,p⟩:=h1.step j.o aV aW L k;exact⟨k.from _,aM.o _ _ _ _ aR.o ⟨s',M,N,mk',O,P,p⟩,s',M,N,mk',O,P,p⟩
 case done=>
  rintro D ys m T rfl ⟨s1,q,z,A,I,J,h1⟩ aX;rw[List.drop_length] at h1;exact aF.o D m s1 q z A I J (h1.mark (by omega) aX (λ E aZ=>by have:=R.o.ms.lt aZ;omega))
 case stop=>
  rintro D bq pre m T br h;exact h.elim
end
section
open Go.RowKit Go.Shelf
noncomputable def Lz:Code:=(Tryz.f146.body.bind λ c=>qw c 4).getD .skip
theorem LA
  (C:vE F Fd aG n h jW) (H:nx K base w W G hs cb n B F aG aH bG bI di aY hU iJ i [] ds s aK au mk ls X)
  (t:∀(j:Nat)(cI cK cL cM cN cO cQ cR cS cT cU cV cW cZ c7 c8 dc:Value)(W':World),nx K base w W' G hs cb n B F aG aH bG bI di aY hU iJ (j+1) [] ds s aK au mk ls X->j<i->jr aK (aI (ai aG.c.av j))=true->Q (.exit 4) {tmps:= #[.pointer (some ⟨G,0,none⟩),j7,.pointer (some ⟨aH,0,none⟩),gx,.pointer (some ⟨bG,0,none⟩),gQ,.pointer (some ⟨bI,0,none⟩),.pointer (some ⟨aY,0,none⟩),.pointer (some ⟨di,0,none⟩),kP,.int .i64 (j:Int),gp,dm,gP,gr,gC,u16,dn,dr,dw,gd,dx,dy,dz,dA,dB,dD,dF,dG,cr,ct,cu,u32,cv,cw,cz,cA,cB,cC,cD,cE,cF,cG,cH,dH,dI,gM,gK,gL,bu,bw,bx,bz,bA,bB,bC,bD,bE,bK,bL,bM,bN,bO,bP,u64,bQ,bR,bS,bT,bU,bV,bW,bX,bY,bZ,b5,b6,b7,b8,b9,cc,cg,ck,cm,cn,cp,dJ,dK,dL,dM,dN,dO,dP,dQ,cI,cK,cL,cM,cN,cO,cQ,cR,cS,cT,cU,cV,cW,cZ,c7,c8,dc,dR,dS,dU,dV,dW,dX,dY,dZ,ec,ee,ef,ei,ej,ek,en,eo,ep,er,eu,ew,ey,ez,eA,eB,eC,eD,eE,eF,eG,eH,gh,gi,gj,eL,eM,eN,eO,eP,eR,eS,eT,eU,eV,eW,eX,gl,gm,gn,eY,eZ,e3,e4,e5,e6,e7,e8,e9,fc,fe,ff,fh,fk,fm,fo,fq,fu,fA,fB,fC,fD,fE,fF,fG,fH,fI,fJ,fK,fL,fM,fN,fO,fP,fQ,fR,gu,gv,fS,fT,fU,fV,fW,fZ,ga],defers:=ds.map oS} W'):
  Zk y_ Lz Q {tmps:= #[.pointer (some ⟨G,0,none⟩),j7,.pointer (some ⟨aH,0,none⟩),gx,.pointer (some ⟨bG,0,none⟩),gQ,.pointer (some ⟨bI,0,none⟩),.pointer (some ⟨aY,0,none⟩),.pointer (some ⟨di,0,none⟩),kP,.int .i64 ((i:Int)-1),gp,dm,gP,gr,gC,u16,dn,dr,dw,gd,dx,dy,dz,dA,dB,dD,dF,dG,cr,ct,cu,u32,cv,cw,cz,cA,cB,cC,cD,cE,cF,cG,cH,dH,dI,gM,gK,gL,bu,bw,bx,bz,bA,bB,bC,bD,bE,bK,bL,bM,bN,bO,bP,u64,bQ,bR,bS,bT,bU,bV,bW,bX,bY,bZ,b5,b6,b7,b8,b9,cc,cg,ck,cm,cn,cp,dJ,dK,dL,dM,dN,dO,dP,dQ,cI,cK,cL,cM,cN,cO,cQ,cR,cS,cT,cU,cV,cW,cZ,c7,c8,dc,dR,dS,dU,dV,dW,dX,dY,dZ,ec,ee,ef,ei,ej,ek,en,eo,ep,er,eu,ew,ey,ez,eA,eB,eC,eD,eE,eF,eG,eH,gh,gi,gj,eL,eM,eN,eO,eP,eR,eS,eT,eU,eV,eW,eX,gl,gm,gn,eY,eZ,e3,e4,e5,e6,e7,e8,e9,fc,fe,ff,fh,fk,fm,fo,fq,fu,fA,fB,fC,fD,fE,fF,fG,fH,fI,fJ,fK,fL,fM,fN,fO,fP,fQ,fR,gu,gv,fS,fT,fU,fV,fW,fZ,ga],defers:=ds.map oS} W:=by
 have M:=U t;have g:=U C;have N:=U H;have O:=H.li.open
 have h1:=Aq aG.c aK i;have aa:1<=i:=by omega
 clear C H t O h1
 conv=>arg 2;whnf
 dsimp only
 go_loopw [10] (λ x W'=>∃j:Nat,x=.int .i64 (j:Int)/\j<i/\nx K base w W' G hs cb n B F aG aH bG bI di aY hU iJ (j+1) [] ds s aK au mk ls X) (λ x _=>(intOf x).toNat)
 case atStart=>
  refine⟨i-1,by congr 1;omega,by omega,?_⟩;rw[show i-1+1=i by omega];exact N.o
 case round=>
  obtain⟨j,rfl,P,d⟩:=hrel;have L:=U d;have bn:=d.aJ.bn;have p:j<aG.c.av.length:=by have:=d.li.qY;omega
  have ab:=g.o.gH.au.len;have ad:=g.o.n10;have R:=g.o.gV;obtain⟨x,m⟩:∃x,ai aG.c.av j=x:=⟨_,rfl⟩
  have u:gF n x:=by have:=g.o.gH.au.lit _ (lY p);rw[m,R] at this;exact this
  obtain⟨v,l⟩:∃v,aI x=v:=⟨_,rfl⟩
  have S:v<=n:=by have:=u.2;omega
  have T:bF (∀w:World,Calls y_ 97 #[.int .i64 x] w λ e w'=>e=.returned (.int .i64 (v:Int))/\w=w'):=U (λ w=>by have:=sM x w (by unfold aI at l;omega) (by unfold aI at l;omega);rw[l] at this;exact this);have V:=(d.ov g.o).2;obtain⟨g12,y,Y,f12⟩:=d.aJ.de.gA.e.lN 16 12 rfl d.aJ.de.gA.e.n12 (by rw[d.kT.aK];omega);have c12:=d.aJ.de.gA.e.Aa y (k:=v) (by rw[d.kT.aK];omega);have ae:(v:Int)<(s.aK.length:Int):=by rw[d.kT.aK];omega
  obtain⟨g4,z,Z,f4⟩:=d.aJ.de.gA.e.lN 5 4 rfl d.aJ.de.gA.e.j8 (by rw[d.kT.c];omega);have c4:=d.aJ.de.gA.e.z8 z (k:=j) (by rw[d.kT.c];exact p);have af:(j:Int)<(s.c.av.length:Int):=by rw[d.kT.c];omega
  rw[show ai s.c.av j=x by rw[d.kT.c];exact m] at c4;obtain⟨A,q⟩:∃b,jr s.aK v=b:=⟨_,rfl⟩
  rw[q] at c12;have E:jr aK (aI (ai aG.c.av j))=A:=by rw[m,l,<-d.kT.aK];exact q
  have r:=U (z_ E (z_ P p));have ag:v_.wrap ((j:Int)-1)=(j:Int)-1:=by rw[w_];omega
  clear d u l S V y f12 z f4 q E m
  go_wp2_with fail
  refine i_ 14 (by kernel_rfl) (by kernel_rfl) ?_;simp only[n_,j_,m_,g_]
  iterate 11 still_step
  still_call ((T.o _).mono (λ e w' h=>⟨h.1,h.2.symm⟩))
  iterate 2 still_step
  refine Zu ?_;change wpList _ _ _ _ _ wr.drew;have f:=U (L.o.grow ((a_ _ wr).drew));clear bn Y c12 Z c4;generalize wr.drew=ah at*
  cases A with
  |true=>
   go_wp2_with fail
   exact M.o j _ _ _ _ _ _ _ _ _ _ _ _ _ _ _ _ _ _ f.o r.o.2.1 r.o.1
  |false=>
   obtain⟨a1,a2⟩:=f.o.li.down r.o.1;have I:=a1.open
   have J:=Aq aG.c aK j;have D:=U (z_ a1 (z_ a2 (z_ I J)));clear a1 a2 I J
   go_wp2_with fail
   go_roundw
   case rel=>
    refine⟨j-1,by congr 1;have:=D.o;omega,by have:=D.o;omega,?_⟩;rw[show j-1+1=j by have:=D.o;omega];exact⟨by rw[D.o.2.1];exact f.o.aJ,f.o.kT,D.o.1,f.o.sR,f.o.qR,f.o.sS,f.o.ms⟩
   case measure=>simp[intOf];have:=D.o;omega
structure BY(K:Nat->Prop)(base:Nat)(w W:World)(G:Nat)(hs:Nat->aq)(cb:Nat->Nat)(n:Nat)(B:Int)(F:List (List Int))(aG:an)(aH bG bI di aY:Nat)(op:Int)(hU:aq)(iJ:List Value)(j:Nat)(ds:List Nat)(s:an)(aK:List Bool)(au mk:List Int)(ls:Nat->aq)(X:Nat->List Value):Prop where
 aJ:kN K base w W G hs cb s aH bG bI di aY (0::au) mk op hU iJ ls X
 kT:sy n B aG aK s
 li:oy F aG.c (j+1) aK au []
 sR:mk.Nodup
 qR:∀z:Int,z∈mk↔∃v:Nat,z=v/\jr aK v=true
 sS:au.length<=mk.length
 ms:pH w.heap.size W ds
 x7:jr aK (aI (ai aG.c.av j))=true
 one:nv aG.c aK (j+1)=1
noncomputable def GO:Code:=nw ((Tryz.f146.body.bind λ c=>qw c 1).getD .skip)
theorem LB
  (C:vE F Fd aG n h jW) (Y:0<=B) (Z:B<=4611686018427387904) (H:nx K base w W G hs cb n B F aG aH bG bI di aY hU iJ i (others (aA aG.c.cl d) lit) ds s aK au mk ls X) (aa:d<aG.c.cl.length) (hm:1<=(aA aG.c.cl d).length)
  (q:∀(j:Nat)(op:Int)(hU:aq)(iJ:List Value)(s:an)(aK:List Bool)(au mk:List Int)(ls:Nat->aq)(X:Nat->List Value)(ds:List Nat)(aB gx aC gp dm gP gr gC u16 dn dr dw gd dx dy dz dA dB dD dF dG cr ct cu u32 cv cw cz cA cB cC cD cE cF cG cH dH dI gM gK gL bu bw bx bz bA bB bC bD bE bK bL bM bN bO bP u64 bQ bR bS bT bU bV bW bX bY bZ b5 b6 b7 b8 b9 cc cg ck cm cn cp dJ dK dL dM dN dO dP dQ cI cK cL cM cN cO cQ cR cS cT cU cV cW cZ c7 c8 dc dR dS dU dV dW dX dY dZ ec ee ef ei ej ek en eo ep er eu ew ey ez eA eB eC eD eE eF eG eH gh gi gj eL eM eN eO eP eR eS eT eU eV eW eX gl gm gn eY eZ e3 e4 e5 e6 e7 e8 e9 fc fe ff fh fk fm fo fq fu fA fB fC fD fE fF fG fH fI fJ fK fL fM fN fO fP fQ fR gu gv fS fT fU fV fW fZ ga:Value)(W':World),BY K base w W' G hs cb n B F aG aH bG bI di aY op hU iJ j ds s aK au mk ls X->Q (.exit 0) {tmps:= #[.pointer (some ⟨G,0,none⟩),aB,.pointer (some ⟨aH,0,none⟩),gx,.pointer (some ⟨bG,0,none⟩),.int .i64 0,.pointer (some ⟨bI,0,none⟩),.pointer (some ⟨aY,0,none⟩),.pointer (some ⟨di,0,none⟩),.int .i64 (ai aG.c.av j),aC,gp,dm,gP,gr,gC,u16,dn,dr,dw,gd,dx,dy,dz,dA,dB,dD,dF,dG,cr,ct,cu,u32,cv,cw,cz,cA,cB,cC,cD,cE,cF,cG,cH,dH,dI,gM,gK,gL,bu,bw,bx,bz,bA,bB,bC,bD,bE,bK,bL,bM,bN,bO,bP,u64,bQ,bR,bS,bT,bU,bV,bW,bX,bY,bZ,b5,b6,b7,b8,b9,cc,cg,ck,cm,cn,cp,dJ,dK,dL,dM,dN,dO,dP,dQ,cI,cK,cL,cM,cN,cO,cQ,cR,cS,cT,cU,cV,cW,cZ,c7,c8,dc,dR,dS,dU,dV,dW,dX,dY,dZ,ec,ee,ef,ei,ej,ek,en,eo,ep,er,eu,ew,ey,ez,eA,eB,eC,eD,eE,eF,eG,eH,gh,gi,gj,eL,eM,eN,eO,eP,eR,eS,eT,eU,eV,eW,eX,gl,gm,gn,eY,eZ,e3,e4,e5,e6,e7,e8,e9,fc,fe,ff,fh,fk,fm,fo,fq,fu,fA,fB,fC,fD,fE,fF,fG,fH,fI,fJ,fK,fL,fM,fN,fO,fP,fQ,fR,gu,gv,fS,fT,fU,fV,fW,fZ,ga],defers:=ds.map oS} W')
  (hk:∀(j m:Nat)(ab:Int)(hU:aq)(iJ:List Value)(s:an)(aK:List Bool)(au mk:List Int)(ls:Nat->aq)(X:Nat->List Value)(ds:List Nat)(gx gp dm gP gr gC u16 dn dr dw gd dx dy dz dA dB dD dF dG cr ct cu u32 cv cw cz cA cB cC cD cE cF cG cH dH dI gM gK gL bu bw bx bz bA bB bC bD bE bK bL bM bN bO bP u64 bQ bR bS bT bU bV bW bX bY bZ b5 b6 b7 b8 b9 cc cg ck cm cn cp dJ dK dL dM dN dO dP dQ cI cK cL cM cN cO cQ cR cS cT cU cV cW cZ c7 c8 dc dR dS dU dV dW dX dY dZ ec ee ef ei ej ek en eo ep er eu ew ey ez eA eB eC eD eE eF eG eH gh gi gj eL eM eN eO eP eR eS eT eU eV eW eX gl gm gn eY eZ e3 e4 e5 e6 e7 e8 e9 fc fe ff fh fk fm fo fq fu fA fB fC fD fE fF fG fH fI fJ fK fL fM fN fO fP fQ fR gu gv fS fT fU fV fW fZ ga:Value)(W':World),nx K base w W' G hs cb n B F aG aH bG bI di aY hU iJ j (others (aA aG.c.cl m) ab) ds s aK au mk ls X->m<aG.c.cl.length->1<=(aA aG.c.cl m).length->j<i->Q .normal {tmps:= #[.pointer (some ⟨G,0,none⟩),.pointer (some ⟨cb m,0,none⟩),.pointer (some ⟨aH,0,none⟩),gx,.pointer (some ⟨bG,0,none⟩),.int .i64 0,.pointer (some ⟨bI,0,none⟩),.pointer (some ⟨aY,0,none⟩),.pointer (some ⟨di,0,none⟩),.int .i64 ab,.int .i64 (j:Int),gp,dm,gP,gr,gC,u16,dn,dr,dw,gd,dx,dy,dz,dA,dB,dD,dF,dG,cr,ct,cu,u32,cv,cw,cz,cA,cB,cC,cD,cE,cF,cG,cH,dH,dI,gM,gK,gL,bu,bw,bx,bz,bA,bB,bC,bD,bE,bK,bL,bM,bN,bO,bP,u64,bQ,bR,bS,bT,bU,bV,bW,bX,bY,bZ,b5,b6,b7,b8,b9,cc,cg,ck,cm,cn,cp,dJ,dK,dL,dM,dN,dO,dP,dQ,cI,cK,cL,cM,cN,cO,cQ,cR,cS,cT,cU,cV,cW,cZ,c7,c8,dc,dR,dS,dU,dV,dW,dX,dY,dZ,ec,ee,ef,ei,ej,ek,en,eo,ep,er,eu,ew,ey,ez,eA,eB,eC,eD,eE,eF,eG,eH,gh,gi,gj,eL,eM,eN,eO,eP,eR,eS,eT,eU,eV,eW,eX,gl,gm,gn,eY,eZ,e3,e4,e5,e6,e7,e8,e9,fc,fe,ff,fh,fk,fm,fo,fq,fu,fA,fB,fC,fD,fE,fF,fG,fH,fI,fJ,fK,fL,fM,fN,fO,fP,fQ,fR,gu,gv,fS,fT,fU,fV,fW,fZ,ga],defers:=ds.map oS} W'):
  Zk y_ GO Q {tmps:= #[.pointer (some ⟨G,0,none⟩),.pointer (some ⟨cb d,0,none⟩),.pointer (some ⟨aH,0,none⟩),gx,.pointer (some ⟨bG,0,none⟩),.int .i64 0,.pointer (some ⟨bI,0,none⟩),.pointer (some ⟨aY,0,none⟩),.pointer (some ⟨di,0,none⟩),.int .i64 lit,.int .i64 (i:Int),gp,dm,gP,gr,gC,u16,dn,dr,dw,gd,dx,dy,dz,dA,dB,dD,dF,dG,cr,ct,cu,u32,cv,cw,cz,cA,cB,cC,cD,cE,cF,cG,cH,dH,dI,gM,gK,gL,bu,bw,bx,bz,bA,bB,bC,bD,bE,bK,bL,bM,bN,bO,bP,u64,bQ,bR,bS,bT,bU,bV,bW,bX,bY,bZ,b5,b6,b7,b8,b9,cc,cg,ck,cm,cn,cp,dJ,dK,dL,dM,dN,dO,dP,dQ,cI,cK,cL,cM,cN,cO,cQ,cR,cS,cT,cU,cV,cW,cZ,c7,c8,dc,dR,dS,dU,dV,dW,dX,dY,dZ,ec,ee,ef,ei,ej,ek,en,eo,ep,er,eu,ew,ey,ez,eA,eB,eC,eD,eE,eF,eG,eH,gh,gi,gj,eL,eM,eN,eO,eP,eR,eS,eT,eU,eV,eW,eX,gl,gm,gn,eY,eZ,e3,e4,e5,e6,e7,e8,e9,fc,fe,ff,fh,fk,fm,fo,fq,fu,fA,fB,fC,fD,fE,fF,fG,fH,fI,fJ,fK,fL,fM,fN,fO,fP,fQ,fR,gu,gv,fS,fT,fU,fV,fW,fZ,ga],defers:=ds.map oS} W:=by
 have aD:=U q;have aE:=U hk;have l:=U C;have ad:=U H;have u:=U (z_ Y (z_ Z (z_ aa hm)));clear C H q hk Y Z aa hm
 conv=>arg 2;whnf
 dsimp only
 go_wp2_with (go_at_call 183;refine(DC _ _ _).mono ?_;rintro e w1 ⟨rfl,rfl⟩;dsimp only)
 have H1:=ad.o.grow (bg W (.cells #[.pointer (some ⟨cb d,0,none⟩)] 164));obtain⟨aX,aZ,L⟩:=H1.aJ.Lm (.int .i64 lit);have ae:(W.alloc (.cells #[.pointer (some ⟨cb d,0,none⟩)] 164)).heap.size=W.heap.size+1:=by simp
 rw[ae] at L;have af:=H1.vc L (KeepsOthers.below (bg _ _));have c1:((W.alloc (.cells #[.pointer (some ⟨cb d,0,none⟩)] 164)).alloc (.cells #[.int .i64 lit] 3)).cell? ⟨W.heap.size,0,none⟩=some (.pointer (some ⟨cb d,0,none⟩)):=by go_simp
 have ag:W.heap.size<((W.alloc (.cells #[.pointer (some ⟨cb d,0,none⟩)] 164)).alloc (.cells #[.int .i64 lit] 3)).heap.size:=by simp;omega
 clear H1 L ae ad;generalize ((W.alloc (.cells #[.pointer (some ⟨cb d,0,none⟩)] 164)).alloc (.cells #[.int .i64 lit] 3))=a6 at*;refine Ly l.o u.o.1 u.o.2.1 af u.o.2.2.1 u.o.2.2.2 c1 ag ?_;clear af c1 ag;intro D a7 s3 p y z A a8 E;have aF:=E.li.qY;have N:=E.li.open
 have O:=Aq aG.c p i;have a':=l.o.gH.au.len;have aL:=l.o.gV;have ba:=l.o.n10;have aM:=U E;have aN:v_.wrap ((i:Int)-1)=(i:Int)-1:=by rw[w_];omega
 clear E
 go_wp2_with fail
 refine LA (ds:=D::ds) l.o aM.o ?_;intro j cI cK cL cM cN cO cQ cR cS cT cU cV cW cZ c7 c8 dc P b aO ah;clear aF N O aN;have f:=U b;have R:j<aG.c.av.length:=by have:=b.li.qY;omega
 have bn:=b.aJ.bn;obtain⟨g4,aj,aP,f4⟩:=b.aJ.de.gA.e.lN 5 4 rfl b.aJ.de.gA.e.j8 (by rw[b.kT.c];omega);have c4:=b.aJ.de.gA.e.z8 aj (k:=j) (by rw[b.kT.c];exact R);have bb:(j:Int)<(s3.c.av.length:Int):=by rw[b.kT.c];omega
 obtain⟨x,q⟩:∃x,ai aG.c.av j=x:=⟨_,rfl⟩
 rw[show ai s3.c.av j=x by rw[b.kT.c];exact q] at c4;have ak:gF n x:=by have:=l.o.gH.au.lit _ (lY R);rw[q,aL] at this;exact this
 have xb:=b.aJ.xb.1;have aQ:=b.aJ.xb.2;have N:=b.li.open
 have O:=Aq aG.c p (j+1);obtain⟨g,S⟩:∃o:Nat,nv aG.c p (j+1)=o:=⟨_,rfl⟩
 rw[S] at xb N O;have bc:v_.wrap ((g:Int)-1)=(g:Int)-1:=by rw[w_];omega
 have M:=U (z_ q (z_ ak (z_ S (z_ R (z_ aO ah)))));clear b aj f4 q ak S ah
 by_cases h1:g=1
 ·have aR:((g:Int)-1==0)=true:=by simp;omega
  have H1:=U h1;clear h1
  go_wp2_with fail
  obtain⟨t,I,J⟩:=f.o.aJ.DR ((g:Int)-1);have aS:BY K base w (P.setCell ⟨di,0,none⟩ (.int .i64 ((g:Int)-1))) G hs cb n B F aG aH bG bI di aY ((g:Int)-1) _ _ j (D::ds) s3 p y z A t:=⟨I,f.o.kT,f.o.li,f.o.sR,f.o.qR,f.o.sS,f.o.ms.others J,M.o.2.2.2.2.2,by rw[M.o.2.2.1];exact H1.o⟩
  have al:=aD.o j ((g:Int)-1) (oz (W.heap.size+1)) [.int .i64 lit] s3 p y z A t (D::ds);rw[M.o.1] at al;apply al;exact aS
 ·have aR:((g:Int)-1==0)=false:=by simp;omega
  have H1:=U h1;clear h1
  go_upto_region 23 with fail
  obtain⟨t,I,J⟩:=f.o.aJ.DR ((g:Int)-1);obtain⟨m,hw,ao,ar,aw⟩:=f.o.li.reason l.o.gH.au l.o.gH.jG M.o.2.2.2.2.2 (by rw[M.o.2.2.1];exact H1.o);have T:=l.o.gH.au.qc j M.o.2.2.2.1;rw[hw] at T;have ax:(g:Int)-1=(nv aG.c p j:Int):=by rw[M.o.2.2.1] at aw;omega
  have hH:nx K base w (P.setCell ⟨di,0,none⟩ (.int .i64 ((g:Int)-1))) G hs cb n B F aG aH bG bI di aY _ _ j (others (aA aG.c.cl m) x) (D::ds) s3 p y z A t:=⟨by rw[<-ax];exact I,f.o.kT,by rw[<-M.o.1];exact ar,f.o.sR,f.o.qR,f.o.sS,f.o.ms.others J⟩
  have hH:=U hH;rw[M.o.1] at hw;have ay:=U (z_ ao (Zm T.2.1));clear I J ao ar aw T ax bn aP c4 xb aQ;generalize P.setCell ⟨di,0,none⟩ (.int .i64 ((g:Int)-1))=V at*;have bn:=hH.o.aJ.bn;obtain⟨v,r⟩:∃v,aI x=v:=⟨_,rfl⟩
  have bd:v<=n:=by have:=M.o.2.1.2;omega
  have aT:bF (∀w:World,Calls y_ 97 #[.int .i64 x] w λ e w'=>e=.returned (.int .i64 (v:Int))/\w=w'):=U (λ w=>by have:=sM x w (by unfold aI at r;omega) (by unfold aI at r;omega);rw[r] at this;exact this);obtain⟨g3,az,aU,f3⟩:=hH.o.aJ.de.gA.e.lN 4 3 rfl hH.o.aJ.de.gA.e.nD (by rw[hH.o.kT.c];have:=l.o.gH.au.pe;omega);have c3:=hH.o.aJ.de.gA.e.yO az (k:=v) (by rw[hH.o.kT.c];have:=l.o.gH.au.pe;omega);have bf:(v:Int)<(s3.c.j9.length:Int):=by rw[hH.o.kT.c];have:=l.o.gH.au.pe;omega
  rw[hH.o.kT.c,<-r,hw] at c3;rw[r] at c3;have c3:V.cell? ⟨g3,v,none⟩=some (.pointer (some ⟨cb m,0,none⟩)):=c3;clear hw az f3 r;refine i_ 8 (by kernel_rfl) (by kernel_rfl) ?_;simp only[n_,j_,m_,g_]
  iterate 5 still_step
  still_call ((aT.o _).mono (λ e w' h=>⟨h.1,h.2.symm⟩))
  iterate 2 still_step
  refine Zu ?_;change wpList _ _ _ _ _ V.drew;have aV:=U (hH.o.grow ((a_ _ V).drew));clear bn aU c3
  go_wp2_with fail
  have aW:=aE.o j m x (oz (W.heap.size+1)) [.int .i64 lit] s3 p y z A t (D::ds);apply aW
  ·exact aV.o
  ·exact ay.o.1
  ·exact ay.o.2
  ·exact M.o.2.2.2.2.1
noncomputable def LC:Code:=(Tryz.f146.body.bind λ c=>qw c 0).getD .skip
def BZ(K:Nat->Prop)(base:Nat)(w:World)(G:Nat)(hs:Nat->aq)(cb:Nat->Nat)(n:Nat)(b:Int)(F:List (List Int))(aG:an)(aH e f g aY:Nat)(i d:Nat)(lit:Int)(ds:List Nat)(W:World):Prop:=
 ∃(j:aq)(k:List Value)(s:an)(l:List Bool)(m mk:List Int)(ls:Nat->aq)(X:Nat->List Value),nx K base w W G hs cb n (b+jl*((aG.c.av.length-i:Nat):Int)) F aG aH e f g aY j k i (others (aA aG.c.cl d) lit) ds s l m mk ls X/\d<aG.c.cl.length/\1<=(aA aG.c.cl d).length
inductive zf(K:Nat->Prop)(base:Nat)(w:World)(G:Nat)(hs:Nat->aq)(cb:Nat->Nat)(n:Nat)(jW:Int)(F:List (List Int))(aG:an)(aH bG bI di aY:Nat):Nat->Act->World->Prop
 |mk {i d:Nat} {lit:Int} {ds:List Nat} {gx gp dm gP gr gC u16 dn dr dw gd dx dy dz dA dB dD dF dG cr ct cu u32 cv cw cz cA cB cC cD cE cF cG cH dH dI gM gK gL bu bw bx bz bA bB bC bD bE bK bL bM bN bO bP u64 bQ bR bS bT bU bV bW bX bY bZ b5 b6 b7 b8 b9 cc cg ck cm cn cp dJ dK dL dM dN dO dP dQ cI cK cL cM cN cO cQ cR cS cT cU cV cW cZ c7 c8 dc dR dS dU dV dW dX dY dZ ec ee ef ei ej ek en eo ep er eu ew ey ez eA eB eC eD eE eF eG eH gh gi gj eL eM eN eO eP eR eS eT eU eV eW eX gl gm gn eY eZ e3 e4 e5 e6 e7 e8 e9 fc fe ff fh fk fm fo fq fu fA fB fC fD fE fF fG fH fI fJ fK fL fM fN fO fP fQ fR gu gv fS fT fU fV fW fZ ga:Value} {W:World} (h:BZ K base w G hs cb n jW F aG aH bG bI di aY i d lit ds W):zf K base w G hs cb n jW F aG aH bG bI di aY i {tmps:= #[.pointer (some ⟨G,0,none⟩),.pointer (some ⟨cb d,0,none⟩),.pointer (some ⟨aH,0,none⟩),gx,.pointer (some ⟨bG,0,none⟩),.int .i64 0,.pointer (some ⟨bI,0,none⟩),.pointer (some ⟨aY,0,none⟩),.pointer (some ⟨di,0,none⟩),.int .i64 lit,.int .i64 (i:Int),gp,dm,gP,gr,gC,u16,dn,dr,dw,gd,dx,dy,dz,dA,dB,dD,dF,dG,cr,ct,cu,u32,cv,cw,cz,cA,cB,cC,cD,cE,cF,cG,cH,dH,dI,gM,gK,gL,bu,bw,bx,bz,bA,bB,bC,bD,bE,bK,bL,bM,bN,bO,bP,u64,bQ,bR,bS,bT,bU,bV,bW,bX,bY,bZ,b5,b6,b7,b8,b9,cc,cg,ck,cm,cn,cp,dJ,dK,dL,dM,dN,dO,dP,dQ,cI,cK,cL,cM,cN,cO,cQ,cR,cS,cT,cU,cV,cW,cZ,c7,c8,dc,dR,dS,dU,dV,dW,dX,dY,dZ,ec,ee,ef,ei,ej,ek,en,eo,ep,er,eu,ew,ey,ez,eA,eB,eC,eD,eE,eF,eG,eH,gh,gi,gj,eL,eM,eN,eO,eP,eR,eS,eT,eU,eV,eW,eX,gl,gm,gn,eY,eZ,e3,e4,e5,e6,e7,e8,e9,fc,fe,ff,fh,fk,fm,fo,fq,fu,fA,fB,fC,fD,fE,fF,fG,fH,fI,fJ,fK,fL,fM,fN,fO,fP,fQ,fR,gu,gv,fS,fT,fU,fV,fW,fZ,ga],defers:=ds.map oS} W
theorem zf.elim{g:Nat}(b:zf K base w G hs cb n jW F aG aH bG bI di aY g a W){P:Prop}(k:∀{i d:Nat}{lit:Int}{ds:List Nat}{c e f j l m u16 o p q r s t u v y z A B C D E u32 H I J L M N O Q R S T U V X Y Z aa ab ad ae af ag ah ai aj ak al ao ar au av u64 aw ax ay az aA aB aC aD aE aF aI aJ aK aL aM aN aO aP aQ aR aS aT aU aV aW aX aZ a6 a7 a8 a' ba bb bc bd bf bg bh bj bk bl bn bo bp bq br bs bt bu bw bx bz bA bB bC bD bE bF bH bJ bK bL bM bN bO bP bQ bR bS bT bU bV bW bX bY bZ b0 b1 b2 b3 b4 b5 b6 b7 b8 b9 b' ca cc cd cf cg ch cj ck cm cn cp cq cr ct cu cv cw cx cy cz cA cB cC cD cE cF cG cH cI cJ cK cL cM cN cO cP cQ cR cS cT cU cV cW cX cY cZ c7 c8 da db dc dd:Value},a={tmps:= #[.pointer (some ⟨G,0,none⟩),.pointer (some ⟨cb d,0,none⟩),.pointer (some ⟨aH,0,none⟩),c,.pointer (some ⟨bG,0,none⟩),.int .i64 0,.pointer (some ⟨bI,0,none⟩),.pointer (some ⟨aY,0,none⟩),.pointer (some ⟨di,0,none⟩),.int .i64 lit,.int .i64 (i:Int),e,f,j,l,m,u16,o,p,q,r,s,t,u,v,y,z,A,B,C,D,E,u32,H,I,J,L,M,N,O,Q,R,S,T,U,V,X,Y,Z,aa,ab,ad,ae,af,ag,ah,ai,aj,ak,al,ao,ar,au,av,u64,aw,ax,ay,az,aA,aB,aC,aD,aE,aF,aI,aJ,aK,aL,aM,aN,aO,aP,aQ,aR,aS,aT,aU,aV,aW,aX,aZ,a6,a7,a8,a',ba,bb,bc,bd,bf,bg,bh,bj,bk,bl,bn,bo,bp,bq,br,bs,bt,bu,bw,bx,bz,bA,bB,bC,bD,bE,bF,bH,bJ,bK,bL,bM,bN,bO,bP,bQ,bR,bS,bT,bU,bV,bW,bX,bY,bZ,b0,b1,b2,b3,b4,b5,b6,b7,b8,b9,b',ca,cc,cd,cf,cg,ch,cj,ck,cm,cn,cp,cq,cr,ct,cu,cv,cw,cx,cy,cz,cA,cB,cC,cD,cE,cF,cG,cH,cI,cJ,cK,cL,cM,cN,cO,cP,cQ,cR,cS,cT,cU,cV,cW,cX,cY,cZ,c7,c8,da,db,dc,dd],defers:=ds.map oS}->g=i->BZ K base w G hs cb n jW F aG aH bG bI di aY i d lit ds W->P):P:=by
 cases b with
 |mk h=>exact k rfl rfl h
theorem nx.oK{K:Nat->Prop}{base:Nat}{w W:World}{G:Nat}{hs:Nat->aq}{cb:Nat->Nat}{n:Nat}{B q5:Int}{F:List (List Int)}{aG s:an}{aH bG bI di aY:Nat}{hU:aq}{iJ:List Value}{i:Nat}{ex:List Int}{ds:List Nat}{aK:List Bool}{au mk:List Int}{ls:Nat->aq}{X:Nat->List Value}
  (H:nx K base w W G hs cb n B F aG aH bG bI di aY hU iJ i ex ds s aK au mk ls X) {d:Nat} (f:d<s.c.cl.length) {x:Int} (g:0<=x) (h1:x<=q5) (j:B<=q5):nx K base w (W.setCell ⟨cb d,3,none⟩ (.int .i64 x)) G hs cb n q5 F aG aH bG bI di aY hU iJ i ex ds (s.wZ d x) aK au mk ls X:=by
 have e:=H.aJ.de.call.Gl f H.kT.rg.nX x;have b:=H.aJ.de.back e.1 e.2;exact⟨H.aJ.vc b.1,H.kT.GM (ou.oK s d x) (H.kT.rg.oK j g h1),H.li,H.sR,H.qR,H.sS,H.ms.others b.2⟩
theorem LD
  (C:vE F Fd aG n h jW) (H:BZ K base w G hs cb n jW F aG aH bG bI di aY i d lit ds W)
  (ag:∀(j:Nat)(B:Int)(op:Int)(y:aq)(z:List Value)(s:an)(A:List Bool)(au mk:List Int)(ls:Nat->aq)(X:Nat->List Value)(ds:List Nat)(ah gx aj gp dm gP gr gC u16 dn dr dw gd dx dy dz dA dB dD dF dG cr ct cu u32 cv cw cz cA cB cC cD cE cF cG cH dH dI gM gK gL bu bw bx bz bA bB bC bD bE bK bL bM bN bO bP u64 bQ bR bS bT bU bV bW bX bY bZ b5 b6 b7 b8 b9 cc cg ck cm cn cp dJ dK dL dM dN dO dP dQ cI cK cL cM cN cO cQ cR cS cT cU cV cW cZ c7 c8 dc dR dS dU dV dW dX dY dZ ec ee ef ei ej ek en eo ep er eu ew ey ez eA eB eC eD eE eF eG eH gh gi gj eL eM eN eO eP eR eS eT eU eV eW eX gl gm gn eY eZ e3 e4 e5 e6 e7 e8 e9 fc fe ff fh fk fm fo fq fu fA fB fC fD fE fF fG fH fI fJ fK fL fM fN fO fP fQ fR gu gv fS fT fU fV fW fZ ga:Value)(W':World),B<=jW+16*jl->BY K base w W' G hs cb n B F aG aH bG bI di aY op y z j ds s A au mk ls X->Q (.exit 0) {tmps:= #[.pointer (some ⟨G,0,none⟩),ah,.pointer (some ⟨aH,0,none⟩),gx,.pointer (some ⟨bG,0,none⟩),.int .i64 0,.pointer (some ⟨bI,0,none⟩),.pointer (some ⟨aY,0,none⟩),.pointer (some ⟨di,0,none⟩),.int .i64 (ai aG.c.av j),aj,gp,dm,gP,gr,gC,u16,dn,dr,dw,gd,dx,dy,dz,dA,dB,dD,dF,dG,cr,ct,cu,u32,cv,cw,cz,cA,cB,cC,cD,cE,cF,cG,cH,dH,dI,gM,gK,gL,bu,bw,bx,bz,bA,bB,bC,bD,bE,bK,bL,bM,bN,bO,bP,u64,bQ,bR,bS,bT,bU,bV,bW,bX,bY,bZ,b5,b6,b7,b8,b9,cc,cg,ck,cm,cn,cp,dJ,dK,dL,dM,dN,dO,dP,dQ,cI,cK,cL,cM,cN,cO,cQ,cR,cS,cT,cU,cV,cW,cZ,c7,c8,dc,dR,dS,dU,dV,dW,dX,dY,dZ,ec,ee,ef,ei,ej,ek,en,eo,ep,er,eu,ew,ey,ez,eA,eB,eC,eD,eE,eF,eG,eH,gh,gi,gj,eL,eM,eN,eO,eP,eR,eS,eT,eU,eV,eW,eX,gl,gm,gn,eY,eZ,e3,e4,e5,e6,e7,e8,e9,fc,fe,ff,fh,fk,fm,fo,fq,fu,fA,fB,fC,fD,fE,fF,fG,fH,fI,fJ,fK,fL,fM,fN,fO,fP,fQ,fR,gu,gv,fS,fT,fU,fV,fW,fZ,ga],defers:=ds.map oS} W'):
  Zk y_ LC Q {tmps:= #[.pointer (some ⟨G,0,none⟩),.pointer (some ⟨cb d,0,none⟩),.pointer (some ⟨aH,0,none⟩),gx,.pointer (some ⟨bG,0,none⟩),.int .i64 0,.pointer (some ⟨bI,0,none⟩),.pointer (some ⟨aY,0,none⟩),.pointer (some ⟨di,0,none⟩),.int .i64 lit,.int .i64 (i:Int),gp,dm,gP,gr,gC,u16,dn,dr,dw,gd,dx,dy,dz,dA,dB,dD,dF,dG,cr,ct,cu,u32,cv,cw,cz,cA,cB,cC,cD,cE,cF,cG,cH,dH,dI,gM,gK,gL,bu,bw,bx,bz,bA,bB,bC,bD,bE,bK,bL,bM,bN,bO,bP,u64,bQ,bR,bS,bT,bU,bV,bW,bX,bY,bZ,b5,b6,b7,b8,b9,cc,cg,ck,cm,cn,cp,dJ,dK,dL,dM,dN,dO,dP,dQ,cI,cK,cL,cM,cN,cO,cQ,cR,cS,cT,cU,cV,cW,cZ,c7,c8,dc,dR,dS,dU,dV,dW,dX,dY,dZ,ec,ee,ef,ei,ej,ek,en,eo,ep,er,eu,ew,ey,ez,eA,eB,eC,eD,eE,eF,eG,eH,gh,gi,gj,eL,eM,eN,eO,eP,eR,eS,eT,eU,eV,eW,eX,gl,gm,gn,eY,eZ,e3,e4,e5,e6,e7,e8,e9,fc,fe,ff,fh,fk,fm,fo,fq,fu,fA,fB,fC,fD,fE,fF,fG,fH,fI,fJ,fK,fL,fM,fN,fO,fP,fQ,fR,gu,gv,fS,fT,fU,fV,fW,fZ,ga],defers:=ds.map oS} W:=by
 have aM:=U ag;have p:=U C;clear C ag
 conv=>arg 2;whnf
 dsimp only;refine wp_loop_ghost_k (zf K base w G hs cb n jW F aG aH bG bI di aY) i ?start ?round
 case start=>exact zf.mk H
 case round=>
  clear H;intro g a W ak bd al ao ar;refine ak.elim ?_;intro i d lit ds gx gp dm gP gr gC u16 dn dr dw gd dx dy dz dA dB dD dF dG cr ct cu u32 cv cw cz cA cB cC cD cE cF cG cH dH dI gM gK gL bu bw bx bz bA bB bC bD bE bK bL bM bN bO bP u64 bQ bR bS bT bU bV bW bX bY bZ b5 b6 b7 b8 b9 cc cg ck cm cn cp dJ dK dL dM dN dO dP dQ cI cK cL cM cN cO cQ cR cS cT cU cV cW cZ c7 c8 dc dR dS dU dV dW dX dY dZ ec ee ef ei ej ek en eo ep er eu ew ey ez eA eB eC eD eE eF eG eH gh gi gj eL eM eN eO eP eR eS eT eU eV eW eX gl gm gn eY eZ e3 e4 e5 e6 e7 e8 e9 fc fe ff fh fk fm fo fq fu fA fB fC fD fE fF fG fH fI fJ fK fL fM fN fO fP fQ fR gu gv fS fT fU fV fW fZ ga aN D aO;clear ak;subst aN;replace D:=D.symm;subst D;obtain⟨y,z,s,A,au,mk,ls,X,f,E,hm⟩:=aO;have aw:=U (z_ E hm);have I:d<s.c.cl.length:=by rw[f.kT.c];exact E
  obtain⟨aP,J,aQ,M,ax⟩:=f.aJ.de.gA.Ae I;have q:=f.kT.rg.qg d;have ay:=f.kT.rg.rG;have az:=f.kT.rg.oU;have O:=f.li.qY;have aB:=p.o.gH.au.len;have aR:=p.o.gV;have aS:=p.o.n10;have aT:=p.o.aU;have aV:=p.o.bf;have aC:W.cell? ⟨G,9,none⟩=some (.int .i64 s.aW):=f.aJ.de.gA.e.kA (k:=9) (v:=.int .i64 s.aW) rfl;have bn:=f.aJ.bn;obtain⟨ac,aD⟩:∃a,(lE s d).ac=a:=⟨_,rfl⟩
  obtain⟨r,aE⟩:∃a,s.aW=a:=⟨_,rfl⟩
  rw[aD] at M q;rw[aE] at aC ay az;obtain⟨m,P⟩:∃t,aG.c.av.length=t:=⟨_,rfl⟩
  rw[P] at q O aB f;have f3:=ax 3;have hmul:jl*((m-i:Nat):Int)<=jl*10:=Zw (by omega) (by unfold jl;omega);have aF:0<=jl*((m-i:Nat):Int):=Int.mul_nonneg (by unfold jl;omega) (by omega);obtain⟨l,R⟩:∃b,jl*((m-i:Nat):Int)=b:=⟨_,rfl⟩
  rw[R] at hmul aF q f;have aX:jl=1099511627776:=rfl;have bg:v_.wrap (ac+r)=ac+r:=by rw[w_];omega
  have L:=U f;have N:=U (z_ P (z_ R (z_ (show 0<=jW+l+jl by omega) (z_ (show jW+l+jl<=4611686018427387904 by omega) (z_ (show jW+l+jl<=jW+16*jl by omega) (z_ (show 0<=ac+r by omega) (z_ (show ac+r<=jW+l+jl by omega) (z_ I (z_ O (show jW+l<=jW+l+jl by omega))))))))));have rest:bF (∀(s1:an)(cr ct cu u32 cv cw cz cA cB cC cD cE cF cG cH:Value)(S:World),nx K base w S G hs cb n (jW+l+jl) F aG aH bG bI di aY y z i (others (aA aG.c.cl d) lit) ds s1 A au mk ls X->Zk y_ GO (Exit.inBlock 1 (Exit.then al (Q))) {tmps:= #[.pointer (some ⟨G,0,none⟩),.pointer (some ⟨cb d,0,none⟩),.pointer (some ⟨aH,0,none⟩),gx,.pointer (some ⟨bG,0,none⟩),.int .i64 0,.pointer (some ⟨bI,0,none⟩),.pointer (some ⟨aY,0,none⟩),.pointer (some ⟨di,0,none⟩),.int .i64 lit,.int .i64 (i:Int),gp,dm,gP,gr,gC,u16,dn,dr,dw,gd,dx,dy,dz,dA,dB,dD,dF,dG,cr,ct,cu,u32,cv,cw,cz,cA,cB,cC,cD,cE,cF,cG,cH,dH,dI,gM,gK,gL,bu,bw,bx,bz,bA,bB,bC,bD,bE,bK,bL,bM,bN,bO,bP,u64,bQ,bR,bS,bT,bU,bV,bW,bX,bY,bZ,b5,b6,b7,b8,b9,cc,cg,ck,cm,cn,cp,dJ,dK,dL,dM,dN,dO,dP,dQ,cI,cK,cL,cM,cN,cO,cQ,cR,cS,cT,cU,cV,cW,cZ,c7,c8,dc,dR,dS,dU,dV,dW,dX,dY,dZ,ec,ee,ef,ei,ej,ek,en,eo,ep,er,eu,ew,ey,ez,eA,eB,eC,eD,eE,eF,eG,eH,gh,gi,gj,eL,eM,eN,eO,eP,eR,eS,eT,eU,eV,eW,eX,gl,gm,gn,eY,eZ,e3,e4,e5,e6,e7,e8,e9,fc,fe,ff,fh,fk,fm,fo,fq,fu,fA,fB,fC,fD,fE,fF,fG,fH,fI,fJ,fK,fL,fM,fN,fO,fP,fQ,fR,gu,gv,fS,fT,fU,fV,fW,fZ,ga],defers:=ds.map oS} S):=U (by
   intro s1 cr ct cu u32 cv cw cz cA cB cC cD cE cF cG cH S h1;refine LB p.o N.o.2.2.1 N.o.2.2.2.1 h1 aw.o.1 aw.o.2 ?_ ?_
   ·intro j op T Y s' Z aa mk' ab ad ae ah gx aj gp dm gP gr gC u16 dn dr dw gd dx dy dz dA dB dD dF dG cr ct cu u32 cv cw cz cA cB cC cD cE cF cG cH dH dI gM gK gL bu bw bx bz bA bB bC bD bE bK bL bM bN bO bP u64 bQ bR bS bT bU bV bW bX bY bZ b5 b6 b7 b8 b9 cc cg ck cm cn cp dJ dK dL dM dN dO dP dQ cI cK cL cM cN cO cQ cR cS cT cU cV cW cZ c7 c8 dc dR dS dU dV dW dX dY dZ ec ee ef ei ej ek en eo ep er eu ew ey ez eA eB eC eD eE eF eG eH gh gi gj eL eM eN eO eP eR eS eT eU eV eW eX gl gm gn eY eZ e3 e4 e5 e6 e7 e8 e9 fc fe ff fh fk fm fo fq fu fA fB fC fD fE fF fG fH fI fJ fK fL fM fN fO fP fQ fR gu gv fS fT fU fV fW fZ ga W' aZ;have af:=aM.o j (jW+l+jl) op T Y s' Z aa mk' ab ad ae;show Q (.exit 0) _ _;apply af
    ·exact N.o.2.2.2.2.1
    ·exact aZ
   ·intro j a6 a7 T Y s' Z aa mk' ab ad ae gx gp dm gP gr gC u16 dn dr dw gd dx dy dz dA dB dD dF dG cr ct cu u32 cv cw cz cA cB cC cD cE cF cG cH dH dI gM gK gL bu bw bx bz bA bB bC bD bE bK bL bM bN bO bP u64 bQ bR bS bT bU bV bW bX bY bZ b5 b6 b7 b8 b9 cc cg ck cm cn cp dJ dK dL dM dN dO dP dQ cI cK cL cM cN cO cQ cR cS cT cU cV cW cZ c7 c8 dc dR dS dU dV dW dX dY dZ ec ee ef ei ej ek en eo ep er eu ew ey ez eA eB eC eD eE eF eG eH gh gi gj eL eM eN eO eP eR eS eT eU eV eW eX gl gm gn eY eZ e3 e4 e5 e6 e7 e8 e9 fc fe ff fh fk fm fo fq fu fA fB fC fD fE fF fG fH fI fJ fK fL fM fN fO fP fQ fR gu gv fS fT fU fV fW fZ ga W' af a8 a' ba;show al _ _;refine ar _ _ (Handed.intro j ba (ao _ _ _ (zf.mk (d:=a6) (lit:=a7) (ds:=ae) ⟨T,Y,s',Z,aa,mk',ab,ad,af.up ?_,a8,a'⟩)));rw[N.o.1,<-N.o.2.1];have bh:jl*((m-i:Nat):Int)+jl<=jl*((m-j:Nat):Int):=by
     have bb:((m-i:Nat):Int)+1<=((m-j:Nat):Int):=by have:=N.o.2.2.2.2.2.2.2.2.1;omega
     have aI:=Zw bb (show 0<=jl by unfold jl;omega);rw[Int.mul_add,Int.mul_one] at aI;exact aI
    omega)
  clear f E hm aD aE P hmul aF R q aP aQ I ax ay az O aB aR aS aT aV aX ao ar;refine wp_block ?_;refine wp_seq_k ?_;intro bj aK;have aL:=U aK;clear aK
  cases u:(lE s d).kT with
  |true=>
   rw[u] at J;clear u
   go_wp2_with fail
   refine i_ 11 (by kernel_rfl) (by kernel_rfl) ?_;simp only[n_,j_,m_,g_]
   iterate 11 still_step
   refine Zu ?_;change wpList _ _ _ _ _ W.drew;have M:W.drew.cell? ⟨cb d,3,none⟩=some (.int .i64 ac):=M;have f3:W.drew.frozen? ⟨cb d,3,none⟩=false:=f3;have bc:=U ((L.o.grow ((a_ _ W).drew)).oK (d:=d) N.o.2.2.2.2.2.2.2.1 N.o.2.2.2.2.2.1 N.o.2.2.2.2.2.2.1 N.o.2.2.2.2.2.2.2.2.2);clear bn aC J;generalize W.drew=V at*
   go_wp2_with fail
   apply aL.o;apply rest.o;exact bc.o
  |false=>
   rw[u] at J;clear u
   go_wp2_with fail
   apply aL.o;apply rest.o;exact L.o.up N.o.2.2.2.2.2.2.2.2.2
end
section
open Go.RowKit Go.Shelf
def r5(x:Int):Bool:=(Lit.int .i64 x).wf
theorem zh(c: -9223372036854775808<=x)(h1:x<=9223372036854775807):r5 x=true:=by
 have a:v_.min= -9223372036854775808:=by decide
 have b:v_.max=9223372036854775807:=by decide
 unfold r5 Lit.wf;simp[a,b];omega
structure B0{β:Type}(e:TypeId)(pO:β->Value)(lP:β->DataW Unit)(ok:β->Prop)(z0:β):Prop where
 Ar:∀x,ok x->plainElem (H:=Unit) y_ e (pO x)=some (lP x,[])
 inv:∀v x mu,plainElem (H:=Unit) y_ e v=some (lP x,mu)->v=pO x
 all:∀v y,plainElem (H:=Unit) y_ e v=some y->∃x,v=pO x/\y.1=lP x
 zero:∀w,(zeroValue e).run y_ w=.ok (pO z0) w
 DV:ok z0
def tB(v:Bool):DataW Unit:=.lit (.bool v)
theorem B1:B0 4 Value.bool tB (λ _=>True) false where
 Ar x _:=plainElem_bool Zo x
 inv v x b h:=Fc Zo h
 all v y h:=by
  have hu:=Zo;generalize y_=P at h hu;unfold plainElem at h;rw[hu] at h
  cases v<;>simp at h
  subst h;exact⟨_,rfl,rfl⟩
 zero:=Tryz.zeroValue4
 DV:=trivial
section
variable {β:Type}{e:TypeId}{pO:β->Value}{lP:β->DataW Unit}{ok:β->Prop}{z0:β}
def As(lP:β->DataW Unit)(D:DataW Unit)(f:Int->Option β):Prop:=
 (∀x,r5 x=true->Maps.has D (.int .i64 x)=(f x).isSome)/\∀x v,r5 x=true->f x=some v->∀b,D.atKey (.int .i64 x) b=lP v
def mT(e:TypeId)(lP:β->DataW Unit)(w:World)(b n:Nat)(f:Int->Option β):Prop:=
 ∃D:DataW Unit,w.ownsMap y_ 3 (plainElem y_ e) b n D/\As lP D f
def DW:Int->Option β:=λ _=>none
def vf(f:Int->Option β)(x:Int)(v:β):Int->Option β:=λ y=>if y=x then some v else f y
theorem mT.made(w:World):mT e lP (w.alloc (.map #[] 0)) w.heap.size 0 DW:=
 ⟨_,World.ownsMap_made w _ _ _,λ x _=>rfl,λ x v _ h=>by cases h⟩
theorem mT.lt{w:World}{b n:Nat}{f:Int->Option β}(h:mT e lP w b n f):b<w.heap.size:=by
 obtain⟨D,h1,c⟩:=h;exact h1.lt
theorem mT.kept{w w':World}{b n:Nat}{f:Int->Option β}{row:Option Nat}(h:mT e lP w b n f)(c:w.grownBy w' row)(d:some b≠row):mT e lP w' b n f:=by
 obtain⟨D,h1,g⟩:=h;exact⟨D,h1.kept c d,g⟩
theorem mT.alloc{w:World}{b n:Nat}{f:Int->Option β}(h:mT e lP w b n f)(o:Obj):mT e lP (w.alloc o) b n f:=by
 obtain⟨D,h1,c⟩:=h;exact⟨D,h1.alloc o,c⟩
theorem mT.below{w w':World}{b n B:Nat}{f:Int->Option β}(h:mT e lP w b n f)(c:Below B w w')(d:b<B):mT e lP w' b n f:=by
 obtain⟨D,⟨es,clock,h1,g⟩,i⟩:=h;exact⟨D,⟨es,clock,(c.block b d).trans h1,g⟩,i⟩
theorem mT.setCell{w:World}{b n:Nat}{f:Int->Option β}(h:mT e lP w b n f){a:Addr}(c:b≠a.block)(u:Value):mT e lP (w.setCell a u) b n f:=by
 obtain⟨D,h1,d⟩:=h;exact⟨D,h1.setCell c u,d⟩
theorem mT.look(E:B0 e pO lP ok z0){t:TypeId}(i:y_.underlying t=some (.map 3 e)){w:World}{b n:Nat}{f:Int->Option β}(h:mT e lP w b n f){x:Int}(d:r5 x=true):
  (Instr.lookup t (.map (some b)) (.int .i64 x) false).run y_ w=.ok (pO ((f x).getD z0)) w:=by
 obtain⟨D,h1,j,k⟩:=h;obtain⟨v,m,l,c⟩:=h1.lookup (Zj o_) i (E.zero w) (E.Ar _ E.DV) (Zt o_ d);rw[l]
 cases g:f x with
 |none=>
  rw[Zi (by rw[j x d,g];rfl)] at c;rw[E.inv _ _ _ c];rfl
 |some y=>
  rw[k x y d g] at c;rw[E.inv _ _ _ c];rfl
theorem mT.LF(E:B0 e pO lP ok z0){t:TypeId}(j:y_.underlying t=some (.map 3 e)){w:World}{b n:Nat}{f:Int->Option β}(h:mT e lP w b n f){x:Int}(c:r5 x=true):
  (Instr.lookup t (.map (some b)) (.int .i64 x) true).run y_ w=.ok (.tuple #[pO ((f x).getD z0),.bool (f x).isSome]) w:=by
 obtain⟨D,h1,g,k⟩:=h;obtain⟨v,m,l,d⟩:=h1.look_ok (Zj o_) j (E.zero w) (E.Ar _ E.DV) (Zt o_ c);rw[l,g x c]
 cases i:f x with
 |none=>
  rw[Zi (by rw[g x c,i];rfl)] at d;rw[E.inv _ _ _ d];rfl
 |some y=>
  rw[k x y c i] at d;rw[E.inv _ _ _ d];rfl
theorem GQ{x y:Int}(h:y≠x):(Lit.int .i64 y)≠(Lit.int .i64 x):=by simpa using h
theorem As.put{D:DataW Unit}{f:Int->Option β}(d:Maps.IsMap D)(h:As lP D f)(x:Int)(v:β):As lP (D.put (.int .i64 x) (lP v)) (vf f x v):=by
 refine⟨λ y c=>?_,λ y u c hu e=>?_⟩
 ·by_cases b:y=x
  ·subst b;rw[Maps.has_put_same d (by simp[WideAt.IsKeyLit])];simp[vf]
  ·rw[Maps.has_put_other (GQ b),h.1 y c];simp[vf,b]
 ·by_cases b:y=x
  ·subst b;rw[Maps.atKey_put_same d (by simp[WideAt.IsKeyLit])];simp[vf] at hu;rw[hu]
  ·rw[Maps.atKey_put_other (GQ b)];simp[vf,b] at hu;exact h.2 y u c hu e
theorem mT.put(E:B0 e pO lP ok z0){t:TypeId}(c:y_.underlying t=some (.map 3 e)){w:World}{b n:Nat}{f:Int->Option β}(h:mT e lP w b n f)(d:n<maxLen){x:Int}(g:r5 x=true){v:β}(i:ok v):
  ∃w',(Instr.mapUpdate t (.map (some b)) (.int .i64 x) (pO v)).run y_ w=.ok () w'/\mT e lP w' b (n+1) (vf f x v)/\w.mapTurned w' b:=by
 obtain⟨D,h1,j⟩:=h;obtain⟨w',k,l,m⟩:=h1.store (Zj o_) c d (Zt o_ g) (E.Ar v i);exact⟨w',k,⟨_,l,j.put h1.isMap x v⟩,m⟩
variable {ops:Array Oper}{rest:List Oper}{o:Oper}{a:Act}{Q:Exit->Act->World->Prop}
end
def wq(S:List Int):Int->Option Bool:=λ x=>if hasB S x=true then some true else none
theorem LG(S:List Int)(x:Int):(wq S x).getD false=hasB S x:=by
 unfold wq;cases h:hasB S x<;>simp[h]
theorem LH(S:List Int)(x:Int):(wq S x).isSome=hasB S x:=by
 unfold wq;cases h:hasB S x<;>simp[h]
theorem LI(S:List Int)(x:Int):vf (wq S) x true=wq (S++[x]):=by
 funext y;unfold vf wq;rw[yz]
 by_cases b:y=x
 ·subst b;simp
 ·have c:(x==y)=false:=by simpa using Ne.symm b
  simp[b,c]
end
section
open Go.RowKit Go.Shelf
theorem mT.B2{β:Type}{e:TypeId}{lP:β->DataW Unit}{f:Int->Option β}(h:mT e lP w b n f):∃es clock,w.heap[b]? =some (.map es clock):=by
 obtain⟨D,⟨es,clock,h1,c⟩,d⟩:=h;exact⟨es,clock,h1⟩
theorem zi{B C:World}{row:Option Nat}(h:A.grownBy B (some b))(k:B.grownBy C row)(f:∀r,row=some r->A.heap.size<=r\/r=b):A.grownBy C (some b):=
 ⟨k.os.trans h.os,k.tape.trans h.tape,k.output.trans h.output,Zd h.size k.size,λ i c d=>(k.block i (Nat.lt_of_lt_of_le c h.size) (λ e=>by
  rcases f i e.symm with h1|h1
  ·omega
  ·exact d (by rw[h1]))).trans (h.block i c d)⟩
theorem GR(A:World)(row:Option Nat):A.grownBy A row:=⟨rfl,rfl,rfl,h_ _,λ _ _ _=>rfl⟩
theorem Au{B:World}(row:Option Nat)(h:Below A.heap.size A B):A.grownBy B row:=⟨h.os,h.tape,h.output,h.size,λ k hk _=>h.block k hk⟩
structure sA(base:Nat)(W:World)(G:Nat)(hs:Nat->aq)(cb:Nat->Nat)(s:an)(lp aH lR bm m:Nat)(f:Int->Option Bool):Prop where
 e:iW base W G hs cb s
 vS:aM W lp 114 [.map (some bm)]
 qh:aM W aH 115 [.pointer (some ⟨G,0,none⟩)]
 tZ:aM W lR 129 [.func (.func 185) #[] #[.pointer (some ⟨lp,0,none⟩),.pointer (some ⟨aH,0,none⟩),.pointer (some ⟨lR,0,none⟩)]]
 oN:mT 4 tB W bm m f
 snd:∀y,f y=some true->rz s.c s.aK y
section
variable {base:Nat}{W W':World}{G:Nat}{hs:Nat->aq}{cb:Nat->Nat}{s:an}{lp aH lR bm m:Nat}{f:Int->Option Bool}
theorem sA.below(h:sA base W G hs cb s lp aH lR bm m f)(b:Below W.heap.size W W'):sA base W' G hs cb s lp aH lR bm m f:=
 ⟨h.e.below b,h.vS.below b,h.qh.below b,h.tZ.below b,h.oN.below b h.oN.lt,h.snd⟩
theorem x8{b:Nat}{t:TypeId}{cs:List Value}(h:aM W b t cs){row:Option Nat}(d:∀r,row=some r->∃o:Obj,W.heap[r]? =some o/\o.isCells=false):some b≠row:=λ e=>by
 obtain⟨o,c,f⟩:=d b e.symm;have:W.heap[b]? =_:=h;rw[this] at c;cases c;cases f
theorem sA.isMap(h:sA base W G hs cb s lp aH lR bm m f):∀r,some bm=some r->∃o:Obj,W.heap[r]? =some o/\o.isCells=false:=λ r e=>by
 obtain⟨es,cl,h1⟩:=h.oN.B2;cases e;exact⟨_,h1,rfl⟩
theorem sA.put(h:sA base W G hs cb s lp aH lR bm m f){mm:Nat}{oq:Int->Option Bool}(b:W.grownBy W' (some bm))(hm:mT 4 tB W' bm mm oq)(hs':∀y,oq y=some true->rz s.c s.aK y):sA base W' G hs cb s lp aH lR bm mm oq:=
 ⟨h.e.ua b h.isMap,h.vS.kept b (x8 h.vS h.isMap),h.qh.kept b (x8 h.qh h.isMap),h.tZ.kept b (x8 h.tZ h.isMap),hm,hs'⟩
theorem sA.box(h:sA base W G hs cb s lp aH lR bm m f)(d:W.grownBy W' (some bm)){b:Nat}{t:TypeId}{cs:List Value}(c:aM W b t cs):aM W' b t cs:=c.kept d (x8 c h.isMap)
end
theorem LJ(mC lp mV bm m:Nat)(f:Int->Option Bool)(x:Int)(yes:Bool)(u:FrameMode)(n:Nat)(W:World)(b:aM W mC 4 [.bool yes])(hk:aM W lp 114 [.map (some bm)])(c:aM W mV 3 [.int .i64 x])(hm:mT 4 tB W bm m f)(i:r5 x=true)(j:m<maxLen):
  CallsDIn b_ n y_ 186 #[.pointer (some ⟨mC,0,none⟩),.pointer (some ⟨lp,0,none⟩),.pointer (some ⟨mV,0,none⟩)] u W λ e k W'=>k=u/\(e=.returned (.tuple #[])/\mT 4 tB W' bm (m+1) (vf f x yes)/\W.grownBy W' (some bm)):=by
 obtain⟨W',l,d,g⟩:=hm.put B1 Tryz.underlying114 j i (v:=yes) trivial;have p:W.cell? ⟨mC,0,none⟩=some (.bool yes):=b.cell 0;have q:W.cell? ⟨lp,0,none⟩=some (.map (some bm)):=hk.cell 0;have c5:W.cell? ⟨mV,0,none⟩=some (.int .i64 x):=c.cell 0;have H:=U (z_ d g.grown);clear d g b hk c hm;refine callsDIn_of_wp Tryz.func186 rfl trivial ?_;simp only[Tryz.ntmps186,List.size_toArray,Zq,List.length_nil,Nat.reduceAdd,Nat.reduceSub,Zh,Zg,List.push_toArray,List.append_toArray,List.nil_append,List.cons_append]
 gi_wp2
 go_end0;exact⟨rfl,H.o.1,H.o.2⟩
def GS(base:Nat)(W:World)(G:Nat)(hs:Nat->aq)(cb:Nat->Nat)(s:an)(lp aH lR bm m:Nat)(x:Int)(q:Nat)(e:Ending)(W':World):Prop:=
 ∃(b:Bool)(d:Nat)(f:Int->Option Bool),e=.returned (.bool b)/\(b=true->rz s.c s.aK x)/\sA base W' G hs cb s lp aH lR bm d f/\W.grownBy W' (some bm)/\d<=m+q
theorem GU(tmps:Array Value)(mC:Nat)(yes:Bool)(W:World)(b:tmps[7]? =some (.pointer (some ⟨mC,0,none⟩)))(c:W.cell? ⟨mC,0,none⟩=some (.bool yes)):(results Tryz.f185 tmps).run y_ W=.ok (.bool yes) W:=by
 simp[results,Tryz.f185,b,c,go_sem]
def GV(mC lp mV:Nat):Deferred:={target:=.fn (.func 186) #[.pointer (some ⟨mC,0,none⟩),.pointer (some ⟨lp,0,none⟩),.pointer (some ⟨mV,0,none⟩)],args:= #[]}
theorem B3{mQ:World}{m0 m:Nat}{yes:Bool}{mC mV q:Nat}
  (w:a.defers=ds.map oS++[GV mC lp mV]) (J:a.tmps[7]? =some (.pointer (some ⟨mC,0,none⟩))) (h:sA base W G hs cb s lp aH lR bm m f) (o:mQ.grownBy W (some bm)) (v:pH mQ.heap.size W ds) (C:aM W mC 4 [.bool yes]) (K:aM W mV 3 [.int .i64 x]) (L:r5 x=true) (E:yes=true->rz s.c s.aK x) (z:m<maxLen) (M:m+1<=m0+q):
  bodyPostM b_ 6 y_ Tryz.f185 (GS base mQ G hs cb s lp aH lR bm m0 x q) .ret a W:=by
 show LeavesInM b_ 6 y_ Tryz.f185 a.tmps _ a.defers .returning W;rw[w];refine Fy (by simp) _ ds W v.nu (λ D p=>(v.kB D p).2) (λ i l=>?_);have u:∀b,(∃cs t F,W.heap[b]? =some (Obj.cells cs t F))\/(∃es cl,W.heap[b]? =some (Obj.map es cl))->i.heap[b]? =W.heap[b]? :=λ b u=>l.block b (λ p=>by
  have h1:=(v.kB b p).2;rcases u with⟨cs,t,F,j⟩|⟨es,cl,j⟩
  ·rw[j] at h1;cases h1
  ·rw[j] at h1;cases h1)
 have hblk:∀{b:Nat}{t:TypeId}{cs:List Value},aM W b t cs->aM i b t cs:=λ H=>(u _ (.inl ⟨_,_,_,H⟩)).trans H
 have N:mQ.grownBy i (some bm):=⟨l.os.trans o.os,l.tape.trans o.tape,l.output.trans o.output,by rw[l.size];exact o.size,λ k hk z=>(l.block k (λ p=>by have:=(v.kB k p).1;omega)).trans (o.block k hk z)⟩
 have O:iW base i G hs cb s:=by
  refine⟨hblk h.e.box,⟨λ r=>mK (h.e.rows.row r) (λ b P=>?_),h.e.rows.apart⟩,λ d w=>hblk (h.e.cls d w),h.e.inj,h.e.rB,h.e.rW⟩;obtain⟨cs,j⟩:=sN (h.e.rows.row r) P;exact u b (.inl ⟨_,_,_,j⟩)
 have I:mT 4 tB i bm m f:=by
  obtain⟨D,⟨es,clock,h1,Q⟩,j⟩:=h.oN;exact⟨D,⟨es,clock,(u bm (.inr ⟨es,clock,h1⟩)).trans h1,Q⟩,j⟩
 have A:sA base i G hs cb s lp aH lR bm m f:=⟨O,hblk h.vS,hblk h.qh,hblk h.tZ,I,h.snd⟩
 refine⟨by simp,.inr ⟨λ _=>by omega,_,_,186, #[.pointer (some ⟨mC,0,none⟩),.pointer (some ⟨lp,0,none⟩),.pointer (some ⟨mV,0,none⟩)],rfl,?_,λ g V=>trivial,?_⟩⟩
 ·simp[GV,invoke,go_sem,enters_of Tryz.func186 (by kernel_rfl) rfl]
 ·refine(LJ mC lp mV bm m f x yes .returning _ i (hblk C) A.vS (hblk K) I L z).mono ?_;rintro e X R ⟨rfl,rfl,S,B⟩;have T:sA base R G hs cb s lp aH lR bm (m+1) (vf f x yes):=A.put B S (λ y n=>by
   unfold vf at n;split at n
   ·rename_i e;subst e;injection n with n;exact E n
   ·exact h.snd y n)
  have U:=A.box B (hblk C);exact⟨_,GU _ _ _ _ J (U.cell 0),yes,m+1,_,rfl,E,T,zi N B (λ r e=>by cases e;exact .inr rfl),M⟩
end
section
open Go.RowKit Go.Shelf
attribute [local go_sem] Zn
theorem LK(h:gF n x)(b:n<=60000):r5 x=true:=zh (by have:=h.2;unfold aI at this;omega) (by have:=h.2;unfold aI at this;omega)
def B4(W:World)(s:an)(bm m Q:Nat)(x deep:Int)(st:Bool)(pre:List Int)(b:World):Prop:=
 ∃(d:Nat)(e:Int->Option Bool),W.grownBy b (some bm)/\mT 4 tB b bm d e/\(∀y,e y=some true->rz s.c s.aK y)/\aM b W.heap.size 3 [.int .i64 x]/\aM b (W.heap.size+1) 3 [.int .i64 deep]/\aM b (W.heap.size+1+1) 4 [.bool false]/\(st=true->∀y∈pre,jr s.aK (aI y)=false->aS s.c y≠0->rz s.c s.aK y)/\d<=m+pre.length*Q
def LL(W:World)(s:an)(bm m Q:Nat)(x deep:Int)(c:Code)(pre:List Int)(b:World):Prop:=c=.ret/\B4 W s bm m Q x deep false pre b
theorem LM(T:jU s.c)(D:rQ F Fd s.c)(cO:s.c.n<=10)(cP:s.aK.length=s.c.n+1):
  ∀(p:Nat)(x:Int)(deep:Int)(W:World)(m:Nat)(f:Int->Option Bool),p<s.c.av.length->ai s.c.av p= -x->0<=deep->deep<=1001->sA base W G hs cb s lp aH lR bm m f->m+24^(p+1)<=4611686018427387904->
  Calls y_ 185 #[.int .i64 x,.int .i64 deep,.pointer (some ⟨lp,0,none⟩),.pointer (some ⟨aH,0,none⟩),.pointer (some ⟨lR,0,none⟩)] W (GS base W G hs cb s lp aH lR bm m x (24^(p+1))):=by
 intro p
 induction p using Nat.strongRecOn with
 |ind p bb=>?_
 intro x deep W m f hp bc ck cm bE bG;have aF:gF s.c.n x:=by have:=T.lit _ (lY hp);rw[bc] at this;have:=this.neg;rwa[Int.neg_neg] at this
 have bH:=LK aF (by omega);obtain⟨Q,aG⟩:∃Q,24^p=Q:=⟨_,rfl⟩
 have bd:24^(p+1)=24*Q:=by rw[Nat.pow_succ,aG,Nat.mul_comm]
 have bI:1<=Q:=by rw[<-aG];exact Nat.pow_pos (by omega)
 rw[bd] at bG⊢;have bb:=U bb;have cn:=U (z_ ck cm);have I:=U bE;have ae:=U T;have cp:=U D;have q:=U (z_ hp (z_ bc (z_ aF (z_ bH (z_ aG (z_ bd (z_ bI bG)))))));obtain⟨v,al⟩:∃v,aI x=v:=⟨_,rfl⟩
 have bJ:v<=s.c.n:=by have:=aF.2;omega
 have cq:bF (∀w:World,Calls y_ 97 #[.int .i64 x] w λ e w'=>e=.returned (.int .i64 (v:Int))/\w=w'):=U (λ w=>by have:=sM x w (by unfold aI at al;omega) (by unfold aI at al;omega);rw[al] at this;exact this);have cQ:∀(fn:Fn)(first cap:Array Value)(w:World),(Instr.makeFunc fn first cap).run y_ w=.ok (.func fn first cap) w:=λ _ _ _ _=>rfl
 have aJ:=U (z_ al bJ);clear hp bc aF bH aG bd bI bE T D al bJ;refine Bk Tryz.func185 rfl ?_;simp only[Tryz.ntmps185,List.size_toArray,Zq,List.length_nil,Nat.reduceAdd,Nat.reduceSub,Zh,Zg,List.push_toArray,List.append_toArray,List.nil_append,List.cons_append]
 go_upto_region 1 with fail
 have aL:Below W.heap.size W (((W.alloc (.cells #[.int .i64 x] 3)).alloc (.cells #[.int .i64 deep] 3)).alloc (.cells #[.bool false] 4)):=(((a_ _ W).alloc (h_ _) _).alloc (by simp) _).alloc (by simp;omega) _;have mV:aM (((W.alloc (.cells #[.int .i64 x] 3)).alloc (.cells #[.int .i64 deep] 3)).alloc (.cells #[.bool false] 4)) W.heap.size 3 [.int .i64 x]:=((aM.new W 3 [.int .i64 x]).below (bg _ _)).below (bg _ _);have bK:aM (((W.alloc (.cells #[.int .i64 x] 3)).alloc (.cells #[.int .i64 deep] 3)).alloc (.cells #[.bool false] 4)) (W.heap.size+1) 3 [.int .i64 deep]:=by
  have:=(aM.new (W.alloc (.cells #[.int .i64 x] 3)) 3 [.int .i64 deep]).below (bg _ (.cells #[.bool false] 4));simpa using this
 have mC:aM (((W.alloc (.cells #[.int .i64 x] 3)).alloc (.cells #[.int .i64 deep] 3)).alloc (.cells #[.bool false] 4)) (W.heap.size+1+1) 4 [.bool false]:=by
  have:=aM.new ((W.alloc (.cells #[.int .i64 x] 3)).alloc (.cells #[.int .i64 deep] 3)) 4 [.bool false];simpa using this
 have aN:(((W.alloc (.cells #[.int .i64 x] 3)).alloc (.cells #[.int .i64 deep] 3)).alloc (.cells #[.bool false] 4)).heap.size=W.heap.size+1+1+1:=by simp
 generalize ((W.alloc (.cells #[.int .i64 x] 3)).alloc (.cells #[.int .i64 deep] 3)).alloc (.cells #[.bool false] 4)=V at*;have af:=U (I.o.below aL);have cr:=U (Au (some bm) aL);have aO:=U (z_ mV (z_ bK mC));have ct:V.cell? ⟨lp,0,none⟩=some (.map (some bm)):=af.o.vS.cell 0;have c5:V.cell? ⟨W.heap.size,0,none⟩=some (.int .i64 x):=mV.cell 0;have aQ:V.cell? ⟨W.heap.size+1+1,0,none⟩=some (.bool false):=mC.cell 0;have f7:=mC.free 0;have au:=af.o.oN.LF B1 Tryz.underlying114 q.o.2.2.2.1;have bf:=U aL;clear aL mV bK mC
 cases aw:f x with
 |some b=>
  rw[aw] at au;dsimp only[Option.getD_some,Option.isSome_some] at au;have cu:=U aw;clear aw
  go_wp2_with fail
  have Y:Below W.heap.size W (V.setCell ⟨W.heap.size+1+1,0,none⟩ (.bool b)):=bf.o.setCell (p:=⟨W.heap.size+1+1,0,none⟩) (by simp;omega) _;refine J4 (GU _ (W.heap.size+1+1) b _ rfl (((aO.o.2.2).set 0 (.bool b)).cell 0)) rfl ?_;exact⟨b,m,f,rfl,λ e=>I.o.snd x (by rw[cu.o,e]),I.o.below Y,Au _ Y,by omega⟩
 |none=>
  rw[aw] at au;dsimp only[Option.getD_none,Option.isSome_none] at au;clear aw
  go_upto_region 5 with fail
  have bn:V.cell? ⟨aH,0,none⟩=some (.pointer (some ⟨G,0,none⟩)):=af.o.qh.cell 0;obtain⟨g3,bL,aR,f3⟩:=af.o.e.lN 4 3 rfl af.o.e.nD (by have:=ae.o.pe;omega);have c3:=af.o.e.yO bL (k:=v) (by have:=ae.o.pe;have:=aJ.o;omega);have cR:(v:Int)<(s.c.j9.length:Int):=by have:=ae.o.pe;have:=aJ.o;omega
  have c6:V.cell? ⟨W.heap.size+1,0,none⟩=some (.int .i64 deep):=aO.o.2.1.cell 0;have bh:=ae.o.qc p q.o.1;have bM:aI (ai s.c.av p)=v:=by rw[q.o.2.1,oG];exact aJ.o.1
  rw[bM] at bh;obtain⟨pv,B⟩:∃pv:Option Addr,q3 cb (mw s.c.j9 v)=.pointer pv:=by cases mw s.c.j9 v with
   |none=>exact⟨_,rfl⟩
   |some d=>exact⟨_,rfl⟩
  rw[B] at c3;have bN:=U B;clear B;refine i_ 8 (by kernel_rfl) (by kernel_rfl) ?_;simp only[n_,j_,m_,g_]
  iterate 5 still_step
  still_call ((cq.o _).mono (λ e w' h=>⟨h.1,h.2.symm⟩))
  iterate 2 still_step
  refine Zu ?_;change wpList _ _ _ _ _ V.drew;have bO:=U bh;have bj:Below W.heap.size W V.drew:=bf.o.drew;have aa:=U (show aM V.drew W.heap.size 3 [.int .i64 x]/\aM V.drew (W.heap.size+1) 3 [.int .i64 deep]/\aM V.drew (W.heap.size+1+1) 4 [.bool false] from aO.o);have ax:=U bj;have cv:=U (I.o.below bj);have c5:V.drew.cell? ⟨W.heap.size,0,none⟩=some (.int .i64 x):=c5;have c6:V.drew.cell? ⟨W.heap.size+1,0,none⟩=some (.int .i64 deep):=c6;have aQ:V.drew.cell? ⟨W.heap.size+1+1,0,none⟩=some (.bool false):=aQ;have f7:V.drew.frozen? ⟨W.heap.size+1+1,0,none⟩=false:=f7;have aN:V.drew.heap.size=W.heap.size+1+1+1:=aN;clear bj bh bM bL f3 aR bn au ct aO bf af cr c3;have B:=bN.o;clear bN;generalize V.drew=u at*
  cases hw:mw s.c.j9 v with
  |none=>
   rw[hw] at B;clear hw bO;have B:Value.pointer none=.pointer pv:=B;injection B with B
   subst B
   go_wp2_with fail
   have Y:Below W.heap.size W (u.setCell ⟨W.heap.size+1+1,0,none⟩ (.bool false)):=ax.o.setCell (p:=⟨W.heap.size+1+1,0,none⟩) (by simp;omega) _;exact B3 (ds:=[]) (yes:=false) (mC:=W.heap.size+1+1) (mV:=W.heap.size) rfl rfl (I.o.below Y) (Au _ Y) ⟨List.nodup_nil,λ D h=>by cases h⟩ (aa.o.2.2.set 0 (.bool false)) (aa.o.1.kept (kK _ _ _ _) (by simp;omega)) q.o.2.2.2.1 (λ e=>by cases e) (by have:=q.o;unfold maxLen;omega) (by have:=q.o;omega)
  |some d=>
   rw[hw] at B;have bP:=U hw;clear hw;have B:Value.pointer (some ⟨cb d,0,none⟩)=.pointer pv:=B;injection B with B
   subst B
   by_cases bQ:1000<deep
   ·have d1:decide (1000<deep)=true:=by simp;omega
    go_wp2_with fail
    have Y:Below W.heap.size W (u.setCell ⟨W.heap.size+1+1,0,none⟩ (.bool false)):=ax.o.setCell (p:=⟨W.heap.size+1+1,0,none⟩) (by simp;omega) _;exact B3 (ds:=[]) (yes:=false) (mC:=W.heap.size+1+1) (mV:=W.heap.size) rfl rfl (I.o.below Y) (Au _ Y) ⟨List.nodup_nil,λ D h=>by cases h⟩ (aa.o.2.2.set 0 (.bool false)) (aa.o.1.kept (kK _ _ _ _) (by simp;omega)) q.o.2.2.2.1 (λ e=>by cases e) (by have:=q.o;unfold maxLen;omega) (by have:=q.o;omega)
   ·have d1:decide (1000<deep)=false:=by simp;omega
    have cw:=U bQ;clear bQ
    go_upto_region 8 with fail
    have bR:=bO.o;rw[bP.o] at bR;obtain⟨ag,bl,bS⟩:=bR;have cS:v_.wrap (-x)= -x:=by rw[w_];have:=q.o.2.2.1.2;unfold aI at this;omega
    have cx:=U aN;clear aN
    go_wp2_with (go_at_call 183;refine(DC _ _ _).mono ?_;rintro e w1 ⟨rfl,rfl⟩;dsimp only)
    have ay:Below u.heap.size u ((u.alloc (.cells #[.pointer (some ⟨cb d,0,none⟩)] 164)).alloc (.cells #[.int .i64 (-x)] 3)):=(bg u (.cells #[.pointer (some ⟨cb d,0,none⟩)] 164)).trans ((bg _ (.cells #[.int .i64 (-x)] 3)).mono (by simp));have cy:((u.alloc (.cells #[.pointer (some ⟨cb d,0,none⟩)] 164)).alloc (.cells #[.int .i64 (-x)] 3)).cell? ⟨u.heap.size,0,none⟩=some (.pointer (some ⟨cb d,0,none⟩)):=by go_simp
    have k2:((u.alloc (.cells #[.pointer (some ⟨cb d,0,none⟩)] 164)).alloc (.cells #[.int .i64 (-x)] 3)).cell? ⟨u.heap.size+1,0,none⟩=some (.int .i64 (-x)):=by go_simp
    have cT:((u.alloc (.cells #[.pointer (some ⟨cb d,0,none⟩)] 164)).alloc (.cells #[.int .i64 (-x)] 3)).heap.size=u.heap.size+1+1:=by simp
    have bo:=U (ax.o.trans (ay.mono ax.o.size));have bp:=U (z_ (aa.o.1.below ay) (z_ (aa.o.2.1.below ay) (aa.o.2.2.below ay)));clear ay aa ax cv;generalize (u.alloc (.cells #[.pointer (some ⟨cb d,0,none⟩)] 164)).alloc (.cells #[.int .i64 (-x)] 3)=ao at*;have az:=U (I.o.below bo.o);have bT:aP (λ _=>False) base ao G hs cb s:=⟨az.o.e,⟨λ b h=>h.elim,λ h=>h,λ r b _ h=>h,λ d ag h=>h⟩⟩
    obtain⟨bk,m1,cz,C⟩:=bT.y9 ag (Zm bl);have bq:=cp.o.mD d ag;have cA:m1<=22:=by have:=bq.len;have:=C.len;omega
    have cU:=(I.o.e.rows.lt C.b).2;have cV:=(I.o.e.cls d ag).lt;have Z:=U (z_ ag (z_ bl (z_ bq (z_ cA (z_ C bS)))));have cB:bF (bk≠bm):=U (λ e=>by
     obtain⟨cs,h1⟩:=sN (az.o.e.rows.row (kz d)) (g:=bk) (by rw[aq.own];exact C.b);obtain⟨es,cl,J⟩:=az.o.oN.B2;rw[e,J] at h1;cases h1)
    have K:=U (z_ bo.o.size (z_ I.o.oN.lt cx.o));have bU:∀(st:Bool),OwnFrom ao.heap.size (λ(pre:List Int)(j:World)=>B4 W s bm m Q x deep st pre j):=by
     rintro st pre bV bW row ⟨P,ab,h1,J,M,N,R,L,S,O⟩ ah aj;exact⟨P,ab,zi h1 ah (λ r e=>.inl (by have:=(aj r e).1;have:=K.o.1;omega)),J.kept ah (λ e=>by have:=(aj bm e.symm).1;have:=K.o;omega),M,N.kept ah (x8 N (λ r e=>(aj r e).2)),R.kept ah (x8 R (λ r e=>(aj r e).2)),L.kept ah (x8 L (λ r e=>(aj r e).2)),S,O⟩
    have br:=U bU;clear ag bl bq bU bS bT;refine(wpIn_wide (n:=6)).1 ?_;refine Bj (F:=b_) (w0:=ao) rfl (by omega) (gf:=224) (lb:= #[.pointer (some ⟨u.heap.size,0,none⟩),.pointer (some ⟨u.heap.size+1,0,none⟩)]) rfl trivial DB
     (DD (6-1) (by omega) u.heap.size (u.heap.size+1) (cb d) bk m1 cz (aA s.c.cl d) (-x) C.len (by omega) ao cy k2 C.ag C.kB (by omega) (by omega) (by have:=K.o;omega) (by have:=K.o;omega))
     (λ h k=>h.trans k) (λ V l o cW hl al bX _=>⟨λ v bs=>(p_ (w:=V) (l_ (by show u.heap.size+1≠l;omega))).trans bs,λ k v _ bs=>(p_ (w:=V) (l_ (by show bk≠l;have:=K.o;omega))).trans bs⟩) (a_ _ _) (λ _=>rfl)
     (λ(pre:List Int)(j:World)=>B4 W s bm m Q x deep true pre j)
     (λ c pre j=>LL W s bm m Q x deep c pre j)
     (br.o true) (λ c pre bV bW row h ah aj=>⟨h.1,br.o false pre bV bW row h.2 ah aj⟩) ⟨m,f,Au _ bo.o,az.o.oN,az.o.snd,bp.o.1,bp.o.2.1,bp.o.2.2,λ _ y h=>absurd h List.not_mem_nil,by simp⟩
     ?a1 ?w1 ?assign ?kw1 ?body ?done ?stop
    case assign=>
     intro l pre y j cX aS aT cC
     gi_wp2
     exact cC
    case kw1=>
     intro pre y j aS;exact⟨Zv _ _,pS.refl _ _ _ _⟩
    case body=>
     rintro l pre y bY j aS ⟨o,cD,bZ,bX,b0,b1⟩ aT cY;have cE:=br.o true _ _ _ _ aS (show bY.grownBy j (some (ao.heap.size+1)) by rw[bZ];exact grownBy_putObj' bY (ao.heap.size+1) o) (λ r e=>by cases e;exact⟨by omega,cD,b0,b1⟩);clear aS bZ bX b0 b1;obtain⟨P,ab,h1,J,M,N,R,L,S,O⟩:=cE;have b2:y∈others (aA s.c.cl d) (-x):=aT.subset (by simp);obtain⟨bt,b3⟩:=List.mem_filter.1 b2;have aB:gF s.c.n y:=Z.o.2.2.1.lt y bt;have b4:=Z.o.2.2.2.2.2 y bt (by rw[q.o.2.1];simpa using b3);obtain⟨aU,b5,b6,b7⟩:=pX.1 b4;obtain⟨ad,aC⟩:∃v,aI y=v:=⟨_,rfl⟩
     have b8:ad<=s.c.n:=by have:=aB.2;omega
     have bu:bF (∀w:World,Calls y_ 97 #[.int .i64 y] w λ e w'=>e=.returned (.int .i64 (ad:Int))/\w=w'):=U (λ w=>by have:=sM y w (by unfold aI at aC;omega) (by unfold aI at aC;omega);rw[aC] at this;exact this);have hlen:pre.length+1<=22:=by
      have aD:=aT.length_le;have aV:(others (aA s.c.cl d) (-x)).length<=(aA s.c.cl d).length:=c_ _ _;have aR:=Z.o.2.2.2.2.1.len;have b9:=Z.o.2.2.2.1;rw[t_,q_] at aD;omega
     have A:=I.o.put h1 J M;obtain⟨g12,b',cZ,f12⟩:=A.e.lN 16 12 rfl A.e.n12 (by omega);have c12:=A.e.Aa b' (k:=ad) (by omega);obtain⟨g2,ca,aV,f2⟩:=A.e.lN 3 2 rfl A.e.lD (by have:=ae.o.pN;omega);have c2:=A.e.v7 ca (k:=ad) (by have:=ae.o.pN;omega);have c7:(ad:Int)<(s.aK.length:Int):=by omega
     have c8:(ad:Int)<(s.c.lvl.length:Int):=by have:=ae.o.pN;omega
     have da:j.cell? ⟨aH,0,none⟩=some (.pointer (some ⟨G,0,none⟩)):=A.qh.cell 0;have db:j.cell? ⟨lR,0,none⟩=some (.func (.func 185) #[] #[.pointer (some ⟨lp,0,none⟩),.pointer (some ⟨aH,0,none⟩),.pointer (some ⟨lR,0,none⟩)]):=A.tZ.cell 0;have dc:j.cell? ⟨W.heap.size+1,0,none⟩=some (.int .i64 deep):=R.cell 0;have wd:v_.wrap (deep+1)=deep+1:=by rw[w_];omega
     obtain⟨ar,bw⟩:∃l,gO s.c.lvl ad=l:=⟨_,rfl⟩
     obtain⟨cc,bx⟩:∃b,jr s.aK ad=b:=⟨_,rfl⟩
     rw[bw] at c2;rw[bx] at c12;have hmul:(pre.length+1)*Q<=22*Q:=Zx Q hlen;have aW:(pre.length+1)*Q=pre.length*Q+Q:=Nat.succ_mul _ _;obtain⟨cd,bz⟩:∃cd,pre.length*Q=cd:=⟨_,rfl⟩
     rw[bz] at O aW;rw[aW] at hmul;have i:=U (z_ h1 (z_ J (z_ M (z_ N (z_ R (z_ L (z_ S O)))))));have X:=U (z_ aB (z_ aC (z_ b8 (z_ hlen (z_ bw (z_ bx (z_ b5 (z_ b6 (z_ b7 (z_ hmul (z_ aW bz)))))))))));have A:=U A;have bA:bF (P+24^(aU+1)<=4611686018427387904/\24^(aU+1)<=Q):=U (by
      have aD:24^(aU+1)<=24^p:=Nat.pow_le_pow_right (by omega) (by omega);rw[q.o.2.2.2.2.1] at aD;have aV:=q.o.2.2.2.2.2.2.2;exact⟨by omega,aD⟩)
     have bB:bF (∀(aX:Nat)(aY:Int->Option Bool)(ak:World),W.grownBy ak (some bm)->mT 4 tB ak bm aX aY->(∀y,aY y=some true->rz s.c s.aK y)->aM ak W.heap.size 3 [.int .i64 x]->aM ak (W.heap.size+1) 3 [.int .i64 deep]->aM ak (W.heap.size+1+1) 4 [.bool false]->(cc=false->ar≠0->rz s.c s.aK y)->aX<=P+Q->
       B4 W s bm m Q x deep true (pre++[y]) ak):=U (λ aX aY ak a1 a2 a3 a4 a5 cF cG dd=>⟨aX,aY,a1,a2,a3,a4,a5,cF,λ _ z cH aZ a6=>(k_.1 cH).elim (λ h=>i.o.2.2.2.2.2.2.1 rfl z h aZ a6) (λ h=>by
        rw[u_] at h;subst h;exact cG (by rw[<-X.o.2.2.2.2.2.1,<-X.o.2.1];exact aZ) (by rw[<-X.o.2.2.2.2.1,<-X.o.2.1];exact a6)),by rw[t_,q_,X.o.2.2.2.2.2.2.2.2.2.2.1];have:=i.o.2.2.2.2.2.2.2;omega⟩)
     clear h1 J M N R L S O aB aC b8 hlen bw bx b5 b6 b7 hmul aW bz b2 bt b3 b4 b' ca f12 f2 aT
     cases cc with
     |true=>
      gi_wp2_with (refine⟨trivial,?_⟩;gi_at_call 97;refine(x_ l (s_.2 (bu.o _))).mono ?_;rintro e w1 ⟨rfl,rfl⟩)
      refine⟨λ _ h=>(by cases h),?_⟩
      gi_wp2
      exact⟨Zv _ _,pS.refl _ _ _ _,bB.o P ab j i.o.1 i.o.2.1 i.o.2.2.1 i.o.2.2.2.1 i.o.2.2.2.2.1 i.o.2.2.2.2.2.1 (λ h=>by cases h) (by omega)⟩
     |false=>
      by_cases aB:0<ar
      ·have d1:decide ((0:Int)<(ar:Int))=true:=by simp;omega
       have cI:(0:Int)<(ar:Int):=by omega
       have cf:=bb.o aU X.o.2.2.2.2.2.2.1 y (deep+1) j P ab (by have:=X.o.2.2.2.2.2.2.2.1;exact this) X.o.2.2.2.2.2.2.2.2.1 (by have:=cn.o;omega) (by have:=cw.o;omega) A.o bA.o.1
       gi_wp2_with (refine⟨trivial,?_⟩;gi_at_call 97;refine(x_ l (s_.2 (bu.o _))).mono ?_;rintro e w1 ⟨rfl,rfl⟩)
       refine⟨trivial,?_⟩
       gi_at_call 185
       refine(x_ l (s_.2 cf)).mono ?_;clear cf;rintro e w1 ⟨b,m2,cg,rfl,a7,a8,a',ba⟩;dsimp only
       cases b with
       |true=>
        have t:=U (z_ a7 (z_ a8 (z_ a' ba)));clear a7 a8 a' ba
        gi_wp2
        exact⟨Zf t.o.2.2.1 (λ r e=>by cases e;have:=K.o;omega),pS.yZ t.o.2.2.1 (λ e=>by injection e with e;have:=K.o;omega) (λ e=>by injection e with e;exact cB.o e),bB.o m2 cg w1 (zi i.o.1 t.o.2.2.1 (λ r e=>by cases e;exact .inr rfl)) t.o.2.1.oN t.o.2.1.snd (A.o.box t.o.2.2.1 i.o.2.2.2.1) (A.o.box t.o.2.2.1 i.o.2.2.2.2.1) (A.o.box t.o.2.2.1 i.o.2.2.2.2.2.1) (λ _ _=>t.o.1 trivial) (by have:=t.o.2.2.2;have:=bA.o.2;omega)⟩
       |false=>
        have t:=U (z_ a7 (z_ a8 (z_ a' ba)));clear a7 a8 a' ba;have bC:=U (A.o.box t.o.2.2.1 i.o.2.2.2.2.2.1);have aQ:w1.cell? ⟨W.heap.size+1+1,0,none⟩=some (.bool false):=bC.o.cell 0;have f7:w1.frozen? ⟨W.heap.size+1+1,0,none⟩=false:=bC.o.free 0
        gi_wp2
        refine⟨(Zf t.o.2.2.1 (λ r e=>by cases e;have:=K.o;omega)).trans ((KeepsOthers.setCell _ _ _).from _),rfl,m2,cg,zi (zi i.o.1 t.o.2.2.1 (λ r e=>by cases e;exact .inr rfl)) (kK _ _ _ _) (λ r e=>by cases e;exact .inl (by omega)),t.o.2.1.oN.setCell (λ e=>by have:=K.o;simp at e;omega) _,t.o.2.1.snd,(A.o.box t.o.2.2.1 i.o.2.2.2.1).kept (kK _ _ _ _) (by simp;omega),(A.o.box t.o.2.2.1 i.o.2.2.2.2.1).kept (kK _ _ _ _) (by simp),bC.o.set 0 (.bool false),(λ h=>absurd h (by decide)),?_⟩;rw[t_,q_,X.o.2.2.2.2.2.2.2.2.2.2.1];have:=t.o.2.2.2;have:=bA.o.2;have:=i.o.2.2.2.2.2.2.2;omega
      ·have d1:decide ((0:Int)<(ar:Int))=false:=by simp;omega
       have cI:¬(0:Int)<(ar:Int):=by omega
       gi_wp2_with (refine⟨trivial,?_⟩;gi_at_call 97;refine(x_ l (s_.2 (bu.o _))).mono ?_;rintro e w1 ⟨rfl,rfl⟩)
       refine⟨λ _ h=>(by cases h),?_⟩
       gi_wp2
       exact⟨Zv _ _,pS.refl _ _ _ _,bB.o P ab j i.o.1 i.o.2.1 i.o.2.2.1 i.o.2.2.2.1 i.o.2.2.2.2.1 i.o.2.2.2.2.2.1 (λ _ h=>absurd (Nat.pos_of_ne_zero h) aB) (by omega)⟩
    case done=>
     rintro D ys j cJ rfl ⟨P,ab,h1,J,M,N,R,L,S,O⟩ aE;have hlen:(others (aA s.c.cl d) (-x)).length<=22:=by
      have aV:(others (aA s.c.cl d) (-x)).length<=(aA s.c.cl d).length:=c_ _ _;have aR:=Z.o.2.2.2.2.1.len;have b9:=Z.o.2.2.2.1;omega
     have hmul:(others (aA s.c.cl d) (-x)).length*Q<=22*Q:=Zx Q hlen;have ch:rz s.c s.aK x:=rz.mk x d (by rw[aJ.o.1];exact bP.o) (λ y cK cL aZ a6=>S rfl y (List.mem_filter.2 ⟨cK,by simpa using cL⟩) aZ a6);have aQ:j.cell? ⟨W.heap.size+1+1,0,none⟩=some (.bool false):=L.cell 0;have f7:j.frozen? ⟨W.heap.size+1+1,0,none⟩=false:=L.free 0;have H:=U (z_ h1 (z_ J (z_ M (z_ N (z_ L (z_ O (z_ hmul (z_ ch aE))))))));clear h1 J M N R L S O hmul ch aE hlen
     gi_wp2
     go_wp2_with fail
     have cj:W.grownBy (j.setCell ⟨W.heap.size+1+1,0,none⟩ (.bool true)) (some bm):=zi H.o.1 (kK _ _ _ _) (λ r e=>by cases e;exact .inl (by omega));have cM:mT 4 tB (j.setCell ⟨W.heap.size+1+1,0,none⟩ (.bool true)) bm P ab:=H.o.2.1.setCell (λ e=>by have:=K.o;simp at e;omega) _;exact B3 (ds:=[D]) (yes:=true) (mC:=W.heap.size+1+1) (mV:=W.heap.size) rfl rfl (I.o.put cj cM H.o.2.2.1) cj ⟨by simp,λ E bD=>by
      obtain rfl:=u_.1 bD;refine⟨by have:=K.o;omega,?_⟩;exact((kK j (W.heap.size+1+1) 0 (.bool true)).block E (Array.getElem?_eq_some_iff.1 H.o.2.2.2.2.2.2.2.2).1 (λ e=>by have:=K.o;injection e with e;omega)).trans H.o.2.2.2.2.2.2.2.2⟩ (H.o.2.2.2.2.1.set 0 (.bool true)) (H.o.2.2.2.1.kept (kK _ _ _ _) (by simp;omega)) q.o.2.2.2.1 (λ _=>H.o.2.2.2.2.2.2.2.1) (by have:=q.o.2.2.2.2.2.2;have:=H.o.2.2.2.2.2.1;have:=H.o.2.2.2.2.2.2.1;unfold maxLen;omega) (by have:=q.o.2.2.2.2.2.2;have:=H.o.2.2.2.2.2.1;have:=H.o.2.2.2.2.2.2.1;omega)
    case stop=>
     rintro D de pre j cJ cN ⟨rfl,P,ab,h1,J,M,N,R,L,S,O⟩ aE;have hlen:pre.length<=22:=by
      have aD:=cN.length_le;have aV:(others (aA s.c.cl d) (-x)).length<=(aA s.c.cl d).length:=c_ _ _;have aR:=Z.o.2.2.2.2.1.len;have b9:=Z.o.2.2.2.1;omega
     have hmul:pre.length*Q<=22*Q:=Zx Q hlen;have H:=U (z_ h1 (z_ J (z_ M (z_ N (z_ L (z_ O (z_ hmul aE)))))));clear h1 J M N R L S O hmul aE hlen
     gi_wp2
     exact B3 (ds:=[D]) (yes:=false) (mC:=W.heap.size+1+1) (mV:=W.heap.size) rfl rfl (I.o.put H.o.1 H.o.2.1 H.o.2.2.1) H.o.1 ⟨by simp,λ E bD=>by
      obtain rfl:=u_.1 bD;exact⟨by have:=K.o;omega,H.o.2.2.2.2.2.2.2⟩⟩ H.o.2.2.2.2.1 H.o.2.2.2.1 q.o.2.2.2.1 (λ e=>by cases e) (by have:=q.o.2.2.2.2.2.2;have:=H.o.2.2.2.2.2.1;have:=H.o.2.2.2.2.2.2.1;unfold maxLen;omega) (by have:=q.o.2.2.2.2.2.2;have:=H.o.2.2.2.2.2.1;have:=H.o.2.2.2.2.2.2.1;omega)
end
section
open Go.RowKit Go.Shelf
noncomputable def LN:Code:=(Tryz.f146.body.bind λ c=>qw c 6).getD .skip
theorem iK.blk(h:iK K base w W G hs cb s ls X){r B:Nat}{v:Value}(hl:ls r=oz B)(d:X r=[v]):aM W B (x3 r) [v]:=by
 have h1:=h.rows.row r;rw[hl,d] at h1;rcases h1.2 with⟨c,_⟩|⟨g,cap,cur,c,_,e,_,_,f,i⟩
 ·cases c
 ·simp only[oz,aq.v] at c;injection c with b l j
  injection b with b
  injection b with b
  subst b;subst j;have:cur= #[v]:=by
   apply Array.toList_inj.1;have k:cur.toList.length=1:=by simpa using f
   rw[<-i,e_ (by rw[k];simp[oz])]
  show W.heap[B]? =_;rw[e,this]
structure q7(K:Nat->Prop)(base:Nat)(w W:World)(G:Nat)(hs:Nat->aq)(cb:Nat->Nat)(s:an)(aH bG bI di aY lp lR bm m:Nat)(f:Int->Option Bool)(out mk:List Int)(op:Int)(hU:aq)(iJ:List Value)(r:List Int)(ds:List Nat)(ls:Nat->aq)(X:Nat->List Value):Prop where
 aJ:kN K base w W G hs cb s aH bG bI di aY out mk op hU iJ ls X
 sx:ls 7=oz lp
 kO:X 7=[.map (some bm)]
 B5:ls 8=oz lR
 B6:X 8=[.func (.func 185) #[] #[.pointer (some ⟨lp,0,none⟩),.pointer (some ⟨aH,0,none⟩),.pointer (some ⟨lR,0,none⟩)]]
 uD:X 9=gT r
 oN:mT 4 tB W bm m f
 snd:∀y,f y=some true->rz s.c s.aK y
 B7:w.heap.size<=bm
 ms:pH w.heap.size W ds
section
variable {K:Nat->Prop}{base:Nat}{w W W' ni:World}{G:Nat}{hs:Nat->aq}{cb:Nat->Nat}{s:an}{aH bG bI di aY lp lR bm m:Nat}{f:Int->Option Bool}{out mk:List Int}{op:Int}{hU:aq}{iJ:List Value}{r:List Int}{ds:List Nat}{ls:Nat->aq}{X:Nat->List Value}
theorem q7.tZ(h:q7 K base w W G hs cb s aH bG bI di aY lp lR bm m f out mk op hU iJ r ds ls X):sA base W G hs cb s lp aH lR bm m f:=
 ⟨h.aJ.de.gA.e,h.aJ.de.blk h.sx h.kO,h.aJ.de.blk h.aJ.qP h.aJ.iN,h.aJ.de.blk h.B5 h.B6,h.oN,h.snd⟩
theorem q7.put(h:q7 K base w W G hs cb s aH bG bI di aY lp lR bm m f out mk op hU iJ r ds ls X){mm:Nat}{oq:Int->Option Bool}(b:W.grownBy W' (some bm))(hm:mT 4 tB W' bm mm oq)(hs':∀y,oq y=some true->rz s.c s.aK y):q7 K base w W' G hs cb s aH bG bI di aY lp lR bm mm oq out mk op hU iJ r ds ls X:=by
 obtain⟨es,cl,h1⟩:=h.oN.B2;refine⟨h.aJ.vc (h.aJ.de.ua b (λ r e=>by cases e;exact⟨h.B7,_,h1,rfl⟩)),h.sx,h.kO,h.B5,h.B6,h.uD,hm,hs',h.B7,h.ms.kept b (λ D d e=>?_)⟩;injection e with e
 subst e;rw[(h.ms.kB D d).2] at h1;cases h1
theorem q7.grow(h:q7 K base w W G hs cb s aH bG bI di aY lp lR bm m f out mk op hU iJ r ds ls X)(b:Below W.heap.size W W'):q7 K base w W' G hs cb s aH bG bI di aY lp lR bm m f out mk op hU iJ r ds ls X:=
 ⟨h.aJ.grow b,h.sx,h.kO,h.B5,h.B6,h.uD,h.oN.below b h.oN.lt,h.snd,h.B7,h.ms.below b⟩
theorem q7.jI(h:q7 K base w W G hs cb s aH bG bI di aY lp lR bm m f out mk op hU iJ r ds ls X):(ls 9).n=r.length:=by have:=h.aJ.de.rows.len 9;rw[h.uD] at this;simpa[gT] using this.symm
theorem q7.app(h:q7 K base w W G hs cb s aH bG bI di aY lp lR bm m f out mk op hU iJ r ds ls X){x:Int}{v':Value}(d:n9 W w.heap.size 3 (ls 9).v ((ls 9).n+1) ((r++[x]).map (d_ .i64)) v' ni):
  ∃A' c' b i,v'=.slice A' ((ls 9).n+1) c'/\b 9=⟨A',(ls 9).n+1,c'⟩/\b 5=ls 5/\q7 K base w ni G hs cb s aH bG bI di aY lp lR bm m f out mk op hU iJ (r++[x]) ds b i:=by
 obtain⟨⟨A',j,c'⟩,rfl,c,p,k,l⟩:=h.aJ.de.app (r:=9) rfl d;have c:j=(ls 9).n+1:=c;subst c;obtain⟨es,cl,h1⟩:=h.oN.B2;have o:=d.2.1;refine⟨A',c',_,_,rfl,jC _ _ _,aV _ _ (by omega),⟨⟨k,?_,?_,?_,?_,?_,?_,?_,?_,?_,?_,?_,?_,?_,?_⟩,?_,?_,?_,?_,jC _ _ _,h.oN.kept o (λ e=>?_),h.snd,h.B7,h.ms.others l⟩⟩
 all_goals first|(rw[aV _ _ (by omega)];first|exact h.aJ.qP|exact h.aJ.iN|exact h.aJ.hM|exact h.aJ.kC|exact h.aJ.jK|exact h.aJ.kg|exact h.aJ.pJ|exact h.aJ.kI|exact h.aJ.rZ|exact h.aJ.kJ|exact h.aJ.tv|exact h.aJ.vb|exact h.sx|exact h.kO|exact h.B5|exact h.B6)|skip
 ·rw[aV _ _ (by omega),aV _ _ (by omega)];exact h.aJ.jR
 ·rw[aV _ _ (by omega),aV _ _ (by omega)];exact h.aJ.ku
 ·obtain⟨cs,g⟩:=sN (h.aJ.de.rows.row 9) e.symm;rw[h1] at g;cases g
end
theorem LO{u:Int}{go od co:Nat}{nj:Option Addr}{jj c0 LP:Nat}
  (C:vE F Fd aG n h jW) (H:q7 K base w W G hs cb s aH bG bI di aY lp lR bm 0 f (u::au) mk op hU iJ [u] ds ls X) (q:ls 5=⟨some ⟨go,0,none⟩,od+1,co⟩) (t:ls 9=⟨l6,jj,c0⟩) (T:au.length=od) (a7:od<=20) (Y:s.c=aG.c) (Z:s.aK=aK) (aa:aK.length=n+1) (ab:∀x∈au,-x∈aG.c.av) (A:0<od->nj=some ⟨go,1,none⟩)
  (ad:∀(m:Nat)(f:Int->Option Bool)(r:List Int)(d:Option Addr)(jI c9:Nat)(ls:Nat->aq)(X:Nat->List Value)(j7 gx kP gG gp dm aE aF u16 dn dr dw gd dx dy dz dA dB dD dF dG cr ct cu u32 cv cw cz cA cB cC cD cE cF cG cH dH dI gM gK gL bu bw bx bz bA bB bC bD bE bK bL bM bN bO bP u64 bQ bR bS bT bU bV bW bX bY bZ b5 b6 b7 b8 b9 cc cg ck cm cn cp dJ dK dL dM dN dO dP dQ cI cK cL cM cN cO cQ cR cS cT cU cV cW cZ c7 c8 dc dR dS dU dV dW dX dY dZ ec ee ef ei ej ek en eo ep er eu ew ey ez eA eB eC eD eE eF eG eH aI aL aM eL eM eN eO eP eR eS eT eU eV eW eX gl gm gn eY eZ e3 e4 e5 e6 e7 e8 e9 fc fe ff fh fk fm fo fq fu fA fB fC fD fE fF fG fH fI fJ fK fL fM fN fO fP fQ fR gu gv fS fT fU fV fW fZ ga:Value)(W':World),q7 K base w W' G hs cb s aH bG bI di aY lp lR bm m f (u::au) mk op hU iJ (u::r) ds ls X->ls 9=⟨d,jI,c9⟩->r.Sublist au->(∀x∈au,x∈r\/rz aG.c aK x)->Q (.exit 6) {tmps:= #[.pointer (some ⟨G,0,none⟩),j7,.pointer (some ⟨aH,0,none⟩),gx,.pointer (some ⟨bG,0,none⟩),.int .i64 0,.pointer (some ⟨bI,0,none⟩),.pointer (some ⟨aY,0,none⟩),.pointer (some ⟨di,0,none⟩),kP,gG,gp,dm,aE,aF,.slice d jI c9,u16,dn,dr,dw,gd,dx,dy,dz,dA,dB,dD,dF,dG,cr,ct,cu,u32,cv,cw,cz,cA,cB,cC,cD,cE,cF,cG,cH,dH,dI,gM,gK,gL,bu,bw,bx,bz,bA,bB,bC,bD,bE,bK,bL,bM,bN,bO,bP,u64,bQ,bR,bS,bT,bU,bV,bW,bX,bY,bZ,b5,b6,b7,b8,b9,cc,cg,ck,cm,cn,cp,dJ,dK,dL,dM,dN,dO,dP,dQ,cI,cK,cL,cM,cN,cO,cQ,cR,cS,cT,cU,cV,cW,cZ,c7,c8,dc,dR,dS,dU,dV,dW,dX,dY,dZ,ec,ee,ef,ei,ej,ek,en,eo,ep,er,eu,ew,ey,ez,eA,eB,eC,eD,eE,eF,eG,eH,aI,aL,aM,eL,eM,eN,eO,eP,eR,eS,eT,eU,eV,eW,eX,gl,gm,gn,eY,eZ,e3,e4,e5,e6,e7,e8,e9,fc,fe,ff,fh,fk,fm,fo,fq,fu,fA,fB,fC,fD,fE,fF,fG,fH,fI,fJ,fK,fL,fM,fN,fO,fP,fQ,fR,gu,gv,fS,fT,fU,fV,fW,fZ,ga],defers:=ds.map oS} W'):
  Zk y_ LN Q {tmps:= #[.pointer (some ⟨G,0,none⟩),j7,.pointer (some ⟨aH,0,none⟩),gx,.pointer (some ⟨bG,0,none⟩),.int .i64 0,.pointer (some ⟨bI,0,none⟩),.pointer (some ⟨aY,0,none⟩),.pointer (some ⟨di,0,none⟩),kP,gG,gp,dm,.pointer (some ⟨lp,0,none⟩),.pointer (some ⟨lR,0,none⟩),.slice l6 jj c0,u16,dn,dr,dw,gd,dx,dy,dz,dA,dB,dD,dF,dG,cr,ct,cu,u32,cv,cw,cz,cA,cB,cC,cD,cE,cF,cG,cH,dH,dI,gM,gK,gL,bu,bw,bx,bz,bA,bB,bC,bD,bE,bK,bL,bM,bN,bO,bP,u64,bQ,bR,bS,bT,bU,bV,bW,bX,bY,bZ,b5,b6,b7,b8,b9,cc,cg,ck,cm,cn,cp,dJ,dK,dL,dM,dN,dO,dP,dQ,cI,cK,cL,cM,cN,cO,cQ,cR,cS,cT,cU,cV,cW,cZ,c7,c8,dc,dR,dS,dU,dV,dW,dX,dY,dZ,ec,ee,ef,ei,ej,ek,en,eo,ep,er,eu,ew,ey,ez,eA,eB,eC,eD,eE,eF,eG,eH,.slice nj od LP,.int .i64 (od:Int),.int .i64 0,eL,eM,eN,eO,eP,eR,eS,eT,eU,eV,eW,eX,gl,gm,gn,eY,eZ,e3,e4,e5,e6,e7,e8,e9,fc,fe,ff,fh,fk,fm,fo,fq,fu,fA,fB,fC,fD,fE,fF,fG,fH,fI,fJ,fK,fL,fM,fN,fO,fP,fQ,fR,gu,gv,fS,fT,fU,fV,fW,fZ,ga],defers:=ds.map oS} W:=by
 have aO:=U ad;have i:=U C;have aP:=U H;have V:=U (z_ q (z_ t (z_ T (z_ Y (z_ Z (z_ aa ab))))));have aQ:=U A;clear C H ad q t T Y Z aa ab A
 conv=>arg 2;whnf
 dsimp only
 go_loopw [15,143] (λ aR N W'=>∃(k m:Nat)(f:Int->Option Bool)(r:List Int)(d:Option Addr)(jI c9:Nat)(ls:Nat->aq)(X:Nat->List Value),aR=.slice d jI c9/\N=.int .i64 (k:Int)/\k<=od/\q7 K base w W' G hs cb s aH bG bI di aY lp lR bm m f (u::au) mk op hU iJ (u::r) ds ls X/\ls 9=⟨d,jI,c9⟩/\ls 5=⟨some ⟨go,0,none⟩,od+1,co⟩/\r.Sublist (au.take k)/\(∀x∈au.take k,x∈r\/rz aG.c aK x)/\m<=k*63403380965376) (λ _ N _=>od-(intOf N).toNat)
 case atStart=>exact⟨0,0,f,[],l6,jj,c0,ls,X,rfl,rfl,Nat.zero_le _,aP.o,V.o.2.1,V.o.1,by simp,λ x B=>by simp at B,h_ _⟩
 case round=>
  obtain⟨k,m,f,r,d,jI,c9,ls,X,rfl,rfl,hk,ae,t,q,af,B,hm⟩:=hrel;have L:=U ae;have D:=U (z_ hk (z_ t (z_ q (z_ af (z_ B hm)))));clear hk t q af B hm ae
  by_cases E:k<od
  ·have aS:(k:Int)<(od:Int):=by omega
   have A:=aQ.o (by omega);subst A;obtain⟨x,I⟩:∃x,ai au k=x:=⟨_,rfl⟩
   have v:k<au.length:=by rw[V.o.2.2.1];exact E
   have ag:x∈au:=by rw[<-I];exact lY v
   have aT:wr.cell? ⟨go,1+k,none⟩=some (.int .i64 x):=by
    refine(L.o.aJ.de.kB (r:=5) (g:=go) (by rw[D.o.2.2.1];rfl) (k:=1+k) ?_).1;rw[L.o.aJ.kC];unfold gT;rw[List.map_cons,Nat.add_comm,List.getElem?_cons_succ,List.getElem?_map,List.getElem?_eq_getElem v,<-I,nC v];rfl
   have aU:wr.cell? ⟨lR,0,none⟩=some (.func (.func 185) #[] #[.pointer (some ⟨lp,0,none⟩),.pointer (some ⟨aH,0,none⟩),.pointer (some ⟨lR,0,none⟩)]):=L.o.tZ.tZ.cell 0;obtain⟨p,hp,ah⟩:=qn.1 (V.o.2.2.2.2.2.2 x ag);have aj:=i.o.gH.au.len;rw[i.o.gV] at aj;have ak:24^(p+1)<=63403380965376:=Zd (Nat.pow_le_pow_right (by omega) (show p+1<=10 by have:=i.o.n10;omega)) (by decide);have al:=LM (base:=base) (G:=G) (hs:=hs) (cb:=cb) (s:=s) (lp:=lp) (aH:=aH) (lR:=lR) (bm:=bm) (F:=F) (Fd:=Fd) (by rw[V.o.2.2.2.1];exact i.o.gH.au) (by rw[V.o.2.2.2.1];exact i.o.gH.jG) (by rw[V.o.2.2.2.1,i.o.gV];exact i.o.n10) (by rw[V.o.2.2.2.2.1,V.o.2.2.2.2.2.1,V.o.2.2.2.1,i.o.gV]) p x 0 wr m f (by rw[V.o.2.2.2.1];exact hp) (by rw[V.o.2.2.2.1];exact ah) (Int.le_refl _) (by omega) L.o.tZ (by have:=D.o.2.2.2.2.2;omega);have j:=U (z_ I (z_ v (z_ ak E)));have a8:v_.wrap ((k:Int)+1)=(k:Int)+1:=by rw[w_];omega
   clear I v ag hp ah ak E aj
   go_wp2_with fail
   refine al.mono ?_;clear al;rintro e w1 ⟨b,m2,f2,rfl,ao,O,ar,aw⟩;dsimp only;have P:=U (L.o.put ar O.oN O.snd);have R:=U (z_ ao aw);clear ao O ar aw aT aU;have J:bF (au.take (k+1)=au.take k++[x]):=U (by rw[yY j.o.2.1,j.o.1])
   cases b with
   |true=>
    go_wp2_with fail
    go_roundw
    case rel=>
     refine⟨k+1,m2,f2,r,d,jI,c9,ls,X,rfl,by go_num,by have:=j.o;omega,P.o,D.o.2.1,D.o.2.2.1,?_,?_,by have:=R.o.2;have:=j.o.2.2.1;have:=D.o.2.2.2.2.2;omega⟩
     ·rw[J.o];exact D.o.2.2.2.1.trans (List.sublist_append_left _ _)
     ·rw[J.o];intro y S;rcases k_.1 S with h|h
      ·exact D.o.2.2.2.2.1 y h
      ·rw[u_] at h;subst h;have l:=R.o.1 rfl;rw[V.o.2.2.2.1,V.o.2.2.2.2.1] at l;exact .inr l
    case measure=>have:=j.o;simp[intOf];omega
   |false=>
    have M:=U (P.o.grow (bg w1 (lW [x])));have ax:jI=(u::r).length:=by have:=P.o.jI;rw[D.o.2.1] at this;exact this
    have ay:r.length<=20:=by have h1:=D.o.2.2.2.1.length_le;rw[List.length_take] at h1;omega
    have aV:bF ((w1.alloc (lW [x])).ownsRow w.heap.size 3 1 (.slice d jI c9) jI ((u::r).map (d_ .i64))):=U (by have:=M.o.aJ.de.rows.row 9;rw[D.o.2.1,M.o.uD] at this;exact this);have aW:=U (aN.lit w1 [x] 1 w1.heap.size rfl rfl (by omega));have aX:=U (z_ ax ay);clear ax ay
    go_wp2_with (at_builtin;refine vp rfl (.tmp 151) (.tmp 153) rfl w.heap.size (.slice d jI c9) jI (u::r) rfl aV.o (some ⟨w1.heap.size,0,none⟩) 1 1 [x] rfl aW.o (by have:=aX.o;simp at this;omega) M.o.aJ.de.iQ.size ?_;intro v9 gb az;obtain⟨A',c',aZ,a6,rfl,aA,aB,z⟩:=M.o.app (x:=x) (v':=v9) (by rw[D.o.2.1];exact az);have z:=U (z_ z (z_ aA aB));clear az aA aB)
    go_roundw
    case rel=>
     refine⟨k+1,m2,f2,r++[x],A',_,c',aZ,a6,rfl,by go_num,by have:=j.o;omega,z.o.1,z.o.2.1,by rw[z.o.2.2];exact D.o.2.2.1,?_,?_,by have:=R.o.2;have:=j.o.2.2.1;have:=D.o.2.2.2.2.2;omega⟩
     ·rw[J.o];exact D.o.2.2.2.1.append (List.Sublist.refl _)
     ·rw[J.o];intro y S;rcases k_.1 S with h|h
      ·rcases D.o.2.2.2.2.1 y h with l|l
       ·exact .inl (k_.2 (.inl l))
       ·exact .inr l
      ·exact .inl (k_.2 (.inr h))
    case measure=>have:=j.o;simp[intOf];omega
  ·have aS:¬(k:Int)<(od:Int):=by omega
   have aC:k=od:=by have:=D.o.1;omega
   have aD:=U aC;clear E aC
   go_wp2_with fail
   apply aO.o
   ·exact L.o
   ·exact D.o.2.1
   ·have:=D.o.2.2.2.1;rwa[aD.o,e_ (by rw[V.o.2.2.1];exact h_ _)] at this
   ·have:=D.o.2.2.2.2.1;rwa[aD.o,e_ (by rw[V.o.2.2.1];exact h_ _)] at this
end
end Go.Proofs.YtogdlkfacflmaaaGreat
