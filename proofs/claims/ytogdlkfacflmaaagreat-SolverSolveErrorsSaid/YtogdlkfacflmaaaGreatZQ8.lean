/- Parts of the walk of the solver and its core; no condition. -/
import Derived.Shelf.SlicesE.Delete
import Derived.ScopeJumps
import Derived.WalkMore
import Derived.Test.YtogdlkfacflmaaaGreatZQ7
import Derived.Test.YtogdlkfacflmaaaGreatZQ6
import Derived.Test.YtogdlkfacflmaaaGreatZQ1
namespace Go.Proofs.YtogdlkfacflmaaaGreat
set_option linter.unusedVariables false
set_option linter.unusedSimpArgs false
set_option maxRecDepth 1000000
set_option maxHeartbeats 16000000
open _root_.List renaming getElem?_cons_zero→z_,getElem?_cons_succ→y_,mem_map→p_,take_of_length_le→n_,length_append→j_,mem_singleton→i_,getElem?_eq_getElem→h_,getElem_mem→c_,eraseIdx_eq_take_drop_succ→Zw,map_cons→Zr,getD_eq_getElem?_getD→Zq,map_nil→Zn,sublist_nil→Zk,take_succ_eq_append_getElem→Zj,sublist_cons_iff→Zi,map_append→Zh,length_map→Zf,eq_nil_of_length_eq_zero→Ze,getElem_of_mem→Zd,getElem?_eq_some_iff→Z_,mem_append→ZV,mem_of_mem_take→ZO
open _root_.And renaming intro→x_
open _root_.Go.Proofs.Tryz renaming prog→w_,underlying3→o_,underlying47→e_,underlying228→Zc,underlying22→Z4,underlying42→Z7,underlying45→Z8,underlying44→Z9
open _root_.Go.Calls renaming quiet_of_same→v_
open _root_.Go.RowKit.Below renaming refl→u_
open _root_.Nat renaming le_refl→t_,zero_le→r_,add_zero→Zg
open _root_.Go.IntKind renaming wrap_i64→s_,i64→q_
open _root_.Go.DataW renaming weightsEach→m_,trod→f_,weights→d_,trod_int→Zm
open _root_.Bool renaming noConfusion→l_,or_eq_true→g_,and_eq_true→b_,not_eq_true'→a_,eq_iff_iff→Zp,not_eq_false→Z5,not_eq_true→ZZ
open _root_.Go.WideShapes renaming add_plain→k_
open _root_.Go.Value renaming slice→Zx,cells→Zl
open _root_.Go.Instr renaming findNow→Zv,sameNow→Z3,makeFunc→ZR
open _root_.Go.World renaming ownsRow_nil→Zu,cell?_of_block→Zt,cell?_spot→ZY,putObj_heap_other→ZX,grownBy_alloc→ZM,cell?→ZL
open _root_.Go.Deep renaming add_add→Zo
open _root_.Go.MapKept renaming IsKey→Z0,run_getObj_map→ZT
open _root_.Decidable renaming not_not→Z6
open _root_.Int renaming eq_ofNat_of_zero_le→ZW
open _root_.List.cons renaming injEq→ZU
open _root_.Go renaming wpQuiet_nil→ZS
open _root_.Array renaming replicate_succ→ZQ,replicate_zero→ZP
open _root_.Prod.mk renaming injEq→ZN
variable{g B nc k clock nk kI wC mm:Nat}{W kR:World}{ah:List Int}{rs:List Row}{bh:Option Addr}{v0 v1 v2:Value}
section
open Go.Shelf
def Tryz.O2:Go.Shelf.Ren:=⟨λ|45=>204|n=>n,λ|22=>22|23=>25|3=>3|4=>4|0=>0|n=>n,λ|n=>n⟩
theorem Tryz.O3:Go.Proofs.SlLaysE.n45 w_ Tryz.O2:={
 mixed:=by kernel_rfl
 f45:=⟨Tryz.f204.name,by decide,Tryz.func204.trans (congrArg some (by kernel_rfl))⟩
 t0:=Tryz.underlying0
 a0:=Tryz.isAgg0
 z0:=Tryz.sizeOf0
 v0:=Tryz.zeroValue0
 t3:=o_
 a3:=Tryz.isAgg3
 z3:=Tryz.sizeOf3
 v3:=Tryz.zeroValue3
 t4:=Tryz.underlying4
 a4:=Tryz.isAgg4
 z4:=Tryz.sizeOf4
 v4:=Tryz.zeroValue4
 t22:=Z4
 a22:=Tryz.isAgg22
 z22:=Tryz.sizeOf22
 v22:=Tryz.zeroValue22
 a23:=Tryz.isAgg25
 z23:=Tryz.sizeOf25}
open Go.RowKit Go.Shelf Go.Lib Go.Sort
instance:Inhabited Row:=⟨⟨none,0,0,[]⟩⟩
theorem O4:OneCell ki:=λ _=>rfl
theorem O5{enc:Row->Value}{w:World}{q:Nat}{d:Array Row}:w.grownBy (putRow enc (Sort.ahead w q) g 0 d) (some g):=
 ⟨rfl,rfl,rfl,by simp[putRow,mapBlock,Sort.ahead],λ k hk b=>by
  simp[putRow,mapBlock,Sort.ahead,Array.getElem?_modify,show g≠k from λ e=>b (by rw[e])]⟩
theorem O6(w:World)(base g n cap:Nat)(rs:List Row)(h:w.ownsRow base 25 1 (.slice (some ⟨g,0,none⟩) n cap) n (rs.map ki))(r:base<=g)(i:Nat)(s:i<n):
  Calls w_ 204 #[.slice (some ⟨g,0,none⟩) n cap,.int .i64 i,.int .i64 ((i:Int)+1)] w λ e w'=>
   e=.returned (.slice (some ⟨g,0,none⟩) (n-1) cap)/\w'.ownsRow base 25 1 (.slice (some ⟨g,0,none⟩) (n-1) cap) (n-1) ((rs.eraseIdx i).map ki)/\w.grownBy w' (some g):=by
 obtain⟨t,u,he,h1,v,y,c,d,f⟩:=holds_of_ownsRow h (by intro e;cases e)
 cases he
 have j:cap<=9223372036854775807:=by unfold maxLen at c;omega
 have l:rs.toArray.size=n:=by simp[d]
 obtain⟨i0,m,z,o,A⟩:=info_parts A1;have b:=AnyE.slices_Delete Tryz.O3 ki O4 ⟨none,0,0,[]⟩ Tryz.zeroValue25 i0 m o g 0 cap i (i+1) rs.toArray w f (by omega) j (by omega) (by omega);rw[l] at b;have p:i+1-i=1:=by omega
 rw[p] at b;refine Calls.mono b ?_;rintro e w' ⟨rfl,q,rfl⟩;refine⟨rfl,?_,O5⟩;have hl:(rs.take i++rs.drop (i+1)).length=n-1:=by rw[j_,List.length_take,List.length_drop];omega
 have:=ownsRow_putRow (q:=q) (k:=n-1) (ys:=(rs.take i++rs.drop (i+1))++List.replicate 1 ⟨none,0,0,[]⟩) h (by rw[j_,hl];simp;omega) (by omega);rw[List.take_left' hl] at this;rw[Zw];exact this
theorem O7(A:Option Addr)(n c:Nat)(rs:List Row)(w:World)(h:nG w A n c rs)(D:n<=1000000):
  Calls w_ 242 #[.slice A n c] w λ e w'=>∃A' c',e=.returned (.slice A' n c')/\w'.ownsRow w.heap.size 25 1 (.slice A' n c') n (rs.map ki)/\Below w.heap.size w w':=by
 obtain⟨i0,r,s,t,v⟩:=info_parts A1;have E:∀(w:World)(a:Option Addr)(n c l c':Nat),(binOp .eql 22 (.slice a n c) (.slice none l c')).run w_ w=.ok (.bool a.isNone) w:=λ w a n c l c'=>Lib.run_eql_slice_nil w _ _ a n c l c' Z4
 have hlen:=h.len;have H:=U h;clear h
 cases A with
 |none=>
  have y:n=0:=by
   rcases Nat.eq_zero_or_pos n with d|d
   ·exact d
   ·obtain⟨b,off,he,_⟩:=H.o.cells d;cases he
  subst y;have z:rs=[]:=Ze hlen;subst z;clear hlen;go_enter Tryz.func242,Tryz.ntmps242
  go_wp2;go_ret;exact⟨none,0,rfl,Zu _ _ _ _,u_ _ _⟩
 |some a=>
  have m:=U hlen;clear hlen;go_enter Tryz.func242,Tryz.ntmps242
  go_wp2_with (at_builtin;refine wpList_append_own _ rfl _ _ 22 rfl w.heap.size 25 i0 (.slice none 0 0) 1 24 Z4 r s t v rfl (by decide) _ _ _ rfl (World.ownsRow_made w #[] 0 (t_ _) (r_ _) rfl) a n c (rs.map ki) rfl ?qc1 ?qc2 ?qc3 ?qc4 ?qc5 ?qc6 ?_)
  case qc1=>simp[m.o]
  case qc2=>
   intro j u q;have F:j<n:=by have:=(Z_.1 q).1;simpa[m.o] using this
   obtain⟨b,off,he,f,B⟩:=H.o.cells (by omega);injection he with he
   subst he;rw[Addr.add_lit];rw[World.cell?_alloc_lt _ _ _ (by exact f)];exact B j u q
  case qc3=>intro u hu;obtain⟨x,_,rfl⟩:=p_.1 hu;rfl
  case qc4=>unfold maxLen;omega
  case qc5=>omega
  case qc6=>simp
  intro v' w1 i C G;go_wp2;go_ret;have f:Below w.heap.size w w1:=((u_ _ w).alloc (t_ _) _).grown C (by simp) (by intro k hk;simp[Value.ownBlock] at hk;omega);have hl:=m.o;subst hl;rcases i.2 with⟨p,d⟩|⟨g,cap,cur,p,I⟩
  ·subst p;refine⟨none,0,?_,?_,f⟩
   ·rw[d];rfl
   ·rw[d] at i⊢;exact i
  ·subst p;exact⟨_,_,rfl,i,f⟩
def CJ(w:World)(d:Option Addr)(e c0:Nat)(f:Option Addr)(i c1 b g:Nat)(k:Nat)(a:Act)(W:World):Prop:=
 ∃(T:List Int)(rs:List Row)(m j n cap:Nat)(l o p q s t u v y z B C u16 D E F G H I J K L M N O P Q R u32 S U V X Y Z aa ab ad ae af ag ai aj ak al an ao aq ar au av aw ax ay:Value),a={tmps:= #[.slice d e c0,.slice f i c1,l,o,p,.map (some b),q,s,.slice (some ⟨g,0,none⟩) n cap,t,u,v,y,z,B,C,u16,D,E,F,G,H,I,J,K,L,M,N,O,P,Q,R,u32,S,U,V,X,Y,Z,aa,ab,ad,ae,af,ag,ai,aj,ak,al,an,ao,aq,ar,au,av,aw,ax,ay],defers:=[]}/\n<k/\n<=1000/\m+n<=20000000000000/\W.ownsRow w.heap.size 25 1 (.slice (some ⟨g,0,none⟩) n cap) n (rs.map ki)/\(∀r∈rs,aQ w r.A r.n r.c r.ah)/\nF W b m j T/\b≠g/\Below w.heap.size w W/\wA T (rs.map (·.ah))
noncomputable def O8:Code:=((Tryz.f202.body.bind λ c=>match c with| .seq _ (.scope c)=>(findLabel c 0).bind (λ c=>match c with| .seq _ c=>some c|_=>none)|_=>none)).getD .skip
theorem H6(w W:World)(O:Option Addr)(P c0:Nat)(Q:Option Addr)(R c1 b g:Nat)(S:w.heap.size<=b)(k:Nat)(a:Act)(h:CJ w O P c0 Q R c1 b g (k+1) a W):
  Code.wp w_ O8 (Exit.jump 0 (CJ w O P c0 Q R c1 b g k) (bodyPost w_ Tryz.f202 λ e w'=>e=.returned (.bool true)/\Below w.heap.size w w')) a W:=by
 obtain⟨T,rs,m,V,n,cap,aV,aW,aX,aY,aZ,a6,a7,a8,a',ba,bb,bc,u16,bd,bf,bg,bh,bj,bk,bl,bn,bo,bp,bq,br,bs,bt,bu,u32,bw,bx,bz,bA,bB,bC,bD,bE,bF,bG,bH,bI,bJ,bK,bL,bM,bN,bO,bP,bQ,bR,bS,bT,bU,bV,rfl,X,bW,hm,d,Y,v,Z,y,hF⟩:=h;have aa:rs.length=n:=by simpa using d.1
 have aE:=U d;have ab:=U Y;have aF:=U v;have aG:=U y;have A:=U hF;have u:=U (x_ X (x_ aa (x_ Z S)));have ad:=td d rfl;have ae:=U ad;clear d Y v y hF aa Z X ad S
 conv=>arg 2;whnf
 go_wp2
 go_loopw [8,34] (λ aH i wr=>∃j:Nat,aH=.slice (some ⟨g,0,none⟩) n cap/\i=.int .i64 j/\j<=n/\wr.ownsRow w.heap.size 25 1 (.slice (some ⟨g,0,none⟩) n cap) n (rs.map ki)/\nF wr b m V T/\(∀q,q<j->tI T (oq (rs.map (·.ah)) q) 0 false)/\Below w.heap.size w wr) (λ _ i _=>n-(intOf i).toNat)
 case atStart=>exact⟨0,rfl,rfl,r_ _,aE.o,aF.o,λ q B=>absurd B (by omega),aG.o⟩
 case round=>
  obtain⟨j,rfl,rfl,bX,d,v,F,y⟩:=hrel;have af:=U d;have D:=U v;have aI:=U F;have ag:=U y
  by_cases ai:j<n
  ·have c:j<rs.length:=by rw[u.o.2.1];exact ai
   have G:wr.cell? ⟨g,j,none⟩=some (ki (rs[j]'c)):=by
    rw[d.cellAt j (by omega),List.getElem?_map,h_ c];rfl
   have H:=ab.o (rs[j]'c) (c_ c);have I:oq (rs.map (·.ah)) j=(rs[j]'c).ah:=by rw[xE (by simpa using c)];simp
   obtain⟨r,s⟩:∃r,rs[j]'c=r:=⟨_,rfl⟩
   have aj:=U (⟨c,s⟩:∃h:j<rs.length,rs[j]'h=r);rw[s] at G H I;obtain⟨J,K,rc,z⟩:=r;have G:wr.cell? ⟨g,j,none⟩=some (.slice J K rc):=G;have ak:aQ w J K rc z:=H;have al:∀x∈z,x≠0/\ -65536<=x/\x<=65536:=λ x aJ=>by
    have:=zv (A.o.lt z (p_.2 ⟨rs[j]'c,c_ c,by rw[s]⟩) x aJ);omega
   have aK:=U I;have aL:=U (O1 b m V T J K rc z wr v (ak.below y) al);clear d v F y H ak al c s I
   go_upto_region 15 with(go_at_call 243;refine aL.o.mono ?_;rintro e bY ⟨f,aM,rfl,an,ao⟩;have aq:=U an;have C:=U ao;clear an ao)
   have E:=U (ag.o.trans (C.o.mono ag.o.size))
   cases aM with
   |true=>
    go_wp2;simp only[Exit.jump];go_ret;exact⟨rfl,E.o⟩
   |false=>
    by_cases t:f=0
    ·subst t;have aN:q_.wrap ((j:Int)+1)=(j:Int)+1:=by rw[s_];omega
     go_wp2;go_roundw
     case rel=>
      refine⟨j+1,rfl,by go_num,by omega,lR af.o C.o,D.o.below C.o D.o.lt,λ q B=>?_,E.o⟩
      by_cases e:q=j
      ·subst e;rw[aK.o];exact aq.o
      ·exact aI.o q (by omega)
     case measure=>simp[intOf];omega
    ·have bZ:(f !=0)=true:=by simp[t]
     have aN:q_.wrap ((j:Int)+1)=(j:Int)+1:=by rw[s_];omega
     have h1:=(aq.o.one t).2;have ar:gU 2 f:=A.o.lt z (by obtain⟨p,q⟩:=aj.o;rw[p_];exact⟨_,c_ p,by rw[q]⟩) f h1.1;have aO:=zv ar;have au:r0 f=true:=za (by omega) (by omega);obtain⟨av,b0,aw,L⟩:=(D.o.below C.o D.o.lt).put Zc (by unfold maxLen;omega) au;have ax:av.ownsRow w.heap.size 25 1 (.slice (some ⟨g,0,none⟩) n cap) n (rs.map ki):=(lR af.o C.o).kept L.grown (.inr (λ e=>u.o.2.2.1 (by have e:some g=some b:=e;injection e with e;exact e.symm)));have aP:=U (O6 av w.heap.size g n cap rs ax ae.o.1 j ai);have H1:=U (x_ h1 (x_ aw L));have b1:=U t;clear h1 ar aO au aw L ax t
     go_wp2_with (go_at_call 204;with_reducible refine aP.o.mono ?_;rintro e b2 ⟨rfl,ay,az⟩;have M:=U (x_ ay az);clear ay az)
     go_step3
     have aA:=xx E.o H1.o.2.2.grown E.o.size (λ q e=>by injection e with e;rw[<-e];exact u.o.2.2.2);have aR:=aA.grown M.o.2 aA.size (λ q e=>by injection e with e;rw[<-e];exact ae.o.1);have hle:(rs.map (·.ah)).eraseIdx j=(rs.eraseIdx j).map (·.ah):=by rw[Zw,Zw,Zh,List.map_take,List.map_drop]
     obtain⟨c,s⟩:=aj.o;have aB:j<(rs.map (·.ah)).length:=by simpa using c
     have aS:(rs.map (·.ah))[j]'aB=z:=by simp[s]
     have aC:=A.o.more aB (by rw[aS];exact H1.o.1);rw[hle] at aC;refine⟨rfl,T++[f],rs.eraseIdx j,m+1,_,n-1,cap,_,_,_,_,_,_,_,_,_,_,_,_,_,_,_,_,_,_,_,_,_,_,_,_,_,_,_,_,_,_,_,_,_,_,_,_,_,_,_,_,_,_,_,_,_,_,_,_,_,_,_,_,_,_,rfl,by have:=u.o.1;omega,by omega,by omega,M.o.1,λ r s=>ab.o r (List.mem_of_mem_eraseIdx s),H1.o.2.1.kept M.o.2 (λ e=>by injection e with e;exact u.o.2.2.1 e),u.o.2.2.1,aR,aC⟩
  ·obtain rfl:j=n:=by omega
   exfalso;obtain⟨l,hl,N⟩:=A.o.Oh;obtain⟨q,B,rfl⟩:=Zd hl;have aT:q<j:=by rw[<-u.o.2.1];simpa using B
   have aD:=F q aT;rw[xE B] at aD;obtain⟨h1,aU⟩:=aD.no rfl rfl;rcases N with N|⟨f,t⟩
   ·exact h1 N
   ·exact aU f (A.o.lt _ hl f t.1).oQ t
theorem H7(w:World)(s:Option Addr)(c c0:Nat)(rs:List Row)(bc:nG w s c c0 rs)(bT:c<=1000)(v:∀r∈rs,∀x∈r.ah,gU 2 x)(bd:[1,2]∈rs.map (·.ah))(f:[-1,2]∈rs.map (·.ah))
  (z:Option Addr) (j c1:Nat) (l:List Int) (hl:aQ w z j c1 l) (bf:∀x∈l,gU 2 x) (bg:pL mZ l):
  Calls w_ 202 #[.slice s c c0,.slice z j c1] w λ e w'=>e=.returned (.bool true)/\Below w.heap.size w w':=by
 have bU:=hl.small;have H:=U (x_ bc hl);have p:=U (x_ v (x_ bd (x_ f (x_ bf bg))));clear bc v bd f hl bf bg;have bV:= @run_makeMap w_;go_enter Tryz.func202,Tryz.ntmps202
 go_wp2;refine wp_scope_jumps 0 (λ a W=>∃b g k,w.heap.size<=b/\CJ w s c c0 z j c1 b g k a W) (λ a _=>match a.tmps.getD 8 undef with| .slice _ n _=>n|_=>0) rfl ?_ ?_
 ·go_wp2;have O:=nF.made w;have P:Below w.heap.size w (w.alloc (.map #[] 0)):=(u_ _ _).alloc (t_ _) _;generalize bA:w.alloc (.map #[] 0)=W at O P⊢;clear bA;have bB:=U O;have bC:=U P;clear O P
  go_loopw [16] (λ i wr=>∃(k A:Nat),k<=j/\i=.int .i64 k/\nF wr w.heap.size k A ((l.take k).map λ x=> -x)/\(∀x∈l.take k,-x∉l.take k)/\Below w.heap.size w wr) (λ i _=>j-(intOf i).toNat)
  case atStart=>exact⟨0,0,r_ _,rfl,bB.o,λ x C=>by simp at C,bC.o⟩
  case round=>
   obtain⟨k,A,hk,rfl,bh,bj,bk⟩:=hrel;have I:=U bh;have Q:=U bj;have u:=U bk;clear bh bj bk
   by_cases v:k<j
   ·obtain⟨bW,off,rfl,f,J⟩:=(H.o.2.below u.o).cells (by omega);have bD:=J k v;clear J;have hl:k<l.length:=by rw[H.o.2.len];exact v
    have K:=zv (p.o.2.2.2.1 _ (vM hl));have E:=U (s9 l k hl);obtain⟨x,C⟩:∃x,iJ l k=x:=⟨_,rfl⟩
    rw[C] at bD K E;have bl:bI (∀W:World,Calls w_ 241 #[.int .i64 x] W λ e w'=>e=.returned (.bool true)/\W=w'):=U λ W=>Er x W (by omega) (by omega) (by omega)
    have R:r0 x=true:=za (by omega) (by omega);have S:r0 (-x)=true:=za (by omega) (by omega);have wn:q_.wrap (-x)= -x:=by rw[s_];omega
    obtain⟨bX,bY,M,oZ⟩:=I.o.put Zc (by unfold maxLen;omega) S;have bn:=M.look Zc R;have bE:=U (x_ M (x_ oZ (x_ v K)));have V:(l.take (k+1)).map (λ x=> -x)=(l.take k).map (λ x=> -x)++[-x]:=by rw[E.o];simp
    have bo:=U V;have bp:=U (xx u.o oZ.grown u.o.size (λ g e=>by injection e with e;omega))
    cases F:hasB ((l.take k).map (λ x=> -x)++[-x]) x with
    |true=>
     rw[F] at bn;clear K hl C R S M oZ F V
     go_wp2_with (go_at_call 241;refine(bl.o _).mono ?_;rintro e w' ⟨rfl,rfl⟩)
     simp only[Exit.jump];go_ret;exact⟨rfl,bp.o⟩
    |false=>
     rw[F] at bn;have bF:=U F;clear K hl C R S M oZ F V
     go_wp2_with (go_at_call 241;refine(bl.o _).mono ?_;rintro e w' ⟨rfl,rfl⟩)
     go_roundw
     case rel=>
      refine⟨k+1,_,by omega,by go_num,by rw[bo.o];exact bE.o.1,?_,bp.o⟩;have bG:x∉(l.take (k+1)).map λ x=> -x:=by rw[bo.o,<-qR,bF.o];exact l_
      have bq: -x∉l.take (k+1):=λ hm=>bG (by rw[p_];exact⟨-x,hm,Int.neg_neg x⟩)
      intro y br X;rw[E.o] at br X;rcases ZV.1 br with h1|h1
      ·rcases ZV.1 X with d|d
       ·exact Q.o y h1 d
       ·rw[i_] at d;refine bq ?_;rw[E.o,<-d,Int.neg_neg];exact ZV.2 (.inl h1)
      ·rw[i_] at h1;subst h1;exact bq (by rw[E.o];exact X)
     case measure=>simp[intOf];omega
   ·obtain rfl:k=j:=by omega
    have bs:l.take k=l:=n_ (by rw[H.o.2.len];omega);rw[bs] at I Q;have bH:=U (O7 s c c0 rs wr (H.o.1.below u.o) (by omega));clear bs
    go_wp2_with (go_at_call 242;refine bH.o.mono ?_;rintro e bJ ⟨A',c',rfl,bt,f⟩;have G:=U (x_ (AO bt u.o.size) f);clear bt f)
    go_step3
    have bZ:rs.length=c:=H.o.1.len;have b0:0<c:=by
     have:=p.o.2.1;rcases Nat.eq_zero_or_pos c with bu|bu
     ·have:rs=[]:=Ze (by omega);have B:=p.o.2.1;rw[this] at B;simp at B
     ·exact bu
    obtain⟨N,rfl⟩:∃q,c=q+1:=⟨c-1,by omega⟩
    obtain⟨g,cap,bK⟩:=yp G.o.1;injection bK with bL b1 b2
    subst bL;have bw:=I.o.below G.o.2 I.o.lt;have bM:w.heap.size≠g:=λ e=>by
     obtain⟨cs,J⟩:=sO G.o.1 (show(Zx (some ⟨g,0,none⟩) (N+1) c').ownBlock=some g from rfl);obtain⟨D,⟨es,clock,h1,_⟩,_⟩:=bw;rw[e,J] at h1
     cases h1
    have hF:=wA.start (L:=rs.map (·.ah)) (λ l hl=>by obtain⟨r,Y,rfl⟩:=p_.1 hl;exact p.o.1 r Y) p.o.2.1 p.o.2.2.1 p.o.2.2.2.1 p.o.2.2.2.2 Q.o;rename_i bN;refine bN _ _ ?_;refine wp_mono (H6 w bJ s (N+1) c0 z k c1 w.heap.size g (t_ _) (N+1) _ ⟨_,rs,k,A,N+1,c',_,_,_,_,_,_,_,_,_,_,_,_,_,_,_,_,_,_,_,_,_,_,_,_,_,_,_,_,_,_,_,_,_,_,_,_,_,_,_,_,_,_,_,_,_,_,_,_,_,_,_,_,_,_,rfl,by omega,by omega,by omega,G.o.1,λ r Y=>H.o.1.rows r Y,bw,bM,u.o.trans (G.o.2.mono u.o.size),hF⟩) ?_;intro e a W' h
    cases e with
    |goto t=>exact⟨h.1,_,_,_,t_ _,h.2⟩
    |normal=>exact h
    |exit id=>exact h
    |ret=>exact h
    |panic bO=>exact h
    |outgrown=>exact h
 ·rintro a W ⟨b,g,k,f,bP⟩;obtain⟨T,bx,m,A,n,cap,bz⟩:=bP;have bQ:CJ w s c c0 z j c1 b g (n+1) a W:=by
   obtain⟨Z,aa,ab,ad,ae,af,ag,ai,aj,ak,al,an,u16,ao,aq,ar,au,av,aw,ax,ay,az,aA,aB,aC,aD,aE,aF,u32,aG,aH,aI,aJ,aK,aL,aM,aN,aO,aP,aR,aS,aT,aU,aV,aW,aX,aY,aZ,a6,a7,a8,a',ba,bb,h1,d,B⟩:=bz;exact⟨T,bx,m,A,n,cap,Z,aa,ab,ad,ae,af,ag,ai,aj,ak,al,an,u16,ao,aq,ar,au,av,aw,ax,ay,az,aA,aB,aC,aD,aE,aF,u32,aG,aH,aI,aJ,aK,aL,aM,aN,aO,aP,aR,aS,aT,aU,aV,aW,aX,aY,aZ,a6,a7,a8,a',ba,bb,h1,by omega,B⟩
  have bR:(match a.tmps.getD 8 undef with| .slice _ n _=>n|_=>0)=n:=by
   obtain⟨Z,aa,ab,ad,ae,af,ag,ai,aj,ak,al,an,u16,ao,aq,ar,au,av,aw,ax,ay,az,aA,aB,aC,aD,aE,aF,u32,aG,aH,aI,aJ,aK,aL,aM,aN,aO,aP,aR,aS,aT,aU,aV,aW,aX,aY,aZ,a6,a7,a8,a',ba,bb,h1,d,B⟩:=bz;rw[h1];rfl
  refine wp_seq (wp_skip ?_);refine wp_mono (H6 w W s c c0 z j c1 b g f n a bQ) ?_;intro e bS W' h
  cases e with
  |goto t=>
   obtain⟨h1,d⟩:=h;refine⟨h1,⟨b,g,n,f,d⟩,?_⟩;obtain⟨T,bx,m,A,b3,cap,Z,aa,ab,ad,ae,af,ag,ai,aj,ak,al,an,u16,ao,aq,ar,au,av,aw,ax,ay,az,aA,aB,aC,aD,aE,aF,u32,aG,aH,aI,aJ,aK,aL,aM,aN,aO,aP,aR,aS,aT,aU,aV,aW,aX,aY,aZ,a6,a7,a8,a',ba,bb,h1,d,B⟩:=d;show(match bS.tmps.getD 8 undef with| .slice _ n _=>n|_=>0)<_;rw[bR,h1];exact d
  |normal=>exact h
  |exit id=>exact h
  |ret=>exact h
  |panic bO=>exact h
  |outgrown=>exact h
end
section
open Go.RowKit Go.Shelf Go.Lib
def sF(B b off m:Nat)(W W':World):Prop:=(∀v,W.cell? ⟨B,0,none⟩=some v->W'.cell? ⟨B,0,none⟩=some v)/\∀(k:Nat)(v:Value),k<m->W.cell? ⟨b,off+k,none⟩=some v->W'.cell? ⟨b,off+k,none⟩=some v
theorem sF.refl(B b off m:Nat)(W:World):sF B b off m W W:=⟨λ _ h=>h,λ _ _ _ h=>h⟩
theorem sF.trans{off m:Nat}{jo jI kg:World}(h:sF B nc off m jo jI)(k:sF B nc off m jI kg):sF B nc off m jo kg:=⟨λ v e=>k.1 v (h.1 v e),λ j v b e=>k.2 j v b (h.2 j v b e)⟩
theorem sF.yS{off m:Nat}{W':World}{row:Option Nat}(b:W.grownBy W' row)(h1:some B≠row)(c:some nc≠row):sF B nc off m W W':=⟨λ v h=>b.cell h h1,λ k v _ h=>b.cell h c⟩
theorem O9:∀args w,(callFunc 271 args).run w_ w=.ok (.enter 271 args) w:=enters_of Tryz.func271 (by kernel_rfl) rfl
theorem Pa(hk:k<ah.length):ah.take k++[iJ ah k]<+:ah:=by
 rw[<-s9 ah k hk];exact List.take_prefix _ _
theorem Pb(F:Fence)(n:Nat)(G:F.fn 271)(H:F.round=none)(P:1<=n)(l B d off m I:Nat)(b:List Int)(hl:b.length=m)(hm:m<=1000000)(c q:List Int->World->Prop)
  (J:∀pre (x:Int) W,c pre W->(pre++[x])<+:b->YieldAt F (n-1) w_ l #[.int .i64 x] W λ e W'=>
   (e=.returned (.bool true)/\c (pre++[x]) W'/\sF B d off m W W')\/(e=.returned (.bool false)/\q (pre++[x]) W'))
  (W:World) (c1:W.cell? ⟨B,0,none⟩=some (.slice (some ⟨d,off,none⟩) m I)) (r:∀k,k<m->W.cell? ⟨d,off+k,none⟩=some (.int .i64 (iJ b k))) (K:c [] W):
  CallsIn F n w_ 271 #[.func (.yield l) #[] #[],.pointer (some ⟨B,0,none⟩)] W λ e W'=>(∃v,e=.returned v)/\
   ((∃ys,ys=b/\c ys W')\/(∃pre,pre<+:b/\q pre W')):=by
 have L:=U r;have s:=U hl;clear r hl;refine callsIn_of_wp Tryz.func271 rfl G ?_ H;simp only[Tryz.ntmps271,List.size_toArray,List.length_cons,List.length_nil,Nat.reduceAdd,Nat.reduceSub,ZQ,ZP,List.push_toArray,List.append_toArray,List.nil_append,List.cons_append]
 gi_wp2
 gi_loopw [7] (λ i wr=>∃k:Nat,k<=m/\i=.int .i64 k/\c (b.take k) wr/\sF B d off m W wr) (λ i _=>m-(intOf i).toNat)
 case atStart=>exact⟨0,r_ _,rfl,by rw[List.take_zero];exact K,sF.refl _ _ _ _ _⟩
 case round=>
  obtain⟨k,hk,rfl,t,u⟩:=hrel;have w:=U t;have y:=U u;clear t u
  by_cases f:k<m
  ·have M:=y.o.2 k _ f (L.o k f);have g:k<b.length:=by rw[s.o];exact f
   have z:=U (s9 b k g);have j:=U (Pa g);have Q:q_.wrap ((k:Int)+1)=(k:Int)+1:=by rw[s_];omega
   have R:(k:Int)<(m:Int):=by omega
   obtain⟨x,A⟩:∃x,iJ b k=x:=⟨_,rfl⟩
   rw[A] at M z j;clear A g;obtain⟨fn,tmps,assign,body,S,N⟩:=J _ x wr w.o j.o
   gi_wp2
   refine N.mono ?_;rintro e T (⟨rfl,C,D⟩|⟨rfl,E⟩)
   ·have p:=U C;have O:=U D;clear C D
    gi_wp2
    go_roundw
    case rel=>exact⟨k+1,by omega,by go_num,by rw[z.o];exact p.o,y.o.trans O.o⟩
    case measure=>simp[intOf];omega
   ·have p:=U E;clear E
    gi_wp2
    refine bodyPost_ret (results_none rfl _ _ _) rfl ?_;exact⟨⟨_,rfl⟩,.inr ⟨_,j.o,p.o⟩⟩
  ·obtain rfl:k=m:=by omega
   gi_wp2
   go_end0;exact⟨⟨_,rfl⟩,.inl ⟨_,by rw[n_ (by rw[s.o];exact t_ _)],w.o⟩⟩
theorem Pc(n:Nat)(f:1<=n)(B b off m d:Nat)(c:List Int)(hl:c.length=m)(hm:m<=1000000)(w:World)(c1:w.cell? ⟨B,0,none⟩=some (.slice (some ⟨b,off,none⟩) m d))
  (g:∀k,k<m->w.cell? ⟨b,off+k,none⟩=some (.int .i64 (iJ c k))) (h1:B<w.heap.size) (i:b<w.heap.size):
  C0 Fence.wide n w_ 271 #[.pointer (some ⟨B,0,none⟩)] (λ x:Int=> #[.int .i64 x]) (sF B b off m) (λ pre x=>(pre++[x])<+:c) (λ ys=>ys=c) (λ pre=>pre<+:c) w:=
 λ l j o W e q r=>Pb Fence.wide n trivial rfl f l B b off m d c hl hm j o q W ((e.cell (p:=⟨B,0,none⟩) h1).trans c1)
  (λ k hk=>(e.cell (p:=⟨b,off+k,none⟩) i).trans (g k hk)) r
theorem Pd(A:Option Addr)(n c:Nat)(w:World):
  Calls w_ 264 #[.slice A n c] w λ e w'=>e=.returned (.func (.func 271) #[] #[.pointer (some ⟨w.heap.size,0,none⟩)])/\w'=w.alloc (.cells #[.slice A n c] 25):=by
 have b:∀(fn:Fn)(first cap:Array Value)(w:World),(ZR fn first cap).run w_ w=.ok (.func fn first cap) w:=λ _ _ _ _=>rfl
 go_enter Tryz.func264,Tryz.ntmps264
 go_wp2;go_ret;exact⟨rfl,rfl⟩
def AV(w V:World)(b:Nat)(pre:List Int):Prop:=
 ∃(A:Option Addr)(c:Nat),aO V b 25 [.slice A pre.length c]/\V.ownsRow w.heap.size 3 1 (.slice A pre.length c) pre.length (pre.map (Value.int .i64))/\Below w.heap.size w V
theorem AV.tW{w V jG:World}{ji:Nat}{pre:List Int}(h:AV w V ji pre)(u:w.heap.size<=B){row:Option Nat}(d:V.grownBy jG row)(f:∀r,row=some r->B<=r/\∃o:Obj,V.heap[r]? =some o/\o.isCells=false):AV w jG ji pre:=by
 obtain⟨A,c,h1,i,j⟩:=h;have k:∀b,(∃cs t l,V.heap[b]? =some (.cells cs t l))->some b≠row:=λ b ⟨cs,t,l,n⟩ e=>by
  obtain⟨_,o,m,p⟩:=f b e.symm;rw[n] at m;cases m;cases p
 refine⟨A,c,h1.kept d (k _ (Ac h1)),i.kept d ?_,j.grown d j.size (λ g e=>by have:=(f g e).1;omega)⟩
 cases q:(Zx A pre.length c).ownBlock with
 |none=>exact .inl rfl
 |some g=>
  obtain⟨cs,s⟩:=sO i q;exact .inr (k g ⟨_,_,_,s⟩)
attribute [local go_sem] Oper.semAt_some
theorem Pe(B g off m T:Nat)(u:List Int)(hl:u.length=m)(hm:m<=1000000)(w:World)(c1:w.cell? ⟨B,0,none⟩=some (.slice (some ⟨g,off,none⟩) m T))
  (f:∀k,k<m->w.cell? ⟨g,off+k,none⟩=some (.int .i64 (iJ u k))) (h1:B<w.heap.size) (ao:g<w.heap.size):
  Calls w_ 273 #[.slice none 0 0,.func (.func 271) #[] #[.pointer (some ⟨B,0,none⟩)]] w λ e w'=>∃A c,e=.returned (.slice A m c)/\w'.ownsRow w.heap.size 3 1 (.slice A m c) m (u.map (Value.int .i64))/\Below w.heap.size w w':=by
 have ar:=U f;have K:=U hl;clear f hl;refine Ba Tryz.func273 rfl ?_;simp only[Tryz.ntmps273,List.size_toArray,List.length_cons,List.length_nil,Nat.reduceAdd,Nat.reduceSub,ZQ,ZP,List.push_toArray,List.append_toArray,List.nil_append,List.cons_append];go_wp2;have i:=aO.new w 25 [.slice none 0 0];have z:Below w.heap.size w (w.alloc (.cells [Zx none 0 0].toArray 25)):=(u_ _ _).alloc (t_ _) _;have aW:(w.alloc (.cells [Zx none 0 0].toArray 25)).heap.size=w.heap.size+1:=by simp
 have au:=(z.cell (p:=⟨B,0,none⟩) h1).trans c1;have av:=U (λ k hk=>(z.cell (p:=⟨g,off+k,none⟩) ao).trans (ar.o k hk));change Code.wp _ _ _ _ (w.alloc (.cells [Zx none 0 0].toArray 25));generalize w.alloc (.cells [Zx none 0 0].toArray 25)=s at*;have W:OwnFrom s.heap.size (λ(pre:List Int)(V:World)=>AV w V w.heap.size pre):=by
  rintro pre aX aY row h aw ax;exact h.tW (by omega) aw ax
 have X:=U W;have ay:=U i;have az:=U z;clear W i z;refine(wpIn_wide (n:=6)).1 ?_;refine A9 (F:=Fence.wide) (w0:=s) rfl (by omega) (gf:=271) (lb:= #[.pointer (some ⟨B,0,none⟩)]) rfl trivial O9
  (Pc (6-1) (by omega) B g off m T u K.o hm s au av.o (by omega) (by omega))
  (λ h k=>h.trans k) (λ V l o aZ hl a6 Y _=>⟨λ v L=>(Zt (w:=V) (ZX (by show B≠l;omega))).trans L,λ k v _ L=>(Zt (w:=V) (ZX (by show g≠l;omega))).trans L⟩) (u_ _ _) (λ _=>rfl)
  (λ(pre:List Int)(V:World)=>AV w V w.heap.size pre) (λ _ _ _=>False)
  X.o (λ _ _ _ _ _ (h:False)=>h.elim) ⟨none,0,ay.o,Zu _ _ _ _,az.o⟩
  ?a1 ?w1 ?assign ?kw1 ?body ?done ?stop
 case assign=>
  intro l pre y d a7 C M aA
  gi_wp2
  exact aA
 case kw1=>
  intro pre y d C;exact⟨KeepsFrom.refl _ _,sF.refl _ _ _ _ _⟩
 case body=>
  rintro l pre y Z d C ⟨o,aB,aa,Y,ab,ad⟩ M a8;have aC:=X.o _ _ _ _ C (show Z.grownBy d (some (s.heap.size+1)) by rw[aa];exact grownBy_putObj' Z (s.heap.size+1) o) (λ r e=>by cases e;exact⟨by omega,aB,ab,ad⟩);clear C aa Y ab ad;obtain⟨A,c,i,N,ae⟩:=aC;have af:pre.length<=1000000:=by have h:=M.length_le;rw[j_,K.o] at h;omega
  have O:=U i;have aD:=U N;have t:=U ae;have aE:=U af;have cb:d.cell? ⟨w.heap.size,0,none⟩=some (.slice A pre.length c):=i.cell 0;have ag:bI (some w.heap.size≠(Zx A pre.length c).ownBlock):=U λ e=>by
   obtain⟨cs,f⟩:=sO N e.symm;have:d.heap[w.heap.size]? =_:=i;rw[this] at f
   cases f
  clear i N ae af M;refine wpIn_block ?_;refine EZ (by kernel_rfl) (by rintro⟨_,_,(h:False)⟩;exact h) ?_;have P:=U (lR aD.o (bK d (mD [y])));have aF:=U (O.o.below (bK d (mD [y])));have aG:=U (aQ.lit d [y] 1 _ rfl rfl (by omega));have Q:w.heap.size<=(d.alloc (mD [y])).heap.size:=by have:=t.o.size;have:=(bK d (mD [y])).size;omega
  have f0:=O.o.free 0
  go_wp2_with (at_builtin;refine vq rfl (.tmp 8) (.tmp 10) rfl w.heap.size (.slice A pre.length c) pre.length pre rfl P.o (some ⟨d.heap.size,0,none⟩) 1 1 [y] rfl aG.o (by have:=aE.o;omega) Q ?_;intro v9 di H;obtain⟨⟨R,ah,c2⟩,aH,ai⟩:=aq.lz H.1;obtain rfl:v9=.slice R ah c2:=aH;have aI:=U H;have aJ:=U ai;have I:=aF.o.kept H.2.1 (λ e=>ag.o e);have c9:=I.cell 0;have f9:=I.free 0;simp only[z_] at c9;have aK:=U I;clear H ai I)
  obtain⟨g1,g2,g3⟩:=aI.o;have aL:ah=(pre++[y]).length:=by rw[j_];exact aJ.o
  subst aL;have J:∀b,(Zx A pre.length c).ownBlock=some b->w.heap.size<=b:=λ b e=>(td P.o e).1
  refine⟨((KeepsOthers.alloc d (mD [y])).trans ((KeepsOthers.of_grownBy g2 (λ j o e aM=>?_)).trans (KeepsOthers.setCell _ _ _))).from _,(sF.yS (ZM d (mD [y]) none) (by simp) (by simp)).trans ((sF.yS g2 (λ e=>by have:=J B e.symm;omega) (λ e=>by have:=J g e.symm;omega)).trans (sF.yS (II _) (λ e=>by injection e with e;omega) (λ e=>by injection e with e;omega))),R,c2,aK.o.set 0 _,?_,?_⟩
  ·obtain⟨cs,f⟩:=sO P.o e;have aj:(d.alloc (mD [y])).heap[j]? =some o:=aM;rw[f] at aj;cases aj;rfl
  ·have h:=g1;rw[j_] at h⊢;refine mP h λ b e=>?_
   have aN:b≠w.heap.size:=by
    have ak:(Zx R (pre++[y]).length c2).ownBlock=some b:=by rw[j_];exact e
    rcases g3 with q|q
    ·rw[ak] at q;exact λ aP=>ag.o (by rw[<-aP];exact q)
    ·have q:some b=some (d.alloc (mD [y])).heap.size:=ak.symm.trans q;injection q with q
     have:=O.o.lt;have:=(bK d (mD [y])).size;omega
   exact(kK di w.heap.size 0 _).block b (td h e).2 (λ aR=>aN (by injection aR))
  ·exact(((t.o.trans ((bK d (mD [y])).mono t.o.size)).grown g2 Q J)).grown (kK di w.heap.size 0 _) (((t.o.trans ((bK d (mD [y])).mono t.o.size)).grown g2 Q J)).size (λ b e=>by injection e with e;omega)
 case done=>
  rintro D ys d aS aT ⟨A,c,g1,g2,g3⟩ al;subst aT;have aU:=g1.cell 0;simp only[z_] at aU;have G:=U (x_ g2 (x_ g3 al));clear g1 g2 g3 al
  gi_wp2
  go_wp2_with fail
  refine Bb [D] rfl (by simp) (λ E S=>by rw[i_.1 S];exact G.o.2.2) (λ W' an=>⟨_,results_tmp rfl _ _ _,?_⟩);have hl:=K.o;subst hl;refine⟨A,c,rfl,mP G.o.1 λ b e=>an.block b λ aV=>?_,an.below G.o.2.1 λ E S=>by rw[i_.1 S];omega⟩;obtain⟨cs,f⟩:=sO G.o.1 e;rw[i_.1 aV,G.o.2.2] at f
  cases f
 case stop=>
  rintro D a' pre d aS ba (h:False);exact h.elim
end
section
open Go.RowKit Go.Shelf Go.Lib
theorem Pf(x y:Int)(w:World):Calls w_ 170 #[.int .i64 x,.int .i64 y] w λ e w'=>e=.returned (.bool (decide (x<y)))/\w=w':=by
 have b:=U (AZ x);have c:=U (AZ y);go_enter Tryz.func170,Tryz.ntmps170
 go_wp2_with (go_at_call 196;refine(b.o _).mono ?_;rintro e w' ⟨rfl,rfl⟩)
 all_goals
  go_ret;exact⟨by simp,rfl⟩
theorem Pg(b off c:Nat)(x y:Int)(w:World)(h:aQ w (some ⟨b,off,none⟩) 2 c [x,y])(s:x<=y):
  Calls w_ 211 #[.slice (some ⟨b,off,none⟩) 2 c,.int .i64 0,.int .i64 2] w λ e w'=>e=.returned (.tuple #[])/\Below w.heap.size w w':=by
 have H:=U h;clear h;go_enter Tryz.func211,Tryz.ntmps211
 go_wp2
 go_loopw [6] (λ i W=>(i=.int .i64 1\/i=.int .i64 2)/\Below w.heap.size w W) (λ i _=>2-(intOf i).toNat)
 case atStart=>exact⟨.inl rfl,u_ _ _⟩
 case round=>
  obtain⟨m,d⟩:=hrel;have g:=U d;clear d;rcases m with rfl|rfl
  ·go_wp2
   go_loopw [7] (λ i W=>i=.int .i64 1/\Below w.heap.size w W) (λ _ _=>0)
   case atStart=>exact⟨rfl,g.o⟩
   case round=>
    obtain⟨rfl,d⟩:=hrel;obtain⟨t,u,he,n,f⟩:=(H.o.below d).cells (by omega);injection he with he
    injection he with p q
    subst p q;have j:=U d;have k0:=f 0 (by omega);have r:=f 1 (by omega);simp only[iJ,Zg,List.getD_cons_zero,List.getD_cons_succ] at k0 r;have k:=U (Pf y x);have l:decide (y<x)=false:=by simp;omega
    rw[l] at k;clear d f n l
    go_wp2_with fail
    go_quiet ((go_at_call 170;refine v_ ((k.o _).mono λ e v h=>⟨h.1,h.2.symm⟩)))
    go_wp2_with fail
    go_roundw
    case rel=>exact⟨.inr (by go_num),j.o.trans ((tc _ _).mono j.o.size)⟩
    case measure=>simp[intOf]
  ·go_wp2;go_end0;exact⟨rfl,g.o⟩
theorem Ph(w:World):Calls w_ 220 #[.int .u64 2] w λ e w'=>∃r:Int,e=.returned (.int .i64 r)/\w=w':=by
 go_enter Tryz.func220,Tryz.ntmps220
 go_wp2;go_ret;exact⟨_,rfl,rfl⟩
theorem Pj(w:World):Calls w_ 178 #[.int .u64 2] w λ e w'=>∃r:Int,e=.returned (.int .i64 r)/\w=w':=by
 go_enter Tryz.func178,Tryz.ntmps178
 go_wp2_with (go_at_call 220;refine(Ph _).mono ?_;rintro e w' ⟨r,rfl,rfl⟩)
 go_ret;exact⟨_,rfl,rfl⟩
theorem Pk(r:Int)(b off c:Nat)(x y:Int)(w:World)(h:aQ w (some ⟨b,off,none⟩) 2 c [x,y])(f:x<=y):
  Calls w_ 177 #[.slice (some ⟨b,off,none⟩) 2 c,.int .i64 0,.int .i64 2,.int .i64 r] w λ e w'=>e=.returned (.tuple #[])/\Below w.heap.size w w':=by
 have H:=U h;clear h;go_enter Tryz.func177,Tryz.ntmps177
 go_wp2
 go_loopw [1,2] (λ s1 s2 W=>s1=.int .i64 0/\s2=.int .i64 2/\W=w) (λ _ _ _=>0)
 case atStart=>exact⟨rfl,rfl,rfl⟩
 case round=>
  obtain⟨rfl,rfl,rfl⟩:=hrel;have g:=U (Pg b off c x y wr H.o f)
  go_wp2_with (go_at_call 211;refine g.o.mono ?_;rintro e j ⟨rfl,d⟩;have i:=U d;clear d)
  refine bodyPost_ret (results_none rfl _ _ _) rfl ?_;exact⟨rfl,i.o⟩
theorem Pm(b off c:Nat)(x y:Int)(w:World)(h:aQ w (some ⟨b,off,none⟩) 2 c [x,y])(f:x<=y):
  Calls w_ 135 #[.slice (some ⟨b,off,none⟩) 2 c] w λ e w'=>e=.returned (.tuple #[])/\Below w.heap.size w w':=by
 have g:=U (λ r=>Pk r b off c x y w h f);clear h;go_enter Tryz.func135,Tryz.ntmps135
 go_wp2_with (first
  |(go_at_call 178;refine(Pj _).mono ?_;rintro e w' ⟨r,rfl,rfl⟩)
  |(go_at_call 177;refine(g.o r).mono ?_;rintro e j ⟨rfl,d⟩;have i:=U d;clear d))
 go_end0;exact⟨rfl,i.o⟩
theorem Pn(w:World)(base g cap:Nat)(a:Int)(c:a=1\/a= -1)(h:Own w base g 2 cap [a,2])(d:base<=g):
  Calls w_ 223 #[.slice (some ⟨g,0,none⟩) 2 cap] w λ e w'=>e=.returned (.slice (some ⟨g,0,none⟩) 2 cap)/\Own w' base g 2 cap [a,2]/\Below base w w':=by
 obtain⟨ls,h1,f⟩:∃ls:List r4,ls.map (·.1)=[a,2]/\(compactUpTo ls.toArray ls.length).map (·.1)=[a,2]:=by
  rcases c with rfl|rfl
  ·exact⟨[⟨1,by decide⟩,⟨2,by decide⟩],rfl,by decide⟩
  ·exact⟨[⟨-1,by decide⟩,⟨2,by decide⟩],rfl,by decide⟩
 refine(GC w base g 2 cap ls (by rw[h1];exact h) d).mono ?_;rintro e w' ⟨m,rfl,b,i⟩;rw[f] at b;have hm:m=2:=by have:=b.1;simpa using this.symm
 subst hm;exact⟨rfl,b,i⟩
theorem H8(b off c:Nat)(a:Int)(D:a=1\/a= -1)(w:World)(h:aQ w (some ⟨b,off,none⟩) 2 c [a,2]):
  Calls w_ 239 #[.slice (some ⟨b,off,none⟩) 2 c] w λ e w'=>∃g cap,e=.returned (.slice (some ⟨g,0,none⟩) 2 cap)/\w.heap.size<=g/\aQ w' (some ⟨g,0,none⟩) 2 cap [a,2]/\Below w.heap.size w w':=by
 have v:Below w.heap.size w (w.alloc (.cells #[.slice (some ⟨b,off,none⟩) 2 c] 25)):=(u_ _ _).alloc (t_ _) _;obtain⟨N,O,he,E,r⟩:=h.cells (by omega);injection he with he
 injection he with F G
 subst F G;have t:=U (Pd (some ⟨b,off,none⟩) 2 c w);have s:(w.alloc (.cells #[.slice (some ⟨b,off,none⟩) 2 c] 25)).cell? ⟨w.heap.size,0,none⟩=some (.slice (some ⟨b,off,none⟩) 2 c):=by simp
 have u:=U (Pe w.heap.size b off 2 c [a,2] rfl (by omega) (w.alloc (.cells #[.slice (some ⟨b,off,none⟩) 2 c] 25)) s (λ k hk=>(v.cell (p:=⟨b,off+k,none⟩) E).trans (r k hk)) (by simp) (by simp;omega));have y:=U v;have z:bI (Calls w_ 270 #[.func (.func 271) #[] #[.pointer (some ⟨w.heap.size,0,none⟩)]] (w.alloc (.cells #[.slice (some ⟨b,off,none⟩) 2 c] 25)) λ e w'=>∃g cap,e=.returned (.slice (some ⟨g,0,none⟩) 2 cap)/\w.heap.size<=g/\Own w' w.heap.size g 2 cap [a,2]/\Below w.heap.size w w'):=U (by
  clear h r s t;go_enter Tryz.func270,Tryz.ntmps270
  go_wp2_with (go_at_call 273;refine u.o.mono ?_;rintro e j ⟨A,H,rfl,l,d⟩;have B:=U (x_ l d);clear l d)
  go_ret;have l:=AO B.o.1 (show w.heap.size<=(w.alloc (.cells #[.slice (some ⟨b,off,none⟩) 2 c] 25)).heap.size by simp);obtain⟨g,cap,I⟩:=yp l;injection I with J P K
  subst J K;exact⟨g,H,rfl,(td l rfl).1,l,y.o.trans (B.o.2.mono y.o.size)⟩)
 have L:bI (Calls w_ 263 #[.func (.func 271) #[] #[.pointer (some ⟨w.heap.size,0,none⟩)]] (w.alloc (.cells #[.slice (some ⟨b,off,none⟩) 2 c] 25)) λ e w'=>∃g cap,e=.returned (.slice (some ⟨g,0,none⟩) 2 cap)/\w.heap.size<=g/\Own w' w.heap.size g 2 cap [a,2]/\Below w.heap.size w w'):=U (by
  clear h r s t u;go_enter Tryz.func263,Tryz.ntmps263
  go_wp2_with (first
   |(go_at_call 270;refine z.o.mono ?_;rintro e j ⟨g,cap,rfl,m,f,d⟩;have i:=U (x_ m (x_ f d));have ST:=U (Pm g 0 cap a 2 j (aQ.lz f (by omega)) (by omega));clear m f d)
   |(go_at_call 135;refine ST.o.mono ?_;rintro e M ⟨rfl,n⟩;have q:=U n;clear n))
  go_ret;exact⟨g,cap,rfl,i.o.1,lR i.o.2.1 q.o,i.o.2.2.trans (q.o.mono i.o.2.2.size)⟩)
 clear h r s u z;go_enter Tryz.func239,Tryz.ntmps239
 go_wp2_with (first
  |(go_at_call 264;refine t.o.mono ?_;rintro e w1 ⟨rfl,rfl⟩)
  |(go_at_call 263;refine L.o.mono ?_;rintro e j ⟨g,cap,rfl,m,f,d⟩;have i:=U (x_ m (x_ f d));have ST:bI (Calls w_ 223 #[.slice (some ⟨g,0,none⟩) 2 cap] j λ e w'=>e=.returned (.slice (some ⟨g,0,none⟩) 2 cap)/\Own w' w.heap.size g 2 cap [a,2]/\Below w.heap.size j w'):=U (Pn j w.heap.size g cap a D f m);clear m f d)
  |(go_at_call 223;refine ST.o.mono ?_;rintro e M ⟨rfl,C,n⟩;have q:=U (x_ C n);clear C n))
 go_ret;exact⟨g,cap,rfl,i.o.1,aQ.lz q.o.1 (by omega),i.o.2.2.trans q.o.2⟩
theorem Po(A:Option Addr)(n c:Nat)(d:List Int)(A':Option Addr)(c':Nat)(f:List Int)(w:World)(h:aQ w A n c d)(h':aQ w A' n c' f):
  Calls w_ 190 #[.slice A n c,.slice A' n c'] w λ e w'=>e=.returned (.bool (decide (d=f)))/\Below w.heap.size w w':=by
 have F:=h.small;have H:=U h;have l:=U h';clear h h';go_enter Tryz.func190,Tryz.ntmps190
 go_wp2
 go_loopw [13] (λ i wr=>∃k q:Nat,k<=n/\i=.int .i64 k/\d.take k=f.take k/\wr=w.drewN q) (λ i _=>n-(intOf i).toNat)
 case atStart=>exact⟨0,0,r_ _,rfl,rfl,rfl⟩
 case round=>
  obtain⟨k,q,hk,rfl,s,rfl⟩:=hrel;have t:=U s;clear s
  by_cases g:k<n
  ·obtain⟨b,off,rfl,G,u⟩:=H.o.cells (by omega);have C:=u k g;clear u;obtain⟨I,J,rfl,K,v⟩:=l.o.cells (by omega);have D:=v k g;clear v;have L:(k:Int)<(n:Int):=by omega
   have z:k<d.length:=by rw[H.o.len];exact g
   have B:k<f.length:=by rw[l.o.len];exact g
   have t1:=s9 d k z;have t2:=s9 f k B;obtain⟨x,m⟩:∃x,iJ d k=x:=⟨_,rfl⟩
   obtain⟨y,p⟩:∃y,iJ f k=y:=⟨_,rfl⟩
   rw[m] at C t1;rw[p] at D t2;have j:=U (x_ t1 (x_ t2 (x_ m p)));clear t1 t2 m p z B
   by_cases he:x=y
   ·have E:(x !=y)=false:=by simp[he]
    have r:=U he;clear he
    go_wp2_with fail
    go_quiet (fail)
    go_wp2;go_roundw
    case rel=>exact⟨k+1,_,by omega,by go_num,by rw[j.o.1,j.o.2.1,t.o,r.o],rfl⟩
    case measure=>simp[intOf];omega
   ·have E:(x !=y)=true:=by simp[he]
    have r:=U he;clear he
    go_wp2_with fail
    go_quiet (fail)
    go_wp2;go_ret;refine⟨mo ?_,by rw[World.drewN_drewN];exact tc _ _⟩;rw[eq_comm,decide_eq_false_iff_not];rintro rfl;exact r.o (j.o.2.2.1.symm.trans j.o.2.2.2)
  ·go_wp2;go_ret;refine⟨mo ?_,tc _ _⟩;rw[eq_comm,decide_eq_true_eq];have:=t.o
   rwa[n_ (by rw[H.o.len];omega),n_ (by rw[l.o.len];omega)] at this
def AW(g:Nat)(lb:Array Value)(p:List Int->Bool)(ls:List (List Int))(w:World):Prop:=
 ∀(A:Option Addr)(n c:Nat)(b:List Int)(W:World),b∈ls->Below w.heap.size w W->aQ W A n c b->Calls w_ g (#[.slice A n c]++lb) W λ e w'=>e=.returned (.bool (p b))/\Below W.heap.size W w'
theorem AW.val{lb:Array Value}{p:List Int->Bool}{ls:List (List Int)}{w:World}(h:AW g lb p ls w)(r:Bool)(A:Option Addr)(n c:Nat)(b:List Int)(W:World)(hm:b∈ls)(d:Below w.heap.size w W)(f:aQ W A n c b)(he:p b=r):
  Calls w_ g (#[.slice A n c]++lb) W λ e w'=>e=.returned (.bool r)/\Below W.heap.size W w':=by
 have:=h A n c b W hm d f;rw[he] at this;exact this
theorem Pp(g:Nat)(lb:Array Value)(p:List Int->Bool)(D:∀args w,(callFunc g args).run w_ w=.ok (.enter g args) w)(A:Option Addr)(n c:Nat)(ls:List (List Int))(w:World)(h:lF w A n c ls)
  (hp:AW g lb p ls w):Calls w_ 167 #[.slice A n c,.func (.func g) #[] lb] w (EU p ls w):=by
 have E:=h.small;have H:=U h;clear h;have u:=U hp;clear hp;go_enter Tryz.func167,Tryz.ntmps167
 go_wp2
 go_loopw [8] (λ i W=>∃k:Nat,k<=n/\i=.int .i64 k/\(ls.take k).any p=false/\Below w.heap.size w W) (λ i _=>n-(intOf i).toNat)
 case atStart=>exact⟨0,r_ _,rfl,rfl,u_ _ _⟩
 case round=>
  obtain⟨k,hk,rfl,v,y⟩:=hrel;have z:=U v;have d:=U y;clear v y
  by_cases q:k<n
  ·obtain⟨b,off,rfl,F,B⟩:=(H.o.below d.o).cells (by omega);obtain⟨a1,C,c1,G,m⟩:=B k q;clear B;have hl:k<ls.length:=by rw[H.o.len];exact q
   cases f:p (oq ls k)
   ·have j:=u.o.val false a1 C c1 (oq ls k) wr (zC hl) d.o m f;have r:=U f;have s:=U hl;clear f m hl
    go_wp2_with (go_at_fn g;refine j.mono ?_;clear j;rintro e w' ⟨rfl,l⟩;have t:=U l;clear l)
    go_roundw
    case rel=>exact⟨k+1,by omega,by go_num,ES s.o r.o z.o,d.o.trans (t.o.mono d.o.size)⟩
    case measure=>simp[intOf];omega
   ·have j:=u.o.val true a1 C c1 (oq ls k) wr (zC hl) d.o m f;have r:=U f;have s:=U hl;clear f m hl
    go_wp2_with (go_at_fn g;refine j.mono ?_;clear j;rintro e w' ⟨rfl,l⟩;have t:=U l;clear l)
    go_ret;exact⟨k,rfl,by rw[ER s.o r.o];simp,d.o.trans (t.o.mono d.o.size)⟩
  ·go_wp2;go_ret;exact⟨-1,rfl,by rw[ET H.o.len q z.o];rfl,d.o⟩
theorem Pq(g:Nat)(lb:Array Value)(p:List Int->Bool)(b:∀args w,(callFunc g args).run w_ w=.ok (.enter g args) w)(A:Option Addr)(n c:Nat)(ls:List (List Int))(w:World)(h:lF w A n c ls)
  (hp:AW g lb p ls w):Calls w_ 119 #[.slice A n c,.func (.func g) #[] lb] w λ e w'=>e=.returned (.bool (ls.any p))/\Below w.heap.size w w':=by
 have d:=Pp g lb p b A n c ls w h hp;clear h hp;go_enter Tryz.func119,Tryz.ntmps119
 go_wp2_with (go_at_call 167;refine d.mono ?_;rintro e w' ⟨r,rfl,f,i⟩)
 all_goals
  go_ret;exact⟨mo (by rw[<-f]),i⟩
theorem Pr:∀args w,(callFunc 240 args).run w_ w=.ok (.enter 240 args) w:=enters_of Tryz.func240 (by kernel_rfl) rfl
theorem Pt(b off c:Nat)(a:Int)(l:a=1\/a= -1)(w:World)(h:aQ w (some ⟨b,off,none⟩) 2 c [a,2]):
  Calls w_ 200 #[.slice (some ⟨b,off,none⟩) 2 c] w λ e w'=>∃B g cap,e=.returned (.func (.func 240) #[] #[.pointer (some ⟨B,0,none⟩)])/\aO w' B 25 [.slice (some ⟨g,0,none⟩) 2 cap]/\aQ w' (some ⟨g,0,none⟩) 2 cap [a,2]/\Below w.heap.size w w':=by
 have m:=U (H8 b off c a l w h);clear h;have p:∀(fn:Fn)(first cap:Array Value)(w:World),(ZR fn first cap).run w_ w=.ok (.func fn first cap) w:=λ _ _ _ _=>rfl
 go_enter Tryz.func200,Tryz.ntmps200
 go_wp2_with (go_at_call 239;refine m.o.mono ?_;rintro e d ⟨g,cap,rfl,n,i,j⟩;have f:=U (x_ i j);clear n i j)
 go_ret;have k:Below d.heap.size d (d.alloc (.cells #[.slice (some ⟨g,0,none⟩) 2 cap] 25)):=(u_ _ _).alloc (t_ _) _;exact⟨_,g,cap,rfl,aO.new d 25 [.slice (some ⟨g,0,none⟩) 2 cap],f.o.1.below k,f.o.2.trans (k.mono f.o.2.size)⟩
theorem Pu(a:Int)(J:a=1\/a= -1)(B g cap:Nat)(w:World)(l:aO w B 25 [.slice (some ⟨g,0,none⟩) 2 cap])(m:aQ w (some ⟨g,0,none⟩) 2 cap [a,2]):AW 240 #[.pointer (some ⟨B,0,none⟩)] (λ i=>decide (i=[a,2])) mZ w:=by
 intro A n c i W b j d;obtain⟨x,y,rfl⟩:∃x:Int,(x=1\/x= -1)/\i=[x,2]:=by
  unfold mZ at b;rcases List.mem_cons.1 b with rfl|b
  ·exact⟨1,.inl rfl,rfl⟩
  ·exact⟨-1,.inr rfl,i_.1 b⟩
 have z:n=2:=d.len.symm;subst z;obtain⟨p,off,rfl,_⟩:=d.cells (by omega);have q:=l.below j;have r:=m.below j;have k:=U (x_ (show aO W.drew B 25 _ from q) (show aQ W.drew _ _ _ _ from r.below ((u_ _ _).drew)));have C:=U (H8 p off c x y W.drew (d.below ((u_ _ _).drew)));have cb:=k.o.1.cell 0;clear l m q r d j b;show Calls w_ 240 #[.slice (some ⟨p,off,none⟩) 2 c,.pointer (some ⟨B,0,none⟩)] W _;go_enter Tryz.func240,Tryz.ntmps240
 go_upto_region 1 with fail
 rename_i D s;have E:=U s;clear s;refine wp_region_noPanic ?_
 go_region_with (first
  |(go_at_call 239;refine C.o.mono ?_;rintro e F ⟨g2,G,rfl,H,t,f⟩;have K:=(k.o.1.below f).cell 0;have EQ:=U (Po (some ⟨g2,0,none⟩) 2 G [x,2] (some ⟨g,0,none⟩) cap [a,2] F t (k.o.2.below f));have u:=U f;clear H t f)
  |(go_at_call 190;refine EQ.o.mono ?_;rintro e L ⟨rfl,v⟩;have I:=U v;clear v))
 all_goals
  show D _ _;apply E.o
  go_wp2_with fail
  go_ret;exact⟨mo (a:=decide (x=a)) (by simp),((u_ _ W).drew).trans (u.o.trans (I.o.mono u.o.size))⟩
def CK(b:Int)(c:List Int):Prop:=(1<=b/\b<=3)/\∀x∈c,gU 60000 x
theorem Pv(x:Int)(w:World)(b:x≠0)(h1: -65536<=x)(c:x<=65536):Calls w_ 262 #[.int .i64 x] w λ e w'=>e=.returned (.bool false)/\w=w':=by
 have L:=U (Er x w b h1 c);clear b h1 c;go_enter Tryz.func262,Tryz.ntmps262
 go_wp2_with (go_at_call 241;refine L.o.mono ?_;rintro e w' ⟨rfl,rfl⟩)
 go_ret;exact⟨rfl,rfl⟩
theorem Pw:∀args w,(callFunc 262 args).run w_ w=.ok (.enter 262 args) w:=enters_of Tryz.func262 (by kernel_rfl) rfl
theorem Px:∀args w,(callFunc 237 args).run w_ w=.ok (.enter 237 args) w:=enters_of Tryz.func237 (by kernel_rfl) rfl
theorem Py(b:Int)(A:Option Addr)(n c:Nat)(d:List Int)(w:World)(h:aQ w A n c d)(hl:CK b d):
  Calls w_ 238 #[.agg #[.int .i64 b,.slice A n c]] w λ e w'=>e=.returned (.bool true)/\Below w.heap.size w w':=by
 have f:=aO.new w 126 [.int .i64 b,.slice A n c];have g:=bK w (.cells #[.int .i64 b,.slice A n c] 126);have i:=CT 262 #[] (λ _=>false) Pw A n c d _ (h.below g) (λ x l=>by
  have j:=hl.2 x l;have m:x≠0:=j.oQ;unfold gU aH at j;exact Pv x _ m (by omega) (by omega))
 have k:(d.any λ _=>false)=false:=by simp
 rw[k] at i;have H:=U i;have p:=U g;have h1:=hl.1.1;have j:=hl.1.2;clear i h hl k g;go_enter Tryz.func238,Tryz.ntmps238
 go_wp2_with fail
 change aO (w.alloc (.cells #[.int .i64 b,.slice A n c] 126)) _ _ _ at f;have t0:=f.cell 0;have t1:=f.cell 1;simp only[z_,y_] at t0 t1;clear f;generalize w.alloc (.cells #[.int .i64 b,.slice A n c] 126)=W at*
 go_wp2_with (go_at_call 120;refine H.o.mono ?_;rintro e w' ⟨rfl,rfl⟩)
 go_ret;exact⟨rfl,p.o⟩
theorem Pz(b:Int)(A:Option Addr)(n c:Nat)(f:List Int)(w:World)(h:aQ w A n c f)(hl:CK b f):
  Calls w_ 237 #[.agg #[.int .i64 b,.slice A n c]] w λ e w'=>e=.returned (.bool false)/\Below w.heap.size w w':=by
 have d:=aO.new w 126 [.int .i64 b,.slice A n c];have g:=bK w (.cells #[.int .i64 b,.slice A n c] 126);have H:=U (Py b A n c f _ (h.below g) hl);have i:=U g;clear h hl g;go_enter Tryz.func237,Tryz.ntmps237
 go_wp2_with fail
 change aO (w.alloc (.cells #[.int .i64 b,.slice A n c] 126)) _ _ _ at d;have t0:=d.cell 0;have t1:=d.cell 1;simp only[z_,y_] at t0 t1;clear d;generalize w.alloc (.cells #[.int .i64 b,.slice A n c] 126)=W at*
 go_wp2_with (go_at_call 238;refine H.o.mono ?_;rintro e w' ⟨rfl,j⟩;have k:=U j;clear j)
 go_ret;exact⟨rfl,i.o.trans (k.o.mono i.o.size)⟩
theorem PA(A:Option Addr)(n c:Nat)(es:List mc)(w:World)(h:nx w A n c es)(J:n<=65536)(hl:∀e∈es,CK e.iM e.r.ah):
  Calls w_ 197 #[.slice A n c] w λ e w'=>e=.returned (.int .i64 0)/\Below w.heap.size w w':=by
 have C:=U hl;have s:bI (Calls w_ 261 #[.slice A n c,.func (.func 237) #[] #[]] w λ e w'=>e=.returned (.int .i64 (-1))/\Below w.heap.size w w'):=U (by
  have H:=U h;have K:=Px;clear h hl;go_enter Tryz.func261,Tryz.ntmps261
  go_wp2
  go_loopw [8] (λ i W=>∃k:Nat,k<=n/\i=.int .i64 k/\Below w.heap.size w W) (λ i _=>n-(intOf i).toNat)
  case atStart=>exact⟨0,r_ _,rfl,u_ _ _⟩
  case round=>
   obtain⟨k,hk,rfl,d⟩:=hrel;have f:=U d
   by_cases t:k<n
   ·have g:=H.o.below d;have j:k<es.length:=by rw[H.o.len];exact t
    obtain⟨b,off,rfl,L,D⟩:=g.cells (by omega);obtain⟨l,m,p⟩:=g.Cn t j;have q:=C.o es[k] (c_ j);obtain⟨⟨iM,⟨u,v,y,E⟩⟩,z⟩:∃e,es[k]=e:=⟨_,rfl⟩
    rw[z] at l m p q;replace l:wr.cell? ⟨b,off+k*2,none⟩=some (.int .i64 iM):=l;replace m:wr.cell? ⟨b,off+k*2+1,none⟩=some (.slice u v y):=m;have F:=U (Pz iM u v y E wr p q);clear D g q p z j d
    go_wp2_with (go_at_fn 237;refine F.o.mono ?_;rintro e w' ⟨rfl,B⟩;have G:=U B;clear B)
    go_roundw
    case rel=>exact⟨k+1,by omega,by go_num,f.o.trans (G.o.mono f.o.size)⟩
    case measure=>simp[intOf];omega
   ·clear d;go_wp2;go_ret;exact⟨rfl,f.o⟩)
 have I:bI (Calls w_ 236 #[.slice A n c,.func (.func 237) #[] #[]] w λ e w'=>e=.returned (.bool false)/\Below w.heap.size w w'):=U (by
  clear h hl;go_enter Tryz.func236,Tryz.ntmps236
  go_wp2_with (go_at_call 261;refine s.o.mono ?_;rintro e w' ⟨rfl,d⟩;have f:=U d;clear d)
  go_ret;exact⟨rfl,f.o⟩)
 clear h hl s;go_enter Tryz.func197,Tryz.ntmps197
 have M:¬(65536:Int)<(n:Int):=by omega
 go_wp2_with (go_at_call 236;refine I.o.mono ?_;rintro e w' ⟨rfl,d⟩;have f:=U d;clear d)
 go_ret;exact⟨rfl,f.o⟩
end
section
open Go.RowKit Go.Shelf Go.Lib Go.MapKept Go.ChangeMaps
theorem Es{b:Nat}{es:Array MapEntry}(c:W.heap[b]? =some (.map es clock))(x:Int)(f:Value)(h1:Zv (.int .i64) (.int .i64 x) es.toList 0=some none):
  ∃W',(Instr.mapUpdate 207 (.map (some b)) (.int .i64 x) f).run w_ W=.ok () W'/\W'.heap[b]? =some (.map (es.push ⟨.int .i64 x,f,clock⟩) (clock+1))/\W.grownBy W' (some b):=by
 have hk:Z0 (.int .i64) (.int .i64 x):=by unfold Z0;simp
 refine⟨setBlock W b (.map (es.push ⟨.int .i64 x,f,clock⟩) (clock+1)),?_,heap_setBlock_same c _,⟨rfl,rfl,rfl,by simp[setBlock],λ i _ d=>heap_setBlock_other c _ (λ e=>d (by rw[e]))⟩⟩;simp[Instr.mapUpdate,run_underlying Tryz.underlying207,ZT c,run_checkKey o_ hk,run_findKey o_ h1,MapKept.run_setObj_map _ c,Result.andThen,setBlock]
theorem H9{b:Nat}{es:Array MapEntry}(c:W.heap[b]? =some (.map es clock))(x:Int)(f:Value)(i:Nat)(h1:Zv (.int .i64) (.int .i64 x) es.toList 0=some (some (i,f))):
  (Instr.lookup 207 (.map (some b)) (.int .i64 x) false).run w_ W=.ok f W:=by
 have hk:Z0 (.int .i64) (.int .i64 x):=by unfold Z0;simp
 simp[Instr.lookup,run_underlying Tryz.underlying207,ZT c,run_checkKey o_ hk,run_findKey o_ h1,Result.andThen]
def sG(f:World)(d e:Nat)(W:World)(rs:List Row):Prop:=
 ∃(A:Option Addr)(c:Nat),aO W e 22 [.slice A rs.length c]/\W.ownsRow d 25 1 (.slice A rs.length c) rs.length (rs.map ki)/\aD (λ b=>b<d/\b≠e) f W/\e<d/\d<=f.heap.size
theorem sG.below{kR W W':World}{nk kI:Nat}{rs:List Row}(h:sG kR nk kI W rs)(d:Below W.heap.size W W'):sG kR nk kI W' rs:=by
 obtain⟨A,c,h1,f,e,g,i⟩:=h;exact⟨A,c,h1.below d,lR f d,e.trans (aD.q3 d λ b j=>by have:=e.size;omega),g,i⟩
theorem sG.yq{A:Option Addr}{c:Nat}(h:W.ownsRow nk 25 1 (.slice A rs.length c) rs.length (rs.map ki))(b:∀r∈rs,aQ W r.A r.n r.c r.ah)(hl:rs.length<=65536):nG W A rs.length c rs:=by
 have h1:=lF.lz h b (by omega);refine⟨rfl,h1.cap,h1.mW,h1.o6,λ i=>?_,b⟩;obtain⟨g,cap,e⟩:=yp (k:=rs.length-1) (by rw[show rs.length-1+1=rs.length by omega];exact h);injection e with f l m
 subst f;refine⟨g,0,rfl,(td h rfl).2,λ j u d=>?_⟩;have o:j<rs.length:=by have:=(Z_.1 d).1;simpa using this
 rw[Nat.zero_add,h.cellAt j (by omega)];exact d
structure Et(kR:World)(nk kI wC mm:Nat)(bh:Option Addr)(aS:Nat):Prop where
 p:aO kR wC 144 [.func (.func 198) #[] #[.pointer (some ⟨kI,0,none⟩)]]
 c:aO kR mm 24 [.int .i64 2,.slice bh 2 aS]
 g:∀W,aD (λ b=>b<nk/\b≠kI) kR W->lF W bh 2 aS mZ
 pl:wC<nk/\wC≠kI
 cl:mm<nk/\mm≠kI
def CL(d:World)(e f:Nat)(r:Row):Prop:=∀W,aD (λ b=>b<e/\b≠f) d W->aQ W r.A r.n r.c r.ah
theorem sG.iP(h:sG kR nk kI W rs):aD (λ b=>b<nk/\b≠kI) kR W:=by
 obtain⟨A,c,_,_,d,_⟩:=h;exact d
theorem Ia:∀args w,(callFunc 198 args).run w_ w=.ok (.enter 198 args) w:=enters_of Tryz.func198 (by kernel_rfl) rfl
theorem Ib(u:World)(k l:Nat)(W:World)(rs:List Row)(h:sG u k l W rs)(r:Row)(v:aQ W r.A r.n r.c r.ah)(hl:rs.length<=65536):
  Calls w_ 198 #[.slice r.A r.n r.c,.pointer (some ⟨l,0,none⟩)] W λ e W'=>e=.returned (.tuple #[])/\sG u k l W' (rs++[r]):=by
 obtain⟨g,i,rc,m⟩:=r;obtain⟨A,c,h1,w,s,y,z⟩:=h;have d:=bK W (.cells #[.slice g i rc] 25);have D:=U (nG.yf W ⟨g,i,rc,m⟩ v);have c0:=h1.cell 0;simp only[z_] at c0;have t:=U (lR w d);have f:=U (x_ s (x_ y (x_ z hl)));have E:=U (h1.below d);have F:=U d;have G:k<=(W.alloc (.cells #[.slice g i rc] 25)).heap.size:=by have:=s.size;simp;omega
 clear d h1 w s y z v hl;go_enter Tryz.func198,Tryz.ntmps198
 go_wp2_with (at_builtin;refine CW rfl (.tmp 3) (.tmp 5) rfl k (.slice A rs.length c) rs.length rs rfl t.o (some ⟨W.heap.size,0,none⟩) 1 1 [⟨g,i,rc,m⟩] rfl D.o (by have:=f.o.2.2.2;omega) G ?_;intro v2 N p;obtain⟨⟨B,C,c2⟩,H,j⟩:=aq.lz p.1;obtain rfl:v2=.slice B C c2:=H;have I:=U p;have J:=U j;have q:=E.o.kept p.2.1 (λ e=>by have:=(td t.o e.symm).1;have:=f.o.2.1;omega);have K:=q.cell 0;have f2:=q.free 0;simp only[z_] at K;have L:=U q;clear p j q)
 go_end0;obtain⟨g1,g2,g3⟩:=I.o;have j:C=(rs++[(⟨g,i,rc,m⟩:Row)]).length:=by rw[j_];exact J.o
 have M:rs.length+1=(rs++[(⟨g,i,rc,m⟩:Row)]).length:=by simp
 rw[j,M] at g1;rw[j];refine⟨rfl,B,c2,L.o.set 0 _,ownsRow_setCell_below g1 f.o.2.1 _,?_,f.o.2.1,f.o.2.2.1⟩;have O:=f.o.1.size;have P:=f.o.2.2.1;refine f.o.1.trans ((aD.q3 F.o λ b d=>by omega).trans ((aD.grown g2 (λ b d=>by simp;omega) (λ b e d=>?_)).trans (aD.set l 0 _ (λ d=>d.2 rfl))));have:=(td t.o e).1;omega
theorem PB{aS:Nat}(V:Et kR nk kI wC mm bh aS)(W:World)(rs:List Row)(h:sG kR nk kI W rs)(r:Row)(d:CL kR nk kI r)(hl:rs.length<=65536)(a:Int)(i:a=1\/a= -1)(z:r.ah=[a,2]):
  Calls w_ 199 #[.slice r.A r.n r.c,.pointer (some ⟨wC,0,none⟩),.pointer (some ⟨mm,0,none⟩)] W λ e W'=>e=.returned (.bool true)/\sG kR nk kI W' (rs++[r]):=by
 have C:=U (Ib kR nk kI W rs h r (d W h.iP) hl);have D:=(h.iP.blk V.p V.pl).cell 0;simp only[z_] at D;have b:=U V;have E:=U d;obtain⟨l,m,rc,F⟩:=r;obtain rfl:F=[a,2]:=z;have j:aQ W l m rc [a,2]:=d W h.iP;have G:m=2:=j.len.symm;subst G;obtain⟨q,off,he,_⟩:=j.cells (by omega);obtain rfl:l=some ⟨q,off,none⟩:=he;have H:(mZ.any λ ah=>decide (ah=[a,2]))=true:=by rcases i with rfl|rfl<;>decide
 have Q:=Ia;clear h d V j hl;go_enter Tryz.func199,Tryz.ntmps199
 go_upto_region 2 with(go_at_fn 198;refine C.o.mono ?_;rintro e I ⟨rfl,h1⟩;have H1:=U (h1.below ((u_ _ _).drew));have k:=U H1.o.iP;have c3:=(k.o.blk b.o.c b.o.cl).cell 0;have c4:=(k.o.blk b.o.c b.o.cl).cell 1;simp only[z_,y_] at c3 c4;have J:=U (Pt q off rc a i I.drew (E.o _ k.o));clear h1)
 rename_i K s;have L:=U s;clear s;refine wp_region_noPanic ?_
 go_region_with (first
  |(go_at_call 200;refine J.o.mono ?_;rintro e t ⟨B,g,cap,rfl,u,v,w⟩;have f:=U (H1.o.below w);have M:=(f.o.iP.blk b.o.c b.o.cl).cell 0;have N:=(f.o.iP.blk b.o.c b.o.cl).cell 1;simp only[z_,y_] at M N;have O:=U (Pq 240 #[.pointer (some ⟨B,0,none⟩)] (λ ah=>decide (ah=[a,2])) Pr bh 2 aS mZ t (b.o.g _ f.o.iP) (Pu a i B g cap t u v));clear u v w)
  |(go_at_call 119;refine O.o.mono ?_;rw[H];rintro e R ⟨rfl,y⟩;have P:=U (f.o.below y);clear y))
 all_goals
  show K _ _;apply L.o
  go_wp2_with fail
  go_ret;exact⟨rfl,P.o⟩
theorem PC{aS:Nat}(V:Et kR nk kI wC mm bh aS)(W:World)(rs:List Row)(h:sG kR nk kI W rs)(g:∀x∈rs,CL kR nk kI x)(r:Row)(d:CL kR nk kI r)(hl:rs.length<=1000)
  (i:∀r∈rs,∀x∈r.ah,gU 2 x) (j:[1,2]∈rs.map (·.ah)) (k:[-1,2]∈rs.map (·.ah)) (l:∀x∈r.ah,gU 2 x) (m:pL mZ r.ah):
  Calls w_ 201 #[.slice r.A r.n r.c,.pointer (some ⟨kI,0,none⟩),.pointer (some ⟨wC,0,none⟩)] W λ e W'=>e=.returned (.bool true)/\sG kR nk kI W' (rs++[r]):=by
 obtain⟨A,c,h1,b,f,u,v⟩:=id h;have c0:=h1.cell 0;simp only[z_] at c0;have w:=U (H7 W A rs.length c rs (sG.yq b (λ x y=>g x y W f) (by omega)) (by omega) i j k r.A r.n r.c r.ah (d W f) l m);have H:=U h;have q:=U V;have z:=U d;have I:=Ia;clear h d V h1 b f u v g i j k l m;obtain⟨B,C,rc,D⟩:=r;go_enter Tryz.func201,Tryz.ntmps201
 go_wp2_with (first
  |(go_at_call 202;refine w.o.mono ?_;rintro e s ⟨rfl,t⟩;have H1:=U (H.o.below t);have E:=(H1.o.iP.blk q.o.p q.o.pl).cell 0;simp only[z_] at E;have F:=U (Ib kR nk kI s rs H1.o ⟨B,C,rc,D⟩ (z.o s H1.o.iP) (by omega));clear t)
  |(go_at_fn 198;refine F.o.mono ?_;rintro e J ⟨rfl,b⟩;have G:=U b;clear b))
 go_ret;exact⟨rfl,G.o⟩
end
section
open Go.RowKit Go.Shelf Go.Lib
theorem PD:∀args w,(callFunc 199 args).run w_ w=.ok (.enter 199 args) w:=enters_of Tryz.func199 (by kernel_rfl) rfl
theorem PE:∀args w,(callFunc 201 args).run w_ w=.ok (.enter 201 args) w:=enters_of Tryz.func201 (by kernel_rfl) rfl
theorem PF{co:List Int}(h:co.Sublist [1,-2]):co=[]\/co=[1]\/co=[-2]\/co=[1,-2]:=by
 rcases Zi.1 h with h1|⟨r,d,h1⟩
 ·rcases Zi.1 h1 with b|⟨r,c,b⟩
  ·exact .inl (Zk.1 b)
  ·rw[c,Zk.1 b];exact .inr (.inr (.inl rfl))
 ·rcases Zi.1 h1 with b|⟨r',c,b⟩
  ·rw[d,Zk.1 b];exact .inr (.inl rfl)
  ·rw[d,c,Zk.1 b];exact .inr (.inr (.inr rfl))
theorem PG{co:List Int}(h:co.Sublist [1,-2]){k:Nat}(hk:k<co.length):(iJ co k=1\/iJ co k= -2)/\hasB (co.take k) (iJ co k)=false/\hasB (co.take k) (-(iJ co k))=false:=by
 rcases PF h with rfl|rfl|rfl|rfl
 ·simp at hk
 ·obtain rfl:k=0:=by simpa using hk
  decide
 ·obtain rfl:k=0:=by simpa using hk
  decide
 ·rcases(show k=0\/k=1 by simp at hk;omega) with rfl|rfl<;>decide
theorem PI{F:List (List Int)}{co:List Int}(hl:∀x∈co,x≠0)(h:¬Can F co):pL F (co.map λ x=> -x):=by
 intro M b;refine Classical.byContradiction λ d=>h ⟨M,b,λ x c=>?_⟩
 cases e:M x with
 |true=>rfl
 |false=>
  refine absurd ⟨-x,p_.2 ⟨x,c,rfl⟩,?_⟩ d;rw[b.1 x (hl x c),e];rfl
theorem PJ(bh:Option Addr)(aS:Nat)(aw:Option Addr)(v ax:Nat)(z B:mc)(rest:List mc)(aX:Option Addr)(C aa:Nat)(co:List Int)(w:World)(ay:lF w bh 2 aS mZ)(hp:nx w aw v ax (z::B::rest))(aY:z.iM=1/\z.r.ah=[1,2])(k2:B.iM=1/\B.r.ah=[-1,2])
  (ch:v<=1000) (E:∀e∈z::B::rest,uG mZ 2 e.iM e.r.ah) (az:aQ w aX C aa co) (aA:co.Sublist [1,-2]) (hu:¬Can mZ co):
  Calls w_ 161 #[.agg #[.int .i64 2,.slice bh 2 aS],.slice aw v ax,.slice aX C aa] w λ e w'=>e=.returned (.int .i64 0)/\Below w.heap.size w w':=by
 have cj:C<=2:=by have:=aA.length_le;rw[az.len] at this;simpa using this
 obtain⟨es,F⟩:∃es,z::B::rest=es:=⟨_,rfl⟩
 have G:=bK w (.cells #[.int .i64 2,.slice bh 2 aS] 24);have I:=aO.new w 24 [.int .i64 2,.slice bh 2 aS];have aZ:kZ 2 mZ=0:=by decide
 have a6:=U (vN 2 bh 2 aS mZ _ (ay.below G));rw[aZ] at a6;have a7:∀e∈es,CK e.iM e.r.ah:=λ e he=>by
  have h:=E e (by rw[F];exact he);refine⟨?_,λ x g=>(h.2 x g).up (by omega)⟩;have:=h.iM;omega
 rw[F] at hp;have H:=U (x_ (ay.below G) (x_ (hp.below G) (az.below G)));have a8:=U G;have d:=U (x_ F (x_ aY (x_ k2 (x_ E (x_ aA (x_ hu a7))))));have I:=U I;have u:w.heap.size<(w.alloc (.cells #[.int .i64 2,.slice bh 2 aS] 24)).heap.size:=by simp
 clear ay hp aY k2 E az aA hu G F a7 aZ;go_enter Tryz.func161,Tryz.ntmps161
 go_upto_region 1 with fail
 change bI (aO (w.alloc (.cells #[.int .i64 2,.slice bh 2 aS] 24)) _ _ _) at I;generalize w.alloc (.cells #[.int .i64 2,.slice bh 2 aS] 24)=W at*;have t0:=I.o.cell 0;have t1:=I.o.cell 1;simp only[z_,y_] at t0 t1
 go_upto_region 4 with(go_at_call 107;refine a6.o.mono ?_;rintro e bJ ⟨rfl,O⟩;have aB:=U O;clear O t0 t1)
 have bL:=U (PA aw v ax es bJ (H.o.2.1.below aB.o) (by omega) d.o.2.2.2.2.2.2)
 go_upto_region 7 with(go_at_call 197;refine bL.o.mono ?_;rintro e ck ⟨rfl,P⟩;have bM:=U (aB.o.trans (P.mono aB.o.size));clear P)
 go_wp2_with fail
 go_loopw [9,29] (λ q i V=>∃(k:Nat)(A:Option Addr)(c:Nat),i=.int .i64 k/\k<=C/\q=.slice A k c/\V.ownsRow W.heap.size 3 1 (.slice A k c) k (((co.take k).map λ x=> -x).map (Value.int .i64))/\Below W.heap.size W V) (λ _ i _=>C-(intOf i).toNat)
 case atStart=>exact⟨0,none,0,rfl,r_ _,rfl,Zu _ _ _ _,bM.o⟩
 case round=>
  obtain⟨k,A,c,rfl,hk,rfl,a',ab⟩:=hrel;have ad:=U a';have m:=U ab;have y:=(I.o.below ab).cell;have t0:=y 0;have t1:=y 1;simp only[z_,y_] at t0 t1;clear a' ab y
  by_cases n:k<C
  ·have ae:(k:Int)<(C:Int):=by omega
   have bN:q_.wrap ((k:Int)+1)=(k:Int)+1:=by rw[s_];omega
   have Q:=H.o.2.2.below m.o;have aC:=Q.take (k:=k) hk;have cm:=Q.cap;have cn:=Q.o6;obtain⟨ba,off,rfl,bO,bb⟩:=Q.cells (by omega);have bP:=bb k n;have p:k<co.length:=by rw[Q.len];exact n
   obtain⟨g,aE,aF⟩:=PG d.o.2.2.2.2.1 p;have bc:=U (s9 co k p);obtain⟨x,bd⟩:∃x,iJ co k=x:=⟨_,rfl⟩
   rw[bd] at bP g aE aF bc;have bQ:=U (D2 false (some ⟨ba,off,none⟩) k aa (co.take k) x wr aC aE);have bR:=U (D2 false (some ⟨ba,off,none⟩) k aa (co.take k) (-x) wr aC aF);have cp:¬x=0:=by omega
   have cq:¬(2:Int)<x:=by omega
   have cr:¬x< -2:=by omega
   have wn:q_.wrap (-x)= -x:=by rw[s_];omega
   have bS:=U (aQ.lit wr [-x] 1 _ rfl rfl (by omega));have bf:=U (lR ad.o (bK wr (mD [-x])));have af:=U (x_ (bK wr (mD [-x])) n);have bg:W.heap.size<=(wr.alloc (mD [-x])).heap.size:=by have:=m.o.size;have:=af.o.1.size;omega
   clear Q aC bO bb p g aE aF bd n hk
   go_wp2_with (first
    |(go_at_call 124;with_reducible refine bQ.o.mono ?_;rintro e w' ⟨rfl,rfl⟩)
    |(go_at_call 124;with_reducible refine bR.o.mono ?_;rintro e w' ⟨rfl,rfl⟩)
    |(at_builtin;refine vq rfl (.tmp 64) (.tmp 67) rfl W.heap.size (.slice A k c) k ((co.take k).map λ x=> -x) rfl bf.o (some ⟨wr.heap.size,0,none⟩) 1 1 [-x] rfl bS.o (by omega) bg ?_;intro v9 di R;obtain⟨⟨ag,bj,c2⟩,bT,ai⟩:=aq.lz R.1;obtain rfl:v9=.slice ag bj c2:=bT;have bU:=U (x_ R ai);clear R ai))
   go_roundw
   case rel=>
    obtain⟨⟨g1,g2,g3⟩,ai⟩:=bU.o;obtain rfl:bj=k+1:=ai;refine⟨k+1,ag,c2,by go_num,by have:=af.o.2;omega,rfl,?_,(m.o.trans (af.o.1.mono m.o.size)).grown g2 bg (λ b e=>(td bf.o e).1)⟩;rw[bc.o,Zh];exact g1
   case measure=>have:=af.o.2;simp[intOf];omega
  ·obtain rfl:k=C:=by omega
   have ae:¬(k:Int)<(k:Int):=by omega
   have X:co.take k=co:=n_ (by rw[H.o.2.2.len];omega);rw[X] at ad;clear t0 t1 X;have bk:=aO.new wr 22 [.slice none 0 0];have O:=bK wr (.cells #[.slice none 0 0] 22);have bl:=aO.new (wr.alloc (.cells #[.slice none 0 0] 22)) 144 [.func (.func 198) #[] #[.pointer (some ⟨wr.heap.size,0,none⟩)]];have P:=bK (wr.alloc (.cells #[.slice none 0 0] 22)) (.cells #[.func (.func 198) #[] #[.pointer (some ⟨wr.heap.size,0,none⟩)]] 144);have aj:(wr.alloc (.cells #[.slice none 0 0] 22)).heap.size=wr.heap.size+1:=by simp
   have ak:((wr.alloc (.cells #[.slice none 0 0] 22)).alloc (.cells #[.func (.func 198) #[] #[.pointer (some ⟨wr.heap.size,0,none⟩)]] 144)).heap.size=wr.heap.size+2:=by simp
   have D:=U (x_ (bk.below P) (x_ bl (O.trans (P.mono O.size))));have ct:∀(fn:Fn)(first cap:Array Value)(w:World),(ZR fn first cap).run w_ w=.ok (.func fn first cap) w:=λ _ _ _ _=>rfl
   have cu:= @run_makeMap w_;have aG:=U (x_ aj ak);clear bk bl O P aj ak
   go_upto_region 17 with fail
   change bI (aO ((wr.alloc (.cells #[.slice none 0 0] 22)).alloc (.cells #[.func (.func 198) #[] #[.pointer (some ⟨wr.heap.size,0,none⟩)]] 144)) wr.heap.size _ _/\aO ((wr.alloc (.cells #[.slice none 0 0] 22)).alloc (.cells #[.func (.func 198) #[] #[.pointer (some ⟨wr.heap.size,0,none⟩)]] 144)) (wr.alloc (.cells #[.slice none 0 0] 22)).heap.size _ _/\_) at D;rw[aG.o.1] at D;generalize (wr.alloc (.cells #[.slice none 0 0] 22)).alloc (.cells #[.func (.func 198) #[] #[.pointer (some ⟨wr.heap.size,0,none⟩)]] 144)=s at*;obtain⟨cv,bV,bn,g1⟩:=Es (W:=s.alloc (.map #[] 0)) (b:=s.heap.size) (es:= #[]) (clock:=0) (World.alloc_heap_new s _) 1 (.func (.func 199) #[] #[.pointer (some ⟨wr.heap.size+1,0,none⟩),.pointer (some ⟨w.heap.size,0,none⟩)]) (by simp[Zv]);obtain⟨M2,bW,bo,g2⟩:=Es bn 2 (.func (.func 201) #[] #[.pointer (some ⟨wr.heap.size,0,none⟩),.pointer (some ⟨wr.heap.size+1,0,none⟩)]) (by simp[Zv,Z3]);obtain⟨l,bX,aH,g3⟩:=Es bo 3 (.func (.func 203) #[] #[.pointer (some ⟨wr.heap.size,0,none⟩)]) (by simp[Zv,Z3]);have S:s.grownBy l (some s.heap.size):=(CU (CU (ZM s _ none|>.but _) g1) (CU g2 g3))
   have J:Below s.heap.size s l:=⟨S.os,S.tape,S.output,S.size,λ k hk=>S.block k hk (λ e=>by injection e with e;omega)⟩
   have bY:=J.size;have aj:=aG.o.1;have ak:=aG.o.2;have bZ:=m.o.size;have b0:=U aH;have bp:=(I.o.below (m.o.trans (D.o.2.2.mono m.o.size))).below J;have bq:Below W.heap.size W l:=(m.o.trans (D.o.2.2.mono m.o.size)).trans (J.mono (m.o.trans (D.o.2.2.mono m.o.size)).size);have al:∀W',aD (λ b=>b<l.heap.size/\b≠wr.heap.size) l W'->Below W.heap.size W W':=λ W' f=>bq.trans (f.below λ b G=>⟨by omega,by omega⟩)
   have br:bI (Et l l.heap.size wr.heap.size (wr.heap.size+1) w.heap.size bh aS):=U ⟨D.o.2.1.below J,bp,λ W' f=>H.o.1.below (al W' f),⟨by omega,by omega⟩,⟨by omega,by omega⟩⟩;have b1:bI (sG l l.heap.size wr.heap.size l []):=U ⟨none,0,D.o.1.below J,Zu _ _ _ _,aD.refl,by omega,t_ _⟩;have aI:bI (∀e∈es,CL l l.heap.size wr.heap.size e.r):=U λ e he W' f=>(H.o.2.1.rows e he).below (al W' f)
   have bs:=U al;have b2:bI (∀W',aD (λ b=>b<l.heap.size/\b≠wr.heap.size) l W'->aQ W' A k c (co.map λ x=> -x)):=U λ W' f=>by
    have bt:=lR (lR ad.o D.o.2.2) J;refine aQ.lz (mP bt λ b e=>f.keep b ⟨(td bt e).2,λ cw=>?_⟩) (by omega);have:=(td ad.o e).2;omega
   have b3:bI (s.heap.size<l.heap.size/\s.heap.size≠wr.heap.size):=U ⟨(Array.getElem?_eq_some_iff.1 aH).1,by omega⟩;clear aj ak S J g1 g2 g3 bn bo aH al bp bq ae n hk bZ
   go_upto_region 18 with fail
   clear bV bW bX;clear bY;generalize wr.heap.size=an at*;generalize s.heap.size=b4 at*
   go_wp2_with fail
   go_loopw [78] (λ i V=>∃j:Nat,i=.int .i64 j/\j<=v/\sG l l.heap.size an V ((es.take j).map (·.r))) (λ i _=>v-(intOf i).toNat)
   case atStart=>exact⟨0,rfl,r_ _,b1.o⟩
   case round=>
    obtain⟨j,rfl,bu,T⟩:=hrel
    by_cases n:j<v
    ·have Y:=bs.o wr T.iP;have ae:(j:Int)<(v:Int):=by omega
     have bN:q_.wrap ((j:Int)+1)=(j:Int)+1:=by rw[s_];omega
     have aJ:=H.o.2.1.below Y;have p:j<es.length:=by rw[H.o.2.1.len];exact n
     have aK:=aI.o es[j] (c_ p);have E:=d.o.2.2.2.1 es[j] (by rw[d.o.1];exact c_ p);have aL:(es.take (j+1)).map (·.r)=(es.take j).map (·.r)++[es[j].r]:=by rw[Zj p,Zh];rfl
     have aM:j<2->es[j].iM=1:=λ cx=>by
      have h:=d.o.1;have b5:es[j]=(z::B::rest)[j]'(by rw[h];exact p):=by simp[h]
      rw[b5];rcases(show j=0\/j=1 by omega) with rfl|rfl
      ·exact d.o.2.1.1
      ·exact d.o.2.2.1.1
     obtain⟨b,off,rfl,ab,b6⟩:=aJ.cells (by omega);obtain⟨ao,ar,bw⟩:=aJ.Cn n p;obtain⟨⟨iM,⟨K,L,M,au⟩⟩,F⟩:∃e,es[j]=e:=⟨_,rfl⟩
     rw[F] at ao ar bw aK E aL aM;replace ao:wr.cell? ⟨b,off+j*2,none⟩=some (.int .i64 iM):=ao;replace ar:wr.cell? ⟨b,off+j*2+1,none⟩=some (.slice K L M):=ar;have t:=U (x_ aK (x_ E (x_ aL (x_ aM (x_ n p)))));have b7:=U T;clear b6 aJ aK E aL aM T Y bw F p bu
     go_upto_region 21 with fail
     have lD:aO (wr.alloc (.cells #[.int .i64 iM,.slice K L M] 126)) wr.heap.size 126 [.int .i64 iM,.slice K L M]:=aO.new wr 126 _;have bx:=bK wr (.cells #[.int .i64 iM,.slice K L M] 126);have aN:=U (b7.o.below bx);generalize wr.alloc (.cells #[.int .i64 iM,.slice K L M] 126)=bz at*;have t0:=lD.cell 0;have t1:=lD.cell 1;simp only[z_,y_] at t0 t1;have av:=(aN.o.iP.keep b4 b3.o).trans b0.o;have aP:((es.take j).map (·.r)).length<=1000:=by rw[Zf,List.length_take,H.o.2.1.len];omega
     clear lD bx ao ar n;rcases t.o.2.1.1 with⟨aR,u⟩|⟨aT,bA⟩
     ·replace aR:iM=1:=aR;subst aR;have b8:=H9 av 1 (.func (.func 199) #[] #[.pointer (some ⟨an+1,0,none⟩),.pointer (some ⟨w.heap.size,0,none⟩)]) 0 (by simp[Zv,Z3]);obtain⟨a,R,bB⟩:∃a:Int,(a=1\/a= -1)/\au=[a,2]:=by
       have u:au∈mZ:=u;unfold mZ at u;rcases List.mem_cons.1 u with h|h
       ·exact⟨1,.inl rfl,h⟩
       ·exact⟨-1,.inr rfl,i_.1 h⟩
      have b9:=U (PB br.o bz _ aN.o ⟨K,L,M,au⟩ t.o.1 (by omega) a R bB);have b':=PD;clear u R bB aP av
      go_wp2_with (go_at_fn 199;refine b9.o.mono ?_;rintro e ca ⟨rfl,Z⟩;have aU:=U Z;clear Z)
      go_roundw
      case rel=>exact⟨j+1,by go_num,by have:=t.o.2.2.2.2.1;omega,by rw[t.o.2.2.1];exact aU.o⟩
      case measure=>have:=t.o.2.2.2.2.1;simp[intOf];omega
     ·replace aT:iM=2:=aT;subst aT;have cc:2<=j:=by
       rcases Nat.lt_or_ge j 2 with h|h
       ·exact absurd (show(2:Int)=1 from t.o.2.2.2.1 h) (by decide)
       ·exact h
      have b8:=H9 av 2 (.func (.func 201) #[] #[.pointer (some ⟨an,0,none⟩),.pointer (some ⟨an+1,0,none⟩)]) 1 (by simp[Zv,Z3]);obtain⟨i2,bC⟩:∃q,j=q+2:=⟨j-2,by omega⟩
      have N:∀ah,ah=z.r.ah\/ah=B.r.ah->ah∈((es.take j).map (·.r)).map (·.ah):=λ ah u=>by
       rw[<-d.o.1,bC];rcases u with rfl|rfl<;>simp
      have qq:=U (PC br.o bz _ aN.o (λ x g=>by
        obtain⟨e,he,rfl⟩:=p_.1 g;exact aI.o e (ZO he)) ⟨K,L,M,au⟩ t.o.1 aP (λ r aV x g=>by
        obtain⟨e,he,rfl⟩:=p_.1 aV;exact(d.o.2.2.2.1 e (by rw[d.o.1];exact ZO he)).2 x g) (N _ (.inl d.o.2.1.2.symm)) (N _ (.inr d.o.2.2.1.2.symm)) t.o.2.1.2 bA)
      have b':=PE;clear bA aP av N bC cc
      go_wp2_with (go_at_fn 201;refine qq.o.mono ?_;rintro e ca ⟨rfl,Z⟩;have aU:=U Z;clear Z)
      go_roundw
      case rel=>exact⟨j+1,by go_num,by have:=t.o.2.2.2.2.1;omega,by rw[t.o.2.2.1];exact aU.o⟩
      case measure=>have:=t.o.2.2.2.2.1;simp[intOf];omega
    ·obtain rfl:j=v:=by omega
     have ae:¬(j:Int)<(j:Int):=by omega
     have X:es.take j=es:=n_ (by rw[H.o.2.1.len];omega);rw[X] at T;have cd:=T;obtain⟨ag,c2,g1,g2,g3,g4,g5⟩:=T;have bD:=g1.cell 0;simp only[z_] at bD;have N:∀ah,ah=z.r.ah\/ah=B.r.ah->ah∈(es.map (·.r)).map (·.ah):=λ ah u=>by
      rw[<-d.o.1];rcases u with rfl|rfl<;>simp
     have bE:(es.map (·.r)).length<=1000:=by rw[Zf,H.o.2.1.len];omega
     have aW:∀x∈co,x=1\/x= -2:=λ x g=>by
      have:=d.o.2.2.2.2.1.subset g;simpa using this
     have bF:=U (H7 wr ag (es.map (·.r)).length c2 (es.map (·.r)) (sG.yq g2 (λ x g=>by
        obtain⟨e,he,rfl⟩:=p_.1 g;exact aI.o e he wr g3) (by omega)) bE (λ r aV x g=>by
        obtain⟨e,he,rfl⟩:=p_.1 aV;exact(d.o.2.2.2.1 e (by rw[d.o.1];exact he)).2 x g) (N _ (.inl d.o.2.1.2.symm)) (N _ (.inr d.o.2.2.1.2.symm)) A k c (co.map λ x=> -x) (b2.o wr g3) (λ x g=>by
        obtain⟨y,cf,rfl⟩:=p_.1 g;rcases aW y cf with rfl|rfl<;>exact⟨by decide,by decide⟩) (PI (λ x g=>by rcases aW x g with rfl|rfl<;>decide) d.o.2.2.2.2.2.1))
     have Y:=U (a8.o.trans ((bs.o wr g3).mono a8.o.size));obtain⟨q,bG⟩:∃q,(es.map (·.r)).length=q:=⟨_,rfl⟩
     rw[bG] at bF bD;clear cd g1 g2 g3 N bE aW X bu n bG
     go_wp2_with (go_at_call 202;with_reducible refine bF.o.mono ?_;rintro e di ⟨rfl,bH⟩;have cg:=U bH;clear bH)
     go_ret;exact⟨rfl,Y.o.trans (cg.o.mono Y.o.size)⟩
theorem PK(bh:Option Addr)(aS:Nat)(i:Option Addr)(f j:Nat)(b c:mc)(rest:List mc)(k:Option Addr)(l m:Nat)(co:List Int)(w:World)(n:lF w bh 2 aS mZ)(hp:nx w i f j (b::c::rest))(p:b.iM=1/\b.r.ah=[1,2])(k2:c.iM=1/\c.r.ah=[-1,2])
  (y:f<=1000) (q:∀e∈b::c::rest,uG mZ 2 e.iM e.r.ah) (s:aQ w k l m co) (t:co.Sublist [1,-2]) (hu:¬Can mZ co):
  Calls w_ 102 #[.agg #[.int .i64 2,.slice bh 2 aS],.slice i f j,.slice k l m] w λ e w'=>e=.returned (.bool true)/\Below w.heap.size w w':=by
 have d:=bK w (.cells #[.int .i64 2,.slice bh 2 aS] 24);have g:=aO.new w 24 [.int .i64 2,.slice bh 2 aS];have z:=U (PJ bh aS i f j b c rest k l m co _ (n.below d) (hp.below d) p k2 y q (s.below d) t hu);have u:=U d;clear n hp p k2 q s t hu d;go_enter Tryz.func102,Tryz.ntmps102
 go_upto_region 1 with fail
 change aO (w.alloc (.cells #[.int .i64 2,.slice bh 2 aS] 24)) _ _ _ at g;generalize w.alloc (.cells #[.int .i64 2,.slice bh 2 aS] 24)=W at*;have t0:=g.cell 0;have t1:=g.cell 1;simp only[z_,y_] at t0 t1;clear g
 go_wp2_with (go_at_call 161;refine z.o.mono ?_;rintro e B ⟨rfl,v⟩;have A:=U v;clear v)
 go_ret;exact⟨rfl,u.o.trans (A.o.mono u.o.size)⟩
theorem PL(w:World):Calls w_ 40 #[] w λ e w'=>e=.returned (.bool true)/\Below w.heap.size w w':=by
 have b4:bI (Calls w_ 42 #[.int .i64 2] w λ e W=>∃t:iW,e=.returned (sE t 0)/\nj (λ _=>False) W 2 (r8 2) t/\Below w.heap.size w W):=U (OJ (D:=λ _=>False) 2 (by omega) w (λ _ h=>h.elim));have b5:=U OV;simp only[iW.L,nS,mM] at b5;go_enter Tryz.func40,Tryz.ntmps40
 go_upto_region 2 with(go_at_call 42;refine b4.o.mono ?_;rintro e al ⟨t1,rfl,h1,aa⟩;have H1:=U (x_ h1 aa);clear h1 aa;unfold sE iW.L)
 have an:=aO.new al 47 t1.L;have bk:=bK al (.cells t1.L.toArray 47);have av:nj (λ b=>b=al.heap.size) (al.alloc (.cells t1.L.toArray 47)) 2 (r8 2) t1:=H1.o.1.more bk (λ b bl e=>absurd bl (by rw[e];exact Nat.lt_irrefl _));have aa:=H1.o.2.trans (bk.mono H1.o.2.size);have bn:=H1.o.2.size;have aw:=an.lt;simp only[iW.L] at an av aa aw;generalize al.alloc (.cells #[.int .i64 t1.n,.slice t1.g.A t1.g.n t1.g.c,.slice t1.l.A t1.l.n t1.l.c,.slice t1.a.A t1.a.n t1.a.c,.slice t1.o.A t1.o.n t1.o.c,.int .i64 t1.b,.slice t1.h.A t1.h.n t1.h.c,.slice t1.p.A t1.p.n t1.p.c] 47)=bo at an av aa aw⊢;generalize al.heap.size=j at an av aw bn⊢;clear bk H1 b4;have b6:=U (x_ bn aw);clear bn aw;have ao:=U (x_ (an) (x_ (av) (aa)));clear an av aa;have d:=(ao.o.1).cell;have q:=d 0;have u:=d 1;have v:=d 2;have y:=d 3;have z:=d 4;have C:=d 5;have E:=d 6;have F:=d 7;simp only[iW.L,lu.L,z_,y_] at q u v y z C E F;clear d;have bp:=U (HZ ao.o.2.1 (ao.o.1.lt) (by omega) [1,2] 2 rfl (by omega) (by decide) (by simp[r8]));simp only[iW.L,mD,Zr,Zn] at bp;have aU:∀W,Below bo.heap.size bo W->aO W j 47 [.int .i64 t1.n,.slice t1.g.A t1.g.n t1.g.c,.slice t1.l.A t1.l.n t1.l.c,.slice t1.a.A t1.a.n t1.a.c,.slice t1.o.A t1.o.n t1.o.c,.int .i64 t1.b,.slice t1.h.A t1.h.n t1.h.c,.slice t1.p.A t1.p.n t1.p.c]:=λ W h=>(show aO bo j 47 [.int .i64 t1.n,.slice t1.g.A t1.g.n t1.g.c,.slice t1.l.A t1.l.n t1.l.c,.slice t1.a.A t1.a.n t1.a.c,.slice t1.o.A t1.o.n t1.o.c,.int .i64 t1.b,.slice t1.h.A t1.h.n t1.h.c,.slice t1.p.A t1.p.n t1.p.c] from ao.o.1).below h
 go_upto_region 3 with(go_at_call 46;refine bp.o.mono ?_;rintro e ax ⟨t2,s2,ay,rfl,f,K⟩;have H:=(aU ax f).free;have bq:=H 0;have br:=H 1;have bs:=H 2;have bt:=H 3;have bu:=H 4;have bw:=H 5;have bx:=H 6;have bz:=H 7;clear H;have I:=(aU ax f).cell;have az:=I 0;have aB:=I 1;have aC:=I 2;have aE:=I 3;have aG:=I 4;have aH:=I 5;have aI:=I 6;have aJ:=I 7;simp only[z_,y_] at az aB aC aE aG aH aI aJ;clear I;have qd:=U (x_ f K);clear f K q u v y z C E F;unfold sE iW.L)
 clear bq br bs bt bu bw bx bz az aB aC aE aG aH aI aJ;have aV:=aD.eight (W:=ax) (B:=j) (.int .i64 t2.n) (.slice t2.g.A t2.g.n t2.g.c) (.slice t2.l.A t2.l.n t2.l.c) (.slice t2.a.A t2.a.n t2.a.c) (.slice t2.o.A t2.o.n t2.o.c) (.int .i64 t2.b) (.slice t2.h.A t2.h.n t2.h.c) (.slice t2.p.A t2.p.n t2.p.c);have bA:=aO.zn (aU ax qd.o.1) (.int .i64 t2.n) (.slice t2.g.A t2.g.n t2.g.c) (.slice t2.l.A t2.l.n t2.l.c) (.slice t2.a.A t2.a.n t2.a.c) (.slice t2.o.A t2.o.n t2.o.c) (.int .i64 t2.b) (.slice t2.h.A t2.h.n t2.h.c) (.slice t2.p.A t2.p.n t2.p.c);have bB:=qd.o.2.1.set (B:=j) rfl aV;have f:=HS (ao.o.2.2.trans (qd.o.1.mono ao.o.2.2.size)) aV b6.o.1;generalize (((((((ax.setCell ⟨j,0,none⟩ (.int .i64 t2.n)).setCell ⟨j,1,none⟩ (.slice t2.g.A t2.g.n t2.g.c)).setCell ⟨j,2,none⟩ (.slice t2.l.A t2.l.n t2.l.c)).setCell ⟨j,3,none⟩ (.slice t2.a.A t2.a.n t2.a.c)).setCell ⟨j,4,none⟩ (.slice t2.o.A t2.o.n t2.o.c)).setCell ⟨j,5,none⟩ (.int .i64 t2.b)).setCell ⟨j,6,none⟩ (.slice t2.h.A t2.h.n t2.h.c)).setCell ⟨j,7,none⟩ (.slice t2.p.A t2.p.n t2.p.c)=bC at aV bA bB f⊢;have aq:=U (x_ (bA) (x_ (bB) (f)));clear aV bA bB f aU bp;have bD:s2.gs=[[1,2]]:=qd.o.2.2.1;have b7:s2.aA=[ay]:=qd.o.2.2.2.1;have d:=(aq.o.1).cell;have q:=d 0;have u:=d 1;have v:=d 2;have y:=d 3;have z:=d 4;have C:=d 5;have E:=d 6;have F:=d 7;simp only[iW.L,lu.L,z_,y_] at q u v y z C E F;clear d;have bE:=U (HZ aq.o.2.1 (aq.o.1.lt) (by omega) [-1,2] 2 rfl (by omega) (by decide) (by rw[bD];simp));simp only[iW.L,mD,Zr,Zn] at bE;have aW:∀W,Below bC.heap.size bC W->aO W j 47 [.int .i64 t2.n,.slice t2.g.A t2.g.n t2.g.c,.slice t2.l.A t2.l.n t2.l.c,.slice t2.a.A t2.a.n t2.a.c,.slice t2.o.A t2.o.n t2.o.c,.int .i64 t2.b,.slice t2.h.A t2.h.n t2.h.c,.slice t2.p.A t2.p.n t2.p.c]:=λ W h=>(show aO bC j 47 [.int .i64 t2.n,.slice t2.g.A t2.g.n t2.g.c,.slice t2.l.A t2.l.n t2.l.c,.slice t2.a.A t2.a.n t2.a.c,.slice t2.o.A t2.o.n t2.o.c,.int .i64 t2.b,.slice t2.h.A t2.h.n t2.h.c,.slice t2.p.A t2.p.n t2.p.c] from aq.o.1).below h
 go_upto_region 4 with(go_at_call 46;refine bE.o.mono ?_;rintro e aK ⟨t3,s3,aX,rfl,f,K⟩;have H:=(aW aK f).free;have bq:=H 0;have br:=H 1;have bs:=H 2;have bt:=H 3;have bu:=H 4;have bw:=H 5;have bx:=H 6;have bz:=H 7;clear H;have I:=(aW aK f).cell;have az:=I 0;have aB:=I 1;have aC:=I 2;have aE:=I 3;have aG:=I 4;have aH:=I 5;have aI:=I 6;have aJ:=I 7;simp only[z_,y_] at az aB aC aE aG aH aI aJ;clear I;have ab:=U (x_ f K);clear f K q u v y z C E F;unfold sE iW.L)
 clear bq br bs bt bu bw bx bz az aB aC aE aG aH aI aJ;have aY:=aD.eight (W:=aK) (B:=j) (.int .i64 t3.n) (.slice t3.g.A t3.g.n t3.g.c) (.slice t3.l.A t3.l.n t3.l.c) (.slice t3.a.A t3.a.n t3.a.c) (.slice t3.o.A t3.o.n t3.o.c) (.int .i64 t3.b) (.slice t3.h.A t3.h.n t3.h.c) (.slice t3.p.A t3.p.n t3.p.c);have bF:=aO.zn (aW aK ab.o.1) (.int .i64 t3.n) (.slice t3.g.A t3.g.n t3.g.c) (.slice t3.l.A t3.l.n t3.l.c) (.slice t3.a.A t3.a.n t3.a.c) (.slice t3.o.A t3.o.n t3.o.c) (.int .i64 t3.b) (.slice t3.h.A t3.h.n t3.h.c) (.slice t3.p.A t3.p.n t3.p.c);have bG:=ab.o.2.1.set (B:=j) rfl aY;have bH:=HS (aq.o.2.2.trans (ab.o.1.mono aq.o.2.2.size)) aY b6.o.1;generalize (((((((aK.setCell ⟨j,0,none⟩ (.int .i64 t3.n)).setCell ⟨j,1,none⟩ (.slice t3.g.A t3.g.n t3.g.c)).setCell ⟨j,2,none⟩ (.slice t3.l.A t3.l.n t3.l.c)).setCell ⟨j,3,none⟩ (.slice t3.a.A t3.a.n t3.a.c)).setCell ⟨j,4,none⟩ (.slice t3.o.A t3.o.n t3.o.c)).setCell ⟨j,5,none⟩ (.int .i64 t3.b)).setCell ⟨j,6,none⟩ (.slice t3.h.A t3.h.n t3.h.c)).setCell ⟨j,7,none⟩ (.slice t3.p.A t3.p.n t3.p.c)=ed at aY bF bG bH⊢;have ad:=U (x_ (bF) (x_ (bG) (bH)));clear aY bF bG bH aW bE;have b8:s3.gs=mZ:=by have:=ab.o.2.2.1;rw[bD] at this;exact this
 have b9:s3.aA=[ay,aX]:=by have:=ab.o.2.2.2.1;rw[b7] at this;exact this
 have Y:=U (x_ b8 (x_ b9 (x_ qd.o.2.2.2.2 ab.o.2.2.2.2)));clear bD b7 b8 b9 qd ab;have ae:=ad.o.1.lt;have d:=(ad.o.1).cell;have q:=d 0;have u:=d 1;have v:=d 2;have y:=d 3;have z:=d 4;have C:=d 5;have E:=d 6;have F:=d 7;simp only[iW.L,lu.L,z_,y_] at q u v y z C E F;clear d;have aZ:=U (OT ad.o.2.1 ae (by omega) (by rw[Y.o.1];decide) (by decide));rw[Y.o.1] at aZ;simp only[iW.L,mD,Zr,Zn] at aZ
 go_upto_region 5 with(go_at_call 36;refine aZ.o.mono ?_;rintro e a6 ⟨t4,G,iK,rfl,f,K⟩;have af:=U (x_ f K);clear f K q u v y z C E F;unfold s6 iW.L lu.L)
 have ag:=zA a6 t4 G;have aL:=zB a6 t4 G;simp only[iW.L,lu.L] at ag aL;obtain⟨aM,ag⟩:=ag;generalize (a6.alloc (.cells #[.int .i64 t4.n,.slice t4.g.A t4.g.n t4.g.c,.slice t4.l.A t4.l.n t4.l.c,.slice t4.a.A t4.a.n t4.a.c,.slice t4.o.A t4.o.n t4.o.c,.int .i64 t4.b,.slice t4.h.A t4.h.n t4.h.c,.slice t4.p.A t4.p.n t4.p.c] 47)).alloc (.cells #[.int .i64 G.k,.slice G.m.A G.m.n G.m.c,.slice G.o.A G.o.n G.o.c,.int .i64 G.s] 30)=b' at aM ag aL⊢;generalize a6.heap.size=g4 at ag aL⊢;have a7:=af.o.1.trans (aM.mono af.o.1.size);clear aZ;have T:=U (x_ (show aO b' g4 47 [.int .i64 t4.n,.slice t4.g.A t4.g.n t4.g.c,.slice t4.l.A t4.l.n t4.l.c,.slice t4.a.A t4.a.n t4.a.c,.slice t4.o.A t4.o.n t4.o.c,.int .i64 t4.b,.slice t4.h.A t4.h.n t4.h.c,.slice t4.p.A t4.p.n t4.p.c] from aL) (x_ (show aO b' (g4+1) 30 [.int .i64 G.k,.slice G.m.A G.m.n G.m.c,.slice G.o.A G.o.n G.o.c,.int .i64 G.s] from ag) (x_ (af.o.2.1.below aM) (x_ (af.o.2.2.2.2.below aM) (x_ (ad.o.1.below a7) (x_ (ad.o.2.1.below a7) (ad.o.2.2.trans (a7.mono ad.o.2.2.size))))))));clear ag aL a7 aM;have ca:iK.gs=mZ:=af.o.2.2.1;have ae:=T.o.2.2.2.2.1.lt;have d:=(T.o.1).cell;have q:=d 0;have u:=d 1;have v:=d 2;have y:=d 3;have z:=d 4;have C:=d 5;have E:=d 6;have F:=d 7;simp only[iW.L,lu.L,z_,y_] at q u v y z C E F;clear d;have a8:=U (OS T.o.2.2.1 ae (by omega) [1,-2] 2 rfl (by omega) (by rw[ca];decide) (by decide));rw[ca] at a8;simp only[iW.L,mD,Zr,Zn] at a8
 go_upto_region 6 with(go_at_call 36;refine a8.o.mono ?_;rintro e a' ⟨t5,i,X,rfl,f,K⟩;have ai:=U (x_ f K);clear f K q u v y z C E F;unfold s6 iW.L lu.L)
 have kG:=zA a' t5 i;have aN:=zB a' t5 i;simp only[iW.L,lu.L] at kG aN;obtain⟨aQ,kG⟩:=kG;generalize (a'.alloc (.cells #[.int .i64 t5.n,.slice t5.g.A t5.g.n t5.g.c,.slice t5.l.A t5.l.n t5.l.c,.slice t5.a.A t5.a.n t5.a.c,.slice t5.o.A t5.o.n t5.o.c,.int .i64 t5.b,.slice t5.h.A t5.h.n t5.h.c,.slice t5.p.A t5.p.n t5.p.c] 47)).alloc (.cells #[.int .i64 i.k,.slice i.m.A i.m.n i.m.c,.slice i.o.A i.o.n i.o.c,.int .i64 i.s] 30)=cc at aQ kG aN⊢;generalize a'.heap.size=g5 at kG aN⊢;have Z:=ai.o.1.trans (aQ.mono ai.o.1.size);clear a8;have M:=U (x_ (show aO cc g5 47 [.int .i64 t5.n,.slice t5.g.A t5.g.n t5.g.c,.slice t5.l.A t5.l.n t5.l.c,.slice t5.a.A t5.a.n t5.a.c,.slice t5.o.A t5.o.n t5.o.c,.int .i64 t5.b,.slice t5.h.A t5.h.n t5.h.c,.slice t5.p.A t5.p.n t5.p.c] from aN) (x_ (show aO cc (g5+1) 30 [.int .i64 i.k,.slice i.m.A i.m.n i.m.c,.slice i.o.A i.o.n i.o.c,.int .i64 i.s] from kG) (x_ (ai.o.2.1.below aQ) (x_ (ai.o.2.2.2.2.below aQ) (x_ (T.o.1.below Z) (x_ (T.o.2.1.below Z) (x_ (T.o.2.2.1.below Z) (x_ (T.o.2.2.2.1.below Z) (x_ (T.o.2.2.2.2.1.below Z) (x_ (T.o.2.2.2.2.2.1.below Z) (T.o.2.2.2.2.2.2.trans (Z.mono T.o.2.2.2.2.2.2.size))))))))))));clear kG aN Z aQ;have bJ:X.gs=mZ:=ai.o.2.2.1;have cd:=U (x_ af.o.2.2.2.1 ai.o.2.2.2.1);clear af ai;have d:=(M.o.1).cell;have q:=d 0;have u:=d 1;have v:=d 2;have y:=d 3;have z:=d 4;have C:=d 5;have E:=d 6;have F:=d 7;simp only[iW.L,lu.L,z_,y_] at q u v y z C E F;clear d;have ae:=M.o.2.2.2.2.2.2.2.2.1.lt;have bL:=U (OR M.o.2.2.1 ae (by omega) [3] 1 rfl (by omega) (by decide) (by rw[bJ];decide));simp only[iW.L,nS,mM,sE,mD,Zr,Zn] at bL
 go_upto_region 7 with(go_at_call 46;refine bL.o.mono ?_;rintro e cf ⟨rfl,f⟩;have bM:=U f;clear f q u v y z C E F)
 have bN:=bK cf (.cells #[.int .i64 0,.slice none 0 0,.slice none 0 0,.slice none 0 0,.slice none 0 0,.int .i64 0,.slice none 0 0,.slice none 0 0] 47);generalize cf.alloc (.cells #[.int .i64 0,.slice none 0 0,.slice none 0 0,.slice none 0 0,.slice none 0 0,.int .i64 0,.slice none 0 0,.slice none 0 0] 47)=ee at bN⊢;have Q:=bM.o.trans (bN.mono bM.o.size);have P:=U (x_ (M.o.1.below Q) (x_ (M.o.2.1.below Q) (x_ (M.o.2.2.1.below Q) (x_ (M.o.2.2.2.1.below Q) (x_ (M.o.2.2.2.2.1.below Q) (x_ (M.o.2.2.2.2.2.1.below Q) (x_ (M.o.2.2.2.2.2.2.1.below Q) (x_ (M.o.2.2.2.2.2.2.2.1.below Q) (x_ (M.o.2.2.2.2.2.2.2.2.1.below Q) (x_ (M.o.2.2.2.2.2.2.2.2.2.1.below Q) (M.o.2.2.2.2.2.2.2.2.2.2.trans (Q.mono M.o.2.2.2.2.2.2.2.2.2.2.size))))))))))));clear bL bN Q bM;have d:=(P.o.1).cell;have q:=d 0;have u:=d 1;have v:=d 2;have y:=d 3;have z:=d 4;have C:=d 5;have E:=d 6;have F:=d 7;simp only[iW.L,lu.L,z_,y_] at q u v y z C E F;clear d;have bO:=U (OU P.o.2.2.1 (by omega) [1,1] 2 rfl (by omega) (by decide));simp only[iW.L,lu.L,nS,qi,mM,s6,mD,Zr,Zn] at bO
 go_upto_region 8 with(go_at_call 36;refine bO.o.mono ?_;rintro e ba ⟨rfl,f⟩;have bP:=U f;clear f q u v y z C E F)
 have lD:=(bK ba (.cells #[.int .i64 0,.slice none 0 0,.slice none 0 0,.slice none 0 0,.slice none 0 0,.int .i64 0,.slice none 0 0,.slice none 0 0] 47)).trans ((bK (ba.alloc (.cells #[.int .i64 0,.slice none 0 0,.slice none 0 0,.slice none 0 0,.slice none 0 0,.int .i64 0,.slice none 0 0,.slice none 0 0] 47)) (.cells #[.int .i64 0,.slice none 0 0,.slice none 0 0,.int .i64 0] 30)).mono (bK ba (.cells #[.int .i64 0,.slice none 0 0,.slice none 0 0,.slice none 0 0,.slice none 0 0,.int .i64 0,.slice none 0 0,.slice none 0 0] 47)).size);generalize (ba.alloc (.cells #[.int .i64 0,.slice none 0 0,.slice none 0 0,.slice none 0 0,.slice none 0 0,.int .i64 0,.slice none 0 0,.slice none 0 0] 47)).alloc (.cells #[.int .i64 0,.slice none 0 0,.slice none 0 0,.int .i64 0] 30)=bQ at lD⊢;have R:=bP.o.trans (lD.mono bP.o.size);have N:=U (x_ (P.o.1.below R) (x_ (P.o.2.1.below R) (x_ (P.o.2.2.1.below R) (x_ (P.o.2.2.2.1.below R) (x_ (P.o.2.2.2.2.1.below R) (x_ (P.o.2.2.2.2.2.1.below R) (x_ (P.o.2.2.2.2.2.2.1.below R) (x_ (P.o.2.2.2.2.2.2.2.1.below R) (x_ (P.o.2.2.2.2.2.2.2.2.1.below R) (x_ (P.o.2.2.2.2.2.2.2.2.2.1.below R) (P.o.2.2.2.2.2.2.2.2.2.2.trans (R.mono P.o.2.2.2.2.2.2.2.2.2.2.size))))))))))));clear bO lD R bP;have d:=(N.o.1).cell;have q:=d 0;have u:=d 1;have v:=d 2;have y:=d 3;have z:=d 4;have C:=d 5;have E:=d 6;have F:=d 7;simp only[iW.L,lu.L,z_,y_] at q u v y z C E F;clear d;have ae:=N.o.2.2.2.2.2.2.2.2.1.lt;have bR:bI (Calls w_ 44 #[.agg t5.L.toArray,.int .i64 4] bQ λ e W=>∃(bb:iW)(s':kF),e=.returned (sE bb 0)/\Below bQ.heap.size bQ W/\nj (λ b=>b=j) W 4 s' bb):=U ((OL N.o.2.2.1 (λ b bl=>by subst bl;exact ae) (by omega) (m:=4) (by omega) (by omega)).mono λ e W ⟨bb,s',h1,K,cg,_⟩=>⟨bb,s',h1,K,cg⟩);simp only[iW.L] at bR
 go_upto_region 9 with(go_at_call 44;refine bR.o.mono ?_;rintro e bc ⟨t8,ef,rfl,f,K⟩;have bS:=U (x_ f K);clear f K q u v y z C E F;unfold sE iW.L)
 have aR:=bK bc (.cells t8.L.toArray 47);have aS:=aO.new bc 47 t8.L;simp only[iW.L] at aR aS;generalize bc.alloc (.cells #[.int .i64 t8.n,.slice t8.g.A t8.g.n t8.g.c,.slice t8.l.A t8.l.n t8.l.c,.slice t8.a.A t8.a.n t8.a.c,.slice t8.o.A t8.o.n t8.o.c,.int .i64 t8.b,.slice t8.h.A t8.h.n t8.h.c,.slice t8.p.A t8.p.n t8.p.c] 47)=aj at aR aS⊢;generalize bc.heap.size=g8 at aS⊢;have S:=bS.o.1.trans (aR.mono bS.o.1.size);have J:=U (x_ (show aO aj g8 47 [.int .i64 t8.n,.slice t8.g.A t8.g.n t8.g.c,.slice t8.l.A t8.l.n t8.l.c,.slice t8.a.A t8.a.n t8.a.c,.slice t8.o.A t8.o.n t8.o.c,.int .i64 t8.b,.slice t8.h.A t8.h.n t8.h.c,.slice t8.p.A t8.p.n t8.p.c] from aS) (x_ (bS.o.2.below aR) (x_ (N.o.1.below S) (x_ (N.o.2.1.below S) (x_ (N.o.2.2.1.below S) (x_ (N.o.2.2.2.1.below S) (x_ (N.o.2.2.2.2.1.below S) (x_ (N.o.2.2.2.2.2.1.below S) (x_ (N.o.2.2.2.2.2.2.1.below S) (x_ (N.o.2.2.2.2.2.2.2.1.below S) (x_ (N.o.2.2.2.2.2.2.2.2.1.below S) (x_ (N.o.2.2.2.2.2.2.2.2.2.1.below S) (N.o.2.2.2.2.2.2.2.2.2.2.trans (S.mono N.o.2.2.2.2.2.2.2.2.2.2.size))))))))))))));clear bR aR aS S;obtain⟨ch,dW,cj,ck,cm⟩:=OP J.o.2.2.2.2.2.2.2.2.2.1;obtain⟨cn,dX,co,bd,bT,bU⟩:=OQ J.o.2.2.2.2.2.1;have bV:=OO bT bU;have cp:t3.g.n=2:=by rw[J.o.2.2.2.2.2.2.2.2.2.2.2.1.e];show s3.gs.length=2;rw[Y.o.1];rfl
 have cq:t3.p.n=2:=by rw[J.o.2.2.2.2.2.2.2.2.2.2.2.1.e];show s3.aA.length=2;rw[Y.o.2.1];rfl
 have bW:t8.n=4:=by rw[J.o.2.1.e];rfl
 have bX:t8.h.n=5:=by rw[J.o.2.1.e];rfl
 have bf:=J.o.2.2.2.2.2.2.2.2.2.2.1;rw[cp,cq] at bf;have bg:=J.o.1;rw[bW,bX] at bg;have bY:=J.o.2.2.2.2.2.2.2.1;rw[ch] at bY;have bh:=J.o.2.2.2.1;rw[cn] at bh;have bZ:=J.o.2.2.1;have b0:lF aj t3.g.A 2 t3.g.c mZ:=by have h:=J.o.2.2.2.2.2.2.2.2.2.2.2.1.aP.gs;rw[Y.o.1] at h;exact h
 have b1:=I2 2 t3.g.A 2 t3.g.c mZ G.m.A G.m.n G.m.c cj aj b0 ck;have cr:wE 2 mZ cj=true:=(Nj (n:=2) (by decide)).2 cm.sat;rw[cr] at b1;clear cr;have dY:=U b1;have b2:=U (J.o.2.1.check (by omega));simp only[iW.L] at b2;rw[bW,bX] at b2;have dZ:=U (zH true i.o.A i.o.n i.o.c co (-2) aj bd bV.1);have eg:(i.o.n:Int)<=2:=by have h:=bd.len;have:=bV.2;omega
 obtain⟨rest,ar⟩:=cd.o.1.trans cd.o.2;rw[Y.o.2.1] at ar;replace ar:ay::aX::rest=X.aA:=ar;have bj:nx aj t5.p.A X.aA.length t5.p.c X.aA:=J.o.2.2.2.2.1.aP.aA;have ct:t5.p.n=X.aA.length:=by rw[J.o.2.2.2.2.1.e];rfl
 have cu:∀p∈ay::aX::rest,uG mZ 2 p.iM p.r.ah:=by have h:=J.o.2.2.2.2.1.O.xz;rw[bJ,<-ar] at h;exact h
 have b3:X.aA.length<=1000:=by have h:=J.o.2.2.2.2.1.pl;have K:=J.o.2.2.2.2.1.O.nW;rw[bJ] at h;have cg:mZ.length=2:=rfl;omega
 rw[<-ct] at bj b3;rw[<-ar] at bj;have d':bI (∀W,Below aj.heap.size aj W->Calls w_ 102 #[.agg #[.int .i64 2,.slice t3.g.A 2 t3.g.c],.slice t5.p.A t5.p.n t5.p.c,.slice i.o.A i.o.n i.o.c] W λ e w'=>e=.returned (.bool true)/\Below W.heap.size W w'):=U λ W h=>PK t3.g.A t3.g.c t5.p.A t5.p.n t5.p.c ay aX rest i.o.A i.o.n i.o.c co W (b0.below h) (bj.below h) Y.o.2.2.1 Y.o.2.2.2 b3 cu (bd.below h) bT bU
 have V:=U (x_ bf (x_ bg (x_ bh bZ)));have cv:=U J.o.2.2.2.2.2.2.2.2.2.2.2.2;have d:=(bh).cell;have v0:=d 0;have v1:=d 1;have v2:=d 2;have v3:=d 3;simp only[iW.L,lu.L,z_,y_] at v0 v1 v2 v3;clear d;have d:=(bY).cell;have a0:=d 0;have a1:=d 1;have a2:=d 2;have a3:=d 3;simp only[iW.L,lu.L,z_,y_] at a0 a1 a2 a3;clear d;have d:=(bg).cell;have z0:=d 0;have cw:=d 1;have z2:=d 2;have z3:=d 3;have z4:=d 4;have z5:=d 5;have cx:=d 6;have cy:=d 7;simp only[iW.L,lu.L,z_,y_] at z0 cw z2 z3 z4 z5 cx cy;clear d;have d:=(bf).cell;have aF:=d 0;have s1:=d 1;have s2:=d 2;have s3:=d 3;have iK:=d 4;have X:=d 5;have tv:=d 6;have cz:=d 7;simp only[iW.L,lu.L,z_,y_] at aF s1 s2 s3 iK X tv cz;clear d;have d:=(bZ).cell;have q:=d 0;have u:=d 1;have v:=d 2;have y:=d 3;have z:=d 4;have C:=d 5;have E:=d 6;have F:=d 7;simp only[iW.L,lu.L,z_,y_] at q u v y z C E F;clear d;clear bf bg bh bZ bY b0 b1 bj cu b3 ct ar ck cm bd bT bU bV cn dX dW ch cp cq bW bX
 go_upto_region 12 with(go_at_call 101;refine dZ.o.mono ?_;rintro e eh ⟨rfl,rfl⟩)
 go_wp2_with (first
  |(go_at_call 58;refine dY.o.mono ?_;rintro e ea ⟨rfl,cA⟩;have ak:=U cA;clear cA v0 v1 v2 v3 a0 a1 a2 a3 z0 cw z2 z3 z4 z5 cx cy aF s1 s2 s3 iK X tv cz q u v y z C E F;have d:=((V.o.2.2.1).below ak.o).cell;have cB:=d 0;have cC:=d 1;have cD:=d 2;have cE:=d 3;clear d;have d:=((V.o.1).below ak.o).cell;have cF:=d 0;have cG:=d 1;have cH:=d 2;have cI:=d 3;have cJ:=d 4;have cK:=d 5;have cL:=d 6;have cM:=d 7;clear d;have d:=((V.o.2.2.2).below ak.o).cell;have cN:=d 0;have cO:=d 1;have cP:=d 2;have cQ:=d 3;have cR:=d 4;have cS:=d 5;have cT:=d 6;have cU:=d 7;clear d;have d:=((V.o.2.1).below ak.o).cell;have cV:=d 0;have cW:=d 1;have cX:=d 2;have cY:=d 3;have cZ:=d 4;have c7:=d 5;have c8:=d 6;have da:=d 7;clear d;simp only[iW.L,lu.L,z_,y_] at cB cC cD cE cF cG cH cI cJ cK cL cM cN cO cP cQ cR cS cT cU cV cW cX cY cZ c7 c8 da)
  |(go_at_call 49;with_reducible refine(b2.o ea ak.o).mono ?_;rintro e eb ⟨rfl,db⟩;have aT:=U (ak.o.trans (db.mono ak.o.size));clear db cB cC cD cE cF cG cH cI cJ cK cL cM cN cO cP cQ cR cS cT cU cV cW cX cY cZ c7 c8 da;have d:=((V.o.2.2.1).below aT.o).cell;have dc:=d 0;have dd:=d 1;have de:=d 2;have df:=d 3;clear d;have d:=((V.o.1).below aT.o).cell;have dh:=d 0;have di:=d 1;have dj:=d 2;have dk:=d 3;have dm:=d 4;have dn:=d 5;have dp:=d 6;have dq:=d 7;clear d;have d:=((V.o.2.2.2).below aT.o).cell;have dr:=d 0;have dt:=d 1;have du:=d 2;have dv:=d 3;have dw:=d 4;have dx:=d 5;have dy:=d 6;have dz:=d 7;clear d;simp only[iW.L,lu.L,z_,y_] at dc dd de df dh di dj dk dm dn dp dq dr dt du dv dw dx dy dz)
  |(go_at_call 49;with_reducible refine(b5.o eb).mono ?_;rintro e vL ⟨rfl,dA⟩;have au:=U (aT.o.trans (dA.mono aT.o.size));clear dA dc dd de df dh di dj dk dm dn dp dq dr dt du dv dw dx dy dz;have d:=((V.o.2.2.1).below au.o).cell;have dB:=d 0;have dC:=d 1;have dD:=d 2;have dE:=d 3;clear d;have d:=((V.o.1).below au.o).cell;have dF:=d 0;have dG:=d 1;have dH:=d 2;have dI:=d 3;have dJ:=d 4;have dK:=d 5;have dL:=d 6;have dM:=d 7;clear d;have d:=((V.o.2.2.2).below au.o).cell;have dN:=d 0;have dO:=d 1;have dP:=d 2;have dQ:=d 3;have dR:=d 4;have dS:=d 5;have dT:=d 6;have dU:=d 7;clear d;simp only[iW.L,lu.L,z_,y_] at dB dC dD dE dF dG dH dI dJ dK dL dM dN dO dP dQ dR dS dT dU)
  |(go_at_call 102;with_reducible refine(d'.o vL au.o).mono ?_;rintro e ei ⟨rfl,dV⟩;have ec:=U (au.o.trans (dV.mono au.o.size));clear dV dB dC dD dE dF dG dH dI dJ dK dL dM dN dO dP dQ dR dS dT dU))
 go_ret;exact⟨rfl,cv.o.trans (ec.o.mono cv.o.size)⟩
end
section
open Go.RowKit
def s7(w:World)(b:Nat)(v0 v1 v2:Value):Prop:=w.heap[b]? =some (.cells #[v0,v1,v2] 44 (0,0))
theorem s7.below{w w':World}{b:Nat}(h:s7 w b v0 v1 v2)(c:Below w.heap.size w w'):s7 w' b v0 v1 v2:=(c.block b (lt_of_block h)).trans h
theorem s7.new(w:World)(v0 v1 v2:Value):s7 (w.alloc (.cells #[v0,v1,v2] 44)) w.heap.size v0 v1 v2:=heap_alloc_new _ _
theorem s7.c0{w:World}{b:Nat}(h:s7 w b v0 v1 v2):w.cell? ⟨b,0,none⟩=some v0:=by unfold s7 at h;simp[ZL,h]
theorem s7.c1{w:World}{b:Nat}(h:s7 w b v0 v1 v2):w.cell? ⟨b,1,none⟩=some v1:=by unfold s7 at h;simp[ZL,h]
theorem s7.c2{w:World}{b:Nat}(h:s7 w b v0 v1 v2):w.cell? ⟨b,2,none⟩=some v2:=by unfold s7 at h;simp[ZL,h]
theorem PM(w:World)(o:Obj):Below w.heap.size w (w.alloc o):=(u_ _ _).alloc (t_ _) _
theorem PN(A:Option Addr)(n c:Nat)(A':Option Addr)(gB c':Nat)(y v:Int)(w:World):
  Calls w_ 165 #[.agg #[.slice A n c,.slice A' gB c',.int .i64 y],.int .i64 v] w λ e w'=>e=.returned (.bool (uh n v))/\Below w.heap.size w w':=by
 by_cases h1:1<=v
 ·have b:0<v:=by omega
  by_cases d:v<n
  all_goals
   go_enter Tryz.func165,Tryz.ntmps165
   go_wp2;go_ret;exact⟨mo (by simp[uh,b,d]),(u_ _ _).alloc (t_ _) _⟩
 ·have b:¬0<v:=by omega
  go_enter Tryz.func165,Tryz.ntmps165
  go_wp2;go_ret;exact⟨mo (by rw[uh,decide_eq_false (show¬0<v by omega)];rfl),(u_ _ _).alloc (t_ _) _⟩
theorem PO{act:List Int}{a b:Nat}:decide (sI act a b<0)=(decide (iJ act b<iJ act a)||(decide (iJ act a=iJ act b)&&decide ((a:Int)<b))):=by
 rw[Zp];simp only[g_,b_,decide_eq_true_eq,sI,rJ,oz,Int.toNat_natCast];constructor
 ·intro h
  repeat' split at h
  all_goals omega
 ·intro h
  repeat' split
  all_goals omega
theorem PR(b off n c:Nat)(act:List Int)(A':Option Addr)(gB c':Nat)(y:Int)(p q:Nat)(w:World)(z:b<w.heap.size)(hp:p<n)(A:q<n)(B:n<=17592186044416)
  (m:w.cell? ⟨b,off+p,none⟩=some (.int .i64 (iJ act p))) (r:w.cell? ⟨b,off+q,none⟩=some (.int .i64 (iJ act q))):
  Calls w_ 166 #[.agg #[.slice (some ⟨b,off,none⟩) n c,.slice A' gB c',.int .i64 y],.int .i64 p,.int .i64 q] w λ e w'=>e=.returned (.bool (decide (sI act p q<0)))/\Below w.heap.size w w':=by
 have C:(p:Int)<(n:Int):=by omega
 have D:(q:Int)<(n:Int):=by omega
 rw[PO];generalize iJ act p=X at m⊢;generalize iJ act q=Y at r⊢;have i:∀k:Nat,Below w.heap.size w ((w.alloc (.cells #[.slice (some ⟨b,off,none⟩) n c,.slice A' gB c',.int .i64 y] 44)).drewN k):=λ k=>⟨rfl,rfl,rfl,by simp[World.drewN],λ j s=>Below.heap_alloc _ _ _ s⟩
 have f:=U i;clear i
 by_cases h1:Y<X
 ·go_enter Tryz.func166,Tryz.ntmps166
  go_wp2_with fail
  go_quiet (fail)
  go_wp2_with fail
  go_ret;exact⟨mo (by simp[h1]),f.o _⟩
 ·have t:decide (Y<X)=false:=decide_eq_false h1
  by_cases d:X=Y
  ·have u:(X==Y)=true:=by simpa using d
   have g:=U d;clear d
   by_cases l:(p:Int)<q
   ·go_enter Tryz.func166,Tryz.ntmps166
    go_wp2_with fail
    go_quiet (fail)
    go_wp2_with fail
    go_ret;exact⟨mo (by simp[g.o,l]),f.o _⟩
   ·have v:decide ((p:Int)<q)=false:=decide_eq_false l;go_enter Tryz.func166,Tryz.ntmps166
    go_wp2_with fail
    go_quiet (fail)
    go_wp2_with fail
    go_ret;exact⟨mo (by simp[g.o,v]),f.o _⟩
  ·have u:(X==Y)=false:=by simpa using d
   have g:=U d;clear d;go_enter Tryz.func166,Tryz.ntmps166
   go_wp2_with fail
   go_quiet (fail)
   go_wp2_with fail
   go_ret;exact⟨mo (by rw[t,decide_eq_false g.o];rfl),f.o _⟩
theorem PS(A:Option Addr)(n c:Nat)(act:List Int)(A':Option Addr)(gB c':Nat)(y a b:Int)(w:World)(h:aQ w A n c act)(f:0<=a/\a<n)(i:0<=b/\b<n):
  Calls w_ 166 #[.agg #[.slice A n c,.slice A' gB c',.int .i64 y],.int .i64 a,.int .i64 b] w λ e w'=>e=.returned (.bool (decide (sI act a b<0)))/\Below w.heap.size w w':=by
 obtain⟨p,rfl⟩:=ZW f.1;obtain⟨q,rfl⟩:=ZW i.1;obtain⟨g,off,rfl,j,d⟩:=h.cells (by omega);exact PR g off n c act A' gB c' y p q w j (by omega) (by omega) h.small (d p (by omega)) (d q (by omega))
def preB(act:List Int)(y:Int):Bool:=decide (0<act.length)&&decide (act.length<=65537)&&decide (iJ act 0=0)&&decide (1<=y)&&decide (y<=1099511627776)
theorem PT(act l:List Int)(y:Int):p6 act l y=(preB act y&& !(act.any kO)&&tf act l):=by
 have i:vt y=(decide (1<=y)&&decide (y<=1099511627776)):=by
  rw[Zp];simp only[vt,kO,b_,a_,Bool.or_eq_false_iff,decide_eq_true_eq,decide_eq_false_iff_not];omega
 unfold p6 preB uQ;rw[i,Zp];simp only[b_];constructor
 ·rintro⟨⟨⟨⟨⟨a,b⟩,c⟩,d⟩,e,f⟩,g⟩;exact⟨⟨⟨⟨⟨⟨a,b⟩,c⟩,e⟩,f⟩,d⟩,g⟩
 ·rintro⟨⟨⟨⟨⟨⟨a,b⟩,c⟩,e⟩,f⟩,d⟩,g⟩;exact⟨⟨⟨⟨⟨a,b⟩,c⟩,d⟩,e,f⟩,g⟩
theorem PU(h:ah.any kO=false){k:Nat}(hk:k<ah.length):0<=iJ ah k/\iJ ah k<=1099511627776:=by
 rw[List.any_eq_false] at h;have:=h _ (c_ hk);rw[<-rI hk] at this;simp only[kO,g_,decide_eq_true_eq] at this;omega
theorem CM(b:Bool)(A:Option Addr)(n c:Nat)(A':Option Addr)(gB c':Nat)(y v:Int)(w:World)(h:uh n v=b):
  Calls w_ 165 #[.agg #[.slice A n c,.slice A' gB c',.int .i64 y],.int .i64 v] w λ e w'=>e=.returned (.bool b)/\Below w.heap.size w w':=by
 subst h;exact PN A n c A' gB c' y v w
theorem Ic(d:Bool)(A:Option Addr)(n c:Nat)(act:List Int)(A':Option Addr)(gB c':Nat)(y a b:Int)(w:World)(h:aQ w A n c act)(f:0<=a/\a<n)(g:0<=b/\b<n)(hk:decide (sI act a b<0)=d):
  Calls w_ 166 #[.agg #[.slice A n c,.slice A' gB c',.int .i64 y],.int .i64 a,.int .i64 b] w λ e w'=>e=.returned (.bool d)/\Below w.heap.size w w':=by
 subst hk;exact PS A n c act A' gB c' y a b w h f g
section
variable (A:Option Addr)(n c:Nat)(act:List Int)(A':Option Addr)(gB c':Nat)(l:List Int)(y:Int)(w:World)
theorem PV(h:aQ w A n c act)(hp:preB act y=false):
  Calls w_ 113 #[.agg #[.slice A n c,.slice A' gB c',.int .i64 y]] w λ e w'=>e=.returned (.int .i64 1)/\Below w.heap.size w w':=by
 have l:=h.small;have hlen:=h.len
 by_cases a1:n=0
 ·have g:(n:Int)<1:=by omega
  clear hp h a1 hlen;go_enter Tryz.func113,Tryz.ntmps113
  go_wp2_with fail
  go_ret;exact⟨rfl,(u_ _ _).alloc (t_ _) _⟩
 have g:¬(n:Int)<1:=by omega
 by_cases a2:65537<n
 ·have z2:(65537:Int)<n:=by omega
  clear hp h hlen;go_enter Tryz.func113,Tryz.ntmps113
  go_wp2_with fail
  go_ret;exact⟨rfl,(u_ _ _).alloc (t_ _) _⟩
 have z2:¬(65537:Int)<n:=by omega
 have d:0<n:=by omega
 obtain⟨b,off,rfl,m,f⟩:=h.cells d;have i:=f 0 d;simp only[Zg] at i;clear f
 by_cases a3:iJ act 0=0
 ·have z3:(iJ act 0 !=0)=false:=by simp[a3]
  have a4:y<1\/1099511627776<y:=by
   simp only[preB,hlen,a3] at hp;have j:decide (0<n)=true:=by simpa using d
   have k:decide (n<=65537)=true:=by simp;omega
   rw[j,k] at hp;simp at hp;omega
  clear hp h hlen a3
  by_cases a5:y<1
  ·clear a4;go_enter Tryz.func113,Tryz.ntmps113
   go_wp2_with fail
   go_ret;exact⟨rfl,(u_ _ _).alloc (t_ _) _⟩
  ·have o:1099511627776<y:=by omega
   clear a4;go_enter Tryz.func113,Tryz.ntmps113
   go_wp2_with fail
   go_ret;exact⟨rfl,(u_ _ _).alloc (t_ _) _⟩
 ·have z3:(iJ act 0 !=0)=true:=by simpa using a3
  clear hp h hlen a3;go_enter Tryz.func113,Tryz.ntmps113
  go_wp2_with fail
  go_ret;exact⟨rfl,(u_ _ _).alloc (t_ _) _⟩
theorem PW(h:aQ w A n c act)(hp:preB act y=true)(g:act.any kO=true):
  Calls w_ 113 #[.agg #[.slice A n c,.slice A' gB c',.int .i64 y]] w λ e w'=>e=.returned (.int .i64 1)/\Below w.heap.size w w':=by
 have s:=h.small;have hlen:=h.len;simp only[preB,b_,decide_eq_true_eq,hlen] at hp;obtain⟨⟨⟨⟨a1,a2⟩,a3⟩,t⟩,u⟩:=hp;have v:¬(n:Int)<1:=by omega
 have z2:¬(65537:Int)<n:=by omega
 have z3:(iJ act 0 !=0)=false:=by simp[a3]
 have z4:¬y<1:=by omega
 have z5:¬1099511627776<y:=by omega
 obtain⟨b,off,rfl,z,d⟩:=h.cells a1;have j:=d 0 a1;simp only[Zg] at j;have q:=U d;have r:=U g;have l:=U hlen;clear g hlen a3 d h;go_enter Tryz.func113,Tryz.ntmps113
 go_wp2_with fail
 clear j
 go_loop [3] (λ i=>∃k:Nat,k<=n/\i=.int .i64 k/\(act.take k).any kO=false) (λ i=>n-(intOf i).toNat)
 case atStart=>exact⟨0,r_ _,rfl,rfl⟩
 case round=>
  obtain⟨k,hk,rfl,m⟩:=hrel;have p:=U m;clear m
  by_cases f:k<n
  ·have B:=q.o k f
   by_cases C:iJ act k<0
   ·go_wp2_with fail
    go_ret;exact⟨rfl,(u_ _ _).alloc (t_ _) _⟩
   ·by_cases D:1099511627776<iJ act k
    ·go_wp2_with fail
     go_ret;exact⟨rfl,(u_ _ _).alloc (t_ _) _⟩
    ·go_wp2_with fail
     go_round
     case rel=>exact⟨k+1,by omega,by go_num,EK (by rw[l.o];exact f) (by simp[kO];omega) p.o⟩
     case measure=>simp[intOf];omega
  ·exact absurd (EL l.o f p.o) (by rw[r.o];simp)
theorem PX(h:aQ w A n c act)(h':aQ w A' gB c' l)(hp:preB act y=true)(N:act.any kO=false):
  Calls w_ 113 #[.agg #[.slice A n c,.slice A' gB c',.int .i64 y]] w λ e w'=>e=.returned (.int .i64 (qU (tf act l)))/\Below w.heap.size w w':=by
 have ai:=h.small;have aj:=h'.small;have hlen:=h.len;simp only[preB,b_,decide_eq_true_eq,hlen] at hp;obtain⟨⟨⟨⟨a1,a2⟩,a3⟩,ak⟩,al⟩:=hp;have an:¬(n:Int)<1:=by omega
 have z2:¬(65537:Int)<n:=by omega
 have z3:(iJ act 0 !=0)=false:=by simp[a3]
 have z4:¬y<1:=by omega
 have z5:¬1099511627776<y:=by omega
 have H:=U h;obtain⟨b,off,rfl,ao,K⟩:=h.cells a1;have O:=K 0 a1;simp only[Zg] at O;have Z:=U K;have aa:=U N;have s:=U hlen;have v:=U h';clear N hlen a3 K h h';go_enter Tryz.func113,Tryz.ntmps113
 go_wp2_with fail
 clear O
 go_loop [3] (λ i=>∃k:Nat,k<=n/\i=.int .i64 k) (λ i=>n-(intOf i).toNat)
 case atStart=>exact⟨0,r_ _,rfl⟩
 case round=>
  obtain⟨k,hk,rfl⟩:=hrel
  by_cases r:k<n
  ·have t:=Z.o k r;have z:=PU aa.o (k:=k) (by rw[s.o];exact r);have aq:¬iJ act k<0:=by omega
   have ar:¬1099511627776<iJ act k:=by omega
   clear z
   go_wp2_with fail
   go_round
   case rel=>exact⟨k+1,by omega,by go_num⟩
   case measure=>simp[intOf];omega
  ·go_wp2_with fail
   go_loopw [4] (λ i wr=>∃k:Nat,k<=gB/\i=.int .i64 k/\(∀i,i<k->qT act l i=true)/\Below (w.heap.size+1) (w.alloc (.cells #[.slice (some ⟨b,off,none⟩) n c,.slice A' gB c',.int .i64 y] 44)) wr) (λ i _=>gB-(intOf i).toNat)
   case atStart=>exact⟨0,r_ _,rfl,λ i ab=>absurd ab (Nat.not_lt_zero _),u_ _ _⟩
   case round=>
    obtain⟨k,hk,rfl,z,B⟩:=hrel;have C:=U z;clear z;have q:=U ((PM w (.cells #[.slice (some ⟨b,off,none⟩) n c,.slice A' gB c',.int .i64 y] 44)).trans (B.mono (by omega)));have D:=U ((s7.new w (.slice (some ⟨b,off,none⟩) n c) (.slice A' gB c') (.int .i64 y)).below (B.mono (by simp)));have P:=U B;have f:w.heap.size<wr.heap.size:=lt_of_block D.o;clear B;have H1:=U (H.o.below q.o);have E:=D.o.c0;have F:=D.o.c1;have G:=D.o.c2
    by_cases r:k<gB
    ·obtain⟨g,j,rfl,Q,L⟩:=v.o.cells (by omega);have t:=(q.o.cell (p:=⟨g,j+k,none⟩) Q).trans (L k r);have I:0<k->wr.cell? ⟨g,j+(k-1),none⟩=some (.int .i64 (iJ l (k-1))):=λ au=>(q.o.cell (p:=⟨g,j+(k-1),none⟩) Q).trans (L (k-1) (by omega))
     have d:g<wr.heap.size:=by omega
     have av:(k:Int)<(gB:Int):=by omega
     clear L;generalize R:uh n (iJ l k)=ad;have m:=U R;clear R
     cases ad
     ·clear I
      go_wp2_with fail
      refine vp (by kernel_rfl) (by kernel_rfl) ?_;have g0:=λ u:kC wr=>u.cell (p:=⟨w.heap.size,0,none⟩) f E
      have g1:=λ u:kC wr=>u.cell (p:=⟨w.heap.size,1,none⟩) f F
      have g2:=λ u:kC wr=>u.cell (p:=⟨w.heap.size,2,none⟩) f G
      have gk:=λ u:kC wr=>u.cell (p:=⟨g,j+k,none⟩) d t
      repeat (go_big_quiet_step ((go_at_call 165;exact kC.call _ (CM false _ _ _ _ _ _ _ _ _ m.o))))
      refine ZS ?_;rintro _ ⟨⟨M,d⟩,rfl⟩
      go_wp2_with fail
      go_ret;exact⟨yw (by rw[A6 (k:=k) (by rw[v.o.len];exact r) (by simp[qT,s.o,m.o])];rfl),q.o.trans (d.mono q.o.size)⟩
     ·by_cases ae:k=0
      ·subst ae;simp only[Zg] at t;clear I
       go_wp2_with fail
       refine vp (by kernel_rfl) (by kernel_rfl) ?_;have g0:=λ u:kC wr=>u.cell (p:=⟨w.heap.size,0,none⟩) f E
       have g1:=λ u:kC wr=>u.cell (p:=⟨w.heap.size,1,none⟩) f F
       have g2:=λ u:kC wr=>u.cell (p:=⟨w.heap.size,2,none⟩) f G
       have gk:=λ u:kC wr=>u.cell (p:=⟨g,j,none⟩) d t
       repeat (go_big_quiet_step ((go_at_call 165;exact kC.call _ (CM true _ _ _ _ _ _ _ _ _ m.o))))
       refine ZS ?_;rintro _ ⟨⟨M,d⟩,rfl⟩
       go_wp2_with fail
       go_roundw
       case rel=>exact⟨1,by omega,by go_num,A5 C.o (by simp[qT,s.o,m.o]),P.o.trans (d.mono (by omega))⟩
       case measure=>simp[intOf];omega
      ·have af:0<k:=by omega
       have aw:(0:Int)<k:=by omega
       have S:=I af;clear I;have hp:=C.o (k-1) (by omega);simp only[qT,b_,s.o,yu] at hp;have T:=hp.1;clear hp;have V:=yu.1 m.o;have ax:(k:Int)-1<(gB:Int):=by omega
       have W:q_.wrap ((k:Int)-1)=(k:Int)-1:=by rw[s_];omega
       have ay:(0:Int)<=(k:Int)-1:=by omega
       have X:((k:Int)-1).toNat=k-1:=by omega
       generalize Y:decide (sI act (iJ l (k-1)) (iJ l k)<0)=ag;have J:=U Y;clear Y
       cases ag
       ·go_wp2_with fail
        refine vp (by kernel_rfl) (by kernel_rfl) ?_;have g0:=λ u:kC wr=>u.cell (p:=⟨w.heap.size,0,none⟩) f E
        have g1:=λ u:kC wr=>u.cell (p:=⟨w.heap.size,1,none⟩) f F
        have g2:=λ u:kC wr=>u.cell (p:=⟨w.heap.size,2,none⟩) f G
        have gk:=λ u:kC wr=>u.cell (p:=⟨g,j+k,none⟩) d t
        have ah:=λ u:kC wr=>u.cell (p:=⟨g,j+(k-1),none⟩) d S
        repeat (go_big_quiet_step (first|(go_at_call 165;exact kC.call _ (CM true _ _ _ _ _ _ _ _ _ m.o))|(go_at_call 166;exact kC.call _ (Ic false _ _ _ act _ _ _ _ _ _ _ (H1.o.below (kC.ok _)) ⟨by omega,T.2⟩ ⟨by omega,V.2⟩ J.o))))
        refine ZS ?_;rintro _ ⟨⟨M,d⟩,rfl⟩;clear W X
        go_wp2_with fail
        go_ret;exact⟨yw (by rw[A6 (k:=k) (by rw[v.o.len];exact r) (by simp only[qT,s.o,m.o,J.o];simp;omega)];rfl),q.o.trans (d.mono q.o.size)⟩
       ·go_wp2_with fail
        refine vp (by kernel_rfl) (by kernel_rfl) ?_;have g0:=λ u:kC wr=>u.cell (p:=⟨w.heap.size,0,none⟩) f E
        have g1:=λ u:kC wr=>u.cell (p:=⟨w.heap.size,1,none⟩) f F
        have g2:=λ u:kC wr=>u.cell (p:=⟨w.heap.size,2,none⟩) f G
        have gk:=λ u:kC wr=>u.cell (p:=⟨g,j+k,none⟩) d t
        have ah:=λ u:kC wr=>u.cell (p:=⟨g,j+(k-1),none⟩) d S
        repeat (go_big_quiet_step (first|(go_at_call 165;exact kC.call _ (CM true _ _ _ _ _ _ _ _ _ m.o))|(go_at_call 166;exact kC.call _ (Ic true _ _ _ act _ _ _ _ _ _ _ (H1.o.below (kC.ok _)) ⟨by omega,T.2⟩ ⟨by omega,V.2⟩ J.o))))
        refine ZS ?_;rintro _ ⟨⟨M,d⟩,rfl⟩;clear W X
        go_wp2_with fail
        go_roundw
        case rel=>exact⟨k+1,by omega,by go_num,A5 C.o (by simp only[qT,s.o,m.o,J.o];simp),P.o.trans (d.mono (by omega))⟩
        case measure=>simp[intOf];omega
    ·go_wp2_with fail
     go_ret;exact⟨yw (by rw[EV v.o.len r C.o];rfl),q.o⟩
theorem Ie(h:aQ w A n c act)(h':aQ w A' gB c' l):
  Calls w_ 113 #[.agg #[.slice A n c,.slice A' gB c',.int .i64 y]] w λ e w'=>e=.returned (.int .i64 (qU (p6 act l y)))/\Below w.heap.size w w':=by
 rw[PT]
 cases hp:preB act y
 ·exact PV A n c act A' gB c' y w h hp
 ·cases b:act.any kO
  ·simpa using PX A n c act A' gB c' l y w h h' hp b
  ·exact PW A n c act A' gB c' y w h hp b
end
end
section
open Go.RowKit
theorem Eu(x:Int)(w:World):Calls w_ 114 #[.int .i64 x] w λ e w'=>e=.returned (.bool !(kO x))/\w=w':=by
 by_cases h1:0<=x
 ·by_cases c:x<=1099511627776
  ·have b:kO x=false:=by simp[kO];omega
   rw[b];clear b;go_enter Tryz.func114,Tryz.ntmps114
   go_wp2;go_ret;exact⟨mo (by simp[h1,c]),rfl⟩
  ·have b:kO x=true:=by simp[kO];omega
   rw[b];clear b;go_enter Tryz.func114,Tryz.ntmps114
   go_wp2;go_ret;exact⟨mo (by simp[h1,c]),rfl⟩
 ·have b:kO x=true:=by simp[kO];omega
  rw[b];clear b;go_enter Tryz.func114,Tryz.ntmps114
  go_wp2;go_ret;exact⟨mo (by simp[h1]),rfl⟩
theorem CN(x:Int)(A:Option Addr)(n c:Nat)(ls:List (List Int))(w:World)(h:lF w A n c ls):
  Calls w_ 110 #[.int .i64 x,.slice A n c] w λ e w'=>e=.returned (.int .i64 (kZ x ls))/\Below w.heap.size w w':=by
 have d:=U (Iv x A n c ls w h);clear h;go_enter Tryz.func110,Tryz.ntmps110
 go_wp2_with (go_at_call 88;refine d.o.mono ?_;rintro e wr ⟨rfl,b⟩;have f:=U b;clear b)
 go_ret;exact⟨rfl,f.o⟩
theorem PY(n:Nat)(gs:List (List Int))(es:List lE)(act ord:List Int)(aa:Int)(bc:List Bool)(C:List mc){gC nl aJ:Nat}{bh:Option Addr}{aS:Nat}{gJ:Option Addr}{cl:Nat}{A:Option Addr}{c:Nat}{A':Option Addr}{c':Nat}{bt:Option Addr}{bk:Nat}{aT:Option Addr}{aY:Nat}{w:World}
  (ch:n<=65536) (bd:p6 act ord aa=true) (bf:jE bc 0=false) (O:nl<=1000000)
  (bg:lF w bh gC aS gs) (P:qP w gJ nl cl es) (bj:aQ w A (n+1) c act) (bl:aQ w A' n c' ord) (aC:lB w bt (n+1) bk bc) (Q:nx w aT aJ aY C):
  Calls w_ 50 #[nP n bh gC aS gJ nl cl A (n+1) c A' n c' aa bt (n+1) bk aT aJ aY] w λ e w'=>e=.returned (.int .i64 (if kZ n gs≠0 then kZ n gs else if es.any qz=true then 1 else if kZ n (es.map (·.r.ah))≠0 then kZ n (es.map (·.r.ah)) else if C.any (pK n)=true then 1 else 0))/\Below w.heap.size w w':=by
 obtain⟨R,ad,rfl,bn,aD⟩:=aC.Cw (by omega);rw[bf] at aD;unfold nP;have b1:¬(n:Int)<0:=by omega
 have b2:¬(65536:Int)<n:=by omega
 have d0:decide ((n:Int)<0)=false:=decide_eq_false b1;have d1:decide ((65536:Int)<n)=false:=decide_eq_false b2;have wn:q_.wrap ((n:Int)+1)=(n:Int)+1:=by rw[s_];omega
 have cj:=P.mW;have aE:=Q.mW;obtain⟨aw,aF⟩:∃x,kZ n gs=x:=⟨_,rfl⟩
 obtain⟨el,aG⟩:∃x,kZ n (es.map (·.r.ah))=x:=⟨_,rfl⟩
 rw[aF,aG];obtain⟨ck,aH⟩:∃x,(if aw≠0 then aw else if es.any qz=true then 1 else if el≠0 then el else if C.any (pK n)=true then 1 else 0)=x:=⟨_,rfl⟩
 rw[aH];have G:=U aH;clear aH;have H:=U (x_ bg (x_ P (x_ bj (x_ bl (x_ aC Q)))));have ax:=U (x_ aD bn);have ai:=U (x_ bd (x_ aF aG));clear aD bn bg P bj bl aC Q bd aF aG bf;go_enter Tryz.func50,Tryz.ntmps50
 have aj:=bK w (.cells #[.int .i64 n,.slice bh gC aS,.slice gJ nl cl,.slice A (n+1) c,.slice A' n c',.int .i64 aa,.slice (some ⟨R,ad,none⟩) (n+1) bk,.slice aT aJ aY] 47);have F:aO (w.alloc (.cells #[.int .i64 n,.slice bh gC aS,.slice gJ nl cl,.slice A (n+1) c,.slice A' n c',.int .i64 aa,.slice (some ⟨R,ad,none⟩) (n+1) bk,.slice aT aJ aY] 47)) w.heap.size 47 [.int .i64 n,.slice bh gC aS,.slice gJ nl cl,.slice A (n+1) c,.slice A' n c',.int .i64 aa,.slice (some ⟨R,ad,none⟩) (n+1) bk,.slice aT aJ aY]:=aO.new w 47 _
 go_upto_region 1 with fail
 generalize w.alloc (.cells #[.int .i64 n,.slice bh gC aS,.slice gJ nl cl,.slice A (n+1) c,.slice A' n c',.int .i64 aa,.slice (some ⟨R,ad,none⟩) (n+1) bk,.slice aT aJ aY] 47)=w1 at*;have bo:=F.cell 0;have bp:=F.cell 1;have bq:=F.cell 2;have br:=F.cell 3;have bs:=F.cell 4;have bu:=F.cell 5;have bw:=F.cell 6;have bx:=F.cell 7;simp only[z_,y_] at bo bp bq br bs bu bw bx;have bz:=Zt (a:=⟨R,ad,none⟩) (aj.block R ax.o.2);rw[ax.o.1] at bz;have b3:=U F;have bA:=U aj;have bB:=U (Ie A (n+1) c act A' n c' ord aa w1 (H.o.2.2.1.below aj) (H.o.2.2.2.1.below aj));clear F aj
 go_upto_region 3 with(go_at_call 113;refine bB.o.mono ?_;rintro e wr ⟨rfl,aI⟩;rw[ai.o.1];have I:=U (b3.o.below aI);have ae:=U (bA.o.trans (aI.mono bA.o.size));have bC:=Zt (a:=⟨R,ad,none⟩) (ae.o.block R ax.o.2);rw[ax.o.1] at bC;clear bo bp bq br bs bu bw bx bz aI;have S:=I.o.cell 0;have bD:=I.o.cell 1;have bE:=I.o.cell 2;have bF:=I.o.cell 3;have bG:=I.o.cell 4;have bH:=I.o.cell 5;have bJ:=I.o.cell 6;have ak:=I.o.cell 7;simp only[z_,y_] at S bD bE bF bG bH bJ ak;dsimp only[qU])
 have aK:=U (CN n bh gC aS gs wr (H.o.1.below ae.o))
 by_cases aL:aw=0
 ·subst aL;have cm:((0:Int)==0)=true:=rfl
  go_upto_region 6 with(go_at_call 110;refine aK.o.mono ?_;rintro e ws ⟨rfl,af⟩;rw[ai.o.2.1];have aM:=U (I.o.below af);have y:=U (ae.o.trans (af.mono ae.o.size));clear S bD bE bF bG bH bJ ak af bC;have z2:=aM.o.cell 2;simp only[z_,y_] at z2;dsimp only)
  clear aK bB
  go_wp2_with fail
  go_loopw [4,5] (λ l i W=>∃(k:Nat)(J:Option Addr)(c4:Nat),l=.slice J k c4/\i=.int .i64 k/\k<=nl/\(es.take k).any qz=false/\W.ownsRow ws.heap.size 25 1 (.slice J k c4) k (((es.take k).map (λ e:lE=>e.r)).map ki)/\Below ws.heap.size ws W) (λ _ i _=>nl-(intOf i).toNat)
  case atStart=>exact⟨0,none,0,rfl,rfl,r_ _,rfl,Zu _ _ _ _,u_ _ _⟩
  case round=>
   obtain⟨k,J,c4,rfl,rfl,hk,T,al,ab⟩:=hrel;have s:=U (x_ T (x_ al ab));clear T al ab;have b4:=(aM.o.below s.o.2.2).cell 2;simp only[z_,y_] at b4
   by_cases z:k<nl
   ·have P:=H.o.2.1.below (y.o.trans (s.o.2.2.mono y.o.size));have aN:k<es.length:=by rw[P.len];exact z
    have aP:(k:Int)<(nl:Int):=by omega
    obtain⟨b,off,rfl,ab,aU⟩:=P.cells (by omega);obtain⟨K,L,ay,V⟩:=P.Cl z aN;obtain⟨⟨⟨m,f,q,t⟩,aR,ac⟩,O⟩:∃e,es[k]=e:=⟨_,rfl⟩
    rw[O] at K L ay V;replace K:wr.cell? ⟨b,off+k*3,none⟩=some (.slice m f q):=K;replace L:wr.cell? ⟨b,off+k*3+1,none⟩=some (.int .i64 aR):=L;replace ay:wr.cell? ⟨b,off+k*3+2,none⟩=some (.int .i64 ac):=ay;clear aU P
    go_upto_region 11 with fail
    have lD:aO (wr.alloc (.cells #[.slice m f q,.int .i64 aR,.int .i64 ac] 74)) wr.heap.size 74 [.slice m f q,.int .i64 aR,.int .i64 ac]:=aO.new wr 74 _;have X:=bK wr (.cells #[.slice m f q,.int .i64 aR,.int .i64 ac] 74);have bL:(wr.alloc (.cells #[.slice m f q,.int .i64 aR,.int .i64 ac] 74)).heap.size=wr.heap.size+1:=by simp
    generalize wr.alloc (.cells #[.slice m f q,.int .i64 aR,.int .i64 ac] 74)=v at*;have t0:=lD.cell 0;have t1:=lD.cell 1;have t2:=lD.cell 2;simp only[z_,y_] at t0 t1 t2;have Y:=U (x_ X (x_ lD bL));have d:=U (x_ (show∀p:k<es.length,es[k]'p=(⟨⟨m,f,q,t⟩,aR,ac⟩:lE) from λ _=>O) (x_ V (x_ aN z)));have aV:=V.len;replace aV:t.length=f:=aV;clear X lD K L ay O V aN z hk bL
    by_cases bM:f=0
    ·subst bM;have u:es.any qz=true:=uL d.o.2.2.1 (by rw[d.o.1 d.o.2.2.1];exact HD aV);have D:=U u;clear u
     go_wp2_with fail
     go_ret;exact⟨nL (by rw[<-G.o,if_neg (by omega),if_pos D.o]),y.o.trans ((s.o.2.2.trans (Y.o.1.mono s.o.2.2.size)).mono y.o.size)⟩
    ·have cn:((f:Int)==0)=false:=by simpa using bM
     cases M:kO aR with
     |true=>
      have u:es.any qz=true:=uL d.o.2.2.1 (by rw[d.o.1 d.o.2.2.1,zo (by show t.length≠0;omega)];show(kO aR||_)=true;rw[M];rfl);have D:=U u;have b5:=U M;clear u M
      go_wp2_with (go_at_call 114;refine(Eu _ _).mono ?_;rintro e bN ⟨rfl,rfl⟩;rw[b5.o])
      go_ret;exact⟨nL (by rw[<-G.o,if_neg (by omega),if_pos D.o]),y.o.trans ((s.o.2.2.trans (Y.o.1.mono s.o.2.2.size)).mono y.o.size)⟩
     |false=>
      cases ag:kO ac with
      |true=>
       have u:es.any qz=true:=uL d.o.2.2.1 (by rw[d.o.1 d.o.2.2.1,zo (by show t.length≠0;omega)];show(kO aR||kO ac)=true;rw[M,ag];rfl);have D:=U u;have an:=U (x_ M ag);clear u M ag
       go_wp2_with (go_at_call 114;refine(Eu _ _).mono ?_;rintro e bN ⟨rfl,rfl⟩;first|rw[an.o.1]|rw[an.o.2])
       go_ret;exact⟨nL (by rw[<-G.o,if_neg (by omega),if_pos D.o]),y.o.trans ((s.o.2.2.trans (Y.o.1.mono s.o.2.2.size)).mono y.o.size)⟩
      |false=>
       have ao:qz ⟨⟨m,f,q,t⟩,aR,ac⟩=false:=by rw[zo (by show t.length≠0;omega)];show(kO aR||kO ac)=false;rw[M,ag];rfl
       have aW:=U ao;have an:=U (x_ M ag);clear ao M ag
       go_upto_region 13 with(go_at_call 114;refine(Eu _ _).mono ?_;rintro e bN ⟨rfl,rfl⟩;first|rw[an.o.1]|rw[an.o.2])
       have bO:ws.heap.size<=v.heap.size:=Nat.le_trans s.o.2.2.size Y.o.1.size;have bP:bI ((v.alloc (.cells #[ki ⟨m,f,q,t⟩] 25)).ownsRow ws.heap.size 25 1 (.slice J k c4) k (((es.take k).map (λ e:lE=>e.r)).map ki)):=U (lR (lR s.o.2.1 Y.o.1) (bK v _));have bQ:=U bO;have b6:bI (aQ v m f q t):=U (aQ.below d.o.2.1 Y.o.1);clear bO;have aX:=d.o.2.2.2
       go_upto_region 9 with(at_builtin;refine CW rfl (.tmp 94) (.tmp 97) rfl ws.heap.size (.slice J k c4) k ((es.take k).map (λ e:lE=>e.r)) rfl bP.o (some ⟨v.heap.size,0,none⟩) 1 1 [⟨m,f,q,t⟩] rfl (nG.yf v ⟨m,f,q,t⟩ b6.o) (by omega) (by have:=bQ.o;simp;omega) ?_;intro v9 di aZ;obtain⟨⟨bR,jJ,c9⟩,b7,az⟩:=aq.lz aZ.1;obtain rfl:v9=.slice bR jJ c9:=b7;have bS:=U aZ;have b8:=U az;clear aZ az)
       have az:jJ=k+1:=b8.o;subst az;have bT:Below ws.heap.size ws di:=xx (s.o.2.2.trans ((Y.o.1.trans ((bK v (.cells #[ki ⟨m,f,q,t⟩] 25)).mono Y.o.1.size)).mono s.o.2.2.size)) bS.o.2.1 (by have:=bQ.o;simp;omega) (λ g e=>(bP.o.lt g e).1);have b9:=U bT;clear bT
       go_wp2_with fail
       go_roundw
       case rel=>
        refine⟨k+1,bR,c9,rfl,by go_num,by omega,Cj d.o.2.2.1 (by rw[d.o.1 d.o.2.2.1];exact aW.o) s.o.1,?_,b9.o⟩;have h1:=bS.o.1;rw[Zj d.o.2.2.1,d.o.1 d.o.2.2.1,Zh];exact h1
       case measure=>simp[intOf];omega
   ·have T:=Ck H.o.2.1.len z s.o.1;have aP:¬(k:Int)<(nl:Int):=by omega
    obtain rfl:k=nl:=by omega
    have ar:=U T;have a6:=U (aM.o.below s.o.2.2);have au:=U (y.o.trans (s.o.2.2.mono y.o.size));have hlen:=H.o.2.1.len;have al:wr.ownsRow ws.heap.size 25 1 (.slice J k c4) k ((es.map (λ e:lE=>e.r)).map ki):=by
     have h1:=s.o.2.1;rw[n_ (by omega)] at h1;exact h1
    have a7:=lF.lz al (λ r b'=>by
     obtain⟨e,he,rfl⟩:=p_.1 b';exact((H.o.2.1.below au.o).rows e he)) (by omega)
    rw[List.map_map] at a7;have bU:bI (lF wr J k c4 (es.map (λ e:lE=>e.r.ah))):=U a7;have S:=a6.o.cell 0;have ak:=a6.o.cell 7;simp only[z_,y_] at S ak;clear T al a7 z hk z2
    by_cases a8:el=0
    ·subst a8
     go_upto_region 17 with(go_at_call 110;refine(CN n J k c4 (es.map (λ e:lE=>e.r.ah)) wr bU.o).mono ?_;rintro e wt ⟨rfl,B⟩;rw[ai.o.2.2];have av:=U (a6.o.below B);have Z:=U (au.o.trans (B.mono au.o.size));clear S ak B;have z0:=av.o.cell 0;have bV:=av.o.cell 7;simp only[z_,y_] at z0 bV;dsimp only)
     go_wp2_with fail
     go_loopw [8] (λ i W=>∃j:Nat,i=.int .i64 j/\j<=aJ/\(C.take j).any (pK n)=false/\Below wt.heap.size wt W) (λ i _=>aJ-(intOf i).toNat)
     case atStart=>exact⟨0,rfl,r_ _,rfl,u_ _ _⟩
     case round=>
      obtain⟨j,rfl,ca,T,ab⟩:=hrel;have E:=U (x_ T ab);clear T ab;have cc:=(av.o.below E.o.2).cell 7;simp only[z_,y_] at cc
      by_cases z:j<aJ
      ·have Q:=H.o.2.2.2.2.2.below (Z.o.trans (E.o.2.mono Z.o.size));have a':j<C.length:=by rw[Q.len];exact z
       have aP:(j:Int)<(aJ:Int):=by omega
       obtain⟨b,off,rfl,ab,aU⟩:=Q.cells (by omega);obtain⟨K,L,V⟩:=Q.Cn z a';obtain⟨⟨N,⟨m,f,q,t⟩⟩,O⟩:∃e,C[j]=e:=⟨_,rfl⟩
       rw[O] at K L V;replace K:wr.cell? ⟨b,off+j*2,none⟩=some (.int .i64 N):=K;replace L:wr.cell? ⟨b,off+j*2+1,none⟩=some (.slice m f q):=L;have S:=(av.o.below E.o.2).cell 0;simp only[z_,y_] at S;clear aU Q z0 bV
       go_upto_region 21 with fail
       have lD:aO (wr.alloc (.cells #[.int .i64 N,.slice m f q] 126)) wr.heap.size 126 [.int .i64 N,.slice m f q]:=aO.new wr 126 _;have X:=bK wr (.cells #[.int .i64 N,.slice m f q] 126);generalize wr.alloc (.cells #[.int .i64 N,.slice m f q] 126)=v at*;have t0:=lD.cell 0;have t1:=lD.cell 1;simp only[z_,y_] at t0 t1;have cd:=((av.o.below E.o.2).below X).cell 0;simp only[z_,y_] at cd;have d:=U (x_ (show∀p:j<C.length,C[j]'p=(⟨N,⟨m,f,q,t⟩⟩:mc) from λ _=>O) (x_ (aQ.below V X) (x_ a' z)));have aA:=U (Z.o.trans ((E.o.2.trans (X.mono E.o.2.size)).mono Z.o.size));have bW:=U (E.o.2.trans (X.mono E.o.2.size));clear lD K L O V a' z ca X S
       by_cases aX:N<1
       ·have u:C.any (pK n)=true:=uL d.o.2.2.1 (by rw[d.o.1 d.o.2.2.1];unfold pK;rw[decide_eq_true aX];rfl);have D:=U u;clear u
        go_wp2_with fail
        go_ret;exact⟨nL (by rw[<-G.o,if_neg (by omega),if_neg (by rw[ar.o];exact l_),if_neg (by omega),if_pos D.o]),aA.o⟩
       ·by_cases bX:3<N
        ·have u:C.any (pK n)=true:=uL d.o.2.2.1 (by rw[d.o.1 d.o.2.2.1];unfold pK;rw[decide_eq_true bX];simp);have D:=U u;clear u
         go_wp2_with fail
         go_ret;exact⟨nL (by rw[<-G.o,if_neg (by omega),if_neg (by rw[ar.o];exact l_),if_neg (by omega),if_pos D.o]),aA.o⟩
        ·obtain⟨bY,bZ⟩:∃x,kZ n [t]=x:=⟨_,rfl⟩
         have aB:=U bZ;have b0:=U (CN n (some ⟨v.heap.size,0,none⟩) 1 1 [t] _ (nG.yf v ⟨m,f,q,t⟩ d.o.2.1).A2);clear bZ
         by_cases ba:bY=0
         ·subst ba;have ao:pK n ⟨N,⟨m,f,q,t⟩⟩=false:=by
           unfold pK;rw[decide_eq_false aX,decide_eq_false bX,aB.o];simp
          have aW:=U ao;clear ao
          go_wp2_with (go_at_call 110;refine b0.o.mono ?_;rintro e cf ⟨rfl,B⟩;rw[aB.o];have bb:=U B;clear B)
          go_roundw
          case rel=>exact⟨j+1,by go_num,by have:=d.o.2.2.2;omega,Cj d.o.2.2.1 (by rw[d.o.1 d.o.2.2.1];exact aW.o) E.o.1,bW.o.trans (((bK v _).trans (bb.o.mono (bK v _).size)).mono bW.o.size)⟩
          case measure=>have:=d.o.2.2.2;simp[intOf];omega
         ·have u:C.any (pK n)=true:=uL d.o.2.2.1 (by rw[d.o.1 d.o.2.2.1];unfold pK;rw[aB.o,decide_eq_true ba];simp);have D:=U u;have cp:(bY==0)=false:=by simpa using ba
          clear u
          go_wp2_with (go_at_call 110;refine b0.o.mono ?_;rintro e cf ⟨rfl,B⟩;rw[aB.o];have bb:=U B;clear B)
          go_ret;exact⟨nL (by rw[<-G.o,if_neg (by omega),if_neg (by rw[ar.o];exact l_),if_neg (by omega),if_pos D.o]),aA.o.trans (((bK v _).trans (bb.o.mono (bK v _).size)).mono aA.o.size)⟩
      ·have aE:=Ck H.o.2.2.2.2.2.len z E.o.1;have cg:=U aE;have aP:¬(j:Int)<(aJ:Int):=by omega
       clear aE
       go_wp2_with fail
       go_ret;exact⟨nL (by rw[<-G.o,if_neg (by omega),if_neg (by rw[ar.o];exact l_),if_neg (by omega),if_neg (by rw[cg.o];exact l_)]),Z.o.trans (E.o.2.mono Z.o.size)⟩
    ·have cq:(el==0)=false:=by simpa using a8
     go_wp2_with (go_at_call 110;refine(CN n J k c4 (es.map (λ e:lE=>e.r.ah)) wr bU.o).mono ?_;rintro e wt ⟨rfl,B⟩;rw[ai.o.2.2];have Z:=U (au.o.trans (B.mono au.o.size));clear B)
     go_ret;exact⟨nL (by rw[<-G.o,if_neg (by omega),if_neg (by rw[ar.o];exact l_),if_pos a8]),Z.o⟩
 ·have cr:(aw==0)=false:=by simpa using aL
  go_wp2_with (go_at_call 110;refine aK.o.mono ?_;rintro e ws ⟨rfl,af⟩;rw[ai.o.2.1];have y:=U (ae.o.trans (af.mono ae.o.size));clear af)
  go_ret;exact⟨nL (by rw[<-G.o,if_pos aL]),y.o⟩
theorem PZ(n:Int)(act ord:List Int)(d:Int)(R:List Bool){jB no kE gC nl aJ:Nat}{bh:Option Addr}{aS:Nat}{gJ:Option Addr}{cl:Nat}{A:Option Addr}{c:Nat}{A':Option Addr}{c':Nat}{bt:Option Addr}{bk:Nat}{aT:Option Addr}{aY:Nat}{w:World}
  (J:aQ w A jB c act) (K:aQ w A' no c' ord) (O:lB w bt kE bk R) (P:n<0\/65536<n\/p6 act ord d=false\/(jB:Int)≠n+1\/(no:Int)≠n\/(kE:Int)≠n+1\/jE R 0=true):
  Calls w_ 49 #[nP n bh gC aS gJ nl cl A jB c A' no c' d bt kE bk aT aJ aY] w λ e w'=>e=.returned (.int .i64 1)/\Below w.heap.size w w':=by
 unfold nP;have i:=U (bK w (.cells #[.int .i64 n,.slice bh gC aS,.slice gJ nl cl,.slice A jB c,.slice A' no c',.int .i64 d,.slice bt kE bk,.slice aT aJ aY] 47));have ad:=J.small;have ae:=K.small
 by_cases af:n<0
 ·clear P J K O;go_enter Tryz.func49,Tryz.ntmps49
  have g:aO (w.alloc (.cells #[.int .i64 n,.slice bh gC aS,.slice gJ nl cl,.slice A jB c,.slice A' no c',.int .i64 d,.slice bt kE bk,.slice aT aJ aY] 47)) w.heap.size 47 [.int .i64 n,.slice bh gC aS,.slice gJ nl cl,.slice A jB c,.slice A' no c',.int .i64 d,.slice bt kE bk,.slice aT aJ aY]:=aO.new w 47 _
  go_wp2_with fail
  go_ret;exact⟨rfl,i.o⟩
 by_cases h1:65536<n
 ·clear P J K O;go_enter Tryz.func49,Tryz.ntmps49
  have g:aO (w.alloc (.cells #[.int .i64 n,.slice bh gC aS,.slice gJ nl cl,.slice A jB c,.slice A' no c',.int .i64 d,.slice bt kE bk,.slice aT aJ aY] 47)) w.heap.size 47 [.int .i64 n,.slice bh gC aS,.slice gJ nl cl,.slice A jB c,.slice A' no c',.int .i64 d,.slice bt kE bk,.slice aT aJ aY]:=aO.new w 47 _
  go_wp2_with fail
  go_ret;exact⟨rfl,i.o⟩
 obtain⟨n,rfl⟩:∃k:Nat,n=k:=⟨n.toNat,by omega⟩
 have wn:q_.wrap ((n:Int)+1)=(n:Int)+1:=by rw[s_];omega
 have Z:=U (x_ J (x_ K O));have L:=U (CZ A jB c act A' no c' ord d _ (J.below i.o) (K.below i.o));have aa:=U P;clear J K O P
 cases hk:p6 act ord d with
 |false=>
  have I:=U hk;clear hk;go_enter Tryz.func49,Tryz.ntmps49
  have g:aO (w.alloc (.cells #[.int .i64 n,.slice bh gC aS,.slice gJ nl cl,.slice A jB c,.slice A' no c',.int .i64 d,.slice bt kE bk,.slice aT aJ aY] 47)) w.heap.size 47 [.int .i64 n,.slice bh gC aS,.slice gJ nl cl,.slice A jB c,.slice A' no c',.int .i64 d,.slice bt kE bk,.slice aT aJ aY]:=aO.new w 47 _;have j:=U g;clear g
  go_upto_region 1 with fail
  generalize w.alloc (.cells #[.int .i64 n,.slice bh gC aS,.slice gJ nl cl,.slice A jB c,.slice A' no c',.int .i64 d,.slice bt kE bk,.slice aT aJ aY] 47)=w1 at*;have b:=j.o.cell;have l:=b 0;have m:=b 1;have q:=b 2;have r:=b 3;have s:=b 4;have t:=b 5;have u:=b 6;have v:=b 7;simp only[z_,y_] at l m q r s t u v;clear b
  go_wp2_with (go_at_call 111;refine L.o.mono ?_;rintro e wr ⟨rfl,f⟩;have y:=U (i.o.trans (f.mono i.o.size));have b:=(j.o.below f).cell;have z:=b 0;have B:=b 1;have C:=b 2;have D:=b 3;have E:=b 4;have F:=b 5;have G:=b 6;have H:=b 7;simp only[z_,y_] at z B C D E F G H;clear b f;rw[I.o];dsimp only[qU];clear l m q r s t u v)
  go_ret;exact⟨rfl,y.o⟩
 |true=>
  have I:=U hk;clear hk
  by_cases T:jB=n+1
  rotate_left
  ·have d4:¬(jB:Int)=(n:Int)+1:=by omega
   clear T;go_enter Tryz.func49,Tryz.ntmps49
   have g:aO (w.alloc (.cells #[.int .i64 n,.slice bh gC aS,.slice gJ nl cl,.slice A jB c,.slice A' no c',.int .i64 d,.slice bt kE bk,.slice aT aJ aY] 47)) w.heap.size 47 [.int .i64 n,.slice bh gC aS,.slice gJ nl cl,.slice A jB c,.slice A' no c',.int .i64 d,.slice bt kE bk,.slice aT aJ aY]:=aO.new w 47 _;have j:=U g;clear g
   go_upto_region 1 with fail
   generalize w.alloc (.cells #[.int .i64 n,.slice bh gC aS,.slice gJ nl cl,.slice A jB c,.slice A' no c',.int .i64 d,.slice bt kE bk,.slice aT aJ aY] 47)=w1 at*;have b:=j.o.cell;have l:=b 0;have m:=b 1;have q:=b 2;have r:=b 3;have s:=b 4;have t:=b 5;have u:=b 6;have v:=b 7;simp only[z_,y_] at l m q r s t u v;clear b
   go_wp2_with (go_at_call 111;refine L.o.mono ?_;rintro e wr ⟨rfl,f⟩;have y:=U (i.o.trans (f.mono i.o.size));have b:=(j.o.below f).cell;have z:=b 0;have B:=b 1;have C:=b 2;have D:=b 3;have E:=b 4;have F:=b 5;have G:=b 6;have H:=b 7;simp only[z_,y_] at z B C D E F G H;clear b f;rw[I.o];dsimp only[qU];clear l m q r s t u v)
   go_ret;exact⟨rfl,y.o⟩
  subst T
  by_cases V:no=n
  rotate_left
  ·have d5:¬(no:Int)=(n:Int):=by omega
   clear V;go_enter Tryz.func49,Tryz.ntmps49
   have g:aO (w.alloc (.cells #[.int .i64 n,.slice bh gC aS,.slice gJ nl cl,.slice A (n+1) c,.slice A' no c',.int .i64 d,.slice bt kE bk,.slice aT aJ aY] 47)) w.heap.size 47 [.int .i64 n,.slice bh gC aS,.slice gJ nl cl,.slice A (n+1) c,.slice A' no c',.int .i64 d,.slice bt kE bk,.slice aT aJ aY]:=aO.new w 47 _;have j:=U g;clear g
   go_upto_region 1 with fail
   generalize w.alloc (.cells #[.int .i64 n,.slice bh gC aS,.slice gJ nl cl,.slice A (n+1) c,.slice A' no c',.int .i64 d,.slice bt kE bk,.slice aT aJ aY] 47)=w1 at*;have b:=j.o.cell;have l:=b 0;have m:=b 1;have q:=b 2;have r:=b 3;have s:=b 4;have t:=b 5;have u:=b 6;have v:=b 7;simp only[z_,y_] at l m q r s t u v;clear b
   go_wp2_with (go_at_call 111;refine L.o.mono ?_;rintro e wr ⟨rfl,f⟩;have y:=U (i.o.trans (f.mono i.o.size));have b:=(j.o.below f).cell;have z:=b 0;have B:=b 1;have C:=b 2;have D:=b 3;have E:=b 4;have F:=b 5;have G:=b 6;have H:=b 7;simp only[z_,y_] at z B C D E F G H;clear b f;rw[I.o];dsimp only[qU];clear l m q r s t u v)
   go_ret;exact⟨rfl,y.o⟩
  subst V
  by_cases W:kE=no+1
  rotate_left
  ·have d6:¬(kE:Int)=(no:Int)+1:=by omega
   clear W;go_enter Tryz.func49,Tryz.ntmps49
   have g:aO (w.alloc (.cells #[.int .i64 no,.slice bh gC aS,.slice gJ nl cl,.slice A (no+1) c,.slice A' no c',.int .i64 d,.slice bt kE bk,.slice aT aJ aY] 47)) w.heap.size 47 [.int .i64 no,.slice bh gC aS,.slice gJ nl cl,.slice A (no+1) c,.slice A' no c',.int .i64 d,.slice bt kE bk,.slice aT aJ aY]:=aO.new w 47 _;have j:=U g;clear g
   go_upto_region 1 with fail
   generalize w.alloc (.cells #[.int .i64 no,.slice bh gC aS,.slice gJ nl cl,.slice A (no+1) c,.slice A' no c',.int .i64 d,.slice bt kE bk,.slice aT aJ aY] 47)=w1 at*;have b:=j.o.cell;have l:=b 0;have m:=b 1;have q:=b 2;have r:=b 3;have s:=b 4;have t:=b 5;have u:=b 6;have v:=b 7;simp only[z_,y_] at l m q r s t u v;clear b
   go_wp2_with (go_at_call 111;refine L.o.mono ?_;rintro e wr ⟨rfl,f⟩;have y:=U (i.o.trans (f.mono i.o.size));have b:=(j.o.below f).cell;have z:=b 0;have B:=b 1;have C:=b 2;have D:=b 3;have E:=b 4;have F:=b 5;have G:=b 6;have H:=b 7;simp only[z_,y_] at z B C D E F G H;clear b f;rw[I.o];dsimp only[qU];clear l m q r s t u v)
   go_ret;exact⟨rfl,y.o⟩
  subst W;have X:jE R 0=true:=by
   rcases aa.o with h|h|h|h|h|h|h
   ·omega
   ·omega
   ·rw[I.o] at h;exact l_ h
   ·omega
   ·omega
   ·omega
   ·exact h
  obtain⟨M,N,rfl,Y,S⟩:=Z.o.2.2.Cw (by omega);rw[X] at S;have Q:=U (x_ Y S);clear Y S X;go_enter Tryz.func49,Tryz.ntmps49
  have g:aO (w.alloc (.cells #[.int .i64 no,.slice bh gC aS,.slice gJ nl cl,.slice A (no+1) c,.slice A' no c',.int .i64 d,.slice (some ⟨M,N,none⟩) (no+1) bk,.slice aT aJ aY] 47)) w.heap.size 47 [.int .i64 no,.slice bh gC aS,.slice gJ nl cl,.slice A (no+1) c,.slice A' no c',.int .i64 d,.slice (some ⟨M,N,none⟩) (no+1) bk,.slice aT aJ aY]:=aO.new w 47 _;have j:=U g;clear g
  go_upto_region 1 with fail
  generalize w.alloc (.cells #[.int .i64 no,.slice bh gC aS,.slice gJ nl cl,.slice A (no+1) c,.slice A' no c',.int .i64 d,.slice (some ⟨M,N,none⟩) (no+1) bk,.slice aT aJ aY] 47)=w1 at*;have ab:=(i.o.cell (p:=⟨M,N,none⟩) Q.o.1).trans Q.o.2;have b:=j.o.cell;have l:=b 0;have m:=b 1;have q:=b 2;have r:=b 3;have s:=b 4;have t:=b 5;have u:=b 6;have v:=b 7;simp only[z_,y_] at l m q r s t u v;clear b
  go_wp2_with (go_at_call 111;refine L.o.mono ?_;rintro e wr ⟨rfl,f⟩;have y:=U (i.o.trans (f.mono i.o.size));have b:=(j.o.below f).cell;have z:=b 0;have B:=b 1;have C:=b 2;have D:=b 3;have E:=b 4;have F:=b 5;have G:=b 6;have H:=b 7;simp only[z_,y_] at z B C D E F G H;clear b f;rw[I.o];dsimp only[qU];clear l m q r s t u v ab;have ag:=(y.o.cell (p:=⟨M,N,none⟩) Q.o.1).trans Q.o.2)
  go_ret;exact⟨rfl,y.o⟩
theorem P0(n:Int)(act ord:List Int)(d:Int)(R:List Bool){jB no kE gC nl aJ:Nat}{bh:Option Addr}{aS:Nat}{gJ:Option Addr}{cl:Nat}{A:Option Addr}{c:Nat}{A':Option Addr}{c':Nat}{bt:Option Addr}{bk:Nat}{aT:Option Addr}{aY:Nat}{w:World}
  (J:aQ w A jB c act) (K:aQ w A' no c' ord) (O:lB w bt kE bk R) (P:n<0\/65536<n\/p6 act ord d=false\/(jB:Int)≠n+1\/(no:Int)≠n\/(kE:Int)≠n+1\/jE R 0=true):
  Calls w_ 50 #[nP n bh gC aS gJ nl cl A jB c A' no c' d bt kE bk aT aJ aY] w λ e w'=>e=.returned (.int .i64 1)/\Below w.heap.size w w':=by
 unfold nP;have i:=U (bK w (.cells #[.int .i64 n,.slice bh gC aS,.slice gJ nl cl,.slice A jB c,.slice A' no c',.int .i64 d,.slice bt kE bk,.slice aT aJ aY] 47));have ad:=J.small;have ae:=K.small
 by_cases af:n<0
 ·clear P J K O;go_enter Tryz.func50,Tryz.ntmps50
  have g:aO (w.alloc (.cells #[.int .i64 n,.slice bh gC aS,.slice gJ nl cl,.slice A jB c,.slice A' no c',.int .i64 d,.slice bt kE bk,.slice aT aJ aY] 47)) w.heap.size 47 [.int .i64 n,.slice bh gC aS,.slice gJ nl cl,.slice A jB c,.slice A' no c',.int .i64 d,.slice bt kE bk,.slice aT aJ aY]:=aO.new w 47 _
  go_wp2_with fail
  go_ret;exact⟨rfl,i.o⟩
 by_cases h1:65536<n
 ·clear P J K O;go_enter Tryz.func50,Tryz.ntmps50
  have g:aO (w.alloc (.cells #[.int .i64 n,.slice bh gC aS,.slice gJ nl cl,.slice A jB c,.slice A' no c',.int .i64 d,.slice bt kE bk,.slice aT aJ aY] 47)) w.heap.size 47 [.int .i64 n,.slice bh gC aS,.slice gJ nl cl,.slice A jB c,.slice A' no c',.int .i64 d,.slice bt kE bk,.slice aT aJ aY]:=aO.new w 47 _
  go_wp2_with fail
  go_ret;exact⟨rfl,i.o⟩
 obtain⟨n,rfl⟩:∃k:Nat,n=k:=⟨n.toNat,by omega⟩
 have wn:q_.wrap ((n:Int)+1)=(n:Int)+1:=by rw[s_];omega
 have Z:=U (x_ J (x_ K O));have L:=U (Ie A jB c act A' no c' ord d _ (J.below i.o) (K.below i.o));have aa:=U P;clear J K O P
 cases hk:p6 act ord d with
 |false=>
  have I:=U hk;clear hk;go_enter Tryz.func50,Tryz.ntmps50
  have g:aO (w.alloc (.cells #[.int .i64 n,.slice bh gC aS,.slice gJ nl cl,.slice A jB c,.slice A' no c',.int .i64 d,.slice bt kE bk,.slice aT aJ aY] 47)) w.heap.size 47 [.int .i64 n,.slice bh gC aS,.slice gJ nl cl,.slice A jB c,.slice A' no c',.int .i64 d,.slice bt kE bk,.slice aT aJ aY]:=aO.new w 47 _;have j:=U g;clear g
  go_upto_region 1 with fail
  generalize w.alloc (.cells #[.int .i64 n,.slice bh gC aS,.slice gJ nl cl,.slice A jB c,.slice A' no c',.int .i64 d,.slice bt kE bk,.slice aT aJ aY] 47)=w1 at*;have b:=j.o.cell;have l:=b 0;have m:=b 1;have q:=b 2;have r:=b 3;have s:=b 4;have t:=b 5;have u:=b 6;have v:=b 7;simp only[z_,y_] at l m q r s t u v;clear b
  go_wp2_with (go_at_call 113;refine L.o.mono ?_;rintro e wr ⟨rfl,f⟩;have y:=U (i.o.trans (f.mono i.o.size));have b:=(j.o.below f).cell;have z:=b 0;have B:=b 1;have C:=b 2;have D:=b 3;have E:=b 4;have F:=b 5;have G:=b 6;have H:=b 7;simp only[z_,y_] at z B C D E F G H;clear b f;rw[I.o];dsimp only[qU];clear l m q r s t u v)
  go_ret;exact⟨rfl,y.o⟩
 |true=>
  have I:=U hk;clear hk
  by_cases T:jB=n+1
  rotate_left
  ·have d4:¬(jB:Int)=(n:Int)+1:=by omega
   clear T;go_enter Tryz.func50,Tryz.ntmps50
   have g:aO (w.alloc (.cells #[.int .i64 n,.slice bh gC aS,.slice gJ nl cl,.slice A jB c,.slice A' no c',.int .i64 d,.slice bt kE bk,.slice aT aJ aY] 47)) w.heap.size 47 [.int .i64 n,.slice bh gC aS,.slice gJ nl cl,.slice A jB c,.slice A' no c',.int .i64 d,.slice bt kE bk,.slice aT aJ aY]:=aO.new w 47 _;have j:=U g;clear g
   go_upto_region 1 with fail
   generalize w.alloc (.cells #[.int .i64 n,.slice bh gC aS,.slice gJ nl cl,.slice A jB c,.slice A' no c',.int .i64 d,.slice bt kE bk,.slice aT aJ aY] 47)=w1 at*;have b:=j.o.cell;have l:=b 0;have m:=b 1;have q:=b 2;have r:=b 3;have s:=b 4;have t:=b 5;have u:=b 6;have v:=b 7;simp only[z_,y_] at l m q r s t u v;clear b
   go_wp2_with (go_at_call 113;refine L.o.mono ?_;rintro e wr ⟨rfl,f⟩;have y:=U (i.o.trans (f.mono i.o.size));have b:=(j.o.below f).cell;have z:=b 0;have B:=b 1;have C:=b 2;have D:=b 3;have E:=b 4;have F:=b 5;have G:=b 6;have H:=b 7;simp only[z_,y_] at z B C D E F G H;clear b f;rw[I.o];dsimp only[qU];clear l m q r s t u v)
   go_ret;exact⟨rfl,y.o⟩
  subst T
  by_cases V:no=n
  rotate_left
  ·have d5:¬(no:Int)=(n:Int):=by omega
   clear V;go_enter Tryz.func50,Tryz.ntmps50
   have g:aO (w.alloc (.cells #[.int .i64 n,.slice bh gC aS,.slice gJ nl cl,.slice A (n+1) c,.slice A' no c',.int .i64 d,.slice bt kE bk,.slice aT aJ aY] 47)) w.heap.size 47 [.int .i64 n,.slice bh gC aS,.slice gJ nl cl,.slice A (n+1) c,.slice A' no c',.int .i64 d,.slice bt kE bk,.slice aT aJ aY]:=aO.new w 47 _;have j:=U g;clear g
   go_upto_region 1 with fail
   generalize w.alloc (.cells #[.int .i64 n,.slice bh gC aS,.slice gJ nl cl,.slice A (n+1) c,.slice A' no c',.int .i64 d,.slice bt kE bk,.slice aT aJ aY] 47)=w1 at*;have b:=j.o.cell;have l:=b 0;have m:=b 1;have q:=b 2;have r:=b 3;have s:=b 4;have t:=b 5;have u:=b 6;have v:=b 7;simp only[z_,y_] at l m q r s t u v;clear b
   go_wp2_with (go_at_call 113;refine L.o.mono ?_;rintro e wr ⟨rfl,f⟩;have y:=U (i.o.trans (f.mono i.o.size));have b:=(j.o.below f).cell;have z:=b 0;have B:=b 1;have C:=b 2;have D:=b 3;have E:=b 4;have F:=b 5;have G:=b 6;have H:=b 7;simp only[z_,y_] at z B C D E F G H;clear b f;rw[I.o];dsimp only[qU];clear l m q r s t u v)
   go_ret;exact⟨rfl,y.o⟩
  subst V
  by_cases W:kE=no+1
  rotate_left
  ·have d6:¬(kE:Int)=(no:Int)+1:=by omega
   clear W;go_enter Tryz.func50,Tryz.ntmps50
   have g:aO (w.alloc (.cells #[.int .i64 no,.slice bh gC aS,.slice gJ nl cl,.slice A (no+1) c,.slice A' no c',.int .i64 d,.slice bt kE bk,.slice aT aJ aY] 47)) w.heap.size 47 [.int .i64 no,.slice bh gC aS,.slice gJ nl cl,.slice A (no+1) c,.slice A' no c',.int .i64 d,.slice bt kE bk,.slice aT aJ aY]:=aO.new w 47 _;have j:=U g;clear g
   go_upto_region 1 with fail
   generalize w.alloc (.cells #[.int .i64 no,.slice bh gC aS,.slice gJ nl cl,.slice A (no+1) c,.slice A' no c',.int .i64 d,.slice bt kE bk,.slice aT aJ aY] 47)=w1 at*;have b:=j.o.cell;have l:=b 0;have m:=b 1;have q:=b 2;have r:=b 3;have s:=b 4;have t:=b 5;have u:=b 6;have v:=b 7;simp only[z_,y_] at l m q r s t u v;clear b
   go_wp2_with (go_at_call 113;refine L.o.mono ?_;rintro e wr ⟨rfl,f⟩;have y:=U (i.o.trans (f.mono i.o.size));have b:=(j.o.below f).cell;have z:=b 0;have B:=b 1;have C:=b 2;have D:=b 3;have E:=b 4;have F:=b 5;have G:=b 6;have H:=b 7;simp only[z_,y_] at z B C D E F G H;clear b f;rw[I.o];dsimp only[qU];clear l m q r s t u v)
   go_ret;exact⟨rfl,y.o⟩
  subst W;have X:jE R 0=true:=by
   rcases aa.o with h|h|h|h|h|h|h
   ·omega
   ·omega
   ·rw[I.o] at h;exact l_ h
   ·omega
   ·omega
   ·omega
   ·exact h
  obtain⟨M,N,rfl,Y,S⟩:=Z.o.2.2.Cw (by omega);rw[X] at S;have Q:=U (x_ Y S);clear Y S X;go_enter Tryz.func50,Tryz.ntmps50
  have g:aO (w.alloc (.cells #[.int .i64 no,.slice bh gC aS,.slice gJ nl cl,.slice A (no+1) c,.slice A' no c',.int .i64 d,.slice (some ⟨M,N,none⟩) (no+1) bk,.slice aT aJ aY] 47)) w.heap.size 47 [.int .i64 no,.slice bh gC aS,.slice gJ nl cl,.slice A (no+1) c,.slice A' no c',.int .i64 d,.slice (some ⟨M,N,none⟩) (no+1) bk,.slice aT aJ aY]:=aO.new w 47 _;have j:=U g;clear g
  go_upto_region 1 with fail
  generalize w.alloc (.cells #[.int .i64 no,.slice bh gC aS,.slice gJ nl cl,.slice A (no+1) c,.slice A' no c',.int .i64 d,.slice (some ⟨M,N,none⟩) (no+1) bk,.slice aT aJ aY] 47)=w1 at*;have ab:=(i.o.cell (p:=⟨M,N,none⟩) Q.o.1).trans Q.o.2;have b:=j.o.cell;have l:=b 0;have m:=b 1;have q:=b 2;have r:=b 3;have s:=b 4;have t:=b 5;have u:=b 6;have v:=b 7;simp only[z_,y_] at l m q r s t u v;clear b
  go_wp2_with (go_at_call 113;refine L.o.mono ?_;rintro e wr ⟨rfl,f⟩;have y:=U (i.o.trans (f.mono i.o.size));have b:=(j.o.below f).cell;have z:=b 0;have B:=b 1;have C:=b 2;have D:=b 3;have E:=b 4;have F:=b 5;have G:=b 6;have H:=b 7;simp only[z_,y_] at z B C D E F G H;clear b f;rw[I.o];dsimp only[qU];clear l m q r s t u v ab;have ag:=(y.o.cell (p:=⟨M,N,none⟩) Q.o.1).trans Q.o.2)
  go_ret;exact⟨rfl,y.o⟩
theorem P3(s:kF){bh:Option Addr}{aS:Nat}{gJ:Option Addr}{cl:Nat}{A:Option Addr}{c:Nat}{A':Option Addr}{c':Nat}{bt:Option Addr}{bk:Nat}{aT:Option Addr}{aY:Nat}{w:World}(m:s.es.length<=1000000)
  (b:pT w s bh aS gJ cl A c A' c' bt bk aT aY):
  Calls w_ 49 #[nP s.n bh s.gs.length aS gJ s.es.length cl A s.act.length c A' s.ord.length c' s.aM bt s.bl.length bk aT s.aA.length aY] w λ e w'=>e=.returned (.int .i64 (ue s))/\Below w.heap.size w w':=by
 unfold ue
 by_cases d:ud s=true
 ·rw[if_pos d];refine PZ s.n s.act s.ord s.aM s.bl b.act b.ord b.bl ?_;unfold ud at d;simp only[g_,decide_eq_true_eq,a_] at d;rcases d with(((((h|h)|h)|h)|h)|h)|h
  ·exact .inl h
  ·exact .inr (.inl h)
  ·exact .inr (.inr (.inl h))
  ·exact .inr (.inr (.inr (.inl h)))
  ·exact .inr (.inr (.inr (.inr (.inl h))))
  ·exact .inr (.inr (.inr (.inr (.inr (.inl h)))))
  ·exact .inr (.inr (.inr (.inr (.inr (.inr h)))))
 ·rw[if_neg d];unfold ud at d;simp only[g_,decide_eq_true_eq,a_,not_or,Z5,ZZ,Z6] at d;obtain⟨⟨⟨⟨⟨⟨h1,r⟩,o⟩,t⟩,u⟩,v⟩,p⟩:=d;obtain⟨n,q⟩:∃k:Nat,s.n=k:=⟨s.n.toNat,by omega⟩
  have f:s.act.length=n+1:=by omega
  have g:s.ord.length=n:=by omega
  have hp:s.bl.length=n+1:=by omega
  have i:=b.act;have j:=b.ord;have l:=b.bl;rw[f] at i;rw[g] at j;rw[hp] at l;rw[q,f,g,hp];exact HE n s.gs s.es s.act s.ord s.aM s.bl s.aA (by omega) o p m b.gs b.es i j l b.aA
theorem P4(s:kF){bh:Option Addr}{aS:Nat}{gJ:Option Addr}{cl:Nat}{A:Option Addr}{c:Nat}{A':Option Addr}{c':Nat}{bt:Option Addr}{bk:Nat}{aT:Option Addr}{aY:Nat}{w:World}(m:s.es.length<=1000000)
  (b:pT w s bh aS gJ cl A c A' c' bt bk aT aY):
  Calls w_ 50 #[nP s.n bh s.gs.length aS gJ s.es.length cl A s.act.length c A' s.ord.length c' s.aM bt s.bl.length bk aT s.aA.length aY] w λ e w'=>e=.returned (.int .i64 (ue s))/\Below w.heap.size w w':=by
 unfold ue
 by_cases d:ud s=true
 ·rw[if_pos d];refine P0 s.n s.act s.ord s.aM s.bl b.act b.ord b.bl ?_;unfold ud at d;simp only[g_,decide_eq_true_eq,a_] at d;rcases d with(((((h|h)|h)|h)|h)|h)|h
  ·exact .inl h
  ·exact .inr (.inl h)
  ·exact .inr (.inr (.inl h))
  ·exact .inr (.inr (.inr (.inl h)))
  ·exact .inr (.inr (.inr (.inr (.inl h))))
  ·exact .inr (.inr (.inr (.inr (.inr (.inl h)))))
  ·exact .inr (.inr (.inr (.inr (.inr (.inr h)))))
 ·rw[if_neg d];unfold ud at d;simp only[g_,decide_eq_true_eq,a_,not_or,Z5,ZZ,Z6] at d;obtain⟨⟨⟨⟨⟨⟨h1,r⟩,o⟩,t⟩,u⟩,v⟩,p⟩:=d;obtain⟨n,q⟩:∃k:Nat,s.n=k:=⟨s.n.toNat,by omega⟩
  have f:s.act.length=n+1:=by omega
  have g:s.ord.length=n:=by omega
  have hp:s.bl.length=n+1:=by omega
  have i:=b.act;have j:=b.ord;have l:=b.bl;rw[f] at i;rw[g] at j;rw[hp] at l;rw[q,f,g,hp];exact PY n s.gs s.es s.act s.ord s.aM s.bl s.aA (by omega) o p m b.gs b.es i j l b.aA
def P5(s:kF):Prop:=yo s.gs=true/\s.es.length<=200/\s.bl.length<=500/\s.act.length<=500/\s.ord.length<=500/\s.aA.length<=1000
def Ev(w:World)(gs:List (List Int))(nl b c no d:Nat)(e:Ending)(W:World):Prop:=
 ∃r:Bool,e=.returned (.bool r)/\Below w.heap.size w W/\(r=true->yo gs=true/\nl<=200/\b<=500/\c<=500/\no<=500/\d<=1000)
theorem P6(n:Int)(gs:List (List Int))(es:List lE)(f:Int){jB no kE gC nl aJ:Nat}{bh:Option Addr}{aS:Nat}{gJ:Option Addr}{cl:Nat}{A:Option Addr}{c:Nat}{A':Option Addr}{c':Nat}{bt:Option Addr}{bk:Nat}{aT:Option Addr}{aY:Nat}{w:World}
  (t:lF w bh gC aS gs) (m:qP w gJ nl cl es):
  Calls w_ 41 #[nP n bh gC aS gJ nl cl A jB c A' no c' f bt kE bk aT aJ aY] w (Ev w gs nl kE jB no aJ):=by
 unfold nP;have O:=m.mW;have u:=U (x_ t m);clear t m;have j:=U (bK w (.cells #[.int .i64 n,.slice bh gC aS,.slice gJ nl cl,.slice A jB c,.slice A' no c',.int .i64 f,.slice bt kE bk,.slice aT aJ aY] 47));go_enter Tryz.func41,Tryz.ntmps41
 have C:=U (show aO (w.alloc (.cells #[.int .i64 n,.slice bh gC aS,.slice gJ nl cl,.slice A jB c,.slice A' no c',.int .i64 f,.slice bt kE bk,.slice aT aJ aY] 47)) w.heap.size 47 [.int .i64 n,.slice bh gC aS,.slice gJ nl cl,.slice A jB c,.slice A' no c',.int .i64 f,.slice bt kE bk,.slice aT aJ aY] from aO.new w 47 _)
 go_upto_region 1 with fail
 generalize w.alloc (.cells #[.int .i64 n,.slice bh gC aS,.slice gJ nl cl,.slice A jB c,.slice A' no c',.int .i64 f,.slice bt kE bk,.slice aT aJ aY] 47)=w1 at*;have d:=C.o.cell;have D:=d 0;have E:=d 1;have F:=d 2;have G:=d 3;have H:=d 4;have I:=d 5;have J:=d 6;have K:=d 7;simp only[z_,y_] at D E F G H I J K;clear d;have l:=U (x_ (u.o.1.below j.o) (u.o.2.below j.o));have v:=U (show∀r:Bool,r=false->Ev w gs nl kE jB no aJ (.returned (.bool r)) w1 from λ r p=>⟨r,rfl,j.o,λ h=>by rw[p] at h;cases h⟩);have y:=U (show∀r:Bool,(r=true->yo gs=true/\nl<=200/\kE<=500/\jB<=500/\no<=500/\aJ<=1000)->Ev w gs nl kE jB no aJ (.returned (.bool r)) w1 from λ r p=>⟨r,rfl,j.o,p⟩)
 go_wp2_with fail
 go_loop [3] (λ i=>∃k:Nat,k<=nl/\k<=200/\i=.int .i64 k) (λ i=>nl-(intOf i).toNat)
 case atStart=>exact⟨0,r_ _,r_ _,rfl⟩
 case round=>
  obtain⟨k,hk,P,rfl⟩:=hrel
  by_cases g:k<nl/\k<200
  ·obtain⟨g,Q⟩:=g;have R:(k:Int)<(nl:Int):=by omega
   have S:(k:Int)<200:=by omega
   have L:k<es.length:=by rw[l.o.2.len];exact g
   obtain⟨b,off,rfl,T,-⟩:=l.o.2.cells (by omega);obtain⟨z,-,-,B⟩:=l.o.2.Cl g L;have V:=B.small;replace z:w1.cell? ⟨b,off+k*3,none⟩=some (.slice es[k].r.A es[k].r.n es[k].r.c):=z;generalize es[k].r.A=W at*;generalize es[k].r.n=q at*;generalize es[k].r.c=X at*;clear B
   by_cases Y:100<q
   ·have M:(100:Int)<(q:Int):=by omega
    go_wp2_with fail
    go_ret;exact v.o _ rfl
   ·have M:¬(100:Int)<(q:Int):=by omega
    have Z:q_.wrap ((k:Int)+1)=(k:Int)+1:=by rw[s_];omega
    go_wp2_with fail
    go_round
    case rel=>exact⟨k+1,by omega,by omega,by go_num⟩
    case measure=>simp[intOf];omega
  ·have N:=U (Is bh gC aS gs w1 l.o.1);have s:¬(k:Int)<(nl:Int)\/((k:Int)<(nl:Int)/\¬(k:Int)<200):=by omega
   clear g;rcases s with s|⟨s,aa⟩
   all_goals
    go_wp2_with (go_at_call 103;refine N.o.mono ?_;rintro e wr ⟨rfl,rfl⟩)
    all_goals
     go_ret
     first
      |exact v.o _ rfl
      |(refine y.o _ λ h=>?_;have h:=of_decide_eq_true h;exact⟨by assumption,by omega,by omega,by omega,by omega,by omega⟩)
      |(refine y.o _ λ h=>?_;exact absurd h (by assumption))
end
section
open Go.RowKit Go.Shelf Go.Lib
theorem P7(x:Int)(n:Nat):lG x n=wq n x:=by
 rw[Zp,uP];unfold wq;rw[b_,decide_eq_true_eq,decide_eq_true_eq];omega
theorem P8{n:Nat}{l:List Int}{x:Int}(c:iJ l k=x):uM n l k=(!(lG x n)||hasB (l.take k) x||hasB (l.take k) (-x)):=by
 unfold uM;rw[c,P7,Bool.or_assoc]
 congr 1
 rw[Zp,g_,qR,qR,qR,p_];constructor
 ·rintro⟨y,b,e⟩;have e:(aH y:Int)=(aH x:Int):=e;rcases Bc (x:=y) (y:=x) (by omega) with h|h
  ·exact .inl (h▸b)
  ·exact .inr (h▸b)
 ·rintro(h|h)
  ·exact⟨x,h,rfl⟩
  ·exact⟨-x,h,by show(aH (-x):Int)=_;rw[oP]⟩
theorem P9(n:Nat)(V:n<=65536)(A:Option Addr)(nl cl:Nat)(l:List Int)(w:World)(h:aQ w A nl cl l):
  Calls w_ 51 #[.slice A nl cl,.int .i64 n] w λ e w'=>e=.returned (.bool (vl n l))/\Below w.heap.size w w':=by
 have aa:=h.small;have ab:=h.cap;have H:=U h;have M:=U (x_ h.len V);clear h;go_enter Tryz.func51,Tryz.ntmps51
 go_wp2_with fail
 go_loopw [5] (λ i W=>∃k:Nat,i=.int .i64 k/\k<=nl/\(∀q,q<k->uM n l q=false)/\Below w.heap.size w W) (λ i _=>nl-(intOf i).toNat)
 case atStart=>exact⟨0,rfl,r_ _,λ q E=>absurd E (by omega),u_ _ _⟩
 case round=>
  obtain⟨k,rfl,hk,N,j⟩:=hrel;have O:=U N;have X:=U j;clear N
  by_cases t:k<nl
  ·have Y:(k:Int)<(nl:Int):=by omega
   have P:=λ q=>j.trans ((tc wr q).mono j.size)
   have F:=(H.o.below j).take (k:=k) hk;obtain⟨b,off,rfl,ad,R⟩:=(H.o.below j).cells (by omega);have Z:=R k t;have S:k<l.length:=by rw[M.o.1];exact t
   obtain⟨x,G⟩:∃x,iJ l k=x:=⟨_,rfl⟩
   rw[G] at Z;have ae:q_.wrap ((k:Int)+1)=(k:Int)+1:=by rw[s_];omega
   obtain⟨m,u⟩:∃r,lG x n=r:=⟨_,rfl⟩
   obtain⟨v,I⟩:∃r,hasB (l.take k) x=r:=⟨_,rfl⟩
   obtain⟨z,J⟩:∃r,hasB (l.take k) (-x)=r:=⟨_,rfl⟩
   have K:=P8 (n:=n) G;rw[u,I,J] at K;have f:=U (x_ S (x_ t (x_ K P)));have B:=U (λ q=>CS m x n (wr.drewN q) (by omega) (by omega) u);have C:=U (λ q=>zH v (some ⟨b,off,none⟩) k cl (l.take k) x (wr.drewN q) (F.below (tc _ _)) I);have D:=U (λ q=>zH z (some ⟨b,off,none⟩) k cl (l.take k) (-x) (wr.drewN q) (F.below (tc _ _)) J);have p:m=true->q_.wrap (-x)= -x:=λ h=>by
    rw[h] at u;have:=uP.1 u;rw[s_];omega
   have af:(k:Int)<=(cl:Int):=by omega
   clear R j P S G hk u I J K F t;have T:∀{Q:Prop},(m=false->Q)->(m=true->v=true->Q)->(m=true->v=false->z=true->Q)->(m=true->v=false->z=false->Q)->Q:=by
    intro Q a b c d
    cases m with
    |false=>exact a rfl
    |true=>
     cases v with
     |true=>exact b rfl rfl
     |false=>
      cases z with
      |true=>exact c rfl rfl rfl
      |false=>exact d rfl rfl rfl
   refine T ?_ ?_ ?_ ?_<;>clear T
   ·intro s;subst s;clear p
    go_wp2_with fail
    go_quiet (first|(go_at_call 115;with_reducible refine v_ ((B.o _).mono λ e g h=>⟨h.1,h.2.symm⟩))|(go_at_call 101;with_reducible refine v_ ((C.o _).mono λ e g h=>⟨h.1,h.2.symm⟩))|(go_at_call 101;with_reducible refine v_ ((D.o _).mono λ e g h=>⟨h.1,h.2.symm⟩)))
    go_wp2_with fail
    go_ret;exact⟨mo (Ei f.o.1 (by rw[f.o.2.2.1];rfl)).symm,f.o.2.2.2 _⟩
   ·intro s y;subst s y;replace p:=p rfl
    go_wp2_with fail
    go_quiet (first|(go_at_call 115;with_reducible refine v_ ((B.o _).mono λ e g h=>⟨h.1,h.2.symm⟩))|(go_at_call 101;with_reducible refine v_ ((C.o _).mono λ e g h=>⟨h.1,h.2.symm⟩))|(go_at_call 101;with_reducible refine v_ ((D.o _).mono λ e g h=>⟨h.1,h.2.symm⟩)))
    go_wp2_with fail
    go_ret;exact⟨mo (Ei f.o.1 (by rw[f.o.2.2.1];rfl)).symm,f.o.2.2.2 _⟩
   ·intro s y L;subst s y L;replace p:=p rfl
    go_wp2_with fail
    go_quiet (first|(go_at_call 115;with_reducible refine v_ ((B.o _).mono λ e g h=>⟨h.1,h.2.symm⟩))|(go_at_call 101;with_reducible refine v_ ((C.o _).mono λ e g h=>⟨h.1,h.2.symm⟩))|(go_at_call 101;with_reducible refine v_ ((D.o _).mono λ e g h=>⟨h.1,h.2.symm⟩)))
    go_wp2_with fail
    go_ret;exact⟨mo (Ei f.o.1 (by rw[f.o.2.2.1];rfl)).symm,f.o.2.2.2 _⟩
   ·intro s y L;subst s y L;replace p:=p rfl
    go_wp2_with fail
    go_quiet (first|(go_at_call 115;with_reducible refine v_ ((B.o _).mono λ e g h=>⟨h.1,h.2.symm⟩))|(go_at_call 101;with_reducible refine v_ ((C.o _).mono λ e g h=>⟨h.1,h.2.symm⟩))|(go_at_call 101;with_reducible refine v_ ((D.o _).mono λ e g h=>⟨h.1,h.2.symm⟩)))
    go_wp2_with fail
    go_roundw
    case rel=>exact⟨k+1,by go_num,by have:=f.o.2.1;omega,λ q E=>by
     rcases Nat.lt_or_ge q k with h1|h1
     ·exact O.o q h1
     ·obtain rfl:q=k:=by omega
      rw[f.o.2.2.1];rfl,f.o.2.2.2 _⟩
    case measure=>have:=f.o.2.1;simp[intOf];omega
  ·have Y:¬(k:Int)<(nl:Int):=by omega
   clear j t hk
   go_wp2_with fail
   go_ret;exact⟨mo (Hp (λ q E=>O.o q (by have:=M.o.1;omega))).symm,X.o⟩
theorem Qa(x n:Int):∃r:Bool,∀w,Calls w_ 115 #[.int .i64 x,.int .i64 n] w λ e w'=>e=.returned (.bool r)/\w=w':=by
 by_cases b:x=0
 ·have c:(x !=0)=false:=by simp[b]
  clear b;refine⟨false,λ w=>?_⟩;go_enter Tryz.func115,Tryz.ntmps115
  go_wp2;go_ret;exact⟨rfl,rfl⟩
 ·have c:(x !=0)=true:=by simpa using b
  clear b
  by_cases d:wrap64 (-n)<=x
  ·refine⟨decide (x<=n),λ w=>?_⟩;go_enter Tryz.func115,Tryz.ntmps115
   go_wp2;go_ret;exact⟨rfl,rfl⟩
  ·refine⟨false,λ w=>?_⟩;go_enter Tryz.func115,Tryz.ntmps115
   go_wp2;go_ret;exact⟨rfl,rfl⟩
def Ig(w:World)(e:Ending)(W:World):Prop:=∃r:Bool,e=.returned (.bool r)/\Below w.heap.size w W
theorem Qb(n:Int)(A:Option Addr)(nl cl:Nat)(l:List Int)(w:World)(h:aQ w A nl cl l):
  Calls w_ 51 #[.slice A nl cl,.int .i64 n] w (Ig w):=by
 have R:=h.small;have S:=h.cap;have H:=U h;clear h;go_enter Tryz.func51,Tryz.ntmps51
 go_wp2_with fail
 go_loopw [5] (λ i W=>∃k:Nat,i=.int .i64 k/\k<=nl/\Below w.heap.size w W) (λ i _=>nl-(intOf i).toNat)
 case atStart=>exact⟨0,rfl,r_ _,u_ _ _⟩
 case round=>
  obtain⟨k,rfl,hk,g⟩:=hrel;have M:=U g
  by_cases t:k<nl
  ·have N:(k:Int)<(nl:Int):=by omega
   have B:=U (show∀(r:Bool) q,Ig w (.returned (.bool r)) (wr.drewN q) from λ r q=>⟨r,rfl,g.trans ((tc wr q).mono g.size)⟩);have O:=U (λ q=>g.trans ((tc wr q).mono g.size));have C:=(H.o.below g).take (k:=k) hk;obtain⟨b,off,rfl,T,E⟩:=(H.o.below g).cells (by omega);have P:=E k t;obtain⟨x,F⟩:∃x,iJ l k=x:=⟨_,rfl⟩
   rw[F] at P;have V:q_.wrap ((k:Int)+1)=(k:Int)+1:=by rw[s_];omega
   obtain⟨m,G⟩:=Qa x n;obtain⟨p,I⟩:∃r,hasB (l.take k) x=r:=⟨_,rfl⟩
   obtain⟨u,J⟩:∃r,hasB (l.take k) (q_.wrap (-x))=r:=⟨_,rfl⟩
   have K:=U t;have v:=U (λ q=>G (wr.drewN q));have y:=U (λ q=>zH p (some ⟨b,off,none⟩) k cl (l.take k) x (wr.drewN q) (C.below (tc _ _)) I);have z:=U (λ q=>zH u (some ⟨b,off,none⟩) k cl (l.take k) (q_.wrap (-x)) (wr.drewN q) (C.below (tc _ _)) J);have X:(k:Int)<=(cl:Int):=by omega
   clear E g F hk G I J C t;have L:∀{Q:Prop},(m=false->Q)->(m=true->p=true->Q)->(m=true->p=false->u=true->Q)->(m=true->p=false->u=false->Q)->Q:=by
    intro Q a b c d
    cases m with
    |false=>exact a rfl
    |true=>
     cases p with
     |true=>exact b rfl rfl
     |false=>
      cases u with
      |true=>exact c rfl rfl rfl
      |false=>exact d rfl rfl rfl
   refine L ?_ ?_ ?_ ?_<;>clear L
   ·intro j;subst j
    go_wp2_with fail
    go_quiet (first|(go_at_call 115;with_reducible refine v_ ((v.o _).mono λ e f h=>⟨h.1,h.2.symm⟩))|(go_at_call 101;with_reducible refine v_ ((y.o _).mono λ e f h=>⟨h.1,h.2.symm⟩))|(go_at_call 101;with_reducible refine v_ ((z.o _).mono λ e f h=>⟨h.1,h.2.symm⟩)))
    go_wp2_with fail
    go_ret;exact B.o _ _
   ·intro j s;subst j s
    go_wp2_with fail
    go_quiet (first|(go_at_call 115;with_reducible refine v_ ((v.o _).mono λ e f h=>⟨h.1,h.2.symm⟩))|(go_at_call 101;with_reducible refine v_ ((y.o _).mono λ e f h=>⟨h.1,h.2.symm⟩))|(go_at_call 101;with_reducible refine v_ ((z.o _).mono λ e f h=>⟨h.1,h.2.symm⟩)))
    go_wp2_with fail
    go_ret;exact B.o _ _
   ·intro j s D;subst j s D
    go_wp2_with fail
    go_quiet (first|(go_at_call 115;with_reducible refine v_ ((v.o _).mono λ e f h=>⟨h.1,h.2.symm⟩))|(go_at_call 101;with_reducible refine v_ ((y.o _).mono λ e f h=>⟨h.1,h.2.symm⟩))|(go_at_call 101;with_reducible refine v_ ((z.o _).mono λ e f h=>⟨h.1,h.2.symm⟩)))
    go_wp2_with fail
    go_ret;exact B.o _ _
   ·intro j s D;subst j s D
    go_wp2_with fail
    go_quiet (first|(go_at_call 115;with_reducible refine v_ ((v.o _).mono λ e f h=>⟨h.1,h.2.symm⟩))|(go_at_call 101;with_reducible refine v_ ((y.o _).mono λ e f h=>⟨h.1,h.2.symm⟩))|(go_at_call 101;with_reducible refine v_ ((z.o _).mono λ e f h=>⟨h.1,h.2.symm⟩)))
    go_wp2_with fail
    go_roundw
    case rel=>exact⟨k+1,by go_num,by have:=K.o;omega,O.o _⟩
    case measure=>have:=K.o;simp[intOf];omega
  ·have N:¬(k:Int)<(nl:Int):=by omega
   clear g t hk
   go_wp2_with fail
   go_ret;exact⟨true,rfl,M.o⟩
end
section
open Go.RowKit Go.Shelf Go.Lib
structure s8(w:World)(s:kF)(t:iW):Prop where
 e:t=⟨s.n,⟨t.g.A,s.gs.length,t.g.c⟩,⟨t.l.A,s.es.length,t.l.c⟩,⟨t.a.A,s.act.length,t.a.c⟩,⟨t.o.A,s.ord.length,t.o.c⟩,s.aM,⟨t.h.A,s.bl.length,t.h.c⟩,⟨t.p.A,s.aA.length,t.p.c⟩⟩
 aP:pT w s t.g.A t.g.c t.l.A t.l.c t.a.A t.a.c t.o.A t.o.c t.h.A t.h.c t.p.A t.p.c
section
variable {w w':World}{s:kF}{t:iW}
theorem s8.below(h:s8 w s t)(b:Below w.heap.size w w'):s8 w' s t:=⟨h.e,h.aP.below b⟩
theorem s8.agg(h:s8 w s t):Value.agg t.L.toArray=nP s.n t.g.A s.gs.length t.g.c t.l.A s.es.length t.l.c t.a.A s.act.length t.a.c t.o.A s.ord.length t.o.c s.aM t.h.A s.bl.length t.h.c t.p.A s.aA.length t.p.c:=by
 conv=>lhs;rw[h.e]
 rfl
theorem s8.check(h:s8 w s t)(b:s.es.length<=1000000):Calls w_ 49 #[.agg t.L.toArray] w λ e w'=>e=.returned (.int .i64 (ue s))/\Below w.heap.size w w':=by
 rw[h.agg];exact P3 s b h.aP
theorem s8.Qc(h:s8 w s t)(b:s.es.length<=1000000):Calls w_ 50 #[.agg t.L.toArray] w λ e w'=>e=.returned (.int .i64 (ue s))/\Below w.heap.size w w':=by
 rw[h.agg];exact P4 s b h.aP
theorem s8.nW(h:s8 w s t):Calls w_ 41 #[.agg t.L.toArray] w λ e w'=>∃r:Bool,e=.returned (.bool r)/\Below w.heap.size w w'/\(r=true->P5 s):=by
 rw[h.agg];refine(P6 s.n s.gs s.es s.aM h.aP.gs h.aP.es).mono λ e W ⟨r,h1,g,i⟩=>⟨r,h1,g,λ j=>?_⟩
 obtain⟨a,b,c,d,e,f⟩:=i j;exact⟨a,b,c,d,e,f⟩
theorem s8.n(h:s8 w s t):t.n=s.n:=by rw[h.e]
end
theorem Qd{s:kF}(h:ue s=0):0<=s.n/\s.n<=65536/\p6 s.act s.ord s.aM=true/\(s.act.length:Int)=s.n+1/\(s.ord.length:Int)=s.n/\(s.bl.length:Int)=s.n+1/\jE s.bl 0=false/\kZ s.n s.gs=0:=by
 unfold ue at h
 by_cases b:ud s=true
 ·rw[if_pos b] at h;omega
 ·rw[if_neg b] at h;unfold ud at b;simp only[g_,decide_eq_true_eq,a_,not_or,Z5,ZZ,Z6] at b;obtain⟨⟨⟨⟨⟨⟨h1,f⟩,d⟩,g⟩,i⟩,j⟩,e⟩:=b;refine⟨by omega,by omega,d,by omega,by omega,by omega,e,?_⟩
  by_cases c:kZ s.n s.gs=0
  ·exact c
  ·rw[if_pos c] at h;exact absurd h c
end
section
open Go.RowKit Go.Shelf Go.Lib
theorem Qe(s:kF)(t:iW)(O:Option Addr)(nq P:Nat)(S:List Int)(Q:Int)(w:World)(h:s8 w s t)(av:aQ w O nq P S):
  Calls w_ 11 #[.agg t.L.toArray,.slice O nq P,.int .i64 Q] w λ e w'=>e=.returned (.bool true)/\Below w.heap.size w w':=by
 have aC:=h.n;have aU:=av.small;have ab:=bK w (.cells t.L.toArray 47);have an:=aO.new w 47 t.L;have aj:=U (x_ (h.below ab) (av.below ab));have aD:bI (t.n=s.n):=U aC;clear h av aC;simp only[iW.L] at ab an aj⊢;go_enter Tryz.func11,Tryz.ntmps11
 go_upto_region 1 with fail
 generalize w.alloc (.cells #[.int .i64 t.n,.slice t.g.A t.g.n t.g.c,.slice t.l.A t.l.n t.l.c,.slice t.a.A t.a.n t.a.c,.slice t.o.A t.o.n t.o.c,.int .i64 t.b,.slice t.h.A t.h.n t.h.c,.slice t.p.A t.p.n t.p.c] 47)=aE at ab an aj⊢
 skip
 have ad:=U (x_ (show aO aE w.heap.size 47 [.int .i64 t.n,.slice t.g.A t.g.n t.g.c,.slice t.l.A t.l.n t.l.c,.slice t.a.A t.a.n t.a.c,.slice t.o.A t.o.n t.o.c,.int .i64 t.b,.slice t.h.A t.h.n t.h.c,.slice t.p.A t.p.n t.p.c] from an) (x_ (aj.o.1) (x_ (aj.o.2) (ab))));clear ab an aj;have qq:=U (PL aE)
 go_upto_region 3 with(go_at_call 40;refine qq.o.mono ?_;rintro e w1 ⟨rfl,aF⟩;have ao:=U aF;clear aF)
 have K:=U (x_ (ad.o.1.below ao.o) (x_ (ad.o.2.1.below ao.o) (x_ (ad.o.2.2.1.below ao.o) (ad.o.2.2.2.trans (ao.o.mono ad.o.2.2.2.size)))));clear ad qq;have d:=(K.o.1).cell;have j:=d 0;have q:=d 1;have u:=d 2;have v:=d 3;have y:=d 4;have B:=d 5;have C:=d 6;have D:=d 7;simp only[iW.L,lu.L,z_,y_] at j q u v y B C D;clear d;have aw:=U (K.o.2.1.nW);simp only[iW.L] at aw
 go_upto_region 4 with(go_at_call 41;with_reducible refine aw.o.mono ?_;rintro e aG ⟨r,rfl,I,aH⟩;have ae:=U I;have aI:=U aH;clear I aH j q u v y B C D;cases r)
 ·go_wp2_with fail
  go_ret;exact⟨rfl,K.o.2.2.2.trans (ae.o.mono K.o.2.2.2.size)⟩
 by_cases aV:100<nq
 ·have aN:(100:Int)<(nq:Int):=by omega
  go_wp2_with fail
  go_ret;exact⟨rfl,K.o.2.2.2.trans (ae.o.mono K.o.2.2.2.size)⟩
 have aN:¬(100:Int)<(nq:Int):=by omega
 have aP:=U (aI.o trivial);have R:=U (x_ (K.o.1.below ae.o) (x_ (K.o.2.1.below ae.o) (x_ (K.o.2.2.1.below ae.o) (K.o.2.2.2.trans (ae.o.mono K.o.2.2.2.size)))));clear K aw aI;have aJ:bI (s.es.length<=1000000):=U (by have:=aP.o.2.1;omega);have d:=(R.o.1).cell;have j:=d 0;have q:=d 1;have u:=d 2;have v:=d 3;have y:=d 4;have B:=d 5;have C:=d 6;have D:=d 7;simp only[iW.L,lu.L,z_,y_] at j q u v y B C D;clear d;have aq:=U (R.o.2.1.Qc aJ.o);simp only[iW.L] at aq;have ax:bI (∀W,Below aG.heap.size aG W->Calls w_ 49 #[.agg t.L.toArray] W λ e w'=>e=.returned (.int .i64 (ue s))/\Below W.heap.size W w'):=U λ W T=>(R.o.2.1.below T).check aJ.o
 obtain⟨ak,ay⟩:∃z,ue s=z:=⟨_,rfl⟩
 have aR:=U ay;rw[ay] at aq ax;clear ay
 go_upto_region 7 with(go_at_call 50;with_reducible refine aq.o.mono ?_;rintro e V ⟨rfl,aK⟩;have af:=U aK;clear aK j q u v y B C D)
 have F:=U (x_ (R.o.1.below af.o) (x_ (R.o.2.1.below af.o) (x_ (R.o.2.2.1.below af.o) (R.o.2.2.2.trans (af.o.mono R.o.2.2.2.size)))));have ar:bI (∀W,Below V.heap.size V W->Calls w_ 49 #[.agg t.L.toArray] W λ e w'=>e=.returned (.int .i64 ak)/\Below W.heap.size W w'):=U λ W T=>ax.o W (af.o.trans (T.mono af.o.size))
 clear R aq ax;have d:=(F.o.1).cell;have j:=d 0;have q:=d 1;have u:=d 2;have v:=d 3;have y:=d 4;have B:=d 5;have C:=d 6;have D:=d 7;simp only[iW.L,lu.L,z_,y_] at j q u v y B C D;clear d
 by_cases au:ak=0
 ·subst au;have aS:=Qd aR.o;obtain⟨m,hm⟩:∃k:Nat,t.n=k:=⟨t.n.toNat,by rw[aD.o];omega⟩
  have az:m<=65536:=by have:=aD.o;omega
  have ag:=U (x_ hm az);rw[hm] at j;have ah:=U (P9 m az O nq P S V F.o.2.2.1);clear hm aS az;obtain⟨mt,aA⟩:∃z,vl m S=z:=⟨_,rfl⟩
  have aT:=U aA;rw[aA] at ah;clear aA
  go_upto_region 8 with(go_at_call 51;with_reducible refine ah.o.mono ?_;rintro e N ⟨rfl,al⟩;have J:=U al;clear al j q u v y B C D)
  have E:=U (x_ (F.o.1.below J.o) (x_ (F.o.2.1.below J.o) (x_ (F.o.2.2.1.below J.o) (F.o.2.2.2.trans (J.o.mono F.o.2.2.2.size)))));have ai:bI (∀W,Below N.heap.size N W->Calls w_ 49 #[.agg t.L.toArray] W λ e w'=>e=.returned (.int .i64 0)/\Below W.heap.size W w'):=U λ W T=>ar.o W (J.o.trans (T.mono J.o.size))
  clear F ah ar;have d:=(E.o.1).cell;have j:=d 0;have q:=d 1;have u:=d 2;have v:=d 3;have y:=d 4;have B:=d 5;have C:=d 6;have D:=d 7;simp only[iW.L,lu.L,z_,y_] at j q u v y B C D;clear d
  cases mt
  ·skip
   have G:=U (CF t m ag.o.2 ag.o.1 O nq P S Q N E.o.2.2.1 (by omega) (by unfold vo;rw[aT.o];rfl) ai.o);simp only[iW.L,lu.L,nS,qi,mM,s6] at G
   go_upto_region 13 with(go_at_call 36;with_reducible refine G.o.mono ?_;rintro e i ⟨rfl,I⟩;have M:=U I;clear I j q u v y B C D)
   have kG:=zA i nS qi;have f:=zB i nS qi;simp only[iW.L,lu.L,nS,qi,mM] at kG f;obtain⟨H,kG⟩:=kG;generalize (i.alloc (.cells #[.int .i64 0,.slice none 0 0,.slice none 0 0,.slice none 0 0,.slice none 0 0,.int .i64 0,.slice none 0 0,.slice none 0 0] 47)).alloc (.cells #[.int .i64 0,.slice none 0 0,.slice none 0 0,.int .i64 0] 30)=aB at H kG f⊢;generalize i.heap.size=g5 at kG f⊢;have X:=U (M.o.trans (H.mono M.o.size));have d:=(f).cell;have z0:=d 0;have Y:=d 1;have z2:=d 2;have z3:=d 3;have z4:=d 4;have z5:=d 5;have Z:=d 6;have aa:=d 7;simp only[iW.L,lu.L,z_,y_] at z0 Y z2 z3 z4 z5 Z aa;clear d;have d:=(kG).cell;have v0:=d 0;have v1:=d 1;have v2:=d 2;have v3:=d 3;simp only[iW.L,lu.L,z_,y_] at v0 v1 v2 v3;clear d;clear H kG f G
   go_wp2_with fail
   go_ret;exact⟨rfl,E.o.2.2.2.trans (X.o.mono E.o.2.2.2.size)⟩
  by_cases c1:Q<0
  ·skip
   have G:=U (CF t m ag.o.2 ag.o.1 O nq P S Q N E.o.2.2.1 (by omega) (by unfold vo;rw[decide_eq_false (show¬0<=Q by omega),Bool.and_false,Bool.false_and]) ai.o);simp only[iW.L,lu.L,nS,qi,mM,s6] at G
   go_upto_region 13 with(go_at_call 36;with_reducible refine G.o.mono ?_;rintro e i ⟨rfl,I⟩;have M:=U I;clear I j q u v y B C D)
   have kG:=zA i nS qi;have f:=zB i nS qi;simp only[iW.L,lu.L,nS,qi,mM] at kG f;obtain⟨H,kG⟩:=kG;generalize (i.alloc (.cells #[.int .i64 0,.slice none 0 0,.slice none 0 0,.slice none 0 0,.slice none 0 0,.int .i64 0,.slice none 0 0,.slice none 0 0] 47)).alloc (.cells #[.int .i64 0,.slice none 0 0,.slice none 0 0,.int .i64 0] 30)=aB at H kG f⊢;generalize i.heap.size=g5 at kG f⊢;have X:=U (M.o.trans (H.mono M.o.size));have d:=(f).cell;have z0:=d 0;have Y:=d 1;have z2:=d 2;have z3:=d 3;have z4:=d 4;have z5:=d 5;have Z:=d 6;have aa:=d 7;simp only[iW.L,lu.L,z_,y_] at z0 Y z2 z3 z4 z5 Z aa;clear d;have d:=(kG).cell;have v0:=d 0;have v1:=d 1;have v2:=d 2;have v3:=d 3;simp only[iW.L,lu.L,z_,y_] at v0 v1 v2 v3;clear d;clear H kG f G
   go_wp2_with fail
   go_ret;exact⟨rfl,E.o.2.2.2.trans (X.o.mono E.o.2.2.2.size)⟩
  by_cases c2:1099511627776<Q
  ·skip
   have G:=U (CF t m ag.o.2 ag.o.1 O nq P S Q N E.o.2.2.1 (by omega) (by unfold vo;rw[decide_eq_false (show¬Q<=1099511627776 by omega),Bool.and_false]) ai.o);simp only[iW.L,lu.L,nS,qi,mM,s6] at G
   go_upto_region 13 with(go_at_call 36;with_reducible refine G.o.mono ?_;rintro e i ⟨rfl,I⟩;have M:=U I;clear I j q u v y B C D)
   have kG:=zA i nS qi;have f:=zB i nS qi;simp only[iW.L,lu.L,nS,qi,mM] at kG f;obtain⟨H,kG⟩:=kG;generalize (i.alloc (.cells #[.int .i64 0,.slice none 0 0,.slice none 0 0,.slice none 0 0,.slice none 0 0,.int .i64 0,.slice none 0 0,.slice none 0 0] 47)).alloc (.cells #[.int .i64 0,.slice none 0 0,.slice none 0 0,.int .i64 0] 30)=aB at H kG f⊢;generalize i.heap.size=g5 at kG f⊢;have X:=U (M.o.trans (H.mono M.o.size));have d:=(f).cell;have z0:=d 0;have Y:=d 1;have z2:=d 2;have z3:=d 3;have z4:=d 4;have z5:=d 5;have Z:=d 6;have aa:=d 7;simp only[iW.L,lu.L,z_,y_] at z0 Y z2 z3 z4 z5 Z aa;clear d;have d:=(kG).cell;have v0:=d 0;have v1:=d 1;have v2:=d 2;have v3:=d 3;simp only[iW.L,lu.L,z_,y_] at v0 v1 v2 v3;clear d;clear H kG f G
   go_wp2_with fail
   go_ret;exact⟨rfl,E.o.2.2.2.trans (X.o.mono E.o.2.2.2.size)⟩
  have aL:=U (ai.o N (u_ _ _));simp only[iW.L] at aL
  go_wp2_with (go_at_call 49;with_reducible refine aL.o.mono ?_;rintro e aW ⟨rfl,aM⟩;have kG:=U aM;clear aM)
  go_ret;exact⟨rfl,E.o.2.2.2.trans (kG.o.mono E.o.2.2.2.size)⟩
 ·have h1:(ak==0)=false:=by simpa using au
  have ah:bI (Calls w_ 51 #[.slice O nq P,.int .i64 t.n] V λ e W=>∃r:Bool,e=.returned (.bool r)/\Below V.heap.size V W):=U (Qb t.n O nq P S V F.o.2.2.1)
  go_upto_region 8 with(go_at_call 51;with_reducible refine ah.o.mono ?_;rintro e N ⟨mt,rfl,al⟩;have J:=U al;clear al j q u v y B C D)
  have E:=U (x_ (F.o.1.below J.o) (x_ (F.o.2.1.below J.o) (x_ (F.o.2.2.1.below J.o) (F.o.2.2.2.trans (J.o.mono F.o.2.2.2.size)))));have ai:bI (∀W,Below N.heap.size N W->Calls w_ 49 #[.agg t.L.toArray] W λ e w'=>e=.returned (.int .i64 ak)/\Below W.heap.size W w'):=U λ W T=>ar.o W (J.o.trans (T.mono J.o.size))
  clear F ah ar;have d:=(E.o.1).cell;have j:=d 0;have q:=d 1;have u:=d 2;have v:=d 3;have y:=d 4;have B:=d 5;have C:=d 6;have D:=d 7;simp only[iW.L,lu.L,z_,y_] at j q u v y B C D;clear d;have G:=U (OA t ak au O nq P Q N ai.o);have aX:=U au;simp only[iW.L,lu.L,nS,qi,mM,s6] at G
  go_upto_region 13 with(go_at_call 36;with_reducible refine G.o.mono ?_;rintro e i ⟨rfl,I⟩;have M:=U I;clear I j q u v y B C D)
  have kG:=zA i nS qi;have f:=zB i nS qi;simp only[iW.L,lu.L,nS,qi,mM] at kG f;obtain⟨H,kG⟩:=kG;generalize (i.alloc (.cells #[.int .i64 0,.slice none 0 0,.slice none 0 0,.slice none 0 0,.slice none 0 0,.int .i64 0,.slice none 0 0,.slice none 0 0] 47)).alloc (.cells #[.int .i64 0,.slice none 0 0,.slice none 0 0,.int .i64 0] 30)=aB at H kG f⊢;generalize i.heap.size=g5 at kG f⊢;have X:=U (M.o.trans (H.mono M.o.size));have d:=(f).cell;have z0:=d 0;have Y:=d 1;have z2:=d 2;have z3:=d 3;have z4:=d 4;have z5:=d 5;have Z:=d 6;have aa:=d 7;simp only[iW.L,lu.L,z_,y_] at z0 Y z2 z3 z4 z5 Z aa;clear d;have d:=(kG).cell;have v0:=d 0;have v1:=d 1;have v2:=d 2;have v3:=d 3;simp only[iW.L,lu.L,z_,y_] at v0 v1 v2 v3;clear d;clear H kG f G
  go_wp2_with fail
  go_ret;exact⟨rfl,E.o.2.2.2.trans (X.o.mono E.o.2.2.2.size)⟩
end
section
open Go.ChangeShapes Go.WideShapes Go.ChangeAt Go.RowKit Go.Joins Go.Deep
section
variable {H:Type}{enc:TypeId×Value->H}{W:World}{base:Nat}{sp:Nat->Bool}{held:Bool}
theorem CO{cs:List Value}{k:Nat}(h:k<cs.length):(cs.drop k).take 1=[cs[k]]:=by
 rw[List.drop_eq_getElem_cons h];rfl
end
end
section
open Go.ChangeShapes Go.WideShapes Go.ChangeAt Go.RowKit Go.Joins Go.Deep
theorem Qf:w_.cellsOf 22=1:=by kernel_rfl
theorem Qg:w_.cellsOf 28=1:=by kernel_rfl
theorem Qh:w_.cellsOf 42=1:=by kernel_rfl
theorem Qi:w_.cellsOf 44=3:=by kernel_rfl
theorem Qj:w_.cellsOf 45=1:=by kernel_rfl
theorem Qk:w_.cellsOf 47=8:=by kernel_rfl
theorem Ql:w_.cellsOf 74=3:=by kernel_rfl
theorem Qm:w_.cellsOf 126=2:=by kernel_rfl
theorem Qn:w_.bytesOf 74=40:=by kernel_rfl
theorem Qo:w_.bytesOf 126=32:=by kernel_rfl
theorem Qp{α:Type}{cs:Array α}(h:cs.size=8):∃c0 c1 c2 c3 c4 c5 c6 b,cs= #[c0,c1,c2,c3,c4,c5,c6,b]:=by
 obtain⟨l⟩:=cs
 match l,h with
 |[c0,c1,c2,c3,c4,c5,c6,b],_=>exact⟨c0,c1,c2,c3,c4,c5,c6,b,rfl⟩
section
variable {H:Type}{enc:TypeId×Value->H}{W:World}{base:Nat}{sp:Nat->Bool}{held:Bool}
theorem Qq{W':World}{v:Value}{d:DataW H}{p:List MemPlace}(h:DataW.Trod enc w_ W 0 (λ _=>true) true 47 v d p)(b:Below W.heap.size W W')(c:∀x∈p,x.block<W.heap.size){AK:Nat->Bool}(hs:∀x∈p,AK x.block=true):
  DataW.Trod enc w_ W' 0 AK true 47 v d p:=
 WideElems.Trod_stays laidOut (by kernel_rfl) (of_decide_eq_true (by kernel_rfl)) h (λ x e=>b.same (c x e)) hs
instance:Inhabited lE:=⟨⟨⟨none,0,0,[]⟩,0,0⟩⟩
instance:Inhabited mc:=⟨⟨0,⟨none,0,0,[]⟩⟩⟩
theorem Qr{fuel:Nat}{cs:List Value}{x:DataW H×List MemPlace}(h:f_ enc w_ W base (λ _=>true) held fuel 28 cs=some x)(i:Fits 28 x.1):
  ∃A n c k,cs=[.slice A n c]/\lB W A n c k:=by
 rcases Deep.open_bools Tryz.underlying28 Tryz.underlying4 N4 h with⟨d,_⟩|⟨a,n,c,B,d,_,hl,hm,rfl,e⟩
 ·exact⟨none,0,0,[],d,lB.nil _ _ _ (r_ _)⟩
 ·have f:=i.len Tryz.underlying28;rw[N5] at f;have l:n<=140737488355328:=by simpa using f
  refine⟨some a,n,c,(List.range n).map B,d,⟨by simp,hl,l,hm,λ q=>?_⟩⟩;obtain⟨b,off,spot⟩:=a;have g:=e 0 (by omega);have m:spot=none:=by simpa[Addr.add] using ZY g
  subst m;refine⟨b,off,rfl,AJ (o:=off+0) (by rw[<-k_];exact g),λ j p=>?_⟩;have:=e j (by omega);rw[k_] at this;rw[this];simp[Zq,p]
theorem Qs{fuel:Nat}{cs:List Value}{x:DataW H×List MemPlace}(h:f_ enc w_ W base sp held fuel 42 cs=some x)(u:Fits 42 x.1):
  ∃A n c es,cs=[.slice A n c]/\qP W A n c es:=by
 rcases Deep.open_slice Z7 h with⟨l,_⟩|⟨a,n,c,m,q,D,mS,l,_,hl,G,hm,rfl,I⟩
 ·exact⟨none,0,0,[],l,⟨rfl,t_ _,by omega,r_ _,λ h=>absurd h (by omega),λ e he=>by cases he⟩⟩
 ·have S:n<=m:=by rw[hm];split<;>omega
  have p:=u.len Z7;rw[Qn] at p;rw[Zf,List.length_range] at p;have each:∀i,i<n->∃e:lE,W.cell? (a.add (i*3))=some (ki e.r)/\W.cell? (a.add (i*3+1))=some (.int .i64 e.aR)/\W.cell? (a.add (i*3+2))=some (.int .i64 e.ac)/\aQ W e.r.A e.r.n e.r.c e.r.ah:=by
   intro i J;obtain⟨T,h1,d⟩:=I i (by omega);have v:Fits 74 (D i):=u.elem Z7 (p_.2 ⟨i,List.mem_range.2 J,rfl⟩);rw[Ql] at h1;obtain⟨_,U,s⟩:=World.cells?_some h1;obtain⟨K,V,X,k,w,_,t0,t1,t2⟩:=trod_struct3 Tryz.underlying74 d;simp only[ZN] at w;rw[w.1] at v;have L:Fits 25 K.1:=λ n t=>v n (by
    simp only[d_,Tryz.underlying74];simp[m_,t])
   dsimp only at t0 t1 t2;rw[AI,CO (by omega)] at t0;rw[AH,CO (by omega)] at t1 t2;obtain⟨A',M,c',ah,y,N,_⟩:=zu t0 L;obtain⟨aR,f,_,_⟩:=Zm o_ t1;obtain⟨act,z,_,_⟩:=Zm o_ t2;simp only[ZU,and_true] at y f z;have a0:=s 0 (by omega);have a1:=s 1 (by omega);have a2:=s 2 (by omega);rw[h_ (by omega)] at a0 a1 a2;rw[y,Zo] at a0;rw[f,Zo] at a1;rw[z,Zo] at a2;exact⟨⟨⟨A',M,c',ah⟩,aR,act⟩,a0,a1,a2,N⟩
  obtain⟨es,O,hp⟩:=Cy n each;have B:∀j (h:j<es.length),es.getD j default=es[j]:=λ j h=>by rw[Zq,h_ h];rfl
  refine⟨some a,n,c,es,l,⟨O,hl,p,G,λ t=>?_,λ e he=>?_⟩⟩
  ·have C:=(hp 0 t).1;obtain⟨b,off,spot⟩:=a;have P:spot=none:=by simpa[Addr.add] using ZY C
   subst P;refine⟨b,off,rfl,AJ (o:=off+0*3) (by rw[<-k_];exact C),λ k hk=>?_⟩;obtain⟨j,i,Q,rfl⟩:∃j i,i<3/\k=j*3+i:=⟨k/3,k%3,by omega,by omega⟩
   have E:j<es.length:=by omega
   obtain⟨h1,d,F,g⟩:=hp j (by omega);rw[B _ E] at h1 d F g;rw[AA es j E i Q,<-k_];rcases(show i=0\/i=1\/i=2 by omega) with rfl|rfl|rfl
   ·exact h1
   ·exact d
   ·exact F
  ·obtain⟨j,R,f⟩:=Zd he;obtain⟨_,_,_,g⟩:=hp j (by omega);rw[B _ R,f] at g;exact g
theorem Qt{fuel:Nat}{cs:List Value}{x:DataW H×List MemPlace}(h:f_ enc w_ W base sp held fuel 45 cs=some x)(s:Fits 45 x.1):
  ∃A n c es,cs=[.slice A n c]/\nx W A n c es:=by
 rcases Deep.open_slice Z8 h with⟨g,_⟩|⟨a,n,c,m,q,D,mS,g,_,hl,E,hm,rfl,F⟩
 ·exact⟨none,0,0,[],g,⟨rfl,t_ _,by omega,r_ _,λ h=>absurd h (by omega),λ e he=>by cases he⟩⟩
 ·have R:n<=m:=by rw[hm];split<;>omega
  have l:=s.len Z8;rw[Qo] at l;rw[Zf,List.length_range] at l;have each:∀i,i<n->∃e:mc,W.cell? (a.add (i*2))=some (.int .i64 e.iM)/\W.cell? (a.add (i*2+1))=some (ki e.r)/\aQ W e.r.A e.r.n e.r.c e.r.ah:=by
   intro i G;obtain⟨S,h1,d⟩:=F i (by omega);have t:Fits 126 (D i):=s.elem Z8 (p_.2 ⟨i,List.mem_range.2 G,rfl⟩);rw[Qm] at h1;obtain⟨_,T,u⟩:=World.cells?_some h1;obtain⟨U,I,k,v,_,t0,t1⟩:=trod_struct2 Tryz.underlying126 d;simp only[ZN] at v;rw[v.1] at t;have J:Fits 25 I.1:=λ n p=>t n (by
    simp only[d_,Tryz.underlying126];simp[m_,p])
   dsimp only at t0 t1;rw[AH,CO (by omega)] at t0;rw[AI,CO (by omega)] at t1;obtain⟨iM,w,_,_⟩:=Zm o_ t0;obtain⟨A',K,c',ah,f,L,_⟩:=zu t1 J;simp only[ZU,and_true] at w f;have a0:=u 0 (by omega);have a1:=u 1 (by omega);rw[h_ (by omega)] at a0 a1;rw[w,Zo] at a0;rw[f,Zo] at a1;exact⟨⟨iM,⟨A',K,c',ah⟩⟩,a0,a1,L⟩
  obtain⟨es,M,hp⟩:=Cy n each;have y:∀j (h:j<es.length),es.getD j default=es[j]:=λ j h=>by rw[Zq,h_ h];rfl
  refine⟨some a,n,c,es,g,⟨M,hl,l,E,λ p=>?_,λ e he=>?_⟩⟩
  ·have z:=(hp 0 p).1;obtain⟨b,off,spot⟩:=a;have N:spot=none:=by simpa[Addr.add] using ZY z
   subst N;refine⟨b,off,rfl,AJ (o:=off+0*2) (by rw[<-k_];exact z),λ k hk=>?_⟩;obtain⟨j,i,O,rfl⟩:∃j i,i<2/\k=j*2+i:=⟨k/2,k%2,by omega,by omega⟩
   have B:j<es.length:=by omega
   obtain⟨h1,d,P⟩:=hp j (by omega);rw[y _ B] at h1 d P;rw[Cm es j B i O,<-k_];rcases(show i=0\/i=1 by omega) with rfl|rfl
   ·exact h1
   ·exact d
  ·obtain⟨j,Q,f⟩:=Zd he;obtain⟨_,_,C⟩:=hp j (by omega);rw[y _ Q,f] at C;exact C
theorem Qu{r:Reach}{bp:Nat}{v:Value}{d:DataW H}{p:List MemPlace}(R:Value.okWide w_ W r bp 47 v)(h:DataW.Trod enc w_ W base (λ _=>true) held 47 v d p)(e:Fits 47 d):
  ∃(s:kF)(t:iW),v=.agg t.L.toArray/\s8 W s t:=by
 obtain⟨cs,rfl,S⟩:=okWide_struct e_ R;obtain⟨c0,c1,c2,c3,c4,c5,c6,T,rfl⟩:=Qp (S.trans Qk);obtain⟨fuel,U⟩:=h;obtain⟨xs,n,_,k,hl,hlen,c⟩:=DataW.trod_struct e_ U
 match xs,hlen with
 |[V,l,m,o,q,u],_=>
  have t0:f_ enc w_ W base (λ _=>true) held n 3 [c0]=some V:=by have h:=c 0 _ rfl;simpa[AH,Zl] using h
  have t1:f_ enc w_ W base (λ _=>true) held n 22 [c1]=some l:=by have h:=c 1 _ rfl;simpa[Qf,Zl] using h
  have t2:f_ enc w_ W base (λ _=>true) held n 42 [c2]=some m:=by have h:=c 2 _ rfl;simpa[Qh,Zl] using h
  have t3:f_ enc w_ W base (λ _=>true) held n 44 [c3,c4,c5]=some o:=by have h:=c 3 _ rfl;simpa[Qi,Zl] using h
  have t4:f_ enc w_ W base (λ _=>true) held n 28 [c6]=some q:=by have h:=c 4 _ rfl;simpa[Qg,Zl] using h
  have t5:f_ enc w_ W base (λ _=>true) held n 45 [T]=some u:=by have h:=c 5 _ rfl;simpa[Qj,Zl] using h
  clear c;simp only[ZN] at k;obtain⟨rfl,-⟩:=k;have X:Fits 22 l.1:=λ n b=>e n (by simp only[d_,e_];simp[m_,b])
  have Y:Fits 42 m.1:=λ n b=>e n (by simp only[d_,e_];simp[m_,b])
  have Z:Fits 44 o.1:=λ n b=>e n (by simp only[d_,e_];simp[m_,b])
  have aa:Fits 28 q.1:=λ n b=>e n (by simp only[d_,e_];simp[m_,b])
  have ab:Fits 45 u.1:=λ n b=>e n (by simp only[d_,e_];simp[m_,b])
  obtain⟨k3,w,ad,m3,ae,_,f,g,i⟩:=trod_struct3 Z9 t3;have j:=Z;rw[ae] at j;have af:Fits 25 k3.1:=λ n b=>j n (by simp only[d_,Z9];simp[m_,b])
  have ag:Fits 25 w.1:=λ n b=>j n (by simp only[d_,Z9];simp[m_,b])
  replace f:f_ enc w_ W base (λ _=>true) held m3 25 [c3]=some k3:=by simpa[AI] using f
  replace g:f_ enc w_ W base (λ _=>true) held m3 25 [c4]=some w:=by simpa[AI] using g
  replace i:f_ enc w_ W base (λ _=>true) held m3 3 [c5]=some ad:=by simpa[AH] using i
  obtain⟨x,z,_,_⟩:=Zm o_ t0;obtain⟨bh,ar,aS,gs,A,B,_⟩:=N1 t1 X;obtain⟨ah,nl,cl,es,C,D⟩:=Qs t2 Y;obtain⟨ai,au,aj,act,E,F,_⟩:=zu f af;obtain⟨ak,no,co,ord,G,I,_⟩:=zu g ag;obtain⟨y,J,_,_⟩:=Zm o_ i;obtain⟨al,av,an,K,M,N⟩:=Qr t4 aa;obtain⟨ao,aw,aq,O,P,Q⟩:=Qt t5 ab;simp only[ZU,and_true] at z A C E G J M P;subst z A C E G J M P;obtain rfl:=B.len;obtain rfl:=D.len;obtain rfl:=F.len;obtain rfl:=I.len;obtain rfl:=N.len;obtain rfl:=Q.len;exact⟨⟨x,gs,es,act,ord,y,K,O⟩,⟨x,⟨bh,gs.length,aS⟩,⟨ah,es.length,cl⟩,⟨ai,act.length,aj⟩,⟨ak,ord.length,co⟩,y,⟨al,K.length,an⟩,⟨ao,O.length,aq⟩⟩,rfl,rfl,⟨B,D,F,I,N,Q⟩⟩
end
end
end Go.Proofs.YtogdlkfacflmaaaGreat
