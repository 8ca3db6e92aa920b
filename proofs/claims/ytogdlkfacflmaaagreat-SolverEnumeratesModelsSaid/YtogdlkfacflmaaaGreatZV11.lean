/- Parts of the walk of the solver and its core; no condition. -/
import Derived.Shelf.SlicesE.Delete
import Derived.ScopeJumps
import Derived.WalkMore
import Derived.Test.YtogdlkfacflmaaaGreatZV10
import Derived.Test.YtogdlkfacflmaaaGreatZV9
import Derived.Test.YtogdlkfacflmaaaGreatZV1
namespace Go.Proofs.YtogdlkfacflmaaaGreat
set_option linter.unusedVariables false
set_option linter.unusedSimpArgs false
set_option maxRecDepth 1000000
set_option maxHeartbeats 16000000
open _root_.And renaming intro→z_
open _root_.List renaming getElem?_cons_zero→y_,getElem?_cons_succ→x_,length_append→s_,mem_map→r_,take_of_length_le→o_,mem_singleton→n_,getElem_mem→h_,eraseIdx_eq_take_drop_succ→g_,map_cons→e_,getElem?_eq_getElem→d_,map_nil→c_,sublist_nil→Zx,sublist_cons_iff→Zw,eq_nil_of_length_eq_zero→Zv,getElem?_eq_some_iff→Zp,map_append→Zm,mem_append→Zl,length_map→Zk,mem_of_mem_take→Zd
open _root_.Go.Proofs.Tryz renaming prog→w_,underlying3→l_,underlying66→a_,underlying228→Zu,underlying22→Zq
open _root_.Go.RowKit.Below renaming refl→v_
open _root_.Go.IntKind renaming wrap_i64→u_,i64→t_
open _root_.Nat renaming le_refl→q_,zero_le→m_,ne_of_lt→k_,le_of_lt→j_
open _root_.Go renaming wp_region_noPanic→p_
open _root_.Go.Value renaming slice→i_
open _root_.Go.Instr renaming findNow→f_,sameNow→Zr,makeFunc→Zh
open _root_.Go.World renaming ownsRow_nil→b_,putObj_heap_other→Zo,cell?_of_block→Ze,grownBy_alloc→Zc
open _root_.Go.MapKept renaming IsKey→Zt,run_getObj_map→Zi
open _root_.Go.WideShapes renaming add_plain→Zn
open _root_.Go.Deep renaming add_add→Zj
open _root_.Array renaming replicate_succ→Zg,replicate_zero→Zf
open _root_.List.cons renaming injEq→Z0
variable{w W kR:World}{g B mZ off m b clock nr kH wG kn bn:Nat}{es:Array MapEntry}{rs:List Row}{gI:Option Addr}{co:List Int}
section
open Go.Shelf
def Tryz.PE:Go.Shelf.Ren:=⟨λ|45=>204|n=>n,λ|22=>22|23=>25|3=>3|4=>4|0=>0|n=>n,λ|n=>n⟩
theorem Tryz.PF:Go.Proofs.SlLaysE.n45 w_ Tryz.PE:={
 mixed:=by kernel_rfl
 f45:=⟨Tryz.f204.name,by decide,Tryz.func204.trans (congrArg some (by kernel_rfl))⟩
 t0:=Tryz.underlying0
 a0:=Tryz.isAgg0
 z0:=Tryz.sizeOf0
 v0:=Tryz.zeroValue0
 t3:=l_
 a3:=Tryz.isAgg3
 z3:=Tryz.sizeOf3
 v3:=Tryz.zeroValue3
 t4:=Tryz.underlying4
 a4:=Tryz.isAgg4
 z4:=Tryz.sizeOf4
 v4:=Tryz.zeroValue4
 t22:=Zq
 a22:=Tryz.isAgg22
 z22:=Tryz.sizeOf22
 v22:=Tryz.zeroValue22
 a23:=Tryz.isAgg25
 z23:=Tryz.sizeOf25}
open Go.RowKit Go.Shelf Go.Lib Go.Sort
instance:Inhabited Row:=⟨⟨none,0,0,[]⟩⟩
theorem PG:OneCell kF:=λ _=>rfl
theorem PI{enc:Row->Value}{q:Nat}{d:Array Row}:w.grownBy (putRow enc (Sort.ahead w q) g 0 d) (some g):=
 ⟨rfl,rfl,rfl,by simp[putRow,mapBlock,Sort.ahead],λ k hk b=>by
  simp[putRow,mapBlock,Sort.ahead,Array.getElem?_modify,show g≠k from λ e=>b (by rw[e])]⟩
theorem PJ(w:World)(base g n cap:Nat)(rs:List Row)(h:w.ownsRow base 25 1 (.slice (some ⟨g,0,none⟩) n cap) n (rs.map kF))(r:base<=g)(i:Nat)(s:i<n):
  Calls w_ 204 #[.slice (some ⟨g,0,none⟩) n cap,.int .i64 i,.int .i64 ((i:Int)+1)] w λ e w'=>
   e=.returned (.slice (some ⟨g,0,none⟩) (n-1) cap)/\w'.ownsRow base 25 1 (.slice (some ⟨g,0,none⟩) (n-1) cap) (n-1) ((rs.eraseIdx i).map kF)/\w.grownBy w' (some g):=by
 obtain⟨t,u,he,h1,v,y,c,d,f⟩:=holds_of_ownsRow h (by intro e;cases e)
 cases he
 have j:cap<=9223372036854775807:=by unfold maxLen at c;omega
 have l:rs.toArray.size=n:=by simp[d]
 obtain⟨i0,m,z,o,A⟩:=info_parts Bc;have b:=AnyE.slices_Delete Tryz.PF kF PG ⟨none,0,0,[]⟩ Tryz.zeroValue25 i0 m o g 0 cap i (i+1) rs.toArray w f (by omega) j (by omega) (by omega);rw[l] at b;have p:i+1-i=1:=by omega
 rw[p] at b;refine Calls.mono b ?_;rintro e w' ⟨rfl,q,rfl⟩;refine⟨rfl,?_,PI⟩;have hl:(rs.take i++rs.drop (i+1)).length=n-1:=by rw[s_,List.length_take,List.length_drop];omega
 have:=ownsRow_putRow (q:=q) (k:=n-1) (ys:=(rs.take i++rs.drop (i+1))++List.replicate 1 ⟨none,0,0,[]⟩) h (by rw[s_,hl];simp;omega) (by omega);rw[List.take_left' hl] at this;rw[g_];exact this
theorem PK(A:Option Addr)(n c:Nat)(rs:List Row)(w:World)(h:nU w A n c rs)(D:n<=1000000):
  Calls w_ 242 #[.slice A n c] w λ e w'=>∃A' c',e=.returned (.slice A' n c')/\w'.ownsRow w.heap.size 25 1 (.slice A' n c') n (rs.map kF)/\Below w.heap.size w w':=by
 obtain⟨i0,r,s,t,v⟩:=info_parts Bc;have E:∀(w:World)(a:Option Addr)(n c l c':Nat),(binOp .eql 22 (.slice a n c) (.slice none l c')).run w_ w=.ok (.bool a.isNone) w:=λ w a n c l c'=>Lib.run_eql_slice_nil w _ _ a n c l c' Zq
 have hlen:=h.len;have H:=U h;clear h
 cases A with
 |none=>
  have y:n=0:=by
   rcases Nat.eq_zero_or_pos n with d|d
   ·exact d
   ·obtain⟨b,off,he,_⟩:=H.o.cells d;cases he
  subst y;have z:rs=[]:=Zv hlen;subst z;clear hlen;go_enter Tryz.func242,Tryz.ntmps242
  go_wp2;go_ret;exact⟨none,0,rfl,b_ _ _ _ _,v_ _ _⟩
 |some a=>
  have m:=U hlen;clear hlen;go_enter Tryz.func242,Tryz.ntmps242
  go_wp2_with (at_builtin;refine wpList_append_own _ rfl _ _ 22 rfl w.heap.size 25 i0 (.slice none 0 0) 1 24 Zq r s t v rfl (by decide) _ _ _ rfl (World.ownsRow_made w #[] 0 (q_ _) (m_ _) rfl) a n c (rs.map kF) rfl ?qc1 ?qc2 ?qc3 ?qc4 ?qc5 ?qc6 ?_)
  case qc1=>simp[m.o]
  case qc2=>
   intro j u q;have F:j<n:=by have:=(Zp.1 q).1;simpa[m.o] using this
   obtain⟨b,off,he,f,B⟩:=H.o.cells (by omega);injection he with he
   subst he;rw[Addr.add_lit];rw[World.cell?_alloc_lt _ _ _ (by exact f)];exact B j u q
  case qc3=>intro u hu;obtain⟨x,_,rfl⟩:=r_.1 hu;rfl
  case qc4=>unfold maxLen;omega
  case qc5=>omega
  case qc6=>simp
  intro v' w1 i C G;go_wp2;go_ret;have f:Below w.heap.size w w1:=((v_ _ w).alloc (q_ _) _).grown C (by simp) (by intro k hk;simp[Value.ownBlock] at hk;omega);have hl:=m.o;subst hl;rcases i.2 with⟨p,d⟩|⟨g,cap,cur,p,I⟩
  ·subst p;refine⟨none,0,?_,?_,f⟩
   ·rw[d];rfl
   ·rw[d] at i⊢;exact i
  ·subst p;exact⟨_,_,rfl,i,f⟩
def CP(w:World)(d:Option Addr)(e c0:Nat)(f:Option Addr)(i c1 b g:Nat)(k:Nat)(a:Act)(W:World):Prop:=
 ∃(T:List Int)(rs:List Row)(m j n cap:Nat)(l o p q s t u v y z B C u16 D E F G H I J K L M N O P Q R u32 S U V X Y Z aa ab ad ae af ag ai aj ak al an ao aq ar au av aw ax ay:Value),a={tmps:= #[.slice d e c0,.slice f i c1,l,o,p,.map (some b),q,s,.slice (some ⟨g,0,none⟩) n cap,t,u,v,y,z,B,C,u16,D,E,F,G,H,I,J,K,L,M,N,O,P,Q,R,u32,S,U,V,X,Y,Z,aa,ab,ad,ae,af,ag,ai,aj,ak,al,an,ao,aq,ar,au,av,aw,ax,ay],defers:=[]}/\n<k/\n<=1000/\m+n<=20000000000000/\W.ownsRow w.heap.size 25 1 (.slice (some ⟨g,0,none⟩) n cap) n (rs.map kF)/\(∀r∈rs,aN w r.A r.n r.c r.ah)/\nI W b m j T/\b≠g/\Below w.heap.size w W/\wE T (rs.map (·.ah))
noncomputable def PL:Code:=((Tryz.f202.body.bind λ c=>match c with| .seq _ (.scope c)=>(findLabel c 0).bind (λ c=>match c with| .seq _ c=>some c|_=>none)|_=>none)).getD .skip
theorem IW(w W:World)(O:Option Addr)(P c0:Nat)(Q:Option Addr)(R c1 b g:Nat)(S:w.heap.size<=b)(k:Nat)(a:Act)(h:CP w O P c0 Q R c1 b g (k+1) a W):
  Code.wp w_ PL (Exit.jump 0 (CP w O P c0 Q R c1 b g k) (bodyPost w_ Tryz.f202 λ e w'=>e=.returned (.bool true)/\Below w.heap.size w w')) a W:=by
 obtain⟨T,rs,m,V,n,cap,aV,aW,aX,aY,aZ,a6,a7,a8,a',ba,bb,bc,u16,bd,bf,bg,bh,bj,bk,bl,bn,bo,bp,bq,br,bs,bt,bu,u32,bw,bx,bz,bA,bB,bC,bD,bE,bF,bG,bH,bI,bJ,bK,bL,bM,bN,bO,bP,bQ,bR,bS,bT,bU,bV,rfl,X,bW,hm,d,Y,v,Z,y,hF⟩:=h;have aa:rs.length=n:=by simpa using d.1
 have aE:=U d;have ab:=U Y;have aF:=U v;have aG:=U y;have A:=U hF;have u:=U (z_ X (z_ aa (z_ Z S)));have ad:=tc d rfl;have ae:=U ad;clear d Y v y hF aa Z X ad S
 conv=>arg 2;whnf
 go_wp2
 go_loopw [8,34] (λ aH i wr=>∃j:Nat,aH=.slice (some ⟨g,0,none⟩) n cap/\i=.int .i64 j/\j<=n/\wr.ownsRow w.heap.size 25 1 (.slice (some ⟨g,0,none⟩) n cap) n (rs.map kF)/\nI wr b m V T/\(∀q,q<j->tJ T (oR (rs.map (·.ah)) q) 0 false)/\Below w.heap.size w wr) (λ _ i _=>n-(intOf i).toNat)
 case atStart=>exact⟨0,rfl,rfl,m_ _,aE.o,aF.o,λ q B=>absurd B (by omega),aG.o⟩
 case round=>
  obtain⟨j,rfl,rfl,bX,d,v,F,y⟩:=hrel;have af:=U d;have D:=U v;have aI:=U F;have ag:=U y
  by_cases ai:j<n
  ·have c:j<rs.length:=by rw[u.o.2.1];exact ai
   have G:wr.cell? ⟨g,j,none⟩=some (kF (rs[j]'c)):=by
    rw[d.cellAt j (by omega),List.getElem?_map,d_ c];rfl
   have H:=ab.o (rs[j]'c) (h_ c);have I:oR (rs.map (·.ah)) j=(rs[j]'c).ah:=by rw[vN (by simpa using c)];simp
   obtain⟨r,s⟩:∃r,rs[j]'c=r:=⟨_,rfl⟩
   have aj:=U (⟨c,s⟩:∃h:j<rs.length,rs[j]'h=r);rw[s] at G H I;obtain⟨J,K,rc,z⟩:=r;have G:wr.cell? ⟨g,j,none⟩=some (.slice J K rc):=G;have ak:aN w J K rc z:=H;have al:∀x∈z,x≠0/\ -65536<=x/\x<=65536:=λ x aJ=>by
    have:=zz (A.o.lt z (r_.2 ⟨rs[j]'c,h_ c,by rw[s]⟩) x aJ);omega
   have aK:=U I;have aL:=U (PD b m V T J K rc z wr v (ak.below y) al);clear d v F y H ak al c s I
   go_upto_region 15 with(go_at_call 243;refine aL.o.mono ?_;rintro e bY ⟨f,aM,rfl,an,ao⟩;have aq:=U an;have C:=U ao;clear an ao)
   have E:=U (ag.o.trans (C.o.mono ag.o.size))
   cases aM with
   |true=>
    go_wp2;simp only[Exit.jump];go_ret;exact⟨rfl,E.o⟩
   |false=>
    by_cases t:f=0
    ·subst t;have aO:t_.wrap ((j:Int)+1)=(j:Int)+1:=by rw[u_];omega
     go_wp2;go_roundw
     case rel=>
      refine⟨j+1,rfl,by go_num,by omega,lU af.o C.o,D.o.below C.o D.o.lt,λ q B=>?_,E.o⟩
      by_cases e:q=j
      ·subst e;rw[aK.o];exact aq.o
      ·exact aI.o q (by omega)
     case measure=>simp[intOf];omega
    ·have bZ:(f !=0)=true:=by simp[t]
     have aO:t_.wrap ((j:Int)+1)=(j:Int)+1:=by rw[u_];omega
     have h1:=(aq.o.one t).2;have ar:gF 2 f:=A.o.lt z (by obtain⟨p,q⟩:=aj.o;rw[r_];exact⟨_,h_ p,by rw[q]⟩) f h1.1;have aP:=zz ar;have au:r5 f=true:=zh (by omega) (by omega);obtain⟨av,b0,aw,L⟩:=(D.o.below C.o D.o.lt).put Zu (by unfold maxLen;omega) au;have ax:av.ownsRow w.heap.size 25 1 (.slice (some ⟨g,0,none⟩) n cap) n (rs.map kF):=(lU af.o C.o).kept L.grown (.inr (λ e=>u.o.2.2.1 (by have e:some g=some b:=e;injection e with e;exact e.symm)));have aQ:=U (PJ av w.heap.size g n cap rs ax ae.o.1 j ai);have H1:=U (z_ h1 (z_ aw L));have b1:=U t;clear h1 ar aP au aw L ax t
     go_wp2_with (go_at_call 204;with_reducible refine aQ.o.mono ?_;rintro e b2 ⟨rfl,ay,az⟩;have M:=U (z_ ay az);clear ay az)
     go_step3
     have aA:=yj E.o H1.o.2.2.grown E.o.size (λ q e=>by injection e with e;rw[<-e];exact u.o.2.2.2);have aR:=aA.grown M.o.2 aA.size (λ q e=>by injection e with e;rw[<-e];exact ae.o.1);have hle:(rs.map (·.ah)).eraseIdx j=(rs.eraseIdx j).map (·.ah):=by rw[g_,g_,Zm,List.map_take,List.map_drop]
     obtain⟨c,s⟩:=aj.o;have aB:j<(rs.map (·.ah)).length:=by simpa using c
     have aS:(rs.map (·.ah))[j]'aB=z:=by simp[s]
     have aC:=A.o.more aB (by rw[aS];exact H1.o.1);rw[hle] at aC;refine⟨rfl,T++[f],rs.eraseIdx j,m+1,_,n-1,cap,_,_,_,_,_,_,_,_,_,_,_,_,_,_,_,_,_,_,_,_,_,_,_,_,_,_,_,_,_,_,_,_,_,_,_,_,_,_,_,_,_,_,_,_,_,_,_,_,_,_,_,_,_,_,rfl,by have:=u.o.1;omega,by omega,by omega,M.o.1,λ r s=>ab.o r (List.mem_of_mem_eraseIdx s),H1.o.2.1.kept M.o.2 (λ e=>by injection e with e;exact u.o.2.2.1 e),u.o.2.2.1,aR,aC⟩
  ·obtain rfl:j=n:=by omega
   exfalso;obtain⟨l,hl,N⟩:=A.o.OT;obtain⟨q,B,rfl⟩:=List.getElem_of_mem hl;have aT:q<j:=by rw[<-u.o.2.1];simpa using B
   have aD:=F q aT;rw[vN B] at aD;obtain⟨h1,aU⟩:=aD.no rfl rfl;rcases N with N|⟨f,t⟩
   ·exact h1 N
   ·exact aU f (A.o.lt _ hl f t.1).oH t
theorem IX(w:World)(s:Option Addr)(c c0:Nat)(rs:List Row)(bc:nU w s c c0 rs)(bT:c<=1000)(v:∀r∈rs,∀x∈r.ah,gF 2 x)(bd:[1,2]∈rs.map (·.ah))(f:[-1,2]∈rs.map (·.ah))
  (z:Option Addr) (j c1:Nat) (l:List Int) (hl:aN w z j c1 l) (bf:∀x∈l,gF 2 x) (bg:pM mY l):
  Calls w_ 202 #[.slice s c c0,.slice z j c1] w λ e w'=>e=.returned (.bool true)/\Below w.heap.size w w':=by
 have bU:=hl.small;have H:=U (z_ bc hl);have p:=U (z_ v (z_ bd (z_ f (z_ bf bg))));clear bc v bd f hl bf bg;have bV:= @run_makeMap w_;go_enter Tryz.func202,Tryz.ntmps202
 go_wp2;refine wp_scope_jumps 0 (λ a W=>∃b g k,w.heap.size<=b/\CP w s c c0 z j c1 b g k a W) (λ a _=>match a.tmps.getD 8 undef with| .slice _ n _=>n|_=>0) rfl ?_ ?_
 ·go_wp2;have O:=nI.made w;have P:Below w.heap.size w (w.alloc (.map #[] 0)):=(v_ _ _).alloc (q_ _) _;generalize bA:w.alloc (.map #[] 0)=W at O P⊢;clear bA;have bB:=U O;have bC:=U P;clear O P
  go_loopw [16] (λ i wr=>∃(k A:Nat),k<=j/\i=.int .i64 k/\nI wr w.heap.size k A ((l.take k).map λ x=> -x)/\(∀x∈l.take k,-x∉l.take k)/\Below w.heap.size w wr) (λ i _=>j-(intOf i).toNat)
  case atStart=>exact⟨0,0,m_ _,rfl,bB.o,λ x C=>by simp at C,bC.o⟩
  case round=>
   obtain⟨k,A,hk,rfl,bh,bj,bk⟩:=hrel;have I:=U bh;have Q:=U bj;have u:=U bk;clear bh bj bk
   by_cases v:k<j
   ·obtain⟨bW,off,rfl,f,J⟩:=(H.o.2.below u.o).cells (by omega);have bD:=J k v;clear J;have hl:k<l.length:=by rw[H.o.2.len];exact v
    have K:=zz (p.o.2.2.2.1 _ (vO hl));have E:=U (tK l k hl);obtain⟨x,C⟩:∃x,jv l k=x:=⟨_,rfl⟩
    rw[C] at bD K E;have bl:bF (∀W:World,Calls w_ 241 #[.int .i64 x] W λ e w'=>e=.returned (.bool true)/\W=w'):=U λ W=>EK x W (by omega) (by omega) (by omega)
    have R:r5 x=true:=zh (by omega) (by omega);have S:r5 (-x)=true:=zh (by omega) (by omega);have wn:t_.wrap (-x)= -x:=by rw[u_];omega
    obtain⟨bX,bY,M,o6⟩:=I.o.put Zu (by unfold maxLen;omega) S;have bn:=M.look Zu R;have bE:=U (z_ M (z_ o6 (z_ v K)));have V:(l.take (k+1)).map (λ x=> -x)=(l.take k).map (λ x=> -x)++[-x]:=by rw[E.o];simp
    have bo:=U V;have bp:=U (yj u.o o6.grown u.o.size (λ g e=>by injection e with e;omega))
    cases F:hasB ((l.take k).map (λ x=> -x)++[-x]) x with
    |true=>
     rw[F] at bn;clear K hl C R S M o6 F V
     go_wp2_with (go_at_call 241;refine(bl.o _).mono ?_;rintro e w' ⟨rfl,rfl⟩)
     simp only[Exit.jump];go_ret;exact⟨rfl,bp.o⟩
    |false=>
     rw[F] at bn;have bG:=U F;clear K hl C R S M o6 F V
     go_wp2_with (go_at_call 241;refine(bl.o _).mono ?_;rintro e w' ⟨rfl,rfl⟩)
     go_roundw
     case rel=>
      refine⟨k+1,_,by omega,by go_num,by rw[bo.o];exact bE.o.1,?_,bp.o⟩;have bH:x∉(l.take (k+1)).map λ x=> -x:=by rw[bo.o,<-oQ,bG.o];exact Bool.noConfusion
      have bq: -x∉l.take (k+1):=λ hm=>bH (by rw[r_];exact⟨-x,hm,Int.neg_neg x⟩)
      intro y br X;rw[E.o] at br X;rcases Zl.1 br with h1|h1
      ·rcases Zl.1 X with d|d
       ·exact Q.o y h1 d
       ·rw[n_] at d;refine bq ?_;rw[E.o,<-d,Int.neg_neg];exact Zl.2 (.inl h1)
      ·rw[n_] at h1;subst h1;exact bq (by rw[E.o];exact X)
     case measure=>simp[intOf];omega
   ·obtain rfl:k=j:=by omega
    have bs:l.take k=l:=o_ (by rw[H.o.2.len];omega);rw[bs] at I Q;have bI:=U (PK s c c0 rs wr (H.o.1.below u.o) (by omega));clear bs
    go_wp2_with (go_at_call 242;refine bI.o.mono ?_;rintro e bJ ⟨A',c',rfl,bt,f⟩;have G:=U (z_ (AS bt u.o.size) f);clear bt f)
    go_step3
    have bZ:rs.length=c:=H.o.1.len;have b0:0<c:=by
     have:=p.o.2.1;rcases Nat.eq_zero_or_pos c with bu|bu
     ·have:rs=[]:=Zv (by omega);have B:=p.o.2.1;rw[this] at B;simp at B
     ·exact bu
    obtain⟨N,rfl⟩:∃q,c=q+1:=⟨c-1,by omega⟩
    obtain⟨g,cap,bK⟩:=yA G.o.1;injection bK with bL b1 b2
    subst bL;have bw:=I.o.below G.o.2 I.o.lt;have bM:w.heap.size≠g:=λ e=>by
     obtain⟨cs,J⟩:=sN G.o.1 (show(i_ (some ⟨g,0,none⟩) (N+1) c').ownBlock=some g from rfl);obtain⟨D,⟨es,clock,h1,_⟩,_⟩:=bw;rw[e,J] at h1
     cases h1
    have hF:=wE.start (L:=rs.map (·.ah)) (λ l hl=>by obtain⟨r,Y,rfl⟩:=r_.1 hl;exact p.o.1 r Y) p.o.2.1 p.o.2.2.1 p.o.2.2.2.1 p.o.2.2.2.2 Q.o;rename_i bN;refine bN _ _ ?_;refine wp_mono (IW w bJ s (N+1) c0 z k c1 w.heap.size g (q_ _) (N+1) _ ⟨_,rs,k,A,N+1,c',_,_,_,_,_,_,_,_,_,_,_,_,_,_,_,_,_,_,_,_,_,_,_,_,_,_,_,_,_,_,_,_,_,_,_,_,_,_,_,_,_,_,_,_,_,_,_,_,_,_,_,_,_,_,rfl,by omega,by omega,by omega,G.o.1,λ r Y=>H.o.1.rows r Y,bw,bM,u.o.trans (G.o.2.mono u.o.size),hF⟩) ?_;intro e a W' h
    cases e with
    |goto t=>exact⟨h.1,_,_,_,q_ _,h.2⟩
    |normal=>exact h
    |exit id=>exact h
    |ret=>exact h
    |panic bO=>exact h
    |outgrown=>exact h
 ·rintro a W ⟨b,g,k,f,bP⟩;obtain⟨T,bx,m,A,n,cap,bz⟩:=bP;have bQ:CP w s c c0 z j c1 b g (n+1) a W:=by
   obtain⟨Z,aa,ab,ad,ae,af,ag,ai,aj,ak,al,an,u16,ao,aq,ar,au,av,aw,ax,ay,az,aA,aB,aC,aD,aE,aF,u32,aG,aH,aI,aJ,aK,aL,aM,aO,aP,aQ,aR,aS,aT,aU,aV,aW,aX,aY,aZ,a6,a7,a8,a',ba,bb,h1,d,B⟩:=bz;exact⟨T,bx,m,A,n,cap,Z,aa,ab,ad,ae,af,ag,ai,aj,ak,al,an,u16,ao,aq,ar,au,av,aw,ax,ay,az,aA,aB,aC,aD,aE,aF,u32,aG,aH,aI,aJ,aK,aL,aM,aO,aP,aQ,aR,aS,aT,aU,aV,aW,aX,aY,aZ,a6,a7,a8,a',ba,bb,h1,by omega,B⟩
  have bR:(match a.tmps.getD 8 undef with| .slice _ n _=>n|_=>0)=n:=by
   obtain⟨Z,aa,ab,ad,ae,af,ag,ai,aj,ak,al,an,u16,ao,aq,ar,au,av,aw,ax,ay,az,aA,aB,aC,aD,aE,aF,u32,aG,aH,aI,aJ,aK,aL,aM,aO,aP,aQ,aR,aS,aT,aU,aV,aW,aX,aY,aZ,a6,a7,a8,a',ba,bb,h1,d,B⟩:=bz;rw[h1];rfl
  refine wp_seq (wp_skip ?_);refine wp_mono (IW w W s c c0 z j c1 b g f n a bQ) ?_;intro e bS W' h
  cases e with
  |goto t=>
   obtain⟨h1,d⟩:=h;refine⟨h1,⟨b,g,n,f,d⟩,?_⟩;obtain⟨T,bx,m,A,b3,cap,Z,aa,ab,ad,ae,af,ag,ai,aj,ak,al,an,u16,ao,aq,ar,au,av,aw,ax,ay,az,aA,aB,aC,aD,aE,aF,u32,aG,aH,aI,aJ,aK,aL,aM,aO,aP,aQ,aR,aS,aT,aU,aV,aW,aX,aY,aZ,a6,a7,a8,a',ba,bb,h1,d,B⟩:=d;show(match bS.tmps.getD 8 undef with| .slice _ n _=>n|_=>0)<_;rw[bR,h1];exact d
  |normal=>exact h
  |exit id=>exact h
  |ret=>exact h
  |panic bO=>exact h
  |outgrown=>exact h
end
section
open Go.RowKit Go.Shelf Go.Lib
def sH(B b off m:Nat)(W W':World):Prop:=(∀v,W.cell? ⟨B,0,none⟩=some v->W'.cell? ⟨B,0,none⟩=some v)/\∀(k:Nat)(v:Value),k<m->W.cell? ⟨b,off+k,none⟩=some v->W'.cell? ⟨b,off+k,none⟩=some v
theorem sH.refl(B b off m:Nat)(W:World):sH B b off m W W:=⟨λ _ h=>h,λ _ _ _ h=>h⟩
theorem sH.trans{ji jD ki:World}(h:sH B mZ off m ji jD)(k:sH B mZ off m jD ki):sH B mZ off m ji ki:=⟨λ v e=>k.1 v (h.1 v e),λ j v b e=>k.2 j v b (h.2 j v b e)⟩
theorem sH.yZ{W':World}{row:Option Nat}(b:W.grownBy W' row)(h1:some B≠row)(c:some mZ≠row):sH B mZ off m W W':=⟨λ v h=>b.cell h h1,λ k v _ h=>b.cell h c⟩
theorem PM:∀args w,(callFunc 271 args).run w_ w=.ok (.enter 271 args) w:=enters_of Tryz.func271 (by kernel_rfl) rfl
theorem PN{ah:List Int}{k:Nat}(hk:k<ah.length):ah.take k++[jv ah k]<+:ah:=by
 rw[<-tK ah k hk];exact List.take_prefix _ _
theorem PO(F:Fence)(n:Nat)(G:F.fn 271)(H:F.round=none)(P:1<=n)(l B d off m I:Nat)(b:List Int)(hl:b.length=m)(hm:m<=1000000)(c q:List Int->World->Prop)
  (J:∀pre (x:Int) W,c pre W->(pre++[x])<+:b->YieldAt F (n-1) w_ l #[.int .i64 x] W λ e W'=>
   (e=.returned (.bool true)/\c (pre++[x]) W'/\sH B d off m W W')\/(e=.returned (.bool false)/\q (pre++[x]) W'))
  (W:World) (c1:W.cell? ⟨B,0,none⟩=some (.slice (some ⟨d,off,none⟩) m I)) (r:∀k,k<m->W.cell? ⟨d,off+k,none⟩=some (.int .i64 (jv b k))) (K:c [] W):
  CallsIn F n w_ 271 #[.func (.yield l) #[] #[],.pointer (some ⟨B,0,none⟩)] W λ e W'=>(∃v,e=.returned v)/\
   ((∃ys,ys=b/\c ys W')\/(∃pre,pre<+:b/\q pre W')):=by
 have L:=U r;have s:=U hl;clear r hl;refine callsIn_of_wp Tryz.func271 rfl G ?_ H;simp only[Tryz.ntmps271,List.size_toArray,List.length_cons,List.length_nil,Nat.reduceAdd,Nat.reduceSub,Zg,Zf,List.push_toArray,List.append_toArray,List.nil_append,List.cons_append]
 gi_wp2
 gi_loopw [7] (λ i wr=>∃k:Nat,k<=m/\i=.int .i64 k/\c (b.take k) wr/\sH B d off m W wr) (λ i _=>m-(intOf i).toNat)
 case atStart=>exact⟨0,m_ _,rfl,by rw[List.take_zero];exact K,sH.refl _ _ _ _ _⟩
 case round=>
  obtain⟨k,hk,rfl,t,u⟩:=hrel;have w:=U t;have y:=U u;clear t u
  by_cases f:k<m
  ·have M:=y.o.2 k _ f (L.o k f);have g:k<b.length:=by rw[s.o];exact f
   have z:=U (tK b k g);have j:=U (PN g);have Q:t_.wrap ((k:Int)+1)=(k:Int)+1:=by rw[u_];omega
   have R:(k:Int)<(m:Int):=by omega
   obtain⟨x,A⟩:∃x,jv b k=x:=⟨_,rfl⟩
   rw[A] at M z j;clear A g;obtain⟨fn,tmps,assign,body,S,N⟩:=J _ x wr w.o j.o
   gi_wp2
   refine N.mono ?_;rintro e T (⟨rfl,C,D⟩|⟨rfl,E⟩)
   ·have p:=U C;have O:=U D;clear C D
    gi_wp2
    go_roundw
    case rel=>exact⟨k+1,by omega,by go_num,by rw[z.o];exact p.o,y.o.trans O.o⟩
    case measure=>simp[intOf];omega
   ·have p:=U E;clear E
    gi_wp2
    refine bodyPost_ret (results_none rfl _ _ _) rfl ?_;exact⟨⟨_,rfl⟩,.inr ⟨_,j.o,p.o⟩⟩
  ·obtain rfl:k=m:=by omega
   gi_wp2
   go_end0;exact⟨⟨_,rfl⟩,.inl ⟨_,by rw[o_ (by rw[s.o];exact q_ _)],w.o⟩⟩
theorem PR(n:Nat)(f:1<=n)(B b off m d:Nat)(c:List Int)(hl:c.length=m)(hm:m<=1000000)(w:World)(c1:w.cell? ⟨B,0,none⟩=some (.slice (some ⟨b,off,none⟩) m d))
  (g:∀k,k<m->w.cell? ⟨b,off+k,none⟩=some (.int .i64 (jv c k))) (h1:B<w.heap.size) (i:b<w.heap.size):
  C7 Fence.wide n w_ 271 #[.pointer (some ⟨B,0,none⟩)] (λ x:Int=> #[.int .i64 x]) (sH B b off m) (λ pre x=>(pre++[x])<+:c) (λ ys=>ys=c) (λ pre=>pre<+:c) w:=
 λ l j o W e q r=>PO Fence.wide n trivial rfl f l B b off m d c hl hm j o q W ((e.cell (p:=⟨B,0,none⟩) h1).trans c1)
  (λ k hk=>(e.cell (p:=⟨b,off+k,none⟩) i).trans (g k hk)) r
theorem PS(A:Option Addr)(n c:Nat)(w:World):
  Calls w_ 264 #[.slice A n c] w λ e w'=>e=.returned (.func (.func 271) #[] #[.pointer (some ⟨w.heap.size,0,none⟩)])/\w'=w.alloc (.cells #[.slice A n c] 25):=by
 have b:∀(fn:Fn)(first cap:Array Value)(w:World),(Zh fn first cap).run w_ w=.ok (.func fn first cap) w:=λ _ _ _ _=>rfl
 go_enter Tryz.func264,Tryz.ntmps264
 go_wp2;go_ret;exact⟨rfl,rfl⟩
def A3(w V:World)(b:Nat)(pre:List Int):Prop:=
 ∃(A:Option Addr)(c:Nat),aM V b 25 [.slice A pre.length c]/\V.ownsRow w.heap.size 3 1 (.slice A pre.length c) pre.length (pre.map (Value.int .i64))/\Below w.heap.size w V
theorem A3.ua{V jB:World}{iL:Nat}{pre:List Int}(h:A3 w V iL pre)(u:w.heap.size<=B){row:Option Nat}(d:V.grownBy jB row)(f:∀r,row=some r->B<=r/\∃o:Obj,V.heap[r]? =some o/\o.isCells=false):A3 w jB iL pre:=by
 obtain⟨A,c,h1,i,j⟩:=h;have k:∀b,(∃cs t l,V.heap[b]? =some (.cells cs t l))->some b≠row:=λ b ⟨cs,t,l,n⟩ e=>by
  obtain⟨_,o,m,p⟩:=f b e.symm;rw[n] at m;cases m;cases p
 refine⟨A,c,h1.kept d (k _ (Ai h1)),i.kept d ?_,j.grown d j.size (λ g e=>by have:=(f g e).1;omega)⟩
 cases q:(i_ A pre.length c).ownBlock with
 |none=>exact .inl rfl
 |some g=>
  obtain⟨cs,s⟩:=sN i q;exact .inr (k g ⟨_,_,_,s⟩)
attribute [local go_sem] Oper.semAt_some
theorem PT(B g off m T:Nat)(u:List Int)(hl:u.length=m)(hm:m<=1000000)(w:World)(c1:w.cell? ⟨B,0,none⟩=some (.slice (some ⟨g,off,none⟩) m T))
  (f:∀k,k<m->w.cell? ⟨g,off+k,none⟩=some (.int .i64 (jv u k))) (h1:B<w.heap.size) (ao:g<w.heap.size):
  Calls w_ 273 #[.slice none 0 0,.func (.func 271) #[] #[.pointer (some ⟨B,0,none⟩)]] w λ e w'=>∃A c,e=.returned (.slice A m c)/\w'.ownsRow w.heap.size 3 1 (.slice A m c) m (u.map (Value.int .i64))/\Below w.heap.size w w':=by
 have ar:=U f;have K:=U hl;clear f hl;refine Bk Tryz.func273 rfl ?_;simp only[Tryz.ntmps273,List.size_toArray,List.length_cons,List.length_nil,Nat.reduceAdd,Nat.reduceSub,Zg,Zf,List.push_toArray,List.append_toArray,List.nil_append,List.cons_append];go_wp2;have i:=aM.new w 25 [.slice none 0 0];have z:Below w.heap.size w (w.alloc (.cells [i_ none 0 0].toArray 25)):=(v_ _ _).alloc (q_ _) _;have aW:(w.alloc (.cells [i_ none 0 0].toArray 25)).heap.size=w.heap.size+1:=by simp
 have au:=(z.cell (p:=⟨B,0,none⟩) h1).trans c1;have av:=U (λ k hk=>(z.cell (p:=⟨g,off+k,none⟩) ao).trans (ar.o k hk));change Code.wp _ _ _ _ (w.alloc (.cells [i_ none 0 0].toArray 25));generalize w.alloc (.cells [i_ none 0 0].toArray 25)=s at*;have W:OwnFrom s.heap.size (λ(pre:List Int)(V:World)=>A3 w V w.heap.size pre):=by
  rintro pre aX aY row h aw ax;exact h.ua (by omega) aw ax
 have X:=U W;have ay:=U i;have az:=U z;clear W i z;refine(wpIn_wide (n:=6)).1 ?_;refine Bj (F:=Fence.wide) (w0:=s) rfl (by omega) (gf:=271) (lb:= #[.pointer (some ⟨B,0,none⟩)]) rfl trivial PM
  (PR (6-1) (by omega) B g off m T u K.o hm s au av.o (by omega) (by omega))
  (λ h k=>h.trans k) (λ V l o aZ hl a6 Y _=>⟨λ v L=>(Ze (w:=V) (Zo (by show B≠l;omega))).trans L,λ k v _ L=>(Ze (w:=V) (Zo (by show g≠l;omega))).trans L⟩) (v_ _ _) (λ _=>rfl)
  (λ(pre:List Int)(V:World)=>A3 w V w.heap.size pre) (λ _ _ _=>False)
  X.o (λ _ _ _ _ _ (h:False)=>h.elim) ⟨none,0,ay.o,b_ _ _ _ _,az.o⟩
  ?a1 ?w1 ?assign ?kw1 ?body ?done ?stop
 case assign=>
  intro l pre y d a7 C M aA
  gi_wp2
  exact aA
 case kw1=>
  intro pre y d C;exact⟨KeepsFrom.refl _ _,sH.refl _ _ _ _ _⟩
 case body=>
  rintro l pre y Z d C ⟨o,aB,aa,Y,ab,ad⟩ M a8;have aC:=X.o _ _ _ _ C (show Z.grownBy d (some (s.heap.size+1)) by rw[aa];exact grownBy_putObj' Z (s.heap.size+1) o) (λ r e=>by cases e;exact⟨by omega,aB,ab,ad⟩);clear C aa Y ab ad;obtain⟨A,c,i,N,ae⟩:=aC;have af:pre.length<=1000000:=by have h:=M.length_le;rw[s_,K.o] at h;omega
  have O:=U i;have aD:=U N;have t:=U ae;have aE:=U af;have cb:d.cell? ⟨w.heap.size,0,none⟩=some (.slice A pre.length c):=i.cell 0;have ag:bF (some w.heap.size≠(i_ A pre.length c).ownBlock):=U λ e=>by
   obtain⟨cs,f⟩:=sN N e.symm;have:d.heap[w.heap.size]? =_:=i;rw[this] at f
   cases f
  clear i N ae af M;refine wpIn_block ?_;refine Fz (by kernel_rfl) (by rintro⟨_,_,(h:False)⟩;exact h) ?_;have P:=U (lU aD.o (bg d (lW [y])));have aF:=U (O.o.below (bg d (lW [y])));have aG:=U (aN.lit d [y] 1 _ rfl rfl (by omega));have Q:w.heap.size<=(d.alloc (lW [y])).heap.size:=by have:=t.o.size;have:=(bg d (lW [y])).size;omega
  have f0:=O.o.free 0
  go_wp2_with (at_builtin;refine vp rfl (.tmp 8) (.tmp 10) rfl w.heap.size (.slice A pre.length c) pre.length pre rfl P.o (some ⟨d.heap.size,0,none⟩) 1 1 [y] rfl aG.o (by have:=aE.o;omega) Q ?_;intro v9 gb H;obtain⟨⟨R,ah,c2⟩,aH,ai⟩:=aq.lq H.1;obtain rfl:v9=.slice R ah c2:=aH;have aI:=U H;have aJ:=U ai;have I:=aF.o.kept H.2.1 (λ e=>ag.o e);have c9:=I.cell 0;have f9:=I.free 0;simp only[y_] at c9;have aK:=U I;clear H ai I)
  obtain⟨g1,g2,g3⟩:=aI.o;have aL:ah=(pre++[y]).length:=by rw[s_];exact aJ.o
  subst aL;have J:∀b,(i_ A pre.length c).ownBlock=some b->w.heap.size<=b:=λ b e=>(tc P.o e).1
  refine⟨((KeepsOthers.alloc d (lW [y])).trans ((KeepsOthers.of_grownBy g2 (λ j o e aO=>?_)).trans (KeepsOthers.setCell _ _ _))).from _,(sH.yZ (Zc d (lW [y]) none) (by simp) (by simp)).trans ((sH.yZ g2 (λ e=>by have:=J B e.symm;omega) (λ e=>by have:=J g e.symm;omega)).trans (sH.yZ (Ju _) (λ e=>by injection e with e;omega) (λ e=>by injection e with e;omega))),R,c2,aK.o.set 0 _,?_,?_⟩
  ·obtain⟨cs,f⟩:=sN P.o e;have aj:(d.alloc (lW [y])).heap[j]? =some o:=aO;rw[f] at aj;cases aj;rfl
  ·have h:=g1;rw[s_] at h⊢;refine mK h λ b e=>?_
   have aP:b≠w.heap.size:=by
    have ak:(i_ R (pre++[y]).length c2).ownBlock=some b:=by rw[s_];exact e
    rcases g3 with q|q
    ·rw[ak] at q;exact λ aQ=>ag.o (by rw[<-aQ];exact q)
    ·have q:some b=some (d.alloc (lW [y])).heap.size:=ak.symm.trans q;injection q with q
     have:=O.o.lt;have:=(bg d (lW [y])).size;omega
   exact(kK gb w.heap.size 0 _).block b (tc h e).2 (λ aR=>aP (by injection aR))
  ·exact(((t.o.trans ((bg d (lW [y])).mono t.o.size)).grown g2 Q J)).grown (kK gb w.heap.size 0 _) (((t.o.trans ((bg d (lW [y])).mono t.o.size)).grown g2 Q J)).size (λ b e=>by injection e with e;omega)
 case done=>
  rintro D ys d aS aT ⟨A,c,g1,g2,g3⟩ al;subst aT;have aU:=g1.cell 0;simp only[y_] at aU;have G:=U (z_ g2 (z_ g3 al));clear g1 g2 g3 al
  gi_wp2
  go_wp2_with fail
  refine Bl [D] rfl (by simp) (λ E S=>by rw[n_.1 S];exact G.o.2.2) (λ W' an=>⟨_,results_tmp rfl _ _ _,?_⟩);have hl:=K.o;subst hl;refine⟨A,c,rfl,mK G.o.1 λ b e=>an.block b λ aV=>?_,an.below G.o.2.1 λ E S=>by rw[n_.1 S];omega⟩;obtain⟨cs,f⟩:=sN G.o.1 e;rw[n_.1 aV,G.o.2.2] at f
  cases f
 case stop=>
  rintro D a' pre d aS ba (h:False);exact h.elim
end
section
open Go.RowKit Go.Shelf Go.Lib
theorem PU(x y:Int)(w:World):Calls w_ 170 #[.int .i64 x,.int .i64 y] w λ e w'=>e=.returned (.bool (decide (x<y)))/\w=w':=by
 have b:=U (Ba x);have c:=U (Ba y);go_enter Tryz.func170,Tryz.ntmps170
 go_wp2_with (go_at_call 196;refine(b.o _).mono ?_;rintro e w' ⟨rfl,rfl⟩)
 all_goals
  go_ret;exact⟨by simp,rfl⟩
theorem PV(b off c:Nat)(x y:Int)(w:World)(h:aN w (some ⟨b,off,none⟩) 2 c [x,y])(s:x<=y):
  Calls w_ 211 #[.slice (some ⟨b,off,none⟩) 2 c,.int .i64 0,.int .i64 2] w λ e w'=>e=.returned (.tuple #[])/\Below w.heap.size w w':=by
 have H:=U h;clear h;go_enter Tryz.func211,Tryz.ntmps211
 go_wp2
 go_loopw [6] (λ i W=>(i=.int .i64 1\/i=.int .i64 2)/\Below w.heap.size w W) (λ i _=>2-(intOf i).toNat)
 case atStart=>exact⟨.inl rfl,v_ _ _⟩
 case round=>
  obtain⟨m,d⟩:=hrel;have g:=U d;clear d;rcases m with rfl|rfl
  ·go_wp2
   go_loopw [7] (λ i W=>i=.int .i64 1/\Below w.heap.size w W) (λ _ _=>0)
   case atStart=>exact⟨rfl,g.o⟩
   case round=>
    obtain⟨rfl,d⟩:=hrel;obtain⟨t,u,he,n,f⟩:=(H.o.below d).cells (by omega);injection he with he
    injection he with p q
    subst p q;have j:=U d;have k0:=f 0 (by omega);have r:=f 1 (by omega);simp only[jv,Nat.add_zero,List.getD_cons_zero,List.getD_cons_succ] at k0 r;have k:=U (PU y x);have l:decide (y<x)=false:=by simp;omega
    rw[l] at k;clear d f n l
    go_wp2_with fail
    go_quiet ((go_at_call 170;refine Calls.quiet_of_same ((k.o _).mono λ e v h=>⟨h.1,h.2.symm⟩)))
    go_wp2_with fail
    go_roundw
    case rel=>exact⟨.inr (by go_num),j.o.trans ((tL _ _).mono j.o.size)⟩
    case measure=>simp[intOf]
  ·go_wp2;go_end0;exact⟨rfl,g.o⟩
theorem PW(w:World):Calls w_ 220 #[.int .u64 2] w λ e w'=>∃r:Int,e=.returned (.int .i64 r)/\w=w':=by
 go_enter Tryz.func220,Tryz.ntmps220
 go_wp2;go_ret;exact⟨_,rfl,rfl⟩
theorem PX(w:World):Calls w_ 178 #[.int .u64 2] w λ e w'=>∃r:Int,e=.returned (.int .i64 r)/\w=w':=by
 go_enter Tryz.func178,Tryz.ntmps178
 go_wp2_with (go_at_call 220;refine(PW _).mono ?_;rintro e w' ⟨r,rfl,rfl⟩)
 go_ret;exact⟨_,rfl,rfl⟩
theorem PY(r:Int)(b off c:Nat)(x y:Int)(w:World)(h:aN w (some ⟨b,off,none⟩) 2 c [x,y])(f:x<=y):
  Calls w_ 177 #[.slice (some ⟨b,off,none⟩) 2 c,.int .i64 0,.int .i64 2,.int .i64 r] w λ e w'=>e=.returned (.tuple #[])/\Below w.heap.size w w':=by
 have H:=U h;clear h;go_enter Tryz.func177,Tryz.ntmps177
 go_wp2
 go_loopw [1,2] (λ s1 s2 W=>s1=.int .i64 0/\s2=.int .i64 2/\W=w) (λ _ _ _=>0)
 case atStart=>exact⟨rfl,rfl,rfl⟩
 case round=>
  obtain⟨rfl,rfl,rfl⟩:=hrel;have g:=U (PV b off c x y wr H.o f)
  go_wp2_with (go_at_call 211;refine g.o.mono ?_;rintro e j ⟨rfl,d⟩;have i:=U d;clear d)
  refine bodyPost_ret (results_none rfl _ _ _) rfl ?_;exact⟨rfl,i.o⟩
theorem PZ(b off c:Nat)(x y:Int)(w:World)(h:aN w (some ⟨b,off,none⟩) 2 c [x,y])(f:x<=y):
  Calls w_ 135 #[.slice (some ⟨b,off,none⟩) 2 c] w λ e w'=>e=.returned (.tuple #[])/\Below w.heap.size w w':=by
 have g:=U (λ r=>PY r b off c x y w h f);clear h;go_enter Tryz.func135,Tryz.ntmps135
 go_wp2_with (first
  |(go_at_call 178;refine(PX _).mono ?_;rintro e w' ⟨r,rfl,rfl⟩)
  |(go_at_call 177;refine(g.o r).mono ?_;rintro e j ⟨rfl,d⟩;have i:=U d;clear d))
 go_end0;exact⟨rfl,i.o⟩
theorem P0(w:World)(base g cap:Nat)(a:Int)(c:a=1\/a= -1)(h:Own w base g 2 cap [a,2])(d:base<=g):
  Calls w_ 223 #[.slice (some ⟨g,0,none⟩) 2 cap] w λ e w'=>e=.returned (.slice (some ⟨g,0,none⟩) 2 cap)/\Own w' base g 2 cap [a,2]/\Below base w w':=by
 obtain⟨ls,h1,f⟩:∃ls:List r6,ls.map (·.1)=[a,2]/\(compactUpTo ls.toArray ls.length).map (·.1)=[a,2]:=by
  rcases c with rfl|rfl
  ·exact⟨[⟨1,by decide⟩,⟨2,by decide⟩],rfl,by decide⟩
  ·exact⟨[⟨-1,by decide⟩,⟨2,by decide⟩],rfl,by decide⟩
 refine(He w base g 2 cap ls (by rw[h1];exact h) d).mono ?_;rintro e w' ⟨m,rfl,b,i⟩;rw[f] at b;have hm:m=2:=by have:=b.1;simpa using this.symm
 subst hm;exact⟨rfl,b,i⟩
theorem IY(b off c:Nat)(a:Int)(D:a=1\/a= -1)(w:World)(h:aN w (some ⟨b,off,none⟩) 2 c [a,2]):
  Calls w_ 239 #[.slice (some ⟨b,off,none⟩) 2 c] w λ e w'=>∃g cap,e=.returned (.slice (some ⟨g,0,none⟩) 2 cap)/\w.heap.size<=g/\aN w' (some ⟨g,0,none⟩) 2 cap [a,2]/\Below w.heap.size w w':=by
 have v:Below w.heap.size w (w.alloc (.cells #[.slice (some ⟨b,off,none⟩) 2 c] 25)):=(v_ _ _).alloc (q_ _) _;obtain⟨N,O,he,E,r⟩:=h.cells (by omega);injection he with he
 injection he with F G
 subst F G;have t:=U (PS (some ⟨b,off,none⟩) 2 c w);have s:(w.alloc (.cells #[.slice (some ⟨b,off,none⟩) 2 c] 25)).cell? ⟨w.heap.size,0,none⟩=some (.slice (some ⟨b,off,none⟩) 2 c):=by simp
 have u:=U (PT w.heap.size b off 2 c [a,2] rfl (by omega) (w.alloc (.cells #[.slice (some ⟨b,off,none⟩) 2 c] 25)) s (λ k hk=>(v.cell (p:=⟨b,off+k,none⟩) E).trans (r k hk)) (by simp) (by simp;omega));have y:=U v;have z:bF (Calls w_ 270 #[.func (.func 271) #[] #[.pointer (some ⟨w.heap.size,0,none⟩)]] (w.alloc (.cells #[.slice (some ⟨b,off,none⟩) 2 c] 25)) λ e w'=>∃g cap,e=.returned (.slice (some ⟨g,0,none⟩) 2 cap)/\w.heap.size<=g/\Own w' w.heap.size g 2 cap [a,2]/\Below w.heap.size w w'):=U (by
  clear h r s t;go_enter Tryz.func270,Tryz.ntmps270
  go_wp2_with (go_at_call 273;refine u.o.mono ?_;rintro e j ⟨A,H,rfl,l,d⟩;have B:=U (z_ l d);clear l d)
  go_ret;have l:=AS B.o.1 (show w.heap.size<=(w.alloc (.cells #[.slice (some ⟨b,off,none⟩) 2 c] 25)).heap.size by simp);obtain⟨g,cap,I⟩:=yA l;injection I with J P K
  subst J K;exact⟨g,H,rfl,(tc l rfl).1,l,y.o.trans (B.o.2.mono y.o.size)⟩)
 have L:bF (Calls w_ 263 #[.func (.func 271) #[] #[.pointer (some ⟨w.heap.size,0,none⟩)]] (w.alloc (.cells #[.slice (some ⟨b,off,none⟩) 2 c] 25)) λ e w'=>∃g cap,e=.returned (.slice (some ⟨g,0,none⟩) 2 cap)/\w.heap.size<=g/\Own w' w.heap.size g 2 cap [a,2]/\Below w.heap.size w w'):=U (by
  clear h r s t u;go_enter Tryz.func263,Tryz.ntmps263
  go_wp2_with (first
   |(go_at_call 270;refine z.o.mono ?_;rintro e j ⟨g,cap,rfl,m,f,d⟩;have i:=U (z_ m (z_ f d));have ST:=U (PZ g 0 cap a 2 j (aN.lq f (by omega)) (by omega));clear m f d)
   |(go_at_call 135;refine ST.o.mono ?_;rintro e M ⟨rfl,n⟩;have q:=U n;clear n))
  go_ret;exact⟨g,cap,rfl,i.o.1,lU i.o.2.1 q.o,i.o.2.2.trans (q.o.mono i.o.2.2.size)⟩)
 clear h r s u z;go_enter Tryz.func239,Tryz.ntmps239
 go_wp2_with (first
  |(go_at_call 264;refine t.o.mono ?_;rintro e w1 ⟨rfl,rfl⟩)
  |(go_at_call 263;refine L.o.mono ?_;rintro e j ⟨g,cap,rfl,m,f,d⟩;have i:=U (z_ m (z_ f d));have ST:bF (Calls w_ 223 #[.slice (some ⟨g,0,none⟩) 2 cap] j λ e w'=>e=.returned (.slice (some ⟨g,0,none⟩) 2 cap)/\Own w' w.heap.size g 2 cap [a,2]/\Below w.heap.size j w'):=U (P0 j w.heap.size g cap a D f m);clear m f d)
  |(go_at_call 223;refine ST.o.mono ?_;rintro e M ⟨rfl,C,n⟩;have q:=U (z_ C n);clear C n))
 go_ret;exact⟨g,cap,rfl,i.o.1,aN.lq q.o.1 (by omega),i.o.2.2.trans q.o.2⟩
theorem P3(A:Option Addr)(n c:Nat)(d:List Int)(A':Option Addr)(c':Nat)(f:List Int)(w:World)(h:aN w A n c d)(h':aN w A' n c' f):
  Calls w_ 190 #[.slice A n c,.slice A' n c'] w λ e w'=>e=.returned (.bool (decide (d=f)))/\Below w.heap.size w w':=by
 have F:=h.small;have H:=U h;have l:=U h';clear h h';go_enter Tryz.func190,Tryz.ntmps190
 go_wp2
 go_loopw [13] (λ i wr=>∃k q:Nat,k<=n/\i=.int .i64 k/\d.take k=f.take k/\wr=w.drewN q) (λ i _=>n-(intOf i).toNat)
 case atStart=>exact⟨0,0,m_ _,rfl,rfl,rfl⟩
 case round=>
  obtain⟨k,q,hk,rfl,s,rfl⟩:=hrel;have t:=U s;clear s
  by_cases g:k<n
  ·obtain⟨b,off,rfl,G,u⟩:=H.o.cells (by omega);have C:=u k g;clear u;obtain⟨I,J,rfl,K,v⟩:=l.o.cells (by omega);have D:=v k g;clear v;have L:(k:Int)<(n:Int):=by omega
   have z:k<d.length:=by rw[H.o.len];exact g
   have B:k<f.length:=by rw[l.o.len];exact g
   have t1:=tK d k z;have t2:=tK f k B;obtain⟨x,m⟩:∃x,jv d k=x:=⟨_,rfl⟩
   obtain⟨y,p⟩:∃y,jv f k=y:=⟨_,rfl⟩
   rw[m] at C t1;rw[p] at D t2;have j:=U (z_ t1 (z_ t2 (z_ m p)));clear t1 t2 m p z B
   by_cases he:x=y
   ·have E:(x !=y)=false:=by simp[he]
    have r:=U he;clear he
    go_wp2_with fail
    go_quiet (fail)
    go_wp2;go_roundw
    case rel=>exact⟨k+1,_,by omega,by go_num,by rw[j.o.1,j.o.2.1,t.o,r.o],rfl⟩
    case measure=>simp[intOf];omega
   ·have E:(x !=y)=true:=by simp[he]
    have r:=U he;clear he
    go_wp2_with fail
    go_quiet (fail)
    go_wp2;go_ret;refine⟨lS ?_,by rw[World.drewN_drewN];exact tL _ _⟩;rw[eq_comm,decide_eq_false_iff_not];rintro rfl;exact r.o (j.o.2.2.1.symm.trans j.o.2.2.2)
  ·go_wp2;go_ret;refine⟨lS ?_,tL _ _⟩;rw[eq_comm,decide_eq_true_eq];have:=t.o
   rwa[o_ (by rw[H.o.len];omega),o_ (by rw[l.o.len];omega)] at this
def A4(g:Nat)(lb:Array Value)(p:List Int->Bool)(ls:List (List Int))(w:World):Prop:=
 ∀(A:Option Addr)(n c:Nat)(b:List Int)(W:World),b∈ls->Below w.heap.size w W->aN W A n c b->Calls w_ g (#[.slice A n c]++lb) W λ e w'=>e=.returned (.bool (p b))/\Below W.heap.size W w'
theorem A4.val{lb:Array Value}{p:List Int->Bool}{ls:List (List Int)}(h:A4 g lb p ls w)(r:Bool)(A:Option Addr)(n c:Nat)(b:List Int)(W:World)(hm:b∈ls)(d:Below w.heap.size w W)(f:aN W A n c b)(he:p b=r):
  Calls w_ g (#[.slice A n c]++lb) W λ e w'=>e=.returned (.bool r)/\Below W.heap.size W w':=by
 have:=h A n c b W hm d f;rw[he] at this;exact this
theorem P4(g:Nat)(lb:Array Value)(p:List Int->Bool)(D:∀args w,(callFunc g args).run w_ w=.ok (.enter g args) w)(A:Option Addr)(n c:Nat)(ls:List (List Int))(w:World)(h:mc w A n c ls)
  (hp:A4 g lb p ls w):Calls w_ 167 #[.slice A n c,.func (.func g) #[] lb] w (Fs p ls w):=by
 have E:=h.small;have H:=U h;clear h;have u:=U hp;clear hp;go_enter Tryz.func167,Tryz.ntmps167
 go_wp2
 go_loopw [8] (λ i W=>∃k:Nat,k<=n/\i=.int .i64 k/\(ls.take k).any p=false/\Below w.heap.size w W) (λ i _=>n-(intOf i).toNat)
 case atStart=>exact⟨0,m_ _,rfl,rfl,v_ _ _⟩
 case round=>
  obtain⟨k,hk,rfl,v,y⟩:=hrel;have z:=U v;have d:=U y;clear v y
  by_cases q:k<n
  ·obtain⟨b,off,rfl,F,B⟩:=(H.o.below d.o).cells (by omega);obtain⟨a1,C,c1,G,m⟩:=B k q;clear B;have hl:k<ls.length:=by rw[H.o.len];exact q
   cases f:p (oR ls k)
   ·have j:=u.o.val false a1 C c1 (oR ls k) wr (zI hl) d.o m f;have r:=U f;have s:=U hl;clear f m hl
    go_wp2_with (go_at_fn g;refine j.mono ?_;clear j;rintro e w' ⟨rfl,l⟩;have t:=U l;clear l)
    go_roundw
    case rel=>exact⟨k+1,by omega,by go_num,Fp s.o r.o z.o,d.o.trans (t.o.mono d.o.size)⟩
    case measure=>simp[intOf];omega
   ·have j:=u.o.val true a1 C c1 (oR ls k) wr (zI hl) d.o m f;have r:=U f;have s:=U hl;clear f m hl
    go_wp2_with (go_at_fn g;refine j.mono ?_;clear j;rintro e w' ⟨rfl,l⟩;have t:=U l;clear l)
    go_ret;exact⟨k,rfl,by rw[Fo s.o r.o];simp,d.o.trans (t.o.mono d.o.size)⟩
  ·go_wp2;go_ret;exact⟨-1,rfl,by rw[Fq H.o.len q z.o];rfl,d.o⟩
theorem P5(g:Nat)(lb:Array Value)(p:List Int->Bool)(b:∀args w,(callFunc g args).run w_ w=.ok (.enter g args) w)(A:Option Addr)(n c:Nat)(ls:List (List Int))(w:World)(h:mc w A n c ls)
  (hp:A4 g lb p ls w):Calls w_ 119 #[.slice A n c,.func (.func g) #[] lb] w λ e w'=>e=.returned (.bool (ls.any p))/\Below w.heap.size w w':=by
 have d:=P4 g lb p b A n c ls w h hp;clear h hp;go_enter Tryz.func119,Tryz.ntmps119
 go_wp2_with (go_at_call 167;refine d.mono ?_;rintro e w' ⟨r,rfl,f,i⟩)
 all_goals
  go_ret;exact⟨lS (by rw[<-f]),i⟩
theorem P6:∀args w,(callFunc 240 args).run w_ w=.ok (.enter 240 args) w:=enters_of Tryz.func240 (by kernel_rfl) rfl
theorem P7(b off c:Nat)(a:Int)(l:a=1\/a= -1)(w:World)(h:aN w (some ⟨b,off,none⟩) 2 c [a,2]):
  Calls w_ 200 #[.slice (some ⟨b,off,none⟩) 2 c] w λ e w'=>∃B g cap,e=.returned (.func (.func 240) #[] #[.pointer (some ⟨B,0,none⟩)])/\aM w' B 25 [.slice (some ⟨g,0,none⟩) 2 cap]/\aN w' (some ⟨g,0,none⟩) 2 cap [a,2]/\Below w.heap.size w w':=by
 have m:=U (IY b off c a l w h);clear h;have p:∀(fn:Fn)(first cap:Array Value)(w:World),(Zh fn first cap).run w_ w=.ok (.func fn first cap) w:=λ _ _ _ _=>rfl
 go_enter Tryz.func200,Tryz.ntmps200
 go_wp2_with (go_at_call 239;refine m.o.mono ?_;rintro e d ⟨g,cap,rfl,n,i,j⟩;have f:=U (z_ i j);clear n i j)
 go_ret;have k:Below d.heap.size d (d.alloc (.cells #[.slice (some ⟨g,0,none⟩) 2 cap] 25)):=(v_ _ _).alloc (q_ _) _;exact⟨_,g,cap,rfl,aM.new d 25 [.slice (some ⟨g,0,none⟩) 2 cap],f.o.1.below k,f.o.2.trans (k.mono f.o.2.size)⟩
theorem P8(a:Int)(J:a=1\/a= -1)(B g cap:Nat)(w:World)(l:aM w B 25 [.slice (some ⟨g,0,none⟩) 2 cap])(m:aN w (some ⟨g,0,none⟩) 2 cap [a,2]):A4 240 #[.pointer (some ⟨B,0,none⟩)] (λ i=>decide (i=[a,2])) mY w:=by
 intro A n c i W b j d;obtain⟨x,y,rfl⟩:∃x:Int,(x=1\/x= -1)/\i=[x,2]:=by
  unfold mY at b;rcases List.mem_cons.1 b with rfl|b
  ·exact⟨1,.inl rfl,rfl⟩
  ·exact⟨-1,.inr rfl,n_.1 b⟩
 have z:n=2:=d.len.symm;subst z;obtain⟨p,off,rfl,_⟩:=d.cells (by omega);have q:=l.below j;have r:=m.below j;have k:=U (z_ (show aM W.drew B 25 _ from q) (show aN W.drew _ _ _ _ from r.below ((v_ _ _).drew)));have C:=U (IY p off c x y W.drew (d.below ((v_ _ _).drew)));have cb:=k.o.1.cell 0;clear l m q r d j b;show Calls w_ 240 #[.slice (some ⟨p,off,none⟩) 2 c,.pointer (some ⟨B,0,none⟩)] W _;go_enter Tryz.func240,Tryz.ntmps240
 go_upto_region 1 with fail
 rename_i D s;have E:=U s;clear s;refine p_ ?_
 go_region_with (first
  |(go_at_call 239;refine C.o.mono ?_;rintro e F ⟨g2,G,rfl,H,t,f⟩;have K:=(k.o.1.below f).cell 0;have EQ:=U (P3 (some ⟨g2,0,none⟩) 2 G [x,2] (some ⟨g,0,none⟩) cap [a,2] F t (k.o.2.below f));have u:=U f;clear H t f)
  |(go_at_call 190;refine EQ.o.mono ?_;rintro e L ⟨rfl,v⟩;have I:=U v;clear v))
 all_goals
  show D _ _;apply E.o
  go_wp2_with fail
  go_ret;exact⟨lS (a:=decide (x=a)) (by simp),((v_ _ W).drew).trans (u.o.trans (I.o.mono u.o.size))⟩
def CQ(b:Int)(c:List Int):Prop:=(1<=b/\b<=3)/\∀x∈c,gF 60000 x
theorem P9(x:Int)(w:World)(b:x≠0)(h1: -65536<=x)(c:x<=65536):Calls w_ 262 #[.int .i64 x] w λ e w'=>e=.returned (.bool false)/\w=w':=by
 have L:=U (EK x w b h1 c);clear b h1 c;go_enter Tryz.func262,Tryz.ntmps262
 go_wp2_with (go_at_call 241;refine L.o.mono ?_;rintro e w' ⟨rfl,rfl⟩)
 go_ret;exact⟨rfl,rfl⟩
theorem Qa:∀args w,(callFunc 262 args).run w_ w=.ok (.enter 262 args) w:=enters_of Tryz.func262 (by kernel_rfl) rfl
theorem Qb:∀args w,(callFunc 237 args).run w_ w=.ok (.enter 237 args) w:=enters_of Tryz.func237 (by kernel_rfl) rfl
theorem Qc(b:Int)(A:Option Addr)(n c:Nat)(d:List Int)(w:World)(h:aN w A n c d)(hl:CQ b d):
  Calls w_ 238 #[.agg #[.int .i64 b,.slice A n c]] w λ e w'=>e=.returned (.bool true)/\Below w.heap.size w w':=by
 have f:=aM.new w 126 [.int .i64 b,.slice A n c];have g:=bg w (.cells #[.int .i64 b,.slice A n c] 126);have i:=CW 262 #[] (λ _=>false) Qa A n c d _ (h.below g) (λ x l=>by
  have j:=hl.2 x l;have m:x≠0:=j.oH;unfold gF aI at j;exact P9 x _ m (by omega) (by omega))
 have k:(d.any λ _=>false)=false:=by simp
 rw[k] at i;have H:=U i;have p:=U g;have h1:=hl.1.1;have j:=hl.1.2;clear i h hl k g;go_enter Tryz.func238,Tryz.ntmps238
 go_wp2_with fail
 change aM (w.alloc (.cells #[.int .i64 b,.slice A n c] 126)) _ _ _ at f;have t0:=f.cell 0;have t1:=f.cell 1;simp only[y_,x_] at t0 t1;clear f;generalize w.alloc (.cells #[.int .i64 b,.slice A n c] 126)=W at*
 go_wp2_with (go_at_call 120;refine H.o.mono ?_;rintro e w' ⟨rfl,rfl⟩)
 go_ret;exact⟨rfl,p.o⟩
theorem Qd(b:Int)(A:Option Addr)(n c:Nat)(f:List Int)(w:World)(h:aN w A n c f)(hl:CQ b f):
  Calls w_ 237 #[.agg #[.int .i64 b,.slice A n c]] w λ e w'=>e=.returned (.bool false)/\Below w.heap.size w w':=by
 have d:=aM.new w 126 [.int .i64 b,.slice A n c];have g:=bg w (.cells #[.int .i64 b,.slice A n c] 126);have H:=U (Qc b A n c f _ (h.below g) hl);have i:=U g;clear h hl g;go_enter Tryz.func237,Tryz.ntmps237
 go_wp2_with fail
 change aM (w.alloc (.cells #[.int .i64 b,.slice A n c] 126)) _ _ _ at d;have t0:=d.cell 0;have t1:=d.cell 1;simp only[y_,x_] at t0 t1;clear d;generalize w.alloc (.cells #[.int .i64 b,.slice A n c] 126)=W at*
 go_wp2_with (go_at_call 238;refine H.o.mono ?_;rintro e w' ⟨rfl,j⟩;have k:=U j;clear j)
 go_ret;exact⟨rfl,i.o.trans (k.o.mono i.o.size)⟩
theorem Qe(A:Option Addr)(n c:Nat)(es:List mG)(w:World)(h:nM w A n c es)(J:n<=65536)(hl:∀e∈es,CQ e.jf e.r.ah):
  Calls w_ 197 #[.slice A n c] w λ e w'=>e=.returned (.int .i64 0)/\Below w.heap.size w w':=by
 have C:=U hl;have s:bF (Calls w_ 261 #[.slice A n c,.func (.func 237) #[] #[]] w λ e w'=>e=.returned (.int .i64 (-1))/\Below w.heap.size w w'):=U (by
  have H:=U h;have K:=Qb;clear h hl;go_enter Tryz.func261,Tryz.ntmps261
  go_wp2
  go_loopw [8] (λ i W=>∃k:Nat,k<=n/\i=.int .i64 k/\Below w.heap.size w W) (λ i _=>n-(intOf i).toNat)
  case atStart=>exact⟨0,m_ _,rfl,v_ _ _⟩
  case round=>
   obtain⟨k,hk,rfl,d⟩:=hrel;have f:=U d
   by_cases t:k<n
   ·have g:=H.o.below d;have j:k<es.length:=by rw[H.o.len];exact t
    obtain⟨b,off,rfl,L,D⟩:=g.cells (by omega);obtain⟨l,m,p⟩:=g.Et t j;have q:=C.o es[k] (h_ j);obtain⟨⟨jf,⟨u,v,y,E⟩⟩,z⟩:∃e,es[k]=e:=⟨_,rfl⟩
    rw[z] at l m p q;replace l:wr.cell? ⟨b,off+k*2,none⟩=some (.int .i64 jf):=l;replace m:wr.cell? ⟨b,off+k*2+1,none⟩=some (.slice u v y):=m;have F:=U (Qd jf u v y E wr p q);clear D g q p z j d
    go_wp2_with (go_at_fn 237;refine F.o.mono ?_;rintro e w' ⟨rfl,B⟩;have G:=U B;clear B)
    go_roundw
    case rel=>exact⟨k+1,by omega,by go_num,f.o.trans (G.o.mono f.o.size)⟩
    case measure=>simp[intOf];omega
   ·clear d;go_wp2;go_ret;exact⟨rfl,f.o⟩)
 have I:bF (Calls w_ 236 #[.slice A n c,.func (.func 237) #[] #[]] w λ e w'=>e=.returned (.bool false)/\Below w.heap.size w w'):=U (by
  clear h hl;go_enter Tryz.func236,Tryz.ntmps236
  go_wp2_with (go_at_call 261;refine s.o.mono ?_;rintro e w' ⟨rfl,d⟩;have f:=U d;clear d)
  go_ret;exact⟨rfl,f.o⟩)
 clear h hl s;go_enter Tryz.func197,Tryz.ntmps197
 have M:¬(65536:Int)<(n:Int):=by omega
 go_wp2_with (go_at_call 236;refine I.o.mono ?_;rintro e w' ⟨rfl,d⟩;have f:=U d;clear d)
 go_ret;exact⟨rfl,f.o⟩
end
section
open Go.RowKit Go.Shelf Go.Lib Go.MapKept Go.ChangeMaps
theorem EL(c:W.heap[b]? =some (.map es clock))(x:Int)(f:Value)(h1:f_ (.int .i64) (.int .i64 x) es.toList 0=some none):
  ∃W',(Instr.mapUpdate 207 (.map (some b)) (.int .i64 x) f).run w_ W=.ok () W'/\W'.heap[b]? =some (.map (es.push ⟨.int .i64 x,f,clock⟩) (clock+1))/\W.grownBy W' (some b):=by
 have hk:Zt (.int .i64) (.int .i64 x):=by unfold Zt;simp
 refine⟨setBlock W b (.map (es.push ⟨.int .i64 x,f,clock⟩) (clock+1)),?_,heap_setBlock_same c _,⟨rfl,rfl,rfl,by simp[setBlock],λ i _ d=>heap_setBlock_other c _ (λ e=>d (by rw[e]))⟩⟩;simp[Instr.mapUpdate,run_underlying Tryz.underlying207,Zi c,run_checkKey l_ hk,run_findKey l_ h1,MapKept.run_setObj_map _ c,Result.andThen,setBlock]
theorem IZ(c:W.heap[b]? =some (.map es clock))(x:Int)(f:Value)(i:Nat)(h1:f_ (.int .i64) (.int .i64 x) es.toList 0=some (some (i,f))):
  (Instr.lookup 207 (.map (some b)) (.int .i64 x) false).run w_ W=.ok f W:=by
 have hk:Zt (.int .i64) (.int .i64 x):=by unfold Zt;simp
 simp[Instr.lookup,run_underlying Tryz.underlying207,Zi c,run_checkKey l_ hk,run_findKey l_ h1,Result.andThen]
def sI(f:World)(d e:Nat)(W:World)(rs:List Row):Prop:=
 ∃(A:Option Addr)(c:Nat),aM W e 22 [.slice A rs.length c]/\W.ownsRow d 25 1 (.slice A rs.length c) rs.length (rs.map kF)/\aF (λ b=>b<d/\b≠e) f W/\e<d/\d<=f.heap.size
theorem sI.below{kR W W':World}{nr kH:Nat}{rs:List Row}(h:sI kR nr kH W rs)(d:Below W.heap.size W W'):sI kR nr kH W' rs:=by
 obtain⟨A,c,h1,f,e,g,i⟩:=h;exact⟨A,c,h1.below d,lU f d,e.trans (aF.q4 d λ b j=>by have:=e.size;omega),g,i⟩
theorem sI.zM{A:Option Addr}{c:Nat}(h:W.ownsRow nr 25 1 (.slice A rs.length c) rs.length (rs.map kF))(b:∀r∈rs,aN W r.A r.n r.c r.ah)(hl:rs.length<=65536):nU W A rs.length c rs:=by
 have h1:=mc.lq h b (by omega);refine⟨rfl,h1.cap,h1.mP,h1.oo,λ i=>?_,b⟩;obtain⟨g,cap,e⟩:=yA (k:=rs.length-1) (by rw[show rs.length-1+1=rs.length by omega];exact h);injection e with f l m
 subst f;refine⟨g,0,rfl,(tc h rfl).2,λ j u d=>?_⟩;have o:j<rs.length:=by have:=(Zp.1 d).1;simpa using this
 rw[Nat.zero_add,h.cellAt j (by omega)];exact d
structure EM(kR:World)(nr kH wG kn:Nat)(gI:Option Addr)(bn:Nat):Prop where
 p:aM kR wG 144 [.func (.func 198) #[] #[.pointer (some ⟨kH,0,none⟩)]]
 c:aM kR kn 24 [.int .i64 2,.slice gI 2 bn]
 g:∀W,aF (λ b=>b<nr/\b≠kH) kR W->mc W gI 2 bn mY
 pl:wG<nr/\wG≠kH
 cl:kn<nr/\kn≠kH
def CR(d:World)(e f:Nat)(r:Row):Prop:=∀W,aF (λ b=>b<e/\b≠f) d W->aN W r.A r.n r.c r.ah
theorem sI.iQ(h:sI kR nr kH W rs):aF (λ b=>b<nr/\b≠kH) kR W:=by
 obtain⟨A,c,_,_,d,_⟩:=h;exact d
theorem I1:∀args w,(callFunc 198 args).run w_ w=.ok (.enter 198 args) w:=enters_of Tryz.func198 (by kernel_rfl) rfl
theorem I2(u:World)(k l:Nat)(W:World)(rs:List Row)(h:sI u k l W rs)(r:Row)(v:aN W r.A r.n r.c r.ah)(hl:rs.length<=65536):
  Calls w_ 198 #[.slice r.A r.n r.c,.pointer (some ⟨l,0,none⟩)] W λ e W'=>e=.returned (.tuple #[])/\sI u k l W' (rs++[r]):=by
 obtain⟨g,i,rc,m⟩:=r;obtain⟨A,c,h1,w,s,y,z⟩:=h;have d:=bg W (.cells #[.slice g i rc] 25);have D:=U (nU.AN W ⟨g,i,rc,m⟩ v);have c0:=h1.cell 0;simp only[y_] at c0;have t:=U (lU w d);have f:=U (z_ s (z_ y (z_ z hl)));have E:=U (h1.below d);have F:=U d;have G:k<=(W.alloc (.cells #[.slice g i rc] 25)).heap.size:=by have:=s.size;simp;omega
 clear d h1 w s y z v hl;go_enter Tryz.func198,Tryz.ntmps198
 go_wp2_with (at_builtin;refine Fj rfl (.tmp 3) (.tmp 5) rfl k (.slice A rs.length c) rs.length rs rfl t.o (some ⟨W.heap.size,0,none⟩) 1 1 [⟨g,i,rc,m⟩] rfl D.o (by have:=f.o.2.2.2;omega) G ?_;intro v2 N p;obtain⟨⟨B,C,c2⟩,H,j⟩:=aq.lq p.1;obtain rfl:v2=.slice B C c2:=H;have I:=U p;have J:=U j;have q:=E.o.kept p.2.1 (λ e=>by have:=(tc t.o e.symm).1;have:=f.o.2.1;omega);have K:=q.cell 0;have f2:=q.free 0;simp only[y_] at K;have L:=U q;clear p j q)
 go_end0;obtain⟨g1,g2,g3⟩:=I.o;have j:C=(rs++[(⟨g,i,rc,m⟩:Row)]).length:=by rw[s_];exact J.o
 have M:rs.length+1=(rs++[(⟨g,i,rc,m⟩:Row)]).length:=by simp
 rw[j,M] at g1;rw[j];refine⟨rfl,B,c2,L.o.set 0 _,ownsRow_setCell_below g1 f.o.2.1 _,?_,f.o.2.1,f.o.2.2.1⟩;have O:=f.o.1.size;have P:=f.o.2.2.1;refine f.o.1.trans ((aF.q4 F.o λ b d=>by omega).trans ((aF.grown g2 (λ b d=>by simp;omega) (λ b e d=>?_)).trans (aF.set l 0 _ (λ d=>d.2 rfl))));have:=(tc t.o e).1;omega
theorem Qf(V:EM kR nr kH wG kn gI bn)(W:World)(rs:List Row)(h:sI kR nr kH W rs)(r:Row)(d:CR kR nr kH r)(hl:rs.length<=65536)(a:Int)(i:a=1\/a= -1)(z:r.ah=[a,2]):
  Calls w_ 199 #[.slice r.A r.n r.c,.pointer (some ⟨wG,0,none⟩),.pointer (some ⟨kn,0,none⟩)] W λ e W'=>e=.returned (.bool true)/\sI kR nr kH W' (rs++[r]):=by
 have C:=U (I2 kR nr kH W rs h r (d W h.iQ) hl);have D:=(h.iQ.blk V.p V.pl).cell 0;simp only[y_] at D;have b:=U V;have E:=U d;obtain⟨l,m,rc,F⟩:=r;obtain rfl:F=[a,2]:=z;have j:aN W l m rc [a,2]:=d W h.iQ;have G:m=2:=j.len.symm;subst G;obtain⟨q,off,he,_⟩:=j.cells (by omega);obtain rfl:l=some ⟨q,off,none⟩:=he;have H:(mY.any λ ah=>decide (ah=[a,2]))=true:=by rcases i with rfl|rfl<;>decide
 have Q:=I1;clear h d V j hl;go_enter Tryz.func199,Tryz.ntmps199
 go_upto_region 2 with(go_at_fn 198;refine C.o.mono ?_;rintro e I ⟨rfl,h1⟩;have H1:=U (h1.below ((v_ _ _).drew));have k:=U H1.o.iQ;have c3:=(k.o.blk b.o.c b.o.cl).cell 0;have c4:=(k.o.blk b.o.c b.o.cl).cell 1;simp only[y_,x_] at c3 c4;have J:=U (P7 q off rc a i I.drew (E.o _ k.o));clear h1)
 rename_i K s;have L:=U s;clear s;refine p_ ?_
 go_region_with (first
  |(go_at_call 200;refine J.o.mono ?_;rintro e t ⟨B,g,cap,rfl,u,v,w⟩;have f:=U (H1.o.below w);have M:=(f.o.iQ.blk b.o.c b.o.cl).cell 0;have N:=(f.o.iQ.blk b.o.c b.o.cl).cell 1;simp only[y_,x_] at M N;have O:=U (P5 240 #[.pointer (some ⟨B,0,none⟩)] (λ ah=>decide (ah=[a,2])) P6 gI 2 bn mY t (b.o.g _ f.o.iQ) (P8 a i B g cap t u v));clear u v w)
  |(go_at_call 119;refine O.o.mono ?_;rw[H];rintro e R ⟨rfl,y⟩;have P:=U (f.o.below y);clear y))
 all_goals
  show K _ _;apply L.o
  go_wp2_with fail
  go_ret;exact⟨rfl,P.o⟩
theorem Qg(V:EM kR nr kH wG kn gI bn)(W:World)(rs:List Row)(h:sI kR nr kH W rs)(g:∀x∈rs,CR kR nr kH x)(r:Row)(d:CR kR nr kH r)(hl:rs.length<=1000)
  (i:∀r∈rs,∀x∈r.ah,gF 2 x) (j:[1,2]∈rs.map (·.ah)) (k:[-1,2]∈rs.map (·.ah)) (l:∀x∈r.ah,gF 2 x) (m:pM mY r.ah):
  Calls w_ 201 #[.slice r.A r.n r.c,.pointer (some ⟨kH,0,none⟩),.pointer (some ⟨wG,0,none⟩)] W λ e W'=>e=.returned (.bool true)/\sI kR nr kH W' (rs++[r]):=by
 obtain⟨A,c,h1,b,f,u,v⟩:=id h;have c0:=h1.cell 0;simp only[y_] at c0;have w:=U (IX W A rs.length c rs (sI.zM b (λ x y=>g x y W f) (by omega)) (by omega) i j k r.A r.n r.c r.ah (d W f) l m);have H:=U h;have q:=U V;have z:=U d;have I:=I1;clear h d V h1 b f u v g i j k l m;obtain⟨B,C,rc,D⟩:=r;go_enter Tryz.func201,Tryz.ntmps201
 go_wp2_with (first
  |(go_at_call 202;refine w.o.mono ?_;rintro e s ⟨rfl,t⟩;have H1:=U (H.o.below t);have E:=(H1.o.iQ.blk q.o.p q.o.pl).cell 0;simp only[y_] at E;have F:=U (I2 kR nr kH s rs H1.o ⟨B,C,rc,D⟩ (z.o s H1.o.iQ) (by omega));clear t)
  |(go_at_fn 198;refine F.o.mono ?_;rintro e J ⟨rfl,b⟩;have G:=U b;clear b))
 go_ret;exact⟨rfl,G.o⟩
end
section
open Go.RowKit Go.Shelf Go.Lib
theorem Qh:∀args w,(callFunc 199 args).run w_ w=.ok (.enter 199 args) w:=enters_of Tryz.func199 (by kernel_rfl) rfl
theorem Qi:∀args w,(callFunc 201 args).run w_ w=.ok (.enter 201 args) w:=enters_of Tryz.func201 (by kernel_rfl) rfl
theorem Qj(h:co.Sublist [1,-2]):co=[]\/co=[1]\/co=[-2]\/co=[1,-2]:=by
 rcases Zw.1 h with h1|⟨r,d,h1⟩
 ·rcases Zw.1 h1 with b|⟨r,c,b⟩
  ·exact .inl (Zx.1 b)
  ·rw[c,Zx.1 b];exact .inr (.inr (.inl rfl))
 ·rcases Zw.1 h1 with b|⟨r',c,b⟩
  ·rw[d,Zx.1 b];exact .inr (.inl rfl)
  ·rw[d,c,Zx.1 b];exact .inr (.inr (.inr rfl))
theorem Qk(h:co.Sublist [1,-2]){k:Nat}(hk:k<co.length):(jv co k=1\/jv co k= -2)/\hasB (co.take k) (jv co k)=false/\hasB (co.take k) (-(jv co k))=false:=by
 rcases Qj h with rfl|rfl|rfl|rfl
 ·simp at hk
 ·obtain rfl:k=0:=by simpa using hk
  decide
 ·obtain rfl:k=0:=by simpa using hk
  decide
 ·rcases(show k=0\/k=1 by simp at hk;omega) with rfl|rfl<;>decide
theorem Ql{F:List (List Int)}(hl:∀x∈co,x≠0)(h:¬Can F co):pM F (co.map λ x=> -x):=by
 intro M b;refine Classical.byContradiction λ d=>h ⟨M,b,λ x c=>?_⟩
 cases e:M x with
 |true=>rfl
 |false=>
  refine absurd ⟨-x,r_.2 ⟨x,c,rfl⟩,?_⟩ d;rw[b.1 x (hl x c),e];rfl
theorem Qm(gI:Option Addr)(bn:Nat)(aw:Option Addr)(v ax:Nat)(z B:mG)(rest:List mG)(aW:Option Addr)(C aa:Nat)(co:List Int)(w:World)(ay:mc w gI 2 bn mY)(hp:nM w aw v ax (z::B::rest))(aX:z.jf=1/\z.r.ah=[1,2])(k2:B.jf=1/\B.r.ah=[-1,2])
  (cg:v<=1000) (E:∀e∈z::B::rest,uG mY 2 e.jf e.r.ah) (az:aN w aW C aa co) (aA:co.Sublist [1,-2]) (hu:¬Can mY co):
  Calls w_ 161 #[.agg #[.int .i64 2,.slice gI 2 bn],.slice aw v ax,.slice aW C aa] w λ e w'=>e=.returned (.int .i64 0)/\Below w.heap.size w w':=by
 have ch:C<=2:=by have:=aA.length_le;rw[az.len] at this;simpa using this
 obtain⟨es,F⟩:∃es,z::B::rest=es:=⟨_,rfl⟩
 have G:=bg w (.cells #[.int .i64 2,.slice gI 2 bn] 24);have I:=aM.new w 24 [.int .i64 2,.slice gI 2 bn];have aY:lB 2 mY=0:=by decide
 have aZ:=U (vP 2 gI 2 bn mY _ (ay.below G));rw[aY] at aZ;have a6:∀e∈es,CQ e.jf e.r.ah:=λ e he=>by
  have h:=E e (by rw[F];exact he);refine⟨?_,λ x g=>(h.2 x g).up (by omega)⟩;have:=h.jf;omega
 rw[F] at hp;have H:=U (z_ (ay.below G) (z_ (hp.below G) (az.below G)));have a7:=U G;have d:=U (z_ F (z_ aX (z_ k2 (z_ E (z_ aA (z_ hu a6))))));have I:=U I;have u:w.heap.size<(w.alloc (.cells #[.int .i64 2,.slice gI 2 bn] 24)).heap.size:=by simp
 clear ay hp aX k2 E az aA hu G F a6 aY;go_enter Tryz.func161,Tryz.ntmps161
 go_upto_region 1 with fail
 change bF (aM (w.alloc (.cells #[.int .i64 2,.slice gI 2 bn] 24)) _ _ _) at I;generalize w.alloc (.cells #[.int .i64 2,.slice gI 2 bn] 24)=W at*;have t0:=I.o.cell 0;have t1:=I.o.cell 1;simp only[y_,x_] at t0 t1
 go_upto_region 4 with(go_at_call 107;refine aZ.o.mono ?_;rintro e bJ ⟨rfl,O⟩;have aB:=U O;clear O t0 t1)
 have bK:=U (Qe aw v ax es bJ (H.o.2.1.below aB.o) (by omega) d.o.2.2.2.2.2.2)
 go_upto_region 7 with(go_at_call 197;refine bK.o.mono ?_;rintro e cj ⟨rfl,P⟩;have bL:=U (aB.o.trans (P.mono aB.o.size));clear P)
 go_wp2_with fail
 go_loopw [9,29] (λ q i V=>∃(k:Nat)(A:Option Addr)(c:Nat),i=.int .i64 k/\k<=C/\q=.slice A k c/\V.ownsRow W.heap.size 3 1 (.slice A k c) k (((co.take k).map λ x=> -x).map (Value.int .i64))/\Below W.heap.size W V) (λ _ i _=>C-(intOf i).toNat)
 case atStart=>exact⟨0,none,0,rfl,m_ _,rfl,b_ _ _ _ _,bL.o⟩
 case round=>
  obtain⟨k,A,c,rfl,hk,rfl,a8,ab⟩:=hrel;have ad:=U a8;have m:=U ab;have y:=(I.o.below ab).cell;have t0:=y 0;have t1:=y 1;simp only[y_,x_] at t0 t1;clear a8 ab y
  by_cases n:k<C
  ·have ae:(k:Int)<(C:Int):=by omega
   have bM:t_.wrap ((k:Int)+1)=(k:Int)+1:=by rw[u_];omega
   have Q:=H.o.2.2.below m.o;have aC:=Q.take (k:=k) hk;have ck:=Q.cap;have cm:=Q.oo;obtain⟨a',off,rfl,bN,ba⟩:=Q.cells (by omega);have bO:=ba k n;have p:k<co.length:=by rw[Q.len];exact n
   obtain⟨g,aD,aE⟩:=Qk d.o.2.2.2.2.1 p;have bb:=U (tK co k p);obtain⟨x,bc⟩:∃x,jv co k=x:=⟨_,rfl⟩
   rw[bc] at bO g aD aE bb;have bP:=U (Ch false (some ⟨a',off,none⟩) k aa (co.take k) x wr aC aD);have bQ:=U (Ch false (some ⟨a',off,none⟩) k aa (co.take k) (-x) wr aC aE);have cn:¬x=0:=by omega
   have cp:¬(2:Int)<x:=by omega
   have cq:¬x< -2:=by omega
   have wn:t_.wrap (-x)= -x:=by rw[u_];omega
   have bR:=U (aN.lit wr [-x] 1 _ rfl rfl (by omega));have bd:=U (lU ad.o (bg wr (lW [-x])));have af:=U (z_ (bg wr (lW [-x])) n);have bf:W.heap.size<=(wr.alloc (lW [-x])).heap.size:=by have:=m.o.size;have:=af.o.1.size;omega
   clear Q aC bN ba p g aD aE bc n hk
   go_wp2_with (first
    |(go_at_call 124;with_reducible refine bP.o.mono ?_;rintro e w' ⟨rfl,rfl⟩)
    |(go_at_call 124;with_reducible refine bQ.o.mono ?_;rintro e w' ⟨rfl,rfl⟩)
    |(at_builtin;refine vp rfl (.tmp 64) (.tmp 67) rfl W.heap.size (.slice A k c) k ((co.take k).map λ x=> -x) rfl bd.o (some ⟨wr.heap.size,0,none⟩) 1 1 [-x] rfl bR.o (by omega) bf ?_;intro v9 gb R;obtain⟨⟨ag,bh,c2⟩,bS,ai⟩:=aq.lq R.1;obtain rfl:v9=.slice ag bh c2:=bS;have bT:=U (z_ R ai);clear R ai))
   go_roundw
   case rel=>
    obtain⟨⟨g1,g2,g3⟩,ai⟩:=bT.o;obtain rfl:bh=k+1:=ai;refine⟨k+1,ag,c2,by go_num,by have:=af.o.2;omega,rfl,?_,(m.o.trans (af.o.1.mono m.o.size)).grown g2 bf (λ b e=>(tc bd.o e).1)⟩;rw[bb.o,Zm];exact g1
   case measure=>have:=af.o.2;simp[intOf];omega
  ·obtain rfl:k=C:=by omega
   have ae:¬(k:Int)<(k:Int):=by omega
   have X:co.take k=co:=o_ (by rw[H.o.2.2.len];omega);rw[X] at ad;clear t0 t1 X;have bj:=aM.new wr 22 [.slice none 0 0];have O:=bg wr (.cells #[.slice none 0 0] 22);have bk:=aM.new (wr.alloc (.cells #[.slice none 0 0] 22)) 144 [.func (.func 198) #[] #[.pointer (some ⟨wr.heap.size,0,none⟩)]];have P:=bg (wr.alloc (.cells #[.slice none 0 0] 22)) (.cells #[.func (.func 198) #[] #[.pointer (some ⟨wr.heap.size,0,none⟩)]] 144);have aj:(wr.alloc (.cells #[.slice none 0 0] 22)).heap.size=wr.heap.size+1:=by simp
   have ak:((wr.alloc (.cells #[.slice none 0 0] 22)).alloc (.cells #[.func (.func 198) #[] #[.pointer (some ⟨wr.heap.size,0,none⟩)]] 144)).heap.size=wr.heap.size+2:=by simp
   have D:=U (z_ (bj.below P) (z_ bk (O.trans (P.mono O.size))));have cr:∀(fn:Fn)(first cap:Array Value)(w:World),(Zh fn first cap).run w_ w=.ok (.func fn first cap) w:=λ _ _ _ _=>rfl
   have ct:= @run_makeMap w_;have aG:=U (z_ aj ak);clear bj bk O P aj ak
   go_upto_region 17 with fail
   change bF (aM ((wr.alloc (.cells #[.slice none 0 0] 22)).alloc (.cells #[.func (.func 198) #[] #[.pointer (some ⟨wr.heap.size,0,none⟩)]] 144)) wr.heap.size _ _/\aM ((wr.alloc (.cells #[.slice none 0 0] 22)).alloc (.cells #[.func (.func 198) #[] #[.pointer (some ⟨wr.heap.size,0,none⟩)]] 144)) (wr.alloc (.cells #[.slice none 0 0] 22)).heap.size _ _/\_) at D;rw[aG.o.1] at D;generalize (wr.alloc (.cells #[.slice none 0 0] 22)).alloc (.cells #[.func (.func 198) #[] #[.pointer (some ⟨wr.heap.size,0,none⟩)]] 144)=s at*;obtain⟨cu,bU,bl,g1⟩:=EL (W:=s.alloc (.map #[] 0)) (b:=s.heap.size) (es:= #[]) (clock:=0) (World.alloc_heap_new s _) 1 (.func (.func 199) #[] #[.pointer (some ⟨wr.heap.size+1,0,none⟩),.pointer (some ⟨w.heap.size,0,none⟩)]) (by simp[f_]);obtain⟨M2,bV,bo,g2⟩:=EL bl 2 (.func (.func 201) #[] #[.pointer (some ⟨wr.heap.size,0,none⟩),.pointer (some ⟨wr.heap.size+1,0,none⟩)]) (by simp[f_,Zr]);obtain⟨l,bW,aH,g3⟩:=EL bo 3 (.func (.func 203) #[] #[.pointer (some ⟨wr.heap.size,0,none⟩)]) (by simp[f_,Zr]);have S:s.grownBy l (some s.heap.size):=(CX (CX (Zc s _ none|>.but _) g1) (CX g2 g3))
   have J:Below s.heap.size s l:=⟨S.os,S.tape,S.output,S.size,λ k hk=>S.block k hk (λ e=>by injection e with e;omega)⟩
   have bX:=J.size;have aj:=aG.o.1;have ak:=aG.o.2;have bY:=m.o.size;have bZ:=U aH;have bp:=(I.o.below (m.o.trans (D.o.2.2.mono m.o.size))).below J;have bq:Below W.heap.size W l:=(m.o.trans (D.o.2.2.mono m.o.size)).trans (J.mono (m.o.trans (D.o.2.2.mono m.o.size)).size);have al:∀W',aF (λ b=>b<l.heap.size/\b≠wr.heap.size) l W'->Below W.heap.size W W':=λ W' f=>bq.trans (f.below λ b G=>⟨by omega,by omega⟩)
   have br:bF (EM l l.heap.size wr.heap.size (wr.heap.size+1) w.heap.size gI bn):=U ⟨D.o.2.1.below J,bp,λ W' f=>H.o.1.below (al W' f),⟨by omega,by omega⟩,⟨by omega,by omega⟩⟩;have b0:bF (sI l l.heap.size wr.heap.size l []):=U ⟨none,0,D.o.1.below J,b_ _ _ _ _,aF.refl,by omega,q_ _⟩;have aI:bF (∀e∈es,CR l l.heap.size wr.heap.size e.r):=U λ e he W' f=>(H.o.2.1.rows e he).below (al W' f)
   have bs:=U al;have b1:bF (∀W',aF (λ b=>b<l.heap.size/\b≠wr.heap.size) l W'->aN W' A k c (co.map λ x=> -x)):=U λ W' f=>by
    have bt:=lU (lU ad.o D.o.2.2) J;refine aN.lq (mK bt λ b e=>f.keep b ⟨(tc bt e).2,λ cv=>?_⟩) (by omega);have:=(tc ad.o e).2;omega
   have b2:bF (s.heap.size<l.heap.size/\s.heap.size≠wr.heap.size):=U ⟨(Array.getElem?_eq_some_iff.1 aH).1,by omega⟩;clear aj ak S J g1 g2 g3 bl bo aH al bp bq ae n hk bY
   go_upto_region 18 with fail
   clear bU bV bW;clear bX;generalize wr.heap.size=an at*;generalize s.heap.size=b3 at*
   go_wp2_with fail
   go_loopw [78] (λ i V=>∃j:Nat,i=.int .i64 j/\j<=v/\sI l l.heap.size an V ((es.take j).map (·.r))) (λ i _=>v-(intOf i).toNat)
   case atStart=>exact⟨0,rfl,m_ _,b0.o⟩
   case round=>
    obtain⟨j,rfl,bu,T⟩:=hrel
    by_cases n:j<v
    ·have Y:=bs.o wr T.iQ;have ae:(j:Int)<(v:Int):=by omega
     have bM:t_.wrap ((j:Int)+1)=(j:Int)+1:=by rw[u_];omega
     have aJ:=H.o.2.1.below Y;have p:j<es.length:=by rw[H.o.2.1.len];exact n
     have aK:=aI.o es[j] (h_ p);have E:=d.o.2.2.2.1 es[j] (by rw[d.o.1];exact h_ p);have aL:(es.take (j+1)).map (·.r)=(es.take j).map (·.r)++[es[j].r]:=by rw[List.take_succ_eq_append_getElem p,Zm];rfl
     have aO:j<2->es[j].jf=1:=λ cw=>by
      have h:=d.o.1;have b4:es[j]=(z::B::rest)[j]'(by rw[h];exact p):=by simp[h]
      rw[b4];rcases(show j=0\/j=1 by omega) with rfl|rfl
      ·exact d.o.2.1.1
      ·exact d.o.2.2.1.1
     obtain⟨b,off,rfl,ab,b5⟩:=aJ.cells (by omega);obtain⟨ao,ar,bw⟩:=aJ.Et n p;obtain⟨⟨jf,⟨K,L,M,au⟩⟩,F⟩:∃e,es[j]=e:=⟨_,rfl⟩
     rw[F] at ao ar bw aK E aL aO;replace ao:wr.cell? ⟨b,off+j*2,none⟩=some (.int .i64 jf):=ao;replace ar:wr.cell? ⟨b,off+j*2+1,none⟩=some (.slice K L M):=ar;have t:=U (z_ aK (z_ E (z_ aL (z_ aO (z_ n p)))));have b6:=U T;clear b5 aJ aK E aL aO T Y bw F p bu
     go_upto_region 21 with fail
     have mC:aM (wr.alloc (.cells #[.int .i64 jf,.slice K L M] 126)) wr.heap.size 126 [.int .i64 jf,.slice K L M]:=aM.new wr 126 _;have bx:=bg wr (.cells #[.int .i64 jf,.slice K L M] 126);have aP:=U (b6.o.below bx);generalize wr.alloc (.cells #[.int .i64 jf,.slice K L M] 126)=bz at*;have t0:=mC.cell 0;have t1:=mC.cell 1;simp only[y_,x_] at t0 t1;have av:=(aP.o.iQ.keep b3 b2.o).trans bZ.o;have aQ:((es.take j).map (·.r)).length<=1000:=by rw[Zk,List.length_take,H.o.2.1.len];omega
     clear mC bx ao ar n;rcases t.o.2.1.1 with⟨aR,u⟩|⟨aS,bA⟩
     ·replace aR:jf=1:=aR;subst aR;have b7:=IZ av 1 (.func (.func 199) #[] #[.pointer (some ⟨an+1,0,none⟩),.pointer (some ⟨w.heap.size,0,none⟩)]) 0 (by simp[f_,Zr]);obtain⟨a,R,bB⟩:∃a:Int,(a=1\/a= -1)/\au=[a,2]:=by
       have u:au∈mY:=u;unfold mY at u;rcases List.mem_cons.1 u with h|h
       ·exact⟨1,.inl rfl,h⟩
       ·exact⟨-1,.inr rfl,n_.1 h⟩
      have b8:=U (Qf br.o bz _ aP.o ⟨K,L,M,au⟩ t.o.1 (by omega) a R bB);have b9:=Qh;clear u R bB aQ av
      go_wp2_with (go_at_fn 199;refine b8.o.mono ?_;rintro e b' ⟨rfl,Z⟩;have aT:=U Z;clear Z)
      go_roundw
      case rel=>exact⟨j+1,by go_num,by have:=t.o.2.2.2.2.1;omega,by rw[t.o.2.2.1];exact aT.o⟩
      case measure=>have:=t.o.2.2.2.2.1;simp[intOf];omega
     ·replace aS:jf=2:=aS;subst aS;have ca:2<=j:=by
       rcases Nat.lt_or_ge j 2 with h|h
       ·exact absurd (show(2:Int)=1 from t.o.2.2.2.1 h) (by decide)
       ·exact h
      have b7:=IZ av 2 (.func (.func 201) #[] #[.pointer (some ⟨an,0,none⟩),.pointer (some ⟨an+1,0,none⟩)]) 1 (by simp[f_,Zr]);obtain⟨i2,bC⟩:∃q,j=q+2:=⟨j-2,by omega⟩
      have N:∀ah,ah=z.r.ah\/ah=B.r.ah->ah∈((es.take j).map (·.r)).map (·.ah):=λ ah u=>by
       rw[<-d.o.1,bC];rcases u with rfl|rfl<;>simp
      have pQ:=U (Qg br.o bz _ aP.o (λ x g=>by
        obtain⟨e,he,rfl⟩:=r_.1 g;exact aI.o e (Zd he)) ⟨K,L,M,au⟩ t.o.1 aQ (λ r aU x g=>by
        obtain⟨e,he,rfl⟩:=r_.1 aU;exact(d.o.2.2.2.1 e (by rw[d.o.1];exact Zd he)).2 x g) (N _ (.inl d.o.2.1.2.symm)) (N _ (.inr d.o.2.2.1.2.symm)) t.o.2.1.2 bA)
      have b9:=Qi;clear bA aQ av N bC ca
      go_wp2_with (go_at_fn 201;refine pQ.o.mono ?_;rintro e b' ⟨rfl,Z⟩;have aT:=U Z;clear Z)
      go_roundw
      case rel=>exact⟨j+1,by go_num,by have:=t.o.2.2.2.2.1;omega,by rw[t.o.2.2.1];exact aT.o⟩
      case measure=>have:=t.o.2.2.2.2.1;simp[intOf];omega
    ·obtain rfl:j=v:=by omega
     have ae:¬(j:Int)<(j:Int):=by omega
     have X:es.take j=es:=o_ (by rw[H.o.2.1.len];omega);rw[X] at T;have cc:=T;obtain⟨ag,c2,g1,g2,g3,g4,g5⟩:=T;have bD:=g1.cell 0;simp only[y_] at bD;have N:∀ah,ah=z.r.ah\/ah=B.r.ah->ah∈(es.map (·.r)).map (·.ah):=λ ah u=>by
      rw[<-d.o.1];rcases u with rfl|rfl<;>simp
     have bE:(es.map (·.r)).length<=1000:=by rw[Zk,H.o.2.1.len];omega
     have aV:∀x∈co,x=1\/x= -2:=λ x g=>by
      have:=d.o.2.2.2.2.1.subset g;simpa using this
     have bG:=U (IX wr ag (es.map (·.r)).length c2 (es.map (·.r)) (sI.zM g2 (λ x g=>by
        obtain⟨e,he,rfl⟩:=r_.1 g;exact aI.o e he wr g3) (by omega)) bE (λ r aU x g=>by
        obtain⟨e,he,rfl⟩:=r_.1 aU;exact(d.o.2.2.2.1 e (by rw[d.o.1];exact he)).2 x g) (N _ (.inl d.o.2.1.2.symm)) (N _ (.inr d.o.2.2.1.2.symm)) A k c (co.map λ x=> -x) (b1.o wr g3) (λ x g=>by
        obtain⟨y,cd,rfl⟩:=r_.1 g;rcases aV y cd with rfl|rfl<;>exact⟨by decide,by decide⟩) (Ql (λ x g=>by rcases aV x g with rfl|rfl<;>decide) d.o.2.2.2.2.2.1))
     have Y:=U (a7.o.trans ((bs.o wr g3).mono a7.o.size));obtain⟨q,bH⟩:∃q,(es.map (·.r)).length=q:=⟨_,rfl⟩
     rw[bH] at bG bD;clear cc g1 g2 g3 N bE aV X bu n bH
     go_wp2_with (go_at_call 202;with_reducible refine bG.o.mono ?_;rintro e gb ⟨rfl,bI⟩;have cf:=U bI;clear bI)
     go_ret;exact⟨rfl,Y.o.trans (cf.o.mono Y.o.size)⟩
theorem Qn(gI:Option Addr)(bn:Nat)(i:Option Addr)(f j:Nat)(b c:mG)(rest:List mG)(k:Option Addr)(l m:Nat)(co:List Int)(w:World)(n:mc w gI 2 bn mY)(hp:nM w i f j (b::c::rest))(p:b.jf=1/\b.r.ah=[1,2])(k2:c.jf=1/\c.r.ah=[-1,2])
  (y:f<=1000) (q:∀e∈b::c::rest,uG mY 2 e.jf e.r.ah) (s:aN w k l m co) (t:co.Sublist [1,-2]) (hu:¬Can mY co):
  Calls w_ 102 #[.agg #[.int .i64 2,.slice gI 2 bn],.slice i f j,.slice k l m] w λ e w'=>e=.returned (.bool true)/\Below w.heap.size w w':=by
 have d:=bg w (.cells #[.int .i64 2,.slice gI 2 bn] 24);have g:=aM.new w 24 [.int .i64 2,.slice gI 2 bn];have z:=U (Qm gI bn i f j b c rest k l m co _ (n.below d) (hp.below d) p k2 y q (s.below d) t hu);have u:=U d;clear n hp p k2 q s t hu d;go_enter Tryz.func102,Tryz.ntmps102
 go_upto_region 1 with fail
 change aM (w.alloc (.cells #[.int .i64 2,.slice gI 2 bn] 24)) _ _ _ at g;generalize w.alloc (.cells #[.int .i64 2,.slice gI 2 bn] 24)=W at*;have t0:=g.cell 0;have t1:=g.cell 1;simp only[y_,x_] at t0 t1;clear g
 go_wp2_with (go_at_call 161;refine z.o.mono ?_;rintro e B ⟨rfl,v⟩;have A:=U v;clear v)
 go_ret;exact⟨rfl,u.o.trans (A.o.mono u.o.size)⟩
theorem EN(w:World):Calls w_ 40 #[] w λ e w'=>e=.returned (.bool true)/\Below w.heap.size w w':=by
 have b4:bF (Calls w_ 42 #[.int .i64 2] w λ e W=>∃t:gD,e=.returned (pV t 0)/\kG (λ _=>False) W 2 (qU 2) t/\Below w.heap.size w W):=U (EF (D:=λ _=>False) 2 (by omega) w (λ _ h=>h.elim));have b5:=U Px;simp only[gD.L,qa,lX] at b5;go_enter Tryz.func40,Tryz.ntmps40
 go_upto_region 2 with(go_at_call 42;refine b4.o.mono ?_;rintro e al ⟨t1,rfl,h1,aa⟩;have H1:=U (z_ h1 aa);clear h1 aa;unfold pV gD.L)
 have an:=aM.new al 47 t1.L;have bl:=bg al (.cells t1.L.toArray 47);have av:kG (λ b=>b=al.heap.size) (al.alloc (.cells t1.L.toArray 47)) 2 (qU 2) t1:=H1.o.1.more bl (λ b bn e=>absurd bn (by rw[e];exact Nat.lt_irrefl _));have aa:=H1.o.2.trans (bl.mono H1.o.2.size);have bo:=H1.o.2.size;have aw:=an.lt;simp only[gD.L] at an av aa aw;generalize al.alloc (.cells #[.int .i64 t1.n,.slice t1.g.A t1.g.n t1.g.c,.slice t1.l.A t1.l.n t1.l.c,.slice t1.a.A t1.a.n t1.a.c,.slice t1.o.A t1.o.n t1.o.c,.int .i64 t1.b,.slice t1.h.A t1.h.n t1.h.c,.slice t1.p.A t1.p.n t1.p.c] 47)=bp at an av aa aw⊢;generalize al.heap.size=j at an av aw bo⊢;clear bl H1 b4;have b6:=U (z_ bo aw);clear bo aw;have ao:=U (z_ (an) (z_ (av) (aa)));clear an av aa;have d:=(ao.o.1).cell;have q:=d 0;have u:=d 1;have v:=d 2;have y:=d 3;have z:=d 4;have C:=d 5;have E:=d 6;have F:=d 7;simp only[gD.L,kY.L,y_,x_] at q u v y z C E F;clear d;have bq:=U (IV ao.o.2.1 (ao.o.1.lt) (by omega) [1,2] 2 rfl (by omega) (by decide) (by simp[qU]));simp only[gD.L,lW,e_,c_] at bq;have aU:∀W,Below bp.heap.size bp W->aM W j 47 [.int .i64 t1.n,.slice t1.g.A t1.g.n t1.g.c,.slice t1.l.A t1.l.n t1.l.c,.slice t1.a.A t1.a.n t1.a.c,.slice t1.o.A t1.o.n t1.o.c,.int .i64 t1.b,.slice t1.h.A t1.h.n t1.h.c,.slice t1.p.A t1.p.n t1.p.c]:=λ W h=>(show aM bp j 47 [.int .i64 t1.n,.slice t1.g.A t1.g.n t1.g.c,.slice t1.l.A t1.l.n t1.l.c,.slice t1.a.A t1.a.n t1.a.c,.slice t1.o.A t1.o.n t1.o.c,.int .i64 t1.b,.slice t1.h.A t1.h.n t1.h.c,.slice t1.p.A t1.p.n t1.p.c] from ao.o.1).below h
 go_upto_region 3 with(go_at_call 46;refine bq.o.mono ?_;rintro e ax ⟨t2,s2,ay,rfl,f,K⟩;have H:=(aU ax f).free;have br:=H 0;have bs:=H 1;have bt:=H 2;have bu:=H 3;have bw:=H 4;have bx:=H 5;have bz:=H 6;have bA:=H 7;clear H;have I:=(aU ax f).cell;have az:=I 0;have aA:=I 1;have aB:=I 2;have aC:=I 3;have aE:=I 4;have aH:=I 5;have aI:=I 6;have aJ:=I 7;simp only[y_,x_] at az aA aB aC aE aH aI aJ;clear I;have qi:=U (z_ f K);clear f K q u v y z C E F;unfold pV gD.L)
 clear br bs bt bu bw bx bz bA az aA aB aC aE aH aI aJ;have aV:=aF.eight (W:=ax) (B:=j) (.int .i64 t2.n) (.slice t2.g.A t2.g.n t2.g.c) (.slice t2.l.A t2.l.n t2.l.c) (.slice t2.a.A t2.a.n t2.a.c) (.slice t2.o.A t2.o.n t2.o.c) (.int .i64 t2.b) (.slice t2.h.A t2.h.n t2.h.c) (.slice t2.p.A t2.p.n t2.p.c);have bB:=aM.rL (aU ax qi.o.1) (.int .i64 t2.n) (.slice t2.g.A t2.g.n t2.g.c) (.slice t2.l.A t2.l.n t2.l.c) (.slice t2.a.A t2.a.n t2.a.c) (.slice t2.o.A t2.o.n t2.o.c) (.int .i64 t2.b) (.slice t2.h.A t2.h.n t2.h.c) (.slice t2.p.A t2.p.n t2.p.c);have bC:=qi.o.2.1.set (B:=j) rfl aV;have f:=uM (ao.o.2.2.trans (qi.o.1.mono ao.o.2.2.size)) aV b6.o.1;generalize (((((((ax.setCell ⟨j,0,none⟩ (.int .i64 t2.n)).setCell ⟨j,1,none⟩ (.slice t2.g.A t2.g.n t2.g.c)).setCell ⟨j,2,none⟩ (.slice t2.l.A t2.l.n t2.l.c)).setCell ⟨j,3,none⟩ (.slice t2.a.A t2.a.n t2.a.c)).setCell ⟨j,4,none⟩ (.slice t2.o.A t2.o.n t2.o.c)).setCell ⟨j,5,none⟩ (.int .i64 t2.b)).setCell ⟨j,6,none⟩ (.slice t2.h.A t2.h.n t2.h.c)).setCell ⟨j,7,none⟩ (.slice t2.p.A t2.p.n t2.p.c)=bD at aV bB bC f⊢;have aq:=U (z_ (bB) (z_ (bC) (f)));clear aV bB bC f aU bq;have bE:s2.gs=[[1,2]]:=qi.o.2.2.1;have b7:s2.aD=[ay]:=qi.o.2.2.2.1;have d:=(aq.o.1).cell;have q:=d 0;have u:=d 1;have v:=d 2;have y:=d 3;have z:=d 4;have C:=d 5;have E:=d 6;have F:=d 7;simp only[gD.L,kY.L,y_,x_] at q u v y z C E F;clear d;have bG:=U (IV aq.o.2.1 (aq.o.1.lt) (by omega) [-1,2] 2 rfl (by omega) (by decide) (by rw[bE];simp));simp only[gD.L,lW,e_,c_] at bG;have aW:∀W,Below bD.heap.size bD W->aM W j 47 [.int .i64 t2.n,.slice t2.g.A t2.g.n t2.g.c,.slice t2.l.A t2.l.n t2.l.c,.slice t2.a.A t2.a.n t2.a.c,.slice t2.o.A t2.o.n t2.o.c,.int .i64 t2.b,.slice t2.h.A t2.h.n t2.h.c,.slice t2.p.A t2.p.n t2.p.c]:=λ W h=>(show aM bD j 47 [.int .i64 t2.n,.slice t2.g.A t2.g.n t2.g.c,.slice t2.l.A t2.l.n t2.l.c,.slice t2.a.A t2.a.n t2.a.c,.slice t2.o.A t2.o.n t2.o.c,.int .i64 t2.b,.slice t2.h.A t2.h.n t2.h.c,.slice t2.p.A t2.p.n t2.p.c] from aq.o.1).below h
 go_upto_region 4 with(go_at_call 46;refine bG.o.mono ?_;rintro e aK ⟨t3,s3,aX,rfl,f,K⟩;have H:=(aW aK f).free;have br:=H 0;have bs:=H 1;have bt:=H 2;have bu:=H 3;have bw:=H 4;have bx:=H 5;have bz:=H 6;have bA:=H 7;clear H;have I:=(aW aK f).cell;have az:=I 0;have aA:=I 1;have aB:=I 2;have aC:=I 3;have aE:=I 4;have aH:=I 5;have aI:=I 6;have aJ:=I 7;simp only[y_,x_] at az aA aB aC aE aH aI aJ;clear I;have ab:=U (z_ f K);clear f K q u v y z C E F;unfold pV gD.L)
 clear br bs bt bu bw bx bz bA az aA aB aC aE aH aI aJ;have aY:=aF.eight (W:=aK) (B:=j) (.int .i64 t3.n) (.slice t3.g.A t3.g.n t3.g.c) (.slice t3.l.A t3.l.n t3.l.c) (.slice t3.a.A t3.a.n t3.a.c) (.slice t3.o.A t3.o.n t3.o.c) (.int .i64 t3.b) (.slice t3.h.A t3.h.n t3.h.c) (.slice t3.p.A t3.p.n t3.p.c);have bH:=aM.rL (aW aK ab.o.1) (.int .i64 t3.n) (.slice t3.g.A t3.g.n t3.g.c) (.slice t3.l.A t3.l.n t3.l.c) (.slice t3.a.A t3.a.n t3.a.c) (.slice t3.o.A t3.o.n t3.o.c) (.int .i64 t3.b) (.slice t3.h.A t3.h.n t3.h.c) (.slice t3.p.A t3.p.n t3.p.c);have bI:=ab.o.2.1.set (B:=j) rfl aY;have bJ:=uM (aq.o.2.2.trans (ab.o.1.mono aq.o.2.2.size)) aY b6.o.1;generalize (((((((aK.setCell ⟨j,0,none⟩ (.int .i64 t3.n)).setCell ⟨j,1,none⟩ (.slice t3.g.A t3.g.n t3.g.c)).setCell ⟨j,2,none⟩ (.slice t3.l.A t3.l.n t3.l.c)).setCell ⟨j,3,none⟩ (.slice t3.a.A t3.a.n t3.a.c)).setCell ⟨j,4,none⟩ (.slice t3.o.A t3.o.n t3.o.c)).setCell ⟨j,5,none⟩ (.int .i64 t3.b)).setCell ⟨j,6,none⟩ (.slice t3.h.A t3.h.n t3.h.c)).setCell ⟨j,7,none⟩ (.slice t3.p.A t3.p.n t3.p.c)=ed at aY bH bI bJ⊢;have ad:=U (z_ (bH) (z_ (bI) (bJ)));clear aY bH bI bJ aW bG;have b8:s3.gs=mY:=by have:=ab.o.2.2.1;rw[bE] at this;exact this
 have b9:s3.aD=[ay,aX]:=by have:=ab.o.2.2.2.1;rw[b7] at this;exact this
 have Y:=U (z_ b8 (z_ b9 (z_ qi.o.2.2.2.2 ab.o.2.2.2.2)));clear bE b7 b8 b9 qi ab;have ae:=ad.o.1.lt;have d:=(ad.o.1).cell;have q:=d 0;have u:=d 1;have v:=d 2;have y:=d 3;have z:=d 4;have C:=d 5;have E:=d 6;have F:=d 7;simp only[gD.L,kY.L,y_,x_] at q u v y z C E F;clear d;have aZ:=U (Pv ad.o.2.1 ae (by omega) (by rw[Y.o.1];decide) (by decide));rw[Y.o.1] at aZ;simp only[gD.L,lW,e_,c_] at aZ
 go_upto_region 5 with(go_at_call 36;refine aZ.o.mono ?_;rintro e a6 ⟨t4,G,iI,rfl,f,K⟩;have af:=U (z_ f K);clear f K q u v y z C E F;unfold sd gD.L kY.L)
 have ag:=AV a6 t4 G;have aL:=EJ a6 t4 G;simp only[gD.L,kY.L] at ag aL;obtain⟨aN,ag⟩:=ag;generalize (a6.alloc (.cells #[.int .i64 t4.n,.slice t4.g.A t4.g.n t4.g.c,.slice t4.l.A t4.l.n t4.l.c,.slice t4.a.A t4.a.n t4.a.c,.slice t4.o.A t4.o.n t4.o.c,.int .i64 t4.b,.slice t4.h.A t4.h.n t4.h.c,.slice t4.p.A t4.p.n t4.p.c] 47)).alloc (.cells #[.int .i64 G.k,.slice G.m.A G.m.n G.m.c,.slice G.o.A G.o.n G.o.c,.int .i64 G.s] 30)=b' at aN ag aL⊢;generalize a6.heap.size=g4 at ag aL⊢;have a7:=af.o.1.trans (aN.mono af.o.1.size);clear aZ;have T:=U (z_ (show aM b' g4 47 [.int .i64 t4.n,.slice t4.g.A t4.g.n t4.g.c,.slice t4.l.A t4.l.n t4.l.c,.slice t4.a.A t4.a.n t4.a.c,.slice t4.o.A t4.o.n t4.o.c,.int .i64 t4.b,.slice t4.h.A t4.h.n t4.h.c,.slice t4.p.A t4.p.n t4.p.c] from aL) (z_ (show aM b' (g4+1) 30 [.int .i64 G.k,.slice G.m.A G.m.n G.m.c,.slice G.o.A G.o.n G.o.c,.int .i64 G.s] from ag) (z_ (af.o.2.1.below aN) (z_ (af.o.2.2.2.2.below aN) (z_ (ad.o.1.below a7) (z_ (ad.o.2.1.below a7) (ad.o.2.2.trans (a7.mono ad.o.2.2.size))))))));clear ag aL a7 aN;have ca:iI.gs=mY:=af.o.2.2.1;have ae:=T.o.2.2.2.2.1.lt;have d:=(T.o.1).cell;have q:=d 0;have u:=d 1;have v:=d 2;have y:=d 3;have z:=d 4;have C:=d 5;have E:=d 6;have F:=d 7;simp only[gD.L,kY.L,y_,x_] at q u v y z C E F;clear d;have a8:=U (Pu T.o.2.2.1 ae (by omega) [1,-2] 2 rfl (by omega) (by rw[ca];decide) (by decide));rw[ca] at a8;simp only[gD.L,lW,e_,c_] at a8
 go_upto_region 6 with(go_at_call 36;refine a8.o.mono ?_;rintro e a' ⟨t5,i,X,rfl,f,K⟩;have ai:=U (z_ f K);clear f K q u v y z C E F;unfold sd gD.L kY.L)
 have mV:=AV a' t5 i;have aP:=EJ a' t5 i;simp only[gD.L,kY.L] at mV aP;obtain⟨aQ,mV⟩:=mV;generalize (a'.alloc (.cells #[.int .i64 t5.n,.slice t5.g.A t5.g.n t5.g.c,.slice t5.l.A t5.l.n t5.l.c,.slice t5.a.A t5.a.n t5.a.c,.slice t5.o.A t5.o.n t5.o.c,.int .i64 t5.b,.slice t5.h.A t5.h.n t5.h.c,.slice t5.p.A t5.p.n t5.p.c] 47)).alloc (.cells #[.int .i64 i.k,.slice i.m.A i.m.n i.m.c,.slice i.o.A i.o.n i.o.c,.int .i64 i.s] 30)=cc at aQ mV aP⊢;generalize a'.heap.size=g5 at mV aP⊢;have Z:=ai.o.1.trans (aQ.mono ai.o.1.size);clear a8;have M:=U (z_ (show aM cc g5 47 [.int .i64 t5.n,.slice t5.g.A t5.g.n t5.g.c,.slice t5.l.A t5.l.n t5.l.c,.slice t5.a.A t5.a.n t5.a.c,.slice t5.o.A t5.o.n t5.o.c,.int .i64 t5.b,.slice t5.h.A t5.h.n t5.h.c,.slice t5.p.A t5.p.n t5.p.c] from aP) (z_ (show aM cc (g5+1) 30 [.int .i64 i.k,.slice i.m.A i.m.n i.m.c,.slice i.o.A i.o.n i.o.c,.int .i64 i.s] from mV) (z_ (ai.o.2.1.below aQ) (z_ (ai.o.2.2.2.2.below aQ) (z_ (T.o.1.below Z) (z_ (T.o.2.1.below Z) (z_ (T.o.2.2.1.below Z) (z_ (T.o.2.2.2.1.below Z) (z_ (T.o.2.2.2.2.1.below Z) (z_ (T.o.2.2.2.2.2.1.below Z) (T.o.2.2.2.2.2.2.trans (Z.mono T.o.2.2.2.2.2.2.size))))))))))));clear mV aP Z aQ;have bK:X.gs=mY:=ai.o.2.2.1;have cd:=U (z_ af.o.2.2.2.1 ai.o.2.2.2.1);clear af ai;have d:=(M.o.1).cell;have q:=d 0;have u:=d 1;have v:=d 2;have y:=d 3;have z:=d 4;have C:=d 5;have E:=d 6;have F:=d 7;simp only[gD.L,kY.L,y_,x_] at q u v y z C E F;clear d;have ae:=M.o.2.2.2.2.2.2.2.2.1.lt;have bL:=U (Pt M.o.2.2.1 ae (by omega) [3] 1 rfl (by omega) (by decide) (by rw[bK];decide));simp only[gD.L,qa,lX,pV,lW,e_,c_] at bL
 go_upto_region 7 with(go_at_call 46;refine bL.o.mono ?_;rintro e cf ⟨rfl,f⟩;have bM:=U f;clear f q u v y z C E F)
 have bN:=bg cf (.cells #[.int .i64 0,.slice none 0 0,.slice none 0 0,.slice none 0 0,.slice none 0 0,.int .i64 0,.slice none 0 0,.slice none 0 0] 47);generalize cf.alloc (.cells #[.int .i64 0,.slice none 0 0,.slice none 0 0,.slice none 0 0,.slice none 0 0,.int .i64 0,.slice none 0 0,.slice none 0 0] 47)=ee at bN⊢;have Q:=bM.o.trans (bN.mono bM.o.size);have P:=U (z_ (M.o.1.below Q) (z_ (M.o.2.1.below Q) (z_ (M.o.2.2.1.below Q) (z_ (M.o.2.2.2.1.below Q) (z_ (M.o.2.2.2.2.1.below Q) (z_ (M.o.2.2.2.2.2.1.below Q) (z_ (M.o.2.2.2.2.2.2.1.below Q) (z_ (M.o.2.2.2.2.2.2.2.1.below Q) (z_ (M.o.2.2.2.2.2.2.2.2.1.below Q) (z_ (M.o.2.2.2.2.2.2.2.2.2.1.below Q) (M.o.2.2.2.2.2.2.2.2.2.2.trans (Q.mono M.o.2.2.2.2.2.2.2.2.2.2.size))))))))))));clear bL bN Q bM;have d:=(P.o.1).cell;have q:=d 0;have u:=d 1;have v:=d 2;have y:=d 3;have z:=d 4;have C:=d 5;have E:=d 6;have F:=d 7;simp only[gD.L,kY.L,y_,x_] at q u v y z C E F;clear d;have bO:=U (Pw P.o.2.2.1 (by omega) [1,1] 2 rfl (by omega) (by decide));simp only[gD.L,kY.L,qa,xF,lX,sd,lW,e_,c_] at bO
 go_upto_region 8 with(go_at_call 36;refine bO.o.mono ?_;rintro e ba ⟨rfl,f⟩;have bP:=U f;clear f q u v y z C E F)
 have mC:=(bg ba (.cells #[.int .i64 0,.slice none 0 0,.slice none 0 0,.slice none 0 0,.slice none 0 0,.int .i64 0,.slice none 0 0,.slice none 0 0] 47)).trans ((bg (ba.alloc (.cells #[.int .i64 0,.slice none 0 0,.slice none 0 0,.slice none 0 0,.slice none 0 0,.int .i64 0,.slice none 0 0,.slice none 0 0] 47)) (.cells #[.int .i64 0,.slice none 0 0,.slice none 0 0,.int .i64 0] 30)).mono (bg ba (.cells #[.int .i64 0,.slice none 0 0,.slice none 0 0,.slice none 0 0,.slice none 0 0,.int .i64 0,.slice none 0 0,.slice none 0 0] 47)).size);generalize (ba.alloc (.cells #[.int .i64 0,.slice none 0 0,.slice none 0 0,.slice none 0 0,.slice none 0 0,.int .i64 0,.slice none 0 0,.slice none 0 0] 47)).alloc (.cells #[.int .i64 0,.slice none 0 0,.slice none 0 0,.int .i64 0] 30)=bQ at mC⊢;have R:=bP.o.trans (mC.mono bP.o.size);have N:=U (z_ (P.o.1.below R) (z_ (P.o.2.1.below R) (z_ (P.o.2.2.1.below R) (z_ (P.o.2.2.2.1.below R) (z_ (P.o.2.2.2.2.1.below R) (z_ (P.o.2.2.2.2.2.1.below R) (z_ (P.o.2.2.2.2.2.2.1.below R) (z_ (P.o.2.2.2.2.2.2.2.1.below R) (z_ (P.o.2.2.2.2.2.2.2.2.1.below R) (z_ (P.o.2.2.2.2.2.2.2.2.2.1.below R) (P.o.2.2.2.2.2.2.2.2.2.2.trans (R.mono P.o.2.2.2.2.2.2.2.2.2.2.size))))))))))));clear bO mC R bP;have d:=(N.o.1).cell;have q:=d 0;have u:=d 1;have v:=d 2;have y:=d 3;have z:=d 4;have C:=d 5;have E:=d 6;have F:=d 7;simp only[gD.L,kY.L,y_,x_] at q u v y z C E F;clear d;have ae:=N.o.2.2.2.2.2.2.2.2.1.lt;have bR:bF (Calls w_ 44 #[.agg t5.L.toArray,.int .i64 4] bQ λ e W=>∃(bb:gD)(s':j6),e=.returned (pV bb 0)/\Below bQ.heap.size bQ W/\kG (λ b=>b=j) W 4 s' bb):=U ((EG N.o.2.2.1 (λ b bn=>by subst bn;exact ae) (by omega) (m:=4) (by omega) (by omega)).mono λ e W ⟨bb,s',h1,K,cg,_⟩=>⟨bb,s',h1,K,cg⟩);simp only[gD.L] at bR
 go_upto_region 9 with(go_at_call 44;refine bR.o.mono ?_;rintro e bc ⟨t8,ef,rfl,f,K⟩;have bS:=U (z_ f K);clear f K q u v y z C E F;unfold pV gD.L)
 have aR:=bg bc (.cells t8.L.toArray 47);have aS:=aM.new bc 47 t8.L;simp only[gD.L] at aR aS;generalize bc.alloc (.cells #[.int .i64 t8.n,.slice t8.g.A t8.g.n t8.g.c,.slice t8.l.A t8.l.n t8.l.c,.slice t8.a.A t8.a.n t8.a.c,.slice t8.o.A t8.o.n t8.o.c,.int .i64 t8.b,.slice t8.h.A t8.h.n t8.h.c,.slice t8.p.A t8.p.n t8.p.c] 47)=aj at aR aS⊢;generalize bc.heap.size=g8 at aS⊢;have S:=bS.o.1.trans (aR.mono bS.o.1.size);have J:=U (z_ (show aM aj g8 47 [.int .i64 t8.n,.slice t8.g.A t8.g.n t8.g.c,.slice t8.l.A t8.l.n t8.l.c,.slice t8.a.A t8.a.n t8.a.c,.slice t8.o.A t8.o.n t8.o.c,.int .i64 t8.b,.slice t8.h.A t8.h.n t8.h.c,.slice t8.p.A t8.p.n t8.p.c] from aS) (z_ (bS.o.2.below aR) (z_ (N.o.1.below S) (z_ (N.o.2.1.below S) (z_ (N.o.2.2.1.below S) (z_ (N.o.2.2.2.1.below S) (z_ (N.o.2.2.2.2.1.below S) (z_ (N.o.2.2.2.2.2.1.below S) (z_ (N.o.2.2.2.2.2.2.1.below S) (z_ (N.o.2.2.2.2.2.2.2.1.below S) (z_ (N.o.2.2.2.2.2.2.2.2.1.below S) (z_ (N.o.2.2.2.2.2.2.2.2.2.1.below S) (N.o.2.2.2.2.2.2.2.2.2.2.trans (S.mono N.o.2.2.2.2.2.2.2.2.2.2.size))))))))))))));clear bR aR aS S;obtain⟨ch,dW,cj,ck,cm⟩:=Pq J.o.2.2.2.2.2.2.2.2.2.1;obtain⟨cn,dX,co,bd,bT,bU⟩:=Pr J.o.2.2.2.2.2.1;have bV:=Pp bT bU;have cp:t3.g.n=2:=by rw[J.o.2.2.2.2.2.2.2.2.2.2.2.1.e];show s3.gs.length=2;rw[Y.o.1];rfl
 have cq:t3.p.n=2:=by rw[J.o.2.2.2.2.2.2.2.2.2.2.2.1.e];show s3.aD.length=2;rw[Y.o.2.1];rfl
 have bW:t8.n=4:=by rw[J.o.2.1.e];rfl
 have bX:t8.h.n=5:=by rw[J.o.2.1.e];rfl
 have bf:=J.o.2.2.2.2.2.2.2.2.2.2.1;rw[cp,cq] at bf;have bh:=J.o.1;rw[bW,bX] at bh;have bY:=J.o.2.2.2.2.2.2.2.1;rw[ch] at bY;have bj:=J.o.2.2.2.1;rw[cn] at bj;have bZ:=J.o.2.2.1;have b0:mc aj t3.g.A 2 t3.g.c mY:=by have h:=J.o.2.2.2.2.2.2.2.2.2.2.2.1.aO.gs;rw[Y.o.1] at h;exact h
 have b1:=Bd 2 t3.g.A 2 t3.g.c mY G.m.A G.m.n G.m.c cj aj b0 ck;have cr:vQ 2 mY cj=true:=(En (n:=2) (by decide)).2 cm.sat;rw[cr] at b1;clear cr;have dY:=U b1;have b2:=U (J.o.2.1.check (by omega));simp only[gD.L] at b2;rw[bW,bX] at b2;have dZ:=U (vq true i.o.A i.o.n i.o.c co (-2) aj bd bV.1);have eg:(i.o.n:Int)<=2:=by have h:=bd.len;have:=bV.2;omega
 obtain⟨rest,ar⟩:=cd.o.1.trans cd.o.2;rw[Y.o.2.1] at ar;replace ar:ay::aX::rest=X.aD:=ar;have bk:nM aj t5.p.A X.aD.length t5.p.c X.aD:=J.o.2.2.2.2.1.aO.aD;have ct:t5.p.n=X.aD.length:=by rw[J.o.2.2.2.2.1.e];rfl
 have cu:∀p∈ay::aX::rest,uG mY 2 p.jf p.r.ah:=by have h:=J.o.2.2.2.2.1.O.xD;rw[bK,<-ar] at h;exact h
 have b3:X.aD.length<=1000:=by have h:=J.o.2.2.2.2.1.pl;have K:=J.o.2.2.2.2.1.O.ov;rw[bK] at h;have cg:mY.length=2:=rfl;omega
 rw[<-ct] at bk b3;rw[<-ar] at bk;have d':bF (∀W,Below aj.heap.size aj W->Calls w_ 102 #[.agg #[.int .i64 2,.slice t3.g.A 2 t3.g.c],.slice t5.p.A t5.p.n t5.p.c,.slice i.o.A i.o.n i.o.c] W λ e w'=>e=.returned (.bool true)/\Below W.heap.size W w'):=U λ W h=>Qn t3.g.A t3.g.c t5.p.A t5.p.n t5.p.c ay aX rest i.o.A i.o.n i.o.c co W (b0.below h) (bk.below h) Y.o.2.2.1 Y.o.2.2.2 b3 cu (bd.below h) bT bU
 have V:=U (z_ bf (z_ bh (z_ bj bZ)));have cv:=U J.o.2.2.2.2.2.2.2.2.2.2.2.2;have d:=(bj).cell;have v0:=d 0;have v1:=d 1;have v2:=d 2;have v3:=d 3;simp only[gD.L,kY.L,y_,x_] at v0 v1 v2 v3;clear d;have d:=(bY).cell;have a0:=d 0;have a1:=d 1;have a2:=d 2;have a3:=d 3;simp only[gD.L,kY.L,y_,x_] at a0 a1 a2 a3;clear d;have d:=(bh).cell;have z0:=d 0;have cw:=d 1;have z2:=d 2;have z3:=d 3;have z4:=d 4;have z5:=d 5;have cx:=d 6;have cy:=d 7;simp only[gD.L,kY.L,y_,x_] at z0 cw z2 z3 z4 z5 cx cy;clear d;have d:=(bf).cell;have aG:=d 0;have s1:=d 1;have s2:=d 2;have s3:=d 3;have iI:=d 4;have X:=d 5;have tr:=d 6;have cz:=d 7;simp only[gD.L,kY.L,y_,x_] at aG s1 s2 s3 iI X tr cz;clear d;have d:=(bZ).cell;have q:=d 0;have u:=d 1;have v:=d 2;have y:=d 3;have z:=d 4;have C:=d 5;have E:=d 6;have F:=d 7;simp only[gD.L,kY.L,y_,x_] at q u v y z C E F;clear d;clear bf bh bj bZ bY b0 b1 bk cu b3 ct ar ck cm bd bT bU bV cn dX dW ch cp cq bW bX
 go_upto_region 12 with(go_at_call 101;refine dZ.o.mono ?_;rintro e eh ⟨rfl,rfl⟩)
 go_wp2_with (first
  |(go_at_call 58;refine dY.o.mono ?_;rintro e ea ⟨rfl,cA⟩;have ak:=U cA;clear cA v0 v1 v2 v3 a0 a1 a2 a3 z0 cw z2 z3 z4 z5 cx cy aG s1 s2 s3 iI X tr cz q u v y z C E F;have d:=((V.o.2.2.1).below ak.o).cell;have cB:=d 0;have cC:=d 1;have cD:=d 2;have cE:=d 3;clear d;have d:=((V.o.1).below ak.o).cell;have cF:=d 0;have cG:=d 1;have cH:=d 2;have cI:=d 3;have cJ:=d 4;have cK:=d 5;have cL:=d 6;have cM:=d 7;clear d;have d:=((V.o.2.2.2).below ak.o).cell;have cN:=d 0;have cO:=d 1;have cP:=d 2;have cQ:=d 3;have cR:=d 4;have cS:=d 5;have cT:=d 6;have cU:=d 7;clear d;have d:=((V.o.2.1).below ak.o).cell;have cV:=d 0;have cW:=d 1;have cX:=d 2;have cY:=d 3;have cZ:=d 4;have c7:=d 5;have c8:=d 6;have da:=d 7;clear d;simp only[gD.L,kY.L,y_,x_] at cB cC cD cE cF cG cH cI cJ cK cL cM cN cO cP cQ cR cS cT cU cV cW cX cY cZ c7 c8 da)
  |(go_at_call 49;with_reducible refine(b2.o ea ak.o).mono ?_;rintro e eb ⟨rfl,db⟩;have aT:=U (ak.o.trans (db.mono ak.o.size));clear db cB cC cD cE cF cG cH cI cJ cK cL cM cN cO cP cQ cR cS cT cU cV cW cX cY cZ c7 c8 da;have d:=((V.o.2.2.1).below aT.o).cell;have dc:=d 0;have dd:=d 1;have de:=d 2;have df:=d 3;clear d;have d:=((V.o.1).below aT.o).cell;have dh:=d 0;have di:=d 1;have dj:=d 2;have dk:=d 3;have dm:=d 4;have dn:=d 5;have dp:=d 6;have dq:=d 7;clear d;have d:=((V.o.2.2.2).below aT.o).cell;have dr:=d 0;have dt:=d 1;have du:=d 2;have dv:=d 3;have dw:=d 4;have dx:=d 5;have dy:=d 6;have dz:=d 7;clear d;simp only[gD.L,kY.L,y_,x_] at dc dd de df dh di dj dk dm dn dp dq dr dt du dv dw dx dy dz)
  |(go_at_call 49;with_reducible refine(b5.o eb).mono ?_;rintro e vL ⟨rfl,dA⟩;have au:=U (aT.o.trans (dA.mono aT.o.size));clear dA dc dd de df dh di dj dk dm dn dp dq dr dt du dv dw dx dy dz;have d:=((V.o.2.2.1).below au.o).cell;have dB:=d 0;have dC:=d 1;have dD:=d 2;have dE:=d 3;clear d;have d:=((V.o.1).below au.o).cell;have dF:=d 0;have dG:=d 1;have dH:=d 2;have dI:=d 3;have dJ:=d 4;have dK:=d 5;have dL:=d 6;have dM:=d 7;clear d;have d:=((V.o.2.2.2).below au.o).cell;have dN:=d 0;have dO:=d 1;have dP:=d 2;have dQ:=d 3;have dR:=d 4;have dS:=d 5;have dT:=d 6;have dU:=d 7;clear d;simp only[gD.L,kY.L,y_,x_] at dB dC dD dE dF dG dH dI dJ dK dL dM dN dO dP dQ dR dS dT dU)
  |(go_at_call 102;with_reducible refine(d'.o vL au.o).mono ?_;rintro e ei ⟨rfl,dV⟩;have ec:=U (au.o.trans (dV.mono au.o.size));clear dV dB dC dD dE dF dG dH dI dJ dK dL dM dN dO dP dQ dR dS dT dU))
 go_ret;exact⟨rfl,cv.o.trans (ec.o.mono cv.o.size)⟩
def Qo(w:World)(e:Ending)(W:World):Prop:=
 ∃(n:Nat)(s:j6)(t:gD),e=.returned (.tuple #[.agg t.L.toArray,.bool true])/\Below w.heap.size w W/\n<=6/\kG (λ _=>False) W n s t/\s.gs.length<=25
theorem Qp{aO:Ending->World->Prop}{a:Act}{aU:Nat}{t:gD}{ok:Bool}(n:a.defers=[])(c:a.tmps.getD 4 undef=.pointer (some ⟨aU,0,none⟩))(d:a.tmps.getD 5 undef=.bool ok)
  (o:aM W aU 47 t.L) (h:aO (.returned (.tuple #[.agg t.L.toArray,.bool ok])) W):bodyPost w_ Tryz.f53 aO .ret a W:=by
 have b:=o.cell;have e:=b 0;have f:=b 1;have g:=b 2;have i:=b 3;have j:=b 4;have k:=b 5;have l:=b 6;have m:=b 7;simp only[gD.L,y_,x_] at e f g i j k l m;clear b;rw[Array.getD_eq_getD_getElem?] at c d;refine bodyPost_ret (v:=.tuple #[.agg t.L.toArray,.bool ok]) ?_ n h;simp[results,Tryz.results53,go_sem,c,d,e,f,g,i,j,k,l,m,gD.L]
structure xJ(w W:World)(bt k n:Nat)(s:j6)(t:gD):Prop where
 S:kG (λ b=>b=w.heap.size\/b=bt) W n s t
 n6:n<=6
 g:s.gs.length<=k
 gq:aM W bt 47 t.L
 lC:aM W w.heap.size 47 mU
 kZ:Below w.heap.size w W
theorem EV(n:Nat)(bJ:n<=6)(A:Option Addr)(nl cl:Nat)(es:List s6)(w:World)(h:vM w A nl cl es)(bK:nl<=25)(bt:∀o∈es,o.r.n<=20):
  Calls w_ 53 #[.int .i64 n,.slice A nl cl] w (Qo w):=by
 have H:=U (z_ h (z_ bK bt));have ad:=bg w (.cells #[.int .i64 0,.slice none 0 0,.slice none 0 0,.slice none 0 0,.slice none 0 0,.int .i64 0,.slice none 0 0,.slice none 0 0] 47);have aH:=aM.new w 47 mU;unfold mU at aH;clear h bt;go_enter Tryz.func53,Tryz.ntmps53
 go_upto_region 1 with fail
 have bL:(w.alloc (.cells #[.int .i64 0,.slice none 0 0,.slice none 0 0,.slice none 0 0,.slice none 0 0,.int .i64 0,.slice none 0 0,.slice none 0 0] 47)).heap.size=w.heap.size+1:=by simp
 generalize w.alloc (.cells #[.int .i64 0,.slice none 0 0,.slice none 0 0,.slice none 0 0,.slice none 0 0,.int .i64 0,.slice none 0 0,.slice none 0 0] 47)=w1 at*;have bM:=U (EF (D:=λ b=>b=w.heap.size) n (by omega) w1 (λ b e=>by omega));have bc:bF (aM w1 w.heap.size 47 mU/\Below w.heap.size w w1):=U ⟨aH,ad⟩;clear aH ad
 go_upto_region 2 with(go_at_call 42;refine bM.o.mono ?_;rintro e ay ⟨t,rfl,bu,bw⟩;unfold pV gD.L;have aT:=U (z_ bu bw);clear bu bw)
 have aU:=bg ay (.cells t.L.toArray 47);have I:=aM.new ay 47 t.L;have G:kG (λ b=>b=w.heap.size\/b=ay.heap.size) (ay.alloc (.cells t.L.toArray 47)) n (qU n) t:=aT.o.1.more aU (λ b ad e=>e.elim id (by omega));simp only[gD.L] at aU I G;have bx:w.heap.size<ay.heap.size:=by have h1:=aT.o.2.size;have bW:=bc.o.1.lt;omega
 have bN:bF (xJ w _ ay.heap.size 0 n (qU n) t):=U ⟨G,bJ,q_ _,I,(bc.o.1.below aT.o.2).below aU,bc.o.2.trans ((aT.o.2.trans (aU.mono aT.o.2.size)).mono bc.o.2.size)⟩;generalize ay.alloc (.cells #[.int .i64 t.n,.slice t.g.A t.g.n t.g.c,.slice t.l.A t.l.n t.l.c,.slice t.a.A t.a.n t.a.c,.slice t.o.A t.o.n t.o.c,.int .i64 t.b,.slice t.h.A t.h.n t.h.c,.slice t.p.A t.p.n t.p.c] 47)=bX at*;generalize ay.heap.size=F at*;have aP:=U bx;clear aU I G bx bL
 go_wp2_with fail
 go_loopw [8] (λ i W=>∃(k n:Nat)(s:j6)(t:gD),i=.int .i64 k/\k<=nl/\xJ w W F k n s t) (λ i _=>nl-(intOf i).toNat)
 case atStart=>exact⟨0,n,qU n,t,rfl,m_ _,bN.o⟩
 case round=>
  obtain⟨k,J,s1,t1,rfl,hk,bq⟩:=hrel;have D:=U bq;have N:=bq.gq.cell;have bd:=N 0;have bf:=N 1;have bh:=N 2;have bj:=N 3;have bk:=N 4;have bl:=N 5;have bn:=N 6;have bo:=N 7;simp only[gD.L,y_,x_] at bd bf bh bj bk bl bn bo;clear N;clear bq
  by_cases bp:k<nl
  ·have bO:(k:Int)<(nl:Int):=by omega
   obtain⟨b,off,o,rfl,ad,he,ae,af,aw,bz⟩:=(H.o.1.below D.o.kZ).AI bp;have O:=U (z_ bz (z_ (H.o.2.2 o (List.mem_of_getElem? he)) (z_ bp ad)));obtain⟨ok,aI⟩:∃x,o.k=x:=⟨_,rfl⟩
   obtain⟨az,bA⟩:∃x,o.m=x:=⟨_,rfl⟩
   rw[aI] at ae;rw[bA] at af;clear he bz bp hk aI bA;have ax:=bg wr (.cells t1.L.toArray 47);have bB:=aM.new wr 47 t1.L;have bC:kG (λ b=>b=w.heap.size\/b=F\/b=wr.heap.size) _ J s1 t1:=D.o.S.more ax (λ b ad e=>e.elim .inl λ e=>e.elim .inr λ e=>absurd e (by omega));have bD:=D.o.gq.below ax;have bE:=D.o.lC.below ax;have bG:=D.o.kZ.trans (ax.mono D.o.kZ.size);have bP:(wr.alloc (.cells t1.L.toArray 47)).cell? ⟨b,off+k*3,none⟩=some (.int .i64 ok):=(ax.cell (p:=⟨b,_,none⟩) ad).trans ae;have bQ:(wr.alloc (.cells t1.L.toArray 47)).cell? ⟨b,off+k*3+1,none⟩=some (.int .i64 az):=(ax.cell (p:=⟨b,_,none⟩) ad).trans af;have bR:(wr.alloc (.cells t1.L.toArray 47)).cell? ⟨b,off+k*3+2,none⟩=some (.slice o.r.A o.r.n o.r.c):=(ax.cell (p:=⟨b,_,none⟩) ad).trans aw;have bH:=O.o.1.below ax;have c1:F<wr.heap.size:=D.o.gq.lt;have c2:w.heap.size<wr.heap.size:=D.o.lC.lt;have c3:b<wr.heap.size:=ad;have aa:=U (z_ bC (z_ bD (z_ bE (z_ bG (z_ bB (z_ bH (z_ D.o.n6 D.o.g)))))));clear bC bD bE bG bB bH ax ae af aw ad;simp only[gD.L] at aa bP bQ bR
   go_upto_region 7 with fail
   clear bd bf bh bj bk bl bn bo D;generalize wr.alloc (.cells #[.int .i64 t1.n,.slice t1.g.A t1.g.n t1.g.c,.slice t1.l.A t1.l.n t1.l.c,.slice t1.a.A t1.a.n t1.a.c,.slice t1.o.A t1.o.n t1.o.c,.int .i64 t1.b,.slice t1.h.A t1.h.n t1.h.c,.slice t1.p.A t1.p.n t1.p.c] 47)=aQ at*;generalize wr.heap.size=iK at*;have aR:¬F=iK:=by omega
   have bY:¬iK=F:=by omega
   have N:=aa.o.2.1.cell;have bd:=N 0;have bf:=N 1;have bh:=N 2;have bj:=N 3;have bk:=N 4;have bl:=N 5;have bn:=N 6;have bo:=N 7;simp only[y_,x_] at bd bf bh bj bk bl bn bo;clear N;have d:=U (z_ (aa.o.1.below (v_ _ _).drew) (z_ (aa.o.2.1.below (v_ _ _).drew) (z_ (aa.o.2.2.1.below (v_ _ _).drew) (z_ (aa.o.2.2.2.1.trans ((v_ _ _).drew.mono aa.o.2.2.2.1.size)) (z_ (aa.o.2.2.2.2.1.below (v_ _ _).drew) (z_ (aa.o.2.2.2.2.2.1.below (v_ _ _).drew) aa.o.2.2.2.2.2.2))))))
   by_cases bS:ok=0
   ·subst bS;have Q:=U (CL d.o.1 (λ b e=>by have:=d.o.2.1.lt;have:=d.o.2.2.1.lt;have:=d.o.2.2.2.2.1.lt;omega) (by have:=d.o.2.2.2.2.2.2.1;omega) d.o.2.2.2.2.2.1 (by have:=d.o.2.2.2.2.2.2.2;have:=O.o.2.2.1;have:=H.o.2.1;omega));unfold pV gD.L at Q
    by_cases aH:lB J [o.r.ah]=0
    ·have br:yx J o.r.ah=0:=if_pos aH;rw[br] at Q
     go_upto_region 11 with fail
     rename_i ag R;have ai:=U R;clear R;refine p_ ?_
     go_region_with (go_at_call 46;refine Q.o.mono ?_;rintro e K ⟨t2,rfl,T,bs,aI⟩;clear bs;obtain⟨s2,bZ,aA,k2,_⟩:=aI aH;have q:bF (_/\∃(M:Nat)(s2:j6),kG (λ b=>b=w.heap.size\/b=F\/b=iK) K M s2 t2/\M<=6/\s2.gs.length<=k+1):=U (z_ T ⟨J,s2,aA,d.o.2.2.2.2.2.2.1,by rw[k2,s_];have:=d.o.2.2.2.2.2.2.2;simp;omega⟩);clear T aI aA k2;have f:=(d.o.2.2.2.2.1.below q.o.1).free;have aV:=f 0;have aW:=f 1;have aX:=f 2;have aY:=f 3;have aZ:=f 4;have a6:=f 5;have a7:=f 6;have a8:=f 7;clear f;have j:=(d.o.2.2.2.2.1.below q.o.1).cell;have aj:=j 0;have ak:=j 1;have al:=j 2;have an:=j 3;have ao:=j 4;have aq:=j 5;have ar:=j 6;have au:=j 7;simp only[y_,x_] at aj ak al an ao aq ar au;clear j)
     all_goals
      show ag _ _;apply ai.o;have a':=q.o.1.size;have C:=aF.eight (W:=K) (B:=iK) (.int .i64 t2.n) (.slice t2.g.A t2.g.n t2.g.c) (.slice t2.l.A t2.l.n t2.l.c) (.slice t2.a.A t2.a.n t2.a.c) (.slice t2.o.A t2.o.n t2.o.c) (.int .i64 t2.b) (.slice t2.h.A t2.h.n t2.h.c) (.slice t2.p.A t2.p.n t2.p.c);have V:=C.blk (d.o.2.1.below q.o.1) aR;have I:=aM.rL (d.o.2.2.2.2.1.below q.o.1) (.int .i64 t2.n) (.slice t2.g.A t2.g.n t2.g.c) (.slice t2.l.A t2.l.n t2.l.c) (.slice t2.a.A t2.a.n t2.a.c) (.slice t2.o.A t2.o.n t2.o.c) (.int .i64 t2.b) (.slice t2.h.A t2.h.n t2.h.c) (.slice t2.p.A t2.p.n t2.p.c);have X:=C.blk (d.o.2.2.1.below q.o.1) (k_ c2);have Y:=(d.o.2.2.2.1.trans (q.o.1.mono d.o.2.2.2.1.size))
      have Z:=uM Y C (j_ c2);have z:=U (z_ C (z_ V (z_ I (z_ X Z))));clear C V I X Z Y;generalize ((((((((K.setCell ⟨iK,0,none⟩ (.int .i64 t2.n)).setCell ⟨iK,1,none⟩ (.slice t2.g.A t2.g.n t2.g.c)).setCell ⟨iK,2,none⟩ (.slice t2.l.A t2.l.n t2.l.c)).setCell ⟨iK,3,none⟩ (.slice t2.a.A t2.a.n t2.a.c)).setCell ⟨iK,4,none⟩ (.slice t2.o.A t2.o.n t2.o.c)).setCell ⟨iK,5,none⟩ (.int .i64 t2.b)).setCell ⟨iK,6,none⟩ (.slice t2.h.A t2.h.n t2.h.c)).setCell ⟨iK,7,none⟩ (.slice t2.p.A t2.p.n t2.p.c))=aB at*;have E:=z.o.2.2.1.cell;have v0:=E 0;have v1:=E 1;have v2:=E 2;have v3:=E 3;have v4:=E 4;have v5:=E 5;have v6:=E 6;have ba:=E 7;simp only[y_,x_] at v0 v1 v2 v3 v4 v5 v6 ba;clear E;have v:=z.o.2.1.cell;have ae:=v 0;have af:=v 1;have aw:=v 2;have aJ:=v 3;have aK:=v 4;have aL:=v 5;have aN:=v 6;have aO:=v 7;simp only[y_,x_] at ae af aw aJ aK aL aN aO;clear v;have y:=z.o.2.1.free;have f0:=y 0;have f1:=y 1;have f2:=y 2;have f3:=y 3;have f4:=y 4;have f5:=y 5;have f6:=y 6;have f7:=y 7;clear y;have aS:t_.wrap ((k:Int)+1)=(k:Int)+1:=by rw[u_];omega
      go_wp2_with fail
     all_goals
      have ab:=aF.eight (W:=aB) (B:=F) (.int .i64 t2.n) (.slice t2.g.A t2.g.n t2.g.c) (.slice t2.l.A t2.l.n t2.l.c) (.slice t2.a.A t2.a.n t2.a.c) (.slice t2.o.A t2.o.n t2.o.c) (.int .i64 t2.b) (.slice t2.h.A t2.h.n t2.h.c) (.slice t2.p.A t2.p.n t2.p.c);have aC:=aM.rL z.o.2.1 (.int .i64 t2.n) (.slice t2.g.A t2.g.n t2.g.c) (.slice t2.l.A t2.l.n t2.l.c) (.slice t2.a.A t2.a.n t2.a.c) (.slice t2.o.A t2.o.n t2.o.c) (.int .i64 t2.b) (.slice t2.h.A t2.h.n t2.h.c) (.slice t2.p.A t2.p.n t2.p.c);have aD:=ab.blk z.o.2.2.2.1 (k_ aP.o);have aE:=uM z.o.2.2.2.2 ab (j_ aP.o);obtain⟨M,s2,aG,bb,g2⟩:=q.o.2;have G:kG (λ b=>b=w.heap.size\/b=F) _ M s2 t2:=((aG.set (B:=iK) (.inr (.inr rfl)) z.o.1).set (B:=F) (.inr (.inl rfl)) ab).more (v_ _ _) (λ b _ h=>h.elim .inl λ e=>.inr (.inl e));have av:bF (xJ w _ F (k+1) M s2 t2):=U ⟨G,bb,g2,aC,aD,aE⟩;clear ab aC aD aE aG G;go_roundw
      case rel=>exact⟨k+1,M,s2,t2,by go_num,by have:=O.o.2.2.1;omega,av.o⟩
      case measure=>have:=O.o.2.2.1;simp[intOf];omega
    ·have br:yx J o.r.ah=140:=if_neg aH;rw[br] at Q
     go_upto_region 11 with fail
     rename_i ag R;have ai:=U R;clear R;refine p_ ?_
     go_region_with (go_at_call 46;refine Q.o.mono ?_;rintro e K ⟨t2,rfl,T,bs,aI⟩;have q:=U T;clear T aI bs;have f:=(d.o.2.2.2.2.1.below q.o).free;have aV:=f 0;have aW:=f 1;have aX:=f 2;have aY:=f 3;have aZ:=f 4;have a6:=f 5;have a7:=f 6;have a8:=f 7;clear f;have j:=(d.o.2.2.2.2.1.below q.o).cell;have aj:=j 0;have ak:=j 1;have al:=j 2;have an:=j 3;have ao:=j 4;have aq:=j 5;have ar:=j 6;have au:=j 7;simp only[y_,x_] at aj ak al an ao aq ar au;clear j)
     all_goals
      show ag _ _;apply ai.o;have a':=q.o.size;have C:=aF.eight (W:=K) (B:=iK) (.int .i64 t2.n) (.slice t2.g.A t2.g.n t2.g.c) (.slice t2.l.A t2.l.n t2.l.c) (.slice t2.a.A t2.a.n t2.a.c) (.slice t2.o.A t2.o.n t2.o.c) (.int .i64 t2.b) (.slice t2.h.A t2.h.n t2.h.c) (.slice t2.p.A t2.p.n t2.p.c);have V:=C.blk (d.o.2.1.below q.o) aR;have I:=aM.rL (d.o.2.2.2.2.1.below q.o) (.int .i64 t2.n) (.slice t2.g.A t2.g.n t2.g.c) (.slice t2.l.A t2.l.n t2.l.c) (.slice t2.a.A t2.a.n t2.a.c) (.slice t2.o.A t2.o.n t2.o.c) (.int .i64 t2.b) (.slice t2.h.A t2.h.n t2.h.c) (.slice t2.p.A t2.p.n t2.p.c);have X:=C.blk (d.o.2.2.1.below q.o) (k_ c2);have Y:=(d.o.2.2.2.1.trans (q.o.mono d.o.2.2.2.1.size))
      have Z:=uM Y C (j_ c2);have z:=U (z_ C (z_ V (z_ I (z_ X Z))));clear C V I X Z Y;generalize ((((((((K.setCell ⟨iK,0,none⟩ (.int .i64 t2.n)).setCell ⟨iK,1,none⟩ (.slice t2.g.A t2.g.n t2.g.c)).setCell ⟨iK,2,none⟩ (.slice t2.l.A t2.l.n t2.l.c)).setCell ⟨iK,3,none⟩ (.slice t2.a.A t2.a.n t2.a.c)).setCell ⟨iK,4,none⟩ (.slice t2.o.A t2.o.n t2.o.c)).setCell ⟨iK,5,none⟩ (.int .i64 t2.b)).setCell ⟨iK,6,none⟩ (.slice t2.h.A t2.h.n t2.h.c)).setCell ⟨iK,7,none⟩ (.slice t2.p.A t2.p.n t2.p.c))=aB at*;have aS:t_.wrap ((k:Int)+1)=(k:Int)+1:=by rw[u_];omega
      go_wp2_with fail
     all_goals
      have G:kG (λ b=>b=w.heap.size\/b=F) _ J s1 t1:=((d.o.1.below q.o).set (B:=iK) (.inr (.inr rfl)) z.o.1).more (v_ _ _) (λ b _ h=>h.elim .inl λ e=>.inr (.inl e));have av:bF (xJ w _ F (k+1) J s1 t1):=U ⟨G,d.o.2.2.2.2.2.2.1,by have:=d.o.2.2.2.2.2.2.2;omega,z.o.2.1,z.o.2.2.2.1,z.o.2.2.2.2⟩;clear G;go_roundw
      case rel=>exact⟨k+1,J,s1,t1,by go_num,by have:=O.o.2.2.1;omega,av.o⟩
      case measure=>have:=O.o.2.2.1;simp[intOf];omega
   ·by_cases h1:ok=1
    ·subst h1
     cases bI:qb J o.r.ah az with
     |true=>
      have Q:=U (zH d.o.1 (λ b e=>by have:=d.o.2.1.lt;have:=d.o.2.2.1.lt;have:=d.o.2.2.2.2.1.lt;omega) (by have:=d.o.2.2.2.2.2.2.1;omega) d.o.2.2.2.2.2.1 (by have:=O.o.2.1;omega) (by have:=d.o.2.2.2.2.2.2.2;have:=O.o.2.2.1;have:=H.o.2.1;omega) bI);unfold sd gD.L kY.L at Q
      go_upto_region 13 with fail
      rename_i ag R;have ai:=U R;clear R;refine p_ ?_
      go_region_with (go_at_call 36;refine Q.o.mono ?_;rintro e K ⟨t2,u,s2,rfl,T,aA,k2,_,_⟩;have q:bF (_/\∃(M:Nat)(s2:j6),kG (λ b=>b=w.heap.size\/b=F\/b=iK) K M s2 t2/\M<=6/\s2.gs.length<=k+1):=U (z_ T ⟨J,s2,aA,d.o.2.2.2.2.2.2.1,by rw[k2];have:=d.o.2.2.2.2.2.2.2;omega⟩);clear T aA k2;have f:=(d.o.2.2.2.2.1.below q.o.1).free;have aV:=f 0;have aW:=f 1;have aX:=f 2;have aY:=f 3;have aZ:=f 4;have a6:=f 5;have a7:=f 6;have a8:=f 7;clear f;have j:=(d.o.2.2.2.2.1.below q.o.1).cell;have aj:=j 0;have ak:=j 1;have al:=j 2;have an:=j 3;have ao:=j 4;have aq:=j 5;have ar:=j 6;have au:=j 7;simp only[y_,x_] at aj ak al an ao aq ar au;clear j)
      all_goals
       show ag _ _;apply ai.o;have a':=q.o.1.size;have C:=aF.eight (W:=K) (B:=iK) (.int .i64 t2.n) (.slice t2.g.A t2.g.n t2.g.c) (.slice t2.l.A t2.l.n t2.l.c) (.slice t2.a.A t2.a.n t2.a.c) (.slice t2.o.A t2.o.n t2.o.c) (.int .i64 t2.b) (.slice t2.h.A t2.h.n t2.h.c) (.slice t2.p.A t2.p.n t2.p.c);have V:=C.blk (d.o.2.1.below q.o.1) aR;have I:=aM.rL (d.o.2.2.2.2.1.below q.o.1) (.int .i64 t2.n) (.slice t2.g.A t2.g.n t2.g.c) (.slice t2.l.A t2.l.n t2.l.c) (.slice t2.a.A t2.a.n t2.a.c) (.slice t2.o.A t2.o.n t2.o.c) (.int .i64 t2.b) (.slice t2.h.A t2.h.n t2.h.c) (.slice t2.p.A t2.p.n t2.p.c);have X:=C.blk (d.o.2.2.1.below q.o.1) (k_ c2);have Y:=(d.o.2.2.2.1.trans (q.o.1.mono d.o.2.2.2.1.size))
       have Z:=uM Y C (j_ c2);have z:=U (z_ C (z_ V (z_ I (z_ X Z))));clear C V I X Z Y;generalize ((((((((K.setCell ⟨iK,0,none⟩ (.int .i64 t2.n)).setCell ⟨iK,1,none⟩ (.slice t2.g.A t2.g.n t2.g.c)).setCell ⟨iK,2,none⟩ (.slice t2.l.A t2.l.n t2.l.c)).setCell ⟨iK,3,none⟩ (.slice t2.a.A t2.a.n t2.a.c)).setCell ⟨iK,4,none⟩ (.slice t2.o.A t2.o.n t2.o.c)).setCell ⟨iK,5,none⟩ (.int .i64 t2.b)).setCell ⟨iK,6,none⟩ (.slice t2.h.A t2.h.n t2.h.c)).setCell ⟨iK,7,none⟩ (.slice t2.p.A t2.p.n t2.p.c))=aB at*;have E:=z.o.2.2.1.cell;have v0:=E 0;have v1:=E 1;have v2:=E 2;have v3:=E 3;have v4:=E 4;have v5:=E 5;have v6:=E 6;have ba:=E 7;simp only[y_,x_] at v0 v1 v2 v3 v4 v5 v6 ba;clear E;have v:=z.o.2.1.cell;have ae:=v 0;have af:=v 1;have aw:=v 2;have aJ:=v 3;have aK:=v 4;have aL:=v 5;have aN:=v 6;have aO:=v 7;simp only[y_,x_] at ae af aw aJ aK aL aN aO;clear v;have y:=z.o.2.1.free;have f0:=y 0;have f1:=y 1;have f2:=y 2;have f3:=y 3;have f4:=y 4;have f5:=y 5;have f6:=y 6;have f7:=y 7;clear y;have aS:t_.wrap ((k:Int)+1)=(k:Int)+1:=by rw[u_];omega
       go_wp2_with fail
      all_goals
       have ab:=aF.eight (W:=aB) (B:=F) (.int .i64 t2.n) (.slice t2.g.A t2.g.n t2.g.c) (.slice t2.l.A t2.l.n t2.l.c) (.slice t2.a.A t2.a.n t2.a.c) (.slice t2.o.A t2.o.n t2.o.c) (.int .i64 t2.b) (.slice t2.h.A t2.h.n t2.h.c) (.slice t2.p.A t2.p.n t2.p.c);have aC:=aM.rL z.o.2.1 (.int .i64 t2.n) (.slice t2.g.A t2.g.n t2.g.c) (.slice t2.l.A t2.l.n t2.l.c) (.slice t2.a.A t2.a.n t2.a.c) (.slice t2.o.A t2.o.n t2.o.c) (.int .i64 t2.b) (.slice t2.h.A t2.h.n t2.h.c) (.slice t2.p.A t2.p.n t2.p.c);have aD:=ab.blk z.o.2.2.2.1 (k_ aP.o);have aE:=uM z.o.2.2.2.2 ab (j_ aP.o);obtain⟨M,s2,aG,bb,g2⟩:=q.o.2;have G:kG (λ b=>b=w.heap.size\/b=F) _ M s2 t2:=((aG.set (B:=iK) (.inr (.inr rfl)) z.o.1).set (B:=F) (.inr (.inl rfl)) ab).more (v_ _ _) (λ b _ h=>h.elim .inl λ e=>.inr (.inl e));have av:bF (xJ w _ F (k+1) M s2 t2):=U ⟨G,bb,g2,aC,aD,aE⟩;clear ab aC aD aE aG G;go_roundw
       case rel=>exact⟨k+1,M,s2,t2,by go_num,by have:=O.o.2.2.1;omega,av.o⟩
       case measure=>have:=O.o.2.2.1;simp[intOf];omega
     |false=>
      have Q:bF (Calls w_ 36 #[.agg t1.L.toArray,.slice o.r.A o.r.n o.r.c,.int .i64 az] aQ.drew λ e w'=>∃(t2:gD)(u:kY),e=.returned (sd t2 u 1)/\Below aQ.drew.heap.size aQ.drew w'):=U ((A1 d.o.1 (by have:=d.o.2.2.2.2.2.2.1;omega) d.o.2.2.2.2.2.1 (by have:=O.o.2.1;omega) bI).mono λ e W P=>⟨qa,xF,P.1,P.2⟩);unfold sd gD.L kY.L at Q
      go_upto_region 13 with fail
      rename_i ag R;have ai:=U R;clear R;refine p_ ?_
      go_region_with (go_at_call 36;refine Q.o.mono ?_;rintro e K ⟨t2,u,rfl,T⟩;have q:=U T;clear T;have f:=(d.o.2.2.2.2.1.below q.o).free;have aV:=f 0;have aW:=f 1;have aX:=f 2;have aY:=f 3;have aZ:=f 4;have a6:=f 5;have a7:=f 6;have a8:=f 7;clear f;have j:=(d.o.2.2.2.2.1.below q.o).cell;have aj:=j 0;have ak:=j 1;have al:=j 2;have an:=j 3;have ao:=j 4;have aq:=j 5;have ar:=j 6;have au:=j 7;simp only[y_,x_] at aj ak al an ao aq ar au;clear j)
      all_goals
       show ag _ _;apply ai.o;have a':=q.o.size;have C:=aF.eight (W:=K) (B:=iK) (.int .i64 t2.n) (.slice t2.g.A t2.g.n t2.g.c) (.slice t2.l.A t2.l.n t2.l.c) (.slice t2.a.A t2.a.n t2.a.c) (.slice t2.o.A t2.o.n t2.o.c) (.int .i64 t2.b) (.slice t2.h.A t2.h.n t2.h.c) (.slice t2.p.A t2.p.n t2.p.c);have V:=C.blk (d.o.2.1.below q.o) aR;have I:=aM.rL (d.o.2.2.2.2.1.below q.o) (.int .i64 t2.n) (.slice t2.g.A t2.g.n t2.g.c) (.slice t2.l.A t2.l.n t2.l.c) (.slice t2.a.A t2.a.n t2.a.c) (.slice t2.o.A t2.o.n t2.o.c) (.int .i64 t2.b) (.slice t2.h.A t2.h.n t2.h.c) (.slice t2.p.A t2.p.n t2.p.c);have X:=C.blk (d.o.2.2.1.below q.o) (k_ c2);have Y:=(d.o.2.2.2.1.trans (q.o.mono d.o.2.2.2.1.size))
       have Z:=uM Y C (j_ c2);have z:=U (z_ C (z_ V (z_ I (z_ X Z))));clear C V I X Z Y;generalize ((((((((K.setCell ⟨iK,0,none⟩ (.int .i64 t2.n)).setCell ⟨iK,1,none⟩ (.slice t2.g.A t2.g.n t2.g.c)).setCell ⟨iK,2,none⟩ (.slice t2.l.A t2.l.n t2.l.c)).setCell ⟨iK,3,none⟩ (.slice t2.a.A t2.a.n t2.a.c)).setCell ⟨iK,4,none⟩ (.slice t2.o.A t2.o.n t2.o.c)).setCell ⟨iK,5,none⟩ (.int .i64 t2.b)).setCell ⟨iK,6,none⟩ (.slice t2.h.A t2.h.n t2.h.c)).setCell ⟨iK,7,none⟩ (.slice t2.p.A t2.p.n t2.p.c))=aB at*;have aS:t_.wrap ((k:Int)+1)=(k:Int)+1:=by rw[u_];omega
       go_wp2_with fail
      all_goals
       have G:kG (λ b=>b=w.heap.size\/b=F) _ J s1 t1:=((d.o.1.below q.o).set (B:=iK) (.inr (.inr rfl)) z.o.1).more (v_ _ _) (λ b _ h=>h.elim .inl λ e=>.inr (.inl e));have av:bF (xJ w _ F (k+1) J s1 t1):=U ⟨G,d.o.2.2.2.2.2.2.1,by have:=d.o.2.2.2.2.2.2.2;omega,z.o.2.1,z.o.2.2.2.1,z.o.2.2.2.2⟩;clear G;go_roundw
       case rel=>exact⟨k+1,J,s1,t1,by go_num,by have:=O.o.2.2.1;omega,av.o⟩
       case measure=>have:=O.o.2.2.1;simp[intOf];omega
    ·by_cases b0:az<=6
     ·by_cases b1:(J:Int)<=az
      ·obtain⟨m,rfl⟩:∃m:Nat,az=m:=⟨az.toNat,by omega⟩
       have Q:=U (EG d.o.1 (λ b e=>by have:=d.o.2.1.lt;have:=d.o.2.2.1.lt;have:=d.o.2.2.2.2.1.lt;omega) (by have:=d.o.2.2.2.2.2.2.1;omega) (m:=m) (by omega) (by omega));unfold pV gD.L at Q
       go_upto_region 9 with fail
       rename_i ag R bT z2;have ai:=U R;clear R;refine p_ ?_
       go_region_with (go_at_call 44;refine Q.o.mono ?_;rintro e K ⟨t2,s2,rfl,T,aA,k2,_,_⟩;have q:bF (_/\∃(M:Nat)(s2:j6),kG (λ b=>b=w.heap.size\/b=F\/b=iK) K M s2 t2/\M<=6/\s2.gs.length<=k+1):=U (z_ T ⟨m,s2,aA,by omega,by rw[k2];have:=d.o.2.2.2.2.2.2.2;omega⟩);clear T aA k2;have f:=(d.o.2.2.2.2.1.below q.o.1).free;have aV:=f 0;have aW:=f 1;have aX:=f 2;have aY:=f 3;have aZ:=f 4;have a6:=f 5;have a7:=f 6;have a8:=f 7;clear f;have j:=(d.o.2.2.2.2.1.below q.o.1).cell;have aj:=j 0;have ak:=j 1;have al:=j 2;have an:=j 3;have ao:=j 4;have aq:=j 5;have ar:=j 6;have au:=j 7;simp only[y_,x_] at aj ak al an ao aq ar au;clear j)
       all_goals
        show ag _ _;apply ai.o;have a':=q.o.1.size;have C:=aF.eight (W:=K) (B:=iK) (.int .i64 t2.n) (.slice t2.g.A t2.g.n t2.g.c) (.slice t2.l.A t2.l.n t2.l.c) (.slice t2.a.A t2.a.n t2.a.c) (.slice t2.o.A t2.o.n t2.o.c) (.int .i64 t2.b) (.slice t2.h.A t2.h.n t2.h.c) (.slice t2.p.A t2.p.n t2.p.c);have V:=C.blk (d.o.2.1.below q.o.1) aR;have I:=aM.rL (d.o.2.2.2.2.1.below q.o.1) (.int .i64 t2.n) (.slice t2.g.A t2.g.n t2.g.c) (.slice t2.l.A t2.l.n t2.l.c) (.slice t2.a.A t2.a.n t2.a.c) (.slice t2.o.A t2.o.n t2.o.c) (.int .i64 t2.b) (.slice t2.h.A t2.h.n t2.h.c) (.slice t2.p.A t2.p.n t2.p.c);have X:=C.blk (d.o.2.2.1.below q.o.1) (k_ c2);have Y:=(d.o.2.2.2.1.trans (q.o.1.mono d.o.2.2.2.1.size))
        have Z:=uM Y C (j_ c2);have z:=U (z_ C (z_ V (z_ I (z_ X Z))));clear C V I X Z Y;generalize ((((((((K.setCell ⟨iK,0,none⟩ (.int .i64 t2.n)).setCell ⟨iK,1,none⟩ (.slice t2.g.A t2.g.n t2.g.c)).setCell ⟨iK,2,none⟩ (.slice t2.l.A t2.l.n t2.l.c)).setCell ⟨iK,3,none⟩ (.slice t2.a.A t2.a.n t2.a.c)).setCell ⟨iK,4,none⟩ (.slice t2.o.A t2.o.n t2.o.c)).setCell ⟨iK,5,none⟩ (.int .i64 t2.b)).setCell ⟨iK,6,none⟩ (.slice t2.h.A t2.h.n t2.h.c)).setCell ⟨iK,7,none⟩ (.slice t2.p.A t2.p.n t2.p.c))=aB at*;have E:=z.o.2.2.1.cell;have v0:=E 0;have v1:=E 1;have v2:=E 2;have v3:=E 3;have v4:=E 4;have v5:=E 5;have v6:=E 6;have ba:=E 7;simp only[y_,x_] at v0 v1 v2 v3 v4 v5 v6 ba;clear E;have v:=z.o.2.1.cell;have ae:=v 0;have af:=v 1;have aw:=v 2;have aJ:=v 3;have aK:=v 4;have aL:=v 5;have aN:=v 6;have aO:=v 7;simp only[y_,x_] at ae af aw aJ aK aL aN aO;clear v;have y:=z.o.2.1.free;have f0:=y 0;have f1:=y 1;have f2:=y 2;have f3:=y 3;have f4:=y 4;have f5:=y 5;have f6:=y 6;have f7:=y 7;clear y;have aS:t_.wrap ((k:Int)+1)=(k:Int)+1:=by rw[u_];omega
        go_wp2_with fail
       all_goals
        have ab:=aF.eight (W:=aB) (B:=F) (.int .i64 t2.n) (.slice t2.g.A t2.g.n t2.g.c) (.slice t2.l.A t2.l.n t2.l.c) (.slice t2.a.A t2.a.n t2.a.c) (.slice t2.o.A t2.o.n t2.o.c) (.int .i64 t2.b) (.slice t2.h.A t2.h.n t2.h.c) (.slice t2.p.A t2.p.n t2.p.c);have aC:=aM.rL z.o.2.1 (.int .i64 t2.n) (.slice t2.g.A t2.g.n t2.g.c) (.slice t2.l.A t2.l.n t2.l.c) (.slice t2.a.A t2.a.n t2.a.c) (.slice t2.o.A t2.o.n t2.o.c) (.int .i64 t2.b) (.slice t2.h.A t2.h.n t2.h.c) (.slice t2.p.A t2.p.n t2.p.c);have aD:=ab.blk z.o.2.2.2.1 (k_ aP.o);have aE:=uM z.o.2.2.2.2 ab (j_ aP.o);obtain⟨M,s2,aG,bb,g2⟩:=q.o.2;have G:kG (λ b=>b=w.heap.size\/b=F) _ M s2 t2:=((aG.set (B:=iK) (.inr (.inr rfl)) z.o.1).set (B:=F) (.inr (.inl rfl)) ab).more (v_ _ _) (λ b _ h=>h.elim .inl λ e=>.inr (.inl e));have av:bF (xJ w _ F (k+1) M s2 t2):=U ⟨G,bb,g2,aC,aD,aE⟩;clear ab aC aD aE aG G;go_roundw
        case rel=>exact⟨k+1,M,s2,t2,by go_num,by have:=O.o.2.2.1;omega,av.o⟩
        case measure=>have:=O.o.2.2.1;simp[intOf];omega
      ·have Q:bF (Calls w_ 44 #[.agg t1.L.toArray,.int .i64 az] aQ.drew λ e w'=>∃(t2:gD),e=.returned (pV t2 1)/\Below aQ.drew.heap.size aQ.drew w'):=U ((Pm d.o.1 (by have:=d.o.2.2.2.2.2.2.1;omega) (.inl (by omega))).mono λ e W P=>⟨qa,P.1,P.2⟩);unfold pV gD.L at Q
       go_upto_region 9 with fail
       rename_i ag R bT z2;have ai:=U R;clear R;refine p_ ?_
       go_region_with (go_at_call 44;refine Q.o.mono ?_;rintro e K ⟨t2,rfl,T⟩;have q:=U T;clear T;have f:=(d.o.2.2.2.2.1.below q.o).free;have aV:=f 0;have aW:=f 1;have aX:=f 2;have aY:=f 3;have aZ:=f 4;have a6:=f 5;have a7:=f 6;have a8:=f 7;clear f;have j:=(d.o.2.2.2.2.1.below q.o).cell;have aj:=j 0;have ak:=j 1;have al:=j 2;have an:=j 3;have ao:=j 4;have aq:=j 5;have ar:=j 6;have au:=j 7;simp only[y_,x_] at aj ak al an ao aq ar au;clear j)
       all_goals
        show ag _ _;apply ai.o;have a':=q.o.size;have C:=aF.eight (W:=K) (B:=iK) (.int .i64 t2.n) (.slice t2.g.A t2.g.n t2.g.c) (.slice t2.l.A t2.l.n t2.l.c) (.slice t2.a.A t2.a.n t2.a.c) (.slice t2.o.A t2.o.n t2.o.c) (.int .i64 t2.b) (.slice t2.h.A t2.h.n t2.h.c) (.slice t2.p.A t2.p.n t2.p.c);have V:=C.blk (d.o.2.1.below q.o) aR;have I:=aM.rL (d.o.2.2.2.2.1.below q.o) (.int .i64 t2.n) (.slice t2.g.A t2.g.n t2.g.c) (.slice t2.l.A t2.l.n t2.l.c) (.slice t2.a.A t2.a.n t2.a.c) (.slice t2.o.A t2.o.n t2.o.c) (.int .i64 t2.b) (.slice t2.h.A t2.h.n t2.h.c) (.slice t2.p.A t2.p.n t2.p.c);have X:=C.blk (d.o.2.2.1.below q.o) (k_ c2);have Y:=(d.o.2.2.2.1.trans (q.o.mono d.o.2.2.2.1.size))
        have Z:=uM Y C (j_ c2);have z:=U (z_ C (z_ V (z_ I (z_ X Z))));clear C V I X Z Y;generalize ((((((((K.setCell ⟨iK,0,none⟩ (.int .i64 t2.n)).setCell ⟨iK,1,none⟩ (.slice t2.g.A t2.g.n t2.g.c)).setCell ⟨iK,2,none⟩ (.slice t2.l.A t2.l.n t2.l.c)).setCell ⟨iK,3,none⟩ (.slice t2.a.A t2.a.n t2.a.c)).setCell ⟨iK,4,none⟩ (.slice t2.o.A t2.o.n t2.o.c)).setCell ⟨iK,5,none⟩ (.int .i64 t2.b)).setCell ⟨iK,6,none⟩ (.slice t2.h.A t2.h.n t2.h.c)).setCell ⟨iK,7,none⟩ (.slice t2.p.A t2.p.n t2.p.c))=aB at*;have aS:t_.wrap ((k:Int)+1)=(k:Int)+1:=by rw[u_];omega
        go_wp2_with fail
       all_goals
        have G:kG (λ b=>b=w.heap.size\/b=F) _ J s1 t1:=((d.o.1.below q.o).set (B:=iK) (.inr (.inr rfl)) z.o.1).more (v_ _ _) (λ b _ h=>h.elim .inl λ e=>.inr (.inl e));have av:bF (xJ w _ F (k+1) J s1 t1):=U ⟨G,d.o.2.2.2.2.2.2.1,by have:=d.o.2.2.2.2.2.2.2;omega,z.o.2.1,z.o.2.2.2.1,z.o.2.2.2.2⟩;clear G;go_roundw
        case rel=>exact⟨k+1,J,s1,t1,by go_num,by have:=O.o.2.2.1;omega,av.o⟩
        case measure=>have:=O.o.2.2.1;simp[intOf];omega
     ·have aS:t_.wrap ((k:Int)+1)=(k:Int)+1:=by rw[u_];omega
      go_wp2_with fail
      have G:kG (λ b=>b=w.heap.size\/b=F) _ J s1 t1:=aa.o.1.more (v_ _ _) (λ b _ h=>h.elim .inl λ e=>.inr (.inl e));go_roundw
      case rel=>exact⟨k+1,J,s1,t1,by go_num,by have:=O.o.2.2.1;omega,G,aa.o.2.2.2.2.2.2.1,by have:=aa.o.2.2.2.2.2.2.2;omega,aa.o.2.1,aa.o.2.2.1,aa.o.2.2.2.1⟩
      case measure=>have:=O.o.2.2.1;simp[intOf];omega
  ·have bO:¬(k:Int)<(nl:Int):=by omega
   have v:=D.o.lC.cell;have ae:=v 0;have af:=v 1;have aw:=v 2;have aJ:=v 3;have aK:=v 4;have aL:=v 5;have aN:=v 6;have aO:=v 7;simp only[mU,y_,x_] at ae af aw aJ aK aL aN aO;clear v;have y:=D.o.lC.free;have f0:=y 0;have f1:=y 1;have f2:=y 2;have f3:=y 3;have f4:=y 4;have f5:=y 5;have f6:=y 6;have f7:=y 7;clear y;have bU:=U hk;clear bp hk
   go_wp2_with fail
   have bV:=aM.rL (show aM wr w.heap.size 47 [.int .i64 0,.slice none 0 0,.slice none 0 0,.slice none 0 0,.slice none 0 0,.int .i64 0,.slice none 0 0,.slice none 0 0] from D.o.lC) (.int .i64 t1.n) (.slice t1.g.A t1.g.n t1.g.c) (.slice t1.l.A t1.l.n t1.l.c) (.slice t1.a.A t1.a.n t1.a.c) (.slice t1.o.A t1.o.n t1.o.c) (.int .i64 t1.b) (.slice t1.h.A t1.h.n t1.h.c) (.slice t1.p.A t1.p.n t1.p.c);have f8:=aF.eight (W:=wr) (B:=w.heap.size) (.int .i64 t1.n) (.slice t1.g.A t1.g.n t1.g.c) (.slice t1.l.A t1.l.n t1.l.c) (.slice t1.a.A t1.a.n t1.a.c) (.slice t1.o.A t1.o.n t1.o.c) (.int .i64 t1.b) (.slice t1.h.A t1.h.n t1.h.c) (.slice t1.p.A t1.p.n t1.p.c);exact Qp (t:=t1) rfl rfl rfl bV ⟨J,s1,t1,rfl,uM D.o.kZ f8 (q_ _),D.o.n6,(D.o.S.set (.inl rfl) f8).more (v_ _ _) (λ b _ h=>h.elim),by have:=D.o.g;have:=H.o.2.1;have:=bU.o;omega⟩
end
section
open Go.ChangeShapes Go.WideShapes Go.ChangeAt Go.RowKit Go.Joins Go.Deep
theorem Qq:w_.cellsOf 131=3:=by kernel_rfl
theorem Qr:w_.bytesOf 131=40:=by kernel_rfl
section
variable {H:Type}{enc:TypeId×Value->H}{W:World}{base:Nat}{sp:Nat->Bool}{held:Bool}
theorem I4{cs:List Value}{k:Nat}(h:k<cs.length):(cs.drop k).take 1=[cs[k]]:=by
 rw[List.drop_eq_getElem_cons h];rfl
theorem I5{W':World}{v:Value}{d:DataW H}{p:List MemPlace}(h:DataW.Trod enc w_ W 0 (λ _=>true) true 66 v d p)(b:Below W.heap.size W W')(c:∀x∈p,x.block<W.heap.size){AO:Nat->Bool}(hs:∀x∈p,AO x.block=true):
  DataW.Trod enc w_ W' 0 AO true 66 v d p:=
 WideElems.Trod_stays laidOut (by kernel_rfl) (of_decide_eq_true (by kernel_rfl)) h (λ x e=>b.same (c x e)) hs
instance:Inhabited s6:=⟨⟨0,0,⟨none,0,0,[]⟩⟩⟩
theorem I6{r:Reach}{bf:Nat}{v:Value}{d:DataW H}{p:List MemPlace}(L:Value.okWide w_ W r bf 66 v)(h:DataW.Trod enc w_ W base sp held 66 v d p)(y:Fits 66 d):
  ∃A n c es,v=.slice A n c/\vM W A n c es:=by
 obtain⟨A,n,c,rfl⟩:=okWide_slice a_ L;obtain⟨fuel,h⟩:=h;rcases Deep.open_slice a_ h with⟨f,_⟩|⟨a,len,cap,m,q,D,nc,f,_,hl,M,hm,z,N⟩
 ·simp only[Value.cells,Z0,and_true,i_.injEq] at f;obtain⟨rfl,rfl,rfl⟩:A=none/\n=0/\c=0:=by simpa using f
  exact⟨none,0,0,[],rfl,⟨rfl,q_ _,by omega,m_ _,λ h=>absurd h (by omega),λ e he=>by cases he⟩⟩
 ·obtain⟨rfl,rfl,rfl⟩:A=some a/\n=len/\c=cap:=by simpa[Value.cells] using f
  simp only[Prod.mk.injEq] at z;obtain⟨rfl,rfl⟩:=z;have Z:n<=m:=by rw[hm];split<;>omega
  have t:=y.len a_;rw[Qr] at t;rw[Zk,List.length_range] at t;have each:∀i,i<n->∃e:s6,W.cell? (a.add (i*3))=some (.int .i64 e.k)/\W.cell? (a.add (i*3+1))=some (.int .i64 e.m)/\W.cell? (a.add (i*3+2))=some (kF e.r)/\aN W e.r.A e.r.n e.r.c e.r.ah:=by
   intro i O;obtain⟨aa,h1,g⟩:=N i (by omega);have B:Fits 131 (D i):=y.elem a_ (r_.2 ⟨i,List.mem_range.2 O,rfl⟩);rw[Qq] at h1;obtain⟨_,ab,u⟩:=World.cells?_some h1;obtain⟨ad,ae,P,k,C,_,t0,t1,t2⟩:=trod_struct3 Tryz.underlying131 g;simp only[Prod.mk.injEq] at C;rw[C.1] at B;have Q:Fits 25 P.1:=λ n w=>B n (by
    simp only[DataW.weights,Tryz.underlying131];simp[DataW.weightsEach,w])
   dsimp only at t0 t1 t2;rw[Ik,I4 (by omega)] at t0 t1;rw[OH,I4 (by omega)] at t2;obtain⟨R,E,_,_⟩:=DataW.trod_int l_ t0;obtain⟨m1,l,_,_⟩:=DataW.trod_int l_ t1;obtain⟨A',S,c',ah,F,T,_⟩:=Iq t2 Q;simp only[Z0,and_true] at E l F;have a0:=u 0 (by omega);have a1:=u 1 (by omega);have a2:=u 2 (by omega);rw[d_ (by omega)] at a0 a1 a2;rw[E,Zj] at a0;rw[l,Zj] at a1;rw[F,Zj] at a2;exact⟨⟨R,m1,⟨A',S,c',ah⟩⟩,a0,a1,a2,T⟩
  obtain⟨es,U,hp⟩:=Io n each;have G:∀j (h:j<es.length),es.getD j default=es[j]:=λ j h=>by rw[List.getD_eq_getElem?_getD,d_ h];rfl
  refine⟨some a,n,c,es,rfl,⟨U,hl,t,M,λ w=>?_,λ e he=>?_⟩⟩
  ·have I:=(hp 0 w).1;obtain⟨b,off,spot⟩:=a;have V:spot=none:=by simpa[Addr.add] using World.cell?_spot I
   subst V;refine⟨b,off,rfl,Ip (o:=off+0*3) (by rw[<-Zn];exact I),λ k hk=>?_⟩;obtain⟨j,i,X,rfl⟩:∃j i,i<3/\k=j*3+i:=⟨k/3,k%3,by omega,by omega⟩
   have J:j<es.length:=by omega
   obtain⟨h1,g,K,s⟩:=hp j (by omega);rw[G _ J] at h1 g K s;rw[A2 es j J i X,<-Zn];rcases(show i=0\/i=1\/i=2 by omega) with rfl|rfl|rfl
   ·exact h1
   ·exact g
   ·exact K
  ·obtain⟨j,Y,l⟩:=List.getElem_of_mem he;obtain⟨_,_,_,s⟩:=hp j (by omega);rw[G _ Y,l] at s;exact s
end
end
end Go.Proofs.YtogdlkfacflmaaaGreat
