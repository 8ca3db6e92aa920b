/- Parts of the walk of the solver and its core; no condition. -/
import Derived.Test.YtogdlkfacflmaaaGreatZZ11
import Derived.Test.YtogdlkfacflmaaaGreatZZ10
import Derived.Test.YtogdlkfacflmaaaGreatZZ5
import Derived.Test.YtogdlkfacflmaaaGreatZZ3
import Derived.Test.YtogdlkfacflmaaaGreatZZ6
import Derived.Deep.LoopGhost
import Derived.Test.YtogdlkfacflmaaaGreatZZ1
namespace Go.Proofs.YtogdlkfacflmaaaGreat
set_option linter.unusedVariables false
set_option linter.unusedSimpArgs false
set_option maxRecDepth 1000000
set_option maxHeartbeats 8000000
open _root_.And renaming intro→z_
open _root_.Go.World renaming cell?_of_block→y_,putObj_heap_other→h_
open _root_.Go.Proofs.Tryz renaming prog→x_
open _root_.List renaming take_succ_cons→w_,drop_succ_cons→v_,take_zero→s_,drop_zero→r_,length_filter_le→p_,length_append→n_,getElem?_cons_zero→m_,getElem?_cons_succ→l_,length_pos_of_mem→f_,length_singleton→e_
open _root_.Go.RowKit.Below renaming refl→u_
open _root_.Go renaming wp_region_still_tail→t_,wpStill_nil→o_,wp_loop_ghost_k→g_
open _root_.Go.Handed renaming intro→q_
open _root_.Nat renaming le_refl→k_,lt_of_lt_of_le→j_
open _root_.Go.IntKind renaming wrap_i64→i_,i64→c_
open _root_.Go.Value renaming int→d_
open _root_.Go.KeepsOthers renaming drew→b_
variable{w W w0:World}{n G g base fM jD bK gN bg bC aB ja k4:Nat}{F:List (List Int)}{p left:Int}{a:Act}{aZ gX K:Nat->Prop}{ah ox:List Int}{aI s:aq}{gM:Option Addr}{cb:Nat->Nat}
section
open Go.RowKit Go.Shelf
theorem MN(A:Option Addr)(n c:Nat)(a:List Int)(x:Int)(w:World)(h:aL w A n c a):
  Calls x_ 169 #[.slice A n c,.int .i64 x] w λ e w'=>(∃r:Int,e=.returned (.int .i64 r)/\decide (0<=r)=hasB a x)/\w=w':=by
 have p:=h.small;have H:=U h;clear h;go_enter Tryz.func169,Tryz.ntmps169
 go_wp2
 go_loop [8] (λ i=>∃k:Nat,k<=n/\i=.int .i64 k/\hasB (a.take k) x=false) (λ i=>n-(intOf i).toNat)
 case atStart=>exact⟨0,Nat.zero_le _,rfl,rfl⟩
 case round=>
  obtain⟨k,hk,rfl,g⟩:=hrel;have j:=U g;clear g
  by_cases f:k<n
  ·obtain⟨b,off,rfl,q,l⟩:=H.o.cells (by omega);have s:=l k f;clear l
   by_cases d:x=je a k
   ·have m:(x==je a k)=true:=by simpa using d
    have E:bJ (hasB a x=true):=U (IP (k:=k) (by rw[H.o.len];exact f) (by simpa using d.symm));clear d;go_wp2;go_ret;exact⟨⟨k,rfl,by rw[E.o];simp⟩,rfl⟩
   ·have m:(x==je a k)=false:=by simpa using d
    have E:bJ (hasB (a.take (k+1)) x=false):=U (IQ (by rw[H.o.len];exact f) (by simpa using Ne.symm d) j.o);clear d;go_wp2
    go_round
    case rel=>exact⟨k+1,by omega,by go_num,E.o⟩
    case measure=>simp[intOf];omega
  ·go_wp2;go_ret;exact⟨⟨-1,rfl,by rw[IS H.o.len f j.o];rfl⟩,rfl⟩
theorem G9(r:Bool)(A:Option Addr)(n c:Nat)(b:List Int)(x:Int)(w:World)(h:aL w A n c b)(a:hasB b x=r):
  Calls x_ 124 #[.slice A n c,.int .i64 x] w λ e w'=>e=.returned (.bool r)/\w=w':=by
 have d:=MN A n c b x w h;rw[a] at d;clear h a;go_enter Tryz.func124,Tryz.ntmps124
 go_wp2_with (go_at_call 169;refine d.mono ?_;rintro e w' ⟨⟨r,rfl,a⟩,rfl⟩)
 all_goals
  go_ret;exact⟨mO (by rw[<-a]),rfl⟩
open Go.RowKit Go.Shelf Go.Sort Go.Lib
theorem DO(enc:Int->Value)(w:World)(g m:Nat)(a:Array Int)(os:Array Obj){b:Nat}(c:b<w.heap.size)(d:b≠g):(sortWorld enc w g 0 m a os).heap[b]? =w.heap[b]? :=by
 unfold sortWorld;rw[Sort.heap_grow_old _ _ (by rw[Sort.size_putRow];exact c)];unfold Sort.putRow Sort.mapBlock;rw[Array.getElem?_modify,if_neg (λ e=>d e.symm)];rfl
theorem aL.yY{w':World}{A:Option Addr}{c:Nat}{ai:List Int}(h:aL w A n c ai)(hs:w.heap.size<=w'.heap.size)(d:∀b,A.map (·.block)=some b->w'.heap[b]? =w.heap[b]?):aL w' A n c ai:=
 ⟨h.len,h.cap,h.mu,h.nT,λ f=>by
  obtain⟨b,off,e,h1,g⟩:=h.cells f;refine⟨b,off,e,j_ h1 hs,λ j i=>?_⟩;rw[y_ (a:=⟨b,off+j,none⟩) (d b (by rw[e];rfl))];exact g j i⟩
theorem MO:∀args w,(callFunc 154 args).run x_ w=.ok (.enter 154 args) w:=enters_of Tryz.func154 (by kernel_rfl) rfl
theorem He(b:Nat)(A:Option Addr)(n c:Nat)(core:List Int)(x:Int)(w:World)(f:w.cell? ⟨b,0,none⟩=some (.slice A n c))(h:aL w A n c core):
  Calls x_ 154 #[.int .i64 x,.pointer (some ⟨b,0,none⟩)] w λ e w'=>e=.returned (.bool (!(hasB core x)))/\w=w':=by
 obtain⟨r,a⟩:∃r,hasB core x=r:=⟨_,rfl⟩
 have d:=U (G9 r A n c core x w h a);rw[a];clear h a;go_enter Tryz.func154,Tryz.ntmps154
 go_wp2_with (go_at_call 124;refine d.o.mono ?_;rintro e w1 ⟨rfl,rfl⟩;dsimp only)
 go_ret;exact⟨rfl,rfl⟩
theorem MP(w:World)(base g n cap:Nat)(c:List Int)(h:Own w base g n cap c)(t:base<=g){pq:Nat}{A:Option Addr}{bn aV:Nat}{core:List Int}(i:w.cell? ⟨pq,0,none⟩=some (.slice A bn aV))(j:pq<w.heap.size)(u:pq≠g)(l:aL w A bn aV core)(o:∀b,A.map (·.block)=some b->b<w.heap.size/\b≠g):
  Calls x_ 85 #[.slice (some ⟨g,0,none⟩) n cap,.func (.func 154) #[] #[.pointer (some ⟨pq,0,none⟩)]] w λ e w'=>
   ∃m,e=.returned (.slice (some ⟨g,0,none⟩) m cap)/\Own w' base g m cap (c.filter λ x=>hasB core x)/\Below base w w':=by
 have h':w.ownsRow base 3 1 (.slice (some ⟨g,0,none⟩) n cap) n (c.map oL):=h;obtain⟨G,H,he,h1,I,v,y,f,z⟩:=holds_of_ownsRow h' (by intro e;cases e)
 cases he
 have B:n<=9223372036854775807:=by unfold maxLen at y;omega
 have C:PredAt x_ 154 #[.pointer (some ⟨pq,0,none⟩)] oL (λ x=> !(hasB core x)) w:=by
  intro W x r;unfold FnGives;refine(He pq A bn aV core x W ((r.cell (p:=⟨pq,0,none⟩) j).trans i) (l.below r)).mono λ _ _ ⟨he,hw⟩=>⟨he,0,by rw[<-hw];rfl⟩
 have D:PredOver x_ 154 #[.pointer (some ⟨pq,0,none⟩)] oL (λ x=> !(hasB core x)) g 0 c.toArray.size w:=by
  intro k os d x _;unfold FnGives;have E:w.heap.size<=(sortWorld oL w g 0 k d os).heap.size:=by
   show w.heap.size<=((Sort.putRow oL (Sort.ahead w k) g 0 d).heap++os).size;rw[Array.size_append,Sort.size_putRow];show w.heap.size<=w.heap.size+_;omega
  refine(He pq A bn aV core x _ ((y_ (a:=⟨pq,0,none⟩) (DO oL w g k d os j u)).trans i) (l.yY E (λ b e=>DO oL w g k d os (o b e).1 (o b e).2))).mono λ _ _ ⟨he,hw⟩=>⟨he,0,by rw[<-hw];rfl⟩
 have s:=Tryz.slices_DeleteFunc oL yW (λ x=> !(hasB core x)) 154 #[.pointer (some ⟨pq,0,none⟩)] MO 0 Tryz.zeroValue3 g 0 cap c.toArray w C D z (by simpa[f] using B) (by simpa[f] using v);have hs:c.toArray.size=n:=by simp[f]
 rw[hs] at s;refine s.mono ?_;rintro e w' ⟨rfl,q,rfl⟩;have F:c.toArray.toList.filter (λ x=> !(!(hasB core x)))=c.filter λ x=>hasB core x:=by
  show c.filter _=_
  congr 1
  funext x;simp
 rw[F];have hle:=p_ (λ x=>hasB core x) c;refine⟨_,rfl,?_,below_putRow (u_ _ _) t⟩;have:=ownsRow_putRow (q:=q) (k:=(c.filter λ x=>hasB core x).length) (ys:=(c.filter λ x=>hasB core x)++List.replicate (n-(c.filter λ x=>hasB core x).length) 0) h' (by simp;omega) (by omega);rw[List.take_left' rfl] at this;exact this
end
section
open Go.RowKit Go.Shelf
attribute [local go_sem] Oper.semAt_some
theorem DP(x:Int)(a:0<=x)(h1:x<=1000000):(Lit.int .i64 x).wf=true:=by
 simp[Lit.wf,IntKind.min,IntKind.max,IntKind.bits,IntKind.signed];omega
structure sC(F:List (List Int))(w W:World)(G bx:Nat)(bf:Core)(p:Int)(aK j m:Nat)(S:List Int)(A:Option Addr)(n c:Nat)(out:List Int)(ds:List Nat):Prop where
 s:pQ w W G w.heap.size bx (w.heap.size+1+1) m S A n c out ds
 ci:qB F bf p j (hasB S) out
 Ag:j<=aK
 Ah:m+200000*j<=1+200000*aK
 nl:n+j<=aK+1
 wW:p∈out
inductive wX(F:List (List Int))(w:World)(G bx:Nat)(bf:Core)(p:Int)(aK:Nat):Nat->Act->World->Prop
 |mk {j m n c:Nat} {A:Option Addr} {S out:List Int} {ds:List Nat} {bl u8 lF gV gH gn iy gI gT u16 gp gq gr gG gu gv gw gx gy gz gA gB fO fP fQ u32 fR fS fT fU fV fW fZ ga gb gd gh gC gD ij hU ia bP bQ bR bS bT bU bV bW bX bY bZ b5 b6 b7 b8 u64 b9 cc cg ck cm cn cp cr ct cu cv cw cz cA cB cC cD cE cF cG cH:Value} {W:World} (h:sC F w W G bx bf p aK j m S A n c out ds):wX F w G bx bf p aK j {tmps:= #[.pointer (some ⟨G,0,none⟩),.int .i64 p,.pointer (some ⟨w.heap.size,0,none⟩),bl,.slice none 0 0,.slice A n c,.pointer (some ⟨bx,0,none⟩),.int .i64 ((j:Int)-1),u8,lF,gV,gH,gn,iy,gI,gT,u16,gp,gq,gr,gG,gu,gv,gw,gx,gy,gz,gA,gB,fO,fP,fQ,u32,fR,fS,fT,fU,fV,fW,fZ,ga,gb,gd,gh,gC,gD,ij,hU,ia,bP,bQ,bR,bS,bT,bU,bV,bW,bX,bY,bZ,b5,b6,b7,b8,u64,b9,cc,cg,ck,cm,cn,cp,cr,ct,cu,cv,cw,cz,cA,cB,cC,cD,cE,cF,cG,cH],defers:=ds.map oB} W
theorem wX.elim{bx:Nat}{bf:Core}{aK:Nat}(b:wX F w G bx bf p aK g a W){P:Prop}(k:∀{j m n c:Nat}{A:Option Addr}{S out:List Int}{ds:List Nat}{d u8 e f i l o q r u16 s t u v x y z B C D E H I J K u32 L M N O Q R T U V X Y Z aa ab ad ae af ag ah ai aj ak al an ao aq ar au av aw ax u64 ay az aA aB aC aD aE aF aG aH aI aJ aL aM aN aO aP aQ aR aS aT:Value},a={tmps:= #[.pointer (some ⟨G,0,none⟩),.int .i64 p,.pointer (some ⟨w.heap.size,0,none⟩),d,.slice none 0 0,.slice A n c,.pointer (some ⟨bx,0,none⟩),.int .i64 ((j:Int)-1),u8,e,f,i,l,o,q,r,u16,s,t,u,v,x,y,z,B,C,D,E,H,I,J,K,u32,L,M,N,O,Q,R,T,U,V,X,Y,Z,aa,ab,ad,ae,af,ag,ah,ai,aj,ak,al,an,ao,aq,ar,au,av,aw,ax,u64,ay,az,aA,aB,aC,aD,aE,aF,aG,aH,aI,aJ,aL,aM,aN,aO,aP,aQ,aR,aS,aT],defers:=ds.map oB}->g=j->sC F w W G bx bf p aK j m S A n c out ds->P):P:=by
 cases b with
 |mk h=>exact k rfl rfl h
section
variable {F Fd:List (List Int)}{w W W':World}{G bx:Nat}{bf:Core}{p:Int}{aK j m:Nat}{S:List Int}{A:Option Addr}{n c:Nat}{out:List Int}{ds:List Nat}
theorem sC.grow(a:sC F w W G bx bf p aK j m S A n c out ds)(b:Below W.heap.size W W'):sC F w W' G bx bf p aK j m S A n c out ds:=⟨a.s.grow b,a.ci,a.Ag,a.Ah,a.nl,a.wW⟩
theorem sC.skip(a:sC F w W G bx bf p aK (j+1) m S A n c out ds)(b:Below W.heap.size W W')(h:hasB S (aC (aj bf.av j))=false):sC F w W' G bx bf p aK j m S A n c out ds:=
 ⟨a.s.grow b,a.ci.skip h,by have:=a.Ag;omega,by have:=a.Ah;omega,by have:=a.nl;omega,a.wW⟩
theorem sC.dec(a:sC F w W G bx bf p aK (j+1) m S A n c out ds){A':Option Addr}{c':Nat}(hs:pQ w W' G w.heap.size bx (w.heap.size+1+1) m S A' (n+1) c' (out++[aj bf.av j]) ds)(h:mz bf.kB (aC (aj bf.av j))=none):sC F w W' G bx bf p aK j m S A' (n+1) c' (out++[aj bf.av j]) ds:=
 ⟨hs,a.ci.decision h,by have:=a.Ag;omega,by have:=a.Ah;omega,by have:=a.nl;omega,by simp[a.wW]⟩
theorem sC.MQ(T:j6 bf)(D:ry F Fd bf)(a:sC F w W G bx bf p aK (j+1) m S A n c out ds){lQ:Nat}{oI:List Int}{yR:List Nat}(hs:pQ w W' G w.heap.size bx (w.heap.size+1+1) lQ oI A n c out yR){d:Nat}(hw:mz bf.kB (aC (aj bf.av j))=some d)(hm:∀v,hasB S v=true->hasB oI v=true)
  (b:∀y∈ay bf.cl d,y≠aj bf.av j->0<bh bf y->hasB oI (aC y)=true) (e:lQ<=m+200000):sC F w W' G bx bf p aK j lQ oI A n c out yR:=
 ⟨hs,a.ci.reason T D hw hm b,by have:=a.Ag;omega,by have:=a.Ah;omega,by have:=a.nl;omega,a.wW⟩
end
def MR(F:List (List Int))(w:World)(bf:Core)(p:Int)(e:Ending)(w':World):Prop:=
 ∃A c out,e=.returned (.slice A out.length c)/\aL w' A out.length c out/\Below w.heap.size w w'/\(∀x∈out,x=p\/(x∈bf.av/\mz bf.kB (aC x)=none))/\p∈out/\(∀M,tQ M F->¬∀x∈p::out,M x=true)/\∀b,A.map (·.block)=some b->w.heap.size<=b
theorem MS{K:Nat->Prop}{base:Nat}{w:World}{G:Nat}{hs:Nat->ax}{cb:Nat->Nat}{s:aq}{F Fd:List (List Int)}(h:aY K base w G hs cb s)(T:j6 s.c)(D:ry F Fd s.c)(dm:s.c.n<=60000)(dn:s.c.st.length<=1000000){p:Int}(hp:gK s.c.n p)(b7: -p∈s.c.av):
  Calls x_ 153 #[.pointer (some ⟨G,0,none⟩),.int .i64 p] w (MR F w s.c p):=by
 have H:=U h;have I:=U T;have bu:=U D;have cK:=U hp;have a7:=U b7;obtain⟨v,Q⟩:∃v,aC p=v:=⟨_,rfl⟩
 have dp:v<=60000:=by have:=hp.2;omega
 have b8:bJ (∀w:World,Calls x_ 97 #[.int .i64 p] w λ e w'=>e=.returned (.int .i64 (v:Int))/\w=w'):=U (λ w=>by have:=sV p w (by unfold aC at Q;omega) (by unfold aC at Q;omega);rw[Q] at this;exact this);obtain⟨g2,b9,bw,f2⟩:=h.e.lV 3 2 rfl h.e.kj (by have:=T.o7;omega);obtain⟨y,R⟩:∃y,gZ s.c.lvl v=y:=⟨_,rfl⟩
 have c2:=h.e.vF b9 (k:=v) (by have:=T.o7;have:=hp.2;omega);rw[R] at c2;have dq:(v:Int)<(s.c.lvl.length:Int):=by have:=T.o7;have:=hp.2;omega
 have af:=U (z_ Q R);have cL:=(h.e.rows.lt b9).2;have aH:=h.e.box.lt;have dr:∀(fn:Fn)(first cap:Array Value)(w:World),(Instr.makeFunc fn first cap).run x_ w=.ok (.func fn first cap) w:=λ _ _ _ _=>rfl
 have dt:= @run_makeMap x_;clear h T D hp b7 Q R f2;refine CP Tryz.func153 rfl ?_;simp only[Tryz.ntmps153,List.size_toArray,List.length_cons,List.length_nil,Nat.reduceAdd,Nat.reduceSub,Array.replicate_succ,Array.replicate_zero,List.push_toArray,List.append_toArray,List.nil_append,List.cons_append]
 go_wp2_with fail
 obtain⟨u,O⟩:∃u,(w.alloc (.cells #[.pointer (some ⟨G,0,none⟩)] 115)).alloc (.cells #[.int .i64 p] 3)=u:=⟨_,rfl⟩
 rw[O];have a8:Below w.heap.size w u:=by rw[<-O];exact((u_ _ w).alloc (k_ _) _).alloc (by simp) _
 have bA:aT u w.heap.size 115 [.pointer (some ⟨G,0,none⟩)]:=by rw[<-O];exact(aT.new w 115 [.pointer (some ⟨G,0,none⟩)]).below (bz _ _)
 have b':u.ownsRow w.heap.size 3 1 (.slice (some ⟨w.heap.size+1,0,none⟩) 1 1) 1 (jc [p]):=by rw[<-O];have:=Dh (w.alloc (.cells #[.pointer (some ⟨G,0,none⟩)] 115)) w.heap.size [p] 1 rfl (by simp) (by omega);simpa[jc] using this
 have a':u.heap.size=w.heap.size+1+1:=by rw[<-O];simp
 clear O;have az:=bA.cell 0;have bw:=(y_ (a:=⟨G,3,none⟩) (a8.block G aH)).trans bw;have c2:=(y_ (a:=⟨g2,v,none⟩) (a8.block g2 cL)).trans c2;refine t_ 8 (by kernel_rfl) (by kernel_rfl) ?_;simp only[w_,s_,v_,r_]
 iterate 5 still_step
 still_call ((b8.o _).mono (λ e w' h=>⟨h.1,h.2.symm⟩))
 iterate 2 still_step
 refine o_ ?_;change wpList _ _ _ _ _ u.drew;have aI:=U a8.drew;have ca:=U (show aT u.drew w.heap.size 115 [.pointer (some ⟨G,0,none⟩)] from bA);have ba:=U (show u.drew.ownsRow w.heap.size 3 1 (.slice (some ⟨w.heap.size+1,0,none⟩) 1 1) 1 (jc [p]) from b');have a':u.drew.heap.size=w.heap.size+1+1:=a';clear az bw c2 a8 bA b';generalize u.drew=u at*
 by_cases aJ:y=0
 ·have cM:((y:Int)==0)=true:=by simp[aJ]
  have bb:=U aJ;clear aJ
  go_wp2_with fail
  refine CQ [] rfl List.nodup_nil (λ D h=>by cases h) (λ W' aA=>⟨_,results_tmp rfl _ _ _,?_⟩);refine⟨some ⟨w.heap.size+1,0,none⟩,1,[p],rfl,aL.kW (mw ba.o (aA.below (u_ _ _) (λ D h=>by cases h))) (by simp),aI.o.trans ((aA.below (u_ _ _) (λ D h=>by cases h)).mono aI.o.size),λ x aa=>.inl (by simpa using aa),by simp,λ M cc cN=>?_,λ b e=>(by injection e with e;have e:w.heap.size+1=b:=e;omega)⟩;obtain⟨i,ah,bc,bd⟩:=I.o.at a7.o;have h1:=yp I.o bu.o cc i ah (by rw[bd];show gZ s.c.lvl (aC p)=0;rw[af.o.1,af.o.2,bb.o]);rw[bc,cc.1 p cK.o.oC,cN p (by simp)] at h1
  cases h1
 ·have cM:((y:Int)==0)=false:=by simp;omega
  have bb:=U aJ;clear aJ;obtain⟨ai,cd,bB,bC⟩:=(lY.made u).put (x:=(v:Int)) (by unfold maxLen;omega) (DP _ (by omega) (by omega));rw[a'] at cd bB bC;have cf:=U bB;have bf:=U bC;clear bB bC
  go_upto_region 5 with(go_at_call 97;refine(b8.o _).mono ?_;rintro e w1 ⟨rfl,rfl⟩;dsimp only)
  have g2:u.grownBy (u.alloc (.map #[] 0)) none:=World.grownBy_alloc u _ none;have bD:pQ w (ai.alloc (.cells #[.map (some (w.heap.size+1+1))] 114)) G w.heap.size ai.heap.size (w.heap.size+1+1) 1 [(v:Int)] (some ⟨w.heap.size+1,0,none⟩) 1 1 [p] []:=by
   have cO:(u.alloc (.map #[] 0)).heap.size=w.heap.size+1+1+1:=by simp[a']
   have cg:Below w.heap.size w (u.alloc (.map #[] 0)):=aI.o.alloc aI.o.size _;have du:=bf.o.size;have bE:=cg.grown bf.o cg.size (λ g e=>by cases e;omega);have q:∀b,b<w.heap.size+1+1->ai.heap[b]? =u.heap[b]? :=λ b P=>(bf.o.block b (by omega) (by simp;omega)).trans (g2.block b (by omega) (by simp))
   refine⟨bE.alloc bE.size _,?_,aT.new ai 114 [.map (some (w.heap.size+1+1))],cf.o.alloc _,?_,⟨List.nodup_nil,λ D h=>by cases h⟩,by omega,k_ _,bE.size⟩
   ·exact(show aT ai w.heap.size 115 _ from(q _ (by omega)).trans ca.o).below (bz _ _)
   ·exact mw (oS ba.o (λ b e=>q b (by have:=(AS ba.o e).2;omega))) (bz _ _)
  obtain⟨bg,bF⟩:∃bg,ai.alloc (.cells #[.map (some (w.heap.size+1+1))] 114)=bg:=⟨_,rfl⟩
  obtain⟨bx,bG⟩:∃bx,ai.heap.size=bx:=⟨_,rfl⟩
  rw[bF,bG] at bD;rw[bF,bG];have bI:=U bD;clear bD g2 bf cf aI ca ba cd bF bG;obtain⟨aK,aM⟩:∃aK,s.c.av.length=aK:=⟨_,rfl⟩
  have dv:aK<=60000:=by have:=I.o.len;omega
  have dw:0<aK:=by have:=f_ a7.o;omega
  obtain⟨dx,kA,bK,cP⟩:∃A n c,hs 4=⟨A,n,c⟩:=⟨_,_,_,rfl⟩
  have dy:kA=aK:=by have:=H.o.e.kA;rw[cP] at this;exact this.trans aM
  obtain⟨g4,bL,bN,f4⟩:=H.o.e.lV 5 4 rfl H.o.e.kA (by omega);have bO:bg.cell? ⟨G,5,none⟩=some (.slice (some ⟨g4,0,none⟩) aK (hs 4).c):=by rw[<-aM];exact(y_ (a:=⟨G,5,none⟩) (bI.o.below.block G aH)).trans bN
  have az:bg.cell? ⟨w.heap.size,0,none⟩=some (.pointer (some ⟨G,0,none⟩)):=bI.o.p7.cell 0;have ch:c_.wrap ((aK:Int)-1)=(aK:Int)-1:=by rw[i_];omega
  go_wp2_with fail
  have cj:qB F s.c p aK (hasB [(v:Int)]) [p]:=by
   rw[<-aM];exact qB.start I.o a7.o (by show 1<=gZ s.c.lvl (aC p);rw[af.o.1,af.o.2];have:=bb.o;omega) (by rw[af.o.1];simp[hasB])
  have bP:0<s.c.st.length:=by
   obtain⟨i,ah,bc,bd⟩:=I.o.at a7.o;have h1:=wk s.c.st i;have ak:bh s.c p=y:=by show gZ s.c.lvl (aC p)=y;rw[af.o.1,af.o.2]
   have:=bb.o;omega
  obtain⟨bj,ck⟩:∃bj,s.c.st.length=bj:=⟨_,rfl⟩
  obtain⟨g5,bQ,aN,f5⟩:=H.o.e.lV 6 5 rfl H.o.e.kf (by omega);obtain⟨al,bR⟩:∃al,gZ s.c.st 0=al:=⟨_,rfl⟩
  have aO:=H.o.e.FA bQ (k:=0) bP;rw[bR] at aO;rw[ck] at aN bP;obtain⟨g3,bS,aP,f3⟩:=H.o.e.lV 4 3 rfl H.o.e.nM (by have:=I.o.pK;omega);have Y:=U (z_ aM (z_ bR (z_ bP (z_ bL (z_ aN (z_ aO (z_ bS (z_ aP bN))))))));have cQ:=(H.o.e.rows.lt bQ).2;have dz:=(H.o.e.rows.lt bL).2;have dA:=(H.o.e.rows.lt bS).2;have cR:=U cj;have dB:(0:Int)<(bj:Int):=by omega
  clear az ch f4 f5 f3 aO aN bQ bO bN bL bS aP aM bR cj;refine g_ (wX F w G bx s.c p aK) aK ?start ?round
  case start=>exact wX.mk (c:=1) ⟨bI.o,cR.o,k_ _,k_ _,by omega,by simp⟩
  case round=>
   intro g a W cm dC K bT dD;refine cm.elim ?_;intro j m n c A S out ds dE u8 dF dG dH dI dJ dK dL u16 dM dN dO dP dQ dR dS dT dU dV dW dX dY dZ d' u32 ea eb ec ed ee ef eg eh ei ej ek en eo ep er et eu ev ew ey ez eA eB eC eD eE eF eG eH eI eJ u64 eK eL eM eN eO eP eQ eR eS eT eU eV eW eX eY eZ e0 e1 e2 e3 e4 bk aQ aR;clear cm;subst bk;replace aQ:=aQ.symm;subst aQ;have B:=U aR;have E:=U (H.o.below aR.s.below).1;have az:W.cell? ⟨w.heap.size,0,none⟩=some (.pointer (some ⟨G,0,none⟩)):=aR.s.p7.cell 0;have qn:=aR.s.below.block;have aN:W.cell? ⟨G,6,none⟩=some (.slice (some ⟨g5,0,none⟩) bj (hs 5).c):=(y_ (a:=⟨G,6,none⟩) (qn G aH)).trans Y.o.2.2.2.2.1;have aO:W.cell? ⟨g5,0,none⟩=some (.int .i64 (al:Int)):=(y_ (a:=⟨g5,0,none⟩) (qn g5 cQ)).trans Y.o.2.2.2.2.2.1;clear aR qn
   by_cases cS:al<j
   ·obtain⟨j,rfl⟩:∃k,j=k+1:=⟨j-1,by omega⟩
    have cT:((j+1:Nat):Int)-1=(j:Int):=by omega
    rw[cT];have cU:(al:Int)<=(j:Int):=by omega
    obtain⟨x,aa⟩:∃x,aj s.c.av j=x:=⟨_,rfl⟩
    have bl:j<aK:=by have:=B.o.Ag;omega
    have bO:W.cell? ⟨G,5,none⟩=some (.slice (some ⟨g4,0,none⟩) aK (hs 4).c):=by rw[<-Y.o.1];exact(y_ (a:=⟨G,5,none⟩) (B.o.s.below.block G aH)).trans Y.o.2.2.2.2.2.2.2.2
    have bK:=E.o.e.zL Y.o.2.2.2.1 (k:=j) (by rw[Y.o.1];exact bl);rw[aa] at bK;have e5:(j:Int)<(aK:Int):=by omega
    have bU:gK s.c.n x:=by rw[<-aa];exact I.o.lit _ (lZ (by rw[Y.o.1];exact bl))
    obtain⟨z,aS⟩:∃z,aC x=z:=⟨_,rfl⟩
    have cn:z<=s.c.n:=by have:=bU.2;omega
    have bn:bJ (∀w:World,Calls x_ 97 #[.int .i64 x] w λ e w'=>e=.returned (.int .i64 (z:Int))/\w=w'):=U (λ w=>by have:=sV x w (by unfold aC at aS;omega) (by unfold aC at aS;omega);rw[aS] at this;exact this);have cV:W.cell? ⟨bx,0,none⟩=some (.map (some (w.heap.size+1+1))):=B.o.s.qn.cell 0;have bV:=B.o.s.set.drew.look (DP (z:Int) (by omega) (by omega));have ch:c_.wrap ((j:Int)-1)=(j:Int)-1:=by rw[i_];omega
    have X:=U (z_ aa (z_ bl (z_ bU (z_ aS cn))));clear aa bl bU aS cn
    cases P:hasB S (z:Int) with
    |false=>
     rw[P] at bV;have an:=U (B.o.skip (W':=W.drew) ((u_ _ W).drew) (by rw[X.o.1,X.o.2.2.2.1];exact P));clear P
     go_upto_region 9 with fail
     refine t_ 4 (by kernel_rfl) (by kernel_rfl) ?_;simp only[w_,s_,v_,r_]
     iterate 2 still_step
     still_call ((bn.o _).mono (λ e w' h=>⟨h.1,h.2.symm⟩))
     iterate 1 still_step
     refine o_ ?_;change wpList _ _ _ _ _ W.drew
     go_wp2_with fail
     exact q_ j (by omega) (bT _ _ _ (wX.mk an.o))
    |true=>
     rw[P] at bV;have e6:=U P;clear P
     go_upto_region 9 with fail
     refine t_ 4 (by kernel_rfl) (by kernel_rfl) ?_;simp only[w_,s_,v_,r_]
     iterate 2 still_step
     still_call ((bn.o _).mono (λ e w' h=>⟨h.1,h.2.symm⟩))
     iterate 1 still_step
     refine o_ ?_;change wpList _ _ _ _ _ W.drew
     go_upto_region 10 with fail
     have bW:=U (B.o.grow ((u_ _ W).drew));have cp:W.drew.cell? ⟨w.heap.size,0,none⟩=some (.pointer (some ⟨G,0,none⟩)):=az;have aP:W.drew.cell? ⟨G,4,none⟩=some (.slice (some ⟨g3,0,none⟩) s.c.kB.length (hs 3).c):=(y_ (a:=⟨G,4,none⟩) (bW.o.s.below.block G aH)).trans Y.o.2.2.2.2.2.2.2.1;have c3:=E.o.drew.e.yy Y.o.2.2.2.2.2.2.1 (k:=z) (by have:=I.o.pK;have:=X.o;omega);have e7:(z:Int)<(s.c.kB.length:Int):=by have:=I.o.pK;have:=X.o;omega
     clear az bO bK aN aO bV cV E B;generalize W.drew=V at*
     cases hw:mz s.c.kB z with
     |none=>
      rw[hw] at c3;change V.cell? ⟨g3,z,none⟩=some (.pointer none) at c3;have bo:=U hw;clear hw;refine t_ 8 (by kernel_rfl) (by kernel_rfl) ?_;simp only[w_,s_,v_,r_]
      iterate 5 still_step
      still_call ((bn.o _).mono (λ e w' h=>⟨h.1,h.2.symm⟩))
      iterate 2 still_step
      refine o_ ?_;change wpList _ _ _ _ _ V.drew;clear aP c3 cp;have aB:=U (bW.o.grow ((u_ _ V).drew));generalize V.drew=t at*;have bX:=U (aB.o.s.grow (bz t (mP [x])));have cW:=U (aL.lit t [x] 1 t.heap.size rfl rfl (by omega))
      go_wp2_with (at_builtin;refine qS rfl (.tmp 65) (.tmp 67) rfl w.heap.size (.slice A n c) n out rfl bX.o.row (some ⟨t.heap.size,0,none⟩) 1 1 [x] rfl cW.o (by have:=aB.o.nl;omega) bX.o.below.size ?_;intro v9 bM bk;obtain⟨A',c',rfl,aU⟩:=bX.o.app bk;have aD:=U aU;clear bk aU)
      have an:=aB.o.dec (W':=bM) (A':=A') (c':=c') (by rw[X.o.1];exact aD.o) (by rw[X.o.1,X.o.2.2.2.1];exact bo.o);exact q_ j (by omega) (bT _ _ _ (wX.mk an))
     |some d=>
      rw[hw] at c3;change V.cell? ⟨g3,z,none⟩=some (.pointer (some ⟨cb d,0,none⟩)) at c3;have bo:=U hw;clear hw;refine t_ 8 (by kernel_rfl) (by kernel_rfl) ?_;simp only[w_,s_,v_,r_]
      iterate 5 still_step
      still_call ((bn.o _).mono (λ e w' h=>⟨h.1,h.2.symm⟩))
      iterate 2 still_step
      refine o_ ?_;change wpList _ _ _ _ _ V.drew;clear aP c3 cp;have aB:=U (bW.o.grow ((u_ _ V).drew));generalize V.drew=t at*
      go_upto_region 13 with fail
      go_wp2_with (go_at_call 183;refine(Df _ _ _).mono ?_;rintro e w1 ⟨rfl,rfl⟩;dsimp only)
      have ab:=U (aB.o.grow ((bz t (.cells #[.pointer (some ⟨cb d,0,none⟩)] 164)).trans ((bz _ (.cells #[.int .i64 x] 3)).mono (by simp))));have cX:((t.alloc (.cells #[.pointer (some ⟨cb d,0,none⟩)] 164)).alloc (.cells #[.int .i64 x] 3)).cell? ⟨t.heap.size,0,none⟩=some (.pointer (some ⟨cb d,0,none⟩)):=by go_simp
      have cY:((t.alloc (.cells #[.pointer (some ⟨cb d,0,none⟩)] 164)).alloc (.cells #[.int .i64 x] 3)).cell? ⟨t.heap.size+1,0,none⟩=some (.int .i64 x):=by go_simp
      have cO:((t.alloc (.cells #[.pointer (some ⟨cb d,0,none⟩)] 164)).alloc (.cells #[.int .i64 x] 3)).heap.size=t.heap.size+1+1:=by simp
      generalize (t.alloc (.cells #[.pointer (some ⟨cb d,0,none⟩)] 164)).alloc (.cells #[.int .i64 x] 3)=N at*;have cq:=I.o.pY j (by rw[Y.o.1];exact X.o.2.1);rw[X.o.1,X.o.2.2.2.1,bo.o] at cq;obtain⟨ag,bY,-⟩:=cq;have bZ:=U (H.o.below ab.o.s.below).1;obtain⟨bH,m1,cZ,C⟩:=bZ.o.yL ag (f_ bY);have b0:=bu.o.mF d ag;have c0:m1<=120002:=by have:=b0.len;have:=C.len;omega
      have c4:=(bZ.o.e.rows.lt C.b).2;have c5:=(bZ.o.e.cls d ag).lt;have e8:N.cell? ⟨w.heap.size,0,none⟩=some (.pointer (some ⟨G,0,none⟩)):=ab.o.s.p7.cell 0;have Z:=U (z_ ag (z_ bY (z_ b0 (z_ c0 C))));have aE:bJ (w.heap.size+1+1<N.heap.size/\w.heap.size<=N.heap.size/\∀D∈ds,D<N.heap.size):=U ⟨ab.o.s.set.lt,ab.o.s.below.size,λ D ao=>ab.o.s.uM.lt ao⟩;have cr:OwnFrom N.heap.size (λ(pre:List Int)(f:World)=>∃(L:Nat)(J:List Int),pQ w f G w.heap.size bx (w.heap.size+1+1) L J A n c out ds/\(∀v,hasB S v=true->hasB J v=true)/\(∀y∈pre,0<bh s.c y->hasB J (aC y)=true)/\L<=m+pre.length):=by
       rintro pre e9 e' row ⟨L,J,h1,ak,bp,b1⟩ aQ c6;exact⟨L,J,h1.uL aQ c6 aE.o.2.1 aE.o.1 aE.o.2.2,ak,bp,b1⟩
      have ct:=U cr;have cu:bJ (some (t.heap.size+1)≠some (w.heap.size+1+1)/\some bH≠some (w.heap.size+1+1)):=U ⟨λ e=>by have h1:=aB.o.s.set.lt;injection e with e;omega,λ e=>by have h1:=(H.o.e.rows.lt C.b).2;injection e with e;omega⟩;clear ag bY b0 cr;refine(wpIn_wide (n:=6)).1 ?_;refine CM (F:=Fence.wide) (w0:=N) rfl (by omega) (gf:=224) (lb:= #[.pointer (some ⟨t.heap.size,0,none⟩),.pointer (some ⟨t.heap.size+1,0,none⟩)]) rfl trivial De
       (Dg (6-1) (by omega) t.heap.size (t.heap.size+1) (cb d) bH m1 cZ (ay s.c.cl d) x C.len (by omega) N cX cY C.ag C.kL (by omega) (by omega) c5 c4)
       (λ h k=>h.trans k) (λ V l o fa hl Q cv _=>⟨λ v b2=>(y_ (w:=V) (h_ (by show t.heap.size+1≠l;omega))).trans b2,λ k v _ b2=>(y_ (w:=V) (h_ (by show bH≠l;omega))).trans b2⟩) (u_ _ _) (λ _=>rfl)
       (λ(pre:List Int)(f:World)=>∃(L:Nat)(J:List Int),pQ w f G w.heap.size bx (w.heap.size+1+1) L J A n c out ds/\(∀v,hasB S v=true->hasB J v=true)/\(∀y∈pre,0<bh s.c y->hasB J (aC y)=true)/\L<=m+pre.length) (λ _ _ _=>False)
       ct.o (λ _ _ _ _ _ h=>h.elim) ⟨m,S,ab.o.s,λ _ h=>h,λ y h=>absurd h List.not_mem_nil,k_ _⟩
       ?a1 ?w1 ?assign ?kw1 ?body ?done ?stop
      case assign=>
       intro l pre y f fb ah bq c7
       gi_wp2
       exact c7
      case kw1=>
       intro pre y f ah;exact⟨KeepsFrom.refl _ _,pe.refl _ _ _ _⟩
      case body=>
       rintro l pre y cw f ah ⟨o,c8,cx,cv,O,cy⟩ bq fc;have c9:=ct.o _ _ _ _ ah (show cw.grownBy f (some (N.heap.size+1)) by rw[cx];exact grownBy_putObj' cw (N.heap.size+1) o) (λ r e=>by cases e;exact⟨by omega,c8,O,cy⟩);clear ah cx cv O cy;obtain⟨L,J,hs,cz,R,aV⟩:=c9;have aW:=U hs;have ar:=U (z_ cz (z_ R aV));have da:=U bq;have ad:gK s.c.n y:=Z.o.2.2.1.lt y (by
        have h1:y∈others (ay s.c.cl d) x:=bq.subset (by simp);exact(List.mem_filter.1 h1).1)
       have db:f.cell? ⟨w.heap.size,0,none⟩=some (.pointer (some ⟨G,0,none⟩)):=hs.p7.cell 0;have cA:f.cell? ⟨bx,0,none⟩=some (.map (some (w.heap.size+1+1))):=hs.qn.cell 0;have br:=U (H.o.below hs.below).1;clear hs cz R aV bq;obtain⟨ae,aX⟩:∃v,aC y=v:=⟨_,rfl⟩
       have cB:ae<=s.c.n:=by have:=ad.2;omega
       have cC:1<=ae:=by have:=ad.1;omega
       have cD:bJ (∀w:World,Calls x_ 97 #[.int .i64 y] w λ e w'=>e=.returned (.int .i64 (ae:Int))/\w=w'):=U (λ w=>by have:=sV y w (by unfold aC at aX;omega) (by unfold aC at aX;omega);rw[aX] at this;exact this);obtain⟨fe,cE,dc,-⟩:=br.o.e.lV 3 2 rfl br.o.e.kj (by have:=I.o.o7;omega);obtain⟨aF,b3⟩:∃l,gZ s.c.lvl ae=l:=⟨_,rfl⟩
       have cF:=br.o.e.vF cE (k:=ae) (by have:=I.o.o7;omega);rw[b3] at cF;have ff:(ae:Int)<(s.c.lvl.length:Int):=by have:=I.o.o7;omega
       have hlen:pre.length+1<=120002:=by
        have h1:=da.o.length_le;have ak:(others (ay s.c.cl d) x).length<=(ay s.c.cl d).length:=p_ _ _;have:=Z.o.2.2.2.2.len;have:=Z.o.2.2.2.1;rw[n_,e_] at h1;omega
       have aZ:=U (z_ aX (z_ b3 (z_ hlen (z_ cB cC))));clear aX b3 hlen cB cC ad cE
       gi_wp2
       refine CN 8 (by kernel_rfl) (by kernel_rfl) (by rintro⟨_,_,h⟩;exact h) (by kernel_rfl) ?_;simp only[w_,s_,v_,r_]
       iterate 5 still_step
       still_call ((cD.o _).mono (λ e w' h=>⟨h.1,h.2.symm⟩))
       iterate 2 still_step
       refine o_ ?_;change wpList _ _ _ _ _ f.drew;have bs:bJ (KeepsFrom N.heap.size f f.drew/\pe (t.heap.size+1) bH m1 f f.drew):=U ⟨(b_ f).from _,pe.refl _ _ _ _⟩;have aW:=U (aW.o.grow ((u_ _ f).drew));have cA:f.drew.cell? ⟨bx,0,none⟩=some (.map (some (w.heap.size+1+1))):=cA;clear db dc cF br;generalize f.drew=au at*
       by_cases ad:0<aF
       ·have dd:decide ((0:Int)<(aF:Int))=true:=by simp;omega
        have de:(0:Int)<(aF:Int):=by omega
        have cG:=U ad;clear ad;obtain⟨fg,fh,aU,cH⟩:=aW.o.set.drew.put (x:=(ae:Int)) (by have:=ar.o.2.2;have:=aZ.o;have:=ab.o.Ah;unfold maxLen;omega) (DP _ (by omega) (by have:=aZ.o;omega));have aD:=U (z_ aU cH);clear aU cH
        go_wp2_with fail
        gi_wp2
        refine CN 3 (by kernel_rfl) (by kernel_rfl) (by rintro⟨_,_,h⟩;exact h) (by kernel_rfl) ?_;simp only[w_,s_,v_,r_]
        iterate 2 still_step
        still_call ((cD.o _).mono (λ e w' h=>⟨h.1,h.2.symm⟩))
        refine o_ ?_;change wpList _ _ _ _ _ au.drew
        go_wp2_with fail
        have df:=(aW.o.grow ((u_ _ au).drew)).put aD.o.1 aD.o.2;refine⟨bs.o.1.trans (((b_ au).from _).trans (KeepsFrom.of_grownBy aD.o.2 (λ r e=>by cases e;exact aE.o.1))),bs.o.2.trans ((show pe _ _ _ au au.drew from pe.refl _ _ _ au).trans (pe.F6 (W:=au.drew) aD.o.2 cu.o.1 cu.o.2)),L+1,J++[(ae:Int)],df,λ v Q=>by rw[zm,ar.o.1 v Q];rfl,λ b4 b5 aw=>?_,by have:=ar.o.2.2;rw[n_,e_];omega⟩;rw[zm];rcases List.mem_append.1 b5 with h|h
        ·rw[ar.o.2.1 b4 h aw];rfl
        ·rw[List.mem_singleton] at h;subst h;rw[aZ.o.1];simp
       ·have dd:decide ((0:Int)<(aF:Int))=false:=by simp;omega
        have de:¬(0:Int)<(aF:Int):=by omega
        have cG:=U ad;clear ad
        go_wp2_with fail
        gi_wp2
        exact⟨bs.o.1,bs.o.2,L,J,aW.o,ar.o.1,λ b4 b5 aw=>(List.mem_append.1 b5).elim (λ h=>ar.o.2.1 b4 h aw) (λ h=>by rw[List.mem_singleton] at h;subst h;exact absurd (show 0<aF by rw[<-aZ.o.2.1,<-aZ.o.1];exact aw) cG.o),by have:=ar.o.2.2;rw[n_];omega⟩
      case done=>
       rintro D ys f ao rfl ⟨L,J,h1,ak,bp,b1⟩ aV;have hlen:(others (ay s.c.cl d) x).length<=120002:=by
        have ak:(others (ay s.c.cl d) x).length<=(ay s.c.cl d).length:=p_ _ _;have:=Z.o.2.2.2.2.len;have:=Z.o.2.2.2.1;omega
       have an:sC F w f G bx s.c p aK j L J A n c out (D::ds):=ab.o.MQ I.o bu.o (h1.mark (by have:=aE.o.2.1;omega) aV (λ E dh=>by have:=aE.o.2.2 E dh;omega)) (d:=d) (by rw[X.o.1,X.o.2.2.2.1];exact bo.o) ak (λ y R cI hl=>bp y (List.mem_filter.2 ⟨R,by rw[X.o.1] at cI;simpa using cI⟩) hl) (by omega);have an:=U an;clear h1 ak bp b1 aV hlen
       gi_wp2
       go_wp2_with fail
       exact q_ j (by omega) (bT _ _ _ (wX.mk (ds:=D::ds) an.o))
      case stop=>
       rintro D fi pre f ao fj h;exact h.elim
   ·have fk:decide ((j:Int)-1>=(al:Int))=false:=by simp;omega
    have cU:¬(al:Int)<=(j:Int)-1:=by omega
    have di:=U cS
    go_wp2_with fail
    refine CQ ds rfl B.o.s.uM.nc (λ D ao=>(B.o.s.uM.kL D ao).2) (λ W' aA=>⟨_,results_tmp rfl _ _ _,?_⟩);have hlen:=B.o.s.len;have dj:=B.o.ci.done I.o (by rw[ck];exact Y.o.2.2.1) (by rw[Y.o.2.1];have:=di.o;omega);refine⟨A,c,out,by rw[hlen];rfl,?_,aA.below B.o.s.below (λ D ao=>(B.o.s.uM.kL D ao).1),λ x aa=>B.o.ci.A6 x aa,B.o.wW,dj,λ b P=>(B.o.s.row.lt b (by show(ax.v ⟨A,n,c⟩).ownBlock=_;rw[ax.own];exact P)).1⟩;rw[hlen];have a6:=aL.kW B.o.s.row (by have:=B.o.nl;omega);refine⟨a6.len,a6.cap,a6.mu,a6.nT,λ aw=>?_⟩;obtain⟨aG,bt,bc,bd,cJ⟩:=a6.cells aw;have dk:aG∉ds:=λ ag=>by
     obtain⟨v1,b6⟩:∃v1,W.cell? ⟨aG,bt+0,none⟩=some v1:=⟨_,cJ 0 aw⟩
     unfold World.cell? at b6;rw[show W.heap[(⟨aG,bt+0,none⟩:Addr).block]? =_ from(B.o.s.uM.kL aG ag).2] at b6
     cases b6
    exact⟨aG,bt,bc,by rw[aA.size];exact bd,λ k hk=>(aA.cell (p:=⟨aG,bt+k,none⟩) dk).trans (cJ k hk)⟩
end
section
open Go.RowKit Go.Shelf
def MT:Code->Code
 | .cond _ _ b=>b
 |c=>c
noncomputable def MU:Code:=By (mU (MT (mU ((Tryz.f99.body.bind λ c=>qo c 4).getD .skip))))
theorem MV{hs:Nat->ax}{bl jP jA gV gH gn gT u16 gp gq gr gG gu gv gw gx gy gz gA gB fO fP fQ u32 fR fS fT fU fV fW fZ ga gb gd gh gC gD ij hU ia bP bQ bR bS bT bU bV bW bX bY bZ b5 b6 b7 b8 u64 b9 cc cg ck cm cn cp cr ct cu cv cw cz cA cB cC cD cE cF cG cH c9 dc de dh di dm dn dr cK cL cM cN cO cQ cR cS cT cU cV cW cZ c4 c5 c6 c7 dw dx dy dz dA dB dD dF dG dH dI dJ dK dL dM dN dO dP dQ dR dS dU dV dW dX dY dZ ec ee ef fG fH fI ei ej ek en eo ep er eu ew ey ez eA fJ fK fL eB eC eD eE eF eG eH eL eM eN eO eP eR eS eT eU eV eW eX eY eZ e3 e4 e5 e6 e7 e8 e9 fc fe ff fh fk fm fo fq gi gj fu fA fB fC fD fE fF iH iI iJ iK iL iM iN iO iP iQ iR iS jg jh ji jj jk jl jm jo jW jX jY jZ j0 j3:Value}{Q:Exit->Act->World->Prop}
  (C:r5 aZ gX w0 F ah n fM jD aI gM bK gN bC) (S:mL aZ gX base w0 G F ah n fM jD aI bg bC K W hs cb s aB s.c.ag) (T:s.c.st.length<bK) (ao:aj ah s.c.st.length=p) (X:gK n p) (Y: -p∈s.c.av)
  (ar:∀(K:Nat->Prop)(hs:Nat->ax)(cb:Nat->Nat)(s':aq)(h':Nat)(au:Option Addr)(aw ay:Nat)(bl jP jA gV gH gn bh bj gT u16 gp gq gr gG gu gv gw gx gy gz gA gB fO fP fQ u32 fR fS fT fU fV fW fZ ga gb gd gh gC gD ij hU ia bP bQ bR bS bT bU bV bW bX bY bZ b5 b6 b7 b8 u64 b9 cc cg ck cm cn cp cr ct cu cv cw cz cA cB cC cD cE cF cG cH c9 dc de dh di dm dn dr cK cL cM cN cO cQ cR cS cT cU cV cW cZ c4 c5 c6 c7 dw dx dy dz dA dB dD dF dG dH dI dJ dK dL dM dN dO dP dQ dR dS dU dV dW dX dY dZ ec ee ef fG fH fI ei ej ek en eo ep er eu ew ey ez eA fJ fK fL eB eC eD eE eF eG eH eL eM eN eO eP eR eS eT eU eV eW eX eY eZ e3 e4 e5 e6 e7 e8 e9 fc fe ff fh fk fm fo fq gi gj fu fA fB fC fD fE fF iH iI iJ iK iL iM iN iO iP iQ iR iS jg jh ji jj jk jl jm jo jW jX jY jZ j0 j3:Value)(W':World),r6 aZ gX base w0 G F ah n fM aI bg bC K W' hs cb s' aB h' 2 none 0 0 au aw ay->aT W' bg 30 [.int .i64 2,mY,.slice au aw ay,.int .i64 (aB:Int)]->Q .ret {tmps:= #[.pointer (some ⟨G,0,none⟩),.slice gM bK gN,.int .i64 (bC:Int),bl,jP,jA,.pointer (some ⟨bg,0,none⟩),.int .i64 (ja:Int),.int .i64 left,.int .i64 2000,gV,gH,gn,bh,bj,gT,u16,gp,gq,gr,gG,gu,gv,gw,gx,gy,gz,gA,gB,fO,fP,fQ,u32,fR,fS,fT,fU,fV,fW,fZ,ga,gb,gd,gh,gC,gD,ij,hU,ia,bP,bQ,bR,bS,bT,bU,bV,bW,bX,bY,bZ,b5,b6,b7,b8,u64,b9,cc,cg,ck,cm,cn,cp,cr,ct,cu,cv,cw,cz,cA,cB,cC,cD,cE,cF,cG,cH,c9,dc,de,dh,di,dm,dn,dr,cK,cL,cM,cN,cO,cQ,cR,cS,cT,cU,cV,cW,cZ,c4,c5,c6,c7,dw,dx,dy,dz,dA,dB,dD,dF,dG,dH,dI,dJ,dK,dL,dM,dN,dO,dP,dQ,dR,dS,dU,dV,dW,dX,dY,dZ,ec,ee,ef,fG,fH,fI,ei,ej,ek,en,eo,ep,er,eu,ew,ey,ez,eA,fJ,fK,fL,eB,eC,eD,eE,eF,eG,eH,eL,eM,eN,eO,eP,eR,eS,eT,eU,eV,eW,eX,eY,eZ,e3,e4,e5,e6,e7,e8,e9,fc,fe,ff,fh,fk,fm,fo,fq,gi,gj,fu,fA,fB,fC,fD,fE,fF,iH,iI,iJ,iK,iL,iM,iN,iO,iP,iQ,iR,iS,jg,jh,ji,jj,jk,jl,jm,jo,jW,jX,jY,jZ,j0,j3],defers:=[]} W'):
  Code.wp x_ MU Q {tmps:= #[.pointer (some ⟨G,0,none⟩),.slice gM bK gN,.int .i64 (bC:Int),bl,jP,jA,.pointer (some ⟨bg,0,none⟩),.int .i64 (ja:Int),.int .i64 left,.int .i64 2000,gV,gH,gn,.int .i64 0,.int .i64 p,gT,u16,gp,gq,gr,gG,gu,gv,gw,gx,gy,gz,gA,gB,fO,fP,fQ,u32,fR,fS,fT,fU,fV,fW,fZ,ga,gb,gd,gh,gC,gD,ij,hU,ia,bP,bQ,bR,bS,bT,bU,bV,bW,bX,bY,bZ,b5,b6,b7,b8,u64,b9,cc,cg,ck,cm,cn,cp,cr,ct,cu,cv,cw,cz,cA,cB,cC,cD,cE,cF,cG,cH,c9,dc,de,dh,di,dm,dn,dr,cK,cL,cM,cN,cO,cQ,cR,cS,cT,cU,cV,cW,cZ,c4,c5,c6,c7,dw,dx,dy,dz,dA,dB,dD,dF,dG,dH,dI,dJ,dK,dL,dM,dN,dO,dP,dQ,dR,dS,dU,dV,dW,dX,dY,dZ,ec,ee,ef,fG,fH,fI,ei,ej,ek,en,eo,ep,er,eu,ew,ey,ez,eA,fJ,fK,fL,eB,eC,eD,eE,eF,eG,eH,eL,eM,eN,eO,eP,eR,eS,eT,eU,eV,eW,eX,eY,eZ,e3,e4,e5,e6,e7,e8,e9,fc,fe,ff,fh,fk,fm,fo,fq,gi,gj,fu,fA,fB,fC,fD,fE,fF,iH,iI,iJ,iK,iL,iM,iN,iO,iP,iQ,iR,iS,jg,jh,ji,jj,jk,jl,jm,jo,jW,jX,jY,jZ,j0,j3],defers:=[]} W:=by
 have bk:=U ar;have y:=U C;have az:=U S;have aA:=U (S.nt C);have Z:=U (z_ T (z_ ao (z_ X Y)));have bn:bJ (∀b,w0.heap.size<=b->¬aZ b):=U λ b f=>C.DJ f
 have aC:=U (MS S.fN S.kg.gR.aK S.kg.gR.jN (by have:=aA.o;omega) (by have:=aA.o;omega) (p:=p) (by rw[S.kg.rg.iX];exact X) Y);clear ar C S T ao X Y
 conv=>arg 2;whnf
 dsimp only
 go_upto_region 32 with(go_at_call 153;refine aC.o.mono ?_;rintro e w1 ⟨i,co,out,rfl,wQ,aD,aE,aF,un,aH⟩;dsimp only)
 have a:=U ((az.o.below aD).below (bz w1 (.cells #[.slice i out.length co] 25)));have aJ:(w1.alloc (.cells #[.slice i out.length co] 25)).cell? ⟨w1.heap.size,0,none⟩=some (.slice i out.length co):=by go_simp
 have aM:=U aJ;have bo:=U (wQ.alloc (.cells #[.slice i out.length co] 25));have aN:∀b,i.map (·.block)=some b->0<out.length->b<w1.heap.size:=λ b e bp=>by
  obtain⟨bH,off,aO,h1,_⟩:=wQ.cells bp;rw[aO] at e;injection e with e;exact e▸h1
 have bq:=U aN;have br:bJ (w1.heap.size<(w1.alloc (.cells #[.slice i out.length co] 25)).heap.size):=U (by simp);have J:=U (z_ aE (z_ aF un));have bs:bJ (∀b,i.map (·.block)=some b->b≠bg):=U (λ b e=>by have h1:=aH b e;have z:=az.o.j5.lt;omega);clear aJ aN wQ aD aE aF un aH aC;generalize w1.alloc (.cells #[.slice i out.length co] 25)=V at*;generalize w1.heap.size=A at*;have L:=a.o.j5.cell 0;have M:=a.o.j5.cell 1;have N:=a.o.j5.cell 2;have O:=a.o.j5.cell 3;have aP:=a.o.j5.free 0;have aQ:=a.o.j5.free 1;have aR:=a.o.j5.free 2;have aS:=a.o.j5.free 3;simp only[mY,m_,l_] at L M N O;have bI:∀(fn:Fn)(first cap:Array Value)(w:World),(Instr.makeFunc fn first cap).run x_ w=.ok (.func fn first cap) w:=λ _ _ _ _=>rfl
 go_upto_region 33 with fail
 clear L M N O aP aQ aR aS;have aU:bJ (aT (V.setCell ⟨bg,0,none⟩ (.int .i64 2)) bg 30 [.int .i64 2,mY,mY,.int .i64 (aB:Int)]):=U (a.o.j5.set 0 _);have B:=U (a.o.fN.uR a.o.sB 0 (.int .i64 2));have aV:=U (aG.DL a.o 0 (.int .i64 2));have bt:A≠bg:=λ e=>by
  have h1:V.heap[bg]? =_:=a.o.j5;have z:=aM.o;rw[e] at z;have aa:=a.o.j5.cell 0;rw[aa] at z;simp at z
 have c3:(V.setCell ⟨bg,0,none⟩ (.int .i64 2)).cell? ⟨A,0,none⟩=some (.slice i out.length co):=by
  rw[World.cell?_setCell_other _ _ _ _ (by simp[bt])];exact aM.o
 have aW:=((a.o.G5 y.o).jr (aG.set (K:=gX) bg 0 (.int .i64 2) a.o.tG) y.o.G3)
 have aX:aL (V.setCell ⟨bg,0,none⟩ (.int .i64 2)) i out.length co out:=bo.o.jr (aG.set (K:=λ b=>b≠bg) bg 0 (.int .i64 2) (λ h=>h rfl)) (λ b e _=>bs.o b e);have E:bJ (A<V.heap.size/\∀b,i.map (·.block)=some b->0<out.length->b<A):=U ⟨br.o,bq.o⟩;have aY:(V.setCell ⟨bg,0,none⟩ (.int .i64 2)).heap.size=V.heap.size:=by simp
 generalize V.setCell ⟨bg,0,none⟩ (.int .i64 2)=j at*;have D:=U (z_ c3 (z_ aX aY));have bu:=U (vj gM bK gN ah j aW);have bw:=B.o.e;have bx:bJ (∀(H:Option Addr)(l:Nat)(v:World),v.ownsRow j.heap.size 3 1 (.slice H ah.length l) ah.length (ah.map (d_ .i64))->Below j.heap.size j v->∃g,H=some ⟨g,0,none⟩/\j.heap.size<=g/\g<v.heap.size/\Calls x_ 85 #[.slice (some ⟨g,0,none⟩) ah.length l,.func (.func 154) #[] #[.pointer (some ⟨A,0,none⟩)]] v λ e w'=>
   ∃m,e=.returned (.slice (some ⟨g,0,none⟩) m l)/\Own w' j.heap.size g m l (ah.filter λ x=>hasB out x)/\Below j.heap.size v w'):=U (by
  intro H l v P f;have hl:=y.o.xY;have T:=Z.o.1;obtain⟨k,hk⟩:∃k,ah.length=k+1:=⟨ah.length-1,by omega⟩
  rw[hk] at P⊢;obtain⟨g,cap,bA⟩:=CG P;injection bA with bB aO bL
  subst bB;have ab:=P.lt g rfl;refine⟨g,rfl,ab.1,ab.2,MP v j.heap.size g (k+1) l ah P ab.1 ((f.cell (p:=⟨A,0,none⟩) (by rw[D.o.2.2];exact E.o.1)).trans D.o.1) (j_ (by rw[D.o.2.2];exact E.o.1) f.size) (by have:=E.o.1;have:=D.o.2.2;omega) (D.o.2.1.below f) (λ b e=>?_)⟩;have bD:0<out.length:=List.length_pos_iff.2 (λ e=>by have h:=J.o.2.1;rw[e] at h;cases h);have h1:=E.o.2 b e bD;have z:=E.o.1;have aa:=D.o.2.2;have bE:=f.size;exact⟨by omega,by omega⟩)
 clear aW c3 aX aY bw
 go_upto_region 34 with(first
  |(go_at_call 81;refine bu.o.mono ?_;rintro e bF ⟨H,l,rfl,a6,ad⟩;dsimp only;obtain⟨g,rfl,a7,a8,ae⟩:=bx.o H l bF a6 ad;have ae:=U ae;have u:=U (z_ ad (z_ a7 a8));clear a6 ad a7 a8)
  |(go_at_call 85;refine ae.o.mono ?_;rintro e I ⟨m,rfl,a',af⟩;dsimp only;have ai:=U (aU.o.below (u.o.1.trans af));have R:=U (z_ a' af);clear a' af;have f2:=ai.o.free 2;have ba:=ai.o.cell 2;simp only[mY,m_,l_] at ba))
 have t:=U (ai.o.set 2 (.slice (some ⟨g,0,none⟩) m l));have L:=t.o.cell 0;have M:=t.o.cell 1;have N:=t.o.cell 2;have O:=t.o.cell 3;have aP:=t.o.free 0;have aQ:=t.o.free 1;have aR:=t.o.free 2;have aS:=t.o.free 3;simp only[mY,List.set_cons_succ,List.set_cons_zero,m_,l_] at L M N O;clear f2 ba;have ak:Below j.heap.size j I:=u.o.1.trans R.o.2;have bb:g<I.heap.size:=j_ u.o.2.2 R.o.2.size;have bc:=(B.o.below ak).1;have bd:=bc.qD (g:=g) bb (by have:=B.o.e.box.lt;have:=u.o.2.1;omega) (λ r e=>by have:=(B.o.e.rows.lt e).2;have:=u.o.2.1;omega) (λ d ag e=>by have:=(B.o.e.cls d ag).lt;have:=u.o.2.1;omega);have al:aG (λ b=>K b/\b≠bg) V I:=aV.o.trans ((aG.q4 ak B.o.s.lt).mono λ b f=>f.1);have bf:g≠bg:=by have:=aU.o.lt;have:=u.o.2.1;omega
 have hm:m<=1000:=by
  have h1:=R.o.1.len;have z:=p_ (λ x=>hasB out x) ah;have aa:=y.o.xY;have bE:=y.o.G2;omega
 have an:r6 aZ gX base w0 G F ah n fM aI bg bC (qD K g) I hs cb s aB s.c.ag 2 none 0 0 (some ⟨g,0,none⟩) m l:=by
  have f0:aG gX V I:=al.mono λ b f=>⟨a.o.q9 b f,λ e=>a.o.tG (e▸f)⟩
  refine⟨λ b f=>.inl (a.o.q9 b f),bd,a.o.jr.trans f0,a.o.kg,.inl a.o.sB,a.o.tG,a.o.wS.kept (f0.mono λ b f=>f.1) rfl rfl,λ q bG=>((a.o.wT q bG).jr (al.mono λ b f=>f.1)).mono λ b f=>⟨⟨.inl f.1.1,f.1.2⟩,f.2⟩,a.o.wU,a.o.uS,a.o.mQ,.inr (.inl ⟨rfl,rfl,ah.filter λ x=>hasB out x,R.o.1.wQ (by omega),λ b e=>?_,List.filter_sublist,?_⟩)⟩
  ·injection e with e
   have e:g=b:=e;subst e;exact⟨⟨.inr rfl,bf⟩,bn.o _ (Nat.le_trans a.o.jr.size (Nat.le_trans aV.o.size u.o.2.1))⟩
  ·exact a.o.kg.core (by rw[y.o.xY];exact Z.o.1) Z.o.2.1 J.o.1 J.o.2.2 J.o.2.1
 have an:=U an;clear ak bb bc bd al bf hm
 go_wp2_with fail
 apply bk.o
 ·exact((((((an.o.set 2 _).set 0 _).set 1 _).set 2 _).set 3 _))
 ·exact((((t.o.set 0 _).set 1 _).set 2 _).set 3 _)
structure DQ(aZ gX:Nat->Prop)(base:Nat)(w0:World)(G:Nat)(F:List (List Int))(ah:List Int)(n fM jD:Nat)(aI:aq)(bg bC bK:Nat)(K:Nat->Prop)(cb:Nat->Nat)(aB k4:Nat)(ox:List Int)(hs:Nat->ax)(s:aq)(next:Int)(W:World)(g:Nat):Prop where
 S:mL aZ gX base w0 G F ah n fM jD aI bg bC K W hs cb s aB s.c.ag
 fix:s.c.ag=s.c.av.length
 l9:s.c.l9=false
 aM:s.aM.length=k4
 av:s.c.av=ox
 MW:next=0\/(next≠0/\gK n next/\j9 s.c next=0/\s.c.st.length<bK/\aj ah s.c.st.length=next)
 g:g=2*(bK-s.c.st.length)+(if next=0 then 1 else 0)
inductive xZ(aZ gX:Nat->Prop)(base:Nat)(w0:World)(G:Nat)(F:List (List Int))(ah:List Int)(n fM jD:Nat)(aI:aq)(gM:Option Addr)(bK gN bg bC:Nat)(K:Nat->Prop)(cb:Nat->Nat)(aB ja:Nat)(left:Int)(k4:Nat)(ox:List Int):Nat->Act->World->Prop
 |mk {hs:Nat->ax} {s:aq} {next:Int} {g:Nat} {bl jP jA gV gH gn gI gT u16 gp gq gr gG gu gv gw gx gy gz gA gB fO fP fQ u32 fR fS fT fU fV fW fZ ga gb gd gh gC gD ij hU ia bP bQ bR bS bT bU bV bW bX bY bZ b5 b6 b7 b8 u64 b9 cc cg ck cm cn cp cr ct cu cv cw cz cA cB cC cD cE cF cG cH c9 dc de dh di dm dn dr cK cL cM cN cO cQ cR cS cT cU cV cW cZ c4 c5 c6 c7 dw dx dy dz dA dB dD dF dG dH dI dJ dK dL dM dN dO dP dQ dR dS dU dV dW dX dY dZ ec ee ef fG fH fI ei ej ek en eo ep er eu ew ey ez eA fJ fK fL eB eC eD eE eF eG eH eL eM eN eO eP eR eS eT eU eV eW eX eY eZ e3 e4 e5 e6 e7 e8 e9 fc fe ff fh fk fm fo fq gi gj fu fA fB fC fD fE fF iH iI iJ iK iL iM iN iO iP iQ iR iS jg jh ji jj jk jl jm jo jW jX jY jZ j0 j3:Value} {W:World} (h:DQ aZ gX base w0 G F ah n fM jD aI bg bC bK K cb aB k4 ox hs s next W g):xZ aZ gX base w0 G F ah n fM jD aI gM bK gN bg bC K cb aB ja left k4 ox g {tmps:= #[.pointer (some ⟨G,0,none⟩),.slice gM bK gN,.int .i64 (bC:Int),bl,jP,jA,.pointer (some ⟨bg,0,none⟩),.int .i64 (ja:Int),.int .i64 left,.int .i64 2000,gV,gH,gn,.int .i64 next,gI,gT,u16,gp,gq,gr,gG,gu,gv,gw,gx,gy,gz,gA,gB,fO,fP,fQ,u32,fR,fS,fT,fU,fV,fW,fZ,ga,gb,gd,gh,gC,gD,ij,hU,ia,bP,bQ,bR,bS,bT,bU,bV,bW,bX,bY,bZ,b5,b6,b7,b8,u64,b9,cc,cg,ck,cm,cn,cp,cr,ct,cu,cv,cw,cz,cA,cB,cC,cD,cE,cF,cG,cH,c9,dc,de,dh,di,dm,dn,dr,cK,cL,cM,cN,cO,cQ,cR,cS,cT,cU,cV,cW,cZ,c4,c5,c6,c7,dw,dx,dy,dz,dA,dB,dD,dF,dG,dH,dI,dJ,dK,dL,dM,dN,dO,dP,dQ,dR,dS,dU,dV,dW,dX,dY,dZ,ec,ee,ef,fG,fH,fI,ei,ej,ek,en,eo,ep,er,eu,ew,ey,ez,eA,fJ,fK,fL,eB,eC,eD,eE,eF,eG,eH,eL,eM,eN,eO,eP,eR,eS,eT,eU,eV,eW,eX,eY,eZ,e3,e4,e5,e6,e7,e8,e9,fc,fe,ff,fh,fk,fm,fo,fq,gi,gj,fu,fA,fB,fC,fD,fE,fF,iH,iI,iJ,iK,iL,iM,iN,iO,iP,iQ,iR,iS,jg,jh,ji,jj,jk,jl,jm,jo,jW,jX,jY,jZ,j0,j3],defers:=[]} W
theorem xZ.elim(b:xZ aZ gX base w0 G F ah n fM jD aI gM bK gN bg bC K cb aB ja left k4 ox g a W){P:Prop}
  (k:∀{hs:Nat->ax}{s:aq}{next:Int}{c d e f i j l m u16 o p q r t u v w x y z A B C D u32 E H I J L M N O Q R S T U V X Y Z aa ab ad ae af ag ai aj ak al an ao ar au u64 av aw ay az aA aC aD aE aF aG aH aJ aK aL aM aN aO aP aQ aR aS aT aU aV aW aX aY a6 a7 a8 a' ba bb bc bd bf bh bj bk bl bn bo bp bq br bs bt bu bw bx bz bA bB bD bE bF bG bH bI bJ bL bM bN bO bP bQ bR bS bT bU bV bW bX bY bZ b0 b1 b2 b3 b4 b5 b6 b7 b8 b9 b' ca cc cd cf cg ch cj ck cm cn cp cq cr ct cu cv cw cx cy cz cA cB cC cD cE cF cG cH cI cJ cK cL cM cN cO cP cQ cR cS cT cU cV cW cX cY cZ c0 c4 c5 c6 c7 c8 c9 da db dc dd de df dh di dj dk dm dn dp dq dr dt du dv dw dx dy dz dA dB dC dD:Value},a={tmps:= #[.pointer (some ⟨G,0,none⟩),.slice gM bK gN,.int .i64 (bC:Int),c,d,e,.pointer (some ⟨bg,0,none⟩),.int .i64 (ja:Int),.int .i64 left,.int .i64 2000,f,i,j,.int .i64 next,l,m,u16,o,p,q,r,t,u,v,w,x,y,z,A,B,C,D,u32,E,H,I,J,L,M,N,O,Q,R,S,T,U,V,X,Y,Z,aa,ab,ad,ae,af,ag,ai,aj,ak,al,an,ao,ar,au,u64,av,aw,ay,az,aA,aC,aD,aE,aF,aG,aH,aJ,aK,aL,aM,aN,aO,aP,aQ,aR,aS,aT,aU,aV,aW,aX,aY,a6,a7,a8,a',ba,bb,bc,bd,bf,bh,bj,bk,bl,bn,bo,bp,bq,br,bs,bt,bu,bw,bx,bz,bA,bB,bD,bE,bF,bG,bH,bI,bJ,bL,bM,bN,bO,bP,bQ,bR,bS,bT,bU,bV,bW,bX,bY,bZ,b0,b1,b2,b3,b4,b5,b6,b7,b8,b9,b',ca,cc,cd,cf,cg,ch,cj,ck,cm,cn,cp,cq,cr,ct,cu,cv,cw,cx,cy,cz,cA,cB,cC,cD,cE,cF,cG,cH,cI,cJ,cK,cL,cM,cN,cO,cP,cQ,cR,cS,cT,cU,cV,cW,cX,cY,cZ,c0,c4,c5,c6,c7,c8,c9,da,db,dc,dd,de,df,dh,di,dj,dk,dm,dn,dp,dq,dr,dt,du,dv,dw,dx,dy,dz,dA,dB,dC,dD],defers:=[]}->DQ aZ gX base w0 G F ah n fM jD aI bg bC bK K cb aB k4 ox hs s next W g->P):P:=by
 cases b with
 |mk h=>exact k rfl h
noncomputable def MX:Code:=(Tryz.f99.body.bind λ c=>qo c 2).getD .skip
theorem BV(l:List Nat):(l.map λ k:Nat=>(k:Int)).map (d_ .i64)=qg l:=by unfold qg;rw[List.map_map];rfl
theorem MY{aZ gX:Nat->Prop}{base:Nat}{w0:World}{G:Nat}{F:List (List Int)}{ah:List Int}{n fM jD:Nat}{aI:aq}{gM:Option Addr}{bK gN bg bC:Nat}{K:Nat->Prop}{W:World}{hs:Nat->ax}{cb:Nat->Nat}{s:aq}{aB ja:Nat}{left:Int}{bl jP jA gV gH gn gI gT u16 gp gq gr gG gu gv gw gx gy gz gA gB fO fP fQ u32 fR fS fT fU fV fW fZ ga gb gd gh gC gD ij hU ia bP bQ bR bS bT bU bV bW bX bY bZ b5 b6 b7 b8 u64 b9 cc cg ck cm cn cp cr ct cu cv cw cz cA cB cC cD cE cF cG cH c9 dc de dh di dm dn dr cK cL cM cN cO cQ cR cS cT cU cV cW cZ c4 c5 c6 c7 dw dx dy dz dA dB dD dF dG dH dI dJ dK dL dM dN dO dP dQ dR dS dU dV dW dX dY dZ ec ee ef fG fH fI ei ej ek en eo ep er eu ew ey ez eA fJ fK fL eB eC eD eE eF eG eH eL eM eN eO eP eR eS eT eU eV eW eX eY eZ e3 e4 e5 e6 e7 e8 e9 fc fe ff fh fk fm fo fq gi gj fu fA fB fC fD fE fF iH iI iJ iK iL iM iN iO iP iQ iR iS jg jh ji jj jk jl jm jo jW jX jY jZ j0 j3:Value}{Q:Exit->Act->World->Prop}
  (C:r5 aZ gX w0 F ah n fM jD aI gM bK gN bC) (S:mL aZ gX base w0 G F ah n fM jD aI bg bC K W hs cb s aB s.c.ag) (N:s.c.ag=s.c.av.length) (O:s.c.l9=false)
  (P:∀(hs:Nat->ax)(s':aq)(next:Int)(bl jP jA gV gH gn gI gT u16 gp gq gr gG gu gv gw gx gy gz gA gB fO fP fQ u32 fR fS fT fU fV fW fZ ga gb gd gh gC gD ij hU ia bP bQ bR bS bT bU bV bW bX bY bZ b5 b6 b7 b8 u64 b9 cc cg ck cm cn cp cr ct cu cv cw cz cA cB cC cD cE cF cG cH c9 dc de dh di dm dn dr cK cL cM cN cO cQ cR cS cT cU cV cW cZ c4 c5 c6 c7 dw dx dy dz dA dB dD dF dG dH dI dJ dK dL dM dN dO dP dQ dR dS dU dV dW dX dY dZ ec ee ef fG fH fI ei ej ek en eo ep er eu ew ey ez eA fJ fK fL eB eC eD eE eF eG eH eL eM eN eO eP eR eS eT eU eV eW eX eY eZ e3 e4 e5 e6 e7 e8 e9 fc fe ff fh fk fm fo fq gi gj fu fA fB fC fD fE fF iH iI iJ iK iL iM iN iO iP iQ iR iS jg jh ji jj jk jl jm jo jW jX jY jZ j0 j3:Value)(W':World),mL aZ gX base w0 G F ah n fM jD aI bg bC K W' hs cb s' aB s'.c.ag->s'.c.ag=s'.c.av.length->s'.c.l9=false->s'.aM.length=s.aM.length->s'.c.av=s.c.av->((next=0/\bK<=s'.c.st.length)\/(next≠0/\gK n next/\j9 s'.c next=0/\s'.c.st.length<bK/\aj ah s'.c.st.length=next))->Q (.exit 2) {tmps:= #[.pointer (some ⟨G,0,none⟩),.slice gM bK gN,.int .i64 (bC:Int),bl,jP,jA,.pointer (some ⟨bg,0,none⟩),.int .i64 (ja:Int),.int .i64 left,.int .i64 2000,gV,gH,gn,.int .i64 next,gI,gT,u16,gp,gq,gr,gG,gu,gv,gw,gx,gy,gz,gA,gB,fO,fP,fQ,u32,fR,fS,fT,fU,fV,fW,fZ,ga,gb,gd,gh,gC,gD,ij,hU,ia,bP,bQ,bR,bS,bT,bU,bV,bW,bX,bY,bZ,b5,b6,b7,b8,u64,b9,cc,cg,ck,cm,cn,cp,cr,ct,cu,cv,cw,cz,cA,cB,cC,cD,cE,cF,cG,cH,c9,dc,de,dh,di,dm,dn,dr,cK,cL,cM,cN,cO,cQ,cR,cS,cT,cU,cV,cW,cZ,c4,c5,c6,c7,dw,dx,dy,dz,dA,dB,dD,dF,dG,dH,dI,dJ,dK,dL,dM,dN,dO,dP,dQ,dR,dS,dU,dV,dW,dX,dY,dZ,ec,ee,ef,fG,fH,fI,ei,ej,ek,en,eo,ep,er,eu,ew,ey,ez,eA,fJ,fK,fL,eB,eC,eD,eE,eF,eG,eH,eL,eM,eN,eO,eP,eR,eS,eT,eU,eV,eW,eX,eY,eZ,e3,e4,e5,e6,e7,e8,e9,fc,fe,ff,fh,fk,fm,fo,fq,gi,gj,fu,fA,fB,fC,fD,fE,fF,iH,iI,iJ,iK,iL,iM,iN,iO,iP,iQ,iR,iS,jg,jh,ji,jj,jk,jl,jm,jo,jW,jX,jY,jZ,j0,j3],defers:=[]} W')
  (R:∀(K:Nat->Prop)(hs:Nat->ax)(cb:Nat->Nat)(s':aq)(h':Nat)(T:Option Addr)(V X:Nat)(bl jP jA gV gH gn aF gI gT u16 gp gq gr gG gu gv gw gx gy gz gA gB fO fP fQ u32 fR fS fT fU fV fW fZ ga gb gd gh gC gD ij hU ia bP bQ bR bS bT bU bV bW bX bY bZ b5 b6 b7 b8 u64 b9 cc cg ck cm cn cp cr ct cu cv cw cz cA cB cC cD cE cF cG cH c9 dc de dh di dm dn dr cK cL cM cN cO cQ cR cS cT cU cV cW cZ c4 c5 c6 c7 dw dx dy dz dA dB dD dF dG dH dI dJ dK dL dM dN dO dP dQ dR dS dU dV dW dX dY dZ ec ee ef fG fH fI ei ej ek en eo ep er eu ew ey ez eA fJ fK fL eB eC eD eE eF eG eH eL eM eN eO eP eR eS eT eU eV eW eX eY eZ e3 e4 e5 e6 e7 e8 e9 fc fe ff fh fk fm fo fq gi gj fu fA fB fC fD fE fF iH iI iJ iK iL iM iN iO iP iQ iR iS jg jh ji jj jk jl jm jo jW jX jY jZ j0 j3:Value)(W':World),r6 aZ gX base w0 G F ah n fM aI bg bC K W' hs cb s' aB h' 2 none 0 0 T V X->aT W' bg 30 [.int .i64 2,mY,.slice T V X,.int .i64 (aB:Int)]->Q .ret {tmps:= #[.pointer (some ⟨G,0,none⟩),.slice gM bK gN,.int .i64 (bC:Int),bl,jP,jA,.pointer (some ⟨bg,0,none⟩),.int .i64 (ja:Int),.int .i64 left,.int .i64 2000,gV,gH,gn,aF,gI,gT,u16,gp,gq,gr,gG,gu,gv,gw,gx,gy,gz,gA,gB,fO,fP,fQ,u32,fR,fS,fT,fU,fV,fW,fZ,ga,gb,gd,gh,gC,gD,ij,hU,ia,bP,bQ,bR,bS,bT,bU,bV,bW,bX,bY,bZ,b5,b6,b7,b8,u64,b9,cc,cg,ck,cm,cn,cp,cr,ct,cu,cv,cw,cz,cA,cB,cC,cD,cE,cF,cG,cH,c9,dc,de,dh,di,dm,dn,dr,cK,cL,cM,cN,cO,cQ,cR,cS,cT,cU,cV,cW,cZ,c4,c5,c6,c7,dw,dx,dy,dz,dA,dB,dD,dF,dG,dH,dI,dJ,dK,dL,dM,dN,dO,dP,dQ,dR,dS,dU,dV,dW,dX,dY,dZ,ec,ee,ef,fG,fH,fI,ei,ej,ek,en,eo,ep,er,eu,ew,ey,ez,eA,fJ,fK,fL,eB,eC,eD,eE,eF,eG,eH,eL,eM,eN,eO,eP,eR,eS,eT,eU,eV,eW,eX,eY,eZ,e3,e4,e5,e6,e7,e8,e9,fc,fe,ff,fh,fk,fm,fo,fq,gi,gj,fu,fA,fB,fC,fD,fE,fF,iH,iI,iJ,iK,iL,iM,iN,iO,iP,iQ,iR,iS,jg,jh,ji,jj,jk,jl,jm,jo,jW,jX,jY,jZ,j0,j3],defers:=[]} W'):
  Code.wp x_ MX Q {tmps:= #[.pointer (some ⟨G,0,none⟩),.slice gM bK gN,.int .i64 (bC:Int),bl,jP,jA,.pointer (some ⟨bg,0,none⟩),.int .i64 (ja:Int),.int .i64 left,.int .i64 2000,gV,gH,gn,.int .i64 0,gI,gT,u16,gp,gq,gr,gG,gu,gv,gw,gx,gy,gz,gA,gB,fO,fP,fQ,u32,fR,fS,fT,fU,fV,fW,fZ,ga,gb,gd,gh,gC,gD,ij,hU,ia,bP,bQ,bR,bS,bT,bU,bV,bW,bX,bY,bZ,b5,b6,b7,b8,u64,b9,cc,cg,ck,cm,cn,cp,cr,ct,cu,cv,cw,cz,cA,cB,cC,cD,cE,cF,cG,cH,c9,dc,de,dh,di,dm,dn,dr,cK,cL,cM,cN,cO,cQ,cR,cS,cT,cU,cV,cW,cZ,c4,c5,c6,c7,dw,dx,dy,dz,dA,dB,dD,dF,dG,dH,dI,dJ,dK,dL,dM,dN,dO,dP,dQ,dR,dS,dU,dV,dW,dX,dY,dZ,ec,ee,ef,fG,fH,fI,ei,ej,ek,en,eo,ep,er,eu,ew,ey,ez,eA,fJ,fK,fL,eB,eC,eD,eE,eF,eG,eH,eL,eM,eN,eO,eP,eR,eS,eT,eU,eV,eW,eX,eY,eZ,e3,e4,e5,e6,e7,e8,e9,fc,fe,ff,fh,fk,fm,fo,fq,gi,gj,fu,fA,fB,fC,fD,fE,fF,iH,iI,iJ,iK,iL,iM,iN,iO,iP,iQ,iR,iS,jg,jh,ji,jj,jk,jl,jm,jo,jW,jX,jY,jZ,j0,j3],defers:=[]} W:=by
 have z:=U P;have aG:=U R;have i:=U C;have Y:DQ aZ gX base w0 G F ah n fM jD aI bg bC bK K cb aB s.aM.length s.c.av hs s 0 W (2*(bK-s.c.st.length)+1):=⟨S,N,O,rfl,rfl,.inl rfl,by rw[if_pos rfl]⟩
 clear P R C S N O
 conv=>arg 2;whnf
 dsimp only;refine g_ (xZ aZ gX base w0 G F ah n fM jD aI gM bK gN bg bC K cb aB ja left s.aM.length s.c.av) (2*(bK-s.c.st.length)+1) ?start ?round
 case start=>exact xZ.mk Y
 case round=>
  clear Y;obtain⟨bb,Z⟩:∃t,s.aM.length=t:=⟨_,rfl⟩
  obtain⟨bc,aa⟩:∃t,s.c.av=t:=⟨_,rfl⟩
  rw[Z,aa] at z⊢;clear Z aa W hs s;intro g a W ab bd aH ad ae;refine ab.elim ?_;intro hs s next bl jP jA gV gH gn gI gT u16 gp gq gr gG gu gv gw gx gy gz gA gB fO fP fQ u32 fR fS fT fU fV fW fZ ga gb gd gh gC gD ij hU ia bP bQ bR bS bT bU bV bW bX bY bZ b5 b6 b7 b8 u64 b9 cc cg ck cm cn cp cr ct cu cv cw cz cA cB cC cD cE cF cG cH c9 dc de dh di dm dn dr cK cL cM cN cO cQ cR cS cT cU cV cW cZ c4 c5 c6 c7 dw dx dy dz dA dB dD dF dG dH dI dJ dK dL dM dN dO dP dQ dR dS dU dV dW dX dY dZ ec ee ef fG fH fI ei ej ek en eo ep er eu ew ey ez eA fJ fK fL eB eC eD eE eF eG eH eL eM eN eO eP eR eS eT eU eV eW eX eY eZ e3 e4 e5 e6 e7 e8 e9 fc fe ff fh fk fm fo fq gi gj fu fA fB fC fD fE fF iH iI iJ iK iL iM iN iO iP iQ iR iS jg jh ji jj jk jl jm jo jW jX jY jZ j0 j3 j H
  clear ab;subst j;have b:=U H;have af:=U ad;have ai:=U ae;have ak:=U (H.S.nt i.o);obtain⟨q,kf,r,u⟩:∃A n c,hs 5=⟨A,n,c⟩:=⟨_,_,_,rfl⟩
  have bf:W.cell? ⟨G,6,none⟩=some (.slice q kf r):=by have:=H.S.fN.e.kJ (k:=6) (v:=(hs 5).v) rfl;rw[u] at this;exact this
  have al:kf=s.c.st.length:=by have:=H.S.fN.e.kf;rw[u] at this;exact this
  have f:=U (z_ u al);clear u al ad ae
  by_cases B:next=0
  ·subst B;clear H
   by_cases l:kf<bK
   ·have D:(kf:Int)<(bK:Int):=by omega
    have d5:decide ((kf:Int)<(bK:Int))=true:=decide_eq_true D;obtain⟨bh,bj,rfl,aJ,an⟩:=(b.o.S.G5 i.o).cells (by omega);obtain⟨p,hp⟩:∃p,je ah kf=p:=⟨_,rfl⟩
    have aN:=an kf l;rw[hp] at aN;have E:aj ah kf=p:=hp;have ao:p∈ah:=by rw[<-E];exact lZ (by rw[i.o.xY];exact l)
    have I:=i.o.Mw p ao;have w:=U (Bw b.o.S.fN b.o.S.kg.gR.aK (by have:=ak.o;omega) (x:=p) (by rw[b.o.S.kg.rg.iX];exact I));obtain⟨t,J⟩:∃t,j9 s.c p=t:=⟨_,rfl⟩
    have ar:=b.o.S.kg.gR.aK.range p;rw[J] at w ar;have d:=U (z_ l (z_ E (z_ I J)));clear l hp E ao I J an aJ;rcases ar with rfl|rfl|rfl
    ·
     go_wp2_with (go_at_call 152;refine w.o.mono ?_;rintro e w1 ⟨rfl,rfl⟩;dsimp only)
     have au:p≠0:=d.o.2.2.1.oC;refine ai.o _ _ (q_ (2*(bK-s.c.st.length)) ?_ (af.o _ _ _ (xZ.mk (hs:=hs) (s:=s) (next:=p) ⟨b.o.S,b.o.fix,b.o.l9,b.o.aM,b.o.av,.inr ⟨au,d.o.2.2.1,d.o.2.2.2,?_,?_⟩,?_⟩)))
     ·have:=b.o.g;rw[if_pos rfl] at this;omega
     ·rw[<-f.o.2];exact d.o.1
     ·rw[<-f.o.2];exact d.o.2.1
     ·rw[if_neg au];rfl
    ·
     obtain⟨aw,kA,ay,y⟩:∃A n c,hs 4=⟨A,n,c⟩:=⟨_,_,_,rfl⟩
     have bk:W.cell? ⟨G,5,none⟩=some (.slice aw kA ay):=by have:=b.o.S.fN.e.kJ (k:=5) (v:=(hs 4).v) rfl;rw[y] at this;exact this
     have az:kA=s.c.av.length:=by have:=b.o.S.fN.e.kA;rw[y] at this;exact this
     have aA:=U (z_ az y);clear y az
     go_upto_region 29 with(go_at_call 152;refine w.o.mono ?_;rintro e w1 ⟨rfl,rfl⟩;dsimp only)
     have m:=U (b.o.S.fN.below ((bz W (.cells #[.int .i64 (kA:Int)] 3)).drew));have aO:bJ (((W.alloc (.cells #[.int .i64 (kA:Int)] 3)).drew).ownsRow base 3 1 (.slice q kf r) kf ((s.c.st.map λ k:Nat=>(k:Int)).map (d_ .i64))):=U (by
      have h1:=m.o.1.e.rows.row 5;rw[f.o.1] at h1;rw[BV];exact h1)
     have aP:=U (Nat.le_of_lt m.o.1.e.lt);have aQ:bJ (kf<=1100):=U (by have:=ak.o;have:=f.o.2;omega);have aR:bJ (∀v9 bM,nj ((W.alloc (.cells #[.int .i64 (kA:Int)] 3)).drew) base 3 (.slice q kf r) (kf+1) (((s.c.st.map λ k:Nat=>(k:Int))++[(kA:Int)]).map (d_ .i64)) v9 bM->nj ((W.alloc (.cells #[.int .i64 (kA:Int)] 3)).drew) base 3 (hs 5).v (s.c.st.length+1) (qg (s.c.st++[kA])) v9 bM):=U (λ v9 bM j=>by
      rw[f.o.1,<-f.o.2,<-BV,List.map_append];exact j)
     have L:=m.o.1.e.kJ (k:=6) (v:=(hs 5).v) rfl;have M:=m.o.1.e.kJ (k:=5) (v:=(hs 4).v) rfl;rw[f.o.1] at L;rw[aA.o.2] at M;have L:((W.alloc (.cells #[.int .i64 (kA:Int)] 3)).drew).cell? ⟨G,6,none⟩=some (.slice q kf r):=L;have M:((W.alloc (.cells #[.int .i64 (kA:Int)] 3)).drew).cell? ⟨G,5,none⟩=some (.slice aw kA ay):=M;refine wp_region_noPanic ?_
     go_region_law (refine E0 rfl (.tmp 131) (.tmp 137) rfl base (.slice q kf r) kf (s.c.st.map λ k:Nat=>(k:Int)) rfl aO.o (some ⟨W.heap.size,0,none⟩) 1 1 [(kA:Int)] rfl ((aL.lit W [(kA:Int)] 1 _ rfl rfl (by omega)).drew) (by have:=aQ.o;omega) aP.o ?_;intro v9 bM j;obtain⟨⟨A',aS,c'⟩,aU,bn,bo,f9,aC,aV⟩:=aY.FZ (x:=kA) m.o.1 (aR.o v9 bM j);obtain rfl:v9=.slice A' aS c':=aU;clear j)
     all_goals
      have aW:p∈s.c.av:=(b.o.S.kg.gR.aK.pos p (by rw[b.o.S.kg.rg.iX];exact d.o.2.2.1)).1 d.o.2.2.2;have aX:=b.o.S.kg.level b.o.fix b.o.l9 (by rw[i.o.xY,<-f.o.2];exact d.o.1) (by rw[<-f.o.2,d.o.2.1];exact aW);rw[aA.o.1] at aC;have a6:=b.o.S.move (s':={s with c:=nk s.c}) aC (m.o.2.trans aV) aX rfl rfl rfl;show aH _ _;refine ai.o _ _ (q_ (2*(bK-(s.c.st.length+1))+1) ?_ (af.o _ _ _ (xZ.mk (s:={s with c:=nk s.c}) (next:=0) ⟨a6,b.o.fix,b.o.l9,b.o.aM,b.o.av,.inl rfl,?_⟩)))
      ·have h1:=b.o.g;rw[if_pos rfl] at h1;have bp:=d.o.1;have bq:=f.o.2;omega
      ·rw[if_pos rfl];show _=2*(bK-(s.c.st++[s.c.av.length]).length)+1;rw[n_];rfl
    ·
     have aD: -p∈s.c.av:=(b.o.S.kg.gR.aK.xB (by rw[b.o.S.kg.rg.iX];exact d.o.2.2.1)).1 d.o.2.2.2;have a7:=U aD;clear aD
     go_upto_region 30 with(go_at_call 152;refine w.o.mono ?_;rintro e w1 ⟨rfl,rfl⟩;dsimp only)
     rename_i br aE;have a8:=U aE;clear aE
     go_wp2_with fail
     apply a8.o;refine wp_cond (t:=true) rfl ?_;rw[if_pos rfl];refine MV i.o b.o.S (by rw[<-f.o.2];exact d.o.1) (by rw[<-f.o.2];exact d.o.2.1) d.o.2.2.1 a7.o ?_;exact aG.o
   ·have D:¬(kf:Int)<(bK:Int):=by omega
    have d5:decide ((kf:Int)<(bK:Int))=false:=decide_eq_false D;have a':=U l;clear l
    go_wp2_with fail
    apply z.o hs s 0
    ·exact b.o.S
    ·exact b.o.fix
    ·exact b.o.l9
    ·exact b.o.aM
    ·exact b.o.av
    ·exact .inl ⟨rfl,by have:=a'.o;have:=f.o.2;omega⟩
  ·have bs:decide (next=0)=false:=decide_eq_false B;have ba:bJ (next≠0/\gK n next/\j9 s.c next=0/\s.c.st.length<bK/\aj ah s.c.st.length=next):=U (by
    rcases H.MW with h|h
    ·exact absurd h B
    ·exact h)
   clear H
   go_wp2_with fail
   apply z.o hs s next
   ·exact b.o.S
   ·exact b.o.fix
   ·exact b.o.l9
   ·exact b.o.aM
   ·exact b.o.av
   ·exact .inr ba.o
theorem mq.ord{sp h:Nat}(S:mq F ah n fM s sp h){o p:List Int}(a:me n o p)(b:∀v:Nat,1<=v->v<=n->aj s.c.val v=0->0<=aj p v):mq F ah n fM {s with ord:=o,pl:=p} sp h:=
 ⟨S.gR,⟨S.rg.iX,a,S.rg.lg,S.rg.qi,S.rg.a0,S.rg.q7,S.rg.oG,S.rg.nG,S.rg.oU,S.rg.nH,S.rg.p5,S.rg.k4⟩,S.vJ,S.lb,b,S.aO,S.wK,S.ql,S.yC,S.v0,S.qE⟩
structure DR(aZ gX:Nat->Prop)(base:Nat)(w0:World)(G:Nat)(F:List (List Int))(ah:List Int)(n fM jD:Nat)(aI:aq)(bg bC:Nat)(K:Nat->Prop)(cb:Nat->Nat)(aB k4:Nat)(ox:List Int)(hs:Nat->ax)(s1:aq)(next:Int)(W:World):Prop where
 old:∃(kO:World)(vQ:Nat->ax)(s':aq),mL aZ gX base w0 G F ah n fM jD aI bg bC K kO vQ cb s' aB s'.c.ag/\aG K kO W/\s1={s' with ord:=s1.ord,pl:=s1.pl}
 fN:aY K base W G hs cb s1
 fix:s1.c.ag=s1.c.av.length
 l9:s1.c.l9=false
 aM:s1.aM.length=k4
 av:s1.c.av=ox
 lP:me n s1.ord s1.pl
 l5:∀v:Nat,1<=v->v<=n->aj s1.c.val v=0->v≠aC next->0<=aj s1.pl v
 kG:next≠0
 nl:gK n next
 qp:j9 s1.c next=0
 Ai:s1.c.st.length<ah.length->next=aj ah s1.c.st.length
structure Aj(aZ gX:Nat->Prop)(base:Nat)(w0:World)(G:Nat)(F:List (List Int))(ah:List Int)(n fM jD:Nat)(aI:aq)(bg bC:Nat)(K:Nat->Prop)(cb:Nat->Nat)(aB k4:Nat)(ox:List Int)(hs:Nat->ax)(s:aq)(next:Int)(W:World)(g:Nat):Prop where
 no:next=0->mL aZ gX base w0 G F ah n fM jD aI bg bC K W hs cb s aB s.c.ag/\s.c.ag=s.c.av.length/\s.c.l9=false/\s.aM.length=k4/\s.c.av=ox/\ah.length<=s.c.st.length
 yes:next≠0->DR aZ gX base w0 G F ah n fM jD aI bg bC K cb aB k4 ox hs s next W
 fN:aY K base W G hs cb s
 g:g=s.ord.length+(if next=0 then 1 else 0)
inductive wY(aZ gX:Nat->Prop)(base:Nat)(w0:World)(G:Nat)(F:List (List Int))(ah:List Int)(n fM jD:Nat)(aI:aq)(gM:Option Addr)(bK gN bg bC:Nat)(K:Nat->Prop)(cb:Nat->Nat)(aB ja:Nat)(left:Int)(k4:Nat)(ox:List Int):Nat->Act->World->Prop
 |mk {hs:Nat->ax} {s:aq} {next:Int} {g:Nat} {bl jP jA gV gH gn gI gT u16 gp gq gr gG gu gv gw gx gy gz gA gB fO fP fQ u32 fR fS fT fU fV fW fZ ga gb gd gh gC gD ij hU ia bP bQ bR bS bT bU bV bW bX bY bZ b5 b6 b7 b8 u64 b9 cc cg ck cm cn cp cr ct cu cv cw cz cA cB cC cD cE cF cG cH c9 dc de dh di dm dn dr cK cL cM cN cO cQ cR cS cT cU cV cW cZ c4 c5 c6 c7 dw dx dy dz dA dB dD dF dG dH dI dJ dK dL dM dN dO dP dQ dR dS dU dV dW dX dY dZ ec ee ef fG fH fI ei ej ek en eo ep er eu ew ey ez eA fJ fK fL eB eC eD eE eF eG eH eL eM eN eO eP eR eS eT eU eV eW eX eY eZ e3 e4 e5 e6 e7 e8 e9 fc fe ff fh fk fm fo fq gi gj fu fA fB fC fD fE fF iH iI iJ iK iL iM iN iO iP iQ iR iS jg jh ji jj jk jl jm jo jW jX jY jZ j0 j3:Value} {W:World} (h:Aj aZ gX base w0 G F ah n fM jD aI bg bC K cb aB k4 ox hs s next W g):wY aZ gX base w0 G F ah n fM jD aI gM bK gN bg bC K cb aB ja left k4 ox g {tmps:= #[.pointer (some ⟨G,0,none⟩),.slice gM bK gN,.int .i64 (bC:Int),bl,jP,jA,.pointer (some ⟨bg,0,none⟩),.int .i64 (ja:Int),.int .i64 left,.int .i64 2000,gV,gH,gn,.int .i64 next,gI,gT,u16,gp,gq,gr,gG,gu,gv,gw,gx,gy,gz,gA,gB,fO,fP,fQ,u32,fR,fS,fT,fU,fV,fW,fZ,ga,gb,gd,gh,gC,gD,ij,hU,ia,bP,bQ,bR,bS,bT,bU,bV,bW,bX,bY,bZ,b5,b6,b7,b8,u64,b9,cc,cg,ck,cm,cn,cp,cr,ct,cu,cv,cw,cz,cA,cB,cC,cD,cE,cF,cG,cH,c9,dc,de,dh,di,dm,dn,dr,cK,cL,cM,cN,cO,cQ,cR,cS,cT,cU,cV,cW,cZ,c4,c5,c6,c7,dw,dx,dy,dz,dA,dB,dD,dF,dG,dH,dI,dJ,dK,dL,dM,dN,dO,dP,dQ,dR,dS,dU,dV,dW,dX,dY,dZ,ec,ee,ef,fG,fH,fI,ei,ej,ek,en,eo,ep,er,eu,ew,ey,ez,eA,fJ,fK,fL,eB,eC,eD,eE,eF,eG,eH,eL,eM,eN,eO,eP,eR,eS,eT,eU,eV,eW,eX,eY,eZ,e3,e4,e5,e6,e7,e8,e9,fc,fe,ff,fh,fk,fm,fo,fq,gi,gj,fu,fA,fB,fC,fD,fE,fF,iH,iI,iJ,iK,iL,iM,iN,iO,iP,iQ,iR,iS,jg,jh,ji,jj,jk,jl,jm,jo,jW,jX,jY,jZ,j0,j3],defers:=[]} W
theorem wY.elim(b:wY aZ gX base w0 G F ah n fM jD aI gM bK gN bg bC K cb aB ja left k4 ox g a W){P:Prop}
  (k:∀{hs:Nat->ax}{s:aq}{next:Int}{c d e f i j l m u16 o p q r t u v w x y z A B C D u32 E H I J L M N O Q R S T U V X Y Z aa ab ad ae af ag ai aj ak al an ao ar au u64 av aw ay az aA aC aD aE aF aG aH aJ aK aL aM aN aO aP aQ aR aS aT aU aV aW aX aY a6 a7 a8 a' ba bb bc bd bf bh bj bk bl bn bo bp bq br bs bt bu bw bx bz bA bB bD bE bF bG bH bI bJ bL bM bN bO bP bQ bR bS bT bU bV bW bX bY bZ b0 b1 b2 b3 b4 b5 b6 b7 b8 b9 b' ca cc cd cf cg ch cj ck cm cn cp cq cr ct cu cv cw cx cy cz cA cB cC cD cE cF cG cH cI cJ cK cL cM cN cO cP cQ cR cS cT cU cV cW cX cY cZ c0 c4 c5 c6 c7 c8 c9 da db dc dd de df dh di dj dk dm dn dp dq dr dt du dv dw dx dy dz dA dB dC dD:Value},a={tmps:= #[.pointer (some ⟨G,0,none⟩),.slice gM bK gN,.int .i64 (bC:Int),c,d,e,.pointer (some ⟨bg,0,none⟩),.int .i64 (ja:Int),.int .i64 left,.int .i64 2000,f,i,j,.int .i64 next,l,m,u16,o,p,q,r,t,u,v,w,x,y,z,A,B,C,D,u32,E,H,I,J,L,M,N,O,Q,R,S,T,U,V,X,Y,Z,aa,ab,ad,ae,af,ag,ai,aj,ak,al,an,ao,ar,au,u64,av,aw,ay,az,aA,aC,aD,aE,aF,aG,aH,aJ,aK,aL,aM,aN,aO,aP,aQ,aR,aS,aT,aU,aV,aW,aX,aY,a6,a7,a8,a',ba,bb,bc,bd,bf,bh,bj,bk,bl,bn,bo,bp,bq,br,bs,bt,bu,bw,bx,bz,bA,bB,bD,bE,bF,bG,bH,bI,bJ,bL,bM,bN,bO,bP,bQ,bR,bS,bT,bU,bV,bW,bX,bY,bZ,b0,b1,b2,b3,b4,b5,b6,b7,b8,b9,b',ca,cc,cd,cf,cg,ch,cj,ck,cm,cn,cp,cq,cr,ct,cu,cv,cw,cx,cy,cz,cA,cB,cC,cD,cE,cF,cG,cH,cI,cJ,cK,cL,cM,cN,cO,cP,cQ,cR,cS,cT,cU,cV,cW,cX,cY,cZ,c0,c4,c5,c6,c7,c8,c9,da,db,dc,dd,de,df,dh,di,dj,dk,dm,dn,dp,dq,dr,dt,du,dv,dw,dx,dy,dz,dA,dB,dC,dD],defers:=[]}->Aj aZ gX base w0 G F ah n fM jD aI bg bC K cb aB k4 ox hs s next W g->P):P:=by
 cases b with
 |mk h=>exact k rfl h
noncomputable def MZ:Code:=(Tryz.f99.body.bind λ c=>qo c 5).getD .skip
theorem M0{aZ gX:Nat->Prop}{base:Nat}{w0:World}{G:Nat}{F:List (List Int)}{ah:List Int}{n fM jD:Nat}{aI:aq}{gM:Option Addr}{bK gN bg bC:Nat}{K:Nat->Prop}{W:World}{hs:Nat->ax}{cb:Nat->Nat}{s:aq}{aB ja k4:Nat}{ox:List Int}{left next g0:Int}{g:Nat}{bl jP jA gV gH gn gI gT u16 gp gq gr gG gu gv gw gx gy gz gA gB fO fP fQ u32 fR fS fT fU fV fW fZ ga gb gd gh gC gD ij hU ia bP bQ bR bS bT bU bV bW bX bY bZ b5 b6 b7 b8 u64 b9 cc cg ck cm cn cp cr ct cu cv cw cz cA cB cC cD cE cF cG cH c9 dc de dh di dm dn dr cK cL cM cN cO cQ cR cS cT cU cV cW cZ c4 c5 c6 c7 dw dx dy dz dA dB dD dF dG dH dI dJ dK dL dM dN dO dP dQ dR dS dU dV dW dX dY dZ ec ee ef fG fH fI ei ej ek en eo ep er eu ew ey ez eA fJ fK fL eB eC eD eE eF eG eH eL eM eN eO eP eR eS eT eU eV eW eX eY eZ e3 e4 e5 e6 e7 e8 e9 fc fe ff fh fk fm fo fq gi gj fu fA fB fC fD fE fF iH iI iJ iK iL iM iN iO iP iQ iR iS jg jh ji jj jk jl jm jo jW jX jY jZ j0 j3:Value}{Q:Exit->Act->World->Prop}
  (C:r5 aZ gX w0 F ah n fM jD aI gM bK gN bC) (O:Aj aZ gX base w0 G F ah n fM jD aI bg bC K cb aB k4 ox hs s next W g)
  (P:∀(hs:Nat->ax)(s':aq)(next:Int)(g:Nat)(bl jP jA gV gH gn gI gT u16 gp gq gr gG gu gv gw gx gy gz gA gB fO fP fQ u32 fR fS fT fU fV fW fZ ga gb gd gh gC gD ij hU ia bP bQ bR bS bT bU bV bW bX bY bZ b5 b6 b7 b8 u64 b9 cc cg ck cm cn cp cr ct cu cv cw cz cA cB cC cD cE cF cG cH c9 dc de dh di dm dn dr cK cL cM cN cO cQ cR cS cT cU cV cW cZ c4 c5 c6 c7 dw dx dy dz dA dB dD dF dG dH dI dJ dK dL dM dN dO dP dQ dR dS dU dV dW dX dY dZ ec ee ef fG fH fI ei ej ek en eo ep er eu ew ey ez eA fJ fK fL eB eC eD eE eF eG eH eL eM eN eO eP eR eS eT eU eV eW eX eY eZ e3 e4 e5 e6 e7 e8 e9 fc fe ff fh fk fm fo fq gi gj fu fA fB fC fD fE fF iH iI iJ iK iL iM iN iO iP iQ iR iS jg jh ji jj jk jl jm jo jW jX jY jZ j0 j3:Value)(W':World),Aj aZ gX base w0 G F ah n fM jD aI bg bC K cb aB k4 ox hs s' next W' g->(next=0->s'.ord.length=0)->Q (.exit 5) {tmps:= #[.pointer (some ⟨G,0,none⟩),.slice gM bK gN,.int .i64 (bC:Int),bl,jP,jA,.pointer (some ⟨bg,0,none⟩),.int .i64 (ja:Int),.int .i64 left,.int .i64 2000,gV,gH,gn,.int .i64 next,gI,gT,u16,gp,gq,gr,gG,gu,gv,gw,gx,gy,gz,gA,gB,fO,fP,fQ,u32,fR,fS,fT,fU,fV,fW,fZ,ga,gb,gd,gh,gC,gD,ij,hU,ia,bP,bQ,bR,bS,bT,bU,bV,bW,bX,bY,bZ,b5,b6,b7,b8,u64,b9,cc,cg,ck,cm,cn,cp,cr,ct,cu,cv,cw,cz,cA,cB,cC,cD,cE,cF,cG,cH,c9,dc,de,dh,di,dm,dn,dr,cK,cL,cM,cN,cO,cQ,cR,cS,cT,cU,cV,cW,cZ,c4,c5,c6,c7,dw,dx,dy,dz,dA,dB,dD,dF,dG,dH,dI,dJ,dK,dL,dM,dN,dO,dP,dQ,dR,dS,dU,dV,dW,dX,dY,dZ,ec,ee,ef,fG,fH,fI,ei,ej,ek,en,eo,ep,er,eu,ew,ey,ez,eA,fJ,fK,fL,eB,eC,eD,eE,eF,eG,eH,eL,eM,eN,eO,eP,eR,eS,eT,eU,eV,eW,eX,eY,eZ,e3,e4,e5,e6,e7,e8,e9,fc,fe,ff,fh,fk,fm,fo,fq,gi,gj,fu,fA,fB,fC,fD,fE,fF,iH,iI,iJ,iK,iL,iM,iN,iO,iP,iQ,iR,iS,jg,jh,ji,jj,jk,jl,jm,jo,jW,jX,jY,jZ,j0,j3],defers:=[]} W'):
  Code.wp x_ MZ Q {tmps:= #[.pointer (some ⟨G,0,none⟩),.slice gM bK gN,.int .i64 (bC:Int),bl,jP,jA,.pointer (some ⟨bg,0,none⟩),.int .i64 (ja:Int),.int .i64 left,.int .i64 2000,gV,gH,gn,.int .i64 next,gI,gT,u16,gp,gq,gr,gG,gu,gv,gw,gx,gy,gz,gA,gB,fO,fP,fQ,u32,fR,fS,fT,fU,fV,fW,fZ,ga,gb,gd,gh,gC,gD,ij,hU,ia,bP,bQ,bR,bS,bT,bU,bV,bW,bX,bY,bZ,b5,b6,b7,b8,u64,b9,cc,cg,ck,cm,cn,cp,cr,ct,cu,cv,cw,cz,cA,cB,cC,cD,cE,cF,cG,cH,c9,dc,de,dh,di,dm,dn,dr,cK,cL,cM,cN,cO,cQ,cR,cS,cT,cU,cV,cW,cZ,c4,c5,c6,c7,dw,dx,dy,dz,dA,dB,dD,dF,dG,dH,dI,dJ,dK,dL,dM,dN,dO,dP,dQ,dR,dS,dU,dV,dW,dX,dY,dZ,ec,ee,ef,fG,fH,fI,ei,ej,ek,en,eo,ep,er,eu,ew,ey,ez,eA,fJ,fK,fL,eB,eC,eD,eE,eF,eG,eH,eL,eM,eN,eO,eP,eR,eS,eT,eU,eV,eW,eX,eY,eZ,e3,e4,e5,e6,e7,e8,e9,fc,fe,ff,fh,fk,fm,fo,fq,gi,gj,fu,fA,fB,fC,fD,fE,fF,iH,iI,iJ,iK,iL,iM,iN,iO,iP,iQ,iR,iS,jg,jh,ji,jj,jk,jl,jm,jo,jW,jX,jY,jZ,j0,j3],defers:=[]} W:=by
 have R:=U P;have z:=U C;clear P C
 conv=>arg 2;whnf
 dsimp only;refine g_ (wY aZ gX base w0 G F ah n fM jD aI gM bK gN bg bC K cb aB ja left k4 ox) g ?start ?round
 case start=>exact wY.mk O
 case round=>
  clear O W hs s next g
  intro g a W S aX a6 V Y;refine S.elim ?_;intro hs s next bl jP jA gV gH gn gI gT u16 gp gq gr gG gu gv gw gx gy gz gA gB fO fP fQ u32 fR fS fT fU fV fW fZ ga gb gd gh gC gD ij hU ia bP bQ bR bS bT bU bV bW bX bY bZ b5 b6 b7 b8 u64 b9 cc cg ck cm cn cp cr ct cu cv cw cz cA cB cC cD cE cF cG cH c9 dc de dh di dm dn dr cK cL cM cN cO cQ cR cS cT cU cV cW cZ c4 c5 c6 c7 dw dx dy dz dA dB dD dF dG dH dI dJ dK dL dM dN dO dP dQ dR dS dU dV dW dX dY dZ ec ee ef fG fH fI ei ej ek en eo ep er eu ew ey ez eA fJ fK fL eB eC eD eE eF eG eH eL eM eN eO eP eR eS eT eU eV eW eX eY eZ e3 e4 e5 e6 e7 e8 e9 fc fe ff fh fk fm fo fq gi gj fu fA fB fC fD fE fF iH iI iJ iK iL iM iN iO iP iQ iR iS jg jh ji jj jk jl jm jo jW jX jY jZ j0 j3 aG H
  clear S;subst aG;have j:=U H;have B:=U V;have D:=U Y;obtain⟨aH,n7,aJ,E⟩:∃A n c,hs 7=⟨A,n,c⟩:=⟨_,_,_,rfl⟩
  have aL:W.cell? ⟨G,10,none⟩=some (.slice aH n7 aJ):=by have:=H.fN.e.kJ (k:=10) (v:=(hs 7).v) rfl;rw[E] at this;exact this
  have Z:n7=s.ord.length:=by have:=H.fN.e.n7;rw[E] at this;exact this
  have aa:=U Z;clear E Z V Y
  by_cases I:next=0
  ·subst I;have b:=U (H.no rfl);clear H;have a7:=U (b.o.1.nt z.o)
   by_cases l:0<n7
   ·have J:(0:Int)<(n7:Int):=by omega
    have d7:decide ((0:Int)<(n7:Int))=true:=decide_eq_true J;have L:=b.o.1.kg.rg.iX;have aM:=z.o.n10;have ab:=U (Km b.o.1.fN (by rw[L];exact b.o.1.kg.rg.lP) (by rw[L];exact b.o.1.kg.rg.lg) (by omega) (by rw[<-aa.o];exact l) (by have h1:=me.len b.o.1.kg.rg.lP;omega));have ad:=U l;clear l L aM
    go_upto_region 37 with(go_at_call 155;refine ab.o.mono ?_;rintro e w1 ⟨v,i,s1,rfl,aN,ae,af,aO,f,ag,q,ai,ak⟩;dsimp only)
    obtain⟨o,p,rfl⟩:=aO;have T:=b.o.1.kg.gR.aK;have al:v<=n:=by rw[<-b.o.1.kg.rg.iX];exact af
    have q:me n o p:=by rw[<-b.o.1.kg.rg.iX];exact q
    have f:aY K base w1 G i cb {s with ord:=o,pl:=p}:=f;have an:v<s.c.val.length:=by rw[T.ru];omega
    obtain⟨ao,ar,au,aP⟩:=f.e.lV 2 1 rfl f.e.js (by show s.c.val.length≠0;omega);have M:=f.e.zK ar (k:=v) an;replace au:w1.cell? ⟨G,2,none⟩=some (.slice (some ⟨ao,0,none⟩) s.c.val.length (i 1).c):=au;replace M:w1.cell? ⟨ao,v,none⟩=some (.int .i8 (aj s.c.val v)):=M;have a8:(v:Int)<(s.c.val.length:Int):=by omega
    have aQ:s.hM.length=n+1:=b.o.1.kg.rg.nG;obtain⟨av,aw,ay,aR⟩:=f.e.lV 12 9 rfl f.e.jU (by show s.hM.length≠0;omega);have r:=f.e.FB aw (k:=v) (by show v<s.hM.length;omega);replace ay:w1.cell? ⟨G,12,none⟩=some (.slice (some ⟨av,0,none⟩) s.hM.length (i 9).c):=ay;replace r:w1.cell? ⟨av,v,none⟩=some (.bool (iE s.hM v)):=r;have a':(v:Int)<(s.hM.length:Int):=by omega
    have wn:c_.wrap (-(v:Int))= -(v:Int):=by rw[i_];have:=z.o.n10;omega
    have X:=U (z_ ae (z_ al (z_ q (z_ f (z_ ag (z_ ai ak))))));clear aN ae af f ag q ai ak al an ar aP aw aR aQ T ab aL;obtain⟨y,N⟩:∃y,aj s.c.val v=y:=⟨_,rfl⟩
    rw[N] at M;have az:=U N;clear N
    by_cases t:y=0
    ·subst t;have aA:bJ (∀x:Int,x=v\/x= -(v:Int)->DR aZ gX base w0 G F ah n fM jD aI bg bC K cb aB k4 ox i {s with ord:=o,pl:=p} x w1):=U (λ x ba=>by
      have h1:=X.o.1;have w:aC x=v:=by unfold aC;omega
      have aD:gK n x:=⟨by rw[w];exact h1,by rw[w];exact X.o.2.1⟩
      refine⟨⟨W,hs,s,b.o.1,X.o.2.2.2.2.1,rfl⟩,X.o.2.2.2.1,b.o.2.1,b.o.2.2.1,b.o.2.2.2.1,b.o.2.2.2.2.1,X.o.2.2.1,λ u d m aS aE=>?_,aD.oC,aD,?_,λ h=>absurd h (Nat.not_lt.2 b.o.2.2.2.2.2)⟩
      ·rw[w] at aE;exact(X.o.2.2.2.2.2.2 u aE).2 (b.o.1.kg.un u d m aS)
      ·show j9 s.c x=0;unfold j9;rw[w,az.o];split<;>rfl)
     cases aF:iE s.hM v with
     |true=>
      rw[aF] at r
      go_wp2_with fail
      refine D.o _ _ (q_ o.length ?_ (B.o _ _ _ (wY.mk (hs:=i) (s:={s with ord:=o,pl:=p}) (next:=(v:Int)) ⟨λ e=>?_,λ _=>aA.o _ (.inl rfl),X.o.2.2.2.1,?_⟩)))
      ·have h1:=j.o.g;have d:=X.o.2.2.2.2.2.1;rw[if_pos rfl] at h1;have d:o.length+1=s.ord.length:=d;omega
      ·exact absurd e (by have:=X.o.1;omega)
      ·rw[if_neg (by have:=X.o.1;omega)];rfl
     |false=>
      rw[aF] at r
      go_wp2_with fail
      refine D.o _ _ (q_ o.length ?_ (B.o _ _ _ (wY.mk (hs:=i) (s:={s with ord:=o,pl:=p}) (next:= -(v:Int)) ⟨λ e=>?_,λ _=>aA.o _ (.inr rfl),X.o.2.2.2.1,?_⟩)))
      ·have h1:=j.o.g;have d:=X.o.2.2.2.2.2.1;rw[if_pos rfl] at h1;have d:o.length+1=s.ord.length:=d;omega
      ·exact absurd e (by have:=X.o.1;omega)
      ·rw[if_neg (by have:=X.o.1;omega)];rfl
    ·have bb:(y==0)=false:=by simpa using t
     have aT:=U t;clear t
     go_wp2_with fail
     have aU:=b.o.1.kg.ord X.o.2.2.1 (λ u h1 d m=>(X.o.2.2.2.2.2.2 u (λ e=>by subst e;rw[az.o] at m;exact aT.o m)).2 (b.o.1.kg.un u h1 d m));have aV:=b.o.1.move X.o.2.2.2.1 X.o.2.2.2.2.1 aU rfl rfl rfl;refine D.o _ _ (q_ (o.length+1) ?_ (B.o _ _ _ (wY.mk (hs:=i) (s:={s with ord:=o,pl:=p}) (next:=0) ⟨λ _=>⟨aV,b.o.2⟩,λ e=>absurd rfl e,X.o.2.2.2.1,?_⟩)))
     ·have h1:=j.o.g;have d:=X.o.2.2.2.2.2.1;rw[if_pos rfl] at h1;have d:o.length+1=s.ord.length:=d;omega
     ·rw[if_pos rfl]
   ·have J:¬(0:Int)<(n7:Int):=by omega
    have d7:decide ((0:Int)<(n7:Int))=false:=decide_eq_false J;have ad:=U l;clear l
    go_wp2_with fail
    apply R.o hs s 0 g
    ·exact j.o
    ·intro _;rw[<-aa.o];have:=ad.o;omega
  ·have bc:decide (next=0)=false:=decide_eq_false I;have aW:=U I;clear H
   go_wp2_with fail
   apply R.o hs s next g
   ·exact j.o
   ·exact λ h=>absurd h aW.o
end
end Go.Proofs.YtogdlkfacflmaaaGreat
