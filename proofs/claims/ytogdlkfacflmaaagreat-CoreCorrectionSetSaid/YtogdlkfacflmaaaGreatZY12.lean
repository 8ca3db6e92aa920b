/- Parts of the walk of the solver and its core; no condition. -/
import Derived.Test.YtogdlkfacflmaaaGreatZY11
import Derived.Test.YtogdlkfacflmaaaGreatZY10
import Derived.Test.YtogdlkfacflmaaaGreatZY5
import Derived.Test.YtogdlkfacflmaaaGreatZY3
import Derived.Test.YtogdlkfacflmaaaGreatZY6
import Derived.Deep.LoopGhost
import Derived.Test.YtogdlkfacflmaaaGreatZY1
namespace Go.Proofs.YtogdlkfacflmaaaGreat
set_option linter.unusedVariables false
set_option linter.unusedSimpArgs false
set_option maxRecDepth 1000000
set_option maxHeartbeats 8000000
open _root_.And renaming intro→z_
open _root_.Go.World renaming cell?_of_block→y_,putObj_heap_other→h_
open _root_.Go.Proofs.Tryz renaming prog→x_
open _root_.List renaming take_succ_cons→w_,drop_succ_cons→v_,take_zero→s_,drop_zero→r_,length_filter_le→p_,length_append→n_,getElem?_cons_zero→m_,getElem?_cons_succ→l_,length_pos_of_mem→f_,length_singleton→e_
open _root_.Go.RowKit.Below renaming refl→u_
open _root_.Go renaming wp_region_still_tail→t_,wpStill_nil→o_,wp_loop_ghost_k→g_
open _root_.Go.Handed renaming intro→q_
open _root_.Nat renaming le_refl→k_,lt_of_lt_of_le→j_
open _root_.Go.IntKind renaming wrap_i64→i_,i64→c_
open _root_.Go.Value renaming int→d_
open _root_.Go.KeepsOthers renaming drew→b_
variable{w W w0:World}{n G g base fR jI bN gO bn bH aB ji k8:Nat}{F:List (List Int)}{p left:Int}{a:Act}{bg gZ K:Nat->Prop}{ah oH:List Int}{aI s:au}{gN:Option Addr}{cb:Nat->Nat}
section
open Go.RowKit Go.Shelf
theorem M8(A:Option Addr)(n c:Nat)(d:List Int)(x:Int)(w:World)(h:aP w A n c d):
  Calls x_ 169 #[.slice A n c,.int .i64 x] w λ e w'=>(∃r:Int,e=.returned (.int .i64 r)/\decide (0<=r)=hasB d x)/\w=w':=by
 have q:=h.small;have H:=U h;clear h;go_enter Tryz.func169,Tryz.ntmps169
 go_wp2
 go_loop [8] (λ i=>∃k:Nat,k<=n/\i=.int .i64 k/\hasB (d.take k) x=false) (λ i=>n-(intOf i).toNat)
 case atStart=>exact⟨0,Nat.zero_le _,rfl,rfl⟩
 case round=>
  obtain⟨k,hk,rfl,j⟩:=hrel;have l:=U j;clear j
  by_cases g:k<n
  ·obtain⟨b,off,rfl,s,m⟩:=H.o.cells (by omega);have t:=m k g;clear m
   by_cases f:x=jP d k
   ·have p:(x==jP d k)=true:=by simpa using f
    have E:bF (hasB d x=true):=U (Jb (k:=k) (by rw[H.o.len];exact g) (by simpa using f.symm));clear f;go_wp2;go_ret;exact⟨⟨k,rfl,by rw[E.o];simp⟩,rfl⟩
   ·have p:(x==jP d k)=false:=by simpa using f
    have E:bF (hasB (d.take (k+1)) x=false):=U (Jc (by rw[H.o.len];exact g) (by simpa using Ne.symm f) l.o);clear f;go_wp2
    go_round
    case rel=>exact⟨k+1,by omega,by go_num,E.o⟩
    case measure=>simp[intOf];omega
  ·go_wp2;go_ret;exact⟨⟨-1,rfl,by rw[Jd H.o.len g l.o];rfl⟩,rfl⟩
theorem Hy(r:Bool)(A:Option Addr)(n c:Nat)(d:List Int)(x:Int)(w:World)(h:aP w A n c d)(b:hasB d x=r):
  Calls x_ 124 #[.slice A n c,.int .i64 x] w λ e w'=>e=.returned (.bool r)/\w=w':=by
 have f:=M8 A n c d x w h;rw[b] at f;clear h b;go_enter Tryz.func124,Tryz.ntmps124
 go_wp2_with (go_at_call 169;refine f.mono ?_;rintro e w' ⟨⟨r,rfl,b⟩,rfl⟩)
 all_goals
  go_ret;exact⟨nC (by rw[<-b]),rfl⟩
open Go.RowKit Go.Shelf Go.Sort Go.Lib
theorem D3(enc:Int->Value)(w:World)(g m:Nat)(c:Array Int)(os:Array Obj){b:Nat}(d:b<w.heap.size)(f:b≠g):(sortWorld enc w g 0 m c os).heap[b]? =w.heap[b]? :=by
 unfold sortWorld;rw[Sort.heap_grow_old _ _ (by rw[Sort.size_putRow];exact d)];unfold Sort.putRow Sort.mapBlock;rw[Array.getElem?_modify,if_neg (λ e=>f e.symm)];rfl
theorem aP.xC{w':World}{A:Option Addr}{c:Nat}{ai:List Int}(h:aP w A n c ai)(hs:w.heap.size<=w'.heap.size)(d:∀b,A.map (·.block)=some b->w'.heap[b]? =w.heap[b]?):aP w' A n c ai:=
 ⟨h.len,h.cap,h.mG,h.n9,λ f=>by
  obtain⟨b,off,e,h1,g⟩:=h.cells f;refine⟨b,off,e,j_ h1 hs,λ j i=>?_⟩;rw[y_ (a:=⟨b,off+j,none⟩) (d b (by rw[e];rfl))];exact g j i⟩
theorem M9:∀args w,(callFunc 154 args).run x_ w=.ok (.enter 154 args) w:=enters_of Tryz.func154 (by kernel_rfl) rfl
theorem Hz(d:Nat)(A:Option Addr)(n c:Nat)(core:List Int)(x:Int)(w:World)(g:w.cell? ⟨d,0,none⟩=some (.slice A n c))(h:aP w A n c core):
  Calls x_ 154 #[.int .i64 x,.pointer (some ⟨d,0,none⟩)] w λ e w'=>e=.returned (.bool (!(hasB core x)))/\w=w':=by
 obtain⟨r,b⟩:∃r,hasB core x=r:=⟨_,rfl⟩
 have f:=U (Hy r A n c core x w h b);rw[b];clear h b;go_enter Tryz.func154,Tryz.ntmps154
 go_wp2_with (go_at_call 124;refine f.o.mono ?_;rintro e w1 ⟨rfl,rfl⟩;dsimp only)
 go_ret;exact⟨rfl,rfl⟩
theorem Na(w:World)(base g n cap:Nat)(c:List Int)(h:Own w base g n cap c)(t:base<=g){pJ:Nat}{A:Option Addr}{bM aM:Nat}{core:List Int}(i:w.cell? ⟨pJ,0,none⟩=some (.slice A bM aM))(j:pJ<w.heap.size)(u:pJ≠g)(l:aP w A bM aM core)(o:∀b,A.map (·.block)=some b->b<w.heap.size/\b≠g):
  Calls x_ 85 #[.slice (some ⟨g,0,none⟩) n cap,.func (.func 154) #[] #[.pointer (some ⟨pJ,0,none⟩)]] w λ e w'=>
   ∃m,e=.returned (.slice (some ⟨g,0,none⟩) m cap)/\Own w' base g m cap (c.filter λ x=>hasB core x)/\Below base w w':=by
 have h':w.ownsRow base 3 1 (.slice (some ⟨g,0,none⟩) n cap) n (c.map oV):=h;obtain⟨G,H,he,h1,I,v,y,f,z⟩:=holds_of_ownsRow h' (by intro e;cases e)
 cases he
 have B:n<=9223372036854775807:=by unfold maxLen at y;omega
 have C:PredAt x_ 154 #[.pointer (some ⟨pJ,0,none⟩)] oV (λ x=> !(hasB core x)) w:=by
  intro W x r;unfold FnGives;refine(Hz pJ A bM aM core x W ((r.cell (p:=⟨pJ,0,none⟩) j).trans i) (l.below r)).mono λ _ _ ⟨he,hw⟩=>⟨he,0,by rw[<-hw];rfl⟩
 have D:PredOver x_ 154 #[.pointer (some ⟨pJ,0,none⟩)] oV (λ x=> !(hasB core x)) g 0 c.toArray.size w:=by
  intro k os d x _;unfold FnGives;have E:w.heap.size<=(sortWorld oV w g 0 k d os).heap.size:=by
   show w.heap.size<=((Sort.putRow oV (Sort.ahead w k) g 0 d).heap++os).size;rw[Array.size_append,Sort.size_putRow];show w.heap.size<=w.heap.size+_;omega
  refine(Hz pJ A bM aM core x _ ((y_ (a:=⟨pJ,0,none⟩) (D3 oV w g k d os j u)).trans i) (l.xC E (λ b e=>D3 oV w g k d os (o b e).1 (o b e).2))).mono λ _ _ ⟨he,hw⟩=>⟨he,0,by rw[<-hw];rfl⟩
 have s:=Tryz.slices_DeleteFunc oV zn (λ x=> !(hasB core x)) 154 #[.pointer (some ⟨pJ,0,none⟩)] M9 0 Tryz.zeroValue3 g 0 cap c.toArray w C D z (by simpa[f] using B) (by simpa[f] using v);have hs:c.toArray.size=n:=by simp[f]
 rw[hs] at s;refine s.mono ?_;rintro e w' ⟨rfl,q,rfl⟩;have F:c.toArray.toList.filter (λ x=> !(!(hasB core x)))=c.filter λ x=>hasB core x:=by
  show c.filter _=_
  congr 1
  funext x;simp
 rw[F];have hle:=p_ (λ x=>hasB core x) c;refine⟨_,rfl,?_,below_putRow (u_ _ _) t⟩;have:=ownsRow_putRow (q:=q) (k:=(c.filter λ x=>hasB core x).length) (ys:=(c.filter λ x=>hasB core x)++List.replicate (n-(c.filter λ x=>hasB core x).length) 0) h' (by simp;omega) (by omega);rw[List.take_left' rfl] at this;exact this
end
section
open Go.RowKit Go.Shelf
attribute [local go_sem] Oper.semAt_some
theorem D4(x:Int)(b:0<=x)(h1:x<=1000000):(Lit.int .i64 x).wf=true:=by
 simp[Lit.wf,IntKind.min,IntKind.max,IntKind.bits,IntKind.signed];omega
structure sG(F:List (List Int))(w W:World)(G bD:Nat)(aY:Core)(p:Int)(aN j m:Nat)(S:List Int)(A:Option Addr)(n c:Nat)(out:List Int)(ds:List Nat):Prop where
 s:pX w W G w.heap.size bD (w.heap.size+1+1) m S A n c out ds
 ci:qH F aY p j (hasB S) out
 AA:j<=aN
 AB:m+200000*j<=1+200000*aN
 nl:n+j<=aN+1
 xD:p∈out
inductive xE(F:List (List Int))(w:World)(G bD:Nat)(aY:Core)(p:Int)(aN:Nat):Nat->Act->World->Prop
 |mk {j m n c:Nat} {A:Option Addr} {S out:List Int} {ds:List Nat} {bk u8 lK gY gJ gu iF gL gW u16 gv gw gx gI gy gz gA gB gC gD gE gF fS fT fU u32 fV fW fZ ga gb gd gh gi gj gl gm gG gH iz iq ir bT bU bV bW bX bY bZ b5 b6 b7 b8 b9 cc cg ck u64 cm cn cp cr ct cu cv cw cz cA cB cC cD cE cF cG cH cI cK cL cM:Value} {W:World} (h:sG F w W G bD aY p aN j m S A n c out ds):xE F w G bD aY p aN j {tmps:= #[.pointer (some ⟨G,0,none⟩),.int .i64 p,.pointer (some ⟨w.heap.size,0,none⟩),bk,.slice none 0 0,.slice A n c,.pointer (some ⟨bD,0,none⟩),.int .i64 ((j:Int)-1),u8,lK,gY,gJ,gu,iF,gL,gW,u16,gv,gw,gx,gI,gy,gz,gA,gB,gC,gD,gE,gF,fS,fT,fU,u32,fV,fW,fZ,ga,gb,gd,gh,gi,gj,gl,gm,gG,gH,iz,iq,ir,bT,bU,bV,bW,bX,bY,bZ,b5,b6,b7,b8,b9,cc,cg,ck,u64,cm,cn,cp,cr,ct,cu,cv,cw,cz,cA,cB,cC,cD,cE,cF,cG,cH,cI,cK,cL,cM],defers:=ds.map oL} W
theorem xE.elim{bD:Nat}{aY:Core}{aN:Nat}(b:xE F w G bD aY p aN g a W){P:Prop}(k:∀{j m n c:Nat}{A:Option Addr}{S out:List Int}{ds:List Nat}{d u8 e f i l o q r u16 s t u v y z B C D E H I J K L u32 M N O Q R T U V X Y Z aa ab ad ae af ag ah ai aj ak al an ao aq ar au av aw ax ay u64 az aA aB aC aD aE aF aG aH aI aJ aK aL aM aO aP aQ aR aS aT aU:Value},a={tmps:= #[.pointer (some ⟨G,0,none⟩),.int .i64 p,.pointer (some ⟨w.heap.size,0,none⟩),d,.slice none 0 0,.slice A n c,.pointer (some ⟨bD,0,none⟩),.int .i64 ((j:Int)-1),u8,e,f,i,l,o,q,r,u16,s,t,u,v,y,z,B,C,D,E,H,I,J,K,L,u32,M,N,O,Q,R,T,U,V,X,Y,Z,aa,ab,ad,ae,af,ag,ah,ai,aj,ak,al,an,ao,aq,ar,au,av,aw,ax,ay,u64,az,aA,aB,aC,aD,aE,aF,aG,aH,aI,aJ,aK,aL,aM,aO,aP,aQ,aR,aS,aT,aU],defers:=ds.map oL}->g=j->sG F w W G bD aY p aN j m S A n c out ds->P):P:=by
 cases b with
 |mk h=>exact k rfl rfl h
section
variable {F Fd:List (List Int)}{w W W':World}{G bD:Nat}{aY:Core}{p:Int}{aN j m:Nat}{S:List Int}{A:Option Addr}{n c:Nat}{out:List Int}{ds:List Nat}
theorem sG.grow(b:sG F w W G bD aY p aN j m S A n c out ds)(d:Below W.heap.size W W'):sG F w W' G bD aY p aN j m S A n c out ds:=⟨b.s.grow d,b.ci,b.AA,b.AB,b.nl,b.xD⟩
theorem sG.skip(b:sG F w W G bD aY p aN (j+1) m S A n c out ds)(d:Below W.heap.size W W')(h:hasB S (aD (ak aY.ax j))=false):sG F w W' G bD aY p aN j m S A n c out ds:=
 ⟨b.s.grow d,b.ci.skip h,by have:=b.AA;omega,by have:=b.AB;omega,by have:=b.nl;omega,b.xD⟩
theorem sG.dec(b:sG F w W G bD aY p aN (j+1) m S A n c out ds){A':Option Addr}{c':Nat}(hs:pX w W' G w.heap.size bD (w.heap.size+1+1) m S A' (n+1) c' (out++[ak aY.ax j]) ds)(h:mH aY.kF (aD (ak aY.ax j))=none):sG F w W' G bD aY p aN j m S A' (n+1) c' (out++[ak aY.ax j]) ds:=
 ⟨hs,b.ci.decision h,by have:=b.AA;omega,by have:=b.AB;omega,by have:=b.nl;omega,by simp[b.xD]⟩
theorem sG.Nb(T:j9 aY)(D:rF F Fd aY)(b:sG F w W G bD aY p aN (j+1) m S A n c out ds){lX:Nat}{oS:List Int}{zi:List Nat}(hs:pX w W' G w.heap.size bD (w.heap.size+1+1) lX oS A n c out zi){d:Nat}(hw:mH aY.kF (aD (ak aY.ax j))=some d)(hm:∀v,hasB S v=true->hasB oS v=true)
  (e:∀y∈az aY.cl d,y≠ak aY.ax j->0<bp aY y->hasB oS (aD y)=true) (f:lX<=m+200000):sG F w W' G bD aY p aN j lX oS A n c out zi:=
 ⟨hs,b.ci.reason T D hw hm e,by have:=b.AA;omega,by have:=b.AB;omega,by have:=b.nl;omega,b.xD⟩
end
def Nc(F:List (List Int))(w:World)(aY:Core)(p:Int)(e:Ending)(w':World):Prop:=
 ∃A c out,e=.returned (.slice A out.length c)/\aP w' A out.length c out/\Below w.heap.size w w'/\(∀x∈out,x=p\/(x∈aY.ax/\mH aY.kF (aD x)=none))/\p∈out/\(∀M,sX M F->¬∀x∈p::out,M x=true)/\∀b,A.map (·.block)=some b->w.heap.size<=b
theorem Nd{K:Nat->Prop}{base:Nat}{w:World}{G:Nat}{hs:Nat->ay}{cb:Nat->Nat}{s:au}{F Fd:List (List Int)}(h:bf K base w G hs cb s)(T:j9 s.c)(D:rF F Fd s.c)(dm:s.c.n<=60000)(dn:s.c.st.length<=1000000){p:Int}(hp:gP s.c.n p)(b7: -p∈s.c.ax):
  Calls x_ 153 #[.pointer (some ⟨G,0,none⟩),.int .i64 p] w (Nc F w s.c p):=by
 have H:=U h;have I:=U T;have bu:=U D;have cK:=U hp;have a6:=U b7;obtain⟨v,Q⟩:∃v,aD p=v:=⟨_,rfl⟩
 have dp:v<=60000:=by have:=hp.2;omega
 have b8:bF (∀w:World,Calls x_ 97 #[.int .i64 p] w λ e w'=>e=.returned (.int .i64 (v:Int))/\w=w'):=U (λ w=>by have:=s7 p w (by unfold aD at Q;omega) (by unfold aD at Q;omega);rw[Q] at this;exact this);obtain⟨g2,b9,bw,f2⟩:=h.e.l7 3 2 rfl h.e.kJ (by have:=T.pz;omega);obtain⟨y,R⟩:∃y,hU s.c.lvl v=y:=⟨_,rfl⟩
 have c2:=h.e.vZ b9 (k:=v) (by have:=T.pz;have:=hp.2;omega);rw[R] at c2;have dq:(v:Int)<(s.c.lvl.length:Int):=by have:=T.pz;have:=hp.2;omega
 have af:=U (z_ Q R);have cL:=(h.e.rows.lt b9).2;have aH:=h.e.box.lt;have dr:∀(fn:Fn)(first cap:Array Value)(w:World),(Instr.makeFunc fn first cap).run x_ w=.ok (.func fn first cap) w:=λ _ _ _ _=>rfl
 have dt:= @run_makeMap x_;clear h T D hp b7 Q R f2;refine C5 Tryz.func153 rfl ?_;simp only[Tryz.ntmps153,List.size_toArray,List.length_cons,List.length_nil,Nat.reduceAdd,Nat.reduceSub,Array.replicate_succ,Array.replicate_zero,List.push_toArray,List.append_toArray,List.nil_append,List.cons_append]
 go_wp2_with fail
 obtain⟨u,O⟩:∃u,(w.alloc (.cells #[.pointer (some ⟨G,0,none⟩)] 115)).alloc (.cells #[.int .i64 p] 3)=u:=⟨_,rfl⟩
 rw[O];have a7:Below w.heap.size w u:=by rw[<-O];exact((u_ _ w).alloc (k_ _) _).alloc (by simp) _
 have bx:aR u w.heap.size 115 [.pointer (some ⟨G,0,none⟩)]:=by rw[<-O];exact(aR.new w 115 [.pointer (some ⟨G,0,none⟩)]).below (bC _ _)
 have b':u.ownsRow w.heap.size 3 1 (.slice (some ⟨w.heap.size+1,0,none⟩) 1 1) 1 (jj [p]):=by rw[<-O];have:=Dx (w.alloc (.cells #[.pointer (some ⟨G,0,none⟩)] 115)) w.heap.size [p] 1 rfl (by simp) (by omega);simpa[jj] using this
 have a8:u.heap.size=w.heap.size+1+1:=by rw[<-O];simp
 clear O;have aw:=bx.cell 0;have bw:=(y_ (a:=⟨G,3,none⟩) (a7.block G aH)).trans bw;have c2:=(y_ (a:=⟨g2,v,none⟩) (a7.block g2 cL)).trans c2;refine t_ 8 (by kernel_rfl) (by kernel_rfl) ?_;simp only[w_,s_,v_,r_]
 iterate 5 still_step
 still_call ((b8.o _).mono (λ e w' h=>⟨h.1,h.2.symm⟩))
 iterate 2 still_step
 refine o_ ?_;change wpList _ _ _ _ _ u.drew;have aI:=U a7.drew;have ca:=U (show aR u.drew w.heap.size 115 [.pointer (some ⟨G,0,none⟩)] from bx);have a':=U (show u.drew.ownsRow w.heap.size 3 1 (.slice (some ⟨w.heap.size+1,0,none⟩) 1 1) 1 (jj [p]) from b');have a8:u.drew.heap.size=w.heap.size+1+1:=a8;clear aw bw c2 a7 bx b';generalize u.drew=u at*
 by_cases aJ:y=0
 ·have cM:((y:Int)==0)=true:=by simp[aJ]
  have ba:=U aJ;clear aJ
  go_wp2_with fail
  refine C6 [] rfl List.nodup_nil (λ D h=>by cases h) (λ W' aA=>⟨_,results_tmp rfl _ _ _,?_⟩);refine⟨some ⟨w.heap.size+1,0,none⟩,1,[p],rfl,aP.kZ (mh a'.o (aA.below (u_ _ _) (λ D h=>by cases h))) (by simp),aI.o.trans ((aA.below (u_ _ _) (λ D h=>by cases h)).mono aI.o.size),λ x aa=>.inl (by simpa using aa),by simp,λ M cc cN=>?_,λ b e=>(by injection e with e;have e:w.heap.size+1=b:=e;omega)⟩;obtain⟨i,ah,bb,bc⟩:=I.o.at a6.o;have h1:=yO I.o bu.o cc i ah (by rw[bc];show hU s.c.lvl (aD p)=0;rw[af.o.1,af.o.2,ba.o]);rw[bb,cc.1 p cK.o.oM,cN p (by simp)] at h1
  cases h1
 ·have cM:((y:Int)==0)=false:=by simp;omega
  have ba:=U aJ;clear aJ;obtain⟨ai,cd,bz,bA⟩:=(mb.made u).put (x:=(v:Int)) (by unfold maxLen;omega) (D4 _ (by omega) (by omega));rw[a8] at cd bz bA;have cf:=U bz;have bd:=U bA;clear bz bA
  go_upto_region 5 with(go_at_call 97;refine(b8.o _).mono ?_;rintro e w1 ⟨rfl,rfl⟩;dsimp only)
  have g2:u.grownBy (u.alloc (.map #[] 0)) none:=World.grownBy_alloc u _ none;have bB:pX w (ai.alloc (.cells #[.map (some (w.heap.size+1+1))] 114)) G w.heap.size ai.heap.size (w.heap.size+1+1) 1 [(v:Int)] (some ⟨w.heap.size+1,0,none⟩) 1 1 [p] []:=by
   have cO:(u.alloc (.map #[] 0)).heap.size=w.heap.size+1+1+1:=by simp[a8]
   have cg:Below w.heap.size w (u.alloc (.map #[] 0)):=aI.o.alloc aI.o.size _;have du:=bd.o.size;have bG:=cg.grown bd.o cg.size (λ g e=>by cases e;omega);have q:∀b,b<w.heap.size+1+1->ai.heap[b]? =u.heap[b]? :=λ b P=>(bd.o.block b (by omega) (by simp;omega)).trans (g2.block b (by omega) (by simp))
   refine⟨bG.alloc bG.size _,?_,aR.new ai 114 [.map (some (w.heap.size+1+1))],cf.o.alloc _,?_,⟨List.nodup_nil,λ D h=>by cases h⟩,by omega,k_ _,bG.size⟩
   ·exact(show aR ai w.heap.size 115 _ from(q _ (by omega)).trans ca.o).below (bC _ _)
   ·exact mh (o6 a'.o (λ b e=>q b (by have:=(Bf a'.o e).2;omega))) (bC _ _)
  obtain⟨bg,bH⟩:∃bg,ai.alloc (.cells #[.map (some (w.heap.size+1+1))] 114)=bg:=⟨_,rfl⟩
  obtain⟨bD,bI⟩:∃bD,ai.heap.size=bD:=⟨_,rfl⟩
  rw[bH,bI] at bB;rw[bH,bI];have bJ:=U bB;clear bB g2 bd cf aI ca a' cd bH bI;obtain⟨aN,aK⟩:∃aN,s.c.ax.length=aN:=⟨_,rfl⟩
  have dv:aN<=60000:=by have:=I.o.len;omega
  have dw:0<aN:=by have:=f_ a6.o;omega
  obtain⟨dx,kD,bK,cP⟩:∃A n c,hs 4=⟨A,n,c⟩:=⟨_,_,_,rfl⟩
  have dy:kD=aN:=by have:=H.o.e.kD;rw[cP] at this;exact this.trans aK
  obtain⟨g4,bM,bN,f4⟩:=H.o.e.l7 5 4 rfl H.o.e.kD (by omega);have bO:bg.cell? ⟨G,5,none⟩=some (.slice (some ⟨g4,0,none⟩) aN (hs 4).c):=by rw[<-aK];exact(y_ (a:=⟨G,5,none⟩) (bJ.o.below.block G aH)).trans bN
  have aw:bg.cell? ⟨w.heap.size,0,none⟩=some (.pointer (some ⟨G,0,none⟩)):=bJ.o.qf.cell 0;have ch:c_.wrap ((aN:Int)-1)=(aN:Int)-1:=by rw[i_];omega
  go_wp2_with fail
  have cj:qH F s.c p aN (hasB [(v:Int)]) [p]:=by
   rw[<-aK];exact qH.start I.o a6.o (by show 1<=hU s.c.lvl (aD p);rw[af.o.1,af.o.2];have:=ba.o;omega) (by rw[af.o.1];simp[hasB])
  have bP:0<s.c.st.length:=by
   obtain⟨i,ah,bb,bc⟩:=I.o.at a6.o;have h1:=wS s.c.st i;have aj:bp s.c p=y:=by show hU s.c.lvl (aD p)=y;rw[af.o.1,af.o.2]
   have:=ba.o;omega
  obtain⟨bh,ck⟩:∃bh,s.c.st.length=bh:=⟨_,rfl⟩
  obtain⟨g5,bQ,aL,f5⟩:=H.o.e.l7 6 5 rfl H.o.e.kj (by omega);obtain⟨al,bR⟩:∃al,hU s.c.st 0=al:=⟨_,rfl⟩
  have aM:=H.o.e.FU bQ (k:=0) bP;rw[bR] at aM;rw[ck] at aL bP;obtain⟨g3,bS,aO,f3⟩:=H.o.e.l7 4 3 rfl H.o.e.nU (by have:=I.o.pQ;omega);have Y:=U (z_ aK (z_ bR (z_ bP (z_ bM (z_ aL (z_ aM (z_ bS (z_ aO bN))))))));have cQ:=(H.o.e.rows.lt bQ).2;have dz:=(H.o.e.rows.lt bM).2;have dA:=(H.o.e.rows.lt bS).2;have cR:=U cj;have dB:(0:Int)<(bh:Int):=by omega
  clear aw ch f4 f5 f3 aM aL bQ bO bN bM bS aO aK bR cj;refine g_ (xE F w G bD s.c p aN) aN ?start ?round
  case start=>exact xE.mk (c:=1) ⟨bJ.o,cR.o,k_ _,k_ _,by omega,by simp⟩
  case round=>
   intro g a W cm dC K bT dD;refine cm.elim ?_;intro j m n c A S out ds dE u8 dF dG dH dI dJ dK dL u16 dM dN dO dP dQ dR dS dT dU dV dW dX dY dZ d' u32 ea eb ec ed ee ef eg eh ei ej ek en eo ep er et eu ev ew ey ez eA eB eC eD eE eF eG eH eI eJ u64 eK eL eM eN eO eP eQ eR eS eT eU eV eW eX eY eZ e0 e1 e2 e3 e4 bj aQ aS;clear cm;subst bj;replace aQ:=aQ.symm;subst aQ;have B:=U aS;have E:=U (H.o.below aS.s.below).1;have aw:W.cell? ⟨w.heap.size,0,none⟩=some (.pointer (some ⟨G,0,none⟩)):=aS.s.qf.cell 0;have qu:=aS.s.below.block;have aL:W.cell? ⟨G,6,none⟩=some (.slice (some ⟨g5,0,none⟩) bh (hs 5).c):=(y_ (a:=⟨G,6,none⟩) (qu G aH)).trans Y.o.2.2.2.2.1;have aM:W.cell? ⟨g5,0,none⟩=some (.int .i64 (al:Int)):=(y_ (a:=⟨g5,0,none⟩) (qu g5 cQ)).trans Y.o.2.2.2.2.2.1;clear aS qu
   by_cases cS:al<j
   ·obtain⟨j,rfl⟩:∃k,j=k+1:=⟨j-1,by omega⟩
    have cT:((j+1:Nat):Int)-1=(j:Int):=by omega
    rw[cT];have cU:(al:Int)<=(j:Int):=by omega
    obtain⟨x,aa⟩:∃x,ak s.c.ax j=x:=⟨_,rfl⟩
    have bk:j<aN:=by have:=B.o.AA;omega
    have bO:W.cell? ⟨G,5,none⟩=some (.slice (some ⟨g4,0,none⟩) aN (hs 4).c):=by rw[<-Y.o.1];exact(y_ (a:=⟨G,5,none⟩) (B.o.s.below.block G aH)).trans Y.o.2.2.2.2.2.2.2.2
    have bK:=E.o.e.Ac Y.o.2.2.2.1 (k:=j) (by rw[Y.o.1];exact bk);rw[aa] at bK;have e5:(j:Int)<(aN:Int):=by omega
    have bU:gP s.c.n x:=by rw[<-aa];exact I.o.lit _ (mc (by rw[Y.o.1];exact bk))
    obtain⟨z,aT⟩:∃z,aD x=z:=⟨_,rfl⟩
    have cn:z<=s.c.n:=by have:=bU.2;omega
    have bl:bF (∀w:World,Calls x_ 97 #[.int .i64 x] w λ e w'=>e=.returned (.int .i64 (z:Int))/\w=w'):=U (λ w=>by have:=s7 x w (by unfold aD at aT;omega) (by unfold aD at aT;omega);rw[aT] at this;exact this);have cV:W.cell? ⟨bD,0,none⟩=some (.map (some (w.heap.size+1+1))):=B.o.s.qu.cell 0;have bV:=B.o.s.set.drew.look (D4 (z:Int) (by omega) (by omega));have ch:c_.wrap ((j:Int)-1)=(j:Int)-1:=by rw[i_];omega
    have X:=U (z_ aa (z_ bk (z_ bU (z_ aT cn))));clear aa bk bU aT cn
    cases P:hasB S (z:Int) with
    |false=>
     rw[P] at bV;have an:=U (B.o.skip (W':=W.drew) ((u_ _ W).drew) (by rw[X.o.1,X.o.2.2.2.1];exact P));clear P
     go_upto_region 9 with fail
     refine t_ 4 (by kernel_rfl) (by kernel_rfl) ?_;simp only[w_,s_,v_,r_]
     iterate 2 still_step
     still_call ((bl.o _).mono (λ e w' h=>⟨h.1,h.2.symm⟩))
     iterate 1 still_step
     refine o_ ?_;change wpList _ _ _ _ _ W.drew
     go_wp2_with fail
     exact q_ j (by omega) (bT _ _ _ (xE.mk an.o))
    |true=>
     rw[P] at bV;have e6:=U P;clear P
     go_upto_region 9 with fail
     refine t_ 4 (by kernel_rfl) (by kernel_rfl) ?_;simp only[w_,s_,v_,r_]
     iterate 2 still_step
     still_call ((bl.o _).mono (λ e w' h=>⟨h.1,h.2.symm⟩))
     iterate 1 still_step
     refine o_ ?_;change wpList _ _ _ _ _ W.drew
     go_upto_region 10 with fail
     have bW:=U (B.o.grow ((u_ _ W).drew));have cp:W.drew.cell? ⟨w.heap.size,0,none⟩=some (.pointer (some ⟨G,0,none⟩)):=aw;have aO:W.drew.cell? ⟨G,4,none⟩=some (.slice (some ⟨g3,0,none⟩) s.c.kF.length (hs 3).c):=(y_ (a:=⟨G,4,none⟩) (bW.o.s.below.block G aH)).trans Y.o.2.2.2.2.2.2.2.1;have c3:=E.o.drew.e.yT Y.o.2.2.2.2.2.2.1 (k:=z) (by have:=I.o.pQ;have:=X.o;omega);have e7:(z:Int)<(s.c.kF.length:Int):=by have:=I.o.pQ;have:=X.o;omega
     clear aw bO bK aL aM bV cV E B;generalize W.drew=V at*
     cases hw:mH s.c.kF z with
     |none=>
      rw[hw] at c3;change V.cell? ⟨g3,z,none⟩=some (.pointer none) at c3;have bn:=U hw;clear hw;refine t_ 8 (by kernel_rfl) (by kernel_rfl) ?_;simp only[w_,s_,v_,r_]
      iterate 5 still_step
      still_call ((bl.o _).mono (λ e w' h=>⟨h.1,h.2.symm⟩))
      iterate 2 still_step
      refine o_ ?_;change wpList _ _ _ _ _ V.drew;clear aO c3 cp;have aB:=U (bW.o.grow ((u_ _ V).drew));generalize V.drew=t at*;have bX:=U (aB.o.s.grow (bC t (lH [x])));have cW:=U (aP.lit t [x] 1 t.heap.size rfl rfl (by omega))
      go_wp2_with (at_builtin;refine rB rfl (.tmp 65) (.tmp 67) rfl w.heap.size (.slice A n c) n out rfl bX.o.row (some ⟨t.heap.size,0,none⟩) 1 1 [x] rfl cW.o (by have:=aB.o.nl;omega) bX.o.below.size ?_;intro v9 bE bj;obtain⟨A',c',rfl,aU⟩:=bX.o.app bj;have aC:=U aU;clear bj aU)
      have an:=aB.o.dec (W':=bE) (A':=A') (c':=c') (by rw[X.o.1];exact aC.o) (by rw[X.o.1,X.o.2.2.2.1];exact bn.o);exact q_ j (by omega) (bT _ _ _ (xE.mk an))
     |some d=>
      rw[hw] at c3;change V.cell? ⟨g3,z,none⟩=some (.pointer (some ⟨cb d,0,none⟩)) at c3;have bn:=U hw;clear hw;refine t_ 8 (by kernel_rfl) (by kernel_rfl) ?_;simp only[w_,s_,v_,r_]
      iterate 5 still_step
      still_call ((bl.o _).mono (λ e w' h=>⟨h.1,h.2.symm⟩))
      iterate 2 still_step
      refine o_ ?_;change wpList _ _ _ _ _ V.drew;clear aO c3 cp;have aB:=U (bW.o.grow ((u_ _ V).drew));generalize V.drew=t at*
      go_upto_region 13 with fail
      go_wp2_with (go_at_call 183;refine(Dv _ _ _).mono ?_;rintro e w1 ⟨rfl,rfl⟩;dsimp only)
      have ab:=U (aB.o.grow ((bC t (.cells #[.pointer (some ⟨cb d,0,none⟩)] 164)).trans ((bC _ (.cells #[.int .i64 x] 3)).mono (by simp))));have cX:((t.alloc (.cells #[.pointer (some ⟨cb d,0,none⟩)] 164)).alloc (.cells #[.int .i64 x] 3)).cell? ⟨t.heap.size,0,none⟩=some (.pointer (some ⟨cb d,0,none⟩)):=by go_simp
      have cY:((t.alloc (.cells #[.pointer (some ⟨cb d,0,none⟩)] 164)).alloc (.cells #[.int .i64 x] 3)).cell? ⟨t.heap.size+1,0,none⟩=some (.int .i64 x):=by go_simp
      have cO:((t.alloc (.cells #[.pointer (some ⟨cb d,0,none⟩)] 164)).alloc (.cells #[.int .i64 x] 3)).heap.size=t.heap.size+1+1:=by simp
      generalize (t.alloc (.cells #[.pointer (some ⟨cb d,0,none⟩)] 164)).alloc (.cells #[.int .i64 x] 3)=N at*;have cq:=I.o.p7 j (by rw[Y.o.1];exact X.o.2.1);rw[X.o.1,X.o.2.2.2.1,bn.o] at cq;obtain⟨ag,bY,-⟩:=cq;have bZ:=U (H.o.below ab.o.s.below).1;obtain⟨bL,m1,cZ,C⟩:=bZ.o.zb ag (f_ bY);have b0:=bu.o.mM d ag;have c0:m1<=120002:=by have:=b0.len;have:=C.len;omega
      have c4:=(bZ.o.e.rows.lt C.b).2;have c5:=(bZ.o.e.cls d ag).lt;have e8:N.cell? ⟨w.heap.size,0,none⟩=some (.pointer (some ⟨G,0,none⟩)):=ab.o.s.qf.cell 0;have Z:=U (z_ ag (z_ bY (z_ b0 (z_ c0 C))));have aE:bF (w.heap.size+1+1<N.heap.size/\w.heap.size<=N.heap.size/\∀D∈ds,D<N.heap.size):=U ⟨ab.o.s.set.lt,ab.o.s.below.size,λ D ao=>ab.o.s.u5.lt ao⟩;have cr:OwnFrom N.heap.size (λ(pre:List Int)(f:World)=>∃(L:Nat)(J:List Int),pX w f G w.heap.size bD (w.heap.size+1+1) L J A n c out ds/\(∀v,hasB S v=true->hasB J v=true)/\(∀y∈pre,0<bp s.c y->hasB J (aD y)=true)/\L<=m+pre.length):=by
       rintro pre e9 e' row ⟨L,J,h1,aj,bo,b1⟩ aQ c6;exact⟨L,J,h1.u0 aQ c6 aE.o.2.1 aE.o.1 aE.o.2.2,aj,bo,b1⟩
      have ct:=U cr;have cu:bF (some (t.heap.size+1)≠some (w.heap.size+1+1)/\some bL≠some (w.heap.size+1+1)):=U ⟨λ e=>by have h1:=aB.o.s.set.lt;injection e with e;omega,λ e=>by have h1:=(H.o.e.rows.lt C.b).2;injection e with e;omega⟩;clear ag bY b0 cr;refine(wpIn_wide (n:=6)).1 ?_;refine C2 (F:=Fence.wide) (w0:=N) rfl (by omega) (gf:=224) (lb:= #[.pointer (some ⟨t.heap.size,0,none⟩),.pointer (some ⟨t.heap.size+1,0,none⟩)]) rfl trivial Du
       (Dw (6-1) (by omega) t.heap.size (t.heap.size+1) (cb d) bL m1 cZ (az s.c.cl d) x C.len (by omega) N cX cY C.ag C.kR (by omega) (by omega) c5 c4)
       (λ h k=>h.trans k) (λ V l o fa hl Q cv _=>⟨λ v b2=>(y_ (w:=V) (h_ (by show t.heap.size+1≠l;omega))).trans b2,λ k v _ b2=>(y_ (w:=V) (h_ (by show bL≠l;omega))).trans b2⟩) (u_ _ _) (λ _=>rfl)
       (λ(pre:List Int)(f:World)=>∃(L:Nat)(J:List Int),pX w f G w.heap.size bD (w.heap.size+1+1) L J A n c out ds/\(∀v,hasB S v=true->hasB J v=true)/\(∀y∈pre,0<bp s.c y->hasB J (aD y)=true)/\L<=m+pre.length) (λ _ _ _=>False)
       ct.o (λ _ _ _ _ _ h=>h.elim) ⟨m,S,ab.o.s,λ _ h=>h,λ y h=>absurd h List.not_mem_nil,k_ _⟩
       ?a1 ?w1 ?assign ?kw1 ?body ?done ?stop
      case assign=>
       intro l pre y f fb ah bq c7
       gi_wp2
       exact c7
      case kw1=>
       intro pre y f ah;exact⟨KeepsFrom.refl _ _,pG.refl _ _ _ _⟩
      case body=>
       rintro l pre y cw f ah ⟨o,c8,cx,cv,O,cy⟩ bq fc;have c9:=ct.o _ _ _ _ ah (show cw.grownBy f (some (N.heap.size+1)) by rw[cx];exact grownBy_putObj' cw (N.heap.size+1) o) (λ r e=>by cases e;exact⟨by omega,c8,O,cy⟩);clear ah cx cv O cy;obtain⟨L,J,hs,cz,R,aV⟩:=c9;have aW:=U hs;have aq:=U (z_ cz (z_ R aV));have da:=U bq;have ad:gP s.c.n y:=Z.o.2.2.1.lt y (by
        have h1:y∈others (az s.c.cl d) x:=bq.subset (by simp);exact(List.mem_filter.1 h1).1)
       have db:f.cell? ⟨w.heap.size,0,none⟩=some (.pointer (some ⟨G,0,none⟩)):=hs.qf.cell 0;have cA:f.cell? ⟨bD,0,none⟩=some (.map (some (w.heap.size+1+1))):=hs.qu.cell 0;have br:=U (H.o.below hs.below).1;clear hs cz R aV bq;obtain⟨ae,aX⟩:∃v,aD y=v:=⟨_,rfl⟩
       have cB:ae<=s.c.n:=by have:=ad.2;omega
       have cC:1<=ae:=by have:=ad.1;omega
       have cD:bF (∀w:World,Calls x_ 97 #[.int .i64 y] w λ e w'=>e=.returned (.int .i64 (ae:Int))/\w=w'):=U (λ w=>by have:=s7 y w (by unfold aD at aX;omega) (by unfold aD at aX;omega);rw[aX] at this;exact this);obtain⟨fe,cE,dc,-⟩:=br.o.e.l7 3 2 rfl br.o.e.kJ (by have:=I.o.pz;omega);obtain⟨aF,b3⟩:∃l,hU s.c.lvl ae=l:=⟨_,rfl⟩
       have cF:=br.o.e.vZ cE (k:=ae) (by have:=I.o.pz;omega);rw[b3] at cF;have ff:(ae:Int)<(s.c.lvl.length:Int):=by have:=I.o.pz;omega
       have hlen:pre.length+1<=120002:=by
        have h1:=da.o.length_le;have aj:(others (az s.c.cl d) x).length<=(az s.c.cl d).length:=p_ _ _;have:=Z.o.2.2.2.2.len;have:=Z.o.2.2.2.1;rw[n_,e_] at h1;omega
       have aY:=U (z_ aX (z_ b3 (z_ hlen (z_ cB cC))));clear aX b3 hlen cB cC ad cE
       gi_wp2
       refine C3 8 (by kernel_rfl) (by kernel_rfl) (by rintro⟨_,_,h⟩;exact h) (by kernel_rfl) ?_;simp only[w_,s_,v_,r_]
       iterate 5 still_step
       still_call ((cD.o _).mono (λ e w' h=>⟨h.1,h.2.symm⟩))
       iterate 2 still_step
       refine o_ ?_;change wpList _ _ _ _ _ f.drew;have bs:bF (KeepsFrom N.heap.size f f.drew/\pG (t.heap.size+1) bL m1 f f.drew):=U ⟨(b_ f).from _,pG.refl _ _ _ _⟩;have aW:=U (aW.o.grow ((u_ _ f).drew));have cA:f.drew.cell? ⟨bD,0,none⟩=some (.map (some (w.heap.size+1+1))):=cA;clear db dc cF br;generalize f.drew=ar at*
       by_cases ad:0<aF
       ·have dd:decide ((0:Int)<(aF:Int))=true:=by simp;omega
        have de:(0:Int)<(aF:Int):=by omega
        have cG:=U ad;clear ad;obtain⟨fg,fh,aU,cH⟩:=aW.o.set.drew.put (x:=(ae:Int)) (by have:=aq.o.2.2;have:=aY.o;have:=ab.o.AB;unfold maxLen;omega) (D4 _ (by omega) (by have:=aY.o;omega));have aC:=U (z_ aU cH);clear aU cH
        go_wp2_with fail
        gi_wp2
        refine C3 3 (by kernel_rfl) (by kernel_rfl) (by rintro⟨_,_,h⟩;exact h) (by kernel_rfl) ?_;simp only[w_,s_,v_,r_]
        iterate 2 still_step
        still_call ((cD.o _).mono (λ e w' h=>⟨h.1,h.2.symm⟩))
        refine o_ ?_;change wpList _ _ _ _ _ ar.drew
        go_wp2_with fail
        have df:=(aW.o.grow ((u_ _ ar).drew)).put aC.o.1 aC.o.2;refine⟨bs.o.1.trans (((b_ ar).from _).trans (KeepsFrom.of_grownBy aC.o.2 (λ r e=>by cases e;exact aE.o.1))),bs.o.2.trans ((show pG _ _ _ ar ar.drew from pG.refl _ _ _ ar).trans (pG.Gq (W:=ar.drew) aC.o.2 cu.o.1 cu.o.2)),L+1,J++[(ae:Int)],df,λ v Q=>by rw[zL,aq.o.1 v Q];rfl,λ b4 b5 av=>?_,by have:=aq.o.2.2;rw[n_,e_];omega⟩;rw[zL];rcases List.mem_append.1 b5 with h|h
        ·rw[aq.o.2.1 b4 h av];rfl
        ·rw[List.mem_singleton] at h;subst h;rw[aY.o.1];simp
       ·have dd:decide ((0:Int)<(aF:Int))=false:=by simp;omega
        have de:¬(0:Int)<(aF:Int):=by omega
        have cG:=U ad;clear ad
        go_wp2_with fail
        gi_wp2
        exact⟨bs.o.1,bs.o.2,L,J,aW.o,aq.o.1,λ b4 b5 av=>(List.mem_append.1 b5).elim (λ h=>aq.o.2.1 b4 h av) (λ h=>by rw[List.mem_singleton] at h;subst h;exact absurd (show 0<aF by rw[<-aY.o.2.1,<-aY.o.1];exact av) cG.o),by have:=aq.o.2.2;rw[n_];omega⟩
      case done=>
       rintro D ys f ao rfl ⟨L,J,h1,aj,bo,b1⟩ aV;have hlen:(others (az s.c.cl d) x).length<=120002:=by
        have aj:(others (az s.c.cl d) x).length<=(az s.c.cl d).length:=p_ _ _;have:=Z.o.2.2.2.2.len;have:=Z.o.2.2.2.1;omega
       have an:sG F w f G bD s.c p aN j L J A n c out (D::ds):=ab.o.Nb I.o bu.o (h1.mark (by have:=aE.o.2.1;omega) aV (λ E dh=>by have:=aE.o.2.2 E dh;omega)) (d:=d) (by rw[X.o.1,X.o.2.2.2.1];exact bn.o) aj (λ y R cI hl=>bo y (List.mem_filter.2 ⟨R,by rw[X.o.1] at cI;simpa using cI⟩) hl) (by omega);have an:=U an;clear h1 aj bo b1 aV hlen
       gi_wp2
       go_wp2_with fail
       exact q_ j (by omega) (bT _ _ _ (xE.mk (ds:=D::ds) an.o))
      case stop=>
       rintro D fi pre f ao fj h;exact h.elim
   ·have fk:decide ((j:Int)-1>=(al:Int))=false:=by simp;omega
    have cU:¬(al:Int)<=(j:Int)-1:=by omega
    have di:=U cS
    go_wp2_with fail
    refine C6 ds rfl B.o.s.u5.nt (λ D ao=>(B.o.s.u5.kR D ao).2) (λ W' aA=>⟨_,results_tmp rfl _ _ _,?_⟩);have hlen:=B.o.s.len;have dj:=B.o.ci.done I.o (by rw[ck];exact Y.o.2.2.1) (by rw[Y.o.2.1];have:=di.o;omega);refine⟨A,c,out,by rw[hlen];rfl,?_,aA.below B.o.s.below (λ D ao=>(B.o.s.u5.kR D ao).1),λ x aa=>B.o.ci.Bt x aa,B.o.xD,dj,λ b P=>(B.o.s.row.lt b (by show(ay.v ⟨A,n,c⟩).ownBlock=_;rw[ay.own];exact P)).1⟩;rw[hlen];have aZ:=aP.kZ B.o.s.row (by have:=B.o.nl;omega);refine⟨aZ.len,aZ.cap,aZ.mG,aZ.n9,λ av=>?_⟩;obtain⟨aG,bt,bb,bc,cJ⟩:=aZ.cells av;have dk:aG∉ds:=λ ag=>by
     obtain⟨v1,b6⟩:∃v1,W.cell? ⟨aG,bt+0,none⟩=some v1:=⟨_,cJ 0 av⟩
     unfold World.cell? at b6;rw[show W.heap[(⟨aG,bt+0,none⟩:Addr).block]? =_ from(B.o.s.u5.kR aG ag).2] at b6
     cases b6
    exact⟨aG,bt,bb,by rw[aA.size];exact bc,λ k hk=>(aA.cell (p:=⟨aG,bt+k,none⟩) dk).trans (cJ k hk)⟩
end
section
open Go.RowKit Go.Shelf
def Nf:Code->Code
 | .cond _ _ b=>b
 |c=>c
noncomputable def Ng:Code:=BV (ng (Nf (ng ((Tryz.f99.body.bind λ c=>qv c 4).getD .skip))))
theorem Nh{hs:Nat->ay}{bk jV jF gY gJ gu gW u16 gv gw gx gI gy gz gA gB gC gD gE gF fS fT fU u32 fV fW fZ ga gb gd gh gi gj gl gm gG gH iz iq ir bT bU bV bW bX bY bZ b5 b6 b7 b8 b9 cc cg ck u64 cm cn cp cr ct cu cv cw cz cA cB cC cD cE cF cG cH cI cK cL cM di dm dn dr dw dx dy dz cN cO cQ cR cS cT cU cV cW cZ c4 c5 c6 c7 c8 c9 dc dA dB dD dF dG dH dI dJ dK dL dM dN dO dP dQ dR dS dU dV dW dX dY dZ ec ee ef ei ej ek en fL fM fN eo ep er eu ew ey ez eA eB eC eD eE fO fP fQ eF eG eH eL eM eN eO eP eR eS eT eU eV eW eX eY eZ e3 e4 e5 e6 e7 e8 e9 fc fe ff fh fk fm fo fq fu fA fB fC gn gp fD fE fF fG fH fI fJ iJ iK iL iM iN iO iP iQ iR iS iT iU jq jr js jt jv jw jx jy jX jY jZ j0 j3 j4:Value}{Q:Exit->Act->World->Prop}
  (C:se bg gZ w0 F ah n fR jI aI gN bN gO bH) (S:mS bg gZ base w0 G F ah n fR jI aI bn bH K W hs cb s aB s.c.ag) (X:s.c.st.length<bN) (aq:ak ah s.c.st.length=p) (Y:gP n p) (Z: -p∈s.c.ax)
  (ar:∀(K:Nat->Prop)(hs:Nat->ay)(cb:Nat->Nat)(s':au)(h':Nat)(av:Option Addr)(aw az:Nat)(bk jV jF gY gJ gu bh bj gW u16 gv gw gx gI gy gz gA gB gC gD gE gF fS fT fU u32 fV fW fZ ga gb gd gh gi gj gl gm gG gH iz iq ir bT bU bV bW bX bY bZ b5 b6 b7 b8 b9 cc cg ck u64 cm cn cp cr ct cu cv cw cz cA cB cC cD cE cF cG cH cI cK cL cM di dm dn dr dw dx dy dz cN cO cQ cR cS cT cU cV cW cZ c4 c5 c6 c7 c8 c9 dc dA dB dD dF dG dH dI dJ dK dL dM dN dO dP dQ dR dS dU dV dW dX dY dZ ec ee ef ei ej ek en fL fM fN eo ep er eu ew ey ez eA eB eC eD eE fO fP fQ eF eG eH eL eM eN eO eP eR eS eT eU eV eW eX eY eZ e3 e4 e5 e6 e7 e8 e9 fc fe ff fh fk fm fo fq fu fA fB fC gn gp fD fE fF fG fH fI fJ iJ iK iL iM iN iO iP iQ iR iS iT iU jq jr js jt jv jw jx jy jX jY jZ j0 j3 j4:Value)(W':World),sg bg gZ base w0 G F ah n fR aI bn bH K W' hs cb s' aB h' 2 none 0 0 av aw az->aR W' bn 30 [.int .i64 2,nk,.slice av aw az,.int .i64 (aB:Int)]->Q .ret {tmps:= #[.pointer (some ⟨G,0,none⟩),.slice gN bN gO,.int .i64 (bH:Int),bk,jV,jF,.pointer (some ⟨bn,0,none⟩),.int .i64 (ji:Int),.int .i64 left,.int .i64 2000,gY,gJ,gu,bh,bj,gW,u16,gv,gw,gx,gI,gy,gz,gA,gB,gC,gD,gE,gF,fS,fT,fU,u32,fV,fW,fZ,ga,gb,gd,gh,gi,gj,gl,gm,gG,gH,iz,iq,ir,bT,bU,bV,bW,bX,bY,bZ,b5,b6,b7,b8,b9,cc,cg,ck,u64,cm,cn,cp,cr,ct,cu,cv,cw,cz,cA,cB,cC,cD,cE,cF,cG,cH,cI,cK,cL,cM,di,dm,dn,dr,dw,dx,dy,dz,cN,cO,cQ,cR,cS,cT,cU,cV,cW,cZ,c4,c5,c6,c7,c8,c9,dc,dA,dB,dD,dF,dG,dH,dI,dJ,dK,dL,dM,dN,dO,dP,dQ,dR,dS,dU,dV,dW,dX,dY,dZ,ec,ee,ef,ei,ej,ek,en,fL,fM,fN,eo,ep,er,eu,ew,ey,ez,eA,eB,eC,eD,eE,fO,fP,fQ,eF,eG,eH,eL,eM,eN,eO,eP,eR,eS,eT,eU,eV,eW,eX,eY,eZ,e3,e4,e5,e6,e7,e8,e9,fc,fe,ff,fh,fk,fm,fo,fq,fu,fA,fB,fC,gn,gp,fD,fE,fF,fG,fH,fI,fJ,iJ,iK,iL,iM,iN,iO,iP,iQ,iR,iS,iT,iU,jq,jr,js,jt,jv,jw,jx,jy,jX,jY,jZ,j0,j3,j4],defers:=[]} W'):
  Code.wp x_ Ng Q {tmps:= #[.pointer (some ⟨G,0,none⟩),.slice gN bN gO,.int .i64 (bH:Int),bk,jV,jF,.pointer (some ⟨bn,0,none⟩),.int .i64 (ji:Int),.int .i64 left,.int .i64 2000,gY,gJ,gu,.int .i64 0,.int .i64 p,gW,u16,gv,gw,gx,gI,gy,gz,gA,gB,gC,gD,gE,gF,fS,fT,fU,u32,fV,fW,fZ,ga,gb,gd,gh,gi,gj,gl,gm,gG,gH,iz,iq,ir,bT,bU,bV,bW,bX,bY,bZ,b5,b6,b7,b8,b9,cc,cg,ck,u64,cm,cn,cp,cr,ct,cu,cv,cw,cz,cA,cB,cC,cD,cE,cF,cG,cH,cI,cK,cL,cM,di,dm,dn,dr,dw,dx,dy,dz,cN,cO,cQ,cR,cS,cT,cU,cV,cW,cZ,c4,c5,c6,c7,c8,c9,dc,dA,dB,dD,dF,dG,dH,dI,dJ,dK,dL,dM,dN,dO,dP,dQ,dR,dS,dU,dV,dW,dX,dY,dZ,ec,ee,ef,ei,ej,ek,en,fL,fM,fN,eo,ep,er,eu,ew,ey,ez,eA,eB,eC,eD,eE,fO,fP,fQ,eF,eG,eH,eL,eM,eN,eO,eP,eR,eS,eT,eU,eV,eW,eX,eY,eZ,e3,e4,e5,e6,e7,e8,e9,fc,fe,ff,fh,fk,fm,fo,fq,fu,fA,fB,fC,gn,gp,fD,fE,fF,fG,fH,fI,fJ,iJ,iK,iL,iM,iN,iO,iP,iQ,iR,iS,iT,iU,jq,jr,js,jt,jv,jw,jx,jy,jX,jY,jZ,j0,j3,j4],defers:=[]} W:=by
 have bl:=U ar;have z:=U C;have aA:=U S;have aC:=U (S.nA C);have aa:=U (z_ X (z_ aq (z_ Y Z)));have bo:bF (∀b,w0.heap.size<=b->¬bg b):=U λ b i=>C.DY i
 have aD:=U (Nd S.gK S.ko.gV.aN S.ko.gV.jS (by have:=aC.o;omega) (by have:=aC.o;omega) (p:=p) (by rw[S.ko.rg.jH];exact Y) Z);clear ar C S X aq Y Z
 conv=>arg 2;whnf
 dsimp only
 go_upto_region 32 with(go_at_call 153;refine aD.o.mono ?_;rintro e w1 ⟨j,co,out,rfl,xw,aE,aF,aH,un,aJ⟩;dsimp only)
 have f:=U ((aA.o.below aE).below (bC w1 (.cells #[.slice j out.length co] 25)));have aK:(w1.alloc (.cells #[.slice j out.length co] 25)).cell? ⟨w1.heap.size,0,none⟩=some (.slice j out.length co):=by go_simp
 have aL:=U aK;have bp:=U (xw.alloc (.cells #[.slice j out.length co] 25));have aM:∀b,j.map (·.block)=some b->0<out.length->b<w1.heap.size:=λ b e bq=>by
  obtain⟨bJ,off,aO,h1,_⟩:=xw.cells bq;rw[aO] at e;injection e with e;exact e▸h1
 have br:=U aM;have bs:bF (w1.heap.size<(w1.alloc (.cells #[.slice j out.length co] 25)).heap.size):=U (by simp);have L:=U (z_ aF (z_ aH un));have bt:bF (∀b,j.map (·.block)=some b->b≠bn):=U (λ b e=>by have h1:=aJ b e;have A:=aA.o.j5.lt;omega);clear aK aM xw aE aF aH un aJ aD;generalize w1.alloc (.cells #[.slice j out.length co] 25)=V at*;generalize w1.heap.size=B at*;have M:=f.o.j5.cell 0;have N:=f.o.j5.cell 1;have O:=f.o.j5.cell 2;have P:=f.o.j5.cell 3;have aQ:=f.o.j5.free 0;have aS:=f.o.j5.free 1;have aT:=f.o.j5.free 2;have aU:=f.o.j5.free 3;simp only[nk,m_,l_] at M N O P;have bK:∀(fn:Fn)(first cap:Array Value)(w:World),(Instr.makeFunc fn first cap).run x_ w=.ok (.func fn first cap) w:=λ _ _ _ _=>rfl
 go_upto_region 33 with fail
 clear M N O P aQ aS aT aU;have aV:bF (aR (V.setCell ⟨bn,0,none⟩ (.int .i64 2)) bn 30 [.int .i64 2,nk,nk,.int .i64 (aB:Int)]):=U (f.o.j5.set 0 _);have D:=U (f.o.gK.vb f.o.sF 0 (.int .i64 2));have aW:=U (aG.D0 f.o 0 (.int .i64 2));have bu:B≠bn:=λ e=>by
  have h1:V.heap[bn]? =_:=f.o.j5;have A:=aL.o;rw[e] at A;have ab:=f.o.j5.cell 0;rw[ab] at A;simp at A
 have c3:(V.setCell ⟨bn,0,none⟩ (.int .i64 2)).cell? ⟨B,0,none⟩=some (.slice j out.length co):=by
  rw[World.cell?_setCell_other _ _ _ _ (by simp[bu])];exact aL.o
 have aX:=((f.o.Hu z.o).jB (aG.set (K:=gZ) bn 0 (.int .i64 2) f.o.tU) z.o.Hs)
 have aY:aP (V.setCell ⟨bn,0,none⟩ (.int .i64 2)) j out.length co out:=bp.o.jB (aG.set (K:=λ b=>b≠bn) bn 0 (.int .i64 2) (λ h=>h rfl)) (λ b e _=>bt.o b e);have H:bF (B<V.heap.size/\∀b,j.map (·.block)=some b->0<out.length->b<B):=U ⟨bs.o,br.o⟩;have aZ:(V.setCell ⟨bn,0,none⟩ (.int .i64 2)).heap.size=V.heap.size:=by simp
 generalize V.setCell ⟨bn,0,none⟩ (.int .i64 2)=l at*;have E:=U (z_ c3 (z_ aY aZ));have bw:=U (vD gN bN gO ah l aX);have bx:=D.o.e;have bz:bF (∀(I:Option Addr)(t:Nat)(y:World),y.ownsRow l.heap.size 3 1 (.slice I ah.length t) ah.length (ah.map (d_ .i64))->Below l.heap.size l y->∃g,I=some ⟨g,0,none⟩/\l.heap.size<=g/\g<y.heap.size/\Calls x_ 85 #[.slice (some ⟨g,0,none⟩) ah.length t,.func (.func 154) #[] #[.pointer (some ⟨B,0,none⟩)]] y λ e w'=>
   ∃m,e=.returned (.slice (some ⟨g,0,none⟩) m t)/\Own w' l.heap.size g m t (ah.filter λ x=>hasB out x)/\Below l.heap.size y w'):=U (by
  intro I t y R i;have hl:=z.o.yq;have X:=aa.o.1;obtain⟨k,hk⟩:∃k,ah.length=k+1:=⟨ah.length-1,by omega⟩
  rw[hk] at R⊢;obtain⟨g,cap,bA⟩:=CX R;injection bA with bB aO bL
  subst bB;have ad:=R.lt g rfl;refine⟨g,rfl,ad.1,ad.2,Na y l.heap.size g (k+1) t ah R ad.1 ((i.cell (p:=⟨B,0,none⟩) (by rw[E.o.2.2];exact H.o.1)).trans E.o.1) (j_ (by rw[E.o.2.2];exact H.o.1) i.size) (by have:=H.o.1;have:=E.o.2.2;omega) (E.o.2.1.below i) (λ b e=>?_)⟩;have bD:0<out.length:=List.length_pos_iff.2 (λ e=>by have h:=L.o.2.1;rw[e] at h;cases h);have h1:=H.o.2 b e bD;have A:=H.o.1;have ab:=E.o.2.2;have bE:=i.size;exact⟨by omega,by omega⟩)
 clear aX c3 aY aZ bx
 go_upto_region 34 with(first
  |(go_at_call 81;refine bw.o.mono ?_;rintro e bG ⟨I,t,rfl,a6,ae⟩;dsimp only;obtain⟨g,rfl,a7,a8,af⟩:=bz.o I t bG a6 ae;have af:=U af;have v:=U (z_ ae (z_ a7 a8));clear a6 ae a7 a8)
  |(go_at_call 85;refine af.o.mono ?_;rintro e J ⟨m,rfl,a',ai⟩;dsimp only;have aj:=U (aV.o.below (v.o.1.trans ai));have T:=U (z_ a' ai);clear a' ai;have f2:=aj.o.free 2;have ba:=aj.o.cell 2;simp only[nk,m_,l_] at ba))
 have u:=U (aj.o.set 2 (.slice (some ⟨g,0,none⟩) m t));have M:=u.o.cell 0;have N:=u.o.cell 1;have O:=u.o.cell 2;have P:=u.o.cell 3;have aQ:=u.o.free 0;have aS:=u.o.free 1;have aT:=u.o.free 2;have aU:=u.o.free 3;simp only[nk,List.set_cons_succ,List.set_cons_zero,m_,l_] at M N O P;clear f2 ba;have al:Below l.heap.size l J:=v.o.1.trans T.o.2;have bb:g<J.heap.size:=j_ v.o.2.2 T.o.2.size;have bc:=(D.o.below al).1;have bd:=bc.qJ (g:=g) bb (by have:=D.o.e.box.lt;have:=v.o.2.1;omega) (λ r e=>by have:=(D.o.e.rows.lt e).2;have:=v.o.2.1;omega) (λ d ag e=>by have:=(D.o.e.cls d ag).lt;have:=v.o.2.1;omega);have an:aG (λ b=>K b/\b≠bn) V J:=aW.o.trans ((aG.rf al D.o.s.lt).mono λ b i=>i.1);have bf:g≠bn:=by have:=aV.o.lt;have:=v.o.2.1;omega
 have hm:m<=1000:=by
  have h1:=T.o.1.len;have A:=p_ (λ x=>hasB out x) ah;have ab:=z.o.yq;have bE:=z.o.Hr;omega
 have ao:sg bg gZ base w0 G F ah n fR aI bn bH (qJ K g) J hs cb s aB s.c.ag 2 none 0 0 (some ⟨g,0,none⟩) m t:=by
  have f0:aG gZ V J:=an.mono λ b i=>⟨f.o.ru b i,λ e=>f.o.tU (e▸i)⟩
  refine⟨λ b i=>.inl (f.o.ru b i),bd,f.o.jB.trans f0,f.o.ko,.inl f.o.sF,f.o.tU,f.o.xy.kept (f0.mono λ b i=>i.1) rfl rfl,λ q bI=>((f.o.xz q bI).jB (an.mono λ b i=>i.1)).mono λ b i=>⟨⟨.inl i.1.1,i.1.2⟩,i.2⟩,f.o.xA,f.o.vc,f.o.mW,.inr (.inl ⟨rfl,rfl,ah.filter λ x=>hasB out x,T.o.1.xw (by omega),λ b e=>?_,List.filter_sublist,?_⟩)⟩
  ·injection e with e
   have e:g=b:=e;subst e;exact⟨⟨.inr rfl,bf⟩,bo.o _ (Nat.le_trans f.o.jB.size (Nat.le_trans aW.o.size v.o.2.1))⟩
  ·exact f.o.ko.core (by rw[z.o.yq];exact aa.o.1) aa.o.2.1 L.o.1 L.o.2.2 L.o.2.1
 have ao:=U ao;clear al bb bc bd an bf hm
 go_wp2_with fail
 apply bl.o
 ·exact((((((ao.o.set 2 _).set 0 _).set 1 _).set 2 _).set 3 _))
 ·exact((((u.o.set 0 _).set 1 _).set 2 _).set 3 _)
structure D5(bg gZ:Nat->Prop)(base:Nat)(w0:World)(G:Nat)(F:List (List Int))(ah:List Int)(n fR jI:Nat)(aI:au)(bn bH bN:Nat)(K:Nat->Prop)(cb:Nat->Nat)(aB k8:Nat)(oH:List Int)(hs:Nat->ay)(s:au)(next:Int)(W:World)(g:Nat):Prop where
 S:mS bg gZ base w0 G F ah n fR jI aI bn bH K W hs cb s aB s.c.ag
 fix:s.c.ag=s.c.ax.length
 mm:s.c.mm=false
 aO:s.aO.length=k8
 ax:s.c.ax=oH
 Ni:next=0\/(next≠0/\gP n next/\ki s.c next=0/\s.c.st.length<bN/\ak ah s.c.st.length=next)
 g:g=2*(bN-s.c.st.length)+(if next=0 then 1 else 0)
inductive yt(bg gZ:Nat->Prop)(base:Nat)(w0:World)(G:Nat)(F:List (List Int))(ah:List Int)(n fR jI:Nat)(aI:au)(gN:Option Addr)(bN gO bn bH:Nat)(K:Nat->Prop)(cb:Nat->Nat)(aB ji:Nat)(left:Int)(k8:Nat)(oH:List Int):Nat->Act->World->Prop
 |mk {hs:Nat->ay} {s:au} {next:Int} {g:Nat} {bk jV jF gY gJ gu gL gW u16 gv gw gx gI gy gz gA gB gC gD gE gF fS fT fU u32 fV fW fZ ga gb gd gh gi gj gl gm gG gH iz iq ir bT bU bV bW bX bY bZ b5 b6 b7 b8 b9 cc cg ck u64 cm cn cp cr ct cu cv cw cz cA cB cC cD cE cF cG cH cI cK cL cM di dm dn dr dw dx dy dz cN cO cQ cR cS cT cU cV cW cZ c4 c5 c6 c7 c8 c9 dc dA dB dD dF dG dH dI dJ dK dL dM dN dO dP dQ dR dS dU dV dW dX dY dZ ec ee ef ei ej ek en fL fM fN eo ep er eu ew ey ez eA eB eC eD eE fO fP fQ eF eG eH eL eM eN eO eP eR eS eT eU eV eW eX eY eZ e3 e4 e5 e6 e7 e8 e9 fc fe ff fh fk fm fo fq fu fA fB fC gn gp fD fE fF fG fH fI fJ iJ iK iL iM iN iO iP iQ iR iS iT iU jq jr js jt jv jw jx jy jX jY jZ j0 j3 j4:Value} {W:World} (h:D5 bg gZ base w0 G F ah n fR jI aI bn bH bN K cb aB k8 oH hs s next W g):yt bg gZ base w0 G F ah n fR jI aI gN bN gO bn bH K cb aB ji left k8 oH g {tmps:= #[.pointer (some ⟨G,0,none⟩),.slice gN bN gO,.int .i64 (bH:Int),bk,jV,jF,.pointer (some ⟨bn,0,none⟩),.int .i64 (ji:Int),.int .i64 left,.int .i64 2000,gY,gJ,gu,.int .i64 next,gL,gW,u16,gv,gw,gx,gI,gy,gz,gA,gB,gC,gD,gE,gF,fS,fT,fU,u32,fV,fW,fZ,ga,gb,gd,gh,gi,gj,gl,gm,gG,gH,iz,iq,ir,bT,bU,bV,bW,bX,bY,bZ,b5,b6,b7,b8,b9,cc,cg,ck,u64,cm,cn,cp,cr,ct,cu,cv,cw,cz,cA,cB,cC,cD,cE,cF,cG,cH,cI,cK,cL,cM,di,dm,dn,dr,dw,dx,dy,dz,cN,cO,cQ,cR,cS,cT,cU,cV,cW,cZ,c4,c5,c6,c7,c8,c9,dc,dA,dB,dD,dF,dG,dH,dI,dJ,dK,dL,dM,dN,dO,dP,dQ,dR,dS,dU,dV,dW,dX,dY,dZ,ec,ee,ef,ei,ej,ek,en,fL,fM,fN,eo,ep,er,eu,ew,ey,ez,eA,eB,eC,eD,eE,fO,fP,fQ,eF,eG,eH,eL,eM,eN,eO,eP,eR,eS,eT,eU,eV,eW,eX,eY,eZ,e3,e4,e5,e6,e7,e8,e9,fc,fe,ff,fh,fk,fm,fo,fq,fu,fA,fB,fC,gn,gp,fD,fE,fF,fG,fH,fI,fJ,iJ,iK,iL,iM,iN,iO,iP,iQ,iR,iS,iT,iU,jq,jr,js,jt,jv,jw,jx,jy,jX,jY,jZ,j0,j3,j4],defers:=[]} W
theorem yt.elim(b:yt bg gZ base w0 G F ah n fR jI aI gN bN gO bn bH K cb aB ji left k8 oH g a W){P:Prop}
  (k:∀{hs:Nat->ay}{s:au}{next:Int}{c d e f i j l m u16 o p q r t u v w y z A B C D E u32 H I J L M N O Q R S T U V X Y Z aa ab ad ae af ag ai aj ak al an ao aq ar av u64 aw ax az aA aC aD aE aF aG aH aJ aK aL aM aN aO aP aQ aR aS aT aU aV aW aX aY aZ a6 a7 a8 a' ba bb bc bd bf bh bj bk bl bo bp bq br bs bt bu bw bx bz bA bB bC bD bE bF bG bI bJ bK bL bM bO bP bQ bR bS bT bU bV bW bX bY bZ b0 b1 b2 b3 b4 b5 b6 b7 b8 b9 b' ca cc cd cf cg ch cj ck cm cn cp cq cr ct cu cv cw cx cy cz cA cB cC cD cE cF cG cH cI cJ cK cL cM cN cO cP cQ cR cS cT cU cV cW cX cY cZ c0 c4 c5 c6 c7 c8 c9 da db dc dd de df dh di dj dk dm dn dp dq dr dt du dv dw dx dy dz dA dB dC dD dE:Value},a={tmps:= #[.pointer (some ⟨G,0,none⟩),.slice gN bN gO,.int .i64 (bH:Int),c,d,e,.pointer (some ⟨bn,0,none⟩),.int .i64 (ji:Int),.int .i64 left,.int .i64 2000,f,i,j,.int .i64 next,l,m,u16,o,p,q,r,t,u,v,w,y,z,A,B,C,D,E,u32,H,I,J,L,M,N,O,Q,R,S,T,U,V,X,Y,Z,aa,ab,ad,ae,af,ag,ai,aj,ak,al,an,ao,aq,ar,av,u64,aw,ax,az,aA,aC,aD,aE,aF,aG,aH,aJ,aK,aL,aM,aN,aO,aP,aQ,aR,aS,aT,aU,aV,aW,aX,aY,aZ,a6,a7,a8,a',ba,bb,bc,bd,bf,bh,bj,bk,bl,bo,bp,bq,br,bs,bt,bu,bw,bx,bz,bA,bB,bC,bD,bE,bF,bG,bI,bJ,bK,bL,bM,bO,bP,bQ,bR,bS,bT,bU,bV,bW,bX,bY,bZ,b0,b1,b2,b3,b4,b5,b6,b7,b8,b9,b',ca,cc,cd,cf,cg,ch,cj,ck,cm,cn,cp,cq,cr,ct,cu,cv,cw,cx,cy,cz,cA,cB,cC,cD,cE,cF,cG,cH,cI,cJ,cK,cL,cM,cN,cO,cP,cQ,cR,cS,cT,cU,cV,cW,cX,cY,cZ,c0,c4,c5,c6,c7,c8,c9,da,db,dc,dd,de,df,dh,di,dj,dk,dm,dn,dp,dq,dr,dt,du,dv,dw,dx,dy,dz,dA,dB,dC,dD,dE],defers:=[]}->D5 bg gZ base w0 G F ah n fR jI aI bn bH bN K cb aB k8 oH hs s next W g->P):P:=by
 cases b with
 |mk h=>exact k rfl h
noncomputable def Nj:Code:=(Tryz.f99.body.bind λ c=>qv c 2).getD .skip
theorem Ch(l:List Nat):(l.map λ k:Nat=>(k:Int)).map (d_ .i64)=qo l:=by unfold qo;rw[List.map_map];rfl
theorem Nk{bg gZ:Nat->Prop}{base:Nat}{w0:World}{G:Nat}{F:List (List Int)}{ah:List Int}{n fR jI:Nat}{aI:au}{gN:Option Addr}{bN gO bn bH:Nat}{K:Nat->Prop}{W:World}{hs:Nat->ay}{cb:Nat->Nat}{s:au}{aB ji:Nat}{left:Int}{bk jV jF gY gJ gu gL gW u16 gv gw gx gI gy gz gA gB gC gD gE gF fS fT fU u32 fV fW fZ ga gb gd gh gi gj gl gm gG gH iz iq ir bT bU bV bW bX bY bZ b5 b6 b7 b8 b9 cc cg ck u64 cm cn cp cr ct cu cv cw cz cA cB cC cD cE cF cG cH cI cK cL cM di dm dn dr dw dx dy dz cN cO cQ cR cS cT cU cV cW cZ c4 c5 c6 c7 c8 c9 dc dA dB dD dF dG dH dI dJ dK dL dM dN dO dP dQ dR dS dU dV dW dX dY dZ ec ee ef ei ej ek en fL fM fN eo ep er eu ew ey ez eA eB eC eD eE fO fP fQ eF eG eH eL eM eN eO eP eR eS eT eU eV eW eX eY eZ e3 e4 e5 e6 e7 e8 e9 fc fe ff fh fk fm fo fq fu fA fB fC gn gp fD fE fF fG fH fI fJ iJ iK iL iM iN iO iP iQ iR iS iT iU jq jr js jt jv jw jx jy jX jY jZ j0 j3 j4:Value}{Q:Exit->Act->World->Prop}
  (C:se bg gZ w0 F ah n fR jI aI gN bN gO bH) (S:mS bg gZ base w0 G F ah n fR jI aI bn bH K W hs cb s aB s.c.ag) (N:s.c.ag=s.c.ax.length) (O:s.c.mm=false)
  (P:∀(hs:Nat->ay)(s':au)(next:Int)(bk jV jF gY gJ gu gL gW u16 gv gw gx gI gy gz gA gB gC gD gE gF fS fT fU u32 fV fW fZ ga gb gd gh gi gj gl gm gG gH iz iq ir bT bU bV bW bX bY bZ b5 b6 b7 b8 b9 cc cg ck u64 cm cn cp cr ct cu cv cw cz cA cB cC cD cE cF cG cH cI cK cL cM di dm dn dr dw dx dy dz cN cO cQ cR cS cT cU cV cW cZ c4 c5 c6 c7 c8 c9 dc dA dB dD dF dG dH dI dJ dK dL dM dN dO dP dQ dR dS dU dV dW dX dY dZ ec ee ef ei ej ek en fL fM fN eo ep er eu ew ey ez eA eB eC eD eE fO fP fQ eF eG eH eL eM eN eO eP eR eS eT eU eV eW eX eY eZ e3 e4 e5 e6 e7 e8 e9 fc fe ff fh fk fm fo fq fu fA fB fC gn gp fD fE fF fG fH fI fJ iJ iK iL iM iN iO iP iQ iR iS iT iU jq jr js jt jv jw jx jy jX jY jZ j0 j3 j4:Value)(W':World),mS bg gZ base w0 G F ah n fR jI aI bn bH K W' hs cb s' aB s'.c.ag->s'.c.ag=s'.c.ax.length->s'.c.mm=false->s'.aO.length=s.aO.length->s'.c.ax=s.c.ax->((next=0/\bN<=s'.c.st.length)\/(next≠0/\gP n next/\ki s'.c next=0/\s'.c.st.length<bN/\ak ah s'.c.st.length=next))->Q (.exit 2) {tmps:= #[.pointer (some ⟨G,0,none⟩),.slice gN bN gO,.int .i64 (bH:Int),bk,jV,jF,.pointer (some ⟨bn,0,none⟩),.int .i64 (ji:Int),.int .i64 left,.int .i64 2000,gY,gJ,gu,.int .i64 next,gL,gW,u16,gv,gw,gx,gI,gy,gz,gA,gB,gC,gD,gE,gF,fS,fT,fU,u32,fV,fW,fZ,ga,gb,gd,gh,gi,gj,gl,gm,gG,gH,iz,iq,ir,bT,bU,bV,bW,bX,bY,bZ,b5,b6,b7,b8,b9,cc,cg,ck,u64,cm,cn,cp,cr,ct,cu,cv,cw,cz,cA,cB,cC,cD,cE,cF,cG,cH,cI,cK,cL,cM,di,dm,dn,dr,dw,dx,dy,dz,cN,cO,cQ,cR,cS,cT,cU,cV,cW,cZ,c4,c5,c6,c7,c8,c9,dc,dA,dB,dD,dF,dG,dH,dI,dJ,dK,dL,dM,dN,dO,dP,dQ,dR,dS,dU,dV,dW,dX,dY,dZ,ec,ee,ef,ei,ej,ek,en,fL,fM,fN,eo,ep,er,eu,ew,ey,ez,eA,eB,eC,eD,eE,fO,fP,fQ,eF,eG,eH,eL,eM,eN,eO,eP,eR,eS,eT,eU,eV,eW,eX,eY,eZ,e3,e4,e5,e6,e7,e8,e9,fc,fe,ff,fh,fk,fm,fo,fq,fu,fA,fB,fC,gn,gp,fD,fE,fF,fG,fH,fI,fJ,iJ,iK,iL,iM,iN,iO,iP,iQ,iR,iS,iT,iU,jq,jr,js,jt,jv,jw,jx,jy,jX,jY,jZ,j0,j3,j4],defers:=[]} W')
  (R:∀(K:Nat->Prop)(hs:Nat->ay)(cb:Nat->Nat)(s':au)(h':Nat)(T:Option Addr)(V X:Nat)(bk jV jF gY gJ gu aF gL gW u16 gv gw gx gI gy gz gA gB gC gD gE gF fS fT fU u32 fV fW fZ ga gb gd gh gi gj gl gm gG gH iz iq ir bT bU bV bW bX bY bZ b5 b6 b7 b8 b9 cc cg ck u64 cm cn cp cr ct cu cv cw cz cA cB cC cD cE cF cG cH cI cK cL cM di dm dn dr dw dx dy dz cN cO cQ cR cS cT cU cV cW cZ c4 c5 c6 c7 c8 c9 dc dA dB dD dF dG dH dI dJ dK dL dM dN dO dP dQ dR dS dU dV dW dX dY dZ ec ee ef ei ej ek en fL fM fN eo ep er eu ew ey ez eA eB eC eD eE fO fP fQ eF eG eH eL eM eN eO eP eR eS eT eU eV eW eX eY eZ e3 e4 e5 e6 e7 e8 e9 fc fe ff fh fk fm fo fq fu fA fB fC gn gp fD fE fF fG fH fI fJ iJ iK iL iM iN iO iP iQ iR iS iT iU jq jr js jt jv jw jx jy jX jY jZ j0 j3 j4:Value)(W':World),sg bg gZ base w0 G F ah n fR aI bn bH K W' hs cb s' aB h' 2 none 0 0 T V X->aR W' bn 30 [.int .i64 2,nk,.slice T V X,.int .i64 (aB:Int)]->Q .ret {tmps:= #[.pointer (some ⟨G,0,none⟩),.slice gN bN gO,.int .i64 (bH:Int),bk,jV,jF,.pointer (some ⟨bn,0,none⟩),.int .i64 (ji:Int),.int .i64 left,.int .i64 2000,gY,gJ,gu,aF,gL,gW,u16,gv,gw,gx,gI,gy,gz,gA,gB,gC,gD,gE,gF,fS,fT,fU,u32,fV,fW,fZ,ga,gb,gd,gh,gi,gj,gl,gm,gG,gH,iz,iq,ir,bT,bU,bV,bW,bX,bY,bZ,b5,b6,b7,b8,b9,cc,cg,ck,u64,cm,cn,cp,cr,ct,cu,cv,cw,cz,cA,cB,cC,cD,cE,cF,cG,cH,cI,cK,cL,cM,di,dm,dn,dr,dw,dx,dy,dz,cN,cO,cQ,cR,cS,cT,cU,cV,cW,cZ,c4,c5,c6,c7,c8,c9,dc,dA,dB,dD,dF,dG,dH,dI,dJ,dK,dL,dM,dN,dO,dP,dQ,dR,dS,dU,dV,dW,dX,dY,dZ,ec,ee,ef,ei,ej,ek,en,fL,fM,fN,eo,ep,er,eu,ew,ey,ez,eA,eB,eC,eD,eE,fO,fP,fQ,eF,eG,eH,eL,eM,eN,eO,eP,eR,eS,eT,eU,eV,eW,eX,eY,eZ,e3,e4,e5,e6,e7,e8,e9,fc,fe,ff,fh,fk,fm,fo,fq,fu,fA,fB,fC,gn,gp,fD,fE,fF,fG,fH,fI,fJ,iJ,iK,iL,iM,iN,iO,iP,iQ,iR,iS,iT,iU,jq,jr,js,jt,jv,jw,jx,jy,jX,jY,jZ,j0,j3,j4],defers:=[]} W'):
  Code.wp x_ Nj Q {tmps:= #[.pointer (some ⟨G,0,none⟩),.slice gN bN gO,.int .i64 (bH:Int),bk,jV,jF,.pointer (some ⟨bn,0,none⟩),.int .i64 (ji:Int),.int .i64 left,.int .i64 2000,gY,gJ,gu,.int .i64 0,gL,gW,u16,gv,gw,gx,gI,gy,gz,gA,gB,gC,gD,gE,gF,fS,fT,fU,u32,fV,fW,fZ,ga,gb,gd,gh,gi,gj,gl,gm,gG,gH,iz,iq,ir,bT,bU,bV,bW,bX,bY,bZ,b5,b6,b7,b8,b9,cc,cg,ck,u64,cm,cn,cp,cr,ct,cu,cv,cw,cz,cA,cB,cC,cD,cE,cF,cG,cH,cI,cK,cL,cM,di,dm,dn,dr,dw,dx,dy,dz,cN,cO,cQ,cR,cS,cT,cU,cV,cW,cZ,c4,c5,c6,c7,c8,c9,dc,dA,dB,dD,dF,dG,dH,dI,dJ,dK,dL,dM,dN,dO,dP,dQ,dR,dS,dU,dV,dW,dX,dY,dZ,ec,ee,ef,ei,ej,ek,en,fL,fM,fN,eo,ep,er,eu,ew,ey,ez,eA,eB,eC,eD,eE,fO,fP,fQ,eF,eG,eH,eL,eM,eN,eO,eP,eR,eS,eT,eU,eV,eW,eX,eY,eZ,e3,e4,e5,e6,e7,e8,e9,fc,fe,ff,fh,fk,fm,fo,fq,fu,fA,fB,fC,gn,gp,fD,fE,fF,fG,fH,fI,fJ,iJ,iK,iL,iM,iN,iO,iP,iQ,iR,iS,iT,iU,jq,jr,js,jt,jv,jw,jx,jy,jX,jY,jZ,j0,j3,j4],defers:=[]} W:=by
 have z:=U P;have aG:=U R;have i:=U C;have Y:D5 bg gZ base w0 G F ah n fR jI aI bn bH bN K cb aB s.aO.length s.c.ax hs s 0 W (2*(bN-s.c.st.length)+1):=⟨S,N,O,rfl,rfl,.inl rfl,by rw[if_pos rfl]⟩
 clear P R C S N O
 conv=>arg 2;whnf
 dsimp only;refine g_ (yt bg gZ base w0 G F ah n fR jI aI gN bN gO bn bH K cb aB ji left s.aO.length s.c.ax) (2*(bN-s.c.st.length)+1) ?start ?round
 case start=>exact yt.mk Y
 case round=>
  clear Y;obtain⟨a',Z⟩:∃t,s.aO.length=t:=⟨_,rfl⟩
  obtain⟨ba,aa⟩:∃t,s.c.ax=t:=⟨_,rfl⟩
  rw[Z,aa] at z⊢;clear Z aa W hs s;intro g a W ab bb aH ad ae;refine ab.elim ?_;intro hs s next bk jV jF gY gJ gu gL gW u16 gv gw gx gI gy gz gA gB gC gD gE gF fS fT fU u32 fV fW fZ ga gb gd gh gi gj gl gm gG gH iz iq ir bT bU bV bW bX bY bZ b5 b6 b7 b8 b9 cc cg ck u64 cm cn cp cr ct cu cv cw cz cA cB cC cD cE cF cG cH cI cK cL cM di dm dn dr dw dx dy dz cN cO cQ cR cS cT cU cV cW cZ c4 c5 c6 c7 c8 c9 dc dA dB dD dF dG dH dI dJ dK dL dM dN dO dP dQ dR dS dU dV dW dX dY dZ ec ee ef ei ej ek en fL fM fN eo ep er eu ew ey ez eA eB eC eD eE fO fP fQ eF eG eH eL eM eN eO eP eR eS eT eU eV eW eX eY eZ e3 e4 e5 e6 e7 e8 e9 fc fe ff fh fk fm fo fq fu fA fB fC gn gp fD fE fF fG fH fI fJ iJ iK iL iM iN iO iP iQ iR iS iT iU jq jr js jt jv jw jx jy jX jY jZ j0 j3 j4 j H
  clear ab;subst j;have b:=U H;have af:=U ad;have ai:=U ae;have aj:=U (H.S.nA i.o);obtain⟨q,kj,r,u⟩:∃A n c,hs 5=⟨A,n,c⟩:=⟨_,_,_,rfl⟩
  have bc:W.cell? ⟨G,6,none⟩=some (.slice q kj r):=by have:=H.S.gK.e.kP (k:=6) (v:=(hs 5).v) rfl;rw[u] at this;exact this
  have al:kj=s.c.st.length:=by have:=H.S.gK.e.kj;rw[u] at this;exact this
  have f:=U (z_ u al);clear u al ad ae
  by_cases B:next=0
  ·subst B;clear H
   by_cases l:kj<bN
   ·have D:(kj:Int)<(bN:Int):=by omega
    have d5:decide ((kj:Int)<(bN:Int))=true:=decide_eq_true D;obtain⟨bd,bh,rfl,aJ,an⟩:=(b.o.S.Hu i.o).cells (by omega);obtain⟨p,hp⟩:∃p,jP ah kj=p:=⟨_,rfl⟩
    have aK:=an kj l;rw[hp] at aK;have E:ak ah kj=p:=hp;have ao:p∈ah:=by rw[<-E];exact mc (by rw[i.o.yq];exact l)
    have I:=i.o.MQ p ao;have w:=U (BS b.o.S.gK b.o.S.ko.gV.aN (by have:=aj.o;omega) (x:=p) (by rw[b.o.S.ko.rg.jH];exact I));obtain⟨t,J⟩:∃t,ki s.c p=t:=⟨_,rfl⟩
    have aq:=b.o.S.ko.gV.aN.range p;rw[J] at w aq;have d:=U (z_ l (z_ E (z_ I J)));clear l hp E ao I J an aJ;rcases aq with rfl|rfl|rfl
    ·
     go_wp2_with (go_at_call 152;refine w.o.mono ?_;rintro e w1 ⟨rfl,rfl⟩;dsimp only)
     have ar:p≠0:=d.o.2.2.1.oM;refine ai.o _ _ (q_ (2*(bN-s.c.st.length)) ?_ (af.o _ _ _ (yt.mk (hs:=hs) (s:=s) (next:=p) ⟨b.o.S,b.o.fix,b.o.mm,b.o.aO,b.o.ax,.inr ⟨ar,d.o.2.2.1,d.o.2.2.2,?_,?_⟩,?_⟩)))
     ·have:=b.o.g;rw[if_pos rfl] at this;omega
     ·rw[<-f.o.2];exact d.o.1
     ·rw[<-f.o.2];exact d.o.2.1
     ·rw[if_neg ar];rfl
    ·
     obtain⟨av,kD,aw,y⟩:∃A n c,hs 4=⟨A,n,c⟩:=⟨_,_,_,rfl⟩
     have bj:W.cell? ⟨G,5,none⟩=some (.slice av kD aw):=by have:=b.o.S.gK.e.kP (k:=5) (v:=(hs 4).v) rfl;rw[y] at this;exact this
     have az:kD=s.c.ax.length:=by have:=b.o.S.gK.e.kD;rw[y] at this;exact this
     have aA:=U (z_ az y);clear y az
     go_upto_region 29 with(go_at_call 152;refine w.o.mono ?_;rintro e w1 ⟨rfl,rfl⟩;dsimp only)
     have m:=U (b.o.S.gK.below ((bC W (.cells #[.int .i64 (kD:Int)] 3)).drew));have aL:bF (((W.alloc (.cells #[.int .i64 (kD:Int)] 3)).drew).ownsRow base 3 1 (.slice q kj r) kj ((s.c.st.map λ k:Nat=>(k:Int)).map (d_ .i64))):=U (by
      have h1:=m.o.1.e.rows.row 5;rw[f.o.1] at h1;rw[Ch];exact h1)
     have aM:=U (Nat.le_of_lt m.o.1.e.lt);have aQ:bF (kj<=1100):=U (by have:=aj.o;have:=f.o.2;omega);have aS:bF (∀v9 bE,mY ((W.alloc (.cells #[.int .i64 (kD:Int)] 3)).drew) base 3 (.slice q kj r) (kj+1) (((s.c.st.map λ k:Nat=>(k:Int))++[(kD:Int)]).map (d_ .i64)) v9 bE->mY ((W.alloc (.cells #[.int .i64 (kD:Int)] 3)).drew) base 3 (hs 5).v (s.c.st.length+1) (qo (s.c.st++[kD])) v9 bE):=U (λ v9 bE j=>by
      rw[f.o.1,<-f.o.2,<-Ch,List.map_append];exact j)
     have L:=m.o.1.e.kP (k:=6) (v:=(hs 5).v) rfl;have M:=m.o.1.e.kP (k:=5) (v:=(hs 4).v) rfl;rw[f.o.1] at L;rw[aA.o.2] at M;have L:((W.alloc (.cells #[.int .i64 (kD:Int)] 3)).drew).cell? ⟨G,6,none⟩=some (.slice q kj r):=L;have M:((W.alloc (.cells #[.int .i64 (kD:Int)] 3)).drew).cell? ⟨G,5,none⟩=some (.slice av kD aw):=M;refine wp_region_noPanic ?_
     go_region_law (refine Fk rfl (.tmp 131) (.tmp 137) rfl base (.slice q kj r) kj (s.c.st.map λ k:Nat=>(k:Int)) rfl aL.o (some ⟨W.heap.size,0,none⟩) 1 1 [(kD:Int)] rfl ((aP.lit W [(kD:Int)] 1 _ rfl rfl (by omega)).drew) (by have:=aQ.o;omega) aM.o ?_;intro v9 bE j;obtain⟨⟨A',aT,c'⟩,aU,bl,bo,f9,aC,aV⟩:=bf.Gi (x:=kD) m.o.1 (aS.o v9 bE j);obtain rfl:v9=.slice A' aT c':=aU;clear j)
     all_goals
      have aW:p∈s.c.ax:=(b.o.S.ko.gV.aN.pos p (by rw[b.o.S.ko.rg.jH];exact d.o.2.2.1)).1 d.o.2.2.2;have aX:=b.o.S.ko.level b.o.fix b.o.mm (by rw[i.o.yq,<-f.o.2];exact d.o.1) (by rw[<-f.o.2,d.o.2.1];exact aW);rw[aA.o.1] at aC;have aY:=b.o.S.move (s':={s with c:=nx s.c}) aC (m.o.2.trans aV) aX rfl rfl rfl;show aH _ _;refine ai.o _ _ (q_ (2*(bN-(s.c.st.length+1))+1) ?_ (af.o _ _ _ (yt.mk (s:={s with c:=nx s.c}) (next:=0) ⟨aY,b.o.fix,b.o.mm,b.o.aO,b.o.ax,.inl rfl,?_⟩)))
      ·have h1:=b.o.g;rw[if_pos rfl] at h1;have bp:=d.o.1;have bq:=f.o.2;omega
      ·rw[if_pos rfl];show _=2*(bN-(s.c.st++[s.c.ax.length]).length)+1;rw[n_];rfl
    ·
     have aD: -p∈s.c.ax:=(b.o.S.ko.gV.aN.xX (by rw[b.o.S.ko.rg.jH];exact d.o.2.2.1)).1 d.o.2.2.2;have aZ:=U aD;clear aD
     go_upto_region 30 with(go_at_call 152;refine w.o.mono ?_;rintro e w1 ⟨rfl,rfl⟩;dsimp only)
     rename_i br aE;have a6:=U aE;clear aE
     go_wp2_with fail
     apply a6.o;refine wp_cond (t:=true) rfl ?_;rw[if_pos rfl];refine Nh i.o b.o.S (by rw[<-f.o.2];exact d.o.1) (by rw[<-f.o.2];exact d.o.2.1) d.o.2.2.1 aZ.o ?_;exact aG.o
   ·have D:¬(kj:Int)<(bN:Int):=by omega
    have d5:decide ((kj:Int)<(bN:Int))=false:=decide_eq_false D;have a7:=U l;clear l
    go_wp2_with fail
    apply z.o hs s 0
    ·exact b.o.S
    ·exact b.o.fix
    ·exact b.o.mm
    ·exact b.o.aO
    ·exact b.o.ax
    ·exact .inl ⟨rfl,by have:=a7.o;have:=f.o.2;omega⟩
  ·have bs:decide (next=0)=false:=decide_eq_false B;have a8:bF (next≠0/\gP n next/\ki s.c next=0/\s.c.st.length<bN/\ak ah s.c.st.length=next):=U (by
    rcases H.Ni with h|h
    ·exact absurd h B
    ·exact h)
   clear H
   go_wp2_with fail
   apply z.o hs s next
   ·exact b.o.S
   ·exact b.o.fix
   ·exact b.o.mm
   ·exact b.o.aO
   ·exact b.o.ax
   ·exact .inr a8.o
theorem mF.ord{sp h:Nat}(S:mF F ah n fR s sp h){o p:List Int}(b:mw n o p)(d:∀v:Nat,1<=v->v<=n->ak s.c.val v=0->0<=ak p v):mF F ah n fR {s with ord:=o,pl:=p} sp h:=
 ⟨S.gV,⟨S.rg.jH,b,S.rg.lB,S.rg.qp,S.rg.a0,S.rg.rm,S.rg.oQ,S.rg.nM,S.rg.o8,S.rg.nN,S.rg.qc,S.rg.k8⟩,S.wg,S.lb,d,S.aQ,S.xk,S.qs,S.yX,S.v0,S.qK⟩
structure D6(bg gZ:Nat->Prop)(base:Nat)(w0:World)(G:Nat)(F:List (List Int))(ah:List Int)(n fR jI:Nat)(aI:au)(bn bH:Nat)(K:Nat->Prop)(cb:Nat->Nat)(aB k8:Nat)(oH:List Int)(hs:Nat->ay)(s1:au)(next:Int)(W:World):Prop where
 old:∃(kz:World)(wz:Nat->ay)(s':au),mS bg gZ base w0 G F ah n fR jI aI bn bH K kz wz cb s' aB s'.c.ag/\aG K kz W/\s1={s' with ord:=s1.ord,pl:=s1.pl}
 gK:bf K base W G hs cb s1
 fix:s1.c.ag=s1.c.ax.length
 mm:s1.c.mm=false
 aO:s1.aO.length=k8
 ax:s1.c.ax=oH
 lW:mw n s1.ord s1.pl
 k5:∀v:Nat,1<=v->v<=n->ak s1.c.val v=0->v≠aD next->0<=ak s1.pl v
 kL:next≠0
 nl:gP n next
 qw:ki s1.c next=0
 AD:s1.c.st.length<ah.length->next=ak ah s1.c.st.length
structure AE(bg gZ:Nat->Prop)(base:Nat)(w0:World)(G:Nat)(F:List (List Int))(ah:List Int)(n fR jI:Nat)(aI:au)(bn bH:Nat)(K:Nat->Prop)(cb:Nat->Nat)(aB k8:Nat)(oH:List Int)(hs:Nat->ay)(s:au)(next:Int)(W:World)(g:Nat):Prop where
 no:next=0->mS bg gZ base w0 G F ah n fR jI aI bn bH K W hs cb s aB s.c.ag/\s.c.ag=s.c.ax.length/\s.c.mm=false/\s.aO.length=k8/\s.c.ax=oH/\ah.length<=s.c.st.length
 yes:next≠0->D6 bg gZ base w0 G F ah n fR jI aI bn bH K cb aB k8 oH hs s next W
 gK:bf K base W G hs cb s
 g:g=s.ord.length+(if next=0 then 1 else 0)
inductive xF(bg gZ:Nat->Prop)(base:Nat)(w0:World)(G:Nat)(F:List (List Int))(ah:List Int)(n fR jI:Nat)(aI:au)(gN:Option Addr)(bN gO bn bH:Nat)(K:Nat->Prop)(cb:Nat->Nat)(aB ji:Nat)(left:Int)(k8:Nat)(oH:List Int):Nat->Act->World->Prop
 |mk {hs:Nat->ay} {s:au} {next:Int} {g:Nat} {bk jV jF gY gJ gu gL gW u16 gv gw gx gI gy gz gA gB gC gD gE gF fS fT fU u32 fV fW fZ ga gb gd gh gi gj gl gm gG gH iz iq ir bT bU bV bW bX bY bZ b5 b6 b7 b8 b9 cc cg ck u64 cm cn cp cr ct cu cv cw cz cA cB cC cD cE cF cG cH cI cK cL cM di dm dn dr dw dx dy dz cN cO cQ cR cS cT cU cV cW cZ c4 c5 c6 c7 c8 c9 dc dA dB dD dF dG dH dI dJ dK dL dM dN dO dP dQ dR dS dU dV dW dX dY dZ ec ee ef ei ej ek en fL fM fN eo ep er eu ew ey ez eA eB eC eD eE fO fP fQ eF eG eH eL eM eN eO eP eR eS eT eU eV eW eX eY eZ e3 e4 e5 e6 e7 e8 e9 fc fe ff fh fk fm fo fq fu fA fB fC gn gp fD fE fF fG fH fI fJ iJ iK iL iM iN iO iP iQ iR iS iT iU jq jr js jt jv jw jx jy jX jY jZ j0 j3 j4:Value} {W:World} (h:AE bg gZ base w0 G F ah n fR jI aI bn bH K cb aB k8 oH hs s next W g):xF bg gZ base w0 G F ah n fR jI aI gN bN gO bn bH K cb aB ji left k8 oH g {tmps:= #[.pointer (some ⟨G,0,none⟩),.slice gN bN gO,.int .i64 (bH:Int),bk,jV,jF,.pointer (some ⟨bn,0,none⟩),.int .i64 (ji:Int),.int .i64 left,.int .i64 2000,gY,gJ,gu,.int .i64 next,gL,gW,u16,gv,gw,gx,gI,gy,gz,gA,gB,gC,gD,gE,gF,fS,fT,fU,u32,fV,fW,fZ,ga,gb,gd,gh,gi,gj,gl,gm,gG,gH,iz,iq,ir,bT,bU,bV,bW,bX,bY,bZ,b5,b6,b7,b8,b9,cc,cg,ck,u64,cm,cn,cp,cr,ct,cu,cv,cw,cz,cA,cB,cC,cD,cE,cF,cG,cH,cI,cK,cL,cM,di,dm,dn,dr,dw,dx,dy,dz,cN,cO,cQ,cR,cS,cT,cU,cV,cW,cZ,c4,c5,c6,c7,c8,c9,dc,dA,dB,dD,dF,dG,dH,dI,dJ,dK,dL,dM,dN,dO,dP,dQ,dR,dS,dU,dV,dW,dX,dY,dZ,ec,ee,ef,ei,ej,ek,en,fL,fM,fN,eo,ep,er,eu,ew,ey,ez,eA,eB,eC,eD,eE,fO,fP,fQ,eF,eG,eH,eL,eM,eN,eO,eP,eR,eS,eT,eU,eV,eW,eX,eY,eZ,e3,e4,e5,e6,e7,e8,e9,fc,fe,ff,fh,fk,fm,fo,fq,fu,fA,fB,fC,gn,gp,fD,fE,fF,fG,fH,fI,fJ,iJ,iK,iL,iM,iN,iO,iP,iQ,iR,iS,iT,iU,jq,jr,js,jt,jv,jw,jx,jy,jX,jY,jZ,j0,j3,j4],defers:=[]} W
theorem xF.elim(b:xF bg gZ base w0 G F ah n fR jI aI gN bN gO bn bH K cb aB ji left k8 oH g a W){P:Prop}
  (k:∀{hs:Nat->ay}{s:au}{next:Int}{c d e f i j l m u16 o p q r t u v w y z A B C D E u32 H I J L M N O Q R S T U V X Y Z aa ab ad ae af ag ai aj ak al an ao aq ar av u64 aw ax az aA aC aD aE aF aG aH aJ aK aL aM aN aO aP aQ aR aS aT aU aV aW aX aY aZ a6 a7 a8 a' ba bb bc bd bf bh bj bk bl bo bp bq br bs bt bu bw bx bz bA bB bC bD bE bF bG bI bJ bK bL bM bO bP bQ bR bS bT bU bV bW bX bY bZ b0 b1 b2 b3 b4 b5 b6 b7 b8 b9 b' ca cc cd cf cg ch cj ck cm cn cp cq cr ct cu cv cw cx cy cz cA cB cC cD cE cF cG cH cI cJ cK cL cM cN cO cP cQ cR cS cT cU cV cW cX cY cZ c0 c4 c5 c6 c7 c8 c9 da db dc dd de df dh di dj dk dm dn dp dq dr dt du dv dw dx dy dz dA dB dC dD dE:Value},a={tmps:= #[.pointer (some ⟨G,0,none⟩),.slice gN bN gO,.int .i64 (bH:Int),c,d,e,.pointer (some ⟨bn,0,none⟩),.int .i64 (ji:Int),.int .i64 left,.int .i64 2000,f,i,j,.int .i64 next,l,m,u16,o,p,q,r,t,u,v,w,y,z,A,B,C,D,E,u32,H,I,J,L,M,N,O,Q,R,S,T,U,V,X,Y,Z,aa,ab,ad,ae,af,ag,ai,aj,ak,al,an,ao,aq,ar,av,u64,aw,ax,az,aA,aC,aD,aE,aF,aG,aH,aJ,aK,aL,aM,aN,aO,aP,aQ,aR,aS,aT,aU,aV,aW,aX,aY,aZ,a6,a7,a8,a',ba,bb,bc,bd,bf,bh,bj,bk,bl,bo,bp,bq,br,bs,bt,bu,bw,bx,bz,bA,bB,bC,bD,bE,bF,bG,bI,bJ,bK,bL,bM,bO,bP,bQ,bR,bS,bT,bU,bV,bW,bX,bY,bZ,b0,b1,b2,b3,b4,b5,b6,b7,b8,b9,b',ca,cc,cd,cf,cg,ch,cj,ck,cm,cn,cp,cq,cr,ct,cu,cv,cw,cx,cy,cz,cA,cB,cC,cD,cE,cF,cG,cH,cI,cJ,cK,cL,cM,cN,cO,cP,cQ,cR,cS,cT,cU,cV,cW,cX,cY,cZ,c0,c4,c5,c6,c7,c8,c9,da,db,dc,dd,de,df,dh,di,dj,dk,dm,dn,dp,dq,dr,dt,du,dv,dw,dx,dy,dz,dA,dB,dC,dD,dE],defers:=[]}->AE bg gZ base w0 G F ah n fR jI aI bn bH K cb aB k8 oH hs s next W g->P):P:=by
 cases b with
 |mk h=>exact k rfl h
noncomputable def Nl:Code:=(Tryz.f99.body.bind λ c=>qv c 5).getD .skip
theorem Nn{bg gZ:Nat->Prop}{base:Nat}{w0:World}{G:Nat}{F:List (List Int)}{ah:List Int}{n fR jI:Nat}{aI:au}{gN:Option Addr}{bN gO bn bH:Nat}{K:Nat->Prop}{W:World}{hs:Nat->ay}{cb:Nat->Nat}{s:au}{aB ji k8:Nat}{oH:List Int}{left next g0:Int}{g:Nat}{bk jV jF gY gJ gu gL gW u16 gv gw gx gI gy gz gA gB gC gD gE gF fS fT fU u32 fV fW fZ ga gb gd gh gi gj gl gm gG gH iz iq ir bT bU bV bW bX bY bZ b5 b6 b7 b8 b9 cc cg ck u64 cm cn cp cr ct cu cv cw cz cA cB cC cD cE cF cG cH cI cK cL cM di dm dn dr dw dx dy dz cN cO cQ cR cS cT cU cV cW cZ c4 c5 c6 c7 c8 c9 dc dA dB dD dF dG dH dI dJ dK dL dM dN dO dP dQ dR dS dU dV dW dX dY dZ ec ee ef ei ej ek en fL fM fN eo ep er eu ew ey ez eA eB eC eD eE fO fP fQ eF eG eH eL eM eN eO eP eR eS eT eU eV eW eX eY eZ e3 e4 e5 e6 e7 e8 e9 fc fe ff fh fk fm fo fq fu fA fB fC gn gp fD fE fF fG fH fI fJ iJ iK iL iM iN iO iP iQ iR iS iT iU jq jr js jt jv jw jx jy jX jY jZ j0 j3 j4:Value}{Q:Exit->Act->World->Prop}
  (C:se bg gZ w0 F ah n fR jI aI gN bN gO bH) (O:AE bg gZ base w0 G F ah n fR jI aI bn bH K cb aB k8 oH hs s next W g)
  (P:∀(hs:Nat->ay)(s':au)(next:Int)(g:Nat)(bk jV jF gY gJ gu gL gW u16 gv gw gx gI gy gz gA gB gC gD gE gF fS fT fU u32 fV fW fZ ga gb gd gh gi gj gl gm gG gH iz iq ir bT bU bV bW bX bY bZ b5 b6 b7 b8 b9 cc cg ck u64 cm cn cp cr ct cu cv cw cz cA cB cC cD cE cF cG cH cI cK cL cM di dm dn dr dw dx dy dz cN cO cQ cR cS cT cU cV cW cZ c4 c5 c6 c7 c8 c9 dc dA dB dD dF dG dH dI dJ dK dL dM dN dO dP dQ dR dS dU dV dW dX dY dZ ec ee ef ei ej ek en fL fM fN eo ep er eu ew ey ez eA eB eC eD eE fO fP fQ eF eG eH eL eM eN eO eP eR eS eT eU eV eW eX eY eZ e3 e4 e5 e6 e7 e8 e9 fc fe ff fh fk fm fo fq fu fA fB fC gn gp fD fE fF fG fH fI fJ iJ iK iL iM iN iO iP iQ iR iS iT iU jq jr js jt jv jw jx jy jX jY jZ j0 j3 j4:Value)(W':World),AE bg gZ base w0 G F ah n fR jI aI bn bH K cb aB k8 oH hs s' next W' g->(next=0->s'.ord.length=0)->Q (.exit 5) {tmps:= #[.pointer (some ⟨G,0,none⟩),.slice gN bN gO,.int .i64 (bH:Int),bk,jV,jF,.pointer (some ⟨bn,0,none⟩),.int .i64 (ji:Int),.int .i64 left,.int .i64 2000,gY,gJ,gu,.int .i64 next,gL,gW,u16,gv,gw,gx,gI,gy,gz,gA,gB,gC,gD,gE,gF,fS,fT,fU,u32,fV,fW,fZ,ga,gb,gd,gh,gi,gj,gl,gm,gG,gH,iz,iq,ir,bT,bU,bV,bW,bX,bY,bZ,b5,b6,b7,b8,b9,cc,cg,ck,u64,cm,cn,cp,cr,ct,cu,cv,cw,cz,cA,cB,cC,cD,cE,cF,cG,cH,cI,cK,cL,cM,di,dm,dn,dr,dw,dx,dy,dz,cN,cO,cQ,cR,cS,cT,cU,cV,cW,cZ,c4,c5,c6,c7,c8,c9,dc,dA,dB,dD,dF,dG,dH,dI,dJ,dK,dL,dM,dN,dO,dP,dQ,dR,dS,dU,dV,dW,dX,dY,dZ,ec,ee,ef,ei,ej,ek,en,fL,fM,fN,eo,ep,er,eu,ew,ey,ez,eA,eB,eC,eD,eE,fO,fP,fQ,eF,eG,eH,eL,eM,eN,eO,eP,eR,eS,eT,eU,eV,eW,eX,eY,eZ,e3,e4,e5,e6,e7,e8,e9,fc,fe,ff,fh,fk,fm,fo,fq,fu,fA,fB,fC,gn,gp,fD,fE,fF,fG,fH,fI,fJ,iJ,iK,iL,iM,iN,iO,iP,iQ,iR,iS,iT,iU,jq,jr,js,jt,jv,jw,jx,jy,jX,jY,jZ,j0,j3,j4],defers:=[]} W'):
  Code.wp x_ Nl Q {tmps:= #[.pointer (some ⟨G,0,none⟩),.slice gN bN gO,.int .i64 (bH:Int),bk,jV,jF,.pointer (some ⟨bn,0,none⟩),.int .i64 (ji:Int),.int .i64 left,.int .i64 2000,gY,gJ,gu,.int .i64 next,gL,gW,u16,gv,gw,gx,gI,gy,gz,gA,gB,gC,gD,gE,gF,fS,fT,fU,u32,fV,fW,fZ,ga,gb,gd,gh,gi,gj,gl,gm,gG,gH,iz,iq,ir,bT,bU,bV,bW,bX,bY,bZ,b5,b6,b7,b8,b9,cc,cg,ck,u64,cm,cn,cp,cr,ct,cu,cv,cw,cz,cA,cB,cC,cD,cE,cF,cG,cH,cI,cK,cL,cM,di,dm,dn,dr,dw,dx,dy,dz,cN,cO,cQ,cR,cS,cT,cU,cV,cW,cZ,c4,c5,c6,c7,c8,c9,dc,dA,dB,dD,dF,dG,dH,dI,dJ,dK,dL,dM,dN,dO,dP,dQ,dR,dS,dU,dV,dW,dX,dY,dZ,ec,ee,ef,ei,ej,ek,en,fL,fM,fN,eo,ep,er,eu,ew,ey,ez,eA,eB,eC,eD,eE,fO,fP,fQ,eF,eG,eH,eL,eM,eN,eO,eP,eR,eS,eT,eU,eV,eW,eX,eY,eZ,e3,e4,e5,e6,e7,e8,e9,fc,fe,ff,fh,fk,fm,fo,fq,fu,fA,fB,fC,gn,gp,fD,fE,fF,fG,fH,fI,fJ,iJ,iK,iL,iM,iN,iO,iP,iQ,iR,iS,iT,iU,jq,jr,js,jt,jv,jw,jx,jy,jX,jY,jZ,j0,j3,j4],defers:=[]} W:=by
 have R:=U P;have z:=U C;clear P C
 conv=>arg 2;whnf
 dsimp only;refine g_ (xF bg gZ base w0 G F ah n fR jI aI gN bN gO bn bH K cb aB ji left k8 oH) g ?start ?round
 case start=>exact xF.mk O
 case round=>
  clear O W hs s next g
  intro g a W S aX aY V Y;refine S.elim ?_;intro hs s next bk jV jF gY gJ gu gL gW u16 gv gw gx gI gy gz gA gB gC gD gE gF fS fT fU u32 fV fW fZ ga gb gd gh gi gj gl gm gG gH iz iq ir bT bU bV bW bX bY bZ b5 b6 b7 b8 b9 cc cg ck u64 cm cn cp cr ct cu cv cw cz cA cB cC cD cE cF cG cH cI cK cL cM di dm dn dr dw dx dy dz cN cO cQ cR cS cT cU cV cW cZ c4 c5 c6 c7 c8 c9 dc dA dB dD dF dG dH dI dJ dK dL dM dN dO dP dQ dR dS dU dV dW dX dY dZ ec ee ef ei ej ek en fL fM fN eo ep er eu ew ey ez eA eB eC eD eE fO fP fQ eF eG eH eL eM eN eO eP eR eS eT eU eV eW eX eY eZ e3 e4 e5 e6 e7 e8 e9 fc fe ff fh fk fm fo fq fu fA fB fC gn gp fD fE fF fG fH fI fJ iJ iK iL iM iN iO iP iQ iR iS iT iU jq jr js jt jv jw jx jy jX jY jZ j0 j3 j4 aG H
  clear S;subst aG;have j:=U H;have B:=U V;have D:=U Y;obtain⟨aH,n7,aJ,E⟩:∃A n c,hs 7=⟨A,n,c⟩:=⟨_,_,_,rfl⟩
  have aK:W.cell? ⟨G,10,none⟩=some (.slice aH n7 aJ):=by have:=H.gK.e.kP (k:=10) (v:=(hs 7).v) rfl;rw[E] at this;exact this
  have Z:n7=s.ord.length:=by have:=H.gK.e.n7;rw[E] at this;exact this
  have aa:=U Z;clear E Z V Y
  by_cases I:next=0
  ·subst I;have b:=U (H.no rfl);clear H;have aZ:=U (b.o.1.nA z.o)
   by_cases l:0<n7
   ·have J:(0:Int)<(n7:Int):=by omega
    have d7:decide ((0:Int)<(n7:Int))=true:=decide_eq_true J;have L:=b.o.1.ko.rg.jH;have aL:=z.o.n10;have ab:=U (KH b.o.1.gK (by rw[L];exact b.o.1.ko.rg.lW) (by rw[L];exact b.o.1.ko.rg.lB) (by omega) (by rw[<-aa.o];exact l) (by have h1:=mw.len b.o.1.ko.rg.lW;omega));have ad:=U l;clear l L aL
    go_upto_region 37 with(go_at_call 155;refine ab.o.mono ?_;rintro e w1 ⟨v,i,s1,rfl,aM,ae,af,aO,f,ag,q,ai,aj⟩;dsimp only)
    obtain⟨o,p,rfl⟩:=aO;have T:=b.o.1.ko.gV.aN;have al:v<=n:=by rw[<-b.o.1.ko.rg.jH];exact af
    have q:mw n o p:=by rw[<-b.o.1.ko.rg.jH];exact q
    have f:bf K base w1 G i cb {s with ord:=o,pl:=p}:=f;have an:v<s.c.val.length:=by rw[T.rE];omega
    obtain⟨ao,aq,ar,aP⟩:=f.e.l7 2 1 rfl f.e.jE (by show s.c.val.length≠0;omega);have M:=f.e.Ab aq (k:=v) an;replace ar:w1.cell? ⟨G,2,none⟩=some (.slice (some ⟨ao,0,none⟩) s.c.val.length (i 1).c):=ar;replace M:w1.cell? ⟨ao,v,none⟩=some (.int .i8 (ak s.c.val v)):=M;have a6:(v:Int)<(s.c.val.length:Int):=by omega
    have aQ:s.ia.length=n+1:=b.o.1.ko.rg.nM;obtain⟨av,aw,ax,aR⟩:=f.e.l7 12 9 rfl f.e.kf (by show s.ia.length≠0;omega);have r:=f.e.FV aw (k:=v) (by show v<s.ia.length;omega);replace ax:w1.cell? ⟨G,12,none⟩=some (.slice (some ⟨av,0,none⟩) s.ia.length (i 9).c):=ax;replace r:w1.cell? ⟨av,v,none⟩=some (.bool (iY s.ia v)):=r;have a7:(v:Int)<(s.ia.length:Int):=by omega
    have wn:c_.wrap (-(v:Int))= -(v:Int):=by rw[i_];have:=z.o.n10;omega
    have X:=U (z_ ae (z_ al (z_ q (z_ f (z_ ag (z_ ai aj))))));clear aM ae af f ag q ai aj al an aq aP aw aR aQ T ab aK;obtain⟨y,N⟩:∃y,ak s.c.val v=y:=⟨_,rfl⟩
    rw[N] at M;have az:=U N;clear N
    by_cases t:y=0
    ·subst t;have aA:bF (∀x:Int,x=v\/x= -(v:Int)->D6 bg gZ base w0 G F ah n fR jI aI bn bH K cb aB k8 oH i {s with ord:=o,pl:=p} x w1):=U (λ x a8=>by
      have h1:=X.o.1;have w:aD x=v:=by unfold aD;omega
      have aC:gP n x:=⟨by rw[w];exact h1,by rw[w];exact X.o.2.1⟩
      refine⟨⟨W,hs,s,b.o.1,X.o.2.2.2.2.1,rfl⟩,X.o.2.2.2.1,b.o.2.1,b.o.2.2.1,b.o.2.2.2.1,b.o.2.2.2.2.1,X.o.2.2.1,λ u d m aS aE=>?_,aC.oM,aC,?_,λ h=>absurd h (Nat.not_lt.2 b.o.2.2.2.2.2)⟩
      ·rw[w] at aE;exact(X.o.2.2.2.2.2.2 u aE).2 (b.o.1.ko.un u d m aS)
      ·show ki s.c x=0;unfold ki;rw[w,az.o];split<;>rfl)
     cases aF:iY s.ia v with
     |true=>
      rw[aF] at r
      go_wp2_with fail
      refine D.o _ _ (q_ o.length ?_ (B.o _ _ _ (xF.mk (hs:=i) (s:={s with ord:=o,pl:=p}) (next:=(v:Int)) ⟨λ e=>?_,λ _=>aA.o _ (.inl rfl),X.o.2.2.2.1,?_⟩)))
      ·have h1:=j.o.g;have d:=X.o.2.2.2.2.2.1;rw[if_pos rfl] at h1;have d:o.length+1=s.ord.length:=d;omega
      ·exact absurd e (by have:=X.o.1;omega)
      ·rw[if_neg (by have:=X.o.1;omega)];rfl
     |false=>
      rw[aF] at r
      go_wp2_with fail
      refine D.o _ _ (q_ o.length ?_ (B.o _ _ _ (xF.mk (hs:=i) (s:={s with ord:=o,pl:=p}) (next:= -(v:Int)) ⟨λ e=>?_,λ _=>aA.o _ (.inr rfl),X.o.2.2.2.1,?_⟩)))
      ·have h1:=j.o.g;have d:=X.o.2.2.2.2.2.1;rw[if_pos rfl] at h1;have d:o.length+1=s.ord.length:=d;omega
      ·exact absurd e (by have:=X.o.1;omega)
      ·rw[if_neg (by have:=X.o.1;omega)];rfl
    ·have a':(y==0)=false:=by simpa using t
     have aT:=U t;clear t
     go_wp2_with fail
     have aU:=b.o.1.ko.ord X.o.2.2.1 (λ u h1 d m=>(X.o.2.2.2.2.2.2 u (λ e=>by subst e;rw[az.o] at m;exact aT.o m)).2 (b.o.1.ko.un u h1 d m));have aV:=b.o.1.move X.o.2.2.2.1 X.o.2.2.2.2.1 aU rfl rfl rfl;refine D.o _ _ (q_ (o.length+1) ?_ (B.o _ _ _ (xF.mk (hs:=i) (s:={s with ord:=o,pl:=p}) (next:=0) ⟨λ _=>⟨aV,b.o.2⟩,λ e=>absurd rfl e,X.o.2.2.2.1,?_⟩)))
     ·have h1:=j.o.g;have d:=X.o.2.2.2.2.2.1;rw[if_pos rfl] at h1;have d:o.length+1=s.ord.length:=d;omega
     ·rw[if_pos rfl]
   ·have J:¬(0:Int)<(n7:Int):=by omega
    have d7:decide ((0:Int)<(n7:Int))=false:=decide_eq_false J;have ad:=U l;clear l
    go_wp2_with fail
    apply R.o hs s 0 g
    ·exact j.o
    ·intro _;rw[<-aa.o];have:=ad.o;omega
  ·have ba:decide (next=0)=false:=decide_eq_false I;have aW:=U I;clear H
   go_wp2_with fail
   apply R.o hs s next g
   ·exact j.o
   ·exact λ h=>absurd h aW.o
end
end Go.Proofs.YtogdlkfacflmaaaGreat
