/- Parts of the walk of the solver and its core; no condition. -/
import Derived.Test.YtogdlkfacflmaaaGreatZQ5
import Derived.Laws.Rows
import Derived.Test.YtogdlkfacflmaaaGreatZQ1
import Derived.Test.YtogdlkfacflmaaaGreatZQ4
import Derived.Test.YtogdlkfacflmaaaGreatZQ2
namespace Go.Proofs.YtogdlkfacflmaaaGreat
set_option linter.unusedVariables false
set_option linter.unusedSimpArgs false
set_option maxRecDepth 1000000
set_option maxHeartbeats 8000000
open _root_.And renaming intro→z_
open _root_.List renaming replicate→y_,getElem?_cons_zero→x_,getElem?_cons_succ→w_,length_map→s_,all_eq_true→n_,take_of_length_le→k_,getElem_mem→h_,getD_eq_getElem?_getD→e_,getElem_map→d_,take_succ_eq_append_getElem→c_,pairwise_iff_getElem→b_,eq_nil_of_length_eq_zero→Zv,mem_append→Zt,map_cons→Zr,range→Zp,mem_iff_getElem→Zo,getElem?_eq_some_iff→Zn,getElem?_eq_getElem→Zk,map_toArray→Zj,map_append→Zi,length_append→Zh,mem_singleton→Zg,mem_map→Zc,getElem?_append_right→Z4,map_nil→Z6,mem_range→Z7,any_eq_false→ZU,mem_take_iff_getElem→ZS,any_eq_true→ZR,mem_of_getElem?→ZN,take→ZM
open _root_.Or renaming inl→v_
open _root_.Go.World renaming cell?_of_block→u_,ownsRow_nil→Ze
open _root_.Go.Proofs.Tryz renaming prog→t_,underlying28→Z8
open _root_.Go.IntKind renaming wrap_i64→r_,i64→g_
open _root_.Array renaming getD_eq_getD_getElem?→q_,replicate→Zf,getElem?_eq_getElem→Z5,all_eq_true_iff_forall_mem→Z_,mem_of_getElem?→ZP,getElem?_mapIdx→ZO
open _root_.Nat renaming le_refl→p_,lt_of_lt_of_le→o_,eq_zero_or_pos→j_,zero_le→Zm,le_trans→Zl,lt_or_ge→Zd
open _root_.Bool renaming and_eq_true→m_,noConfusion→l_,not_eq_true'→Z9,or_eq_true→ZY,or_eq_false_iff→ZX
open _root_.Go.RowKit.Below renaming heap_setCell→i_,refl→a_
open _root_.Go.Value renaming slice→f_,bool→Zx,int→Zu,pointer→ZV
open _root_.Go.Result renaming andThen_ok→Zw
open _root_.Go.Value.slice renaming injEq→Zq
open _root_.Go.Sem renaming run_bind→Z0,run_pure→Z3
open _root_.Go.Act renaming put→ZZ
open _root_.Go.Region renaming wanted→ZW,binds→ZL,ready→ZK
open _root_.Int renaming toNat_natCast→ZT,le_refl→ZQ
variable{w' W:World}{row:Option Nat}{base n G gx aV h k i z size j aJ cl c' bk aY:Nat}{A bh gJ A' bt aT:Option Addr}{K:Nat->Prop}{hs:Nat->aq}{cb:Nat->Nat}{s S:aj}{F ls:List (List Int)}{aC ah a l g:List Int}{x y:Int}{gR bl:List Bool}{α:Type}{es:List mc}{ws:List (List Nat)}{hU:World->Prop}{mk:Nat->Bool}{e:TypeId}{xs:List Value}{jl:aq}{a0 a1 a2 a3 a4 a5 uA uZ:Value}
section
open Go.RowKit Go.Shelf
theorem xx{bp:Nat}{w0 w:World}(h:Below bp w0 w)(b:w.grownBy w' row)(hs:bp<=w.heap.size)(c:∀g,row=some g->bp<=g):Below bp w0 w':=
 ⟨b.os.trans h.os,b.tape.trans h.tape,b.output.trans h.output,Zl h.size b.size,λ k hk=>(b.block k (by omega) (λ e=>by have:=c k e.symm;omega)).trans (h.block k hk)⟩
def Ce(s:aj)(i:Nat)(e:lE):Prop:=e.r.ah=ax s.c.cl (gQ s.aI i)/\e.aR=(lH s (gQ s.aI i)).aR/\e.ac=min (lH s (gQ s.aI i)).ac js
structure G3(s:aj)(kR W:World)(gH:Nat)(v0 v1 v3 v4 v5 v6 oC:Value)(A:Option Addr)(j c:Nat)(es:List lE):Prop where
 gR:aO W gH 47 [v0,v1,.slice A j c,v3,v4,v5,v6,oC]
 row:W.ownsRow kR.heap.size 74 3 (.slice A j c) j (p4 es)
 len:es.length=j
 iP:aD (λ b=>b<kR.heap.size/\¬b=gH) kR W
 rd:∀e∈es,aQ W e.r.A e.r.n e.r.c e.r.ah
 ap:∀e∈es,∀b,e.r.A.map (·.block)=some b->kR.heap.size<=b/\b<W.heap.size/\(f_ A j c).ownBlock≠some b
 sp:∀(i:Nat)(h:i<es.length),Ce s i es[i]
def M8(w:World)(hs:Nat->aq)(A:Option Addr)(es:List lE)(d:Option Addr):Prop:=∃c,w.heap.size<=c/\(∀r b,(hs r).b=some b->b<c)/\(∀b,A.map (·.block)=some b->c<=b)/\(∀e∈es,∀b,e.r.A.map (·.block)=some b->c<=b)/\∀b,d.map (·.block)=some b->c<=b
def G4(K:Nat->Prop)(base:Nat)(w:World)(G:Nat)(cb:Nat->Nat)(F:List (List Int))(k:List Int)(n l m:Nat)(s:aj)(qv:Int)(qw:Option Addr)(qx qy:Nat)(e:Ending)(w':World):Prop:=
 ∃(g:Nat->Prop)(d:Nat->aq)(iK:aj)(o:Nat)(A:Option Addr)(c:Nat)(es:List lE)(f:Option Addr)(j:Nat),e=.returned (.agg #[.int .i64 qv,.slice qw qx qy,.slice A es.length c,(d 6).v,.slice f n j,.int .i64 iK.aM,(d 9).v,oc d iK])/\(∀b,K b->g b)/\aU g base w' G d cb iK/\aD K w w'/\mw F k n l iK m o/\
  iK.aA=s.aA/\iK.jl=s.jl/\iK.aI=s.aI/\iK.c.cl=s.c.cl/\qP w' A es.length c es/\es.length=iK.aI.length/\(∀(i:Nat)(h:i<es.length),Ce iK i es[i])/\aQ w' f n j ((pJ iK.act (n4 n)).map (·.1))/\M8 w d A es f
theorem M9{w:World}{c:Nat}{act:List Int}(f:n<=1000)(h:w.ownsRow base 3 1 (.slice A n c) n (gX ((Zp n).map λ j:Nat=>(j:Int)+1))){aG G:Nat}{jW:Option Addr}{n6 c6:Nat}(i:w.cell? ⟨aG,0,none⟩=some (.pointer (some ⟨G,0,none⟩)))(q:w.cell? ⟨G,8,none⟩=some (.slice jW n6 c6))
  (l:n6=n+1) (m:∃b,jW=some ⟨b,0,none⟩/\b<base/\∀v,v<=n->w.cell? ⟨b,v,none⟩=some (.int .i64 (ai act v))) (y:aG<base) (z:G<base) (B:base<=w.heap.size):
  Calls t_ 157 #[.slice A n c,.func (.func 158) #[] #[.pointer (some ⟨aG,0,none⟩)]] w λ e w'=>e=.returned (.tuple #[])/\w'.ownsRow base 3 1 (.slice A n c) n (gX ((pJ act (n4 n)).map (·.1)))/\Below base w w':=by
 rcases j_ n with d|d
 ·subst d
  haveI:Inhabited Int:=⟨0⟩
  refine(Tryz.slices_SortFunc_none (α:=Int) A c _ w).mono ?_;rintro e w' ⟨rfl,rfl⟩;have o:n4 0=[]:=List.map_eq_nil_iff.1 (by rw[D8];rfl);refine⟨rfl,?_,a_ _ _⟩;rw[o];simp only[pJ,List.mergeSort_nil];exact h
 ·obtain⟨k,rfl⟩:∃k,n=k+1:=⟨n-1,by omega⟩
  obtain⟨g,cap,p⟩:=yp h;injection p with r C D
  subst r;obtain⟨b,rfl,E,s⟩:=m;subst l;have t:=h.lt g rfl;refine(MX (ls:=n4 (k+1)) (act:=act) (base:=base) (by rw[D8];exact h) t.1 f (by omega) (by omega) i q s ⟨by omega,by omega⟩ ⟨by omega,by omega⟩ ⟨by omega,by omega⟩).mono ?_;rintro e w' ⟨rfl,h1,u⟩;exact⟨rfl,h1,u⟩
theorem Na{w:World}(E:aU K base w G hs cb s)(S:mw F aC n gx s aV h)(cT:n<=10)(cU:s.c.st.length<=1000000)
  {qv tE:Int} {qw:Option Addr} {qx qy:Nat} {ni tF tG mq s0:Value}:
  Calls t_ 100 #[.pointer (some ⟨G,0,none⟩),.agg #[.int .i64 qv,(.slice qw qx qy),ni,tF,tG,.int .i64 tE,mq,s0]] w (G4 K base w G cb F aC n gx aV s qv qw qx qy):=by
 have ar:=U E;have cV:=U S;clear E S;go_enter Tryz.func100,Tryz.ntmps100
 go_upto_region 1 with fail
 have cW:∃ak:Nat->Prop,ak=qJ (qJ (qJ K w.heap.size) (w.heap.size+1)) (w.heap.size+1+1):=⟨_,rfl⟩
 obtain⟨ak,br⟩:=cW;have bs:=bK w (.cells #[.pointer (some ⟨G,0,none⟩)] 115);have aF:=(ar.o.below bs).1.qJ (g:=w.heap.size) (by simp) (by have:=ar.o.e.box.lt;omega) (λ r e=>by have:=(ar.o.e.rows.lt e).2;omega) (λ d O e=>by have:=(ar.o.e.cls d O).lt;omega);have al:aO (w.alloc (.cells #[.pointer (some ⟨G,0,none⟩)] 115)) w.heap.size 115 [.pointer (some ⟨G,0,none⟩)]:=aO.new w 115 _;have bt:(w.alloc (.cells #[.pointer (some ⟨G,0,none⟩)] 115)).heap.size=w.heap.size+1:=by simp
 have bX:=bs;generalize w.alloc (.cells #[.pointer (some ⟨G,0,none⟩)] 115)=w1 at*;have ba:=bK w1 (.cells #[.int .i64 qv,(.slice qw qx qy),ni,tF,tG,.int .i64 tE,mq,s0] 47);have au:=(aF.below ba).1.qJ (g:=w1.heap.size) (by simp) (by have:=aF.e.box.lt;omega) (λ r e=>by have:=(aF.e.rows.lt e).2;omega) (λ d O e=>by have:=(aF.e.cls d O).lt;omega);have aH:aO (w1.alloc (.cells #[.int .i64 qv,(.slice qw qx qy),ni,tF,tG,.int .i64 tE,mq,s0] 47)) w1.heap.size 47 [.int .i64 qv,(.slice qw qx qy),ni,tF,tG,.int .i64 tE,mq,s0]:=aO.new w1 47 _;replace al:=al.below ba;have z2:(w1.alloc (.cells #[.int .i64 qv,(.slice qw qx qy),ni,tF,tG,.int .i64 tE,mq,s0] 47)).heap.size=w.heap.size+1+1:=by simp[bt]
 have bY:=bX.trans (ba.mono (by omega));rw[bt] at au aH;generalize w1.alloc (.cells #[.int .i64 qv,(.slice qw qx qy),ni,tF,tG,.int .i64 tE,mq,s0] 47)=av at*;have aJ:=bK av (.cells #[.int .i64 0,.slice none 0 0,.slice none 0 0,.slice none 0 0,.slice none 0 0,.int .i64 0,.slice none 0 0,.slice none 0 0] 47);have aK:=(au.below aJ).1.qJ (g:=av.heap.size) (by simp) (by have:=au.e.box.lt;omega) (λ r e=>by have:=(au.e.rows.lt e).2;omega) (λ d O e=>by have:=(au.e.cls d O).lt;omega);have bu:aO (av.alloc (.cells #[.int .i64 0,.slice none 0 0,.slice none 0 0,.slice none 0 0,.slice none 0 0,.int .i64 0,.slice none 0 0,.slice none 0 0] 47)) av.heap.size 47 [.int .i64 0,.slice none 0 0,.slice none 0 0,.slice none 0 0,.slice none 0 0,.int .i64 0,.slice none 0 0,.slice none 0 0]:=aO.new av 47 _;replace al:=al.below aJ;replace aH:=aH.below aJ;have bZ:=bY.trans (aJ.mono (by omega));rw[z2] at aK bu;rw[<-br] at aK;generalize av.alloc (.cells #[.int .i64 0,.slice none 0 0,.slice none 0 0,.slice none 0 0,.slice none 0 0,.int .i64 0,.slice none 0 0,.slice none 0 0] 47)=b0 at*;have aK:=U aK;have aL:=U (z_ al (z_ aH (z_ bu bZ)));have c1:b0.cell? ⟨w.heap.size,0,none⟩=some (.pointer (some ⟨G,0,none⟩)):=al.cell 0;clear aF au al aH bu bX bY bZ bs ba aJ bt z2;have b1:=U (GR aK.o cV.o (by omega) cU);have aN:=U br;clear br;obtain⟨aG,b2⟩:∃b,w.heap.size=b:=⟨_,rfl⟩
 rw[b2] at c1 aL aN⊢
 go_upto_region 2 with(go_at_call 147;refine b1.o.mono ?_;rintro e f ⟨rfl,J,iK,bw,b3,aw,b4,b5,b6,b7,b8,b9,cX⟩;dsimp only)
 have b':∀b,K b->ak b:=λ b l=>by rw[aN.o];exact .inl (.inl (.inl l))
 have bx:ak aG:=by rw[aN.o];exact .inl (.inl (.inr rfl))
 have k2:ak (aG+1):=by rw[aN.o];exact .inl (.inr rfl)
 have k3:ak (aG+1+1):=by rw[aN.o];exact .inr rfl
 have M:=U (z_ (aw.blk aL.o.1 bx) (z_ (aw.blk aL.o.2.1 k2) (aw.blk aL.o.2.2.1 k3)));have m:=U (z_ b3 (z_ b4 (z_ b5 (z_ b6 (z_ b7 (z_ b8 (z_ b9 (z_ b' (z_ bx (z_ k2 k3))))))))));have aw:=U aw;clear b3 b4 b5 b6 b7 b8 b9 cX b' bx k2 k3 c1 b1;have c1:f.cell? ⟨aG,0,none⟩=some (.pointer (some ⟨G,0,none⟩)):=M.o.1.cell 0;obtain⟨z,n6,B,bz⟩:∃A n c,J 6=⟨A,n,c⟩:=⟨_,_,_,rfl⟩
 have aP:f.cell? ⟨G,8,none⟩=some (.slice z n6 B):=by have:=m.o.1.e.kA (k:=8) (v:=(J 6).v) rfl;rw[bz] at this;exact this
 have ca:f.cell? ⟨G,9,none⟩=some (.int .i64 iK.aM):=m.o.1.e.kA (k:=9) (v:=.int .i64 iK.aM) rfl;have bb:=U bz;clear bz
 go_region_held3 (λ w'=>w'.cell? ⟨aG,0,none⟩=some (.pointer (some ⟨G,0,none⟩))/\w'.cell? ⟨G,8,none⟩=some (.slice z n6 B)/\w'.cell? ⟨G,9,none⟩=some (.int .i64 iK.aM)) (first|exact⟨c1,aP,ca⟩|go_keep) (fail)
 have kG:aO ((f.alloc (.cells #[.slice z n6 B,.slice none 0 0,.int .i64 iK.aM] 44)).drew) f.heap.size 44 [.slice z n6 B,.slice none 0 0,.int .i64 iK.aM]:=aO.new f 44 _;have cc:Below f.heap.size f ((f.alloc (.cells #[.slice z n6 B,.slice none 0 0,.int .i64 iK.aM] 44)).drew):=(bK f _).drew;have z5:((f.alloc (.cells #[.slice z n6 B,.slice none 0 0,.int .i64 iK.aM] 44)).drew).heap.size=f.heap.size+1:=by
  show(f.alloc _).heap.size=_;simp
 have cd:=m.o.2.1.rg.jh;have aa:f.cell? ⟨G,0,none⟩=some (.int .i64 (n:Int)):=by have:=m.o.1.e.kA (k:=0) (v:=.int .i64 (iK.c.n:Int)) rfl;rw[cd] at this;exact this
 have bc:=U (z_ kG (z_ cc (z_ z5 (z_ aa c1))));have cf:=m.o.1.e.box.lt;have cg:=M.o.1.lt;have ay:=U (z_ cf cg);clear kG cc z5 cd aa c1 aP ca cf cg;generalize (f.alloc (.cells #[.slice z n6 B,.slice none 0 0,.int .i64 iK.aM] 44)).drew=dP at*
 go_wp2_with fail
 go_loopw [6] (λ i W=>∃(k:Nat)(C:Option Addr)(D:Nat),i=.int .i64 ((k:Int)+1)/\k<=n/\aO W f.heap.size 44 [.slice z n6 B,.slice C k D,.int .i64 iK.aM]/\W.ownsRow (f.heap.size+1) 3 1 (.slice C k D) k (gX ((Zp k).map λ j:Nat=>(j:Int)+1))/\Below f.heap.size f W) (λ i _=>n+1-(intOf i).toNat)
 case atStart=>exact⟨0,none,0,rfl,Zm _,bc.o.1,Ze _ _ _ _,bc.o.2.1⟩
 case round=>
  obtain⟨k,C,D,rfl,hk,bd,hO,bf⟩:=hrel;have Y:=U (z_ hk (z_ bd (z_ hO bf)));have c1:wr.cell? ⟨aG,0,none⟩=some (.pointer (some ⟨G,0,none⟩)):=(bf.cell (p:=⟨aG,0,none⟩) ay.o.2).trans bc.o.2.2.2.2;have aa:wr.cell? ⟨G,0,none⟩=some (.int .i64 (n:Int)):=(bf.cell (p:=⟨G,0,none⟩) ay.o.1).trans bc.o.2.2.2.1;have ch:=bd.cell 1;have cY:=bd.free 1;simp only[x_,w_] at ch;clear hk bd hO bf
  by_cases ab:k<n
  ·have bA:(k:Int)+1<=(n:Int):=by omega
   have d1:decide ((k:Int)+1<=(n:Int))=true:=decide_eq_true bA;have dQ:g_.wrap ((k:Int)+1+1)=(k:Int)+1+1:=by rw[r_];omega
   have cj:=U ab;have az:f.heap.size+1<=wr.heap.size:=by have:=Y.o.2.1.lt;omega
   have bB:bI ((wr.alloc (.cells #[.int .i64 ((k:Int)+1)] 3)).ownsRow (f.heap.size+1) 3 1 (.slice C k D) k (gX ((Zp k).map λ j:Nat=>(j:Int)+1))):=U (lR Y.o.2.2.1 (bK wr _));have ck:=U az;clear ab az
   go_upto_region 5 with(at_builtin;refine vq rfl (.tmp 29) (.tmp 31) rfl (f.heap.size+1) (.slice C k D) k ((Zp k).map λ j:Nat=>(j:Int)+1) rfl bB.o (some ⟨wr.heap.size,0,none⟩) 1 1 [(k:Int)+1] rfl (aQ.lit wr [(k:Int)+1] 1 _ rfl rfl (by omega)) (by omega) (by have:=ck.o;simp;omega) ?_;intro v9 di bg;obtain⟨⟨t,jJ,c9⟩,cZ,bh⟩:=aq.lz bg.1;obtain rfl:v9=.slice t jJ c9:=cZ;have bC:=U ((Y.o.2.1.below (bK wr (.cells #[.int .i64 ((k:Int)+1)] 3))).kept bg.2.1 (λ e=>by have:=(bB.o.lt f.heap.size e.symm).1;omega));have cm:=bC.o.cell 1;have c7:=bC.o.free 1;simp only[x_,w_] at cm;have bD:=U bg;have c8:=U bh;clear bg bh)
   have bh:jJ=k+1:=c8.o;subst bh;have an:(di.setCell ⟨f.heap.size,1,none⟩ (.slice t (k+1) c9)).ownsRow (f.heap.size+1) 3 1 (.slice t (k+1) c9) (k+1) (gX ((Zp (k+1)).map λ j:Nat=>(j:Int)+1)):=by
    have h1:=mP bD.o.1 (w':=di.setCell ⟨f.heap.size,1,none⟩ (.slice t (k+1) c9)) (λ b l=>i_ _ _ _ _ (by show b≠f.heap.size;have:=(bD.o.1.lt b l).1;omega));rw[List.range_succ,Zi];exact h1
   have cn:Below f.heap.size f (di.setCell ⟨f.heap.size,1,none⟩ (.slice t (k+1) c9)):=by
    refine Below.setCell (p:=⟨f.heap.size,1,none⟩) ?_ (p_ _) _;exact xx (Y.o.2.2.2.alloc Y.o.2.2.2.size (.cells #[.int .i64 ((k:Int)+1)] 3)) bD.o.2.1 (by have:=ck.o;simp;omega) (λ g e=>by have:=(bB.o.lt g e).1;show f.heap.size<=g;omega)
   have cp:=bC.o.set 1 (.slice t (k+1) c9);have Z:=U (z_ an (z_ cn cp));clear an cn cp cm c7
   go_wp2_with fail
   go_roundw
   case rel=>exact⟨k+1,t,c9,by go_num,by have:=cj.o;omega,Z.o.2.2,Z.o.1,Z.o.2.1⟩
   case measure=>have:=cj.o;simp[intOf];omega
  ·have bA:¬(k:Int)+1<=(n:Int):=by omega
   have d1:decide ((k:Int)+1<=(n:Int))=false:=decide_eq_false bA;obtain rfl:k=n:=by have:=Y.o.1;omega
   clear ab;have aP:wr.cell? ⟨G,8,none⟩=some (.slice z n6 B):=by have:=((Y.o.2.2.2.cell (p:=⟨G,8,none⟩) ay.o.1).trans (m.o.1.e.kA (k:=8) (v:=(J 6).v) rfl));rw[bb.o] at this;exact this
   have dR:∀(fn:Fn)(first cap:Array Value)(w:World),(Instr.makeFunc fn first cap).run t_ w=.ok (.func fn first cap) w:=λ _ _ _ _=>rfl
   have da:iK.act.length=k+1:=m.o.2.1.rg.kM;have cq:=U (M9 (act:=iK.act) (by omega) Y.o.2.2.1 c1 aP (by have:=m.o.1.e.n6;rw[bb.o] at this;show n6=_;have y:n6=iK.act.length:=this;omega) (by
    obtain⟨bE,bj,dS,dT⟩:=m.o.1.e.lV 8 6 rfl m.o.1.e.n6 (by omega);have h1:(J 6).A=some ⟨bE,0,none⟩:=(m.o.1.e.rows.form bj).1;rw[bb.o] at h1;refine⟨bE,h1,by have:=(m.o.1.e.rows.lt bj).2;omega,λ v dU=>?_⟩;exact(Y.o.2.2.2.cell (p:=⟨bE,v,none⟩) (m.o.1.e.rows.lt bj).2).trans (m.o.1.e.yJ bj (by omega))) (by have:=ay.o;omega) (by have:=ay.o;omega) (by have:=Y.o.2.1.lt;omega))
   clear aP da
   go_upto_region 8 with(go_at_call 157;refine cq.o.mono ?_;rintro e H ⟨rfl,cr,ct⟩;dsimp only)
   have cu:aO H f.heap.size 44 [.slice z n6 B,.slice C k D,.int .i64 iK.aM]:=by
    have ab:=Y.o.2.1.lt;exact(ct.block f.heap.size (by omega)).trans Y.o.2.1
   have bF:Below f.heap.size f H:=Y.o.2.2.2.trans (ct.mono (by omega));have Z:=U (z_ cr (z_ cu bF));have gR:=(bF.block (aG+1) (M.o.2.1.lt)).trans M.o.2.1;have bG:bI (aO H (aG+1) 47 [.int .i64 qv,(.slice qw qx qy),ni,tF,tG,.int .i64 tE,mq,s0]):=U gR;clear cr cu bF gR cq ch cY;have s2:=bG.o.cell 2;have cv:=bG.o.free 2;simp only[x_,w_] at s2
   go_upto_region 9 with fail
   have cw:=(m.o.1.below Z.o.2.2).1;have ad:=cw.vi (g:=aG+1) m.o.2.2.2.2.2.2.2.2.2.1 2 (.slice none 0 0);have db:(H.setCell ⟨aG+1,2,none⟩ (.slice none 0 0)).heap.size=H.heap.size:=by simp
   have cx:aO (H.setCell ⟨aG+1,2,none⟩ (.slice none 0 0)) (aG+1) 47 [.int .i64 qv,(.slice qw qx qy),.slice none 0 0,tF,tG,.int .i64 tE,mq,s0]:=bG.o.set 2 _;have cy:(H.setCell ⟨aG+1,2,none⟩ (.slice none 0 0)).ownsRow (f.heap.size+1) 3 1 (.slice C k D) k (gX ((pJ iK.act (n4 k)).map (·.1))):=mP Z.o.1 (λ b l=>i_ _ _ _ _ (by show b≠aG+1;have:=(Z.o.1.lt b l).1;have:=M.o.2.1.lt;omega));have cz:aO (H.setCell ⟨aG+1,2,none⟩ (.slice none 0 0)) f.heap.size 44 [.slice z n6 B,.slice C k D,.int .i64 iK.aM]:=Z.o.2.1.kept (kK H (aG+1) 2 (.slice none 0 0)) (λ e=>by injection e with e;have:=M.o.2.1.lt;omega);have cA:aO (H.setCell ⟨aG+1,2,none⟩ (.slice none 0 0)) aG 115 [.pointer (some ⟨G,0,none⟩)]:=aO.kept (show aO H aG 115 _ from(Z.o.2.2.block aG ay.o.2).trans M.o.1) (kK H (aG+1) 2 (.slice none 0 0)) (λ e=>by injection e with e;omega);have cB:aO (H.setCell ⟨aG+1,2,none⟩ (.slice none 0 0)) (aG+1+1) 47 [.int .i64 0,.slice none 0 0,.slice none 0 0,.slice none 0 0,.slice none 0 0,.int .i64 0,.slice none 0 0,.slice none 0 0]:=aO.kept (show aO H (aG+1+1) 47 _ from(Z.o.2.2.block (aG+1+1) M.o.2.2.lt).trans M.o.2.2) (kK H (aG+1) 2 (.slice none 0 0)) (λ e=>by injection e with e;omega);have ad:=U ad;have dc:bI (aD K f (H.setCell ⟨aG+1,2,none⟩ (.slice none 0 0))):=U (by
    have aS:=ar.o.s.lt;have hw:Below f.heap.size f (H.setCell ⟨aG+1,2,none⟩ (.slice none 0 0))->True:=λ _=>trivial
    refine(aD.q3 Z.o.2.2 (λ b l=>m.o.1.s.lt b (m.o.2.2.2.2.2.2.2.1 b l))).trans (aD.set (aG+1) 2 _ (λ hk=>by have:=aS _ hk;omega)))
   have I:=U (z_ cx (z_ cy (z_ cz (z_ cA cB))));clear cw cx cy cz cA cB db s2 cv;generalize H.setCell ⟨aG+1,2,none⟩ (.slice none 0 0)=V at*;have dV:V.cell? ⟨aG,0,none⟩=some (.pointer (some ⟨G,0,none⟩)):=I.o.2.2.2.1.cell 0;obtain⟨cC,n10,dd,bk⟩:∃A n c,J 10=⟨A,n,c⟩:=⟨_,_,_,rfl⟩
   have dW:V.cell? ⟨G,13,none⟩=some (.slice cC n10 dd):=by have:=ad.o.e.kA (k:=13) (v:=(J 10).v) rfl;rw[bk] at this;exact this
   have cD:n10=iK.aI.length:=by have:=ad.o.e.n10;rw[bk] at this;exact this
   have aA:=U (z_ bk cD);clear bk cD c1 aa
   go_wp2_with fail
   have dX:iK.aI.length<=60000:=by
    have h1:=m.o.2.1.nW;have y:3^k<=3^10:=Nat.pow_le_pow_right (by omega) cT;have ao:(3:Nat)^10=59049:=by decide
    omega
   go_loopw [44] (λ i W=>∃(j:Nat)(A:Option Addr)(c:Nat)(es:List lE),i=.int .i64 (j:Int)/\j<=n10/\G3 iK V W (aG+1) (.int .i64 qv) (.slice qw qx qy) tF tG (.int .i64 tE) mq s0 A j c es) (λ i _=>n10-(intOf i).toNat)
   case atStart=>exact⟨0,none,0,[],rfl,Zm _,⟨I.o.1,Ze _ _ _ _,rfl,aD.refl,λ e h=>by(cases h),λ e h=>by(cases h),λ i h=>by(simp at h)⟩⟩
   case round=>
    obtain⟨j,A,c,es,rfl,dY,bH⟩:=hrel;have q:=U bH;have af:=U (ad.o.still (P:=λ b=>b=aG+1) bH.iP (λ b e=>by rw[e];exact m.o.2.2.2.2.2.2.2.2.2.1));clear bH
    by_cases ab:j<n10
    ·have de:(j:Int)<(n10:Int):=by omega
     have bJ:j<iK.aI.length:=by rw[<-aA.o.2];exact ab
     obtain⟨d,O⟩:∃d,gQ iK.aI j=d:=⟨_,rfl⟩
     have bl:d<iK.c.cl.length:=by rw[<-O];exact m.o.2.1.rg.kX _ (FQ bJ)
     obtain⟨g10,bo,cE⟩:=af.o.e.rows.addr (r:=10) (by rw[aA.o.1];show n10≠0;omega);rw[aA.o.1] at bo;have bo:cC=some ⟨g10,0,none⟩:=bo;subst bo;have cl:=af.o.e.FP cE bJ;rw[O] at cl;obtain⟨aa,df,cF,cG,dh⟩:=af.o.z7 bl;obtain⟨aT,aB,aW,aX⟩:∃A n c,J (kz d)=⟨A,n,c⟩:=⟨_,_,_,rfl⟩
     rw[aX] at aa;replace aa:wr.cell? ⟨cb d,0,none⟩=some (.slice aT aB aW):=aa;have cH:aQ wr aT aB aW (ax iK.c.cl d):=by
      have h1:=af.o.e.rows.row (kz d);have y:=af.o.e.Af d;rw[aX,DA,BC,xX] at h1;rw[aX] at y;have ao:=(m.o.2.1.gK.jK.mI d bl).len;rw[m.o.2.1.rg.jh] at ao;have y:aB=(ax iK.c.cl d).length:=y;exact aQ.lz h1 (by omega)
     obtain⟨aR,bL⟩:∃x,(lH iK d).aR=x:=⟨_,rfl⟩
     obtain⟨ac,bM⟩:∃x,(lH iK d).ac=x:=⟨_,rfl⟩
     rw[bL] at cF;rw[bM] at cG;have s2:=q.o.gR.cell 2;have cv:=q.o.gR.free 2;simp only[x_,w_] at s2;have dZ:g_.wrap ((j:Int)+1)=(j:Int)+1:=by rw[r_];omega
     have aY:=U (z_ ab (z_ O (z_ bL (z_ bM bl))));have dj:bI (GZ wr V.heap.size (aG+1) A j c es (cb d) aT aB aW (ax iK.c.cl d) aR ac):=U (by
      have cI:=q.o.iP.size;have d':=I.o.1.lt;have ea:=(ad.o.e.cls d bl).lt;have an:∀g,(f_ A j c).ownBlock=some g->V.heap.size<=g/\g<wr.heap.size:=λ g e=>q.o.row.lt g e
      refine⟨s2,by omega,λ e=>by have:=(an _ e.symm).1;omega,aa,cF,cG,by omega,λ e=>by have:=(an _ e.symm).1;omega,cH,λ b e=>?_,λ g e=>(an g e).2,cI,by have:=aA.o.2;omega⟩;have h1:(J (kz d)).b=some b:=by rw[aX];exact e
      have y:=(ad.o.e.rows.lt h1).2;exact⟨by omega,λ bp=>by have:=(an _ bp.symm).1;omega⟩)
     have bN:=U (M6 wr V.heap.size (aG+1) A j c es (cb d) aT aB aW (ax iK.c.cl d) aR ac dj.o);clear ab bJ O bL bM df dh cH aX cE
     go_upto_region 12 with fail
     refine Ah (tu Tryz.f100 12) 20 82 _ _ [(3,.pointer (some ⟨aG+1,0,none⟩)),(8,.pointer (some ⟨cb d,0,none⟩))] _ (GE wr V.heap.size (aG+1) A j c es (cb d) aT aB aW (ax iK.c.cl d) aR ac) _ _ 18 (by kernel_rfl) (by kernel_rfl) (by kernel_rfl) (by kernel_rfl) (by kernel_rfl) (by decide+kernel) (by decide+kernel) (by decide+kernel) (by decide+kernel) (by decide+kernel) rfl ⟨rfl,rfl,trivial⟩ (D6 (Gj wr _)) (lR q.o.row ((a_ _ _).drew)) bN.o _ rfl ?_;intro vals L N ag dk aZ;obtain⟨a6,c2,t,c9,f18,bO,cJ,dm,dn⟩:∃a6 c2 t c9,vals 18=.slice t (j+1) c9/\tD wr L a6 c2 (ax iK.c.cl d)/\L.ownsRow V.heap.size 74 3 (.slice t (j+1) c9) (j+1) (p4 (es++[Cd a6 c2 (ax iK.c.cl d) aR ac]))/\((f_ t (j+1) c9).ownBlock=(f_ A j c).ownBlock\/∀g,(f_ t (j+1) c9).ownBlock=some g->wr.heap.size<=g)/\∀b,a6.map (·.block)=some b->(f_ t (j+1) c9).ownBlock≠some b:=ag 18 (by omega) rfl;have f19:vals 19=.pointer (some ⟨aG+1,2,none⟩):=ag 19 (by omega) rfl;simp only[oI,ZZ,ZM,f18,f19] at aZ;subst aZ;have cI:=q.o.iP.size;have cK:=I.o.1.lt;have bq:=q.o.gR.kept N (λ e=>by have:=(q.o.row.lt (aG+1) e.symm).1;omega);have bP:=bq.cell 2;have f11:=bq.free 2;simp only[x_,w_] at bP;have cL:G3 iK V (L.setCell ⟨aG+1,2,none⟩ (.slice t (j+1) c9)) (aG+1) (.int .i64 qv) (.slice qw qx qy) tF tG (.int .i64 tE) mq s0 t (j+1) c9 (es++[Cd a6 c2 (ax iK.c.cl d) aR ac]):=by
      have dp:∀b,V.heap.size<=b->b<wr.heap.size->(f_ A j c).ownBlock≠some b->(L.setCell ⟨aG+1,2,none⟩ (.slice t (j+1) c9)).heap[b]? =wr.heap[b]? :=λ b h1 y ao=>(i_ _ _ _ _ (show b≠aG+1 by omega)).trans (N.block b y (λ e=>ao e.symm))
      have az:wr.heap.size<=(L.setCell ⟨aG+1,2,none⟩ (.slice t (j+1) c9)).heap.size:=Zl N.size (kK L (aG+1) 2 _).size;refine⟨bq.set 2 _,mP cJ (λ b l=>i_ _ _ _ _ (show b≠aG+1 by have:=(cJ.lt b l).1;omega)),by rw[Zh,q.o.len];rfl,?_,λ e he=>?_,λ e he b l=>?_,λ i dq=>?_⟩
      ·refine(q.o.iP.trans ⟨N.os,N.tape,N.output,N.size,λ b l=>N.block b (by omega) (λ e=>by have:=(q.o.row.lt b e.symm).1;omega)⟩).trans (aD.set (aG+1) 2 _ (λ h=>h.2 rfl))
      ·rcases Zt.1 he with h1|h1
       ·exact(q.o.rd e h1).xk az (λ b l=>by have y:=q.o.ap e h1 b l;exact dp b y.1 y.2.1 y.2.2)
       ·rw[Zg.1 h1];exact bO.1.xk (kK L (aG+1) 2 _).size (λ b l=>i_ _ _ _ _ (show b≠aG+1 by have:=(bO.2 b l).1;omega))
      ·rcases Zt.1 he with h1|h1
       ·obtain⟨y,ao,bw⟩:=q.o.ap e h1 b l;refine⟨y,by omega,λ bp=>?_⟩;rcases dm with bQ|bQ
        ·exact bw (by rw[<-bQ];exact bp)
        ·have:=bQ b bp;omega
       ·rw[Zg.1 h1] at l;obtain⟨y,ao⟩:=bO.2 b l;exact⟨by omega,o_ ao (kK L (aG+1) 2 _).size,dn b l⟩
      ·rcases Zd i es.length with h1|h1
       ·rw[List.getElem_append_left h1];exact q.o.sp i h1
       ·have y:i=es.length:=by rw[Zh,List.length_singleton] at dq;omega
        subst y;rw[List.getElem_append_right (p_ _)];simp only[Nat.sub_self,List.getElem_cons_zero];have O:=aY.o.2.1;have hl:=q.o.len;unfold Ce;rw[hl,O];exact⟨rfl,aY.o.2.2.1.symm,by show min ac 1099511627776=_;rw[aY.o.2.2.2.1];rfl⟩
     have dr:=U cL;clear cL bq N ag;simp only[bn,execOp];simp[gF,go_sem,Act.eval,ZZ,bP,f11];clear bP f11
     go_wp2_with fail
     go_roundw
     case rel=>exact⟨j+1,t,c9,_,by go_num,by have:=aY.o.1;omega,dr.o⟩
     case measure=>have:=aY.o.1;simp[intOf];omega
    ·have de:¬(j:Int)<(n10:Int):=by omega
     obtain rfl:j=n10:=by omega
     clear ab
     go_upto_region 14 with fail
     have a7:wr.cell? ⟨G,12,none⟩=some (J 9).v:=af.o.e.kA (k:=12) (v:=(J 9).v) rfl;have bR:wr.cell? ⟨G,14,none⟩=some (oc J iK):=af.o.e.kA (k:=14) (v:=oc J iK) rfl;obtain⟨t,jJ,c9,bS⟩:∃A n c,J 9=⟨A,n,c⟩:=⟨_,_,_,rfl⟩
     obtain⟨Q,R,T,bT⟩:∃A n c,oc J iK=.slice A n c:=by
      unfold oc
      cases iK.jl with
      |none=>exact⟨_,_,_,rfl⟩
      |some h=>exact⟨_,_,_,rfl⟩
     rw[bS] at a7;rw[bT] at bR;replace a7:wr.cell? ⟨G,12,none⟩=some (.slice t jJ c9):=a7;have cK:=I.o.1.lt;have cM:=I.o.2.2.1.lt;have cN:=I.o.2.2.2.1.lt;have bU:f.heap.size≠aG+1:=by have:=M.o.2.1.lt;omega
     have a8:aO wr f.heap.size 44 [.slice z n6 B,.slice C k D,.int .i64 iK.aM]:=q.o.iP.blk I.o.2.2.1 ⟨cM,bU⟩;have cO:aO wr aG 115 [.pointer (some ⟨G,0,none⟩)]:=q.o.iP.blk I.o.2.2.2.1 ⟨cN,by omega⟩;have cP:aO wr (aG+1+1) 47 [.int .i64 0,.slice none 0 0,.slice none 0 0,.slice none 0 0,.slice none 0 0,.int .i64 0,.slice none 0 0,.slice none 0 0]:=q.o.iP.blk I.o.2.2.2.2 ⟨I.o.2.2.2.2.lt,by omega⟩;have dt:G≠aG+1:=λ e=>ad.o.s.g (by rw[e];exact m.o.2.2.2.2.2.2.2.2.2.1)
     have du:bI (G0 wr G aG (aG+1) f.heap.size (.int .i64 qv) (.slice qw qx qy) (.slice A j c) tF tG (.int .i64 tE) mq s0 z n6 B C k D iK.aM t jJ c9 Q R T):=U (by
      have az:=q.o.iP.size;exact⟨a8.cell 0,a8.cell 1,a8.cell 2,⟨by omega,bU⟩,cO.cell 0,⟨by omega,by omega⟩,a7,bR,⟨o_ ad.o.e.box.lt az,dt⟩⟩)
     have bN:=U (M7 wr G aG (aG+1) f.heap.size (.int .i64 qv) (.slice qw qx qy) (.slice A j c) tF tG (.int .i64 tE) mq s0 z n6 B C k D iK.aM t jJ c9 Q R T du.o);have bV:=U (z_ bS (z_ bT (z_ a8 (z_ cP bU))));clear bS bT a8 cO cP cK cM cN a7 bR;refine Ah (tu Tryz.f100 14) 14 82 _ _ [(5,.pointer (some ⟨f.heap.size,0,none⟩)),(2,.pointer (some ⟨aG,0,none⟩)),(3,.pointer (some ⟨aG+1,0,none⟩))] _ (ya wr G aG (aG+1) f.heap.size (.int .i64 qv) (.slice qw qx qy) (.slice A j c) tF tG (.int .i64 tE) mq s0 z n6 B C k D iK.aM t jJ c9 Q R T) G2 _ 10 (by kernel_rfl) (by kernel_rfl) (by kernel_rfl) (by kernel_rfl) (by kernel_rfl) (by decide+kernel) (by decide+kernel) (by decide+kernel) (by decide+kernel) (by decide+kernel) rfl ⟨rfl,rfl,rfl,trivial⟩ (D6 (Gj wr _)) ⟨mq,q.o.gR⟩ bN.o _ rfl ?_;intro vals L N ag dk aZ;have f12:aO L (aG+1) 47 [.int .i64 qv,(.slice qw qx qy),.slice A j c,.slice z n6 B,.slice C k D,.int .i64 iK.aM,.slice t jJ c9,s0]:=ag 12 (by omega) rfl;have f13:vals 13=.pointer (some ⟨aG+1,7,none⟩):=ag 13 (by omega) rfl;have f8:vals 8=.slice Q R T:=ag 8 (by omega) rfl;simp only[oI,ZZ,ZM,f13,f8] at aZ;subst aZ;have bW:=f12.cell 7;have k7:=f12.free 7;simp only[x_,w_] at bW;have ah:=U (f12.set 7 (.slice Q R T));have X:bI (aO (L.setCell ⟨aG+1,7,none⟩ (.slice Q R T)) (aG+1+1) 47 [.int .i64 0,.slice none 0 0,.slice none 0 0,.slice none 0 0,.slice none 0 0,.int .i64 0,.slice none 0 0,.slice none 0 0]):=U ((bV.o.2.2.2.1.kept N (λ e=>by injection e with e;omega)).kept (kK L (aG+1) 7 (.slice Q R T)) (λ e=>by injection e with e;omega));have a':bI (wr.grownBy (L.setCell ⟨aG+1,7,none⟩ (.slice Q R T)) (some (aG+1))):=U (xu N (kK L (aG+1) 7 _));simp only[bn,execOp];simp[gF,go_sem,Act.eval,ZZ,bW,k7];clear bW k7 f12 N ag;generalize L.setCell ⟨aG+1,7,none⟩ (.slice Q R T)=cQ at*;have dv:=ah.o.cell 0;have dw:=ah.o.cell 1;have dx:=ah.o.cell 2;have dy:=ah.o.cell 3;have dz:=ah.o.cell 4;have dA:=ah.o.cell 5;have dB:=ah.o.cell 6;have dC:=ah.o.cell 7;have dD:=X.o.cell 0;have dE:=X.o.cell 1;have dF:=X.o.cell 2;have dG:=X.o.cell 3;have dH:=X.o.cell 4;have dI:=X.o.cell 5;have dJ:=X.o.cell 6;have dK:=X.o.cell 7;have ai:=X.o.free;have eb:=ai 0;have ec:=ai 1;have ed:=ai 2;have ee:=ai 3;have ef:=ai 4;have eg:=ai 5;have eh:=ai 6;have ei:=ai 7;simp only[List.set_cons_succ,List.set_cons_zero,x_,w_] at dv dw dx dy dz dA dB dC dD dE dF dG dH dI dJ dK
     go_wp2_with fail
     have dL:=(((((((X.o.set 0 (.int .i64 qv)).set 1 (.slice qw qx qy)).set 2 (.slice A j c)).set 3 (.slice z n6 B)).set 4 (.slice C k D)).set 5 (.int .i64 iK.aM)).set 6 (.slice t jJ c9)).set 7 (.slice Q R T);have cR:aD (λ b=>b<wr.heap.size/\¬(b=aG+1\/b=aG+1+1)) wr cQ:=⟨a'.o.os,a'.o.tape,a'.o.output,a'.o.size,λ b l=>a'.o.block b l.1 (λ e=>by injection e with e;exact l.2 (.inl e))⟩
     have ae:∀(u:World)(i:Nat)(v:Value),aD (λ b=>b<wr.heap.size/\¬(b=aG+1\/b=aG+1+1)) u (u.setCell ⟨aG+1+1,i,none⟩ v):=λ u i v=>aD.set (aG+1+1) i v (λ h=>h.2 (.inr rfl))
     have aE:=(((((((cR.trans (ae cQ 0 (.int .i64 qv))).trans (ae _ 1 (.slice qw qx qy))).trans (ae _ 2 (.slice A j c))).trans (ae _ 3 (.slice z n6 B))).trans (ae _ 4 (.slice C k D))).trans (ae _ 5 (.int .i64 iK.aM))).trans (ae _ 6 (.slice t jJ c9))).trans (ae _ 7 (.slice Q R T));clear cR ae;refine bodyPost_ret (results_cell_row (p:=4) (ty:=47) rfl _ _ (aG+1+1) 47 #[.int .i64 qv,.slice qw qx qy,.slice A j c,.slice z n6 B,.slice C k D,.int .i64 iK.aM,.slice t jJ c9,.slice Q R T] (0,0) _ rfl dL Tryz.underlying47 rfl (by kernel_rfl)) rfl ?_;have dM:w.heap.size=aG:=b2;have ej:=q.o.iP.size;have ek:=I.o.1.lt;have en:=I.o.2.2.2.2.lt;have hlen:=q.o.len;subst hlen;have dN:(J 6).v=.slice z n6 B:=by rw[bb.o];rfl
     have dO:(J 9).v=.slice t jJ c9:=by rw[bV.o.1];rfl
     have cS:wr.ownsRow (f.heap.size+1) 3 1 (.slice C k D) k (gX ((pJ iK.act (n4 k)).map (·.1))):=mP I.o.2.1 (λ b l=>by
      have h1:=I.o.2.1.lt b l;have y:=M.o.2.1.lt;exact q.o.iP.keep b ⟨h1.2,by omega⟩)
     refine⟨ak,J,iK,bw,A,c,es,C,D,by rw[dN,dO,bV.o.2.1],m.o.2.2.2.2.2.2.2.1,af.o.still (P:=λ b=>b=aG+1\/b=aG+1+1) aE (λ b l=>?_),?_,m.o.2.1,m.o.2.2.2.1,m.o.2.2.2.2.1,m.o.2.2.2.2.2.1,m.o.2.2.2.2.2.2.1,qP.lz (mP q.o.row (λ b l=>?_)) (by have:=aA.o.2;omega) (λ e he=>?_),by rw[<-aA.o.2],q.o.sp,aQ.lz (mP cS (λ b l=>?_)) (by omega),⟨f.heap.size,by have y:=M.o.2.1.lt;omega,λ r b e=>(m.o.1.e.rows.lt e).2,λ b e=>?_,λ e he b l=>?_,λ b e=>?_⟩⟩
     ·rcases l with l|l
      ·rw[l];exact m.o.2.2.2.2.2.2.2.2.2.1
      ·rw[l];exact m.o.2.2.2.2.2.2.2.2.2.2
     ·have aS:=ar.o.s.lt;have f1:aD K w b0:=aD.q3 (by rw[dM];exact aL.o.2.2.2) aS;refine(((f1.trans (aw.o.mono m.o.2.2.2.2.2.2.2.1)).trans dc.o).trans (q.o.iP.mono λ b l=>?_)).trans (aE.mono λ b l=>?_)
      ·have:=aS b l;exact⟨by omega,by omega⟩
      ·have:=aS b l;exact⟨by omega,by omega⟩
     ·have h1:=q.o.row.lt b l;exact aE.keep b ⟨h1.2,by omega⟩
     ·refine(q.o.rd e he).xk aE.size (λ b l=>?_);have h1:=q.o.ap e he b l;exact aE.keep b ⟨h1.2.1,by omega⟩
     ·have h1:=I.o.2.1.lt b l;have y:=M.o.2.2.lt;exact aE.keep b ⟨by omega,by omega⟩
     ·have h1:=(q.o.row.lt b ((aq.own ⟨A,es.length,c⟩).trans e)).1;have y:=I.o.2.2.1.lt;omega
     ·have h1:=(q.o.ap e he b l).1;have y:=I.o.2.2.1.lt;omega
     ·have h1:=(cS.lt b ((aq.own ⟨C,k,D⟩).trans e)).1;have y:=M.o.2.1.lt;omega
end
section
open Go.RowKit
def Ec(n:Nat)(bh:Option Addr)(b aS:Nat)(d:Option Addr)(nl cl:Nat)(A:Option Addr)(e c:Nat)(A':Option Addr)(f c':Nat)(g:Int)(i:Option Addr)(j k:Nat)(l:Option Addr)(m o:Nat):Value:=
 .agg #[.int .i64 n,.slice bh b aS,.slice d nl cl,.slice A e c,.slice A' f c',.int .i64 g,.slice i j k,.slice l m o]
def uc(n:Nat):List Bool:=y_ n false
theorem lB.nN{w:World}{c:Nat}{ah:List Bool}(h:lB w A n c ah)(v:Value){p:Addr}(d:∀b off,A=some ⟨b,off,none⟩->b≠p.block):lB (w.setCell p v) A n c ah:=by
 refine⟨h.len,h.cap,h.mW,h.o6,λ f=>?_⟩;obtain⟨b,off,e,g,i⟩:=h.cells f;exact⟨b,off,e,by simpa[World.setCell] using g,λ j k=>(u_ (i_ _ _ _ _ (d b off e))).trans (i j k)⟩
theorem Nb(k:Nat):(madeCells (Zx false).cells k).toList=(uc k).map Zx:=by
 show(madeCells #[Zx false] k).toList=_;rw[toList_madeCells_one];simp[uc]
theorem Nc(k:Nat):(uc k).length=k:=by simp[uc]
theorem Nd(n:Nat)(w:World)(h:n<=65536):
  Calls t_ 42 #[.int .i64 n] w λ e w'=>∃(A:Option Addr)(c:Nat)(A':Option Addr)(c':Nat)(s:Option Addr)(z:Nat),e=.returned (.tuple #[Ec n none 0 0 none 0 0 A (n+1) c A' n c' 1 s (n+1) z none 0 0,.int .i64 0])/\
   aQ w' A (n+1) c (rL (n+1))/\aQ w' A' n c' (r9 n)/\lB w' s (n+1) z (uc (n+1))/\Below w.heap.size w w'/\(∀b off,A=some ⟨b,off,none⟩->w.heap.size<=b)/\(∀b off,A'=some ⟨b,off,none⟩->w.heap.size<=b)/\∀b off,s=some ⟨b,off,none⟩->w.heap.size<=b:=by
 have ad:bI (∀W:World,Calls t_ 104 #[.int .i64 n] W (EW (rL (n+1)) (r9 n) 1 W)):=U λ W=>Jk n W h
 obtain⟨i0,B,C,D,E⟩:=info_parts Aw;have ae:∀W:World,(Instr.makeSlice 28 (.int .i64 ((n:Int)+1)) (.int .i64 ((n:Int)+1))).run t_ W=.ok (.slice (some ⟨W.heap.size,0,none⟩) (n+1) (n+1)) (W.alloc (.cells (madeCells (Zx false).cells (n+1)) 4)):=λ W=>by
  have:=run_make (P:=t_) W 28 4 i0 (.bool false) Z8 B C .i64 .i64 ((n:Int)+1) ((n:Int)+1) (by omega) (by omega) (by rw[E];omega) (by omega);rw[D,show((n:Int)+1).toNat=n+1 by omega,Nat.mul_one] at this;exact this
 have wn:g_.wrap ((n:Int)+1)=(n:Int)+1:=by rw[r_];omega
 clear B C D E;generalize F:madeCells (Zx false).cells (n+1)=cs at ae;have G:=U F;clear F;go_enter Tryz.func42,Tryz.ntmps42
 go_upto_region 1 with fail
 have H:aO (w.alloc (.cells #[.int .i64 0,.slice none 0 0,.slice none 0 0,.slice none 0 0,.slice none 0 0,.int .i64 0,.slice none 0 0,.slice none 0 0] 47)) w.heap.size 47 [.int .i64 0,.slice none 0 0,.slice none 0 0,.slice none 0 0,.slice none 0 0,.int .i64 0,.slice none 0 0,.slice none 0 0]:=aO.new w 47 _;have I:=bK w (.cells #[.int .i64 0,.slice none 0 0,.slice none 0 0,.slice none 0 0,.slice none 0 0,.int .i64 0,.slice none 0 0,.slice none 0 0] 47);have z0:(w.alloc (.cells #[.int .i64 0,.slice none 0 0,.slice none 0 0,.slice none 0 0,.slice none 0 0,.int .i64 0,.slice none 0 0,.slice none 0 0] 47)).heap.size=w.heap.size+1:=by simp
 generalize w.alloc (.cells #[.int .i64 0,.slice none 0 0,.slice none 0 0,.slice none 0 0,.slice none 0 0,.int .i64 0,.slice none 0 0,.slice none 0 0] 47)=w0 at*;have af:=U I;clear I
 go_upto_region 4 with(go_at_call 104;refine(ad.o _).mono ?_;rintro e w1 ⟨A,c,A',c',rfl,h1,t,J,K,L⟩;have M:=U J;have N:=U K;clear J K;rw[vu] at h1;rw[wF] at t;simp only[vu,wF];have q:=U L;have H1:=U h1;have ag:=U t;clear L h1 t)
 have y:=(H.below q.o).below (bK w1 (.cells #[.slice A (n+1) c,.slice A' n c',.int .i64 1] 44));have O:=(af.o.trans (q.o.mono (by omega))).trans ((bK w1 (.cells #[.slice A (n+1) c,.slice A' n c',.int .i64 1] 44)).mono (by have:=q.o.size;omega));have p:aO (w1.alloc (.cells #[.slice A (n+1) c,.slice A' n c',.int .i64 1] 44)) w1.heap.size 44 [.slice A (n+1) c,.slice A' n c',.int .i64 1]:=aO.new w1 44 _;have ah:=U (H1.o.below (bK w1 (.cells #[.slice A (n+1) c,.slice A' n c',.int .i64 1] 44)));have ai:=U (ag.o.below (bK w1 (.cells #[.slice A (n+1) c,.slice A' n c',.int .i64 1] 44)));have ay:=q.o.size;generalize az:w1.heap.size=aA at*;generalize w1.alloc (.cells #[.slice A (n+1) c,.slice A' n c',.int .i64 1] 44)=f at*;have Q:=U O;clear O;have aj:=p.cell 0;have ak:=p.cell 1;have al:=p.cell 2;have r:=p.below (bK f (.cells cs 4));have z0:=r.cell 0;have an:=r.cell 1;have z2:=r.cell 2;simp only[x_,w_] at aj ak al z0 an z2;clear r;have aB:=U p;clear p;have d:=y.below (bK f (.cells cs 4));have R:=d.cell 0;have S:=d.cell 1;have T:=d.cell 2;have V:=d.cell 3;have X:=d.cell 4;have Y:=d.cell 5;have Z:=d.cell 6;have aa:=d.cell 7;have g:=d.free;have f0:=g 0;have f1:=g 1;have f2:=g 2;have f3:=g 3;have f4:=g 4;have f5:=g 5;have f6:=g 6;have f7:=g 7;have ao:=U y;have aC:=U d;clear y H d g;simp only[x_,w_] at R S T V X Y Z aa;rename_i aq ab;have ar:=U ab;clear ab;refine wp_region_noPanic ?_
 go_region_law (fail)
 all_goals
  show aq _ _;apply ar.o
  go_wp2_with fail
  have j:∀b off,A=some ⟨b,off,none⟩->b≠w.heap.size:=λ b off e=>by have:=M.o b off e;omega
  have k:∀b off,A'=some ⟨b,off,none⟩->b≠w.heap.size:=λ b off e=>by have:=N.o b off e;omega
  have au:w.heap.size<=f.heap.size:=Q.o.size;have aD:=ao.o.lt;have l:∀b off,(some ⟨f.heap.size,0,none⟩:Option Addr)=some ⟨b,off,none⟩->b≠w.heap.size:=λ b off e=>by cases e;omega
  have av:lB (f.alloc (.cells cs 4)) (some ⟨f.heap.size,0,none⟩) (n+1) (n+1) (uc (n+1)):=by
   have aw:(uc (n+1)).map Zx=cs.toList:=by rw[<-G.o,Nb]
   have ax:cs.size=n+1:=by rw[<-G.o,size_madeCells]
   exact lB.lz (base:=0) ⟨by simp[Nc],Or.inr ⟨_,_,cs,rfl,Zm _,heap_alloc_new _ _,p_ _,by unfold maxLen;omega,by omega,by rw[aw,k_ (by simp[ax])]⟩⟩ (by omega)
  have m:∀(u:World)(i:Nat)(v:Value),Below w.heap.size w u->Below w.heap.size w (u.setCell ⟨w.heap.size,i,none⟩ v):=λ u i v hu=>hu.setCell (p_ _) _
  refine bodyPost_ret (v:=.tuple #[Ec n none 0 0 none 0 0 A (n+1) c A' n c' 1 (some ⟨f.heap.size,0,none⟩) (n+1) (n+1) none 0 0,.int .i64 0]) (by simp[results,Tryz.results42,go_sem,ZZ,Ec,R,S,T,V,X,Y,Z,aa]) rfl ⟨A,c,A',c',_,_,rfl,?_,?_,?_,?_,λ b off e=>by have:=M.o b off e;omega,λ b off e=>by have:=N.o b off e;omega,λ b off e=>by cases e;omega⟩
  ·exact(((((((((ah.o.below (bK f (.cells cs 4))).nN _ j).nN _ j).nN _ j).nN _ j).nN _ j).nN _ j).nN _ j).nN _ j).drew
  ·exact(((((((((ai.o.below (bK f (.cells cs 4))).nN _ k).nN _ k).nN _ k).nN _ k).nN _ k).nN _ k).nN _ k).nN _ k).drew
  ·exact((((((((((av).nN _ l).nN _ l).nN _ l).nN _ l).nN _ l).nN _ l).nN _ l).nN _ l)).below ((a_ _ _).drew)
  ·exact(m _ _ _ (m _ _ _ (m _ _ _ (m _ _ _ (m _ _ _ (m _ _ _ (m _ _ _ (m _ _ _ (Q.o.trans ((bK f (.cells cs 4)).mono au)))))))))).drew
end
section
open Go.RowKit Go.Sort Go.Lib
theorem Nf(l:List Int)(k:Nat):iJ l k=ai l k:=rfl
theorem xy{act:List Int}{a b:Int}:sI act a b<0↔ai act b.toNat<ai act a.toNat\/(ai act b.toNat=ai act a.toNat/\a<b):=by
 have f:sI act a b=rJ (oz (ai act b.toNat) (ai act a.toNat)) (oz a b):=rfl;rw[f];rcases D7 (ai act b.toNat) (ai act a.toNat) with⟨h,e⟩|⟨h,e⟩|⟨h,e⟩<;>rw[e]
 ·simp[rJ];omega
 ·rcases D7 a b with⟨d,c⟩|⟨d,c⟩|⟨d,c⟩<;>rw[c]<;>simp[rJ]<;>omega
 ·simp[rJ];omega
theorem zi{act:List Int}:tf act l=true↔∀i,i<l.length->(0<ai l i/\ai l i<act.length)/\(i=0\/sI act (ai l (i-1)) (ai l i)<0):=by
 unfold tf qT;rw[n_];constructor
 ·intro h i b;have:=h i (Z7.2 b);rw[m_,ZY,yu,decide_eq_true_eq,decide_eq_true_eq] at this;exact this
 ·intro h i b;rw[m_,ZY,yu,decide_eq_true_eq,decide_eq_true_eq];exact h i (Z7.1 b)
theorem Ed{act l:List Int}(h:tf act l=true)(i:Nat):∀j,i<j->j<l.length->sI act (ai l i) (ai l j)<0
 |0,h1,_=>by omega
 |j+1,h1,d=>by
  have b:=(zi.1 h (j+1) d).2;rw[show j+1-1=j by omega] at b;rcases b with b|b
  ·omega
  ·rcases Zd i j with c|c
   ·have e:=Ed h i j c (by omega);rw[xy] at*;omega
   ·obtain rfl:i=j:=by omega
    exact b
theorem G5{act:List Int}(h:tf act l=true){i j:Nat}(b:i<l.length)(c:j<l.length)(e:ai l i=ai l j):i=j:=by
 rcases Nat.lt_trichotomy i j with h1|h1|h1
 ·have:=Ed h i j h1 c;rw[xy,e] at this;omega
 ·exact h1
 ·have:=Ed h j i h1 b;rw[xy,e] at this;omega
theorem G6:∀(n:Nat)(f:Nat->Nat),(∀i,i<n->f i<n)->(∀i j,i<n->j<n->f i=f j->i=j)->∀v,v<n->∃i,i<n/\f i=v
 |0,f,_,_,v,k=>by omega
 |n+1,f,h1,b,v,k=>by
  have hm:=h1 n (by omega);have d:=G6 n (λ i=>if f i=n then f n else f i) (λ i c=>by
   show(if f i=n then f n else f i)<n;split
   ·rename_i e;have:f n≠n:=λ g=>by have:=b i n (by omega) (by omega) (by omega);omega
    omega
   ·have:=h1 i (by omega);omega) (λ i j c m e=>by
   have e:(if f i=n then f n else f i)=(if f j=n then f n else f j):=e;refine b i j (by omega) (by omega) ?_;split at e<;>split at e
   ·omega
   ·have:=b n j (by omega) (by omega) e;omega
   ·have:=b i n (by omega) (by omega) e;omega
   ·exact e)
  by_cases l:v=n
  ·subst l
   by_cases e:f v=v
   ·exact⟨v,by omega,e⟩
   ·obtain⟨i,c,he⟩:=d (f v) (by omega);have he:(if f i=v then f v else f i)=f v:=he;split at he
    ·rename_i g;exact⟨i,by omega,g⟩
    ·have:=b i v (by omega) (by omega) he;omega
  ·obtain⟨i,c,he⟩:=d v (by omega);have he:(if f i=n then f n else f i)=v:=he;split at he
   ·exact⟨n,by omega,he⟩
   ·exact⟨i,by omega,he⟩
structure q8(n:Nat)(act l:List Int)(y:Int):Prop where
 kM:act.length=n+1
 pE:l.length=n
 a0:ai act 0=0
 pP:∀v,0<=ai act v/\ai act v<=js
 gV:1<=y/\y<=js
 l6:tf act l=true
 wW:n<=65536
theorem Cf:kO x=false↔0<=x/\x<=js:=by
 unfold kO js;rw[ZX,decide_eq_false_iff_not,decide_eq_false_iff_not];omega
theorem q8.check{act:List Int}(h:q8 n act l y):p6 act l y=true:=by
 have h1:act.any kO=false:=by
  rw[ZU];intro x b;obtain⟨k,hk,e⟩:=qj.1 b;have:=h.pP k;rw[e] at this;have:=Cf.2 this;rw[this];simp
 have f:=h.kM;have c:uQ act=true:=by
  unfold uQ;rw[h1,Nf,h.a0,h.kM];have:=h.wW;simp;omega
 have d:vt y=true:=by
  unfold vt;rw[Cf.2 ⟨by have:=h.gV;omega,h.gV.2⟩];have:=h.gV;simp;omega
 unfold p6;rw[c,d,h.l6];rfl
theorem q8.tP{act:List Int}(h:q8 n act l y){i:Nat}(b:i<n):1<=ai l i/\ai l i<=n:=by
 have:=(zi.1 h.l6 i (by rw[h.pE];exact b)).1;rw[h.kM] at this;omega
theorem q8.new(n:Nat)(h:n<=65536):q8 n (rL (n+1)) (r9 n) 1:=by
 have b:∀v,ai (rL (n+1)) v=0:=yP _;refine⟨vu _,wF _,b 0,λ v=>by rw[b];unfold js;omega,by unfold js;omega,zi.2 λ i c=>?_,h⟩;rw[wF] at c;have hu:∀k,k<n->ai (r9 n) k=(k:Int)+1:=λ k hk=>by
  rw[ny (by rw[wF];exact hk)];simp[r9]
 rw[hu i c,vu];refine⟨by omega,?_⟩;rcases j_ i with d|d
 ·exact .inl d
 ·right;rw[hu (i-1) (by omega),xy,b,b];omega
theorem q8.grow{act:List Int}(h:q8 n act l y)(k:Nat)(hk:n+k<=65536):q8 (n+k) (act++rL k) (l++(Zp k).map λ i:Nat=>((n+i:Nat):Int)+1) y:=by
 have c:∀v,ai (act++rL k) v=ai act v:=λ v=>by
  rcases Zd v act.length with d|d
  ·exact sJ d
  ·rw[Dn d];unfold ai;rw[e_,Z4 d];have:=yP k (v-act.length);unfold ai at this;rw[e_] at this;exact this
 have hl:=h.pE;have hold:∀i,i<n->ai (l++(Zp k).map λ i:Nat=>((n+i:Nat):Int)+1) i=ai l i:=λ i e=>sJ (by omega)
 have f:∀i,n<=i->i<n+k->ai (l++(Zp k).map λ i:Nat=>((n+i:Nat):Int)+1) i=(i:Int)+1:=λ i h1 b=>by
  unfold ai;rw[e_,Z4 (by omega),List.getElem?_map,List.getElem?_range (by omega)];simp;omega
 refine⟨by simp[h.kM,vu];omega,by simp[hl],by rw[c];exact h.a0,λ v=>by rw[c];exact h.pP v,h.gV,zi.2 λ i e=>?_,hk⟩;have hlen:(act++rL k).length=n+k+1:=by simp[h.kM,vu];omega
 rw[Zh,s_,List.length_range,hl] at e;rw[hlen];rcases Zd i n with h1|h1
 ·have b:=zi.1 h.l6 i (by omega);rw[hold i h1];rw[h.kM] at b;refine⟨by omega,b.2.imp id λ g=>?_⟩;rw[hold (i-1) (by omega),xy,c,c];exact xy.1 g
 ·rw[f i h1 e];refine⟨by omega,?_⟩;rcases j_ i with j|j
  ·exact .inl j
  ·right;rw[xy,c,c];have m:ai act ((i:Int)+1).toNat=0:=Dn (by rw[h.kM];omega);rw[m];rcases Zd (i-1) n with b|b
   ·rw[hold (i-1) b];have g:=h.tP b;have o:=h.pP (ai l (i-1)).toNat;omega
   ·rw[f (i-1) b (by omega)];have o:=h.pP (((i-1:Nat):Int)+1).toNat;omega
theorem Ng(n:Nat):(n4 n).Nodup:=by
 have h:((n4 n).map (·.1)).Nodup:=by
  rw[D8];refine List.Pairwise.map _ (λ a b c=>?_) (List.nodup_range (n:=n));intro e;exact c (by omega)
 exact List.Pairwise.of_map (λ x:vk n=>x.1) (λ a b c e=>c (by rw[e])) h
theorem q8.sorted{act:List Int}(g:act.length=n+1)(a0:ai act 0=0)(m:∀v,0<=ai act v/\ai act v<=js)(o:1<=y/\y<=js)(p:n<=65536):q8 n act ((pJ act (n4 n)).map (·.1)) y:=by
 have hp:(pJ act (n4 n)).Perm (n4 n):=List.mergeSort_perm _ _;have q:(pJ act (n4 n)).length=n:=by
  rw[hp.length_eq];unfold n4;simp
 have r:(pJ act (n4 n)).Nodup:=hp.nodup_iff.2 (Ng n);have s:(pJ act (n4 n)).Pairwise λ x y=>(!(ltOf (uJ act)) y x)=true:=List.pairwise_mergeSort (λ a b c h1 d=>by
  rw[Z9] at*;exact(Cc act n).ntrans _ _ _ d h1) (λ a b=>by
  rw[ZY,Z9,Z9]
  cases h:ltOf (uJ act) b a with
  |false=>exact .inl rfl
  |true=>
   right
   cases d:ltOf (uJ act) a b with
   |false=>rfl
   |true=>have:=(Cc act n).trans _ _ _ h d;have:=(Cc act n).irrefl b;simp_all) _
 refine⟨g,by rw[s_,q],a0,m,o,zi.2 λ i f=>?_,p⟩;rw[s_] at f;have j:∀k (hk:k<(pJ act (n4 n)).length),ai ((pJ act (n4 n)).map (·.1)) k=(pJ act (n4 n))[k].1:=λ k hk=>by
  rw[ny (by rw[s_];exact hk),d_]
 rw[j i f,g];have t:=((pJ act (n4 n))[i]).2;refine⟨by omega,?_⟩;rcases j_ i with l|l
 ·exact .inl l
 ·right;rw[j (i-1) (by omega)];have h1:=b_.1 s (i-1) i (by omega) f (by omega);have d:=b_.1 r (i-1) i (by omega) f (by omega);rw[Z9,Az,decide_eq_false_iff_not,Ay] at h1;rw[xy];have u:(pJ act (n4 n))[i-1].1≠(pJ act (n4 n))[i].1:=λ e=>d (Subtype.ext e)
  omega
def uK(n:Nat)(ord:List Int)(k:Nat):List Int:=(Zp k).foldl (λ p i=>p.set (ai ord i).toNat (i:Int)) (y_ (n+1) 0)
theorem Cg(n:Nat)(ord:List Int)(k:Nat):uK n ord (k+1)=(uK n ord k).set (ai ord k).toNat (k:Int):=by
 unfold uK;rw[List.range_succ,List.foldl_append];rfl
theorem AB(n:Nat)(ord:List Int):∀k,(uK n ord k).length=n+1
 |0=>by simp[uK]
 |k+1=>by rw[Cg,List.length_set,AB n ord k]
theorem Ee(n:Nat)(ord:List Int):∀k v,0<=ai (uK n ord k) v
 |0,v=>by
  have:ai (uK n ord 0) v=0:=yP _ _;omega
 |k+1,v=>by
  rw[Cg,o7];split
  ·omega
  ·exact Ee n ord k v
theorem Ef{n:Nat}{act ord:List Int}{y:Int}(h:q8 n act ord y):∀k,k<=n->∀i,i<k->ai (uK n ord k) (ai ord i).toNat=i
 |0,_,i,b=>by omega
 |k+1,hk,i,b=>by
  rw[Cg,o7,AB];have h1:=h.tP (i:=k) (by omega);have c:=h.tP (i:=i) (by omega)
  by_cases e:i=k
  ·subst e;rw[if_pos ⟨rfl,by omega⟩]
  ·rw[if_neg (λ d=>e (G5 h.l6 (by rw[h.pE];omega) (by rw[h.pE];omega) (by omega))),Ef h k (by omega) i (by omega)]
theorem q8.lT{act ord:List Int}(h:q8 n act ord y):mh n ord (uK n ord n):=by
 have hl:=h.pE;refine⟨AB _ _ _,λ i c=>?_,λ v h1 g k=>?_,λ v=>by have:=Ee n ord n v;omega⟩
 ·have:=h.tP (i:=i) (by omega);exact⟨this.1,this.2,Ef h n (p_ _) i (by omega)⟩
 ·obtain⟨i,c,e⟩:=G6 n (λ i=>(ai ord i).toNat-1) (λ i c=>by have:=h.tP c;show(ai ord i).toNat-1<n;omega) (λ i j c d e=>by
   have e:(ai ord i).toNat-1=(ai ord j).toNat-1:=e;have a:=h.tP c;have b:=h.tP d;exact G5 h.l6 (by omega) (by omega) (by omega)) (v-1) (by omega)
  have e:(ai ord i).toNat-1=v-1:=e;have a:=h.tP c;have f:(ai ord i).toNat=v:=by omega
  have:=Ef h n (p_ _) i c;rw[f] at this;rw[this];refine⟨by omega,?_⟩;rw[ZT];omega
theorem Nh(h:sV l)(n:∀x∈l,x≠0)(s:sA l=false):l.Nodup/\∀x∈l,¬-x∈l:=by
 have o:∀i j (c:i<l.length) (d:j<l.length),i<j->p0 l[i] l[j]=true:=λ i j c d p=>b_.1 h i j c d p
 refine⟨h.imp λ{a b} t e=>by subst e;exact BZ _ t,λ x q u=>?_⟩;obtain⟨i,c,k⟩:=Zo.1 q;obtain⟨j,d,m⟩:=Zo.1 u;have w:=n x q;have key:∀i j (c:i<l.length) (d:j<l.length),i<j->l[i]= -l[j]->False:=by
  intro i j c d p e;have v:j=i+1:=by
   rcases Zd (i+1) j with h1|h1
   ·exfalso;have f:=o i (i+1) c (by omega) (by omega);have g:=o (i+1) j (by omega) d h1;rw[w6] at f g;unfold qS at f g;have:=n _ (h_ c);split at f<;>split at f<;>split at g<;>split at g<;>omega
   ·omega
  subst v;have r:sA l=true:=by
   unfold sA uF;rw[ZR];refine⟨i+1,Z7.2 d,?_⟩;rw[show i+1-1=i by omega,rI c,rI d,m_,decide_eq_true_eq,beq_iff_eq];exact⟨by omega,e⟩
  rw[s] at r;cases r
 rcases Nat.lt_trichotomy i j with h1|h1|h1
 ·exact key i j c d h1 (by rw[k,m,Int.neg_neg])
 ·subst h1;rw[k] at m;omega
 ·exact key j i d c h1 (by rw[k,m])
theorem G7(e:∀x∈l,x≠0)(b:sA l=true):vz l:=by
 unfold sA uF at b;rw[ZR] at b;obtain⟨i,c,h1⟩:=b;have c:=Z7.1 c;rw[m_,decide_eq_true_eq,beq_iff_eq] at h1;have d:iJ l i∈l:=vM c;have f:iJ l (i-1)∈l:=vM (by omega);exact⟨iJ l i,d,e _ d,by rw[<-h1.2];exact f⟩
theorem gU.lG(h:gU n x)(b:n<=65536):lG x 65536=true:=by
 rw[uP];unfold gU aH at h;omega
theorem Ch(b:n<=65536)(c:∀x∈g,gU n x)(x:Int):x∈kY g↔x∈g:=by
 rw[B1];exact⟨λ h=>h.1,λ h=>⟨h,(c x h).lG b⟩⟩
theorem vz.same{b:List Int}(h:∀x,x∈a↔x∈b)(t:vz a):vz b:=by
 obtain⟨x,h1,c,d⟩:=t;exact⟨x,(h x).1 h1,c,(h _).1 d⟩
theorem uj.same{M:Int->Bool}{b:List Int}(h:∀x,x∈a↔x∈b)(t:uj M a):uj M b:=by
 obtain⟨x,h1,c⟩:=t;exact⟨x,(h x).1 h1,c⟩
theorem G8(f:n<=65536)(c:∀x∈g,gU n x)(i:pL F g):FG n F g (kY g) (sA (kY g)):=by
 have hm:=Ch f c;have e:∀x∈kY g,x≠0:=λ x d=>(c x ((hm x).1 d)).oQ
 refine⟨λ b j=>?_,λ b M k=>(i M k).same λ x=>(hm x).symm,hm,λ b=>(G7 e b).same hm⟩;obtain⟨h1,l⟩:=Nh (Gv g) e b;exact⟨j,λ x d=>c x ((hm x).1 d),h1,l⟩
theorem Ni(c:n<=65536)(h:oR n g):sA (kY g)=false/\kY g≠ []:=by
 have hm:=Ch c h.lt;refine⟨?_,λ e=>?_⟩
 ·cases d:sA (kY g) with
  |false=>rfl
  |true=>
   exfalso;obtain⟨x,h1,i,f⟩:=G7 (λ x b=>(h.lt x ((hm x).1 b)).oQ) d;exact h.jC x ((hm x).1 h1) ((hm _).1 f)
 ·obtain⟨x,b⟩:=List.exists_mem_of_ne_nil _ h.ne;have:=(hm x).2 b;rw[e] at this;cases this
theorem G9(h:kZ n ls=0):n<=65536/\ls.length<=65536/\∀l∈ls,∀x∈l,gU n x:=by
 unfold kZ at h;split at h
 ·omega
 ·split at h
  ·omega
  ·split at h
   ·omega
   ·rename_i h1 b f;refine⟨by omega,by omega,λ l hl x d=>?_⟩;rw[Bool.not_eq_false] at b;unfold sH at b;have c:=n_.1 b l hl;unfold wD at c;have e:=n_.1 c x d;rw[uP] at e;unfold gU aH;omega
theorem Ci(d:n<=65536)(h1:ls.length<=65536)(b:∀l∈ls,∀x∈l,gU n x):kZ n ls=0:=by
 refine CR (by omega) ?_ (by omega);unfold sH wD;rw[n_];intro l hl;rw[n_];intro x c;have:=b l hl x c;rw[uP];unfold gU aH at this;omega
end
section
open Go.RowKit
theorem He(b:gU n x)(c:n<=65536):vr gR x=sN gR x:=by
 rw[EP (b.lG c)];have d:=b.oQ;unfold sN;have e:xG gR x.natAbs=jE gR x.natAbs:=rfl;rw[e]
 by_cases h:x<0
 ·rw[if_pos h,decide_eq_false (show¬0<x by omega)]
  cases jE gR x.natAbs<;>rfl
 ·rw[if_neg h,decide_eq_true (show 0<x by omega)]
  cases jE gR x.natAbs<;>rfl
theorem Hf(hl:∀x∈l,gU n x)(c:n<=65536):tJ gR l=true↔uj (sN gR) l:=by
 rw[I3];constructor
 ·rintro⟨x,b,h⟩;exact⟨x,b,by rw[<-He (hl x b) c];exact h⟩
 ·rintro⟨x,b,h⟩;exact⟨x,b,by rw[He (hl x b) c];exact h⟩
theorem Nj(b:kZ n ls=0):wE n ls gR=true↔∀l∈ls,uj (sN gR) l:=by
 obtain⟨h1,d,c⟩:=G9 b;unfold wE;rw[b,m_,n_];constructor
 ·rintro⟨_,h⟩ l hl;exact(Hf (c l hl) h1).1 (h l hl)
 ·intro h;exact⟨rfl,λ l hl=>(Hf (c l hl) h1).2 (h l hl)⟩
def Can(F:List (List Int))(l:List Int):Prop:=∃M,tK M F/\∀x∈l,M x=true
theorem Nk(b off n c:Nat)(w:World)(h:n<=c):Calls t_ 108 #[.slice (some ⟨b,off,none⟩) n c] w λ e w'=>e=.returned (.slice (some ⟨b,off,none⟩) n n)/\w'=w:=by
 have d:(0:Int)<=n:=by omega
 go_enter Tryz.func108,Tryz.ntmps108
 go_wp2;go_ret;exact⟨rfl,rfl⟩
theorem Nl(w:World):Calls t_ 108 #[.slice none 0 0] w λ e w'=>e=.returned (.slice none 0 0)/\w'=w:=by
 go_enter Tryz.func108,Tryz.ntmps108
 go_wp2;go_ret;exact⟨rfl,rfl⟩
theorem Nn(b off n c:Nat)(w:World)(h:n<=c):Calls t_ 109 #[.slice (some ⟨b,off,none⟩) n c] w λ e w'=>e=.returned (.slice (some ⟨b,off,none⟩) n n)/\w'=w:=by
 have d:(0:Int)<=n:=by omega
 go_enter Tryz.func109,Tryz.ntmps109
 go_wp2;go_ret;exact⟨rfl,rfl⟩
theorem No(w:World):Calls t_ 109 #[.slice none 0 0] w λ e w'=>e=.returned (.slice none 0 0)/\w'=w:=by
 go_enter Tryz.func109,Tryz.ntmps109
 go_wp2;go_ret;exact⟨rfl,rfl⟩
def Np(b:List Bool)(w:World)(e:Ending)(w':World):Prop:=
 ∃A c,e=.returned (.slice A b.length c)/\w'.ownsRow w.heap.size 4 1 (.slice A b.length c) b.length (b.map Zx)/\Below w.heap.size w w'
theorem Hg(A:Option Addr)(n c:Nat)(e:List Bool)(w:World)(h:lB w A n c e):
  Calls t_ 106 #[.slice A n c] w (Np e w):=by
 obtain⟨i0,s,t,v,y⟩:=info_parts Aw;have F:∀(w:World)(a:Option Addr)(n c m c':Nat),(binOp .eql 28 (.slice a n c) (.slice none m c')).run t_ w=.ok (.bool a.isNone) w:=λ w a n c m c'=>Lib.run_eql_slice_nil w _ _ a n c m c' Z8
 have hlen:=h.len;have G:=h.mW;have H:=U h;clear h
 cases A with
 |none=>
  have z:n=0:=by
   rcases j_ n with d|d
   ·exact d
   ·obtain⟨b,off,he,_⟩:=H.o.cells d;cases he
  subst z;have B:e=[]:=Zv hlen;subst B;clear hlen;go_enter Tryz.func106,Tryz.ntmps106
  go_wp2;go_ret;exact⟨none,0,rfl,Ze _ _ _ _,a_ _ _⟩
 |some a=>
  have f:=U hlen;clear hlen;go_enter Tryz.func106,Tryz.ntmps106
  go_wp2_with (at_builtin;refine wpList_append_own _ rfl _ _ 28 rfl w.heap.size 4 i0 (.bool false) 1 1 Z8 s t v y rfl (by decide) _ _ _ rfl (World.ownsRow_made w #[] 0 (p_ _) (Zm _) rfl) a n c (e.map Zx) rfl ?qc1 ?qc2 ?qc3 ?qc4 ?qc5 ?qc6 ?_)
  case qc1=>simp[f.o]
  case qc2=>
   intro j u p;have q:j<n:=by have:=(Zn.1 p).1;simpa[f.o] using this
   obtain⟨b,off,he,i,C⟩:=H.o.cells (by omega);injection he with he
   subst he;rw[Addr.add_lit];rw[World.cell?_alloc_lt _ _ _ (by exact i),C j q];rw[List.getElem?_map,Zk (by rw[f.o];exact q)] at p;have D:j<e.length:=by rw[f.o];exact q
   rw[e_,Zk D,Option.getD_some];exact p
  case qc3=>intro u hu;obtain⟨x,_,rfl⟩:=Zc.1 hu;rfl
  case qc4=>unfold maxLen;omega
  case qc5=>omega
  case qc6=>simp
  intro v' w1 l E I;go_wp2;go_ret;have i:Below w.heap.size w w1:=((a_ _ w).alloc (p_ _) _).grown E (by simp) (by intro k hk;simp[Value.ownBlock] at hk;omega);have hl:=f.o;subst hl;rcases l.2 with⟨r,d⟩|⟨g,cap,cur,r,J⟩
  ·subst r;refine⟨none,0,?_,?_,i⟩
   ·rw[d];rfl
   ·rw[d] at l⊢;exact l
  ·subst r;exact⟨_,_,rfl,l,i⟩
theorem aU.Hh{w:World}(E:aU K base w G hs cb s)(h:s.act.length<=1000000):
  (hs 6).v=.slice (hs 6).A s.act.length (hs 6).c/\aQ w (hs 6).A s.act.length (hs 6).c s.act:=by
 have h1:w.ownsRow base 3 1 (hs 6).v (hs 6).n (gX s.act):=E.e.rows.row 6;have b:(hs 6).n=s.act.length:=E.e.n6;have d:(hs 6).v=.slice (hs 6).A s.act.length (hs 6).c:=by rw[<-b];rfl
 rw[d,b] at h1;exact⟨d,aQ.lz h1 (by omega)⟩
theorem aU.Hi{w:World}(E:aU K base w G hs cb s)(h:s.bl.length<=1000000):
  (hs 9).v=.slice (hs 9).A s.bl.length (hs 9).c/\lB w (hs 9).A s.bl.length (hs 9).c s.bl:=by
 have h1:w.ownsRow base 4 1 (hs 9).v (hs 9).n (nO s.bl):=E.e.rows.row 9;have b:(hs 9).n=s.bl.length:=E.e.jJ;have d:(hs 9).v=.slice (hs 9).A s.bl.length (hs 9).c:=by rw[<-b];rfl
 rw[d,b] at h1;exact⟨d,lB.lz h1 (by omega)⟩
theorem Eg(x:Int)(w:World):Calls t_ 112 #[.int .i64 x] w λ e w'=>e=.returned (.bool (kO x))/\w=w':=by
 by_cases h1:x<0
 ·go_enter Tryz.func112,Tryz.ntmps112
  go_wp2;go_ret;exact⟨mo (by simp[kO,h1]),rfl⟩
 ·by_cases b:1099511627776<x
  all_goals
   go_enter Tryz.func112,Tryz.ntmps112
   go_wp2;go_ret;exact⟨mo (by simp[kO,h1,b]),rfl⟩
structure kF where
 n:Int
 gs:List (List Int)
 es:List lE
 act:List Int
 ord:List Int
 aM:Int
 bl:List Bool
 aA:List mc
structure pT(w:World)(s:kF)(bh:Option Addr)(aS:Nat)(gJ:Option Addr)(cl:Nat)(A:Option Addr)(c:Nat)(A':Option Addr)(c':Nat)(bt:Option Addr)(bk:Nat)(aT:Option Addr)(aY:Nat):Prop where
 gs:lF w bh s.gs.length aS s.gs
 es:qP w gJ s.es.length cl s.es
 act:aQ w A s.act.length c s.act
 ord:aQ w A' s.ord.length c' s.ord
 bl:lB w bt s.bl.length bk s.bl
 aA:nx w aT s.aA.length aY s.aA
def nP(n:Int)(bh:Option Addr)(b aS:Nat)(d:Option Addr)(nl cl:Nat)(A:Option Addr)(e c:Nat)(A':Option Addr)(f c':Nat)(g:Int)(i:Option Addr)(j k:Nat)(l:Option Addr)(m o:Nat):Value:=
 .agg #[.int .i64 n,.slice bh b aS,.slice d nl cl,.slice A e c,.slice A' f c',.int .i64 g,.slice i j k,.slice l m o]
theorem pT.below{w w':World}{s:kF}{bh:Option Addr}{aS:Nat}{gJ:Option Addr}{cl:Nat}{A:Option Addr}{c:Nat}{A':Option Addr}{c':Nat}{bt:Option Addr}{bk:Nat}{aT:Option Addr}{aY:Nat}(h:pT w s bh aS gJ cl A c A' c' bt bk aT aY)(b:Below w.heap.size w w'):pT w' s bh aS gJ cl A c A' c' bt bk aT aY:=
 ⟨h.gs.below b,h.es.below b,h.act.below b,h.ord.below b,h.bl.below b,h.aA.below b⟩
def qz(e:lE):Bool:=decide (e.r.ah.length=0)||kO e.aR||kO e.ac
def pK(n:Int)(p:mc):Bool:=decide (p.iM<1)||decide (3<p.iM)||decide (kZ n [p.r.ah]≠0)
def ud(s:kF):Bool:=decide (s.n<0)||decide (65536<s.n)|| !(p6 s.act s.ord s.aM)||decide ((s.act.length:Int)≠s.n+1)||decide ((s.ord.length:Int)≠s.n)||decide ((s.bl.length:Int)≠s.n+1)||jE s.bl 0
def ue(s:kF):Int:=
 if ud s=true then 1 else if kZ s.n s.gs≠0 then kZ s.n s.gs else if s.es.any qz=true then 1
 else if kZ s.n (s.es.map (·.r.ah))≠0 then kZ s.n (s.es.map (·.r.ah)) else if s.aA.any (pK s.n)=true then 1 else 0
theorem uL{ah:List α}{p:α->Bool}(h:k<ah.length)(e:p ah[k]=true):ah.any p=true:=ZR.2 ⟨_,h_ h,e⟩
theorem Cj{ah:List α}{p:α->Bool}(h:k<ah.length)(e:p ah[k]=false)(b:(ah.take k).any p=false):(ah.take (k+1)).any p=false:=by
 rw[c_ h,List.any_append,b];simp[e]
theorem Ck{ah:List α}{p:α->Bool}(hl:ah.length=n)(h:¬k<n)(b:(ah.take k).any p=false):ah.any p=false:=by
 rw[k_ (by omega)] at b;exact b
theorem qP.Cl{w:World}{b off c:Nat}{es:List lE}(h:qP w (some ⟨b,off,none⟩) n c es){k:Nat}(hk:k<n)(d:k<es.length):
  w.cell? ⟨b,off+k*3,none⟩=some (ki es[k].r)/\w.cell? ⟨b,off+k*3+1,none⟩=some (.int .i64 es[k].aR)/\w.cell? ⟨b,off+k*3+2,none⟩=some (.int .i64 es[k].ac)/\aQ w es[k].r.A es[k].r.n es[k].r.c es[k].r.ah:=by
 obtain⟨m,o,e,p,f⟩:=h.cells (by omega);injection e with e
 injection e with j l
 subst j l;have g:=f (k*3) (by omega);have h1:=f (k*3+1) (by omega);have i:=f (k*3+2) (by omega);have g0:=AA es k d 0 (by omega);have g1:=AA es k d 1 (by omega);have g2:=AA es k d 2 (by omega);rw[Nat.add_zero] at g0;rw[g0] at g;rw[g1] at h1;rw[g2] at i;exact⟨g,h1,i,h.rows _ (h_ d)⟩
theorem yb:∀es:List mc,(ni es).length=es.length*2
 |[]=>rfl
 |e::es=>by
  have:=yb es;unfold ni at this⊢;simp only[Zr,List.flatten_cons,Zh,this,r6,List.length_cons,List.length_nil];omega
theorem Nq(a b:List mc):ni (a++b)=ni a++ni b:=by simp[ni]
theorem Cm:∀(es:List mc)(j:Nat)(h:j<es.length)(k:Nat),k<2->(ni es)[j*2+k]? =(r6 es[j])[k]?
 |[],j,h,k,hk=>by simp at h
 |e::es,0,h,k,hk=>by
  show(r6 e++ni es)[0*2+k]? =_;rw[List.getElem?_append_left (by simp[r6];omega)];simp
 |e::es,j+1,h,k,hk=>by
  show(r6 e++ni es)[(j+1)*2+k]? =_;rw[Z4 (by simp[r6];omega)];have:=Cm es j (by simpa using h) k hk;rw[show(j+1)*2+k-(r6 e).length=j*2+k by simp[r6];omega,this];rfl
theorem nx.Cn{w:World}{b off c:Nat}(h:nx w (some ⟨b,off,none⟩) n c es){k:Nat}(hk:k<n)(d:k<es.length):
  w.cell? ⟨b,off+k*2,none⟩=some (.int .i64 es[k].iM)/\w.cell? ⟨b,off+k*2+1,none⟩=some (ki es[k].r)/\aQ w es[k].r.A es[k].r.n es[k].r.c es[k].r.ah:=by
 obtain⟨l,m,e,o,f⟩:=h.cells (by omega);injection e with e
 injection e with i j
 subst i j;have g:=f (k*2) (by omega);have h1:=f (k*2+1) (by omega);have g0:=Cm es k d 0 (by omega);have g1:=Cm es k d 1 (by omega);rw[Nat.add_zero] at g0;rw[g0] at g;rw[g1] at h1;exact⟨g,h1,h.rows _ (h_ d)⟩
end
section
open Go.RowKit Go.Shelf
structure oy(n:Nat)(s:kF):Prop where
 jh:s.n=n
 g1:s.gs.length<=65536
 bu:∀g∈s.gs,∀x∈g,gU n x
 hk:q8 n s.act s.ord s.aM
 nB:s.bl.length=n+1
 oT:jE s.bl 0=false
 wo:∀e∈s.es,oR n e.r.ah/\(0<=e.aR/\e.aR<=js)/\(0<=e.ac/\e.ac<=js)
 Eh:∀e∈s.es,pL s.gs e.r.ah
 Co:(s.es.map (·.r.ah)).Pairwise λ a b=>¬xU a b
 xz:∀p∈s.aA,uG s.gs n p.iM p.r.ah
theorem oy.nW{s:kF}(h:oy n s):s.es.length+1<=3^n:=by
 have:=Fa (n:=n) (ls:=s.es.map (·.r.ah)) (λ l hl=>by
  obtain⟨e,he,rfl⟩:=Zc.1 hl;exact(h.wo e he).1) (show List.Pairwise (λ a b=>¬∀x,x∈a↔x∈b) (s.es.map (·.r.ah)) from h.Co)
 rwa[s_] at this
theorem AD(b:n<=10):3^n<=59049:=by
 have c:3^n<=3^10:=Nat.pow_le_pow_right (by omega) b;have d:(3:Nat)^10=59049:=by decide
 omega
theorem oy.Nr{s:kF}(h:oy n s)(d:n<=10):ue s=0:=by
 have m:=h.nW;have o:=AD d;have f:ud s=false:=by
  unfold ud;rw[h.hk.check,h.oT,h.jh,h.hk.kM,h.hk.pE,h.nB];simp;omega
 have g:kZ s.n s.gs=0:=by rw[h.jh];exact Ci (by omega) h.g1 h.bu
 have i:s.es.any qz=false:=by
  rw[ZU];intro e he;obtain⟨h1,b,c⟩:=h.wo e he;unfold qz;rw[Cf.2 b,Cf.2 c];have:e.r.ah.length≠0:=λ hl=>h1.ne (Zv hl)
  simpa using this
 have j:kZ s.n (s.es.map (·.r.ah))=0:=by
  rw[h.jh];refine Ci (by omega) (by rw[s_];omega) λ l hl=>?_
  obtain⟨e,he,rfl⟩:=Zc.1 hl;exact(h.wo e he).1.lt
 have k:s.aA.any (pK s.n)=false:=by
  rw[ZU];intro p hp;have h1:=(h.xz p hp).iM;have b:=(h.xz p hp).2;have c:kZ s.n [p.r.ah]=0:=by
   rw[h.jh];exact Ci (by omega) (by simp) λ l hl=>by rw[Zg.1 hl];exact b
  unfold pK;rw[c];simp;omega
 unfold ue;rw[if_neg (by rw[f];exact l_),if_neg (by rw[g];simp),if_neg (by rw[i];exact l_),if_neg (by rw[j];simp),if_neg (by rw[k];exact l_)]
def n5(e:mc):mS:=⟨e.iM,⟨e.r.A,e.r.n,e.r.c⟩⟩
theorem Hj(es:List mc):mq (es.map n5)=ni es:=by
 unfold mq ni;rw[List.map_map];rfl
theorem Hl{K:Nat->Prop}{w:World}{n:Nat}{F:List (List Int)}:∀(b:List mS),(∀p∈b,qf K w n F p)->∃es:List mc,es.map n5=b/\∀e∈es,uG F n e.iM e.r.ah/\aQ w e.r.A e.r.n e.r.c e.r.ah
 |[],_=>⟨[],rfl,λ e he=>by cases he⟩
 |p::b,h=>by
  obtain⟨es,h1,d⟩:=Hl b (λ q f=>h q (by simp[f]));obtain⟨⟨ah,g,i⟩,_⟩:=h p (by simp);refine⟨⟨p.iM,⟨p.h.A,p.h.n,p.h.c,ah⟩⟩::es,by rw[Zr,h1];rfl,λ e he=>?_⟩;rcases List.mem_cons.1 he with rfl|he
  ·exact⟨i,g⟩
  ·exact d e he
theorem aU.Ho{w:World}(E:aU K base w G hs cb s)(P:oV K w s){es:List mc}(he:es.map n5=s.aA)(l:∀e∈es,aQ w e.r.A e.r.n e.r.c e.r.ah)(hl:es.length<=1099511627776):
  ∃A c,oc hs s=.slice A es.length c/\nx w A es.length c es/\(es.length=c\/w.ownsRow base 126 2 (.slice A es.length c) es.length (ni es))/\(A=none->es.length=0/\c=0)/\(A≠none->∃b off,A=some ⟨b,off,none⟩):=by
 have t:mq s.aA=ni es:=by rw[<-he,Hj]
 have B:s.aA.length=es.length:=by rw[<-he,s_]
 cases j:s.jl with
 |some h=>
  obtain⟨h1,i,o⟩:=P h j;have C:oc hs s=h.v:=by unfold oc;rw[j]
  rw[C];obtain⟨A,m,c⟩:=h;have h1:m=es.length:=by rw[<-B];exact h1
  have i:c=m:=i;subst i h1;refine⟨A,es.length,rfl,⟨rfl,p_ _,by omega,by unfold maxLen;omega,λ p=>?_,l⟩,.inl rfl,λ e=>?_,λ e=>by rcases o with⟨d,_⟩|⟨b,off,d,_⟩;exact absurd d e;exact⟨b,off,d⟩⟩
  ·rcases o with⟨_,d⟩|⟨b,off,d,u,y⟩
   ·have d:es.length=0:=d;omega
   ·refine⟨b,off,d,E.s.lt b (u p),λ k hk=>?_⟩;have z:k<(ni es).length:=by rw[yb];exact hk
    have:=y k _ (by rw[t];exact Zk z);rw[this,Zk z]
  ·rcases o with⟨_,d⟩|⟨b,off,d,u,y⟩
   ·have d:es.length=0:=d;exact⟨d,d⟩
   ·have d:A=some ⟨b,off,none⟩:=d;rw[e] at d;cases d
 |none=>
  have h1:w.ownsRow base 126 2 (hs 11).v (hs 11).n (cont hs cb s 11):=E.e.rows.row 11;have D:cont hs cb s 11=ni es:=by
   show(match s.jl with|some _=> []|none=>mq s.aA)=_;rw[j];exact t
  have F:oc hs s=(hs 11).v:=by unfold oc;rw[j]
  rw[D] at h1;have i:(hs 11).n=es.length:=by
   have:=h1.1;rw[yb] at this;omega
  rw[F];generalize hs 11=H at*;obtain⟨A,m,c⟩:=H;have i:m=es.length:=i;subst i;refine⟨A,c,rfl,?_,.inr h1,?_,?_⟩
  ·rcases h1.2 with⟨f,q⟩|⟨g,cap,cur,f,L,M,I,J,N,O⟩
   ·simp only[aq.v,Zq] at f;obtain⟨rfl,d,rfl⟩:=f;exact⟨rfl,by omega,by omega,by unfold maxLen;omega,λ p=>by omega,l⟩
   ·simp only[aq.v,Zq] at f;obtain⟨rfl,_,rfl⟩:=f;refine⟨rfl,I,by omega,J,λ p=>⟨g,0,rfl,(h1.lt g rfl).2,λ k hk=>?_⟩,l⟩;rw[Nat.zero_add];exact h1.cellAt k hk
  ·intro e;rcases h1.2 with⟨f,q⟩|⟨g,cap,cur,f,_⟩
   ·simp only[aq.v,Zq] at f;exact⟨q,f.2.2⟩
   ·simp only[aq.v,Zq] at f;rw[e] at f
    cases f.1
  ·intro e;rcases h1.2 with⟨f,q⟩|⟨g,cap,cur,f,_⟩
   ·simp only[aq.v,Zq] at f;exact absurd f.1 e
   ·simp only[aq.v,Zq] at f;exact⟨g,0,f.1⟩
end
section
open Go.RowKit
def wq(n:Int)(x:Int):Bool:=decide (1<=x.natAbs)&&decide ((x.natAbs:Int)<=n)
def vl(n:Int)(b:List Int):Bool:=b.all (wq n)&&decide ((b.map aH).Nodup)
def uM(n:Int)(b:List Int)(k:Nat):Bool:= !(wq n (iJ b k))||hasB ((b.take k).map λ x=>(aH x:Int)) (aH (iJ b k):Int)
theorem Ei{n:Int}(h:k<aC.length)(b:uM n aC k=true):vl n aC=false:=by
 cases hm:vl n aC with
 |false=>rfl
 |true=>
  exfalso;unfold vl at hm;rw[m_,n_,decide_eq_true_eq] at hm;unfold uM at b;rw[rI h,ZY] at b;rcases b with b|b
  ·rw[hm.1 _ (h_ h)] at b;cases b
  ·obtain⟨y,c,d⟩:=Zc.1 (qR.1 b);obtain⟨j,f,e⟩:=ZS.1 c;have h1:=b_.1 hm.2 j k (by rw[s_];omega) (by rw[s_];omega) (by omega);rw[d_,d_,e] at h1;exact h1 (by have:(aH y:Int)=(aH aC[k]:Int):=d;omega)
theorem Hp{n:Int}(c:∀k,k<aC.length->uM n aC k=false):vl n aC=true:=by
 unfold vl;rw[m_,n_,decide_eq_true_eq];constructor
 ·intro x d;obtain⟨k,hk,e⟩:=Zo.1 d;have:=c k hk;unfold uM at this;rw[rI hk,ZX,e] at this;simpa using this.1
 ·rw[List.Nodup,b_];intro i j f b l e;rw[s_] at f b;have:=c j b;unfold uM at this;rw[rI b,ZX] at this;rw[d_,d_] at e;have g:hasB ((aC.take j).map λ x=>(aH x:Int)) (aH aC[j]:Int)=true:=qR.2 (Zc.2 ⟨aC[i],ZS.2 ⟨i,by omega,rfl⟩,by show(aH aC[i]:Int)=_;rw[e]⟩);rw[g] at this;cases this.2
theorem Ns(h:vl n aC=true):(∀x∈aC,gU n x)/\(aC.map aH).Nodup:=by
 unfold vl at h;rw[m_,n_,decide_eq_true_eq] at h;refine⟨λ x b=>?_,h.2⟩;have:=h.1 x b;unfold wq at this;rw[m_,decide_eq_true_eq,decide_eq_true_eq] at this;exact⟨this.1,by unfold aH;omega⟩
structure Cq(F:List (List Int))(n:Nat)(aC:List Int)(m:List Bool):Prop where
 len:m.length=n+1
 m0:jE m 0=false
 sat:∀g∈F,uj (sN m) g
 aC:∀x∈aC,sN m x=true
theorem Cq.can{m:List Bool}(h:Cq F n aC m):Can F aC:=⟨sN m,⟨FE _,h.sat⟩,h.aC⟩
end
section
open Go.RowKit
def nQ(v u:Value):Prop:=∀b,v.ownBlock=some b->u.ownBlock≠some b
def zj(mk:Nat->Bool)(L:Nat->Bool)(vals:Nat->Value):Prop:=∀j k,j≠k->mk j=true->mk k=true->L j=true->L k=true->nQ (vals j) (vals k)
def Cr(G:Nat->Value->World->Prop)(mk:Nat->Bool):Prop:=∀j u w,mk j=true->G j u w->∀b,u.ownBlock=some b->b<w.heap.size
def AE(ws:List (List Nat))(hU:World->Prop)(G:Nat->Value->World->Prop)(mk:Nat->Bool)(i:Nat)(w:World)(v:Value)(w':World):Prop:=
 hU w'/\G i v w'/\(∀j u,j≠i->pn ws 8 j i=false->G j u w->G j u w')/\(mk i=true->∀b,v.ownBlock=some b->w.heap.size<=b)
theorem AE.same{G:Nat->Value->World->Prop}{w:World}{v:Value}(b:hU w)(h:G i v w)(hk:mk i=false):AE ws hU G mk i w v w:=⟨b,h,λ _ _ _ _ h=>h,λ h=>by rw[hk] at h;cases h⟩
theorem AE.more{G:Nat->Value->World->Prop}{w:World}{v:Value}(hm:∀j u w w',Below w.heap.size w w'->G j u w->G j u w')(c:Below w.heap.size w w')(d:hU w')(h:G i v w')(hk:mk i=true->∀b,v.ownBlock=some b->w.heap.size<=b):AE ws hU G mk i w v w':=⟨d,h,λ j u _ _ h=>hm j u w w' c h,hk⟩
def AF(P:Program)(ds:List (Option Tmp))(ws:List (List Nat))(old:List (Tmp×Value))(hU:World->Prop)(G:Nat->Value->World->Prop)(mk:Nat->Bool)(i:Nat)(o:Oper):Prop:=
 ∀(vals:Nat->Value)(w:World)(b:Operand->Value),hU w->sk ds G (λ _=>none) i vals w b o.after.toList->ry ds ws i b old->rz b->(∀j k,j≠k->mk j=true->mk k=true->qo ws i j=true->qo ws i k=true->nQ (vals j) (vals k))->
  bn P b o w (AE ws hU G mk i w)
def xA(P:Program)(ds:List (Option Tmp))(ws:List (List Nat))(old:List (Tmp×Value))(hU:World->Prop)(G:Nat->Value->World->Prop)(mk:Nat->Bool):Nat->List Oper->Prop
 |_,[]=>True
 |k,o::r=>AF P ds ws old hU G mk k o/\xA P ds ws old hU G mk (k+1) r
theorem xA.at{P:Program}{ds:List (Option Tmp)}{ws:List (List Nat)}{old:List (Tmp×Value)}{hU:World->Prop}{G:Nat->Value->World->Prop}{mk:Nat->Bool}:∀{l:List Oper}{k i:Nat}{o:Oper},xA P ds ws old hU G mk k l->l[i]? =some o->AF P ds ws old hU G mk (k+i) o
 |[],k,i,o,_,h=>by simp at h
 |x::l,k,0,o,hs,h=>by
  simp only[x_,Option.some.injEq] at h;subst h;exact hs.1
 |x::l,k,i+1,o,hs,h=>by
  rw[w_] at h;have:=xA.at hs.2 h
  rwa[show k+1+i=k+(i+1) by omega] at this
section
variable {P:Program}{l:List Oper}{Q:Exit->Act->World->Prop}{a:Act}{old:List (Tmp×Value)}{hU:World->Prop}{G:Nat->Value->World->Prop}{mk:Nat->Bool}
theorem Nt{ds:List (Option Tmp)}{ws:List (List Nat)}(M:ws=l.map λ o:Oper=>(o.after.toList.filter (ZL .any)).map (·.on))(N:ds=l.map λ o:Oper=>o.dst)(O:tS l.toArray=true)(C:rW l.toArray=true)(Z:tT l.toArray a.tmps.size=true)
  (hold:qp a.eval old) (R:Cr G mk)
  {i:Nat} {o:Oper} (n:l.toArray[i]? =some o) (S:AF P ds ws old hU G mk i o) {listed:Array Bool} {vals:Nat->Value} {w:World} {K:Act->World->Prop} (ay:listed.size=l.toArray.size) (aa:hU w) (hF:vS G (λ _=>none) (ic listed) vals w) (T:zj mk (ic listed) vals)
  (ab:i∈ZK .any l.toArray listed) (hC:sn ws (ic listed))
  (ad:∀v w',hU w'->sn ws (ic (listed.setIfInBounds i true))->vS G (λ _=>none) (ic (listed.setIfInBounds i true)) (k6 vals i v) w'->zj mk (ic (listed.setIfInBounds i true)) (k6 vals i v)->K (j4 l.toArray (k6 vals i v) (ic (listed.setIfInBounds i true)) a l.toArray.size) w'):
  wpOp P l.toArray Q i K (j4 l.toArray vals (ic listed) a l.toArray.size) w:=by
 obtain⟨h1,U,ae,V,D⟩:=vT ab;obtain rfl:o=ae:=by rw[n] at V;injection V
 have r:i<listed.size:=by omega
 have z:ic listed i=false:=by
  unfold ic;rw[q_,Z5 r] at U⊢;simpa using U
 have W:∀j,qo ws i j=true->ic listed j=true:=λ j d=>by
  obtain⟨af,m,e,he,t,E⟩:=yH M d;rw[n] at m;injection m with m
  subst m;have:=D e he t;rw[E] at this;exact this
 unfold wpOp;simp only[n];have ag:o.guard=none:=by
  unfold rW at C;rw[Z_] at C;have:=C o (ZP n);simpa using this
 have hw:ZW o (yielded l.toArray (j4 l.toArray vals (ic listed) a l.toArray.size).tmps)=true:=by unfold ZW;rw[ag]
 rw[if_pos hw];left;unfold AF at S;have ah:=S vals w (j4 l.toArray vals (ic listed) a l.toArray.size).eval aa (sk.of λ e he t=>by
  have hl:=D e (Array.mem_toList_iff.1 he) t;have ai:e.on<l.toArray.size:=by
   rcases Zd e.on listed.size with h|h
   ·omega
   ·rw[q_,Array.getElem?_eq_none h] at hl;cases hl
  refine⟨λ u=>hF e.on hl λ c f=>?_,λ s hs=>?_⟩
  ·rcases u with u|u
   ·rw[u] at f;cases f
   ·rw[u] at f;injection f with f
    rw[<-f];exact z
  ·rw[N,<-yF] at hs;exact zT hs (Dh Z hs) hl (λ k hk=>yD O hk hs) _ ai) (ry.of (λ s hs=>zS (λ j s' hl d F=>by
   injection F with F
   subst F;rw[yF,<-N] at d;have:=hC j i hl (Dg hs d);rw[z] at this;cases this) _) hold) (rz.act _) (λ j k A m1 m2 w1 aj=>T j k A m1 m2 (W j w1) (W k aj))
 refine ah.wp λ v w' ⟨ak,k2,k3,X⟩=>?_
 have al:(j4 l.toArray vals (ic listed) a l.toArray.size).put o.dst v=j4 l.toArray (k6 vals i v) (ic (listed.setIfInBounds i true)) a l.toArray.size:=by
  rw[qm r];have an:pg l.toArray i=o.dst:=by unfold pg;rw[n];rfl
  have:=Bm (ops:=l.toArray) (vals:=vals) (L:=ic listed) (a:=a) (i:=i) (v:=v) (λ j d s hs=>yD O d hs) z l.toArray.size h1;rw[an] at this;exact this
 rw[al];have ao:sn ws (ic (listed.setIfInBounds i true)):=by
  rw[qm r];intro j k d Y;unfold k9 at d⊢
  by_cases e:k=i
  ·rw[if_pos e]
  ·rw[if_neg e]
   by_cases g:j=i
   ·subst g;obtain⟨af,m,aq,ar,t,E⟩:=yH M Y;rw[n] at m;injection m with m
    subst m;have:=D aq ar t;rw[E] at this;exact this
   ·rw[if_neg g] at d;exact hC j k d Y
 refine ad v w' ak ao (λ j d az=>?_) (λ j k A m1 m2 B y=>?_)
 ·rw[qm r] at d
  by_cases e:j=i
  ·subst e;have g:k6 vals j v j=v:=by unfold k6;rw[if_pos rfl]
   rw[g];exact k2
  ·have g:k6 vals i v j=vals j:=by unfold k6;rw[if_neg e]
   have p:k9 (ic listed) i j=ic listed j:=by unfold k9;rw[if_neg e]
   rw[g];rw[p] at d;refine k3 j _ e ?_ (hF j d λ c f=>by cases f)
   cases au:pn ws 8 j i with
   |false=>rfl
   |true=>
    have:=hC.reach 8 j i d au;rw[z] at this;cases this
 ·rw[qm r] at B y
  by_cases e:j=i
  ·subst e;have q:¬k=j:=λ e=>A e.symm
   have g:k6 vals j v j=v:=by unfold k6;rw[if_pos rfl]
   have p:k6 vals j v k=vals k:=by unfold k6;rw[if_neg q]
   have H:k9 (ic listed) j k=ic listed k:=by unfold k9;rw[if_neg q]
   rw[H] at y;rw[g,p];intro b I J;have av:=X m1 b I;have aw:=R k _ _ m2 (hF k y λ c f=>by cases f) b J;omega
  ·have p:k6 vals i v j=vals j:=by unfold k6;rw[if_neg e]
   have H:k9 (ic listed) i j=ic listed j:=by unfold k9;rw[if_neg e]
   rw[H] at B
   by_cases q:k=i
   ·subst q;have g:k6 vals k v k=v:=by unfold k6;rw[if_pos rfl]
    rw[g,p];intro b I J;have av:=X m2 b J;have aw:=R j _ _ m1 (hF j B λ c f=>by cases f) b I;omega
   ·have g:k6 vals i v k=vals k:=by unfold k6;rw[if_neg q]
    have ax:k9 (ic listed) i k=ic listed k:=by unfold k9;rw[if_neg q]
    rw[ax] at y;rw[p,g];exact T j k A m1 m2 B y
theorem Nu{ds:List (Option Tmp)}{ws:List (List Nat)}(H:ws=l.map λ o:Oper=>(o.after.toList.filter (ZL .any)).map (·.on))(I:ds=l.map λ o:Oper=>o.dst)(n:Nat)(hlen:l.length=n+1)(J:tS l.toArray=true)(s:rW l.toArray=true)(K:tT l.toArray a.tmps.size=true)(L:vD l.toArray=true)(t:xQ l n=true)(hold:qp a.eval old)(M:Cr G mk)
  (N:xA P ds ws old hU G mk 0 (l.take n))
  (O:∀o vals w,l[n]? =some o->hU w->(∀j,j<n->G j (vals j) w)->zj mk (ng n) vals->bn P (j4 l.toArray vals (ng n) a n).eval o w λ v w'=>Q .normal ((j4 l.toArray vals (ng n) a n).put o.dst v) w'):
  ∀(fuel:Nat)(listed:Array Bool)(vals:Nat->Value)(w:World),listed.size=l.toArray.size->p9 l.toArray listed<=fuel->0<p9 l.toArray listed->ic listed n=false->sn ws (ic listed)->hU w->vS G (λ _=>none) (ic listed) vals w->zj mk (ic listed) vals->
   wpAny P .any l.toArray Q fuel listed (j4 l.toArray vals (ic listed) a l.toArray.size) w:=by
 intro fuel
 induction fuel with
 |zero=>intro listed vals w m R S;omega
 |succ fuel T=>
  intro listed vals w m R S z hC A hF B;refine⟨λ h=>by have:=Dj L m h;omega,λ i C=>?_⟩;obtain⟨h1,U,o,p,V⟩:=vT C;have D:i<listed.size:=by omega
  have al:i<l.length:=by simpa using h1
  have u:l[i]? =some o:=by rw[List.getElem?_toArray] at p;exact p
  by_cases E:i=n
  ·subst E;have q:∀j,j<i->ic listed j=true:=λ j d=>by
    unfold xQ at t;rw[u] at t;simp only[n_,Z7] at t;have b:=t j d;rw[Array.any_eq_true'] at b;obtain⟨e,he,y⟩:=b;simp only[m_,beq_iff_eq] at y;have:=V e he y.1;rw[y.2] at this;exact this
   have W:j4 l.toArray vals (ic listed) a l.toArray.size=j4 l.toArray vals (ng i) a i:=by
    have X:l.toArray.size=i+1:=by simp[hlen]
    rw[X];simp only[j4];rw[z];simp only[Bool.false_eq_true,if_false];exact Bo i λ j d=>by rw[q j d];unfold ng;simp[d]
   rw[W];unfold wpOp;simp only[p];have Y:o.guard=none:=by
    unfold rW at s;rw[Z_] at s;have:=s o (ZP p);simpa using this
   have hw:ZW o (yielded l.toArray (j4 l.toArray vals (ng i) a i).tmps)=true:=by unfold ZW;rw[Y]
   rw[if_pos hw];left;refine(O o vals w u A (λ j d=>hF j (q j d) λ c Z=>by cases Z) (λ j k aa m1 m2 ab ad=>B j k aa m1 m2 (q j (by simpa[ng] using ab)) (q k (by simpa[ng] using ad)))).wp λ v w' ae=>?_
   refine wpAny_done ?_ ae _;rcases af:ZK .any l.toArray (listed.setIfInBounds i true) with _|⟨k,r⟩
   ·rfl
   ·have hk:k∈ZK .any l.toArray (listed.setIfInBounds i true):=by rw[af];simp
    obtain⟨b,f,_⟩:=vT hk;exfalso;have an:k<i+1:=by simpa[hlen] using b
    by_cases e:k=i
    ·subst e;rw[q_,Array.getElem?_setIfInBounds_self_of_lt D] at f
     cases f
    ·have g:=q k (by omega);rw[q_,Array.getElem?_setIfInBounds_ne (λ x=>e x.symm)] at f;unfold ic at g;rw[q_] at g;have ag:k<listed.size:=by omega
     rw[Z5 ag] at f g;simp at f g;rw[f] at g;cases g
  ·have ah:AF P ds ws old hU G mk i o:=by
    have b:(l.take n)[i]? =some o:=by rw[List.getElem?_take,if_pos (by omega)];exact u
    have:=xA.at N b
    rwa[Nat.zero_add] at this
   refine Nt H I J s K hold M p ah m A hF B C hC λ v w' ai aj k2 ak=>?_
   have F:ic (listed.setIfInBounds i true) n=false:=by
    rw[qm D];unfold k9;rw[if_neg (λ e=>E e.symm)];exact z
   refine T _ _ w' (by simp[m]) (by have:=Di (ops:=l.toArray) h1 U;omega) ?_ F aj ai k2 ak;rcases j_ (p9 l.toArray (listed.setIfInBounds i true)) with b|b
   ·have:=yG (ops:=l.toArray) (listed:=listed.setIfInBounds i true) (by simp[m]) b n (by simp[hlen]);rw[F] at this;cases this
   ·exact b
end
theorem Nv{P:Program}{id:Nat}{ops:Array Oper}{Q:Exit->Act->World->Prop}{a:Act}{w:World}(l:List Oper)(n N:Nat)(ds:List (Option Tmp))(ws:List (List Nat))(old:List (Tmp×Value))(hU:World->Prop)(G:Nat->Value->World->Prop)(mk:Nat->Bool)
  (r:ops=l.toArray) (hm:P.follows .mixedOrders=true)
  (m:ds=l.map λ o:Oper=>o.dst) (s:ws=l.map λ o:Oper=>(o.after.toList.filter (ZL .any)).map (·.on)) (hlen:l.length=n+1) (t:tS l.toArray=true) (u:rW l.toArray=true) (y:vD l.toArray=true) (z:xQ l n=true) (A:tT l.toArray N=true)
  (B:a.tmps.size=N) (hold:qp a.eval old) (C:Cr G mk) (D:hU w.drew)
  (E:xA P ds ws old hU G mk 0 (l.take n))
  (ol:Oper) (F:l[n]? =some ol) (H:∀vals w,hU w->(∀j,j<n->G j (vals j) w)->zj mk (ng n) vals->∀f,oI (ds.take n) 0 vals a=f->bn P f.eval ol w λ v w'=>Q .normal (f.put ol.dst v) w'):(Code.region id ops true).wp P Q a w:=by
 subst r;subst B;refine wp_region_any hm ?_;have I:∀o vals w,l[n]? =some o->hU w->(∀j,j<n->G j (vals j) w)->zj mk (ng n) vals->bn P (j4 l.toArray vals (ng n) a n).eval o w λ v w'=>Q .normal ((j4 l.toArray vals (ng n) a n).put o.dst v) w':=by
  intro o vals w d J K L;rw[F] at d;injection d with d
  subst d;rw[Bn l vals a n n (p_ _) (by omega),<-m];exact H vals w J K L _ rfl
 have b:∀k,ic (Zf l.toArray.size false) k=false:=λ k=>by
  unfold ic;rw[q_,Array.getElem?_replicate];split<;>rfl
 have e:a=j4 l.toArray (λ _=>undef) (ic (Zf l.toArray.size false)) a l.toArray.size:=by
  have:∀k,j4 l.toArray (λ _=>undef) (ic (Zf l.toArray.size false)) a k=a:=by
   intro k
   induction k with
   |zero=>rfl
   |succ k M=>
    simp only[j4];rw[b k,M];simp
  exact(this _).symm
 have p:=Nu (P:=P) (Q:=Q) (a:=a) (hU:=hU) (G:=G) (mk:=mk) s m n hlen t u A y z hold C E I l.toArray.size (Zf l.toArray.size false) (λ _=>undef) w.drew (by simp)
  (by unfold p9;exact Zl (List.length_filter_le _ _) (by simp)) ?_ (b n) (λ j i c=>by rw[b j] at c;cases c) D (λ j c=>by rw[b j] at c;cases c) (λ j k O m1 m2 q R=>by rw[b j] at q;cases q)
 ·rw[<-e] at p;exact p
 ·rcases j_ (p9 l.toArray (Zf l.toArray.size false)) with g|g
  ·have:=yG (ops:=l.toArray) (listed:=Zf l.toArray.size false) (by simp) g n (by simp[hlen]);rw[b n] at this;cases this
  ·exact g
end
section
open Go.RowKit Go.Shelf
theorem Nw:∀args w,(callFunc 106 args).run t_ w=.ok (.enter 106 args) w:=enters_of Tryz.func106 (by kernel_rfl) rfl
theorem Nx:∀args w,(callFunc 109 args).run t_ w=.ok (.enter 109 args) w:=enters_of Tryz.func109 (by kernel_rfl) rfl
theorem Ny:(t_.info? 160).map (λ i=>(i.zero,i.size,i.bytes))=some (some (.slice none 0 0),1,24):=by kernel_rfl
theorem Nz:(t_.info? 171).map (λ i=>(i.zero,i.size,i.bytes))=some (some (.int .i8 0),1,1):=by kernel_rfl
theorem NA:(t_.info? 164).map (λ i=>(i.zero,i.size,i.bytes))=some (some (.pointer none),1,8):=by kernel_rfl
theorem zk{w:World}{ty:TypeId}{z:Value}{aM:Nat}(b:(t_.info? e).map (λ i=>(i.zero,i.size,i.bytes))=some (some z,1,aM))(hu:t_.underlying ty=some (.slice e))(c:z.cells= #[z])(k:Nat)(hk:k<=200000)(d:aM<=100)(base:Nat)(f:base<=w.heap.size):
  (Instr.makeSlice ty (.int .i64 (k:Int)) (.int .i64 (k:Int))).run t_ w=.ok (.slice (some ⟨w.heap.size,0,none⟩) k k) (w.alloc (.cells (madeCells #[z] k) e))/\
  (w.alloc (.cells (madeCells #[z] k) e)).ownsRow base e 1 (.slice (some ⟨w.heap.size,0,none⟩) k k) k (y_ k z):=by
 obtain⟨i0,g,j,l,m⟩:=info_parts b;have hm:aM*k<=100*200000:=Nat.mul_le_mul d hk;have:=run_make (P:=t_) w ty e i0 z hu g j .i64 .i64 (k:Int) (k:Int) (by omega) (by omega) (by rw[m,<-Int.natCast_mul];omega) (by omega);rw[l,c,Nat.mul_one,ZT] at this;refine⟨this,by simp,.inr ⟨_,_,_,rfl,f,heap_alloc_new _ _,p_ _,by unfold maxLen;omega,by rw[size_madeCells];simp,?_⟩⟩;rw[toList_madeCells_one,k_ (by simp)]
theorem Hq{w:World}{b kT:Nat}{v:Value}(h:w.ownsRow b e size v n xs)(c:kT<=b):w.ownsRow kT e size v n xs:=by
 refine⟨h.1,h.2.imp id ?_⟩;rintro⟨g,cap,cur,h1,d,f⟩;exact⟨g,cap,cur,h1,Zl c d,f⟩
def qA(n:Nat)(act:List Int)(aM:Int)(bl:List Bool)(aA:List mS)(jl:aq):aj:=
 {c:=ox n,ci:=[],act:=act,aM:=aM,ord:=[],pl:=y_ (n+1) 0,bl:=bl,aI:=[],aA:=aA,aN:=y_ (n+1) false,nl:=[],jl:=some jl}
def sD:Nat->Nat:=λ _=>0
def uN(b h1 c d e f g i:aq)(r:Nat):aq:=
 if r=0 then b else if r=1 then h1 else if r=2 then c else if r=3 then d else if r=6 then e else if r=8 then f else if r=9 then g else if r=12 then i else mM
theorem wu{w:World}{h:aq}(b:w.ownsRow base e size h.v k xs):h.n=k:=by
 rcases b.2 with⟨h1,c⟩|⟨g,cap,cur,h1,_⟩
 ·unfold aq.v at h1;injection h1 with _ h1 _;omega
 ·unfold aq.v at h1;injection h1
theorem nQ.ag{h h':aq}(p:nQ h.v h'.v)(g:Nat)(h1:h.b=some g):h'.b≠some g:=by
 have:=p g (by rw[aq.own];exact h1)
 rwa[aq.own] at this
theorem vm(k h1 l m n o p q:aq)(r:Nat):(r=0\/r=1\/r=2\/r=3\/r=6\/r=8\/r=9\/r=12)\/(uN k h1 l m n o p q r=mM/\r≠0/\r≠1/\r≠2/\r≠3/\r≠6/\r≠8/\r≠9/\r≠12):=by
 by_cases b:r=0
 ·exact .inl (.inl b)
 by_cases c:r=1
 ·exact .inl (by omega)
 by_cases d:r=2
 ·exact .inl (by omega)
 by_cases e:r=3
 ·exact .inl (by omega)
 by_cases f:r=6
 ·exact .inl (by omega)
 by_cases g:r=8
 ·exact .inl (by omega)
 by_cases i:r=9
 ·exact .inl (by omega)
 by_cases j:r=12
 ·exact .inl (by omega)
 right;refine⟨?_,b,c,d,e,f,g,i,j⟩;unfold uN;rw[if_neg b,if_neg c,if_neg d,if_neg e,if_neg f,if_neg g,if_neg i,if_neg j]
theorem NB(hs:Nat->aq)(n:Nat)(act:List Int)(b:Int)(c:List Bool)(d:List mS)(f:aq){r:Nat}(h:r≠0/\r≠1/\r≠2/\r≠3/\r≠6/\r≠8/\r≠9/\r≠12):cont hs sD (qA n act b c d f) r=[]:=by
 obtain⟨g,i,j,k,l,m,o,p⟩:=h;unfold cont;rw[if_neg g,if_neg i,if_neg j,if_neg k]
 by_cases e:r=4
 ·rw[if_pos e];rfl
 rw[if_neg e]
 by_cases e:r=5
 ·rw[if_pos e];rfl
 rw[if_neg e,if_neg l]
 by_cases e:r=7
 ·rw[if_pos e];rfl
 rw[if_neg e,if_neg m,if_neg o]
 by_cases e:r=10
 ·rw[if_pos e];rfl
 rw[if_neg e]
 by_cases e:r=11
 ·rw[if_pos e];rfl
 rw[if_neg e,if_neg p]
 by_cases e:r%3=1
 ·rw[if_pos e];show kV sD (ax (y_ _ []) _)=[]
  rw[Bz];rfl
 rw[if_neg e]
 by_cases e:r%3=2
 ·rw[if_pos e];rfl
 ·rw[if_neg e];rfl
theorem NC{w:World}{act:List Int}{aM:Int}{aA:List mS}{ct mY nZ nE og oh om oo:aq}
  (f:w.ownsRow base zP 1 ct.v (2*n+2) (y_ (2*n+2) (f_ none 0 0))) (ko:w.ownsRow base zQ 1 mY.v (n+1) (y_ (n+1) (Zu .i8 0))) (i:w.ownsRow base 3 1 nZ.v (n+1) (y_ (n+1) (Zu .i64 0))) (k:w.ownsRow base xO 1 nE.v (n+1) (y_ (n+1) (ZV none))) (l:w.ownsRow base 3 1 og.v (n+1) (gX act)) (m:w.ownsRow base 3 1 oh.v (n+1) (y_ (n+1) (Zu .i64 0))) (o:w.ownsRow base 4 1 om.v (n+1) (nO bl)) (p:w.ownsRow base 4 1 oo.v (n+1) (y_ (n+1) (Zx false)))
  (q:nQ ct.v mY.v) (s:nQ ct.v nZ.v) (t:nQ ct.v nE.v) (u:nQ ct.v og.v) (y:nQ ct.v oh.v) (z:nQ ct.v om.v) (A:nQ ct.v oo.v) (B:nQ mY.v nZ.v) (C:nQ mY.v nE.v) (D:nQ mY.v og.v) (E:nQ mY.v oh.v) (F:nQ mY.v om.v) (G:nQ mY.v oo.v) (H:nQ nZ.v nE.v) (I:nQ nZ.v og.v) (J:nQ nZ.v oh.v) (K:nQ nZ.v om.v) (L:nQ nZ.v oo.v) (M:nQ nE.v og.v) (N:nQ nE.v oh.v) (O:nQ nE.v om.v) (P:nQ nE.v oo.v) (Q:nQ og.v oh.v) (R:nQ og.v om.v) (S:nQ og.v oo.v) (T:nQ oh.v om.v) (U:nQ oh.v oo.v) (V:nQ om.v oo.v):
  mg base qY nU w (uN ct mY nZ nE og oh om oo) (cont (uN ct mY nZ nE og oh om oo) sD (qA n act aM bl aA jl)):=by
 refine⟨λ r=>?_,λ r r' g d h1 b=>?_⟩
 ·rcases vm ct mY nZ nE og oh om oo r with(rfl|rfl|rfl|rfl|rfl|rfl|rfl|rfl)|⟨e,c⟩
  ·show w.ownsRow base zP 1 ct.v ct.n _;rw[wu f];have:cont (uN ct mY nZ nE og oh om oo) sD (qA n act aM bl aA jl) 0=y_ (2*n+2) (f_ none 0 0):=by
    show(Zp (y_ (2*n+2) ([]:List Nat)).length).map _=_;rw[List.length_replicate];refine List.ext_getElem (by simp) λ j h1 b=>?_
    rw[d_,List.getElem_replicate];have W:(uN ct mY nZ nE og oh om oo) (ij j)=mM:=by
     rcases vm ct mY nZ nE og oh om oo (ij j) with h|h
     ·unfold ij at h;omega
     ·exact h.1
    rw[List.getElem_range,W];rfl
   rw[this];exact f
  ·show w.ownsRow base zQ 1 mY.v mY.n _;rw[wu ko];have:cont (uN ct mY nZ nE og oh om oo) sD (qA n act aM bl aA jl) 1=y_ (n+1) (Zu .i8 0):=by
    show tn (y_ (n+1) 0)=_;simp[tn]
   rw[this];exact ko
  ·show w.ownsRow base 3 1 nZ.v nZ.n _;rw[wu i];have:cont (uN ct mY nZ nE og oh om oo) sD (qA n act aM bl aA jl) 2=y_ (n+1) (Zu .i64 0):=by
    show ql (y_ (n+1) 0)=_;simp[ql]
   rw[this];exact i
  ·show w.ownsRow base xO 1 nE.v nE.n _;rw[wu k];have:cont (uN ct mY nZ nE og oh om oo) sD (qA n act aM bl aA jl) 3=y_ (n+1) (ZV none):=by
    show uw sD (y_ (n+1) none)=_;simp[uw,qZ]
   rw[this];exact k
  ·show w.ownsRow base 3 1 og.v og.n _;rw[wu l];exact l
  ·show w.ownsRow base 3 1 oh.v oh.n _;rw[wu m];have:cont (uN ct mY nZ nE og oh om oo) sD (qA n act aM bl aA jl) 8=y_ (n+1) (Zu .i64 0):=by
    show gX (y_ (n+1) 0)=_;simp[gX]
   rw[this];exact m
  ·show w.ownsRow base 4 1 om.v om.n _;rw[wu o];exact o
  ·show w.ownsRow base 4 1 oo.v oo.n _;rw[wu p];have:cont (uN ct mY nZ nE og oh om oo) sD (qA n act aM bl aA jl) 12=y_ (n+1) (Zx false):=by
    show nO (y_ (n+1) false)=_;simp[nO]
   rw[this];exact p
  ·rw[e,NB _ n act aM bl aA jl c];exact Ze _ _ _ _
 ·rcases vm ct mY nZ nE og oh om oo r with(rfl|rfl|rfl|rfl|rfl|rfl|rfl|rfl)|⟨e,c⟩
  ·rcases vm ct mY nZ nE og oh om oo r' with(rfl|rfl|rfl|rfl|rfl|rfl|rfl|rfl)|⟨e,c⟩
   ·exact d rfl
   ·exact q.ag g h1 b
   ·exact s.ag g h1 b
   ·exact t.ag g h1 b
   ·exact u.ag g h1 b
   ·exact y.ag g h1 b
   ·exact z.ag g h1 b
   ·exact A.ag g h1 b
   ·rw[e] at b;cases b
  ·rcases vm ct mY nZ nE og oh om oo r' with(rfl|rfl|rfl|rfl|rfl|rfl|rfl|rfl)|⟨e,c⟩
   ·exact q.ag g b h1
   ·exact d rfl
   ·exact B.ag g h1 b
   ·exact C.ag g h1 b
   ·exact D.ag g h1 b
   ·exact E.ag g h1 b
   ·exact F.ag g h1 b
   ·exact G.ag g h1 b
   ·rw[e] at b;cases b
  ·rcases vm ct mY nZ nE og oh om oo r' with(rfl|rfl|rfl|rfl|rfl|rfl|rfl|rfl)|⟨e,c⟩
   ·exact s.ag g b h1
   ·exact B.ag g b h1
   ·exact d rfl
   ·exact H.ag g h1 b
   ·exact I.ag g h1 b
   ·exact J.ag g h1 b
   ·exact K.ag g h1 b
   ·exact L.ag g h1 b
   ·rw[e] at b;cases b
  ·rcases vm ct mY nZ nE og oh om oo r' with(rfl|rfl|rfl|rfl|rfl|rfl|rfl|rfl)|⟨e,c⟩
   ·exact t.ag g b h1
   ·exact C.ag g b h1
   ·exact H.ag g b h1
   ·exact d rfl
   ·exact M.ag g h1 b
   ·exact N.ag g h1 b
   ·exact O.ag g h1 b
   ·exact P.ag g h1 b
   ·rw[e] at b;cases b
  ·rcases vm ct mY nZ nE og oh om oo r' with(rfl|rfl|rfl|rfl|rfl|rfl|rfl|rfl)|⟨e,c⟩
   ·exact u.ag g b h1
   ·exact D.ag g b h1
   ·exact I.ag g b h1
   ·exact M.ag g b h1
   ·exact d rfl
   ·exact Q.ag g h1 b
   ·exact R.ag g h1 b
   ·exact S.ag g h1 b
   ·rw[e] at b;cases b
  ·rcases vm ct mY nZ nE og oh om oo r' with(rfl|rfl|rfl|rfl|rfl|rfl|rfl|rfl)|⟨e,c⟩
   ·exact y.ag g b h1
   ·exact E.ag g b h1
   ·exact J.ag g b h1
   ·exact N.ag g b h1
   ·exact Q.ag g b h1
   ·exact d rfl
   ·exact T.ag g h1 b
   ·exact U.ag g h1 b
   ·rw[e] at b;cases b
  ·rcases vm ct mY nZ nE og oh om oo r' with(rfl|rfl|rfl|rfl|rfl|rfl|rfl|rfl)|⟨e,c⟩
   ·exact z.ag g b h1
   ·exact F.ag g b h1
   ·exact K.ag g b h1
   ·exact O.ag g b h1
   ·exact R.ag g b h1
   ·exact T.ag g b h1
   ·exact d rfl
   ·exact V.ag g h1 b
   ·rw[e] at b;cases b
  ·rcases vm ct mY nZ nE og oh om oo r' with(rfl|rfl|rfl|rfl|rfl|rfl|rfl|rfl)|⟨e,c⟩
   ·exact A.ag g b h1
   ·exact G.ag g b h1
   ·exact L.ag g b h1
   ·exact P.ag g b h1
   ·exact S.ag g b h1
   ·exact U.ag g b h1
   ·exact V.ag g b h1
   ·exact d rfl
   ·rw[e] at b;cases b
  ·rw[e] at h1;cases h1
def wv(W:World)(d n:Nat)(act:List Int)(g:Int)(j:List Bool)(A:Option Addr)(c:Nat)(l:Option Addr)(m:Nat)(f:Option Addr)(e o:Nat)(k:List mS)(i:Nat)(v:Value)(w:World):Prop:=
 match i with
 |0=>v=.pointer (some ⟨d,0,none⟩)
 |1=>v=.int .i64 ((n:Int))
 |2=>v=.pointer (some ⟨d,0,none⟩)
 |3=>v=.int .i64 ((n:Int))
 |4=>v=.int .i64 (2*(n:Int))
 |5=>v=.int .i64 (2*(n:Int)+2)
 |6=>∃h:aq,v=h.v/\w.ownsRow W.heap.size zP 1 h.v (2*n+2) (y_ (2*n+2) (f_ none 0 0))
 |7=>v=.pointer (some ⟨d,0,none⟩)
 |8=>v=.int .i64 ((n:Int))
 |9=>v=.int .i64 ((n:Int)+1)
 |10=>∃h:aq,v=h.v/\w.ownsRow W.heap.size zQ 1 h.v (n+1) (y_ (n+1) (Zu .i8 0))
 |11=>v=.pointer (some ⟨d,0,none⟩)
 |12=>v=.int .i64 ((n:Int))
 |13=>v=.int .i64 ((n:Int)+1)
 |14=>∃h:aq,v=h.v/\w.ownsRow W.heap.size 3 1 h.v (n+1) (y_ (n+1) (Zu .i64 0))
 |15=>v=.pointer (some ⟨d,0,none⟩)
 |16=>v=.int .i64 ((n:Int))
 |17=>v=.int .i64 ((n:Int)+1)
 |18=>∃h:aq,v=h.v/\w.ownsRow W.heap.size xO 1 h.v (n+1) (y_ (n+1) (ZV none))
 |19=>v=.pointer (some ⟨d,3,none⟩)
 |20=>v=.pointer (some ⟨d,3,none⟩)
 |21=>v=.slice A (n+1) c
 |22=>∃h:aq,v=h.v/\w.ownsRow W.heap.size 3 1 h.v (n+1) (gX act)
 |23=>v=.pointer (some ⟨d,3,none⟩)
 |24=>v=.pointer (some ⟨d,5,none⟩)
 |25=>v=.int .i64 (g)
 |26=>v=.pointer (some ⟨d,0,none⟩)
 |27=>v=.int .i64 ((n:Int))
 |28=>v=.int .i64 ((n:Int)+1)
 |29=>∃h:aq,v=h.v/\w.ownsRow W.heap.size 3 1 h.v (n+1) (y_ (n+1) (Zu .i64 0))
 |30=>v=.pointer (some ⟨d,6,none⟩)
 |31=>v=.slice l (n+1) m
 |32=>∃h:aq,v=h.v/\w.ownsRow W.heap.size 4 1 h.v (n+1) (nO j)
 |33=>v=.pointer (some ⟨d,7,none⟩)
 |34=>v=.slice f e o
 |35=>v=.slice f e e
 |36=>v=.pointer (some ⟨d,0,none⟩)
 |37=>v=.int .i64 ((n:Int))
 |38=>v=.int .i64 ((n:Int)+1)
 |39=>∃h:aq,v=h.v/\w.ownsRow W.heap.size 4 1 h.v (n+1) (y_ (n+1) (Zx false))
 |40=>∃hs,v=.agg (rq hs (qA n act g j k ⟨f,e,e⟩)).toArray/\mg W.heap.size qY nU w hs (cont hs sD (qA n act g j k ⟨f,e,e⟩))
 |41=>∃hs b,v=.pointer (some ⟨b,0,none⟩)/\aO w b tj (rq hs (qA n act g j k ⟨f,e,e⟩))/\W.heap.size<=b/\mg W.heap.size qY nU w hs (cont hs sD (qA n act g j k ⟨f,e,e⟩))
 |_=>True
theorem wv.mono(W:World)(g n:Nat)(act:List Int)(j:Int)(k:List Bool)(A:Option Addr)(c:Nat)(l:Option Addr)(m:Nat)(o:Option Addr)(p q:Nat)(r:List mS)(i:Nat)(u:Value)(w w':World)(f:Below w.heap.size w w')(h:wv W g n act j k A c l m o p q r i u w):wv W g n act j k A c l m o p q r i u w':=by
 match i,h with
 |0,h=>exact h
 |1,h=>exact h
 |2,h=>exact h
 |3,h=>exact h
 |4,h=>exact h
 |5,h=>exact h
 |6,h=>obtain⟨e,h1,d⟩:=h;exact⟨e,h1,lR d f⟩
 |7,h=>exact h
 |8,h=>exact h
 |9,h=>exact h
 |10,h=>obtain⟨e,h1,d⟩:=h;exact⟨e,h1,lR d f⟩
 |11,h=>exact h
 |12,h=>exact h
 |13,h=>exact h
 |14,h=>obtain⟨e,h1,d⟩:=h;exact⟨e,h1,lR d f⟩
 |15,h=>exact h
 |16,h=>exact h
 |17,h=>exact h
 |18,h=>obtain⟨e,h1,d⟩:=h;exact⟨e,h1,lR d f⟩
 |19,h=>exact h
 |20,h=>exact h
 |21,h=>exact h
 |22,h=>obtain⟨e,h1,d⟩:=h;exact⟨e,h1,lR d f⟩
 |23,h=>exact h
 |24,h=>exact h
 |25,h=>exact h
 |26,h=>exact h
 |27,h=>exact h
 |28,h=>exact h
 |29,h=>obtain⟨e,h1,d⟩:=h;exact⟨e,h1,lR d f⟩
 |30,h=>exact h
 |31,h=>exact h
 |32,h=>obtain⟨e,h1,d⟩:=h;exact⟨e,h1,lR d f⟩
 |33,h=>exact h
 |34,h=>exact h
 |35,h=>exact h
 |36,h=>exact h
 |37,h=>exact h
 |38,h=>exact h
 |39,h=>obtain⟨e,h1,d⟩:=h;exact⟨e,h1,lR d f⟩
 |40,h=>obtain⟨hs,h1,d⟩:=h;exact⟨hs,h1,d.below f⟩
 |41,h=>obtain⟨hs,b,h1,d,s,t⟩:=h;exact⟨hs,b,h1,d.below f,s,t.below f⟩
 |n+42,h=>trivial
def Cs(i:Nat):Bool:=[6,10,14,18,22,29,32,39].contains i
theorem wv.lt(W:World)(g n:Nat)(act:List Int)(i:Int)(k:List Bool)(A:Option Addr)(c:Nat)(l:Option Addr)(m:Nat)(o:Option Addr)(p q:Nat)(r:List mS):Cr (wv W g n act i k A c l m o p q r) Cs:=by
 intro j u w hm h b e;have s:j=6\/j=10\/j=14\/j=18\/j=22\/j=29\/j=32\/j=39:=by simpa[Cs] using hm
 rcases s with rfl|rfl|rfl|rfl|rfl|rfl|rfl|rfl
 ·obtain⟨f,rfl,d⟩:=h;exact(d.lt b e).2
 ·obtain⟨f,rfl,d⟩:=h;exact(d.lt b e).2
 ·obtain⟨f,rfl,d⟩:=h;exact(d.lt b e).2
 ·obtain⟨f,rfl,d⟩:=h;exact(d.lt b e).2
 ·obtain⟨f,rfl,d⟩:=h;exact(d.lt b e).2
 ·obtain⟨f,rfl,d⟩:=h;exact(d.lt b e).2
 ·obtain⟨f,rfl,d⟩:=h;exact(d.lt b e).2
 ·obtain⟨f,rfl,d⟩:=h;exact(d.lt b e).2
structure Hr(W:World)(gH n:Nat)(act:List Int)(aM:Int)(bl:List Bool)(A:Option Addr)(c:Nat)(bt:Option Addr)(bk:Nat)(aT:Option Addr)(aJ aY:Nat)(aA:List mS):Prop where
 c0:W.cell? ⟨gH,0,none⟩=some (.int .i64 (n:Int))
 c3:W.cell? ⟨gH,3,none⟩=some (.slice A (n+1) c)
 c5:W.cell? ⟨gH,5,none⟩=some (.int .i64 aM)
 c6:W.cell? ⟨gH,6,none⟩=some (.slice bt (n+1) bk)
 gZ:W.cell? ⟨gH,7,none⟩=some (.slice aT aJ aY)
 gR:gH<W.heap.size
 ND:aQ W A (n+1) c act
 NF:lB W bt (n+1) bk bl
 clip:∀w,Calls t_ 109 #[.slice aT aJ aY] w λ e w'=>e=.returned (.slice aT aJ aJ)/\w'=w
 wW:n<=60000
theorem NG(W:World)(k n:Nat)(act:List Int)(B:Int)(s:List Bool)(A:Option Addr)(c:Nat)(M:Option Addr)(N:Nat)(D:Option Addr)(t aC:Nat)(E:List mS)(C:Hr W k n act B s A c M N D t aC E):
  xA t_ [some 11,some 12,some 13,some 14,some 15,some 16,some 17,some 18,some 19,some 20,some 21,some 22,some 23,some 24,some 25,some 26,some 27,some 28,some 29,some 30,some 31,some 32,some 33,some 34,some 35,some 36,some 37,some 38,some 39,some 40,some 41,some 42,some 43,some 44,some 45,some 46,some 47,some 48,some 49,some 50,some 51,some 52,some 3] [[],[0],[],[2],[3],[4],[5,5],[],[7],[8],[9,9],[],[11],[12],[13,13],[],[15],[16],[17,17],[],[19],[20],[21],[],[23],[24],[],[26],[27],[28,28],[],[30],[31,22],[],[33],[34,32],[],[36],[37],[38,38],[1,6,10,14,18,22,25,29,32,35,39],[40],[41,35,0,1,2,3,4,5,6,7,8,9,10,11,12,13,14,15,16,17,18,19,20,21,22,23,24,25,26,27,28,29,30,31,32,33,34,35,36,37,38,39,40,41]] [(1,.pointer (some ⟨k,0,none⟩))] (λ w=>Below W.heap.size W w) (wv W k n act B s A c M N D t aC E) Cs 0 ((tu Tryz.f98 1).take 42):=by
 have q:=wv.mono W k n act B s A c M N D t aC E;have r:∀w w':World,Below W.heap.size W w->Below w.heap.size w w'->Below W.heap.size W w':=λ w w' f o=>f.trans (o.mono f.size)
 have bI:=C.wW;refine⟨?_,?_,?_,?_,?_,?_,?_,?_,?_,?_,?_,?_,?_,?_,?_,?_,?_,?_,?_,?_,?_,?_,?_,?_,?_,?_,?_,?_,?_,?_,?_,?_,?_,?_,?_,?_,?_,?_,?_,?_,?_,?_,trivial⟩
 ·intro vals w g f d j hp i;have l:g (.tmp 1)=_:=j.1 rfl;simp only[bn,execOp,l];simp[gF,go_sem];exact .same f rfl rfl
 ·intro vals w g f d j hp i;obtain⟨⟨f0,O⟩,-⟩:=(⟨d.1 rfl,d.2⟩:_/\_)
  have O:g (.tmp 11)=vals 0:=O _ rfl;have f0:vals 0=_:=f0 (v_ rfl);rw[f0] at O;have m:=(u_ (a:=⟨k,0,none⟩) (f.block k C.gR)).trans C.c0;simp only[bn,execOp,O];simp[gF,go_sem,m];exact .same f rfl rfl
 ·intro vals w g f d j hp i;have l:g (.tmp 1)=_:=j.1 rfl;simp only[bn,execOp,l];simp[gF,go_sem];exact .same f rfl rfl
 ·intro vals w g f d j hp i;obtain⟨⟨f2,P⟩,-⟩:=(⟨d.1 rfl,d.2⟩:_/\_)
  have P:g (.tmp 13)=vals 2:=P _ rfl;have f2:vals 2=_:=f2 (v_ rfl);rw[f2] at P;have m:=(u_ (a:=⟨k,0,none⟩) (f.block k C.gR)).trans C.c0;simp only[bn,execOp,P];simp[gF,go_sem,m];exact .same f rfl rfl
 ·intro vals w g f d j hp i;obtain⟨⟨f3,Q⟩,-⟩:=(⟨d.1 rfl,d.2⟩:_/\_)
  have Q:g (.tmp 14)=vals 3:=Q _ rfl;have f3:vals 3=_:=f3 (v_ rfl);rw[f3] at Q;have wn:g_.wrap (2*(n:Int))=2*(n:Int):=by rw[r_];omega
  simp only[bn,execOp,Q];simp[gF,go_sem,wn,hp.1];exact .same f rfl rfl
 ·intro vals w g f d j hp i;obtain⟨⟨f4,R⟩,-⟩:=(⟨d.1 rfl,d.2⟩:_/\_)
  have R:g (.tmp 15)=vals 4:=R _ rfl;have f4:vals 4=_:=f4 (v_ rfl);rw[f4] at R;have wn:g_.wrap (2*(n:Int)+2)=2*(n:Int)+2:=by rw[r_];omega
  simp only[bn,execOp,R];simp[gF,go_sem,wn,hp.1];exact .same f rfl rfl
 ·intro vals w g f d j hp i;obtain⟨⟨f5,F⟩,-⟩:=(⟨d.1 rfl,d.2⟩:_/\_)
  have F:g (.tmp 16)=vals 5:=F _ rfl;have f5:vals 5=_:=f5 (v_ rfl);rw[f5] at F;have p:=zk (w:=w) Ny Tryz.underlying158 rfl (2*n+2) (by omega) (by omega) W.heap.size f.size;rw[show(2*(n:Int)+2)=(((2*n+2):Nat):Int) by omega] at F;simp only[bn,execOp,Z0,Z3,Zw,F,p.1,gF];exact .more q (bK w _) (r w _ f (bK w _)) ⟨⟨_,_,_⟩,rfl,p.2⟩ (λ _ b o=>by have e:some w.heap.size=some b:=o;injection e with e;omega)
 ·intro vals w g f d j hp i;have l:g (.tmp 1)=_:=j.1 rfl;simp only[bn,execOp,l];simp[gF,go_sem];exact .same f rfl rfl
 ·intro vals w g f d j hp i;obtain⟨⟨f7,S⟩,-⟩:=(⟨d.1 rfl,d.2⟩:_/\_)
  have S:g (.tmp 18)=vals 7:=S _ rfl;have f7:vals 7=_:=f7 (v_ rfl);rw[f7] at S;have m:=(u_ (a:=⟨k,0,none⟩) (f.block k C.gR)).trans C.c0;simp only[bn,execOp,S];simp[gF,go_sem,m];exact .same f rfl rfl
 ·intro vals w g f d j hp i;obtain⟨⟨f8,T⟩,-⟩:=(⟨d.1 rfl,d.2⟩:_/\_)
  have T:g (.tmp 19)=vals 8:=T _ rfl;have f8:vals 8=_:=f8 (v_ rfl);rw[f8] at T;have wn:g_.wrap ((n:Int)+1)=(n:Int)+1:=by rw[r_];omega
  simp only[bn,execOp,T];simp[gF,go_sem,wn,hp.1];exact .same f rfl rfl
 ·intro vals w g f d j hp i;obtain⟨⟨f9,G⟩,-⟩:=(⟨d.1 rfl,d.2⟩:_/\_)
  have G:g (.tmp 20)=vals 9:=G _ rfl;have f9:vals 9=_:=f9 (v_ rfl);rw[f9] at G;have p:=zk (w:=w) Nz Tryz.underlying159 rfl (n+1) (by omega) (by omega) W.heap.size f.size;rw[show((n:Int)+1)=(((n+1):Nat):Int) by omega] at G;simp only[bn,execOp,Z0,Z3,Zw,G,p.1,gF];exact .more q (bK w _) (r w _ f (bK w _)) ⟨⟨_,_,_⟩,rfl,p.2⟩ (λ _ b o=>by have e:some w.heap.size=some b:=o;injection e with e;omega)
 ·intro vals w g f d j hp i;have l:g (.tmp 1)=_:=j.1 rfl;simp only[bn,execOp,l];simp[gF,go_sem];exact .same f rfl rfl
 ·intro vals w g f d j hp i;obtain⟨⟨f11,U⟩,-⟩:=(⟨d.1 rfl,d.2⟩:_/\_)
  have U:g (.tmp 22)=vals 11:=U _ rfl;have f11:vals 11=_:=f11 (v_ rfl);rw[f11] at U;have m:=(u_ (a:=⟨k,0,none⟩) (f.block k C.gR)).trans C.c0;simp only[bn,execOp,U];simp[gF,go_sem,m];exact .same f rfl rfl
 ·intro vals w g f d j hp i;obtain⟨⟨f12,V⟩,-⟩:=(⟨d.1 rfl,d.2⟩:_/\_)
  have V:g (.tmp 23)=vals 12:=V _ rfl;have f12:vals 12=_:=f12 (v_ rfl);rw[f12] at V;have wn:g_.wrap ((n:Int)+1)=(n:Int)+1:=by rw[r_];omega
  simp only[bn,execOp,V];simp[gF,go_sem,wn,hp.1];exact .same f rfl rfl
 ·intro vals w g f d j hp i;obtain⟨⟨f13,H⟩,-⟩:=(⟨d.1 rfl,d.2⟩:_/\_)
  have H:g (.tmp 24)=vals 13:=H _ rfl;have f13:vals 13=_:=f13 (v_ rfl);rw[f13] at H;have p:=zk (w:=w) zF Tryz.underlying25 rfl (n+1) (by omega) (by omega) W.heap.size f.size;rw[show((n:Int)+1)=(((n+1):Nat):Int) by omega] at H;simp only[bn,execOp,Z0,Z3,Zw,H,p.1,gF];exact .more q (bK w _) (r w _ f (bK w _)) ⟨⟨_,_,_⟩,rfl,p.2⟩ (λ _ b o=>by have e:some w.heap.size=some b:=o;injection e with e;omega)
 ·intro vals w g f d j hp i;have l:g (.tmp 1)=_:=j.1 rfl;simp only[bn,execOp,l];simp[gF,go_sem];exact .same f rfl rfl
 ·intro vals w g f d j hp i;obtain⟨⟨f15,X⟩,-⟩:=(⟨d.1 rfl,d.2⟩:_/\_)
  have X:g (.tmp 26)=vals 15:=X _ rfl;have f15:vals 15=_:=f15 (v_ rfl);rw[f15] at X;have m:=(u_ (a:=⟨k,0,none⟩) (f.block k C.gR)).trans C.c0;simp only[bn,execOp,X];simp[gF,go_sem,m];exact .same f rfl rfl
 ·intro vals w g f d j hp i;obtain⟨⟨f16,Y⟩,-⟩:=(⟨d.1 rfl,d.2⟩:_/\_)
  have Y:g (.tmp 27)=vals 16:=Y _ rfl;have f16:vals 16=_:=f16 (v_ rfl);rw[f16] at Y;have wn:g_.wrap ((n:Int)+1)=(n:Int)+1:=by rw[r_];omega
  simp only[bn,execOp,Y];simp[gF,go_sem,wn,hp.1];exact .same f rfl rfl
 ·intro vals w g f d j hp i;obtain⟨⟨f17,I⟩,-⟩:=(⟨d.1 rfl,d.2⟩:_/\_)
  have I:g (.tmp 28)=vals 17:=I _ rfl;have f17:vals 17=_:=f17 (v_ rfl);rw[f17] at I;have p:=zk (w:=w) NA Tryz.underlying160 rfl (n+1) (by omega) (by omega) W.heap.size f.size;rw[show((n:Int)+1)=(((n+1):Nat):Int) by omega] at I;simp only[bn,execOp,Z0,Z3,Zw,I,p.1,gF];exact .more q (bK w _) (r w _ f (bK w _)) ⟨⟨_,_,_⟩,rfl,p.2⟩ (λ _ b o=>by have e:some w.heap.size=some b:=o;injection e with e;omega)
 ·intro vals w g f d j hp i;have l:g (.tmp 1)=_:=j.1 rfl;simp only[bn,execOp,l];simp[gF,go_sem];exact .same f rfl rfl
 ·intro vals w g f d j hp i;obtain⟨⟨f19,Z⟩,-⟩:=(⟨d.1 rfl,d.2⟩:_/\_)
  have Z:g (.tmp 30)=vals 19:=Z _ rfl;have f19:vals 19=_:=f19 (v_ rfl);rw[f19] at Z;simp only[bn,execOp,Z];simp[gF,go_sem];exact .same f rfl rfl
 ·intro vals w g f d j hp i;obtain⟨⟨f20,aa⟩,-⟩:=(⟨d.1 rfl,d.2⟩:_/\_)
  have aa:g (.tmp 31)=vals 20:=aa _ rfl;have f20:vals 20=_:=f20 (v_ rfl);rw[f20] at aa;have m:=(u_ (a:=⟨k,3,none⟩) (f.block k C.gR)).trans C.c3;simp only[bn,execOp,aa];simp[gF,go_sem,m];exact .same f rfl rfl
 ·intro vals w g f d j hp i;obtain⟨⟨f21,ab⟩,-⟩:=(⟨d.1 rfl,d.2⟩:_/\_)
  have ab:g (.tmp 32)=vals 21:=ab _ rfl;have f21:vals 21=_:=f21 (v_ rfl);rw[f21] at ab;have J:=C.ND.below f;refine va 81 #[.tmp 32] #[25] rfl Ar hp ?_;simp only[Zj,Zr,Z6,ab];refine(w9 A (n+1) c act w J).mono ?_;rintro e w' ⟨aD,c2,rfl,u,o⟩;have hl:=J.len;rw[hl] at u⊢;refine⟨_,rfl,.more q o (r w w' f o) ⟨⟨aD,n+1,c2⟩,rfl,Hq u f.size⟩ (λ _ b e=>(u.lt b e).1)⟩
 ·intro vals w g f d j hp i;have l:g (.tmp 1)=_:=j.1 rfl;simp only[bn,execOp,l];simp[gF,go_sem];exact .same f rfl rfl
 ·intro vals w g f d j hp i;obtain⟨⟨f23,ad⟩,-⟩:=(⟨d.1 rfl,d.2⟩:_/\_)
  have ad:g (.tmp 34)=vals 23:=ad _ rfl;have f23:vals 23=_:=f23 (v_ rfl);rw[f23] at ad;simp only[bn,execOp,ad];simp[gF,go_sem];exact .same f rfl rfl
 ·intro vals w g f d j hp i;obtain⟨⟨f24,ae⟩,-⟩:=(⟨d.1 rfl,d.2⟩:_/\_)
  have ae:g (.tmp 35)=vals 24:=ae _ rfl;have f24:vals 24=_:=f24 (v_ rfl);rw[f24] at ae;have m:=(u_ (a:=⟨k,5,none⟩) (f.block k C.gR)).trans C.c5;simp only[bn,execOp,ae];simp[gF,go_sem,m];exact .same f rfl rfl
 ·intro vals w g f d j hp i;have l:g (.tmp 1)=_:=j.1 rfl;simp only[bn,execOp,l];simp[gF,go_sem];exact .same f rfl rfl
 ·intro vals w g f d j hp i;obtain⟨⟨f26,af⟩,-⟩:=(⟨d.1 rfl,d.2⟩:_/\_)
  have af:g (.tmp 37)=vals 26:=af _ rfl;have f26:vals 26=_:=f26 (v_ rfl);rw[f26] at af;have m:=(u_ (a:=⟨k,0,none⟩) (f.block k C.gR)).trans C.c0;simp only[bn,execOp,af];simp[gF,go_sem,m];exact .same f rfl rfl
 ·intro vals w g f d j hp i;obtain⟨⟨f27,ag⟩,-⟩:=(⟨d.1 rfl,d.2⟩:_/\_)
  have ag:g (.tmp 38)=vals 27:=ag _ rfl;have f27:vals 27=_:=f27 (v_ rfl);rw[f27] at ag;have wn:g_.wrap ((n:Int)+1)=(n:Int)+1:=by rw[r_];omega
  simp only[bn,execOp,ag];simp[gF,go_sem,wn,hp.1];exact .same f rfl rfl
 ·intro vals w g f d j hp i;obtain⟨⟨f28,K⟩,-⟩:=(⟨d.1 rfl,d.2⟩:_/\_)
  have K:g (.tmp 39)=vals 28:=K _ rfl;have f28:vals 28=_:=f28 (v_ rfl);rw[f28] at K;have p:=zk (w:=w) zF Tryz.underlying25 rfl (n+1) (by omega) (by omega) W.heap.size f.size;rw[show((n:Int)+1)=(((n+1):Nat):Int) by omega] at K;simp only[bn,execOp,Z0,Z3,Zw,K,p.1,gF];exact .more q (bK w _) (r w _ f (bK w _)) ⟨⟨_,_,_⟩,rfl,p.2⟩ (λ _ b o=>by have e:some w.heap.size=some b:=o;injection e with e;omega)
 ·intro vals w g f d j hp i;have l:g (.tmp 1)=_:=j.1 rfl;simp only[bn,execOp,l];simp[gF,go_sem];exact .same f rfl rfl
 ·intro vals w g f d j hp i;obtain⟨⟨f30,ah⟩,-⟩:=(⟨d.1 rfl,d.2⟩:_/\_)
  have ah:g (.tmp 41)=vals 30:=ah _ rfl;have f30:vals 30=_:=f30 (v_ rfl);rw[f30] at ah;have m:=(u_ (a:=⟨k,6,none⟩) (f.block k C.gR)).trans C.c6;simp only[bn,execOp,ah];simp[gF,go_sem,m];exact .same f rfl rfl
 ·intro vals w g f d j hp i;obtain⟨⟨f31,ai⟩,⟨f22,y⟩,-⟩:=(⟨d.1 rfl,d.2.1 rfl,d.2.2⟩:_/\_/\_)
  have ai:g (.tmp 42)=vals 31:=ai _ rfl;have f31:vals 31=_:=f31 (v_ rfl);rw[f31] at ai;have y:g (.tmp 33)=vals 22:=y _ rfl;have J:=C.NF.below f;refine va 106 #[.tmp 42] #[28] rfl Nw hp ?_;simp only[Zj,Zr,Z6,ai];refine(Hg M (n+1) N s w J).mono ?_;rintro e w' ⟨aD,c2,rfl,u,o⟩;have hl:=J.len;rw[hl] at u⊢;refine⟨_,rfl,.more q o (r w w' f o) ⟨⟨aD,n+1,c2⟩,rfl,Hq u f.size⟩ (λ _ b e=>(u.lt b e).1)⟩
 ·intro vals w g f d j hp i;have l:g (.tmp 1)=_:=j.1 rfl;simp only[bn,execOp,l];simp[gF,go_sem];exact .same f rfl rfl
 ·intro vals w g f d j hp i;obtain⟨⟨f33,aj⟩,-⟩:=(⟨d.1 rfl,d.2⟩:_/\_)
  have aj:g (.tmp 44)=vals 33:=aj _ rfl;have f33:vals 33=_:=f33 (v_ rfl);rw[f33] at aj;have m:=(u_ (a:=⟨k,7,none⟩) (f.block k C.gR)).trans C.gZ;simp only[bn,execOp,aj];simp[gF,go_sem,m];exact .same f rfl rfl
 ·intro vals w g f d j hp i;obtain⟨⟨f34,ak⟩,⟨f32,z⟩,-⟩:=(⟨d.1 rfl,d.2.1 rfl,d.2.2⟩:_/\_/\_)
  have ak:g (.tmp 45)=vals 34:=ak _ rfl;have f34:vals 34=_:=f34 (v_ rfl);rw[f34] at ak;have z:g (.tmp 43)=vals 32:=z _ rfl;refine va 109 #[.tmp 45] #[45] rfl Nx hp ?_;simp only[Zj,Zr,Z6,ak];refine(C.clip w).mono ?_;rintro e w' ⟨rfl,rfl⟩;exact⟨_,rfl,.same f rfl rfl⟩
 ·intro vals w g f d j hp i;have l:g (.tmp 1)=_:=j.1 rfl;simp only[bn,execOp,l];simp[gF,go_sem];exact .same f rfl rfl
 ·intro vals w g f d j hp i;obtain⟨⟨f36,al⟩,-⟩:=(⟨d.1 rfl,d.2⟩:_/\_)
  have al:g (.tmp 47)=vals 36:=al _ rfl;have f36:vals 36=_:=f36 (v_ rfl);rw[f36] at al;have m:=(u_ (a:=⟨k,0,none⟩) (f.block k C.gR)).trans C.c0;simp only[bn,execOp,al];simp[gF,go_sem,m];exact .same f rfl rfl
 ·intro vals w g f d j hp i;obtain⟨⟨f37,an⟩,-⟩:=(⟨d.1 rfl,d.2⟩:_/\_)
  have an:g (.tmp 48)=vals 37:=an _ rfl;have f37:vals 37=_:=f37 (v_ rfl);rw[f37] at an;have wn:g_.wrap ((n:Int)+1)=(n:Int)+1:=by rw[r_];omega
  simp only[bn,execOp,an];simp[gF,go_sem,wn,hp.1];exact .same f rfl rfl
 ·intro vals w g f d j hp i;obtain⟨⟨f38,L⟩,-⟩:=(⟨d.1 rfl,d.2⟩:_/\_)
  have L:g (.tmp 49)=vals 38:=L _ rfl;have f38:vals 38=_:=f38 (v_ rfl);rw[f38] at L;have p:=zk (w:=w) Aw Z8 rfl (n+1) (by omega) (by omega) W.heap.size f.size;rw[show((n:Int)+1)=(((n+1):Nat):Int) by omega] at L;simp only[bn,execOp,Z0,Z3,Zw,L,p.1,gF];exact .more q (bK w _) (r w _ f (bK w _)) ⟨⟨_,_,_⟩,rfl,p.2⟩ (λ _ b o=>by have e:some w.heap.size=some b:=o;injection e with e;omega)
 ·intro vals w g f d j hp i;obtain⟨⟨f1,ao⟩,⟨f6,ar⟩,⟨f10,au⟩,⟨f14,av⟩,⟨f18,aw⟩,⟨f22,y⟩,⟨f25,ax⟩,⟨f29,ay⟩,⟨f32,z⟩,⟨f35,az⟩,⟨f39,aA⟩,-⟩:=(⟨d.1 rfl,d.2.1 rfl,d.2.2.1 rfl,d.2.2.2.1 rfl,d.2.2.2.2.1 rfl,d.2.2.2.2.2.1 rfl,d.2.2.2.2.2.2.1 rfl,d.2.2.2.2.2.2.2.1 rfl,d.2.2.2.2.2.2.2.2.1 rfl,d.2.2.2.2.2.2.2.2.2.1 rfl,d.2.2.2.2.2.2.2.2.2.2.1 rfl,d.2.2.2.2.2.2.2.2.2.2.2⟩:_/\_/\_/\_/\_/\_/\_/\_/\_/\_/\_/\_)
  have ao:g (.tmp 12)=vals 1:=ao _ rfl;have f1:vals 1=_:=f1 (v_ rfl);rw[f1] at ao;have ar:g (.tmp 17)=vals 6:=ar _ rfl;have au:g (.tmp 21)=vals 10:=au _ rfl;have av:g (.tmp 25)=vals 14:=av _ rfl;have aw:g (.tmp 29)=vals 18:=aw _ rfl;have y:g (.tmp 33)=vals 22:=y _ rfl;have ax:g (.tmp 36)=vals 25:=ax _ rfl;have f25:vals 25=_:=f25 (v_ rfl);rw[f25] at ax;have ay:g (.tmp 40)=vals 29:=ay _ rfl;have z:g (.tmp 43)=vals 32:=z _ rfl;have az:g (.tmp 46)=vals 35:=az _ rfl;have f35:vals 35=_:=f35 (v_ rfl);rw[f35] at az;have aA:g (.tmp 50)=vals 39:=aA _ rfl;obtain⟨⟨aE,m6,aF⟩,f6,bA⟩:∃h:aq,vals 6=h.v/\w.ownsRow W.heap.size zP 1 h.v (2*n+2) (y_ (2*n+2) (f_ none 0 0)):=f6 (v_ rfl);replace f6:vals 6=.slice aE m6 aF:=f6;obtain⟨⟨aG,m10,k10⟩,f10,ko⟩:∃h:aq,vals 10=h.v/\w.ownsRow W.heap.size zQ 1 h.v (n+1) (y_ (n+1) (Zu .i8 0)):=f10 (v_ rfl);replace f10:vals 10=.slice aG m10 k10:=f10;obtain⟨⟨aH,m14,aI⟩,f14,bB⟩:∃h:aq,vals 14=h.v/\w.ownsRow W.heap.size 3 1 h.v (n+1) (y_ (n+1) (Zu .i64 0)):=f14 (v_ rfl);replace f14:vals 14=.slice aH m14 aI:=f14;obtain⟨⟨aJ,m18,aK⟩,f18,bC⟩:∃h:aq,vals 18=h.v/\w.ownsRow W.heap.size xO 1 h.v (n+1) (y_ (n+1) (ZV none)):=f18 (v_ rfl);replace f18:vals 18=.slice aJ m18 aK:=f18;obtain⟨⟨aL,m22,aM⟩,f22,bD⟩:∃h:aq,vals 22=h.v/\w.ownsRow W.heap.size 3 1 h.v (n+1) (gX act):=f22 (v_ rfl);replace f22:vals 22=.slice aL m22 aM:=f22;obtain⟨⟨aN,aP,aQ⟩,f29,bE⟩:∃h:aq,vals 29=h.v/\w.ownsRow W.heap.size 3 1 h.v (n+1) (y_ (n+1) (Zu .i64 0)):=f29 (v_ rfl);replace f29:vals 29=.slice aN aP aQ:=f29;obtain⟨⟨aR,m32,aS⟩,f32,bF⟩:∃h:aq,vals 32=h.v/\w.ownsRow W.heap.size 4 1 h.v (n+1) (nO s):=f32 (v_ rfl);replace f32:vals 32=.slice aR m32 aS:=f32;obtain⟨⟨aT,aU,aV⟩,f39,bG⟩:∃h:aq,vals 39=h.v/\w.ownsRow W.heap.size 4 1 h.v (n+1) (y_ (n+1) (Zx false)):=f39 (v_ rfl);replace f39:vals 39=.slice aT aU aV:=f39;rw[f6] at ar;rw[f10] at au;rw[f14] at av;rw[f18] at aw;rw[f22] at y;rw[f29] at ay;rw[f32] at z;rw[f39] at aA;have aW:=i 6 10 (by decide) rfl rfl rfl rfl;rw[f6,f10] at aW;have aX:=i 6 14 (by decide) rfl rfl rfl rfl;rw[f6,f14] at aX;have aY:=i 6 18 (by decide) rfl rfl rfl rfl;rw[f6,f18] at aY;have aZ:=i 6 22 (by decide) rfl rfl rfl rfl;rw[f6,f22] at aZ;have a6:=i 6 29 (by decide) rfl rfl rfl rfl;rw[f6,f29] at a6;have a7:=i 6 32 (by decide) rfl rfl rfl rfl;rw[f6,f32] at a7;have a8:=i 6 39 (by decide) rfl rfl rfl rfl;rw[f6,f39] at a8;have a':=i 10 14 (by decide) rfl rfl rfl rfl;rw[f10,f14] at a';have ba:=i 10 18 (by decide) rfl rfl rfl rfl;rw[f10,f18] at ba;have bb:=i 10 22 (by decide) rfl rfl rfl rfl;rw[f10,f22] at bb;have bc:=i 10 29 (by decide) rfl rfl rfl rfl;rw[f10,f29] at bc;have bd:=i 10 32 (by decide) rfl rfl rfl rfl;rw[f10,f32] at bd;have bf:=i 10 39 (by decide) rfl rfl rfl rfl;rw[f10,f39] at bf;have bg:=i 14 18 (by decide) rfl rfl rfl rfl;rw[f14,f18] at bg;have bh:=i 14 22 (by decide) rfl rfl rfl rfl;rw[f14,f22] at bh;have bj:=i 14 29 (by decide) rfl rfl rfl rfl;rw[f14,f29] at bj;have bk:=i 14 32 (by decide) rfl rfl rfl rfl;rw[f14,f32] at bk;have bl:=i 14 39 (by decide) rfl rfl rfl rfl;rw[f14,f39] at bl;have bo:=i 18 22 (by decide) rfl rfl rfl rfl;rw[f18,f22] at bo;have bp:=i 18 29 (by decide) rfl rfl rfl rfl;rw[f18,f29] at bp;have bq:=i 18 32 (by decide) rfl rfl rfl rfl;rw[f18,f32] at bq;have br:=i 18 39 (by decide) rfl rfl rfl rfl;rw[f18,f39] at br;have bs:=i 22 29 (by decide) rfl rfl rfl rfl;rw[f22,f29] at bs;have bt:=i 22 32 (by decide) rfl rfl rfl rfl;rw[f22,f32] at bt;have bu:=i 22 39 (by decide) rfl rfl rfl rfl;rw[f22,f39] at bu;have bw:=i 29 32 (by decide) rfl rfl rfl rfl;rw[f29,f32] at bw;have bx:=i 29 39 (by decide) rfl rfl rfl rfl;rw[f29,f39] at bx;have bz:=i 32 39 (by decide) rfl rfl rfl rfl;rw[f32,f39] at bz;simp only[bn,execOp,Zj,Zr,Z6,ao,ar,au,av,aw,y,ax,ay,z,az,aA];clear i d j q r;simp[gF,go_sem];exact .same f ⟨uN ⟨aE,m6,aF⟩ ⟨aG,m10,k10⟩ ⟨aH,m14,aI⟩ ⟨aJ,m18,aK⟩ ⟨aL,m22,aM⟩ ⟨aN,aP,aQ⟩ ⟨aR,m32,aS⟩ ⟨aT,aU,aV⟩,rfl,NC bA ko bB bC bD bE bF bG aW aX aY aZ a6 a7 a8 a' ba bb bc bd bf bg bh bj bk bl bo bp bq br bs bt bu bw bx bz⟩ rfl
 ·intro vals w g f d j hp i;obtain⟨⟨f40,aB⟩,-⟩:=(⟨d.1 rfl,d.2⟩:_/\_)
  have aB:g (.tmp 51)=vals 40:=aB _ rfl;obtain⟨hs,f40,bH⟩:∃hs,vals 40=.agg (rq hs (qA n act B s E ⟨D,t,t⟩)).toArray/\mg W.heap.size qY nU w hs (cont hs sD (qA n act B s E ⟨D,t,t⟩)):=f40 (v_ rfl);rw[f40] at aB;simp only[bn,execOp,aB];simp[gF,go_sem];exact .more q (bK w _) (r w _ f (bK w _)) ⟨hs,w.heap.size,rfl,aO.new w tj _,f.size,bH.below (bK w _)⟩ (λ h=>by cases h)
def wz(W:World)(G:Nat)(row:Option Nat)(b:Nat):Prop:=b<W.heap.size/\b≠G/\row≠some b
theorem j5.NH{w:World}{gw zR:List Value}{cls:Nat->List Value}{X:Nat->List Value}(h:j5 base W G hs cb gw cls n X){r:Nat}{h':aq}{ys:List Value}(f:aD (wz W G (hs r).b) W w)(s:aO w G tj zR)(t:w.ownsRow base (qY r) (nU r) h'.v h'.n ys)(c:h'.b=(hs r).b\/∀g,h'.b=some g->W.heap.size<=g):
  j5 base w G (iH hs r h') cb zR cls n (iH X r ys):=by
 have hk:∀r' g,r'≠r->(hs r').b=some g->wz W G (hs r).b g:=λ r' g i o=>⟨(h.rows.lt o).2,λ e=>h.uy r' g o e.symm,λ e=>h.rows.apart r' r g i o e⟩
 refine⟨s,⟨λ r'=>?_,λ k l g i h1=>?_⟩,λ d m=>f.blk (h.cls d m) ⟨(h.cls d m).lt,λ e=>h.De m e.symm,λ e=>h.xP m r _ e rfl⟩,h.inj,h.ru,h.rU⟩
 ·by_cases e:r'=r
  ·subst e;rw[jH,jH];exact t
  ·rw[aX _ _ e,aX _ _ e];refine mP (h.rows.row r') λ b u=>f.keep b (hk r' b e ?_)
   rw[<-aq.own];exact u
 ·by_cases p:k=r
  ·subst p;rw[jH] at h1;rw[aX _ _ (λ e=>i e.symm)];rcases c with c|c
   ·rw[c] at h1;exact h.rows.apart k l g i h1
   ·intro j;have:=c g h1;have:=(h.rows.lt j).2;omega
  ·rw[aX _ _ p] at h1
   by_cases q:l=r
   ·subst q;rw[jH];intro j;rcases c with c|c
    ·rw[c] at j;exact h.rows.apart k l g i h1 j
    ·have:=c g j;have:=(h.rows.lt h1).2;omega
   ·rw[aX _ _ q];exact h.rows.apart k l g i h1
theorem aQ.Hs{W w:World}{b c:Nat}(h:aQ w (some ⟨b,0,none⟩) n c ah)(d:w.heap.size<=w'.heap.size)(hk:w'.heap[b]? =w.heap[b]?):aQ w' (some ⟨b,0,none⟩) n c ah:=
 ⟨h.len,h.cap,h.mW,h.o6,λ f=>by
  obtain⟨g,off,e,h1,i⟩:=h.cells f;refine⟨g,off,e,o_ h1 d,λ j k=>?_⟩;injection e with e
  injection e with l m
  subst l m;exact(u_ (a:=⟨b,0+j,none⟩) hk).trans (i j k)⟩
theorem Ht{l:List α}{x:α}(h:l[k]? =some x):l.set k x=l:=by
 refine List.ext_getElem? λ j=>?_
 rw[List.getElem?_set];split
 ·rename_i e;subst e;have:=(Zn.1 h).1;rw[if_pos this,h]
 ·rfl
theorem wz.drop{w:World}(f:aD (wz W G row) W w)(c:Below w.heap.size w w'):aD (wz W G row) W w':=
 f.trans (aD.q3 c λ b c=>o_ c.1 f.size)
def zl(W:World)(base G:Nat)(L:List Value)(c:Option Addr)(n7 d g8 n8 e x:Nat)(i:Int)(xs:List Int)(j:Nat)(v:Value)(w:World):Prop:=
 match j with
 |0=>v=.pointer (some ⟨G,0,none⟩)
 |1=>v=.pointer (some ⟨G,0,none⟩)
 |2=>v=.pointer (some ⟨G,0,none⟩)
 |3=>v=.pointer (some ⟨G,11,none⟩)
 |4=>v=.slice (some ⟨g8,0,none⟩) n8 e
 |5=>v=.int .i64 (x:Int)
 |6=>v=.pointer (some ⟨G,0,none⟩)
 |7=>v=.pointer (some ⟨G,0,none⟩)
 |8=>v=.pointer (some ⟨G,10,none⟩)
 |9=>v=.slice c n7 d
 |10=>v=.int .i64 (x:Int)
 |11=>∃b,v=.slice (some ⟨b,0,none⟩) 1 1/\W.heap.size<=b/\aQ w (some ⟨b,0,none⟩) 1 1 [(x:Int)]
 |12=>∃h:aq,v=h.v/\w.ownsRow base 3 1 h.v (n7+1) (gX (xs++[(x:Int)]))/\(h.b=c.map (·.block)\/∀g,h.b=some g->W.heap.size<=g)/\aO w G tj L
 |13=>v=.int .i64 i
 |14=>v=.pointer (some ⟨G,0,none⟩)
 |15=>v=.pointer (some ⟨G,10,none⟩)
 |16=>∃h:aq,w.ownsRow base 3 1 h.v (n7+1) (gX (xs++[(x:Int)]))/\(h.b=c.map (·.block)\/∀g,h.b=some g->W.heap.size<=g)/\aO w G tj (L.set 10 h.v)
 |17=>v=.pointer (some ⟨g8,x,none⟩)
 |_=>True
theorem zl.mono(W:World)(base G:Nat)(L:List Value)(k:Option Addr)(n7 l g8 n8 m x:Nat)(i:Int)(xs:List Int)(j:Nat)(u:Value)(w w':World)(c:Below w.heap.size w w')(h:zl W base G L k n7 l g8 n8 m x i xs j u w):zl W base G L k n7 l g8 n8 m x i xs j u w':=by
 match j,h with
 |0,h=>exact h
 |1,h=>exact h
 |2,h=>exact h
 |3,h=>exact h
 |4,h=>exact h
 |5,h=>exact h
 |6,h=>exact h
 |7,h=>exact h
 |8,h=>exact h
 |9,h=>exact h
 |10,h=>exact h
 |11,h=>obtain⟨b,h1,d,e⟩:=h;exact⟨b,h1,d,e.below c⟩
 |12,h=>obtain⟨f,h1,d,e,g⟩:=h;exact⟨f,h1,lR d c,e,g.below c⟩
 |13,h=>exact h
 |14,h=>exact h
 |15,h=>exact h
 |16,h=>obtain⟨f,d,e,g⟩:=h;exact⟨f,lR d c,e,g.below c⟩
 |17,h=>exact h
 |n+18,h=>trivial
def Hu(j:Nat):Option Nat:=if j=12 then some 16 else none
structure Hv(W:World)(base G:Nat)(L:List Value)(iq:Option Addr)(n7 gZ g8 n8 pz x:Nat)(i:Int)(xs:List Int):Prop where
 l10:L[10]? =some (.slice iq n7 gZ)
 tA:L[11]? =some (.slice (some ⟨g8,0,none⟩) n8 pz)
 NI:x<n8
 wW:n8<=1000000
 NJ:n7<=1000000
 bp:base<=W.heap.size
 bu:G<W.heap.size
 row:∀g,iq.map (·.block)=some g->g<W.heap.size/\g≠G
def Ct(W:World)(G:Nat)(L:List Value)(b:Option Addr)(w:World):Prop:=aD (wz W G (b.map (·.block))) W w/\∃v,aO w G tj (L.set 10 v)
def Cu(base G:Nat)(L:List Value)(b:Option Addr)(n7 c:Nat)(xs:List Int)(w:World):Prop:=w.ownsRow base 3 1 (.slice b n7 c) n7 (gX xs)/\aO w G tj L
theorem NK(W:World)(base G:Nat)(L:List Value)(o:Option Addr)(n7 q g8 n8 V x:Nat)(i:Int)(xs:List Int)(C:Hv W base G L o n7 q g8 n8 V x i xs):
  uB t_ [some 62,some 63,some 64,some 65,some 66,some 67,some 68,some 69,some 70,some 71,some 72,some 73,some 74,some 75,some 76,some 77,none,some 78,none] [[],[],[1],[2],[3],[],[],[6],[7],[8],[],[10],[9,11],[],[0,0,4,6,7,8,9,10,11,12],[14,0,4,6,7,8,9,10,11,12],[15,12,12,0,4,6,7,8,9,10,11,12],[4,5,0,1,2,3,4,5,6,7,8,9,10,11,12,13,14,15,16],[17,13,16,0,1,2,3,4,5,6,7,8,9,10,11,12,13,14,15,16]] [(3,.pointer (some ⟨G,0,none⟩)),(5,.int .i64 (x:Int)),(4,.int .i64 i)] (Ct W G L o) (zl W base G L o n7 q g8 n8 V x i xs) Hu (Cu base G L o n7 q xs) 12 0 ((tu Tryz.f98 5).take 18):=by
 have ae:=zl.mono W base G L o n7 q g8 n8 V x i xs;have af:∀w w':World,Below w.heap.size w w'->Cu base G L o n7 q xs w->Cu base G L o n7 q xs w':=λ w w' p h=>⟨lR h.1 p,h.2.below p⟩
 have ag:∀w w':World,Ct W G L o w->Below w.heap.size w w'->Ct W G L o w':=λ w w' f p=>⟨wz.drop f.1 p,f.2.imp λ v h=>h.below p⟩
 refine⟨?_,?_,?_,?_,?_,?_,?_,?_,?_,?_,?_,?_,?_,?_,?_,?_,?_,?_,trivial⟩
 ·intro vals w j f m d l hp;have y:j (.tmp 3)=_:=l.1 rfl;simp only[bn,execOp,y];simp[gF,go_sem];exact .same f rfl
 ·intro vals w j f m d l hp;have y:j (.tmp 3)=_:=l.1 rfl;simp only[bn,execOp,y];simp[gF,go_sem];exact .same f rfl
 ·intro vals w j f m d l hp;obtain⟨⟨f1,B⟩,-⟩:=(⟨d.1 rfl,d.2⟩:_/\_)
  have B:j (.tmp 63)=vals 1:=B _ rfl;have f1:vals 1=_:=f1 (v_ rfl);rw[f1] at B;simp only[bn,execOp,B];simp[gF,go_sem];exact .same f rfl
 ·intro vals w j f m d l hp;obtain⟨⟨f2,D⟩,-⟩:=(⟨d.1 rfl,d.2⟩:_/\_)
  have D:j (.tmp 64)=vals 2:=D _ rfl;have f2:vals 2=_:=f2 (v_ rfl);rw[f2] at D;simp only[bn,execOp,D];simp[gF,go_sem];exact .same f rfl
 ·intro vals w j f m d l hp;obtain⟨⟨f3,E⟩,-⟩:=(⟨d.1 rfl,d.2⟩:_/\_)
  have E:j (.tmp 65)=vals 3:=E _ rfl;have f3:vals 3=_:=f3 (v_ rfl);rw[f3] at E;obtain⟨v0,ah⟩:=f.2;have z:=ah.cell 11;rw[List.getElem?_set_ne (by decide),C.tA] at z;simp only[bn,execOp,E];simp[gF,go_sem,z];exact .same f rfl
 ·intro vals w j f m d l hp;have X:j (.tmp 5)=_:=l.2.1 rfl;simp only[bn,execOp,X];simp[gF,go_sem];exact .same f rfl
 ·intro vals w j f m d l hp;have y:j (.tmp 3)=_:=l.1 rfl;simp only[bn,execOp,y];simp[gF,go_sem];exact .same f rfl
 ·intro vals w j f m d l hp;obtain⟨⟨f6,F⟩,-⟩:=(⟨d.1 rfl,d.2⟩:_/\_)
  have F:j (.tmp 68)=vals 6:=F _ rfl;have f6:vals 6=_:=f6 (v_ rfl);rw[f6] at F;simp only[bn,execOp,F];simp[gF,go_sem];exact .same f rfl
 ·intro vals w j f m d l hp;obtain⟨⟨f7,H⟩,-⟩:=(⟨d.1 rfl,d.2⟩:_/\_)
  have H:j (.tmp 69)=vals 7:=H _ rfl;have f7:vals 7=_:=f7 (v_ rfl);rw[f7] at H;simp only[bn,execOp,H];simp[gF,go_sem];exact .same f rfl
 ·intro vals w j f m d l hp;obtain⟨⟨f8,I⟩,-⟩:=(⟨d.1 rfl,d.2⟩:_/\_)
  have I:j (.tmp 70)=vals 8:=I _ rfl;have f8:vals 8=_:=f8 (v_ rfl);rw[f8] at I;have z:=(m (v_ rfl)).2.cell 10;rw[C.l10] at z;simp only[bn,execOp,I];simp[gF,go_sem,z];exact .same f rfl
 ·intro vals w j f m d l hp;have X:j (.tmp 5)=_:=l.2.1 rfl;simp only[bn,execOp,X];simp[gF,go_sem];exact .same f rfl
 ·intro vals w j f m d l hp;obtain⟨⟨f10,J⟩,-⟩:=(⟨d.1 rfl,d.2⟩:_/\_)
  have J:j (.tmp 72)=vals 10:=J _ rfl;have f10:vals 10=_:=f10 (v_ rfl);rw[f10] at J;simp only[bn,execOp,Zj,Zr,Z6,J];simp[gF,go_sem];exact .more ae af (bK w _) (ag w _ f (bK w _)) ⟨w.heap.size,rfl,f.1.size,aQ.lit w [(x:Int)] 1 _ rfl rfl (by omega)⟩
 ·intro vals w j f m d l hp;obtain⟨⟨f9,K⟩,⟨f11,M⟩,-⟩:=(⟨d.1 rfl,d.2.1 rfl,d.2.2⟩:_/\_/\_)
  have K:j (.tmp 71)=vals 9:=K _ rfl;have M:j (.tmp 73)=vals 11:=M _ rfl;have f9:vals 9=_:=f9 (v_ rfl);obtain⟨b,f11,r,t⟩:∃b,vals 11=.slice (some ⟨b,0,none⟩) 1 1/\W.heap.size<=b/\aQ w (some ⟨b,0,none⟩) 1 1 [(x:Int)]:=f11 (v_ rfl);rw[f9] at K;rw[f11] at M;have ar:=C.NJ;obtain⟨i1,i2⟩:=m (Or.inr rfl);obtain⟨v',w',g1,g2⟩:=zG w 25 base (.slice o n7 q) n7 xs i1 (some ⟨b,0,none⟩) 1 1 [(x:Int)] t (by omega) (Zl C.bp f.1.size);simp only[bn,execOp,resolve,invoke,builtin,Z0,Z3,Zw,Zj,Zr,Z6,K,M,g1,gF];obtain⟨h',ai,au⟩:=aq.lz g2.1;subst ai;have ab:(f_ o n7 q).ownBlock=o.map (·.block):=aq.own ⟨o,n7,q⟩;have A:=g2.2.1;rw[ab] at A;have c:aO w' G tj L:=i2.kept A (λ e=>(C.row G e.symm).2 rfl);refine⟨⟨f.1.trans (aD.grown A (λ b p=>o_ p.1 f.1.size) (λ b e hk=>hk.2.2 e)),.slice o n7 q,by rw[Ht C.l10];exact c⟩,⟨h',rfl,g2.1,?_,c⟩,λ k u hk _ s _ c=>?_,λ h _=>absurd rfl h⟩
  ·rcases g2.2.2 with Y|Y
   ·left;rw[<-aq.own,Y,ab]
   ·right;intro g e;rw[<-aq.own,Y] at e;injection e with e
    have:=f.1.size;omega
  ·match k,c,hk,s with
   |0,c,_,_=>exact c
   |1,c,_,_=>exact c
   |2,c,_,_=>exact c
   |3,c,_,_=>exact c
   |4,c,_,_=>exact c
   |5,c,_,_=>exact c
   |6,c,_,_=>exact c
   |7,c,_,_=>exact c
   |8,c,_,_=>exact c
   |9,c,_,_=>exact c
   |10,c,_,_=>exact c
   |11,c,_,_=>obtain⟨b,Z,aa,N⟩:=c;exact⟨b,Z,aa,N.Hs (W:=W) A.size (A.block b (by obtain⟨av,off,e,h1,r⟩:=N.cells (by omega);injection e with e;injection e with e;omega) (λ e=>by have:=(C.row b e.symm).1;omega))⟩
   |12,c,hk,_=>exact absurd rfl hk
   |13,c,_,_=>exact c
   |14,c,_,_=>exact c
   |15,c,_,_=>exact c
   |16,c,_,s=>exact absurd s (by decide)
   |17,c,_,_=>exact c
   |n+18,c,_,_=>trivial
 ·intro vals w j f m d l hp;have aj:j (.tmp 4)=_:=l.2.2.1 rfl;simp only[bn,execOp,aj];simp[gF,go_sem];exact .same f rfl
 ·intro vals w j f m d l hp;obtain⟨⟨f0,O⟩,-⟩:=(⟨d.1 rfl,d.2⟩:_/\_)
  have O:j (.tmp 62)=vals 0:=O _ rfl;have f0:vals 0=_:=f0 (v_ rfl);rw[f0] at O;simp only[bn,execOp,O];simp[gF,go_sem];exact .same f rfl
 ·intro vals w j f m d l hp;obtain⟨⟨f14,P⟩,-⟩:=(⟨d.1 rfl,d.2⟩:_/\_)
  have P:j (.tmp 76)=vals 14:=P _ rfl;have f14:vals 14=_:=f14 (v_ rfl);rw[f14] at P;simp only[bn,execOp,P];simp[gF,go_sem];exact .same f rfl
 ·intro vals w j f m d l hp;obtain⟨⟨f15,Q⟩,⟨f12,R⟩,-⟩:=(⟨d.1 rfl,d.2.1 rfl,d.2.2⟩:_/\_/\_)
  have Q:j (.tmp 77)=vals 15:=Q _ rfl;have R:j (.tmp 74)=vals 12:=R _ rfl;have f15:vals 15=_:=f15 (v_ rfl);obtain⟨⟨S,jJ,c9⟩,f12,h1,r,t⟩:∃h:aq,vals 12=h.v/\w.ownsRow base 3 1 h.v (n7+1) (gX (xs++[(x:Int)]))/\(h.b=o.map (·.block)\/∀g,h.b=some g->W.heap.size<=g)/\aO w G tj L:=f12 (Or.inr rfl);replace f12:vals 12=.slice S jJ c9:=f12;rw[f15] at Q;rw[f12] at R;have ad:=t.cell 10;rw[C.l10] at ad;have ak:=t.free 10;simp only[bn,execOp,Q,R];simp[gF,go_sem,ad,ak];have aw:=C.bu;have al:=kK w G 10 (.slice S jJ c9);refine⟨⟨f.1.trans (aD.set G 10 _ (λ hk=>hk.2.1 rfl)),.slice S jJ c9,t.set 10 _⟩,⟨⟨S,jJ,c9⟩,mP h1 (λ b p=>?_),r,t.set 10 _⟩,λ k u hk d s _ c=>?_,λ _ s _=>absurd s (by decide)⟩
  ·refine i_ _ _ _ _ (λ e=>?_);have e:G=b:=e.symm;subst e;rw[aq.own] at p;rcases r with r|r
   ·rw[r] at p;exact(C.row _ p).2 rfl
   ·have:=r _ p;omega
  ·match k,c,hk,d,s with
   |0,c,_,_,_=>exact c
   |1,c,_,_,_=>exact c
   |2,c,_,_,_=>exact c
   |3,c,_,_,_=>exact c
   |4,c,_,_,_=>exact c
   |5,c,_,_,_=>exact c
   |6,c,_,_,_=>exact c
   |7,c,_,_,_=>exact c
   |8,c,_,_,_=>exact c
   |9,c,_,_,_=>exact c
   |10,c,_,_,_=>exact c
   |11,c,_,_,_=>obtain⟨b,Z,aa,N⟩:=c;exact⟨b,Z,aa,N.Hs (W:=W) al.size (i_ _ _ _ _ (show b≠G by omega))⟩
   |12,c,_,d,_=>exact absurd rfl d
   |13,c,_,_,_=>exact c
   |14,c,_,_,_=>exact c
   |15,c,_,_,_=>exact c
   |16,c,hk,_,_=>exact absurd rfl hk
   |17,c,_,_,_=>exact c
   |n+18,c,_,_,_=>trivial
 ·intro vals w j f m d l hp;obtain⟨⟨f4,T⟩,⟨f5,U⟩,-⟩:=(⟨d.1 rfl,d.2.1 rfl,d.2.2⟩:_/\_/\_)
  have T:j (.tmp 66)=vals 4:=T _ rfl;have f4:vals 4=_:=f4 (v_ rfl);rw[f4] at T;have U:j (.tmp 67)=vals 5:=U _ rfl;have f5:vals 5=_:=f5 (v_ rfl);rw[f5] at U;have an:(x:Int)<(n8:Int):=by have:=C.NI;omega
  have ao:(0:Int)<=x:=by omega
  simp only[bn,execOp,T,U];simp[gF,go_sem,an,ao];exact .same f rfl
theorem aU.NL{w:World}(h:aU K base W G hs cb s){h':aq}{x:Int}
  (f:aD (wz W G (hs 7).b) W w) (i:aO w G tj ((rq hs s).set 10 h'.v)) (j:w.ownsRow base 3 1 h'.v (s.ord.length+1) (gX (s.ord++[x]))) (c:h'.b=(hs 7).b\/∀g,h'.b=some g->W.heap.size<=g):
  aU K base w G (iH hs 7 h') cb (s.vE x)/\aD K W w:=by
 have k:=wu j;have l:w.ownsRow base (qY 7) (nU 7) h'.v h'.n (gX (s.ord++[x])):=by rw[k];exact j
 have m:=h.e.NH (r:=7) f i l c;refine⟨⟨m.eq rfl rfl rfl (λ d _=>(vX hs s (by omega) _ d).symm) rfl (λ r=>?_),(h.s.iS (r:=7) (h':=h') (λ g e hk=>?_)).more f.size⟩,f.mono (λ b i=>⟨h.s.lt b i,λ e=>h.s.g (e▸i),λ e=>h.s.row 7 b e i⟩)⟩
 ·rw[vW hs cb _ (by omega)]
  by_cases e:r=7
  ·subst e;rw[jH];rfl
  ·rw[aX _ _ e];simp only[cont,if_neg e,aj.vE]
 ·rcases c with c|c
  ·exact h.s.row 7 g (c▸e) hk
  ·have:=c g e;have:=h.s.lt g hk;omega
def q9(n:Nat)(act:List Int)(b:Int)(c:List Bool)(d:List mS)(e:aq)(ord:List Int)(k:Nat):aj:=
 {qA n act b c d e with ord:=ord.take k,pl:=uK n ord k}
theorem NM(n:Nat)(act:List Int)(b:Int)(c:List Bool)(d:List mS)(e:aq)(ord:List Int)(k:Nat)(hk:k<ord.length):((q9 n act b c d e ord k).vE (ai ord k)).pV (ai ord k).toNat (k:Int)=q9 n act b c d e ord (k+1):=by
 unfold q9;rw[Cg,s9 ord k hk];rfl
end
section
theorem pq.take{c:Core}(h:pq c)(l:List Int)(b:Bool):pq (pO c l b):=by
 unfold pO;have e:pq (kj c l):=h.new l;have g:∀c':Core,pq c'->pq (wN c'):=λ c' h=>h
 split
 ·exact h
 ·split
  ·exact g _ h
  ·split
   ·split
    ·exact g _ e
    ·split
     ·refine e.set _ λ d f=>?_
      injection f with f
      subst f;show c.cl.length<(c.cl++[l]).length;simp
     ·exact e
   ·exact e
theorem Hw(s:aj)(l:List Int)(b:Bool)(x:si):s.c.cl.length<=(s.oJ l b x).c.cl.length/\(s.oJ l b x).c.cl.length<=s.c.cl.length+1:=by
 have e:(s.oJ l b x).c.cl=if b=true\/l.length=0 then s.c.cl else s.c.cl++[l]:=Bs _ _ _
 rw[e];split
 ·omega
 ·simp
theorem vh.oJ{F Fd:List (List Int)}{n:Nat}{s:aj}(h:vh s){l:List Int}{b:Bool}{x:si}(H:yQ F Fd n (s.oJ l b x)):vh (s.oJ l b x):=
 ⟨pq.take h.qK l b,λ k d c=>(H.gK.wt.qW k d c).1,λ d c=>o_ (h.wl d c) (Hw s l b x).1⟩
theorem pL.mem(h:g∈F):pL F g:=λ M b=>b.2 g h
theorem NN{b:List Int}(c:n<=65536)(d:∀x∈a,gU n x)(e:∀x∈b,gU n x)(h:xU (kY a) (kY b)):xU a b:=λ x=>by
 rw[<-Ch c d,<-Ch c e];exact h x
structure tH(n:Nat)(s:kF)(jl:aq)(j k:Nat)(S:aj):Prop where
 me:yQ s.gs (s.gs.take j++(s.es.take k).map (·.r.ah)) n S
 cb:vh S
 act:S.act=s.act
 aM:S.aM=s.aM
 ord:S.ord=s.ord
 pl:S.pl=uK n s.ord n
 bl:S.bl=s.bl
 aA:S.aA=s.aA.map n5
 aN:S.aN=y_ (n+1) false
 nl:S.nl=[]
 jl:S.jl=some jl
 kX:S.aI.length=k
 Hx:S.aI.map (ax S.c.cl)=(s.es.take k).map λ e=>kY e.r.ah
 wk:S.c.cl.length<=j+k
theorem tH.init{n:Nat}{s:kF}{jl:aq}(O:oy n s):tH n s jl 0 0 (q9 n s.act s.aM s.bl (s.aA.map n5) jl s.ord n):=by
 have c:∀v,ai (y_ (n+1) 0) v=0:=yP _;refine⟨⟨?_,rfl,rfl,rfl,c 0,rfl,λ d=>?_⟩,⟨λ v d b=>?_,λ k d b=>?_,λ d b=>(by cases b)⟩,rfl,rfl,?_,rfl,rfl,rfl,rfl,rfl,rfl,rfl,rfl,p_ _⟩
 ·exact kf.init s.gs n
 ·show 0<=(([]:List si).getD d ⟨false,0,0⟩).ac/\_;have e:∀d,lH (q9 n s.act s.aM s.bl (s.aA.map n5) jl s.ord n) d=⟨false,0,0⟩:=λ d=>by
   show([]:List si).getD d ⟨false,0,0⟩=_;rfl
  rw[e];unfold js;exact⟨ZQ _,by decide,ZQ _,by decide⟩
 ·have:mF (y_ (n+1) none) v=none:=by
   unfold mF;rw[e_,List.getElem?_replicate];split<;>rfl
  have b:mF (y_ (n+1) none) v=some d:=b;rw[this] at b;cases b
 ·have b:d∈ax (y_ (2*n+2) []) k:=b;rw[Bz] at b;cases b
 ·show s.ord.take n=s.ord;exact k_ (by rw[O.hk.pE];exact p_ _)
theorem tH.given{s:kF}(H:tH n s jl j 0 S)(O:oy n s)(c:n<=65536)(b:j<s.gs.length):tH n s jl (j+1) 0 (S.oJ (kY (oq s.gs j)) (sA (kY (oq s.gs j))) ⟨false,0,0⟩):=by
 have hm:oq s.gs j∈s.gs:=zC b;have h1:=H.me.take (G8 c (O.bu _ hm) (pL.mem hm)) (x:=⟨false,0,0⟩) (by unfold js;exact⟨ZQ _,by decide,ZQ _,by decide⟩);have e:s.gs.take j++(s.es.take 0).map (·.r.ah)++[oq s.gs j]=s.gs.take (j+1)++(s.es.take 0).map (·.r.ah):=by
  rw[AY _ _ b];simp
 rw[e] at h1;refine⟨h1,H.cb.oJ h1,H.act,H.aM,H.ord,H.pl,H.bl,H.aA,H.aN,H.nl,H.jl,H.kX,?_,by have:=(Hw S (kY (oq s.gs j)) (sA (kY (oq s.gs j))) ⟨false,0,0⟩).2;have:=H.wk;omega⟩;have d:S.aI=[]:=Zv H.kX;show S.aI.map _=_;rw[d];rfl
theorem tH.NO{s:kF}(H:tH n s jl j k S)(O:oy n s)(g:n<=65536)(hk:k<s.es.length):tH n s jl j (k+1) ((S.uX S.c.cl.length).oJ (kY s.es[k].r.ah) (sA (kY s.es[k].r.ah)) ⟨true,s.es[k].aR,s.es[k].ac⟩):=by
 have hm:s.es[k]∈s.es:=h_ hk;obtain⟨ok,aR,ac⟩:=O.wo _ hm;obtain⟨i,l⟩:=Ni g ok;have m:yQ s.gs (s.gs.take j++(s.es.take k).map (·.r.ah)) n (S.uX S.c.cl.length):=⟨H.me.gK,H.me.jh,H.me.st,H.me.ag,H.me.v0,H.me.nV,H.me.qa⟩
 have h1:=m.take (G8 g ok.lt (O.Eh _ hm)) (x:=⟨true,s.es[k].aR,s.es[k].ac⟩) ⟨ac.1,ac.2,aR.1,aR.2⟩;have e:s.gs.take j++(s.es.take k).map (·.r.ah)++[s.es[k].r.ah]=s.gs.take j++(s.es.take (k+1)).map (·.r.ah):=by
  rw[c_ hk,Zi,List.append_assoc];rfl
 rw[e] at h1;have b:=J7 (S.uX S.c.cl.length) (kY s.es[k].r.ah) ⟨true,s.es[k].aR,s.es[k].ac⟩ l H.me.nV;have hold:=λ d ag=>J6 (S.uX S.c.cl.length) (kY s.es[k].r.ah) false ⟨true,s.es[k].aR,s.es[k].ac⟩ (d:=d) ag H.me.nV
 rw[i] at h1⊢;have o:vh ((S.uX S.c.cl.length).oJ (kY s.es[k].r.ah) false ⟨true,s.es[k].aR,s.es[k].ac⟩):=by
  refine⟨pq.take H.cb.qK _ _,λ k d ag=>(h1.gK.wt.qW k d ag).1,λ d ag=>?_⟩;have ag:d∈S.aI++[S.c.cl.length]:=ag;have p:((S.uX S.c.cl.length).oJ (kY s.es[k].r.ah) false ⟨true,s.es[k].aR,s.es[k].ac⟩).c.cl.length=S.c.cl.length+1:=b.1;rcases Zt.1 ag with f|f
  ·have:=H.cb.wl d f;omega
  ·rw[Zg.1 f];omega
 refine⟨h1,o,H.act,H.aM,H.ord,H.pl,H.bl,H.aA,H.aN,H.nl,H.jl,?_,?_,?_⟩
 ·show(S.aI++[S.c.cl.length]).length=_;rw[Zh,H.kX];rfl
 ·show(S.aI++[S.c.cl.length]).map _=_;rw[Zi,c_ hk,Zi,<-H.Hx]
  congr 1
  ·refine List.map_congr_left λ d ag=>?_
   exact(hold d (H.cb.wl d ag)).1
  ·show [ax _ S.c.cl.length]=[kY s.es[k].r.ah]
   rw[show ax ((S.uX S.c.cl.length).oJ (kY s.es[k].r.ah) false ⟨true,s.es[k].aR,s.es[k].ac⟩).c.cl S.c.cl.length=kY s.es[k].r.ah from b.2.1]
 ·have p:((S.uX S.c.cl.length).oJ (kY s.es[k].r.ah) false ⟨true,s.es[k].aR,s.es[k].ac⟩).c.cl.length=S.c.cl.length+1:=b.1;have:=H.wk;omega
theorem tH.jX{s:kF}(H:tH n s jl s.gs.length s.es.length S)(O:oy n s)(k:n<=65536)(e:List Int):mw s.gs e n s.es.length S 0 S.c.ag:=by
 have T:=H.me.gK.aL;have f:=H.me.st;have hk:=O.hk;rw[H.me.ag];refine⟨⟨T,⟨H.me.gK.jK.mI,H.me.gK.jK.imp,λ g m=>H.me.gK.jK.tL g (by rw[k_ (p_ _)];exact Zt.2 (.inl m)),H.me.gK.jK.tM,H.me.gK.jK.tN⟩,H.me.gK.wt,H.me.gK.rP,H.me.gK.rQ,H.me.gK.cur,H.me.gK.hle⟩,?_,nI.low T f e,qs.zero f,λ v h1 i j=>?_,H.aN,?_,H.kX,λ l hl=>?_,H.me.v0,H.cb.qK⟩
 ·refine⟨H.me.jh,?_,by rw[H.act];exact hk.kM,λ v=>by rw[H.act];exact hk.pP v,by rw[H.act];exact hk.a0,by rw[H.aM];exact hk.gV.1,by rw[H.aM];exact hk.gV.2,by rw[H.bl];exact O.nB,by rw[H.bl];exact O.oT,H.me.nV,λ d=>?_,H.cb.wl⟩
  ·rw[H.ord,H.pl];exact hk.lT
  ·have:=H.me.qa d;refine⟨this.1,?_,this.2.2.1,this.2.2.2⟩;have q:=this.2.1;unfold js at*;omega
 ·rw[H.pl];exact Ee _ _ _ _
 ·rw[H.Hx,k_ (p_ _)];have h1:=O.Co;rw[List.pairwise_map] at h1⊢;refine(List.Pairwise.and_mem.1 h1).imp ?_;rintro a b ⟨o,p,i⟩ j;exact i (NN k (O.wo a o).1.lt (O.wo b p).1.lt j)
 ·rw[H.nl] at hl;cases hl
end
section
open Go.RowKit Go.Shelf
theorem nx.in{w:World}{c:Nat}(g:nx w A aJ c es)(l:Below w.heap.size w W)(m:∀b,A.map (·.block)=some b->0<aJ->K b)(n:S.jl=some ⟨A,aJ,aJ⟩)(k:S.aA=es.map n5)(t:A=none->aJ=0)(o:A≠none->∃b off,A=some ⟨b,off,none⟩):oV K W S:=by
 intro h i;rw[n] at i;injection i with i
 subst i;refine⟨by rw[k,s_];exact g.len.symm,rfl,?_⟩;rcases j_ aJ with d|d
 ·rcases Classical.em (A=none) with e|e
  ·exact .inl ⟨e,d⟩
  ·obtain⟨b,off,he⟩:=o e;refine .inr ⟨b,off,he,λ h=>by have h:0<aJ:=h;omega,λ j u f=>?_⟩;have:es=[]:=Zv (by rw[g.len];exact d);rw[k,this] at f;simp[mq] at f
 ·obtain⟨b,off,e,q,r⟩:=g.cells d;refine .inr ⟨b,off,e,λ d=>m b (by rw[e];rfl) d,λ j u f=>?_⟩;rw[k,Hj] at f;have s:j<aJ*2:=by
   have:=(Zn.1 f).1;rw[yb,g.len] at this;exact this
  exact(l.cell (p:=⟨b,off+j,none⟩) q).trans ((r j s).trans f)
theorem nx.lines{w:World}{c:Nat}(d:nx w A aJ c es)(f:Below w.heap.size w W)(g:∀e∈es,∀b,e.r.A.map (·.block)=some b->0<e.r.n->K b){F:List (List Int)}(i:∀p∈es,uG F n p.iM p.r.ah):∀p∈es.map n5,qf K W n F p:=by
 intro p hp;obtain⟨e,he,rfl⟩:=Zc.1 hp;have j:=d.rows e he;exact⟨⟨e.r.ah,j.below f,i e he⟩,λ b k l=>g e he b k l⟩
def yc(w W:World)(A:Option Addr)(b c:Nat)(es:List mc):Prop:=(b=c\/W.ownsRow w.heap.size 126 2 (.slice A b c) b (ni es))/\(A=none->b=0/\c=0)
structure AG(w:World)(s:kF)(gJ:Option Addr)(cl:Nat)(A:Option Addr)(c:Nat)(A':Option Addr)(c':Nat)(bt:Option Addr)(bk:Nat):Prop where
 es:qP w gJ s.es.length cl s.es
 act:aQ w A s.act.length c s.act
 ord:aQ w A' s.ord.length c' s.ord
 bl:lB w bt s.bl.length bk s.bl
 rows:∀e∈s.aA,aQ w e.r.A e.r.n e.r.c e.r.ah
def Cv(nR:Nat->Prop)(c:Option Addr)(d e b:Nat):Prop:=nR b/\(d≠e->c.map (·.block)≠some b)
theorem Hy{kH:Option Addr}{kS:Nat}(P:oV K W S)(c:oc hs S=.slice kH aJ kS)(g:aJ≠kS):(hs 11).b=kH.map (·.block):=by
 have d:(hs 11).v=.slice kH aJ kS:=by
  rw[<-c];unfold oc
  cases e:S.jl with
  |none=>rfl
  |some h=>
   exfalso;obtain⟨h1,i,_⟩:=P h e;have f:oc hs S=h.v:=by unfold oc;rw[e]
   rw[f] at c;unfold aq.v at c;injection c with d1 d2 d3
   omega
 unfold aq.v at d;injection d with d1
 unfold aq.b;rw[d1]
theorem NP{nR:Nat->Prop}{w ko:World}{s:kF}{aS:Nat}{c:Nat}{es:List lE}{iq:Option Addr}{gZ:Nat}
  (ak:∀W,aD nR ko W->∀e∈s.aA,aQ W e.r.A e.r.n e.r.c e.r.ah) (O:oy n s) (y:n<=10) (al:w.heap.size<=base) (E:∀W,aD nR ko W->aU K base W G hs cb S) (j:mw s.gs aC n gx S aV h) (X:∀W,aD nR ko W->qP W A es.length c es) (Y:es.length=S.aI.length) (N:∀(i:Nat)(h:i<es.length),Ce S i es[i]) (Z:∀W,aD nR ko W->aQ W iq n gZ ((pJ S.act (n4 n)).map (·.1)))
  (an:∀r b,(hs r).b=some b->nR b) (aa:∀q,(hs 11).b=some q->∀W,aD (λ b=>nR b/\b≠q) ko W->qP W A es.length c es/\aQ W iq n gZ ((pJ S.act (n4 n)).map (·.1))) (ao:∀p∈S.aA,∀b,p.h.b=some b->0<p.h.n->∀r,(hs r).b≠some b)
  (P:∀W,aD nR ko W->oV K W S) (L:∀p∈S.aA,qf nR ko n s.gs p) (ar:s.aA.map n5<+:S.aA) (aK:S.aA.length<=1099511627776) (au:gx=s.es.length):
  ∃(s':kF)(Q:Option Addr)(c6:Nat)(R:Option Addr)(c9:Nat)(k:Option Addr)(m:Nat),(hs 6).v=.slice Q (n+1) c6/\(hs 9).v=.slice R (n+1) c9/\oc hs S=.slice k s'.aA.length m/\s'.aM=S.aM/\s'.es=es/\s'.gs=s.gs/\oy n s'/\s'.es.length=s.es.length+aV/\s.aA<+:s'.aA/\s'.aA.length=S.aA.length/\(k≠none->∃b off,k=some ⟨b,off,none⟩)/\(∀W,aD nR ko W->(lF W bh s.gs.length aS s.gs->pT W s' bh aS A c Q c6 iq gZ R c9 k m)/\yc w W k s'.aA.length m s'.aA)/\
   ∀W,aD (Cv nR k s'.aA.length m) ko W->AG W s' A c Q c6 iq gZ R c9:=by
 obtain⟨rest,ab⟩:=ar;obtain⟨l,av,o⟩:=Hl (K:=nR) (w:=ko) (n:=n) (F:=s.gs) rest (λ p hp=>L p (by rw[<-ab];exact Zt.2 (.inr hp)));have z:(s.aA++l).map n5=S.aA:=by rw[Zi,av,ab]
 have hlen:(s.aA++l).length=S.aA.length:=by rw[<-z,s_]
 have H:∀W,aD nR ko W->∀e∈s.aA++l,aQ W e.r.A e.r.n e.r.c e.r.ah:=λ W d e he=>by
  rcases Zt.1 he with h1|h1
  ·exact ak W d e h1
  ·exact(o e h1).2.iP d (λ b g y=>(L (n5 e) (by rw[<-z];exact List.mem_map_of_mem he)).blk b g y)
 obtain⟨k,m,T,_,_,_,aw⟩:=(E ko aD.refl).Ho (P ko aD.refl) z (H ko aD.refl) (by omega);have ad:∀W,aD nR ko W->nx W k (s.aA++l).length m (s.aA++l)/\yc w W k (s.aA++l).length m (s.aA++l):=λ W d=>by
  obtain⟨aL,aN,ae,ay,az,aB,_⟩:=(E W d).Ho (P W d) z (H W d) (by omega);rw[T] at ae;injection ae with d1 d2 d3
  subst d1 d3;exact⟨ay,⟨az.imp id (λ h=>yK h al),aB⟩⟩
 have U:=E ko aD.refl;have t:=j.rg.kM;obtain⟨a1,_⟩:=U.Hh (by omega);have a2:=λ W d=>((E W d).Hh (by omega)).2
 have u:=j.rg.nB;obtain⟨af,_⟩:=U.Hi (by omega);have I:=λ W d=>((E W d).Hi (by omega)).2
 rw[t] at a1;simp only[t] at a2;rw[u] at af;simp only[u] at I;have aE:S.c.n=n:=j.rg.jh;have J:q8 n S.act ((pJ S.act (n4 n)).map (·.1)) S.aM:=q8.sorted t j.rg.a0 j.rg.pP ⟨j.rg.rC,j.rg.oS⟩ (by omega);have aF:es.map (·.r.ah)=S.aI.map (ax S.c.cl):=by
  refine List.ext_getElem (by rw[s_,s_,Y]) λ i h1 M=>?_
  rw[s_] at h1 M;rw[d_,d_,(N i h1).1,vA M]
 have ag:∀i (h:i<es.length),gQ S.aI i<S.c.cl.length:=λ i h=>j.rg.kX _ (by rw[vA (by omega)];exact h_ _)
 refine⟨⟨n,s.gs,es,S.act,(pJ S.act (n4 n)).map (·.1),S.aM,S.bl,s.aA++l⟩,_,_,_,_,k,m,a1,af,T,rfl,rfl,rfl,⟨rfl,O.g1,O.bu,J,u,j.rg.oT,λ e he=>?_,λ e he=>?_,?_,λ p hp=>?_⟩,by show es.length=_;rw[Y,j.pE,au],List.prefix_append _ _,hlen,aw,λ W d=>⟨λ aG=>⟨aG,X W d,by show aQ W _ S.act.length _ S.act;rw[t];exact a2 W d,by show aQ W _ ((pJ S.act (n4 n)).map (·.1)).length _ _;rw[J.pE];exact Z W d,by show lB W _ S.bl.length _ S.bl;rw[u];exact I W d,(ad W d).1⟩,(ad W d).2⟩,λ W d=>?_⟩
 ·obtain⟨i,B,rfl⟩:=Zo.1 he;obtain⟨h1,M,aH⟩:=N i B;have C:=j.gK.jK.mI _ (ag i B);rw[aE] at C;have g:=j.rg.qa (gQ S.aI i);rw[h1,M,aH];refine⟨C,⟨g.2.2.1,g.2.2.2⟩,?_⟩;have aO:=g.1;unfold js at*;omega
 ·obtain⟨i,B,rfl⟩:=Zo.1 he;rw[(N i B).1];exact j.gK.jK.imp _ (ag i B)
 ·show(es.map (·.r.ah)).Pairwise _;rw[aF];exact j.wX
 ·rcases Zt.1 hp with h1|h1
  ·exact O.xz p h1
  ·exact(o p h1).1
 ·have all:aD nR ko W->AG W ⟨n,s.gs,es,S.act,(pJ S.act (n4 n)).map (·.1),S.aM,S.bl,s.aA++l⟩ A c (hs 6).A (hs 6).c iq gZ (hs 9).A (hs 9).c:=λ d=>
   ⟨X W d,by show aQ W _ S.act.length _ S.act;rw[t];exact a2 W d,by show aQ W _ ((pJ S.act (n4 n)).map (·.1)).length _ _;rw[J.pE];exact Z W d,by show lB W _ S.bl.length _ S.bl;rw[u];exact I W d,H W d⟩
  by_cases C:(s.aA++l).length=m
  ·exact all (d.mono λ b g=>⟨g,λ h=>absurd C h⟩)
  ·have D:=Hy (P ko aD.refl) T C
   cases V:k.map (·.block) with
   |none=>exact all (d.mono λ b g=>⟨g,λ _ e=>by rw[V] at e;cases e⟩)
   |some q=>
    rw[V] at D;have f:aD (λ b=>nR b/\b≠q) ko W:=d.mono λ b g=>⟨g.1,λ _ e=>by rw[V] at e;injection e with e;exact g.2 e.symm⟩
    have ai:∀r,r≠11->∀b,(hs r).b=some b->nR b/\b≠q:=λ r aJ b e=>⟨an r b e,λ o=>U.e.rows.apart r 11 b aJ e (by rw[D,o])⟩
    refine⟨(aa q D W f).1,?_,?_,?_,λ e he=>?_⟩
    ·show aQ W _ S.act.length _ S.act;rw[t];exact(a2 ko aD.refl).iP f (λ b e _=>ai 6 (by decide) b e)
    ·show aQ W _ ((pJ S.act (n4 n)).map (·.1)).length _ _;rw[J.pE];exact(aa q D W f).2
    ·show lB W _ S.bl.length _ S.bl;rw[u];exact(I ko aD.refl).iP f (λ b e=>ai 9 (by decide) b e)
    ·have hm:n5 e∈S.aA:=by rw[<-z];exact List.mem_map_of_mem he
     exact(H ko aD.refl e he).iP f (λ b g y=>⟨(L (n5 e) hm).blk b g y,λ o=>ao (n5 e) hm b g y 11 (by rw[D,o])⟩)
end
section
open Go.RowKit Go.Shelf
def s4:List Value:=[.int .i64 0,.slice none 0 0,.slice none 0 0,.int .i64 0]
def s5(W:World)(z:Nat):Prop:=∃t cs,aO W z t cs/\∀u∈cs,u=.int .i64 0\/u=.slice none 0 0
theorem s5.int{W:World}{z off:Nat}{x:Int}(h:s5 W z)(b:W.cell? ⟨z,off,none⟩=some (.int .i64 x)):x=0:=by
 obtain⟨t,cs,c,d⟩:=h;rw[c.cell off] at b;rcases d _ (ZN b) with e|e
 ·injection e
 ·cases e
theorem s5.bool{W:World}{z off:Nat}{x:Bool}(h:s5 W z)(b:W.cell? ⟨z,off,none⟩=some (.bool x)):False:=by
 obtain⟨t,cs,c,d⟩:=h;rw[c.cell off] at b;rcases d _ (ZN b) with e|e<;>cases e
theorem aQ.lt{w:World}{c:Nat}(h:aQ w A n c ah):∀b,A.map (·.block)=some b->0<n->b<w.heap.size:=λ b e d=>by
 obtain⟨g,off,f,h1,_⟩:=h.cells d;rw[f] at e;injection e with e
 exact e▸h1
theorem nx.lt{w:World}{c:Nat}(h:nx w A n c es):∀b,A.map (·.block)=some b->0<n->b<w.heap.size:=λ b e d=>by
 obtain⟨g,off,f,h1,_⟩:=h.cells d;rw[f] at e;injection e with e
 exact e▸h1
theorem aQ.yd{c:Nat}(h:aQ W A n c ah)(f:∀x∈ah,x≠0)(g:s5 W z):∀b,A.map (·.block)=some b->0<n->b≠z:=by
 intro b e d i;obtain⟨j,off,k,h1,l⟩:=h.cells d;rw[k] at e;injection e with e
 have e:j=b:=e;subst e i;exact f _ (vM (by rw[h.len];exact d)) (g.int (l 0 d))
theorem lB.yd{c:Nat}{ah:List Bool}(h:lB W A n c ah)(f:s5 W z)(d:0<n):∀b,A.map (·.block)=some b->b≠z:=by
 intro b e g;obtain⟨i,off,j,h1,k⟩:=h.cells d;rw[j] at e;injection e with e
 have e:i=b:=e;subst e g;exact f.bool (k 0 d)
variable {K:Nat->Prop}{W W':World}{lJ z2:Nat}
def qd(K:Nat->Prop)(lJ z2 b:Nat):Prop:=K b/\b≠lJ/\b≠z2
theorem oV.off{S:aj}(h:oV K W S)(hl:∀p∈S.aA,p.iM=1\/p.iM=2\/p.iM=3)(h1:s5 W lJ)(k:s5 W z2)(f:aD (qd K lJ z2) W W'):oV K W' S:=by
 intro d l;obtain⟨a1,a2,a3⟩:=h d l;refine⟨a1,a2,a3.imp id ?_⟩;rintro⟨b,off,e,hk,g⟩;refine⟨b,off,e,hk,λ j u c=>?_⟩;obtain⟨p,rest,hp⟩:∃p rest,S.aA=p::rest:=by
  cases m:S.aA with
  |nil=>rw[m] at c;simp[mq] at c
  |cons p rest=>exact⟨p,rest,rfl⟩
 have o:=g 0 (.int .i64 p.iM) (by rw[hp];rfl);have t:=hl p (by rw[hp];simp);have i:∀z,s5 W z->b≠z:=λ z q r=>by
  subst r;have:=q.int o;omega
 have s:0<d.n:=by rw[a1,hp];simp
 rw[f.cell (p:=⟨b,off+j,none⟩) ⟨hk s,i lJ h1,i z2 k⟩];exact g j u c
theorem qP.Hz{w w':World}{A:Option Addr}{n c:Nat}{es:List lE}(h:qP w A n c es)(f:aD K w w')(l:∀b,b<w.heap.size->A.map (·.block)=some b->K b)(he:∀e∈es,∀b,b<w.heap.size->e.r.A.map (·.block)=some b->K b):qP w' A n c es:=
 ⟨h.len,h.cap,h.mW,h.o6,λ d=>by
  obtain⟨b,off,e,i,m⟩:=h.cells d;refine⟨b,off,e,o_ i f.size,λ k hk=>?_⟩;rw[f.cell (p:=⟨b,off+k,none⟩) (l b i (by rw[e];rfl))];exact m k hk,λ e g=>(h.rows e g).iP f (λ b j d=>he e g b ((h.rows e g).lt b j d) j)⟩
theorem qf.NQ{n:Nat}{F:List (List Int)}{p:mS}(h:qf K W n F p)(h1:s5 W lJ)(i:s5 W z2):qf (λ b=>b<W.heap.size/\qd K lJ z2 b) W n F p:=by
 obtain⟨j,c,f⟩:=h.rd;exact⟨⟨j,c,f⟩,λ b e d=>⟨c.lt b e d,h.blk b e d,c.yd (λ x g=>(f.2 x g).oQ) h1 b e d,c.yd (λ x g=>(f.2 x g).oQ) i b e d⟩⟩
theorem oG.NR{F:List (List Int)}{aC:List Int}{n aZ aV:Nat}{kind:Int}{kn:Option Addr}{jT j3:Nat}{j7:Option Addr}{jC gL:Nat}(a:oG K W F aC n aZ aV kind kn jT j3 j7 jC gL)(hl:∀x∈aC,gU n x)(k:s5 W lJ)(l:s5 W z2)(f:aD (λ b=>b<W.heap.size/\qd K lJ z2 b) W W'):oG (λ _=>True) W' F aC n aZ aV kind kn jT j3 j7 jC gL:=by
 rcases a with⟨h1,g,m,c,i,d⟩|⟨h1,g,co,c,i,d⟩|h1
 ·have hp:0<jT:=by have:=c.len;omega
  refine .inl ⟨h1,g,m,c.iP f (λ b e=>⟨?_,i b e,c.yd k hp b e,c.yd l hp b e⟩),λ _ _=>trivial,d⟩;obtain⟨s,off,p,q,_⟩:=c.cells hp;rw[p] at e;injection e with e
  exact e▸q
 ·have o:∀x∈co,x≠0:=λ x r=>(hl x (d.1.subset r)).oQ
  exact .inr (.inl ⟨h1,g,co,c.iP f (λ b e j=>⟨c.lt b e j,i b e,c.yd o k b e j,c.yd o l b e j⟩),λ _ _=>trivial,d⟩)
 ·exact .inr (.inr h1)
noncomputable def ye(w:World)(D:Nat->Prop):World:={w with heap:=w.heap.mapIdx λ i o=>open Classical in if D i then .map #[] 0 else o}
theorem Ej(w:World)(D:Nat->Prop):aD (λ b=>b<w.heap.size/\¬D b) w (ye w D):=
 ⟨rfl,rfl,rfl,by simp[ye],λ b c=>by
  show(w.heap.mapIdx _)[b]? =_;rw[ZO];rw[Z5 c.1];simp[c.2]⟩
theorem Ek{w:World}{D:Nat->Prop}{b:Nat}(d:D b)(off:Nat):(ye w D).cell? ⟨b,off,none⟩=none:=by
 unfold World.cell?;have:(ye w D).heap[b]? =(w.heap[b]?).map λ _=>.map #[] 0:=by
  show(w.heap.mapIdx _)[b]? =_;rw[ZO];simp[d]
 show(match (ye w D).heap[b]? with|some (.cells c _ _)=>_|_=>none)=none;rw[this]
 cases w.heap[b]? <;>rfl
theorem aQ.zm{w:World}{D:Nat->Prop}{A:Option Addr}{n c:Nat}{ah:List Int}(h:aQ (ye w D) A n c ah):∀b,A.map (·.block)=some b->0<n->¬D b:=λ b e d f=>by
 obtain⟨g,off,i,_,j⟩:=h.cells d;rw[i] at e;injection e with e
 have e:g=b:=e;subst e;have:=j 0 d;rw[Ek f] at this
 cases this
theorem nx.zm{w:World}{D:Nat->Prop}{A:Option Addr}{n c:Nat}{es:List mc}(h:nx (ye w D) A n c es):∀b,A.map (·.block)=some b->0<n->¬D b:=λ b e d f=>by
 obtain⟨g,off,i,_,j⟩:=h.cells d;rw[i] at e;injection e with e
 have e:g=b:=e;subst e;have:=j 0 (by omega);rw[Ek f] at this;have hl:=h.len
 cases es with
 |nil=>simp at hl;omega
 |cons p rest=>simp[ni,r6] at this
def HA(w:World)(D:Nat->Prop)(s:kF)(bh:Option Addr)(aS:Nat)(d:Option Addr)(cl:Nat)(A:Option Addr)(c:Nat)(A':Option Addr)(c':Nat)(e:Option Addr)(f:Nat)(g:Option Addr)(i:Nat):Prop:=
 ∀W,aD (λ b=>b<w.heap.size/\¬D b) w W->pT W s bh aS d cl A c A' c' e f g i
theorem aU.four{base aW:Nat}{G:Nat}{hs:Nat->aq}{cb:Nat->Nat}{s:aj}(h:aU K base W G hs cb s)(hk:K aW)(v0 v1 v2 v3:Value):aU K base ((((W.setCell ⟨aW,0,none⟩ v0).setCell ⟨aW,1,none⟩ v1).setCell ⟨aW,2,none⟩ v2).setCell ⟨aW,3,none⟩ v3) G hs cb s:=
 (((h.vi hk 0 v0).vi hk 1 v1).vi hk 2 v2).vi hk 3 v3
theorem aD.four{aW:Nat}(v0 v1 v2 v3:Value)(b:¬K aW):aD K W ((((W.setCell ⟨aW,0,none⟩ v0).setCell ⟨aW,1,none⟩ v1).setCell ⟨aW,2,none⟩ v2).setCell ⟨aW,3,none⟩ v3):=
 (((aD.set aW 0 v0 b).trans (aD.set aW 1 v1 b)).trans (aD.set aW 2 v2 b)).trans (aD.set aW 3 v3 b)
end
section
open Go.RowKit Go.Shelf
theorem HB{aP:Ending->World->Prop}{a:Act}{bg gd:Nat}{v0 v1 v2 v3 v4 v5 v6 oC rM j8 lZ gA:Value}{lg:Int}(t:a.defers=[])(d:a.tmps.getD 6 undef=.pointer (some ⟨bg,0,none⟩))(e:a.tmps.getD 7 undef=.pointer (some ⟨gd,0,none⟩))(f:a.tmps.getD 8 undef=.int .i64 lg)
  (b:aO W bg 47 [v0,v1,v2,v3,v4,v5,v6,oC]) (c:aO W gd 30 [rM,j8,lZ,gA]) (h:aP (.returned (.tuple #[.agg #[v0,v1,v2,v3,v4,v5,v6,oC],.agg #[rM,j8,lZ,gA],.int .i64 lg])) W):bodyPost t_ Tryz.f36 aP .ret a W:=by
 have g:=b.cell 0;have i:=b.cell 1;have j:=b.cell 2;have k:=b.cell 3;have l:=b.cell 4;have m:=b.cell 5;have n:=b.cell 6;have o:=b.cell 7;have p:=c.cell 0;have q:=c.cell 1;have r:=c.cell 2;have s:=c.cell 3;simp only[x_,w_] at g i j k l m n o p q r s;refine bodyPost_ret (v:=.tuple #[.agg #[v0,v1,v2,v3,v4,v5,v6,oC],.agg #[rM,j8,lZ,gA],.int .i64 lg]) ?_ t h;rw[q_] at d e f;simp[results,Tryz.results36,go_sem,d,e,f,g,i,j,k,l,m,n,o,p,q,r,s]
theorem aO.zn{w:World}{b:Nat}{t:TypeId}(h:aO w b t [a0,a1,a2,a3,a4,a5,uA,uZ])(v0 v1 v2 v3 v4 v5 v6 c:Value):aO ((((((((w.setCell ⟨b,0,none⟩ v0).setCell ⟨b,1,none⟩ v1).setCell ⟨b,2,none⟩ v2).setCell ⟨b,3,none⟩ v3).setCell ⟨b,4,none⟩ v4).setCell ⟨b,5,none⟩ v5).setCell ⟨b,6,none⟩ v6).setCell ⟨b,7,none⟩ c) b t [v0,v1,v2,v3,v4,v5,v6,c]:=
 (((((((h.set 0 v0).set 1 v1).set 2 v2).set 3 v3).set 4 v4).set 5 v5).set 6 v6).set 7 c
def vL(w:World)(b c:Nat)(v0 v1 v2 v3 v4 v5 v6 d e f g i:Value):World:=
 (((((((((((((w.setCell ⟨b,0,none⟩ v0).setCell ⟨b,1,none⟩ v1).setCell ⟨b,2,none⟩ v2).setCell ⟨b,3,none⟩ v3).setCell ⟨b,4,none⟩ v4).setCell ⟨b,5,none⟩ v5).setCell ⟨b,6,none⟩ v6).setCell ⟨b,7,none⟩ d).setCell ⟨c,0,none⟩ e).setCell ⟨c,1,none⟩ f).setCell ⟨c,2,none⟩ g).setCell ⟨c,3,none⟩ i))
theorem vL.ok{w:World}{bg gd:Nat}{c0 c1 c2 c3:Value}(h1:aO w bg 47 [a0,a1,a2,a3,a4,a5,uA,uZ])(n:aO w gd 30 [c0,c1,c2,c3])(m:bg≠gd)(v0 v1 v2 v3 v4 v5 v6 d f g j k:Value):
  aO (vL w bg gd v0 v1 v2 v3 v4 v5 v6 d f g j k) bg 47 [v0,v1,v2,v3,v4,v5,v6,d]/\aO (vL w bg gd v0 v1 v2 v3 v4 v5 v6 d f g j k) gd 30 [f,g,j,k]/\aD (λ b=>b≠bg/\b≠gd) w (vL w bg gd v0 v1 v2 v3 v4 v5 v6 d f g j k):=by
 have c:∀(u:World)(i:Nat)(v:Value),aD (λ b=>b≠bg) u (u.setCell ⟨bg,i,none⟩ v):=λ u i v=>aD.set _ i v (λ h=>h rfl)
 have k2:∀(u:World)(i:Nat)(v:Value),aD (λ b=>b≠gd) u (u.setCell ⟨gd,i,none⟩ v):=λ u i v=>aD.set _ i v (λ h=>h rfl)
 have f1:aD (λ b=>b≠bg) w _:=((((((((c w 0 v0).trans (c _ 1 v1)).trans (c _ 2 v2)).trans (c _ 3 v3)).trans (c _ 4 v4)).trans (c _ 5 v5)).trans (c _ 6 v6)).trans (c _ 7 d))
 have g1:=aO.zn h1 v0 v1 v2 v3 v4 v5 v6 d;unfold vL;generalize ((((((((w.setCell ⟨bg,0,none⟩ v0).setCell ⟨bg,1,none⟩ v1).setCell ⟨bg,2,none⟩ v2).setCell ⟨bg,3,none⟩ v3).setCell ⟨bg,4,none⟩ v4).setCell ⟨bg,5,none⟩ v5).setCell ⟨bg,6,none⟩ v6).setCell ⟨bg,7,none⟩ d)=w' at*;have f2:aD (λ b=>b≠gd) w' _:=(((k2 w' 0 f).trans (k2 _ 1 g)).trans (k2 _ 2 j)).trans (k2 _ 3 k);exact⟨f2.blk g1 m,((((f1.blk n (λ e=>m e.symm)).set 0 f).set 1 g).set 2 j).set 3 k,(f1.mono λ b l=>l.1).trans (f2.mono λ b l=>l.2)⟩
def HC(w:World)(n:Nat)(s:kF)(c:Option Addr)(e:Ending)(W:World):Prop:=
 ∃(base G:Nat)(hs:Nat->aq)(cb:Nat->Nat)(S:aj),e=.returned (.pointer (some ⟨G,0,none⟩))/\aU (λ b=>b<base) base W G hs cb S/\tH n s ⟨c,s.aA.length,s.aA.length⟩ s.gs.length s.es.length S/\Below w.heap.size w W/\w.heap.size<=base
theorem NS{s:kF}{aS:Nat}{c:Nat}{w:World}(O:oy n s)(cH:n<=10)(bP:pT w s bh aS gJ cl A c A' c' bt bk aT aY)
  (bc:∀w,Calls t_ 109 #[.slice aT s.aA.length aY] w λ e w'=>e=.returned (.slice aT s.aA.length s.aA.length)/\w'=w):
  Calls t_ 98 #[nP n bh s.gs.length aS gJ s.es.length cl A (n+1) c A' n c' s.aM bt (n+1) bk aT s.aA.length aY] w (HC w n s aT):=by
 unfold nP;obtain⟨L,bd⟩:∃x,s.gs.length=x:=⟨_,rfl⟩
 obtain⟨nl,af⟩:∃x,s.es.length=x:=⟨_,rfl⟩
 obtain⟨l,az⟩:∃x,s.aA.length=x:=⟨_,rfl⟩
 have y:=U (z_ bP (z_ O (z_ bd (z_ af az))));rw[az] at bc;rw[bd,af,az];have cI:=U bc;clear bP O bc bd af az;go_enter Tryz.func98,Tryz.ntmps98
 have aB:=bK w (.cells #[.int .i64 n,.slice bh L aS,.slice gJ nl cl,.slice A (n+1) c,.slice A' n c',.int .i64 s.aM,.slice bt (n+1) bk,.slice aT l aY] 47);have aa:aO (w.alloc (.cells #[.int .i64 n,.slice bh L aS,.slice gJ nl cl,.slice A (n+1) c,.slice A' n c',.int .i64 s.aM,.slice bt (n+1) bk,.slice aT l aY] 47)) w.heap.size 47 [.int .i64 n,.slice bh L aS,.slice gJ nl cl,.slice A (n+1) c,.slice A' n c',.int .i64 s.aM,.slice bt (n+1) bk,.slice aT l aY]:=aO.new w 47 _;have bQ:(w.alloc (.cells #[.int .i64 n,.slice bh L aS,.slice gJ nl cl,.slice A (n+1) c,.slice A' n c',.int .i64 s.aM,.slice bt (n+1) bk,.slice aT l aY] 47)).heap.size=w.heap.size+1:=by simp
 go_upto_region 1 with fail
 generalize w.alloc (.cells #[.int .i64 n,.slice bh L aS,.slice gJ nl cl,.slice A (n+1) c,.slice A' n c',.int .i64 s.aM,.slice bt (n+1) bk,.slice aT l aY] 47)=w1 at*;have bf:Hr w1 w.heap.size n s.act s.aM s.bl A c bt bk aT l aY (s.aA.map n5):=by
  refine⟨aa.cell 0,aa.cell 3,aa.cell 5,aa.cell 6,aa.cell 7,by omega,?_,?_,cI.o,by omega⟩
  ·have:=y.o.1.act.below aB;rw[y.o.2.1.hk.kM] at this;exact this
  ·have:=y.o.1.bl.below aB;rw[y.o.2.1.nB] at this;exact this
 have bR:=U (NG w1 w.heap.size n s.act s.aM s.bl A c bt bk aT l aY (s.aA.map n5) bf);have H1:=U (z_ aB (z_ aa (z_ bQ bf)));clear aB aa bQ bf;refine Nv (tu Tryz.f98 1) 42 123 _ _ [(1,.pointer (some ⟨w.heap.size,0,none⟩))] _ (wv w1 w.heap.size n s.act s.aM s.bl A c bt bk aT l aY (s.aA.map n5)) Cs (by kernel_rfl) (by kernel_rfl) (by kernel_rfl) (by kernel_rfl) (by kernel_rfl) (by decide+kernel) (by decide+kernel) (by decide+kernel) (by decide+kernel) (by decide+kernel) rfl ⟨rfl,trivial⟩ (wv.lt w1 w.heap.size n s.act s.aM s.bl A c bt bk aT l aY (s.aA.map n5)) ((a_ _ _).drew) bR.o _ rfl ?_;intro vals bS bT bU cJ cK au;obtain⟨hs,G,f41,bV,bW,bX⟩:∃hs b,vals 41=.pointer (some ⟨b,0,none⟩)/\aO bS b tj (rq hs (qA n s.act s.aM s.bl (s.aA.map n5) ⟨aT,l,l⟩))/\w1.heap.size<=b/\mg w1.heap.size qY nU bS hs (cont hs sD (qA n s.act s.aM s.bl (s.aA.map n5) ⟨aT,l,l⟩)):=bU 41 (by omega);simp only[oI,ZZ,ZM,f41] at au;subst au;have V:=U (z_ bT (z_ bV (z_ bW bX)));clear bT bU cJ f41 bV bW bX bR;simp only[bn,execOp];simp[gF,go_sem,Act.eval,ZZ];have bY:=(H1.o.2.1.below V.o.1).cell 4;simp only[x_,w_] at bY
 go_wp2_with fail
 go_loopw [57] (λ i W=>∃(k:Nat)(hs:Nat->aq),i=.int .i64 k/\k<=n/\aU (λ b=>b<w1.heap.size) w1.heap.size W G hs sD (q9 n s.act s.aM s.bl (s.aA.map n5) ⟨aT,l,l⟩ s.ord k)/\aD (λ b=>b<w1.heap.size) w1 W) (λ i _=>n-(intOf i).toNat)
 case atStart=>
  refine⟨0,hs,rfl,Zm _,⟨⟨V.o.2.1,V.o.2.2.2,λ d C=>(by simp[q9,qA,ox] at C),λ d e C=>(by simp[q9,qA,ox] at C),V.o.2.2.1,λ d C=>(by simp[q9,qA,ox] at C)⟩,⟨λ b J=>o_ J V.o.1.size,λ h=>by have:=V.o.2.2.1;omega,λ r b e h=>by have:=(V.o.2.2.2.lt e).1;omega,λ d C=>(by simp[q9,qA,ox] at C)⟩⟩,aD.q3 V.o.1 (λ b J=>J)⟩
 case round=>
  obtain⟨k,B,rfl,hk,X,hF⟩:=hrel;have E:=U X;have F:=U hF;clear X hF
  by_cases K:k<n
  ·have cL:(k:Int)<(n:Int):=by omega
   have bZ:=y.o.2.1.hk.pE;obtain⟨aC,bg,rfl,bj,b0⟩:=y.o.1.ord.cells (by omega);have aE:=b0 k (by omega);have bo:=y.o.2.1.hk.tP K;obtain⟨x,bp⟩:∃x:Nat,iJ s.ord k=x:=⟨(iJ s.ord k).toNat,by have h1:1<=iJ s.ord k:=bo.1;omega⟩
   have b1:1<=x/\x<=n:=by
    have h1:1<=iJ s.ord k/\iJ s.ord k<=n:=bo;omega
   rw[bp] at aE;have b2:aC<w1.heap.size:=o_ bj H1.o.1.size;have df:wr.cell? ⟨aC,bg+k,none⟩=some (.int .i64 (x:Int)):=(F.o.cell (p:=⟨aC,bg+k,none⟩) b2).trans ((H1.o.1.cell (p:=⟨aC,bg+k,none⟩) bj).trans aE);have m:=U (z_ bp (z_ b1 (z_ K bZ)));clear b0 aE bo bp b1 K hk bj b2 bZ
   go_upto_region 5 with fail
   obtain⟨ab,n7,aF,ag⟩:∃A n c,B 7=⟨A,n,c⟩:=⟨_,_,_,rfl⟩
   have cM:n7=k:=by
    have h1:=E.o.e.n7;rw[ag] at h1;have bq:(s.ord.take k).length=k:=by rw[List.length_take];have:=m.o;omega
    exact h1.trans bq
   subst cM;have b3:(B 8).n=n+1:=E.o.e.n8.trans (AB n s.ord n7);obtain⟨g8,b4,b5⟩:=E.o.e.rows.addr (r:=8) (by omega);obtain⟨br,bs⟩:∃c,B 8=⟨some ⟨g8,0,none⟩,n+1,c⟩:=⟨(B 8).c,by rw[<-b4,<-b3]⟩
   have bw:(B 7).b=ab.map (·.block):=by rw[ag];rfl
   have b6:bI (Hv wr w1.heap.size G (rq B (q9 n s.act s.aM s.bl (s.aA.map n5) ⟨aT,l,l⟩ s.ord n7)) ab n7 aF g8 (n+1) br x (n7:Int) (s.ord.take n7)):=U (by
    refine⟨?_,?_,by have:=m.o;omega,by omega,by have:=m.o;omega,F.o.size,E.o.e.box.lt,λ g av=>?_⟩
    ·show some (B 7).v=_;rw[ag];rfl
    ·show some (B 8).v=_;rw[bs];rfl
    ·rw[<-bw] at av;exact⟨(E.o.e.rows.lt av).2,λ e=>E.o.e.uy 7 g av e.symm⟩)
   have b7:=U (NK wr w1.heap.size G (rq B (q9 n s.act s.aM s.bl (s.aA.map n5) ⟨aT,l,l⟩ s.ord n7)) ab n7 aF g8 (n+1) br x (n7:Int) (s.ord.take n7) b6.o);have b8:Cu w1.heap.size G (rq B (q9 n s.act s.aM s.bl (s.aA.map n5) ⟨aT,l,l⟩ s.ord n7)) ab n7 aF (s.ord.take n7) wr:=by
    have h1:wr.ownsRow w1.heap.size 3 1 (B 7).v (B 7).n (gX (s.ord.take n7)):=E.o.e.rows.row 7;rw[ag] at h1;exact⟨h1,E.o.e.box⟩
   have b9:Ct wr G (rq B (q9 n s.act s.aM s.bl (s.aA.map n5) ⟨aT,l,l⟩ s.ord n7)) ab wr:=⟨aD.refl,_,by rw[Ht b6.o.l10];exact E.o.e.box⟩
   have ad:=U (z_ ag (z_ bs (z_ b5 (z_ bw (z_ b8 b9)))));clear ag bs b5 bw b8 b9 b4 b3;refine Ah (tu Tryz.f98 5) 18 123 _ _ [(3,.pointer (some ⟨G,0,none⟩)),(5,.int .i64 (x:Int)),(4,.int .i64 (n7:Int))] _ (zl wr w1.heap.size G (rq B (q9 n s.act s.aM s.bl (s.aA.map n5) ⟨aT,l,l⟩ s.ord n7)) ab n7 aF g8 (n+1) br x (n7:Int) (s.ord.take n7)) Hu _ 12 (by kernel_rfl) (by kernel_rfl) (by kernel_rfl) (by kernel_rfl) (by kernel_rfl) (by decide+kernel) (by decide+kernel) (by decide+kernel) (by decide+kernel) (by decide+kernel) rfl ⟨rfl,rfl,rfl,trivial⟩ ⟨wz.drop ad.o.2.2.2.2.2.1 (a_ _ _).drew,ad.o.2.2.2.2.2.2.imp λ v h=>h.below (a_ _ _).drew⟩ ⟨lR ad.o.2.2.2.2.1.1 ((a_ _ _).drew),ad.o.2.2.2.2.1.2.below ((a_ _ _).drew)⟩ b7.o _ rfl ?_;intro b' ca cc aG cK au;obtain⟨h',cd,n16,cf⟩:∃h:aq,ca.ownsRow w1.heap.size 3 1 h.v (n7+1) (gX (s.ord.take n7++[(x:Int)]))/\(h.b=ab.map (·.block)\/∀g,h.b=some g->wr.heap.size<=g)/\aO ca G tj ((rq B (q9 n s.act s.aM s.bl (s.aA.map n5) ⟨aT,l,l⟩ s.ord n7)).set 10 h.v):=aG 16 (by omega) rfl;have f17:b' 17=.pointer (some ⟨g8,x,none⟩):=aG 17 (by omega) rfl;have f13:b' 13=.int .i64 (n7:Int):=aG 13 (by omega) rfl;have cg:(q9 n s.act s.aM s.bl (s.aA.map n5) ⟨aT,l,l⟩ s.ord n7).ord.length=n7:=by
    show(s.ord.take n7).length=n7;rw[List.length_take];have:=m.o;omega
   have P:=E.o.NL (h':=h') (x:=(x:Int)) (by rw[ad.o.2.2.2.1];exact cc.1) cf (by rw[cg];exact cd) (by rw[ad.o.2.2.2.1];exact n16);have aH:(iH B 7 h' 8).b=some g8:=by rw[aX _ _ (by decide)];exact ad.o.2.2.1
   have ch:=P.1.e.wU aH (k:=x) (by show x<(uK n s.ord n7).length;rw[AB];have:=m.o;omega);have cj:=P.1.e.rows.free aH x;have ah:=P.1.xS aH x (n7:Int);have ck:ai s.ord n7=(x:Int):=m.o.1;have ae:((q9 n s.act s.aM s.bl (s.aA.map n5) ⟨aT,l,l⟩ s.ord n7).vE (x:Int)).pV x (n7:Int)=q9 n s.act s.aM s.bl (s.aA.map n5) ⟨aT,l,l⟩ s.ord (n7+1):=by
    have h1:=NM n s.act s.aM s.bl (s.aA.map n5) ⟨aT,l,l⟩ s.ord n7 (by have:=m.o;omega);rw[ck,ZT] at h1;exact h1
   rw[ae] at ah;have Q:=U (z_ ah.1 ((F.o.trans P.2).trans ah.2));simp only[oI,ZZ,ZM,f17,f13] at au;subst au;clear cc aG cd n16 cf f17 f13 P ah b7 ae ck cg aH;simp only[bn,execOp];simp[gF,go_sem,Act.eval,ZZ,ch,cj];clear ch cj
   go_wp2_with fail
   go_roundw
   case rel=>exact⟨n7+1,_,by go_num,by have:=m.o;omega,Q.o.1,Q.o.2⟩
   case measure=>have:=m.o;simp[intOf];omega
  ·obtain rfl:k=n:=by omega
   have cL:¬(k:Int)<(k:Int):=by omega
   have aw:aO wr w.heap.size 47 [.int .i64 k,.slice bh L aS,.slice gJ nl cl,.slice A (k+1) c,.slice A' k c',.int .i64 s.aM,.slice bt (k+1) bk,.slice aT l aY]:=F.o.blk H1.o.2.1 (by have:=H1.o.2.2.1;omega);have cm:=aw.cell 1;simp only[x_,w_] at cm;clear K hk aw bY
   go_wp2_with fail
   go_loopw [83] (λ i W=>∃(j:Nat)(hs:Nat->aq)(cb:Nat->Nat)(S:aj),i=.int .i64 j/\j<=L/\aU (λ b=>b<w1.heap.size) w1.heap.size W G hs cb S/\aD (λ b=>b<w1.heap.size) w1 W/\tH k s ⟨aT,l,l⟩ j 0 S) (λ i _=>L-(intOf i).toNat)
   case atStart=>exact⟨0,B,sD,_,rfl,Zm _,E.o,F.o,tH.init y.o.2.1⟩
   case round=>
    clear E F;obtain⟨j,cN,cO,S,rfl,cn,X,hF,R⟩:=hrel;have E:=U X;have F:=U hF;have t:=U R;have ax:bI (Below w.heap.size w wr):=U (H1.o.1.trans ((show Below w1.heap.size w1 wr from⟨hF.os,hF.tape,hF.output,hF.size,λ b J=>hF.keep b J⟩).mono H1.o.1.size));clear X hF R cm
    by_cases K:j<L
    ·have cP:(j:Int)<(L:Int):=by omega
     have aJ:=y.o.2.2.1;obtain⟨b,off,rfl,J,aK⟩:=(y.o.1.gs.below ax.o).cells (by omega);obtain⟨a1,bx,c1,aE,cp⟩:=aK j (by omega);have bz:j<s.gs.length:=by omega
     have ak:=y.o.2.1.bu _ (zC bz);have bA:=y.o.2.1.g1;have bB:=t.o.wk;have dh:g_.wrap ((j:Int)+1)=(j:Int)+1:=by rw[r_];omega
     have P:=(E.o.below (bK wr (.cells #[.slice a1 bx c1,.bool false,.int .i64 0,.int .i64 0] 166)))
     have hblk:aO (wr.alloc (.cells #[.slice a1 bx c1,.bool false,.int .i64 0,.int .i64 0] 166)) wr.heap.size vC [.slice a1 bx c1,.bool false,.int .i64 0,.int .i64 0]:=aO.new wr vC _;have bC:=U (GG (P.1.DQ t.o.cb wr.heap.size) t.o.me.gK.aL t.o.me.nV (by rw[t.o.me.jh];omega) (by rw[t.o.me.gK.wt.qV,t.o.me.jh]) (λ q=>Zl (t.o.me.gK.wt.nW q) (by omega)) (by rw[t.o.me.st];simp) (x:=⟨false,0,0⟩) (jH _ _ _) hblk F.o.size (λ h=>by have:=F.o.size;omega) (λ d C=>by rw[aX _ _ (by omega)];have:=(E.o.e.cls d C).lt;omega) (aQ.below cp (bK wr _)) (λ z bD=>by rw[t.o.me.jh];exact ak z bD));have m:=U (z_ bz (z_ P.2 K));clear aK cp ak bA bB P hblk aJ bz cn K J
     go_wp2_with (go_at_call 144;refine bC.o.mono ?_;rintro e dj ⟨rfl,Y,cq,cr⟩;have ah:=U cq;have cQ:=U cr;clear cq cr)
     go_roundw
     case rel=>exact⟨j+1,Y,_,_,by go_num,by have:=m.o.2.2;omega,ah.o,F.o.trans (m.o.2.1.trans cQ.o),t.o.given y.o.2.1 (by omega) m.o.1⟩
     case measure=>have:=m.o.2.2;simp[intOf];omega
    ·obtain rfl:j=L:=by omega
     have cP:¬(j:Int)<(j:Int):=by omega
     have aw:aO wr w.heap.size 47 [.int .i64 k,.slice bh j aS,.slice gJ nl cl,.slice A (k+1) c,.slice A' k c',.int .i64 s.aM,.slice bt (k+1) bk,.slice aT l aY]:=F.o.blk H1.o.2.1 (by have:=H1.o.2.2.1;omega);have ct:=aw.cell 2;simp only[x_,w_] at ct;clear K cn aw
     go_wp2_with fail
     go_loopw [96] (λ i W=>∃(q:Nat)(hs:Nat->aq)(cb:Nat->Nat)(S:aj),i=.int .i64 q/\q<=nl/\aU (λ b=>b<w1.heap.size) w1.heap.size W G hs cb S/\aD (λ b=>b<w1.heap.size) w1 W/\tH k s ⟨aT,l,l⟩ j q S) (λ i _=>nl-(intOf i).toNat)
     case atStart=>exact⟨0,cN,cO,S,rfl,Zm _,E.o,F.o,t.o⟩
     case round=>
      clear E F t ax;obtain⟨q,Y,T,u,rfl,cu,X,hF,R⟩:=hrel;have E:=U X;have F:=U hF;have t:=U R;have ax:bI (Below w.heap.size w wr):=U (H1.o.1.trans ((show Below w1.heap.size w1 wr from⟨hF.os,hF.tape,hF.output,hF.size,λ b J=>hF.keep b J⟩).mono H1.o.1.size));clear X hF R ct
      by_cases K:q<nl
      ·have cR:(q:Int)<(nl:Int):=by omega
       have af:=y.o.2.2.2.1;have aJ:=y.o.2.2.1;have cv:=y.o.2.1.nW;have dk:=AD cH;have dm:g_.wrap ((q:Int)+1)=(q:Int)+1:=by rw[r_];omega
       have aN:=y.o.1.es.below ax.o;rw[af] at aN;have aP:q<s.es.length:=by omega
       obtain⟨b,off,rfl,J,aK⟩:=aN.cells (by omega);obtain⟨aV,aW,aZ,bE⟩:=aN.Cl K aP;obtain⟨⟨⟨D,H,I,bF⟩,aR,ac⟩,ae⟩:∃e,s.es[q]=e:=⟨_,rfl⟩
       rw[ae] at aV aW aZ bE;replace aV:wr.cell? ⟨b,off+q*3,none⟩=some (.slice D H I):=aV;replace aW:wr.cell? ⟨b,off+q*3+1,none⟩=some (.int .i64 aR):=aW;replace aZ:wr.cell? ⟨b,off+q*3+2,none⟩=some (.int .i64 ac):=aZ;have ak:=(y.o.2.1.wo _ (h_ aP)).1.lt;rw[ae] at ak;have m:=U (z_ aP (z_ K (z_ (show∀p:q<s.es.length,s.es[q]'p=(⟨⟨D,H,I,bF⟩,aR,ac⟩:lE) from λ _=>ae) (z_ ak (z_ bE (z_ aJ cv))))));clear aK ak aJ bE ae aP cu J aN cv af
       go_upto_region 15 with fail
       have a6:aO (wr.alloc (.cells #[.slice D H I,.int .i64 aR,.int .i64 ac] 74)) wr.heap.size 74 [.slice D H I,.int .i64 aR,.int .i64 ac]:=aO.new wr 74 _;have cw:=bK wr (.cells #[.slice D H I,.int .i64 aR,.int .i64 ac] 74);generalize wr.alloc (.cells #[.slice D H I,.int .i64 aR,.int .i64 ac] 74)=M at*;have t0:=a6.cell 0;have t1:=a6.cell 1;have t2:=a6.cell 2;simp only[x_,w_] at t0 t1 t2;have bG:=U cw;clear cw a6 aV aW aZ
       go_upto_region 16 with fail
       have Q:=E.o.below bG.o;have bH:=Q.1.below (bK M (.cells #[.slice D H I,.bool true,.int .i64 aR,.int .i64 ac] 166));have hblk:aO (M.alloc (.cells #[.slice D H I,.bool true,.int .i64 aR,.int .i64 ac] 166)) M.heap.size vC [.slice D H I,.bool true,.int .i64 aR,.int .i64 ac]:=aO.new M vC _;have bJ:(M.alloc (.cells #[.slice D H I,.bool true,.int .i64 aR,.int .i64 ac] 166)).heap.size=M.heap.size+1:=by simp
       have cx:aQ (M.alloc (.cells #[.slice D H I,.bool true,.int .i64 aR,.int .i64 ac] 166)) D H I bF:=aQ.below (aQ.below m.o.2.2.2.2.1 bG.o) (bK M _);obtain⟨blk,cS⟩:∃b,M.heap.size=b:=⟨_,rfl⟩
       rw[cS] at hblk bJ⊢;have cy:∀d,d<u.c.cl.length->T d≠blk:=λ d C=>by have:=(Q.1.e.cls d C).lt;omega
       have cz:∀g,(Y 10).b=some g->g<blk:=λ g av=>by have:=(Q.1.e.rows.lt av).2;omega
       have cA:G<blk:=by have:=Q.1.e.box.lt;omega
       have cB:w1.heap.size<=blk:=by have:=F.o.size;have:=bG.o.size;omega
       generalize M.alloc (.cells #[.slice D H I,.bool true,.int .i64 aR,.int .i64 ac] 166)=N at*;have a7:=bH.1.DQ t.o.cb blk;obtain⟨al,n10,an,ao⟩:∃A n c,Y 10=⟨A,n,c⟩:=⟨_,_,_,rfl⟩
       have dn:N.cell? ⟨G,13,none⟩=some (.slice al n10 an):=by have:=a7.e.kA (k:=13) (v:=(Y 10).v) rfl;rw[ao] at this;exact this
       have bL:n10=u.aI.length:=by have:=a7.e.n10;rw[ao] at this;exact this
       have a8:=U (a7.below (bK N (.cells #[.pointer (some ⟨blk,0,none⟩)] 164)));have hp:(N.alloc (.cells #[.pointer (some ⟨blk,0,none⟩)] 164)).cell? ⟨N.heap.size,0,none⟩=some (.pointer (some ⟨blk,0,none⟩)):=by go_simp
       have cT:=U (rD.one hp);have cU:bI ((N.alloc (.cells #[.pointer (some ⟨blk,0,none⟩)] 164)).ownsRow w1.heap.size 164 1 (.slice al n10 an) n10 (kV (iH T u.c.cl.length blk) u.aI)):=U (by
        have:=a8.o.1.e.rows.row 10;rw[ao] at this;exact this)
       have cV:=U (Nat.le_of_lt a8.o.1.e.lt);have cW:bI (∀v9 di,oa (N.alloc (.cells #[.pointer (some ⟨blk,0,none⟩)] 164)) w1.heap.size 164 (.slice al n10 an) (n10+1) (kV (iH T u.c.cl.length blk) u.aI++[.pointer (some ⟨blk,0,none⟩)]) v9 di->oa (N.alloc (.cells #[.pointer (some ⟨blk,0,none⟩)] 164)) w1.heap.size 164 (Y 10).v (u.aI.length+1) (kV (iH T u.c.cl.length blk) (u.aI++[u.c.cl.length])) v9 di):=U (λ v9 di ay=>by
        have e:kV (iH T u.c.cl.length blk) (u.aI++[u.c.cl.length])=kV (iH T u.c.cl.length blk) u.aI++[.pointer (some ⟨blk,0,none⟩)]:=by simp[kV,tq,jH]
        rw[e,ao,<-bL];exact ay)
       have cX:=U (hblk.below (bK N (.cells #[.pointer (some ⟨blk,0,none⟩)] 164)));have cY:=U (F.o.trans (Q.2.trans (bH.2.trans a8.o.2)));have Z:=U (z_ cy (z_ cz (z_ cA (z_ cB (z_ ao (z_ bL (z_ cx bJ)))))));have dp:n10<=100000:=by have h1:=t.o.kX;have bq:=m.o.1;have cZ:=m.o.2.2.2.2.2.2;omega
       clear hp Q bH a7 hblk cy cz cA cB ao bL cx bJ t0 t1 t2
       go_upto_region 17 with(at_builtin;refine FK rfl (.tmp 112) (.tmp 114) rfl w1.heap.size (.slice al n10 an) n10 (kV (iH T u.c.cl.length blk) u.aI) rfl cU.o (some ⟨N.heap.size,0,none⟩) 1 1 _ rfl cT.o (by omega) cV.o ?_;intro v9 di ay;obtain⟨⟨a',ba,c3⟩,cC,c7,bM,a2,bb,bN⟩:=aU.FM (x:=u.c.cl.length) a8.o.1 (v':=v9) (cW.o v9 di ay);change v9=.slice a' ba c3 at cC;subst cC;have c8:=U ((cX.o.kept ay.2.1 (λ e=>by have:=Z.o.2.1 blk (by rw[Z.o.2.2.2.2.1];exact(aq.own ⟨al,n10,an⟩).symm.trans e.symm);omega)).kept (kK di G 13 (.slice a' ba c3)) (λ e=>by injection e with e;have:=Z.o.2.2.1;omega));have dq:=U ((aQ.below Z.o.2.2.2.2.2.2.1 (bK N (.cells #[.pointer (some ⟨blk,0,none⟩)] 164))));have bb:=U bb;have bN:=U bN;clear ay c7;have a1:di.cell? ⟨G,13,none⟩=some (.slice al n10 an):=(by rw[Z.o.2.2.2.2.1] at bM;exact bM);clear bM)
       generalize di.setCell ⟨G,13,none⟩ (.slice a' ba c3)=bO at*;obtain⟨dr,da⟩:∃f,iH Y 10 ⟨a',ba,c3⟩=f:=⟨_,rfl⟩
       rw[da] at bb;have bA:=y.o.2.1.g1;have bB:=t.o.wk;have ar:=U (cY.o.trans bN.o);have cD:Below w.heap.size w bO:=H1.o.1.trans ((show Below w1.heap.size w1 bO from⟨ar.o.os,ar.o.tape,ar.o.output,ar.o.size,λ b J=>ar.o.keep b J⟩).mono H1.o.1.size);have cE:aQ bO D H I bF:=by
        have h:=y.o.1.es.rows _ (h_ m.o.1);rw[m.o.2.2.1 m.o.1] at h;exact aQ.below h cD
       have bC:=U (GG bb.o t.o.me.gK.aL t.o.me.nV (by show u.c.n<=_;rw[t.o.me.jh];omega) (by show u.c.wt.length=_;rw[t.o.me.gK.wt.qV,t.o.me.jh];show _=2*u.c.n+2;rw[t.o.me.jh]) (λ q=>Zl (t.o.me.gK.wt.nW q) (by have bq:=m.o.1;have cZ:=m.o.2.2.2.2.2.2;have dt:=m.o.2.2.2.2.2.1;omega)) (by show u.c.st.length<=_;rw[t.o.me.st];simp) (x:=⟨true,aR,ac⟩) (blk:=blk) (jH _ _ _) c8.o Z.o.2.2.2.1 (λ h=>by have:=Z.o.2.2.2.1;omega) (λ d C=>by have C:d<u.c.cl.length:=C;show iH T u.c.cl.length blk d≠blk;rw[aX _ _ (by omega)];exact Z.o.1 d C) cE (λ z bD=>by show gU u.c.n z;rw[t.o.me.jh];exact m.o.2.2.2.1 z bD));have R:=t.o.NO y.o.2.1 (by omega) m.o.1;rw[m.o.2.2.1 m.o.1] at R;have db:=U R;clear R cE cD bA bB
       go_wp2_with (go_at_call 144;refine bC.o.mono ?_;rintro e du ⟨rfl,dc,cF,cG⟩;have dd:=U cF;have de:=U cG;clear cF cG)
       go_roundw
       case rel=>exact⟨q+1,dc,_,_,by go_num,by have:=m.o.2.1;omega,dd.o,ar.o.trans de.o,db.o⟩
       case measure=>have:=m.o.2.1;simp[intOf];omega
      ·obtain rfl:q=nl:=by omega
       have cR:¬(q:Int)<(q:Int):=by omega
       clear K cu
       go_wp2_with fail
       go_ret;refine⟨w1.heap.size,G,Y,T,u,rfl,E.o,?_,ax.o,H1.o.1.size⟩;rw[y.o.2.2.1,y.o.2.2.2.1,y.o.2.2.2.2];exact t.o
end
section
open Go.RowKit
theorem lB.Cw{w:World}{c:Nat}(h:lB w A n c bl)(d:0<n):∃b off,A=some ⟨b,off,none⟩/\b<w.heap.size/\w.cell? ⟨b,off,none⟩=some (.bool (jE bl 0)):=by
 obtain⟨b,off,e,f,g⟩:=h.cells d;exact⟨b,off,e,f,g 0 d⟩
theorem nG.yf(w:World)(r:Row)(d:aQ w r.A r.n r.c r.ah):nG (w.alloc (.cells #[ki r] 25)) (some ⟨w.heap.size,0,none⟩) 1 1 [r]:=by
 refine⟨rfl,p_ _,by omega,by unfold maxLen;omega,λ _=>⟨w.heap.size,0,rfl,by simp,λ j u b=>?_⟩,λ q e=>?_⟩
 ·have f:j=0:=by
   have:=(Zn.1 b).1;simp at this;omega
  subst f;have hu:ki r=u:=by simpa using b
  subst hu;exact(aO.new w 25 [ki r]).cell 0
 ·rw[Zg.1 e];exact d.alloc _
theorem HD{e:lE}(h:e.r.ah.length=0):qz e=true:=by simp[qz,h]
theorem zo{e:lE}(b:e.r.ah.length≠0):qz e=(kO e.aR||kO e.ac):=by simp[qz,b]
theorem HE(n:Nat)(gs:List (List Int))(es:List lE)(act ord:List Int)(aa:Int)(bb:List Bool)(C:List mc){gC nl aJ:Nat}{bh:Option Addr}{aS:Nat}{gJ:Option Addr}{cl:Nat}{A:Option Addr}{c:Nat}{A':Option Addr}{c':Nat}{bt:Option Addr}{bk:Nat}{aT:Option Addr}{aY:Nat}{w:World}
  (cf:n<=65536) (bc:p6 act ord aa=true) (bd:jE bb 0=false) (O:nl<=1000000)
  (bf:lF w bh gC aS gs) (P:qP w gJ nl cl es) (bg:aQ w A (n+1) c act) (bj:aQ w A' n c' ord) (aC:lB w bt (n+1) bk bb) (Q:nx w aT aJ aY C):
  Calls t_ 49 #[nP n bh gC aS gJ nl cl A (n+1) c A' n c' aa bt (n+1) bk aT aJ aY] w λ e w'=>e=.returned (.int .i64 (if kZ n gs≠0 then kZ n gs else if es.any qz=true then 1 else if kZ n (es.map (·.r.ah))≠0 then kZ n (es.map (·.r.ah)) else if C.any (pK n)=true then 1 else 0))/\Below w.heap.size w w':=by
 obtain⟨R,ad,rfl,bl,aD⟩:=aC.Cw (by omega);rw[bd] at aD;unfold nP;have b1:¬(n:Int)<0:=by omega
 have b2:¬(65536:Int)<n:=by omega
 have d0:decide ((n:Int)<0)=false:=decide_eq_false b1;have d1:decide ((65536:Int)<n)=false:=decide_eq_false b2;have wn:g_.wrap ((n:Int)+1)=(n:Int)+1:=by rw[r_];omega
 have cg:=P.mW;have aE:=Q.mW;obtain⟨av,aF⟩:∃x,kZ n gs=x:=⟨_,rfl⟩
 obtain⟨el,aG⟩:∃x,kZ n (es.map (·.r.ah))=x:=⟨_,rfl⟩
 rw[aF,aG];obtain⟨ch,aH⟩:∃x,(if av≠0 then av else if es.any qz=true then 1 else if el≠0 then el else if C.any (pK n)=true then 1 else 0)=x:=⟨_,rfl⟩
 rw[aH];have G:=U aH;clear aH;have H:=U (z_ bf (z_ P (z_ bg (z_ bj (z_ aC Q)))));have aw:=U (z_ aD bl);have ai:=U (z_ bc (z_ aF aG));clear aD bl bf P bg bj aC Q bc aF aG bd;go_enter Tryz.func49,Tryz.ntmps49
 have aj:=bK w (.cells #[.int .i64 n,.slice bh gC aS,.slice gJ nl cl,.slice A (n+1) c,.slice A' n c',.int .i64 aa,.slice (some ⟨R,ad,none⟩) (n+1) bk,.slice aT aJ aY] 47);have E:aO (w.alloc (.cells #[.int .i64 n,.slice bh gC aS,.slice gJ nl cl,.slice A (n+1) c,.slice A' n c',.int .i64 aa,.slice (some ⟨R,ad,none⟩) (n+1) bk,.slice aT aJ aY] 47)) w.heap.size 47 [.int .i64 n,.slice bh gC aS,.slice gJ nl cl,.slice A (n+1) c,.slice A' n c',.int .i64 aa,.slice (some ⟨R,ad,none⟩) (n+1) bk,.slice aT aJ aY]:=aO.new w 47 _
 go_upto_region 1 with fail
 generalize w.alloc (.cells #[.int .i64 n,.slice bh gC aS,.slice gJ nl cl,.slice A (n+1) c,.slice A' n c',.int .i64 aa,.slice (some ⟨R,ad,none⟩) (n+1) bk,.slice aT aJ aY] 47)=w1 at*;have bn:=E.cell 0;have bo:=E.cell 1;have bp:=E.cell 2;have bq:=E.cell 3;have br:=E.cell 4;have bs:=E.cell 5;have bu:=E.cell 6;have bw:=E.cell 7;simp only[x_,w_] at bn bo bp bq br bs bu bw;have bx:=u_ (a:=⟨R,ad,none⟩) (aj.block R aw.o.2);rw[aw.o.1] at bx;have b3:=U E;have bz:=U aj;have bA:=U (CZ A (n+1) c act A' n c' ord aa w1 (H.o.2.2.1.below aj) (H.o.2.2.2.1.below aj));clear E aj
 go_upto_region 3 with(go_at_call 111;refine bA.o.mono ?_;rintro e wr ⟨rfl,aI⟩;rw[ai.o.1];have I:=U (b3.o.below aI);have ae:=U (bz.o.trans (aI.mono bz.o.size));have bB:=u_ (a:=⟨R,ad,none⟩) (ae.o.block R aw.o.2);rw[aw.o.1] at bB;clear bn bo bp bq br bs bu bw bx aI;have S:=I.o.cell 0;have bC:=I.o.cell 1;have bD:=I.o.cell 2;have bE:=I.o.cell 3;have bF:=I.o.cell 4;have bG:=I.o.cell 5;have bH:=I.o.cell 6;have ak:=I.o.cell 7;simp only[x_,w_] at S bC bD bE bF bG bH ak;dsimp only[qU])
 have aK:=U (vN n bh gC aS gs wr (H.o.1.below ae.o))
 by_cases aL:av=0
 ·subst aL;have cj:((0:Int)==0)=true:=rfl
  go_upto_region 8 with(go_at_call 107;refine aK.o.mono ?_;rintro e ws ⟨rfl,af⟩;rw[ai.o.2.1];have bJ:=U (I.o.below af);have y:=U (ae.o.trans (af.mono ae.o.size));clear S bC bD bE bF bG bH ak af bB;have z2:=bJ.o.cell 2;simp only[x_,w_] at z2;dsimp only)
  clear aK bA
  go_wp2_with fail
  go_loopw [4,71] (λ l i W=>∃(k:Nat)(J:Option Addr)(c4:Nat),l=.slice J k c4/\i=.int .i64 k/\k<=nl/\(es.take k).any qz=false/\W.ownsRow ws.heap.size 25 1 (.slice J k c4) k (((es.take k).map (λ e:lE=>e.r)).map ki)/\Below ws.heap.size ws W) (λ _ i _=>nl-(intOf i).toNat)
  case atStart=>exact⟨0,none,0,rfl,rfl,Zm _,rfl,Ze _ _ _ _,a_ _ _⟩
  case round=>
   obtain⟨k,J,c4,rfl,rfl,hk,T,al,ab⟩:=hrel;have u:=U (z_ T (z_ al ab));clear T al ab
   by_cases z:k<nl
   ·have P:=H.o.2.1.below (y.o.trans (u.o.2.2.mono y.o.size));have aM:k<es.length:=by rw[P.len];exact z
    have aN:(k:Int)<(nl:Int):=by omega
    obtain⟨b,off,rfl,ab,aP⟩:=P.cells (by omega);obtain⟨K,L,ax,V⟩:=P.Cl z aM;obtain⟨⟨⟨m,f,q,s⟩,aR,ac⟩,O⟩:∃e,es[k]=e:=⟨_,rfl⟩
    rw[O] at K L ax V;replace K:wr.cell? ⟨b,off+k*3,none⟩=some (.slice m f q):=K;replace L:wr.cell? ⟨b,off+k*3+1,none⟩=some (.int .i64 aR):=L;replace ax:wr.cell? ⟨b,off+k*3+2,none⟩=some (.int .i64 ac):=ax;clear aP P
    go_upto_region 11 with fail
    have lD:aO (wr.alloc (.cells #[.slice m f q,.int .i64 aR,.int .i64 ac] 74)) wr.heap.size 74 [.slice m f q,.int .i64 aR,.int .i64 ac]:=aO.new wr 74 _;have X:=bK wr (.cells #[.slice m f q,.int .i64 aR,.int .i64 ac] 74);have bL:(wr.alloc (.cells #[.slice m f q,.int .i64 aR,.int .i64 ac] 74)).heap.size=wr.heap.size+1:=by simp
    generalize wr.alloc (.cells #[.slice m f q,.int .i64 aR,.int .i64 ac] 74)=v at*;have t0:=lD.cell 0;have t1:=lD.cell 1;have t2:=lD.cell 2;simp only[x_,w_] at t0 t1 t2;have Y:=U (z_ X (z_ lD bL));have d:=U (z_ (show∀p:k<es.length,es[k]'p=(⟨⟨m,f,q,s⟩,aR,ac⟩:lE) from λ _=>O) (z_ V (z_ aM z)));have aU:=V.len;replace aU:s.length=f:=aU;clear X lD K L ax O V aM z hk bL
    by_cases bM:f=0
    ·subst bM;have t:es.any qz=true:=uL d.o.2.2.1 (by rw[d.o.1 d.o.2.2.1];exact HD aU);have D:=U t;clear t
     go_wp2_with fail
     go_ret;exact⟨nL (by rw[<-G.o,if_neg (by omega),if_pos D.o]),y.o.trans ((u.o.2.2.trans (Y.o.1.mono u.o.2.2.size)).mono y.o.size)⟩
    ·have ck:((f:Int)==0)=false:=by simpa using bM
     cases M:kO aR with
     |true=>
      have t:es.any qz=true:=uL d.o.2.2.1 (by rw[d.o.1 d.o.2.2.1,zo (by show s.length≠0;omega)];show(kO aR||_)=true;rw[M];rfl);have D:=U t;have b4:=U M;clear t M
      go_wp2_with (go_at_call 112;refine(Eg _ _).mono ?_;rintro e bN ⟨rfl,rfl⟩;rw[b4.o])
      go_ret;exact⟨nL (by rw[<-G.o,if_neg (by omega),if_pos D.o]),y.o.trans ((u.o.2.2.trans (Y.o.1.mono u.o.2.2.size)).mono y.o.size)⟩
     |false=>
      cases ag:kO ac with
      |true=>
       have t:es.any qz=true:=uL d.o.2.2.1 (by rw[d.o.1 d.o.2.2.1,zo (by show s.length≠0;omega)];show(kO aR||kO ac)=true;rw[M,ag];rfl);have D:=U t;have an:=U (z_ M ag);clear t M ag
       go_wp2_with (go_at_call 112;refine(Eg _ _).mono ?_;rintro e bN ⟨rfl,rfl⟩;first|rw[an.o.1]|rw[an.o.2])
       go_ret;exact⟨nL (by rw[<-G.o,if_neg (by omega),if_pos D.o]),y.o.trans ((u.o.2.2.trans (Y.o.1.mono u.o.2.2.size)).mono y.o.size)⟩
      |false=>
       have ao:qz ⟨⟨m,f,q,s⟩,aR,ac⟩=false:=by rw[zo (by show s.length≠0;omega)];show(kO aR||kO ac)=false;rw[M,ag];rfl
       have aV:=U ao;have an:=U (z_ M ag);clear ao M ag
       go_upto_region 13 with(go_at_call 112;refine(Eg _ _).mono ?_;rintro e bN ⟨rfl,rfl⟩;first|rw[an.o.1]|rw[an.o.2])
       have bO:ws.heap.size<=v.heap.size:=Zl u.o.2.2.size Y.o.1.size;have bP:bI ((v.alloc (.cells #[ki ⟨m,f,q,s⟩] 25)).ownsRow ws.heap.size 25 1 (.slice J k c4) k (((es.take k).map (λ e:lE=>e.r)).map ki)):=U (lR (lR u.o.2.1 Y.o.1) (bK v _));have bQ:=U bO;have b5:bI (aQ v m f q s):=U (aQ.below d.o.2.1 Y.o.1);clear bO;have aW:=d.o.2.2.2
       go_upto_region 14 with(at_builtin;refine CW rfl (.tmp 91) (.tmp 94) rfl ws.heap.size (.slice J k c4) k ((es.take k).map (λ e:lE=>e.r)) rfl bP.o (some ⟨v.heap.size,0,none⟩) 1 1 [⟨m,f,q,s⟩] rfl (nG.yf v ⟨m,f,q,s⟩ b5.o) (by omega) (by have:=bQ.o;simp;omega) ?_;intro v9 di aX;obtain⟨⟨bR,jJ,c9⟩,b6,ay⟩:=aq.lz aX.1;obtain rfl:v9=.slice bR jJ c9:=b6;have bS:=U aX;have b7:=U ay;clear aX ay)
       have ay:jJ=k+1:=b7.o;subst ay;have bT:Below ws.heap.size ws di:=xx (u.o.2.2.trans ((Y.o.1.trans ((bK v (.cells #[ki ⟨m,f,q,s⟩] 25)).mono Y.o.1.size)).mono u.o.2.2.size)) bS.o.2.1 (by have:=bQ.o;simp;omega) (λ g e=>(bP.o.lt g e).1);have b8:=U bT;clear bT
       go_wp2_with fail
       go_roundw
       case rel=>
        refine⟨k+1,bR,c9,rfl,by go_num,by omega,Cj d.o.2.2.1 (by rw[d.o.1 d.o.2.2.1];exact aV.o) u.o.1,?_,b8.o⟩;have h1:=bS.o.1;rw[c_ d.o.2.2.1,d.o.1 d.o.2.2.1,Zi];exact h1
       case measure=>simp[intOf];omega
   ·have T:=Ck H.o.2.1.len z u.o.1;have aN:¬(k:Int)<(nl:Int):=by omega
    obtain rfl:k=nl:=by omega
    have ar:=U T;have aZ:=U (bJ.o.below u.o.2.2);have au:=U (y.o.trans (u.o.2.2.mono y.o.size));have hlen:=H.o.2.1.len;have al:wr.ownsRow ws.heap.size 25 1 (.slice J k c4) k ((es.map (λ e:lE=>e.r)).map ki):=by
     have h1:=u.o.2.1;rw[k_ (by omega)] at h1;exact h1
    have a6:=lF.lz al (λ r b9=>by
     obtain⟨e,he,rfl⟩:=Zc.1 b9;exact((H.o.2.1.below au.o).rows e he)) (by omega)
    rw[List.map_map] at a6;have bU:bI (lF wr J k c4 (es.map (λ e:lE=>e.r.ah))):=U a6;have S:=aZ.o.cell 0;have ak:=aZ.o.cell 7;simp only[x_,w_] at S ak;clear T al a6 z hk z2
    by_cases a7:el=0
    ·subst a7
     go_upto_region 18 with(go_at_call 107;refine(vN n J k c4 (es.map (λ e:lE=>e.r.ah)) wr bU.o).mono ?_;rintro e wt ⟨rfl,B⟩;rw[ai.o.2.2];have az:=U (aZ.o.below B);have Z:=U (au.o.trans (B.mono au.o.size));clear S ak B;have z0:=az.o.cell 0;have bV:=az.o.cell 7;simp only[x_,w_] at z0 bV;dsimp only)
     go_wp2_with fail
     go_loopw [108] (λ i W=>∃j:Nat,i=.int .i64 j/\j<=aJ/\(C.take j).any (pK n)=false/\Below wt.heap.size wt W) (λ i _=>aJ-(intOf i).toNat)
     case atStart=>exact⟨0,rfl,Zm _,rfl,a_ _ _⟩
     case round=>
      obtain⟨j,rfl,b',T,ab⟩:=hrel;have F:=U (z_ T ab);clear T ab
      by_cases z:j<aJ
      ·have Q:=H.o.2.2.2.2.2.below (Z.o.trans (F.o.2.mono Z.o.size));have a8:j<C.length:=by rw[Q.len];exact z
       have aN:(j:Int)<(aJ:Int):=by omega
       obtain⟨b,off,rfl,ab,aP⟩:=Q.cells (by omega);obtain⟨K,L,V⟩:=Q.Cn z a8;obtain⟨⟨N,⟨m,f,q,s⟩⟩,O⟩:∃e,C[j]=e:=⟨_,rfl⟩
       rw[O] at K L V;replace K:wr.cell? ⟨b,off+j*2,none⟩=some (.int .i64 N):=K;replace L:wr.cell? ⟨b,off+j*2+1,none⟩=some (.slice m f q):=L;have S:=(az.o.below F.o.2).cell 0;simp only[x_,w_] at S;clear aP Q z0 bV
       go_upto_region 21 with fail
       have lD:aO (wr.alloc (.cells #[.int .i64 N,.slice m f q] 126)) wr.heap.size 126 [.int .i64 N,.slice m f q]:=aO.new wr 126 _;have X:=bK wr (.cells #[.int .i64 N,.slice m f q] 126);generalize wr.alloc (.cells #[.int .i64 N,.slice m f q] 126)=v at*;have t0:=lD.cell 0;have t1:=lD.cell 1;simp only[x_,w_] at t0 t1;have ca:=((az.o.below F.o.2).below X).cell 0;simp only[x_,w_] at ca;have d:=U (z_ (show∀p:j<C.length,C[j]'p=(⟨N,⟨m,f,q,s⟩⟩:mc) from λ _=>O) (z_ (aQ.below V X) (z_ a8 z)));have aA:=U (Z.o.trans ((F.o.2.trans (X.mono F.o.2.size)).mono Z.o.size));have bW:=U (F.o.2.trans (X.mono F.o.2.size));clear lD K L O V a8 z b' X S
       by_cases aW:N<1
       ·have t:C.any (pK n)=true:=uL d.o.2.2.1 (by rw[d.o.1 d.o.2.2.1];unfold pK;rw[decide_eq_true aW];rfl);have D:=U t;clear t
        go_wp2_with fail
        go_ret;exact⟨nL (by rw[<-G.o,if_neg (by omega),if_neg (by rw[ar.o];exact l_),if_neg (by omega),if_pos D.o]),aA.o⟩
       ·by_cases bX:3<N
        ·have t:C.any (pK n)=true:=uL d.o.2.2.1 (by rw[d.o.1 d.o.2.2.1];unfold pK;rw[decide_eq_true bX];simp);have D:=U t;clear t
         go_wp2_with fail
         go_ret;exact⟨nL (by rw[<-G.o,if_neg (by omega),if_neg (by rw[ar.o];exact l_),if_neg (by omega),if_pos D.o]),aA.o⟩
        ·obtain⟨bY,bZ⟩:∃x,kZ n [s]=x:=⟨_,rfl⟩
         have aB:=U bZ;have b0:=U (vN n (some ⟨v.heap.size,0,none⟩) 1 1 [s] _ (nG.yf v ⟨m,f,q,s⟩ d.o.2.1).A2);clear bZ
         by_cases a':bY=0
         ·subst a';have ao:pK n ⟨N,⟨m,f,q,s⟩⟩=false:=by
           unfold pK;rw[decide_eq_false aW,decide_eq_false bX,aB.o];simp
          have aV:=U ao;clear ao
          go_wp2_with (go_at_call 107;refine b0.o.mono ?_;rintro e cc ⟨rfl,B⟩;rw[aB.o];have ba:=U B;clear B)
          go_roundw
          case rel=>exact⟨j+1,by go_num,by have:=d.o.2.2.2;omega,Cj d.o.2.2.1 (by rw[d.o.1 d.o.2.2.1];exact aV.o) F.o.1,bW.o.trans (((bK v _).trans (ba.o.mono (bK v _).size)).mono bW.o.size)⟩
          case measure=>have:=d.o.2.2.2;simp[intOf];omega
         ·have t:C.any (pK n)=true:=uL d.o.2.2.1 (by rw[d.o.1 d.o.2.2.1];unfold pK;rw[aB.o,decide_eq_true a'];simp);have D:=U t;have cm:(bY==0)=false:=by simpa using a'
          clear t
          go_wp2_with (go_at_call 107;refine b0.o.mono ?_;rintro e cc ⟨rfl,B⟩;rw[aB.o];have ba:=U B;clear B)
          go_ret;exact⟨nL (by rw[<-G.o,if_neg (by omega),if_neg (by rw[ar.o];exact l_),if_neg (by omega),if_pos D.o]),aA.o.trans (((bK v _).trans (ba.o.mono (bK v _).size)).mono aA.o.size)⟩
      ·have aE:=Ck H.o.2.2.2.2.2.len z F.o.1;have cd:=U aE;have aN:¬(j:Int)<(aJ:Int):=by omega
       clear aE
       go_wp2_with fail
       go_ret;exact⟨nL (by rw[<-G.o,if_neg (by omega),if_neg (by rw[ar.o];exact l_),if_neg (by omega),if_neg (by rw[cd.o];exact l_)]),Z.o.trans (F.o.2.mono Z.o.size)⟩
    ·have cn:(el==0)=false:=by simpa using a7
     go_wp2_with (go_at_call 107;refine(vN n J k c4 (es.map (λ e:lE=>e.r.ah)) wr bU.o).mono ?_;rintro e wt ⟨rfl,B⟩;rw[ai.o.2.2];have Z:=U (au.o.trans (B.mono au.o.size));clear B)
     go_ret;exact⟨nL (by rw[<-G.o,if_neg (by omega),if_neg (by rw[ar.o];exact l_),if_pos a7]),Z.o⟩
 ·have cp:(av==0)=false:=by simpa using aL
  go_wp2_with (go_at_call 107;refine aK.o.mono ?_;rintro e ws ⟨rfl,af⟩;rw[ai.o.2.1];have y:=U (ae.o.trans (af.mono ae.o.size));clear af)
  go_ret;exact⟨nL (by rw[<-G.o,if_pos aL]),y.o⟩
theorem Cx{s:kF}{aS:Nat}{c:Nat}{w:World}(O:oy n s)(f:n<=10)(b:pT w s bh aS gJ cl A c A' c' bt bk aT aY):
  Calls t_ 49 #[nP n bh s.gs.length aS gJ s.es.length cl A (n+1) c A' n c' s.aM bt (n+1) bk aT s.aA.length aY] w λ e w'=>e=.returned (.int .i64 0)/\Below w.heap.size w w':=by
 have d:=O.Nr f;have i:=O.nW;have j:=AD f;have hm:=HE n s.gs s.es s.act s.ord s.aM s.bl s.aA (by omega) O.hk.check O.oT (by omega) b.gs b.es (by have:=b.act;rw[O.hk.kM] at this;exact this) (by have:=b.ord;rw[O.hk.pE] at this;exact this) (by have:=b.bl;rw[O.nB] at this;exact this) b.aA;have g:ud s=false:=by
  unfold ud;rw[O.hk.check,O.oT,O.jh,O.hk.kM,O.hk.pE,O.nB];simp;omega
 unfold ue at d;rw[if_neg (by rw[g];exact l_),O.jh] at d;rw[d] at hm;exact hm
end
end Go.Proofs.YtogdlkfacflmaaaGreat
