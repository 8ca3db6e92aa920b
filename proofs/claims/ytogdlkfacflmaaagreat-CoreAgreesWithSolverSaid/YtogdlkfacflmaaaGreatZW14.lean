/- Parts of the walk of the solver and its core; no condition. -/
import Derived.Test.YtogdlkfacflmaaaGreatZW13
import Derived.Laws.Rows
import Derived.Test.YtogdlkfacflmaaaGreatZW1
import Derived.Test.YtogdlkfacflmaaaGreatZW10
namespace Go.Proofs.YtogdlkfacflmaaaGreat
set_option linter.unusedVariables false
set_option linter.unusedSimpArgs false
set_option maxRecDepth 1000000
set_option maxHeartbeats 8000000
open _root_.And renaming intro→z_
open _root_.List renaming getElem?_cons_succ→y_,getElem?_cons_zero→x_,mem_eraseIdx_iff_getElem→v_,mem_append→u_,all_eq_true→t_,getElem_mem→r_,length_map→q_,pairwise_iff_getElem→p_,mem_iff_getElem→k_,getElem?_eq_getElem→j_,range→i_,getElem_map→g_,mem_take_iff_getElem→e_,length_append→c_,mem_range→b_,any_eq_true→Zz,mem_map→Zw,eq_nil_of_length_eq_zero→Zv,mem_singleton→Zu,getD_eq_getElem?_getD→Zt,any_eq_false→Zq,getElem_append_right→Zo,getElem_append_left→Zm,mem_filter→Zk,take_of_length_le→Zi
open _root_.Bool renaming and_eq_true→w_,not_eq_true'→a_,or_eq_true→Zy,or_eq_false_iff→Zx,noConfusion→Zl
open _root_.Go.Proofs.Tryz renaming prog→s_,underlying28→Zr
open _root_.Nat renaming le_refl→o_,lt_or_ge→m_,eq_zero_or_pos→d_,zero_le→Zj,testBit_lt_two_pow→Zh
open _root_.Go.RowKit.Below renaming heap_setCell→n_,refl→Zp
open _root_.Go.Value.slice renaming injEq→l_
open _root_.Go.Value renaming bool→h_,slice→f_
open _root_.Go.World renaming ownsRow_nil→Zs
open _root_.Go.IntKind renaming wrap_i64→Zn,i64→Zg
variable{w:World}{base n c G k off:Nat}{A:Option Addr}{act ai a b l g keep:List Int}{K:Nat->Prop}{hs:Nat->ax}{cb:Nat->Nat}{s:an}{F ls:List (List Int)}{x y aW:Int}{M:Int->Bool}{jC m:List Bool}{α:Type}
section
open Go.RowKit Go.Shelf
theorem uX{bK:Nat}{w0 w':World}{row:Option Nat}(h:Below bK w0 w)(b:w.grownBy w' row)(hs:bK<=w.heap.size)(c:∀g,row=some g->bK<=g):Below bK w0 w':=
 ⟨b.os.trans h.os,b.tape.trans h.tape,b.output.trans h.output,Nat.le_trans h.size b.size,λ k hk=>(b.block k (by omega) (λ e=>by have:=c k e.symm;omega)).trans (h.block k hk)⟩
def B3(s:an)(i:Nat)(e:mJ):Prop:=e.r.ah=az s.c.cl (gV s.aO i)/\e.bg=(lF s (gV s.aO i)).bg/\e.ac=min (lF s (gV s.aO i)).ac jw
structure GV(s:an)(oK W:World)(gC:Nat)(v0 v1 v3 v4 v5 v6 jU:Value)(A:Option Addr)(j c:Nat)(es:List mJ):Prop where
 jC:aN W gC 47 [v0,v1,.slice A j c,v3,v4,v5,v6,jU]
 row:W.ownsRow oK.heap.size 74 3 (.slice A j c) j (pS es)
 len:es.length=j
 iR:aC (λ b=>b<oK.heap.size/\¬b=gC) oK W
 rd:∀e∈es,aS W e.r.A e.r.n e.r.c e.r.ah
 ap:∀e∈es,∀b,e.r.A.map (·.block)=some b->oK.heap.size<=b/\b<W.heap.size/\(f_ A j c).ownBlock≠some b
 sp:∀(i:Nat)(h:i<es.length),B3 s i es[i]
def M6(w:World)(hs:Nat->ax)(A:Option Addr)(es:List mJ)(c:Option Addr):Prop:=∃lo,w.heap.size<=lo/\(∀r b,(hs r).b=some b->b<lo)/\(∀b,A.map (·.block)=some b->lo<=b)/\(∀e∈es,∀b,e.r.A.map (·.block)=some b->lo<=b)/\∀b,c.map (·.block)=some b->lo<=b
def GW(K:Nat->Prop)(base:Nat)(w:World)(G:Nat)(cb:Nat->Nat)(F:List (List Int))(k:List Int)(n l m:Nat)(s:an)(qn:Int)(qo:Option Addr)(qp qq:Nat)(e:Ending)(w':World):Prop:=
 ∃(g:Nat->Prop)(d:Nat->ax)(iP:an)(o:Nat)(A:Option Addr)(c:Nat)(es:List mJ)(f:Option Addr)(j:Nat),e=.returned (.agg #[.int .i64 qn,.slice qo qp qq,.slice A es.length c,(d 6).v,.slice f n j,.int .i64 iP.aZ,(d 9).v,nL d iP])/\(∀b,K b->g b)/\aX g base w' G d cb iP/\aC K w w'/\mm F k n l iP m o/\
  iP.aA=s.aA/\iP.jr=s.jr/\iP.aO=s.aO/\iP.c.cl=s.c.cl/\rR w' A es.length c es/\es.length=iP.aO.length/\(∀(i:Nat)(h:i<es.length),B3 iP i es[i])/\aS w' f n j ((o5 iP.act (nJ n)).map (·.1))/\M6 w d A es f
theorem M7(f:n<=1000)(h:w.ownsRow base 3 1 (.slice A n c) n (iY ((i_ n).map λ j:Nat=>(j:Int)+1))){aH G:Nat}{jx:Option Addr}{n6 jL:Nat}(i:w.cell? ⟨aH,0,none⟩=some (.pointer (some ⟨G,0,none⟩)))(q:w.cell? ⟨G,8,none⟩=some (.slice jx n6 jL))
  (l:n6=n+1) (m:∃b,jx=some ⟨b,0,none⟩/\b<base/\∀v,v<=n->w.cell? ⟨b,v,none⟩=some (.int .i64 (aj act v))) (y:aH<base) (z:G<base) (B:base<=w.heap.size):
  Calls s_ 157 #[.slice A n c,.func (.func 158) #[] #[.pointer (some ⟨aH,0,none⟩)]] w λ e w'=>e=.returned (.tuple #[])/\w'.ownsRow base 3 1 (.slice A n c) n (iY ((o5 act (nJ n)).map (·.1)))/\Below base w w':=by
 rcases d_ n with d|d
 ·subst d
  haveI:Inhabited Int:=⟨0⟩
  refine(Tryz.slices_SortFunc_none (α:=Int) A c _ w).mono ?_;rintro e w' ⟨rfl,rfl⟩;have o:nJ 0=[]:=List.map_eq_nil_iff.1 (by rw[DP];rfl);refine⟨rfl,?_,Zp _ _⟩;rw[o];simp only[o5,List.mergeSort_nil];exact h
 ·obtain⟨k,rfl⟩:∃k,n=k+1:=⟨n-1,by omega⟩
  obtain⟨g,cap,p⟩:=CB h;injection p with r C D
  subst r;obtain⟨b,rfl,E,s⟩:=m;subst l;have t:=h.lt g rfl;refine(MV (ls:=nJ (k+1)) (act:=act) (base:=base) (by rw[DP];exact h) t.1 f (by omega) (by omega) i q s ⟨by omega,by omega⟩ ⟨by omega,by omega⟩ ⟨by omega,by omega⟩).mono ?_;rintro e w' ⟨rfl,h1,u⟩;exact⟨rfl,h1,u⟩
theorem M8{fL aB h:Nat}(E:aX K base w G hs cb s)(S:mm F ai n fL s aB h)(cY:n<=10)(cZ:s.c.st.length<=1000000)
  {qn s9:Int} {qo:Option Addr} {qp qq:Nat} {mP tc td mg sJ:Value}:
  Calls s_ 100 #[.pointer (some ⟨G,0,none⟩),.agg #[.int .i64 qn,(.slice qo qp qq),mP,tc,td,.int .i64 s9,mg,sJ]] w (GW K base w G cb F ai n fL aB s qn qo qp qq):=by
 have au:=aa E;have c0:=aa S;clear E S;go_enter Tryz.func100,Tryz.ntmps100
 go_upto_region 1 with fail
 have c4:∃al:Nat->Prop,al=qC (qC (qC K w.heap.size) (w.heap.size+1)) (w.heap.size+1+1):=⟨_,rfl⟩
 obtain⟨al,bs⟩:=c4;have bt:=bB w (.cells #[.pointer (some ⟨G,0,none⟩)] 115);have aI:=(au.o.below bt).1.qC (g:=w.heap.size) (by simp) (by have:=au.o.e.box.lt;omega) (λ r e=>by have:=(au.o.e.rows.lt e).2;omega) (λ d Q e=>by have:=(au.o.e.cls d Q).lt;omega);have ao:aN (w.alloc (.cells #[.pointer (some ⟨G,0,none⟩)] 115)) w.heap.size 115 [.pointer (some ⟨G,0,none⟩)]:=aN.new w 115 _;have bu:(w.alloc (.cells #[.pointer (some ⟨G,0,none⟩)] 115)).heap.size=w.heap.size+1:=by simp
 have b0:=bt;generalize w.alloc (.cells #[.pointer (some ⟨G,0,none⟩)] 115)=w1 at*;have ba:=bB w1 (.cells #[.int .i64 qn,(.slice qo qp qq),mP,tc,td,.int .i64 s9,mg,sJ] 47);have av:=(aI.below ba).1.qC (g:=w1.heap.size) (by simp) (by have:=aI.e.box.lt;omega) (λ r e=>by have:=(aI.e.rows.lt e).2;omega) (λ d Q e=>by have:=(aI.e.cls d Q).lt;omega);have aJ:aN (w1.alloc (.cells #[.int .i64 qn,(.slice qo qp qq),mP,tc,td,.int .i64 s9,mg,sJ] 47)) w1.heap.size 47 [.int .i64 qn,(.slice qo qp qq),mP,tc,td,.int .i64 s9,mg,sJ]:=aN.new w1 47 _;replace ao:=ao.below ba;have z2:(w1.alloc (.cells #[.int .i64 qn,(.slice qo qp qq),mP,tc,td,.int .i64 s9,mg,sJ] 47)).heap.size=w.heap.size+1+1:=by simp[bu]
 have b1:=b0.trans (ba.mono (by omega));rw[bu] at av aJ;generalize w1.alloc (.cells #[.int .i64 qn,(.slice qo qp qq),mP,tc,td,.int .i64 s9,mg,sJ] 47)=aw at*;have aK:=bB aw (.cells #[.int .i64 0,.slice none 0 0,.slice none 0 0,.slice none 0 0,.slice none 0 0,.int .i64 0,.slice none 0 0,.slice none 0 0] 47);have aL:=(av.below aK).1.qC (g:=aw.heap.size) (by simp) (by have:=av.e.box.lt;omega) (λ r e=>by have:=(av.e.rows.lt e).2;omega) (λ d Q e=>by have:=(av.e.cls d Q).lt;omega);have bw:aN (aw.alloc (.cells #[.int .i64 0,.slice none 0 0,.slice none 0 0,.slice none 0 0,.slice none 0 0,.int .i64 0,.slice none 0 0,.slice none 0 0] 47)) aw.heap.size 47 [.int .i64 0,.slice none 0 0,.slice none 0 0,.slice none 0 0,.slice none 0 0,.int .i64 0,.slice none 0 0,.slice none 0 0]:=aN.new aw 47 _;replace ao:=ao.below aK;replace aJ:=aJ.below aK;have b2:=b1.trans (aK.mono (by omega));rw[z2] at aL bw;rw[<-bs] at aL;generalize aw.alloc (.cells #[.int .i64 0,.slice none 0 0,.slice none 0 0,.slice none 0 0,.slice none 0 0,.int .i64 0,.slice none 0 0,.slice none 0 0] 47)=b3 at*;have aL:=aa aL;have aM:=aa (z_ ao (z_ aJ (z_ bw b2)));have c1:b3.cell? ⟨w.heap.size,0,none⟩=some (.pointer (some ⟨G,0,none⟩)):=ao.cell 0;clear aI av ao aJ bw b0 b1 b2 bt ba aK bu z2;have b4:=aa (GI aL.o c0.o (by omega) cZ);have aP:=aa bs;clear bs;obtain⟨aH,b5⟩:∃b,w.heap.size=b:=⟨_,rfl⟩
 rw[b5] at c1 aM aP⊢
 go_upto_region 2 with(go_at_call 147;refine b4.o.mono ?_;rintro e f ⟨rfl,L,iP,bx,b6,ay,b7,b8,b9,b',ca,cc,c5⟩;dsimp only)
 have cd:∀b,K b->al b:=λ b l=>by rw[aP.o];exact .inl (.inl (.inl l))
 have bz:al aH:=by rw[aP.o];exact .inl (.inl (.inr rfl))
 have bA:al (aH+1):=by rw[aP.o];exact .inl (.inr rfl)
 have bC:al (aH+1+1):=by rw[aP.o];exact .inr rfl
 have N:=aa (z_ (ay.blk aM.o.1 bz) (z_ (ay.blk aM.o.2.1 bA) (ay.blk aM.o.2.2.1 bC)));have m:=aa (z_ b6 (z_ b7 (z_ b8 (z_ b9 (z_ b' (z_ ca (z_ cc (z_ cd (z_ bz (z_ bA bC))))))))));have ay:=aa ay;clear b6 b7 b8 b9 b' ca cc c5 cd bz bA bC c1 b4;have c1:f.cell? ⟨aH,0,none⟩=some (.pointer (some ⟨G,0,none⟩)):=N.o.1.cell 0;obtain⟨B,n6,C,bD⟩:∃A n c,L 6=⟨A,n,c⟩:=⟨_,_,_,rfl⟩
 have aQ:f.cell? ⟨G,8,none⟩=some (.slice B n6 C):=by have:=m.o.1.e.ku (k:=8) (v:=(L 6).v) rfl;rw[bD] at this;exact this
 have cf:f.cell? ⟨G,9,none⟩=some (.int .i64 iP.aZ):=m.o.1.e.ku (k:=9) (v:=.int .i64 iP.aZ) rfl;have bb:=aa bD;clear bD
 go_region_held3 (λ w'=>w'.cell? ⟨aH,0,none⟩=some (.pointer (some ⟨G,0,none⟩))/\w'.cell? ⟨G,8,none⟩=some (.slice B n6 C)/\w'.cell? ⟨G,9,none⟩=some (.int .i64 iP.aZ)) (first|exact⟨c1,aQ,cf⟩|go_keep) (fail)
 have mO:aN ((f.alloc (.cells #[.slice B n6 C,.slice none 0 0,.int .i64 iP.aZ] 44)).drew) f.heap.size 44 [.slice B n6 C,.slice none 0 0,.int .i64 iP.aZ]:=aN.new f 44 _;have cg:Below f.heap.size f ((f.alloc (.cells #[.slice B n6 C,.slice none 0 0,.int .i64 iP.aZ] 44)).drew):=(bB f _).drew;have z5:((f.alloc (.cells #[.slice B n6 C,.slice none 0 0,.int .i64 iP.aZ] 44)).drew).heap.size=f.heap.size+1:=by
  show(f.alloc _).heap.size=_;simp
 have ch:=m.o.2.1.rg.jt;have ab:f.cell? ⟨G,0,none⟩=some (.int .i64 (n:Int)):=by have:=m.o.1.e.ku (k:=0) (v:=.int .i64 (iP.c.n:Int)) rfl;rw[ch] at this;exact this
 have bc:=aa (z_ mO (z_ cg (z_ z5 (z_ ab c1))));have cj:=m.o.1.e.box.lt;have ck:=N.o.1.lt;have aA:=aa (z_ cj ck);clear mO cg z5 ch ab c1 aQ cf cj ck;generalize (f.alloc (.cells #[.slice B n6 C,.slice none 0 0,.int .i64 iP.aZ] 44)).drew=dO at*
 go_wp2_with fail
 go_loopw [6] (λ i W=>∃(k:Nat)(D:Option Addr)(H:Nat),i=.int .i64 ((k:Int)+1)/\k<=n/\aN W f.heap.size 44 [.slice B n6 C,.slice D k H,.int .i64 iP.aZ]/\W.ownsRow (f.heap.size+1) 3 1 (.slice D k H) k (iY ((i_ k).map λ j:Nat=>(j:Int)+1))/\Below f.heap.size f W) (λ i _=>n+1-(intOf i).toNat)
 case atStart=>exact⟨0,none,0,rfl,Zj _,bc.o.1,Zs _ _ _ _,bc.o.2.1⟩
 case round=>
  obtain⟨k,D,H,rfl,hk,bd,hO,bf⟩:=hrel;have Y:=aa (z_ hk (z_ bd (z_ hO bf)));have c1:wr.cell? ⟨aH,0,none⟩=some (.pointer (some ⟨G,0,none⟩)):=(bf.cell (p:=⟨aH,0,none⟩) aA.o.2).trans bc.o.2.2.2.2;have ab:wr.cell? ⟨G,0,none⟩=some (.int .i64 (n:Int)):=(bf.cell (p:=⟨G,0,none⟩) aA.o.1).trans bc.o.2.2.2.1;have cm:=bd.cell 1;have c6:=bd.free 1;simp only[x_,y_] at cm;clear hk bd hO bf
  by_cases ad:k<n
  ·have bE:(k:Int)+1<=(n:Int):=by omega
   have d1:decide ((k:Int)+1<=(n:Int))=true:=decide_eq_true bE;have dP:Zg.wrap ((k:Int)+1+1)=(k:Int)+1+1:=by rw[Zn];omega
   have cn:=aa ad;have aD:f.heap.size+1<=wr.heap.size:=by have:=Y.o.2.1.lt;omega
   have bF:fE ((wr.alloc (.cells #[.int .i64 ((k:Int)+1)] 3)).ownsRow (f.heap.size+1) 3 1 (.slice D k H) k (iY ((i_ k).map λ j:Nat=>(j:Int)+1))):=aa (nc Y.o.2.2.1 (bB wr _));have cp:=aa aD;clear ad aD
   go_upto_region 5 with(at_builtin;refine uH rfl (.tmp 29) (.tmp 31) rfl (f.heap.size+1) (.slice D k H) k ((i_ k).map λ j:Nat=>(j:Int)+1) rfl bF.o (some ⟨wr.heap.size,0,none⟩) 1 1 [(k:Int)+1] rfl (aS.lit wr [(k:Int)+1] 1 _ rfl rfl (by omega)) (by omega) (by have:=cp.o;simp;omega) ?_;intro v9 bG bh;obtain⟨⟨t,j3,y⟩,c7,bj⟩:=ax.lG bh.1;obtain rfl:v9=.slice t j3 y:=c7;have bH:=aa ((Y.o.2.1.below (bB wr (.cells #[.int .i64 ((k:Int)+1)] 3))).kept bh.2.1 (λ e=>by have:=(bF.o.lt f.heap.size e.symm).1;omega));have cq:=bH.o.cell 1;have c8:=bH.o.free 1;simp only[x_,y_] at cq;have bI:=aa bh;have c9:=aa bj;clear bh bj)
   have bj:j3=k+1:=c9.o;subst bj;have aq:(bG.setCell ⟨f.heap.size,1,none⟩ (.slice t (k+1) y)).ownsRow (f.heap.size+1) 3 1 (.slice t (k+1) y) (k+1) (iY ((i_ (k+1)).map λ j:Nat=>(j:Int)+1)):=by
    have h1:=pL bI.o.1 (w':=bG.setCell ⟨f.heap.size,1,none⟩ (.slice t (k+1) y)) (λ b l=>n_ _ _ _ _ (by show b≠f.heap.size;have:=(bI.o.1.lt b l).1;omega));rw[List.range_succ,List.map_append];exact h1
   have cr:Below f.heap.size f (bG.setCell ⟨f.heap.size,1,none⟩ (.slice t (k+1) y)):=by
    refine Below.setCell (p:=⟨f.heap.size,1,none⟩) ?_ (o_ _) _;exact uX (Y.o.2.2.2.alloc Y.o.2.2.2.size (.cells #[.int .i64 ((k:Int)+1)] 3)) bI.o.2.1 (by have:=cp.o;simp;omega) (λ g e=>by have:=(bF.o.lt g e).1;show f.heap.size<=g;omega)
   have ct:=bH.o.set 1 (.slice t (k+1) y);have Z:=aa (z_ aq (z_ cr ct));clear aq cr ct cq c8
   go_wp2_with fail
   go_roundw
   case rel=>exact⟨k+1,t,y,by go_num,by have:=cn.o;omega,Z.o.2.2,Z.o.1,Z.o.2.1⟩
   case measure=>have:=cn.o;simp[intOf];omega
  ·have bE:¬(k:Int)+1<=(n:Int):=by omega
   have d1:decide ((k:Int)+1<=(n:Int))=false:=decide_eq_false bE;obtain rfl:k=n:=by have:=Y.o.1;omega
   clear ad;have aQ:wr.cell? ⟨G,8,none⟩=some (.slice B n6 C):=by have:=((Y.o.2.2.2.cell (p:=⟨G,8,none⟩) aA.o.1).trans (m.o.1.e.ku (k:=8) (v:=(L 6).v) rfl));rw[bb.o] at this;exact this
   have dQ:∀(fn:Fn)(first cap:Array Value)(w:World),(Instr.makeFunc fn first cap).run s_ w=.ok (.func fn first cap) w:=λ _ _ _ _=>rfl
   have da:iP.act.length=k+1:=m.o.2.1.rg.k5;have cu:=aa (M7 (act:=iP.act) (by omega) Y.o.2.2.1 c1 aQ (by have:=m.o.1.e.n6;rw[bb.o] at this;show n6=_;have z:n6=iP.act.length:=this;omega) (by
    obtain⟨bJ,bk,dR,dS⟩:=m.o.1.e.lW 8 6 rfl m.o.1.e.n6 (by omega);have h1:(L 6).A=some ⟨bJ,0,none⟩:=(m.o.1.e.rows.form bk).1;rw[bb.o] at h1;refine⟨bJ,h1,by have:=(m.o.1.e.rows.lt bk).2;omega,λ v dT=>?_⟩;exact(Y.o.2.2.2.cell (p:=⟨bJ,v,none⟩) (m.o.1.e.rows.lt bk).2).trans (m.o.1.e.yC bk (by omega))) (by have:=aA.o;omega) (by have:=aA.o;omega) (by have:=Y.o.2.1.lt;omega))
   clear aQ da
   go_upto_region 8 with(go_at_call 157;refine cu.o.mono ?_;rintro e I ⟨rfl,cv,cw⟩;dsimp only)
   have cx:aN I f.heap.size 44 [.slice B n6 C,.slice D k H,.int .i64 iP.aZ]:=by
    have ad:=Y.o.2.1.lt;exact(cw.block f.heap.size (by omega)).trans Y.o.2.1
   have bK:Below f.heap.size f I:=Y.o.2.2.2.trans (cw.mono (by omega));have Z:=aa (z_ cv (z_ cx bK));have jC:=(bK.block (aH+1) (N.o.2.1.lt)).trans N.o.2.1;have bL:fE (aN I (aH+1) 47 [.int .i64 qn,(.slice qo qp qq),mP,tc,td,.int .i64 s9,mg,sJ]):=aa jC;clear cv cx bK jC cu cm c6;have s2:=bL.o.cell 2;have cy:=bL.o.free 2;simp only[x_,y_] at s2
   go_upto_region 9 with fail
   have cz:=(m.o.1.below Z.o.2.2).1;have ae:=cz.uU (g:=aH+1) m.o.2.2.2.2.2.2.2.2.2.1 2 (.slice none 0 0);have db:(I.setCell ⟨aH+1,2,none⟩ (.slice none 0 0)).heap.size=I.heap.size:=by simp
   have cA:aN (I.setCell ⟨aH+1,2,none⟩ (.slice none 0 0)) (aH+1) 47 [.int .i64 qn,(.slice qo qp qq),.slice none 0 0,tc,td,.int .i64 s9,mg,sJ]:=bL.o.set 2 _;have cB:(I.setCell ⟨aH+1,2,none⟩ (.slice none 0 0)).ownsRow (f.heap.size+1) 3 1 (.slice D k H) k (iY ((o5 iP.act (nJ k)).map (·.1))):=pL Z.o.1 (λ b l=>n_ _ _ _ _ (by show b≠aH+1;have:=(Z.o.1.lt b l).1;have:=N.o.2.1.lt;omega));have cC:aN (I.setCell ⟨aH+1,2,none⟩ (.slice none 0 0)) f.heap.size 44 [.slice B n6 C,.slice D k H,.int .i64 iP.aZ]:=Z.o.2.1.kept (kZ I (aH+1) 2 (.slice none 0 0)) (λ e=>by injection e with e;have:=N.o.2.1.lt;omega);have cD:aN (I.setCell ⟨aH+1,2,none⟩ (.slice none 0 0)) aH 115 [.pointer (some ⟨G,0,none⟩)]:=aN.kept (show aN I aH 115 _ from(Z.o.2.2.block aH aA.o.2).trans N.o.1) (kZ I (aH+1) 2 (.slice none 0 0)) (λ e=>by injection e with e;omega);have cE:aN (I.setCell ⟨aH+1,2,none⟩ (.slice none 0 0)) (aH+1+1) 47 [.int .i64 0,.slice none 0 0,.slice none 0 0,.slice none 0 0,.slice none 0 0,.int .i64 0,.slice none 0 0,.slice none 0 0]:=aN.kept (show aN I (aH+1+1) 47 _ from(Z.o.2.2.block (aH+1+1) N.o.2.2.lt).trans N.o.2.2) (kZ I (aH+1) 2 (.slice none 0 0)) (λ e=>by injection e with e;omega);have ae:=aa ae;have dc:fE (aC K f (I.setCell ⟨aH+1,2,none⟩ (.slice none 0 0))):=aa (by
    have aR:=au.o.s.lt;have hw:Below f.heap.size f (I.setCell ⟨aH+1,2,none⟩ (.slice none 0 0))->True:=λ _=>trivial
    refine(aC.pY Z.o.2.2 (λ b l=>m.o.1.s.lt b (m.o.2.2.2.2.2.2.2.1 b l))).trans (aC.set (aH+1) 2 _ (λ hk=>by have:=aR _ hk;omega)))
   have J:=aa (z_ cA (z_ cB (z_ cC (z_ cD cE))));clear cz cA cB cC cD cE db s2 cy;generalize I.setCell ⟨aH+1,2,none⟩ (.slice none 0 0)=V at*;have dU:V.cell? ⟨aH,0,none⟩=some (.pointer (some ⟨G,0,none⟩)):=J.o.2.2.2.1.cell 0;obtain⟨cG,n10,dd,bl⟩:∃A n c,L 10=⟨A,n,c⟩:=⟨_,_,_,rfl⟩
   have dV:V.cell? ⟨G,13,none⟩=some (.slice cG n10 dd):=by have:=ae.o.e.ku (k:=13) (v:=(L 10).v) rfl;rw[bl] at this;exact this
   have cH:n10=iP.aO.length:=by have:=ae.o.e.n10;rw[bl] at this;exact this
   have aE:=aa (z_ bl cH);clear bl cH c1 ab
   go_wp2_with fail
   have dW:iP.aO.length<=60000:=by
    have h1:=m.o.2.1.mT;have z:3^k<=3^10:=Nat.pow_le_pow_right (by omega) cY;have ar:(3:Nat)^10=59049:=by decide
    omega
   go_loopw [44] (λ i W=>∃(j:Nat)(A:Option Addr)(c:Nat)(es:List mJ),i=.int .i64 (j:Int)/\j<=n10/\GV iP V W (aH+1) (.int .i64 qn) (.slice qo qp qq) tc td (.int .i64 s9) mg sJ A j c es) (λ i _=>n10-(intOf i).toNat)
   case atStart=>exact⟨0,none,0,[],rfl,Zj _,⟨J.o.1,Zs _ _ _ _,rfl,aC.refl,λ e h=>by(cases h),λ e h=>by(cases h),λ i h=>by(simp at h)⟩⟩
   case round=>
    obtain⟨j,A,c,es,rfl,dX,bM⟩:=hrel;have q:=aa bM;have ag:=aa (ae.o.still (P:=λ b=>b=aH+1) bM.iR (λ b e=>by rw[e];exact m.o.2.2.2.2.2.2.2.2.2.1));clear bM
    by_cases ad:j<n10
    ·have de:(j:Int)<(n10:Int):=by omega
     have bN:j<iP.aO.length:=by rw[<-aE.o.2];exact ad
     obtain⟨d,Q⟩:∃d,gV iP.aO j=d:=⟨_,rfl⟩
     have bn:d<iP.c.cl.length:=by rw[<-Q];exact m.o.2.1.rg.kX _ (FF bN)
     obtain⟨g10,bo,cI⟩:=ag.o.e.rows.addr (r:=10) (by rw[aE.o.1];show n10≠0;omega);rw[aE.o.1] at bo;have bo:cG=some ⟨g10,0,none⟩:=bo;subst bo;have cl:=ag.o.e.FE cI bN;rw[Q] at cl;obtain⟨ab,df,cJ,cK,dh⟩:=ag.o.zV bn;obtain⟨aT,aF,aU,aV⟩:∃A n c,L (kr d)=⟨A,n,c⟩:=⟨_,_,_,rfl⟩
     rw[aV] at ab;replace ab:wr.cell? ⟨cb d,0,none⟩=some (.slice aT aF aU):=ab;have cL:aS wr aT aF aU (az iP.c.cl d):=by
      have h1:=ag.o.e.rows.row (kr d);have z:=ag.o.e.z1 d;rw[aV,Df,Bp,xX] at h1;rw[aV] at z;have ar:=(m.o.2.1.gP.jF.mB d bn).len;rw[m.o.2.1.rg.jt] at ar;have z:aF=(az iP.c.cl d).length:=z;exact aS.lG h1 (by omega)
     obtain⟨bg,bO⟩:∃x,(lF iP d).bg=x:=⟨_,rfl⟩
     obtain⟨ac,bP⟩:∃x,(lF iP d).ac=x:=⟨_,rfl⟩
     rw[bO] at cJ;rw[bP] at cK;have s2:=q.o.jC.cell 2;have cy:=q.o.jC.free 2;simp only[x_,y_] at s2;have dY:Zg.wrap ((j:Int)+1)=(j:Int)+1:=by rw[Zn];omega
     have aW:=aa (z_ ad (z_ Q (z_ bO (z_ bP bn))));have di:fE (GQ wr V.heap.size (aH+1) A j c es (cb d) aT aF aU (az iP.c.cl d) bg ac):=aa (by
      have cM:=q.o.iR.size;have dZ:=J.o.1.lt;have d':=(ae.o.e.cls d bn).lt;have aq:∀g,(f_ A j c).ownBlock=some g->V.heap.size<=g/\g<wr.heap.size:=λ g e=>q.o.row.lt g e
      refine⟨s2,by omega,λ e=>by have:=(aq _ e.symm).1;omega,ab,cJ,cK,by omega,λ e=>by have:=(aq _ e.symm).1;omega,cL,λ b e=>?_,λ g e=>(aq g e).2,cM,by have:=aE.o.2;omega⟩;have h1:(L (kr d)).b=some b:=by rw[aV];exact e
      have z:=(ae.o.e.rows.lt h1).2;exact⟨by omega,λ bp=>by have:=(aq _ bp.symm).1;omega⟩)
     have bQ:=aa (M4 wr V.heap.size (aH+1) A j c es (cb d) aT aF aU (az iP.c.cl d) bg ac di.o);clear ad bN Q bO bP df dh cL aV cI
     go_upto_region 12 with fail
     refine z7 (rj Tryz.f100 12) 20 82 _ _ [(3,.pointer (some ⟨aH+1,0,none⟩)),(8,.pointer (some ⟨cb d,0,none⟩))] _ (GE wr V.heap.size (aH+1) A j c es (cb d) aT aF aU (az iP.c.cl d) bg ac) _ _ 18 (by kernel_rfl) (by kernel_rfl) (by kernel_rfl) (by kernel_rfl) (by kernel_rfl) (by decide+kernel) (by decide+kernel) (by decide+kernel) (by decide+kernel) (by decide+kernel) rfl ⟨rfl,rfl,trivial⟩ (DN (Gb wr _)) (nc q.o.row ((Zp _ _).drew)) bQ.o _ rfl ?_;intro vals M O ah dj aY;obtain⟨a6,c2,t,y,f18,bR,cN,dk,dm⟩:∃a6 c2 t y,vals 18=.slice t (j+1) y/\s8 wr M a6 c2 (az iP.c.cl d)/\M.ownsRow V.heap.size 74 3 (.slice t (j+1) y) (j+1) (pS (es++[B2 a6 c2 (az iP.c.cl d) bg ac]))/\((f_ t (j+1) y).ownBlock=(f_ A j c).ownBlock\/∀g,(f_ t (j+1) y).ownBlock=some g->wr.heap.size<=g)/\∀b,a6.map (·.block)=some b->(f_ t (j+1) y).ownBlock≠some b:=ah 18 (by omega) rfl;have f19:vals 19=.pointer (some ⟨aH+1,2,none⟩):=ah 19 (by omega) rfl;simp only[nZ,Act.put,List.take,f18,f19] at aY;subst aY;have cM:=q.o.iR.size;have cO:=J.o.1.lt;have br:=q.o.jC.kept O (λ e=>by have:=(q.o.row.lt (aH+1) e.symm).1;omega);have bS:=br.cell 2;have f11:=br.free 2;simp only[x_,y_] at bS;have cP:GV iP V (M.setCell ⟨aH+1,2,none⟩ (.slice t (j+1) y)) (aH+1) (.int .i64 qn) (.slice qo qp qq) tc td (.int .i64 s9) mg sJ t (j+1) y (es++[B2 a6 c2 (az iP.c.cl d) bg ac]):=by
      have dn:∀b,V.heap.size<=b->b<wr.heap.size->(f_ A j c).ownBlock≠some b->(M.setCell ⟨aH+1,2,none⟩ (.slice t (j+1) y)).heap[b]? =wr.heap[b]? :=λ b h1 z ar=>(n_ _ _ _ _ (show b≠aH+1 by omega)).trans (O.block b z (λ e=>ar e.symm))
      have aD:wr.heap.size<=(M.setCell ⟨aH+1,2,none⟩ (.slice t (j+1) y)).heap.size:=Nat.le_trans O.size (kZ M (aH+1) 2 _).size;refine⟨br.set 2 _,pL cN (λ b l=>n_ _ _ _ _ (show b≠aH+1 by have:=(cN.lt b l).1;omega)),by rw[c_,q.o.len];rfl,?_,λ e he=>?_,λ e he b l=>?_,λ i dp=>?_⟩
      ·refine(q.o.iR.trans ⟨O.os,O.tape,O.output,O.size,λ b l=>O.block b (by omega) (λ e=>by have:=(q.o.row.lt b e.symm).1;omega)⟩).trans (aC.set (aH+1) 2 _ (λ h=>h.2 rfl))
      ·rcases u_.1 he with h1|h1
       ·exact(q.o.rd e h1).x9 aD (λ b l=>by have z:=q.o.ap e h1 b l;exact dn b z.1 z.2.1 z.2.2)
       ·rw[Zu.1 h1];exact bR.1.x9 (kZ M (aH+1) 2 _).size (λ b l=>n_ _ _ _ _ (show b≠aH+1 by have:=(bR.2 b l).1;omega))
      ·rcases u_.1 he with h1|h1
       ·obtain⟨z,ar,bx⟩:=q.o.ap e h1 b l;refine⟨z,by omega,λ bp=>?_⟩;rcases dk with bT|bT
        ·exact bx (by rw[<-bT];exact bp)
        ·have:=bT b bp;omega
       ·rw[Zu.1 h1] at l;obtain⟨z,ar⟩:=bR.2 b l;exact⟨by omega,Nat.lt_of_lt_of_le ar (kZ M (aH+1) 2 _).size,dm b l⟩
      ·rcases m_ i es.length with h1|h1
       ·rw[Zm h1];exact q.o.sp i h1
       ·have z:i=es.length:=by rw[c_,List.length_singleton] at dp;omega
        subst z;rw[Zo (o_ _)];simp only[Nat.sub_self,List.getElem_cons_zero];have Q:=aW.o.2.1;have hl:=q.o.len;unfold B3;rw[hl,Q];exact⟨rfl,aW.o.2.2.1.symm,by show min ac 1099511627776=_;rw[aW.o.2.2.2.1];rfl⟩
     have dq:=aa cP;clear cP br O ah;simp only[bq,execOp];simp[cF,go_sem,Act.eval,Act.put,bS,f11];clear bS f11
     go_wp2_with fail
     go_roundw
     case rel=>exact⟨j+1,t,y,_,by go_num,by have:=aW.o.1;omega,dq.o⟩
     case measure=>have:=aW.o.1;simp[intOf];omega
    ·have de:¬(j:Int)<(n10:Int):=by omega
     obtain rfl:j=n10:=by omega
     clear ad
     go_upto_region 14 with fail
     have a7:wr.cell? ⟨G,12,none⟩=some (L 9).v:=ag.o.e.ku (k:=12) (v:=(L 9).v) rfl;have bU:wr.cell? ⟨G,14,none⟩=some (nL L iP):=ag.o.e.ku (k:=14) (v:=nL L iP) rfl;obtain⟨t,j3,y,bV⟩:∃A n c,L 9=⟨A,n,c⟩:=⟨_,_,_,rfl⟩
     obtain⟨R,T,U,bW⟩:∃A n c,nL L iP=.slice A n c:=by
      unfold nL
      cases iP.jr with
      |none=>exact⟨_,_,_,rfl⟩
      |some h=>exact⟨_,_,_,rfl⟩
     rw[bV] at a7;rw[bW] at bU;replace a7:wr.cell? ⟨G,12,none⟩=some (.slice t j3 y):=a7;have cO:=J.o.1.lt;have cQ:=J.o.2.2.1.lt;have cR:=J.o.2.2.2.1.lt;have bX:f.heap.size≠aH+1:=by have:=N.o.2.1.lt;omega
     have a8:aN wr f.heap.size 44 [.slice B n6 C,.slice D k H,.int .i64 iP.aZ]:=q.o.iR.blk J.o.2.2.1 ⟨cQ,bX⟩;have cS:aN wr aH 115 [.pointer (some ⟨G,0,none⟩)]:=q.o.iR.blk J.o.2.2.2.1 ⟨cR,by omega⟩;have cT:aN wr (aH+1+1) 47 [.int .i64 0,.slice none 0 0,.slice none 0 0,.slice none 0 0,.slice none 0 0,.int .i64 0,.slice none 0 0,.slice none 0 0]:=q.o.iR.blk J.o.2.2.2.2 ⟨J.o.2.2.2.2.lt,by omega⟩;have dr:G≠aH+1:=λ e=>ae.o.s.g (by rw[e];exact m.o.2.2.2.2.2.2.2.2.2.1)
     have dt:fE (GR wr G aH (aH+1) f.heap.size (.int .i64 qn) (.slice qo qp qq) (.slice A j c) tc td (.int .i64 s9) mg sJ B n6 C D k H iP.aZ t j3 y R T U):=aa (by
      have aD:=q.o.iR.size;exact⟨a8.cell 0,a8.cell 1,a8.cell 2,⟨by omega,bX⟩,cS.cell 0,⟨by omega,by omega⟩,a7,bU,⟨Nat.lt_of_lt_of_le ae.o.e.box.lt aD,dr⟩⟩)
     have bQ:=aa (M5 wr G aH (aH+1) f.heap.size (.int .i64 qn) (.slice qo qp qq) (.slice A j c) tc td (.int .i64 s9) mg sJ B n6 C D k H iP.aZ t j3 y R T U dt.o);have bY:=aa (z_ bV (z_ bW (z_ a8 (z_ cT bX))));clear bV bW a8 cS cT cO cQ cR a7 bU;refine z7 (rj Tryz.f100 14) 14 82 _ _ [(5,.pointer (some ⟨f.heap.size,0,none⟩)),(2,.pointer (some ⟨aH,0,none⟩)),(3,.pointer (some ⟨aH+1,0,none⟩))] _ (yc wr G aH (aH+1) f.heap.size (.int .i64 qn) (.slice qo qp qq) (.slice A j c) tc td (.int .i64 s9) mg sJ B n6 C D k H iP.aZ t j3 y R T U) GU _ 10 (by kernel_rfl) (by kernel_rfl) (by kernel_rfl) (by kernel_rfl) (by kernel_rfl) (by decide+kernel) (by decide+kernel) (by decide+kernel) (by decide+kernel) (by decide+kernel) rfl ⟨rfl,rfl,rfl,trivial⟩ (DN (Gb wr _)) ⟨mg,q.o.jC⟩ bQ.o _ rfl ?_;intro vals M O ah dj aY;have f12:aN M (aH+1) 47 [.int .i64 qn,(.slice qo qp qq),.slice A j c,.slice B n6 C,.slice D k H,.int .i64 iP.aZ,.slice t j3 y,sJ]:=ah 12 (by omega) rfl;have f13:vals 13=.pointer (some ⟨aH+1,7,none⟩):=ah 13 (by omega) rfl;have f8:vals 8=.slice R T U:=ah 8 (by omega) rfl;simp only[nZ,Act.put,List.take,f13,f8] at aY;subst aY;have bZ:=f12.cell 7;have cU:=f12.free 7;simp only[x_,y_] at bZ;have aj:=aa (f12.set 7 (.slice R T U));have X:fE (aN (M.setCell ⟨aH+1,7,none⟩ (.slice R T U)) (aH+1+1) 47 [.int .i64 0,.slice none 0 0,.slice none 0 0,.slice none 0 0,.slice none 0 0,.int .i64 0,.slice none 0 0,.slice none 0 0]):=aa ((bY.o.2.2.2.1.kept O (λ e=>by injection e with e;omega)).kept (kZ M (aH+1) 7 (.slice R T U)) (λ e=>by injection e with e;omega));have a':fE (wr.grownBy (M.setCell ⟨aH+1,7,none⟩ (.slice R T U)) (some (aH+1))):=aa (xg O (kZ M (aH+1) 7 _));simp only[bq,execOp];simp[cF,go_sem,Act.eval,Act.put,bZ,cU];clear bZ cU f12 O ah;generalize M.setCell ⟨aH+1,7,none⟩ (.slice R T U)=cV at*;have du:=aj.o.cell 0;have dv:=aj.o.cell 1;have dw:=aj.o.cell 2;have dx:=aj.o.cell 3;have dy:=aj.o.cell 4;have dz:=aj.o.cell 5;have dA:=aj.o.cell 6;have dB:=aj.o.cell 7;have dC:=X.o.cell 0;have dD:=X.o.cell 1;have dE:=X.o.cell 2;have dF:=X.o.cell 3;have dG:=X.o.cell 4;have dH:=X.o.cell 5;have dI:=X.o.cell 6;have dJ:=X.o.cell 7;have ak:=X.o.free;have ea:=ak 0;have eb:=ak 1;have ec:=ak 2;have ed:=ak 3;have ee:=ak 4;have ef:=ak 5;have eg:=ak 6;have eh:=ak 7;simp only[List.set_cons_succ,List.set_cons_zero,x_,y_] at du dv dw dx dy dz dA dB dC dD dE dF dG dH dI dJ
     go_wp2_with fail
     have dK:=(((((((X.o.set 0 (.int .i64 qn)).set 1 (.slice qo qp qq)).set 2 (.slice A j c)).set 3 (.slice B n6 C)).set 4 (.slice D k H)).set 5 (.int .i64 iP.aZ)).set 6 (.slice t j3 y)).set 7 (.slice R T U);have cW:aC (λ b=>b<wr.heap.size/\¬(b=aH+1\/b=aH+1+1)) wr cV:=⟨a'.o.os,a'.o.tape,a'.o.output,a'.o.size,λ b l=>a'.o.block b l.1 (λ e=>by injection e with e;exact l.2 (.inl e))⟩
     have af:∀(u:World)(i:Nat)(v:Value),aC (λ b=>b<wr.heap.size/\¬(b=aH+1\/b=aH+1+1)) u (u.setCell ⟨aH+1+1,i,none⟩ v):=λ u i v=>aC.set (aH+1+1) i v (λ h=>h.2 (.inr rfl))
     have aG:=(((((((cW.trans (af cV 0 (.int .i64 qn))).trans (af _ 1 (.slice qo qp qq))).trans (af _ 2 (.slice A j c))).trans (af _ 3 (.slice B n6 C))).trans (af _ 4 (.slice D k H))).trans (af _ 5 (.int .i64 iP.aZ))).trans (af _ 6 (.slice t j3 y))).trans (af _ 7 (.slice R T U));clear cW af;refine bodyPost_ret (results_cell_row (p:=4) (ty:=47) rfl _ _ (aH+1+1) 47 #[.int .i64 qn,.slice qo qp qq,.slice A j c,.slice B n6 C,.slice D k H,.int .i64 iP.aZ,.slice t j3 y,.slice R T U] (0,0) _ rfl dK Tryz.underlying47 rfl (by kernel_rfl)) rfl ?_;have dL:w.heap.size=aH:=b5;have ei:=q.o.iR.size;have ej:=J.o.1.lt;have ek:=J.o.2.2.2.2.lt;have hlen:=q.o.len;subst hlen;have dM:(L 6).v=.slice B n6 C:=by rw[bb.o];rfl
     have dN:(L 9).v=.slice t j3 y:=by rw[bY.o.1];rfl
     have cX:wr.ownsRow (f.heap.size+1) 3 1 (.slice D k H) k (iY ((o5 iP.act (nJ k)).map (·.1))):=pL J.o.2.1 (λ b l=>by
      have h1:=J.o.2.1.lt b l;have z:=N.o.2.1.lt;exact q.o.iR.keep b ⟨h1.2,by omega⟩)
     refine⟨al,L,iP,bx,A,c,es,D,H,by rw[dM,dN,bY.o.2.1],m.o.2.2.2.2.2.2.2.1,ag.o.still (P:=λ b=>b=aH+1\/b=aH+1+1) aG (λ b l=>?_),?_,m.o.2.1,m.o.2.2.2.1,m.o.2.2.2.2.1,m.o.2.2.2.2.2.1,m.o.2.2.2.2.2.2.1,rR.lG (pL q.o.row (λ b l=>?_)) (by have:=aE.o.2;omega) (λ e he=>?_),by rw[<-aE.o.2],q.o.sp,aS.lG (pL cX (λ b l=>?_)) (by omega),⟨f.heap.size,by have z:=N.o.2.1.lt;omega,λ r b e=>(m.o.1.e.rows.lt e).2,λ b e=>?_,λ e he b l=>?_,λ b e=>?_⟩⟩
     ·rcases l with l|l
      ·rw[l];exact m.o.2.2.2.2.2.2.2.2.2.1
      ·rw[l];exact m.o.2.2.2.2.2.2.2.2.2.2
     ·have aR:=au.o.s.lt;have f1:aC K w b3:=aC.pY (by rw[dL];exact aM.o.2.2.2) aR;refine(((f1.trans (ay.o.mono m.o.2.2.2.2.2.2.2.1)).trans dc.o).trans (q.o.iR.mono λ b l=>?_)).trans (aG.mono λ b l=>?_)
      ·have:=aR b l;exact⟨by omega,by omega⟩
      ·have:=aR b l;exact⟨by omega,by omega⟩
     ·have h1:=q.o.row.lt b l;exact aG.keep b ⟨h1.2,by omega⟩
     ·refine(q.o.rd e he).x9 aG.size (λ b l=>?_);have h1:=q.o.ap e he b l;exact aG.keep b ⟨h1.2.1,by omega⟩
     ·have h1:=J.o.2.1.lt b l;have z:=N.o.2.2.lt;exact aG.keep b ⟨by omega,by omega⟩
     ·have h1:=(q.o.row.lt b ((ax.own ⟨A,es.length,c⟩).trans e)).1;have z:=J.o.2.2.1.lt;omega
     ·have h1:=(q.o.ap e he b l).1;have z:=J.o.2.2.1.lt;omega
     ·have h1:=(cX.lt b ((ax.own ⟨D,k,H⟩).trans e)).1;have z:=N.o.2.1.lt;omega
end
section
open Go.RowKit
def B4(n:Nat)(aM:Option Addr)(b aF:Nat)(d:Option Addr)(nl cl:Nat)(A:Option Addr)(e c:Nat)(A':Option Addr)(f c':Nat)(g:Int)(i:Option Addr)(j k:Nat)(l:Option Addr)(m o:Nat):Value:=
 .agg #[.int .i64 n,.slice aM b aF,.slice d nl cl,.slice A e c,.slice A' f c',.int .i64 g,.slice i j k,.slice l m o]
def B5:Value:=.agg #[.int .i64 0,.slice none 0 0,.slice none 0 0,.slice none 0 0,.slice none 0 0,.int .i64 0,.slice none 0 0,.slice none 0 0]
def sk(n:Nat):List Bool:=List.replicate n false
theorem kE.nu{ah:List Bool}(h:kE w A n c ah)(v:Value){p:Addr}(d:∀b off,A=some ⟨b,off,none⟩->b≠p.block):kE (w.setCell p v) A n c ah:=by
 refine⟨h.len,h.cap,h.mG,h.od,λ f=>?_⟩;obtain⟨b,off,e,g,i⟩:=h.cells f;exact⟨b,off,e,by simpa[World.setCell] using g,λ j k=>(World.cell?_of_block (n_ _ _ _ _ (d b off e))).trans (i j k)⟩
theorem M9(k:Nat):(madeCells (h_ false).cells k).toList=(sk k).map h_:=by
 show(madeCells #[h_ false] k).toList=_;rw[toList_madeCells_one];simp[sk]
theorem Na(k:Nat):(sk k).length=k:=by simp[sk]
theorem Nb(n:Int)(w:World)(h:n<0\/65536<n):
  Calls s_ 42 #[.int .i64 n] w λ e w'=>e=.returned (.tuple #[B5,.int .i64 1])/\Below w.heap.size w w':=by
 have A:fE (∀W:World,Calls s_ 104 #[.int .i64 n] W λ e w'=>e=.returned (.tuple #[xF,.int .i64 1])/\Below W.heap.size W w'):=aa λ W=>Je n W h
 clear h;go_enter Tryz.func42,Tryz.ntmps42
 go_upto_region 1 with fail
 have g:aN (w.alloc (.cells #[.int .i64 0,.slice none 0 0,.slice none 0 0,.slice none 0 0,.slice none 0 0,.int .i64 0,.slice none 0 0,.slice none 0 0] 47)) w.heap.size 47 [.int .i64 0,.slice none 0 0,.slice none 0 0,.slice none 0 0,.slice none 0 0,.int .i64 0,.slice none 0 0,.slice none 0 0]:=aN.new w 47 _;have j:=bB w (.cells #[.int .i64 0,.slice none 0 0,.slice none 0 0,.slice none 0 0,.slice none 0 0,.int .i64 0,.slice none 0 0,.slice none 0 0] 47);have z0:(w.alloc (.cells #[.int .i64 0,.slice none 0 0,.slice none 0 0,.slice none 0 0,.slice none 0 0,.int .i64 0,.slice none 0 0,.slice none 0 0] 47)).heap.size=w.heap.size+1:=by simp
 generalize w.alloc (.cells #[.int .i64 0,.slice none 0 0,.slice none 0 0,.slice none 0 0,.slice none 0 0,.int .i64 0,.slice none 0 0,.slice none 0 0] 47)=w0 at*;have B:=aa j;clear j
 go_upto_region 2 with(go_at_call 104;refine(A.o _).mono ?_;rintro e w1 ⟨rfl,k⟩;have f:=aa k;clear k;unfold xF)
 have b:=(g.below f.o).below (bB w1 (.cells #[.slice none 0 0,.slice none 0 0,.int .i64 0] 44));have l:=(B.o.trans (f.o.mono (by omega))).trans ((bB w1 (.cells #[.slice none 0 0,.slice none 0 0,.int .i64 0] 44)).mono (by have:=f.o.size;omega));generalize w1.alloc (.cells #[.slice none 0 0,.slice none 0 0,.int .i64 0] 44)=D at*;have C:=aa l;clear l;have m:=b.cell 0;have p:=b.cell 1;have q:=b.cell 2;have r:=b.cell 3;have s:=b.cell 4;have t:=b.cell 5;have y:=b.cell 6;have z:=b.cell 7;have c:=b.free;have f0:=c 0;have f1:=c 1;have f2:=c 2;have f3:=c 3;have f4:=c 4;have f5:=c 5;have f6:=c 6;have f7:=c 7;have E:=aa b;clear b g c;simp only[x_,y_] at m p q r s t y z
 go_wp2_with fail
 refine bodyPost_ret (v:=.tuple #[B5,.int .i64 1]) (by simp[results,Tryz.results42,go_sem,B5,m,p,q,r,s,t,y,z]) rfl ⟨rfl,?_⟩;have d:∀(u:World)(i:Nat)(v:Value),Below w.heap.size w u->Below w.heap.size w (u.setCell ⟨w.heap.size,i,none⟩ v):=λ u i v hu=>hu.setCell (o_ _) _
 exact d _ _ _ (d _ _ _ (d _ _ _ (d _ _ _ (d _ _ _ (d _ _ _ (d _ _ _ (d _ _ _ C.o)))))))
theorem GX(n:Nat)(w:World)(h:n<=65536):
  Calls s_ 42 #[.int .i64 n] w λ e w'=>∃(A:Option Addr)(c:Nat)(A':Option Addr)(c':Nat)(s:Option Addr)(z:Nat),e=.returned (.tuple #[B4 n none 0 0 none 0 0 A (n+1) c A' n c' 1 s (n+1) z none 0 0,.int .i64 0])/\
   aS w' A (n+1) c (rC (n+1))/\aS w' A' n c' (qL n)/\kE w' s (n+1) z (sk (n+1))/\Below w.heap.size w w'/\(∀b off,A=some ⟨b,off,none⟩->w.heap.size<=b)/\(∀b off,A'=some ⟨b,off,none⟩->w.heap.size<=b)/\∀b off,s=some ⟨b,off,none⟩->w.heap.size<=b:=by
 have ad:fE (∀W:World,Calls s_ 104 #[.int .i64 n] W (EL (rC (n+1)) (qL n) 1 W)):=aa λ W=>Jh n W h
 obtain⟨i0,B,C,D,E⟩:=info_parts BX;have ae:∀W:World,(Instr.makeSlice 28 (.int .i64 ((n:Int)+1)) (.int .i64 ((n:Int)+1))).run s_ W=.ok (.slice (some ⟨W.heap.size,0,none⟩) (n+1) (n+1)) (W.alloc (.cells (madeCells (h_ false).cells (n+1)) 4)):=λ W=>by
  have:=run_make (P:=s_) W 28 4 i0 (.bool false) Zr B C .i64 .i64 ((n:Int)+1) ((n:Int)+1) (by omega) (by omega) (by rw[E];omega) (by omega);rw[D,show((n:Int)+1).toNat=n+1 by omega,Nat.mul_one] at this;exact this
 have wn:Zg.wrap ((n:Int)+1)=(n:Int)+1:=by rw[Zn];omega
 clear B C D E;generalize F:madeCells (h_ false).cells (n+1)=cs at ae;have G:=aa F;clear F;go_enter Tryz.func42,Tryz.ntmps42
 go_upto_region 1 with fail
 have H:aN (w.alloc (.cells #[.int .i64 0,.slice none 0 0,.slice none 0 0,.slice none 0 0,.slice none 0 0,.int .i64 0,.slice none 0 0,.slice none 0 0] 47)) w.heap.size 47 [.int .i64 0,.slice none 0 0,.slice none 0 0,.slice none 0 0,.slice none 0 0,.int .i64 0,.slice none 0 0,.slice none 0 0]:=aN.new w 47 _;have I:=bB w (.cells #[.int .i64 0,.slice none 0 0,.slice none 0 0,.slice none 0 0,.slice none 0 0,.int .i64 0,.slice none 0 0,.slice none 0 0] 47);have z0:(w.alloc (.cells #[.int .i64 0,.slice none 0 0,.slice none 0 0,.slice none 0 0,.slice none 0 0,.int .i64 0,.slice none 0 0,.slice none 0 0] 47)).heap.size=w.heap.size+1:=by simp
 generalize w.alloc (.cells #[.int .i64 0,.slice none 0 0,.slice none 0 0,.slice none 0 0,.slice none 0 0,.int .i64 0,.slice none 0 0,.slice none 0 0] 47)=w0 at*;have af:=aa I;clear I
 go_upto_region 4 with(go_at_call 104;refine(ad.o _).mono ?_;rintro e w1 ⟨A,c,A',c',rfl,h1,t,J,K,L⟩;have M:=aa J;have N:=aa K;clear J K;rw[wq] at h1;rw[wo] at t;simp only[wq,wo];have q:=aa L;have H1:=aa h1;have ag:=aa t;clear L h1 t)
 have y:=(H.below q.o).below (bB w1 (.cells #[.slice A (n+1) c,.slice A' n c',.int .i64 1] 44));have O:=(af.o.trans (q.o.mono (by omega))).trans ((bB w1 (.cells #[.slice A (n+1) c,.slice A' n c',.int .i64 1] 44)).mono (by have:=q.o.size;omega));have p:aN (w1.alloc (.cells #[.slice A (n+1) c,.slice A' n c',.int .i64 1] 44)) w1.heap.size 44 [.slice A (n+1) c,.slice A' n c',.int .i64 1]:=aN.new w1 44 _;have ah:=aa (H1.o.below (bB w1 (.cells #[.slice A (n+1) c,.slice A' n c',.int .i64 1] 44)));have ai:=aa (ag.o.below (bB w1 (.cells #[.slice A (n+1) c,.slice A' n c',.int .i64 1] 44)));have ay:=q.o.size;generalize az:w1.heap.size=aA at*;generalize w1.alloc (.cells #[.slice A (n+1) c,.slice A' n c',.int .i64 1] 44)=f at*;have Q:=aa O;clear O;have aj:=p.cell 0;have ak:=p.cell 1;have al:=p.cell 2;have r:=p.below (bB f (.cells cs 4));have z0:=r.cell 0;have an:=r.cell 1;have z2:=r.cell 2;simp only[x_,y_] at aj ak al z0 an z2;clear r;have aB:=aa p;clear p;have d:=y.below (bB f (.cells cs 4));have R:=d.cell 0;have S:=d.cell 1;have T:=d.cell 2;have U:=d.cell 3;have V:=d.cell 4;have X:=d.cell 5;have Y:=d.cell 6;have Z:=d.cell 7;have g:=d.free;have f0:=g 0;have f1:=g 1;have f2:=g 2;have f3:=g 3;have f4:=g 4;have f5:=g 5;have f6:=g 6;have f7:=g 7;have ao:=aa y;have aC:=aa d;clear y H d g;simp only[x_,y_] at R S T U V X Y Z;rename_i aq ab;have ar:=aa ab;clear ab;refine wp_region_noPanic ?_
 go_region_law (fail)
 all_goals
  show aq _ _;apply ar.o
  go_wp2_with fail
  have j:∀b off,A=some ⟨b,off,none⟩->b≠w.heap.size:=λ b off e=>by have:=M.o b off e;omega
  have k:∀b off,A'=some ⟨b,off,none⟩->b≠w.heap.size:=λ b off e=>by have:=N.o b off e;omega
  have au:w.heap.size<=f.heap.size:=Q.o.size;have aD:=ao.o.lt;have l:∀b off,(some ⟨f.heap.size,0,none⟩:Option Addr)=some ⟨b,off,none⟩->b≠w.heap.size:=λ b off e=>by cases e;omega
  have av:kE (f.alloc (.cells cs 4)) (some ⟨f.heap.size,0,none⟩) (n+1) (n+1) (sk (n+1)):=by
   have aw:(sk (n+1)).map h_=cs.toList:=by rw[<-G.o,M9]
   have ax:cs.size=n+1:=by rw[<-G.o,size_madeCells]
   exact kE.lG (base:=0) ⟨by simp[Na],Or.inr ⟨_,_,cs,rfl,Zj _,heap_alloc_new _ _,o_ _,by unfold maxLen;omega,by omega,by rw[aw,Zi (by simp[ax])]⟩⟩ (by omega)
  have m:∀(u:World)(i:Nat)(v:Value),Below w.heap.size w u->Below w.heap.size w (u.setCell ⟨w.heap.size,i,none⟩ v):=λ u i v hu=>hu.setCell (o_ _) _
  refine bodyPost_ret (v:=.tuple #[B4 n none 0 0 none 0 0 A (n+1) c A' n c' 1 (some ⟨f.heap.size,0,none⟩) (n+1) (n+1) none 0 0,.int .i64 0]) (by simp[results,Tryz.results42,go_sem,Act.put,B4,R,S,T,U,V,X,Y,Z]) rfl ⟨A,c,A',c',_,_,rfl,?_,?_,?_,?_,λ b off e=>by have:=M.o b off e;omega,λ b off e=>by have:=N.o b off e;omega,λ b off e=>by cases e;omega⟩
  ·exact(((((((((ah.o.below (bB f (.cells cs 4))).nu _ j).nu _ j).nu _ j).nu _ j).nu _ j).nu _ j).nu _ j).nu _ j).drew
  ·exact(((((((((ai.o.below (bB f (.cells cs 4))).nu _ k).nu _ k).nu _ k).nu _ k).nu _ k).nu _ k).nu _ k).nu _ k).drew
  ·exact((((((((((av).nu _ l).nu _ l).nu _ l).nu _ l).nu _ l).nu _ l).nu _ l).nu _ l)).below ((Zp _ _).drew)
  ·exact(m _ _ _ (m _ _ _ (m _ _ _ (m _ _ _ (m _ _ _ (m _ _ _ (m _ _ _ (m _ _ _ (Q.o.trans ((bB f (.cells cs 4)).mono au)))))))))).drew
theorem Nc(n:Nat)(w:World)(h:n<=65536):
  Calls s_ 42 #[.int .i64 n] w λ e w'=>∃(A:Option Addr)(c:Nat)(A':Option Addr)(c':Nat)(b:Option Addr)(d:Nat),e=.returned (.tuple #[B4 n none 0 0 none 0 0 A (n+1) c A' n c' 1 b (n+1) d none 0 0,.int .i64 0])/\
   aS w' A (n+1) c (rC (n+1))/\aS w' A' n c' (qL n)/\kE w' b (n+1) d (sk (n+1))/\Below w.heap.size w w':=
 (GX n w h).mono λ _ _ ⟨A,c,A',c',b,d,e,h1,f,g,i,_⟩=>⟨A,c,A',c',b,d,e,h1,f,g,i⟩
end
section
open Go.RowKit Go.Sort Go.Lib
theorem Nd(l:List Int)(k:Nat):j8 l k=aj l k:=rfl
theorem Ao{a b:Int}:vw act a b<0↔aj act b.toNat<aj act a.toNat\/(aj act b.toNat=aj act a.toNat/\a<b):=by
 have f:vw act a b=rV (ou (aj act b.toNat) (aj act a.toNat)) (ou a b):=rfl;rw[f];rcases DO (aj act b.toNat) (aj act a.toNat) with⟨h,e⟩|⟨h,e⟩|⟨h,e⟩<;>rw[e]
 ·simp[rV];omega
 ·rcases DO a b with⟨d,c⟩|⟨d,c⟩|⟨d,c⟩<;>rw[c]<;>simp[rV]<;>omega
 ·simp[rV];omega
theorem B6:tQ act l=true↔∀i,i<l.length->(0<aj l i/\aj l i<act.length)/\(i=0\/vw act (aj l (i-1)) (aj l i)<0):=by
 unfold tQ tv;rw[t_];constructor
 ·intro h i b;have:=h i (b_.2 b);rw[w_,Zy,AS,decide_eq_true_eq,decide_eq_true_eq] at this;exact this
 ·intro h i b;rw[w_,Zy,AS,decide_eq_true_eq,decide_eq_true_eq];exact h i (b_.1 b)
theorem DT{act l:List Int}(h:tQ act l=true)(i:Nat):∀j,i<j->j<l.length->vw act (aj l i) (aj l j)<0
 |0,h1,_=>by omega
 |j+1,h1,d=>by
  have b:=(B6.1 h (j+1) d).2;rw[show j+1-1=j by omega] at b;rcases b with b|b
  ·omega
  ·rcases m_ i j with c|c
   ·have e:=DT h i j c (by omega);rw[Ao] at*;omega
   ·obtain rfl:i=j:=by omega
    exact b
theorem GY(h:tQ act l=true){i j:Nat}(b:i<l.length)(c:j<l.length)(e:aj l i=aj l j):i=j:=by
 rcases Nat.lt_trichotomy i j with h1|h1|h1
 ·have:=DT h i j h1 c;rw[Ao,e] at this;omega
 ·exact h1
 ·have:=DT h j i h1 b;rw[Ao,e] at this;omega
theorem GZ:∀(n:Nat)(f:Nat->Nat),(∀i,i<n->f i<n)->(∀i j,i<n->j<n->f i=f j->i=j)->∀v,v<n->∃i,i<n/\f i=v
 |0,f,_,_,v,k=>by omega
 |n+1,f,h1,b,v,k=>by
  have hm:=h1 n (by omega);have d:=GZ n (λ i=>if f i=n then f n else f i) (λ i c=>by
   show(if f i=n then f n else f i)<n;split
   ·rename_i e;have:f n≠n:=λ g=>by have:=b i n (by omega) (by omega) (by omega);omega
    omega
   ·have:=h1 i (by omega);omega) (λ i j c m e=>by
   have e:(if f i=n then f n else f i)=(if f j=n then f n else f j):=e;refine b i j (by omega) (by omega) ?_;split at e<;>split at e
   ·omega
   ·have:=b n j (by omega) (by omega) e;omega
   ·have:=b i n (by omega) (by omega) e;omega
   ·exact e)
  by_cases l:v=n
  ·subst l
   by_cases e:f v=v
   ·exact⟨v,by omega,e⟩
   ·obtain⟨i,c,he⟩:=d (f v) (by omega);have he:(if f i=v then f v else f i)=f v:=he;split at he
    ·rename_i g;exact⟨i,by omega,g⟩
    ·have:=b i v (by omega) (by omega) he;omega
  ·obtain⟨i,c,he⟩:=d v (by omega);have he:(if f i=n then f n else f i)=v:=he;split at he
   ·exact⟨n,by omega,he⟩
   ·exact⟨i,by omega,he⟩
structure sK(n:Nat)(act l:List Int)(y:Int):Prop where
 k5:act.length=n+1
 pN:l.length=n
 a0:aj act 0=0
 qf:∀v,0<=aj act v/\aj act v<=jw
 jV:1<=y/\y<=jw
 lu:tQ act l=true
 tH:n<=65536
theorem B7:mR x=false↔0<=x/\x<=jw:=by
 unfold mR jw;rw[Zx,decide_eq_false_iff_not,decide_eq_false_iff_not];omega
theorem sK.check(h:sK n act l y):tR act l y=true:=by
 have h1:act.any mR=false:=by
  rw[Zq];intro x b;obtain⟨k,hk,e⟩:=qb.1 b;have:=h.qf k;rw[e] at this;have:=B7.2 this;rw[this];simp
 have f:=h.k5;have c:va act=true:=by
  unfold va;rw[h1,Nd,h.a0,h.k5];have:=h.tH;simp;omega
 have d:wm y=true:=by
  unfold wm;rw[B7.2 ⟨by have:=h.jV;omega,h.jV.2⟩];have:=h.jV;simp;omega
 unfold tR;rw[c,d,h.lu];rfl
theorem sK.tZ(h:sK n act l y){i:Nat}(b:i<n):1<=aj l i/\aj l i<=n:=by
 have:=(B6.1 h.lu i (by rw[h.pN];exact b)).1;rw[h.k5] at this;omega
theorem sK.new(n:Nat)(h:n<=65536):sK n (rC (n+1)) (qL n) 1:=by
 have b:∀v,aj (rC (n+1)) v=0:=zT _;refine⟨wq _,wo _,b 0,λ v=>by rw[b];unfold jw;omega,by unfold jw;omega,B6.2 λ i c=>?_,h⟩;rw[wo] at c;have hu:∀k,k<n->aj (qL n) k=(k:Int)+1:=λ k hk=>by
  rw[nh (by rw[wo];exact hk)];simp[qL]
 rw[hu i c,wq];refine⟨by omega,?_⟩;rcases d_ i with d|d
 ·exact .inl d
 ·right;rw[hu (i-1) (by omega),Ao,b,b];omega
theorem Nf(n:Nat):(nJ n).Nodup:=by
 have h:((nJ n).map (·.1)).Nodup:=by
  rw[DP];refine List.Pairwise.map _ (λ a b c=>?_) (List.nodup_range (n:=n));intro e;exact c (by omega)
 exact List.Pairwise.of_map (λ x:uW n=>x.1) (λ a b c e=>c (by rw[e])) h
theorem sK.sorted(g:act.length=n+1)(a0:aj act 0=0)(m:∀v,0<=aj act v/\aj act v<=jw)(o:1<=y/\y<=jw)(p:n<=65536):sK n act ((o5 act (nJ n)).map (·.1)) y:=by
 have hp:(o5 act (nJ n)).Perm (nJ n):=List.mergeSort_perm _ _;have q:(o5 act (nJ n)).length=n:=by
  rw[hp.length_eq];unfold nJ;simp
 have r:(o5 act (nJ n)).Nodup:=hp.nodup_iff.2 (Nf n);have s:(o5 act (nJ n)).Pairwise λ x y=>(!(ltOf (uw act)) y x)=true:=List.pairwise_mergeSort (λ a b c h1 d=>by
  rw[a_] at*;exact(B0 act n).ntrans _ _ _ d h1) (λ a b=>by
  rw[Zy,a_,a_]
  cases h:ltOf (uw act) b a with
  |false=>exact .inl rfl
  |true=>
   right
   cases d:ltOf (uw act) a b with
   |false=>rfl
   |true=>have:=(B0 act n).trans _ _ _ h d;have:=(B0 act n).irrefl b;simp_all) _
 refine⟨g,by rw[q_,q],a0,m,o,B6.2 λ i f=>?_,p⟩;rw[q_] at f;have j:∀k (hk:k<(o5 act (nJ n)).length),aj ((o5 act (nJ n)).map (·.1)) k=(o5 act (nJ n))[k].1:=λ k hk=>by
  rw[nh (by rw[q_];exact hk),g_]
 rw[j i f,g];have t:=((o5 act (nJ n))[i]).2;refine⟨by omega,?_⟩;rcases d_ i with l|l
 ·exact .inl l
 ·right;rw[j (i-1) (by omega)];have h1:=p_.1 s (i-1) i (by omega) f (by omega);have d:=p_.1 r (i-1) i (by omega) f (by omega);rw[a_,An,decide_eq_false_iff_not,Am] at h1;rw[Ao];have u:(o5 act (nJ n))[i-1].1≠(o5 act (nJ n))[i].1:=λ e=>d (Subtype.ext e)
  omega
def ux(n:Nat)(ord:List Int)(k:Nat):List Int:=(i_ k).foldl (λ p i=>p.set (aj ord i).toNat (i:Int)) (List.replicate (n+1) 0)
theorem B8(n:Nat)(ord:List Int)(k:Nat):ux n ord (k+1)=(ux n ord k).set (aj ord k).toNat (k:Int):=by
 unfold ux;rw[List.range_succ,List.foldl_append];rfl
theorem Ap(n:Nat)(ord:List Int):∀k,(ux n ord k).length=n+1
 |0=>by simp[ux]
 |k+1=>by rw[B8,List.length_set,Ap n ord k]
theorem DU(n:Nat)(ord:List Int):∀k v,0<=aj (ux n ord k) v
 |0,v=>by
  have:aj (ux n ord 0) v=0:=zT _ _;omega
 |k+1,v=>by
  rw[B8,oO];split
  ·omega
  ·exact DU n ord k v
theorem DV{n:Nat}{act ord:List Int}{y:Int}(h:sK n act ord y):∀k,k<=n->∀i,i<k->aj (ux n ord k) (aj ord i).toNat=i
 |0,_,i,b=>by omega
 |k+1,hk,i,b=>by
  rw[B8,oO,Ap];have h1:=h.tZ (i:=k) (by omega);have c:=h.tZ (i:=i) (by omega)
  by_cases e:i=k
  ·subst e;rw[if_pos ⟨rfl,by omega⟩]
  ·rw[if_neg (λ d=>e (GY h.lu (by rw[h.pN];omega) (by rw[h.pN];omega) (by omega))),DV h k (by omega) i (by omega)]
theorem sK.lR{ord:List Int}(h:sK n act ord y):me n ord (ux n ord n):=by
 have hl:=h.pN;refine⟨Ap _ _ _,λ i c=>?_,λ v h1 g k=>?_,λ v=>by have:=DU n ord n v;omega⟩
 ·have:=h.tZ (i:=i) (by omega);exact⟨this.1,this.2,DV h n (o_ _) i (by omega)⟩
 ·obtain⟨i,c,e⟩:=GZ n (λ i=>(aj ord i).toNat-1) (λ i c=>by have:=h.tZ c;show(aj ord i).toNat-1<n;omega) (λ i j c d e=>by
   have e:(aj ord i).toNat-1=(aj ord j).toNat-1:=e;have a:=h.tZ c;have b:=h.tZ d;exact GY h.lu (by omega) (by omega) (by omega)) (v-1) (by omega)
  have e:(aj ord i).toNat-1=v-1:=e;have a:=h.tZ c;have f:(aj ord i).toNat=v:=by omega
  have:=DV h n (o_ _) i c;rw[f] at this;rw[this];refine⟨by omega,?_⟩;rw[Int.toNat_natCast];omega
theorem Ng(h:sD l)(n:∀x∈l,x≠0)(s:se l=false):l.Nodup/\∀x∈l,¬-x∈l:=by
 have o:∀i j (c:i<l.length) (d:j<l.length),i<j->pR l[i] l[j]=true:=λ i j c d p=>p_.1 h i j c d p
 refine⟨h.imp λ{a b} t e=>by subst e;exact BL _ t,λ x q u=>?_⟩;obtain⟨i,c,k⟩:=k_.1 q;obtain⟨j,d,m⟩:=k_.1 u;have w:=n x q;have key:∀i j (c:i<l.length) (d:j<l.length),i<j->l[i]= -l[j]->False:=by
  intro i j c d p e;have v:j=i+1:=by
   rcases m_ (i+1) j with h1|h1
   ·exfalso;have f:=o i (i+1) c (by omega) (by omega);have g:=o (i+1) j (by omega) d h1;rw[wV] at f g;unfold rB at f g;have:=n _ (r_ c);split at f<;>split at f<;>split at g<;>split at g<;>omega
   ·omega
  subst v;have r:se l=true:=by
   unfold se ur;rw[Zz];refine⟨i+1,b_.2 d,?_⟩;rw[show i+1-1=i by omega,qK c,qK d,w_,decide_eq_true_eq,beq_iff_eq];exact⟨by omega,e⟩
  rw[s] at r;cases r
 rcases Nat.lt_trichotomy i j with h1|h1|h1
 ·exact key i j c d h1 (by rw[k,m,Int.neg_neg])
 ·subst h1;rw[k] at m;omega
 ·exact key j i d c h1 (by rw[k,m])
theorem G0(e:∀x∈l,x≠0)(b:se l=true):ve l:=by
 unfold se ur at b;rw[Zz] at b;obtain⟨i,c,h1⟩:=b;have c:=b_.1 c;rw[w_,decide_eq_true_eq,beq_iff_eq] at h1;have d:j8 l i∈l:=wg c;have f:j8 l (i-1)∈l:=wg (by omega);exact⟨j8 l i,d,e _ d,by rw[<-h1.2];exact f⟩
theorem gW.mQ(h:gW n x)(b:n<=65536):mQ x 65536=true:=by
 rw[wh];unfold gW aG at h;omega
theorem B9(b:n<=65536)(c:∀x∈g,gW n x)(x:Int):x∈kY g↔x∈g:=by
 rw[BN];exact⟨λ h=>h.1,λ h=>⟨h,(c x h).mQ b⟩⟩
theorem ve.same(h:∀x,x∈a↔x∈b)(t:ve a):ve b:=by
 obtain⟨x,h1,c,d⟩:=t;exact⟨x,(h x).1 h1,c,(h _).1 d⟩
theorem sR.same(h:∀x,x∈a↔x∈b)(t:sR M a):sR M b:=by
 obtain⟨x,h1,c⟩:=t;exact⟨x,(h x).1 h1,c⟩
theorem G1(f:n<=65536)(c:∀x∈g,gW n x)(i:rD F g):Fv n F g (kY g) (se (kY g)):=by
 have hm:=B9 f c;have e:∀x∈kY g,x≠0:=λ x d=>(c x ((hm x).1 d)).oE
 refine⟨λ b j=>?_,λ b M k=>(i M k).same λ x=>(hm x).symm,hm,λ b=>(G0 e b).same hm⟩;obtain⟨h1,l⟩:=Ng (Gm g) e b;exact⟨j,λ x d=>c x ((hm x).1 d),h1,l⟩
theorem Nh(c:n<=65536)(h:oF n g):se (kY g)=false/\kY g≠ []:=by
 have hm:=B9 c h.lt;refine⟨?_,λ e=>?_⟩
 ·cases d:se (kY g) with
  |false=>rfl
  |true=>
   exfalso;obtain⟨x,h1,i,f⟩:=G0 (λ x b=>(h.lt x ((hm x).1 b)).oE) d;exact h.bE x ((hm x).1 h1) ((hm _).1 f)
 ·obtain⟨x,b⟩:=List.exists_mem_of_ne_nil _ h.ne;have:=(hm x).2 b;rw[e] at this;cases this
theorem Aq(h:lq n ls=0):n<=65536/\ls.length<=65536/\∀l∈ls,∀x∈l,gW n x:=by
 unfold lq at h;split at h
 ·omega
 ·split at h
  ·omega
  ·split at h
   ·omega
   ·rename_i h1 b f;refine⟨by omega,by omega,λ l hl x d=>?_⟩;rw[Bool.not_eq_false] at b;unfold sO at b;have c:=t_.1 b l hl;unfold wj at c;have e:=t_.1 c x d;rw[wh] at e;unfold gW aG;omega
theorem Ar(d:n<=65536)(h1:ls.length<=65536)(b:∀l∈ls,∀x∈l,gW n x):lq n ls=0:=by
 refine EC (by omega) ?_ (by omega);unfold sO wj;rw[t_];intro l hl;rw[t_];intro x c;have:=b l hl x c;rw[wh];unfold gW aG at this;omega
end
section
open Go.RowKit
def As(k v:Nat):Bool:=decide (k/2^v%2=1)
theorem Ca(k v:Nat):As k v=k.testBit v:=(Nat.testBit_eq_decide_div_mod_eq).symm
def xk(n k:Nat):List Bool:=false::(i_ n).map (As k)
theorem G2(n k:Nat):(xk n k).length=n+1:=by simp[xk]
theorem Ni{v:Nat}(h1:1<=v)(b:v<=n):iU (xk n k) v=As k (v-1):=by
 obtain⟨u,rfl⟩:∃u,v=u+1:=⟨v-1,by omega⟩
 unfold iU xk;rw[Zt,y_,List.getElem?_map,List.getElem?_range (by omega)];rfl
theorem G3:∀(n:Nat)(f:Nat->Bool),∃k,k<2^n/\∀v,v<n->As k v=f v
 |0,f=>⟨0,by simp,λ v b=>by omega⟩
 |n+1,f=>by
  obtain⟨k,hk,h⟩:=G3 n f
  cases c:f n with
  |false=>
   refine⟨k,by rw[Nat.pow_succ];omega,λ v b=>?_⟩;rcases m_ v n with h1|h1
   ·exact h v h1
   ·obtain rfl:v=n:=by omega
    rw[Ca,Zh hk,c]
  |true=>
   refine⟨2^n+k,by rw[Nat.pow_succ];omega,λ v b=>?_⟩;rcases m_ v n with h1|h1
   ·rw[Ca,Nat.testBit_two_pow_add_gt h1,<-Ca];exact h v h1
   ·obtain rfl:v=n:=by omega
    rw[Ca,Nat.testBit_two_pow_add_eq,Zh hk,c];rfl
theorem G4(b:gW n x)(c:n<=65536):vv jC x=lJ jC x:=by
 rw[IV (b.mQ c)];have d:=b.oE;unfold lJ;have e:CE jC x.natAbs=iU jC x.natAbs:=rfl;rw[e]
 by_cases h:x<0
 ·rw[if_pos h,decide_eq_false (show¬0<x by omega)]
  cases iU jC x.natAbs<;>rfl
 ·rw[if_neg h,decide_eq_true (show 0<x by omega)]
  cases iU jC x.natAbs<;>rfl
theorem G5(hl:∀x∈l,gW n x)(c:n<=65536):AR jC l=true↔sR (lJ jC) l:=by
 rw[IW];constructor
 ·rintro⟨x,b,h⟩;exact⟨x,b,by rw[<-G4 (hl x b) c];exact h⟩
 ·rintro⟨x,b,h⟩;exact⟨x,b,by rw[G4 (hl x b) c];exact h⟩
theorem G6(b:lq n ls=0):CF n ls jC=true↔∀l∈ls,sR (lJ jC) l:=by
 obtain⟨h1,d,c⟩:=Aq b;unfold CF;rw[b,w_,t_];constructor
 ·rintro⟨_,h⟩ l hl;exact(G5 (c l hl) h1).1 (h l hl)
 ·intro h;exact⟨rfl,λ l hl=>(G5 (c l hl) h1).2 (h l hl)⟩
def DW(a:List Bool)(l:List Int):Bool:=l.all λ x=>decide (1<=x.natAbs)&&decide (x.natAbs<a.length)&&(iU a x.natAbs==decide (0<x))
theorem G7{a:List Bool}(e:a.length=n+1)(hl:∀x∈l,gW n x):DW a l=true↔∀x∈l,lJ a x=true:=by
 unfold DW;rw[t_];refine forall_congr' λ x=>forall_congr' λ b=>?_
 have h:=hl x b;have f:=h.oE;have c:decide (1<=x.natAbs)=true:=decide_eq_true h.1;have d:decide (x.natAbs<a.length)=true:=decide_eq_true (by have:=h.2;unfold aG at this;omega);rw[c,d];unfold lJ
 by_cases h1:x<0
 ·rw[if_pos h1,decide_eq_false (show¬0<x by omega)]
  cases iU a x.natAbs<;>simp
 ·rw[if_neg h1,decide_eq_true (show 0<x by omega)]
  cases iU a x.natAbs<;>simp
def uy(n:Nat)(ls:List (List Int))(l:List Int):Bool:=(i_ (2^n)).any λ k=>DW (xk n k) l&&CF n ls (xk n k)
def Can(F:List (List Int))(l:List Int):Prop:=∃M,tS M F/\∀x∈l,M x=true
theorem G8(c:Mod M)(hk:∀v,v<n->As k v=M ((v:Int)+1)){x:Int}(b:gW n x):lJ (xk n k) x=M x:=by
 unfold gW aG at b;unfold lJ;rw[Ni b.1 b.2,hk _ (by omega)]
 by_cases h:x<0
 ·rw[if_pos h,show((x.natAbs-1:Nat):Int)+1= -x by omega,c x (by omega),Bool.not_not]
 ·rw[if_neg h,show((x.natAbs-1:Nat):Int)+1=x by omega]
theorem DX(c:lq n ls=0)(hl:∀x∈l,gW n x):uy n ls l=true↔Can ls l:=by
 obtain⟨h1,m,j⟩:=Aq c;unfold uy;rw[Zz];constructor
 ·rintro⟨k,hk,h⟩;rw[w_,G7 (G2 n k) hl,G6 c] at h;exact⟨lJ (xk n k),⟨Bk _,h.2⟩,h.1⟩
 ·rintro⟨M,d,h⟩;obtain⟨k,hk,f⟩:=G3 n λ v=>M ((v:Int)+1)
  refine⟨k,b_.2 hk,?_⟩;rw[w_,G7 (G2 n k) hl,G6 c];refine⟨λ x b=>(G8 d.1 f (hl x b)).trans (h x b),λ g i=>?_⟩;obtain⟨x,b,e⟩:=d.2 g i;exact⟨x,b,(G8 d.1 f (j g i x b)).trans e⟩
end
section
theorem Can.mono{l':List Int}(h:∀x∈l',x∈l):Can F l->Can F l':=λ⟨M,h1,b⟩=>⟨M,h1,λ x c=>b x (h x c)⟩
def rA(l o:List Int):List Int:=l.filter λ x=>o.contains x
theorem Cb{o:List Int}:x∈rA l o↔x∈l/\x∈o:=by simp[rA]
theorem DY(l o:List Int):(rA l o).Sublist l:=List.filter_sublist
theorem Nj{left core:List Int}{i:Nat}(o:left.Nodup)(g:i<left.length)(d:∀x∈core,x∈left.eraseIdx i)(hu:¬Can F core)(l:∀j,j<i->Can F (left.eraseIdx j)):
  ¬Can F (rA left core)/\(rA left core).length<left.length/\i<=(rA left core).length/\∀j,j<i->Can F ((rA left core).eraseIdx j):=by
 have p:∀j (h:j<i),left[j]∈core:=λ j h=>by
  rcases Decidable.em (left[j]∈core) with h1|h1
  ·exact h1
  ·exfalso;refine hu ((l j h).mono λ x b=>?_);obtain⟨k,hk,_,e⟩:=v_.1 (d x b);refine v_.2 ⟨k,hk,λ c=>?_,e⟩;subst c;rw[e] at h1;exact h1 b
 have q:∀x∈core,x∈left:=λ x b=>by
  obtain⟨k,hk,_,e⟩:=v_.1 (d x b);rw[<-e];exact r_ hk
 have e:rA left core=left.take i++rA (left.drop i) core:=by
  have:left.filter (λ x=>core.contains x)=(left.take i++left.drop i).filter (λ x=>core.contains x):=by rw[List.take_append_drop]
  unfold rA;rw[this,List.filter_append]
  congr 1
  rw[List.filter_eq_self];intro x b;obtain⟨k,hk,e⟩:=e_.1 b;rw[<-e];simpa using p k (by omega)
 have t:(left.take i).length=i:=by rw[List.length_take];omega
 refine⟨λ h=>hu (h.mono λ x b=>Cb.2 ⟨q x b,b⟩),?_,by rw[e,c_];omega,λ j r=>(l j r).mono λ x b=>?_⟩
 ·unfold rA;rw[List.length_filter_lt_length_iff_exists];refine⟨left[i],r_ g,λ h=>?_⟩;have h:left[i]∈core:=by simpa using h
  obtain⟨k,hk,f,c⟩:=v_.1 (d _ h);have:=List.getElem_inj (xs:=left) (i:=k) (j:=i) (h₀:=hk) (h₁:=g) o;exact f (this.1 c)
 ·obtain⟨k,hk,f,c⟩:=v_.1 b;rcases m_ k i with h1|h1
  ·refine v_.2 ⟨k,by omega,f,?_⟩;rw[<-c];simp only[e];rw[Zm (by omega),List.getElem_take]
  ·have s:x∈rA (left.drop i) core:=by
    rw[<-c];simp only[e];rw[Zo (by omega)];exact r_ _
   obtain⟨m,hm,n⟩:=k_.1 (Cb.1 s).1;rw[List.length_drop] at hm;rw[List.getElem_drop] at n;exact v_.2 ⟨i+m,by omega,by omega,n⟩
structure tL(F:List (List Int))(keep ai:List Int)(k:Nat)(m:List Bool):Prop where
 mod:∀g∈F,sR (lJ m) g
 Ae:∀x∈keep,lJ m x=true
 done:∀j (h:j<ai.length),j<k->lJ m ai[j]=true\/¬Can F (keep++ai.filter (lJ m)++[ai[j]])
theorem tL.yes(h:tL F keep ai k m)(hk:k<ai.length)(b:lJ m ai[k]=true):tL F keep ai (k+1) m:=
 ⟨h.mod,h.Ae,λ j c d=>by
  rcases m_ j k with h1|h1
  ·exact h.done j c h1
  ·obtain rfl:j=k:=by omega
   exact .inl b⟩
theorem tL.no(h:tL F keep ai k m)(hk:k<ai.length)(b:¬Can F (keep++ai.filter (lJ m)++[ai[k]])):tL F keep ai (k+1) m:=
 ⟨h.mod,h.Ae,λ j c d=>by
  rcases m_ j k with h1|h1
  ·exact h.done j c h1
  ·obtain rfl:j=k:=by omega
   exact .inr b⟩
theorem tL.next{lS:List Bool}(h:tL F keep ai k m)(hk:k<ai.length)(hm:∀g∈F,sR (lJ lS) g)(d:∀x∈keep++ai.filter (lJ m)++[ai[k]],lJ lS x=true):tL F keep ai (k+1) lS:=by
 have h1:∀x∈ai,lJ m x=true->lJ lS x=true:=λ x b c=>d x (u_.2 (.inl (u_.2 (.inr (Zk.2 ⟨b,c⟩)))))
 refine⟨hm,λ x b=>d x (u_.2 (.inl (u_.2 (.inl b)))),λ j e o=>?_⟩;rcases m_ j k with c|c
 ·refine(h.done j e c).imp (h1 _ (r_ e)) λ i l=>i (l.mono λ x b=>?_)
  rcases u_.1 b with b|b
  ·rcases u_.1 b with b|b
   ·exact u_.2 (.inl (u_.2 (.inl b)))
   ·obtain⟨f,n⟩:=Zk.1 b;exact u_.2 (.inl (u_.2 (.inr (Zk.2 ⟨f,h1 x f n⟩))))
  ·exact u_.2 (.inr b)
 ·obtain rfl:j=k:=by omega
  exact .inl (d _ (by simp))
theorem tL.whole(h:tL F keep ai ai.length m):∀x∈ai,lJ m x=false->¬Can F (keep++ai.filter (lJ m)++[x]):=λ x c d=>by
 obtain⟨j,b,e⟩:=k_.1 c;subst e;rcases h.done j b b with h1|h1
 ·rw[d] at h1;cases h1
 ·exact h1
end
section
open Go.RowKit
theorem Nk(b off n c:Nat)(w:World)(h:n<=c):Calls s_ 108 #[.slice (some ⟨b,off,none⟩) n c] w λ e w'=>e=.returned (.slice (some ⟨b,off,none⟩) n n)/\w'=w:=by
 have d:(0:Int)<=n:=by omega
 go_enter Tryz.func108,Tryz.ntmps108
 go_wp2;go_ret;exact⟨rfl,rfl⟩
theorem Nl(w:World):Calls s_ 108 #[.slice none 0 0] w λ e w'=>e=.returned (.slice none 0 0)/\w'=w:=by
 go_enter Tryz.func108,Tryz.ntmps108
 go_wp2;go_ret;exact⟨rfl,rfl⟩
theorem Nn(b off n c:Nat)(w:World)(h:n<=c):Calls s_ 109 #[.slice (some ⟨b,off,none⟩) n c] w λ e w'=>e=.returned (.slice (some ⟨b,off,none⟩) n n)/\w'=w:=by
 have d:(0:Int)<=n:=by omega
 go_enter Tryz.func109,Tryz.ntmps109
 go_wp2;go_ret;exact⟨rfl,rfl⟩
theorem No(w:World):Calls s_ 109 #[.slice none 0 0] w λ e w'=>e=.returned (.slice none 0 0)/\w'=w:=by
 go_enter Tryz.func109,Tryz.ntmps109
 go_wp2;go_ret;exact⟨rfl,rfl⟩
def Np(b:List Bool)(w:World)(e:Ending)(w':World):Prop:=
 ∃A c,e=.returned (.slice A b.length c)/\w'.ownsRow w.heap.size 4 1 (.slice A b.length c) b.length (b.map h_)/\Below w.heap.size w w'
theorem Nq(A:Option Addr)(n c:Nat)(e:List Bool)(w:World)(h:kE w A n c e):
  Calls s_ 106 #[.slice A n c] w (Np e w):=by
 obtain⟨i0,s,t,v,y⟩:=info_parts BX;have F:∀(w:World)(a:Option Addr)(n c m c':Nat),(binOp .eql 28 (.slice a n c) (.slice none m c')).run s_ w=.ok (.bool a.isNone) w:=λ w a n c m c'=>Lib.run_eql_slice_nil w _ _ a n c m c' Zr
 have hlen:=h.len;have G:=h.mG;have H:=aa h;clear h
 cases A with
 |none=>
  have z:n=0:=by
   rcases d_ n with d|d
   ·exact d
   ·obtain⟨b,off,he,_⟩:=H.o.cells d;cases he
  subst z;have B:e=[]:=Zv hlen;subst B;clear hlen;go_enter Tryz.func106,Tryz.ntmps106
  go_wp2;go_ret;exact⟨none,0,rfl,Zs _ _ _ _,Zp _ _⟩
 |some a=>
  have f:=aa hlen;clear hlen;go_enter Tryz.func106,Tryz.ntmps106
  go_wp2_with (at_builtin;refine wpList_append_own _ rfl _ _ 28 rfl w.heap.size 4 i0 (.bool false) 1 1 Zr s t v y rfl (by decide) _ _ _ rfl (World.ownsRow_made w #[] 0 (o_ _) (Zj _) rfl) a n c (e.map h_) rfl ?qc1 ?qc2 ?qc3 ?qc4 ?qc5 ?qc6 ?_)
  case qc1=>simp[f.o]
  case qc2=>
   intro j u p;have q:j<n:=by have:=(List.getElem?_eq_some_iff.1 p).1;simpa[f.o] using this
   obtain⟨b,off,he,i,C⟩:=H.o.cells (by omega);injection he with he
   subst he;rw[Addr.add_lit];rw[World.cell?_alloc_lt _ _ _ (by exact i),C j q];rw[List.getElem?_map,j_ (by rw[f.o];exact q)] at p;have D:j<e.length:=by rw[f.o];exact q
   rw[Zt,j_ D,Option.getD_some];exact p
  case qc3=>intro u hu;obtain⟨x,_,rfl⟩:=Zw.1 hu;rfl
  case qc4=>unfold maxLen;omega
  case qc5=>omega
  case qc6=>simp
  intro v' w1 l E I;go_wp2;go_ret;have i:Below w.heap.size w w1:=((Zp _ w).alloc (o_ _) _).grown E (by simp) (by intro k hk;simp[Value.ownBlock] at hk;omega);have hl:=f.o;subst hl;rcases l.2 with⟨r,d⟩|⟨g,cap,cur,r,J⟩
  ·subst r;refine⟨none,0,?_,?_,i⟩
   ·rw[d];rfl
   ·rw[d] at l⊢;exact l
  ·subst r;exact⟨_,_,rfl,l,i⟩
theorem aX.G9(E:aX K base w G hs cb s)(h:s.act.length<=1000000):
  (hs 6).v=.slice (hs 6).A s.act.length (hs 6).c/\aS w (hs 6).A s.act.length (hs 6).c s.act:=by
 have h1:w.ownsRow base 3 1 (hs 6).v (hs 6).n (iY s.act):=E.e.rows.row 6;have b:(hs 6).n=s.act.length:=E.e.n6;have d:(hs 6).v=.slice (hs 6).A s.act.length (hs 6).c:=by rw[<-b];rfl
 rw[d,b] at h1;exact⟨d,aS.lG h1 (by omega)⟩
theorem aX.He(E:aX K base w G hs cb s)(h:s.gN.length<=1000000):
  (hs 9).v=.slice (hs 9).A s.gN.length (hs 9).c/\kE w (hs 9).A s.gN.length (hs 9).c s.gN:=by
 have h1:w.ownsRow base 4 1 (hs 9).v (hs 9).n (pI s.gN):=E.e.rows.row 9;have b:(hs 9).n=s.gN.length:=E.e.j3;have d:(hs 9).v=.slice (hs 9).A s.gN.length (hs 9).c:=by rw[<-b];rfl
 rw[d,b] at h1;exact⟨d,kE.lG h1 (by omega)⟩
theorem DZ(x:Int)(w:World):Calls s_ 112 #[.int .i64 x] w λ e w'=>e=.returned (.bool (mR x))/\w=w':=by
 by_cases h1:x<0
 ·go_enter Tryz.func112,Tryz.ntmps112
  go_wp2;go_ret;exact⟨qZ (by simp[mR,h1]),rfl⟩
 ·by_cases b:1099511627776<x
  all_goals
   go_enter Tryz.func112,Tryz.ntmps112
   go_wp2;go_ret;exact⟨qZ (by simp[mR,h1,b]),rfl⟩
structure kf where
 n:Int
 gs:List (List Int)
 es:List mJ
 act:List Int
 ord:List Int
 aZ:Int
 gN:List Bool
 aA:List ny
structure qs(w:World)(s:kf)(aM:Option Addr)(aF:Nat)(ia:Option Addr)(cl:Nat)(A:Option Addr)(c:Nat)(A':Option Addr)(c':Nat)(fM:Option Addr)(bD:Nat)(aQ:Option Addr)(aU:Nat):Prop where
 gs:kD w aM s.gs.length aF s.gs
 es:rR w ia s.es.length cl s.es
 act:aS w A s.act.length c s.act
 ord:aS w A' s.ord.length c' s.ord
 gN:kE w fM s.gN.length bD s.gN
 aA:oa w aQ s.aA.length aU s.aA
def p9(n:Int)(aM:Option Addr)(b aF:Nat)(d:Option Addr)(nl cl:Nat)(A:Option Addr)(e c:Nat)(A':Option Addr)(f c':Nat)(g:Int)(i:Option Addr)(j k:Nat)(l:Option Addr)(m o:Nat):Value:=
 .agg #[.int .i64 n,.slice aM b aF,.slice d nl cl,.slice A e c,.slice A' f c',.int .i64 g,.slice i j k,.slice l m o]
theorem qs.below{w w':World}{s:kf}{aM:Option Addr}{aF:Nat}{ia:Option Addr}{cl:Nat}{A:Option Addr}{c:Nat}{A':Option Addr}{c':Nat}{fM:Option Addr}{bD:Nat}{aQ:Option Addr}{aU:Nat}(h:qs w s aM aF ia cl A c A' c' fM bD aQ aU)(b:Below w.heap.size w w'):qs w' s aM aF ia cl A c A' c' fM bD aQ aU:=
 ⟨h.gs.below b,h.es.below b,h.act.below b,h.ord.below b,h.gN.below b,h.aA.below b⟩
def tf(e:mJ):Bool:=decide (e.r.ah.length=0)||mR e.bg||mR e.ac
def tg(n:Int)(p:ny):Bool:=decide (p.lH<1)||decide (3<p.lH)||decide (lq n [p.r.ah]≠0)
def Au(s:kf):Bool:=decide (s.n<0)||decide (65536<s.n)|| !(tR s.act s.ord s.aZ)||decide ((s.act.length:Int)≠s.n+1)||decide ((s.ord.length:Int)≠s.n)||decide ((s.gN.length:Int)≠s.n+1)||iU s.gN 0
def D0(s:kf):Int:=
 if Au s=true then 1 else if lq s.n s.gs≠0 then lq s.n s.gs else if s.es.any tf=true then 1
 else if lq s.n (s.es.map (·.r.ah))≠0 then lq s.n (s.es.map (·.r.ah)) else if s.aA.any (tg s.n)=true then 1 else 0
theorem y7{ah:List α}{p:α->Bool}(h:k<ah.length)(e:p ah[k]=true):ah.any p=true:=Zz.2 ⟨_,r_ h,e⟩
theorem Hf{ah:List α}{p:α->Bool}(h:k<ah.length)(e:p ah[k]=false)(b:(ah.take k).any p=false):(ah.take (k+1)).any p=false:=by
 rw[List.take_succ_eq_append_getElem h,List.any_append,b];simp[e]
theorem Hg{ah:List α}{p:α->Bool}(hl:ah.length=n)(h:¬k<n)(b:(ah.take k).any p=false):ah.any p=false:=by
 rw[Zi (by omega)] at b;exact b
theorem rR.Hh{b:Nat}{es:List mJ}(h:rR w (some ⟨b,off,none⟩) n c es){k:Nat}(hk:k<n)(d:k<es.length):
  w.cell? ⟨b,off+k*3,none⟩=some (kO es[k].r)/\w.cell? ⟨b,off+k*3+1,none⟩=some (.int .i64 es[k].bg)/\w.cell? ⟨b,off+k*3+2,none⟩=some (.int .i64 es[k].ac)/\aS w es[k].r.A es[k].r.n es[k].r.c es[k].r.ah:=by
 obtain⟨m,o,e,p,f⟩:=h.cells (by omega);injection e with e
 injection e with j l
 subst j l;have g:=f (k*3) (by omega);have h1:=f (k*3+1) (by omega);have i:=f (k*3+2) (by omega);have g0:=B1 es k d 0 (by omega);have g1:=B1 es k d 1 (by omega);have g2:=B1 es k d 2 (by omega);rw[Nat.add_zero] at g0;rw[g0] at g;rw[g1] at h1;rw[g2] at i;exact⟨g,h1,i,h.rows _ (r_ d)⟩
theorem yd:∀es:List ny,(mP es).length=es.length*2
 |[]=>rfl
 |e::es=>by
  have:=yd es;unfold mP at this⊢;simp only[List.map_cons,List.flatten_cons,c_,this,rS,List.length_cons,List.length_nil];omega
theorem Nr(a b:List ny):mP (a++b)=mP a++mP b:=by simp[mP]
theorem D1:∀(es:List ny)(j:Nat)(h:j<es.length)(k:Nat),k<2->(mP es)[j*2+k]? =(rS es[j])[k]?
 |[],j,h,k,hk=>by simp at h
 |e::es,0,h,k,hk=>by
  show(rS e++mP es)[0*2+k]? =_;rw[List.getElem?_append_left (by simp[rS];omega)];simp
 |e::es,j+1,h,k,hk=>by
  show(rS e++mP es)[(j+1)*2+k]? =_;rw[List.getElem?_append_right (by simp[rS];omega)];have:=D1 es j (by simpa using h) k hk;rw[show(j+1)*2+k-(rS e).length=j*2+k by simp[rS];omega,this];rfl
theorem oa.Ns{b:Nat}{es:List ny}(h:oa w (some ⟨b,off,none⟩) n c es){k:Nat}(hk:k<n)(d:k<es.length):
  w.cell? ⟨b,off+k*2,none⟩=some (.int .i64 es[k].lH)/\w.cell? ⟨b,off+k*2+1,none⟩=some (kO es[k].r)/\aS w es[k].r.A es[k].r.n es[k].r.c es[k].r.ah:=by
 obtain⟨l,m,e,o,f⟩:=h.cells (by omega);injection e with e
 injection e with i j
 subst i j;have g:=f (k*2) (by omega);have h1:=f (k*2+1) (by omega);have g0:=D1 es k d 0 (by omega);have g1:=D1 es k d 1 (by omega);rw[Nat.add_zero] at g0;rw[g0] at g;rw[g1] at h1;exact⟨g,h1,h.rows _ (r_ d)⟩
end
section
open Go.RowKit Go.Shelf
structure oB(n:Nat)(s:kf):Prop where
 jt:s.n=n
 g1:s.gs.length<=65536
 bz:∀g∈s.gs,∀x∈g,gW n x
 hk:sK n s.act s.ord s.aZ
 nE:s.gN.length=n+1
 oS:iU s.gN 0=false
 xm:∀e∈s.es,oF n e.r.ah/\(0<=e.bg/\e.bg<=jw)/\(0<=e.ac/\e.ac<=jw)
 Hi:∀e∈s.es,rD s.gs e.r.ah
 D2:(s.es.map (·.r.ah)).Pairwise λ a b=>¬xU a b
 Cc:∀p∈s.aA,(p.lH=1\/p.lH=2\/p.lH=3)/\∀x∈p.r.ah,gW n x
theorem oB.mT{s:kf}(h:oB n s):s.es.length+1<=3^n:=by
 have:=E0 (n:=n) (ls:=s.es.map (·.r.ah)) (λ l hl=>by
  obtain⟨e,he,rfl⟩:=Zw.1 hl;exact(h.xm e he).1) (show List.Pairwise (λ a b=>¬∀x,x∈a↔x∈b) (s.es.map (·.r.ah)) from h.D2)
 rwa[q_] at this
theorem xo(b:n<=10):3^n<=59049:=by
 have c:3^n<=3^10:=Nat.pow_le_pow_right (by omega) b;have d:(3:Nat)^10=59049:=by decide
 omega
theorem oB.Nt{s:kf}(h:oB n s)(d:n<=10):D0 s=0:=by
 have m:=h.mT;have o:=xo d;have f:Au s=false:=by
  unfold Au;rw[h.hk.check,h.oS,h.jt,h.hk.k5,h.hk.pN,h.nE];simp;omega
 have g:lq s.n s.gs=0:=by rw[h.jt];exact Ar (by omega) h.g1 h.bz
 have i:s.es.any tf=false:=by
  rw[Zq];intro e he;obtain⟨h1,b,c⟩:=h.xm e he;unfold tf;rw[B7.2 b,B7.2 c];have:e.r.ah.length≠0:=λ hl=>h1.ne (Zv hl)
  simpa using this
 have j:lq s.n (s.es.map (·.r.ah))=0:=by
  rw[h.jt];refine Ar (by omega) (by rw[q_];omega) λ l hl=>?_
  obtain⟨e,he,rfl⟩:=Zw.1 hl;exact(h.xm e he).1.lt
 have k:s.aA.any (tg s.n)=false:=by
  rw[Zq];intro p hp;obtain⟨h1,b⟩:=h.Cc p hp;have c:lq s.n [p.r.ah]=0:=by
   rw[h.jt];exact Ar (by omega) (by simp) λ l hl=>by rw[Zu.1 hl];exact b
  unfold tg;rw[c];simp;omega
 unfold D0;rw[if_neg (by rw[f];exact Zl),if_neg (by rw[g];simp),if_neg (by rw[i];exact Zl),if_neg (by rw[j];simp),if_neg (by rw[k];exact Zl)]
def nK(e:ny):nv:=⟨e.lH,⟨e.r.A,e.r.n,e.r.c⟩⟩
theorem Hj(es:List ny):mg (es.map nK)=mP es:=by
 unfold mg mP;rw[List.map_map];rfl
theorem Hl{K:Nat->Prop}{w:World}{n:Nat}:∀(b:List nv),(∀p∈b,qm K w n p)->∃es:List ny,es.map nK=b/\∀e∈es,((e.lH=1\/e.lH=2\/e.lH=3)/\∀x∈e.r.ah,gW n x)/\aS w e.r.A e.r.n e.r.c e.r.ah
 |[],_=>⟨[],rfl,λ e he=>by cases he⟩
 |p::b,h=>by
  obtain⟨es,h1,d⟩:=Hl b (λ q f=>h q (by simp[f]));obtain⟨g,⟨ah,i,j⟩,_⟩:=h p (by simp);refine⟨⟨p.lH,⟨p.h.A,p.h.n,p.h.c,ah⟩⟩::es,by rw[List.map_cons,h1];rfl,λ e he=>?_⟩;rcases List.mem_cons.1 he with rfl|he
  ·exact⟨⟨g,j⟩,i⟩
  ·exact d e he
theorem aX.Ho(E:aX K base w G hs cb s)(P:oM K w s){es:List ny}(he:es.map nK=s.aA)(l:∀e∈es,aS w e.r.A e.r.n e.r.c e.r.ah)(hl:es.length<=1099511627776):
  ∃A c,nL hs s=.slice A es.length c/\oa w A es.length c es/\(es.length=c\/w.ownsRow base 126 2 (.slice A es.length c) es.length (mP es))/\(A=none->es.length=0/\c=0)/\(A≠none->∃b off,A=some ⟨b,off,none⟩):=by
 have t:mg s.aA=mP es:=by rw[<-he,Hj]
 have B:s.aA.length=es.length:=by rw[<-he,q_]
 cases j:s.jr with
 |some h=>
  obtain⟨h1,i,o⟩:=P h j;have C:nL hs s=h.v:=by unfold nL;rw[j]
  rw[C];obtain⟨A,m,c⟩:=h;have h1:m=es.length:=by rw[<-B];exact h1
  have i:c=m:=i;subst i h1;refine⟨A,es.length,rfl,⟨rfl,o_ _,by omega,by unfold maxLen;omega,λ p=>?_,l⟩,.inl rfl,λ e=>?_,λ e=>by rcases o with⟨d,_⟩|⟨b,off,d,_⟩;exact absurd d e;exact⟨b,off,d⟩⟩
  ·rcases o with⟨_,d⟩|⟨b,off,d,u,y⟩
   ·have d:es.length=0:=d;omega
   ·refine⟨b,off,d,E.s.lt b (u p),λ k hk=>?_⟩;have z:k<(mP es).length:=by rw[yd];exact hk
    have:=y k _ (by rw[t];exact j_ z);rw[this,j_ z]
  ·rcases o with⟨_,d⟩|⟨b,off,d,u,y⟩
   ·have d:es.length=0:=d;exact⟨d,d⟩
   ·have d:A=some ⟨b,off,none⟩:=d;rw[e] at d;cases d
 |none=>
  have h1:w.ownsRow base 126 2 (hs 11).v (hs 11).n (cont hs cb s 11):=E.e.rows.row 11;have D:cont hs cb s 11=mP es:=by
   show(match s.jr with|some _=> []|none=>mg s.aA)=_;rw[j];exact t
  have F:nL hs s=(hs 11).v:=by unfold nL;rw[j]
  rw[D] at h1;have i:(hs 11).n=es.length:=by
   have:=h1.1;rw[yd] at this;omega
  rw[F];generalize hs 11=H at*;obtain⟨A,m,c⟩:=H;have i:m=es.length:=i;subst i;refine⟨A,c,rfl,?_,.inr h1,?_,?_⟩
  ·rcases h1.2 with⟨f,q⟩|⟨g,cap,cur,f,L,M,I,J,N,O⟩
   ·simp only[ax.v,l_] at f;obtain⟨rfl,d,rfl⟩:=f;exact⟨rfl,by omega,by omega,by unfold maxLen;omega,λ p=>by omega,l⟩
   ·simp only[ax.v,l_] at f;obtain⟨rfl,_,rfl⟩:=f;refine⟨rfl,I,by omega,J,λ p=>⟨g,0,rfl,(h1.lt g rfl).2,λ k hk=>?_⟩,l⟩;rw[Nat.zero_add];exact h1.cellAt k hk
  ·intro e;rcases h1.2 with⟨f,q⟩|⟨g,cap,cur,f,_⟩
   ·simp only[ax.v,l_] at f;exact⟨q,f.2.2⟩
   ·simp only[ax.v,l_] at f;rw[e] at f
    cases f.1
  ·intro e;rcases h1.2 with⟨f,q⟩|⟨g,cap,cur,f,_⟩
   ·simp only[ax.v,l_] at f;exact absurd f.1 e
   ·simp only[ax.v,l_] at f;exact⟨g,0,f.1⟩
end
section
open Go.RowKit
def vW(n:Int)(x:Int):Bool:=decide (1<=x.natAbs)&&decide ((x.natAbs:Int)<=n)
def tM(n:Int)(b:List Int):Bool:=b.all (vW n)&&decide ((b.map aG).Nodup)
def sL(n:Int)(b:List Int)(k:Nat):Bool:= !(vW n (j8 b k))||hasB ((b.take k).map λ x=>(aG x:Int)) (aG (j8 b k):Int)
theorem D3{n:Int}(h:k<ai.length)(b:sL n ai k=true):tM n ai=false:=by
 cases hm:tM n ai with
 |false=>rfl
 |true=>
  exfalso;unfold tM at hm;rw[w_,t_,decide_eq_true_eq] at hm;unfold sL at b;rw[qK h,Zy] at b;rcases b with b|b
  ·rw[hm.1 _ (r_ h)] at b;cases b
  ·obtain⟨y,c,d⟩:=Zw.1 (we.1 b);obtain⟨j,f,e⟩:=e_.1 c;have h1:=p_.1 hm.2 j k (by rw[q_];omega) (by rw[q_];omega) (by omega);rw[g_,g_,e] at h1;exact h1 (by have:(aG y:Int)=(aG ai[k]:Int):=d;omega)
theorem Nu{n:Int}(c:∀k,k<ai.length->sL n ai k=false):tM n ai=true:=by
 unfold tM;rw[w_,t_,decide_eq_true_eq];constructor
 ·intro x d;obtain⟨k,hk,e⟩:=k_.1 d;have:=c k hk;unfold sL at this;rw[qK hk,Zx,e] at this;simpa using this.1
 ·rw[List.Nodup,p_];intro i j f b l e;rw[q_] at f b;have:=c j b;unfold sL at this;rw[qK b,Zx] at this;rw[g_,g_] at e;have g:hasB ((ai.take j).map λ x=>(aG x:Int)) (aG ai[j]:Int)=true:=we.2 (Zw.2 ⟨ai[i],e_.2 ⟨i,by omega,rfl⟩,by show(aG ai[i]:Int)=_;rw[e]⟩);rw[g] at this;cases this.2
theorem Cd(h:tM n ai=true):(∀x∈ai,gW n x)/\(ai.map aG).Nodup:=by
 unfold tM at h;rw[w_,t_,decide_eq_true_eq] at h;refine⟨λ x b=>?_,h.2⟩;have:=h.1 x b;unfold vW at this;rw[w_,decide_eq_true_eq,decide_eq_true_eq] at this;exact⟨this.1,by unfold aG;omega⟩
def qG(n:Int)(ls:List (List Int))(c:List Int)(b:Int):Int:=
 if lq n ls=0 then (if tM n c&&decide (0<=b)&&decide (b<=1099511627776) then 0 else 1) else lq n ls
theorem y8{n:Int}(h:qG n ls ai aW=0):lq n ls=0/\tM n ai=true/\0<=aW/\aW<=1099511627776:=by
 unfold qG at h
 by_cases b:lq n ls=0
 ·rw[if_pos b] at h;split at h
  ·rename_i h1;rw[w_,w_,decide_eq_true_eq,decide_eq_true_eq] at h1;exact⟨b,h1.1.1,h1.1.2,h1.2⟩
  ·cases h
 ·rw[if_neg b] at h;exact absurd h b
theorem Hp{n:Int}(b:lq n ls=0)(h1:tM n ai=true)(c:0<=aW)(d:aW<=1099511627776):qG n ls ai aW=0:=by
 unfold qG;rw[if_pos b,h1,decide_eq_true c,decide_eq_true d];rfl
structure ye(F:List (List Int))(n:Nat)(ai:List Int)(m:List Bool):Prop where
 len:m.length=n+1
 m0:iU m 0=false
 sat:∀g∈F,sR (lJ m) g
 ai:∀x∈ai,lJ m x=true
def vr(F:List (List Int))(n:Nat)(b:List Int)(c:Nat)(kind:Int)(m:List Bool)(core:List Int)(d:Nat):Prop:=
 (d<=c/\d<=59048)/\((kind=1/\core=[]/\ye F n b m)\/(kind=2/\m=[]/\core.Sublist b/\¬Can F core/\∀j,j<core.length->Can F (core.eraseIdx j))\/
  (kind=3/\m=[]/\d=c/\c<=59048/\core.Sublist b/\(core=[]\/¬Can F core)))
def y9(F:List (List Int))(n:Nat)(keep b:List Int)(c:Nat)(kind:Int)(m:List Bool)(core:List Int)(d:Nat):Prop:=
 (d<=c/\d<=59048)/\((kind=1/\ye F n keep m/\core=b.filter (λ x=> !(lJ m x))/\∀x∈core,¬Can F (keep++b.filter (lJ m)++[x]))\/(kind=2/\m=[]/\core.Sublist keep/\¬Can F core)\/
  (kind=3/\d=c/\c<=59048/\(m=[]/\core=[]\/ye F n keep m/\core=b.filter (λ x=> !(lJ m x)))))
theorem ye.can(h:ye F n ai m):Can F ai:=⟨lJ m,⟨Bk _,h.sat⟩,h.ai⟩
end
end Go.Proofs.YtogdlkfacflmaaaGreat
