/- Parts of the walk of the solver and its core; no condition. -/
import Derived.Test.YtogdlkfacflmaaaGreatZW19
import Derived.Test.YtogdlkfacflmaaaGreatZW18
import Derived.Test.YtogdlkfacflmaaaGreatZW1
namespace Go.Proofs.YtogdlkfacflmaaaGreat
set_option linter.unusedVariables false
set_option linter.unusedSimpArgs false
set_option maxRecDepth 100000
set_option maxHeartbeats 8000000
open _root_.And renaming intro→z_
open _root_.List renaming getElem?_cons_zero→y_,getElem?_cons_succ→x_,mem_append→v_,mem_map→s_,mem_filter→r_,nodup_append→q_,mem_cons→o_,length_filter_le→m_,filter_congr→l_,all_eq_true→j_,map_append→i_
open _root_.Go.Proofs.Tryz renaming prog→w_
open _root_.Nat renaming le_refl→u_,zero_le→p_,zero_add→f_
open _root_.Go.RowKit.Below renaming refl→t_
open _root_.Go.IntKind renaming wrap_i64→n_,i64→h_
open _root_.Go.Value renaming bool→k_,slice→g_
open _root_.Int renaming lt_or_le→e_
variable{ai l core tq:List Int}{x kind:Int}{w W w0 w':World}{B jk lU n j4 kG nq gT aW k aV aB c i lo n6:Nat}{ls:List (List Int)}{lE gO bk A:Option Addr}{m:List Bool}
section
open Go.RowKit Go.Shelf Go.Sort Go.Lib
theorem below_drewN(w:World)(q:Nat):Below w.heap.size w (w.drewN q):=⟨rfl,rfl,rfl,u_ _,λ _ _=>rfl⟩
theorem Ih:∀{l:List Int},(l.map aG).Nodup->∀{x y:Int},x∈l->y∈l->aG x=aG y->x=y
 |[],_,x,y,c,_,_=>by cases c
 |a::l,h,x,y,c,d,e=>by
  rw[List.map_cons,List.nodup_cons] at h;rcases o_.1 c with h1|h1
  ·rcases o_.1 d with b|b
   ·rw[h1,b]
   ·exact absurd (s_.2 ⟨y,b,by rw[<-e,h1]⟩) h.1
  ·rcases o_.1 d with b|b
   ·exact absurd (s_.2 ⟨x,h1,by rw[e,b]⟩) h.1
   ·exact Ih h.2 h1 b e
theorem Po{keep:List Int}{p:Int->Bool}(h:(keep.map aG++ai.map aG).Nodup)(i:x∈ai)(hp:p x=false):((keep++ai.filter p++[x]).map aG).Nodup:=by
 obtain⟨h1,j,k⟩:=q_.1 h;rw[List.append_assoc,i_,q_];refine⟨h1,?_,λ a f b c=>k a f b ?_⟩
 ·rw[i_,q_];refine⟨(List.filter_sublist.map aG).nodup j,by simp,λ a f b c e=>?_⟩;obtain⟨y,d,rfl⟩:=s_.1 f;simp at c;subst c;have:=Ih j (r_.1 d).1 i e;subst this;rw[(r_.1 d).2] at hp
  cases hp
 ·obtain⟨y,d,rfl⟩:=s_.1 c;rcases v_.1 d with g|g
  ·exact s_.2 ⟨y,(r_.1 g).1,rfl⟩
  ·rw[List.mem_singleton.1 g];exact s_.2 ⟨x,i,rfl⟩
theorem Pp(w:World)(x:Int)(b:Option Addr)(c d:Nat)(keep:List Int)(e:Option Addr)(n7 f:Nat)(g:List Int)(hk:aS w b c d keep)(l:aS w e n7 f g):
  ∃W:World,W=(w.alloc (.cells #[.int .i64 x] 3)).alloc (.cells #[.slice b c d,.slice e n7 f,.slice (some ⟨w.heap.size,0,none⟩) 1 1] 25)/\kD W (some ⟨w.heap.size+1,0,none⟩) 3 3 [keep,g,[x]]/\Below w.heap.size w W:=by
 have i:=bB w (.cells #[.int .i64 x] 3);have m:aS (w.alloc (.cells #[.int .i64 x] 3)) (some ⟨w.heap.size,0,none⟩) 1 1 [x]:=aS.lit w [x] 1 _ rfl rfl (by omega);have z0:(w.alloc (.cells #[.int .i64 x] 3)).heap.size=w.heap.size+1:=by simp
 generalize w.alloc (.cells #[.int .i64 x] 3)=w1 at*;have h1:=bB w1 (.cells #[.slice b c d,.slice e n7 f,.slice (some ⟨w.heap.size,0,none⟩) 1 1] 25);have j:=kD.vv (w:=w1) (rs:=[⟨b,c,d,keep⟩,⟨e,n7,f,g⟩,⟨some ⟨w.heap.size,0,none⟩,1,1,[x]⟩]) (ls:=[keep,g,[x]]) (n:=3) (t:=25) rfl rfl rfl (by omega) rfl (λ r k=>by
  simp only[o_,List.not_mem_nil,or_false] at k;rcases k with rfl|rfl|rfl
  ·exact hk.below i
  ·exact l.below i
  ·exact m)
 rw[z0] at j;exact⟨_,rfl,j,i.trans (h1.mono i.size)⟩
theorem Ii{keep:List Int}{Ad x5:World}(h:sq w B jk lU n ls lE j4 kG keep gO nq gT ai aW k bk aV m W)(d:Below W.heap.size W Ad)(g:Below Ad.heap.size Ad x5){jx:Option Addr}{jL:Nat}{os:List Int}(l:Ad.ownsRow W.heap.size 3 1 (.slice jx os.length jL) os.length (os.map (Value.int .i64)))(q:os.length<=1000)(kind:Int)(r:Nat)(o:y9 ls n keep ai aW kind m os r){yl:World}(i:yl=((((x5.setCell ⟨w.heap.size+1+1,0,none⟩ (.int .i64 kind)).setCell ⟨w.heap.size+1+1,1,none⟩ (.slice bk (n+1) aV)).setCell ⟨w.heap.size+1+1,2,none⟩ (.slice jx os.length jL)).setCell ⟨w.heap.size+1+1,3,none⟩ (.int .i64 (r:Int)))):
  aN yl (w.heap.size+1+1) 30 [.int .i64 kind,.slice bk (n+1) aV,.slice jx os.length jL,.int .i64 (r:Int)]/\H7 w n ls keep ai aW (.returned (.tuple #[.agg #[.int .i64 kind,.slice bk (n+1) aV,.slice jx os.length jL,.int .i64 (r:Int)],.int .i64 0])) yl:=by
 have c:=d.trans (g.mono d.size);have pE:=h.pE.below c;have f:aC (λ b=>b≠w.heap.size+1+1) x5 yl:=i▸aC.uZ6 _ _ _ _;have p:aN yl (w.heap.size+1+1) 30 [.int .i64 kind,.slice bk (n+1) aV,.slice jx os.length jL,.int .i64 (r:Int)]:=i▸(((pE.set 0 _).set 1 _).set 2 _).set 3 _;have j:=nc l g;have s:=h.pE.lt;refine⟨p,kind,bk,n+1,aV,jx,os.length,jL,r,m,os,rfl,(h.md.below c).Ei pE (λ u hu x e=>by subst e;simp at hu) f,?_,o,uZ7 (h.qU.trans (c.mono h.qU.size)) f (by omega)⟩;exact(aS.lG j (by omega)).iR f (λ b e t=>by have h1:=(j.lt b ((ax.own ⟨jx,_,jL⟩).trans e)).1;omega)
theorem sq.model{keep:List Int}(h:sq w B jk lU n ls lE j4 kG keep gO nq gT ai aW k bk aV m W):ye ls n keep m:=⟨h.md.len,h.m0,h.uC.mod,h.uC.Ae⟩
theorem Pq(n:Nat)(v:n<=10)(A:Option Addr)(nl cl:Nat)(ls:List (List Int))(N:Option Addr)(O X:Nat)(keep:List Int)(R:Option Addr)(nq J:Nat)(ai:List Int)(r:Nat)(w:World)(h:kD w A nl cl ls)(hk:aS w N O X keep)(av:aS w R nq J ai)(hw:tn (keep++ai))(hlen:(keep++ai).length<=900)(b6:ls.length<=40000)(he:qG n ls (keep++ai) r=0):
  Calls w_ 29 #[.agg #[.int .i64 n,.slice A nl cl],.slice N O X,.slice R nq J,.int .i64 r] w (H7 w n ls keep ai r):=by
 obtain⟨W,du,aw,b7,bF,b8,b9⟩:=Ic w n A nl cl N O X keep R nq J ai hk av;have bd:[keep,ai].flatten=keep++ai:=by simp
 have b':=aa (HX n v A nl cl ls r _ 2 2 [keep,ai] W (h.below aw) b8 (by rw[bd];exact hw) (by rw[bd];omega) b6 (by rw[bd];exact he));obtain⟨bH,hm,dv,bf⟩:=y8 he;obtain⟨S,bg⟩:=Cd hm;rw[List.length_append] at hlen;have ca:∀x∈keep,gW n x:=λ x K=>S x (v_.2 (.inl K))
 have cc:∀x∈ai,gW n x:=λ x K=>S x (v_.2 (.inr K))
 rw[i_] at bg;have cd:=(q_.1 bg).1;have cf:∀b,N.map (·.block)=some b->0<O->b<w.heap.size:=hk.lt;have cg:∀b,R.map (·.block)=some b->0<nq->b<w.heap.size:=av.lt;have f:=aa (z_ aw (z_ b7 (z_ b9 (z_ ca (z_ cc (z_ bg (z_ hlen (z_ (hk.below aw) (z_ (av.below aw) (z_ bF (z_ cd (z_ cf cg))))))))))));have bh:=hk.len;have ch:=av.len;have cj:=bF.cell 0;simp only[y_] at cj;clear h hk av hw he aw b7 b8 b9 bd bH hm dv bf S bg b6 bF ca cc cd cf cg;subst du;go_enter Tryz.func29,Tryz.ntmps29
 go_upto_region 4 with(go_at_call 76;refine b'.o.mono ?_;rintro e w1 ⟨B,s,aM,aF,dY,cl,A,c,A',c',dZ,d',ea,eb,rfl,ck,cm,cn,bf⟩;have H1:=aa (z_ ck (z_ cm (z_ cn bf)));clear ck cm cn bf)
 have ay:=aa (Co H1.o.1 (f.o.2.2.2.2.2.2.2.1.below H1.o.2.2.2) f.o.2.2.2.1 f.o.2.2.2.2.2.2.2.2.2.2.1 (by omega))
 go_upto_region 5 with(go_at_call 77;refine ay.o.mono ?_;rintro e L ⟨s2,ec,c1,ed,c2,bj,c3,ee,ef,eg,eh,P,kind,t,az,u,ab,ad,ae,rfl,cp,cq,cr,ct,cu⟩;have an:=aa (z_ cp (z_ cq (z_ cr (z_ ct cu))));clear cp cq cr ct cu)
 obtain⟨m,core,hm,cv,aA⟩:=an.o.2.2.2.1.plain;rw[H1.o.2.1] at aA;have bk:=an.o.1;rw[f_] at bk;have g2:=Cr an.o.2.2.2.2;have bI:w.heap.size+4<=B:=by have:=H1.o.2.2.1;have:=f.o.2.2.1;omega
 have dw:=H1.o.1.blk.lt;have cw:=g2.blk (f.o.2.1.below H1.o.2.2.2) ⟨(f.o.2.1.below H1.o.2.2.2).lt,by omega⟩;have bJ:=f.o.2.2.2.2.2.2.2.2.2.1.below H1.o.2.2.2;have cx:=g2.blk bJ ⟨bJ.lt,by omega⟩;have bK:=f.o.1.trans (H1.o.2.2.2.mono f.o.1.size);have bL:Below w.heap.size w L:=uX bK an.o.2.2.2.2 bK.size (λ g e=>by injection e with e;omega);have cy:=an.o.2.1.trans H1.o.2.1;have bM:∀b,N.map (·.block)=some b->0<O->b<B:=λ b e v=>by have:=f.o.2.2.2.2.2.2.2.2.2.2.2.1 b e v;omega
 have bN:∀b,R.map (·.block)=some b->0<nq->b<B:=λ b e v=>by have:=f.o.2.2.2.2.2.2.2.2.2.2.2.2 b e v;omega
 have bO:=f.o.2.2.2.2.2.2.2.1.below H1.o.2.2.2;have bP:=f.o.2.2.2.2.2.2.2.2.1.below H1.o.2.2.2;have cz:aS L N O X keep:=bO.iR g2 (λ b e v=>⟨bO.lt b e v,by have:=bM b e v;omega⟩);have cA:aS L R nq J ai:=bP.iR g2 (λ b e v=>⟨bP.lt b e v,by have:=bN b e v;omega⟩);have cB:=bk.blk.lt;have E:=bB L (.cells #[.int .i64 kind,.slice t az u,.slice ab ad ae,.int .i64 (P:Int)] 30);have aB:aN (L.alloc (.cells #[.int .i64 kind,.slice t az u,.slice ab ad ae,.int .i64 (P:Int)] 30)) L.heap.size 30 [.int .i64 kind,.slice t az u,.slice ab ad ae,.int .i64 (P:Int)]:=aN.new L 30 _;have d:=aa (z_ (bk.wide E (u_ _) (by simp)) (z_ (cw.below E) (z_ (bL.trans (E.mono bL.size)) (z_ (hm.below E) (z_ (cv.below E) (z_ (cA.below E) (z_ aB (z_ (cz.below E) (z_ cy (z_ bI (z_ (cx.below E) (z_ bM bN))))))))))));have cC:fE (B<L.heap.size):=aa cB;clear b' ay hm cv bk g2 cw bK bL dw cA cz bP bO cy H1 an bJ cx bM bN cB;generalize bl:L.heap.size=p at*;have bn:(L.alloc (.cells #[.int .i64 kind,.slice t az u,.slice ab ad ae,.int .i64 (P:Int)] 30)).heap.size=p+1:=by simp[bl]
 generalize L.alloc (.cells #[.int .i64 kind,.slice t az u,.slice ab ad ae,.int .i64 (P:Int)] 30)=T at*;have a:=d.o.2.2.2.2.2.2.1.cell;have a0:=a 0;have a1:=a 1;have a2:=a 2;have a3:=a 3;simp only[y_,x_] at a0 a1 a2 a3;clear a aB E bI cj;rcases aA.k with⟨rfl,rfl,aD⟩|⟨rfl,rfl,cD,cE⟩|⟨rfl,rfl,rfl,dx⟩
 ·have aE:=d.o.2.2.2.1.len;rw[aD.len] at aE;subst aE;have ei:∀(fn:Fn)(first cap:Array Value)(w:World),(Instr.makeFunc fn first cap).run w_ w=.ok (.func fn first cap) w:=λ _ _ _ _=>rfl
  have U:=bB T (.cells #[.func (.func 82) #[] #[.pointer (some ⟨p,0,none⟩)]] 106);have cG:aN (T.alloc (.cells #[.func (.func 82) #[] #[.pointer (some ⟨p,0,none⟩)]] 106)) T.heap.size 106 [.func (.func 82) #[] #[.pointer (some ⟨p,0,none⟩)]]:=aN.new T 106 _;have qH:sq w B p T.heap.size n ls N O X keep R nq J ai r 0 t u m (T.alloc (.cells #[.func (.func 82) #[] #[.pointer (some ⟨p,0,none⟩)]] 106)):=by
   refine⟨⟨_,_,_,_,_,_,_,_,_,_,_,_,_,_,d.o.1.more U,d.o.2.2.2.2.2.2.2.2.1⟩,d.o.2.1.below U,d.o.2.2.2.2.2.2.2.2.2.2.1.below U,cG,⟨_,_,_,_,_,d.o.2.2.2.2.2.2.1.below U⟩,d.o.2.2.2.1.below U,d.o.2.2.2.2.2.2.2.2.2.1,cC.o,by omega,aD.m0,⟨aD.sat,aD.ai,λ j ej bH=>absurd bH (by omega)⟩,d.o.2.2.2.2.2.2.2.1.below U,d.o.2.2.2.2.2.1.below U,d.o.2.2.1.trans (U.mono d.o.2.2.1.size)⟩
  rw[bn] at qH;have cH:=aa qH;have bo:=aa d.o.2.2.2.2.2.2.2.2.2.2.2;clear qH cG U aD aA bl d cC
  go_upto_region 12 with fail
  generalize T.alloc (.cells #[.func (.func 82) #[] #[.pointer (some ⟨p,0,none⟩)]] 106)=cI at*;have cJ:=cH.o.tO.cell 0;simp only[y_] at cJ;clear bn a0 a1 a2 a3
  go_wp2_with fail
  clear cJ
  go_loopw [57] (λ i W=>∃(k:Nat)(t:Option Addr)(u:Nat)(m:List Bool),i=.int .i64 k/\k<=nq/\sq w B p (p+1) n ls N O X keep R nq J ai r k t u m W) (λ i _=>nq-(intOf i).toNat)
  case atStart=>exact⟨0,t,u,m,rfl,p_ _,cH.o⟩
  case round=>
   obtain⟨k,t,u,m,rfl,cK,ao⟩:=hrel;have qH:=aa ao;have af:=ao.v8 v
   by_cases S:k<nq
   ·have cL:(k:Int)<(nq:Int):=by omega
    have ek:h_.wrap ((k:Int)+1)=(k:Int)+1:=by rw[n_];omega
    obtain⟨tO,bp,rfl,dy,cM⟩:=ao.uD.cells (by omega);have cN:=cM k S;have bh:k<ai.length:=by rw[ch];exact S
    obtain⟨x,K⟩:∃x,j8 ai k=x:=⟨_,rfl⟩
    have bQ:x∈ai:=K▸wg bh;have br:=f.o.2.2.2.2.1 x bQ;rw[K] at cN;have bR:x.natAbs<=n:=br.2;have dz:=af.fn;have aH:=aa (Eo n af.tH x bR p t u m wr af.md af.pE);have Y:=Cs (m:=m) br;have C:=aa (z_ bh (z_ S (z_ K (z_ bQ (z_ br bR)))));clear cM bh S cK K bQ br bR af ao dy
    cases hu:pU m x with
    |false=>
     rw[hu] at aH Y;have aI:fE (lJ m ai[k]=true):=aa (by
      have e:ai[k]'(C.o.1)=x:=by rw[<-qK C.o.1];exact C.o.2.2.1
      rw[e]
      cases bS:lJ m x with
      |true=>rfl
      |false=>rw[bS] at Y;cases Y)
     clear hu Y
     go_wp2_with (go_at_call 82;refine aH.o.mono ?_;rintro e Z ⟨rfl,bs,rfl⟩)
     go_roundw
     case rel=>exact⟨k+1,t,u,m,by go_num,by have:=C.o;omega,{qH.o.more (below_drewN wr bs) with uC:=qH.o.uC.yes C.o.1 aI.o}⟩
     case measure=>have:=C.o.2.1;simp[intOf];omega
    |true=>
     rw[hu] at aH Y;have cO:lJ m x=false:=by
      cases bS:lJ m x with
      |false=>rfl
      |true=>rw[bS] at Y;cases Y
     have aI:=aa cO;clear hu Y cO
     go_upto_region 16 with(go_at_call 82;refine aH.o.mono ?_;rintro e Z ⟨rfl,bs,rfl⟩)
     have bt:=aa (qH.o.more (below_drewN wr bs));generalize wr.drewN bs=Z at*;have M:=bt.o.tO.cell 0;simp only[y_] at M;obtain⟨G,bT⟩:∃l,ai.filter (lJ m)=l:=⟨_,rfl⟩
     have cP:(ai.filter λ x=> !(pU m x))=G:=by
      rw[<-bT];exact l_ λ y q=>by rw[Cs (f.o.2.2.2.2.1 y q),Bool.not_not]
     have cQ:Ig Z (w.heap.size+1) (p+1) p n (some ⟨tO,bp,none⟩) nq J ai G t u m:=⟨M,bt.o.v8 v,bt.o.uD,λ y q=>(f.o.2.2.2.2.1 y q).2,cP⟩
     have cR:=aa (Pn Z (w.heap.size+1) (p+1) p n (some ⟨tO,bp,none⟩) nq J ai G t u m cQ);have aJ:=aa bT;clear dz bT cP aH cN cL cQ M;refine JM (rj Tryz.f29 16) 4 101 _ _ [(6,.pointer (some ⟨w.heap.size+1,0,none⟩)),(13,.pointer (some ⟨p+1,0,none⟩))] _ (zm Z.heap.size p (some ⟨tO,bp,none⟩) nq J ai G) Ie (by kernel_rfl) (by kernel_rfl) (by kernel_rfl) (by kernel_rfl) (by kernel_rfl) (by decide+kernel) (by decide+kernel) (by decide+kernel) (by decide+kernel) (by decide+kernel) rfl ⟨rfl,rfl,trivial⟩ ((t_ _ _).drew) cR.o _ rfl ?_;intro vals bU cS cT en cU;obtain⟨dA,dB,g3,cV⟩:∃(A:Option Addr)(c:Nat),vals 3=.slice A G.length c/\bU.ownsRow Z.heap.size 3 1 (.slice A G.length c) G.length (G.map (Value.int .i64)):=cT 3 (by omega) rfl;simp only[nZ,Act.put,List.take,g3] at cU;subst cU;have bu:=aa (z_ cV cS);clear cT g3 cV cS cR;simp only[bq,execOp];simp[cF,go_sem,Act.eval,Act.put];have bV:=aa (bt.o.more bu.o.2)
     go_upto_region 17 with fail
     have dC:G.length<=ai.length:=by rw[<-aJ.o];exact m_ _ _
     have dD:=bV.o.lu;obtain⟨sj,dE,dF,dG,dH,mE,d7,dI,dJ,dK,dL,dM,dN,sp,aK,bw⟩:=dD;obtain⟨dO,dP,cW,aL⟩:=Pp bU x N O X keep dA G.length dB G bV.o.AJ (aS.lG bu.o.1 (by omega));obtain⟨all,aq⟩:∃l,keep++G++[x]=l:=⟨_,rfl⟩
     have cX:all.length<=1000:=by rw[<-aq];simp;omega
     have cY:=aa (O0 _ 3 3 [keep,G,[x]] dO cW all (by rw[<-aq];simp) (by omega));have cZ:∀y∈all,gW n y:=λ y q=>by
      rw[<-aq] at q;rcases v_.1 q with h1|h1
      ·rcases v_.1 h1 with bx|bx
       ·exact f.o.2.2.2.1 y bx
       ·rw[<-aJ.o] at bx;exact f.o.2.2.2.2.1 y (r_.1 bx).1
      ·rw[List.mem_singleton.1 h1];exact C.o.2.2.2.2.1
     have c0:(all.map aG).Nodup:=by rw[<-aq,<-aJ.o];exact Po f.o.2.2.2.2.2.1 C.o.2.2.2.1 aI.o
     have I:=aa (z_ cX (z_ cZ (z_ c0 (z_ aq (z_ aK (z_ bw aL))))));clear dC cW cX cZ c0 aq aK bw aL;subst dP
     go_upto_region 18 with(first
      |(go_at_call 87;refine cY.o.mono ?_;rintro e eo ⟨ep,er,rfl,c4,aL⟩;have c5:=aa (I.o.2.2.2.2.2.2.trans (aL.mono I.o.2.2.2.2.2.2.size));have ay:=aa (Co (I.o.2.2.2.2.1.more c5.o) (aS.lG c4 (by have:=I.o.1;omega)) I.o.2.1 I.o.2.2.1 I.o.1);clear c4 aL)
      |(go_at_call 77;refine ay.o.mono ?_;rintro e bG ⟨et,eu,d1,ev,d2,ew,d3,ey,d4,mO,d5,ag,kind,aO,bz,aP,aQ,aR,aT,rfl,c6,c7,c8,c9,da⟩;have aU:=aa (z_ c6 (z_ c7 (z_ c8 (z_ c9 da))));clear c6 c7 c8 c9 da))
     obtain⟨m9,ez,db,dQ,aV⟩:=aU.o.2.2.2.1.plain;rw[I.o.2.2.2.2.2.1] at aV;have bW:=(bV.o.more c5.o).asked aU.o.2.2.2.2 bo.o.1 bo.o.2 ⟨_,_,_,_,_,_,_,_,_,_,_,_,_,_,aU.o.1,aU.o.2.1.trans I.o.2.2.2.2.2.1⟩;have E:=bB bG (.cells #[.int .i64 kind,.slice aO bz aP,.slice aQ aR aT,.int .i64 (ag:Int)] 30);have aB:aN (bG.alloc (.cells #[.int .i64 kind,.slice aO bz aP,.slice aQ aR aT,.int .i64 (ag:Int)] 30)) bG.heap.size 30 [.int .i64 kind,.slice aO bz aP,.slice aQ aR aT,.int .i64 (ag:Int)]:=aN.new bG 30 _;have Q:=aa (z_ (bW.more E) (z_ (db.below E) (z_ aB (aU.o.1.more E))));have dc:p<bG.heap.size:=by
      obtain⟨i,j,ab,ad,ae,aW⟩:=bW.p8;exact aW.lt
     have eA:=aa dc;clear bW E aB db dQ dc cY ay;generalize bG.heap.size=lz at*;generalize bG.alloc (.cells #[.int .i64 kind,.slice aO bz aP,.slice aQ aR aT,.int .i64 (ag:Int)] 30)=kg at*;have a:=Q.o.2.2.1.cell;have a0:=a 0;have a1:=a 1;have a2:=a 2;have a3:=a 3;simp only[y_,x_] at a0 a1 a2 a3;clear a;have aX:ai[k]'(C.o.1)=x:=by rw[<-qK C.o.1];exact C.o.2.2.1
     rcases aV.k with⟨rfl,rfl,aY⟩|⟨rfl,rfl,dd,de⟩|⟨rfl,rfl,rfl,dR⟩
     ·have aE:=Q.o.2.1.len;rw[aY.len] at aE;subst aE;obtain⟨i0,eB,eC,eD,eE,aW⟩:=Q.o.1.p8;have z:=aW.cell;have z0:=z 0;have V:=z 1;have z2:=z 2;have z3:=z 3;have g:=aW.free;have g0:=g 0;have g1:=g 1;have g2:=g 2;have g3:=g 3;simp only[y_,x_] at z0 V z2 z3;have dS:=aa (Q.o.1.Pk Q.o.2.1 aY.m0 (qH.o.uC.next C.o.1 aY.sat (λ y q=>aY.ai y (by rw[<-I.o.2.2.2.1,<-aJ.o,<-aX];exact q))) bo.o.1 bo.o.2 1 (ag:Int) aQ aR aT);clear z g aY aV aW aX
      go_wp2_with fail
      go_roundw
      case rel=>exact⟨k+1,aO,aP,m9,by go_num,by have:=C.o;omega,dS.o⟩
      case measure=>have:=C.o.2.1;simp[intOf];omega
     ·have dT:=aa (qH.o.uC.no C.o.1 (λ h=>de (h.mono λ y q=>by
       have:=dd.subset q;rw[<-I.o.2.2.2.1,<-aJ.o,<-aX] at this;exact this)))
      clear dd de aV aX
      go_wp2_with fail
      go_roundw
      case rel=>exact⟨k+1,t,u,m,by go_num,by have:=C.o;omega,{Q.o.1 with uC:=dT.o}⟩
      case measure=>have:=C.o.2.1;simp[intOf];omega
     ·have bX:=I.o.2.2.2.2.1.nt;have bY:=Q.o.2.2.2.mT;have df:sp+ag=r:=by omega
      have dh:r<=59048:=by omega
      have di:=aa (z_ df dh);have F:=aa (Q.o.1.more (t_ _ _).drew);have aZ:=aa (F.o.v8 v);have M:=F.o.tO.cell 0;simp only[y_] at M;have a6:=aa (Ib n (p+1) p (w.heap.size+1) t u m (some ⟨tO,bp,none⟩) nq J ai kg.drew aZ.o M F.o.uD (λ y q=>(f.o.2.2.2.2.1 y q).2));obtain⟨os,ah⟩:∃l,ai.filter (pU m)=l:=⟨_,rfl⟩
      rw[ah] at a6;have bA:=aa (Q.o.2.2.2.more (t_ _ _).drew);have m5:=(Q.o.1.v8 v).md;have a7:=aa ah;clear ah M dR aV aX bX bY df dh
      go_upto_region 20 with fail
      rename_i bZ a8;have b0:=aa a8;clear a8;refine wp_region_noPanic ?_
      go_region_with (first
       |(go_at_call 84;refine a6.o.mono ?_;rintro e b1 ⟨b2,b3,rfl,a',ba⟩;have H:=aa (z_ a' ba);clear a' ba;have m6:=(aZ.o.below H.o.2).md;have aj:=aa (xA b1 B _ r (sp+ag) (bA.o.more H.o.2).blk rfl rfl 3 t (n+1) u b2 os.length b3 (.inr (.inr rfl)) r rfl))
       |(go_at_call 78;refine aj.o.mono ?_;rintro e eF ⟨rfl,ak⟩;have dU:=aa (H.o.2.trans (ak.mono H.o.2.size));have b4:=aa ak;clear ak;have D:=F.o.pE.below dU.o;have z:=D.cell;have z0:=z 0;have V:=z 1;have z2:=z 2;have z3:=z 3;have g:=D.free;have g0:=g 0;have g1:=g 1;have g2:=g 2;have g3:=g 3;simp only[y_,x_] at z0 V z2 z3;clear z g D))
      all_goals
       show bZ _ _;apply b0.o
       go_wp2_with fail
       have bC:os=ai.filter (λ x=> !(lJ m x)):=by
        rw[<-a7.o];exact l_ λ y q=>Cs (f.o.2.2.2.2.1 y q)
       have bb:=Ii F.o H.o.2 b4.o H.o.1 (by have ar:=m_ (pU m) ai;rw[a7.o] at ar;omega) 3 r ⟨⟨u_ _,di.o.2⟩,.inr (.inr ⟨rfl,rfl,di.o.2,.inr ⟨F.o.model,bC⟩⟩)⟩ rfl;exact AH rfl rfl rfl bb.1 bb.2
   ·have dj:k=nq:=by omega
    have cL:¬(k:Int)<(nq:Int):=by omega
    have F:=aa (ao.more (t_ _ _).drew);have aZ:=aa (F.o.v8 v);have M:=F.o.tO.cell 0;simp only[y_] at M;have a6:=aa (Ib n (p+1) p (w.heap.size+1) t u m R nq J ai wr.drew aZ.o M F.o.uD (λ y q=>(f.o.2.2.2.2.1 y q).2));obtain⟨os,ah⟩:∃l,ai.filter (pU m)=l:=⟨_,rfl⟩
    rw[ah] at a6;obtain⟨sj,dE,dF,dG,dH,mE,d7,dI,dJ,dK,dL,dM,dN,sp,aK,bw⟩:=F.o.lu;have bA:=aa aK;have m5:=af.md;have a7:=aa ah;have dV:=aa dj;clear aK bw ah M af ao S cK dj
    go_upto_region 24 with fail
    rename_i bZ a8;have b0:=aa a8;clear a8;refine wp_region_noPanic ?_
    go_region_with (first
     |(go_at_call 84;refine a6.o.mono ?_;rintro e b1 ⟨b2,b3,rfl,a',ba⟩;have H:=aa (z_ a' ba);clear a' ba;have m6:=(aZ.o.below H.o.2).md;have aj:=aa (xA b1 B _ r sp (bA.o.more H.o.2).blk rfl rfl 1 t (n+1) u b2 os.length b3 (.inl rfl) sp rfl))
     |(go_at_call 78;refine aj.o.mono ?_;rintro e bU ⟨rfl,ak⟩;have bu:=aa (H.o.2.trans (ak.mono H.o.2.size));have b4:=aa ak;clear ak;have D:=F.o.pE.below bu.o;have z:=D.cell;have z0:=z 0;have V:=z 1;have z2:=z 2;have z3:=z 3;have g:=D.free;have g0:=g 0;have g1:=g 1;have g2:=g 2;have g3:=g 3;simp only[y_,x_] at z0 V z2 z3;clear z g D))
    all_goals
     show bZ _ _;apply b0.o
     go_wp2_with fail
     have bC:os=ai.filter (λ x=> !(lJ m x)):=by
      rw[<-a7.o];exact l_ λ y q=>Cs (f.o.2.2.2.2.1 y q)
     have dk:=qH.o.uC;rw[dV.o,<-ch] at dk;have bb:=Ii F.o H.o.2 b4.o H.o.1 (by have ar:=m_ (pU m) ai;rw[a7.o] at ar;omega) 1 sp ⟨bA.o.Cm,.inl ⟨rfl,F.o.model,bC,λ y q=>by
      rw[bC] at q;have ar:=r_.1 q;exact dk.whole y ar.1 (by simpa using ar.2)⟩⟩ rfl
     exact AH rfl rfl rfl bb.1 bb.2
 ·have dm:=aa (Ed N O X keep ab ad ae core T d.o.2.2.2.2.2.2.2.1 d.o.2.2.2.2.1);obtain⟨bc,bD⟩:∃l,rA keep core=l:=⟨_,rfl⟩
  rw[bD] at dm;have dn:bc.Sublist keep:=bD▸DY keep core;have dp:¬Can ls bc:=λ h=>cE (h.mono λ x K=>by rw[<-bD];exact Cb.2 ⟨cD.subset K,K⟩)
  have b5:=aa (z_ dn dp);clear aA cD cE bD dn dp bl bn
  go_wp2_with (first
   |(go_at_call 79;refine dm.o.mono ?_;rintro e cI ⟨bj,c3,rfl,dW,dq,dr⟩;have bE:=aa (z_ dq dr);have aj:=aa (xA cI B _ r P (d.o.1.more bE.o.2).blk rfl rfl 2 none 0 0 bj bc.length c3 (.inr (.inl rfl)) P rfl);clear dW dq dr)
   |(go_at_call 78;refine aj.o.mono ?_;rintro e Z ⟨rfl,al⟩;have au:=aa (bE.o.2.trans (al.mono bE.o.2.size));have dX:=aa al;have D:=d.o.2.1.below au.o;have z:=D.cell;have z0:=z 0;have V:=z 1;have z2:=z 2;have z3:=z 3;have g:=D.free;have g0:=g 0;have g1:=g 1;have g2:=g 2;have g3:=g 3;simp only[y_,x_] at z0 V z2 z3;clear z g D al))
  have dt:=nc bE.o.1 dX.o;refine AH rfl rfl rfl (((((d.o.2.1.below au.o).set 0 _).set 1 _).set 2 _).set 3 _) ⟨2,none,0,0,bj,bc.length,c3,P,[],bc,rfl,kE.xx _,?_,⟨d.o.1.Cm,.inr (.inl ⟨rfl,rfl,b5.o.1,b5.o.2⟩)⟩,uZ7 (d.o.2.2.1.trans (au.o.mono d.o.2.2.1.size)) (aC.uZ6 _ _ _ _) (by omega)⟩;have eG:=b5.o.1.length_le;have bI:=d.o.2.1.lt;exact(aS.lG dt (by omega)).iR (aC.uZ6 _ _ _ _) (λ b e v=>by have h1:=(dt.lt b ((ax.own ⟨bj,_,c3⟩).trans e)).1;omega)
 ·have aj:=aa (xA T B _ r P d.o.1.blk rfl rfl 3 none 0 0 none 0 0 (.inr (.inr rfl)) r rfl);have bX:P=r:=by omega
  have bY:=d.o.1.mT;have aI:=aa (show y9 ls n keep ai r 3 [] [] r from⟨⟨u_ _,by omega⟩,.inr (.inr ⟨rfl,rfl,by omega,.inl ⟨rfl,rfl⟩⟩)⟩);clear aA dx bX bY bl bn
  go_wp2_with (go_at_call 78;refine aj.o.mono ?_;rintro e Z ⟨rfl,al⟩;have au:=aa al;have D:=d.o.2.1.below al;have z:=D.cell;have z0:=z 0;have V:=z 1;have z2:=z 2;have z3:=z 3;have g:=D.free;have g0:=g 0;have g1:=g 1;have g2:=g 2;have g3:=g 3;simp only[y_,x_] at z0 V z2 z3;clear z g D al)
  exact AH rfl rfl rfl (((((d.o.2.1.below au.o).set 0 _).set 1 _).set 2 _).set 3 _) ⟨3,none,0,0,none,0,0,r,[],[],rfl,kE.xx _,aS.nil _ _ _ (p_ _),aI.o,uZ7 (d.o.2.2.1.trans (au.o.mono d.o.2.2.1.size)) (aC.uZ6 _ _ _ _) (by omega)⟩
end
section
open Go.RowKit Go.Lib
theorem Ep(A:Option Addr)(n c:Nat)(A':Option Addr)(d c':Nat)(l:List Int)(w:World)(h:aS w A n c l)(h':aS w A' d c' l):
  Calls w_ 38 #[.slice A n c,.slice A' d c'] w λ e w'=>e=.returned (.bool true)/\Below w.heap.size w w':=by
 have u:=h.small;have q:d=n:=by rw[<-h'.len,h.len]
 subst q;have H:=aa (z_ h h');clear h h';go_enter Tryz.func38,Tryz.ntmps38
 go_wp2
 go_loopw [5] (λ i W=>∃k:Nat,k<=d/\i=.int .i64 k/\Below w.heap.size w W) (λ i _=>d-(intOf i).toNat)
 case atStart=>exact⟨0,p_ _,rfl,t_ _ _⟩
 case round=>
  obtain⟨k,hk,rfl,f⟩:=hrel;have g:=aa f
  by_cases j:k<d
  ·have r:(k:Int)<(d:Int):=by omega
   obtain⟨b,off,rfl,s,m⟩:=(H.o.1.below f).cells (by omega);obtain⟨v,y,rfl,t,p⟩:=(H.o.2.below f).cells (by omega);have z:=m k j;have B:=p k j;have C:h_.wrap ((k:Int)+1)=(k:Int)+1:=by rw[n_];omega
   generalize j8 l k=x at*;clear m p f s t
   go_upto_region 6 with fail
   go_quiet (fail)
   go_wp2;go_roundw
   case rel=>exact⟨k+1,by omega,by go_num,g.o.trans ((below_drewN wr _).mono g.o.size)⟩
   case measure=>simp[intOf];omega
  ·have r:¬(k:Int)<(d:Int):=by omega
   clear f;go_wp2;go_ret;exact⟨rfl,g.o⟩
theorem Pr(A:Option Addr)(n c:Nat)(l:List Int)(w:World)(h:aS w A n c l)(i:Nat)(N:i<n)(O:n<=1000000):
  Calls w_ 37 #[.slice A n c,.int .i64 i] w λ e w'=>∃j c2,e=.returned (.slice j (n-1) c2)/\aS w' j (n-1) c2 (l.eraseIdx i)/\w'.ownsRow w.heap.size 3 1 (.slice j (n-1) c2) (n-1) ((l.eraseIdx i).map (Value.int .i64))/\Below w.heap.size w w':=by
 have P:=h.cap;have E:=h.od;unfold maxLen at E;have Q:(i:Int)<=(c:Int):=by omega
 have R:(i:Int)+1<=(n:Int):=by omega
 have S:(0:Int)<=(i:Int):=by omega
 have T:h_.wrap ((i:Int)+1)=(i:Int)+1:=by rw[n_];omega
 have U:wrap64 ((i:Int)+1)=(i:Int)+1:=by unfold wrap64;omega
 have H:=aa h;have F:=aa (h.take (k:=i) (by omega));have t:=h.cut (k:=i+1) (by omega);have u:=h.len;obtain⟨b,off,rfl,G,I⟩:=h.cells (by omega);have v:fE (aS w (if c=i+1 then some ⟨b,off,none⟩ else some ⟨b,off+(i+1),none⟩) (n-(i+1)) (c-(i+1)) (l.drop (i+1))):=aa (by
  by_cases e:c=i+1
  ·rw[if_pos e];exact aS.zero (by omega) (by rw[List.length_drop];omega) (by unfold maxLen;omega)
  ·rw[if_neg e];exact t)
 have V:=aa u;clear t u G I h;go_enter Tryz.func37,Tryz.ntmps37
 go_upto_region 3 with(at_builtin;refine uH rfl (.tmp 6) (.tmp 9) rfl w.heap.size (.slice none 0 0) 0 [] rfl (World.ownsRow_nil _ _ _ _) _ i c (l.take i) rfl F.o (by omega) (u_ _) ?_;intro v1 w1 f;obtain⟨⟨y,d,c1⟩,J,z⟩:=ax.lG f.1;obtain rfl:v1=.slice y d c1:=J;have p:=aa f;have K:=aa z;clear f z)
 obtain rfl:d=i:=by have h1:d=0+i:=K.o;omega
 have B:Below w.heap.size w w1:=uX (t_ _ _) p.o.2.1 (u_ _) (λ g e=>by cases e);have m:=aa B;clear B;have q:fE (aS w (if c=d+1 then some ⟨b,off,none⟩ else some ⟨b,off+(d+1),none⟩) (n-(d+1)) (c-(d+1)) (l.drop (d+1))):=v;clear v
 by_cases e:c=d+1
 all_goals
  first
   |rw[if_pos e,show c-(d+1)=0 by omega] at q
   |rw[if_neg e] at q
  go_wp2_with (at_builtin;(refine uH rfl (.tmp 11) (.tmp 15) rfl w.heap.size (.slice y d c1) d (l.take d) rfl (by have h1:=p.o.1;rw[List.nil_append,f_] at h1;exact h1) _ _ _ (l.drop (d+1)) rfl (q.o.below m.o) (by omega) m.o.size ?_;intro v2 W f;obtain⟨⟨j,r,c2⟩,L,C⟩:=ax.lG f.1;obtain rfl:v2=.slice j r c2:=L;have D:=aa f;have M:=aa C;clear f C))
  obtain rfl:r=n-1:=by have h1:r=d+(n-(d+1)):=M.o;omega
  go_ret;have s:=D.o.1;rw[show d+(n-(d+1))=n-1 by omega,<-List.eraseIdx_eq_take_drop_succ] at s;exact⟨j,c2,rfl,aS.lG s (by omega),s,uX m.o D.o.2.1 m.o.size (λ g e=>by
   have h1:=p.o.1;rw[f_] at h1;exact(h1.lt g e).1)⟩
def Er(w:World)(x:Int)(nl b nq:Nat)(e:Ending)(w':World):Prop:=∃r,e=.returned (.bool r)/\Below w.heap.size w w'/\(r=true->x<=10/\nl<=60/\b<=20/\nq<=20)
theorem Pt(x:Int)(A:Option Addr)(nl cl:Nat)(ls:List (List Int))(v:Option Addr)(c y:Nat)(z:Option Addr)(nq B:Nat)(w:World)(h:kD w A nl cl ls):
  Calls w_ 27 #[.agg #[.int .i64 x,.slice A nl cl],.slice v c y,.slice z nq B] w (Er w x nl c nq):=by
 have I:=h.small;have l:Below w.heap.size w (w.alloc (.cells #[.int .i64 x,.slice A nl cl] 24)):=(t_ _ _).alloc (u_ _) _;have m:=tu.new w x A nl cl;generalize p:w.alloc (.cells #[.int .i64 x,.slice A nl cl] 24)=W at l m;have J:=m.bH;have K:=m.c1;have q:=aa (z_ l (h.below l));clear h l m;go_enter Tryz.func27,Tryz.ntmps27
 go_upto_region 1 with fail
 try rw[p]
 clear p
 go_wp2_with fail
 go_loop [7] (λ i=>∃k:Nat,k<=nl/\i=.int .i64 k) (λ i=>nl-(intOf i).toNat)
 case atStart=>exact⟨0,p_ _,rfl⟩
 case round=>
  obtain⟨k,hk,rfl⟩:=hrel;have last:∀{P:Prop},(∀h:x<=10\/¬x<=10,∀d:nl<=60\/¬nl<=60,∀g:c<=20\/¬c<=20,∀j:nq<=20\/¬nq<=20,P)->P:=λ f=>f (by omega) (by omega) (by omega) (by omega)
  have fin:fE (∀(r:Bool),(r=true->x<=10/\nl<=60/\c<=20/\nq<=20)->Er w x nl c nq (Ending.returned (.bool r)) W):=aa λ r C=>⟨r,rfl,q.o.1,C⟩
  by_cases s:k<nl/\k<60
  ·have t:(k:Int)<(nl:Int):=by omega
   have D:(k:Int)<60:=by omega
   obtain⟨b,off,rfl,E,u⟩:=q.o.2.cells (by omega);obtain⟨a1,n,c1,L,F⟩:=u k s.1;have M:h_.wrap ((k:Int)+1)=(k:Int)+1:=by rw[n_];omega
   clear u F E last
   by_cases N:30<n
   ·have G:(30:Int)<(n:Int):=by omega
    go_wp2;go_ret;exact fin.o false (λ e=>by cases e)
   ·have G:¬(30:Int)<(n:Int):=by omega
    go_wp2
    go_round
    case rel=>exact⟨k+1,by omega,by go_num⟩
    case measure=>simp[intOf];omega
  ·have H:(¬(k:Int)<(nl:Int))\/((k:Int)<(nl:Int)/\¬(k:Int)<60):=by omega
   refine last λ h1 d g j=>?_
   clear last s;rcases H with t|⟨t,D⟩
   ·rcases h1 with h1|h1
    ·rcases d with d|d
     ·have m2:(nl:Int)<=60:=by omega
      rcases g with g|g
      ·have m3:(c:Int)<=20:=by omega
       rcases j with j|j
       ·have m4:(nq:Int)<=20:=by omega
        go_wp2;go_ret;exact fin.o _ (λ _=>⟨h1,d,g,j⟩)
       ·have m4:¬(nq:Int)<=20:=by omega
        go_wp2;go_ret;exact fin.o false (λ e=>by cases e)
      ·have m3:¬(c:Int)<=20:=by omega
       go_wp2;go_ret;exact fin.o false (λ e=>by cases e)
     ·have m2:¬(nl:Int)<=60:=by omega
      go_wp2;go_ret;exact fin.o false (λ e=>by cases e)
    ·go_wp2;go_ret;exact fin.o false (λ e=>by cases e)
   ·have m2:¬(nl:Int)<=60:=by omega
    rcases h1 with h1|h1
    ·go_wp2;go_ret;exact fin.o false (λ e=>by cases e)
    ·go_wp2;go_ret;exact fin.o false (λ e=>by cases e)
def oc:List (List Int):=[[-1,-2]]
theorem Cw:lq 3 oc=0:=by decide
theorem AK(hl:∀x∈l,gW 3 x):uy 3 oc l=true↔Can oc l:=DX Cw hl
def zn:List Int->List (List Int)
 |[]=> [[]]
 |x::l=>zn l++(zn l).map (x::·)
theorem Cx:∀{l s:List Int},s.Sublist l->s∈zn l
 |_,_,.slnil=>by simp[zn]
 |_,_,.cons a h=>v_.2 (.inl (Cx h))
 |_,_,.cons_cons a h=>v_.2 (.inr (s_.2 ⟨_,Cx h,rfl⟩))
theorem xB(h:l.all (vW 3)=true):∀x∈l,gW 3 x:=λ x b=>by
 have:=j_.1 h x b;unfold vW at this;rw[Bool.and_eq_true,decide_eq_true_eq,decide_eq_true_eq] at this;exact⟨this.1,by unfold aG;omega⟩
theorem Pu(h:vr oc 3 [1,2,3] 1073741824 kind m core aB):kind=2/\core=[1,2]:=by
 obtain⟨_,⟨_,_,e⟩|⟨h1,_,hs,hu,f⟩|⟨_,_,_,d,_⟩⟩:=h
 ·have h1:=(AK (l:=[1,2,3]) (xB (by decide))).2 e.can;exact absurd h1 (by decide)
 ·refine⟨h1,?_⟩;have g:uy 3 oc core=false:=HY Cw (λ x b=>xB (l:=[1,2,3]) (by decide) x (hs.subset b)) hu;have i:∀j,j<core.length->uy 3 oc (core.eraseIdx j)=true:=λ j c=>OW Cw (λ x b=>xB (l:=[1,2,3]) (by decide) x (hs.subset (List.mem_of_mem_eraseIdx b))) (f j c)
  have k:=Cx hs;have d:∀s∈zn [1,2,3],uy 3 oc s=false->((List.range s.length).all λ j=>uy 3 oc (s.eraseIdx j))=true->s=[1,2]:=by decide
  exact d core k g (j_.2 λ j c=>i j (List.mem_range.1 c))
 ·omega
theorem Pv(h:vr oc 3 [1,3] 1073741824 kind m core aB):kind=1/\m.length=4/\iU m 1=true/\iU m 3=true/\iU m 2=false:=by
 obtain⟨_,⟨h1,_,b⟩|⟨_,_,hs,hu,e⟩|⟨_,_,_,f,_⟩⟩:=h
 ·have t1:iU m 1=true:=b.ai 1 (by simp);have t3:iU m 3=true:=b.ai 3 (by simp);refine⟨h1,b.len,t1,t3,?_⟩;obtain⟨x,c,d⟩:=b.sat [-1,-2] (by simp[oc]);simp at c;rcases c with rfl|rfl
  ·have:(!(iU m 1))=true:=d;rw[t1] at this;cases this
  ·have:(!(iU m 2))=true:=d;simpa using this
 ·exact absurd (((AK (l:=[1,3]) (xB (by decide))).1 (by decide)).mono λ x c=>hs.subset c) hu
 ·omega
theorem Pw(h:y9 oc 3 [1] [2,3] 1073741824 kind m core aB):kind=1/\m.length=4/\core=[2]/\iU m 1=true/\iU m 3=true:=by
 obtain⟨_,⟨h1,c,d,hw⟩|⟨_,_,hs,hu⟩|⟨_,_,j,_⟩⟩:=h
 ·have t1:iU m 1=true:=c.ai 1 (by simp);have t2:iU m 2=false:=by
   obtain⟨x,b,e⟩:=c.sat [-1,-2] (by simp[oc]);simp at b;rcases b with rfl|rfl
   ·have:(!(iU m 1))=true:=e;rw[t1] at this;cases this
   ·have:(!(iU m 2))=true:=e;simpa using this
  have f:lJ m 2=false:=t2;have t3:lJ m 3=true:=by
   cases g:lJ m 3 with
   |true=>rfl
   |false=>
    exfalso;have i:=hw 3 (by rw[d];simp[g]);refine i (((AK (l:=[1,3]) (xB (by decide))).1 (by decide)).mono λ x b=>?_);simpa[f,g] using b
  refine⟨h1,c.len,?_,t1,t3⟩;rw[d];simp[f,t3]
 ·exact absurd (((AK (l:=[1]) (xB (by decide))).1 (by decide)).mono λ x b=>hs.subset b) hu
 ·omega
theorem Px(h:y9 oc 3 [2,1] [3] 1073741824 kind m core aB):kind=2/\core=[2,1]:=by
 obtain⟨_,⟨_,c,f,hw⟩|⟨h1,_,hs,hu⟩|⟨_,_,b,_⟩⟩:=h
 ·have h1:=(AK (l:=[2,1]) (xB (by decide))).2 c.can;exact absurd h1 (by decide)
 ·refine⟨h1,?_⟩;have d:uy 3 oc core=false:=HY Cw (λ x e=>xB (l:=[2,1]) (by decide) x (hs.subset e)) hu;have b:∀s∈zn [2,1],uy 3 oc s=false->s=[2,1]:=by decide
  exact b core (Cx hs) d
 ·omega
structure Cy(w:World)(x:Int)(ls:List (List Int))(ai:List Int)(aW:Int)(kind:Int)(bk:Option Addr)(bA aV:Nat)(bF:Option Addr)(bE bl:Nat)(aB:Nat)(m:List Bool)(core:List Int)(jm:Int)(W:World):Prop where
 he:qG x ls ai aW=jm
 hm:kE W bk bA aV m
 aJ:aS W bF bE bl core
 bad:jm≠0->kind=0/\g_ bk bA aV=.slice none 0 0/\g_ bF bE bl=.slice none 0 0/\aB=0
 zo:jm=0->vr ls x.toNat ai aW.toNat kind m core aB
 kQ:Below w.heap.size w W
theorem Ij(x:Int)(z:x<=10)(A:Option Addr)(nl cl:Nat)(ls:List (List Int))(f:Option Addr)(nq g:Nat)(c:List Int)(d:Int)(w:World)(h:kD w A nl cl ls)(r:aS w f nq g c)(hw:tn c)(hlen:nq<=1000)(B:nl<=40000):
  Calls w_ 28 #[.agg #[.int .i64 x,.slice A nl cl],.slice f nq g,.int .i64 d] w λ e W=>∃(kind:Int)(i:Option Addr)(j k:Nat)(l:Option Addr)(o p q:Nat)(m:List Bool)(core:List Int)(s:Int),e=.returned (.tuple #[.agg #[.int .i64 kind,.slice i j k,.slice l o p,.int .i64 (q:Int)],.int .i64 s])/\Cy w x ls c d kind i j k l o p q m core s W:=by
 have hl:=r.len;have C:=h.len
 by_cases he:qG x ls c d=0
 ·obtain⟨t,hm,D,E⟩:=y8 he;have F:0<=x:=by
   rcases e_ x 0 with h1|h1
   ·rw[xC (.inl h1)] at t;cases t
   ·exact h1
  obtain⟨n,rfl⟩:∃n:Nat,x=n:=⟨x.toNat,by omega⟩
  obtain⟨b,rfl⟩:∃b:Nat,d=b:=⟨d.toNat,by omega⟩
  refine(Pc n (by omega) A nl cl ls f nq g c b w h r hw (by omega) (by omega) he).mono ?_;rintro e W ⟨kind,i,j,k,l,o,p,q,m,core,rfl,h1,u,v,y⟩;exact⟨kind,i,j,k,l,o,p,q,m,core,0,rfl,⟨he,h1,u,λ h=>absurd rfl h,λ _=>v,y⟩⟩
 ·refine(O9 x A nl cl ls f nq g c d w h r hw (by omega) _ rfl he).mono ?_;rintro e W ⟨rfl,h1⟩;exact⟨0,none,0,0,none,0,0,0,[],[],_,rfl,⟨rfl,kE.xx _,aS.nil _ _ _ (p_ _),λ _=>⟨rfl,rfl,rfl,rfl⟩,λ h=>absurd h he,h1⟩⟩
structure Ik(w:World)(x:Int)(ls:List (List Int))(keep ai:List Int)(aW:Int)(kind:Int)(bk:Option Addr)(bA aV:Nat)(bF:Option Addr)(bE bl:Nat)(aB:Nat)(m:List Bool)(core:List Int)(jm:Int)(W:World):Prop where
 he:qG x ls (keep++ai) aW=jm
 hm:kE W bk bA aV m
 aJ:aS W bF bE bl core
 bad:jm≠0->kind=0/\g_ bk bA aV=.slice none 0 0/\g_ bF bE bl=.slice none 0 0/\aB=0
 zo:jm=0->y9 ls x.toNat keep ai aW.toNat kind m core aB
 kQ:Below w.heap.size w W
theorem Py(x:Int)(D:x<=10)(A:Option Addr)(nl cl:Nat)(ls:List (List Int))(g:Option Addr)(f i:Nat)(keep:List Int)(j:Option Addr)(nq k:Nat)(c:List Int)(d:Int)(w:World)(h:kD w A nl cl ls)(hk:aS w g f i keep)(u:aS w j nq k c)(hw:tn (keep++c))(hlen:f+nq<=900)(E:nl<=40000):
  Calls w_ 29 #[.agg #[.int .i64 x,.slice A nl cl],.slice g f i,.slice j nq k,.int .i64 d] w λ e W=>∃(kind:Int)(l:Option Addr)(o p:Nat)(q:Option Addr)(r s t:Nat)(m:List Bool)(core:List Int)(v:Int),e=.returned (.tuple #[.agg #[.int .i64 kind,.slice l o p,.slice q r s,.int .i64 (t:Int)],.int .i64 v])/\Ik w x ls keep c d kind l o p q r s t m core v W:=by
 have hl:=u.len;have F:=hk.len;have G:=h.len;have hle:(keep++c).length<=900:=by rw[List.length_append];omega
 by_cases he:qG x ls (keep++c) d=0
 ·obtain⟨y,hm,H,I⟩:=y8 he;have J:0<=x:=by
   rcases e_ x 0 with h1|h1
   ·rw[xC (.inl h1)] at y;cases y
   ·exact h1
  obtain⟨n,rfl⟩:∃n:Nat,x=n:=⟨x.toNat,by omega⟩
  obtain⟨b,rfl⟩:∃b:Nat,d=b:=⟨d.toNat,by omega⟩
  refine(Pq n (by omega) A nl cl ls g f i keep j nq k c b w h hk u hw hle (by omega) he).mono ?_;rintro e W ⟨kind,l,o,p,q,r,s,t,m,core,rfl,h1,z,B,C⟩;exact⟨kind,l,o,p,q,r,s,t,m,core,0,rfl,⟨he,h1,z,λ h=>absurd rfl h,λ _=>B,C⟩⟩
 ·refine(Pj x A nl cl ls g f i keep j nq k c d w h hk u hw (by omega) _ rfl he).mono ?_;rintro e W ⟨rfl,h1⟩;exact⟨0,none,0,0,none,0,0,0,[],[],_,rfl,⟨rfl,kE.xx _,aS.nil _ _ _ (p_ _),λ _=>⟨rfl,rfl,rfl,rfl⟩,λ h=>absurd h he,h1⟩⟩
theorem zq(h:l.all (λ x=>decide (-9223372036854775808<=x/\x<=9223372036854775807))=true):tn l:=λ x b=>of_decide_eq_true (j_.1 h x b)
theorem Es(q:kD w0 A 1 c oc)(l:List Int)(n:Nat)(r:l.length=n)(hw:tn l)(hl:n<=1000)(w:World)(s:Below w0.heap.size w0 w):
  Calls w_ 28 #[.agg #[.int .i64 3,.slice A 1 c],.slice (some ⟨w.heap.size,0,none⟩) n n,.int .i64 1073741824] (w.alloc (nX l)) λ e W=>∃(kind:Int)(b:Option Addr)(d f:Nat)(g:Option Addr)(i j k:Nat)(m:List Bool)(core:List Int)(o:Int),e=.returned (.tuple #[.agg #[.int .i64 kind,.slice b d f,.slice g i j,.int .i64 (k:Int)],.int .i64 o])/\Cy (w.alloc (nX l)) 3 oc l 1073741824 kind b d f g i j k m core o W/\Below w.heap.size w W:=by
 have h1:=bB w (nX l);refine(Ij 3 (by omega) A 1 c oc _ n n l 1073741824 (w.alloc (nX l)) ((q.below s).below h1) (aS.lit w l n _ r rfl hl) hw hl (by omega)).mono ?_;rintro e W ⟨kind,b,d,f,g,i,j,k,m,core,o,rfl,p⟩;exact⟨kind,b,d,f,g,i,j,k,m,core,o,rfl,p,h1.trans (p.kQ.mono h1.size)⟩
theorem Et(v:kD w0 A 1 c oc)(k l:List Int)(b n:Nat)(hk:k.length=b)(y:l.length=n)(hw:tn (k++l))(hl:b+n<=900)(w:World)(z:Below w0.heap.size w0 w)(w1:World)(t:w1=w.alloc (nX k))(s:Nat)(hs:s=w1.heap.size):
  Calls w_ 29 #[.agg #[.int .i64 3,.slice A 1 c],.slice (some ⟨w.heap.size,0,none⟩) b b,.slice (some ⟨s,0,none⟩) n n,.int .i64 1073741824] (w1.alloc (nX l)) λ e W=>∃(kind:Int)(d:Option Addr)(f g:Nat)(i:Option Addr)(j o p:Nat)(m:List Bool)(core:List Int)(q:Int),e=.returned (.tuple #[.agg #[.int .i64 kind,.slice d f g,.slice i j o,.int .i64 (p:Int)],.int .i64 q])/\Ik (w1.alloc (nX l)) 3 oc k l 1073741824 kind d f g i j o p m core q W/\Below w.heap.size w W:=by
 subst hs;have r:Below w.heap.size w w1:=t▸bB w (nX k);have B:aS w1 (some ⟨w.heap.size,0,none⟩) b b k:=t▸aS.lit w k b _ hk rfl (by omega);have h1:=bB w1 (nX l);refine(Py 3 (by omega) A 1 c oc _ b b k _ n n l 1073741824 (w1.alloc (nX l)) (((v.below z).below r).below h1) (B.below h1) (aS.lit w1 l n _ y rfl (by omega)) hw hl (by omega)).mono ?_;rintro e W ⟨kind,d,f,g,i,j,o,p,m,core,q,rfl,u⟩;exact⟨kind,d,f,g,i,j,o,p,m,core,q,rfl,u,r.trans ((h1.trans (u.kQ.mono h1.size)).mono r.size)⟩
structure Il(w:World)(kind:Int)(bk:Option Addr)(bA aV:Nat)(bF:Option Addr)(bE bl:Nat)(m:List Bool)(core:List Int)(W:World):Prop where
 hm:kE W bk bA aV m
 aJ:aS W bF bE bl core
 kQ:Below w.heap.size w W
theorem Pz(l:kD w0 A 1 c oc)(w:World)(n:Below w0.heap.size w0 w):
  Calls w_ 28 #[.agg #[.int .i64 3,.slice A 1 c],.slice (some ⟨w.heap.size,0,none⟩) 3 3,.int .i64 1073741824] (w.alloc (.cells #[.int .i64 1,.int .i64 2,.int .i64 3] 3)) λ e W=>∃(d:Option Addr)(f g:Nat)(i:Option Addr)(j k:Nat)(m:List Bool),e=.returned (.tuple #[.agg #[.int .i64 2,.slice d f g,.slice i 2 j,.int .i64 (k:Int)],.int .i64 0])/\Il w 2 d f g i 2 j m [1,2] W:=by
 refine(Es l [1,2,3] 3 rfl (zq (by decide)) (by omega) w n).mono ?_;rintro e W ⟨kind,d,f,g,i,o,j,k,m,core,p,rfl,b,hw⟩;obtain rfl:p=0:=by rw[<-b.he];decide
 obtain⟨rfl,rfl⟩:=Pu (b.zo rfl);obtain rfl:o=2:=b.aJ.len.symm;exact⟨d,f,g,i,j,k,m,rfl,b.hm,b.aJ,hw⟩
theorem PA(n:kD w0 A 1 c oc)(w:World)(p:Below w0.heap.size w0 w):
  Calls w_ 28 #[.agg #[.int .i64 3,.slice A 1 c],.slice (some ⟨w.heap.size,0,none⟩) 2 2,.int .i64 1073741824] (w.alloc (.cells #[.int .i64 1,.int .i64 3] 3)) λ e W=>∃(b o f:Nat)(g:Option Addr)(i j k:Nat),e=.returned (.tuple #[.agg #[.int .i64 1,.slice (some ⟨b,o,none⟩) 4 f,.slice g i j,.int .i64 (k:Int)],.int .i64 0])/\b<W.heap.size/\W.cell? ⟨b,o+1,none⟩=some (.bool true)/\W.cell? ⟨b,o+2,none⟩=some (.bool false)/\W.cell? ⟨b,o+3,none⟩=some (.bool true)/\4<=f/\Below w.heap.size w W:=by
 refine(Es n [1,3] 2 rfl (zq (by decide)) (by omega) w p).mono ?_;rintro e W ⟨kind,u,q,f,g,i,j,k,m,core,r,rfl,d,hw⟩;obtain rfl:r=0:=by rw[<-d.he];decide
 obtain⟨rfl,s,g1,g3,g2⟩:=Pv (d.zo rfl);obtain rfl:q=4:=by rw[<-d.hm.len,s]
 obtain⟨b,o,rfl,t,l⟩:=d.hm.cells (by omega);have c1:=l 1 (by omega);have c2:=l 2 (by omega);have c3:=l 3 (by omega);change _=some (k_ (iU m 1)) at c1;change _=some (k_ (iU m 2)) at c2;change _=some (k_ (iU m 3)) at c3;rw[g1] at c1;rw[g2] at c2;rw[g3] at c3;exact⟨b,o,f,g,i,j,k,rfl,t,c1,c2,c3,d.hm.cap,hw⟩
theorem PB(l:kD w0 A 1 c oc)(w:World)(n:Below w0.heap.size w0 w):
  Calls w_ 29 #[.agg #[.int .i64 3,.slice A 1 c],.slice (some ⟨w.heap.size,0,none⟩) 1 1,.slice (some ⟨w.heap.size+1,0,none⟩) 2 2,.int .i64 1073741824] ((w.alloc (.cells #[.int .i64 1] 3)).alloc (.cells #[.int .i64 2,.int .i64 3] 3)) λ e W=>∃(b o f:Nat)(g:Option Addr)(i j:Nat),e=.returned (.tuple #[.agg #[.int .i64 1,.slice (some ⟨b,o,none⟩) 4 f,.slice g 1 i,.int .i64 (j:Int)],.int .i64 0])/\b<W.heap.size/\W.cell? ⟨b,o+1,none⟩=some (.bool true)/\W.cell? ⟨b,o+3,none⟩=some (.bool true)/\4<=f/\aS W g 1 i [2]/\Below w.heap.size w W:=by
 refine(Et l [1] [2,3] 1 2 rfl rfl (zq (by decide)) (by omega) w n _ rfl _ (by simp[nX])).mono ?_;rintro e W ⟨kind,u,p,f,g,q,i,j,m,core,r,rfl,d,hw⟩;obtain rfl:r=0:=by rw[<-d.he];decide
 obtain⟨rfl,s,rfl,g1,g3⟩:=Pw (d.zo rfl);obtain rfl:p=4:=by rw[<-d.hm.len,s]
 obtain rfl:q=1:=d.aJ.len.symm;obtain⟨b,o,rfl,t,k⟩:=d.hm.cells (by omega);have c1:=k 1 (by omega);have c3:=k 3 (by omega);change _=some (k_ (iU m 1)) at c1;change _=some (k_ (iU m 3)) at c3;rw[g1] at c1;rw[g3] at c3;exact⟨b,o,f,g,i,j,rfl,t,c1,c3,d.hm.cap,d.aJ,hw⟩
theorem PC(l:kD w0 A 1 c oc)(w:World)(n:Below w0.heap.size w0 w):
  Calls w_ 29 #[.agg #[.int .i64 3,.slice A 1 c],.slice (some ⟨w.heap.size,0,none⟩) 2 2,.slice (some ⟨w.heap.size+1,0,none⟩) 1 1,.int .i64 1073741824] ((w.alloc (.cells #[.int .i64 2,.int .i64 1] 3)).alloc (.cells #[.int .i64 3] 3)) λ e W=>∃(d:Option Addr)(f g:Nat)(i:Option Addr)(j k:Nat)(m:List Bool),e=.returned (.tuple #[.agg #[.int .i64 2,.slice d f g,.slice i 2 j,.int .i64 (k:Int)],.int .i64 0])/\Il w 2 d f g i 2 j m [2,1] W:=by
 refine(Et l [2,1] [3] 2 1 rfl rfl (zq (by decide)) (by omega) w n _ rfl _ (by simp[nX])).mono ?_;rintro e W ⟨kind,d,f,g,i,o,j,k,m,core,p,rfl,b,hw⟩;obtain rfl:p=0:=by rw[<-b.he];decide
 obtain⟨rfl,rfl⟩:=Px (b.zo rfl);obtain rfl:o=2:=b.aJ.len.symm;exact⟨d,f,g,i,j,k,m,rfl,b.hm,b.aJ,hw⟩
theorem PD(d:kD w0 A 1 c oc)(w:World)(f:Below w0.heap.size w0 w):
  Calls w_ 28 #[.agg #[.int .i64 3,.slice A 1 c],.slice (some ⟨w.heap.size,0,none⟩) 2 2,.int .i64 1073741824] (w.alloc (.cells #[.int .i64 1,.int .i64 (-1)] 3)) λ e W=>e=.returned (.tuple #[.agg #[.int .i64 0,.slice none 0 0,.slice none 0 0,.int .i64 0],.int .i64 1])/\Below w.heap.size w W:=by
 refine(Es d [1,-1] 2 rfl (zq (by decide)) (by omega) w f).mono ?_;rintro e W ⟨kind,j,k,l,n,o,p,q,m,core,g,rfl,b,hw⟩;obtain rfl:g=1:=by rw[<-b.he];decide
 obtain⟨rfl,h1,i,rfl⟩:=b.bad (by decide);exact⟨by rw[h1,i];rfl,hw⟩
theorem PE(d:kD w0 A 1 c oc)(w:World)(f:Below w0.heap.size w0 w):
  Calls w_ 29 #[.agg #[.int .i64 3,.slice A 1 c],.slice (some ⟨w.heap.size,0,none⟩) 1 1,.slice (some ⟨w.heap.size+1,0,none⟩) 1 1,.int .i64 1073741824] ((w.alloc (.cells #[.int .i64 1] 3)).alloc (.cells #[.int .i64 1] 3)) λ e W=>e=.returned (.tuple #[.agg #[.int .i64 0,.slice none 0 0,.slice none 0 0,.int .i64 0],.int .i64 1])/\Below w.heap.size w W:=by
 refine(Et d [1] [1] 1 1 rfl rfl (zq (by decide)) (by omega) w f _ rfl _ (by simp[nX])).mono ?_;rintro e W ⟨kind,j,k,l,n,o,p,q,m,core,g,rfl,b,hw⟩;obtain rfl:g=1:=by rw[<-b.he];decide
 obtain⟨rfl,h1,i,rfl⟩:=b.bad (by decide);exact⟨by rw[h1,i];rfl,hw⟩
theorem Eu{V:World}{o:Obj}{f:FuncId}{args:Array Value}{ja:Ending}(b:Below V.heap.size V w)(h:Calls w_ f args (w.alloc o) λ e W'=>e=ja/\Below (w.alloc o).heap.size (w.alloc o) W'):Calls w_ f args (w.alloc o) λ e W'=>e=ja/\Below V.heap.size V W':=
 h.mono λ e W' ⟨h1,c⟩=>⟨h1,b.trans (((bB w o).trans (c.mono (bB w o).size)).mono b.size)⟩
theorem PF(w:World):Calls w_ 26 #[] w λ e w'=>e=.returned (.bool true)/\Below w.heap.size w w':=by
 have aU:=bB w (nX [-1,-2]);have bq:=aS.lit w [-1,-2] 2 _ rfl rfl (by omega);have br:=bB (w.alloc (nX [-1,-2])) (.cells #[.slice (some ⟨w.heap.size,0,none⟩) 2 2] 25);have bs:=kD.vv (w:=w.alloc (nX [-1,-2])) (rs:=[⟨some ⟨w.heap.size,0,none⟩,2,2,[-1,-2]⟩]) (ls:=oc) (n:=1) (s:=w.heap.size+1) (t:=25) rfl rfl (by simp[nX]) (by omega) rfl (λ r bt=>by
  simp only[o_,List.not_mem_nil,or_false] at bt;subst bt;exact bq)
 have aV:kD ((w.alloc (.cells #[.int .i64 (-1),.int .i64 (-2)] 3)).alloc (.cells #[.slice (some ⟨w.heap.size,0,none⟩) 2 2] 25)) (some ⟨w.heap.size+1,0,none⟩) 1 1 oc:=bs;have aW:Below w.heap.size w ((w.alloc (.cells #[.int .i64 (-1),.int .i64 (-2)] 3)).alloc (.cells #[.slice (some ⟨w.heap.size,0,none⟩) 2 2] 25)):=aU.trans (br.mono aU.size);generalize aX:(w.alloc (.cells #[.int .i64 (-1),.int .i64 (-2)] 3)).alloc (.cells #[.slice (some ⟨w.heap.size,0,none⟩) 2 2] 25)=aM at aV aW;have bu:=tu.new aM 3 (some ⟨w.heap.size+1,0,none⟩) 1 1;have bw:=bB aM (.cells #[.int .i64 3,.slice (some ⟨w.heap.size+1,0,none⟩) 1 1] 24);have Z:=aa (z_ aW (z_ bw (z_ bu aV)));have bT:fE (aM.heap.size=w.heap.size+2):=aa (by rw[<-aX];simp);clear aU br aW bw bq bs aV bu;go_enter Tryz.func26,Tryz.ntmps26
 go_upto_region 2 with fail
 try rw[aX]
 have f:=aa (z_ Z.o.2.2.2 (z_ Z.o.2.1 Z.o.2.2.1));have b:=f.o.2.2.bH;have g:=f.o.2.2.c1;generalize aM.alloc (.cells #[.int .i64 3,.slice (some ⟨w.heap.size+1,0,none⟩) 1 1] 24)=aY at*;have bx:=aa (Pz f.o.1 aY f.o.2.1)
 go_upto_region 3 with(go_at_call 28;refine bx.o.mono ?_;rintro e ab ⟨ad,ae,af,H,I,s2,m2,rfl,aC⟩;have aO:=aa aC;clear aC b g)
 have R:=aN.new ab 30 [.int .i64 2,.slice ad ae af,.slice H 2 I,.int .i64 (s2:Nat)];have t2:Below aY.heap.size aY (ab.alloc (.cells #[.int .i64 2,.slice ad ae af,.slice H 2 I,.int .i64 (s2:Nat)] 30)):=(aO.o.kQ).trans ((bB ab (.cells #[.int .i64 2,.slice ad ae af,.slice H 2 I,.int .i64 (s2:Nat)] 30)).mono (aO.o.kQ).size);have aZ:=bB ab (.cells #[.int .i64 2,.slice ad ae af,.slice H 2 I,.int .i64 (s2:Nat)] 30);generalize ab.alloc (.cells #[.int .i64 2,.slice ad ae af,.slice H 2 I,.int .i64 (s2:Nat)] 30)=a6 at R t2 aZ⊢;generalize ab.heap.size=bU at R⊢;have a7:=aa (z_ R (z_ t2 aZ));have b:=f.o.2.2.below t2;have aD:=aa (z_ ((f.o.2.1).trans (t2.mono (f.o.2.1).size)) b);have g:=b.c1;replace b:=b.bH;clear R t2 aZ;have bz:=aa (PA f.o.1 a6 aD.o.1)
 go_upto_region 4 with(go_at_call 28;refine bz.o.mono ?_;rintro e S ⟨i,J,ag,ah,ai,aj,s3,rfl,aE⟩;have O:=aa aE;clear aE b g)
 have T:=aN.new S 30 [.int .i64 1,.slice (some ⟨i,J,none⟩) 4 ag,.slice ah ai aj,.int .i64 (s3:Nat)];have t3:Below a6.heap.size a6 (S.alloc (.cells #[.int .i64 1,.slice (some ⟨i,J,none⟩) 4 ag,.slice ah ai aj,.int .i64 (s3:Nat)] 30)):=(O.o.2.2.2.2.2).trans ((bB S (.cells #[.int .i64 1,.slice (some ⟨i,J,none⟩) 4 ag,.slice ah ai aj,.int .i64 (s3:Nat)] 30)).mono (O.o.2.2.2.2.2).size);have a8:=bB S (.cells #[.int .i64 1,.slice (some ⟨i,J,none⟩) 4 ag,.slice ah ai aj,.int .i64 (s3:Nat)] 30);generalize S.alloc (.cells #[.int .i64 1,.slice (some ⟨i,J,none⟩) 4 ag,.slice ah ai aj,.int .i64 (s3:Nat)] 30)=a' at T t3 a8⊢;generalize S.heap.size=bV at T⊢;have ak:=aa (z_ T (z_ t3 a8));have b:=aD.o.2.below t3;have aF:=aa (z_ ((aD.o.1).trans (t3.mono (aD.o.1).size)) b);have g:=b.c1;replace b:=b.bH;clear T t3 a8;have bA:=aa (PB f.o.1 a' aF.o.1)
 go_upto_region 5 with(go_at_call 29;refine bA.o.mono ?_;rintro e U ⟨k,P,al,K,L,iP,rfl,bC⟩;have Q:=aa bC;clear bC b g)
 have V:=aN.new U 30 [.int .i64 1,.slice (some ⟨k,P,none⟩) 4 al,.slice K 1 L,.int .i64 (iP:Nat)];have t4:Below a'.heap.size a' (U.alloc (.cells #[.int .i64 1,.slice (some ⟨k,P,none⟩) 4 al,.slice K 1 L,.int .i64 (iP:Nat)] 30)):=(Q.o.2.2.2.2.2).trans ((bB U (.cells #[.int .i64 1,.slice (some ⟨k,P,none⟩) 4 al,.slice K 1 L,.int .i64 (iP:Nat)] 30)).mono (Q.o.2.2.2.2.2).size);have ba:=bB U (.cells #[.int .i64 1,.slice (some ⟨k,P,none⟩) 4 al,.slice K 1 L,.int .i64 (iP:Nat)] 30);generalize U.alloc (.cells #[.int .i64 1,.slice (some ⟨k,P,none⟩) 4 al,.slice K 1 L,.int .i64 (iP:Nat)] 30)=bb at V t4 ba⊢;generalize U.heap.size=bW at V⊢;have X:=aa (z_ V (z_ t4 ba));have b:=aF.o.2.below t4;have aG:=aa (z_ ((aF.o.1).trans (t4.mono (aF.o.1).size)) b);have g:=b.c1;replace b:=b.bH;clear V t4 ba;have bD:=aa (PC f.o.1 bb aG.o.1)
 go_upto_region 6 with(go_at_call 29;refine bD.o.mono ?_;rintro e an ⟨ao,aq,ar,M,N,au,m5,rfl,bE⟩;have aP:=aa bE;clear bE b g)
 have mO:=aN.new an 30 [.int .i64 2,.slice ao aq ar,.slice M 2 N,.int .i64 (au:Nat)];have t5:Below bb.heap.size bb (an.alloc (.cells #[.int .i64 2,.slice ao aq ar,.slice M 2 N,.int .i64 (au:Nat)] 30)):=(aP.o.kQ).trans ((bB an (.cells #[.int .i64 2,.slice ao aq ar,.slice M 2 N,.int .i64 (au:Nat)] 30)).mono (aP.o.kQ).size);have bc:=bB an (.cells #[.int .i64 2,.slice ao aq ar,.slice M 2 N,.int .i64 (au:Nat)] 30);generalize an.alloc (.cells #[.int .i64 2,.slice ao aq ar,.slice M 2 N,.int .i64 (au:Nat)] 30)=bd at mO t5 bc⊢;generalize an.heap.size=bX at mO⊢;have aH:=aa (z_ mO (z_ t5 bc));have b:=aG.o.2.below t5;have aI:=aa (z_ ((aG.o.1).trans (t5.mono (aG.o.1).size)) b);have g:=b.c1;replace b:=b.bH;clear mO t5 bc;have bF:=aa (PD f.o.1 bd aI.o.1)
 go_upto_region 7 with(go_at_call 28;refine bF.o.mono ?_;rintro e av ⟨rfl,bG⟩;have bf:=aa bG;clear bG b g)
 have aQ:=aN.new av 30 [.int .i64 0,.slice none 0 0,.slice none 0 0,.int .i64 0];have t6:Below bd.heap.size bd (av.alloc (.cells #[.int .i64 0,.slice none 0 0,.slice none 0 0,.int .i64 0] 30)):=(bf.o).trans ((bB av (.cells #[.int .i64 0,.slice none 0 0,.slice none 0 0,.int .i64 0] 30)).mono (bf.o).size);have bg:=bB av (.cells #[.int .i64 0,.slice none 0 0,.slice none 0 0,.int .i64 0] 30);generalize av.alloc (.cells #[.int .i64 0,.slice none 0 0,.slice none 0 0,.int .i64 0] 30)=bh at aQ t6 bg⊢;generalize av.heap.size=b4 at aQ⊢;have bj:=aa (z_ aQ (z_ t6 bg));have b:=aI.o.2.below t6;have aK:=aa (z_ ((aI.o.1).trans (t6.mono (aI.o.1).size)) b);have g:=b.c1;replace b:=b.bH;clear aQ t6 bg;have p6:=aa (PE f.o.1 bh aK.o.1)
 go_upto_region 8 with(go_at_call 29;refine p6.o.mono ?_;rintro e aw ⟨rfl,bI⟩;have bk:=aa bI;clear bI b g)
 have mE:=aN.new aw 30 [.int .i64 0,.slice none 0 0,.slice none 0 0,.int .i64 0];have t7:Below bh.heap.size bh (aw.alloc (.cells #[.int .i64 0,.slice none 0 0,.slice none 0 0,.int .i64 0] 30)):=(bk.o).trans ((bB aw (.cells #[.int .i64 0,.slice none 0 0,.slice none 0 0,.int .i64 0] 30)).mono (bk.o).size);have bl:=bB aw (.cells #[.int .i64 0,.slice none 0 0,.slice none 0 0,.int .i64 0] 30);generalize aw.alloc (.cells #[.int .i64 0,.slice none 0 0,.slice none 0 0,.int .i64 0] 30)=d at mE t7 bl⊢;generalize aw.heap.size=b5 at mE⊢;have bJ:=aa (z_ mE (z_ t7 bl));have b:=aK.o.2.below t7;have bK:=aa (z_ ((aK.o.1).trans (t7.mono (aK.o.1).size)) b);have g:=b.c1;replace b:=b.bH;clear mE t7 bl;have bL:=bJ.o.2.1;have aR:=bj.o.2.1.trans (bL.mono bj.o.2.1.size);have aL:=aH.o.2.1.trans (aR.mono aH.o.2.1.size);have aT:=X.o.2.1.trans (aL.mono X.o.2.1.size);have bn:=ak.o.2.1.trans (aT.mono ak.o.2.1.size);have R:=a7.o.1.below bn;have T:=ak.o.1.below aT;have V:=X.o.1.below aL;have mO:=aH.o.1.below aR;have bM:=(aO.o.aJ.below a7.o.2.2).below bn;have bN:=(Q.o.2.2.2.2.1.below X.o.2.2).below aL;have bO:=(aP.o.aJ.below aH.o.2.2).below aR;have bo:=ak.o.2.2.trans (aT.mono ak.o.2.2.size);have bp:=X.o.2.2.trans (aL.mono X.o.2.2.size);have Y:fE (∀W,Below d.heap.size d W->aN W bU 30 [.int .i64 2,.slice ad ae af,.slice H 2 I,.int .i64 (s2:Nat)]/\aN W bV 30 [.int .i64 1,.slice (some ⟨i,J,none⟩) 4 ag,.slice ah ai aj,.int .i64 (s3:Nat)]/\aN W bW 30 [.int .i64 1,.slice (some ⟨k,P,none⟩) 4 al,.slice K 1 L,.int .i64 (iP:Nat)]/\aN W bX 30 [.int .i64 2,.slice ao aq ar,.slice M 2 N,.int .i64 (au:Nat)]/\
   W.cell? ⟨i,J+1,none⟩=some (.bool true)/\W.cell? ⟨i,J+2,none⟩=some (.bool false)/\W.cell? ⟨i,J+3,none⟩=some (.bool true)/\W.cell? ⟨k,P+1,none⟩=some (.bool true)/\W.cell? ⟨k,P+3,none⟩=some (.bool true)/\aS W H 2 I [1,2]/\aS W K 1 L [2]/\aS W M 2 N [2,1]):=aa λ W c=>
  have f3:∀j,W.cell? ⟨i,j,none⟩=S.cell? ⟨i,j,none⟩:=λ j=>(bo.trans (c.mono bo.size)).cell (p:=⟨i,j,none⟩) O.o.1
  have f4:∀j,W.cell? ⟨k,j,none⟩=U.cell? ⟨k,j,none⟩:=λ j=>(bp.trans (c.mono bp.size)).cell (p:=⟨k,j,none⟩) Q.o.1
  ⟨R.below c,T.below c,V.below c,mO.below c,(f3 _).trans O.o.2.1,(f3 _).trans O.o.2.2.1,(f3 _).trans O.o.2.2.2.1,(f4 _).trans Q.o.2.1,(f4 _).trans Q.o.2.2.1,bM.below c,bN.below c,bO.below c⟩
 have c3:=O.o.2.2.2.2.1;have b6:=Q.o.2.2.2.1;have bP:=aa (Z.o.1.trans (bK.o.1.mono Z.o.1.size));clear bx bz bA bD bF p6 aO O Q aP bf bk a7 ak X aH bj bJ aD aF aG aI aK bK Z bT f aX bL aR aL aT bn R T V mO bM bN bO bo bp b g;obtain⟨l,m,q,u,ax,ay,az,aA,aB,_⟩:=Y.o d (t_ _ _);have z:=l.cell;have v:=z 0;have y:=z 2;clear z;have z:=m.cell;have A:=z 0;have B:=z 1;clear z;have z:=q.cell;have C:=z 0;have D:=z 1;have E:=z 2;clear z;have z:=u.cell;have F:=z 0;have G:=z 2;clear z;simp only[y_,x_] at v y A B C D E F G;clear l m q u;have bY:fE (∀W,Below d.heap.size d W->Calls w_ 38 #[.slice H 2 I,.slice (some ⟨W.heap.size,0,none⟩) 2 2] (W.alloc (.cells #[.int .i64 1,.int .i64 2] 3)) λ e W'=>e=.returned (.bool true)/\Below d.heap.size d W'):=aa λ W c=>Eu c<|Ep H 2 I _ 2 2 [1,2] _ (((Y.o W c).2.2.2.2.2.2.2.2.2.1).below (bB _ _)) (aS.lit W [1,2] 2 _ rfl rfl (by omega))
 have bZ:fE (∀W,Below d.heap.size d W->Calls w_ 38 #[.slice K 1 L,.slice (some ⟨W.heap.size,0,none⟩) 1 1] (W.alloc (.cells #[.int .i64 2] 3)) λ e W'=>e=.returned (.bool true)/\Below d.heap.size d W'):=aa λ W c=>Eu c<|Ep K 1 L _ 1 1 [2] _ (((Y.o W c).2.2.2.2.2.2.2.2.2.2.1).below (bB _ _)) (aS.lit W [2] 1 _ rfl rfl (by omega))
 have b0:fE (∀W,Below d.heap.size d W->Calls w_ 38 #[.slice M 2 N,.slice (some ⟨W.heap.size,0,none⟩) 2 2] (W.alloc (.cells #[.int .i64 2,.int .i64 1] 3)) λ e W'=>e=.returned (.bool true)/\Below d.heap.size d W'):=aa λ W c=>Eu c<|Ep M 2 N _ 2 2 [2,1] _ (((Y.o W c).2.2.2.2.2.2.2.2.2.2.2).below (bB _ _)) (aS.lit W [2,1] 2 _ rfl rfl (by omega))
 go_upto_region 10 with fail
 simp only[List.append_eq,List.cons_append,List.nil_append]
 go_wp2_with (go_at_call 38;first|(with_reducible refine(bY.o _ (t_ _ _)).mono ?_;rintro e b1 ⟨rfl,h1⟩;have bQ:=aa h1;clear h1 v y A B C D E F G ax ay az aA aB;obtain⟨l,m,q,u,ax,ay,az,aA,aB,_⟩:=Y.o b1 bQ.o;have z:=l.cell;have v:=z 0;have y:=z 2;clear z;have z:=m.cell;have A:=z 0;have B:=z 1;clear z;have z:=q.cell;have C:=z 0;have D:=z 1;have E:=z 2;clear z;have z:=u.cell;have F:=z 0;have G:=z 2;clear z;simp only[y_,x_] at v y A B C D E F G;clear l m q u)|(with_reducible refine(bZ.o _ bQ.o).mono ?_;rintro e b2 ⟨rfl,aC⟩;have bR:=aa aC;clear aC v y A B C D E F G ax ay az aA aB;obtain⟨l,m,q,u,ax,ay,az,aA,aB,_⟩:=Y.o b2 bR.o;have z:=l.cell;have v:=z 0;have y:=z 2;clear z;have z:=m.cell;have A:=z 0;have B:=z 1;clear z;have z:=q.cell;have C:=z 0;have D:=z 1;have E:=z 2;clear z;have z:=u.cell;have F:=z 0;have G:=z 2;clear z;simp only[y_,x_] at v y A B C D E F G;clear l m q u)|(with_reducible refine(b0.o _ bR.o).mono ?_;rintro e b3 ⟨rfl,aE⟩;have bS:=aa aE;clear aE v y A B C D E F G ax ay az aA aB;obtain⟨l,m,q,u,ax,ay,az,aA,aB,_⟩:=Y.o b3 bS.o;have z:=l.cell;have v:=z 0;have y:=z 2;clear z;have z:=m.cell;have A:=z 0;have B:=z 1;clear z;have z:=q.cell;have C:=z 0;have D:=z 1;have E:=z 2;clear z;have z:=u.cell;have F:=z 0;have G:=z 2;clear z;simp only[y_,x_] at v y A B C D E F G;clear l m q u))
 go_ret;exact⟨rfl,bP.o.trans (bS.o.mono bP.o.size)⟩
theorem Cy.res{aW:Int}{bA:Nat}{bF:Option Addr}{bE bl:Nat}{jm:Int}(h:Cy w x ls ai aW kind bk bA aV bF bE bl aB m core jm W)(he:qG x ls ai aW=0):jm=0/\vr ls x.toNat ai aW.toNat kind m core aB:=
 have b:jm=0:=h.he.symm.trans he
 ⟨b,h.zo b⟩
theorem PG{aW:Int}(he:qG x ls ai aW=0):∃n b:Nat,x=n/\aW=b/\lq n ls=0/\(∀y∈ai,gW n y)/\(ai.map aG).Nodup:=by
 obtain⟨c,hm,d,e⟩:=y8 he;have f:0<=x:=by
  rcases e_ x 0 with h1|h1
  ·rw[xC (.inl h1)] at c;cases c
  ·exact h1
 obtain⟨n,rfl⟩:∃n:Nat,x=n:=⟨x.toNat,by omega⟩
 obtain⟨b,rfl⟩:∃b:Nat,aW=b:=⟨aW.toNat,by omega⟩
 exact⟨n,b,rfl,rfl,c,(Cd hm).1,(Cd hm).2⟩
theorem PI{F:List (List Int)}(h:vr F n ai 1073741824 kind m core aB):(kind=1/\core=[]/\Can F ai)\/(kind=2/\core.Sublist ai/\¬Can F core/\∀j,j<core.length->Can F (core.eraseIdx j)):=by
 obtain⟨_,⟨h1,b,c⟩|⟨h1,_,hs,hu,hm⟩|⟨_,_,_,d,_⟩⟩:=h
 ·exact .inl ⟨h1,b,c.can⟩
 ·exact .inr ⟨h1,hs,hu,hm⟩
 ·omega
theorem PJ:∀args w,(callFunc 37 args).run w_ w=.ok (.enter 37 args) w:=enters_of Tryz.func37 (by kernel_rfl) rfl
structure pF where
 k:Int
 m:ax
 o:ax
 s:Int
def pF.L(t:pF):List Value:=[.int .i64 t.k,.slice t.m.A t.m.n t.m.c,.slice t.o.A t.o.n t.o.c,.int .i64 t.s]
def uG(t:kR)(u:pF):Value:=.tuple #[.agg t.L.toArray,.agg u.L.toArray,.int .i64 0]
theorem PK{P:Program}{av:Operand->Value}{o:Oper}{AE AF:Tmp}{g:Nat}{t:pF}{a0 a1 a2 a3:Value}{aK:Value->World->Prop}(hu:P=w_)(r:o.op=.store 30 (.tmp AE) (.tmp AF))(w:av (.tmp AE)=.pointer (some ⟨g,0,none⟩))(z:av (.tmp AF)=.agg t.L.toArray)
  (f:aN w' g 30 [a0,a1,a2,a3]) (h:∀W,aC (λ b=>b≠g) w' W->aN W g 30 t.L->aK undef W):bq P av o w' aK:=by
 subst hu;have d:=f.free;have B:=d 0;have C:=d 1;have D:=d 2;have E:=d 3;have y:=f.cell;have j:=y 0;have l:=y 1;have p:=y 2;have q:=y 3;simp only[y_,x_] at j l p q;have F:=(((f.set 0 (.int .i64 t.k)).set 1 (.slice t.m.A t.m.n t.m.c)).set 2 (.slice t.o.A t.o.n t.o.c)).set 3 (.int .i64 t.s);have e:∀(u:World)(i:Nat)(v:Value),aC (λ b=>b≠g) u (u.setCell ⟨g,i,none⟩ v):=λ u i v=>aC.set _ i v (λ h=>h rfl)
 have f1:=(((e w' 0 (.int .i64 t.k)).trans (e _ 1 (.slice t.m.A t.m.n t.m.c))).trans (e _ 2 (.slice t.o.A t.o.n t.o.c))).trans (e _ 3 (.int .i64 t.s));simp only[bq,execOp,r,w,z,pF.L];simp[cF,go_sem,B,C,D,E,j,l,p,q];exact h _ f1 F
theorem Im(w:World)(t:kR)(q:pF):Below w.heap.size w ((w.alloc (.cells t.L.toArray 47)).alloc (.cells q.L.toArray 30))/\aN ((w.alloc (.cells t.L.toArray 47)).alloc (.cells q.L.toArray 30)) (w.heap.size+1) 30 q.L:=by
 have b:=bB w (.cells t.L.toArray 47);have z0:(w.alloc (.cells t.L.toArray 47)).heap.size=w.heap.size+1:=by simp
 generalize w.alloc (.cells t.L.toArray 47)=w1 at*;have h1:=aN.new w1 30 q.L;have c:=bB w1 (.cells q.L.toArray 30);rw[z0] at h1;exact⟨b.trans (c.mono (by omega)),h1⟩
theorem Ev{s:kf}{aM:Option Addr}{aF:Nat}{A':Option Addr}{c':Nat}{fM:Option Addr}{bD:Nat}{aQ:Option Addr}{aU:Nat}(d:n<=10)(S:qI w n s aM aF none 0 A c A' c' fM bD aQ aU)(g:aS w gO nq gT ai)(hl:∀x∈ai,gW n x)(i:(ai.map aG).Nodup)(j:nq<=1000)(l:s.gs.length<=40000):
  Calls w_ 36 #[.agg (nP n s A c A' c' fM bD aM aF aQ aU).L.toArray,.slice gO nq gT,.int .i64 1073741824] w λ e W=>∃(t:kR)(u:pF),e=.returned (uG t u)/\Below w.heap.size w W/\((u.k=1/\Can s.gs ai)\/(u.k=2/\¬Can s.gs ai)):=by
 have V:=S.pl;have o:aQ≠none->∃b off,aQ=some ⟨b,off,none⟩:=λ h=>S.pp.resolve_left h
 refine(HC (aT:=λ _=>False) 1073741824 S.O d (λ W f=>S.aK.below ⟨f.os,f.tape,f.output,f.size,λ b p=>f.keep b ⟨p,id⟩⟩) g hl i j (by omega) l (by omega) S.sN o (λ b h=>h.elim)).mono λ e W P=>?_
 obtain⟨s',q,c1,r,c2,v,c3,y,z,B,C,D,kind,E,F,G,H,I,J,rfl,aK,O,h1,X,Y,Z,aa,K,N,_⟩:=P;refine⟨⟨n,⟨aM,s.gs.length,aF⟩,⟨q,s'.es.length,c1⟩,⟨r,n+1,c2⟩,⟨v,n,c3⟩,s'.aZ,⟨y,n+1,z⟩,⟨B,s'.aA.length,C⟩⟩,⟨kind,⟨E,F,G⟩,⟨H,I,J⟩,D⟩,rfl,N,?_⟩;rcases K with⟨rfl,_,m,_,_,ab,ad,Q,R⟩|⟨rfl,_,co,_,_,hs,hu⟩|⟨_,_,_,ae⟩
 ·exact .inl ⟨rfl,lJ m,⟨Bk _,Q⟩,R⟩
 ·exact .inr ⟨rfl,λ⟨M,T,U⟩=>hu M T λ x h=>U x (hs.subset h)⟩
 ·exfalso;have af:=O.mT;have ag:=xo d;omega
def p6(lo n6:Nat)(e:List Int)(i:Nat)(p:Nat×Nat)(vals:Nat->Value)(w:World):Prop:=
 if i=4 then∃c d,vals 4=.slice c n6 d/\aS w c n6 d e/\∀b,c.map (·.block)=some b->p.1<=b/\b<p.2
 else if i=5 then∃(t:kR)(u:pF),u.k=1/\vals 5=uG t u
 else if i=6 then∃(t:kR)(u:pF),u.k=1/\vals 6=uG t u
 else if i=7 then∃t:kR,vals 7=.agg t.L.toArray
 else if i=8 then∃u:pF,u.k=1/\vals 8=.agg u.L.toArray
 else if i=9 then vals 9=.int .i64 0
 else if i=10 then vals 10=.pointer (some ⟨p.1,0,none⟩)/\lo<=p.1/\p.1<p.2/\∃a0 a1 a2 a3 a4 a5 f g,aN w p.1 47 [a0,a1,a2,a3,a4,a5,f,g]
 else if i=11 then vals 11=.pointer (some ⟨p.1,0,none⟩)/\lo<=p.1/\p.1<p.2/\∃a0 a1 a2 a3,aN w p.1 30 [a0,a1,a2,a3]
 else if i=12 then True
 else∃(b:Nat)(u:pF),u.k=1/\vals 11=.pointer (some ⟨b,0,none⟩)/\lo<=b/\aN w b 30 u.L
def sj(i:Nat):Bool:=decide (4<=i)&&decide (i<=13)
theorem Io(h:sj i=true):i=4\/i=5\/i=6\/i=7\/i=8\/i=9\/i=10\/i=11\/i=12\/i=13:=by
 unfold sj at h;rw[Bool.and_eq_true,decide_eq_true_eq,decide_eq_true_eq] at h;omega
theorem p6.keep{p:Nat×Nat}{vals:Nat->Value}(hs:sj i=true)(j:w.heap.size<=w'.heap.size)(f:∀b,p.1<=b->b<p.2->w'.heap[b]? =w.heap[b]?)(k:i=13->∀b t cs,lo<=b->aN w b t cs->aN w' b t cs)(h:p6 lo n6 tq i p vals w):p6 lo n6 tq i p vals w':=by
 rcases Io hs with rfl|rfl|rfl|rfl|rfl|rfl|rfl|rfl|rfl|rfl
 ·obtain⟨l,m,h1,d,c⟩:=h;exact⟨l,m,h1,d.x9 j (λ b e=>f b (c b e).1 (c b e).2),c⟩
 ·exact h
 ·exact h
 ·exact h
 ·exact h
 ·exact h
 ·obtain⟨h1,d,c,a0,a1,a2,a3,a4,a5,n,o,g⟩:=h;exact⟨h1,d,c,a0,a1,a2,a3,a4,a5,n,o,(f p.1 (u_ _) c).trans g⟩
 ·obtain⟨h1,d,c,a0,a1,a2,a3,g⟩:=h;exact⟨h1,d,c,a0,a1,a2,a3,(f p.1 (u_ _) c).trans g⟩
 ·exact h
 ·obtain⟨b,u,q,h1,d,c⟩:=h;exact⟨b,u,q,h1,d,k rfl b _ _ d c⟩
theorem p6.xu{ws:List (List Nat)}{lo n6:Nat}{tq:List Int}{cs:List Value}(e:nM ws 8 13 11=true):yj ws (oC cs sj (p6 lo n6 tq)):=by
 refine oC.xu ?_;intro i p vals rO w hs c h;rcases Io hs with rfl|rfl|rfl|rfl|rfl|rfl|rfl|rfl|rfl|rfl
 ·obtain⟨f,g,h1,d⟩:=h;exact⟨f,g,(c 4 (.inl rfl)).symm.trans h1,d⟩
 ·obtain⟨t,u,h1,d⟩:=h;exact⟨t,u,h1,(c 5 (.inl rfl)).symm.trans d⟩
 ·obtain⟨t,u,h1,d⟩:=h;exact⟨t,u,h1,(c 6 (.inl rfl)).symm.trans d⟩
 ·obtain⟨t,h1⟩:=h;exact⟨t,(c 7 (.inl rfl)).symm.trans h1⟩
 ·obtain⟨u,h1,d⟩:=h;exact⟨u,h1,(c 8 (.inl rfl)).symm.trans d⟩
 ·exact(c 9 (.inl rfl)).symm.trans h
 ·exact⟨(c 10 (.inl rfl)).symm.trans h.1,h.2⟩
 ·exact⟨(c 11 (.inl rfl)).symm.trans h.1,h.2⟩
 ·exact h
 ·obtain⟨b,u,j,h1,d⟩:=h;exact⟨b,u,j,(c 11 (.inr e)).symm.trans h1,d⟩
theorem p6.more{cs:List Value}:∀j p u w w',Below w.heap.size w w'->p.2<=w.heap.size->oC cs sj (p6 lo n6 tq) j p u w->oC cs sj (p6 lo n6 tq) j p u w':=λ j p u w w' c hp h=>by
 unfold oC at*;split at h
 ·rename_i e;rw[if_pos e];exact h.keep e c.size (λ b _ f=>c.block b (by omega)) (λ _ b t cs _ d=>d.below c)
 ·rename_i e;rw[if_neg e];exact h
end
end Go.Proofs.YtogdlkfacflmaaaGreat
