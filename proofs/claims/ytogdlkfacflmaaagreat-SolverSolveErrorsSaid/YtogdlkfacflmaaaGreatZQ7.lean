/- Parts of the walk of the solver and its core; no condition. -/
import Derived.Test.YtogdlkfacflmaaaGreatZQ6
import Derived.Below
import Derived.ChangeSame
import Derived.ProofKit
import Derived.Test.YtogdlkfacflmaaaGreatZQ1
import Derived.Deep.Grids
import Derived.OpenShut
import Derived.SizedLaws
import Derived.Lib.SmallJoins
import Derived.Deep.Slices
import Derived.Deep.Fields
import Derived.Deep.Strs
import Derived.Test.YtogdlkfacflmaaaGreatRows
import Derived.WalkKit
import Derived.Test.YtogdlkfacflmaaaGreatZQ4
import Derived.Test.YtogdlkfacflmaaaGreatZQ5
import Derived.Test.YtogdlkfacflmaaaGreatZQ3
import Derived.Shelf.SlicesE.Delete
namespace Go.Proofs.YtogdlkfacflmaaaGreat
set_option linter.unusedVariables false
set_option linter.unusedSimpArgs false
set_option maxRecDepth 100000
set_option maxHeartbeats 16000000
open _root_.List renaming getElem?_cons_zero→z_,getElem?_cons_succ→y_,mem_singleton→v_,mem_append→u_,getD_eq_getElem?_getD→q_,getElem?_eq_some_iff→n_,map_toArray→l_,length_map→k_,mem_cons→i_,not_mem_nil→g_,map_nil→f_,map_cons→e_,set_cons_succ→Zt,set_cons_zero→Zr,map_append→Zn,eq_nil_of_length_eq_zero→Zi,append_assoc→Zf,getElem?_append_left→Zc,getElem?_eq_getElem→Z4,append_nil→Z_,mem_iff_getElem→ZV,replicate_succ'→ZT,mem_map→ZS
open _root_.Go.Proofs.Tryz renaming prog→x_,underlying22→d_,underlying3→Zw,underlying25→Zq
open _root_.And renaming intro→w_
open _root_.Nat renaming lt_of_lt_of_le→t_,le_trans→r_,zero_le→p_,le_refl→h_,lt_or_ge→Z3,zero_add→Z5
open _root_.Array renaming getD_eq_getD_getElem?→s_,replicate→j_,all_eq_true_iff_forall_mem→Zp,getElem?_eq_getElem→Z0,getElem?_eq_none→ZZ,mem_of_getElem?→ZX
open _root_.Go.Value renaming slice→o_
open _root_.Go.IntKind renaming wrap_i64→m_,i64→Zv
open _root_.Option.some renaming injEq→c_
open _root_.Go.Result renaming andThen_ok→b_
open _root_.Go.Region renaming binds→a_,wanted→Zh,ready→ZR
open _root_.Go.RowKit.Below renaming refl→Zx
open _root_.Classical renaming byContradiction→Zu
open _root_.Bool renaming and_eq_true→Zo,noConfusion→Z6,eq_iff_iff→Z8,and_eq_false_iff→ZW
open _root_.Go.Addr renaming add_lit→Zm
open _root_.Go.Sem renaming run_bind→Zl,run_pure→Zk
open _root_.Go.World renaming cell?_of_block→Zj
open _root_.Go.Value.slice renaming injEq→Zg
open _root_.Int renaming toNat_natCast→Ze
open _root_.Go renaming run_append_own_at→Zd
open _root_.Go.WideShapes renaming add_plain→Z7
open _root_.Go.Builtin renaming append_→Z9
open _root_.Go.Lit renaming int→ZY
open _root_.Char renaming ofNat→ZU
variable{bw D:Nat->Prop}{n aZ cl c' bk aY ia jA id i base B k:Nat}{s:kF}{bh A gJ A' bt aT jy l7:Option Addr}{aC l T ah S:List Int}{W W' w':World}{e t:TypeId}{M cs:List Value}{H:Type}{P:Program}{x lg:Int}{ops:Array Oper}{Q:Exit->Act->World->Prop}{a:Act}{ws:List (List Nat)}{hU:World->Prop}{iN:Nat->Nat×Nat}{vals:Nat->Value}
section
open Go.RowKit Go.Shelf
def zq(bw:Nat->Prop)(w:World)(n:Nat)(s:kF)(bh:Option Addr)(aS:Nat)(t:List Int)(k:Nat)(e:Ending)(W:World):Prop:=
 ∃(s':kF)(f:Option Addr)(c1:Nat)(g:Option Addr)(c2:Nat)(i:Option Addr)(c3:Nat)(j:Option Addr)(c4:Nat)(c:Option Addr)(c5:Nat)(d:Nat)(kind:Int)(l:Option Addr)(m o:Nat)(p:Option Addr)(q r:Nat),
  e=.returned (.tuple #[nP n bh s.gs.length aS f s'.es.length c1 g (n+1) c2 i n c3 s'.aM j (n+1) c4 c s'.aA.length c5,.agg #[.int .i64 kind,.slice l m o,.slice p q r,.int .i64 (d:Int)],.int .i64 0])/\
  pT W s' bh aS f c1 g c2 i c3 j c4 c c5/\oy n s'/\s'.gs=s.gs/\s'.es.length=s.es.length+d/\s.aA<+:s'.aA/\s'.aA.length=s.aA.length+d/\d<=k/\oG (λ _=>True) W s.gs t n k d kind l m o p q r/\Below w.heap.size w W/\yc w W c s'.aA.length c5 s'.aA/\(c≠none->∃b off,c=some ⟨b,off,none⟩)/\
  (∀W':World,aD (λ b=>b<W.heap.size/\¬bw b) W W'->lF W' bh s.gs.length aS s.gs->pT W' s' bh aS f c1 g c2 i c3 j c4 c c5)/\
  ∀W':World,aD (Cv (λ b=>b<W.heap.size/\¬bw b) c s'.aA.length c5) W W'->AG W' s' f c1 g c2 i c3 j c4/\oG (λ _=>True) W' s.gs t n k d kind l m o p q r
def HF(bw:Nat->Prop)(w:World)(n:Nat)(s:kF)(bh:Option Addr)(aS:Nat)(t:List Int)(f:Nat)(e:Ending)(W:World):Prop:=
 ∃(s':kF)(g:Option Addr)(c1:Nat)(i:Option Addr)(c2:Nat)(j:Option Addr)(c3:Nat)(k:Option Addr)(c4:Nat)(c:Option Addr)(c5:Nat)(d:Nat)(kind:Int)(l:Option Addr)(m o:Nat)(p:Option Addr)(q r:Nat),
  e=.returned (.tuple #[nP n bh s.gs.length aS g s'.es.length c1 i (n+1) c2 j n c3 s'.aM k (n+1) c4 c s'.aA.length c5,.agg #[.int .i64 kind,.slice l m o,.slice p q r,.int .i64 (d:Int)],.int .i64 0])/\
  pT W s' bh aS g c1 i c2 j c3 k c4 c c5/\oy n s'/\s'.gs=s.gs/\s'.es.length=s.es.length+d/\s.aA<+:s'.aA/\s'.aA.length=s.aA.length+d/\d<=f/\oG (λ _=>True) W s.gs t n f d kind l m o p q r/\Below w.heap.size w W/\yc w W c s'.aA.length c5 s'.aA/\(c≠none->∃b off,c=some ⟨b,off,none⟩)/\
  ∀W':World,aD (λ b=>b<W.heap.size/\¬bw b) W W'->pT W' s' bh aS g c1 i c2 j c3 k c4 c c5/\oG (λ _=>True) W' s.gs t n f d kind l m o p q r
def nR(bw:Nat->Prop)(w ko:World)(b:Nat):Prop:=b<ko.heap.size/\¬bw b/\b≠w.heap.size+1/\b≠w.heap.size+1+1
theorem zq.of{w:World}{gC aS:Nat}{ko:World}{lU:Option Addr}{jm c1:Nat}{jW:Option Addr}{c6:Nat}{iq:Option Addr}{gZ:Nat}{oS:Int}{iR:Option Addr}{c9:Nat}{kH:Option Addr}{vn kS:Nat}{aV:Nat}{kind:Int}{kn:Option Addr}{jT j3:Nat}{j7:Option Addr}{jC gL:Nat}(l:s.gs.length=gC)(m:lF w bh s.gs.length aS s.gs)
  (h:∃s':kF,s'.es.length=jm/\s'.aM=oS/\s'.aA.length=vn/\oy n s'/\s'.gs=s.gs/\s'.es.length=s.es.length+aV/\s.aA<+:s'.aA/\s'.aA.length=s.aA.length+aV/\aV<=aZ/\Below w.heap.size w ko/\(kH≠none->∃b off,kH=some ⟨b,off,none⟩)/\(∀W:World,aD (nR bw w ko) ko W->(lF W bh s.gs.length aS s.gs->pT W s' bh aS lU c1 jW c6 iq gZ iR c9 kH kS)/\yc w W kH s'.aA.length kS s'.aA)/\∀W:World,aD (Cv (nR bw w ko) kH s'.aA.length kS) ko W->AG W s' lU c1 jW c6 iq gZ iR c9/\oG (λ _=>True) W s.gs aC n aZ aV kind kn jT j3 j7 jC gL) (d:aD (λ b=>b≠w.heap.size+1/\b≠w.heap.size+1+1) ko W):
  zq bw w n s bh aS aC aZ (.returned (.tuple #[.agg #[.int .i64 n,.slice bh gC aS,.slice lU jm c1,.slice jW (n+1) c6,.slice iq n gZ,.int .i64 oS,.slice iR (n+1) c9,.slice kH vn kS],.agg #[.int .i64 kind,.slice kn jT j3,.slice j7 jC gL,.int .i64 (aV:Int)],.int .i64 0])) W:=by
 obtain⟨s',rfl,rfl,rfl,O,h1,o,p,q,r,t,u,g,i⟩:=h;subst l;have e:aD (nR bw w ko) ko W:=d.mono λ b c=>⟨c.2.2.1,c.2.2.2⟩
 have j:=g W e;have k:Below w.heap.size w W:=t.trans ⟨d.os,d.tape,d.output,d.size,λ b c=>d.keep b ⟨by omega,by omega⟩⟩;exact⟨s',lU,c1,jW,c6,iq,gZ,iR,c9,kH,kS,aV,kind,kn,jT,j3,j7,jC,gL,rfl,j.1 (m.below k),O,h1,o,p,q,r,(i W (e.mono λ b c=>c.1)).2,k,j.2,u,λ W' f=>
  (g W' (e.trans (f.mono λ b c=>⟨t_ c.1 d.size,c.2.1⟩))).1,λ W' f=>
  i W' ((e.mono λ b c=>c.1).trans (f.mono λ b c=>⟨⟨t_ c.1.1 d.size,c.1.2.1⟩,c.2⟩))⟩
theorem zq.NT{w:World}{aS:Nat}{e:Ending}(g:∀W,aD (λ b=>b<w.heap.size/\¬bw b) w W->lF W bh s.gs.length aS s.gs)(h:zq bw w n s bh aS aC aZ e W):HF bw w n s bh aS aC aZ e W:=by
 obtain⟨s',i,c1,j,c6,k,l,m,c9,o,p,q,kind,r,t,u,v,y,z,he,A,O,h1,B,C,D,E,F,d,G,H,I,J⟩:=h;exact⟨s',i,c1,j,c6,k,l,m,c9,o,p,q,kind,r,t,u,v,y,z,he,A,O,h1,B,C,D,E,F,d,G,H,λ W' f=>
  ⟨I W' f (g W' ((aD.q3 d λ b c=>c.1).trans (f.mono λ b c=>⟨t_ c.1 d.size,c.2⟩))),(J W' (f.mono λ b c=>c.1)).2⟩⟩
theorem HG{w0:World}{c:Nat}{es:List mc}(d:nx w0 A n c es)(f:A=none->n=0/\c=0)(w:World)(g:A≠none->∃b off,A=some ⟨b,off,none⟩):Calls x_ 109 #[.slice A n c] w λ e w'=>e=.returned (.slice A n n)/\w'=w:=by
 cases h:A with
 |none=>
  obtain⟨h1,i⟩:=f h;subst h1 i;exact No w
 |some a=>
  obtain⟨b,off,e⟩:=g (by rw[h];exact Option.some_ne_none _);rw[<-h,e];exact Nn b off n c w d.cap
structure qQ(w W:World)(L M N:List Value):Prop where
 bp:aO W w.heap.size 47 L
 bg:aO W (w.heap.size+1) 47 M
 gd:aO W (w.heap.size+1+1) 30 N
 lM:Below w.heap.size w W
theorem qQ.init(w:World)(L M N:List Value):qQ w (((w.alloc (.cells L.toArray 47)).alloc (.cells M.toArray 47)).alloc (.cells N.toArray 30)) L M N:=by
 have c:aO (w.alloc (.cells L.toArray 47)) w.heap.size 47 L:=aO.new w 47 L;have i:=bK w (.cells L.toArray 47);have z0:(w.alloc (.cells L.toArray 47)).heap.size=w.heap.size+1:=by simp
 generalize w.alloc (.cells L.toArray 47)=w1 at*;have h1:aO (w1.alloc (.cells M.toArray 47)) w1.heap.size 47 M:=aO.new w1 47 M;have e:=bK w1 (.cells M.toArray 47);have f:(w1.alloc (.cells M.toArray 47)).heap.size=w1.heap.size+1:=by simp
 replace c:=c.below e;rw[z0] at h1 f;generalize w1.alloc (.cells M.toArray 47)=b at*;have g:aO (b.alloc (.cells N.toArray 30)) b.heap.size 30 N:=aO.new b 30 N;have d:=bK b (.cells N.toArray 30);rw[f] at g;exact⟨c.below d,h1.below d,g,i.trans ((e.trans (d.mono (by omega))).mono (by omega))⟩
theorem qQ.below{w W W':World}{L M N:List Value}(h:qQ w W L M N)(b:Below W.heap.size W W'):qQ w W' L M N:=⟨h.bp.below b,h.bg.below b,h.gd.below b,h.lM.trans (b.mono h.lM.size)⟩
theorem qQ.iP{w:World}{L N:List Value}(h:qQ w W L M N){B:Nat}(c:w.heap.size+1+1<B)(f:aD (λ b=>b<B) W W'):qQ w W' L M N:=
 ⟨f.blk h.bp (by omega),f.blk h.bg (by omega),f.blk h.gd (by omega),h.lM.trans ⟨f.os,f.tape,f.output,f.size,λ b d=>f.keep b (by omega)⟩⟩
def n9:List Value:=[.int .i64 0,.slice none 0 0,.slice none 0 0,.slice none 0 0,.slice none 0 0,.int .i64 0,.slice none 0 0,.slice none 0 0]
theorem NU{aS:Nat}{c:Nat}{w:World}(ad:Nat)(O:oy n s)(aB:n<=10)(aO:pT w s bh aS gJ cl A c A' c' bt bk aT aY)(bX:∀W,aD (λ b=>b<w.heap.size/\¬bw b) w W->nx W aT s.aA.length aY s.aA)(aP:aQ w jy ia jA aC)(hl:∀x∈aC,gU n x)(bY:(aC.map aH).Nodup)(cQ:ia<=1000)(cR:ad<=1099511627776)(bZ:s.gs.length<=40000)(b0:s.aA.length<=549755813888)
  (bG:aT=none->s.aA.length=0/\aY=0) (bH:aT≠none->∃b off,aT=some ⟨b,off,none⟩) (b1:∀b,bw b->b<w.heap.size):
  Calls x_ 36 #[nP n bh s.gs.length aS gJ s.es.length cl A (n+1) c A' n c' s.aM bt (n+1) bk aT s.aA.length aY,.slice jy ia jA,.int .i64 ad] w (zq bw w n s bh aS aC ad):=by
 obtain⟨D,aR⟩:∃x,s.gs.length=x:=⟨_,rfl⟩
 obtain⟨nl,aV⟩:∃x,s.es.length=x:=⟨_,rfl⟩
 obtain⟨N,aX⟩:∃x,s.aA.length=x:=⟨_,rfl⟩
 have f:=U (w_ (w_ aO bX) (w_ O (w_ aR (w_ aV (w_ aX (w_ aP (w_ hl (w_ bY (w_ bZ (w_ b0 (w_ bG bH)))))))))));have cS:=aP.len;have bJ:=U b1;clear b1;rw[aR,aV,aX];have cT:bI (∀W:World,Below w.heap.size w W->Calls x_ 49 #[nP n bh D aS gJ nl cl A (n+1) c A' n c' s.aM bt (n+1) bk aT N aY] W λ e w'=>e=.returned (.int .i64 0)/\Below W.heap.size W w'):=U λ W d=>by
  have:=Cx O aB (aO.below d);rw[aR,aV,aX] at this;exact this
 have cU:bI (∀W:World,Below w.heap.size w W->Calls x_ 98 #[nP n bh D aS gJ nl cl A (n+1) c A' n c' s.aM bt (n+1) bk aT N aY] W (HC W n s aT)):=U λ W d=>by
  have:=NS O aB (aO.below d) (λ w=>HG aO.aA bG w bH);rw[aR,aV,aX] at this;exact this
 clear aO bX O aP hl bY bZ b0 bG bH aR aV aX;unfold nP at*;go_enter Tryz.func36,Tryz.ntmps36
 go_upto_region 1 with fail
 have m:=qQ.init w [.int .i64 n,.slice bh D aS,.slice gJ nl cl,.slice A (n+1) c,.slice A' n c',.int .i64 s.aM,.slice bt (n+1) bk,.slice aT N aY] n9 s4;replace m:qQ w (((w.alloc (.cells #[.int .i64 n,.slice bh D aS,.slice gJ nl cl,.slice A (n+1) c,.slice A' n c',.int .i64 s.aM,.slice bt (n+1) bk,.slice aT N aY] 47)).alloc (.cells #[.int .i64 0,.slice none 0 0,.slice none 0 0,.slice none 0 0,.slice none 0 0,.int .i64 0,.slice none 0 0,.slice none 0 0] 47)).alloc (.cells #[.int .i64 0,.slice none 0 0,.slice none 0 0,.int .i64 0] 30)) [.int .i64 n,.slice bh D aS,.slice gJ nl cl,.slice A (n+1) c,.slice A' n c',.int .i64 s.aM,.slice bt (n+1) bk,.slice aT N aY] n9 s4:=m;generalize (((w.alloc (.cells #[.int .i64 n,.slice bh D aS,.slice gJ nl cl,.slice A (n+1) c,.slice A' n c',.int .i64 s.aM,.slice bt (n+1) bk,.slice aT N aY] 47)).alloc (.cells #[.int .i64 0,.slice none 0 0,.slice none 0 0,.slice none 0 0,.slice none 0 0,.int .i64 0,.slice none 0 0,.slice none 0 0] 47)).alloc (.cells #[.int .i64 0,.slice none 0 0,.slice none 0 0,.int .i64 0] 30))=cV at*;have al:=m.bp.cell 0;have an:=m.bp.cell 1;have ao:=m.bp.cell 2;have aq:=m.bp.cell 3;have ar:=m.bp.cell 4;have au:=m.bp.cell 5;have av:=m.bp.cell 6;have aw:=m.bp.cell 7;simp only[z_,y_] at al an ao aq ar au av aw;have cW:=U (cT.o cV m.lM);have cX:= @run_makeMap x_;have cY:=U m;clear m
 go_upto_region 5 with(go_at_call 49;refine cW.o.mono ?_;rintro e ba ⟨rfl,b2⟩;have b3:=U (cY.o.below b2);clear al an ao aq ar au av aw b2)
 have cZ:=U (b3.o.below (bK ba (.map #[] 0)));have bb:bI (w.heap.size+1+1<ba.heap.size):=U b3.o.gd.lt;have c7:=U (lY.made ba);clear cX
 go_wp2_with fail
 go_loopw [24] (λ i W=>∃k:Nat,i=.int .i64 k/\k<=ia/\lY W ba.heap.size k ((aC.take k).map λ x=>(aH x:Int))/\qQ w W [.int .i64 n,.slice bh D aS,.slice gJ nl cl,.slice A (n+1) c,.slice A' n c',.int .i64 s.aM,.slice bt (n+1) bk,.slice aT N aY] n9 s4) (λ i _=>ia-(intOf i).toNat)
 case atStart=>exact⟨0,rfl,p_ _,c7.o,cZ.o⟩
 case round=>
  obtain⟨k,rfl,hk,b4,bL⟩:=hrel;have M:=U b4;have S:=U bL;have al:=bL.bp.cell 0;simp only[z_,y_] at al;clear b4 bL
  by_cases bM:k<ia
  ·have c8:(k:Int)<(ia:Int):=by omega
   have eh:Zv.wrap ((k:Int)+1)=(k:Int)+1:=by rw[m_];omega
   obtain⟨b,off,rfl,d,b5⟩:=(f.o.2.2.2.2.2.1.below S.o.lM).cells (by omega);have da:=b5 k bM;have bc:k<aC.length:=by omega
   have bd:=f.o.2.2.2.2.2.2.1 _ (vM bc);have b6:=f.o.2.2.2.2.2.2.2.1;obtain⟨x,aZ⟩:∃x,iJ aC k=x:=⟨_,rfl⟩
   have E:hasB ((aC.take k).map λ x=>(aH x:Int)) (aH x:Int)=false:=by
    cases db:hasB ((aC.take k).map λ x=>(aH x:Int)) (aH x:Int) with
    |false=>rfl
    |true=>
     exfalso;obtain⟨y,dc,dd⟩:=ZS.1 (qR.1 db);obtain⟨j,ei,e⟩:=List.mem_take_iff_getElem.1 dc;have h1:=List.pairwise_iff_getElem.1 b6 j k (by rw[k_];omega) (by rw[k_];omega) (by omega);rw[List.getElem_map,List.getElem_map,e] at h1;rw[rI bc] at aZ;rw[aZ] at h1;exact h1 (by have:(aH y:Int)=(aH x:Int):=dd;omega)
   rw[aZ] at da bd;have bf:aH x<=n:=bd.2;have ej:(x==0)=false:=by have:=bd.oQ;simpa using this
   have ek:¬(n:Int)<x:=by unfold aH at bf;omega
   have en:¬x< -(n:Int):=by unfold aH at bf;omega
   have wn:Zv.wrap (-(n:Int))= -(n:Int):=by rw[m_];omega
   have eo:wrap64 (-(n:Int))= -(n:Int):=by unfold wrap64;omega
   have bN:(ZY .i64 (aH x:Int)).wf=true:=DW _ (by omega) (by omega);have b7:=M.o.look bN;rw[E] at b7;obtain⟨ep,de,b8,oZ⟩:=M.o.put (by unfold maxLen;omega) bN;have ae:=U (w_ aZ (w_ bc (w_ b8 (w_ oZ bM))));have b9: -1000000<=x/\x<=1000000:=by unfold aH at bf;omega
   have b':=U b9;clear b5 b6 E b8 oZ bM hk d bd bf bN bc aZ b9;obtain⟨v,bj⟩:∃v,aH x=v:=⟨_,rfl⟩
   have df:bI (∀W:World,Calls x_ 97 #[.int .i64 x] W λ e w'=>e=.returned (.int .i64 (v:Int))/\W=w'):=U λ W=>by have:=sM x W b'.o.1 b'.o.2;rw[bj] at this;exact this
   rw[bj] at b7 de;have er:=U bj;clear bj
   go_wp2_with (go_at_call 97;refine(df.o _).mono ?_;rintro e w' ⟨rfl,rfl⟩)
   go_roundw
   case rel=>
    refine⟨k+1,by go_num,by have:=ae.o.2.2.2.2;omega,?_,?_⟩
    ·have h1:=ae.o.2.2.1;rw[s9 aC k ae.o.2.1,ae.o.1,Zn];exact h1
    ·exact⟨S.o.bp.kept ae.o.2.2.2.1 (λ e=>by injection e with e;have:=bb.o;omega),S.o.bg.kept ae.o.2.2.2.1 (λ e=>by injection e with e;have:=bb.o;omega),S.o.gd.kept ae.o.2.2.2.1 (λ e=>by injection e with e;have:=bb.o;omega),xx S.o.lM ae.o.2.2.2.1 S.o.lM.size (λ g e=>by injection e with e;have:=bb.o;omega)⟩
   case measure=>have:=ae.o.2.2.2.2;simp[intOf];omega
  ·have c8:¬(k:Int)<(ia:Int):=by omega
   have bp:¬(ad:Int)<0:=by omega
   have bg:¬(1099511627776:Int)<(ad:Int):=by omega
   have an:=S.o.bp.cell 1;have ao:=S.o.bp.cell 2;have aq:=S.o.bp.cell 3;have ar:=S.o.bp.cell 4;have au:=S.o.bp.cell 5;have av:=S.o.bp.cell 6;have aw:=S.o.bp.cell 7;simp only[z_,y_] at an ao aq ar au av aw;have dh:=U (cU.o wr S.o.lM)
   go_upto_region 15 with(go_at_call 98;refine dh.o.mono ?_;rintro e bO ⟨base,G,hs,cb,m,rfl,bl,ca,cc,cd⟩;have bn:=U (S.o.below cc);have bo:=U bl;have ah:=U ca;have dj:=U cd;clear al an ao aq ar au av aw bl ca cc cd)
   have bq:w.heap.size+1+1<base:=by have:=S.o.gd.lt;have:=dj.o;omega
   have bP:=U bq;have a6:∀b,b<w.heap.size->b<base:=λ b d=>by omega
   have cf:sB bw (λ b=>b<base) bO s.gs aC n s.es.length m.c.cl.length m jy ia jA ad:=by
    refine⟨aB,cS,cQ,f.o.2.2.2.2.2.2.1,f.o.2.2.2.2.2.1.below bn.o.lM,λ b d H=>?_,bo.o.s.lt,cR,?_,?_,f.o.2.1.bu,λ b d=>bo.o.s.lt b (a6 b (bJ.o b d))⟩
    ·obtain⟨et,off,h1,I,_⟩:=f.o.2.2.2.2.2.1.cells H;rw[h1] at d;injection d with d
     exact d▸a6 _ I
    ·have h1:=ah.o.wk;have I:=f.o.2.2.2.2.2.2.2.2.1;omega
    ·have h1:m.aA.length=s.aA.length:=by rw[ah.o.aA,k_]
     have I:=f.o.2.2.2.2.2.2.2.2.2.1;omega
   have bQ:∀b,b<w.heap.size->bw b->bw b:=λ b d e=>e
   have bR:=f.o.1.2 _ (Ej w bw);have cg:oV (λ b=>b<base/\¬bw b) bO m:=nx.in f.o.1.1.aA bn.o.lM (λ b e H=>by
    have h1:=f.o.1.1.aA.lt b e H;exact⟨a6 b h1,λ I=>bR.zm b e H (bQ b h1 I)⟩) ah.o.jl ah.o.aA (λ e=>(f.o.2.2.2.2.2.2.2.2.2.2.1 e).1) f.o.2.2.2.2.2.2.2.2.2.2.2
   have ch:∀p∈m.aA,qf (λ b=>b<base/\¬bw b) bO n s.gs p:=by
    rw[ah.o.aA];exact nx.lines f.o.1.1.aA bn.o.lM (λ e he b d H=>by
     have h1:=(f.o.1.1.aA.rows e he).lt b d H;exact⟨a6 b h1,λ I=>(bR.rows e he).zm b d H (bQ b h1 I)⟩) f.o.2.1.xz
   have dk:=U (MS (aW:=0) cf bo.o (ah.o.jX f.o.2.1 (by omega) aC) cg ch rfl);clear cf cg ch bq a6 bQ bR bp bg
   go_upto_region 16 with(go_at_call 99;refine dk.o.mono ?_;rintro e Q ⟨K,eu,cj,br,z,ev,kind,R,V,X,Y,Z,aa,rfl,ck,cm,bS,cn,cp,cq,cr,ct,cu,cv⟩;have dm:=U cm;have bs:=U cn;have J:=U (bn.o.iP bP.o bS);have ab:=U (w_ ck (w_ bS (w_ cp (w_ cq (w_ cr (w_ ct (w_ cu cv)))))));clear cm bS cn cp cq cr ct cu cv ck;have bx:=J.o.gd.cell 0;have bz:=J.o.gd.cell 1;have bA:=J.o.gd.cell 2;have bB:=J.o.gd.cell 3;have a7:=J.o.gd.free;have dn:=a7 0;have dp:=a7 1;have dq:=a7 2;have dr:=a7 3;simp only[s4,z_,y_] at bx bz bA bB;clear a7)
   have ai:∀b,b<base->K b:=ab.o.1;have cw:s5 Q (w.heap.size+1):=⟨_,_,J.o.bg,by intro u hu;simp only[n9,i_,g_,or_false] at hu;rcases hu with rfl|rfl|rfl|rfl|rfl|rfl|rfl|rfl<;>simp⟩
   have cx:s5 Q (w.heap.size+1+1):=⟨_,_,J.o.gd,by intro u hu;simp only[s4,i_,g_,or_false] at hu;rcases hu with rfl|rfl|rfl|rfl<;>simp⟩
   have cy:=aU.four dm.o (ai (w.heap.size+1+1) bP.o) (.int .i64 kind) (.slice R V X) (.slice Y Z aa) (.int .i64 (z:Int));have cz:aD (qd K (w.heap.size+1) (w.heap.size+1+1)) Q _:=aD.four (.int .i64 kind) (.slice R V X) (.slice Y Z aa) (.int .i64 (z:Int)) (λ h=>h.2.2 rfl);have aj:aD (λ b=>b≠w.heap.size+1+1) Q _:=aD.four (.int .i64 kind) (.slice R V X) (.slice Y Z aa) (.int .i64 (z:Int)) (λ h=>h rfl);have cA:=(((J.o.gd.set 0 (.int .i64 kind)).set 1 (.slice R V X)).set 2 (.slice Y Z aa)).set 3 (.int .i64 (z:Int));generalize (((Q.setCell ⟨w.heap.size+1+1,0,none⟩ (.int .i64 kind)).setCell ⟨w.heap.size+1+1,1,none⟩ (.slice R V X)).setCell ⟨w.heap.size+1+1,2,none⟩ (.slice Y Z aa)).setCell ⟨w.heap.size+1+1,3,none⟩ (.int .i64 (z:Int))=di at*;have cB:qQ w di [.int .i64 n,.slice bh D aS,.slice gJ nl cl,.slice A (n+1) c,.slice A' n c',.int .i64 s.aM,.slice bt (n+1) bk,.slice aT N aY] n9 [.int .i64 kind,.slice R V X,.slice Y Z aa,.int .i64 (z:Int)]:=
    ⟨aj.blk J.o.bp (by omega),aj.blk J.o.bg (by omega),cA,J.o.lM.trans ⟨aj.os,aj.tape,aj.output,aj.size,λ b d=>aj.keep b (by omega)⟩⟩
   have cC:br.c.st.length<=1000000:=by
    have ew:=bs.o.lb.len;have ey:=bs.o.gK.aL.len;have ez:=bs.o.rg.jh;omega
   have dt:=U (Na cy.drew bs.o aB cC (qv:=n) (tE:=s.aM) (qw:=bh) (qx:=D) (qy:=aS) (ni:=.slice gJ nl cl) (tF:=.slice A (n+1) c) (tG:=.slice A' n c') (mq:=.slice bt (n+1) bk) (s0:=.slice aT N aY));have C:=cB.below (Zx _ _).drew;have bT:=U C;have ak:=U (w_ cw (w_ cx (w_ cz ai)));clear cz aj cA ai cy cC bx bz bA bB dn dp dq dr cB cw cx;have al:=C.bp.cell 0;have an:=C.bp.cell 1;have ao:=C.bp.cell 2;have aq:=C.bp.cell 3;have ar:=C.bp.cell 4;have au:=C.bp.cell 5;have av:=C.bp.cell 6;have aw:=C.bp.cell 7;have bx:=C.gd.cell 0;have bz:=C.gd.cell 1;have bA:=C.gd.cell 2;have bB:=C.gd.cell 3;simp only[z_,y_] at al an ao aq ar au av aw bx bz bA bB;clear C;have du:bI (∀(e:Ending)(ko:World),G4 K base di.drew G cj s.gs aC n s.es.length z br n bh D aS e ko->∃(ax:Option Addr)(bC c1:Nat)(aE:Option Addr)(c6:Nat)(ay:Option Addr)(az:Nat)(bD:Int)(aF:Option Addr)(c9:Nat)(L:Option Addr)(aG af:Nat),e=.returned (.agg #[.int .i64 n,.slice bh D aS,.slice ax bC c1,.slice aE (n+1) c6,.slice ay n az,.int .i64 bD,.slice aF (n+1) c9,.slice L aG af])/\qQ w ko [.int .i64 n,.slice bh D aS,.slice gJ nl cl,.slice A (n+1) c,.slice A' n c',.int .i64 s.aM,.slice bt (n+1) bk,.slice aT N aY] n9 [.int .i64 kind,.slice R V X,.slice Y Z aa,.int .i64 (z:Int)]/\∃s':kF,s'.es.length=bC/\s'.aM=bD/\s'.aA.length=aG/\oy n s'/\s'.gs=s.gs/\s'.es.length=s.es.length+z/\s.aA<+:s'.aA/\s'.aA.length=s.aA.length+z/\z<=ad/\Below w.heap.size w ko/\(L≠none->∃b off,L=some ⟨b,off,none⟩)/\(∀W:World,aD (nR bw w ko) ko W->(lF W bh s.gs.length aS s.gs->pT W s' bh aS ax c1 aE c6 ay az aF c9 L af)/\yc w W L s'.aA.length af s'.aA)/\∀W:World,aD (Cv (nR bw w ko) L s'.aA.length af) ko W->AG W s' ax c1 aE c6 ay az aF c9/\oG (λ _=>True) W s.gs aC n ad z kind R V X Y Z aa):=U (by
    intro e ko bl;obtain⟨cD,F,iK,dv,ax,dw,dx,ay,az,rfl,bE,aI,cE,a8,aJ,dy,eA,eB,cF,dz,dA,bF,eC,aK,dB,E⟩:=bl;have ai:=ak.o.2.2.2;have bq:=bP.o;have l:qQ w ko _ n9 _:=bT.o.iP (B:=base) bq (cE.mono ai);have dC:=a8.rg.kM;have dD:=a8.rg.nB;have v6:(F 6).v=.slice (F 6).A (n+1) (F 6).c:=by rw[<-dC,<-aI.e.n6];rfl
    have v9:(F 9).v=.slice (F 9).A (n+1) (F 9).c:=by rw[<-dD,<-aI.e.jJ];rfl
    obtain⟨L,aG,af,bU⟩:∃A n c,oc F iK=.slice A n c:=by
     unfold oc
     cases iK.jl with
     |none=>exact⟨_,_,_,rfl⟩
     |some h=>exact⟨_,_,_,rfl⟩
    refine⟨ax,dx.length,dw,(F 6).A,(F 6).c,ay,az,iK.aM,(F 9).A,(F 9).c,L,aG,af,by rw[<-v6,<-v9,<-bU],l,?_⟩;have dE:∀b,di.drew.heap.size<=b->b≠w.heap.size+1/\b≠w.heap.size+1+1:=λ b d=>by
     have h1:=bT.o.gd.lt;omega
    have cG:∀b,¬bw b->¬bw b:=λ b h1=>h1
    have cH:∀b,bw b->b<base:=λ b e=>by have:=bJ.o b e;omega
    have f810:aD (qd K (w.heap.size+1) (w.heap.size+1+1)) Q ko:=ak.o.2.2.1.trans ((aD.drew.trans cE).mono λ b d=>d.1);have bV:=f810.size;have dF:∀b,b<base->b<Q.heap.size:=λ b d=>t_ (bo.o.s.lt b d) ab.o.2.1.size
    have f8:∀W,aD (nR bw w ko) ko W->aD (λ b=>b<Q.heap.size/\qd (λ b=>K b/\¬bw b) (w.heap.size+1) (w.heap.size+1+1) b) Q W:=λ W t=>(f810.mono λ b d=>⟨d.2.1.1,d.2.2⟩).trans (t.mono λ b d=>⟨t_ d.1 bV,cG b d.2.1.2,d.2.2⟩)
    have dG:∀W,aD (nR bw w ko) ko W->aU cD base W G F cj iK:=λ W t=>aI.still (P:=λ b=>b=w.heap.size+1\/b=w.heap.size+1+1\/bw b) (t.mono λ b d=>⟨d.1,λ e=>d.2 (.inr (.inr e)),λ e=>d.2 (.inl e),λ e=>d.2 (.inr (.inl e))⟩) (λ b d=>bE b (ai b (d.elim (λ h1=>by omega) (λ h1=>h1.elim (λ h1=>by omega) (cH b)))))
    have cI:∀W,aD (nR bw w ko) ko W->oV cD W iK:=λ W t=>by
     have h1:oV (λ b=>b<base/\¬bw b) W br:=ab.o.2.2.1.off (λ p hp=>(ab.o.2.2.2.1 p hp).iM) ak.o.1 ak.o.2.1 ((f8 W t).mono λ b d=>⟨dF b d.1.1,⟨ai b d.1.1,d.1.2⟩,d.2⟩);exact(oV.kept h1 (s':=iK) aD.refl dy aJ).mono (λ b d=>bE b (ai b d.1))
    have dH:∀p∈iK.aA,qf (nR bw w ko) ko n s.gs p:=λ p hp=>(((ab.o.2.2.2.1 p (by rw[<-aJ];exact hp)).NQ ak.o.1 ak.o.2.1).iP (f810.mono λ b d=>⟨d.2.1.1,d.2.2⟩)).mono λ b d=>⟨t_ d.1 bV,cG b d.2.1.2,d.2.2⟩
    have aN:∀b,b<ko.heap.size->di.drew.heap.size<=b->nR bw w ko b:=λ b h1 I=>by
     have dI:=dE b I;have dv:=bT.o.gd.lt;exact⟨h1,λ dJ=>by have:=bJ.o b dJ;omega,dI⟩
    have fin:∀W,aD (nR bw w ko) ko W->nx W aT s.aA.length aY s.aA:=λ W t=>f.o.1.2 W ((aD.q3 l.lM λ b d=>d.1).trans (t.mono λ b d=>⟨by have:=l.lM.size;omega,d.2,by omega,by omega⟩))
    have dK:br.aA.length=s.aA.length+z:=by have h1:=ab.o.2.2.2.2.2.1;rw[ah.o.aA,k_] at h1;exact h1
    have eD:=a8.nW;have eE:=AD aB;have eF:=a8.pE;have eG:=f.o.2.2.2.2.2.2.2.2.2.1;obtain⟨s',aE,c6,aF,c9,eH,eI,cJ,cK,cL,dL,dM,dN,dO,dP,dQ,dR,dS,dT,dU⟩:=NP (w:=w) (ko:=ko) (nR:=nR bw w ko) (bh:=bh) (aS:=aS) (λ W t=>(fin W t).rows) f.o.2.1 aB (by omega) dG a8 (λ W t=>cF.Hz t (λ b d e=>aN b d (r_ aK (E.1 b e))) (λ e he b d h1=>aN b d (r_ aK (E.2.1 e he b h1)))) dz dA (λ W t=>bF.iP t (λ b e H=>aN b (bF.lt b e H) (r_ aK (E.2.2 b e)))) (λ r b e=>by have h1:=aI.e.rows.lt e;exact⟨h1.2,λ I=>by have:=cH b I;omega,by omega,by omega⟩) (λ q aP W t=>by
     have eJ:=dB 11 q aP;exact⟨cF.Hz t (λ b d e=>⟨aN b d (r_ aK (E.1 b e)),by have:=E.1 b e;omega⟩) (λ e he b d h1=>⟨aN b d (r_ aK (E.2.1 e he b h1)),by have:=E.2.1 e he b h1;omega⟩),bF.iP t (λ b e H=>⟨aN b (bF.lt b e H) (r_ aK (E.2.2 b e)),by have:=E.2.2 b e;omega⟩)⟩) (λ p hp b e dV r dW=>aI.s.row r b dW (bE b ((ab.o.2.2.2.1 p (by rw[<-aJ];exact hp)).blk b e dV).1)) cI dH (by rw[aJ,<-ah.o.aA];exact ab.o.2.2.2.2.1) (by rw[aJ];omega) rfl
    rw[v6] at cJ;rw[v9] at cK;rw[bU] at cL;injection cJ with a1 a2 a3
    injection cK with bg gd dX
    injection cL with d1 d2 d3
    subst a1 a3 bg dX d1 d3;refine⟨s',by rw[dM],dL,d2.symm,dO,dN,dP,dQ,by rw[dR,aJ];exact dK,ab.o.2.2.2.2.2.2.1,l.lM,dS,dT,λ W t=>⟨dU W t,?_⟩⟩;have dY:oG (λ b=>(K b/\¬bw b)/\(s'.aA.length≠af->L.map (·.block)≠some b)) Q s.gs aC n ad z kind R V X Y Z aa:=ab.o.2.2.2.2.2.2.2.mono λ b d=>⟨d,λ eK e=>aI.s.row 11 b ((Hy (cI ko aD.refl) bU (by omega)).trans e) (bE b d.1)⟩
    exact dY.NR f.o.2.2.2.2.2.2.1 ak.o.1 ak.o.2.1 ((f810.mono λ b d=>⟨d.2.1.1.1,d.2.2⟩).trans (t.mono λ b d=>⟨⟨t_ d.1 bV,d.2.1.1.2,d.2.2⟩,d.2.1.2⟩)))
   rename_i dZ cM;have d':=U cM;clear cM;refine wp_region_noPanic ?_
   go_region_with (go_at_call 100;refine dt.o.mono ?_;intro e ko cN;obtain⟨ax,bC,c1,aE,c6,ay,az,bD,aF,c9,L,aG,af,rfl,l,cO⟩:=du.o e ko cN;have cP:=U l;have ea:=U cO;clear cN cO;have m0:=l.gd.cell 0;have m1:=l.gd.cell 1;have m2:=l.gd.cell 2;have m3:=l.gd.cell 3;have eb:=l.bg.cell 0;have ec:=l.bg.cell 1;have ed:=l.bg.cell 2;have ee:=l.bg.cell 3;have ef:=l.bg.cell 4;have eg:=l.bg.cell 5;have n6:=l.bg.cell 6;have n7:=l.bg.cell 7;have a':=l.gd.free;have eL:=a' 0;have eM:=a' 1;have eN:=a' 2;have eO:=a' 3;have ag:=l.bg.free;have eP:=ag 0;have eQ:=ag 1;have eR:=ag 2;have eS:=ag 3;have eT:=ag 4;have eU:=ag 5;have eV:=ag 6;have eW:=ag 7;simp only[n9,z_,y_] at m0 m1 m2 m3 eb ec ed ee ef eg n6 n7;clear a' ag l)
   all_goals
    show dZ _ _;apply d'.o
    go_wp2_with fail
   all_goals
    have T:=vL.ok cP.o.bg cP.o.gd (by omega) (.int .i64 n) (.slice bh D aS) (.slice ax bC c1) (.slice aE (n+1) c6) (.slice ay n az) (.int .i64 bD) (.slice aF (n+1) c9) (.slice L aG af) (.int .i64 kind) (.slice R V X) (.slice Y Z aa) (.int .i64 (z:Int));have bW:=U T;clear T;refine HB rfl rfl rfl rfl bW.o.1 bW.o.2.1 (zq.of f.o.2.2.1 f.o.1.1.gs ea.o bW.o.2.2)
theorem NV{aS:Nat}{c:Nat}{w:World}(d:Nat)(O:oy n s)(g:n<=10)(e:HA w bw s bh aS gJ cl A c A' c' bt bk aT aY)(i:aQ w jy ia jA aC)(hl:∀x∈aC,gU n x)(j:(aC.map aH).Nodup)(k:ia<=1000)(l:d<=1099511627776)(m:s.gs.length<=40000)(o:s.aA.length<=549755813888)
  (p:aT=none->s.aA.length=0/\aY=0) (q:aT≠none->∃b off,aT=some ⟨b,off,none⟩) (r:∀b,bw b->b<w.heap.size):
  Calls x_ 36 #[nP n bh s.gs.length aS gJ s.es.length cl A (n+1) c A' n c' s.aM bt (n+1) bk aT s.aA.length aY,.slice jy ia jA,.int .i64 d] w (HF bw w n s bh aS aC d):=
 (NU d O g (e w aD.refl) (λ W f=>(e W f).aA) i hl j k l m o p q r).mono λ _ _ h=>h.NT λ W f=>(e W f).gs
end
section
open Go.RowKit Go.WideShapes Go.ChangeShapes
section
variable {H:Type}{enc:TypeId×Value->H}{P:Program}
theorem NW{f:Func}{s:ChangeSpec}{apart fresh handsOn again:Bool}{W W':World}{args:Array Value}{v:Value}{ds gs:List (DataW H)}{before pa pv:List MemPlace}
  (d:DataW.Whole enc P f.params.toList s.vars apart W args.toList ds gs before)
  (e:∀(b:Nat)(sp:Nat->Bool)(n:Bool),DataW.TrodAll enc P W' b sp n f.resultTypes.toList (v.resultList f.resultTypes.size) (s.fn H (ds++gs)).results [])
  (g:∀sp:Nat->Bool,(∀p∈before,sp p.block=true)->DataW.TrodAll enc P W' 0 sp true f.params.toList args.toList (s.fn H (ds++gs)).args pa)
  (i:∀sp:Nat->Bool,(∀p∈before,sp p.block=true)->DataW.TrodVars enc P W' sp s.vars (s.fn H (ds++gs)).vars pv)
  (c:before=pa++pv) (k:Below W.heap.size W W')
  (o:∀(j:Nat)(t:TypeId)(r:Value),f.resultTypes[j]? =some t->(v.resultList f.resultTypes.size)[j]? =some r->Value.okWide P W' .any 0 t r):
  s.post enc P f apart fresh handsOn again W args v W':=by
 have l:∀p∈before,p.block<W.heap.size:=λ p hp=>d.lt p hp
 have hold:∀p∈before,(λ b=>decide (b<W.heap.size)) p.block=true:=λ p hp=>by simpa using l p hp
 refine⟨ds,gs,before,[],pa,pv,d,e _ _ _,g _ hold,i _ hold,World.keptBut_mono (λ p hp=>⟨hp,?_⟩) (k.frame (·∈before)),λ _=>?_⟩
 ·rw[c,u_] at hp;exact Or.inr hp
 ·obtain⟨_,_,_,_,_,q,u⟩:=d;refine⟨o,_,_,([]++pa)++pv,⟨[]++pa,pv,trodAll_append (g _ (λ _ _=>rfl)) (e _ _ _),i _ (λ _ _=>rfl),rfl,?_,?_⟩,?_⟩
  ·intro b off hp;have m:MemPlace.cell b off∈before:=by rw[c];simpa using hp
   rw[k.frozen (l _ m)];exact q b off m
  ·intro w;have:=u w;rw[c] at this;simpa using this
  ·intro p hp _;rw[c];simpa using hp
end
end
section
open Go.ChangeShapes Go.WideShapes Go.ChangeAt Go.RowKit Go.Joins Go.Deep
theorem laidOut:laidOutB x_=true:=by kernel_rfl
theorem NX:ownKnob x_.godebug=none:=by kernel_rfl
theorem AH:x_.cellsOf 3=1:=by kernel_rfl
theorem AI:x_.cellsOf 25=1:=by kernel_rfl
theorem NY:x_.bytesOf 3=8:=by kernel_rfl
theorem NZ:x_.bytesOf 25=24:=by kernel_rfl
def Fits{H:Type}(t:TypeId)(d:DataW H):Prop:=∀n∈d.weights x_ t,n<=reachBytes
theorem N0:reachBytes<=140737488355328:=by decide
theorem HH{yV:List TypeId}{ds:List (DataW H)}(h:(DataW.weightsEach x_ yV ds).all (·<=reachBytes)=true){j:Nat}{t:TypeId}{d:DataW H}(b:yV[j]? =some t)(c:ds[j]? =some d):Fits t d:=λ n e=>
 of_decide_eq_true (List.all_eq_true.1 h n (DataW.weights_mem_each b c n e))
theorem HI{H:Type}{P:Program}{e:TypeId}{d:DataW H}:∀{l:List (DataW H)},d∈l->∀n∈d.weights P e,n∈DataW.weightsAll P e l
 |x::l,c,n,b=>by
  simp only[DataW.weightsAll,u_];rcases i_.1 c with rfl|h
  ·exact Or.inl b
  ·exact Or.inr (HI h n b)
theorem Fits.elem{elems spare:List (DataW H)}(h:Fits t (.slice elems spare))(hu:x_.underlying t=some (.slice e)){d:DataW H}(b:d∈elems):Fits e d:=λ n c=>by
 refine h n ?_;simp only[DataW.weights,hu,i_,u_];exact Or.inr (Or.inl (HI b n c))
theorem Fits.len{elems spare:List (DataW H)}(h:Fits t (.slice elems spare))(hu:x_.underlying t=some (.slice e)):elems.length*x_.bytesOf e<=140737488355328:=by
 have:=h ((elems.length+spare.length)*x_.bytesOf e) (by simp[DataW.weights,hu]);have b:elems.length*x_.bytesOf e<=(elems.length+spare.length)*x_.bytesOf e:=Nat.mul_le_mul_right _ (by omega);exact r_ b (r_ this N0)
theorem Cy{α:Type}[Inhabited α]{P:Nat->α->Prop}:∀n,(∀j,j<n->∃x,P j x)->∃l:List α,l.length=n/\∀j,j<n->P j (l.getD j default)
 |0,_=>⟨[],rfl,λ j h=>by omega⟩
 |n+1,h=>by
  obtain⟨l,hl,hp⟩:=Cy n (λ j b=>h j (by omega));obtain⟨x,c⟩:=h n (by omega);refine⟨l++[x],by simp[hl],λ j b=>?_⟩;rcases Z3 j n with d|e
  ·have:=hp j d
   rwa[q_,Zc (by omega),<-q_]
  ·have:j=n:=by omega
   subst this;rw[q_,List.getElem?_append_right (by omega)];simpa[hl] using c
section
variable {H:Type}{enc:TypeId×Value->H}{W:World}{base:Nat}{sp:Nat->Bool}{held:Bool}
theorem AJ{W:World}{b o:Nat}{v:Value}(h:W.cell? ⟨b,o,none⟩=some v):b<W.heap.size:=by
 rcases Z3 b W.heap.size with c|d
 ·exact c
 ·simp[World.cell?,ZZ d] at h
theorem zu{fuel:Nat}{cs:List Value}{x:DataW H×List MemPlace}(h:DataW.trod enc x_ W base sp held fuel 25 cs=some x)(e:Fits 25 x.1):
  ∃A n c d,cs=[.slice A n c]/\aQ W A n c d/\∀z∈d,(ZY .i64 z).wf=true:=by
 rcases open_ints Zq Zw AH h with⟨f,_⟩|⟨a,len,cap,d,f,_,hl,hm,k,rfl,l,m⟩
 ·exact⟨none,0,0,[],f,aQ.nil _ _ _ (p_ _),λ z e=>by cases e⟩
 ·have q:len<=d.length:=by rw[k];split<;>omega
  have g:=e.len Zq;rw[NY] at g;have o:(lits (H:=H) .i64 (d.take len)).length=len:=by simp[lits];omega
  rw[o] at g;refine⟨some a,len,cap,d.take len,f,⟨by simp;omega,hl,g,hm,λ r=>?_⟩,λ z e=>m z (List.mem_of_mem_take e)⟩;obtain⟨b,off,rfl,i⟩:=ints_at l (by omega);refine⟨b,off,rfl,AJ (i 0 (by omega)),λ j p=>?_⟩;rw[i j (by omega)];simp[iJ,q_,p]
theorem N1{fuel:Nat}{cs:List Value}{x:DataW H×List MemPlace}(h:DataW.trod enc x_ W base sp held fuel 22 cs=some x)(f:Fits 22 x.1):
  ∃A n c ls,cs=[.slice A n c]/\lF W A n c ls/\∀l∈ls,∀z∈l,(ZY .i64 z).wf=true:=by
 rcases Deep.open_slice d_ h with⟨k,_⟩|⟨a,len,cap,m,n,D,mS,k,_,hl,u,hm,rfl,v⟩
 ·exact⟨none,0,0,[],k,lF.nil _ _ _ (p_ _),λ z f=>by cases f⟩
 ·have s:len<=m:=by rw[hm];split<;>omega
  have p:=f.len d_;rw[NZ] at p;rw[k_,List.length_range] at p;have each:∀i,i<len->∃g:List Int,(∃A' d c',W.cell? (a.add i)=some (.slice A' d c')/\aQ W A' d c' g)/\∀z∈g,(ZY .i64 z).wf=true:=by
   intro i w;obtain⟨G,h1,q⟩:=v i (by omega);rw[AI] at h1;obtain⟨_,I,y⟩:=World.cells?_some h1;obtain⟨A',d,c',g,rfl,B,hw⟩:=zu q (f.elem d_ (ZS.2 ⟨i,List.mem_range.2 w,rfl⟩));refine⟨g,⟨A',d,c',?_,B⟩,hw⟩;have:=y 0 (by omega);simpa[Addr.add] using this
  obtain⟨ls,C,hp⟩:=Cy len each;refine⟨some a,len,cap,ls,k,⟨C,hl,p,u,λ E=>?_⟩,λ l s=>?_⟩
  ·obtain⟨J,K,c0,t,_⟩:=(hp 0 E).1;obtain⟨b,off,spot⟩:=a;have F:spot=none:=by simpa[Addr.add] using World.cell?_spot t
   subst F;refine⟨b,off,rfl,AJ (o:=off+0) (by rw[<-Z7];exact t),λ j r=>?_⟩;obtain⟨A',d,c',h1,q⟩:=(hp j r).1;exact⟨A',d,c',by rw[<-Z7];exact h1,q⟩
  ·obtain⟨j,r,e⟩:=ZV.1 s;have:=(hp j (by omega)).2;rw[q_,Z4 r] at this;simp only[Option.getD_some] at this;rw[e] at this;exact this
theorem N2{W':World}{v:Value}{d:DataW H}{p:List MemPlace}(h:DataW.Trod enc x_ W 0 (λ _=>true) true 25 v d p)(b:Below W.heap.size W W')(c:∀x∈p,x.block<W.heap.size){AK:Nat->Bool}(hs:∀x∈p,AK x.block=true):
  DataW.Trod enc x_ W' 0 AK true 25 v d p:=
 WideElems.Trod_stays laidOut (by kernel_rfl) (of_decide_eq_true (by kernel_rfl)) h (λ x e=>b.same (c x e)) hs
theorem N3{r:Reach}{bp:Nat}{v:Value}{d:DataW H}{p:List MemPlace}(e:Value.okWide x_ W r bp 25 v)(h:DataW.Trod enc x_ W base sp held 25 v d p)(f:Fits 25 d):
  ∃A n c b,v=.slice A n c/\aQ W A n c b/\∀z∈b,(ZY .i64 z).wf=true:=by
 obtain⟨A,n,c,rfl⟩:=okWide_slice Zq e;obtain⟨fuel,h⟩:=h;obtain⟨A',g,c',b,i,j,hw⟩:=zu h f;obtain⟨rfl,rfl,rfl⟩:A=A'/\n=g/\c=c':=by simpa[Value.cells] using i
 exact⟨A,n,c,b,rfl,j,hw⟩
theorem N4:x_.cellsOf 4=1:=by kernel_rfl
theorem N5:x_.bytesOf 4=1:=by kernel_rfl
end
end
section
open Go.ChangeShapes Go.WideShapes Go.ChangeAt Go.RowKit
def Em:List Nat:=[
 104,97,114,110,101,115,115,32,56,100,54,48,101,55,98,56,49,55,55,56,98,53,101,101,100,49,51,57,55,99,51,53,57,51,51,98,51,100,52,53,
 50,98,50,55,56,51,97,102,99,97,57,51,55,97,100,49,56,54,49,98,51,102,53,100,57,50,49,100,52,55,98,54,32,99,117,116,32,97,116,32,
 99,104,97,108,107,108,105,110,101,47,99,104,97,108,107,108,105,110,101,108,97,119,50,55,46,67,111,114,101,69,114,114,111,114,83,112,101,99,32,99,
 104,97,108,107,108,105,110,101,47,99,104,97,108,107,108,105,110,101,108,97,119,50,55,46,67,111,114,101,76,101,97,115,116,77,105,110,105,109,97,108,
 32,99,104,97,108,107,108,105,110,101,47,99,104,97,108,107,108,105,110,101,108,97,119,50,55,46,67,111,114,101,71,114,111,119,77,97,120,105,109,97,
 108,32,99,104,97,108,107,108,105,110,101,47,99,104,97,108,107,108,105,110,101,108,97,119,50,55,46,67,111,114,101,68,101,99,105,100,101,115,32,99,
 104,97,108,107,108,105,110,101,47,99,104,97,108,107,108,105,110,101,108,97,119,50,55,46,67,111,114,101,65,103,114,101,101,115,87,105,116,104,83,111,
 108,118,101,114,32,99,104,97,108,107,108,105,110,101,47,99,104,97,108,107,108,105,110,101,108,97,119,50,55,46,67,111,114,101,73,100,101,109,112,111,
 116,101,110,116,32,99,104,97,108,107,108,105,110,101,47,99,104,97,108,107,108,105,110,101,108,97,119,50,55,46,67,111,114,101,67,111,114,114,101,99,
 116,105,111,110,83,101,116,32,99,104,97,108,107,108,105,110,101,47,99,104,97,108,107,108,105,110,101,108,97,119,50,53,46,83,111,108,118,101,114,66,
 97,115,105,99,115,83,112,101,99,32,99,104,97,108,107,108,105,110,101,47,99,104,97,108,107,108,105,110,101,108,97,119,50,53,46,83,111,108,118,101,
 114,83,111,108,118,101,69,114,114,111,114,115,32,99,104,97,108,107,108,105,110,101,47,99,104,97,108,107,108,105,110,101,108,97,119,50,53,46,83,111,
 108,118,101,114,65,110,115,119,101,114,67,111,114,114,101,99,116,32,99,104,97,108,107,108,105,110,101,47,99,104,97,108,107,108,105,110,101,108,97,119,
 50,53,46,83,111,108,118,101,114,83,116,97,116,101,80,114,101,115,101,114,118,101,100,32,99,104,97,108,107,108,105,110,101,47,99,104,97,108,107,108,
 105,110,101,108,97,119,50,53,46,83,111,108,118,101,114,65,110,115,119,101,114,83,116,97,98,108,101,32,99,104,97,108,107,108,105,110,101,47,99,104,
 97,108,107,108,105,110,101,108,97,119,50,53,46,83,111,108,118,101,114,69,110,117,109,101,114,97,116,101,115,77,111,100,101,108,115,32,99,104,97,108,
 107,108,105,110,101,47,99,104,97,108,107,108,105,110,101,108,97,119,50,53,46,83,111,108,118,101,114,65,100,100,77,111,110,111,116,111,110,101,32,99,
 104,97,108,107,108,105,110,101,47,99,104,97,108,107,108,105,110,101,108,97,119,50,53,46,83,111,108,118,101,114,71,114,111,119,80,114,101,115,101,114,
 118,101,115,32,99,104,97,108,107,108,105,110,101,47,99,104,97,108,107,108,105,110,101,108,97,119,50,56,46,72,105,116,83,112,101,99,32,99,104,97,
 108,107,108,105,110,101,47,99,104,97,108,107,108,105,110,101,108,97,119,50,56,46,72,105,116,77,105,110,105,109,97,108,32,99,104,97,108,107,108,105,
 110,101,47,99,104,97,108,107,108,105,110,101,108,97,119,50,56,46,72,105,116,73,110,118,111,108,117,116,105,111,110,32,99,104,97,108,107,108,105,110,
 101,47,99,104,97,108,107,108,105,110,101,108,97,119,50,56,46,72,105,116,69,110,117,109,101,114,97,116,101,115,32,99,104,97,108,107,108,105,110,101,
 47,99,104,97,108,107,108,105,110,101,108,97,119,50,56,46,72,105,116,68,117,97,108,105,116,121,32,99,104,97,108,107,108,105,110,101,47,99,104,97,
 108,107,108,105,110,101,108,97,119,50,56,46,72,105,116,67,111,114,101,115,77,105,110,105,109,97,108,32,99,104,97,108,107,108,105,110,101,47,99,104,
 97,108,107,108,105,110,101,108,97,119,50,56,46,72,105,116,70,105,120,101,115,77,105,110,105,109,97,108,32,99,104,97,108,107,108,105,110,101,47,99,
 104,97,108,107,108,105,110,101,108,97,119,50,56,46,72,105,116,67,108,97,115,115,105,102,105,101,115,83,117,98,115,101,116,115]
theorem head_eq:x_.initOrder=String.ofList (Em.map ZU):=by kernel_rfl
theorem HJ:x_.initOrder.toList=Em.map ZU:=by rw[head_eq];exact String.toList_ofList
def HK:List (List Nat):=[
 [99,117,116],
 [97,116],
 [99,104,97,108,107,108,105,110,101,47,99,104,97,108,107,108,105,110,101,108,97,119,50,55,46,67,111,114,101,69,114,114,111,114,83,112,101,99],
 [99,104,97,108,107,108,105,110,101,47,99,104,97,108,107,108,105,110,101,108,97,119,50,55,46,67,111,114,101,76,101,97,115,116,77,105,110,105,109,97,108],
 [99,104,97,108,107,108,105,110,101,47,99,104,97,108,107,108,105,110,101,108,97,119,50,55,46,67,111,114,101,71,114,111,119,77,97,120,105,109,97,108],
 [99,104,97,108,107,108,105,110,101,47,99,104,97,108,107,108,105,110,101,108,97,119,50,55,46,67,111,114,101,68,101,99,105,100,101,115],
 [99,104,97,108,107,108,105,110,101,47,99,104,97,108,107,108,105,110,101,108,97,119,50,55,46,67,111,114,101,65,103,114,101,101,115,87,105,116,104,83,111,108,118,101,114],
 [99,104,97,108,107,108,105,110,101,47,99,104,97,108,107,108,105,110,101,108,97,119,50,55,46,67,111,114,101,73,100,101,109,112,111,116,101,110,116],
 [99,104,97,108,107,108,105,110,101,47,99,104,97,108,107,108,105,110,101,108,97,119,50,55,46,67,111,114,101,67,111,114,114,101,99,116,105,111,110,83,101,116],
 [99,104,97,108,107,108,105,110,101,47,99,104,97,108,107,108,105,110,101,108,97,119,50,53,46,83,111,108,118,101,114,66,97,115,105,99,115,83,112,101,99],
 [99,104,97,108,107,108,105,110,101,47,99,104,97,108,107,108,105,110,101,108,97,119,50,53,46,83,111,108,118,101,114,83,111,108,118,101,69,114,114,111,114,115],
 [99,104,97,108,107,108,105,110,101,47,99,104,97,108,107,108,105,110,101,108,97,119,50,53,46,83,111,108,118,101,114,65,110,115,119,101,114,67,111,114,114,101,99,116],
 [99,104,97,108,107,108,105,110,101,47,99,104,97,108,107,108,105,110,101,108,97,119,50,53,46,83,111,108,118,101,114,83,116,97,116,101,80,114,101,115,101,114,118,101,100],
 [99,104,97,108,107,108,105,110,101,47,99,104,97,108,107,108,105,110,101,108,97,119,50,53,46,83,111,108,118,101,114,65,110,115,119,101,114,83,116,97,98,108,101],
 [99,104,97,108,107,108,105,110,101,47,99,104,97,108,107,108,105,110,101,108,97,119,50,53,46,83,111,108,118,101,114,69,110,117,109,101,114,97,116,101,115,77,111,100,101,108,115],
 [99,104,97,108,107,108,105,110,101,47,99,104,97,108,107,108,105,110,101,108,97,119,50,53,46,83,111,108,118,101,114,65,100,100,77,111,110,111,116,111,110,101],
 [99,104,97,108,107,108,105,110,101,47,99,104,97,108,107,108,105,110,101,108,97,119,50,53,46,83,111,108,118,101,114,71,114,111,119,80,114,101,115,101,114,118,101,115],
 [99,104,97,108,107,108,105,110,101,47,99,104,97,108,107,108,105,110,101,108,97,119,50,56,46,72,105,116,83,112,101,99],
 [99,104,97,108,107,108,105,110,101,47,99,104,97,108,107,108,105,110,101,108,97,119,50,56,46,72,105,116,77,105,110,105,109,97,108],
 [99,104,97,108,107,108,105,110,101,47,99,104,97,108,107,108,105,110,101,108,97,119,50,56,46,72,105,116,73,110,118,111,108,117,116,105,111,110],
 [99,104,97,108,107,108,105,110,101,47,99,104,97,108,107,108,105,110,101,108,97,119,50,56,46,72,105,116,69,110,117,109,101,114,97,116,101,115],
 [99,104,97,108,107,108,105,110,101,47,99,104,97,108,107,108,105,110,101,108,97,119,50,56,46,72,105,116,68,117,97,108,105,116,121],
 [99,104,97,108,107,108,105,110,101,47,99,104,97,108,107,108,105,110,101,108,97,119,50,56,46,72,105,116,67,111,114,101,115,77,105,110,105,109,97,108],
 [99,104,97,108,107,108,105,110,101,47,99,104,97,108,107,108,105,110,101,108,97,119,50,56,46,72,105,116,70,105,120,101,115,77,105,110,105,109,97,108],
 [99,104,97,108,107,108,105,110,101,47,99,104,97,108,107,108,105,110,101,108,97,119,50,56,46,72,105,116,67,108,97,115,115,105,102,105,101,115,83,117,98,115,101,116,115]]
theorem HL:behindMainWord (wordsSigns (Em.map ZU))=HK.map (·.map ZU):=by kernel_rfl
theorem N6:x_.headLifts=[]:=by
 unfold Program.headLifts;rw[HJ,HL];kernel_rfl
theorem N7{rest:List (List Char)} (h : behindMainWord (wordsSigns P.initOrder.toList) = "cut".toList :: rest) : P.make = some .cut := by
 unfold Program.make;rw[h];rfl
theorem N8{rest:List (List Char)} (h : behindMainWord (wordsSigns P.initOrder.toList) = "cut".toList :: rest) (b : P.headLifts = []) : P.liftsFinal = false := by
 unfold Program.liftsFinal;rw[h,b];rfl
theorem En : behindMainWord (wordsSigns Tryz.prog.initOrder.toList) = "cut".toList :: (HK.tail.map (·.map Char.ofNat)) := by
 rw[HJ,HL];kernel_rfl
theorem N9 (rest : List (List Char)) : stripLifts liftWords ("cut".toList :: rest) = ([], "cut".toList :: rest) := by kernel_rfl
theorem Oa{rest:List (List Char)} (h : behindMainWord (wordsSigns P.initOrder.toList) = "cut".toList :: rest) (h1 : P.laysLater = false) (b : P.bearsReflect = false) (c : P.doorFits [] = true) : P.mayEnter = true := by
 unfold Program.mayEnter;rw[h];simp only[N9,h1,b,c];rfl
theorem Ob:x_.laysLater=false:=by kernel_rfl
theorem Oc:x_.bearsReflect=false:=by kernel_rfl
theorem Od:x_.doorFits []=true:=by kernel_rfl
theorem Oe:x_.mayEnter=true:=Oa En Ob Oc Od
theorem made:x_.make=some .cut:=N7 En
theorem Of:x_.liftsFinal=false:=N8 En N6
end
section
def mZ:List (List Int):=[[1,2],[-1,2]]
theorem zv(h:gU 2 x):x=1\/x= -1\/x=2\/x= -2:=by
 unfold gU aH at h;omega
theorem HM(M:Int->Bool)(b:Mod M)(h:M 2=true):tK M mZ:=
 ⟨b,λ l hl=>by
  unfold mZ at hl;rcases i_.1 hl with rfl|hl
  ·exact⟨2,by simp,h⟩
  ·rw[v_.1 hl];exact⟨2,by simp,h⟩⟩
theorem Og(hl:∀x∈l,gU 2 x)(h:pL mZ l)(m:∀x∈l,-x∉l):(2:Int)∈l:=by
 refine Zu λ g=>?_
 have key:∃M:Int->Bool,Mod M/\M 2=true/\∀x∈l,M x=false:=by
  by_cases h1:(1:Int)∈l
  ·refine⟨λ x=>if x=1 then false else if x= -1 then true else decide (0<x),λ x b=>?_,by decide,λ x b=>?_⟩
   ·by_cases i:x=1
    ·subst i;decide
    by_cases j:x= -1
    ·subst j;decide
    show(if-x=1 then false else if-x= -1 then true else decide (0< -x))= !(if x=1 then false else if x= -1 then true else decide (0<x));rw[if_neg (by omega),if_neg (by omega),if_neg i,if_neg j,Z8];simp;omega
   ·have c:=zv (hl x b);have d:x≠-1:=λ e=>m 1 h1 (by rw[<-e];exact b)
    have f:x≠2:=λ e=>g (by rw[<-e];exact b)
    rcases c with rfl|rfl|rfl|rfl
    ·decide
    ·exact absurd rfl d
    ·exact absurd rfl f
    ·decide
  ·refine⟨λ x=>decide (0<x),λ x b=>?_,by decide,λ x b=>?_⟩
   ·show decide (0< -x)= !decide (0<x);rw[Z8];simp;omega
   ·have c:=zv (hl x b);have d:x≠1:=λ e=>h1 (by rw[<-e];exact b)
    have f:x≠2:=λ e=>g (by rw[<-e];exact b)
    rcases c with rfl|rfl|rfl|rfl
    ·exact absurd rfl d
    ·decide
    ·exact absurd rfl f
    ·decide
 obtain⟨M,n,o,p⟩:=key;obtain⟨x,b,k⟩:=h M (HM M n o);rw[p x b] at k;cases k
structure wA(T:List Int)(L:List (List Int)):Prop where
 lt:∀l∈L,∀x∈l,gU 2 x
 aL:∀x∈T,gU 2 x
 mb:(-2:Int)∈T
 lK:(2:Int)∉T
 c1:¬((1:Int)∈T/\(-1:Int)∈T)
 a:(1:Int)∉T-> [1,2]∈L
 b:(-1:Int)∉T-> [-1,2]∈L
def Cz(T l:List Int)(f:Int):Prop:=f∈l/\f∉T/\ -f∉T/\∀x∈l,x=f\/ -x∈T
theorem wA.more{L:List (List Int)}(h:wA T L){i:Nat}(m:i<L.length){f:Int}(q:Cz T (L[i]'m) f):wA (T++[f]) (L.eraseIdx i):=by
 obtain⟨h1,r,k,u⟩:=q;have g:=zv (h.lt _ (List.getElem_mem m) f h1);have p:f≠2:=λ e=>k (by rw[e];exact h.mb)
 have v:f≠-2:=λ e=>r (by rw[e];exact h.mb)
 have keep:∀l∈L,l≠L[i]'m->l∈L.eraseIdx i:=λ l hl s=>by
  obtain⟨j,t,rfl⟩:=List.getElem_of_mem hl;refine List.mem_eraseIdx_iff_getElem.2 ⟨j,t,λ e=>s (by subst e;rfl),rfl⟩
 refine⟨λ l hl=>h.lt l (List.mem_of_mem_eraseIdx hl),λ x g=>?_,by simp[h.mb],?_,?_,λ c=>?_,λ c=>?_⟩
 ·rcases u_.1 g with g|g
  ·exact h.aL x g
  ·rw[v_.1 g];exact h.lt _ (List.getElem_mem m) f h1
 ·rw[u_,v_];rintro(hp|hp)
  ·exact h.lK hp
  ·exact p hp.symm
 ·rw[u_,u_,v_,v_];rintro⟨n|n,o|o⟩
  ·exact h.c1 ⟨n,o⟩
  ·rw[<-o] at k;exact k n
  ·rw[<-n] at k;exact k o
  ·omega
 ·rw[u_,v_] at c;refine keep _ (h.a λ hp=>c (.inl hp)) λ e=>?_
  rw[<-e] at h1;have h1:f∈[(1:Int),2]:=h1;simp at h1;rcases h1 with d|d
  ·exact c (.inr d.symm)
  ·exact p d
 ·rw[u_,v_] at c;refine keep _ (h.b λ hp=>c (.inl hp)) λ e=>?_
  rw[<-e] at h1;have h1:f∈[(-1:Int),2]:=h1;simp at h1;rcases h1 with d|d
  ·exact c (.inr d.symm)
  ·exact p d
theorem wA.Oh{L:List (List Int)}(h:wA T L):∃l∈L,(∀x∈l,-x∈T)\/∃f,Cz T l f:=by
 by_cases d:(1:Int)∈T
 ·refine⟨_,h.b λ g=>h.c1 ⟨d,g⟩,.inl λ x c=>?_⟩;simp at c;rcases c with rfl|rfl
  ·exact d
  ·exact h.mb
 ·refine⟨_,h.a d,?_⟩
  by_cases e:(-1:Int)∈T
  ·refine .inl λ x c=>?_
   simp at c;rcases c with rfl|rfl
   ·exact e
   ·exact h.mb
  ·refine .inr ⟨1,by simp,d,e,λ x c=>?_⟩;simp at c;rcases c with rfl|rfl
   ·exact .inl rfl
   ·exact .inr h.mb
theorem wA.start{L:List (List Int)}(f:∀l∈L,∀x∈l,gU 2 x)(b:[1,2]∈L)(g:[-1,2]∈L){l:List Int}(hl:∀x∈l,gU 2 x)(h:pL mZ l)(c:∀x∈l,-x∉l):wA (l.map λ x=> -x) L:=by
 have d:=Og hl h c;have mem:∀x:Int,x∈l.map (λ x=> -x)↔-x∈l:=λ x=>by
  rw[ZS];exact⟨λ⟨a,b,e⟩=>by rw[<-e,Int.neg_neg];exact b,λ h=>⟨-x,h,Int.neg_neg x⟩⟩
 refine⟨f,λ x i=>?_,(mem _).2 d,λ hp=>?_,λ⟨p,q⟩=>?_,λ _=>b,λ _=>g⟩
 ·have:=(hl _ ((mem x).1 i)).neg
  rwa[Int.neg_neg] at this
 ·exact c _ d ((mem _).1 hp)
 ·exact c _ ((mem _).1 q) ((mem _).1 p)
end
section
open Go.RowKit
def CA(p q:Nat×Nat):Prop:=p.2<=q.1\/q.2<=p.1
def yg(L:Nat->Bool)(b:Nat->Nat×Nat)(w:World):Prop:=(∀j,L j=true->(b j).1<=(b j).2/\(b j).2<=w.heap.size)/\∀j k,j≠k->L j=true->L k=true->CA (b j) (b k)
def zw(b:Nat->Nat×Nat)(i:Nat)(p:Nat×Nat):Nat->Nat×Nat:=λ j=>if j=i then p else b j
def CB(ws:List (List Nat))(hU:World->Prop)(G:Nat->Nat×Nat->(Nat->Value)->World->Prop)(b:Nat->Nat×Nat)(vals:Nat->Value)(i:Nat)(w:World)(v:Value)(w':World):Prop:=
 hU w'/\w.heap.size<=w'.heap.size/\G i (w.heap.size,w'.heap.size) (k6 vals i v) w'/\∀j,j≠i->pn ws 8 j i=false->(b j).2<=w.heap.size->(∀k,qo ws i k=true->k≠j->CA (b j) (b k))->G j (b j) vals w->G j (b j) vals w'
def zx(P:Program)(ds:List (Option Tmp))(ws:List (List Nat))(old:List (Tmp×Value))(hU:(Nat->Bool)->World->Prop)(G:Nat->Nat×Nat->(Nat->Value)->World->Prop)(i:Nat)(o:Oper):Prop:=
 ∀(L:Nat->Bool)(vals:Nat->Value)(b:Nat->Nat×Nat)(w:World)(c:Operand->Value),hU L w->L i=false->sn ws L->sk ds (λ j _=>G j (b j) vals) (λ _=>none) i vals w c o.after.toList->ry ds ws i c old->rz c->((∀j,qo ws i j=true->(b j).1<=(b j).2/\(b j).2<=w.heap.size)/\∀j k,j≠k->qo ws i j=true->qo ws i k=true->CA (b j) (b k))->
  bn P c o w (CB ws (hU (k9 L i)) G b vals i w)
def yh(ws:List (List Nat))(G:Nat->Nat×Nat->(Nat->Value)->World->Prop):Prop:=∀i p vals sq w,(∀k,k=i\/pn ws 8 i k=true->vals k=sq k)->G i p vals w->G i p sq w
def wB(P:Program)(ds:List (Option Tmp))(ws:List (List Nat))(old:List (Tmp×Value))(hU:(Nat->Bool)->World->Prop)(G:Nat->Nat×Nat->(Nat->Value)->World->Prop):Nat->List Oper->Prop
 |_,[]=>True
 |k,o::r=>zx P ds ws old hU G k o/\wB P ds ws old hU G (k+1) r
theorem wB.at{P:Program}{ds:List (Option Tmp)}{ws:List (List Nat)}{old:List (Tmp×Value)}{hU:(Nat->Bool)->World->Prop}{G:Nat->Nat×Nat->(Nat->Value)->World->Prop}:∀{l:List Oper}{k i:Nat}{o:Oper},wB P ds ws old hU G k l->l[i]? =some o->zx P ds ws old hU G (k+i) o
 |[],k,i,o,_,h=>by simp at h
 |x::l,k,0,o,hs,h=>by
  simp only[z_,c_] at h;subst h;exact hs.1
 |x::l,k,i+1,o,hs,h=>by
  rw[y_] at h;have:=wB.at hs.2 h
  rwa[show k+1+i=k+(i+1) by omega] at this
section
variable {P:Program}{l:List Oper}{Q:Exit->Act->World->Prop}{a:Act}{old:List (Tmp×Value)}{hU:(Nat->Bool)->World->Prop}{G:Nat->Nat×Nat->(Nat->Value)->World->Prop}
theorem Oi{ds:List (Option Tmp)}{ws:List (List Nat)}(N:ws=l.map λ o:Oper=>(o.after.toList.filter (a_ .any)).map (·.on))(O:ds=l.map λ o:Oper=>o.dst)(R:tS l.toArray=true)(D:rW l.toArray=true)(X:tT l.toArray a.tmps.size=true)
  (hold:qp a.eval old) (Y:yh ws G)
  {i:Nat} {o:Oper} (n:l.toArray[i]? =some o) (S:zx P ds ws old hU G i o) {listed:Array Bool} {vals:Nat->Value} {iN:Nat->Nat×Nat} {w:World} {K:Act->World->Prop} (aw:listed.size=l.toArray.size) (Z:hU (ic listed) w) (hF:vS (λ j _=>G j (iN j) vals) (λ _=>none) (ic listed) vals w) (d:yg (ic listed) iN w)
  (aa:i∈ZR .any l.toArray listed) (hC:sn ws (ic listed))
  (ab:∀v w',hU (ic (listed.setIfInBounds i true)) w'->sn ws (ic (listed.setIfInBounds i true))->vS (λ j _=>G j (zw iN i (w.heap.size,w'.heap.size) j) (k6 vals i v)) (λ _=>none) (ic (listed.setIfInBounds i true)) (k6 vals i v) w'->yg (ic (listed.setIfInBounds i true)) (zw iN i (w.heap.size,w'.heap.size)) w'->K (j4 l.toArray (k6 vals i v) (ic (listed.setIfInBounds i true)) a l.toArray.size) w'):
  wpOp P l.toArray Q i K (j4 l.toArray vals (ic listed) a l.toArray.size) w:=by
 obtain⟨h1,T,ad,U,E⟩:=vT aa;obtain rfl:o=ad:=by rw[n] at U;injection U
 have m:i<listed.size:=by omega
 have p:ic listed i=false:=by
  unfold ic;rw[s_,Z0 m] at T⊢;simpa using T
 have A:∀j,qo ws i j=true->ic listed j=true:=λ j b=>by
  obtain⟨ae,f,e,he,u,F⟩:=yH N b;rw[n] at f;injection f with f
  subst f;have:=E e he u;rw[F] at this;exact this
 unfold wpOp;simp only[n];have af:o.guard=none:=by
  unfold rW at D;rw[Zp] at D;have:=D o (ZX n);simpa using this
 have hw:Zh o (yielded l.toArray (j4 l.toArray vals (ic listed) a l.toArray.size).tmps)=true:=by unfold Zh;rw[af]
 rw[if_pos hw];left;unfold zx at S;have ag:=S (ic listed) vals iN w (j4 l.toArray vals (ic listed) a l.toArray.size).eval Z p hC (sk.of λ e he u=>by
  have hl:=E e (Array.mem_toList_iff.1 he) u;have ah:e.on<l.toArray.size:=by
   rcases Z3 e.on listed.size with h|h
   ·omega
   ·rw[s_,ZZ h] at hl;cases hl
  refine⟨λ y=>hF e.on hl λ c g=>?_,λ s hs=>?_⟩
  ·rcases y with y|y
   ·rw[y] at g;cases g
   ·rw[y] at g;injection g with g
    rw[<-g];exact p
  ·rw[O,<-yF] at hs;exact zT hs (Dh X hs) hl (λ k hk=>yD R hk hs) _ ah) (ry.of (λ s hs=>zS (λ j s' hl b H=>by
   injection H with H
   subst H;rw[yF,<-O] at b;have:=hC j i hl (Dg hs b);rw[p] at this;cases this) _) hold) (rz.act _) ⟨λ j w1=>d.1 j (A j w1),λ j k q w1 ai=>d.2 j k q (A j w1) (A k ai)⟩
 refine ag.wp λ v w' ⟨aj,k2,k3,ak⟩=>?_
 have al:(j4 l.toArray vals (ic listed) a l.toArray.size).put o.dst v=j4 l.toArray (k6 vals i v) (ic (listed.setIfInBounds i true)) a l.toArray.size:=by
  rw[qm m];have an:pg l.toArray i=o.dst:=by unfold pg;rw[n];rfl
  have:=Bm (ops:=l.toArray) (vals:=vals) (L:=ic listed) (a:=a) (i:=i) (v:=v) (λ j b s hs=>yD R b hs) p l.toArray.size h1;rw[an] at this;exact this
 rw[al];have ao:sn ws (ic (listed.setIfInBounds i true)):=by
  rw[qm m];intro j k b V;unfold k9 at b⊢
  by_cases e:k=i
  ·rw[if_pos e]
  ·rw[if_neg e]
   by_cases W:j=i
   ·subst W;obtain⟨ae,f,aq,ar,u,F⟩:=yH N V;rw[n] at f;injection f with f
    subst f;have:=E aq ar u;rw[F] at this;exact this
   ·rw[if_neg W] at b;exact hC j k b V
 have r:∀j,j≠i->zw iN i (w.heap.size,w'.heap.size) j=iN j:=λ j b=>by unfold zw;rw[if_neg b]
 have B:zw iN i (w.heap.size,w'.heap.size) i=(w.heap.size,w'.heap.size):=by unfold zw;rw[if_pos rfl]
 refine ab v w' (by rw[qm m];exact aj) ao (λ j b ax=>?_) ⟨λ j b=>?_,λ j k q C z=>?_⟩
 ·rw[qm m] at b
  by_cases e:j=i
  ·subst e;rw[B];exact k3
  ·have I:k9 (ic listed) i j=ic listed j:=by unfold k9;rw[if_neg e]
   rw[r j e];rw[I] at b;refine Y j _ vals _ w' (λ k hk=>?_) (ak j e ?_ (d.1 j b).2 (λ k hk q=>d.2 j k (λ x=>q x.symm) b (A k hk)) (hF j b λ c g=>by cases g))
   ·have au:k≠i:=by
     rcases hk with rfl|hk
     ·exact e
     ·intro J;subst J;have:=hC.reach 8 j k b hk;rw[p] at this;cases this
    unfold k6;rw[if_neg au]
   cases av:pn ws 8 j i with
   |false=>rfl
   |true=>
    have:=hC.reach 8 j i b av;rw[p] at this;cases this
 ·rw[qm m] at b
  by_cases e:j=i
  ·subst e;rw[B];exact⟨k2,h_ _⟩
  ·have I:k9 (ic listed) i j=ic listed j:=by unfold k9;rw[if_neg e]
   rw[I] at b;rw[r j e];exact⟨(d.1 j b).1,r_ (d.1 j b).2 k2⟩
 ·rw[qm m] at C z
  by_cases e:j=i
  ·subst e;have t:¬k=j:=λ e=>q e.symm
   have M:k9 (ic listed) j k=ic listed k:=by unfold k9;rw[if_neg t]
   rw[M] at z;rw[B,r k t];exact .inr (d.1 k z).2
  ·have M:k9 (ic listed) i j=ic listed j:=by unfold k9;rw[if_neg e]
   rw[M] at C
   by_cases t:k=i
   ·subst t;rw[B,r j e];exact .inl (d.1 j C).2
   ·have J:k9 (ic listed) i k=ic listed k:=by unfold k9;rw[if_neg t]
    rw[J] at z;rw[r j e,r k t];exact d.2 j k q C z
theorem Oj{ds:List (Option Tmp)}{ws:List (List Nat)}(J:ws=l.map λ o:Oper=>(o.after.toList.filter (a_ .any)).map (·.on))(K:ds=l.map λ o:Oper=>o.dst)(n:Nat)(hlen:l.length=n+1)(M:tS l.toArray=true)(t:rW l.toArray=true)(N:tT l.toArray a.tmps.size=true)(O:vD l.toArray=true)(u:xQ l n=true)(hold:qp a.eval old)(R:yh ws G)
  (S:wB P ds ws old hU G 0 (l.take n))
  (T:∀o vals d w L,l[n]? =some o->hU L w->(∀j,j<n->L j=true)->L n=false->(∀j,j<n->G j (d j) vals w)->yg (ng n) d w->bn P (j4 l.toArray vals (ng n) a n).eval o w λ v w'=>Q .normal ((j4 l.toArray vals (ng n) a n).put o.dst v) w'):
  ∀(fuel:Nat)(listed:Array Bool)(vals:Nat->Value)(d:Nat->Nat×Nat)(w:World),listed.size=l.toArray.size->p9 l.toArray listed<=fuel->0<p9 l.toArray listed->ic listed n=false->sn ws (ic listed)->hU (ic listed) w->vS (λ j _=>G j (d j) vals) (λ _=>none) (ic listed) vals w->yg (ic listed) d w->
   wpAny P .any l.toArray Q fuel listed (j4 l.toArray vals (ic listed) a l.toArray.size) w:=by
 intro fuel
 induction fuel with
 |zero=>intro listed vals d w q U V;omega
 |succ fuel W=>
  intro listed vals d w q U V y hC D hF z;refine⟨λ h=>by have:=Dj O q h;omega,λ i E=>?_⟩;obtain⟨h1,X,o,s,Y⟩:=vT E;have F:i<listed.size:=by omega
  have ao:i<l.length:=by simpa using h1
  have A:l[i]? =some o:=by rw[List.getElem?_toArray] at s;exact s
  by_cases H:i=n
  ·subst H;have f:∀j,j<i->ic listed j=true:=λ j g=>by
    unfold xQ at u;rw[A] at u;simp only[List.all_eq_true,List.mem_range] at u;have b:=u j g;rw[Array.any_eq_true'] at b;obtain⟨e,he,B⟩:=b;simp only[Zo,beq_iff_eq] at B;have:=Y e he B.1;rw[B.2] at this;exact this
   have Z:j4 l.toArray vals (ic listed) a l.toArray.size=j4 l.toArray vals (ng i) a i:=by
    have aa:l.toArray.size=i+1:=by simp[hlen]
    rw[aa];simp only[j4];rw[y];simp only[Bool.false_eq_true,if_false];exact Bo i λ j g=>by rw[f j g];unfold ng;simp[g]
   rw[Z];unfold wpOp;simp only[s];have ab:o.guard=none:=by
    unfold rW at t;rw[Zp] at t;have:=t o (ZX s);simpa using this
   have hw:Zh o (yielded l.toArray (j4 l.toArray vals (ng i) a i).tmps)=true:=by unfold Zh;rw[ab]
   rw[if_pos hw];left;refine(T o vals d w _ A D f y (λ j g=>hF j (f j g) λ c ad=>by cases ad) ⟨λ j C=>z.1 j (f j (by simpa[ng] using C)),λ j k ae C af=>z.2 j k ae (f j (by simpa[ng] using C)) (f k (by simpa[ng] using af))⟩).wp λ v w' ag=>?_
   refine wpAny_done ?_ ag _;rcases ah:ZR .any l.toArray (listed.setIfInBounds i true) with _|⟨k,r⟩
   ·rfl
   ·have hk:k∈ZR .any l.toArray (listed.setIfInBounds i true):=by rw[ah];simp
    obtain⟨b,m,_⟩:=vT hk;exfalso;have aq:k<i+1:=by simpa[hlen] using b
    by_cases e:k=i
    ·subst e;rw[s_,Array.getElem?_setIfInBounds_self_of_lt F] at m
     cases m
    ·have p:=f k (by omega);rw[s_,Array.getElem?_setIfInBounds_ne (λ x=>e x.symm)] at m;unfold ic at p;rw[s_] at p;have ai:k<listed.size:=by omega
     rw[Z0 ai] at m p;simp at m p;rw[m] at p;cases p
  ·have aj:zx P ds ws old hU G i o:=by
    have b:(l.take n)[i]? =some o:=by rw[List.getElem?_take,if_pos (by omega)];exact A
    have:=wB.at S b
    rwa[Z5] at this
   refine Oi J K M t N hold R s aj q D hF z E hC λ v w' ak al k2 an=>?_
   have I:ic (listed.setIfInBounds i true) n=false:=by
    rw[qm F];unfold k9;rw[if_neg (λ e=>H e.symm)];exact y
   refine W _ _ _ w' (by simp[q]) (by have:=Di (ops:=l.toArray) h1 X;omega) ?_ I al ak k2 an;rcases Nat.eq_zero_or_pos (p9 l.toArray (listed.setIfInBounds i true)) with b|b
   ·have:=yG (ops:=l.toArray) (listed:=listed.setIfInBounds i true) (by simp[q]) b n (by simp[hlen]);rw[I] at this;cases this
   ·exact b
end
theorem HN{w:World}(l:List Oper)(n N:Nat)(ds:List (Option Tmp))(ws:List (List Nat))(old:List (Tmp×Value))(hU:(Nat->Bool)->World->Prop)(G:Nat->Nat×Nat->(Nat->Value)->World->Prop)
  (s:ops=l.toArray) (hm:P.follows .mixedOrders=true)
  (q:ds=l.map λ o:Oper=>o.dst) (t:ws=l.map λ o:Oper=>(o.after.toList.filter (a_ .any)).map (·.on)) (hlen:l.length=n+1) (u:tS l.toArray=true) (y:rW l.toArray=true) (z:vD l.toArray=true) (A:xQ l n=true) (B:tT l.toArray N=true)
  (C:a.tmps.size=N) (hold:qp a.eval old) (D:yh ws G) (E:hU (λ _=>false) w.drew)
  (F:wB P ds ws old hU G 0 (l.take n))
  (ol:Oper) (H:l[n]? =some ol) (I:∀vals c w L,hU L w->(∀j,j<n->L j=true)->L n=false->(∀j,j<n->G j (c j) vals w)->yg (ng n) c w->∀m,oI (ds.take n) 0 vals a=m->bn P m.eval ol w λ v w'=>Q .normal (m.put ol.dst v) w'):(Code.region id ops true).wp P Q a w:=by
 subst s;subst C;refine wp_region_any hm ?_;have J:∀o vals c w L,l[n]? =some o->hU L w->(∀j,j<n->L j=true)->L n=false->(∀j,j<n->G j (c j) vals w)->yg (ng n) c w->bn P (j4 l.toArray vals (ng n) a n).eval o w λ v w'=>Q .normal ((j4 l.toArray vals (ng n) a n).put o.dst v) w':=by
  intro o vals c w L g K M O R S;rw[H] at g;injection g with g
  subst g;rw[Bn l vals a n n (h_ _) (by omega),<-q];exact I vals c w L K M O R S _ rfl
 have b:∀k,ic (j_ l.toArray.size false) k=false:=λ k=>by
  unfold ic;rw[s_,Array.getElem?_replicate];split<;>rfl
 have e:a=j4 l.toArray (λ _=>undef) (ic (j_ l.toArray.size false)) a l.toArray.size:=by
  have:∀k,j4 l.toArray (λ _=>undef) (ic (j_ l.toArray.size false)) a k=a:=by
   intro k
   induction k with
   |zero=>rfl
   |succ k T=>
    simp only[j4];rw[b k,T];simp
  exact(this _).symm
 have r:=Oj (P:=P) (Q:=Q) (a:=a) (hU:=hU) (G:=G) t q n hlen u y B z A hold D F J l.toArray.size (j_ l.toArray.size false) (λ _=>undef) (λ _=>(0,0)) w.drew (by simp)
  (by unfold p9;exact r_ (List.length_filter_le _ _) (by simp)) ?_ (b n) (λ j i d=>by rw[b j] at d;cases d) (by rw[show ic (j_ l.toArray.size false)=λ _=>false from funext b];exact E) (λ j d=>by rw[b j] at d;cases d) ⟨λ j f=>(by rw[b j] at f;cases f),λ j k U f V=>(by rw[b j] at f;cases f)⟩
 ·rw[<-e] at r;exact r
 ·rcases Nat.eq_zero_or_pos (p9 l.toArray (j_ l.toArray.size false)) with p|p
  ·have:=yG (ops:=l.toArray) (listed:=j_ l.toArray.size false) (by simp) p n (by simp[hlen]);rw[b n] at this;cases this
  ·exact p
end
section
open Go.RowKit
abbrev AL(ws:List (List Nat))(hU:World->Prop)(G:Nat->Nat×Nat->(Nat->Value)->World->Prop)(b:Nat->Nat×Nat)(vals:Nat->Value)(i:Nat)(w:World)(v:Value)(w':World):Prop:=CB ws hU G b vals i w v w'
theorem AL.same{G:Nat->Nat×Nat->(Nat->Value)->World->Prop}{w:World}{v:Value}(b:hU w)(h:G i (w.heap.size,w.heap.size) (k6 vals i v) w):AL ws hU G iN vals i w v w:=⟨b,h_ _,h,λ _ _ _ _ _ h=>h⟩
theorem AL.more{G:Nat->Nat×Nat->(Nat->Value)->World->Prop}{w:World}{v:Value}(hm:∀j p u w w',Below w.heap.size w w'->p.2<=w.heap.size->G j p u w->G j p u w')(b:Below w.heap.size w w')(c:hU w')(h:G i (w.heap.size,w'.heap.size) (k6 vals i v) w'):AL ws hU G iN vals i w v w':=⟨c,b.size,h,λ j _ _ hp _ h=>hm j _ _ w w' b hp h⟩
def HO(P:Program)(ds:List (Option Tmp))(ws:List (List Nat))(old:List (Tmp×Value))(hU:World->Prop)(G:Nat->Nat×Nat->(Nat->Value)->World->Prop)(i:Nat)(o:Oper):Prop:=
 ∀(vals:Nat->Value)(b:Nat->Nat×Nat)(w:World)(c:Operand->Value),hU w->sk ds (λ j _=>G j (b j) vals) (λ _=>none) i vals w c o.after.toList->ry ds ws i c old->rz c->((∀j,qo ws i j=true->(b j).1<=(b j).2/\(b j).2<=w.heap.size)/\∀j k,j≠k->qo ws i j=true->qo ws i k=true->CA (b j) (b k))->
  bn P c o w (AL ws hU G b vals i w)
def zy(P:Program)(ds:List (Option Tmp))(ws:List (List Nat))(old:List (Tmp×Value))(hU:World->Prop)(G:Nat->Nat×Nat->(Nat->Value)->World->Prop):Nat->List Oper->Prop
 |_,[]=>True
 |k,o::r=>HO P ds ws old hU G k o/\zy P ds ws old hU G (k+1) r
theorem zy.HP{P:Program}{ds:List (Option Tmp)}{ws:List (List Nat)}{old:List (Tmp×Value)}{hU:World->Prop}{G:Nat->Nat×Nat->(Nat->Value)->World->Prop}:∀{k:Nat}{l:List Oper},zy P ds ws old hU G k l->wB P ds ws old (λ _=>hU) G k l
 |_,[],_=>trivial
 |_,_::_,h=>⟨λ _ vals b w c d _ _ e f hp g=>h.1 vals b w c d e f hp g,zy.HP h.2⟩
theorem Ol{w:World}(l:List Oper)(n N:Nat)(ds:List (Option Tmp))(ws:List (List Nat))(old:List (Tmp×Value))(hU:World->Prop)(G:Nat->Nat×Nat->(Nat->Value)->World->Prop)
  (d:ops=l.toArray) (hm:P.follows .mixedOrders=true)
  (e:ds=l.map λ o:Oper=>o.dst) (f:ws=l.map λ o:Oper=>(o.after.toList.filter (a_ .any)).map (·.on)) (hlen:l.length=n+1) (g:tS l.toArray=true) (i:rW l.toArray=true) (k:vD l.toArray=true) (m:xQ l n=true) (p:tT l.toArray N=true)
  (q:a.tmps.size=N) (hold:qp a.eval old) (r:yh ws G) (s:hU w.drew)
  (t:zy P ds ws old hU G 0 (l.take n))
  (ol:Oper) (u:l[n]? =some ol) (y:∀vals b w,hU w->(∀j,j<n->G j (b j) vals w)->yg (ng n) b w->∀c,oI (ds.take n) 0 vals a=c->bn P c.eval ol w λ v w'=>Q .normal (c.put ol.dst v) w'):(Code.region id ops true).wp P Q a w:=by
 exact HN l n N ds ws old (λ _=>hU) G d hm e f hlen g i k m p q hold r s t.HP ol u (λ vals b w _ z _ _ A hs=>y vals b w z A hs)
def nK(cs:List Value)(sp:Nat->Bool)(G:Nat->Nat×Nat->(Nat->Value)->World->Prop)(j:Nat)(p:Nat×Nat)(vals:Nat->Value)(w:World):Prop:=if sp j=true then G j p vals w else vals j=cs.getD j undef
theorem Eo.of{ds:List (Option Tmp)}{cs:List Value}{sp:Nat->Bool}{G:Nat->Nat×Nat->(Nat->Value)->World->Prop}{iN:Nat->Nat×Nat}{i:Nat}{vals:Nat->Value}{w:World}{az:Operand->Value}:∀{l:List Edge},sk ds (λ j _=>nK cs sp G j (iN j) vals) (λ _=>none) i vals w az l->tY ds cs sp az l
 |[],_=>trivial
 |e::r,h=>⟨λ c h1 s hs=>by
  obtain⟨b,d⟩:=h.1 c;have b:nK cs sp G e.on (iN e.on) vals w:=b (Or.inl rfl);unfold nK at b;rw[h1] at b;rw[d s hs];exact b,Eo.of h.2⟩
theorem nK.zz{sp:Nat->Bool}{G:Nat->Nat×Nat->(Nat->Value)->World->Prop}(h:∀i p vals sq w,sp i=true->(∀k,k=i\/pn ws 8 i k=true->vals k=sq k)->G i p vals w->G i p sq w):yh ws (nK cs sp G):=λ i p vals sq w c b=>by
 unfold nK at*;split at b
 ·rename_i hs;rw[if_pos hs];exact h i p vals sq w hs c b
 ·rename_i hs;rw[if_neg hs,<-c i (.inl rfl)];exact b
def AM(P:Program)(ds:List (Option Tmp))(ws:List (List Nat))(old:List (Tmp×Value))(S:World->Prop)(cs:List Value)(sp:Nat->Bool)(G:Nat->Nat×Nat->(Nat->Value)->World->Prop):Nat->List Oper->Prop
 |_,[]=>True
 |k,o::r=>((sp k=true->HO P ds ws old S (nK cs sp G) k o)/\(sp k=false->∀(b:Operand->Value)(w:World),S w->tY ds cs sp b o.after.toList->qp b old->rz b->bn P b o w λ v w'=>v=cs.getD k undef/\w'=w))/\AM P ds ws old S cs sp G (k+1) r
theorem AM.ok{P:Program}{ds:List (Option Tmp)}{ws:List (List Nat)}{old:List (Tmp×Value)}{S:World->Prop}{cs:List Value}{sp:Nat->Bool}{G:Nat->Nat×Nat->(Nat->Value)->World->Prop}(b:yU ds old=true):∀{k:Nat}{l:List Oper},AM P ds ws old S cs sp G k l->zy P ds ws old S (nK cs sp G) k l
 |_,[],_=>trivial
 |k,o::r,h=>⟨by
  cases hk:sp k with
  |true=>exact h.1.1 hk
  |false=>
   intro vals i w d c e f hp j;refine bn.mono (h.1.2 hk d w c (Eo.of e) (ry.ok b f) hp) λ v w' ⟨h1,g⟩=>?_
   subst g;exact .same c (by unfold nK k6;rw[hk,if_pos rfl];exact h1),AM.ok b h.2⟩
theorem CB.same{G:Nat->Nat×Nat->(Nat->Value)->World->Prop}{w:World}{v:Value}(b:hU w)(h:G i (w.heap.size,w.heap.size) (k6 vals i v) w):CB ws hU G iN vals i w v w:=⟨b,h_ _,h,λ _ _ _ _ _ h=>h⟩
def AN(P:Program)(ds:List (Option Tmp))(ws:List (List Nat))(old:List (Tmp×Value))(hU:(Nat->Bool)->World->Prop)(cs:List Value)(sp:Nat->Bool)(G:Nat->Nat×Nat->(Nat->Value)->World->Prop):Nat->List Oper->Prop
 |_,[]=>True
 |k,o::r=>((sp k=true->zx P ds ws old hU (nK cs sp G) k o)/\(sp k=false->∀(b:Operand->Value)(L:Nat->Bool)(w:World),hU L w->L k=false->sn ws L->tY ds cs sp b o.after.toList->ry ds ws k b old->rz b->bn P b o w λ v w'=>v=cs.getD k undef/\w'=w))/\AN P ds ws old hU cs sp G (k+1) r
theorem AN.ok{P:Program}{ds:List (Option Tmp)}{ws:List (List Nat)}{old:List (Tmp×Value)}{hU:(Nat->Bool)->World->Prop}{cs:List Value}{sp:Nat->Bool}{G:Nat->Nat×Nat->(Nat->Value)->World->Prop}(b:∀L k w,sp k=false->hU L w->hU (k9 L k) w):∀{k:Nat}{l:List Oper},AN P ds ws old hU cs sp G k l->wB P ds ws old hU (nK cs sp G) k l
 |_,[],_=>trivial
 |k,o::r,h=>⟨by
  cases hk:sp k with
  |true=>exact h.1.1 hk
  |false=>
   intro L vals j w d c e hC f g hp m;refine bn.mono (h.1.2 hk d L w c e hC (Eo.of f) g hp) λ v w' ⟨h1,i⟩=>?_
   subst i;exact .same (b L k w' hk c) (by unfold nK k6;rw[hk,if_pos rfl];exact h1),AN.ok b h.2⟩
end
section
open Go.RowKit Go.Shelf
def Plain(A:Option Addr):Prop:=A=none\/∃b off,A=some ⟨b,off,none⟩
def CC(w:World)(e:TypeId)(size:Nat)(k:Nat)(ys:List Value)(v':Value)(w':World):Prop:=w'.ownsRow w.heap.size e size v' k ys/\Below w.heap.size w w'
theorem CD{w:World}(g:w.grownBy w' none):Below w.heap.size w w':=⟨g.os,g.tape,g.output,g.size,λ k hk=>g.block k hk (by simp)⟩
theorem Om(w:World)(ty:TypeId){A:Option Addr}{gC c:Nat}{rs:List Row}(i:nG w A gC c rs)(q:Plain A)(f c1:Nat)(r:Row)(g:w.cell? ⟨f,0,none⟩=some (ki r))(D:gC<=1000000)(s:A=none->gC=0):
  ∃v' w',(Z9 #[22,22] ty #[.slice A gC gC,.slice (some ⟨f,0,none⟩) 1 c1]).run x_ w=.ok v' w'/\CC w 25 1 (gC+1) ((rs++[r]).map ki) v' w':=by
 obtain⟨i0,k,l,m,n⟩:=info_parts A1;have o:∀j u,([ki r]:List Value)[j]? =some u->w.cell? ((⟨f,0,none⟩:Addr).add j)=some u:=by
  intro j u d;have t:j<1:=(n_.1 d).1;obtain rfl:j=0:=by omega
  rw[Zm,Z5];simp only[z_,c_] at d;subst d;exact g
 have v:∀u∈([ki r]:List Value),u.oneCell'=true:=by
  intro u hu;rw[v_.1 hu];rfl
 have p:=i.len;have y:(rs++[r]).map ki=rs.map ki++[ki r]:=by simp
 rw[y];rcases q with rfl|⟨b,off,rfl⟩
 ·have g:=s rfl;subst g;have:rs=[]:=Zi p;subst this;obtain⟨v',w',g1,g2,g3,_,g5⟩:=Zd (P:=x_) w w.heap.size 22 ty 25 i0 (.slice none 0 0) 1 24 d_ k l m n rfl (by decide) (.slice none 0 0) 0 [] (World.ownsRow_nil _ _ _ _) ⟨f,0,none⟩ 1 c1 [ki r] rfl o v (by unfold maxLen;omega) (by omega) (h_ _);exact⟨v',w',g1,g2,CD g3⟩
 ·obtain⟨v',w',g1,g2,g3⟩:=run_append_arg_grows (P:=x_) w 22 ty 25 i0 (.slice none 0 0) 1 24 d_ k l m n rfl (by decide) ⟨b,off,none⟩ gC gC (rs.map ki) (by rw[k_,p];omega) (λ j u d=>by
   rw[Zm];have t:j<gC:=by have:=(n_.1 d).1;rw[k_] at this;omega
   obtain⟨E,F,e,_,z⟩:=i.cells (by omega);injection e with e
   injection e with B C
   subst B C;exact z j u d) ⟨f,0,none⟩ 1 c1 [ki r] rfl o (by omega) (by unfold maxLen;omega) (by omega)
  exact⟨v',w',g1,g2,CD g3⟩
theorem On(w:World)(ty:TypeId){A:Option Addr}{aJ c:Nat}{es:List mc}(i:nx w A aJ c es)(s:Plain A)(f c1:Nat)(r:mc)(g:w.cell? ⟨f,0,none⟩=some (.int .i64 r.iM))(h1:w.cell? ⟨f,1,none⟩=some (ki r.r))(D:aJ<=1099511627776)(t:A=none->aJ=0):
  ∃v' w',(Z9 #[45,45] ty #[.slice A aJ aJ,.slice (some ⟨f,0,none⟩) 1 c1]).run x_ w=.ok v' w'/\CC w 126 2 (aJ+1) (ni (es++[r])) v' w':=by
 obtain⟨i0,k,l,m,n⟩:=info_parts GH;have o:∀j u,(r6 r)[j]? =some u->w.cell? ((⟨f,0,none⟩:Addr).add j)=some u:=by
  intro j u d;have p:j<2:=(n_.1 d).1;rw[Zm,Z5];unfold r6 at d;rcases(show j=0\/j=1 by omega) with rfl|rfl
  ·simp only[z_,c_] at d;subst d;exact g
  ·simp only[y_,z_,c_] at d;subst d;exact h1
 have v:∀u∈r6 r,u.oneCell'=true:=by
  intro u hu;unfold r6 at hu;simp only[i_,g_,or_false] at hu;rcases hu with rfl|rfl<;>rfl
 have q:=i.len;have y:ni (es++[r])=ni es++r6 r:=by rw[Nq];simp[ni]
 rw[y];rcases s with rfl|⟨b,off,rfl⟩
 ·have g:=t rfl;subst g;have:es=[]:=Zi q;subst this;obtain⟨v',w',g1,g2,g3,_,g5⟩:=Zd (P:=x_) w w.heap.size 45 ty 126 i0 (.agg #[.int .i64 0,.slice none 0 0]) 2 32 Tryz.underlying45 k l m n rfl (by decide) (.slice none 0 0) 0 [] (World.ownsRow_nil _ _ _ _) ⟨f,0,none⟩ 1 c1 (r6 r) rfl o v (by unfold maxLen;omega) (by omega) (h_ _);exact⟨v',w',g1,g2,CD g3⟩
 ·obtain⟨v',w',g1,g2,g3⟩:=run_append_arg_grows (P:=x_) w 45 ty 126 i0 (.agg #[.int .i64 0,.slice none 0 0]) 2 32 Tryz.underlying45 k l m n rfl (by decide) ⟨b,off,none⟩ aJ aJ (ni es) (by rw[yb,q]) (λ j u d=>by
   rw[Zm];have p:j<aJ*2:=by have:=(n_.1 d).1;rw[yb] at this;omega
   obtain⟨E,F,e,_,z⟩:=i.cells (by omega);injection e with e
   injection e with B C
   subst B C;exact(z j p).trans d) ⟨f,0,none⟩ 1 c1 (r6 r) rfl o (by omega) (by unfold maxLen;omega) (by omega)
  exact⟨v',w',g1,g2,CD g3⟩
theorem Oo{w:World}{rest:List Oper}{o:Oper}(d:o.guard=none)(s x:Operand)
  (e:o.op=.call {callee:=.builtin .append,args:= #[s,x],argTypes:= #[22,22]}) {A:Option Addr} {gC c:Nat} {rs:List Row} (f:nG w A gC c rs) (g:Plain A) (b c1:Nat) (r:Row) (hs:a.eval s=.slice A gC gC) (i:a.eval x=.slice (some ⟨b,0,none⟩) 1 c1) (j:w.cell? ⟨b,0,none⟩=some (ki r)) (k:gC<=1000000) (l:A=none->gC=0)
  (h:∀v' w',CC w 25 1 (gC+1) ((rs++[r]).map ki) v' w'->wpList x_ ops Q rest (a.put o.dst v') w'):
  wpList x_ ops Q (o::rest) a w:=by
 obtain⟨v',w',h1,m⟩:=Om w o.type f g b c1 r j k l;refine wpList_plain d λ K n=>?_
 unfold Oper.wp;simp only[execOp,e,resolve,invoke,builtin,Zl,Zk,b_,l_,e_,f_,hs,i,h1];exact n _ _ (h v' w' m)
theorem Oq{w:World}{rest:List Oper}{o:Oper}(d:o.guard=none)(s x:Operand)
  (e:o.op=.call {callee:=.builtin .append,args:= #[s,x],argTypes:= #[45,45]}) {A:Option Addr} {aJ c:Nat} {es:List mc} (f:nx w A aJ c es) (g:Plain A) (b c1:Nat) (r:mc) (hs:a.eval s=.slice A aJ aJ) (i:a.eval x=.slice (some ⟨b,0,none⟩) 1 c1) (j:w.cell? ⟨b,0,none⟩=some (.int .i64 r.iM)) (k:w.cell? ⟨b,1,none⟩=some (ki r.r)) (l:aJ<=1099511627776) (m:A=none->aJ=0)
  (h:∀v' w',CC w 126 2 (aJ+1) (ni (es++[r])) v' w'->wpList x_ ops Q rest (a.put o.dst v') w'):
  wpList x_ ops Q (o::rest) a w:=by
 obtain⟨v',w',h1,n⟩:=On w o.type f g b c1 r j k l m;refine wpList_plain d λ K p=>?_
 unfold Oper.wp;simp only[execOp,e,resolve,invoke,builtin,Zl,Zk,b_,l_,e_,f_,hs,i,h1];exact p _ _ (h v' w' n)
structure r7(w W:World)(L M:List Value):Prop where
 bp:aO W w.heap.size 47 L
 bg:aO W (w.heap.size+1) 47 M
 lM:Below w.heap.size w W
theorem r7.init(w:World)(L M:List Value):r7 w ((w.alloc (.cells L.toArray 47)).alloc (.cells M.toArray 47)) L M:=by
 have c:aO (w.alloc (.cells L.toArray 47)) w.heap.size 47 L:=aO.new w 47 L;have d:=bK w (.cells L.toArray 47);have z0:(w.alloc (.cells L.toArray 47)).heap.size=w.heap.size+1:=by simp
 generalize w.alloc (.cells L.toArray 47)=w1 at*;have h1:aO (w1.alloc (.cells M.toArray 47)) w1.heap.size 47 M:=aO.new w1 47 M;have b:=bK w1 (.cells M.toArray 47);rw[z0] at h1;exact⟨c.below b,h1,d.trans (b.mono (by omega))⟩
theorem r7.below{w W W':World}{L M:List Value}(h:r7 w W L M)(b:Below W.heap.size W W'):r7 w W' L M:=⟨h.bp.below b,h.bg.below b,h.lM.trans (b.mono h.lM.size)⟩
theorem r7.HQ{w:World}{L:List Value}(h:r7 w W L M)(k:Nat)(v:Value):r7 w (W.setCell ⟨w.heap.size,k,none⟩ v) (L.set k v) M:=
 ⟨h.bp.set k v,h.bg.kept (kK W w.heap.size k v) (λ e=>by injection e with e;omega),h.lM.setCell (h_ _) _⟩
def Ot(w:World)(n:Nat)(s:kF)(k:Option Addr)(l:Nat)(m:Option Addr)(o:Nat)(d:Option Addr)(cl:Nat)(A:Option Addr)(c:Nat)(A':Option Addr)(c':Nat)(f:Option Addr)(g:Nat)(ah:List Int)(e:Ending)(W:World):Prop:=
 ∃(s':kF)(bh:Option Addr)(aS:Nat)(i:Option Addr)(j:Nat),e=.returned (.tuple #[nP n bh s'.gs.length aS d s'.es.length cl A (n+1) c A' n c' s'.aM f (n+1) g i s'.aA.length j,.int .i64 0])/\
  pT W s' bh aS d cl A c A' c' f g i j/\oy n s'/\s'.gs=s.gs++[ah]/\s'.es=s.es/\s'.aM=s.aM/\(∃p:mc,s'.aA=s.aA++[p]/\p.iM=1/\p.r.ah=ah)/\s'.aA.length=s.aA.length+1/\Below w.heap.size w W/\yc w W i s'.aA.length j s'.aA/\(bh=none->s'.gs.length=0/\aS=0)/\
  ∀bw:Nat->Prop,(∀b,bw b->b<w.heap.size)->(∀W',aD (λ b=>b<w.heap.size/\¬bw b) w W'->pT W' s k l d cl A c A' c' f g m o)->HA W bw s' bh aS d cl A c A' c' f g i j
theorem nG.zm{w:World}{D:Nat->Prop}{A:Option Addr}{n c:Nat}{ls:List (List Int)}{rs:List Row}(g:nG w A n c rs)(hs:∀W,aD (λ b=>b<w.heap.size/\¬D b) w W->lF W A n c ls):∀r∈rs,∀b,r.A.map (·.block)=some b->0<r.n->¬D b:=by
 intro r l b e m;have hw:=hs _ (Ej w D);obtain⟨j,o,q⟩:=ZV.1 l;have hlen:=g.len;obtain⟨i,s,t,h1,u⟩:=g.cells (by omega);obtain⟨E,F,f,_,v⟩:=hw.cells (by omega);rw[t] at f;injection f with f
 injection f with f y _
 subst f y;obtain⟨A',G,c',d,k⟩:=v j (by omega);have z:¬D i:=λ B=>by rw[Ek B] at d;cases d
 rw[(Ej w D).cell (p:=⟨i,s+j,none⟩) ⟨h1,z⟩] at d;have C:=u j (ki r) (by rw[List.getElem?_map,Z4 o,q];rfl);rw[C] at d;injection d with d
 injection d with a1 a2 a3
 rw[<-a1,<-a2,<-a3] at k;exact k.zm b e m
theorem nx.lz{w:World}{c:Nat}{es:List mc}(h:w.ownsRow base 126 2 (.slice A n c) n (ni es))(d:n*32<=140737488355328)(f:∀e∈es,aQ w e.r.A e.r.n e.r.c e.r.ah):nx w A n c es:=by
 have hl:es.length=n:=by have:=h.1;rw[yb] at this;omega
 rcases h.2 with⟨b,i⟩|⟨g,cap,cur,b,m,o,j,l,p,q⟩
 ·simp only[Zg] at b;obtain⟨rfl,_,rfl⟩:=b;subst i;exact⟨hl,h_ _,d,p_ _,λ h=>absurd h (by omega),f⟩
 ·simp only[Zg] at b;obtain⟨rfl,_,rfl⟩:=b;refine⟨hl,j,d,l,λ i=>⟨g,0,rfl,(h.lt g rfl).2,λ k hk=>?_⟩,f⟩;rw[Z5];exact h.cellAt k hk
theorem uG.more{F G:List (List Int)}{iM:Int}(h:uG F n iM ah):uG (F++G) n iM ah:=
 ⟨h.1.imp (λ h=>⟨h.1,u_.2 (.inl h.2)⟩) (λ h=>⟨h.1,λ M b=>h.2 M ⟨b.1,λ l hl=>b.2 l (u_.2 (.inl hl))⟩⟩),h.2⟩
theorem oy.add(O:oy n s){ah:List Int}(c:∀x∈ah,gU n x)(d:s.gs.length<65536)(r:Row)(f:r.ah=ah):oy n ⟨n,s.gs++[ah],s.es,s.act,s.ord,s.aM,s.bl,s.aA++[⟨1,r⟩]⟩:=by
 refine⟨rfl,by simp;omega,λ g d x b=>?_,O.hk,O.nB,O.oT,O.wo,λ e he M i=>O.Eh e he M ⟨i.1,λ l hl=>i.2 l (u_.2 (.inl hl))⟩,O.Co,λ p hp=>?_⟩
 ·rcases u_.1 d with h1|h1
  ·exact O.bu g h1 x b
  ·rw[v_.1 h1] at b;exact c x b
 ·rcases u_.1 hp with h1|h1
  ·exact(O.xz p h1).more
  ·rw[v_.1 h1];exact⟨.inl ⟨rfl,by show r.ah∈_;rw[f];simp⟩,by show∀x∈r.ah,_;rw[f];exact c⟩
theorem Ou{w0:World}{c:Nat}{ls:List (List Int)}(d:lF w0 A n c ls)(f:A=none->n=0/\c=0)(w:World)(g:Plain A):Calls x_ 108 #[.slice A n c] w λ e w'=>e=.returned (.slice A n n)/\w'=w:=by
 rcases g with rfl|⟨b,off,rfl⟩
 ·obtain⟨h1,i⟩:=f rfl;subst h1 i;exact Nl w
 ·exact Nk b off n c w d.cap
theorem Ov{aP:Ending->World->Prop}{bg:Nat}{v0 v1 v2 v3 v4 v5 v6 oC:Value}(n:a.defers=[])(c:a.tmps.getD 4 undef=.pointer (some ⟨bg,0,none⟩))(d:a.tmps.getD 5 undef=.int .i64 0)
  (b:aO W bg 47 [v0,v1,v2,v3,v4,v5,v6,oC]) (h:aP (.returned (.tuple #[.agg #[v0,v1,v2,v3,v4,v5,v6,oC],.int .i64 0])) W):bodyPost x_ Tryz.f46 aP .ret a W:=by
 have e:=b.cell 0;have f:=b.cell 1;have g:=b.cell 2;have i:=b.cell 3;have j:=b.cell 4;have k:=b.cell 5;have l:=b.cell 6;have m:=b.cell 7;simp only[z_,y_] at e f g i j k l m;refine bodyPost_ret (v:=.tuple #[.agg #[v0,v1,v2,v3,v4,v5,v6,oC],.int .i64 0]) ?_ n h;rw[s_] at c d;simp[results,Tryz.results46,go_sem,c,d,e,f,g,i,j,k,l,m]
theorem Ow{aS:Nat}{c:Nat}{w:World}{jw c0:Nat}(O:oy n s)(L:n<=10)(Z:pT w s bh aS gJ cl A c A' c' bt bk aT aY)(aL:aQ w l7 jw c0 ah)(aa:∀x∈ah,gU n x)(aN:s.gs.length<65536)(aP:s.aA.length<=549755813888)
  (aR:aT=none->s.aA.length=0/\aY=0) (aU:bh=none->s.gs.length=0/\aS=0) (aV:Plain aT) (aW:Plain bh):
  Calls x_ 46 #[nP n bh s.gs.length aS gJ s.es.length cl A (n+1) c A' n c' s.aM bt (n+1) bk aT s.aA.length aY,.slice l7 jw c0] w (Ot w n s bh aS aT aY gJ cl A c A' c' bt bk ah):=by
 obtain⟨k,ab⟩:∃x,s.gs.length=x:=⟨_,rfl⟩
 obtain⟨nl,ad⟩:∃x,s.es.length=x:=⟨_,rfl⟩
 obtain⟨m,ae⟩:∃x,s.aA.length=x:=⟨_,rfl⟩
 have bO:bI (∀W:World,Below w.heap.size w W->Calls x_ 49 #[nP n bh k aS gJ nl cl A (n+1) c A' n c' s.aM bt (n+1) bk aT m aY] W λ e w'=>e=.returned (.int .i64 0)/\Below W.heap.size W w'):=U λ W p=>by
  have:=Cx O L (Z.below p);rw[ab,ad,ae] at this;exact this
 obtain⟨rs,aX,aZ⟩:=Z.gs.yq;have d:=U (w_ Z (w_ O (w_ ab (w_ ad (w_ ae (w_ aL (w_ aa (w_ aN (w_ aP (w_ aR (w_ aU (w_ aV (w_ aW (w_ aX aZ))))))))))))));have a6:k<65536:=by omega
 have a7:¬(65536:Int)<=(k:Int):=by omega
 have bP:(k:Int)<65536:=by omega
 have dg:decide ((65536:Int)<=(k:Int))=false:=decide_eq_false a7;have bQ:=U a6;clear a7 bP a6;rw[ab,ad,ae];clear Z O aL aa aN aP aR aU aV aW aX aZ ab ad ae;unfold nP at*;go_enter Tryz.func46,Tryz.ntmps46
 go_upto_region 1 with fail
 have E:r7 w ((w.alloc (.cells #[.int .i64 n,.slice bh k aS,.slice gJ nl cl,.slice A (n+1) c,.slice A' n c',.int .i64 s.aM,.slice bt (n+1) bk,.slice aT m aY] 47)).alloc (.cells #[.int .i64 0,.slice none 0 0,.slice none 0 0,.slice none 0 0,.slice none 0 0,.int .i64 0,.slice none 0 0,.slice none 0 0] 47)) [.int .i64 n,.slice bh k aS,.slice gJ nl cl,.slice A (n+1) c,.slice A' n c',.int .i64 s.aM,.slice bt (n+1) bk,.slice aT m aY] n9:=r7.init w [.int .i64 n,.slice bh k aS,.slice gJ nl cl,.slice A (n+1) c,.slice A' n c',.int .i64 s.aM,.slice bt (n+1) bk,.slice aT m aY] n9;generalize ((w.alloc (.cells #[.int .i64 n,.slice bh k aS,.slice gJ nl cl,.slice A (n+1) c,.slice A' n c',.int .i64 s.aM,.slice bt (n+1) bk,.slice aT m aY] 47)).alloc (.cells #[.int .i64 0,.slice none 0 0,.slice none 0 0,.slice none 0 0,.slice none 0 0,.int .i64 0,.slice none 0 0,.slice none 0 0] 47))=bR at*;have M:=E.bp.cell 0;have y:=E.bp.cell 1;have af:=E.bp.cell 2;have ag:=E.bp.cell 3;have ai:=E.bp.cell 4;have aj:=E.bp.cell 5;have ak:=E.bp.cell 6;have F:=E.bp.cell 7;simp only[z_,y_] at M y af ag ai aj ak F;have bS:=U (bO.o bR E.lM);have bT:=U E;clear E
 go_upto_region 4 with(go_at_call 49;refine bS.o.mono ?_;rintro e al ⟨rfl,a8⟩;have az:=U (bT.o.below a8);clear M y af ag ai aj ak F a8;have M:=az.o.bp.cell 0;simp only[z_] at M)
 have a':=d.o.2.2.2.2.2.1.below az.o.lM;have bU:=U (vN n (some ⟨al.heap.size,0,none⟩) 1 1 [ah] _ (nG.yf al ⟨l7,jw,c0,ah⟩ a').A2);have ba:kZ n [ah]=0:=Ci (by omega) (by simp) (λ l hl=>by rw[v_.1 hl];exact d.o.2.2.2.2.2.2.1);have bV:=U ba;clear a' ba
 go_upto_region 6 with(go_at_call 107;refine bU.o.mono ?_;rintro e aB ⟨rfl,bb⟩;rw[bV.o];have R:=U (az.o.below ((bK al _).trans (bb.mono (bK al _).size)));clear M bb;have y:=R.o.bp.cell 1;simp only[z_,y_] at y)
 go_upto_region 8 with fail
 have bW:=U (w9 l7 jw c0 ah aB (d.o.2.2.2.2.2.1.below R.o.lM));have bc:=d.o.2.2.2.2.2.1.len;have bd:=d.o.2.2.2.2.2.1.mW;have bf:=U (w_ bc bd);clear y
 go_upto_region 9 with(go_at_call 81;refine bW.o.mono ?_;rintro e t ⟨j,c2,rfl,bj,bn⟩;have S:=U (w_ bj bn);clear bj bn)
 have bo:aQ t j jw c2 ah:=by
  have h1:=S.o.1;rw[bf.o.1] at h1;exact aQ.lz h1 bf.o.2
 have T:=U (R.o.below S.o.2);have bX:=U bo;clear bo bc bd;have y:=T.o.bp.cell 1;simp only[z_,y_] at y;have bq:bI (∀W:World,Calls x_ 108 #[.slice bh s.gs.length aS] W λ e w'=>e=.returned (.slice bh s.gs.length s.gs.length)/\W=w'):=U (λ W=>(Ou (w0:=w) d.o.1.gs d.o.2.2.2.2.2.2.2.2.2.2.1 W d.o.2.2.2.2.2.2.2.2.2.2.2.2.1).mono (λ e w' h=>⟨h.1,h.2.symm⟩));have br:bI (∀W:World,Calls x_ 109 #[.slice aT s.aA.length aY] W λ e w'=>e=.returned (.slice aT s.aA.length s.aA.length)/\W=w'):=U (λ W=>(HG (w0:=w) d.o.1.aA d.o.2.2.2.2.2.2.2.2.2.1 W (λ h=>d.o.2.2.2.2.2.2.2.2.2.2.2.1.resolve_left h)).mono (λ e w' h=>⟨h.1,h.2.symm⟩));rw[d.o.2.2.1] at bq;rw[d.o.2.2.2.2.1] at br;have bs:nG (t.alloc (.cells #[ki ⟨j,jw,c2,ah⟩] 25)) bh k aS rs:=by
  have h1:=d.o.2.2.2.2.2.2.2.2.2.2.2.2.2.2;rw[d.o.2.2.1] at h1;exact(h1.below T.o.lM).below (bK t _)
 have bY:=U bs;have bu:(t.alloc (.cells #[ki ⟨j,jw,c2,ah⟩] 25)).cell? ⟨t.heap.size,0,none⟩=some (ki ⟨j,jw,c2,ah⟩):=(aO.new t 25 [ki ⟨j,jw,c2,ah⟩]).cell 0;have bZ:=U bu;clear bs bu
 go_upto_region 10 with(first
  |(go_at_call 108;refine(bq.o _).mono ?_;rintro e b0 ⟨rfl,rfl⟩)
  |(at_builtin;refine Oo rfl (.tmp 30) (.tmp 32) rfl bY.o d.o.2.2.2.2.2.2.2.2.2.2.2.2.1 t.heap.size 1 ⟨j,jw,c2,ah⟩ rfl rfl bZ.o (by have:=bQ.o;omega) (λ e=>by have:=(d.o.2.2.2.2.2.2.2.2.2.2.1 e).1;have N:=d.o.2.2.1;omega) ?_;intro tn aC G;obtain⟨⟨z,jJ,B⟩,aE,an⟩:=aq.lz G.1;obtain rfl:tn=.slice z jJ B:=aE;have bx:=U G;have b1:=U an;have aF:=U (T.o.below ((bK t _).trans (G.2.mono (bK t _).size)));clear G an y;have y:=aF.o.bp.cell 1;have b2:=aF.o.bp.free 1;simp only[z_,y_] at y))
 have an:jJ=k+1:=b1.o;subst an;have ao:=U (aF.o.HQ 1 (.slice z (k+1) B));have bz:(t.alloc (.cells #[.slice j jw c2] 25)).heap.size=t.heap.size+1:=by simp
 have b3:w.heap.size<t.heap.size:=T.o.bp.lt;have b4:w.heap.size<aB.heap.size:=R.o.bp.lt;have bA:(aC.setCell ⟨w.heap.size,1,none⟩ (.slice z (k+1) B)).ownsRow (t.heap.size+1) 25 1 (.slice z (k+1) B) (k+1) ((rs++[(⟨j,jw,c2,ah⟩:Row)]).map ki):=by
  have h1:=bx.o.1;rw[bz] at h1;exact mP h1 (λ b p=>Below.heap_setCell _ _ _ _ (by show b≠w.heap.size;have:=(h1.lt b p).1;omega))
 have bB:aQ (aC.setCell ⟨w.heap.size,1,none⟩ (.slice z (k+1) B)) j jw c2 ah:=by
  refine((bX.o.below (bK t _)).below bx.o.2).nN _ (λ b off e=>?_);have h1:=(S.o.1.lt b (by rw[e];rfl)).1;show b≠w.heap.size;omega
 have aG:=U (w_ bA bB);clear bA bB y b2 bz;generalize aC.setCell ⟨w.heap.size,1,none⟩ (.slice z (k+1) B)=di at*;have F:=ao.o.bp.cell 7;simp only[Zt,Zr,z_,y_] at F;have ar:nx (di.alloc (.cells #[.int .i64 1,ki ⟨j,jw,c2,ah⟩] 126)) aT m aY s.aA:=by
  have h1:=d.o.1.aA;rw[d.o.2.2.2.2.1] at h1;exact(h1.below ao.o.lM).below (bK di _)
 have b5:=U ar;have aH:=aO.new di 126 [.int .i64 1,ki ⟨j,jw,c2,ah⟩];have bC:bI ((di.alloc (.cells #[.int .i64 1,ki ⟨j,jw,c2,ah⟩] 126)).cell? ⟨di.heap.size,0,none⟩=some (.int .i64 1)/\(di.alloc (.cells #[.int .i64 1,ki ⟨j,jw,c2,ah⟩] 126)).cell? ⟨di.heap.size,1,none⟩=some (ki ⟨j,jw,c2,ah⟩)):=U ⟨aH.cell 0,aH.cell 1⟩;clear ar aH
 go_upto_region 11 with(first
  |(go_at_call 109;refine(br.o _).mono ?_;rintro e b0 ⟨rfl,rfl⟩)
  |(at_builtin;refine Oq rfl (.tmp 37) (.tmp 40) rfl b5.o d.o.2.2.2.2.2.2.2.2.2.2.2.1 di.heap.size 1 ⟨1,⟨j,jw,c2,ah⟩⟩ rfl rfl bC.o.1 bC.o.2 (by have:=d.o.2.2.2.2.2.2.2.2.1;have N:=d.o.2.2.2.2.1;omega) (λ e=>by have:=(d.o.2.2.2.2.2.2.2.2.2.1 e).1;have N:=d.o.2.2.2.2.1;omega) ?_;intro v11 au G;obtain⟨⟨C,m9,D⟩,aE,av⟩:=aq.lz G.1;obtain rfl:v11=.slice C m9 D:=aE;have bD:=U G;have b6:=U av;have aw:=U (ao.o.below ((bK di _).trans (G.2.mono (bK di _).size)));clear G av F;have F:=aw.o.bp.cell 7;have b7:=aw.o.bp.free 7;simp only[Zt,Zr,z_,y_] at F))
 have av:m9=m+1:=b6.o;subst av;have q:=U (aw.o.HQ 7 (.slice C (m+1) D));have f12:aD (λ b=>b≠w.heap.size/\b≠w.heap.size+1) au (au.setCell ⟨w.heap.size,7,none⟩ (.slice C (m+1) D)):=aD.set _ 7 _ (λ h=>h.1 rfl);have b8:=U f12;clear f12 F b7 b3 b4;generalize au.setCell ⟨w.heap.size,7,none⟩ (.slice C (m+1) D)=ax at*;have M:=q.o.bp.cell 0;have y:=q.o.bp.cell 1;have af:=q.o.bp.cell 2;have ag:=q.o.bp.cell 3;have ai:=q.o.bp.cell 4;have aj:=q.o.bp.cell 5;have ak:=q.o.bp.cell 6;have F:=q.o.bp.cell 7;simp only[Zt,Zr,z_,y_] at M y af ag ai aj ak F;have b9:=q.o.bg.cell 0;have b':=q.o.bg.cell 1;have ca:=q.o.bg.cell 2;have cc:=q.o.bg.cell 3;have cd:=q.o.bg.cell 4;have cf:=q.o.bg.cell 5;have cg:=q.o.bg.cell 6;have ch:=q.o.bg.cell 7;have H:=q.o.bg.free;have cv:=H 0;have cw:=H 1;have cx:=H 2;have cy:=H 3;have cz:=H 4;have cA:=H 5;have cB:=H 6;have cC:=H 7;simp only[n9,z_,y_] at b9 b' ca cc cd cf cg ch;clear H
 go_wp2_with fail
 have cj:=aO.zn (show aO ax (w.heap.size+1) 47 [.int .i64 0,.slice none 0 0,.slice none 0 0,.slice none 0 0,.slice none 0 0,.int .i64 0,.slice none 0 0,.slice none 0 0] from q.o.bg) (.int .i64 n) (.slice z (k+1) B) (.slice gJ nl cl) (.slice A (n+1) c) (.slice A' n c') (.int .i64 s.aM) (.slice bt (n+1) bk) (.slice C (m+1) D);have J:∀(u:World)(i:Nat)(v:Value),aD (λ b=>b≠w.heap.size/\b≠w.heap.size+1) u (u.setCell ⟨w.heap.size+1,i,none⟩ v):=λ u i v=>aD.set _ i v (λ h=>h.2 rfl)
 have f1:aD (λ b=>b≠w.heap.size/\b≠w.heap.size+1) ax _:=((((((((J ax 0 (.int .i64 n)).trans (J _ 1 (.slice z (k+1) B))).trans (J _ 2 (.slice gJ nl cl))).trans (J _ 3 (.slice A (n+1) c))).trans (J _ 4 (.slice A' n c'))).trans (J _ 5 (.int .i64 s.aM))).trans (J _ 6 (.slice bt (n+1) bk))).trans (J _ 7 (.slice C (m+1) D)))
 generalize ((((((((ax.setCell ⟨w.heap.size+1,0,none⟩ (.int .i64 n)).setCell ⟨w.heap.size+1,1,none⟩ (.slice z (k+1) B)).setCell ⟨w.heap.size+1,2,none⟩ (.slice gJ nl cl)).setCell ⟨w.heap.size+1,3,none⟩ (.slice A (n+1) c)).setCell ⟨w.heap.size+1,4,none⟩ (.slice A' n c')).setCell ⟨w.heap.size+1,5,none⟩ (.int .i64 s.aM)).setCell ⟨w.heap.size+1,6,none⟩ (.slice bt (n+1) bk)).setCell ⟨w.heap.size+1,7,none⟩ (.slice C (m+1) D))=W at*;refine Ov rfl rfl rfl cj ?_;have K:=b8.o.trans f1;have I:Below w.heap.size w W:=aw.o.lM.trans ⟨K.os,K.tape,K.output,K.size,λ b p=>K.keep b ⟨by omega,by omega⟩⟩;have cD:w.heap.size+1<t.heap.size:=T.o.bg.lt;have cE:w.heap.size+1<aB.heap.size:=R.o.bg.lt;have cF:w.heap.size+1<di.heap.size:=ao.o.bg.lt;have bE:Below di.heap.size di au:=(bK di _).trans (bD.o.2.mono (bK di _).size);have V:W.ownsRow (t.heap.size+1) 25 1 (.slice z (k+1) B) (k+1) ((rs++[(⟨j,jw,c2,ah⟩:Row)]).map ki):=mP (lR aG.o.1 bE) (λ b p=>K.keep b (by have:=(aG.o.1.lt b p).1;omega));have Q:W.ownsRow (di.heap.size+1) 126 2 (.slice C (m+1) D) (m+1) (ni (s.aA++[(⟨1,⟨j,jw,c2,ah⟩⟩:mc)])):=by
  have h1:=bD.o.1;have aa:(di.alloc (.cells #[.int .i64 1,.slice j jw c2] 126)).heap.size=di.heap.size+1:=by simp
  rw[aa] at h1;exact mP h1 (λ b p=>K.keep b (by have:=(h1.lt b p).1;omega))
 have ay:aQ W j jw c2 ah:=by
  refine(aG.o.2.below bE).iP K (λ b e L=>?_);have h1:=(S.o.1.lt b ((aq.own ⟨j,_,c2⟩).trans e)).1;omega
 have cG:=d.o.2.2.2.2.2.2.2.2.1;have ck:=d.o.2.2.1;have bF:=d.o.2.2.2.2.1;have cm:=d.o.2.2.2.2.2.2.2.1;have bG:=lF.lz V (λ r P=>by
  rcases u_.1 P with h1|h1
  ·exact(d.o.2.2.2.2.2.2.2.2.2.2.2.2.2.2.rows r h1).below I
  ·rw[v_.1 h1];exact ay) (by omega)
 have bH:(rs++[(⟨j,jw,c2,ah⟩:Row)]).map (·.ah)=s.gs++[ah]:=by
  rw[Zn,d.o.2.2.2.2.2.2.2.2.2.2.2.2.2.1];rfl
 rw[bH] at bG;have ar:=nx.lz Q (by omega) (λ r P=>by
  rcases u_.1 P with h1|h1
  ·exact(d.o.1.aA.rows r h1).below I
  ·rw[v_.1 h1];exact ay)
 have aI:(s.gs++[ah]).length=k+1:=by simp[ck]
 have X:(s.aA++[(⟨1,⟨j,jw,c2,ah⟩⟩:mc)]).length=m+1:=by simp[bF]
 have cn:=d.o.2.2.2.1;have cH:=d.o.2.1.hk.kM;have cI:=d.o.2.1.hk.pE;have cJ:=d.o.2.1.nB;refine⟨⟨n,s.gs++[ah],s.es,s.act,s.ord,s.aM,s.bl,s.aA++[⟨1,⟨j,jw,c2,ah⟩⟩]⟩,z,B,C,D,?_,⟨by rw[aI];exact bG,d.o.1.es.below I,d.o.1.act.below I,d.o.1.ord.below I,d.o.1.bl.below I,by rw[X];exact ar⟩,d.o.2.1.add d.o.2.2.2.2.2.2.1 cm _ rfl,rfl,rfl,rfl,⟨_,rfl,rfl,rfl⟩,by rw[X,bF],I,⟨.inr ?_,λ e=>?_⟩,λ e=>?_,?_⟩
 ·show _=Ending.returned (.tuple #[nP n z (s.gs++[ah]).length B gJ s.es.length cl A (n+1) c A' n c' s.aM bt (n+1) bk C (s.aA++[(⟨1,⟨j,jw,c2,ah⟩⟩:mc)]).length D,.int .i64 0]);rw[aI,X,cn];rfl
 ·show W.ownsRow _ 126 2 (.slice C (s.aA++[(⟨1,⟨j,jw,c2,ah⟩⟩:mc)]).length D) _ _;rw[X];exact yK Q (by omega)
 ·rcases Q.2 with⟨h1,N⟩|⟨g,cap,cur,h1,_⟩
  ·omega
  ·injection h1 with h1;rw[e] at h1;cases h1
 ·rcases V.2 with⟨h1,N⟩|⟨g,cap,cur,h1,_⟩
  ·omega
  ·injection h1 with h1;rw[e] at h1;cases h1
 ·intro bw aJ bJ W' f;have aK:=d.o.2.2.2.2.2.2.2.2.2.2.2.2.2.2;have cp:=aK.zm (λ cq h1=>(bJ cq h1).gs);have bL:aD (λ b=>b<w.heap.size/\¬bw b) w W':=(aD.q3 I λ b p=>p.1).trans (f.mono λ b p=>⟨by have:=I.size;omega,p.2⟩);have Y:=bJ W' bL;have cr:W'.ownsRow (t.heap.size+1) 25 1 (.slice z (k+1) B) (k+1) ((rs++[(⟨j,jw,c2,ah⟩:Row)]).map ki):=mP V (λ b p=>f.keep b ⟨(V.lt b p).2,λ h=>by have h1:=aJ b h;have N:=(V.lt b p).1;omega⟩);have ct:W'.ownsRow (di.heap.size+1) 126 2 (.slice C (m+1) D) (m+1) (ni (s.aA++[(⟨1,⟨j,jw,c2,ah⟩⟩:mc)])):=mP Q (λ b p=>f.keep b ⟨(Q.lt b p).2,λ h=>by have h1:=aJ b h;have N:=(Q.lt b p).1;omega⟩);have bM:aQ W' j jw c2 ah:=ay.iP f (λ b e L=>⟨ay.lt b e L,λ h=>by
   have h1:=aJ b h;have N:=(S.o.1.lt b ((aq.own ⟨j,_,c2⟩).trans e)).1;omega⟩)
  have bN:=lF.lz cr (λ r P=>by
   rcases u_.1 P with h1|h1
   ·exact(aK.rows r h1).iP bL (λ b e L=>⟨(aK.rows r h1).lt b e L,cp r h1 b e L⟩)
   ·rw[v_.1 h1];exact bM) (by omega)
  rw[bH] at bN;have cu:=nx.lz ct (by omega) (λ r P=>by
   rcases u_.1 P with h1|h1
   ·exact Y.aA.rows r h1
   ·rw[v_.1 h1];exact bM)
  exact⟨by rw[aI];exact bN,Y.es,Y.act,Y.ord,Y.bl,by rw[X];exact cu⟩
end
section
open Go.RowKit Go.Shelf Go.Sort Go.Lib
theorem AO{w:World}{HR:Nat}{s:Nat}{v:Value}{xs:List Value}(h:w.ownsRow base e s v n xs)(b:HR<=base):w.ownsRow HR e s v n xs:=by
 refine⟨h.1,?_⟩;rcases h.2 with h1|⟨g,cap,cur,h1,c,d⟩
 ·exact Or.inl h1
 ·exact Or.inr ⟨g,cap,cur,h1,r_ b c,d⟩
structure CE(w:World)(n:Nat)(s:kF)(bh:Option Addr)(aS:Nat)(gJ:Option Addr)(cl:Nat)(A:Option Addr)(c:Nat)(A':Option Addr)(c':Nat)(bt:Option Addr)(bk:Nat)(aT:Option Addr)(aY:Nat):Prop where
 aP:pT w s bh aS gJ cl A c A' c' bt bk aT aY
 O:oy n s
 gW:s.es=[]
 pl:s.aA.length=s.gs.length
 qh:aT=none->s.aA.length=0/\aY=0
 pR:bh=none->s.gs.length=0/\aS=0
 pp:Plain aT
 yj:Plain bh
def r8(n:Nat):kF:=⟨n,[],[],rL (n+1),r9 n,1,uc (n+1),[]⟩
theorem CE.new{w:World}{n:Nat}{A:Option Addr}{c:Nat}{A':Option Addr}{c':Nat}{bt:Option Addr}{bk:Nat}(k:n<=10)(d:aQ w A (n+1) c (rL (n+1)))(f:aQ w A' n c' (r9 n))(i:lB w bt (n+1) bk (uc (n+1))):
  CE w n (r8 n) none 0 none 0 A c A' c' bt bk none 0:=by
 have b:(uc (n+1)).length=n+1:=by simp[uc]
 refine⟨⟨lF.nil _ _ _ (p_ _),⟨rfl,p_ _,by simp[r8],p_ _,λ h=>(by simp[r8] at h),λ e he=>(by simp[r8] at he)⟩,?_,?_,?_,⟨rfl,p_ _,by simp[r8],p_ _,λ h=>(by simp[r8] at h),λ e he=>(by simp[r8] at he)⟩⟩,?_,rfl,rfl,λ _=>⟨rfl,rfl⟩,λ _=>⟨rfl,rfl⟩,.inl rfl,.inl rfl⟩
 ·show aQ w A (rL (n+1)).length c _;rw[vu];exact d
 ·show aQ w A' (r9 n).length c' _;rw[wF];exact f
 ·show lB w bt (uc (n+1)).length bk _;rw[b];exact i
 ·refine⟨rfl,by simp[r8],λ g j=>(by simp[r8] at j),q8.new n (by omega),b,?_,λ e he=>(by simp[r8] at he),λ e he=>(by simp[r8] at he),List.Pairwise.nil,λ p hp=>(by simp[r8] at hp)⟩;simp[r8,uc,jE]
theorem aD.eight(v0 v1 v2 v3 v4 v5 v6 d:Value):aD (λ b=>b≠B) W ((((((((W.setCell ⟨B,0,none⟩ v0).setCell ⟨B,1,none⟩ v1).setCell ⟨B,2,none⟩ v2).setCell ⟨B,3,none⟩ v3).setCell ⟨B,4,none⟩ v4).setCell ⟨B,5,none⟩ v5).setCell ⟨B,6,none⟩ v6).setCell ⟨B,7,none⟩ d):=by
 have c:∀(u:World)(i:Nat)(v:Value),aD (λ b=>b≠B) u (u.setCell ⟨B,i,none⟩ v):=λ u i v=>aD.set _ i v (λ h=>h rfl)
 exact(((((((c W 0 v0).trans (c _ 1 v1)).trans (c _ 2 v2)).trans (c _ 3 v3)).trans (c _ 4 v4)).trans (c _ 5 v5)).trans (c _ 6 v6)).trans (c _ 7 d)
end
section
open Go.RowKit Go.Shelf
theorem Ox{aS:Nat}{c:Nat}{w:World}{jw c0:Nat}(O:oy n s)(ab:n<=10)(D:pT w s bh aS gJ cl A c A' c' bt bk aT aY)(E:aQ w l7 jw c0 ah)(l:¬kZ n [ah]=0):
  Calls x_ 46 #[nP n bh s.gs.length aS gJ s.es.length cl A (n+1) c A' n c' s.aM bt (n+1) bk aT s.aA.length aY,.slice l7 jw c0] w λ e W=>e=.returned (.tuple #[.agg #[.int .i64 0,.slice none 0 0,.slice none 0 0,.slice none 0 0,.slice none 0 0,.int .i64 0,.slice none 0 0,.slice none 0 0],.int .i64 140])/\Below w.heap.size w W:=by
 obtain⟨i,p⟩:∃x,s.gs.length=x:=⟨_,rfl⟩
 obtain⟨nl,q⟩:∃x,s.es.length=x:=⟨_,rfl⟩
 obtain⟨j,r⟩:∃x,s.aA.length=x:=⟨_,rfl⟩
 have ad:bI (∀W:World,Below w.heap.size w W->Calls x_ 49 #[nP n bh i aS gJ nl cl A (n+1) c A' n c' s.aM bt (n+1) bk aT j aY] W λ e w'=>e=.returned (.int .i64 0)/\Below W.heap.size W w'):=U λ W F=>by
  have:=Cx O ab (D.below F);rw[p,q,r] at this;exact this
 have ae:=U E;obtain⟨t,u⟩:∃e,kZ n [ah]=e:=⟨_,rfl⟩
 rw[u] at l;have af:=U u;have ay:(t==0)=false:=by simpa using l
 have z2:(t !=0)=true:=by simpa using l
 have z3:decide (t=0)=false:=decide_eq_false l;rw[p,q,r];clear D O E p q r u;unfold nP at*;go_enter Tryz.func46,Tryz.ntmps46
 go_upto_region 1 with fail
 have d:r7 w ((w.alloc (.cells #[.int .i64 n,.slice bh i aS,.slice gJ nl cl,.slice A (n+1) c,.slice A' n c',.int .i64 s.aM,.slice bt (n+1) bk,.slice aT j aY] 47)).alloc (.cells #[.int .i64 0,.slice none 0 0,.slice none 0 0,.slice none 0 0,.slice none 0 0,.int .i64 0,.slice none 0 0,.slice none 0 0] 47)) [.int .i64 n,.slice bh i aS,.slice gJ nl cl,.slice A (n+1) c,.slice A' n c',.int .i64 s.aM,.slice bt (n+1) bk,.slice aT j aY] n9:=r7.init w [.int .i64 n,.slice bh i aS,.slice gJ nl cl,.slice A (n+1) c,.slice A' n c',.int .i64 s.aM,.slice bt (n+1) bk,.slice aT j aY] n9;generalize ((w.alloc (.cells #[.int .i64 n,.slice bh i aS,.slice gJ nl cl,.slice A (n+1) c,.slice A' n c',.int .i64 s.aM,.slice bt (n+1) bk,.slice aT j aY] 47)).alloc (.cells #[.int .i64 0,.slice none 0 0,.slice none 0 0,.slice none 0 0,.slice none 0 0,.int .i64 0,.slice none 0 0,.slice none 0 0] 47))=ag at*;have k:=d.bp.cell 0;have G:=d.bp.cell 1;have H:=d.bp.cell 2;have I:=d.bp.cell 3;have J:=d.bp.cell 4;have K:=d.bp.cell 5;have L:=d.bp.cell 6;have M:=d.bp.cell 7;simp only[z_,y_] at k G H I J K L M;have ai:=U (ad.o ag d.lM);have aj:=U d;clear d
 go_upto_region 4 with(go_at_call 49;refine ai.o.mono ?_;rintro e m ⟨rfl,N⟩;have y:=U (aj.o.below N);clear k G H I J K L M N;have k:=y.o.bp.cell 0;simp only[z_] at k)
 have P:=ae.o.below y.o.lM;have ak:=U (vN n (some ⟨m.heap.size,0,none⟩) 1 1 [ah] _ (nG.yf m ⟨l7,jw,c0,ah⟩ P).A2);clear P
 go_upto_region 5 with(go_at_call 107;refine ak.o.mono ?_;rintro e C ⟨rfl,Q⟩;rw[af.o];have f:=U (y.o.below ((bK m _).trans (Q.mono (bK m _).size)));clear k Q)
 have g:=f.o.bg.free;have az:=g 0;have aB:=g 1;have aC:=g 2;have aE:=g 3;have aF:=g 4;have aG:=g 5;have aH:=g 6;have aI:=g 7;have al:=f.o.bg.cell 0;have an:=f.o.bg.cell 1;have ao:=f.o.bg.cell 2;have aq:=f.o.bg.cell 3;have ar:=f.o.bg.cell 4;have au:=f.o.bg.cell 5;have av:=f.o.bg.cell 6;have aw:=f.o.bg.cell 7;simp only[n9,z_,y_] at al an ao aq ar au av aw;clear g
 go_wp2_with fail
 have f1:=aD.eight (W:=C) (B:=w.heap.size+1) (.int .i64 0) (.slice none 0 0) (.slice none 0 0) (.slice none 0 0) (.slice none 0 0) (.int .i64 0) (.slice none 0 0) (.slice none 0 0);have ax:=aO.zn (show aO C (w.heap.size+1) 47 [.int .i64 0,.slice none 0 0,.slice none 0 0,.slice none 0 0,.slice none 0 0,.int .i64 0,.slice none 0 0,.slice none 0 0] from f.o.bg) (.int .i64 0) (.slice none 0 0) (.slice none 0 0) (.slice none 0 0) (.slice none 0 0) (.int .i64 0) (.slice none 0 0) (.slice none 0 0);generalize ((((((((C.setCell ⟨w.heap.size+1,0,none⟩ (.int .i64 0)).setCell ⟨w.heap.size+1,1,none⟩ (.slice none 0 0)).setCell ⟨w.heap.size+1,2,none⟩ (.slice none 0 0)).setCell ⟨w.heap.size+1,3,none⟩ (.slice none 0 0)).setCell ⟨w.heap.size+1,4,none⟩ (.slice none 0 0)).setCell ⟨w.heap.size+1,5,none⟩ (.int .i64 0)).setCell ⟨w.heap.size+1,6,none⟩ (.slice none 0 0)).setCell ⟨w.heap.size+1,7,none⟩ (.slice none 0 0))=W at*;have z:=ax.cell;have R:=z 0;have S:=z 1;have T:=z 2;have V:=z 3;have X:=z 4;have Y:=z 5;have Z:=z 6;have aa:=z 7;simp only[z_,y_] at R S T V X Y Z aa;refine bodyPost_ret (v:=.tuple #[.agg #[.int .i64 0,.slice none 0 0,.slice none 0 0,.slice none 0 0,.slice none 0 0,.int .i64 0,.slice none 0 0,.slice none 0 0],.int .i64 140]) (by simp[results,Tryz.results46,go_sem,R,S,T,V,X,Y,Z,aa]) rfl ?_;exact⟨rfl,f.o.lM.trans ⟨f1.os,f1.tape,f1.output,f1.size,λ b F=>f1.keep b (by omega)⟩⟩
end
section
open Go.RowKit Go.Shelf Go.Lib
structure iW where
 n:Int
 g:aq
 l:aq
 a:aq
 o:aq
 b:Int
 h:aq
 p:aq
def iW.L(t:iW):List Value:=[.int .i64 t.n,.slice t.g.A t.g.n t.g.c,.slice t.l.A t.l.n t.l.c,.slice t.a.A t.a.n t.a.c,.slice t.o.A t.o.n t.o.c,.int .i64 t.b,.slice t.h.A t.h.n t.h.c,.slice t.p.A t.p.n t.p.c]
def sE(t:iW)(b:Int):Value:=.tuple #[.agg t.L.toArray,.int .i64 b]
end
section
open Go.Shelf
def Tryz.Oz:Go.Shelf.Ren:=⟨λ|45=>80|n=>n,λ|22=>25|23=>3|3=>3|4=>4|0=>0|n=>n,λ|n=>n⟩
theorem Tryz.QO:Go.Proofs.SlLaysE.n45 x_ Tryz.Oz:={
 mixed:=by kernel_rfl
 f45:=⟨Tryz.f80.name,by decide,Tryz.func80.trans (congrArg some (by kernel_rfl))⟩
 t0:=Tryz.underlying0
 a0:=Tryz.isAgg0
 z0:=Tryz.sizeOf0
 v0:=Tryz.zeroValue0
 t3:=Zw
 a3:=Tryz.isAgg3
 z3:=Tryz.sizeOf3
 v3:=Tryz.zeroValue3
 t4:=Tryz.underlying4
 a4:=Tryz.isAgg4
 z4:=Tryz.sizeOf4
 v4:=Tryz.zeroValue4
 t22:=Zq
 a22:=Tryz.isAgg25
 z22:=Tryz.sizeOf25
 v22:=Tryz.zeroValue25
 a23:=Tryz.isAgg3
 z23:=Tryz.sizeOf3}
open Go.RowKit Go.Sort Go.Lib
end
section
open Go.RowKit
section
variable {n:Nat}{ls:List (List Int)}(aB:kZ n ls=0)
include aB
end
end
section
open Go.RowKit Go.Shelf Go.Sort Go.Lib
theorem HS{bp:Nat}{w:World}(h:Below bp w W)(f:aD (λ b=>b≠B) W W')(d:bp<=B):Below bp w W':=
 ⟨f.os.trans h.os,f.tape.trans h.tape,f.output.trans h.output,r_ h.size f.size,λ b c=>(f.keep b (by omega)).trans (h.block b c)⟩
end
section
open Go.RowKit Go.Shelf Go.Sort Go.Lib
def Ab(n:Nat)(s:kF)(mK:Option Addr)(c3:Nat)(jY:Option Addr)(c4:Nat)(k4:Option Addr)(c5:Nat)(bh:Option Addr)(aS:Nat)(b:Option Addr)(c:Nat):iW:=
 ⟨n,⟨bh,s.gs.length,aS⟩,⟨none,s.es.length,0⟩,⟨mK,n+1,c3⟩,⟨jY,n,c4⟩,s.aM,⟨k4,n+1,c5⟩,⟨b,s.aA.length,c⟩⟩
def nS:iW:=⟨0,mM,mM,mM,mM,0,mM,mM⟩
section
variable {QS:Nat->Prop}{jF n:Nat}{s:kF}{ah:List Int}{mK:Option Addr}{c3:Nat}{jY:Option Addr}{c4:Nat}{k4:Option Addr}{c5:Nat}{QT:Int}{t:iW}{p:Nat×Nat}{w w':World}
end
def AP(n:Nat)(ah:List Int):Int:=if kZ n [ah]=0 then 0 else 140
end
section
open Go.RowKit Go.Shelf Go.Sort Go.Lib
def z24(x:Int)(A:Option Addr)(nl cl:Nat):Obj:=.cells #[.int .i64 x,.slice A nl cl] 24
end
section
open Go.RowKit Go.Lib
structure lu where
 k:Int
 m:aq
 o:aq
 s:Int
def lu.L(t:lu):List Value:=[.int .i64 t.k,.slice t.m.A t.m.n t.m.c,.slice t.o.A t.o.n t.o.c,.int .i64 t.s]
theorem zA(w:World)(t:iW)(q:lu):Below w.heap.size w ((w.alloc (.cells t.L.toArray 47)).alloc (.cells q.L.toArray 30))/\aO ((w.alloc (.cells t.L.toArray 47)).alloc (.cells q.L.toArray 30)) (w.heap.size+1) 30 q.L:=by
 have b:=bK w (.cells t.L.toArray 47);have z0:(w.alloc (.cells t.L.toArray 47)).heap.size=w.heap.size+1:=by simp
 generalize w.alloc (.cells t.L.toArray 47)=w1 at*;have h1:=aO.new w1 30 q.L;have c:=bK w1 (.cells q.L.toArray 30);rw[z0] at h1;exact⟨b.trans (c.mono (by omega)),h1⟩
end
section
open Go.RowKit Go.Shelf Go.Lib
def qi:lu:=⟨0,mM,mM,0⟩
def s6(t:iW)(u:lu)(b:Int):Value:=.tuple #[.agg t.L.toArray,.agg u.L.toArray,.int .i64 b]
theorem yl{w:World}{L:List Value}{aP:Ending->World->Prop}(S:qQ w W L n9 s4)(c:a.defers=[])(d:a.tmps.getD 6 undef=.pointer (some ⟨w.heap.size+1,0,none⟩))(e:a.tmps.getD 7 undef=.pointer (some ⟨w.heap.size+1+1,0,none⟩))(f:a.tmps.getD 8 undef=.int .i64 lg)
  (h:∀W',Below w.heap.size w W'->aP (.returned (s6 nS qi lg)) W'):bodyPost x_ Tryz.f36 aP .ret a (vL W (w.heap.size+1) (w.heap.size+1+1) (.int .i64 0) (.slice none 0 0) (.slice none 0 0) (.slice none 0 0) (.slice none 0 0) (.int .i64 0) (.slice none 0 0) (.slice none 0 0) (.int .i64 0) (.slice none 0 0) (.slice none 0 0) (.int .i64 0)):=by
 have T:=vL.ok S.bg S.gd (by omega) (.int .i64 0) (.slice none 0 0) (.slice none 0 0) (.slice none 0 0) (.slice none 0 0) (.int .i64 0) (.slice none 0 0) (.slice none 0 0) (.int .i64 0) (.slice none 0 0) (.slice none 0 0) (.int .i64 0);exact HB c d e f T.1 T.2.1 (h _ (S.lM.trans ⟨T.2.2.os,T.2.2.tape,T.2.2.output,T.2.2.size,λ b g=>T.2.2.keep b ⟨by omega,by omega⟩⟩))
theorem OA(t:iW)(j:Int)(s:j≠0)(I:Option Addr)(nq J:Nat)(K:Int)(w:World)(u:∀W,Below w.heap.size w W->Calls x_ 49 #[.agg t.L.toArray] W λ e w'=>e=.returned (.int .i64 j)/\Below W.heap.size W w'):
  Calls x_ 36 #[.agg t.L.toArray,.slice I nq J,.int .i64 K] w λ e W=>e=.returned (s6 nS qi j)/\Below w.heap.size w W:=by
 have M:=U u;have aa:(j==0)=false:=by simpa using s
 have ab:(j !=0)=true:=by simpa using s
 have ad:decide (j=0)=false:=decide_eq_false s;clear u s;unfold iW.L at*;go_enter Tryz.func36,Tryz.ntmps36
 go_upto_region 1 with fail
 have k:=qQ.init w t.L n9 s4;simp only[iW.L,n9,s4] at k;generalize ((w.alloc (.cells #[.int .i64 t.n,.slice t.g.A t.g.n t.g.c,.slice t.l.A t.l.n t.l.c,.slice t.a.A t.a.n t.a.c,.slice t.o.A t.o.n t.o.c,.int .i64 t.b,.slice t.h.A t.h.n t.h.c,.slice t.p.A t.p.n t.p.c] 47)).alloc (.cells #[.int .i64 0,.slice none 0 0,.slice none 0 0,.slice none 0 0,.slice none 0 0,.int .i64 0,.slice none 0 0,.slice none 0 0] 47)).alloc (.cells #[.int .i64 0,.slice none 0 0,.slice none 0 0,.int .i64 0] 30)=v at*;have d:=k.bp.cell;have y:=d 0;have z:=d 1;have B:=d 2;have C:=d 3;have D:=d 4;have E:=d 5;have F:=d 6;have G:=d 7;simp only[z_,y_] at y z B C D E F G;clear d;have N:=U (M.o v k.lM);have O:bI (qQ w v t.L n9 s4):=U k;clear k
 go_upto_region 3 with(go_at_call 49;refine N.o.mono ?_;rintro e ae ⟨rfl,H⟩;have m:=U (O.o.below H);clear y z B C D E F G H)
 have f:=m.o.bg.cell;have P:=f 0;have Q:=f 1;have R:=f 2;have S:=f 3;have T:=f 4;have V:=f 5;have X:=f 6;have Y:=f 7;simp only[n9,z_,y_] at P Q R S T V X Y;clear f;have q:=m.o.gd.cell;have v0:=q 0;have v1:=q 1;have v2:=q 2;have v3:=q 3;simp only[s4,z_,y_] at v0 v1 v2 v3;clear q;have i:=m.o.bg.free;have f0:=i 0;have f1:=i 1;have f2:=i 2;have f3:=i 3;have f4:=i 4;have f5:=i 5;have f6:=i 6;have f7:=i 7;clear i;have r:=m.o.gd.free;have g0:=r 0;have g1:=r 1;have g2:=r 2;have g3:=r 3;clear r
 go_wp2_with fail
 exact yl m.o rfl rfl rfl rfl λ W' Z=>⟨rfl,Z⟩
def vo(n:Int)(c:List Int)(b:Int):Bool:=vl n c&&decide (0<=b)&&decide (b<=1099511627776)
theorem CF(t:iW)(n:Nat)(an:n<=65536)(ai:t.n=n)(ao:Option Addr)(nq aq:Nat)(f:List Int)(A:Int)(w:World)(aj:aQ w ao nq aq f)(ar:nq<=1000000)(c:vo n f A=false)(au:∀W,Below w.heap.size w W->Calls x_ 49 #[.agg t.L.toArray] W λ e w'=>e=.returned (.int .i64 0)/\Below W.heap.size W w'):
  Calls x_ 36 #[.agg t.L.toArray,.slice ao nq aq,.int .i64 A] w λ e W=>e=.returned (s6 nS qi 1)/\Below w.heap.size w W:=by
 have a7:=U au;have u:=U (w_ aj (w_ aj.len (w_ ar c)));have F:=U an;have a8:= @run_makeMap x_;obtain⟨a',⟨G,H,gc⟩,⟨I,J,lc⟩,⟨K,N,ac⟩,⟨O,on,P⟩,Q,⟨R,T,V⟩,⟨X,Y,Z⟩⟩:=t;have ai:a'=n:=ai;subst ai;clear au aj ar c an;unfold iW.L at*;dsimp only at*;go_enter Tryz.func36,Tryz.ntmps36
 go_upto_region 1 with fail
 have B:=qQ.init w [.int .i64 n,.slice G H gc,.slice I J lc,.slice K N ac,.slice O on P,.int .i64 Q,.slice R T V,.slice X Y Z] n9 s4;simp only[n9,s4] at B;generalize ((w.alloc (.cells #[.int .i64 n,.slice G H gc,.slice I J lc,.slice K N ac,.slice O on P,.int .i64 Q,.slice R T V,.slice X Y Z] 47)).alloc (.cells #[.int .i64 0,.slice none 0 0,.slice none 0 0,.slice none 0 0,.slice none 0 0,.int .i64 0,.slice none 0 0,.slice none 0 0] 47)).alloc (.cells #[.int .i64 0,.slice none 0 0,.slice none 0 0,.int .i64 0] 30)=av at*;have l:=B.bp.cell;have aa:=l 0;have aw:=l 1;have ax:=l 2;have ay:=l 3;have az:=l 4;have aA:=l 5;have aB:=l 6;have aC:=l 7;simp only[z_,y_] at aa aw ax ay az aA aB aC;clear l;have ba:=U (a7.o av B.lM);have bb:bI (qQ w av [.int .i64 n,.slice G H gc,.slice I J lc,.slice K N ac,.slice O on P,.int .i64 Q,.slice R T V,.slice X Y Z] n9 s4):=U B;clear B
 go_upto_region 5 with(go_at_call 49;refine ba.o.mono ?_;rintro e ab ⟨rfl,aD⟩;have aE:=U (bb.o.below aD);clear aa aw ax ay az aA aB aC aD)
 have bc:=U (aE.o.below (bK ab (.map #[] 0)));have ad:bI (w.heap.size+1+1<ab.heap.size):=U aE.o.gd.lt;have bd:=U (lY.made ab);clear a8
 go_wp2_with fail
 go_loopw [24] (λ i W=>∃k:Nat,i=.int .i64 k/\k<=nq/\lY W ab.heap.size k ((f.take k).map λ x=>(aH x:Int))/\(∀j,j<k->uM n f j=false)/\qQ w W [.int .i64 n,.slice G H gc,.slice I J lc,.slice K N ac,.slice O on P,.int .i64 Q,.slice R T V,.slice X Y Z] n9 s4) (λ i _=>nq-(intOf i).toNat)
 case atStart=>exact⟨0,rfl,p_ _,bd.o,λ j aF=>by omega,bc.o⟩
 case round=>
  obtain⟨k,rfl,hk,aG,aI,ak⟩:=hrel;have M:=U aG;have aJ:=U aI;have S:=U ak;have aa:=ak.bp.cell 0;simp only[z_,y_] at aa;have m:=S.o.bg.cell;have aK:=m 0;have aL:=m 1;have aM:=m 2;have aN:=m 3;have aO:=m 4;have aP:=m 5;have aR:=m 6;have aS:=m 7;simp only[n9,z_,y_] at aK aL aM aN aO aP aR aS;clear m;have C:=S.o.gd.cell;have v0:=C 0;have v1:=C 1;have v2:=C 2;have v3:=C 3;simp only[s4,z_,y_] at v0 v1 v2 v3;clear C;have p:=S.o.bg.free;have f0:=p 0;have f1:=p 1;have f2:=p 2;have f3:=p 3;have f4:=p 4;have f5:=p 5;have f6:=p 6;have f7:=p 7;clear p;have D:=S.o.gd.free;have g0:=D 0;have g1:=D 1;have g2:=D 2;have g3:=D 3;clear D;clear aG ak aI;have wn:Zv.wrap (-(n:Int))= -(n:Int):=by rw[m_];have:=F.o;omega
  have bj:wrap64 (-(n:Int))= -(n:Int):=by unfold wrap64;have:=F.o;omega
  by_cases r:k<nq
  ·have bf:(k:Int)<(nq:Int):=by omega
   have bk:Zv.wrap ((k:Int)+1)=(k:Int)+1:=by rw[m_];have:=u.o;omega
   obtain⟨b,off,rfl,c,ae⟩:=(u.o.1.below S.o.lM).cells (by omega);have bh:=ae k r;have af:k<f.length:=by rw[u.o.2.1];exact r
   obtain⟨x,y⟩:∃x,iJ f k=x:=⟨_,rfl⟩
   rw[y] at bh;have s:uM n f k=(!(wq n x)||hasB ((f.take k).map λ x=>(aH x:Int)) (aH x:Int)):=by unfold uM;rw[y]
   have aT:=U r
   cases q:wq n x with
   |false=>
    have d:x=0\/x≠0/\(n:Int)<x\/x≠0/\¬(n:Int)<x/\x< -(n:Int):=by
     unfold wq at q;rw[ZW,decide_eq_false_iff_not,decide_eq_false_iff_not] at q;omega
    clear ae c y s q r hk af;rcases d with d|⟨d,aU⟩|⟨d,aU,bl⟩
    ·subst d
     go_wp2_with fail
     exact yl S.o rfl rfl rfl rfl λ W' c=>⟨rfl,c⟩
    ·have aV:(x==0)=false:=by simpa using d
     go_wp2_with fail
     exact yl S.o rfl rfl rfl rfl λ W' c=>⟨rfl,c⟩
    ·have aV:(x==0)=false:=by simpa using d
     go_wp2_with fail
     exact yl S.o rfl rfl rfl rfl λ W' c=>⟨rfl,c⟩
   |true=>
    have d:1<=aH x/\aH x<=n/\x≠0/\¬(n:Int)<x/\¬x< -(n:Int):=by
     unfold wq at q;rw[Zo,decide_eq_true_eq,decide_eq_true_eq] at q;unfold aH;omega
    have aV:(x==0)=false:=by simpa using d.2.2.1
    have bn:=d.2.2.2.1;have bo:=d.2.2.2.2;have al: -1000000<=x/\x<=1000000:=by have:=F.o;omega
    have aW:=U al;rw[q] at s;obtain⟨v,E⟩:∃v,aH x=v:=⟨_,rfl⟩
    have aX:bI (∀W:World,Calls x_ 97 #[.int .i64 x] W λ e w'=>e=.returned (.int .i64 (v:Int))/\W=w'):=U λ W=>by have:=sM x W aW.o.1 aW.o.2;rw[E] at this;exact this
    rw[E] at d s;have ag:(ZY .i64 (v:Int)).wf=true:=DW _ (by omega) (by have:=F.o;omega);have aY:=M.o.look ag
    cases ah:hasB ((f.take k).map λ x=>(aH x:Int)) (v:Int) with
    |true=>
     rw[ah] at aY;clear ae c y s q r hk af d al E ag ah
     go_wp2_with (go_at_call 97;refine(aX.o _).mono ?_;rintro e w' ⟨rfl,rfl⟩)
     exact yl S.o rfl rfl rfl rfl λ W' c=>⟨rfl,c⟩
    |false=>
     rw[ah] at aY s;obtain⟨bq,br,aZ,oZ⟩:=M.o.put (by unfold maxLen;have:=u.o;omega) ag;have z:=U (w_ y (w_ af (w_ aZ (w_ oZ (w_ E (show uM n f k=false by rw[s];rfl))))));clear ae c y s q r hk af d al E ag ah aZ oZ aK aL aM aN aO aP aR aS v0 v1 v2 v3 f0 f1 f2 f3 f4 f5 f6 f7 g0 g1 g2 g3
     go_wp2_with (go_at_call 97;refine(aX.o _).mono ?_;rintro e w' ⟨rfl,rfl⟩)
     go_roundw
     case rel=>
      refine⟨k+1,by go_num,by have:=aT.o;omega,?_,λ j aF=>?_,?_⟩
      ·have h1:=z.o.2.2.1;rw[s9 f k z.o.2.1,z.o.1,Zn];show lY _ _ _ (_++[(aH x:Int)]);rw[z.o.2.2.2.2.1];exact h1
      ·rcases Z3 j k with h1|h1
       ·exact aJ.o j h1
       ·obtain rfl:j=k:=by omega
        exact z.o.2.2.2.2.2
      ·have h1:=z.o.2.2.2.1;exact⟨S.o.bp.kept h1 (λ e=>by injection e with e;have:=ad.o;omega),S.o.bg.kept h1 (λ e=>by injection e with e;have:=ad.o;omega),S.o.gd.kept h1 (λ e=>by injection e with e;have:=ad.o;omega),xx S.o.lM h1 S.o.lM.size (λ g e=>by injection e with e;have:=ad.o;omega)⟩
     case measure=>have:=aT.o;simp[intOf];omega
  ·have bf:¬(k:Int)<(nq:Int):=by omega
   have a6:vl n f=true:=Hp λ j aF=>aJ.o j (by have:=u.o.2.1;omega)
   have d:A<0\/¬A<0/\(1099511627776:Int)<A:=by
    have h1:=u.o.2.2.2;unfold vo at h1;rw[a6,Bool.true_and,ZW,decide_eq_false_iff_not,decide_eq_false_iff_not] at h1;omega
   clear a6 r hk;rcases d with d|⟨d,aU⟩
   ·go_wp2_with fail
    exact yl S.o rfl rfl rfl rfl λ W' c=>⟨rfl,c⟩
   ·go_wp2_with fail
    exact yl S.o rfl rfl rfl rfl λ W' c=>⟨rfl,c⟩
end
section
open Go.RowKit Go.Shelf Go.Lib
theorem OB(w:World)(ty:TypeId)(base:Nat)(v:Value)(n:Nat)(xs:List Bool)(e:w.ownsRow base 4 1 v n (nO xs))
  (b c:Nat) (z:Bool) (f:w.cell? ⟨b,0,none⟩=some (.bool z)) (o:n<=1000000) (g:base<=w.heap.size):
  ∃v' w',(Z9 #[28,28] ty #[v,.slice (some ⟨b,0,none⟩) 1 c]).run x_ w=.ok v' w'/\oa w base 4 v (n+1) (nO (xs++[z])) v' w':=by
 obtain⟨i0,i,k,l,m⟩:=info_parts Aw;obtain⟨v',w',g1,g2,g3,_,g5⟩:=Zd (P:=x_) w base 28 ty 4 i0 (.bool false) 1 1 Tryz.underlying28 i k l m rfl (by decide) v n (nO xs) e ⟨b,0,none⟩ 1 c [.bool z] rfl (λ j u d=>by
  have p:j<1:=(n_.1 d).1;obtain rfl:j=0:=by omega
  simp only[z_,c_] at d;subst d;rw[Zm];exact f) (λ u hu=>by rw[v_.1 hu];rfl) (by unfold maxLen;omega) (by omega) g
 exact⟨v',w',g1,by unfold nO;rw[Zn];exact g2,g3,g5⟩
structure AQ(w0:World)(base iO:Nat)(mA mB mL:Value)(jB no aJ:Nat)(xs os:List Int)(mC:List Bool)(y:Int):Prop where
 a:w0.ownsRow base 3 1 mA jB (gX xs)
 o:w0.ownsRow base 3 1 mB no (gX os)
 p:w0.ownsRow base 4 1 mL aJ (nO mC)
 b:aO w0 iO 44 [mA,mB,.int .i64 y]
 AR:mA.ownBlock≠some iO
 AS:mB.ownBlock≠some iO
 AT:mL.ownBlock≠some iO
 AU:∀g,mA.ownBlock=some g->mB.ownBlock≠some g
 ap:∀g,mA.ownBlock=some g->mL.ownBlock≠some g
 op:∀g,mB.ownBlock=some g->mL.ownBlock≠some g
 jB:jB<=100000
 no:no<=100000
 aJ:aJ<=100000
 oK:base<=w0.heap.size
def qB(w0:World)(base iO:Nat)(mA mB mL:Value)(jB no aJ:Nat)(xs os:List Int)(mC:List Bool)(y:Int)(L:Nat->Bool)(w:World):Prop:=
 aD (λ b=>b<w0.heap.size/\b≠iO/\mA.ownBlock≠some b/\mB.ownBlock≠some b/\mL.ownBlock≠some b) w0 w/\
 (L 3=false->w.ownsRow base 3 1 mA jB (gX xs))/\(L 8=false->w.ownsRow base 3 1 mB no (gX os))/\(L 11=false->w.ownsRow base 4 1 mL aJ (nO mC))/\
 ∃v0 v1,aO w iO 44 [v0,v1,.int .i64 y]/\(L 13=false->v0=mA)/\(L 15=false->v1=mB)
def rE(i:Nat):Bool:=i==2||i==3||i==7||i==8||i==10||i==11||i==13||i==15
theorem CG(h:rE i=true):i=2\/i=3\/i=7\/i=8\/i=10\/i=11\/i=13\/i=15:=by simpa[rE,or_assoc] using h
def o4(jF base iO:Nat)(mA mB mL:Value)(jB no aJ:Nat)(xs os:List Int)(mC:List Bool)(v:Int)(i:Nat)(p:Nat×Nat)(vals:Nat->Value)(w:World):Prop:=
 if i=2 then∃A c,vals 2=.slice A 1 c/\aQ w A 1 c [0]/\∀b,A.map (·.block)=some b->jF<=b
 else if i=7 then∃A c,vals 7=.slice A 1 c/\aQ w A 1 c [v]/\∀b,A.map (·.block)=some b->jF<=b
 else if i=10 then∃b c,vals 10=.slice (some ⟨b,0,none⟩) 1 c/\w.cell? ⟨b,0,none⟩=some (.bool false)/\jF<=b/\b<w.heap.size
 else if i=3 then w.ownsRow base 3 1 (vals 3) (jB+1) (gX (xs++[0]))/\∀g,(vals 3).ownBlock=some g->mA.ownBlock=some g\/jF<=g/\p.1<=g/\g<p.2
 else if i=8 then w.ownsRow base 3 1 (vals 8) (no+1) (gX (os++[v]))/\∀g,(vals 8).ownBlock=some g->mB.ownBlock=some g\/jF<=g/\p.1<=g/\g<p.2
 else if i=11 then w.ownsRow base 4 1 (vals 11) (aJ+1) (nO (mC++[false]))/\∀g,(vals 11).ownBlock=some g->mL.ownBlock=some g\/jF<=g/\p.1<=g/\g<p.2
 else if i=13 then w.cell? ⟨iO,0,none⟩=some (vals 3)
 else w.cell? ⟨iO,1,none⟩=some (vals 8)
section
variable {jF base iO:Nat}{mA mB mL:Value}{jB no aJ:Nat}{xs os:List Int}{mC:List Bool}{y v:Int}{w w' w0:World}{i:Nat}{p:Nat×Nat}{vals:Nat->Value}{L:Nat->Bool}
def OC(jF iO:Nat)(mA mB mL:Value)(i b:Nat):Prop:=if i=2\/i=7\/i=10 then jF<=b else if i=3 then mA.ownBlock=some b\/jF<=b else if i=8 then mB.ownBlock=some b\/jF<=b else if i=11 then mL.ownBlock=some b\/jF<=b else b=iO
theorem o4.keep(hs:rE i=true)(j:w.heap.size<=w'.heap.size)(f:∀b,b<w.heap.size->OC jF iO mA mB mL i b->w'.heap[b]? =w.heap[b]?)(k:iO<w.heap.size)(h:o4 jF base iO mA mB mL jB no aJ xs os mC v i p vals w):o4 jF base iO mA mB mL jB no aJ xs os mC v i p vals w':=by
 rcases CG hs with rfl|rfl|rfl|rfl|rfl|rfl|rfl|rfl
 ·obtain⟨A,c,h1,d,g⟩:=h;exact⟨A,c,h1,d.xk j (λ b e=>f b (d.lt b e (by omega)) (g b e)),g⟩
 ·obtain⟨h1,d⟩:=h;exact⟨mP h1 (λ b e=>f b (h1.lt b e).2 ((d b e).imp id (·.1))),d⟩
 ·obtain⟨A,c,h1,d,g⟩:=h;exact⟨A,c,h1,d.xk j (λ b e=>f b (d.lt b e (by omega)) (g b e)),g⟩
 ·obtain⟨h1,d⟩:=h;exact⟨mP h1 (λ b e=>f b (h1.lt b e).2 ((d b e).imp id (·.1))),d⟩
 ·obtain⟨b,c,h1,d,g,l⟩:=h;exact⟨b,c,h1,(Zj (a:=⟨b,0,none⟩) (f b l g)).trans d,g,t_ l j⟩
 ·obtain⟨h1,d⟩:=h;exact⟨mP h1 (λ b e=>f b (h1.lt b e).2 ((d b e).imp id (·.1))),d⟩
 ·have h:w.cell? ⟨iO,0,none⟩=some (vals 3):=h;exact(Zj (a:=⟨iO,0,none⟩) (f iO k rfl)).trans h
 ·have h:w.cell? ⟨iO,1,none⟩=some (vals 8):=h;exact(Zj (a:=⟨iO,1,none⟩) (f iO k rfl)).trans h
theorem o4.more{cs:List Value}(d:iO<w0.heap.size):∀j p u w w',w0.heap.size<=w.heap.size->Below w.heap.size w w'->p.2<=w.heap.size->nK cs rE (o4 jF base iO mA mB mL jB no aJ xs os mC v) j p u w->nK cs rE (o4 jF base iO mA mB mL jB no aJ xs os mC v) j p u w':=λ j p u w w' hw c hp h=>by
 unfold nK at*;split at h
 ·rename_i e;rw[if_pos e];exact h.keep e c.size (λ b h1 _=>c.block b h1) (by omega)
 ·rename_i e;rw[if_neg e];exact h
theorem o4.zz{ws:List (List Nat)}{cs:List Value}(j:pn ws 8 13 3=true)(k:pn ws 8 15 8=true):yh ws (nK cs rE (o4 jF base iO mA mB mL jB no aJ xs os mC v)):=by
 refine nK.zz ?_;intro i p vals sq w hs d h;rcases CG hs with rfl|rfl|rfl|rfl|rfl|rfl|rfl|rfl
 ·obtain⟨A,c,h1,f⟩:=h;exact⟨A,c,(d 2 (.inl rfl)).symm.trans h1,f⟩
 ·have e:=d 3 (.inl rfl);have h:w.ownsRow base 3 1 (vals 3) (jB+1) (gX (xs++[0]))/\∀g,(vals 3).ownBlock=some g->mA.ownBlock=some g\/jF<=g/\p.1<=g/\g<p.2:=h;rw[e] at h;exact h
 ·obtain⟨A,c,h1,f⟩:=h;exact⟨A,c,(d 7 (.inl rfl)).symm.trans h1,f⟩
 ·have e:=d 8 (.inl rfl);have h:w.ownsRow base 3 1 (vals 8) (no+1) (gX (os++[v]))/\∀g,(vals 8).ownBlock=some g->mB.ownBlock=some g\/jF<=g/\p.1<=g/\g<p.2:=h;rw[e] at h;exact h
 ·obtain⟨b,c,h1,f⟩:=h;exact⟨b,c,(d 10 (.inl rfl)).symm.trans h1,f⟩
 ·have e:=d 11 (.inl rfl);have h:w.ownsRow base 4 1 (vals 11) (aJ+1) (nO (mC++[false]))/\∀g,(vals 11).ownBlock=some g->mL.ownBlock=some g\/jF<=g/\p.1<=g/\g<p.2:=h;rw[e] at h;exact h
 ·have h:w.cell? ⟨iO,0,none⟩=some (vals 3):=h;rw[d 3 (.inr j)] at h;exact h
 ·have h:w.cell? ⟨iO,1,none⟩=some (vals 8):=h;rw[d 8 (.inr k)] at h;exact h
theorem qB.mono(hs:rE i=false)(h:qB w0 base iO mA mB mL jB no aJ xs os mC y L w):qB w0 base iO mA mB mL jB no aJ xs os mC y (k9 L i) w:=by
 obtain⟨h1,b,c,d,v0,v1,f,g,k⟩:=h;have up:∀j,k9 L i j=false->L j=false:=λ j h=>by
  unfold k9 at h;split at h
  ·cases h
  ·exact h
 exact⟨h1,λ e=>b (up _ e),λ e=>c (up _ e),λ e=>d (up _ e),v0,v1,f,λ e=>g (up _ e),λ e=>k (up _ e)⟩
variable (G:AQ w0 base iO mA mB mL jB no aJ xs os mC y)
include G
theorem AQ.Ep:(∀g,mA.ownBlock=some g->g<w0.heap.size)/\(∀g,mB.ownBlock=some g->g<w0.heap.size)/\∀g,mL.ownBlock=some g->g<w0.heap.size:=
 ⟨λ g e=>(G.a.lt g e).2,λ g e=>(G.o.lt g e).2,λ g e=>(G.p.lt g e).2⟩
theorem qB.below(h:qB w0 base iO mA mB mL jB no aJ xs os mC y L w)(c:Below w.heap.size w w')(k:Nat):qB w0 base iO mA mB mL jB no aJ xs os mC y (k9 L k) w':=by
 have _:=G;have up:∀j,k9 L k j=false->L j=false:=λ j h=>by
  unfold k9 at h;split at h
  ·cases h
  ·exact h
 obtain⟨h1,d,f,g,v0,v1,i,l,m⟩:=h;exact⟨h1.trans ⟨c.os,c.tape,c.output,c.size,λ b n=>c.block b (t_ n.1 h1.size)⟩,λ e=>lR (d (up _ e)) c,λ e=>lR (f (up _ e)) c,λ e=>lR (g (up _ e)) c,v0,v1,i.below c,λ e=>l (up _ e),λ e=>m (up _ e)⟩
def HT(mA mB mL:Value)(i:Nat):Option Nat:=if i=3 then mA.ownBlock else if i=8 then mB.ownBlock else mL.ownBlock
omit G in
theorem uO{L:Nat->Bool}{k j:Nat}(h:k9 L k j=false):j≠k/\L j=false:=by
 unfold k9 at h;split at h
 ·cases h
 ·rename_i e;exact⟨e,h⟩
theorem qB.app(j:i=3\/i=8\/i=11)(h:qB w0 base iO mA mB mL jB no aJ xs os mC y L w)(d:w.grownBy w' (HT mA mB mL i)):qB w0 base iO mA mB mL jB no aJ xs os mC y (k9 L i) w':=by
 obtain⟨h1,n,o,p,v0,v1,q,r,s⟩:=h;have hs:=h1.size;obtain⟨t,u,v⟩:=G.Ep;have f:aD (λ b=>b<w0.heap.size/\b≠iO/\mA.ownBlock≠some b/\mB.ownBlock≠some b/\mL.ownBlock≠some b) w w':=⟨d.os,d.tape,d.output,d.size,λ b m=>d.block b (by omega) (λ e=>by
  rcases j with rfl|rfl|rfl
  ·exact m.2.2.1 e.symm
  ·exact m.2.2.2.1 e.symm
  ·exact m.2.2.2.2 e.symm)⟩
 have z:aO w' iO 44 [v0,v1,.int .i64 y]:=q.kept d (λ e=>by
  rcases j with rfl|rfl|rfl
  ·exact G.AR e.symm
  ·exact G.AS e.symm
  ·exact G.AT e.symm)
 refine⟨h1.trans f,λ e=>?_,λ e=>?_,λ e=>?_,v0,v1,z,λ e=>r (uO e).2,λ e=>s (uO e).2⟩
 ·obtain⟨k,l⟩:=uO e;refine mP (n l) (λ b c=>d.block b (by have:=t b c;omega) (λ g=>?_));rcases j with rfl|rfl|rfl
  ·exact k rfl
  ·exact G.AU b c g.symm
  ·exact G.ap b c g.symm
 ·obtain⟨k,l⟩:=uO e;refine mP (o l) (λ b c=>d.block b (by have:=u b c;omega) (λ g=>?_));rcases j with rfl|rfl|rfl
  ·exact G.AU b g.symm c
  ·exact k rfl
  ·exact G.op b c g.symm
 ·obtain⟨k,l⟩:=uO e;refine mP (p l) (λ b c=>d.block b (by have:=v b c;omega) (λ g=>?_));rcases j with rfl|rfl|rfl
  ·exact G.ap b g.symm c
  ·exact G.op b g.symm c
  ·exact k rfl
theorem o4.app(d:i=3\/i=8\/i=11){j:Nat}(f:j≠i)(hs:rE j=true)(hw:w0.heap.size<=w.heap.size)(g:w.grownBy w' (HT mA mB mL i))(h:o4 w0.heap.size base iO mA mB mL jB no aJ xs os mC v j p vals w):o4 w0.heap.size base iO mA mB mL jB no aJ xs os mC v j p vals w':=by
 obtain⟨l,m,n⟩:=G.Ep;have lb:=G.b.lt;refine h.keep hs g.size (λ b o c=>g.block b o λ e=>?_) (by omega);have r:b<w0.heap.size:=by
  rcases d with rfl|rfl|rfl
  ·exact l b e.symm
  ·exact m b e.symm
  ·exact n b e.symm
 have k:b≠iO:=λ q=>by
  subst q;rcases d with rfl|rfl|rfl
  ·exact G.AR e.symm
  ·exact G.AS e.symm
  ·exact G.AT e.symm
 rcases CG hs with rfl|rfl|rfl|rfl|rfl|rfl|rfl|rfl
 ·have c:w0.heap.size<=b:=c;omega
 ·have c:mA.ownBlock=some b\/w0.heap.size<=b:=c;rcases c with h1|h1
  ·rcases d with rfl|rfl|rfl
   ·exact f rfl
   ·exact G.AU b h1 e.symm
   ·exact G.ap b h1 e.symm
  ·omega
 ·have c:w0.heap.size<=b:=c;omega
 ·have c:mB.ownBlock=some b\/w0.heap.size<=b:=c;rcases c with h1|h1
  ·rcases d with rfl|rfl|rfl
   ·exact G.AU b e.symm h1
   ·exact f rfl
   ·exact G.op b h1 e.symm
  ·omega
 ·have c:w0.heap.size<=b:=c;omega
 ·have c:mL.ownBlock=some b\/w0.heap.size<=b:=c;rcases c with h1|h1
  ·rcases d with rfl|rfl|rfl
   ·exact G.ap b e.symm h1
   ·exact G.op b e.symm h1
   ·exact f rfl
  ·omega
 ·exact k c
 ·exact k c
theorem qB.put(j:i=13\/i=15)(h:qB w0 base iO mA mB mL jB no aJ xs os mC y L w)(u:Value):qB w0 base iO mA mB mL jB no aJ xs os mC y (k9 L i) (w.setCell ⟨iO,if i=13 then 0 else 1,none⟩ u):=by
 obtain⟨h1,l,m,n,v0,v1,g,o,p⟩:=h;have f:∀(k:Nat)(b:Nat),b≠iO->(w.setCell ⟨iO,k,none⟩ u).heap[b]? =w.heap[b]? :=λ k b q=>Below.heap_setCell _ _ _ _ q
 refine⟨h1.trans (aD.set iO _ u (λ r=>r.2.1 rfl)),λ e=>mP (l (uO e).2) (λ b c=>f _ b (λ d=>G.AR (d▸c))),λ e=>mP (m (uO e).2) (λ b c=>f _ b (λ d=>G.AS (d▸c))),λ e=>mP (n (uO e).2) (λ b c=>f _ b (λ d=>G.AT (d▸c))),?_⟩;rcases j with rfl|rfl
 ·exact⟨u,v1,g.set 0 u,λ e=>absurd rfl (uO e).1,λ e=>p (uO e).2⟩
 ·exact⟨v0,u,g.set 1 u,λ e=>o (uO e).2,λ e=>absurd rfl (uO e).1⟩
theorem o4.put{j:Nat}(f:j≠13)(g:j≠15)(hs:rE j=true)(hw:w0.heap.size<=w.heap.size)(k:Nat)(u:Value)(h:o4 w0.heap.size base iO mA mB mL jB no aJ xs os mC v j p vals w):o4 w0.heap.size base iO mA mB mL jB no aJ xs os mC v j p vals (w.setCell ⟨iO,k,none⟩ u):=by
 have lb:=G.b.lt;have d:=kK w iO k u;refine h.keep hs d.size (λ b i c=>d.block b i λ e=>?_) (by omega);injection e with e
 subst e;rcases CG hs with rfl|rfl|rfl|rfl|rfl|rfl|rfl|rfl
 ·have c:w0.heap.size<=b:=c;omega
 ·exact Or.elim (show mA.ownBlock=some b\/w0.heap.size<=b from c) G.AR (by omega)
 ·have c:w0.heap.size<=b:=c;omega
 ·exact Or.elim (show mB.ownBlock=some b\/w0.heap.size<=b from c) G.AS (by omega)
 ·have c:w0.heap.size<=b:=c;omega
 ·exact Or.elim (show mL.ownBlock=some b\/w0.heap.size<=b from c) G.AT (by omega)
 ·exact f rfl
 ·exact g rfl
end
end
section
open Go.RowKit Go.Shelf Go.Lib
def oZ(d:Nat)(b no:Nat)(act ord:List Int)(e:Int)(i:Nat)(p:Nat×Nat)(vals:Nat->Value)(w:World):Prop:=
 if i=3 then∃A c,vals 3=.slice A b c/\w.ownsRow d 3 1 (.slice A b c) b (gX act)/\∀g,A.map (·.block)=some g->p.1<=g/\g<p.2
 else if i=7 then∃A c,vals 7=.slice A no c/\w.ownsRow d 3 1 (.slice A no c) no (gX ord)/\∀g,A.map (·.block)=some g->p.1<=g/\g<p.2
 else if i=11 then∃A c A' c',vals 3=.slice A b c/\vals 7=.slice A' no c'/\vals 11=.agg #[.slice A b c,.slice A' no c',.int .i64 e]
 else vals 12=.pointer (some ⟨p.1,0,none⟩)/\d<=p.1/\p.1<p.2/\aO w p.1 44 [.slice none 0 0,.slice none 0 0,.int .i64 0]
def tv(i:Nat):Bool:=i==3||i==7||i==11||i==12
theorem HU(h:tv i=true):i=3\/i=7\/i=11\/i=12:=by simpa[tv,or_assoc] using h
theorem oZ.more{jF jB no:Nat}{act ord:List Int}{aM:Int}:∀j p u w w',Below w.heap.size w w'->p.2<=w.heap.size->nK cs tv (oZ jF jB no act ord aM) j p u w->nK cs tv (oZ jF jB no act ord aM) j p u w':=λ j p u w w' f hp h=>by
 unfold nK at*;split at h
 ·rename_i e;rw[if_pos e];rcases HU e with rfl|rfl|rfl|rfl
  ·obtain⟨A,c,h1,b,d⟩:=h;exact⟨A,c,h1,lR b f,d⟩
  ·obtain⟨A,c,h1,b,d⟩:=h;exact⟨A,c,h1,lR b f,d⟩
  ·exact h
  ·obtain⟨h1,b,d,g⟩:=h;exact⟨h1,b,d,g.below f⟩
 ·rename_i e;rw[if_neg e];exact h
theorem oZ.zz{ws:List (List Nat)}{cs:List Value}{jF jB no:Nat}{act ord:List Int}{aM:Int}(e:pn ws 8 11 3=true)(f:pn ws 8 11 7=true):yh ws (nK cs tv (oZ jF jB no act ord aM)):=by
 refine nK.zz ?_;intro i p vals sq w hs b h;rcases HU hs with rfl|rfl|rfl|rfl
 ·obtain⟨A,c,h1,d⟩:=h;exact⟨A,c,(b 3 (.inl rfl)).symm.trans h1,d⟩
 ·obtain⟨A,c,h1,d⟩:=h;exact⟨A,c,(b 7 (.inl rfl)).symm.trans h1,d⟩
 ·obtain⟨A,c,A',c',h1,d,g⟩:=h;exact⟨A,c,A',c',(b 3 (.inr e)).symm.trans h1,(b 7 (.inr f)).symm.trans d,(b 11 (.inl rfl)).symm.trans g⟩
 ·exact⟨(b 12 (.inl rfl)).symm.trans h.1,h.2⟩
def rf(act:List Int)(k:Nat):List Int:=act++List.replicate k 0
def qC(n:Nat)(ord:List Int)(k:Nat):List Int:=ord++(List.range k).map λ j:Nat=>((n+1+j:Nat):Int)
def qD(b:List Bool)(k:Nat):List Bool:=b++List.replicate k false
theorem OD(act:List Int)(k:Nat):rf act (k+1)=rf act k++[0]:=by simp[rf,ZT,<-Zf]
theorem OE(n:Nat)(ord:List Int)(k:Nat):qC n ord (k+1)=qC n ord k++[((n+1+k:Nat):Int)]:=by simp[qC,List.range_succ,<-Zf]
theorem OF(b:List Bool)(k:Nat):qD b (k+1)=qD b k++[false]:=by simp[qD,ZT,<-Zf]
def OG(w:World)(t:iW)(n m:Nat)(act ord:List Int)(i:List Bool)(e:Ending)(W:World):Prop:=
 ∃(A:Option Addr)(c:Nat)(A':Option Addr)(c':Nat)(d:Option Addr)(f:Nat),e=.returned (sE ⟨m,t.g,t.l,⟨A,m+1,c⟩,⟨A',m,c'⟩,t.b,⟨d,m+1,f⟩,t.p⟩ 0)/\aQ W A (m+1) c (rf act (m-n))/\aQ W A' m c' (qC n ord (m-n))/\lB W d (m+1) f (qD i (m-n))/\Below w.heap.size w W/\(∀b,A.map (·.block)=some b->w.heap.size<=b)/\(∀b,A'.map (·.block)=some b->w.heap.size<=b)/\∀b,d.map (·.block)=some b->w.heap.size<=b
theorem OH{aP:Ending->World->Prop}{bg:Nat}{t:iW}(n:a.defers=[])(c:a.tmps.getD 4 undef=.pointer (some ⟨bg,0,none⟩))(d:a.tmps.getD 5 undef=.int .i64 lg)
  (o:aO W bg 47 t.L) (h:aP (.returned (sE t lg)) W):bodyPost x_ Tryz.f44 aP .ret a W:=by
 have b:=o.cell;have e:=b 0;have f:=b 1;have g:=b 2;have i:=b 3;have j:=b 4;have k:=b 5;have l:=b 6;have m:=b 7;simp only[iW.L,z_,y_] at e f g i j k l m;clear b;rw[s_] at c d;refine bodyPost_ret (v:=sE t lg) ?_ n h;simp[results,Tryz.results44,go_sem,c,d,e,f,g,i,j,k,l,m,iW.L,sE]
theorem OI(t:iW)(n m:Nat)(cX:n<=m)(hm:m<=60000)(bO:t.n=n)(act ord:List Int)(ar:List Bool)(w:World)(cm:aQ w t.a.A (n+1) t.a.c act)(ro:aQ w t.o.A n t.o.c ord)(cn:lB w t.h.A (n+1) t.h.c ar)(bP:t.a.n=n+1)(bQ:t.o.n=n)(bR:t.h.n=n+1)(cp:∀W,Below w.heap.size w W->Calls x_ 49 #[.agg t.L.toArray] W λ e w'=>e=.returned (.int .i64 0)/\Below W.heap.size W w'):
  Calls x_ 44 #[.agg t.L.toArray,.int .i64 m] w (OG w t n m act ord ar):=by
 have cY:=U cp;have ai:=U (w_ cm (w_ ro (w_ cn (w_ cX hm))));obtain⟨cZ,⟨az,aA,gc⟩,⟨aB,aC,lc⟩,⟨aE,c7,ac⟩,⟨aF,c8,aG⟩,H,⟨aW,da,aX⟩,⟨aH,aI,aJ⟩⟩:=t;replace bO:cZ=n:=bO;replace bP:c7=n+1:=bP;replace bQ:n=c8:=bQ.symm;replace bR:da=n+1:=bR;subst bQ;subst bO bP bR;clear cp cm ro cn;have g1:¬(m:Int)<(n:Int):=by omega
 have g2:¬(65536:Int)<(m:Int):=by omega
 unfold iW.L at*;dsimp only at*;go_enter Tryz.func44,Tryz.ntmps44
 go_upto_region 1 with fail
 have bf:=r7.init w [.int .i64 n,.slice az aA gc,.slice aB aC lc,.slice aE (n+1) ac,.slice aF n aG,.int .i64 H,.slice aW (n+1) aX,.slice aH aI aJ] n9;simp only[n9] at bf;generalize ((w.alloc (.cells #[.int .i64 n,.slice az aA gc,.slice aB aC lc,.slice aE (n+1) ac,.slice aF n aG,.int .i64 H,.slice aW (n+1) aX,.slice aH aI aJ] 47)).alloc (.cells #[.int .i64 0,.slice none 0 0,.slice none 0 0,.slice none 0 0,.slice none 0 0,.int .i64 0,.slice none 0 0,.slice none 0 0] 47))=cq at*;have q:=bf.bp.cell;have ad:=q 0;have aj:=q 1;have ak:=q 2;have ae:=q 3;have af:=q 4;have ag:=q 5;have al:=q 6;have an:=q 7;simp only[z_,y_] at ad aj ak ae af ag al an;clear q;have db:=U (cY.o cq bf.lM);have dc:bI (r7 w cq [.int .i64 n,.slice az aA gc,.slice aB aC lc,.slice aE (n+1) ac,.slice aF n aG,.int .i64 H,.slice aW (n+1) aX,.slice aH aI aJ] n9):=U bf;clear bf
 go_upto_region 4 with(go_at_call 49;refine db.o.mono ?_;rintro e E ⟨rfl,cr⟩;have a':=U (dc.o.below cr);clear ad aj ak ae af ag al an cr)
 have q:=a'.o.bp.cell;have ad:=q 0;have aj:=q 1;have ak:=q 2;have ae:=q 3;have af:=q 4;have ag:=q 5;have al:=q 6;have an:=q 7;simp only[z_,y_] at ad aj ak ae af ag al an;clear q
 go_upto_region 6 with fail
 have bz:w.heap.size<E.heap.size:=a'.o.bp.lt;obtain⟨cs,Y⟩:∃cs:List Value,cs=[.pointer (some ⟨w.heap.size,3,none⟩),.pointer (some ⟨w.heap.size,3,none⟩),.slice aE (n+1) ac,undef,.pointer (some ⟨w.heap.size,3,none⟩),.pointer (some ⟨w.heap.size,4,none⟩),.slice aF n aG,undef,.pointer (some ⟨w.heap.size,3,none⟩),.pointer (some ⟨w.heap.size,5,none⟩),.int .i64 H]:=⟨_,rfl⟩
 have dd:=ai.o.1.len;have de:=ai.o.2.1.len;refine Ol (tu Tryz.f44 6) 13 69 [some 25,some 26,some 27,some 28,some 29,some 30,some 31,some 32,some 33,some 34,some 35,some 36,some 7,none] _ [(2,.pointer (some ⟨w.heap.size,0,none⟩))] (λ w'=>Below E.heap.size E w') (nK cs tv (oZ E.heap.size (n+1) n act ord H)) (by kernel_rfl) (by kernel_rfl) (by kernel_rfl) rfl (by kernel_rfl) (by kernel_rfl) (by kernel_rfl) (by kernel_rfl) (by kernel_rfl) (by kernel_rfl) rfl ⟨rfl,trivial⟩ (oZ.zz (by kernel_rfl) (by kernel_rfl)) (Zx _ _).drew (AM.ok (by kernel_rfl) ?_) _ rfl ?_
 ·refine⟨?_,?_,?_,⟨λ _=>?k3,λ h=>(by cases h)⟩,?_,?_,?_,⟨λ _=>?k7,λ h=>(by cases h)⟩,?_,?_,?_,⟨λ _=>?k11,λ h=>(by cases h)⟩,⟨λ _=>?k12,λ h=>(by cases h)⟩,trivial⟩
  case k3=>
   intro vals s w' C f d M hp au;have D:C (.tmp 27)=vals 2:=(d.1 rfl).2 _ rfl;have f2:vals 2=.slice aE (n+1) ac:=by have:=(d.1 rfl).1 (.inl rfl);rw[Y] at this;exact this
   refine va 81 #[.tmp 27] #[25] rfl Ar hp ?_;simp only[l_,e_,f_,D,f2];refine(w9 aE (n+1) ac act w' ((ai.o.1.below a'.o.lM).below f)).mono ?_;rintro e P ⟨bh,c6,rfl,aY,bj⟩;rw[dd] at aY⊢;exact⟨_,rfl,.more oZ.more bj (f.trans (bj.mono f.size)) (show nK cs tv (oZ E.heap.size (n+1) n act ord H) 3 (w'.heap.size,P.heap.size) _ P from⟨bh,c6,rfl,AO aY f.size,λ g e=>aY.lt g (by show(aq.v ⟨bh,n+1,c6⟩).ownBlock=_;rw[aq.own];exact e)⟩)⟩
  case k7=>
   intro vals s w' C f d M hp au;have D:C (.tmp 31)=vals 6:=(d.1 rfl).2 _ rfl;have f2:vals 6=.slice aF n aG:=by have:=(d.1 rfl).1 (.inl rfl);rw[Y] at this;exact this
   refine va 81 #[.tmp 31] #[25] rfl Ar hp ?_;simp only[l_,e_,f_,D,f2];refine(w9 aF n aG ord w' ((ai.o.2.1.below a'.o.lM).below f)).mono ?_;rintro e P ⟨bh,c6,rfl,aY,bj⟩;rw[de] at aY⊢;exact⟨_,rfl,.more oZ.more bj (f.trans (bj.mono f.size)) (show nK cs tv (oZ E.heap.size (n+1) n act ord H) 7 (w'.heap.size,P.heap.size) _ P from⟨bh,c6,rfl,AO aY f.size,λ g e=>aY.lt g (by show(aq.v ⟨bh,n,c6⟩).ownBlock=_;rw[aq.own];exact e)⟩)⟩
  case k11=>
   intro vals s w' C f d M hp au;have aS:C (.tmp 28)=vals 3:=(d.1 rfl).2 _ rfl;obtain⟨A,c,f3,_⟩:∃A c,vals 3=.slice A (n+1) c/\w'.ownsRow E.heap.size 3 1 (.slice A (n+1) c) (n+1) (gX act)/\∀g,A.map (·.block)=some g->(s 3).1<=g/\g<(s 3).2:=(d.1 rfl).1 (.inl rfl);have ct:C (.tmp 32)=vals 7:=(d.2.1 rfl).2 _ rfl;obtain⟨A',c',f7,_⟩:∃A c,vals 7=.slice A n c/\w'.ownsRow E.heap.size 3 1 (.slice A n c) n (gX ord)/\∀g,A.map (·.block)=some g->(s 7).1<=g/\g<(s 7).2:=(d.2.1 rfl).1 (.inl rfl);have cu:C (.tmp 35)=vals 10:=(d.2.2.1 rfl).2 _ rfl;have f10:vals 10=.int .i64 H:=by have:=(d.2.2.1 rfl).1 (.inl rfl);rw[Y] at this;exact this
   rw[f3] at aS;rw[f7] at ct;rw[f10] at cu;simp only[bn,execOp];simp[gF,go_sem,aS,ct,cu];exact .same f ⟨A,c,A',c',f3,f7,rfl⟩
  case k12=>
   intro vals s w' C f d M hp au;simp only[bn,execOp];simp[gF,go_sem];exact .more oZ.more (bK w' _) (f.trans ((bK w' _).mono f.size)) ⟨rfl,f.size,by simp,aO.new w' 44 [.slice none 0 0,.slice none 0 0,.int .i64 0]⟩
  all_goals
   refine⟨λ h=>(by cases h),λ _ C w' ba d M hp=>?_⟩;obtain⟨df,-⟩:=M;have d3:=(ba.cell (p:=⟨w.heap.size,3,none⟩) bz).trans ae;have d4:=(ba.cell (p:=⟨w.heap.size,4,none⟩) bz).trans af;have d5:=(ba.cell (p:=⟨w.heap.size,5,none⟩) bz).trans ag;rw[Y] at d⊢
   try simp[tY,qn,a_,tv] at d
   simp[bn,execOp,gF,go_sem,df,d,d3,d4,d5,hp.1]
 intro vals s P bA ao aK dh bk;obtain⟨aw,c3,ax,c4,f3,f7,f11⟩:∃A c A' c',vals 3=.slice A (n+1) c/\vals 7=.slice A' n c'/\vals 11=.agg #[.slice A (n+1) c,.slice A' n c',.int .i64 H]:=ao 11 (by omega);obtain⟨bB,bC,bS,cv,s3⟩:∃A c,vals 3=.slice A (n+1) c/\P.ownsRow E.heap.size 3 1 (.slice A (n+1) c) (n+1) (gX act)/\∀g,A.map (·.block)=some g->(s 3).1<=g/\g<(s 3).2:=ao 3 (by omega);obtain⟨dK,dL,bT,cw,iK⟩:∃A c,vals 7=.slice A n c/\P.ownsRow E.heap.size 3 1 (.slice A n c) n (gX ord)/\∀g,A.map (·.block)=some g->(s 7).1<=g/\g<(s 7).2:=ao 7 (by omega);obtain⟨f12,bl,bU,bo⟩:vals 12=.pointer (some ⟨(s 12).1,0,none⟩)/\E.heap.size<=(s 12).1/\(s 12).1<(s 12).2/\aO P (s 12).1 44 [.slice none 0 0,.slice none 0 0,.int .i64 0]:=ao 12 (by omega);rw[f3] at bS;rw[f7] at bT;simp only[Zg,true_and] at bS bT;obtain⟨rfl,rfl⟩:=bS;obtain⟨rfl,rfl⟩:=bT;have cx:=aK.2 3 7 (by decide) rfl rfl;have cy:=aK.2 3 12 (by decide) rfl rfl;have cz:=aK.2 7 12 (by decide) rfl rfl;obtain⟨r,bV⟩:∃b,(s 12).1=b:=⟨_,rfl⟩
 rw[bV] at f12 bl bo;have bW:∀g,aw.map (·.block)=some g->g≠r:=λ g e=>by have:=s3 g e;rcases cy with h|h<;>omega
 have bX:∀g,ax.map (·.block)=some g->g≠r:=λ g e=>by have:=iK g e;rcases cz with h|h<;>omega
 have n34:∀g,aw.map (·.block)=some g->ax.map (·.block)≠some g:=λ g e D=>by have h1:=s3 g e;have J:=iK g D;rcases cx with h|h<;>omega
 have y:=bo.cell;have bb:=y 0;have bc:=y 1;have bd:=y 2;simp only[z_,y_] at bb bc bd;have z:=bo.free;have z0:=z 0;have bD:=z 1;have z2:=z 2;have aZ:=((bo.set 0 (.slice aw (n+1) c3)).set 1 (.slice ax n c4)).set 2 (.int .i64 H);have ay:∀(u:World)(i:Nat)(v:Value),aD (λ b=>b≠r) u (u.setCell ⟨r,i,none⟩ v):=λ u i v=>aD.set _ i v (λ h=>h rfl)
 have f1:=((ay P 0 (.slice aw (n+1) c3)).trans (ay _ 1 (.slice ax n c4))).trans (ay _ 2 (.int .i64 H));have bY:Below E.heap.size E P:=bA;simp[oI,Act.put,f11,f12] at bk;subst bk;show bn _ _ (Oper.mk _ _ _ _ _ _) _ _;simp[bn,execOp,gF,go_sem,Act.eval,Act.put,bb,bc,bd,z0,bD,z2];have bE:=a'.o.below bY;have bZ:w.heap.size+1<E.heap.size:=a'.o.bg.lt;have cA:r7 w _ [.int .i64 n,.slice az aA gc,.slice aB aC lc,.slice aE (n+1) ac,.slice aF n aG,.int .i64 H,.slice aW (n+1) aX,.slice aH aI aJ] n9:=⟨f1.blk bE.bp (by omega),f1.blk bE.bg (by omega),bE.lM.trans ⟨f1.os,f1.tape,f1.output,f1.size,λ b F=>f1.keep b (by omega)⟩⟩
 have cB:=mP cv (λ b e=>f1.keep b (bW b (by have h1:(aq.v ⟨aw,n+1,c3⟩).ownBlock=some b:=e;rw[aq.own] at h1;exact h1)));have cC:=mP cw (λ b e=>f1.keep b (bX b (by have h1:(aq.v ⟨ax,n,c4⟩).ownBlock=some b:=e;rw[aq.own] at h1;exact h1)));have cD:=f1.size;have cE:=bY.size;generalize ((P.setCell ⟨r,0,none⟩ (.slice aw (n+1) c3)).setCell ⟨r,1,none⟩ (.slice ax n c4)).setCell ⟨r,2,none⟩ (.int .i64 H)=bq at*;have aZ:aO bq r 44 [.slice aw (n+1) c3,.slice ax n c4,.int .i64 H]:=aZ;have K:=U (w_ cA (w_ cB (w_ cC (w_ aZ (w_ bW (w_ bX (w_ n34 (w_ bl (w_ cD (w_ cE bZ))))))))));have vh:=U (Hg aW (n+1) aX ar bq (ai.o.2.2.1.below K.o.1.lM));clear cA cB cC aZ bW bX n34 bl cD cE bZ bE f1 ay bY bo y bb bc bd z z0 bD z2 cv cw s3 iK cy cz cx ao aK bA f3 f7 f11 f12 bV bU Y bz ad aj ak ae af ag al an;have q:=K.o.1.bp.cell;have ad:=q 0;have aj:=q 1;have ak:=q 2;have ae:=q 3;have af:=q 4;have ag:=q 5;have al:=q 6;have an:=q 7;simp only[z_,y_] at ad aj ak ae af ag al an;clear q
 go_upto_region 8 with(go_at_call 106;refine vh.o.mono ?_;rintro e dj ⟨b0,b1,rfl,ah,cF⟩;have aT:=U (w_ ah cF);clear ah cF ad aj ak ae af ag al an)
 have cG:=ai.o.2.2.1.len;rw[cG] at aT;rw[cG];have cH:=U (K.o.1.below aT.o.2);have ad:=cH.o.bp.cell 0;simp only[z_,y_] at ad;have wn:Zv.wrap ((n:Int)+1)=(n:Int)+1:=by rw[m_];have:=ai.o;omega
 have dk:bI (AQ dj E.heap.size r (.slice aw (n+1) c3) (.slice ax n c4) (.slice b0 (n+1) b1) (n+1) n (n+1) (rf act 0) (qC n ord 0) (qD ar 0) H):=U (by
  have bF:∀(A:Option Addr)(n c g:Nat),(o_ A n c).ownBlock=some g->A.map (·.block)=some g:=λ A n c g e=>by have h1:(aq.v ⟨A,n,c⟩).ownBlock=some g:=e;rw[aq.own] at h1;exact h1
  have a6:∀g,(o_ b0 (n+1) b1).ownBlock=some g->bq.heap.size<=g:=λ g e=>(aT.o.1.lt g e).1
  have dm:∀g,(o_ aw (n+1) c3).ownBlock=some g->g<bq.heap.size:=λ g e=>(K.o.2.1.lt g e).2
  have dn:∀g,(o_ ax n c4).ownBlock=some g->g<bq.heap.size:=λ g e=>(K.o.2.2.1.lt g e).2
  have bV:=K.o.2.2.2.1.lt;have cI:=ai.o.2.2.2;refine⟨by unfold rf;rw[List.replicate_zero,Z_];exact lR K.o.2.1 aT.o.2,by unfold qC;rw[List.range_zero,f_,Z_];exact lR K.o.2.2.1 aT.o.2,by unfold qD;rw[List.replicate_zero,Z_];exact AO aT.o.1 (by have:=K.o.2.2.2.2.2.2.2;omega),K.o.2.2.2.1.below aT.o.2,λ e=>K.o.2.2.2.2.1 r (bF _ _ _ _ e) rfl,λ e=>K.o.2.2.2.2.2.1 r (bF _ _ _ _ e) rfl,λ e=>by have:=a6 r e;omega,λ g e D=>K.o.2.2.2.2.2.2.1 g (bF _ _ _ _ e) (bF _ _ _ _ D),λ g e D=>by have:=a6 g D;have:=dm g e;omega,λ g e D=>by have:=a6 g D;have:=dn g e;omega,by omega,by omega,by omega,by have:=aT.o.2.size;have:=K.o.2.2.2.2.2.2.2;omega⟩)
 go_wp2_with fail
 go_loopw [9,8] (λ i p W=>∃(k:Nat)(Q:Option Addr)(R:Nat)(T:Option Addr)(co:Nat)(N:Option Addr)(O:Nat),i=.int .i64 ((n+1+k:Nat):Int)/\n+k<=m/\p=.slice N (n+1+k) O/\AQ W E.heap.size r (.slice Q (n+1+k) R) (.slice T (n+k) co) (.slice N (n+1+k) O) (n+1+k) (n+k) (n+1+k) (rf act k) (qC n ord k) (qD ar k) H/\r7 w W [.int .i64 n,.slice az aA gc,.slice aB aC lc,.slice aE (n+1) ac,.slice aF n aG,.int .i64 H,.slice aW (n+1) aX,.slice aH aI aJ] n9) (λ i _ _=>m+1-(intOf i).toNat)
 case atStart=>exact⟨0,aw,c3,ax,c4,b0,b1,rfl,ai.o.2.2.2.1,rfl,dk.o,cH.o⟩
 case round=>
  obtain⟨k,Q,R,T,co,N,O,rfl,hk,rfl,b2,ba⟩:=hrel;have G:=U b2;have S:=U ba;have dM:=ai.o.2.2.2.2;have y:=b2.b.cell;have bb:=y 0;have bc:=y 1;have bd:=y 2;simp only[z_,y_] at bb bc bd;clear b2 ba y
  by_cases a6:n+1+k<=m
  ·have bG:((n+1+k:Nat):Int)<=(m:Int):=by omega
   have d1:decide (((n+1+k:Nat):Int)<=(m:Int))=true:=decide_eq_true bG;have a7:=U a6;obtain⟨v,b3⟩:∃v:Int,((n+1+k:Nat):Int)=v:=⟨_,rfl⟩
   rw[b3] at bG d1⊢;have bH:=U b3;have b4:r<wr.heap.size:=G.o.b.lt;have dN:E.heap.size<=r:=K.o.2.2.2.2.2.2.2.1;obtain⟨cs,Y⟩:∃cs:List Value,cs=[.pointer (some ⟨r,0,none⟩),.slice Q (n+1+k) R,undef,undef,.pointer (some ⟨r,1,none⟩),.slice T (n+k) co,.int .i64 v,undef,undef,.slice N (n+1+k) O,undef,undef,.pointer (some ⟨r,0,none⟩),undef,.pointer (some ⟨r,1,none⟩)]:=⟨_,rfl⟩
   clear a6 hk b3
   go_upto_region 11 with fail
   have aL:∀{i:Nat}{p:Nat×Nat}{vals:Nat->Value}{w':World},rE i=true->o4 wr.heap.size E.heap.size r (.slice Q (n+1+k) R) (.slice T (n+k) co) (.slice N (n+1+k) O) (n+1+k) (n+k) (n+1+k) (rf act k) (qC n ord k) (qD ar k) v i p vals w'->nK cs rE (o4 wr.heap.size E.heap.size r (.slice Q (n+1+k) R) (.slice T (n+k) co) (.slice N (n+1+k) O) (n+1+k) (n+k) (n+1+k) (rf act k) (qC n ord k) (qD ar k) v) i p vals w':=λ hs h=>by unfold nK;rw[if_pos hs];exact h
   refine HN (tu Tryz.f44 11) 16 69 [some 48,some 49,some 50,some 51,some 52,some 53,some 54,some 55,some 56,some 57,some 58,some 59,some 60,none,some 61,none,some 8] _ [(7,.pointer (some ⟨r,0,none⟩)),(9,.int .i64 v),(8,.slice N (n+1+k) O)] (qB wr E.heap.size r (.slice Q (n+1+k) R) (.slice T (n+k) co) (.slice N (n+1+k) O) (n+1+k) (n+k) (n+1+k) (rf act k) (qC n ord k) (qD ar k) H) (nK cs rE (o4 wr.heap.size E.heap.size r (.slice Q (n+1+k) R) (.slice T (n+k) co) (.slice N (n+1+k) O) (n+1+k) (n+k) (n+1+k) (rf act k) (qC n ord k) (qD ar k) v)) (by kernel_rfl) (by kernel_rfl) (by kernel_rfl) rfl (by kernel_rfl) (by kernel_rfl) (by kernel_rfl) (by kernel_rfl) (by kernel_rfl) (by kernel_rfl) rfl ⟨rfl,rfl,rfl,trivial⟩ (o4.zz (by kernel_rfl) (by kernel_rfl)) ⟨aD.drew,λ _=>lR G.o.a (Zx _ _).drew,λ _=>lR G.o.o (Zx _ _).drew,λ _=>lR G.o.p (Zx _ _).drew,_,_,G.o.b.below (Zx _ _).drew,λ _=>rfl,λ _=>rfl⟩ (AN.ok (λ L i w' hs h=>h.mono hs) ?_) _ rfl ?_
   ·refine⟨?c0,?c1,⟨λ _=>?k2,λ h=>(by cases h)⟩,⟨λ _=>?k3,λ h=>(by cases h)⟩,?c4,?c5,?c6,⟨λ _=>?k7,λ h=>(by cases h)⟩,⟨λ _=>?k8,λ h=>(by cases h)⟩,?c9,⟨λ _=>?k10,λ h=>(by cases h)⟩,⟨λ _=>?k11,λ h=>(by cases h)⟩,?c12,⟨λ _=>?k13,λ h=>(by cases h)⟩,?c14,⟨λ _=>?k15,λ h=>(by cases h)⟩,trivial⟩
    case k2=>
     intro L vals s w' C f V hC d M hp au;have aa:=f.1.size;simp only[bn,execOp];simp[gF,go_sem,hp.1];have F:=bK w' (.cells #[.int .i64 0] 3);exact⟨qB.below G.o f F 2,F.size,aL rfl ⟨_,_,rfl,aQ.lit w' [0] 1 _ rfl rfl (by simp),λ b e=>by injection e with e;have e:w'.heap.size=b:=e;omega⟩,λ j _ _ br _ h=>o4.more b4 j _ _ _ _ aa F br h⟩
    case k7=>
     intro L vals s w' C f V hC d M hp au;have aa:=f.1.size;have cJ:C (.tmp 54)=vals 6:=(d.1 rfl).2 _ rfl;have f6:vals 6=.int .i64 v:=by have:=(d.1 rfl).1 (.inl rfl);rw[Y] at this;exact this
     rw[f6] at cJ;simp only[bn,execOp];simp[gF,go_sem,hp.1,cJ];have F:=bK w' (.cells #[.int .i64 v] 3);exact⟨qB.below G.o f F 7,F.size,aL rfl ⟨_,_,rfl,aQ.lit w' [v] 1 _ rfl rfl (by simp),λ b e=>by injection e with e;have e:w'.heap.size=b:=e;omega⟩,λ j _ _ br _ h=>o4.more b4 j _ _ _ _ aa F br h⟩
    case k10=>
     intro L vals s w' C f V hC d M hp au;have aa:=f.1.size;simp only[bn,execOp];simp[gF,go_sem,hp.1];have F:=bK w' (.cells #[.bool false] 4);exact⟨qB.below G.o f F 10,F.size,aL rfl ⟨_,_,rfl,(aO.new w' 4 [.bool false]).cell 0,aa,by simp⟩,λ j _ _ br _ h=>o4.more b4 j _ _ _ _ aa F br h⟩
    case k3=>
     intro L vals s w' C f V hC d M hp au;have aa:=f.1.size;have ab:C (.tmp 49)=vals 1:=(d.1 rfl).2 _ rfl;have f1:vals 1=.slice Q (n+1+k) R:=by have:=(d.1 rfl).1 (.inl rfl);rw[Y] at this;exact this
     have D:C (.tmp 50)=vals 2:=(d.2.1 rfl).2 _ rfl;obtain⟨b5,c2,f2,bs,_⟩:∃A c,vals 2=.slice A 1 c/\aQ w' A 1 c [0]/\∀b,A.map (·.block)=some b->wr.heap.size<=b:=(d.2.1 rfl).1 (.inl rfl);rw[f1] at ab;rw[f2] at D;obtain⟨v',cK,g1,g2⟩:=zG w' 25 E.heap.size _ _ _ (f.2.1 V) b5 1 c2 [0] bs (by have:=a7.o;omega) (by have:=G.o.oK;omega);simp only[bn,execOp,resolve,invoke,builtin,Zl,Zk,b_,l_,e_,f_,ab,D,g1,gF];refine⟨qB.app G.o (.inl rfl) f g2.2.1,g2.2.1.size,aL rfl ⟨g2.1,λ g e=>?_⟩,λ j aM _ _ _ h=>?_⟩
     ·have e:v'.ownBlock=some g:=e;rcases g2.2.2 with ah|ah
      ·exact .inl (ah.symm.trans e)
      ·exact .inr (by have bt:=(g2.1.lt g e).2;rw[ah] at e;injection e with e;exact⟨by omega,by show w'.heap.size<=g;omega,bt⟩)
     ·unfold nK at*;split at h
      ·rename_i I;rw[if_pos I];exact o4.app G.o (.inl rfl) aM I aa g2.2.1 h
      ·rename_i I;rw[if_neg I];exact h
    case k8=>
     intro L vals s w' C f V hC d M hp au;have aa:=f.1.size;have ab:C (.tmp 53)=vals 5:=(d.1 rfl).2 _ rfl;have f1:vals 5=.slice T (n+k) co:=by have:=(d.1 rfl).1 (.inl rfl);rw[Y] at this;exact this
     have D:C (.tmp 55)=vals 7:=(d.2.1 rfl).2 _ rfl;obtain⟨b5,c2,f2,bs,_⟩:∃A c,vals 7=.slice A 1 c/\aQ w' A 1 c [v]/\∀b,A.map (·.block)=some b->wr.heap.size<=b:=(d.2.1 rfl).1 (.inl rfl);rw[f1] at ab;rw[f2] at D;obtain⟨v',cK,g1,g2⟩:=zG w' 25 E.heap.size _ _ _ (f.2.2.1 V) b5 1 c2 [v] bs (by have:=a7.o;omega) (by have:=G.o.oK;omega);simp only[bn,execOp,resolve,invoke,builtin,Zl,Zk,b_,l_,e_,f_,ab,D,g1,gF];refine⟨qB.app G.o (.inr (.inl rfl)) f g2.2.1,g2.2.1.size,aL rfl ⟨g2.1,λ g e=>?_⟩,λ j aM _ _ _ h=>?_⟩
     ·have e:v'.ownBlock=some g:=e;rcases g2.2.2 with ah|ah
      ·exact .inl (ah.symm.trans e)
      ·exact .inr (by have bt:=(g2.1.lt g e).2;rw[ah] at e;injection e with e;exact⟨by omega,by show w'.heap.size<=g;omega,bt⟩)
     ·unfold nK at*;split at h
      ·rename_i I;rw[if_pos I];exact o4.app G.o (.inr (.inl rfl)) aM I aa g2.2.1 h
      ·rename_i I;rw[if_neg I];exact h
    case k11=>
     intro L vals s w' C f V hC d M hp au;have aa:=f.1.size;have ab:C (.tmp 57)=vals 9:=(d.1 rfl).2 _ rfl;have f1:vals 9=.slice N (n+1+k) O:=by have:=(d.1 rfl).1 (.inl rfl);rw[Y] at this;exact this
     have D:C (.tmp 58)=vals 10:=(d.2.1 rfl).2 _ rfl;obtain⟨dp,c2,f2,bs,_⟩:∃b c,vals 10=.slice (some ⟨b,0,none⟩) 1 c/\w'.cell? ⟨b,0,none⟩=some (.bool false)/\wr.heap.size<=b/\b<w'.heap.size:=(d.2.1 rfl).1 (.inl rfl);rw[f1] at ab;rw[f2] at D;obtain⟨v',cK,g1,g2⟩:=OB w' 28 E.heap.size _ _ _ (f.2.2.2.1 V) dp c2 false bs (by have:=a7.o;omega) (by have:=G.o.oK;omega);simp only[bn,execOp,resolve,invoke,builtin,Zl,Zk,b_,l_,e_,f_,ab,D,g1,gF];refine⟨qB.app G.o (.inr (.inr rfl)) f g2.2.1,g2.2.1.size,aL rfl ⟨g2.1,λ g e=>?_⟩,λ j aM _ _ _ h=>?_⟩
     ·have e:v'.ownBlock=some g:=e;rcases g2.2.2 with ah|ah
      ·exact .inl (ah.symm.trans e)
      ·exact .inr (by have bt:=(g2.1.lt g e).2;rw[ah] at e;injection e with e;exact⟨by omega,by show w'.heap.size<=g;omega,bt⟩)
     ·unfold nK at*;split at h
      ·rename_i I;rw[if_pos I];exact o4.app G.o (.inr (.inr rfl)) aM I aa g2.2.1 h
      ·rename_i I;rw[if_neg I];exact h
    case k13=>
     intro L vals s w' C f V hC d M hp au;have aa:=f.1.size;have aN:C (.tmp 60)=vals 12:=(d.1 rfl).2 _ rfl;have f0:vals 12=.pointer (some ⟨r,0,none⟩):=by have:=(d.1 rfl).1 (.inl rfl);rw[Y] at this;exact this
     have aS:C (.tmp 51)=vals 3:=(d.2.1 rfl).2 _ rfl;have f3:w'.ownsRow E.heap.size 3 1 (vals 3) (n+1+k+1) (gX (rf act k++[0]))/\∀g,(vals 3).ownBlock=some g->(o_ Q (n+1+k) R).ownBlock=some g\/wr.heap.size<=g/\(s 3).1<=g/\g<(s 3).2:=(d.2.1 rfl).1 (.inl rfl);obtain⟨⟨av,jJ,c9⟩,aP,dq⟩:=aq.lz f3.1;have aP:vals 3=.slice av jJ c9:=aP;rw[f0] at aN;rw[aP] at aS;obtain⟨v0,v1,Z,-,-⟩:=f.2.2.2.2;have d0:=Z.cell 0;have z0:=Z.free 0;simp only[z_] at d0;simp only[bn,execOp,aN,aS];simp[gF,go_sem,d0,z0];have b6:=kK w' r 0 (.slice av jJ c9);refine⟨qB.put G.o (.inl rfl) f _,b6.size,aL rfl ?_,λ j aM cL _ _ h=>?_⟩
     ·show(w'.setCell ⟨r,0,none⟩ (.slice av jJ c9)).cell? ⟨r,0,none⟩=some (vals 3);rw[aP];exact(Z.set 0 (.slice av jJ c9)).cell 0
     ·unfold nK at*;split at h
      ·rename_i I;rw[if_pos I];exact o4.put G.o aM (λ e=>by subst e;exact absurd cL (by decide)) I aa 0 _ h
      ·rename_i I;rw[if_neg I];exact h
    case k15=>
     intro L vals s w' C f V hC d M hp au;have aa:=f.1.size;have aN:C (.tmp 61)=vals 14:=(d.1 rfl).2 _ rfl;have f0:vals 14=.pointer (some ⟨r,1,none⟩):=by have:=(d.1 rfl).1 (.inl rfl);rw[Y] at this;exact this
     have aS:C (.tmp 56)=vals 8:=(d.2.1 rfl).2 _ rfl;have f3:w'.ownsRow E.heap.size 3 1 (vals 8) (n+k+1) (gX (qC n ord k++[v]))/\∀g,(vals 8).ownBlock=some g->(o_ T (n+k) co).ownBlock=some g\/wr.heap.size<=g/\(s 8).1<=g/\g<(s 8).2:=(d.2.1 rfl).1 (.inl rfl);obtain⟨⟨av,jJ,c9⟩,aP,dq⟩:=aq.lz f3.1;have aP:vals 8=.slice av jJ c9:=aP;rw[f0] at aN;rw[aP] at aS;obtain⟨v0,v1,Z,-,-⟩:=f.2.2.2.2;have bu:=Z.cell 1;have bD:=Z.free 1;simp only[y_,z_] at bu;simp only[bn,execOp,aN,aS];simp[gF,go_sem,bu,bD];have b6:=kK w' r 1 (.slice av jJ c9);refine⟨qB.put G.o (.inr rfl) f _,b6.size,aL rfl ?_,λ j aM cL _ _ h=>?_⟩
     ·show(w'.setCell ⟨r,1,none⟩ (.slice av jJ c9)).cell? ⟨r,1,none⟩=some (vals 8);rw[aP];exact(Z.set 1 (.slice av jJ c9)).cell 1
     ·unfold nK at*;split at h
      ·rename_i I;rw[if_pos I]
       by_cases bJ:j=13
       ·subst bJ;have h:w'.cell? ⟨r,0,none⟩=some (vals 3):=h;show(w'.setCell ⟨r,1,none⟩ (.slice av jJ c9)).cell? ⟨r,0,none⟩=some (vals 3);rw[<-h];exact((Z.set 1 (.slice av jJ c9)).cell 0).trans (Z.cell 0).symm
       ·exact o4.put G.o bJ aM I aa 1 _ h
      ·rename_i I;rw[if_neg I];exact h
    case c1=>
     refine⟨λ h=>(by cases h),λ _ C L w' f V hC d M hp=>?_⟩;obtain⟨v0,v1,Z,cM,aU⟩:=f.2.2.2.2;have bJ:L 13=false:=by
      cases h:L 13 with
      |false=>rfl
      |true=>rw[hC 13 1 h rfl] at V;cases V
     have d0:=Z.cell 0;simp only[z_,cM bJ] at d0;rw[Y] at d⊢
     try simp[tY,qn,a_,rE] at d
     simp[bn,execOp,gF,go_sem,d,d0,hp.1]
    case c5=>
     refine⟨λ h=>(by cases h),λ _ C L w' f V hC d M hp=>?_⟩;obtain⟨v0,v1,Z,cM,aU⟩:=f.2.2.2.2;have dr:L 15=false:=by
      cases h:L 15 with
      |false=>rfl
      |true=>rw[hC 15 5 h rfl] at V;cases V
     have bu:=Z.cell 1;simp only[z_,y_,aU dr] at bu;rw[Y] at d⊢
     try simp[tY,qn,a_,rE] at d
     simp[bn,execOp,gF,go_sem,d,bu,hp.1]
    case c9=>
     refine⟨λ h=>(by cases h),λ _ C L w' f V hC d M hp=>?_⟩;have dt:C (.tmp 8)=.slice N (n+1+k) O:=M.2.2.1 rfl;rw[Y] at d⊢;simp[bn,execOp,gF,go_sem,dt,hp.1]
    case c6=>
     refine⟨λ h=>(by cases h),λ _ C L w' f V hC d M hp=>?_⟩;have du:C (.tmp 9)=.int .i64 v:=M.2.1 rfl;rw[Y] at d⊢;simp[bn,execOp,gF,go_sem,du,hp.1]
    all_goals
     refine⟨λ h=>(by cases h),λ _ C L w' f V hC d M hp=>?_⟩;have dv:C (.tmp 7)=.pointer (some ⟨r,0,none⟩):=M.1 rfl;rw[Y] at d⊢;simp[bn,execOp,gF,go_sem,dv,hp.1]
   intro vals s P dO bA dP dQ ao aK dh bk;have k3:P.ownsRow E.heap.size 3 1 (vals 3) (n+1+k+1) (gX (rf act k++[0]))/\∀g,(vals 3).ownBlock=some g->(o_ Q (n+1+k) R).ownBlock=some g\/wr.heap.size<=g/\(s 3).1<=g/\g<(s 3).2:=ao 3 (by omega);have k8:P.ownsRow E.heap.size 3 1 (vals 8) (n+k+1) (gX (qC n ord k++[v]))/\∀g,(vals 8).ownBlock=some g->(o_ T (n+k) co).ownBlock=some g\/wr.heap.size<=g/\(s 8).1<=g/\g<(s 8).2:=ao 8 (by omega);have k11:P.ownsRow E.heap.size 4 1 (vals 11) (n+1+k+1) (nO (qD ar k++[false]))/\∀g,(vals 11).ownBlock=some g->(o_ N (n+1+k) O).ownBlock=some g\/wr.heap.size<=g/\(s 11).1<=g/\g<(s 11).2:=ao 11 (by omega);have k13:P.cell? ⟨r,0,none⟩=some (vals 3):=ao 13 (by omega);have k15:P.cell? ⟨r,1,none⟩=some (vals 8):=ao 15 (by omega);obtain⟨⟨bB,cN,bC⟩,bL,b7⟩:=aq.lz k3.1;obtain⟨⟨b8,cO,b9⟩,bM,b'⟩:=aq.lz k8.1;obtain⟨⟨ca,cP,cc⟩,aU,cd⟩:=aq.lz k11.1;have bL:vals 3=.slice bB cN bC:=bL;have b7:cN=n+1+k+1:=b7;have bM:vals 8=.slice b8 cO b9:=bM;have b':cO=n+k+1:=b';have aU:vals 11=.slice ca cP cc:=aU;have cd:cP=n+1+k+1:=cd;subst b7 b' cd;rw[bL] at k3 k13;rw[bM] at k8 k15;rw[aU] at k11;obtain⟨f6,-,-,-,v0,v1,Z,-,-⟩:=bA;have aN:=Z.cell 0;have ab:=Z.cell 1;simp only[z_,y_] at aN ab;obtain rfl:v0=_:=by have h:=aN.symm.trans k13;injection h
   obtain rfl:v1=_:=by have h:=ab.symm.trans k15;injection h
   have cQ:=aK.2 3 8 (by decide) rfl rfl;have cR:=aK.2 3 11 (by decide) rfl rfl;have cS:=aK.2 8 11 (by decide) rfl rfl;obtain⟨cf,cg,ch⟩:=G.o.Ep;have cT:AQ P E.heap.size r (.slice bB (n+1+(k+1)) bC) (.slice b8 (n+(k+1)) b9) (.slice ca (n+1+(k+1)) cc) (n+1+(k+1)) (n+(k+1)) (n+1+(k+1)) (rf act (k+1)) (qC n ord (k+1)) (qD ar (k+1)) H:=by
    have cI:=ai.o.2.2.2;have cj:=a7.o;refine⟨by rw[OD];exact k3.1,by rw[OE,bH.o];exact k8.1,by rw[OF];exact k11.1,Z,λ e=>?_,λ e=>?_,λ e=>?_,λ g e D=>?_,λ g e D=>?_,λ g e D=>?_,by omega,by omega,by omega,by have:=f6.size;have:=G.o.oK;omega⟩
    ·exact(k3.2 r e).elim G.o.AR (by omega)
    ·exact(k8.2 r e).elim G.o.AS (by omega)
    ·exact(k11.2 r e).elim G.o.AT (by omega)
    ·rcases k3.2 g e with h1|h1
     ·rcases k8.2 g D with J|J
      ·exact G.o.AU g h1 J
      ·have:=cf g h1;omega
     ·rcases k8.2 g D with J|J
      ·have:=cg g J;omega
      ·rcases cQ with bw|bw<;>omega
    ·rcases k3.2 g e with h1|h1
     ·rcases k11.2 g D with J|J
      ·exact G.o.ap g h1 J
      ·have:=cf g h1;omega
     ·rcases k11.2 g D with J|J
      ·have:=ch g J;omega
      ·rcases cR with bw|bw<;>omega
    ·rcases k8.2 g e with h1|h1
     ·rcases k11.2 g D with J|J
      ·exact G.o.op g h1 J
      ·have:=cg g h1;omega
     ·rcases k11.2 g D with J|J
      ·have:=ch g J;omega
      ·rcases cS with bw|bw<;>omega
   have cU:r7 w P [.int .i64 n,.slice az aA gc,.slice aB aC lc,.slice aE (n+1) ac,.slice aF n aG,.int .i64 H,.slice aW (n+1) aX,.slice aH aI aJ] n9:=by
    have bZ:=K.o.2.2.2.2.2.2.2.2.2.2;have a8:∀b,b<E.heap.size->(o_ Q (n+1+k) R).ownBlock≠some b/\(o_ T (n+k) co).ownBlock≠some b/\(o_ N (n+1+k) O).ownBlock≠some b:=λ b F=>⟨λ e=>by have:=(G.o.a.lt b e).1;omega,λ e=>by have:=(G.o.o.lt b e).1;omega,λ e=>by have:=(G.o.p.lt b e).1;omega⟩
    have dR:=S.o.bg.lt;exact⟨f6.blk S.o.bp ⟨by omega,by omega,a8 _ (by omega)⟩,f6.blk S.o.bg ⟨by omega,by omega,a8 _ (by omega)⟩,S.o.lM.trans ⟨f6.os,f6.tape,f6.output,f6.size,λ b F=>f6.keep b ⟨by omega,by omega,a8 _ (by omega)⟩⟩⟩
   have cV:=U (w_ cT cU);simp[oI,Act.put,aU] at bk;subst bk;clear cT cU k3 k8 k11 k13 k15 Z aN ab cQ cR cS cf cg ch ao aK f6 bL bM Y aL bb bc bd;show bn _ _ (Oper.mk _ _ _ _ _ _) _ _;simp[bn,execOp,gF,go_sem,Act.eval,Act.put,aU];have dS:Zv.wrap (v+1)=v+1:=by rw[m_];have:=bH.o;have:=a7.o;have:=ai.o.2.2.2.2;omega
   go_wp2_with fail
   go_roundw
   case rel=>exact⟨k+1,bB,bC,b8,b9,ca,cc,by have:=bH.o;rw[<-this];rfl,by have:=a7.o;omega,rfl,cV.o.1,cV.o.2⟩
   case measure=>have:=bH.o;have:=a7.o;simp[intOf];omega
  ·have bG:¬((n+1+k:Nat):Int)<=(m:Int):=by omega
   have d1:decide (((n+1+k:Nat):Int)<=(m:Int))=false:=decide_eq_false bG;have cj:n+k=m:=by omega
   have dw:=U cj;have q:=S.o.bp.cell;have ad:=q 0;have aj:=q 1;have ak:=q 2;have ae:=q 3;have af:=q 4;have ag:=q 5;have al:=q 6;have an:=q 7;simp only[z_,y_] at ad aj ak ae af ag al an;clear q;have X:=S.o.bp.free;have f0:=X 0;have f1:=X 1;have f2:=X 2;have f3:=X 3;have f4:=X 4;have f5:=X 5;have f6:=X 6;have f7:=X 7;clear X;have dx:¬r=w.heap.size:=by have h1:=K.o.2.2.2.2.2.2.2.1;have J:=K.o.2.2.2.2.2.2.2.2.2.2;omega
   have dT:¬w.heap.size=r:=λ e=>dx e.symm
   clear a6 hk cj
   go_upto_region 12 with fail
   rename_i dy cW;have dz:=U cW;clear cW;refine wp_region_noPanic ?_
   go_region_law (fail)
   all_goals
    show dy _ _;apply dz.o
   all_goals
    have aZ:=((((S.o.bp.set 0 (.int .i64 m)).set 3 (.slice Q (n+1+k) R)).set 4 (.slice T (n+k) co)).set 5 (.int .i64 H)).set 6 (.slice N (n+1+k) O);have ay:∀(u:World)(i:Nat)(v:Value),aD (λ b=>b≠w.heap.size) u (u.setCell ⟨w.heap.size,i,none⟩ v):=λ u i v=>aD.set _ i v (λ h=>h rfl)
    have dA:=((((ay wr 0 (.int .i64 m)).trans (ay _ 3 (.slice Q (n+1+k) R))).trans (ay _ 4 (.slice T (n+k) co))).trans (ay _ 5 (.int .i64 H))).trans (ay _ 6 (.slice N (n+1+k) O));simp only[Zt,Zr] at aZ;generalize ((((wr.setCell ⟨w.heap.size,0,none⟩ (.int .i64 m)).setCell ⟨w.heap.size,3,none⟩ (.slice Q (n+1+k) R)).setCell ⟨w.heap.size,4,none⟩ (.slice T (n+k) co)).setCell ⟨w.heap.size,5,none⟩ (.int .i64 H)).setCell ⟨w.heap.size,6,none⟩ (.slice N (n+1+k) O)=di at*;have dB:=aZ.below (Zx _ _).drew;have fd:aD (λ b=>b≠w.heap.size) wr di.drew:=dA.trans aD.drew;generalize di.drew=ko at*;have dC:=fd.blk S.o.bg (by omega);have bx:=U (w_ dB (w_ fd dC));clear ad aj ak ae af ag al an f0 f1 f2 f3 f4 f5 f6 f7;have q:=bx.o.1.cell;have ad:=q 0;have aj:=q 1;have ak:=q 2;have ae:=q 3;have af:=q 4;have ag:=q 5;have al:=q 6;have an:=q 7;simp only[z_,y_] at ad aj ak ae af ag al an;clear q;have aR:=bx.o.2.2.cell;have dD:=aR 0;have bl:=aR 1;have bU:=aR 2;have dE:=aR 3;have dF:=aR 4;have dG:=aR 5;have dH:=aR 6;have dI:=aR 7;simp only[n9,z_,y_] at dD bl bU dE dF dG dH dI;clear aR;have X:=bx.o.2.2.free;have f0:=X 0;have f1:=X 1;have f2:=X 2;have f3:=X 3;have f4:=X 4;have f5:=X 5;have f6:=X 6;have f7:=X 7;clear X
    go_wp2_with fail
    have dJ:=aO.zn (show aO ko (w.heap.size+1) 47 [.int .i64 0,.slice none 0 0,.slice none 0 0,.slice none 0 0,.slice none 0 0,.int .i64 0,.slice none 0 0,.slice none 0 0] from bx.o.2.2) (.int .i64 m) (.slice az aA gc) (.slice aB aC lc) (.slice Q (n+1+k) R) (.slice T (n+k) co) (.int .i64 H) (.slice N (n+1+k) O) (.slice aH aI aJ);have f8:=aD.eight (W:=ko) (B:=w.heap.size+1) (.int .i64 m) (.slice az aA gc) (.slice aB aC lc) (.slice Q (n+1+k) R) (.slice T (n+k) co) (.int .i64 H) (.slice N (n+1+k) O) (.slice aH aI aJ);refine OH (t:=⟨m,⟨az,aA,gc⟩,⟨aB,aC,lc⟩,⟨Q,n+1+k,R⟩,⟨T,n+k,co⟩,H,⟨N,n+1+k,O⟩,⟨aH,aI,aJ⟩⟩) rfl rfl rfl dJ ?_;obtain rfl:m=n+k:=dw.o.symm;have aV:aD (λ b=>b≠w.heap.size/\b≠w.heap.size+1) wr _:=(bx.o.2.1.mono λ b F=>F.1).trans (f8.mono λ b F=>F.2);have a8:∀(e:TypeId)(A:Option Addr)(bN ck:Nat)(l:List Value),wr.ownsRow E.heap.size e 1 (.slice A bN ck) bN l->∀b,(o_ A bN ck).ownBlock=some b->b≠w.heap.size/\b≠w.heap.size+1:=λ e A bN ck l h b F=>by have h1:=(h.lt b F).1;have J:=K.o.2.2.2.2.2.2.2.2.2.2;omega
    have cI:=ai.o.2.2.2;have ab:n+1+k=n+k+1:=by omega
    have D:n+k-n=k:=by omega
    refine⟨Q,R,T,co,N,O,by rw[ab],?_,?_,?_,S.o.lM.trans ⟨aV.os,aV.tape,aV.output,aV.size,λ b F=>aV.keep b ⟨by omega,by omega⟩⟩,λ b e=>?_,λ b e=>?_,λ b e=>?_⟩
    ·rw[D,<-ab];exact aQ.lz (mP G.o.a λ b F=>aV.keep b (a8 _ _ _ _ _ G.o.a b F)) (by omega)
    ·rw[D];exact aQ.lz (mP G.o.o λ b F=>aV.keep b (a8 _ _ _ _ _ G.o.o b F)) (by omega)
    ·rw[D,<-ab];exact lB.lz (mP G.o.p λ b F=>aV.keep b (a8 _ _ _ _ _ G.o.p b F)) (by omega)
    ·have h1:=(G.o.a.lt b ((aq.own ⟨Q,n+1+k,R⟩).trans e)).1;have J:=K.o.2.2.2.2.2.2.2.2.2.2;omega
    ·have h1:=(G.o.o.lt b ((aq.own ⟨T,n+k,co⟩).trans e)).1;have J:=K.o.2.2.2.2.2.2.2.2.2.2;omega
    ·have h1:=(G.o.p.lt b ((aq.own ⟨N,n+1+k,O⟩).trans e)).1;have J:=K.o.2.2.2.2.2.2.2.2.2.2;omega
end
section
open Go.RowKit Go.Shelf Go.Lib
def t8(n:Nat)(s:kF)(t:iW):iW:=⟨n,⟨t.g.A,s.gs.length,t.g.c⟩,⟨t.l.A,s.es.length,t.l.c⟩,⟨t.a.A,n+1,t.a.c⟩,⟨t.o.A,n,t.o.c⟩,s.aM,⟨t.h.A,n+1,t.h.c⟩,⟨t.p.A,s.aA.length,t.p.c⟩⟩
structure nj(D:Nat->Prop)(w:World)(n:Nat)(s:kF)(t:iW):Prop where
 e:t=t8 n s t
 S:∀W,aD (λ b=>b<w.heap.size/\¬D b) w W->pT W s t.g.A t.g.c t.l.A t.l.c t.a.A t.a.c t.o.A t.o.c t.h.A t.h.c t.p.A t.p.c
 O:oy n s
 qh:t.p.A=none->s.aA.length=0/\t.p.c=0
 pR:t.g.A=none->s.gs.length=0/\t.g.c=0
 pp:Plain t.p.A
 yj:Plain t.g.A
 pl:s.aA.length=s.gs.length+s.es.length
section
variable {D HV:Nat->Prop}{w w':World}{n:Nat}{s:kF}{t:iW}
theorem nj.aP(h:nj D w n s t):pT w s t.g.A t.g.c t.l.A t.l.c t.a.A t.a.c t.o.A t.o.c t.h.A t.h.c t.p.A t.p.c:=h.S w aD.refl
theorem nj.more(h:nj D w n s t)(c:Below w.heap.size w w')(g:∀b,b<w.heap.size->HV b->D b):nj HV w' n s t:=
 ⟨h.e,λ W f=>h.S W ((aD.q3 c λ b c=>c.1).trans (f.mono λ b d=>⟨t_ d.1 c.size,λ h=>d.2 (g b d.1 h)⟩)),h.O,h.qh,h.pR,h.pp,h.yj,h.pl⟩
theorem nj.below(h:nj D w n s t)(b:Below w.heap.size w w'):nj D w' n s t:=h.more b λ _ _ h=>h
theorem nj.set(h:nj D w n s t){B:Nat}(d:D B)(f:aD (λ b=>b≠B) w w'):nj D w' n s t:=
 ⟨h.e,λ W g=>h.S W ((f.mono λ b c e=>c.2 (e▸d)).trans (g.mono λ b c=>⟨t_ c.1 f.size,c.2⟩)),h.O,h.qh,h.pR,h.pp,h.yj,h.pl⟩
end
theorem nj.agg{D:Nat->Prop}{w:World}{n:Nat}{s:kF}{t:iW}(h:nj D w n s t):Value.agg t.L.toArray=nP n t.g.A s.gs.length t.g.c t.l.A s.es.length t.l.c t.a.A (n+1) t.a.c t.o.A n t.o.c s.aM t.h.A (n+1) t.h.c t.p.A s.aA.length t.p.c:=by
 rw[h.e];rfl
theorem nj.es{D:Nat->Prop}{w:World}{n:Nat}{s:kF}{t:iW}(h:nj D w n s t)(b:n<=10):s.es.length<=59048:=by
 have h1:=h.O.nW;have c:=AD b;omega
theorem nj.check{w:World}{t:iW}(h:nj D w n s t)(b:n<=10):∀W,Below w.heap.size w W->Calls x_ 49 #[.agg t.L.toArray] W λ e w'=>e=.returned (.int .i64 0)/\Below W.heap.size W w':=λ W c=>by
 rw[h.agg];exact Cx h.O b (h.aP.below c)
theorem OJ(n:Nat)(i:n<=10)(w:World)(j:∀b,D b->b<w.heap.size):Calls x_ 42 #[.int .i64 n] w λ e W=>∃t:iW,e=.returned (sE t 0)/\nj D W n (r8 n) t/\Below w.heap.size w W:=by
 refine(Nd n w (by omega)).mono λ e W P=>?_
 obtain⟨A,c,A',c',p,q,rfl,k,l,m,r,s,u,v⟩:=P;have S:=CE.new i k l m;refine⟨⟨n,mM,mM,⟨A,n+1,c⟩,⟨A',n,c'⟩,1,⟨p,n+1,q⟩,mM⟩,rfl,⟨rfl,λ W' f=>?_,S.O,S.qh,S.pR,S.pp,S.yj,rfl⟩,r⟩;refine(CE.new i (k.iP f λ b e i=>?_) (l.iP f λ b e i=>?_) (m.iP f λ b e=>?_)).aP
 ·obtain⟨d,off,g,hl,_⟩:=k.cells i;have o:=s d off g;rw[g] at e;injection e with e
  have e:d=b:=e;exact⟨by omega,λ h=>by have:=j b h;omega⟩
 ·obtain⟨d,off,g,hl,_⟩:=l.cells i;have o:=u d off g;rw[g] at e;injection e with e
  have e:d=b:=e;exact⟨by omega,λ h=>by have:=j b h;omega⟩
 ·obtain⟨d,off,g,hl,_⟩:=m.cells (Nat.succ_pos n);have o:=v d off g;rw[g] at e;injection e with e
  have e:d=b:=e;exact⟨by omega,λ h=>by have:=j b h;omega⟩
theorem HW{w:World}{t:iW}(h:nj D w n s t)(m:∀b,D b->b<w.heap.size)(f:n<=10){l7:Option Addr}{jw c0:Nat}{ah:List Int}(j:aQ w l7 jw c0 ah)(H:s.gs.length<40000):
  Calls x_ 46 #[.agg t.L.toArray,.slice l7 jw c0] w λ e W=>∃g:iW,e=.returned (sE g (AP n ah))/\Below w.heap.size w W/\(kZ n [ah]≠0->g=nS)/\(kZ n [ah]=0->∃(s':kF)(p:mc),nj D W n s' g/\s'.gs=s.gs++[ah]/\s'.es=s.es/\s'.aA=s.aA++[p]/\p.iM=1/\p.r.ah=ah):=by
 have I:=h.es f;have q:=h.pl;rw[h.agg]
 by_cases d:kZ n [ah]=0
 ·have he:AP n ah=0:=if_pos d;rw[he];refine(Ow h.O f h.aP j ((G9 d).2.2 ah (by simp)) (by omega) (by omega) h.qh h.pR h.pp h.yj).mono λ e W P=>?_
  obtain⟨s',bh,aS,u,v,rfl,aP,O,h1,k,J,⟨p,y,z,B⟩,C,i,E,F,G⟩:=P;refine⟨⟨n,⟨bh,s'.gs.length,aS⟩,⟨t.l.A,s'.es.length,t.l.c⟩,⟨t.a.A,n+1,t.a.c⟩,⟨t.o.A,n,t.o.c⟩,s'.aM,⟨t.h.A,n+1,t.h.c⟩,⟨u,s'.aA.length,v⟩⟩,rfl,i,λ h=>absurd d h,λ _=>⟨s',p,⟨rfl,G D m h.S,O,E.2,F,.inr ?_,.inr ?_,?_⟩,h1,k,y,z,B⟩⟩
  ·obtain⟨b,off,e,_⟩:=aP.aA.cells (by omega);exact⟨b,off,e⟩
  ·obtain⟨b,off,e,_⟩:=aP.gs.cells (by rw[h1];simp);exact⟨b,off,e⟩
  ·rw[C,h1,k,q];simp;omega
 ·have he:AP n ah=140:=if_neg d;rw[he];refine(Ox h.O f h.aP j d).mono λ e W P=>?_
  obtain⟨rfl,i⟩:=P;exact⟨nS,rfl,i,λ _=>rfl,λ h=>absurd h d⟩
def xB(W:World)(F:List (List Int))(d:List Int)(n b:Nat)(u:lu):Prop:=
 0<=u.s/\u.s<=b/\((u.k=1/\u.o=mM/\∃m,lB W u.m.A u.m.n u.m.c m/\Cq F n d m)\/(u.k=2/\u.m=mM/\∃co,aQ W u.o.A u.o.n u.o.c co/\co.Sublist d/\¬Can F co)\/(u.k=3/\u.m=mM/\u.o=mM/\u.s=b/\b+1<=3^n))
theorem xB.below{W W':World}{F:List (List Int)}{aC:List Int}{n aZ:Nat}{u:lu}(h:xB W F aC n aZ u)(f:Below W.heap.size W W'):xB W' F aC n aZ u:=by
 obtain⟨h1,g,e⟩:=h;refine⟨h1,g,?_⟩;rcases e with⟨a,b,m,c,d⟩|⟨a,b,co,c,d⟩|e
 ·exact .inl ⟨a,b,m,c.below f,d⟩
 ·exact .inr (.inl ⟨a,b,co,c.below f,d⟩)
 ·exact .inr (.inr e)
theorem CH{c:Nat}(h:o_ A n c=mX):(⟨A,n,c⟩:aq)=mM:=by
 unfold mX at h;injection h with h1 b d
 subst h1 b d;rfl
theorem HX{w:World}{t:iW}(h:nj D w n s t)(q:∀b,D b->b<w.heap.size)(l:n<=10){kH:Option Addr}{nq kS:Nat}{aC:List Int}(r:aQ w kH nq kS aC)(v:nq<=1000)(y:s.gs.length<=40000){nY:Int}(i:vo n aC nY=true):
  Calls x_ 36 #[.agg t.L.toArray,.slice kH nq kS,.int .i64 nY] w λ e W=>∃(o:iW)(u:lu)(s':kF),e=.returned (s6 o u 0)/\Below w.heap.size w W/\nj D W n s' o/\s'.gs=s.gs/\s.aA<+:s'.aA/\xB W s.gs aC n nY.toNat u:=by
 unfold vo at i;rw[Zo,Zo,decide_eq_true_eq,decide_eq_true_eq] at i;obtain⟨⟨hm,al⟩,an⟩:=i;obtain⟨b,rfl⟩:∃b:Nat,nY=b:=⟨nY.toNat,by omega⟩
 obtain⟨z,B⟩:=Ns hm;have ao:=h.es l;have C:=h.pl;rw[h.agg];refine(NV (bw:=D) b h.O l h.S r z B v (by omega) y (by omega) h.qh (λ hp=>h.pp.resolve_left hp) q).mono λ e W P=>?_
 obtain⟨s',E,c1,F,c2,G,c3,H,c4,p,c5,j,kind,I,J,K,N,Q,R,rfl,aq,O,h1,T,U,V,ar,X,Y,Z,aa,ab⟩:=P;refine⟨⟨n,⟨t.g.A,s.gs.length,t.g.c⟩,⟨E,s'.es.length,c1⟩,⟨F,n+1,c2⟩,⟨G,n,c3⟩,s'.aM,⟨H,n+1,c4⟩,⟨p,s'.aA.length,c5⟩⟩,⟨kind,⟨I,J,K⟩,⟨N,Q,R⟩,j⟩,s',rfl,Y,⟨by rw[t8,h1],λ W' f=>(ab W' f).1,O,Z.2,by rw[h1];exact h.pR,?_,h.yj,?_⟩,h1,U,?_⟩
 ·rcases Classical.em (p=none) with e|e
  ·exact .inl e
  ·exact .inr (aa e)
 ·rw[V,h1,T,C];omega
 ·refine⟨Int.natCast_nonneg _,by show(j:Int)<=(((b:Int).toNat:Nat):Int);rw[Ze];omega,?_⟩;rcases X with⟨rfl,d,m,k,_,ad,ae,af,ag⟩|⟨rfl,d,co,k,_,hs,hu⟩|⟨rfl,d,ah,ai⟩
  ·exact .inl ⟨rfl,CH d,m,k,ad,ae,af,ag⟩
  ·exact .inr (.inl ⟨rfl,CH d,co,k,hs,λ⟨M,aj,ak⟩=>hu M aj ak⟩)
  ·refine .inr (.inr ⟨rfl,CH d,CH ah,by show(j:Int)=(((b:Int).toNat:Nat):Int);rw[Ze,ai],?_⟩);have au:=O.nW;rw[Ze];omega
theorem OK{w:World}{t:iW}(h:nj D w n s t)(b:n<=10){kH:Option Addr}{nq kS:Nat}{aC:List Int}(c:aQ w kH nq kS aC)(d:nq<=1000000){nY:Int}(f:vo n aC nY=false):
  Calls x_ 36 #[.agg t.L.toArray,.slice kH nq kS,.int .i64 nY] w λ e W=>e=.returned (s6 nS qi 1)/\Below w.heap.size w W:=
 CF t n (by omega) (by rw[h.e];rfl) kH nq kS aC nY w c d f (h.check b)
theorem gU.up{m:Nat}(h:gU n x)(hm:n<=m):gU m x:=⟨h.1,r_ h.2 hm⟩
theorem oy.grow{n:Nat}{s:kF}(O:oy n s){m:Nat}(c:n<=m)(hm:m<=65536):oy m ⟨m,s.gs,s.es,rf s.act (m-n),qC n s.ord (m-n),s.aM,qD s.bl (m-n),s.aA⟩:=by
 refine⟨rfl,O.g1,λ g d x b=>(O.bu g d x b).up c,?_,?_,?_,λ e he=>?_,O.Eh,O.Co,λ p hp=>⟨(O.xz p hp).1,λ x b=>((O.xz p hp).2 x b).up c⟩⟩
 ·have h1:=O.hk.grow (m-n) (by omega);rw[show n+(m-n)=m by omega] at h1;have f:qC n s.ord (m-n)=s.ord++(List.range (m-n)).map λ i:Nat=>((n+i:Nat):Int)+1:=by
   unfold qC
   congr 1
   refine List.map_congr_left λ i _=>?_
   omega
  show q8 m (rf s.act (m-n)) (qC n s.ord (m-n)) s.aM;rw[f];exact h1
 ·show(qD s.bl (m-n)).length=_;unfold qD;rw[List.length_append,List.length_replicate,O.nB];omega
 ·show jE (qD s.bl (m-n)) 0=false;have j:=O.oT;have hl:=O.nB;unfold qD jE at*;rw[q_] at*;rw[Zc (by omega)];exact j
 ·obtain⟨h1,k⟩:=O.wo e he;exact⟨⟨h1.ne,λ x b=>(h1.lt x b).up c,h1.nr,h1.jC⟩,k⟩
theorem OL{w:World}{t:iW}(h:nj D w n s t)(k:∀b,D b->b<w.heap.size)(i:n<=10){m:Nat}(v:n<=m)(hm:m<=10):
  Calls x_ 44 #[.agg t.L.toArray,.int .i64 m] w λ e W=>∃(y:iW)(s':kF),e=.returned (sE y 0)/\Below w.heap.size w W/\nj D W m s' y/\s'.gs=s.gs/\s'.es=s.es/\s'.aA=s.aA:=by
 have F:=h.O.hk.kM;have hl:=h.O.hk.pE;have hp:=h.O.nB;have z:=h.aP.act;have B:=h.aP.ord;have C:=h.aP.bl;rw[F] at z;rw[hl] at B;rw[hp] at C;have d:=h.e;refine(OI t n m v (by omega) (by rw[d];rfl) s.act s.ord s.bl w z B C (by rw[d];rfl) (by rw[d];rfl) (by rw[d];rfl) (h.check i)).mono λ e W P=>?_
 obtain⟨A,c,A',c',G,H,rfl,o,q,r,j,I,J,K⟩:=P;have M:=h.O.grow v (by omega);have N:(rf s.act (m-n)).length=m+1:=o.len;have Q:(qC n s.ord (m-n)).length=m:=q.len;have R:(qD s.bl (m-n)).length=m+1:=r.len;have T:t.b=s.aM:=by rw[d];rfl
 have g1:t.g=⟨t.g.A,s.gs.length,t.g.c⟩:=by rw[d];rfl
 have g2:t.l=⟨t.l.A,s.es.length,t.l.c⟩:=by rw[d];rfl
 have g3:t.p=⟨t.p.A,s.aA.length,t.p.c⟩:=by rw[d];rfl
 have u:∀W',aD (λ b=>b<W.heap.size/\¬D b) W W'->aD (λ b=>b<w.heap.size/\¬D b) w W':=λ W' f=>(aD.q3 j λ b j=>j.1).trans (f.mono λ b E=>⟨t_ E.1 j.size,E.2⟩)
 refine⟨_,⟨m,s.gs,s.es,rf s.act (m-n),qC n s.ord (m-n),s.aM,qD s.bl (m-n),s.aA⟩,rfl,j,⟨?_,λ W' f=>⟨(h.S W' (u W' f)).gs,(h.S W' (u W' f)).es,?_,?_,?_,(h.S W' (u W' f)).aA⟩,M,h.qh,h.pR,h.pp,h.yj,h.pl⟩,rfl,rfl,rfl⟩
 ·unfold t8;rw[<-T];simp only[iW.mk.injEq,true_and];exact⟨g1,g2,g3⟩
 ·show aQ W' A (rf s.act (m-n)).length c _;rw[N];exact o.iP f λ b e i=>⟨o.lt b e i,λ h=>by have:=k b h;have:=I b e;omega⟩
 ·show aQ W' A' (qC n s.ord (m-n)).length c' _;rw[Q];exact q.iP f λ b e i=>⟨q.lt b e i,λ h=>by have:=k b h;have:=J b e;omega⟩
 ·show lB W' G (qD s.bl (m-n)).length H _;rw[R];refine r.iP f λ b e=>?_
  obtain⟨U,off,V,hl,_⟩:=r.cells (Nat.succ_pos m);have X:=K b e;rw[V] at e;injection e with e
  have e:U=b:=e;exact⟨by omega,λ h=>by have:=k b h;omega⟩
end
section
open Go.RowKit Go.Shelf Go.Lib
theorem OM:Mod λ x=>decide (0<x):=λ x b=>by
 show decide (0< -x)= !decide (0<x);rw[Z8];simp;omega
theorem HY{co:List Int}(h:∀x∈co,0<x):Can mZ co:=⟨λ x=>decide (0<x),HM _ OM (by decide),λ x b=>by simpa using h x b⟩
theorem ON:¬Can mZ [1,-2]:=λ⟨M,b,e⟩=>by
 have h1:=e 1 (by simp);have c:=e (-2) (by simp);rw[b.1 2 (by decide)] at c;obtain⟨y,f,d⟩:=b.2 [-1,2] (by unfold mZ;simp);simp only[i_,g_,or_false] at f;rcases f with rfl|rfl
 ·rw[b.1 1 (by decide),h1] at d;cases d
 ·rw[d] at c;cases c
theorem OO{co:List Int}(h:co.Sublist [1,-2])(hu:¬Can mZ co):hasB co (-2)=true/\co.length<=2:=by
 refine⟨?_,by simpa using h.length_le⟩;rw[qR];refine Zu λ c=>hu (HY λ x b=>?_)
 have:=h.subset b;simp only[i_,g_,or_false] at this;rcases this with rfl|rfl
 ·decide
 ·exact absurd b c
theorem OP{u:lu}(h:xB W mZ [] 2 100 u):u.k=1/\u.o=mM/\∃m,lB W u.m.A u.m.n u.m.c m/\Cq mZ 2 [] m:=by
 obtain⟨g,h1,d|⟨_,_,co,_,hs,b⟩|⟨_,_,_,_,e⟩⟩:=h
 ·exact d
 ·rw[List.sublist_nil.1 hs] at b;exact absurd (HY λ x f=>by cases f) b
 ·exact absurd e (by decide)
theorem OQ{u:lu}(h:xB W mZ [1,-2] 2 100 u):u.k=2/\u.m=mM/\∃co,aQ W u.o.A u.o.n u.o.c co/\co.Sublist [1,-2]/\¬Can mZ co:=by
 obtain⟨e,h1,⟨_,_,m,_,hm⟩|b|⟨_,_,_,_,d⟩⟩:=h
 ·exact absurd hm.can ON
 ·exact b
 ·exact absurd d (by decide)
end
section
open Go.RowKit Go.Shelf Go.Lib
section
variable {V:World}{gH n:Nat}{s:kF}{t:iW}
theorem CI{V W:World}{ah:List Int}(h:Below (V.alloc (mD ah)).heap.size (V.alloc (mD ah)) W):Below V.heap.size V W:=(bK V _).trans (h.mono (bK V _).size)
theorem HZ(S:nj (λ b=>b=gH) V n s t)(v:gH<V.heap.size)(g:n<=10)(ah:List Int)(m:Nat)(hm:ah.length=m)(i:m<=1000)(f:kZ n [ah]=0)(j:s.gs.length<40000):
  Calls x_ 46 #[.agg t.L.toArray,.slice (some ⟨V.heap.size,0,none⟩) m m] (V.alloc (mD ah)) λ e W=>∃(c:iW)(s':kF)(p:mc),e=.returned (sE c 0)/\Below V.heap.size V W/\nj (λ b=>b=gH) W n s' c/\s'.gs=s.gs++[ah]/\s'.aA=s.aA++[p]/\p.iM=1/\p.r.ah=ah:=by
 have k:AP n ah=0:=if_pos f;refine(HW (S.below (bK V _)) (λ b d=>by subst d;have:=(bK V (mD ah)).size;omega) g (aQ.lit V ah m _ hm rfl i) j).mono ?_;rintro e W ⟨c,rfl,d,_,h⟩;obtain⟨s',p,h1,l,_,o,q,u⟩:=h f;exact⟨c,s',p,by rw[k],CI d,h1,l,o,q,u⟩
theorem OR(S:nj (λ b=>b=gH) V n s t)(l:gH<V.heap.size)(g:n<=10)(c:List Int)(m:Nat)(hm:c.length=m)(i:m<=1000)(f:kZ n [c]≠0)(j:s.gs.length<40000):
  Calls x_ 46 #[.agg t.L.toArray,.slice (some ⟨V.heap.size,0,none⟩) m m] (V.alloc (mD c)) λ e W=>e=.returned (sE nS 140)/\Below V.heap.size V W:=by
 have k:AP n c=140:=if_neg f;refine(HW (S.below (bK V _)) (λ b d=>by subst d;have:=(bK V (mD c)).size;omega) g (aQ.lit V c m _ hm rfl i) j).mono ?_;rintro e W ⟨o,rfl,d,h,_⟩;exact⟨by rw[k,h f],CI d⟩
theorem OS(S:nj (λ b=>b=gH) V n s t)(l:gH<V.heap.size)(g:n<=10)(c:List Int)(m:Nat)(hm:c.length=m)(i:m<=1000)(j:s.gs.length<=40000)(k:vo n c 100=true):
  Calls x_ 36 #[.agg t.L.toArray,.slice (some ⟨V.heap.size,0,none⟩) m m,.int .i64 100] (V.alloc (mD c)) λ e W=>∃(d:iW)(u:lu)(s':kF),e=.returned (s6 d u 0)/\Below V.heap.size V W/\nj (λ b=>b=gH) W n s' d/\s'.gs=s.gs/\s.aA<+:s'.aA/\xB W s.gs c n 100 u:=by
 refine(HX (S.below (bK V _)) (λ b f=>by subst f;have:=(bK V (mD c)).size;omega) g (aQ.lit V c m _ hm rfl i) (by omega) j k).mono ?_;rintro e W ⟨d,u,s',rfl,f,h⟩;exact⟨d,u,s',rfl,CI f,h⟩
theorem OT(S:nj (λ b=>b=gH) V n s t)(f:gH<V.heap.size)(g:n<=10)(i:s.gs.length<=40000)(j:vo n [] 100=true):
  Calls x_ 36 #[.agg t.L.toArray,.slice none 0 0,.int .i64 100] V λ e W=>∃(c:iW)(u:lu)(s':kF),e=.returned (s6 c u 0)/\Below V.heap.size V W/\nj (λ b=>b=gH) W n s' c/\s'.gs=s.gs/\s.aA<+:s'.aA/\xB W s.gs [] n 100 u:=by
 refine(HX S (λ b d=>by subst d;exact f) g (aQ.nil V none 0 (p_ _)) (by omega) i j).mono ?_;rintro e W ⟨c,u,s',rfl,d,h⟩;exact⟨c,u,s',rfl,d,h⟩
theorem OU(S:nj (λ b=>b=gH) V n s t)(d:n<=10)(c:List Int)(m:Nat)(hm:c.length=m)(f:m<=1000)(g:vo n c 100=false):
  Calls x_ 36 #[.agg t.L.toArray,.slice (some ⟨V.heap.size,0,none⟩) m m,.int .i64 100] (V.alloc (mD c)) λ e W=>e=.returned (s6 nS qi 1)/\Below V.heap.size V W:=by
 refine(OK (S.below (bK V _)) d (aQ.lit V c m _ hm rfl f) (by omega) g).mono ?_;rintro e W ⟨rfl,i⟩;exact⟨rfl,CI i⟩
end
theorem zB(w:World)(t:iW)(q:lu):aO ((w.alloc (.cells t.L.toArray 47)).alloc (.cells q.L.toArray 30)) w.heap.size 47 t.L:=
 (aO.new w 47 t.L).below (bK _ _)
theorem OV(w:World):Calls x_ 49 #[.agg nS.L.toArray] w λ e w'=>e=.returned (.int .i64 1)/\Below w.heap.size w w':=by
 have d:=bK w (.cells nS.L.toArray 47);have b:=aO.new w 47 nS.L;have f:p6 [] [] 0=false:=by decide
 have i:bI (∀W:World,Calls x_ 111 #[.agg #[.slice none 0 0,.slice none 0 0,.int .i64 0]] W λ e w'=>e=.returned (.int .i64 1)/\Below W.heap.size W w'):=U λ W=>by
  have h:=CZ (y:=0) (h:=aQ.nil W none 0 (p_ _)) (h':=aQ.nil W none 0 (p_ _));rw[f] at h;exact h
 have c:=U d;simp only[iW.L,nS,mM] at b;clear d;simp only[iW.L,nS,mM];go_enter Tryz.func49,Tryz.ntmps49
 go_upto_region 1 with fail
 have y:=b.cell;have j:=y 0;have k:=y 1;have l:=y 2;have m:=y 3;have n:=y 4;have p:=y 5;have q:=y 6;have r:=y 7;simp only[z_,y_] at j k l m n p q r;clear y b f;change bI (Below _ w (w.alloc (.cells #[.int .i64 0,.slice none 0 0,.slice none 0 0,.slice none 0 0,.slice none 0 0,.int .i64 0,.slice none 0 0,.slice none 0 0] 47))) at c;generalize w.alloc (.cells #[.int .i64 0,.slice none 0 0,.slice none 0 0,.slice none 0 0,.slice none 0 0,.int .i64 0,.slice none 0 0,.slice none 0 0] 47)=W at*
 go_wp2_with (go_at_call 111;refine(i.o _).mono ?_;rintro e t ⟨rfl,g⟩;have s:=U g;clear g)
 go_ret;exact⟨rfl,c.o.trans (s.o.mono c.o.size)⟩
end
section
open Go.RowKit Go.Shelf
def nF(w:World)(b n m:Nat)(S:List Int):Prop:=
 ∃D:DataW Unit,w.ownsMap x_ 3 (plainElem x_ 4) b n D/\Am tC D (wg S)/\Maps.size D=m
theorem nF.oL{w:World}{b m:Nat}(h:nF w b n m S):mV 4 tC w b n (wg S):=by
 obtain⟨D,h1,c,_⟩:=h;exact⟨D,h1,c⟩
theorem nF.mono{w:World}{b n gB m:Nat}{S:List Int}(h:nF w b n m S)(c:n<=gB):nF w b gB m S:=by
 obtain⟨D,h1,d⟩:=h;exact⟨D,h1.mono c,d⟩
theorem nF.more{w:World}{b m:Nat}(h:nF w b n m S):nF w b (n+1) m S:=h.mono (Nat.le_succ n)
theorem nF.le{w:World}{b m:Nat}(h:nF w b n m S):m<=n:=by
 obtain⟨D,h1,c,rfl⟩:=h;exact h1.size_le
theorem nF.made(w:World):nF (w.alloc (.map #[] 0)) w.heap.size 0 0 []:=
 ⟨_,World.ownsMap_made w _ _ _,⟨λ x _=>rfl,λ x v _ h=>by cases h⟩,rfl⟩
theorem nF.lt{w:World}{b n m:Nat}{S:List Int}(h:nF w b n m S):b<w.heap.size:=h.oL.lt
theorem nF.kept{w w':World}{b n m:Nat}{S:List Int}{row:Option Nat}(h:nF w b n m S)(c:w.grownBy w' row)(d:some b≠row):nF w' b n m S:=by
 obtain⟨D,h1,e⟩:=h;exact⟨D,h1.kept c d,e⟩
theorem nF.below{w:World}{b m:Nat}(h:nF w b n m S)(c:Below B w w')(d:b<B):nF w' b n m S:=by
 obtain⟨D,⟨es,clock,h1,e⟩,f⟩:=h;exact⟨D,⟨es,clock,(c.block b d).trans h1,e⟩,f⟩
theorem nF.look{t:TypeId}(c:x_.underlying t=some (.map 3 4)){w:World}{b n m:Nat}{S:List Int}(h:nF w b n m S){x:Int}(d:r0 x=true):
  (Instr.lookup t (.map (some b)) (.int .i64 x) false).run x_ w=.ok (.bool (hasB S x)) w:=by
 rw[h.oL.look BQ c d,KZ]
theorem nF.len{t:TypeId}(c:x_.underlying t=some (.map 3 4)){w:World}{b n m:Nat}{S:List Int}(h:nF w b n m S)(ty:TypeId):
  (Builtin.len_ #[t] ty #[.map (some b)]).run x_ w=.ok (.int .i64 (m:Int)) w:=by
 obtain⟨D,h1,d,rfl⟩:=h;exact h1.len c ty
def xC(m:Nat)(S:List Int):Prop:=(m=0↔S=[])/\(m=1↔S≠ []/\∀x∈S,∀y∈S,x=y)
theorem xC.nil:xC 0 []:=⟨⟨λ _=>rfl,λ _=>rfl⟩,⟨λ h=>absurd h (by omega),λ h=>absurd rfl h.1⟩⟩
theorem xC.put{m:Nat}(h:xC m S)(x:Int):xC (if hasB S x=true then m else m+1) (S++[x]):=by
 obtain⟨i,h1⟩:=h
 by_cases g:hasB S x=true
 ·rw[if_pos g];have hm:=qR.1 g;have n:S≠ []:=λ e=>by rw[e] at hm;cases hm
  refine⟨⟨λ e=>absurd (i.1 e) n,λ e=>by simp at e⟩,⟨λ e=>⟨by simp,λ a d b f=>?_⟩,λ⟨_,j⟩=>h1.2 ⟨n,λ a d b f=>j a (by simp[d]) b (by simp[f])⟩⟩⟩;have key:∀c∈S++[x],c∈S:=λ c k=>(u_.1 k).elim id λ k=>by rw[v_.1 k];exact hm
  exact(h1.1 e).2 a (key a d) b (key b f)
 ·rw[if_neg g];have hm:x∉S:=λ hm=>g (qR.2 hm)
  refine⟨⟨λ e=>by omega,λ e=>by simp at e⟩,⟨λ e=>?_,λ⟨_,j⟩=>?_⟩⟩
  ·have l:S=[]:=i.1 (by omega);subst l;exact⟨by simp,λ a d b f=>by simp at d f;rw[d,f]⟩
  ·have l:S=[]:=by
    cases S with
    |nil=>rfl
    |cons y S=>
     have:=j x (by simp) y (by simp);exact absurd (by rw[this];simp) hm
   have:=i.2 l;omega
theorem nF.put{t:TypeId}(e:x_.underlying t=some (.map 3 4)){w:World}{b n m:Nat}{S:List Int}(h:nF w b n m S)(f:n<maxLen){x:Int}(c:r0 x=true):
  ∃w',(Instr.mapUpdate t (.map (some b)) (.int .i64 x) (.bool true)).run x_ w=.ok () w'/\nF w' b (n+1) (if hasB S x=true then m else m+1) (S++[x])/\w.mapTurned w' b:=by
 obtain⟨D,h1,d,g⟩:=h;obtain⟨w',i,j,k⟩:=h1.store (Maps.int_keyed Zw) e f (Maps.keyOf_int_mk Zw c) (BQ.Al true trivial);refine⟨w',i,⟨_,j,?_,?_⟩,k⟩
 ·rw[<-K1];exact d.put h1.isMap x true
 ·rw[Maps.size_put (h1.tidy (Maps.int_keyed Zw)),d.1 x c,K0,g]
end
section
open Go.RowKit Go.Shelf Go.Lib
theorem Er(x:Int)(w:World)(b:x≠0)(h1: -65536<=x)(c:x<=65536):Calls x_ 241 #[.int .i64 x] w λ e w'=>e=.returned (.bool true)/\w=w':=by
 go_enter Tryz.func241,Tryz.ntmps241
 go_wp2;go_ret;exact⟨mo (by simp[b,h1,c]),rfl⟩
def o5(T l:List Int):List Int:=l.filter λ x=> !(hasB T (-x))
theorem OW(h:k<l.length):o5 T (l.take (k+1))=if hasB T (-(iJ l k))=true then o5 T (l.take k) else o5 T (l.take k)++[iJ l k]:=by
 unfold o5;rw[s9 l k h,List.filter_append]
 cases b:hasB T (-(iJ l k))<;>simp[b]
structure tI(T l:List Int)(f:Int)(od:Bool):Prop where
 yes:od=true->∀x∈l,-x∈T
 one:f≠0->od=false/\Cz T l f
 no:od=false->f=0->¬(∀x∈l,-x∈T)/\∀g,g≠0->¬Cz T l g
theorem xD:x∈o5 T l↔x∈l/\ -x∉T:=by
 unfold o5;rw[List.mem_filter,Bool.not_eq_true',<-Bool.not_eq_true,qR]
theorem tI.OX(h:k<l.length)(h1: -(iJ l k)∉T)(f:iJ l k∈T):tI T l 0 false:=by
 have hm:=vM h;refine⟨λ h=>(by cases h),λ h=>absurd rfl h,λ _ _=>⟨λ i=>h1 (i _ hm),λ g j ⟨a,b,c,d⟩=>?_⟩⟩;rcases d _ hm with e|e
 ·exact b (e▸f)
 ·exact h1 e
theorem tI.OY(h:o5 T l=[]):tI T l 0 true:=
 ⟨λ _ x b=>Zu λ c=>absurd (show x∈o5 T l from xD.2 ⟨b,c⟩) (by rw[h];exact g_),λ h=>absurd rfl h,λ h=>(by cases h)⟩
theorem tI.OZ{f:Int}(b:f∈o5 T l)(c:∀x∈o5 T l,∀y∈o5 T l,x=y)(d:∀x∈o5 T l,x∉T)(g:f≠0):tI T l f false:=by
 obtain⟨h1,i⟩:=xD.1 b;refine⟨λ h=>(by cases h),λ _=>⟨rfl,h1,d f b,i,λ x j=>?_⟩,λ _ h=>absurd h g⟩;rcases Classical.em (-x∈T) with e|e
 ·exact .inr e
 ·exact .inl (c x (xD.2 ⟨j,e⟩) f b)
theorem tI.O0{m:Nat}(hm:xC m (o5 T l))(f:m≠0)(h1:m≠1):tI T l 0 false:=by
 refine⟨λ h=>(by cases h),λ h=>absurd rfl h,λ _ _=>⟨λ i=>f (hm.1.2 ?_),λ g w ⟨a,b,c,d⟩=>h1 (hm.2.2 ⟨?_,?_⟩)⟩⟩
 ·cases j:o5 T l with
  |nil=>rfl
  |cons y r=>
   have k:y∈o5 T l:=by rw[j];simp
   obtain⟨n,o⟩:=xD.1 k;exact absurd (i y n) o
 ·intro e;have:g∈o5 T l:=xD.2 ⟨a,c⟩;rw[e] at this;cases this
 ·intro x p y q;obtain⟨s,t⟩:=xD.1 p;obtain⟨u,v⟩:=xD.1 q;rw[(d x s).resolve_right t,(d y u).resolve_right v]
theorem O1(b m ai:Nat)(T:List Int)(A:Option Addr)(n c:Nat)(l:List Int)(w:World)(E:nF w b m ai T)(h:aQ w A n c l)(hl:∀x∈l,x≠0/\ -65536<=x/\x<=65536):
  Calls x_ 243 #[.map (some b),.slice A n c] w λ e w'=>∃(f:Int)(M:Bool),e=.returned (.tuple #[.int .i64 f,.bool M])/\tI T l f M/\Below w.heap.size w w':=by
 have av:=h.small;have H:=U h;have N:=U E;have O:=U hl;have P:=U E.lt;clear h E hl;have aw:= @run_makeMap x_;go_enter Tryz.func243,Tryz.ntmps243
 go_wp2;have F:=nF.made w;have G:Below w.heap.size w (w.alloc (.map #[] 0)):=(Zx _ _).alloc (h_ _) _;generalize aj:w.alloc (.map #[] 0)=W at F G⊢;clear aj;have ak:=U F;have al:=U G;clear F G
 go_loopw [4,12] (λ q i wr=>∃(k m1:Nat)(f:Int),k<=n/\i=.int .i64 k/\q=.int .i64 f/\nF wr w.heap.size k m1 (o5 T (l.take k))/\xC m1 (o5 T (l.take k))/\(∀x∈o5 T (l.take k),x∉T)/\(o5 T (l.take k)≠ []->f∈o5 T (l.take k))/\Below w.heap.size w wr) (λ _ i _=>n-(intOf i).toNat)
 case atStart=>exact⟨0,0,0,p_ _,rfl,rfl,ak.o,xC.nil,λ x s=>by simp[o5] at s,λ h=>absurd rfl h,al.o⟩
 case round=>
  obtain⟨k,m1,f,hk,rfl,rfl,Q,R,S,V,X⟩:=hrel;have v:=U Q;have d:=U (w_ R (w_ S V));have j:=U X;clear Q R S V X
  by_cases Y:k<n
  ·obtain⟨ax,off,rfl,ay,Z⟩:=(H.o.below j.o).cells (by omega);have an:=Z k Y;clear Z;have hl:k<l.length:=by rw[H.o.len];exact Y
   have r:=O.o _ (vM hl);have aa:=U (OW (T:=T) hl);have ao:=U (w_ hl r);obtain⟨x,s⟩:∃x,iJ l k=x:=⟨_,rfl⟩
   rw[s] at an r;have I:bI (∀W:World,Calls x_ 241 #[.int .i64 x] W λ e w'=>e=.returned (.bool true)/\W=w'):=U λ W=>Er x W r.1 r.2.1 r.2.2
   have z:r0 x=true:=za (by omega) (by omega);have aq:r0 (-x)=true:=za (by omega) (by omega);have wn:Zv.wrap (-x)= -x:=by rw[m_];omega
   have ab:=(N.o.below j.o P.o).look Tryz.underlying228 aq;have J:=(N.o.below j.o P.o).look Tryz.underlying228 z;have C:=U s
   cases t:hasB T (-x) with
   |true=>
    rw[t] at ab;have D:=U t;clear t r hl s z J
    go_wp2_with (go_at_call 241;refine(I.o _).mono ?_;rintro e w' ⟨rfl,rfl⟩)
    go_roundw
    case rel=>
     have p:o5 T (l.take (k+1))=o5 T (l.take k):=by rw[aa.o,C.o,if_pos D.o]
     exact⟨k+1,m1,f,by omega,by go_num,rfl,by rw[p];exact v.o.more,by rw[p];exact d.o.1,by rw[p];exact d.o.2.1,by rw[p];exact d.o.2.2,j.o⟩
    case measure=>simp[intOf];omega
   |false=>
    rw[t] at ab;have D:=U t
    cases u:hasB T x with
    |true=>
     rw[u] at J;have K:=U u;clear t u r hl s z
     go_wp2_with (go_at_call 241;refine(I.o _).mono ?_;rintro e w' ⟨rfl,rfl⟩)
     go_ret2
     refine⟨0,false,rfl,tI.OX ao.o.1 ?_ ?_,j.o⟩
     ·rw[C.o,<-qR,D.o];exact Z6
     ·rw[C.o,<-qR];exact K.o
    |false=>
     rw[u] at J;have K:=U u;obtain⟨az,aA,ad,oZ⟩:=v.o.put Tryz.underlying114 (by unfold maxLen;omega) z;have ar:=U ad;have au:=U oZ;clear t u r hl s z ad oZ
     go_wp2_with (go_at_call 241;refine(I.o _).mono ?_;rintro e w' ⟨rfl,rfl⟩)
     go_roundw
     case rel=>
      have p:o5 T (l.take (k+1))=o5 T (l.take k)++[x]:=by rw[aa.o,C.o,if_neg (by rw[D.o];exact Z6)]
      refine⟨k+1,_,x,by omega,by go_num,rfl,by rw[p];exact ar.o,by rw[p];exact d.o.1.put x,?_,λ _=>by rw[p];simp,xx j.o au.o.grown j.o.size (λ g e=>by injection e with e;omega)⟩;rw[p];intro y B;rcases u_.1 B with B|B
      ·exact d.o.2.1 y B
      ·rw[v_.1 B,<-qR,K.o];exact Z6
     case measure=>simp[intOf];omega
  ·obtain rfl:k=n:=by omega
   have ae:l.take k=l:=List.take_of_length_le (by rw[H.o.len];omega);rw[ae] at v d;have hlen:=v.o.len Tryz.underlying114;have hle:=v.o.le;clear ae
   by_cases L:m1=0
   ·subst L;go_wp2
    go_ret2
    exact⟨0,true,rfl,tI.OY (d.o.1.1.1 rfl),j.o⟩
   ·by_cases h1:m1=1
    ·subst h1;go_wp2
     go_ret2
     have af:=d.o.1.2.1 rfl;have ag:=d.o.2.2 af.1;exact⟨f,false,rfl,tI.OZ ag af.2 d.o.2.1 (O.o f (xD.1 ag).1).1,j.o⟩
    ·have i0:¬(m1:Int)=0:=by omega
     have i1:¬(m1:Int)=1:=by omega
     have ah:=U (w_ L h1);clear L h1;go_wp2
     go_ret2
     exact⟨0,false,rfl,tI.O0 d.o.1 ah.o.1 ah.o.2,j.o⟩
end
end Go.Proofs.YtogdlkfacflmaaaGreat
