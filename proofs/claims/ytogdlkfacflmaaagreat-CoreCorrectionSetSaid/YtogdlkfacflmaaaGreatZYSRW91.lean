/- Parts of the walk of the solver and its core; no condition. -/
import Derived.Test.YtogdlkfacflmaaaGreatZY10
import Derived.Test.YtogdlkfacflmaaaGreatZY18
import Derived.Test.YtogdlkfacflmaaaGreatZY20
import Derived.Test.YtogdlkfacflmaaaGreatZY6
import Derived.Test.YtogdlkfacflmaaaGreatZY1
namespace Go.Proofs.YtogdlkfacflmaaaGreat
set_option linter.unusedVariables false
set_option linter.unusedSimpArgs false
set_option maxRecDepth 100000
set_option maxHeartbeats 16000000
open _root_.And renaming intro→z_
open _root_.List renaming getElem?_cons_zero→y_,getElem?_cons_succ→x_,length_cons→v_,mem_append→u_,mem_filter→t_,getD_eq_getElem?_getD→s_,length_filter_le→q_
open _root_.BitVec renaming ofInt→w_
open _root_.Go.Region renaming binds→r_
open _root_.Nat renaming zero_add→p_
open _root_.List.Sublist renaming refl→o_
variable{F ls:List (List Int)}{n aB:Nat}{ah core keep:List Int}{kind:Int}{m:List Bool}
section
open Go.RowKit Go.Lib
theorem mask(a:Int):∃r:Nat,r<=65535/\bits .and .i64 a 65535=(r:Int):=by
 refine⟨(w_ 64 a&&&w_ 64 65535).toNat,?_,?_⟩
 ·rw[BitVec.toNat_and];exact Nat.le_trans Nat.and_le_right (by decide)
 ·have h:(w_ 64 a&&&w_ 64 65535).toNat<=65535:=by
   rw[BitVec.toNat_and];exact Nat.le_trans Nat.and_le_right (by decide)
  show IntKind.i64.wrap ((w_ 64 a&&&w_ 64 65535).toNat:Int)=_;rw[IntKind.wrap_i64];omega
theorem uT(h:si F n ah 1073741824 kind m core aB):(kind=1/\core=[]/\Can F ah)\/(kind=2/\core.Sublist ah/\¬Can F core/\∀j,j<core.length->Can F (core.eraseIdx j)):=by
 obtain⟨_,⟨h1,b,c⟩|⟨h1,_,hs,hu,hm⟩|⟨_,_,_,d,_⟩⟩:=h
 ·exact .inl ⟨h1,b,c.can⟩
 ·exact .inr ⟨h1,hs,hu,hm⟩
 ·omega
theorem vN{b:Int}(he:kU (n:Int) ls ah b=0)(hs:core.Sublist ah):kU (n:Int) ls core b=0:=by
 obtain⟨c,hm,d,e⟩:=vg he;obtain⟨h1,f⟩:=wD hm;unfold kU;rw[if_pos c,AL (λ x g=>h1 x (hs.subset g)) (f.sublist (hs.map aD))];simp[d,e]
end
section
open Go.RowKit
theorem oB.A9{ds:List (Option Tmp)}{ws:List (List Nat)}{i:Nat}{aq:Operand->Value}:∀{old:List (Tmp×Value)},(old.all λ p=>uz ds ws i p.1)=true->oB ds ws i aq old->mV aq old
 |[],_,_=>trivial
 |p::r,h,b=>by
  rw[List.all_cons,Bool.and_eq_true] at h;exact⟨b.1 h.1,oB.A9 (old:=r) h.2 b.2⟩
section
variable {P:Program}{ds:List (Option Tmp)}{ws:List (List Nat)}{old:List (Tmp×Value)}{S:World->Prop}{cs:List Value}{jb iE:Nat}{iH:World}{aL:Value->World->Prop}
theorem Ba{kz:World}(m:jb≠iE){n:Nat}(q:((List.range n).all λ i=>old.all λ p=>uz ds ws i p.1)=true)(d:nT ws 8 iE jb=true)
  (M:S kz) (C:S iH) (D:∀v w',aL v w'->S w') {l:List Oper}
  (E:∀o,l[iE]? =some o->(o.after.toList.any λ e=>r_ .any e&&e.on==jb)=true)
  (F:∀o,l[jb]? =some o->∀b,mz ds cs jb iE b o.after.toList->mV b old->oC b->bh P b o kz λ v w'=>v=cs.getD jb undef/\w'=iH)
  (G:∀o,l[iE]? =some o->∀b,mz ds cs iE iE b o.after.toList->mV b old->oC b->bh P b o iH aL)
  (N:vA P ds ws old S cs kz jb iE 0 l):
  ∀(r:List Oper)(k:Nat),k+r.length<=n->(∀j,r[j]? =l[k+j]?)->vA P ds ws old S cs kz jb iE k r->s8 P ds ws old S (nB cs jb iE iH aL) (s9 jb iE) (λ w=>w=kz) jb k r
 |[],_,_,_,_=>trivial
 |o::r,k,H,hl,hs=>by
  refine⟨?_,Ba m q d M C D E F G N r (k+1) (by rw[v_] at H;omega) (λ j=>by rw[<-show(o::r)[j+1]? =r[j]? from rfl,hl (j+1)];congr 1;omega) hs.2⟩;intro vals w b I J f O hp;have s:=oB.A9 (by rw[List.all_eq_true] at q;exact q k (List.mem_range.2 (by rw[v_] at H;omega))) O;have t:l[k]? =some o:=by have:=hl 0;simpa using this.symm
  by_cases c:k=iE
  ·subst c;have hw:=mz.world m (E o t) f;subst hw;have g:=G o t b (mz.BO m f) s hp;refine bh.mono g λ v w' h=>⟨D v w' h,by unfold nB;rw[if_pos rfl];exact h,λ j u y Q _ _ z=>?_,λ _ K=>by rw[d] at K;cases K⟩
   unfold nB at*;rw[if_neg y] at*;have A:j≠jb:=λ e=>Q (by unfold s9;rw[if_pos e])
   rw[if_neg A] at*;exact z
  ·by_cases B:k=jb
   ·subst B;have hw:=J (.inr rfl);subst hw;have g:=F o t b (mz.of c f) s hp;refine bh.mono g λ v w' h=>?_
    obtain⟨rfl,rfl⟩:=h;refine⟨C,by unfold nB;rw[if_neg c,if_pos rfl];exact⟨rfl,rfl⟩,λ j u y _ L _ z=>?_,λ h=>absurd rfl h⟩;have A:j≠iE:=λ e=>by rw[e,d] at L;cases L
    unfold nB at*;rw[if_neg A,if_neg y] at*;exact z
   ·have g:=hs.1 B c b w I (λ d=>J (.inl d)) (mz.of c f) s hp;refine bh.mono g λ v w' h=>?_
    obtain⟨rfl,rfl⟩:=h;exact .same I (by unfold nB;rw[if_neg c,if_neg B])
end
theorem EY{P:Program}{id:Nat}{ops:Array Oper}{Q:Exit->Act->World->Prop}{a:Act}{w:World}(l:List Oper)(n jb iE N:Nat)(ds:List (Option Tmp))(ws:List (List Nat))(old:List (Tmp×Value))(S:World->Prop)(cs:List Value)(iH:World)(aL:Value->World->Prop)
  (B:ops=l.toArray) (hm:P.follows .mixedOrders=true)
  (C:ds=l.map λ o:Oper=>o.dst) (D:ws=l.map λ o:Oper=>(o.after.toList.filter (r_ .any)).map (·.on)) (hlen:l.length=n+1) (s:(rN l.toArray&&pT l.toArray&&tN l.toArray&&y7 ws n&&rO l.toArray N&&((List.range n).all λ i=>old.all λ p=>uz ds ws i p.1)&&nT ws 8 iE jb&&decide (jb<iE)&&decide (iE<n)&&((l.getD iE default).after.toList.any λ e=>r_ .any e&&e.on==jb))=true)
  (E:a.tmps.size=N) (hold:mV a.eval old) (t:S w.drew) (F:S iH) (G:∀v w',aL v w'->S w')
  (H:∀b,mz ds cs jb iE b (l.getD jb default).after.toList->mV b old->oC b->bh P b (l.getD jb default) w.drew λ v w'=>v=cs.getD jb undef/\w'=iH)
  (I:∀b,mz ds cs iE iE b (l.getD iE default).after.toList->mV b old->oC b->bh P b (l.getD iE default) iH aL)
  (y:vA P ds ws old S cs w.drew jb iE 0 (l.take n))
  (J:∀u v w',aL v w'->∀c,mJ (ds.take n) 0 (kH (kH (λ j=>cs.getD j undef) jb u) iE v) a=c->bh P c.eval (l.getD n default) w' λ v w'=>Q .normal (c.put (l.getD n default).dst v) w'):(Code.region id ops true).wp P Q a w:=by
 simp only[Bool.and_eq_true,decide_eq_true_eq] at s;obtain⟨⟨⟨⟨⟨⟨⟨⟨⟨c1,c2⟩,c3⟩,K⟩,L⟩,M⟩,O⟩,ab⟩,R⟩,T⟩:=s;have q:∀k o,l[k]? =some o->l.getD k default=o:=λ k o h=>by rw[s_,h];rfl
 have gt:∀k o,(l.take n)[k]? =some o->l[k]? =some o/\k<n:=λ k o h=>by
  rw[List.getElem?_take] at h;split at h
  ·exact⟨h,by assumption⟩
  ·cases h
 have U:l[n]? =some (l.getD n default):=by rw[s_,List.getElem?_eq_getElem (by omega)];rfl
 refine yg l n N ds ws old S (nB cs jb iE iH aL) (s9 jb iE) (λ w'=>w'=w.drew) jb B hm C D hlen c1 c2 c3 K L E hold t rfl (Ba (n:=n) (l:=l.take n) (by omega) M O t F G ?_ ?_ ?_ y _ 0 (by rw[p_,List.length_take];exact Nat.min_le_left _ _) (λ j=>by rw[p_]) y) _ U ?_
 ·intro o h;rw[<-q _ _ (gt _ _ h).1];exact T
 ·intro o h;rw[<-q _ _ (gt _ _ h).1];exact H
 ·intro o h;rw[<-q _ _ (gt _ _ h).1];exact I
 ·intro vals w' ad z c V;have W:∀j,j<n->vals j=kH (kH (λ j=>cs.getD j undef) jb (vals jb)) iE (vals iE) j:=λ j X=>by
   unfold kH
   by_cases e:j=iE
   ·rw[if_pos e,e]
   ·rw[if_neg e]
    by_cases m:j=jb
    ·rw[if_pos m,m]
    ·rw[if_neg m];have:=z j X (if_neg m);unfold nB at this
     rwa[if_neg e,if_neg m] at this
  have Y:aL (vals iE) w':=by
   have:=z iE R (if_neg (by omega));unfold nB at this
   rwa[if_pos rfl] at this
  refine J (vals jb) (vals iE) w' Y c ?_;rw[<-V];have Z:∀(r:List (Option Tmp))(k:Nat)(f g:Nat->Value)(a:Act),(∀j,k<=j->j<k+r.length->f j=g j)->mJ r k f a=mJ r k g a:=by
   intro r
   induction r with
   |nil=>intros;rfl
   |cons d r aa=>
    intro k f g a h;rw[mJ,mJ,h k (Nat.le_refl _) (by rw[v_];omega)];exact aa _ _ _ _ λ j h1 A=>h j (by omega) (by rw[v_];omega)
  exact(Z _ _ _ _ _ λ j _ A=>W j (by rw[List.length_take] at A;omega)).symm
end
section
open Go.RowKit Go.Lib
theorem Bb(h:tX F n keep ah 1073741824 kind m core aB):(kind=1/\tW F n keep m/\core=ah.filter (λ x=> !(kr m x))/\∀x∈core,¬Can F (keep++ah.filter (kr m)++[x]))\/(kind=2/\core.Sublist keep/\¬Can F core):=by
 obtain⟨_,⟨h1,b,c,d⟩|⟨h1,_,hs,hu⟩|⟨_,_,e,_⟩⟩:=h
 ·exact .inl ⟨h1,b,c,d⟩
 ·exact .inr ⟨h1,hs,hu⟩
 ·omega
theorem EZ{m2:List Bool}{c2:List Int}(c:tW F n keep m)(e:∀x∈core,¬Can F (keep++ah.filter (kr m)++[x]))(h:tX F n (keep++ah.filter (kr m)) core 1073741824 kind m2 c2 aB):kind=1/\c2=core:=by
 rcases Bb h with⟨h1,d,f,_⟩|⟨_,hs,hu⟩
 ·refine⟨h1,?_⟩;rw[f,List.filter_eq_self];intro x g
  cases i:kr m2 x with
  |false=>rfl
  |true=>
   exfalso;obtain⟨M,j,k⟩:∃M,sX M F/\∀y∈keep++ah.filter (kr m)++[x],M y=true:=⟨kr m2,⟨wh _,d.sat⟩,λ y b=>by
    rcases u_.1 b with h|h
    ·exact d.ah y h
    ·rw[List.mem_singleton.1 h];exact i⟩
   exact e x g ⟨M,j,k⟩
 ·exfalso;refine hu ⟨kr m,⟨wh _,c.sat⟩,λ y b=>?_⟩;rcases u_.1 (hs.subset b) with h|h
  ·exact c.ah y h
  ·exact(t_.1 h).2
theorem E0(b:tW F n keep m):Can F (keep++ah.filter (kr m)):=⟨kr m,⟨wh _,b.sat⟩,λ y c=>by
 rcases u_.1 c with h|h
 ·exact b.ah y h
 ·exact(t_.1 h).2⟩
theorem E1{a b:List Int}{aW:Int}(he:kU (n:Int) ls a aW=0)(hp:b.Perm a):kU (n:Int) ls b aW=0:=by
 obtain⟨c,hm,d,e⟩:=vg he;obtain⟨h1,f⟩:=wD hm;unfold kU;rw[if_pos c,AL (λ x g=>h1 x (hp.subset g)) ((hp.map aD).nodup_iff.2 f)];simp[d,e]
theorem I9(x:Int)(A:Option Addr)(nl cl:Nat)(ls:List (List Int))(ad:Option Addr)(d ae:Nat)(keep:List Int)(af:Option Addr)(nq ag:Nat)(ah:List Int)(k:Int)(w:World)(h:kE w A nl cl ls)(hk:aP w ad d ae keep)(bY:mq keep)(bc:aP w af nq ag ah)(bZ:mq ah):
  Calls Tryz.prog 9 #[.agg #[.int .i64 x,.slice A nl cl],.slice ad d ae,.slice af nq ag,.int .i64 k] w λ e w'=>e=.returned (.bool true)/\Below w.heap.size w w':=by
 have ai:Below w.heap.size w (w.alloc (.cells #[.int .i64 x,.slice A nl cl] 24)):=(Below.refl _ _).alloc (Nat.le_refl _) _;have av:=qm.new w x A nl cl;generalize b0:w.alloc (.cells #[.int .i64 x,.slice A nl cl] 24)=W at ai av;have s:=av.aY;have t:=av.c1;have l:=U (z_ ai av);have aw:=U (h.below ai);have aJ:=U (z_ (hk.below ai) (z_ hk.len bY));have T:=U (z_ (bc.below ai) (z_ bc.len bZ));have mO:=U (xP W);have b1:bF (∀W',Below W.heap.size W W'->Calls Tryz.prog 27 #[.agg #[.int .i64 x,.slice A nl cl],.slice ad d ae,.slice af nq ag] W' (vM W' x nl d nq)):=U λ W' bd=>xN x A nl cl ls ad d ae af nq ag W' (aw.o.below bd)
 clear h ai av hk bY bc bZ;go_enter Tryz.func9,Tryz.ntmps9
 go_upto_region 1 with fail
 try rw[b0]
 clear b0
 go_upto_region 3 with(go_at_call 26;refine mO.o.mono ?_;rintro e w1 ⟨rfl,bf⟩;have H1:=U bf;have c:=l.o.2.below bf;have s:=c.aY;have t:=c.c1;clear c bf)
 have b2:=U (b1.o w1 H1.o)
 go_upto_region 5 with(go_at_call 27;refine b2.o.mono ?_;rintro e cE hF;obtain⟨r,rfl,b3,b4⟩:=hF;have O:=U (H1.o.trans (b3.mono H1.o.size));have c:=l.o.2.below O.o;have s:=c.aY;have t:=c.c1;have b5:=U b4;clear c b3 b4;cases r)
 ·go_ret;exact⟨rfl,l.o.1.trans (O.o.mono l.o.1.size)⟩
 have b6:=b5.o (by trivial);have C:bF (x<=10/\nl<=60/\d<=20/\nq<=20):=U b6;clear b5 b6 mO b1 b2;have cF:=U (mask k);have bg:=U (wH x C.o.1 A nl cl ls ad d ae keep af nq ag ah 1073741824 cE (aw.o.below O.o) (aJ.o.1.below O.o) (T.o.1.below O.o) (sq aJ.o.2.2 T.o.2.2) (by have:=C.o;omega) (by have:=C.o;omega))
 by_cases he:kU x ls (keep++ah) 1073741824=0
 ·obtain⟨n,b,rfl,bd,b7,b8,cG⟩:=uS he;have aj:=U (z_ he (z_ b7 b8));clear he b7 b8 cG bd
  go_upto_region 6 with(go_at_call 29;refine bg.o.mono ?_;rintro e ak ⟨bj,aK,aL,aM,ax,f,V,bk,m3,al,dE,rfl,q⟩;obtain⟨rfl,G⟩:=q.res aj.o.1;have cH:=U (Bb G);have X:=q.jU;have M:=U (z_ (O.o.trans (X.mono O.o.size)) (z_ q.aC (z_ q.aC.len q.hm)));clear X G q s t)
  have P:=bC ak (.cells #[.int .i64 bj,.slice aK aL aM,.slice ax f V,.int .i64 (bk:Nat)] 30);have aN:=aR.new ak 30 [.int .i64 bj,.slice aK aL aM,.slice ax f V,.int .i64 (bk:Nat)];have t3:=(M.o.1).trans (P.mono (M.o.1).size);generalize ak.alloc (.cells #[.int .i64 bj,.slice aK aL aM,.slice ax f V,.int .i64 (bk:Nat)] 30)=cI at P aN t3⊢;generalize ak.heap.size=g3 at aN⊢;have H:=U (z_ t3 (z_ aN P));clear P aN t3;have c:=l.o.2.below H.o.1;have s:=c.aY;have t:=c.c1;clear c;have z:=H.o.2.1.cell;have I:=z 0;have J:=z 1;have K:=z 2;have q:=z 3;simp only[y_,x_] at I J K q;clear z;rcases cH.o with⟨rfl,b9,bl,b'⟩|⟨rfl,_,_⟩
  ·have Y:=U (z_ b9 (z_ bl b'));have dF:f<=20:=by have h1:=M.o.2.2.1;have aO:al.length<=ah.length:=(by rw[bl];exact q_ _ _);have X:=T.o.2.1;have:=C.o;omega
   clear b9 bl b';have bn:=U (show∀z∈ah,gP n z from λ z B=>aj.o.2.2 z (u_.2 (.inr B)));have ay:=U (I5 aK aL aM m3 af nq ag ah cI (M.o.2.2.2.below H.o.2.2) (T.o.1.below H.o.1) (λ z B=>⟨(bn.o z B).1,by have:=(bn.o z B).2;have:=C.o;omega⟩) (by have:=C.o;omega));rw[Iz Y.o.1.len bn.o] at ay;have bo:=q_ (kr m3) ah;obtain⟨ys,bp⟩:∃y,ah.filter (kr m3)=y:=⟨_,rfl⟩
   have an:=U bp;rw[bp] at ay bo;obtain⟨D,bq⟩:∃y,ys.length=y:=⟨_,rfl⟩
   rw[bq] at ay bo;have dG:D<=20:=by have:=T.o.2.1;have:=C.o;omega
   have dH:d<=20:=by have:=C.o;omega
   have dI:=U bq;clear bp bq bo
   go_upto_region 9 with(go_at_call 39;refine ay.o.mono ?_;rintro e j ⟨cJ,c1,dJ,c2,rfl,ca,-,br⟩;have E:=U (z_ (H.o.1.trans (br.mono H.o.1.size)) (z_ br ca));clear br ca s t I J K q)
   have ao:=Fp j j.heap.size j.heap.size 3 rfl (Nat.le_refl _);have cc:Below j.heap.size j (j.alloc (.cells #[] 3)):=bC j (.cells #[] 3);have aq:=U (z_ ao cc);clear ao cc ay bg
   go_upto_region 10 with(at_builtin;refine rB rfl (.tmp 55) (.tmp 56) rfl j.heap.size (.slice (some ⟨j.heap.size,0,none⟩) 0 0) 0 [] rfl aq.o.1 ad d ae keep rfl (aJ.o.1.below (E.o.1.trans (aq.o.2.mono E.o.1.size))) (by omega) aq.o.2.size ?_;intro v5 dK N;obtain⟨cK,cL,rfl,bs,cd⟩:=N.open aq.o.2 aq.o.2.size (λ g e=>(aq.o.1.lt g e).1);rw[List.nil_append,p_] at bs;have ar:=U (z_ bs cd);clear N bs cd)
   go_upto_region 11 with(at_builtin;refine rB rfl (.tmp 58) (.tmp 59) rfl j.heap.size (.slice cK d cL) d keep rfl ar.o.1 cJ D c1 ys rfl (E.o.2.2.below ar.o.2) (by omega) ar.o.2.size ?_;intro v6 cM N;obtain⟨Q,R,rfl,cf,bt⟩:=N.open ar.o.2 ar.o.2.size (λ g e=>(ar.o.1.lt g e).1);have F:=U (z_ cf (z_ bt (E.o.1.trans (bt.mono E.o.1.size))));clear N cf bt)
   have c:=l.o.2.below F.o.2.2;have s:=c.aY;have t:=c.c1;clear c;have bu:=U (show mq (keep++ys) from sq aJ.o.2.2 (λ z B=>T.o.2.2 z (by rw[<-an.o] at B;exact(t_.1 B).1)));have cg:=U (aP.kZ F.o.1 (by omega));have cN:=U (show kU (n:Int) ls (keep++ys) 1073741824=0 from vN aj.o.1 ((o_ keep).append (by rw[<-an.o];exact List.filter_sublist)));have cO:=U (sS n C.o.1 A nl cl ls Q (d+D) R (keep++ys) 1073741824 cM (aw.o.below F.o.2.2) cg.o bu.o (by omega) (by have:=C.o;omega))
   go_upto_region 12 with(go_at_call 28;refine cO.o.mono ?_;rintro e aQ ⟨cP,bw,bx,bz,bA,bB,bD,bG,m7,dL,dM,rfl,bH⟩;obtain⟨rfl,G⟩:=bH.res cN.o;obtain rfl:cP=1:=(uT G).elim (λ h=>h.1) (λ h=>absurd ((E0 (ah:=ah) Y.o.1).mono λ x cQ=>by rw[an.o];exact h.2.1.subset cQ) h.2.2.1);have bI:=bH.jU;have aS:=U (z_ (F.o.2.2.trans (bI.mono F.o.2.2.size)) bI);clear bI G bH s t)
   have aT:=bC aQ (.cells #[.int .i64 1,.slice bw bx bz,.slice bA bB bD,.int .i64 (bG:Nat)] 30);have lP:=aR.new aQ 30 [.int .i64 1,.slice bw bx bz,.slice bA bB bD,.int .i64 (bG:Nat)];have t7:=(aS.o.1).trans (aT.mono (aS.o.1).size);generalize aQ.alloc (.cells #[.int .i64 1,.slice bw bx bz,.slice bA bB bD,.int .i64 (bG:Nat)] 30)=cR at aT lP t7⊢;generalize aQ.heap.size=g7 at lP⊢;have Z:=U (z_ t7 (z_ lP aT));clear aT lP t7;have c:=l.o.2.below Z.o.1;have s:=c.aY;have t:=c.c1;clear c;have L:=U (aS.o.2.trans (Z.o.2.2.mono aS.o.2.size));have ch:=U (H.o.2.1.below (E.o.2.1.trans ((F.o.2.1.trans (L.o.mono F.o.2.1.size)).mono E.o.2.1.size)));have cj:=U ((M.o.2.1.below H.o.2.2).below (E.o.2.1.trans ((F.o.2.1.trans (L.o.mono F.o.2.1.size)).mono E.o.2.1.size)));have z:=ch.o.cell;have I:=z 0;have J:=z 1;have K:=z 2;have q:=z 3;simp only[y_,x_] at I J K q;clear z;have z:=Z.o.2.1.cell;have az:=z 0;have aA:=z 1;have aB:=z 2;have aD:=z 3;simp only[y_,x_] at az aA aB aD;clear z;have ck:((keep++ys)++al).Perm (keep++ah):=by
    rw[Y.o.2.1,<-an.o,List.append_assoc];exact(List.Perm.refl keep).append (List.filter_append_perm _ _)
   have cm:=U (show kU (n:Int) ls ((keep++ys)++al) 1073741824=0 from E1 aj.o.1 ck);have cn:=U (show mq al from λ z B=>T.o.2.2 z (by rw[Y.o.2.1] at B;exact(t_.1 B).1));clear ck;have cS:=U (wH n C.o.1 A nl cl ls Q (d+D) R (keep++ys) ax f V al 1073741824 cR (aw.o.below Z.o.1) (cg.o.below L.o) cj.o (sq bu.o cn.o) (by omega) (by have:=C.o;omega))
   go_upto_region 13 with(go_at_call 29;refine cS.o.mono ?_;rintro e aU ⟨cT,bJ,bK,bL,aV,aW,aX,bM,m8,aZ,dN,rfl,a6⟩;obtain⟨rfl,G⟩:=a6.res cm.o;obtain⟨rfl,rfl⟩:cT=1/\aZ=al:=EZ Y.o.1 Y.o.2.2 (by rw[an.o];exact G);have bN:=a6.jU;have aE:=U (z_ (Z.o.1.trans (bN.mono Z.o.1.size)) (z_ bN a6.aC));clear bN G a6 s t I J K q az aA aB aD)
   have a7:=bC aU (.cells #[.int .i64 1,.slice bJ bK bL,.slice aV aW aX,.int .i64 (bM:Nat)] 30);have a8:=aR.new aU 30 [.int .i64 1,.slice bJ bK bL,.slice aV aW aX,.int .i64 (bM:Nat)];have t8:=(aE.o.1).trans (a7.mono (aE.o.1).size);generalize aU.alloc (.cells #[.int .i64 1,.slice bJ bK bL,.slice aV aW aX,.int .i64 (bM:Nat)] 30)=cU at a7 a8 t8⊢;generalize aU.heap.size=g8 at a8⊢;have S:=U (z_ t8 (z_ a8 a7));clear a7 a8 t8;have c:=l.o.2.below S.o.1;have s:=c.aY;have t:=c.c1;clear c;have aa:=U (aE.o.2.1.trans (S.o.2.2.mono aE.o.2.1.size));have cp:=U (ch.o.below aa.o);have cV:=U (Z.o.2.1.below aa.o);have cW:=U (cj.o.below aa.o);have cX:=U (aE.o.2.2.below S.o.2.2);have z:=cp.o.cell;have I:=z 0;have J:=z 1;have K:=z 2;have q:=z 3;simp only[y_,x_] at I J K q;clear z;have z:=cV.o.cell;have az:=z 0;have aA:=z 1;have aB:=z 2;have aD:=z 3;simp only[y_,x_] at az aA aB aD;clear z;have z:=S.o.2.1.cell;have t0:=z 0;have t1:=z 1;have t2:=z 2;have t3:=z 3;simp only[y_,x_] at t0 t1 t2 t3;clear z;have cq:=U (yE aV aW aX ax f V aZ cU cX.o cW.o)
   go_upto_region 15 with(go_at_call 38;refine cq.o.mono ?_;rintro e bE ⟨rfl,aF⟩;have aG:=U aF;clear aF s t I J K q az aA aB aD t0 t1 t2 t3;have c:=l.o.2.below (S.o.1.trans (aG.o.mono S.o.1.size));have s:=c.aY;have t:=c.c1;clear c;have z:=(cp.o.below aG.o).cell;have I:=z 0;have J:=z 1;have K:=z 2;have q:=z 3;simp only[y_,x_] at I J K q;clear z)
   rcases Nat.eq_zero_or_pos f with B|B
   ·have cr:decide ((f:Int)=0)=true:=decide_eq_true (by omega);have ct:((f:Int)==0)=true:=beq_iff_eq.2 (by omega)
    go_wp2_with fail
    go_ret;exact⟨rfl,l.o.1.trans ((S.o.1.trans (aG.o.mono S.o.1.size)).mono l.o.1.size)⟩
   ·have cr:decide ((f:Int)=0)=false:=decide_eq_false (by omega);have ct:((f:Int)==0)=false:=by rw[beq_eq_false_iff_ne];omega
    obtain⟨r,dO,cY⟩:=cF.o;obtain⟨i,bO⟩:∃i:Nat,r%f=i:=⟨_,rfl⟩
    have bP:i<f:=by rw[<-bO];exact Nat.mod_lt _ B
    have cZ:Int.tmod (r:Int) (f:Int)=(i:Int):=by rw[<-bO];rfl
    have c0:IntKind.i64.wrap (i:Int)=(i:Int):=IntWalk.i64_in _ (by omega);have c4:¬f=0:=by omega
    have li:(i:Int)<(f:Int):=by omega
    have c5:(0:Int)<=(i:Int):=by omega
    have bR:=U (show Below j.heap.size j bE from F.o.2.1.trans ((L.o.trans (aa.o.mono L.o.size)).trans (aG.o.mono (L.o.trans (aa.o.mono L.o.size)).size)|>.mono F.o.2.1.size));have c6:=U ((M.o.2.1.below H.o.2.2).below E.o.2.1);obtain⟨P,a',c7,c8,cu⟩:=c6.o.cells B;subst c7;have ci:=cu i bP;obtain⟨z,bS⟩:∃z,jP aZ i=z:=⟨_,rfl⟩
    rw[bS] at ci;have cv:z∈aZ:=bS▸ue (by have:=M.o.2.2.1;omega);have bT:=U (z_ cv bP);have cw:=U (H.o.2.1.below E.o.2.1);have c9:=cw.o.lt;have bU:=cw.o.cell 2;simp only[y_,x_] at bU;have da:=U ((L.o.trans (aa.o.mono L.o.size)).trans (aG.o.mono (L.o.trans (aa.o.mono L.o.size)).size));have au:bF (Below j.heap.size j ((bE.alloc (lH [z])).drew)):=U (bR.o.trans (((bC bE (lH [z])).drew).mono bR.o.size));have bV:bF (((bE.alloc (lH [z])).drew).ownsRow j.heap.size 3 1 (.slice Q (d+D) R) (d+D) ((keep++ys).map (Value.int .i64))):=U (mh (mh F.o.1 da.o) ((bC bE (lH [z])).drew));have db:bF (aP ((bE.alloc (lH [z])).drew) (some ⟨bE.heap.size,0,none⟩) 1 1 [z]):=U ((aP.lit bE [z] 1 _ rfl rfl (by omega)).drew);clear cu bS cv cq bO
    go_upto_region 17 with fail
    clear s t I J K q cr ct;refine EY (qb Tryz.f9 17) 13 11 12 129 [some 103,some 104,some 105,some 106,some 107,some 108,some 109,some 110,some 111,some 112,some 113,some 114,some 115,some 13] _ [(13,.slice Q (d+D) R),(9,.pointer (some ⟨g3,0,none⟩)),(3,.int .i64 k)] (λ w'=>Below j.heap.size j w') [.slice Q (d+D) R,.pointer (some ⟨g3,2,none⟩),.slice (some ⟨P,a',none⟩) f V,.int .i64 k,.int .i64 (r:Int),.pointer (some ⟨g3,2,none⟩),.slice (some ⟨P,a',none⟩) f V,.int .i64 (f:Int),.int .i64 (i:Int),.pointer (some ⟨P,(a'+i),none⟩),.int .i64 z,.slice (some ⟨bE.heap.size,0,none⟩) 1 1,undef] ((bE.alloc (lH [z])).drew) (λ v w'=>mY ((bE.alloc (lH [z])).drew) j.heap.size 3 (.slice Q (d+D) R) (d+D+1) (((keep++ys)++[z]).map (Value.int .i64)) v w') (by kernel_rfl) (by kernel_rfl) (by kernel_rfl) rfl (by kernel_rfl) (by kernel_rfl) rfl ⟨rfl,rfl,rfl,trivial⟩ bR.o.drew au.o (λ v w' N=>?_) (λ aH ab bW hp=>?_) (λ aH ab bW hp=>?_) ?_ ?_
    ·obtain⟨cx,cy,-,-,ba⟩:=N.open au.o au.o.size (λ g e=>(bV.o.lt g e).1)
     exact ba
    ·have h1:aH (.tmp 113)=.int .i64 z:=ab.1 rfl (by decide) (by decide) _ rfl;show bh _ _ (Oper.mk _ _ _ _ _ _) _ _;simp[bh,execOp,bQ,go_sem,h1,lH]
    ·have h1:aH (.tmp 103)=.slice Q (d+D) R:=ab.1 rfl (by decide) (by decide) _ rfl;have aO:aH (.tmp 114)=.slice (some ⟨bE.heap.size,0,none⟩) 1 1:=ab.2.1 rfl (by decide) (by decide) _ rfl;obtain⟨v',w',g1,g2⟩:=zN ((bE.alloc (lH [z])).drew) 25 j.heap.size (.slice Q (d+D) R) (d+D) (keep++ys) bV.o (some ⟨bE.heap.size,0,none⟩) 1 1 [z] db.o (by omega) au.o.size;show bh _ _ (Oper.mk _ _ _ _ _ _) _ _;simp only[bh,execOp,resolve,invoke,builtin,Sem.run_bind,Sem.run_pure,Result.andThen_ok,List.map_toArray,List.map_cons,List.map_nil,h1,aO,g1,bQ];exact g2
    ·refine⟨?_,?_,?_,?_,?_,?_,?_,?_,?_,?_,?_,?_,?_,trivial⟩
     all_goals
      intro h1 aO aH w' cz _ ab bW hp
      first
       |exact absurd rfl h1
       |exact absurd rfl aO
       |(obtain⟨dc,dd,de,-⟩:=bW;have c2:=(cz.cell (p:=⟨g3,2,none⟩) c9).trans bU;have df:=(cz.cell (p:=⟨P,a'+i,none⟩) c8).trans ci;(try simp[mz,p9,r_] at ab);simp[bh,execOp,bQ,go_sem,dc,dd,de,ab,c2,df,cY,cZ,c0,c4,li,c5,bP,hp.1];done)
    intro u v kW N dP cA;obtain⟨cx,cy,rfl,cB,ba⟩:=N.open au.o au.o.size (λ g e=>(bV.o.lt g e).1)
    have aI:=U (z_ (E.o.1.trans (ba.mono E.o.1.size)) (aP.kZ cB (by omega)));clear N cB ba ci bU;simp[mJ,Act.put,kH] at cA;subst cA;rw[show((qb Tryz.f9 17).getD 13 default).dst=some 13 from rfl];show bh _ _ (Oper.mk _ _ _ _ _ _) _ _;simp[bh,execOp,bQ,go_sem,Act.eval,Act.put];have dh:=U (show kU (n:Int) ls ((keep++ys)++[z]) 1073741824=0 from vN cm.o ((o_ _).append (List.singleton_sublist.2 bT.o.1)));have di:=U (sS n C.o.1 A nl cl ls cx (d+D+1) cy ((keep++ys)++[z]) 1073741824 kW (aw.o.below aI.o.1) aI.o.2 (sq bu.o (λ y dj=>by rw[List.mem_singleton.1 dj];exact cn.o z bT.o.1)) (by omega) (by have:=C.o;omega));have c:=l.o.2.below aI.o.1;have s:=c.aY;have t:=c.c1;clear c
    go_upto_region 19 with(go_at_call 28;refine di.o.mono ?_;rintro e dk ⟨dm,dn,dp,dq,dr,dt,du,dv,m11,dQ,dR,rfl,bX⟩;obtain⟨rfl,G⟩:=bX.res dh.o;obtain rfl:dm=2:=(uT G).elim (λ h=>absurd h.2.2 (by have aF:=Y.o.2.2 z bT.o.1;rw[an.o] at aF;exact aF)) (λ h=>h.1);have cC:=bX.jU;have cD:=U (aI.o.1.trans (cC.mono aI.o.1.size));clear cC G bX s t)
    have t11:=(cD.o.trans ((bC dk (.cells #[.int .i64 2,.slice dn dp dq,.slice dr dt du,.int .i64 (dv:Nat)] 30)).mono cD.o.size))
    go_wp2_with fail
    go_ret;exact⟨rfl,l.o.1.trans (t11.mono l.o.1.size)⟩
  ·go_wp2_with fail
   go_ret;exact⟨rfl,l.o.1.trans ((H.o.1).mono l.o.1.size)⟩
 ·obtain⟨bb,ao⟩:∃e,kU x ls (keep++ah) 1073741824=e:=⟨_,rfl⟩
  rw[ao] at he;have B:(bb==0)=false:=by simpa using he
  have dS:(bb !=0)=true:=by simpa using he
  have dT:decide (bb=0)=false:=decide_eq_false he;have aj:=U ao;clear ao
  go_wp2_with (go_at_call 29;refine bg.o.mono ?_;rintro e ak ⟨kind,dw,dx,dy,dz,dA,dB,dC,m,core,dD,rfl,X⟩;obtain rfl:bb=dD:=aj.o.symm.trans X.he;have M:=U (O.o.trans (X.jU.mono O.o.size));clear X)
  go_ret;have t3:=M.o.trans ((bC ak (.cells #[.int .i64 kind,.slice dw dx dy,.slice dz dA dB,.int .i64 (dC:Nat)] 30)).mono M.o.size);exact⟨rfl,l.o.1.trans (t3.mono l.o.1.size)⟩
end
end Go.Proofs.YtogdlkfacflmaaaGreat
