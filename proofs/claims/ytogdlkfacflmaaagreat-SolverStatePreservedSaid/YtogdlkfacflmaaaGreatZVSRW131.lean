/- Parts of the walk of the solver and its core; no condition. -/
import Derived.Test.YtogdlkfacflmaaaGreatZV1
import Derived.Test.YtogdlkfacflmaaaGreatZV10
import Derived.Test.YtogdlkfacflmaaaGreatZV11
namespace Go.Proofs.YtogdlkfacflmaaaGreat
set_option linter.unusedVariables false
set_option linter.unusedSimpArgs false
set_option maxRecDepth 100000
set_option maxHeartbeats 16000000
open _root_.And renaming intro→z_
open _root_.List renaming getElem?_cons_zero→y_,getElem?_cons_succ→x_,take_of_length_le→v_,all_eq_true→p_,mem_range→o_,getElem?_eq_getElem→m_,any_eq_true→l_
open _root_.Go.IntKind renaming wrap_i64→w_,i64→u_
open _root_.Nat renaming zero_le→t_
open _root_.Go.Proofs.Tryz renaming prog→s_
open _root_.Go.RowKit.Below renaming refl→r_
open _root_.Bool renaming and_eq_true→q_
open _root_.Go.Value renaming bool→n_
open _root_.Go renaming wpQuiet_nil→k_
variable{a b l:List Int}{k n:Nat}{α:Type}{r:Bool}{ls:List (List Int)}
section
open Go.RowKit Go.Shelf Go.Lib
def QT(a b:List Int):Bool:=a==b
theorem QV:QT a b=true↔a=b:=by simp[QT]
theorem QY(h:a.length≠b.length):QT a b=false:=by
 unfold QT;rw[beq_eq_false_iff_ne];intro e;exact h (by rw[e])
theorem QZ(c:k<a.length)(d:k<b.length)(h:jv a k≠jv b k):QT a b=false:=by
 unfold QT;rw[beq_eq_false_iff_ne];intro e;subst e;exact h rfl
theorem Q0(c:k<a.length)(d:k<b.length)(h:a.take k=b.take k)(e:jv a k=jv b k):a.take (k+1)=b.take (k+1):=by
 rw[tK a k c,tK b k d,h,e]
theorem Q1(c:a.length=n)(d:b.length=n)(hk:¬k<n)(h:a.take k=b.take k):QT a b=true:=by
 rw[v_ (by omega),v_ (by omega)] at h;rw[QV];exact h
theorem Q2(A:Option Addr)(n c:Nat)(f:List Int)(A':Option Addr)(l c':Nat)(g:List Int)(w:World)(h:aN w A n c f)(h':aN w A' l c' g):
  Calls s_ 68 #[.slice A n c,.slice A' l c'] w λ e w'=>e=.returned (.bool (QT f g))/\∃q,w'=w.drewN q:=by
 have v:=h.small;have y:=h'.small;have H:=U h;have j:=U h';clear h h'
 by_cases m:n=l
 ·subst m;go_enter Tryz.func68,Tryz.ntmps68
  go_wp2
  go_loopw [5] (λ i wr=>∃k q:Nat,k<=n/\i=.int .i64 k/\f.take k=g.take k/\wr=w.drewN q) (λ i _=>n-(intOf i).toNat)
  case atStart=>exact⟨0,0,t_ _,rfl,rfl,rfl⟩
  case round=>
   obtain⟨k,q,hk,rfl,p,rfl⟩:=hrel;have r:=U p;clear p
   by_cases d:k<n
   ·obtain⟨b,off,rfl,u,s⟩:=H.o.cells (by omega);have z:=s k d;clear s;obtain⟨B,C,rfl,D,t⟩:=j.o.cells (by omega);have E:=t k d;clear t;have F:(k:Int)<(n:Int):=by omega
    go_wp2_with fail
    go_quiet (fail)
    go_wp2
    ·have m:(jv f k !=jv g k)=true:=by assumption
     go_ret;exact⟨lS (QZ (by rw[H.o.len];exact d) (by rw[j.o.len];exact d) (by simpa using m)).symm,_,World.drewN_drewN ..⟩
    ·have heq:(jv f k !=jv g k)=false:=by assumption
     go_roundw
     case rel=>exact⟨k+1,_,by omega,by go_num,Q0 (by rw[H.o.len];exact d) (by rw[j.o.len];exact d) r.o (by simpa using heq),rfl⟩
     case measure=>simp[intOf];omega
   ·go_wp2;go_ret;exact⟨lS (Q1 H.o.len j.o.len d r.o).symm,q,rfl⟩
 ·have u:((n:Int) !=(l:Int))=true:=by rw[bne_iff_ne];omega
  go_enter Tryz.func68,Tryz.ntmps68
  go_wp2;go_ret;exact⟨lS (QY (by rw[H.o.len,j.o.len];exact m)).symm,0,rfl⟩
theorem QW(r:Bool)(A:Option Addr)(n c:Nat)(b:List Int)(A':Option Addr)(d c':Nat)(f:List Int)(w:World)(h:aN w A n c b)(h':aN w A' d c' f)(g:QT b f=r):
  Calls s_ 68 #[.slice A n c,.slice A' d c'] w λ e w'=>e=.returned (.bool r)/\Below w.heap.size w w':=
 (Q2 A n c b A' d c' f w h h').mono λ _ _ ⟨he,q,i⟩=>⟨by rw[he,g],by rw[i];exact tL w q⟩
def QU(a b:List (List Int)):Bool:=a==b
theorem QX{a b:List (List Int)}:QU a b=true↔a=b:=by simp[QU]
theorem Q3{a b:List (List Int)}(h:a.length≠b.length):QU a b=false:=by
 unfold QU;rw[beq_eq_false_iff_ne];intro e;exact h (by rw[e])
theorem Q4{a b:List (List Int)}(h:QT (oR a k) (oR b k)=false):QU a b=false:=by
 unfold QU;rw[beq_eq_false_iff_ne];intro e;subst e;simp[QT] at h
theorem Q5{a b:List (List Int)}(c:k<a.length)(d:k<b.length)(h:a.take k=b.take k)(e:QT (oR a k) (oR b k)=true):a.take (k+1)=b.take (k+1):=by
 rw[CS a k c,CS b k d,h,QV.1 e]
theorem Q6{a b:List (List Int)}(c:a.length=n)(d:b.length=n)(hk:¬k<n)(h:a.take k=b.take k):QU a b=true:=by
 rw[v_ (by omega),v_ (by omega)] at h;rw[QX];exact h
theorem Q7(A:Option Addr)(n c:Nat)(ls:List (List Int))(A':Option Addr)(g c':Nat)(j:List (List Int))(w:World)(h:mc w A n c ls)(h':mc w A' g c' j):
  Calls s_ 55 #[.slice A n c,.slice A' g c'] w λ e w'=>e=.returned (.bool (QU ls j))/\Below w.heap.size w w':=by
 have O:=h.small;have P:=h'.small;have H:=U h;have l:=U h';clear h h'
 by_cases r:n=g
 ·subst r;go_enter Tryz.func55,Tryz.ntmps55
  go_wp2
  go_loopw [5] (λ i wr=>∃k:Nat,k<=n/\i=.int .i64 k/\ls.take k=j.take k/\Below w.heap.size w wr) (λ i _=>n-(intOf i).toNat)
  case atStart=>exact⟨0,t_ _,rfl,rfl,r_ _ _⟩
  case round=>
   obtain⟨k,hk,rfl,s,t⟩:=hrel;have v:=U s;have d:=U t;clear s t
   by_cases f:k<n
   ·obtain⟨b,off,rfl,y,z⟩:=(H.o.below d.o).cells (by omega);obtain⟨a1,Q,c1,I,B⟩:=z k f;clear z;obtain⟨J,K,rfl,L,C⟩:=(l.o.below d.o).cells (by omega);obtain⟨a2,R,c2,M,D⟩:=C k f;clear C;have S:(k:Int)<(n:Int):=by omega
    have E:=U B;have F:=U D;clear B D;have gk:=λ u:oD wr=>u.cell (p:=⟨b,off+k,none⟩) y I
    have T:=λ u:oD wr=>u.cell (p:=⟨J,K+k,none⟩) L M
    generalize G:QT (oR ls k) (oR j k)=o;have m:=U G;clear G
    cases o
    ·go_wp2_with fail
     refine A9 (by kernel_rfl) (by kernel_rfl) ?_
     repeat (go_big_quiet_step ((go_at_call 68;exact oD.call _ (QW false _ _ _ _ _ _ _ _ _ (E.o.below (oD.ok _)) (F.o.below (oD.ok _)) m.o))))
     refine k_ ?_;rintro _ ⟨⟨N,q⟩,rfl⟩
     go_wp2_with fail
     go_ret;exact⟨lS (Q4 m.o).symm,d.o.trans (q.mono d.o.size)⟩
    ·go_wp2_with fail
     refine A9 (by kernel_rfl) (by kernel_rfl) ?_
     repeat (go_big_quiet_step ((go_at_call 68;exact oD.call _ (QW true _ _ _ _ _ _ _ _ _ (E.o.below (oD.ok _)) (F.o.below (oD.ok _)) m.o))))
     refine k_ ?_;rintro _ ⟨⟨N,q⟩,rfl⟩
     go_wp2_with fail
     go_roundw
     case rel=>exact⟨k+1,by omega,by go_num,Q5 (by rw[H.o.len];exact f) (by rw[l.o.len];exact f) v.o m.o,d.o.trans (q.mono d.o.size)⟩
     case measure=>simp[intOf];omega
   ·go_wp2;go_ret;exact⟨lS (Q6 H.o.len l.o.len f v.o).symm,d.o⟩
 ·have y:((n:Int) !=(g:Int))=true:=by rw[bne_iff_ne];omega
  go_enter Tryz.func55,Tryz.ntmps55
  go_wp2;go_ret;exact⟨lS (Q3 (by rw[H.o.len,l.o.len];exact r)).symm,r_ _ _⟩
theorem EO(q:Nat)(h:q<4611686018427387904):bits .and .i64 (q:Int) 1=(q:Int)%2:=by
 have h:=bits_mask .i64 63 (by decide) (λ n b h1=>by rw[w_];omega) 1 (by decide) (q:Int) (by omega) (by omega);exact h
theorem EP(n k:Nat)(w:World)(G:n<=60)(hk:k<4611686018427387904):
  Calls s_ 59 #[.int .i64 n,.int .i64 k] w λ e w'=>∃A c,e=.returned (.slice A (n+1) c)/\kS w' A (n+1) c (nN n k)/\Below w.heap.size w w':=by
 obtain⟨i0,f,g,i,l⟩:=info_parts yf;have H:∀W:World,(Instr.makeSlice 28 (.int .i64 ((n:Int)+1)) (.int .i64 ((n:Int)+1))).run s_ W=.ok (.slice (some ⟨W.heap.size,0,none⟩) (n+1) (n+1)) (W.alloc (.cells (madeCells #[n_ false] (n+1)) 4)):=λ W=>by
  have:=run_make (P:=s_) W 28 4 i0 (.bool false) Tryz.underlying28 f g .i64 .i64 ((n:Int)+1) ((n:Int)+1) (by omega) (by omega) (by rw[l];omega) (by omega);rw[i,show((n:Int)+1).toNat=n+1 by omega,Nat.mul_one] at this;exact this
 have wn:u_.wrap ((n:Int)+1)=(n:Int)+1:=by rw[w_];omega
 clear f g i l;have m:(w.alloc (.cells (madeCells #[n_ false] (n+1)) 4)).ownsRow w.heap.size 4 1 (.slice (some ⟨w.heap.size,0,none⟩) (n+1) (n+1)) (n+1) ((rN n k 0).map n_):=by
  refine⟨by simp[AT],.inr ⟨_,_,_,rfl,Nat.le_refl _,heap_alloc_new _ _,Nat.le_refl _,by unfold maxLen;omega,by rw[size_madeCells];simp,?_⟩⟩;rw[toList_madeCells_one,v_ (by simp),II,List.map_replicate]
 have p:=bg w (.cells (madeCells #[n_ false] (n+1)) 4);have y:=U m;have z:=U p;clear m p;go_enter Tryz.func59,Tryz.ntmps59
 go_wp2
 go_loopw [6] (λ v W=>∃j:Nat,j<=n/\v=.int .i64 ((j:Int)+1)/\W.ownsRow w.heap.size 4 1 (.slice (some ⟨w.heap.size,0,none⟩) (n+1) (n+1)) (n+1) ((rN n k j).map n_)/\Below w.heap.size w W) (λ v _=>n+1-(intOf v).toNat)
 case atStart=>exact⟨0,t_ _,rfl,y.o,z.o⟩
 case round=>
  obtain⟨j,I,rfl,b,d⟩:=hrel;have r:=U b;have s:=U d;have J:=(b.lt w.heap.size rfl).2;have B:k/2^j<=k:=Nat.div_le_self _ _;have C:k/2^(j+1)=k/2^j/2:=by rw[Nat.pow_succ,Nat.div_div_eq_div_mul]
  have t:=IL k j;obtain⟨q,u⟩:∃q,k/2^j=q:=⟨_,rfl⟩
  rw[u] at t C B
  by_cases D:j<n
  ·have E:(j:Int)+1<=(n:Int):=by omega
   have K:(j:Int)+1<(n:Int)+1:=by omega
   have cl:wr.cell? ⟨w.heap.size,j+1,none⟩=some (.bool (jr (rN n k j) (j+1))):=by
    have:=b.cellAt (j:=j+1) (by omega);rw[this,List.getElem?_map];unfold jr;rw[List.getD_eq_getElem?_getD,m_ (by rw[AT];omega)];rfl
   have L:wr.frozen? ⟨w.heap.size,j+1,none⟩=false:=b.frozenAt (j+1);clear b d;have M:(j:Int)+1-1=j:=by omega
   have N:u_.wrap ((j:Int)+1-1)=j:=by rw[w_];omega
   go_wp2;refine⟨⟨j+1,by omega,by go_num,?_,s.o.setCell (Nat.le_refl _) _⟩,by simp[intOf];omega⟩;have h1:=C0 (k:=j+1) r.o (.bool (bits .and .i64 ((k:Int)/2^j) 1==1));rw[<-IJ n k j D,t,List.map_set];have hm:(bits .and .i64 ((k:Int)/2^j) 1==1)=decide ((q:Int)%2=1):=by
    have F:(k:Int)/2^j=(q:Int):=by rw[<-u];push_cast;rfl
    rw[F,EO q (by omega)];rfl
   rw[hm] at h1⊢;exact h1
  ·obtain rfl:j=n:=by omega
   have E:¬(j:Int)+1<=(j:Int):=by omega
   clear b d;go_wp2;go_ret;refine⟨_,_,rfl,?_,s.o⟩;rw[<-IK];exact kS.lq r.o (by omega)
def s7(n k:Nat)(ls:List (List Int))(b:List Int):Bool:=ls.all (oF (nN n k))&&b.all (oa (nN n k))
def se(n:Nat)(ls:List (List Int))(b:List Int):Bool:=(List.range (2^n)).any λ k=>s7 n k ls b
theorem A5{p:α->Bool}{l:List α}(h:(l.take k).all p=r)(he:¬(k<l.length/\r=true)):l.all p=r:=by
 cases r with
 |true=>rw[v_ (by have:¬k<l.length:=λ h=>he ⟨h,rfl⟩;omega)] at h;exact h
 |false=>
  rw[List.all_eq_false] at h⊢;obtain⟨x,b,e⟩:=h;exact⟨x,List.mem_of_mem_take b,e⟩
theorem yy{p:α->Bool}{l:List α}(hk:k<l.length)(h:(l.take k).all p=true):(l.take (k+1)).all p=p l[k]:=by
 rw[List.take_add_one,List.all_append,h,m_ hk];simp
theorem A6{p:α->Bool}{l:List α}{aO:Bool}(h:(aO&&(l.take k).all p)=r)(he:¬(k<l.length/\r=true)):(aO&&l.all p)=r:=by
 cases aO with
 |false=>exact h
 |true=>
  rw[Bool.true_and] at h⊢;exact A5 h he
theorem ER(n:Nat)(ar:n<=60)(A:Option Addr)(nl cl:Nat)(ls:List (List Int))(V:Option Addr)(nq X:Nat)(g:List Int)(w:World)(h:mc w A nl cl ls)(M:aN w V nq X g):
  Calls s_ 57 #[.int .i64 n,.slice A nl cl,.slice V nq X] w λ e W=>e=.returned (.bool (se n ls g))/\Below w.heap.size w W:=by
 have ba:=h.small;have bb:=M.small;have H:=U (z_ h M);have Y:=U ar;clear h M;go_enter Tryz.func57,Tryz.ntmps57
 go_wp2_with fail
 go_loopw [7] (λ q W=>∃k:Nat,k<=2^n/\q=.int .i64 (k:Int)/\Below w.heap.size w W/\∀j,j<k->s7 n j ls g=false) (λ q _=>2^n-(intOf q).toNat)
 case atStart=>exact⟨0,t_ _,rfl,r_ _ _,λ j h=>by omega⟩
 case round=>
  obtain⟨k,hk,rfl,Z,ab⟩:=hrel;have u:=U (z_ Z ab);clear Z ab;have hp:2^n<=2^60:=Nat.pow_le_pow_right (by omega) Y.o;have wp:wrap64 (2^n)=((2^n:Nat):Int):=by
   have aw:(2:Nat)^60=1152921504606846976:=by decide
   rw[show((2:Int)^n)=((2^n:Nat):Int) by push_cast;rfl];unfold wrap64;omega
  have aw:(2:Nat)^60=1152921504606846976:=by decide
  have bc:2^n<=1152921504606846976:=by omega
  generalize N:2^n=P at*
  by_cases ad:k<P
  ·have aE:(k:Int)<(P:Int):=by omega
   have a6:=U (EP n k wr Y.o (by omega));have ae:u_.wrap ((k:Int)+1)=(k:Int)+1:=by rw[w_];omega
   go_upto_region 7 with(go_at_call 59;refine a6.o.mono ?_;rintro e O ⟨Q,R,rfl,f,K⟩;have C:=U (z_ f (u.o.1.trans (K.mono u.o.1.size)));have s:=U (z_ ((H.o.1.below u.o.1).below K) ((H.o.2.below u.o.1).below K));clear f K)
   go_wp2_with fail
   go_loop [9,10] (λ q i=>∃(j:Nat)(r:Bool),j<=nl/\i=.int .i64 j/\q=.bool r/\(ls.take j).all (oF (nN n k))=r) (λ _ i=>nl-(intOf i).toNat)
   case atStart=>exact⟨0,true,t_ _,rfl,rfl,rfl⟩
   case round=>
    obtain⟨j,r,t,rfl,rfl,f⟩:=hrel
    by_cases c:j<nl/\r=true
    ·obtain⟨c,rfl⟩:=c;have F:(j:Int)<(nl:Int):=by omega
     have al:u_.wrap ((j:Int)+1)=(j:Int)+1:=by rw[w_];omega
     have hl:j<ls.length:=by rw[s.o.1.len];exact c
     have y:=yy hl f;obtain⟨v,m⟩:∃v,oF (nN n k) ls[j]=v:=⟨_,rfl⟩
     obtain⟨b,off,rfl,G,z⟩:=s.o.1.cells (by omega);obtain⟨a1,a7,c1,L,S⟩:=z j c;rw[vN hl] at S;have I:=U (IG v a1 a7 c1 _ Q (n+1) R _ O S C.o.1 m);have l:=U (z_ c (z_ y m));clear f y m z S G c t
     go_wp2_with (go_at_call 116;refine I.o.mono ?_;rintro e w' ⟨rfl,rfl⟩)
     go_round
     case rel=>exact⟨j+1,v,by have:=l.o.1;omega,by go_num,rfl,l.o.2.1.trans l.o.2.2⟩
     case measure=>have:=l.o.1;simp[intOf];omega
    ·have B:=A5 f (by rw[s.o.1.len];exact c);have ao:=U B;clear f B
     by_cases T:j<nl
     ·obtain rfl:r=false:=by
       cases r with
       |false=>rfl
       |true=>exact absurd ⟨T,rfl⟩ c
      have F:(j:Int)<(nl:Int):=by omega
      clear c t T
      go_wp2_with fail
      go_loop [9,11] (λ q i=>∃(j:Nat)(r':Bool),j<=nq/\i=.int .i64 j/\q=.bool r'/\(false&&(g.take j).all (oa (nN n k)))=r') (λ _ i=>nq-(intOf i).toNat)
      case atStart=>exact⟨0,false,t_ _,rfl,rfl,by simp⟩
      case round=>
       obtain⟨d,p,t,rfl,rfl,f⟩:=hrel
       by_cases c:d<nq/\p=true
       ·obtain⟨c,rfl⟩:=c;have F:(d:Int)<(nq:Int):=by omega
        have al:u_.wrap ((d:Int)+1)=(d:Int)+1:=by rw[w_];omega
        have hl:d<g.length:=by rw[s.o.2.len];exact c
        have D:false=true/\(g.take d).all (oa (nN n k))=true:=by rw[q_] at f;exact f
        have y:=yy hl D.2;obtain⟨v,m⟩:∃v,oa (nN n k) g[d]=v:=⟨_,rfl⟩
        obtain⟨b,off,rfl,G,z⟩:=s.o.2.cells (by omega);have L:=z d c;rw[pW hl] at L;have I:=U (zF v g[d] Q (n+1) R _ O C.o.1 m);have l:=U (z_ c (z_ y (z_ m D.1)));clear f D y m z G c t;generalize g[d]=x at*
        go_wp2_with (go_at_call 117;refine I.o.mono ?_;rintro e w' ⟨rfl,rfl⟩)
        go_round
        case rel=>exact⟨d+1,v,by have:=l.o.1;omega,by go_num,rfl,by rw[l.o.2.2.2,l.o.2.1,l.o.2.2.1];rfl⟩
        case measure=>have:=l.o.1;simp[intOf];omega
       ·have B:s7 n k ls g=p:=by
         unfold s7;rw[ao.o];exact A6 f (by rw[s.o.2.len];exact c)
        have J:=U B;have E:d<nq->p=false:=λ h=>by
         cases p with
         |false=>rfl
         |true=>exact absurd ⟨h,rfl⟩ c
        clear f B c;have ae:u_.wrap ((k:Int)+1)=(k:Int)+1:=by rw[w_];omega
        cases p with
        |true=>
         have F:¬(d:Int)<(nq:Int):=λ h=>by have:=E (by omega);cases this
         clear E
         go_wp2_with fail
         go_ret;refine⟨lS ?_,C.o.2⟩;unfold se;rw[N];exact(l_.2 ⟨k,o_.2 ad,J.o⟩).symm
        |false=>
         clear E
         by_cases a8:(d:Int)<(nq:Int)
         all_goals
          go_wp2_with fail
          go_roundw
          case rel=>exact⟨k+1,by omega,by go_num,C.o.2,λ j t=>by
           rcases Nat.lt_or_ge j k with h1|h1
           ·exact u.o.2 j h1
           ·obtain rfl:j=k:=by omega
            exact J.o⟩
          case measure=>simp[intOf];omega
     ·have F:¬(j:Int)<(nl:Int):=by omega
      clear c t T
      go_wp2_with fail
      go_loop [9,11] (λ q i=>∃(j:Nat)(r':Bool),j<=nq/\i=.int .i64 j/\q=.bool r'/\(r&&(g.take j).all (oa (nN n k)))=r') (λ _ i=>nq-(intOf i).toNat)
      case atStart=>exact⟨0,r,t_ _,rfl,rfl,by simp⟩
      case round=>
       obtain⟨d,p,t,rfl,rfl,f⟩:=hrel
       by_cases c:d<nq/\p=true
       ·obtain⟨c,rfl⟩:=c;have F:(d:Int)<(nq:Int):=by omega
        have al:u_.wrap ((d:Int)+1)=(d:Int)+1:=by rw[w_];omega
        have hl:d<g.length:=by rw[s.o.2.len];exact c
        have D:r=true/\(g.take d).all (oa (nN n k))=true:=by rw[q_] at f;exact f
        have y:=yy hl D.2;obtain⟨v,m⟩:∃v,oa (nN n k) g[d]=v:=⟨_,rfl⟩
        obtain⟨b,off,rfl,G,z⟩:=s.o.2.cells (by omega);have L:=z d c;rw[pW hl] at L;have I:=U (zF v g[d] Q (n+1) R _ O C.o.1 m);have l:=U (z_ c (z_ y (z_ m D.1)));clear f D y m z G c t;generalize g[d]=x at*
        go_wp2_with (go_at_call 117;refine I.o.mono ?_;rintro e w' ⟨rfl,rfl⟩)
        go_round
        case rel=>exact⟨d+1,v,by have:=l.o.1;omega,by go_num,rfl,by rw[l.o.2.2.2,l.o.2.1,l.o.2.2.1];rfl⟩
        case measure=>have:=l.o.1;simp[intOf];omega
       ·have B:s7 n k ls g=p:=by
         unfold s7;rw[ao.o];exact A6 f (by rw[s.o.2.len];exact c)
        have J:=U B;have E:d<nq->p=false:=λ h=>by
         cases p with
         |false=>rfl
         |true=>exact absurd ⟨h,rfl⟩ c
        clear f B c;have ae:u_.wrap ((k:Int)+1)=(k:Int)+1:=by rw[w_];omega
        cases p with
        |true=>
         have F:¬(d:Int)<(nq:Int):=λ h=>by have:=E (by omega);cases this
         clear E
         go_wp2_with fail
         go_ret;refine⟨lS ?_,C.o.2⟩;unfold se;rw[N];exact(l_.2 ⟨k,o_.2 ad,J.o⟩).symm
        |false=>
         clear E
         by_cases a8:(d:Int)<(nq:Int)
         all_goals
          go_wp2_with fail
          go_roundw
          case rel=>exact⟨k+1,by omega,by go_num,C.o.2,λ j t=>by
           rcases Nat.lt_or_ge j k with h1|h1
           ·exact u.o.2 j h1
           ·obtain rfl:j=k:=by omega
            exact J.o⟩
          case measure=>simp[intOf];omega
  ·have aE:¬(k:Int)<(P:Int):=by omega
   go_wp2_with fail
   go_ret;refine⟨lS ?_,u.o.1⟩;unfold se;rw[N,List.any_eq_false.2 λ x a'=>by rw[u.o.2 x (by have:=o_.1 a';omega)];simp]
theorem EW(j:lB n ls=0)(hl:∀x∈l,gF n x):se n ls l=true↔Can ls l:=by
 obtain⟨h1,m,d⟩:=Cu j;unfold se s7;rw[l_];constructor
 ·rintro⟨k,hk,h⟩;rw[q_,p_,p_] at h;exact⟨p0 (nN n k),⟨yV _,λ g c=>(vK (d g c) h1).1 (h.1 g c)⟩,λ x b=>by rw[<-xC (hl x b) h1];exact h.2 x b⟩
 ·rintro⟨M,f,h⟩;obtain⟨k,hk,i⟩:=Em n λ v=>M ((v:Int)+1)
  refine⟨k,o_.2 hk,?_⟩;rw[q_,p_,p_];refine⟨λ g c=>(vK (d g c) h1).2 ?_,λ x b=>by rw[xC (hl x b) h1];exact(Cw f.1 i (hl x b)).trans (h x b)⟩;obtain⟨x,b,e⟩:=f.2 g c;exact⟨x,b,(Cw f.1 i (d g c x b)).trans e⟩
theorem EX(b:lB n ls=0)(hl:∀x∈l,gF n x)(h:¬Can ls l):se n ls l=false:=by
 cases e:se n ls l with
 |false=>rfl
 |true=>exact absurd ((EW b hl).1 e) h
theorem nM.pre{w:World}{A:Option Addr}{c:Nat}{es rs:List mG}(h:nM w A n c (es++rs)):nM w A es.length c es:=by
 have hl:=h.len;rw[List.length_append] at hl;refine⟨rfl,by have:=h.cap;omega,by have:=h.mP;omega,h.oo,λ g=>?_,λ e he=>h.rows e (by simp[he])⟩;obtain⟨b,off,e,d,f⟩:=h.cells (by omega);refine⟨b,off,e,d,λ k hk=>?_⟩;rw[f k (by omega),N6,List.getElem?_append_left (by rw[ym];exact hk)]
theorem Q8(A:Option Addr)(n c:Nat)(A':Option Addr)(c':Nat)(es:List mG)(w:World)(h:nM w A n c es)(h':nM w A' n c' es):
  Calls s_ 56 #[.slice A n c,.slice A' n c'] w λ e w'=>e=.returned (.bool true)/\Below w.heap.size w w':=by
 have I:=h.mP;have M:n<=17592186044416:=by omega
 have H:=U h;have J:=U h';clear h h' I;go_enter Tryz.func56,Tryz.ntmps56
 go_wp2
 go_loopw [5] (λ i wr=>∃k:Nat,k<=n/\i=.int .i64 k/\Below w.heap.size w wr) (λ i _=>n-(intOf i).toNat)
 case atStart=>exact⟨0,t_ _,rfl,r_ _ _⟩
 case round=>
  obtain⟨k,hk,rfl,d⟩:=hrel;have q:=U d
  by_cases r:k<n
  ·have s:=H.o.below d;have t:=J.o.below d;have v:k<es.length:=by rw[H.o.len];exact r
   obtain⟨b,off,rfl,C,-⟩:=s.cells (by omega);obtain⟨g,j,rfl,D,-⟩:=t.cells (by omega);obtain⟨l,m,f⟩:=s.Et r v;obtain⟨f0,f1,-⟩:=t.Et r v;obtain⟨⟨E,⟨y,z,B,K⟩⟩,F⟩:∃e,es[k]=e:=⟨_,rfl⟩
   rw[F] at l m f f0 f1;replace l:wr.cell? ⟨b,off+k*2,none⟩=some (.int .i64 E):=l;replace m:wr.cell? ⟨b,off+k*2+1,none⟩=some (.slice y z B):=m;replace f0:wr.cell? ⟨g,j+k*2,none⟩=some (.int .i64 E):=f0;replace f1:wr.cell? ⟨g,j+k*2+1,none⟩=some (.slice y z B):=f1;replace f:aN wr y z B K:=f;have G:=U f;have N:(k:Int)<(n:Int):=by omega
   have g0:=λ u:oD wr=>u.cell (p:=⟨b,off+k*2,none⟩) C l
   have g1:=λ u:oD wr=>u.cell (p:=⟨b,off+k*2+1,none⟩) C m
   have g2:=λ u:oD wr=>u.cell (p:=⟨g,j+k*2,none⟩) D f0
   have g3:=λ u:oD wr=>u.cell (p:=⟨g,j+k*2+1,none⟩) D f1
   clear s t d F f v
   go_wp2_with fail
   refine A9 (by kernel_rfl) (by kernel_rfl) ?_
   repeat (go_big_quiet_step ((go_at_call 68;exact oD.call _ (QW true _ _ _ _ _ _ _ _ _ (G.o.below (oD.ok _)) (G.o.below (oD.ok _)) (QV.2 rfl)))))
   refine k_ ?_;rintro _ ⟨⟨O,L⟩,rfl⟩
   go_wp2_with fail
   go_roundw
   case rel=>exact⟨k+1,by omega,by go_num,q.o.trans (L.mono q.o.size)⟩
   case measure=>simp[intOf];omega
  ·clear d;go_wp2;go_ret;exact⟨rfl,q.o⟩
theorem Q9{F:List (List Int)}{ah:List Int}(hl:∀x∈ah,gF n x)(h:pM F ah):¬Can F (ah.map λ x=> -x):=λ⟨M,b,c⟩=>by
 obtain⟨x,hm,d⟩:=h M b;have h1:=c (-x) (List.mem_map.2 ⟨x,hm,rfl⟩);rw[b.1 x (hl x hm).oH,d] at h1
 cases h1
theorem Ra(n:Int)(A:Option Addr)(nl cl:Nat)(es:List s6)(fi:Option Addr)(nq fj:Nat)(fl:List Int)(fp:Int)(w:World)(h:vM w A nl cl es)(fr:aN w fi nq fj fl):
  Calls s_ 13 #[.int .i64 n,.slice A nl cl,.slice fi nq fj,.int .i64 fp] w λ e w'=>e=.returned (.bool true)/\Below w.heap.size w w':=by
 have pQ:=U (EN w);have aw:=U (z_ (h) (z_ (fr) (r_ w.heap.size w)));clear h fr;go_enter Tryz.func13,Tryz.ntmps13
 go_upto_region 3 with(go_at_call 40;refine pQ.o.mono ?_;rintro e w1 ⟨rfl,fs⟩;have dC:=U fs;clear fs)
 have J:=U (z_ (aw.o.1.below dC.o) (z_ (aw.o.2.1.below dC.o) (aw.o.2.2.trans (dC.o.mono aw.o.2.2.size))));clear aw;have dE:=U (EI n A nl cl es w1 J.o.1)
 by_cases mv:20<nq
 ·have la:(20:Int)<(nq:Int):=by omega
  go_upto_region 5 with(go_at_call 52;refine dE.o.mono ?_;rintro e w1 ⟨r,rfl,rfl,aE⟩;have dT:=U aE;clear aE;cases r)
  all_goals
   go_ret;exact⟨rfl,J.o.2.2⟩
 have la:¬(20:Int)<(nq:Int):=by omega
 go_upto_region 5 with(go_at_call 52;refine dE.o.mono ?_;rintro e w1 ⟨r,rfl,rfl,aE⟩;have dT:=U aE;clear aE;cases r)
 ·go_ret;exact⟨rfl,J.o.2.2⟩
 obtain⟨lf,n6,ft,fv⟩:=dT.o trivial;obtain⟨n,rfl⟩:∃m:Nat,n=m:=⟨n.toNat,by omega⟩
 have fw:=U (EV n (by omega) A nl cl es w1 J.o.1 ft fv);clear lf n6 ft fv
 go_upto_region 6 with(go_at_call 53;refine fw.o.mono ?_;rintro e b3 ⟨m,s,t,rfl,fx,hm,fy,fz⟩;have Y:=U (z_ fx (z_ fy (z_ hm fz)));clear fx fy hm fz;unfold gD.L)
 have a6:=bg b3 (.cells t.L.toArray 47);have a7:=aM.new b3 47 t.L;simp only[gD.L] at a6 a7;generalize b3.alloc (.cells #[.int .i64 t.n,.slice t.g.A t.g.n t.g.c,.slice t.l.A t.l.n t.l.c,.slice t.a.A t.a.n t.a.c,.slice t.o.A t.o.n t.o.c,.int .i64 t.b,.slice t.h.A t.h.n t.h.c,.slice t.p.A t.p.n t.p.c] 47)=lh at a6 a7⊢;generalize b3.heap.size=d' at a7⊢;have b4:=Y.o.1.trans (a6.mono Y.o.1.size);have mx:=Y.o.2.2.1;have ae:t.n=(m:Int):=by rw[Y.o.2.1.e];rfl
 have v:=U (z_ (show aM lh d' 47 [.int .i64 t.n,.slice t.g.A t.g.n t.g.c,.slice t.l.A t.l.n t.l.c,.slice t.a.A t.a.n t.a.c,.slice t.o.A t.o.n t.o.c,.int .i64 t.b,.slice t.h.A t.h.n t.h.c,.slice t.p.A t.p.n t.p.c] from a7) (z_ (Y.o.2.1.below a6) (z_ (J.o.1.below b4) (z_ (J.o.2.1.below b4) (J.o.2.2.trans (b4.mono J.o.2.2.size))))));have lj:=U Y.o.2.2.2;clear J Y a6 a7 b4 fw dE pQ dT;have d:=(v.o.1).cell;have G:=d 0;have M:=d 1;have N:=d 2;have P:=d 3;have Q:=d 4;have R:=d 5;have S:=d 6;have T:=d 7;simp only[gD.L,kY.L,y_,x_] at G M N P Q R S T;clear d;rw[ae] at G;have m6:¬(6:Int)<(m:Int):=by omega
 cases Z:qb m fl fp with
 |false=>
  have m7:(m:Int)<=6:=by omega
  have b':=U (A1 v.o.2.1 (by omega) v.o.2.2.2.1 (by omega) Z);simp only[gD.L,kY.L,qa,xF,lX,sd] at b';rw[ae] at b'
  go_upto_region 7 with(go_at_call 36;refine b'.o.mono ?_;rintro e ab ⟨rfl,a8⟩;have B:=U a8;clear a8 G M N P Q R S T)
  have a':=AV ab qa xF;simp only[gD.L,kY.L,qa,xF,lX] at a';obtain⟨W,-⟩:=a';generalize (ab.alloc (.cells #[.int .i64 0,.slice none 0 0,.slice none 0 0,.slice none 0 0,.slice none 0 0,.int .i64 0,.slice none 0 0,.slice none 0 0] 47)).alloc (.cells #[.int .i64 0,.slice none 0 0,.slice none 0 0,.int .i64 0] 30)=E at W⊢;have C:=B.o.trans (W.mono B.o.size);have z:=U (z_ (v.o.1.below C) (z_ (v.o.2.1.below C) (z_ (v.o.2.2.1.below C) (z_ (v.o.2.2.2.1.below C) (v.o.2.2.2.2.trans (C.mono v.o.2.2.2.2.size))))));clear W C B b';have d:=(z.o.1).cell;have G:=d 0;have M:=d 1;have N:=d 2;have P:=d 3;have Q:=d 4;have R:=d 5;have S:=d 6;have T:=d 7;simp only[gD.L,kY.L,y_,x_] at G M N P Q R S T;clear d;rw[ae] at G
  go_wp2_with fail
  go_ret;exact⟨rfl,z.o.2.2.2.2⟩
 |true=>
  have X:=U (zH v.o.2.1 (λ _ h=>h.elim) (by omega) v.o.2.2.2.1 (by omega) (by have:=lj.o;omega) Z);simp only[gD.L] at X;rw[ae] at X
  go_upto_region 7 with(go_at_call 36;refine X.o.mono ?_;rintro e ab ⟨t4,H,iI,rfl,a8,fX⟩;have B:=U (z_ a8 fX);clear a8 fX G M N P Q R S T;unfold sd gD.L kY.L)
  have a':=AV ab t4 H;have ba:=EJ ab t4 H;simp only[gD.L,kY.L] at a' ba;obtain⟨W,-⟩:=a';generalize (ab.alloc (.cells #[.int .i64 t4.n,.slice t4.g.A t4.g.n t4.g.c,.slice t4.l.A t4.l.n t4.l.c,.slice t4.a.A t4.a.n t4.a.c,.slice t4.o.A t4.o.n t4.o.c,.int .i64 t4.b,.slice t4.h.A t4.h.n t4.h.c,.slice t4.p.A t4.p.n t4.p.c] 47)).alloc (.cells #[.int .i64 H.k,.slice H.m.A H.m.n H.m.c,.slice H.o.A H.o.n H.o.c,.int .i64 H.s] 30)=E at W ba⊢;generalize ab.heap.size=g4 at ba⊢;have C:=B.o.1.trans (W.mono B.o.1.size);have ea:t4.n=(m:Int):=by rw[B.o.2.1.e];rfl
  have eb:t4.l.n=iI.es.length:=by rw[B.o.2.1.e];rfl
  have ed:t4.p.n=iI.aD.length:=by rw[B.o.2.1.e];rfl
  have z:=U (z_ (show aM E g4 47 [.int .i64 t4.n,.slice t4.g.A t4.g.n t4.g.c,.slice t4.l.A t4.l.n t4.l.c,.slice t4.a.A t4.a.n t4.a.c,.slice t4.o.A t4.o.n t4.o.c,.int .i64 t4.b,.slice t4.h.A t4.h.n t4.h.c,.slice t4.p.A t4.p.n t4.p.c] from ba) (z_ (B.o.2.1.below W) (z_ (v.o.1.below C) (z_ (v.o.2.1.below C) (z_ (v.o.2.2.1.below C) (z_ (v.o.2.2.2.1.below C) (v.o.2.2.2.2.trans (C.mono v.o.2.2.2.2.size))))))));have ca:iI.gs=s.gs:=B.o.2.2.1;obtain⟨rest,eg⟩:=B.o.2.2.2.1;have fY:t.p.n=s.aD.length:=by rw[z.o.2.2.2.1.e];rfl
  have my:s.aD.length<=iI.aD.length:=by rw[<-eg,List.length_append];omega
  clear ba W C B X v Z;have eh:=U (z.o.2.1.check (by omega));simp only[gD.L] at eh;rw[ea,eb,ed] at eh;have cd:nM E t4.p.A iI.aD.length t4.p.c iI.aD:=z.o.2.1.aO.aD;have f':nM E t.p.A s.aD.length t.p.c s.aD:=z.o.2.2.2.1.aO.aD;have gg:nM E t4.p.A s.aD.length t4.p.c s.aD:=by have h:=cd;rw[<-eg] at h;exact h.pre
  have m':=cd.cap;have na:=cd.oo;have gS:t4.g.n=s.gs.length:=by rw[z.o.2.1.e];show iI.gs.length=_;rw[ca]
  have g':mc E t4.g.A t4.g.n t4.g.c s.gs:=by rw[gS];have h:=z.o.2.1.aO.gs;rw[ca] at h;exact h
  have ha:t.g.n=s.gs.length:=by rw[z.o.2.2.2.1.e];rfl
  have hb:mc E t.g.A t.g.n t.g.c s.gs:=by rw[ha];exact z.o.2.2.2.1.aO.gs
  clear ha gS;have hc:r8 E t4.l.A iI.es.length t4.l.c iI.es:=z.o.2.1.aO.es;have et:=z.o.2.2.2.1.O;have cf:=z.o.2.1.O;have hd:lB m s.gs=0:=yl (by omega) et.g1 et.bk;have hf:=U (z_ gg f');have ev:=U (z_ g' hb);have hg:=U hc;have nb:=z.o.2.1.es (by omega);have lk:bF (∀e∈iI.es,(∀x∈e.r.ah,gF m x)/\¬Can s.gs (e.r.ah.map λ x=> -x)):=U λ e he=>⟨(cf.wA e he).1.lt,Q9 (cf.wA e he).1.lt (by have h:=cf.Eu e he;rw[ca] at h;exact h)⟩
  have ll:=U hd;clear cd f' gg g' hb hc et cf hd eg ca;generalize iI.es.length=bb at*;generalize ln:s.aD.length=eI at*;have nd:¬(iI.aD.length:Int)<(eI:Int):=by omega
  have nf:¬iI.aD.length<eI:=by omega
  clear ln;generalize iI.aD.length=nm at*;have ch:=z.o.2.2.1;rw[ae,fY] at ch;have cj:=z.o.1;rw[ea,eb,ed] at cj;have D:=U (z_ ch cj);have hh:=U z.o.2.2.2.2.2.2;have d:=(ch).cell;have G:=d 0;have M:=d 1;have N:=d 2;have P:=d 3;have Q:=d 4;have R:=d 5;have S:=d 6;have T:=d 7;simp only[gD.L,kY.L,y_,x_] at G M N P Q R S T;clear d;have d:=(cj).cell;have z0:=d 0;have hi:=d 1;have z2:=d 2;have z3:=d 3;have z4:=d 4;have z5:=d 5;have hj:=d 6;have hn:=d 7;simp only[gD.L,kY.L,y_,x_] at z0 hi z2 z3 z4 z5 hj hn;clear d;have m7:¬(6:Int)<(m:Int):=by omega
  clear ch cj ae fY ea eb ed;have ho:=U (Q7 t4.g.A t4.g.n t4.g.c s.gs t.g.A t.g.n t.g.c s.gs);rw[show QU s.gs s.gs=true from QX.2 rfl] at ho
  go_upto_region 11 with(first
   |(go_at_call 49;with_reducible refine(eh.o E (r_ _ _)).mono ?_;rintro e lo ⟨rfl,hq⟩;have mV:=U hq;clear hq G M N P Q R S T z0 hi z2 z3 z4 z5 hj hn;have d:=(D.o.1.below mV.o).cell;have hr:=d 0;have ht:=d 1;have hv:=d 2;have hx:=d 3;have hy:=d 4;have hz:=d 5;have hA:=d 6;have hB:=d 7;clear d;have d:=(D.o.2.below mV.o).cell;have hD:=d 0;have hE:=d 1;have hG:=d 2;have hI:=d 3;have hJ:=d 4;have hK:=d 5;have hL:=d 6;have hN:=d 7;clear d;simp only[gD.L,kY.L,y_,x_] at hr ht hv hx hy hz hA hB hD hE hG hI hJ hK hL hN)
   |(go_at_call 55;with_reducible refine(ho.o lo (ev.o.1.below mV.o) (ev.o.2.below mV.o)).mono ?_;rintro e bc ⟨rfl,hP⟩;have I:=U (mV.o.trans (hP.mono mV.o.size));clear hP hr ht hv hx hy hz hA hB hD hE hG hI hJ hK hL hN;have d:=(D.o.1.below I.o).cell;have hQ:=d 0;have hR:=d 1;have hS:=d 2;have hT:=d 3;have hV:=d 4;have hW:=d 5;have hX:=d 6;have eJ:=d 7;clear d;have d:=(D.o.2.below I.o).cell;have hY:=d 0;have hZ:=d 1;have h0:=d 2;have h2:=d 3;have h3:=d 4;have h4:=d 5;have h5:=d 6;have eK:=d 7;clear d;simp only[gD.L,kY.L,y_,x_] at hQ hR hS hT hV hW hX eJ hY hZ h0 h2 h3 h4 h5 eK))
  have h6:g4<bc.heap.size:=Nat.lt_of_lt_of_le D.o.2.lt I.o.size;have h7:d'<bc.heap.size:=Nat.lt_of_lt_of_le D.o.1.lt I.o.size;have g7:=λ u:oD bc=>u.cell (p:=⟨g4,7,none⟩) h6 eK
  have lr:=λ u:oD bc=>u.cell (p:=⟨d',7,none⟩) h7 eJ
  have lv:=U (λ u:oD bc=>Q8 t4.p.A eI t4.p.c t.p.A t.p.c s.aD u.val (hf.o.1.below (I.o.trans ((oD.ok u).mono I.o.size))) (hf.o.2.below (I.o.trans ((oD.ok u).mono I.o.size))));clear hQ hR hS hT hV hW hX eJ hY hZ h0 h2 h3 h4 h5 eK
  go_wp2_with fail
  refine A9 (by kernel_rfl) (by kernel_rfl) ?_
  repeat (go_big_quiet_step ((go_at_call 56;exact oD.call _ (lv.o _))))
  refine k_ ?_;rintro _ ⟨⟨nn,h8⟩,rfl⟩;have mC:=U (I.o.trans (h8.mono I.o.size));clear h8 g7 lr h6 h7;have d:=(D.o.1.below mC.o).cell;have h9:=d 0;have ib:=d 1;have ie:=d 2;have ih:=d 3;have ik:=d 4;have il:=d 5;have im:=d 6;have iv:=d 7;clear d;have d:=(D.o.2.below mC.o).cell;have ix:=d 0;have i':=d 1;have jn:=d 2;have ju:=d 3;have jz:=d 4;have j1:=d 5;have j2:=d 6;have j':=d 7;clear d;simp only[gD.L,kY.L,y_,x_] at h9 ib ie ih ik il im iv ix i' jn ju jz j1 j2 j'
  go_wp2_with fail
  go_loopw [15] (λ i V=>∃j:Nat,i=.int .i64 j/\j<=bb/\Below E.heap.size E V) (λ i _=>bb-(intOf i).toNat)
  case atStart=>exact⟨0,rfl,t_ _,mC.o⟩
  case round=>
   obtain⟨j,rfl,np,cq⟩:=hrel;have bd:=U cq;clear h9 ib ie ih ik il im iv ix i' jn ju jz j1 j2 j';have d:=(D.o.1.below bd.o).cell;have cx:=d 0;have cy:=d 1;have cJ:=d 2;have cP:=d 3;have cX:=d 4;have cY:=d 5;have da:=d 6;have db:=d 7;clear d;have d:=(D.o.2.below bd.o).cell;have dd:=d 0;have df:=d 1;have al:=d 2;have dj:=d 3;have dk:=d 4;have dp:=d 5;have dq:=d 6;have dt:=d 7;clear d;simp only[gD.L,kY.L,y_,x_] at cx cy cJ cP cX cY da db dd df al dj dk dp dq dt
   by_cases eQ:j<bb
   ·have lx:(j:Int)<(bb:Int):=by omega
    have ns:u_.wrap ((j:Int)+1)=(j:Int)+1:=by rw[w_];omega
    have du:=hg.o.below cq;have e0:j<iI.es.length:=by rw[hg.o.len];exact eQ
    obtain⟨b,off,e1,ly,-⟩:=du.cells (by omega);rw[e1] at du al;have lA:=U e1;clear e1;obtain⟨bj,-,-,ao⟩:=du.AI eQ e0;have bo:=lk.o iI.es[j] (List.getElem_mem e0);obtain⟨⟨⟨ka,ad,kb,F⟩,aS,ac⟩,kc⟩:∃e,iI.es[j]=e:=⟨_,rfl⟩
    rw[kc] at bj ao bo;replace bj:wr.cell? ⟨b,off+j*3,none⟩=some (.slice ka ad kb):=bj;have ao:aN wr ka ad kb F:=ao;have bo:(∀x∈F,gF m x)/\¬Can s.gs (F.map λ x=> -x):=bo;have K:=U (z_ ao (z_ bo (z_ eQ ly)));have nz:=ao.small;have lL:=U bj;clear du e0 ao bo cq kc
    go_wp2_with fail
    generalize wr=br at*
    go_loopw [16,17] (λ q k V=>∃(f:Nat)(bs:Option Addr)(c1:Nat),k=.int .i64 f/\f<=ad/\q=.slice bs f c1/\V.ownsRow br.heap.size 3 1 (.slice bs f c1) f (((F.take f).map λ x=> -x).map (Value.int .i64))/\Below br.heap.size br V) (λ _ k _=>ad-(intOf k).toNat)
    case atStart=>exact⟨0,none,0,rfl,t_ _,rfl,World.ownsRow_nil _ _ _ _,r_ _ _⟩
    case round=>
     obtain⟨f,bs,c1,rfl,kd,rfl,e2,ar⟩:=hrel;have ke:=U e2;have b0:=U (bd.o.trans (ar.mono bd.o.size));have e':=U ar;clear cx dd cy df cJ al cP dj cX dk cY dp da dq db dt;have d:=(D.o.1.below b0.o).cell;have cx:=d 0;have cy:=d 1;have cJ:=d 2;have cP:=d 3;have cX:=d 4;have cY:=d 5;have da:=d 6;have db:=d 7;clear d;have d:=(D.o.2.below b0.o).cell;have dd:=d 0;have df:=d 1;have al:=d 2;have dj:=d 3;have dk:=d 4;have dp:=d 5;have dq:=d 6;have dt:=d 7;clear d;simp only[gD.L,kY.L,y_,x_] at cx cy cJ cP cX cY da db dd df al dj dk dp dq dt;rw[lA.o] at al;have bj:=(ar.cell (p:=⟨b,off+j*3,none⟩) K.o.2.2.2).trans lL.o
     by_cases b1:f<ad
     ·have lO:(f:Int)<(ad:Int):=by omega
      have n0:u_.wrap ((f:Int)+1)=(f:Int)+1:=by rw[w_];omega
      obtain⟨l0,l1,l2,kh,kk⟩:=K.o.1.cells (by omega);subst l2;have l3:=(ar.cell (p:=⟨l0,l1+f,none⟩) kh).trans (kk f b1);have fa:f<F.length:=by rw[K.o.1.len];exact b1
      have fb:=K.o.2.1.1 _ (vO fa);have km:=U (tK F f fa);obtain⟨x,kp⟩:∃x,jv F f=x:=⟨_,rfl⟩
      rw[kp] at l3 fb km;have wn:u_.wrap (-x)= -x:=by unfold gF aI at fb;rw[w_];omega
      have l4:=U (aN.lit wr [-x] 1 _ rfl rfl (by omega));have ks:=U (lU ke.o (bg wr (lW [-x])));have b2:=U (z_ (bg wr (lW [-x])) b1);have kt:br.heap.size<=(wr.alloc (lW [-x])).heap.size:=by have:=e'.o.size;have:=b2.o.1.size;omega
      clear kk kh fa fb kp b1 kd e2 ar
      go_wp2_with (at_builtin;refine vp rfl (.tmp 114) (.tmp 125) rfl br.heap.size (.slice bs f c1) f ((F.take f).map λ x=> -x) rfl ks.o (some ⟨wr.heap.size,0,none⟩) 1 1 [-x] rfl l4.o (by have:=b2.o.2;omega) kt ?_;intro v9 gb Z;obtain⟨⟨kv,kx,c2⟩,ma,dv⟩:=aq.lq Z.1;obtain rfl:v9=.slice kv kx c2:=ma;have mf:=U (z_ Z dv);clear Z dv)
      go_roundw
      case rel=>
       obtain⟨⟨g1,g2,g3⟩,dv⟩:=mf.o;obtain rfl:kx=f+1:=dv;refine⟨f+1,kv,c2,by go_num,by have:=b2.o.2;omega,rfl,?_,(e'.o.trans (b2.o.1.mono e'.o.size)).grown g2 kt (λ b e=>(tc ks.o e).1)⟩;rw[km.o,List.map_append];exact g1
      case measure=>have:=b2.o.2;simp[intOf];omega
     ·obtain rfl:f=ad:=by omega
      have lO:¬(f:Int)<(f:Int):=by omega
      have k1:F.take f=F:=v_ (by rw[K.o.1.len];omega);have fg:=ke.o;rw[k1] at fg;have X:=ER m (by omega) t.g.A t.g.n t.g.c s.gs bs f c1 (F.map λ x=> -x) wr (ev.o.2.below b0.o) (aN.lq fg (by omega));rw[EX ll.o (λ y mi=>by obtain⟨x,ml,rfl⟩:=List.mem_map.1 mi;exact(K.o.2.1.1 x ml).neg) K.o.2.1.2] at X;have mn:=U X;clear X fg k1 e2 ar b1 kd
      go_wp2_with (go_at_call 57;with_reducible refine mn.o.mono ?_;rintro e n1 ⟨rfl,k'⟩;have mr:=U (b0.o.trans (k'.mono b0.o.size));clear k')
      go_roundw
      case rel=>exact⟨j+1,by go_num,by have:=K.o.2.2.1;omega,mr.o⟩
      case measure=>have:=K.o.2.2.1;simp[intOf];omega
   ·have lx:¬(j:Int)<(bb:Int):=by omega
    clear cq
    go_wp2_with fail
    go_ret;exact⟨rfl,hh.o.trans (bd.o.mono hh.o.size)⟩
end
end Go.Proofs.YtogdlkfacflmaaaGreat
