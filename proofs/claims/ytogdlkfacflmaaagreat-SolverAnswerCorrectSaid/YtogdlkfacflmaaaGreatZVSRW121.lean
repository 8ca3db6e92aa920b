/- Parts of the walk of the solver and its core; no condition. -/
import Derived.Test.YtogdlkfacflmaaaGreatZV10
import Derived.Test.YtogdlkfacflmaaaGreatZV11
import Derived.Test.YtogdlkfacflmaaaGreatZV1
namespace Go.Proofs.YtogdlkfacflmaaaGreat
set_option linter.unusedVariables false
set_option linter.unusedSimpArgs false
set_option maxRecDepth 100000
set_option maxHeartbeats 16000000
open _root_.And renaming intro→z_
open _root_.List renaming getElem?_cons_zero→y_,getElem?_cons_succ→x_,all_eq_true→p_,mem_range→o_,getElem?_eq_getElem→m_,any_eq_true→l_,getElem_mem→k_,take_of_length_le→i_
open _root_.Go.IntKind renaming wrap_i64→w_,i64→u_
open _root_.Go.Calls renaming quiet_of_same→v_
open _root_.Bool renaming and_eq_true→t_
open _root_.Go.Proofs.Tryz renaming prog→s_
open _root_.Nat renaming zero_le→r_,le_refl→j_,pow_succ→h_,lt_or_ge→g_
open _root_.Go.RowKit.Below renaming refl→q_
open _root_.Go.Value renaming bool→n_
variable{α:Type}{k n:Nat}{r:Bool}{l:List Int}{D:Nat->Prop}{w:World}{s:j6}{t:gD}{ls:List (List Int)}
section
open Go.RowKit Go.Shelf Go.Lib
theorem EO(q:Nat)(h:q<4611686018427387904):bits .and .i64 (q:Int) 1=(q:Int)%2:=by
 have h:=bits_mask .i64 63 (by decide) (λ n b h1=>by rw[w_];omega) 1 (by decide) (q:Int) (by omega) (by omega);exact h
theorem EP(n k:Nat)(w:World)(G:n<=60)(hk:k<4611686018427387904):
  Calls s_ 59 #[.int .i64 n,.int .i64 k] w λ e w'=>∃A c,e=.returned (.slice A (n+1) c)/\kS w' A (n+1) c (nN n k)/\Below w.heap.size w w':=by
 obtain⟨i0,f,g,i,l⟩:=info_parts yf;have H:∀W:World,(Instr.makeSlice 28 (.int .i64 ((n:Int)+1)) (.int .i64 ((n:Int)+1))).run s_ W=.ok (.slice (some ⟨W.heap.size,0,none⟩) (n+1) (n+1)) (W.alloc (.cells (madeCells #[n_ false] (n+1)) 4)):=λ W=>by
  have:=run_make (P:=s_) W 28 4 i0 (.bool false) Tryz.underlying28 f g .i64 .i64 ((n:Int)+1) ((n:Int)+1) (by omega) (by omega) (by rw[l];omega) (by omega);rw[i,show((n:Int)+1).toNat=n+1 by omega,Nat.mul_one] at this;exact this
 have wn:u_.wrap ((n:Int)+1)=(n:Int)+1:=by rw[w_];omega
 clear f g i l;have m:(w.alloc (.cells (madeCells #[n_ false] (n+1)) 4)).ownsRow w.heap.size 4 1 (.slice (some ⟨w.heap.size,0,none⟩) (n+1) (n+1)) (n+1) ((rN n k 0).map n_):=by
  refine⟨by simp[AT],.inr ⟨_,_,_,rfl,j_ _,heap_alloc_new _ _,j_ _,by unfold maxLen;omega,by rw[size_madeCells];simp,?_⟩⟩;rw[toList_madeCells_one,i_ (by simp),II,List.map_replicate]
 have p:=bg w (.cells (madeCells #[n_ false] (n+1)) 4);have y:=U m;have z:=U p;clear m p;go_enter Tryz.func59,Tryz.ntmps59
 go_wp2
 go_loopw [6] (λ v W=>∃j:Nat,j<=n/\v=.int .i64 ((j:Int)+1)/\W.ownsRow w.heap.size 4 1 (.slice (some ⟨w.heap.size,0,none⟩) (n+1) (n+1)) (n+1) ((rN n k j).map n_)/\Below w.heap.size w W) (λ v _=>n+1-(intOf v).toNat)
 case atStart=>exact⟨0,r_ _,rfl,y.o,z.o⟩
 case round=>
  obtain⟨j,I,rfl,b,d⟩:=hrel;have r:=U b;have s:=U d;have J:=(b.lt w.heap.size rfl).2;have B:k/2^j<=k:=Nat.div_le_self _ _;have C:k/2^(j+1)=k/2^j/2:=by rw[h_,Nat.div_div_eq_div_mul]
  have t:=IL k j;obtain⟨q,u⟩:∃q,k/2^j=q:=⟨_,rfl⟩
  rw[u] at t C B
  by_cases D:j<n
  ·have E:(j:Int)+1<=(n:Int):=by omega
   have K:(j:Int)+1<(n:Int)+1:=by omega
   have cl:wr.cell? ⟨w.heap.size,j+1,none⟩=some (.bool (jr (rN n k j) (j+1))):=by
    have:=b.cellAt (j:=j+1) (by omega);rw[this,List.getElem?_map];unfold jr;rw[List.getD_eq_getElem?_getD,m_ (by rw[AT];omega)];rfl
   have L:wr.frozen? ⟨w.heap.size,j+1,none⟩=false:=b.frozenAt (j+1);clear b d;have M:(j:Int)+1-1=j:=by omega
   have N:u_.wrap ((j:Int)+1-1)=j:=by rw[w_];omega
   go_wp2;refine⟨⟨j+1,by omega,by go_num,?_,s.o.setCell (j_ _) _⟩,by simp[intOf];omega⟩;have h1:=C0 (k:=j+1) r.o (.bool (bits .and .i64 ((k:Int)/2^j) 1==1));rw[<-IJ n k j D,t,List.map_set];have hm:(bits .and .i64 ((k:Int)/2^j) 1==1)=decide ((q:Int)%2=1):=by
    have F:(k:Int)/2^j=(q:Int):=by rw[<-u];push_cast;rfl
    rw[F,EO q (by omega)];rfl
   rw[hm] at h1⊢;exact h1
  ·obtain rfl:j=n:=by omega
   have E:¬(j:Int)+1<=(j:Int):=by omega
   clear b d;go_wp2;go_ret;refine⟨_,_,rfl,?_,s.o⟩;rw[<-IK];exact kS.lq r.o (by omega)
def s7(n k:Nat)(ls:List (List Int))(b:List Int):Bool:=ls.all (oF (nN n k))&&b.all (oa (nN n k))
def se(n:Nat)(ls:List (List Int))(b:List Int):Bool:=(List.range (2^n)).any λ k=>s7 n k ls b
theorem A5{p:α->Bool}{l:List α}(h:(l.take k).all p=r)(he:¬(k<l.length/\r=true)):l.all p=r:=by
 cases r with
 |true=>rw[i_ (by have:¬k<l.length:=λ h=>he ⟨h,rfl⟩;omega)] at h;exact h
 |false=>
  rw[List.all_eq_false] at h⊢;obtain⟨x,b,e⟩:=h;exact⟨x,List.mem_of_mem_take b,e⟩
theorem yy{p:α->Bool}{l:List α}(hk:k<l.length)(h:(l.take k).all p=true):(l.take (k+1)).all p=p l[k]:=by
 rw[List.take_add_one,List.all_append,h,m_ hk];simp
theorem A6{p:α->Bool}{l:List α}{aO:Bool}(h:(aO&&(l.take k).all p)=r)(he:¬(k<l.length/\r=true)):(aO&&l.all p)=r:=by
 cases aO with
 |false=>exact h
 |true=>
  rw[Bool.true_and] at h⊢;exact A5 h he
theorem ER(n:Nat)(ag:n<=60)(A:Option Addr)(nl cl:Nat)(ls:List (List Int))(V:Option Addr)(nq X:Nat)(g:List Int)(w:World)(h:mc w A nl cl ls)(M:aN w V nq X g):
  Calls s_ 57 #[.int .i64 n,.slice A nl cl,.slice V nq X] w λ e W=>e=.returned (.bool (se n ls g))/\Below w.heap.size w W:=by
 have ao:=h.small;have aq:=M.small;have H:=U (z_ h M);have Y:=U ag;clear h M;go_enter Tryz.func57,Tryz.ntmps57
 go_wp2_with fail
 go_loopw [7] (λ q W=>∃k:Nat,k<=2^n/\q=.int .i64 (k:Int)/\Below w.heap.size w W/\∀j,j<k->s7 n j ls g=false) (λ q _=>2^n-(intOf q).toNat)
 case atStart=>exact⟨0,r_ _,rfl,q_ _ _,λ j h=>by omega⟩
 case round=>
  obtain⟨k,hk,rfl,Z,aa⟩:=hrel;have u:=U (z_ Z aa);clear Z aa;have hp:2^n<=2^60:=Nat.pow_le_pow_right (by omega) Y.o;have wp:wrap64 (2^n)=((2^n:Nat):Int):=by
   have ah:(2:Nat)^60=1152921504606846976:=by decide
   rw[show((2:Int)^n)=((2^n:Nat):Int) by push_cast;rfl];unfold wrap64;omega
  have ah:(2:Nat)^60=1152921504606846976:=by decide
  have ar:2^n<=1152921504606846976:=by omega
  generalize N:2^n=P at*
  by_cases ab:k<P
  ·have ai:(k:Int)<(P:Int):=by omega
   have aj:=U (EP n k wr Y.o (by omega));have ad:u_.wrap ((k:Int)+1)=(k:Int)+1:=by rw[w_];omega
   go_upto_region 7 with(go_at_call 59;refine aj.o.mono ?_;rintro e O ⟨Q,R,rfl,f,K⟩;have C:=U (z_ f (u.o.1.trans (K.mono u.o.1.size)));have s:=U (z_ ((H.o.1.below u.o.1).below K) ((H.o.2.below u.o.1).below K));clear f K)
   go_wp2_with fail
   go_loop [9,10] (λ q i=>∃(j:Nat)(r:Bool),j<=nl/\i=.int .i64 j/\q=.bool r/\(ls.take j).all (oF (nN n k))=r) (λ _ i=>nl-(intOf i).toNat)
   case atStart=>exact⟨0,true,r_ _,rfl,rfl,rfl⟩
   case round=>
    obtain⟨j,r,t,rfl,rfl,f⟩:=hrel
    by_cases c:j<nl/\r=true
    ·obtain⟨c,rfl⟩:=c;have F:(j:Int)<(nl:Int):=by omega
     have ae:u_.wrap ((j:Int)+1)=(j:Int)+1:=by rw[w_];omega
     have hl:j<ls.length:=by rw[s.o.1.len];exact c
     have y:=yy hl f;obtain⟨v,m⟩:∃v,oF (nN n k) ls[j]=v:=⟨_,rfl⟩
     obtain⟨b,off,rfl,G,z⟩:=s.o.1.cells (by omega);obtain⟨a1,ak,c1,L,S⟩:=z j c;rw[vN hl] at S;have I:=U (IG v a1 ak c1 _ Q (n+1) R _ O S C.o.1 m);have l:=U (z_ c (z_ y m));clear f y m z S G c t
     go_wp2_with (go_at_call 116;refine I.o.mono ?_;rintro e w' ⟨rfl,rfl⟩)
     go_round
     case rel=>exact⟨j+1,v,by have:=l.o.1;omega,by go_num,rfl,l.o.2.1.trans l.o.2.2⟩
     case measure=>have:=l.o.1;simp[intOf];omega
    ·have B:=A5 f (by rw[s.o.1.len];exact c);have af:=U B;clear f B
     by_cases T:j<nl
     ·obtain rfl:r=false:=by
       cases r with
       |false=>rfl
       |true=>exact absurd ⟨T,rfl⟩ c
      have F:(j:Int)<(nl:Int):=by omega
      clear c t T
      go_wp2_with fail
      go_loop [9,11] (λ q i=>∃(j:Nat)(r':Bool),j<=nq/\i=.int .i64 j/\q=.bool r'/\(false&&(g.take j).all (oa (nN n k)))=r') (λ _ i=>nq-(intOf i).toNat)
      case atStart=>exact⟨0,false,r_ _,rfl,rfl,by simp⟩
      case round=>
       obtain⟨d,p,t,rfl,rfl,f⟩:=hrel
       by_cases c:d<nq/\p=true
       ·obtain⟨c,rfl⟩:=c;have F:(d:Int)<(nq:Int):=by omega
        have ae:u_.wrap ((d:Int)+1)=(d:Int)+1:=by rw[w_];omega
        have hl:d<g.length:=by rw[s.o.2.len];exact c
        have D:false=true/\(g.take d).all (oa (nN n k))=true:=by rw[t_] at f;exact f
        have y:=yy hl D.2;obtain⟨v,m⟩:∃v,oa (nN n k) g[d]=v:=⟨_,rfl⟩
        obtain⟨b,off,rfl,G,z⟩:=s.o.2.cells (by omega);have L:=z d c;rw[pW hl] at L;have I:=U (zF v g[d] Q (n+1) R _ O C.o.1 m);have l:=U (z_ c (z_ y (z_ m D.1)));clear f D y m z G c t;generalize g[d]=x at*
        go_wp2_with (go_at_call 117;refine I.o.mono ?_;rintro e w' ⟨rfl,rfl⟩)
        go_round
        case rel=>exact⟨d+1,v,by have:=l.o.1;omega,by go_num,rfl,by rw[l.o.2.2.2,l.o.2.1,l.o.2.2.1];rfl⟩
        case measure=>have:=l.o.1;simp[intOf];omega
       ·have B:s7 n k ls g=p:=by
         unfold s7;rw[af.o];exact A6 f (by rw[s.o.2.len];exact c)
        have J:=U B;have E:d<nq->p=false:=λ h=>by
         cases p with
         |false=>rfl
         |true=>exact absurd ⟨h,rfl⟩ c
        clear f B c;have ad:u_.wrap ((k:Int)+1)=(k:Int)+1:=by rw[w_];omega
        cases p with
        |true=>
         have F:¬(d:Int)<(nq:Int):=λ h=>by have:=E (by omega);cases this
         clear E
         go_wp2_with fail
         go_ret;refine⟨lS ?_,C.o.2⟩;unfold se;rw[N];exact(l_.2 ⟨k,o_.2 ab,J.o⟩).symm
        |false=>
         clear E
         by_cases al:(d:Int)<(nq:Int)
         all_goals
          go_wp2_with fail
          go_roundw
          case rel=>exact⟨k+1,by omega,by go_num,C.o.2,λ j t=>by
           rcases g_ j k with h1|h1
           ·exact u.o.2 j h1
           ·obtain rfl:j=k:=by omega
            exact J.o⟩
          case measure=>simp[intOf];omega
     ·have F:¬(j:Int)<(nl:Int):=by omega
      clear c t T
      go_wp2_with fail
      go_loop [9,11] (λ q i=>∃(j:Nat)(r':Bool),j<=nq/\i=.int .i64 j/\q=.bool r'/\(r&&(g.take j).all (oa (nN n k)))=r') (λ _ i=>nq-(intOf i).toNat)
      case atStart=>exact⟨0,r,r_ _,rfl,rfl,by simp⟩
      case round=>
       obtain⟨d,p,t,rfl,rfl,f⟩:=hrel
       by_cases c:d<nq/\p=true
       ·obtain⟨c,rfl⟩:=c;have F:(d:Int)<(nq:Int):=by omega
        have ae:u_.wrap ((d:Int)+1)=(d:Int)+1:=by rw[w_];omega
        have hl:d<g.length:=by rw[s.o.2.len];exact c
        have D:r=true/\(g.take d).all (oa (nN n k))=true:=by rw[t_] at f;exact f
        have y:=yy hl D.2;obtain⟨v,m⟩:∃v,oa (nN n k) g[d]=v:=⟨_,rfl⟩
        obtain⟨b,off,rfl,G,z⟩:=s.o.2.cells (by omega);have L:=z d c;rw[pW hl] at L;have I:=U (zF v g[d] Q (n+1) R _ O C.o.1 m);have l:=U (z_ c (z_ y (z_ m D.1)));clear f D y m z G c t;generalize g[d]=x at*
        go_wp2_with (go_at_call 117;refine I.o.mono ?_;rintro e w' ⟨rfl,rfl⟩)
        go_round
        case rel=>exact⟨d+1,v,by have:=l.o.1;omega,by go_num,rfl,by rw[l.o.2.2.2,l.o.2.1,l.o.2.2.1];rfl⟩
        case measure=>have:=l.o.1;simp[intOf];omega
       ·have B:s7 n k ls g=p:=by
         unfold s7;rw[af.o];exact A6 f (by rw[s.o.2.len];exact c)
        have J:=U B;have E:d<nq->p=false:=λ h=>by
         cases p with
         |false=>rfl
         |true=>exact absurd ⟨h,rfl⟩ c
        clear f B c;have ad:u_.wrap ((k:Int)+1)=(k:Int)+1:=by rw[w_];omega
        cases p with
        |true=>
         have F:¬(d:Int)<(nq:Int):=λ h=>by have:=E (by omega);cases this
         clear E
         go_wp2_with fail
         go_ret;refine⟨lS ?_,C.o.2⟩;unfold se;rw[N];exact(l_.2 ⟨k,o_.2 ab,J.o⟩).symm
        |false=>
         clear E
         by_cases al:(d:Int)<(nq:Int)
         all_goals
          go_wp2_with fail
          go_roundw
          case rel=>exact⟨k+1,by omega,by go_num,C.o.2,λ j t=>by
           rcases g_ j k with h1|h1
           ·exact u.o.2 j h1
           ·obtain rfl:j=k:=by omega
            exact J.o⟩
          case measure=>simp[intOf];omega
  ·have ai:¬(k:Int)<(P:Int):=by omega
   go_wp2_with fail
   go_ret;refine⟨lS ?_,u.o.1⟩;unfold se;rw[N,List.any_eq_false.2 λ x an=>by rw[u.o.2 x (by have:=o_.1 an;omega)];simp]
theorem ES(x:Int)(n:Nat):lz x n=vl n x:=by
 rw[Bool.eq_iff_iff,s8];unfold vl;rw[t_,decide_eq_true_eq,decide_eq_true_eq];omega
theorem ET{x:Int}(c:jv l k=x):s4 n l k=(!(lz x n)||hasB (l.take k) x||hasB (l.take k) (-x)):=by
 unfold s4;rw[c,ES,Bool.or_assoc]
 congr 1
 rw[Bool.eq_iff_iff,Bool.or_eq_true,oQ,oQ,oQ,List.mem_map];constructor
 ·rintro⟨y,b,e⟩;have e:(aI y:Int)=(aI x:Int):=e;rcases zQ (x:=y) (y:=x) (by omega) with h|h
  ·exact .inl (h▸b)
  ·exact .inr (h▸b)
 ·rintro(h|h)
  ·exact⟨x,h,rfl⟩
  ·exact⟨-x,h,by show(aI (-x):Int)=_;rw[oG]⟩
theorem EU(n:Nat)(V:n<=65536)(A:Option Addr)(nl cl:Nat)(l:List Int)(w:World)(h:aN w A nl cl l):
  Calls s_ 51 #[.slice A nl cl,.int .i64 n] w λ e w'=>e=.returned (.bool (rf n l))/\Below w.heap.size w w':=by
 have aa:=h.small;have ab:=h.cap;have H:=U h;have M:=U (z_ h.len V);clear h;go_enter Tryz.func51,Tryz.ntmps51
 go_wp2_with fail
 go_loopw [5] (λ i W=>∃k:Nat,i=.int .i64 k/\k<=nl/\(∀q,q<k->s4 n l q=false)/\Below w.heap.size w W) (λ i _=>nl-(intOf i).toNat)
 case atStart=>exact⟨0,rfl,r_ _,λ q E=>absurd E (by omega),q_ _ _⟩
 case round=>
  obtain⟨k,rfl,hk,N,j⟩:=hrel;have O:=U N;have X:=U j;clear N
  by_cases t:k<nl
  ·have Y:(k:Int)<(nl:Int):=by omega
   have P:=λ q=>j.trans ((tL wr q).mono j.size)
   have F:=(H.o.below j).take (k:=k) hk;obtain⟨b,off,rfl,ad,R⟩:=(H.o.below j).cells (by omega);have Z:=R k t;have S:k<l.length:=by rw[M.o.1];exact t
   obtain⟨x,G⟩:∃x,jv l k=x:=⟨_,rfl⟩
   rw[G] at Z;have ae:u_.wrap ((k:Int)+1)=(k:Int)+1:=by rw[w_];omega
   obtain⟨m,u⟩:∃r,lz x n=r:=⟨_,rfl⟩
   obtain⟨v,I⟩:∃r,hasB (l.take k) x=r:=⟨_,rfl⟩
   obtain⟨z,J⟩:∃r,hasB (l.take k) (-x)=r:=⟨_,rfl⟩
   have K:=ET (n:=n) G;rw[u,I,J] at K;have f:=U (z_ S (z_ t (z_ K P)));have B:=U (λ q=>xK m x n (wr.drewN q) (by omega) (by omega) u);have C:=U (λ q=>vq v (some ⟨b,off,none⟩) k cl (l.take k) x (wr.drewN q) (F.below (tL _ _)) I);have D:=U (λ q=>vq z (some ⟨b,off,none⟩) k cl (l.take k) (-x) (wr.drewN q) (F.below (tL _ _)) J);have p:m=true->u_.wrap (-x)= -x:=λ h=>by
    rw[h] at u;have:=s8.1 u;rw[w_];omega
   have af:(k:Int)<=(cl:Int):=by omega
   clear R j P S G hk u I J K F t;have T:∀{Q:Prop},(m=false->Q)->(m=true->v=true->Q)->(m=true->v=false->z=true->Q)->(m=true->v=false->z=false->Q)->Q:=by
    intro Q a b c d
    cases m with
    |false=>exact a rfl
    |true=>
     cases v with
     |true=>exact b rfl rfl
     |false=>
      cases z with
      |true=>exact c rfl rfl rfl
      |false=>exact d rfl rfl rfl
   refine T ?_ ?_ ?_ ?_<;>clear T
   ·intro s;subst s;clear p
    go_wp2_with fail
    go_quiet (first|(go_at_call 115;with_reducible refine v_ ((B.o _).mono λ e g h=>⟨h.1,h.2.symm⟩))|(go_at_call 101;with_reducible refine v_ ((C.o _).mono λ e g h=>⟨h.1,h.2.symm⟩))|(go_at_call 101;with_reducible refine v_ ((D.o _).mono λ e g h=>⟨h.1,h.2.symm⟩)))
    go_wp2_with fail
    go_ret;exact⟨lS (zq f.o.1 (by rw[f.o.2.2.1];rfl)).symm,f.o.2.2.2 _⟩
   ·intro s y;subst s y;replace p:=p rfl
    go_wp2_with fail
    go_quiet (first|(go_at_call 115;with_reducible refine v_ ((B.o _).mono λ e g h=>⟨h.1,h.2.symm⟩))|(go_at_call 101;with_reducible refine v_ ((C.o _).mono λ e g h=>⟨h.1,h.2.symm⟩))|(go_at_call 101;with_reducible refine v_ ((D.o _).mono λ e g h=>⟨h.1,h.2.symm⟩)))
    go_wp2_with fail
    go_ret;exact⟨lS (zq f.o.1 (by rw[f.o.2.2.1];rfl)).symm,f.o.2.2.2 _⟩
   ·intro s y L;subst s y L;replace p:=p rfl
    go_wp2_with fail
    go_quiet (first|(go_at_call 115;with_reducible refine v_ ((B.o _).mono λ e g h=>⟨h.1,h.2.symm⟩))|(go_at_call 101;with_reducible refine v_ ((C.o _).mono λ e g h=>⟨h.1,h.2.symm⟩))|(go_at_call 101;with_reducible refine v_ ((D.o _).mono λ e g h=>⟨h.1,h.2.symm⟩)))
    go_wp2_with fail
    go_ret;exact⟨lS (zq f.o.1 (by rw[f.o.2.2.1];rfl)).symm,f.o.2.2.2 _⟩
   ·intro s y L;subst s y L;replace p:=p rfl
    go_wp2_with fail
    go_quiet (first|(go_at_call 115;with_reducible refine v_ ((B.o _).mono λ e g h=>⟨h.1,h.2.symm⟩))|(go_at_call 101;with_reducible refine v_ ((C.o _).mono λ e g h=>⟨h.1,h.2.symm⟩))|(go_at_call 101;with_reducible refine v_ ((D.o _).mono λ e g h=>⟨h.1,h.2.symm⟩)))
    go_wp2_with fail
    go_roundw
    case rel=>exact⟨k+1,by go_num,by have:=f.o.2.1;omega,λ q E=>by
     rcases g_ q k with h1|h1
     ·exact O.o q h1
     ·obtain rfl:q=k:=by omega
      rw[f.o.2.2.1];rfl,f.o.2.2.2 _⟩
    case measure=>have:=f.o.2.1;simp[intOf];omega
  ·have Y:¬(k:Int)<(nl:Int):=by omega
   clear j t hk
   go_wp2_with fail
   go_ret;exact⟨lS (Ev (λ q E=>O.o q (by have:=M.o.1;omega))).symm,X.o⟩
theorem kG.pT(h:kG D w n s t)(b:n<=10):lB n s.gs=0:=yl (by omega) h.O.g1 h.O.bk
theorem EW(j:lB n ls=0)(hl:∀x∈l,gF n x):se n ls l=true↔Can ls l:=by
 obtain⟨h1,m,d⟩:=Cu j;unfold se s7;rw[l_];constructor
 ·rintro⟨k,hk,h⟩;rw[t_,p_,p_] at h;exact⟨p0 (nN n k),⟨yV _,λ g c=>(vK (d g c) h1).1 (h.1 g c)⟩,λ x b=>by rw[<-xC (hl x b) h1];exact h.2 x b⟩
 ·rintro⟨M,f,h⟩;obtain⟨k,hk,i⟩:=Em n λ v=>M ((v:Int)+1)
  refine⟨k,o_.2 hk,?_⟩;rw[t_,p_,p_];refine⟨λ g c=>(vK (d g c) h1).2 ?_,λ x b=>by rw[xC (hl x b) h1];exact(Cw f.1 i (hl x b)).trans (h x b)⟩;obtain⟨x,b,e⟩:=f.2 g c;exact⟨x,b,(Cw f.1 i (d g c x b)).trans e⟩
theorem EX(b:lB n ls=0)(hl:∀x∈l,gF n x)(h:¬Can ls l):se n ls l=false:=by
 cases e:se n ls l with
 |false=>rfl
 |true=>exact absurd ((EW b hl).1 e) h
theorem A7:∀n:Nat,3^n<=4^n
 |0=>j_ _
 |n+1=>by have:=A7 n;rw[h_,h_];omega
theorem EY(h:kG D w n s t)(ai:n<=10){jw:Option Addr}{nq jF:Nat}{ax:List Int}(Z:aN w jw nq jF ax){b sp:Nat}(aA:sp<=b)(hl:∀x∈ax,gF n x){jt:Option Addr}{jh:Nat}{m:List Bool}(hm:kS w jt (n+1) jh m)(aj:ri s.gs n ax m):
  Calls s_ 54 #[.agg t.L.toArray,.slice jw nq jF,.int .i64 b,.agg #[.int .i64 1,.slice jt (n+1) jh,.slice none 0 0,.int .i64 sp]] w λ e W=>e=.returned (.bool true)/\Below w.heap.size w W:=by
 obtain⟨aB,⟨r,aC,gc⟩,d,f,j,y,l,p⟩:=t;have aD:aB=n:=congrArg gD.n h.e;subst aD;have aE:aC=s.gs.length:=congrArg (λ t:gD=>t.g.n) h.e;subst aE;have aa:=bg w (.cells [.int .i64 n,.slice r s.gs.length gc,.slice d.A d.n d.c,.slice f.A f.n f.c,.slice j.A j.n j.c,.int .i64 y,.slice l.A l.n l.c,.slice p.A p.n p.c].toArray 47);have I:=bg (w.alloc (.cells [.int .i64 n,.slice r s.gs.length gc,.slice d.A d.n d.c,.slice f.A f.n f.c,.slice j.A j.n j.c,.int .i64 y,.slice l.A l.n l.c,.slice p.A p.n p.c].toArray 47)) (.cells #[.int .i64 1,.slice jt (n+1) jh,.slice none 0 0,.int .i64 sp] 30);have J:=bg ((w.alloc (.cells [.int .i64 n,.slice r s.gs.length gc,.slice d.A d.n d.c,.slice f.A f.n f.c,.slice j.A j.n j.c,.int .i64 y,.slice l.A l.n l.c,.slice p.A p.n p.c].toArray 47)).alloc (.cells #[.int .i64 1,.slice jt (n+1) jh,.slice none 0 0,.int .i64 sp] 30)) (.cells #[.int .i64 n,.slice r s.gs.length gc] 24);have ak:=aM.new w 47 [.int .i64 n,.slice r s.gs.length gc,.slice d.A d.n d.c,.slice f.A f.n f.c,.slice j.A j.n j.c,.int .i64 y,.slice l.A l.n l.c,.slice p.A p.n p.c];have k2:=aM.new (w.alloc (.cells [.int .i64 n,.slice r s.gs.length gc,.slice d.A d.n d.c,.slice f.A f.n f.c,.slice j.A j.n j.c,.int .i64 y,.slice l.A l.n l.c,.slice p.A p.n p.c].toArray 47)) 30 [.int .i64 1,.slice jt (n+1) jh,.slice none 0 0,.int .i64 sp];have k3:=aM.new ((w.alloc (.cells [.int .i64 n,.slice r s.gs.length gc,.slice d.A d.n d.c,.slice f.A f.n f.c,.slice j.A j.n j.c,.int .i64 y,.slice l.A l.n l.c,.slice p.A p.n p.c].toArray 47)).alloc (.cells #[.int .i64 1,.slice jt (n+1) jh,.slice none 0 0,.int .i64 sp] 30)) 24 [.int .i64 n,.slice r s.gs.length gc];have al:(w.alloc (.cells [.int .i64 n,.slice r s.gs.length gc,.slice d.A d.n d.c,.slice f.A f.n f.c,.slice j.A j.n j.c,.int .i64 y,.slice l.A l.n l.c,.slice p.A p.n p.c].toArray 47)).heap.size=w.heap.size+1:=by simp
 have an:((w.alloc (.cells [.int .i64 n,.slice r s.gs.length gc,.slice d.A d.n d.c,.slice f.A f.n f.c,.slice j.A j.n j.c,.int .i64 y,.slice l.A l.n l.c,.slice p.A p.n p.c].toArray 47)).alloc (.cells #[.int .i64 1,.slice jt (n+1) jh,.slice none 0 0,.int .i64 sp] 30)).heap.size=w.heap.size+1+1:=by simp
 rw[al] at k2;rw[an] at k3;have aU:¬((sp:Int)<0):=by omega
 have aV:¬((b:Int)<(sp:Int)):=by omega
 have C:=aa.trans ((I.trans (J.mono I.size)).mono aa.size);have E:=h.pT ai;have H:=U (z_ (h.below C).aO.gs (z_ (Z.below C) (z_ C (z_ ((ak.below I).below J) (z_ (k2.below J) k3)))));have ao:=U (z_ E (z_ ai h.O.bk));have z:=U (z_ (hm.below C) (z_ hl aj));have aW:=Z.small;clear h Z aa I J C ak k2 k3 al an aA E;unfold gD.L at*;have q:=H.o.2.2.2.1.cell;have K:=q 0;have M:=q 1;have N:=q 2;have P:=q 3;have Q:=q 4;have R:=q 5;have S:=q 6;have T:=q 7;simp only[y_,x_] at K M N P Q R S T;clear q;have v:=H.o.2.2.2.2.1.cell;have v0:=v 0;have v1:=v 1;have v2:=v 2;have v3:=v 3;simp only[y_,x_] at v0 v1 v2 v3;clear v;go_enter Tryz.func54,Tryz.ntmps54
 clear hl hm aj
 go_upto_region 5 with fail
 clear K M N P Q R S T v0 v1 v2 v3;generalize ((w.alloc (.cells #[.int .i64 n,.slice r s.gs.length gc,.slice d.A d.n d.c,.slice f.A f.n f.c,.slice j.A j.n j.c,.int .i64 y,.slice l.A l.n l.c,.slice p.A p.n p.c] 47)).alloc (.cells #[.int .i64 1,.slice jt (n+1) jh,.slice none 0 0,.int .i64 sp] 30)).alloc (.cells #[.int .i64 n,.slice r s.gs.length gc] 24)=W at*
 go_wp2_with fail
 go_loopw [10] (λ i V=>∃k:Nat,k<=nq/\i=.int .i64 k/\Below W.heap.size W V) (λ i _=>nq-(intOf i).toNat)
 case atStart=>exact⟨0,r_ _,rfl,q_ _ _⟩
 case round=>
  obtain⟨k,hk,rfl,u⟩:=hrel;have aq:=U u;have ar:=H.o.2.2.2.1.below u;have ab:=H.o.2.2.2.2.1.below u;have au:=H.o.2.2.2.2.2.below u;have q:=ar.cell;have K:=q 0;have M:=q 1;have N:=q 2;have P:=q 3;have Q:=q 4;have R:=q 5;have S:=q 6;have T:=q 7;simp only[y_,x_] at K M N P Q R S T;clear q;have v:=ab.cell;have v0:=v 0;have v1:=v 1;have v2:=v 2;have v3:=v 3;simp only[y_,x_] at v0 v1 v2 v3;clear v;have ad:=au.cell;have z0:=ad 0;have aF:=ad 1;simp only[y_,x_] at z0 aF;clear ad;have c3:w.heap.size+1<wr.heap.size:=ab.lt;have c4:¬w.heap.size+1=wr.heap.size:=by omega
  clear ar ab au
  by_cases F:k<nq
  ·have aG:(k:Int)<(nq:Int):=by omega
   have aX:u_.wrap ((k:Int)+1)=(k:Int)+1:=by rw[w_];omega
   have ae:=H.o.2.1.below u;obtain⟨aY,off,rfl,aH,E⟩:=ae.cells (by omega);have aI:=E k F;have X:k<ax.length:=by rw[ae.len];exact F
   rw[pW X] at aI;have av:oa m ax[k]=true:=by rw[xC (z.o.2.1 _ (k_ X)) (by have:=ao.o.2.1;omega)];exact z.o.2.2.ax _ (k_ X)
   have B:=U (z_ av (z_ F (u.trans ((q_ _ _).drew.mono u.size))));generalize ax[k]=x at*;clear av E ae aH X F hk u
   go_upto_region 9 with fail
   rename_i aJ aw;have aK:=U aw;clear aw;have af:=bg wr.drew (lW [x]);have ag:=U (z_ (B.o.2.2.trans (af.mono B.o.2.2.size)) (C4 true (some ⟨wr.heap.size,0,none⟩) 1 1 [x] jt (n+1) jh m (wr.drew.alloc (lW [x])) (aN.lit wr.drew [x] 1 _ rfl rfl (by omega)) (z.o.1.below (B.o.2.2.trans (af.mono B.o.2.2.size))) (by unfold oF;simp[B.o.1])));clear af;refine wp_region_noPanic ?_
   go_region_with (go_at_call 60;refine ag.o.2.mono ?_;rintro e aL ⟨rfl,G⟩;have Y:=U (ag.o.1.trans (G.mono ag.o.1.size));clear G)
   all_goals
    show aJ _ _;apply aK.o
    go_wp2_with fail
    go_roundw
    case rel=>exact⟨k+1,by have:=B.o.2.1;omega,by go_num,Y.o⟩
    case measure=>have:=B.o.2.1;simp[intOf];omega
  ·have aG:¬(k:Int)<(nq:Int):=by omega
   obtain⟨bm,aP,rfl,aQ,ay⟩:=(z.o.1.below u).cells (by omega);have aR:=ay 0 (by omega);rw[show m.getD 0 false=jr m 0 from rfl,z.o.2.2.m0,Nat.add_zero] at aR;have az:=(IF ao.o.1 z.o.2.1 z.o.2.2).1;have ah:=Bd n r s.gs.length gc s.gs (some ⟨bm,aP,none⟩) (n+1) jh m wr (H.o.1.below u) (z.o.1.below u);rw[az] at ah;have aS:=U ah;have wn:u_.wrap ((n:Int)+1)=(n:Int)+1:=by rw[w_];omega
   clear ay aQ u F hk az ah
   go_wp2_with (go_at_call 58;refine aS.o.mono ?_;rintro e aL ⟨rfl,G⟩;have Y:=U (aq.o.trans (G.mono aq.o.size));clear G;have aT:=(H.o.2.2.2.2.1.below Y.o).cell 2;simp only[y_,x_] at aT)
   all_goals
    go_ret;exact⟨rfl,H.o.2.2.1.trans (Y.o.mono H.o.2.2.1.size)⟩
theorem EZ(h:kG D w n s t)(M:n<=10){jw:Option Addr}{nq jF:Nat}{ax:List Int}(J:aN w jw nq jF ax){b sp:Nat}(Z:sp<=b)(N:sp=b)(Q:b+1<=3^n):
  Calls s_ 54 #[.agg t.L.toArray,.slice jw nq jF,.int .i64 b,.agg #[.int .i64 3,.slice none 0 0,.slice none 0 0,.int .i64 sp]] w λ e W=>e=.returned (.bool true)/\Below w.heap.size w W:=by
 obtain⟨aa,⟨m,ab,gc⟩,d,f,i,q,j,k⟩:=t;have R:aa=n:=congrArg gD.n h.e;subst R;have ad:ab=s.gs.length:=congrArg (λ t:gD=>t.g.n) h.e;subst ad;have K:=bg w (.cells [.int .i64 n,.slice m s.gs.length gc,.slice d.A d.n d.c,.slice f.A f.n f.c,.slice i.A i.n i.c,.int .i64 q,.slice j.A j.n j.c,.slice k.A k.n k.c].toArray 47);have r:=bg (w.alloc (.cells [.int .i64 n,.slice m s.gs.length gc,.slice d.A d.n d.c,.slice f.A f.n f.c,.slice i.A i.n i.c,.int .i64 q,.slice j.A j.n j.c,.slice k.A k.n k.c].toArray 47)) (.cells #[.int .i64 3,.slice none 0 0,.slice none 0 0,.int .i64 sp] 30);have u:=bg ((w.alloc (.cells [.int .i64 n,.slice m s.gs.length gc,.slice d.A d.n d.c,.slice f.A f.n f.c,.slice i.A i.n i.c,.int .i64 q,.slice j.A j.n j.c,.slice k.A k.n k.c].toArray 47)).alloc (.cells #[.int .i64 3,.slice none 0 0,.slice none 0 0,.int .i64 sp] 30)) (.cells #[.int .i64 n,.slice m s.gs.length gc] 24);have S:=aM.new w 47 [.int .i64 n,.slice m s.gs.length gc,.slice d.A d.n d.c,.slice f.A f.n f.c,.slice i.A i.n i.c,.int .i64 q,.slice j.A j.n j.c,.slice k.A k.n k.c];have k2:=aM.new (w.alloc (.cells [.int .i64 n,.slice m s.gs.length gc,.slice d.A d.n d.c,.slice f.A f.n f.c,.slice i.A i.n i.c,.int .i64 q,.slice j.A j.n j.c,.slice k.A k.n k.c].toArray 47)) 30 [.int .i64 3,.slice none 0 0,.slice none 0 0,.int .i64 sp];have k3:=aM.new ((w.alloc (.cells [.int .i64 n,.slice m s.gs.length gc,.slice d.A d.n d.c,.slice f.A f.n f.c,.slice i.A i.n i.c,.int .i64 q,.slice j.A j.n j.c,.slice k.A k.n k.c].toArray 47)).alloc (.cells #[.int .i64 3,.slice none 0 0,.slice none 0 0,.int .i64 sp] 30)) 24 [.int .i64 n,.slice m s.gs.length gc];have T:(w.alloc (.cells [.int .i64 n,.slice m s.gs.length gc,.slice d.A d.n d.c,.slice f.A f.n f.c,.slice i.A i.n i.c,.int .i64 q,.slice j.A j.n j.c,.slice k.A k.n k.c].toArray 47)).heap.size=w.heap.size+1:=by simp
 have V:((w.alloc (.cells [.int .i64 n,.slice m s.gs.length gc,.slice d.A d.n d.c,.slice f.A f.n f.c,.slice i.A i.n i.c,.int .i64 q,.slice j.A j.n j.c,.slice k.A k.n k.c].toArray 47)).alloc (.cells #[.int .i64 3,.slice none 0 0,.slice none 0 0,.int .i64 sp] 30)).heap.size=w.heap.size+1+1:=by simp
 rw[T] at k2;rw[V] at k3;have ae:¬((sp:Int)<0):=by omega
 have af:¬((b:Int)<(sp:Int)):=by omega
 have v:=K.trans ((r.trans (u.mono r.size)).mono K.size);have X:=h.pT M;have H:=U (z_ (h.below v).aO.gs (z_ (J.below v) (z_ v (z_ ((S.below r).below u) (z_ (k2.below u) k3)))));have ag:=U (z_ X (z_ M h.O.bk));have ah:=U (z_ N Q);have ai:=J.small;clear h J K r u v S k2 k3 T V Z X;unfold gD.L at*;have l:=H.o.2.2.2.1.cell;have y:=l 0;have z:=l 1;have B:=l 2;have C:=l 3;have E:=l 4;have F:=l 5;have G:=l 6;have I:=l 7;simp only[y_,x_] at y z B C E F G I;clear l;have p:=H.o.2.2.2.2.1.cell;have v0:=p 0;have v1:=p 1;have v2:=p 2;have v3:=p 3;simp only[y_,x_] at v0 v1 v2 v3;clear p;go_enter Tryz.func54,Tryz.ntmps54
 have wp:wrap64 (2^(2*n))=((2^(2*n):Nat):Int):=by
  have aj:(2:Nat)^(2*n)<=2^20:=Nat.pow_le_pow_right (by omega) (by omega);have ak:(2:Nat)^20=1048576:=by decide
  rw[show((2:Int)^(2*n))=((2^(2*n):Nat):Int) by push_cast;rfl];generalize (2:Nat)^(2*n)=P at*;unfold wrap64;omega
 have Y:b<2^(2*n):=by
  rw[Nat.pow_mul,show(2:Nat)^2=4 from rfl];have:=A7 n;omega
 have Y:(b:Int)<((2^(2*n):Nat):Int):=by exact_mod_cast Y
 subst N;have R:decide ((sp:Int)=sp)=true:=decide_eq_true rfl;have al:u_.wrap (2*(n:Int))=2*(n:Int):=by rw[w_];omega
 clear Q
 go_upto_region 20 with fail
 clear y z B C E F G I v0 v1 v2 v3;generalize ((w.alloc (.cells #[.int .i64 n,.slice m s.gs.length gc,.slice d.A d.n d.c,.slice f.A f.n f.c,.slice i.A i.n i.c,.int .i64 q,.slice j.A j.n j.c,.slice k.A k.n k.c] 47)).alloc (.cells #[.int .i64 3,.slice none 0 0,.slice none 0 0,.int .i64 sp] 30)).alloc (.cells #[.int .i64 n,.slice m s.gs.length gc] 24)=W at*;have l:=H.o.2.2.2.1.cell;have y:=l 0;have z:=l 1;have B:=l 2;have C:=l 3;have E:=l 4;have F:=l 5;have G:=l 6;have I:=l 7;simp only[y_,x_] at y z B C E F G I;clear l;have p:=H.o.2.2.2.2.1.cell;have v0:=p 0;have v1:=p 1;have v2:=p 2;have v3:=p 3;simp only[y_,x_] at v0 v1 v2 v3;clear p
 go_wp2_with fail
 go_ret;exact⟨rfl,H.o.2.2.1⟩
theorem E0(h:l.Nodup){i j:Nat}(b:i<l.length)(c:j<l.length)(e:l[i]=l[j]):i=j:=by
 rw[List.nodup_iff_pairwise_ne,List.pairwise_iff_getElem] at h;rcases Nat.lt_trichotomy i j with h1|h1|h1
 ·exact absurd e (h i j b c h1)
 ·exact h1
 ·exact absurd e.symm (h j i c b h1)
theorem E1(h:kG D w n s t)(ah:n<=10){jw:Option Addr}{nq jF:Nat}{ax:List Int}(ab:aN w jw nq jF ax){b sp:Nat}(aB:sp<=b)(G:(ax.map aI).Nodup){js:Option Addr}{ic dh:Nat}{co:List Int}(ad:aN w js ic dh co)(ae:co.Sublist ax)(hl:∀x∈ax,gF n x)(ai:¬Can s.gs co):
  Calls s_ 54 #[.agg t.L.toArray,.slice jw nq jF,.int .i64 b,.agg #[.int .i64 2,.slice none 0 0,.slice js ic dh,.int .i64 sp]] w λ e W=>e=.returned (.bool true)/\Below w.heap.size w W:=by
 obtain⟨aC,⟨r,aD,gc⟩,d,f,l,y,m,p⟩:=t;have aE:aC=n:=congrArg gD.n h.e;subst aE;have I:aD=s.gs.length:=congrArg (λ t:gD=>t.g.n) h.e;subst I;have af:=bg w (.cells [.int .i64 n,.slice r s.gs.length gc,.slice d.A d.n d.c,.slice f.A f.n f.c,.slice l.A l.n l.c,.int .i64 y,.slice m.A m.n m.c,.slice p.A p.n p.c].toArray 47);have J:=bg (w.alloc (.cells [.int .i64 n,.slice r s.gs.length gc,.slice d.A d.n d.c,.slice f.A f.n f.c,.slice l.A l.n l.c,.int .i64 y,.slice m.A m.n m.c,.slice p.A p.n p.c].toArray 47)) (.cells #[.int .i64 2,.slice none 0 0,.slice js ic dh,.int .i64 sp] 30);have K:=bg ((w.alloc (.cells [.int .i64 n,.slice r s.gs.length gc,.slice d.A d.n d.c,.slice f.A f.n f.c,.slice l.A l.n l.c,.int .i64 y,.slice m.A m.n m.c,.slice p.A p.n p.c].toArray 47)).alloc (.cells #[.int .i64 2,.slice none 0 0,.slice js ic dh,.int .i64 sp] 30)) (.cells #[.int .i64 n,.slice r s.gs.length gc] 24);have aj:=aM.new w 47 [.int .i64 n,.slice r s.gs.length gc,.slice d.A d.n d.c,.slice f.A f.n f.c,.slice l.A l.n l.c,.int .i64 y,.slice m.A m.n m.c,.slice p.A p.n p.c];have k2:=aM.new (w.alloc (.cells [.int .i64 n,.slice r s.gs.length gc,.slice d.A d.n d.c,.slice f.A f.n f.c,.slice l.A l.n l.c,.int .i64 y,.slice m.A m.n m.c,.slice p.A p.n p.c].toArray 47)) 30 [.int .i64 2,.slice none 0 0,.slice js ic dh,.int .i64 sp];have k3:=aM.new ((w.alloc (.cells [.int .i64 n,.slice r s.gs.length gc,.slice d.A d.n d.c,.slice f.A f.n f.c,.slice l.A l.n l.c,.int .i64 y,.slice m.A m.n m.c,.slice p.A p.n p.c].toArray 47)).alloc (.cells #[.int .i64 2,.slice none 0 0,.slice js ic dh,.int .i64 sp] 30)) 24 [.int .i64 n,.slice r s.gs.length gc];have ak:(w.alloc (.cells [.int .i64 n,.slice r s.gs.length gc,.slice d.A d.n d.c,.slice f.A f.n f.c,.slice l.A l.n l.c,.int .i64 y,.slice m.A m.n m.c,.slice p.A p.n p.c].toArray 47)).heap.size=w.heap.size+1:=by simp
 have al:((w.alloc (.cells [.int .i64 n,.slice r s.gs.length gc,.slice d.A d.n d.c,.slice f.A f.n f.c,.slice l.A l.n l.c,.int .i64 y,.slice m.A m.n m.c,.slice p.A p.n p.c].toArray 47)).alloc (.cells #[.int .i64 2,.slice none 0 0,.slice js ic dh,.int .i64 sp] 30)).heap.size=w.heap.size+1+1:=by simp
 rw[ak] at k2;rw[al] at k3;have aV:¬((sp:Int)<0):=by omega
 have aW:¬((b:Int)<(sp:Int)):=by omega
 have C:=af.trans ((J.trans (K.mono J.size)).mono af.size);have B:=h.pT ah;have H:=U (z_ (h.below C).aO.gs (z_ (ab.below C) (z_ C (z_ ((aj.below J).below K) (z_ (k2.below K) k3)))));have aF:=U (z_ B (z_ ah h.O.bk));have z:=U (z_ (ad.below C) (z_ ae (z_ (IM G) (EX B (λ x aG=>hl x (ae.subset aG)) ai))));have aX:=ab.small;clear h ab af J K C aj k2 k3 ak al aB B;unfold gD.L at*;have q:=H.o.2.2.2.1.cell;have M:=q 0;have N:=q 1;have P:=q 2;have Q:=q 3;have R:=q 4;have S:=q 5;have T:=q 6;have X:=q 7;simp only[y_,x_] at M N P Q R S T X;clear q;have u:=H.o.2.2.2.2.1.cell;have v0:=u 0;have v1:=u 1;have v2:=u 2;have v3:=u 3;simp only[y_,x_] at v0 v1 v2 v3;clear u;go_enter Tryz.func54,Tryz.ntmps54
 have aY:=ad.small;clear hl ad ae ai G
 go_upto_region 5 with fail
 clear M N P Q R S T X v0 v1 v2 v3;generalize ((w.alloc (.cells #[.int .i64 n,.slice r s.gs.length gc,.slice d.A d.n d.c,.slice f.A f.n f.c,.slice l.A l.n l.c,.int .i64 y,.slice m.A m.n m.c,.slice p.A p.n p.c] 47)).alloc (.cells #[.int .i64 2,.slice none 0 0,.slice js ic dh,.int .i64 sp] 30)).alloc (.cells #[.int .i64 n,.slice r s.gs.length gc] 24)=W at*
 go_wp2_with fail
 go_loopw [11] (λ i V=>∃k:Nat,k<=ic/\i=.int .i64 k/\Below W.heap.size W V) (λ i _=>ic-(intOf i).toNat)
 case atStart=>exact⟨0,r_ _,rfl,q_ _ _⟩
 case round=>
  obtain⟨k,hk,rfl,v⟩:=hrel;have an:=U v;have ao:=H.o.2.2.2.1.below v;have aq:=H.o.2.2.2.2.1.below v;have q:=ao.cell;have M:=q 0;have N:=q 1;have P:=q 2;have Q:=q 3;have R:=q 4;have S:=q 5;have T:=q 6;have X:=q 7;simp only[y_,x_] at M N P Q R S T X;clear q;have u:=aq.cell;have v0:=u 0;have v1:=u 1;have v2:=u 2;have v3:=u 3;simp only[y_,x_] at v0 v1 v2 v3;clear u;clear ao aq
  by_cases E:k<ic
  ·have aH:(k:Int)<(ic:Int):=by omega
   have aZ:u_.wrap ((k:Int)+1)=(k:Int)+1:=by rw[w_];omega
   have Y:=v.trans ((q_ _ _).drew.mono v.size);have F:=z.o.1.below Y;have ar:=F.take (k:=k) hk;obtain⟨aJ,off,rfl,aK,B⟩:=(z.o.1.below v).cells (by omega);have aL:=B k E;have Z:k<co.length:=by rw[F.len];exact E
   rw[pW Z] at aL;have au:hasB ax co[k]=true:=oQ.2 (z.o.2.1.subset (k_ Z));have av:hasB (co.take k) co[k]=false:=by
    have G:=z.o.2.1.nodup z.o.2.2.1
    cases e:hasB (co.take k) co[k] with
    |false=>rfl
    |true=>
     obtain⟨j,aP,I⟩:=List.mem_iff_getElem.1 (oQ.1 e);rw[List.length_take] at aP;rw[List.getElem_take] at I;have:=(E0 G (by omega) Z) I;omega
   have aa:=U (z_ E (z_ (vq true jw nq jF ax co[k] wr.drew (H.o.2.1.below Y) au) (vq false (some ⟨aJ,off,none⟩) k dh (co.take k) co[k] wr.drew ar av)));have aQ:=U Y;generalize co[k]=x at*;have a6:=F.cap;have a7:=F.oo;clear au av B F ar aK Z E hk v Y
   go_upto_region 16 with fail
   rename_i aR aw;have aS:=U aw;clear aw;refine wp_region_noPanic ?_
   go_region_with (first|(go_at_call 101;with_reducible refine aa.o.2.1.mono ?_;rintro e ay ⟨rfl,rfl⟩)|(go_at_call 101;with_reducible refine aa.o.2.2.mono ?_;rintro e ay ⟨rfl,rfl⟩))
   all_goals
    show aR _ _;apply aS.o
    go_wp2_with fail
    go_roundw
    case rel=>exact⟨k+1,by have:=aa.o.1;omega,by go_num,aQ.o⟩
    case measure=>have:=aa.o.1;simp[intOf];omega
  ·have aH:¬(k:Int)<(ic:Int):=by omega
   have ag:=ER n (by have:=aF.o.2.1;omega) r s.gs.length gc s.gs js ic dh co wr (H.o.1.below v) (z.o.1.below v);rw[z.o.2.2.2] at ag;have aT:=U ag;clear v E hk ag
   go_wp2_with (go_at_call 57;refine aT.o.mono ?_;rintro e ay ⟨rfl,az⟩;have aA:=U (an.o.trans (az.mono an.o.size));clear az;have aU:=(H.o.2.2.2.2.1.below aA.o).cell 1;simp only[y_,x_] at aU)
   all_goals
    go_ret;exact⟨rfl,H.o.2.2.1.trans (aA.o.mono H.o.2.2.1.size)⟩
theorem E2(h:kG D w n s t)(g:n<=10){jw:Option Addr}{nq jF:Nat}{ax:List Int}(i:aN w jw nq jF ax){b:Nat}{u:kY}(j:qb n ax b=true)(hu:uO w s.gs ax n b u):
  Calls s_ 54 #[.agg t.L.toArray,.slice jw nq jF,.int .i64 b,.agg u.L.toArray] w λ e W=>e=.returned (.bool true)/\Below w.heap.size w W:=by
 unfold qb at j;rw[t_,t_] at j;obtain⟨o,q⟩:=Ew j.1.1;obtain⟨k,l,p,us⟩:=u;obtain⟨r,h1,v⟩:=hu;obtain⟨sp,rfl⟩:∃sp:Nat,us=sp:=⟨us.toNat,by have:(0:Int)<=us:=r;omega⟩
 have h1:(sp:Int)<=b:=h1;rcases v with⟨a,c,m,d,e⟩|⟨a,c,co,d,e,f⟩|⟨a,c,d,e,f⟩
 ·have a:k=1:=a;have c:p=lX:=c;subst a c;obtain⟨A,y,B⟩:=l;have z:y=n+1:=d.len.symm.trans e.len;subst z;exact EY h g i (by omega) o d e
 ·have a:k=2:=a;have c:l=lX:=c;subst a c;exact E1 h g i (by omega) q d e o f
 ·have a:k=3:=a;have c:l=lX:=c;have d:p=lX:=d;have e:(sp:Int)=b:=e;subst a c d;exact EZ h g i (by omega) (by omega) f
theorem I3(n:Int)(A:Option Addr)(nl cl:Nat)(es:List s6)(ad:Option Addr)(nq ae:Nat)(O:List Int)(M:Int)(w:World)(h:vM w A nl cl es)(ak:aN w ad nq ae O):
  Calls s_ 12 #[.int .i64 n,.slice A nl cl,.slice ad nq ae,.int .i64 M] w λ e w'=>e=.returned (.bool true)/\Below w.heap.size w w':=by
 have pQ:=U (EN w);have Q:=U (z_ (h) (z_ (ak) (q_ w.heap.size w)));clear h ak;go_enter Tryz.func12,Tryz.ntmps12
 go_upto_region 3 with(go_at_call 40;refine pQ.o.mono ?_;rintro e w1 ⟨rfl,al⟩;have af:=U al;clear al)
 have B:=U (z_ (Q.o.1.below af.o) (z_ (Q.o.2.1.below af.o) (Q.o.2.2.trans (af.o.mono Q.o.2.2.size))));clear Q;have ag:=U (EI n A nl cl es w1 B.o.1)
 by_cases aK:20<nq
 ·have az:(20:Int)<(nq:Int):=by omega
  go_upto_region 5 with(go_at_call 52;refine ag.o.mono ?_;rintro e w1 ⟨r,rfl,rfl,R⟩;have ah:=U R;clear R;cases r)
  all_goals
   go_ret;exact⟨rfl,B.o.2.2⟩
 have az:¬(20:Int)<(nq:Int):=by omega
 go_upto_region 5 with(go_at_call 52;refine ag.o.mono ?_;rintro e w1 ⟨r,rfl,rfl,R⟩;have ah:=U R;clear R;cases r)
 ·go_ret;exact⟨rfl,B.o.2.2⟩
 obtain⟨aA,n6,an,ao⟩:=ah.o trivial;obtain⟨n,rfl⟩:∃m:Nat,n=m:=⟨n.toNat,by omega⟩
 have aq:=U (EV n (by omega) A nl cl es w1 B.o.1 an ao);clear aA n6 an ao
 go_upto_region 6 with(go_at_call 53;refine aq.o.mono ?_;rintro e X ⟨m,s,t,rfl,ar,hm,au,av⟩;have N:=U (z_ ar (z_ au (z_ hm av)));clear ar au hm av;unfold gD.L)
 have S:=bg X (.cells t.L.toArray 47);have T:=aM.new X 47 t.L;simp only[gD.L] at S T;generalize X.alloc (.cells #[.int .i64 t.n,.slice t.g.A t.g.n t.g.c,.slice t.l.A t.l.n t.l.c,.slice t.a.A t.a.n t.a.c,.slice t.o.A t.o.n t.o.c,.int .i64 t.b,.slice t.h.A t.h.n t.h.c,.slice t.p.A t.p.n t.p.c] 47)=aB at S T⊢;generalize X.heap.size=aC at T⊢;have Y:=N.o.1.trans (S.mono N.o.1.size);have aL:=N.o.2.2.1;have P:t.n=(m:Int):=by rw[N.o.2.1.e];rfl
 have f:=U (z_ (show aM aB aC 47 [.int .i64 t.n,.slice t.g.A t.g.n t.g.c,.slice t.l.A t.l.n t.l.c,.slice t.a.A t.a.n t.a.c,.slice t.o.A t.o.n t.o.c,.int .i64 t.b,.slice t.h.A t.h.n t.h.c,.slice t.p.A t.p.n t.p.c] from T) (z_ (N.o.2.1.below S) (z_ (B.o.1.below Y) (z_ (B.o.2.1.below Y) (B.o.2.2.trans (Y.mono B.o.2.2.size))))));have aD:=U N.o.2.2.2;clear B N S T Y aq ag pQ ah;have d:=(f.o.1).cell;have v:=d 0;have C:=d 1;have D:=d 2;have E:=d 3;have F:=d 4;have G:=d 5;have H:=d 6;have I:=d 7;simp only[gD.L,kY.L,y_,x_] at v C D E F G H I;clear d;rw[P] at v;have m0:¬(m:Int)<0:=by omega
 have m6:¬(6:Int)<(m:Int):=by omega
 cases z:qb m O M with
 |false=>
  have Z:=U (A1 f.o.2.1 (by omega) f.o.2.2.2.1 (by omega) z);simp only[gD.L,kY.L,qa,xF,lX,sd] at Z;rw[P] at Z
  go_upto_region 9 with(go_at_call 36;refine Z.o.mono ?_;rintro e J ⟨rfl,V⟩;have K:=U V;clear V v C D E F G H I)
  have y:=(bg J (.cells #[.int .i64 0,.slice none 0 0,.slice none 0 0,.slice none 0 0,.slice none 0 0,.int .i64 0,.slice none 0 0,.slice none 0 0] 47)).trans ((bg (J.alloc (.cells #[.int .i64 0,.slice none 0 0,.slice none 0 0,.slice none 0 0,.slice none 0 0,.int .i64 0,.slice none 0 0,.slice none 0 0] 47)) (.cells #[.int .i64 0,.slice none 0 0,.slice none 0 0,.int .i64 0] 30)).mono (bg J (.cells #[.int .i64 0,.slice none 0 0,.slice none 0 0,.slice none 0 0,.slice none 0 0,.int .i64 0,.slice none 0 0,.slice none 0 0] 47)).size);generalize (J.alloc (.cells #[.int .i64 0,.slice none 0 0,.slice none 0 0,.slice none 0 0,.slice none 0 0,.int .i64 0,.slice none 0 0,.slice none 0 0] 47)).alloc (.cells #[.int .i64 0,.slice none 0 0,.slice none 0 0,.int .i64 0] 30)=ai at y⊢;have j:=K.o.trans (y.mono K.o.size);have q:=U (z_ (f.o.1.below j) (z_ (f.o.2.1.below j) (z_ (f.o.2.2.1.below j) (z_ (f.o.2.2.2.1.below j) (f.o.2.2.2.2.trans (j.mono f.o.2.2.2.2.size))))));clear y j K Z;have d:=(q.o.1).cell;have v:=d 0;have C:=d 1;have D:=d 2;have E:=d 3;have F:=d 4;have G:=d 5;have H:=d 6;have I:=d 7;simp only[gD.L,kY.L,y_,x_] at v C D E F G H I;clear d;rw[P] at v;have aE:=U (EU m (by omega) ad nq ae O ai q.o.2.2.2.1);have aw:(!(rf m O)||(decide (M<0)||decide (1099511627776<M)))=true:=by
   unfold qb at z
   cases aF:rf m O with
   |false=>rfl
   |true=>
    rw[aF,Bool.true_and,Bool.and_eq_false_iff,decide_eq_false_iff_not,decide_eq_false_iff_not] at z;rw[Bool.not_true,Bool.false_or,Bool.or_eq_true,decide_eq_true_eq,decide_eq_true_eq];omega
  generalize rf m O=u at*;have aG:=U aw;clear z aw
  go_wp2_with (go_at_call 51;refine aE.o.mono ?_;rintro e aH ⟨rfl,W⟩;have mV:=U W;clear W v C D E F G H I)
  all_goals
   go_ret;refine⟨lS ?_,q.o.2.2.2.2.trans (mV.o.mono q.o.2.2.2.2.size)⟩;have:=aG.o
   cases u<;>simp_all
 |true=>
  have aI:0<=M:=by unfold qb at z;rw[t_,t_,decide_eq_true_eq] at z;exact z.1.2
  obtain⟨aJ,rfl⟩:∃b:Nat,M=b:=⟨M.toNat,by omega⟩
  have aa:=U (zH f.o.2.1 (λ _ h=>h.elim) (by omega) f.o.2.2.2.1 (by omega) (by have:=aD.o;omega) z);simp only[gD.L,Int.toNat_natCast] at aa;rw[P] at aa
  go_upto_region 9 with(go_at_call 36;refine aa.o.mono ?_;rintro e J ⟨t4,i,iI,rfl,V,ax⟩;have K:=U (z_ V ax);clear V ax v C D E F G H I;unfold sd gD.L kY.L)
  have y:=AV J t4 i;simp only[gD.L,kY.L] at y;obtain⟨ab,y⟩:=y;generalize (J.alloc (.cells #[.int .i64 t4.n,.slice t4.g.A t4.g.n t4.g.c,.slice t4.l.A t4.l.n t4.l.c,.slice t4.a.A t4.a.n t4.a.c,.slice t4.o.A t4.o.n t4.o.c,.int .i64 t4.b,.slice t4.h.A t4.h.n t4.h.c,.slice t4.p.A t4.p.n t4.p.c] 47)).alloc (.cells #[.int .i64 i.k,.slice i.m.A i.m.n i.m.c,.slice i.o.A i.o.n i.o.c,.int .i64 i.s] 30)=ai at ab y⊢;generalize J.heap.size=g4 at y⊢;have j:=K.o.1.trans (ab.mono K.o.1.size);have q:=U (z_ (show aM ai (g4+1) 30 [.int .i64 i.k,.slice i.m.A i.m.n i.m.c,.slice i.o.A i.o.n i.o.c,.int .i64 i.s] from y) (z_ (K.o.2.2.2.2.below ab) (z_ (f.o.1.below j) (z_ (f.o.2.1.below j) (z_ (f.o.2.2.1.below j) (z_ (f.o.2.2.2.1.below j) (f.o.2.2.2.2.trans (j.mono f.o.2.2.2.2.size))))))));clear y ab j K aa;have ay:=E2 q.o.2.2.2.1 (by omega) q.o.2.2.2.2.2.1 (b:=aJ) z q.o.2.1;have aj:=U ay;simp only[gD.L,kY.L] at aj;rw[P] at aj;have d:=(q.o.2.2.1).cell;have v:=d 0;have C:=d 1;have D:=d 2;have E:=d 3;have F:=d 4;have G:=d 5;have H:=d 6;have I:=d 7;simp only[gD.L,kY.L,y_,x_] at v C D E F G H I;clear d;rw[P] at v;have d:=(q.o.1).cell;have v0:=d 0;have v1:=d 1;have v2:=d 2;have v3:=d 3;simp only[gD.L,kY.L,y_,x_] at v0 v1 v2 v3;clear d;clear ay z aI
  go_wp2_with (go_at_call 54;refine aj.o.mono ?_;rintro e aH ⟨rfl,W⟩;have mV:=U W;clear W)
  go_ret;exact⟨rfl,q.o.2.2.2.2.2.2.trans (mV.o.mono q.o.2.2.2.2.2.2.size)⟩
end
end Go.Proofs.YtogdlkfacflmaaaGreat
