/- Parts of the walk of the solver and its core; no condition. -/
import Derived.Test.YtogdlkfacflmaaaGreatZV10
import Derived.Test.YtogdlkfacflmaaaGreatZV11
import Derived.Test.YtogdlkfacflmaaaGreatZV1
namespace Go.Proofs.YtogdlkfacflmaaaGreat
set_option linter.unusedVariables false
set_option linter.unusedSimpArgs false
set_option maxRecDepth 100000
set_option maxHeartbeats 16000000
open _root_.List renaming getElem?_cons_zero→z_,getElem?_cons_succ→y_,mem_range→s_,range→q_,mem_map→k_
open _root_.Go.IntKind renaming wrap_i64→x_,i64→v_
open _root_.And renaming intro→w_
open _root_.Nat renaming pow_le_pow_right→u_,lt_of_lt_of_le→t_,le_refl→o_,zero_le→n_,testBit_lt_two_pow→m_
open _root_.Go.Value renaming bool→r_
open _root_.Classical renaming byContradiction→p_
open _root_.Go.Proofs.Tryz renaming prog→l_
variable{n:Nat}{ax:List Int}{ls:List (List Int)}
section
open Go.RowKit Go.Shelf Go.Lib
theorem EO(q:Nat)(h:q<4611686018427387904):bits .and .i64 (q:Int) 1=(q:Int)%2:=by
 have h:=bits_mask .i64 63 (by decide) (λ n b h1=>by rw[x_];omega) 1 (by decide) (q:Int) (by omega) (by omega);exact h
theorem EP(n k:Nat)(w:World)(G:n<=60)(hk:k<4611686018427387904):
  Calls l_ 59 #[.int .i64 n,.int .i64 k] w λ e w'=>∃A c,e=.returned (.slice A (n+1) c)/\kS w' A (n+1) c (nN n k)/\Below w.heap.size w w':=by
 obtain⟨i0,f,g,i,l⟩:=info_parts yf;have H:∀W:World,(Instr.makeSlice 28 (.int .i64 ((n:Int)+1)) (.int .i64 ((n:Int)+1))).run l_ W=.ok (.slice (some ⟨W.heap.size,0,none⟩) (n+1) (n+1)) (W.alloc (.cells (madeCells #[r_ false] (n+1)) 4)):=λ W=>by
  have:=run_make (P:=l_) W 28 4 i0 (.bool false) Tryz.underlying28 f g .i64 .i64 ((n:Int)+1) ((n:Int)+1) (by omega) (by omega) (by rw[l];omega) (by omega);rw[i,show((n:Int)+1).toNat=n+1 by omega,Nat.mul_one] at this;exact this
 have wn:v_.wrap ((n:Int)+1)=(n:Int)+1:=by rw[x_];omega
 clear f g i l;have m:(w.alloc (.cells (madeCells #[r_ false] (n+1)) 4)).ownsRow w.heap.size 4 1 (.slice (some ⟨w.heap.size,0,none⟩) (n+1) (n+1)) (n+1) ((rN n k 0).map r_):=by
  refine⟨by simp[AT],.inr ⟨_,_,_,rfl,o_ _,heap_alloc_new _ _,o_ _,by unfold maxLen;omega,by rw[size_madeCells];simp,?_⟩⟩;rw[toList_madeCells_one,List.take_of_length_le (by simp),II,List.map_replicate]
 have p:=bg w (.cells (madeCells #[r_ false] (n+1)) 4);have y:=U m;have z:=U p;clear m p;go_enter Tryz.func59,Tryz.ntmps59
 go_wp2
 go_loopw [6] (λ v W=>∃j:Nat,j<=n/\v=.int .i64 ((j:Int)+1)/\W.ownsRow w.heap.size 4 1 (.slice (some ⟨w.heap.size,0,none⟩) (n+1) (n+1)) (n+1) ((rN n k j).map r_)/\Below w.heap.size w W) (λ v _=>n+1-(intOf v).toNat)
 case atStart=>exact⟨0,n_ _,rfl,y.o,z.o⟩
 case round=>
  obtain⟨j,I,rfl,b,d⟩:=hrel;have r:=U b;have s:=U d;have J:=(b.lt w.heap.size rfl).2;have B:k/2^j<=k:=Nat.div_le_self _ _;have C:k/2^(j+1)=k/2^j/2:=by rw[Nat.pow_succ,Nat.div_div_eq_div_mul]
  have t:=IL k j;obtain⟨q,u⟩:∃q,k/2^j=q:=⟨_,rfl⟩
  rw[u] at t C B
  by_cases D:j<n
  ·have E:(j:Int)+1<=(n:Int):=by omega
   have K:(j:Int)+1<(n:Int)+1:=by omega
   have cl:wr.cell? ⟨w.heap.size,j+1,none⟩=some (.bool (jr (rN n k j) (j+1))):=by
    have:=b.cellAt (j:=j+1) (by omega);rw[this,List.getElem?_map];unfold jr;rw[List.getD_eq_getElem?_getD,List.getElem?_eq_getElem (by rw[AT];omega)];rfl
   have L:wr.frozen? ⟨w.heap.size,j+1,none⟩=false:=b.frozenAt (j+1);clear b d;have M:(j:Int)+1-1=j:=by omega
   have N:v_.wrap ((j:Int)+1-1)=j:=by rw[x_];omega
   go_wp2;refine⟨⟨j+1,by omega,by go_num,?_,s.o.setCell (o_ _) _⟩,by simp[intOf];omega⟩;have h1:=C0 (k:=j+1) r.o (.bool (bits .and .i64 ((k:Int)/2^j) 1==1));rw[<-IJ n k j D,t,List.map_set];have hm:(bits .and .i64 ((k:Int)/2^j) 1==1)=decide ((q:Int)%2=1):=by
    have F:(k:Int)/2^j=(q:Int):=by rw[<-u];push_cast;rfl
    rw[F,EO q (by omega)];rfl
   rw[hm] at h1⊢;exact h1
  ·obtain rfl:j=n:=by omega
   have E:¬(j:Int)+1<=(j:Int):=by omega
   clear b d;go_wp2;go_ret;refine⟨_,_,rfl,?_,s.o⟩;rw[<-IK];exact kS.lq r.o (by omega)
theorem E3(b:n<=9):3^n<=19683:=by
 have c:3^n<=3^9:=u_ (by omega) b;have d:(3:Nat)^9=19683:=by decide
 omega
theorem I7{W:World}{F:List (List Int)}{b:Nat}{u:kY}(h:uO W F ax n b u)(f:n<=9)(l:19683<=b):
  (u.k=1/\u.o=lX/\∃m,kS W u.m.A u.m.n u.m.c m/\ri F n ax m)\/(u.k=2/\u.m=lX/\¬Can F ax/\∃co,aN W u.o.A u.o.n u.o.c co/\co.Sublist ax/\¬Can F co):=by
 obtain⟨_,_,h|⟨h1,g,co,i,e,d⟩|⟨_,_,_,_,d⟩⟩:=h
 ·exact .inl h
 ·exact .inr ⟨h1,g,λ h=>d (h.mono λ x j=>e.subset j),co,i,e,d⟩
 ·have:=E3 f;omega
theorem Q0{n:Int}(h:rf n ax=true):qb n ax 1073741824=true:=by
 unfold qb;rw[h];rfl
def QV(b:List Bool)(k:Nat):Int:=if jr b (k+1)=true then-((k:Int)+1) else (k:Int)+1
theorem Q1(b:List Bool){n k:Nat}(h:k<n):gF n (QV b k):=by unfold QV gF aI;split<;>constructor<;>omega
theorem QX(b c:List Bool)(k:Nat):p0 c (QV b k)=true↔jr c (k+1)≠jr b (k+1):=by
 unfold QV p0
 cases d:jr b (k+1)
 ·rw[if_neg (show¬false=true from Bool.noConfusion),if_neg (by omega),show((k:Int)+1).natAbs=k+1 by omega]
  cases jr c (k+1)<;>simp
 ·rw[if_pos rfl,if_pos (by omega),show(-((k:Int)+1)).natAbs=k+1 by omega]
  cases jr c (k+1)<;>simp
def QU(b:List Bool)(n:Nat):List Int:=(q_ n).map (QV b)
theorem Q2(b:List Bool)(n:Nat):QU b (n+1)=QU b n++[QV b n]:=by unfold QU;rw[List.range_succ,List.map_append];rfl
theorem Q3(b:List Bool)(n:Nat):∀x∈QU b n,gF n x:=by
 intro x c;obtain⟨k,hk,rfl⟩:=k_.1 c;exact Q1 b (s_.1 hk)
theorem QY(b:List Bool){n:Nat}(c:n<=10):lB n [QU b n]=0:=
 yl (by omega) (by simp) λ l hl=>by rw[List.mem_singleton.1 hl];exact Q3 b n
theorem Q4(b:List Bool){n:Nat}(c:n<=10):yx n (QU b n)=0:=if_pos (QY b c)
def QT(n:Nat)(ls:List (List Int))(k:Nat):Nat:=((q_ k).filter λ j=>vQ n ls (nN n j)).length
theorem Q5(n:Nat)(ls:List (List Int))(k:Nat):QT n ls (k+1)=QT n ls k+if vQ n ls (nN n k)=true then 1 else 0:=by
 unfold QT;rw[List.range_succ,List.filter_append,List.length_append]
 congr 1
 rw[List.filter_cons];split<;>rfl
theorem QZ(n:Nat)(ls:List (List Int))(k:Nat):QT n ls k<=k:=by
 unfold QT;exact Nat.le_trans (List.length_filter_le _ _) (by rw[List.length_range];exact o_ _)
theorem Q6(b:lB n ls=0)(h:¬Can ls [])(k:Nat):QT n ls k=0:=by
 unfold QT;rw[List.length_eq_zero_iff,List.filter_eq_nil_iff];intro j _ c;exact h ⟨p0 (nN n j),⟨yV _,(En b).1 c⟩,λ x d=>absurd d (by simp)⟩
theorem Q7{j k:Nat}(b:j<2^n)(hk:k<2^n)(h:∀v,v<n->vk j v=vk k v):j=k:=by
 refine Nat.eq_of_testBit_eq λ v=>?_
 by_cases c:v<n
 ·rw[<-Cv,<-Cv];exact h v c
 ·rw[m_ (t_ b (u_ (by omega) (by omega))),m_ (t_ hk (u_ (by omega) (by omega)))]
theorem Q8{b:List Bool}(z:n<=10)(k:lB n ls=0)(p:lB n (ls++[QU b n])=0)(q:ri ls n ax b):
  QT n (ls++[QU b n]) (2^n)+1=QT n ls (2^n):=by
 obtain⟨k0,o,m⟩:=Em n λ v=>jr b (v+1)
 have r:∀j,j<2^n->((∃x∈QU b n,p0 (nN n j) x=true)↔j≠k0):=by
  intro j c;constructor
  ·rintro⟨x,g,i⟩ rfl;obtain⟨v,d,rfl⟩:=k_.1 g;have d:=s_.1 d;rw[QX,NZ (by omega) (by omega)] at i;exact i (m v d)
  ·intro s;refine p_ λ t=>s (Q7 c o λ v d=>?_)
   refine p_ λ f=>t ⟨QV b v,k_.2 ⟨v,s_.2 d,rfl⟩,?_⟩
   rw[QX,NZ (by omega) (by omega)];intro e;exact f (e.trans (m v d).symm)
 have u:∀j,j<2^n->(vQ n (ls++[QU b n]) (nN n j)=true↔vQ n ls (nN n j)=true/\j≠k0):=by
  intro j c;rw[En p,En k,<-r j c];constructor
  ·intro h;exact⟨λ l hl=>h l (by simp[hl]),h (QU b n) (by simp)⟩
  ·rintro⟨h1,f⟩ l hl;rcases List.mem_append.1 hl with hl|hl
   ·exact h1 l hl
   ·rw[List.mem_singleton.1 hl];exact f
 have w:vQ n ls (nN n k0)=true:=by
  rw[En k];intro l hl;obtain⟨x,g,i⟩:=q.sat l hl;refine⟨x,g,?_⟩;have y:=(Cu k).2.2 l hl x g;have:p0 (nN n k0) x=p0 b x:=by
   obtain⟨h1,f⟩:=y;unfold aI at h1 f;unfold p0;have e:jr (nN n k0) x.natAbs=jr b x.natAbs:=by
    rw[NZ (by omega) (by omega),m (x.natAbs-1) (by omega),show x.natAbs-1+1=x.natAbs by omega]
   rw[e]
  rw[this];exact i
 unfold QT;have h1:(q_ (2^n)).filter (λ j=>vQ n (ls++[QU b n]) (nN n j))=((q_ (2^n)).filter (λ j=>vQ n ls (nN n j))).erase k0:=by
  rw[List.Nodup.erase_eq_filter (List.nodup_range.filter _),List.filter_filter];refine List.filter_congr λ j c=>?_
  have c:=s_.1 c;have h:=u j c;rw[Bool.eq_iff_iff,h,Bool.and_eq_true];constructor
  ·rintro⟨a,b⟩;exact⟨by simpa using b,a⟩
  ·rintro⟨a,b⟩;exact⟨b,by simpa using a⟩
 have hm:k0∈(q_ (2^n)).filter (λ j=>vQ n ls (nN n j)):=List.mem_filter.2 ⟨s_.2 o,w⟩;rw[h1,List.length_erase_of_mem hm];have:=List.length_pos_of_mem hm;omega
structure QW(w V:World)(bt m want G i:Nat)(s:j6)(t:gD):Prop where
 c:QT m s.gs (2^m)+i=want
 g:s.gs.length=G+i
 qv:aM V bt 47 t.L
 S:kG (λ b=>b=bt) V m s t
 kZ:Below w.heap.size w V
theorem Q9(n:Int)(A:Option Addr)(nl cl:Nat)(es:List s6)(w:World)(h:vM w A nl cl es):
  Calls l_ 15 #[.int .i64 n,.slice A nl cl] w λ e w'=>e=.returned (.bool true)/\Below w.heap.size w w':=by
 have pQ:=U (EN w);have cy:=U (w_ (h) (Below.refl w.heap.size w));clear h;go_enter Tryz.func15,Tryz.ntmps15
 go_upto_region 3 with(go_at_call 40;refine pQ.o.mono ?_;rintro e w1 ⟨rfl,fb⟩;have fg:=U fb;clear fb)
 have J:=U (w_ (cy.o.1.below fg.o) (cy.o.2.trans (fg.o.mono cy.o.2.size)));clear cy;have dT:=U (EI n A nl cl es w1 J.o.1)
 by_cases ix:4<n
 ·skip
  go_upto_region 5 with(go_at_call 52;refine dT.o.mono ?_;rintro e w1 ⟨r,rfl,rfl,Q⟩;have v:=U Q;clear Q;cases r)
  all_goals
   go_ret;exact⟨rfl,J.o.2⟩
 go_upto_region 5 with(go_at_call 52;refine dT.o.mono ?_;rintro e w1 ⟨r,rfl,rfl,Q⟩;have v:=U Q;clear Q;cases r)
 ·go_ret;exact⟨rfl,J.o.2⟩
 obtain⟨hL,n6,fi,fj⟩:=v.o trivial;obtain⟨n,rfl⟩:∃m:Nat,n=m:=⟨n.toNat,by omega⟩
 have fl:=U (EV n (by omega) A nl cl es w1 J.o.1 fi fj);clear hL n6 fi fj
 go_upto_region 6 with(go_at_call 53;refine fl.o.mono ?_;rintro e bj ⟨m,s,t,rfl,fp,hm,cJ,fr⟩;have K:=U (w_ fp (w_ cJ (w_ hm fr)));clear fp cJ hm fr;unfold gD.L)
 have bb:=bg bj (.cells t.L.toArray 47);have bo:=aM.new bj 47 t.L;simp only[gD.L] at bb bo;generalize bj.alloc (.cells #[.int .i64 t.n,.slice t.g.A t.g.n t.g.c,.slice t.l.A t.l.n t.l.c,.slice t.a.A t.a.n t.a.c,.slice t.o.A t.o.n t.o.c,.int .i64 t.b,.slice t.h.A t.h.n t.h.c,.slice t.p.A t.p.n t.p.c] 47)=br at bb bo⊢;have fs:=U (Nat.le_trans J.o.2.size K.o.1.size);have d':=U (show kG (λ b=>b=bj.heap.size) _ m s t from K.o.2.1.more bb (λ b h e=>absurd e (Nat.ne_of_lt h)));generalize bj.heap.size=H at bo fs d'⊢;have ea:=K.o.1.trans (bb.mono K.o.1.size);have hN:=K.o.2.2.1;have M:t.n=(m:Int):=by rw[K.o.2.1.e];rfl
 have C:=U (w_ (show aM br H 47 [.int .i64 t.n,.slice t.g.A t.g.n t.g.c,.slice t.l.A t.l.n t.l.c,.slice t.a.A t.a.n t.a.c,.slice t.o.A t.o.n t.o.c,.int .i64 t.b,.slice t.h.A t.h.n t.h.c,.slice t.p.A t.p.n t.p.c] from bo) (w_ (K.o.2.1.below bb) (w_ (J.o.1.below ea) (J.o.2.trans (ea.mono J.o.2.size)))));have ft:=U K.o.2.2.2;clear J K bb bo ea fl dT pQ v;have d:=(C.o.1).cell;have j:=d 0;have T:=d 1;have X:=d 2;have Y:=d 3;have Z:=d 4;have ab:=d 5;have ad:=d 6;have ae:=d 7;simp only[gD.L,kY.L,z_,y_] at j T X Y Z ab ad ae;clear d;rw[M] at j;have m0:¬(m:Int)<0:=by omega
 by_cases m5:m<=5
 rotate_left
 ·have fv:(5:Int)<(m:Int):=by omega
  have i':(m:Int)<=6:=by omega
  go_wp2_with fail
  go_ret;exact⟨rfl,C.o.2.2.2⟩
 have fv:¬(5:Int)<(m:Int):=by omega
 have al:=C.o.2.1.O;have bs:lB (m:Int) s.gs=0:=yl (by omega) al.g1 al.bk;have fw:t.g.n=s.gs.length:=by rw[C.o.2.1.e];rfl
 have fx:bF (mc br t.g.A t.g.n t.g.c s.gs):=U (by rw[fw];exact C.o.2.1.aO.gs);have cP:=U bs;have y:=U m5;have jn:bF (H<br.heap.size):=U C.o.1.lt;clear al bs fw hN m5;clear j T X Y Z ab ad ae;have j:=C.o.1.cell 0;simp only[z_] at j;rw[M] at j;have ao:=U M;clear M;have hp:2^m<=2^5:=u_ (by omega) y.o;have ju:(2:Nat)^5=32:=by decide
 go_wp2_with fail
 go_loopw [7,8] (λ q i V=>∃k:Nat,i=.int .i64 k/\q=.int .i64 (QT m s.gs k)/\k<=2^m/\Below br.heap.size br V) (λ _ i _=>2^m-(intOf i).toNat)
 case atStart=>exact⟨0,rfl,rfl,n_ _,Below.refl _ _⟩
 case round=>
  obtain⟨k,rfl,rfl,hk,z⟩:=hrel;have D:=U z;have m5:=y.o;have wp:wrap64 (2^m)=((2^m:Nat):Int):=by
   rw[show((2:Int)^m)=((2^m:Nat):Int) by push_cast;rfl];unfold wrap64;omega
  have j:=(C.o.1.below D.o).cell 0;simp only[z_] at j;rw[ao.o] at j
  by_cases ar:k<2^m
  ·have F:=U ar;have hP:v_.wrap ((k:Int)+1)=(k:Int)+1:=by rw[x_];omega
   have eb:=QZ m s.gs k;have wc:v_.wrap ((QT m s.gs k:Int)+1)=((QT m s.gs k+1:Nat):Int):=by rw[x_];omega
   have cs:=U (Q5 m s.gs k);have fy:=U (EP m k wr.drew (by have:=y.o;omega) (by omega));have ed:=U (D.o.drew);generalize hQ:QT m s.gs k=jz at*;clear hQ;have b0:(k:Int)<((2^m:Nat):Int):=by omega
   generalize j1:2^m=P at*;clear ar hk z eb fv m0
   go_upto_region 12 with fail
   rename_i hR fz;have hS:=U fz;clear fz;have d:=(C.o.1.below ed.o).cell;have R:=d 0;have aw:=d 1;simp only[gD.L,z_,y_] at R aw;clear d;rw[ao.o] at R;refine wp_region_noPanic ?_
   go_region_with (first
    |(go_at_call 59;with_reducible refine fy.o.mono ?_;rintro e hT ⟨hV,hW,rfl,Q,fX⟩;have cX:=U (ed.o.trans (fX.mono ed.o.size));have fY:=U (Bd (m:Int) t.g.A t.g.n t.g.c s.gs hV (m+1) hW (nN m k) hT (fx.o.below cX.o) Q);clear Q fX;have d:=(C.o.1.below cX.o).cell;have z0:=d 0;have f':=d 1;simp only[gD.L,z_,y_] at z0 f';clear d;rw[ao.o] at z0)
    |(go_at_call 58;with_reducible refine fY.o.mono ?_;rintro e j2 ⟨rfl,gg⟩;have gS:=U (cX.o.trans (gg.mono cX.o.size));clear gg))
   all_goals
    show hR _ _;apply hS.o;generalize vQ (m:Int) s.gs (nN m k)=hX at cs⊢;clear fY fy R aw z0 f'
    cases hX
    ·go_wp2_with fail
     go_roundw
     case rel=>exact⟨k+1,by go_num,by rw[cs.o];rfl,by have:=F.o;omega,gS.o⟩
     case measure=>have:=F.o;simp[intOf];omega
    ·go_wp2_with fail
     go_roundw
     case rel=>exact⟨k+1,by go_num,by rw[cs.o];rfl,by have:=F.o;omega,gS.o⟩
     case measure=>have:=F.o;simp[intOf];omega
  ·obtain rfl:k=2^m:=by omega
   have b0:¬((2^m:Nat):Int)<((2^m:Nat):Int):=by omega
   have eb:=QZ m s.gs (2^m);have g':bF (QT m s.gs (2^m)<=32):=U (by omega);have hY:bF (QW w wr H m (QT m s.gs (2^m)) s.gs.length 0 s t):=U ⟨Nat.add_zero _,(Nat.add_zero _).symm,C.o.1.below D.o,d'.o.below D.o,C.o.2.2.2.trans (D.o.mono C.o.2.2.2.size)⟩;clear eb ar hk z wp;have wp:wrap64 (2^m)=((2^m:Nat):Int):=by
    have j':(0:Int)<=((2^m:Nat):Int):=Int.natCast_nonneg _;rw[show((2:Int)^m)=((2^m:Nat):Int) by push_cast;rfl];unfold wrap64;omega
   generalize cJ:2^m=P at*
   go_upto_region 14 with fail
   clear j wp hp cJ b0;generalize QT m s.gs P=want at*;generalize s.gs.length=G at*;clear d' C ao fx cP
   go_wp2_with fail
   go_loopw [9] (λ q V=>∃(i:Nat)(s':j6)(u:gD),q=.int .i64 i/\QW w V H m want G i s' u) (λ q _=>want+1-(intOf q).toNat)
   case atStart=>exact⟨0,s,t,rfl,hY.o⟩
   case round=>
    obtain⟨i,s',u,rfl,v⟩:=hrel;have v:=U v;have al:=v.o.S.O;have bs:lB (m:Int) s'.gs=0:=yl (by have:=y.o;omega) al.g1 al.bk;have cP:=U bs;have M:u.n=(m:Int):=by rw[v.o.S.e];rfl
    have ao:=U M;have eg:bF (H<wr.heap.size):=U v.o.qv.lt;clear al bs;have bc:=U (show aM wr H 47 [.int .i64 u.n,.slice u.g.A u.g.n u.g.c,.slice u.l.A u.l.n u.l.c,.slice u.a.A u.a.n u.a.c,.slice u.o.A u.o.n u.o.c,.int .i64 u.b,.slice u.h.A u.h.n u.h.c,.slice u.p.A u.p.n u.p.c] from v.o.qv);have d:=(bc.o).cell;have j:=d 0;have T:=d 1;have X:=d 2;have Y:=d 3;have Z:=d 4;have ab:=d 5;have ad:=d 6;have ae:=d 7;simp only[gD.L,kY.L,z_,y_] at j T X Y Z ab ad ae;clear d;rw[M] at j;have hZ:i<=want:=by have:=v.o.c;omega
    have h0:=g'.o;have b0:(i:Int)<=(want:Int):=by omega
    have ka:v_.wrap ((i:Int)+1)=(i:Int)+1:=by rw[x_];omega
    have cY:=U (zH v.o.S (λ b z=>by subst z;exact eg.o) (by have:=y.o;omega) (aN.nil wr none 0 (n_ _)) (by omega) (by rw[v.o.g];have:=ft.o;omega) (Q0 (show rf (m:Int) []=true from rfl)));simp only[gD.L] at cY;rw[M] at cY;clear M h0
    go_upto_region 17 with(go_at_call 36;with_reducible refine cY.o.mono ?_;rintro e da ⟨t4,f,iI,rfl,ha,eh⟩;have aE:=U (w_ ha eh);clear ha eh j T X Y Z ab ad ae;unfold sd gD.L kY.L)
    have a6:=AV da t4 f;have b1:=EJ da t4 f;simp only[gD.L,kY.L] at a6 b1;obtain⟨b2,a6⟩:=a6;have h2:=U (t_ eg.o aE.o.1.size);generalize (da.alloc (.cells #[.int .i64 t4.n,.slice t4.g.A t4.g.n t4.g.c,.slice t4.l.A t4.l.n t4.l.c,.slice t4.a.A t4.a.n t4.a.c,.slice t4.o.A t4.o.n t4.o.c,.int .i64 t4.b,.slice t4.h.A t4.h.n t4.h.c,.slice t4.p.A t4.p.n t4.p.c] 47)).alloc (.cells #[.int .i64 f.k,.slice f.m.A f.m.n f.m.c,.slice f.o.A f.o.n f.o.c,.int .i64 f.s] 30)=I at b2 a6 b1⊢;generalize da.heap.size=g4 at a6 b1 h2⊢;have hb:=aE.o.1.trans (b2.mono aE.o.1.size);have h3:=U (show aM I g4 47 [.int .i64 t4.n,.slice t4.g.A t4.g.n t4.g.c,.slice t4.l.A t4.l.n t4.l.c,.slice t4.a.A t4.a.n t4.a.c,.slice t4.o.A t4.o.n t4.o.c,.int .i64 t4.b,.slice t4.h.A t4.h.n t4.h.c,.slice t4.p.A t4.p.n t4.p.c] from b1);have a7:=U (show aM I (g4+1) 30 [.int .i64 f.k,.slice f.m.A f.m.n f.m.c,.slice f.o.A f.o.n f.o.c,.int .i64 f.s] from a6);have h4:=U (aE.o.2.1.below b2);have b3:bF (iI.gs=s'.gs):=U aE.o.2.2.1;have a8:=I7 (aE.o.2.2.2.2.below b2) (by have:=y.o;omega) (by decide);have a':=U hb;clear a6 b1 b2 aE cY hb;have d:=(a7.o).cell;have v0:=d 0;have v1:=d 1;have v2:=d 2;have v3:=d 3;simp only[gD.L,kY.L,z_,y_] at v0 v1 v2 v3;clear d;have j:=(bc.o.below a'.o).cell 0;simp only[z_] at j;rw[ao.o] at j;rcases a8 with⟨b4,_,E,db,et⟩|⟨b4,_,h5,_⟩
    rotate_left
    ·rw[b4] at v0;have hc:=Q6 cP.o h5 (2^m);have hd:=v.o.c;rw[hc] at hd;obtain rfl:want=i:=by omega
     clear hc hd
     go_wp2_with fail
     go_ret;exact⟨rfl,v.o.kZ.trans (a'.o.mono v.o.kZ.size)⟩
    have ev:f.m.n=m+1:=by rw[<-db.len,et.len]
    rw[ev] at db v1;rw[b4] at v0;have h6:bF (aM I (g4+1) 30 [.int .i64 1,.slice f.m.A (m+1) f.m.c,.slice f.o.A f.o.n f.o.c,.int .i64 f.s]):=U (by have h:=a7.o;rw[b4,ev] at h;exact h);have h7:=U et;obtain⟨bm,h8,hf,hg,hh⟩:=db.cells (by omega);have hi:=U (w_ hg hh);have h9:=U hf;have kb:v_.wrap ((m:Int)+1)=((m+1:Nat):Int):=by have:=y.o;rw[x_];omega
    clear db et hg hh hf b4 ev a7
    go_upto_region 19 with fail
    clear v0 v1 v2 v3 j
    go_wp2_with fail
    go_loopw [13,14] (λ q i V=>∃(k:Nat)(b':Option Addr)(c1:Nat),i=.int .i64 ((k:Int)+1)/\k<=m/\q=.slice b' k c1/\V.ownsRow I.heap.size 3 1 (.slice b' k c1) k ((QU E k).map (Value.int .i64))/\Below I.heap.size I V) (λ _ i _=>m+1-(intOf i).toNat)
    case atStart=>exact⟨0,none,0,rfl,n_ _,rfl,World.ownsRow_nil _ _ _ _,Below.refl _ _⟩
    case round=>
     obtain⟨k,b',c1,rfl,hk,rfl,dd,z⟩:=hrel;have hj:=U dd;have D:=U z;have d:=(h6.o.below z).cell;have v1:=d 1;simp only[z_,y_] at v1;clear d;have j:=(bc.o.below (a'.o.trans (z.mono a'.o.size))).cell 0;simp only[z_] at j;rw[ao.o] at j
     by_cases ar:k<m
     ·have b0:(k:Int)+1<=(m:Int):=by omega
      have ib:=y.o;have hP:v_.wrap ((k:Int)+1+1)=(k:Int)+1+1:=by rw[x_];omega
      have wn:v_.wrap (-((k:Int)+1))= -((k:Int)+1):=by rw[x_];omega
      have kc:v_.wrap (0-((k:Int)+1))= -((k:Int)+1):=by rw[x_];omega
      have eI:=(z.cell (p:=⟨bm,h8+(k+1),none⟩) hi.o.1).trans (hi.o.2 (k+1) (by omega));rw[h9.o] at v1;have kd:=D.o.size;have F:=U ar;have hn:E.getD (k+1) false=jr E (k+1):=rfl;rw[hn] at eI;have ho:=U (Q2 E k);have bd:QV E k=if jr E (k+1)=true then-((k:Int)+1) else (k:Int)+1:=rfl
      have ke:(k:Int)+1<((m:Nat):Int)+1:=by omega
      have kh:(k:Int)<(m:Int):=by omega
      have kk:k+1<m+1:=by omega
      clear dd z ar hk hn hZ ib
      cases df:jr E (k+1) with
      |true=>
       rw[df] at eI bd;have eJ:bF (QV E k= -((k:Int)+1)):=U (by rw[bd];exact if_pos rfl);clear bd df;have eK:=U (aN.lit wr [-((k:Int)+1)] 1 _ rfl rfl (by omega));have ca:=U (lU hj.o (bg wr (lW [-((k:Int)+1)])));have cd:=U (bg wr (lW [-((k:Int)+1)]));have cf:I.heap.size<=(wr.alloc (lW [-((k:Int)+1)])).heap.size:=by have:=cd.o.size;omega
       go_wp2_with (at_builtin;refine vp rfl (.tmp 121) (.tmp 124) rfl I.heap.size (.slice b' k c1) k (QU E k) rfl ca.o (some ⟨wr.heap.size,0,none⟩) 1 1 [-((k:Int)+1)] rfl eK.o (by have:=F.o;have:=y.o;omega) cf ?_;intro v9 gb ba;obtain⟨⟨a8,ch,c2⟩,eQ,N⟩:=aq.lq ba.1;obtain rfl:v9=.slice a8 ch c2:=eQ;have a7:=U (w_ ba N);clear ba N)
       go_roundw
       case rel=>
        obtain⟨⟨g1,g2,g3⟩,N⟩:=a7.o;obtain rfl:ch=k+1:=N;refine⟨k+1,by omega,by have:=F.o;omega,a8,c2,⟨rfl,rfl,rfl⟩,?_,(D.o.trans (cd.o.mono D.o.size)).grown g2 cf (λ b e=>(tc ca.o e).1)⟩;rw[ho.o,eJ.o];exact g1
       case measure=>have:=F.o;simp[intOf];omega
      |false=>
       rw[df] at eI bd;have eJ:bF (QV E k=(k:Int)+1):=U (by rw[bd];exact if_neg Bool.noConfusion);clear bd df;have eK:=U (aN.lit wr [(k:Int)+1] 1 _ rfl rfl (by omega));have ca:=U (lU hj.o (bg wr (lW [(k:Int)+1])));have cd:=U (bg wr (lW [(k:Int)+1]));have cf:I.heap.size<=(wr.alloc (lW [(k:Int)+1])).heap.size:=by have:=cd.o.size;omega
       go_wp2_with (at_builtin;refine vp rfl (.tmp 126) (.tmp 128) rfl I.heap.size (.slice b' k c1) k (QU E k) rfl ca.o (some ⟨wr.heap.size,0,none⟩) 1 1 [(k:Int)+1] rfl eK.o (by have:=F.o;have:=y.o;omega) cf ?_;intro v9 gb ba;obtain⟨⟨a8,ch,c2⟩,eQ,N⟩:=aq.lq ba.1;obtain rfl:v9=.slice a8 ch c2:=eQ;have a7:=U (w_ ba N);clear ba N)
       go_roundw
       case rel=>
        obtain⟨⟨g1,g2,g3⟩,N⟩:=a7.o;obtain rfl:ch=k+1:=N;refine⟨k+1,by omega,by have:=F.o;omega,a8,c2,⟨rfl,rfl,rfl⟩,?_,(D.o.trans (cd.o.mono D.o.size)).grown g2 cf (λ b e=>(tc ca.o e).1)⟩;rw[ho.o,eJ.o];exact g1
       case measure=>have:=F.o;simp[intOf];omega
     ·obtain rfl:m=k:=by omega
      have b0:¬(m:Int)+1<=(m:Int):=by omega
      have hq:=aN.lq dd (by have:=y.o;omega);have hr:=h4.o.below z;have e0:=h3.o.below z;have km:=U e0;have e1:H<wr.heap.size:=by have h1:=z.size;have eh:=a'.o.size;have kp:=eg.o;omega
      have dj:=U (CL hr (λ b h=>by subst h;exact e1) (by have:=y.o;omega) hq (by rw[b3.o,v.o.g];have:=ft.o;have:=g'.o;omega));rw[Q4 E (show m<=10 by have:=y.o;omega)] at dj;simp only[gD.L] at dj;have ie:=U e1;have d:=(e0).cell;have R:=d 0;have aw:=d 1;have dk:=d 2;have dp:=d 3;have dq:=d 4;have dt:=d 5;have du:=d 6;have dv:=d 7;simp only[gD.L,kY.L,z_,y_] at R aw dk dp dq dt du dv;clear d;clear hq hr e0 dd z ar v1 hk e1
      go_upto_region 28 with(go_at_call 46;with_reducible refine dj.o.mono ?_;rintro e dC ⟨t6,rfl,ht,_,hv⟩;have cj:=U (w_ ht (hv (QY E (by have:=y.o;omega))));clear ht hv j R aw dk dp dq dt du dv;unfold pV gD.L)
      have cq:=bg dC (.cells t6.L.toArray 47);have cx:=aM.new dC 47 t6.L;simp only[gD.L] at cq cx;have ih:=U (t_ ie.o cj.o.1.size);generalize dC.alloc (.cells #[.int .i64 t6.n,.slice t6.g.A t6.g.n t6.g.c,.slice t6.l.A t6.l.n t6.l.c,.slice t6.a.A t6.a.n t6.a.c,.slice t6.o.A t6.o.n t6.o.c,.int .i64 t6.b,.slice t6.h.A t6.h.n t6.h.c,.slice t6.p.A t6.p.n t6.p.c] 47)=hx at cq cx⊢;generalize dC.heap.size=g6 at cx ih⊢;have ik:=U (cj.o.1.trans (cq.mono cj.o.1.size));have il:=U cx;obtain⟨tr,ks,hy,hz,_⟩:=cj.o.2;have e2:=U (hy.below cq);have e':=U hz;clear hy hz cq cx cj dj;have hA:=a'.o.trans ((D.o.trans (ik.o.mono D.o.size)).mono a'.o.size);have dE:=U hA;clear hA;have d:=((show aM hx g6 47 [.int .i64 t6.n,.slice t6.g.A t6.g.n t6.g.c,.slice t6.l.A t6.l.n t6.l.c,.slice t6.a.A t6.a.n t6.a.c,.slice t6.o.A t6.o.n t6.o.c,.int .i64 t6.b,.slice t6.h.A t6.h.n t6.h.c,.slice t6.p.A t6.p.n t6.p.c] from il.o)).cell;have R:=d 0;have aw:=d 1;have dk:=d 2;have dp:=d 3;have dq:=d 4;have dt:=d 5;have du:=d 6;have dv:=d 7;simp only[gD.L,kY.L,z_,y_] at R aw dk dp dq dt du dv;clear d;have d:=(bc.o.below dE.o).free;have f0:=d 0;have f1:=d 1;have f2:=d 2;have f3:=d 3;have f4:=d 4;have f5:=d 5;have f6:=d 6;have f7:=d 7;clear d;have d:=((bc.o.below dE.o)).cell;have j:=d 0;have T:=d 1;have X:=d 2;have Y:=d 3;have Z:=d 4;have ab:=d 5;have ad:=d 6;have ae:=d 7;simp only[gD.L,kY.L,z_,y_] at j T X Y Z ab ad ae;clear d
      go_wp2_with fail
      have hB:=aM.rL (bc.o.below dE.o) (.int .i64 t6.n) (.slice t6.g.A t6.g.n t6.g.c) (.slice t6.l.A t6.l.n t6.l.c) (.slice t6.a.A t6.a.n t6.a.c) (.slice t6.o.A t6.o.n t6.o.c) (.int .i64 t6.b) (.slice t6.h.A t6.h.n t6.h.c) (.slice t6.p.A t6.p.n t6.p.c);have fa:=aF.eight (W:=hx) (B:=H) (.int .i64 t6.n) (.slice t6.g.A t6.g.n t6.g.c) (.slice t6.l.A t6.l.n t6.l.c) (.slice t6.a.A t6.a.n t6.a.c) (.slice t6.o.A t6.o.n t6.o.c) (.int .i64 t6.b) (.slice t6.h.A t6.h.n t6.h.c) (.slice t6.p.A t6.p.n t6.p.c);have hD:=e2.o.set (B:=H) rfl fa;have hE:=uM (v.o.kZ.trans (dE.o.mono v.o.kZ.size)) fa fs.o;have hG:lB (m:Int) tr.gs=0:=yl (by have:=y.o;omega) e2.o.O.g1 e2.o.O.bk;have hI:=Q8 (show m<=10 by have:=y.o;omega) cP.o (by rw[<-b3.o,<-e'.o];exact hG) h7.o;rw[<-b3.o,<-e'.o] at hI;have hJ:=v.o.c;rw[<-b3.o] at hJ;have hK:tr.gs.length=G+(i+1):=by rw[e'.o,List.length_append,b3.o,v.o.g];rfl
      have im:bF (QW w _ H m want G (i+1) tr t6):=U ⟨by omega,hK,hB,hD,hE⟩;have iv:bF (i<want):=U (by omega);clear hB fa hD hE hG hI hJ hK;go_roundw
      case rel=>exact⟨i+1,tr,t6,by go_num,im.o⟩
      case measure=>have:=iv.o;simp[intOf];omega
end
end Go.Proofs.YtogdlkfacflmaaaGreat
