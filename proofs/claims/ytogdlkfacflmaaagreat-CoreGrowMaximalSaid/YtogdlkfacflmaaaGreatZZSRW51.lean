/- CoreGrowMaximal walked. No condition. -/
import Derived.Test.YtogdlkfacflmaaaGreatZZ21
import Derived.Test.YtogdlkfacflmaaaGreatZZ1
namespace Go.Proofs.YtogdlkfacflmaaaGreat
set_option linter.unusedVariables false
set_option linter.unusedSimpArgs false
set_option maxRecDepth 100000
set_option maxHeartbeats 4000000
open _root_.And renaming intro→z_
section
open Go.RowKit Go.Lib
theorem IL(x:Int)(A:Option Addr)(nl cl:Nat)(ls:List (List Int))(k:Option Addr)(i l:Nat)(keep:List Int)(p:Option Addr)(nq q:Nat)(s:List Int)(L:Int)(w:World)(h:ku w A nl cl ls)(hk:aL w k i l keep)(Y:nZ keep)(O:aL w p nq q s)(Z:nZ s):
  Calls Tryz.prog 5 #[.agg #[.int .i64 x,.slice A nl cl],.slice k i l,.slice p nq q,.int .i64 L] w λ e w'=>e=.returned (.bool true)/\Below w.heap.size w w':=by
 have t:Below w.heap.size w (w.alloc (.cells #[.int .i64 x,.slice A nl cl] 24)):=(Below.refl _ _).alloc (Nat.le_refl _) _;have H:=o6.new w x A nl cl;generalize aa:w.alloc (.cells #[.int .i64 x,.slice A nl cl] 24)=W at t H;have M:=H.bf;have N:=H.c1;have d:=U (z_ t H);have P:=U (h.below t);have Q:=U (z_ (hk.below t) (z_ hk.len Y));have R:=U (z_ (O.below t) (z_ O.len Z));have nF:=U (AO W);have ab:bJ (∀W',Below W.heap.size W W'->Calls Tryz.prog 27 #[.agg #[.int .i64 x,.slice A nl cl],.slice k i l,.slice p nq q] W' (yc W' x nl i nq)):=U λ W' au=>AM x A nl cl ls k i l p nq q W' (P.o.below au)
 clear h t H hk Y O Z;go_enter Tryz.func5,Tryz.ntmps5
 go_upto_region 1 with fail
 try rw[aa]
 clear aa
 go_upto_region 3 with(go_at_call 26;refine nF.o.mono ?_;rintro e w1 ⟨rfl,S⟩;have H1:=U S;have c:=d.o.2.below S;have M:=c.bf;have N:=c.c1;clear c S)
 have ad:=U (ab.o w1 H1.o)
 go_upto_region 5 with(go_at_call 27;refine ad.o.mono ?_;rintro e av hF;obtain⟨r,rfl,ae,af⟩:=hF;have f:=U (H1.o.trans (ae.mono H1.o.size));have c:=d.o.2.below f.o;have M:=c.bf;have N:=c.c1;have ag:=U af;clear c ae af;cases r)
 ·go_ret;exact⟨rfl,d.o.1.trans (f.o.mono d.o.1.size)⟩
 have ah:=ag.o (by trivial);have I:bJ (x<=10/\nl<=60/\i<=20/\nq<=20):=U ah;clear ag ah nF ab ad;have ai:=U (ye x I.o.1 A nl cl ls k i l keep p nq q s L av (P.o.below f.o) (Q.o.1.below f.o) (R.o.1.below f.o) (uD Q.o.2.2 R.o.2.2) (by have:=I.o;omega) (by have:=I.o;omega))
 by_cases he:ny x ls (keep++s) L=0
 ·obtain⟨n,b,rfl,rfl,aj,ak,aw⟩:=EI he;have u:=U (z_ he (z_ aj ak));clear he aj ak aw
  go_upto_region 6 with(go_at_call 29;refine ai.o.mono ?_;rintro e J ⟨kind,v,B,C,D,E,F,G,m,core,al,rfl,g⟩;obtain⟨rfl,an⟩:=g.res u.o.1;have j:=U (z_ (f.o.trans (g.kD.mono f.o.size)) (z_ g.hm (z_ g.aD an)));clear g an M N)
  have K:=bz J (.cells #[.int .i64 kind,.slice v B C,.slice D E F,.int .i64 (G:Nat)] 30);have T:=aT.new J 30 [.int .i64 kind,.slice v B C,.slice D E F,.int .i64 (G:Nat)];have t3:=j.o.1.trans (K.mono j.o.1.size);generalize J.alloc (.cells #[.int .i64 kind,.slice v B C,.slice D E F,.int .i64 (G:Nat)] 30)=ax at K T t3⊢;have ay:=U (IJ n (by have:=I.o;omega) A nl cl ls k i l keep p nq q s b kind v B C m D E F core G ax (P.o.below t3) (Q.o.1.below t3) (R.o.1.below t3) (j.o.2.1.below K) (j.o.2.2.1.below K) u.o.2.1 (λ y V=>u.o.2.2 y (List.mem_append.2 (.inl V))) (λ y V=>u.o.2.2 y (List.mem_append.2 (.inr V))) (by have:=I.o;omega) j.o.2.2.2);have ao:=U t3;have c:=d.o.2.below t3;have M:=c.bf;have N:=c.c1;have z:=T.cell;have z0:=z 0;have az:=z 1;have z2:=z 2;have z3:=z 3;simp only[List.getElem?_cons_zero,List.getElem?_cons_succ] at z0 az z2 z3;clear K T t3 c z
  go_wp2_with (go_at_call 33;refine ay.o.mono ?_;rintro e aB ⟨rfl,aq⟩;have aA:=U (ao.o.trans (aq.mono ao.o.size));clear aq)
  go_ret;exact⟨rfl,d.o.1.trans (aA.o.mono d.o.1.size)⟩
 ·obtain⟨ar,X⟩:∃e,ny x ls (keep++s) L=e:=⟨_,rfl⟩
  rw[X] at he;have aC:(ar==0)=false:=by simpa using he
  have u:=U X;clear X
  go_wp2_with (go_at_call 29;refine ai.o.mono ?_;rintro e J ⟨kind,v,B,C,D,E,F,G,m,core,al,rfl,g⟩;obtain rfl:ar=al:=u.o.symm.trans g.he;have j:=U (f.o.trans (g.kD.mono f.o.size));clear g)
  go_ret;have t3:=j.o.trans ((bz J (.cells #[.int .i64 kind,.slice v B C,.slice D E F,.int .i64 (G:Nat)] 30)).mono j.o.size);exact⟨rfl,d.o.1.trans (t3.mono d.o.1.size)⟩
end
end Go.Proofs.YtogdlkfacflmaaaGreat
