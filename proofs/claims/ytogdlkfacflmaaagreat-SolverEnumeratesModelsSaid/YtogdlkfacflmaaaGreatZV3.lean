/- Parts of the walk of the solver and its core; no condition. -/
import Derived.Test.YtogdlkfacflmaaaGreatZV2
import Derived.Test.YtogdlkfacflmaaaGreatZV1
import Derived.OwnWalkIn
import Derived.TacticsInMore
import Derived.LoopNIn
import Derived.LoopIn
namespace Go.Proofs.YtogdlkfacflmaaaGreat
set_option linter.unusedVariables false
set_option linter.unusedSimpArgs false
set_option maxRecDepth 100000
set_option maxHeartbeats 4000000
open _root_.And renaming intro→z_
open _root_.List renaming getD_eq_getElem?_getD→y_,length_append→w_,length_set→u_,length_singleton→r_,replicate→p_,getElem?_map→m_,mem_append_left→l_,range→k_,getElem?_range→i_,getElem?_eq_some_iff→h_,length_take→g_,getElem?_eq_none→e_,mem_map→d_,eq_nil_of_length_eq_zero→b_,take_succ_cons→a_,drop_succ_cons→Zx,take_zero→Zw,length_drop→Zp,length_cons→Zo,all_eq_true→Zm,getElem?_eq_getElem→Zl,getElem?_replicate→Zj,getElem?_cons_zero→Zi,length_map→Zh,drop_zero→Ze,mem_cons_of_mem→Zc,map_cons→Z3
open _root_.Go.Proofs.Tryz renaming prog→x_
open _root_.Array renaming getD_eq_getD_getElem?→v_,getElem?_eq_some_iff→q_,replicate→o_,all_eq_true_iff_forall_mem→f_,getElem?_eq_getElem→Zr,mem_of_getElem?→Zd
open _root_.Int renaming tdiv_eq_ediv_of_nonneg→t_,tdiv→Z0
open _root_.Go.Region renaming binds→s_,wanted→Zu,ready→Z6
open _root_.Go.IntKind renaming i64→n_,wrap_i64→Zn
open _root_.Nat renaming le_refl→j_,eq_zero_or_pos→Zv,lt_or_ge→Zq,zero_le→Zf
open _root_.Go renaming wp_region_still_tail→c_
open _root_.Go.Result renaming andThen_ok→Zt
open _root_.Bool renaming and_eq_true→Zk,or_eq_true→Zg
open _root_.Go.Sem renaming run_bind→Z4,run_pure→Z5
open _root_.Option.some renaming injEq→Z7
open _root_.Go.Value renaming slice→Z8
variable{K:Nat->Prop}{base G n b p l k bk m mL i id:Nat}{w W W':World}{hs:Nat->aq}{cb:Nat->Nat}{s s1:an}{ops:Array Oper}{o:Oper}{a:Act}{Q:Exit->Act->World->Prop}{A B A' x:Int}{v:Value}{ws:List (List Nat)}{gW Init:World->Prop}{dead:Nat->Option Nat}{P:Program}
section
open Go.RowKit Go.Shelf
section
variable {K:Nat->Prop}{base:Nat}{w w' W:World}{G:Nat}{hs:Nat->aq}{cb:Nat->Nat}{s:an}
theorem aP.xW(h:aP K base w G hs cb s){g:Nat}(c:(hs 1).b=some g)(k:Nat)(x:Int):aP K base (w.setCell ⟨g,k,none⟩ (.int .i8 x)) G hs cb (s.pn k x)/\aF K w (w.setCell ⟨g,k,none⟩ (.int .i8 x)):=h.uV (iW.xW h.e c k x) rfl (Fr.cell 1 g k _ c)
theorem aP.z1(h:aP K base w G hs cb s){g:Nat}(c:(hs 3).b=some g)(k:Nat)(x:Option Nat):aP K base (w.setCell ⟨g,k,none⟩ (q3 cb x)) G hs cb (s.qM k x)/\aF K w (w.setCell ⟨g,k,none⟩ (q3 cb x)):=h.uV (iW.z1 h.e c k x) rfl (Fr.cell 3 g k _ c)
theorem aP.Bz(h:aP K base w G hs cb s){g:Nat}(c:(hs 6).b=some g)(k:Nat)(x:Int):aP K base (w.setCell ⟨g,k,none⟩ (.int .i64 x)) G hs cb (s.qd k x)/\aF K w (w.setCell ⟨g,k,none⟩ (.int .i64 x)):=h.uV (iW.Bz h.e c k x) rfl (Fr.cell 6 g k _ c)
theorem aP.xX(h:aP K base w G hs cb s){g:Nat}(c:(hs 8).b=some g)(k:Nat)(x:Int):aP K base (w.setCell ⟨g,k,none⟩ (.int .i64 x)) G hs cb (s.pY k x)/\aF K w (w.setCell ⟨g,k,none⟩ (.int .i64 x)):=h.uV (iW.xX h.e c k x) rfl (Fr.cell 8 g k _ c)
theorem aP.z6(h:aP K base w G hs cb s){g:Nat}(c:(hs 9).b=some g)(k:Nat)(x:Bool):aP K base (w.setCell ⟨g,k,none⟩ (.bool x)) G hs cb (s.uy k x)/\aF K w (w.setCell ⟨g,k,none⟩ (.bool x)):=h.uV (iW.z6 h.e c k x) rfl (Fr.cell 9 g k _ c)
theorem aP.wW(h:aP K base w G hs cb s){g:Nat}(c:(hs 12).b=some g)(k:Nat)(x:Bool):aP K base (w.setCell ⟨g,k,none⟩ (.bool x)) G hs cb (s.tn k x)/\aF K w (w.setCell ⟨g,k,none⟩ (.bool x)):=h.uV (iW.wW h.e c k x) rfl (Fr.cell 12 g k _ c)
theorem aF.kA(h:aP K base w G hs cb s)(k:Nat)(v:Value):aF K w (w.setCell ⟨G,k,none⟩ v):=aF.set G k v h.s.g
theorem aF.drew:aF K w w.drew:=⟨rfl,rfl,rfl,j_ _,λ _ _=>rfl⟩
theorem aP.drew(h:aP K base w G hs cb s):aP K base w.drew G hs cb s:=(h.below (Below.refl _ _).drew).1
theorem Sep.cut{n:Nat}(h:Sep K w G hs cb n){r:Nat}(m:Nat):Sep K w G (iH hs r ⟨(hs r).A,m,(hs r).c⟩) cb n:=h.iS (λ g e=>h.row r g e)
theorem aP.KE(h:aP K base w G hs cb s){g:Nat}(f:(hs 7).b=some g){m:Nat}(hm:m<=s.ord.length):
  aP K base (w.setCell ⟨G,10,none⟩ (.slice (some ⟨g,0,none⟩) m (hs 7).c)) G (iH hs 7 ⟨(hs 7).A,m,(hs 7).c⟩) cb {s with ord:=s.ord.take m}/\aF K w (w.setCell ⟨G,10,none⟩ (.slice (some ⟨g,0,none⟩) m (hs 7).c)):=by
 have i:=(h.e.rows.form f).1;rw[<-i];refine⟨⟨?_,(h.s.cut (r:=7) m).more (kK w G 10 _).size⟩,aF.kA h 10 _⟩;have j:=(j5.cut h.e f (k:=m) (by rw[h.e.n7];exact hm)).field 10 (.slice (hs 7).A m (hs 7).c);refine j.eq rfl rfl rfl (λ d _=>(we hs s (by omega) _ d).symm) rfl (λ r=>?_);rw[v8 hs cb _ (by omega)]
 by_cases e:r=7
 ·subst e;rw[jC];show(gT s.ord).take (m*1)=gT (s.ord.take m);simp[gT]
 ·rw[aV _ _ e];simp only[cont,if_neg e]
theorem aP.F7(h:aP K base w G hs cb s){g:Nat}(f:(hs 4).b=some g){m:Nat}(hm:m<=s.c.av.length):
  aP K base (w.setCell ⟨G,5,none⟩ (.slice (some ⟨g,0,none⟩) m (hs 4).c)) G (iH hs 4 ⟨(hs 4).A,m,(hs 4).c⟩) cb {s with c:={s.c with av:=s.c.av.take m}}/\aF K w (w.setCell ⟨G,5,none⟩ (.slice (some ⟨g,0,none⟩) m (hs 4).c)):=by
 have i:=(h.e.rows.form f).1;rw[<-i];refine⟨⟨?_,(h.s.cut (r:=4) m).more (kK w G 5 _).size⟩,aF.kA h 5 _⟩;have j:=(j5.cut h.e f (k:=m) (by rw[h.e.j8];exact hm)).field 5 (.slice (hs 4).A m (hs 4).c);refine j.eq rfl rfl rfl (λ d _=>(we hs s (by omega) _ d).symm) rfl (λ r=>?_);rw[v8 hs cb _ (by omega)]
 by_cases e:r=4
 ·subst e;rw[jC];show(gT s.c.av).take (m*1)=gT (s.c.av.take m);simp[gT]
 ·rw[aV _ _ e];simp only[cont,if_neg e]
theorem aP.F8(h:aP K base w G hs cb s){g:Nat}(f:(hs 5).b=some g){m:Nat}(hm:m<=s.c.st.length):
  aP K base (w.setCell ⟨G,6,none⟩ (.slice (some ⟨g,0,none⟩) m (hs 5).c)) G (iH hs 5 ⟨(hs 5).A,m,(hs 5).c⟩) cb {s with c:={s.c with st:=s.c.st.take m}}/\aF K w (w.setCell ⟨G,6,none⟩ (.slice (some ⟨g,0,none⟩) m (hs 5).c)):=by
 have i:=(h.e.rows.form f).1;rw[<-i];refine⟨⟨?_,(h.s.cut (r:=5) m).more (kK w G 6 _).size⟩,aF.kA h 6 _⟩;have j:=(j5.cut h.e f (k:=m) (by rw[h.e.jZ];exact hm)).field 6 (.slice (hs 5).A m (hs 5).c);refine j.eq rfl rfl rfl (λ d _=>(we hs s (by omega) _ d).symm) rfl (λ r=>?_);rw[v8 hs cb _ (by omega)]
 by_cases e:r=5
 ·subst e;rw[jC];show(qo s.c.st).take (m*1)=qo (s.c.st.take m);simp[qo]
 ·rw[aV _ _ e];simp only[cont,if_neg e]
theorem aP.BG(h:aP K base w G hs cb s)(x:Nat):aP K base (w.setCell ⟨G,7,none⟩ (.int .i64 (x:Int))) G hs cb {s with c:={s.c with ag:=x}}/\aF K w (w.setCell ⟨G,7,none⟩ (.int .i64 (x:Int))):=
 ⟨⟨(h.e.field 7 _).eq rfl rfl rfl (λ _ _=>rfl) rfl (λ _=>rfl),h.s.more (kK w G 7 _).size⟩,aF.kA h 7 _⟩
theorem aP.F9(h:aP K base w G hs cb s)(x:Int):aP K base (w.setCell ⟨G,9,none⟩ (.int .i64 x)) G hs cb (s.wg x)/\aF K w (w.setCell ⟨G,9,none⟩ (.int .i64 x)):=
 ⟨⟨(h.e.field 9 _).eq rfl rfl rfl (λ _ _=>rfl) rfl (λ _=>rfl),h.s.more (kK w G 9 _).size⟩,aF.kA h 9 _⟩
theorem aP.Ga(h:aP K base w G hs cb s):aP K base (w.setCell ⟨G,15,none⟩ (.bool true)) G hs cb {s with c:=wR s.c}/\aF K w (w.setCell ⟨G,15,none⟩ (.bool true)):=
 ⟨⟨(h.e.field 15 _).eq rfl rfl rfl (λ _ _=>rfl) rfl (λ _=>rfl),h.s.more (kK w G 15 _).size⟩,aF.kA h 15 _⟩
end
end
section
open Go.RowKit Go.Shelf
def KF(K:Nat->Prop)(base:Nat)(w:World)(G:Nat)(cb:Nat->Nat)(s:an)(e:Ending)(w':World):Prop:=
 ∃(v:Nat)(hs':Nat->aq)(s':an),e=.returned (.int .i64 v)/\ai s.ord 0=v/\1<=v/\v<=s.c.n/\(∃o p,s'={s with ord:=o,pl:=p})/\aP K base w' G hs' cb s'/\aF K w w'/\mb s.c.n s'.ord s'.pl/\s'.ord.length+1=s.ord.length/\(∀u:Nat,u≠v->(0<=ai s'.pl u↔0<=ai s.pl u))
theorem KG(h:aP K base w G hs cb s)(O:mb s.c.n s.ord s.pl)(ak:s.act.length=s.c.n+1)(aI:s.c.n<=65536)(X:0<s.ord.length)(aJ:s.ord.length<=65537):
  Calls x_ 155 #[.pointer (some ⟨G,0,none⟩)] w (KF K base w G cb s):=by
 obtain⟨m,hm⟩:∃m,s.ord.length=m+1:=⟨s.ord.length-1,by omega⟩
 obtain⟨g7,J,Y,f7⟩:=h.e.lN 10 7 rfl (h.e.n7.trans hm) (by omega);obtain⟨v,r,v1,v2⟩:=O.nat (i:=0) X;have c0:=h.e.xY J (k:=0) X;rw[r] at c0;have H:=U h;have B:=U O;have C:=U J;have L:=U r;have y:=U (z_ v1 v2);have f:=U hm;have em:((m+1:Nat):Int)-1=(m:Int):=by omega
 have aK:=yR m (by omega);have lm:(0:Int)<((m+1:Nat):Int):=by omega
 clear h O J r v1 v2 hm f7;go_enter Tryz.func155,Tryz.ntmps155
 go_upto_region 3 with(go_at_call 193;refine(Dw H.o B.o 0 m (by have:=f.o;omega) (by have:=f.o;omega)).mono ?_;rintro e D ⟨rfl,t,M⟩;have t:=U t;have M:=U M)
 have al:(hs 7).n=m+1:=H.o.e.n7.trans f.o;have Y:D.cell? ⟨G,10,none⟩=some (.slice (some ⟨g7,0,none⟩) (m+1) (hs 7).c):=t.o.e.rE 10 C.o al rfl;have f7:D.frozen? ⟨G,10,none⟩=false:=t.o.e.free 10;have cap:m+1<=(hs 7).c:=by
  obtain⟨_,ao⟩:=t.o.e.rows.row 7;rcases ao with⟨N,_⟩|⟨aL,Z,cur,r,_,_,aM,_⟩
  ·have:=(t.o.e.rows.form C.o).1;unfold aq.v at N;rw[this] at N
   cases N
  ·unfold aq.v at r;injection r with _ _ r
   omega
 have Z:(m:Int)<=((hs 7).c:Int):=by omega
 refine c_ 14 (by kernel_rfl) (by kernel_rfl) ?_;simp only[a_,Zw,Zx,Ze]
 iterate 14 still_step
 refine wpStill_nil ?_;change wpList _ _ _ _ _ D.drew
 go_upto_region 4 with fail
 have P:=B.o.sL;have hlen:=f.o;have i0:0<s.ord.length:=by omega
 have Q:m<s.ord.length:=by omega
 have g:=t.o.KE C.o (m:=m) (by show m<=(kL s.ord 0 m).length;rw[sj];omega);have aa:=B.o.swap i0 Q;have E:=aa.pop (by rw[sj];omega);rw[sj,hlen,Nat.add_sub_cancel] at E;have ab:ai (kL s.ord 0 m) m=v:=by rw[qJ i0 Q,if_pos rfl];exact L.o
 rw[ab,Int.toNat_natCast] at E;have ad:=U (M.o.trans (g.2.trans aF.drew));have g:=U g.1.drew;generalize (D.setCell ⟨G,10,none⟩ (.slice (some ⟨g7,0,none⟩) m (hs 7).c)).drew=ar at g ad;have ae:=U E;obtain⟨g8,R,au,f8⟩:=g.o.e.lN 11 8 rfl (g.o.e.n8.trans (by show(uw s.ord s.pl 0 m).length=s.c.n+1;unfold uw;rw[u_,u_];exact P)) (by omega);have av:=g.o.e.wY R (k:=v) (by show v<(uw s.ord s.pl 0 m).length;unfold uw;rw[u_,u_,P];have:=y.o;omega);have aw:=f8 v;have aS:(v:Int)<((s.c.n+1:Nat):Int):=by have:=y.o;omega
 have ax:=U R;clear f8 R aa E ab Q i0 hlen P Y f7 cap Z c0
 go_upto_region 5 with fail
 have j:=g.o.xX ax.o v (-1);have S:=U (ad.o.trans j.2);have j:=U j.1;generalize (ar.setCell ⟨g8,v,none⟩ (.int .i64 (-1)))=ay at j S;clear au av aw;obtain⟨d,l⟩:∃d,d=({s.swp 0 m with ord:=(kL s.ord 0 m).take m}:an).pY v (-1):=⟨_,rfl⟩
 have af:(({s.swp 0 m with ord:=(s.swp 0 m).ord.take m}:an).pY v (-1))=d:=l.symm;rw[af] at j;have F:mb d.c.n d.ord d.pl:=by rw[l];exact ae.o
 have ag:d.ord.length=m:=by rw[l];show((kL s.ord 0 m).take m).length=m;rw[g_,sj];have:=f.o;omega
 have T:d.c.n=s.c.n:=by rw[l];rfl
 have a5:d.act.length=d.c.n+1:=by rw[T,<-ak,l];rfl
 have ah:∃o p,d={s with ord:=o,pl:=p}:=⟨_,_,l⟩
 have aj:∀u:Nat,u≠v->(0<=ai d.pl u↔0<=ai s.pl u):=λ u hu=>by
  rw[l];show 0<=ai ((uw s.ord s.pl 0 m).set v (-1)) u↔_;rw[o9,if_neg (λ az=>hu az.1.symm)];exact B.o.FL (by have:=f.o;omega) (by have:=f.o;omega) u
 have aN:ay.cell? ⟨G,10,none⟩=some (.slice (some ⟨g7,0,none⟩) m (hs 7).c):=by
  have aA:(iH hs 7 ⟨(hs 7).A,m,(hs 7).c⟩ 7).b=some g7:=by rw[jC];exact C.o
  have:=j.o.e.rE 10 aA (m:=m) (by rw[jC]) rfl
  rwa[jC] at this
 have I:=U (z_ ah aj);have F:=U F;have q:=U (z_ ag (z_ T a5));clear ah aj ag T a5 af ae l
 by_cases aB:m=0
 ·have aC:¬(0:Int)<(m:Int):=by omega
  have aO:=U aB
  go_wp2_with fail
  go_ret;exact⟨v,_,d,rfl,L.o,y.o.1,y.o.2,I.o.1,j.o,S.o,by have:=F.o;rwa[q.o.2.1] at this,by have:=q.o;have:=f.o;omega,I.o.2⟩
 ·have aC:(0:Int)<(m:Int):=by omega
  go_wp2_with (go_at_call 194;refine(F6 j.o F.o q.o.2.2 (by have:=q.o;omega) 0 (by have:=q.o;omega) (by have:=q.o;have:=f.o;omega)).mono ?_;rintro e aQ ⟨rfl,tr,z,V,W⟩;have V:=U V;have W:=U W;have z:=U z)
  go_ret;refine⟨v,_,tr,rfl,L.o,y.o.1,y.o.2,?_,V.o,S.o.trans W.o,?_,?_,?_⟩
  ·obtain⟨o,p,aD⟩:=I.o.1;obtain⟨aE,aG,aH⟩:=z.o.eq;exact⟨aE,aG,by rw[aH,aD]⟩
  ·have:=z.o.lJ;rwa[q.o.2.1] at this
  ·rw[z.o.ol];have:=q.o;have:=f.o;omega
  ·exact λ u hu=>(z.o.same u).trans (I.o.2 u hu)
end
section
structure qu(c:Core)(m:Nat):Prop where
 str:∀k,k<c.st.length->m<=k->gO c.st k<if k+1<c.st.length then gO c.st (k+1) else c.av.length
section
variable {c c':Core}{m:Nat}
theorem qu.at(h:qu c m):∀j,m+j<c.st.length->j<=gO c.st (m+j)
 |0,_=>Zf _
 |j+1,d=>by
  have h1:=qu.at h j (by omega);have b:=h.str (m+j) (by omega) (by omega);rw[if_pos (by omega)] at b;rw[show m+(j+1)=m+j+1 by omega];omega
theorem qu.len(h:qu c m):c.st.length<=m+c.av.length:=by
 rcases Zq m c.st.length with hl|hl
 ·have h1:=h.at (c.st.length-1-m) (by omega);have b:=h.str (c.st.length-1) (by omega) (by omega);rw[if_neg (by omega)] at b;rw[show m+(c.st.length-1-m)=c.st.length-1 by omega] at h1;omega
 ·omega
theorem qu.grow(h:qu c m)(hs:c'.st=c.st)(b:c.av.length<=c'.av.length):qu c' m:=by
 refine⟨λ k hk hm=>?_⟩;rw[hs] at hk⊢;have:=h.str k hk hm;split
 ·rename_i h1;rw[if_pos h1] at this;exact this
 ·rename_i h1;rw[if_neg h1] at this;omega
theorem qu.zero(h:c.st=[]):qu c m:=⟨λ k hk=>by rw[h] at hk;simp at hk⟩
theorem qu.level(h:qu c m)(T:jU c)(hl:c.st.length<m):qu (nJ c) m:=by
 refine⟨λ k hk hm=>?_⟩;have e:(nJ c).st=c.st++[c.av.length]:=rfl;rw[e,w_,r_] at hk;omega
theorem qu.decide(h:qu c m)(T:jU c)(x:Int):qu (k5 (nJ c) x none) m:=by
 refine⟨λ k hk hm=>?_⟩;have e:(k5 (nJ c) x none).st=c.st++[c.av.length]:=rfl;have d:(k5 (nJ c) x none).av=c.av++[x]:=rfl;rw[e,w_,r_] at hk;rw[e,d,w_,r_,w_,r_]
 by_cases h1:k<c.st.length
 ·rw[xN h1,if_pos (by omega)];have:=h.str k h1 hm
  by_cases b:k+1<c.st.length
  ·rw[if_pos b] at this;rw[xN b];exact this
  ·rw[if_neg b] at this;have f:k+1=c.st.length:=by omega
   rw[f,xO];exact this
 ·have g:k=c.st.length:=by omega
  rw[if_neg (by omega),g,xO];omega
theorem qu.back(h:qu c m)(T:jU c){level:Nat}(hl:level<c.st.length):qu (mE c level) m:=by
 refine⟨λ k hk hm=>?_⟩;have e:(mE c level).st=c.st.take level:=rfl;have b:(mE c level).av=c.av.take (gO c.st level):=rfl;have hlen:(c.st.take level).length=level:=by rw[g_];omega
 have d:(c.av.take (gO c.st level)).length=gO c.st level:=by rw[g_];have:=T.oI level hl;omega
 rw[e,hlen] at hk;rw[e,b,hlen,d,uR hk];have:=h.str k (by omega) hm;rw[if_pos (by omega)] at this
 by_cases h1:k+1<level
 ·rw[if_pos h1,uR h1];exact this
 ·rw[if_neg h1];obtain rfl:k+1=level:=by omega
  exact this
end
end
section
def xZ(a b:List Int):Prop:=∀x,x∈a↔x∈b
structure mj(F:List (List Int))(jH:List Int)(n gy:Nat)(s:an)(sp h:Nat):Prop where
 gH:kf F F s.c h []
 rg:mh n jl (jl*(1+16*(sp:Int))) s
 wh:nK s.c jH
 lb:qu s.c jH.length
 un:∀v,1<=v->v<=n->ai s.c.val v=0->0<=ai s.pl v
 aK:s.aK=p_ (n+1) false
 w6:(s.aJ.map (aA s.c.cl)).Pairwise λ a b=>¬xZ a b
 pG:s.aJ.length=gy+sp
 yS:∀l∈s.nl,∀x∈l,gF n x
 v0:ai s.c.val 0=0
 qO:pE s.c
structure aY(level:Nat)(s s':an):Prop where
 c:s'.c=mE s.c level
 aJ:s'.aJ=s.aJ
 aD:s'.aD=s.aD
 aK:s'.aK=s.aK
 nl:s'.nl=s.nl
 jg:s'.jg=s.jg
 ci:s'.ci=s.ci
 aW:s'.aW=s.aW
 yT:∀v,0<=ai s.pl v->0<=ai s'.pl v
 Gb:∀v,1<=v->v<=s.c.n->ai s'.c.val v=0->ai s.c.val v=0\/0<=ai s'.pl v
theorem yU(l:List sq)(x:sq)(d:Nat):(l++[x]).getD d ⟨false,0,0⟩=if d=l.length then x else l.getD d ⟨false,0,0⟩:=by
 simp only[y_]
 by_cases h:d<l.length
 ·rw[List.getElem?_append_left h,if_neg (by omega)]
 ·rw[List.getElem?_append_right (by omega)]
  by_cases b:d=l.length
  ·subst b;simp
  ·rw[if_neg b,e_ (by simp;omega),e_ (by omega)]
section
variable {F:List (List Int)}{jH:List Int}{n gy:Nat}{s s':an}{sp h h':Nat}
theorem sw{c:Core}(T:jU c){v:Nat}(h1:1<=v)(b:v<=c.n):ai c.val v=0↔¬(v:Int)∈c.av/\¬-(v:Int)∈c.av:=by
 have hl:gF c.n (v:Int):=⟨by unfold aI;omega,by unfold aI;omega⟩
 rw[<-T.open hl];unfold jY aI;rw[if_neg (by omega),Int.natAbs_natCast]
theorem BH{f g:Nat->List Int}:∀(l:List Nat),(∀d∈l,xZ (g d) (f d))->(l.map f).Pairwise (λ a b=>¬xZ a b)->(l.map g).Pairwise (λ a b=>¬xZ a b)
 |[],_,_=>List.Pairwise.nil
 |d::l,hs,hp=>by
  rw[Z3,List.pairwise_cons] at hp⊢;refine⟨λ b c=>?_,BH l (λ e he=>hs e (Zc _ he)) hp.2⟩;obtain⟨e,he,rfl⟩:=d_.1 c;intro i;refine hp.1 (f e) (d_.2 ⟨e,he,rfl⟩) (λ x=>?_);have h1:=hs d List.mem_cons_self x;have j:=hs e (Zc _ he) x;exact h1.symm.trans ((i x).trans j)
theorem mj.run(S:mj F jH n gy s sp h){c':Core}(m:tY s.c c')(L:kf F F c' h' [])(A:nK c' jH):mj F jH n gy {s with c:=c'} sp h':=by
 have i:c'.n=n:=m.n.trans S.rg.gV;refine⟨L,⟨i,S.rg.lJ,S.rg.kM,S.rg.pR,S.rg.a0,S.rg.rG,S.rg.oU,S.rg.nE,S.rg.oV,?_,S.rg.qg,λ d j=>?_⟩,A,S.lb.grow m.st ?_,λ v h1 b k=>S.un v h1 b ?_,S.aK,?_,S.pG,S.yS,m.v0.trans S.v0,m.qO S.qO⟩
 ·show s.ci.length=c'.cl.length;rw[m.len];exact S.rg.nX
 ·show d<c'.cl.length;rw[m.len];exact S.rg.kW d j
 ·obtain⟨e,he⟩:=m.av;rw[he,w_];omega
 ·have f:=(sw L.au h1 (by rw[i];exact b)).1 k;obtain⟨e,he⟩:=m.av;rw[he] at f;exact(sw S.gH.au h1 (by rw[S.rg.gV];exact b)).2 ⟨λ g=>f.1 (l_ _ g),λ g=>f.2 (l_ _ g)⟩
 ·exact BH _ (λ d _ x=>m.cls d x) S.w6
theorem mj.back(S:mj F jH n gy s sp h){level:Nat}(hl:level<s.c.st.length)(k:aY level s s')(r:mh n jl (jl*(1+16*(sp:Int))) s'):mj F jH n gy s' sp (gO s.c.st level):=by
 have f:∀d,aA s'.c.cl d=aA s.c.cl d:=λ d=>by rw[k.c];rfl
 refine⟨by rw[k.c];exact S.gH.back hl,r,by rw[k.c];exact S.wh.back S.gH.au hl,by rw[k.c];exact S.lb.back S.gH.au hl,λ v h1 e g=>?_,k.aK.trans S.aK,?_,by rw[k.aJ];exact S.pG,by rw[k.nl];exact S.yS,?_,by rw[k.c];exact S.qO.back level⟩
 ·rcases k.Gb v h1 (by rw[S.rg.gV];exact e) g with b|b
  ·exact k.yT v (S.un v h1 e b)
  ·exact b
 ·rw[k.aJ];exact BH _ (λ d _ x=>by rw[f]) S.w6
 ·rw[k.c];show ai (zero s.c.val _) 0=0;rw[yF];split
  ·rfl
  ·exact S.v0
theorem mj.ov(S:mj F jH n gy s sp h):s.aJ.length+1<=3^n:=by
 have:=FK (n:=n) (ls:=s.aJ.map (aA s.c.cl)) (λ l hl=>by
  obtain⟨d,b,rfl⟩:=d_.1 hl;have:=S.gH.jG.mD d (S.rg.kW d b);rw[S.rg.gV] at this;exact this) (S.w6.imp λ h e=>h e)
 rwa[Zh] at this
theorem mj.level(S:mj F jH n gy s sp h)(b:h=s.c.av.length)(d:s.c.lC=false)(hk:s.c.st.length<jH.length)(e:ai jH s.c.st.length∈s.c.av):mj F jH n gy {s with c:=nJ s.c} sp h:=by
 subst b;refine⟨S.gH.level d,⟨S.rg.gV,S.rg.lJ,S.rg.kM,S.rg.pR,S.rg.a0,S.rg.rG,S.rg.oU,S.rg.nE,S.rg.oV,S.rg.nX,S.rg.qg,S.rg.kW⟩,S.wh.level S.gH.au (λ _=>e),S.lb.level S.gH.au hk,S.un,S.aK,S.w6,S.pG,S.yS,S.v0,S.qO⟩
theorem mj.decide{aG:an}(S:mj F jH n gy s sp h)(b:h=s.c.av.length)(o:s.c.lC=false){x:Int}(j:gF n x)(k:jY s.c x=0)(p:s.c.st.length<jH.length->x=ai jH s.c.st.length)
  (e:aG={s with ord:=aG.ord,pl:=aG.pl}) (q:mb n aG.ord aG.pl) (r:∀v:Nat,1<=v->v<=n->ai s.c.val v=0->v≠aI x->0<=ai aG.pl v):
  mj F jH n gy {aG with c:=k5 (nJ s.c) x none} sp h:=by
 subst b;rw[e];have l:gF s.c.n x:=by rw[S.rg.gV];exact j
 have G:=S.gH.decide o l k;refine⟨G,⟨S.rg.gV,q,S.rg.kM,S.rg.pR,S.rg.a0,S.rg.rG,S.rg.oU,S.rg.nE,S.rg.oV,S.rg.nX,S.rg.qg,S.rg.kW⟩,S.wh.decide S.gH.au l k p,S.lb.decide S.gH.au x,λ v h1 g t=>?_,S.aK,S.w6,S.pG,S.yS,by show ai (s.c.val.set _ _) 0=0;rw[o9,if_neg (by have:=j.1;omega)];exact S.v0,pE.set (show pE (nJ s.c) from S.qO) none (λ d u=>by cases u)⟩;have f:=(sw G.au h1 (by show v<=s.c.n;rw[S.rg.gV];exact g)).1 t;have w:(k5 (nJ s.c) x none).av=s.c.av++[x]:=rfl;rw[w] at f;have y:=(sw S.gH.au h1 (by rw[S.rg.gV];exact g)).2 ⟨λ b=>f.1 (l_ _ b),λ b=>f.2 (l_ _ b)⟩;refine r v h1 g y (λ m=>?_);rcases Int.natAbs_eq x with i|i
 ·exact f.1 (by rw[m];unfold aI;rw[<-i];simp)
 ·exact f.2 (by rw[m];unfold aI;rw[<-i];simp)
end
end
section
def p0(b:List Bool)(x:Int):Bool:=if x<0 then !(jr b x.natAbs) else jr b x.natAbs
theorem yV(b:List Bool):Mod (p0 b):=λ x c=>by
 unfold p0;rw[Int.natAbs_neg]
 by_cases h:x<0
 ·rw[if_pos h,if_neg (by omega)];simp
 ·rw[if_neg h,if_pos (by omega)]
def wj(s:an):List Bool:=(k_ (s.c.n+1)).map λ v=>decide (0<ai s.c.val v)
theorem KH(s:an):(wj s).length=s.c.n+1:=by simp[wj]
theorem Dy(s:an){v:Nat}(h:v<=s.c.n):jr (wj s) v=decide (0<ai s.c.val v):=by
 unfold wj jr;rw[y_,m_,i_ (by omega)];rfl
section
variable {F:List (List Int)}{jH:List Int}{n gy:Nat}{s:an}{sp h:Nat}
theorem Gc(T:jU s.c)(x:Int)(f:gF s.c.n x)(d:jY s.c x≠0):p0 (wj s) x=true↔jY s.c x=1:=by
 have g:x.natAbs<=s.c.n:=f.2;have e:=T.range x;unfold jY at*;unfold p0;unfold aI at*;rw[Dy s g]
 by_cases b:x<0
 ·rw[if_pos b];rw[if_pos b] at d e⊢;simp only[Bool.not_eq_true',decide_eq_false_iff_not];omega
 ·rw[if_neg b];rw[if_neg b] at d e⊢;simp only[decide_eq_true_eq];omega
theorem mj.yes(S:mj F jH n gy s sp h)(j:h=s.c.av.length)(k:s.c.lC=false)(p:s.ord.length=0)(hF:∀g∈F,∀x∈g,gF n x)(hl:jH.length<=s.c.st.length):
  (∀g∈F,uk (p0 (wj s)) g)/\(∀x∈jH,p0 (wj s) x=true):=by
 subst j;have T:=S.gH.au;have e:∀x,gF s.c.n x->jY s.c x≠0:=λ x b i=>by
  have l:ai s.c.val (aI x)=0:=by unfold jY at i;split at i<;>omega
  have d:gF n x:=by rw[<-S.rg.gV];exact b
  have h1:=S.un (aI x) d.1 d.2 l;have q:=(S.rg.lJ.o (aI x) d.1 d.2 h1).1;omega
 refine⟨Kf S.gH k e (yV _) (λ x b=>Gc T x b (e x b)) (λ g m x b=>by rw[S.rg.gV];exact hF g m x b),λ x b=>?_⟩;have hm:=S.wh.all hl x b;have f:=T.lit x hm;exact(Gc T x f (e x f)).2 ((T.pos x f).2 hm)
theorem mj.KI(S:mj F jH n gy s sp h):jr (wj s) 0=false:=by
 rw[Dy s (Zf _),S.v0];rfl
theorem mj.core(S:mj F jH n gy s sp h)(hk:s.c.st.length<jH.length){p:Int}(hp:ai jH s.c.st.length=p){out:List Int}
  (f:∀x∈out,x=p\/(x∈s.c.av/\mw s.c.j9 (aI x)=none)) (hu:∀M,tO M F->¬∀x∈p::out,M x=true) (g:p∈out):
  ∀M,tO M F->¬∀x∈jH.filter (λ x=>out.contains x),M x=true:=by
 intro M j l;refine hu M j (λ x b=>?_);have d:x∈out:=by
  rcases List.mem_cons.1 b with rfl|b
  ·exact g
  ·exact b
 refine l x (List.mem_filter.2 ⟨?_,by simpa using d⟩);rcases f x d with rfl|⟨h1,m⟩
 ·rw[<-hp];exact lY hk
 ·obtain⟨i,o,e⟩:=qn.1 h1;obtain⟨k,q,k2,k3⟩:=S.wh.dec i o (by rw[e];exact m);rw[e] at k3;rw[k3 (by omega)];exact lY (by omega)
end
end
section
def ow(n:Nat):Core:=⟨n,p_ (2*n+2) [],p_ (n+1) 0,p_ (n+1) 0,p_ (n+1) none,[],[],0,false,[]⟩
theorem yW(n:Nat)(k:Nat):ai (p_ n 0) k=0:=by
 unfold ai;rw[y_,Zj];split<;>rfl
theorem BI{α:Type}(n:Nat)(k:Nat):aA (p_ n ([]:List α)) k=[]:=by
 unfold aA;rw[y_,Zj];split<;>rfl
theorem kf.init(F:List (List Int))(n:Nat):kf F [] (ow n) 0 []:=by
 have f:∀x,jY (ow n) x=0:=λ x=>by
  unfold jY;have:∀k,ai (ow n).val k=0:=yW _;rw[this];split<;>rfl
 refine⟨⟨by simp[ow],by simp[ow],by simp[ow],λ x e=>by simp[ow] at e,by simp[ow],λ v=>Or.inl (yW _ _),λ x e=>?_,λ j k _ hk=>by simp[ow] at hk,λ k hk=>by simp[ow] at hk,λ i c=>by simp[ow] at c,λ i c=>by simp[ow] at c⟩,
  ⟨λ d b=>by simp[ow] at b,λ d b=>by simp[ow] at b,λ g l=>by simp at l,λ h=>by simp[ow] at h,Or.inr λ d b=>by simp[ow] at b⟩,
  ⟨by simp[ow],λ k d b=>?_,λ k=>?_,λ d b=>by simp[ow] at b⟩,λ d b=>by simp[ow] at b,λ k hk=>by simp[ow] at hk,λ k hk=>by simp[ow] at hk,Zf _⟩
 ·rw[f];simp[ow]
 ·have:aA (ow n).wt k=[]:=BI _ _;rw[this] at b;cases b
 ·have:aA (ow n).wt k=[]:=BI _ _;rw[this];exact List.nodup_nil
structure Gd(n:Nat)(F:List (List Int))(g l:List Int)(both:Bool):Prop where
 ok:both=false->l≠ []->oT n l
 imp:both=false->pM F l
 mem:∀x,x∈l↔x∈g
 KJ:both=true->vw g
def an.oL(s:an)(l:List Int)(both:Bool)(x:sq):an:={s with c:=pP s.c l both,ci:=if both=true\/l.length=0 then s.ci else s.ci++[x]}
section
variable {F Fd:List (List Int)}{c:Core}{n:Nat}
theorem nK.low(T:jU c)(hs:c.st=[])(b:List Int):nK c b:=by
 refine⟨λ k hk=>by rw[hs] at hk;simp at hk,λ i d hw=>?_⟩;have:=T.qc i d;rw[hw] at this;obtain⟨k,hk,_⟩:=this;rw[hs] at hk;simp at hk
theorem KK{l:List Int}{b:Bool}(h:ai c.val 0=0)(hl:b=false->l≠ []->oT n l):ai (pP c l b).val 0=0:=by
 unfold pP
 by_cases h1:b=true
 ·rw[if_pos h1];exact h
 ·rw[if_neg h1]
  by_cases d:l.length=0
  ·rw[if_pos d];exact h
  ·rw[if_neg d]
   by_cases f:l.length=1
   ·rw[if_pos f]
    by_cases g:jY c (ai l 0)= -1
    ·rw[if_pos g];exact h
    ·rw[if_neg g]
     by_cases i:jY c (ai l 0)=0
     ·rw[if_pos i];show ai (c.val.set _ _) 0=0;have:=((hl (by simpa using h1) (λ e=>d (by rw[e];rfl))).lt (ai l 0) (lY (by omega))).1;rw[o9,if_neg (by omega)];exact h
     ·rw[if_neg i];exact h
   ·rw[if_neg f];exact h
end
structure yX(F Fd:List (List Int))(n:Nat)(s:an):Prop where
 gH:kf F Fd s.c 0 []
 gV:s.c.n=n
 st:s.c.st=[]
 ag:s.c.ag=0
 v0:ai s.c.val 0=0
 nX:s.ci.length=s.c.cl.length
 qg:∀d,0<=(lE s d).ac/\(lE s d).ac<=jl/\0<=(lE s d).aS/\(lE s d).aS<=jl
theorem yX.take{F Fd:List (List Int)}{n:Nat}{s:an}(h:yX F Fd n s){g l:List Int}{both:Bool}(k:Gd n F g l both){x:sq}(b:0<=x.ac/\x.ac<=jl/\0<=x.aS/\x.aS<=jl):yX F (Fd++[g]) n (s.oL l both x):=by
 refine⟨h.gH.take h.st rfl (by rw[h.gV];exact k.ok) k.imp k.mem k.KJ,(Kw _ _ _).trans h.gV,(Kx _ _ _).trans h.st,(Ky _ _ _).trans h.ag,KK h.v0 k.ok,?_,λ d=>?_⟩
 ·show(if both=true\/l.length=0 then s.ci else s.ci++[x]).length=(pP s.c l both).cl.length;rw[BB];split
  ·exact h.nX
  ·rw[w_,w_,h.nX];rfl
 ·have e:lE (s.oL l both x) d=(if both=true\/l.length=0 then s.ci else s.ci++[x]).getD d ⟨false,0,0⟩:=rfl;rw[e];split
  ·exact h.qg d
  ·rw[yU];split
   ·exact b
   ·exact h.qg d
theorem KL(s:an)(l:List Int)(both:Bool)(x:sq){d:Nat}(b:d<s.c.cl.length)(e:s.ci.length=s.c.cl.length):aA (s.oL l both x).c.cl d=aA s.c.cl d/\lE (s.oL l both x) d=lE s d:=by
 refine⟨?_,?_⟩
 ·show aA (pP s.c l both).cl d=_;rw[BB];split
  ·rfl
  ·exact Bm b
 ·show(if both=true\/l.length=0 then s.ci else s.ci++[x]).getD d ⟨false,0,0⟩=_;split
  ·rfl
  ·rw[yU,if_neg (by omega)];rfl
theorem KM(s:an)(l:List Int)(x:sq)(hl:l≠ [])(d:s.ci.length=s.c.cl.length):(s.oL l false x).c.cl.length=s.c.cl.length+1/\aA (s.oL l false x).c.cl s.c.cl.length=l/\lE (s.oL l false x) s.c.cl.length=x:=by
 have b:¬(false=true\/l.length=0):=λ h=>h.elim (λ h=>by cases h) (λ h=>hl (b_ h))
 have e:(s.oL l false x).c.cl=s.c.cl++[l]:=by
  show(pP s.c l false).cl=_;rw[BB,if_neg b]
 refine⟨by rw[e];simp,by rw[e];exact uQ _ _,?_⟩;show(if false=true\/l.length=0 then s.ci else s.ci++[x]).getD s.c.cl.length ⟨false,0,0⟩=x;rw[if_neg b,yU,if_pos d.symm]
end
section
theorem mb.len{ord pl:List Int}(O:mb n ord pl):ord.length<=n:=by
 have h:=xQ n (ord.map λ x=>x.toNat-1) ?_ ?_
 ·rwa[Zh] at h
 ·rw[List.nodup_iff_pairwise_ne,List.pairwise_iff_getElem];intro i j c d l e;rw[Zh] at c d;rw[List.getElem_map,List.getElem_map] at e;have a:=O.inv i c;have b:=O.inv j d;rw[nC c] at a;rw[nC d] at b;have:=O.inj c d (by rw[nC c,nC d];omega);omega
 ·intro x f;obtain⟨y,g,rfl⟩:=d_.1 f;obtain⟨k,hk,rfl⟩:=qn.1 g;have:=O.inv k hk;omega
structure p4(s:an)(xs:List Int)(j:Nat)(s1:an):Prop where
 c:s1.c={s.c with val:=zero s.c.val (xs.take j),j9:=tf s.c.j9 (xs.take j)}
 act:s1.act=s.act
 aW:s1.aW=s.aW
 ci:s1.ci=s.ci
 aJ:s1.aJ=s.aJ
 aD:s1.aD=s.aD
 aK:s1.aK=s.aK
 nl:s1.nl=s.nl
 jg:s1.jg=s.jg
 nE:s1.bH.length=s.bH.length
 oV:jr s1.bH 0=jr s.bH 0
 lJ:mb s.c.n s1.ord s1.pl
 yT:∀v,0<=ai s.pl v->0<=ai s1.pl v
 Dz:∀x∈xs.take j,0<=ai s1.pl (aI x)
def an.vD(s:an)(x:Int):an:={s with ord:=s.ord++[x]}
def an.Ge(s:an)(x:Nat):an:={s with c:={s.c with st:=s.c.st++[x]}}
def an.uW(s:an)(x:Nat):an:={s with aJ:=s.aJ++[x]}
def an.uA(s:an)(v:Nat)(b:Bool):an:=((s.uy v b).pn v 0).qM v none
section
variable {s s1:an}{xs:List Int}{j:Nat}
theorem p4.start(O:mb s.c.n s.ord s.pl):p4 s xs 0 s:=
 ⟨by simp[zero,tf],rfl,rfl,rfl,rfl,rfl,rfl,rfl,rfl,rfl,rfl,O,λ _ h=>h,λ x b=>by simp at b⟩
theorem yY{xs:List Int}{j:Nat}(b:j<xs.length):xs.take (j+1)=xs.take j++[ai xs j]:=by
 rw[nC b,List.take_succ_eq_append_getElem b]
theorem Gf(h:p4 s xs j s1)(d:j<xs.length)(b:Bool):(s1.uA (aI (ai xs j)) b).c={s.c with val:=zero s.c.val (xs.take (j+1)),j9:=tf s.c.j9 (xs.take (j+1))}:=by
 unfold an.uA an.uy an.pn an.qM;dsimp only;rw[h.c,yY d];simp[zero,tf,List.foldl_append]
theorem p4.stay(h:p4 s xs j s1)(c:j<xs.length)(d:1<=aI (ai xs j))(b:Bool)(hp:0<=ai s1.pl (aI (ai xs j))):p4 s xs (j+1) (s1.uA (aI (ai xs j)) b):=
 ⟨Gf h c b,h.act,h.aW,h.ci,h.aJ,h.aD,h.aK,h.nl,h.jg,by show(s1.bH.set _ _).length=_;rw[u_];exact h.nE,
  by show jr (s1.bH.set _ _) 0=_;rw[zS,if_neg (by omega)];exact h.oV,h.lJ,h.yT,λ x hm=>by
   rw[yY c] at hm;rcases List.mem_append.1 hm with hm|hm
   ·exact h.Dz x hm
   ·rw[List.mem_singleton.1 hm];exact hp⟩
theorem p4.push(h:p4 s xs j s1)(b:1<=aI (ai xs j))(d:aI (ai xs j)<=s.c.n)(hp:ai s1.pl (aI (ai xs j))<0):mb s.c.n (s1.ord++[(aI (ai xs j):Int)]) (s1.pl.set (aI (ai xs j)) (s1.ord.length:Int)):=h.lJ.push b d hp
theorem p4.back(h:p4 s xs j s1)(d:j<xs.length)(q:1<=aI (ai xs j))(r:aI (ai xs j)<=s.c.n)(b:Bool)(hp:ai s1.pl (aI (ai xs j))<0){iI:an}
   (hO:pZ (((s1.uA (aI (ai xs j)) b).pY (aI (ai xs j)) (s1.ord.length:Int)).vD (aI (ai xs j):Int)) iI):p4 s xs (j+1) iI:=by
 obtain⟨o,p,he⟩:=hO.eq;have f:∀u,ai (s1.pl.set (aI (ai xs j)) (s1.ord.length:Int)) u=if aI (ai xs j)=u then (s1.ord.length:Int) else ai s1.pl u:=λ u=>by
   rw[o9]
   by_cases e:aI (ai xs j)=u
   ·rw[if_pos e,if_pos ⟨e,by rw[h.lJ.sL];omega⟩]
   ·rw[if_neg e,if_neg (λ k=>e k.1)]
 have g:∀u,0<=ai iI.pl u↔0<=ai (s1.pl.set (aI (ai xs j)) (s1.ord.length:Int)) u:=hO.same;have l:iI.c={s.c with val:=zero s.c.val (xs.take (j+1)),j9:=tf s.c.j9 (xs.take (j+1))}:=by rw[<-Gf h d b,he];rfl
 refine⟨l,by rw[he];exact h.act,by rw[he];exact h.aW,by rw[he];exact h.ci,by rw[he];exact h.aJ,by rw[he];exact h.aD,by rw[he];exact h.aK,by rw[he];exact h.nl,by rw[he];exact h.jg,
  by rw[he];show(s1.bH.set _ _).length=_;rw[u_];exact h.nE,
  by rw[he];show jr (s1.bH.set _ _) 0=_;rw[zS,if_neg (by omega)];exact h.oV,?_,λ v m=>?_,λ x hm=>?_⟩
 · have:=hO.lJ;have e:(((s1.uA (aI (ai xs j)) b).pY (aI (ai xs j)) (s1.ord.length:Int)).vD (aI (ai xs j):Int)).c.n=s.c.n:=by show s1.c.n=_;rw[h.c]
   rwa[e] at this
 · rw[g,f];split
   ·omega
   ·exact h.yT v m
 · rw[yY d] at hm;rw[g,f];split
   ·omega
   ·rename_i i;rcases List.mem_append.1 hm with hm|hm
    ·exact h.Dz x hm
    ·rw[List.mem_singleton.1 hm] at i;exact absurd rfl i
def an.Ad(s:an)(m level:Nat):an:={s with c:={s.c with av:=s.c.av.take m,st:=s.c.st.take level,ag:=m}}
theorem p4.done{level:Nat}(h:p4 s (s.c.av.drop (gO s.c.st level)) (s.c.av.drop (gO s.c.st level)).length s1):aY level s (s1.Ad (gO s.c.st level) level):=by
 have d:(s1.Ad (gO s.c.st level) level).c=mE s.c level:=by
  show({s1.c with av:=s1.c.av.take _,st:=s1.c.st.take _,ag:=_}:Core)=_;rw[h.c,List.take_length];rfl
 refine⟨d,h.aJ,h.aD,h.aK,h.nl,h.jg,h.ci,h.aW,h.yT,λ v h1 g e=>?_⟩;rw[d] at e;have b:ai (zero s.c.val (s.c.av.drop (gO s.c.st level))) v=0:=e;rw[yF] at b;split at b
 ·rename_i hm;obtain⟨x,f,rfl⟩:=d_.1 hm;exact Or.inr (h.Dz x (by rw[List.take_length];exact f))
 ·exact Or.inl b
theorem p4.rg{n:Nat}{A B:Int}{m level:Nat}(h:p4 s xs j s1)(r:mh n A B s)(f:1<=n):mh n A B (s1.Ad m level):=by
 have b:(s1.Ad m level).c.cl=s.c.cl:=by show s1.c.cl=_;rw[h.c]
 refine⟨by show s1.c.n=n;rw[h.c];exact r.gV,by have:=h.lJ;rwa[r.gV] at this,by show s1.act.length=_;rw[h.act];exact r.kM,λ v=>by show 0<=ai s1.act v/\ai s1.act v<=A;rw[h.act];exact r.pR v,by show ai s1.act 0=0;rw[h.act];exact r.a0,by show 1<=s1.aW;rw[h.aW];exact r.rG,by show s1.aW<=A;rw[h.aW];exact r.oU,h.nE.trans r.nE,h.oV.trans r.oV,by rw[b];show s1.ci.length=_;rw[h.ci];exact r.nX,λ d=>?_,λ d e=>?_⟩
 ·have:lE (s1.Ad m level) d=lE s d:=by show s1.ci.getD d _=_;rw[h.ci];rfl
  rw[this];exact r.qg d
 ·rw[b];exact r.kW d (by rw[<-h.aJ];exact e)
end
end
section
open Go.RowKit Go.Shelf
theorem Gg:(x_.info? 164).map (λ i=>(i.zero,i.size,i.bytes))=some (some (.pointer none),1,8):=by kernel_rfl
structure rH(w:World)(A:Option Addr)(m c:Nat)(ah:List Value):Prop where
 len:ah.length=m
 cells:0<m->∃b off,A=some ⟨b,off,none⟩/\∀j u,ah[j]? =some u->w.cell? ⟨b,off+j,none⟩=some u
 ptr:∀u∈ah,∃p,u=.pointer p
theorem rH.one{p:Option Addr}(h:w.cell? ⟨b,0,none⟩=some (.pointer p)):rH w (some ⟨b,0,none⟩) 1 1 [.pointer p]:=
 ⟨rfl,λ _=>⟨b,0,rfl,λ j u c=>by
  have:j=0:=by have:=(h_.1 c).1;simpa using this
  subst this;simp only[Zi,Z7] at c;subst c;exact h⟩,λ u hu=>⟨p,by simpa using hu⟩⟩
theorem DA(w:World)(ty:TypeId)(base:Nat)(v:Value)(n:Nat)(xs:List Value)(f:w.ownsRow base 164 1 v n xs)
  (A:Option Addr) (m c:Nat) (e:List Value) (d:rH w A m c e) (o:(n+m)*8<=140737488355328) (q:base<=w.heap.size):
  ∃v' w',(Builtin.append_ #[160,160] ty #[v,.slice A m c]).run x_ w=.ok v' w'/\n9 w base 164 v (n+m) (xs++e) v' w':=by
 obtain⟨i0,i,r,s,t⟩:=info_parts Gg
 cases A with
 |none=>
  have hm:m=0:=by
   rcases Zv m with g|g
   ·exact g
   ·obtain⟨b,off,he,_⟩:=d.cells g;cases he
  subst hm;have y:e=[]:=b_ d.len;subst y;exact⟨v,w,CY Tryz.underlying160 w base ty i0 i v n 1 _ f c,by simpa using f,World.grownBy.refl w _,.inl rfl⟩
 |some k=>
  have z:∀j u,e[j]? =some u->w.cell? (k.add j)=some u:=by
   intro j u l;have F:j<m:=by have:=(h_.1 l).1;simpa[d.len] using this
   obtain⟨b,off,he,B⟩:=d.cells (by omega);injection he with he
   subst he;rw[Addr.add_lit];exact B j u l
  obtain⟨v',w',h1,C,D,_,E⟩:=run_append_own_at (P:=x_) w base 160 ty 164 i0 (.pointer none) 1 8 Tryz.underlying160 i r s t rfl (by decide) v n _ f k m c e (by rw[d.len,Nat.mul_one]) z (by intro u hu;obtain⟨p,rfl⟩:=d.ptr u hu;rfl) (by unfold maxLen;omega) o q;exact⟨v',w',h1,C,D,E⟩
theorem Gh{rest:List Oper}(d:o.guard=none)(s x:Operand)
  (e:o.op=.call {callee:=.builtin .append,args:= #[s,x],argTypes:= #[160,160]}) (base:Nat) (v:Value) (n:Nat) (xs:List Value) (hs:a.eval s=v) (f:w.ownsRow base 164 1 v n xs)
  (A:Option Addr) (m c:Nat) (b:List Value) (g:a.eval x=.slice A m c) (i:rH w A m c b) (j:(n+m)*8<=140737488355328) (k:base<=w.heap.size)
  (h:∀v' w',n9 w base 164 v (n+m) (xs++b) v' w'->wpList x_ ops Q rest (a.put o.dst v') w'):
  wpList x_ ops Q (o::rest) a w:=by
 obtain⟨v',w',h1,l⟩:=DA w o.type base v n xs f A m c b i j k;refine wpList_plain d λ K p=>?_
 unfold Oper.wp;simp only[execOp,e,resolve,invoke,builtin,Z4,Z5,Zt,List.map_toArray,Z3,List.map_nil,hs,g,h1];exact p _ _ (h v' w' l)
section
variable {K:Nat->Prop}{base:Nat}{w gb W:World}{G:Nat}{hs:Nat->aq}{cb:Nat->Nat}{s:an}
theorem j5.x2{de:List Value}{cls:Nat->List Value}{n:Nat}{X:Nat->List Value}(h:j5 base w G hs cb de cls n X){r g:Nat}(f:(hs r).b=some g):(hs r).n<=(hs r).c:=by
 obtain⟨_,i⟩:=h.rows.row r;rcases i with⟨d,_⟩|⟨j,k,cur,e,_,_,l,_⟩
 ·have:=(h.rows.form f).1;unfold aq.v at d;rw[this] at d
  cases d
 ·unfold aq.v at e;injection e with _ _ e
  omega
theorem aP.KN(h:aP K base w G hs cb s){v':Value}{x:Int}(c:n9 w base 3 (hs 7).v (s.ord.length+1) ((s.ord++[x]).map (Value.int .i64)) v' gb):
  ∃h':aq,v'=h'.v/\h'.n=s.ord.length+1/\gb.cell? ⟨G,10,none⟩=some (hs 7).v/\gb.frozen? ⟨G,10,none⟩=false/\aP K base (gb.setCell ⟨G,10,none⟩ v') G (iH hs 7 h') cb (s.vD x)/\aF K w (gb.setCell ⟨G,10,none⟩ v'):=by
 obtain⟨f,b,i⟩:=c;obtain⟨a1,a2⟩:=h.e.after (r:=7) (by rw[<-aq.own];exact b) 10;obtain⟨h',rfl,j,k,l,m⟩:=j5.app h.e h.s (r:=7) f b i;refine⟨h',rfl,j,by rw[a1];exact h.e.kA rfl,a2,⟨?_,l.more (kK gb G 10 _).size⟩,m.trans (aF.set G 10 _ h.s.g)⟩;refine(k.field 10 h'.v).eq rfl rfl rfl (λ d _=>(we hs s (by omega) _ d).symm) rfl (λ r=>?_);rw[v8 hs cb _ (by omega)]
 by_cases e:r=7
 ·subst e;rw[jC];rfl
 ·rw[aV _ _ e];simp only[cont,if_neg e,an.vD]
theorem aP.Gi(h:aP K base w G hs cb s){v':Value}{x:Nat}(f:n9 w base 3 (hs 5).v (s.c.st.length+1) (qo (s.c.st++[x])) v' gb):
  ∃h':aq,v'=h'.v/\h'.n=s.c.st.length+1/\gb.cell? ⟨G,6,none⟩=some (hs 5).v/\gb.frozen? ⟨G,6,none⟩=false/\aP K base (gb.setCell ⟨G,6,none⟩ v') G (iH hs 5 h') cb (s.Ge x)/\aF K w (gb.setCell ⟨G,6,none⟩ v'):=by
 obtain⟨i,b,j⟩:=f;obtain⟨a1,a2⟩:=h.e.after (r:=5) (by rw[<-aq.own];exact b) 6;obtain⟨h',rfl,k,l,m,o⟩:=j5.app h.e h.s (r:=5) i b j;refine⟨h',rfl,k,by rw[a1];exact h.e.kA rfl,a2,⟨?_,m.more (kK gb G 6 _).size⟩,o.trans (aF.set G 6 _ h.s.g)⟩;refine(l.field 6 h'.v).eq rfl rfl rfl (λ d _=>(we hs s (by omega) _ d).symm) rfl (λ r=>?_);rw[v8 hs cb _ (by omega)]
 by_cases e:r=5
 ·subst e;rw[jC];rfl
 ·rw[aV _ _ e];simp only[cont,if_neg e,an.Ge]
theorem aP.Gj(h:aP K base w G hs cb s){v':Value}{x:Nat}(c:n9 w base 164 (hs 10).v (s.aJ.length+1) (kU cb (s.aJ++[x])) v' gb):
  ∃h':aq,v'=h'.v/\h'.n=s.aJ.length+1/\gb.cell? ⟨G,13,none⟩=some (hs 10).v/\gb.frozen? ⟨G,13,none⟩=false/\aP K base (gb.setCell ⟨G,13,none⟩ v') G (iH hs 10 h') cb (s.uW x)/\aF K w (gb.setCell ⟨G,13,none⟩ v'):=by
 obtain⟨f,b,i⟩:=c;obtain⟨a1,a2⟩:=h.e.after (r:=10) (by rw[<-aq.own];exact b) 13;obtain⟨h',rfl,j,k,l,m⟩:=j5.app h.e h.s (r:=10) f b i;refine⟨h',rfl,j,by rw[a1];exact h.e.kA rfl,a2,⟨?_,l.more (kK gb G 13 _).size⟩,m.trans (aF.set G 13 _ h.s.g)⟩;refine(k.field 13 h'.v).eq rfl rfl rfl (λ d _=>(we hs s (by omega) _ d).symm) rfl (λ r=>?_);rw[v8 hs cb _ (by omega)]
 by_cases e:r=10
 ·subst e;rw[jC];rfl
 ·rw[aV _ _ e];simp only[cont,if_neg e,an.uW]
end
end
section
open Go.RowKit Go.Shelf
def KO(K:Nat->Prop)(base:Nat)(w:World)(G:Nat)(cb:Nat->Nat)(n:Nat)(A B:Int)(level:Nat)(s:an)(e:Ending)(w':World):Prop:=
 e=.returned (.tuple #[])/\∃hs' s',aY level s s'/\mh n A B s'/\aP K base w' G hs' cb s'/\aF K w w'
theorem Gk(h:aP K base w G hs cb s)(r:mh n A B s)(T:jU s.c)(b9:n<=60000)(level:Nat)(hl:level<s.c.st.length)(b':s.c.st.length<=1000000)(ca:0<s.c.av.length):
  Calls x_ 147 #[.pointer (some ⟨G,0,none⟩),.int .i64 level] w (KO K base w G cb n A B level s):=by
 obtain⟨from_,az⟩:∃m,gO s.c.st level=m:=⟨_,rfl⟩
 have bh:from_<=s.c.av.length:=by rw[<-az];exact T.oI level hl
 have aK:=T.len;rw[r.gV] at aK;obtain⟨g5,aL,bj,f5⟩:=h.e.lN 6 5 rfl h.e.jZ (by omega);have c5:=h.e.FU aL hl;rw[az] at c5;have H:=U h;have C:=U r;have aM:=U T;have Z:=U aL;have cc:¬(s.c.st.length:Int)<=(level:Int):=by omega
 have cd:(level:Int)<(s.c.st.length:Int):=by omega
 obtain⟨g4,aa,bK,f4⟩:=h.e.lN 5 4 rfl h.e.j8 (by omega);have bk:=h.e.x2 aa;rw[h.e.j8] at bk;obtain⟨c4,D⟩:∃c4,(hs 4).c=c4:=⟨_,rfl⟩
 rw[D] at bK bk;have cf:(from_:Int)<=(s.c.av.length:Int):=by omega
 have cg:(s.c.av.length:Int)<=(c4:Int):=by omega
 have u:=U (z_ az (z_ bh aK));have ak:=U aa;clear h r T aL f5 f4 aa az bh aK;go_enter Tryz.func147,Tryz.ntmps147
 go_wp2_with fail
 case inr hcf=>
  generalize hm:s.c.av.length-from_=m;have ab:=U hm;clear hm
  go_loopw [6,7,29] (λ _ _ Q W=>∃(k:Nat)(l:Nat->aq)(s1:an),k<=m/\Q=.int .i64 k/\p4 s (s.c.av.drop from_) k s1/\aP K base W G l cb s1/\aF K w W/\∀r,r≠7->l r=hs r) (λ _ _ Q _=>m-(intOf Q).toNat)
  case atStart=>exact⟨0,hs,s,by omega,rfl,p4.start (C.o.gV▸C.o.lJ),H.o,aF.refl,λ _ _=>rfl⟩
  case round=>
   obtain⟨k,l,s1,hk,rfl,al,I,hF,hH⟩:=hrel;have E:=U I;have F:=U hF;have j:=U al;have L:=U hH;clear I hF al hH
   by_cases aO:k<m
   ·have bl:(k:Int)<(m:Int):=by omega
    have aA:=U aO;have ch:k<60000:=by have:=u.o;have:=ab.o;omega
    obtain⟨bL,bM,bN⟩:=u.o;have hm:=ab.o;have aB:from_+k<s.c.av.length:=by omega
    have aQ:k<(s.c.av.drop from_).length:=by rw[Zp];omega
    have bn:ai (s.c.av.drop from_) k=ai s.c.av (from_+k):=by
     rw[nC aQ,nC aB,List.getElem_drop]
    have y:s1.c.av=s.c.av:=by rw[j.o.c]
    have ad:s.c.n=n:=C.o.gV;obtain⟨x,aC⟩:∃x,ai s.c.av (from_+k)=x:=⟨_,rfl⟩
    have aR:gF s.c.n x:=by rw[<-aC];exact aM.o.lit _ (lY aB)
    obtain⟨v,aD⟩:∃v:Nat,aI x=v:=⟨_,rfl⟩
    have bo:1<=v/\v<=n:=by have:=aR;unfold gF at this;rw[aD,ad] at this;exact this
    have cj: -60000<=x/\x<=60000:=by unfold aI at aD;omega
    have aa:(l 4).b=some g4:=by rw[L.o 4 (by omega)];exact ak.o
    have c1:=E.o.e.z8 aa (k:=from_+k) (by rw[y];exact aB);rw[y,aC] at c1;have aT:s1.bH.length=n+1:=j.o.nE.trans C.o.nE;have aU:s1.c.val.length=n+1:=by rw[j.o.c];show(zero s.c.val _).length=_;rw[De,aM.o.rP,ad]
    have aW:s1.c.j9.length=n+1:=by rw[j.o.c];show(tf s.c.j9 _).length=_;rw[Df,aM.o.pe,ad]
    have bp:s1.pl.length=n+1:=by have:=j.o.lJ.sL;rw[ad] at this;exact this
    obtain⟨g9,ao,bO,f9⟩:=E.o.e.lN 12 9 rfl (E.o.e.jI.trans aT) (by omega);obtain⟨g1,ar,bP,f1⟩:=E.o.e.lN 2 1 rfl (E.o.e.jT.trans aU) (by omega);obtain⟨g3,au,bQ,f3⟩:=E.o.e.lN 4 3 rfl (E.o.e.nD.trans aW) (by omega);have d9:=E.o.e.FV ao (k:=v) (by omega);have d1:=E.o.e.z7 ar (k:=v) (by omega);have d3:=E.o.e.yO au (k:=v) (by omega);obtain⟨pa,bq⟩:∃pa,q3 cb (mw s1.c.j9 v)=.pointer pa:=by cases mw s1.c.j9 v with|none=>exact⟨_,rfl⟩|some d=>exact⟨_,rfl⟩
    rw[bq] at d3;have bR:=f9 v;have bS:=f1 v;have bT:=f3 v;have br:g9≠g1:=E.o.e.wX (r:=9) (r':=1) (by omega) ao ar;have bs:g9≠g3:=E.o.e.wX (r:=9) (r':=3) (by omega) ao au;have n13:g1≠g3:=E.o.e.wX (r:=1) (r':=3) (by omega) ar au;have n19:=br.symm;have n39:=bs.symm;have n31:=n13.symm;have aS:(v:Int)<((n+1:Nat):Int):=by omega
    have aX:=U ao;have bt:=U ar;have bU:=U au;have f:=U (z_ aC (z_ aD (z_ bn (z_ aR aQ))));have M:=U (z_ aT (z_ aU (z_ aW (z_ bp ad))));have N:=U bo;clear ao ar au aa f9 f1 f3 aC aD bn aR aQ aT aU aW bp ad bo bL bM bN hm aB y bq
    go_upto_region 6 with(go_at_call 97;refine(sM x _ (by omega) (by omega)).mono ?_;rintro e w1 ⟨rfl,rfl⟩;rw[f.o.2.1])
    go_wp2_with fail
    go_region
    generalize bV:decide (0<x)=b;have z:=((E.o.z6 aX.o v b).1.xW bt.o v 0).1.z1 bU.o v none;have aw:=U (F.o.trans ((((E.o.z6 aX.o v b).2.trans (((E.o.z6 aX.o v b).1.xW bt.o v 0).2.trans z.2)).trans aF.drew)));have z:bF (aP K base ((((wr.setCell ⟨g9,v,none⟩ (.bool b)).setCell ⟨g1,v,none⟩ (.int .i8 0)).setCell ⟨g3,v,none⟩ (.pointer none)).drew) G l cb (s1.uA v b)):=U z.1.drew;have aw:bF (aF K w ((((wr.setCell ⟨g9,v,none⟩ (.bool b)).setCell ⟨g1,v,none⟩ (.int .i8 0)).setCell ⟨g3,v,none⟩ (.pointer none)).drew)):=aw;generalize (((wr.setCell ⟨g9,v,none⟩ (.bool b)).setCell ⟨g1,v,none⟩ (.int .i8 0)).setCell ⟨g3,v,none⟩ (.pointer none)).drew=bu at z aw;clear bO bP bQ d9 d1 d3 bR bS bT br bs n13 n19 n39 n31 c1 bV;obtain⟨g8,ae,aY,f8⟩:=z.o.e.lN 11 8 rfl (z.o.e.n8.trans M.o.2.2.2.1) (by omega);have d8:=z.o.e.wY ae (k:=v) (by show v<s1.pl.length;have:=M.o.2.2.2.1;have:=N.o;omega);rw[show(s1.uA v b).pl=s1.pl from rfl] at d8;obtain⟨pv,aZ⟩:∃pv,ai s1.pl v=pv:=⟨_,rfl⟩
    rw[aZ] at d8;have bW:=f8 v;have bX:=U ae;have rH:=U aZ;clear ae f8 aZ
    by_cases hp:0<=pv
    ·have bw:¬pv<0:=by omega
     have aE:=U hp;clear hp
     go_wp2_with fail
     go_roundw
     case rel=>exact⟨k+1,l,_,by have:=aA.o;omega,by go_num,(by
       have:=p4.stay (b:=b) j.o f.o.2.2.2.2 (by rw[f.o.2.2.1,f.o.1,f.o.2.1];exact N.o.1) (by rw[f.o.2.2.1,f.o.1,f.o.2.1,rH.o];exact aE.o);rw[f.o.2.2.1,f.o.1,f.o.2.1] at this;exact this),z.o,aw.o,L.o⟩
     case measure=>have:=aA.o;simp[intOf];omega
    ·have bw:pv<0:=by omega
     have aE:=U bw;clear hp;obtain⟨R,n7,S,aG⟩:∃R n7 S,l 7=⟨R,n7,S⟩:=⟨_,_,_,rfl⟩
     obtain⟨i,aH⟩:∃i,s1.ord.length=i:=⟨_,rfl⟩
     have a6:n7=i:=by have:=z.o.e.n7;rw[aG] at this;exact this.trans aH
     have a7:bu.cell? ⟨G,10,none⟩=some (.slice R i S):=by have:=z.o.e.kA (k:=10) (v:=(l 7).v) rfl;rw[aG,a6] at this;exact this
     have bx:i<=n:=by have:=j.o.lJ.len;rw[aH,M.o.2.2.2.2] at this;exact this
     have q:=U (z_ aG (z_ a6 (z_ aH bx)));clear aG a6 aH bx
     go_wp2_with fail
     go_region
     have af:=z.o.xX bX.o v (i:Int);have bz:=U (aw.o.trans (af.2.trans aF.drew));have af:=U af.1.drew;generalize (bu.setCell ⟨g8,v,none⟩ (.int .i64 (i:Int))).drew=ax at af bz;clear aY d8 bW a7;have a7:ax.cell? ⟨G,10,none⟩=some (.slice R i S):=by have:=af.o.e.kA (k:=10) (v:=(l 7).v) rfl;rw[q.o.1,q.o.2.1] at this;exact this
     have aJ:=U (af.o.below (bg ax (.cells #[.int .i64 (v:Int)] 3)));have bA:(ax.alloc (.cells #[.int .i64 (v:Int)] 3)).ownsRow base 3 1 (.slice R i S) i (s1.ord.map (Value.int .i64)):=by have:=aJ.o.1.e.rows.row 7;rw[q.o.1,q.o.2.1] at this;exact this
     have bY:=U bA;have bZ:=U aJ.o.1.e.lt;have bB:(l 7).v=.slice R i S:=by rw[q.o.1,q.o.2.1];rfl
     have b0:=U bB;clear bA bB
     go_upto_region 10 with(at_builtin;refine vp rfl (.tmp 78) (.tmp 80) rfl base (.slice R i S) i s1.ord rfl bY.o (some ⟨ax.heap.size,0,none⟩) 1 1 [(v:Int)] rfl (aN.lit ax [(v:Int)] 1 _ rfl rfl (by omega)) (by have:=q.o;omega) (Nat.le_of_lt bZ.o) ?_;intro v9 gb bC;obtain⟨⟨A',b1,c'⟩,b2,bD,bj,f5,O,ag⟩:=aP.KN (s:=(s1.uA v b).pY v (i:Int)) (x:=(v:Int)) aJ.o.1 (by rw[b0.o];rw[show((s1.uA v b).pY v (i:Int)).ord.length=i from q.o.2.2.1];exact bC);obtain rfl:b1=i+1:=bD.trans (by rw[show((s1.uA v b).pY v (i:Int)).ord.length=i from q.o.2.2.1]);obtain rfl:v9=.slice A' (i+1) c':=b2)
     have ag:=U (bz.o.trans (aJ.o.2.trans ag));have O:bF (aP K base (gb.setCell ⟨G,10,none⟩ (.slice A' (i+1) c')) G (iH l 7 ⟨A',i+1,c'⟩) cb (((s1.uA v b).pY v (i:Int)).vD (v:Int))):=U O;have ag:bF (aF K w (gb.setCell ⟨G,10,none⟩ (.slice A' (i+1) c'))):=ag;generalize gb.setCell ⟨G,10,none⟩ (.slice A' (i+1) c')=ck at O ag;clear a7 bj f5 bD bC;have ah:mb s.c.n (s1.ord++[(v:Int)]) (s1.pl.set v (i:Int)):=by
      have:=j.o.push (by rw[f.o.2.2.1,f.o.1,f.o.2.1];exact N.o.1) (by rw[f.o.2.2.1,f.o.1,f.o.2.1,M.o.2.2.2.2];exact N.o.2) (by rw[f.o.2.2.1,f.o.1,f.o.2.1,rH.o];exact aE.o);rw[f.o.2.2.1,f.o.1,f.o.2.1,q.o.2.2.1] at this;exact this
     obtain⟨iI,P⟩:∃iI,iI=((s1.uA v b).pY v (i:Int)).vD (v:Int):=⟨_,rfl⟩
     rw[<-P] at O;have j8:iI.c.n=n:=by rw[P];show s1.c.n=n;rw[j.o.c];exact M.o.2.2.2.2
     have ah:mb iI.c.n iI.ord iI.pl:=by rw[j8,P,<-M.o.2.2.2.2];exact ah
     have a4:iI.act.length=iI.c.n+1:=by rw[j8,P];show s1.act.length=_;rw[j.o.act];exact C.o.kM
     have bE:iI.ord.length=i+1:=by rw[P];show(s1.ord++[_]).length=_;rw[w_,q.o.2.2.1];rfl
     have bG:ai iI.pl v=i:=by rw[P];show ai (s1.pl.set v _) v=_;rw[o9,if_pos ⟨rfl,by have:=M.o.2.2.2.1;have:=N.o;omega⟩]
     obtain⟨cm,ae,aY,f8⟩:=O.o.e.lN 11 8 rfl (O.o.e.n8.trans ah.sL) (by omega);rw[j8] at aY;have d8:=O.o.e.wY ae (k:=v) (by rw[ah.sL,j8];have:=N.o;omega);rw[bG] at d8;have aj:=U (z_ P (z_ j8 (z_ ah (z_ a4 bE))));clear P j8 ah a4 bE bG f8 ae
     go_wp2_with (go_at_call 187;refine(Dx O.o aj.o.2.2.1 aj.o.2.2.2.1 (by have:=aj.o.2.1;omega) i (by have:=aj.o.2.2.2.2;omega) (by have:=aj.o.2.2.2.2;have:=q.o;omega)).mono ?_;rintro e cn ⟨rfl,bI,a8,a',ba⟩;have a':=U a';have ba:=U ba;have a8:=U a8)
     go_roundw
     case rel=>exact⟨k+1,_,bI,by have:=aA.o;omega,by go_num,(by
       have:=p4.back (b:=b) (iI:=bI) j.o f.o.2.2.2.2 (by rw[f.o.2.2.1,f.o.1,f.o.2.1];exact N.o.1) (by rw[f.o.2.2.1,f.o.1,f.o.2.1,M.o.2.2.2.2];exact N.o.2) (by rw[f.o.2.2.1,f.o.1,f.o.2.1,rH.o];exact aE.o);rw[f.o.2.2.1,f.o.1,f.o.2.1,q.o.2.2.1] at this;refine this ?_;rw[<-aj.o.1];exact a8.o),a'.o,ag.o.trans ba.o,λ r bJ=>by rw[aV _ _ bJ];exact L.o r bJ⟩
     case measure=>have:=aA.o;simp[intOf];omega
   ·obtain rfl:k=m:=by omega
    have bl:¬(k:Int)<(k:Int):=by omega
    go_upto_region 12 with fail
    have p:l 4=hs 4:=L.o 4 (by omega);have t:l 5=hs 5:=L.o 5 (by omega);have y:s1.c.av.length=s.c.av.length:=by rw[j.o.c]
    have V:s1.c.st.length=s.c.st.length:=by rw[j.o.c]
    have bb:=E.o.e.rE 5 (r:=4) (by rw[p];exact ak.o) (E.o.e.j8.trans y) rfl;have bc:=E.o.e.rE 6 (r:=5) (by rw[t];exact Z.o) (E.o.e.jZ.trans V) rfl;have ay:∃v,wr.cell? ⟨G,7,none⟩=some v:=⟨_,E.o.e.kA (k:=7) rfl⟩
    obtain⟨b3,ay⟩:=ay;rw[p,D] at bb;rw[t] at bc;have b4:(level:Int)<=((hs 5).c:Int):=by have:=H.o.e.x2 Z.o;rw[H.o.e.jZ] at this;omega
    have b5:(from_:Int)<=(c4:Int):=by omega
    have b6:=E.o.e.free 5;have b7:=E.o.e.free 6;have b8:=E.o.e.free 7;have X:=E.o.F7 (g:=g4) (m:=from_) (by rw[p];exact ak.o) (by rw[y];exact u.o.2.1);have Y:=X.1.F8 (g:=g5) (m:=level) (by rw[aV _ _ (by omega),t];exact Z.o) (by show level<=s1.c.st.length;rw[V];omega);have J:=Y.1.BG from_;rw[p,D,aV _ _ (show(5:Nat)≠4 by omega),t] at J;have hF:=U (F.o.trans ((by have:=X.2;rw[p,D] at this;exact this:aF K wr _).trans ((by have:=Y.2;rw[p,D,aV _ _ (show(5:Nat)≠4 by omega),t] at this;exact this:aF K _ _).trans (J.2.trans aF.drew))));have I:=U J.1.drew;clear X Y J p t y V
    go_wp2_with fail
    go_region
    go_wp2;go_end0;refine⟨rfl,_,_,?_,?_,I.o,hF.o⟩
    ·have bd:k=(s.c.av.drop from_).length:=by rw[Zp];exact ab.o.symm
     have bf:p4 s (s.c.av.drop (gO s.c.st level)) (s.c.av.drop (gO s.c.st level)).length s1:=by rw[u.o.1,<-bd];exact j.o
     have:=bf.done;rw[u.o.1] at this;exact this
    ·exact j.o.rg (m:=from_) (level:=level) C.o (by have:=u.o;omega)
 case inl hcf=>
  subst h;generalize hm:s.c.av.length-c4=m;have ab:=U hm;clear hm
  go_loopw [6,7,29] (λ _ _ Q W=>∃(k:Nat)(l:Nat->aq)(s1:an),k<=m/\Q=.int .i64 k/\p4 s (s.c.av.drop c4) k s1/\aP K base W G l cb s1/\aF K w W/\∀r,r≠7->l r=hs r) (λ _ _ Q _=>m-(intOf Q).toNat)
  case atStart=>exact⟨0,hs,s,by omega,rfl,p4.start (C.o.gV▸C.o.lJ),H.o,aF.refl,λ _ _=>rfl⟩
  case round=>
   obtain⟨k,l,s1,hk,rfl,al,I,hF,hH⟩:=hrel;have E:=U I;have F:=U hF;have j:=U al;have L:=U hH;clear I hF al hH
   by_cases aO:k<m
   ·exact absurd aO (by have:=ab.o;have:=u.o;omega)
   ·obtain rfl:k=m:=by omega
    have bl:¬(k:Int)<(k:Int):=by omega
    go_upto_region 12 with fail
    have p:l 4=hs 4:=L.o 4 (by omega);have t:l 5=hs 5:=L.o 5 (by omega);have y:s1.c.av.length=s.c.av.length:=by rw[j.o.c]
    have V:s1.c.st.length=s.c.st.length:=by rw[j.o.c]
    have bb:=E.o.e.rE 5 (r:=4) (by rw[p];exact ak.o) (E.o.e.j8.trans y) rfl;have bc:=E.o.e.rE 6 (r:=5) (by rw[t];exact Z.o) (E.o.e.jZ.trans V) rfl;have ay:∃v,wr.cell? ⟨G,7,none⟩=some v:=⟨_,E.o.e.kA (k:=7) rfl⟩
    obtain⟨b3,ay⟩:=ay;rw[p,D] at bb;rw[t] at bc;have b4:(level:Int)<=((hs 5).c:Int):=by have:=H.o.e.x2 Z.o;rw[H.o.e.jZ] at this;omega
    have b5:(c4:Int)<=(c4:Int):=by omega
    have b6:=E.o.e.free 5;have b7:=E.o.e.free 6;have b8:=E.o.e.free 7;have X:=E.o.F7 (g:=g4) (m:=c4) (by rw[p];exact ak.o) (by rw[y];exact u.o.2.1);have Y:=X.1.F8 (g:=g5) (m:=level) (by rw[aV _ _ (by omega),t];exact Z.o) (by show level<=s1.c.st.length;rw[V];omega);have J:=Y.1.BG c4;rw[p,D,aV _ _ (show(5:Nat)≠4 by omega),t] at J;have hF:=U (F.o.trans ((by have:=X.2;rw[p,D] at this;exact this:aF K wr _).trans ((by have:=Y.2;rw[p,D,aV _ _ (show(5:Nat)≠4 by omega),t] at this;exact this:aF K _ _).trans (J.2.trans aF.drew))));have I:=U J.1.drew;clear X Y J p t y V
    go_wp2_with fail
    go_region
    go_wp2;go_end0;refine⟨rfl,_,_,?_,?_,I.o,hF.o⟩
    ·have bd:k=(s.c.av.drop c4).length:=by rw[Zp];exact ab.o.symm
     have bf:p4 s (s.c.av.drop (gO s.c.st level)) (s.c.av.drop (gO s.c.st level)).length s1:=by rw[u.o.1,<-bd];exact j.o
     have:=bf.done;rw[u.o.1] at this;exact this
    ·exact j.o.rg (m:=c4) (level:=level) C.o (by have:=u.o;omega)
end
section
open Go.RowKit Go.Shelf
section
variable {K:Nat->Prop}{base:Nat}{w w' W:World}{G:Nat}{hs:Nat->aq}{cb:Nat->Nat}{s:an}
theorem BJ{s:an}{d:Nat}:s.ci.getD d ⟨false,0,0⟩=lE s d:=rfl
theorem aP.Ae(h:aP K base w G hs cb s){d:Nat}(b:d<s.c.cl.length):w.cell? ⟨cb d,0,none⟩=some (hs (kz d)).v/\w.cell? ⟨cb d,1,none⟩=some (.bool (lE s d).kT)/\w.cell? ⟨cb d,2,none⟩=some (.int .i64 (lE s d).aS)/\w.cell? ⟨cb d,3,none⟩=some (.int .i64 (lE s d).ac)/\∀k,w.frozen? ⟨cb d,k,none⟩=false:=by
 have:=h.e.cls d b;exact⟨by rw[this.cell];rfl,by rw[this.cell];rfl,by rw[this.cell];rfl,by rw[this.cell];rfl,λ k=>this.free k⟩
theorem aP.Gl(h:aP K base w G hs cb s){d:Nat}(f:d<s.c.cl.length)(i:s.ci.length=s.c.cl.length)(x:Int):aP K base (w.setCell ⟨cb d,3,none⟩ (.int .i64 x)) G hs cb (s.wZ d x)/\aF K w (w.setCell ⟨cb d,3,none⟩ (.int .i64 x)):=by
 refine⟨⟨(h.e.Ko f 3 (.int .i64 x)).eq rfl rfl rfl (λ e he=>?_) rfl (λ _=>rfl),h.s.more (kK w (cb d) 3 _).size⟩,aF.set (cb d) 3 _ (h.s.cl d f)⟩
 by_cases b:e=d
 ·subst b;rw[jC];unfold tU;rw[BJ,BJ,Ac,if_pos ⟨rfl,by omega⟩];rfl
 ·rw[aV _ _ b];unfold tU;rw[BJ,BJ,Ac,if_neg (λ g=>b g.1.symm)]
theorem iW.n10(h:iW base w G hs cb s):(hs 10).n=s.aJ.length:=by
 have h1:=h.rows.len 10;rw[show(cont hs cb s 10).length=s.aJ.length by simp[cont,kU],show nW 10=1 from rfl] at h1;omega
theorem iW.Gm(h:iW base w G hs cb s){g:Nat}(c:(hs 10).b=some g){k:Nat}(hk:k<s.aJ.length):w.cell? ⟨g,k,none⟩=some (.pointer (some ⟨cb (gO s.aJ k),0,none⟩)):=h.get c (by
 show(kU cb s.aJ)[k]? =_;rw[vz hk];simp[kU,hk,tj])
end
theorem Gn{l:List Nat}(h:k<l.length):gO l k∈l:=by rw[vz h];exact List.getElem_mem h
theorem KP(h:l/2=p):Z0 (l:Int) 2=(p:Int):=by rw[t_ (by omega)];omega
theorem wrap_small(p:Nat)(h:p<=65536):wrap64 (p:Int)=(p:Int):=by unfold wrap64;omega
theorem KQ(p:Nat)(h:p<=65536):wrap64 ((p:Int)-1)=(p:Int)-1:=by unfold wrap64;omega
theorem half_start(h:p=0\/p-1<l): -1<=(p:Int)-1/\(p:Int)-1<l:=by omega
structure Af(s:an)(A' B:Int)(k:Nat)(s1:an):Prop where
 eq:∃a,s1={s with act:=a}
 kM:s1.act.length=s.act.length
 jA:∀u,u<k->0<=ai s1.act u/\ai s1.act u<=A'
 ak:∀u,k<=u->ai s1.act u=ai s.act u
 a0:ai s1.act 0=0
structure Ag(s:an)(B:Int)(s1:an):Prop where
 eq:∃a,s1={s with ci:=a}
 kM:s1.ci.length=s.ci.length
 ci:∀d,(lE s1 d).kT=(lE s d).kT/\(lE s1 d).aS=(lE s d).aS/\0<=(lE s1 d).ac/\(lE s1 d).ac<=B
def KR(K:Nat->Prop)(base:Nat)(w:World)(G:Nat)(hs:Nat->aq)(cb:Nat->Nat)(n:Nat)(A' B:Int)(s:an)(e:Ending)(w':World):Prop:=
 e=.returned (.tuple #[])/\∃s',ou s s'/\mh n A' B s'/\aP K base w' G hs cb s'/\aF K w w'
theorem Af.step(h:Af s A' B k s1)(hk:k<s.act.length){x:Int}(c:0<=x)(h1:x<=A')(d:k=0->x=0):Af s A' B (k+1) (s1.qd k x):=by
 have b:∀u,ai (s1.qd k x).act u=if k=u then x else ai s1.act u:=λ u=>by
  show ai (s1.act.set k x) u=_;rw[o9]
  by_cases e:k=u
  ·rw[if_pos e,if_pos ⟨e,by rw[h.kM];exact hk⟩]
  ·rw[if_neg e,if_neg (λ f=>e f.1)]
 obtain⟨a,g⟩:=h.eq;refine⟨⟨s1.act.set k x,by rw[g];rfl⟩,by show(s1.act.set k x).length=_;rw[u_];exact h.kM,λ u hu=>?_,λ u hu=>?_,?_⟩
 ·rw[b];split
  ·exact⟨c,h1⟩
  ·exact h.jA u (by omega)
 ·rw[b,if_neg (by omega)];exact h.ak u (by omega)
 ·rw[b];split
  ·exact d (by omega)
  ·exact h.a0
theorem Ag.step(h:Ag s B s1)(d:Nat){x:Int}(b:0<=x)(h1:x<=B):Ag s B (s1.wZ d x):=by
 obtain⟨a,c⟩:=h.eq;refine⟨⟨(s1.wZ d x).ci,by rw[c];rfl⟩,by show(s1.ci.set _ _).length=_;rw[u_];exact h.kM,λ e=>?_⟩;rw[Ac];have:=h.ci e;split
 ·exact⟨this.1,this.2.1,b,h1⟩
 ·exact this
theorem KS{s2:an}(r:mh n A B s)(h1:Af s A' B s.act.length s1)(b:Ag s1 B s2){x:Int}(k:1<=x)(l:x<=A'){s3:an}(i:pZ (s2.wg x) s3):ou s s3/\mh n A' B s3:=by
 obtain⟨a,rfl⟩:=h1.eq;obtain⟨c,rfl⟩:=b.eq;have q:0<=A':=by omega
 have m:mh n A' B (({({s with act:=a}:an) with ci:=c}:an).wg x):=by
  refine⟨r.gV,r.lJ,h1.kM.trans r.kM,λ v=>?_,h1.a0,k,l,r.nE,r.oV,b.kM.trans r.nX,λ d=>?_,r.kW⟩
  ·rcases Zq v s.act.length with f|f
   ·exact h1.jA v f
   ·have e:=h1.ak v f;rw[Dv f] at e;have t:ai a v=0:=e;show 0<=ai a v/\ai a v<=A';omega
  ·have g:=b.ci d;have j:=r.qg d;have o:lE ({s with act:=a}:an) d=lE s d:=rfl;rw[o] at g;exact⟨g.2.2.1,g.2.2.2,by have:=g.2.1;have p:(lE (({({s with act:=a}:an) with ci:=c}:an).wg x) d).aS=(lE s d).aS:=this;rw[p];exact⟨j.2.2.1,j.2.2.2⟩⟩
 refine⟨?_,i.rg m⟩;refine ou.trans ?_ i.hk;exact⟨rfl,rfl,rfl,rfl,rfl,rfl,rfl,rfl,.refl _,b.kM,λ d=>⟨(b.ci d).1,(b.ci d).2.1⟩⟩
theorem Gp(h:aP K base w G hs cb s)(r:mh n A B s)(bH:n<=60000)(bs:s.aJ.length<=100000)(Y:A<=4398046511104)(bI:1<=A')(bJ:A/1024<=A')(bK:0<=B)(bL:B<=4611686018427387904):
  Calls x_ 188 #[.pointer (some ⟨G,0,none⟩)] w (KR K base w G hs cb n A' B s):=by
 have ax:=r.kM;obtain⟨g6,aY,bM,f6⟩:=h.e.lN 8 6 rfl (h.e.n6.trans ax) (by omega);have H:=U h;have l:=U r;have aj:=U aY;have aa:=U ax;clear h r aY f6 ax;go_enter Tryz.func188,Tryz.ntmps188
 go_wp2_with fail
 go_loopw [2,11] (λ _ rI W=>∃(k:Nat)(s1:an),k<=n+1/\rI=.int .i64 k/\Af s A' B k s1/\aP K base W G hs cb s1/\aF K w W) (λ _ rI _=>n+1-(intOf rI).toNat)
 case atStart=>exact⟨0,s,by omega,rfl,⟨⟨_,rfl⟩,rfl,λ u hu=>by omega,λ u hu=>rfl,l.o.a0⟩,H.o,aF.refl⟩
 case round=>
  obtain⟨k,s1,hk,rfl,aZ,N,hF⟩:=hrel;have E:=U N;have F:=U hF;have g:=U aZ;clear N hF aZ
  by_cases ay:k<n+1
  ·have bt:(k:Int)<((n+1:Nat):Int):=by omega
   have bN:=E.o.e.rE 8 aj.o (E.o.e.n6.trans (g.o.kM.trans aa.o)) rfl;have I:=g.o.ak k (j_ _);have T:=l.o.pR k;have a6:=l.o.a0;have c1:=E.o.e.yP aj.o (k:=k) (by rw[g.o.kM,aa.o];omega);rw[I] at c1;obtain⟨x,az⟩:∃x,ai s.act k=x:=⟨_,rfl⟩
   rw[az] at c1 T;have f6:=E.o.e.rows.free aj.o k;have Q:Z0 x 1024=x/1024:=t_ T.1;have ab:x/1024<=A':=by omega
   have ad:0<=x/1024:=by omega
   have R:k=0->x/1024=0:=λ e=>by subst e;rw[az] at a6;omega
   obtain⟨y,O⟩:∃y,x/1024=y:=⟨_,rfl⟩
   rw[O] at Q ab ad R;have aA:wrap64 y=y:=by unfold wrap64;omega
   have Z:=U (z_ ad (z_ ab (z_ R ay)));clear I a6 az R O ay
   go_wp2_with fail
   have J:=E.o.Bz aj.o k y;have bu:=g.o.step (k:=k) (by rw[aa.o];exact Z.o.2.2.2) Z.o.1 Z.o.2.1 Z.o.2.2.1;go_roundw
   case rel=>exact⟨k+1,_,by have:=Z.o;omega,by go_num,bu,J.1,F.o.trans J.2⟩
   case measure=>have:=Z.o;simp[intOf];omega
  ·obtain rfl:k=n+1:=by omega
   obtain⟨al,n10,aB,ao⟩:∃al n10 aB,hs 10=⟨al,n10,aB⟩:=⟨_,_,_,rfl⟩
   obtain⟨t,ar⟩:∃t,s.aJ.length=t:=⟨_,rfl⟩
   have aC:s1.aJ.length=t:=by obtain⟨a,f⟩:=g.o.eq;rw[f];exact ar
   have aD:n10=t:=by have:=E.o.e.n10;rw[ao] at this;exact this.trans aC
   have bw:wr.cell? ⟨G,13,none⟩=some (.slice al t aB):=by have:=E.o.e.kA (k:=13) (v:=(hs 10).v) rfl;rw[ao,aD] at this;exact this
   have bt:¬((n+1:Nat):Int)<((n+1:Nat):Int):=by omega
   rw[ar] at bs;have L:=U (z_ ao (z_ ar (z_ aC aD)));clear ao ar aC aD ay
   go_wp2_with fail
   go_loopw [4,29] (λ _ aE W=>∃(k:Nat)(s2:an),k<=t/\aE=.int .i64 k/\Ag s1 B s2/\aP K base W G hs cb s2/\aF K w W) (λ _ aE _=>t-(intOf aE).toNat)
   case atStart=>exact⟨0,s1,by omega,rfl,⟨⟨_,rfl⟩,rfl,λ d=>by
    obtain⟨a,f⟩:=g.o.eq;have:lE s1 d=lE s d:=by rw[f];rfl
    have ae:=l.o.qg d;rw[this];exact⟨rfl,rfl,ae.1,ae.2.1⟩⟩,E.o,F.o⟩
   case round=>
    obtain⟨j,s2,bO,rfl,a7,N,hF⟩:=hrel;have J:=U N;have a8:=U hF;have M:=U a7;clear N hF a7;have aG:s2.aJ=s.aJ:=by obtain⟨a,f⟩:=g.o.eq;obtain⟨b,C⟩:=M.o.eq;rw[C,f]
    have aH:s2.c.cl=s.c.cl:=by obtain⟨a,f⟩:=g.o.eq;obtain⟨b,C⟩:=M.o.eq;rw[C,f]
    have a':s2.ci.length=s2.c.cl.length:=by rw[aH,M.o.kM];obtain⟨a,f⟩:=g.o.eq;rw[f];exact l.o.nX
    by_cases au:j<t
    ·have bx:(j:Int)<(t:Int):=by omega
     obtain⟨g10,Y,ba,-⟩:=J.o.e.wV (r:=10) (m:=t) (by rw[L.o.1];exact L.o.2.2.2) (by omega);rw[L.o.1] at Y;have Y:al=some ⟨g10,0,none⟩:=Y;subst Y;have c1:=J.o.e.Gm ba (k:=j) (by rw[aG,L.o.2.1];exact au);obtain⟨d,aI⟩:∃d,gO s2.aJ j=d:=⟨_,rfl⟩
     have aK:d<s2.c.cl.length:=by rw[aH,<-aI,aG];exact l.o.kW _ (Gn (by rw[L.o.2.1];exact au))
     rw[aI] at c1;obtain⟨-,-,-,c4,f4⟩:=J.o.Ae aK;have T:=M.o.ci d;obtain⟨x,I⟩:∃x,(lE s2 d).ac=x:=⟨_,rfl⟩
     rw[I] at c4 T;have f43:=f4 3;have Q:Z0 x 1024=x/1024:=t_ T.2.2.1;have ab:x/1024<=B:=by omega
     have ad:0<=x/1024:=by omega
     obtain⟨y,O⟩:∃y,x/1024=y:=⟨_,rfl⟩
     rw[O] at Q ab ad;have aA:wrap64 y=y:=by unfold wrap64;omega
     have Z:=U (z_ ad (z_ ab (z_ aK (z_ a' au))));clear T I O au aI aK a' f4 aG aH ba
     go_wp2_with fail
     have D:=J.o.Gl Z.o.2.2.1 Z.o.2.2.2.1 y;have bz:=M.o.step d Z.o.1 Z.o.2.1;go_roundw
     case rel=>exact⟨j+1,_,by have:=Z.o;omega,by go_num,bz,D.1,a8.o.trans D.2⟩
     case measure=>have:=Z.o;simp[intOf];omega
    ·obtain rfl:j=t:=by omega
     have bx:¬(j:Int)<(j:Int):=by omega
     clear bw;have bb:s2.aW=s.aW:=by obtain⟨a,f⟩:=g.o.eq;obtain⟨b,C⟩:=M.o.eq;rw[C,f]
     obtain⟨x,I⟩:∃x,s.aW=x:=⟨_,rfl⟩
     have c9:=J.o.e.kA (k:=9) (v:=.int .i64 s2.aW) rfl;rw[bb,I] at c9;have f9:=J.o.e.free 9;have bA:1<=x:=by rw[<-I];exact l.o.rG
     have bB:x<=A:=by rw[<-I];exact l.o.oU
     have Q:Z0 x 1024=x/1024:=t_ (by omega);obtain⟨y,O⟩:∃y,x/1024=y:=⟨_,rfl⟩
     have bC:0<=y/\y<=A':=by omega
     rw[O] at Q;have aA:wrap64 y=y:=by unfold wrap64;omega
     clear bb I O bA bB
     go_upto_region 11 with fail
     obtain⟨z,R⟩:∃z,(if 1<y then y else 1)=z:=⟨_,rfl⟩
     rw[R];have bc:1<=z/\z<=A':=by rw[<-R];split<;>omega
     have D:=J.o.F9 z;have bd:=U (a8.o.trans D.2);have D:=U D.1;generalize wr.setCell ⟨G,9,none⟩ (.int .i64 z)=bD at D bd;clear R Q aA bC c9 f9;obtain⟨s3,V⟩:∃s3,s3=s2.wg z:=⟨_,rfl⟩
     rw[<-V] at D;have aL:mb n s3.ord s3.pl:=by obtain⟨a,f⟩:=g.o.eq;obtain⟨b,C⟩:=M.o.eq;rw[V,C,f];exact l.o.lJ
     have bf:s3.c.n=n:=by obtain⟨a,f⟩:=g.o.eq;obtain⟨b,C⟩:=M.o.eq;rw[V,C,f];exact l.o.gV
     have bg:s3.act.length=n+1:=by rw[V];show s2.act.length=_;obtain⟨b,C⟩:=M.o.eq;rw[C];exact g.o.kM.trans aa.o
     have aM:=aL.len;obtain⟨S,av⟩:∃S,s3.ord.length=S:=⟨_,rfl⟩
     rw[av] at aM;obtain⟨aN,n7,aO,aQ⟩:∃aN n7 aO,hs 7=⟨aN,n7,aO⟩:=⟨_,_,_,rfl⟩
     have bh:n7=S:=by have:=D.o.e.n7;rw[aQ] at this;exact this.trans av
     have bP:bD.cell? ⟨G,10,none⟩=some (.slice aN S aO):=by have:=D.o.e.kA (k:=10) (v:=(hs 7).v) rfl;rw[aQ,bh] at this;exact this
     obtain⟨p,hp⟩:∃p:Nat,S/2=p:=⟨_,rfl⟩
     have aw:p<=65536/\(p=0\/p-1<S):=by omega
     have Q:=KP hp;have bQ:=wrap_small p aw.1;have bR:=KQ p aw.1;have bj:=half_start aw.2;have P:=U (z_ hp (z_ V (z_ aL (z_ bf (z_ bg (z_ aM (z_ av bc)))))));have bk:=U bj;clear hp V aL bf bg aM av bc aQ bh aw bj
     go_wp2_with fail
     go_loopw [5] (λ af W=>∃(i:Int)(iI:an),af=.int .i64 i/\ -1<=i/\i<S/\pZ s3 iI/\aP K base W G hs cb iI/\aF K w W) (λ af _=>(intOf af+1).toNat)
     case atStart=>
      obtain⟨bl,aR,aS,ag,aT,bn,bo,Ah⟩:=P.o;exact⟨(p:Int)-1,s3,rfl,bk.o.1,bk.o.2,pZ.refl (by rw[ag];exact aS),D.o,bd.o⟩
     case round=>
      obtain⟨i,iI,rfl,bS,bT,hO,N,hF⟩:=hrel;have bp:=U N;have bq:=U hF;have ah:=U hO;clear N hF hO
      by_cases bU:0<=i
      ·obtain⟨m,rfl⟩:∃m:Nat,i=m:=⟨i.toNat,by omega⟩
       have bV:wrap64 ((m:Int)-1)=(m:Int)-1:=by have:=P.o;unfold wrap64;omega
       have X:bF (mb iI.c.n iI.ord iI.pl/\iI.act.length=iI.c.n+1/\iI.c.n<=65536/\m<iI.ord.length/\iI.ord.length<=65537):=U (by
        obtain⟨bl,aR,aS,ag,aT,bn,bo,Ah⟩:=P.o;have h1:=ah.o.ol;have ae:=ah.o.lJ;obtain⟨o,q,br⟩:=ah.o.eq;have bE:iI.c.n=n:=by rw[br];exact ag
        have bW:iI.act.length=n+1:=by rw[br];exact aT
        rw[ag] at ae;rw[bE];exact⟨ae,by omega,by omega,by omega,by omega⟩)
       go_wp2_with (go_at_call 194;refine(F6 bp.o X.o.1 X.o.2.1 X.o.2.2.1 m X.o.2.2.2.1 X.o.2.2.2.2).mono ?_;rintro e bX ⟨rfl,af,aU,aV,aX⟩;have aV:=U aV;have aX:=U aX;have aU:=U aU)
       go_roundw
       case rel=>exact⟨(m:Int)-1,af,by go_num,by omega,by omega,ah.o.trans aU.o,aV.o,bq.o.trans aX.o⟩
       case measure=>simp[intOf];omega
      ·have bG:i= -1:=by omega
       subst bG
       go_wp2_with fail
       go_end0;obtain⟨bl,aR,aS,ag,aT,bn,bo,Ah⟩:=P.o;have:=KS (s3:=iI) l.o (by have:=g.o;rwa[<-aa.o] at this) M.o Ah.1 Ah.2 (by rw[<-aR];exact ah.o);exact⟨rfl,iI,this.1,this.2,bp.o,bq.o⟩
end
section
open Go.RowKit Go.Shelf
def pS(B bk m:Nat)(W W':World):Prop:=(∀v,W.cell? ⟨B,0,none⟩=some v->W'.cell? ⟨B,0,none⟩=some v)/\∀(k:Nat)(v:Value),k<m->W.cell? ⟨bk,k,none⟩=some v->W'.cell? ⟨bk,k,none⟩=some v
theorem pS.refl(B bk m:Nat)(W:World):pS B bk m W W:=⟨λ _ h=>h,λ _ _ _ h=>h⟩
theorem pS.trans{B:Nat}{ji jD ki:World}(h:pS B bk m ji jD)(k:pS B bk m jD ki):pS B bk m ji ki:=⟨λ v e=>k.1 v (h.1 v e),λ j v b e=>k.2 j v b (h.2 j v b e)⟩
theorem pS.yZ{B:Nat}{row:Option Nat}(b:W.grownBy W' row)(h1:some B≠row)(c:some bk≠row):pS B bk m W W':=⟨λ v h=>b.cell h h1,λ k v _ h=>b.cell h c⟩
def others(l:List Int)(u:Int):List Int:=l.filter λ y=>y !=u
theorem KT{l:List Int}{u:Int}(hk:k<l.length):others (l.take (k+1)) u=if ai l k=u then others (l.take k) u else others (l.take k) u++[ai l k]:=by
 rw[yY hk];unfold others;rw[List.filter_append]
 by_cases h:ai l k=u
 ·rw[if_pos h];simp[h]
 ·rw[if_neg h];simp[h]
theorem Gq(l:List Int)(u:Int)(k:Nat):others (l.take k) u<+:others l u:=by
 unfold others;exact(List.take_prefix k l).filter _
theorem DB:∀args w,(callFunc 224 args).run x_ w=.ok (.enter 224 args) w:=enters_of Tryz.func224 (by kernel_rfl) rfl
theorem KU(F:Fence)(n:Nat)(H:F.fn 224)(I:F.round=none)(R:1<=n)(l w f b bk m J:Nat)(cl:List Int)(u:Int)(hl:cl.length=m)(hm:m<=1000000)(c y:List Int->World->Prop)
  (K:∀pre (x:Int) W,c pre W->(pre++[x])<+:others cl u->YieldAt F (n-1) x_ l #[.int .i64 x] W λ e W'=>
   (e=.returned (.bool true)/\c (pre++[x]) W'/\pS f bk m W W')\/(e=.returned (.bool false)/\y (pre++[x]) W'))
  (W:World) (c1:W.cell? ⟨w,0,none⟩=some (.pointer (some ⟨b,0,none⟩))) (c2:W.cell? ⟨f,0,none⟩=some (.int .i64 u)) (c3:W.cell? ⟨b,0,none⟩=some (.slice (some ⟨bk,0,none⟩) m J))
  (z:∀k,k<m->W.cell? ⟨bk,k,none⟩=some (.int .i64 (ai cl k))) (L:c [] W):
  CallsIn F n x_ 224 #[.func (.yield l) #[] #[],.pointer (some ⟨w,0,none⟩),.pointer (some ⟨f,0,none⟩)] W λ e W'=>(∃v,e=.returned v)/\
   ((∃ys,ys=others cl u/\c ys W')\/(∃pre,pre<+:others cl u/\y pre W')):=by
 have M:=U z;have A:=U hl;clear z hl;refine callsIn_of_wp Tryz.func224 rfl H ?_ I;simp only[Tryz.ntmps224,List.size_toArray,Zo,List.length_nil,Nat.reduceAdd,Nat.reduceSub,Array.replicate_succ,Array.replicate_zero,List.push_toArray,List.append_toArray,List.nil_append,List.cons_append]
 gi_wp2
 gi_loopw [11] (λ i wr=>∃k:Nat,k<=m/\i=.int .i64 k/\c (others (cl.take k) u) wr/\pS f bk m W wr) (λ i _=>m-(intOf i).toNat)
 case atStart=>exact⟨0,Zf _,rfl,by rw[Zw];exact L,pS.refl _ _ _ _⟩
 case round=>
  obtain⟨k,hk,rfl,B,j⟩:=hrel;have p:=U B;have q:=U j;have S:=j.1 _ c2;clear B j
  by_cases r:k<m
  ·have N:=q.o.2 k _ r (M.o k r);have s:k<cl.length:=by rw[A.o];exact r
   have d:=U (KT (u:=u) s);have T:n_.wrap ((k:Int)+1)=(k:Int)+1:=by rw[Zn];omega
   have V:(k:Int)<(m:Int):=by omega
   have X:=U s;obtain⟨x,C⟩:∃x,ai cl k=x:=⟨_,rfl⟩
   rw[C] at N d;clear C s
   by_cases he:x=u
   ·have O:(x !=u)=false:=by simp[he]
    have g:=U he;clear he
    gi_wp2
    refine⟨λ _ h=>(by cases h),?_⟩
    gi_wp2
    go_roundw
    case rel=>exact⟨k+1,by omega,by go_num,by rw[d.o,if_pos g.o];exact p.o,q.o⟩
    case measure=>simp[intOf];omega
   ·have O:(x !=u)=true:=by simp[he]
    obtain⟨fn,tmps,assign,body,Y,P⟩:=K _ x wr p.o (by have:=d.o;rw[if_neg he] at this;rw[<-this];exact Gq _ _ _);have g:=U he;clear he
    gi_wp2
    refine P.mono ?_;rintro e Z (⟨rfl,D,E⟩|⟨rfl,G⟩)
    ·have t:=U D;have Q:=U E;clear D E
     gi_wp2
     go_roundw
     case rel=>exact⟨k+1,by omega,by go_num,by rw[d.o,if_neg g.o];exact t.o,q.o.trans Q.o⟩
     case measure=>simp[intOf];omega
    ·have t:=U G;clear G
     gi_wp2
     refine bodyPost_ret (results_none rfl _ _ _) rfl ?_;refine⟨⟨_,rfl⟩,.inr ⟨_,?_,t.o⟩⟩;have:=d.o;rw[if_neg g.o] at this;rw[<-this];exact Gq _ _ _
  ·obtain rfl:k=m:=by omega
   gi_wp2
   go_end0;exact⟨⟨_,rfl⟩,.inl ⟨_,by rw[List.take_of_length_le (by rw[A.o];exact j_ _)],p.o⟩⟩
theorem DC(p:Option Addr)(x:Int)(w:World):
  Calls x_ 183 #[.pointer p,.int .i64 x] w λ e w'=>e=.returned (.func (.func 224) #[] #[.pointer (some ⟨w.heap.size,0,none⟩),.pointer (some ⟨w.heap.size+1,0,none⟩)])/\
   w'=(w.alloc (.cells #[.pointer p] 164)).alloc (.cells #[.int .i64 x] 3):=by
 have b:∀(fn:Fn)(first cap:Array Value)(w:World),(Instr.makeFunc fn first cap).run x_ w=.ok (.func fn first cap) w:=λ _ _ _ _=>rfl
 go_enter Tryz.func183,Tryz.ntmps183
 go_wp2;go_ret;exact⟨rfl,rfl⟩
theorem DD(n:Nat)(g:1<=n)(d c b bk m f:Nat)(cl:List Int)(u:Int)(hl:cl.length=m)(hm:m<=1000000)(w:World)(c1:w.cell? ⟨d,0,none⟩=some (.pointer (some ⟨b,0,none⟩)))(c2:w.cell? ⟨c,0,none⟩=some (.int .i64 u))
  (c3:w.cell? ⟨b,0,none⟩=some (.slice (some ⟨bk,0,none⟩) m f)) (i:∀k,k<m->w.cell? ⟨bk,k,none⟩=some (.int .i64 (ai cl k))) (h1:d<w.heap.size) (j:c<w.heap.size) (o:b<w.heap.size) (q:bk<w.heap.size):
  C7 Fence.wide n x_ 224 #[.pointer (some ⟨d,0,none⟩),.pointer (some ⟨c,0,none⟩)] (λ x:Int=> #[.int .i64 x]) (pS c bk m) (λ pre x=>(pre++[x])<+:others cl u) (λ ys=>ys=others cl u) (λ pre=>pre<+:others cl u) w:=
 λ l r s W e t v=>KU Fence.wide n trivial rfl g l d c b bk m f cl u hl hm r s t W ((e.cell (p:=⟨d,0,none⟩) h1).trans c1) ((e.cell (p:=⟨c,0,none⟩) j).trans c2) ((e.cell (p:=⟨b,0,none⟩) o).trans c3)
  (λ k hk=>(e.cell (p:=⟨bk,k,none⟩) q).trans (i k hk)) v
section
variable {base:Nat}{w w':World}{G:Nat}{hs:Nat->aq}{cb:Nat->Nat}{de:List Value}{cls:Nat->List Value}{n:Nat}{X:Nat->List Value}{K:Nat->Prop}{s:an}
theorem j5.ua(h:j5 base w G hs cb de cls n X){row:Option Nat}(i:w.grownBy w' row)(l:∀r,row=some r->∃o:Obj,w.heap[r]? =some o/\o.isCells=false):j5 base w' G hs cb de cls n X:=by
 have f:∀b (t:TypeId) (cs:List Value),aM w b t cs->some b≠row:=λ b t cs f e=>by
  obtain⟨o,c,j⟩:=l b e.symm;have:w.heap[b]? =_:=f;rw[this] at c;cases c;cases j
 refine⟨h.box.kept i (f _ _ _ h.box),h.rows.kept i (λ r g m e=>?_),λ d p=>(h.cls d p).kept i (f _ _ _ (h.cls d p)),h.inj,h.rB,h.rW⟩;obtain⟨o,c,j⟩:=l g e;rcases(h.rows.row r).2 with⟨k,_⟩|⟨s,cap,cur,k,_,q,_⟩
 ·have:(hs r).v.ownBlock=some g:=by rw[aq.own];exact m
  rw[k] at this;cases this
 ·have:(hs r).v.ownBlock=some g:=by rw[aq.own];exact m
  rw[k] at this
  cases this
  rw[q] at c;cases c;cases j
theorem aP.ua(h:aP K base w G hs cb s){row:Option Nat}(b:w.grownBy w' row)(c:∀r,row=some r->∃o:Obj,w.heap[r]? =some o/\o.isCells=false):aP K base w' G hs cb s:=
 ⟨h.e.ua b c,h.s.more b.size⟩
end
end
section
open Go.RowKit Go.Shelf
structure pH(jj:Nat)(W:World)(ds:List Nat):Prop where
 nu:ds.Nodup
 kB:∀D∈ds,jj<=D/\W.heap[D]? =some (.deferred (some []))
section
variable {jj:Nat}{W W':World}{ds:List Nat}{row:Option Nat}
theorem pH.lt(h:pH jj W ds){D:Nat}(b:D∈ds):D<W.heap.size:=(q_.1 (h.kB D b).2).1
theorem pH.kept(h:pH jj W ds)(c:W.grownBy W' row)(d:∀D∈ds,some D≠row):pH jj W' ds:=
 ⟨h.nu,λ D b=>⟨(h.kB D b).1,(c.block D (h.lt b) (d D b)).trans (h.kB D b).2⟩⟩
theorem pH.below(h:pH jj W ds)(c:Below W.heap.size W W'):pH jj W' ds:=⟨h.nu,λ D b=>⟨(h.kB D b).1,(c.block D (h.lt b)).trans (h.kB D b).2⟩⟩
theorem pH.cons(h:pH jj W ds){D:Nat}(c:jj<=D)(hm:W.heap[D]? =some (.deferred (some [])))(d:D∉ds):pH jj W (D::ds):=
 ⟨List.nodup_cons.2 ⟨d,h.nu⟩,λ E b=>by exact(List.mem_cons.1 b).elim (λ e=>by subst e;exact⟨c,hm⟩) (λ b=>h.kB E b)⟩
theorem pH.KV(h:pH jj W ds)(c:W.grownBy W' row)(d:∀r,row=some r->∃cs t b,W.heap[r]? =some (.cells cs t b)):pH jj W' ds:=
 h.kept c (λ D f e=>by obtain⟨cs,t,b,h1⟩:=d D e.symm;rw[(h.kB D f).2] at h1;cases h1)
end
theorem Ai{t:TypeId}{cs:List Value}(h:aM w b t cs):∃cs t c,w.heap[b]? =some (.cells cs t c):=⟨_,_,_,h⟩
theorem sN{e:TypeId}{size:Nat}{xs:List Value}(h:w.ownsRow base e size v n xs){g:Nat}(b:v.ownBlock=some g):∃cs,w.heap[g]? =some (.cells cs e (0,0)):=by
 rcases h.2 with⟨c,_⟩|⟨f,cap,cur,c,_,d,_⟩
 ·rw[c] at b;cases b
 ·rw[c] at b;cases b;exact⟨_,d⟩
theorem lT.block{S:List Int}(h:lT w b n S):∃es clock,w.heap[b]? =some (.map es clock):=by
 obtain⟨D,⟨es,clock,h1,c⟩,d⟩:=h;exact⟨es,clock,h1⟩
theorem DE(w:World)(base:Nat)(b:List Int)(n:Nat)(c:b.length=n)(d:base<=w.heap.size)(hm:n<=1000):(w.alloc (.cells (gT b).toArray 3)).ownsRow base 3 1 (.slice (some ⟨w.heap.size,0,none⟩) n n) n (gT b):=by
 subst c;have:=World.ownsRow_lit (base:=base) (e:=3) (size:=1) w (gT b).toArray b.length d (by unfold maxLen;omega) (by simp[gT]);simpa[gT] using this
structure p5(w W:World)(G aH aY bm m:Nat)(S:List Int)(A:Option Addr)(n c:Nat)(out:List Int)(ds:List Nat):Prop where
 below:Below w.heap.size w W
 qh:aM W aH 115 [.pointer (some ⟨G,0,none⟩)]
 qv:aM W aY 114 [.map (some bm)]
 set:lT W bm m S
 row:W.ownsRow w.heap.size 3 1 (.slice A n c) n (gT out)
 uX:pH w.heap.size W ds
 lm:w.heap.size<=bm
 gH:w.heap.size<=aH
 lZ:w.heap.size<=aY
section
variable {w W W':World}{G aH aY bm m:Nat}{S:List Int}{A:Option Addr}{n c:Nat}{out:List Int}{ds:List Nat}
theorem p5.len(h:p5 w W G aH aY bm m S A n c out ds):out.length=n:=by have:=h.row.1;simpa[gT] using this
theorem p5.grow(h:p5 w W G aH aY bm m S A n c out ds)(b:Below W.heap.size W W'):p5 w W' G aH aY bm m S A n c out ds:=
 ⟨h.below.trans (b.mono h.below.size),h.qh.below b,h.qv.below b,h.set.below b h.set.lt,lU h.row b,h.uX.below b,h.lm,h.gH,h.lZ⟩
theorem p5.ua(h:p5 w W G aH aY bm m S A n c out ds){B:Nat}{row:Option Nat}(d:W.grownBy W' row)(f:∀r,row=some r->B<=r/\∃o:Obj,W.heap[r]? =some o/\o.isCells=false)(y:w.heap.size<=B)(hm:bm<B)(l:∀D∈ds,D<B):p5 w W' G aH aY bm m S A n c out ds:=by
 have i:∀b,(∃cs t j,W.heap[b]? =some (.cells cs t j))->some b≠row:=λ b ⟨cs,t,j,p⟩ e=>by
  obtain⟨_,o,k,q⟩:=f b e.symm;rw[p] at k;cases k;cases q
 refine⟨h.below.grown d h.below.size (λ g e=>by have:=(f g e).1;omega),h.qh.kept d (i _ (Ai h.qh)),h.qv.kept d (i _ (Ai h.qv)),h.set.kept d (λ e=>by have:=(f bm e.symm).1;omega),h.row.kept d ?_,h.uX.kept d (λ D s e=>by have:=(f D e.symm).1;have:=l D s;omega),h.lm,h.gH,h.lZ⟩
 cases u:(Z8 A n c).ownBlock with
 |none=>exact .inl rfl
 |some g=>
  obtain⟨cs,v⟩:=sN h.row u;exact .inr (i g ⟨_,_,_,v⟩)
theorem p5.put(h:p5 w W G aH aY bm m S A n c out ds){mm:Nat}{oW:List Int}(hs:lT W' bm mm oW)(d:W.grownBy W' (some bm)):p5 w W' G aH aY bm mm oW A n c out ds:=by
 obtain⟨es,cl,hm⟩:=h.set.block;have f:∀b,(∃cs t i,W.heap[b]? =some (.cells cs t i))->some b≠some bm:=λ b ⟨cs,t,i,j⟩ e=>by
  injection e with e;subst e;rw[j] at hm;cases hm
 refine⟨h.below.grown d h.below.size (λ g e=>by cases e;exact h.lm),h.qh.kept d (f _ (Ai h.qh)),h.qv.kept d (f _ (Ai h.qv)),hs,h.row.kept d ?_,h.uX.kept d (λ D k e=>by injection e with e;subst e;rw[(h.uX.kB D k).2] at hm;cases hm),h.lm,h.gH,h.lZ⟩
 cases l:(Z8 A n c).ownBlock with
 |none=>exact .inl rfl
 |some g=>
  obtain⟨cs,o⟩:=sN h.row l;exact .inr (f g ⟨_,_,_,o⟩)
theorem p5.app(h:p5 w W G aH aY bm m S A n c out ds){x:Int}{v':Value}(i:n9 W w.heap.size 3 (.slice A n c) (n+1) ((out++[x]).map (Value.int .i64)) v' W'):∃A' c',v'=.slice A' (n+1) c'/\p5 w W' G aH aY bm m S A' (n+1) c' (out++[x]) ds:=by
 obtain⟨f,b,_⟩:=i;obtain⟨A',c',rfl⟩:=Fk f;have d:∀r,(Z8 A n c).ownBlock=some r->∃cs,W.heap[r]? =some (.cells cs 3 (0,0)):=λ r e=>sN h.row e
 refine⟨A',c',rfl,h.below.grown b h.below.size (λ g e=>(h.row.lt g e).1),h.qh.kept b (λ e=>?_),h.qv.kept b (λ e=>?_),h.set.kept b (λ e=>?_),f,h.uX.KV b (λ r e=>by obtain⟨cs,h1⟩:=d r e;exact⟨_,_,_,h1⟩),h.lm,h.gH,h.lZ⟩
 ·obtain⟨cs,h1⟩:=d aH e.symm;rw[show W.heap[aH]? =_ from h.qh] at h1;simp at h1
 ·obtain⟨cs,h1⟩:=d aY e.symm;rw[show W.heap[aY]? =_ from h.qv] at h1;simp at h1
 ·obtain⟨cs,h1⟩:=d bm e.symm;obtain⟨es,cl,j⟩:=h.set.block;rw[j] at h1;cases h1
theorem p5.mark(h:p5 w W G aH aY bm m S A n c out ds){D:Nat}(b:w.heap.size<=D)(hm:W.heap[D]? =some (.deferred (some [])))(d:∀E∈ds,E<D):p5 w W G aH aY bm m S A n c out (D::ds):=
 ⟨h.below,h.qh,h.qv,h.set,h.row,h.uX.cons b hm (λ e=>by have:=d D e;omega),h.lm,h.gH,h.lZ⟩
end
end
section
open Go.RowKit Go.Shelf
section
variable {base:Nat}{w w':World}{G:Nat}{hs:Nat->aq}{cb:Nat->Nat}{de:List Value}{cls:Nat->List Value}{n:Nat}{X:Nat->List Value}
theorem j5.off(h:j5 base w G hs cb de cls n X){row:Option Nat}(c:w.grownBy w' row)(f:∀g,row=some g->g≠G/\(∀r,(hs r).b≠some g)/\∀d,d<n->cb d≠g):j5 base w' G hs cb de cls n X:=
 ⟨h.box.kept c (λ e=>(f G e.symm).1 rfl),h.rows.kept c (λ r g j e=>(f g e).2.1 r j),λ d i=>(h.cls d i).kept c (λ e=>(f _ e.symm).2.2 d i rfl),h.inj,h.rB,h.rW⟩
theorem l9.others{l5:Type}{ty:l5->TypeId}{nV:l5->Nat}{ls:l5->aq}{Y:l5->List Value}(h:l9 base ty nV w ls Y){K:Nat->Prop}(f:aF K w w')(hk:∀r g,(ls r).b=some g->K g):l9 base ty nV w' ls Y:=
 ⟨λ r=>mK (h.row r) (λ b c=>f.keep b (hk r b (by rw[<-aq.own];exact c))),h.apart⟩
theorem l9.Gr{l5:Type}{ty:l5->TypeId}{nV:l5->Nat}{ls:l5->aq}{Y:l5->List Value}(h:l9 base ty nV w ls Y){r:l5}{g:Nat}(d:(ls r).b=some g){o:Obj}(c:w.heap[g]? =some o):o.isCells=true:=by
 obtain⟨cs,e⟩:=sN (h.row r) (g:=g) (by rw[aq.own];exact d);rw[e] at c;cases c;rfl
end
def x3(r:Nat):TypeId:=if r=0 then 115 else if r=1 then 25 else if r=2 then 25 else if r=4 then 170 else if r=7 then 114 else if r=8 then 129 else if r=10 then 164 else 3
structure iK(K:Nat->Prop)(base:Nat)(w W:World)(G:Nat)(hs:Nat->aq)(cb:Nat->Nat)(s:an)(ls:Nat->aq)(X:Nat->List Value):Prop where
 gA:aP (λ b=>K b\/∃r,(ls r).b=some b) base W G hs cb s
 rows:l9 w.heap.size x3 (λ _=>1) W ls X
 iQ:aF K w W
 kl:∀b,K b->b<w.heap.size
def oz(B:Nat):aq:=⟨some ⟨B,0,none⟩,1,1⟩
section
variable {K:Nat->Prop}{base:Nat}{w W W':World}{G:Nat}{hs hs':Nat->aq}{cb sr:Nat->Nat}{s s':an}{ls:Nat->aq}{X:Nat->List Value}
theorem KeepsOthers.below{A B:World}(h:Below A.heap.size A B):KeepsOthers A B:=⟨h.size,λ k o hk _=>(h.block k (q_.1 hk).1).trans hk⟩
theorem KeepsOthers.grown{A B:World}{row:Option Nat}(h:A.grownBy B row)(c:∀g,row=some g->∃cs t b,A.heap[g]? =some (.cells cs t b)):KeepsOthers A B:=
 ⟨h.size,λ k o hk d=>(h.block k (q_.1 hk).1 (λ e=>by obtain⟨cs,t,b,h1⟩:=c k e.symm;rw[h1] at hk;cases hk;cases d)).trans hk⟩
theorem iK.call(h:iK K base w W G hs cb s ls X):aP (λ b=>(K b\/∃r,(ls r).b=some b)\/∃o:Obj,W.heap[b]? =some o/\o.isCells=false) base W G hs cb s:=by
 refine⟨h.gA.e,⟨λ b c=>?_,λ c=>?_,λ r b j c=>?_,λ d k c=>?_⟩⟩
 ·rcases c with c|⟨o,f,_⟩
  ·exact h.gA.s.lt b c
  ·exact(q_.1 f).1
 ·rcases c with c|⟨o,f,i⟩
  ·exact h.gA.s.g c
  ·have h1:W.heap[G]? =_:=h.gA.e.box;rw[h1] at f;cases f;cases i
 ·rcases c with c|⟨o,f,i⟩
  ·exact h.gA.s.row r b j c
  ·rw[h.gA.e.rows.Gr j f] at i;cases i
 ·rcases c with c|⟨o,f,i⟩
  ·exact h.gA.s.cl d k c
  ·have h1:W.heap[cb d]? =_:=h.gA.e.cls d k;rw[h1] at f;cases f;cases i
theorem iK.back(h:iK K base w W G hs cb s ls X)(e:aP (λ b=>(K b\/∃r,(ls r).b=some b)\/∃o:Obj,W.heap[b]? =some o/\o.isCells=false) base W' G hs' sr s')(f:aF (λ b=>(K b\/∃r,(ls r).b=some b)\/∃o:Obj,W.heap[b]? =some o/\o.isCells=false) W W'):
  iK K base w W' G hs' sr s' ls X/\KeepsOthers W W':=
 ⟨⟨e.BA (λ b c=>.inl c),h.rows.others f (λ r g d=>.inl (.inr ⟨r,d⟩)),h.iQ.trans (f.mono (λ b c=>.inl (.inl c))),h.kl⟩,f.size,λ k o hk i=>(f.keep k (.inr ⟨o,hk,i⟩)).trans hk⟩
theorem iK.grow(h:iK K base w W G hs cb s ls X)(c:Below W.heap.size W W'):iK K base w W' G hs cb s ls X:=
 ⟨(h.gA.below c).1,h.rows.below c,h.iQ.trans ((h.gA.below c).2.mono (λ b hk=>.inl hk)),h.kl⟩
theorem iK.drew(h:iK K base w W G hs cb s ls X):iK K base w W.drew G hs cb s ls X:=h.grow ((Below.refl _ W).drew)
theorem iK.ua(h:iK K base w W G hs cb s ls X){row:Option Nat}(c:W.grownBy W' row)(d:∀r,row=some r->w.heap.size<=r/\∃o:Obj,W.heap[r]? =some o/\o.isCells=false):iK K base w W' G hs cb s ls X:=
 ⟨h.gA.ua c (λ r e=>(d r e).2),h.rows.kept c (λ r g j e=>by obtain⟨_,o,k,i⟩:=d g e;rw[h.rows.Gr j k] at i;cases i),
  h.iQ.trans (aF.grown c (λ b f=>h.gA.s.lt b (.inl f)) (λ b e f=>by have:=(d b e).1;have:=h.kl b f;omega)),h.kl⟩
theorem iK.iS(h:iK K base w W G hs cb s ls X){r:Nat}{h':aq}{ys:List Value}(f:W.grownBy W' (ls r).b)(l:W'.ownsRow w.heap.size (x3 r) 1 h'.v h'.n ys)(m:h'.b=(ls r).b\/∀g,h'.b=some g->W.heap.size<=g):
  iK K base w W' G hs cb s (iH ls r h') (iH X r ys)/\KeepsOthers W W':=by
 have p:∀g,(ls r).b=some g->w.heap.size<=g/\g<W.heap.size:=λ g e=>h.rows.lt e
 have q:∀g,(ls r).b=some g->g≠G/\(∀r',(hs r').b≠some g)/\∀d,d<s.c.cl.length->cb d≠g:=λ g e=>by
  refine⟨λ i=>?_,λ r' i=>?_,λ d j i=>?_⟩
  ·subst i;exact h.gA.s.g (.inr ⟨r,e⟩)
  ·exact h.gA.s.row r' g i (.inr ⟨r,e⟩)
  ·subst i;exact h.gA.s.cl d j (.inr ⟨r,e⟩)
 have t:=h.gA.e.off f q;refine⟨⟨⟨t,?_⟩,h.rows.iS (r:=r) f l m,h.iQ.trans (aF.grown f (λ b hk=>h.gA.s.lt b (.inl hk)) (λ b e hk=>by have:=(p b e).1;have:=h.kl b hk;omega)),h.kl⟩,
  KeepsOthers.grown f (λ g e=>by obtain⟨cs,u⟩:=sN (h.rows.row r) (g:=g) (by rw[aq.own];exact e);exact⟨_,_,_,u⟩)⟩
 have k:∀b,(∃r',(iH ls r h' r').b=some b)->(∃r',(ls r').b=some b)\/(W.heap.size<=b/\h'.b=some b):=λ b ⟨r',e⟩=>by
  by_cases o:r'=r
  ·subst o;rw[jC] at e;rcases m with h1|h1
   ·exact .inl ⟨r',by rw[<-h1];exact e⟩
   ·exact .inr ⟨h1 b e,e⟩
  ·rw[aV _ _ o] at e;exact .inl ⟨r',e⟩
 have y:∀b,h'.b=some b->b<W'.heap.size:=λ b e=>(tc l (g:=b) (by rw[aq.own];exact e)).2
 refine⟨λ b hk=>?_,λ hk=>?_,λ r' b e hk=>?_,λ d j hk=>?_⟩
 ·rcases hk with hk|hk
  ·exact Nat.lt_of_lt_of_le (h.gA.s.lt b (.inl hk)) f.size
  ·rcases k b hk with hk|⟨_,hk⟩
   ·exact Nat.lt_of_lt_of_le (h.gA.s.lt b (.inr hk)) f.size
   ·exact y b hk
 ·rcases hk with hk|hk
  ·exact h.gA.s.g (.inl hk)
  ·rcases k G hk with hk|⟨hk,_⟩
   ·exact h.gA.s.g (.inr hk)
   ·have:=h.gA.e.box.lt;omega
 ·rcases hk with hk|hk
  ·exact h.gA.s.row r' b e (.inl hk)
  ·rcases k b hk with hk|⟨hk,_⟩
   ·exact h.gA.s.row r' b e (.inr hk)
   ·have:=(h.gA.e.rows.lt e).2;omega
 ·rcases hk with hk|hk
  ·exact h.gA.s.cl d j (.inl hk)
  ·rcases k _ hk with hk|⟨hk,_⟩
   ·exact h.gA.s.cl d j (.inr hk)
   ·have:=(h.gA.e.cls d j).lt;omega
theorem iK.fresh(h:iK K base w W G hs cb s ls X){r:Nat}{h':aq}{ys:List Value}(c:Below W.heap.size W W')(d:W'.ownsRow w.heap.size (x3 r) 1 h'.v h'.n ys)(e:∀g,h'.b=some g->W.heap.size<=g):
  iK K base w W' G hs cb s (iH ls r h') (iH X r ys):=
 (h.iS (r:=r) (h':=h') (ys:=ys) ⟨c.os,c.tape,c.output,c.size,λ k hk _=>c.block k hk⟩ d (.inr e)).1
theorem iK.box(h:iK K base w W G hs cb s ls X)(r:Nat)(v:Value):iK K base w (W.alloc (.cells #[v] (x3 r))) G hs cb s (iH ls r (oz W.heap.size)) (iH X r [v]):=
 h.fresh (bg W _) (by
  have:=World.ownsRow_lit (base:=w.heap.size) (e:=x3 r) (size:=1) W #[v] 1 h.iQ.size (by unfold maxLen;omega) (by simp);simpa[oz,aq.v] using this) (λ g e=>by cases e;exact j_ _)
theorem iK.set(h:iK K base w W G hs cb s ls X){r g:Nat}(c:(ls r).b=some g)(k:Nat)(v:Value):iK K base w (W.setCell ⟨g,k,none⟩ v) G hs cb s ls (iH X r ((X r).set k v))/\KeepsOthers W (W.setCell ⟨g,k,none⟩ v):=by
 have e:=h.rows.set c k v;have f:W.grownBy (W.setCell ⟨g,k,none⟩ v) (ls r).b:=by rw[c];exact kK W g k v
 have i:iH ls r (ls r)=ls:=by funext r';unfold iH;split<;>simp_all
 have d:=e.row r;rw[jC] at d;have:=h.iS (r:=r) (h':=ls r) (ys:=(X r).set k v) f d (.inl rfl);rw[i] at this;exact this
theorem iK.kB(h:iK K base w W G hs cb s ls X){r g:Nat}(c:(ls r).b=some g){k:Nat}{v:Value}(d:(X r)[k]? =some v):W.cell? ⟨g,k,none⟩=some v/\W.frozen? ⟨g,k,none⟩=false:=by
 refine⟨?_,h.rows.free c k⟩;have hk:k<(ls r).n*1:=by rw[<-h.rows.len r];exact(h_.1 d).1
 rw[h.rows.cell c hk,d]
theorem iK.lt(h:iK K base w W G hs cb s ls X){r g:Nat}(c:(ls r).b=some g):w.heap.size<=g/\g<W.heap.size:=h.rows.lt c
theorem iK.start(h:aP K base w G hs cb s):iK K base w w G hs cb s (λ _=>lX) (λ _=> []):=
 ⟨h.BA (λ b c=>by rcases c with c|⟨r,e⟩;exact c;cases e),⟨λ r=>World.ownsRow_nil _ _ _ _,λ r r' g _ e=>by cases e⟩,aF.refl,h.s.lt⟩
theorem iK.off(h:iK K base w W G hs cb s ls X){r g:Nat}(e:(ls r).b=some g):g≠G/\(∀r',(hs r').b≠some g)/\∀d,d<s.c.cl.length->cb d≠g:=
 ⟨λ f=>by subst f;exact h.gA.s.g (.inr ⟨r,e⟩),λ r' f=>h.gA.s.row r' g f (.inr ⟨r,e⟩),λ d i f=>by subst f;exact h.gA.s.cl d i (.inr ⟨r,e⟩)⟩
end
theorem pH.others{jj:Nat}{ds:List Nat}(h:pH jj W ds)(k:KeepsOthers W W'):pH jj W' ds:=⟨h.nu,λ D b=>⟨(h.kB D b).1,k.same D _ (h.kB D b).2 rfl⟩⟩
end
section
open Go.RowKit Go.Shelf
def Gs(K:Nat->Prop)(base:Nat)(w:World)(G:Nat)(hs:Nat->aq)(cb:Nat->Nat)(n:Nat)(B:Int)(s:an)(e:Ending)(w':World):Prop:=
 e=.returned (.tuple #[])/\∃s',ou s s'/\mh n jl B s'/\aP K base w' G hs cb s'/\aF K w w'
theorem BK(b:0<=x)(h1:x<=4611686018427387904):wrap64 x=x:=by unfold wrap64;omega
theorem KW(h:aP K base w G hs cb s)(r:mh n jl B s)(aa:n<=60000)(ab:s.aJ.length<=100000)(ad:0<=B)(ae:B<=4611686018427387904)(v:Nat)(af:1<=v/\v<=n):
  Calls x_ 184 #[.pointer (some ⟨G,0,none⟩),.int .i64 v] w (Gs K base w G hs cb n B s):=by
 obtain⟨g6,D,ag,f6⟩:=h.e.lN 8 6 rfl (h.e.n6.trans r.kM) (by omega);have c6:=h.e.yP D (k:=v) (by rw[r.kM];omega);have ah:=f6 v;obtain⟨x,E⟩:∃x,ai s.act v=x:=⟨_,rfl⟩
 obtain⟨y,F⟩:∃y,s.aW=y:=⟨_,rfl⟩
 have c9:=h.e.kA (k:=9) (v:=.int .i64 s.aW) rfl;rw[F] at c9;rw[E] at c6;have R:0<=x/\x<=jl:=by rw[<-E];exact r.pR v
 have S:1<=y/\y<=jl:=by rw[<-F];exact⟨r.rG,r.oU⟩
 obtain⟨z,aj⟩:∃z,x+y=z:=⟨_,rfl⟩
 have H:0<=z/\z<=2199023255552:=by unfold jl at R S;omega
 have T:wrap64 z=z:=BK H.1 (by omega);have ar:n_.wrap z=z:=by rw[Zn];unfold wrap64 at T;omega
 have aS:(v:Int)<(n:Int)+1:=by omega
 have ak:=U h;have I:=U r;have J:=U D;have V:=U af;have Z:=U H;clear h r D f6 E F R S H;go_enter Tryz.func184,Tryz.ntmps184
 go_wp2_with fail
 refine c_ 13 (by kernel_rfl) (by kernel_rfl) ?_;simp only[a_,Zw,Zx,Ze]
 iterate 13 still_step
 refine wpStill_nil ?_;change wpList _ _ _ _ _ w.drew
 go_upto_region 1 with fail
 have d:=ak.o.Bz J.o v z;have L:=U (d.2.trans aF.drew);have d:=U d.1.drew;generalize (w.setCell ⟨g6,v,none⟩ (.int .i64 z)).drew=w1 at d L;have M:bF (mh n 2199023255552 B (s.qd v z)):=U (I.o.act (by unfold jl;omega) V.o.1 Z.o.1 Z.o.2);have W:=d.o.e.rE 8 J.o (d.o.e.n6.trans M.o.kM) rfl;have N:=d.o.e.yP J.o (k:=v) (by rw[M.o.kM];have:=V.o;omega);have Y:ai (s.qd v z).act v=z:=by show ai (s.act.set v z) v=z;rw[o9,if_pos ⟨rfl,by rw[I.o.kM];have:=V.o;omega⟩]
 rw[Y] at N;clear ag c6 c9 ah T Y aj
 by_cases au:1099511627776<z
 ·go_upto_region 3 with(go_at_call 188;refine(Gp (A:=2199023255552) (A':=jl) d.o M.o aa ab (by omega) (by unfold jl;omega) (by unfold jl;omega) ad ae).mono ?_;rintro e av ⟨rfl,s2,i,b,c,j⟩;have c:=U c;have j:=U (L.o.trans j);have i:=U ((ou.act s v z).trans i);have b:=U b)
  clear W N;have l:=b.o.lJ.sL;obtain⟨g8,t,al,f8⟩:=c.o.e.lN 11 8 rfl (c.o.e.n8.trans l) (by omega);have d8:=c.o.e.wY t (k:=v) (by rw[l];have:=V.o;omega);obtain⟨pv,f⟩:∃pv,ai s2.pl v=pv:=⟨_,rfl⟩
  rw[f] at d8;have u:0<=pv->pv<s2.ord.length:=λ O=>by rw[<-f];exact(b.o.lJ.o v V.o.1 V.o.2 (by rw[f];exact O)).1
  have C:=b.o.lJ.len;have X:=U (z_ u C);clear l t f8 f u C
  by_cases hp:0<=pv
  ·have P:(v:Int)<((n+1:Nat):Int):=by have:=V.o;omega
   obtain⟨p,rfl⟩:∃p:Nat,pv=p:=⟨pv.toNat,by omega⟩
   go_wp2_with (go_at_call 187;refine(Dx c.o (by have:=b.o.lJ;rw[b.o.gV];exact this) (by rw[b.o.kM,b.o.gV]) (by rw[b.o.gV];omega) p (by have:=X.o.1 (by omega);omega) (by have:=X.o.2;omega)).mono ?_;rintro e ao ⟨rfl,Q,g,m,q⟩;have m:=U m;have q:=U q;have g:=U g)
   go_end0;exact⟨rfl,Q,i.o.trans g.o.hk,g.o.rg b.o,m.o,j.o.trans q.o⟩
  ·have P:(v:Int)<((n+1:Nat):Int):=by have:=V.o;omega
   go_wp2_with fail
   go_end0;exact⟨rfl,s2,i.o,b.o,c.o,j.o⟩
 ·have b:bF (mh n jl B (s.qd v z)):=U (I.o.act (Int.le_refl _) V.o.1 Z.o.1 (by unfold jl;omega))
  go_upto_region 3 with fail
  have c:=d;have j:=L;have i:bF (ou s (s.qd v z)):=U (ou.act s v z);clear W N;have l:=b.o.lJ.sL;obtain⟨g8,t,al,f8⟩:=c.o.e.lN 11 8 rfl (c.o.e.n8.trans l) (by omega);have d8:=c.o.e.wY t (k:=v) (by rw[l];have:=V.o;omega);obtain⟨pv,f⟩:∃pv,ai (s.qd v z).pl v=pv:=⟨_,rfl⟩
  rw[f] at d8;have u:0<=pv->pv<(s.qd v z).ord.length:=λ O=>by rw[<-f];exact(b.o.lJ.o v V.o.1 V.o.2 (by rw[f];exact O)).1
  have C:=b.o.lJ.len;have X:=U (z_ u C);clear l t f8 f u C
  by_cases hp:0<=pv
  ·have P:(v:Int)<((n+1:Nat):Int):=by have:=V.o;omega
   obtain⟨p,rfl⟩:∃p:Nat,pv=p:=⟨pv.toNat,by omega⟩
   go_wp2_with (go_at_call 187;refine(Dx c.o (by have:=b.o.lJ;rw[b.o.gV];exact this) (by rw[b.o.kM,b.o.gV]) (by rw[b.o.gV];omega) p (by have:=X.o.1 (by omega);omega) (by have:=X.o.2;omega)).mono ?_;rintro e ao ⟨rfl,Q,g,m,q⟩;have m:=U m;have q:=U q;have g:=U g)
   go_end0;exact⟨rfl,Q,i.o.trans g.o.hk,g.o.rg b.o,m.o,j.o.trans q.o⟩
  ·have P:(v:Int)<((n+1:Nat):Int):=by have:=V.o;omega
   go_wp2_with fail
   go_end0;exact⟨rfl,(s.qd v z),i.o,b.o,c.o,j.o⟩
theorem DF(b:0<=x)(h1:x<=4611686018427387904):n_.wrap x=x:=by rw[Zn];omega
theorem KX{y:Int}(b:0<=x)(h:x/20=y):Z0 x 20=y:=by rw[t_ b,h]
theorem KY(h:aP K base w G hs cb s)(r:mh n jl B s)(D:n<=60000)(E:s.aJ.length<=100000)(F:0<=B)(H:B<=4611686018427387904):
  Calls x_ 149 #[.pointer (some ⟨G,0,none⟩)] w (Gs K base w G hs cb n B s):=by
 obtain⟨y,d⟩:∃y,s.aW=y:=⟨_,rfl⟩
 have c9:=h.e.kA (k:=9) (v:=.int .i64 s.aW) rfl;rw[d] at c9;have f9:=h.e.free 9;have l:1<=y/\y<=jl:=by rw[<-d];exact⟨r.rG,r.oU⟩
 obtain⟨q,m⟩:∃q,y/20=q:=⟨_,rfl⟩
 obtain⟨p,hp⟩:∃p,q+1=p:=⟨_,rfl⟩
 obtain⟨z,I⟩:∃z,y+p=z:=⟨_,rfl⟩
 have t:0<=q/\0<=p/\1<=z/\z<=2199023255552/\q<=z/\p<=z:=by unfold jl at l;omega
 have J:=KX (by omega) m;have w1:wrap64 z=z:=BK (by omega) (by omega);have L:n_.wrap z=z:=DF (by omega) (by omega);have u:wrap64 q=q:=BK (by omega) (by omega);have k2:n_.wrap q=q:=DF (by omega) (by omega);have M:wrap64 p=p:=BK (by omega) (by omega);have k3:n_.wrap p=p:=DF (by omega) (by omega);have N:=U h;have C:=U r;have Z:=U t;clear h r d l m t;go_enter Tryz.func149,Tryz.ntmps149
 go_wp2_with fail
 refine c_ 13 (by kernel_rfl) (by kernel_rfl) ?_;simp only[a_,Zw,Zx,Ze]
 iterate 13 still_step
 refine wpStill_nil ?_;change wpList _ _ _ _ _ w.drew
 go_upto_region 1 with fail
 have b:=N.o.F9 z;have f:=U (b.2.trans aF.drew);have b:=U b.1.drew;generalize (w.setCell ⟨G,9,none⟩ (.int .i64 z)).drew=P at b f;have O:bF (mh n 2199023255552 B (s.wg z)):=U (C.o.Ab (by unfold jl;omega) Z.o.2.2.1 Z.o.2.2.2.1);have Q:=b.o.e.kA (k:=9) (v:=.int .i64 z) rfl;clear c9 f9 w1 u M L k2 k3 J hp I
 by_cases R:1099511627776<z
 ·go_wp2_with (go_at_call 188;refine(Gp (A:=2199023255552) (A':=jl) b.o O.o D E (by omega) (by unfold jl;omega) (by unfold jl;omega) F H).mono ?_;rintro e u ⟨rfl,s2,g,c,i,j⟩;have i:=U i;have j:=U (f.o.trans j);have g:=U ((ou.Ab s z).trans g);have c:=U c)
  go_end0;exact⟨rfl,s2,g.o,c.o,i.o,j.o⟩
 ·have c:bF (mh n jl B (s.wg z)):=U (C.o.Ab (Int.le_refl _) Z.o.2.2.1 (by unfold jl;omega))
  go_wp2_with fail
  go_end0;exact⟨rfl,_,ou.Ab s z,c.o,b.o,f.o⟩
end
section
open Go.RowKit Go.Shelf
theorem DG(k:Nat):qZ (ij k)=164:=by
 unfold qZ ij;rw[if_neg (by omega),if_neg (by omega),if_neg (by omega),if_neg (by omega),if_neg (by omega),if_neg (by omega),if_neg (by omega),if_neg (by omega),if_pos (by omega)];rfl
theorem Aj(k:Nat):nW (ij k)=1:=by unfold nW ij;rw[if_neg (by omega)]
theorem DH(k:Nat):qZ (kz k)=3:=by
 unfold qZ kz;rw[if_neg (by omega),if_neg (by omega),if_neg (by omega),if_neg (by omega),if_neg (by omega),if_neg (by omega),if_neg (by omega),if_neg (by omega),if_neg (by omega)]
theorem BL(k:Nat):nW (kz k)=1:=by unfold nW kz;rw[if_neg (by omega)]
theorem wk(hs:Nat->aq)(cb:Nat->Nat)(s:an)(k:Nat):cont hs cb s (ij k)=kU cb (aA s.c.wt k):=by
 unfold cont ij;rw[if_neg (by omega),if_neg (by omega),if_neg (by omega),if_neg (by omega),if_neg (by omega),if_neg (by omega),if_neg (by omega),if_neg (by omega),if_neg (by omega),if_neg (by omega),if_neg (by omega),if_neg (by omega),if_neg (by omega),if_pos (by omega)];rw[show(13+3*k-13)/3=k by omega]
theorem x4(hs:Nat->aq)(cb:Nat->Nat)(s:an)(k:Nat):cont hs cb s (kz k)=gT (aA s.c.cl k):=by
 unfold cont kz;rw[if_neg (by omega),if_neg (by omega),if_neg (by omega),if_neg (by omega),if_neg (by omega),if_neg (by omega),if_neg (by omega),if_neg (by omega),if_neg (by omega),if_neg (by omega),if_neg (by omega),if_neg (by omega),if_neg (by omega),if_neg (by omega),if_pos (by omega)];rw[show(14+3*k-14)/3=k by omega]
def an.p6(s:an)(k:Nat)(l:List Nat):an:={s with c:={s.c with wt:=s.c.wt.set k l}}
theorem KZ{f:Nat->Value}:((k_ n).map f).set k v=(k_ n).map (λ j=>if j=k then v else f j):=by
 refine List.ext_getElem? λ j=>?_
 rw[List.getElem?_set,m_,m_]
 by_cases b:j<n
 ·rw[i_ b]
  by_cases e:k=j
  ·subst e;simp[b]
  ·rw[if_neg e];simp[Ne.symm e]
 ·rw[e_ (by simpa using b)]
  by_cases e:k=j
  ·subst e;simp[b]
  ·rw[if_neg e];rfl
theorem K0(hs hs':Nat->aq)(cb:Nat->Nat)(s:an){r:Nat}(b:r≠0):cont hs cb s r=cont hs' cb s r:=by
 unfold cont;rw[if_neg b,if_neg b]
theorem Gt(hs:Nat->aq)(cb:Nat->Nat)(s:an){k r:Nat}{l:List Nat}(d:r≠0)(e:r≠ij k):cont hs cb (s.p6 k l) r=cont hs cb s r:=by
 rcases Zq r 13 with h|h
 ·have:r=1\/r=2\/r=3\/r=4\/r=5\/r=6\/r=7\/r=8\/r=9\/r=10\/r=11\/r=12:=by omega
  rcases this with rfl|rfl|rfl|rfl|rfl|rfl|rfl|rfl|rfl|rfl|rfl|rfl<;>rfl
 ·have a0:¬r=0:=d;have a1:¬r=1:=by omega
  have a2:¬r=2:=by omega
  have a3:¬r=3:=by omega
  have a4:¬r=4:=by omega
  have a5:¬r=5:=by omega
  have f:¬r=6:=by omega
  have g:¬r=7:=by omega
  have i:¬r=8:=by omega
  have a9:¬r=9:=by omega
  have j:¬r=10:=by omega
  have m:¬r=11:=by omega
  have a12:¬r=12:=by omega
  unfold cont;simp only[a0,a1,a2,a3,a4,a5,f,g,i,a9,j,m,a12,if_false]
  by_cases hm:r%3=1
  ·rw[if_pos hm,if_pos hm];have:aA (s.p6 k l).c.wt ((r-13)/3)=aA s.c.wt ((r-13)/3):=by
    show aA (s.c.wt.set k l) _=_;rw[qI,if_neg (λ n=>e (by unfold ij;omega))]
   rw[this]
  ·rw[if_neg hm,if_neg hm]
   by_cases b:r%3=2
   ·rw[if_pos b,if_pos b];rfl
   ·rw[if_neg b,if_neg b];rfl
section
variable {K:Nat->Prop}{base:Nat}{w gb W:World}{G:Nat}{hs:Nat->aq}{cb:Nat->Nat}{s:an}
theorem iW.jj(h:iW base w G hs cb s):(hs 0).n=s.c.wt.length:=by
 have h1:=h.rows.len 0;rw[show(cont hs cb s 0).length=s.c.wt.length by simp[cont],show nW 0=1 from rfl] at h1;omega
theorem iW.Ak(h:iW base w G hs cb s)(k:Nat):(hs (ij k)).n=(aA s.c.wt k).length:=by
 have h1:=h.rows.len (ij k);rw[wk,Aj] at h1;simp[kU] at h1;omega
theorem iW.Al(h:iW base w G hs cb s)(k:Nat):(hs (kz k)).n=(aA s.c.cl k).length:=by
 have h1:=h.rows.len (kz k);rw[x4,BL] at h1;simp[gT] at h1;omega
theorem iW.x5(h:iW base w G hs cb s){g:Nat}(d:(hs 0).b=some g){k:Nat}(hk:k<s.c.wt.length):w.cell? ⟨g,k,none⟩=some (hs (ij k)).v:=h.get d (by
 show((k_ s.c.wt.length).map λ k=>(hs (ij k)).v)[k]? =_;rw[m_,i_ hk];rfl)
theorem iW.x6(h:iW base w G hs cb s){d g:Nat}(e:(hs (kz d)).b=some g){k:Nat}(hk:k<(aA s.c.cl d).length):w.cell? ⟨g,k,none⟩=some (.int .i64 (ai (aA s.c.cl d) k)):=h.get e (by
 rw[x4,nC hk];simp[gT,hk])
theorem aP.DI{w1:World}(h:aP K base w G hs cb s){g0:Nat}(m:(hs 0).b=some g0){k:Nat}(hk:k<s.c.wt.length){h':aq}{l:List Nat}
  (n:j5 base w1 G (iH hs (ij k) h') cb (rA hs s) (tU hs s) s.c.cl.length (iH (cont hs cb s) (ij k) (kU cb l))) (o:Sep K w1 G (iH hs (ij k) h') cb s.c.cl.length):
  aP K base (w1.setCell ⟨g0,k,none⟩ h'.v) G (iH hs (ij k) h') cb (s.p6 k l):=by
 have i:(0:Nat)≠ij k:=by unfold ij;omega
 have p:(iH hs (ij k) h' 0).b=some g0:=by rw[aV _ _ i];exact m
 refine⟨(n.cell p k h'.v).eq rfl rfl ?_ (λ d _=>?_) rfl (λ r=>?_),o.more (kK w1 g0 k _).size⟩
 ·have e:∀r,r<13->iH hs (ij k) h' r=hs r:=λ r q=>aV _ _ (by unfold ij;omega)
  unfold rA oc;rw[e 0 (by omega),e 1 (by omega),e 2 (by omega),e 3 (by omega),e 4 (by omega),e 5 (by omega),e 6 (by omega),e 7 (by omega),e 8 (by omega),e 9 (by omega),e 10 (by omega),e 11 (by omega),e 12 (by omega)];rfl
 ·unfold tU;rw[aV _ _ (show kz d≠ij k by unfold kz ij;omega)];rfl
 ·by_cases f:r=0
  ·subst f;rw[jC,aV _ _ i];show((k_ s.c.wt.length).map λ j=>(hs (ij j)).v).set k h'.v=(k_ (s.c.wt.set k l).length).map λ j=>(iH hs (ij k) h' (ij j)).v
   rw[KZ,u_];refine List.map_congr_left λ j _=>?_
   by_cases e:j=k
   ·subst e;rw[if_pos rfl,jC]
   ·rw[if_neg e,aV _ _ (show ij j≠ij k by unfold ij;omega)]
  ·rw[aV _ _ f]
   by_cases g:r=ij k
   ·subst g;rw[jC,wk];show _=kU cb (aA (s.c.wt.set k l) k);rw[qI,if_pos ⟨rfl,hk⟩]
   ·rw[aV _ _ g];rw[K0 (iH hs (ij k) h') hs cb _ f];exact(Gt hs cb s f g).symm
theorem aP.K1(h:aP K base w G hs cb s){g0:Nat}(f:(hs 0).b=some g0){k:Nat}(hk:k<s.c.wt.length){v':Value}{d:Nat}(p:n9 w base 164 (hs (ij k)).v ((aA s.c.wt k).length+1) (kU cb (aA s.c.wt k++[d])) v' gb):
  ∃h':aq,v'=h'.v/\h'.n=(aA s.c.wt k).length+1/\gb.cell? ⟨g0,k,none⟩=some (hs (ij k)).v/\(∀j,gb.frozen? ⟨g0,j,none⟩=false)/\gb.cell? ⟨G,1,none⟩=some (hs 0).v/\aP K base (gb.setCell ⟨g0,k,none⟩ v') G (iH hs (ij k) h') cb (s.p6 k (aA s.c.wt k++[d]))/\aF K w (gb.setCell ⟨g0,k,none⟩ v'):=by
 obtain⟨g,l,q⟩:=p;have g:gb.ownsRow base (qZ (ij k)) (nW (ij k)) v' ((aA s.c.wt k).length+1) (kU cb (aA s.c.wt k++[d])):=by rw[DG,Aj];exact g
 obtain⟨h',rfl,t,i,u,y⟩:=j5.app h.e h.s (r:=ij k) g l q;have m:(0:Nat)≠ij k:=by unfold ij;omega
 have o:(iH hs (ij k) h' 0).b=some g0:=by rw[aV _ _ m];exact f
 refine⟨h',rfl,t,?_,λ j=>i.rows.free o j,(h.e.after (r:=ij k) (by rw[<-aq.own];exact l) 1).1.trans (h.e.kA rfl),h.DI f hk i u,y.trans (aF.set g0 k _ (h.s.row 0 g0 f))⟩;refine i.get o ?_;rw[aV _ _ m];show((k_ s.c.wt.length).map λ k=>(hs (ij k)).v)[k]? =_;rw[m_,i_ hk];rfl
theorem aP.DJ(h:aP K base w G hs cb s){g0 k d lG oA:Nat}{oZ:Option Addr}{v0 v':Value}(l:(hs 0).b=some g0)(hk:k<s.c.wt.length)(f:hs (ij k)=⟨oZ,lG,oA⟩)(g:lG=(aA s.c.wt k).length)(m:w.cell? ⟨G,1,none⟩=some v0)
  (i:n9 w base 164 (.slice oZ lG oA) (lG+1) (kU cb (aA s.c.wt k)++[.pointer (some ⟨cb d,0,none⟩)]) v' gb):
  ∃(A':Option Addr)(c':Nat),v'=.slice A' (lG+1) c'/\gb.cell? ⟨G,1,none⟩=some v0/\gb.cell? ⟨g0,k,none⟩=some (.slice oZ lG oA)/\(∀j,gb.frozen? ⟨g0,j,none⟩=false)/\aP K base (gb.setCell ⟨g0,k,none⟩ v') G (iH hs (ij k) ⟨A',lG+1,c'⟩) cb (s.p6 k (aA s.c.wt k++[d]))/\aF K w (gb.setCell ⟨g0,k,none⟩ v'):=by
 obtain⟨⟨A',n,c'⟩,o,p,q,f9,r,t,u⟩:=h.K1 (d:=d) l hk (v':=v') (gb:=gb) (by
  rw[f,<-g];rw[show kU cb (aA s.c.wt k)++[Value.pointer (some ⟨cb d,0,none⟩)]=kU cb (aA s.c.wt k++[d]) by simp[kU,tj]] at i;exact i)
 obtain rfl:n=lG+1:=by rw[g];exact p
 refine⟨A',c',o,?_,by rw[q,f];rfl,f9,t,u⟩;rw[r,<-m];exact(h.e.kA rfl).symm
end
end
section
open Go.RowKit
def Am(ws:List (List Nat))(gW:World->Prop)(G:Nat->Value->World->Prop)(dead:Nat->Option Nat)(Init:World->Prop)(mL:Nat)(i:Nat)(w:World)(v:Value)(w':World):Prop:=
 gW w'/\G i v w'/\(∀j u,j≠i->dead j≠some i->pz ws 8 j i=false->(∀c,dead j=some c->pz ws 8 i c=false)->G j u w->G j u w')/\(i≠mL->pz ws 8 i mL=false->Init w->Init w')
theorem Am.same{G:Nat->Value->World->Prop}(b:gW w)(h:G i v w):Am ws gW G dead Init mL i w v w:=⟨b,h,λ _ _ _ _ _ _ h=>h,λ _ _ h=>h⟩
theorem Am.more{G:Nat->Value->World->Prop}{w':World}(hm:∀j u w w',Below w.heap.size w w'->G j u w->G j u w')(c:∀w w',Below w.heap.size w w'->Init w->Init w')(b:Below w.heap.size w w')(d:gW w')(h:G i v w'):Am ws gW G dead Init mL i w v w':=⟨d,h,λ j u _ _ _ _ h=>hm j u w w' b h,λ _ _ h=>c w w' b h⟩
def y4(P:Program)(ds:List (Option Tmp))(ws:List (List Nat))(old:List (Tmp×Value))(gW:World->Prop)(G:Nat->Value->World->Prop)(dead:Nat->Option Nat)(Init:World->Prop)(mL:Nat)(i:Nat)(o:Oper):Prop:=
 ∀(vals:Nat->Value)(w:World)(b:Operand->Value),gW w->(pz ws 8 mL i=true\/i=mL->Init w)->su ds G dead i vals w b o.after.toList->rC ds ws i b old->rD b->
  aZ P b o w (Am ws gW G dead Init mL i w)
def uB(P:Program)(ds:List (Option Tmp))(ws:List (List Nat))(old:List (Tmp×Value))(gW:World->Prop)(G:Nat->Value->World->Prop)(dead:Nat->Option Nat)(Init:World->Prop)(mL:Nat):Nat->List Oper->Prop
 |_,[]=>True
 |k,o::r=>y4 P ds ws old gW G dead Init mL k o/\uB P ds ws old gW G dead Init mL (k+1) r
theorem uB.at{P:Program}{ds:List (Option Tmp)}{ws:List (List Nat)}{old:List (Tmp×Value)}{gW:World->Prop}{G:Nat->Value->World->Prop}{dead:Nat->Option Nat}{Init:World->Prop}{mL:Nat}:∀{l:List Oper}{k i:Nat}{o:Oper},uB P ds ws old gW G dead Init mL k l->l[i]? =some o->y4 P ds ws old gW G dead Init mL (k+i) o
 |[],k,i,o,_,h=>by simp at h
 |x::l,k,0,o,hs,h=>by
  simp only[Zi,Z7] at h;subst h;exact hs.1
 |x::l,k,i+1,o,hs,h=>by
  rw[List.getElem?_cons_succ] at h;have:=uB.at hs.2 h
  rwa[show k+1+i=k+(i+1) by omega] at this
section
variable {P:Program}{l:List Oper}{Q:Exit->Act->World->Prop}{a:Act}{old:List (Tmp×Value)}{gW:World->Prop}{G:Nat->Value->World->Prop}{dead:Nat->Option Nat}{Init:World->Prop}{mL:Nat}
theorem K2{ds:List (Option Tmp)}{ws:List (List Nat)}(S:ws=l.map λ o:Oper=>(o.after.toList.filter (s_ .any)).map (·.on))(D:ds=l.map λ o:Oper=>o.dst)(E:tW l.toArray=true)(z:rY l.toArray=true)(T:tX l.toArray a.tmps.size=true)
  (hold:qt a.eval old)
  {i:Nat} {o:Oper} (p:l.toArray[i]? =some o) (F:y4 P ds ws old gW G dead Init mL i o) {listed:Array Bool} {vals:Nat->Value} {w:World} {K:Act->World->Prop} (an:listed.size=l.toArray.size) (U:gW w) (hF:vX G dead (gY listed) vals w) (H:gY listed mL=false->Init w)
  (V:i∈Z6 .any l.toArray listed) (hC:sv ws (gY listed))
  (W:∀v w',gW w'->sv ws (gY (listed.setIfInBounds i true))->vX G dead (gY (listed.setIfInBounds i true)) (k6 vals i v) w'->(gY (listed.setIfInBounds i true) mL=false->Init w')->K (j3 l.toArray (k6 vals i v) (gY (listed.setIfInBounds i true)) a l.toArray.size) w'):
  wpOp P l.toArray Q i K (j3 l.toArray vals (gY listed) a l.toArray.size) w:=by
 obtain⟨h1,I,X,J,M⟩:=vY V;obtain rfl:o=X:=by rw[p] at J;injection J
 have f:i<listed.size:=by omega
 have n:gY listed i=false:=by
  unfold gY;rw[v_,Zr f] at I⊢;simpa using I
 unfold wpOp;simp only[p];have Y:o.guard=none:=by
  unfold rY at z;rw[f_] at z;have:=z o (Zd p);simpa using this
 have hw:Zu o (yielded l.toArray (j3 l.toArray vals (gY listed) a l.toArray.size).tmps)=true:=by unfold Zu;rw[Y]
 rw[if_pos hw];left;unfold y4 at F;have Z:=F vals w (j3 l.toArray vals (gY listed) a l.toArray.size).eval U (λ q=>H (by
  rcases q with q|q
  ·cases d:gY listed mL with
   |false=>rfl
   |true=>
    have:=hC.reach 8 mL i d q;rw[n] at this;cases this
  ·rw[<-q];exact n)) (su.of λ e he A=>by
  have hl:=M e (Array.mem_toList_iff.1 he) A;have aa:e.on<l.toArray.size:=by
   rcases Zq e.on listed.size with h|h
   ·omega
   ·rw[v_,Array.getElem?_eq_none h] at hl;cases hl
  refine⟨λ r=>hF e.on hl λ c d=>?_,λ s hs=>?_⟩
  ·rcases r with r|r
   ·rw[r] at d;cases d
   ·rw[r] at d;injection d with d
    rw[<-d];exact n
  ·rw[D,<-yL] at hs;exact zZ hs (Dp T hs) hl (λ k hk=>yJ E hk hs) _ aa) (rC.of (λ s hs=>zY (λ j s' hl b B=>by
   injection B with B
   subst B;rw[yL,<-D] at b;have:=hC j i hl (Dn hs b);rw[n] at this;cases this) _) hold) (rD.act _)
 refine Z.wp λ v w' ⟨ab,k2,k3,ad⟩=>?_
 have ae:(j3 l.toArray vals (gY listed) a l.toArray.size).put o.dst v=j3 l.toArray (k6 vals i v) (gY (listed.setIfInBounds i true)) a l.toArray.size:=by
  rw[qp f];have af:pq l.toArray i=o.dst:=by unfold pq;rw[p];rfl
  have:=Bv (ops:=l.toArray) (vals:=vals) (L:=gY listed) (a:=a) (i:=i) (v:=v) (λ j b s hs=>yJ E b hs) n l.toArray.size h1;rw[af] at this;exact this
 rw[ae];have C:sv ws (gY (listed.setIfInBounds i true)):=by
  rw[qp f];intro j k b N;unfold k9 at b⊢
  by_cases e:k=i
  ·rw[if_pos e]
  ·rw[if_neg e]
   by_cases g:j=i
   ·subst g;obtain⟨ao,u,ag,ah,A,ai⟩:=yN S N;rw[p] at u;injection u with u
    subst u;have:=M ag ah A;rw[ai] at this;exact this
   ·rw[if_neg g] at b;exact hC j k b N
 have aj:gY (listed.setIfInBounds i true) mL=false->Init w':=λ h=>by
  rw[qp f] at h;unfold k9 at h
  by_cases e:mL=i
  ·rw[if_pos e] at h;cases h
  ·rw[if_neg e] at h;refine ad (λ g=>e g.symm) ?_ (H h)
   cases t:pz ws 8 i mL with
   |false=>rfl
   |true=>
    have m:=C.reach 8 i mL (by rw[qp f];unfold k9;rw[if_pos rfl]) t;rw[qp f] at m;unfold k9 at m;rw[if_neg e,h] at m;cases m
 refine W v w' ab C (λ j b y=>?_) aj;rw[qp f] at b y
 by_cases e:j=i
 ·subst e;have g:k6 vals j v j=v:=by unfold k6;rw[if_pos rfl]
  rw[g];exact k2
 ·have g:k6 vals i v j=vals j:=by unfold k6;rw[if_neg e]
  have ak:k9 (gY listed) i j=gY listed j:=by unfold k9;rw[if_neg e]
  rw[g];rw[ak] at b;refine k3 j _ e (λ al=>?_) ?_ (λ c d=>?_) (hF j b λ c d=>?_)
  ·have:=y i al;unfold k9 at this;rw[if_pos rfl] at this;cases this
  ·cases t:pz ws 8 j i with
   |false=>rfl
   |true=>
    have:=hC.reach 8 j i b t;rw[n] at this;cases this
  ·cases t:pz ws 8 i c with
   |false=>rfl
   |true=>
    have O:=y c d;have m:=C.reach 8 i c (by rw[qp f];unfold k9;rw[if_pos rfl]) t;rw[qp f] at m;rw[m] at O;cases O
  ·have:=y c d;unfold k9 at this
   by_cases R:c=i
   ·rw[if_pos R] at this;cases this
   ·rw[if_neg R] at this;exact this
def BM(ws:List (List Nat))(n:Nat):Bool:=(k_ n).all λ j=>pz ws 8 n j
theorem K3{ds:List (Option Tmp)}{ws:List (List Nat)}(y:ws=l.map λ o:Oper=>(o.after.toList.filter (s_ .any)).map (·.on))(J:ds=l.map λ o:Oper=>o.dst)(n:Nat)(hlen:l.length=n+1)(K:tW l.toArray=true)(q:rY l.toArray=true)(L:tX l.toArray a.tmps.size=true)(M:vC l.toArray=true)(t:BM ws n=true)(hold:qt a.eval old)
  (N:uB P ds ws old gW G dead Init mL 0 (l.take n))
  (O:∀o vals w,l[n]? =some o->gW w->(∀j,j<n->dead j=none->G j (vals j) w)->aZ P (j3 l.toArray vals (ng n) a n).eval o w λ v w'=>Q .normal ((j3 l.toArray vals (ng n) a n).put o.dst v) w'):
  ∀(fuel:Nat)(listed:Array Bool)(vals:Nat->Value)(w:World),listed.size=l.toArray.size->qf l.toArray listed<=fuel->0<qf l.toArray listed->gY listed n=false->sv ws (gY listed)->gW w->vX G dead (gY listed) vals w->(gY listed mL=false->Init w)->
   wpAny P .any l.toArray Q fuel listed (j3 l.toArray vals (gY listed) a l.toArray.size) w:=by
 intro fuel
 induction fuel with
 |zero=>intro listed vals w p R S;omega
 |succ fuel T=>
  intro listed vals w p R S z hC A hF U;refine⟨λ h=>by have:=Dr M p h;omega,λ i B=>?_⟩;obtain⟨h1,V,o,d,W⟩:=vY B;have C:i<listed.size:=by omega
  have an:i<l.length:=by simpa using h1
  have D:l[i]? =some o:=by rw[List.getElem?_toArray] at d;exact d
  by_cases E:i=n
  ·subst E;have F:∀k,qs ws i k=true->gY listed k=true:=λ k h=>by
    obtain⟨ao,s,e,he,X,Y⟩:=yN y h;rw[d] at s;injection s with s
    subst s;have:=W e he X;rw[Y] at this;exact this
   have u:∀j,j<i->gY listed j=true:=λ j f=>by
    unfold BM at t;simp only[Zm,List.mem_range] at t;have b:=t j f;unfold pz at b;rw[Zg] at b;rcases b with b|b
    ·exact F j b
    ·obtain⟨k,hk,Z⟩:=List.any_eq_true.1 b;exact hC.reach 7 k j (F k (by unfold qs;simpa using hk)) Z
   have aa:j3 l.toArray vals (gY listed) a l.toArray.size=j3 l.toArray vals (ng i) a i:=by
    have ab:l.toArray.size=i+1:=by simp[hlen]
    rw[ab];simp only[j3];rw[z];simp only[Bool.false_eq_true,if_false];exact Bx i λ j f=>by rw[u j f];unfold ng;simp[f]
   rw[aa];unfold wpOp;simp only[d];have ad:o.guard=none:=by
    unfold rY at q;rw[f_] at q;have:=q o (Zd d);simpa using this
   have hw:Zu o (yielded l.toArray (j3 l.toArray vals (ng i) a i).tmps)=true:=by unfold Zu;rw[ad]
   rw[if_pos hw];left;refine(O o vals w D A λ j f ae=>hF j (u j f) λ c H=>by rw[ae] at H;cases H).wp λ v w' af=>?_
   refine wpAny_done ?_ af _;rcases ag:Z6 .any l.toArray (listed.setIfInBounds i true) with _|⟨k,r⟩
   ·rfl
   ·have hk:k∈Z6 .any l.toArray (listed.setIfInBounds i true):=by rw[ag];simp
    obtain⟨b,g,_⟩:=vY hk;exfalso;have aq:k<i+1:=by simpa[hlen] using b
    by_cases e:k=i
    ·subst e;rw[v_,Array.getElem?_setIfInBounds_self_of_lt C] at g
     cases g
    ·have m:=u k (by omega);rw[v_,Array.getElem?_setIfInBounds_ne (λ x=>e x.symm)] at g;unfold gY at m;rw[v_] at m;have ah:k<listed.size:=by omega
     rw[Zr ah] at g m;simp at g m;rw[g] at m;cases m
  ·have ai:y4 P ds ws old gW G dead Init mL i o:=by
    have b:(l.take n)[i]? =some o:=by rw[List.getElem?_take,if_pos (by omega)];exact D
    have:=uB.at N b
    rwa[Nat.zero_add] at this
   refine K2 y J K q L hold d ai p A hF U B hC λ v w' aj ak k2 al=>?_
   have I:gY (listed.setIfInBounds i true) n=false:=by
    rw[qp C];unfold k9;rw[if_neg (λ e=>E e.symm)];exact z
   refine T _ _ w' (by simp[p]) (by have:=Dq (ops:=l.toArray) h1 V;omega) ?_ I ak aj k2 al;rcases Zv (qf l.toArray (listed.setIfInBounds i true)) with b|b
   ·have:=yM (ops:=l.toArray) (listed:=listed.setIfInBounds i true) (by simp[p]) b n (by simp[hlen]);rw[I] at this;cases this
   ·exact b
end
theorem An(l:List Oper)(n N:Nat)(ds:List (Option Tmp))(ws:List (List Nat))(old:List (Tmp×Value))(gW:World->Prop)(G:Nat->Value->World->Prop)(dead:Nat->Option Nat)(Init:World->Prop)(mL:Nat)
  (q:ops=l.toArray) (hm:P.follows .mixedOrders=true)
  (m:ds=l.map λ o:Oper=>o.dst) (r:ws=l.map λ o:Oper=>(o.after.toList.filter (s_ .any)).map (·.on)) (hlen:l.length=n+1) (s:tW l.toArray=true) (t:rY l.toArray=true) (u:vC l.toArray=true) (y:BM ws n=true) (z:tX l.toArray N=true)
  (A:a.tmps.size=N) (hold:qt a.eval old) (B:gW w.drew) (C:Init w.drew)
  (D:uB P ds ws old gW G dead Init mL 0 (l.take n))
  (ol:Oper) (E:l[n]? =some ol) (F:∀vals w,gW w->(∀j,j<n->dead j=none->G j (vals j) w)->∀f,oJ (ds.take n) 0 vals a=f->aZ P f.eval ol w λ v w'=>Q .normal (f.put ol.dst v) w'):(Code.region id ops true).wp P Q a w:=by
 subst q;subst A;refine wp_region_any hm ?_;have H:∀o vals w,l[n]? =some o->gW w->(∀j,j<n->dead j=none->G j (vals j) w)->aZ P (j3 l.toArray vals (ng n) a n).eval o w λ v w'=>Q .normal ((j3 l.toArray vals (ng n) a n).put o.dst v) w':=by
  intro o vals w d I J;rw[E] at d;injection d with d
  subst d;rw[Bw l vals a n n (j_ _) (by omega),<-m];exact F vals w I J _ rfl
 have b:∀k,gY (o_ l.toArray.size false) k=false:=λ k=>by
  unfold gY;rw[v_,Array.getElem?_replicate];split<;>rfl
 have e:a=j3 l.toArray (λ _=>undef) (gY (o_ l.toArray.size false)) a l.toArray.size:=by
  have:∀k,j3 l.toArray (λ _=>undef) (gY (o_ l.toArray.size false)) a k=a:=by
   intro k
   induction k with
   |zero=>rfl
   |succ k K=>
    simp only[j3];rw[b k,K];simp
  exact(this _).symm
 have p:=K3 (P:=P) (Q:=Q) (a:=a) (gW:=gW) (G:=G) (dead:=dead) (Init:=Init) (mL:=mL) r m n hlen s t z u y hold D H l.toArray.size (o_ l.toArray.size false) (λ _=>undef) w.drew (by simp)
  (by unfold qf;exact Nat.le_trans (List.length_filter_le _ _) (by simp)) ?_ (b n) (λ j i c=>by rw[b j] at c;cases c) B (λ j c=>by rw[b j] at c;cases c) (λ _=>C)
 ·rw[<-e] at p;exact p
 ·rcases Zv (qf l.toArray (o_ l.toArray.size false)) with g|g
  ·have:=yM (ops:=l.toArray) (listed:=o_ l.toArray.size false) (by simp) g n (by simp[hlen]);rw[b n] at this;cases this
  ·exact g
end
section
open Go.RowKit
def w8:Code->Nat->Option (List Oper)
 | .region id ops _,k=>if id=k then some ops.toList else none
 | .seq x y,k=>(w8 x k).or (w8 y k)
 | .cond _ x y,k=>(w8 x k).or (w8 y k)
 | .block _ x,k=>w8 x k
 | .loop x,k=>w8 x k
 | .scope x,k=>w8 x k
 |_,_=>none
def DK(f:Func)(k:Nat):List Oper:=(f.body.bind λ c=>w8 c k).getD []
def pI(ds:List (Option Tmp))(cs:List Value)(b c:Nat)(d:Operand->Value):List Edge->Prop
 |[]=>True
 |e::r=>(s_ .any e=true->e.on≠b->e.on≠c->∀s,qq ds e.on=some s->d (.tmp s)=cs.getD e.on undef)/\pI ds cs b c d r
def K4(P:Program)(ds:List (Option Tmp))(ws:List (List Nat))(old:List (Tmp×Value))(S:World->Prop)(cs:List Value)(c:World)(lg kQ i:Nat)(o:Oper):Prop:=
 ∀(b:Operand->Value)(w:World),S w->(pz ws 8 lg i=true->w=c)->pI ds cs lg kQ b o.after.toList->qt b old->rD b->aZ P b o w λ v w'=>v=cs.getD i undef/\w'=w
def BN(P:Program)(ds:List (Option Tmp))(ws:List (List Nat))(old:List (Tmp×Value))(S:World->Prop)(cs:List Value)(b:World)(lg kQ:Nat):Nat->List Oper->Prop
 |_,[]=>True
 |k,o::r=>(k≠lg->k≠kQ->K4 P ds ws old S cs b lg kQ k o)/\BN P ds ws old S cs b lg kQ (k+1) r
def y5(ds:List (Option Tmp))(old:List (Tmp×Value)):Bool:=old.all λ p=>ds.all λ d=>d !=some p.1
theorem K5{ds:List (Option Tmp)}{s:Tmp}(h:(ds.all λ d=>d !=some s)=true):yK ds ws i s=true:=by
 unfold yK;rw[Zm];intro j b;rw[List.mem_range] at b;rw[Zm] at h;have:=h ds[j] (List.getElem_mem b);rw[Zg];left;unfold qq;rw[y_,Zl b];exact this
theorem rC.ok{ds:List (Option Tmp)}{ws:List (List Nat)}{i:Nat}{aC:Operand->Value}:∀{old:List (Tmp×Value)},y5 ds old=true->rC ds ws i aC old->qt aC old
 |[],_,_=>trivial
 |p::r,h,b=>by
  unfold y5 at h;rw[List.all_cons,Zk] at h;exact⟨b.1 (K5 h.1),rC.ok (old:=r) h.2 b.2⟩
theorem gE.mono{P:Program}{p q:Value->World->Prop}(b:∀v w,p v w->q v w):∀{r:Result Next},gE P p r->gE P q r:=by
 intro r h;unfold gE at*;split at h<;>first|exact b _ _ h|exact Calls.mono h (λ e w' ⟨v,h1,c⟩=>⟨v,h1,b _ _ c⟩)|exact h.elim
theorem aZ.mono{P:Program}{aC:Operand->Value}{o:Oper}{w:World}{p q:Value->World->Prop}(h:aZ P aC o w p)(b:∀v w,p v w->q v w):aZ P aC o w q:=gE.mono b h
theorem va{aC:Operand->Value}{post:Value->World->Prop}(f:FuncId)(xs:Array Operand)(b:Array TypeId)(c:o.op=.call {callee:=.value (.func f),args:=xs,argTypes:=b})(he:∀args w,(callFunc f args).run P w=.ok (.enter f args) w)(hp:rD aC)
  (h:Calls P f (xs.map aC) w λ e w'=>∃v,e=.returned v/\post v w'):aZ P aC o w post:=by
 unfold aZ;simp only[execOp,c,resolve,hp.2.2 f,Deferred.ofValue,invoke,Z4,Z5,Zt,Array.append_empty,Array.empty_append,he,gE];exact h
section
variable {P:Program}{ds:List (Option Tmp)}{ws:List (List Nat)}{old:List (Tmp×Value)}{S:World->Prop}{cs:List Value}{lg kQ:Nat}{ji:World}{aO:Value->World->Prop}
def sO(cs:List Value)(lg kQ:Nat)(ji:World)(aO:Value->World->Prop)(j:Nat)(v:Value)(w:World):Prop:=
 if j=kQ then aO v w else if j=lg then v=cs.getD lg undef/\w=ji else v=cs.getD j undef
def w9(lg kQ:Nat)(j:Nat):Option Nat:=if j=lg then some kQ else none
theorem pI.of{i:Nat}{vals:Nat->Value}{w:World}{aC:Operand->Value}(c:i≠kQ):∀{l:List Edge},su ds (sO cs lg kQ ji aO) (w9 lg kQ) i vals w aC l->pI ds cs lg kQ aC l
 |[],_=>trivial
 |e::r,h=>⟨λ d h1 f s hs=>by
  obtain⟨b,g⟩:=h.1 d;have b:=b (Or.inl (if_neg h1));unfold sO at b;rw[if_neg f,if_neg h1] at b;rw[g s hs,b],pI.of c h.2⟩
theorem pI.Gu{vals:Nat->Value}{w:World}{aC:Operand->Value}(f:lg≠kQ):∀{l:List Edge},su ds (sO cs lg kQ ji aO) (w9 lg kQ) kQ vals w aC l->pI ds cs kQ kQ aC l
 |[],_=>trivial
 |e::r,h=>⟨λ g h1 _ s hs=>by
  obtain⟨b,i⟩:=h.1 g;have b:=b (by unfold w9;by_cases d:e.on=lg;exact .inr (if_pos d);exact .inl (if_neg d));unfold sO at b;rw[if_neg h1] at b;rw[i s hs]
  by_cases c:e.on=lg
  ·rw[if_pos c] at b;rw[b.1,c]
  ·rw[if_neg c] at b;exact b,pI.Gu f h.2⟩
theorem pI.world{vals:Nat->Value}{w:World}{aC:Operand->Value}(c:lg≠kQ):∀{l:List Edge},(l.any λ e=>s_ .any e&&e.on==lg)=true->su ds (sO cs lg kQ ji aO) (w9 lg kQ) kQ vals w aC l->w=ji
 |[],h,_=>by cases h
 |e::r,h,d=>by
  rw[List.any_cons,Zg] at h;rcases h with h|h
  ·rw[Zk,beq_iff_eq] at h;have b:=(d.1 h.1).1 (.inr (by unfold w9;rw[if_pos h.2]));unfold sO at b;rw[if_neg (by rw[h.2];exact c),if_pos h.2] at b;exact b.2
  ·exact pI.world c h d.2
theorem Gv{mQ:World}(i:lg≠kQ)(y:y5 ds old=true)(d:pz ws 8 kQ lg=true)
  (I:S mQ) (z:S ji) (A:∀v w',aO v w'->S w') {l:List Oper}
  (B:∀o,l[kQ]? =some o->(o.after.toList.any λ e=>s_ .any e&&e.on==lg)=true)
  (C:∀o,l[lg]? =some o->∀b,pI ds cs lg kQ b o.after.toList->qt b old->rD b->aZ P b o mQ λ v w'=>v=cs.getD lg undef/\w'=ji)
  (D:∀o,l[kQ]? =some o->∀b,pI ds cs kQ kQ b o.after.toList->qt b old->rD b->aZ P b o ji aO)
  (J:BN P ds ws old S cs mQ lg kQ 0 l):
  ∀(r:List Oper)(k:Nat),(∀j,r[j]? =l[k+j]?)->BN P ds ws old S cs mQ lg kQ k r->uB P ds ws old S (sO cs lg kQ ji aO) (w9 lg kQ) (λ w=>w=mQ) lg k r
 |[],_,_,_=>trivial
 |o::r,k,hl,hs=>by
  refine⟨?_,Gv i y d I z A B C D J r (k+1) (λ j=>by rw[<-show(o::r)[j+1]? =r[j]? from rfl,hl (j+1)];congr 1;omega) hs.2⟩;intro vals w b E F f K hp;have m:=rC.ok y K;have n:l[k]? =some o:=by have:=hl 0;simpa using this.symm
  by_cases c:k=kQ
  ·subst c;have hw:=pI.world i (B o n) f;subst hw;have g:=D o n b (pI.Gu i f) m hp;refine aZ.mono g λ v w' h=>⟨A v w' h,by unfold sO;rw[if_pos rfl];exact h,λ j u p L _ _ q=>?_,λ _ G=>by rw[d] at G;cases G⟩
   unfold sO at*;rw[if_neg p] at*;have s:j≠lg:=λ e=>L (by unfold w9;rw[if_pos e])
   rw[if_neg s] at*;exact q
  ·by_cases t:k=lg
   ·subst t;have hw:=F (.inr rfl);subst hw;have g:=C o n b (pI.of c f) m hp;refine aZ.mono g λ v w' h=>?_
    obtain⟨rfl,rfl⟩:=h;refine⟨z,by unfold sO;rw[if_neg c,if_pos rfl];exact⟨rfl,rfl⟩,λ j u p _ H _ q=>?_,λ h=>absurd rfl h⟩;have s:j≠kQ:=λ e=>by rw[e,d] at H;cases H
    unfold sO at*;rw[if_neg s,if_neg p] at*;exact q
   ·have g:=hs.1 t c b w E (λ d=>F (.inl d)) (pI.of c f) m hp;refine aZ.mono g λ v w' h=>?_
    obtain⟨rfl,rfl⟩:=h;exact .same E (by unfold sO;rw[if_neg c,if_neg t])
end
theorem Ao(l:List Oper)(n lg kQ N:Nat)(ds:List (Option Tmp))(ws:List (List Nat))(old:List (Tmp×Value))(S:World->Prop)(cs:List Value)(ji:World)(aO:Value->World->Prop)
  (z:ops=l.toArray) (hm:P.follows .mixedOrders=true)
  (A:ds=l.map λ o:Oper=>o.dst) (B:ws=l.map λ o:Oper=>(o.after.toList.filter (s_ .any)).map (·.on)) (hlen:l.length=n+1) (p:(tW l.toArray&&rY l.toArray&&vC l.toArray&&BM ws n&&tX l.toArray N&&y5 ds old&&pz ws 8 kQ lg&&decide (lg<kQ)&&decide (kQ<n)&&((l.getD kQ default).after.toList.any λ e=>s_ .any e&&e.on==lg))=true)
  (C:a.tmps.size=N) (hold:qt a.eval old) (q:S w.drew) (D:S ji) (E:∀v w',aO v w'->S w')
  (F:∀b,pI ds cs lg kQ b (l.getD lg default).after.toList->qt b old->rD b->aZ P b (l.getD lg default) w.drew λ v w'=>v=cs.getD lg undef/\w'=ji)
  (G:∀b,pI ds cs kQ kQ b (l.getD kQ default).after.toList->qt b old->rD b->aZ P b (l.getD kQ default) ji aO)
  (s:BN P ds ws old S cs w.drew lg kQ 0 (l.take n))
  (H:∀u v w',aO v w'->∀c,oJ (ds.take n) 0 (k6 (k6 (λ j=>cs.getD j undef) lg u) kQ v) a=c->aZ P c.eval (l.getD n default) w' λ v w'=>Q .normal (c.put (l.getD n default).dst v) w'):(Code.region id ops true).wp P Q a w:=by
 simp only[Zk,decide_eq_true_eq] at p;obtain⟨⟨⟨⟨⟨⟨⟨⟨⟨c1,c2⟩,c3⟩,c4⟩,c5⟩,c6⟩,I⟩,V⟩,c9⟩,J⟩:=p;have m:∀k o,l[k]? =some o->l.getD k default=o:=λ k o h=>by rw[y_,h];rfl
 have gt:∀k o,(l.take n)[k]? =some o->l[k]? =some o/\k<n:=λ k o h=>by
  rw[List.getElem?_take] at h;split at h
  ·exact⟨h,by assumption⟩
  ·cases h
 have K:l[n]? =some (l.getD n default):=by rw[y_,Zl (by omega)];rfl
 refine An l n N ds ws old S (sO cs lg kQ ji aO) (w9 lg kQ) (λ w'=>w'=w.drew) lg z hm A B hlen c1 c2 c3 c4 c5 C hold q rfl (Gv (l:=l.take n) (by omega) c6 I q D E ?_ ?_ ?_ s _ 0 (λ j=>by rw[Nat.zero_add]) s) _ K ?_
 ·intro o h;rw[<-m _ _ (gt _ _ h).1];exact J
 ·intro o h;rw[<-m _ _ (gt _ _ h).1];exact F
 ·intro o h;rw[<-m _ _ (gt _ _ h).1];exact G
 ·intro vals w' W t c L;have M:∀j,j<n->vals j=k6 (k6 (λ j=>cs.getD j undef) lg (vals lg)) kQ (vals kQ) j:=λ j O=>by
   unfold k6
   by_cases e:j=kQ
   ·rw[if_pos e,e]
   ·rw[if_neg e]
    by_cases i:j=lg
    ·rw[if_pos i,i]
    ·rw[if_neg i];have:=t j O (if_neg i);unfold sO at this
     rwa[if_neg e,if_neg i] at this
  have R:aO (vals kQ) w':=by
   have:=t kQ c9 (if_neg (by omega));unfold sO at this
   rwa[if_pos rfl] at this
  refine H (vals lg) (vals kQ) w' R c ?_;rw[<-L];have T:∀(r:List (Option Tmp))(k:Nat)(f g:Nat->Value)(a:Act),(∀j,k<=j->j<k+r.length->f j=g j)->oJ r k f a=oJ r k g a:=by
   intro r
   induction r with
   |nil=>intros;rfl
   |cons d r U=>
    intro k f g a h;rw[oJ,oJ,h k (j_ _) (by rw[Zo];omega)];exact U _ _ _ _ λ j h1 y=>h j (by omega) (by rw[Zo];omega)
  exact(T _ _ _ _ _ λ j _ y=>M j (by rw[g_] at y;omega)).symm
end
section
open Go.RowKit Go.Shelf
def uC(s:an)(l:List Int)(d:Nat):Nat->an
 |0=>s
 |j+1=>(uC s l d j).p6 (jy (-(ai l j))) (aA (uC s l d j).c.wt (jy (-(ai l j)))++[d])
theorem Gw(s:an)(l:List Int)(d:Nat):uC s l d 2={s with c:={s.c with wt:=wQ s.c.wt l d}}:=rfl
theorem BP:∀args w,(callFunc 181 args).run x_ w=.ok (.enter 181 args) w:=enters_of Tryz.func181 (by kernel_rfl) rfl
theorem Gx(s:an)(l:List Int)(d:Nat):∀j,(uC s l d j).c.wt.length=s.c.wt.length
 |0=>rfl
 |j+1=>by show(List.set _ _ _).length=_;rw[u_];exact Gx s l d j
theorem Gy(s:an)(l:List Int)(d:Nat):∀j,(uC s l d j).c.cl=s.c.cl
 |0=>rfl
 |j+1=>Gy s l d j
theorem Gz(s:an)(l:List Int)(d k:Nat):∀j,(aA (uC s l d j).c.wt k).length<=(aA s.c.wt k).length+j
 |0=>j_ _
 |j+1=>by
  have:=Gz s l d k j;show(aA (List.set _ _ _) k).length<=_;rw[qI];split
  ·rename_i h;rw[w_,h.1];simp only[r_];omega
  ·omega
def K6(K:Nat->Prop)(base:Nat)(w:World)(G:Nat)(cb:Nat->Nat)(s s':an)(e:Ending)(w':World):Prop:=
 e=.returned (.tuple #[])/\∃hs',aP K base w' G hs' cb s'/\aF K w w'
def K7(K:Nat->Prop)(base:Nat)(w:World)(G:Nat)(cb:Nat->Nat)(s s':an)(d:Nat)(b:aq)(e:Ending)(w':World):Prop:=
 e=.returned (.tuple #[])/\∃hs',aP K base w' G hs' cb s'/\aF K w w'/\hs' (kz d)=b
theorem GA(h:aP K base w G hs cb s){d:Nat}(f:d<s.c.cl.length)(z:2<=(aA s.c.cl d).length)(hl:∀x∈aA s.c.cl d,gF s.c.n x)(a':s.c.n<=60000)(ah:s.c.wt.length=2*s.c.n+2)(B:∀k,(aA s.c.wt k).length<=1000000):
  Calls x_ 180 #[.pointer (some ⟨G,0,none⟩),.pointer (some ⟨cb d,0,none⟩)] w (K7 K base w G cb s (uC s (aA s.c.cl d) d 2) d (hs (kz d))):=by
 obtain⟨c0,-,-,-,aC⟩:=h.Ae f;obtain⟨m0,I⟩:∃m0,(aA s.c.cl d).length=m0:=⟨_,rfl⟩
 obtain⟨bk,aD,S,aj⟩:=h.e.wV (r:=kz d) (m:=m0) ((h.e.Al d).trans I) (by omega);have cap:=h.e.x2 S;rw[h.e.Al,I] at cap;rw[aj] at c0;obtain⟨T,ak⟩:∃T,(hs (kz d)).c=T:=⟨_,rfl⟩
 rw[ak] at c0 cap;have lc:(2:Int)<=(T:Int):=by omega
 have H:=U h;have aE:=U S;have L:=U (z_ I (z_ hl (z_ f (z_ z (z_ ah B)))));clear h S I hl f z ah B aj aD ak aC;go_enter Tryz.func180,Tryz.ntmps180
 go_wp2_with fail
 go_loopw [5,12] (λ _ V W=>∃(j:Nat)(i:Nat->aq),j<=2/\V=.int .i64 j/\i 0=hs 0/\i (kz d)=hs (kz d)/\aP K base W G i cb (uC s (aA s.c.cl d) d j)/\aF K w W) (λ _ V _=>2-(intOf V).toNat)
 case atStart=>exact⟨0,hs,by omega,rfl,rfl,rfl,H.o,aF.refl⟩
 case round=>
  obtain⟨j,i,aG,rfl,al,h1,ao,hF⟩:=hrel;have E:=U ao;have F:=U hF;have J:=U (z_ al h1);clear ao hF al h1
  by_cases ar:j<2
  ·have aH:(j:Int)<2:=by omega
   have au:=U ar;obtain⟨s1,C⟩:∃s1,uC s (aA s.c.cl d) d j=s1:=⟨_,rfl⟩
   have y:bF (aP K base wr G i cb s1):=U (C▸E.o);have M:s1.c.cl=s.c.cl:=by rw[<-C];exact Gy _ _ _ _
   have B:s1.c.wt.length=2*s.c.n+2:=by rw[<-C,Gx];exact L.o.2.2.2.2.1
   obtain⟨x,N⟩:∃x,ai (aA s.c.cl d) j=x:=⟨_,rfl⟩
   have Y:j<(aA s.c.cl d).length:=by have:=L.o;omega
   have Z:gF s.c.n x:=by rw[<-N];exact L.o.2.1 _ (lY Y)
   have ba: -60000<=x/\x<=60000:=by have:=Z.2;unfold aI at this;omega
   obtain⟨k,hk⟩:∃k:Nat,jy (-x)=k:=⟨_,rfl⟩
   have aJ:k<2*s.c.n+2:=by rw[<-hk];exact Z.neg.at
   have av:(i (kz d)).b=some bk:=by rw[J.o.2];exact aE.o
   have aK:=y.o.e.x6 av (k:=j) (by rw[M];exact Y);rw[M,N] at aK;obtain⟨g0,aa,aL,f0⟩:=y.o.e.lN 1 0 rfl (y.o.e.jj.trans B) (by omega);have O:=y.o.e.x5 aa (k:=k) (by omega);obtain⟨l,g,p,P⟩:∃A n c,i (ij k)=⟨A,n,c⟩:=⟨_,_,_,rfl⟩
   have ab:g=(aA s1.c.wt k).length:=by have:=y.o.e.Ak k;rw[P] at this;exact this
   rw[P] at O;have O:wr.cell? ⟨g0,k,none⟩=some (.slice l g p):=O;have aw:g<=1000002:=by rw[ab,<-C];have:=Gz s (aA s.c.cl d) d k j;have:=L.o.2.2.2.2.2 k;omega
   have wn:n_.wrap (-x)= -x:=IntWalk.i64_in _ (by omega);have ax:(k:Int)<2*(s.c.n:Int)+2:=by omega
   have D:=U aa;have X:=U (z_ C (z_ N (z_ hk (z_ P (z_ ab (z_ aw (z_ M B)))))));clear aG ar C N Y Z hk aJ av aa P ab aw M B
   go_upto_region 3 with fail
   have q:=U (y.o.below ((bg wr (.cells #[.pointer (some ⟨cb d,0,none⟩)] 164)).drew));have hp:((wr.alloc (.cells #[.pointer (some ⟨cb d,0,none⟩)] 164)).drew).cell? ⟨wr.heap.size,0,none⟩=some (.pointer (some ⟨cb d,0,none⟩)):=by go_simp
   have aM:=U (rH.one hp);have aN:bF (((wr.alloc (.cells #[.pointer (some ⟨cb d,0,none⟩)] 164)).drew).ownsRow base 164 1 (.slice l g p) g (kU cb (aA s1.c.wt k))):=U (by
    have:=q.o.1.e.rows.row (ij k);rw[DG,Aj,X.o.2.2.2.1,wk] at this;exact this)
   have aO:=U (Nat.le_of_lt q.o.1.e.lt);clear hp;have ad:bF (k<s1.c.wt.length):=U (by rw[X.o.2.2.2.2.2.2.2];have:=ax;omega);have aQ:bF (∀w:World,Calls x_ 181 #[.int .i64 (-x)] w λ e w'=>e=.returned (.int .i64 (k:Int))/\w=w'):=U (λ w=>by have:=Dt (-x) w (by omega) (by omega);rw[X.o.2.2.1] at this;exact this);have aR:bF (uC s (aA s.c.cl d) d (j+1)=s1.p6 k (aA s1.c.wt k++[d])):=U (by show(uC s (aA s.c.cl d) d j).p6 _ _=_;rw[X.o.1,X.o.2.1,X.o.2.2.1]);have bb:G≠g0:=y.o.e.uz 0 g0 D.o;have aS:wr.drew.cell? ⟨g0,k,none⟩=some (.slice l g p):=O;have Q:=q.o.1.e.x5 D.o (k:=k) ad.o;rw[X.o.2.2.2.1] at Q;have Q:((wr.alloc (.cells #[.pointer (some ⟨cb d,0,none⟩)] 164)).drew).cell? ⟨g0,k,none⟩=some (.slice l g p):=Q;have ae:=q.o.1.e.rE 1 D.o (q.o.1.e.jj.trans X.o.2.2.2.2.2.2.2) rfl;have aT:wr.drew.cell? ⟨G,1,none⟩=some (.slice (some ⟨g0,0,none⟩) (2*s.c.n+2) (i 0).c):=aL;have bc:((wr.alloc (.cells #[.pointer (some ⟨cb d,0,none⟩)] 164)).drew).heap.size=wr.heap.size+1:=by simp
   refine Ao (tq Tryz.f180 3) 20 17 18 37 [some 16,some 17,some 18,some 19,some 20,some 21,some 22,some 23,some 24,some 25,some 26,some 27,some 28,some 29,some 30,some 31,some 32,some 33,some 34,some 35,none] _ [(0,.pointer (some ⟨G,0,none⟩)),(1,.pointer (some ⟨(cb d),0,none⟩)),(5,.int .i64 x)] (λ w':World=>w'.cell? ⟨G,1,none⟩=some (.slice (some ⟨g0,0,none⟩) (2*s.c.n+2) (i 0).c)/\w'.cell? ⟨g0,k,none⟩=some (.slice l g p)) [.pointer (some ⟨G,0,none⟩),.pointer (some ⟨G,0,none⟩),.pointer (some ⟨G,1,none⟩),.slice (some ⟨g0,0,none⟩) (2*s.c.n+2) (i 0).c,.int .i64 x,.int .i64 (-x),.int .i64 (k:Int),.pointer (some ⟨G,0,none⟩),.pointer (some ⟨G,0,none⟩),.pointer (some ⟨G,1,none⟩),.slice (some ⟨g0,0,none⟩) (2*s.c.n+2) (i 0).c,.int .i64 x,.int .i64 (-x),.int .i64 (k:Int),.pointer (some ⟨g0,k,none⟩),.slice l g p,.pointer (some ⟨(cb d),0,none⟩),.slice (some ⟨wr.heap.size,0,none⟩) 1 1,undef,.pointer (some ⟨g0,k,none⟩)] ((wr.alloc (.cells #[.pointer (some ⟨cb d,0,none⟩)] 164)).drew) (λ v w'=>n9 ((wr.alloc (.cells #[.pointer (some ⟨cb d,0,none⟩)] 164)).drew) base 164 (.slice l g p) (g+1) (kU cb (aA s1.c.wt k)++[.pointer (some ⟨cb d,0,none⟩)]) v w') (by kernel_rfl) (by kernel_rfl) (by kernel_rfl) rfl (by kernel_rfl) (by kernel_rfl) rfl ⟨rfl,rfl,rfl,trivial⟩ ⟨aT,aS⟩ ⟨ae,Q⟩ (λ v w' af=>?_) (λ t f R hp=>?_) (λ t f R hp=>?_) ?_ ?_
   ·obtain⟨A',c',rfl,ay,ag,-⟩:=aP.DJ (d:=d) q.o.1 D.o ad.o X.o.2.2.2.1 X.o.2.2.2.2.1 ae af;exact⟨ay,ag⟩
   ·obtain⟨-,az,-⟩:=R;have f:t (.tmp 32)=_:=(f.1 rfl (by decide) (by decide) _ rfl)
    change t (.tmp 32)=.pointer (some ⟨cb d,0,none⟩) at f;show aZ _ _ (Oper.mk _ _ _ _ _ _) _ _;simp[aZ,execOp,gE,go_sem,f]
   ·have h1:t (.tmp 31)=.slice l g p:=f.1 rfl (by decide) (by decide) _ rfl;have z:t (.tmp 33)=.slice (some ⟨wr.heap.size,0,none⟩) 1 1:=f.2.1 rfl (by decide) (by decide) _ rfl;obtain⟨v',w',g1,g2⟩:=DA ((wr.alloc (.cells #[.pointer (some ⟨cb d,0,none⟩)] 164)).drew) 160 base (.slice l g p) g (kU cb (aA s1.c.wt k)) aN.o (some ⟨wr.heap.size,0,none⟩) 1 1 _ aM.o (by have:=X.o.2.2.2.2.2.1;omega) aO.o;show aZ _ _ (Oper.mk _ _ _ _ _ _) _ _;simp only[aZ,execOp,resolve,invoke,builtin,Z4,Z5,Zt,List.map_toArray,Z3,List.map_nil,h1,z,g1,gE];exact g2
   ·refine⟨?_,?_,?_,?_,?_,?_,?_,?_,?_,?_,?_,?_,?_,?_,?_,?_,?_,?_,?_,?_,trivial⟩
    all_goals
     intro h1 z t w aU _ f R hp
     first
      |exact absurd rfl h1
      |exact absurd rfl z
      |(obtain⟨aW,az,aX,-⟩:=R;obtain⟨s1,s2⟩:=aU;(try simp[pI,qq,s_] at f);simp[aZ,execOp,gE,go_sem,aW,az,aX,f,s1,s2,wn,ax];done)
      |((try simp[pI,qq,s_] at f);(first|refine va 181 #[.tmp 21] #[3] rfl BP hp ?_|refine va 181 #[.tmp 28] #[3] rfl BP hp ?_);(first|rw[show(#[Operand.tmp 21].map t)= #[.int .i64 (-x)] by simp[f]]|rw[show(#[Operand.tmp 28].map t)= #[.int .i64 (-x)] by simp[f]]);exact(aQ.o w).mono λ e w' h=>⟨_,h.1,rfl,h.2.symm⟩)
   intro u v9 gb af bd aB;obtain⟨A',c',rfl,ay,ag,f9,aY,a6⟩:=aP.DJ (d:=d) q.o.1 D.o ad.o X.o.2.2.2.1 X.o.2.2.2.2.1 ae af;have a7:=f9 k;simp[oJ,Act.put,k6] at aB;subst aB;show aZ _ _ (Oper.mk _ _ _ _ _ _) _ _;simp[aZ,execOp,gE,go_sem,Act.eval,ag,a7];have a8:=F.o.trans (q.o.2.trans a6);have bf:n_.wrap ((j:Int)+1)=(j:Int)+1:=IntWalk.i64_in _ (by omega);go_wp2;go_roundw
   case rel=>exact⟨j+1,_,by have:=au.o;omega,by go_num,(aV _ _ (show(0:Nat)≠ij k by unfold ij;omega)).trans J.o.1,(aV _ _ (show kz d≠ij k by unfold ij kz;omega)).trans J.o.2,by rw[aR.o];exact aY,a8⟩
   case measure=>have:=au.o;simp[intOf];omega
  ·obtain rfl:j=2:=by omega
   have aH:¬((2:Nat):Int)<2:=by omega
   go_wp2_with fail
   go_end0;exact⟨rfl,i,E.o,F.o,J.o.2⟩
theorem K8(h:aP K base w G hs cb s){d:Nat}(f:d<s.c.cl.length)(b:2<=(aA s.c.cl d).length)(hl:∀x∈aA s.c.cl d,gF s.c.n x)(g:s.c.n<=60000)(i:s.c.wt.length=2*s.c.n+2)(j:∀k,(aA s.c.wt k).length<=1000000):
  Calls x_ 180 #[.pointer (some ⟨G,0,none⟩),.pointer (some ⟨cb d,0,none⟩)] w (K6 K base w G cb s (uC s (aA s.c.cl d) d 2)):=
 (GA h f b hl g i j).mono λ e w' ⟨h1,hs',b,l,_⟩=>⟨h1,hs',b,l⟩
end
end Go.Proofs.YtogdlkfacflmaaaGreat
