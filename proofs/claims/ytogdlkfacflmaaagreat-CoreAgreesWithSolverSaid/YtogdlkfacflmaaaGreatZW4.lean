/- Parts of the walk of the solver and its core; no condition. -/
import Derived.Test.YtogdlkfacflmaaaGreatZW3
import Derived.BigRegion
import Derived.Test.YtogdlkfacflmaaaGreatZW1
namespace Go.Proofs.YtogdlkfacflmaaaGreat
set_option linter.unusedVariables false
set_option linter.unusedSimpArgs false
set_option maxRecDepth 100000
set_option maxHeartbeats 4000000
open _root_.And renaming intro→z_
open _root_.List renaming getD_eq_getElem?_getD→y_,length_append→x_,length_set→w_,drop_eq_getElem_cons→u_,length_singleton→s_,replicate→q_,mem_append_left→o_,getElem?_eq_none→m_,mem_map→l_,eq_nil_of_length_eq_zero→j_,length_take→i_,getElem?_replicate→h_,drop_zero→d_,mem_cons_of_mem→c_,mem_cons→b_
open _root_.Nat renaming le_refl→v_,add_sub_cancel→t_,lt_or_ge→n_,zero_le→g_
open _root_.Go.RowKit.Below renaming refl→r_
open _root_.Go.Proofs.Tryz renaming prog→p_
open _root_.Int renaming le_trans→k_
open _root_.Go renaming wpQuiet_nil→f_
open _root_.Iff renaming rfl→e_
variable{base G n g7 g8 hM p0 n7 n8:Nat}{w:World}{hs:Nat->ax}{cb:Nat->Nat}{s s':an}{c:Core}{A B A' qS:Int}{K:Nat->Prop}
section
open Go.RowKit Go.Shelf
theorem bB(w:World)(o:Obj):Below w.heap.size w (w.alloc o):=(r_ _ _).alloc (v_ _) _
def JO(base:Nat)(w:World)(G:Nat)(hs:Nat->ax)(cb:Nat->Nat)(s:an)(x:Int)(o:Option Nat)(e:Ending)(w':World):Prop:=
 e=.returned (.tuple #[])/\∃h':ax,jb base w' G (iN hs 4 h') cb {s with c:=k6 s.c x o}/\Fr hs G cb s.c.cl.length w w'/\(h'.b=(hs 4).b\/∃g,h'.b=some g/\w.heap.size<=g)
theorem JP(h:jb base w G hs cb s)(T:base<=w.heap.size)(x:Int)(o:Option Nat)
  (H:aG x<s.c.val.length) (z2:aG x<s.c.lvl.length) (z3:aG x<s.c.j6.length) (U:aG x<=65536) (aj:s.c.ay.length<=1000000) (ak:s.c.st.length<=1000000):
  Calls p_ 156 #[.pointer (some ⟨G,0,none⟩),.int .i64 x,qQ cb o] w (JO base w G hs cb s x o):=by
 obtain⟨g1,I,D,f1⟩:=h.lW 2 1 rfl h.kj (by omega);obtain⟨g2,V,W,f2⟩:=h.lW 3 2 rfl h.mu (by omega);obtain⟨g3,X,z,f3⟩:=h.lW 4 3 rfl h.nN (by omega);obtain⟨m,hm⟩:∃m:Nat,aG x=m:=⟨_,rfl⟩
 have al: -65536<=x/\x<=65536:=by unfold aG at U;omega
 obtain⟨pa,J⟩:∃pa,qQ cb o=.pointer pa:=by cases o with|none=>exact⟨_,rfl⟩|some d=>exact⟨_,rfl⟩
 rw[J];have Y:=aa J;clear J;have ab:(hs 5).n=s.c.st.length:=h.jX;have i:=aa h;have c1:=h.zO I (k:=m) (by rw[<-hm];exact H);have E:=aa hm;have Z:=aa (z_ H (z_ z2 z3));have ao:(m:Int)<(s.c.val.length:Int):=by omega
 have ag:m<s.c.val.length:=by omega
 have ad:m<s.c.lvl.length:=by omega
 have ae:m<s.c.j6.length:=by omega
 have aq:(m:Int)<(s.c.lvl.length:Int):=by omega
 have ar:(m:Int)<(s.c.j6.length:Int):=by omega
 have F:=f1 m;have t:=aa I;have l:=aa V;have p:=aa X;have au:=aa f1;have af:=aa T;clear h I V X f1 f2 f3 hm H z2 z3 U T
 by_cases ah:x<0
 ·go_enter Tryz.func156,Tryz.ntmps156
  go_upto_region 1 with(go_at_call 97;refine(sZ x _ (by omega) (by omega)).mono ?_;rintro e w1 ⟨rfl,rfl⟩;rw[E.o])
  go_upto_region 2 with fail
  have B:=aa (i.o.xQ t.o m 1);generalize g:w.setCell ⟨g1,m,none⟩ (.int .i8 1)=w1 at B;have ai:fE (Fr hs G cb s.c.cl.length w w1):=aa (g▸Fr.cell 1 g1 m _ t.o);clear g D W z c1 F;have D:=B.o.rm 2 t.o (show(hs 1).n=s.c.val.length from i.o.kj) rfl;have c1:=B.o.zO t.o (k:=m) (by show m<(s.c.val.set m 1).length;rw[w_];exact ag);have F:w1.frozen? ⟨g1,m,none⟩=false:=B.o.rows.free t.o m
  go_upto_region 4 with fail
  have b:fE (jb base (w1.setCell ⟨g1,m,none⟩ (.int .i8 (-1))) G hs cb (s.oQ m (-1))):=aa (by
   have:=B.o.xQ t.o m (-1)
   rwa[show(s.oQ m 1).oQ m (-1)=s.oQ m (-1) by simp[an.oQ,List.set_set]] at this)
  generalize g:w1.setCell ⟨g1,m,none⟩ (.int .i8 (-1))=j at b;have K:fE (Fr hs G cb s.c.cl.length w j):=aa (ai.o.trans (g▸Fr.cell 1 g1 m _ t.o));clear g D c1 F;have z:=b.o.rm 3 l.o (show(hs 2).n=s.c.lvl.length from i.o.mu) rfl;have L:=b.o.rm 4 p.o (show(hs 3).n=s.c.j6.length from i.o.nN) rfl;have M:j.cell? ⟨G,6,none⟩=some (.slice (hs 5).A s.c.st.length (hs 5).c):=by rw[<-ab];exact b.o.ku rfl
  have c2:=b.o.vH l.o (k:=m) ad;have c3:=b.o.yB p.o (k:=m) ae;have N:j.frozen? ⟨g2,m,none⟩=false:=b.o.rows.free l.o m;have O:j.frozen? ⟨g3,m,none⟩=false:=b.o.rows.free p.o m;have n23:g2≠g3:=b.o.wO (r:=2) (r':=3) (by omega) l.o p.o;have n32:g3≠g2:=λ e=>n23 e.symm
  go_wp2_with fail
  go_region
  have u:fE (jb base ((j.setCell ⟨g2,m,none⟩ (.int .i64 (s.c.st.length:Int))).setCell ⟨g3,m,none⟩ (.pointer pa)).drew G hs cb (((s.oQ m (-1)).rM m s.c.st.length).qA m o)):=aa (by
   have:=((b.o.E7 l.o m s.c.st.length).zM p.o m o).below (r_ _ _).drew
   rwa[Y.o] at this)
  generalize g:((j.setCell ⟨g2,m,none⟩ (.int .i64 (s.c.st.length:Int))).setCell ⟨g3,m,none⟩ (.pointer pa)).drew=f at u;have y:fE (Fr hs G cb s.c.cl.length w f):=aa (K.o.trans (g▸((Fr.cell 2 g2 m _ l.o).trans (Fr.cell 3 g3 m _ p.o)).trans (Fr.pY (r_ _ _).drew)));clear g z L M c2 c3 N O n23 n32;have P:f.cell? ⟨G,5,none⟩=some (.slice (hs 4).A s.c.ay.length (hs 4).c):=by rw[<-(show(hs 4).n=s.c.ay.length from i.o.j5)];exact u.o.ku rfl
  go_wp2_with (at_builtin;refine uH rfl (.tmp 45) (.tmp 47) rfl base (.slice (hs 4).A s.c.ay.length (hs 4).c) s.c.ay.length s.c.ay rfl (by have:=(u.o.below (bB f (.cells #[.int .i64 x] 3))).rows.row 4;rw[ax.v,i.o.j5] at this;exact this) (some ⟨f.heap.size,0,none⟩) 1 1 [x] rfl (aS.lit f [x] 1 _ rfl rfl (by omega)) (by omega) (by have:=y.o.size;have:=af.o;simp;omega) ?_;intro v9 bG C;obtain⟨A',c',rfl,q,P,f5,Q,R⟩:=jb.Fb (s:=((s.oQ m (-1)).rM m s.c.st.length).qA m o) (x:=x) (u.o.below (bB f (.cells #[.int .i64 x] 3))) (by rw[show(hs 4).v=.slice (hs 4).A s.c.ay.length (hs 4).c by rw[ax.v,i.o.j5]];exact C);clear C)
  go_end0;refine⟨rfl,⟨A',s.c.ay.length+1,c'⟩,?_,(y.o.trans (Fr.pY (bB f _))).trans R,?_⟩
  ·have e:(((s.oQ m (-1)).rM m s.c.st.length).qA m o).yx x={s with c:=k6 s.c x o}:=by
    have S:vC x= -1:=by unfold vC;rw[if_pos ah]
    simp only[an.oQ,an.rM,an.qA,an.yx,k6,E.o,S]
   rw[<-e];exact Q
  ·rcases q with q|q
   ·exact Or.inl q
   ·exact Or.inr ⟨_,q,by have:=y.o.size;simp;omega⟩
 ·go_enter Tryz.func156,Tryz.ntmps156
  go_upto_region 1 with(go_at_call 97;refine(sZ x _ (by omega) (by omega)).mono ?_;rintro e w1 ⟨rfl,rfl⟩;rw[E.o])
  go_upto_region 2 with fail
  have b:=aa (i.o.xQ t.o m 1);generalize g:w.setCell ⟨g1,m,none⟩ (.int .i8 1)=j at b;have K:fE (Fr hs G cb s.c.cl.length w j):=aa (g▸Fr.cell 1 g1 m _ t.o);clear g D W z c1 F;have z:=b.o.rm 3 l.o (show(hs 2).n=s.c.lvl.length from i.o.mu) rfl;have L:=b.o.rm 4 p.o (show(hs 3).n=s.c.j6.length from i.o.nN) rfl;have M:j.cell? ⟨G,6,none⟩=some (.slice (hs 5).A s.c.st.length (hs 5).c):=by rw[<-ab];exact b.o.ku rfl
  have c2:=b.o.vH l.o (k:=m) ad;have c3:=b.o.yB p.o (k:=m) ae;have N:j.frozen? ⟨g2,m,none⟩=false:=b.o.rows.free l.o m;have O:j.frozen? ⟨g3,m,none⟩=false:=b.o.rows.free p.o m;have n23:g2≠g3:=b.o.wO (r:=2) (r':=3) (by omega) l.o p.o;have n32:g3≠g2:=λ e=>n23 e.symm
  go_wp2_with fail
  go_region
  have u:fE (jb base ((j.setCell ⟨g2,m,none⟩ (.int .i64 (s.c.st.length:Int))).setCell ⟨g3,m,none⟩ (.pointer pa)).drew G hs cb (((s.oQ m 1).rM m s.c.st.length).qA m o)):=aa (by
   have:=((b.o.E7 l.o m s.c.st.length).zM p.o m o).below (r_ _ _).drew
   rwa[Y.o] at this)
  generalize g:((j.setCell ⟨g2,m,none⟩ (.int .i64 (s.c.st.length:Int))).setCell ⟨g3,m,none⟩ (.pointer pa)).drew=f at u;have y:fE (Fr hs G cb s.c.cl.length w f):=aa (K.o.trans (g▸((Fr.cell 2 g2 m _ l.o).trans (Fr.cell 3 g3 m _ p.o)).trans (Fr.pY (r_ _ _).drew)));clear g z L M c2 c3 N O n23 n32;have P:f.cell? ⟨G,5,none⟩=some (.slice (hs 4).A s.c.ay.length (hs 4).c):=by rw[<-(show(hs 4).n=s.c.ay.length from i.o.j5)];exact u.o.ku rfl
  go_wp2_with (at_builtin;refine uH rfl (.tmp 45) (.tmp 47) rfl base (.slice (hs 4).A s.c.ay.length (hs 4).c) s.c.ay.length s.c.ay rfl (by have:=(u.o.below (bB f (.cells #[.int .i64 x] 3))).rows.row 4;rw[ax.v,i.o.j5] at this;exact this) (some ⟨f.heap.size,0,none⟩) 1 1 [x] rfl (aS.lit f [x] 1 _ rfl rfl (by omega)) (by omega) (by have:=y.o.size;have:=af.o;simp;omega) ?_;intro v9 bG C;obtain⟨A',c',rfl,q,P,f5,Q,R⟩:=jb.Fb (s:=((s.oQ m 1).rM m s.c.st.length).qA m o) (x:=x) (u.o.below (bB f (.cells #[.int .i64 x] 3))) (by rw[show(hs 4).v=.slice (hs 4).A s.c.ay.length (hs 4).c by rw[ax.v,i.o.j5]];exact C);clear C)
  go_end0;refine⟨rfl,⟨A',s.c.ay.length+1,c'⟩,?_,(y.o.trans (Fr.pY (bB f _))).trans R,?_⟩
  ·have e:(((s.oQ m 1).rM m s.c.st.length).qA m o).yx x={s with c:=k6 s.c x o}:=by
    have S:vC x=1:=by unfold vC;rw[if_neg (by omega)]
    simp only[an.oQ,an.rM,an.qA,an.yx,k6,E.o,S]
   rw[<-e];exact Q
  ·rcases q with q|q
   ·exact Or.inl q
   ·exact Or.inr ⟨_,q,by have:=y.o.size;simp;omega⟩
end
section
open Go.RowKit Go.Shelf
structure Sep(K:Nat->Prop)(w:World)(G:Nat)(hs:Nat->ax)(cb:Nat->Nat)(n:Nat):Prop where
 lt:∀b,K b->b<w.heap.size
 g:¬K G
 row:∀r b,(hs r).b=some b->¬K b
 cl:∀d,d<n->¬K (cb d)
structure aC(K:Nat->Prop)(w w':World):Prop where
 os:w'.os=w.os
 tape:w'.tape=w.tape
 output:w'.output=w.output
 size:w.heap.size<=w'.heap.size
 keep:∀b,K b->w'.heap[b]? =w.heap[b]?
def qC(K:Nat->Prop)(c:Nat):Nat->Prop:=λ b=>K b\/b=c
section
variable {base:Nat}{w w' w1:World}{G:Nat}{hs hs':Nat->ax}{cb:Nat->Nat}{gj:List Value}{cls:Nat->List Value}{n:Nat}{X:Nat->List Value}{K k3:Nat->Prop}
theorem aC.refl:aC K w w:=⟨rfl,rfl,rfl,v_ _,λ _ _=>rfl⟩
theorem aC.trans(h:aC K w w1)(h':aC K w1 w'):aC K w w':=
 ⟨h'.os.trans h.os,h'.tape.trans h.tape,h'.output.trans h.output,Nat.le_trans h.size h'.size,λ b c=>(h'.keep b c).trans (h.keep b c)⟩
theorem aC.mono(h:aC K w w')(hk:∀b,k3 b->K b):aC k3 w w':=⟨h.os,h.tape,h.output,h.size,λ b c=>h.keep b (hk b c)⟩
theorem aC.pY(h:Below w.heap.size w w')(hl:∀b,K b->b<w.heap.size):aC K w w':=⟨h.os,h.tape,h.output,h.size,λ b c=>h.block b (hl b c)⟩
theorem aC.cell(h:aC K w w'){p:Addr}(hk:K p.block):w'.cell? p=w.cell? p:=World.cell?_of_block (h.keep p.block hk)
theorem aC.blk(h:aC K w w'){b:Nat}{t:TypeId}{cs:List Value}(c:aN w b t cs)(hk:K b):aN w' b t cs:=(h.keep b hk).trans c
theorem aC.set(b k:Nat)(v:Value)(hk:¬K b):aC K w (w.setCell ⟨b,k,none⟩ v):=by
 have h:=kZ w b k v;refine⟨h.os,h.tape,h.output,h.size,λ c d=>?_⟩;exact Below.heap_setCell _ _ _ _ (λ e=>hk (by have f:c=b:=e;rw[<-f];exact d))
theorem aC.grown{row:Option Nat}(h:w.grownBy w' row)(hl:∀b,K b->b<w.heap.size)(d:∀b,row=some b->¬K b):aC K w w':=
 ⟨h.os,h.tape,h.output,h.size,λ b c=>h.block b (hl b c) (λ e=>d b e.symm c)⟩
theorem aC.Fc(h:Fr hs G cb n w w')(s:Sep K w G hs cb n):aC K w w':=
 ⟨h.os,h.tape,h.output,h.size,λ b c=>h.keep b (s.lt b c) (λ e=>s.g (e▸c)) (λ r e=>s.row r b e c) (λ d f e=>s.cl d f (e▸c))⟩
theorem Sep.more(s:Sep K w G hs cb n)(h:w.heap.size<=w'.heap.size):Sep K w' G hs cb n:=⟨λ b U=>Nat.lt_of_lt_of_le (s.lt b U) h,s.g,s.row,s.cl⟩
theorem Sep.mono(s:Sep K w G hs cb n)(hk:∀b,k3 b->K b):Sep k3 w G hs cb n:=⟨λ b U=>s.lt b (hk b U),λ h=>s.g (hk _ h),λ r b h U=>s.row r b h (hk _ U),λ d c h=>s.cl d c (hk _ h)⟩
theorem Sep.iT(s:Sep K w G hs cb n){r:Nat}{h':ax}(U:∀g,h'.b=some g->¬K g):Sep K w G (iN hs r h') cb n:=
 ⟨s.lt,s.g,λ r' b e=>by
  by_cases c:r'=r
  ·subst c;rw[jG] at e;exact U b e
  ·rw[bh _ _ c] at e;exact s.row r' b e,s.cl⟩
theorem Sep.U(s:Sep K w G hs cb n){r:Nat}{h':ax}(U:h'.b=(hs r).b\/∃g,h'.b=some g/\w.heap.size<=g):∀g,h'.b=some g->¬K g:=by
 intro g e hk;rcases U with U|⟨c,U,hle⟩
 ·exact s.row r g (U▸e) hk
 ·rw[U] at e;injection e with e;subst e;have:=s.lt _ hk;omega
theorem j0.lt(h:j0 base w G hs cb gj cls n X):base<w.heap.size:=by have:=h.q7;have:=h.box.lt;omega
theorem pL{e:TypeId}{size:Nat}{v:Value}{k bK:Nat}{xs:List Value}(h:w.ownsRow bK e size v k xs)(c:∀b,v.ownBlock=some b->w'.heap[b]? =w.heap[b]?):w'.ownsRow bK e size v k xs:=by
 refine⟨h.1,h.2.imp id ?_⟩;rintro⟨g,cap,cur,rfl,h1,d,f⟩;exact⟨g,cap,cur,rfl,h1,(c g rfl).trans d,f⟩
theorem yD{e:TypeId}{size:Nat}{v:Value}{k bK bp:Nat}{xs:List Value}(h:w.ownsRow bK e size v k xs)(b:bp<=bK):w.ownsRow bp e size v k xs:=by
 refine⟨h.1,h.2.imp id ?_⟩;rintro⟨g,cap,cur,rfl,h1,c⟩;exact⟨g,cap,cur,rfl,Nat.le_trans b h1,c⟩
theorem j0.app(h:j0 base w G hs cb gj cls n X)(s:Sep K w G hs cb n){r m:Nat}{v':Value}{ys:List Value}(f:w'.ownsRow base (qP r) (nD r) v' m ys)(c:w.grownBy w' (hs r).v.ownBlock)(U:v'.ownBlock=(hs r).v.ownBlock\/v'.ownBlock=some w.heap.size):
  ∃h':ax,v'=h'.v/\h'.n=m/\j0 base w' G (iN hs r h') cb gj cls n (iN X r ys)/\Sep K w' G (iN hs r h') cb n/\aC K w w':=by
 obtain⟨h',rfl,rfl⟩:=ax.lG f;rw[ax.own] at c U;rw[ax.own] at U;have i:h'.b=(hs r).b\/∃g,h'.b=some g/\w.heap.size<=g:=U.imp id (λ e=>⟨_,e,v_ _⟩);refine⟨h',rfl,rfl,h.iT c f (i.imp id (λ⟨g,e,hle⟩ j d=>by rw[e] at d;injection d with d;omega)),(s.iT (s.U i)).more c.size,aC.grown c s.lt (λ b e=>s.row r b e)⟩
theorem j0.JQ(h:j0 base w G hs cb gj cls n X){r:Nat}{h':ax}{ys:List Value}(l:w.ownsRow base (qP r) (nD r) h'.v h'.n ys)(f:∀g,h'.b=some g->∀r',(hs r').b≠some g):
  j0 base w G (iN hs r h') cb gj cls n (iN X r ys):=by
 refine⟨h.box,⟨λ r'=>?_,λ c d g i h1=>?_⟩,h.cls,h.inj,h.q7,h.rL⟩
 ·by_cases e:r'=r
  ·subst e;rw[jG,jG];exact l
  ·rw[bh _ _ e,bh _ _ e];exact h.rows.row r'
 ·by_cases j:c=r
  ·subst j;rw[jG] at h1;rw[bh _ _ (λ e=>i e.symm)];exact f g h1 d
  ·rw[bh _ _ j] at h1
   by_cases k:d=r
   ·subst k;rw[jG];exact λ m=>f g m c h1
   ·rw[bh _ _ k];exact h.rows.apart c d g i h1
end
structure aX(K:Nat->Prop)(base:Nat)(w:World)(G:Nat)(hs:Nat->ax)(cb:Nat->Nat)(s:an):Prop where
 e:jb base w G hs cb s
 s:Sep K w G hs cb s.c.cl.length
section
variable {base:Nat}{w w' w1:World}{G:Nat}{hs hs':Nat->ax}{cb:Nat->Nat}{s:an}{K k3:Nat->Prop}
theorem aX.below(h:aX K base w G hs cb s)(b:Below w.heap.size w w'):aX K base w' G hs cb s/\aC K w w':=⟨⟨h.e.below b,h.s.more b.size⟩,aC.pY b h.s.lt⟩
theorem aX.k4{s':an}(h:aX K base w G hs cb s)(e:jb base w' G hs cb s')(b:s'.c.cl.length=s.c.cl.length)(f:Fr hs G cb s.c.cl.length w w'):aX K base w' G hs cb s'/\aC K w w':=⟨⟨e,by rw[b];exact h.s.more f.size⟩,.Fc f h.s⟩
theorem aX.Bc(h:aX K base w G hs cb s)(hk:∀b,k3 b->K b):aX k3 base w G hs cb s:=⟨h.e,h.s.mono hk⟩
end
end
section
def o8(c:Core)(l:List Int)(both:Bool):Core:=
 if both=true then c
 else if l.length=0 then wE c
 else if l.length=1 then
  if jW c (aj l 0)= -1 then wE (kn c l)
  else if jW c (aj l 0)=0 then k6 (kn c l) (aj l 0) (some c.cl.length)
  else kn c l
 else kn c l
theorem imp_nil{F:List (List Int)}(h:rD F []):Unsat F:=λ M b=>by
 obtain⟨x,c,_⟩:=h M b
 cases c
theorem JR(c:Core)(l:List Int)(b:Bool):(o8 c l b).n=c.n:=by
 unfold o8;repeat (first|rfl|split)
theorem JS(c:Core)(l:List Int)(b:Bool):(o8 c l b).st=c.st:=by
 unfold o8;repeat (first|rfl|split)
theorem JT(c:Core)(l:List Int)(b:Bool):(o8 c l b).ag=c.ag:=by
 unfold o8;repeat (first|rfl|split)
theorem Bd(c:Core)(l:List Int)(b:Bool):(o8 c l b).cl=if b=true\/l.length=0 then c.cl else c.cl++[l]:=by
 unfold o8
 by_cases h:b=true
 ·rw[if_pos h,if_pos (Or.inl h)]
 ·rw[if_neg h]
  by_cases d:l.length=0
  ·rw[if_pos d,if_pos (Or.inr d)];rfl
  ·rw[if_neg d,if_neg (c:=b=true\/l.length=0) (λ i=>i.elim h d)]
   by_cases e:l.length=1
   ·rw[if_pos e]
    by_cases f:jW c (aj l 0)= -1
    ·rw[if_pos f];rfl
    ·rw[if_neg f]
     by_cases g:jW c (aj l 0)=0
     ·rw[if_pos g];rfl
     ·rw[if_neg g];rfl
   ·rw[if_neg e];rfl
section
variable {F Fd:List (List Int)}{c:Core}{l:List Int}
theorem j7.take{h:Nat}{g:List Int}{both:Bool}(L:j7 F Fd c h [])(hs:c.st=[])(E:h=0)(hl:both=false->l≠ []->oF c.n l)(f:both=false->rD F l)(o:∀x,x∈l↔x∈g)(G:both=true->ve g):
  j7 F (Fd++[g]) (o8 c l both) h []:=by
 have T:=L.aL;have B:∀i,lD c.st i=0:=λ i=>by rw[hs];rfl
 have H:c.st.length=0:=by rw[hs];rfl
 unfold o8
 by_cases p:both=true
 ·rw[if_pos p];exact L.more (Or.inr (Or.inl (G p)))
 ·rw[if_neg p];have d:both=false:=by simpa using p
  by_cases q:l.length=0
  ·rw[if_pos q];have:l=[]:=j_ q;have hu:Unsat F:=imp_nil (by have:=f d;rwa[‹l=[]›] at this);exact(L.EY hu).more (Or.inl rfl)
  ·rw[if_neg q];have s:l≠ []:=λ e=>q (by rw[e];rfl)
   have ok:=hl d s;have t:2<=l.length->∀a b,(a=aj l 0/\b=aj l 1\/a=aj l 1/\b=aj l 0)-> -a∈c.ay.take h->b∈c.ay/\bg c b<=bg c a:=λ _ a b _ hm=>by
    rw[E] at hm;simp at hm
   have r:∀k,k<c.st.length->wz (c.ay.take (gV c.st k)) l:=λ k hk=>by omega
   by_cases h1:l.length=1
   ·rw[if_pos h1];have hm:aj l 0∈l:=lZ (by omega);have u:=ok.lt _ hm;have C:∀y∈l,y=aj l 0:=λ y m=>by
     obtain⟨k,hk,e⟩:=qb.1 m;obtain rfl:k=0:=by omega
     exact e.symm
    by_cases v:jW c (aj l 0)= -1
    ·rw[if_pos v];have hu:Unsat F:=λ M w=>by
      obtain⟨i,z,e⟩:=qb.1 ((T.xJ u).1 v);have j:=yu T L.jF w i z (B i);rw[e] at j;obtain⟨y,m,D⟩:=f d M w;rw[C y m] at D;rw[w.1 _ u.oE,D] at j
      cases j
     have I:=(L.EY hu).new (l:=l) (g:=g) ok (f d) o t r (λ _=>Or.inl rfl);exact I
    ·rw[if_neg v]
     by_cases A:jW c (aj l 0)=0
     ·rw[if_pos A];exact L.EX ok (f d) o A (λ y m s=>absurd (C y m) s) (λ _=>H) (λ j=>by omega) r
     ·rw[if_neg A];have J:jW c (aj l 0)=1:=by have:=T.range (aj l 0);omega
      obtain⟨i,z,e⟩:=qb.1 ((T.pos _ u).1 J);exact L.new ok (f d) o t r (λ _=>Or.inr ⟨i,z,e,B i⟩)
   ·rw[if_neg h1];exact L.new ok (f d) o t r (λ j=>absurd j h1)
end
end
section
def oR(c:Core):Prop:=∀v d,mo c.j6 v=some d->d<c.cl.length
structure tG(bH c:Core):Prop where
 n:c.n=bH.n
 st:c.st=bH.st
 len:c.cl.length=bH.cl.length
 kS:c.kS=bH.kS
 Be:c.wt.length=bH.wt.length
 ay:∃e,c.ay=bH.ay++e
 cls:∀d x,x∈az c.cl d↔x∈az bH.cl d
 v0:aj c.val 0=aj bH.val 0
 qD:oR bH->oR c
theorem tG.refl(c:Core):tG c c:=⟨rfl,rfl,rfl,rfl,rfl,⟨[],by simp⟩,λ _ _=>e_,rfl,id⟩
theorem tG.trans{a b c:Core}(h:tG a b)(h':tG b c):tG a c:=
 ⟨h'.n.trans h.n,h'.st.trans h.st,h'.len.trans h.len,h'.kS.trans h.kS,h'.Be.trans h.Be,by
  obtain⟨e,he⟩:=h.ay;obtain⟨f,g⟩:=h'.ay;exact⟨e++f,by rw[g,he,List.append_assoc]⟩,λ d x=>(h'.cls d x).trans (h.cls d x),h'.v0.trans h.v0,λ w=>h'.qD (h.qD w)⟩
theorem oR.set{c:Core}(h:oR c){x:Int}(o:Option Nat)(e:∀d,o=some d->d<c.cl.length):oR (k6 c x o):=by
 intro v d b;have b:mo (c.j6.set (aG x) o) v=some d:=b;show d<c.cl.length;rw[wu] at b;split at b
 ·exact e d b
 ·exact h v d b
theorem Fe:∀(xs:List Int)(l:List (Option Nat))(v d:Nat),mo (sU l xs) v=some d->mo l v=some d
 |[],_,_,_,h=>h
 |x::xs,l,v,d,h=>by
  have h1:=Fe xs (l.set (aG x) none) v d h;rw[wu] at h1;split at h1
  ·cases h1
  ·exact h1
theorem oR.back(h:oR c)(level:Nat):oR (mC c level):=λ v d b=>h v d (Fe _ _ v d b)
theorem oR.new(h:oR c)(l:List Int):oR (kn c l):=λ v d b=>by
 show d<(c.cl++[l]).length;rw[x_];have:=h v d b;omega
theorem jT.len(T:jT c):c.ay.length<=c.n:=by
 have h:=xK (c.n+1) (0::c.ay.map aG) (List.nodup_cons.2 ⟨λ h=>by
  obtain⟨x,b,e⟩:=l_.1 h;have:=(T.lit x b).1;omega,T.ng⟩) (λ v d=>by
  rcases b_.1 d with rfl|d
  ·omega
  ·obtain⟨x,b,e⟩:=l_.1 d;have:=(T.lit x b).2;omega)
 simp at h;omega
structure n4(F Fd:List (List Int))(jI:List Int)(bH:Core)(h:Nat)(lit:Int)(list:List Nat)(i:Nat)(kept:List Nat)(c:Core):Prop where
 gP:j7 F Fd c (h+1) (list.drop i)
 kC:aj c.ay h=lit
 wt:az c.wt (jE lit)=kept++list.drop i
 kl:kept.length<=i
 C3:i<=list.length
 sm:tG bH c
 ag:c.ag=h+1
 jI:nr c jI
 cur:∀k,k<c.st.length->gV c.st k<=h
section
variable {F Fd:List (List Int)}{jI:List Int}{bH c:Core}{h:Nat}{lit:Int}{list kept:List Nat}{i:Nat}
theorem n4.start(L:j7 F Fd bH h [])(A:nr bH jI)(aD:h<bH.ay.length):n4 F Fd jI bH h (aj bH.ay h) (az bH.wt (jE (aj bH.ay h))) 0 [] {bH with ag:=h+1}:=
 ⟨by rw[d_];exact L.next aD,rfl,by simp,v_ _,g_ _,⟨rfl,rfl,rfl,rfl,rfl,⟨[],by simp⟩,λ _ _=>e_,rfl,λ w=>w⟩,rfl,A.same rfl rfl rfl,L.cur⟩
theorem n4.rq(V:n4 F Fd jI bH h lit list i kept c)(b:i<list.length):list[i]<c.cl.length/\2<=(az c.cl list[i]).length/\(lit= -(w0 c list[i])\/lit= -(w1 c list[i])):=by
 have hm:list[i]∈az c.wt (jE lit):=by rw[V.wt,u_ b];exact List.mem_append_right _ (List.mem_cons_self)
 obtain⟨h1,d,e⟩:=V.gP.wt.qN _ _ hm;exact⟨h1,d,e.imp vA vA⟩
theorem n4.aD(V:n4 F Fd jI bH h lit list i kept c):h<c.ay.length:=V.gP.hle
theorem n4.Ff(V:n4 F Fd jI bH h lit list i kept c):lit∈c.ay:=by rw[<-V.kC];exact lZ V.aD
theorem n4.swap(V:n4 F Fd jI bH h lit list i kept c)(b:i<list.length):n4 F Fd jI bH h lit list i kept (lK c list[i] (kL (az c.cl list[i]) 0 1)):=by
 obtain⟨h1,f,_⟩:=V.rq b;have hm:=wC (l:=az c.cl list[i]) (i:=0) (j:=1) (by omega) (by omega);refine⟨V.gP.swap h1 f,V.kC,V.wt,V.kl,V.C3,V.sm.trans ⟨rfl,rfl,q4 _ _ _,rfl,rfl,⟨[],by simp[lK]⟩,λ e x=>?_,rfl,λ w v d g=>by rw[q4];exact w v d g⟩,V.ag,V.jI.same rfl rfl rfl,V.cur⟩;rw[tV];split
 ·rename_i k;rw[<-k.1];exact hm x
 ·exact e_
theorem n4.keep(V:n4 F Fd jI bH h lit list i kept c)(b:i<list.length)(hw:w1 c list[i]= -lit)(d:w0 c list[i]∈c.ay):n4 F Fd jI bH h lit list (i+1) (kept++[list[i]]) c:=by
 obtain⟨h1,e,_⟩:=V.rq b;have L:=V.gP;rw[u_ b] at L;refine⟨L.kept h1 e (by omega) ?_ d (λ k hk=>?_),V.kC,?_,?_,b,V.sm,V.ag,V.jI,V.cur⟩
 ·rw[t_,V.kC,hw];omega
 ·rw[t_];exact V.cur k hk
 ·rw[V.wt,u_ b];simp
 ·rw[x_,s_];have:=V.kl;omega
theorem n4.move(V:n4 F Fd jI bH h lit list i kept c)(f:i<list.length)(hw:w1 c list[i]= -lit){k:Nat}(hk:2<=k)(g:k<(az c.cl list[i]).length)(p:jW c (aj (az c.cl list[i]) k)≠-1):
  n4 F Fd jI bH h lit list (i+1) kept (rX c list[i] k (kept++list.drop (i+1)))/\jE (-(aj (az c.cl list[i]) k))≠jE lit:=by
 obtain⟨h1,z,_⟩:=V.rq f;have L:=V.gP;have T:=L.aL;have n:=L.jF.mB _ h1;have q:=n.lt _ (lZ g);have r:¬-(aj (az c.cl list[i]) k)∈c.ay:=λ b=>p ((T.xJ q).2 b)
 have o:jE (-(aj (az c.cl list[i]) k))≠jE lit:=λ e=>by
  have A:=vA e;have:aj (az c.cl list[i]) 1=aj (az c.cl list[i]) k:=by
   have B:w1 c list[i]=aj (az c.cl list[i]) 1:=rfl;omega
  have:=uL n.ng (i:=1) (j:=k) (by omega) g this;omega
 have m: -(w1 c list[i])=lit:=by rw[hw];omega
 have s:=V.wt;rw[u_ f] at L;have t:=L.move (kept:=kept) h1 hk g (by omega) (by rw[t_,V.kC,m]) r (by rw[m,s,u_ f]);have hm:=wC (l:=az c.cl list[i]) (i:=1) (j:=k) (by omega) g;refine⟨⟨t,V.kC,?_,by have:=V.kl;omega,f,V.sm.trans ⟨rfl,rfl,q4 _ _ _,rfl,?_,⟨[],by simp[rX,lK]⟩,λ e x=>?_,rfl,λ w v d u=>by show d<(lK c list[i] (kL (az c.cl list[i]) 1 k)).cl.length;rw[q4];exact w v d u⟩,V.ag,V.jI.same rfl rfl rfl,V.cur⟩,o⟩
 ·show az ((c.wt.set (jE (-(w1 c list[i]))) (kept++list.drop (i+1))).set (jE (-(aj (az c.cl list[i]) k))) _) (jE lit)=_;have y:jE (-(w1 c list[i]))<c.wt.length:=by rw[L.wt.qM,m];exact(T.lit _ V.Ff).at
  rw[qw,if_neg (λ b=>o b.1),qw,if_pos ⟨by rw[m],y⟩]
 ·show((c.wt.set _ _).set _ _).length=_;rw[w_,w_]
 ·show x∈az (lK c list[i] (kL (az c.cl list[i]) 1 k)).cl e↔_;rw[tV];split
  ·rename_i b;rw[<-b.1];exact hm x
  ·exact e_
theorem n4.Fg(V:n4 F Fd jI bH h lit list i kept c)(g:i<list.length)(hw:w1 c list[i]= -lit)(j:∀k,2<=k->k<(az c.cl list[i]).length->jW c (aj (az c.cl list[i]) k)= -1):
  ∀x∈az c.cl list[i],x≠w0 c list[i]-> -x∈c.ay:=by
 obtain⟨h1,m,_⟩:=V.rq g;intro x b l;obtain⟨k,hk,e⟩:=qb.1 b;have aD:=(V.gP.jF.mB _ h1).lt x b;rcases n_ k 2 with d|d
 ·rcases Nat.eq_zero_or_pos k with f|f
  ·subst f;exact absurd e.symm l
  ·obtain rfl:k=1:=by omega
   have:x= -lit:=by rw[<-e];exact hw
   rw[this,Int.neg_neg];exact V.Ff
 ·exact(V.gP.aL.xJ aD).1 (by rw[<-e];exact j k d hk)
theorem n4.JU(V:n4 F Fd jI bH h lit list i kept c)(b:i<list.length)(hw:w1 c list[i]= -lit)(g:∀k,2<=k->k<(az c.cl list[i]).length->jW c (aj (az c.cl list[i]) k)= -1)(j:jW c (w0 c list[i])= -1):
  j7 F Fd c h []/\∀x∈az c.cl list[i],-x∈c.ay:=by
 obtain⟨h1,l,_⟩:=V.rq b;have d:=V.gP.low (by omega) (λ k hk=>by rw[t_];exact V.cur k hk);rw[t_] at d;refine⟨d,λ x f=>?_⟩
 by_cases e:x=w0 c list[i]
 ·rw[e];exact(V.gP.aL.xJ ((V.gP.jF.mB _ h1).lt _ (e▸f))).1 j
 ·exact V.Fg b hw g x f e
theorem n4.set(V:n4 F Fd jI bH h lit list i kept c)(b:i<list.length)(hw:w1 c list[i]= -lit)(j:∀k,2<=k->k<(az c.cl list[i]).length->jW c (aj (az c.cl list[i]) k)= -1)(g:jW c (w0 c list[i])=0):
  n4 F Fd jI bH h lit list (i+1) (kept++[list[i]]) (k6 c (w0 c list[i]) (some list[i])):=by
 obtain⟨h1,p,_⟩:=V.rq b;have T:=V.gP.aL;have l:=V.gP.jF.mB _ h1;have hm:w0 c list[i]∈az c.cl list[i]:=lZ (by omega);have f:=l.lt _ hm;have m:=V.gP.set (w:=some list[i]) f g ⟨h1,hm,V.Fg b hw j⟩;have n:n4 F Fd jI bH h lit list i kept (k6 c (w0 c list[i]) (some list[i])):=by
  refine⟨m,?_,V.wt,V.kl,V.C3,V.sm.trans ⟨rfl,rfl,rfl,rfl,rfl,⟨[_],rfl⟩,λ _ _=>e_,by show aj (c.val.set _ _) 0=_;rw[oO,if_neg (by have:=f.1;omega)],λ w v d o=>oR.set w (some list[i]) (λ e he=>by injection he with he;rw[<-he];exact h1) v d o⟩,V.ag,V.jI.set T f g,V.cur⟩;show aj (c.ay++[_]) h=lit;rw[tw V.aD];exact V.kC
 exact n.keep b hw (by show w0 c list[i]∈c.ay++[_];simp)
theorem n4.done(V:n4 F Fd jI bH h lit list list.length kept c):j7 F Fd c (h+1) []/\az c.wt (jE lit)=kept:=by
 have h1:=V.gP;have b:=V.wt;rw[List.drop_length] at h1 b;exact⟨h1,by rw[b];simp⟩
end
end
section
structure qR(c:Core)(mw:List Int)(i level:Nat)(r:List Int):Prop where
 mem:∀x,x∈r↔x∈mw
 len:r.length=mw.length
 ag:aj r 0=aj mw 0
 ng:r.Nodup
 le:∀k,1<=k->k<i->k<r.length->bg c (aj r k)<=level
 Fh:2<=i->2<=r.length->bg c (aj r 1)=level
 low:i<=1->level=0
 lt:level<c.st.length
structure ir(F:List (List Int))(c:Core)(u:Int)(r:List Int):Prop where
 imp:rD F (u::r)
 Fi: -u∈c.ay
 Fj:bg c u=c.st.length
 Bf:∀x∈r,-x∈c.ay/\1<=bg c x/\bg c x<c.st.length
 ng:r.Nodup
section
variable {F Fd:List (List Int)}{c:Core}{r mw:List Int}{i level:Nat}{u:Int}
theorem qR.start(b:mw.Nodup)(hs:0<c.st.length):qR c mw 1 0 mw:=
 ⟨λ _=>e_,rfl,rfl,b,λ k h1 d=>by omega,λ h=>by omega,λ _=>rfl,hs⟩
theorem qR.stay(h:qR c mw i level r)(h1:1<=i)(f:i<r.length)(hl:bg c (aj r i)<=level)(e:i=1->1<=bg c (aj r 1)):qR c mw (i+1) level r:=
 ⟨h.mem,h.len,h.ag,h.ng,λ k a b d=>by
  rcases n_ k i with hk|hk
  ·exact h.le k a hk d
  ·obtain rfl:k=i:=by omega
   exact hl,λ a b=>by
  rcases n_ i 2 with hk|hk
  ·obtain rfl:i=1:=by omega
   have:=e rfl;have:=h.low (v_ _);omega
  ·exact h.Fh hk b,λ a=>by omega,h.lt⟩
theorem qR.iT(h:qR c mw i level r)(h1:1<=i)(f:i<r.length)(hl:level<bg c (aj r i))(hs:bg c (aj r i)<c.st.length):qR c mw (i+1) (bg c (aj r i)) (kL r 1 i):=by
 have g:=λ k=>qx (l:=r) (i:=1) (j:=i) (by omega) f k
 refine⟨λ x=>(wC (by omega) f x).trans (h.mem x),(rW _ _ _).trans h.len,?_,EV (by omega) f h.ng,λ k a b d=>?_,λ a b=>?_,λ a=>by omega,hs⟩
 ·rw[g,if_neg (by omega),if_neg (by omega)];exact h.ag
 ·rw[rW] at d;rw[g]
  by_cases e:k=i
  ·rw[if_pos e];rcases n_ i 2 with hk|hk
   ·obtain rfl:i=1:=by omega
    exact v_ _
   ·have:=h.le 1 (v_ _) (by omega) (by omega);omega
  ·rw[if_neg e]
   by_cases m:k=1
   ·rw[if_pos m];exact v_ _
   ·rw[if_neg m];have:=h.le k a (by omega) d;omega
 ·rw[g]
  by_cases e:1=i
  ·rw[if_pos e];rw[e]
  ·rw[if_neg e,if_pos rfl]
theorem ir.nodup(h:ir F c u r)(T:jT c):(u::r).Nodup:=
 List.nodup_cons.2 ⟨λ hu=>by have:=(h.Bf u hu).2.2;have:=h.Fj;omega,h.ng⟩
theorem qR.done(h:qR c (u::mw) i level r)(o:r.length=i)(L:ir F c u mw)(T:jT c):uM F c r level:=by
 have j:aj r 0=u:=h.ag;have hlen:r.length=mw.length+1:=h.len;have f:∀x∈r,-x∈c.ay:=λ x d=>by
  rcases b_.1 ((h.mem x).1 d) with rfl|d
  ·exact L.Fi
  ·exact(L.Bf x d).1
 refine⟨⟨λ e=>by rw[e] at hlen;simp at hlen,λ x d=>by have:=(T.lit _ (f x d)).neg;rwa[Int.neg_neg] at this,h.ng,λ x d l=>T.apart (f x d) (by exact f _ l)⟩,?_,f,by rw[j];exact L.Fj,λ k a b=>h.le k a (by omega) b,h.lt,λ g=>h.Fh (by omega) g,λ g=>h.low (by omega)⟩
 ·intro M m;obtain⟨x,d,n⟩:=L.imp M m;exact⟨x,(h.mem x).2 d,n⟩
end
end
section
def jw:Int:=1099511627776
def lF(s:an)(d:Nat):rZ:=s.ci.getD d ⟨false,0,0⟩
structure mj(n:Nat)(A B:Int)(s:an):Prop where
 jt:s.c.n=n
 lR:me n s.ord s.pl
 k5:s.act.length=n+1
 qf:∀v,0<=aj s.act v/\aj s.act v<=A
 a0:aj s.act 0=0
 ru:1<=s.aZ
 oH:s.aZ<=A
 nE:s.gN.length=n+1
 oS:iU s.gN 0=false
 nF:s.ci.length=s.c.cl.length
 pZ:∀d,0<=(lF s d).ac/\(lF s d).ac<=B/\0<=(lF s d).bg/\(lF s d).bg<=jw
 kX:∀d∈s.aO,d<s.c.cl.length
structure n5(s s':an):Prop where
 c:s'.c=s.c
 gN:s'.gN=s.gN
 aO:s'.aO=s.aO
 aA:s'.aA=s.aA
 aP:s'.aP=s.aP
 nl:s'.nl=s.nl
 jr:s'.jr=s.jr
 ol:s'.ord.length=s.ord.length
 same:vE s.pl s'.pl
 nF:s'.ci.length=s.ci.length
 ci:∀d,(lF s' d).kV=(lF s d).kV/\(lF s' d).bg=(lF s d).bg
theorem n5.refl(s:an):n5 s s:=⟨rfl,rfl,rfl,rfl,rfl,rfl,rfl,rfl,.refl _,rfl,λ _=>⟨rfl,rfl⟩⟩
theorem n5.trans{a b c:an}(h:n5 a b)(h':n5 b c):n5 a c:=
 ⟨h'.c.trans h.c,h'.gN.trans h.gN,h'.aO.trans h.aO,h'.aA.trans h.aA,h'.aP.trans h.aP,h'.nl.trans h.nl,h'.jr.trans h.jr,h'.ol.trans h.ol,h.same.trans h'.same,h'.nF.trans h.nF,
  λ d=>⟨(h'.ci d).1.trans (h.ci d).1,(h'.ci d).2.trans (h.ci d).2⟩⟩
structure pM(s s':an):Prop where
 eq:∃o p,s'={s with ord:=o,pl:=p}
 lR:me s.c.n s'.ord s'.pl
 ol:s'.ord.length=s.ord.length
 same:vE s.pl s'.pl
theorem pM.refl{s:an}(h:me s.c.n s.ord s.pl):pM s s:=⟨⟨s.ord,s.pl,rfl⟩,h,rfl,.refl _⟩
theorem pM.trans{a b c:an}(h:pM a b)(h':pM b c):pM a c:=by
 obtain⟨o,p,rfl⟩:=h.eq;obtain⟨d,e,rfl⟩:=h'.eq;exact⟨⟨d,e,rfl⟩,h'.lR,h'.ol.trans h.ol,h.same.trans h'.same⟩
theorem pM.hk(h:pM s s'):n5 s s':=by
 obtain⟨o,p,rfl⟩:=h.eq;exact⟨rfl,rfl,rfl,rfl,rfl,rfl,rfl,h.ol,h.same,rfl,λ _=>⟨rfl,rfl⟩⟩
theorem pM.rg(h:pM s s')(r:mj n A B s):mj n A B s':=by
 obtain⟨o,p,rfl⟩:=h.eq;have:=h.lR;rw[r.jt] at this;exact⟨r.jt,this,r.k5,r.qf,r.a0,r.ru,r.oH,r.nE,r.oS,r.nF,r.pZ,r.kX⟩
theorem JV{l:List Int}{k:Nat}(h:l.length<=k):aj l k=0:=by simp[aj,y_,m_ h]
theorem mj.act{n:Nat}{A A' B:Int}{s:an}(r:mj n A B s)(d:A<=A'){v:Nat}(e:1<=v){x:Int}(c:0<=x)(h1:x<=A'):mj n A' B (s.pW v x):=by
 refine⟨r.jt,r.lR,by show(s.act.set v x).length=_;rw[w_];exact r.k5,λ u=>?_,?_,r.ru,by have:=r.oH;show s.aZ<=_;omega,r.nE,r.oS,r.nF,r.pZ,r.kX⟩
 ·show 0<=aj (s.act.set v x) u/\_;have b:aj (s.pW v x).act u=if v=u/\v<s.act.length then x else aj s.act u:=oO _ _ _ _
  rw[show aj (s.act.set v x) u=_ from b,b];split
  ·exact⟨c,h1⟩
  ·have:=r.qf u;exact⟨this.1,by omega⟩
 ·show aj (s.act.set v x) 0=0;rw[oO,if_neg (by omega)];exact r.a0
theorem n5.act(s:an)(v:Nat)(x:Int):n5 s (s.pW v x):=⟨rfl,rfl,rfl,rfl,rfl,rfl,rfl,rfl,.refl _,rfl,λ _=>⟨rfl,rfl⟩⟩
def an.vK(s:an)(x:Int):an:={s with aZ:=x}
theorem mj.zR(r:mj n A B s)(b:A<=A'){x:Int}(c:1<=x)(h1:x<=A'):mj n A' B (s.vK x):=
 ⟨r.jt,r.lR,r.k5,λ u=>by have:=r.qf u;exact⟨this.1,k_ this.2 b⟩,r.a0,c,h1,r.nE,r.oS,r.nF,r.pZ,r.kX⟩
theorem n5.zR(s:an)(x:Int):n5 s (s.vK x):=⟨rfl,rfl,rfl,rfl,rfl,rfl,rfl,rfl,.refl _,rfl,λ _=>⟨rfl,rfl⟩⟩
theorem mj.mono(r:mj n A B s)(b:A<=A')(c:B<=qS):mj n A' qS s:=
 ⟨r.jt,r.lR,r.k5,λ u=>by have:=r.qf u;exact⟨this.1,k_ this.2 b⟩,r.a0,r.ru,k_ r.oH b,r.nE,r.oS,r.nF,λ d=>by have:=r.pZ d;exact⟨this.1,k_ this.2.1 c,this.2.2⟩,r.kX⟩
def an.wQ(s:an)(d:Nat)(x:Int):an:={s with ci:=s.ci.set d {lF s d with ac:=x}}
theorem zS(s:an)(d:Nat)(x:Int)(e:Nat):lF (s.wQ d x) e=if d=e/\d<s.ci.length then {lF s e with ac:=x} else lF s e:=by
 unfold lF an.wQ;dsimp only;simp only[y_,List.getElem?_set]
 by_cases h:d=e
 ·subst h
  by_cases b:d<s.ci.length
  ·simp[b,lF,y_]
  ·simp[b]
 ·simp[h]
theorem mj.xT(r:mj n A B s)(b:B<=qS){d:Nat}{x:Int}(c:0<=x)(h1:x<=qS):mj n A qS (s.wQ d x):=by
 refine⟨r.jt,r.lR,r.k5,r.qf,r.a0,r.ru,r.oH,r.nE,r.oS,by show(s.ci.set _ _).length=_;rw[w_];exact r.nF,λ e=>?_,r.kX⟩;rw[zS];have:=r.pZ e;split
 ·exact⟨c,h1,this.2.2⟩
 ·exact⟨this.1,k_ this.2.1 b,this.2.2⟩
theorem n5.xT(s:an)(d:Nat)(x:Int):n5 s (s.wQ d x):=by
 refine⟨rfl,rfl,rfl,rfl,rfl,rfl,rfl,rfl,.refl _,by show(s.ci.set _ _).length=_;rw[w_],λ e=>?_⟩;rw[zS];split<;>exact⟨rfl,rfl⟩
end
section
open Go.RowKit Go.Shelf
def an.swp(s:an)(i k:Nat):an:={s with ord:=kL s.ord i k,pl:=ua s.ord s.pl i k}
def Bg(g7 g8 i k a b:Nat)(w:World):World:=(((((w.setCell ⟨g7,i,none⟩ (.int .i64 (b:Int))).setCell ⟨g7,k,none⟩ (.int .i64 (a:Int))).drew).setCell ⟨g8,b,none⟩ (.int .i64 (i:Int))).setCell ⟨g8,a,none⟩ (.int .i64 (k:Int))).drew
def Fk(g7 g8 i k a b:Nat)(w:World)(e:Ending)(w':World):Prop:=e=.returned (.tuple #[])/\w'=Bg g7 g8 i k a b w
theorem JW(i k a b:Nat)(c:i≠k)(d:k≠i)(e:a≠b)(f:b≠a)(g:w.cell? ⟨G,10,none⟩=some (.slice (some ⟨g7,0,none⟩) n7 hM))(j:w.cell? ⟨G,11,none⟩=some (.slice (some ⟨g8,0,none⟩) n8 p0))
  (li:(i:Int)<(n7:Int)) (l:(k:Int)<(n7:Int)) (m:(a:Int)<(n8:Int)) (lb:(b:Int)<(n8:Int)) (c1:w.cell? ⟨g7,i,none⟩=some (.int .i64 (a:Int))) (c2:w.cell? ⟨g7,k,none⟩=some (.int .i64 (b:Int)))
  (d1:∃v,w.cell? ⟨g8,a,none⟩=some v) (d2:∃v,w.cell? ⟨g8,b,none⟩=some v) (f1:w.frozen? ⟨g7,i,none⟩=false) (f2:w.frozen? ⟨g7,k,none⟩=false) (f3:w.frozen? ⟨g8,a,none⟩=false) (f4:w.frozen? ⟨g8,b,none⟩=false) (n:G≠g7) (o:g7≠G) (p:G≠g8) (q:g7≠g8) (r:g8≠g7):
   Calls p_ 193 #[.pointer (some ⟨G,0,none⟩),.int .i64 i,.int .i64 k] w (Fk g7 g8 i k a b w):=by
 obtain⟨v1,d1⟩:=d1;obtain⟨v2,d2⟩:=d2;go_enter Tryz.func193,Tryz.ntmps193
 go_wp2_with fail
 go_region
 go_wp2_with fail
 go_region
 go_wp2;go_end0;exact⟨rfl,rfl⟩
theorem JX(i a:Nat)(b:w.cell? ⟨G,10,none⟩=some (.slice (some ⟨g7,0,none⟩) n7 hM))(c:w.cell? ⟨G,11,none⟩=some (.slice (some ⟨g8,0,none⟩) n8 p0))
  (li:(i:Int)<(n7:Int)) (d:(a:Int)<(n8:Int)) (c1:w.cell? ⟨g7,i,none⟩=some (.int .i64 (a:Int)))
  (d1:∃v,w.cell? ⟨g8,a,none⟩=some v) (f1:w.frozen? ⟨g7,i,none⟩=false) (f3:w.frozen? ⟨g8,a,none⟩=false) (e:G≠g7) (f:g7≠G) (g:G≠g8) (j:g7≠g8) (k:g8≠g7):
   Calls p_ 193 #[.pointer (some ⟨G,0,none⟩),.int .i64 i,.int .i64 i] w (Fk g7 g8 i i a a w):=by
 obtain⟨v1,d1⟩:=d1;go_enter Tryz.func193,Tryz.ntmps193
 go_wp2_with fail
 go_region
 go_wp2_with fail
 go_region
 go_wp2;go_end0;exact⟨rfl,rfl⟩
theorem C4(h:aX K base w G hs cb s)(O:me s.c.n s.ord s.pl)(i k:Nat)(l:i<s.ord.length)(hk:k<s.ord.length):
  Calls p_ 193 #[.pointer (some ⟨G,0,none⟩),.int .i64 i,.int .i64 k] w λ e w'=>e=.returned (.tuple #[])/\aX K base w' G hs cb (s.swp i k)/\aC K w w':=by
 have M:=O.su;obtain⟨g7,f,y,f7⟩:=h.e.lW 10 7 rfl h.e.n7 (by omega);obtain⟨g8,g,z,f8⟩:=h.e.lW 11 8 rfl h.e.n8 (by omega);have m:=O.inv i l;have t:=O.inv k hk;obtain⟨a,u⟩:∃a:Nat,aj s.ord i=a:=⟨(aj s.ord i).toNat,by omega⟩
 obtain⟨b,o⟩:∃b:Nat,aj s.ord k=b:=⟨(aj s.ord k).toNat,by omega⟩
 have c1:=h.e.xS f l;have c2:=h.e.xS f hk;rw[u] at c1 m;rw[o] at c2 t;have A:i≠k->a≠b:=λ N e=>by
  rw[Int.toNat_natCast] at m t;rw[e] at m;have:=m.2.2.symm.trans t.2.2;omega
 have d1:=h.e.wP g (k:=a) (by omega);have d2:=h.e.wP g (k:=b) (by omega);have p:=h.e.ue 7 g7 f;have B:=h.e.ue 8 g8 g;have q:g7≠g8:=h.e.wO (r:=7) (r':=8) (by omega) f g;have F:jb base (Bg g7 g8 i k a b w) G hs cb (s.swp i k):=by
  have h1:=j0.below (jb.xR (jb.xR (s:=(s.tF i b).tF k a) (j0.below (jb.E8 (jb.E8 h.e f i b) f k a) (r_ _ _).drew) g b i) g a k) (r_ _ _).drew;have e:(((((s.tF i b).tF k a)).pJ b i).pJ a k)=s.swp i k:=by
   have H:aj (kL s.ord i k) i=if i=k then aj s.ord i else aj s.ord k:=by rw[qx l hk];simp
   have I:aj (kL s.ord i k) k=aj s.ord i:=by rw[qx l hk,if_pos rfl]
   have J:aj (kL s.ord i k) i=b:=by
    rw[H];split
    ·rename_i h;rw[<-o,h]
    ·exact o
   have L:aj (kL s.ord i k) k=a:=by rw[I,u]
   unfold an.swp ua;rw[J,L];unfold kL;rw[u,o];rfl
  rw[<-e];exact h1
 have hF:aC K w (Bg g7 g8 i k a b w):=by
  have C:=h.s.row 7 g7 f;have D:=h.s.row 8 g8 g;have d:∀W:World,aC K W W.drew:=λ W=>⟨rfl,rfl,rfl,v_ _,λ _ _=>rfl⟩
  exact(((((aC.set g7 i _ C).trans (aC.set g7 k _ C)).trans (d _)).trans (aC.set g8 b _ D)).trans (aC.set g8 a _ D)).trans (d _)
 have E:aX K base (Bg g7 g8 i k a b w) G hs cb (s.swp i k):=⟨F,h.s.more hF.size⟩
 by_cases j:i=k
 ·subst j;obtain rfl:a=b:=by omega
  exact(JX i a y z (by omega) (by omega) c1 ⟨_,d1⟩ (f7 i) (f8 a) p p.symm B q q.symm).mono λ e w' ⟨h1,v⟩=>by subst v;exact⟨h1,E,hF⟩
 ·exact(JW i k a b j (λ e=>j e.symm) (A j) (A j).symm y z (by omega) (by omega) (by omega) (by omega) c1 c2 ⟨_,d1⟩ ⟨_,d2⟩ (f7 i) (f7 k) (f8 a) (f8 b) p p.symm B q q.symm).mono λ e w' ⟨h1,v⟩=>by subst v;exact⟨h1,E,hF⟩
theorem pM.swp{s:an}(O:me s.c.n s.ord s.pl){i k:Nat}(b:i<s.ord.length)(hk:k<s.ord.length):pM s (s.swp i k):=⟨⟨_,_,rfl⟩,O.swap b hk,rW _ _ _,O.E1 b hk⟩
end
section
open Go.RowKit Go.Shelf
def Bh(s:an)(v u:Nat):Bool:=decide (rV (ou (aj s.act u) (aj s.act v)) ((v:Int)-(u:Int))<0)
theorem JY{g c:Nat}(v u:Nat)(x y:Int)(q:w.cell? ⟨G,8,none⟩=some (.slice (some ⟨g,0,none⟩) n c))(b:(v:Int)<(n:Int))(hu:(u:Int)<(n:Int))(d:v<=65536)(f:u<=65536)
  (i:w.cell? ⟨g,v,none⟩=some (.int .i64 x)) (j:w.cell? ⟨g,u,none⟩=some (.int .i64 y)):
  Calls p_ 225 #[.pointer (some ⟨G,0,none⟩),.int .i64 v,.int .i64 u] w λ e w'=>e=.returned (.bool (decide (rV (ou y x) ((v:Int)-(u:Int))<0)))/\Below w.heap.size w w':=by
 have k:wrap64 ((v:Int)-(u:Int))=(v:Int)-(u:Int):=by unfold wrap64;omega
 go_enter Tryz.func225,Tryz.ntmps225
 go_wp2;refine wp_region_still_tail 18 (by kernel_rfl) (by kernel_rfl) ?_;simp only[List.take_succ_cons,List.take_zero,List.drop_succ_cons,d_]
 iterate 14 still_step
 still_call ((zv _ _ _).mono (λ e w' h=>⟨h.1,h.2.symm⟩))
 iterate 3 still_step
 refine wpStill_nil ?_;change wpList _ _ _ _ _ w.drew
 go_wp2_with fail
 refine(AN w.heap.size (ou y x) ((v:Int)-(u:Int)) _ (by go_simp) (by go_simp)).mono ?_;rintro e w' ⟨rfl,rfl⟩;go_wp2;go_ret;exact⟨qZ rfl,((r_ _ _).alloc (v_ _) _).drew⟩
section
variable {K:Nat->Prop}{base:Nat}{w:World}{G:Nat}{hs:Nat->ax}{cb:Nat->Nat}{s:an}
theorem JZ(h:jb base w G hs cb s)(v u:Nat)(c:v<s.act.length)(hu:u<s.act.length)(hl:s.act.length<=65537):
  Calls p_ 225 #[.pointer (some ⟨G,0,none⟩),.int .i64 v,.int .i64 u] w λ e w'=>e=.returned (.bool (Bh s v u))/\Below w.heap.size w w':=by
 obtain⟨g,b,q,f⟩:=h.lW 8 6 rfl h.n6 (by omega);exact JY v u _ _ q (by omega) (by omega) (by omega) (by omega) (h.yC b c) (h.yC b hu)
end
end
section
open Go.RowKit Go.Shelf
section
variable {K:Nat->Prop}{base:Nat}{w W:World}{G:Nat}{hs:Nat->ax}{cb:Nat->Nat}{s:an}
theorem ot.ahead(h:jb base W G hs cb s)(u:ot W){v z:Nat}(d:v<s.act.length)(f:z<s.act.length)(hl:s.act.length<=65537){b:Bool}(g:Bh s v z=b):
  Calls p_ 225 #[.pointer (some ⟨G,0,none⟩),.int .i64 v,.int .i64 z] u.val λ e w'=>e=.returned (.bool b)/\∃i:ot W,w'=i.val:=
 ot.call u ((JZ (h.below u.ok) v z d f hl).mono λ e w' c=>⟨c.1.trans (by rw[g]),c.2⟩)
end
def Fl(K:Nat->Prop)(base:Nat)(w:World)(G:Nat)(hs:Nat->ax)(cb:Nat->Nat)(s:an)(e:Ending)(w':World):Prop:=
 e=.returned (.tuple #[])/\∃s',pM s s'/\aX K base w' G hs cb s'/\aC K w w'
theorem yE(x:Nat)(h:x<=9223372036854775807):IntKind.i64.wrap (x:Int)=x:=by rw[IntKind.wrap_i64];omega
theorem me.nat{ord pl:List Int}(O:me n ord pl){i:Nat}(b:i<ord.length):∃a:Nat,aj ord i=a/\1<=a/\a<=n:=by
 have:=O.inv i b;exact⟨(aj ord i).toNat,by omega,by omega,by omega⟩
theorem C5(h:aX K base w G hs cb s)(O:me s.c.n s.ord s.pl)(S:s.act.length=s.c.n+1)(af:s.c.n<=65536)(i:Nat)(T:i<s.ord.length)(ag:s.ord.length<=65537):
  Calls p_ 187 #[.pointer (some ⟨G,0,none⟩),.int .i64 i] w (Fl K base w G hs cb s):=by
 have H:=aa h;have U:=aa O;clear h O;go_enter Tryz.func187,Tryz.ntmps187
 go_wp2_with fail
 go_loopw [1] (λ s1 W=>∃(k:Nat)(s':an),s1=.int .i64 k/\k<s.ord.length/\pM s s'/\aX K base W G hs cb s'/\aC K w W) (λ s1 _=>(intOf s1).toNat)
 case atStart=>exact⟨i,s,rfl,T,pM.refl U.o,H.o,aC.refl⟩
 case round=>
  obtain⟨k,s',rfl,hk,hO,I,hF⟩:=hrel;have E:=aa I;have F:=aa hF;have r:=aa hO;clear I hF
  by_cases V:k=0
  ·subst V;clear hO
   go_wp2_with fail
   refine AM (by kernel_rfl) (by kernel_rfl) ?_
   repeat (go_big_quiet_step (fail))
   refine f_ ?_;intro X d;replace d:=ot.o d
   go_wp2_with fail
   go_end0;have:=E.o.below d;exact⟨rfl,s',r.o,this.1,F.o.trans this.2⟩
  ·obtain⟨m,rfl⟩:∃m,k=m+1:=⟨k-1,by omega⟩
   obtain⟨p,hp⟩:∃p,p=m/2:=⟨_,rfl⟩
   obtain⟨ah,ai,he⟩:=hO.eq;have t:s'.ord.length=s.ord.length:=hO.ol;have l:me s'.c.n s'.ord s'.pl:=by rw[he];have:=hO.lR;rw[he] at this;exact this
   have J:s'.act.length=s.c.n+1:=by rw[he];exact S
   have L:s'.c.n=s.c.n:=by rw[he]
   clear hO he;obtain⟨k0,y⟩:∃k0,k0=m+1:=⟨_,rfl⟩
   obtain⟨a,z,a1,a2⟩:=l.nat (i:=k0) (by omega);obtain⟨b,A,aj,ak⟩:=l.nat (i:=p) (by omega);obtain⟨g7,j,M,f7⟩:=E.o.e.lW 10 7 rfl (E.o.e.n7.trans t) (by omega);have c1:=E.o.e.xS j (k:=k0) (by omega);have c2:=E.o.e.xS j (k:=p) (by omega);rw[z] at c1;rw[A] at c2;have B:=E.o.e.rows.lt j;have Y:=λ u:ot wr=>u.cell (E.o.e.box.lt) M
   have Z:=λ u:ot wr=>u.cell B.2 c1
   have ab:=λ u:ot wr=>u.cell B.2 c2
   have al:(k0:Int)-1=(m:Int):=by omega
   have ao:Int.tdiv (m:Int) 2=(p:Int):=by rw[Int.tdiv_eq_ediv_of_nonneg (by omega)];omega
   have aq:=yE m (by omega);have ar:=yE p (by omega);have ad:(0:Int)<(k0:Int):=by omega
   have d0:decide ((0:Int)<(k0:Int))=true:=decide_eq_true ad;have d1:decide (0<k0)=true:=decide_eq_true (by omega);have au:(k0:Int)<(s.ord.length:Int):=by omega
   have av:(p:Int)<(s.ord.length:Int):=by omega
   have aw:=aa z;have ay:=aa A;have q:=aa hp;have g:=aa y;have N:=aa l;have f:=aa (z_ t (z_ J L));have az:=aa j;generalize P:Bh s' a b=v;have ae:=aa P;rw[<-y];clear z A hp y l t J L j B M c1 c2 P f7
   go_wp2_with fail
   refine AM (by kernel_rfl) (by kernel_rfl) ?_
   repeat (go_big_quiet_step ((go_at_call 225;exact ot.ahead E.o.e _ (by have:=f.o;omega) (by have:=f.o;omega) (by have:=f.o;omega) ae.o)))
   refine f_ ?_;intro X d;replace d:=ot.o d;have Q:=aa (E.o.below d).1;have R:=aa (F.o.trans (E.o.below d).2);clear Y Z ab d
   cases v
   ·go_wp2_with fail
    go_end0;exact⟨rfl,s',r.o,Q.o,R.o⟩
   ·go_wp2_with (go_at_call 193;refine(C4 Q.o N.o k0 p (by have:=f.o;have:=g.o;omega) (by have:=f.o;have:=g.o;have:=q.o;omega)).mono ?_;rintro e aA ⟨rfl,C,D⟩;have C:=aa C;have D:=aa D)
    go_roundw
    case rel=>exact⟨p,_,by go_num,by have:=g.o;have:=q.o;omega,r.o.trans (pM.swp N.o (by have:=f.o;have:=g.o;omega) (by have:=f.o;have:=g.o;have:=q.o;omega)),C.o,R.o.trans D.o⟩
    case measure=>have:=g.o;have:=q.o;simp[intOf];omega
end
section
open Go.RowKit Go.Shelf
theorem Fm(h:aX K base w G hs cb s)(O:me s.c.n s.ord s.pl)(aw:s.act.length=s.c.n+1)(aP:s.c.n<=65536)(i:Nat)(ay:i<s.ord.length)(aQ:s.ord.length<=65537):
  Calls p_ 194 #[.pointer (some ⟨G,0,none⟩),.int .i64 i] w (Fl K base w G hs cb s):=by
 have H:=aa h;have az:=aa O;clear h O;go_enter Tryz.func194,Tryz.ntmps194
 go_wp2_with fail
 go_loopw [1,4,6] (λ s1 _ _ W=>∃(k:Nat)(s':an),s1=.int .i64 k/\k<s.ord.length/\pM s s'/\aX K base W G hs cb s'/\aC K w W) (λ s1 _ _ _=>s.ord.length-(intOf s1).toNat)
 case atStart=>exact⟨i,s,rfl,ay,pM.refl az.o,H.o,aC.refl⟩
 case round=>
  obtain⟨k,s',rfl,hk,hO,ad,hF⟩:=hrel;have E:=aa ad;have F:=aa hF;have ae:=aa hO;clear ad hF;obtain⟨aR,aS,he⟩:=hO.eq;have C:s'.ord.length=s.ord.length:=hO.ol;have D:me s'.c.n s'.ord s'.pl:=by rw[he];have:=hO.lR;rw[he] at this;exact this
  have P:s'.act.length=s.c.n+1:=by rw[he];exact aw
  have Q:s'.c.n=s.c.n:=by rw[he]
  clear hO he;obtain⟨c,R⟩:∃c,c=2*k+1:=⟨_,rfl⟩
  obtain⟨d,S⟩:∃d,d=2*k+2:=⟨_,rfl⟩
  have I:2*(k:Int)+1=(c:Int):=by omega
  have J:2*(k:Int)+2=(d:Int):=by omega
  have k0:=yE (2*k) (by omega);have aA:=yE c (by omega);have aB:=yE d (by omega);have aD:=aa (z_ R S);clear R S
  go_wp2_with fail
  obtain⟨r,A⟩:∃r,r=wr.heap.size:=⟨_,rfl⟩
  have T:Below wr.heap.size wr (wr.alloc (.cells #[.int .i64 c,.int .i64 d] 3)):=bB wr _;have m1:(wr.alloc (.cells #[.int .i64 c,.int .i64 d] 3)).cell? ⟨r,0,none⟩=some (.int .i64 c):=by subst A;go_simp
  have m2:(wr.alloc (.cells #[.int .i64 c,.int .i64 d] 3)).cell? ⟨r,1,none⟩=some (.int .i64 d):=by subst A;go_simp
  have af:r<(wr.alloc (.cells #[.int .i64 c,.int .i64 d] 3)).heap.size:=by subst A;simp
  rw[<-A];have ag:=aa (E.o.below T).1;have aE:=aa (F.o.trans (E.o.below T).2);generalize (wr.alloc (.cells #[.int .i64 c,.int .i64 d] 3))=w1 at*;clear A T I J k0 aA aB;have M:=aa (z_ m1 (z_ m2 af));clear m1 m2 af
  go_loopw [4,6,16] (λ iP _ U W=>∃(j b:Nat),U=.int .i64 j/\j<=2/\iP=.int .i64 b/\k<=b/\b<s.ord.length/\Below w1.heap.size w1 W) (λ _ _ U _=>2-(intOf U).toNat)
  case atStart=>exact⟨0,k,rfl,by omega,rfl,v_ _,hk,r_ _ _⟩
  case round=>
   obtain⟨j,b,rfl,ah,rfl,t,y,L⟩:=hrel;have z:=aa L;have g:=aa (ag.o.below L).1;have ai:=aa (aE.o.trans (ag.o.below L).2);clear L
   by_cases aj:j<2
   ·obtain⟨x,aT,ak,al⟩:∃x:Nat,wr.cell? ⟨r,j,none⟩=some (.int .i64 x)/\k<x/\x<=2*k+2:=by
     obtain⟨R,S⟩:=aD.o;rcases n_ j 1 with h1|h1
     ·obtain rfl:j=0:=by omega
      exact⟨c,(z.o.cell M.o.2.2).trans M.o.1,by omega,by omega⟩
     ·obtain rfl:j=1:=by omega
      exact⟨d,(z.o.cell M.o.2.2).trans M.o.2.1,by omega,by omega⟩
    have aU:decide ((j:Int)<2)=true:=decide_eq_true (by omega);have aF:(j:Int)<2:=by omega
    have p:=aa (z_ ah (z_ aj (z_ ak al)));clear ah aj ak al;obtain⟨g7,q,ao,f7⟩:=g.o.e.lW 10 7 rfl (g.o.e.n7.trans C) (by omega);have aq:=λ u:ot wr=>u.cell (g.o.e.box.lt) ao
    clear ao
    by_cases B:x<s.ord.length
    ·have V:(x:Int)<(s.ord.length:Int):=by omega
     have lb:(b:Int)<(s.ord.length:Int):=by omega
     have aG:decide ((x:Int)<(s.ord.length:Int))=true:=decide_eq_true V;have aH:decide (x<s.ord.length)=true:=decide_eq_true B;obtain⟨a,X,a1,a2⟩:=D.nat (i:=x) (by omega);obtain⟨e,he,I,J⟩:=D.nat (i:=b) (by omega);have c1:=g.o.e.xS q (k:=x) (by omega);have c2:=g.o.e.xS q (k:=b) (by omega);rw[X] at c1;rw[he] at c2;have Y:=g.o.e.rows.lt q;have aI:=λ u:ot wr=>u.cell Y.2 c1
     have aJ:=λ u:ot wr=>u.cell Y.2 c2
     generalize ar:Bh s' a e=v;have aK:=aa ar;have m:=aa (z_ C (z_ P Q));have au:=aa (z_ X (z_ he (z_ a1 (z_ a2 (z_ I J)))));have aL:=aa q;have f:=aa (z_ t y);have aM:=aa B;clear X he c1 c2 Y ar f7 q a1 a2 I J t y B
     go_wp2_with fail
     refine AM (by kernel_rfl) (by kernel_rfl) ?_
     repeat (go_big_quiet_step ((go_at_call 225;exact ot.ahead g.o.e _ (by have:=m.o;have:=au.o;omega) (by have:=m.o;have:=au.o;omega) (by have:=m.o;omega) aK.o)))
     refine f_ ?_;intro aN l;replace l:=ot.o l;have N:=aa (z.o.trans (l.mono z.o.size));clear aq aI aJ l
     cases v
     ·go_wp2_with fail
      go_roundw
      case rel=>exact⟨j+1,b,by go_num,by have:=p.o;omega,rfl,f.o.1,f.o.2,N.o⟩
      case measure=>have:=p.o;simp[intOf];omega
     ·go_wp2_with fail
      go_roundw
      case rel=>exact⟨j+1,x,by go_num,by have:=p.o;omega,rfl,by have:=p.o;omega,aM.o,N.o⟩
      case measure=>have:=p.o;simp[intOf];omega
    ·have V:¬(x:Int)<(s.ord.length:Int):=by omega
     have aG:decide ((x:Int)<(s.ord.length:Int))=false:=decide_eq_false V;have aH:decide (x<s.ord.length)=false:=decide_eq_false B;have aL:=aa q;have f:=aa (z_ t y);clear f7 q t y B
     go_wp2_with fail
     refine AM (by kernel_rfl) (by kernel_rfl) ?_
     repeat (go_big_quiet_step (fail))
     refine f_ ?_;intro aN l;replace l:=ot.o l;have N:=aa (z.o.trans (l.mono z.o.size));clear aq l
     go_wp2_with fail
     go_roundw
     case rel=>exact⟨j+1,b,by go_num,by have:=p.o;omega,rfl,f.o.1,f.o.2,N.o⟩
     case measure=>have:=p.o;simp[intOf];omega
   ·have aF:¬(j:Int)<2:=by omega
    by_cases av:b=k
    ·subst av
     go_wp2_with fail
     go_end0;exact⟨rfl,s',ae.o,g.o,ai.o⟩
    ·have aO:¬(b:Int)=(k:Int):=by omega
     have f:=aa (z_ t (z_ y av));have m:=aa (z_ C (z_ P Q));clear t y C P Q;have aV:((b:Int)==(k:Int))=false:=by simpa using aO
     go_wp2_with (go_at_call 193;refine(C4 g.o D k b (by have:=m.o;omega) (by have:=m.o;have:=f.o;omega)).mono ?_;rintro e aW ⟨rfl,Z,ab⟩;have Z:=aa Z;have ab:=aa ab)
     go_roundw
     case rel=>exact⟨b,_,by go_num,by have:=f.o;omega,ae.o.trans (pM.swp D (by have:=m.o;omega) (by have:=m.o;have:=f.o;omega)),Z.o,ai.o.trans ab.o⟩
     case measure=>have:=f.o;simp[intOf];omega
end
section
open Go.RowKit Go.Shelf
section
variable {K:Nat->Prop}{base:Nat}{w w' W:World}{G:Nat}{hs:Nat->ax}{cb:Nat->Nat}{s:an}
theorem aX.xQ(h:aX K base w G hs cb s){g:Nat}(c:(hs 1).b=some g)(k:Nat)(x:Int):aX K base (w.setCell ⟨g,k,none⟩ (.int .i8 x)) G hs cb (s.oQ k x)/\aC K w (w.setCell ⟨g,k,none⟩ (.int .i8 x)):=h.k4 (jb.xQ h.e c k x) rfl (Fr.cell 1 g k _ c)
theorem aX.zM(h:aX K base w G hs cb s){g:Nat}(c:(hs 3).b=some g)(k:Nat)(x:Option Nat):aX K base (w.setCell ⟨g,k,none⟩ (qQ cb x)) G hs cb (s.qA k x)/\aC K w (w.setCell ⟨g,k,none⟩ (qQ cb x)):=h.k4 (jb.zM h.e c k x) rfl (Fr.cell 3 g k _ c)
theorem aX.Bb(h:aX K base w G hs cb s){g:Nat}(c:(hs 6).b=some g)(k:Nat)(x:Int):aX K base (w.setCell ⟨g,k,none⟩ (.int .i64 x)) G hs cb (s.pW k x)/\aC K w (w.setCell ⟨g,k,none⟩ (.int .i64 x)):=h.k4 (jb.Bb h.e c k x) rfl (Fr.cell 6 g k _ c)
theorem aX.xR(h:aX K base w G hs cb s){g:Nat}(c:(hs 8).b=some g)(k:Nat)(x:Int):aX K base (w.setCell ⟨g,k,none⟩ (.int .i64 x)) G hs cb (s.pJ k x)/\aC K w (w.setCell ⟨g,k,none⟩ (.int .i64 x)):=h.k4 (jb.xR h.e c k x) rfl (Fr.cell 8 g k _ c)
theorem aX.zN(h:aX K base w G hs cb s){g:Nat}(c:(hs 9).b=some g)(k:Nat)(x:Bool):aX K base (w.setCell ⟨g,k,none⟩ (.bool x)) G hs cb (s.ud k x)/\aC K w (w.setCell ⟨g,k,none⟩ (.bool x)):=h.k4 (jb.zN h.e c k x) rfl (Fr.cell 9 g k _ c)
theorem aX.wN(h:aX K base w G hs cb s){g:Nat}(c:(hs 12).b=some g)(k:Nat)(x:Bool):aX K base (w.setCell ⟨g,k,none⟩ (.bool x)) G hs cb (s.sY k x)/\aC K w (w.setCell ⟨g,k,none⟩ (.bool x)):=h.k4 (jb.wN h.e c k x) rfl (Fr.cell 12 g k _ c)
theorem aC.ku(h:aX K base w G hs cb s)(k:Nat)(v:Value):aC K w (w.setCell ⟨G,k,none⟩ v):=aC.set G k v h.s.g
theorem aC.drew:aC K w w.drew:=⟨rfl,rfl,rfl,v_ _,λ _ _=>rfl⟩
theorem aX.drew(h:aX K base w G hs cb s):aX K base w.drew G hs cb s:=(h.below (r_ _ _).drew).1
theorem Sep.cut{n:Nat}(h:Sep K w G hs cb n){r:Nat}(m:Nat):Sep K w G (iN hs r ⟨(hs r).A,m,(hs r).c⟩) cb n:=h.iT (λ g e=>h.row r g e)
theorem aX.J1(h:aX K base w G hs cb s){g:Nat}(f:(hs 7).b=some g){m:Nat}(hm:m<=s.ord.length):
  aX K base (w.setCell ⟨G,10,none⟩ (.slice (some ⟨g,0,none⟩) m (hs 7).c)) G (iN hs 7 ⟨(hs 7).A,m,(hs 7).c⟩) cb {s with ord:=s.ord.take m}/\aC K w (w.setCell ⟨G,10,none⟩ (.slice (some ⟨g,0,none⟩) m (hs 7).c)):=by
 have i:=(h.e.rows.form f).1;rw[<-i];refine⟨⟨?_,(h.s.cut (r:=7) m).more (kZ w G 10 _).size⟩,aC.ku h 10 _⟩;have j:=(j0.cut h.e f (k:=m) (by rw[h.e.n7];exact hm)).field 10 (.slice (hs 7).A m (hs 7).c);refine j.eq rfl rfl rfl (λ d _=>(vJ hs s (by omega) _ d).symm) rfl (λ r=>?_);rw[vI hs cb _ (by omega)]
 by_cases e:r=7
 ·subst e;rw[jG];show(iY s.ord).take (m*1)=iY (s.ord.take m);simp[iY]
 ·rw[bh _ _ e];simp only[cont,if_neg e]
theorem aX.Fo(h:aX K base w G hs cb s){g:Nat}(f:(hs 4).b=some g){m:Nat}(hm:m<=s.c.ay.length):
  aX K base (w.setCell ⟨G,5,none⟩ (.slice (some ⟨g,0,none⟩) m (hs 4).c)) G (iN hs 4 ⟨(hs 4).A,m,(hs 4).c⟩) cb {s with c:={s.c with ay:=s.c.ay.take m}}/\aC K w (w.setCell ⟨G,5,none⟩ (.slice (some ⟨g,0,none⟩) m (hs 4).c)):=by
 have i:=(h.e.rows.form f).1;rw[<-i];refine⟨⟨?_,(h.s.cut (r:=4) m).more (kZ w G 5 _).size⟩,aC.ku h 5 _⟩;have j:=(j0.cut h.e f (k:=m) (by rw[h.e.j5];exact hm)).field 5 (.slice (hs 4).A m (hs 4).c);refine j.eq rfl rfl rfl (λ d _=>(vJ hs s (by omega) _ d).symm) rfl (λ r=>?_);rw[vI hs cb _ (by omega)]
 by_cases e:r=4
 ·subst e;rw[jG];show(iY s.c.ay).take (m*1)=iY (s.c.ay.take m);simp[iY]
 ·rw[bh _ _ e];simp only[cont,if_neg e]
theorem aX.Fp(h:aX K base w G hs cb s){g:Nat}(f:(hs 5).b=some g){m:Nat}(hm:m<=s.c.st.length):
  aX K base (w.setCell ⟨G,6,none⟩ (.slice (some ⟨g,0,none⟩) m (hs 5).c)) G (iN hs 5 ⟨(hs 5).A,m,(hs 5).c⟩) cb {s with c:={s.c with st:=s.c.st.take m}}/\aC K w (w.setCell ⟨G,6,none⟩ (.slice (some ⟨g,0,none⟩) m (hs 5).c)):=by
 have i:=(h.e.rows.form f).1;rw[<-i];refine⟨⟨?_,(h.s.cut (r:=5) m).more (kZ w G 6 _).size⟩,aC.ku h 6 _⟩;have j:=(j0.cut h.e f (k:=m) (by rw[h.e.jX];exact hm)).field 6 (.slice (hs 5).A m (hs 5).c);refine j.eq rfl rfl rfl (λ d _=>(vJ hs s (by omega) _ d).symm) rfl (λ r=>?_);rw[vI hs cb _ (by omega)]
 by_cases e:r=5
 ·subst e;rw[jG];show(qc s.c.st).take (m*1)=qc (s.c.st.take m);simp[qc]
 ·rw[bh _ _ e];simp only[cont,if_neg e]
theorem aX.Bi(h:aX K base w G hs cb s)(x:Nat):aX K base (w.setCell ⟨G,7,none⟩ (.int .i64 (x:Int))) G hs cb {s with c:={s.c with ag:=x}}/\aC K w (w.setCell ⟨G,7,none⟩ (.int .i64 (x:Int))):=
 ⟨⟨(h.e.field 7 _).eq rfl rfl rfl (λ _ _=>rfl) rfl (λ _=>rfl),h.s.more (kZ w G 7 _).size⟩,aC.ku h 7 _⟩
theorem aX.Fq(h:aX K base w G hs cb s)(x:Int):aX K base (w.setCell ⟨G,9,none⟩ (.int .i64 x)) G hs cb (s.vK x)/\aC K w (w.setCell ⟨G,9,none⟩ (.int .i64 x)):=
 ⟨⟨(h.e.field 9 _).eq rfl rfl rfl (λ _ _=>rfl) rfl (λ _=>rfl),h.s.more (kZ w G 9 _).size⟩,aC.ku h 9 _⟩
theorem aX.Fs(h:aX K base w G hs cb s):aX K base (w.setCell ⟨G,15,none⟩ (.bool true)) G hs cb {s with c:=wE s.c}/\aC K w (w.setCell ⟨G,15,none⟩ (.bool true)):=
 ⟨⟨(h.e.field 15 _).eq rfl rfl rfl (λ _ _=>rfl) rfl (λ _=>rfl),h.s.more (kZ w G 15 _).size⟩,aC.ku h 15 _⟩
end
end
section
open Go.RowKit Go.Shelf
def J2(K:Nat->Prop)(base:Nat)(w:World)(G:Nat)(cb:Nat->Nat)(s:an)(e:Ending)(w':World):Prop:=
 ∃(v:Nat)(hs':Nat->ax)(s':an),e=.returned (.int .i64 v)/\aj s.ord 0=v/\1<=v/\v<=s.c.n/\(∃o p,s'={s with ord:=o,pl:=p})/\aX K base w' G hs' cb s'/\aC K w w'/\me s.c.n s'.ord s'.pl/\s'.ord.length+1=s.ord.length/\(∀u:Nat,u≠v->(0<=aj s'.pl u↔0<=aj s.pl u))
theorem J3(h:aX K base w G hs cb s)(O:me s.c.n s.ord s.pl)(al:s.act.length=s.c.n+1)(aK:s.c.n<=65536)(W:0<s.ord.length)(aL:s.ord.length<=65537):
  Calls p_ 155 #[.pointer (some ⟨G,0,none⟩)] w (J2 K base w G cb s):=by
 obtain⟨m,hm⟩:∃m,s.ord.length=m+1:=⟨s.ord.length-1,by omega⟩
 obtain⟨g7,J,X,f7⟩:=h.e.lW 10 7 rfl (h.e.n7.trans hm) (by omega);obtain⟨v,r,v1,v2⟩:=O.nat (i:=0) W;have Y:=h.e.xS J (k:=0) W;rw[r] at Y;have H:=aa h;have B:=aa O;have C:=aa J;have L:=aa r;have y:=aa (z_ v1 v2);have f:=aa hm;have em:((m+1:Nat):Int)-1=(m:Int):=by omega
 have aM:=yE m (by omega);have lm:(0:Int)<((m+1:Nat):Int):=by omega
 clear h O J r v1 v2 hm f7;go_enter Tryz.func155,Tryz.ntmps155
 go_upto_region 3 with(go_at_call 193;refine(C4 H.o B.o 0 m (by have:=f.o;omega) (by have:=f.o;omega)).mono ?_;rintro e D ⟨rfl,t,M⟩;have t:=aa t;have M:=aa M)
 have ao:(hs 7).n=m+1:=H.o.e.n7.trans f.o;have X:D.cell? ⟨G,10,none⟩=some (.slice (some ⟨g7,0,none⟩) (m+1) (hs 7).c):=t.o.e.rm 10 C.o ao rfl;have f7:D.frozen? ⟨G,10,none⟩=false:=t.o.e.free 10;have cap:m+1<=(hs 7).c:=by
  obtain⟨_,aq⟩:=t.o.e.rows.row 7;rcases aq with⟨N,_⟩|⟨aN,Z,cur,r,_,_,aO,_⟩
  ·have:=(t.o.e.rows.form C.o).1;unfold ax.v at N;rw[this] at N
   cases N
  ·unfold ax.v at r;injection r with _ _ r
   omega
 have Z:(m:Int)<=((hs 7).c:Int):=by omega
 refine wp_region_still_tail 14 (by kernel_rfl) (by kernel_rfl) ?_;simp only[List.take_succ_cons,List.take_zero,List.drop_succ_cons,d_]
 iterate 14 still_step
 refine wpStill_nil ?_;change wpList _ _ _ _ _ D.drew
 go_upto_region 4 with fail
 have P:=B.o.su;have hlen:=f.o;have i0:0<s.ord.length:=by omega
 have Q:m<s.ord.length:=by omega
 have g:=t.o.J1 C.o (m:=m) (by show m<=(kL s.ord 0 m).length;rw[rW];omega);have ab:=B.o.swap i0 Q;have E:=ab.pop (by rw[rW];omega);rw[rW,hlen,t_] at E;have ad:aj (kL s.ord 0 m) m=v:=by rw[qx i0 Q,if_pos rfl];exact L.o
 rw[ad,Int.toNat_natCast] at E;have ae:=aa (M.o.trans (g.2.trans aC.drew));have g:=aa g.1.drew;generalize (D.setCell ⟨G,10,none⟩ (.slice (some ⟨g7,0,none⟩) m (hs 7).c)).drew=ar at g ae;have af:=aa E;obtain⟨g8,R,au,f8⟩:=g.o.e.lW 11 8 rfl (g.o.e.n8.trans (by show(ua s.ord s.pl 0 m).length=s.c.n+1;unfold ua;rw[w_,w_];exact P)) (by omega);have av:=g.o.e.wP R (k:=v) (by show v<(ua s.ord s.pl 0 m).length;unfold ua;rw[w_,w_,P];have:=y.o;omega);have aw:=f8 v;have bg:(v:Int)<((s.c.n+1:Nat):Int):=by have:=y.o;omega
 have ay:=aa R;clear f8 R ab E ad Q i0 hlen P X f7 cap Z Y
 go_upto_region 5 with fail
 have j:=g.o.xR ay.o v (-1);have S:=aa (ae.o.trans j.2);have j:=aa j.1;generalize (ar.setCell ⟨g8,v,none⟩ (.int .i64 (-1)))=az at j S;clear au av aw;obtain⟨d,l⟩:∃d,d=({s.swp 0 m with ord:=(kL s.ord 0 m).take m}:an).pJ v (-1):=⟨_,rfl⟩
 have ag:(({s.swp 0 m with ord:=(s.swp 0 m).ord.take m}:an).pJ v (-1))=d:=l.symm;rw[ag] at j;have F:me d.c.n d.ord d.pl:=by rw[l];exact af.o
 have ah:d.ord.length=m:=by rw[l];show((kL s.ord 0 m).take m).length=m;rw[i_,rW];have:=f.o;omega
 have T:d.c.n=s.c.n:=by rw[l];rfl
 have a5:d.act.length=d.c.n+1:=by rw[T,<-al,l];rfl
 have ai:∃o p,d={s with ord:=o,pl:=p}:=⟨_,_,l⟩
 have ak:∀u:Nat,u≠v->(0<=aj d.pl u↔0<=aj s.pl u):=λ u hu=>by
  rw[l];show 0<=aj ((ua s.ord s.pl 0 m).set v (-1)) u↔_;rw[oO,if_neg (λ aA=>hu aA.1.symm)];exact B.o.E1 (by have:=f.o;omega) (by have:=f.o;omega) u
 have aP:az.cell? ⟨G,10,none⟩=some (.slice (some ⟨g7,0,none⟩) m (hs 7).c):=by
  have aB:(iN hs 7 ⟨(hs 7).A,m,(hs 7).c⟩ 7).b=some g7:=by rw[jG];exact C.o
  have:=j.o.e.rm 10 aB (m:=m) (by rw[jG]) rfl
  rwa[jG] at this
 have I:=aa (z_ ai ak);have F:=aa F;have q:=aa (z_ ah (z_ T a5));clear ai ak ah T a5 ag af l
 by_cases aD:m=0
 ·have aE:¬(0:Int)<(m:Int):=by omega
  have aQ:=aa aD
  go_wp2_with fail
  go_ret;exact⟨v,_,d,rfl,L.o,y.o.1,y.o.2,I.o.1,j.o,S.o,by have:=F.o;rwa[q.o.2.1] at this,by have:=q.o;have:=f.o;omega,I.o.2⟩
 ·have aE:(0:Int)<(m:Int):=by omega
  go_wp2_with (go_at_call 194;refine(Fm j.o F.o q.o.2.2 (by have:=q.o;omega) 0 (by have:=q.o;omega) (by have:=q.o;have:=f.o;omega)).mono ?_;rintro e aR ⟨rfl,aF,z,U,V⟩;have U:=aa U;have V:=aa V;have z:=aa z)
  go_ret;refine⟨v,_,aF,rfl,L.o,y.o.1,y.o.2,?_,U.o,S.o.trans V.o,?_,?_,?_⟩
  ·obtain⟨o,p,aG⟩:=I.o.1;obtain⟨aH,aI,aJ⟩:=z.o.eq;exact⟨aH,aI,by rw[aJ,aG]⟩
  ·have:=z.o.lR;rwa[q.o.2.1] at this
  ·rw[z.o.ol];have:=q.o;have:=f.o;omega
  ·exact λ u hu=>(z.o.same u).trans (I.o.2 u hu)
end
section
structure qg(c:Core)(m:Nat):Prop where
 str:∀k,k<c.st.length->m<=k->gV c.st k<if k+1<c.st.length then gV c.st (k+1) else c.ay.length
section
variable {c c':Core}{m:Nat}
theorem qg.at(h:qg c m):∀j,m+j<c.st.length->j<=gV c.st (m+j)
 |0,_=>g_ _
 |j+1,d=>by
  have h1:=qg.at h j (by omega);have b:=h.str (m+j) (by omega) (by omega);rw[if_pos (by omega)] at b;rw[show m+(j+1)=m+j+1 by omega];omega
theorem qg.len(h:qg c m):c.st.length<=m+c.ay.length:=by
 rcases n_ m c.st.length with hl|hl
 ·have h1:=h.at (c.st.length-1-m) (by omega);have b:=h.str (c.st.length-1) (by omega) (by omega);rw[if_neg (by omega)] at b;rw[show m+(c.st.length-1-m)=c.st.length-1 by omega] at h1;omega
 ·omega
theorem qg.grow(h:qg c m)(hs:c'.st=c.st)(b:c.ay.length<=c'.ay.length):qg c' m:=by
 refine⟨λ k hk hm=>?_⟩;rw[hs] at hk⊢;have:=h.str k hk hm;split
 ·rename_i h1;rw[if_pos h1] at this;exact this
 ·rename_i h1;rw[if_neg h1] at this;omega
theorem qg.zero(h:c.st=[]):qg c m:=⟨λ k hk=>by rw[h] at hk;simp at hk⟩
theorem qg.level(h:qg c m)(T:jT c)(hl:c.st.length<m):qg (nk c) m:=by
 refine⟨λ k hk hm=>?_⟩;have e:(nk c).st=c.st++[c.ay.length]:=rfl;rw[e,x_,s_] at hk;omega
theorem qg.decide(h:qg c m)(T:jT c)(x:Int):qg (k6 (nk c) x none) m:=by
 refine⟨λ k hk hm=>?_⟩;have e:(k6 (nk c) x none).st=c.st++[c.ay.length]:=rfl;have d:(k6 (nk c) x none).ay=c.ay++[x]:=rfl;rw[e,x_,s_] at hk;rw[e,d,x_,s_,x_,s_]
 by_cases h1:k<c.st.length
 ·rw[xH h1,if_pos (by omega)];have:=h.str k h1 hm
  by_cases b:k+1<c.st.length
  ·rw[if_pos b] at this;rw[xH b];exact this
  ·rw[if_neg b] at this;have f:k+1=c.st.length:=by omega
   rw[f,xI];exact this
 ·have g:k=c.st.length:=by omega
  rw[if_neg (by omega),g,xI];omega
theorem qg.back(h:qg c m)(T:jT c){level:Nat}(hl:level<c.st.length):qg (mC c level) m:=by
 refine⟨λ k hk hm=>?_⟩;have e:(mC c level).st=c.st.take level:=rfl;have b:(mC c level).ay=c.ay.take (gV c.st level):=rfl;have hlen:(c.st.take level).length=level:=by rw[i_];omega
 have d:(c.ay.take (gV c.st level)).length=gV c.st level:=by rw[i_];have:=T.ov level hl;omega
 rw[e,hlen] at hk;rw[e,b,hlen,d,uJ hk];have:=h.str k (by omega) hm;rw[if_pos (by omega)] at this
 by_cases h1:k+1<level
 ·rw[if_pos h1,uJ h1];exact this
 ·rw[if_neg h1];obtain rfl:k+1=level:=by omega
  exact this
end
end
section
def xU(a b:List Int):Prop:=∀x,x∈a↔x∈b
structure mm(F:List (List Int))(jI:List Int)(n fL:Nat)(s:an)(sp h:Nat):Prop where
 gP:j7 F F s.c h []
 rg:mj n jw (jw*(1+16*(sp:Int))) s
 vL:nr s.c jI
 lb:qg s.c jI.length
 un:∀v,1<=v->v<=n->aj s.c.val v=0->0<=aj s.pl v
 aP:s.aP=q_ (n+1) false
 wR:(s.aO.map (az s.c.cl)).Pairwise λ a b=>¬xU a b
 pN:s.aO.length=fL+sp
 yF:∀l∈s.nl,∀x∈l,gW n x
 v0:aj s.c.val 0=0
 qD:oR s.c
structure bt(level:Nat)(s s':an):Prop where
 c:s'.c=mC s.c level
 aO:s'.aO=s.aO
 aA:s'.aA=s.aA
 aP:s'.aP=s.aP
 nl:s'.nl=s.nl
 jr:s'.jr=s.jr
 ci:s'.ci=s.ci
 aZ:s'.aZ=s.aZ
 yG:∀v,0<=aj s.pl v->0<=aj s'.pl v
 Ft:∀v,1<=v->v<=s.c.n->aj s'.c.val v=0->aj s.c.val v=0\/0<=aj s'.pl v
theorem yH(l:List rZ)(x:rZ)(d:Nat):(l++[x]).getD d ⟨false,0,0⟩=if d=l.length then x else l.getD d ⟨false,0,0⟩:=by
 simp only[y_]
 by_cases h:d<l.length
 ·rw[List.getElem?_append_left h,if_neg (by omega)]
 ·rw[List.getElem?_append_right (by omega)]
  by_cases b:d=l.length
  ·subst b;simp
  ·rw[if_neg b,m_ (by simp;omega),m_ (by omega)]
section
variable {F:List (List Int)}{jI:List Int}{n fL:Nat}{s s':an}{sp h h':Nat}
theorem rO{c:Core}(T:jT c){v:Nat}(h1:1<=v)(b:v<=c.n):aj c.val v=0↔¬(v:Int)∈c.ay/\¬-(v:Int)∈c.ay:=by
 have hl:gW c.n (v:Int):=⟨by unfold aG;omega,by unfold aG;omega⟩
 rw[<-T.open hl];unfold jW aG;rw[if_neg (by omega),Int.natAbs_natCast]
theorem Bj{f g:Nat->List Int}:∀(l:List Nat),(∀d∈l,xU (g d) (f d))->(l.map f).Pairwise (λ a b=>¬xU a b)->(l.map g).Pairwise (λ a b=>¬xU a b)
 |[],_,_=>List.Pairwise.nil
 |d::l,hs,hp=>by
  rw[List.map_cons,List.pairwise_cons] at hp⊢;refine⟨λ b c=>?_,Bj l (λ e he=>hs e (c_ _ he)) hp.2⟩;obtain⟨e,he,rfl⟩:=l_.1 c;intro i;refine hp.1 (f e) (l_.2 ⟨e,he,rfl⟩) (λ x=>?_);have h1:=hs d List.mem_cons_self x;have j:=hs e (c_ _ he) x;exact h1.symm.trans ((i x).trans j)
theorem mm.run(S:mm F jI n fL s sp h){c':Core}(m:tG s.c c')(L:j7 F F c' h' [])(A:nr c' jI):mm F jI n fL {s with c:=c'} sp h':=by
 have i:c'.n=n:=m.n.trans S.rg.jt;refine⟨L,⟨i,S.rg.lR,S.rg.k5,S.rg.qf,S.rg.a0,S.rg.ru,S.rg.oH,S.rg.nE,S.rg.oS,?_,S.rg.pZ,λ d j=>?_⟩,A,S.lb.grow m.st ?_,λ v h1 b k=>S.un v h1 b ?_,S.aP,?_,S.pN,S.yF,m.v0.trans S.v0,m.qD S.qD⟩
 ·show s.ci.length=c'.cl.length;rw[m.len];exact S.rg.nF
 ·show d<c'.cl.length;rw[m.len];exact S.rg.kX d j
 ·obtain⟨e,he⟩:=m.ay;rw[he,x_];omega
 ·have f:=(rO L.aL h1 (by rw[i];exact b)).1 k;obtain⟨e,he⟩:=m.ay;rw[he] at f;exact(rO S.gP.aL h1 (by rw[S.rg.jt];exact b)).2 ⟨λ g=>f.1 (o_ _ g),λ g=>f.2 (o_ _ g)⟩
 ·exact Bj _ (λ d _ x=>m.cls d x) S.wR
theorem mm.back(S:mm F jI n fL s sp h){level:Nat}(hl:level<s.c.st.length)(k:bt level s s')(r:mj n jw (jw*(1+16*(sp:Int))) s'):mm F jI n fL s' sp (gV s.c.st level):=by
 have f:∀d,az s'.c.cl d=az s.c.cl d:=λ d=>by rw[k.c];rfl
 refine⟨by rw[k.c];exact S.gP.back hl,r,by rw[k.c];exact S.vL.back S.gP.aL hl,by rw[k.c];exact S.lb.back S.gP.aL hl,λ v h1 e g=>?_,k.aP.trans S.aP,?_,by rw[k.aO];exact S.pN,by rw[k.nl];exact S.yF,?_,by rw[k.c];exact S.qD.back level⟩
 ·rcases k.Ft v h1 (by rw[S.rg.jt];exact e) g with b|b
  ·exact k.yG v (S.un v h1 e b)
  ·exact b
 ·rw[k.aO];exact Bj _ (λ d _ x=>by rw[f]) S.wR
 ·rw[k.c];show aj (zero s.c.val _) 0=0;rw[yt];split
  ·rfl
  ·exact S.v0
theorem mm.mT(S:mm F jI n fL s sp h):s.aO.length+1<=3^n:=by
 have:=E0 (n:=n) (ls:=s.aO.map (az s.c.cl)) (λ l hl=>by
  obtain⟨d,b,rfl⟩:=l_.1 hl;have:=S.gP.jF.mB d (S.rg.kX d b);rw[S.rg.jt] at this;exact this) (S.wR.imp λ h e=>h e)
 rwa[List.length_map] at this
theorem mm.level(S:mm F jI n fL s sp h)(b:h=s.c.ay.length)(d:s.c.kS=false)(hk:s.c.st.length<jI.length)(e:aj jI s.c.st.length∈s.c.ay):mm F jI n fL {s with c:=nk s.c} sp h:=by
 subst b;refine⟨S.gP.level d,⟨S.rg.jt,S.rg.lR,S.rg.k5,S.rg.qf,S.rg.a0,S.rg.ru,S.rg.oH,S.rg.nE,S.rg.oS,S.rg.nF,S.rg.pZ,S.rg.kX⟩,S.vL.level S.gP.aL (λ _=>e),S.lb.level S.gP.aL hk,S.un,S.aP,S.wR,S.pN,S.yF,S.v0,S.qD⟩
theorem mm.decide{aI:an}(S:mm F jI n fL s sp h)(b:h=s.c.ay.length)(o:s.c.kS=false){x:Int}(j:gW n x)(k:jW s.c x=0)(p:s.c.st.length<jI.length->x=aj jI s.c.st.length)
  (e:aI={s with ord:=aI.ord,pl:=aI.pl}) (q:me n aI.ord aI.pl) (r:∀v:Nat,1<=v->v<=n->aj s.c.val v=0->v≠aG x->0<=aj aI.pl v):
  mm F jI n fL {aI with c:=k6 (nk s.c) x none} sp h:=by
 subst b;rw[e];have l:gW s.c.n x:=by rw[S.rg.jt];exact j
 have G:=S.gP.decide o l k;refine⟨G,⟨S.rg.jt,q,S.rg.k5,S.rg.qf,S.rg.a0,S.rg.ru,S.rg.oH,S.rg.nE,S.rg.oS,S.rg.nF,S.rg.pZ,S.rg.kX⟩,S.vL.decide S.gP.aL l k p,S.lb.decide S.gP.aL x,λ v h1 g t=>?_,S.aP,S.wR,S.pN,S.yF,by show aj (s.c.val.set _ _) 0=0;rw[oO,if_neg (by have:=j.1;omega)];exact S.v0,oR.set (show oR (nk s.c) from S.qD) none (λ d u=>by cases u)⟩;have f:=(rO G.aL h1 (by show v<=s.c.n;rw[S.rg.jt];exact g)).1 t;have w:(k6 (nk s.c) x none).ay=s.c.ay++[x]:=rfl;rw[w] at f;have y:=(rO S.gP.aL h1 (by rw[S.rg.jt];exact g)).2 ⟨λ b=>f.1 (o_ _ b),λ b=>f.2 (o_ _ b)⟩;refine r v h1 g y (λ m=>?_);rcases Int.natAbs_eq x with i|i
 ·exact f.1 (by rw[m];unfold aG;rw[<-i];simp)
 ·exact f.2 (by rw[m];unfold aG;rw[<-i];simp)
end
end
section
def lJ(b:List Bool)(x:Int):Bool:=if x<0 then !(iU b x.natAbs) else iU b x.natAbs
theorem Bk(b:List Bool):Mod (lJ b):=λ x c=>by
 unfold lJ;rw[Int.natAbs_neg]
 by_cases h:x<0
 ·rw[if_pos h,if_neg (by omega)];simp
 ·rw[if_neg h,if_pos (by omega)]
def vM(s:an):List Bool:=(List.range (s.c.n+1)).map λ v=>decide (0<aj s.c.val v)
theorem J4(s:an):(vM s).length=s.c.n+1:=by simp[vM]
theorem C6(s:an){v:Nat}(h:v<=s.c.n):iU (vM s) v=decide (0<aj s.c.val v):=by
 unfold vM iU;rw[y_,List.getElem?_map,List.getElem?_range (by omega)];rfl
section
variable {F:List (List Int)}{jI:List Int}{n fL:Nat}{s:an}{sp h:Nat}
theorem Fu(T:jT s.c)(x:Int)(f:gW s.c.n x)(d:jW s.c x≠0):lJ (vM s) x=true↔jW s.c x=1:=by
 have g:x.natAbs<=s.c.n:=f.2;have e:=T.range x;unfold jW at*;unfold lJ;unfold aG at*;rw[C6 s g]
 by_cases b:x<0
 ·rw[if_pos b];rw[if_pos b] at d e⊢;simp only[Bool.not_eq_true',decide_eq_false_iff_not];omega
 ·rw[if_neg b];rw[if_neg b] at d e⊢;simp only[decide_eq_true_eq];omega
theorem mm.yes(S:mm F jI n fL s sp h)(j:h=s.c.ay.length)(k:s.c.kS=false)(p:s.ord.length=0)(hF:∀g∈F,∀x∈g,gW n x)(hl:jI.length<=s.c.st.length):
  (∀g∈F,sR (lJ (vM s)) g)/\(∀x∈jI,lJ (vM s) x=true):=by
 subst j;have T:=S.gP.aL;have e:∀x,gW s.c.n x->jW s.c x≠0:=λ x b i=>by
  have l:aj s.c.val (aG x)=0:=by unfold jW at i;split at i<;>omega
  have d:gW n x:=by rw[<-S.rg.jt];exact b
  have h1:=S.un (aG x) d.1 d.2 l;have q:=(S.rg.lR.o (aG x) d.1 d.2 h1).1;omega
 refine⟨Jy S.gP k e (Bk _) (λ x b=>Fu T x b (e x b)) (λ g m x b=>by rw[S.rg.jt];exact hF g m x b),λ x b=>?_⟩;have hm:=S.vL.all hl x b;have f:=T.lit x hm;exact(Fu T x f (e x f)).2 ((T.pos x f).2 hm)
theorem mm.J5(S:mm F jI n fL s sp h):iU (vM s) 0=false:=by
 rw[C6 s (g_ _),S.v0];rfl
theorem mm.core(S:mm F jI n fL s sp h)(hk:s.c.st.length<jI.length){p:Int}(hp:aj jI s.c.st.length=p){out:List Int}
  (g:∀x∈out,x=p\/(x∈s.c.ay/\mo s.c.j6 (aG x)=none)) (hu:∀M,tS M F->¬∀x∈p::out,M x=true) (j:p∈out):
  ∀M,tS M F->¬∀x∈jI.filter (λ x=>out.contains x),M x=true:=by
 intro M l m;refine hu M l (λ x b=>?_);have d:x∈out:=by
  rcases b_.1 b with rfl|b
  ·exact j
  ·exact b
 refine m x (List.mem_filter.2 ⟨?_,by simpa using d⟩);rcases g x d with rfl|⟨h1,o⟩
 ·rw[<-hp];exact lZ hk
 ·obtain⟨i,q,e⟩:=qb.1 h1;obtain⟨k,r,t,f⟩:=S.vL.dec i q (by rw[e];exact o);rw[e] at f;rw[f (by omega)];exact lZ (by omega)
end
end
section
def n9(n:Nat):Core:=⟨n,q_ (2*n+2) [],q_ (n+1) 0,q_ (n+1) 0,q_ (n+1) none,[],[],0,false,[]⟩
theorem zT(n:Nat)(k:Nat):aj (q_ n 0) k=0:=by
 unfold aj;rw[y_,h_];split<;>rfl
theorem Bl{α:Type}(n:Nat)(k:Nat):az (q_ n ([]:List α)) k=[]:=by
 unfold az;rw[y_,h_];split<;>rfl
theorem j7.init(F:List (List Int))(n:Nat):j7 F [] (n9 n) 0 []:=by
 have f:∀x,jW (n9 n) x=0:=λ x=>by
  unfold jW;have:∀k,aj (n9 n).val k=0:=zT _;rw[this];split<;>rfl
 refine⟨⟨by simp[n9],by simp[n9],by simp[n9],λ x e=>by simp[n9] at e,by simp[n9],λ v=>Or.inl (zT _ _),λ x e=>?_,λ j k _ hk=>by simp[n9] at hk,λ k hk=>by simp[n9] at hk,λ i c=>by simp[n9] at c,λ i c=>by simp[n9] at c⟩,
  ⟨λ d b=>by simp[n9] at b,λ d b=>by simp[n9] at b,λ g l=>by simp at l,λ h=>by simp[n9] at h,Or.inr λ d b=>by simp[n9] at b⟩,
  ⟨by simp[n9],λ k d b=>?_,λ k=>?_,λ d b=>by simp[n9] at b⟩,λ d b=>by simp[n9] at b,λ k hk=>by simp[n9] at hk,λ k hk=>by simp[n9] at hk,g_ _⟩
 ·rw[f];simp[n9]
 ·have:az (n9 n).wt k=[]:=Bl _ _;rw[this] at b;cases b
 ·have:az (n9 n).wt k=[]:=Bl _ _;rw[this];exact List.nodup_nil
structure Fv(n:Nat)(F:List (List Int))(g l:List Int)(both:Bool):Prop where
 ok:both=false->l≠ []->oF n l
 imp:both=false->rD F l
 mem:∀x,x∈l↔x∈g
 J6:both=true->ve g
def an.oy(s:an)(l:List Int)(both:Bool)(x:rZ):an:={s with c:=o8 s.c l both,ci:=if both=true\/l.length=0 then s.ci else s.ci++[x]}
section
variable {F Fd:List (List Int)}{c:Core}{n:Nat}
theorem nr.low(T:jT c)(hs:c.st=[])(b:List Int):nr c b:=by
 refine⟨λ k hk=>by rw[hs] at hk;simp at hk,λ i d hw=>?_⟩;have:=T.pV i d;rw[hw] at this;obtain⟨k,hk,_⟩:=this;rw[hs] at hk;simp at hk
theorem J7{l:List Int}{b:Bool}(h:aj c.val 0=0)(hl:b=false->l≠ []->oF n l):aj (o8 c l b).val 0=0:=by
 unfold o8
 by_cases h1:b=true
 ·rw[if_pos h1];exact h
 ·rw[if_neg h1]
  by_cases d:l.length=0
  ·rw[if_pos d];exact h
  ·rw[if_neg d]
   by_cases f:l.length=1
   ·rw[if_pos f]
    by_cases g:jW c (aj l 0)= -1
    ·rw[if_pos g];exact h
    ·rw[if_neg g]
     by_cases i:jW c (aj l 0)=0
     ·rw[if_pos i];show aj (c.val.set _ _) 0=0;have:=((hl (by simpa using h1) (λ e=>d (by rw[e];rfl))).lt (aj l 0) (lZ (by omega))).1;rw[oO,if_neg (by omega)];exact h
     ·rw[if_neg i];exact h
   ·rw[if_neg f];exact h
end
structure yI(F Fd:List (List Int))(n:Nat)(s:an):Prop where
 gP:j7 F Fd s.c 0 []
 jt:s.c.n=n
 st:s.c.st=[]
 ag:s.c.ag=0
 v0:aj s.c.val 0=0
 nF:s.ci.length=s.c.cl.length
 pZ:∀d,0<=(lF s d).ac/\(lF s d).ac<=jw/\0<=(lF s d).bg/\(lF s d).bg<=jw
theorem yI.take{F Fd:List (List Int)}{n:Nat}{s:an}(h:yI F Fd n s){g l:List Int}{both:Bool}(k:Fv n F g l both){x:rZ}(b:0<=x.ac/\x.ac<=jw/\0<=x.bg/\x.bg<=jw):yI F (Fd++[g]) n (s.oy l both x):=by
 refine⟨h.gP.take h.st rfl (by rw[h.jt];exact k.ok) k.imp k.mem k.J6,(JR _ _ _).trans h.jt,(JS _ _ _).trans h.st,(JT _ _ _).trans h.ag,J7 h.v0 k.ok,?_,λ d=>?_⟩
 ·show(if both=true\/l.length=0 then s.ci else s.ci++[x]).length=(o8 s.c l both).cl.length;rw[Bd];split
  ·exact h.nF
  ·rw[x_,x_,h.nF];rfl
 ·have e:lF (s.oy l both x) d=(if both=true\/l.length=0 then s.ci else s.ci++[x]).getD d ⟨false,0,0⟩:=rfl;rw[e];split
  ·exact h.pZ d
  ·rw[yH];split
   ·exact b
   ·exact h.pZ d
theorem J8(s:an)(l:List Int)(both:Bool)(x:rZ){d:Nat}(b:d<s.c.cl.length)(e:s.ci.length=s.c.cl.length):az (s.oy l both x).c.cl d=az s.c.cl d/\lF (s.oy l both x) d=lF s d:=by
 refine⟨?_,?_⟩
 ·show az (o8 s.c l both).cl d=_;rw[Bd];split
  ·rfl
  ·exact AX b
 ·show(if both=true\/l.length=0 then s.ci else s.ci++[x]).getD d ⟨false,0,0⟩=_;split
  ·rfl
  ·rw[yH,if_neg (by omega)];rfl
theorem J9(s:an)(l:List Int)(x:rZ)(hl:l≠ [])(d:s.ci.length=s.c.cl.length):(s.oy l false x).c.cl.length=s.c.cl.length+1/\az (s.oy l false x).c.cl s.c.cl.length=l/\lF (s.oy l false x) s.c.cl.length=x:=by
 have b:¬(false=true\/l.length=0):=λ h=>h.elim (λ h=>by cases h) (λ h=>hl (j_ h))
 have e:(s.oy l false x).c.cl=s.c.cl++[l]:=by
  show(o8 s.c l false).cl=_;rw[Bd,if_neg b]
 refine⟨by rw[e];simp,by rw[e];exact uI _ _,?_⟩;show(if false=true\/l.length=0 then s.ci else s.ci++[x]).getD s.c.cl.length ⟨false,0,0⟩=x;rw[if_neg b,yH,if_pos d.symm]
end
end Go.Proofs.YtogdlkfacflmaaaGreat
