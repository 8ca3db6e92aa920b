/- Parts of the walk of the solver and its core; no condition. -/
import Derived.Test.YtogdlkfacflmaaaGreatZY3
import Derived.BigRegion
import Derived.Test.YtogdlkfacflmaaaGreatZY1
namespace Go.Proofs.YtogdlkfacflmaaaGreat
set_option linter.unusedVariables false
set_option linter.unusedSimpArgs false
set_option maxRecDepth 100000
set_option maxHeartbeats 4000000
open _root_.And renaming intro→z_
open _root_.List renaming length_set→y_,getD_eq_getElem?_getD→w_,drop_eq_getElem_cons→v_,length_append→u_,length_singleton→s_,map_set→q_,length_take→j_,drop_zero→g_
open _root_.Nat renaming le_refl→x_,add_sub_cancel→t_,lt_or_ge→o_,lt_of_lt_of_le→m_,le_trans→l_
open _root_.Go.RowKit.Below renaming refl→r_
open _root_.Go.Proofs.Tryz renaming prog→p_
open _root_.Int renaming le_trans→n_
open _root_.Or renaming inl→k_
open _root_.Go renaming wpQuiet_nil→i_
open _root_.Iff renaming rfl→h_
variable{base G n g7 g8 iB pF:Nat}{w:World}{hs:Nat->ay}{cb:Nat->Nat}{s s':au}{c:Core}{A B A' qU:Int}{K:Nat->Prop}
section
open Go.RowKit Go.Shelf
structure Fr(hs:Nat->ay)(G:Nat)(cb:Nat->Nat)(n:Nat)(w w':World):Prop where
 os:w'.os=w.os
 tape:w'.tape=w.tape
 output:w'.output=w.output
 size:w.heap.size<=w'.heap.size
 keep:∀b,b<w.heap.size->b≠G->(∀r,(hs r).b≠some b)->(∀d,d<n->cb d≠b)->w'.heap[b]? =w.heap[b]?
section
variable {base:Nat}{w w' w1:World}{G:Nat}{hs hs':Nat->ay}{cb:Nat->Nat}{gr:List Value}{cls:Nat->List Value}{n:Nat}{X:Nat->List Value}
theorem Fr.trans(h:Fr hs G cb n w w1)(h':Fr hs G cb n w1 w'):Fr hs G cb n w w':=
 ⟨h'.os.trans h.os,h'.tape.trans h.tape,h'.output.trans h.output,l_ h.size h'.size,λ b c h1 d e=>(h'.keep b (m_ c h.size) h1 d e).trans (h.keep b c h1 d e)⟩
theorem Fr.then(h:Fr hs G cb n w w1)(h':Fr hs' G cb n w1 w')(i:∀r g,(hs' r).b=some g->(∃r',(hs r').b=some g)\/w.heap.size<=g):Fr hs G cb n w w':=
 ⟨h'.os.trans h.os,h'.tape.trans h.tape,h'.output.trans h.output,l_ h.size h'.size,λ b c h1 d f=>(h'.keep b (m_ c h.size) h1 (λ r e=>by
  rcases i r b e with⟨r',j⟩|hle
  ·exact d r' j
  ·omega) f).trans (h.keep b c h1 d f)⟩
theorem Fr.cell(r g k:Nat)(v:Value)(c:(hs r).b=some g):Fr hs G cb n w (w.setCell ⟨g,k,none⟩ v):=by
 have h:=lq w g k v;exact⟨h.os,h.tape,h.output,h.size,λ b d _ f _=>h.block b d (λ e=>f r (by rw[c];injection e with e;rw[e]))⟩
theorem Fr.kP(k:Nat)(v:Value):Fr hs G cb n w (w.setCell ⟨G,k,none⟩ v):=by
 have h:=lq w G k v;exact⟨h.os,h.tape,h.output,h.size,λ b c h1 _ _=>h.block b c (λ e=>h1 (by injection e))⟩
theorem Fr.grown(r:Nat)(c:w.grownBy w' (hs r).b):Fr hs G cb n w w':=
 ⟨c.os,c.tape,c.output,c.size,λ b d _ f _=>c.block b d (λ e=>f r e.symm)⟩
theorem Fr.rf(h:Below w.heap.size w w'):Fr hs G cb n w w':=
 ⟨h.os,h.tape,h.output,h.size,λ b c _ _ _=>h.block b c⟩
end
section
variable {base:Nat}{w w':World}{G:Nat}{hs:Nat->ay}{cb:Nat->Nat}{s:au}
theorem jm.jE(h:jm base w G hs cb s):(hs 1).n=s.c.val.length:=by
 have h1:=h.rows.len 1;rw[show(cont hs cb s 1).length=s.c.val.length by simp[cont,s4],show nL 1=1 from rfl] at h1;omega
theorem jm.kJ(h:jm base w G hs cb s):(hs 2).n=s.c.lvl.length:=by
 have h1:=h.rows.len 2;rw[show(cont hs cb s 2).length=s.c.lvl.length by simp[cont,qo],show nL 2=1 from rfl] at h1;omega
theorem jm.nU(h:jm base w G hs cb s):(hs 3).n=s.c.kF.length:=by
 have h1:=h.rows.len 3;rw[show(cont hs cb s 3).length=s.c.kF.length by simp[cont,uv],show nL 3=1 from rfl] at h1;omega
theorem jm.kD(h:jm base w G hs cb s):(hs 4).n=s.c.ax.length:=by
 have h1:=h.rows.len 4;rw[show(cont hs cb s 4).length=s.c.ax.length by simp[cont,jj],show nL 4=1 from rfl] at h1;omega
theorem jm.kj(h:jm base w G hs cb s):(hs 5).n=s.c.st.length:=by
 have h1:=h.rows.len 5;rw[show(cont hs cb s 5).length=s.c.st.length by simp[cont,qo],show nL 5=1 from rfl] at h1;omega
theorem jm.n6(h:jm base w G hs cb s):(hs 6).n=s.act.length:=by
 have h1:=h.rows.len 6;rw[show(cont hs cb s 6).length=s.act.length by simp[cont,jj],show nL 6=1 from rfl] at h1;omega
theorem jm.n7(h:jm base w G hs cb s):(hs 7).n=s.ord.length:=by
 have h1:=h.rows.len 7;rw[show(cont hs cb s 7).length=s.ord.length by simp[cont,jj],show nL 7=1 from rfl] at h1;omega
theorem jm.n8(h:jm base w G hs cb s):(hs 8).n=s.pl.length:=by
 have h1:=h.rows.len 8;rw[show(cont hs cb s 8).length=s.pl.length by simp[cont,jj],show nL 8=1 from rfl] at h1;omega
theorem jm.kf(h:jm base w G hs cb s):(hs 9).n=s.ia.length:=by
 have h1:=h.rows.len 9;rw[show(cont hs cb s 9).length=s.ia.length by simp[cont,pR],show nL 9=1 from rfl] at h1;omega
theorem jm.n12(h:jm base w G hs cb s):(hs 12).n=s.aQ.length:=by
 have h1:=h.rows.len 12;rw[show(cont hs cb s 12).length=s.aQ.length by simp[cont,pR],show nL 12=1 from rfl] at h1;omega
end
section
variable {base:Nat}{w w':World}{G:Nat}{hs:Nat->ay}{cb:Nat->Nat}{s:au}
theorem jm.x6(h:jm base w G hs cb s){g:Nat}(d:(hs 1).b=some g)(k:Nat)(x:Int):jm base (w.setCell ⟨g,k,none⟩ (.int .i8 x)) G hs cb (s.o5 k x):=by
 refine(h.cell d k (.int .i8 x)).eq rfl rfl rfl (λ _ _=>rfl) rfl (λ r=>?_)
 by_cases e:r=1
 ·subst e;rw[jT];show(s4 s.c.val).set k _=s4 (s.c.val.set k x);simp[s4,q_]
 ·rw[bq _ _ e];simp only[cont,if_neg e,au.o5,au.rM,au.qI,au.wZ,au.p8,au.tM,au.pS,au.uw,au.s6]
theorem jm.FR(h:jm base w G hs cb s){g:Nat}(d:(hs 2).b=some g)(k:Nat)(x:Nat):jm base (w.setCell ⟨g,k,none⟩ (.int .i64 (x:Int))) G hs cb (s.rM k x):=by
 refine(h.cell d k (.int .i64 (x:Int))).eq rfl rfl rfl (λ _ _=>rfl) rfl (λ r=>?_)
 by_cases e:r=2
 ·subst e;rw[jT];show(qo s.c.lvl).set k _=qo (s.c.lvl.set k x);simp[qo,q_]
 ·rw[bq _ _ e];simp only[cont,if_neg e,au.o5,au.rM,au.qI,au.wZ,au.p8,au.tM,au.pS,au.uw,au.s6]
theorem jm.z8(h:jm base w G hs cb s){g:Nat}(d:(hs 3).b=some g)(k:Nat)(x:Option Nat):jm base (w.setCell ⟨g,k,none⟩ (qT cb x)) G hs cb (s.qI k x):=by
 refine(h.cell d k (qT cb x)).eq rfl rfl rfl (λ _ _=>rfl) rfl (λ r=>?_)
 by_cases e:r=3
 ·subst e;rw[jT];show(uv cb s.c.kF).set k _=uv cb (s.c.kF.set k x);simp[uv,q_]
 ·rw[bq _ _ e];simp only[cont,if_neg e,au.o5,au.rM,au.qI,au.wZ,au.p8,au.tM,au.pS,au.uw,au.s6]
theorem jm.Bz(h:jm base w G hs cb s){g:Nat}(c:(hs 6).b=some g)(k:Nat)(x:Int):jm base (w.setCell ⟨g,k,none⟩ (.int .i64 x)) G hs cb (s.p8 k x):=by
 refine(h.cell c k (.int .i64 x)).eq rfl rfl rfl (λ _ _=>rfl) rfl (λ r=>?_)
 by_cases e:r=6
 ·subst e;rw[jT];show(jj s.act).set k _=jj (s.act.set k x);simp[jj,q_]
 ·rw[bq _ _ e];simp only[cont,if_neg e,au.o5,au.rM,au.qI,au.wZ,au.p8,au.tM,au.pS,au.uw,au.s6]
theorem jm.FT(h:jm base w G hs cb s){g:Nat}(c:(hs 7).b=some g)(k:Nat)(x:Int):jm base (w.setCell ⟨g,k,none⟩ (.int .i64 x)) G hs cb (s.tM k x):=by
 refine(h.cell c k (.int .i64 x)).eq rfl rfl rfl (λ _ _=>rfl) rfl (λ r=>?_)
 by_cases e:r=7
 ·subst e;rw[jT];show(jj s.ord).set k _=jj (s.ord.set k x);simp[jj,q_]
 ·rw[bq _ _ e];simp only[cont,if_neg e,au.o5,au.rM,au.qI,au.wZ,au.p8,au.tM,au.pS,au.uw,au.s6]
theorem jm.x7(h:jm base w G hs cb s){g:Nat}(c:(hs 8).b=some g)(k:Nat)(x:Int):jm base (w.setCell ⟨g,k,none⟩ (.int .i64 x)) G hs cb (s.pS k x):=by
 refine(h.cell c k (.int .i64 x)).eq rfl rfl rfl (λ _ _=>rfl) rfl (λ r=>?_)
 by_cases e:r=8
 ·subst e;rw[jT];show(jj s.pl).set k _=jj (s.pl.set k x);simp[jj,q_]
 ·rw[bq _ _ e];simp only[cont,if_neg e,au.o5,au.rM,au.qI,au.wZ,au.p8,au.tM,au.pS,au.uw,au.s6]
theorem jm.Aa(h:jm base w G hs cb s){g:Nat}(c:(hs 9).b=some g)(k:Nat)(x:Bool):jm base (w.setCell ⟨g,k,none⟩ (.bool x)) G hs cb (s.uw k x):=by
 refine(h.cell c k (.bool x)).eq rfl rfl rfl (λ _ _=>rfl) rfl (λ r=>?_)
 by_cases e:r=9
 ·subst e;rw[jT];show(pR s.ia).set k _=pR (s.ia.set k x);simp[pR,q_]
 ·rw[bq _ _ e];simp only[cont,if_neg e,au.o5,au.rM,au.qI,au.wZ,au.p8,au.tM,au.pS,au.uw,au.s6]
theorem jm.xd(h:jm base w G hs cb s){g:Nat}(c:(hs 12).b=some g)(k:Nat)(x:Bool):jm base (w.setCell ⟨g,k,none⟩ (.bool x)) G hs cb (s.s6 k x):=by
 refine(h.cell c k (.bool x)).eq rfl rfl rfl (λ _ _=>rfl) rfl (λ r=>?_)
 by_cases e:r=12
 ·subst e;rw[jT];show(pR s.aQ).set k _=pR (s.aQ.set k x);simp[pR,q_]
 ·rw[bq _ _ e];simp only[cont,if_neg e,au.o5,au.rM,au.qI,au.wZ,au.p8,au.tM,au.pS,au.uw,au.s6]
end
section
variable {base:Nat}{w w':World}{G:Nat}{hs:Nat->ay}{cb:Nat->Nat}{gr:List Value}{cls:Nat->List Value}{n:Nat}{X:Nat->List Value}
theorem kA.l7(h:kA base w G hs cb gr cls n X)(k r:Nat){m:Nat}(hk:gr[k]? =some (hs r).v)(e:(hs r).n=m)(f:m≠0):
  ∃g,(hs r).b=some g/\w.cell? ⟨G,k,none⟩=some (.slice (some ⟨g,0,none⟩) m (hs r).c)/\∀j,w.frozen? ⟨g,j,none⟩=false:=by
 obtain⟨g,h1,d,i⟩:=h.xb (r:=r) e f;exact⟨g,d,by rw[<-i];exact h.kP hk,λ j=>h.rows.free d j⟩
theorem kA.free(h:kA base w G hs cb gr cls n X)(k:Nat):w.frozen? ⟨G,k,none⟩=false:=h.box.free k
theorem kA.xe(h:kA base w G hs cb gr cls n X){r r' g nr:Nat}(c:r≠r')(h1:(hs r).b=some g)(d:(hs r').b=some nr):g≠nr:=λ e=>by
 subst e;exact h.rows.apart r r' g c h1 d
end
section
variable {base:Nat}{w w':World}{G:Nat}{hs:Nat->ay}{cb:Nat->Nat}{s:au}
theorem jm.Ab(h:jm base w G hs cb s){g:Nat}(d:(hs 1).b=some g){k:Nat}(hk:k<s.c.val.length):w.cell? ⟨g,k,none⟩=some (.int .i8 (ak s.c.val k)):=h.get d (by
 show(s4 s.c.val)[k]? =_;rw[nu hk];simp[s4,hk])
theorem jm.vZ(h:jm base w G hs cb s){g:Nat}(d:(hs 2).b=some g){k:Nat}(hk:k<s.c.lvl.length):w.cell? ⟨g,k,none⟩=some (.int .i64 (hU s.c.lvl k:Int)):=h.get d (by
 show(qo s.c.lvl)[k]? =_;rw[vt hk];simp[qo,hk])
theorem jm.yT(h:jm base w G hs cb s){g:Nat}(d:(hs 3).b=some g){k:Nat}(hk:k<s.c.kF.length):w.cell? ⟨g,k,none⟩=some (qT cb (mH s.c.kF k)):=h.get d (by
 show(uv cb s.c.kF)[k]? =_;rw[FB hk];simp[uv,hk])
theorem jm.Ac(h:jm base w G hs cb s){g:Nat}(d:(hs 4).b=some g){k:Nat}(hk:k<s.c.ax.length):w.cell? ⟨g,k,none⟩=some (.int .i64 (ak s.c.ax k)):=h.get d (by
 show(jj s.c.ax)[k]? =_;rw[nu hk];simp[jj,hk])
theorem jm.FU(h:jm base w G hs cb s){g:Nat}(d:(hs 5).b=some g){k:Nat}(hk:k<s.c.st.length):w.cell? ⟨g,k,none⟩=some (.int .i64 (hU s.c.st k:Int)):=h.get d (by
 show(qo s.c.st)[k]? =_;rw[vt hk];simp[qo,hk])
theorem jm.yU(h:jm base w G hs cb s){g:Nat}(c:(hs 6).b=some g){k:Nat}(hk:k<s.act.length):w.cell? ⟨g,k,none⟩=some (.int .i64 (ak s.act k)):=h.get c (by
 show(jj s.act)[k]? =_;rw[nu hk];simp[jj,hk])
theorem jm.x8(h:jm base w G hs cb s){g:Nat}(c:(hs 7).b=some g){k:Nat}(hk:k<s.ord.length):w.cell? ⟨g,k,none⟩=some (.int .i64 (ak s.ord k)):=h.get c (by
 show(jj s.ord)[k]? =_;rw[nu hk];simp[jj,hk])
theorem jm.xg(h:jm base w G hs cb s){g:Nat}(c:(hs 8).b=some g){k:Nat}(hk:k<s.pl.length):w.cell? ⟨g,k,none⟩=some (.int .i64 (ak s.pl k)):=h.get c (by
 show(jj s.pl)[k]? =_;rw[nu hk];simp[jj,hk])
theorem jm.FV(h:jm base w G hs cb s){g:Nat}(c:(hs 9).b=some g){k:Nat}(hk:k<s.ia.length):w.cell? ⟨g,k,none⟩=some (.bool (iY s.ia k)):=h.get c (by
 show(pR s.ia)[k]? =_;simp[pR,iY,hk,w_])
theorem jm.Ad(h:jm base w G hs cb s){g:Nat}(c:(hs 12).b=some g){k:Nat}(hk:k<s.aQ.length):w.cell? ⟨g,k,none⟩=some (.bool (iY s.aQ k)):=h.get c (by
 show(pR s.aQ)[k]? =_;simp[pR,iY,hk,w_])
end
end
section
open Go.RowKit Go.Shelf
theorem v7(hs:Nat->ay)(cb:Nat->Nat)(s:au){me:Nat}(b:me<13)(h':ay)(r:Nat):cont (iV hs me h') cb s r=cont hs cb s r:=by
 unfold cont;have:∀k,iV hs me h' (iI k)=hs (iI k):=λ k=>bq _ _ (by unfold iI;omega)
 simp only[this]
theorem v8(hs:Nat->ay)(s:au){me:Nat}(b:me<13)(h':ay)(d:Nat):tL (iV hs me h') s d=tL hs s d:=by
 unfold tL;rw[bq _ _ (by unfold kO;omega)]
section
variable {base:Nat}{w bE:World}{G:Nat}{hs:Nat->ay}{cb:Nat->Nat}{s:au}
theorem kA.ri{gr:List Value}{cls:Nat->List Value}{n:Nat}{X:Nat->List Value}(h:kA base w G hs cb gr cls n X)(k:Nat){r g m:Nat}(d:(hs r).b=some g)(e:(hs r).n=m)(hk:gr[k]? =some (hs r).v):w.cell? ⟨G,k,none⟩=some (.slice (some ⟨g,0,none⟩) m (hs r).c):=by
 rw[h.kP hk];unfold ay.v;rw[(h.rows.form d).1,e]
theorem kA.after{gr:List Value}{cls:Nat->List Value}{n:Nat}{X:Nat->List Value}(h:kA base w G hs cb gr cls n X){r:Nat}(c:w.grownBy bE (hs r).b)(k:Nat):bE.cell? ⟨G,k,none⟩=w.cell? ⟨G,k,none⟩/\bE.frozen? ⟨G,k,none⟩=false:=by
 have hk:=h.box.kept c (λ e=>h.ux r G e.symm rfl);exact⟨by rw[hk.cell,h.box.cell],hk.free k⟩
theorem jm.FW(h:jm base w G hs cb s){v':Value}{x:Int}(m:mY w base 3 (hs 4).v (s.c.ax.length+1) ((s.c.ax++[x]).map (Value.int .i64)) v' bE):
  ∃(A':Option Addr)(c':Nat),v'=.slice A' (s.c.ax.length+1) c'/\((ay.mk A' (s.c.ax.length+1) c').b=(hs 4).b\/(ay.mk A' (s.c.ax.length+1) c').b=some w.heap.size)/\bE.cell? ⟨G,5,none⟩=some (hs 4).v/\bE.frozen? ⟨G,5,none⟩=false/\
   jm base (bE.setCell ⟨G,5,none⟩ v') G (iV hs 4 ⟨A',s.c.ax.length+1,c'⟩) cb (s.yQ x)/\Fr hs G cb s.c.cl.length w (bE.setCell ⟨G,5,none⟩ v'):=by
 obtain⟨j,i,f⟩:=m;obtain⟨h',rfl,k⟩:=ay.kZ j;rw[ay.own] at i f;rw[ay.own] at f;obtain⟨a1,a2⟩:=h.after i 5;have n:=h.ji (r:=4) (h':=h') i (by rw[k];exact j) (f.imp id (λ e g i=>by rw[e] at i;injection i with i;omega));have o:=n.field 5 h'.v;obtain⟨A',p,c'⟩:=h';obtain rfl:p=_:=k;refine⟨A',c',rfl,f,by rw[a1];exact h.kP rfl,a2,?_,?_⟩
 ·refine o.eq rfl rfl rfl (λ d _=>(v8 hs s (by omega) _ d).symm) rfl (λ r=>?_);rw[v7 hs cb _ (by omega)]
  by_cases e:r=4
  ·subst e;rw[jT];rfl
  ·rw[bq _ _ e];simp only[cont,if_neg e,au.yQ]
 ·refine(Fr.grown 4 i).then (hs':=iV hs 4 ⟨A',s.c.ax.length+1,c'⟩) (Fr.kP 5 _) (λ r g e=>?_)
  by_cases l:r=4
  ·subst l;rw[jT] at e;rcases f with f|f
   ·exact k_ ⟨4,f▸e⟩
   ·rw[f] at e;injection e with e;exact Or.inr (by omega)
  ·rw[bq _ _ l] at e;exact k_ ⟨r,e⟩
end
end
section
open Go.RowKit Go.Shelf
theorem bC(w:World)(o:Obj):Below w.heap.size w (w.alloc o):=(r_ _ _).alloc (x_ _) _
def Kt(base:Nat)(w:World)(G:Nat)(hs:Nat->ay)(cb:Nat->Nat)(s:au)(x:Int)(o:Option Nat)(e:Ending)(w':World):Prop:=
 e=.returned (.tuple #[])/\∃h':ay,jm base w' G (iV hs 4 h') cb {s with c:=lC s.c x o}/\Fr hs G cb s.c.cl.length w w'/\(h'.b=(hs 4).b\/∃g,h'.b=some g/\w.heap.size<=g)
theorem Ku(h:jm base w G hs cb s)(T:base<=w.heap.size)(x:Int)(o:Option Nat)
  (H:aD x<s.c.val.length) (z2:aD x<s.c.lvl.length) (z3:aD x<s.c.kF.length) (V:aD x<=65536) (aj:s.c.ax.length<=1000000) (ak:s.c.st.length<=1000000):
  Calls p_ 156 #[.pointer (some ⟨G,0,none⟩),.int .i64 x,qT cb o] w (Kt base w G hs cb s x o):=by
 obtain⟨g1,I,D,f1⟩:=h.l7 2 1 rfl h.jE (by omega);obtain⟨g2,W,X,f2⟩:=h.l7 3 2 rfl h.kJ (by omega);obtain⟨g3,Y,z,f3⟩:=h.l7 4 3 rfl h.nU (by omega);obtain⟨m,hm⟩:∃m:Nat,aD x=m:=⟨_,rfl⟩
 have al: -65536<=x/\x<=65536:=by unfold aD at V;omega
 obtain⟨pa,J⟩:∃pa,qT cb o=.pointer pa:=by cases o with|none=>exact⟨_,rfl⟩|some d=>exact⟨_,rfl⟩
 rw[J];have aa:=U J;clear J;have ab:(hs 5).n=s.c.st.length:=h.kj;have i:=U h;have c1:=h.Ab I (k:=m) (by rw[<-hm];exact H);have E:=U hm;have Z:=U (z_ H (z_ z2 z3));have an:(m:Int)<(s.c.val.length:Int):=by omega
 have ag:m<s.c.val.length:=by omega
 have ad:m<s.c.lvl.length:=by omega
 have ae:m<s.c.kF.length:=by omega
 have ao:(m:Int)<(s.c.lvl.length:Int):=by omega
 have aq:(m:Int)<(s.c.kF.length:Int):=by omega
 have F:=f1 m;have t:=U I;have l:=U W;have p:=U Y;have ar:=U f1;have af:=U T;clear h I W Y f1 f2 f3 hm H z2 z3 V T
 by_cases ah:x<0
 ·go_enter Tryz.func156,Tryz.ntmps156
  go_upto_region 1 with(go_at_call 97;refine(s7 x _ (by omega) (by omega)).mono ?_;rintro e w1 ⟨rfl,rfl⟩;rw[E.o])
  go_upto_region 2 with fail
  have B:=U (i.o.x6 t.o m 1);generalize g:w.setCell ⟨g1,m,none⟩ (.int .i8 1)=w1 at B;have ai:bF (Fr hs G cb s.c.cl.length w w1):=U (g▸Fr.cell 1 g1 m _ t.o);clear g D X z c1 F;have D:=B.o.ri 2 t.o (show(hs 1).n=s.c.val.length from i.o.jE) rfl;have c1:=B.o.Ab t.o (k:=m) (by show m<(s.c.val.set m 1).length;rw[y_];exact ag);have F:w1.frozen? ⟨g1,m,none⟩=false:=B.o.rows.free t.o m
  go_upto_region 4 with fail
  have b:bF (jm base (w1.setCell ⟨g1,m,none⟩ (.int .i8 (-1))) G hs cb (s.o5 m (-1))):=U (by
   have:=B.o.x6 t.o m (-1)
   rwa[show(s.o5 m 1).o5 m (-1)=s.o5 m (-1) by simp[au.o5,List.set_set]] at this)
  generalize g:w1.setCell ⟨g1,m,none⟩ (.int .i8 (-1))=j at b;have K:bF (Fr hs G cb s.c.cl.length w j):=U (ai.o.trans (g▸Fr.cell 1 g1 m _ t.o));clear g D c1 F;have z:=b.o.ri 3 l.o (show(hs 2).n=s.c.lvl.length from i.o.kJ) rfl;have L:=b.o.ri 4 p.o (show(hs 3).n=s.c.kF.length from i.o.nU) rfl;have M:j.cell? ⟨G,6,none⟩=some (.slice (hs 5).A s.c.st.length (hs 5).c):=by rw[<-ab];exact b.o.kP rfl
  have c2:=b.o.vZ l.o (k:=m) ad;have c3:=b.o.yT p.o (k:=m) ae;have N:j.frozen? ⟨g2,m,none⟩=false:=b.o.rows.free l.o m;have O:j.frozen? ⟨g3,m,none⟩=false:=b.o.rows.free p.o m;have n23:g2≠g3:=b.o.xe (r:=2) (r':=3) (by omega) l.o p.o;have n32:g3≠g2:=λ e=>n23 e.symm
  go_wp2_with fail
  go_region
  have u:bF (jm base ((j.setCell ⟨g2,m,none⟩ (.int .i64 (s.c.st.length:Int))).setCell ⟨g3,m,none⟩ (.pointer pa)).drew G hs cb (((s.o5 m (-1)).rM m s.c.st.length).qI m o)):=U (by
   have:=((b.o.FR l.o m s.c.st.length).z8 p.o m o).below (r_ _ _).drew
   rwa[aa.o] at this)
  generalize g:((j.setCell ⟨g2,m,none⟩ (.int .i64 (s.c.st.length:Int))).setCell ⟨g3,m,none⟩ (.pointer pa)).drew=f at u;have y:bF (Fr hs G cb s.c.cl.length w f):=U (K.o.trans (g▸((Fr.cell 2 g2 m _ l.o).trans (Fr.cell 3 g3 m _ p.o)).trans (Fr.rf (r_ _ _).drew)));clear g z L M c2 c3 N O n23 n32;have P:f.cell? ⟨G,5,none⟩=some (.slice (hs 4).A s.c.ax.length (hs 4).c):=by rw[<-(show(hs 4).n=s.c.ax.length from i.o.kD)];exact u.o.kP rfl
  go_wp2_with (at_builtin;refine rB rfl (.tmp 45) (.tmp 47) rfl base (.slice (hs 4).A s.c.ax.length (hs 4).c) s.c.ax.length s.c.ax rfl (by have:=(u.o.below (bC f (.cells #[.int .i64 x] 3))).rows.row 4;rw[ay.v,i.o.kD] at this;exact this) (some ⟨f.heap.size,0,none⟩) 1 1 [x] rfl (aP.lit f [x] 1 _ rfl rfl (by omega)) (by omega) (by have:=y.o.size;have:=af.o;simp;omega) ?_;intro v9 bE C;obtain⟨A',c',rfl,q,P,f5,Q,R⟩:=jm.FW (s:=((s.o5 m (-1)).rM m s.c.st.length).qI m o) (x:=x) (u.o.below (bC f (.cells #[.int .i64 x] 3))) (by rw[show(hs 4).v=.slice (hs 4).A s.c.ax.length (hs 4).c by rw[ay.v,i.o.kD]];exact C);clear C)
  go_end0;refine⟨rfl,⟨A',s.c.ax.length+1,c'⟩,?_,(y.o.trans (Fr.rf (bC f _))).trans R,?_⟩
  ·have e:(((s.o5 m (-1)).rM m s.c.st.length).qI m o).yQ x={s with c:=lC s.c x o}:=by
    have S:vU x= -1:=by unfold vU;rw[if_pos ah]
    simp only[au.o5,au.rM,au.qI,au.yQ,lC,E.o,S]
   rw[<-e];exact Q
  ·rcases q with q|q
   ·exact k_ q
   ·exact Or.inr ⟨_,q,by have:=y.o.size;simp;omega⟩
 ·go_enter Tryz.func156,Tryz.ntmps156
  go_upto_region 1 with(go_at_call 97;refine(s7 x _ (by omega) (by omega)).mono ?_;rintro e w1 ⟨rfl,rfl⟩;rw[E.o])
  go_upto_region 2 with fail
  have b:=U (i.o.x6 t.o m 1);generalize g:w.setCell ⟨g1,m,none⟩ (.int .i8 1)=j at b;have K:bF (Fr hs G cb s.c.cl.length w j):=U (g▸Fr.cell 1 g1 m _ t.o);clear g D X z c1 F;have z:=b.o.ri 3 l.o (show(hs 2).n=s.c.lvl.length from i.o.kJ) rfl;have L:=b.o.ri 4 p.o (show(hs 3).n=s.c.kF.length from i.o.nU) rfl;have M:j.cell? ⟨G,6,none⟩=some (.slice (hs 5).A s.c.st.length (hs 5).c):=by rw[<-ab];exact b.o.kP rfl
  have c2:=b.o.vZ l.o (k:=m) ad;have c3:=b.o.yT p.o (k:=m) ae;have N:j.frozen? ⟨g2,m,none⟩=false:=b.o.rows.free l.o m;have O:j.frozen? ⟨g3,m,none⟩=false:=b.o.rows.free p.o m;have n23:g2≠g3:=b.o.xe (r:=2) (r':=3) (by omega) l.o p.o;have n32:g3≠g2:=λ e=>n23 e.symm
  go_wp2_with fail
  go_region
  have u:bF (jm base ((j.setCell ⟨g2,m,none⟩ (.int .i64 (s.c.st.length:Int))).setCell ⟨g3,m,none⟩ (.pointer pa)).drew G hs cb (((s.o5 m 1).rM m s.c.st.length).qI m o)):=U (by
   have:=((b.o.FR l.o m s.c.st.length).z8 p.o m o).below (r_ _ _).drew
   rwa[aa.o] at this)
  generalize g:((j.setCell ⟨g2,m,none⟩ (.int .i64 (s.c.st.length:Int))).setCell ⟨g3,m,none⟩ (.pointer pa)).drew=f at u;have y:bF (Fr hs G cb s.c.cl.length w f):=U (K.o.trans (g▸((Fr.cell 2 g2 m _ l.o).trans (Fr.cell 3 g3 m _ p.o)).trans (Fr.rf (r_ _ _).drew)));clear g z L M c2 c3 N O n23 n32;have P:f.cell? ⟨G,5,none⟩=some (.slice (hs 4).A s.c.ax.length (hs 4).c):=by rw[<-(show(hs 4).n=s.c.ax.length from i.o.kD)];exact u.o.kP rfl
  go_wp2_with (at_builtin;refine rB rfl (.tmp 45) (.tmp 47) rfl base (.slice (hs 4).A s.c.ax.length (hs 4).c) s.c.ax.length s.c.ax rfl (by have:=(u.o.below (bC f (.cells #[.int .i64 x] 3))).rows.row 4;rw[ay.v,i.o.kD] at this;exact this) (some ⟨f.heap.size,0,none⟩) 1 1 [x] rfl (aP.lit f [x] 1 _ rfl rfl (by omega)) (by omega) (by have:=y.o.size;have:=af.o;simp;omega) ?_;intro v9 bE C;obtain⟨A',c',rfl,q,P,f5,Q,R⟩:=jm.FW (s:=((s.o5 m 1).rM m s.c.st.length).qI m o) (x:=x) (u.o.below (bC f (.cells #[.int .i64 x] 3))) (by rw[show(hs 4).v=.slice (hs 4).A s.c.ax.length (hs 4).c by rw[ay.v,i.o.kD]];exact C);clear C)
  go_end0;refine⟨rfl,⟨A',s.c.ax.length+1,c'⟩,?_,(y.o.trans (Fr.rf (bC f _))).trans R,?_⟩
  ·have e:(((s.o5 m 1).rM m s.c.st.length).qI m o).yQ x={s with c:=lC s.c x o}:=by
    have S:vU x=1:=by unfold vU;rw[if_neg (by omega)]
    simp only[au.o5,au.rM,au.qI,au.yQ,lC,E.o,S]
   rw[<-e];exact Q
  ·rcases q with q|q
   ·exact k_ q
   ·exact Or.inr ⟨_,q,by have:=y.o.size;simp;omega⟩
end
section
open Go.RowKit Go.Shelf
structure Sep(K:Nat->Prop)(w:World)(G:Nat)(hs:Nat->ay)(cb:Nat->Nat)(n:Nat):Prop where
 lt:∀b,K b->b<w.heap.size
 g:¬K G
 row:∀r b,(hs r).b=some b->¬K b
 cl:∀d,d<n->¬K (cb d)
structure aG(K:Nat->Prop)(w w':World):Prop where
 os:w'.os=w.os
 tape:w'.tape=w.tape
 output:w'.output=w.output
 size:w.heap.size<=w'.heap.size
 keep:∀b,K b->w'.heap[b]? =w.heap[b]?
def qJ(K:Nat->Prop)(c:Nat):Nat->Prop:=λ b=>K b\/b=c
section
variable {base:Nat}{w w' w1:World}{G:Nat}{hs hs':Nat->ay}{cb:Nat->Nat}{gr:List Value}{cls:Nat->List Value}{n:Nat}{X:Nat->List Value}{K lz:Nat->Prop}
theorem aG.refl:aG K w w:=⟨rfl,rfl,rfl,x_ _,λ _ _=>rfl⟩
theorem aG.trans(h:aG K w w1)(h':aG K w1 w'):aG K w w':=
 ⟨h'.os.trans h.os,h'.tape.trans h.tape,h'.output.trans h.output,l_ h.size h'.size,λ b c=>(h'.keep b c).trans (h.keep b c)⟩
theorem aG.mono(h:aG K w w')(hk:∀b,lz b->K b):aG lz w w':=⟨h.os,h.tape,h.output,h.size,λ b c=>h.keep b (hk b c)⟩
theorem aG.rf(h:Below w.heap.size w w')(hl:∀b,K b->b<w.heap.size):aG K w w':=⟨h.os,h.tape,h.output,h.size,λ b c=>h.block b (hl b c)⟩
theorem aG.cell(h:aG K w w'){p:Addr}(hk:K p.block):w'.cell? p=w.cell? p:=World.cell?_of_block (h.keep p.block hk)
theorem aG.blk(h:aG K w w'){b:Nat}{t:TypeId}{cs:List Value}(c:aR w b t cs)(hk:K b):aR w' b t cs:=(h.keep b hk).trans c
theorem aG.set(b k:Nat)(v:Value)(hk:¬K b):aG K w (w.setCell ⟨b,k,none⟩ v):=by
 have h:=lq w b k v;refine⟨h.os,h.tape,h.output,h.size,λ c d=>?_⟩;exact Below.heap_setCell _ _ _ _ (λ e=>hk (by have f:c=b:=e;rw[<-f];exact d))
theorem aG.grown{row:Option Nat}(h:w.grownBy w' row)(hl:∀b,K b->b<w.heap.size)(d:∀b,row=some b->¬K b):aG K w w':=
 ⟨h.os,h.tape,h.output,h.size,λ b c=>h.block b (hl b c) (λ e=>d b e.symm c)⟩
theorem aG.FX(h:Fr hs G cb n w w')(s:Sep K w G hs cb n):aG K w w':=
 ⟨h.os,h.tape,h.output,h.size,λ b c=>h.keep b (s.lt b c) (λ e=>s.g (e▸c)) (λ r e=>s.row r b e c) (λ d f e=>s.cl d f (e▸c))⟩
theorem Sep.more(s:Sep K w G hs cb n)(h:w.heap.size<=w'.heap.size):Sep K w' G hs cb n:=⟨λ b aa=>m_ (s.lt b aa) h,s.g,s.row,s.cl⟩
theorem Sep.mono(s:Sep K w G hs cb n)(hk:∀b,lz b->K b):Sep lz w G hs cb n:=⟨λ b aa=>s.lt b (hk b aa),λ h=>s.g (hk _ h),λ r b h aa=>s.row r b h (hk _ aa),λ d c h=>s.cl d c (hk _ h)⟩
theorem Sep.ji(s:Sep K w G hs cb n){r:Nat}{h':ay}(aa:∀g,h'.b=some g->¬K g):Sep K w G (iV hs r h') cb n:=
 ⟨s.lt,s.g,λ r' b e=>by
  by_cases c:r'=r
  ·subst c;rw[jT] at e;exact aa b e
  ·rw[bq _ _ c] at e;exact s.row r' b e,s.cl⟩
theorem Sep.aa(s:Sep K w G hs cb n){r:Nat}{h':ay}(aa:h'.b=(hs r).b\/∃g,h'.b=some g/\w.heap.size<=g):∀g,h'.b=some g->¬K g:=by
 intro g e hk;rcases aa with aa|⟨c,aa,hle⟩
 ·exact s.row r g (aa▸e) hk
 ·rw[aa] at e;injection e with e;subst e;have:=s.lt _ hk;omega
theorem kA.lt(h:kA base w G hs cb gr cls n X):base<w.heap.size:=by have:=h.q6;have:=h.box.lt;omega
theorem o6{e:TypeId}{size:Nat}{v:Value}{k de:Nat}{xs:List Value}(h:w.ownsRow de e size v k xs)(c:∀b,v.ownBlock=some b->w'.heap[b]? =w.heap[b]?):w'.ownsRow de e size v k xs:=by
 refine⟨h.1,h.2.imp id ?_⟩;rintro⟨g,cap,cur,rfl,h1,d,f⟩;exact⟨g,cap,cur,rfl,h1,(c g rfl).trans d,f⟩
theorem yV{e:TypeId}{size:Nat}{v:Value}{k de aZ:Nat}{xs:List Value}(h:w.ownsRow de e size v k xs)(b:aZ<=de):w.ownsRow aZ e size v k xs:=by
 refine⟨h.1,h.2.imp id ?_⟩;rintro⟨g,cap,cur,rfl,h1,c⟩;exact⟨g,cap,cur,rfl,l_ b h1,c⟩
theorem kA.app(h:kA base w G hs cb gr cls n X)(s:Sep K w G hs cb n){r m:Nat}{v':Value}{ys:List Value}(f:w'.ownsRow base (qS r) (nL r) v' m ys)(c:w.grownBy w' (hs r).v.ownBlock)(aa:v'.ownBlock=(hs r).v.ownBlock\/v'.ownBlock=some w.heap.size):
  ∃h':ay,v'=h'.v/\h'.n=m/\kA base w' G (iV hs r h') cb gr cls n (iV X r ys)/\Sep K w' G (iV hs r h') cb n/\aG K w w':=by
 obtain⟨h',rfl,rfl⟩:=ay.kZ f;rw[ay.own] at c aa;rw[ay.own] at aa;have i:h'.b=(hs r).b\/∃g,h'.b=some g/\w.heap.size<=g:=aa.imp id (λ e=>⟨_,e,x_ _⟩);refine⟨h',rfl,rfl,h.ji c f (i.imp id (λ⟨g,e,hle⟩ j d=>by rw[e] at d;injection d with d;omega)),(s.ji (s.aa i)).more c.size,aG.grown c s.lt (λ b e=>s.row r b e)⟩
theorem kA.Kv(h:kA base w G hs cb gr cls n X){r:Nat}{h':ay}{ys:List Value}(l:w.ownsRow base (qS r) (nL r) h'.v h'.n ys)(f:∀g,h'.b=some g->∀r',(hs r').b≠some g):
  kA base w G (iV hs r h') cb gr cls n (iV X r ys):=by
 refine⟨h.box,⟨λ r'=>?_,λ c d g i h1=>?_⟩,h.cls,h.inj,h.q6,h.rL⟩
 ·by_cases e:r'=r
  ·subst e;rw[jT,jT];exact l
  ·rw[bq _ _ e,bq _ _ e];exact h.rows.row r'
 ·by_cases j:c=r
  ·subst j;rw[jT] at h1;rw[bq _ _ (λ e=>i e.symm)];exact f g h1 d
  ·rw[bq _ _ j] at h1
   by_cases k:d=r
   ·subst k;rw[jT];exact λ m=>f g m c h1
   ·rw[bq _ _ k];exact h.rows.apart c d g i h1
end
structure bf(K:Nat->Prop)(base:Nat)(w:World)(G:Nat)(hs:Nat->ay)(cb:Nat->Nat)(s:au):Prop where
 e:jm base w G hs cb s
 s:Sep K w G hs cb s.c.cl.length
section
variable {base:Nat}{w w' w1:World}{G:Nat}{hs hs':Nat->ay}{cb:Nat->Nat}{s:au}{K lz:Nat->Prop}
theorem bf.below(h:bf K base w G hs cb s)(b:Below w.heap.size w w'):bf K base w' G hs cb s/\aG K w w':=⟨⟨h.e.below b,h.s.more b.size⟩,aG.rf b h.s.lt⟩
theorem bf.lJ{s':au}(h:bf K base w G hs cb s)(e:jm base w' G hs cb s')(b:s'.c.cl.length=s.c.cl.length)(f:Fr hs G cb s.c.cl.length w w'):bf K base w' G hs cb s'/\aG K w w':=⟨⟨e,by rw[b];exact h.s.more f.size⟩,.FX f h.s⟩
theorem bf.BA(h:bf K base w G hs cb s)(hk:∀b,lz b->K b):bf lz base w G hs cb s:=⟨h.e,h.s.mono hk⟩
end
end
section
def pE(c:Core)(l:List Int)(both:Bool):Core:=
 if both=true then c
 else if l.length=0 then wW c
 else if l.length=1 then
  if ki c (ak l 0)= -1 then wW (kI c l)
  else if ki c (ak l 0)=0 then lC (kI c l) (ak l 0) (some c.cl.length)
  else kI c l
 else kI c l
theorem imp_nil{F:List (List Int)}(h:rD F []):Unsat F:=λ M b=>by
 obtain⟨x,c,_⟩:=h M b
 cases c
theorem Kw(c:Core)(l:List Int)(b:Bool):(pE c l b).n=c.n:=by
 unfold pE;repeat (first|rfl|split)
theorem Kx(c:Core)(l:List Int)(b:Bool):(pE c l b).st=c.st:=by
 unfold pE;repeat (first|rfl|split)
theorem Ky(c:Core)(l:List Int)(b:Bool):(pE c l b).ag=c.ag:=by
 unfold pE;repeat (first|rfl|split)
theorem BB(c:Core)(l:List Int)(b:Bool):(pE c l b).cl=if b=true\/l.length=0 then c.cl else c.cl++[l]:=by
 unfold pE
 by_cases h:b=true
 ·rw[if_pos h,if_pos (k_ h)]
 ·rw[if_neg h]
  by_cases d:l.length=0
  ·rw[if_pos d,if_pos (Or.inr d)];rfl
  ·rw[if_neg d,if_neg (c:=b=true\/l.length=0) (λ i=>i.elim h d)]
   by_cases e:l.length=1
   ·rw[if_pos e]
    by_cases f:ki c (ak l 0)= -1
    ·rw[if_pos f];rfl
    ·rw[if_neg f]
     by_cases g:ki c (ak l 0)=0
     ·rw[if_pos g];rfl
     ·rw[if_neg g];rfl
   ·rw[if_neg e];rfl
section
variable {F Fd:List (List Int)}{c:Core}{l:List Int}
theorem kG.take{h:Nat}{g:List Int}{both:Bool}(L:kG F Fd c h [])(hs:c.st=[])(E:h=0)(hl:both=false->l≠ []->oN c.n l)(f:both=false->rD F l)(o:∀x,x∈l↔x∈g)(G:both=true->vr g):
  kG F (Fd++[g]) (pE c l both) h []:=by
 have T:=L.aN;have B:∀i,lI c.st i=0:=λ i=>by rw[hs];rfl
 have H:c.st.length=0:=by rw[hs];rfl
 unfold pE
 by_cases p:both=true
 ·rw[if_pos p];exact L.more (Or.inr (k_ (G p)))
 ·rw[if_neg p];have d:both=false:=by simpa using p
  by_cases q:l.length=0
  ·rw[if_pos q];have:l=[]:=List.eq_nil_of_length_eq_zero q;have hu:Unsat F:=imp_nil (by have:=f d;rwa[‹l=[]›] at this);exact(L.FI hu).more (k_ rfl)
  ·rw[if_neg q];have s:l≠ []:=λ e=>q (by rw[e];rfl)
   have ok:=hl d s;have t:2<=l.length->∀a b,(a=ak l 0/\b=ak l 1\/a=ak l 1/\b=ak l 0)-> -a∈c.ax.take h->b∈c.ax/\bp c b<=bp c a:=λ _ a b _ hm=>by
    rw[E] at hm;simp at hm
   have r:∀k,k<c.st.length->wR (c.ax.take (hU c.st k)) l:=λ k hk=>by omega
   by_cases h1:l.length=1
   ·rw[if_pos h1];have hm:ak l 0∈l:=mc (by omega);have u:=ok.lt _ hm;have C:∀y∈l,y=ak l 0:=λ y m=>by
     obtain⟨k,hk,e⟩:=qn.1 m;obtain rfl:k=0:=by omega
     exact e.symm
    by_cases v:ki c (ak l 0)= -1
    ·rw[if_pos v];have hu:Unsat F:=λ M w=>by
      obtain⟨i,z,e⟩:=qn.1 ((T.xX u).1 v);have j:=yO T L.jS w i z (B i);rw[e] at j;obtain⟨y,m,D⟩:=f d M w;rw[C y m] at D;rw[w.1 _ u.oM,D] at j
      cases j
     have I:=(L.FI hu).new (l:=l) (g:=g) ok (f d) o t r (λ _=>k_ rfl);exact I
    ·rw[if_neg v]
     by_cases A:ki c (ak l 0)=0
     ·rw[if_pos A];exact L.FH ok (f d) o A (λ y m s=>absurd (C y m) s) (λ _=>H) (λ j=>by omega) r
     ·rw[if_neg A];have J:ki c (ak l 0)=1:=by have:=T.range (ak l 0);omega
      obtain⟨i,z,e⟩:=qn.1 ((T.pos _ u).1 J);exact L.new ok (f d) o t r (λ _=>Or.inr ⟨i,z,e,B i⟩)
   ·rw[if_neg h1];exact L.new ok (f d) o t r (λ j=>absurd j h1)
end
end
section
def o7(c:Core):Prop:=∀v d,mH c.kF v=some d->d<c.cl.length
structure tO(aY c:Core):Prop where
 n:c.n=aY.n
 st:c.st=aY.st
 len:c.cl.length=aY.cl.length
 mm:c.mm=aY.mm
 BC:c.wt.length=aY.wt.length
 ax:∃e,c.ax=aY.ax++e
 cls:∀d x,x∈az c.cl d↔x∈az aY.cl d
 v0:ak c.val 0=ak aY.val 0
 qK:o7 aY->o7 c
theorem tO.refl(c:Core):tO c c:=⟨rfl,rfl,rfl,rfl,rfl,⟨[],by simp⟩,λ _ _=>h_,rfl,id⟩
theorem tO.trans{a b c:Core}(h:tO a b)(h':tO b c):tO a c:=
 ⟨h'.n.trans h.n,h'.st.trans h.st,h'.len.trans h.len,h'.mm.trans h.mm,h'.BC.trans h.BC,by
  obtain⟨e,he⟩:=h.ax;obtain⟨f,g⟩:=h'.ax;exact⟨e++f,by rw[g,he,List.append_assoc]⟩,λ d x=>(h'.cls d x).trans (h.cls d x),h'.v0.trans h.v0,λ w=>h'.qK (h.qK w)⟩
theorem o7.set{c:Core}(h:o7 c){x:Int}(o:Option Nat)(e:∀d,o=some d->d<c.cl.length):o7 (lC c x o):=by
 intro v d b;have b:mH (c.kF.set (aD x) o) v=some d:=b;show d<c.cl.length;rw[wP] at b;split at b
 ·exact e d b
 ·exact h v d b
theorem FY:∀(xs:List Int)(l:List (Option Nat))(v d:Nat),mH (sZ l xs) v=some d->mH l v=some d
 |[],_,_,_,h=>h
 |x::xs,l,v,d,h=>by
  have h1:=FY xs (l.set (aD x) none) v d h;rw[wP] at h1;split at h1
  ·cases h1
  ·exact h1
theorem o7.back(h:o7 c)(level:Nat):o7 (mN c level):=λ v d b=>h v d (FY _ _ v d b)
theorem o7.new(h:o7 c)(l:List Int):o7 (kI c l):=λ v d b=>by
 show d<(c.cl++[l]).length;rw[u_];have:=h v d b;omega
theorem j9.len(T:j9 c):c.ax.length<=c.n:=by
 have h:=xY (c.n+1) (0::c.ax.map aD) (List.nodup_cons.2 ⟨λ h=>by
  obtain⟨x,b,e⟩:=List.mem_map.1 h;have:=(T.lit x b).1;omega,T.nt⟩) (λ v d=>by
  rcases List.mem_cons.1 d with rfl|d
  ·omega
  ·obtain⟨x,b,e⟩:=List.mem_map.1 d;have:=(T.lit x b).2;omega)
 simp at h;omega
structure oc(F Fd:List (List Int))(jW:List Int)(aY:Core)(h:Nat)(lit:Int)(list:List Nat)(i:Nat)(kept:List Nat)(c:Core):Prop where
 gV:kG F Fd c (h+1) (list.drop i)
 kR:ak c.ax h=lit
 wt:az c.wt (jR lit)=kept++list.drop i
 kl:kept.length<=i
 Dn:i<=list.length
 sm:tO aY c
 ag:c.ag=h+1
 jW:ny c jW
 cur:∀k,k<c.st.length->hU c.st k<=h
section
variable {F Fd:List (List Int)}{jW:List Int}{aY c:Core}{h:Nat}{lit:Int}{list kept:List Nat}{i:Nat}
theorem oc.start(L:kG F Fd aY h [])(A:ny aY jW)(aA:h<aY.ax.length):oc F Fd jW aY h (ak aY.ax h) (az aY.wt (jR (ak aY.ax h))) 0 [] {aY with ag:=h+1}:=
 ⟨by rw[g_];exact L.next aA,rfl,by simp,x_ _,Nat.zero_le _,⟨rfl,rfl,rfl,rfl,rfl,⟨[],by simp⟩,λ _ _=>h_,rfl,λ w=>w⟩,rfl,A.same rfl rfl rfl,L.cur⟩
theorem oc.rj(V:oc F Fd jW aY h lit list i kept c)(b:i<list.length):list[i]<c.cl.length/\2<=(az c.cl list[i]).length/\(lit= -(w0 c list[i])\/lit= -(w1 c list[i])):=by
 have hm:list[i]∈az c.wt (jR lit):=by rw[V.wt,v_ b];exact List.mem_append_right _ (List.mem_cons_self)
 obtain⟨h1,d,e⟩:=V.gV.wt.qQ _ _ hm;exact⟨h1,d,e.imp vS vS⟩
theorem oc.aA(V:oc F Fd jW aY h lit list i kept c):h<c.ax.length:=V.gV.hle
theorem oc.FZ(V:oc F Fd jW aY h lit list i kept c):lit∈c.ax:=by rw[<-V.kR];exact mc V.aA
theorem oc.swap(V:oc F Fd jW aY h lit list i kept c)(b:i<list.length):oc F Fd jW aY h lit list i kept (lT c list[i] (kX (az c.cl list[i]) 0 1)):=by
 obtain⟨h1,f,_⟩:=V.rj b;have hm:=wU (l:=az c.cl list[i]) (i:=0) (j:=1) (by omega) (by omega);refine⟨V.gV.swap h1 f,V.kR,V.wt,V.kl,V.Dn,V.sm.trans ⟨rfl,rfl,q3 _ _ _,rfl,rfl,⟨[],by simp[lT]⟩,λ e x=>?_,rfl,λ w v d g=>by rw[q3];exact w v d g⟩,V.ag,V.jW.same rfl rfl rfl,V.cur⟩;rw[uk];split
 ·rename_i k;rw[<-k.1];exact hm x
 ·exact h_
theorem oc.keep(V:oc F Fd jW aY h lit list i kept c)(b:i<list.length)(hw:w1 c list[i]= -lit)(d:w0 c list[i]∈c.ax):oc F Fd jW aY h lit list (i+1) (kept++[list[i]]) c:=by
 obtain⟨h1,e,_⟩:=V.rj b;have L:=V.gV;rw[v_ b] at L;refine⟨L.kept h1 e (by omega) ?_ d (λ k hk=>?_),V.kR,?_,?_,b,V.sm,V.ag,V.jW,V.cur⟩
 ·rw[t_,V.kR,hw];omega
 ·rw[t_];exact V.cur k hk
 ·rw[V.wt,v_ b];simp
 ·rw[u_,s_];have:=V.kl;omega
theorem oc.move(V:oc F Fd jW aY h lit list i kept c)(f:i<list.length)(hw:w1 c list[i]= -lit){k:Nat}(hk:2<=k)(g:k<(az c.cl list[i]).length)(p:ki c (ak (az c.cl list[i]) k)≠-1):
  oc F Fd jW aY h lit list (i+1) kept (rY c list[i] k (kept++list.drop (i+1)))/\jR (-(ak (az c.cl list[i]) k))≠jR lit:=by
 obtain⟨h1,z,_⟩:=V.rj f;have L:=V.gV;have T:=L.aN;have n:=L.jS.mM _ h1;have q:=n.lt _ (mc g);have r:¬-(ak (az c.cl list[i]) k)∈c.ax:=λ b=>p ((T.xX q).2 b)
 have o:jR (-(ak (az c.cl list[i]) k))≠jR lit:=λ e=>by
  have A:=vS e;have:ak (az c.cl list[i]) 1=ak (az c.cl list[i]) k:=by
   have B:w1 c list[i]=ak (az c.cl list[i]) 1:=rfl;omega
  have:=uX n.nt (i:=1) (j:=k) (by omega) g this;omega
 have m: -(w1 c list[i])=lit:=by rw[hw];omega
 have s:=V.wt;rw[v_ f] at L;have t:=L.move (kept:=kept) h1 hk g (by omega) (by rw[t_,V.kR,m]) r (by rw[m,s,v_ f]);have hm:=wU (l:=az c.cl list[i]) (i:=1) (j:=k) (by omega) g;refine⟨⟨t,V.kR,?_,by have:=V.kl;omega,f,V.sm.trans ⟨rfl,rfl,q3 _ _ _,rfl,?_,⟨[],by simp[rY,lT]⟩,λ e x=>?_,rfl,λ w v d u=>by show d<(lT c list[i] (kX (az c.cl list[i]) 1 k)).cl.length;rw[q3];exact w v d u⟩,V.ag,V.jW.same rfl rfl rfl,V.cur⟩,o⟩
 ·show az ((c.wt.set (jR (-(w1 c list[i]))) (kept++list.drop (i+1))).set (jR (-(ak (az c.cl list[i]) k))) _) (jR lit)=_;have y:jR (-(w1 c list[i]))<c.wt.length:=by rw[L.wt.qP,m];exact(T.lit _ V.FZ).at
  rw[qE,if_neg (λ b=>o b.1),qE,if_pos ⟨by rw[m],y⟩]
 ·show((c.wt.set _ _).set _ _).length=_;rw[y_,y_]
 ·show x∈az (lT c list[i] (kX (az c.cl list[i]) 1 k)).cl e↔_;rw[uk];split
  ·rename_i b;rw[<-b.1];exact hm x
  ·exact h_
theorem oc.F0(V:oc F Fd jW aY h lit list i kept c)(g:i<list.length)(hw:w1 c list[i]= -lit)(j:∀k,2<=k->k<(az c.cl list[i]).length->ki c (ak (az c.cl list[i]) k)= -1):
  ∀x∈az c.cl list[i],x≠w0 c list[i]-> -x∈c.ax:=by
 obtain⟨h1,m,_⟩:=V.rj g;intro x b l;obtain⟨k,hk,e⟩:=qn.1 b;have aA:=(V.gV.jS.mM _ h1).lt x b;rcases o_ k 2 with d|d
 ·rcases Nat.eq_zero_or_pos k with f|f
  ·subst f;exact absurd e.symm l
  ·obtain rfl:k=1:=by omega
   have:x= -lit:=by rw[<-e];exact hw
   rw[this,Int.neg_neg];exact V.FZ
 ·exact(V.gV.aN.xX aA).1 (by rw[<-e];exact j k d hk)
theorem oc.Kz(V:oc F Fd jW aY h lit list i kept c)(b:i<list.length)(hw:w1 c list[i]= -lit)(g:∀k,2<=k->k<(az c.cl list[i]).length->ki c (ak (az c.cl list[i]) k)= -1)(j:ki c (w0 c list[i])= -1):
  kG F Fd c h []/\∀x∈az c.cl list[i],-x∈c.ax:=by
 obtain⟨h1,l,_⟩:=V.rj b;have d:=V.gV.low (by omega) (λ k hk=>by rw[t_];exact V.cur k hk);rw[t_] at d;refine⟨d,λ x f=>?_⟩
 by_cases e:x=w0 c list[i]
 ·rw[e];exact(V.gV.aN.xX ((V.gV.jS.mM _ h1).lt _ (e▸f))).1 j
 ·exact V.F0 b hw g x f e
theorem oc.set(V:oc F Fd jW aY h lit list i kept c)(b:i<list.length)(hw:w1 c list[i]= -lit)(j:∀k,2<=k->k<(az c.cl list[i]).length->ki c (ak (az c.cl list[i]) k)= -1)(g:ki c (w0 c list[i])=0):
  oc F Fd jW aY h lit list (i+1) (kept++[list[i]]) (lC c (w0 c list[i]) (some list[i])):=by
 obtain⟨h1,p,_⟩:=V.rj b;have T:=V.gV.aN;have l:=V.gV.jS.mM _ h1;have hm:w0 c list[i]∈az c.cl list[i]:=mc (by omega);have f:=l.lt _ hm;have m:=V.gV.set (w:=some list[i]) f g ⟨h1,hm,V.F0 b hw j⟩;have n:oc F Fd jW aY h lit list i kept (lC c (w0 c list[i]) (some list[i])):=by
  refine⟨m,?_,V.wt,V.kl,V.Dn,V.sm.trans ⟨rfl,rfl,rfl,rfl,rfl,⟨[_],rfl⟩,λ _ _=>h_,by show ak (c.val.set _ _) 0=_;rw[oZ,if_neg (by have:=f.1;omega)],λ w v d o=>o7.set w (some list[i]) (λ e he=>by injection he with he;rw[<-he];exact h1) v d o⟩,V.ag,V.jW.set T f g,V.cur⟩;show ak (c.ax++[_]) h=lit;rw[tG V.aA];exact V.kR
 exact n.keep b hw (by show w0 c list[i]∈c.ax++[_];simp)
theorem oc.done(V:oc F Fd jW aY h lit list list.length kept c):kG F Fd c (h+1) []/\az c.wt (jR lit)=kept:=by
 have h1:=V.gV;have b:=V.wt;rw[List.drop_length] at h1 b;exact⟨h1,by rw[b];simp⟩
end
end
section
structure mO(c:Core)(me:List Int)(i level:Nat)(r:List Int):Prop where
 mem:∀x,x∈r↔x∈me
 len:r.length=me.length
 ag:ak r 0=ak me 0
 nt:r.Nodup
 le:∀k,1<=k->k<i->k<r.length->bp c (ak r k)<=level
 F1:2<=i->2<=r.length->bp c (ak r 1)=level
 low:i<=1->level=0
 lt:level<c.st.length
structure iD(F:List (List Int))(c:Core)(u:Int)(r:List Int):Prop where
 imp:rD F (u::r)
 F2: -u∈c.ax
 F3:bp c u=c.st.length
 BD:∀x∈r,-x∈c.ax/\1<=bp c x/\bp c x<c.st.length
 nt:r.Nodup
section
variable {F Fd:List (List Int)}{c:Core}{r me:List Int}{i level:Nat}{u:Int}
theorem mO.start(b:me.Nodup)(hs:0<c.st.length):mO c me 1 0 me:=
 ⟨λ _=>h_,rfl,rfl,b,λ k h1 d=>by omega,λ h=>by omega,λ _=>rfl,hs⟩
theorem mO.stay(h:mO c me i level r)(h1:1<=i)(f:i<r.length)(hl:bp c (ak r i)<=level)(e:i=1->1<=bp c (ak r 1)):mO c me (i+1) level r:=
 ⟨h.mem,h.len,h.ag,h.nt,λ k a b d=>by
  rcases o_ k i with hk|hk
  ·exact h.le k a hk d
  ·obtain rfl:k=i:=by omega
   exact hl,λ a b=>by
  rcases o_ i 2 with hk|hk
  ·obtain rfl:i=1:=by omega
   have:=e rfl;have:=h.low (x_ _);omega
  ·exact h.F1 hk b,λ a=>by omega,h.lt⟩
theorem mO.ji(h:mO c me i level r)(h1:1<=i)(f:i<r.length)(hl:level<bp c (ak r i))(hs:bp c (ak r i)<c.st.length):mO c me (i+1) (bp c (ak r i)) (kX r 1 i):=by
 have g:=λ k=>qF (l:=r) (i:=1) (j:=i) (by omega) f k
 refine⟨λ x=>(wU (by omega) f x).trans (h.mem x),(rX _ _ _).trans h.len,?_,FF (by omega) f h.nt,λ k a b d=>?_,λ a b=>?_,λ a=>by omega,hs⟩
 ·rw[g,if_neg (by omega),if_neg (by omega)];exact h.ag
 ·rw[rX] at d;rw[g]
  by_cases e:k=i
  ·rw[if_pos e];rcases o_ i 2 with hk|hk
   ·obtain rfl:i=1:=by omega
    exact x_ _
   ·have:=h.le 1 (x_ _) (by omega) (by omega);omega
  ·rw[if_neg e]
   by_cases m:k=1
   ·rw[if_pos m];exact x_ _
   ·rw[if_neg m];have:=h.le k a (by omega) d;omega
 ·rw[g]
  by_cases e:1=i
  ·rw[if_pos e];rw[e]
  ·rw[if_neg e,if_pos rfl]
theorem iD.nodup(h:iD F c u r)(T:j9 c):(u::r).Nodup:=
 List.nodup_cons.2 ⟨λ hu=>by have:=(h.BD u hu).2.2;have:=h.F3;omega,h.nt⟩
theorem mO.done(h:mO c (u::me) i level r)(o:r.length=i)(L:iD F c u me)(T:j9 c):uY F c r level:=by
 have j:ak r 0=u:=h.ag;have hlen:r.length=me.length+1:=h.len;have f:∀x∈r,-x∈c.ax:=λ x d=>by
  rcases List.mem_cons.1 ((h.mem x).1 d) with rfl|d
  ·exact L.F2
  ·exact(L.BD x d).1
 refine⟨⟨λ e=>by rw[e] at hlen;simp at hlen,λ x d=>by have:=(T.lit _ (f x d)).neg;rwa[Int.neg_neg] at this,h.nt,λ x d l=>T.apart (f x d) (by exact f _ l)⟩,?_,f,by rw[j];exact L.F3,λ k a b=>h.le k a (by omega) b,h.lt,λ g=>h.F1 (by omega) g,λ g=>h.low (by omega)⟩
 ·intro M m;obtain⟨x,d,n⟩:=L.imp M m;exact⟨x,(h.mem x).2 d,n⟩
end
end
section
def jK:Int:=1099511627776
def lN(s:au)(d:Nat):r0:=s.ci.getD d ⟨false,0,0⟩
structure mE(n:Nat)(A B:Int)(s:au):Prop where
 jH:s.c.n=n
 lW:mw n s.ord s.pl
 lB:s.act.length=n+1
 qp:∀v,0<=ak s.act v/\ak s.act v<=A
 a0:ak s.act 0=0
 rm:1<=s.bz
 oQ:s.bz<=A
 nM:s.ia.length=n+1
 o8:iY s.ia 0=false
 nN:s.ci.length=s.c.cl.length
 qc:∀d,0<=(lN s d).ac/\(lN s d).ac<=B/\0<=(lN s d).bp/\(lN s d).bp<=jK
 k8:∀d∈s.aO,d<s.c.cl.length
structure od(s s':au):Prop where
 c:s'.c=s.c
 ia:s'.ia=s.ia
 aO:s'.aO=s.aO
 aF:s'.aF=s.aF
 aQ:s'.aQ=s.aQ
 nl:s'.nl=s.nl
 jG:s'.jG=s.jG
 ol:s'.ord.length=s.ord.length
 same:vW s.pl s'.pl
 nN:s'.ci.length=s.ci.length
 ci:∀d,(lN s' d).k6=(lN s d).k6/\(lN s' d).bp=(lN s d).bp
theorem od.refl(s:au):od s s:=⟨rfl,rfl,rfl,rfl,rfl,rfl,rfl,rfl,.refl _,rfl,λ _=>⟨rfl,rfl⟩⟩
theorem od.trans{a b c:au}(h:od a b)(h':od b c):od a c:=
 ⟨h'.c.trans h.c,h'.ia.trans h.ia,h'.aO.trans h.aO,h'.aF.trans h.aF,h'.aQ.trans h.aQ,h'.nl.trans h.nl,h'.jG.trans h.jG,h'.ol.trans h.ol,h.same.trans h'.same,h'.nN.trans h.nN,
  λ d=>⟨(h'.ci d).1.trans (h.ci d).1,(h'.ci d).2.trans (h.ci d).2⟩⟩
structure pU(s s':au):Prop where
 eq:∃o p,s'={s with ord:=o,pl:=p}
 lW:mw s.c.n s'.ord s'.pl
 ol:s'.ord.length=s.ord.length
 same:vW s.pl s'.pl
theorem pU.refl{s:au}(h:mw s.c.n s.ord s.pl):pU s s:=⟨⟨s.ord,s.pl,rfl⟩,h,rfl,.refl _⟩
theorem pU.trans{a b c:au}(h:pU a b)(h':pU b c):pU a c:=by
 obtain⟨o,p,rfl⟩:=h.eq;obtain⟨d,e,rfl⟩:=h'.eq;exact⟨⟨d,e,rfl⟩,h'.lW,h'.ol.trans h.ol,h.same.trans h'.same⟩
theorem pU.hk(h:pU s s'):od s s':=by
 obtain⟨o,p,rfl⟩:=h.eq;exact⟨rfl,rfl,rfl,rfl,rfl,rfl,rfl,h.ol,h.same,rfl,λ _=>⟨rfl,rfl⟩⟩
theorem pU.rg(h:pU s s')(r:mE n A B s):mE n A B s':=by
 obtain⟨o,p,rfl⟩:=h.eq;have:=h.lW;rw[r.jH] at this;exact⟨r.jH,this,r.lB,r.qp,r.a0,r.rm,r.oQ,r.nM,r.o8,r.nN,r.qc,r.k8⟩
theorem KA{l:List Int}{k:Nat}(h:l.length<=k):ak l k=0:=by simp[ak,w_,List.getElem?_eq_none h]
theorem mE.act{n:Nat}{A A' B:Int}{s:au}(r:mE n A B s)(d:A<=A'){v:Nat}(e:1<=v){x:Int}(c:0<=x)(h1:x<=A'):mE n A' B (s.p8 v x):=by
 refine⟨r.jH,r.lW,by show(s.act.set v x).length=_;rw[y_];exact r.lB,λ u=>?_,?_,r.rm,by have:=r.oQ;show s.bz<=_;omega,r.nM,r.o8,r.nN,r.qc,r.k8⟩
 ·show 0<=ak (s.act.set v x) u/\_;have b:ak (s.p8 v x).act u=if v=u/\v<s.act.length then x else ak s.act u:=oZ _ _ _ _
  rw[show ak (s.act.set v x) u=_ from b,b];split
  ·exact⟨c,h1⟩
  ·have:=r.qp u;exact⟨this.1,by omega⟩
 ·show ak (s.act.set v x) 0=0;rw[oZ,if_neg (by omega)];exact r.a0
theorem od.act(s:au)(v:Nat)(x:Int):od s (s.p8 v x):=⟨rfl,rfl,rfl,rfl,rfl,rfl,rfl,rfl,.refl _,rfl,λ _=>⟨rfl,rfl⟩⟩
def au.we(s:au)(x:Int):au:={s with bz:=x}
theorem mE.Ae(r:mE n A B s)(b:A<=A'){x:Int}(c:1<=x)(h1:x<=A'):mE n A' B (s.we x):=
 ⟨r.jH,r.lW,r.lB,λ u=>by have:=r.qp u;exact⟨this.1,n_ this.2 b⟩,r.a0,c,h1,r.nM,r.o8,r.nN,r.qc,r.k8⟩
theorem od.Ae(s:au)(x:Int):od s (s.we x):=⟨rfl,rfl,rfl,rfl,rfl,rfl,rfl,rfl,.refl _,rfl,λ _=>⟨rfl,rfl⟩⟩
theorem mE.mono(r:mE n A B s)(b:A<=A')(c:B<=qU):mE n A' qU s:=
 ⟨r.jH,r.lW,r.lB,λ u=>by have:=r.qp u;exact⟨this.1,n_ this.2 b⟩,r.a0,r.rm,n_ r.oQ b,r.nM,r.o8,r.nN,λ d=>by have:=r.qc d;exact⟨this.1,n_ this.2.1 c,this.2.2⟩,r.k8⟩
def au.xh(s:au)(d:Nat)(x:Int):au:={s with ci:=s.ci.set d {lN s d with ac:=x}}
theorem Af(s:au)(d:Nat)(x:Int)(e:Nat):lN (s.xh d x) e=if d=e/\d<s.ci.length then {lN s e with ac:=x} else lN s e:=by
 unfold lN au.xh;dsimp only;simp only[w_,List.getElem?_set]
 by_cases h:d=e
 ·subst h
  by_cases b:d<s.ci.length
  ·simp[b,lN,w_]
  ·simp[b]
 ·simp[h]
theorem mE.x9(r:mE n A B s)(b:B<=qU){d:Nat}{x:Int}(c:0<=x)(h1:x<=qU):mE n A qU (s.xh d x):=by
 refine⟨r.jH,r.lW,r.lB,r.qp,r.a0,r.rm,r.oQ,r.nM,r.o8,by show(s.ci.set _ _).length=_;rw[y_];exact r.nN,λ e=>?_,r.k8⟩;rw[Af];have:=r.qc e;split
 ·exact⟨c,h1,this.2.2⟩
 ·exact⟨this.1,n_ this.2.1 b,this.2.2⟩
theorem od.x9(s:au)(d:Nat)(x:Int):od s (s.xh d x):=by
 refine⟨rfl,rfl,rfl,rfl,rfl,rfl,rfl,rfl,.refl _,by show(s.ci.set _ _).length=_;rw[y_],λ e=>?_⟩;rw[Af];split<;>exact⟨rfl,rfl⟩
end
section
open Go.RowKit Go.Shelf
def au.swp(s:au)(i k:Nat):au:={s with ord:=kX s.ord i k,pl:=uu s.ord s.pl i k}
def BE(g7 g8 i k a b:Nat)(w:World):World:=(((((w.setCell ⟨g7,i,none⟩ (.int .i64 (b:Int))).setCell ⟨g7,k,none⟩ (.int .i64 (a:Int))).drew).setCell ⟨g8,b,none⟩ (.int .i64 (i:Int))).setCell ⟨g8,a,none⟩ (.int .i64 (k:Int))).drew
def F4(g7 g8 i k a b:Nat)(w:World)(e:Ending)(w':World):Prop:=e=.returned (.tuple #[])/\w'=BE g7 g8 i k a b w
theorem KB{n7 n8:Nat}(i k a b:Nat)(c:i≠k)(d:k≠i)(e:a≠b)(f:b≠a)(g:w.cell? ⟨G,10,none⟩=some (.slice (some ⟨g7,0,none⟩) n7 iB))(j:w.cell? ⟨G,11,none⟩=some (.slice (some ⟨g8,0,none⟩) n8 pF))
  (li:(i:Int)<(n7:Int)) (l:(k:Int)<(n7:Int)) (m:(a:Int)<(n8:Int)) (lb:(b:Int)<(n8:Int)) (c1:w.cell? ⟨g7,i,none⟩=some (.int .i64 (a:Int))) (c2:w.cell? ⟨g7,k,none⟩=some (.int .i64 (b:Int)))
  (d1:∃v,w.cell? ⟨g8,a,none⟩=some v) (d2:∃v,w.cell? ⟨g8,b,none⟩=some v) (f1:w.frozen? ⟨g7,i,none⟩=false) (f2:w.frozen? ⟨g7,k,none⟩=false) (f3:w.frozen? ⟨g8,a,none⟩=false) (f4:w.frozen? ⟨g8,b,none⟩=false) (n:G≠g7) (o:g7≠G) (p:G≠g8) (q:g7≠g8) (r:g8≠g7):
   Calls p_ 193 #[.pointer (some ⟨G,0,none⟩),.int .i64 i,.int .i64 k] w (F4 g7 g8 i k a b w):=by
 obtain⟨v1,d1⟩:=d1;obtain⟨v2,d2⟩:=d2;go_enter Tryz.func193,Tryz.ntmps193
 go_wp2_with fail
 go_region
 go_wp2_with fail
 go_region
 go_wp2;go_end0;exact⟨rfl,rfl⟩
theorem KC{n7 n8:Nat}(i a:Nat)(b:w.cell? ⟨G,10,none⟩=some (.slice (some ⟨g7,0,none⟩) n7 iB))(c:w.cell? ⟨G,11,none⟩=some (.slice (some ⟨g8,0,none⟩) n8 pF))
  (li:(i:Int)<(n7:Int)) (d:(a:Int)<(n8:Int)) (c1:w.cell? ⟨g7,i,none⟩=some (.int .i64 (a:Int)))
  (d1:∃v,w.cell? ⟨g8,a,none⟩=some v) (f1:w.frozen? ⟨g7,i,none⟩=false) (f3:w.frozen? ⟨g8,a,none⟩=false) (e:G≠g7) (f:g7≠G) (g:G≠g8) (j:g7≠g8) (k:g8≠g7):
   Calls p_ 193 #[.pointer (some ⟨G,0,none⟩),.int .i64 i,.int .i64 i] w (F4 g7 g8 i i a a w):=by
 obtain⟨v1,d1⟩:=d1;go_enter Tryz.func193,Tryz.ntmps193
 go_wp2_with fail
 go_region
 go_wp2_with fail
 go_region
 go_wp2;go_end0;exact⟨rfl,rfl⟩
theorem Dp(h:bf K base w G hs cb s)(O:mw s.c.n s.ord s.pl)(i k:Nat)(l:i<s.ord.length)(hk:k<s.ord.length):
  Calls p_ 193 #[.pointer (some ⟨G,0,none⟩),.int .i64 i,.int .i64 k] w λ e w'=>e=.returned (.tuple #[])/\bf K base w' G hs cb (s.swp i k)/\aG K w w':=by
 have M:=O.sx;obtain⟨g7,f,y,f7⟩:=h.e.l7 10 7 rfl h.e.n7 (by omega);obtain⟨g8,g,z,f8⟩:=h.e.l7 11 8 rfl h.e.n8 (by omega);have m:=O.inv i l;have t:=O.inv k hk;obtain⟨a,u⟩:∃a:Nat,ak s.ord i=a:=⟨(ak s.ord i).toNat,by omega⟩
 obtain⟨b,o⟩:∃b:Nat,ak s.ord k=b:=⟨(ak s.ord k).toNat,by omega⟩
 have c1:=h.e.x8 f l;have c2:=h.e.x8 f hk;rw[u] at c1 m;rw[o] at c2 t;have A:i≠k->a≠b:=λ N e=>by
  rw[Int.toNat_natCast] at m t;rw[e] at m;have:=m.2.2.symm.trans t.2.2;omega
 have d1:=h.e.xg g (k:=a) (by omega);have d2:=h.e.xg g (k:=b) (by omega);have p:=h.e.ux 7 g7 f;have B:=h.e.ux 8 g8 g;have q:g7≠g8:=h.e.xe (r:=7) (r':=8) (by omega) f g;have F:jm base (BE g7 g8 i k a b w) G hs cb (s.swp i k):=by
  have h1:=kA.below (jm.x7 (jm.x7 (s:=(s.tM i b).tM k a) (kA.below (jm.FT (jm.FT h.e f i b) f k a) (r_ _ _).drew) g b i) g a k) (r_ _ _).drew;have e:(((((s.tM i b).tM k a)).pS b i).pS a k)=s.swp i k:=by
   have H:ak (kX s.ord i k) i=if i=k then ak s.ord i else ak s.ord k:=by rw[qF l hk];simp
   have I:ak (kX s.ord i k) k=ak s.ord i:=by rw[qF l hk,if_pos rfl]
   have J:ak (kX s.ord i k) i=b:=by
    rw[H];split
    ·rename_i h;rw[<-o,h]
    ·exact o
   have L:ak (kX s.ord i k) k=a:=by rw[I,u]
   unfold au.swp uu;rw[J,L];unfold kX;rw[u,o];rfl
  rw[<-e];exact h1
 have hF:aG K w (BE g7 g8 i k a b w):=by
  have C:=h.s.row 7 g7 f;have D:=h.s.row 8 g8 g;have d:∀W:World,aG K W W.drew:=λ W=>⟨rfl,rfl,rfl,x_ _,λ _ _=>rfl⟩
  exact(((((aG.set g7 i _ C).trans (aG.set g7 k _ C)).trans (d _)).trans (aG.set g8 b _ D)).trans (aG.set g8 a _ D)).trans (d _)
 have E:bf K base (BE g7 g8 i k a b w) G hs cb (s.swp i k):=⟨F,h.s.more hF.size⟩
 by_cases j:i=k
 ·subst j;obtain rfl:a=b:=by omega
  exact(KC i a y z (by omega) (by omega) c1 ⟨_,d1⟩ (f7 i) (f8 a) p p.symm B q q.symm).mono λ e w' ⟨h1,v⟩=>by subst v;exact⟨h1,E,hF⟩
 ·exact(KB i k a b j (λ e=>j e.symm) (A j) (A j).symm y z (by omega) (by omega) (by omega) (by omega) c1 c2 ⟨_,d1⟩ ⟨_,d2⟩ (f7 i) (f7 k) (f8 a) (f8 b) p p.symm B q q.symm).mono λ e w' ⟨h1,v⟩=>by subst v;exact⟨h1,E,hF⟩
theorem pU.swp{s:au}(O:mw s.c.n s.ord s.pl){i k:Nat}(b:i<s.ord.length)(hk:k<s.ord.length):pU s (s.swp i k):=⟨⟨_,_,rfl⟩,O.swap b hk,rX _ _ _,O.FL b hk⟩
end
section
open Go.RowKit Go.Shelf
def BF(s:au)(v u:Nat):Bool:=decide (rW (ox (ak s.act u) (ak s.act v)) ((v:Int)-(u:Int))<0)
theorem KD{g c:Nat}(v u:Nat)(x y:Int)(q:w.cell? ⟨G,8,none⟩=some (.slice (some ⟨g,0,none⟩) n c))(b:(v:Int)<(n:Int))(hu:(u:Int)<(n:Int))(d:v<=65536)(f:u<=65536)
  (i:w.cell? ⟨g,v,none⟩=some (.int .i64 x)) (j:w.cell? ⟨g,u,none⟩=some (.int .i64 y)):
  Calls p_ 225 #[.pointer (some ⟨G,0,none⟩),.int .i64 v,.int .i64 u] w λ e w'=>e=.returned (.bool (decide (rW (ox y x) ((v:Int)-(u:Int))<0)))/\Below w.heap.size w w':=by
 have k:wrap64 ((v:Int)-(u:Int))=(v:Int)-(u:Int):=by unfold wrap64;omega
 go_enter Tryz.func225,Tryz.ntmps225
 go_wp2;refine wp_region_still_tail 18 (by kernel_rfl) (by kernel_rfl) ?_;simp only[List.take_succ_cons,List.take_zero,List.drop_succ_cons,g_]
 iterate 14 still_step
 still_call ((zM _ _ _).mono (λ e w' h=>⟨h.1,h.2.symm⟩))
 iterate 3 still_step
 refine wpStill_nil ?_;change wpList _ _ _ _ _ w.drew
 go_wp2_with fail
 refine(Bd w.heap.size (ox y x) ((v:Int)-(u:Int)) _ (by go_simp) (by go_simp)).mono ?_;rintro e w' ⟨rfl,rfl⟩;go_wp2;go_ret;exact⟨nC rfl,((r_ _ _).alloc (x_ _) _).drew⟩
section
variable {K:Nat->Prop}{base:Nat}{w:World}{G:Nat}{hs:Nat->ay}{cb:Nat->Nat}{s:au}
theorem KE(h:jm base w G hs cb s)(v u:Nat)(c:v<s.act.length)(hu:u<s.act.length)(hl:s.act.length<=65537):
  Calls p_ 225 #[.pointer (some ⟨G,0,none⟩),.int .i64 v,.int .i64 u] w λ e w'=>e=.returned (.bool (BF s v u))/\Below w.heap.size w w':=by
 obtain⟨g,b,q,f⟩:=h.l7 8 6 rfl h.n6 (by omega);exact KD v u _ _ q (by omega) (by omega) (by omega) (by omega) (h.yU b c) (h.yU b hu)
end
end
section
open Go.RowKit Go.Shelf
section
variable {K:Nat->Prop}{base:Nat}{w W:World}{G:Nat}{hs:Nat->ay}{cb:Nat->Nat}{s:au}
theorem bt.ahead(h:jm base W G hs cb s)(u:bt W){v z:Nat}(d:v<s.act.length)(f:z<s.act.length)(hl:s.act.length<=65537){b:Bool}(g:BF s v z=b):
  Calls p_ 225 #[.pointer (some ⟨G,0,none⟩),.int .i64 v,.int .i64 z] u.val λ e w'=>e=.returned (.bool b)/\∃i:bt W,w'=i.val:=
 bt.call u ((KE (h.below u.ok) v z d f hl).mono λ e w' c=>⟨c.1.trans (by rw[g]),c.2⟩)
end
def F5(K:Nat->Prop)(base:Nat)(w:World)(G:Nat)(hs:Nat->ay)(cb:Nat->Nat)(s:au)(e:Ending)(w':World):Prop:=
 e=.returned (.tuple #[])/\∃s',pU s s'/\bf K base w' G hs cb s'/\aG K w w'
theorem yW(x:Nat)(h:x<=9223372036854775807):IntKind.i64.wrap (x:Int)=x:=by rw[IntKind.wrap_i64];omega
theorem mw.nat{ord pl:List Int}(O:mw n ord pl){i:Nat}(b:i<ord.length):∃a:Nat,ak ord i=a/\1<=a/\a<=n:=by
 have:=O.inv i b;exact⟨(ak ord i).toNat,by omega,by omega,by omega⟩
theorem Dq(h:bf K base w G hs cb s)(O:mw s.c.n s.ord s.pl)(S:s.act.length=s.c.n+1)(af:s.c.n<=65536)(i:Nat)(T:i<s.ord.length)(ag:s.ord.length<=65537):
  Calls p_ 187 #[.pointer (some ⟨G,0,none⟩),.int .i64 i] w (F5 K base w G hs cb s):=by
 have H:=U h;have V:=U O;clear h O;go_enter Tryz.func187,Tryz.ntmps187
 go_wp2_with fail
 go_loopw [1] (λ s1 W=>∃(k:Nat)(s':au),s1=.int .i64 k/\k<s.ord.length/\pU s s'/\bf K base W G hs cb s'/\aG K w W) (λ s1 _=>(intOf s1).toNat)
 case atStart=>exact⟨i,s,rfl,T,pU.refl V.o,H.o,aG.refl⟩
 case round=>
  obtain⟨k,s',rfl,hk,hO,I,hF⟩:=hrel;have E:=U I;have F:=U hF;have r:=U hO;clear I hF
  by_cases X:k=0
  ·subst X;clear hO
   go_wp2_with fail
   refine mA (by kernel_rfl) (by kernel_rfl) ?_
   repeat (go_big_quiet_step (fail))
   refine i_ ?_;intro Y d;replace d:=bt.o d
   go_wp2_with fail
   go_end0;have:=E.o.below d;exact⟨rfl,s',r.o,this.1,F.o.trans this.2⟩
  ·obtain⟨m,rfl⟩:∃m,k=m+1:=⟨k-1,by omega⟩
   obtain⟨p,hp⟩:∃p,p=m/2:=⟨_,rfl⟩
   obtain⟨ah,ai,he⟩:=hO.eq;have t:s'.ord.length=s.ord.length:=hO.ol;have l:mw s'.c.n s'.ord s'.pl:=by rw[he];have:=hO.lW;rw[he] at this;exact this
   have J:s'.act.length=s.c.n+1:=by rw[he];exact S
   have L:s'.c.n=s.c.n:=by rw[he]
   clear hO he;obtain⟨k0,y⟩:∃k0,k0=m+1:=⟨_,rfl⟩
   obtain⟨a,z,a1,a2⟩:=l.nat (i:=k0) (by omega);obtain⟨b,A,aj,ak⟩:=l.nat (i:=p) (by omega);obtain⟨g7,j,M,f7⟩:=E.o.e.l7 10 7 rfl (E.o.e.n7.trans t) (by omega);have c1:=E.o.e.x8 j (k:=k0) (by omega);have c2:=E.o.e.x8 j (k:=p) (by omega);rw[z] at c1;rw[A] at c2;have B:=E.o.e.rows.lt j;have Z:=λ u:bt wr=>u.cell (E.o.e.box.lt) M
   have aa:=λ u:bt wr=>u.cell B.2 c1
   have ab:=λ u:bt wr=>u.cell B.2 c2
   have al:(k0:Int)-1=(m:Int):=by omega
   have an:Int.tdiv (m:Int) 2=(p:Int):=by rw[Int.tdiv_eq_ediv_of_nonneg (by omega)];omega
   have ao:=yW m (by omega);have aq:=yW p (by omega);have ad:(0:Int)<(k0:Int):=by omega
   have d0:decide ((0:Int)<(k0:Int))=true:=decide_eq_true ad;have d1:decide (0<k0)=true:=decide_eq_true (by omega);have ar:(k0:Int)<(s.ord.length:Int):=by omega
   have av:(p:Int)<(s.ord.length:Int):=by omega
   have aw:=U z;have ax:=U A;have q:=U hp;have g:=U y;have N:=U l;have f:=U (z_ t (z_ J L));have az:=U j;generalize P:BF s' a b=v;have ae:=U P;rw[<-y];clear z A hp y l t J L j B M c1 c2 P f7
   go_wp2_with fail
   refine mA (by kernel_rfl) (by kernel_rfl) ?_
   repeat (go_big_quiet_step ((go_at_call 225;exact bt.ahead E.o.e _ (by have:=f.o;omega) (by have:=f.o;omega) (by have:=f.o;omega) ae.o)))
   refine i_ ?_;intro Y d;replace d:=bt.o d;have Q:=U (E.o.below d).1;have R:=U (F.o.trans (E.o.below d).2);clear Z aa ab d
   cases v
   ·go_wp2_with fail
    go_end0;exact⟨rfl,s',r.o,Q.o,R.o⟩
   ·go_wp2_with (go_at_call 193;refine(Dp Q.o N.o k0 p (by have:=f.o;have:=g.o;omega) (by have:=f.o;have:=g.o;have:=q.o;omega)).mono ?_;rintro e aA ⟨rfl,C,D⟩;have C:=U C;have D:=U D)
    go_roundw
    case rel=>exact⟨p,_,by go_num,by have:=g.o;have:=q.o;omega,r.o.trans (pU.swp N.o (by have:=f.o;have:=g.o;omega) (by have:=f.o;have:=g.o;have:=q.o;omega)),C.o,R.o.trans D.o⟩
    case measure=>have:=g.o;have:=q.o;simp[intOf];omega
end
section
open Go.RowKit Go.Shelf
theorem F6(h:bf K base w G hs cb s)(O:mw s.c.n s.ord s.pl)(aw:s.act.length=s.c.n+1)(aP:s.c.n<=65536)(i:Nat)(ax:i<s.ord.length)(aQ:s.ord.length<=65537):
  Calls p_ 194 #[.pointer (some ⟨G,0,none⟩),.int .i64 i] w (F5 K base w G hs cb s):=by
 have H:=U h;have az:=U O;clear h O;go_enter Tryz.func194,Tryz.ntmps194
 go_wp2_with fail
 go_loopw [1,4,6] (λ s1 _ _ W=>∃(k:Nat)(s':au),s1=.int .i64 k/\k<s.ord.length/\pU s s'/\bf K base W G hs cb s'/\aG K w W) (λ s1 _ _ _=>s.ord.length-(intOf s1).toNat)
 case atStart=>exact⟨i,s,rfl,ax,pU.refl az.o,H.o,aG.refl⟩
 case round=>
  obtain⟨k,s',rfl,hk,hO,ad,hF⟩:=hrel;have E:=U ad;have F:=U hF;have ae:=U hO;clear ad hF;obtain⟨aR,aS,he⟩:=hO.eq;have C:s'.ord.length=s.ord.length:=hO.ol;have D:mw s'.c.n s'.ord s'.pl:=by rw[he];have:=hO.lW;rw[he] at this;exact this
  have P:s'.act.length=s.c.n+1:=by rw[he];exact aw
  have Q:s'.c.n=s.c.n:=by rw[he]
  clear hO he;obtain⟨c,R⟩:∃c,c=2*k+1:=⟨_,rfl⟩
  obtain⟨d,S⟩:∃d,d=2*k+2:=⟨_,rfl⟩
  have I:2*(k:Int)+1=(c:Int):=by omega
  have J:2*(k:Int)+2=(d:Int):=by omega
  have k0:=yW (2*k) (by omega);have aA:=yW c (by omega);have aB:=yW d (by omega);have aC:=U (z_ R S);clear R S
  go_wp2_with fail
  obtain⟨r,A⟩:∃r,r=wr.heap.size:=⟨_,rfl⟩
  have T:Below wr.heap.size wr (wr.alloc (.cells #[.int .i64 c,.int .i64 d] 3)):=bC wr _;have m1:(wr.alloc (.cells #[.int .i64 c,.int .i64 d] 3)).cell? ⟨r,0,none⟩=some (.int .i64 c):=by subst A;go_simp
  have m2:(wr.alloc (.cells #[.int .i64 c,.int .i64 d] 3)).cell? ⟨r,1,none⟩=some (.int .i64 d):=by subst A;go_simp
  have af:r<(wr.alloc (.cells #[.int .i64 c,.int .i64 d] 3)).heap.size:=by subst A;simp
  rw[<-A];have ag:=U (E.o.below T).1;have aD:=U (F.o.trans (E.o.below T).2);generalize (wr.alloc (.cells #[.int .i64 c,.int .i64 d] 3))=w1 at*;clear A T I J k0 aA aB;have M:=U (z_ m1 (z_ m2 af));clear m1 m2 af
  go_loopw [4,6,16] (λ jf _ V W=>∃(j b:Nat),V=.int .i64 j/\j<=2/\jf=.int .i64 b/\k<=b/\b<s.ord.length/\Below w1.heap.size w1 W) (λ _ _ V _=>2-(intOf V).toNat)
  case atStart=>exact⟨0,k,rfl,by omega,rfl,x_ _,hk,r_ _ _⟩
  case round=>
   obtain⟨j,b,rfl,ah,rfl,t,y,L⟩:=hrel;have z:=U L;have g:=U (ag.o.below L).1;have ai:=U (aD.o.trans (ag.o.below L).2);clear L
   by_cases aj:j<2
   ·obtain⟨x,aT,ak,al⟩:∃x:Nat,wr.cell? ⟨r,j,none⟩=some (.int .i64 x)/\k<x/\x<=2*k+2:=by
     obtain⟨R,S⟩:=aC.o;rcases o_ j 1 with h1|h1
     ·obtain rfl:j=0:=by omega
      exact⟨c,(z.o.cell M.o.2.2).trans M.o.1,by omega,by omega⟩
     ·obtain rfl:j=1:=by omega
      exact⟨d,(z.o.cell M.o.2.2).trans M.o.2.1,by omega,by omega⟩
    have aU:decide ((j:Int)<2)=true:=decide_eq_true (by omega);have aE:(j:Int)<2:=by omega
    have p:=U (z_ ah (z_ aj (z_ ak al)));clear ah aj ak al;obtain⟨g7,q,an,f7⟩:=g.o.e.l7 10 7 rfl (g.o.e.n7.trans C) (by omega);have ao:=λ u:bt wr=>u.cell (g.o.e.box.lt) an
    clear an
    by_cases B:x<s.ord.length
    ·have X:(x:Int)<(s.ord.length:Int):=by omega
     have lb:(b:Int)<(s.ord.length:Int):=by omega
     have aF:decide ((x:Int)<(s.ord.length:Int))=true:=decide_eq_true X;have aH:decide (x<s.ord.length)=true:=decide_eq_true B;obtain⟨a,Y,a1,a2⟩:=D.nat (i:=x) (by omega);obtain⟨e,he,I,J⟩:=D.nat (i:=b) (by omega);have c1:=g.o.e.x8 q (k:=x) (by omega);have c2:=g.o.e.x8 q (k:=b) (by omega);rw[Y] at c1;rw[he] at c2;have Z:=g.o.e.rows.lt q;have aI:=λ u:bt wr=>u.cell Z.2 c1
     have aJ:=λ u:bt wr=>u.cell Z.2 c2
     generalize aq:BF s' a e=v;have aK:=U aq;have m:=U (z_ C (z_ P Q));have ar:=U (z_ Y (z_ he (z_ a1 (z_ a2 (z_ I J)))));have aL:=U q;have f:=U (z_ t y);have aM:=U B;clear Y he c1 c2 Z aq f7 q a1 a2 I J t y B
     go_wp2_with fail
     refine mA (by kernel_rfl) (by kernel_rfl) ?_
     repeat (go_big_quiet_step ((go_at_call 225;exact bt.ahead g.o.e _ (by have:=m.o;have:=ar.o;omega) (by have:=m.o;have:=ar.o;omega) (by have:=m.o;omega) aK.o)))
     refine i_ ?_;intro aN l;replace l:=bt.o l;have N:=U (z.o.trans (l.mono z.o.size));clear ao aI aJ l
     cases v
     ·go_wp2_with fail
      go_roundw
      case rel=>exact⟨j+1,b,by go_num,by have:=p.o;omega,rfl,f.o.1,f.o.2,N.o⟩
      case measure=>have:=p.o;simp[intOf];omega
     ·go_wp2_with fail
      go_roundw
      case rel=>exact⟨j+1,x,by go_num,by have:=p.o;omega,rfl,by have:=p.o;omega,aM.o,N.o⟩
      case measure=>have:=p.o;simp[intOf];omega
    ·have X:¬(x:Int)<(s.ord.length:Int):=by omega
     have aF:decide ((x:Int)<(s.ord.length:Int))=false:=decide_eq_false X;have aH:decide (x<s.ord.length)=false:=decide_eq_false B;have aL:=U q;have f:=U (z_ t y);clear f7 q t y B
     go_wp2_with fail
     refine mA (by kernel_rfl) (by kernel_rfl) ?_
     repeat (go_big_quiet_step (fail))
     refine i_ ?_;intro aN l;replace l:=bt.o l;have N:=U (z.o.trans (l.mono z.o.size));clear ao l
     go_wp2_with fail
     go_roundw
     case rel=>exact⟨j+1,b,by go_num,by have:=p.o;omega,rfl,f.o.1,f.o.2,N.o⟩
     case measure=>have:=p.o;simp[intOf];omega
   ·have aE:¬(j:Int)<2:=by omega
    by_cases av:b=k
    ·subst av
     go_wp2_with fail
     go_end0;exact⟨rfl,s',ae.o,g.o,ai.o⟩
    ·have aO:¬(b:Int)=(k:Int):=by omega
     have f:=U (z_ t (z_ y av));have m:=U (z_ C (z_ P Q));clear t y C P Q;have aV:((b:Int)==(k:Int))=false:=by simpa using aO
     go_wp2_with (go_at_call 193;refine(Dp g.o D k b (by have:=m.o;omega) (by have:=m.o;have:=f.o;omega)).mono ?_;rintro e aW ⟨rfl,aa,ab⟩;have aa:=U aa;have ab:=U ab)
     go_roundw
     case rel=>exact⟨b,_,by go_num,by have:=f.o;omega,ae.o.trans (pU.swp D (by have:=m.o;omega) (by have:=m.o;have:=f.o;omega)),aa.o,ai.o.trans ab.o⟩
     case measure=>have:=f.o;simp[intOf];omega
end
section
open Go.RowKit Go.Shelf
section
variable {K:Nat->Prop}{base:Nat}{w w' W:World}{G:Nat}{hs:Nat->ay}{cb:Nat->Nat}{s:au}
theorem bf.x6(h:bf K base w G hs cb s){g:Nat}(c:(hs 1).b=some g)(k:Nat)(x:Int):bf K base (w.setCell ⟨g,k,none⟩ (.int .i8 x)) G hs cb (s.o5 k x)/\aG K w (w.setCell ⟨g,k,none⟩ (.int .i8 x)):=h.lJ (jm.x6 h.e c k x) rfl (Fr.cell 1 g k _ c)
theorem bf.z8(h:bf K base w G hs cb s){g:Nat}(c:(hs 3).b=some g)(k:Nat)(x:Option Nat):bf K base (w.setCell ⟨g,k,none⟩ (qT cb x)) G hs cb (s.qI k x)/\aG K w (w.setCell ⟨g,k,none⟩ (qT cb x)):=h.lJ (jm.z8 h.e c k x) rfl (Fr.cell 3 g k _ c)
theorem bf.Bz(h:bf K base w G hs cb s){g:Nat}(c:(hs 6).b=some g)(k:Nat)(x:Int):bf K base (w.setCell ⟨g,k,none⟩ (.int .i64 x)) G hs cb (s.p8 k x)/\aG K w (w.setCell ⟨g,k,none⟩ (.int .i64 x)):=h.lJ (jm.Bz h.e c k x) rfl (Fr.cell 6 g k _ c)
theorem bf.x7(h:bf K base w G hs cb s){g:Nat}(c:(hs 8).b=some g)(k:Nat)(x:Int):bf K base (w.setCell ⟨g,k,none⟩ (.int .i64 x)) G hs cb (s.pS k x)/\aG K w (w.setCell ⟨g,k,none⟩ (.int .i64 x)):=h.lJ (jm.x7 h.e c k x) rfl (Fr.cell 8 g k _ c)
theorem bf.Aa(h:bf K base w G hs cb s){g:Nat}(c:(hs 9).b=some g)(k:Nat)(x:Bool):bf K base (w.setCell ⟨g,k,none⟩ (.bool x)) G hs cb (s.uw k x)/\aG K w (w.setCell ⟨g,k,none⟩ (.bool x)):=h.lJ (jm.Aa h.e c k x) rfl (Fr.cell 9 g k _ c)
theorem bf.xd(h:bf K base w G hs cb s){g:Nat}(c:(hs 12).b=some g)(k:Nat)(x:Bool):bf K base (w.setCell ⟨g,k,none⟩ (.bool x)) G hs cb (s.s6 k x)/\aG K w (w.setCell ⟨g,k,none⟩ (.bool x)):=h.lJ (jm.xd h.e c k x) rfl (Fr.cell 12 g k _ c)
theorem aG.kP(h:bf K base w G hs cb s)(k:Nat)(v:Value):aG K w (w.setCell ⟨G,k,none⟩ v):=aG.set G k v h.s.g
theorem aG.drew:aG K w w.drew:=⟨rfl,rfl,rfl,x_ _,λ _ _=>rfl⟩
theorem bf.drew(h:bf K base w G hs cb s):bf K base w.drew G hs cb s:=(h.below (r_ _ _).drew).1
theorem Sep.cut{n:Nat}(h:Sep K w G hs cb n){r:Nat}(m:Nat):Sep K w G (iV hs r ⟨(hs r).A,m,(hs r).c⟩) cb n:=h.ji (λ g e=>h.row r g e)
theorem bf.KF(h:bf K base w G hs cb s){g:Nat}(f:(hs 7).b=some g){m:Nat}(hm:m<=s.ord.length):
  bf K base (w.setCell ⟨G,10,none⟩ (.slice (some ⟨g,0,none⟩) m (hs 7).c)) G (iV hs 7 ⟨(hs 7).A,m,(hs 7).c⟩) cb {s with ord:=s.ord.take m}/\aG K w (w.setCell ⟨G,10,none⟩ (.slice (some ⟨g,0,none⟩) m (hs 7).c)):=by
 have i:=(h.e.rows.form f).1;rw[<-i];refine⟨⟨?_,(h.s.cut (r:=7) m).more (lq w G 10 _).size⟩,aG.kP h 10 _⟩;have j:=(kA.cut h.e f (k:=m) (by rw[h.e.n7];exact hm)).field 10 (.slice (hs 7).A m (hs 7).c);refine j.eq rfl rfl rfl (λ d _=>(v8 hs s (by omega) _ d).symm) rfl (λ r=>?_);rw[v7 hs cb _ (by omega)]
 by_cases e:r=7
 ·subst e;rw[jT];show(jj s.ord).take (m*1)=jj (s.ord.take m);simp[jj]
 ·rw[bq _ _ e];simp only[cont,if_neg e]
theorem bf.F7(h:bf K base w G hs cb s){g:Nat}(f:(hs 4).b=some g){m:Nat}(hm:m<=s.c.ax.length):
  bf K base (w.setCell ⟨G,5,none⟩ (.slice (some ⟨g,0,none⟩) m (hs 4).c)) G (iV hs 4 ⟨(hs 4).A,m,(hs 4).c⟩) cb {s with c:={s.c with ax:=s.c.ax.take m}}/\aG K w (w.setCell ⟨G,5,none⟩ (.slice (some ⟨g,0,none⟩) m (hs 4).c)):=by
 have i:=(h.e.rows.form f).1;rw[<-i];refine⟨⟨?_,(h.s.cut (r:=4) m).more (lq w G 5 _).size⟩,aG.kP h 5 _⟩;have j:=(kA.cut h.e f (k:=m) (by rw[h.e.kD];exact hm)).field 5 (.slice (hs 4).A m (hs 4).c);refine j.eq rfl rfl rfl (λ d _=>(v8 hs s (by omega) _ d).symm) rfl (λ r=>?_);rw[v7 hs cb _ (by omega)]
 by_cases e:r=4
 ·subst e;rw[jT];show(jj s.c.ax).take (m*1)=jj (s.c.ax.take m);simp[jj]
 ·rw[bq _ _ e];simp only[cont,if_neg e]
theorem bf.F8(h:bf K base w G hs cb s){g:Nat}(f:(hs 5).b=some g){m:Nat}(hm:m<=s.c.st.length):
  bf K base (w.setCell ⟨G,6,none⟩ (.slice (some ⟨g,0,none⟩) m (hs 5).c)) G (iV hs 5 ⟨(hs 5).A,m,(hs 5).c⟩) cb {s with c:={s.c with st:=s.c.st.take m}}/\aG K w (w.setCell ⟨G,6,none⟩ (.slice (some ⟨g,0,none⟩) m (hs 5).c)):=by
 have i:=(h.e.rows.form f).1;rw[<-i];refine⟨⟨?_,(h.s.cut (r:=5) m).more (lq w G 6 _).size⟩,aG.kP h 6 _⟩;have j:=(kA.cut h.e f (k:=m) (by rw[h.e.kj];exact hm)).field 6 (.slice (hs 5).A m (hs 5).c);refine j.eq rfl rfl rfl (λ d _=>(v8 hs s (by omega) _ d).symm) rfl (λ r=>?_);rw[v7 hs cb _ (by omega)]
 by_cases e:r=5
 ·subst e;rw[jT];show(qo s.c.st).take (m*1)=qo (s.c.st.take m);simp[qo]
 ·rw[bq _ _ e];simp only[cont,if_neg e]
theorem bf.BG(h:bf K base w G hs cb s)(x:Nat):bf K base (w.setCell ⟨G,7,none⟩ (.int .i64 (x:Int))) G hs cb {s with c:={s.c with ag:=x}}/\aG K w (w.setCell ⟨G,7,none⟩ (.int .i64 (x:Int))):=
 ⟨⟨(h.e.field 7 _).eq rfl rfl rfl (λ _ _=>rfl) rfl (λ _=>rfl),h.s.more (lq w G 7 _).size⟩,aG.kP h 7 _⟩
theorem bf.F9(h:bf K base w G hs cb s)(x:Int):bf K base (w.setCell ⟨G,9,none⟩ (.int .i64 x)) G hs cb (s.we x)/\aG K w (w.setCell ⟨G,9,none⟩ (.int .i64 x)):=
 ⟨⟨(h.e.field 9 _).eq rfl rfl rfl (λ _ _=>rfl) rfl (λ _=>rfl),h.s.more (lq w G 9 _).size⟩,aG.kP h 9 _⟩
theorem bf.Ga(h:bf K base w G hs cb s):bf K base (w.setCell ⟨G,15,none⟩ (.bool true)) G hs cb {s with c:=wW s.c}/\aG K w (w.setCell ⟨G,15,none⟩ (.bool true)):=
 ⟨⟨(h.e.field 15 _).eq rfl rfl rfl (λ _ _=>rfl) rfl (λ _=>rfl),h.s.more (lq w G 15 _).size⟩,aG.kP h 15 _⟩
end
end
section
open Go.RowKit Go.Shelf
def KG(K:Nat->Prop)(base:Nat)(w:World)(G:Nat)(cb:Nat->Nat)(s:au)(e:Ending)(w':World):Prop:=
 ∃(v:Nat)(hs':Nat->ay)(s':au),e=.returned (.int .i64 v)/\ak s.ord 0=v/\1<=v/\v<=s.c.n/\(∃o p,s'={s with ord:=o,pl:=p})/\bf K base w' G hs' cb s'/\aG K w w'/\mw s.c.n s'.ord s'.pl/\s'.ord.length+1=s.ord.length/\(∀u:Nat,u≠v->(0<=ak s'.pl u↔0<=ak s.pl u))
theorem KH(h:bf K base w G hs cb s)(O:mw s.c.n s.ord s.pl)(al:s.act.length=s.c.n+1)(aK:s.c.n<=65536)(X:0<s.ord.length)(aL:s.ord.length<=65537):
  Calls p_ 155 #[.pointer (some ⟨G,0,none⟩)] w (KG K base w G cb s):=by
 obtain⟨m,hm⟩:∃m,s.ord.length=m+1:=⟨s.ord.length-1,by omega⟩
 obtain⟨g7,J,Y,f7⟩:=h.e.l7 10 7 rfl (h.e.n7.trans hm) (by omega);obtain⟨v,r,v1,v2⟩:=O.nat (i:=0) X;have Z:=h.e.x8 J (k:=0) X;rw[r] at Z;have H:=U h;have B:=U O;have C:=U J;have L:=U r;have y:=U (z_ v1 v2);have f:=U hm;have em:((m+1:Nat):Int)-1=(m:Int):=by omega
 have aM:=yW m (by omega);have lm:(0:Int)<((m+1:Nat):Int):=by omega
 clear h O J r v1 v2 hm f7;go_enter Tryz.func155,Tryz.ntmps155
 go_upto_region 3 with(go_at_call 193;refine(Dp H.o B.o 0 m (by have:=f.o;omega) (by have:=f.o;omega)).mono ?_;rintro e D ⟨rfl,t,M⟩;have t:=U t;have M:=U M)
 have an:(hs 7).n=m+1:=H.o.e.n7.trans f.o;have Y:D.cell? ⟨G,10,none⟩=some (.slice (some ⟨g7,0,none⟩) (m+1) (hs 7).c):=t.o.e.ri 10 C.o an rfl;have f7:D.frozen? ⟨G,10,none⟩=false:=t.o.e.free 10;have cap:m+1<=(hs 7).c:=by
  obtain⟨_,ao⟩:=t.o.e.rows.row 7;rcases ao with⟨N,_⟩|⟨aN,aa,cur,r,_,_,aO,_⟩
  ·have:=(t.o.e.rows.form C.o).1;unfold ay.v at N;rw[this] at N
   cases N
  ·unfold ay.v at r;injection r with _ _ r
   omega
 have aa:(m:Int)<=((hs 7).c:Int):=by omega
 refine wp_region_still_tail 14 (by kernel_rfl) (by kernel_rfl) ?_;simp only[List.take_succ_cons,List.take_zero,List.drop_succ_cons,g_]
 iterate 14 still_step
 refine wpStill_nil ?_;change wpList _ _ _ _ _ D.drew
 go_upto_region 4 with fail
 have P:=B.o.sx;have hlen:=f.o;have i0:0<s.ord.length:=by omega
 have Q:m<s.ord.length:=by omega
 have g:=t.o.KF C.o (m:=m) (by show m<=(kX s.ord 0 m).length;rw[rX];omega);have ab:=B.o.swap i0 Q;have E:=ab.pop (by rw[rX];omega);rw[rX,hlen,t_] at E;have ad:ak (kX s.ord 0 m) m=v:=by rw[qF i0 Q,if_pos rfl];exact L.o
 rw[ad,Int.toNat_natCast] at E;have ae:=U (M.o.trans (g.2.trans aG.drew));have g:=U g.1.drew;generalize (D.setCell ⟨G,10,none⟩ (.slice (some ⟨g7,0,none⟩) m (hs 7).c)).drew=aq at g ae;have af:=U E;obtain⟨g8,R,ar,f8⟩:=g.o.e.l7 11 8 rfl (g.o.e.n8.trans (by show(uu s.ord s.pl 0 m).length=s.c.n+1;unfold uu;rw[y_,y_];exact P)) (by omega);have av:=g.o.e.xg R (k:=v) (by show v<(uu s.ord s.pl 0 m).length;unfold uu;rw[y_,y_,P];have:=y.o;omega);have aw:=f8 v;have bp:(v:Int)<((s.c.n+1:Nat):Int):=by have:=y.o;omega
 have ax:=U R;clear f8 R ab E ad Q i0 hlen P Y f7 cap aa Z
 go_upto_region 5 with fail
 have j:=g.o.x7 ax.o v (-1);have S:=U (ae.o.trans j.2);have j:=U j.1;generalize (aq.setCell ⟨g8,v,none⟩ (.int .i64 (-1)))=az at j S;clear ar av aw;obtain⟨d,l⟩:∃d,d=({s.swp 0 m with ord:=(kX s.ord 0 m).take m}:au).pS v (-1):=⟨_,rfl⟩
 have ag:(({s.swp 0 m with ord:=(s.swp 0 m).ord.take m}:au).pS v (-1))=d:=l.symm;rw[ag] at j;have F:mw d.c.n d.ord d.pl:=by rw[l];exact af.o
 have ah:d.ord.length=m:=by rw[l];show((kX s.ord 0 m).take m).length=m;rw[j_,rX];have:=f.o;omega
 have T:d.c.n=s.c.n:=by rw[l];rfl
 have a5:d.act.length=d.c.n+1:=by rw[T,<-al,l];rfl
 have ai:∃o p,d={s with ord:=o,pl:=p}:=⟨_,_,l⟩
 have aj:∀u:Nat,u≠v->(0<=ak d.pl u↔0<=ak s.pl u):=λ u hu=>by
  rw[l];show 0<=ak ((uu s.ord s.pl 0 m).set v (-1)) u↔_;rw[oZ,if_neg (λ aA=>hu aA.1.symm)];exact B.o.FL (by have:=f.o;omega) (by have:=f.o;omega) u
 have aP:az.cell? ⟨G,10,none⟩=some (.slice (some ⟨g7,0,none⟩) m (hs 7).c):=by
  have aB:(iV hs 7 ⟨(hs 7).A,m,(hs 7).c⟩ 7).b=some g7:=by rw[jT];exact C.o
  have:=j.o.e.ri 10 aB (m:=m) (by rw[jT]) rfl
  rwa[jT] at this
 have I:=U (z_ ai aj);have F:=U F;have q:=U (z_ ah (z_ T a5));clear ai aj ah T a5 ag af l
 by_cases aC:m=0
 ·have aD:¬(0:Int)<(m:Int):=by omega
  have aQ:=U aC
  go_wp2_with fail
  go_ret;exact⟨v,_,d,rfl,L.o,y.o.1,y.o.2,I.o.1,j.o,S.o,by have:=F.o;rwa[q.o.2.1] at this,by have:=q.o;have:=f.o;omega,I.o.2⟩
 ·have aD:(0:Int)<(m:Int):=by omega
  go_wp2_with (go_at_call 194;refine(F6 j.o F.o q.o.2.2 (by have:=q.o;omega) 0 (by have:=q.o;omega) (by have:=q.o;have:=f.o;omega)).mono ?_;rintro e aR ⟨rfl,aE,z,V,W⟩;have V:=U V;have W:=U W;have z:=U z)
  go_ret;refine⟨v,_,aE,rfl,L.o,y.o.1,y.o.2,?_,V.o,S.o.trans W.o,?_,?_,?_⟩
  ·obtain⟨o,p,aF⟩:=I.o.1;obtain⟨aH,aI,aJ⟩:=z.o.eq;exact⟨aH,aI,by rw[aJ,aF]⟩
  ·have:=z.o.lW;rwa[q.o.2.1] at this
  ·rw[z.o.ol];have:=q.o;have:=f.o;omega
  ·exact λ u hu=>(z.o.same u).trans (I.o.2 u hu)
end
section
structure qq(c:Core)(m:Nat):Prop where
 str:∀k,k<c.st.length->m<=k->hU c.st k<if k+1<c.st.length then hU c.st (k+1) else c.ax.length
section
variable {c c':Core}{m:Nat}
theorem qq.at(h:qq c m):∀j,m+j<c.st.length->j<=hU c.st (m+j)
 |0,_=>Nat.zero_le _
 |j+1,d=>by
  have h1:=qq.at h j (by omega);have b:=h.str (m+j) (by omega) (by omega);rw[if_pos (by omega)] at b;rw[show m+(j+1)=m+j+1 by omega];omega
theorem qq.len(h:qq c m):c.st.length<=m+c.ax.length:=by
 rcases o_ m c.st.length with hl|hl
 ·have h1:=h.at (c.st.length-1-m) (by omega);have b:=h.str (c.st.length-1) (by omega) (by omega);rw[if_neg (by omega)] at b;rw[show m+(c.st.length-1-m)=c.st.length-1 by omega] at h1;omega
 ·omega
theorem qq.grow(h:qq c m)(hs:c'.st=c.st)(b:c.ax.length<=c'.ax.length):qq c' m:=by
 refine⟨λ k hk hm=>?_⟩;rw[hs] at hk⊢;have:=h.str k hk hm;split
 ·rename_i h1;rw[if_pos h1] at this;exact this
 ·rename_i h1;rw[if_neg h1] at this;omega
theorem qq.zero(h:c.st=[]):qq c m:=⟨λ k hk=>by rw[h] at hk;simp at hk⟩
theorem qq.level(h:qq c m)(T:j9 c)(hl:c.st.length<m):qq (nx c) m:=by
 refine⟨λ k hk hm=>?_⟩;have e:(nx c).st=c.st++[c.ax.length]:=rfl;rw[e,u_,s_] at hk;omega
theorem qq.decide(h:qq c m)(T:j9 c)(x:Int):qq (lC (nx c) x none) m:=by
 refine⟨λ k hk hm=>?_⟩;have e:(lC (nx c) x none).st=c.st++[c.ax.length]:=rfl;have d:(lC (nx c) x none).ax=c.ax++[x]:=rfl;rw[e,u_,s_] at hk;rw[e,d,u_,s_,u_,s_]
 by_cases h1:k<c.st.length
 ·rw[xV h1,if_pos (by omega)];have:=h.str k h1 hm
  by_cases b:k+1<c.st.length
  ·rw[if_pos b] at this;rw[xV b];exact this
  ·rw[if_neg b] at this;have f:k+1=c.st.length:=by omega
   rw[f,xW];exact this
 ·have g:k=c.st.length:=by omega
  rw[if_neg (by omega),g,xW];omega
theorem qq.back(h:qq c m)(T:j9 c){level:Nat}(hl:level<c.st.length):qq (mN c level) m:=by
 refine⟨λ k hk hm=>?_⟩;have e:(mN c level).st=c.st.take level:=rfl;have b:(mN c level).ax=c.ax.take (hU c.st level):=rfl;have hlen:(c.st.take level).length=level:=by rw[j_];omega
 have d:(c.ax.take (hU c.st level)).length=hU c.st level:=by rw[j_];have:=T.oz level hl;omega
 rw[e,hlen] at hk;rw[e,b,hlen,d,uV hk];have:=h.str k (by omega) hm;rw[if_pos (by omega)] at this
 by_cases h1:k+1<level
 ·rw[if_pos h1,uV h1];exact this
 ·rw[if_neg h1];obtain rfl:k+1=level:=by omega
  exact this
end
end
end Go.Proofs.YtogdlkfacflmaaaGreat
