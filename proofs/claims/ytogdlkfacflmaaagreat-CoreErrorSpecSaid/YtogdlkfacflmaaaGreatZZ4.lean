/- Parts of the walk of the solver and its core; no condition. -/
import Derived.Test.YtogdlkfacflmaaaGreatZZ3
import Derived.BigRegion
import Derived.Test.YtogdlkfacflmaaaGreatZZ1
namespace Go.Proofs.YtogdlkfacflmaaaGreat
set_option linter.unusedVariables false
set_option linter.unusedSimpArgs false
set_option maxRecDepth 100000
set_option maxHeartbeats 4000000
open _root_.And renaming intro→z_
open _root_.List renaming length_set→y_,getD_eq_getElem?_getD→w_,drop_eq_getElem_cons→v_,length_append→u_,length_singleton→s_,map_set→q_,length_take→j_,drop_zero→g_
open _root_.Nat renaming le_refl→x_,add_sub_cancel→t_,lt_or_ge→o_,lt_of_lt_of_le→m_,le_trans→l_
open _root_.Go.RowKit.Below renaming refl→r_
open _root_.Go.Proofs.Tryz renaming prog→p_
open _root_.Int renaming le_trans→n_
open _root_.Or renaming inl→k_
open _root_.Go renaming wpQuiet_nil→i_
open _root_.Iff renaming rfl→h_
variable{base G n g7 g8 iA p6:Nat}{w:World}{hs:Nat->ax}{cb:Nat->Nat}{s s':aq}{c:Core}{A B A' qN:Int}{K:Nat->Prop}
section
open Go.RowKit Go.Shelf
structure Fr(hs:Nat->ax)(G:Nat)(cb:Nat->Nat)(n:Nat)(w w':World):Prop where
 os:w'.os=w.os
 tape:w'.tape=w.tape
 output:w'.output=w.output
 size:w.heap.size<=w'.heap.size
 keep:∀b,b<w.heap.size->b≠G->(∀r,(hs r).b≠some b)->(∀d,d<n->cb d≠b)->w'.heap[b]? =w.heap[b]?
section
variable {base:Nat}{w w' w1:World}{G:Nat}{hs hs':Nat->ax}{cb:Nat->Nat}{gm:List Value}{cls:Nat->List Value}{n:Nat}{X:Nat->List Value}
theorem Fr.trans(h:Fr hs G cb n w w1)(h':Fr hs G cb n w1 w'):Fr hs G cb n w w':=
 ⟨h'.os.trans h.os,h'.tape.trans h.tape,h'.output.trans h.output,l_ h.size h'.size,λ b a h1 c d=>(h'.keep b (m_ a h.size) h1 c d).trans (h.keep b a h1 c d)⟩
theorem Fr.then(h:Fr hs G cb n w w1)(h':Fr hs' G cb n w1 w')(f:∀r g,(hs' r).b=some g->(∃r',(hs r').b=some g)\/w.heap.size<=g):Fr hs G cb n w w':=
 ⟨h'.os.trans h.os,h'.tape.trans h.tape,h'.output.trans h.output,l_ h.size h'.size,λ b a h1 c d=>(h'.keep b (m_ a h.size) h1 (λ r e=>by
  rcases f r b e with⟨r',i⟩|hle
  ·exact c r' i
  ·omega) d).trans (h.keep b a h1 c d)⟩
theorem Fr.cell(r g k:Nat)(v:Value)(a:(hs r).b=some g):Fr hs G cb n w (w.setCell ⟨g,k,none⟩ v):=by
 have h:=k8 w g k v;exact⟨h.os,h.tape,h.output,h.size,λ b c _ d _=>h.block b c (λ e=>d r (by rw[a];injection e with e;rw[e]))⟩
theorem Fr.kJ(k:Nat)(v:Value):Fr hs G cb n w (w.setCell ⟨G,k,none⟩ v):=by
 have h:=k8 w G k v;exact⟨h.os,h.tape,h.output,h.size,λ b a h1 _ _=>h.block b a (λ e=>h1 (by injection e))⟩
theorem Fr.grown(r:Nat)(a:w.grownBy w' (hs r).b):Fr hs G cb n w w':=
 ⟨a.os,a.tape,a.output,a.size,λ b c _ d _=>a.block b c (λ e=>d r e.symm)⟩
theorem Fr.q4(h:Below w.heap.size w w'):Fr hs G cb n w w':=
 ⟨h.os,h.tape,h.output,h.size,λ b a _ _ _=>h.block b a⟩
end
section
variable {base:Nat}{w w':World}{G:Nat}{hs:Nat->ax}{cb:Nat->Nat}{s:aq}
theorem jf.js(h:jf base w G hs cb s):(hs 1).n=s.c.val.length:=by
 have h1:=h.rows.len 1;rw[show(cont hs cb s 1).length=s.c.val.length by simp[cont,sR],show nE 1=1 from rfl] at h1;omega
theorem jf.kj(h:jf base w G hs cb s):(hs 2).n=s.c.lvl.length:=by
 have h1:=h.rows.len 2;rw[show(cont hs cb s 2).length=s.c.lvl.length by simp[cont,qg],show nE 2=1 from rfl] at h1;omega
theorem jf.nM(h:jf base w G hs cb s):(hs 3).n=s.c.kB.length:=by
 have h1:=h.rows.len 3;rw[show(cont hs cb s 3).length=s.c.kB.length by simp[cont,tZ],show nE 3=1 from rfl] at h1;omega
theorem jf.kA(h:jf base w G hs cb s):(hs 4).n=s.c.av.length:=by
 have h1:=h.rows.len 4;rw[show(cont hs cb s 4).length=s.c.av.length by simp[cont,jc],show nE 4=1 from rfl] at h1;omega
theorem jf.kf(h:jf base w G hs cb s):(hs 5).n=s.c.st.length:=by
 have h1:=h.rows.len 5;rw[show(cont hs cb s 5).length=s.c.st.length by simp[cont,qg],show nE 5=1 from rfl] at h1;omega
theorem jf.n6(h:jf base w G hs cb s):(hs 6).n=s.act.length:=by
 have h1:=h.rows.len 6;rw[show(cont hs cb s 6).length=s.act.length by simp[cont,jc],show nE 6=1 from rfl] at h1;omega
theorem jf.n7(h:jf base w G hs cb s):(hs 7).n=s.ord.length:=by
 have h1:=h.rows.len 7;rw[show(cont hs cb s 7).length=s.ord.length by simp[cont,jc],show nE 7=1 from rfl] at h1;omega
theorem jf.n8(h:jf base w G hs cb s):(hs 8).n=s.pl.length:=by
 have h1:=h.rows.len 8;rw[show(cont hs cb s 8).length=s.pl.length by simp[cont,jc],show nE 8=1 from rfl] at h1;omega
theorem jf.jU(h:jf base w G hs cb s):(hs 9).n=s.hM.length:=by
 have h1:=h.rows.len 9;rw[show(cont hs cb s 9).length=s.hM.length by simp[cont,pL],show nE 9=1 from rfl] at h1;omega
theorem jf.n12(h:jf base w G hs cb s):(hs 12).n=s.aO.length:=by
 have h1:=h.rows.len 12;rw[show(cont hs cb s 12).length=s.aO.length by simp[cont,pL],show nE 12=1 from rfl] at h1;omega
end
section
variable {base:Nat}{w w':World}{G:Nat}{hs:Nat->ax}{cb:Nat->Nat}{s:aq}
theorem jf.xI(h:jf base w G hs cb s){g:Nat}(a:(hs 1).b=some g)(k:Nat)(x:Int):jf base (w.setCell ⟨g,k,none⟩ (.int .i8 x)) G hs cb (s.oR k x):=by
 refine(h.cell a k (.int .i8 x)).eq rfl rfl rfl (λ _ _=>rfl) rfl (λ r=>?_)
 by_cases e:r=1
 ·subst e;rw[jO];show(sR s.c.val).set k _=sR (s.c.val.set k x);simp[sR,q_]
 ·rw[bk _ _ e];simp only[cont,if_neg e,aq.oR,aq.rF,aq.qC,aq.wA,aq.pZ,aq.tw,aq.pM,aq.ua,aq.sU]
theorem jf.Fy(h:jf base w G hs cb s){g:Nat}(a:(hs 2).b=some g)(k:Nat)(x:Nat):jf base (w.setCell ⟨g,k,none⟩ (.int .i64 (x:Int))) G hs cb (s.rF k x):=by
 refine(h.cell a k (.int .i64 (x:Int))).eq rfl rfl rfl (λ _ _=>rfl) rfl (λ r=>?_)
 by_cases e:r=2
 ·subst e;rw[jO];show(qg s.c.lvl).set k _=qg (s.c.lvl.set k x);simp[qg,q_]
 ·rw[bk _ _ e];simp only[cont,if_neg e,aq.oR,aq.rF,aq.qC,aq.wA,aq.pZ,aq.tw,aq.pM,aq.ua,aq.sU]
theorem jf.zI(h:jf base w G hs cb s){g:Nat}(a:(hs 3).b=some g)(k:Nat)(x:Option Nat):jf base (w.setCell ⟨g,k,none⟩ (qM cb x)) G hs cb (s.qC k x):=by
 refine(h.cell a k (qM cb x)).eq rfl rfl rfl (λ _ _=>rfl) rfl (λ r=>?_)
 by_cases e:r=3
 ·subst e;rw[jO];show(tZ cb s.c.kB).set k _=tZ cb (s.c.kB.set k x);simp[tZ,q_]
 ·rw[bk _ _ e];simp only[cont,if_neg e,aq.oR,aq.rF,aq.qC,aq.wA,aq.pZ,aq.tw,aq.pM,aq.ua,aq.sU]
theorem jf.Bc(h:jf base w G hs cb s){g:Nat}(a:(hs 6).b=some g)(k:Nat)(x:Int):jf base (w.setCell ⟨g,k,none⟩ (.int .i64 x)) G hs cb (s.pZ k x):=by
 refine(h.cell a k (.int .i64 x)).eq rfl rfl rfl (λ _ _=>rfl) rfl (λ r=>?_)
 by_cases e:r=6
 ·subst e;rw[jO];show(jc s.act).set k _=jc (s.act.set k x);simp[jc,q_]
 ·rw[bk _ _ e];simp only[cont,if_neg e,aq.oR,aq.rF,aq.qC,aq.wA,aq.pZ,aq.tw,aq.pM,aq.ua,aq.sU]
theorem jf.Fz(h:jf base w G hs cb s){g:Nat}(a:(hs 7).b=some g)(k:Nat)(x:Int):jf base (w.setCell ⟨g,k,none⟩ (.int .i64 x)) G hs cb (s.tw k x):=by
 refine(h.cell a k (.int .i64 x)).eq rfl rfl rfl (λ _ _=>rfl) rfl (λ r=>?_)
 by_cases e:r=7
 ·subst e;rw[jO];show(jc s.ord).set k _=jc (s.ord.set k x);simp[jc,q_]
 ·rw[bk _ _ e];simp only[cont,if_neg e,aq.oR,aq.rF,aq.qC,aq.wA,aq.pZ,aq.tw,aq.pM,aq.ua,aq.sU]
theorem jf.xJ(h:jf base w G hs cb s){g:Nat}(a:(hs 8).b=some g)(k:Nat)(x:Int):jf base (w.setCell ⟨g,k,none⟩ (.int .i64 x)) G hs cb (s.pM k x):=by
 refine(h.cell a k (.int .i64 x)).eq rfl rfl rfl (λ _ _=>rfl) rfl (λ r=>?_)
 by_cases e:r=8
 ·subst e;rw[jO];show(jc s.pl).set k _=jc (s.pl.set k x);simp[jc,q_]
 ·rw[bk _ _ e];simp only[cont,if_neg e,aq.oR,aq.rF,aq.qC,aq.wA,aq.pZ,aq.tw,aq.pM,aq.ua,aq.sU]
theorem jf.zJ(h:jf base w G hs cb s){g:Nat}(a:(hs 9).b=some g)(k:Nat)(x:Bool):jf base (w.setCell ⟨g,k,none⟩ (.bool x)) G hs cb (s.ua k x):=by
 refine(h.cell a k (.bool x)).eq rfl rfl rfl (λ _ _=>rfl) rfl (λ r=>?_)
 by_cases e:r=9
 ·subst e;rw[jO];show(pL s.hM).set k _=pL (s.hM.set k x);simp[pL,q_]
 ·rw[bk _ _ e];simp only[cont,if_neg e,aq.oR,aq.rF,aq.qC,aq.wA,aq.pZ,aq.tw,aq.pM,aq.ua,aq.sU]
theorem jf.wG(h:jf base w G hs cb s){g:Nat}(a:(hs 12).b=some g)(k:Nat)(x:Bool):jf base (w.setCell ⟨g,k,none⟩ (.bool x)) G hs cb (s.sU k x):=by
 refine(h.cell a k (.bool x)).eq rfl rfl rfl (λ _ _=>rfl) rfl (λ r=>?_)
 by_cases e:r=12
 ·subst e;rw[jO];show(pL s.aO).set k _=pL (s.aO.set k x);simp[pL,q_]
 ·rw[bk _ _ e];simp only[cont,if_neg e,aq.oR,aq.rF,aq.qC,aq.wA,aq.pZ,aq.tw,aq.pM,aq.ua,aq.sU]
end
section
variable {base:Nat}{w w':World}{G:Nat}{hs:Nat->ax}{cb:Nat->Nat}{gm:List Value}{cls:Nat->List Value}{n:Nat}{X:Nat->List Value}
theorem kr.lV(h:kr base w G hs cb gm cls n X)(k r:Nat){m:Nat}(hk:gm[k]? =some (hs r).v)(d:(hs r).n=m)(e:m≠0):
  ∃g,(hs r).b=some g/\w.cell? ⟨G,k,none⟩=some (.slice (some ⟨g,0,none⟩) m (hs r).c)/\∀j,w.frozen? ⟨g,j,none⟩=false:=by
 obtain⟨g,h1,a,f⟩:=h.wF (r:=r) d e;exact⟨g,a,by rw[<-f];exact h.kJ hk,λ j=>h.rows.free a j⟩
theorem kr.free(h:kr base w G hs cb gm cls n X)(k:Nat):w.frozen? ⟨G,k,none⟩=false:=h.box.free k
theorem kr.wH(h:kr base w G hs cb gm cls n X){r r' g mZ:Nat}(a:r≠r')(h1:(hs r).b=some g)(c:(hs r').b=some mZ):g≠mZ:=λ e=>by
 subst e;exact h.rows.apart r r' g a h1 c
end
section
variable {base:Nat}{w w':World}{G:Nat}{hs:Nat->ax}{cb:Nat->Nat}{s:aq}
theorem jf.zK(h:jf base w G hs cb s){g:Nat}(a:(hs 1).b=some g){k:Nat}(hk:k<s.c.val.length):w.cell? ⟨g,k,none⟩=some (.int .i8 (aj s.c.val k)):=h.get a (by
 show(sR s.c.val)[k]? =_;rw[ng hk];simp[sR,hk])
theorem jf.vF(h:jf base w G hs cb s){g:Nat}(a:(hs 2).b=some g){k:Nat}(hk:k<s.c.lvl.length):w.cell? ⟨g,k,none⟩=some (.int .i64 (gZ s.c.lvl k:Int)):=h.get a (by
 show(qg s.c.lvl)[k]? =_;rw[va hk];simp[qg,hk])
theorem jf.yy(h:jf base w G hs cb s){g:Nat}(a:(hs 3).b=some g){k:Nat}(hk:k<s.c.kB.length):w.cell? ⟨g,k,none⟩=some (qM cb (mz s.c.kB k)):=h.get a (by
 show(tZ cb s.c.kB)[k]? =_;rw[Fg hk];simp[tZ,hk])
theorem jf.zL(h:jf base w G hs cb s){g:Nat}(a:(hs 4).b=some g){k:Nat}(hk:k<s.c.av.length):w.cell? ⟨g,k,none⟩=some (.int .i64 (aj s.c.av k)):=h.get a (by
 show(jc s.c.av)[k]? =_;rw[ng hk];simp[jc,hk])
theorem jf.FA(h:jf base w G hs cb s){g:Nat}(a:(hs 5).b=some g){k:Nat}(hk:k<s.c.st.length):w.cell? ⟨g,k,none⟩=some (.int .i64 (gZ s.c.st k:Int)):=h.get a (by
 show(qg s.c.st)[k]? =_;rw[va hk];simp[qg,hk])
theorem jf.yz(h:jf base w G hs cb s){g:Nat}(a:(hs 6).b=some g){k:Nat}(hk:k<s.act.length):w.cell? ⟨g,k,none⟩=some (.int .i64 (aj s.act k)):=h.get a (by
 show(jc s.act)[k]? =_;rw[ng hk];simp[jc,hk])
theorem jf.xK(h:jf base w G hs cb s){g:Nat}(a:(hs 7).b=some g){k:Nat}(hk:k<s.ord.length):w.cell? ⟨g,k,none⟩=some (.int .i64 (aj s.ord k)):=h.get a (by
 show(jc s.ord)[k]? =_;rw[ng hk];simp[jc,hk])
theorem jf.wI(h:jf base w G hs cb s){g:Nat}(a:(hs 8).b=some g){k:Nat}(hk:k<s.pl.length):w.cell? ⟨g,k,none⟩=some (.int .i64 (aj s.pl k)):=h.get a (by
 show(jc s.pl)[k]? =_;rw[ng hk];simp[jc,hk])
theorem jf.FB(h:jf base w G hs cb s){g:Nat}(a:(hs 9).b=some g){k:Nat}(hk:k<s.hM.length):w.cell? ⟨g,k,none⟩=some (.bool (iE s.hM k)):=h.get a (by
 show(pL s.hM)[k]? =_;simp[pL,iE,hk,w_])
theorem jf.zM(h:jf base w G hs cb s){g:Nat}(a:(hs 12).b=some g){k:Nat}(hk:k<s.aO.length):w.cell? ⟨g,k,none⟩=some (.bool (iE s.aO k)):=h.get a (by
 show(pL s.aO)[k]? =_;simp[pL,iE,hk,w_])
end
end
section
open Go.RowKit Go.Shelf
theorem vG(hs:Nat->ax)(cb:Nat->Nat)(s:aq){l6:Nat}(a:l6<13)(h':ax)(r:Nat):cont (iT hs l6 h') cb s r=cont hs cb s r:=by
 unfold cont;have:∀k,iT hs l6 h' (iF k)=hs (iF k):=λ k=>bk _ _ (by unfold iF;omega)
 simp only[this]
theorem vH(hs:Nat->ax)(s:aq){l6:Nat}(a:l6<13)(h':ax)(d:Nat):tv (iT hs l6 h') s d=tv hs s d:=by
 unfold tv;rw[bk _ _ (by unfold kI;omega)]
section
variable {base:Nat}{w bM:World}{G:Nat}{hs:Nat->ax}{cb:Nat->Nat}{s:aq}
theorem kr.q5{gm:List Value}{cls:Nat->List Value}{n:Nat}{X:Nat->List Value}(h:kr base w G hs cb gm cls n X)(k:Nat){r g m:Nat}(a:(hs r).b=some g)(d:(hs r).n=m)(hk:gm[k]? =some (hs r).v):w.cell? ⟨G,k,none⟩=some (.slice (some ⟨g,0,none⟩) m (hs r).c):=by
 rw[h.kJ hk];unfold ax.v;rw[(h.rows.form a).1,d]
theorem kr.after{gm:List Value}{cls:Nat->List Value}{n:Nat}{X:Nat->List Value}(h:kr base w G hs cb gm cls n X){r:Nat}(a:w.grownBy bM (hs r).b)(k:Nat):bM.cell? ⟨G,k,none⟩=w.cell? ⟨G,k,none⟩/\bM.frozen? ⟨G,k,none⟩=false:=by
 have hk:=h.box.kept a (λ e=>h.uc r G e.symm rfl);exact⟨by rw[hk.cell,h.box.cell],hk.free k⟩
theorem jf.FC(h:jf base w G hs cb s){v':Value}{x:Int}(l:nj w base 3 (hs 4).v (s.c.av.length+1) ((s.c.av++[x]).map (Value.int .i64)) v' bM):
  ∃(A':Option Addr)(c':Nat),v'=.slice A' (s.c.av.length+1) c'/\((ax.mk A' (s.c.av.length+1) c').b=(hs 4).b\/(ax.mk A' (s.c.av.length+1) c').b=some w.heap.size)/\bM.cell? ⟨G,5,none⟩=some (hs 4).v/\bM.frozen? ⟨G,5,none⟩=false/\
   jf base (bM.setCell ⟨G,5,none⟩ v') G (iT hs 4 ⟨A',s.c.av.length+1,c'⟩) cb (s.yt x)/\Fr hs G cb s.c.cl.length w (bM.setCell ⟨G,5,none⟩ v'):=by
 obtain⟨i,f,a⟩:=l;obtain⟨h',rfl,j⟩:=ax.kW i;rw[ax.own] at f a;rw[ax.own] at a;obtain⟨a1,a2⟩:=h.after f 5;have m:=h.ja (r:=4) (h':=h') f (by rw[j];exact i) (a.imp id (λ e g f=>by rw[e] at f;injection f with f;omega));have n:=m.field 5 h'.v;obtain⟨A',o,c'⟩:=h';obtain rfl:o=_:=j;refine⟨A',c',rfl,a,by rw[a1];exact h.kJ rfl,a2,?_,?_⟩
 ·refine n.eq rfl rfl rfl (λ d _=>(vH hs s (by omega) _ d).symm) rfl (λ r=>?_);rw[vG hs cb _ (by omega)]
  by_cases e:r=4
  ·subst e;rw[jO];rfl
  ·rw[bk _ _ e];simp only[cont,if_neg e,aq.yt]
 ·refine(Fr.grown 4 f).then (hs':=iT hs 4 ⟨A',s.c.av.length+1,c'⟩) (Fr.kJ 5 _) (λ r g e=>?_)
  by_cases k:r=4
  ·subst k;rw[jO] at e;rcases a with a|a
   ·exact k_ ⟨4,a▸e⟩
   ·rw[a] at e;injection e with e;exact Or.inr (by omega)
  ·rw[bk _ _ k] at e;exact k_ ⟨r,e⟩
end
end
section
open Go.RowKit Go.Shelf
theorem bz(w:World)(o:Obj):Below w.heap.size w (w.alloc o):=(r_ _ _).alloc (x_ _) _
def J8(base:Nat)(w:World)(G:Nat)(hs:Nat->ax)(cb:Nat->Nat)(s:aq)(x:Int)(o:Option Nat)(e:Ending)(w':World):Prop:=
 e=.returned (.tuple #[])/\∃h':ax,jf base w' G (iT hs 4 h') cb {s with c:=lp s.c x o}/\Fr hs G cb s.c.cl.length w w'/\(h'.b=(hs 4).b\/∃g,h'.b=some g/\w.heap.size<=g)
theorem J9(h:jf base w G hs cb s)(S:base<=w.heap.size)(x:Int)(o:Option Nat)
  (F:aC x<s.c.val.length) (z2:aC x<s.c.lvl.length) (z3:aC x<s.c.kB.length) (T:aC x<=65536) (ai:s.c.av.length<=1000000) (aj:s.c.st.length<=1000000):
  Calls p_ 156 #[.pointer (some ⟨G,0,none⟩),.int .i64 x,qM cb o] w (J8 base w G hs cb s x o):=by
 obtain⟨g1,H,C,f1⟩:=h.lV 2 1 rfl h.js (by omega);obtain⟨g2,V,W,f2⟩:=h.lV 3 2 rfl h.kj (by omega);obtain⟨g3,X,y,f3⟩:=h.lV 4 3 rfl h.nM (by omega);obtain⟨m,hm⟩:∃m:Nat,aC x=m:=⟨_,rfl⟩
 have ak: -65536<=x/\x<=65536:=by unfold aC at T;omega
 obtain⟨pa,I⟩:∃pa,qM cb o=.pointer pa:=by cases o with|none=>exact⟨_,rfl⟩|some d=>exact⟨_,rfl⟩
 rw[I];have Y:=U I;clear I;have aa:(hs 5).n=s.c.st.length:=h.kf;have g:=U h;have c1:=h.zK H (k:=m) (by rw[<-hm];exact F);have D:=U hm;have Z:=U (z_ F (z_ z2 z3));have al:(m:Int)<(s.c.val.length:Int):=by omega
 have af:m<s.c.val.length:=by omega
 have ab:m<s.c.lvl.length:=by omega
 have ad:m<s.c.kB.length:=by omega
 have an:(m:Int)<(s.c.lvl.length:Int):=by omega
 have ao:(m:Int)<(s.c.kB.length:Int):=by omega
 have E:=f1 m;have q:=U H;have j:=U V;have l:=U X;have ar:=U f1;have ae:=U S;clear h H V X f1 f2 f3 hm F z2 z3 T S
 by_cases ag:x<0
 ·go_enter Tryz.func156,Tryz.ntmps156
  go_upto_region 1 with(go_at_call 97;refine(sV x _ (by omega) (by omega)).mono ?_;rintro e w1 ⟨rfl,rfl⟩;rw[D.o])
  go_upto_region 2 with fail
  have z:=U (g.o.xI q.o m 1);generalize f:w.setCell ⟨g1,m,none⟩ (.int .i8 1)=w1 at z;have ah:bJ (Fr hs G cb s.c.cl.length w w1):=U (f▸Fr.cell 1 g1 m _ q.o);clear f C W y c1 E;have C:=z.o.q5 2 q.o (show(hs 1).n=s.c.val.length from g.o.js) rfl;have c1:=z.o.zK q.o (k:=m) (by show m<(s.c.val.set m 1).length;rw[y_];exact af);have E:w1.frozen? ⟨g1,m,none⟩=false:=z.o.rows.free q.o m
  go_upto_region 4 with fail
  have a:bJ (jf base (w1.setCell ⟨g1,m,none⟩ (.int .i8 (-1))) G hs cb (s.oR m (-1))):=U (by
   have:=z.o.xI q.o m (-1)
   rwa[show(s.oR m 1).oR m (-1)=s.oR m (-1) by simp[aq.oR,List.set_set]] at this)
  generalize f:w1.setCell ⟨g1,m,none⟩ (.int .i8 (-1))=i at a;have J:bJ (Fr hs G cb s.c.cl.length w i):=U (ah.o.trans (f▸Fr.cell 1 g1 m _ q.o));clear f C c1 E;have y:=a.o.q5 3 j.o (show(hs 2).n=s.c.lvl.length from g.o.kj) rfl;have K:=a.o.q5 4 l.o (show(hs 3).n=s.c.kB.length from g.o.nM) rfl;have L:i.cell? ⟨G,6,none⟩=some (.slice (hs 5).A s.c.st.length (hs 5).c):=by rw[<-aa];exact a.o.kJ rfl
  have c2:=a.o.vF j.o (k:=m) ab;have c3:=a.o.yy l.o (k:=m) ad;have M:i.frozen? ⟨g2,m,none⟩=false:=a.o.rows.free j.o m;have N:i.frozen? ⟨g3,m,none⟩=false:=a.o.rows.free l.o m;have n23:g2≠g3:=a.o.wH (r:=2) (r':=3) (by omega) j.o l.o;have n32:g3≠g2:=λ e=>n23 e.symm
  go_wp2_with fail
  go_region
  have t:bJ (jf base ((i.setCell ⟨g2,m,none⟩ (.int .i64 (s.c.st.length:Int))).setCell ⟨g3,m,none⟩ (.pointer pa)).drew G hs cb (((s.oR m (-1)).rF m s.c.st.length).qC m o)):=U (by
   have:=((a.o.Fy j.o m s.c.st.length).zI l.o m o).below (r_ _ _).drew
   rwa[Y.o] at this)
  generalize f:((i.setCell ⟨g2,m,none⟩ (.int .i64 (s.c.st.length:Int))).setCell ⟨g3,m,none⟩ (.pointer pa)).drew=b at t;have u:bJ (Fr hs G cb s.c.cl.length w b):=U (J.o.trans (f▸((Fr.cell 2 g2 m _ j.o).trans (Fr.cell 3 g3 m _ l.o)).trans (Fr.q4 (r_ _ _).drew)));clear f y K L c2 c3 M N n23 n32;have O:b.cell? ⟨G,5,none⟩=some (.slice (hs 4).A s.c.av.length (hs 4).c):=by rw[<-(show(hs 4).n=s.c.av.length from g.o.kA)];exact t.o.kJ rfl
  go_wp2_with (at_builtin;refine qS rfl (.tmp 45) (.tmp 47) rfl base (.slice (hs 4).A s.c.av.length (hs 4).c) s.c.av.length s.c.av rfl (by have:=(t.o.below (bz b (.cells #[.int .i64 x] 3))).rows.row 4;rw[ax.v,g.o.kA] at this;exact this) (some ⟨b.heap.size,0,none⟩) 1 1 [x] rfl (aL.lit b [x] 1 _ rfl rfl (by omega)) (by omega) (by have:=u.o.size;have:=ae.o;simp;omega) ?_;intro v9 bM B;obtain⟨A',c',rfl,p,O,f5,P,Q⟩:=jf.FC (s:=((s.oR m (-1)).rF m s.c.st.length).qC m o) (x:=x) (t.o.below (bz b (.cells #[.int .i64 x] 3))) (by rw[show(hs 4).v=.slice (hs 4).A s.c.av.length (hs 4).c by rw[ax.v,g.o.kA]];exact B);clear B)
  go_end0;refine⟨rfl,⟨A',s.c.av.length+1,c'⟩,?_,(u.o.trans (Fr.q4 (bz b _))).trans Q,?_⟩
  ·have e:(((s.oR m (-1)).rF m s.c.st.length).qC m o).yt x={s with c:=lp s.c x o}:=by
    have R:vA x= -1:=by unfold vA;rw[if_pos ag]
    simp only[aq.oR,aq.rF,aq.qC,aq.yt,lp,D.o,R]
   rw[<-e];exact P
  ·rcases p with p|p
   ·exact k_ p
   ·exact Or.inr ⟨_,p,by have:=u.o.size;simp;omega⟩
 ·go_enter Tryz.func156,Tryz.ntmps156
  go_upto_region 1 with(go_at_call 97;refine(sV x _ (by omega) (by omega)).mono ?_;rintro e w1 ⟨rfl,rfl⟩;rw[D.o])
  go_upto_region 2 with fail
  have a:=U (g.o.xI q.o m 1);generalize f:w.setCell ⟨g1,m,none⟩ (.int .i8 1)=i at a;have J:bJ (Fr hs G cb s.c.cl.length w i):=U (f▸Fr.cell 1 g1 m _ q.o);clear f C W y c1 E;have y:=a.o.q5 3 j.o (show(hs 2).n=s.c.lvl.length from g.o.kj) rfl;have K:=a.o.q5 4 l.o (show(hs 3).n=s.c.kB.length from g.o.nM) rfl;have L:i.cell? ⟨G,6,none⟩=some (.slice (hs 5).A s.c.st.length (hs 5).c):=by rw[<-aa];exact a.o.kJ rfl
  have c2:=a.o.vF j.o (k:=m) ab;have c3:=a.o.yy l.o (k:=m) ad;have M:i.frozen? ⟨g2,m,none⟩=false:=a.o.rows.free j.o m;have N:i.frozen? ⟨g3,m,none⟩=false:=a.o.rows.free l.o m;have n23:g2≠g3:=a.o.wH (r:=2) (r':=3) (by omega) j.o l.o;have n32:g3≠g2:=λ e=>n23 e.symm
  go_wp2_with fail
  go_region
  have t:bJ (jf base ((i.setCell ⟨g2,m,none⟩ (.int .i64 (s.c.st.length:Int))).setCell ⟨g3,m,none⟩ (.pointer pa)).drew G hs cb (((s.oR m 1).rF m s.c.st.length).qC m o)):=U (by
   have:=((a.o.Fy j.o m s.c.st.length).zI l.o m o).below (r_ _ _).drew
   rwa[Y.o] at this)
  generalize f:((i.setCell ⟨g2,m,none⟩ (.int .i64 (s.c.st.length:Int))).setCell ⟨g3,m,none⟩ (.pointer pa)).drew=b at t;have u:bJ (Fr hs G cb s.c.cl.length w b):=U (J.o.trans (f▸((Fr.cell 2 g2 m _ j.o).trans (Fr.cell 3 g3 m _ l.o)).trans (Fr.q4 (r_ _ _).drew)));clear f y K L c2 c3 M N n23 n32;have O:b.cell? ⟨G,5,none⟩=some (.slice (hs 4).A s.c.av.length (hs 4).c):=by rw[<-(show(hs 4).n=s.c.av.length from g.o.kA)];exact t.o.kJ rfl
  go_wp2_with (at_builtin;refine qS rfl (.tmp 45) (.tmp 47) rfl base (.slice (hs 4).A s.c.av.length (hs 4).c) s.c.av.length s.c.av rfl (by have:=(t.o.below (bz b (.cells #[.int .i64 x] 3))).rows.row 4;rw[ax.v,g.o.kA] at this;exact this) (some ⟨b.heap.size,0,none⟩) 1 1 [x] rfl (aL.lit b [x] 1 _ rfl rfl (by omega)) (by omega) (by have:=u.o.size;have:=ae.o;simp;omega) ?_;intro v9 bM B;obtain⟨A',c',rfl,p,O,f5,P,Q⟩:=jf.FC (s:=((s.oR m 1).rF m s.c.st.length).qC m o) (x:=x) (t.o.below (bz b (.cells #[.int .i64 x] 3))) (by rw[show(hs 4).v=.slice (hs 4).A s.c.av.length (hs 4).c by rw[ax.v,g.o.kA]];exact B);clear B)
  go_end0;refine⟨rfl,⟨A',s.c.av.length+1,c'⟩,?_,(u.o.trans (Fr.q4 (bz b _))).trans Q,?_⟩
  ·have e:(((s.oR m 1).rF m s.c.st.length).qC m o).yt x={s with c:=lp s.c x o}:=by
    have R:vA x=1:=by unfold vA;rw[if_neg (by omega)]
    simp only[aq.oR,aq.rF,aq.qC,aq.yt,lp,D.o,R]
   rw[<-e];exact P
  ·rcases p with p|p
   ·exact k_ p
   ·exact Or.inr ⟨_,p,by have:=u.o.size;simp;omega⟩
end
section
open Go.RowKit Go.Shelf
structure Sep(K:Nat->Prop)(w:World)(G:Nat)(hs:Nat->ax)(cb:Nat->Nat)(n:Nat):Prop where
 lt:∀b,K b->b<w.heap.size
 g:¬K G
 row:∀r b,(hs r).b=some b->¬K b
 cl:∀d,d<n->¬K (cb d)
structure aG(K:Nat->Prop)(w w':World):Prop where
 os:w'.os=w.os
 tape:w'.tape=w.tape
 output:w'.output=w.output
 size:w.heap.size<=w'.heap.size
 keep:∀b,K b->w'.heap[b]? =w.heap[b]?
def qD(K:Nat->Prop)(a:Nat):Nat->Prop:=λ b=>K b\/b=a
section
variable {base:Nat}{w w' w1:World}{G:Nat}{hs hs':Nat->ax}{cb:Nat->Nat}{gm:List Value}{cls:Nat->List Value}{n:Nat}{X:Nat->List Value}{K k9:Nat->Prop}
theorem aG.refl:aG K w w:=⟨rfl,rfl,rfl,x_ _,λ _ _=>rfl⟩
theorem aG.trans(h:aG K w w1)(h':aG K w1 w'):aG K w w':=
 ⟨h'.os.trans h.os,h'.tape.trans h.tape,h'.output.trans h.output,l_ h.size h'.size,λ b a=>(h'.keep b a).trans (h.keep b a)⟩
theorem aG.mono(h:aG K w w')(hk:∀b,k9 b->K b):aG k9 w w':=⟨h.os,h.tape,h.output,h.size,λ b a=>h.keep b (hk b a)⟩
theorem aG.q4(h:Below w.heap.size w w')(hl:∀b,K b->b<w.heap.size):aG K w w':=⟨h.os,h.tape,h.output,h.size,λ b a=>h.block b (hl b a)⟩
theorem aG.cell(h:aG K w w'){p:Addr}(hk:K p.block):w'.cell? p=w.cell? p:=World.cell?_of_block (h.keep p.block hk)
theorem aG.blk(h:aG K w w'){b:Nat}{t:TypeId}{cs:List Value}(a:aT w b t cs)(hk:K b):aT w' b t cs:=(h.keep b hk).trans a
theorem aG.set(b k:Nat)(v:Value)(hk:¬K b):aG K w (w.setCell ⟨b,k,none⟩ v):=by
 have h:=k8 w b k v;refine⟨h.os,h.tape,h.output,h.size,λ c a=>?_⟩;exact Below.heap_setCell _ _ _ _ (λ e=>hk (by have d:c=b:=e;rw[<-d];exact a))
theorem aG.grown{row:Option Nat}(h:w.grownBy w' row)(hl:∀b,K b->b<w.heap.size)(c:∀b,row=some b->¬K b):aG K w w':=
 ⟨h.os,h.tape,h.output,h.size,λ b a=>h.block b (hl b a) (λ e=>c b e.symm a)⟩
theorem aG.FD(h:Fr hs G cb n w w')(s:Sep K w G hs cb n):aG K w w':=
 ⟨h.os,h.tape,h.output,h.size,λ b a=>h.keep b (s.lt b a) (λ e=>s.g (e▸a)) (λ r e=>s.row r b e a) (λ d c e=>s.cl d c (e▸a))⟩
theorem Sep.more(s:Sep K w G hs cb n)(h:w.heap.size<=w'.heap.size):Sep K w' G hs cb n:=⟨λ b aa=>m_ (s.lt b aa) h,s.g,s.row,s.cl⟩
theorem Sep.mono(s:Sep K w G hs cb n)(hk:∀b,k9 b->K b):Sep k9 w G hs cb n:=⟨λ b aa=>s.lt b (hk b aa),λ h=>s.g (hk _ h),λ r b h aa=>s.row r b h (hk _ aa),λ d a h=>s.cl d a (hk _ h)⟩
theorem Sep.ja(s:Sep K w G hs cb n){r:Nat}{h':ax}(aa:∀g,h'.b=some g->¬K g):Sep K w G (iT hs r h') cb n:=
 ⟨s.lt,s.g,λ r' b e=>by
  by_cases a:r'=r
  ·subst a;rw[jO] at e;exact aa b e
  ·rw[bk _ _ a] at e;exact s.row r' b e,s.cl⟩
theorem Sep.aa(s:Sep K w G hs cb n){r:Nat}{h':ax}(aa:h'.b=(hs r).b\/∃g,h'.b=some g/\w.heap.size<=g):∀g,h'.b=some g->¬K g:=by
 intro g e hk;rcases aa with aa|⟨a,aa,hle⟩
 ·exact s.row r g (aa▸e) hk
 ·rw[aa] at e;injection e with e;subst e;have:=s.lt _ hk;omega
theorem kr.lt(h:kr base w G hs cb gm cls n X):base<w.heap.size:=by have:=h.qX;have:=h.box.lt;omega
theorem oS{e:TypeId}{size:Nat}{v:Value}{k cI:Nat}{xs:List Value}(h:w.ownsRow cI e size v k xs)(a:∀b,v.ownBlock=some b->w'.heap[b]? =w.heap[b]?):w'.ownsRow cI e size v k xs:=by
 refine⟨h.1,h.2.imp id ?_⟩;rintro⟨g,cap,cur,rfl,h1,c,d⟩;exact⟨g,cap,cur,rfl,h1,(a g rfl).trans c,d⟩
theorem yA{e:TypeId}{size:Nat}{v:Value}{k cI aQ:Nat}{xs:List Value}(h:w.ownsRow cI e size v k xs)(a:aQ<=cI):w.ownsRow aQ e size v k xs:=by
 refine⟨h.1,h.2.imp id ?_⟩;rintro⟨g,cap,cur,rfl,h1,b⟩;exact⟨g,cap,cur,rfl,l_ a h1,b⟩
theorem kr.app(h:kr base w G hs cb gm cls n X)(s:Sep K w G hs cb n){r m:Nat}{v':Value}{ys:List Value}(d:w'.ownsRow base (qL r) (nE r) v' m ys)(a:w.grownBy w' (hs r).v.ownBlock)(aa:v'.ownBlock=(hs r).v.ownBlock\/v'.ownBlock=some w.heap.size):
  ∃h':ax,v'=h'.v/\h'.n=m/\kr base w' G (iT hs r h') cb gm cls n (iT X r ys)/\Sep K w' G (iT hs r h') cb n/\aG K w w':=by
 obtain⟨h',rfl,rfl⟩:=ax.kW d;rw[ax.own] at a aa;rw[ax.own] at aa;have f:h'.b=(hs r).b\/∃g,h'.b=some g/\w.heap.size<=g:=aa.imp id (λ e=>⟨_,e,x_ _⟩);refine⟨h',rfl,rfl,h.ja a d (f.imp id (λ⟨g,e,hle⟩ i c=>by rw[e] at c;injection c with c;omega)),(s.ja (s.aa f)).more a.size,aG.grown a s.lt (λ b e=>s.row r b e)⟩
theorem kr.J'(h:kr base w G hs cb gm cls n X){r:Nat}{h':ax}{ys:List Value}(k:w.ownsRow base (qL r) (nE r) h'.v h'.n ys)(d:∀g,h'.b=some g->∀r',(hs r').b≠some g):
  kr base w G (iT hs r h') cb gm cls n (iT X r ys):=by
 refine⟨h.box,⟨λ r'=>?_,λ a c g f h1=>?_⟩,h.cls,h.inj,h.qX,h.rE⟩
 ·by_cases e:r'=r
  ·subst e;rw[jO,jO];exact k
  ·rw[bk _ _ e,bk _ _ e];exact h.rows.row r'
 ·by_cases i:a=r
  ·subst i;rw[jO] at h1;rw[bk _ _ (λ e=>f e.symm)];exact d g h1 c
  ·rw[bk _ _ i] at h1
   by_cases j:c=r
   ·subst j;rw[jO];exact λ l=>d g l a h1
   ·rw[bk _ _ j];exact h.rows.apart a c g f h1
end
structure aY(K:Nat->Prop)(base:Nat)(w:World)(G:Nat)(hs:Nat->ax)(cb:Nat->Nat)(s:aq):Prop where
 e:jf base w G hs cb s
 s:Sep K w G hs cb s.c.cl.length
section
variable {base:Nat}{w w' w1:World}{G:Nat}{hs hs':Nat->ax}{cb:Nat->Nat}{s:aq}{K k9:Nat->Prop}
theorem aY.below(h:aY K base w G hs cb s)(a:Below w.heap.size w w'):aY K base w' G hs cb s/\aG K w w':=⟨⟨h.e.below a,h.s.more a.size⟩,aG.q4 a h.s.lt⟩
theorem aY.mB{s':aq}(h:aY K base w G hs cb s)(e:jf base w' G hs cb s')(a:s'.c.cl.length=s.c.cl.length)(f:Fr hs G cb s.c.cl.length w w'):aY K base w' G hs cb s'/\aG K w w':=⟨⟨e,by rw[a];exact h.s.more f.size⟩,.FD f h.s⟩
theorem aY.Bd(h:aY K base w G hs cb s)(hk:∀b,k9 b->K b):aY k9 base w G hs cb s:=⟨h.e,h.s.mono hk⟩
end
end
section
def o9(c:Core)(l:List Int)(both:Bool):Core:=
 if both=true then c
 else if l.length=0 then wu c
 else if l.length=1 then
  if j9 c (aj l 0)= -1 then wu (kF c l)
  else if j9 c (aj l 0)=0 then lp (kF c l) (aj l 0) (some c.cl.length)
  else kF c l
 else kF c l
theorem imp_nil{F:List (List Int)}(h:rq F []):Unsat F:=λ M a=>by
 obtain⟨x,b,_⟩:=h M a
 cases b
theorem Ka(c:Core)(l:List Int)(b:Bool):(o9 c l b).n=c.n:=by
 unfold o9;repeat (first|rfl|split)
theorem Kb(c:Core)(l:List Int)(b:Bool):(o9 c l b).st=c.st:=by
 unfold o9;repeat (first|rfl|split)
theorem Kc(c:Core)(l:List Int)(b:Bool):(o9 c l b).ag=c.ag:=by
 unfold o9;repeat (first|rfl|split)
theorem Be(c:Core)(l:List Int)(b:Bool):(o9 c l b).cl=if b=true\/l.length=0 then c.cl else c.cl++[l]:=by
 unfold o9
 by_cases h:b=true
 ·rw[if_pos h,if_pos (k_ h)]
 ·rw[if_neg h]
  by_cases a:l.length=0
  ·rw[if_pos a,if_pos (Or.inr a)];rfl
  ·rw[if_neg a,if_neg (c:=b=true\/l.length=0) (λ g=>g.elim h a)]
   by_cases d:l.length=1
   ·rw[if_pos d]
    by_cases e:j9 c (aj l 0)= -1
    ·rw[if_pos e];rfl
    ·rw[if_neg e]
     by_cases f:j9 c (aj l 0)=0
     ·rw[if_pos f];rfl
     ·rw[if_neg f];rfl
   ·rw[if_neg d];rfl
section
variable {F Fd:List (List Int)}{c:Core}{l:List Int}
theorem kC.take{h:Nat}{g:List Int}{both:Bool}(L:kC F Fd c h [])(hs:c.st=[])(E:h=0)(hl:both=false->l≠ []->oD c.n l)(f:both=false->rq F l)(o:∀x,x∈l↔x∈g)(G:both=true->u9 g):
  kC F (Fd++[g]) (o9 c l both) h []:=by
 have T:=L.aK;have B:∀i,lE c.st i=0:=λ i=>by rw[hs];rfl
 have H:c.st.length=0:=by rw[hs];rfl
 unfold o9
 by_cases p:both=true
 ·rw[if_pos p];exact L.more (Or.inr (k_ (G p)))
 ·rw[if_neg p];have d:both=false:=by simpa using p
  by_cases q:l.length=0
  ·rw[if_pos q];have:l=[]:=List.eq_nil_of_length_eq_zero q;have hu:Unsat F:=imp_nil (by have:=f d;rwa[‹l=[]›] at this);exact(L.Fo hu).more (k_ rfl)
  ·rw[if_neg q];have s:l≠ []:=λ e=>q (by rw[e];rfl)
   have ok:=hl d s;have t:2<=l.length->∀a b,(a=aj l 0/\b=aj l 1\/a=aj l 1/\b=aj l 0)-> -a∈c.av.take h->b∈c.av/\bh c b<=bh c a:=λ _ a b _ hm=>by
    rw[E] at hm;simp at hm
   have r:∀k,k<c.st.length->wj (c.av.take (gZ c.st k)) l:=λ k hk=>by omega
   by_cases h1:l.length=1
   ·rw[if_pos h1];have hm:aj l 0∈l:=lZ (by omega);have u:=ok.lt _ hm;have C:∀y∈l,y=aj l 0:=λ y m=>by
     obtain⟨k,hk,e⟩:=qf.1 m;obtain rfl:k=0:=by omega
     exact e.symm
    by_cases v:j9 c (aj l 0)= -1
    ·rw[if_pos v];have hu:Unsat F:=λ M w=>by
      obtain⟨i,z,e⟩:=qf.1 ((T.xB u).1 v);have j:=yp T L.jN w i z (B i);rw[e] at j;obtain⟨y,m,D⟩:=f d M w;rw[C y m] at D;rw[w.1 _ u.oC,D] at j
      cases j
     have I:=(L.Fo hu).new (l:=l) (g:=g) ok (f d) o t r (λ _=>k_ rfl);exact I
    ·rw[if_neg v]
     by_cases A:j9 c (aj l 0)=0
     ·rw[if_pos A];exact L.Fm ok (f d) o A (λ y m s=>absurd (C y m) s) (λ _=>H) (λ j=>by omega) r
     ·rw[if_neg A];have J:j9 c (aj l 0)=1:=by have:=T.range (aj l 0);omega
      obtain⟨i,z,e⟩:=qf.1 ((T.pos _ u).1 J);exact L.new ok (f d) o t r (λ _=>Or.inr ⟨i,z,e,B i⟩)
   ·rw[if_neg h1];exact L.new ok (f d) o t r (λ j=>absurd j h1)
end
end
section
def oT(c:Core):Prop:=∀v d,mz c.kB v=some d->d<c.cl.length
structure tA(bf c:Core):Prop where
 n:c.n=bf.n
 st:c.st=bf.st
 len:c.cl.length=bf.cl.length
 l9:c.l9=bf.l9
 Bf:c.wt.length=bf.wt.length
 av:∃e,c.av=bf.av++e
 cls:∀d x,x∈ay c.cl d↔x∈ay bf.cl d
 v0:aj c.val 0=aj bf.val 0
 qE:oT bf->oT c
theorem tA.refl(c:Core):tA c c:=⟨rfl,rfl,rfl,rfl,rfl,⟨[],by simp⟩,λ _ _=>h_,rfl,id⟩
theorem tA.trans{a b c:Core}(h:tA a b)(h':tA b c):tA a c:=
 ⟨h'.n.trans h.n,h'.st.trans h.st,h'.len.trans h.len,h'.l9.trans h.l9,h'.Bf.trans h.Bf,by
  obtain⟨e,he⟩:=h.av;obtain⟨f,g⟩:=h'.av;exact⟨e++f,by rw[g,he,List.append_assoc]⟩,λ d x=>(h'.cls d x).trans (h.cls d x),h'.v0.trans h.v0,λ w=>h'.qE (h.qE w)⟩
theorem oT.set{c:Core}(h:oT c){x:Int}(o:Option Nat)(b:∀d,o=some d->d<c.cl.length):oT (lp c x o):=by
 intro v d a;have a:mz (c.kB.set (aC x) o) v=some d:=a;show d<c.cl.length;rw[wg] at a;split at a
 ·exact b d a
 ·exact h v d a
theorem FE:∀(xs:List Int)(l:List (Option Nat))(v d:Nat),mz (sP l xs) v=some d->mz l v=some d
 |[],_,_,_,h=>h
 |x::xs,l,v,d,h=>by
  have h1:=FE xs (l.set (aC x) none) v d h;rw[wg] at h1;split at h1
  ·cases h1
  ·exact h1
theorem oT.back(h:oT c)(level:Nat):oT (mG c level):=λ v d a=>h v d (FE _ _ v d a)
theorem oT.new(h:oT c)(l:List Int):oT (kF c l):=λ v d a=>by
 show d<(c.cl++[l]).length;rw[u_];have:=h v d a;omega
theorem j6.len(T:j6 c):c.av.length<=c.n:=by
 have h:=xC (c.n+1) (0::c.av.map aC) (List.nodup_cons.2 ⟨λ h=>by
  obtain⟨x,a,e⟩:=List.mem_map.1 h;have:=(T.lit x a).1;omega,T.nc⟩) (λ v b=>by
  rcases List.mem_cons.1 b with rfl|b
  ·omega
  ·obtain⟨x,a,e⟩:=List.mem_map.1 b;have:=(T.lit x a).2;omega)
 simp at h;omega
structure nV(F Fd:List (List Int))(jS:List Int)(bf:Core)(h:Nat)(lit:Int)(list:List Nat)(i:Nat)(kept:List Nat)(c:Core):Prop where
 gR:kC F Fd c (h+1) (list.drop i)
 kL:aj c.av h=lit
 wt:ay c.wt (jM lit)=kept++list.drop i
 kl:kept.length<=i
 C7:i<=list.length
 sm:tA bf c
 ag:c.ag=h+1
 jS:nr c jS
 cur:∀k,k<c.st.length->gZ c.st k<=h
section
variable {F Fd:List (List Int)}{jS:List Int}{bf c:Core}{h:Nat}{lit:Int}{list kept:List Nat}{i:Nat}
theorem nV.start(L:kC F Fd bf h [])(A:nr bf jS)(aA:h<bf.av.length):nV F Fd jS bf h (aj bf.av h) (ay bf.wt (jM (aj bf.av h))) 0 [] {bf with ag:=h+1}:=
 ⟨by rw[g_];exact L.next aA,rfl,by simp,x_ _,Nat.zero_le _,⟨rfl,rfl,rfl,rfl,rfl,⟨[],by simp⟩,λ _ _=>h_,rfl,λ w=>w⟩,rfl,A.same rfl rfl rfl,L.cur⟩
theorem nV.q6(V:nV F Fd jS bf h lit list i kept c)(a:i<list.length):list[i]<c.cl.length/\2<=(ay c.cl list[i]).length/\(lit= -(w0 c list[i])\/lit= -(w1 c list[i])):=by
 have hm:list[i]∈ay c.wt (jM lit):=by rw[V.wt,v_ a];exact List.mem_append_right _ (List.mem_cons_self)
 obtain⟨h1,b,d⟩:=V.gR.wt.qJ _ _ hm;exact⟨h1,b,d.imp vw vw⟩
theorem nV.aA(V:nV F Fd jS bf h lit list i kept c):h<c.av.length:=V.gR.hle
theorem nV.FF(V:nV F Fd jS bf h lit list i kept c):lit∈c.av:=by rw[<-V.kL];exact lZ V.aA
theorem nV.swap(V:nV F Fd jS bf h lit list i kept c)(a:i<list.length):nV F Fd jS bf h lit list i kept (lJ c list[i] (kQ (ay c.cl list[i]) 0 1)):=by
 obtain⟨h1,b,_⟩:=V.q6 a;have hm:=wo (l:=ay c.cl list[i]) (i:=0) (j:=1) (by omega) (by omega);refine⟨V.gR.swap h1 b,V.kL,V.wt,V.kl,V.C7,V.sm.trans ⟨rfl,rfl,qU _ _ _,rfl,rfl,⟨[],by simp[lJ]⟩,λ e x=>?_,rfl,λ w v d f=>by rw[qU];exact w v d f⟩,V.ag,V.jS.same rfl rfl rfl,V.cur⟩;rw[tT];split
 ·rename_i g;rw[<-g.1];exact hm x
 ·exact h_
theorem nV.keep(V:nV F Fd jS bf h lit list i kept c)(a:i<list.length)(hw:w1 c list[i]= -lit)(b:w0 c list[i]∈c.av):nV F Fd jS bf h lit list (i+1) (kept++[list[i]]) c:=by
 obtain⟨h1,d,_⟩:=V.q6 a;have L:=V.gR;rw[v_ a] at L;refine⟨L.kept h1 d (by omega) ?_ b (λ k hk=>?_),V.kL,?_,?_,a,V.sm,V.ag,V.jS,V.cur⟩
 ·rw[t_,V.kL,hw];omega
 ·rw[t_];exact V.cur k hk
 ·rw[V.wt,v_ a];simp
 ·rw[u_,s_];have:=V.kl;omega
theorem nV.move(V:nV F Fd jS bf h lit list i kept c)(b:i<list.length)(hw:w1 c list[i]= -lit){k:Nat}(hk:2<=k)(f:k<(ay c.cl list[i]).length)(o:j9 c (aj (ay c.cl list[i]) k)≠-1):
  nV F Fd jS bf h lit list (i+1) kept (rQ c list[i] k (kept++list.drop (i+1)))/\jM (-(aj (ay c.cl list[i]) k))≠jM lit:=by
 obtain⟨h1,y,_⟩:=V.q6 b;have L:=V.gR;have T:=L.aK;have m:=L.jN.mF _ h1;have p:=m.lt _ (lZ f);have q:¬-(aj (ay c.cl list[i]) k)∈c.av:=λ a=>o ((T.xB p).2 a)
 have n:jM (-(aj (ay c.cl list[i]) k))≠jM lit:=λ e=>by
  have z:=vw e;have:aj (ay c.cl list[i]) 1=aj (ay c.cl list[i]) k:=by
   have A:w1 c list[i]=aj (ay c.cl list[i]) 1:=rfl;omega
  have:=uH m.nc (i:=1) (j:=k) (by omega) f this;omega
 have g: -(w1 c list[i])=lit:=by rw[hw];omega
 have r:=V.wt;rw[v_ b] at L;have s:=L.move (kept:=kept) h1 hk f (by omega) (by rw[t_,V.kL,g]) q (by rw[g,r,v_ b]);have hm:=wo (l:=ay c.cl list[i]) (i:=1) (j:=k) (by omega) f;refine⟨⟨s,V.kL,?_,by have:=V.kl;omega,b,V.sm.trans ⟨rfl,rfl,qU _ _ _,rfl,?_,⟨[],by simp[rQ,lJ]⟩,λ e x=>?_,rfl,λ w v d t=>by show d<(lJ c list[i] (kQ (ay c.cl list[i]) 1 k)).cl.length;rw[qU];exact w v d t⟩,V.ag,V.jS.same rfl rfl rfl,V.cur⟩,n⟩
 ·show ay ((c.wt.set (jM (-(w1 c list[i]))) (kept++list.drop (i+1))).set (jM (-(aj (ay c.cl list[i]) k))) _) (jM lit)=_;have u:jM (-(w1 c list[i]))<c.wt.length:=by rw[L.wt.qI,g];exact(T.lit _ V.FF).at
  rw[qy,if_neg (λ a=>n a.1),qy,if_pos ⟨by rw[g],u⟩]
 ·show((c.wt.set _ _).set _ _).length=_;rw[y_,y_]
 ·show x∈ay (lJ c list[i] (kQ (ay c.cl list[i]) 1 k)).cl e↔_;rw[tT];split
  ·rename_i a;rw[<-a.1];exact hm x
  ·exact h_
theorem nV.FG(V:nV F Fd jS bf h lit list i kept c)(f:i<list.length)(hw:w1 c list[i]= -lit)(g:∀k,2<=k->k<(ay c.cl list[i]).length->j9 c (aj (ay c.cl list[i]) k)= -1):
  ∀x∈ay c.cl list[i],x≠w0 c list[i]-> -x∈c.av:=by
 obtain⟨h1,l,_⟩:=V.q6 f;intro x a j;obtain⟨k,hk,e⟩:=qf.1 a;have aA:=(V.gR.jN.mF _ h1).lt x a;rcases o_ k 2 with b|b
 ·rcases Nat.eq_zero_or_pos k with d|d
  ·subst d;exact absurd e.symm j
  ·obtain rfl:k=1:=by omega
   have:x= -lit:=by rw[<-e];exact hw
   rw[this,Int.neg_neg];exact V.FF
 ·exact(V.gR.aK.xB aA).1 (by rw[<-e];exact g k b hk)
theorem nV.Ke(V:nV F Fd jS bf h lit list i kept c)(a:i<list.length)(hw:w1 c list[i]= -lit)(f:∀k,2<=k->k<(ay c.cl list[i]).length->j9 c (aj (ay c.cl list[i]) k)= -1)(g:j9 c (w0 c list[i])= -1):
  kC F Fd c h []/\∀x∈ay c.cl list[i],-x∈c.av:=by
 obtain⟨h1,j,_⟩:=V.q6 a;have b:=V.gR.low (by omega) (λ k hk=>by rw[t_];exact V.cur k hk);rw[t_] at b;refine⟨b,λ x d=>?_⟩
 by_cases e:x=w0 c list[i]
 ·rw[e];exact(V.gR.aK.xB ((V.gR.jN.mF _ h1).lt _ (e▸d))).1 g
 ·exact V.FG a hw f x d e
theorem nV.set(V:nV F Fd jS bf h lit list i kept c)(a:i<list.length)(hw:w1 c list[i]= -lit)(g:∀k,2<=k->k<(ay c.cl list[i]).length->j9 c (aj (ay c.cl list[i]) k)= -1)(f:j9 c (w0 c list[i])=0):
  nV F Fd jS bf h lit list (i+1) (kept++[list[i]]) (lp c (w0 c list[i]) (some list[i])):=by
 obtain⟨h1,o,_⟩:=V.q6 a;have T:=V.gR.aK;have j:=V.gR.jN.mF _ h1;have hm:w0 c list[i]∈ay c.cl list[i]:=lZ (by omega);have b:=j.lt _ hm;have l:=V.gR.set (w:=some list[i]) b f ⟨h1,hm,V.FG a hw g⟩;have m:nV F Fd jS bf h lit list i kept (lp c (w0 c list[i]) (some list[i])):=by
  refine⟨l,?_,V.wt,V.kl,V.C7,V.sm.trans ⟨rfl,rfl,rfl,rfl,rfl,⟨[_],rfl⟩,λ _ _=>h_,by show aj (c.val.set _ _) 0=_;rw[oP,if_neg (by have:=b.1;omega)],λ w v d n=>oT.set w (some list[i]) (λ e he=>by injection he with he;rw[<-he];exact h1) v d n⟩,V.ag,V.jS.set T b f,V.cur⟩;show aj (c.av++[_]) h=lit;rw[tj V.aA];exact V.kL
 exact m.keep a hw (by show w0 c list[i]∈c.av++[_];simp)
theorem nV.done(V:nV F Fd jS bf h lit list list.length kept c):kC F Fd c (h+1) []/\ay c.wt (jM lit)=kept:=by
 have h1:=V.gR;have a:=V.wt;rw[List.drop_length] at h1 a;exact⟨h1,by rw[a];simp⟩
end
end
section
structure nF(c:Core)(l6:List Int)(i level:Nat)(r:List Int):Prop where
 mem:∀x,x∈r↔x∈l6
 len:r.length=l6.length
 ag:aj r 0=aj l6 0
 nc:r.Nodup
 le:∀k,1<=k->k<i->k<r.length->bh c (aj r k)<=level
 FH:2<=i->2<=r.length->bh c (aj r 1)=level
 low:i<=1->level=0
 lt:level<c.st.length
structure ir(F:List (List Int))(c:Core)(u:Int)(r:List Int):Prop where
 imp:rq F (u::r)
 FI: -u∈c.av
 FJ:bh c u=c.st.length
 Bg:∀x∈r,-x∈c.av/\1<=bh c x/\bh c x<c.st.length
 nc:r.Nodup
section
variable {F Fd:List (List Int)}{c:Core}{r l6:List Int}{i level:Nat}{u:Int}
theorem nF.start(a:l6.Nodup)(hs:0<c.st.length):nF c l6 1 0 l6:=
 ⟨λ _=>h_,rfl,rfl,a,λ k h1 b=>by omega,λ h=>by omega,λ _=>rfl,hs⟩
theorem nF.stay(h:nF c l6 i level r)(h1:1<=i)(f:i<r.length)(hl:bh c (aj r i)<=level)(e:i=1->1<=bh c (aj r 1)):nF c l6 (i+1) level r:=
 ⟨h.mem,h.len,h.ag,h.nc,λ k a b d=>by
  rcases o_ k i with hk|hk
  ·exact h.le k a hk d
  ·obtain rfl:k=i:=by omega
   exact hl,λ a b=>by
  rcases o_ i 2 with hk|hk
  ·obtain rfl:i=1:=by omega
   have:=e rfl;have:=h.low (x_ _);omega
  ·exact h.FH hk b,λ a=>by omega,h.lt⟩
theorem nF.ja(h:nF c l6 i level r)(h1:1<=i)(f:i<r.length)(hl:level<bh c (aj r i))(hs:bh c (aj r i)<c.st.length):nF c l6 (i+1) (bh c (aj r i)) (kQ r 1 i):=by
 have g:=λ k=>qz (l:=r) (i:=1) (j:=i) (by omega) f k
 refine⟨λ x=>(wo (by omega) f x).trans (h.mem x),(rP _ _ _).trans h.len,?_,Fk (by omega) f h.nc,λ k a b d=>?_,λ a b=>?_,λ a=>by omega,hs⟩
 ·rw[g,if_neg (by omega),if_neg (by omega)];exact h.ag
 ·rw[rP] at d;rw[g]
  by_cases e:k=i
  ·rw[if_pos e];rcases o_ i 2 with hk|hk
   ·obtain rfl:i=1:=by omega
    exact x_ _
   ·have:=h.le 1 (x_ _) (by omega) (by omega);omega
  ·rw[if_neg e]
   by_cases m:k=1
   ·rw[if_pos m];exact x_ _
   ·rw[if_neg m];have:=h.le k a (by omega) d;omega
 ·rw[g]
  by_cases e:1=i
  ·rw[if_pos e];rw[e]
  ·rw[if_neg e,if_pos rfl]
theorem ir.nodup(h:ir F c u r)(T:j6 c):(u::r).Nodup:=
 List.nodup_cons.2 ⟨λ hu=>by have:=(h.Bg u hu).2.2;have:=h.FJ;omega,h.nc⟩
theorem nF.done(h:nF c (u::l6) i level r)(o:r.length=i)(L:ir F c u l6)(T:j6 c):uI F c r level:=by
 have j:aj r 0=u:=h.ag;have hlen:r.length=l6.length+1:=h.len;have f:∀x∈r,-x∈c.av:=λ x d=>by
  rcases List.mem_cons.1 ((h.mem x).1 d) with rfl|d
  ·exact L.FI
  ·exact(L.Bg x d).1
 refine⟨⟨λ e=>by rw[e] at hlen;simp at hlen,λ x d=>by have:=(T.lit _ (f x d)).neg;rwa[Int.neg_neg] at this,h.nc,λ x d l=>T.apart (f x d) (by exact f _ l)⟩,?_,f,by rw[j];exact L.FJ,λ k a b=>h.le k a (by omega) b,h.lt,λ g=>h.FH (by omega) g,λ g=>h.low (by omega)⟩
 ·intro M m;obtain⟨x,d,n⟩:=L.imp M m;exact⟨x,(h.mem x).2 d,n⟩
end
end
section
def jF:Int:=1099511627776
def lG(s:aq)(d:Nat):rS:=s.ci.getD d ⟨false,0,0⟩
structure mo(n:Nat)(A B:Int)(s:aq):Prop where
 iX:s.c.n=n
 lP:me n s.ord s.pl
 lg:s.act.length=n+1
 qi:∀v,0<=aj s.act v/\aj s.act v<=A
 a0:aj s.act 0=0
 q7:1<=s.bt
 oG:s.bt<=A
 nG:s.hM.length=n+1
 oU:iE s.hM 0=false
 nH:s.ci.length=s.c.cl.length
 p5:∀d,0<=(lG s d).ac/\(lG s d).ac<=B/\0<=(lG s d).bh/\(lG s d).bh<=jF
 k4:∀d∈s.aM,d<s.c.cl.length
structure nW(s s':aq):Prop where
 c:s'.c=s.c
 hM:s'.hM=s.hM
 aM:s'.aM=s.aM
 aF:s'.aF=s.aF
 aO:s'.aO=s.aO
 nl:s'.nl=s.nl
 jB:s'.jB=s.jB
 ol:s'.ord.length=s.ord.length
 same:vC s.pl s'.pl
 nH:s'.ci.length=s.ci.length
 ci:∀d,(lG s' d).kZ=(lG s d).kZ/\(lG s' d).bh=(lG s d).bh
theorem nW.refl(s:aq):nW s s:=⟨rfl,rfl,rfl,rfl,rfl,rfl,rfl,rfl,.refl _,rfl,λ _=>⟨rfl,rfl⟩⟩
theorem nW.trans{a b c:aq}(h:nW a b)(h':nW b c):nW a c:=
 ⟨h'.c.trans h.c,h'.hM.trans h.hM,h'.aM.trans h.aM,h'.aF.trans h.aF,h'.aO.trans h.aO,h'.nl.trans h.nl,h'.jB.trans h.jB,h'.ol.trans h.ol,h.same.trans h'.same,h'.nH.trans h.nH,
  λ d=>⟨(h'.ci d).1.trans (h.ci d).1,(h'.ci d).2.trans (h.ci d).2⟩⟩
structure pN(s s':aq):Prop where
 eq:∃o p,s'={s with ord:=o,pl:=p}
 lP:me s.c.n s'.ord s'.pl
 ol:s'.ord.length=s.ord.length
 same:vC s.pl s'.pl
theorem pN.refl{s:aq}(h:me s.c.n s.ord s.pl):pN s s:=⟨⟨s.ord,s.pl,rfl⟩,h,rfl,.refl _⟩
theorem pN.trans{a b c:aq}(h:pN a b)(h':pN b c):pN a c:=by
 obtain⟨o,p,rfl⟩:=h.eq;obtain⟨d,e,rfl⟩:=h'.eq;exact⟨⟨d,e,rfl⟩,h'.lP,h'.ol.trans h.ol,h.same.trans h'.same⟩
theorem pN.hk(h:pN s s'):nW s s':=by
 obtain⟨o,p,rfl⟩:=h.eq;exact⟨rfl,rfl,rfl,rfl,rfl,rfl,rfl,h.ol,h.same,rfl,λ _=>⟨rfl,rfl⟩⟩
theorem pN.rg(h:pN s s')(r:mo n A B s):mo n A B s':=by
 obtain⟨o,p,rfl⟩:=h.eq;have:=h.lP;rw[r.iX] at this;exact⟨r.iX,this,r.lg,r.qi,r.a0,r.q7,r.oG,r.nG,r.oU,r.nH,r.p5,r.k4⟩
theorem Kf{l:List Int}{k:Nat}(h:l.length<=k):aj l k=0:=by simp[aj,w_,List.getElem?_eq_none h]
theorem mo.act{n:Nat}{A A' B:Int}{s:aq}(r:mo n A B s)(c:A<=A'){v:Nat}(d:1<=v){x:Int}(b:0<=x)(h1:x<=A'):mo n A' B (s.pZ v x):=by
 refine⟨r.iX,r.lP,by show(s.act.set v x).length=_;rw[y_];exact r.lg,λ u=>?_,?_,r.q7,by have:=r.oG;show s.bt<=_;omega,r.nG,r.oU,r.nH,r.p5,r.k4⟩
 ·show 0<=aj (s.act.set v x) u/\_;have a:aj (s.pZ v x).act u=if v=u/\v<s.act.length then x else aj s.act u:=oP _ _ _ _
  rw[show aj (s.act.set v x) u=_ from a,a];split
  ·exact⟨b,h1⟩
  ·have:=r.qi u;exact⟨this.1,by omega⟩
 ·show aj (s.act.set v x) 0=0;rw[oP,if_neg (by omega)];exact r.a0
theorem nW.act(s:aq)(v:Nat)(x:Int):nW s (s.pZ v x):=⟨rfl,rfl,rfl,rfl,rfl,rfl,rfl,rfl,.refl _,rfl,λ _=>⟨rfl,rfl⟩⟩
def aq.vI(s:aq)(x:Int):aq:={s with bt:=x}
theorem mo.zN(r:mo n A B s)(a:A<=A'){x:Int}(b:1<=x)(h1:x<=A'):mo n A' B (s.vI x):=
 ⟨r.iX,r.lP,r.lg,λ u=>by have:=r.qi u;exact⟨this.1,n_ this.2 a⟩,r.a0,b,h1,r.nG,r.oU,r.nH,r.p5,r.k4⟩
theorem nW.zN(s:aq)(x:Int):nW s (s.vI x):=⟨rfl,rfl,rfl,rfl,rfl,rfl,rfl,rfl,.refl _,rfl,λ _=>⟨rfl,rfl⟩⟩
theorem mo.mono(r:mo n A B s)(a:A<=A')(b:B<=qN):mo n A' qN s:=
 ⟨r.iX,r.lP,r.lg,λ u=>by have:=r.qi u;exact⟨this.1,n_ this.2 a⟩,r.a0,r.q7,n_ r.oG a,r.nG,r.oU,r.nH,λ d=>by have:=r.p5 d;exact⟨this.1,n_ this.2.1 b,this.2.2⟩,r.k4⟩
def aq.wJ(s:aq)(d:Nat)(x:Int):aq:={s with ci:=s.ci.set d {lG s d with ac:=x}}
theorem zO(s:aq)(d:Nat)(x:Int)(e:Nat):lG (s.wJ d x) e=if d=e/\d<s.ci.length then {lG s e with ac:=x} else lG s e:=by
 unfold lG aq.wJ;dsimp only;simp only[w_,List.getElem?_set]
 by_cases h:d=e
 ·subst h
  by_cases a:d<s.ci.length
  ·simp[a,lG,w_]
  ·simp[a]
 ·simp[h]
theorem mo.xL(r:mo n A B s)(a:B<=qN){d:Nat}{x:Int}(b:0<=x)(h1:x<=qN):mo n A qN (s.wJ d x):=by
 refine⟨r.iX,r.lP,r.lg,r.qi,r.a0,r.q7,r.oG,r.nG,r.oU,by show(s.ci.set _ _).length=_;rw[y_];exact r.nH,λ e=>?_,r.k4⟩;rw[zO];have:=r.p5 e;split
 ·exact⟨b,h1,this.2.2⟩
 ·exact⟨this.1,n_ this.2.1 a,this.2.2⟩
theorem nW.xL(s:aq)(d:Nat)(x:Int):nW s (s.wJ d x):=by
 refine⟨rfl,rfl,rfl,rfl,rfl,rfl,rfl,rfl,.refl _,by show(s.ci.set _ _).length=_;rw[y_],λ e=>?_⟩;rw[zO];split<;>exact⟨rfl,rfl⟩
end
section
open Go.RowKit Go.Shelf
def aq.swp(s:aq)(i k:Nat):aq:={s with ord:=kQ s.ord i k,pl:=tY s.ord s.pl i k}
def Bh(g7 g8 i k a b:Nat)(w:World):World:=(((((w.setCell ⟨g7,i,none⟩ (.int .i64 (b:Int))).setCell ⟨g7,k,none⟩ (.int .i64 (a:Int))).drew).setCell ⟨g8,b,none⟩ (.int .i64 (i:Int))).setCell ⟨g8,a,none⟩ (.int .i64 (k:Int))).drew
def FK(g7 g8 i k a b:Nat)(w:World)(e:Ending)(w':World):Prop:=e=.returned (.tuple #[])/\w'=Bh g7 g8 i k a b w
theorem Kg{n7 n8:Nat}(i k a b:Nat)(c:i≠k)(d:k≠i)(e:a≠b)(f:b≠a)(g:w.cell? ⟨G,10,none⟩=some (.slice (some ⟨g7,0,none⟩) n7 iA))(h:w.cell? ⟨G,11,none⟩=some (.slice (some ⟨g8,0,none⟩) n8 p6))
  (li:(i:Int)<(n7:Int)) (j:(k:Int)<(n7:Int)) (l:(a:Int)<(n8:Int)) (lb:(b:Int)<(n8:Int)) (c1:w.cell? ⟨g7,i,none⟩=some (.int .i64 (a:Int))) (c2:w.cell? ⟨g7,k,none⟩=some (.int .i64 (b:Int)))
  (d1:∃v,w.cell? ⟨g8,a,none⟩=some v) (d2:∃v,w.cell? ⟨g8,b,none⟩=some v) (f1:w.frozen? ⟨g7,i,none⟩=false) (f2:w.frozen? ⟨g7,k,none⟩=false) (f3:w.frozen? ⟨g8,a,none⟩=false) (f4:w.frozen? ⟨g8,b,none⟩=false) (m:G≠g7) (n:g7≠G) (o:G≠g8) (p:g7≠g8) (q:g8≠g7):
   Calls p_ 193 #[.pointer (some ⟨G,0,none⟩),.int .i64 i,.int .i64 k] w (FK g7 g8 i k a b w):=by
 obtain⟨v1,d1⟩:=d1;obtain⟨v2,d2⟩:=d2;go_enter Tryz.func193,Tryz.ntmps193
 go_wp2_with fail
 go_region
 go_wp2_with fail
 go_region
 go_wp2;go_end0;exact⟨rfl,rfl⟩
theorem Kh{n7 n8:Nat}(i a:Nat)(b:w.cell? ⟨G,10,none⟩=some (.slice (some ⟨g7,0,none⟩) n7 iA))(c:w.cell? ⟨G,11,none⟩=some (.slice (some ⟨g8,0,none⟩) n8 p6))
  (li:(i:Int)<(n7:Int)) (d:(a:Int)<(n8:Int)) (c1:w.cell? ⟨g7,i,none⟩=some (.int .i64 (a:Int)))
  (d1:∃v,w.cell? ⟨g8,a,none⟩=some v) (f1:w.frozen? ⟨g7,i,none⟩=false) (f3:w.frozen? ⟨g8,a,none⟩=false) (e:G≠g7) (f:g7≠G) (g:G≠g8) (h:g7≠g8) (j:g8≠g7):
   Calls p_ 193 #[.pointer (some ⟨G,0,none⟩),.int .i64 i,.int .i64 i] w (FK g7 g8 i i a a w):=by
 obtain⟨v1,d1⟩:=d1;go_enter Tryz.func193,Tryz.ntmps193
 go_wp2_with fail
 go_region
 go_wp2_with fail
 go_region
 go_wp2;go_end0;exact⟨rfl,rfl⟩
theorem C8(h:aY K base w G hs cb s)(O:me s.c.n s.ord s.pl)(i k:Nat)(l:i<s.ord.length)(hk:k<s.ord.length):
  Calls p_ 193 #[.pointer (some ⟨G,0,none⟩),.int .i64 i,.int .i64 k] w λ e w'=>e=.returned (.tuple #[])/\aY K base w' G hs cb (s.swp i k)/\aG K w w':=by
 have L:=O.sk;obtain⟨g7,f,x,f7⟩:=h.e.lV 10 7 rfl h.e.n7 (by omega);obtain⟨g8,g,y,f8⟩:=h.e.lV 11 8 rfl h.e.n8 (by omega);have m:=O.inv i l;have t:=O.inv k hk;obtain⟨a,u⟩:∃a:Nat,aj s.ord i=a:=⟨(aj s.ord i).toNat,by omega⟩
 obtain⟨b,o⟩:∃b:Nat,aj s.ord k=b:=⟨(aj s.ord k).toNat,by omega⟩
 have c1:=h.e.xK f l;have c2:=h.e.xK f hk;rw[u] at c1 m;rw[o] at c2 t;have z:i≠k->a≠b:=λ M e=>by
  rw[Int.toNat_natCast] at m t;rw[e] at m;have:=m.2.2.symm.trans t.2.2;omega
 have d1:=h.e.wI g (k:=a) (by omega);have d2:=h.e.wI g (k:=b) (by omega);have p:=h.e.uc 7 g7 f;have A:=h.e.uc 8 g8 g;have q:g7≠g8:=h.e.wH (r:=7) (r':=8) (by omega) f g;have E:jf base (Bh g7 g8 i k a b w) G hs cb (s.swp i k):=by
  have h1:=kr.below (jf.xJ (jf.xJ (s:=(s.tw i b).tw k a) (kr.below (jf.Fz (jf.Fz h.e f i b) f k a) (r_ _ _).drew) g b i) g a k) (r_ _ _).drew;have e:(((((s.tw i b).tw k a)).pM b i).pM a k)=s.swp i k:=by
   have F:aj (kQ s.ord i k) i=if i=k then aj s.ord i else aj s.ord k:=by rw[qz l hk];simp
   have H:aj (kQ s.ord i k) k=aj s.ord i:=by rw[qz l hk,if_pos rfl]
   have I:aj (kQ s.ord i k) i=b:=by
    rw[F];split
    ·rename_i h;rw[<-o,h]
    ·exact o
   have J:aj (kQ s.ord i k) k=a:=by rw[H,u]
   unfold aq.swp tY;rw[I,J];unfold kQ;rw[u,o];rfl
  rw[<-e];exact h1
 have hF:aG K w (Bh g7 g8 i k a b w):=by
  have B:=h.s.row 7 g7 f;have C:=h.s.row 8 g8 g;have d:∀W:World,aG K W W.drew:=λ W=>⟨rfl,rfl,rfl,x_ _,λ _ _=>rfl⟩
  exact(((((aG.set g7 i _ B).trans (aG.set g7 k _ B)).trans (d _)).trans (aG.set g8 b _ C)).trans (aG.set g8 a _ C)).trans (d _)
 have D:aY K base (Bh g7 g8 i k a b w) G hs cb (s.swp i k):=⟨E,h.s.more hF.size⟩
 by_cases j:i=k
 ·subst j;obtain rfl:a=b:=by omega
  exact(Kh i a x y (by omega) (by omega) c1 ⟨_,d1⟩ (f7 i) (f8 a) p p.symm A q q.symm).mono λ e w' ⟨h1,v⟩=>by subst v;exact⟨h1,D,hF⟩
 ·exact(Kg i k a b j (λ e=>j e.symm) (z j) (z j).symm x y (by omega) (by omega) (by omega) (by omega) c1 c2 ⟨_,d1⟩ ⟨_,d2⟩ (f7 i) (f7 k) (f8 a) (f8 b) p p.symm A q q.symm).mono λ e w' ⟨h1,v⟩=>by subst v;exact⟨h1,D,hF⟩
theorem pN.swp{s:aq}(O:me s.c.n s.ord s.pl){i k:Nat}(a:i<s.ord.length)(hk:k<s.ord.length):pN s (s.swp i k):=⟨⟨_,_,rfl⟩,O.swap a hk,rP _ _ _,O.Fs a hk⟩
end
section
open Go.RowKit Go.Shelf
def Bi(s:aq)(v u:Nat):Bool:=decide (rN (og (aj s.act u) (aj s.act v)) ((v:Int)-(u:Int))<0)
theorem Ki{g c:Nat}(v u:Nat)(x y:Int)(q:w.cell? ⟨G,8,none⟩=some (.slice (some ⟨g,0,none⟩) n c))(a:(v:Int)<(n:Int))(hu:(u:Int)<(n:Int))(b:v<=65536)(d:u<=65536)
  (f:w.cell? ⟨g,v,none⟩=some (.int .i64 x)) (i:w.cell? ⟨g,u,none⟩=some (.int .i64 y)):
  Calls p_ 225 #[.pointer (some ⟨G,0,none⟩),.int .i64 v,.int .i64 u] w λ e w'=>e=.returned (.bool (decide (rN (og y x) ((v:Int)-(u:Int))<0)))/\Below w.heap.size w w':=by
 have j:wrap64 ((v:Int)-(u:Int))=(v:Int)-(u:Int):=by unfold wrap64;omega
 go_enter Tryz.func225,Tryz.ntmps225
 go_wp2;refine wp_region_still_tail 18 (by kernel_rfl) (by kernel_rfl) ?_;simp only[List.take_succ_cons,List.take_zero,List.drop_succ_cons,g_]
 iterate 14 still_step
 still_call ((zn _ _ _).mono (λ e w' h=>⟨h.1,h.2.symm⟩))
 iterate 3 still_step
 refine wpStill_nil ?_;change wpList _ _ _ _ _ w.drew
 go_wp2_with fail
 refine(AQ w.heap.size (og y x) ((v:Int)-(u:Int)) _ (by go_simp) (by go_simp)).mono ?_;rintro e w' ⟨rfl,rfl⟩;go_wp2;go_ret;exact⟨mO rfl,((r_ _ _).alloc (x_ _) _).drew⟩
section
variable {K:Nat->Prop}{base:Nat}{w:World}{G:Nat}{hs:Nat->ax}{cb:Nat->Nat}{s:aq}
theorem Kj(h:jf base w G hs cb s)(v u:Nat)(a:v<s.act.length)(hu:u<s.act.length)(hl:s.act.length<=65537):
  Calls p_ 225 #[.pointer (some ⟨G,0,none⟩),.int .i64 v,.int .i64 u] w λ e w'=>e=.returned (.bool (Bi s v u))/\Below w.heap.size w w':=by
 obtain⟨g,b,q,f⟩:=h.lV 8 6 rfl h.n6 (by omega);exact Ki v u _ _ q (by omega) (by omega) (by omega) (by omega) (h.yz b a) (h.yz b hu)
end
end
section
open Go.RowKit Go.Shelf
section
variable {K:Nat->Prop}{base:Nat}{w W:World}{G:Nat}{hs:Nat->ax}{cb:Nat->Nat}{s:aq}
theorem mE.ahead(h:jf base W G hs cb s)(u:mE W){v z:Nat}(c:v<s.act.length)(d:z<s.act.length)(hl:s.act.length<=65537){b:Bool}(f:Bi s v z=b):
  Calls p_ 225 #[.pointer (some ⟨G,0,none⟩),.int .i64 v,.int .i64 z] u.val λ e w'=>e=.returned (.bool b)/\∃g:mE W,w'=g.val:=
 mE.call u ((Kj (h.below u.ok) v z c d hl).mono λ e w' a=>⟨a.1.trans (by rw[f]),a.2⟩)
end
def FL(K:Nat->Prop)(base:Nat)(w:World)(G:Nat)(hs:Nat->ax)(cb:Nat->Nat)(s:aq)(e:Ending)(w':World):Prop:=
 e=.returned (.tuple #[])/\∃s',pN s s'/\aY K base w' G hs cb s'/\aG K w w'
theorem yB(x:Nat)(h:x<=9223372036854775807):IntKind.i64.wrap (x:Int)=x:=by rw[IntKind.wrap_i64];omega
theorem me.nat{ord pl:List Int}(O:me n ord pl){i:Nat}(b:i<ord.length):∃a:Nat,aj ord i=a/\1<=a/\a<=n:=by
 have:=O.inv i b;exact⟨(aj ord i).toNat,by omega,by omega,by omega⟩
theorem C9(h:aY K base w G hs cb s)(O:me s.c.n s.ord s.pl)(R:s.act.length=s.c.n+1)(ae:s.c.n<=65536)(i:Nat)(S:i<s.ord.length)(af:s.ord.length<=65537):
  Calls p_ 187 #[.pointer (some ⟨G,0,none⟩),.int .i64 i] w (FL K base w G hs cb s):=by
 have H:=U h;have T:=U O;clear h O;go_enter Tryz.func187,Tryz.ntmps187
 go_wp2_with fail
 go_loopw [1] (λ s1 W=>∃(k:Nat)(s':aq),s1=.int .i64 k/\k<s.ord.length/\pN s s'/\aY K base W G hs cb s'/\aG K w W) (λ s1 _=>(intOf s1).toNat)
 case atStart=>exact⟨i,s,rfl,S,pN.refl T.o,H.o,aG.refl⟩
 case round=>
  obtain⟨k,s',rfl,hk,hO,D,hF⟩:=hrel;have E:=U D;have F:=U hF;have r:=U hO;clear D hF
  by_cases V:k=0
  ·subst V;clear hO
   go_wp2_with fail
   refine yh (by kernel_rfl) (by kernel_rfl) ?_
   repeat (go_big_quiet_step (fail))
   refine i_ ?_;intro X d;replace d:=mE.o d
   go_wp2_with fail
   go_end0;have:=E.o.below d;exact⟨rfl,s',r.o,this.1,F.o.trans this.2⟩
  ·obtain⟨m,rfl⟩:∃m,k=m+1:=⟨k-1,by omega⟩
   obtain⟨p,hp⟩:∃p,p=m/2:=⟨_,rfl⟩
   obtain⟨ag,ah,he⟩:=hO.eq;have t:s'.ord.length=s.ord.length:=hO.ol;have l:me s'.c.n s'.ord s'.pl:=by rw[he];have:=hO.lP;rw[he] at this;exact this
   have I:s'.act.length=s.c.n+1:=by rw[he];exact R
   have J:s'.c.n=s.c.n:=by rw[he]
   clear hO he;obtain⟨k0,x⟩:∃k0,k0=m+1:=⟨_,rfl⟩
   obtain⟨a,y,a1,a2⟩:=l.nat (i:=k0) (by omega);obtain⟨b,z,ai,aj⟩:=l.nat (i:=p) (by omega);obtain⟨g7,j,L,f7⟩:=E.o.e.lV 10 7 rfl (E.o.e.n7.trans t) (by omega);have c1:=E.o.e.xK j (k:=k0) (by omega);have c2:=E.o.e.xK j (k:=p) (by omega);rw[y] at c1;rw[z] at c2;have A:=E.o.e.rows.lt j;have Y:=λ u:mE wr=>u.cell (E.o.e.box.lt) L
   have Z:=λ u:mE wr=>u.cell A.2 c1
   have aa:=λ u:mE wr=>u.cell A.2 c2
   have ak:(k0:Int)-1=(m:Int):=by omega
   have al:Int.tdiv (m:Int) 2=(p:Int):=by rw[Int.tdiv_eq_ediv_of_nonneg (by omega)];omega
   have an:=yB m (by omega);have ao:=yB p (by omega);have ab:(0:Int)<(k0:Int):=by omega
   have d0:decide ((0:Int)<(k0:Int))=true:=decide_eq_true ab;have d1:decide (0<k0)=true:=decide_eq_true (by omega);have ar:(k0:Int)<(s.ord.length:Int):=by omega
   have au:(p:Int)<(s.ord.length:Int):=by omega
   have av:=U y;have aw:=U z;have q:=U hp;have g:=U x;have M:=U l;have f:=U (z_ t (z_ I J));have ay:=U j;generalize N:Bi s' a b=v;have ad:=U N;rw[<-x];clear y z hp x l t I J j A L c1 c2 N f7
   go_wp2_with fail
   refine yh (by kernel_rfl) (by kernel_rfl) ?_
   repeat (go_big_quiet_step ((go_at_call 225;exact mE.ahead E.o.e _ (by have:=f.o;omega) (by have:=f.o;omega) (by have:=f.o;omega) ad.o)))
   refine i_ ?_;intro X d;replace d:=mE.o d;have P:=U (E.o.below d).1;have Q:=U (F.o.trans (E.o.below d).2);clear Y Z aa d
   cases v
   ·go_wp2_with fail
    go_end0;exact⟨rfl,s',r.o,P.o,Q.o⟩
   ·go_wp2_with (go_at_call 193;refine(C8 P.o M.o k0 p (by have:=f.o;have:=g.o;omega) (by have:=f.o;have:=g.o;have:=q.o;omega)).mono ?_;rintro e az ⟨rfl,B,C⟩;have B:=U B;have C:=U C)
    go_roundw
    case rel=>exact⟨p,_,by go_num,by have:=g.o;have:=q.o;omega,r.o.trans (pN.swp M.o (by have:=f.o;have:=g.o;omega) (by have:=f.o;have:=g.o;have:=q.o;omega)),B.o,Q.o.trans C.o⟩
    case measure=>have:=g.o;have:=q.o;simp[intOf];omega
end
section
open Go.RowKit Go.Shelf
theorem FM(h:aY K base w G hs cb s)(O:me s.c.n s.ord s.pl)(aw:s.act.length=s.c.n+1)(aP:s.c.n<=65536)(i:Nat)(ay:i<s.ord.length)(aQ:s.ord.length<=65537):
  Calls p_ 194 #[.pointer (some ⟨G,0,none⟩),.int .i64 i] w (FL K base w G hs cb s):=by
 have H:=U h;have az:=U O;clear h O;go_enter Tryz.func194,Tryz.ntmps194
 go_wp2_with fail
 go_loopw [1,4,6] (λ s1 _ _ W=>∃(k:Nat)(s':aq),s1=.int .i64 k/\k<s.ord.length/\pN s s'/\aY K base W G hs cb s'/\aG K w W) (λ s1 _ _ _=>s.ord.length-(intOf s1).toNat)
 case atStart=>exact⟨i,s,rfl,ay,pN.refl az.o,H.o,aG.refl⟩
 case round=>
  obtain⟨k,s',rfl,hk,hO,ad,hF⟩:=hrel;have E:=U ad;have F:=U hF;have ae:=U hO;clear ad hF;obtain⟨aR,aS,he⟩:=hO.eq;have C:s'.ord.length=s.ord.length:=hO.ol;have D:me s'.c.n s'.ord s'.pl:=by rw[he];have:=hO.lP;rw[he] at this;exact this
  have P:s'.act.length=s.c.n+1:=by rw[he];exact aw
  have Q:s'.c.n=s.c.n:=by rw[he]
  clear hO he;obtain⟨c,R⟩:∃c,c=2*k+1:=⟨_,rfl⟩
  obtain⟨d,S⟩:∃d,d=2*k+2:=⟨_,rfl⟩
  have I:2*(k:Int)+1=(c:Int):=by omega
  have J:2*(k:Int)+2=(d:Int):=by omega
  have k0:=yB (2*k) (by omega);have aA:=yB c (by omega);have aB:=yB d (by omega);have aC:=U (z_ R S);clear R S
  go_wp2_with fail
  obtain⟨r,A⟩:∃r,r=wr.heap.size:=⟨_,rfl⟩
  have T:Below wr.heap.size wr (wr.alloc (.cells #[.int .i64 c,.int .i64 d] 3)):=bz wr _;have m1:(wr.alloc (.cells #[.int .i64 c,.int .i64 d] 3)).cell? ⟨r,0,none⟩=some (.int .i64 c):=by subst A;go_simp
  have m2:(wr.alloc (.cells #[.int .i64 c,.int .i64 d] 3)).cell? ⟨r,1,none⟩=some (.int .i64 d):=by subst A;go_simp
  have af:r<(wr.alloc (.cells #[.int .i64 c,.int .i64 d] 3)).heap.size:=by subst A;simp
  rw[<-A];have ag:=U (E.o.below T).1;have aD:=U (F.o.trans (E.o.below T).2);generalize (wr.alloc (.cells #[.int .i64 c,.int .i64 d] 3))=w1 at*;clear A T I J k0 aA aB;have M:=U (z_ m1 (z_ m2 af));clear m1 m2 af
  go_loopw [4,6,16] (λ iY _ V W=>∃(j b:Nat),V=.int .i64 j/\j<=2/\iY=.int .i64 b/\k<=b/\b<s.ord.length/\Below w1.heap.size w1 W) (λ _ _ V _=>2-(intOf V).toNat)
  case atStart=>exact⟨0,k,rfl,by omega,rfl,x_ _,hk,r_ _ _⟩
  case round=>
   obtain⟨j,b,rfl,ah,rfl,t,y,L⟩:=hrel;have z:=U L;have g:=U (ag.o.below L).1;have ai:=U (aD.o.trans (ag.o.below L).2);clear L
   by_cases aj:j<2
   ·obtain⟨x,aT,ak,al⟩:∃x:Nat,wr.cell? ⟨r,j,none⟩=some (.int .i64 x)/\k<x/\x<=2*k+2:=by
     obtain⟨R,S⟩:=aC.o;rcases o_ j 1 with h1|h1
     ·obtain rfl:j=0:=by omega
      exact⟨c,(z.o.cell M.o.2.2).trans M.o.1,by omega,by omega⟩
     ·obtain rfl:j=1:=by omega
      exact⟨d,(z.o.cell M.o.2.2).trans M.o.2.1,by omega,by omega⟩
    have aU:decide ((j:Int)<2)=true:=decide_eq_true (by omega);have aE:(j:Int)<2:=by omega
    have p:=U (z_ ah (z_ aj (z_ ak al)));clear ah aj ak al;obtain⟨g7,q,an,f7⟩:=g.o.e.lV 10 7 rfl (g.o.e.n7.trans C) (by omega);have ao:=λ u:mE wr=>u.cell (g.o.e.box.lt) an
    clear an
    by_cases B:x<s.ord.length
    ·have X:(x:Int)<(s.ord.length:Int):=by omega
     have lb:(b:Int)<(s.ord.length:Int):=by omega
     have aF:decide ((x:Int)<(s.ord.length:Int))=true:=decide_eq_true X;have aH:decide (x<s.ord.length)=true:=decide_eq_true B;obtain⟨a,Y,a1,a2⟩:=D.nat (i:=x) (by omega);obtain⟨e,he,I,J⟩:=D.nat (i:=b) (by omega);have c1:=g.o.e.xK q (k:=x) (by omega);have c2:=g.o.e.xK q (k:=b) (by omega);rw[Y] at c1;rw[he] at c2;have Z:=g.o.e.rows.lt q;have aI:=λ u:mE wr=>u.cell Z.2 c1
     have aJ:=λ u:mE wr=>u.cell Z.2 c2
     generalize ar:Bi s' a e=v;have aK:=U ar;have m:=U (z_ C (z_ P Q));have au:=U (z_ Y (z_ he (z_ a1 (z_ a2 (z_ I J)))));have aL:=U q;have f:=U (z_ t y);have aM:=U B;clear Y he c1 c2 Z ar f7 q a1 a2 I J t y B
     go_wp2_with fail
     refine yh (by kernel_rfl) (by kernel_rfl) ?_
     repeat (go_big_quiet_step ((go_at_call 225;exact mE.ahead g.o.e _ (by have:=m.o;have:=au.o;omega) (by have:=m.o;have:=au.o;omega) (by have:=m.o;omega) aK.o)))
     refine i_ ?_;intro aN l;replace l:=mE.o l;have N:=U (z.o.trans (l.mono z.o.size));clear ao aI aJ l
     cases v
     ·go_wp2_with fail
      go_roundw
      case rel=>exact⟨j+1,b,by go_num,by have:=p.o;omega,rfl,f.o.1,f.o.2,N.o⟩
      case measure=>have:=p.o;simp[intOf];omega
     ·go_wp2_with fail
      go_roundw
      case rel=>exact⟨j+1,x,by go_num,by have:=p.o;omega,rfl,by have:=p.o;omega,aM.o,N.o⟩
      case measure=>have:=p.o;simp[intOf];omega
    ·have X:¬(x:Int)<(s.ord.length:Int):=by omega
     have aF:decide ((x:Int)<(s.ord.length:Int))=false:=decide_eq_false X;have aH:decide (x<s.ord.length)=false:=decide_eq_false B;have aL:=U q;have f:=U (z_ t y);clear f7 q t y B
     go_wp2_with fail
     refine yh (by kernel_rfl) (by kernel_rfl) ?_
     repeat (go_big_quiet_step (fail))
     refine i_ ?_;intro aN l;replace l:=mE.o l;have N:=U (z.o.trans (l.mono z.o.size));clear ao l
     go_wp2_with fail
     go_roundw
     case rel=>exact⟨j+1,b,by go_num,by have:=p.o;omega,rfl,f.o.1,f.o.2,N.o⟩
     case measure=>have:=p.o;simp[intOf];omega
   ·have aE:¬(j:Int)<2:=by omega
    by_cases av:b=k
    ·subst av
     go_wp2_with fail
     go_end0;exact⟨rfl,s',ae.o,g.o,ai.o⟩
    ·have aO:¬(b:Int)=(k:Int):=by omega
     have f:=U (z_ t (z_ y av));have m:=U (z_ C (z_ P Q));clear t y C P Q;have aV:((b:Int)==(k:Int))=false:=by simpa using aO
     go_wp2_with (go_at_call 193;refine(C8 g.o D k b (by have:=m.o;omega) (by have:=m.o;have:=f.o;omega)).mono ?_;rintro e aW ⟨rfl,aa,ab⟩;have aa:=U aa;have ab:=U ab)
     go_roundw
     case rel=>exact⟨b,_,by go_num,by have:=f.o;omega,ae.o.trans (pN.swp D (by have:=m.o;omega) (by have:=m.o;have:=f.o;omega)),aa.o,ai.o.trans ab.o⟩
     case measure=>have:=f.o;simp[intOf];omega
end
section
open Go.RowKit Go.Shelf
section
variable {K:Nat->Prop}{base:Nat}{w w' W:World}{G:Nat}{hs:Nat->ax}{cb:Nat->Nat}{s:aq}
theorem aY.xI(h:aY K base w G hs cb s){g:Nat}(a:(hs 1).b=some g)(k:Nat)(x:Int):aY K base (w.setCell ⟨g,k,none⟩ (.int .i8 x)) G hs cb (s.oR k x)/\aG K w (w.setCell ⟨g,k,none⟩ (.int .i8 x)):=h.mB (jf.xI h.e a k x) rfl (Fr.cell 1 g k _ a)
theorem aY.zI(h:aY K base w G hs cb s){g:Nat}(a:(hs 3).b=some g)(k:Nat)(x:Option Nat):aY K base (w.setCell ⟨g,k,none⟩ (qM cb x)) G hs cb (s.qC k x)/\aG K w (w.setCell ⟨g,k,none⟩ (qM cb x)):=h.mB (jf.zI h.e a k x) rfl (Fr.cell 3 g k _ a)
theorem aY.Bc(h:aY K base w G hs cb s){g:Nat}(a:(hs 6).b=some g)(k:Nat)(x:Int):aY K base (w.setCell ⟨g,k,none⟩ (.int .i64 x)) G hs cb (s.pZ k x)/\aG K w (w.setCell ⟨g,k,none⟩ (.int .i64 x)):=h.mB (jf.Bc h.e a k x) rfl (Fr.cell 6 g k _ a)
theorem aY.xJ(h:aY K base w G hs cb s){g:Nat}(a:(hs 8).b=some g)(k:Nat)(x:Int):aY K base (w.setCell ⟨g,k,none⟩ (.int .i64 x)) G hs cb (s.pM k x)/\aG K w (w.setCell ⟨g,k,none⟩ (.int .i64 x)):=h.mB (jf.xJ h.e a k x) rfl (Fr.cell 8 g k _ a)
theorem aY.zJ(h:aY K base w G hs cb s){g:Nat}(a:(hs 9).b=some g)(k:Nat)(x:Bool):aY K base (w.setCell ⟨g,k,none⟩ (.bool x)) G hs cb (s.ua k x)/\aG K w (w.setCell ⟨g,k,none⟩ (.bool x)):=h.mB (jf.zJ h.e a k x) rfl (Fr.cell 9 g k _ a)
theorem aY.wG(h:aY K base w G hs cb s){g:Nat}(a:(hs 12).b=some g)(k:Nat)(x:Bool):aY K base (w.setCell ⟨g,k,none⟩ (.bool x)) G hs cb (s.sU k x)/\aG K w (w.setCell ⟨g,k,none⟩ (.bool x)):=h.mB (jf.wG h.e a k x) rfl (Fr.cell 12 g k _ a)
theorem aG.kJ(h:aY K base w G hs cb s)(k:Nat)(v:Value):aG K w (w.setCell ⟨G,k,none⟩ v):=aG.set G k v h.s.g
theorem aG.drew:aG K w w.drew:=⟨rfl,rfl,rfl,x_ _,λ _ _=>rfl⟩
theorem aY.drew(h:aY K base w G hs cb s):aY K base w.drew G hs cb s:=(h.below (r_ _ _).drew).1
theorem Sep.cut{n:Nat}(h:Sep K w G hs cb n){r:Nat}(m:Nat):Sep K w G (iT hs r ⟨(hs r).A,m,(hs r).c⟩) cb n:=h.ja (λ g e=>h.row r g e)
theorem aY.Kk(h:aY K base w G hs cb s){g:Nat}(a:(hs 7).b=some g){m:Nat}(hm:m<=s.ord.length):
  aY K base (w.setCell ⟨G,10,none⟩ (.slice (some ⟨g,0,none⟩) m (hs 7).c)) G (iT hs 7 ⟨(hs 7).A,m,(hs 7).c⟩) cb {s with ord:=s.ord.take m}/\aG K w (w.setCell ⟨G,10,none⟩ (.slice (some ⟨g,0,none⟩) m (hs 7).c)):=by
 have f:=(h.e.rows.form a).1;rw[<-f];refine⟨⟨?_,(h.s.cut (r:=7) m).more (k8 w G 10 _).size⟩,aG.kJ h 10 _⟩;have i:=(kr.cut h.e a (k:=m) (by rw[h.e.n7];exact hm)).field 10 (.slice (hs 7).A m (hs 7).c);refine i.eq rfl rfl rfl (λ d _=>(vH hs s (by omega) _ d).symm) rfl (λ r=>?_);rw[vG hs cb _ (by omega)]
 by_cases e:r=7
 ·subst e;rw[jO];show(jc s.ord).take (m*1)=jc (s.ord.take m);simp[jc]
 ·rw[bk _ _ e];simp only[cont,if_neg e]
theorem aY.FN(h:aY K base w G hs cb s){g:Nat}(a:(hs 4).b=some g){m:Nat}(hm:m<=s.c.av.length):
  aY K base (w.setCell ⟨G,5,none⟩ (.slice (some ⟨g,0,none⟩) m (hs 4).c)) G (iT hs 4 ⟨(hs 4).A,m,(hs 4).c⟩) cb {s with c:={s.c with av:=s.c.av.take m}}/\aG K w (w.setCell ⟨G,5,none⟩ (.slice (some ⟨g,0,none⟩) m (hs 4).c)):=by
 have f:=(h.e.rows.form a).1;rw[<-f];refine⟨⟨?_,(h.s.cut (r:=4) m).more (k8 w G 5 _).size⟩,aG.kJ h 5 _⟩;have i:=(kr.cut h.e a (k:=m) (by rw[h.e.kA];exact hm)).field 5 (.slice (hs 4).A m (hs 4).c);refine i.eq rfl rfl rfl (λ d _=>(vH hs s (by omega) _ d).symm) rfl (λ r=>?_);rw[vG hs cb _ (by omega)]
 by_cases e:r=4
 ·subst e;rw[jO];show(jc s.c.av).take (m*1)=jc (s.c.av.take m);simp[jc]
 ·rw[bk _ _ e];simp only[cont,if_neg e]
theorem aY.FO(h:aY K base w G hs cb s){g:Nat}(a:(hs 5).b=some g){m:Nat}(hm:m<=s.c.st.length):
  aY K base (w.setCell ⟨G,6,none⟩ (.slice (some ⟨g,0,none⟩) m (hs 5).c)) G (iT hs 5 ⟨(hs 5).A,m,(hs 5).c⟩) cb {s with c:={s.c with st:=s.c.st.take m}}/\aG K w (w.setCell ⟨G,6,none⟩ (.slice (some ⟨g,0,none⟩) m (hs 5).c)):=by
 have f:=(h.e.rows.form a).1;rw[<-f];refine⟨⟨?_,(h.s.cut (r:=5) m).more (k8 w G 6 _).size⟩,aG.kJ h 6 _⟩;have i:=(kr.cut h.e a (k:=m) (by rw[h.e.kf];exact hm)).field 6 (.slice (hs 5).A m (hs 5).c);refine i.eq rfl rfl rfl (λ d _=>(vH hs s (by omega) _ d).symm) rfl (λ r=>?_);rw[vG hs cb _ (by omega)]
 by_cases e:r=5
 ·subst e;rw[jO];show(qg s.c.st).take (m*1)=qg (s.c.st.take m);simp[qg]
 ·rw[bk _ _ e];simp only[cont,if_neg e]
theorem aY.Bj(h:aY K base w G hs cb s)(x:Nat):aY K base (w.setCell ⟨G,7,none⟩ (.int .i64 (x:Int))) G hs cb {s with c:={s.c with ag:=x}}/\aG K w (w.setCell ⟨G,7,none⟩ (.int .i64 (x:Int))):=
 ⟨⟨(h.e.field 7 _).eq rfl rfl rfl (λ _ _=>rfl) rfl (λ _=>rfl),h.s.more (k8 w G 7 _).size⟩,aG.kJ h 7 _⟩
theorem aY.FP(h:aY K base w G hs cb s)(x:Int):aY K base (w.setCell ⟨G,9,none⟩ (.int .i64 x)) G hs cb (s.vI x)/\aG K w (w.setCell ⟨G,9,none⟩ (.int .i64 x)):=
 ⟨⟨(h.e.field 9 _).eq rfl rfl rfl (λ _ _=>rfl) rfl (λ _=>rfl),h.s.more (k8 w G 9 _).size⟩,aG.kJ h 9 _⟩
theorem aY.FQ(h:aY K base w G hs cb s):aY K base (w.setCell ⟨G,15,none⟩ (.bool true)) G hs cb {s with c:=wu s.c}/\aG K w (w.setCell ⟨G,15,none⟩ (.bool true)):=
 ⟨⟨(h.e.field 15 _).eq rfl rfl rfl (λ _ _=>rfl) rfl (λ _=>rfl),h.s.more (k8 w G 15 _).size⟩,aG.kJ h 15 _⟩
end
end
section
open Go.RowKit Go.Shelf
def Kl(K:Nat->Prop)(base:Nat)(w:World)(G:Nat)(cb:Nat->Nat)(s:aq)(e:Ending)(w':World):Prop:=
 ∃(v:Nat)(hs':Nat->ax)(s':aq),e=.returned (.int .i64 v)/\aj s.ord 0=v/\1<=v/\v<=s.c.n/\(∃o p,s'={s with ord:=o,pl:=p})/\aY K base w' G hs' cb s'/\aG K w w'/\me s.c.n s'.ord s'.pl/\s'.ord.length+1=s.ord.length/\(∀u:Nat,u≠v->(0<=aj s'.pl u↔0<=aj s.pl u))
theorem Km(h:aY K base w G hs cb s)(O:me s.c.n s.ord s.pl)(ai:s.act.length=s.c.n+1)(aI:s.c.n<=65536)(V:0<s.ord.length)(aJ:s.ord.length<=65537):
  Calls p_ 155 #[.pointer (some ⟨G,0,none⟩)] w (Kl K base w G cb s):=by
 obtain⟨m,hm⟩:∃m,s.ord.length=m+1:=⟨s.ord.length-1,by omega⟩
 obtain⟨g7,F,W,f7⟩:=h.e.lV 10 7 rfl (h.e.n7.trans hm) (by omega);obtain⟨v,q,v1,v2⟩:=O.nat (i:=0) V;have X:=h.e.xK F (k:=0) V;rw[q] at X;have H:=U h;have y:=U O;have z:=U F;have I:=U q;have t:=U (z_ v1 v2);have d:=U hm;have em:((m+1:Nat):Int)-1=(m:Int):=by omega
 have aK:=yB m (by omega);have lm:(0:Int)<((m+1:Nat):Int):=by omega
 clear h O F q v1 v2 hm f7;go_enter Tryz.func155,Tryz.ntmps155
 go_upto_region 3 with(go_at_call 193;refine(C8 H.o y.o 0 m (by have:=d.o;omega) (by have:=d.o;omega)).mono ?_;rintro e B ⟨rfl,r,J⟩;have r:=U r;have J:=U J)
 have ak:(hs 7).n=m+1:=H.o.e.n7.trans d.o;have W:B.cell? ⟨G,10,none⟩=some (.slice (some ⟨g7,0,none⟩) (m+1) (hs 7).c):=r.o.e.q5 10 z.o ak rfl;have f7:B.frozen? ⟨G,10,none⟩=false:=r.o.e.free 10;have cap:m+1<=(hs 7).c:=by
  obtain⟨_,al⟩:=r.o.e.rows.row 7;rcases al with⟨L,_⟩|⟨aL,Y,cur,q,_,_,aM,_⟩
  ·have:=(r.o.e.rows.form z.o).1;unfold ax.v at L;rw[this] at L
   cases L
  ·unfold ax.v at q;injection q with _ _ q
   omega
 have Y:(m:Int)<=((hs 7).c:Int):=by omega
 refine wp_region_still_tail 14 (by kernel_rfl) (by kernel_rfl) ?_;simp only[List.take_succ_cons,List.take_zero,List.drop_succ_cons,g_]
 iterate 14 still_step
 refine wpStill_nil ?_;change wpList _ _ _ _ _ B.drew
 go_upto_region 4 with fail
 have M:=y.o.sk;have hlen:=d.o;have i0:0<s.ord.length:=by omega
 have N:m<s.ord.length:=by omega
 have f:=r.o.Kk z.o (m:=m) (by show m<=(kQ s.ord 0 m).length;rw[rP];omega);have Z:=y.o.swap i0 N;have C:=Z.pop (by rw[rP];omega);rw[rP,hlen,t_] at C;have aa:aj (kQ s.ord 0 m) m=v:=by rw[qz i0 N,if_pos rfl];exact I.o
 rw[aa,Int.toNat_natCast] at C;have ab:=U (J.o.trans (f.2.trans aG.drew));have f:=U f.1.drew;generalize (B.setCell ⟨G,10,none⟩ (.slice (some ⟨g7,0,none⟩) m (hs 7).c)).drew=an at f ab;have ad:=U C;obtain⟨g8,P,ao,f8⟩:=f.o.e.lV 11 8 rfl (f.o.e.n8.trans (by show(tY s.ord s.pl 0 m).length=s.c.n+1;unfold tY;rw[y_,y_];exact M)) (by omega);have ar:=f.o.e.wI P (k:=v) (by show v<(tY s.ord s.pl 0 m).length;unfold tY;rw[y_,y_,M];have:=t.o;omega);have au:=f8 v;have bh:(v:Int)<((s.c.n+1:Nat):Int):=by have:=t.o;omega
 have av:=U P;clear f8 P Z C aa N i0 hlen M W f7 cap Y X
 go_upto_region 5 with fail
 have g:=f.o.xJ av.o v (-1);have Q:=U (ab.o.trans g.2);have g:=U g.1;generalize (an.setCell ⟨g8,v,none⟩ (.int .i64 (-1)))=aw at g Q;clear ao ar au;obtain⟨a,j⟩:∃a,a=({s.swp 0 m with ord:=(kQ s.ord 0 m).take m}:aq).pM v (-1):=⟨_,rfl⟩
 have ae:(({s.swp 0 m with ord:=(s.swp 0 m).ord.take m}:aq).pM v (-1))=a:=j.symm;rw[ae] at g;have D:me a.c.n a.ord a.pl:=by rw[j];exact ad.o
 have af:a.ord.length=m:=by rw[j];show((kQ s.ord 0 m).take m).length=m;rw[j_,rP];have:=d.o;omega
 have R:a.c.n=s.c.n:=by rw[j];rfl
 have a5:a.act.length=a.c.n+1:=by rw[R,<-ai,j];rfl
 have ag:∃o p,a={s with ord:=o,pl:=p}:=⟨_,_,j⟩
 have ah:∀u:Nat,u≠v->(0<=aj a.pl u↔0<=aj s.pl u):=λ u hu=>by
  rw[j];show 0<=aj ((tY s.ord s.pl 0 m).set v (-1)) u↔_;rw[oP,if_neg (λ ay=>hu ay.1.symm)];exact y.o.Fs (by have:=d.o;omega) (by have:=d.o;omega) u
 have aN:aw.cell? ⟨G,10,none⟩=some (.slice (some ⟨g7,0,none⟩) m (hs 7).c):=by
  have az:(iT hs 7 ⟨(hs 7).A,m,(hs 7).c⟩ 7).b=some g7:=by rw[jO];exact z.o
  have:=g.o.e.q5 10 az (m:=m) (by rw[jO]) rfl
  rwa[jO] at this
 have E:=U (z_ ag ah);have D:=U D;have l:=U (z_ af (z_ R a5));clear ag ah af R a5 ae ad j
 by_cases aA:m=0
 ·have aB:¬(0:Int)<(m:Int):=by omega
  have aO:=U aA
  go_wp2_with fail
  go_ret;exact⟨v,_,a,rfl,I.o,t.o.1,t.o.2,E.o.1,g.o,Q.o,by have:=D.o;rwa[l.o.2.1] at this,by have:=l.o;have:=d.o;omega,E.o.2⟩
 ·have aB:(0:Int)<(m:Int):=by omega
  go_wp2_with (go_at_call 194;refine(FM g.o D.o l.o.2.2 (by have:=l.o;omega) 0 (by have:=l.o;omega) (by have:=l.o;have:=d.o;omega)).mono ?_;rintro e aP ⟨rfl,aC,x,S,T⟩;have S:=U S;have T:=U T;have x:=U x)
  go_ret;refine⟨v,_,aC,rfl,I.o,t.o.1,t.o.2,?_,S.o,Q.o.trans T.o,?_,?_,?_⟩
  ·obtain⟨o,p,aD⟩:=E.o.1;obtain⟨aE,aF,aH⟩:=x.o.eq;exact⟨aE,aF,by rw[aH,aD]⟩
  ·have:=x.o.lP;rwa[l.o.2.1] at this
  ·rw[x.o.ol];have:=l.o;have:=d.o;omega
  ·exact λ u hu=>(x.o.same u).trans (E.o.2 u hu)
end
section
structure qj(c:Core)(m:Nat):Prop where
 str:∀k,k<c.st.length->m<=k->gZ c.st k<if k+1<c.st.length then gZ c.st (k+1) else c.av.length
section
variable {c c':Core}{m:Nat}
theorem qj.at(h:qj c m):∀j,m+j<c.st.length->j<=gZ c.st (m+j)
 |0,_=>Nat.zero_le _
 |j+1,b=>by
  have h1:=qj.at h j (by omega);have a:=h.str (m+j) (by omega) (by omega);rw[if_pos (by omega)] at a;rw[show m+(j+1)=m+j+1 by omega];omega
theorem qj.len(h:qj c m):c.st.length<=m+c.av.length:=by
 rcases o_ m c.st.length with hl|hl
 ·have h1:=h.at (c.st.length-1-m) (by omega);have a:=h.str (c.st.length-1) (by omega) (by omega);rw[if_neg (by omega)] at a;rw[show m+(c.st.length-1-m)=c.st.length-1 by omega] at h1;omega
 ·omega
theorem qj.grow(h:qj c m)(hs:c'.st=c.st)(a:c.av.length<=c'.av.length):qj c' m:=by
 refine⟨λ k hk hm=>?_⟩;rw[hs] at hk⊢;have:=h.str k hk hm;split
 ·rename_i h1;rw[if_pos h1] at this;exact this
 ·rename_i h1;rw[if_neg h1] at this;omega
theorem qj.zero(h:c.st=[]):qj c m:=⟨λ k hk=>by rw[h] at hk;simp at hk⟩
theorem qj.level(h:qj c m)(T:j6 c)(hl:c.st.length<m):qj (nk c) m:=by
 refine⟨λ k hk hm=>?_⟩;have e:(nk c).st=c.st++[c.av.length]:=rfl;rw[e,u_,s_] at hk;omega
theorem qj.decide(h:qj c m)(T:j6 c)(x:Int):qj (lp (nk c) x none) m:=by
 refine⟨λ k hk hm=>?_⟩;have e:(lp (nk c) x none).st=c.st++[c.av.length]:=rfl;have b:(lp (nk c) x none).av=c.av++[x]:=rfl;rw[e,u_,s_] at hk;rw[e,b,u_,s_,u_,s_]
 by_cases h1:k<c.st.length
 ·rw[xz h1,if_pos (by omega)];have:=h.str k h1 hm
  by_cases a:k+1<c.st.length
  ·rw[if_pos a] at this;rw[xz a];exact this
  ·rw[if_neg a] at this;have d:k+1=c.st.length:=by omega
   rw[d,xA];exact this
 ·have f:k=c.st.length:=by omega
  rw[if_neg (by omega),f,xA];omega
theorem qj.back(h:qj c m)(T:j6 c){level:Nat}(hl:level<c.st.length):qj (mG c level) m:=by
 refine⟨λ k hk hm=>?_⟩;have e:(mG c level).st=c.st.take level:=rfl;have a:(mG c level).av=c.av.take (gZ c.st level):=rfl;have hlen:(c.st.take level).length=level:=by rw[j_];omega
 have b:(c.av.take (gZ c.st level)).length=gZ c.st level:=by rw[j_];have:=T.om level hl;omega
 rw[e,hlen] at hk;rw[e,a,hlen,b,uF hk];have:=h.str k (by omega) hm;rw[if_pos (by omega)] at this
 by_cases h1:k+1<level
 ·rw[if_pos h1,uF h1];exact this
 ·rw[if_neg h1];obtain rfl:k+1=level:=by omega
  exact this
end
end
end Go.Proofs.YtogdlkfacflmaaaGreat
