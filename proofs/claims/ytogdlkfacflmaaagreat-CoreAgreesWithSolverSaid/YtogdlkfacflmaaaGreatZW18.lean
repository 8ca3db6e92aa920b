/- Parts of the walk of the solver and its core; no condition. -/
import Derived.Test.YtogdlkfacflmaaaGreatZW17
import Derived.Test.YtogdlkfacflmaaaGreatZW13
import Derived.Test.YtogdlkfacflmaaaGreatZW16
import Derived.Test.YtogdlkfacflmaaaGreatZW10
import Derived.Test.YtogdlkfacflmaaaGreatZW6
import Derived.Shelf.SlicesE.Delete
import Derived.Test.YtogdlkfacflmaaaGreatZW14
import Derived.Test.YtogdlkfacflmaaaGreatZW1
namespace Go.Proofs.YtogdlkfacflmaaaGreat
set_option linter.unusedVariables false
set_option linter.unusedSimpArgs false
set_option maxRecDepth 100000
set_option maxHeartbeats 8000000
open _root_.And renaming intro→z_
open _root_.List renaming getElem?_cons_zero→y_,getElem?_cons_succ→x_,length_append→t_,take_of_length_le→p_,take_succ_eq_append_getElem→o_,map_toArray→k_,map_cons→j_,map_nil→i_
open _root_.Or renaming inl→w_
open _root_.Go.Proofs.Tryz renaming prog→v_
open _root_.Nat renaming zero_le→u_,le_trans→q_,lt_of_lt_of_le→m_
open _root_.Go.RowKit.Below renaming refl→s_
open _root_.Go.IntKind renaming wrap_i64→r_,i64→n_
open _root_.Array renaming getD_eq_getD_getElem?→l_
open _root_.Go.Builtin renaming zeroCells→h_
variable{n aF B cl c c' bD aU aW sp bp b:Nat}{aM ia A A' fM aQ:Option Addr}{aT:Nat->Prop}{s:kf}{ai ah:List Int}{w w' W W':World}{cs:List Value}{o:Oper}{aK:Ending->World->Prop}{a:Act}{ls:List (List Int)}{jm:Int}{v0 v1 v2 v3:Value}{t:TypeId}{m:List Bool}
section
open Go.RowKit Go.Shelf Go.Sort Go.Lib
structure qa where
 s:kf
 k9:Option Addr
 c1:Nat
 bn:Option Addr
 c2:Nat
 ic:Option Addr
 c3:Nat
 iu:Option Addr
 gF:Nat
 ij:Option Addr
 gL:Nat
 aB:Nat
 kind:Int
 bk:Option Addr
 bA:Nat
 aV:Nat
 bF:Option Addr
 bE:Nat
 bl:Nat
@[reducible] def qa.cells (d:qa) (n:Nat) (aM:Option Addr) (js aF:Nat):List Value:=[.int .i64 n,.slice aM js aF,.slice d.k9 d.s.es.length d.c1,.slice d.bn (n+1) d.c2,.slice d.ic n d.c3,.int .i64 d.s.aZ,.slice d.iu (n+1) d.gF,.slice d.ij d.s.aA.length d.gL]
@[reducible] def qa.w9 (d:qa):List Value:=[.int .i64 d.kind,.slice d.bk d.bA d.aV,.slice d.bF d.bE d.bl,.int .i64 (d.aB:Int)]
def qa.tN(d:qa)(n:Nat)(aM:Option Addr)(b aF:Nat):Value:=.tuple #[.agg (d.cells n aM b aF).toArray,.agg d.w9.toArray,.int .i64 0]
theorem qa.inj{d e:qa}{js:Nat}(h:d.tN n aM js aF=e.tN n aM js aF):d.cells n aM js aF=e.cells n aM js aF/\d.w9=e.w9:=by
 unfold qa.tN at h;injection h with h
 injection h with h
 injection h with h1 h
 injection h with b h
 injection h1 with h1
 injection b with b
 injection h1 with h1
 injection b with b
 exact⟨h1,b⟩
structure Cn(aT:Nat->Prop)(lo B n:Nat)(s:kf)(aM:Option Addr)(aF:Nat)(ai:List Int)(rem:Nat)(p:Nat×Nat)(d:qa)(w:World):Prop where
 kT:lo<p.1
 ok:oB n d.s
 gs:d.s.gs=s.gs
 es:d.s.es.length=s.es.length+d.aB
 aA:d.s.aA.length=s.aA.length+d.aB
 nt:d.aB<=rem
 pa:d.ij≠none->∃b off,d.ij=some ⟨b,off,none⟩
 sN:d.ij=none->d.s.aA.length=0/\d.gL=0
 rd:∀W':World,aC (λ b=>b<p.2/\¬(aT b\/(lo<=b/\b<p.1))) w W'->qs W' d.s aM aF d.k9 d.c1 d.bn d.c2 d.ic d.c3 d.iu d.gF d.ij d.gL/\nx (λ _=>True) W' s.gs ai n rem d.aB d.kind d.bk d.bA d.aV d.bF d.bE d.bl
theorem Cn.iR{lo:Nat}{rem:Nat}{p:Nat×Nat}{d:qa}(h:Cn aT lo B n s aM aF ai rem p d w)(f:aC (λ b=>b<p.2/\¬(aT b\/(lo<=b/\b<p.1))) w w'):Cn aT lo B n s aM aF ai rem p d w':=
 ⟨h.kT,h.ok,h.gs,h.es,h.aA,h.nt,h.pa,h.sN,λ W' c=>h.rd W' (f.trans c)⟩
def l6(aT:Nat->Prop)(lo j B n:Nat)(s:kf)(aM:Option Addr)(aF:Nat)(k:List Int)(b sp:Nat)(v0 v1 v2 v3 v4 v5 v6 l:Value)(gG:Option Addr)(bC gJ:Nat)(i:Nat)(p:Nat×Nat)(vals:Nat->Value)(w:World):Prop:=
 match i with
 |0=>vals 0=.pointer (some ⟨B,0,none⟩)
 |1=>vals 1=.pointer (some ⟨B,0,none⟩)
 |2=>vals 2=.pointer (some ⟨B,0,none⟩)
 |3=>vals 3=.agg #[v0,v1,v2,v3,v4,v5,v6,l]
 |4=>vals 4=.slice gG bC gJ
 |5=>vals 5=.pointer (some ⟨B,0,none⟩)
 |6=>vals 6=.pointer (some ⟨B,0,none⟩)
 |7=>vals 7=.pointer (some ⟨B,8,none⟩)
 |8=>vals 8=.agg #[.int .i64 b,.int .i64 sp]
 |9=>vals 9=.int .i64 ((b-sp:Nat):Int)
 |10=>∃d:qa,vals 10=d.tN n aM s.gs.length aF/\Cn aT lo B n s aM aF k (b-sp) p d w
 |11=>∃d:qa,vals 10=d.tN n aM s.gs.length aF/\vals 11=d.tN n aM s.gs.length aF
 |12=>∃d:qa,vals 10=d.tN n aM s.gs.length aF/\vals 12=.agg (d.cells n aM s.gs.length aF).toArray
 |13=>∃d:qa,vals 10=d.tN n aM s.gs.length aF/\vals 13=.agg d.w9.toArray
 |14=>vals 14=.int .i64 0
 |15=>vals 15=.pointer (some ⟨p.1,0,none⟩)/\p.1<p.2/\j<=p.1/\∃c e f g m o q r,aN w p.1 47 [c,e,f,g,m,o,q,r]
 |16=>vals 16=.pointer (some ⟨p.1,0,none⟩)/\p.1<p.2/\j<=p.1/\∃c e f g,aN w p.1 30 [c,e,f,g]
 |17=>∃(z:Nat)(d:qa),vals 15=.pointer (some ⟨z,0,none⟩)/\vals 10=d.tN n aM s.gs.length aF/\aN w z 47 (d.cells n aM s.gs.length aF)
 |18=>∃(z:Nat)(d:qa),vals 16=.pointer (some ⟨z,0,none⟩)/\vals 10=d.tN n aM s.gs.length aF/\aN w z 30 d.w9
 |_=>True
theorem l6.mono(aT:Nat->Prop)(lo o B n:Nat)(s:kf)(aM:Option Addr)(aF:Nat)(q:List Int)(r sp:Nat)(v0 v1 v2 v3 v4 v5 v6 t:Value)(gG:Option Addr)(bC gJ:Nat)(i:Nat)(p:Nat×Nat)(vals:Nat->Value)(w w':World)(f:Below w.heap.size w w')(hp:p.2<=w.heap.size)(h:l6 aT lo o B n s aM aF q r sp v0 v1 v2 v3 v4 v5 v6 t gG bC gJ i p vals w):l6 aT lo o B n s aM aF q r sp v0 v1 v2 v3 v4 v5 v6 t gG bC gJ i p vals w':=by
 match i,h with
 |0,h=>exact h
 |1,h=>exact h
 |2,h=>exact h
 |3,h=>exact h
 |4,h=>exact h
 |5,h=>exact h
 |6,h=>exact h
 |7,h=>exact h
 |8,h=>exact h
 |9,h=>exact h
 |11,h=>exact h
 |12,h=>exact h
 |13,h=>exact h
 |14,h=>exact h
 |10,h=>obtain⟨d,h1,c⟩:=h;exact⟨d,h1,c.iR (aC.pY f λ b f=>by omega)⟩
 |15,h=>obtain⟨h1,c,e,g,j,k,l,u,v,y,A,m⟩:=h;exact⟨h1,c,e,g,j,k,l,u,v,y,A,m.below f⟩
 |16,h=>obtain⟨h1,c,e,g,j,k,l,m⟩:=h;exact⟨h1,c,e,g,j,k,l,m.below f⟩
 |17,h=>obtain⟨z,d,h1,c,e⟩:=h;exact⟨z,d,h1,c,e.below f⟩
 |18,h=>obtain⟨z,d,h1,c,e⟩:=h;exact⟨z,d,h1,c,e.below f⟩
 |n+19,h=>trivial
theorem l6.xu(aT:Nat->Prop)(lo f B n:Nat)(s:kf)(aM:Option Addr)(aF:Nat)(g:List Int)(j sp:Nat)(v0 v1 v2 v3 v4 v5 v6 k:Value)(gG:Option Addr)(bC gJ:Nat):yj [[],[0],[1],[2],[],[],[5],[6],[7],[8],[3,4,9,9],[10],[11],[11],[11],[],[],[15,12,10,0,1,2,3,4,5,6,7,8,9,10,11,12,15,16],[16,13,17,0,1,2,3,4,5,6,7,8,9,10,11,12,13,15,16,17],[14,18,0,1,2,3,4,5,6,7,8,9,10,11,12,13,14,15,16,17,18]] (l6 aT lo f B n s aM aF g j sp v0 v1 v2 v3 v4 v5 v6 k gG bC gJ):=by
 intro i p vals rO w b h
 match i,b,h with
 |0,b,h=>exact(b 0 (.inl rfl)).symm.trans h
 |1,b,h=>exact(b 1 (.inl rfl)).symm.trans h
 |2,b,h=>exact(b 2 (.inl rfl)).symm.trans h
 |3,b,h=>exact(b 3 (.inl rfl)).symm.trans h
 |4,b,h=>exact(b 4 (.inl rfl)).symm.trans h
 |5,b,h=>exact(b 5 (.inl rfl)).symm.trans h
 |6,b,h=>exact(b 6 (.inl rfl)).symm.trans h
 |7,b,h=>exact(b 7 (.inl rfl)).symm.trans h
 |8,b,h=>exact(b 8 (.inl rfl)).symm.trans h
 |9,b,h=>exact(b 9 (.inl rfl)).symm.trans h
 |14,b,h=>exact(b 14 (.inl rfl)).symm.trans h
 |10,b,h=>obtain⟨d,h1,c⟩:=h;exact⟨d,(b 10 (.inl rfl)).symm.trans h1,c⟩
 |11,b,h=>obtain⟨d,h1,c⟩:=h;exact⟨d,(b 10 (.inr (by decide+kernel))).symm.trans h1,(b 11 (.inl rfl)).symm.trans c⟩
 |12,b,h=>obtain⟨d,h1,c⟩:=h;exact⟨d,(b 10 (.inr (by decide+kernel))).symm.trans h1,(b 12 (.inl rfl)).symm.trans c⟩
 |13,b,h=>obtain⟨d,h1,c⟩:=h;exact⟨d,(b 10 (.inr (by decide+kernel))).symm.trans h1,(b 13 (.inl rfl)).symm.trans c⟩
 |15,b,h=>exact⟨(b 15 (.inl rfl)).symm.trans h.1,h.2⟩
 |16,b,h=>exact⟨(b 16 (.inl rfl)).symm.trans h.1,h.2⟩
 |17,b,h=>obtain⟨z,d,h1,c,e⟩:=h;exact⟨z,d,(b 15 (.inr (by decide+kernel))).symm.trans h1,(b 10 (.inr (by decide+kernel))).symm.trans c,e⟩
 |18,b,h=>obtain⟨z,d,h1,c,e⟩:=h;exact⟨z,d,(b 16 (.inr (by decide+kernel))).symm.trans h1,(b 10 (.inr (by decide+kernel))).symm.trans c,e⟩
 |n+19,b,h=>trivial
structure HS(jl:World)(aT:Nat->Prop)(lo ak B n:Nat)(s:kf)(aM:Option Addr)(aF:Nat)(ai:List Int)(aW sp:Nat)(v0 v1 v2 v3 v4 v5 v6 jU:Value)(gG:Option Addr)(bC gJ:Nat):Prop where
 blk:aN jl B 155 [v0,v1,v2,v3,v4,v5,v6,jU,.int .i64 aW,.int .i64 sp]
 nt:sp<=aW
 p8:aW<=1099511627776
 lw:lo<ak
 hw:jl.heap.size=ak
 OO:∀W,Below jl.heap.size jl W->Calls v_ 36 #[.agg #[v0,v1,v2,v3,v4,v5,v6,jU],.slice gG bC gJ,.int .i64 ((aW-sp:Nat):Int)] W (D8 (λ b=>aT b\/(lo<=b/\b<W.heap.size)) W n s aM aF ai (aW-sp))
theorem HT:∀args w,(callFunc 36 args).run v_ w=.ok (.enter 36 args) w:=enters_of Tryz.func36 (by kernel_rfl) rfl
theorem OP:∀args w,(callFunc 140 args).run v_ w=.ok (.enter 140 args) w:=enters_of Tryz.func140 (by kernel_rfl) rfl
theorem OQ(I:World)(aT:Nat->Prop)(lo q B n:Nat)(s:kf)(aM:Option Addr)(aF:Nat)(r:List Int)(p sp:Nat)(v0 v1 v2 v3 v4 v5 v6 t:Value)(gG:Option Addr)(bC gJ:Nat)(C:HS I aT lo q B n s aM aF r p sp v0 v1 v2 v3 v4 v5 v6 t gG bC gJ):
  vZ v_ [some 9,some 10,some 11,some 12,some 13,some 14,some 15,some 16,some 17,some 18,some 19,some 8,some 20,some 21,some 22,some 5,some 6,none,none,some 7] [[],[0],[1],[2],[],[],[5],[6],[7],[8],[3,4,9,9],[10],[11],[11],[11],[],[],[15,12,10,0,1,2,3,4,5,6,7,8,9,10,11,12,15,16],[16,13,17,0,1,2,3,4,5,6,7,8,9,10,11,12,13,15,16,17],[14,18,0,1,2,3,4,5,6,7,8,9,10,11,12,13,14,15,16,17,18]] [(0,.pointer (some ⟨B,0,none⟩)),(1,.slice gG bC gJ)] (λ w=>Below I.heap.size I w) (l6 aT lo q B n s aM aF r p sp v0 v1 v2 v3 v4 v5 v6 t gG bC gJ) 0 ((rj Tryz.f77 1).take 19):=by
 have ar:=l6.mono aT lo q B n s aM aF r p sp v0 v1 v2 v3 v4 v5 v6 t gG bC gJ;have au:∀w w':World,Below I.heap.size I w->Below w.heap.size w w'->Below I.heap.size I w':=λ w w' k F=>k.trans (F.mono k.size)
 refine⟨?_,?_,?_,?_,?_,?_,?_,?_,?_,?_,?_,?_,?_,?_,?_,?_,?_,?_,?_,trivial⟩
 ·intro vals c w f k g D hp A;have aw:f (.tmp 0)=_:=D.1 rfl;simp only[bq,execOp,aw];simp[cF,go_sem];exact .same k rfl
 ·intro vals c w f k g D hp A;obtain⟨⟨f0,L⟩,-⟩:=(⟨g.1 rfl,trivial⟩:_/\True)
  have L:f (.tmp 9)=vals 0:=L _ rfl;have f0:vals 0=_:=f0 (w_ rfl);rw[f0] at L;simp only[bq,execOp,L];simp[cF,go_sem];exact .same k rfl
 ·intro vals c w f k g D hp A;obtain⟨⟨f1,M⟩,-⟩:=(⟨g.1 rfl,trivial⟩:_/\True)
  have M:f (.tmp 10)=vals 1:=M _ rfl;have f1:vals 1=_:=f1 (w_ rfl);rw[f1] at M;simp only[bq,execOp,M];simp[cF,go_sem];exact .same k rfl
 ·intro vals c w f k g D hp A;obtain⟨⟨f2,N⟩,-⟩:=(⟨g.1 rfl,trivial⟩:_/\True)
  have N:f (.tmp 11)=vals 2:=N _ rfl;have f2:vals 2=_:=f2 (w_ rfl);rw[f2] at N;have y:=(C.blk.below k).cell;have Y:=y 0;have Z:=y 1;have aa:=y 2;have ab:=y 3;have ai:=y 4;have aj:=y 5;have ak:=y 6;have al:=y 7;simp only[y_,x_] at Y Z aa ab ai aj ak al;simp only[bq,execOp,N];simp[cF,go_sem,Y,Z,aa,ab,ai,aj,ak,al];exact .same k rfl
 ·intro vals c w f k g D hp A;have aL:f (.tmp 1)=_:=D.2.1 rfl;simp only[bq,execOp,aL];simp[cF,go_sem];exact .same k rfl
 ·intro vals c w f k g D hp A;have aw:f (.tmp 0)=_:=D.1 rfl;simp only[bq,execOp,aw];simp[cF,go_sem];exact .same k rfl
 ·intro vals c w f k g D hp A;obtain⟨⟨f5,O⟩,-⟩:=(⟨g.1 rfl,trivial⟩:_/\True)
  have O:f (.tmp 14)=vals 5:=O _ rfl;have f5:vals 5=_:=f5 (w_ rfl);rw[f5] at O;simp only[bq,execOp,O];simp[cF,go_sem];exact .same k rfl
 ·intro vals c w f k g D hp A;obtain⟨⟨f6,P⟩,-⟩:=(⟨g.1 rfl,trivial⟩:_/\True)
  have P:f (.tmp 15)=vals 6:=P _ rfl;have f6:vals 6=_:=f6 (w_ rfl);rw[f6] at P;simp only[bq,execOp,P];simp[cF,go_sem];exact .same k rfl
 ·intro vals c w f k g D hp A;obtain⟨⟨f7,Q⟩,-⟩:=(⟨g.1 rfl,trivial⟩:_/\True)
  have Q:f (.tmp 16)=vals 7:=Q _ rfl;have f7:vals 7=_:=f7 (w_ rfl);rw[f7] at Q;have y:=(C.blk.below k).cell;have aI:=y 8;have aJ:=y 9;simp only[y_,x_] at aI aJ;simp only[bq,execOp,Q];simp[cF,go_sem,aI,aJ];exact .same k rfl
 ·intro vals c w f k g D hp A;obtain⟨⟨f8,R⟩,-⟩:=(⟨g.1 rfl,trivial⟩:_/\True)
  have R:f (.tmp 17)=vals 8:=R _ rfl;have f8:vals 8=_:=f8 (w_ rfl);rw[f8] at R;refine r4 140 #[.tmp 17] #[153] rfl OP hp ?_;simp only[k_,j_,i_,R];refine(OI w p sp C.nt C.p8).mono ?_;rintro e w' ⟨rfl,F⟩;exact⟨_,rfl,.more ar F (au w w' k F) rfl⟩
 ·intro vals c w f k g D hp A;obtain⟨⟨f3,S⟩,⟨f4,T⟩,⟨f9,U⟩,-⟩:=(⟨g.1 rfl,g.2.1 rfl,g.2.2.1 rfl,trivial⟩:_/\_/\_/\True)
  have S:f (.tmp 12)=vals 3:=S _ rfl;have f3:vals 3=_:=f3 (w_ rfl);rw[f3] at S;have T:f (.tmp 13)=vals 4:=T _ rfl;have f4:vals 4=_:=f4 (w_ rfl);rw[f4] at T;have U:f (.tmp 18)=vals 9:=U _ rfl;have f9:vals 9=_:=f9 (w_ rfl);rw[f9] at U;refine r4 36 #[.tmp 12,.tmp 13,.tmp 18] #[47,25,3] rfl HT hp ?_;simp only[k_,j_,i_,S,T,U];refine(C.OO w k).mono ?_;rintro e w' ⟨s',k9,c1,bn,c2,ic,c3,iu,gF,ij,gL,aB,kind,bk,bA,aV,bF,bE,bl,rfl,h1,J,ad,an,V,ax,ay,bh,F,aO,aP,aQ⟩;refine⟨_,rfl,.more ar F (au w w' k F) ⟨⟨s',k9,c1,bn,c2,ic,c3,iu,gF,ij,gL,aB,kind,bk,bA,aV,bF,bE,bl⟩,rfl,⟨by have:=k.size;have:=C.lw;have:=C.hw;show lo<w.heap.size;omega,J,ad,an,ax,ay,aP,λ e=>?_,aQ⟩⟩⟩;exact aO.2 e
 ·intro vals c w f k g D hp A;obtain⟨⟨f10,X⟩,-⟩:=(⟨g.1 rfl,trivial⟩:_/\True)
  have X:f (.tmp 19)=vals 10:=X _ rfl;replace f10:l6 aT lo q B n s aM aF r p sp v0 v1 v2 v3 v4 v5 v6 t gG bC gJ 10 (c 10) vals w:=f10 (w_ rfl);obtain⟨d,f10,-⟩:=f10;simp only[bq,execOp,X];simp[cF,go_sem];exact .same k ⟨d,f10,f10⟩
 ·intro vals c w f k g D hp A;obtain⟨⟨f11,E⟩,-⟩:=(⟨g.1 rfl,trivial⟩:_/\True)
  have E:f (.tmp 8)=vals 11:=E _ rfl;replace f11:l6 aT lo q B n s aM aF r p sp v0 v1 v2 v3 v4 v5 v6 t gG bC gJ 11 (c 11) vals w:=f11 (w_ rfl);obtain⟨d,f10,f11⟩:=f11;rw[f11] at E;simp only[bq,execOp,E,qa.tN];simp[cF,go_sem];exact .same k ⟨d,f10,rfl⟩
 ·intro vals c w f k g D hp A;obtain⟨⟨f11,E⟩,-⟩:=(⟨g.1 rfl,trivial⟩:_/\True)
  have E:f (.tmp 8)=vals 11:=E _ rfl;replace f11:l6 aT lo q B n s aM aF r p sp v0 v1 v2 v3 v4 v5 v6 t gG bC gJ 11 (c 11) vals w:=f11 (w_ rfl);obtain⟨d,f10,f11⟩:=f11;rw[f11] at E;simp only[bq,execOp,E,qa.tN];simp[cF,go_sem];exact .same k ⟨d,f10,rfl⟩
 ·intro vals c w f k g D hp A;obtain⟨⟨f11,E⟩,-⟩:=(⟨g.1 rfl,trivial⟩:_/\True)
  have E:f (.tmp 8)=vals 11:=E _ rfl;replace f11:l6 aT lo q B n s aM aF r p sp v0 v1 v2 v3 v4 v5 v6 t gG bC gJ 11 (c 11) vals w:=f11 (w_ rfl);obtain⟨d,f10,f11⟩:=f11;rw[f11] at E;simp only[bq,execOp,E,qa.tN];simp[cF,go_sem];exact .same k rfl
 ·intro vals c w f k g D hp A;simp only[bq,execOp];simp[cF,go_sem];exact .more ar (bB w _) (au w _ k (bB w _)) ⟨rfl,by simp,C.hw▸k.size,_,_,_,_,_,_,_,_,aN.new w 47 [.int .i64 0,.slice none 0 0,.slice none 0 0,.slice none 0 0,.slice none 0 0,.int .i64 0,.slice none 0 0,.slice none 0 0]⟩
 ·intro vals c w f k g D hp A;simp only[bq,execOp];simp[cF,go_sem];exact .more ar (bB w _) (au w _ k (bB w _)) ⟨rfl,by simp,C.hw▸k.size,_,_,_,_,aN.new w 30 [.int .i64 0,.slice none 0 0,.slice none 0 0,.int .i64 0]⟩
 ·intro vals c w f k g D hp A;obtain⟨⟨f15,ae⟩,⟨f12,af⟩,⟨f10,X⟩,⟨f0,L⟩,⟨f1,M⟩,⟨f2,N⟩,⟨f3,S⟩,⟨f4,T⟩,⟨f5,O⟩,⟨f6,P⟩,⟨f7,Q⟩,⟨f8,R⟩,⟨f9,U⟩,⟨f11,E⟩,⟨f16,ag⟩,-⟩:=(⟨g.1 rfl,g.2.1 rfl,g.2.2.1 rfl,g.2.2.2.1 rfl,g.2.2.2.2.1 rfl,g.2.2.2.2.2.1 rfl,g.2.2.2.2.2.2.1 rfl,g.2.2.2.2.2.2.2.1 rfl,g.2.2.2.2.2.2.2.2.1 rfl,g.2.2.2.2.2.2.2.2.2.1 rfl,g.2.2.2.2.2.2.2.2.2.2.1 rfl,g.2.2.2.2.2.2.2.2.2.2.2.1 rfl,g.2.2.2.2.2.2.2.2.2.2.2.2.1 rfl,g.2.2.2.2.2.2.2.2.2.2.2.2.2.2.1 rfl,g.2.2.2.2.2.2.2.2.2.2.2.2.2.2.2.2.2.2.2.1 rfl,trivial⟩:_/\_/\_/\_/\_/\_/\_/\_/\_/\_/\_/\_/\_/\_/\_/\True)
  have ae:f (.tmp 5)=vals 15:=ae _ rfl;replace f15:l6 aT lo q B n s aM aF r p sp v0 v1 v2 v3 v4 v5 v6 t gG bC gJ 15 (c 15) vals w:=f15 (w_ rfl);have af:f (.tmp 20)=vals 12:=af _ rfl;replace f12:l6 aT lo q B n s aM aF r p sp v0 v1 v2 v3 v4 v5 v6 t gG bC gJ 12 (c 12) vals w:=f12 (w_ rfl);have X:f (.tmp 19)=vals 10:=X _ rfl;replace f10:l6 aT lo q B n s aM aF r p sp v0 v1 v2 v3 v4 v5 v6 t gG bC gJ 10 (c 10) vals w:=f10 (w_ rfl);have L:f (.tmp 9)=vals 0:=L _ rfl;replace f0:l6 aT lo q B n s aM aF r p sp v0 v1 v2 v3 v4 v5 v6 t gG bC gJ 0 (c 0) vals w:=f0 (w_ rfl);have M:f (.tmp 10)=vals 1:=M _ rfl;replace f1:l6 aT lo q B n s aM aF r p sp v0 v1 v2 v3 v4 v5 v6 t gG bC gJ 1 (c 1) vals w:=f1 (w_ rfl);have N:f (.tmp 11)=vals 2:=N _ rfl;replace f2:l6 aT lo q B n s aM aF r p sp v0 v1 v2 v3 v4 v5 v6 t gG bC gJ 2 (c 2) vals w:=f2 (w_ rfl);have S:f (.tmp 12)=vals 3:=S _ rfl;replace f3:l6 aT lo q B n s aM aF r p sp v0 v1 v2 v3 v4 v5 v6 t gG bC gJ 3 (c 3) vals w:=f3 (w_ rfl);have T:f (.tmp 13)=vals 4:=T _ rfl;replace f4:l6 aT lo q B n s aM aF r p sp v0 v1 v2 v3 v4 v5 v6 t gG bC gJ 4 (c 4) vals w:=f4 (w_ rfl);have O:f (.tmp 14)=vals 5:=O _ rfl;replace f5:l6 aT lo q B n s aM aF r p sp v0 v1 v2 v3 v4 v5 v6 t gG bC gJ 5 (c 5) vals w:=f5 (w_ rfl);have P:f (.tmp 15)=vals 6:=P _ rfl;replace f6:l6 aT lo q B n s aM aF r p sp v0 v1 v2 v3 v4 v5 v6 t gG bC gJ 6 (c 6) vals w:=f6 (w_ rfl);have Q:f (.tmp 16)=vals 7:=Q _ rfl;replace f7:l6 aT lo q B n s aM aF r p sp v0 v1 v2 v3 v4 v5 v6 t gG bC gJ 7 (c 7) vals w:=f7 (w_ rfl);have R:f (.tmp 17)=vals 8:=R _ rfl;replace f8:l6 aT lo q B n s aM aF r p sp v0 v1 v2 v3 v4 v5 v6 t gG bC gJ 8 (c 8) vals w:=f8 (w_ rfl);have U:f (.tmp 18)=vals 9:=U _ rfl;replace f9:l6 aT lo q B n s aM aF r p sp v0 v1 v2 v3 v4 v5 v6 t gG bC gJ 9 (c 9) vals w:=f9 (w_ rfl);have E:f (.tmp 8)=vals 11:=E _ rfl;replace f11:l6 aT lo q B n s aM aF r p sp v0 v1 v2 v3 v4 v5 v6 t gG bC gJ 11 (c 11) vals w:=f11 (w_ rfl);have ag:f (.tmp 6)=vals 16:=ag _ rfl;replace f16:l6 aT lo q B n s aM aF r p sp v0 v1 v2 v3 v4 v5 v6 t gG bC gJ 16 (c 16) vals w:=f16 (w_ rfl);obtain⟨g15,aR,aS,aU,aW,aX,aY,bj,bo,bp,br,K⟩:=f15;obtain⟨d,g10,g12⟩:=f12;rw[g15] at ae;rw[g12] at af;have G:=K.free;have az:=G 0;have aD:=G 1;have aE:=G 2;have aG:=G 3;have a6:=G 4;have a7:=G 5;have a8:=G 6;have a':=G 7;have Y:=K.cell 0;have Z:=K.cell 1;have aa:=K.cell 2;have ab:=K.cell 3;have ai:=K.cell 4;have aj:=K.cell 5;have ak:=K.cell 6;have al:=K.cell 7;simp only[y_,x_] at Y Z aa ab ai aj ak al;have ba:=A.2 10 15 (by decide) rfl rfl;have bb:=A.2 16 15 (by decide) rfl rfl;have bs:=f16.2.1;have ao:=aN.vt K (.int .i64 n) (.slice aM s.gs.length aF) (.slice d.k9 d.s.es.length d.c1) (.slice d.bn (n+1) d.c2) (.slice d.ic n d.c3) (.int .i64 d.s.aZ) (.slice d.iu (n+1) d.gF) (.slice d.ij d.s.aA.length d.gL);have H:∀(u:World)(i:Nat)(v:Value),aC (λ b=>b≠(c 15).1) u (u.setCell ⟨(c 15).1,i,none⟩ v):=λ u i v=>aC.set _ i v (λ h=>h rfl)
  have f1:aC (λ b=>b≠(c 15).1) w _:=((((((((H w 0 (.int .i64 n)).trans (H _ 1 (.slice aM s.gs.length aF))).trans (H _ 2 (.slice d.k9 d.s.es.length d.c1))).trans (H _ 3 (.slice d.bn (n+1) d.c2))).trans (H _ 4 (.slice d.ic n d.c3))).trans (H _ 5 (.int .i64 d.s.aZ))).trans (H _ 6 (.slice d.iu (n+1) d.gF))).trans (H _ 7 (.slice d.ij d.s.aA.length d.gL)))
  simp only[bq,execOp,ae,af];simp[cF,go_sem,az,aD,aE,aG,a6,a7,a8,a',Y,Z,aa,ab,ai,aj,ak,al];generalize (((((((w.setCell ⟨(c 15).1,0,none⟩ (.int .i64 n)).setCell ⟨(c 15).1,1,none⟩ (.slice aM s.gs.length aF)).setCell ⟨(c 15).1,2,none⟩ (.slice d.k9 d.s.es.length d.c1)).setCell ⟨(c 15).1,3,none⟩ (.slice d.bn (n+1) d.c2)).setCell ⟨(c 15).1,4,none⟩ (.slice d.ic n d.c3)).setCell ⟨(c 15).1,5,none⟩ (.int .i64 d.s.aZ)).setCell ⟨(c 15).1,6,none⟩ (.slice d.iu (n+1) d.gF)).setCell ⟨(c 15).1,7,none⟩ (.slice d.ij d.s.aA.length d.gL)=W at*;have bc:=C.lw;have bt:=K.lt;have aH:Below I.heap.size I W:=k.trans ⟨f1.os,f1.tape,f1.output,f1.size,λ b F=>f1.keep b (by have:=C.hw;omega)⟩;refine⟨aH,f1.size,⟨(c 15).1,d,g15,g10,ao⟩,λ j l m hs o h=>?_⟩
  match j,l,m,hs,o,h with
  |0,l,m,hs,o,h=>exact h
  |1,l,m,hs,o,h=>exact h
  |2,l,m,hs,o,h=>exact h
  |3,l,m,hs,o,h=>exact h
  |4,l,m,hs,o,h=>exact h
  |5,l,m,hs,o,h=>exact h
  |6,l,m,hs,o,h=>exact h
  |7,l,m,hs,o,h=>exact h
  |8,l,m,hs,o,h=>exact h
  |9,l,m,hs,o,h=>exact h
  |11,l,m,hs,o,h=>exact h
  |12,l,m,hs,o,h=>exact h
  |13,l,m,hs,o,h=>exact h
  |14,l,m,hs,o,h=>exact h
  |10,l,m,hs,o,h=>obtain⟨aq,h1,J⟩:=h;exact⟨aq,h1,J.iR (f1.mono λ b F e=>by have ax:¬(lo<=b/\b<(c 10).1):=λ h=>F.2 (.inr h);have ay:=F.1;clear F;subst e;rcases ba with V|V<;>omega)⟩
  |15,l,m,hs,o,h=>exact⟨g15,aR,aS,_,_,_,_,_,_,_,_,ao⟩
  |16,l,m,hs,o,h=>obtain⟨h1,J,ad,m0,m1,m2,m3,an⟩:=h;exact⟨h1,J,ad,m0,m1,m2,m3,f1.blk an (λ e=>by rcases bb with V|V<;>omega)⟩
  |17,l,m,hs,o,h=>exact absurd rfl l
  |18,l,m,hs,o,h=>exact absurd m (by decide+kernel)
  |n+19,l,m,hs,o,h=>trivial
 ·intro vals c w f k g D hp A;obtain⟨⟨f16,ag⟩,⟨f13,av⟩,⟨f17,bu⟩,⟨f0,L⟩,⟨f1,M⟩,⟨f2,N⟩,⟨f3,S⟩,⟨f4,T⟩,⟨f5,O⟩,⟨f6,P⟩,⟨f7,Q⟩,⟨f8,R⟩,⟨f9,U⟩,⟨f10,X⟩,⟨f11,E⟩,⟨f12,af⟩,⟨f15,ae⟩,-⟩:=(⟨g.1 rfl,g.2.1 rfl,g.2.2.1 rfl,g.2.2.2.1 rfl,g.2.2.2.2.1 rfl,g.2.2.2.2.2.1 rfl,g.2.2.2.2.2.2.1 rfl,g.2.2.2.2.2.2.2.1 rfl,g.2.2.2.2.2.2.2.2.1 rfl,g.2.2.2.2.2.2.2.2.2.1 rfl,g.2.2.2.2.2.2.2.2.2.2.1 rfl,g.2.2.2.2.2.2.2.2.2.2.2.1 rfl,g.2.2.2.2.2.2.2.2.2.2.2.2.1 rfl,g.2.2.2.2.2.2.2.2.2.2.2.2.2.1 rfl,g.2.2.2.2.2.2.2.2.2.2.2.2.2.2.1 rfl,g.2.2.2.2.2.2.2.2.2.2.2.2.2.2.2.1 rfl,g.2.2.2.2.2.2.2.2.2.2.2.2.2.2.2.2.2.2.1 rfl,trivial⟩:_/\_/\_/\_/\_/\_/\_/\_/\_/\_/\_/\_/\_/\_/\_/\_/\_/\True)
  have ag:f (.tmp 6)=vals 16:=ag _ rfl;replace f16:l6 aT lo q B n s aM aF r p sp v0 v1 v2 v3 v4 v5 v6 t gG bC gJ 16 (c 16) vals w:=f16 (w_ rfl);have av:f (.tmp 21)=vals 13:=av _ rfl;replace f13:l6 aT lo q B n s aM aF r p sp v0 v1 v2 v3 v4 v5 v6 t gG bC gJ 13 (c 13) vals w:=f13 (w_ rfl);replace f17:l6 aT lo q B n s aM aF r p sp v0 v1 v2 v3 v4 v5 v6 t gG bC gJ 17 (c 17) vals w:=f17 (w_ rfl);have L:f (.tmp 9)=vals 0:=L _ rfl;replace f0:l6 aT lo q B n s aM aF r p sp v0 v1 v2 v3 v4 v5 v6 t gG bC gJ 0 (c 0) vals w:=f0 (w_ rfl);have M:f (.tmp 10)=vals 1:=M _ rfl;replace f1:l6 aT lo q B n s aM aF r p sp v0 v1 v2 v3 v4 v5 v6 t gG bC gJ 1 (c 1) vals w:=f1 (w_ rfl);have N:f (.tmp 11)=vals 2:=N _ rfl;replace f2:l6 aT lo q B n s aM aF r p sp v0 v1 v2 v3 v4 v5 v6 t gG bC gJ 2 (c 2) vals w:=f2 (w_ rfl);have S:f (.tmp 12)=vals 3:=S _ rfl;replace f3:l6 aT lo q B n s aM aF r p sp v0 v1 v2 v3 v4 v5 v6 t gG bC gJ 3 (c 3) vals w:=f3 (w_ rfl);have T:f (.tmp 13)=vals 4:=T _ rfl;replace f4:l6 aT lo q B n s aM aF r p sp v0 v1 v2 v3 v4 v5 v6 t gG bC gJ 4 (c 4) vals w:=f4 (w_ rfl);have O:f (.tmp 14)=vals 5:=O _ rfl;replace f5:l6 aT lo q B n s aM aF r p sp v0 v1 v2 v3 v4 v5 v6 t gG bC gJ 5 (c 5) vals w:=f5 (w_ rfl);have P:f (.tmp 15)=vals 6:=P _ rfl;replace f6:l6 aT lo q B n s aM aF r p sp v0 v1 v2 v3 v4 v5 v6 t gG bC gJ 6 (c 6) vals w:=f6 (w_ rfl);have Q:f (.tmp 16)=vals 7:=Q _ rfl;replace f7:l6 aT lo q B n s aM aF r p sp v0 v1 v2 v3 v4 v5 v6 t gG bC gJ 7 (c 7) vals w:=f7 (w_ rfl);have R:f (.tmp 17)=vals 8:=R _ rfl;replace f8:l6 aT lo q B n s aM aF r p sp v0 v1 v2 v3 v4 v5 v6 t gG bC gJ 8 (c 8) vals w:=f8 (w_ rfl);have U:f (.tmp 18)=vals 9:=U _ rfl;replace f9:l6 aT lo q B n s aM aF r p sp v0 v1 v2 v3 v4 v5 v6 t gG bC gJ 9 (c 9) vals w:=f9 (w_ rfl);have X:f (.tmp 19)=vals 10:=X _ rfl;replace f10:l6 aT lo q B n s aM aF r p sp v0 v1 v2 v3 v4 v5 v6 t gG bC gJ 10 (c 10) vals w:=f10 (w_ rfl);have E:f (.tmp 8)=vals 11:=E _ rfl;replace f11:l6 aT lo q B n s aM aF r p sp v0 v1 v2 v3 v4 v5 v6 t gG bC gJ 11 (c 11) vals w:=f11 (w_ rfl);have af:f (.tmp 20)=vals 12:=af _ rfl;replace f12:l6 aT lo q B n s aM aF r p sp v0 v1 v2 v3 v4 v5 v6 t gG bC gJ 12 (c 12) vals w:=f12 (w_ rfl);have ae:f (.tmp 5)=vals 15:=ae _ rfl;replace f15:l6 aT lo q B n s aM aF r p sp v0 v1 v2 v3 v4 v5 v6 t gG bC gJ 15 (c 15) vals w:=f15 (w_ rfl);obtain⟨g16,bd,bf,aU,aW,aX,aY,ah⟩:=f16;obtain⟨d,g10,g13⟩:=f13;rw[g16] at ag;rw[g13] at av;have G:=ah.free;have az:=G 0;have aD:=G 1;have aE:=G 2;have aG:=G 3;have Y:=ah.cell 0;have Z:=ah.cell 1;have aa:=ah.cell 2;have ab:=ah.cell 3;simp only[y_,x_] at Y Z aa ab;have bg:=A.2 10 16 (by decide) rfl rfl;have aK:=A.2 15 16 (by decide) rfl rfl;have g15:=f15.1;have bw:=f15.2.1;have ao:=(((ah.set 0 (.int .i64 d.kind)).set 1 (.slice d.bk d.bA d.aV)).set 2 (.slice d.bF d.bE d.bl)).set 3 (.int .i64 (d.aB:Int));have H:∀(u:World)(i:Nat)(v:Value),aC (λ b=>b≠(c 16).1) u (u.setCell ⟨(c 16).1,i,none⟩ v):=λ u i v=>aC.set _ i v (λ h=>h rfl)
  have f1:aC (λ b=>b≠(c 16).1) w _:=(((H w 0 (.int .i64 d.kind)).trans (H _ 1 (.slice d.bk d.bA d.aV))).trans (H _ 2 (.slice d.bF d.bE d.bl))).trans (H _ 3 (.int .i64 (d.aB:Int)));simp only[bq,execOp,ag,av];simp[cF,go_sem,az,aD,aE,aG,Y,Z,aa,ab];generalize (((w.setCell ⟨(c 16).1,0,none⟩ (.int .i64 d.kind)).setCell ⟨(c 16).1,1,none⟩ (.slice d.bk d.bA d.aV)).setCell ⟨(c 16).1,2,none⟩ (.slice d.bF d.bE d.bl)).setCell ⟨(c 16).1,3,none⟩ (.int .i64 (d.aB:Int))=W at*;have bc:=C.lw;have aH:Below I.heap.size I W:=k.trans ⟨f1.os,f1.tape,f1.output,f1.size,λ b F=>f1.keep b (by have:=C.hw;omega)⟩;refine⟨aH,f1.size,⟨(c 16).1,d,g16,g10,ao⟩,λ j l m hs o h=>?_⟩
  match j,l,m,hs,o,h with
  |0,l,m,hs,o,h=>exact h
  |1,l,m,hs,o,h=>exact h
  |2,l,m,hs,o,h=>exact h
  |3,l,m,hs,o,h=>exact h
  |4,l,m,hs,o,h=>exact h
  |5,l,m,hs,o,h=>exact h
  |6,l,m,hs,o,h=>exact h
  |7,l,m,hs,o,h=>exact h
  |8,l,m,hs,o,h=>exact h
  |9,l,m,hs,o,h=>exact h
  |11,l,m,hs,o,h=>exact h
  |12,l,m,hs,o,h=>exact h
  |13,l,m,hs,o,h=>exact h
  |14,l,m,hs,o,h=>exact h
  |10,l,m,hs,o,h=>obtain⟨aq,h1,J⟩:=h;exact⟨aq,h1,J.iR (f1.mono λ b F e=>by have ax:¬(lo<=b/\b<(c 10).1):=λ h=>F.2 (.inr h);have ay:=F.1;clear F;subst e;rcases bg with V|V<;>omega)⟩
  |15,l,m,hs,o,h=>obtain⟨h1,J,ad,m0,m1,m2,m3,m4,m5,m6,m7,an⟩:=h;exact⟨h1,J,ad,m0,m1,m2,m3,m4,m5,m6,m7,f1.blk an (λ e=>by rcases aK with V|V<;>omega)⟩
  |16,l,m,hs,o,h=>exact⟨g16,bd,bf,_,_,_,_,ao⟩
  |17,l,m,hs,o,h=>obtain⟨z,aq,h1,J,ad⟩:=h;exact⟨z,aq,h1,J,f1.blk ad (λ e=>by rw[g15] at h1;simp at h1;rcases aK with V|V<;>omega)⟩
  |18,l,m,hs,o,h=>exact absurd rfl l
  |n+19,l,m,hs,o,h=>trivial
theorem Co(m:qY aT w B n s aM aF ia cl A c A' c' fM bD aQ aU aW sp){gG:Option Addr}{bC gJ:Nat}{ai:List Int}(ag:aS w gG bC gJ ai)(hl:∀x∈ai,gW n x)(ah:(ai.map aG).Nodup)(bf:bC<=1000):
  Calls v_ 77 #[.pointer (some ⟨B,0,none⟩),.slice gG bC gJ] w (OL aT w B n s aM aF ai aW sp):=by
 have q:=bB w (.cells #[.int .i64 0,.slice none 0 0,.slice none 0 0,.int .i64 0] 30);have aj:aN (w.alloc (.cells #[.int .i64 0,.slice none 0 0,.slice none 0 0,.int .i64 0] 30)) w.heap.size 30 [.int .i64 0,.slice none 0 0,.slice none 0 0,.int .i64 0]:=aN.new w 30 _;have R:=m.blk.below q;have ak:(w.alloc (.cells #[.int .i64 0,.slice none 0 0,.slice none 0 0,.int .i64 0] 30)).heap.size=w.heap.size+1:=by simp
 have bg:=m.blk.lt;go_enter Tryz.func77,Tryz.ntmps77
 go_upto_region 1 with fail
 generalize w.alloc (.cells #[.int .i64 0,.slice none 0 0,.slice none 0 0,.int .i64 0] 30)=w1 at*;have bh:=m.pl;have bj:=m.ok.mT;have bo:=xo m.n10;have al:s.aA.length<=549755813888:=by omega
 have an:=m.p8;have H:=m.nt;have ao:HS w1 aT w.heap.size w1.heap.size B n s aM aF ai aW sp (.int .i64 n) (.slice aM s.gs.length aF) (.slice ia s.es.length cl) (.slice A (n+1) c) (.slice A' n c') (.int .i64 s.aZ) (.slice fM (n+1) bD) (.slice aQ s.aA.length aU) gG bC gJ:=by
  refine⟨R,H,an,by omega,rfl,λ W I=>?_⟩;have bp:rT W (λ b=>aT b\/(w.heap.size<=b/\b<W.heap.size)) s aM aF ia cl A c A' c' fM bD aQ aU:=λ W' f=>m.Cl W' ((aC.pY (q.trans (I.mono q.size)) λ b j=>j.1).trans (f.mono λ b j=>⟨by have:=I.size;omega,λ h=>h.elim j.2 (λ h=>by have:=j.1;omega)⟩))
  have:=HC (aW-sp) m.ok m.n10 bp ((ag.below q).below I) hl ah bf (by omega) m.bz al m.sN m.pa (λ b j=>by have bP:=I.size;exact j.elim (λ h=>by have:=m.dl b h;omega) (λ h=>h.2));unfold p9 at this;exact this
 have aq:=aa (OQ w1 aT w.heap.size w1.heap.size B n s aM aF ai aW sp _ _ _ _ _ _ _ _ gG bC gJ ao);have l:=aa (z_ m (z_ aj (z_ q (z_ R (z_ ak bg)))));clear m aj q R bh bj bo al an H ag hl ah ak ao;refine Eg (rj Tryz.f77 1) 19 42 _ _ [(0,.pointer (some ⟨B,0,none⟩)),(1,.slice gG bC gJ)] _ (l6 aT w.heap.size w1.heap.size B n s aM aF ai aW sp (.int .i64 n) (.slice aM s.gs.length aF) (.slice ia s.es.length cl) (.slice A (n+1) c) (.slice A' n c') (.int .i64 s.aZ) (.slice fM (n+1) bD) (.slice aQ s.aA.length aU) gG bC gJ) (by kernel_rfl) (by kernel_rfl) (by kernel_rfl) (by kernel_rfl) (by kernel_rfl) (by decide+kernel) (by decide+kernel) (by decide+kernel) (by decide+kernel) (by decide+kernel) rfl ⟨rfl,rfl,trivial⟩ (l6.xu _ _ _ _ _ _ _ _ _ _ _ _ _ _ _ _ _ _ _ _ _ _) ((s_ _ _).drew) aq.o _ rfl ?_;intro vals ar F au r S bQ av;obtain⟨d,g10,hF⟩:=r 10 (by omega);obtain⟨aw,d1,g15,ax,T⟩:=r 17 (by omega);obtain⟨z2,d2,g16,ay,U⟩:=r 18 (by omega);have f14:vals 14=.int .i64 0:=r 14 (by omega);rw[<-(qa.inj (g10.symm.trans ax)).1] at T;rw[<-(qa.inj (g10.symm.trans ay)).2] at U;have J:aw≠z2:=by
  have g:=r 15 (by omega);have az:=r 16 (by omega);have t:=g15.symm.trans g.1;have br:=g16.symm.trans az.1;simp at t br;have h1:=g.2.1;have bs:=az.2.1;have K:=S.2 15 16 (by decide) rfl rfl;rcases K with K|K<;>omega
 have aD:w1.heap.size<=aw:=by
  have g:=r 15 (by omega);have t:=g15.symm.trans g.1;simp at t;rw[t];exact g.2.2.1
 have aE:w1.heap.size<=z2:=by
  have g:=r 16 (by omega);have t:=g16.symm.trans g.1;simp at t;rw[t];exact g.2.2.1
 simp only[nZ,Act.put,List.take,g15,g16,f14] at av;subst av;have k:=aa (z_ hF (z_ T (z_ U (z_ J (z_ aD (z_ aE au))))));have aH:fE ((ar 10).2<=F.heap.size):=aa (S.1 10 rfl).2;generalize hp:ar 10=p at k aH;clear au r S g10 ax ay g15 g16 f14 hF T U J aD aE aq hp;simp only[bq,execOp];simp[cF,go_sem,Act.eval,Act.put];have E:=l.o.2.2.2.1.below k.o.2.2.2.2.2.2;have aI:=E.cell 8;have L:=E.cell 9;have x:=k.o.2.1.cell;have aJ:=x 0;have aK:=x 1;have aL:=x 2;have aO:=x 3;have aP:=x 4;have aR:=x 5;have aX:=x 6;have aY:=x 7;have u:=k.o.2.2.1.cell;have M:=u 0;have N:=u 1;have O:=u 2;have P:=u 3;simp only[y_,x_] at aI L aJ aK aL aO aP aR aX aY M N O P;have y:=E.free;have bt:=y 0;have bu:=y 1;have bw:=y 2;have bx:=y 3;have bG:=y 4;have bH:=y 5;have bI:=y 6;have bJ:=y 7;have z:=E.cell;have a6:=z 0;have c1:=z 1;have c2:=z 2;have c3:=z 3;have gF:=z 4;have gL:=z 5;have a7:=z 6;have a8:=z 7;simp only[y_,x_] at a6 c1 c2 c3 gF gL a7 a8;have V:fE (aN _ B 155 [.int .i64 n,.slice aM s.gs.length aF,.slice d.k9 d.s.es.length d.c1,.slice d.bn (n+1) d.c2,.slice d.ic n d.c3,.int .i64 d.s.aZ,.slice d.iu (n+1) d.gF,.slice d.ij d.s.aA.length d.gL,.int .i64 aW,.int .i64 sp]):=aa ((((((((E.set 0 (.int .i64 n)).set 1 (.slice aM s.gs.length aF)).set 2 (.slice d.k9 d.s.es.length d.c1)).set 3 (.slice d.bn (n+1) d.c2)).set 4 (.slice d.ic n d.c3)).set 5 (.int .i64 d.s.aZ)).set 6 (.slice d.iu (n+1) d.gF)).set 7 (.slice d.ij d.s.aA.length d.gL));have g:∀(u:World)(i:Nat)(v:Value),aC (λ b=>b≠B) u (u.setCell ⟨B,i,none⟩ v):=λ u i v=>aC.set _ i v (λ h=>h rfl)
 have X:fE (aC (λ b=>b≠B) F _):=aa ((((((((g F 0 (.int .i64 n)).trans (g _ 1 (.slice aM s.gs.length aF))).trans (g _ 2 (.slice d.k9 d.s.es.length d.c1))).trans (g _ 3 (.slice d.bn (n+1) d.c2))).trans (g _ 4 (.slice d.ic n d.c3))).trans (g _ 5 (.int .i64 d.s.aZ))).trans (g _ 6 (.slice d.iu (n+1) d.gF))).trans (g _ 7 (.slice d.ij d.s.aA.length d.gL)));clear x u E y z g
 go_upto_region 5 with fail
 generalize (((((((F.setCell ⟨B,0,none⟩ (.int .i64 n)).setCell ⟨B,1,none⟩ (.slice aM s.gs.length aF)).setCell ⟨B,2,none⟩ (.slice d.k9 d.s.es.length d.c1)).setCell ⟨B,3,none⟩ (.slice d.bn (n+1) d.c2)).setCell ⟨B,4,none⟩ (.slice d.ic n d.c3)).setCell ⟨B,5,none⟩ (.int .i64 d.s.aZ)).setCell ⟨B,6,none⟩ (.slice d.iu (n+1) d.gF)).setCell ⟨B,7,none⟩ (.slice d.ij d.s.aA.length d.gL)=Q at*;clear bt bu bw bx bG bH bI bJ a6 c1 c2 c3 gF gL a7 a8 aJ aK aL aO aP aR aX aY aI L M N O P;have a':z2≠B:=λ e=>by have:=k.o.2.2.2.2.2.1;have:=l.o.2.2.2.2.1;omega
 have Y:=X.o.blk k.o.2.2.1 a';have L:=V.o.cell 9;have f9:=V.o.free 9;have u:=Y.cell;have M:=u 0;have N:=u 1;have O:=u 2;have P:=u 3;simp only[y_,x_] at L M N O P;have ba:w.heap.size≠B:=λ e=>by have:=l.o.2.2.2.2.2;omega
 have D:=X.o.blk (l.o.2.1.below k.o.2.2.2.2.2.2) ba;have v:=D.cell;have v0:=v 0;have v1:=v 1;have v2:=v 2;have v3:=v 3;have g0:=D.free 0;have g1:=D.free 1;have g2:=D.free 2;have g3:=D.free 3;simp only[y_,x_] at v0 v1 v2 v3;have bb:sp+d.aB<=1099511627776:=by have:=k.o.1.nt;have:=l.o.1.nt;have:=l.o.1.p8;omega
 have wn:n_.wrap ((sp:Int)+(d.aB:Int))=(sp:Int)+(d.aB:Int):=by rw[r_];omega
 have bR:wrap64 ((sp:Int)+(d.aB:Int))=(sp:Int)+(d.aB:Int):=by unfold wrap64;omega
 have Z:=aa (z_ bb (z_ a' (z_ ba (z_ Y D))));clear u v Y D bb;rename_i bK bc;have bL:=aa bc;clear bc;refine wp_region_noPanic ?_
 go_region_law (fail)
 all_goals
  show bK _ _;apply bL.o
  go_wp2_with fail
 all_goals
  have f5:aC (λ b=>b≠B) Q (Q.setCell ⟨B,9,none⟩ (.int .i64 ((sp:Int)+(d.aB:Int)))):=aC.set _ _ _ (λ h=>h rfl);have bM:aN (Q.setCell ⟨B,9,none⟩ (.int .i64 ((sp:Int)+(d.aB:Int)))) B 155 [.int .i64 n,.slice aM s.gs.length aF,.slice d.k9 d.s.es.length d.c1,.slice d.bn (n+1) d.c2,.slice d.ic n d.c3,.int .i64 d.s.aZ,.slice d.iu (n+1) d.gF,.slice d.ij d.s.aA.length d.gL,.int .i64 aW,.int .i64 ((sp:Int)+(d.aB:Int))]:=V.o.set 9 _;have bN:=f5.blk Z.o.2.2.2.2 Z.o.2.2.1;generalize Q.setCell ⟨B,9,none⟩ (.int .i64 ((sp:Int)+(d.aB:Int)))=ab at*;have ad:=(((bN.set 0 (.int .i64 d.kind)).set 1 (.slice d.bk d.bA d.aV)).set 2 (.slice d.bF d.bE d.bl)).set 3 (.int .i64 (d.aB:Int));have g:∀(u:World)(i:Nat)(v:Value),aC (λ b=>b≠w.heap.size) u (u.setCell ⟨w.heap.size,i,none⟩ v):=λ u i v=>aC.set _ i v (λ h=>h rfl)
  have f6:aC (λ b=>b≠w.heap.size) ab _:=(((g ab 0 (.int .i64 d.kind)).trans (g _ 1 (.slice d.bk d.bA d.aV))).trans (g _ 2 (.slice d.bF d.bE d.bl))).trans (g _ 3 (.int .i64 (d.aB:Int)));have ae:=f6.blk bM (λ e=>Z.o.2.2.1 e.symm);generalize (((ab.setCell ⟨w.heap.size,0,none⟩ (.int .i64 d.kind)).setCell ⟨w.heap.size,1,none⟩ (.slice d.bk d.bA d.aV)).setCell ⟨w.heap.size,2,none⟩ (.slice d.bF d.bE d.bl)).setCell ⟨w.heap.size,3,none⟩ (.int .i64 (d.aB:Int))=bO at*;replace ad:=ad.below (s_ _ _).drew;replace ae:=ae.below (s_ _ _).drew;replace f6:=f6.trans aC.drew;generalize bO.drew=W at*;have C:aC (λ b=>b≠B/\b≠w.heap.size) F W:=((X.o.mono λ b j=>j.1).trans (f5.mono λ b j=>j.1)).trans (f6.mono λ b j=>j.2);have bS:=k.o.1.kT;have bd:∀W',aC (λ b=>b<W.heap.size/\¬aT b) W W'->_:=λ W' f=>k.o.1.rd W' ((C.mono λ b j=>⟨λ e=>j.2 (.inl (e▸l.o.1.jF)),λ e=>j.2 (.inr (by omega))⟩).trans (f.mono λ b j=>⟨by have:=aH.o;have:=C.size;omega,λ e=>j.2 (.inl e)⟩))
  have t:((sp+d.aB:Nat):Int)=(sp:Int)+(d.aB:Int):=by omega
  have af:=k.o.1.gs;have bT:=k.o.1.es;have bU:=k.o.1.aA;have H:=k.o.1.nt;have bV:=l.o.1.nt;have bW:=l.o.1.pl;have bX:=l.o.1.el;refine OJ rfl rfl ad ⟨d.s,d.k9,d.c1,d.bn,d.c2,d.ic,d.c3,d.iu,d.gF,d.ij,d.gL,d.aB,d.kind,d.bk,d.bA,d.aV,d.bF,d.bE,d.bl,rfl,⟨?_,l.o.1.jF,λ b j=>(by have h1:=l.o.1.dl b j;have bs:=k.o.2.2.2.2.2.2.size;have K:=l.o.2.2.1.size;have bY:=C.size;omega),λ W' f=>(bd W' f).1,k.o.1.ok,l.o.1.n10,by omega,l.o.1.p8,by rw[af];exact l.o.1.bz,by omega,by omega,k.o.1.sN,k.o.1.pa⟩,af,H,(bd W aC.refl).2,?_⟩
  ·rw[t,af];exact ae
  ·have q:=l.o.2.2.1;have G:=k.o.2.2.2.2.2.2;have bZ:=l.o.2.2.2.2.1;refine⟨C.os.trans (G.os.trans q.os),C.tape.trans (G.tape.trans q.tape),C.output.trans (G.output.trans q.output),q_ q.size (q_ G.size C.size),λ b j J=>?_⟩;exact(C.keep b ⟨λ e=>J (by rw[e]),by omega⟩).trans ((G.block b (by omega)).trans (q.block b j))
structure qI(w:World)(n:Nat)(s:kf)(aM:Option Addr)(aF:Nat)(ia:Option Addr)(cl:Nat)(A:Option Addr)(c:Nat)(A':Option Addr)(c':Nat)(fM:Option Addr)(bD:Nat)(aQ:Option Addr)(aU:Nat):Prop where
 aK:qs w s aM aF ia cl A c A' c' fM bD aQ aU
 O:oB n s
 ja:s.es=[]
 pl:s.aA.length=s.gs.length
 sN:aQ=none->s.aA.length=0/\aU=0
 x2:aM=none->s.gs.length=0/\aF=0
 pp:Plain aQ
 Cq:Plain aM
theorem qI.below{w w':World}{n:Nat}{s:kf}{aM:Option Addr}{aF:Nat}{ia:Option Addr}{cl:Nat}{A:Option Addr}{c:Nat}{A':Option Addr}{c':Nat}{fM:Option Addr}{bD:Nat}{aQ:Option Addr}{aU:Nat}(h:qI w n s aM aF ia cl A c A' c' fM bD aQ aU)(b:Below w.heap.size w w'):qI w' n s aM aF ia cl A c A' c' fM bD aQ aU:=
 ⟨h.aK.below b,h.O,h.ja,h.pl,h.sN,h.x2,h.pp,h.Cq⟩
def rU(n:Nat):kf:=⟨n,[],[],rC (n+1),qL n,1,sk (n+1),[]⟩
theorem qI.new{w:World}{n:Nat}{A:Option Addr}{c:Nat}{A':Option Addr}{c':Nat}{fM:Option Addr}{bD:Nat}(k:n<=10)(d:aS w A (n+1) c (rC (n+1)))(f:aS w A' n c' (qL n))(i:kE w fM (n+1) bD (sk (n+1))):
  qI w n (rU n) none 0 none 0 A c A' c' fM bD none 0:=by
 have b:(sk (n+1)).length=n+1:=by simp[sk]
 refine⟨⟨kD.nil _ _ _ (u_ _),⟨rfl,u_ _,by simp[rU],u_ _,λ h=>(by simp[rU] at h),λ e he=>(by simp[rU] at he)⟩,?_,?_,?_,⟨rfl,u_ _,by simp[rU],u_ _,λ h=>(by simp[rU] at h),λ e he=>(by simp[rU] at he)⟩⟩,?_,rfl,rfl,λ _=>⟨rfl,rfl⟩,λ _=>⟨rfl,rfl⟩,.inl rfl,.inl rfl⟩
 ·show aS w A (rC (n+1)).length c _;rw[wq];exact d
 ·show aS w A' (qL n).length c' _;rw[wo];exact f
 ·show kE w fM (sk (n+1)).length bD _;rw[b];exact i
 ·refine⟨rfl,by simp[rU],λ g j=>(by simp[rU] at j),sK.new n (by omega),b,?_,λ e he=>(by simp[rU] at he),λ e he=>(by simp[rU] at he),List.Pairwise.nil,λ p hp=>(by simp[rU] at hp)⟩;simp[rU,sk,iU]
theorem qI.add{e:Ending}(S:qI w n s aM aF ia cl A c A' c' fM bD aQ aU)(P:HO w n s aM aF aQ aU ia cl A c A' c' fM bD ah e W):
  ∃(s':kf)(d:Option Addr)(f:Nat)(g:Option Addr)(i:Nat),e=.returned (.tuple #[.agg #[.int .i64 n,.slice d s'.gs.length f,.slice ia s'.es.length cl,.slice A (n+1) c,.slice A' n c',.int .i64 s'.aZ,.slice fM (n+1) bD,.slice g s'.aA.length i],.int .i64 0])/\qI W n s' d f ia cl A c A' c' fM bD g i/\s'.gs=s.gs++[ah]/\Below w.heap.size w W/\∀aT:Nat->Prop,(∀b,aT b->b<w.heap.size)->rT w aT s aM aF ia cl A c A' c' fM bD aQ aU->rT W aT s' d f ia cl A c A' c' fM bD g i:=by
 obtain⟨s',d,f,g,i,he,h1,k,j,l,t,u,m,o,p,q,r⟩:=P;refine⟨s',d,f,g,i,he,⟨h1,k,l.trans S.ja,?_,p.2,q,.inr ?_,.inr ?_⟩,j,o,r⟩
 ·rw[m,j,S.pl];simp
 ·obtain⟨b,off,e,_⟩:=h1.aA.cells (by omega);exact⟨b,off,e⟩
 ·obtain⟨b,off,e,_⟩:=h1.gs.cells (by rw[j];simp);exact⟨b,off,e⟩
theorem rT.set{gC:Nat}(S:rT w (λ b=>b=gC) s aM aF ia cl A c A' c' fM bD aQ aU)(f:aC (λ b=>b≠gC) w W):rT W (λ b=>b=gC) s aM aF ia cl A c A' c' fM bD aQ aU:=
 λ W' e=>S W' ((f.mono λ b d=>d.2).trans (e.mono λ b d=>⟨m_ d.1 f.size,d.2⟩))
theorem qI.r5(h:qI w n s aM aF ia cl A c A' c' fM bD aQ aU)(b:qs W s aM aF ia cl A c A' c' fM bD aQ aU):qI W n s aM aF ia cl A c A' c' fM bD aQ aU:=
 ⟨b,h.O,h.ja,h.pl,h.sN,h.x2,h.pp,h.Cq⟩
theorem aC.eight(v0 v1 v2 v3 v4 v5 v6 d:Value):aC (λ b=>b≠B) W ((((((((W.setCell ⟨B,0,none⟩ v0).setCell ⟨B,1,none⟩ v1).setCell ⟨B,2,none⟩ v2).setCell ⟨B,3,none⟩ v3).setCell ⟨B,4,none⟩ v4).setCell ⟨B,5,none⟩ v5).setCell ⟨B,6,none⟩ v6).setCell ⟨B,7,none⟩ d):=by
 have c:∀(u:World)(i:Nat)(v:Value),aC (λ b=>b≠B) u (u.setCell ⟨B,i,none⟩ v):=λ u i v=>aC.set _ i v (λ h=>h rfl)
 exact(((((((c W 0 v0).trans (c _ 1 v1)).trans (c _ 2 v2)).trans (c _ 3 v3)).trans (c _ 4 v4)).trans (c _ 5 v5)).trans (c _ 6 v6)).trans (c _ 7 d)
end
section
open Go.RowKit Go.Shelf
theorem OR{nw:Option Addr}{jY bH:Nat}(O:oB n s)(ab:n<=10)(D:qs w s aM aF ia cl A c A' c' fM bD aQ aU)(E:aS w nw jY bH ah)(l:¬lq n [ah]=0):
  Calls v_ 46 #[p9 n aM s.gs.length aF ia s.es.length cl A (n+1) c A' n c' s.aZ fM (n+1) bD aQ s.aA.length aU,.slice nw jY bH] w λ e W=>e=.returned (.tuple #[.agg #[.int .i64 0,.slice none 0 0,.slice none 0 0,.slice none 0 0,.slice none 0 0,.int .i64 0,.slice none 0 0,.slice none 0 0],.int .i64 140])/\Below w.heap.size w W:=by
 obtain⟨i,p⟩:∃x,s.gs.length=x:=⟨_,rfl⟩
 obtain⟨nl,q⟩:∃x,s.es.length=x:=⟨_,rfl⟩
 obtain⟨j,r⟩:∃x,s.aA.length=x:=⟨_,rfl⟩
 have ad:fE (∀W:World,Below w.heap.size w W->Calls v_ 49 #[p9 n aM i aF ia nl cl A (n+1) c A' n c' s.aZ fM (n+1) bD aQ j aU] W λ e w'=>e=.returned (.int .i64 0)/\Below W.heap.size W w'):=aa λ W F=>by
  have:=D7 O ab (D.below F);rw[p,q,r] at this;exact this
 have ae:=aa E;obtain⟨t,u⟩:∃e,lq n [ah]=e:=⟨_,rfl⟩
 rw[u] at l;have af:=aa u;have ay:(t==0)=false:=by simpa using l
 have z2:(t !=0)=true:=by simpa using l
 have z3:decide (t=0)=false:=decide_eq_false l;rw[p,q,r];clear D O E p q r u;unfold p9 at*;go_enter Tryz.func46,Tryz.ntmps46
 go_upto_region 1 with fail
 have d:uA w ((w.alloc (.cells #[.int .i64 n,.slice aM i aF,.slice ia nl cl,.slice A (n+1) c,.slice A' n c',.int .i64 s.aZ,.slice fM (n+1) bD,.slice aQ j aU] 47)).alloc (.cells #[.int .i64 0,.slice none 0 0,.slice none 0 0,.slice none 0 0,.slice none 0 0,.int .i64 0,.slice none 0 0,.slice none 0 0] 47)) [.int .i64 n,.slice aM i aF,.slice ia nl cl,.slice A (n+1) c,.slice A' n c',.int .i64 s.aZ,.slice fM (n+1) bD,.slice aQ j aU] o6:=uA.init w [.int .i64 n,.slice aM i aF,.slice ia nl cl,.slice A (n+1) c,.slice A' n c',.int .i64 s.aZ,.slice fM (n+1) bD,.slice aQ j aU] o6;generalize ((w.alloc (.cells #[.int .i64 n,.slice aM i aF,.slice ia nl cl,.slice A (n+1) c,.slice A' n c',.int .i64 s.aZ,.slice fM (n+1) bD,.slice aQ j aU] 47)).alloc (.cells #[.int .i64 0,.slice none 0 0,.slice none 0 0,.slice none 0 0,.slice none 0 0,.int .i64 0,.slice none 0 0,.slice none 0 0] 47))=ag at*;have k:=d.bK.cell 0;have G:=d.bK.cell 1;have H:=d.bK.cell 2;have I:=d.bK.cell 3;have J:=d.bK.cell 4;have K:=d.bK.cell 5;have L:=d.bK.cell 6;have M:=d.bK.cell 7;simp only[y_,x_] at k G H I J K L M;have ai:=aa (ad.o ag d.kQ);have aj:=aa d;clear d
 go_upto_region 4 with(go_at_call 49;refine ai.o.mono ?_;rintro e m ⟨rfl,N⟩;have y:=aa (aj.o.below N);clear k G H I J K L M N;have k:=y.o.bK.cell 0;simp only[y_] at k)
 have P:=ae.o.below y.o.kQ;have ak:=aa (wk n (some ⟨m.heap.size,0,none⟩) 1 1 [ah] _ (oe.AA m ⟨nw,jY,bH,ah⟩ P).AQ);clear P
 go_upto_region 5 with(go_at_call 107;refine ak.o.mono ?_;rintro e C ⟨rfl,Q⟩;rw[af.o];have f:=aa (y.o.below ((bB m _).trans (Q.mono (bB m _).size)));clear k Q)
 have g:=f.o.bp.free;have az:=g 0;have aB:=g 1;have aD:=g 2;have aE:=g 3;have aG:=g 4;have aH:=g 5;have aI:=g 6;have aJ:=g 7;have al:=f.o.bp.cell 0;have an:=f.o.bp.cell 1;have ao:=f.o.bp.cell 2;have aq:=f.o.bp.cell 3;have ar:=f.o.bp.cell 4;have au:=f.o.bp.cell 5;have av:=f.o.bp.cell 6;have aw:=f.o.bp.cell 7;simp only[o6,y_,x_] at al an ao aq ar au av aw;clear g
 go_wp2_with fail
 have f1:=aC.eight (W:=C) (B:=w.heap.size+1) (.int .i64 0) (.slice none 0 0) (.slice none 0 0) (.slice none 0 0) (.slice none 0 0) (.int .i64 0) (.slice none 0 0) (.slice none 0 0);have ax:=aN.vt (show aN C (w.heap.size+1) 47 [.int .i64 0,.slice none 0 0,.slice none 0 0,.slice none 0 0,.slice none 0 0,.int .i64 0,.slice none 0 0,.slice none 0 0] from f.o.bp) (.int .i64 0) (.slice none 0 0) (.slice none 0 0) (.slice none 0 0) (.slice none 0 0) (.int .i64 0) (.slice none 0 0) (.slice none 0 0);generalize ((((((((C.setCell ⟨w.heap.size+1,0,none⟩ (.int .i64 0)).setCell ⟨w.heap.size+1,1,none⟩ (.slice none 0 0)).setCell ⟨w.heap.size+1,2,none⟩ (.slice none 0 0)).setCell ⟨w.heap.size+1,3,none⟩ (.slice none 0 0)).setCell ⟨w.heap.size+1,4,none⟩ (.slice none 0 0)).setCell ⟨w.heap.size+1,5,none⟩ (.int .i64 0)).setCell ⟨w.heap.size+1,6,none⟩ (.slice none 0 0)).setCell ⟨w.heap.size+1,7,none⟩ (.slice none 0 0))=W at*;have z:=ax.cell;have R:=z 0;have S:=z 1;have T:=z 2;have U:=z 3;have V:=z 4;have X:=z 5;have Y:=z 6;have Z:=z 7;simp only[y_,x_] at R S T U V X Y Z;refine bodyPost_ret (v:=.tuple #[.agg #[.int .i64 0,.slice none 0 0,.slice none 0 0,.slice none 0 0,.slice none 0 0,.int .i64 0,.slice none 0 0,.slice none 0 0],.int .i64 140]) (by simp[results,Tryz.results46,go_sem,R,S,T,U,V,X,Y,Z]) rfl ?_;exact⟨rfl,f.o.kQ.trans ⟨f1.os,f1.tape,f1.output,f1.size,λ b F=>f1.keep b (by omega)⟩⟩
end
section
open Go.RowKit
def oC(cs:List Value)(sp:Nat->Bool)(G:Nat->Nat×Nat->(Nat->Value)->World->Prop)(j:Nat)(p:Nat×Nat)(vals:Nat->Value)(w:World):Prop:=if sp j=true then G j p vals w else vals j=cs.getD j undef
theorem HU.of{ds:List (Option Tmp)}{cs:List Value}{sp:Nat->Bool}{G:Nat->Nat×Nat->(Nat->Value)->World->Prop}{bJ:Nat->Nat×Nat}{i:Nat}{vals:Nat->Value}{w:World}{av:Operand->Value}:∀{l:List Edge},rN ds (λ j _=>oC cs sp G j (bJ j) vals) (λ _=>none) i vals w av l->uT ds cs sp av l
 |[],_=>trivial
 |e::r,h=>⟨λ c h1 s hs=>by
  obtain⟨b,d⟩:=h.1 c;have b:oC cs sp G e.on (bJ e.on) vals w:=b (w_ rfl);unfold oC at b;rw[h1] at b;rw[d s hs];exact b,HU.of h.2⟩
theorem oC.xu{ws:List (List Nat)}{sp:Nat->Bool}{G:Nat->Nat×Nat->(Nat->Value)->World->Prop}(h:∀i p vals rO w,sp i=true->(∀k,k=i\/nM ws 8 i k=true->vals k=rO k)->G i p vals w->G i p rO w):yj ws (oC cs sp G):=λ i p vals rO w c b=>by
 unfold oC at*;split at b
 ·rename_i hs;rw[if_pos hs];exact h i p vals rO w hs c b
 ·rename_i hs;rw[if_neg hs,<-c i (.inl rfl)];exact b
def zl(P:Program)(ds:List (Option Tmp))(ws:List (List Nat))(old:List (Tmp×Value))(S:World->Prop)(cs:List Value)(sp:Nat->Bool)(G:Nat->Nat×Nat->(Nat->Value)->World->Prop):Nat->List Oper->Prop
 |_,[]=>True
 |k,o::r=>((sp k=true->zk P ds ws old S (oC cs sp G) k o)/\(sp k=false->∀(b:Operand->Value)(w:World),S w->uT ds cs sp b o.after.toList->pK b old->rf b->bq P b o w λ v w'=>v=cs.getD k undef/\w'=w))/\zl P ds ws old S cs sp G (k+1) r
theorem zl.ok{P:Program}{ds:List (Option Tmp)}{ws:List (List Nat)}{old:List (Tmp×Value)}{S:World->Prop}{cs:List Value}{sp:Nat->Bool}{G:Nat->Nat×Nat->(Nat->Value)->World->Prop}(b:yL ds old=true):∀{k:Nat}{l:List Oper},zl P ds ws old S cs sp G k l->vZ P ds ws old S (oC cs sp G) k l
 |_,[],_=>trivial
 |k,o::r,h=>⟨by
  cases hk:sp k with
  |true=>exact h.1.1 hk
  |false=>
   intro vals i w d c e f hp j;refine bq.mono (h.1.2 hk d w c (HU.of e) (q9.ok b f) hp) λ v w' ⟨h1,g⟩=>?_
   subst g;exact .same c (by unfold oC kP;rw[hk,if_pos rfl];exact h1),zl.ok b h.2⟩
end
section
open Go.RowKit Go.Shelf Go.Lib
structure kR where
 n:Int
 g:ax
 l:ax
 a:ax
 o:ax
 b:Int
 h:ax
 p:ax
def kR.L(t:kR):List Value:=[.int .i64 t.n,.slice t.g.A t.g.n t.g.c,.slice t.l.A t.l.n t.l.c,.slice t.a.A t.a.n t.a.c,.slice t.o.A t.o.n t.o.c,.int .i64 t.b,.slice t.h.A t.h.n t.h.c,.slice t.p.A t.p.n t.p.c]
def qu(t:kR)(b:Int):Value:=.tuple #[.agg t.L.toArray,.int .i64 b]
def uZ5(lo:Nat)(c:Int)(Q:kR->Nat×Nat->World->Prop)(i:Nat)(p:Nat×Nat)(vals:Nat->Value)(w:World):Prop:=
 if i=6 then∃t:kR,vals 6=qu t c/\Q t p w
 else if i=7 then∃t:kR,vals 6=qu t c/\vals 7=qu t c
 else if i=8 then∃t:kR,vals 6=qu t c/\vals 8=.agg t.L.toArray
 else if i=9 then vals 9=.int .i64 c
 else if i=10 then vals 10=.pointer (some ⟨p.1,0,none⟩)/\lo<=p.1/\p.1<p.2/\∃a0 a1 a2 a3 a4 a5 d e,aN w p.1 47 [a0,a1,a2,a3,a4,a5,d,e]
 else∃(b:Nat)(t:kR),vals 6=qu t c/\vals 10=.pointer (some ⟨b,0,none⟩)/\lo<=b/\aN w b 47 t.L
def xw(i:Nat):Bool:=i==6||i==7||i==8||i==9||i==10||i==11
theorem uZ5.below{lo:Nat}{jm:Int}{Q:kR->Nat×Nat->World->Prop}{i:Nat}{p:Nat×Nat}{vals:Nat->Value}{w w':World}(j:∀t,Q t p w->Q t p w')(g:Below w.heap.size w w')(h:uZ5 lo jm Q i p vals w):uZ5 lo jm Q i p vals w':=by
 unfold uZ5 at*;split at h
 ·rename_i e;rw[if_pos e];obtain⟨t,c,d⟩:=h;exact⟨t,c,j t d⟩
 ·rename_i e;rw[if_neg e];split at h
  ·rename_i e;rw[if_pos e];exact h
  ·rename_i e;rw[if_neg e];split at h
   ·rename_i e;rw[if_pos e];exact h
   ·rename_i e;rw[if_neg e];split at h
    ·rename_i e;rw[if_pos e];exact h
    ·rename_i e;rw[if_neg e];split at h
     ·rename_i e;rw[if_pos e];obtain⟨h1,c,d,a0,a1,a2,a3,a4,a5,k,l,f⟩:=h;exact⟨h1,c,d,a0,a1,a2,a3,a4,a5,k,l,f.below g⟩
     ·rename_i e;rw[if_neg e];obtain⟨b,t,h1,c,d,f⟩:=h;exact⟨b,t,h1,c,d,f.below g⟩
theorem uZ5.xu{ws:List (List Nat)}{lo:Nat}{jm:Int}{Q:kR->Nat×Nat->World->Prop}{cs:List Value}(f:nM ws 8 7 6=true)(i:nM ws 8 8 6=true)(j:nM ws 8 11 6=true)(k:nM ws 8 11 10=true):yj ws (oC cs xw (uZ5 lo jm Q)):=by
 refine oC.xu ?_;intro e p vals rO w' hs b c;have l:e=6\/e=7\/e=8\/e=9\/e=10\/e=11:=by simpa[xw,or_assoc] using hs
 rcases l with rfl|rfl|rfl|rfl|rfl|rfl
 ·obtain⟨a,h1,d⟩:=c;exact⟨a,(b 6 (.inl rfl)).symm.trans h1,d⟩
 ·obtain⟨a,h1,d⟩:=c;exact⟨a,(b 6 (.inr f)).symm.trans h1,(b 7 (.inl rfl)).symm.trans d⟩
 ·obtain⟨a,h1,d⟩:=c;exact⟨a,(b 6 (.inr i)).symm.trans h1,(b 8 (.inl rfl)).symm.trans d⟩
 ·exact(b 9 (.inl rfl)).symm.trans c
 ·exact⟨(b 10 (.inl rfl)).symm.trans c.1,c.2⟩
 ·obtain⟨g,a,h1,d,m⟩:=c;exact⟨g,a,(b 6 (.inr j)).symm.trans h1,(b 10 (.inr k)).symm.trans d,m⟩
theorem HV{P:Program}{av:Operand->Value}{AE AF:Tmp}{g:Nat}{t:kR}{a0 a1 a2 a3 a4 a5 oU oV:Value}{aK:Value->World->Prop}(hu:P=v_)(u:o.op=.store 47 (.tmp AE) (.tmp AF))(v:av (.tmp AE)=.pointer (some ⟨g,0,none⟩))(w:av (.tmp AF)=.agg t.L.toArray)
  (e:aN w' g 47 [a0,a1,a2,a3,a4,a5,oU,oV]) (h:∀W,aC (λ b=>b≠g) w' W->aN W g 47 t.L->aK undef W):bq P av o w' aK:=by
 subst hu;have d:=e.free;have z:=d 0;have C:=d 1;have D:=d 2;have E:=d 3;have F:=d 4;have G:=d 5;have H:=d 6;have I:=d 7;have y:=e.cell;have f:=y 0;have i:=y 1;have j:=y 2;have k:=y 3;have m:=y 4;have q:=y 5;have r:=y 6;have s:=y 7;simp only[y_,x_] at f i j k m q r s;have J:=aN.vt e (.int .i64 t.n) (.slice t.g.A t.g.n t.g.c) (.slice t.l.A t.l.n t.l.c) (.slice t.a.A t.a.n t.a.c) (.slice t.o.A t.o.n t.o.c) (.int .i64 t.b) (.slice t.h.A t.h.n t.h.c) (.slice t.p.A t.p.n t.p.c);have f1:=aC.eight (W:=w') (B:=g) (.int .i64 t.n) (.slice t.g.A t.g.n t.g.c) (.slice t.l.A t.l.n t.l.c) (.slice t.a.A t.a.n t.a.c) (.slice t.o.A t.o.n t.o.c) (.int .i64 t.b) (.slice t.h.A t.h.n t.h.c) (.slice t.p.A t.p.n t.p.c);simp only[bq,execOp,u,v,w,kR.L];simp[cF,go_sem,z,C,D,E,F,G,H,I,f,i,j,k,m,q,r,s];exact h _ f1 J
end
section
open Go.RowKit Go.Shelf Go.Sort Go.Lib
theorem HW(x:Int)(A:Option Addr)(nl cl:Nat)(ls:List (List Int))(g:Int)(r:Option Addr)(s c2:Nat)(i:List (List Int))(w:World)(h:kD w A nl cl ls)(t:kD w r s c2 i)(hw:tn i.flatten)(hlen:i.flatten.length<=1000000)(l:Int)(he:qG x ls i.flatten g=l)(m:l≠0):
  Calls v_ 76 #[.agg #[.int .i64 x,.slice A nl cl],.int .i64 g,.slice r s c2] w λ e w'=>e=.returned (.tuple #[.pointer none,.int .i64 l])/\Below w.heap.size w w':=by
 have j:Below w.heap.size w (w.alloc (.cells #[.int .i64 x,.slice A nl cl] 24)):=(s_ _ _).alloc (Nat.le_refl _) _;have k:=tu.new w x A nl cl;generalize y:w.alloc (.cells #[.int .i64 x,.slice A nl cl] 24)=W at j k;have z:=k.bH;have B:=k.c1;have p:=aa (wk x A nl cl ls W (h.below j));have d:=aa (z_ j k)
 by_cases c:lq x ls=0
 ·have C:∃n:Nat,x=n/\n<=65536:=by
   by_cases C:x<0\/65536<x
   ·rw[xC C] at c;cases c
   ·exact⟨x.toNat,by omega,by omega⟩
  obtain⟨n,rfl,H⟩:=C;have u:l=1:=by
   rw[<-he];unfold qG;rw[if_pos c];split
   ·rename_i f;rw[Bool.and_eq_true,Bool.and_eq_true,decide_eq_true_eq,decide_eq_true_eq] at f;exact absurd (Hp c f.1.1 f.1.2 f.2) (by rw[he];exact m)
   ·rfl
  subst u;rw[c] at p;have v:fE (∀W',Below W.heap.size W W'->Calls v_ 139 #[.int .i64 n,.slice r s c2] W' λ e w'=>e=.returned (.bool (tM n i.flatten))/\Below W'.heap.size W' w'):=aa λ W' I=>HE n H r s c2 i W' ((t.below j).below I) hw hlen
  cases hm:tM n i.flatten with
  |false=>
   rw[hm] at v;clear h t hw hlen he m j k c hm;go_enter Tryz.func76,Tryz.ntmps76
   go_upto_region 1 with fail
   try rw[y]
   go_upto_region 2 with(go_at_call 107;refine p.o.mono ?_;rintro e w1 ⟨rfl,b⟩;have H1:=aa b;have z0:=d.o.2.below b;have z:=z0.bH;have B:=z0.c1;clear z0 b)
   have D:=aa (v.o w1 H1.o)
   go_wp2_with (go_at_call 139;refine D.o.mono ?_;rintro e J ⟨rfl,q⟩;have E:=aa q;clear q)
   go_ret2
   exact⟨rfl,d.o.1.trans ((H1.o.trans (E.o.mono H1.o.size)).mono d.o.1.size)⟩
  |true=>
   have F:g<0\/¬g<0/\1099511627776<g:=by
    rcases Int.lt_or_le g 0 with f|f
    ·exact .inl f
    ·rcases Int.lt_or_le 1099511627776 g with G|G
     ·exact .inr ⟨by omega,G⟩
     ·exact absurd (Hp c hm f G) (by rw[he];exact m)
   rw[hm] at v;clear h t hw hlen he m j k c hm;rcases F with F|⟨F,K⟩
   all_goals
    go_enter Tryz.func76,Tryz.ntmps76
    go_upto_region 1 with fail
    try rw[y]
    go_upto_region 2 with(go_at_call 107;refine p.o.mono ?_;rintro e w1 ⟨rfl,b⟩;have H1:=aa b;have z0:=d.o.2.below b;have z:=z0.bH;have B:=z0.c1;clear z0 b)
    have D:=aa (v.o w1 H1.o)
    go_wp2_with (go_at_call 139;refine D.o.mono ?_;rintro e J ⟨rfl,q⟩;have E:=aa q;clear q)
    go_ret2
    exact⟨rfl,d.o.1.trans ((H1.o.trans (E.o.mono H1.o.size)).mono d.o.1.size)⟩
 ·have u:lq x ls=l:=by
   rw[<-he];unfold qG;rw[if_neg c]
  rw[u] at p;have L:(l==0)=false:=by simpa using m
  clear h t hw hlen he m j k c u;go_enter Tryz.func76,Tryz.ntmps76
  go_upto_region 1 with fail
  try rw[y]
  go_wp2_with (go_at_call 107;refine p.o.mono ?_;rintro e w1 ⟨rfl,b⟩;have H1:=aa b;have z0:=d.o.2.below b;have z:=z0.bH;have B:=z0.c1;clear z0 b)
  go_ret2
  exact⟨rfl,d.o.1.trans (H1.o.mono d.o.1.size)⟩
def OS(w:World)(n:Nat)(ls:List (List Int))(d:Nat)(e:Ending)(W:World):Prop:=
 ∃(B:Nat)(s:kf)(aM:Option Addr)(aF:Nat)(f:Option Addr)(cl:Nat)(A:Option Addr)(c:Nat)(A':Option Addr)(c':Nat)(g:Option Addr)(i:Nat)(j:Option Addr)(k:Nat),
  e=.returned (.tuple #[.pointer (some ⟨B,0,none⟩),.int .i64 0])/\qY (λ b=>b=B) W B n s aM aF f cl A c A' c' g i j k d 0/\s.gs=ls/\w.heap.size<=B/\Below w.heap.size w W
theorem HX(n:Nat)(ar:n<=10)(A:Option Addr)(nl cl:Nat)(ls:List (List Int))(D:Nat)(Y:Option Addr)(Z c2:Nat)(N:List (List Int))(w:World)(h:kD w A nl cl ls)(au:kD w Y Z c2 N)(hw:tn N.flatten)(hlen:N.flatten.length<=1000000)(aL:ls.length<=40000)(he:qG n ls N.flatten D=0):
  Calls v_ 76 #[.agg #[.int .i64 n,.slice A nl cl],.int .i64 D,.slice Y Z c2] w (OS w n ls D):=by
 have P:Below w.heap.size w (w.alloc (.cells #[.int .i64 n,.slice A nl cl] 24)):=(s_ _ _).alloc (Nat.le_refl _) _;have Q:=tu.new w n A nl cl;generalize bl:w.alloc (.cells #[.int .i64 n,.slice A nl cl] 24)=W at P Q;have av:=Q.bH;have aw:=Q.c1;have aO:=aa (wk n A nl cl ls W (h.below P));have R:=aa (z_ P Q);obtain⟨ax,hm,bn,J⟩:=y8 he;obtain⟨ay,_,aP⟩:=Aq ax;rw[ax] at aO;have bo:fE (∀W',Below W.heap.size W W'->Calls v_ 139 #[.int .i64 n,.slice Y Z c2] W' λ e w'=>e=.returned (.bool true)/\Below W'.heap.size W' w'):=aa λ W' E=>by
  have:=HE n ay Y Z c2 N W' ((au.below P).below E) hw hlen;rw[hm] at this;exact this
 have K:¬(D:Int)<0:=by omega
 have S:¬(1099511627776:Int)<(D:Int):=by omega
 have d1:decide ((D:Int)<0)=false:=decide_eq_false K;have d2:decide ((1099511627776:Int)<(D:Int))=false:=decide_eq_false S;have H:=aa h;have F:=aa (z_ h.len (z_ aL (z_ aP J)));have bp:fE (∀W',Calls v_ 42 #[.int .i64 n] W' λ e w'=>∃(A:Option Addr)(c:Nat)(A':Option Addr)(c':Nat)(u:Option Addr)(v:Nat),e=.returned (.tuple #[.agg #[.int .i64 n,.slice none 0 0,.slice none 0 0,.slice A (n+1) c,.slice A' n c',.int .i64 1,.slice u (n+1) v,.slice none 0 0],.int .i64 0])/\
   aS w' A (n+1) c (rC (n+1))/\aS w' A' n c' (qL n)/\kE w' u (n+1) v (sk (n+1))/\Below W'.heap.size W' w'):=aa λ W'=>Nc n W' ay
 clear h au hw hlen he P Q ax hm bn J ay aP aL;go_enter Tryz.func76,Tryz.ntmps76
 go_upto_region 1 with fail
 try rw[bl]
 go_upto_region 4 with(go_at_call 107;refine aO.o.mono ?_;rintro e w1 ⟨rfl,J⟩;have H1:=aa J;have z0:=R.o.2.below J;have av:=z0.bH;have aw:=z0.c1;clear z0 J)
 have bq:=aa (bo.o w1 H1.o)
 go_upto_region 6 with(go_at_call 139;refine bq.o.mono ?_;rintro e bG ⟨rfl,K⟩;have L:=aa (z_ K ((R.o.2.below H1.o).below K));have av:=L.o.2.bH;have aw:=L.o.2.c1;clear K)
 go_upto_region 7 with(go_at_call 42;refine(bp.o _).mono ?_;rintro e G ⟨j,c3,l,m,q,r,rfl,aQ,aR,aT,S⟩;have I:=aa (z_ aQ (z_ aR (z_ aT S)));clear aQ aR aT S)
 have az:=qI.new ar I.o.1 I.o.2.1 I.o.2.2.1;have aU:=aN.new G 47 [.int .i64 n,.slice none 0 0,.slice none 0 0,.slice j (n+1) c3,.slice l n m,.int .i64 1,.slice q (n+1) r,.slice none 0 0];have M:=bB G (.cells #[.int .i64 n,.slice none 0 0,.slice none 0 0,.slice j (n+1) c3,.slice l n m,.int .i64 1,.slice q (n+1) r,.slice none 0 0] 47);have aV:rT (G.alloc (.cells #[.int .i64 n,.slice none 0 0,.slice none 0 0,.slice j (n+1) c3,.slice l n m,.int .i64 1,.slice q (n+1) r,.slice none 0 0] 47)) (λ b=>b=G.heap.size) (rU n) none 0 none 0 j c3 l m q r none 0:=λ W' f=>az.aK.below (M.trans ⟨f.os,f.tape,f.output,f.size,λ b E=>f.keep b ⟨by have:=M.size;omega,by omega⟩⟩)
 have ab:=aa (z_ (az.below M) (z_ aU (z_ aV (R.o.1.trans ((H1.o.trans ((L.o.1.trans ((I.o.2.2.2.trans (M.mono I.o.2.2.2.size)).mono L.o.1.size)).mono H1.o.size)).mono R.o.1.size)))));have br:fE (w.heap.size<=G.heap.size):=aa (q_ R.o.1.size (q_ H1.o.size (q_ L.o.1.size I.o.2.2.2.size)));have aB:=(L.o.2.below I.o.2.2.2).below M;have bI:=aB.bH;have bJ:=aB.c1;clear az aU M aV aB av aw;generalize G.alloc (.cells #[.int .i64 n,.slice none 0 0,.slice none 0 0,.slice j (n+1) c3,.slice l n m,.int .i64 1,.slice q (n+1) r,.slice none 0 0] 47)=bK at*;generalize G.heap.size=t at*;clear d1 d2 K S
 go_wp2_with fail
 go_loopw [40,10] (λ i e W=>∃(k:Nat)(s:kf)(aM:Option Addr)(aF:Nat)(u:Option Addr)(v:Nat),i=.int .i64 k/\k<=nl/\e=.int .i64 0/\aN W t 47 [.int .i64 n,.slice aM s.gs.length aF,.slice none s.es.length 0,.slice j (n+1) c3,.slice l n m,.int .i64 s.aZ,.slice q (n+1) r,.slice u s.aA.length v]/\qI W n s aM aF none 0 j c3 l m q r u v/\rT W (λ b=>b=t) s aM aF none 0 j c3 l m q r u v/\s.gs=ls.take k/\Below w.heap.size w W) (λ i _ _=>nl-(intOf i).toNat)
 case atStart=>exact⟨0,rU n,none,0,none,0,rfl,u_ _,rfl,ab.o.2.1,ab.o.1,ab.o.2.2.1,rfl,ab.o.2.2.2⟩
 case round=>
  obtain⟨k,s,aM,aF,u,v,rfl,hk,rfl,ad,C,aD,T,U⟩:=hrel;have y:=ad.cell;have bs:=y 0;have aW:=y 1;have aX:=y 2;have bt:=y 3;have bu:=y 4;have bw:=y 5;have bx:=y 6;have aY:=y 7;simp only[y_,x_] at bs aW aX bt bu bw bx aY;have d:=aa (z_ ad (z_ C (z_ aD (z_ T U))));obtain⟨bL,ae⟩:∃x,s.gs.length=x:=⟨_,rfl⟩
  obtain⟨bM,af⟩:∃x,s.es.length=x:=⟨_,rfl⟩
  obtain⟨bN,ag⟩:∃x,s.aA.length=x:=⟨_,rfl⟩
  by_cases V:k<nl
  ·have bz:(k:Int)<(nl:Int):=by omega
   obtain⟨b,off,rfl,E,a6⟩:=H.o.cells (by omega);obtain⟨a1,bO,c1,a7,a8⟩:=a6 k V;have bP:=(U.cell (p:=⟨b,off+k,none⟩) E).trans a7;have ah:k<ls.length:=by rw[F.o.1];exact V
   have bA:=F.o.2.1;have bC:s.gs.length=k:=by rw[T,List.length_take];omega
   have bD:=C.pl;have ai:=HP C.O ar C.aK (a8.below U) (by rw[tP ah];exact F.o.2.2.1 _ (List.getElem_mem ah)) (by omega) (by omega) C.sN C.x2 C.pp C.Cq;unfold p9 at ai;rw[ae,af,ag] at ai;rw[ae] at aW;rw[af] at aX;rw[ag] at aY;have bE:=aa ai;have aj:=aa (z_ ah V);have bQ:n_.wrap ((k:Int)+1)=(k:Int)+1:=by rw[r_];omega
   clear ai a6 a7 a8 ah V hk bC bD E y ad C aD T U ae af ag bA
   go_upto_region 12 with(go_at_call 46;refine bE.o.mono ?_;intro e aE a';obtain⟨s',ak,al,an,ao,rfl,ba,bb,aG,bc⟩:=d.o.2.1.add a';have X:=aa (z_ ba (z_ bb (z_ aG bc)));have aH:=d.o.1.below aG;have z:=aH.cell;have z0:=z 0;have bd:=z 1;have z2:=z 2;have z3:=z 3;have z4:=z 4;have z5:=z 5;have bf:=z 6;have bg:=z 7;have g:=aH.free;have g0:=g 0;have g1:=g 1;have g2:=g 2;have g3:=g 3;have g4:=g 4;have g5:=g 5;have g6:=g 6;have g7:=g 7;simp only[y_,x_] at z0 bd z2 z3 z4 z5 bf bg;clear z g aH ba bb aG bc a')
   have bh:=aN.vt (show aN aE t 47 [.int .i64 n,.slice aM s.gs.length aF,.slice none s.es.length 0,.slice j (n+1) c3,.slice l n m,.int .i64 s.aZ,.slice q (n+1) r,.slice u s.aA.length v] from d.o.1.below X.o.2.2.1) (.int .i64 n) (.slice ak s'.gs.length al) (.slice none s'.es.length 0) (.slice j (n+1) c3) (.slice l n m) (.int .i64 s'.aZ) (.slice q (n+1) r) (.slice an s'.aA.length ao);have f8:=aC.eight (W:=aE) (B:=t) (.int .i64 n) (.slice ak s'.gs.length al) (.slice none s'.es.length 0) (.slice j (n+1) c3) (.slice l n m) (.int .i64 s'.aZ) (.slice q (n+1) r) (.slice an s'.aA.length ao);generalize (((((((aE.setCell ⟨t,0,none⟩ (.int .i64 n)).setCell ⟨t,1,none⟩ (.slice ak s'.gs.length al)).setCell ⟨t,2,none⟩ (.slice none s'.es.length 0)).setCell ⟨t,3,none⟩ (.slice j (n+1) c3)).setCell ⟨t,4,none⟩ (.slice l n m)).setCell ⟨t,5,none⟩ (.int .i64 s'.aZ)).setCell ⟨t,6,none⟩ (.slice q (n+1) r)).setCell ⟨t,7,none⟩ (.slice an s'.aA.length ao)=bR at*;clear z0 bd z2 z3 z4 z5 bf bg g0 g1 g2 g3 g4 g5 g6 g7;have bj:=(X.o.2.2.2 (λ b=>b=t) (λ b e=>e▸d.o.1.lt) d.o.2.2.1).set f8;have aq:=aa (z_ bh (z_ f8 bj));clear bh f8 bj
   go_wp2_with fail
   go_roundw
   case rel=>
    refine⟨k+1,s',ak,al,an,ao,by go_num,by have:=aj.o.2;omega,rfl,aq.o.1,X.o.1.r5 (aq.o.2.2 _ aC.refl),aq.o.2.2,?_,?_⟩
    ·rw[X.o.2.1,d.o.2.2.2.1,tP aj.o.1,o_ aj.o.1]
    ·have f8:=aq.o.2.1;exact d.o.2.2.2.2.trans ((X.o.2.2.1.mono d.o.2.2.2.2.size).trans ⟨f8.os,f8.tape,f8.output,f8.size,λ b E=>f8.keep b (by have:=br.o;omega)⟩)
   case measure=>have:=aj.o.2;simp[intOf];omega
  ·have bz:¬(k:Int)<(nl:Int):=by omega
   have bF:k=nl:=by omega
   have bk:s.gs=ls:=by rw[T,p_ (by rw[F.o.1];omega)]
   have aI:=aa bk;clear T bk ad C aD U ae af ag y bF V hk
   go_wp2_with fail
   go_ret2
   have aJ:=bB wr (.cells #[.int .i64 n,.slice aM s.gs.length aF,.slice none s.es.length 0,.slice j (n+1) c3,.slice l n m,.int .i64 s.aZ,.slice q (n+1) r,.slice u s.aA.length v,.int .i64 D,.int .i64 0] 155);refine⟨wr.heap.size,s,aM,aF,none,0,j,c3,l,m,q,r,u,v,rfl,⟨aN.new wr 155 [.int .i64 n,.slice aM s.gs.length aF,.slice none s.es.length 0,.slice j (n+1) c3,.slice l n m,.int .i64 s.aZ,.slice q (n+1) r,.slice u s.aA.length v,.int .i64 D,.int .i64 0],rfl,λ b E=>(by subst E;simp),λ W' f=>d.o.2.1.aK.below (aJ.trans ⟨f.os,f.tape,f.output,f.size,λ b E=>f.keep b ⟨by have:=aJ.size;omega,by omega⟩⟩),d.o.2.1.O,ar,u_ _,by have:=F.o.2.2.2;omega,by rw[aI.o];exact F.o.2.1,?_,by rw[d.o.2.1.ja];rfl,d.o.2.1.sN,λ h=>d.o.2.1.pp.resolve_left h⟩,aI.o,d.o.2.2.2.2.size,d.o.2.2.2.2.trans (aJ.mono d.o.2.2.2.2.size)⟩;have h1:=d.o.2.1.pl;have au:=F.o.2.1;rw[aI.o] at h1;omega
end
section
open Go.Shelf
def Tryz.OT:Go.Shelf.Ren:=⟨λ|45=>80|n=>n,λ|22=>25|23=>3|3=>3|4=>4|0=>0|n=>n,λ|n=>n⟩
theorem Tryz.OU:Go.Proofs.SlLaysE.n45 v_ Tryz.OT:={
 mixed:=by kernel_rfl
 f45:=⟨Tryz.f80.name,by decide,Tryz.func80.trans (congrArg some (by kernel_rfl))⟩
 t0:=Tryz.underlying0
 a0:=Tryz.isAgg0
 z0:=Tryz.sizeOf0
 v0:=Tryz.zeroValue0
 t3:=Tryz.underlying3
 a3:=Tryz.isAgg3
 z3:=Tryz.sizeOf3
 v3:=Tryz.zeroValue3
 t4:=Tryz.underlying4
 a4:=Tryz.isAgg4
 z4:=Tryz.sizeOf4
 v4:=Tryz.zeroValue4
 t22:=Tryz.underlying25
 a22:=Tryz.isAgg25
 z22:=Tryz.sizeOf25
 v22:=Tryz.zeroValue25
 a23:=Tryz.isAgg3
 z23:=Tryz.sizeOf3}
open Go.RowKit Go.Sort Go.Lib
theorem OV(w:World)(base g n cap:Nat)(b:List Int)(h:Own w base g n cap b)(d:base<=g)(i:Nat)(t:i<n):
  Calls v_ 80 #[.slice (some ⟨g,0,none⟩) n cap,.int .i64 i,.int .i64 ((i:Int)+1)] w λ e w'=>
   e=.returned (.slice (some ⟨g,0,none⟩) (n-1) cap)/\w'.ownsRow base 3 1 (.slice (some ⟨g,0,none⟩) (n-1) cap) (n-1) ((b.eraseIdx i).map (Value.int .i64))/\Below base w w':=by
 have h':w.ownsRow base 3 1 (.slice (some ⟨g,0,none⟩) n cap) n (b.map oL):=h;obtain⟨u,v,he,h1,y,z,f,j,l⟩:=holds_of_ownsRow h' (by intro e;cases e)
 cases he
 have m:cap<=9223372036854775807:=by unfold maxLen at f;omega
 have o:b.toArray.size=n:=by simp[j]
 obtain⟨i0,p,A,r,B⟩:=info_parts xD;have c:=AnyE.slices_Delete Tryz.OU oL y4 0 Tryz.zeroValue3 i0 p r g 0 cap i (i+1) b.toArray w l (by omega) m (by omega) (by omega);rw[o] at c;have s:i+1-i=1:=by omega
 rw[s] at c;refine Calls.mono c ?_;rintro e w' ⟨rfl,q,rfl⟩;refine⟨rfl,?_,below_putRow (s_ _ _) d⟩;have hl:(b.take i++b.drop (i+1)).length=n-1:=by rw[t_,List.length_take,List.length_drop];omega
 have:=ownsRow_putRow (q:=q) (k:=n-1) (ys:=(b.take i++b.drop (i+1))++List.replicate 1 0) h' (by rw[t_,hl];simp;omega) (by omega);rw[List.take_left' hl] at this;rw[List.eraseIdx_eq_take_drop_succ];exact this
end
section
open Go.RowKit
section
variable {n:Nat}{ls:List (List Int)}(aJ:lq n ls=0)
include aJ
theorem OW{l:List Int}(hl:∀x∈l,gW n x)(h:Can ls l):uy n ls l=true:=(DX aJ hl).2 h
theorem HY{l:List Int}(hl:∀x∈l,gW n x)(h:¬Can ls l):uy n ls l=false:=by
 cases e:uy n ls l with
 |false=>rfl
 |true=>exact absurd ((DX aJ hl).1 e) h
end
theorem sub_lt{l:List Int}(h:l.Sublist ai)(hl:∀x∈ai,gW n x):∀x∈l,gW n x:=λ x b=>hl x (h.subset b)
end
section
open Go.RowKit Go.Shelf Go.Sort Go.Lib
theorem OX(w:World)(ty:TypeId)(n:Nat)(b:0<n)(r:n<=1000000):
  ∃v' w',(Builtin.append_ #[25,3] ty #[.slice none 0 0,.int .i64 n]).run v_ w=.ok v' w'/\(∃c,v'=.slice (some ⟨w.heap.size,0,none⟩) n c/\n<=c/\w'.ownsRow w.heap.size 3 1 (.slice (some ⟨w.heap.size,0,none⟩) 0 c) 0 [])/\Below w.heap.size w w':=by
 obtain⟨i0,d,e,f,g⟩:=info_parts xD;have i:n≠0:=by omega
 have j:=grownCap_ge w n 0 3;have k:grownCap w n 0 3<=maxLen:=grownCap_le_maxLen w n 0 3 (by unfold maxLen;omega);have l:¬(9223372036854775807<(n:Int)):=by omega
 have m:¬(281474976710656<Builtin.nextslicecap n 0*8):=by rw[nextslicecap_zero b];omega
 have wn:n_.wrap (n:Int)=(n:Int):=by rw[r_];omega
 have o:¬(n:Int)<0:=by omega
 have p:¬(281474976710656<(n:Int)*8):=by omega
 have hle:¬(n:Int)<=0:=by omega
 have q:¬(9223372036854775807<max (n:Int) 0):=by omega
 refine⟨.slice (some ⟨w.heap.size,0,none⟩) n (grownCap w n 0 3),w.drew.alloc (.cells (h_ #[.int .i64 0] n++h_ #[.int .i64 0] (grownCap w n 0 3-n)) 3),?_,⟨_,rfl,j,?_⟩,(s_ _ _).drew.trans (bB w.drew _)⟩
 ·simp[Builtin.append_,run_underlying Tryz.underlying25,run_underlying Tryz.underlying3,sizeOf,typeInfo,zeroValue,d,e,f,g,Builtin.lenOf,Builtin.firstCells,i,l,m,Question.forced,newRow,grownCap,asInt,asIntOf,wn,o,p,hle,q];rfl
 ·refine⟨rfl,.inr ⟨w.heap.size,_,_,rfl,Nat.le_refl _,heap_alloc_new w.drew _,u_ _,k,?_,by simp⟩⟩;simp only[Array.size_append,size_zeroCells];show n*1+(grownCap w n 0 3-n)*1=_;omega
theorem OY{ops:Array Oper}{rest:List Oper}{Q:Exit->Act->World->Prop}(b:o.guard=none)(s x:Operand)
  (d:o.op=.call {callee:=.builtin .append,args:= #[s,x],argTypes:= #[25,3]}) (n:Nat) (hs:a.eval s=.slice none 0 0) (e:a.eval x=.int .i64 n) (f:0<n) (g:n<=1000000)
  (h:∀c w',n<=c->w'.ownsRow w.heap.size 3 1 (.slice (some ⟨w.heap.size,0,none⟩) 0 c) 0 []->Below w.heap.size w w'->wpList v_ ops Q rest (a.put o.dst (.slice (some ⟨w.heap.size,0,none⟩) n c)) w'):
  wpList v_ ops Q (o::rest) a w:=by
 obtain⟨v',w',h1,⟨c,rfl,i,j⟩,k⟩:=OX w o.type n f g;refine wpList_plain b λ K l=>?_
 unfold Oper.wp;simp only[execOp,d,resolve,invoke,builtin,Sem.run_bind,Sem.run_pure,Result.andThen_ok,k_,j_,i_,hs,e,h1];exact l _ _ (h c w' i j k)
theorem OZ(n:Nat)(g:n<=1000000)(w:World):Calls v_ 143 #[.slice none 0 0,.int .i64 n] w λ e w'=>∃A c,e=.returned (.slice A 0 c)/\w'.ownsRow w.heap.size 3 1 (.slice A 0 c) 0 []/\Below w.heap.size w w':=by
 have h1:¬(n:Int)<0:=by omega
 have wn:n_.wrap (n:Int)=(n:Int):=by rw[r_];omega
 have k:wrap64 (n:Int)=(n:Int):=by unfold wrap64;omega
 by_cases i:0<n
 ·have j:(0:Int)<(n:Int):=by omega
  go_enter Tryz.func143,Tryz.ntmps143
  go_wp2_with (at_builtin;refine OY rfl (.tmp 20) (.tmp 21) rfl n rfl rfl i g ?_;intro c w' l b d;have f:=aa (z_ b d);clear b d)
  go_ret;exact⟨_,_,rfl,f.o.1,f.o.2⟩
 ·have j:¬(0:Int)<(n:Int):=by omega
  obtain rfl:n=0:=by omega
  go_enter Tryz.func143,Tryz.ntmps143
  go_wp2;go_ret;exact⟨none,0,rfl,World.ownsRow_nil _ _ _ _,s_ _ _⟩
theorem Eh{i:Nat}(b:i<ls.length):(ls.take (i+1)).flatten=(ls.take i).flatten++mb ls i:=by
 rw[tP b,o_ b,List.flatten_append];simp
theorem HZ(i:Nat):(ls.take i).flatten.length<=ls.flatten.length:=by
 have h:ls.flatten=(ls.take i).flatten++(ls.drop i).flatten:=by rw[<-List.flatten_append,List.take_append_drop]
 rw[h,t_];omega
theorem O0(A:Option Addr)(nl cl:Nat)(ls:List (List Int))(w:World)(h:kD w A nl cl ls)(t:List Int)(E:ls.flatten=t)(hlen:t.length<=1000000):
  Calls v_ 87 #[.slice A nl cl] w λ e w'=>∃p c2,e=.returned (.slice p t.length c2)/\w'.ownsRow w.heap.size 3 1 (.slice p t.length c2) t.length (t.map (Value.int .i64))/\Below w.heap.size w w':=by
 have Z:=h.small;have H:=aa h;rw[<-E] at hlen;have u:=aa (z_ h.len hlen);have J:=aa E;clear h hlen E;go_enter Tryz.func87,Tryz.ntmps87
 go_wp2
 go_loop [11,3] (λ i q=>∃k:Nat,k<=nl/\i=.int .i64 k/\q=.int .i64 ((ls.take k).flatten.length:Nat)) (λ i _=>nl-(intOf i).toNat)
 case atStart=>exact⟨0,u_ _,rfl,rfl⟩
 case round=>
  obtain⟨k,hk,rfl,rfl⟩:=hrel
  by_cases d:k<nl
  ·obtain⟨b,off,rfl,l,z⟩:=H.o.cells (by omega);obtain⟨a1,f,c1,R,y⟩:=z k d;have K:k<ls.length:=by rw[u.o.1];exact d
   have F:(k:Int)<(nl:Int):=by omega
   have c:(ls.take (k+1)).flatten.length=(ls.take k).flatten.length+f:=by rw[Eh K,t_,y.len]
   have hle:=HZ (ls:=ls) (k+1);have r:=u.o.2;obtain⟨m,hm⟩:∃m,(ls.take k).flatten.length=m:=⟨_,rfl⟩
   rw[hm] at c⊢;have S:=aa c;have n:=aa d;have ab:¬(m:Int)+(f:Int)<0:=by omega
   have wn:n_.wrap ((m:Int)+(f:Int))=(m:Int)+(f:Int):=by rw[r_];omega
   have ad:wrap64 ((m:Int)+(f:Int))=(m:Int)+(f:Int):=by unfold wrap64;omega
   clear z l y K d hk c hle r hm;go_wp2
   go_round
   case rel=>exact⟨k+1,by have:=n.o;omega,by go_num,by rw[S.o];go_num⟩
   case measure=>have:=n.o;simp[intOf];omega
  ·have F:¬(k:Int)<(nl:Int):=by omega
   have c:(ls.take k).flatten=ls.flatten:=by rw[p_ (by rw[u.o.1];omega)]
   have r:=u.o.2;rw[c];obtain⟨m,hm⟩:∃m,ls.flatten.length=m:=⟨_,rfl⟩
   rw[hm] at r⊢;have T:=aa (OZ m r);have ae:=aa hm;clear c hm d hk r
   go_wp2_with (go_at_call 143;refine(T.o _).mono ?_;rintro e w1 ⟨U,c1,rfl,B,l⟩;have L:=aa (z_ B l);clear B l)
   go_loopw [27,6] (λ i q W=>∃(j:Nat)(p:Option Addr)(c2:Nat),j<=nl/\i=.int .i64 j/\q=.slice p (ls.take j).flatten.length c2/\W.ownsRow w.heap.size 3 1 (.slice p (ls.take j).flatten.length c2) (ls.take j).flatten.length ((ls.take j).flatten.map (Value.int .i64))/\Below w.heap.size w W) (λ i _ _=>nl-(intOf i).toNat)
   case atStart=>exact⟨0,U,c1,u_ _,rfl,rfl,L.o.1,L.o.2⟩
   case round=>
    obtain⟨j,p,c2,M,rfl,rfl,B,l⟩:=hrel;have s:=aa (z_ B l);clear B l
    by_cases d:j<nl
    ·obtain⟨b,off,rfl,l,z⟩:=(H.o.below s.o.2).cells (by omega);obtain⟨a1,f,V,R,y⟩:=z j d;have G:j<ls.length:=by rw[u.o.1];exact d
     have F:(j:Int)<(nl:Int):=by omega
     have c:(ls.take (j+1)).flatten.length=(ls.take j).flatten.length+f:=by rw[Eh G,t_,y.len]
     have hle:=HZ (ls:=ls) (j+1);have r:=u.o.2;have n:=aa (z_ d (z_ G (z_ c (z_ y (z_ hle r)))));obtain⟨q,v⟩:∃q,(ls.take j).flatten.length=q:=⟨_,rfl⟩
     rw[v];have D:=aa v;clear z l y G d M c hle r v
     go_wp2_with (at_builtin;refine uH rfl (.tmp 31) (.tmp 32) rfl w.heap.size (.slice p q c2) q (ls.take j).flatten rfl (by rw[<-D.o];exact s.o.1) a1 f V _ rfl n.o.2.2.2.1 (by have:=n.o;have:=D.o;omega) s.o.2.size ?_;intro v9 bG I;obtain⟨⟨N,j3,O⟩,X,C⟩:=ax.lG I.1;obtain rfl:v9=.slice N j3 O:=X;have P:=aa I;have Y:=aa C;clear I C)
     go_roundw
     case rel=>
      have C:j3=q+f:=Y.o;have c:=n.o.2.2.1;rw[D.o] at c;refine⟨j+1,N,O,by have:=n.o;omega,by go_num,by rw[c,C],?_,?_⟩
      ·rw[c,Eh n.o.2.1];have h1:=P.o.1;rw[C] at h1;exact h1
      ·exact uX s.o.2 P.o.2.1 s.o.2.size (λ g e=>(s.o.1.lt g (by rw[D.o];exact e)).1)
     case measure=>have:=n.o;simp[intOf];omega
    ·have F:¬(j:Int)<(nl:Int):=by omega
     have c:(ls.take j).flatten=ls.flatten:=by rw[p_ (by rw[u.o.1];omega)]
     have h1:=s.o;rw[c,J.o] at h1;rw[c,J.o];obtain⟨q,v⟩:∃q,t.length=q:=⟨_,rfl⟩
     rw[v] at h1⊢;have H1:=aa h1;have Q:=aa v;clear c d M h1 v s;go_wp2;go_ret;exact⟨p,c2,by rw[Q.o];rfl,by rw[Q.o];exact H1.o.1,H1.o.2⟩
def H6(w:World)(n:Nat)(ls:List (List Int))(k:List Int)(l:Nat)(e:Ending)(W:World):Prop:=
 ∃(kind:Int)(b:Option Addr)(c d:Nat)(f:Option Addr)(g i:Nat)(j:Nat)(m:List Bool)(core:List Int),
  e=.returned (.tuple #[.agg #[.int .i64 kind,.slice b c d,.slice f g i,.int .i64 (j:Int)],.int .i64 0])/\kE W b c d m/\aS W f g i core/\vr ls n k l kind m core j/\Below w.heap.size w W
def H7(w:World)(n:Nat)(ls:List (List Int))(keep k:List Int)(l:Nat)(e:Ending)(W:World):Prop:=
 ∃(kind:Int)(b:Option Addr)(c d:Nat)(f:Option Addr)(g i:Nat)(j:Nat)(m:List Bool)(core:List Int),
  e=.returned (.tuple #[.agg #[.int .i64 kind,.slice b c d,.slice f g i,.int .i64 (j:Int)],.int .i64 0])/\kE W b c d m/\aS W f g i core/\y9 ls n keep k l kind m core j/\Below w.heap.size w W
theorem AG(j:a.defers=[])(c:a.tmps.getD 6 undef=.pointer (some ⟨bp,0,none⟩))(d:a.tmps.getD 7 undef=.int .i64 jm)
  (b:aN W bp 30 [v0,v1,v2,v3]) (h:aK (.returned (.tuple #[.agg #[v0,v1,v2,v3],.int .i64 jm])) W):bodyPost v_ Tryz.f28 aK .ret a W:=by
 have e:=b.cell 0;have f:=b.cell 1;have g:=b.cell 2;have i:=b.cell 3;simp only[y_,x_] at e f g i;refine bodyPost_ret (v:=.tuple #[.agg #[v0,v1,v2,v3],.int .i64 jm]) ?_ j h;rw[l_] at c d;simp[results,Tryz.results28,go_sem,c,d,e,f,g,i]
theorem AH(j:a.defers=[])(c:a.tmps.getD 8 undef=.pointer (some ⟨bp,0,none⟩))(d:a.tmps.getD 9 undef=.int .i64 jm)
  (b:aN W bp 30 [v0,v1,v2,v3]) (h:aK (.returned (.tuple #[.agg #[v0,v1,v2,v3],.int .i64 jm])) W):bodyPost v_ Tryz.f29 aK .ret a W:=by
 have e:=b.cell 0;have f:=b.cell 1;have g:=b.cell 2;have i:=b.cell 3;simp only[y_,x_] at e f g i;refine bodyPost_ret (v:=.tuple #[.agg #[v0,v1,v2,v3],.int .i64 jm]) ?_ j h;rw[l_] at c d;simp[results,Tryz.results29,go_sem,c,d,e,f,g,i]
structure O1(F:List (List Int))(n:Nat)(ai:List Int)(aW aB:Nat)(kind:Int)(m:List Bool)(core:List Int):Prop where
 k:(kind=1/\core=[]/\ye F n ai m)\/(kind=2/\m=[]/\core.Sublist ai/\¬Can F core)\/(kind=3/\m=[]/\core=[]/\aB=aW)
theorem kE.xx(w:World):kE w none 0 0 []:=⟨rfl,u_ _,by omega,u_ _,λ h=>absurd h (by omega)⟩
theorem nx.plain{K:Nat->Prop}{F:List (List Int)}{aB:Nat}{kind:Int}{bk:Option Addr}{bA aV:Nat}{bF:Option Addr}{bE bl:Nat}(a:nx K W F ai n aW aB kind bk bA aV bF bE bl):
  ∃(m:List Bool)(core:List Int),kE W bk bA aV m/\aS W bF bE bl core/\O1 F n ai aW aB kind m core:=by
 rcases a with⟨h1,e,m,f,g,i,j,k,l⟩|⟨h1,e,co,f,g,i,j⟩|⟨h1,e,f,g⟩
 ·injection e with b c d
  subst b c d;exact⟨m,[],f,aS.nil _ _ _ (u_ _),⟨.inl ⟨h1,rfl,i,j,k,l⟩⟩⟩
 ·injection e with b c d
  subst b c d;exact⟨[],co,kE.xx _,f,⟨.inr (.inl ⟨h1,rfl,i,λ⟨M,k,l⟩=>j M k l⟩)⟩⟩
 ·injection e with b c d
  subst b c d;injection f with b c d
  subst b c d;exact⟨[],[],kE.xx _,aS.nil _ _ _ (u_ _),⟨.inr (.inr ⟨h1,rfl,rfl,g⟩)⟩⟩
theorem Cr(g:w.grownBy w' (some B)):aC (λ b=>b<w.heap.size/\b≠B) w w':=
 ⟨g.os,g.tape,g.output,g.size,λ b c=>g.block b c.1 (λ e=>c.2 (by injection e))⟩
theorem qY.more(d:qY aT w B n s aM aF ia cl A c A' c' fM bD aQ aU aW sp)(e:Below w.heap.size w w'):qY aT w' B n s aM aF ia cl A c A' c' fM bD aQ aU aW sp:=
 ⟨d.blk.below e,d.jF,λ b h=>m_ (d.dl b h) e.size,λ W' f=>d.Cl W' ((aC.pY e λ b e=>e.1).trans (f.mono λ b h=>⟨m_ h.1 e.size,h.2⟩)),d.ok,d.n10,d.nt,d.p8,d.bz,d.pl,d.el,d.sN,d.pa⟩
theorem qY.mT{aT:Nat->Prop}{w:World}{B n:Nat}{s:kf}{aM:Option Addr}{aF:Nat}{ia:Option Addr}{cl:Nat}{A:Option Addr}{c:Nat}{A':Option Addr}{c':Nat}{fM:Option Addr}{bD:Nat}{aQ:Option Addr}{aU aW sp:Nat}(b:qY aT w B n s aM aF ia cl A c A' c' fM bD aQ aU aW sp):sp<=59048:=by
 have h1:=b.ok.mT;have d:=xo b.n10;have e:=b.el;omega
theorem kE.H8(h:kE W A n c m)(f:0<n)(i:aN W b t cs)(j:∀u∈cs,∀x:Bool,u≠ .bool x):∀d,A.map (·.block)=some d->d≠b:=by
 intro d e k;subst k;obtain⟨l,off,o,_,p⟩:=h.cells f;rw[o] at e;injection e with e
 have e:l=d:=e;subst e;have g:=p 0 f;rw[i.cell] at g;exact j _ (List.mem_of_getElem? g) _ rfl
theorem kE.Ei(h:kE W A n c m)(i:aN W b t cs)(j:∀u∈cs,∀x:Bool,u≠ .bool x)(f:aC (λ d=>d≠b) W W'):kE W' A n c m:=by
 rcases Nat.eq_zero_or_pos n with g|g
 ·subst g;exact⟨h.len,h.cap,h.mG,h.od,λ k=>absurd k (by omega)⟩
 ·exact h.iR f (λ d e=>h.H8 g i j d e)
theorem aC.uZ6(v0 v1 v2 v3:Value):aC (λ b=>b≠B) W ((((W.setCell ⟨B,0,none⟩ v0).setCell ⟨B,1,none⟩ v1).setCell ⟨B,2,none⟩ v2).setCell ⟨B,3,none⟩ v3):=by
 have c:∀(u:World)(i:Nat)(v:Value),aC (λ b=>b≠B) u (u.setCell ⟨B,i,none⟩ v):=λ u i v=>aC.set _ i v (λ h=>h rfl)
 exact(((c W 0 v0).trans (c _ 1 v1)).trans (c _ 2 v2)).trans (c _ 3 v3)
theorem uZ7{bK:Nat}(h:Below bK w W)(f:aC (λ b=>b≠B) W W')(d:bK<=B):Below bK w W':=
 ⟨f.os.trans h.os,f.tape.trans h.tape,f.output.trans h.output,q_ h.size f.size,λ b c=>(f.keep b (by omega)).trans (h.block b c)⟩
def Ej:Value->Nat
 | .slice _ n _=>n
 |_=>0
end
end Go.Proofs.YtogdlkfacflmaaaGreat
