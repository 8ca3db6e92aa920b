/- Parts of the walk of the solver and its core; no condition. -/
import Derived.Test.YtogdlkfacflmaaaGreatZV7
import Derived.Test.YtogdlkfacflmaaaGreatZV3
import Derived.Laws.Rows
import Derived.Test.YtogdlkfacflmaaaGreatZV1
import Derived.Test.YtogdlkfacflmaaaGreatZV6
import Derived.Test.YtogdlkfacflmaaaGreatZV2
namespace Go.Proofs.YtogdlkfacflmaaaGreat
set_option linter.unusedVariables false
set_option linter.unusedSimpArgs false
set_option maxRecDepth 1000000
set_option maxHeartbeats 8000000
open _root_.List renaming replicate→z_,getElem?_cons_succ→v_,getElem?_cons_zero→u_,all_eq_true→r_,length_map→n_,map_toArray→m_,map_cons→l_,getD_eq_getElem?_getD→j_,pairwise_iff_getElem→h_,range→e_,map_nil→b_,getElem_map→Zr,getElem?_eq_getElem→Zq,getElem_mem→Zo,getElem?_append_right→Zn,length_append→Zl,mem_range→Zk,take_of_length_le→Zg,mem_iff_getElem→Zc,mem_map→Z0,eq_nil_of_length_eq_zero→Z3,mem_singleton→Z4,any_eq_false→Z7,getElem?_map→Z8,mem_take_iff_getElem→Z_,any_eq_true→ZY
open _root_.Or renaming inl→y_
open _root_.Go.World renaming cell?_of_block→x_,ownsRow_nil→Zj
open _root_.And renaming intro→w_
open _root_.Go.Value renaming slice→t_,bool→f_,int→Zw,pointer→Z6
open _root_.Go.Proofs.Tryz renaming prog→s_,underlying28→Zi
open _root_.Array renaming getD_eq_getD_getElem?→q_,replicate→Zp,all_eq_true_iff_forall_mem→Zf,getElem?_eq_getElem→ZZ,mem_of_getElem?→ZU
open _root_.Go.IntKind renaming wrap_i64→p_,i64→d_
open _root_.Bool renaming and_eq_true→o_,not_eq_true'→Zh,or_eq_true→Ze,or_eq_false_iff→Zd,noConfusion→ZX
open _root_.Go.Result renaming andThen_ok→k_
open _root_.Nat renaming eq_zero_or_pos→i_,le_refl→g_,lt_of_lt_of_le→c_,lt_or_ge→Zx,le_trans→Zm,zero_le→ZW,testBit_lt_two_pow→ZV
open _root_.Go.RowKit.Below renaming heap_setCell→a_,refl→Z9
open _root_.Go.Value.slice renaming injEq→Zv
open _root_.Go.Sem renaming run_bind→Zu,run_pure→Zt
open _root_.Go.Region renaming wanted→Z5,binds→ZT,ready→ZS
variable{w w':World}{row:Option Nat}{base n c G b k off i size:Nat}{A:Option Addr}{act ax a l g:List Int}{K:Nat->Prop}{hs:Nat->aq}{cb:Nat->Nat}{s:an}{F ls:List (List Int)}{h:aq}{x y:Int}{M:Int->Bool}{v:Value}{gq:List Bool}{α:Type}{ws:List (List Nat)}{gW:World->Prop}{mk:Nat->Bool}{e:TypeId}{xs:List Value}
section
open Go.RowKit Go.Shelf
def tC(W w:World)(c:Option Addr)(c2:Nat)(d:List Int):Prop:=aN w c d.length c2 d/\∀b,c.map (·.block)=some b->W.heap.size<=b/\b<w.heap.size
theorem tC.below{W w w':World}{bh:Option Addr}{c2:Nat}{ah:List Int}(h:tC W w bh c2 ah)(c:Below w.heap.size w w'):tC W w' bh c2 ah:=⟨h.1.below c,λ b e=>⟨(h.2 b e).1,c_ (h.2 b e).2 c.size⟩⟩
theorem tC.grown{W:World}{bh:Option Addr}{c2:Nat}{ah:List Int}(h:tC W w bh c2 ah)(c:w.grownBy w' row)(d:∀g,row=some g->g<W.heap.size):tC W w' bh c2 ah:=
 ⟨h.1.xu c.size (λ b e=>c.block b (h.2 b e).2 (λ f=>by have:=d b f.symm;have:=(h.2 b e).1;omega)),λ b e=>⟨(h.2 b e).1,c_ (h.2 b e).2 c.size⟩⟩
def Co(c:Option Addr)(c2:Nat)(b:List Int)(aS ac:Int):mO:=⟨⟨c,b.length,c2,b⟩,aS,min ac 1099511627776⟩
def GE(W:World)(base l:Nat)(A:Option Addr)(j c:Nat)(es:List mO)(e:Nat)(m:Option Addr)(n o:Nat)(f:List Int)(aS ac:Int)(i:Nat)(v:Value)(w:World):Prop:=
 match i with
 |0=>v=.pointer (some ⟨l,2,none⟩)
 |1=>v=.slice A j c
 |2=>v=.pointer (some ⟨e,0,none⟩)
 |3=>v=.pointer (some ⟨e,0,none⟩)
 |4=>v=.pointer (some ⟨e,0,none⟩)
 |5=>v=.slice m n o
 |6=>∃d c2,v=.slice d f.length c2/\tC W w d c2 f
 |7=>v=.pointer (some ⟨e,0,none⟩)
 |8=>v=.pointer (some ⟨e,0,none⟩)
 |9=>v=.pointer (some ⟨e,2,none⟩)
 |10=>v=.int .i64 aS
 |11=>v=.pointer (some ⟨e,0,none⟩)
 |12=>v=.pointer (some ⟨e,0,none⟩)
 |13=>v=.pointer (some ⟨e,3,none⟩)
 |14=>v=.int .i64 ac
 |15=>v=.int .i64 (min ac 1099511627776)
 |16=>∃d c2,v=.agg #[.slice d f.length c2,.int .i64 aS,.int .i64 (min ac 1099511627776)]/\tC W w d c2 f
 |17=>∃d c2 b,v=.slice (some ⟨b,0,none⟩) 1 1/\tC W w d c2 f/\W.heap.size<=b/\b<w.heap.size/\w.cell? ⟨b,0,none⟩=some (.slice d f.length c2)/\w.cell? ⟨b,1,none⟩=some (.int .i64 aS)/\w.cell? ⟨b,2,none⟩=some (.int .i64 (min ac 1099511627776))
 |18=>∃d c2 k c9,v=.slice k (j+1) c9/\tC W w d c2 f/\w.ownsRow base 74 3 (.slice k (j+1) c9) (j+1) (p8 (es++[Co d c2 f aS ac]))/\((t_ k (j+1) c9).ownBlock=(t_ A j c).ownBlock\/∀g,(t_ k (j+1) c9).ownBlock=some g->W.heap.size<=g)/\∀b,d.map (·.block)=some b->(t_ k (j+1) c9).ownBlock≠some b
 |19=>v=.pointer (some ⟨l,2,none⟩)
 |_=>True
theorem GE.mono(W:World)(base l:Nat)(A:Option Addr)(j c:Nat)(es:List mO)(m:Nat)(o:Option Addr)(q r:Nat)(s:List Int)(aS ac:Int)(i:Nat)(u:Value)(w w':World)(d:Below w.heap.size w w')(h:GE W base l A j c es m o q r s aS ac i u w):GE W base l A j c es m o q r s aS ac i u w':=by
 match i,h with
 |0,h=>exact h
 |1,h=>exact h
 |2,h=>exact h
 |3,h=>exact h
 |4,h=>exact h
 |5,h=>exact h
 |6,h=>obtain⟨e,c2,h1,f⟩:=h;exact⟨e,c2,h1,f.below d⟩
 |7,h=>exact h
 |8,h=>exact h
 |9,h=>exact h
 |10,h=>exact h
 |11,h=>exact h
 |12,h=>exact h
 |13,h=>exact h
 |14,h=>exact h
 |15,h=>exact h
 |16,h=>obtain⟨e,c2,h1,f⟩:=h;exact⟨e,c2,h1,f.below d⟩
 |17,h=>obtain⟨e,c2,b,h1,f,k,g,t,v,y⟩:=h;exact⟨e,c2,b,h1,f.below d,k,c_ g d.size,(d.cell (p:=⟨b,0,none⟩) g).trans t,(d.cell (p:=⟨b,1,none⟩) g).trans v,(d.cell (p:=⟨b,2,none⟩) g).trans y⟩
 |18,h=>obtain⟨e,c2,z,c9,h1,f,k,g⟩:=h;exact⟨e,c2,z,c9,h1,f.below d,lU k d,g⟩
 |19,h=>exact h
 |n+20,h=>trivial
theorem GE.grown(W:World)(base o:Nat)(A:Option Addr)(j c:Nat)(es:List mO)(p:Nat)(q:Option Addr)(r s:Nat)(t:List Int)(aS ac:Int)(m:∀g,(t_ A j c).ownBlock=some g->g<W.heap.size)(i:Nat)(y:i≠18)(u:Value)(w w':World)(d:w.grownBy w' (t_ A j c).ownBlock)(h:GE W base o A j c es p q r s t aS ac i u w):GE W base o A j c es p q r s t aS ac i u w':=by
 match i,h with
 |0,h=>exact h
 |1,h=>exact h
 |2,h=>exact h
 |3,h=>exact h
 |4,h=>exact h
 |5,h=>exact h
 |6,h=>obtain⟨f,c2,h1,l⟩:=h;exact⟨f,c2,h1,l.grown d m⟩
 |7,h=>exact h
 |8,h=>exact h
 |9,h=>exact h
 |10,h=>exact h
 |11,h=>exact h
 |12,h=>exact h
 |13,h=>exact h
 |14,h=>exact h
 |15,h=>exact h
 |16,h=>obtain⟨f,c2,h1,l⟩:=h;exact⟨f,c2,h1,l.grown d m⟩
 |17,h=>obtain⟨f,c2,b,h1,l,z,v,B,C,D⟩:=h;have hk:∀k,w'.cell? ⟨b,k,none⟩=w.cell? ⟨b,k,none⟩:=(λ k=>x_ (a:=⟨b,k,none⟩) (d.block b v (λ e=>by have:=m b e.symm;omega)));exact⟨f,c2,b,h1,l.grown d m,z,c_ v d.size,(hk 0).trans B,(hk 1).trans C,(hk 2).trans D⟩
 |18,h=>exact absurd rfl y
 |19,h=>exact h
 |n+20,h=>trivial
structure HD(W:World)(base bt:Nat)(A:Option Addr)(j c:Nat)(es:List mO)(nG:Nat)(o5:Option Addr)(pK p9:Nat)(ah:List Int)(aS ac:Int):Prop where
 gq:W.cell? ⟨bt,2,none⟩=some (.slice A j c)
 NK:bt<W.heap.size
 NL:some bt≠(t_ A j c).ownBlock
 c0:W.cell? ⟨nG,0,none⟩=some (.slice o5 pK p9)
 c2:W.cell? ⟨nG,2,none⟩=some (.int .i64 aS)
 c3:W.cell? ⟨nG,3,none⟩=some (.int .i64 ac)
 Ef:nG<W.heap.size
 Eg:some nG≠(t_ A j c).ownBlock
 xh:aN W o5 pK p9 ah
 kM:∀b,o5.map (·.block)=some b->b<W.heap.size/\some b≠(t_ A j c).ownBlock
 row:∀g,(t_ A j c).ownBlock=some g->g<W.heap.size
 bf:base<=W.heap.size
 NM:j<=1000000
theorem NN(W:World)(base s:Nat)(A:Option Addr)(j c:Nat)(es:List mO)(p:Nat)(z:Option Addr)(B D:Nat)(o:List Int)(aS ac:Int)(C:HD W base s A j c es p z B D o aS ac):
  uB s_ [some 48,some 49,some 50,some 51,some 52,some 53,some 54,some 55,some 56,some 57,some 58,some 59,some 60,some 61,some 62,some 63,some 64,some 65,some 66,some 67,none] [[],[0],[],[2],[3],[4],[5],[],[7],[8],[9],[],[11],[12],[13],[14],[6,10,15],[16],[1,17,6],[0,1,2,3,4,5,6,7,8,9,10,11,12,13,14,15,16,17,18],[19,18,18,0,1,2,3,4,5,6,7,8,9,10,11,12,13,14,15,16,17,18]] [(3,.pointer (some ⟨s,0,none⟩)),(8,.pointer (some ⟨p,0,none⟩))] (λ w=>W.grownBy w (t_ A j c).ownBlock) (GE W base s A j c es p z B D o aS ac) (λ _=>none) (λ w=>w.ownsRow base 74 3 (.slice A j c) j (p8 es)) 18 0 ((tq Tryz.f100 12).take 20):=by
 have af:=GE.mono W base s A j c es p z B D o aS ac;have ag:∀w w':World,Below w.heap.size w w'->w.ownsRow base 74 3 (.slice A j c) j (p8 es)->w'.ownsRow base 74 3 (.slice A j c) j (p8 es):=λ w w' q h=>lU h q
 have ah:∀w w':World,W.grownBy w (t_ A j c).ownBlock->Below w.heap.size w w'->W.grownBy w' (t_ A j c).ownBlock:=λ w w' f q=>xz f ⟨q.os,q.tape,q.output,q.size,λ k hk _=>q.block k hk⟩
 refine⟨?_,?_,?_,?_,?_,?_,?_,?_,?_,?_,?_,?_,?_,?_,?_,?_,?_,?_,?_,?_,trivial⟩
 ·intro vals w i f m d l hp;have Y:i (.tmp 3)=_:=l.1 rfl;simp only[aZ,execOp,Y];simp[gE,go_sem];exact .same f rfl
 ·intro vals w i f m d l hp;obtain⟨⟨f0,G⟩,-⟩:=(⟨d.1 rfl,d.2⟩:_/\_)
  have G:i (.tmp 48)=vals 0:=G _ rfl;have f0:vals 0=_:=f0 (y_ rfl);rw[f0] at G;have t:=(x_ (a:=⟨s,2,none⟩) (f.block s C.NK C.NL)).trans C.gq;simp only[aZ,execOp,G];simp[gE,go_sem,t];exact .same f rfl
 ·intro vals w i f m d l hp;have E:i (.tmp 8)=_:=l.2.1 rfl;simp only[aZ,execOp,E];simp[gE,go_sem];exact .same f rfl
 ·intro vals w i f m d l hp;obtain⟨⟨f2,r⟩,-⟩:=(⟨d.1 rfl,d.2⟩:_/\_)
  have r:i (.tmp 50)=vals 2:=r _ rfl;have f2:vals 2=_:=f2 (y_ rfl);rw[f2] at r;simp only[aZ,execOp,r];simp[gE,go_sem];exact .same f rfl
 ·intro vals w i f m d l hp;obtain⟨⟨f3,H⟩,-⟩:=(⟨d.1 rfl,d.2⟩:_/\_)
  have H:i (.tmp 51)=vals 3:=H _ rfl;have f3:vals 3=_:=f3 (y_ rfl);rw[f3] at H;simp only[aZ,execOp,H];simp[gE,go_sem];exact .same f rfl
 ·intro vals w i f m d l hp;obtain⟨⟨f4,I⟩,-⟩:=(⟨d.1 rfl,d.2⟩:_/\_)
  have I:i (.tmp 52)=vals 4:=I _ rfl;have f4:vals 4=_:=f4 (y_ rfl);rw[f4] at I;have t:=(x_ (a:=⟨p,0,none⟩) (f.block p C.Ef C.Eg)).trans C.c0;simp only[aZ,execOp,I];simp[gE,go_sem,t];exact .same f rfl
 ·intro vals w i f m d l hp;obtain⟨⟨f5,J⟩,-⟩:=(⟨d.1 rfl,d.2⟩:_/\_)
  have J:i (.tmp 53)=vals 5:=J _ rfl;have f5:vals 5=_:=f5 (y_ rfl);rw[f5] at J;have Z:aN w z B D o:=C.xh.xu f.size (λ b e=>f.block b (C.kM b e).1 (C.kM b e).2);refine va 81 #[.tmp 53] #[25] rfl Az hp ?_;simp only[m_,l_,b_,J];refine(xg z B D o w Z).mono ?_;rintro e w' ⟨n,c2,rfl,ai,q⟩;have hl:=Z.len;have au:=Z.mP;refine⟨_,rfl,.more af ag q (ah w w' f q) ⟨n,c2,rfl,aN.lq ai (by omega),λ b e=>?_⟩⟩;have h1:=ai.lt b (by show(aq.v ⟨n,o.length,c2⟩).ownBlock=_;rw[aq.own];exact e);exact⟨Zm f.size h1.1,h1.2⟩
 ·intro vals w i f m d l hp;have E:i (.tmp 8)=_:=l.2.1 rfl;simp only[aZ,execOp,E];simp[gE,go_sem];exact .same f rfl
 ·intro vals w i f m d l hp;obtain⟨⟨f7,K⟩,-⟩:=(⟨d.1 rfl,d.2⟩:_/\_)
  have K:i (.tmp 55)=vals 7:=K _ rfl;have f7:vals 7=_:=f7 (y_ rfl);rw[f7] at K;simp only[aZ,execOp,K];simp[gE,go_sem];exact .same f rfl
 ·intro vals w i f m d l hp;obtain⟨⟨f8,L⟩,-⟩:=(⟨d.1 rfl,d.2⟩:_/\_)
  have L:i (.tmp 56)=vals 8:=L _ rfl;have f8:vals 8=_:=f8 (y_ rfl);rw[f8] at L;simp only[aZ,execOp,L];simp[gE,go_sem];exact .same f rfl
 ·intro vals w i f m d l hp;obtain⟨⟨f9,M⟩,-⟩:=(⟨d.1 rfl,d.2⟩:_/\_)
  have M:i (.tmp 57)=vals 9:=M _ rfl;have f9:vals 9=_:=f9 (y_ rfl);rw[f9] at M;have t:=(x_ (a:=⟨p,2,none⟩) (f.block p C.Ef C.Eg)).trans C.c2;simp only[aZ,execOp,M];simp[gE,go_sem,t];exact .same f rfl
 ·intro vals w i f m d l hp;have E:i (.tmp 8)=_:=l.2.1 rfl;simp only[aZ,execOp,E];simp[gE,go_sem];exact .same f rfl
 ·intro vals w i f m d l hp;obtain⟨⟨f11,N⟩,-⟩:=(⟨d.1 rfl,d.2⟩:_/\_)
  have N:i (.tmp 59)=vals 11:=N _ rfl;have f11:vals 11=_:=f11 (y_ rfl);rw[f11] at N;simp only[aZ,execOp,N];simp[gE,go_sem];exact .same f rfl
 ·intro vals w i f m d l hp;obtain⟨⟨f12,O⟩,-⟩:=(⟨d.1 rfl,d.2⟩:_/\_)
  have O:i (.tmp 60)=vals 12:=O _ rfl;have f12:vals 12=_:=f12 (y_ rfl);rw[f12] at O;simp only[aZ,execOp,O];simp[gE,go_sem];exact .same f rfl
 ·intro vals w i f m d l hp;obtain⟨⟨f13,P⟩,-⟩:=(⟨d.1 rfl,d.2⟩:_/\_)
  have P:i (.tmp 61)=vals 13:=P _ rfl;have f13:vals 13=_:=f13 (y_ rfl);rw[f13] at P;have t:=(x_ (a:=⟨p,3,none⟩) (f.block p C.Ef C.Eg)).trans C.c3;simp only[aZ,execOp,P];simp[gE,go_sem,t];exact .same f rfl
 ·intro vals w i f m d l hp;obtain⟨⟨f14,Q⟩,-⟩:=(⟨d.1 rfl,d.2⟩:_/\_)
  have Q:i (.tmp 62)=vals 14:=Q _ rfl;have f14:vals 14=_:=f14 (y_ rfl);rw[f14] at Q;simp only[aZ,execOp,resolve,invoke,builtin,Zu,Zt,k_,m_,l_,b_,Q,hp.1];simp[gE,go_sem];exact .same f rfl
 ·intro vals w i f m d l hp;obtain⟨⟨f6,R⟩,⟨f10,S⟩,⟨f15,T⟩,-⟩:=(⟨d.1 rfl,d.2.1 rfl,d.2.2.1 rfl,d.2.2.2⟩:_/\_/\_/\_)
  have R:i (.tmp 54)=vals 6:=R _ rfl;have S:i (.tmp 58)=vals 10:=S _ rfl;have T:i (.tmp 63)=vals 15:=T _ rfl;obtain⟨n,c2,f6,aa⟩:∃n c2,vals 6=.slice n o.length c2/\tC W w n c2 o:=f6 (y_ rfl);have f10:vals 10=_:=f10 (y_ rfl);have f15:vals 15=_:=f15 (y_ rfl);rw[f6] at R;rw[f10] at S;rw[f15] at T;simp only[aZ,execOp,m_,l_,b_,R,S,T];simp[gE,go_sem];exact .same f ⟨n,c2,rfl,aa⟩
 ·intro vals w i f m d l hp;obtain⟨⟨f16,U⟩,-⟩:=(⟨d.1 rfl,d.2⟩:_/\_)
  have U:i (.tmp 64)=vals 16:=U _ rfl;obtain⟨n,c2,f16,ak⟩:∃n c2,vals 16=.agg #[.slice n o.length c2,.int .i64 aS,.int .i64 (min ac 1099511627776)]/\tC W w n c2 o:=f16 (y_ rfl);rw[f16] at U;simp only[aZ,execOp,m_,l_,b_,U];simp[gE,go_sem];exact .more af ag (bg w _) (ah w _ f (bg w _)) ⟨n,c2,w.heap.size,rfl,ak.below (bg w _),f.size,by simp,by go_simp,by go_simp,by go_simp⟩
 ·intro vals w i f m d l hp;obtain⟨⟨f1,V⟩,⟨f17,X⟩,-⟩:=(⟨d.1 rfl,d.2.1 rfl,d.2.2⟩:_/\_/\_)
  have V:i (.tmp 49)=vals 1:=V _ rfl;have X:i (.tmp 65)=vals 17:=X _ rfl;have f1:vals 1=_:=f1 (y_ rfl);obtain⟨n,c2,b,f17,aj,av,aw,al,an,aa⟩:∃n c2 b,vals 17=.slice (some ⟨b,0,none⟩) 1 1/\tC W w n c2 o/\W.heap.size<=b/\b<w.heap.size/\w.cell? ⟨b,0,none⟩=some (.slice n o.length c2)/\w.cell? ⟨b,1,none⟩=some (.int .i64 aS)/\w.cell? ⟨b,2,none⟩=some (.int .i64 (min ac 1099511627776)):=f17 (y_ rfl);rw[f1] at V;rw[f17] at X;obtain⟨v',w',g1,g2⟩:=NJ w 42 base (.slice A j c) j es (m (Or.inr rfl)) b 1 (Co n c2 o aS ac) al an aa C.NM (Zm C.bf f.size);simp only[aZ,execOp,resolve,invoke,builtin,Zu,Zt,k_,m_,l_,b_,V,X,g1,gE];obtain⟨⟨ab,jI,c9⟩,ad,ae⟩:=aq.lq g2.1;have ae:jI=j+1:=ae;subst ae;have ad:v'=.slice ab (j+1) c9:=ad;subst ad;refine⟨xz f g2.2.1,⟨n,c2,ab,c9,rfl,aj.grown g2.2.1 C.row,g2.1,?_⟩,λ k u hk _ _ _ ao=>GE.grown W base s A j c es p z B D o aS ac C.row k hk u w w' g2.2.1 ao,λ h=>absurd rfl h⟩;have ar:∀F,n.map (·.block)=some F->(t_ ab (j+1) c9).ownBlock≠some F:=λ F e r=>by
   have ax:=aj.2 F e;rcases g2.2.2 with y|y
   ·rw[y] at r;have:=C.row F r;omega
   ·rw[y] at r;injection r with r;omega
  refine⟨?_,ar⟩;rcases g2.2.2 with y|y
  ·exact .inl y
  ·exact .inr (λ g e=>by rw[y] at e;injection e with e;have:=f.size;omega)
 ·intro vals w i f m d l hp;have Y:i (.tmp 3)=_:=l.1 rfl;simp only[aZ,execOp,Y];simp[gE,go_sem];exact .same f rfl
def yh(W:World)(G aH b r:Nat)(g j k s t u y l:Value)(c:Option Addr)(n6 c6:Nat)(d:Option Addr)(n7 e:Nat)(f:Int)(m:Option Addr)(jI c9:Nat)(n:Option Addr)(o p:Nat)(i:Nat)(v:Value)(w:World):Prop:=
 match i with
 |0=>v=.agg #[.slice c n6 c6,.slice d n7 e,.int .i64 f]
 |1=>v=.pointer (some ⟨G,0,none⟩)
 |2=>v=.pointer (some ⟨G,0,none⟩)
 |3=>v=.pointer (some ⟨G,12,none⟩)
 |4=>v=.slice m jI c9
 |5=>v=.pointer (some ⟨G,0,none⟩)
 |6=>v=.pointer (some ⟨G,0,none⟩)
 |7=>v=.pointer (some ⟨G,14,none⟩)
 |8=>v=.slice n o p
 |9=>v=.pointer (some ⟨b,3,none⟩)
 |10=>∃q,aM w b 47 [g,j,k,.slice c n6 c6,.slice d n7 e,.int .i64 f,q,l]
 |11=>v=.pointer (some ⟨b,6,none⟩)
 |12=>aM w b 47 [g,j,k,.slice c n6 c6,.slice d n7 e,.int .i64 f,.slice m jI c9,l]
 |13=>v=.pointer (some ⟨b,7,none⟩)
 |_=>True
theorem yh.const(W:World)(G aH b c:Nat)(d e f g j k l m:Value)(o:Option Addr)(n6 c6:Nat)(p:Option Addr)(n7 q:Nat)(r:Int)(s:Option Addr)(jI c9:Nat)(t:Option Addr)(v y:Nat)(i:Nat)(z:i≠10)(A:i≠12)(u:Value)(w w':World)(h:yh W G aH b c d e f g j k l m o n6 c6 p n7 q r s jI c9 t v y i u w):yh W G aH b c d e f g j k l m o n6 c6 p n7 q r s jI c9 t v y i u w':=by
 match i,h with
 |0,h=>exact h
 |1,h=>exact h
 |2,h=>exact h
 |3,h=>exact h
 |4,h=>exact h
 |5,h=>exact h
 |6,h=>exact h
 |7,h=>exact h
 |8,h=>exact h
 |9,h=>exact h
 |10,h=>exact absurd rfl z
 |11,h=>exact h
 |12,h=>exact absurd rfl A
 |13,h=>exact h
 |n+14,h=>trivial
structure HE(W:World)(G aH bt q8:Nat)(qQ kq mR oP uf q6 wz pU:Value)(jV:Option Addr)(n6 c6:Nat)(iq:Option Addr)(n7 ia:Nat)(qS:Int)(iU:Option Addr)(jI c9:Nat)(bp:Option Addr)(aR gw:Nat):Prop where
 ay:W.cell? ⟨q8,0,none⟩=some (.slice jV n6 c6)
 h1:W.cell? ⟨q8,1,none⟩=some (.slice iq n7 ia)
 af:W.cell? ⟨q8,2,none⟩=some (.int .i64 qS)
 Eh:q8<W.heap.size/\q8≠bt
 g0:W.cell? ⟨aH,0,none⟩=some (.pointer (some ⟨G,0,none⟩))
 qh:aH<W.heap.size/\aH≠bt
 oB:W.cell? ⟨G,12,none⟩=some (.slice iU jI c9)
 vH:W.cell? ⟨G,14,none⟩=some (.slice bp aR gw)
 HF:G<W.heap.size/\G≠bt
def HG(j:Nat):Option Nat:=if j=10 then some 12 else none
theorem NO(W:World)(G aH j o:Nat)(r s n m y p E t:Value)(z:Option Addr)(n6 c6:Nat)(A:Option Addr)(n7 B:Nat)(D:Int)(F:Option Addr)(jI c9:Nat)(H:Option Addr)(I J:Nat)(C:HE W G aH j o r s n m y p E t z n6 c6 A n7 B D F jI c9 H I J):
  uB s_ [some 69,some 70,some 71,some 72,some 73,some 74,some 75,some 76,some 77,some 78,none,some 79,none,some 80,none] [[],[],[1],[2],[3],[],[5],[6],[7],[0],[9,0,0],[0,1,2,3,4,9,10],[11,4,10,0,1,2,3,4,9,10],[0,1,2,3,4,5,6,7,8,9,10,11,12],[13,8,12,0,1,2,3,4,5,6,7,8,9,10,11,12]] [(5,.pointer (some ⟨o,0,none⟩)),(2,.pointer (some ⟨aH,0,none⟩)),(3,.pointer (some ⟨j,0,none⟩))] (λ w=>W.grownBy w (some j)) (yh W G aH j o r s n m y p E t z n6 c6 A n7 B D F jI c9 H I J) HG (λ w=>∃q,aM w j 47 [r,s,n,m,y,p,q,t]) 10 0 ((tq Tryz.f100 14).take 14):=by
 have v:∀w b k,W.grownBy w (some j)->b<W.heap.size/\b≠j->w.cell? ⟨b,k,none⟩=W.cell? ⟨b,k,none⟩:=λ w b k c l=>x_ (a:=⟨b,k,none⟩) (c.block b l.1 (λ e=>by injection e with e;exact l.2 e))
 refine⟨?_,?_,?_,?_,?_,?_,?_,?_,?_,?_,?_,?_,?_,?_,trivial⟩
 ·intro vals w f c i d g hp;have p:f (.tmp 5)=_:=g.1 rfl;have c0:=(v w o 0 c C.Eh).trans C.ay;have c1:=(v w o 1 c C.Eh).trans C.h1;have c2:=(v w o 2 c C.Eh).trans C.af;simp only[aZ,execOp,p];simp[gE,go_sem,c0,c1,c2];exact .same c rfl
 ·intro vals w f c i d g hp;have n:f (.tmp 2)=_:=g.2.1 rfl;have bn:=(v w aH 0 c C.qh).trans C.g0;simp only[aZ,execOp,n];simp[gE,go_sem,bn];exact .same c rfl
 ·intro vals w f c i d g hp;obtain⟨⟨f1,K⟩,-⟩:=(⟨d.1 rfl,d.2⟩:_/\_)
  have K:f (.tmp 70)=vals 1:=K _ rfl;have f1:vals 1=_:=f1 (y_ rfl);rw[f1] at K;simp only[aZ,execOp,K];simp[gE,go_sem];exact .same c rfl
 ·intro vals w f c i d g hp;obtain⟨⟨f2,L⟩,-⟩:=(⟨d.1 rfl,d.2⟩:_/\_)
  have L:f (.tmp 71)=vals 2:=L _ rfl;have f2:vals 2=_:=f2 (y_ rfl);rw[f2] at L;simp only[aZ,execOp,L];simp[gE,go_sem];exact .same c rfl
 ·intro vals w f c i d g hp;obtain⟨⟨f3,M⟩,-⟩:=(⟨d.1 rfl,d.2⟩:_/\_)
  have M:f (.tmp 72)=vals 3:=M _ rfl;have f3:vals 3=_:=f3 (y_ rfl);rw[f3] at M;have bn:=(v w G 12 c C.HF).trans C.oB;simp only[aZ,execOp,M];simp[gE,go_sem,bn];exact .same c rfl
 ·intro vals w f c i d g hp;have n:f (.tmp 2)=_:=g.2.1 rfl;have bn:=(v w aH 0 c C.qh).trans C.g0;simp only[aZ,execOp,n];simp[gE,go_sem,bn];exact .same c rfl
 ·intro vals w f c i d g hp;obtain⟨⟨f5,N⟩,-⟩:=(⟨d.1 rfl,d.2⟩:_/\_)
  have N:f (.tmp 74)=vals 5:=N _ rfl;have f5:vals 5=_:=f5 (y_ rfl);rw[f5] at N;simp only[aZ,execOp,N];simp[gE,go_sem];exact .same c rfl
 ·intro vals w f c i d g hp;obtain⟨⟨f6,O⟩,-⟩:=(⟨d.1 rfl,d.2⟩:_/\_)
  have O:f (.tmp 75)=vals 6:=O _ rfl;have f6:vals 6=_:=f6 (y_ rfl);rw[f6] at O;simp only[aZ,execOp,O];simp[gE,go_sem];exact .same c rfl
 ·intro vals w f c i d g hp;obtain⟨⟨f7,P⟩,-⟩:=(⟨d.1 rfl,d.2⟩:_/\_)
  have P:f (.tmp 76)=vals 7:=P _ rfl;have f7:vals 7=_:=f7 (y_ rfl);rw[f7] at P;have bn:=(v w G 14 c C.HF).trans C.vH;simp only[aZ,execOp,P];simp[gE,go_sem,bn];exact .same c rfl
 ·intro vals w f c i d g hp;have m:f (.tmp 3)=_:=g.2.2.1 rfl;simp only[aZ,execOp,m];simp[gE,go_sem];exact .same c rfl
 ·intro vals w f c i d g hp;obtain⟨⟨f9,Q⟩,⟨f0,R⟩,-⟩:=(⟨d.1 rfl,d.2.1 rfl,d.2.2⟩:_/\_/\_)
  have Q:f (.tmp 78)=vals 9:=Q _ rfl;have f9:vals 9=_:=f9 (y_ rfl);rw[f9] at Q;have R:f (.tmp 69)=vals 0:=R _ rfl;have f0:vals 0=_:=f0 (y_ rfl);rw[f0] at R;obtain⟨q,l⟩:∃q,aM w j 47 [r,s,n,m,y,p,q,t]:=i (Or.inr rfl);have V:=l.cell 3;have X:=l.cell 4;have Y:=l.cell 5;have k3:=l.free 3;have ad:=l.free 4;have ae:=l.free 5;simp only[u_,v_] at V X Y;simp only[aZ,execOp,Q,R];simp[gE,go_sem,V,X,Y,k3,ad,ae];have ag:=xz (xz (kK w j 3 (.slice z n6 c6)) (kK _ j 4 (.slice A n7 B))) (kK _ j 5 (.int .i64 D));exact⟨xz c ag,⟨q,((l.set 3 _).set 4 _).set 5 _⟩,λ k u hk Z aa _ U=>yh.const W G aH j o r s n m y p E t z n6 c6 A n7 B D F jI c9 H I J k hk (λ e=>by subst e;exact absurd aa (by decide)) u _ _ U,λ h=>absurd rfl h⟩
 ·intro vals w f c i d g hp;have m:f (.tmp 3)=_:=g.2.2.1 rfl;simp only[aZ,execOp,m];simp[gE,go_sem];exact .same c rfl
 ·intro vals w f c i d g hp;obtain⟨⟨f11,S⟩,⟨f4,T⟩,⟨f10,aj⟩,-⟩:=(⟨d.1 rfl,d.2.1 rfl,d.2.2.1 rfl,d.2.2.2⟩:_/\_/\_/\_)
  have S:f (.tmp 79)=vals 11:=S _ rfl;have f11:vals 11=_:=f11 (y_ rfl);rw[f11] at S;have T:f (.tmp 73)=vals 4:=T _ rfl;have f4:vals 4=_:=f4 (y_ rfl);rw[f4] at T;obtain⟨q,l⟩:∃q,aM w j 47 [r,s,n,.slice z n6 c6,.slice A n7 B,.int .i64 D,q,t]:=f10 (Or.inr rfl);have ab:=l.cell 6;have ah:=l.free 6;simp only[u_,v_] at ab;simp only[aZ,execOp,S,T];simp[gE,go_sem,ab,ah];exact⟨xz c (kK w j 6 _),l.set 6 _,λ k u hk Z aa _ U=>yh.const W G aH j o r s n m y p E t z n6 c6 A n7 B D F jI c9 H I J k (λ e=>by subst e;exact absurd rfl Z) hk u _ _ U,λ h _ i=>by obtain⟨ak,ai⟩:=i;exact⟨_,ai.set 6 _⟩⟩
 ·intro vals w f c i d g hp;have m:f (.tmp 3)=_:=g.2.2.1 rfl;simp only[aZ,execOp,m];simp[gE,go_sem];exact .same c rfl
theorem yj{bf:Nat}{w0:World}(h:Below bf w0 w)(b:w.grownBy w' row)(hs:bf<=w.heap.size)(c:∀g,row=some g->bf<=g):Below bf w0 w':=
 ⟨b.os.trans h.os,b.tape.trans h.tape,b.output.trans h.output,Zm h.size b.size,λ k hk=>(b.block k (by omega) (λ e=>by have:=c k e.symm;omega)).trans (h.block k hk)⟩
def Cq(s:an)(i:Nat)(e:mO):Prop:=e.r.ah=aA s.c.cl (gO s.aJ i)/\e.aS=(lE s (gO s.aJ i)).aS/\e.ac=min (lE s (gO s.aJ i)).ac jl
structure HH(s:an)(kR W:World)(bt:Nat)(v0 v1 v3 v4 v5 v6 nF:Value)(A:Option Addr)(j c:Nat)(es:List mO):Prop where
 gq:aM W bt 47 [v0,v1,.slice A j c,v3,v4,v5,v6,nF]
 row:W.ownsRow kR.heap.size 74 3 (.slice A j c) j (p8 es)
 len:es.length=j
 iQ:aF (λ b=>b<kR.heap.size/\¬b=bt) kR W
 rd:∀e∈es,aN W e.r.A e.r.n e.r.c e.r.ah
 ap:∀e∈es,∀b,e.r.A.map (·.block)=some b->kR.heap.size<=b/\b<W.heap.size/\(t_ A j c).ownBlock≠some b
 sp:∀(i:Nat)(h:i<es.length),Cq s i es[i]
def NP(w:World)(hs:Nat->aq)(A:Option Addr)(es:List mO)(d:Option Addr):Prop:=∃c,w.heap.size<=c/\(∀r b,(hs r).b=some b->b<c)/\(∀b,A.map (·.block)=some b->c<=b)/\(∀e∈es,∀b,e.r.A.map (·.block)=some b->c<=b)/\∀b,d.map (·.block)=some b->c<=b
def HI(K:Nat->Prop)(base:Nat)(w:World)(G:Nat)(cb:Nat->Nat)(F:List (List Int))(k:List Int)(n l m:Nat)(s:an)(qx:Int)(qy:Option Addr)(qz qA:Nat)(e:Ending)(w':World):Prop:=
 ∃(g:Nat->Prop)(d:Nat->aq)(iI:an)(o:Nat)(A:Option Addr)(c:Nat)(es:List mO)(f:Option Addr)(j:Nat),e=.returned (.agg #[.int .i64 qx,.slice qy qz qA,.slice A es.length c,(d 6).v,.slice f n j,.int .i64 iI.aW,(d 9).v,oc d iI])/\(∀b,K b->g b)/\aP g base w' G d cb iI/\aF K w w'/\mj F k n l iI m o/\
  iI.aD=s.aD/\iI.jg=s.jg/\iI.aJ=s.aJ/\iI.c.cl=s.c.cl/\r8 w' A es.length c es/\es.length=iI.aJ.length/\(∀(i:Nat)(h:i<es.length),Cq iI i es[i])/\aN w' f n j ((pL iI.act (n4 n)).map (·.1))/\NP w d A es f
theorem NQ(f:n<=1000)(h:w.ownsRow base 3 1 (.slice A n c) n (gT ((e_ n).map λ j:Nat=>(j:Int)+1))){aH G:Nat}{jV:Option Addr}{n6 c6:Nat}(i:w.cell? ⟨aH,0,none⟩=some (.pointer (some ⟨G,0,none⟩)))(q:w.cell? ⟨G,8,none⟩=some (.slice jV n6 c6))
  (l:n6=n+1) (m:∃b,jV=some ⟨b,0,none⟩/\b<base/\∀v,v<=n->w.cell? ⟨b,v,none⟩=some (.int .i64 (ai act v))) (y:aH<base) (z:G<base) (B:base<=w.heap.size):
  Calls s_ 157 #[.slice A n c,.func (.func 158) #[] #[.pointer (some ⟨aH,0,none⟩)]] w λ e w'=>e=.returned (.tuple #[])/\w'.ownsRow base 3 1 (.slice A n c) n (gT ((pL act (n4 n)).map (·.1)))/\Below base w w':=by
 rcases i_ n with d|d
 ·subst d
  haveI:Inhabited Int:=⟨0⟩
  refine(Tryz.slices_SortFunc_none (α:=Int) A c _ w).mono ?_;rintro e w' ⟨rfl,rfl⟩;have o:n4 0=[]:=List.map_eq_nil_iff.1 (by rw[Ee];rfl);refine⟨rfl,?_,Z9 _ _⟩;rw[o];simp only[pL,List.mergeSort_nil];exact h
 ·obtain⟨k,rfl⟩:∃k,n=k+1:=⟨n-1,by omega⟩
  obtain⟨g,cap,p⟩:=yA h;injection p with r C D
  subst r;obtain⟨b,rfl,E,s⟩:=m;subst l;have t:=h.lt g rfl;refine(NF (ls:=n4 (k+1)) (act:=act) (base:=base) (by rw[Ee];exact h) t.1 f (by omega) (by omega) i q s ⟨by omega,by omega⟩ ⟨by omega,by omega⟩ ⟨by omega,by omega⟩).mono ?_;rintro e w' ⟨rfl,h1,u⟩;exact⟨rfl,h1,u⟩
theorem NR{gy aQ h:Nat}(E:aP K base w G hs cb s)(S:mj F ax n gy s aQ h)(cT:n<=10)(cU:s.c.st.length<=1000000)
  {qx tD:Int} {qy:Option Addr} {qz qA:Nat} {nk tE tF mg s0:Value}:
  Calls s_ 100 #[.pointer (some ⟨G,0,none⟩),.agg #[.int .i64 qx,(.slice qy qz qA),nk,tE,tF,.int .i64 tD,mg,s0]] w (HI K base w G cb F ax n gy aQ s qx qy qz qA):=by
 have ar:=U E;have cV:=U S;clear E S;go_enter Tryz.func100,Tryz.ntmps100
 go_upto_region 1 with fail
 have cW:∃aj:Nat->Prop,aj=qN (qN (qN K w.heap.size) (w.heap.size+1)) (w.heap.size+1+1):=⟨_,rfl⟩
 obtain⟨aj,bs⟩:=cW;have bt:=bg w (.cells #[.pointer (some ⟨G,0,none⟩)] 115);have aE:=(ar.o.below bt).1.qN (g:=w.heap.size) (by simp) (by have:=ar.o.e.box.lt;omega) (λ r e=>by have:=(ar.o.e.rows.lt e).2;omega) (λ d O e=>by have:=(ar.o.e.cls d O).lt;omega);have ak:aM (w.alloc (.cells #[.pointer (some ⟨G,0,none⟩)] 115)) w.heap.size 115 [.pointer (some ⟨G,0,none⟩)]:=aM.new w 115 _;have bu:(w.alloc (.cells #[.pointer (some ⟨G,0,none⟩)] 115)).heap.size=w.heap.size+1:=by simp
 have bX:=bt;generalize w.alloc (.cells #[.pointer (some ⟨G,0,none⟩)] 115)=w1 at*;have bb:=bg w1 (.cells #[.int .i64 qx,(.slice qy qz qA),nk,tE,tF,.int .i64 tD,mg,s0] 47);have au:=(aE.below bb).1.qN (g:=w1.heap.size) (by simp) (by have:=aE.e.box.lt;omega) (λ r e=>by have:=(aE.e.rows.lt e).2;omega) (λ d O e=>by have:=(aE.e.cls d O).lt;omega);have aG:aM (w1.alloc (.cells #[.int .i64 qx,(.slice qy qz qA),nk,tE,tF,.int .i64 tD,mg,s0] 47)) w1.heap.size 47 [.int .i64 qx,(.slice qy qz qA),nk,tE,tF,.int .i64 tD,mg,s0]:=aM.new w1 47 _;replace ak:=ak.below bb;have z2:(w1.alloc (.cells #[.int .i64 qx,(.slice qy qz qA),nk,tE,tF,.int .i64 tD,mg,s0] 47)).heap.size=w.heap.size+1+1:=by simp[bu]
 have bY:=bX.trans (bb.mono (by omega));rw[bu] at au aG;generalize w1.alloc (.cells #[.int .i64 qx,(.slice qy qz qA),nk,tE,tF,.int .i64 tD,mg,s0] 47)=av at*;have aI:=bg av (.cells #[.int .i64 0,.slice none 0 0,.slice none 0 0,.slice none 0 0,.slice none 0 0,.int .i64 0,.slice none 0 0,.slice none 0 0] 47);have aK:=(au.below aI).1.qN (g:=av.heap.size) (by simp) (by have:=au.e.box.lt;omega) (λ r e=>by have:=(au.e.rows.lt e).2;omega) (λ d O e=>by have:=(au.e.cls d O).lt;omega);have bw:aM (av.alloc (.cells #[.int .i64 0,.slice none 0 0,.slice none 0 0,.slice none 0 0,.slice none 0 0,.int .i64 0,.slice none 0 0,.slice none 0 0] 47)) av.heap.size 47 [.int .i64 0,.slice none 0 0,.slice none 0 0,.slice none 0 0,.slice none 0 0,.int .i64 0,.slice none 0 0,.slice none 0 0]:=aM.new av 47 _;replace ak:=ak.below aI;replace aG:=aG.below aI;have bZ:=bY.trans (aI.mono (by omega));rw[z2] at aK bw;rw[<-bs] at aK;generalize av.alloc (.cells #[.int .i64 0,.slice none 0 0,.slice none 0 0,.slice none 0 0,.slice none 0 0,.int .i64 0,.slice none 0 0,.slice none 0 0] 47)=b0 at*;have aK:=U aK;have aL:=U (w_ ak (w_ aG (w_ bw bZ)));have c1:b0.cell? ⟨w.heap.size,0,none⟩=some (.pointer (some ⟨G,0,none⟩)):=ak.cell 0;clear aE au ak aG bw bX bY bZ bt bb aI bu z2;have b1:=U (Hw aK.o cV.o (by omega) cU);have aO:=U bs;clear bs;obtain⟨aH,b2⟩:∃b,w.heap.size=b:=⟨_,rfl⟩
 rw[b2] at c1 aL aO⊢
 go_upto_region 2 with(go_at_call 147;refine b1.o.mono ?_;rintro e f ⟨rfl,J,iI,bx,b3,aw,b4,b5,b6,b7,b8,b9,cX⟩;dsimp only)
 have b':∀b,K b->aj b:=λ b l=>by rw[aO.o];exact .inl (.inl (.inl l))
 have bz:aj aH:=by rw[aO.o];exact .inl (.inl (.inr rfl))
 have k2:aj (aH+1):=by rw[aO.o];exact .inl (.inr rfl)
 have k3:aj (aH+1+1):=by rw[aO.o];exact .inr rfl
 have M:=U (w_ (aw.blk aL.o.1 bz) (w_ (aw.blk aL.o.2.1 k2) (aw.blk aL.o.2.2.1 k3)));have m:=U (w_ b3 (w_ b4 (w_ b5 (w_ b6 (w_ b7 (w_ b8 (w_ b9 (w_ b' (w_ bz (w_ k2 k3))))))))));have aw:=U aw;clear b3 b4 b5 b6 b7 b8 b9 cX b' bz k2 k3 c1 b1;have c1:f.cell? ⟨aH,0,none⟩=some (.pointer (some ⟨G,0,none⟩)):=M.o.1.cell 0;obtain⟨z,n6,B,bA⟩:∃A n c,J 6=⟨A,n,c⟩:=⟨_,_,_,rfl⟩
 have aR:f.cell? ⟨G,8,none⟩=some (.slice z n6 B):=by have:=m.o.1.e.kA (k:=8) (v:=(J 6).v) rfl;rw[bA] at this;exact this
 have ca:f.cell? ⟨G,9,none⟩=some (.int .i64 iI.aW):=m.o.1.e.kA (k:=9) (v:=.int .i64 iI.aW) rfl;have bc:=U bA;clear bA
 go_region_held3 (λ w'=>w'.cell? ⟨aH,0,none⟩=some (.pointer (some ⟨G,0,none⟩))/\w'.cell? ⟨G,8,none⟩=some (.slice z n6 B)/\w'.cell? ⟨G,9,none⟩=some (.int .i64 iI.aW)) (first|exact⟨c1,aR,ca⟩|go_keep) (fail)
 have mV:aM ((f.alloc (.cells #[.slice z n6 B,.slice none 0 0,.int .i64 iI.aW] 44)).drew) f.heap.size 44 [.slice z n6 B,.slice none 0 0,.int .i64 iI.aW]:=aM.new f 44 _;have cc:Below f.heap.size f ((f.alloc (.cells #[.slice z n6 B,.slice none 0 0,.int .i64 iI.aW] 44)).drew):=(bg f _).drew;have z5:((f.alloc (.cells #[.slice z n6 B,.slice none 0 0,.int .i64 iI.aW] 44)).drew).heap.size=f.heap.size+1:=by
  show(f.alloc _).heap.size=_;simp
 have cd:=m.o.2.1.rg.gV;have aa:f.cell? ⟨G,0,none⟩=some (.int .i64 (n:Int)):=by have:=m.o.1.e.kA (k:=0) (v:=.int .i64 (iI.c.n:Int)) rfl;rw[cd] at this;exact this
 have bd:=U (w_ mV (w_ cc (w_ z5 (w_ aa c1))));have cf:=m.o.1.e.box.lt;have cg:=M.o.1.lt;have ay:=U (w_ cf cg);clear mV cc z5 cd aa c1 aR ca cf cg;generalize (f.alloc (.cells #[.slice z n6 B,.slice none 0 0,.int .i64 iI.aW] 44)).drew=dO at*
 go_wp2_with fail
 go_loopw [6] (λ i W=>∃(k:Nat)(C:Option Addr)(D:Nat),i=.int .i64 ((k:Int)+1)/\k<=n/\aM W f.heap.size 44 [.slice z n6 B,.slice C k D,.int .i64 iI.aW]/\W.ownsRow (f.heap.size+1) 3 1 (.slice C k D) k (gT ((e_ k).map λ j:Nat=>(j:Int)+1))/\Below f.heap.size f W) (λ i _=>n+1-(intOf i).toNat)
 case atStart=>exact⟨0,none,0,rfl,ZW _,bd.o.1,Zj _ _ _ _,bd.o.2.1⟩
 case round=>
  obtain⟨k,C,D,rfl,hk,bf,hO,bh⟩:=hrel;have Y:=U (w_ hk (w_ bf (w_ hO bh)));have c1:wr.cell? ⟨aH,0,none⟩=some (.pointer (some ⟨G,0,none⟩)):=(bh.cell (p:=⟨aH,0,none⟩) ay.o.2).trans bd.o.2.2.2.2;have aa:wr.cell? ⟨G,0,none⟩=some (.int .i64 (n:Int)):=(bh.cell (p:=⟨G,0,none⟩) ay.o.1).trans bd.o.2.2.2.1;have ch:=bf.cell 1;have cY:=bf.free 1;simp only[u_,v_] at ch;clear hk bf hO bh
  by_cases ab:k<n
  ·have bB:(k:Int)+1<=(n:Int):=by omega
   have d1:decide ((k:Int)+1<=(n:Int))=true:=decide_eq_true bB;have dP:d_.wrap ((k:Int)+1+1)=(k:Int)+1+1:=by rw[p_];omega
   have cj:=U ab;have az:f.heap.size+1<=wr.heap.size:=by have:=Y.o.2.1.lt;omega
   have bC:bF ((wr.alloc (.cells #[.int .i64 ((k:Int)+1)] 3)).ownsRow (f.heap.size+1) 3 1 (.slice C k D) k (gT ((e_ k).map λ j:Nat=>(j:Int)+1))):=U (lU Y.o.2.2.1 (bg wr _));have ck:=U az;clear ab az
   go_upto_region 5 with(at_builtin;refine vp rfl (.tmp 29) (.tmp 31) rfl (f.heap.size+1) (.slice C k D) k ((e_ k).map λ j:Nat=>(j:Int)+1) rfl bC.o (some ⟨wr.heap.size,0,none⟩) 1 1 [(k:Int)+1] rfl (aN.lit wr [(k:Int)+1] 1 _ rfl rfl (by omega)) (by omega) (by have:=ck.o;simp;omega) ?_;intro v9 gb bj;obtain⟨⟨t,jI,c9⟩,cZ,bk⟩:=aq.lq bj.1;obtain rfl:v9=.slice t jI c9:=cZ;have bD:=U ((Y.o.2.1.below (bg wr (.cells #[.int .i64 ((k:Int)+1)] 3))).kept bj.2.1 (λ e=>by have:=(bC.o.lt f.heap.size e.symm).1;omega));have cm:=bD.o.cell 1;have c7:=bD.o.free 1;simp only[u_,v_] at cm;have bE:=U bj;have c8:=U bk;clear bj bk)
   have bk:jI=k+1:=c8.o;subst bk;have al:(gb.setCell ⟨f.heap.size,1,none⟩ (.slice t (k+1) c9)).ownsRow (f.heap.size+1) 3 1 (.slice t (k+1) c9) (k+1) (gT ((e_ (k+1)).map λ j:Nat=>(j:Int)+1)):=by
    have h1:=mK bE.o.1 (w':=gb.setCell ⟨f.heap.size,1,none⟩ (.slice t (k+1) c9)) (λ b l=>a_ _ _ _ _ (by show b≠f.heap.size;have:=(bE.o.1.lt b l).1;omega));rw[List.range_succ,List.map_append];exact h1
   have cn:Below f.heap.size f (gb.setCell ⟨f.heap.size,1,none⟩ (.slice t (k+1) c9)):=by
    refine Below.setCell (p:=⟨f.heap.size,1,none⟩) ?_ (g_ _) _;exact yj (Y.o.2.2.2.alloc Y.o.2.2.2.size (.cells #[.int .i64 ((k:Int)+1)] 3)) bE.o.2.1 (by have:=ck.o;simp;omega) (λ g e=>by have:=(bC.o.lt g e).1;show f.heap.size<=g;omega)
   have cp:=bD.o.set 1 (.slice t (k+1) c9);have Z:=U (w_ al (w_ cn cp));clear al cn cp cm c7
   go_wp2_with fail
   go_roundw
   case rel=>exact⟨k+1,t,c9,by go_num,by have:=cj.o;omega,Z.o.2.2,Z.o.1,Z.o.2.1⟩
   case measure=>have:=cj.o;simp[intOf];omega
  ·have bB:¬(k:Int)+1<=(n:Int):=by omega
   have d1:decide ((k:Int)+1<=(n:Int))=false:=decide_eq_false bB;obtain rfl:k=n:=by have:=Y.o.1;omega
   clear ab;have aR:wr.cell? ⟨G,8,none⟩=some (.slice z n6 B):=by have:=((Y.o.2.2.2.cell (p:=⟨G,8,none⟩) ay.o.1).trans (m.o.1.e.kA (k:=8) (v:=(J 6).v) rfl));rw[bc.o] at this;exact this
   have dQ:∀(fn:Fn)(first cap:Array Value)(w:World),(Instr.makeFunc fn first cap).run s_ w=.ok (.func fn first cap) w:=λ _ _ _ _=>rfl
   have da:iI.act.length=k+1:=m.o.2.1.rg.kM;have cq:=U (NQ (act:=iI.act) (by omega) Y.o.2.2.1 c1 aR (by have:=m.o.1.e.n6;rw[bc.o] at this;show n6=_;have y:n6=iI.act.length:=this;omega) (by
    obtain⟨bG,bl,dR,dS⟩:=m.o.1.e.lN 8 6 rfl m.o.1.e.n6 (by omega);have h1:(J 6).A=some ⟨bG,0,none⟩:=(m.o.1.e.rows.form bl).1;rw[bc.o] at h1;refine⟨bG,h1,by have:=(m.o.1.e.rows.lt bl).2;omega,λ v dT=>?_⟩;exact(Y.o.2.2.2.cell (p:=⟨bG,v,none⟩) (m.o.1.e.rows.lt bl).2).trans (m.o.1.e.yP bl (by omega))) (by have:=ay.o;omega) (by have:=ay.o;omega) (by have:=Y.o.2.1.lt;omega))
   clear aR da
   go_upto_region 8 with(go_at_call 157;refine cq.o.mono ?_;rintro e H ⟨rfl,cr,ct⟩;dsimp only)
   have cu:aM H f.heap.size 44 [.slice z n6 B,.slice C k D,.int .i64 iI.aW]:=by
    have ab:=Y.o.2.1.lt;exact(ct.block f.heap.size (by omega)).trans Y.o.2.1
   have bH:Below f.heap.size f H:=Y.o.2.2.2.trans (ct.mono (by omega));have Z:=U (w_ cr (w_ cu bH));have gq:=(bH.block (aH+1) (M.o.2.1.lt)).trans M.o.2.1;have bI:bF (aM H (aH+1) 47 [.int .i64 qx,(.slice qy qz qA),nk,tE,tF,.int .i64 tD,mg,s0]):=U gq;clear cr cu bH gq cq ch cY;have s2:=bI.o.cell 2;have cv:=bI.o.free 2;simp only[u_,v_] at s2
   go_upto_region 9 with fail
   have cw:=(m.o.1.below Z.o.2.2).1;have ad:=cw.vh (g:=aH+1) m.o.2.2.2.2.2.2.2.2.2.1 2 (.slice none 0 0);have db:(H.setCell ⟨aH+1,2,none⟩ (.slice none 0 0)).heap.size=H.heap.size:=by simp
   have cx:aM (H.setCell ⟨aH+1,2,none⟩ (.slice none 0 0)) (aH+1) 47 [.int .i64 qx,(.slice qy qz qA),.slice none 0 0,tE,tF,.int .i64 tD,mg,s0]:=bI.o.set 2 _;have cy:(H.setCell ⟨aH+1,2,none⟩ (.slice none 0 0)).ownsRow (f.heap.size+1) 3 1 (.slice C k D) k (gT ((pL iI.act (n4 k)).map (·.1))):=mK Z.o.1 (λ b l=>a_ _ _ _ _ (by show b≠aH+1;have:=(Z.o.1.lt b l).1;have:=M.o.2.1.lt;omega));have cz:aM (H.setCell ⟨aH+1,2,none⟩ (.slice none 0 0)) f.heap.size 44 [.slice z n6 B,.slice C k D,.int .i64 iI.aW]:=Z.o.2.1.kept (kK H (aH+1) 2 (.slice none 0 0)) (λ e=>by injection e with e;have:=M.o.2.1.lt;omega);have cA:aM (H.setCell ⟨aH+1,2,none⟩ (.slice none 0 0)) aH 115 [.pointer (some ⟨G,0,none⟩)]:=aM.kept (show aM H aH 115 _ from(Z.o.2.2.block aH ay.o.2).trans M.o.1) (kK H (aH+1) 2 (.slice none 0 0)) (λ e=>by injection e with e;omega);have cB:aM (H.setCell ⟨aH+1,2,none⟩ (.slice none 0 0)) (aH+1+1) 47 [.int .i64 0,.slice none 0 0,.slice none 0 0,.slice none 0 0,.slice none 0 0,.int .i64 0,.slice none 0 0,.slice none 0 0]:=aM.kept (show aM H (aH+1+1) 47 _ from(Z.o.2.2.block (aH+1+1) M.o.2.2.lt).trans M.o.2.2) (kK H (aH+1) 2 (.slice none 0 0)) (λ e=>by injection e with e;omega);have ad:=U ad;have dc:bF (aF K f (H.setCell ⟨aH+1,2,none⟩ (.slice none 0 0))):=U (by
    have aT:=ar.o.s.lt;have hw:Below f.heap.size f (H.setCell ⟨aH+1,2,none⟩ (.slice none 0 0))->True:=λ _=>trivial
    refine(aF.q4 Z.o.2.2 (λ b l=>m.o.1.s.lt b (m.o.2.2.2.2.2.2.2.1 b l))).trans (aF.set (aH+1) 2 _ (λ hk=>by have:=aT _ hk;omega)))
   have I:=U (w_ cx (w_ cy (w_ cz (w_ cA cB))));clear cw cx cy cz cA cB db s2 cv;generalize H.setCell ⟨aH+1,2,none⟩ (.slice none 0 0)=V at*;have dU:V.cell? ⟨aH,0,none⟩=some (.pointer (some ⟨G,0,none⟩)):=I.o.2.2.2.1.cell 0;obtain⟨cC,n10,dd,bn⟩:∃A n c,J 10=⟨A,n,c⟩:=⟨_,_,_,rfl⟩
   have dV:V.cell? ⟨G,13,none⟩=some (.slice cC n10 dd):=by have:=ad.o.e.kA (k:=13) (v:=(J 10).v) rfl;rw[bn] at this;exact this
   have cD:n10=iI.aJ.length:=by have:=ad.o.e.n10;rw[bn] at this;exact this
   have aB:=U (w_ bn cD);clear bn cD c1 aa
   go_wp2_with fail
   have dW:iI.aJ.length<=60000:=by
    have h1:=m.o.2.1.ov;have y:3^k<=3^10:=Nat.pow_le_pow_right (by omega) cT;have ao:(3:Nat)^10=59049:=by decide
    omega
   go_loopw [44] (λ i W=>∃(j:Nat)(A:Option Addr)(c:Nat)(es:List mO),i=.int .i64 (j:Int)/\j<=n10/\HH iI V W (aH+1) (.int .i64 qx) (.slice qy qz qA) tE tF (.int .i64 tD) mg s0 A j c es) (λ i _=>n10-(intOf i).toNat)
   case atStart=>exact⟨0,none,0,[],rfl,ZW _,⟨I.o.1,Zj _ _ _ _,rfl,aF.refl,λ e h=>by(cases h),λ e h=>by(cases h),λ i h=>by(simp at h)⟩⟩
   case round=>
    obtain⟨j,A,c,es,rfl,dX,bJ⟩:=hrel;have q:=U bJ;have af:=U (ad.o.still (P:=λ b=>b=aH+1) bJ.iQ (λ b e=>by rw[e];exact m.o.2.2.2.2.2.2.2.2.2.1));clear bJ
    by_cases ab:j<n10
    ·have de:(j:Int)<(n10:Int):=by omega
     have bK:j<iI.aJ.length:=by rw[<-aB.o.2];exact ab
     obtain⟨d,O⟩:∃d,gO iI.aJ j=d:=⟨_,rfl⟩
     have bo:d<iI.c.cl.length:=by rw[<-O];exact m.o.2.1.rg.kW _ (Gn bK)
     obtain⟨g10,bp,cE⟩:=af.o.e.rows.addr (r:=10) (by rw[aB.o.1];show n10≠0;omega);rw[aB.o.1] at bp;have bp:cC=some ⟨g10,0,none⟩:=bp;subst bp;have cl:=af.o.e.Gm cE bK;rw[O] at cl;obtain⟨aa,df,cF,cG,dh⟩:=af.o.Ae bo;obtain⟨aU,aC,aV,aX⟩:∃A n c,J (kz d)=⟨A,n,c⟩:=⟨_,_,_,rfl⟩
     rw[aX] at aa;replace aa:wr.cell? ⟨cb d,0,none⟩=some (.slice aU aC aV):=aa;have cH:aN wr aU aC aV (aA iI.c.cl d):=by
      have h1:=af.o.e.rows.row (kz d);have y:=af.o.e.Al d;rw[aX,DH,BL,x4] at h1;rw[aX] at y;have ao:=(m.o.2.1.gH.jG.mD d bo).len;rw[m.o.2.1.rg.gV] at ao;have y:aC=(aA iI.c.cl d).length:=y;exact aN.lq h1 (by omega)
     obtain⟨aS,bL⟩:∃x,(lE iI d).aS=x:=⟨_,rfl⟩
     obtain⟨ac,bM⟩:∃x,(lE iI d).ac=x:=⟨_,rfl⟩
     rw[bL] at cF;rw[bM] at cG;have s2:=q.o.gq.cell 2;have cv:=q.o.gq.free 2;simp only[u_,v_] at s2;have dY:d_.wrap ((j:Int)+1)=(j:Int)+1:=by rw[p_];omega
     have aY:=U (w_ ab (w_ O (w_ bL (w_ bM bo))));have di:bF (HD wr V.heap.size (aH+1) A j c es (cb d) aU aC aV (aA iI.c.cl d) aS ac):=U (by
      have cI:=q.o.iQ.size;have dZ:=I.o.1.lt;have d':=(ad.o.e.cls d bo).lt;have al:∀g,(t_ A j c).ownBlock=some g->V.heap.size<=g/\g<wr.heap.size:=λ g e=>q.o.row.lt g e
      refine⟨s2,by omega,λ e=>by have:=(al _ e.symm).1;omega,aa,cF,cG,by omega,λ e=>by have:=(al _ e.symm).1;omega,cH,λ b e=>?_,λ g e=>(al g e).2,cI,by have:=aB.o.2;omega⟩;have h1:(J (kz d)).b=some b:=by rw[aX];exact e
      have y:=(ad.o.e.rows.lt h1).2;exact⟨by omega,λ bq=>by have:=(al _ bq.symm).1;omega⟩)
     have bN:=U (NN wr V.heap.size (aH+1) A j c es (cb d) aU aC aV (aA iI.c.cl d) aS ac di.o);clear ab bK O bL bM df dh cH aX cE
     go_upto_region 12 with fail
     refine An (tq Tryz.f100 12) 20 82 _ _ [(3,.pointer (some ⟨aH+1,0,none⟩)),(8,.pointer (some ⟨cb d,0,none⟩))] _ (GE wr V.heap.size (aH+1) A j c es (cb d) aU aC aV (aA iI.c.cl d) aS ac) _ _ 18 (by kernel_rfl) (by kernel_rfl) (by kernel_rfl) (by kernel_rfl) (by kernel_rfl) (by decide+kernel) (by decide+kernel) (by decide+kernel) (by decide+kernel) (by decide+kernel) rfl ⟨rfl,rfl,trivial⟩ (Ec (GR wr _)) (lU q.o.row ((Z9 _ _).drew)) bN.o _ rfl ?_;intro vals L N ag dj a6;obtain⟨a7,c2,t,c9,f18,bO,cJ,dk,dm⟩:∃a7 c2 t c9,vals 18=.slice t (j+1) c9/\tC wr L a7 c2 (aA iI.c.cl d)/\L.ownsRow V.heap.size 74 3 (.slice t (j+1) c9) (j+1) (p8 (es++[Co a7 c2 (aA iI.c.cl d) aS ac]))/\((t_ t (j+1) c9).ownBlock=(t_ A j c).ownBlock\/∀g,(t_ t (j+1) c9).ownBlock=some g->wr.heap.size<=g)/\∀b,a7.map (·.block)=some b->(t_ t (j+1) c9).ownBlock≠some b:=ag 18 (by omega) rfl;have f19:vals 19=.pointer (some ⟨aH+1,2,none⟩):=ag 19 (by omega) rfl;simp only[oJ,Act.put,List.take,f18,f19] at a6;subst a6;have cI:=q.o.iQ.size;have cK:=I.o.1.lt;have br:=q.o.gq.kept N (λ e=>by have:=(q.o.row.lt (aH+1) e.symm).1;omega);have bP:=br.cell 2;have f11:=br.free 2;simp only[u_,v_] at bP;have cL:HH iI V (L.setCell ⟨aH+1,2,none⟩ (.slice t (j+1) c9)) (aH+1) (.int .i64 qx) (.slice qy qz qA) tE tF (.int .i64 tD) mg s0 t (j+1) c9 (es++[Co a7 c2 (aA iI.c.cl d) aS ac]):=by
      have dn:∀b,V.heap.size<=b->b<wr.heap.size->(t_ A j c).ownBlock≠some b->(L.setCell ⟨aH+1,2,none⟩ (.slice t (j+1) c9)).heap[b]? =wr.heap[b]? :=λ b h1 y ao=>(a_ _ _ _ _ (show b≠aH+1 by omega)).trans (N.block b y (λ e=>ao e.symm))
      have az:wr.heap.size<=(L.setCell ⟨aH+1,2,none⟩ (.slice t (j+1) c9)).heap.size:=Zm N.size (kK L (aH+1) 2 _).size;refine⟨br.set 2 _,mK cJ (λ b l=>a_ _ _ _ _ (show b≠aH+1 by have:=(cJ.lt b l).1;omega)),by rw[Zl,q.o.len];rfl,?_,λ e he=>?_,λ e he b l=>?_,λ i dp=>?_⟩
      ·refine(q.o.iQ.trans ⟨N.os,N.tape,N.output,N.size,λ b l=>N.block b (by omega) (λ e=>by have:=(q.o.row.lt b e.symm).1;omega)⟩).trans (aF.set (aH+1) 2 _ (λ h=>h.2 rfl))
      ·rcases List.mem_append.1 he with h1|h1
       ·exact(q.o.rd e h1).xu az (λ b l=>by have y:=q.o.ap e h1 b l;exact dn b y.1 y.2.1 y.2.2)
       ·rw[Z4.1 h1];exact bO.1.xu (kK L (aH+1) 2 _).size (λ b l=>a_ _ _ _ _ (show b≠aH+1 by have:=(bO.2 b l).1;omega))
      ·rcases List.mem_append.1 he with h1|h1
       ·obtain⟨y,ao,bx⟩:=q.o.ap e h1 b l;refine⟨y,by omega,λ bq=>?_⟩;rcases dk with bQ|bQ
        ·exact bx (by rw[<-bQ];exact bq)
        ·have:=bQ b bq;omega
       ·rw[Z4.1 h1] at l;obtain⟨y,ao⟩:=bO.2 b l;exact⟨by omega,c_ ao (kK L (aH+1) 2 _).size,dm b l⟩
      ·rcases Zx i es.length with h1|h1
       ·rw[List.getElem_append_left h1];exact q.o.sp i h1
       ·have y:i=es.length:=by rw[Zl,List.length_singleton] at dp;omega
        subst y;rw[List.getElem_append_right (g_ _)];simp only[Nat.sub_self,List.getElem_cons_zero];have O:=aY.o.2.1;have hl:=q.o.len;unfold Cq;rw[hl,O];exact⟨rfl,aY.o.2.2.1.symm,by show min ac 1099511627776=_;rw[aY.o.2.2.2.1];rfl⟩
     have dq:=U cL;clear cL br N ag;simp only[aZ,execOp];simp[gE,go_sem,Act.eval,Act.put,bP,f11];clear bP f11
     go_wp2_with fail
     go_roundw
     case rel=>exact⟨j+1,t,c9,_,by go_num,by have:=aY.o.1;omega,dq.o⟩
     case measure=>have:=aY.o.1;simp[intOf];omega
    ·have de:¬(j:Int)<(n10:Int):=by omega
     obtain rfl:j=n10:=by omega
     clear ab
     go_upto_region 14 with fail
     have a8:wr.cell? ⟨G,12,none⟩=some (J 9).v:=af.o.e.kA (k:=12) (v:=(J 9).v) rfl;have bR:wr.cell? ⟨G,14,none⟩=some (oc J iI):=af.o.e.kA (k:=14) (v:=oc J iI) rfl;obtain⟨t,jI,c9,bS⟩:∃A n c,J 9=⟨A,n,c⟩:=⟨_,_,_,rfl⟩
     obtain⟨Q,R,T,bT⟩:∃A n c,oc J iI=.slice A n c:=by
      unfold oc
      cases iI.jg with
      |none=>exact⟨_,_,_,rfl⟩
      |some h=>exact⟨_,_,_,rfl⟩
     rw[bS] at a8;rw[bT] at bR;replace a8:wr.cell? ⟨G,12,none⟩=some (.slice t jI c9):=a8;have cK:=I.o.1.lt;have cM:=I.o.2.2.1.lt;have cN:=I.o.2.2.2.1.lt;have bU:f.heap.size≠aH+1:=by have:=M.o.2.1.lt;omega
     have a':aM wr f.heap.size 44 [.slice z n6 B,.slice C k D,.int .i64 iI.aW]:=q.o.iQ.blk I.o.2.2.1 ⟨cM,bU⟩;have cO:aM wr aH 115 [.pointer (some ⟨G,0,none⟩)]:=q.o.iQ.blk I.o.2.2.2.1 ⟨cN,by omega⟩;have cP:aM wr (aH+1+1) 47 [.int .i64 0,.slice none 0 0,.slice none 0 0,.slice none 0 0,.slice none 0 0,.int .i64 0,.slice none 0 0,.slice none 0 0]:=q.o.iQ.blk I.o.2.2.2.2 ⟨I.o.2.2.2.2.lt,by omega⟩;have dr:G≠aH+1:=λ e=>ad.o.s.g (by rw[e];exact m.o.2.2.2.2.2.2.2.2.2.1)
     have dt:bF (HE wr G aH (aH+1) f.heap.size (.int .i64 qx) (.slice qy qz qA) (.slice A j c) tE tF (.int .i64 tD) mg s0 z n6 B C k D iI.aW t jI c9 Q R T):=U (by
      have az:=q.o.iQ.size;exact⟨a'.cell 0,a'.cell 1,a'.cell 2,⟨by omega,bU⟩,cO.cell 0,⟨by omega,by omega⟩,a8,bR,⟨c_ ad.o.e.box.lt az,dr⟩⟩)
     have bN:=U (NO wr G aH (aH+1) f.heap.size (.int .i64 qx) (.slice qy qz qA) (.slice A j c) tE tF (.int .i64 tD) mg s0 z n6 B C k D iI.aW t jI c9 Q R T dt.o);have bV:=U (w_ bS (w_ bT (w_ a' (w_ cP bU))));clear bS bT a' cO cP cK cM cN a8 bR;refine An (tq Tryz.f100 14) 14 82 _ _ [(5,.pointer (some ⟨f.heap.size,0,none⟩)),(2,.pointer (some ⟨aH,0,none⟩)),(3,.pointer (some ⟨aH+1,0,none⟩))] _ (yh wr G aH (aH+1) f.heap.size (.int .i64 qx) (.slice qy qz qA) (.slice A j c) tE tF (.int .i64 tD) mg s0 z n6 B C k D iI.aW t jI c9 Q R T) HG _ 10 (by kernel_rfl) (by kernel_rfl) (by kernel_rfl) (by kernel_rfl) (by kernel_rfl) (by decide+kernel) (by decide+kernel) (by decide+kernel) (by decide+kernel) (by decide+kernel) rfl ⟨rfl,rfl,rfl,trivial⟩ (Ec (GR wr _)) ⟨mg,q.o.gq⟩ bN.o _ rfl ?_;intro vals L N ag dj a6;have f12:aM L (aH+1) 47 [.int .i64 qx,(.slice qy qz qA),.slice A j c,.slice z n6 B,.slice C k D,.int .i64 iI.aW,.slice t jI c9,s0]:=ag 12 (by omega) rfl;have f13:vals 13=.pointer (some ⟨aH+1,7,none⟩):=ag 13 (by omega) rfl;have f8:vals 8=.slice Q R T:=ag 8 (by omega) rfl;simp only[oJ,Act.put,List.take,f13,f8] at a6;subst a6;have bW:=f12.cell 7;have k7:=f12.free 7;simp only[u_,v_] at bW;have ah:=U (f12.set 7 (.slice Q R T));have X:bF (aM (L.setCell ⟨aH+1,7,none⟩ (.slice Q R T)) (aH+1+1) 47 [.int .i64 0,.slice none 0 0,.slice none 0 0,.slice none 0 0,.slice none 0 0,.int .i64 0,.slice none 0 0,.slice none 0 0]):=U ((bV.o.2.2.2.1.kept N (λ e=>by injection e with e;omega)).kept (kK L (aH+1) 7 (.slice Q R T)) (λ e=>by injection e with e;omega));have ba:bF (wr.grownBy (L.setCell ⟨aH+1,7,none⟩ (.slice Q R T)) (some (aH+1))):=U (xz N (kK L (aH+1) 7 _));simp only[aZ,execOp];simp[gE,go_sem,Act.eval,Act.put,bW,k7];clear bW k7 f12 N ag;generalize L.setCell ⟨aH+1,7,none⟩ (.slice Q R T)=cQ at*;have du:=ah.o.cell 0;have dv:=ah.o.cell 1;have dw:=ah.o.cell 2;have dx:=ah.o.cell 3;have dy:=ah.o.cell 4;have dz:=ah.o.cell 5;have dA:=ah.o.cell 6;have dB:=ah.o.cell 7;have dC:=X.o.cell 0;have dD:=X.o.cell 1;have dE:=X.o.cell 2;have dF:=X.o.cell 3;have dG:=X.o.cell 4;have dH:=X.o.cell 5;have dI:=X.o.cell 6;have dJ:=X.o.cell 7;have ai:=X.o.free;have ea:=ai 0;have eb:=ai 1;have ec:=ai 2;have ed:=ai 3;have ee:=ai 4;have ef:=ai 5;have eg:=ai 6;have eh:=ai 7;simp only[List.set_cons_succ,List.set_cons_zero,u_,v_] at du dv dw dx dy dz dA dB dC dD dE dF dG dH dI dJ
     go_wp2_with fail
     have dK:=(((((((X.o.set 0 (.int .i64 qx)).set 1 (.slice qy qz qA)).set 2 (.slice A j c)).set 3 (.slice z n6 B)).set 4 (.slice C k D)).set 5 (.int .i64 iI.aW)).set 6 (.slice t jI c9)).set 7 (.slice Q R T);have cR:aF (λ b=>b<wr.heap.size/\¬(b=aH+1\/b=aH+1+1)) wr cQ:=⟨ba.o.os,ba.o.tape,ba.o.output,ba.o.size,λ b l=>ba.o.block b l.1 (λ e=>by injection e with e;exact l.2 (.inl e))⟩
     have ae:∀(u:World)(i:Nat)(v:Value),aF (λ b=>b<wr.heap.size/\¬(b=aH+1\/b=aH+1+1)) u (u.setCell ⟨aH+1+1,i,none⟩ v):=λ u i v=>aF.set (aH+1+1) i v (λ h=>h.2 (.inr rfl))
     have aD:=(((((((cR.trans (ae cQ 0 (.int .i64 qx))).trans (ae _ 1 (.slice qy qz qA))).trans (ae _ 2 (.slice A j c))).trans (ae _ 3 (.slice z n6 B))).trans (ae _ 4 (.slice C k D))).trans (ae _ 5 (.int .i64 iI.aW))).trans (ae _ 6 (.slice t jI c9))).trans (ae _ 7 (.slice Q R T));clear cR ae;refine bodyPost_ret (results_cell_row (p:=4) (ty:=47) rfl _ _ (aH+1+1) 47 #[.int .i64 qx,.slice qy qz qA,.slice A j c,.slice z n6 B,.slice C k D,.int .i64 iI.aW,.slice t jI c9,.slice Q R T] (0,0) _ rfl dK Tryz.underlying47 rfl (by kernel_rfl)) rfl ?_;have dL:w.heap.size=aH:=b2;have ei:=q.o.iQ.size;have ej:=I.o.1.lt;have ek:=I.o.2.2.2.2.lt;have hlen:=q.o.len;subst hlen;have dM:(J 6).v=.slice z n6 B:=by rw[bc.o];rfl
     have dN:(J 9).v=.slice t jI c9:=by rw[bV.o.1];rfl
     have cS:wr.ownsRow (f.heap.size+1) 3 1 (.slice C k D) k (gT ((pL iI.act (n4 k)).map (·.1))):=mK I.o.2.1 (λ b l=>by
      have h1:=I.o.2.1.lt b l;have y:=M.o.2.1.lt;exact q.o.iQ.keep b ⟨h1.2,by omega⟩)
     refine⟨aj,J,iI,bx,A,c,es,C,D,by rw[dM,dN,bV.o.2.1],m.o.2.2.2.2.2.2.2.1,af.o.still (P:=λ b=>b=aH+1\/b=aH+1+1) aD (λ b l=>?_),?_,m.o.2.1,m.o.2.2.2.1,m.o.2.2.2.2.1,m.o.2.2.2.2.2.1,m.o.2.2.2.2.2.2.1,r8.lq (mK q.o.row (λ b l=>?_)) (by have:=aB.o.2;omega) (λ e he=>?_),by rw[<-aB.o.2],q.o.sp,aN.lq (mK cS (λ b l=>?_)) (by omega),⟨f.heap.size,by have y:=M.o.2.1.lt;omega,λ r b e=>(m.o.1.e.rows.lt e).2,λ b e=>?_,λ e he b l=>?_,λ b e=>?_⟩⟩
     ·rcases l with l|l
      ·rw[l];exact m.o.2.2.2.2.2.2.2.2.2.1
      ·rw[l];exact m.o.2.2.2.2.2.2.2.2.2.2
     ·have aT:=ar.o.s.lt;have f1:aF K w b0:=aF.q4 (by rw[dL];exact aL.o.2.2.2) aT;refine(((f1.trans (aw.o.mono m.o.2.2.2.2.2.2.2.1)).trans dc.o).trans (q.o.iQ.mono λ b l=>?_)).trans (aD.mono λ b l=>?_)
      ·have:=aT b l;exact⟨by omega,by omega⟩
      ·have:=aT b l;exact⟨by omega,by omega⟩
     ·have h1:=q.o.row.lt b l;exact aD.keep b ⟨h1.2,by omega⟩
     ·refine(q.o.rd e he).xu aD.size (λ b l=>?_);have h1:=q.o.ap e he b l;exact aD.keep b ⟨h1.2.1,by omega⟩
     ·have h1:=I.o.2.1.lt b l;have y:=M.o.2.2.lt;exact aD.keep b ⟨by omega,by omega⟩
     ·have h1:=(q.o.row.lt b ((aq.own ⟨A,es.length,c⟩).trans e)).1;have y:=I.o.2.2.1.lt;omega
     ·have h1:=(q.o.ap e he b l).1;have y:=I.o.2.2.1.lt;omega
     ·have h1:=(cS.lt b ((aq.own ⟨C,k,D⟩).trans e)).1;have y:=M.o.2.1.lt;omega
end
section
open Go.RowKit
def Ei(n:Nat)(gI:Option Addr)(b bn:Nat)(d:Option Addr)(nl cl:Nat)(A:Option Addr)(e c:Nat)(A':Option Addr)(f c':Nat)(g:Int)(i:Option Addr)(j k:Nat)(l:Option Addr)(m o:Nat):Value:=
 .agg #[.int .i64 n,.slice gI b bn,.slice d nl cl,.slice A e c,.slice A' f c',.int .i64 g,.slice i j k,.slice l m o]
def ug(n:Nat):List Bool:=z_ n false
theorem kS.nQ{ah:List Bool}(h:kS w A n c ah)(v:Value){p:Addr}(d:∀b off,A=some ⟨b,off,none⟩->b≠p.block):kS (w.setCell p v) A n c ah:=by
 refine⟨h.len,h.cap,h.mP,h.oo,λ f=>?_⟩;obtain⟨b,off,e,g,i⟩:=h.cells f;exact⟨b,off,e,by simpa[World.setCell] using g,λ j k=>(x_ (a_ _ _ _ _ (d b off e))).trans (i j k)⟩
theorem NS(k:Nat):(madeCells (f_ false).cells k).toList=(ug k).map f_:=by
 show(madeCells #[f_ false] k).toList=_;rw[toList_madeCells_one];simp[ug]
theorem NT(k:Nat):(ug k).length=k:=by simp[ug]
theorem NU(n:Nat)(w:World)(h:n<=65536):
  Calls s_ 42 #[.int .i64 n] w λ e w'=>∃(A:Option Addr)(c:Nat)(A':Option Addr)(c':Nat)(s:Option Addr)(z:Nat),e=.returned (.tuple #[Ei n none 0 0 none 0 0 A (n+1) c A' n c' 1 s (n+1) z none 0 0,.int .i64 0])/\
   aN w' A (n+1) c (rO (n+1))/\aN w' A' n c' (si n)/\kS w' s (n+1) z (ug (n+1))/\Below w.heap.size w w'/\(∀b off,A=some ⟨b,off,none⟩->w.heap.size<=b)/\(∀b off,A'=some ⟨b,off,none⟩->w.heap.size<=b)/\∀b off,s=some ⟨b,off,none⟩->w.heap.size<=b:=by
 have ad:bF (∀W:World,Calls s_ 104 #[.int .i64 n] W (Fw (rO (n+1)) (si n) 1 W)):=U λ W=>JY n W h
 obtain⟨i0,B,C,D,E⟩:=info_parts yf;have ae:∀W:World,(Instr.makeSlice 28 (.int .i64 ((n:Int)+1)) (.int .i64 ((n:Int)+1))).run s_ W=.ok (.slice (some ⟨W.heap.size,0,none⟩) (n+1) (n+1)) (W.alloc (.cells (madeCells (f_ false).cells (n+1)) 4)):=λ W=>by
  have:=run_make (P:=s_) W 28 4 i0 (.bool false) Zi B C .i64 .i64 ((n:Int)+1) ((n:Int)+1) (by omega) (by omega) (by rw[E];omega) (by omega);rw[D,show((n:Int)+1).toNat=n+1 by omega,Nat.mul_one] at this;exact this
 have wn:d_.wrap ((n:Int)+1)=(n:Int)+1:=by rw[p_];omega
 clear B C D E;generalize F:madeCells (f_ false).cells (n+1)=cs at ae;have G:=U F;clear F;go_enter Tryz.func42,Tryz.ntmps42
 go_upto_region 1 with fail
 have H:aM (w.alloc (.cells #[.int .i64 0,.slice none 0 0,.slice none 0 0,.slice none 0 0,.slice none 0 0,.int .i64 0,.slice none 0 0,.slice none 0 0] 47)) w.heap.size 47 [.int .i64 0,.slice none 0 0,.slice none 0 0,.slice none 0 0,.slice none 0 0,.int .i64 0,.slice none 0 0,.slice none 0 0]:=aM.new w 47 _;have I:=bg w (.cells #[.int .i64 0,.slice none 0 0,.slice none 0 0,.slice none 0 0,.slice none 0 0,.int .i64 0,.slice none 0 0,.slice none 0 0] 47);have z0:(w.alloc (.cells #[.int .i64 0,.slice none 0 0,.slice none 0 0,.slice none 0 0,.slice none 0 0,.int .i64 0,.slice none 0 0,.slice none 0 0] 47)).heap.size=w.heap.size+1:=by simp
 generalize w.alloc (.cells #[.int .i64 0,.slice none 0 0,.slice none 0 0,.slice none 0 0,.slice none 0 0,.int .i64 0,.slice none 0 0,.slice none 0 0] 47)=w0 at*;have af:=U I;clear I
 go_upto_region 4 with(go_at_call 104;refine(ad.o _).mono ?_;rintro e w1 ⟨A,c,A',c',rfl,h1,t,J,K,L⟩;have M:=U J;have N:=U K;clear J K;rw[vt] at h1;rw[wJ] at t;simp only[vt,wJ];have q:=U L;have H1:=U h1;have ag:=U t;clear L h1 t)
 have y:=(H.below q.o).below (bg w1 (.cells #[.slice A (n+1) c,.slice A' n c',.int .i64 1] 44));have O:=(af.o.trans (q.o.mono (by omega))).trans ((bg w1 (.cells #[.slice A (n+1) c,.slice A' n c',.int .i64 1] 44)).mono (by have:=q.o.size;omega));have p:aM (w1.alloc (.cells #[.slice A (n+1) c,.slice A' n c',.int .i64 1] 44)) w1.heap.size 44 [.slice A (n+1) c,.slice A' n c',.int .i64 1]:=aM.new w1 44 _;have ah:=U (H1.o.below (bg w1 (.cells #[.slice A (n+1) c,.slice A' n c',.int .i64 1] 44)));have ai:=U (ag.o.below (bg w1 (.cells #[.slice A (n+1) c,.slice A' n c',.int .i64 1] 44)));have ay:=q.o.size;generalize az:w1.heap.size=aA at*;generalize w1.alloc (.cells #[.slice A (n+1) c,.slice A' n c',.int .i64 1] 44)=f at*;have Q:=U O;clear O;have aj:=p.cell 0;have ak:=p.cell 1;have al:=p.cell 2;have r:=p.below (bg f (.cells cs 4));have z0:=r.cell 0;have an:=r.cell 1;have z2:=r.cell 2;simp only[u_,v_] at aj ak al z0 an z2;clear r;have aB:=U p;clear p;have d:=y.below (bg f (.cells cs 4));have R:=d.cell 0;have S:=d.cell 1;have T:=d.cell 2;have V:=d.cell 3;have X:=d.cell 4;have Y:=d.cell 5;have Z:=d.cell 6;have aa:=d.cell 7;have g:=d.free;have f0:=g 0;have f1:=g 1;have f2:=g 2;have f3:=g 3;have f4:=g 4;have f5:=g 5;have f6:=g 6;have f7:=g 7;have ao:=U y;have aC:=U d;clear y H d g;simp only[u_,v_] at R S T V X Y Z aa;rename_i aq ab;have ar:=U ab;clear ab;refine wp_region_noPanic ?_
 go_region_law (fail)
 all_goals
  show aq _ _;apply ar.o
  go_wp2_with fail
  have j:∀b off,A=some ⟨b,off,none⟩->b≠w.heap.size:=λ b off e=>by have:=M.o b off e;omega
  have k:∀b off,A'=some ⟨b,off,none⟩->b≠w.heap.size:=λ b off e=>by have:=N.o b off e;omega
  have au:w.heap.size<=f.heap.size:=Q.o.size;have aD:=ao.o.lt;have l:∀b off,(some ⟨f.heap.size,0,none⟩:Option Addr)=some ⟨b,off,none⟩->b≠w.heap.size:=λ b off e=>by cases e;omega
  have av:kS (f.alloc (.cells cs 4)) (some ⟨f.heap.size,0,none⟩) (n+1) (n+1) (ug (n+1)):=by
   have aw:(ug (n+1)).map f_=cs.toList:=by rw[<-G.o,NS]
   have ax:cs.size=n+1:=by rw[<-G.o,size_madeCells]
   exact kS.lq (base:=0) ⟨by simp[NT],Or.inr ⟨_,_,cs,rfl,ZW _,heap_alloc_new _ _,g_ _,by unfold maxLen;omega,by omega,by rw[aw,Zg (by simp[ax])]⟩⟩ (by omega)
  have m:∀(u:World)(i:Nat)(v:Value),Below w.heap.size w u->Below w.heap.size w (u.setCell ⟨w.heap.size,i,none⟩ v):=λ u i v hu=>hu.setCell (g_ _) _
  refine bodyPost_ret (v:=.tuple #[Ei n none 0 0 none 0 0 A (n+1) c A' n c' 1 (some ⟨f.heap.size,0,none⟩) (n+1) (n+1) none 0 0,.int .i64 0]) (by simp[results,Tryz.results42,go_sem,Act.put,Ei,R,S,T,V,X,Y,Z,aa]) rfl ⟨A,c,A',c',_,_,rfl,?_,?_,?_,?_,λ b off e=>by have:=M.o b off e;omega,λ b off e=>by have:=N.o b off e;omega,λ b off e=>by cases e;omega⟩
  ·exact(((((((((ah.o.below (bg f (.cells cs 4))).nQ _ j).nQ _ j).nQ _ j).nQ _ j).nQ _ j).nQ _ j).nQ _ j).nQ _ j).drew
  ·exact(((((((((ai.o.below (bg f (.cells cs 4))).nQ _ k).nQ _ k).nQ _ k).nQ _ k).nQ _ k).nQ _ k).nQ _ k).nQ _ k).drew
  ·exact((((((((((av).nQ _ l).nQ _ l).nQ _ l).nQ _ l).nQ _ l).nQ _ l).nQ _ l).nQ _ l)).below ((Z9 _ _).drew)
  ·exact(m _ _ _ (m _ _ _ (m _ _ _ (m _ _ _ (m _ _ _ (m _ _ _ (m _ _ _ (m _ _ _ (Q.o.trans ((bg f (.cells cs 4)).mono au)))))))))).drew
end
section
open Go.RowKit Go.Sort Go.Lib
theorem NV(l:List Int)(k:Nat):jv l k=ai l k:=rfl
theorem xB{a b:Int}:vR act a b<0↔ai act b.toNat<ai act a.toNat\/(ai act b.toNat=ai act a.toNat/\a<b):=by
 have f:vR act a b=sg (oE (ai act b.toNat) (ai act a.toNat)) (oE a b):=rfl;rw[f];rcases Ed (ai act b.toNat) (ai act a.toNat) with⟨h,e⟩|⟨h,e⟩|⟨h,e⟩<;>rw[e]
 ·simp[sg];omega
 ·rcases Ed a b with⟨d,c⟩|⟨d,c⟩|⟨d,c⟩<;>rw[c]<;>simp[sg]<;>omega
 ·simp[sg];omega
theorem zn:uj act l=true↔∀i,i<l.length->(0<ai l i/\ai l i<act.length)/\(i=0\/vR act (ai l (i-1)) (ai l i)<0):=by
 unfold uj tM;rw[r_];constructor
 ·intro h i b;have:=h i (Zk.2 b);rw[o_,Ze,Be,decide_eq_true_eq,decide_eq_true_eq] at this;exact this
 ·intro h i b;rw[o_,Ze,Be,decide_eq_true_eq,decide_eq_true_eq];exact h i (Zk.1 b)
theorem Ej{act l:List Int}(h:uj act l=true)(i:Nat):∀j,i<j->j<l.length->vR act (ai l i) (ai l j)<0
 |0,h1,_=>by omega
 |j+1,h1,d=>by
  have b:=(zn.1 h (j+1) d).2;rw[show j+1-1=j by omega] at b;rcases b with b|b
  ·omega
  ·rcases Zx i j with c|c
   ·have e:=Ej h i j c (by omega);rw[xB] at*;omega
   ·obtain rfl:i=j:=by omega
    exact b
theorem HJ(h:uj act l=true){i j:Nat}(b:i<l.length)(c:j<l.length)(e:ai l i=ai l j):i=j:=by
 rcases Nat.lt_trichotomy i j with h1|h1|h1
 ·have:=Ej h i j h1 c;rw[xB,e] at this;omega
 ·exact h1
 ·have:=Ej h j i h1 b;rw[xB,e] at this;omega
theorem HK:∀(n:Nat)(f:Nat->Nat),(∀i,i<n->f i<n)->(∀i j,i<n->j<n->f i=f j->i=j)->∀v,v<n->∃i,i<n/\f i=v
 |0,f,_,_,v,k=>by omega
 |n+1,f,h1,b,v,k=>by
  have hm:=h1 n (by omega);have d:=HK n (λ i=>if f i=n then f n else f i) (λ i c=>by
   show(if f i=n then f n else f i)<n;split
   ·rename_i e;have:f n≠n:=λ g=>by have:=b i n (by omega) (by omega) (by omega);omega
    omega
   ·have:=h1 i (by omega);omega) (λ i j c m e=>by
   have e:(if f i=n then f n else f i)=(if f j=n then f n else f j):=e;refine b i j (by omega) (by omega) ?_;split at e<;>split at e
   ·omega
   ·have:=b n j (by omega) (by omega) e;omega
   ·have:=b i n (by omega) (by omega) e;omega
   ·exact e)
  by_cases l:v=n
  ·subst l
   by_cases e:f v=v
   ·exact⟨v,by omega,e⟩
   ·obtain⟨i,c,he⟩:=d (f v) (by omega);have he:(if f i=v then f v else f i)=f v:=he;split at he
    ·rename_i g;exact⟨i,by omega,g⟩
    ·have:=b i v (by omega) (by omega) he;omega
  ·obtain⟨i,c,he⟩:=d v (by omega);have he:(if f i=n then f n else f i)=v:=he;split at he
   ·exact⟨n,by omega,he⟩
   ·exact⟨i,by omega,he⟩
structure q9(n:Nat)(act l:List Int)(y:Int):Prop where
 kM:act.length=n+1
 pG:l.length=n
 a0:ai act 0=0
 pR:∀v,0<=ai act v/\ai act v<=jl
 gR:1<=y/\y<=jl
 lZ:uj act l=true
 w5:n<=65536
theorem Cr:nt x=false↔0<=x/\x<=jl:=by
 unfold nt jl;rw[Zd,decide_eq_false_iff_not,decide_eq_false_iff_not];omega
theorem q9.check(h:q9 n act l y):tN act l y=true:=by
 have h1:act.any nt=false:=by
  rw[Z7];intro x b;obtain⟨k,hk,e⟩:=qn.1 b;have:=h.pR k;rw[e] at this;have:=Cr.2 this;rw[this];simp
 have f:=h.kM;have c:vr act=true:=by
  unfold vr;rw[h1,NV,h.a0,h.kM];have:=h.w5;simp;omega
 have d:wI y=true:=by
  unfold wI;rw[Cr.2 ⟨by have:=h.gR;omega,h.gR.2⟩];have:=h.gR;simp;omega
 unfold tN;rw[c,d,h.lZ];rfl
theorem q9.tT(h:q9 n act l y){i:Nat}(b:i<n):1<=ai l i/\ai l i<=n:=by
 have:=(zn.1 h.lZ i (by rw[h.pG];exact b)).1;rw[h.kM] at this;omega
theorem q9.new(n:Nat)(h:n<=65536):q9 n (rO (n+1)) (si n) 1:=by
 have b:∀v,ai (rO (n+1)) v=0:=yW _;refine⟨vt _,wJ _,b 0,λ v=>by rw[b];unfold jl;omega,by unfold jl;omega,zn.2 λ i c=>?_,h⟩;rw[wJ] at c;have hu:∀k,k<n->ai (si n) k=(k:Int)+1:=λ k hk=>by
  rw[nC (by rw[wJ];exact hk)];simp[si]
 rw[hu i c,vt];refine⟨by omega,?_⟩;rcases i_ i with d|d
 ·exact .inl d
 ·right;rw[hu (i-1) (by omega),xB,b,b];omega
theorem q9.grow(h:q9 n act l y)(k:Nat)(hk:n+k<=65536):q9 (n+k) (act++rO k) (l++(e_ k).map λ i:Nat=>((n+i:Nat):Int)+1) y:=by
 have c:∀v,ai (act++rO k) v=ai act v:=λ v=>by
  rcases Zx v act.length with d|d
  ·exact sJ d
  ·rw[Dv d];unfold ai;rw[j_,Zn d];have:=yW k (v-act.length);unfold ai at this;rw[j_] at this;exact this
 have hl:=h.pG;have hold:∀i,i<n->ai (l++(e_ k).map λ i:Nat=>((n+i:Nat):Int)+1) i=ai l i:=λ i e=>sJ (by omega)
 have f:∀i,n<=i->i<n+k->ai (l++(e_ k).map λ i:Nat=>((n+i:Nat):Int)+1) i=(i:Int)+1:=λ i h1 b=>by
  unfold ai;rw[j_,Zn (by omega),Z8,List.getElem?_range (by omega)];simp;omega
 refine⟨by simp[h.kM,vt];omega,by simp[hl],by rw[c];exact h.a0,λ v=>by rw[c];exact h.pR v,h.gR,zn.2 λ i e=>?_,hk⟩;have hlen:(act++rO k).length=n+k+1:=by simp[h.kM,vt];omega
 rw[Zl,n_,List.length_range,hl] at e;rw[hlen];rcases Zx i n with h1|h1
 ·have b:=zn.1 h.lZ i (by omega);rw[hold i h1];rw[h.kM] at b;refine⟨by omega,b.2.imp id λ g=>?_⟩;rw[hold (i-1) (by omega),xB,c,c];exact xB.1 g
 ·rw[f i h1 e];refine⟨by omega,?_⟩;rcases i_ i with j|j
  ·exact .inl j
  ·right;rw[xB,c,c];have m:ai act ((i:Int)+1).toNat=0:=Dv (by rw[h.kM];omega);rw[m];rcases Zx (i-1) n with b|b
   ·rw[hold (i-1) b];have g:=h.tT b;have o:=h.pR (ai l (i-1)).toNat;omega
   ·rw[f (i-1) b (by omega)];have o:=h.pR (((i-1:Nat):Int)+1).toNat;omega
theorem NW(n:Nat):(n4 n).Nodup:=by
 have h:((n4 n).map (·.1)).Nodup:=by
  rw[Ee];refine List.Pairwise.map _ (λ a b c=>?_) (List.nodup_range (n:=n));intro e;exact c (by omega)
 exact List.Pairwise.of_map (λ x:vj n=>x.1) (λ a b c e=>c (by rw[e])) h
theorem q9.sorted(g:act.length=n+1)(a0:ai act 0=0)(m:∀v,0<=ai act v/\ai act v<=jl)(o:1<=y/\y<=jl)(p:n<=65536):q9 n act ((pL act (n4 n)).map (·.1)) y:=by
 have hp:(pL act (n4 n)).Perm (n4 n):=List.mergeSort_perm _ _;have q:(pL act (n4 n)).length=n:=by
  rw[hp.length_eq];unfold n4;simp
 have r:(pL act (n4 n)).Nodup:=hp.nodup_iff.2 (NW n);have s:(pL act (n4 n)).Pairwise λ x y=>(!(ltOf (uJ act)) y x)=true:=List.pairwise_mergeSort (λ a b c h1 d=>by
  rw[Zh] at*;exact(Cm act n).ntrans _ _ _ d h1) (λ a b=>by
  rw[Ze,Zh,Zh]
  cases h:ltOf (uJ act) b a with
  |false=>exact .inl rfl
  |true=>
   right
   cases d:ltOf (uJ act) a b with
   |false=>rfl
   |true=>have:=(Cm act n).trans _ _ _ h d;have:=(Cm act n).irrefl b;simp_all) _
 refine⟨g,by rw[n_,q],a0,m,o,zn.2 λ i f=>?_,p⟩;rw[n_] at f;have j:∀k (hk:k<(pL act (n4 n)).length),ai ((pL act (n4 n)).map (·.1)) k=(pL act (n4 n))[k].1:=λ k hk=>by
  rw[nC (by rw[n_];exact hk),Zr]
 rw[j i f,g];have t:=((pL act (n4 n))[i]).2;refine⟨by omega,?_⟩;rcases i_ i with l|l
 ·exact .inl l
 ·right;rw[j (i-1) (by omega)];have h1:=h_.1 s (i-1) i (by omega) f (by omega);have d:=h_.1 r (i-1) i (by omega) f (by omega);rw[Zh,AF,decide_eq_false_iff_not,AE] at h1;rw[xB];have u:(pL act (n4 n))[i-1].1≠(pL act (n4 n))[i].1:=λ e=>d (Subtype.ext e)
  omega
def uK(n:Nat)(ord:List Int)(k:Nat):List Int:=(e_ k).foldl (λ p i=>p.set (ai ord i).toNat (i:Int)) (z_ (n+1) 0)
theorem Cs(n:Nat)(ord:List Int)(k:Nat):uK n ord (k+1)=(uK n ord k).set (ai ord k).toNat (k:Int):=by
 unfold uK;rw[List.range_succ,List.foldl_append];rfl
theorem AG(n:Nat)(ord:List Int):∀k,(uK n ord k).length=n+1
 |0=>by simp[uK]
 |k+1=>by rw[Cs,List.length_set,AG n ord k]
theorem Ek(n:Nat)(ord:List Int):∀k v,0<=ai (uK n ord k) v
 |0,v=>by
  have:ai (uK n ord 0) v=0:=yW _ _;omega
 |k+1,v=>by
  rw[Cs,o9];split
  ·omega
  ·exact Ek n ord k v
theorem El{n:Nat}{act ord:List Int}{y:Int}(h:q9 n act ord y):∀k,k<=n->∀i,i<k->ai (uK n ord k) (ai ord i).toNat=i
 |0,_,i,b=>by omega
 |k+1,hk,i,b=>by
  rw[Cs,o9,AG];have h1:=h.tT (i:=k) (by omega);have c:=h.tT (i:=i) (by omega)
  by_cases e:i=k
  ·subst e;rw[if_pos ⟨rfl,by omega⟩]
  ·rw[if_neg (λ d=>e (HJ h.lZ (by rw[h.pG];omega) (by rw[h.pG];omega) (by omega))),El h k (by omega) i (by omega)]
theorem q9.lJ{ord:List Int}(h:q9 n act ord y):mb n ord (uK n ord n):=by
 have hl:=h.pG;refine⟨AG _ _ _,λ i c=>?_,λ v h1 g k=>?_,λ v=>by have:=Ek n ord n v;omega⟩
 ·have:=h.tT (i:=i) (by omega);exact⟨this.1,this.2,El h n (g_ _) i (by omega)⟩
 ·obtain⟨i,c,e⟩:=HK n (λ i=>(ai ord i).toNat-1) (λ i c=>by have:=h.tT c;show(ai ord i).toNat-1<n;omega) (λ i j c d e=>by
   have e:(ai ord i).toNat-1=(ai ord j).toNat-1:=e;have a:=h.tT c;have b:=h.tT d;exact HJ h.lZ (by omega) (by omega) (by omega)) (v-1) (by omega)
  have e:(ai ord i).toNat-1=v-1:=e;have a:=h.tT c;have f:(ai ord i).toNat=v:=by omega
  have:=El h n (g_ _) i c;rw[f] at this;rw[this];refine⟨by omega,?_⟩;rw[Int.toNat_natCast];omega
theorem NX(h:sV l)(n:∀x∈l,x≠0)(s:sD l=false):l.Nodup/\∀x∈l,¬-x∈l:=by
 have o:∀i j (c:i<l.length) (d:j<l.length),i<j->p7 l[i] l[j]=true:=λ i j c d p=>h_.1 h i j c d p
 refine⟨h.imp λ{a b} t e=>by subst e;exact B9 _ t,λ x q u=>?_⟩;obtain⟨i,c,k⟩:=Zc.1 q;obtain⟨j,d,m⟩:=Zc.1 u;have w:=n x q;have key:∀i j (c:i<l.length) (d:j<l.length),i<j->l[i]= -l[j]->False:=by
  intro i j c d p e;have v:j=i+1:=by
   rcases Zx (i+1) j with h1|h1
   ·exfalso;have f:=o i (i+1) c (by omega) (by omega);have g:=o (i+1) j (by omega) d h1;rw[xd] at f g;unfold qV at f g;have:=n _ (Zo c);split at f<;>split at f<;>split at g<;>split at g<;>omega
   ·omega
  subst v;have r:sD l=true:=by
   unfold sD uF;rw[ZY];refine⟨i+1,Zk.2 d,?_⟩;rw[show i+1-1=i by omega,pW c,pW d,o_,decide_eq_true_eq,beq_iff_eq];exact⟨by omega,e⟩
  rw[s] at r;cases r
 rcases Nat.lt_trichotomy i j with h1|h1|h1
 ·exact key i j c d h1 (by rw[k,m,Int.neg_neg])
 ·subst h1;rw[k] at m;omega
 ·exact key j i d c h1 (by rw[k,m])
theorem HL(e:∀x∈l,x≠0)(b:sD l=true):vw l:=by
 unfold sD uF at b;rw[ZY] at b;obtain⟨i,c,h1⟩:=b;have c:=Zk.1 c;rw[o_,decide_eq_true_eq,beq_iff_eq] at h1;have d:jv l i∈l:=vO c;have f:jv l (i-1)∈l:=vO (by omega);exact⟨jv l i,d,e _ d,by rw[<-h1.2];exact f⟩
theorem gF.lz(h:gF n x)(b:n<=65536):lz x 65536=true:=by
 rw[s8];unfold gF aI at h;omega
theorem Ct(b:n<=65536)(c:∀x∈g,gF n x)(x:Int):x∈kX g↔x∈g:=by
 rw[Cb];exact⟨λ h=>h.1,λ h=>⟨h,(c x h).lz b⟩⟩
theorem vw.same{b:List Int}(h:∀x,x∈a↔x∈b)(t:vw a):vw b:=by
 obtain⟨x,h1,c,d⟩:=t;exact⟨x,(h x).1 h1,c,(h _).1 d⟩
theorem uk.same{b:List Int}(h:∀x,x∈a↔x∈b)(t:uk M a):uk M b:=by
 obtain⟨x,h1,c⟩:=t;exact⟨x,(h x).1 h1,c⟩
theorem HM(f:n<=65536)(c:∀x∈g,gF n x)(i:pM F g):Gd n F g (kX g) (sD (kX g)):=by
 have hm:=Ct f c;have e:∀x∈kX g,x≠0:=λ x d=>(c x ((hm x).1 d)).oH
 refine⟨λ b j=>?_,λ b M k=>(i M k).same λ x=>(hm x).symm,hm,λ b=>(HL e b).same hm⟩;obtain⟨h1,l⟩:=NX (G3 g) e b;exact⟨j,λ x d=>c x ((hm x).1 d),h1,l⟩
theorem NY(c:n<=65536)(h:oT n g):sD (kX g)=false/\kX g≠ []:=by
 have hm:=Ct c h.lt;refine⟨?_,λ e=>?_⟩
 ·cases d:sD (kX g) with
  |false=>rfl
  |true=>
   exfalso;obtain⟨x,h1,i,f⟩:=HL (λ x b=>(h.lt x ((hm x).1 b)).oH) d;exact h.ic x ((hm x).1 h1) ((hm _).1 f)
 ·obtain⟨x,b⟩:=List.exists_mem_of_ne_nil _ h.ne;have:=(hm x).2 b;rw[e] at this;cases this
theorem Cu(h:lB n ls=0):n<=65536/\ls.length<=65536/\∀l∈ls,∀x∈l,gF n x:=by
 unfold lB at h;split at h
 ·omega
 ·split at h
  ·omega
  ·split at h
   ·omega
   ·rename_i h1 b f;refine⟨by omega,by omega,λ l hl x d=>?_⟩;rw[Bool.not_eq_false] at b;unfold s9 at b;have c:=r_.1 b l hl;unfold wH at c;have e:=r_.1 c x d;rw[s8] at e;unfold gF aI;omega
theorem yl(d:n<=65536)(h1:ls.length<=65536)(b:∀l∈ls,∀x∈l,gF n x):lB n ls=0:=by
 refine Fb (by omega) ?_ (by omega);unfold s9 wH;rw[r_];intro l hl;rw[r_];intro x c;have:=b l hl x c;rw[s8];unfold gF aI at this;omega
end
section
open Go.RowKit
def vk(k v:Nat):Bool:=decide (k/2^v%2=1)
theorem Cv(k v:Nat):vk k v=k.testBit v:=(Nat.testBit_eq_decide_div_mod_eq).symm
def nN(n k:Nat):List Bool:=false::(e_ n).map (vk k)
theorem NZ{v:Nat}(h1:1<=v)(b:v<=n):jr (nN n k) v=vk k (v-1):=by
 obtain⟨u,rfl⟩:∃u,v=u+1:=⟨v-1,by omega⟩
 unfold jr nN;rw[j_,v_,Z8,List.getElem?_range (by omega)];rfl
theorem Em:∀(n:Nat)(f:Nat->Bool),∃k,k<2^n/\∀v,v<n->vk k v=f v
 |0,f=>⟨0,by simp,λ v b=>by omega⟩
 |n+1,f=>by
  obtain⟨k,hk,h⟩:=Em n f
  cases c:f n with
  |false=>
   refine⟨k,by rw[Nat.pow_succ];omega,λ v b=>?_⟩;rcases Zx v n with h1|h1
   ·exact h v h1
   ·obtain rfl:v=n:=by omega
    rw[Cv,ZV hk,c]
  |true=>
   refine⟨2^n+k,by rw[Nat.pow_succ];omega,λ v b=>?_⟩;rcases Zx v n with h1|h1
   ·rw[Cv,Nat.testBit_two_pow_add_gt h1,<-Cv];exact h v h1
   ·obtain rfl:v=n:=by omega
    rw[Cv,Nat.testBit_two_pow_add_eq,ZV hk,c];rfl
theorem xC(b:gF n x)(c:n<=65536):oa gq x=p0 gq x:=by
 rw[C1 (b.lz c)];have d:=b.oH;unfold p0;have e:uP gq x.natAbs=jr gq x.natAbs:=rfl;rw[e]
 by_cases h:x<0
 ·rw[if_pos h,decide_eq_false (show¬0<x by omega)]
  cases jr gq x.natAbs<;>rfl
 ·rw[if_neg h,decide_eq_true (show 0<x by omega)]
  cases jr gq x.natAbs<;>rfl
theorem vK(hl:∀x∈l,gF n x)(c:n<=65536):oF gq l=true↔uk (p0 gq) l:=by
 rw[JG];constructor
 ·rintro⟨x,b,h⟩;exact⟨x,b,by rw[<-xC (hl x b) c];exact h⟩
 ·rintro⟨x,b,h⟩;exact⟨x,b,by rw[xC (hl x b) c];exact h⟩
theorem En(b:lB n ls=0):vQ n ls gq=true↔∀l∈ls,uk (p0 gq) l:=by
 obtain⟨h1,d,c⟩:=Cu b;unfold vQ;rw[b,o_,r_];constructor
 ·rintro⟨_,h⟩ l hl;exact(vK (c l hl) h1).1 (h l hl)
 ·intro h;exact⟨rfl,λ l hl=>(vK (c l hl) h1).2 (h l hl)⟩
def Eo(a:List Bool)(l:List Int):Bool:=l.all λ x=>decide (1<=x.natAbs)&&decide (x.natAbs<a.length)&&(jr a x.natAbs==decide (0<x))
theorem N0{a:List Bool}(e:a.length=n+1)(hl:∀x∈l,gF n x):Eo a l=true↔∀x∈l,p0 a x=true:=by
 unfold Eo;rw[r_];refine forall_congr' λ x=>forall_congr' λ b=>?_
 have h:=hl x b;have f:=h.oH;have c:decide (1<=x.natAbs)=true:=decide_eq_true h.1;have d:decide (x.natAbs<a.length)=true:=decide_eq_true (by have:=h.2;unfold aI at this;omega);rw[c,d];unfold p0
 by_cases h1:x<0
 ·rw[if_pos h1,decide_eq_false (show¬0<x by omega)]
  cases jr a x.natAbs<;>simp
 ·rw[if_neg h1,decide_eq_true (show 0<x by omega)]
  cases jr a x.natAbs<;>simp
def Can(F:List (List Int))(l:List Int):Prop:=∃M,tO M F/\∀x∈l,M x=true
theorem Cw(c:Mod M)(hk:∀v,v<n->vk k v=M ((v:Int)+1)){x:Int}(b:gF n x):p0 (nN n k) x=M x:=by
 unfold gF aI at b;unfold p0;rw[NZ b.1 b.2,hk _ (by omega)]
 by_cases h:x<0
 ·rw[if_pos h,show((x.natAbs-1:Nat):Int)+1= -x by omega,c x (by omega),Bool.not_not]
 ·rw[if_neg h,show((x.natAbs-1:Nat):Int)+1=x by omega]
end
section
theorem Can.mono{l':List Int}(h:∀x∈l',x∈l):Can F l->Can F l':=λ⟨M,h1,b⟩=>⟨M,h1,λ x c=>b x (h x c)⟩
end
section
open Go.RowKit
theorem N1(b off n c:Nat)(w:World)(h:n<=c):Calls s_ 108 #[.slice (some ⟨b,off,none⟩) n c] w λ e w'=>e=.returned (.slice (some ⟨b,off,none⟩) n n)/\w'=w:=by
 have d:(0:Int)<=n:=by omega
 go_enter Tryz.func108,Tryz.ntmps108
 go_wp2;go_ret;exact⟨rfl,rfl⟩
theorem N2(w:World):Calls s_ 108 #[.slice none 0 0] w λ e w'=>e=.returned (.slice none 0 0)/\w'=w:=by
 go_enter Tryz.func108,Tryz.ntmps108
 go_wp2;go_ret;exact⟨rfl,rfl⟩
theorem N3(b off n c:Nat)(w:World)(h:n<=c):Calls s_ 109 #[.slice (some ⟨b,off,none⟩) n c] w λ e w'=>e=.returned (.slice (some ⟨b,off,none⟩) n n)/\w'=w:=by
 have d:(0:Int)<=n:=by omega
 go_enter Tryz.func109,Tryz.ntmps109
 go_wp2;go_ret;exact⟨rfl,rfl⟩
theorem N4(w:World):Calls s_ 109 #[.slice none 0 0] w λ e w'=>e=.returned (.slice none 0 0)/\w'=w:=by
 go_enter Tryz.func109,Tryz.ntmps109
 go_wp2;go_ret;exact⟨rfl,rfl⟩
def N5(b:List Bool)(w:World)(e:Ending)(w':World):Prop:=
 ∃A c,e=.returned (.slice A b.length c)/\w'.ownsRow w.heap.size 4 1 (.slice A b.length c) b.length (b.map f_)/\Below w.heap.size w w'
theorem HN(A:Option Addr)(n c:Nat)(e:List Bool)(w:World)(h:kS w A n c e):
  Calls s_ 106 #[.slice A n c] w (N5 e w):=by
 obtain⟨i0,s,t,v,y⟩:=info_parts yf;have F:∀(w:World)(a:Option Addr)(n c m c':Nat),(binOp .eql 28 (.slice a n c) (.slice none m c')).run s_ w=.ok (.bool a.isNone) w:=λ w a n c m c'=>Lib.run_eql_slice_nil w _ _ a n c m c' Zi
 have hlen:=h.len;have G:=h.mP;have H:=U h;clear h
 cases A with
 |none=>
  have z:n=0:=by
   rcases i_ n with d|d
   ·exact d
   ·obtain⟨b,off,he,_⟩:=H.o.cells d;cases he
  subst z;have B:e=[]:=Z3 hlen;subst B;clear hlen;go_enter Tryz.func106,Tryz.ntmps106
  go_wp2;go_ret;exact⟨none,0,rfl,Zj _ _ _ _,Z9 _ _⟩
 |some a=>
  have f:=U hlen;clear hlen;go_enter Tryz.func106,Tryz.ntmps106
  go_wp2_with (at_builtin;refine wpList_append_own _ rfl _ _ 28 rfl w.heap.size 4 i0 (.bool false) 1 1 Zi s t v y rfl (by decide) _ _ _ rfl (World.ownsRow_made w #[] 0 (g_ _) (ZW _) rfl) a n c (e.map f_) rfl ?qc1 ?qc2 ?qc3 ?qc4 ?qc5 ?qc6 ?_)
  case qc1=>simp[f.o]
  case qc2=>
   intro j u p;have q:j<n:=by have:=(List.getElem?_eq_some_iff.1 p).1;simpa[f.o] using this
   obtain⟨b,off,he,i,C⟩:=H.o.cells (by omega);injection he with he
   subst he;rw[Addr.add_lit];rw[World.cell?_alloc_lt _ _ _ (by exact i),C j q];rw[Z8,Zq (by rw[f.o];exact q)] at p;have D:j<e.length:=by rw[f.o];exact q
   rw[j_,Zq D,Option.getD_some];exact p
  case qc3=>intro u hu;obtain⟨x,_,rfl⟩:=Z0.1 hu;rfl
  case qc4=>unfold maxLen;omega
  case qc5=>omega
  case qc6=>simp
  intro v' w1 l E I;go_wp2;go_ret;have i:Below w.heap.size w w1:=((Z9 _ w).alloc (g_ _) _).grown E (by simp) (by intro k hk;simp[Value.ownBlock] at hk;omega);have hl:=f.o;subst hl;rcases l.2 with⟨r,d⟩|⟨g,cap,cur,r,J⟩
  ·subst r;refine⟨none,0,?_,?_,i⟩
   ·rw[d];rfl
   ·rw[d] at l⊢;exact l
  ·subst r;exact⟨_,_,rfl,l,i⟩
theorem aP.HO(E:aP K base w G hs cb s)(h:s.act.length<=1000000):
  (hs 6).v=.slice (hs 6).A s.act.length (hs 6).c/\aN w (hs 6).A s.act.length (hs 6).c s.act:=by
 have h1:w.ownsRow base 3 1 (hs 6).v (hs 6).n (gT s.act):=E.e.rows.row 6;have b:(hs 6).n=s.act.length:=E.e.n6;have d:(hs 6).v=.slice (hs 6).A s.act.length (hs 6).c:=by rw[<-b];rfl
 rw[d,b] at h1;exact⟨d,aN.lq h1 (by omega)⟩
theorem aP.HP(E:aP K base w G hs cb s)(h:s.bH.length<=1000000):
  (hs 9).v=.slice (hs 9).A s.bH.length (hs 9).c/\kS w (hs 9).A s.bH.length (hs 9).c s.bH:=by
 have h1:w.ownsRow base 4 1 (hs 9).v (hs 9).n (nR s.bH):=E.e.rows.row 9;have b:(hs 9).n=s.bH.length:=E.e.jI;have d:(hs 9).v=.slice (hs 9).A s.bH.length (hs 9).c:=by rw[<-b];rfl
 rw[d,b] at h1;exact⟨d,kS.lq h1 (by omega)⟩
theorem Ep(x:Int)(w:World):Calls s_ 112 #[.int .i64 x] w λ e w'=>e=.returned (.bool (nt x))/\w=w':=by
 by_cases h1:x<0
 ·go_enter Tryz.func112,Tryz.ntmps112
  go_wp2;go_ret;exact⟨lS (by simp[nt,h1]),rfl⟩
 ·by_cases b:1099511627776<x
  all_goals
   go_enter Tryz.func112,Tryz.ntmps112
   go_wp2;go_ret;exact⟨lS (by simp[nt,h1,b]),rfl⟩
structure j6 where
 n:Int
 gs:List (List Int)
 es:List mO
 act:List Int
 ord:List Int
 aW:Int
 bH:List Bool
 aD:List mG
structure qB(w:World)(s:j6)(gI:Option Addr)(bn:Nat)(j0:Option Addr)(cl:Nat)(A:Option Addr)(c:Nat)(A':Option Addr)(c':Nat)(gZ:Option Addr)(gJ:Nat)(bp:Option Addr)(gw:Nat):Prop where
 gs:mc w gI s.gs.length bn s.gs
 es:r8 w j0 s.es.length cl s.es
 act:aN w A s.act.length c s.act
 ord:aN w A' s.ord.length c' s.ord
 bH:kS w gZ s.bH.length gJ s.bH
 aD:nM w bp s.aD.length gw s.aD
def qC(n:Int)(gI:Option Addr)(b bn:Nat)(d:Option Addr)(nl cl:Nat)(A:Option Addr)(e c:Nat)(A':Option Addr)(f c':Nat)(g:Int)(i:Option Addr)(j k:Nat)(l:Option Addr)(m o:Nat):Value:=
 .agg #[.int .i64 n,.slice gI b bn,.slice d nl cl,.slice A e c,.slice A' f c',.int .i64 g,.slice i j k,.slice l m o]
theorem qB.below{w w':World}{s:j6}{gI:Option Addr}{bn:Nat}{j0:Option Addr}{cl:Nat}{A:Option Addr}{c:Nat}{A':Option Addr}{c':Nat}{gZ:Option Addr}{gJ:Nat}{bp:Option Addr}{gw:Nat}(h:qB w s gI bn j0 cl A c A' c' gZ gJ bp gw)(b:Below w.heap.size w w'):qB w' s gI bn j0 cl A c A' c' gZ gJ bp gw:=
 ⟨h.gs.below b,h.es.below b,h.act.below b,h.ord.below b,h.bH.below b,h.aD.below b⟩
def tG(e:mO):Bool:=decide (e.r.ah.length=0)||nt e.aS||nt e.ac
def tH(n:Int)(p:mG):Bool:=decide (p.jf<1)||decide (3<p.jf)||decide (lB n [p.r.ah]≠0)
def AH(s:j6):Bool:=decide (s.n<0)||decide (65536<s.n)|| !(tN s.act s.ord s.aW)||decide ((s.act.length:Int)≠s.n+1)||decide ((s.ord.length:Int)≠s.n)||decide ((s.bH.length:Int)≠s.n+1)||jr s.bH 0
def Er(s:j6):Int:=
 if AH s=true then 1 else if lB s.n s.gs≠0 then lB s.n s.gs else if s.es.any tG=true then 1
 else if lB s.n (s.es.map (·.r.ah))≠0 then lB s.n (s.es.map (·.r.ah)) else if s.aD.any (tH s.n)=true then 1 else 0
theorem zo{ah:List α}{p:α->Bool}(h:k<ah.length)(e:p ah[k]=true):ah.any p=true:=ZY.2 ⟨_,Zo h,e⟩
theorem HQ{ah:List α}{p:α->Bool}(h:k<ah.length)(e:p ah[k]=false)(b:(ah.take k).any p=false):(ah.take (k+1)).any p=false:=by
 rw[List.take_succ_eq_append_getElem h,List.any_append,b];simp[e]
theorem HR{ah:List α}{p:α->Bool}(hl:ah.length=n)(h:¬k<n)(b:(ah.take k).any p=false):ah.any p=false:=by
 rw[Zg (by omega)] at b;exact b
theorem r8.AI{es:List mO}(h:r8 w (some ⟨b,off,none⟩) n c es){k:Nat}(hk:k<n)(d:k<es.length):
  w.cell? ⟨b,off+k*3,none⟩=some (kF es[k].r)/\w.cell? ⟨b,off+k*3+1,none⟩=some (.int .i64 es[k].aS)/\w.cell? ⟨b,off+k*3+2,none⟩=some (.int .i64 es[k].ac)/\aN w es[k].r.A es[k].r.n es[k].r.c es[k].r.ah:=by
 obtain⟨m,o,e,p,f⟩:=h.cells (by omega);injection e with e
 injection e with j l
 subst j l;have g:=f (k*3) (by omega);have h1:=f (k*3+1) (by omega);have i:=f (k*3+2) (by omega);have g0:=Cn es k d 0 (by omega);have g1:=Cn es k d 1 (by omega);have g2:=Cn es k d 2 (by omega);rw[Nat.add_zero] at g0;rw[g0] at g;rw[g1] at h1;rw[g2] at i;exact⟨g,h1,i,h.rows _ (Zo d)⟩
theorem ym:∀es:List mG,(nk es).length=es.length*2
 |[]=>rfl
 |e::es=>by
  have:=ym es;unfold nk at this⊢;simp only[l_,List.flatten_cons,Zl,this,r9,List.length_cons,List.length_nil];omega
theorem N6(a b:List mG):nk (a++b)=nk a++nk b:=by simp[nk]
theorem Es:∀(es:List mG)(j:Nat)(h:j<es.length)(k:Nat),k<2->(nk es)[j*2+k]? =(r9 es[j])[k]?
 |[],j,h,k,hk=>by simp at h
 |e::es,0,h,k,hk=>by
  show(r9 e++nk es)[0*2+k]? =_;rw[List.getElem?_append_left (by simp[r9];omega)];simp
 |e::es,j+1,h,k,hk=>by
  show(r9 e++nk es)[(j+1)*2+k]? =_;rw[Zn (by simp[r9];omega)];have:=Es es j (by simpa using h) k hk;rw[show(j+1)*2+k-(r9 e).length=j*2+k by simp[r9];omega,this];rfl
theorem nM.Et{es:List mG}(h:nM w (some ⟨b,off,none⟩) n c es){k:Nat}(hk:k<n)(d:k<es.length):
  w.cell? ⟨b,off+k*2,none⟩=some (.int .i64 es[k].jf)/\w.cell? ⟨b,off+k*2+1,none⟩=some (kF es[k].r)/\aN w es[k].r.A es[k].r.n es[k].r.c es[k].r.ah:=by
 obtain⟨l,m,e,o,f⟩:=h.cells (by omega);injection e with e
 injection e with i j
 subst i j;have g:=f (k*2) (by omega);have h1:=f (k*2+1) (by omega);have g0:=Es es k d 0 (by omega);have g1:=Es es k d 1 (by omega);rw[Nat.add_zero] at g0;rw[g0] at g;rw[g1] at h1;exact⟨g,h1,h.rows _ (Zo d)⟩
end
section
open Go.RowKit Go.Shelf
structure ox(n:Nat)(s:j6):Prop where
 gV:s.n=n
 g1:s.gs.length<=65536
 bk:∀g∈s.gs,∀x∈g,gF n x
 hk:q9 n s.act s.ord s.aW
 nE:s.bH.length=n+1
 oV:jr s.bH 0=false
 wA:∀e∈s.es,oT n e.r.ah/\(0<=e.aS/\e.aS<=jl)/\(0<=e.ac/\e.ac<=jl)
 Eu:∀e∈s.es,pM s.gs e.r.ah
 Cx:(s.es.map (·.r.ah)).Pairwise λ a b=>¬xZ a b
 xD:∀p∈s.aD,uG s.gs n p.jf p.r.ah
theorem ox.ov{s:j6}(h:ox n s):s.es.length+1<=3^n:=by
 have:=FK (n:=n) (ls:=s.es.map (·.r.ah)) (λ l hl=>by
  obtain⟨e,he,rfl⟩:=Z0.1 hl;exact(h.wA e he).1) (show List.Pairwise (λ a b=>¬∀x,x∈a↔x∈b) (s.es.map (·.r.ah)) from h.Cx)
 rwa[n_] at this
theorem AJ(b:n<=10):3^n<=59049:=by
 have c:3^n<=3^10:=Nat.pow_le_pow_right (by omega) b;have d:(3:Nat)^10=59049:=by decide
 omega
theorem ox.N7{s:j6}(h:ox n s)(d:n<=10):Er s=0:=by
 have m:=h.ov;have o:=AJ d;have f:AH s=false:=by
  unfold AH;rw[h.hk.check,h.oV,h.gV,h.hk.kM,h.hk.pG,h.nE];simp;omega
 have g:lB s.n s.gs=0:=by rw[h.gV];exact yl (by omega) h.g1 h.bk
 have i:s.es.any tG=false:=by
  rw[Z7];intro e he;obtain⟨h1,b,c⟩:=h.wA e he;unfold tG;rw[Cr.2 b,Cr.2 c];have:e.r.ah.length≠0:=λ hl=>h1.ne (Z3 hl)
  simpa using this
 have j:lB s.n (s.es.map (·.r.ah))=0:=by
  rw[h.gV];refine yl (by omega) (by rw[n_];omega) λ l hl=>?_
  obtain⟨e,he,rfl⟩:=Z0.1 hl;exact(h.wA e he).1.lt
 have k:s.aD.any (tH s.n)=false:=by
  rw[Z7];intro p hp;have h1:=(h.xD p hp).jf;have b:=(h.xD p hp).2;have c:lB s.n [p.r.ah]=0:=by
   rw[h.gV];exact yl (by omega) (by simp) λ l hl=>by rw[Z4.1 hl];exact b
  unfold tH;rw[c];simp;omega
 unfold Er;rw[if_neg (by rw[f];exact ZX),if_neg (by rw[g];simp),if_neg (by rw[i];exact ZX),if_neg (by rw[j];simp),if_neg (by rw[k];exact ZX)]
def n5(e:mG):nc:=⟨e.jf,⟨e.r.A,e.r.n,e.r.c⟩⟩
theorem HS(es:List mG):mg (es.map n5)=nk es:=by
 unfold mg nk;rw[List.map_map];rfl
theorem HT{K:Nat->Prop}{w:World}{n:Nat}{F:List (List Int)}:∀(b:List nc),(∀p∈b,qj K w n F p)->∃es:List mG,es.map n5=b/\∀e∈es,uG F n e.jf e.r.ah/\aN w e.r.A e.r.n e.r.c e.r.ah
 |[],_=>⟨[],rfl,λ e he=>by cases he⟩
 |p::b,h=>by
  obtain⟨es,h1,d⟩:=HT b (λ q f=>h q (by simp[f]));obtain⟨⟨ah,g,i⟩,_⟩:=h p (by simp);refine⟨⟨p.jf,⟨p.h.A,p.h.n,p.h.c,ah⟩⟩::es,by rw[l_,h1];rfl,λ e he=>?_⟩;rcases List.mem_cons.1 he with rfl|he
  ·exact⟨i,g⟩
  ·exact d e he
theorem aP.HU(E:aP K base w G hs cb s)(P:o4 K w s){es:List mG}(he:es.map n5=s.aD)(l:∀e∈es,aN w e.r.A e.r.n e.r.c e.r.ah)(hl:es.length<=1099511627776):
  ∃A c,oc hs s=.slice A es.length c/\nM w A es.length c es/\(es.length=c\/w.ownsRow base 126 2 (.slice A es.length c) es.length (nk es))/\(A=none->es.length=0/\c=0)/\(A≠none->∃b off,A=some ⟨b,off,none⟩):=by
 have t:mg s.aD=nk es:=by rw[<-he,HS]
 have B:s.aD.length=es.length:=by rw[<-he,n_]
 cases j:s.jg with
 |some h=>
  obtain⟨h1,i,o⟩:=P h j;have C:oc hs s=h.v:=by unfold oc;rw[j]
  rw[C];obtain⟨A,m,c⟩:=h;have h1:m=es.length:=by rw[<-B];exact h1
  have i:c=m:=i;subst i h1;refine⟨A,es.length,rfl,⟨rfl,g_ _,by omega,by unfold maxLen;omega,λ p=>?_,l⟩,.inl rfl,λ e=>?_,λ e=>by rcases o with⟨d,_⟩|⟨b,off,d,_⟩;exact absurd d e;exact⟨b,off,d⟩⟩
  ·rcases o with⟨_,d⟩|⟨b,off,d,u,y⟩
   ·have d:es.length=0:=d;omega
   ·refine⟨b,off,d,E.s.lt b (u p),λ k hk=>?_⟩;have z:k<(nk es).length:=by rw[ym];exact hk
    have:=y k _ (by rw[t];exact Zq z);rw[this,Zq z]
  ·rcases o with⟨_,d⟩|⟨b,off,d,u,y⟩
   ·have d:es.length=0:=d;exact⟨d,d⟩
   ·have d:A=some ⟨b,off,none⟩:=d;rw[e] at d;cases d
 |none=>
  have h1:w.ownsRow base 126 2 (hs 11).v (hs 11).n (cont hs cb s 11):=E.e.rows.row 11;have D:cont hs cb s 11=nk es:=by
   show(match s.jg with|some _=> []|none=>mg s.aD)=_;rw[j];exact t
  have F:oc hs s=(hs 11).v:=by unfold oc;rw[j]
  rw[D] at h1;have i:(hs 11).n=es.length:=by
   have:=h1.1;rw[ym] at this;omega
  rw[F];generalize hs 11=H at*;obtain⟨A,m,c⟩:=H;have i:m=es.length:=i;subst i;refine⟨A,c,rfl,?_,.inr h1,?_,?_⟩
  ·rcases h1.2 with⟨f,q⟩|⟨g,cap,cur,f,L,M,I,J,N,O⟩
   ·simp only[aq.v,Zv] at f;obtain⟨rfl,d,rfl⟩:=f;exact⟨rfl,by omega,by omega,by unfold maxLen;omega,λ p=>by omega,l⟩
   ·simp only[aq.v,Zv] at f;obtain⟨rfl,_,rfl⟩:=f;refine⟨rfl,I,by omega,J,λ p=>⟨g,0,rfl,(h1.lt g rfl).2,λ k hk=>?_⟩,l⟩;rw[Nat.zero_add];exact h1.cellAt k hk
  ·intro e;rcases h1.2 with⟨f,q⟩|⟨g,cap,cur,f,_⟩
   ·simp only[aq.v,Zv] at f;exact⟨q,f.2.2⟩
   ·simp only[aq.v,Zv] at f;rw[e] at f
    cases f.1
  ·intro e;rcases h1.2 with⟨f,q⟩|⟨g,cap,cur,f,_⟩
   ·simp only[aq.v,Zv] at f;exact absurd f.1 e
   ·simp only[aq.v,Zv] at f;exact⟨g,0,f.1⟩
end
section
open Go.RowKit
def vl(n:Int)(x:Int):Bool:=decide (1<=x.natAbs)&&decide ((x.natAbs:Int)<=n)
def rf(n:Int)(b:List Int):Bool:=b.all (vl n)&&decide ((b.map aI).Nodup)
def s4(n:Int)(b:List Int)(k:Nat):Bool:= !(vl n (jv b k))||hasB ((b.take k).map λ x=>(aI x:Int)) (aI (jv b k):Int)
theorem zq{n:Int}(h:k<ax.length)(b:s4 n ax k=true):rf n ax=false:=by
 cases hm:rf n ax with
 |false=>rfl
 |true=>
  exfalso;unfold rf at hm;rw[o_,r_,decide_eq_true_eq] at hm;unfold s4 at b;rw[pW h,Ze] at b;rcases b with b|b
  ·rw[hm.1 _ (Zo h)] at b;cases b
  ·obtain⟨y,c,d⟩:=Z0.1 (oQ.1 b);obtain⟨j,f,e⟩:=Z_.1 c;have h1:=h_.1 hm.2 j k (by rw[n_];omega) (by rw[n_];omega) (by omega);rw[Zr,Zr,e] at h1;exact h1 (by have:(aI y:Int)=(aI ax[k]:Int):=d;omega)
theorem Ev{n:Int}(c:∀k,k<ax.length->s4 n ax k=false):rf n ax=true:=by
 unfold rf;rw[o_,r_,decide_eq_true_eq];constructor
 ·intro x d;obtain⟨k,hk,e⟩:=Zc.1 d;have:=c k hk;unfold s4 at this;rw[pW hk,Zd,e] at this;simpa using this.1
 ·rw[List.Nodup,h_];intro i j f b l e;rw[n_] at f b;have:=c j b;unfold s4 at this;rw[pW b,Zd] at this;rw[Zr,Zr] at e;have g:hasB ((ax.take j).map λ x=>(aI x:Int)) (aI ax[j]:Int)=true:=oQ.2 (Z0.2 ⟨ax[i],Z_.2 ⟨i,by omega,rfl⟩,by show(aI ax[i]:Int)=_;rw[e]⟩);rw[g] at this;cases this.2
theorem Ew(h:rf n ax=true):(∀x∈ax,gF n x)/\(ax.map aI).Nodup:=by
 unfold rf at h;rw[o_,r_,decide_eq_true_eq] at h;refine⟨λ x b=>?_,h.2⟩;have:=h.1 x b;unfold vl at this;rw[o_,decide_eq_true_eq,decide_eq_true_eq] at this;exact⟨this.1,by unfold aI;omega⟩
structure ri(F:List (List Int))(n:Nat)(ax:List Int)(m:List Bool):Prop where
 len:m.length=n+1
 m0:jr m 0=false
 sat:∀g∈F,uk (p0 m) g
 ax:∀x∈ax,p0 m x=true
theorem ri.can{m:List Bool}(h:ri F n ax m):Can F ax:=⟨p0 m,⟨yV _,h.sat⟩,h.ax⟩
end
section
open Go.RowKit
def nS(v u:Value):Prop:=∀b,v.ownBlock=some b->u.ownBlock≠some b
def zu(mk:Nat->Bool)(L:Nat->Bool)(vals:Nat->Value):Prop:=∀j k,j≠k->mk j=true->mk k=true->L j=true->L k=true->nS (vals j) (vals k)
def Cy(G:Nat->Value->World->Prop)(mk:Nat->Bool):Prop:=∀j u w,mk j=true->G j u w->∀b,u.ownBlock=some b->b<w.heap.size
def AK(ws:List (List Nat))(gW:World->Prop)(G:Nat->Value->World->Prop)(mk:Nat->Bool)(i:Nat)(w:World)(v:Value)(w':World):Prop:=
 gW w'/\G i v w'/\(∀j u,j≠i->pz ws 8 j i=false->G j u w->G j u w')/\(mk i=true->∀b,v.ownBlock=some b->w.heap.size<=b)
theorem AK.same{G:Nat->Value->World->Prop}(b:gW w)(h:G i v w)(hk:mk i=false):AK ws gW G mk i w v w:=⟨b,h,λ _ _ _ _ h=>h,λ h=>by rw[hk] at h;cases h⟩
theorem AK.more{G:Nat->Value->World->Prop}(hm:∀j u w w',Below w.heap.size w w'->G j u w->G j u w')(c:Below w.heap.size w w')(d:gW w')(h:G i v w')(hk:mk i=true->∀b,v.ownBlock=some b->w.heap.size<=b):AK ws gW G mk i w v w':=⟨d,h,λ j u _ _ h=>hm j u w w' c h,hk⟩
def AL(P:Program)(ds:List (Option Tmp))(ws:List (List Nat))(old:List (Tmp×Value))(gW:World->Prop)(G:Nat->Value->World->Prop)(mk:Nat->Bool)(i:Nat)(o:Oper):Prop:=
 ∀(vals:Nat->Value)(w:World)(b:Operand->Value),gW w->su ds G (λ _=>none) i vals w b o.after.toList->rC ds ws i b old->rD b->(∀j k,j≠k->mk j=true->mk k=true->qs ws i j=true->qs ws i k=true->nS (vals j) (vals k))->
  aZ P b o w (AK ws gW G mk i w)
def xE(P:Program)(ds:List (Option Tmp))(ws:List (List Nat))(old:List (Tmp×Value))(gW:World->Prop)(G:Nat->Value->World->Prop)(mk:Nat->Bool):Nat->List Oper->Prop
 |_,[]=>True
 |k,o::r=>AL P ds ws old gW G mk k o/\xE P ds ws old gW G mk (k+1) r
theorem xE.at{P:Program}{ds:List (Option Tmp)}{ws:List (List Nat)}{old:List (Tmp×Value)}{gW:World->Prop}{G:Nat->Value->World->Prop}{mk:Nat->Bool}:∀{l:List Oper}{k i:Nat}{o:Oper},xE P ds ws old gW G mk k l->l[i]? =some o->AL P ds ws old gW G mk (k+i) o
 |[],k,i,o,_,h=>by simp at h
 |x::l,k,0,o,hs,h=>by
  simp only[u_,Option.some.injEq] at h;subst h;exact hs.1
 |x::l,k,i+1,o,hs,h=>by
  rw[v_] at h;have:=xE.at hs.2 h
  rwa[show k+1+i=k+(i+1) by omega] at this
section
variable {P:Program}{l:List Oper}{Q:Exit->Act->World->Prop}{a:Act}{old:List (Tmp×Value)}{gW:World->Prop}{G:Nat->Value->World->Prop}{mk:Nat->Bool}
theorem N8{ds:List (Option Tmp)}{ws:List (List Nat)}(M:ws=l.map λ o:Oper=>(o.after.toList.filter (ZT .any)).map (·.on))(N:ds=l.map λ o:Oper=>o.dst)(O:tW l.toArray=true)(C:rY l.toArray=true)(Z:tX l.toArray a.tmps.size=true)
  (hold:qt a.eval old) (R:Cy G mk)
  {i:Nat} {o:Oper} (n:l.toArray[i]? =some o) (S:AL P ds ws old gW G mk i o) {listed:Array Bool} {vals:Nat->Value} {w:World} {K:Act->World->Prop} (ay:listed.size=l.toArray.size) (aa:gW w) (hF:vX G (λ _=>none) (gY listed) vals w) (T:zu mk (gY listed) vals)
  (ab:i∈ZS .any l.toArray listed) (hC:sv ws (gY listed))
  (ad:∀v w',gW w'->sv ws (gY (listed.setIfInBounds i true))->vX G (λ _=>none) (gY (listed.setIfInBounds i true)) (k6 vals i v) w'->zu mk (gY (listed.setIfInBounds i true)) (k6 vals i v)->K (j3 l.toArray (k6 vals i v) (gY (listed.setIfInBounds i true)) a l.toArray.size) w'):
  wpOp P l.toArray Q i K (j3 l.toArray vals (gY listed) a l.toArray.size) w:=by
 obtain⟨h1,U,ae,V,D⟩:=vY ab;obtain rfl:o=ae:=by rw[n] at V;injection V
 have r:i<listed.size:=by omega
 have z:gY listed i=false:=by
  unfold gY;rw[q_,ZZ r] at U⊢;simpa using U
 have W:∀j,qs ws i j=true->gY listed j=true:=λ j d=>by
  obtain⟨af,m,e,he,t,E⟩:=yN M d;rw[n] at m;injection m with m
  subst m;have:=D e he t;rw[E] at this;exact this
 unfold wpOp;simp only[n];have ag:o.guard=none:=by
  unfold rY at C;rw[Zf] at C;have:=C o (ZU n);simpa using this
 have hw:Z5 o (yielded l.toArray (j3 l.toArray vals (gY listed) a l.toArray.size).tmps)=true:=by unfold Z5;rw[ag]
 rw[if_pos hw];left;unfold AL at S;have ah:=S vals w (j3 l.toArray vals (gY listed) a l.toArray.size).eval aa (su.of λ e he t=>by
  have hl:=D e (Array.mem_toList_iff.1 he) t;have ai:e.on<l.toArray.size:=by
   rcases Zx e.on listed.size with h|h
   ·omega
   ·rw[q_,Array.getElem?_eq_none h] at hl;cases hl
  refine⟨λ u=>hF e.on hl λ c f=>?_,λ s hs=>?_⟩
  ·rcases u with u|u
   ·rw[u] at f;cases f
   ·rw[u] at f;injection f with f
    rw[<-f];exact z
  ·rw[N,<-yL] at hs;exact zZ hs (Dp Z hs) hl (λ k hk=>yJ O hk hs) _ ai) (rC.of (λ s hs=>zY (λ j s' hl d F=>by
   injection F with F
   subst F;rw[yL,<-N] at d;have:=hC j i hl (Dn hs d);rw[z] at this;cases this) _) hold) (rD.act _) (λ j k A m1 m2 w1 aj=>T j k A m1 m2 (W j w1) (W k aj))
 refine ah.wp λ v w' ⟨ak,k2,k3,X⟩=>?_
 have al:(j3 l.toArray vals (gY listed) a l.toArray.size).put o.dst v=j3 l.toArray (k6 vals i v) (gY (listed.setIfInBounds i true)) a l.toArray.size:=by
  rw[qp r];have an:pq l.toArray i=o.dst:=by unfold pq;rw[n];rfl
  have:=Bv (ops:=l.toArray) (vals:=vals) (L:=gY listed) (a:=a) (i:=i) (v:=v) (λ j d s hs=>yJ O d hs) z l.toArray.size h1;rw[an] at this;exact this
 rw[al];have ao:sv ws (gY (listed.setIfInBounds i true)):=by
  rw[qp r];intro j k d Y;unfold k9 at d⊢
  by_cases e:k=i
  ·rw[if_pos e]
  ·rw[if_neg e]
   by_cases g:j=i
   ·subst g;obtain⟨af,m,aq,ar,t,E⟩:=yN M Y;rw[n] at m;injection m with m
    subst m;have:=D aq ar t;rw[E] at this;exact this
   ·rw[if_neg g] at d;exact hC j k d Y
 refine ad v w' ak ao (λ j d az=>?_) (λ j k A m1 m2 B y=>?_)
 ·rw[qp r] at d
  by_cases e:j=i
  ·subst e;have g:k6 vals j v j=v:=by unfold k6;rw[if_pos rfl]
   rw[g];exact k2
  ·have g:k6 vals i v j=vals j:=by unfold k6;rw[if_neg e]
   have p:k9 (gY listed) i j=gY listed j:=by unfold k9;rw[if_neg e]
   rw[g];rw[p] at d;refine k3 j _ e ?_ (hF j d λ c f=>by cases f)
   cases au:pz ws 8 j i with
   |false=>rfl
   |true=>
    have:=hC.reach 8 j i d au;rw[z] at this;cases this
 ·rw[qp r] at B y
  by_cases e:j=i
  ·subst e;have q:¬k=j:=λ e=>A e.symm
   have g:k6 vals j v j=v:=by unfold k6;rw[if_pos rfl]
   have p:k6 vals j v k=vals k:=by unfold k6;rw[if_neg q]
   have H:k9 (gY listed) j k=gY listed k:=by unfold k9;rw[if_neg q]
   rw[H] at y;rw[g,p];intro b I J;have av:=X m1 b I;have aw:=R k _ _ m2 (hF k y λ c f=>by cases f) b J;omega
  ·have p:k6 vals i v j=vals j:=by unfold k6;rw[if_neg e]
   have H:k9 (gY listed) i j=gY listed j:=by unfold k9;rw[if_neg e]
   rw[H] at B
   by_cases q:k=i
   ·subst q;have g:k6 vals k v k=v:=by unfold k6;rw[if_pos rfl]
    rw[g,p];intro b I J;have av:=X m2 b J;have aw:=R j _ _ m1 (hF j B λ c f=>by cases f) b I;omega
   ·have g:k6 vals i v k=vals k:=by unfold k6;rw[if_neg q]
    have ax:k9 (gY listed) i k=gY listed k:=by unfold k9;rw[if_neg q]
    rw[ax] at y;rw[p,g];exact T j k A m1 m2 B y
theorem N9{ds:List (Option Tmp)}{ws:List (List Nat)}(H:ws=l.map λ o:Oper=>(o.after.toList.filter (ZT .any)).map (·.on))(I:ds=l.map λ o:Oper=>o.dst)(n:Nat)(hlen:l.length=n+1)(J:tW l.toArray=true)(s:rY l.toArray=true)(K:tX l.toArray a.tmps.size=true)(L:vC l.toArray=true)(t:xV l n=true)(hold:qt a.eval old)(M:Cy G mk)
  (N:xE P ds ws old gW G mk 0 (l.take n))
  (O:∀o vals w,l[n]? =some o->gW w->(∀j,j<n->G j (vals j) w)->zu mk (ng n) vals->aZ P (j3 l.toArray vals (ng n) a n).eval o w λ v w'=>Q .normal ((j3 l.toArray vals (ng n) a n).put o.dst v) w'):
  ∀(fuel:Nat)(listed:Array Bool)(vals:Nat->Value)(w:World),listed.size=l.toArray.size->qf l.toArray listed<=fuel->0<qf l.toArray listed->gY listed n=false->sv ws (gY listed)->gW w->vX G (λ _=>none) (gY listed) vals w->zu mk (gY listed) vals->
   wpAny P .any l.toArray Q fuel listed (j3 l.toArray vals (gY listed) a l.toArray.size) w:=by
 intro fuel
 induction fuel with
 |zero=>intro listed vals w m R S;omega
 |succ fuel T=>
  intro listed vals w m R S z hC A hF B;refine⟨λ h=>by have:=Dr L m h;omega,λ i C=>?_⟩;obtain⟨h1,U,o,p,V⟩:=vY C;have D:i<listed.size:=by omega
  have al:i<l.length:=by simpa using h1
  have u:l[i]? =some o:=by rw[List.getElem?_toArray] at p;exact p
  by_cases E:i=n
  ·subst E;have q:∀j,j<i->gY listed j=true:=λ j d=>by
    unfold xV at t;rw[u] at t;simp only[r_,Zk] at t;have b:=t j d;rw[Array.any_eq_true'] at b;obtain⟨e,he,y⟩:=b;simp only[o_,beq_iff_eq] at y;have:=V e he y.1;rw[y.2] at this;exact this
   have W:j3 l.toArray vals (gY listed) a l.toArray.size=j3 l.toArray vals (ng i) a i:=by
    have X:l.toArray.size=i+1:=by simp[hlen]
    rw[X];simp only[j3];rw[z];simp only[Bool.false_eq_true,if_false];exact Bx i λ j d=>by rw[q j d];unfold ng;simp[d]
   rw[W];unfold wpOp;simp only[p];have Y:o.guard=none:=by
    unfold rY at s;rw[Zf] at s;have:=s o (ZU p);simpa using this
   have hw:Z5 o (yielded l.toArray (j3 l.toArray vals (ng i) a i).tmps)=true:=by unfold Z5;rw[Y]
   rw[if_pos hw];left;refine(O o vals w u A (λ j d=>hF j (q j d) λ c Z=>by cases Z) (λ j k aa m1 m2 ab ad=>B j k aa m1 m2 (q j (by simpa[ng] using ab)) (q k (by simpa[ng] using ad)))).wp λ v w' ae=>?_
   refine wpAny_done ?_ ae _;rcases af:ZS .any l.toArray (listed.setIfInBounds i true) with _|⟨k,r⟩
   ·rfl
   ·have hk:k∈ZS .any l.toArray (listed.setIfInBounds i true):=by rw[af];simp
    obtain⟨b,f,_⟩:=vY hk;exfalso;have an:k<i+1:=by simpa[hlen] using b
    by_cases e:k=i
    ·subst e;rw[q_,Array.getElem?_setIfInBounds_self_of_lt D] at f
     cases f
    ·have g:=q k (by omega);rw[q_,Array.getElem?_setIfInBounds_ne (λ x=>e x.symm)] at f;unfold gY at g;rw[q_] at g;have ag:k<listed.size:=by omega
     rw[ZZ ag] at f g;simp at f g;rw[f] at g;cases g
  ·have ah:AL P ds ws old gW G mk i o:=by
    have b:(l.take n)[i]? =some o:=by rw[List.getElem?_take,if_pos (by omega)];exact u
    have:=xE.at N b
    rwa[Nat.zero_add] at this
   refine N8 H I J s K hold M p ah m A hF B C hC λ v w' ai aj k2 ak=>?_
   have F:gY (listed.setIfInBounds i true) n=false:=by
    rw[qp D];unfold k9;rw[if_neg (λ e=>E e.symm)];exact z
   refine T _ _ w' (by simp[m]) (by have:=Dq (ops:=l.toArray) h1 U;omega) ?_ F aj ai k2 ak;rcases i_ (qf l.toArray (listed.setIfInBounds i true)) with b|b
   ·have:=yM (ops:=l.toArray) (listed:=listed.setIfInBounds i true) (by simp[m]) b n (by simp[hlen]);rw[F] at this;cases this
   ·exact b
end
theorem Oa{P:Program}{id:Nat}{ops:Array Oper}{Q:Exit->Act->World->Prop}{a:Act}(l:List Oper)(n N:Nat)(ds:List (Option Tmp))(ws:List (List Nat))(old:List (Tmp×Value))(gW:World->Prop)(G:Nat->Value->World->Prop)(mk:Nat->Bool)
  (r:ops=l.toArray) (hm:P.follows .mixedOrders=true)
  (m:ds=l.map λ o:Oper=>o.dst) (s:ws=l.map λ o:Oper=>(o.after.toList.filter (ZT .any)).map (·.on)) (hlen:l.length=n+1) (t:tW l.toArray=true) (u:rY l.toArray=true) (y:vC l.toArray=true) (z:xV l n=true) (A:tX l.toArray N=true)
  (B:a.tmps.size=N) (hold:qt a.eval old) (C:Cy G mk) (D:gW w.drew)
  (E:xE P ds ws old gW G mk 0 (l.take n))
  (ol:Oper) (F:l[n]? =some ol) (H:∀vals w,gW w->(∀j,j<n->G j (vals j) w)->zu mk (ng n) vals->∀f,oJ (ds.take n) 0 vals a=f->aZ P f.eval ol w λ v w'=>Q .normal (f.put ol.dst v) w'):(Code.region id ops true).wp P Q a w:=by
 subst r;subst B;refine wp_region_any hm ?_;have I:∀o vals w,l[n]? =some o->gW w->(∀j,j<n->G j (vals j) w)->zu mk (ng n) vals->aZ P (j3 l.toArray vals (ng n) a n).eval o w λ v w'=>Q .normal ((j3 l.toArray vals (ng n) a n).put o.dst v) w':=by
  intro o vals w d J K L;rw[F] at d;injection d with d
  subst d;rw[Bw l vals a n n (g_ _) (by omega),<-m];exact H vals w J K L _ rfl
 have b:∀k,gY (Zp l.toArray.size false) k=false:=λ k=>by
  unfold gY;rw[q_,Array.getElem?_replicate];split<;>rfl
 have e:a=j3 l.toArray (λ _=>undef) (gY (Zp l.toArray.size false)) a l.toArray.size:=by
  have:∀k,j3 l.toArray (λ _=>undef) (gY (Zp l.toArray.size false)) a k=a:=by
   intro k
   induction k with
   |zero=>rfl
   |succ k M=>
    simp only[j3];rw[b k,M];simp
  exact(this _).symm
 have p:=N9 (P:=P) (Q:=Q) (a:=a) (gW:=gW) (G:=G) (mk:=mk) s m n hlen t u A y z hold C E I l.toArray.size (Zp l.toArray.size false) (λ _=>undef) w.drew (by simp)
  (by unfold qf;exact Zm (List.length_filter_le _ _) (by simp)) ?_ (b n) (λ j i c=>by rw[b j] at c;cases c) D (λ j c=>by rw[b j] at c;cases c) (λ j k O m1 m2 q R=>by rw[b j] at q;cases q)
 ·rw[<-e] at p;exact p
 ·rcases i_ (qf l.toArray (Zp l.toArray.size false)) with g|g
  ·have:=yM (ops:=l.toArray) (listed:=Zp l.toArray.size false) (by simp) g n (by simp[hlen]);rw[b n] at this;cases this
  ·exact g
end
section
open Go.RowKit Go.Shelf
theorem Ob:∀args w,(callFunc 106 args).run s_ w=.ok (.enter 106 args) w:=enters_of Tryz.func106 (by kernel_rfl) rfl
theorem Oc:∀args w,(callFunc 109 args).run s_ w=.ok (.enter 109 args) w:=enters_of Tryz.func109 (by kernel_rfl) rfl
theorem Od:(s_.info? 160).map (λ i=>(i.zero,i.size,i.bytes))=some (some (.slice none 0 0),1,24):=by kernel_rfl
theorem Oe:(s_.info? 171).map (λ i=>(i.zero,i.size,i.bytes))=some (some (.int .i8 0),1,1):=by kernel_rfl
theorem Of:(s_.info? 164).map (λ i=>(i.zero,i.size,i.bytes))=some (some (.pointer none),1,8):=by kernel_rfl
theorem zv{ty:TypeId}{z:Value}{aW:Nat}(b:(s_.info? e).map (λ i=>(i.zero,i.size,i.bytes))=some (some z,1,aW))(hu:s_.underlying ty=some (.slice e))(c:z.cells= #[z])(k:Nat)(hk:k<=200000)(d:aW<=100)(base:Nat)(f:base<=w.heap.size):
  (Instr.makeSlice ty (.int .i64 (k:Int)) (.int .i64 (k:Int))).run s_ w=.ok (.slice (some ⟨w.heap.size,0,none⟩) k k) (w.alloc (.cells (madeCells #[z] k) e))/\
  (w.alloc (.cells (madeCells #[z] k) e)).ownsRow base e 1 (.slice (some ⟨w.heap.size,0,none⟩) k k) k (z_ k z):=by
 obtain⟨i0,g,j,l,m⟩:=info_parts b;have hm:aW*k<=100*200000:=Nat.mul_le_mul d hk;have:=run_make (P:=s_) w ty e i0 z hu g j .i64 .i64 (k:Int) (k:Int) (by omega) (by omega) (by rw[m,<-Int.natCast_mul];omega) (by omega);rw[l,c,Nat.mul_one,Int.toNat_natCast] at this;refine⟨this,by simp,.inr ⟨_,_,_,rfl,f,heap_alloc_new _ _,g_ _,by unfold maxLen;omega,by rw[size_madeCells];simp,?_⟩⟩;rw[toList_madeCells_one,Zg (by simp)]
theorem HV{lV:Nat}(h:w.ownsRow b e size v n xs)(c:lV<=b):w.ownsRow lV e size v n xs:=by
 refine⟨h.1,h.2.imp id ?_⟩;rintro⟨g,cap,cur,h1,d,f⟩;exact⟨g,cap,cur,h1,Zm c d,f⟩
def qD(n:Nat)(act:List Int)(aW:Int)(bH:List Bool)(aD:List nc)(jg:aq):an:=
 {c:=ow n,ci:=[],act:=act,aW:=aW,ord:=[],pl:=z_ (n+1) 0,bH:=bH,aJ:=[],aD:=aD,aK:=z_ (n+1) false,nl:=[],jg:=some jg}
def sG:Nat->Nat:=λ _=>0
def uL(b h1 c d e f g i:aq)(r:Nat):aq:=
 if r=0 then b else if r=1 then h1 else if r=2 then c else if r=3 then d else if r=6 then e else if r=8 then f else if r=9 then g else if r=12 then i else lX
theorem wB(b:w.ownsRow base e size h.v k xs):h.n=k:=by
 rcases b.2 with⟨h1,c⟩|⟨g,cap,cur,h1,_⟩
 ·unfold aq.v at h1;injection h1 with _ h1 _;omega
 ·unfold aq.v at h1;injection h1
theorem nS.ag{h':aq}(p:nS h.v h'.v)(g:Nat)(h1:h.b=some g):h'.b≠some g:=by
 have:=p g (by rw[aq.own];exact h1)
 rwa[aq.own] at this
theorem vm(k h1 l m n o p q:aq)(r:Nat):(r=0\/r=1\/r=2\/r=3\/r=6\/r=8\/r=9\/r=12)\/(uL k h1 l m n o p q r=lX/\r≠0/\r≠1/\r≠2/\r≠3/\r≠6/\r≠8/\r≠9/\r≠12):=by
 by_cases b:r=0
 ·exact .inl (.inl b)
 by_cases c:r=1
 ·exact .inl (by omega)
 by_cases d:r=2
 ·exact .inl (by omega)
 by_cases e:r=3
 ·exact .inl (by omega)
 by_cases f:r=6
 ·exact .inl (by omega)
 by_cases g:r=8
 ·exact .inl (by omega)
 by_cases i:r=9
 ·exact .inl (by omega)
 by_cases j:r=12
 ·exact .inl (by omega)
 right;refine⟨?_,b,c,d,e,f,g,i,j⟩;unfold uL;rw[if_neg b,if_neg c,if_neg d,if_neg e,if_neg f,if_neg g,if_neg i,if_neg j]
theorem Og(hs:Nat->aq)(n:Nat)(act:List Int)(b:Int)(c:List Bool)(d:List nc)(f:aq){r:Nat}(h:r≠0/\r≠1/\r≠2/\r≠3/\r≠6/\r≠8/\r≠9/\r≠12):cont hs sG (qD n act b c d f) r=[]:=by
 obtain⟨g,i,j,k,l,m,o,p⟩:=h;unfold cont;rw[if_neg g,if_neg i,if_neg j,if_neg k]
 by_cases e:r=4
 ·rw[if_pos e];rfl
 rw[if_neg e]
 by_cases e:r=5
 ·rw[if_pos e];rfl
 rw[if_neg e,if_neg l]
 by_cases e:r=7
 ·rw[if_pos e];rfl
 rw[if_neg e,if_neg m,if_neg o]
 by_cases e:r=10
 ·rw[if_pos e];rfl
 rw[if_neg e]
 by_cases e:r=11
 ·rw[if_pos e];rfl
 rw[if_neg e,if_neg p]
 by_cases e:r%3=1
 ·rw[if_pos e];show kU sG (aA (z_ _ []) _)=[]
  rw[BI];rfl
 rw[if_neg e]
 by_cases e:r%3=2
 ·rw[if_pos e];rfl
 ·rw[if_neg e];rfl
theorem Oh{aW:Int}{bH:List Bool}{aD:List nc}{jg:aq}{bJ mX nZ nH oe og oh om:aq}
  (f:w.ownsRow base zV 1 bJ.v (2*n+2) (z_ (2*n+2) (t_ none 0 0))) (ko:w.ownsRow base zW 1 mX.v (n+1) (z_ (n+1) (Zw .i8 0))) (i:w.ownsRow base 3 1 nZ.v (n+1) (z_ (n+1) (Zw .i64 0))) (k:w.ownsRow base xT 1 nH.v (n+1) (z_ (n+1) (Z6 none))) (l:w.ownsRow base 3 1 oe.v (n+1) (gT act)) (m:w.ownsRow base 3 1 og.v (n+1) (z_ (n+1) (Zw .i64 0))) (o:w.ownsRow base 4 1 oh.v (n+1) (nR bH)) (p:w.ownsRow base 4 1 om.v (n+1) (z_ (n+1) (f_ false)))
  (q:nS bJ.v mX.v) (s:nS bJ.v nZ.v) (t:nS bJ.v nH.v) (u:nS bJ.v oe.v) (y:nS bJ.v og.v) (z:nS bJ.v oh.v) (A:nS bJ.v om.v) (B:nS mX.v nZ.v) (C:nS mX.v nH.v) (D:nS mX.v oe.v) (E:nS mX.v og.v) (F:nS mX.v oh.v) (G:nS mX.v om.v) (H:nS nZ.v nH.v) (I:nS nZ.v oe.v) (J:nS nZ.v og.v) (K:nS nZ.v oh.v) (L:nS nZ.v om.v) (M:nS nH.v oe.v) (N:nS nH.v og.v) (O:nS nH.v oh.v) (P:nS nH.v om.v) (Q:nS oe.v og.v) (R:nS oe.v oh.v) (S:nS oe.v om.v) (T:nS og.v oh.v) (U:nS og.v om.v) (V:nS oh.v om.v):
  l9 base qZ nW w (uL bJ mX nZ nH oe og oh om) (cont (uL bJ mX nZ nH oe og oh om) sG (qD n act aW bH aD jg)):=by
 refine⟨λ r=>?_,λ r r' g d h1 b=>?_⟩
 ·rcases vm bJ mX nZ nH oe og oh om r with(rfl|rfl|rfl|rfl|rfl|rfl|rfl|rfl)|⟨e,c⟩
  ·show w.ownsRow base zV 1 bJ.v bJ.n _;rw[wB f];have:cont (uL bJ mX nZ nH oe og oh om) sG (qD n act aW bH aD jg) 0=z_ (2*n+2) (t_ none 0 0):=by
    show(e_ (z_ (2*n+2) ([]:List Nat)).length).map _=_;rw[List.length_replicate];refine List.ext_getElem (by simp) λ j h1 b=>?_
    rw[Zr,List.getElem_replicate];have W:(uL bJ mX nZ nH oe og oh om) (ij j)=lX:=by
     rcases vm bJ mX nZ nH oe og oh om (ij j) with h|h
     ·unfold ij at h;omega
     ·exact h.1
    rw[List.getElem_range,W];rfl
   rw[this];exact f
  ·show w.ownsRow base zW 1 mX.v mX.n _;rw[wB ko];have:cont (uL bJ mX nZ nH oe og oh om) sG (qD n act aW bH aD jg) 1=z_ (n+1) (Zw .i8 0):=by
    show th (z_ (n+1) 0)=_;simp[th]
   rw[this];exact ko
  ·show w.ownsRow base 3 1 nZ.v nZ.n _;rw[wB i];have:cont (uL bJ mX nZ nH oe og oh om) sG (qD n act aW bH aD jg) 2=z_ (n+1) (Zw .i64 0):=by
    show qo (z_ (n+1) 0)=_;simp[qo]
   rw[this];exact i
  ·show w.ownsRow base xT 1 nH.v nH.n _;rw[wB k];have:cont (uL bJ mX nZ nH oe og oh om) sG (qD n act aW bH aD jg) 3=z_ (n+1) (Z6 none):=by
    show ux sG (z_ (n+1) none)=_;simp[ux,q3]
   rw[this];exact k
  ·show w.ownsRow base 3 1 oe.v oe.n _;rw[wB l];exact l
  ·show w.ownsRow base 3 1 og.v og.n _;rw[wB m];have:cont (uL bJ mX nZ nH oe og oh om) sG (qD n act aW bH aD jg) 8=z_ (n+1) (Zw .i64 0):=by
    show gT (z_ (n+1) 0)=_;simp[gT]
   rw[this];exact m
  ·show w.ownsRow base 4 1 oh.v oh.n _;rw[wB o];exact o
  ·show w.ownsRow base 4 1 om.v om.n _;rw[wB p];have:cont (uL bJ mX nZ nH oe og oh om) sG (qD n act aW bH aD jg) 12=z_ (n+1) (f_ false):=by
    show nR (z_ (n+1) false)=_;simp[nR]
   rw[this];exact p
  ·rw[e,Og _ n act aW bH aD jg c];exact Zj _ _ _ _
 ·rcases vm bJ mX nZ nH oe og oh om r with(rfl|rfl|rfl|rfl|rfl|rfl|rfl|rfl)|⟨e,c⟩
  ·rcases vm bJ mX nZ nH oe og oh om r' with(rfl|rfl|rfl|rfl|rfl|rfl|rfl|rfl)|⟨e,c⟩
   ·exact d rfl
   ·exact q.ag g h1 b
   ·exact s.ag g h1 b
   ·exact t.ag g h1 b
   ·exact u.ag g h1 b
   ·exact y.ag g h1 b
   ·exact z.ag g h1 b
   ·exact A.ag g h1 b
   ·rw[e] at b;cases b
  ·rcases vm bJ mX nZ nH oe og oh om r' with(rfl|rfl|rfl|rfl|rfl|rfl|rfl|rfl)|⟨e,c⟩
   ·exact q.ag g b h1
   ·exact d rfl
   ·exact B.ag g h1 b
   ·exact C.ag g h1 b
   ·exact D.ag g h1 b
   ·exact E.ag g h1 b
   ·exact F.ag g h1 b
   ·exact G.ag g h1 b
   ·rw[e] at b;cases b
  ·rcases vm bJ mX nZ nH oe og oh om r' with(rfl|rfl|rfl|rfl|rfl|rfl|rfl|rfl)|⟨e,c⟩
   ·exact s.ag g b h1
   ·exact B.ag g b h1
   ·exact d rfl
   ·exact H.ag g h1 b
   ·exact I.ag g h1 b
   ·exact J.ag g h1 b
   ·exact K.ag g h1 b
   ·exact L.ag g h1 b
   ·rw[e] at b;cases b
  ·rcases vm bJ mX nZ nH oe og oh om r' with(rfl|rfl|rfl|rfl|rfl|rfl|rfl|rfl)|⟨e,c⟩
   ·exact t.ag g b h1
   ·exact C.ag g b h1
   ·exact H.ag g b h1
   ·exact d rfl
   ·exact M.ag g h1 b
   ·exact N.ag g h1 b
   ·exact O.ag g h1 b
   ·exact P.ag g h1 b
   ·rw[e] at b;cases b
  ·rcases vm bJ mX nZ nH oe og oh om r' with(rfl|rfl|rfl|rfl|rfl|rfl|rfl|rfl)|⟨e,c⟩
   ·exact u.ag g b h1
   ·exact D.ag g b h1
   ·exact I.ag g b h1
   ·exact M.ag g b h1
   ·exact d rfl
   ·exact Q.ag g h1 b
   ·exact R.ag g h1 b
   ·exact S.ag g h1 b
   ·rw[e] at b;cases b
  ·rcases vm bJ mX nZ nH oe og oh om r' with(rfl|rfl|rfl|rfl|rfl|rfl|rfl|rfl)|⟨e,c⟩
   ·exact y.ag g b h1
   ·exact E.ag g b h1
   ·exact J.ag g b h1
   ·exact N.ag g b h1
   ·exact Q.ag g b h1
   ·exact d rfl
   ·exact T.ag g h1 b
   ·exact U.ag g h1 b
   ·rw[e] at b;cases b
  ·rcases vm bJ mX nZ nH oe og oh om r' with(rfl|rfl|rfl|rfl|rfl|rfl|rfl|rfl)|⟨e,c⟩
   ·exact z.ag g b h1
   ·exact F.ag g b h1
   ·exact K.ag g b h1
   ·exact O.ag g b h1
   ·exact R.ag g b h1
   ·exact T.ag g b h1
   ·exact d rfl
   ·exact V.ag g h1 b
   ·rw[e] at b;cases b
  ·rcases vm bJ mX nZ nH oe og oh om r' with(rfl|rfl|rfl|rfl|rfl|rfl|rfl|rfl)|⟨e,c⟩
   ·exact A.ag g b h1
   ·exact G.ag g b h1
   ·exact L.ag g b h1
   ·exact P.ag g b h1
   ·exact S.ag g b h1
   ·exact U.ag g b h1
   ·exact V.ag g b h1
   ·exact d rfl
   ·rw[e] at b;cases b
  ·rw[e] at h1;cases h1
def wC(W:World)(d n:Nat)(act:List Int)(g:Int)(j:List Bool)(A:Option Addr)(c:Nat)(l:Option Addr)(m:Nat)(f:Option Addr)(e o:Nat)(k:List nc)(i:Nat)(v:Value)(w:World):Prop:=
 match i with
 |0=>v=.pointer (some ⟨d,0,none⟩)
 |1=>v=.int .i64 ((n:Int))
 |2=>v=.pointer (some ⟨d,0,none⟩)
 |3=>v=.int .i64 ((n:Int))
 |4=>v=.int .i64 (2*(n:Int))
 |5=>v=.int .i64 (2*(n:Int)+2)
 |6=>∃h:aq,v=h.v/\w.ownsRow W.heap.size zV 1 h.v (2*n+2) (z_ (2*n+2) (t_ none 0 0))
 |7=>v=.pointer (some ⟨d,0,none⟩)
 |8=>v=.int .i64 ((n:Int))
 |9=>v=.int .i64 ((n:Int)+1)
 |10=>∃h:aq,v=h.v/\w.ownsRow W.heap.size zW 1 h.v (n+1) (z_ (n+1) (Zw .i8 0))
 |11=>v=.pointer (some ⟨d,0,none⟩)
 |12=>v=.int .i64 ((n:Int))
 |13=>v=.int .i64 ((n:Int)+1)
 |14=>∃h:aq,v=h.v/\w.ownsRow W.heap.size 3 1 h.v (n+1) (z_ (n+1) (Zw .i64 0))
 |15=>v=.pointer (some ⟨d,0,none⟩)
 |16=>v=.int .i64 ((n:Int))
 |17=>v=.int .i64 ((n:Int)+1)
 |18=>∃h:aq,v=h.v/\w.ownsRow W.heap.size xT 1 h.v (n+1) (z_ (n+1) (Z6 none))
 |19=>v=.pointer (some ⟨d,3,none⟩)
 |20=>v=.pointer (some ⟨d,3,none⟩)
 |21=>v=.slice A (n+1) c
 |22=>∃h:aq,v=h.v/\w.ownsRow W.heap.size 3 1 h.v (n+1) (gT act)
 |23=>v=.pointer (some ⟨d,3,none⟩)
 |24=>v=.pointer (some ⟨d,5,none⟩)
 |25=>v=.int .i64 (g)
 |26=>v=.pointer (some ⟨d,0,none⟩)
 |27=>v=.int .i64 ((n:Int))
 |28=>v=.int .i64 ((n:Int)+1)
 |29=>∃h:aq,v=h.v/\w.ownsRow W.heap.size 3 1 h.v (n+1) (z_ (n+1) (Zw .i64 0))
 |30=>v=.pointer (some ⟨d,6,none⟩)
 |31=>v=.slice l (n+1) m
 |32=>∃h:aq,v=h.v/\w.ownsRow W.heap.size 4 1 h.v (n+1) (nR j)
 |33=>v=.pointer (some ⟨d,7,none⟩)
 |34=>v=.slice f e o
 |35=>v=.slice f e e
 |36=>v=.pointer (some ⟨d,0,none⟩)
 |37=>v=.int .i64 ((n:Int))
 |38=>v=.int .i64 ((n:Int)+1)
 |39=>∃h:aq,v=h.v/\w.ownsRow W.heap.size 4 1 h.v (n+1) (z_ (n+1) (f_ false))
 |40=>∃hs,v=.agg (rA hs (qD n act g j k ⟨f,e,e⟩)).toArray/\l9 W.heap.size qZ nW w hs (cont hs sG (qD n act g j k ⟨f,e,e⟩))
 |41=>∃hs b,v=.pointer (some ⟨b,0,none⟩)/\aM w b tg (rA hs (qD n act g j k ⟨f,e,e⟩))/\W.heap.size<=b/\l9 W.heap.size qZ nW w hs (cont hs sG (qD n act g j k ⟨f,e,e⟩))
 |_=>True
theorem wC.mono(W:World)(g n:Nat)(act:List Int)(j:Int)(k:List Bool)(A:Option Addr)(c:Nat)(l:Option Addr)(m:Nat)(o:Option Addr)(p q:Nat)(r:List nc)(i:Nat)(u:Value)(w w':World)(f:Below w.heap.size w w')(h:wC W g n act j k A c l m o p q r i u w):wC W g n act j k A c l m o p q r i u w':=by
 match i,h with
 |0,h=>exact h
 |1,h=>exact h
 |2,h=>exact h
 |3,h=>exact h
 |4,h=>exact h
 |5,h=>exact h
 |6,h=>obtain⟨e,h1,d⟩:=h;exact⟨e,h1,lU d f⟩
 |7,h=>exact h
 |8,h=>exact h
 |9,h=>exact h
 |10,h=>obtain⟨e,h1,d⟩:=h;exact⟨e,h1,lU d f⟩
 |11,h=>exact h
 |12,h=>exact h
 |13,h=>exact h
 |14,h=>obtain⟨e,h1,d⟩:=h;exact⟨e,h1,lU d f⟩
 |15,h=>exact h
 |16,h=>exact h
 |17,h=>exact h
 |18,h=>obtain⟨e,h1,d⟩:=h;exact⟨e,h1,lU d f⟩
 |19,h=>exact h
 |20,h=>exact h
 |21,h=>exact h
 |22,h=>obtain⟨e,h1,d⟩:=h;exact⟨e,h1,lU d f⟩
 |23,h=>exact h
 |24,h=>exact h
 |25,h=>exact h
 |26,h=>exact h
 |27,h=>exact h
 |28,h=>exact h
 |29,h=>obtain⟨e,h1,d⟩:=h;exact⟨e,h1,lU d f⟩
 |30,h=>exact h
 |31,h=>exact h
 |32,h=>obtain⟨e,h1,d⟩:=h;exact⟨e,h1,lU d f⟩
 |33,h=>exact h
 |34,h=>exact h
 |35,h=>exact h
 |36,h=>exact h
 |37,h=>exact h
 |38,h=>exact h
 |39,h=>obtain⟨e,h1,d⟩:=h;exact⟨e,h1,lU d f⟩
 |40,h=>obtain⟨hs,h1,d⟩:=h;exact⟨hs,h1,d.below f⟩
 |41,h=>obtain⟨hs,b,h1,d,s,t⟩:=h;exact⟨hs,b,h1,d.below f,s,t.below f⟩
 |n+42,h=>trivial
def Cz(i:Nat):Bool:=[6,10,14,18,22,29,32,39].contains i
theorem wC.lt(W:World)(g n:Nat)(act:List Int)(i:Int)(k:List Bool)(A:Option Addr)(c:Nat)(l:Option Addr)(m:Nat)(o:Option Addr)(p q:Nat)(r:List nc):Cy (wC W g n act i k A c l m o p q r) Cz:=by
 intro j u w hm h b e;have s:j=6\/j=10\/j=14\/j=18\/j=22\/j=29\/j=32\/j=39:=by simpa[Cz] using hm
 rcases s with rfl|rfl|rfl|rfl|rfl|rfl|rfl|rfl
 ·obtain⟨f,rfl,d⟩:=h;exact(d.lt b e).2
 ·obtain⟨f,rfl,d⟩:=h;exact(d.lt b e).2
 ·obtain⟨f,rfl,d⟩:=h;exact(d.lt b e).2
 ·obtain⟨f,rfl,d⟩:=h;exact(d.lt b e).2
 ·obtain⟨f,rfl,d⟩:=h;exact(d.lt b e).2
 ·obtain⟨f,rfl,d⟩:=h;exact(d.lt b e).2
 ·obtain⟨f,rfl,d⟩:=h;exact(d.lt b e).2
 ·obtain⟨f,rfl,d⟩:=h;exact(d.lt b e).2
structure HW(W:World)(bt n:Nat)(act:List Int)(aW:Int)(bH:List Bool)(A:Option Addr)(c:Nat)(gZ:Option Addr)(gJ:Nat)(bp:Option Addr)(aR gw:Nat)(aD:List nc):Prop where
 c0:W.cell? ⟨bt,0,none⟩=some (.int .i64 (n:Int))
 c3:W.cell? ⟨bt,3,none⟩=some (.slice A (n+1) c)
 c5:W.cell? ⟨bt,5,none⟩=some (.int .i64 aW)
 c6:W.cell? ⟨bt,6,none⟩=some (.slice gZ (n+1) gJ)
 ia:W.cell? ⟨bt,7,none⟩=some (.slice bp aR gw)
 gq:bt<W.heap.size
 Oi:aN W A (n+1) c act
 Oj:kS W gZ (n+1) gJ bH
 clip:∀w,Calls s_ 109 #[.slice bp aR gw] w λ e w'=>e=.returned (.slice bp aR aR)/\w'=w
 w5:n<=60000
theorem Ol(W:World)(k n:Nat)(act:List Int)(B:Int)(s:List Bool)(A:Option Addr)(c:Nat)(M:Option Addr)(N:Nat)(D:Option Addr)(t aC:Nat)(E:List nc)(C:HW W k n act B s A c M N D t aC E):
  xE s_ [some 11,some 12,some 13,some 14,some 15,some 16,some 17,some 18,some 19,some 20,some 21,some 22,some 23,some 24,some 25,some 26,some 27,some 28,some 29,some 30,some 31,some 32,some 33,some 34,some 35,some 36,some 37,some 38,some 39,some 40,some 41,some 42,some 43,some 44,some 45,some 46,some 47,some 48,some 49,some 50,some 51,some 52,some 3] [[],[0],[],[2],[3],[4],[5,5],[],[7],[8],[9,9],[],[11],[12],[13,13],[],[15],[16],[17,17],[],[19],[20],[21],[],[23],[24],[],[26],[27],[28,28],[],[30],[31,22],[],[33],[34,32],[],[36],[37],[38,38],[1,6,10,14,18,22,25,29,32,35,39],[40],[41,35,0,1,2,3,4,5,6,7,8,9,10,11,12,13,14,15,16,17,18,19,20,21,22,23,24,25,26,27,28,29,30,31,32,33,34,35,36,37,38,39,40,41]] [(1,.pointer (some ⟨k,0,none⟩))] (λ w=>Below W.heap.size W w) (wC W k n act B s A c M N D t aC E) Cz 0 ((tq Tryz.f98 1).take 42):=by
 have q:=wC.mono W k n act B s A c M N D t aC E;have r:∀w w':World,Below W.heap.size W w->Below w.heap.size w w'->Below W.heap.size W w':=λ w w' f o=>f.trans (o.mono f.size)
 have bJ:=C.w5;refine⟨?_,?_,?_,?_,?_,?_,?_,?_,?_,?_,?_,?_,?_,?_,?_,?_,?_,?_,?_,?_,?_,?_,?_,?_,?_,?_,?_,?_,?_,?_,?_,?_,?_,?_,?_,?_,?_,?_,?_,?_,?_,?_,trivial⟩
 ·intro vals w g f d j hp i;have l:g (.tmp 1)=_:=j.1 rfl;simp only[aZ,execOp,l];simp[gE,go_sem];exact .same f rfl rfl
 ·intro vals w g f d j hp i;obtain⟨⟨f0,O⟩,-⟩:=(⟨d.1 rfl,d.2⟩:_/\_)
  have O:g (.tmp 11)=vals 0:=O _ rfl;have f0:vals 0=_:=f0 (y_ rfl);rw[f0] at O;have m:=(x_ (a:=⟨k,0,none⟩) (f.block k C.gq)).trans C.c0;simp only[aZ,execOp,O];simp[gE,go_sem,m];exact .same f rfl rfl
 ·intro vals w g f d j hp i;have l:g (.tmp 1)=_:=j.1 rfl;simp only[aZ,execOp,l];simp[gE,go_sem];exact .same f rfl rfl
 ·intro vals w g f d j hp i;obtain⟨⟨f2,P⟩,-⟩:=(⟨d.1 rfl,d.2⟩:_/\_)
  have P:g (.tmp 13)=vals 2:=P _ rfl;have f2:vals 2=_:=f2 (y_ rfl);rw[f2] at P;have m:=(x_ (a:=⟨k,0,none⟩) (f.block k C.gq)).trans C.c0;simp only[aZ,execOp,P];simp[gE,go_sem,m];exact .same f rfl rfl
 ·intro vals w g f d j hp i;obtain⟨⟨f3,Q⟩,-⟩:=(⟨d.1 rfl,d.2⟩:_/\_)
  have Q:g (.tmp 14)=vals 3:=Q _ rfl;have f3:vals 3=_:=f3 (y_ rfl);rw[f3] at Q;have wn:d_.wrap (2*(n:Int))=2*(n:Int):=by rw[p_];omega
  simp only[aZ,execOp,Q];simp[gE,go_sem,wn,hp.1];exact .same f rfl rfl
 ·intro vals w g f d j hp i;obtain⟨⟨f4,R⟩,-⟩:=(⟨d.1 rfl,d.2⟩:_/\_)
  have R:g (.tmp 15)=vals 4:=R _ rfl;have f4:vals 4=_:=f4 (y_ rfl);rw[f4] at R;have wn:d_.wrap (2*(n:Int)+2)=2*(n:Int)+2:=by rw[p_];omega
  simp only[aZ,execOp,R];simp[gE,go_sem,wn,hp.1];exact .same f rfl rfl
 ·intro vals w g f d j hp i;obtain⟨⟨f5,F⟩,-⟩:=(⟨d.1 rfl,d.2⟩:_/\_)
  have F:g (.tmp 16)=vals 5:=F _ rfl;have f5:vals 5=_:=f5 (y_ rfl);rw[f5] at F;have p:=zv (w:=w) Od Tryz.underlying158 rfl (2*n+2) (by omega) (by omega) W.heap.size f.size;rw[show(2*(n:Int)+2)=(((2*n+2):Nat):Int) by omega] at F;simp only[aZ,execOp,Zu,Zt,k_,F,p.1,gE];exact .more q (bg w _) (r w _ f (bg w _)) ⟨⟨_,_,_⟩,rfl,p.2⟩ (λ _ b o=>by have e:some w.heap.size=some b:=o;injection e with e;omega)
 ·intro vals w g f d j hp i;have l:g (.tmp 1)=_:=j.1 rfl;simp only[aZ,execOp,l];simp[gE,go_sem];exact .same f rfl rfl
 ·intro vals w g f d j hp i;obtain⟨⟨f7,S⟩,-⟩:=(⟨d.1 rfl,d.2⟩:_/\_)
  have S:g (.tmp 18)=vals 7:=S _ rfl;have f7:vals 7=_:=f7 (y_ rfl);rw[f7] at S;have m:=(x_ (a:=⟨k,0,none⟩) (f.block k C.gq)).trans C.c0;simp only[aZ,execOp,S];simp[gE,go_sem,m];exact .same f rfl rfl
 ·intro vals w g f d j hp i;obtain⟨⟨f8,T⟩,-⟩:=(⟨d.1 rfl,d.2⟩:_/\_)
  have T:g (.tmp 19)=vals 8:=T _ rfl;have f8:vals 8=_:=f8 (y_ rfl);rw[f8] at T;have wn:d_.wrap ((n:Int)+1)=(n:Int)+1:=by rw[p_];omega
  simp only[aZ,execOp,T];simp[gE,go_sem,wn,hp.1];exact .same f rfl rfl
 ·intro vals w g f d j hp i;obtain⟨⟨f9,G⟩,-⟩:=(⟨d.1 rfl,d.2⟩:_/\_)
  have G:g (.tmp 20)=vals 9:=G _ rfl;have f9:vals 9=_:=f9 (y_ rfl);rw[f9] at G;have p:=zv (w:=w) Oe Tryz.underlying159 rfl (n+1) (by omega) (by omega) W.heap.size f.size;rw[show((n:Int)+1)=(((n+1):Nat):Int) by omega] at G;simp only[aZ,execOp,Zu,Zt,k_,G,p.1,gE];exact .more q (bg w _) (r w _ f (bg w _)) ⟨⟨_,_,_⟩,rfl,p.2⟩ (λ _ b o=>by have e:some w.heap.size=some b:=o;injection e with e;omega)
 ·intro vals w g f d j hp i;have l:g (.tmp 1)=_:=j.1 rfl;simp only[aZ,execOp,l];simp[gE,go_sem];exact .same f rfl rfl
 ·intro vals w g f d j hp i;obtain⟨⟨f11,U⟩,-⟩:=(⟨d.1 rfl,d.2⟩:_/\_)
  have U:g (.tmp 22)=vals 11:=U _ rfl;have f11:vals 11=_:=f11 (y_ rfl);rw[f11] at U;have m:=(x_ (a:=⟨k,0,none⟩) (f.block k C.gq)).trans C.c0;simp only[aZ,execOp,U];simp[gE,go_sem,m];exact .same f rfl rfl
 ·intro vals w g f d j hp i;obtain⟨⟨f12,V⟩,-⟩:=(⟨d.1 rfl,d.2⟩:_/\_)
  have V:g (.tmp 23)=vals 12:=V _ rfl;have f12:vals 12=_:=f12 (y_ rfl);rw[f12] at V;have wn:d_.wrap ((n:Int)+1)=(n:Int)+1:=by rw[p_];omega
  simp only[aZ,execOp,V];simp[gE,go_sem,wn,hp.1];exact .same f rfl rfl
 ·intro vals w g f d j hp i;obtain⟨⟨f13,H⟩,-⟩:=(⟨d.1 rfl,d.2⟩:_/\_)
  have H:g (.tmp 24)=vals 13:=H _ rfl;have f13:vals 13=_:=f13 (y_ rfl);rw[f13] at H;have p:=zv (w:=w) zK Tryz.underlying25 rfl (n+1) (by omega) (by omega) W.heap.size f.size;rw[show((n:Int)+1)=(((n+1):Nat):Int) by omega] at H;simp only[aZ,execOp,Zu,Zt,k_,H,p.1,gE];exact .more q (bg w _) (r w _ f (bg w _)) ⟨⟨_,_,_⟩,rfl,p.2⟩ (λ _ b o=>by have e:some w.heap.size=some b:=o;injection e with e;omega)
 ·intro vals w g f d j hp i;have l:g (.tmp 1)=_:=j.1 rfl;simp only[aZ,execOp,l];simp[gE,go_sem];exact .same f rfl rfl
 ·intro vals w g f d j hp i;obtain⟨⟨f15,X⟩,-⟩:=(⟨d.1 rfl,d.2⟩:_/\_)
  have X:g (.tmp 26)=vals 15:=X _ rfl;have f15:vals 15=_:=f15 (y_ rfl);rw[f15] at X;have m:=(x_ (a:=⟨k,0,none⟩) (f.block k C.gq)).trans C.c0;simp only[aZ,execOp,X];simp[gE,go_sem,m];exact .same f rfl rfl
 ·intro vals w g f d j hp i;obtain⟨⟨f16,Y⟩,-⟩:=(⟨d.1 rfl,d.2⟩:_/\_)
  have Y:g (.tmp 27)=vals 16:=Y _ rfl;have f16:vals 16=_:=f16 (y_ rfl);rw[f16] at Y;have wn:d_.wrap ((n:Int)+1)=(n:Int)+1:=by rw[p_];omega
  simp only[aZ,execOp,Y];simp[gE,go_sem,wn,hp.1];exact .same f rfl rfl
 ·intro vals w g f d j hp i;obtain⟨⟨f17,I⟩,-⟩:=(⟨d.1 rfl,d.2⟩:_/\_)
  have I:g (.tmp 28)=vals 17:=I _ rfl;have f17:vals 17=_:=f17 (y_ rfl);rw[f17] at I;have p:=zv (w:=w) Of Tryz.underlying160 rfl (n+1) (by omega) (by omega) W.heap.size f.size;rw[show((n:Int)+1)=(((n+1):Nat):Int) by omega] at I;simp only[aZ,execOp,Zu,Zt,k_,I,p.1,gE];exact .more q (bg w _) (r w _ f (bg w _)) ⟨⟨_,_,_⟩,rfl,p.2⟩ (λ _ b o=>by have e:some w.heap.size=some b:=o;injection e with e;omega)
 ·intro vals w g f d j hp i;have l:g (.tmp 1)=_:=j.1 rfl;simp only[aZ,execOp,l];simp[gE,go_sem];exact .same f rfl rfl
 ·intro vals w g f d j hp i;obtain⟨⟨f19,Z⟩,-⟩:=(⟨d.1 rfl,d.2⟩:_/\_)
  have Z:g (.tmp 30)=vals 19:=Z _ rfl;have f19:vals 19=_:=f19 (y_ rfl);rw[f19] at Z;simp only[aZ,execOp,Z];simp[gE,go_sem];exact .same f rfl rfl
 ·intro vals w g f d j hp i;obtain⟨⟨f20,aa⟩,-⟩:=(⟨d.1 rfl,d.2⟩:_/\_)
  have aa:g (.tmp 31)=vals 20:=aa _ rfl;have f20:vals 20=_:=f20 (y_ rfl);rw[f20] at aa;have m:=(x_ (a:=⟨k,3,none⟩) (f.block k C.gq)).trans C.c3;simp only[aZ,execOp,aa];simp[gE,go_sem,m];exact .same f rfl rfl
 ·intro vals w g f d j hp i;obtain⟨⟨f21,ab⟩,-⟩:=(⟨d.1 rfl,d.2⟩:_/\_)
  have ab:g (.tmp 32)=vals 21:=ab _ rfl;have f21:vals 21=_:=f21 (y_ rfl);rw[f21] at ab;have J:=C.Oi.below f;refine va 81 #[.tmp 32] #[25] rfl Az hp ?_;simp only[m_,l_,b_,ab];refine(xg A (n+1) c act w J).mono ?_;rintro e w' ⟨aD,c2,rfl,u,o⟩;have hl:=J.len;rw[hl] at u⊢;refine⟨_,rfl,.more q o (r w w' f o) ⟨⟨aD,n+1,c2⟩,rfl,HV u f.size⟩ (λ _ b e=>(u.lt b e).1)⟩
 ·intro vals w g f d j hp i;have l:g (.tmp 1)=_:=j.1 rfl;simp only[aZ,execOp,l];simp[gE,go_sem];exact .same f rfl rfl
 ·intro vals w g f d j hp i;obtain⟨⟨f23,ad⟩,-⟩:=(⟨d.1 rfl,d.2⟩:_/\_)
  have ad:g (.tmp 34)=vals 23:=ad _ rfl;have f23:vals 23=_:=f23 (y_ rfl);rw[f23] at ad;simp only[aZ,execOp,ad];simp[gE,go_sem];exact .same f rfl rfl
 ·intro vals w g f d j hp i;obtain⟨⟨f24,ae⟩,-⟩:=(⟨d.1 rfl,d.2⟩:_/\_)
  have ae:g (.tmp 35)=vals 24:=ae _ rfl;have f24:vals 24=_:=f24 (y_ rfl);rw[f24] at ae;have m:=(x_ (a:=⟨k,5,none⟩) (f.block k C.gq)).trans C.c5;simp only[aZ,execOp,ae];simp[gE,go_sem,m];exact .same f rfl rfl
 ·intro vals w g f d j hp i;have l:g (.tmp 1)=_:=j.1 rfl;simp only[aZ,execOp,l];simp[gE,go_sem];exact .same f rfl rfl
 ·intro vals w g f d j hp i;obtain⟨⟨f26,af⟩,-⟩:=(⟨d.1 rfl,d.2⟩:_/\_)
  have af:g (.tmp 37)=vals 26:=af _ rfl;have f26:vals 26=_:=f26 (y_ rfl);rw[f26] at af;have m:=(x_ (a:=⟨k,0,none⟩) (f.block k C.gq)).trans C.c0;simp only[aZ,execOp,af];simp[gE,go_sem,m];exact .same f rfl rfl
 ·intro vals w g f d j hp i;obtain⟨⟨f27,ag⟩,-⟩:=(⟨d.1 rfl,d.2⟩:_/\_)
  have ag:g (.tmp 38)=vals 27:=ag _ rfl;have f27:vals 27=_:=f27 (y_ rfl);rw[f27] at ag;have wn:d_.wrap ((n:Int)+1)=(n:Int)+1:=by rw[p_];omega
  simp only[aZ,execOp,ag];simp[gE,go_sem,wn,hp.1];exact .same f rfl rfl
 ·intro vals w g f d j hp i;obtain⟨⟨f28,K⟩,-⟩:=(⟨d.1 rfl,d.2⟩:_/\_)
  have K:g (.tmp 39)=vals 28:=K _ rfl;have f28:vals 28=_:=f28 (y_ rfl);rw[f28] at K;have p:=zv (w:=w) zK Tryz.underlying25 rfl (n+1) (by omega) (by omega) W.heap.size f.size;rw[show((n:Int)+1)=(((n+1):Nat):Int) by omega] at K;simp only[aZ,execOp,Zu,Zt,k_,K,p.1,gE];exact .more q (bg w _) (r w _ f (bg w _)) ⟨⟨_,_,_⟩,rfl,p.2⟩ (λ _ b o=>by have e:some w.heap.size=some b:=o;injection e with e;omega)
 ·intro vals w g f d j hp i;have l:g (.tmp 1)=_:=j.1 rfl;simp only[aZ,execOp,l];simp[gE,go_sem];exact .same f rfl rfl
 ·intro vals w g f d j hp i;obtain⟨⟨f30,ah⟩,-⟩:=(⟨d.1 rfl,d.2⟩:_/\_)
  have ah:g (.tmp 41)=vals 30:=ah _ rfl;have f30:vals 30=_:=f30 (y_ rfl);rw[f30] at ah;have m:=(x_ (a:=⟨k,6,none⟩) (f.block k C.gq)).trans C.c6;simp only[aZ,execOp,ah];simp[gE,go_sem,m];exact .same f rfl rfl
 ·intro vals w g f d j hp i;obtain⟨⟨f31,ai⟩,⟨f22,y⟩,-⟩:=(⟨d.1 rfl,d.2.1 rfl,d.2.2⟩:_/\_/\_)
  have ai:g (.tmp 42)=vals 31:=ai _ rfl;have f31:vals 31=_:=f31 (y_ rfl);rw[f31] at ai;have y:g (.tmp 33)=vals 22:=y _ rfl;have J:=C.Oj.below f;refine va 106 #[.tmp 42] #[28] rfl Ob hp ?_;simp only[m_,l_,b_,ai];refine(HN M (n+1) N s w J).mono ?_;rintro e w' ⟨aD,c2,rfl,u,o⟩;have hl:=J.len;rw[hl] at u⊢;refine⟨_,rfl,.more q o (r w w' f o) ⟨⟨aD,n+1,c2⟩,rfl,HV u f.size⟩ (λ _ b e=>(u.lt b e).1)⟩
 ·intro vals w g f d j hp i;have l:g (.tmp 1)=_:=j.1 rfl;simp only[aZ,execOp,l];simp[gE,go_sem];exact .same f rfl rfl
 ·intro vals w g f d j hp i;obtain⟨⟨f33,aj⟩,-⟩:=(⟨d.1 rfl,d.2⟩:_/\_)
  have aj:g (.tmp 44)=vals 33:=aj _ rfl;have f33:vals 33=_:=f33 (y_ rfl);rw[f33] at aj;have m:=(x_ (a:=⟨k,7,none⟩) (f.block k C.gq)).trans C.ia;simp only[aZ,execOp,aj];simp[gE,go_sem,m];exact .same f rfl rfl
 ·intro vals w g f d j hp i;obtain⟨⟨f34,ak⟩,⟨f32,z⟩,-⟩:=(⟨d.1 rfl,d.2.1 rfl,d.2.2⟩:_/\_/\_)
  have ak:g (.tmp 45)=vals 34:=ak _ rfl;have f34:vals 34=_:=f34 (y_ rfl);rw[f34] at ak;have z:g (.tmp 43)=vals 32:=z _ rfl;refine va 109 #[.tmp 45] #[45] rfl Oc hp ?_;simp only[m_,l_,b_,ak];refine(C.clip w).mono ?_;rintro e w' ⟨rfl,rfl⟩;exact⟨_,rfl,.same f rfl rfl⟩
 ·intro vals w g f d j hp i;have l:g (.tmp 1)=_:=j.1 rfl;simp only[aZ,execOp,l];simp[gE,go_sem];exact .same f rfl rfl
 ·intro vals w g f d j hp i;obtain⟨⟨f36,al⟩,-⟩:=(⟨d.1 rfl,d.2⟩:_/\_)
  have al:g (.tmp 47)=vals 36:=al _ rfl;have f36:vals 36=_:=f36 (y_ rfl);rw[f36] at al;have m:=(x_ (a:=⟨k,0,none⟩) (f.block k C.gq)).trans C.c0;simp only[aZ,execOp,al];simp[gE,go_sem,m];exact .same f rfl rfl
 ·intro vals w g f d j hp i;obtain⟨⟨f37,an⟩,-⟩:=(⟨d.1 rfl,d.2⟩:_/\_)
  have an:g (.tmp 48)=vals 37:=an _ rfl;have f37:vals 37=_:=f37 (y_ rfl);rw[f37] at an;have wn:d_.wrap ((n:Int)+1)=(n:Int)+1:=by rw[p_];omega
  simp only[aZ,execOp,an];simp[gE,go_sem,wn,hp.1];exact .same f rfl rfl
 ·intro vals w g f d j hp i;obtain⟨⟨f38,L⟩,-⟩:=(⟨d.1 rfl,d.2⟩:_/\_)
  have L:g (.tmp 49)=vals 38:=L _ rfl;have f38:vals 38=_:=f38 (y_ rfl);rw[f38] at L;have p:=zv (w:=w) yf Zi rfl (n+1) (by omega) (by omega) W.heap.size f.size;rw[show((n:Int)+1)=(((n+1):Nat):Int) by omega] at L;simp only[aZ,execOp,Zu,Zt,k_,L,p.1,gE];exact .more q (bg w _) (r w _ f (bg w _)) ⟨⟨_,_,_⟩,rfl,p.2⟩ (λ _ b o=>by have e:some w.heap.size=some b:=o;injection e with e;omega)
 ·intro vals w g f d j hp i;obtain⟨⟨f1,ao⟩,⟨f6,ar⟩,⟨f10,au⟩,⟨f14,av⟩,⟨f18,aw⟩,⟨f22,y⟩,⟨f25,ax⟩,⟨f29,ay⟩,⟨f32,z⟩,⟨f35,az⟩,⟨f39,aA⟩,-⟩:=(⟨d.1 rfl,d.2.1 rfl,d.2.2.1 rfl,d.2.2.2.1 rfl,d.2.2.2.2.1 rfl,d.2.2.2.2.2.1 rfl,d.2.2.2.2.2.2.1 rfl,d.2.2.2.2.2.2.2.1 rfl,d.2.2.2.2.2.2.2.2.1 rfl,d.2.2.2.2.2.2.2.2.2.1 rfl,d.2.2.2.2.2.2.2.2.2.2.1 rfl,d.2.2.2.2.2.2.2.2.2.2.2⟩:_/\_/\_/\_/\_/\_/\_/\_/\_/\_/\_/\_)
  have ao:g (.tmp 12)=vals 1:=ao _ rfl;have f1:vals 1=_:=f1 (y_ rfl);rw[f1] at ao;have ar:g (.tmp 17)=vals 6:=ar _ rfl;have au:g (.tmp 21)=vals 10:=au _ rfl;have av:g (.tmp 25)=vals 14:=av _ rfl;have aw:g (.tmp 29)=vals 18:=aw _ rfl;have y:g (.tmp 33)=vals 22:=y _ rfl;have ax:g (.tmp 36)=vals 25:=ax _ rfl;have f25:vals 25=_:=f25 (y_ rfl);rw[f25] at ax;have ay:g (.tmp 40)=vals 29:=ay _ rfl;have z:g (.tmp 43)=vals 32:=z _ rfl;have az:g (.tmp 46)=vals 35:=az _ rfl;have f35:vals 35=_:=f35 (y_ rfl);rw[f35] at az;have aA:g (.tmp 50)=vals 39:=aA _ rfl;obtain⟨⟨aE,m6,aF⟩,f6,bB⟩:∃h:aq,vals 6=h.v/\w.ownsRow W.heap.size zV 1 h.v (2*n+2) (z_ (2*n+2) (t_ none 0 0)):=f6 (y_ rfl);replace f6:vals 6=.slice aE m6 aF:=f6;obtain⟨⟨aG,m10,k10⟩,f10,ko⟩:∃h:aq,vals 10=h.v/\w.ownsRow W.heap.size zW 1 h.v (n+1) (z_ (n+1) (Zw .i8 0)):=f10 (y_ rfl);replace f10:vals 10=.slice aG m10 k10:=f10;obtain⟨⟨aH,m14,aI⟩,f14,bC⟩:∃h:aq,vals 14=h.v/\w.ownsRow W.heap.size 3 1 h.v (n+1) (z_ (n+1) (Zw .i64 0)):=f14 (y_ rfl);replace f14:vals 14=.slice aH m14 aI:=f14;obtain⟨⟨aJ,m18,aK⟩,f18,bD⟩:∃h:aq,vals 18=h.v/\w.ownsRow W.heap.size xT 1 h.v (n+1) (z_ (n+1) (Z6 none)):=f18 (y_ rfl);replace f18:vals 18=.slice aJ m18 aK:=f18;obtain⟨⟨aL,m22,aN⟩,f22,bE⟩:∃h:aq,vals 22=h.v/\w.ownsRow W.heap.size 3 1 h.v (n+1) (gT act):=f22 (y_ rfl);replace f22:vals 22=.slice aL m22 aN:=f22;obtain⟨⟨aO,aP,aQ⟩,f29,bF⟩:∃h:aq,vals 29=h.v/\w.ownsRow W.heap.size 3 1 h.v (n+1) (z_ (n+1) (Zw .i64 0)):=f29 (y_ rfl);replace f29:vals 29=.slice aO aP aQ:=f29;obtain⟨⟨aR,m32,aS⟩,f32,bG⟩:∃h:aq,vals 32=h.v/\w.ownsRow W.heap.size 4 1 h.v (n+1) (nR s):=f32 (y_ rfl);replace f32:vals 32=.slice aR m32 aS:=f32;obtain⟨⟨aT,aU,aV⟩,f39,bH⟩:∃h:aq,vals 39=h.v/\w.ownsRow W.heap.size 4 1 h.v (n+1) (z_ (n+1) (f_ false)):=f39 (y_ rfl);replace f39:vals 39=.slice aT aU aV:=f39;rw[f6] at ar;rw[f10] at au;rw[f14] at av;rw[f18] at aw;rw[f22] at y;rw[f29] at ay;rw[f32] at z;rw[f39] at aA;have aW:=i 6 10 (by decide) rfl rfl rfl rfl;rw[f6,f10] at aW;have aX:=i 6 14 (by decide) rfl rfl rfl rfl;rw[f6,f14] at aX;have aY:=i 6 18 (by decide) rfl rfl rfl rfl;rw[f6,f18] at aY;have a6:=i 6 22 (by decide) rfl rfl rfl rfl;rw[f6,f22] at a6;have a7:=i 6 29 (by decide) rfl rfl rfl rfl;rw[f6,f29] at a7;have a8:=i 6 32 (by decide) rfl rfl rfl rfl;rw[f6,f32] at a8;have a':=i 6 39 (by decide) rfl rfl rfl rfl;rw[f6,f39] at a';have ba:=i 10 14 (by decide) rfl rfl rfl rfl;rw[f10,f14] at ba;have bb:=i 10 18 (by decide) rfl rfl rfl rfl;rw[f10,f18] at bb;have bc:=i 10 22 (by decide) rfl rfl rfl rfl;rw[f10,f22] at bc;have bd:=i 10 29 (by decide) rfl rfl rfl rfl;rw[f10,f29] at bd;have bf:=i 10 32 (by decide) rfl rfl rfl rfl;rw[f10,f32] at bf;have bh:=i 10 39 (by decide) rfl rfl rfl rfl;rw[f10,f39] at bh;have bj:=i 14 18 (by decide) rfl rfl rfl rfl;rw[f14,f18] at bj;have bk:=i 14 22 (by decide) rfl rfl rfl rfl;rw[f14,f22] at bk;have bl:=i 14 29 (by decide) rfl rfl rfl rfl;rw[f14,f29] at bl;have bn:=i 14 32 (by decide) rfl rfl rfl rfl;rw[f14,f32] at bn;have bo:=i 14 39 (by decide) rfl rfl rfl rfl;rw[f14,f39] at bo;have bp:=i 18 22 (by decide) rfl rfl rfl rfl;rw[f18,f22] at bp;have bq:=i 18 29 (by decide) rfl rfl rfl rfl;rw[f18,f29] at bq;have br:=i 18 32 (by decide) rfl rfl rfl rfl;rw[f18,f32] at br;have bs:=i 18 39 (by decide) rfl rfl rfl rfl;rw[f18,f39] at bs;have bt:=i 22 29 (by decide) rfl rfl rfl rfl;rw[f22,f29] at bt;have bu:=i 22 32 (by decide) rfl rfl rfl rfl;rw[f22,f32] at bu;have bw:=i 22 39 (by decide) rfl rfl rfl rfl;rw[f22,f39] at bw;have bx:=i 29 32 (by decide) rfl rfl rfl rfl;rw[f29,f32] at bx;have bz:=i 29 39 (by decide) rfl rfl rfl rfl;rw[f29,f39] at bz;have bA:=i 32 39 (by decide) rfl rfl rfl rfl;rw[f32,f39] at bA;simp only[aZ,execOp,m_,l_,b_,ao,ar,au,av,aw,y,ax,ay,z,az,aA];clear i d j q r;simp[gE,go_sem];exact .same f ⟨uL ⟨aE,m6,aF⟩ ⟨aG,m10,k10⟩ ⟨aH,m14,aI⟩ ⟨aJ,m18,aK⟩ ⟨aL,m22,aN⟩ ⟨aO,aP,aQ⟩ ⟨aR,m32,aS⟩ ⟨aT,aU,aV⟩,rfl,Oh bB ko bC bD bE bF bG bH aW aX aY a6 a7 a8 a' ba bb bc bd bf bh bj bk bl bn bo bp bq br bs bt bu bw bx bz bA⟩ rfl
 ·intro vals w g f d j hp i;obtain⟨⟨f40,aB⟩,-⟩:=(⟨d.1 rfl,d.2⟩:_/\_)
  have aB:g (.tmp 51)=vals 40:=aB _ rfl;obtain⟨hs,f40,bI⟩:∃hs,vals 40=.agg (rA hs (qD n act B s E ⟨D,t,t⟩)).toArray/\l9 W.heap.size qZ nW w hs (cont hs sG (qD n act B s E ⟨D,t,t⟩)):=f40 (y_ rfl);rw[f40] at aB;simp only[aZ,execOp,aB];simp[gE,go_sem];exact .more q (bg w _) (r w _ f (bg w _)) ⟨hs,w.heap.size,rfl,aM.new w tg _,f.size,bI.below (bg w _)⟩ (λ h=>by cases h)
end
end Go.Proofs.YtogdlkfacflmaaaGreat
