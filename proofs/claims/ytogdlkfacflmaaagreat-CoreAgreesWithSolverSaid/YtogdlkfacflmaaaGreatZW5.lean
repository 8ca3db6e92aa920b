/- Parts of the walk of the solver and its core; no condition. -/
import Derived.Test.YtogdlkfacflmaaaGreatZW4
import Derived.Test.YtogdlkfacflmaaaGreatZW1
import Derived.OwnWalkIn
import Derived.TacticsInMore
import Derived.LoopNIn
import Derived.LoopIn
namespace Go.Proofs.YtogdlkfacflmaaaGreat
set_option linter.unusedVariables false
set_option linter.unusedSimpArgs false
set_option maxRecDepth 100000
set_option maxHeartbeats 4000000
open _root_.And renaming intro→z_
open _root_.Go.Proofs.Tryz renaming prog→y_
open _root_.Int renaming tdiv_eq_ediv_of_nonneg→x_,tdiv→m_
open _root_.Array renaming getElem?_eq_some_iff→w_
open _root_.List renaming length_set→v_,getElem?_eq_some_iff→u_,getElem?_map→t_,range→r_,getElem?_range→q_,length_drop→p_,take_zero→n_
open _root_.Go.IntKind renaming i64→s_,wrap_i64→o_
open _root_.Go.Value renaming slice→l_
variable{n b p base G l k bz m:Nat}{w W W':World}{K:Nat->Prop}{hs:Nat->ax}{cb:Nat->Nat}{s s1:an}{A B A' x:Int}{v:Value}
section
theorem me.len{ord pl:List Int}(O:me n ord pl):ord.length<=n:=by
 have h:=xK n (ord.map λ x=>x.toNat-1) ?_ ?_
 ·rwa[List.length_map] at h
 ·rw[List.nodup_iff_pairwise_ne,List.pairwise_iff_getElem];intro i j c d l e;rw[List.length_map] at c d;rw[List.getElem_map,List.getElem_map] at e;have a:=O.inv i c;have b:=O.inv j d;rw[nh c] at a;rw[nh d] at b;have:=O.inj c d (by rw[nh c,nh d];omega);omega
 ·intro x f;obtain⟨y,g,rfl⟩:=List.mem_map.1 f;obtain⟨k,hk,rfl⟩:=qb.1 g;have:=O.inv k hk;omega
structure pO(s:an)(xs:List Int)(j:Nat)(s1:an):Prop where
 c:s1.c={s.c with val:=zero s.c.val (xs.take j),j6:=sU s.c.j6 (xs.take j)}
 act:s1.act=s.act
 aZ:s1.aZ=s.aZ
 ci:s1.ci=s.ci
 aO:s1.aO=s.aO
 aA:s1.aA=s.aA
 aP:s1.aP=s.aP
 nl:s1.nl=s.nl
 jr:s1.jr=s.jr
 nE:s1.gN.length=s.gN.length
 oS:iU s1.gN 0=iU s.gN 0
 lR:me s.c.n s1.ord s1.pl
 yG:∀v,0<=aj s.pl v->0<=aj s1.pl v
 C7:∀x∈xs.take j,0<=aj s1.pl (aG x)
def an.vi(s:an)(x:Int):an:={s with ord:=s.ord++[x]}
def an.Fw(s:an)(x:Nat):an:={s with c:={s.c with st:=s.c.st++[x]}}
def an.uO(s:an)(x:Nat):an:={s with aO:=s.aO++[x]}
def an.uh(s:an)(v:Nat)(b:Bool):an:=((s.ud v b).oQ v 0).qA v none
section
variable {s s1:an}{xs:List Int}{j:Nat}
theorem pO.start(O:me s.c.n s.ord s.pl):pO s xs 0 s:=
 ⟨by simp[zero,sU],rfl,rfl,rfl,rfl,rfl,rfl,rfl,rfl,rfl,rfl,O,λ _ h=>h,λ x b=>by simp at b⟩
theorem yJ{xs:List Int}{j:Nat}(b:j<xs.length):xs.take (j+1)=xs.take j++[aj xs j]:=by
 rw[nh b,List.take_succ_eq_append_getElem b]
theorem Fx(h:pO s xs j s1)(d:j<xs.length)(b:Bool):(s1.uh (aG (aj xs j)) b).c={s.c with val:=zero s.c.val (xs.take (j+1)),j6:=sU s.c.j6 (xs.take (j+1))}:=by
 unfold an.uh an.ud an.oQ an.qA;dsimp only;rw[h.c,yJ d];simp[zero,sU,List.foldl_append]
theorem pO.stay(h:pO s xs j s1)(c:j<xs.length)(d:1<=aG (aj xs j))(b:Bool)(hp:0<=aj s1.pl (aG (aj xs j))):pO s xs (j+1) (s1.uh (aG (aj xs j)) b):=
 ⟨Fx h c b,h.act,h.aZ,h.ci,h.aO,h.aA,h.aP,h.nl,h.jr,by show(s1.gN.set _ _).length=_;rw[v_];exact h.nE,
  by show iU (s1.gN.set _ _) 0=_;rw[zA,if_neg (by omega)];exact h.oS,h.lR,h.yG,λ x hm=>by
   rw[yJ c] at hm;rcases List.mem_append.1 hm with hm|hm
   ·exact h.C7 x hm
   ·rw[List.mem_singleton.1 hm];exact hp⟩
theorem pO.push(h:pO s xs j s1)(b:1<=aG (aj xs j))(d:aG (aj xs j)<=s.c.n)(hp:aj s1.pl (aG (aj xs j))<0):me s.c.n (s1.ord++[(aG (aj xs j):Int)]) (s1.pl.set (aG (aj xs j)) (s1.ord.length:Int)):=h.lR.push b d hp
theorem pO.back(h:pO s xs j s1)(d:j<xs.length)(q:1<=aG (aj xs j))(r:aG (aj xs j)<=s.c.n)(b:Bool)(hp:aj s1.pl (aG (aj xs j))<0){iP:an}
   (hO:pM (((s1.uh (aG (aj xs j)) b).pJ (aG (aj xs j)) (s1.ord.length:Int)).vi (aG (aj xs j):Int)) iP):pO s xs (j+1) iP:=by
 obtain⟨o,p,he⟩:=hO.eq;have f:∀u,aj (s1.pl.set (aG (aj xs j)) (s1.ord.length:Int)) u=if aG (aj xs j)=u then (s1.ord.length:Int) else aj s1.pl u:=λ u=>by
   rw[oO]
   by_cases e:aG (aj xs j)=u
   ·rw[if_pos e,if_pos ⟨e,by rw[h.lR.su];omega⟩]
   ·rw[if_neg e,if_neg (λ k=>e k.1)]
 have g:∀u,0<=aj iP.pl u↔0<=aj (s1.pl.set (aG (aj xs j)) (s1.ord.length:Int)) u:=hO.same;have l:iP.c={s.c with val:=zero s.c.val (xs.take (j+1)),j6:=sU s.c.j6 (xs.take (j+1))}:=by rw[<-Fx h d b,he];rfl
 refine⟨l,by rw[he];exact h.act,by rw[he];exact h.aZ,by rw[he];exact h.ci,by rw[he];exact h.aO,by rw[he];exact h.aA,by rw[he];exact h.aP,by rw[he];exact h.nl,by rw[he];exact h.jr,
  by rw[he];show(s1.gN.set _ _).length=_;rw[v_];exact h.nE,
  by rw[he];show iU (s1.gN.set _ _) 0=_;rw[zA,if_neg (by omega)];exact h.oS,?_,λ v m=>?_,λ x hm=>?_⟩
 · have:=hO.lR;have e:(((s1.uh (aG (aj xs j)) b).pJ (aG (aj xs j)) (s1.ord.length:Int)).vi (aG (aj xs j):Int)).c.n=s.c.n:=by show s1.c.n=_;rw[h.c]
   rwa[e] at this
 · rw[g,f];split
   ·omega
   ·exact h.yG v m
 · rw[yJ d] at hm;rw[g,f];split
   ·omega
   ·rename_i i;rcases List.mem_append.1 hm with hm|hm
    ·exact h.C7 x hm
    ·rw[List.mem_singleton.1 hm] at i;exact absurd rfl i
def an.zU(s:an)(m level:Nat):an:={s with c:={s.c with ay:=s.c.ay.take m,st:=s.c.st.take level,ag:=m}}
theorem pO.done{level:Nat}(h:pO s (s.c.ay.drop (gV s.c.st level)) (s.c.ay.drop (gV s.c.st level)).length s1):bt level s (s1.zU (gV s.c.st level) level):=by
 have d:(s1.zU (gV s.c.st level) level).c=mC s.c level:=by
  show({s1.c with ay:=s1.c.ay.take _,st:=s1.c.st.take _,ag:=_}:Core)=_;rw[h.c,List.take_length];rfl
 refine⟨d,h.aO,h.aA,h.aP,h.nl,h.jr,h.ci,h.aZ,h.yG,λ v h1 g e=>?_⟩;rw[d] at e;have b:aj (zero s.c.val (s.c.ay.drop (gV s.c.st level))) v=0:=e;rw[yt] at b;split at b
 ·rename_i hm;obtain⟨x,f,rfl⟩:=List.mem_map.1 hm;exact Or.inr (h.C7 x (by rw[List.take_length];exact f))
 ·exact Or.inl b
theorem pO.rg{n:Nat}{A B:Int}{m level:Nat}(h:pO s xs j s1)(r:mj n A B s)(f:1<=n):mj n A B (s1.zU m level):=by
 have b:(s1.zU m level).c.cl=s.c.cl:=by show s1.c.cl=_;rw[h.c]
 refine⟨by show s1.c.n=n;rw[h.c];exact r.jt,by have:=h.lR;rwa[r.jt] at this,by show s1.act.length=_;rw[h.act];exact r.k5,λ v=>by show 0<=aj s1.act v/\aj s1.act v<=A;rw[h.act];exact r.qf v,by show aj s1.act 0=0;rw[h.act];exact r.a0,by show 1<=s1.aZ;rw[h.aZ];exact r.ru,by show s1.aZ<=A;rw[h.aZ];exact r.oH,h.nE.trans r.nE,h.oS.trans r.oS,by rw[b];show s1.ci.length=_;rw[h.ci];exact r.nF,λ d=>?_,λ d e=>?_⟩
 ·have:lF (s1.zU m level) d=lF s d:=by show s1.ci.getD d _=_;rw[h.ci];rfl
  rw[this];exact r.pZ d
 ·rw[b];exact r.kX d (by rw[<-h.aO];exact e)
end
end
section
open Go.RowKit Go.Shelf
theorem Fy:(y_.info? 164).map (λ i=>(i.zero,i.size,i.bytes))=some (some (.pointer none),1,8):=by kernel_rfl
structure ry(w:World)(A:Option Addr)(m c:Nat)(ah:List Value):Prop where
 len:ah.length=m
 cells:0<m->∃b off,A=some ⟨b,off,none⟩/\∀j u,ah[j]? =some u->w.cell? ⟨b,off+j,none⟩=some u
 ptr:∀u∈ah,∃p,u=.pointer p
theorem ry.one{p:Option Addr}(h:w.cell? ⟨b,0,none⟩=some (.pointer p)):ry w (some ⟨b,0,none⟩) 1 1 [.pointer p]:=
 ⟨rfl,λ _=>⟨b,0,rfl,λ j u c=>by
  have:j=0:=by have:=(u_.1 c).1;simpa using this
  subst this;simp only[List.getElem?_cons_zero,Option.some.injEq] at c;subst c;exact h⟩,λ u hu=>⟨p,by simpa using hu⟩⟩
theorem C8(w:World)(ty:TypeId)(base:Nat)(v:Value)(n:Nat)(xs:List Value)(f:w.ownsRow base 164 1 v n xs)
  (A:Option Addr) (m c:Nat) (e:List Value) (d:ry w A m c e) (o:(n+m)*8<=140737488355328) (q:base<=w.heap.size):
  ∃v' w',(Builtin.append_ #[160,160] ty #[v,.slice A m c]).run y_ w=.ok v' w'/\nW w base 164 v (n+m) (xs++e) v' w':=by
 obtain⟨i0,i,r,s,t⟩:=info_parts Fy
 cases A with
 |none=>
  have hm:m=0:=by
   rcases Nat.eq_zero_or_pos m with g|g
   ·exact g
   ·obtain⟨b,off,he,_⟩:=d.cells g;cases he
  subst hm;have y:e=[]:=List.eq_nil_of_length_eq_zero d.len;subst y;exact⟨v,w,CC Tryz.underlying160 w base ty i0 i v n 1 _ f c,by simpa using f,World.grownBy.refl w _,.inl rfl⟩
 |some k=>
  have z:∀j u,e[j]? =some u->w.cell? (k.add j)=some u:=by
   intro j u l;have F:j<m:=by have:=(u_.1 l).1;simpa[d.len] using this
   obtain⟨b,off,he,B⟩:=d.cells (by omega);injection he with he
   subst he;rw[Addr.add_lit];exact B j u l
  obtain⟨v',w',h1,C,D,_,E⟩:=run_append_own_at (P:=y_) w base 160 ty 164 i0 (.pointer none) 1 8 Tryz.underlying160 i r s t rfl (by decide) v n _ f k m c e (by rw[d.len,Nat.mul_one]) z (by intro u hu;obtain⟨p,rfl⟩:=d.ptr u hu;rfl) (by unfold maxLen;omega) o q;exact⟨v',w',h1,C,D,E⟩
theorem Fz{ops:Array Oper}{rest:List Oper}{o:Oper}{a:Act}{Q:Exit->Act->World->Prop}(d:o.guard=none)(s x:Operand)
  (e:o.op=.call {callee:=.builtin .append,args:= #[s,x],argTypes:= #[160,160]}) (base:Nat) (v:Value) (n:Nat) (xs:List Value) (hs:a.eval s=v) (f:w.ownsRow base 164 1 v n xs)
  (A:Option Addr) (m c:Nat) (b:List Value) (g:a.eval x=.slice A m c) (i:ry w A m c b) (j:(n+m)*8<=140737488355328) (k:base<=w.heap.size)
  (h:∀v' w',nW w base 164 v (n+m) (xs++b) v' w'->wpList y_ ops Q rest (a.put o.dst v') w'):
  wpList y_ ops Q (o::rest) a w:=by
 obtain⟨v',w',h1,l⟩:=C8 w o.type base v n xs f A m c b i j k;refine wpList_plain d λ K p=>?_
 unfold Oper.wp;simp only[execOp,e,resolve,invoke,builtin,Sem.run_bind,Sem.run_pure,Result.andThen_ok,List.map_toArray,List.map_cons,List.map_nil,hs,g,h1];exact p _ _ (h v' w' l)
section
variable {K:Nat->Prop}{base:Nat}{w bG W:World}{G:Nat}{hs:Nat->ax}{cb:Nat->Nat}{s:an}
theorem j0.xV{gj:List Value}{cls:Nat->List Value}{n:Nat}{X:Nat->List Value}(h:j0 base w G hs cb gj cls n X){r g:Nat}(f:(hs r).b=some g):(hs r).n<=(hs r).c:=by
 obtain⟨_,i⟩:=h.rows.row r;rcases i with⟨d,_⟩|⟨j,k,cur,e,_,_,l,_⟩
 ·have:=(h.rows.form f).1;unfold ax.v at d;rw[this] at d
  cases d
 ·unfold ax.v at e;injection e with _ _ e
  omega
theorem aX.J'(h:aX K base w G hs cb s){v':Value}{x:Int}(c:nW w base 3 (hs 7).v (s.ord.length+1) ((s.ord++[x]).map (Value.int .i64)) v' bG):
  ∃h':ax,v'=h'.v/\h'.n=s.ord.length+1/\bG.cell? ⟨G,10,none⟩=some (hs 7).v/\bG.frozen? ⟨G,10,none⟩=false/\aX K base (bG.setCell ⟨G,10,none⟩ v') G (iN hs 7 h') cb (s.vi x)/\aC K w (bG.setCell ⟨G,10,none⟩ v'):=by
 obtain⟨f,b,i⟩:=c;obtain⟨a1,a2⟩:=h.e.after (r:=7) (by rw[<-ax.own];exact b) 10;obtain⟨h',rfl,j,k,l,m⟩:=j0.app h.e h.s (r:=7) f b i;refine⟨h',rfl,j,by rw[a1];exact h.e.ku rfl,a2,⟨?_,l.more (kZ bG G 10 _).size⟩,m.trans (aC.set G 10 _ h.s.g)⟩;refine(k.field 10 h'.v).eq rfl rfl rfl (λ d _=>(vJ hs s (by omega) _ d).symm) rfl (λ r=>?_);rw[vI hs cb _ (by omega)]
 by_cases e:r=7
 ·subst e;rw[jG];rfl
 ·rw[bh _ _ e];simp only[cont,if_neg e,an.vi]
theorem aX.FA(h:aX K base w G hs cb s){v':Value}{x:Nat}(f:nW w base 3 (hs 5).v (s.c.st.length+1) (qc (s.c.st++[x])) v' bG):
  ∃h':ax,v'=h'.v/\h'.n=s.c.st.length+1/\bG.cell? ⟨G,6,none⟩=some (hs 5).v/\bG.frozen? ⟨G,6,none⟩=false/\aX K base (bG.setCell ⟨G,6,none⟩ v') G (iN hs 5 h') cb (s.Fw x)/\aC K w (bG.setCell ⟨G,6,none⟩ v'):=by
 obtain⟨i,b,j⟩:=f;obtain⟨a1,a2⟩:=h.e.after (r:=5) (by rw[<-ax.own];exact b) 6;obtain⟨h',rfl,k,l,m,o⟩:=j0.app h.e h.s (r:=5) i b j;refine⟨h',rfl,k,by rw[a1];exact h.e.ku rfl,a2,⟨?_,m.more (kZ bG G 6 _).size⟩,o.trans (aC.set G 6 _ h.s.g)⟩;refine(l.field 6 h'.v).eq rfl rfl rfl (λ d _=>(vJ hs s (by omega) _ d).symm) rfl (λ r=>?_);rw[vI hs cb _ (by omega)]
 by_cases e:r=5
 ·subst e;rw[jG];rfl
 ·rw[bh _ _ e];simp only[cont,if_neg e,an.Fw]
theorem aX.FB(h:aX K base w G hs cb s){v':Value}{x:Nat}(c:nW w base 164 (hs 10).v (s.aO.length+1) (kW cb (s.aO++[x])) v' bG):
  ∃h':ax,v'=h'.v/\h'.n=s.aO.length+1/\bG.cell? ⟨G,13,none⟩=some (hs 10).v/\bG.frozen? ⟨G,13,none⟩=false/\aX K base (bG.setCell ⟨G,13,none⟩ v') G (iN hs 10 h') cb (s.uO x)/\aC K w (bG.setCell ⟨G,13,none⟩ v'):=by
 obtain⟨f,b,i⟩:=c;obtain⟨a1,a2⟩:=h.e.after (r:=10) (by rw[<-ax.own];exact b) 13;obtain⟨h',rfl,j,k,l,m⟩:=j0.app h.e h.s (r:=10) f b i;refine⟨h',rfl,j,by rw[a1];exact h.e.ku rfl,a2,⟨?_,l.more (kZ bG G 13 _).size⟩,m.trans (aC.set G 13 _ h.s.g)⟩;refine(k.field 13 h'.v).eq rfl rfl rfl (λ d _=>(vJ hs s (by omega) _ d).symm) rfl (λ r=>?_);rw[vI hs cb _ (by omega)]
 by_cases e:r=10
 ·subst e;rw[jG];rfl
 ·rw[bh _ _ e];simp only[cont,if_neg e,an.uO]
end
end
section
open Go.RowKit Go.Shelf
def Ka(K:Nat->Prop)(base:Nat)(w:World)(G:Nat)(cb:Nat->Nat)(n:Nat)(A B:Int)(level:Nat)(s:an)(e:Ending)(w':World):Prop:=
 e=.returned (.tuple #[])/\∃hs' s',bt level s s'/\mj n A B s'/\aX K base w' G hs' cb s'/\aC K w w'
theorem FC(h:aX K base w G hs cb s)(r:mj n A B s)(T:jT s.c)(b9:n<=60000)(level:Nat)(hl:level<s.c.st.length)(b':s.c.st.length<=1000000)(ca:0<s.c.ay.length):
  Calls y_ 147 #[.pointer (some ⟨G,0,none⟩),.int .i64 level] w (Ka K base w G cb n A B level s):=by
 obtain⟨from_,az⟩:∃m,gV s.c.st level=m:=⟨_,rfl⟩
 have bd:from_<=s.c.ay.length:=by rw[<-az];exact T.ov level hl
 have aK:=T.len;rw[r.jt] at aK;obtain⟨g5,aL,bf,f5⟩:=h.e.lW 6 5 rfl h.e.jX (by omega);have bJ:=h.e.E9 aL hl;rw[az] at bJ;have H:=aa h;have C:=aa r;have aM:=aa T;have Y:=aa aL;have cc:¬(s.c.st.length:Int)<=(level:Int):=by omega
 have cd:(level:Int)<(s.c.st.length:Int):=by omega
 obtain⟨g4,Z,bK,f4⟩:=h.e.lW 5 4 rfl h.e.j5 (by omega);have bj:=h.e.xV Z;rw[h.e.j5] at bj;obtain⟨t,D⟩:∃t,(hs 4).c=t:=⟨_,rfl⟩
 rw[D] at bK bj;have cf:(from_:Int)<=(s.c.ay.length:Int):=by omega
 have cg:(s.c.ay.length:Int)<=(t:Int):=by omega
 have u:=aa (z_ az (z_ bd aK));have ak:=aa Z;clear h r T aL f5 f4 Z az bd aK;go_enter Tryz.func147,Tryz.ntmps147
 go_wp2_with fail
 case inr hcf=>
  generalize hm:s.c.ay.length-from_=m;have ab:=aa hm;clear hm
  go_loopw [6,7,29] (λ _ _ Q W=>∃(k:Nat)(j:Nat->ax)(s1:an),k<=m/\Q=.int .i64 k/\pO s (s.c.ay.drop from_) k s1/\aX K base W G j cb s1/\aC K w W/\∀r,r≠7->j r=hs r) (λ _ _ Q _=>m-(intOf Q).toNat)
  case atStart=>exact⟨0,hs,s,by omega,rfl,pO.start (C.o.jt▸C.o.lR),H.o,aC.refl,λ _ _=>rfl⟩
  case round=>
   obtain⟨k,j,s1,hk,rfl,al,I,hF,hH⟩:=hrel;have E:=aa I;have F:=aa hF;have i:=aa al;have L:=aa hH;clear I hF al hH
   by_cases aN:k<m
   ·have bk:(k:Int)<(m:Int):=by omega
    have aA:=aa aN;have ch:k<60000:=by have:=u.o;have:=ab.o;omega
    obtain⟨bL,bM,bN⟩:=u.o;have hm:=ab.o;have aB:from_+k<s.c.ay.length:=by omega
    have aO:k<(s.c.ay.drop from_).length:=by rw[p_];omega
    have bl:aj (s.c.ay.drop from_) k=aj s.c.ay (from_+k):=by
     rw[nh aO,nh aB,List.getElem_drop]
    have y:s1.c.ay=s.c.ay:=by rw[i.o.c]
    have ad:s.c.n=n:=C.o.jt;obtain⟨x,aD⟩:∃x,aj s.c.ay (from_+k)=x:=⟨_,rfl⟩
    have aP:gW s.c.n x:=by rw[<-aD];exact aM.o.lit _ (lZ aB)
    obtain⟨v,aE⟩:∃v:Nat,aG x=v:=⟨_,rfl⟩
    have bn:1<=v/\v<=n:=by have:=aP;unfold gW at this;rw[aE,ad] at this;exact this
    have cj: -60000<=x/\x<=60000:=by unfold aG at aE;omega
    have Z:(j 4).b=some g4:=by rw[L.o 4 (by omega)];exact ak.o
    have c1:=E.o.e.zP Z (k:=from_+k) (by rw[y];exact aB);rw[y,aD] at c1;have aQ:s1.gN.length=n+1:=i.o.nE.trans C.o.nE;have aR:s1.c.val.length=n+1:=by rw[i.o.c];show(zero s.c.val _).length=_;rw[CS,aM.o.rE,ad]
    have aT:s1.c.j6.length=n+1:=by rw[i.o.c];show(sU s.c.j6 _).length=_;rw[CT,aM.o.pH,ad]
    have bo:s1.pl.length=n+1:=by have:=i.o.lR.su;rw[ad] at this;exact this
    obtain⟨g9,ao,bO,f9⟩:=E.o.e.lW 12 9 rfl (E.o.e.j3.trans aQ) (by omega);obtain⟨g1,aq,bP,f1⟩:=E.o.e.lW 2 1 rfl (E.o.e.kj.trans aR) (by omega);obtain⟨g3,ar,bQ,f3⟩:=E.o.e.lW 4 3 rfl (E.o.e.nN.trans aT) (by omega);have d9:=E.o.e.Fa ao (k:=v) (by omega);have d1:=E.o.e.zO aq (k:=v) (by omega);have d3:=E.o.e.yB ar (k:=v) (by omega);obtain⟨pa,bp⟩:∃pa,qQ cb (mo s1.c.j6 v)=.pointer pa:=by cases mo s1.c.j6 v with|none=>exact⟨_,rfl⟩|some d=>exact⟨_,rfl⟩
    rw[bp] at d3;have bR:=f9 v;have bS:=f1 v;have bT:=f3 v;have bq:g9≠g1:=E.o.e.wO (r:=9) (r':=1) (by omega) ao aq;have br:g9≠g3:=E.o.e.wO (r:=9) (r':=3) (by omega) ao ar;have n13:g1≠g3:=E.o.e.wO (r:=1) (r':=3) (by omega) aq ar;have n19:=bq.symm;have n39:=br.symm;have n31:=n13.symm;have bg:(v:Int)<((n+1:Nat):Int):=by omega
    have aU:=aa ao;have bs:=aa aq;have bU:=aa ar;have f:=aa (z_ aD (z_ aE (z_ bl (z_ aP aO))));have M:=aa (z_ aQ (z_ aR (z_ aT (z_ bo ad))));have N:=aa bn;clear ao aq ar Z f9 f1 f3 aD aE bl aP aO aQ aR aT bo ad bn bL bM bN hm aB y bp
    go_upto_region 6 with(go_at_call 97;refine(sZ x _ (by omega) (by omega)).mono ?_;rintro e w1 ⟨rfl,rfl⟩;rw[f.o.2.1])
    go_wp2_with fail
    go_region
    generalize bV:decide (0<x)=b;have z:=((E.o.zN aU.o v b).1.xQ bs.o v 0).1.zM bU.o v none;have au:=aa (F.o.trans ((((E.o.zN aU.o v b).2.trans (((E.o.zN aU.o v b).1.xQ bs.o v 0).2.trans z.2)).trans aC.drew)));have z:fE (aX K base ((((wr.setCell ⟨g9,v,none⟩ (.bool b)).setCell ⟨g1,v,none⟩ (.int .i8 0)).setCell ⟨g3,v,none⟩ (.pointer none)).drew) G j cb (s1.uh v b)):=aa z.1.drew;have au:fE (aC K w ((((wr.setCell ⟨g9,v,none⟩ (.bool b)).setCell ⟨g1,v,none⟩ (.int .i8 0)).setCell ⟨g3,v,none⟩ (.pointer none)).drew)):=au;generalize (((wr.setCell ⟨g9,v,none⟩ (.bool b)).setCell ⟨g1,v,none⟩ (.int .i8 0)).setCell ⟨g3,v,none⟩ (.pointer none)).drew=bt at z au;clear bO bP bQ d9 d1 d3 bR bS bT bq br n13 n19 n39 n31 c1 bV;obtain⟨g8,ae,aV,f8⟩:=z.o.e.lW 11 8 rfl (z.o.e.n8.trans M.o.2.2.2.1) (by omega);have d8:=z.o.e.wP ae (k:=v) (by show v<s1.pl.length;have:=M.o.2.2.2.1;have:=N.o;omega);rw[show(s1.uh v b).pl=s1.pl from rfl] at d8;obtain⟨pv,aW⟩:∃pv,aj s1.pl v=pv:=⟨_,rfl⟩
    rw[aW] at d8;have bW:=f8 v;have bX:=aa ae;have ry:=aa aW;clear ae f8 aW
    by_cases hp:0<=pv
    ·have bu:¬pv<0:=by omega
     have aF:=aa hp;clear hp
     go_wp2_with fail
     go_roundw
     case rel=>exact⟨k+1,j,_,by have:=aA.o;omega,by go_num,(by
       have:=pO.stay (b:=b) i.o f.o.2.2.2.2 (by rw[f.o.2.2.1,f.o.1,f.o.2.1];exact N.o.1) (by rw[f.o.2.2.1,f.o.1,f.o.2.1,ry.o];exact aF.o);rw[f.o.2.2.1,f.o.1,f.o.2.1] at this;exact this),z.o,au.o,L.o⟩
     case measure=>have:=aA.o;simp[intOf];omega
    ·have bu:pv<0:=by omega
     have aF:=aa bu;clear hp;obtain⟨R,n7,S,aH⟩:∃R n7 S,j 7=⟨R,n7,S⟩:=⟨_,_,_,rfl⟩
     obtain⟨lo,aI⟩:∃lo,s1.ord.length=lo:=⟨_,rfl⟩
     have aY:n7=lo:=by have:=z.o.e.n7;rw[aH] at this;exact this.trans aI
     have aZ:bt.cell? ⟨G,10,none⟩=some (.slice R lo S):=by have:=z.o.e.ku (k:=10) (v:=(j 7).v) rfl;rw[aH,aY] at this;exact this
     have bw:lo<=n:=by have:=i.o.lR.len;rw[aI,M.o.2.2.2.2] at this;exact this
     have p:=aa (z_ aH (z_ aY (z_ aI bw)));clear aH aY aI bw
     go_wp2_with fail
     go_region
     have af:=z.o.xR bX.o v (lo:Int);have bx:=aa (au.o.trans (af.2.trans aC.drew));have af:=aa af.1.drew;generalize (bt.setCell ⟨g8,v,none⟩ (.int .i64 (lo:Int))).drew=av at af bx;clear aV d8 bW aZ;have aZ:av.cell? ⟨G,10,none⟩=some (.slice R lo S):=by have:=af.o.e.ku (k:=10) (v:=(j 7).v) rfl;rw[p.o.1,p.o.2.1] at this;exact this
     have aJ:=aa (af.o.below (bB av (.cells #[.int .i64 (v:Int)] 3)));have bz:(av.alloc (.cells #[.int .i64 (v:Int)] 3)).ownsRow base 3 1 (.slice R lo S) lo (s1.ord.map (Value.int .i64)):=by have:=aJ.o.1.e.rows.row 7;rw[p.o.1,p.o.2.1] at this;exact this
     have bY:=aa bz;have bZ:=aa aJ.o.1.e.lt;have bA:(j 7).v=.slice R lo S:=by rw[p.o.1,p.o.2.1];rfl
     have b0:=aa bA;clear bz bA
     go_upto_region 10 with(at_builtin;refine uH rfl (.tmp 78) (.tmp 80) rfl base (.slice R lo S) lo s1.ord rfl bY.o (some ⟨av.heap.size,0,none⟩) 1 1 [(v:Int)] rfl (aS.lit av [(v:Int)] 1 _ rfl rfl (by omega)) (by have:=p.o;omega) (Nat.le_of_lt bZ.o) ?_;intro v9 bG bC;obtain⟨⟨A',b1,c'⟩,b2,bD,bf,f5,O,ag⟩:=aX.J' (s:=(s1.uh v b).pJ v (lo:Int)) (x:=(v:Int)) aJ.o.1 (by rw[b0.o];rw[show((s1.uh v b).pJ v (lo:Int)).ord.length=lo from p.o.2.2.1];exact bC);obtain rfl:b1=lo+1:=bD.trans (by rw[show((s1.uh v b).pJ v (lo:Int)).ord.length=lo from p.o.2.2.1]);obtain rfl:v9=.slice A' (lo+1) c':=b2)
     have ag:=aa (bx.o.trans (aJ.o.2.trans ag));have O:fE (aX K base (bG.setCell ⟨G,10,none⟩ (.slice A' (lo+1) c')) G (iN j 7 ⟨A',lo+1,c'⟩) cb (((s1.uh v b).pJ v (lo:Int)).vi (v:Int))):=aa O;have ag:fE (aC K w (bG.setCell ⟨G,10,none⟩ (.slice A' (lo+1) c'))):=ag;generalize bG.setCell ⟨G,10,none⟩ (.slice A' (lo+1) c')=ck at O ag;clear aZ bf f5 bD bC;have ah:me s.c.n (s1.ord++[(v:Int)]) (s1.pl.set v (lo:Int)):=by
      have:=i.o.push (by rw[f.o.2.2.1,f.o.1,f.o.2.1];exact N.o.1) (by rw[f.o.2.2.1,f.o.1,f.o.2.1,M.o.2.2.2.2];exact N.o.2) (by rw[f.o.2.2.1,f.o.1,f.o.2.1,ry.o];exact aF.o);rw[f.o.2.2.1,f.o.1,f.o.2.1,p.o.2.2.1] at this;exact this
     obtain⟨iP,P⟩:∃iP,iP=((s1.uh v b).pJ v (lo:Int)).vi (v:Int):=⟨_,rfl⟩
     rw[<-P] at O;have j5:iP.c.n=n:=by rw[P];show s1.c.n=n;rw[i.o.c];exact M.o.2.2.2.2
     have ah:me iP.c.n iP.ord iP.pl:=by rw[j5,P,<-M.o.2.2.2.2];exact ah
     have a4:iP.act.length=iP.c.n+1:=by rw[j5,P];show s1.act.length=_;rw[i.o.act];exact C.o.k5
     have bE:iP.ord.length=lo+1:=by rw[P];show(s1.ord++[_]).length=_;rw[List.length_append,p.o.2.2.1];rfl
     have bF:aj iP.pl v=lo:=by rw[P];show aj (s1.pl.set v _) v=_;rw[oO,if_pos ⟨rfl,by have:=M.o.2.2.2.1;have:=N.o;omega⟩]
     obtain⟨cm,ae,aV,f8⟩:=O.o.e.lW 11 8 rfl (O.o.e.n8.trans ah.su) (by omega);rw[j5] at aV;have d8:=O.o.e.wP ae (k:=v) (by rw[ah.su,j5];have:=N.o;omega);rw[bF] at d8;have ai:=aa (z_ P (z_ j5 (z_ ah (z_ a4 bE))));clear P j5 ah a4 bE bF f8 ae
     go_wp2_with (go_at_call 187;refine(C5 O.o ai.o.2.2.1 ai.o.2.2.2.1 (by have:=ai.o.2.1;omega) lo (by have:=ai.o.2.2.2.2;omega) (by have:=ai.o.2.2.2.2;have:=p.o;omega)).mono ?_;rintro e cn ⟨rfl,bH,a6,a7,a8⟩;have a7:=aa a7;have a8:=aa a8;have a6:=aa a6)
     go_roundw
     case rel=>exact⟨k+1,_,bH,by have:=aA.o;omega,by go_num,(by
       have:=pO.back (b:=b) (iP:=bH) i.o f.o.2.2.2.2 (by rw[f.o.2.2.1,f.o.1,f.o.2.1];exact N.o.1) (by rw[f.o.2.2.1,f.o.1,f.o.2.1,M.o.2.2.2.2];exact N.o.2) (by rw[f.o.2.2.1,f.o.1,f.o.2.1,ry.o];exact aF.o);rw[f.o.2.2.1,f.o.1,f.o.2.1,p.o.2.2.1] at this;refine this ?_;rw[<-ai.o.1];exact a6.o),a7.o,ag.o.trans a8.o,λ r bI=>by rw[bh _ _ bI];exact L.o r bI⟩
     case measure=>have:=aA.o;simp[intOf];omega
   ·obtain rfl:k=m:=by omega
    have bk:¬(k:Int)<(k:Int):=by omega
    go_upto_region 12 with fail
    have l:j 4=hs 4:=L.o 4 (by omega);have q:j 5=hs 5:=L.o 5 (by omega);have y:s1.c.ay.length=s.c.ay.length:=by rw[i.o.c]
    have U:s1.c.st.length=s.c.st.length:=by rw[i.o.c]
    have a':=E.o.e.rm 5 (r:=4) (by rw[l];exact ak.o) (E.o.e.j5.trans y) rfl;have ba:=E.o.e.rm 6 (r:=5) (by rw[q];exact Y.o) (E.o.e.jX.trans U) rfl;have aw:∃v,wr.cell? ⟨G,7,none⟩=some v:=⟨_,E.o.e.ku (k:=7) rfl⟩
    obtain⟨b3,aw⟩:=aw;rw[l,D] at a';rw[q] at ba;have b4:(level:Int)<=((hs 5).c:Int):=by have:=H.o.e.xV Y.o;rw[H.o.e.jX] at this;omega
    have b5:(from_:Int)<=(t:Int):=by omega
    have b6:=E.o.e.free 5;have b7:=E.o.e.free 6;have b8:=E.o.e.free 7;have V:=E.o.Fo (g:=g4) (m:=from_) (by rw[l];exact ak.o) (by rw[y];exact u.o.2.1);have X:=V.1.Fp (g:=g5) (m:=level) (by rw[bh _ _ (by omega),q];exact Y.o) (by show level<=s1.c.st.length;rw[U];omega);have J:=X.1.Bi from_;rw[l,D,bh _ _ (show(5:Nat)≠4 by omega),q] at J;have hF:=aa (F.o.trans ((by have:=V.2;rw[l,D] at this;exact this:aC K wr _).trans ((by have:=X.2;rw[l,D,bh _ _ (show(5:Nat)≠4 by omega),q] at this;exact this:aC K _ _).trans (J.2.trans aC.drew))));have I:=aa J.1.drew;clear V X J l q y U
    go_wp2_with fail
    go_region
    go_wp2;go_end0;refine⟨rfl,_,_,?_,?_,I.o,hF.o⟩
    ·have bb:k=(s.c.ay.drop from_).length:=by rw[p_];exact ab.o.symm
     have bc:pO s (s.c.ay.drop (gV s.c.st level)) (s.c.ay.drop (gV s.c.st level)).length s1:=by rw[u.o.1,<-bb];exact i.o
     have:=bc.done;rw[u.o.1] at this;exact this
    ·exact i.o.rg (m:=from_) (level:=level) C.o (by have:=u.o;omega)
 case inl hcf=>
  subst h;generalize hm:s.c.ay.length-t=m;have ab:=aa hm;clear hm
  go_loopw [6,7,29] (λ _ _ Q W=>∃(k:Nat)(j:Nat->ax)(s1:an),k<=m/\Q=.int .i64 k/\pO s (s.c.ay.drop t) k s1/\aX K base W G j cb s1/\aC K w W/\∀r,r≠7->j r=hs r) (λ _ _ Q _=>m-(intOf Q).toNat)
  case atStart=>exact⟨0,hs,s,by omega,rfl,pO.start (C.o.jt▸C.o.lR),H.o,aC.refl,λ _ _=>rfl⟩
  case round=>
   obtain⟨k,j,s1,hk,rfl,al,I,hF,hH⟩:=hrel;have E:=aa I;have F:=aa hF;have i:=aa al;have L:=aa hH;clear I hF al hH
   by_cases aN:k<m
   ·exact absurd aN (by have:=ab.o;have:=u.o;omega)
   ·obtain rfl:k=m:=by omega
    have bk:¬(k:Int)<(k:Int):=by omega
    go_upto_region 12 with fail
    have l:j 4=hs 4:=L.o 4 (by omega);have q:j 5=hs 5:=L.o 5 (by omega);have y:s1.c.ay.length=s.c.ay.length:=by rw[i.o.c]
    have U:s1.c.st.length=s.c.st.length:=by rw[i.o.c]
    have a':=E.o.e.rm 5 (r:=4) (by rw[l];exact ak.o) (E.o.e.j5.trans y) rfl;have ba:=E.o.e.rm 6 (r:=5) (by rw[q];exact Y.o) (E.o.e.jX.trans U) rfl;have aw:∃v,wr.cell? ⟨G,7,none⟩=some v:=⟨_,E.o.e.ku (k:=7) rfl⟩
    obtain⟨b3,aw⟩:=aw;rw[l,D] at a';rw[q] at ba;have b4:(level:Int)<=((hs 5).c:Int):=by have:=H.o.e.xV Y.o;rw[H.o.e.jX] at this;omega
    have b5:(t:Int)<=(t:Int):=by omega
    have b6:=E.o.e.free 5;have b7:=E.o.e.free 6;have b8:=E.o.e.free 7;have V:=E.o.Fo (g:=g4) (m:=t) (by rw[l];exact ak.o) (by rw[y];exact u.o.2.1);have X:=V.1.Fp (g:=g5) (m:=level) (by rw[bh _ _ (by omega),q];exact Y.o) (by show level<=s1.c.st.length;rw[U];omega);have J:=X.1.Bi t;rw[l,D,bh _ _ (show(5:Nat)≠4 by omega),q] at J;have hF:=aa (F.o.trans ((by have:=V.2;rw[l,D] at this;exact this:aC K wr _).trans ((by have:=X.2;rw[l,D,bh _ _ (show(5:Nat)≠4 by omega),q] at this;exact this:aC K _ _).trans (J.2.trans aC.drew))));have I:=aa J.1.drew;clear V X J l q y U
    go_wp2_with fail
    go_region
    go_wp2;go_end0;refine⟨rfl,_,_,?_,?_,I.o,hF.o⟩
    ·have bb:k=(s.c.ay.drop t).length:=by rw[p_];exact ab.o.symm
     have bc:pO s (s.c.ay.drop (gV s.c.st level)) (s.c.ay.drop (gV s.c.st level)).length s1:=by rw[u.o.1,<-bb];exact i.o
     have:=bc.done;rw[u.o.1] at this;exact this
    ·exact i.o.rg (m:=t) (level:=level) C.o (by have:=u.o;omega)
end
section
open Go.RowKit Go.Shelf
section
variable {K:Nat->Prop}{base:Nat}{w w' W:World}{G:Nat}{hs:Nat->ax}{cb:Nat->Nat}{s:an}
theorem Bm{s:an}{d:Nat}:s.ci.getD d ⟨false,0,0⟩=lF s d:=rfl
theorem aX.zV(h:aX K base w G hs cb s){d:Nat}(b:d<s.c.cl.length):w.cell? ⟨cb d,0,none⟩=some (hs (kr d)).v/\w.cell? ⟨cb d,1,none⟩=some (.bool (lF s d).kV)/\w.cell? ⟨cb d,2,none⟩=some (.int .i64 (lF s d).bg)/\w.cell? ⟨cb d,3,none⟩=some (.int .i64 (lF s d).ac)/\∀k,w.frozen? ⟨cb d,k,none⟩=false:=by
 have:=h.e.cls d b;exact⟨by rw[this.cell];rfl,by rw[this.cell];rfl,by rw[this.cell];rfl,by rw[this.cell];rfl,λ k=>this.free k⟩
theorem aX.FD(h:aX K base w G hs cb s){d:Nat}(f:d<s.c.cl.length)(i:s.ci.length=s.c.cl.length)(x:Int):aX K base (w.setCell ⟨cb d,3,none⟩ (.int .i64 x)) G hs cb (s.wQ d x)/\aC K w (w.setCell ⟨cb d,3,none⟩ (.int .i64 x)):=by
 refine⟨⟨(h.e.JH f 3 (.int .i64 x)).eq rfl rfl rfl (λ e he=>?_) rfl (λ _=>rfl),h.s.more (kZ w (cb d) 3 _).size⟩,aC.set (cb d) 3 _ (h.s.cl d f)⟩
 by_cases b:e=d
 ·subst b;rw[jG];unfold tE;rw[Bm,Bm,zS,if_pos ⟨rfl,by omega⟩];rfl
 ·rw[bh _ _ b];unfold tE;rw[Bm,Bm,zS,if_neg (λ g=>b g.1.symm)]
theorem jb.n10(h:jb base w G hs cb s):(hs 10).n=s.aO.length:=by
 have h1:=h.rows.len 10;rw[show(cont hs cb s 10).length=s.aO.length by simp[cont,kW],show nD 10=1 from rfl] at h1;omega
theorem jb.FE(h:jb base w G hs cb s){g:Nat}(c:(hs 10).b=some g){k:Nat}(hk:k<s.aO.length):w.cell? ⟨g,k,none⟩=some (.pointer (some ⟨cb (gV s.aO k),0,none⟩)):=h.get c (by
 show(kW cb s.aO)[k]? =_;rw[vf hk];simp[kW,hk,sX])
end
theorem FF{l:List Nat}(h:k<l.length):gV l k∈l:=by rw[vf h];exact List.getElem_mem h
theorem Kb(h:l/2=p):m_ (l:Int) 2=(p:Int):=by rw[x_ (by omega)];omega
theorem wrap_small(p:Nat)(h:p<=65536):wrap64 (p:Int)=(p:Int):=by unfold wrap64;omega
theorem Kc(p:Nat)(h:p<=65536):wrap64 ((p:Int)-1)=(p:Int)-1:=by unfold wrap64;omega
theorem half_start(h:p=0\/p-1<l): -1<=(p:Int)-1/\(p:Int)-1<l:=by omega
structure zW(s:an)(A' B:Int)(k:Nat)(s1:an):Prop where
 eq:∃a,s1={s with act:=a}
 k5:s1.act.length=s.act.length
 lo:∀u,u<k->0<=aj s1.act u/\aj s1.act u<=A'
 ak:∀u,k<=u->aj s1.act u=aj s.act u
 a0:aj s1.act 0=0
structure zX(s:an)(B:Int)(s1:an):Prop where
 eq:∃a,s1={s with ci:=a}
 k5:s1.ci.length=s.ci.length
 ci:∀d,(lF s1 d).kV=(lF s d).kV/\(lF s1 d).bg=(lF s d).bg/\0<=(lF s1 d).ac/\(lF s1 d).ac<=B
def Ke(K:Nat->Prop)(base:Nat)(w:World)(G:Nat)(hs:Nat->ax)(cb:Nat->Nat)(n:Nat)(A' B:Int)(s:an)(e:Ending)(w':World):Prop:=
 e=.returned (.tuple #[])/\∃s',n5 s s'/\mj n A' B s'/\aX K base w' G hs cb s'/\aC K w w'
theorem zW.step(h:zW s A' B k s1)(hk:k<s.act.length){x:Int}(c:0<=x)(h1:x<=A')(d:k=0->x=0):zW s A' B (k+1) (s1.pW k x):=by
 have b:∀u,aj (s1.pW k x).act u=if k=u then x else aj s1.act u:=λ u=>by
  show aj (s1.act.set k x) u=_;rw[oO]
  by_cases e:k=u
  ·rw[if_pos e,if_pos ⟨e,by rw[h.k5];exact hk⟩]
  ·rw[if_neg e,if_neg (λ f=>e f.1)]
 obtain⟨a,g⟩:=h.eq;refine⟨⟨s1.act.set k x,by rw[g];rfl⟩,by show(s1.act.set k x).length=_;rw[v_];exact h.k5,λ u hu=>?_,λ u hu=>?_,?_⟩
 ·rw[b];split
  ·exact⟨c,h1⟩
  ·exact h.lo u (by omega)
 ·rw[b,if_neg (by omega)];exact h.ak u (by omega)
 ·rw[b];split
  ·exact d (by omega)
  ·exact h.a0
theorem zX.step(h:zX s B s1)(d:Nat){x:Int}(b:0<=x)(h1:x<=B):zX s B (s1.wQ d x):=by
 obtain⟨a,c⟩:=h.eq;refine⟨⟨(s1.wQ d x).ci,by rw[c];rfl⟩,by show(s1.ci.set _ _).length=_;rw[v_];exact h.k5,λ e=>?_⟩;rw[zS];have:=h.ci e;split
 ·exact⟨this.1,this.2.1,b,h1⟩
 ·exact this
theorem Kf{s2:an}(r:mj n A B s)(h1:zW s A' B s.act.length s1)(b:zX s1 B s2){x:Int}(k:1<=x)(l:x<=A'){s3:an}(i:pM (s2.vK x) s3):n5 s s3/\mj n A' B s3:=by
 obtain⟨a,rfl⟩:=h1.eq;obtain⟨c,rfl⟩:=b.eq;have q:0<=A':=by omega
 have m:mj n A' B (({({s with act:=a}:an) with ci:=c}:an).vK x):=by
  refine⟨r.jt,r.lR,h1.k5.trans r.k5,λ v=>?_,h1.a0,k,l,r.nE,r.oS,b.k5.trans r.nF,λ d=>?_,r.kX⟩
  ·rcases Nat.lt_or_ge v s.act.length with f|f
   ·exact h1.lo v f
   ·have e:=h1.ak v f;rw[JV f] at e;have t:aj a v=0:=e;show 0<=aj a v/\aj a v<=A';omega
  ·have g:=b.ci d;have j:=r.pZ d;have o:lF ({s with act:=a}:an) d=lF s d:=rfl;rw[o] at g;exact⟨g.2.2.1,g.2.2.2,by have:=g.2.1;have p:(lF (({({s with act:=a}:an) with ci:=c}:an).vK x) d).bg=(lF s d).bg:=this;rw[p];exact⟨j.2.2.1,j.2.2.2⟩⟩
 refine⟨?_,i.rg m⟩;refine n5.trans ?_ i.hk;exact⟨rfl,rfl,rfl,rfl,rfl,rfl,rfl,rfl,.refl _,b.k5,λ d=>⟨(b.ci d).1,(b.ci d).2.1⟩⟩
theorem FG(h:aX K base w G hs cb s)(r:mj n A B s)(bI:n<=60000)(bt:s.aO.length<=100000)(U:A<=4398046511104)(bJ:1<=A')(bK:A/1024<=A')(bL:0<=B)(bM:B<=4611686018427387904):
  Calls y_ 188 #[.pointer (some ⟨G,0,none⟩)] w (Ke K base w G hs cb n A' B s):=by
 have av:=r.k5;obtain⟨g6,aW,bN,f6⟩:=h.e.lW 8 6 rfl (h.e.n6.trans av) (by omega);have H:=aa h;have l:=aa r;have ah:=aa aW;have V:=aa av;clear h r aW f6 av;go_enter Tryz.func188,Tryz.ntmps188
 go_wp2_with fail
 go_loopw [2,11] (λ _ aw W=>∃(k:Nat)(s1:an),k<=n+1/\aw=.int .i64 k/\zW s A' B k s1/\aX K base W G hs cb s1/\aC K w W) (λ _ aw _=>n+1-(intOf aw).toNat)
 case atStart=>exact⟨0,s,by omega,rfl,⟨⟨_,rfl⟩,rfl,λ u hu=>by omega,λ u hu=>rfl,l.o.a0⟩,H.o,aC.refl⟩
 case round=>
  obtain⟨k,s1,hk,rfl,aY,M,hF⟩:=hrel;have E:=aa M;have F:=aa hF;have g:=aa aY;clear M hF aY
  by_cases ay:k<n+1
  ·have bu:(k:Int)<((n+1:Nat):Int):=by omega
   have bO:=E.o.e.rm 8 ah.o (E.o.e.n6.trans (g.o.k5.trans V.o)) rfl;have D:=g.o.ak k (Nat.le_refl _);have S:=l.o.qf k;have a6:=l.o.a0;have c1:=E.o.e.yC ah.o (k:=k) (by rw[g.o.k5,V.o];omega);rw[D] at c1;obtain⟨x,az⟩:∃x,aj s.act k=x:=⟨_,rfl⟩
   rw[az] at c1 S;have f6:=E.o.e.rows.free ah.o k;have O:m_ x 1024=x/1024:=x_ S.1;have Y:x/1024<=A':=by omega
   have ab:0<=x/1024:=by omega
   have Q:k=0->x/1024=0:=λ e=>by subst e;rw[az] at a6;omega
   obtain⟨y,N⟩:∃y,x/1024=y:=⟨_,rfl⟩
   rw[N] at O Y ab Q;have aA:wrap64 y=y:=by unfold wrap64;omega
   have Z:=aa (z_ ab (z_ Y (z_ Q ay)));clear D a6 az Q N ay
   go_wp2_with fail
   have I:=E.o.Bb ah.o k y;have bw:=g.o.step (k:=k) (by rw[V.o];exact Z.o.2.2.2) Z.o.1 Z.o.2.1 Z.o.2.2.1;go_roundw
   case rel=>exact⟨k+1,_,by have:=Z.o;omega,by go_num,bw,I.1,F.o.trans I.2⟩
   case measure=>have:=Z.o;simp[intOf];omega
  ·obtain rfl:k=n+1:=by omega
   obtain⟨ai,n10,aB,al⟩:∃ai n10 aB,hs 10=⟨ai,n10,aB⟩:=⟨_,_,_,rfl⟩
   obtain⟨lo,ao⟩:∃lo,s.aO.length=lo:=⟨_,rfl⟩
   have aD:s1.aO.length=lo:=by obtain⟨a,f⟩:=g.o.eq;rw[f];exact ao
   have aE:n10=lo:=by have:=E.o.e.n10;rw[al] at this;exact this.trans aD
   have bx:wr.cell? ⟨G,13,none⟩=some (.slice ai lo aB):=by have:=E.o.e.ku (k:=13) (v:=(hs 10).v) rfl;rw[al,aE] at this;exact this
   have bu:¬((n+1:Nat):Int)<((n+1:Nat):Int):=by omega
   rw[ao] at bt;have L:=aa (z_ al (z_ ao (z_ aD aE)));clear al ao aD aE ay
   go_wp2_with fail
   go_loopw [4,29] (λ _ aF W=>∃(k:Nat)(s2:an),k<=lo/\aF=.int .i64 k/\zX s1 B s2/\aX K base W G hs cb s2/\aC K w W) (λ _ aF _=>lo-(intOf aF).toNat)
   case atStart=>exact⟨0,s1,by omega,rfl,⟨⟨_,rfl⟩,rfl,λ d=>by
    obtain⟨a,f⟩:=g.o.eq;have:lF s1 d=lF s d:=by rw[f];rfl
    have ad:=l.o.pZ d;rw[this];exact⟨rfl,rfl,ad.1,ad.2.1⟩⟩,E.o,F.o⟩
   case round=>
    obtain⟨j,s2,bP,rfl,a7,M,hF⟩:=hrel;have I:=aa M;have a8:=aa hF;have J:=aa a7;clear M hF a7;have aG:s2.aO=s.aO:=by obtain⟨a,f⟩:=g.o.eq;obtain⟨b,t⟩:=J.o.eq;rw[t,f]
    have aH:s2.c.cl=s.c.cl:=by obtain⟨a,f⟩:=g.o.eq;obtain⟨b,t⟩:=J.o.eq;rw[t,f]
    have a':s2.ci.length=s2.c.cl.length:=by rw[aH,J.o.k5];obtain⟨a,f⟩:=g.o.eq;rw[f];exact l.o.nF
    by_cases aq:j<lo
    ·have bz:(j:Int)<(lo:Int):=by omega
     obtain⟨g10,U,ba,-⟩:=I.o.e.wM (r:=10) (m:=lo) (by rw[L.o.1];exact L.o.2.2.2) (by omega);rw[L.o.1] at U;have U:ai=some ⟨g10,0,none⟩:=U;subst U;have c1:=I.o.e.FE ba (k:=j) (by rw[aG,L.o.2.1];exact aq);obtain⟨d,aI⟩:∃d,gV s2.aO j=d:=⟨_,rfl⟩
     have aJ:d<s2.c.cl.length:=by rw[aH,<-aI,aG];exact l.o.kX _ (FF (by rw[L.o.2.1];exact aq))
     rw[aI] at c1;obtain⟨-,-,-,bA,f4⟩:=I.o.zV aJ;have S:=J.o.ci d;obtain⟨x,D⟩:∃x,(lF s2 d).ac=x:=⟨_,rfl⟩
     rw[D] at bA S;have f43:=f4 3;have O:m_ x 1024=x/1024:=x_ S.2.2.1;have Y:x/1024<=B:=by omega
     have ab:0<=x/1024:=by omega
     obtain⟨y,N⟩:∃y,x/1024=y:=⟨_,rfl⟩
     rw[N] at O Y ab;have aA:wrap64 y=y:=by unfold wrap64;omega
     have Z:=aa (z_ ab (z_ Y (z_ aJ (z_ a' aq))));clear S D N aq aI aJ a' f4 aG aH ba
     go_wp2_with fail
     have C:=I.o.FD Z.o.2.2.1 Z.o.2.2.2.1 y;have bB:=J.o.step d Z.o.1 Z.o.2.1;go_roundw
     case rel=>exact⟨j+1,_,by have:=Z.o;omega,by go_num,bB,C.1,a8.o.trans C.2⟩
     case measure=>have:=Z.o;simp[intOf];omega
    ·obtain rfl:j=lo:=by omega
     have bz:¬(j:Int)<(j:Int):=by omega
     clear bx;have bb:s2.aZ=s.aZ:=by obtain⟨a,f⟩:=g.o.eq;obtain⟨b,t⟩:=J.o.eq;rw[t,f]
     obtain⟨x,D⟩:∃x,s.aZ=x:=⟨_,rfl⟩
     have bc:=I.o.e.ku (k:=9) (v:=.int .i64 s2.aZ) rfl;rw[bb,D] at bc;have f9:=I.o.e.free 9;have bC:1<=x:=by rw[<-D];exact l.o.ru
     have bD:x<=A:=by rw[<-D];exact l.o.oH
     have O:m_ x 1024=x/1024:=x_ (by omega);obtain⟨y,N⟩:∃y,x/1024=y:=⟨_,rfl⟩
     have bE:0<=y/\y<=A':=by omega
     rw[N] at O;have aA:wrap64 y=y:=by unfold wrap64;omega
     clear bb D N bC bD
     go_upto_region 11 with fail
     obtain⟨z,Q⟩:∃z,(if 1<y then y else 1)=z:=⟨_,rfl⟩
     rw[Q];have bd:1<=z/\z<=A':=by rw[<-Q];split<;>omega
     have C:=I.o.Fq z;have bf:=aa (a8.o.trans C.2);have C:=aa C.1;generalize wr.setCell ⟨G,9,none⟩ (.int .i64 z)=bF at C bf;clear Q O aA bE bc f9;obtain⟨s3,T⟩:∃s3,s3=s2.vK z:=⟨_,rfl⟩
     rw[<-T] at C;have aK:me n s3.ord s3.pl:=by obtain⟨a,f⟩:=g.o.eq;obtain⟨b,t⟩:=J.o.eq;rw[T,t,f];exact l.o.lR
     have bg:s3.c.n=n:=by obtain⟨a,f⟩:=g.o.eq;obtain⟨b,t⟩:=J.o.eq;rw[T,t,f];exact l.o.jt
     have bh:s3.act.length=n+1:=by rw[T];show s2.act.length=_;obtain⟨b,t⟩:=J.o.eq;rw[t];exact g.o.k5.trans V.o
     have aL:=aK.len;obtain⟨R,ar⟩:∃R,s3.ord.length=R:=⟨_,rfl⟩
     rw[ar] at aL;obtain⟨aM,n7,aN,aP⟩:∃aM n7 aN,hs 7=⟨aM,n7,aN⟩:=⟨_,_,_,rfl⟩
     have bj:n7=R:=by have:=C.o.e.n7;rw[aP] at this;exact this.trans ar
     have bQ:bF.cell? ⟨G,10,none⟩=some (.slice aM R aN):=by have:=C.o.e.ku (k:=10) (v:=(hs 7).v) rfl;rw[aP,bj] at this;exact this
     obtain⟨p,hp⟩:∃p:Nat,R/2=p:=⟨_,rfl⟩
     have au:p<=65536/\(p=0\/p-1<R):=by omega
     have O:=Kb hp;have bR:=wrap_small p au.1;have bS:=Kc p au.1;have bk:=half_start au.2;have P:=aa (z_ hp (z_ T (z_ aK (z_ bg (z_ bh (z_ aL (z_ ar bd)))))));have bl:=aa bk;clear hp T aK bg bh aL ar bd aP bj au bk
     go_wp2_with fail
     go_loopw [5] (λ ae W=>∃(i:Int)(iP:an),ae=.int .i64 i/\ -1<=i/\i<R/\pM s3 iP/\aX K base W G hs cb iP/\aC K w W) (λ ae _=>(intOf ae+1).toNat)
     case atStart=>
      obtain⟨bn,aQ,aR,af,aS,bo,bp,nP⟩:=P.o;exact⟨(p:Int)-1,s3,rfl,bl.o.1,bl.o.2,pM.refl (by rw[af];exact aR),C.o,bf.o⟩
     case round=>
      obtain⟨i,iP,rfl,bT,bU,hO,M,hF⟩:=hrel;have bq:=aa M;have br:=aa hF;have ag:=aa hO;clear M hF hO
      by_cases bV:0<=i
      ·obtain⟨m,rfl⟩:∃m:Nat,i=m:=⟨i.toNat,by omega⟩
       have bW:wrap64 ((m:Int)-1)=(m:Int)-1:=by have:=P.o;unfold wrap64;omega
       have X:fE (me iP.c.n iP.ord iP.pl/\iP.act.length=iP.c.n+1/\iP.c.n<=65536/\m<iP.ord.length/\iP.ord.length<=65537):=aa (by
        obtain⟨bn,aQ,aR,af,aS,bo,bp,nP⟩:=P.o;have h1:=ag.o.ol;have ad:=ag.o.lR;obtain⟨o,q,bs⟩:=ag.o.eq;have bG:iP.c.n=n:=by rw[bs];exact af
        have bX:iP.act.length=n+1:=by rw[bs];exact aS
        rw[af] at ad;rw[bG];exact⟨ad,by omega,by omega,by omega,by omega⟩)
       go_wp2_with (go_at_call 194;refine(Fm bq.o X.o.1 X.o.2.1 X.o.2.2.1 m X.o.2.2.2.1 X.o.2.2.2.2).mono ?_;rintro e bY ⟨rfl,ae,aT,aU,aV⟩;have aU:=aa aU;have aV:=aa aV;have aT:=aa aT)
       go_roundw
       case rel=>exact⟨(m:Int)-1,ae,by go_num,by omega,by omega,ag.o.trans aT.o,aU.o,br.o.trans aV.o⟩
       case measure=>simp[intOf];omega
      ·have bH:i= -1:=by omega
       subst bH
       go_wp2_with fail
       go_end0;obtain⟨bn,aQ,aR,af,aS,bo,bp,nP⟩:=P.o;have:=Kf (s3:=iP) l.o (by have:=g.o;rwa[<-V.o] at this) J.o nP.1 nP.2 (by rw[<-aQ];exact ag.o);exact⟨rfl,iP,this.1,this.2,bq.o,br.o⟩
end
section
open Go.RowKit Go.Shelf
def o9(B bz m:Nat)(W W':World):Prop:=(∀v,W.cell? ⟨B,0,none⟩=some v->W'.cell? ⟨B,0,none⟩=some v)/\∀(k:Nat)(v:Value),k<m->W.cell? ⟨bz,k,none⟩=some v->W'.cell? ⟨bz,k,none⟩=some v
theorem o9.refl(B bz m:Nat)(W:World):o9 B bz m W W:=⟨λ _ h=>h,λ _ _ _ h=>h⟩
theorem o9.trans{B:Nat}{jl j9 kB:World}(h:o9 B bz m jl j9)(k:o9 B bz m j9 kB):o9 B bz m jl kB:=⟨λ v e=>k.1 v (h.1 v e),λ j v b e=>k.2 j v b (h.2 j v b e)⟩
theorem o9.FH{B:Nat}{row:Option Nat}(b:W.grownBy W' row)(h1:some B≠row)(c:some bz≠row):o9 B bz m W W':=⟨λ v h=>b.cell h h1,λ k v _ h=>b.cell h c⟩
def others(l:List Int)(u:Int):List Int:=l.filter λ y=>y !=u
theorem Kg{l:List Int}{u:Int}(hk:k<l.length):others (l.take (k+1)) u=if aj l k=u then others (l.take k) u else others (l.take k) u++[aj l k]:=by
 rw[yJ hk];unfold others;rw[List.filter_append]
 by_cases h:aj l k=u
 ·rw[if_pos h];simp[h]
 ·rw[if_neg h];simp[h]
theorem FI(l:List Int)(u:Int)(k:Nat):others (l.take k) u<+:others l u:=by
 unfold others;exact(List.take_prefix k l).filter _
theorem C9:∀args w,(callFunc 224 args).run y_ w=.ok (.enter 224 args) w:=enters_of Tryz.func224 (by kernel_rfl) rfl
theorem Kh(F:Fence)(n:Nat)(H:F.fn 224)(I:F.round=none)(R:1<=n)(l w f b bz m J:Nat)(cl:List Int)(u:Int)(hl:cl.length=m)(hm:m<=1000000)(c y:List Int->World->Prop)
  (K:∀pre (x:Int) W,c pre W->(pre++[x])<+:others cl u->YieldAt F (n-1) y_ l #[.int .i64 x] W λ e W'=>
   (e=.returned (.bool true)/\c (pre++[x]) W'/\o9 f bz m W W')\/(e=.returned (.bool false)/\y (pre++[x]) W'))
  (W:World) (c1:W.cell? ⟨w,0,none⟩=some (.pointer (some ⟨b,0,none⟩))) (c2:W.cell? ⟨f,0,none⟩=some (.int .i64 u)) (c3:W.cell? ⟨b,0,none⟩=some (.slice (some ⟨bz,0,none⟩) m J))
  (z:∀k,k<m->W.cell? ⟨bz,k,none⟩=some (.int .i64 (aj cl k))) (L:c [] W):
  CallsIn F n y_ 224 #[.func (.yield l) #[] #[],.pointer (some ⟨w,0,none⟩),.pointer (some ⟨f,0,none⟩)] W λ e W'=>(∃v,e=.returned v)/\
   ((∃ys,ys=others cl u/\c ys W')\/(∃pre,pre<+:others cl u/\y pre W')):=by
 have M:=aa z;have A:=aa hl;clear z hl;refine callsIn_of_wp Tryz.func224 rfl H ?_ I;simp only[Tryz.ntmps224,List.size_toArray,List.length_cons,List.length_nil,Nat.reduceAdd,Nat.reduceSub,Array.replicate_succ,Array.replicate_zero,List.push_toArray,List.append_toArray,List.nil_append,List.cons_append]
 gi_wp2
 gi_loopw [11] (λ i wr=>∃k:Nat,k<=m/\i=.int .i64 k/\c (others (cl.take k) u) wr/\o9 f bz m W wr) (λ i _=>m-(intOf i).toNat)
 case atStart=>exact⟨0,Nat.zero_le _,rfl,by rw[n_];exact L,o9.refl _ _ _ _⟩
 case round=>
  obtain⟨k,hk,rfl,B,j⟩:=hrel;have p:=aa B;have q:=aa j;have S:=j.1 _ c2;clear B j
  by_cases r:k<m
  ·have N:=q.o.2 k _ r (M.o k r);have s:k<cl.length:=by rw[A.o];exact r
   have d:=aa (Kg (u:=u) s);have T:s_.wrap ((k:Int)+1)=(k:Int)+1:=by rw[o_];omega
   have U:(k:Int)<(m:Int):=by omega
   have V:=aa s;obtain⟨x,C⟩:∃x,aj cl k=x:=⟨_,rfl⟩
   rw[C] at N d;clear C s
   by_cases he:x=u
   ·have O:(x !=u)=false:=by simp[he]
    have g:=aa he;clear he
    gi_wp2
    refine⟨λ _ h=>(by cases h),?_⟩
    gi_wp2
    go_roundw
    case rel=>exact⟨k+1,by omega,by go_num,by rw[d.o,if_pos g.o];exact p.o,q.o⟩
    case measure=>simp[intOf];omega
   ·have O:(x !=u)=true:=by simp[he]
    obtain⟨fn,tmps,assign,body,X,P⟩:=K _ x wr p.o (by have:=d.o;rw[if_neg he] at this;rw[<-this];exact FI _ _ _);have g:=aa he;clear he
    gi_wp2
    refine P.mono ?_;rintro e Y (⟨rfl,D,E⟩|⟨rfl,G⟩)
    ·have t:=aa D;have Q:=aa E;clear D E
     gi_wp2
     go_roundw
     case rel=>exact⟨k+1,by omega,by go_num,by rw[d.o,if_neg g.o];exact t.o,q.o.trans Q.o⟩
     case measure=>simp[intOf];omega
    ·have t:=aa G;clear G
     gi_wp2
     refine bodyPost_ret (results_none rfl _ _ _) rfl ?_;refine⟨⟨_,rfl⟩,.inr ⟨_,?_,t.o⟩⟩;have:=d.o;rw[if_neg g.o] at this;rw[<-this];exact FI _ _ _
  ·obtain rfl:k=m:=by omega
   gi_wp2
   go_end0;exact⟨⟨_,rfl⟩,.inl ⟨_,by rw[List.take_of_length_le (by rw[A.o];exact Nat.le_refl _)],p.o⟩⟩
theorem Da(p:Option Addr)(x:Int)(w:World):
  Calls y_ 183 #[.pointer p,.int .i64 x] w λ e w'=>e=.returned (.func (.func 224) #[] #[.pointer (some ⟨w.heap.size,0,none⟩),.pointer (some ⟨w.heap.size+1,0,none⟩)])/\
   w'=(w.alloc (.cells #[.pointer p] 164)).alloc (.cells #[.int .i64 x] 3):=by
 have b:∀(fn:Fn)(first cap:Array Value)(w:World),(Instr.makeFunc fn first cap).run y_ w=.ok (.func fn first cap) w:=λ _ _ _ _=>rfl
 go_enter Tryz.func183,Tryz.ntmps183
 go_wp2;go_ret;exact⟨rfl,rfl⟩
theorem Db(n:Nat)(g:1<=n)(d c b bz m f:Nat)(cl:List Int)(u:Int)(hl:cl.length=m)(hm:m<=1000000)(w:World)(c1:w.cell? ⟨d,0,none⟩=some (.pointer (some ⟨b,0,none⟩)))(c2:w.cell? ⟨c,0,none⟩=some (.int .i64 u))
  (c3:w.cell? ⟨b,0,none⟩=some (.slice (some ⟨bz,0,none⟩) m f)) (i:∀k,k<m->w.cell? ⟨bz,k,none⟩=some (.int .i64 (aj cl k))) (h1:d<w.heap.size) (j:c<w.heap.size) (o:b<w.heap.size) (q:bz<w.heap.size):
  EM Fence.wide n y_ 224 #[.pointer (some ⟨d,0,none⟩),.pointer (some ⟨c,0,none⟩)] (λ x:Int=> #[.int .i64 x]) (o9 c bz m) (λ pre x=>(pre++[x])<+:others cl u) (λ ys=>ys=others cl u) (λ pre=>pre<+:others cl u) w:=
 λ l r s W e t v=>Kh Fence.wide n trivial rfl g l d c b bz m f cl u hl hm r s t W ((e.cell (p:=⟨d,0,none⟩) h1).trans c1) ((e.cell (p:=⟨c,0,none⟩) j).trans c2) ((e.cell (p:=⟨b,0,none⟩) o).trans c3)
  (λ k hk=>(e.cell (p:=⟨bz,k,none⟩) q).trans (i k hk)) v
section
variable {base:Nat}{w w':World}{G:Nat}{hs:Nat->ax}{cb:Nat->Nat}{gj:List Value}{cls:Nat->List Value}{n:Nat}{X:Nat->List Value}{K:Nat->Prop}{s:an}
theorem j0.uP(h:j0 base w G hs cb gj cls n X){row:Option Nat}(i:w.grownBy w' row)(l:∀r,row=some r->∃o:Obj,w.heap[r]? =some o/\o.isCells=false):j0 base w' G hs cb gj cls n X:=by
 have f:∀b (t:TypeId) (cs:List Value),aN w b t cs->some b≠row:=λ b t cs f e=>by
  obtain⟨o,c,j⟩:=l b e.symm;have:w.heap[b]? =_:=f;rw[this] at c;cases c;cases j
 refine⟨h.box.kept i (f _ _ _ h.box),h.rows.kept i (λ r g m e=>?_),λ d p=>(h.cls d p).kept i (f _ _ _ (h.cls d p)),h.inj,h.q7,h.rL⟩;obtain⟨o,c,j⟩:=l g e;rcases(h.rows.row r).2 with⟨k,_⟩|⟨s,cap,cur,k,_,q,_⟩
 ·have:(hs r).v.ownBlock=some g:=by rw[ax.own];exact m
  rw[k] at this;cases this
 ·have:(hs r).v.ownBlock=some g:=by rw[ax.own];exact m
  rw[k] at this
  cases this
  rw[q] at c;cases c;cases j
theorem aX.uP(h:aX K base w G hs cb s){row:Option Nat}(b:w.grownBy w' row)(c:∀r,row=some r->∃o:Obj,w.heap[r]? =some o/\o.isCells=false):aX K base w' G hs cb s:=
 ⟨h.e.uP b c,h.s.more b.size⟩
end
end
section
open Go.RowKit Go.Shelf
structure oT(jY:Nat)(W:World)(ds:List Nat):Prop where
 ng:ds.Nodup
 kC:∀D∈ds,jY<=D/\W.heap[D]? =some (.deferred (some []))
section
variable {jY:Nat}{W W':World}{ds:List Nat}{row:Option Nat}
theorem oT.lt(h:oT jY W ds){D:Nat}(b:D∈ds):D<W.heap.size:=(w_.1 (h.kC D b).2).1
theorem oT.kept(h:oT jY W ds)(c:W.grownBy W' row)(d:∀D∈ds,some D≠row):oT jY W' ds:=
 ⟨h.ng,λ D b=>⟨(h.kC D b).1,(c.block D (h.lt b) (d D b)).trans (h.kC D b).2⟩⟩
theorem oT.below(h:oT jY W ds)(c:Below W.heap.size W W'):oT jY W' ds:=⟨h.ng,λ D b=>⟨(h.kC D b).1,(c.block D (h.lt b)).trans (h.kC D b).2⟩⟩
theorem oT.cons(h:oT jY W ds){D:Nat}(c:jY<=D)(hm:W.heap[D]? =some (.deferred (some [])))(d:D∉ds):oT jY W (D::ds):=
 ⟨List.nodup_cons.2 ⟨d,h.ng⟩,λ E b=>by exact(List.mem_cons.1 b).elim (λ e=>by subst e;exact⟨c,hm⟩) (λ b=>h.kC E b)⟩
theorem oT.Ki(h:oT jY W ds)(c:W.grownBy W' row)(d:∀r,row=some r->∃cs t b,W.heap[r]? =some (.cells cs t b)):oT jY W' ds:=
 h.kept c (λ D f e=>by obtain⟨cs,t,b,h1⟩:=d D e.symm;rw[(h.kC D f).2] at h1;cases h1)
end
theorem Bn{t:TypeId}{cs:List Value}(h:aN w b t cs):∃cs t c,w.heap[b]? =some (.cells cs t c):=⟨_,_,_,h⟩
theorem vj{e:TypeId}{size:Nat}{xs:List Value}(h:w.ownsRow base e size v n xs){g:Nat}(b:v.ownBlock=some g):∃cs,w.heap[g]? =some (.cells cs e (0,0)):=by
 rcases h.2 with⟨c,_⟩|⟨f,cap,cur,c,_,d,_⟩
 ·rw[c] at b;cases b
 ·rw[c] at b;cases b;exact⟨_,d⟩
theorem lY.block{S:List Int}(h:lY w b n S):∃es clock,w.heap[b]? =some (.map es clock):=by
 obtain⟨D,⟨es,clock,h1,c⟩,d⟩:=h;exact⟨es,clock,h1⟩
theorem Dc(w:World)(base:Nat)(b:List Int)(n:Nat)(c:b.length=n)(d:base<=w.heap.size)(hm:n<=1000):(w.alloc (.cells (iY b).toArray 3)).ownsRow base 3 1 (.slice (some ⟨w.heap.size,0,none⟩) n n) n (iY b):=by
 subst c;have:=World.ownsRow_lit (base:=base) (e:=3) (size:=1) w (iY b).toArray b.length d (by unfold maxLen;omega) (by simp[iY]);simpa[iY] using this
structure pP(w W:World)(G aH bt bm m:Nat)(S:List Int)(A:Option Addr)(n c:Nat)(out:List Int)(ds:List Nat):Prop where
 below:Below w.heap.size w W
 p5:aN W aH 115 [.pointer (some ⟨G,0,none⟩)]
 qi:aN W bt 114 [.map (some bm)]
 set:lY W bm m S
 row:W.ownsRow w.heap.size 3 1 (.slice A n c) n (iY out)
 uQ:oT w.heap.size W ds
 lm:w.heap.size<=bm
 gP:w.heap.size<=aH
 lu:w.heap.size<=bt
section
variable {w W W':World}{G aH bt bm m:Nat}{S:List Int}{A:Option Addr}{n c:Nat}{out:List Int}{ds:List Nat}
theorem pP.len(h:pP w W G aH bt bm m S A n c out ds):out.length=n:=by have:=h.row.1;simpa[iY] using this
theorem pP.grow(h:pP w W G aH bt bm m S A n c out ds)(b:Below W.heap.size W W'):pP w W' G aH bt bm m S A n c out ds:=
 ⟨h.below.trans (b.mono h.below.size),h.p5.below b,h.qi.below b,h.set.below b h.set.lt,nc h.row b,h.uQ.below b,h.lm,h.gP,h.lu⟩
theorem pP.uP(h:pP w W G aH bt bm m S A n c out ds){B:Nat}{row:Option Nat}(d:W.grownBy W' row)(f:∀r,row=some r->B<=r/\∃o:Obj,W.heap[r]? =some o/\o.isCells=false)(y:w.heap.size<=B)(hm:bm<B)(l:∀D∈ds,D<B):pP w W' G aH bt bm m S A n c out ds:=by
 have i:∀b,(∃cs t j,W.heap[b]? =some (.cells cs t j))->some b≠row:=λ b ⟨cs,t,j,p⟩ e=>by
  obtain⟨_,o,k,q⟩:=f b e.symm;rw[p] at k;cases k;cases q
 refine⟨h.below.grown d h.below.size (λ g e=>by have:=(f g e).1;omega),h.p5.kept d (i _ (Bn h.p5)),h.qi.kept d (i _ (Bn h.qi)),h.set.kept d (λ e=>by have:=(f bm e.symm).1;omega),h.row.kept d ?_,h.uQ.kept d (λ D s e=>by have:=(f D e.symm).1;have:=l D s;omega),h.lm,h.gP,h.lu⟩
 cases u:(l_ A n c).ownBlock with
 |none=>exact .inl rfl
 |some g=>
  obtain⟨cs,v⟩:=vj h.row u;exact .inr (i g ⟨_,_,_,v⟩)
theorem pP.put(h:pP w W G aH bt bm m S A n c out ds){lS:Nat}{oI:List Int}(hs:lY W' bm lS oI)(d:W.grownBy W' (some bm)):pP w W' G aH bt bm lS oI A n c out ds:=by
 obtain⟨es,cl,hm⟩:=h.set.block;have f:∀b,(∃cs t i,W.heap[b]? =some (.cells cs t i))->some b≠some bm:=λ b ⟨cs,t,i,j⟩ e=>by
  injection e with e;subst e;rw[j] at hm;cases hm
 refine⟨h.below.grown d h.below.size (λ g e=>by cases e;exact h.lm),h.p5.kept d (f _ (Bn h.p5)),h.qi.kept d (f _ (Bn h.qi)),hs,h.row.kept d ?_,h.uQ.kept d (λ D k e=>by injection e with e;subst e;rw[(h.uQ.kC D k).2] at hm;cases hm),h.lm,h.gP,h.lu⟩
 cases l:(l_ A n c).ownBlock with
 |none=>exact .inl rfl
 |some g=>
  obtain⟨cs,o⟩:=vj h.row l;exact .inr (f g ⟨_,_,_,o⟩)
theorem pP.app(h:pP w W G aH bt bm m S A n c out ds){x:Int}{v':Value}(i:nW W w.heap.size 3 (.slice A n c) (n+1) ((out++[x]).map (Value.int .i64)) v' W'):∃A' c',v'=.slice A' (n+1) c'/\pP w W' G aH bt bm m S A' (n+1) c' (out++[x]) ds:=by
 obtain⟨f,b,_⟩:=i;obtain⟨A',c',rfl⟩:=EI f;have d:∀r,(l_ A n c).ownBlock=some r->∃cs,W.heap[r]? =some (.cells cs 3 (0,0)):=λ r e=>vj h.row e
 refine⟨A',c',rfl,h.below.grown b h.below.size (λ g e=>(h.row.lt g e).1),h.p5.kept b (λ e=>?_),h.qi.kept b (λ e=>?_),h.set.kept b (λ e=>?_),f,h.uQ.Ki b (λ r e=>by obtain⟨cs,h1⟩:=d r e;exact⟨_,_,_,h1⟩),h.lm,h.gP,h.lu⟩
 ·obtain⟨cs,h1⟩:=d aH e.symm;rw[show W.heap[aH]? =_ from h.p5] at h1;simp at h1
 ·obtain⟨cs,h1⟩:=d bt e.symm;rw[show W.heap[bt]? =_ from h.qi] at h1;simp at h1
 ·obtain⟨cs,h1⟩:=d bm e.symm;obtain⟨es,cl,j⟩:=h.set.block;rw[j] at h1;cases h1
theorem pP.mark(h:pP w W G aH bt bm m S A n c out ds){D:Nat}(b:w.heap.size<=D)(hm:W.heap[D]? =some (.deferred (some [])))(d:∀E∈ds,E<D):pP w W G aH bt bm m S A n c out (D::ds):=
 ⟨h.below,h.p5,h.qi,h.set,h.row,h.uQ.cons b hm (λ e=>by have:=d D e;omega),h.lm,h.gP,h.lu⟩
end
end
section
open Go.RowKit Go.Shelf
section
variable {base:Nat}{w w':World}{G:Nat}{hs:Nat->ax}{cb:Nat->Nat}{gj:List Value}{cls:Nat->List Value}{n:Nat}{X:Nat->List Value}
theorem j0.off(h:j0 base w G hs cb gj cls n X){row:Option Nat}(c:w.grownBy w' row)(f:∀g,row=some g->g≠G/\(∀r,(hs r).b≠some g)/\∀d,d<n->cb d≠g):j0 base w' G hs cb gj cls n X:=
 ⟨h.box.kept c (λ e=>(f G e.symm).1 rfl),h.rows.kept c (λ r g j e=>(f g e).2.1 r j),λ d i=>(h.cls d i).kept c (λ e=>(f _ e.symm).2.2 d i rfl),h.inj,h.q7,h.rL⟩
theorem mc.others{l7:Type}{ty:l7->TypeId}{nY:l7->Nat}{ls:l7->ax}{Y:l7->List Value}(h:mc base ty nY w ls Y){K:Nat->Prop}(f:aC K w w')(hk:∀r g,(ls r).b=some g->K g):mc base ty nY w' ls Y:=
 ⟨λ r=>pL (h.row r) (λ b c=>f.keep b (hk r b (by rw[<-ax.own];exact c))),h.apart⟩
theorem mc.FJ{l7:Type}{ty:l7->TypeId}{nY:l7->Nat}{ls:l7->ax}{Y:l7->List Value}(h:mc base ty nY w ls Y){r:l7}{g:Nat}(d:(ls r).b=some g){o:Obj}(c:w.heap[g]? =some o):o.isCells=true:=by
 obtain⟨cs,e⟩:=vj (h.row r) (g:=g) (by rw[ax.own];exact d);rw[e] at c;cases c;rfl
end
def xW(r:Nat):TypeId:=if r=0 then 115 else if r=1 then 25 else if r=2 then 25 else if r=4 then 170 else if r=7 then 114 else if r=8 then 129 else if r=10 then 164 else 3
structure lz(K:Nat->Prop)(base:Nat)(w W:World)(G:Nat)(hs:Nat->ax)(cb:Nat->Nat)(s:an)(ls:Nat->ax)(X:Nat->List Value):Prop where
 gH:aX (λ b=>K b\/∃r,(ls r).b=some b) base W G hs cb s
 rows:mc w.heap.size xW (λ _=>1) W ls X
 iR:aC K w W
 kl:∀b,K b->b<w.heap.size
def om(B:Nat):ax:=⟨some ⟨B,0,none⟩,1,1⟩
section
variable {K:Nat->Prop}{base:Nat}{w W W':World}{G:Nat}{hs hs':Nat->ax}{cb r0:Nat->Nat}{s s':an}{ls:Nat->ax}{X:Nat->List Value}
theorem KeepsOthers.below{A B:World}(h:Below A.heap.size A B):KeepsOthers A B:=⟨h.size,λ k o hk _=>(h.block k (w_.1 hk).1).trans hk⟩
theorem KeepsOthers.grown{A B:World}{row:Option Nat}(h:A.grownBy B row)(c:∀g,row=some g->∃cs t b,A.heap[g]? =some (.cells cs t b)):KeepsOthers A B:=
 ⟨h.size,λ k o hk d=>(h.block k (w_.1 hk).1 (λ e=>by obtain⟨cs,t,b,h1⟩:=c k e.symm;rw[h1] at hk;cases hk;cases d)).trans hk⟩
theorem lz.call(h:lz K base w W G hs cb s ls X):aX (λ b=>(K b\/∃r,(ls r).b=some b)\/∃o:Obj,W.heap[b]? =some o/\o.isCells=false) base W G hs cb s:=by
 refine⟨h.gH.e,⟨λ b c=>?_,λ c=>?_,λ r b j c=>?_,λ d k c=>?_⟩⟩
 ·rcases c with c|⟨o,f,_⟩
  ·exact h.gH.s.lt b c
  ·exact(w_.1 f).1
 ·rcases c with c|⟨o,f,i⟩
  ·exact h.gH.s.g c
  ·have h1:W.heap[G]? =_:=h.gH.e.box;rw[h1] at f;cases f;cases i
 ·rcases c with c|⟨o,f,i⟩
  ·exact h.gH.s.row r b j c
  ·rw[h.gH.e.rows.FJ j f] at i;cases i
 ·rcases c with c|⟨o,f,i⟩
  ·exact h.gH.s.cl d k c
  ·have h1:W.heap[cb d]? =_:=h.gH.e.cls d k;rw[h1] at f;cases f;cases i
theorem lz.back(h:lz K base w W G hs cb s ls X)(e:aX (λ b=>(K b\/∃r,(ls r).b=some b)\/∃o:Obj,W.heap[b]? =some o/\o.isCells=false) base W' G hs' r0 s')(f:aC (λ b=>(K b\/∃r,(ls r).b=some b)\/∃o:Obj,W.heap[b]? =some o/\o.isCells=false) W W'):
  lz K base w W' G hs' r0 s' ls X/\KeepsOthers W W':=
 ⟨⟨e.Bc (λ b c=>.inl c),h.rows.others f (λ r g d=>.inl (.inr ⟨r,d⟩)),h.iR.trans (f.mono (λ b c=>.inl (.inl c))),h.kl⟩,f.size,λ k o hk i=>(f.keep k (.inr ⟨o,hk,i⟩)).trans hk⟩
theorem lz.grow(h:lz K base w W G hs cb s ls X)(c:Below W.heap.size W W'):lz K base w W' G hs cb s ls X:=
 ⟨(h.gH.below c).1,h.rows.below c,h.iR.trans ((h.gH.below c).2.mono (λ b hk=>.inl hk)),h.kl⟩
theorem lz.drew(h:lz K base w W G hs cb s ls X):lz K base w W.drew G hs cb s ls X:=h.grow ((Below.refl _ W).drew)
theorem lz.uP(h:lz K base w W G hs cb s ls X){row:Option Nat}(c:W.grownBy W' row)(d:∀r,row=some r->w.heap.size<=r/\∃o:Obj,W.heap[r]? =some o/\o.isCells=false):lz K base w W' G hs cb s ls X:=
 ⟨h.gH.uP c (λ r e=>(d r e).2),h.rows.kept c (λ r g j e=>by obtain⟨_,o,k,i⟩:=d g e;rw[h.rows.FJ j k] at i;cases i),
  h.iR.trans (aC.grown c (λ b f=>h.gH.s.lt b (.inl f)) (λ b e f=>by have:=(d b e).1;have:=h.kl b f;omega)),h.kl⟩
theorem lz.iT(h:lz K base w W G hs cb s ls X){r:Nat}{h':ax}{ys:List Value}(f:W.grownBy W' (ls r).b)(l:W'.ownsRow w.heap.size (xW r) 1 h'.v h'.n ys)(m:h'.b=(ls r).b\/∀g,h'.b=some g->W.heap.size<=g):
  lz K base w W' G hs cb s (iN ls r h') (iN X r ys)/\KeepsOthers W W':=by
 have p:∀g,(ls r).b=some g->w.heap.size<=g/\g<W.heap.size:=λ g e=>h.rows.lt e
 have q:∀g,(ls r).b=some g->g≠G/\(∀r',(hs r').b≠some g)/\∀d,d<s.c.cl.length->cb d≠g:=λ g e=>by
  refine⟨λ i=>?_,λ r' i=>?_,λ d j i=>?_⟩
  ·subst i;exact h.gH.s.g (.inr ⟨r,e⟩)
  ·exact h.gH.s.row r' g i (.inr ⟨r,e⟩)
  ·subst i;exact h.gH.s.cl d j (.inr ⟨r,e⟩)
 have t:=h.gH.e.off f q;refine⟨⟨⟨t,?_⟩,h.rows.iT (r:=r) f l m,h.iR.trans (aC.grown f (λ b hk=>h.gH.s.lt b (.inl hk)) (λ b e hk=>by have:=(p b e).1;have:=h.kl b hk;omega)),h.kl⟩,
  KeepsOthers.grown f (λ g e=>by obtain⟨cs,u⟩:=vj (h.rows.row r) (g:=g) (by rw[ax.own];exact e);exact⟨_,_,_,u⟩)⟩
 have k:∀b,(∃r',(iN ls r h' r').b=some b)->(∃r',(ls r').b=some b)\/(W.heap.size<=b/\h'.b=some b):=λ b ⟨r',e⟩=>by
  by_cases o:r'=r
  ·subst o;rw[jG] at e;rcases m with h1|h1
   ·exact .inl ⟨r',by rw[<-h1];exact e⟩
   ·exact .inr ⟨h1 b e,e⟩
  ·rw[bh _ _ o] at e;exact .inl ⟨r',e⟩
 have y:∀b,h'.b=some b->b<W'.heap.size:=λ b e=>(AP l (g:=b) (by rw[ax.own];exact e)).2
 refine⟨λ b hk=>?_,λ hk=>?_,λ r' b e hk=>?_,λ d j hk=>?_⟩
 ·rcases hk with hk|hk
  ·exact Nat.lt_of_lt_of_le (h.gH.s.lt b (.inl hk)) f.size
  ·rcases k b hk with hk|⟨_,hk⟩
   ·exact Nat.lt_of_lt_of_le (h.gH.s.lt b (.inr hk)) f.size
   ·exact y b hk
 ·rcases hk with hk|hk
  ·exact h.gH.s.g (.inl hk)
  ·rcases k G hk with hk|⟨hk,_⟩
   ·exact h.gH.s.g (.inr hk)
   ·have:=h.gH.e.box.lt;omega
 ·rcases hk with hk|hk
  ·exact h.gH.s.row r' b e (.inl hk)
  ·rcases k b hk with hk|⟨hk,_⟩
   ·exact h.gH.s.row r' b e (.inr hk)
   ·have:=(h.gH.e.rows.lt e).2;omega
 ·rcases hk with hk|hk
  ·exact h.gH.s.cl d j (.inl hk)
  ·rcases k _ hk with hk|⟨hk,_⟩
   ·exact h.gH.s.cl d j (.inr hk)
   ·have:=(h.gH.e.cls d j).lt;omega
theorem lz.fresh(h:lz K base w W G hs cb s ls X){r:Nat}{h':ax}{ys:List Value}(c:Below W.heap.size W W')(d:W'.ownsRow w.heap.size (xW r) 1 h'.v h'.n ys)(e:∀g,h'.b=some g->W.heap.size<=g):
  lz K base w W' G hs cb s (iN ls r h') (iN X r ys):=
 (h.iT (r:=r) (h':=h') (ys:=ys) ⟨c.os,c.tape,c.output,c.size,λ k hk _=>c.block k hk⟩ d (.inr e)).1
theorem lz.box(h:lz K base w W G hs cb s ls X)(r:Nat)(v:Value):lz K base w (W.alloc (.cells #[v] (xW r))) G hs cb s (iN ls r (om W.heap.size)) (iN X r [v]):=
 h.fresh (bB W _) (by
  have:=World.ownsRow_lit (base:=w.heap.size) (e:=xW r) (size:=1) W #[v] 1 h.iR.size (by unfold maxLen;omega) (by simp);simpa[om,ax.v] using this) (λ g e=>by cases e;exact Nat.le_refl _)
theorem lz.set(h:lz K base w W G hs cb s ls X){r g:Nat}(c:(ls r).b=some g)(k:Nat)(v:Value):lz K base w (W.setCell ⟨g,k,none⟩ v) G hs cb s ls (iN X r ((X r).set k v))/\KeepsOthers W (W.setCell ⟨g,k,none⟩ v):=by
 have e:=h.rows.set c k v;have f:W.grownBy (W.setCell ⟨g,k,none⟩ v) (ls r).b:=by rw[c];exact kZ W g k v
 have i:iN ls r (ls r)=ls:=by funext r';unfold iN;split<;>simp_all
 have d:=e.row r;rw[jG] at d;have:=h.iT (r:=r) (h':=ls r) (ys:=(X r).set k v) f d (.inl rfl);rw[i] at this;exact this
theorem lz.kC(h:lz K base w W G hs cb s ls X){r g:Nat}(c:(ls r).b=some g){k:Nat}{v:Value}(d:(X r)[k]? =some v):W.cell? ⟨g,k,none⟩=some v/\W.frozen? ⟨g,k,none⟩=false:=by
 refine⟨?_,h.rows.free c k⟩;have hk:k<(ls r).n*1:=by rw[<-h.rows.len r];exact(u_.1 d).1
 rw[h.rows.cell c hk,d]
theorem lz.lt(h:lz K base w W G hs cb s ls X){r g:Nat}(c:(ls r).b=some g):w.heap.size<=g/\g<W.heap.size:=h.rows.lt c
theorem lz.start(h:aX K base w G hs cb s):lz K base w w G hs cb s (λ _=>sQ) (λ _=> []):=
 ⟨h.Bc (λ b c=>by rcases c with c|⟨r,e⟩;exact c;cases e),⟨λ r=>World.ownsRow_nil _ _ _ _,λ r r' g _ e=>by cases e⟩,aC.refl,h.s.lt⟩
theorem lz.off(h:lz K base w W G hs cb s ls X){r g:Nat}(e:(ls r).b=some g):g≠G/\(∀r',(hs r').b≠some g)/\∀d,d<s.c.cl.length->cb d≠g:=
 ⟨λ f=>by subst f;exact h.gH.s.g (.inr ⟨r,e⟩),λ r' f=>h.gH.s.row r' g f (.inr ⟨r,e⟩),λ d i f=>by subst f;exact h.gH.s.cl d i (.inr ⟨r,e⟩)⟩
end
theorem oT.others{jY:Nat}{ds:List Nat}(h:oT jY W ds)(k:KeepsOthers W W'):oT jY W' ds:=⟨h.ng,λ D b=>⟨(h.kC D b).1,k.same D _ (h.kC D b).2 rfl⟩⟩
end
section
open Go.RowKit Go.Shelf
def FK(K:Nat->Prop)(base:Nat)(w:World)(G:Nat)(hs:Nat->ax)(cb:Nat->Nat)(n:Nat)(B:Int)(s:an)(e:Ending)(w':World):Prop:=
 e=.returned (.tuple #[])/\∃s',n5 s s'/\mj n jw B s'/\aX K base w' G hs cb s'/\aC K w w'
theorem Bo(b:0<=x)(h1:x<=4611686018427387904):wrap64 x=x:=by unfold wrap64;omega
theorem Kj(h:aX K base w G hs cb s)(r:mj n jw B s)(ad:n<=60000)(ae:s.aO.length<=100000)(af:0<=B)(ag:B<=4611686018427387904)(v:Nat)(ah:1<=v/\v<=n):
  Calls y_ 184 #[.pointer (some ⟨G,0,none⟩),.int .i64 v] w (FK K base w G hs cb n B s):=by
 obtain⟨g6,D,ai,f6⟩:=h.e.lW 8 6 rfl (h.e.n6.trans r.k5) (by omega);have R:=h.e.yC D (k:=v) (by rw[r.k5];omega);have ak:=f6 v;obtain⟨x,E⟩:∃x,aj s.act v=x:=⟨_,rfl⟩
 obtain⟨y,F⟩:∃y,s.aZ=y:=⟨_,rfl⟩
 have S:=h.e.ku (k:=9) (v:=.int .i64 s.aZ) rfl;rw[F] at S;rw[E] at R;have T:0<=x/\x<=jw:=by rw[<-E];exact r.qf v
 have U:1<=y/\y<=jw:=by rw[<-F];exact⟨r.ru,r.oH⟩
 obtain⟨z,al⟩:∃z,x+y=z:=⟨_,rfl⟩
 have H:0<=z/\z<=2199023255552:=by unfold jw at T U;omega
 have W:wrap64 z=z:=Bo H.1 (by omega);have au:s_.wrap z=z:=by rw[o_];unfold wrap64 at W;omega
 have bg:(v:Int)<(n:Int)+1:=by omega
 have ao:=aa h;have I:=aa r;have J:=aa D;have V:=aa ah;have Z:=aa H;clear h r D f6 E F T U H;go_enter Tryz.func184,Tryz.ntmps184
 go_wp2_with fail
 refine wp_region_still_tail 13 (by kernel_rfl) (by kernel_rfl) ?_;simp only[List.take_succ_cons,n_,List.drop_succ_cons,List.drop_zero]
 iterate 13 still_step
 refine wpStill_nil ?_;change wpList _ _ _ _ _ w.drew
 go_upto_region 1 with fail
 have d:=ao.o.Bb J.o v z;have L:=aa (d.2.trans aC.drew);have d:=aa d.1.drew;generalize (w.setCell ⟨g6,v,none⟩ (.int .i64 z)).drew=w1 at d L;have M:fE (mj n 2199023255552 B (s.pW v z)):=aa (I.o.act (by unfold jw;omega) V.o.1 Z.o.1 Z.o.2);have Y:=d.o.e.rm 8 J.o (d.o.e.n6.trans M.o.k5) rfl;have N:=d.o.e.yC J.o (k:=v) (by rw[M.o.k5];have:=V.o;omega);have ab:aj (s.pW v z).act v=z:=by show aj (s.act.set v z) v=z;rw[oO,if_pos ⟨rfl,by rw[I.o.k5];have:=V.o;omega⟩]
 rw[ab] at N;clear ai R S ak W ab al
 by_cases av:1099511627776<z
 ·go_upto_region 3 with(go_at_call 188;refine(FG (A:=2199023255552) (A':=jw) d.o M.o ad ae (by omega) (by unfold jw;omega) (by unfold jw;omega) af ag).mono ?_;rintro e aw ⟨rfl,s2,i,b,c,j⟩;have c:=aa c;have j:=aa (L.o.trans j);have i:=aa ((n5.act s v z).trans i);have b:=aa b)
  clear Y N;have l:=b.o.lR.su;obtain⟨g8,t,aq,f8⟩:=c.o.e.lW 11 8 rfl (c.o.e.n8.trans l) (by omega);have d8:=c.o.e.wP t (k:=v) (by rw[l];have:=V.o;omega);obtain⟨pv,f⟩:∃pv,aj s2.pl v=pv:=⟨_,rfl⟩
  rw[f] at d8;have u:0<=pv->pv<s2.ord.length:=λ O=>by rw[<-f];exact(b.o.lR.o v V.o.1 V.o.2 (by rw[f];exact O)).1
  have C:=b.o.lR.len;have X:=aa (z_ u C);clear l t f8 f u C
  by_cases hp:0<=pv
  ·have P:(v:Int)<((n+1:Nat):Int):=by have:=V.o;omega
   obtain⟨p,rfl⟩:∃p:Nat,pv=p:=⟨pv.toNat,by omega⟩
   go_wp2_with (go_at_call 187;refine(C5 c.o (by have:=b.o.lR;rw[b.o.jt];exact this) (by rw[b.o.k5,b.o.jt]) (by rw[b.o.jt];omega) p (by have:=X.o.1 (by omega);omega) (by have:=X.o.2;omega)).mono ?_;rintro e ar ⟨rfl,Q,g,m,q⟩;have m:=aa m;have q:=aa q;have g:=aa g)
   go_end0;exact⟨rfl,Q,i.o.trans g.o.hk,g.o.rg b.o,m.o,j.o.trans q.o⟩
  ·have P:(v:Int)<((n+1:Nat):Int):=by have:=V.o;omega
   go_wp2_with fail
   go_end0;exact⟨rfl,s2,i.o,b.o,c.o,j.o⟩
 ·have b:fE (mj n jw B (s.pW v z)):=aa (I.o.act (Int.le_refl _) V.o.1 Z.o.1 (by unfold jw;omega))
  go_upto_region 3 with fail
  have c:=d;have j:=L;have i:fE (n5 s (s.pW v z)):=aa (n5.act s v z);clear Y N;have l:=b.o.lR.su;obtain⟨g8,t,aq,f8⟩:=c.o.e.lW 11 8 rfl (c.o.e.n8.trans l) (by omega);have d8:=c.o.e.wP t (k:=v) (by rw[l];have:=V.o;omega);obtain⟨pv,f⟩:∃pv,aj (s.pW v z).pl v=pv:=⟨_,rfl⟩
  rw[f] at d8;have u:0<=pv->pv<(s.pW v z).ord.length:=λ O=>by rw[<-f];exact(b.o.lR.o v V.o.1 V.o.2 (by rw[f];exact O)).1
  have C:=b.o.lR.len;have X:=aa (z_ u C);clear l t f8 f u C
  by_cases hp:0<=pv
  ·have P:(v:Int)<((n+1:Nat):Int):=by have:=V.o;omega
   obtain⟨p,rfl⟩:∃p:Nat,pv=p:=⟨pv.toNat,by omega⟩
   go_wp2_with (go_at_call 187;refine(C5 c.o (by have:=b.o.lR;rw[b.o.jt];exact this) (by rw[b.o.k5,b.o.jt]) (by rw[b.o.jt];omega) p (by have:=X.o.1 (by omega);omega) (by have:=X.o.2;omega)).mono ?_;rintro e ar ⟨rfl,Q,g,m,q⟩;have m:=aa m;have q:=aa q;have g:=aa g)
   go_end0;exact⟨rfl,Q,i.o.trans g.o.hk,g.o.rg b.o,m.o,j.o.trans q.o⟩
  ·have P:(v:Int)<((n+1:Nat):Int):=by have:=V.o;omega
   go_wp2_with fail
   go_end0;exact⟨rfl,(s.pW v z),i.o,b.o,c.o,j.o⟩
theorem Dd(b:0<=x)(h1:x<=4611686018427387904):s_.wrap x=x:=by rw[o_];omega
theorem Kk{y:Int}(b:0<=x)(h:x/20=y):m_ x 20=y:=by rw[x_ b,h]
theorem Kl(h:aX K base w G hs cb s)(r:mj n jw B s)(E:n<=60000)(F:s.aO.length<=100000)(H:0<=B)(I:B<=4611686018427387904):
  Calls y_ 149 #[.pointer (some ⟨G,0,none⟩)] w (FK K base w G hs cb n B s):=by
 obtain⟨y,d⟩:∃y,s.aZ=y:=⟨_,rfl⟩
 have l:=h.e.ku (k:=9) (v:=.int .i64 s.aZ) rfl;rw[d] at l;have f9:=h.e.free 9;have m:1<=y/\y<=jw:=by rw[<-d];exact⟨r.ru,r.oH⟩
 obtain⟨q,t⟩:∃q,y/20=q:=⟨_,rfl⟩
 obtain⟨p,hp⟩:∃p,q+1=p:=⟨_,rfl⟩
 obtain⟨z,J⟩:∃z,y+p=z:=⟨_,rfl⟩
 have u:0<=q/\0<=p/\1<=z/\z<=2199023255552/\q<=z/\p<=z:=by unfold jw at m;omega
 have L:=Kk (by omega) t;have w1:wrap64 z=z:=Bo (by omega) (by omega);have M:s_.wrap z=z:=Dd (by omega) (by omega);have C:wrap64 q=q:=Bo (by omega) (by omega);have N:s_.wrap q=q:=Dd (by omega) (by omega);have O:wrap64 p=p:=Bo (by omega) (by omega);have P:s_.wrap p=p:=Dd (by omega) (by omega);have Q:=aa h;have D:=aa r;have Z:=aa u;clear h r d m t u;go_enter Tryz.func149,Tryz.ntmps149
 go_wp2_with fail
 refine wp_region_still_tail 13 (by kernel_rfl) (by kernel_rfl) ?_;simp only[List.take_succ_cons,n_,List.drop_succ_cons,List.drop_zero]
 iterate 13 still_step
 refine wpStill_nil ?_;change wpList _ _ _ _ _ w.drew
 go_upto_region 1 with fail
 have b:=Q.o.Fq z;have f:=aa (b.2.trans aC.drew);have b:=aa b.1.drew;generalize (w.setCell ⟨G,9,none⟩ (.int .i64 z)).drew=S at b f;have R:fE (mj n 2199023255552 B (s.vK z)):=aa (D.o.zR (by unfold jw;omega) Z.o.2.2.1 Z.o.2.2.2.1);have T:=b.o.e.ku (k:=9) (v:=.int .i64 z) rfl;clear l f9 w1 C O M N P L hp J
 by_cases U:1099511627776<z
 ·go_wp2_with (go_at_call 188;refine(FG (A:=2199023255552) (A':=jw) b.o R.o E F (by omega) (by unfold jw;omega) (by unfold jw;omega) H I).mono ?_;rintro e C ⟨rfl,s2,g,c,i,j⟩;have i:=aa i;have j:=aa (f.o.trans j);have g:=aa ((n5.zR s z).trans g);have c:=aa c)
  go_end0;exact⟨rfl,s2,g.o,c.o,i.o,j.o⟩
 ·have c:fE (mj n jw B (s.vK z)):=aa (D.o.zR (Int.le_refl _) Z.o.2.2.1 (by unfold jw;omega))
  go_wp2_with fail
  go_end0;exact⟨rfl,_,n5.zR s z,c.o,b.o,f.o⟩
end
section
open Go.RowKit Go.Shelf
theorem De(k:Nat):qP (iA k)=164:=by
 unfold qP iA;rw[if_neg (by omega),if_neg (by omega),if_neg (by omega),if_neg (by omega),if_neg (by omega),if_neg (by omega),if_neg (by omega),if_neg (by omega),if_pos (by omega)];rfl
theorem zY(k:Nat):nD (iA k)=1:=by unfold nD iA;rw[if_neg (by omega)]
theorem Df(k:Nat):qP (kr k)=3:=by
 unfold qP kr;rw[if_neg (by omega),if_neg (by omega),if_neg (by omega),if_neg (by omega),if_neg (by omega),if_neg (by omega),if_neg (by omega),if_neg (by omega),if_neg (by omega)]
theorem Bp(k:Nat):nD (kr k)=1:=by unfold nD kr;rw[if_neg (by omega)]
theorem vN(hs:Nat->ax)(cb:Nat->Nat)(s:an)(k:Nat):cont hs cb s (iA k)=kW cb (az s.c.wt k):=by
 unfold cont iA;rw[if_neg (by omega),if_neg (by omega),if_neg (by omega),if_neg (by omega),if_neg (by omega),if_neg (by omega),if_neg (by omega),if_neg (by omega),if_neg (by omega),if_neg (by omega),if_neg (by omega),if_neg (by omega),if_neg (by omega),if_pos (by omega)];rw[show(13+3*k-13)/3=k by omega]
theorem xX(hs:Nat->ax)(cb:Nat->Nat)(s:an)(k:Nat):cont hs cb s (kr k)=iY (az s.c.cl k):=by
 unfold cont kr;rw[if_neg (by omega),if_neg (by omega),if_neg (by omega),if_neg (by omega),if_neg (by omega),if_neg (by omega),if_neg (by omega),if_neg (by omega),if_neg (by omega),if_neg (by omega),if_neg (by omega),if_neg (by omega),if_neg (by omega),if_neg (by omega),if_pos (by omega)];rw[show(14+3*k-14)/3=k by omega]
def an.pQ(s:an)(k:Nat)(l:List Nat):an:={s with c:={s.c with wt:=s.c.wt.set k l}}
theorem Km{f:Nat->Value}:((r_ n).map f).set k v=(r_ n).map (λ j=>if j=k then v else f j):=by
 refine List.ext_getElem? λ j=>?_
 rw[List.getElem?_set,t_,t_]
 by_cases b:j<n
 ·rw[q_ b]
  by_cases e:k=j
  ·subst e;simp[b]
  ·rw[if_neg e];simp[Ne.symm e]
 ·rw[List.getElem?_eq_none (by simpa using b)]
  by_cases e:k=j
  ·subst e;simp[b]
  ·rw[if_neg e];rfl
theorem Kn(hs hs':Nat->ax)(cb:Nat->Nat)(s:an){r:Nat}(b:r≠0):cont hs cb s r=cont hs' cb s r:=by
 unfold cont;rw[if_neg b,if_neg b]
theorem FL(hs:Nat->ax)(cb:Nat->Nat)(s:an){k r:Nat}{l:List Nat}(d:r≠0)(e:r≠iA k):cont hs cb (s.pQ k l) r=cont hs cb s r:=by
 rcases Nat.lt_or_ge r 13 with h|h
 ·have:r=1\/r=2\/r=3\/r=4\/r=5\/r=6\/r=7\/r=8\/r=9\/r=10\/r=11\/r=12:=by omega
  rcases this with rfl|rfl|rfl|rfl|rfl|rfl|rfl|rfl|rfl|rfl|rfl|rfl<;>rfl
 ·have a0:¬r=0:=d;have a1:¬r=1:=by omega
  have a2:¬r=2:=by omega
  have a3:¬r=3:=by omega
  have a4:¬r=4:=by omega
  have a5:¬r=5:=by omega
  have f:¬r=6:=by omega
  have g:¬r=7:=by omega
  have i:¬r=8:=by omega
  have a9:¬r=9:=by omega
  have j:¬r=10:=by omega
  have m:¬r=11:=by omega
  have a12:¬r=12:=by omega
  unfold cont;simp only[a0,a1,a2,a3,a4,a5,f,g,i,a9,j,m,a12,if_false]
  by_cases hm:r%3=1
  ·rw[if_pos hm,if_pos hm];have:az (s.pQ k l).c.wt ((r-13)/3)=az s.c.wt ((r-13)/3):=by
    show az (s.c.wt.set k l) _=_;rw[qw,if_neg (λ n=>e (by unfold iA;omega))]
   rw[this]
  ·rw[if_neg hm,if_neg hm]
   by_cases b:r%3=2
   ·rw[if_pos b,if_pos b];rfl
   ·rw[if_neg b,if_neg b];rfl
section
variable {K:Nat->Prop}{base:Nat}{w bG W:World}{G:Nat}{hs:Nat->ax}{cb:Nat->Nat}{s:an}
theorem jb.jY(h:jb base w G hs cb s):(hs 0).n=s.c.wt.length:=by
 have h1:=h.rows.len 0;rw[show(cont hs cb s 0).length=s.c.wt.length by simp[cont],show nD 0=1 from rfl] at h1;omega
theorem jb.zZ(h:jb base w G hs cb s)(k:Nat):(hs (iA k)).n=(az s.c.wt k).length:=by
 have h1:=h.rows.len (iA k);rw[vN,zY] at h1;simp[kW] at h1;omega
theorem jb.z1(h:jb base w G hs cb s)(k:Nat):(hs (kr k)).n=(az s.c.cl k).length:=by
 have h1:=h.rows.len (kr k);rw[xX,Bp] at h1;simp[iY] at h1;omega
theorem jb.xY(h:jb base w G hs cb s){g:Nat}(d:(hs 0).b=some g){k:Nat}(hk:k<s.c.wt.length):w.cell? ⟨g,k,none⟩=some (hs (iA k)).v:=h.get d (by
 show((r_ s.c.wt.length).map λ k=>(hs (iA k)).v)[k]? =_;rw[t_,q_ hk];rfl)
theorem jb.xZ(h:jb base w G hs cb s){d g:Nat}(e:(hs (kr d)).b=some g){k:Nat}(hk:k<(az s.c.cl d).length):w.cell? ⟨g,k,none⟩=some (.int .i64 (aj (az s.c.cl d) k)):=h.get e (by
 rw[xX,nh hk];simp[iY,hk])
theorem aX.Dg{w1:World}(h:aX K base w G hs cb s){g0:Nat}(m:(hs 0).b=some g0){k:Nat}(hk:k<s.c.wt.length){h':ax}{l:List Nat}
  (n:j0 base w1 G (iN hs (iA k) h') cb (q6 hs s) (tE hs s) s.c.cl.length (iN (cont hs cb s) (iA k) (kW cb l))) (o:Sep K w1 G (iN hs (iA k) h') cb s.c.cl.length):
  aX K base (w1.setCell ⟨g0,k,none⟩ h'.v) G (iN hs (iA k) h') cb (s.pQ k l):=by
 have i:(0:Nat)≠iA k:=by unfold iA;omega
 have p:(iN hs (iA k) h' 0).b=some g0:=by rw[bh _ _ i];exact m
 refine⟨(n.cell p k h'.v).eq rfl rfl ?_ (λ d _=>?_) rfl (λ r=>?_),o.more (kZ w1 g0 k _).size⟩
 ·have e:∀r,r<13->iN hs (iA k) h' r=hs r:=λ r q=>bh _ _ (by unfold iA;omega)
  unfold q6 nL;rw[e 0 (by omega),e 1 (by omega),e 2 (by omega),e 3 (by omega),e 4 (by omega),e 5 (by omega),e 6 (by omega),e 7 (by omega),e 8 (by omega),e 9 (by omega),e 10 (by omega),e 11 (by omega),e 12 (by omega)];rfl
 ·unfold tE;rw[bh _ _ (show kr d≠iA k by unfold kr iA;omega)];rfl
 ·by_cases f:r=0
  ·subst f;rw[jG,bh _ _ i];show((r_ s.c.wt.length).map λ j=>(hs (iA j)).v).set k h'.v=(r_ (s.c.wt.set k l).length).map λ j=>(iN hs (iA k) h' (iA j)).v
   rw[Km,v_];refine List.map_congr_left λ j _=>?_
   by_cases e:j=k
   ·subst e;rw[if_pos rfl,jG]
   ·rw[if_neg e,bh _ _ (show iA j≠iA k by unfold iA;omega)]
  ·rw[bh _ _ f]
   by_cases g:r=iA k
   ·subst g;rw[jG,vN];show _=kW cb (az (s.c.wt.set k l) k);rw[qw,if_pos ⟨rfl,hk⟩]
   ·rw[bh _ _ g];rw[Kn (iN hs (iA k) h') hs cb _ f];exact(FL hs cb s f g).symm
theorem aX.Ko(h:aX K base w G hs cb s){g0:Nat}(f:(hs 0).b=some g0){k:Nat}(hk:k<s.c.wt.length){v':Value}{d:Nat}(p:nW w base 164 (hs (iA k)).v ((az s.c.wt k).length+1) (kW cb (az s.c.wt k++[d])) v' bG):
  ∃h':ax,v'=h'.v/\h'.n=(az s.c.wt k).length+1/\bG.cell? ⟨g0,k,none⟩=some (hs (iA k)).v/\(∀j,bG.frozen? ⟨g0,j,none⟩=false)/\bG.cell? ⟨G,1,none⟩=some (hs 0).v/\aX K base (bG.setCell ⟨g0,k,none⟩ v') G (iN hs (iA k) h') cb (s.pQ k (az s.c.wt k++[d]))/\aC K w (bG.setCell ⟨g0,k,none⟩ v'):=by
 obtain⟨g,l,q⟩:=p;have g:bG.ownsRow base (qP (iA k)) (nD (iA k)) v' ((az s.c.wt k).length+1) (kW cb (az s.c.wt k++[d])):=by rw[De,zY];exact g
 obtain⟨h',rfl,t,i,u,y⟩:=j0.app h.e h.s (r:=iA k) g l q;have m:(0:Nat)≠iA k:=by unfold iA;omega
 have o:(iN hs (iA k) h' 0).b=some g0:=by rw[bh _ _ m];exact f
 refine⟨h',rfl,t,?_,λ j=>i.rows.free o j,(h.e.after (r:=iA k) (by rw[<-ax.own];exact l) 1).1.trans (h.e.ku rfl),h.Dg f hk i u,y.trans (aC.set g0 k _ (h.s.row 0 g0 f))⟩;refine i.get o ?_;rw[bh _ _ m];show((r_ s.c.wt.length).map λ k=>(hs (iA k)).v)[k]? =_;rw[t_,q_ hk];rfl
theorem aX.Dh(h:aX K base w G hs cb s){g0 k d lM oo:Nat}{oJ:Option Addr}{v0 v':Value}(l:(hs 0).b=some g0)(hk:k<s.c.wt.length)(f:hs (iA k)=⟨oJ,lM,oo⟩)(g:lM=(az s.c.wt k).length)(m:w.cell? ⟨G,1,none⟩=some v0)
  (i:nW w base 164 (.slice oJ lM oo) (lM+1) (kW cb (az s.c.wt k)++[.pointer (some ⟨cb d,0,none⟩)]) v' bG):
  ∃(A':Option Addr)(c':Nat),v'=.slice A' (lM+1) c'/\bG.cell? ⟨G,1,none⟩=some v0/\bG.cell? ⟨g0,k,none⟩=some (.slice oJ lM oo)/\(∀j,bG.frozen? ⟨g0,j,none⟩=false)/\aX K base (bG.setCell ⟨g0,k,none⟩ v') G (iN hs (iA k) ⟨A',lM+1,c'⟩) cb (s.pQ k (az s.c.wt k++[d]))/\aC K w (bG.setCell ⟨g0,k,none⟩ v'):=by
 obtain⟨⟨A',n,c'⟩,o,p,q,f9,r,t,u⟩:=h.Ko (d:=d) l hk (v':=v') (bG:=bG) (by
  rw[f,<-g];rw[show kW cb (az s.c.wt k)++[Value.pointer (some ⟨cb d,0,none⟩)]=kW cb (az s.c.wt k++[d]) by simp[kW,sX]] at i;exact i)
 obtain rfl:n=lM+1:=by rw[g];exact p
 refine⟨A',c',o,?_,by rw[q,f];rfl,f9,t,u⟩;rw[r,<-m];exact(h.e.ku rfl).symm
end
end
end Go.Proofs.YtogdlkfacflmaaaGreat
