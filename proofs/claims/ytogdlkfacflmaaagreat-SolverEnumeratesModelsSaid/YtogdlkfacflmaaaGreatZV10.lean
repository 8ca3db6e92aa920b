/- Parts of the walk of the solver and its core; no condition. -/
import Derived.Test.YtogdlkfacflmaaaGreatZV9
import Derived.Test.YtogdlkfacflmaaaGreatZV8
import Derived.Test.YtogdlkfacflmaaaGreatZV3
import Derived.Shelf.SlicesE.Delete
import Derived.Test.YtogdlkfacflmaaaGreatZV1
import Derived.Test.YtogdlkfacflmaaaGreatZV4
namespace Go.Proofs.YtogdlkfacflmaaaGreat
set_option linter.unusedVariables false
set_option linter.unusedSimpArgs false
set_option maxRecDepth 100000
set_option maxHeartbeats 16000000
open _root_.List renaming getElem?_cons_zero→z_,getElem?_cons_succ→y_,mem_singleton→v_,mem_append→u_,getElem?_eq_some_iff→r_,map_toArray→q_,map_nil→o_,map_cons→m_,getElem?_eq_getElem→k_,set_cons_succ→j_,set_cons_zero→i_,not_mem_nil→d_,eq_nil_of_length_eq_zero→Zv,append_assoc→Zr,getElem?_append_left→Zo,ext_getElem→Zm,map_append→Zi,append_nil→Zh,replicate→Zg,mem_iff_getElem→Ze,replicate_succ'→Zd,mem_cons→Zc
open _root_.Go.Proofs.Tryz renaming prog→x_,underlying3→c_
open _root_.And renaming intro→w_
open _root_.Go.Value renaming slice→t_
open _root_.Nat renaming zero_le→s_,lt_of_lt_of_le→p_,le_refl→f_,zero_add→Z0,le_trans→Z3
open _root_.Go.IntKind renaming wrap_i64→n_,i64→e_
open _root_.Go.Result renaming andThen_ok→l_
open _root_.Go.RowKit.Below renaming refl→h_
open _root_.Option.some renaming injEq→g_
open _root_.Go.Addr renaming add_lit→b_
open _root_.Go.Sem renaming run_bind→a_,run_pure→Zx
open _root_.Go.World renaming cell?_of_block→Zw
open _root_.Array renaming getD_eq_getD_getElem?→Zu
open _root_.Go.Value.slice renaming injEq→Zt
open _root_.Int renaming toNat_natCast→Zq
open _root_.Go renaming run_append_own_at→Zp
open _root_.Classical renaming byContradiction→Zn
open _root_.Bool renaming and_eq_true→Zl,noConfusion→Zk,and_eq_false_iff→Zf
open _root_.Go.Builtin renaming append_→Zj
open _root_.Go.Region renaming binds→Z4
variable{i base n c aU bn cl c' gJ gw jj c0 B m b k:Nat}{w w' W:World}{v:Value}{ops:Array Oper}{rest:List Oper}{o:Oper}{a:Act}{Q:Exit->Act->World->Prop}{A gI j0 A' gZ bp l6:Option Addr}{ah l co S T:List Int}{s:j6}{mA x:Int}{D:Nat->Prop}
section
open Go.RowKit
theorem CG.same{ws:List (List Nat)}{gW:World->Prop}{G:Nat->Nat×Nat->(Nat->Value)->World->Prop}{iM:Nat->Nat×Nat}{vals:Nat->Value}(b:gW w)(h:G i (w.heap.size,w.heap.size) (k6 vals i v) w):CG ws gW G iM vals i w v w:=⟨b,f_ _,h,λ _ _ _ _ _ h=>h⟩
def AR(P:Program)(ds:List (Option Tmp))(ws:List (List Nat))(old:List (Tmp×Value))(gW:(Nat->Bool)->World->Prop)(cs:List Value)(sp:Nat->Bool)(G:Nat->Nat×Nat->(Nat->Value)->World->Prop):Nat->List Oper->Prop
 |_,[]=>True
 |k,o::r=>((sp k=true->zB P ds ws old gW (nO cs sp G) k o)/\(sp k=false->∀(b:Operand->Value)(L:Nat->Bool)(w:World),gW L w->L k=false->sv ws L->ud ds cs sp b o.after.toList->rC ds ws k b old->rD b->aZ P b o w λ v w'=>v=cs.getD k undef/\w'=w))/\AR P ds ws old gW cs sp G (k+1) r
theorem AR.ok{P:Program}{ds:List (Option Tmp)}{ws:List (List Nat)}{old:List (Tmp×Value)}{gW:(Nat->Bool)->World->Prop}{cs:List Value}{sp:Nat->Bool}{G:Nat->Nat×Nat->(Nat->Value)->World->Prop}(b:∀L k w,sp k=false->gW L w->gW (k9 L k) w):∀{k:Nat}{l:List Oper},AR P ds ws old gW cs sp G k l->wF P ds ws old gW (nO cs sp G) k l
 |_,[],_=>trivial
 |k,o::r,h=>⟨by
  cases hk:sp k with
  |true=>exact h.1.1 hk
  |false=>
   intro L vals j w d c e hC f g hp m;refine aZ.mono (h.1.2 hk d L w c e hC (ED.of f) g hp) λ v w' ⟨h1,i⟩=>?_
   subst i;exact .same (b L k w' hk c) (by unfold nO k6;rw[hk,if_pos rfl];exact h1),AR.ok b h.2⟩
end
section
open Go.RowKit Go.Shelf
def Plain(A:Option Addr):Prop:=A=none\/∃b off,A=some ⟨b,off,none⟩
def CH(w:World)(e:TypeId)(size:Nat)(k:Nat)(ys:List Value)(v':Value)(w':World):Prop:=w'.ownsRow w.heap.size e size v' k ys/\Below w.heap.size w w'
theorem CI(g:w.grownBy w' none):Below w.heap.size w w':=⟨g.os,g.tape,g.output,g.size,λ k hk=>g.block k hk (by simp)⟩
theorem OX(w:World)(ty:TypeId){A:Option Addr}{jx c:Nat}{rs:List Row}(i:nU w A jx c rs)(q:Plain A)(f c1:Nat)(r:Row)(g:w.cell? ⟨f,0,none⟩=some (kF r))(D:jx<=1000000)(s:A=none->jx=0):
  ∃v' w',(Zj #[22,22] ty #[.slice A jx jx,.slice (some ⟨f,0,none⟩) 1 c1]).run x_ w=.ok v' w'/\CH w 25 1 (jx+1) ((rs++[r]).map kF) v' w':=by
 obtain⟨i0,k,l,m,n⟩:=info_parts Bc;have o:∀j u,([kF r]:List Value)[j]? =some u->w.cell? ((⟨f,0,none⟩:Addr).add j)=some u:=by
  intro j u d;have t:j<1:=(r_.1 d).1;obtain rfl:j=0:=by omega
  rw[b_,Z0];simp only[z_,g_] at d;subst d;exact g
 have v:∀u∈([kF r]:List Value),u.oneCell'=true:=by
  intro u hu;rw[v_.1 hu];rfl
 have p:=i.len;have y:(rs++[r]).map kF=rs.map kF++[kF r]:=by simp
 rw[y];rcases q with rfl|⟨b,off,rfl⟩
 ·have g:=s rfl;subst g;have:rs=[]:=Zv p;subst this;obtain⟨v',w',g1,g2,g3,_,g5⟩:=Zp (P:=x_) w w.heap.size 22 ty 25 i0 (.slice none 0 0) 1 24 Tryz.underlying22 k l m n rfl (by decide) (.slice none 0 0) 0 [] (World.ownsRow_nil _ _ _ _) ⟨f,0,none⟩ 1 c1 [kF r] rfl o v (by unfold maxLen;omega) (by omega) (f_ _);exact⟨v',w',g1,g2,CI g3⟩
 ·obtain⟨v',w',g1,g2,g3⟩:=run_append_arg_grows (P:=x_) w 22 ty 25 i0 (.slice none 0 0) 1 24 Tryz.underlying22 k l m n rfl (by decide) ⟨b,off,none⟩ jx jx (rs.map kF) (by rw[List.length_map,p];omega) (λ j u d=>by
   rw[b_];have t:j<jx:=by have:=(r_.1 d).1;rw[List.length_map] at this;omega
   obtain⟨E,F,e,_,z⟩:=i.cells (by omega);injection e with e
   injection e with B C
   subst B C;exact z j u d) ⟨f,0,none⟩ 1 c1 [kF r] rfl o (by omega) (by unfold maxLen;omega) (by omega)
  exact⟨v',w',g1,g2,CI g3⟩
theorem OY(w:World)(ty:TypeId){A:Option Addr}{aR c:Nat}{es:List mG}(i:nM w A aR c es)(s:Plain A)(f c1:Nat)(r:mG)(g:w.cell? ⟨f,0,none⟩=some (.int .i64 r.jf))(h1:w.cell? ⟨f,1,none⟩=some (kF r.r))(D:aR<=1099511627776)(t:A=none->aR=0):
  ∃v' w',(Zj #[45,45] ty #[.slice A aR aR,.slice (some ⟨f,0,none⟩) 1 c1]).run x_ w=.ok v' w'/\CH w 126 2 (aR+1) (nk (es++[r])) v' w':=by
 obtain⟨i0,k,l,m,n⟩:=info_parts Hj;have o:∀j u,(r9 r)[j]? =some u->w.cell? ((⟨f,0,none⟩:Addr).add j)=some u:=by
  intro j u d;have p:j<2:=(r_.1 d).1;rw[b_,Z0];unfold r9 at d;rcases(show j=0\/j=1 by omega) with rfl|rfl
  ·simp only[z_,g_] at d;subst d;exact g
  ·simp only[y_,z_,g_] at d;subst d;exact h1
 have v:∀u∈r9 r,u.oneCell'=true:=by
  intro u hu;unfold r9 at hu;simp only[Zc,d_,or_false] at hu;rcases hu with rfl|rfl<;>rfl
 have q:=i.len;have y:nk (es++[r])=nk es++r9 r:=by rw[N6];simp[nk]
 rw[y];rcases s with rfl|⟨b,off,rfl⟩
 ·have g:=t rfl;subst g;have:es=[]:=Zv q;subst this;obtain⟨v',w',g1,g2,g3,_,g5⟩:=Zp (P:=x_) w w.heap.size 45 ty 126 i0 (.agg #[.int .i64 0,.slice none 0 0]) 2 32 Tryz.underlying45 k l m n rfl (by decide) (.slice none 0 0) 0 [] (World.ownsRow_nil _ _ _ _) ⟨f,0,none⟩ 1 c1 (r9 r) rfl o v (by unfold maxLen;omega) (by omega) (f_ _);exact⟨v',w',g1,g2,CI g3⟩
 ·obtain⟨v',w',g1,g2,g3⟩:=run_append_arg_grows (P:=x_) w 45 ty 126 i0 (.agg #[.int .i64 0,.slice none 0 0]) 2 32 Tryz.underlying45 k l m n rfl (by decide) ⟨b,off,none⟩ aR aR (nk es) (by rw[ym,q]) (λ j u d=>by
   rw[b_];have p:j<aR*2:=by have:=(r_.1 d).1;rw[ym] at this;omega
   obtain⟨E,F,e,_,z⟩:=i.cells (by omega);injection e with e
   injection e with B C
   subst B C;exact(z j p).trans d) ⟨f,0,none⟩ 1 c1 (r9 r) rfl o (by omega) (by unfold maxLen;omega) (by omega)
  exact⟨v',w',g1,g2,CI g3⟩
theorem OZ(d:o.guard=none)(s x:Operand)
  (e:o.op=.call {callee:=.builtin .append,args:= #[s,x],argTypes:= #[22,22]}) {A:Option Addr} {jx c:Nat} {rs:List Row} (f:nU w A jx c rs) (g:Plain A) (b c1:Nat) (r:Row) (hs:a.eval s=.slice A jx jx) (i:a.eval x=.slice (some ⟨b,0,none⟩) 1 c1) (j:w.cell? ⟨b,0,none⟩=some (kF r)) (k:jx<=1000000) (l:A=none->jx=0)
  (h:∀v' w',CH w 25 1 (jx+1) ((rs++[r]).map kF) v' w'->wpList x_ ops Q rest (a.put o.dst v') w'):
  wpList x_ ops Q (o::rest) a w:=by
 obtain⟨v',w',h1,m⟩:=OX w o.type f g b c1 r j k l;refine wpList_plain d λ K n=>?_
 unfold Oper.wp;simp only[execOp,e,resolve,invoke,builtin,a_,Zx,l_,q_,m_,o_,hs,i,h1];exact n _ _ (h v' w' m)
theorem O0(d:o.guard=none)(s x:Operand)
  (e:o.op=.call {callee:=.builtin .append,args:= #[s,x],argTypes:= #[45,45]}) {A:Option Addr} {aR c:Nat} {es:List mG} (f:nM w A aR c es) (g:Plain A) (b c1:Nat) (r:mG) (hs:a.eval s=.slice A aR aR) (i:a.eval x=.slice (some ⟨b,0,none⟩) 1 c1) (j:w.cell? ⟨b,0,none⟩=some (.int .i64 r.jf)) (k:w.cell? ⟨b,1,none⟩=some (kF r.r)) (l:aR<=1099511627776) (m:A=none->aR=0)
  (h:∀v' w',CH w 126 2 (aR+1) (nk (es++[r])) v' w'->wpList x_ ops Q rest (a.put o.dst v') w'):
  wpList x_ ops Q (o::rest) a w:=by
 obtain⟨v',w',h1,n⟩:=OY w o.type f g b c1 r j k l m;refine wpList_plain d λ K p=>?_
 unfold Oper.wp;simp only[execOp,e,resolve,invoke,builtin,a_,Zx,l_,q_,m_,o_,hs,i,h1];exact p _ _ (h v' w' n)
structure qT(w W:World)(L M:List Value):Prop where
 bf:aM W w.heap.size 47 L
 aU:aM W (w.heap.size+1) 47 M
 kZ:Below w.heap.size w W
theorem qT.init(w:World)(L M:List Value):qT w ((w.alloc (.cells L.toArray 47)).alloc (.cells M.toArray 47)) L M:=by
 have c:aM (w.alloc (.cells L.toArray 47)) w.heap.size 47 L:=aM.new w 47 L;have d:=bg w (.cells L.toArray 47);have z0:(w.alloc (.cells L.toArray 47)).heap.size=w.heap.size+1:=by simp
 generalize w.alloc (.cells L.toArray 47)=w1 at*;have h1:aM (w1.alloc (.cells M.toArray 47)) w1.heap.size 47 M:=aM.new w1 47 M;have b:=bg w1 (.cells M.toArray 47);rw[z0] at h1;exact⟨c.below b,h1,d.trans (b.mono (by omega))⟩
theorem qT.below{w W W':World}{L M:List Value}(h:qT w W L M)(b:Below W.heap.size W W'):qT w W' L M:=⟨h.bf.below b,h.aU.below b,h.kZ.trans (b.mono h.kZ.size)⟩
theorem qT.ID{L M:List Value}(h:qT w W L M)(k:Nat)(v:Value):qT w (W.setCell ⟨w.heap.size,k,none⟩ v) (L.set k v) M:=
 ⟨h.bf.set k v,h.aU.kept (kK W w.heap.size k v) (λ e=>by injection e with e;omega),h.kZ.setCell (f_ _) _⟩
def O1(w:World)(n:Nat)(s:j6)(k:Option Addr)(l:Nat)(m:Option Addr)(o:Nat)(d:Option Addr)(cl:Nat)(A:Option Addr)(c:Nat)(A':Option Addr)(c':Nat)(f:Option Addr)(g:Nat)(ah:List Int)(e:Ending)(W:World):Prop:=
 ∃(s':j6)(gI:Option Addr)(bn:Nat)(i:Option Addr)(j:Nat),e=.returned (.tuple #[qC n gI s'.gs.length bn d s'.es.length cl A (n+1) c A' n c' s'.aW f (n+1) g i s'.aD.length j,.int .i64 0])/\
  qB W s' gI bn d cl A c A' c' f g i j/\ox n s'/\s'.gs=s.gs++[ah]/\s'.es=s.es/\s'.aW=s.aW/\(∃p:mG,s'.aD=s.aD++[p]/\p.jf=1/\p.r.ah=ah)/\s'.aD.length=s.aD.length+1/\Below w.heap.size w W/\yo w W i s'.aD.length j s'.aD/\(gI=none->s'.gs.length=0/\bn=0)/\
  ∀bq:Nat->Prop,(∀b,bq b->b<w.heap.size)->(∀W',aF (λ b=>b<w.heap.size/\¬bq b) w W'->qB W' s k l d cl A c A' c' f g m o)->Ib W bq s' gI bn d cl A c A' c' f g i j
theorem nU.zx{w:World}{D:Nat->Prop}{A:Option Addr}{n c:Nat}{ls:List (List Int)}{rs:List Row}(g:nU w A n c rs)(hs:∀W,aF (λ b=>b<w.heap.size/\¬D b) w W->mc W A n c ls):∀r∈rs,∀b,r.A.map (·.block)=some b->0<r.n->¬D b:=by
 intro r l b e m;have hw:=hs _ (Ex w D);obtain⟨j,o,q⟩:=Ze.1 l;have hlen:=g.len;obtain⟨i,s,t,h1,u⟩:=g.cells (by omega);obtain⟨E,F,f,_,v⟩:=hw.cells (by omega);rw[t] at f;injection f with f
 injection f with f y _
 subst f y;obtain⟨A',G,c',d,k⟩:=v j (by omega);have z:¬D i:=λ B=>by rw[Ey B] at d;cases d
 rw[(Ex w D).cell (p:=⟨i,s+j,none⟩) ⟨h1,z⟩] at d;have C:=u j (kF r) (by rw[List.getElem?_map,k_ o,q];rfl);rw[C] at d;injection d with d
 injection d with a1 a2 a3
 rw[<-a1,<-a2,<-a3] at k;exact k.zx b e m
theorem nM.lq{es:List mG}(h:w.ownsRow base 126 2 (.slice A n c) n (nk es))(d:n*32<=140737488355328)(f:∀e∈es,aN w e.r.A e.r.n e.r.c e.r.ah):nM w A n c es:=by
 have hl:es.length=n:=by have:=h.1;rw[ym] at this;omega
 rcases h.2 with⟨b,i⟩|⟨g,cap,cur,b,m,o,j,l,p,q⟩
 ·simp only[Zt] at b;obtain⟨rfl,_,rfl⟩:=b;subst i;exact⟨hl,f_ _,d,s_ _,λ h=>absurd h (by omega),f⟩
 ·simp only[Zt] at b;obtain⟨rfl,_,rfl⟩:=b;refine⟨hl,j,d,l,λ i=>⟨g,0,rfl,(h.lt g rfl).2,λ k hk=>?_⟩,f⟩;rw[Z0];exact h.cellAt k hk
theorem uG.more{F G:List (List Int)}{jf:Int}(h:uG F n jf ah):uG (F++G) n jf ah:=
 ⟨h.1.imp (λ h=>⟨h.1,u_.2 (.inl h.2)⟩) (λ h=>⟨h.1,λ M b=>h.2 M ⟨b.1,λ l hl=>b.2 l (u_.2 (.inl hl))⟩⟩),h.2⟩
theorem ox.add(O:ox n s){ah:List Int}(c:∀x∈ah,gF n x)(d:s.gs.length<65536)(r:Row)(f:r.ah=ah):ox n ⟨n,s.gs++[ah],s.es,s.act,s.ord,s.aW,s.bH,s.aD++[⟨1,r⟩]⟩:=by
 refine⟨rfl,by simp;omega,λ g d x b=>?_,O.hk,O.nE,O.oV,O.wA,λ e he M i=>O.Eu e he M ⟨i.1,λ l hl=>i.2 l (u_.2 (.inl hl))⟩,O.Cx,λ p hp=>?_⟩
 ·rcases u_.1 d with h1|h1
  ·exact O.bk g h1 x b
  ·rw[v_.1 h1] at b;exact c x b
 ·rcases u_.1 hp with h1|h1
  ·exact(O.xD p h1).more
  ·rw[v_.1 h1];exact⟨.inl ⟨rfl,by show r.ah∈_;rw[f];simp⟩,by show∀x∈r.ah,_;rw[f];exact c⟩
theorem O2{w0:World}{ls:List (List Int)}(d:mc w0 A n c ls)(f:A=none->n=0/\c=0)(w:World)(g:Plain A):Calls x_ 108 #[.slice A n c] w λ e w'=>e=.returned (.slice A n n)/\w'=w:=by
 rcases g with rfl|⟨b,off,rfl⟩
 ·obtain⟨h1,i⟩:=f rfl;subst h1 i;exact N2 w
 ·exact N1 b off n c w d.cap
theorem O3{aO:Ending->World->Prop}{v0 v1 v2 v3 v4 v5 v6 nF:Value}(n:a.defers=[])(c:a.tmps.getD 4 undef=.pointer (some ⟨aU,0,none⟩))(d:a.tmps.getD 5 undef=.int .i64 0)
  (b:aM W aU 47 [v0,v1,v2,v3,v4,v5,v6,nF]) (h:aO (.returned (.tuple #[.agg #[v0,v1,v2,v3,v4,v5,v6,nF],.int .i64 0])) W):bodyPost x_ Tryz.f46 aO .ret a W:=by
 have e:=b.cell 0;have f:=b.cell 1;have g:=b.cell 2;have i:=b.cell 3;have j:=b.cell 4;have k:=b.cell 5;have l:=b.cell 6;have m:=b.cell 7;simp only[z_,y_] at e f g i j k l m;refine bodyPost_ret (v:=.tuple #[.agg #[v0,v1,v2,v3,v4,v5,v6,nF],.int .i64 0]) ?_ n h;rw[Zu] at c d;simp[results,Tryz.results46,go_sem,c,d,e,f,g,i,j,k,l,m]
theorem O4(O:ox n s)(L:n<=10)(Z:qB w s gI bn j0 cl A c A' c' gZ gJ bp gw)(aL:aN w l6 jj c0 ah)(aa:∀x∈ah,gF n x)(aO:s.gs.length<65536)(aP:s.aD.length<=549755813888)
  (aQ:bp=none->s.aD.length=0/\gw=0) (aR:gI=none->s.gs.length=0/\bn=0) (aS:Plain bp) (aT:Plain gI):
  Calls x_ 46 #[qC n gI s.gs.length bn j0 s.es.length cl A (n+1) c A' n c' s.aW gZ (n+1) gJ bp s.aD.length gw,.slice l6 jj c0] w (O1 w n s gI bn bp gw j0 cl A c A' c' gZ gJ ah):=by
 obtain⟨k,ab⟩:∃x,s.gs.length=x:=⟨_,rfl⟩
 obtain⟨nl,ad⟩:∃x,s.es.length=x:=⟨_,rfl⟩
 obtain⟨m,ae⟩:∃x,s.aD.length=x:=⟨_,rfl⟩
 have bK:bF (∀W:World,Below w.heap.size w W->Calls x_ 49 #[qC n gI k bn j0 nl cl A (n+1) c A' n c' s.aW gZ (n+1) gJ bp m gw] W λ e w'=>e=.returned (.int .i64 0)/\Below W.heap.size W w'):=U λ W p=>by
  have:=CD O L (Z.below p);rw[ab,ad,ae] at this;exact this
 obtain⟨rs,aV,aX⟩:=Z.gs.zM;have d:=U (w_ Z (w_ O (w_ ab (w_ ad (w_ ae (w_ aL (w_ aa (w_ aO (w_ aP (w_ aQ (w_ aR (w_ aS (w_ aT (w_ aV aX))))))))))))));have aY:k<65536:=by omega
 have aZ:¬(65536:Int)<=(k:Int):=by omega
 have bL:(k:Int)<65536:=by omega
 have dg:decide ((65536:Int)<=(k:Int))=false:=decide_eq_false aZ;have bM:=U aY;clear aZ bL aY;rw[ab,ad,ae];clear Z O aL aa aO aP aQ aR aS aT aV aX ab ad ae;unfold qC at*;go_enter Tryz.func46,Tryz.ntmps46
 go_upto_region 1 with fail
 have E:qT w ((w.alloc (.cells #[.int .i64 n,.slice gI k bn,.slice j0 nl cl,.slice A (n+1) c,.slice A' n c',.int .i64 s.aW,.slice gZ (n+1) gJ,.slice bp m gw] 47)).alloc (.cells #[.int .i64 0,.slice none 0 0,.slice none 0 0,.slice none 0 0,.slice none 0 0,.int .i64 0,.slice none 0 0,.slice none 0 0] 47)) [.int .i64 n,.slice gI k bn,.slice j0 nl cl,.slice A (n+1) c,.slice A' n c',.int .i64 s.aW,.slice gZ (n+1) gJ,.slice bp m gw] mU:=qT.init w [.int .i64 n,.slice gI k bn,.slice j0 nl cl,.slice A (n+1) c,.slice A' n c',.int .i64 s.aW,.slice gZ (n+1) gJ,.slice bp m gw] mU;generalize ((w.alloc (.cells #[.int .i64 n,.slice gI k bn,.slice j0 nl cl,.slice A (n+1) c,.slice A' n c',.int .i64 s.aW,.slice gZ (n+1) gJ,.slice bp m gw] 47)).alloc (.cells #[.int .i64 0,.slice none 0 0,.slice none 0 0,.slice none 0 0,.slice none 0 0,.int .i64 0,.slice none 0 0,.slice none 0 0] 47))=bN at*;have M:=E.bf.cell 0;have y:=E.bf.cell 1;have af:=E.bf.cell 2;have ag:=E.bf.cell 3;have ai:=E.bf.cell 4;have aj:=E.bf.cell 5;have ak:=E.bf.cell 6;have F:=E.bf.cell 7;simp only[z_,y_] at M y af ag ai aj ak F;have bO:=U (bK.o bN E.kZ);have bP:=U E;clear E
 go_upto_region 4 with(go_at_call 49;refine bO.o.mono ?_;rintro e al ⟨rfl,a6⟩;have az:=U (bP.o.below a6);clear M y af ag ai aj ak F a6;have M:=az.o.bf.cell 0;simp only[z_] at M)
 have a7:=d.o.2.2.2.2.2.1.below az.o.kZ;have bQ:=U (vP n (some ⟨al.heap.size,0,none⟩) 1 1 [ah] _ (nU.AN al ⟨l6,jj,c0,ah⟩ a7).CZ);have a8:lB n [ah]=0:=yl (by omega) (by simp) (λ l hl=>by rw[v_.1 hl];exact d.o.2.2.2.2.2.2.1);have bR:=U a8;clear a7 a8
 go_upto_region 6 with(go_at_call 107;refine bQ.o.mono ?_;rintro e aA ⟨rfl,a'⟩;rw[bR.o];have R:=U (az.o.below ((bg al _).trans (a'.mono (bg al _).size)));clear M a';have y:=R.o.bf.cell 1;simp only[z_,y_] at y)
 go_upto_region 8 with fail
 have bS:=U (xg l6 jj c0 ah aA (d.o.2.2.2.2.2.1.below R.o.kZ));have ba:=d.o.2.2.2.2.2.1.len;have bb:=d.o.2.2.2.2.2.1.mP;have bc:=U (w_ ba bb);clear y
 go_upto_region 9 with(go_at_call 81;refine bS.o.mono ?_;rintro e t ⟨j,c2,rfl,bd,bh⟩;have S:=U (w_ bd bh);clear bd bh)
 have bj:aN t j jj c2 ah:=by
  have h1:=S.o.1;rw[bc.o.1] at h1;exact aN.lq h1 bc.o.2
 have T:=U (R.o.below S.o.2);have bT:=U bj;clear bj ba bb;have y:=T.o.bf.cell 1;simp only[z_,y_] at y;have bk:bF (∀W:World,Calls x_ 108 #[.slice gI s.gs.length bn] W λ e w'=>e=.returned (.slice gI s.gs.length s.gs.length)/\W=w'):=U (λ W=>(O2 (w0:=w) d.o.1.gs d.o.2.2.2.2.2.2.2.2.2.2.1 W d.o.2.2.2.2.2.2.2.2.2.2.2.2.1).mono (λ e w' h=>⟨h.1,h.2.symm⟩));have bl:bF (∀W:World,Calls x_ 109 #[.slice bp s.aD.length gw] W λ e w'=>e=.returned (.slice bp s.aD.length s.aD.length)/\W=w'):=U (λ W=>(Ih (w0:=w) d.o.1.aD d.o.2.2.2.2.2.2.2.2.2.1 W (λ h=>d.o.2.2.2.2.2.2.2.2.2.2.2.1.resolve_left h)).mono (λ e w' h=>⟨h.1,h.2.symm⟩));rw[d.o.2.2.1] at bk;rw[d.o.2.2.2.2.1] at bl;have bo:nU (t.alloc (.cells #[kF ⟨j,jj,c2,ah⟩] 25)) gI k bn rs:=by
  have h1:=d.o.2.2.2.2.2.2.2.2.2.2.2.2.2.2;rw[d.o.2.2.1] at h1;exact(h1.below T.o.kZ).below (bg t _)
 have bU:=U bo;have br:(t.alloc (.cells #[kF ⟨j,jj,c2,ah⟩] 25)).cell? ⟨t.heap.size,0,none⟩=some (kF ⟨j,jj,c2,ah⟩):=(aM.new t 25 [kF ⟨j,jj,c2,ah⟩]).cell 0;have bV:=U br;clear bo br
 go_upto_region 10 with(first
  |(go_at_call 108;refine(bk.o _).mono ?_;rintro e bW ⟨rfl,rfl⟩)
  |(at_builtin;refine OZ rfl (.tmp 30) (.tmp 32) rfl bU.o d.o.2.2.2.2.2.2.2.2.2.2.2.2.1 t.heap.size 1 ⟨j,jj,c2,ah⟩ rfl rfl bV.o (by have:=bM.o;omega) (λ e=>by have:=(d.o.2.2.2.2.2.2.2.2.2.2.1 e).1;have N:=d.o.2.2.1;omega) ?_;intro th aB G;obtain⟨⟨z,jI,B⟩,aC,an⟩:=aq.lq G.1;obtain rfl:th=.slice z jI B:=aC;have bs:=U G;have bX:=U an;have aE:=U (T.o.below ((bg t _).trans (G.2.mono (bg t _).size)));clear G an y;have y:=aE.o.bf.cell 1;have bY:=aE.o.bf.free 1;simp only[z_,y_] at y))
 have an:jI=k+1:=bX.o;subst an;have ao:=U (aE.o.ID 1 (.slice z (k+1) B));have bt:(t.alloc (.cells #[.slice j jj c2] 25)).heap.size=t.heap.size+1:=by simp
 have bZ:w.heap.size<t.heap.size:=T.o.bf.lt;have b0:w.heap.size<aA.heap.size:=R.o.bf.lt;have bu:(aB.setCell ⟨w.heap.size,1,none⟩ (.slice z (k+1) B)).ownsRow (t.heap.size+1) 25 1 (.slice z (k+1) B) (k+1) ((rs++[(⟨j,jj,c2,ah⟩:Row)]).map kF):=by
  have h1:=bs.o.1;rw[bt] at h1;exact mK h1 (λ b p=>Below.heap_setCell _ _ _ _ (by show b≠w.heap.size;have:=(h1.lt b p).1;omega))
 have bw:aN (aB.setCell ⟨w.heap.size,1,none⟩ (.slice z (k+1) B)) j jj c2 ah:=by
  refine((bT.o.below (bg t _)).below bs.o.2).nQ _ (λ b off e=>?_);have h1:=(S.o.1.lt b (by rw[e];rfl)).1;show b≠w.heap.size;omega
 have aG:=U (w_ bu bw);clear bu bw y bY bt;generalize aB.setCell ⟨w.heap.size,1,none⟩ (.slice z (k+1) B)=gb at*;have F:=ao.o.bf.cell 7;simp only[j_,i_,z_,y_] at F;have ar:nM (gb.alloc (.cells #[.int .i64 1,kF ⟨j,jj,c2,ah⟩] 126)) bp m gw s.aD:=by
  have h1:=d.o.1.aD;rw[d.o.2.2.2.2.1] at h1;exact(h1.below ao.o.kZ).below (bg gb _)
 have b1:=U ar;have aH:=aM.new gb 126 [.int .i64 1,kF ⟨j,jj,c2,ah⟩];have bx:bF ((gb.alloc (.cells #[.int .i64 1,kF ⟨j,jj,c2,ah⟩] 126)).cell? ⟨gb.heap.size,0,none⟩=some (.int .i64 1)/\(gb.alloc (.cells #[.int .i64 1,kF ⟨j,jj,c2,ah⟩] 126)).cell? ⟨gb.heap.size,1,none⟩=some (kF ⟨j,jj,c2,ah⟩)):=U ⟨aH.cell 0,aH.cell 1⟩;clear ar aH
 go_upto_region 11 with(first
  |(go_at_call 109;refine(bl.o _).mono ?_;rintro e bW ⟨rfl,rfl⟩)
  |(at_builtin;refine O0 rfl (.tmp 37) (.tmp 40) rfl b1.o d.o.2.2.2.2.2.2.2.2.2.2.2.1 gb.heap.size 1 ⟨1,⟨j,jj,c2,ah⟩⟩ rfl rfl bx.o.1 bx.o.2 (by have:=d.o.2.2.2.2.2.2.2.2.1;have N:=d.o.2.2.2.2.1;omega) (λ e=>by have:=(d.o.2.2.2.2.2.2.2.2.2.1 e).1;have N:=d.o.2.2.2.2.1;omega) ?_;intro v11 au G;obtain⟨⟨C,m9,D⟩,aC,av⟩:=aq.lq G.1;obtain rfl:v11=.slice C m9 D:=aC;have bz:=U G;have b2:=U av;have aw:=U (ao.o.below ((bg gb _).trans (G.2.mono (bg gb _).size)));clear G av F;have F:=aw.o.bf.cell 7;have b3:=aw.o.bf.free 7;simp only[j_,i_,z_,y_] at F))
 have av:m9=m+1:=b2.o;subst av;have q:=U (aw.o.ID 7 (.slice C (m+1) D));have f12:aF (λ b=>b≠w.heap.size/\b≠w.heap.size+1) au (au.setCell ⟨w.heap.size,7,none⟩ (.slice C (m+1) D)):=aF.set _ 7 _ (λ h=>h.1 rfl);have b4:=U f12;clear f12 F b3 bZ b0;generalize au.setCell ⟨w.heap.size,7,none⟩ (.slice C (m+1) D)=ax at*;have M:=q.o.bf.cell 0;have y:=q.o.bf.cell 1;have af:=q.o.bf.cell 2;have ag:=q.o.bf.cell 3;have ai:=q.o.bf.cell 4;have aj:=q.o.bf.cell 5;have ak:=q.o.bf.cell 6;have F:=q.o.bf.cell 7;simp only[j_,i_,z_,y_] at M y af ag ai aj ak F;have b5:=q.o.aU.cell 0;have b6:=q.o.aU.cell 1;have b7:=q.o.aU.cell 2;have b8:=q.o.aU.cell 3;have b9:=q.o.aU.cell 4;have b':=q.o.aU.cell 5;have ca:=q.o.aU.cell 6;have cc:=q.o.aU.cell 7;have H:=q.o.aU.free;have cq:=H 0;have cr:=H 1;have ct:=H 2;have cu:=H 3;have cv:=H 4;have cw:=H 5;have cx:=H 6;have cy:=H 7;simp only[mU,z_,y_] at b5 b6 b7 b8 b9 b' ca cc;clear H
 go_wp2_with fail
 have cd:=aM.rL (show aM ax (w.heap.size+1) 47 [.int .i64 0,.slice none 0 0,.slice none 0 0,.slice none 0 0,.slice none 0 0,.int .i64 0,.slice none 0 0,.slice none 0 0] from q.o.aU) (.int .i64 n) (.slice z (k+1) B) (.slice j0 nl cl) (.slice A (n+1) c) (.slice A' n c') (.int .i64 s.aW) (.slice gZ (n+1) gJ) (.slice C (m+1) D);have J:∀(u:World)(i:Nat)(v:Value),aF (λ b=>b≠w.heap.size/\b≠w.heap.size+1) u (u.setCell ⟨w.heap.size+1,i,none⟩ v):=λ u i v=>aF.set _ i v (λ h=>h.2 rfl)
 have f1:aF (λ b=>b≠w.heap.size/\b≠w.heap.size+1) ax _:=((((((((J ax 0 (.int .i64 n)).trans (J _ 1 (.slice z (k+1) B))).trans (J _ 2 (.slice j0 nl cl))).trans (J _ 3 (.slice A (n+1) c))).trans (J _ 4 (.slice A' n c'))).trans (J _ 5 (.int .i64 s.aW))).trans (J _ 6 (.slice gZ (n+1) gJ))).trans (J _ 7 (.slice C (m+1) D)))
 generalize ((((((((ax.setCell ⟨w.heap.size+1,0,none⟩ (.int .i64 n)).setCell ⟨w.heap.size+1,1,none⟩ (.slice z (k+1) B)).setCell ⟨w.heap.size+1,2,none⟩ (.slice j0 nl cl)).setCell ⟨w.heap.size+1,3,none⟩ (.slice A (n+1) c)).setCell ⟨w.heap.size+1,4,none⟩ (.slice A' n c')).setCell ⟨w.heap.size+1,5,none⟩ (.int .i64 s.aW)).setCell ⟨w.heap.size+1,6,none⟩ (.slice gZ (n+1) gJ)).setCell ⟨w.heap.size+1,7,none⟩ (.slice C (m+1) D))=W at*;refine O3 rfl rfl rfl cd ?_;have K:=b4.o.trans f1;have I:Below w.heap.size w W:=aw.o.kZ.trans ⟨K.os,K.tape,K.output,K.size,λ b p=>K.keep b ⟨by omega,by omega⟩⟩;have cz:w.heap.size+1<t.heap.size:=T.o.aU.lt;have cA:w.heap.size+1<aA.heap.size:=R.o.aU.lt;have cB:w.heap.size+1<gb.heap.size:=ao.o.aU.lt;have bA:Below gb.heap.size gb au:=(bg gb _).trans (bz.o.2.mono (bg gb _).size);have V:W.ownsRow (t.heap.size+1) 25 1 (.slice z (k+1) B) (k+1) ((rs++[(⟨j,jj,c2,ah⟩:Row)]).map kF):=mK (lU aG.o.1 bA) (λ b p=>K.keep b (by have:=(aG.o.1.lt b p).1;omega));have Q:W.ownsRow (gb.heap.size+1) 126 2 (.slice C (m+1) D) (m+1) (nk (s.aD++[(⟨1,⟨j,jj,c2,ah⟩⟩:mG)])):=by
  have h1:=bz.o.1;have aa:(gb.alloc (.cells #[.int .i64 1,.slice j jj c2] 126)).heap.size=gb.heap.size+1:=by simp
  rw[aa] at h1;exact mK h1 (λ b p=>K.keep b (by have:=(h1.lt b p).1;omega))
 have ay:aN W j jj c2 ah:=by
  refine(aG.o.2.below bA).iQ K (λ b e L=>?_);have h1:=(S.o.1.lt b ((aq.own ⟨j,_,c2⟩).trans e)).1;omega
 have cC:=d.o.2.2.2.2.2.2.2.2.1;have cf:=d.o.2.2.1;have bB:=d.o.2.2.2.2.1;have cg:=d.o.2.2.2.2.2.2.2.1;have bC:=mc.lq V (λ r P=>by
  rcases u_.1 P with h1|h1
  ·exact(d.o.2.2.2.2.2.2.2.2.2.2.2.2.2.2.rows r h1).below I
  ·rw[v_.1 h1];exact ay) (by omega)
 have bD:(rs++[(⟨j,jj,c2,ah⟩:Row)]).map (·.ah)=s.gs++[ah]:=by
  rw[Zi,d.o.2.2.2.2.2.2.2.2.2.2.2.2.2.1];rfl
 rw[bD] at bC;have ar:=nM.lq Q (by omega) (λ r P=>by
  rcases u_.1 P with h1|h1
  ·exact(d.o.1.aD.rows r h1).below I
  ·rw[v_.1 h1];exact ay)
 have aI:(s.gs++[ah]).length=k+1:=by simp[cf]
 have X:(s.aD++[(⟨1,⟨j,jj,c2,ah⟩⟩:mG)]).length=m+1:=by simp[bB]
 have ch:=d.o.2.2.2.1;have cD:=d.o.2.1.hk.kM;have cE:=d.o.2.1.hk.pG;have cF:=d.o.2.1.nE;refine⟨⟨n,s.gs++[ah],s.es,s.act,s.ord,s.aW,s.bH,s.aD++[⟨1,⟨j,jj,c2,ah⟩⟩]⟩,z,B,C,D,?_,⟨by rw[aI];exact bC,d.o.1.es.below I,d.o.1.act.below I,d.o.1.ord.below I,d.o.1.bH.below I,by rw[X];exact ar⟩,d.o.2.1.add d.o.2.2.2.2.2.2.1 cg _ rfl,rfl,rfl,rfl,⟨_,rfl,rfl,rfl⟩,by rw[X,bB],I,⟨.inr ?_,λ e=>?_⟩,λ e=>?_,?_⟩
 ·show _=Ending.returned (.tuple #[qC n z (s.gs++[ah]).length B j0 s.es.length cl A (n+1) c A' n c' s.aW gZ (n+1) gJ C (s.aD++[(⟨1,⟨j,jj,c2,ah⟩⟩:mG)]).length D,.int .i64 0]);rw[aI,X,ch];rfl
 ·show W.ownsRow _ 126 2 (.slice C (s.aD++[(⟨1,⟨j,jj,c2,ah⟩⟩:mG)]).length D) _ _;rw[X];exact yQ Q (by omega)
 ·rcases Q.2 with⟨h1,N⟩|⟨g,cap,cur,h1,_⟩
  ·omega
  ·injection h1 with h1;rw[e] at h1;cases h1
 ·rcases V.2 with⟨h1,N⟩|⟨g,cap,cur,h1,_⟩
  ·omega
  ·injection h1 with h1;rw[e] at h1;cases h1
 ·intro bq aJ bE W' f;have aK:=d.o.2.2.2.2.2.2.2.2.2.2.2.2.2.2;have cj:=aK.zx (λ ck h1=>(bE ck h1).gs);have bG:aF (λ b=>b<w.heap.size/\¬bq b) w W':=(aF.q4 I λ b p=>p.1).trans (f.mono λ b p=>⟨by have:=I.size;omega,p.2⟩);have Y:=bE W' bG;have cm:W'.ownsRow (t.heap.size+1) 25 1 (.slice z (k+1) B) (k+1) ((rs++[(⟨j,jj,c2,ah⟩:Row)]).map kF):=mK V (λ b p=>f.keep b ⟨(V.lt b p).2,λ h=>by have h1:=aJ b h;have N:=(V.lt b p).1;omega⟩);have cn:W'.ownsRow (gb.heap.size+1) 126 2 (.slice C (m+1) D) (m+1) (nk (s.aD++[(⟨1,⟨j,jj,c2,ah⟩⟩:mG)])):=mK Q (λ b p=>f.keep b ⟨(Q.lt b p).2,λ h=>by have h1:=aJ b h;have N:=(Q.lt b p).1;omega⟩);have bI:aN W' j jj c2 ah:=ay.iQ f (λ b e L=>⟨ay.lt b e L,λ h=>by
   have h1:=aJ b h;have N:=(S.o.1.lt b ((aq.own ⟨j,_,c2⟩).trans e)).1;omega⟩)
  have bJ:=mc.lq cm (λ r P=>by
   rcases u_.1 P with h1|h1
   ·exact(aK.rows r h1).iQ bG (λ b e L=>⟨(aK.rows r h1).lt b e L,cj r h1 b e L⟩)
   ·rw[v_.1 h1];exact bI) (by omega)
  rw[bD] at bJ;have cp:=nM.lq cn (by omega) (λ r P=>by
   rcases u_.1 P with h1|h1
   ·exact Y.aD.rows r h1
   ·rw[v_.1 h1];exact bI)
  exact⟨by rw[aI];exact bJ,Y.es,Y.act,Y.ord,Y.bH,by rw[X];exact cp⟩
end
section
open Go.RowKit Go.Shelf Go.Sort Go.Lib
theorem AS{IE:Nat}{e:TypeId}{s:Nat}{xs:List Value}(h:w.ownsRow base e s v n xs)(b:IE<=base):w.ownsRow IE e s v n xs:=by
 refine⟨h.1,?_⟩;rcases h.2 with h1|⟨g,cap,cur,h1,c,d⟩
 ·exact Or.inl h1
 ·exact Or.inr ⟨g,cap,cur,h1,Z3 b c,d⟩
structure CJ(w:World)(n:Nat)(s:j6)(gI:Option Addr)(bn:Nat)(j0:Option Addr)(cl:Nat)(A:Option Addr)(c:Nat)(A':Option Addr)(c':Nat)(gZ:Option Addr)(gJ:Nat)(bp:Option Addr)(gw:Nat):Prop where
 aO:qB w s gI bn j0 cl A c A' c' gZ gJ bp gw
 O:ox n s
 iV:s.es=[]
 pl:s.aD.length=s.gs.length
 qm:bp=none->s.aD.length=0/\gw=0
 nh:gI=none->s.gs.length=0/\bn=0
 pp:Plain bp
 yw:Plain gI
def qU(n:Nat):j6:=⟨n,[],[],rO (n+1),si n,1,ug (n+1),[]⟩
theorem CJ.new{w:World}{n:Nat}{A:Option Addr}{c:Nat}{A':Option Addr}{c':Nat}{gZ:Option Addr}{gJ:Nat}(k:n<=10)(d:aN w A (n+1) c (rO (n+1)))(f:aN w A' n c' (si n))(i:kS w gZ (n+1) gJ (ug (n+1))):
  CJ w n (qU n) none 0 none 0 A c A' c' gZ gJ none 0:=by
 have b:(ug (n+1)).length=n+1:=by simp[ug]
 refine⟨⟨mc.nil _ _ _ (s_ _),⟨rfl,s_ _,by simp[qU],s_ _,λ h=>(by simp[qU] at h),λ e he=>(by simp[qU] at he)⟩,?_,?_,?_,⟨rfl,s_ _,by simp[qU],s_ _,λ h=>(by simp[qU] at h),λ e he=>(by simp[qU] at he)⟩⟩,?_,rfl,rfl,λ _=>⟨rfl,rfl⟩,λ _=>⟨rfl,rfl⟩,.inl rfl,.inl rfl⟩
 ·show aN w A (rO (n+1)).length c _;rw[vt];exact d
 ·show aN w A' (si n).length c' _;rw[wJ];exact f
 ·show kS w gZ (ug (n+1)).length gJ _;rw[b];exact i
 ·refine⟨rfl,by simp[qU],λ g j=>(by simp[qU] at j),q9.new n (by omega),b,?_,λ e he=>(by simp[qU] at he),λ e he=>(by simp[qU] at he),List.Pairwise.nil,λ p hp=>(by simp[qU] at hp)⟩;simp[qU,ug,jr]
theorem aF.eight(v0 v1 v2 v3 v4 v5 v6 d:Value):aF (λ b=>b≠B) W ((((((((W.setCell ⟨B,0,none⟩ v0).setCell ⟨B,1,none⟩ v1).setCell ⟨B,2,none⟩ v2).setCell ⟨B,3,none⟩ v3).setCell ⟨B,4,none⟩ v4).setCell ⟨B,5,none⟩ v5).setCell ⟨B,6,none⟩ v6).setCell ⟨B,7,none⟩ d):=by
 have c:∀(u:World)(i:Nat)(v:Value),aF (λ b=>b≠B) u (u.setCell ⟨B,i,none⟩ v):=λ u i v=>aF.set _ i v (λ h=>h rfl)
 exact(((((((c W 0 v0).trans (c _ 1 v1)).trans (c _ 2 v2)).trans (c _ 3 v3)).trans (c _ 4 v4)).trans (c _ 5 v5)).trans (c _ 6 v6)).trans (c _ 7 d)
end
section
open Go.RowKit Go.Shelf
theorem O5(O:ox n s)(ab:n<=10)(D:qB w s gI bn j0 cl A c A' c' gZ gJ bp gw)(E:aN w l6 jj c0 ah)(l:¬lB n [ah]=0):
  Calls x_ 46 #[qC n gI s.gs.length bn j0 s.es.length cl A (n+1) c A' n c' s.aW gZ (n+1) gJ bp s.aD.length gw,.slice l6 jj c0] w λ e W=>e=.returned (.tuple #[.agg #[.int .i64 0,.slice none 0 0,.slice none 0 0,.slice none 0 0,.slice none 0 0,.int .i64 0,.slice none 0 0,.slice none 0 0],.int .i64 140])/\Below w.heap.size w W:=by
 obtain⟨i,p⟩:∃x,s.gs.length=x:=⟨_,rfl⟩
 obtain⟨nl,q⟩:∃x,s.es.length=x:=⟨_,rfl⟩
 obtain⟨j,r⟩:∃x,s.aD.length=x:=⟨_,rfl⟩
 have ad:bF (∀W:World,Below w.heap.size w W->Calls x_ 49 #[qC n gI i bn j0 nl cl A (n+1) c A' n c' s.aW gZ (n+1) gJ bp j gw] W λ e w'=>e=.returned (.int .i64 0)/\Below W.heap.size W w'):=U λ W F=>by
  have:=CD O ab (D.below F);rw[p,q,r] at this;exact this
 have ae:=U E;obtain⟨t,u⟩:∃e,lB n [ah]=e:=⟨_,rfl⟩
 rw[u] at l;have af:=U u;have ay:(t==0)=false:=by simpa using l
 have z2:(t !=0)=true:=by simpa using l
 have z3:decide (t=0)=false:=decide_eq_false l;rw[p,q,r];clear D O E p q r u;unfold qC at*;go_enter Tryz.func46,Tryz.ntmps46
 go_upto_region 1 with fail
 have d:qT w ((w.alloc (.cells #[.int .i64 n,.slice gI i bn,.slice j0 nl cl,.slice A (n+1) c,.slice A' n c',.int .i64 s.aW,.slice gZ (n+1) gJ,.slice bp j gw] 47)).alloc (.cells #[.int .i64 0,.slice none 0 0,.slice none 0 0,.slice none 0 0,.slice none 0 0,.int .i64 0,.slice none 0 0,.slice none 0 0] 47)) [.int .i64 n,.slice gI i bn,.slice j0 nl cl,.slice A (n+1) c,.slice A' n c',.int .i64 s.aW,.slice gZ (n+1) gJ,.slice bp j gw] mU:=qT.init w [.int .i64 n,.slice gI i bn,.slice j0 nl cl,.slice A (n+1) c,.slice A' n c',.int .i64 s.aW,.slice gZ (n+1) gJ,.slice bp j gw] mU;generalize ((w.alloc (.cells #[.int .i64 n,.slice gI i bn,.slice j0 nl cl,.slice A (n+1) c,.slice A' n c',.int .i64 s.aW,.slice gZ (n+1) gJ,.slice bp j gw] 47)).alloc (.cells #[.int .i64 0,.slice none 0 0,.slice none 0 0,.slice none 0 0,.slice none 0 0,.int .i64 0,.slice none 0 0,.slice none 0 0] 47))=ag at*;have k:=d.bf.cell 0;have G:=d.bf.cell 1;have H:=d.bf.cell 2;have I:=d.bf.cell 3;have J:=d.bf.cell 4;have K:=d.bf.cell 5;have L:=d.bf.cell 6;have M:=d.bf.cell 7;simp only[z_,y_] at k G H I J K L M;have ai:=U (ad.o ag d.kZ);have aj:=U d;clear d
 go_upto_region 4 with(go_at_call 49;refine ai.o.mono ?_;rintro e m ⟨rfl,N⟩;have y:=U (aj.o.below N);clear k G H I J K L M N;have k:=y.o.bf.cell 0;simp only[z_] at k)
 have P:=ae.o.below y.o.kZ;have ak:=U (vP n (some ⟨m.heap.size,0,none⟩) 1 1 [ah] _ (nU.AN m ⟨l6,jj,c0,ah⟩ P).CZ);clear P
 go_upto_region 5 with(go_at_call 107;refine ak.o.mono ?_;rintro e C ⟨rfl,Q⟩;rw[af.o];have f:=U (y.o.below ((bg m _).trans (Q.mono (bg m _).size)));clear k Q)
 have g:=f.o.aU.free;have az:=g 0;have aA:=g 1;have aB:=g 2;have aC:=g 3;have aE:=g 4;have aG:=g 5;have aH:=g 6;have aI:=g 7;have al:=f.o.aU.cell 0;have an:=f.o.aU.cell 1;have ao:=f.o.aU.cell 2;have aq:=f.o.aU.cell 3;have ar:=f.o.aU.cell 4;have au:=f.o.aU.cell 5;have av:=f.o.aU.cell 6;have aw:=f.o.aU.cell 7;simp only[mU,z_,y_] at al an ao aq ar au av aw;clear g
 go_wp2_with fail
 have f1:=aF.eight (W:=C) (B:=w.heap.size+1) (.int .i64 0) (.slice none 0 0) (.slice none 0 0) (.slice none 0 0) (.slice none 0 0) (.int .i64 0) (.slice none 0 0) (.slice none 0 0);have ax:=aM.rL (show aM C (w.heap.size+1) 47 [.int .i64 0,.slice none 0 0,.slice none 0 0,.slice none 0 0,.slice none 0 0,.int .i64 0,.slice none 0 0,.slice none 0 0] from f.o.aU) (.int .i64 0) (.slice none 0 0) (.slice none 0 0) (.slice none 0 0) (.slice none 0 0) (.int .i64 0) (.slice none 0 0) (.slice none 0 0);generalize ((((((((C.setCell ⟨w.heap.size+1,0,none⟩ (.int .i64 0)).setCell ⟨w.heap.size+1,1,none⟩ (.slice none 0 0)).setCell ⟨w.heap.size+1,2,none⟩ (.slice none 0 0)).setCell ⟨w.heap.size+1,3,none⟩ (.slice none 0 0)).setCell ⟨w.heap.size+1,4,none⟩ (.slice none 0 0)).setCell ⟨w.heap.size+1,5,none⟩ (.int .i64 0)).setCell ⟨w.heap.size+1,6,none⟩ (.slice none 0 0)).setCell ⟨w.heap.size+1,7,none⟩ (.slice none 0 0))=W at*;have z:=ax.cell;have R:=z 0;have S:=z 1;have T:=z 2;have V:=z 3;have X:=z 4;have Y:=z 5;have Z:=z 6;have aa:=z 7;simp only[z_,y_] at R S T V X Y Z aa;refine bodyPost_ret (v:=.tuple #[.agg #[.int .i64 0,.slice none 0 0,.slice none 0 0,.slice none 0 0,.slice none 0 0,.int .i64 0,.slice none 0 0,.slice none 0 0],.int .i64 140]) (by simp[results,Tryz.results46,go_sem,R,S,T,V,X,Y,Z,aa]) rfl ?_;exact⟨rfl,f.o.kZ.trans ⟨f1.os,f1.tape,f1.output,f1.size,λ b F=>f1.keep b (by omega)⟩⟩
end
section
open Go.RowKit Go.Shelf Go.Lib
structure gD where
 n:Int
 g:aq
 l:aq
 a:aq
 o:aq
 b:Int
 h:aq
 p:aq
def gD.L(t:gD):List Value:=[.int .i64 t.n,.slice t.g.A t.g.n t.g.c,.slice t.l.A t.l.n t.l.c,.slice t.a.A t.a.n t.a.c,.slice t.o.A t.o.n t.o.c,.int .i64 t.b,.slice t.h.A t.h.n t.h.c,.slice t.p.A t.p.n t.p.c]
def pV(t:gD)(b:Int):Value:=.tuple #[.agg t.L.toArray,.int .i64 b]
end
section
open Go.Shelf
def Tryz.O7:Go.Shelf.Ren:=⟨λ|45=>80|n=>n,λ|22=>25|23=>3|3=>3|4=>4|0=>0|n=>n,λ|n=>n⟩
theorem Tryz.QM:Go.Proofs.SlLaysE.n45 x_ Tryz.O7:={
 mixed:=by kernel_rfl
 f45:=⟨Tryz.f80.name,by decide,Tryz.func80.trans (congrArg some (by kernel_rfl))⟩
 t0:=Tryz.underlying0
 a0:=Tryz.isAgg0
 z0:=Tryz.sizeOf0
 v0:=Tryz.zeroValue0
 t3:=c_
 a3:=Tryz.isAgg3
 z3:=Tryz.sizeOf3
 v3:=Tryz.zeroValue3
 t4:=Tryz.underlying4
 a4:=Tryz.isAgg4
 z4:=Tryz.sizeOf4
 v4:=Tryz.zeroValue4
 t22:=Tryz.underlying25
 a22:=Tryz.isAgg25
 z22:=Tryz.sizeOf25
 v22:=Tryz.zeroValue25
 a23:=Tryz.isAgg3
 z23:=Tryz.sizeOf3}
open Go.RowKit Go.Sort Go.Lib
end
section
open Go.RowKit
section
variable {n:Nat}{ls:List (List Int)}(aB:lB n ls=0)
include aB
theorem IF{ax:List Int}{m:List Bool}(hl:∀x∈ax,gF n x)(h:ri ls n ax m):vQ n ls m=true/\Eo m ax=true:=
 ⟨(En aB).2 h.sat,(N0 h.len hl).2 h.ax⟩
end
end
section
open Go.RowKit Go.Shelf Go.Sort Go.Lib
theorem uM{bf:Nat}{W':World}(h:Below bf w W)(f:aF (λ b=>b≠B) W W')(d:bf<=B):Below bf w W':=
 ⟨f.os.trans h.os,f.tape.trans h.tape,f.output.trans h.output,Z3 h.size f.size,λ b c=>(f.keep b (by omega)).trans (h.block b c)⟩
end
section
open Go.RowKit Go.Shelf Go.Sort Go.Lib
def Ah(n:Nat)(s:j6)(mF:Option Addr)(c3:Nat)(kD:Option Addr)(c4:Nat)(k4:Option Addr)(c5:Nat)(gI:Option Addr)(bn:Nat)(b:Option Addr)(c:Nat):gD:=
 ⟨n,⟨gI,s.gs.length,bn⟩,⟨none,s.es.length,0⟩,⟨mF,n+1,c3⟩,⟨kD,n,c4⟩,s.aW,⟨k4,n+1,c5⟩,⟨b,s.aD.length,c⟩⟩
def qa:gD:=⟨0,lX,lX,lX,lX,0,lX,lX⟩
section
variable {QN:Nat->Prop}{jA n:Nat}{s:j6}{ah:List Int}{mF:Option Addr}{c3:Nat}{kD:Option Addr}{c4:Nat}{k4:Option Addr}{c5:Nat}{QO:Int}{t:gD}{p:Nat×Nat}{w w':World}
end
def yx(n:Nat)(ah:List Int):Int:=if lB n [ah]=0 then 0 else 140
end
section
open Go.RowKit
theorem O8(x:Int)(A:Option Addr)(n c:Nat)(d:List Bool)(w:World)(h:kS w A n c d):
  Calls x_ 117 #[.int .i64 x,.slice A n c] w λ e w'=>e=.returned (.bool (oa d x))/\w=w':=by
 have hl:=h.len
 cases f:lz x 65536
 ·rw[Fl f];have g:=U f;clear f h hl;go_enter Tryz.func117,Tryz.ntmps117
  go_wp2_with (go_at_call 115;refine(xK false x 65536 w (by omega) (by omega) g.o).mono ?_;rintro e w' ⟨rfl,rfl⟩)
  go_ret;exact⟨rfl,rfl⟩
 ·rw[C1 f];have q:=s8.1 f;have g:=U f;obtain⟨k,hk⟩:∃k,x.natAbs=k:=⟨_,rfl⟩
  rw[hk];clear f;have B:=h.mP;rcases(show x=(k:Int)/\0<k\/x= -(k:Int)/\0<k by omega) with⟨rfl,r⟩|⟨rfl,r⟩
  ·have hp:(0:Int)<(k:Int):=by omega
   have m:decide ((0:Int)<(k:Int))=true:=decide_eq_true hp;have s:wrap64 (-(k:Int))= -(k:Int):=by unfold wrap64;omega
   have C: -(k:Int)<(k:Int):=(by omega);have t:max (k:Int) (-(k:Int))=(k:Int):=(by omega);have u:max (-(k:Int)) (k:Int)=(k:Int):=(by omega)
   have y:¬(k:Int)< -(k:Int):=by omega
   rw[m];clear hk q
   by_cases i:k<n
   ·obtain⟨b,off,rfl,z,j⟩:=h.cells (by omega);have l:=j k i;have e:d.getD k false=uP d k:=rfl;rw[e] at l;generalize uP d k=v at l⊢;have p:(k:Int)<(n:Int):=by omega
    clear j h hl e
    cases v
    all_goals
     go_enter Tryz.func117,Tryz.ntmps117
     go_wp2_with (go_at_call 115;refine(xK true _ 65536 w (by omega) (by omega) g.o).mono ?_;rintro e w' ⟨rfl,rfl⟩)
     go_ret;exact⟨rfl,rfl⟩
   ·rw[C3 hl i];have p:¬(k:Int)<(n:Int):=by omega
    clear h hl;go_enter Tryz.func117,Tryz.ntmps117
    go_wp2_with (go_at_call 115;refine(xK true _ 65536 w (by omega) (by omega) g.o).mono ?_;rintro e w' ⟨rfl,rfl⟩)
    go_ret;exact⟨rfl,rfl⟩
  ·have hp:¬(0:Int)< -(k:Int):=by omega
   have m:decide ((0:Int)< -(k:Int))=false:=decide_eq_false hp;have s:wrap64 (k:Int)=(k:Int):=by unfold wrap64;omega
   have y:¬(k:Int)< -(k:Int):=(by omega);have t:max (k:Int) (-(k:Int))=(k:Int):=(by omega);have u:max (-(k:Int)) (k:Int)=(k:Int):=(by omega)
   have D: -(k:Int)<(k:Int):=by omega
   rw[m];clear hk q
   by_cases i:k<n
   ·obtain⟨b,off,rfl,z,j⟩:=h.cells (by omega);have l:=j k i;have e:d.getD k false=uP d k:=rfl;rw[e] at l;generalize uP d k=v at l⊢;have p:(k:Int)<(n:Int):=by omega
    clear j h hl e
    cases v
    all_goals
     go_enter Tryz.func117,Tryz.ntmps117
     go_wp2_with (go_at_call 115;refine(xK true _ 65536 w (by omega) (by omega) g.o).mono ?_;rintro e w' ⟨rfl,rfl⟩)
     go_ret;exact⟨rfl,rfl⟩
   ·rw[C3 hl i];have p:¬(k:Int)<(n:Int):=by omega
    clear h hl;go_enter Tryz.func117,Tryz.ntmps117
    go_wp2_with (go_at_call 115;refine(xK true _ 65536 w (by omega) (by omega) g.o).mono ?_;rintro e w' ⟨rfl,rfl⟩)
    go_ret;exact⟨rfl,rfl⟩
theorem zF(r:Bool)(x:Int)(A:Option Addr)(n c:Nat)(b:List Bool)(w:World)(h:kS w A n c b)(d:oa b x=r):
  Calls x_ 117 #[.int .i64 x,.slice A n c] w λ e w'=>e=.returned (.bool r)/\w=w':=by
 rw[<-d];exact O8 x A n c b w h
theorem O9(A:Option Addr)(n c:Nat)(f:List Int)(A':Option Addr)(j c':Nat)(d:List Bool)(w:World)(h:aN w A n c f)(h':kS w A' j c' d):
  Calls x_ 116 #[.slice A n c,.slice A' j c'] w λ e w'=>e=.returned (.bool (oF d f))/\w=w':=by
 have t:=h.small;have H:=U h;have p:=U h';clear h h';go_enter Tryz.func116,Tryz.ntmps116
 go_wp2
 go_loop [5] (λ i=>∃k:Nat,k<=n/\i=.int .i64 k/\(f.take k).any (oa d)=false) (λ i=>n-(intOf i).toNat)
 case atStart=>exact⟨0,s_ _,rfl,rfl⟩
 case round=>
  obtain⟨k,hk,rfl,q⟩:=hrel;have r:=U q;clear q
  by_cases m:k<n
  ·obtain⟨b,off,rfl,u,s⟩:=H.o.cells (by omega);have v:=s k m;clear s;have hl:k<f.length:=by rw[H.o.len];exact m
   cases l:oa d (jv f k)
   ·have g:=U l;clear l
    go_wp2_with (go_at_call 117;refine(zF false _ A' j c' d _ p.o g.o).mono ?_;rintro e w' ⟨rfl,rfl⟩)
    go_round
    case rel=>exact⟨k+1,by omega,by go_num,Ff hl g.o r.o⟩
    case measure=>simp[intOf];omega
   ·have g:=U l;clear l
    go_wp2_with (go_at_call 117;refine(zF true _ A' j c' d _ p.o g.o).mono ?_;rintro e w' ⟨rfl,rfl⟩)
    go_ret;exact⟨lS (Fe hl g.o).symm,rfl⟩
  ·go_wp2;go_ret;exact⟨lS (Fg H.o.len m r.o).symm,rfl⟩
theorem IG(r:Bool)(A:Option Addr)(n c:Nat)(b:List Int)(A':Option Addr)(d c':Nat)(f:List Bool)(w:World)(h:aN w A n c b)(h':kS w A' d c' f)(g:oF f b=r):
  Calls x_ 116 #[.slice A n c,.slice A' d c'] w λ e w'=>e=.returned (.bool r)/\w=w':=by
 rw[<-g];exact O9 A n c b A' d c' f w h h'
def rN(n k j:Nat):List Bool:=(List.range (n+1)).map λ v=>decide (1<=v)&&decide (v<=j)&&vk k (v-1)
theorem AT(n k j:Nat):(rN n k j).length=n+1:=by simp[rN]
theorem AU(n k j v:Nat)(h:v<(rN n k j).length):(rN n k j)[v]=(decide (1<=v)&&decide (v<=j)&&vk k (v-1)):=by simp[rN]
theorem Pa(n k v:Nat)(h:v+1<(nN n k).length):(nN n k)[v+1]=vk k v:=by simp[nN]
theorem II(n k:Nat):rN n k 0=Zg (n+1) false:=by
 refine Zm (by simp[rN]) λ v h1 b=>?_
 rw[AU,List.getElem_replicate]
 by_cases h:1<=v
 ·rw[decide_eq_false (show¬v<=0 by omega)];simp
 ·rw[decide_eq_false h];simp
theorem IJ(n k j:Nat)(b:j<n):(rN n k j).set (j+1) (vk k j)=rN n k (j+1):=by
 refine Zm (by simp[rN]) λ v h1 c=>?_
 rw[List.getElem_set,AU];split
 ·rename_i e;subst e;rw[AU,decide_eq_true (show 1<=j+1 by omega),decide_eq_true (show j+1<=j+1 by omega)];rfl
 ·rename_i e;rw[AU]
  by_cases h:v<=j
  ·rw[decide_eq_true h,decide_eq_true (show v<=j+1 by omega)]
  ·rw[decide_eq_false h,decide_eq_false (show¬v<=j+1 by omega)]
theorem IK(n k:Nat):rN n k n=nN n k:=by
 refine Zm (by simp[rN,nN]) λ v h1 b=>?_
 rw[AU];rw[AT] at h1
 cases v with
 |zero=>simp[nN]
 |succ v=>
  rw[Pa,decide_eq_true (show 1<=v+1 by omega),decide_eq_true (show v+1<=n by omega)];rfl
theorem IL(k j:Nat):vk k j=decide (((k/2^j:Nat):Int)%2=1):=by
 unfold vk;rw[decide_eq_decide];omega
end
section
open Go.RowKit Go.Shelf Go.Sort Go.Lib
def z24(x:Int)(A:Option Addr)(nl cl:Nat):Obj:=.cells #[.int .i64 x,.slice A nl cl] 24
theorem IM(h:(l.map aI).Nodup):l.Nodup:=by
 have h:=List.pairwise_map.1 h;exact h.imp λ b e=>b (by rw[e])
end
section
open Go.RowKit Go.Lib
structure kY where
 k:Int
 m:aq
 o:aq
 s:Int
def kY.L(t:kY):List Value:=[.int .i64 t.k,.slice t.m.A t.m.n t.m.c,.slice t.o.A t.o.n t.o.c,.int .i64 t.s]
theorem AV(w:World)(t:gD)(q:kY):Below w.heap.size w ((w.alloc (.cells t.L.toArray 47)).alloc (.cells q.L.toArray 30))/\aM ((w.alloc (.cells t.L.toArray 47)).alloc (.cells q.L.toArray 30)) (w.heap.size+1) 30 q.L:=by
 have b:=bg w (.cells t.L.toArray 47);have z0:(w.alloc (.cells t.L.toArray 47)).heap.size=w.heap.size+1:=by simp
 generalize w.alloc (.cells t.L.toArray 47)=w1 at*;have h1:=aM.new w1 30 q.L;have c:=bg w1 (.cells q.L.toArray 30);rw[z0] at h1;exact⟨b.trans (c.mono (by omega)),h1⟩
end
section
open Go.RowKit Go.Shelf Go.Lib
def xF:kY:=⟨0,lX,lX,0⟩
def sd(t:gD)(u:kY)(b:Int):Value:=.tuple #[.agg t.L.toArray,.agg u.L.toArray,.int .i64 b]
theorem zG{L:List Value}{aO:Ending->World->Prop}(S:rM w W L mU vn)(c:a.defers=[])(d:a.tmps.getD 6 undef=.pointer (some ⟨w.heap.size+1,0,none⟩))(e:a.tmps.getD 7 undef=.pointer (some ⟨w.heap.size+1+1,0,none⟩))(f:a.tmps.getD 8 undef=.int .i64 mA)
  (h:∀W',Below w.heap.size w W'->aO (.returned (sd qa xF mA)) W'):bodyPost x_ Tryz.f36 aO .ret a (vL W (w.heap.size+1) (w.heap.size+1+1) (.int .i64 0) (.slice none 0 0) (.slice none 0 0) (.slice none 0 0) (.slice none 0 0) (.int .i64 0) (.slice none 0 0) (.slice none 0 0) (.int .i64 0) (.slice none 0 0) (.slice none 0 0) (.int .i64 0)):=by
 have T:=vL.ok S.aU S.bl (by omega) (.int .i64 0) (.slice none 0 0) (.slice none 0 0) (.slice none 0 0) (.slice none 0 0) (.int .i64 0) (.slice none 0 0) (.slice none 0 0) (.int .i64 0) (.slice none 0 0) (.slice none 0 0) (.int .i64 0);exact Ic c d e f T.1 T.2.1 (h _ (S.kZ.trans ⟨T.2.2.os,T.2.2.tape,T.2.2.output,T.2.2.size,λ b g=>T.2.2.keep b ⟨by omega,by omega⟩⟩))
def qb(n:Int)(c:List Int)(b:Int):Bool:=rf n c&&decide (0<=b)&&decide (b<=1099511627776)
theorem Pb(t:gD)(n:Nat)(an:n<=65536)(ai:t.n=n)(ao:Option Addr)(nq aq:Nat)(f:List Int)(A:Int)(w:World)(aj:aN w ao nq aq f)(ar:nq<=1000000)(c:qb n f A=false)(au:∀W,Below w.heap.size w W->Calls x_ 49 #[.agg t.L.toArray] W λ e w'=>e=.returned (.int .i64 0)/\Below W.heap.size W w'):
  Calls x_ 36 #[.agg t.L.toArray,.slice ao nq aq,.int .i64 A] w λ e W=>e=.returned (sd qa xF 1)/\Below w.heap.size w W:=by
 have a8:=U au;have u:=U (w_ aj (w_ aj.len (w_ ar c)));have F:=U an;have a':= @run_makeMap x_;obtain⟨ba,⟨G,H,gc⟩,⟨I,J,lc⟩,⟨K,N,ac⟩,⟨O,on,P⟩,Q,⟨R,T,V⟩,⟨X,Y,Z⟩⟩:=t;have ai:ba=n:=ai;subst ai;clear au aj ar c an;unfold gD.L at*;dsimp only at*;go_enter Tryz.func36,Tryz.ntmps36
 go_upto_region 1 with fail
 have B:=rM.init w [.int .i64 n,.slice G H gc,.slice I J lc,.slice K N ac,.slice O on P,.int .i64 Q,.slice R T V,.slice X Y Z] mU vn;simp only[mU,vn] at B;generalize ((w.alloc (.cells #[.int .i64 n,.slice G H gc,.slice I J lc,.slice K N ac,.slice O on P,.int .i64 Q,.slice R T V,.slice X Y Z] 47)).alloc (.cells #[.int .i64 0,.slice none 0 0,.slice none 0 0,.slice none 0 0,.slice none 0 0,.int .i64 0,.slice none 0 0,.slice none 0 0] 47)).alloc (.cells #[.int .i64 0,.slice none 0 0,.slice none 0 0,.int .i64 0] 30)=av at*;have l:=B.bf.cell;have aa:=l 0;have aw:=l 1;have ax:=l 2;have ay:=l 3;have az:=l 4;have aA:=l 5;have aB:=l 6;have aC:=l 7;simp only[z_,y_] at aa aw ax ay az aA aB aC;clear l;have bb:=U (a8.o av B.kZ);have bc:bF (rM w av [.int .i64 n,.slice G H gc,.slice I J lc,.slice K N ac,.slice O on P,.int .i64 Q,.slice R T V,.slice X Y Z] mU vn):=U B;clear B
 go_upto_region 5 with(go_at_call 49;refine bb.o.mono ?_;rintro e ab ⟨rfl,aD⟩;have aE:=U (bc.o.below aD);clear aa aw ax ay az aA aB aC aD)
 have bd:=U (aE.o.below (bg ab (.map #[] 0)));have ad:bF (w.heap.size+1+1<ab.heap.size):=U aE.o.bl.lt;have bh:=U (lT.made ab);clear a'
 go_wp2_with fail
 go_loopw [24] (λ i W=>∃k:Nat,i=.int .i64 k/\k<=nq/\lT W ab.heap.size k ((f.take k).map λ x=>(aI x:Int))/\(∀j,j<k->s4 n f j=false)/\rM w W [.int .i64 n,.slice G H gc,.slice I J lc,.slice K N ac,.slice O on P,.int .i64 Q,.slice R T V,.slice X Y Z] mU vn) (λ i _=>nq-(intOf i).toNat)
 case atStart=>exact⟨0,rfl,s_ _,bh.o,λ j aF=>by omega,bd.o⟩
 case round=>
  obtain⟨k,rfl,hk,aG,aH,ak⟩:=hrel;have M:=U aG;have aJ:=U aH;have S:=U ak;have aa:=ak.bf.cell 0;simp only[z_,y_] at aa;have m:=S.o.aU.cell;have aK:=m 0;have aL:=m 1;have aM:=m 2;have aO:=m 3;have aP:=m 4;have aQ:=m 5;have aR:=m 6;have aS:=m 7;simp only[mU,z_,y_] at aK aL aM aO aP aQ aR aS;clear m;have C:=S.o.bl.cell;have v0:=C 0;have v1:=C 1;have v2:=C 2;have v3:=C 3;simp only[vn,z_,y_] at v0 v1 v2 v3;clear C;have p:=S.o.aU.free;have f0:=p 0;have f1:=p 1;have f2:=p 2;have f3:=p 3;have f4:=p 4;have f5:=p 5;have f6:=p 6;have f7:=p 7;clear p;have D:=S.o.bl.free;have g0:=D 0;have g1:=D 1;have g2:=D 2;have g3:=D 3;clear D;clear aG ak aH;have wn:e_.wrap (-(n:Int))= -(n:Int):=by rw[n_];have:=F.o;omega
  have bn:wrap64 (-(n:Int))= -(n:Int):=by unfold wrap64;have:=F.o;omega
  by_cases r:k<nq
  ·have bj:(k:Int)<(nq:Int):=by omega
   have bo:e_.wrap ((k:Int)+1)=(k:Int)+1:=by rw[n_];have:=u.o;omega
   obtain⟨b,off,rfl,c,ae⟩:=(u.o.1.below S.o.kZ).cells (by omega);have bk:=ae k r;have af:k<f.length:=by rw[u.o.2.1];exact r
   obtain⟨x,y⟩:∃x,jv f k=x:=⟨_,rfl⟩
   rw[y] at bk;have s:s4 n f k=(!(vl n x)||hasB ((f.take k).map λ x=>(aI x:Int)) (aI x:Int)):=by unfold s4;rw[y]
   have aT:=U r
   cases q:vl n x with
   |false=>
    have d:x=0\/x≠0/\(n:Int)<x\/x≠0/\¬(n:Int)<x/\x< -(n:Int):=by
     unfold vl at q;rw[Zf,decide_eq_false_iff_not,decide_eq_false_iff_not] at q;omega
    clear ae c y s q r hk af;rcases d with d|⟨d,aV⟩|⟨d,aV,bp⟩
    ·subst d
     go_wp2_with fail
     exact zG S.o rfl rfl rfl rfl λ W' c=>⟨rfl,c⟩
    ·have aW:(x==0)=false:=by simpa using d
     go_wp2_with fail
     exact zG S.o rfl rfl rfl rfl λ W' c=>⟨rfl,c⟩
    ·have aW:(x==0)=false:=by simpa using d
     go_wp2_with fail
     exact zG S.o rfl rfl rfl rfl λ W' c=>⟨rfl,c⟩
   |true=>
    have d:1<=aI x/\aI x<=n/\x≠0/\¬(n:Int)<x/\¬x< -(n:Int):=by
     unfold vl at q;rw[Zl,decide_eq_true_eq,decide_eq_true_eq] at q;unfold aI;omega
    have aW:(x==0)=false:=by simpa using d.2.2.1
    have bq:=d.2.2.2.1;have br:=d.2.2.2.2;have al: -1000000<=x/\x<=1000000:=by have:=F.o;omega
    have aX:=U al;rw[q] at s;obtain⟨v,E⟩:∃v,aI x=v:=⟨_,rfl⟩
    have aY:bF (∀W:World,Calls x_ 97 #[.int .i64 x] W λ e w'=>e=.returned (.int .i64 (v:Int))/\W=w'):=U λ W=>by have:=sM x W aX.o.1 aX.o.2;rw[E] at this;exact this
    rw[E] at d s;have ag:(Lit.int .i64 (v:Int)).wf=true:=D3 _ (by omega) (by have:=F.o;omega);have aZ:=M.o.look ag
    cases ah:hasB ((f.take k).map λ x=>(aI x:Int)) (v:Int) with
    |true=>
     rw[ah] at aZ;clear ae c y s q r hk af d al E ag ah
     go_wp2_with (go_at_call 97;refine(aY.o _).mono ?_;rintro e w' ⟨rfl,rfl⟩)
     exact zG S.o rfl rfl rfl rfl λ W' c=>⟨rfl,c⟩
    |false=>
     rw[ah] at aZ s;obtain⟨bs,bt,a6,o6⟩:=M.o.put (by unfold maxLen;have:=u.o;omega) ag;have z:=U (w_ y (w_ af (w_ a6 (w_ o6 (w_ E (show s4 n f k=false by rw[s];rfl))))));clear ae c y s q r hk af d al E ag ah a6 o6 aK aL aM aO aP aQ aR aS v0 v1 v2 v3 f0 f1 f2 f3 f4 f5 f6 f7 g0 g1 g2 g3
     go_wp2_with (go_at_call 97;refine(aY.o _).mono ?_;rintro e w' ⟨rfl,rfl⟩)
     go_roundw
     case rel=>
      refine⟨k+1,by go_num,by have:=aT.o;omega,?_,λ j aF=>?_,?_⟩
      ·have h1:=z.o.2.2.1;rw[tK f k z.o.2.1,z.o.1,Zi];show lT _ _ _ (_++[(aI x:Int)]);rw[z.o.2.2.2.2.1];exact h1
      ·rcases Nat.lt_or_ge j k with h1|h1
       ·exact aJ.o j h1
       ·obtain rfl:j=k:=by omega
        exact z.o.2.2.2.2.2
      ·have h1:=z.o.2.2.2.1;exact⟨S.o.bf.kept h1 (λ e=>by injection e with e;have:=ad.o;omega),S.o.aU.kept h1 (λ e=>by injection e with e;have:=ad.o;omega),S.o.bl.kept h1 (λ e=>by injection e with e;have:=ad.o;omega),yj S.o.kZ h1 S.o.kZ.size (λ g e=>by injection e with e;have:=ad.o;omega)⟩
     case measure=>have:=aT.o;simp[intOf];omega
  ·have bj:¬(k:Int)<(nq:Int):=by omega
   have a7:rf n f=true:=Ev λ j aF=>aJ.o j (by have:=u.o.2.1;omega)
   have d:A<0\/¬A<0/\(1099511627776:Int)<A:=by
    have h1:=u.o.2.2.2;unfold qb at h1;rw[a7,Bool.true_and,Zf,decide_eq_false_iff_not,decide_eq_false_iff_not] at h1;omega
   clear a7 r hk;rcases d with d|⟨d,aV⟩
   ·go_wp2_with fail
    exact zG S.o rfl rfl rfl rfl λ W' c=>⟨rfl,c⟩
   ·go_wp2_with fail
    exact zG S.o rfl rfl rfl rfl λ W' c=>⟨rfl,c⟩
end
section
open Go.RowKit Go.Shelf Go.Lib
theorem Pc(w:World)(ty:TypeId)(base:Nat)(v:Value)(n:Nat)(xs:List Bool)(e:w.ownsRow base 4 1 v n (nR xs))
  (b c:Nat) (z:Bool) (f:w.cell? ⟨b,0,none⟩=some (.bool z)) (o:n<=1000000) (g:base<=w.heap.size):
  ∃v' w',(Zj #[28,28] ty #[v,.slice (some ⟨b,0,none⟩) 1 c]).run x_ w=.ok v' w'/\n9 w base 4 v (n+1) (nR (xs++[z])) v' w':=by
 obtain⟨i0,i,k,l,m⟩:=info_parts yf;obtain⟨v',w',g1,g2,g3,_,g5⟩:=Zp (P:=x_) w base 28 ty 4 i0 (.bool false) 1 1 Tryz.underlying28 i k l m rfl (by decide) v n (nR xs) e ⟨b,0,none⟩ 1 c [.bool z] rfl (λ j u d=>by
  have p:j<1:=(r_.1 d).1;obtain rfl:j=0:=by omega
  simp only[z_,g_] at d;subst d;rw[b_];exact f) (λ u hu=>by rw[v_.1 hu];rfl) (by unfold maxLen;omega) (by omega) g
 exact⟨v',w',g1,by unfold nR;rw[Zi];exact g2,g3,g5⟩
structure AW(w0:World)(base iP:Nat)(mo mq mH:Value)(l7 no aR:Nat)(xs os:List Int)(mu:List Bool)(y:Int):Prop where
 a:w0.ownsRow base 3 1 mo l7 (gT xs)
 o:w0.ownsRow base 3 1 mq no (gT os)
 p:w0.ownsRow base 4 1 mH aR (nR mu)
 b:aM w0 iP 44 [mo,mq,.int .i64 y]
 AX:mo.ownBlock≠some iP
 AY:mq.ownBlock≠some iP
 AZ:mH.ownBlock≠some iP
 A0:∀g,mo.ownBlock=some g->mq.ownBlock≠some g
 ap:∀g,mo.ownBlock=some g->mH.ownBlock≠some g
 op:∀g,mq.ownBlock=some g->mH.ownBlock≠some g
 l7:l7<=100000
 no:no<=100000
 aR:aR<=100000
 oM:base<=w0.heap.size
def qE(w0:World)(base iP:Nat)(mo mq mH:Value)(l7 no aR:Nat)(xs os:List Int)(mu:List Bool)(y:Int)(L:Nat->Bool)(w:World):Prop:=
 aF (λ b=>b<w0.heap.size/\b≠iP/\mo.ownBlock≠some b/\mq.ownBlock≠some b/\mH.ownBlock≠some b) w0 w/\
 (L 3=false->w.ownsRow base 3 1 mo l7 (gT xs))/\(L 8=false->w.ownsRow base 3 1 mq no (gT os))/\(L 11=false->w.ownsRow base 4 1 mH aR (nR mu))/\
 ∃v0 v1,aM w iP 44 [v0,v1,.int .i64 y]/\(L 13=false->v0=mo)/\(L 15=false->v1=mq)
def rI(i:Nat):Bool:=i==2||i==3||i==7||i==8||i==10||i==11||i==13||i==15
theorem CK(h:rI i=true):i=2\/i=3\/i=7\/i=8\/i=10\/i=11\/i=13\/i=15:=by simpa[rI,or_assoc] using h
def o7(jA base iP:Nat)(mo mq mH:Value)(l7 no aR:Nat)(xs os:List Int)(mu:List Bool)(v:Int)(i:Nat)(p:Nat×Nat)(vals:Nat->Value)(w:World):Prop:=
 if i=2 then∃A c,vals 2=.slice A 1 c/\aN w A 1 c [0]/\∀b,A.map (·.block)=some b->jA<=b
 else if i=7 then∃A c,vals 7=.slice A 1 c/\aN w A 1 c [v]/\∀b,A.map (·.block)=some b->jA<=b
 else if i=10 then∃b c,vals 10=.slice (some ⟨b,0,none⟩) 1 c/\w.cell? ⟨b,0,none⟩=some (.bool false)/\jA<=b/\b<w.heap.size
 else if i=3 then w.ownsRow base 3 1 (vals 3) (l7+1) (gT (xs++[0]))/\∀g,(vals 3).ownBlock=some g->mo.ownBlock=some g\/jA<=g/\p.1<=g/\g<p.2
 else if i=8 then w.ownsRow base 3 1 (vals 8) (no+1) (gT (os++[v]))/\∀g,(vals 8).ownBlock=some g->mq.ownBlock=some g\/jA<=g/\p.1<=g/\g<p.2
 else if i=11 then w.ownsRow base 4 1 (vals 11) (aR+1) (nR (mu++[false]))/\∀g,(vals 11).ownBlock=some g->mH.ownBlock=some g\/jA<=g/\p.1<=g/\g<p.2
 else if i=13 then w.cell? ⟨iP,0,none⟩=some (vals 3)
 else w.cell? ⟨iP,1,none⟩=some (vals 8)
section
variable {jA base iP:Nat}{mo mq mH:Value}{l7 no aR:Nat}{xs os:List Int}{mu:List Bool}{y v:Int}{w w' w0:World}{i:Nat}{p:Nat×Nat}{vals:Nat->Value}{L:Nat->Bool}
def Pd(jA iP:Nat)(mo mq mH:Value)(i b:Nat):Prop:=if i=2\/i=7\/i=10 then jA<=b else if i=3 then mo.ownBlock=some b\/jA<=b else if i=8 then mq.ownBlock=some b\/jA<=b else if i=11 then mH.ownBlock=some b\/jA<=b else b=iP
theorem o7.keep(hs:rI i=true)(j:w.heap.size<=w'.heap.size)(f:∀b,b<w.heap.size->Pd jA iP mo mq mH i b->w'.heap[b]? =w.heap[b]?)(k:iP<w.heap.size)(h:o7 jA base iP mo mq mH l7 no aR xs os mu v i p vals w):o7 jA base iP mo mq mH l7 no aR xs os mu v i p vals w':=by
 rcases CK hs with rfl|rfl|rfl|rfl|rfl|rfl|rfl|rfl
 ·obtain⟨A,c,h1,d,g⟩:=h;exact⟨A,c,h1,d.xu j (λ b e=>f b (d.lt b e (by omega)) (g b e)),g⟩
 ·obtain⟨h1,d⟩:=h;exact⟨mK h1 (λ b e=>f b (h1.lt b e).2 ((d b e).imp id (·.1))),d⟩
 ·obtain⟨A,c,h1,d,g⟩:=h;exact⟨A,c,h1,d.xu j (λ b e=>f b (d.lt b e (by omega)) (g b e)),g⟩
 ·obtain⟨h1,d⟩:=h;exact⟨mK h1 (λ b e=>f b (h1.lt b e).2 ((d b e).imp id (·.1))),d⟩
 ·obtain⟨b,c,h1,d,g,l⟩:=h;exact⟨b,c,h1,(Zw (a:=⟨b,0,none⟩) (f b l g)).trans d,g,p_ l j⟩
 ·obtain⟨h1,d⟩:=h;exact⟨mK h1 (λ b e=>f b (h1.lt b e).2 ((d b e).imp id (·.1))),d⟩
 ·have h:w.cell? ⟨iP,0,none⟩=some (vals 3):=h;exact(Zw (a:=⟨iP,0,none⟩) (f iP k rfl)).trans h
 ·have h:w.cell? ⟨iP,1,none⟩=some (vals 8):=h;exact(Zw (a:=⟨iP,1,none⟩) (f iP k rfl)).trans h
theorem o7.more{cs:List Value}(d:iP<w0.heap.size):∀j p u w w',w0.heap.size<=w.heap.size->Below w.heap.size w w'->p.2<=w.heap.size->nO cs rI (o7 jA base iP mo mq mH l7 no aR xs os mu v) j p u w->nO cs rI (o7 jA base iP mo mq mH l7 no aR xs os mu v) j p u w':=λ j p u w w' hw c hp h=>by
 unfold nO at*;split at h
 ·rename_i e;rw[if_pos e];exact h.keep e c.size (λ b h1 _=>c.block b h1) (by omega)
 ·rename_i e;rw[if_neg e];exact h
theorem o7.zD{ws:List (List Nat)}{cs:List Value}(j:pz ws 8 13 3=true)(k:pz ws 8 15 8=true):yu ws (nO cs rI (o7 jA base iP mo mq mH l7 no aR xs os mu v)):=by
 refine nO.zD ?_;intro i p vals sw w hs d h;rcases CK hs with rfl|rfl|rfl|rfl|rfl|rfl|rfl|rfl
 ·obtain⟨A,c,h1,f⟩:=h;exact⟨A,c,(d 2 (.inl rfl)).symm.trans h1,f⟩
 ·have e:=d 3 (.inl rfl);have h:w.ownsRow base 3 1 (vals 3) (l7+1) (gT (xs++[0]))/\∀g,(vals 3).ownBlock=some g->mo.ownBlock=some g\/jA<=g/\p.1<=g/\g<p.2:=h;rw[e] at h;exact h
 ·obtain⟨A,c,h1,f⟩:=h;exact⟨A,c,(d 7 (.inl rfl)).symm.trans h1,f⟩
 ·have e:=d 8 (.inl rfl);have h:w.ownsRow base 3 1 (vals 8) (no+1) (gT (os++[v]))/\∀g,(vals 8).ownBlock=some g->mq.ownBlock=some g\/jA<=g/\p.1<=g/\g<p.2:=h;rw[e] at h;exact h
 ·obtain⟨b,c,h1,f⟩:=h;exact⟨b,c,(d 10 (.inl rfl)).symm.trans h1,f⟩
 ·have e:=d 11 (.inl rfl);have h:w.ownsRow base 4 1 (vals 11) (aR+1) (nR (mu++[false]))/\∀g,(vals 11).ownBlock=some g->mH.ownBlock=some g\/jA<=g/\p.1<=g/\g<p.2:=h;rw[e] at h;exact h
 ·have h:w.cell? ⟨iP,0,none⟩=some (vals 3):=h;rw[d 3 (.inr j)] at h;exact h
 ·have h:w.cell? ⟨iP,1,none⟩=some (vals 8):=h;rw[d 8 (.inr k)] at h;exact h
theorem qE.mono(hs:rI i=false)(h:qE w0 base iP mo mq mH l7 no aR xs os mu y L w):qE w0 base iP mo mq mH l7 no aR xs os mu y (k9 L i) w:=by
 obtain⟨h1,b,c,d,v0,v1,f,g,k⟩:=h;have up:∀j,k9 L i j=false->L j=false:=λ j h=>by
  unfold k9 at h;split at h
  ·cases h
  ·exact h
 exact⟨h1,λ e=>b (up _ e),λ e=>c (up _ e),λ e=>d (up _ e),v0,v1,f,λ e=>g (up _ e),λ e=>k (up _ e)⟩
variable (G:AW w0 base iP mo mq mH l7 no aR xs os mu y)
include G
theorem AW.EE:(∀g,mo.ownBlock=some g->g<w0.heap.size)/\(∀g,mq.ownBlock=some g->g<w0.heap.size)/\∀g,mH.ownBlock=some g->g<w0.heap.size:=
 ⟨λ g e=>(G.a.lt g e).2,λ g e=>(G.o.lt g e).2,λ g e=>(G.p.lt g e).2⟩
theorem qE.below(h:qE w0 base iP mo mq mH l7 no aR xs os mu y L w)(c:Below w.heap.size w w')(k:Nat):qE w0 base iP mo mq mH l7 no aR xs os mu y (k9 L k) w':=by
 have _:=G;have up:∀j,k9 L k j=false->L j=false:=λ j h=>by
  unfold k9 at h;split at h
  ·cases h
  ·exact h
 obtain⟨h1,d,f,g,v0,v1,i,l,m⟩:=h;exact⟨h1.trans ⟨c.os,c.tape,c.output,c.size,λ b n=>c.block b (p_ n.1 h1.size)⟩,λ e=>lU (d (up _ e)) c,λ e=>lU (f (up _ e)) c,λ e=>lU (g (up _ e)) c,v0,v1,i.below c,λ e=>l (up _ e),λ e=>m (up _ e)⟩
def IN(mo mq mH:Value)(i:Nat):Option Nat:=if i=3 then mo.ownBlock else if i=8 then mq.ownBlock else mH.ownBlock
omit G in
theorem uN{L:Nat->Bool}{k j:Nat}(h:k9 L k j=false):j≠k/\L j=false:=by
 unfold k9 at h;split at h
 ·cases h
 ·rename_i e;exact⟨e,h⟩
theorem qE.app(j:i=3\/i=8\/i=11)(h:qE w0 base iP mo mq mH l7 no aR xs os mu y L w)(d:w.grownBy w' (IN mo mq mH i)):qE w0 base iP mo mq mH l7 no aR xs os mu y (k9 L i) w':=by
 obtain⟨h1,n,o,p,v0,v1,q,r,s⟩:=h;have hs:=h1.size;obtain⟨t,u,v⟩:=G.EE;have f:aF (λ b=>b<w0.heap.size/\b≠iP/\mo.ownBlock≠some b/\mq.ownBlock≠some b/\mH.ownBlock≠some b) w w':=⟨d.os,d.tape,d.output,d.size,λ b m=>d.block b (by omega) (λ e=>by
  rcases j with rfl|rfl|rfl
  ·exact m.2.2.1 e.symm
  ·exact m.2.2.2.1 e.symm
  ·exact m.2.2.2.2 e.symm)⟩
 have z:aM w' iP 44 [v0,v1,.int .i64 y]:=q.kept d (λ e=>by
  rcases j with rfl|rfl|rfl
  ·exact G.AX e.symm
  ·exact G.AY e.symm
  ·exact G.AZ e.symm)
 refine⟨h1.trans f,λ e=>?_,λ e=>?_,λ e=>?_,v0,v1,z,λ e=>r (uN e).2,λ e=>s (uN e).2⟩
 ·obtain⟨k,l⟩:=uN e;refine mK (n l) (λ b c=>d.block b (by have:=t b c;omega) (λ g=>?_));rcases j with rfl|rfl|rfl
  ·exact k rfl
  ·exact G.A0 b c g.symm
  ·exact G.ap b c g.symm
 ·obtain⟨k,l⟩:=uN e;refine mK (o l) (λ b c=>d.block b (by have:=u b c;omega) (λ g=>?_));rcases j with rfl|rfl|rfl
  ·exact G.A0 b g.symm c
  ·exact k rfl
  ·exact G.op b c g.symm
 ·obtain⟨k,l⟩:=uN e;refine mK (p l) (λ b c=>d.block b (by have:=v b c;omega) (λ g=>?_));rcases j with rfl|rfl|rfl
  ·exact G.ap b g.symm c
  ·exact G.op b g.symm c
  ·exact k rfl
theorem o7.app(d:i=3\/i=8\/i=11){j:Nat}(f:j≠i)(hs:rI j=true)(hw:w0.heap.size<=w.heap.size)(g:w.grownBy w' (IN mo mq mH i))(h:o7 w0.heap.size base iP mo mq mH l7 no aR xs os mu v j p vals w):o7 w0.heap.size base iP mo mq mH l7 no aR xs os mu v j p vals w':=by
 obtain⟨l,m,n⟩:=G.EE;have lb:=G.b.lt;refine h.keep hs g.size (λ b o c=>g.block b o λ e=>?_) (by omega);have r:b<w0.heap.size:=by
  rcases d with rfl|rfl|rfl
  ·exact l b e.symm
  ·exact m b e.symm
  ·exact n b e.symm
 have k:b≠iP:=λ q=>by
  subst q;rcases d with rfl|rfl|rfl
  ·exact G.AX e.symm
  ·exact G.AY e.symm
  ·exact G.AZ e.symm
 rcases CK hs with rfl|rfl|rfl|rfl|rfl|rfl|rfl|rfl
 ·have c:w0.heap.size<=b:=c;omega
 ·have c:mo.ownBlock=some b\/w0.heap.size<=b:=c;rcases c with h1|h1
  ·rcases d with rfl|rfl|rfl
   ·exact f rfl
   ·exact G.A0 b h1 e.symm
   ·exact G.ap b h1 e.symm
  ·omega
 ·have c:w0.heap.size<=b:=c;omega
 ·have c:mq.ownBlock=some b\/w0.heap.size<=b:=c;rcases c with h1|h1
  ·rcases d with rfl|rfl|rfl
   ·exact G.A0 b e.symm h1
   ·exact f rfl
   ·exact G.op b h1 e.symm
  ·omega
 ·have c:w0.heap.size<=b:=c;omega
 ·have c:mH.ownBlock=some b\/w0.heap.size<=b:=c;rcases c with h1|h1
  ·rcases d with rfl|rfl|rfl
   ·exact G.ap b e.symm h1
   ·exact G.op b e.symm h1
   ·exact f rfl
  ·omega
 ·exact k c
 ·exact k c
theorem qE.put(j:i=13\/i=15)(h:qE w0 base iP mo mq mH l7 no aR xs os mu y L w)(u:Value):qE w0 base iP mo mq mH l7 no aR xs os mu y (k9 L i) (w.setCell ⟨iP,if i=13 then 0 else 1,none⟩ u):=by
 obtain⟨h1,l,m,n,v0,v1,g,o,p⟩:=h;have f:∀(k:Nat)(b:Nat),b≠iP->(w.setCell ⟨iP,k,none⟩ u).heap[b]? =w.heap[b]? :=λ k b q=>Below.heap_setCell _ _ _ _ q
 refine⟨h1.trans (aF.set iP _ u (λ r=>r.2.1 rfl)),λ e=>mK (l (uN e).2) (λ b c=>f _ b (λ d=>G.AX (d▸c))),λ e=>mK (m (uN e).2) (λ b c=>f _ b (λ d=>G.AY (d▸c))),λ e=>mK (n (uN e).2) (λ b c=>f _ b (λ d=>G.AZ (d▸c))),?_⟩;rcases j with rfl|rfl
 ·exact⟨u,v1,g.set 0 u,λ e=>absurd rfl (uN e).1,λ e=>p (uN e).2⟩
 ·exact⟨v0,u,g.set 1 u,λ e=>o (uN e).2,λ e=>absurd rfl (uN e).1⟩
theorem o7.put{j:Nat}(f:j≠13)(g:j≠15)(hs:rI j=true)(hw:w0.heap.size<=w.heap.size)(k:Nat)(u:Value)(h:o7 w0.heap.size base iP mo mq mH l7 no aR xs os mu v j p vals w):o7 w0.heap.size base iP mo mq mH l7 no aR xs os mu v j p vals (w.setCell ⟨iP,k,none⟩ u):=by
 have lb:=G.b.lt;have d:=kK w iP k u;refine h.keep hs d.size (λ b i c=>d.block b i λ e=>?_) (by omega);injection e with e
 subst e;rcases CK hs with rfl|rfl|rfl|rfl|rfl|rfl|rfl|rfl
 ·have c:w0.heap.size<=b:=c;omega
 ·exact Or.elim (show mo.ownBlock=some b\/w0.heap.size<=b from c) G.AX (by omega)
 ·have c:w0.heap.size<=b:=c;omega
 ·exact Or.elim (show mq.ownBlock=some b\/w0.heap.size<=b from c) G.AY (by omega)
 ·have c:w0.heap.size<=b:=c;omega
 ·exact Or.elim (show mH.ownBlock=some b\/w0.heap.size<=b from c) G.AZ (by omega)
 ·exact f rfl
 ·exact g rfl
end
end
section
open Go.RowKit Go.Shelf Go.Lib
def o6(d:Nat)(b no:Nat)(act ord:List Int)(e:Int)(i:Nat)(p:Nat×Nat)(vals:Nat->Value)(w:World):Prop:=
 if i=3 then∃A c,vals 3=.slice A b c/\w.ownsRow d 3 1 (.slice A b c) b (gT act)/\∀g,A.map (·.block)=some g->p.1<=g/\g<p.2
 else if i=7 then∃A c,vals 7=.slice A no c/\w.ownsRow d 3 1 (.slice A no c) no (gT ord)/\∀g,A.map (·.block)=some g->p.1<=g/\g<p.2
 else if i=11 then∃A c A' c',vals 3=.slice A b c/\vals 7=.slice A' no c'/\vals 11=.agg #[.slice A b c,.slice A' no c',.int .i64 e]
 else vals 12=.pointer (some ⟨p.1,0,none⟩)/\d<=p.1/\p.1<p.2/\aM w p.1 44 [.slice none 0 0,.slice none 0 0,.int .i64 0]
def tr(i:Nat):Bool:=i==3||i==7||i==11||i==12
theorem IP(h:tr i=true):i=3\/i=7\/i=11\/i=12:=by simpa[tr,or_assoc] using h
theorem o6.more{cs:List Value}{jA l7 no:Nat}{act ord:List Int}{aW:Int}:∀j p u w w',Below w.heap.size w w'->p.2<=w.heap.size->nO cs tr (o6 jA l7 no act ord aW) j p u w->nO cs tr (o6 jA l7 no act ord aW) j p u w':=λ j p u w w' f hp h=>by
 unfold nO at*;split at h
 ·rename_i e;rw[if_pos e];rcases IP e with rfl|rfl|rfl|rfl
  ·obtain⟨A,c,h1,b,d⟩:=h;exact⟨A,c,h1,lU b f,d⟩
  ·obtain⟨A,c,h1,b,d⟩:=h;exact⟨A,c,h1,lU b f,d⟩
  ·exact h
  ·obtain⟨h1,b,d,g⟩:=h;exact⟨h1,b,d,g.below f⟩
 ·rename_i e;rw[if_neg e];exact h
theorem o6.zD{ws:List (List Nat)}{cs:List Value}{jA l7 no:Nat}{act ord:List Int}{aW:Int}(e:pz ws 8 11 3=true)(f:pz ws 8 11 7=true):yu ws (nO cs tr (o6 jA l7 no act ord aW)):=by
 refine nO.zD ?_;intro i p vals sw w hs b h;rcases IP hs with rfl|rfl|rfl|rfl
 ·obtain⟨A,c,h1,d⟩:=h;exact⟨A,c,(b 3 (.inl rfl)).symm.trans h1,d⟩
 ·obtain⟨A,c,h1,d⟩:=h;exact⟨A,c,(b 7 (.inl rfl)).symm.trans h1,d⟩
 ·obtain⟨A,c,A',c',h1,d,g⟩:=h;exact⟨A,c,A',c',(b 3 (.inr e)).symm.trans h1,(b 7 (.inr f)).symm.trans d,(b 11 (.inl rfl)).symm.trans g⟩
 ·exact⟨(b 12 (.inl rfl)).symm.trans h.1,h.2⟩
def rm(act:List Int)(k:Nat):List Int:=act++Zg k 0
def qF(n:Nat)(ord:List Int)(k:Nat):List Int:=ord++(List.range k).map λ j:Nat=>((n+1+j:Nat):Int)
def qG(b:List Bool)(k:Nat):List Bool:=b++Zg k false
theorem Pe(act:List Int)(k:Nat):rm act (k+1)=rm act k++[0]:=by simp[rm,Zd,<-Zr]
theorem Pf(n:Nat)(ord:List Int)(k:Nat):qF n ord (k+1)=qF n ord k++[((n+1+k:Nat):Int)]:=by simp[qF,List.range_succ,<-Zr]
theorem Pg(b:List Bool)(k:Nat):qG b (k+1)=qG b k++[false]:=by simp[qG,Zd,<-Zr]
def Ph(w:World)(t:gD)(n m:Nat)(act ord:List Int)(i:List Bool)(e:Ending)(W:World):Prop:=
 ∃(A:Option Addr)(c:Nat)(A':Option Addr)(c':Nat)(d:Option Addr)(f:Nat),e=.returned (pV ⟨m,t.g,t.l,⟨A,m+1,c⟩,⟨A',m,c'⟩,t.b,⟨d,m+1,f⟩,t.p⟩ 0)/\aN W A (m+1) c (rm act (m-n))/\aN W A' m c' (qF n ord (m-n))/\kS W d (m+1) f (qG i (m-n))/\Below w.heap.size w W/\(∀b,A.map (·.block)=some b->w.heap.size<=b)/\(∀b,A'.map (·.block)=some b->w.heap.size<=b)/\∀b,d.map (·.block)=some b->w.heap.size<=b
theorem IQ{aO:Ending->World->Prop}{t:gD}(n:a.defers=[])(c:a.tmps.getD 4 undef=.pointer (some ⟨aU,0,none⟩))(d:a.tmps.getD 5 undef=.int .i64 mA)
  (o:aM W aU 47 t.L) (h:aO (.returned (pV t mA)) W):bodyPost x_ Tryz.f44 aO .ret a W:=by
 have b:=o.cell;have e:=b 0;have f:=b 1;have g:=b 2;have i:=b 3;have j:=b 4;have k:=b 5;have l:=b 6;have m:=b 7;simp only[gD.L,z_,y_] at e f g i j k l m;clear b;rw[Zu] at c d;refine bodyPost_ret (v:=pV t mA) ?_ n h;simp[results,Tryz.results44,go_sem,c,d,e,f,g,i,j,k,l,m,gD.L,pV]
theorem Pj(t:gD)(n m:Nat)(cX:n<=m)(hm:m<=60000)(bO:t.n=n)(act ord:List Int)(ar:List Bool)(w:World)(cm:aN w t.a.A (n+1) t.a.c act)(ro:aN w t.o.A n t.o.c ord)(cn:kS w t.h.A (n+1) t.h.c ar)(bP:t.a.n=n+1)(bQ:t.o.n=n)(bR:t.h.n=n+1)(cp:∀W,Below w.heap.size w W->Calls x_ 49 #[.agg t.L.toArray] W λ e w'=>e=.returned (.int .i64 0)/\Below W.heap.size W w'):
  Calls x_ 44 #[.agg t.L.toArray,.int .i64 m] w (Ph w t n m act ord ar):=by
 have cY:=U cp;have ai:=U (w_ cm (w_ ro (w_ cn (w_ cX hm))));obtain⟨cZ,⟨az,aA,gc⟩,⟨aB,aC,lc⟩,⟨aD,c7,ac⟩,⟨aE,c8,aG⟩,H,⟨aX,da,aY⟩,⟨aH,aI,aJ⟩⟩:=t;replace bO:cZ=n:=bO;replace bP:c7=n+1:=bP;replace bQ:n=c8:=bQ.symm;replace bR:da=n+1:=bR;subst bQ;subst bO bP bR;clear cp cm ro cn;have g1:¬(m:Int)<(n:Int):=by omega
 have g2:¬(65536:Int)<(m:Int):=by omega
 unfold gD.L at*;dsimp only at*;go_enter Tryz.func44,Tryz.ntmps44
 go_upto_region 1 with fail
 have bk:=qT.init w [.int .i64 n,.slice az aA gc,.slice aB aC lc,.slice aD (n+1) ac,.slice aE n aG,.int .i64 H,.slice aX (n+1) aY,.slice aH aI aJ] mU;simp only[mU] at bk;generalize ((w.alloc (.cells #[.int .i64 n,.slice az aA gc,.slice aB aC lc,.slice aD (n+1) ac,.slice aE n aG,.int .i64 H,.slice aX (n+1) aY,.slice aH aI aJ] 47)).alloc (.cells #[.int .i64 0,.slice none 0 0,.slice none 0 0,.slice none 0 0,.slice none 0 0,.int .i64 0,.slice none 0 0,.slice none 0 0] 47))=cq at*;have q:=bk.bf.cell;have ad:=q 0;have aj:=q 1;have ak:=q 2;have ae:=q 3;have af:=q 4;have ag:=q 5;have al:=q 6;have an:=q 7;simp only[z_,y_] at ad aj ak ae af ag al an;clear q;have db:=U (cY.o cq bk.kZ);have dc:bF (qT w cq [.int .i64 n,.slice az aA gc,.slice aB aC lc,.slice aD (n+1) ac,.slice aE n aG,.int .i64 H,.slice aX (n+1) aY,.slice aH aI aJ] mU):=U bk;clear bk
 go_upto_region 4 with(go_at_call 49;refine db.o.mono ?_;rintro e E ⟨rfl,cr⟩;have bb:=U (dc.o.below cr);clear ad aj ak ae af ag al an cr)
 have q:=bb.o.bf.cell;have ad:=q 0;have aj:=q 1;have ak:=q 2;have ae:=q 3;have af:=q 4;have ag:=q 5;have al:=q 6;have an:=q 7;simp only[z_,y_] at ad aj ak ae af ag al an;clear q
 go_upto_region 6 with fail
 have bA:w.heap.size<E.heap.size:=bb.o.bf.lt;obtain⟨cs,Y⟩:∃cs:List Value,cs=[.pointer (some ⟨w.heap.size,3,none⟩),.pointer (some ⟨w.heap.size,3,none⟩),.slice aD (n+1) ac,undef,.pointer (some ⟨w.heap.size,3,none⟩),.pointer (some ⟨w.heap.size,4,none⟩),.slice aE n aG,undef,.pointer (some ⟨w.heap.size,3,none⟩),.pointer (some ⟨w.heap.size,5,none⟩),.int .i64 H]:=⟨_,rfl⟩
 have dd:=ai.o.1.len;have de:=ai.o.2.1.len;refine OW (tq Tryz.f44 6) 13 69 [some 25,some 26,some 27,some 28,some 29,some 30,some 31,some 32,some 33,some 34,some 35,some 36,some 7,none] _ [(2,.pointer (some ⟨w.heap.size,0,none⟩))] (λ w'=>Below E.heap.size E w') (nO cs tr (o6 E.heap.size (n+1) n act ord H)) (by kernel_rfl) (by kernel_rfl) (by kernel_rfl) rfl (by kernel_rfl) (by kernel_rfl) (by kernel_rfl) (by kernel_rfl) (by kernel_rfl) (by kernel_rfl) rfl ⟨rfl,trivial⟩ (o6.zD (by kernel_rfl) (by kernel_rfl)) (h_ _ _).drew (AQ.ok (by kernel_rfl) ?_) _ rfl ?_
 ·refine⟨?_,?_,?_,⟨λ _=>?k3,λ h=>(by cases h)⟩,?_,?_,?_,⟨λ _=>?k7,λ h=>(by cases h)⟩,?_,?_,?_,⟨λ _=>?k11,λ h=>(by cases h)⟩,⟨λ _=>?k12,λ h=>(by cases h)⟩,trivial⟩
  case k3=>
   intro vals s w' C f d M hp au;have D:C (.tmp 27)=vals 2:=(d.1 rfl).2 _ rfl;have f2:vals 2=.slice aD (n+1) ac:=by have:=(d.1 rfl).1 (.inl rfl);rw[Y] at this;exact this
   refine va 81 #[.tmp 27] #[25] rfl Az hp ?_;simp only[q_,m_,o_,D,f2];refine(xg aD (n+1) ac act w' ((ai.o.1.below bb.o.kZ).below f)).mono ?_;rintro e P ⟨bl,c6,rfl,a6,bn⟩;rw[dd] at a6⊢;exact⟨_,rfl,.more o6.more bn (f.trans (bn.mono f.size)) (show nO cs tr (o6 E.heap.size (n+1) n act ord H) 3 (w'.heap.size,P.heap.size) _ P from⟨bl,c6,rfl,AS a6 f.size,λ g e=>a6.lt g (by show(aq.v ⟨bl,n+1,c6⟩).ownBlock=_;rw[aq.own];exact e)⟩)⟩
  case k7=>
   intro vals s w' C f d M hp au;have D:C (.tmp 31)=vals 6:=(d.1 rfl).2 _ rfl;have f2:vals 6=.slice aE n aG:=by have:=(d.1 rfl).1 (.inl rfl);rw[Y] at this;exact this
   refine va 81 #[.tmp 31] #[25] rfl Az hp ?_;simp only[q_,m_,o_,D,f2];refine(xg aE n aG ord w' ((ai.o.2.1.below bb.o.kZ).below f)).mono ?_;rintro e P ⟨bl,c6,rfl,a6,bn⟩;rw[de] at a6⊢;exact⟨_,rfl,.more o6.more bn (f.trans (bn.mono f.size)) (show nO cs tr (o6 E.heap.size (n+1) n act ord H) 7 (w'.heap.size,P.heap.size) _ P from⟨bl,c6,rfl,AS a6 f.size,λ g e=>a6.lt g (by show(aq.v ⟨bl,n,c6⟩).ownBlock=_;rw[aq.own];exact e)⟩)⟩
  case k11=>
   intro vals s w' C f d M hp au;have aS:C (.tmp 28)=vals 3:=(d.1 rfl).2 _ rfl;obtain⟨A,c,f3,_⟩:∃A c,vals 3=.slice A (n+1) c/\w'.ownsRow E.heap.size 3 1 (.slice A (n+1) c) (n+1) (gT act)/\∀g,A.map (·.block)=some g->(s 3).1<=g/\g<(s 3).2:=(d.1 rfl).1 (.inl rfl);have ct:C (.tmp 32)=vals 7:=(d.2.1 rfl).2 _ rfl;obtain⟨A',c',f7,_⟩:∃A c,vals 7=.slice A n c/\w'.ownsRow E.heap.size 3 1 (.slice A n c) n (gT ord)/\∀g,A.map (·.block)=some g->(s 7).1<=g/\g<(s 7).2:=(d.2.1 rfl).1 (.inl rfl);have cu:C (.tmp 35)=vals 10:=(d.2.2.1 rfl).2 _ rfl;have f10:vals 10=.int .i64 H:=by have:=(d.2.2.1 rfl).1 (.inl rfl);rw[Y] at this;exact this
   rw[f3] at aS;rw[f7] at ct;rw[f10] at cu;simp only[aZ,execOp];simp[gE,go_sem,aS,ct,cu];exact .same f ⟨A,c,A',c',f3,f7,rfl⟩
  case k12=>
   intro vals s w' C f d M hp au;simp only[aZ,execOp];simp[gE,go_sem];exact .more o6.more (bg w' _) (f.trans ((bg w' _).mono f.size)) ⟨rfl,f.size,by simp,aM.new w' 44 [.slice none 0 0,.slice none 0 0,.int .i64 0]⟩
  all_goals
   refine⟨λ h=>(by cases h),λ _ C w' bc d M hp=>?_⟩;obtain⟨df,-⟩:=M;have d3:=(bc.cell (p:=⟨w.heap.size,3,none⟩) bA).trans ae;have d4:=(bc.cell (p:=⟨w.heap.size,4,none⟩) bA).trans af;have d5:=(bc.cell (p:=⟨w.heap.size,5,none⟩) bA).trans ag;rw[Y] at d⊢
   try simp[ud,qq,Z4,tr] at d
   simp[aZ,execOp,gE,go_sem,df,d,d3,d4,d5,hp.1]
 intro vals s P bB ao aK dh bo;obtain⟨aw,c3,ax,c4,f3,f7,f11⟩:∃A c A' c',vals 3=.slice A (n+1) c/\vals 7=.slice A' n c'/\vals 11=.agg #[.slice A (n+1) c,.slice A' n c',.int .i64 H]:=ao 11 (by omega);obtain⟨bC,bD,bS,cv,s3⟩:∃A c,vals 3=.slice A (n+1) c/\P.ownsRow E.heap.size 3 1 (.slice A (n+1) c) (n+1) (gT act)/\∀g,A.map (·.block)=some g->(s 3).1<=g/\g<(s 3).2:=ao 3 (by omega);obtain⟨dJ,dK,bT,cw,iI⟩:∃A c,vals 7=.slice A n c/\P.ownsRow E.heap.size 3 1 (.slice A n c) n (gT ord)/\∀g,A.map (·.block)=some g->(s 7).1<=g/\g<(s 7).2:=ao 7 (by omega);obtain⟨f12,bp,bU,bq⟩:vals 12=.pointer (some ⟨(s 12).1,0,none⟩)/\E.heap.size<=(s 12).1/\(s 12).1<(s 12).2/\aM P (s 12).1 44 [.slice none 0 0,.slice none 0 0,.int .i64 0]:=ao 12 (by omega);rw[f3] at bS;rw[f7] at bT;simp only[Zt,true_and] at bS bT;obtain⟨rfl,rfl⟩:=bS;obtain⟨rfl,rfl⟩:=bT;have cx:=aK.2 3 7 (by decide) rfl rfl;have cy:=aK.2 3 12 (by decide) rfl rfl;have cz:=aK.2 7 12 (by decide) rfl rfl;obtain⟨r,bV⟩:∃b,(s 12).1=b:=⟨_,rfl⟩
 rw[bV] at f12 bp bq;have bW:∀g,aw.map (·.block)=some g->g≠r:=λ g e=>by have:=s3 g e;rcases cy with h|h<;>omega
 have bX:∀g,ax.map (·.block)=some g->g≠r:=λ g e=>by have:=iI g e;rcases cz with h|h<;>omega
 have n34:∀g,aw.map (·.block)=some g->ax.map (·.block)≠some g:=λ g e D=>by have h1:=s3 g e;have J:=iI g D;rcases cx with h|h<;>omega
 have y:=bq.cell;have bd:=y 0;have bh:=y 1;have bj:=y 2;simp only[z_,y_] at bd bh bj;have z:=bq.free;have z0:=z 0;have bE:=z 1;have z2:=z 2;have a7:=((bq.set 0 (.slice aw (n+1) c3)).set 1 (.slice ax n c4)).set 2 (.int .i64 H);have ay:∀(u:World)(i:Nat)(v:Value),aF (λ b=>b≠r) u (u.setCell ⟨r,i,none⟩ v):=λ u i v=>aF.set _ i v (λ h=>h rfl)
 have f1:=((ay P 0 (.slice aw (n+1) c3)).trans (ay _ 1 (.slice ax n c4))).trans (ay _ 2 (.int .i64 H));have bY:Below E.heap.size E P:=bB;simp[oJ,Act.put,f11,f12] at bo;subst bo;show aZ _ _ (Oper.mk _ _ _ _ _ _) _ _;simp[aZ,execOp,gE,go_sem,Act.eval,Act.put,bd,bh,bj,z0,bE,z2];have bG:=bb.o.below bY;have bZ:w.heap.size+1<E.heap.size:=bb.o.aU.lt;have cA:qT w _ [.int .i64 n,.slice az aA gc,.slice aB aC lc,.slice aD (n+1) ac,.slice aE n aG,.int .i64 H,.slice aX (n+1) aY,.slice aH aI aJ] mU:=⟨f1.blk bG.bf (by omega),f1.blk bG.aU (by omega),bG.kZ.trans ⟨f1.os,f1.tape,f1.output,f1.size,λ b F=>f1.keep b (by omega)⟩⟩
 have cB:=mK cv (λ b e=>f1.keep b (bW b (by have h1:(aq.v ⟨aw,n+1,c3⟩).ownBlock=some b:=e;rw[aq.own] at h1;exact h1)));have cC:=mK cw (λ b e=>f1.keep b (bX b (by have h1:(aq.v ⟨ax,n,c4⟩).ownBlock=some b:=e;rw[aq.own] at h1;exact h1)));have cD:=f1.size;have cE:=bY.size;generalize ((P.setCell ⟨r,0,none⟩ (.slice aw (n+1) c3)).setCell ⟨r,1,none⟩ (.slice ax n c4)).setCell ⟨r,2,none⟩ (.int .i64 H)=br at*;have a7:aM br r 44 [.slice aw (n+1) c3,.slice ax n c4,.int .i64 H]:=a7;have K:=U (w_ cA (w_ cB (w_ cC (w_ a7 (w_ bW (w_ bX (w_ n34 (w_ bp (w_ cD (w_ cE bZ))))))))));have vg:=U (HN aX (n+1) aY ar br (ai.o.2.2.1.below K.o.1.kZ));clear cA cB cC a7 bW bX n34 bp cD cE bZ bG f1 ay bY bq y bd bh bj z z0 bE z2 cv cw s3 iI cy cz cx ao aK bB f3 f7 f11 f12 bV bU Y bA ad aj ak ae af ag al an;have q:=K.o.1.bf.cell;have ad:=q 0;have aj:=q 1;have ak:=q 2;have ae:=q 3;have af:=q 4;have ag:=q 5;have al:=q 6;have an:=q 7;simp only[z_,y_] at ad aj ak ae af ag al an;clear q
 go_upto_region 8 with(go_at_call 106;refine vg.o.mono ?_;rintro e di ⟨b0,b1,rfl,ah,cF⟩;have aT:=U (w_ ah cF);clear ah cF ad aj ak ae af ag al an)
 have cG:=ai.o.2.2.1.len;rw[cG] at aT;rw[cG];have cH:=U (K.o.1.below aT.o.2);have ad:=cH.o.bf.cell 0;simp only[z_,y_] at ad;have wn:e_.wrap ((n:Int)+1)=(n:Int)+1:=by rw[n_];have:=ai.o;omega
 have dj:bF (AW di E.heap.size r (.slice aw (n+1) c3) (.slice ax n c4) (.slice b0 (n+1) b1) (n+1) n (n+1) (rm act 0) (qF n ord 0) (qG ar 0) H):=U (by
  have bH:∀(A:Option Addr)(n c g:Nat),(t_ A n c).ownBlock=some g->A.map (·.block)=some g:=λ A n c g e=>by have h1:(aq.v ⟨A,n,c⟩).ownBlock=some g:=e;rw[aq.own] at h1;exact h1
  have a8:∀g,(t_ b0 (n+1) b1).ownBlock=some g->br.heap.size<=g:=λ g e=>(aT.o.1.lt g e).1
  have dk:∀g,(t_ aw (n+1) c3).ownBlock=some g->g<br.heap.size:=λ g e=>(K.o.2.1.lt g e).2
  have dm:∀g,(t_ ax n c4).ownBlock=some g->g<br.heap.size:=λ g e=>(K.o.2.2.1.lt g e).2
  have bV:=K.o.2.2.2.1.lt;have cI:=ai.o.2.2.2;refine⟨by unfold rm;rw[List.replicate_zero,Zh];exact lU K.o.2.1 aT.o.2,by unfold qF;rw[List.range_zero,o_,Zh];exact lU K.o.2.2.1 aT.o.2,by unfold qG;rw[List.replicate_zero,Zh];exact AS aT.o.1 (by have:=K.o.2.2.2.2.2.2.2;omega),K.o.2.2.2.1.below aT.o.2,λ e=>K.o.2.2.2.2.1 r (bH _ _ _ _ e) rfl,λ e=>K.o.2.2.2.2.2.1 r (bH _ _ _ _ e) rfl,λ e=>by have:=a8 r e;omega,λ g e D=>K.o.2.2.2.2.2.2.1 g (bH _ _ _ _ e) (bH _ _ _ _ D),λ g e D=>by have:=a8 g D;have:=dk g e;omega,λ g e D=>by have:=a8 g D;have:=dm g e;omega,by omega,by omega,by omega,by have:=aT.o.2.size;have:=K.o.2.2.2.2.2.2.2;omega⟩)
 go_wp2_with fail
 go_loopw [9,8] (λ i p W=>∃(k:Nat)(Q:Option Addr)(R:Nat)(T:Option Addr)(co:Nat)(N:Option Addr)(O:Nat),i=.int .i64 ((n+1+k:Nat):Int)/\n+k<=m/\p=.slice N (n+1+k) O/\AW W E.heap.size r (.slice Q (n+1+k) R) (.slice T (n+k) co) (.slice N (n+1+k) O) (n+1+k) (n+k) (n+1+k) (rm act k) (qF n ord k) (qG ar k) H/\qT w W [.int .i64 n,.slice az aA gc,.slice aB aC lc,.slice aD (n+1) ac,.slice aE n aG,.int .i64 H,.slice aX (n+1) aY,.slice aH aI aJ] mU) (λ i _ _=>m+1-(intOf i).toNat)
 case atStart=>exact⟨0,aw,c3,ax,c4,b0,b1,rfl,ai.o.2.2.2.1,rfl,dj.o,cH.o⟩
 case round=>
  obtain⟨k,Q,R,T,co,N,O,rfl,hk,rfl,b2,bc⟩:=hrel;have G:=U b2;have S:=U bc;have dL:=ai.o.2.2.2.2;have y:=b2.b.cell;have bd:=y 0;have bh:=y 1;have bj:=y 2;simp only[z_,y_] at bd bh bj;clear b2 bc y
  by_cases a8:n+1+k<=m
  ·have bI:((n+1+k:Nat):Int)<=(m:Int):=by omega
   have d1:decide (((n+1+k:Nat):Int)<=(m:Int))=true:=decide_eq_true bI;have a':=U a8;obtain⟨v,b3⟩:∃v:Int,((n+1+k:Nat):Int)=v:=⟨_,rfl⟩
   rw[b3] at bI d1⊢;have bJ:=U b3;have b4:r<wr.heap.size:=G.o.b.lt;have dM:E.heap.size<=r:=K.o.2.2.2.2.2.2.2.1;obtain⟨cs,Y⟩:∃cs:List Value,cs=[.pointer (some ⟨r,0,none⟩),.slice Q (n+1+k) R,undef,undef,.pointer (some ⟨r,1,none⟩),.slice T (n+k) co,.int .i64 v,undef,undef,.slice N (n+1+k) O,undef,undef,.pointer (some ⟨r,0,none⟩),undef,.pointer (some ⟨r,1,none⟩)]:=⟨_,rfl⟩
   clear a8 hk b3
   go_upto_region 11 with fail
   have aL:∀{i:Nat}{p:Nat×Nat}{vals:Nat->Value}{w':World},rI i=true->o7 wr.heap.size E.heap.size r (.slice Q (n+1+k) R) (.slice T (n+k) co) (.slice N (n+1+k) O) (n+1+k) (n+k) (n+1+k) (rm act k) (qF n ord k) (qG ar k) v i p vals w'->nO cs rI (o7 wr.heap.size E.heap.size r (.slice Q (n+1+k) R) (.slice T (n+k) co) (.slice N (n+1+k) O) (n+1+k) (n+k) (n+1+k) (rm act k) (qF n ord k) (qG ar k) v) i p vals w':=λ hs h=>by unfold nO;rw[if_pos hs];exact h
   refine IA (tq Tryz.f44 11) 16 69 [some 48,some 49,some 50,some 51,some 52,some 53,some 54,some 55,some 56,some 57,some 58,some 59,some 60,none,some 61,none,some 8] _ [(7,.pointer (some ⟨r,0,none⟩)),(9,.int .i64 v),(8,.slice N (n+1+k) O)] (qE wr E.heap.size r (.slice Q (n+1+k) R) (.slice T (n+k) co) (.slice N (n+1+k) O) (n+1+k) (n+k) (n+1+k) (rm act k) (qF n ord k) (qG ar k) H) (nO cs rI (o7 wr.heap.size E.heap.size r (.slice Q (n+1+k) R) (.slice T (n+k) co) (.slice N (n+1+k) O) (n+1+k) (n+k) (n+1+k) (rm act k) (qF n ord k) (qG ar k) v)) (by kernel_rfl) (by kernel_rfl) (by kernel_rfl) rfl (by kernel_rfl) (by kernel_rfl) (by kernel_rfl) (by kernel_rfl) (by kernel_rfl) (by kernel_rfl) rfl ⟨rfl,rfl,rfl,trivial⟩ (o7.zD (by kernel_rfl) (by kernel_rfl)) ⟨aF.drew,λ _=>lU G.o.a (h_ _ _).drew,λ _=>lU G.o.o (h_ _ _).drew,λ _=>lU G.o.p (h_ _ _).drew,_,_,G.o.b.below (h_ _ _).drew,λ _=>rfl,λ _=>rfl⟩ (AR.ok (λ L i w' hs h=>h.mono hs) ?_) _ rfl ?_
   ·refine⟨?c0,?c1,⟨λ _=>?k2,λ h=>(by cases h)⟩,⟨λ _=>?k3,λ h=>(by cases h)⟩,?c4,?c5,?c6,⟨λ _=>?k7,λ h=>(by cases h)⟩,⟨λ _=>?k8,λ h=>(by cases h)⟩,?c9,⟨λ _=>?k10,λ h=>(by cases h)⟩,⟨λ _=>?k11,λ h=>(by cases h)⟩,?c12,⟨λ _=>?k13,λ h=>(by cases h)⟩,?c14,⟨λ _=>?k15,λ h=>(by cases h)⟩,trivial⟩
    case k2=>
     intro L vals s w' C f V hC d M hp au;have aa:=f.1.size;simp only[aZ,execOp];simp[gE,go_sem,hp.1];have F:=bg w' (.cells #[.int .i64 0] 3);exact⟨qE.below G.o f F 2,F.size,aL rfl ⟨_,_,rfl,aN.lit w' [0] 1 _ rfl rfl (by simp),λ b e=>by injection e with e;have e:w'.heap.size=b:=e;omega⟩,λ j _ _ bs _ h=>o7.more b4 j _ _ _ _ aa F bs h⟩
    case k7=>
     intro L vals s w' C f V hC d M hp au;have aa:=f.1.size;have cJ:C (.tmp 54)=vals 6:=(d.1 rfl).2 _ rfl;have f6:vals 6=.int .i64 v:=by have:=(d.1 rfl).1 (.inl rfl);rw[Y] at this;exact this
     rw[f6] at cJ;simp only[aZ,execOp];simp[gE,go_sem,hp.1,cJ];have F:=bg w' (.cells #[.int .i64 v] 3);exact⟨qE.below G.o f F 7,F.size,aL rfl ⟨_,_,rfl,aN.lit w' [v] 1 _ rfl rfl (by simp),λ b e=>by injection e with e;have e:w'.heap.size=b:=e;omega⟩,λ j _ _ bs _ h=>o7.more b4 j _ _ _ _ aa F bs h⟩
    case k10=>
     intro L vals s w' C f V hC d M hp au;have aa:=f.1.size;simp only[aZ,execOp];simp[gE,go_sem,hp.1];have F:=bg w' (.cells #[.bool false] 4);exact⟨qE.below G.o f F 10,F.size,aL rfl ⟨_,_,rfl,(aM.new w' 4 [.bool false]).cell 0,aa,by simp⟩,λ j _ _ bs _ h=>o7.more b4 j _ _ _ _ aa F bs h⟩
    case k3=>
     intro L vals s w' C f V hC d M hp au;have aa:=f.1.size;have ab:C (.tmp 49)=vals 1:=(d.1 rfl).2 _ rfl;have f1:vals 1=.slice Q (n+1+k) R:=by have:=(d.1 rfl).1 (.inl rfl);rw[Y] at this;exact this
     have D:C (.tmp 50)=vals 2:=(d.2.1 rfl).2 _ rfl;obtain⟨b5,c2,f2,bt,_⟩:∃A c,vals 2=.slice A 1 c/\aN w' A 1 c [0]/\∀b,A.map (·.block)=some b->wr.heap.size<=b:=(d.2.1 rfl).1 (.inl rfl);rw[f1] at ab;rw[f2] at D;obtain⟨v',cK,g1,g2⟩:=zL w' 25 E.heap.size _ _ _ (f.2.1 V) b5 1 c2 [0] bt (by have:=a'.o;omega) (by have:=G.o.oM;omega);simp only[aZ,execOp,resolve,invoke,builtin,a_,Zx,l_,q_,m_,o_,ab,D,g1,gE];refine⟨qE.app G.o (.inl rfl) f g2.2.1,g2.2.1.size,aL rfl ⟨g2.1,λ g e=>?_⟩,λ j aO _ _ _ h=>?_⟩
     ·have e:v'.ownBlock=some g:=e;rcases g2.2.2 with ah|ah
      ·exact .inl (ah.symm.trans e)
      ·exact .inr (by have bu:=(g2.1.lt g e).2;rw[ah] at e;injection e with e;exact⟨by omega,by show w'.heap.size<=g;omega,bu⟩)
     ·unfold nO at*;split at h
      ·rename_i I;rw[if_pos I];exact o7.app G.o (.inl rfl) aO I aa g2.2.1 h
      ·rename_i I;rw[if_neg I];exact h
    case k8=>
     intro L vals s w' C f V hC d M hp au;have aa:=f.1.size;have ab:C (.tmp 53)=vals 5:=(d.1 rfl).2 _ rfl;have f1:vals 5=.slice T (n+k) co:=by have:=(d.1 rfl).1 (.inl rfl);rw[Y] at this;exact this
     have D:C (.tmp 55)=vals 7:=(d.2.1 rfl).2 _ rfl;obtain⟨b5,c2,f2,bt,_⟩:∃A c,vals 7=.slice A 1 c/\aN w' A 1 c [v]/\∀b,A.map (·.block)=some b->wr.heap.size<=b:=(d.2.1 rfl).1 (.inl rfl);rw[f1] at ab;rw[f2] at D;obtain⟨v',cK,g1,g2⟩:=zL w' 25 E.heap.size _ _ _ (f.2.2.1 V) b5 1 c2 [v] bt (by have:=a'.o;omega) (by have:=G.o.oM;omega);simp only[aZ,execOp,resolve,invoke,builtin,a_,Zx,l_,q_,m_,o_,ab,D,g1,gE];refine⟨qE.app G.o (.inr (.inl rfl)) f g2.2.1,g2.2.1.size,aL rfl ⟨g2.1,λ g e=>?_⟩,λ j aO _ _ _ h=>?_⟩
     ·have e:v'.ownBlock=some g:=e;rcases g2.2.2 with ah|ah
      ·exact .inl (ah.symm.trans e)
      ·exact .inr (by have bu:=(g2.1.lt g e).2;rw[ah] at e;injection e with e;exact⟨by omega,by show w'.heap.size<=g;omega,bu⟩)
     ·unfold nO at*;split at h
      ·rename_i I;rw[if_pos I];exact o7.app G.o (.inr (.inl rfl)) aO I aa g2.2.1 h
      ·rename_i I;rw[if_neg I];exact h
    case k11=>
     intro L vals s w' C f V hC d M hp au;have aa:=f.1.size;have ab:C (.tmp 57)=vals 9:=(d.1 rfl).2 _ rfl;have f1:vals 9=.slice N (n+1+k) O:=by have:=(d.1 rfl).1 (.inl rfl);rw[Y] at this;exact this
     have D:C (.tmp 58)=vals 10:=(d.2.1 rfl).2 _ rfl;obtain⟨dn,c2,f2,bt,_⟩:∃b c,vals 10=.slice (some ⟨b,0,none⟩) 1 c/\w'.cell? ⟨b,0,none⟩=some (.bool false)/\wr.heap.size<=b/\b<w'.heap.size:=(d.2.1 rfl).1 (.inl rfl);rw[f1] at ab;rw[f2] at D;obtain⟨v',cK,g1,g2⟩:=Pc w' 28 E.heap.size _ _ _ (f.2.2.2.1 V) dn c2 false bt (by have:=a'.o;omega) (by have:=G.o.oM;omega);simp only[aZ,execOp,resolve,invoke,builtin,a_,Zx,l_,q_,m_,o_,ab,D,g1,gE];refine⟨qE.app G.o (.inr (.inr rfl)) f g2.2.1,g2.2.1.size,aL rfl ⟨g2.1,λ g e=>?_⟩,λ j aO _ _ _ h=>?_⟩
     ·have e:v'.ownBlock=some g:=e;rcases g2.2.2 with ah|ah
      ·exact .inl (ah.symm.trans e)
      ·exact .inr (by have bu:=(g2.1.lt g e).2;rw[ah] at e;injection e with e;exact⟨by omega,by show w'.heap.size<=g;omega,bu⟩)
     ·unfold nO at*;split at h
      ·rename_i I;rw[if_pos I];exact o7.app G.o (.inr (.inr rfl)) aO I aa g2.2.1 h
      ·rename_i I;rw[if_neg I];exact h
    case k13=>
     intro L vals s w' C f V hC d M hp au;have aa:=f.1.size;have aP:C (.tmp 60)=vals 12:=(d.1 rfl).2 _ rfl;have f0:vals 12=.pointer (some ⟨r,0,none⟩):=by have:=(d.1 rfl).1 (.inl rfl);rw[Y] at this;exact this
     have aS:C (.tmp 51)=vals 3:=(d.2.1 rfl).2 _ rfl;have f3:w'.ownsRow E.heap.size 3 1 (vals 3) (n+1+k+1) (gT (rm act k++[0]))/\∀g,(vals 3).ownBlock=some g->(t_ Q (n+1+k) R).ownBlock=some g\/wr.heap.size<=g/\(s 3).1<=g/\g<(s 3).2:=(d.2.1 rfl).1 (.inl rfl);obtain⟨⟨av,jI,c9⟩,aQ,dp⟩:=aq.lq f3.1;have aQ:vals 3=.slice av jI c9:=aQ;rw[f0] at aP;rw[aQ] at aS;obtain⟨v0,v1,Z,-,-⟩:=f.2.2.2.2;have d0:=Z.cell 0;have z0:=Z.free 0;simp only[z_] at d0;simp only[aZ,execOp,aP,aS];simp[gE,go_sem,d0,z0];have b6:=kK w' r 0 (.slice av jI c9);refine⟨qE.put G.o (.inl rfl) f _,b6.size,aL rfl ?_,λ j aO cL _ _ h=>?_⟩
     ·show(w'.setCell ⟨r,0,none⟩ (.slice av jI c9)).cell? ⟨r,0,none⟩=some (vals 3);rw[aQ];exact(Z.set 0 (.slice av jI c9)).cell 0
     ·unfold nO at*;split at h
      ·rename_i I;rw[if_pos I];exact o7.put G.o aO (λ e=>by subst e;exact absurd cL (by decide)) I aa 0 _ h
      ·rename_i I;rw[if_neg I];exact h
    case k15=>
     intro L vals s w' C f V hC d M hp au;have aa:=f.1.size;have aP:C (.tmp 61)=vals 14:=(d.1 rfl).2 _ rfl;have f0:vals 14=.pointer (some ⟨r,1,none⟩):=by have:=(d.1 rfl).1 (.inl rfl);rw[Y] at this;exact this
     have aS:C (.tmp 56)=vals 8:=(d.2.1 rfl).2 _ rfl;have f3:w'.ownsRow E.heap.size 3 1 (vals 8) (n+k+1) (gT (qF n ord k++[v]))/\∀g,(vals 8).ownBlock=some g->(t_ T (n+k) co).ownBlock=some g\/wr.heap.size<=g/\(s 8).1<=g/\g<(s 8).2:=(d.2.1 rfl).1 (.inl rfl);obtain⟨⟨av,jI,c9⟩,aQ,dp⟩:=aq.lq f3.1;have aQ:vals 8=.slice av jI c9:=aQ;rw[f0] at aP;rw[aQ] at aS;obtain⟨v0,v1,Z,-,-⟩:=f.2.2.2.2;have bw:=Z.cell 1;have bE:=Z.free 1;simp only[y_,z_] at bw;simp only[aZ,execOp,aP,aS];simp[gE,go_sem,bw,bE];have b6:=kK w' r 1 (.slice av jI c9);refine⟨qE.put G.o (.inr rfl) f _,b6.size,aL rfl ?_,λ j aO cL _ _ h=>?_⟩
     ·show(w'.setCell ⟨r,1,none⟩ (.slice av jI c9)).cell? ⟨r,1,none⟩=some (vals 8);rw[aQ];exact(Z.set 1 (.slice av jI c9)).cell 1
     ·unfold nO at*;split at h
      ·rename_i I;rw[if_pos I]
       by_cases bK:j=13
       ·subst bK;have h:w'.cell? ⟨r,0,none⟩=some (vals 3):=h;show(w'.setCell ⟨r,1,none⟩ (.slice av jI c9)).cell? ⟨r,0,none⟩=some (vals 3);rw[<-h];exact((Z.set 1 (.slice av jI c9)).cell 0).trans (Z.cell 0).symm
       ·exact o7.put G.o bK aO I aa 1 _ h
      ·rename_i I;rw[if_neg I];exact h
    case c1=>
     refine⟨λ h=>(by cases h),λ _ C L w' f V hC d M hp=>?_⟩;obtain⟨v0,v1,Z,cM,aV⟩:=f.2.2.2.2;have bK:L 13=false:=by
      cases h:L 13 with
      |false=>rfl
      |true=>rw[hC 13 1 h rfl] at V;cases V
     have d0:=Z.cell 0;simp only[z_,cM bK] at d0;rw[Y] at d⊢
     try simp[ud,qq,Z4,rI] at d
     simp[aZ,execOp,gE,go_sem,d,d0,hp.1]
    case c5=>
     refine⟨λ h=>(by cases h),λ _ C L w' f V hC d M hp=>?_⟩;obtain⟨v0,v1,Z,cM,aV⟩:=f.2.2.2.2;have dq:L 15=false:=by
      cases h:L 15 with
      |false=>rfl
      |true=>rw[hC 15 5 h rfl] at V;cases V
     have bw:=Z.cell 1;simp only[z_,y_,aV dq] at bw;rw[Y] at d⊢
     try simp[ud,qq,Z4,rI] at d
     simp[aZ,execOp,gE,go_sem,d,bw,hp.1]
    case c9=>
     refine⟨λ h=>(by cases h),λ _ C L w' f V hC d M hp=>?_⟩;have dr:C (.tmp 8)=.slice N (n+1+k) O:=M.2.2.1 rfl;rw[Y] at d⊢;simp[aZ,execOp,gE,go_sem,dr,hp.1]
    case c6=>
     refine⟨λ h=>(by cases h),λ _ C L w' f V hC d M hp=>?_⟩;have dt:C (.tmp 9)=.int .i64 v:=M.2.1 rfl;rw[Y] at d⊢;simp[aZ,execOp,gE,go_sem,dt,hp.1]
    all_goals
     refine⟨λ h=>(by cases h),λ _ C L w' f V hC d M hp=>?_⟩;have du:C (.tmp 7)=.pointer (some ⟨r,0,none⟩):=M.1 rfl;rw[Y] at d⊢;simp[aZ,execOp,gE,go_sem,du,hp.1]
   intro vals s P dN bB dO dP ao aK dh bo;have k3:P.ownsRow E.heap.size 3 1 (vals 3) (n+1+k+1) (gT (rm act k++[0]))/\∀g,(vals 3).ownBlock=some g->(t_ Q (n+1+k) R).ownBlock=some g\/wr.heap.size<=g/\(s 3).1<=g/\g<(s 3).2:=ao 3 (by omega);have k8:P.ownsRow E.heap.size 3 1 (vals 8) (n+k+1) (gT (qF n ord k++[v]))/\∀g,(vals 8).ownBlock=some g->(t_ T (n+k) co).ownBlock=some g\/wr.heap.size<=g/\(s 8).1<=g/\g<(s 8).2:=ao 8 (by omega);have k11:P.ownsRow E.heap.size 4 1 (vals 11) (n+1+k+1) (nR (qG ar k++[false]))/\∀g,(vals 11).ownBlock=some g->(t_ N (n+1+k) O).ownBlock=some g\/wr.heap.size<=g/\(s 11).1<=g/\g<(s 11).2:=ao 11 (by omega);have k13:P.cell? ⟨r,0,none⟩=some (vals 3):=ao 13 (by omega);have k15:P.cell? ⟨r,1,none⟩=some (vals 8):=ao 15 (by omega);obtain⟨⟨bC,cN,bD⟩,bL,b7⟩:=aq.lq k3.1;obtain⟨⟨b8,cO,b9⟩,bM,b'⟩:=aq.lq k8.1;obtain⟨⟨ca,cP,cc⟩,aV,cd⟩:=aq.lq k11.1;have bL:vals 3=.slice bC cN bD:=bL;have b7:cN=n+1+k+1:=b7;have bM:vals 8=.slice b8 cO b9:=bM;have b':cO=n+k+1:=b';have aV:vals 11=.slice ca cP cc:=aV;have cd:cP=n+1+k+1:=cd;subst b7 b' cd;rw[bL] at k3 k13;rw[bM] at k8 k15;rw[aV] at k11;obtain⟨f6,-,-,-,v0,v1,Z,-,-⟩:=bB;have aP:=Z.cell 0;have ab:=Z.cell 1;simp only[z_,y_] at aP ab;obtain rfl:v0=_:=by have h:=aP.symm.trans k13;injection h
   obtain rfl:v1=_:=by have h:=ab.symm.trans k15;injection h
   have cQ:=aK.2 3 8 (by decide) rfl rfl;have cR:=aK.2 3 11 (by decide) rfl rfl;have cS:=aK.2 8 11 (by decide) rfl rfl;obtain⟨cf,cg,ch⟩:=G.o.EE;have cT:AW P E.heap.size r (.slice bC (n+1+(k+1)) bD) (.slice b8 (n+(k+1)) b9) (.slice ca (n+1+(k+1)) cc) (n+1+(k+1)) (n+(k+1)) (n+1+(k+1)) (rm act (k+1)) (qF n ord (k+1)) (qG ar (k+1)) H:=by
    have cI:=ai.o.2.2.2;have cj:=a'.o;refine⟨by rw[Pe];exact k3.1,by rw[Pf,bJ.o];exact k8.1,by rw[Pg];exact k11.1,Z,λ e=>?_,λ e=>?_,λ e=>?_,λ g e D=>?_,λ g e D=>?_,λ g e D=>?_,by omega,by omega,by omega,by have:=f6.size;have:=G.o.oM;omega⟩
    ·exact(k3.2 r e).elim G.o.AX (by omega)
    ·exact(k8.2 r e).elim G.o.AY (by omega)
    ·exact(k11.2 r e).elim G.o.AZ (by omega)
    ·rcases k3.2 g e with h1|h1
     ·rcases k8.2 g D with J|J
      ·exact G.o.A0 g h1 J
      ·have:=cf g h1;omega
     ·rcases k8.2 g D with J|J
      ·have:=cg g J;omega
      ·rcases cQ with bx|bx<;>omega
    ·rcases k3.2 g e with h1|h1
     ·rcases k11.2 g D with J|J
      ·exact G.o.ap g h1 J
      ·have:=cf g h1;omega
     ·rcases k11.2 g D with J|J
      ·have:=ch g J;omega
      ·rcases cR with bx|bx<;>omega
    ·rcases k8.2 g e with h1|h1
     ·rcases k11.2 g D with J|J
      ·exact G.o.op g h1 J
      ·have:=cg g h1;omega
     ·rcases k11.2 g D with J|J
      ·have:=ch g J;omega
      ·rcases cS with bx|bx<;>omega
   have cU:qT w P [.int .i64 n,.slice az aA gc,.slice aB aC lc,.slice aD (n+1) ac,.slice aE n aG,.int .i64 H,.slice aX (n+1) aY,.slice aH aI aJ] mU:=by
    have bZ:=K.o.2.2.2.2.2.2.2.2.2.2;have ba:∀b,b<E.heap.size->(t_ Q (n+1+k) R).ownBlock≠some b/\(t_ T (n+k) co).ownBlock≠some b/\(t_ N (n+1+k) O).ownBlock≠some b:=λ b F=>⟨λ e=>by have:=(G.o.a.lt b e).1;omega,λ e=>by have:=(G.o.o.lt b e).1;omega,λ e=>by have:=(G.o.p.lt b e).1;omega⟩
    have dQ:=S.o.aU.lt;exact⟨f6.blk S.o.bf ⟨by omega,by omega,ba _ (by omega)⟩,f6.blk S.o.aU ⟨by omega,by omega,ba _ (by omega)⟩,S.o.kZ.trans ⟨f6.os,f6.tape,f6.output,f6.size,λ b F=>f6.keep b ⟨by omega,by omega,ba _ (by omega)⟩⟩⟩
   have cV:=U (w_ cT cU);simp[oJ,Act.put,aV] at bo;subst bo;clear cT cU k3 k8 k11 k13 k15 Z aP ab cQ cR cS cf cg ch ao aK f6 bL bM Y aL bd bh bj;show aZ _ _ (Oper.mk _ _ _ _ _ _) _ _;simp[aZ,execOp,gE,go_sem,Act.eval,Act.put,aV];have dR:e_.wrap (v+1)=v+1:=by rw[n_];have:=bJ.o;have:=a'.o;have:=ai.o.2.2.2.2;omega
   go_wp2_with fail
   go_roundw
   case rel=>exact⟨k+1,bC,bD,b8,b9,ca,cc,by have:=bJ.o;rw[<-this];rfl,by have:=a'.o;omega,rfl,cV.o.1,cV.o.2⟩
   case measure=>have:=bJ.o;have:=a'.o;simp[intOf];omega
  ·have bI:¬((n+1+k:Nat):Int)<=(m:Int):=by omega
   have d1:decide (((n+1+k:Nat):Int)<=(m:Int))=false:=decide_eq_false bI;have cj:n+k=m:=by omega
   have dv:=U cj;have q:=S.o.bf.cell;have ad:=q 0;have aj:=q 1;have ak:=q 2;have ae:=q 3;have af:=q 4;have ag:=q 5;have al:=q 6;have an:=q 7;simp only[z_,y_] at ad aj ak ae af ag al an;clear q;have X:=S.o.bf.free;have f0:=X 0;have f1:=X 1;have f2:=X 2;have f3:=X 3;have f4:=X 4;have f5:=X 5;have f6:=X 6;have f7:=X 7;clear X;have dw:¬r=w.heap.size:=by have h1:=K.o.2.2.2.2.2.2.2.1;have J:=K.o.2.2.2.2.2.2.2.2.2.2;omega
   have dS:¬w.heap.size=r:=λ e=>dw e.symm
   clear a8 hk cj
   go_upto_region 12 with fail
   rename_i dx cW;have dy:=U cW;clear cW;refine wp_region_noPanic ?_
   go_region_law (fail)
   all_goals
    show dx _ _;apply dy.o
   all_goals
    have a7:=((((S.o.bf.set 0 (.int .i64 m)).set 3 (.slice Q (n+1+k) R)).set 4 (.slice T (n+k) co)).set 5 (.int .i64 H)).set 6 (.slice N (n+1+k) O);have ay:∀(u:World)(i:Nat)(v:Value),aF (λ b=>b≠w.heap.size) u (u.setCell ⟨w.heap.size,i,none⟩ v):=λ u i v=>aF.set _ i v (λ h=>h rfl)
    have dz:=((((ay wr 0 (.int .i64 m)).trans (ay _ 3 (.slice Q (n+1+k) R))).trans (ay _ 4 (.slice T (n+k) co))).trans (ay _ 5 (.int .i64 H))).trans (ay _ 6 (.slice N (n+1+k) O));simp only[j_,i_] at a7;generalize ((((wr.setCell ⟨w.heap.size,0,none⟩ (.int .i64 m)).setCell ⟨w.heap.size,3,none⟩ (.slice Q (n+1+k) R)).setCell ⟨w.heap.size,4,none⟩ (.slice T (n+k) co)).setCell ⟨w.heap.size,5,none⟩ (.int .i64 H)).setCell ⟨w.heap.size,6,none⟩ (.slice N (n+1+k) O)=gb at*;have dA:=a7.below (h_ _ _).drew;have fd:aF (λ b=>b≠w.heap.size) wr gb.drew:=dz.trans aF.drew;generalize gb.drew=ko at*;have dB:=fd.blk S.o.aU (by omega);have bz:=U (w_ dA (w_ fd dB));clear ad aj ak ae af ag al an f0 f1 f2 f3 f4 f5 f6 f7;have q:=bz.o.1.cell;have ad:=q 0;have aj:=q 1;have ak:=q 2;have ae:=q 3;have af:=q 4;have ag:=q 5;have al:=q 6;have an:=q 7;simp only[z_,y_] at ad aj ak ae af ag al an;clear q;have aR:=bz.o.2.2.cell;have dC:=aR 0;have bp:=aR 1;have bU:=aR 2;have dD:=aR 3;have dE:=aR 4;have dF:=aR 5;have dG:=aR 6;have dH:=aR 7;simp only[mU,z_,y_] at dC bp bU dD dE dF dG dH;clear aR;have X:=bz.o.2.2.free;have f0:=X 0;have f1:=X 1;have f2:=X 2;have f3:=X 3;have f4:=X 4;have f5:=X 5;have f6:=X 6;have f7:=X 7;clear X
    go_wp2_with fail
    have dI:=aM.rL (show aM ko (w.heap.size+1) 47 [.int .i64 0,.slice none 0 0,.slice none 0 0,.slice none 0 0,.slice none 0 0,.int .i64 0,.slice none 0 0,.slice none 0 0] from bz.o.2.2) (.int .i64 m) (.slice az aA gc) (.slice aB aC lc) (.slice Q (n+1+k) R) (.slice T (n+k) co) (.int .i64 H) (.slice N (n+1+k) O) (.slice aH aI aJ);have f8:=aF.eight (W:=ko) (B:=w.heap.size+1) (.int .i64 m) (.slice az aA gc) (.slice aB aC lc) (.slice Q (n+1+k) R) (.slice T (n+k) co) (.int .i64 H) (.slice N (n+1+k) O) (.slice aH aI aJ);refine IQ (t:=⟨m,⟨az,aA,gc⟩,⟨aB,aC,lc⟩,⟨Q,n+1+k,R⟩,⟨T,n+k,co⟩,H,⟨N,n+1+k,O⟩,⟨aH,aI,aJ⟩⟩) rfl rfl rfl dI ?_;obtain rfl:m=n+k:=dv.o.symm;have aW:aF (λ b=>b≠w.heap.size/\b≠w.heap.size+1) wr _:=(bz.o.2.1.mono λ b F=>F.1).trans (f8.mono λ b F=>F.2);have ba:∀(e:TypeId)(A:Option Addr)(bN ck:Nat)(l:List Value),wr.ownsRow E.heap.size e 1 (.slice A bN ck) bN l->∀b,(t_ A bN ck).ownBlock=some b->b≠w.heap.size/\b≠w.heap.size+1:=λ e A bN ck l h b F=>by have h1:=(h.lt b F).1;have J:=K.o.2.2.2.2.2.2.2.2.2.2;omega
    have cI:=ai.o.2.2.2;have ab:n+1+k=n+k+1:=by omega
    have D:n+k-n=k:=by omega
    refine⟨Q,R,T,co,N,O,by rw[ab],?_,?_,?_,S.o.kZ.trans ⟨aW.os,aW.tape,aW.output,aW.size,λ b F=>aW.keep b ⟨by omega,by omega⟩⟩,λ b e=>?_,λ b e=>?_,λ b e=>?_⟩
    ·rw[D,<-ab];exact aN.lq (mK G.o.a λ b F=>aW.keep b (ba _ _ _ _ _ G.o.a b F)) (by omega)
    ·rw[D];exact aN.lq (mK G.o.o λ b F=>aW.keep b (ba _ _ _ _ _ G.o.o b F)) (by omega)
    ·rw[D,<-ab];exact kS.lq (mK G.o.p λ b F=>aW.keep b (ba _ _ _ _ _ G.o.p b F)) (by omega)
    ·have h1:=(G.o.a.lt b ((aq.own ⟨Q,n+1+k,R⟩).trans e)).1;have J:=K.o.2.2.2.2.2.2.2.2.2.2;omega
    ·have h1:=(G.o.o.lt b ((aq.own ⟨T,n+k,co⟩).trans e)).1;have J:=K.o.2.2.2.2.2.2.2.2.2.2;omega
    ·have h1:=(G.o.p.lt b ((aq.own ⟨N,n+1+k,O⟩).trans e)).1;have J:=K.o.2.2.2.2.2.2.2.2.2.2;omega
theorem IS{L:List Value}{aO:Ending->World->Prop}(S:qT w W L mU)(c:a.defers=[])(d:a.tmps.getD 4 undef=.pointer (some ⟨w.heap.size+1,0,none⟩))(e:a.tmps.getD 5 undef=.int .i64 mA)
  (h:∀W',Below w.heap.size w W'->aO (.returned (pV qa mA)) W'):bodyPost x_ Tryz.f44 aO .ret a ((((((((W.setCell ⟨w.heap.size+1,0,none⟩ (.int .i64 0)).setCell ⟨w.heap.size+1,1,none⟩ (.slice none 0 0)).setCell ⟨w.heap.size+1,2,none⟩ (.slice none 0 0)).setCell ⟨w.heap.size+1,3,none⟩ (.slice none 0 0)).setCell ⟨w.heap.size+1,4,none⟩ (.slice none 0 0)).setCell ⟨w.heap.size+1,5,none⟩ (.int .i64 0)).setCell ⟨w.heap.size+1,6,none⟩ (.slice none 0 0)).setCell ⟨w.heap.size+1,7,none⟩ (.slice none 0 0)):=by
 have B:=S.aU;unfold mU at B;have f8:=aF.eight (W:=W) (B:=w.heap.size+1) (.int .i64 0) (.slice none 0 0) (.slice none 0 0) (.slice none 0 0) (.slice none 0 0) (.int .i64 0) (.slice none 0 0) (.slice none 0 0);exact IQ (t:=qa) c d e (aM.rL B (.int .i64 0) (.slice none 0 0) (.slice none 0 0) (.slice none 0 0) (.slice none 0 0) (.int .i64 0) (.slice none 0 0) (.slice none 0 0)) (h _ (S.kZ.trans ⟨f8.os,f8.tape,f8.output,f8.size,λ b f=>f8.keep b (by omega)⟩))
theorem Pk(t:gD)(m:Int)(w:World)(hm:m<t.n\/65536<m)(s:∀W,Below w.heap.size w W->Calls x_ 49 #[.agg t.L.toArray] W λ e w'=>e=.returned (.int .i64 0)/\Below W.heap.size W w'):
  Calls x_ 44 #[.agg t.L.toArray,.int .i64 m] w λ e W=>e=.returned (pV qa 1)/\Below w.heap.size w W:=by
 have G:=U s;have hm:m<t.n\/¬m<t.n/\65536<m:=by omega
 clear s;unfold gD.L at*;go_enter Tryz.func44,Tryz.ntmps44
 go_upto_region 1 with fail
 have j:=qT.init w t.L mU;simp only[gD.L,mU] at j;generalize ((w.alloc (.cells #[.int .i64 t.n,.slice t.g.A t.g.n t.g.c,.slice t.l.A t.l.n t.l.c,.slice t.a.A t.a.n t.a.c,.slice t.o.A t.o.n t.o.c,.int .i64 t.b,.slice t.h.A t.h.n t.h.c,.slice t.p.A t.p.n t.p.c] 47)).alloc (.cells #[.int .i64 0,.slice none 0 0,.slice none 0 0,.slice none 0 0,.slice none 0 0,.int .i64 0,.slice none 0 0,.slice none 0 0] 47))=u at*;have d:=j.bf.cell;have q:=d 0;have v:=d 1;have y:=d 2;have z:=d 3;have B:=d 4;have C:=d 5;have D:=d 6;have E:=d 7;simp only[z_,y_] at q v y z B C D E;clear d;have H:=U (G.o u j.kZ);have I:bF (qT w u t.L mU):=U j;clear j
 go_upto_region 4 with(go_at_call 49;refine H.o.mono ?_;rintro e S ⟨rfl,F⟩;have k:=U (I.o.below F);clear q v y z B C D E F)
 have q:=k.o.bf.cell 0;simp only[gD.L,z_] at q;have f:=k.o.aU.cell;have J:=f 0;have K:=f 1;have M:=f 2;have N:=f 3;have O:=f 4;have P:=f 5;have Q:=f 6;have R:=f 7;simp only[mU,z_,y_] at J K M N O P Q R;clear f;have i:=k.o.aU.free;have f0:=i 0;have f1:=i 1;have f2:=i 2;have f3:=i 3;have f4:=i 4;have f5:=i 5;have f6:=i 6;have f7:=i 7;clear i;rcases hm with hm|⟨hm,T⟩
 ·go_wp2_with fail
  exact IS k.o rfl rfl rfl λ W' r=>⟨rfl,r⟩
 ·go_wp2_with fail
  exact IS k.o rfl rfl rfl λ W' r=>⟨rfl,r⟩
end
section
open Go.RowKit Go.Shelf Go.Lib
def t8(n:Nat)(s:j6)(t:gD):gD:=⟨n,⟨t.g.A,s.gs.length,t.g.c⟩,⟨t.l.A,s.es.length,t.l.c⟩,⟨t.a.A,n+1,t.a.c⟩,⟨t.o.A,n,t.o.c⟩,s.aW,⟨t.h.A,n+1,t.h.c⟩,⟨t.p.A,s.aD.length,t.p.c⟩⟩
structure kG(D:Nat->Prop)(w:World)(n:Nat)(s:j6)(t:gD):Prop where
 e:t=t8 n s t
 S:∀W,aF (λ b=>b<w.heap.size/\¬D b) w W->qB W s t.g.A t.g.c t.l.A t.l.c t.a.A t.a.c t.o.A t.o.c t.h.A t.h.c t.p.A t.p.c
 O:ox n s
 qm:t.p.A=none->s.aD.length=0/\t.p.c=0
 nh:t.g.A=none->s.gs.length=0/\t.g.c=0
 pp:Plain t.p.A
 yw:Plain t.g.A
 pl:s.aD.length=s.gs.length+s.es.length
section
variable {D IT:Nat->Prop}{w w':World}{n:Nat}{s:j6}{t:gD}
theorem kG.aO(h:kG D w n s t):qB w s t.g.A t.g.c t.l.A t.l.c t.a.A t.a.c t.o.A t.o.c t.h.A t.h.c t.p.A t.p.c:=h.S w aF.refl
theorem kG.more(h:kG D w n s t)(c:Below w.heap.size w w')(g:∀b,b<w.heap.size->IT b->D b):kG IT w' n s t:=
 ⟨h.e,λ W f=>h.S W ((aF.q4 c λ b c=>c.1).trans (f.mono λ b d=>⟨p_ d.1 c.size,λ h=>d.2 (g b d.1 h)⟩)),h.O,h.qm,h.nh,h.pp,h.yw,h.pl⟩
theorem kG.below(h:kG D w n s t)(b:Below w.heap.size w w'):kG D w' n s t:=h.more b λ _ _ h=>h
theorem kG.set(h:kG D w n s t){B:Nat}(d:D B)(f:aF (λ b=>b≠B) w w'):kG D w' n s t:=
 ⟨h.e,λ W g=>h.S W ((f.mono λ b c e=>c.2 (e▸d)).trans (g.mono λ b c=>⟨p_ c.1 f.size,c.2⟩)),h.O,h.qm,h.nh,h.pp,h.yw,h.pl⟩
end
theorem kG.agg{D:Nat->Prop}{w:World}{n:Nat}{s:j6}{t:gD}(h:kG D w n s t):Value.agg t.L.toArray=qC n t.g.A s.gs.length t.g.c t.l.A s.es.length t.l.c t.a.A (n+1) t.a.c t.o.A n t.o.c s.aW t.h.A (n+1) t.h.c t.p.A s.aD.length t.p.c:=by
 rw[h.e];rfl
theorem kG.es{D:Nat->Prop}{w:World}{n:Nat}{s:j6}{t:gD}(h:kG D w n s t)(b:n<=10):s.es.length<=59048:=by
 have h1:=h.O.ov;have c:=AJ b;omega
theorem kG.check{t:gD}(h:kG D w n s t)(b:n<=10):∀W,Below w.heap.size w W->Calls x_ 49 #[.agg t.L.toArray] W λ e w'=>e=.returned (.int .i64 0)/\Below W.heap.size W w':=λ W c=>by
 rw[h.agg];exact CD h.O b (h.aO.below c)
theorem EF(n:Nat)(i:n<=10)(w:World)(j:∀b,D b->b<w.heap.size):Calls x_ 42 #[.int .i64 n] w λ e W=>∃t:gD,e=.returned (pV t 0)/\kG D W n (qU n) t/\Below w.heap.size w W:=by
 refine(NU n w (by omega)).mono λ e W P=>?_
 obtain⟨A,c,A',c',p,q,rfl,k,l,m,r,s,u,v⟩:=P;have S:=CJ.new i k l m;refine⟨⟨n,lX,lX,⟨A,n+1,c⟩,⟨A',n,c'⟩,1,⟨p,n+1,q⟩,lX⟩,rfl,⟨rfl,λ W' f=>?_,S.O,S.qm,S.nh,S.pp,S.yw,rfl⟩,r⟩;refine(CJ.new i (k.iQ f λ b e i=>?_) (l.iQ f λ b e i=>?_) (m.iQ f λ b e=>?_)).aO
 ·obtain⟨d,off,g,hl,_⟩:=k.cells i;have o:=s d off g;rw[g] at e;injection e with e
  have e:d=b:=e;exact⟨by omega,λ h=>by have:=j b h;omega⟩
 ·obtain⟨d,off,g,hl,_⟩:=l.cells i;have o:=u d off g;rw[g] at e;injection e with e
  have e:d=b:=e;exact⟨by omega,λ h=>by have:=j b h;omega⟩
 ·obtain⟨d,off,g,hl,_⟩:=m.cells (Nat.succ_pos n);have o:=v d off g;rw[g] at e;injection e with e
  have e:d=b:=e;exact⟨by omega,λ h=>by have:=j b h;omega⟩
theorem CL{t:gD}(h:kG D w n s t)(m:∀b,D b->b<w.heap.size)(f:n<=10){l6:Option Addr}{jj c0:Nat}{ah:List Int}(j:aN w l6 jj c0 ah)(H:s.gs.length<40000):
  Calls x_ 46 #[.agg t.L.toArray,.slice l6 jj c0] w λ e W=>∃g:gD,e=.returned (pV g (yx n ah))/\Below w.heap.size w W/\(lB n [ah]≠0->g=qa)/\(lB n [ah]=0->∃(s':j6)(p:mG),kG D W n s' g/\s'.gs=s.gs++[ah]/\s'.es=s.es/\s'.aD=s.aD++[p]/\p.jf=1/\p.r.ah=ah):=by
 have I:=h.es f;have q:=h.pl;rw[h.agg]
 by_cases d:lB n [ah]=0
 ·have he:yx n ah=0:=if_pos d;rw[he];refine(O4 h.O f h.aO j ((Cu d).2.2 ah (by simp)) (by omega) (by omega) h.qm h.nh h.pp h.yw).mono λ e W P=>?_
  obtain⟨s',gI,bn,u,v,rfl,aO,O,h1,k,J,⟨p,y,z,B⟩,C,i,E,F,G⟩:=P;refine⟨⟨n,⟨gI,s'.gs.length,bn⟩,⟨t.l.A,s'.es.length,t.l.c⟩,⟨t.a.A,n+1,t.a.c⟩,⟨t.o.A,n,t.o.c⟩,s'.aW,⟨t.h.A,n+1,t.h.c⟩,⟨u,s'.aD.length,v⟩⟩,rfl,i,λ h=>absurd d h,λ _=>⟨s',p,⟨rfl,G D m h.S,O,E.2,F,.inr ?_,.inr ?_,?_⟩,h1,k,y,z,B⟩⟩
  ·obtain⟨b,off,e,_⟩:=aO.aD.cells (by omega);exact⟨b,off,e⟩
  ·obtain⟨b,off,e,_⟩:=aO.gs.cells (by rw[h1];simp);exact⟨b,off,e⟩
  ·rw[C,h1,k,q];simp;omega
 ·have he:yx n ah=140:=if_neg d;rw[he];refine(O5 h.O f h.aO j d).mono λ e W P=>?_
  obtain⟨rfl,i⟩:=P;exact⟨qa,rfl,i,λ _=>rfl,λ h=>absurd h d⟩
def uO(W:World)(F:List (List Int))(d:List Int)(n b:Nat)(u:kY):Prop:=
 0<=u.s/\u.s<=b/\((u.k=1/\u.o=lX/\∃m,kS W u.m.A u.m.n u.m.c m/\ri F n d m)\/(u.k=2/\u.m=lX/\∃co,aN W u.o.A u.o.n u.o.c co/\co.Sublist d/\¬Can F co)\/(u.k=3/\u.m=lX/\u.o=lX/\u.s=b/\b+1<=3^n))
theorem uO.below{W W':World}{F:List (List Int)}{ax:List Int}{n aX:Nat}{u:kY}(h:uO W F ax n aX u)(f:Below W.heap.size W W'):uO W' F ax n aX u:=by
 obtain⟨h1,g,e⟩:=h;refine⟨h1,g,?_⟩;rcases e with⟨a,b,m,c,d⟩|⟨a,b,co,c,d⟩|e
 ·exact .inl ⟨a,b,m,c.below f,d⟩
 ·exact .inr (.inl ⟨a,b,co,c.below f,d⟩)
 ·exact .inr (.inr e)
theorem CM(h:t_ A n c=mW):(⟨A,n,c⟩:aq)=lX:=by
 unfold mW at h;injection h with h1 b d
 subst h1 b d;rfl
theorem zH{t:gD}(h:kG D w n s t)(q:∀b,D b->b<w.heap.size)(l:n<=10){jw:Option Addr}{nq jF:Nat}{ax:List Int}(r:aN w jw nq jF ax)(v:nq<=1000)(y:s.gs.length<=40000){nB:Int}(i:qb n ax nB=true):
  Calls x_ 36 #[.agg t.L.toArray,.slice jw nq jF,.int .i64 nB] w λ e W=>∃(o:gD)(u:kY)(s':j6),e=.returned (sd o u 0)/\Below w.heap.size w W/\kG D W n s' o/\s'.gs=s.gs/\s.aD<+:s'.aD/\uO W s.gs ax n nB.toNat u:=by
 unfold qb at i;rw[Zl,Zl,decide_eq_true_eq,decide_eq_true_eq] at i;obtain⟨⟨hm,al⟩,an⟩:=i;obtain⟨b,rfl⟩:∃b:Nat,nB=b:=⟨nB.toNat,by omega⟩
 obtain⟨z,B⟩:=Ew hm;have ao:=h.es l;have C:=h.pl;rw[h.agg];refine(OG (bq:=D) b h.O l h.S r z B v (by omega) y (by omega) h.qm (λ hp=>h.pp.resolve_left hp) q).mono λ e W P=>?_
 obtain⟨s',E,c1,F,c2,G,c3,H,c4,p,c5,j,kind,I,J,K,N,Q,R,rfl,aq,O,h1,T,U,V,ar,X,Y,Z,aa,ab⟩:=P;refine⟨⟨n,⟨t.g.A,s.gs.length,t.g.c⟩,⟨E,s'.es.length,c1⟩,⟨F,n+1,c2⟩,⟨G,n,c3⟩,s'.aW,⟨H,n+1,c4⟩,⟨p,s'.aD.length,c5⟩⟩,⟨kind,⟨I,J,K⟩,⟨N,Q,R⟩,j⟩,s',rfl,Y,⟨by rw[t8,h1],λ W' f=>(ab W' f).1,O,Z.2,by rw[h1];exact h.nh,?_,h.yw,?_⟩,h1,U,?_⟩
 ·rcases Classical.em (p=none) with e|e
  ·exact .inl e
  ·exact .inr (aa e)
 ·rw[V,h1,T,C];omega
 ·refine⟨Int.natCast_nonneg _,by show(j:Int)<=(((b:Int).toNat:Nat):Int);rw[Zq];omega,?_⟩;rcases X with⟨rfl,d,m,k,_,ad,ae,af,ag⟩|⟨rfl,d,co,k,_,hs,hu⟩|⟨rfl,d,ah,ai⟩
  ·exact .inl ⟨rfl,CM d,m,k,ad,ae,af,ag⟩
  ·exact .inr (.inl ⟨rfl,CM d,co,k,hs,λ⟨M,aj,ak⟩=>hu M aj ak⟩)
  ·refine .inr (.inr ⟨rfl,CM d,CM ah,by show(j:Int)=(((b:Int).toNat:Nat):Int);rw[Zq,ai],?_⟩);have au:=O.ov;rw[Zq];omega
theorem A1{t:gD}(h:kG D w n s t)(b:n<=10){jw:Option Addr}{nq jF:Nat}{ax:List Int}(c:aN w jw nq jF ax)(d:nq<=1000000){nB:Int}(f:qb n ax nB=false):
  Calls x_ 36 #[.agg t.L.toArray,.slice jw nq jF,.int .i64 nB] w λ e W=>e=.returned (sd qa xF 1)/\Below w.heap.size w W:=
 Pb t n (by omega) (by rw[h.e];rfl) jw nq jF ax nB w c d f (h.check b)
theorem gF.up(h:gF n x)(hm:n<=m):gF m x:=⟨h.1,Z3 h.2 hm⟩
theorem ox.grow{n:Nat}{s:j6}(O:ox n s){m:Nat}(c:n<=m)(hm:m<=65536):ox m ⟨m,s.gs,s.es,rm s.act (m-n),qF n s.ord (m-n),s.aW,qG s.bH (m-n),s.aD⟩:=by
 refine⟨rfl,O.g1,λ g d x b=>(O.bk g d x b).up c,?_,?_,?_,λ e he=>?_,O.Eu,O.Cx,λ p hp=>⟨(O.xD p hp).1,λ x b=>((O.xD p hp).2 x b).up c⟩⟩
 ·have h1:=O.hk.grow (m-n) (by omega);rw[show n+(m-n)=m by omega] at h1;have f:qF n s.ord (m-n)=s.ord++(List.range (m-n)).map λ i:Nat=>((n+i:Nat):Int)+1:=by
   unfold qF
   congr 1
   refine List.map_congr_left λ i _=>?_
   omega
  show q9 m (rm s.act (m-n)) (qF n s.ord (m-n)) s.aW;rw[f];exact h1
 ·show(qG s.bH (m-n)).length=_;unfold qG;rw[List.length_append,List.length_replicate,O.nE];omega
 ·show jr (qG s.bH (m-n)) 0=false;have j:=O.oV;have hl:=O.nE;unfold qG jr at*;rw[List.getD_eq_getElem?_getD] at*;rw[Zo (by omega)];exact j
 ·obtain⟨h1,k⟩:=O.wA e he;exact⟨⟨h1.ne,λ x b=>(h1.lt x b).up c,h1.nu,h1.ic⟩,k⟩
theorem EG{t:gD}(h:kG D w n s t)(k:∀b,D b->b<w.heap.size)(i:n<=10){m:Nat}(v:n<=m)(hm:m<=10):
  Calls x_ 44 #[.agg t.L.toArray,.int .i64 m] w λ e W=>∃(y:gD)(s':j6),e=.returned (pV y 0)/\Below w.heap.size w W/\kG D W m s' y/\s'.gs=s.gs/\s'.es=s.es/\s'.aD=s.aD:=by
 have F:=h.O.hk.kM;have hl:=h.O.hk.pG;have hp:=h.O.nE;have z:=h.aO.act;have B:=h.aO.ord;have C:=h.aO.bH;rw[F] at z;rw[hl] at B;rw[hp] at C;have d:=h.e;refine(Pj t n m v (by omega) (by rw[d];rfl) s.act s.ord s.bH w z B C (by rw[d];rfl) (by rw[d];rfl) (by rw[d];rfl) (h.check i)).mono λ e W P=>?_
 obtain⟨A,c,A',c',G,H,rfl,o,q,r,j,I,J,K⟩:=P;have M:=h.O.grow v (by omega);have N:(rm s.act (m-n)).length=m+1:=o.len;have Q:(qF n s.ord (m-n)).length=m:=q.len;have R:(qG s.bH (m-n)).length=m+1:=r.len;have T:t.b=s.aW:=by rw[d];rfl
 have g1:t.g=⟨t.g.A,s.gs.length,t.g.c⟩:=by rw[d];rfl
 have g2:t.l=⟨t.l.A,s.es.length,t.l.c⟩:=by rw[d];rfl
 have g3:t.p=⟨t.p.A,s.aD.length,t.p.c⟩:=by rw[d];rfl
 have u:∀W',aF (λ b=>b<W.heap.size/\¬D b) W W'->aF (λ b=>b<w.heap.size/\¬D b) w W':=λ W' f=>(aF.q4 j λ b j=>j.1).trans (f.mono λ b E=>⟨p_ E.1 j.size,E.2⟩)
 refine⟨_,⟨m,s.gs,s.es,rm s.act (m-n),qF n s.ord (m-n),s.aW,qG s.bH (m-n),s.aD⟩,rfl,j,⟨?_,λ W' f=>⟨(h.S W' (u W' f)).gs,(h.S W' (u W' f)).es,?_,?_,?_,(h.S W' (u W' f)).aD⟩,M,h.qm,h.nh,h.pp,h.yw,h.pl⟩,rfl,rfl,rfl⟩
 ·unfold t8;rw[<-T];simp only[gD.mk.injEq,true_and];exact⟨g1,g2,g3⟩
 ·show aN W' A (rm s.act (m-n)).length c _;rw[N];exact o.iQ f λ b e i=>⟨o.lt b e i,λ h=>by have:=k b h;have:=I b e;omega⟩
 ·show aN W' A' (qF n s.ord (m-n)).length c' _;rw[Q];exact q.iQ f λ b e i=>⟨q.lt b e i,λ h=>by have:=k b h;have:=J b e;omega⟩
 ·show kS W' G (qG s.bH (m-n)).length H _;rw[R];refine r.iQ f λ b e=>?_
  obtain⟨U,off,V,hl,_⟩:=r.cells (Nat.succ_pos m);have X:=K b e;rw[V] at e;injection e with e
  have e:U=b:=e;exact⟨by omega,λ h=>by have:=k b h;omega⟩
theorem Pm{t:gD}(h:kG D w n s t)(b:n<=10){m:Int}(hm:m<n\/65536<m):
  Calls x_ 44 #[.agg t.L.toArray,.int .i64 m] w λ e W=>e=.returned (pV qa 1)/\Below w.heap.size w W:=
 Pk t m w (by rw[h.e];exact hm) (h.check b)
end
section
open Go.RowKit Go.Shelf Go.Lib
structure s6 where
 k:Int
 m:Int
 r:Row
def xG(o:s6):List Value:=[.int .i64 o.k,.int .i64 o.m,kF o.r]
def CN(es:List s6):List Value:=(es.map xG).flatten
theorem A2:∀(es:List s6)(j:Nat)(h:j<es.length)(k:Nat),k<3->(CN es)[j*3+k]? =(xG es[j])[k]?
 |[],j,h,k,hk=>by simp at h
 |e::es,0,h,k,hk=>by
  show(xG e++CN es)[0*3+k]? =_;rw[Zo (by simp[xG];omega)];simp
 |e::es,j+1,h,k,hk=>by
  show(xG e++CN es)[(j+1)*3+k]? =_;rw[List.getElem?_append_right (by simp[xG];omega)];have:=A2 es j (by simpa using h) k hk;rw[show(j+1)*3+k-(xG e).length=j*3+k by simp[xG];omega,this];rfl
structure vM(w:World)(A:Option Addr)(n c:Nat)(es:List s6):Prop where
 len:es.length=n
 cap:n<=c
 mP:n*40<=140737488355328
 oo:c<=maxLen
 cells:0<n->∃b off,A=some ⟨b,off,none⟩/\b<w.heap.size/\∀k,k<n*3->w.cell? ⟨b,off+k,none⟩=(CN es)[k]?
 rows:∀e∈es,aN w e.r.A e.r.n e.r.c e.r.ah
theorem vM.below{w w':World}{A:Option Addr}{n c:Nat}{es:List s6}(h:vM w A n c es)(d:Below w.heap.size w w'):vM w' A n c es:=
 ⟨h.len,h.cap,h.mP,h.oo,λ g=>by
  obtain⟨b,off,rfl,f,i⟩:=h.cells g;exact⟨b,off,rfl,p_ f d.size,λ k hk=>(d.cell (p:=⟨b,_,none⟩) f).trans (i k hk)⟩,λ e he=>(h.rows e he).below d⟩
theorem vM.AI{es:List s6}(h:vM w A n c es){k:Nat}(hk:k<n):
  ∃(b off:Nat)(o:s6),A=some ⟨b,off,none⟩/\b<w.heap.size/\es[k]? =some o/\w.cell? ⟨b,off+k*3,none⟩=some (.int .i64 o.k)/\w.cell? ⟨b,off+k*3+1,none⟩=some (.int .i64 o.m)/\w.cell? ⟨b,off+k*3+2,none⟩=some (.slice o.r.A o.r.n o.r.c)/\aN w o.r.A o.r.n o.r.c o.r.ah:=by
 obtain⟨b,off,e,j,f⟩:=h.cells (by omega);have d:k<es.length:=by rw[h.len];exact hk
 have g:=f (k*3) (by omega);have h1:=f (k*3+1) (by omega);have i:=f (k*3+2) (by omega);have g0:=A2 es k d 0 (by omega);have g1:=A2 es k d 1 (by omega);have g2:=A2 es k d 2 (by omega);rw[Nat.add_zero] at g0;rw[g0] at g;rw[g1] at h1;rw[g2] at i;exact⟨b,off,es[k],e,j,k_ d,g,h1,i,h.rows _ (List.getElem_mem d)⟩
def EH(w:World)(n:Int)(nl:Nat)(es:List s6)(e:Ending)(W:World):Prop:=
 ∃r:Bool,e=.returned (.bool r)/\W=w/\(r=true->0<=n/\n<=6/\nl<=25/\∀o∈es,o.r.n<=20)
theorem EI(n:Int)(A:Option Addr)(nl cl:Nat)(es:List s6)(w:World)(h:vM w A nl cl es):
  Calls x_ 52 #[.int .i64 n,.slice A nl cl] w (EH w n nl es):=by
 have H:=U h;have y:=h.mP;have S:nl<=17592186044416:=by omega
 clear h y;go_enter Tryz.func52,Tryz.ntmps52
 go_wp2_with fail
 go_loop [5] (λ i=>∃k:Nat,i=.int .i64 k/\k<=nl/\k<=40/\∀(j:Nat)(o:s6),j<k->es[j]? =some o->o.r.n<=20) (λ i=>nl-(intOf i).toNat)
 case atStart=>exact⟨0,rfl,s_ _,by omega,λ j o d=>by omega⟩
 case round=>
  obtain⟨k,rfl,hk,T,d⟩:=hrel;have s:=U d;clear d
  by_cases g:k<nl
  ·have z:(k:Int)<(nl:Int):=by omega
   by_cases t:k<40
   ·have B:(k:Int)<40:=by omega
    obtain⟨b,off,o,rfl,C,he,D,E,F,f⟩:=H.o.AI g;have q:=U (w_ he (w_ g t));clear D E he g C;obtain⟨m,hm⟩:∃m,o.r.n=m:=⟨_,rfl⟩
    have G:=f.small;rw[hm] at F G;have I:=U hm;clear hm f
    by_cases J:m<=20
    ·have K:¬(20:Int)<(m:Int):=by omega
     have V:e_.wrap ((k:Int)+1)=(k:Int)+1:=by rw[n_];omega
     have L:=U J
     go_wp2_with fail
     go_round
     case rel=>
      refine⟨k+1,by go_num,by have:=q.o.2.1;omega,by have:=q.o.2.2;omega,λ j M d l=>?_⟩;rcases Nat.lt_or_ge j k with h1|h1
      ·exact s.o j M h1 l
      ·obtain rfl:j=k:=by omega
       rw[q.o.1] at l;injection l with l
       rw[<-l,I.o];exact L.o
     case measure=>have:=q.o.2.1;simp[intOf];omega
    ·have K:(20:Int)<(m:Int):=by omega
     go_wp2_with fail
     go_ret;exact⟨false,rfl,rfl,λ h=>by cases h⟩
   ·have B:¬(k:Int)<40:=by omega
    have N:¬(nl:Int)<=25:=by omega
    have p:∀r:Bool,r=false->EH w n nl es (.returned (.bool r)) w:=λ r f=>⟨r,rfl,rfl,λ h=>by rw[f] at h;cases h⟩
    have c:=U p;clear p hk g t
    by_cases u:0<=n
    ·by_cases v:n<=6
     ·go_wp2_with fail
      go_ret;exact c.o _ rfl
     ·go_wp2_with fail
      go_ret;exact c.o _ rfl
    ·go_wp2_with fail
     go_ret;exact c.o _ rfl
  ·have z:¬(k:Int)<(nl:Int):=by omega
   have O:bF (k=nl):=U (by omega);have p:∀r:Bool,(r=true->0<=n/\n<=6/\nl<=25)->EH w n nl es (.returned (.bool r)) w:=λ r f=>⟨r,rfl,rfl,λ h=>by
    obtain⟨h1,P,Q⟩:=f h;refine⟨h1,P,Q,λ o R=>?_⟩;obtain⟨j,d,e⟩:=Ze.1 R;exact s.o j o (by rw[O.o,<-H.o.len];exact d) (by rw[k_ d,e])⟩
   have c:=U p;clear p hk g
   by_cases u:0<=n
   ·by_cases v:n<=6
    ·by_cases N:(nl:Int)<=25
     ·go_wp2_with fail
      go_ret;exact c.o _ λ _=>⟨u,v,by omega⟩
     ·go_wp2_with fail
      go_ret;exact c.o _ λ h=>by cases h
    ·go_wp2_with fail
     go_ret;exact c.o _ λ h=>by cases h
   ·go_wp2_with fail
    go_ret;exact c.o _ λ h=>by cases h
theorem Pn:Mod λ x=>decide (0<x):=λ x b=>by
 show decide (0< -x)= !decide (0<x);rw[Bool.eq_iff_iff];simp;omega
theorem IU(h:∀x∈co,0<x):Can mY co:=⟨λ x=>decide (0<x),Iz _ Pn (by decide),λ x b=>by simpa using h x b⟩
theorem Po:¬Can mY [1,-2]:=λ⟨M,b,e⟩=>by
 have h1:=e 1 (by simp);have c:=e (-2) (by simp);rw[b.1 2 (by decide)] at c;obtain⟨y,f,d⟩:=b.2 [-1,2] (by unfold mY;simp);simp only[Zc,d_,or_false] at f;rcases f with rfl|rfl
 ·rw[b.1 1 (by decide),h1] at d;cases d
 ·rw[d] at c;cases c
theorem Pp(h:co.Sublist [1,-2])(hu:¬Can mY co):hasB co (-2)=true/\co.length<=2:=by
 refine⟨?_,by simpa using h.length_le⟩;rw[oQ];refine Zn λ c=>hu (IU λ x b=>?_)
 have:=h.subset b;simp only[Zc,d_,or_false] at this;rcases this with rfl|rfl
 ·decide
 ·exact absurd b c
theorem Pq{u:kY}(h:uO W mY [] 2 100 u):u.k=1/\u.o=lX/\∃m,kS W u.m.A u.m.n u.m.c m/\ri mY 2 [] m:=by
 obtain⟨g,h1,d|⟨_,_,co,_,hs,b⟩|⟨_,_,_,_,e⟩⟩:=h
 ·exact d
 ·rw[List.sublist_nil.1 hs] at b;exact absurd (IU λ x f=>by cases f) b
 ·exact absurd e (by decide)
theorem Pr{u:kY}(h:uO W mY [1,-2] 2 100 u):u.k=2/\u.m=lX/\∃co,aN W u.o.A u.o.n u.o.c co/\co.Sublist [1,-2]/\¬Can mY co:=by
 obtain⟨e,h1,⟨_,_,m,_,hm⟩|b|⟨_,_,_,_,d⟩⟩:=h
 ·exact absurd hm.can Po
 ·exact b
 ·exact absurd d (by decide)
end
section
open Go.RowKit Go.Shelf Go.Lib
section
variable {V:World}{bt n:Nat}{s:j6}{t:gD}
theorem CO{V W:World}{ah:List Int}(h:Below (V.alloc (lW ah)).heap.size (V.alloc (lW ah)) W):Below V.heap.size V W:=(bg V _).trans (h.mono (bg V _).size)
theorem IV(S:kG (λ b=>b=bt) V n s t)(v:bt<V.heap.size)(g:n<=10)(ah:List Int)(m:Nat)(hm:ah.length=m)(i:m<=1000)(f:lB n [ah]=0)(j:s.gs.length<40000):
  Calls x_ 46 #[.agg t.L.toArray,.slice (some ⟨V.heap.size,0,none⟩) m m] (V.alloc (lW ah)) λ e W=>∃(c:gD)(s':j6)(p:mG),e=.returned (pV c 0)/\Below V.heap.size V W/\kG (λ b=>b=bt) W n s' c/\s'.gs=s.gs++[ah]/\s'.aD=s.aD++[p]/\p.jf=1/\p.r.ah=ah:=by
 have k:yx n ah=0:=if_pos f;refine(CL (S.below (bg V _)) (λ b d=>by subst d;have:=(bg V (lW ah)).size;omega) g (aN.lit V ah m _ hm rfl i) j).mono ?_;rintro e W ⟨c,rfl,d,_,h⟩;obtain⟨s',p,h1,l,_,o,q,u⟩:=h f;exact⟨c,s',p,by rw[k],CO d,h1,l,o,q,u⟩
theorem Pt(S:kG (λ b=>b=bt) V n s t)(l:bt<V.heap.size)(g:n<=10)(c:List Int)(m:Nat)(hm:c.length=m)(i:m<=1000)(f:lB n [c]≠0)(j:s.gs.length<40000):
  Calls x_ 46 #[.agg t.L.toArray,.slice (some ⟨V.heap.size,0,none⟩) m m] (V.alloc (lW c)) λ e W=>e=.returned (pV qa 140)/\Below V.heap.size V W:=by
 have k:yx n c=140:=if_neg f;refine(CL (S.below (bg V _)) (λ b d=>by subst d;have:=(bg V (lW c)).size;omega) g (aN.lit V c m _ hm rfl i) j).mono ?_;rintro e W ⟨o,rfl,d,h,_⟩;exact⟨by rw[k,h f],CO d⟩
theorem Pu(S:kG (λ b=>b=bt) V n s t)(l:bt<V.heap.size)(g:n<=10)(c:List Int)(m:Nat)(hm:c.length=m)(i:m<=1000)(j:s.gs.length<=40000)(k:qb n c 100=true):
  Calls x_ 36 #[.agg t.L.toArray,.slice (some ⟨V.heap.size,0,none⟩) m m,.int .i64 100] (V.alloc (lW c)) λ e W=>∃(d:gD)(u:kY)(s':j6),e=.returned (sd d u 0)/\Below V.heap.size V W/\kG (λ b=>b=bt) W n s' d/\s'.gs=s.gs/\s.aD<+:s'.aD/\uO W s.gs c n 100 u:=by
 refine(zH (S.below (bg V _)) (λ b f=>by subst f;have:=(bg V (lW c)).size;omega) g (aN.lit V c m _ hm rfl i) (by omega) j k).mono ?_;rintro e W ⟨d,u,s',rfl,f,h⟩;exact⟨d,u,s',rfl,CO f,h⟩
theorem Pv(S:kG (λ b=>b=bt) V n s t)(f:bt<V.heap.size)(g:n<=10)(i:s.gs.length<=40000)(j:qb n [] 100=true):
  Calls x_ 36 #[.agg t.L.toArray,.slice none 0 0,.int .i64 100] V λ e W=>∃(c:gD)(u:kY)(s':j6),e=.returned (sd c u 0)/\Below V.heap.size V W/\kG (λ b=>b=bt) W n s' c/\s'.gs=s.gs/\s.aD<+:s'.aD/\uO W s.gs [] n 100 u:=by
 refine(zH S (λ b d=>by subst d;exact f) g (aN.nil V none 0 (s_ _)) (by omega) i j).mono ?_;rintro e W ⟨c,u,s',rfl,d,h⟩;exact⟨c,u,s',rfl,d,h⟩
theorem Pw(S:kG (λ b=>b=bt) V n s t)(d:n<=10)(c:List Int)(m:Nat)(hm:c.length=m)(f:m<=1000)(g:qb n c 100=false):
  Calls x_ 36 #[.agg t.L.toArray,.slice (some ⟨V.heap.size,0,none⟩) m m,.int .i64 100] (V.alloc (lW c)) λ e W=>e=.returned (sd qa xF 1)/\Below V.heap.size V W:=by
 refine(A1 (S.below (bg V _)) d (aN.lit V c m _ hm rfl f) (by omega) g).mono ?_;rintro e W ⟨rfl,i⟩;exact⟨rfl,CO i⟩
end
theorem EJ(w:World)(t:gD)(q:kY):aM ((w.alloc (.cells t.L.toArray 47)).alloc (.cells q.L.toArray 30)) w.heap.size 47 t.L:=
 (aM.new w 47 t.L).below (bg _ _)
theorem Px(w:World):Calls x_ 49 #[.agg qa.L.toArray] w λ e w'=>e=.returned (.int .i64 1)/\Below w.heap.size w w':=by
 have d:=bg w (.cells qa.L.toArray 47);have b:=aM.new w 47 qa.L;have f:tN [] [] 0=false:=by decide
 have i:bF (∀W:World,Calls x_ 111 #[.agg #[.slice none 0 0,.slice none 0 0,.int .i64 0]] W λ e w'=>e=.returned (.int .i64 1)/\Below W.heap.size W w'):=U λ W=>by
  have h:=Fv (y:=0) (h:=aN.nil W none 0 (s_ _)) (h':=aN.nil W none 0 (s_ _));rw[f] at h;exact h
 have c:=U d;simp only[gD.L,qa,lX] at b;clear d;simp only[gD.L,qa,lX];go_enter Tryz.func49,Tryz.ntmps49
 go_upto_region 1 with fail
 have y:=b.cell;have j:=y 0;have k:=y 1;have l:=y 2;have m:=y 3;have n:=y 4;have p:=y 5;have q:=y 6;have r:=y 7;simp only[z_,y_] at j k l m n p q r;clear y b f;change bF (Below _ w (w.alloc (.cells #[.int .i64 0,.slice none 0 0,.slice none 0 0,.slice none 0 0,.slice none 0 0,.int .i64 0,.slice none 0 0,.slice none 0 0] 47))) at c;generalize w.alloc (.cells #[.int .i64 0,.slice none 0 0,.slice none 0 0,.slice none 0 0,.slice none 0 0,.int .i64 0,.slice none 0 0,.slice none 0 0] 47)=W at*
 go_wp2_with (go_at_call 111;refine(i.o _).mono ?_;rintro e t ⟨rfl,g⟩;have s:=U g;clear g)
 go_ret;exact⟨rfl,c.o.trans (s.o.mono c.o.size)⟩
end
section
open Go.RowKit Go.Shelf
def nI(w:World)(b n m:Nat)(S:List Int):Prop:=
 ∃D:DataW Unit,w.ownsMap x_ 3 (plainElem x_ 4) b n D/\As tB D (wq S)/\Maps.size D=m
theorem nI.oN(h:nI w b n m S):mT 4 tB w b n (wq S):=by
 obtain⟨D,h1,c,_⟩:=h;exact⟨D,h1,c⟩
theorem nI.mono{w:World}{b n ig m:Nat}{S:List Int}(h:nI w b n m S)(c:n<=ig):nI w b ig m S:=by
 obtain⟨D,h1,d⟩:=h;exact⟨D,h1.mono c,d⟩
theorem nI.more(h:nI w b n m S):nI w b (n+1) m S:=h.mono (Nat.le_succ n)
theorem nI.le(h:nI w b n m S):m<=n:=by
 obtain⟨D,h1,c,rfl⟩:=h;exact h1.size_le
theorem nI.made(w:World):nI (w.alloc (.map #[] 0)) w.heap.size 0 0 []:=
 ⟨_,World.ownsMap_made w _ _ _,⟨λ x _=>rfl,λ x v _ h=>by cases h⟩,rfl⟩
theorem nI.lt{w:World}{b n m:Nat}{S:List Int}(h:nI w b n m S):b<w.heap.size:=h.oN.lt
theorem nI.kept{w w':World}{b n m:Nat}{S:List Int}{row:Option Nat}(h:nI w b n m S)(c:w.grownBy w' row)(d:some b≠row):nI w' b n m S:=by
 obtain⟨D,h1,e⟩:=h;exact⟨D,h1.kept c d,e⟩
theorem nI.below(h:nI w b n m S)(c:Below B w w')(d:b<B):nI w' b n m S:=by
 obtain⟨D,⟨es,clock,h1,e⟩,f⟩:=h;exact⟨D,⟨es,clock,(c.block b d).trans h1,e⟩,f⟩
theorem nI.look{t:TypeId}(c:x_.underlying t=some (.map 3 4)){w:World}{b n m:Nat}{S:List Int}(h:nI w b n m S){x:Int}(d:r5 x=true):
  (Instr.lookup t (.map (some b)) (.int .i64 x) false).run x_ w=.ok (.bool (hasB S x)) w:=by
 rw[h.oN.look B1 c d,LG]
theorem nI.len{t:TypeId}(c:x_.underlying t=some (.map 3 4)){w:World}{b n m:Nat}{S:List Int}(h:nI w b n m S)(ty:TypeId):
  (Builtin.len_ #[t] ty #[.map (some b)]).run x_ w=.ok (.int .i64 (m:Int)) w:=by
 obtain⟨D,h1,d,rfl⟩:=h;exact h1.len c ty
def xH(m:Nat)(S:List Int):Prop:=(m=0↔S=[])/\(m=1↔S≠ []/\∀x∈S,∀y∈S,x=y)
theorem xH.nil:xH 0 []:=⟨⟨λ _=>rfl,λ _=>rfl⟩,⟨λ h=>absurd h (by omega),λ h=>absurd rfl h.1⟩⟩
theorem xH.put(h:xH m S)(x:Int):xH (if hasB S x=true then m else m+1) (S++[x]):=by
 obtain⟨i,h1⟩:=h
 by_cases g:hasB S x=true
 ·rw[if_pos g];have hm:=oQ.1 g;have n:S≠ []:=λ e=>by rw[e] at hm;cases hm
  refine⟨⟨λ e=>absurd (i.1 e) n,λ e=>by simp at e⟩,⟨λ e=>⟨by simp,λ a d b f=>?_⟩,λ⟨_,j⟩=>h1.2 ⟨n,λ a d b f=>j a (by simp[d]) b (by simp[f])⟩⟩⟩;have key:∀c∈S++[x],c∈S:=λ c k=>(u_.1 k).elim id λ k=>by rw[v_.1 k];exact hm
  exact(h1.1 e).2 a (key a d) b (key b f)
 ·rw[if_neg g];have hm:x∉S:=λ hm=>g (oQ.2 hm)
  refine⟨⟨λ e=>by omega,λ e=>by simp at e⟩,⟨λ e=>?_,λ⟨_,j⟩=>?_⟩⟩
  ·have l:S=[]:=i.1 (by omega);subst l;exact⟨by simp,λ a d b f=>by simp at d f;rw[d,f]⟩
  ·have l:S=[]:=by
    cases S with
    |nil=>rfl
    |cons y S=>
     have:=j x (by simp) y (by simp);exact absurd (by rw[this];simp) hm
   have:=i.2 l;omega
theorem nI.put{t:TypeId}(e:x_.underlying t=some (.map 3 4)){w:World}{b n m:Nat}{S:List Int}(h:nI w b n m S)(f:n<maxLen){x:Int}(c:r5 x=true):
  ∃w',(Instr.mapUpdate t (.map (some b)) (.int .i64 x) (.bool true)).run x_ w=.ok () w'/\nI w' b (n+1) (if hasB S x=true then m else m+1) (S++[x])/\w.mapTurned w' b:=by
 obtain⟨D,h1,d,g⟩:=h;obtain⟨w',i,j,k⟩:=h1.store (Maps.int_keyed c_) e f (Maps.keyOf_int_mk c_ c) (B1.Ar true trivial);refine⟨w',i,⟨_,j,?_,?_⟩,k⟩
 ·rw[<-LI];exact d.put h1.isMap x true
 ·rw[Maps.size_put (h1.tidy (Maps.int_keyed c_)),d.1 x c,LH,g]
end
section
open Go.RowKit Go.Shelf Go.Lib
theorem EK(x:Int)(w:World)(b:x≠0)(h1: -65536<=x)(c:x<=65536):Calls x_ 241 #[.int .i64 x] w λ e w'=>e=.returned (.bool true)/\w=w':=by
 go_enter Tryz.func241,Tryz.ntmps241
 go_wp2;go_ret;exact⟨lS (by simp[b,h1,c]),rfl⟩
def o8(T l:List Int):List Int:=l.filter λ x=> !(hasB T (-x))
theorem Py(h:k<l.length):o8 T (l.take (k+1))=if hasB T (-(jv l k))=true then o8 T (l.take k) else o8 T (l.take k)++[jv l k]:=by
 unfold o8;rw[tK l k h,List.filter_append]
 cases b:hasB T (-(jv l k))<;>simp[b]
structure tJ(T l:List Int)(f:Int)(od:Bool):Prop where
 yes:od=true->∀x∈l,-x∈T
 one:f≠0->od=false/\CE T l f
 no:od=false->f=0->¬(∀x∈l,-x∈T)/\∀g,g≠0->¬CE T l g
theorem xI:x∈o8 T l↔x∈l/\ -x∉T:=by
 unfold o8;rw[List.mem_filter,Bool.not_eq_true',<-Bool.not_eq_true,oQ]
theorem tJ.Pz(h:k<l.length)(h1: -(jv l k)∉T)(f:jv l k∈T):tJ T l 0 false:=by
 have hm:=vO h;refine⟨λ h=>(by cases h),λ h=>absurd rfl h,λ _ _=>⟨λ i=>h1 (i _ hm),λ g j ⟨a,b,c,d⟩=>?_⟩⟩;rcases d _ hm with e|e
 ·exact b (e▸f)
 ·exact h1 e
theorem tJ.PA(h:o8 T l=[]):tJ T l 0 true:=
 ⟨λ _ x b=>Zn λ c=>absurd (show x∈o8 T l from xI.2 ⟨b,c⟩) (by rw[h];exact d_),λ h=>absurd rfl h,λ h=>(by cases h)⟩
theorem tJ.PB{f:Int}(b:f∈o8 T l)(c:∀x∈o8 T l,∀y∈o8 T l,x=y)(d:∀x∈o8 T l,x∉T)(g:f≠0):tJ T l f false:=by
 obtain⟨h1,i⟩:=xI.1 b;refine⟨λ h=>(by cases h),λ _=>⟨rfl,h1,d f b,i,λ x j=>?_⟩,λ _ h=>absurd h g⟩;rcases Classical.em (-x∈T) with e|e
 ·exact .inr e
 ·exact .inl (c x (xI.2 ⟨j,e⟩) f b)
theorem tJ.PC(hm:xH m (o8 T l))(f:m≠0)(h1:m≠1):tJ T l 0 false:=by
 refine⟨λ h=>(by cases h),λ h=>absurd rfl h,λ _ _=>⟨λ i=>f (hm.1.2 ?_),λ g w ⟨a,b,c,d⟩=>h1 (hm.2.2 ⟨?_,?_⟩)⟩⟩
 ·cases j:o8 T l with
  |nil=>rfl
  |cons y r=>
   have k:y∈o8 T l:=by rw[j];simp
   obtain⟨n,o⟩:=xI.1 k;exact absurd (i y n) o
 ·intro e;have:g∈o8 T l:=xI.2 ⟨a,c⟩;rw[e] at this;cases this
 ·intro x p y q;obtain⟨s,t⟩:=xI.1 p;obtain⟨u,v⟩:=xI.1 q;rw[(d x s).resolve_right t,(d y u).resolve_right v]
theorem PD(b m ai:Nat)(T:List Int)(A:Option Addr)(n c:Nat)(l:List Int)(w:World)(E:nI w b m ai T)(h:aN w A n c l)(hl:∀x∈l,x≠0/\ -65536<=x/\x<=65536):
  Calls x_ 243 #[.map (some b),.slice A n c] w λ e w'=>∃(f:Int)(M:Bool),e=.returned (.tuple #[.int .i64 f,.bool M])/\tJ T l f M/\Below w.heap.size w w':=by
 have av:=h.small;have H:=U h;have N:=U E;have O:=U hl;have P:=U E.lt;clear h E hl;have aw:= @run_makeMap x_;go_enter Tryz.func243,Tryz.ntmps243
 go_wp2;have F:=nI.made w;have G:Below w.heap.size w (w.alloc (.map #[] 0)):=(h_ _ _).alloc (f_ _) _;generalize aj:w.alloc (.map #[] 0)=W at F G⊢;clear aj;have ak:=U F;have al:=U G;clear F G
 go_loopw [4,12] (λ q i wr=>∃(k m1:Nat)(f:Int),k<=n/\i=.int .i64 k/\q=.int .i64 f/\nI wr w.heap.size k m1 (o8 T (l.take k))/\xH m1 (o8 T (l.take k))/\(∀x∈o8 T (l.take k),x∉T)/\(o8 T (l.take k)≠ []->f∈o8 T (l.take k))/\Below w.heap.size w wr) (λ _ i _=>n-(intOf i).toNat)
 case atStart=>exact⟨0,0,0,s_ _,rfl,rfl,ak.o,xH.nil,λ x s=>by simp[o8] at s,λ h=>absurd rfl h,al.o⟩
 case round=>
  obtain⟨k,m1,f,hk,rfl,rfl,Q,R,S,V,X⟩:=hrel;have v:=U Q;have d:=U (w_ R (w_ S V));have j:=U X;clear Q R S V X
  by_cases Y:k<n
  ·obtain⟨ax,off,rfl,ay,Z⟩:=(H.o.below j.o).cells (by omega);have an:=Z k Y;clear Z;have hl:k<l.length:=by rw[H.o.len];exact Y
   have r:=O.o _ (vO hl);have aa:=U (Py (T:=T) hl);have ao:=U (w_ hl r);obtain⟨x,s⟩:∃x,jv l k=x:=⟨_,rfl⟩
   rw[s] at an r;have I:bF (∀W:World,Calls x_ 241 #[.int .i64 x] W λ e w'=>e=.returned (.bool true)/\W=w'):=U λ W=>EK x W r.1 r.2.1 r.2.2
   have z:r5 x=true:=zh (by omega) (by omega);have aq:r5 (-x)=true:=zh (by omega) (by omega);have wn:e_.wrap (-x)= -x:=by rw[n_];omega
   have ab:=(N.o.below j.o P.o).look Tryz.underlying228 aq;have J:=(N.o.below j.o P.o).look Tryz.underlying228 z;have C:=U s
   cases t:hasB T (-x) with
   |true=>
    rw[t] at ab;have D:=U t;clear t r hl s z J
    go_wp2_with (go_at_call 241;refine(I.o _).mono ?_;rintro e w' ⟨rfl,rfl⟩)
    go_roundw
    case rel=>
     have p:o8 T (l.take (k+1))=o8 T (l.take k):=by rw[aa.o,C.o,if_pos D.o]
     exact⟨k+1,m1,f,by omega,by go_num,rfl,by rw[p];exact v.o.more,by rw[p];exact d.o.1,by rw[p];exact d.o.2.1,by rw[p];exact d.o.2.2,j.o⟩
    case measure=>simp[intOf];omega
   |false=>
    rw[t] at ab;have D:=U t
    cases u:hasB T x with
    |true=>
     rw[u] at J;have K:=U u;clear t u r hl s z
     go_wp2_with (go_at_call 241;refine(I.o _).mono ?_;rintro e w' ⟨rfl,rfl⟩)
     go_ret2
     refine⟨0,false,rfl,tJ.Pz ao.o.1 ?_ ?_,j.o⟩
     ·rw[C.o,<-oQ,D.o];exact Zk
     ·rw[C.o,<-oQ];exact K.o
    |false=>
     rw[u] at J;have K:=U u;obtain⟨az,aA,ad,o6⟩:=v.o.put Tryz.underlying114 (by unfold maxLen;omega) z;have ar:=U ad;have au:=U o6;clear t u r hl s z ad o6
     go_wp2_with (go_at_call 241;refine(I.o _).mono ?_;rintro e w' ⟨rfl,rfl⟩)
     go_roundw
     case rel=>
      have p:o8 T (l.take (k+1))=o8 T (l.take k)++[x]:=by rw[aa.o,C.o,if_neg (by rw[D.o];exact Zk)]
      refine⟨k+1,_,x,by omega,by go_num,rfl,by rw[p];exact ar.o,by rw[p];exact d.o.1.put x,?_,λ _=>by rw[p];simp,yj j.o au.o.grown j.o.size (λ g e=>by injection e with e;omega)⟩;rw[p];intro y B;rcases u_.1 B with B|B
      ·exact d.o.2.1 y B
      ·rw[v_.1 B,<-oQ,K.o];exact Zk
     case measure=>simp[intOf];omega
  ·obtain rfl:k=n:=by omega
   have ae:l.take k=l:=List.take_of_length_le (by rw[H.o.len];omega);rw[ae] at v d;have hlen:=v.o.len Tryz.underlying114;have hle:=v.o.le;clear ae
   by_cases L:m1=0
   ·subst L;go_wp2
    go_ret2
    exact⟨0,true,rfl,tJ.PA (d.o.1.1.1 rfl),j.o⟩
   ·by_cases h1:m1=1
    ·subst h1;go_wp2
     go_ret2
     have af:=d.o.1.2.1 rfl;have ag:=d.o.2.2 af.1;exact⟨f,false,rfl,tJ.PB ag af.2 d.o.2.1 (O.o f (xI.1 ag).1).1,j.o⟩
    ·have i0:¬(m1:Int)=0:=by omega
     have i1:¬(m1:Int)=1:=by omega
     have ah:=U (w_ L h1);clear L h1;go_wp2
     go_ret2
     exact⟨0,false,rfl,tJ.PC d.o.1 ah.o.1 ah.o.2,j.o⟩
end
end Go.Proofs.YtogdlkfacflmaaaGreat
