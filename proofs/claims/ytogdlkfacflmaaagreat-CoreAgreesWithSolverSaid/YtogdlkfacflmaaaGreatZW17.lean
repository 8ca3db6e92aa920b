/- Parts of the walk of the solver and its core; no condition. -/
import Derived.Below
import Derived.ChangeSame
import Derived.ProofKit
import Derived.Test.YtogdlkfacflmaaaGreatZW1
import Derived.Test.YtogdlkfacflmaaaGreatZW16
import Derived.Deep.Grids
import Derived.OpenShut
import Derived.SizedLaws
import Derived.Lib.SmallJoins
import Derived.Deep.Slices
import Derived.Deep.Fields
import Derived.Deep.Strs
import Derived.Test.YtogdlkfacflmaaaGreatRows
import Derived.WalkKit
import Derived.Test.YtogdlkfacflmaaaGreatZW14
import Derived.Test.YtogdlkfacflmaaaGreatZW15
namespace Go.Proofs.YtogdlkfacflmaaaGreat
set_option linter.unusedVariables false
set_option linter.unusedSimpArgs false
set_option maxRecDepth 100000
set_option maxHeartbeats 8000000
open _root_.Go.Proofs.Tryz renaming prog→z_,underlying22→o_,underlying25→e_
open _root_.List renaming getElem?_cons_zero→y_,getElem?_cons_succ→x_,mem_append→u_,mem_singleton→t_,getD_eq_getElem?_getD→s_,getElem?_eq_some_iff→r_,eq_nil_of_length_eq_zero→p_,length_filter_le→j_,set_cons_succ→h_,set_cons_zero→g_,getElem?_eq_getElem→b_,length_map→Zx,mem_iff_getElem→Zt,mem_cons→Zp
open _root_.Array renaming getD_eq_getD_getElem?→w_,replicate→q_,all_eq_true_iff_forall_mem→k_,getElem?_eq_getElem→c_,getElem?_eq_none→Zw,mem_of_getElem?→Zu
open _root_.And renaming intro→v_
open _root_.Nat renaming le_refl→n_,le_trans→m_,zero_add→Zz,lt_or_ge→Zm
open _root_.Option.some renaming injEq→l_
open _root_.Go.DataW renaming Trod→i_,weights→Zo
open _root_.Go.Region renaming wanted→f_,binds→Zl,ready→Zk
open _root_.Go.World renaming ownsRow_nil→d_,cell?_of_block→Zq
open _root_.Go.Addr renaming add_lit→a_
open _root_.Go.WideShapes renaming add_plain→Zy
open _root_.Go.Lit renaming int→Zv
open _root_.Go.WideElems renaming Trod_stays→Zs
open _root_.Char renaming ofNat→Zr
open _root_.Go.Value renaming okWide→Zn
open _root_.Go.Value.slice renaming injEq→Zj
variable{H:Type}{t e:TypeId}{P:Program}{rest:List (List Char)}{w w' W:World}{ops:Array Oper}{o:Oper}{a:Act}{Q:Exit->Act->World->Prop}{base n c bp aF cl c' bD aU i:Nat}{A aM ia A' fM aQ:Option Addr}{s:kf}{aK:Ending->World->Prop}{v0 v1 v2 v3 v:Value}{ah:List Int}{ws:List (List Nat)}{iq:World->Prop}{G:Nat->Nat×Nat->(Nat->Value)->World->Prop}{bJ:Nat->Nat×Nat}{vals:Nat->Value}
section
open Go.RowKit Go.WideShapes Go.ChangeShapes
section
variable {H:Type}{enc:TypeId×Value->H}{P:Program}
theorem N5{f:Func}{s:ChangeSpec}{apart fresh handsOn again:Bool}{W W':World}{args:Array Value}{v:Value}{ds gs:List (DataW H)}{before pa pv:List MemPlace}
  (d:DataW.Whole enc P f.params.toList s.vars apart W args.toList ds gs before)
  (e:∀(b:Nat)(sp:Nat->Bool)(n:Bool),DataW.TrodAll enc P W' b sp n f.resultTypes.toList (v.resultList f.resultTypes.size) (s.fn H (ds++gs)).results [])
  (g:∀sp:Nat->Bool,(∀p∈before,sp p.block=true)->DataW.TrodAll enc P W' 0 sp true f.params.toList args.toList (s.fn H (ds++gs)).args pa)
  (i:∀sp:Nat->Bool,(∀p∈before,sp p.block=true)->DataW.TrodVars enc P W' sp s.vars (s.fn H (ds++gs)).vars pv)
  (c:before=pa++pv) (k:Below W.heap.size W W')
  (o:∀(j:Nat)(t:TypeId)(r:Value),f.resultTypes[j]? =some t->(v.resultList f.resultTypes.size)[j]? =some r->Zn P W' .any 0 t r):
  s.post enc P f apart fresh handsOn again W args v W':=by
 have l:∀p∈before,p.block<W.heap.size:=λ p hp=>d.lt p hp
 have hold:∀p∈before,(λ b=>decide (b<W.heap.size)) p.block=true:=λ p hp=>by simpa using l p hp
 refine⟨ds,gs,before,[],pa,pv,d,e _ _ _,g _ hold,i _ hold,World.keptBut_mono (λ p hp=>⟨hp,?_⟩) (k.frame (·∈before)),λ _=>?_⟩
 ·rw[c,u_] at hp;exact Or.inr hp
 ·obtain⟨_,_,_,_,_,q,u⟩:=d;refine⟨o,_,_,([]++pa)++pv,⟨[]++pa,pv,trodAll_append (g _ (λ _ _=>rfl)) (e _ _ _),i _ (λ _ _=>rfl),rfl,?_,?_⟩,?_⟩
  ·intro b off hp;have m:MemPlace.cell b off∈before:=by rw[c];simpa using hp
   rw[k.frozen (l _ m)];exact q b off m
  ·intro w;have:=u w;rw[c] at this;simpa using this
  ·intro p hp _;rw[c];simpa using hp
end
end
section
open Go.ChangeShapes Go.WideShapes Go.ChangeAt Go.RowKit Go.Joins Go.Deep
theorem laidOut:laidOutB z_=true:=by kernel_rfl
theorem N6:ownKnob z_.godebug=none:=by kernel_rfl
theorem N7:z_.cellsOf 3=1:=by kernel_rfl
theorem N8:z_.cellsOf 25=1:=by kernel_rfl
theorem N9:z_.cellsOf 24=2:=by kernel_rfl
theorem Oa:z_.bytesOf 3=8:=by kernel_rfl
theorem Ob:z_.bytesOf 25=24:=by kernel_rfl
def Fits{H:Type}(t:TypeId)(d:DataW H):Prop:=∀n∈d.weights z_ t,n<=reachBytes
theorem Oc:reachBytes<=140737488355328:=by decide
theorem HF{Bs:List TypeId}{ds:List (DataW H)}(h:(DataW.weightsEach z_ Bs ds).all (·<=reachBytes)=true){j:Nat}{t:TypeId}{d:DataW H}(b:Bs[j]? =some t)(c:ds[j]? =some d):Fits t d:=λ n e=>
 of_decide_eq_true (List.all_eq_true.1 h n (DataW.weights_mem_each b c n e))
theorem HG{H:Type}{P:Program}{e:TypeId}{d:DataW H}:∀{l:List (DataW H)},d∈l->∀n∈d.weights P e,n∈DataW.weightsAll P e l
 |x::l,c,n,b=>by
  simp only[DataW.weightsAll,u_];rcases Zp.1 c with rfl|h
  ·exact Or.inl b
  ·exact Or.inr (HG h n b)
theorem Fits.elem{elems spare:List (DataW H)}(h:Fits t (.slice elems spare))(hu:z_.underlying t=some (.slice e)){d:DataW H}(b:d∈elems):Fits e d:=λ n c=>by
 refine h n ?_;simp only[Zo,hu,Zp,u_];exact Or.inr (Or.inl (HG b n c))
theorem Fits.len{elems spare:List (DataW H)}(h:Fits t (.slice elems spare))(hu:z_.underlying t=some (.slice e)):elems.length*z_.bytesOf e<=140737488355328:=by
 have:=h ((elems.length+spare.length)*z_.bytesOf e) (by simp[Zo,hu]);have b:elems.length*z_.bytesOf e<=(elems.length+spare.length)*z_.bytesOf e:=Nat.mul_le_mul_right _ (by omega);exact m_ b (m_ this Oc)
theorem HH{α:Type}[Inhabited α]{P:Nat->α->Prop}:∀n,(∀j,j<n->∃x,P j x)->∃l:List α,l.length=n/\∀j,j<n->P j (l.getD j default)
 |0,_=>⟨[],rfl,λ j h=>by omega⟩
 |n+1,h=>by
  obtain⟨l,hl,hp⟩:=HH n (λ j b=>h j (by omega));obtain⟨x,c⟩:=h n (by omega);refine⟨l++[x],by simp[hl],λ j b=>?_⟩;rcases Zm j n with d|e
  ·have:=hp j d
   rwa[s_,List.getElem?_append_left (by omega),<-s_]
  ·have:j=n:=by omega
   subst this;rw[s_,List.getElem?_append_right (by omega)];simpa[hl] using c
section
variable {H:Type}{enc:TypeId×Value->H}{W:World}{base:Nat}{sp:Nat->Bool}{held:Bool}
theorem HI{W:World}{b o:Nat}{v:Value}(h:W.cell? ⟨b,o,none⟩=some v):b<W.heap.size:=by
 rcases Zm b W.heap.size with c|d
 ·exact c
 ·simp[World.cell?,Zw d] at h
theorem HJ{fuel:Nat}{cs:List Value}{x:DataW H×List MemPlace}(h:DataW.trod enc z_ W base sp held fuel 25 cs=some x)(e:Fits 25 x.1):
  ∃A n c d,cs=[.slice A n c]/\aS W A n c d/\∀z∈d,(Zv .i64 z).wf=true:=by
 rcases open_ints e_ Tryz.underlying3 N7 h with⟨f,_⟩|⟨a,len,cap,d,f,_,hl,hm,k,rfl,l,m⟩
 ·exact⟨none,0,0,[],f,aS.nil _ _ _ (Nat.zero_le _),λ z e=>by cases e⟩
 ·have q:len<=d.length:=by rw[k];split<;>omega
  have g:=e.len e_;rw[Oa] at g;have o:(lits (H:=H) .i64 (d.take len)).length=len:=by simp[lits];omega
  rw[o] at g;refine⟨some a,len,cap,d.take len,f,⟨by simp;omega,hl,g,hm,λ r=>?_⟩,λ z e=>m z (List.mem_of_mem_take e)⟩;obtain⟨b,off,rfl,i⟩:=ints_at l (by omega);refine⟨b,off,rfl,HI (i 0 (by omega)),λ j p=>?_⟩;rw[i j (by omega)];simp[j8,s_,p]
theorem Od{fuel:Nat}{cs:List Value}{x:DataW H×List MemPlace}(h:DataW.trod enc z_ W base sp held fuel 22 cs=some x)(f:Fits 22 x.1):
  ∃A n c ls,cs=[.slice A n c]/\kD W A n c ls/\∀l∈ls,∀z∈l,(Zv .i64 z).wf=true:=by
 rcases Deep.open_slice o_ h with⟨k,_⟩|⟨a,len,cap,m,n,D,nv,k,_,hl,u,hm,rfl,v⟩
 ·exact⟨none,0,0,[],k,kD.nil _ _ _ (Nat.zero_le _),λ z f=>by cases f⟩
 ·have s:len<=m:=by rw[hm];split<;>omega
  have p:=f.len o_;rw[Ob] at p;rw[Zx,List.length_range] at p;have each:∀i,i<len->∃g:List Int,(∃A' d c',W.cell? (a.add i)=some (.slice A' d c')/\aS W A' d c' g)/\∀z∈g,(Zv .i64 z).wf=true:=by
   intro i w;obtain⟨G,h1,q⟩:=v i (by omega);rw[N8] at h1;obtain⟨_,I,y⟩:=World.cells?_some h1;obtain⟨A',d,c',g,rfl,B,hw⟩:=HJ q (f.elem o_ (List.mem_map.2 ⟨i,List.mem_range.2 w,rfl⟩));refine⟨g,⟨A',d,c',?_,B⟩,hw⟩;have:=y 0 (by omega);simpa[Addr.add] using this
  obtain⟨ls,C,hp⟩:=HH len each;refine⟨some a,len,cap,ls,k,⟨C,hl,p,u,λ E=>?_⟩,λ l s=>?_⟩
  ·obtain⟨J,K,L,t,_⟩:=(hp 0 E).1;obtain⟨b,off,spot⟩:=a;have F:spot=none:=by simpa[Addr.add] using World.cell?_spot t
   subst F;refine⟨b,off,rfl,HI (o:=off+0) (by rw[<-Zy];exact t),λ j r=>?_⟩;obtain⟨A',d,c',h1,q⟩:=(hp j r).1;exact⟨A',d,c',by rw[<-Zy];exact h1,q⟩
  ·obtain⟨j,r,e⟩:=Zt.1 s;have:=(hp j (by omega)).2;rw[s_,b_ r] at this;simp only[Option.getD_some] at this;rw[e] at this;exact this
theorem Oe{r:Reach}{bK:Nat}{v:Value}{d:DataW H}{p:List MemPlace}(f:Zn z_ W r bK 24 v)(h:i_ enc z_ W base sp held 24 v d p)(g:Fits 24 d):
  ∃x A n c ls,v=.agg #[.int .i64 x,.slice A n c]/\kD W A n c ls/\(∀l∈ls,∀z∈l,(Zv .i64 z).wf=true)/\(Zv .i64 x).wf=true:=by
 obtain⟨v0,v1,t,i,m,rfl,rfl,rfl,j,h1⟩:=open_agg2 Tryz.underlying24 (by kernel_rfl) N9 f h;obtain⟨x,e,_,k⟩:=DataW.trod_int Tryz.underlying3 j;have o:Fits 22 i.1:=λ n q=>g n (by
  simp only[Zo,Tryz.underlying24];simp[DataW.weightsEach,q])
 obtain⟨A,n,c,ls,b,s,hw⟩:=Od h1 o;simp only[List.cons.injEq,and_true] at e b;subst e b;exact⟨x,A,n,c,ls,rfl,s,hw,k⟩
theorem Of{W':World}{v:Value}{d:DataW H}{p:List MemPlace}(h:i_ enc z_ W 0 (λ _=>true) true 24 v d p)(b:Below W.heap.size W W')(c:∀x∈p,x.block<W.heap.size){AB:Nat->Bool}(hs:∀x∈p,AB x.block=true):
  i_ enc z_ W' 0 AB true 24 v d p:=
 Zs laidOut (by kernel_rfl) (of_decide_eq_true (by kernel_rfl)) h (λ x e=>b.same (c x e)) hs
theorem Og{W':World}{v:Value}{d:DataW H}{p:List MemPlace}(h:i_ enc z_ W 0 (λ _=>true) true 25 v d p)(b:Below W.heap.size W W')(c:∀x∈p,x.block<W.heap.size){AB:Nat->Bool}(hs:∀x∈p,AB x.block=true):
  i_ enc z_ W' 0 AB true 25 v d p:=
 Zs laidOut (by kernel_rfl) (of_decide_eq_true (by kernel_rfl)) h (λ x e=>b.same (c x e)) hs
theorem Oh{r:Reach}{bK:Nat}{v:Value}{d:DataW H}{p:List MemPlace}(e:Zn z_ W r bK 25 v)(h:i_ enc z_ W base sp held 25 v d p)(f:Fits 25 d):
  ∃A n c b,v=.slice A n c/\aS W A n c b/\∀z∈b,(Zv .i64 z).wf=true:=by
 obtain⟨A,n,c,rfl⟩:=okWide_slice e_ e;obtain⟨fuel,h⟩:=h;obtain⟨A',g,c',b,i,j,hw⟩:=HJ h f;obtain⟨rfl,rfl,rfl⟩:A=A'/\n=g/\c=c':=by simpa[Value.cells] using i
 exact⟨A,n,c,b,rfl,j,hw⟩
end
end
section
open Go.ChangeShapes Go.WideShapes Go.ChangeAt Go.RowKit
def Ea:List Nat:=[
 104,97,114,110,101,115,115,32,56,100,54,48,101,55,98,56,49,55,55,56,98,53,101,101,100,49,51,57,55,99,51,53,57,51,51,98,51,100,52,53,
 50,98,50,55,56,51,97,102,99,97,57,51,55,97,100,49,56,54,49,98,51,102,53,100,57,50,49,100,52,55,98,54,32,99,117,116,32,97,116,32,
 99,104,97,108,107,108,105,110,101,47,99,104,97,108,107,108,105,110,101,108,97,119,50,55,46,67,111,114,101,69,114,114,111,114,83,112,101,99,32,99,
 104,97,108,107,108,105,110,101,47,99,104,97,108,107,108,105,110,101,108,97,119,50,55,46,67,111,114,101,76,101,97,115,116,77,105,110,105,109,97,108,
 32,99,104,97,108,107,108,105,110,101,47,99,104,97,108,107,108,105,110,101,108,97,119,50,55,46,67,111,114,101,71,114,111,119,77,97,120,105,109,97,
 108,32,99,104,97,108,107,108,105,110,101,47,99,104,97,108,107,108,105,110,101,108,97,119,50,55,46,67,111,114,101,68,101,99,105,100,101,115,32,99,
 104,97,108,107,108,105,110,101,47,99,104,97,108,107,108,105,110,101,108,97,119,50,55,46,67,111,114,101,65,103,114,101,101,115,87,105,116,104,83,111,
 108,118,101,114,32,99,104,97,108,107,108,105,110,101,47,99,104,97,108,107,108,105,110,101,108,97,119,50,55,46,67,111,114,101,73,100,101,109,112,111,
 116,101,110,116,32,99,104,97,108,107,108,105,110,101,47,99,104,97,108,107,108,105,110,101,108,97,119,50,55,46,67,111,114,101,67,111,114,114,101,99,
 116,105,111,110,83,101,116,32,99,104,97,108,107,108,105,110,101,47,99,104,97,108,107,108,105,110,101,108,97,119,50,53,46,83,111,108,118,101,114,66,
 97,115,105,99,115,83,112,101,99,32,99,104,97,108,107,108,105,110,101,47,99,104,97,108,107,108,105,110,101,108,97,119,50,53,46,83,111,108,118,101,
 114,83,111,108,118,101,69,114,114,111,114,115,32,99,104,97,108,107,108,105,110,101,47,99,104,97,108,107,108,105,110,101,108,97,119,50,53,46,83,111,
 108,118,101,114,65,110,115,119,101,114,67,111,114,114,101,99,116,32,99,104,97,108,107,108,105,110,101,47,99,104,97,108,107,108,105,110,101,108,97,119,
 50,53,46,83,111,108,118,101,114,83,116,97,116,101,80,114,101,115,101,114,118,101,100,32,99,104,97,108,107,108,105,110,101,47,99,104,97,108,107,108,
 105,110,101,108,97,119,50,53,46,83,111,108,118,101,114,65,110,115,119,101,114,83,116,97,98,108,101,32,99,104,97,108,107,108,105,110,101,47,99,104,
 97,108,107,108,105,110,101,108,97,119,50,53,46,83,111,108,118,101,114,69,110,117,109,101,114,97,116,101,115,77,111,100,101,108,115,32,99,104,97,108,
 107,108,105,110,101,47,99,104,97,108,107,108,105,110,101,108,97,119,50,53,46,83,111,108,118,101,114,65,100,100,77,111,110,111,116,111,110,101,32,99,
 104,97,108,107,108,105,110,101,47,99,104,97,108,107,108,105,110,101,108,97,119,50,53,46,83,111,108,118,101,114,71,114,111,119,80,114,101,115,101,114,
 118,101,115,32,99,104,97,108,107,108,105,110,101,47,99,104,97,108,107,108,105,110,101,108,97,119,50,56,46,72,105,116,83,112,101,99,32,99,104,97,
 108,107,108,105,110,101,47,99,104,97,108,107,108,105,110,101,108,97,119,50,56,46,72,105,116,77,105,110,105,109,97,108,32,99,104,97,108,107,108,105,
 110,101,47,99,104,97,108,107,108,105,110,101,108,97,119,50,56,46,72,105,116,73,110,118,111,108,117,116,105,111,110,32,99,104,97,108,107,108,105,110,
 101,47,99,104,97,108,107,108,105,110,101,108,97,119,50,56,46,72,105,116,69,110,117,109,101,114,97,116,101,115,32,99,104,97,108,107,108,105,110,101,
 47,99,104,97,108,107,108,105,110,101,108,97,119,50,56,46,72,105,116,68,117,97,108,105,116,121,32,99,104,97,108,107,108,105,110,101,47,99,104,97,
 108,107,108,105,110,101,108,97,119,50,56,46,72,105,116,67,111,114,101,115,77,105,110,105,109,97,108,32,99,104,97,108,107,108,105,110,101,47,99,104,
 97,108,107,108,105,110,101,108,97,119,50,56,46,72,105,116,70,105,120,101,115,77,105,110,105,109,97,108,32,99,104,97,108,107,108,105,110,101,47,99,
 104,97,108,107,108,105,110,101,108,97,119,50,56,46,72,105,116,67,108,97,115,115,105,102,105,101,115,83,117,98,115,101,116,115]
theorem head_eq:z_.initOrder=String.ofList (Ea.map Zr):=by kernel_rfl
theorem HK:z_.initOrder.toList=Ea.map Zr:=by rw[head_eq];exact String.toList_ofList
def HL:List (List Nat):=[
 [99,117,116],
 [97,116],
 [99,104,97,108,107,108,105,110,101,47,99,104,97,108,107,108,105,110,101,108,97,119,50,55,46,67,111,114,101,69,114,114,111,114,83,112,101,99],
 [99,104,97,108,107,108,105,110,101,47,99,104,97,108,107,108,105,110,101,108,97,119,50,55,46,67,111,114,101,76,101,97,115,116,77,105,110,105,109,97,108],
 [99,104,97,108,107,108,105,110,101,47,99,104,97,108,107,108,105,110,101,108,97,119,50,55,46,67,111,114,101,71,114,111,119,77,97,120,105,109,97,108],
 [99,104,97,108,107,108,105,110,101,47,99,104,97,108,107,108,105,110,101,108,97,119,50,55,46,67,111,114,101,68,101,99,105,100,101,115],
 [99,104,97,108,107,108,105,110,101,47,99,104,97,108,107,108,105,110,101,108,97,119,50,55,46,67,111,114,101,65,103,114,101,101,115,87,105,116,104,83,111,108,118,101,114],
 [99,104,97,108,107,108,105,110,101,47,99,104,97,108,107,108,105,110,101,108,97,119,50,55,46,67,111,114,101,73,100,101,109,112,111,116,101,110,116],
 [99,104,97,108,107,108,105,110,101,47,99,104,97,108,107,108,105,110,101,108,97,119,50,55,46,67,111,114,101,67,111,114,114,101,99,116,105,111,110,83,101,116],
 [99,104,97,108,107,108,105,110,101,47,99,104,97,108,107,108,105,110,101,108,97,119,50,53,46,83,111,108,118,101,114,66,97,115,105,99,115,83,112,101,99],
 [99,104,97,108,107,108,105,110,101,47,99,104,97,108,107,108,105,110,101,108,97,119,50,53,46,83,111,108,118,101,114,83,111,108,118,101,69,114,114,111,114,115],
 [99,104,97,108,107,108,105,110,101,47,99,104,97,108,107,108,105,110,101,108,97,119,50,53,46,83,111,108,118,101,114,65,110,115,119,101,114,67,111,114,114,101,99,116],
 [99,104,97,108,107,108,105,110,101,47,99,104,97,108,107,108,105,110,101,108,97,119,50,53,46,83,111,108,118,101,114,83,116,97,116,101,80,114,101,115,101,114,118,101,100],
 [99,104,97,108,107,108,105,110,101,47,99,104,97,108,107,108,105,110,101,108,97,119,50,53,46,83,111,108,118,101,114,65,110,115,119,101,114,83,116,97,98,108,101],
 [99,104,97,108,107,108,105,110,101,47,99,104,97,108,107,108,105,110,101,108,97,119,50,53,46,83,111,108,118,101,114,69,110,117,109,101,114,97,116,101,115,77,111,100,101,108,115],
 [99,104,97,108,107,108,105,110,101,47,99,104,97,108,107,108,105,110,101,108,97,119,50,53,46,83,111,108,118,101,114,65,100,100,77,111,110,111,116,111,110,101],
 [99,104,97,108,107,108,105,110,101,47,99,104,97,108,107,108,105,110,101,108,97,119,50,53,46,83,111,108,118,101,114,71,114,111,119,80,114,101,115,101,114,118,101,115],
 [99,104,97,108,107,108,105,110,101,47,99,104,97,108,107,108,105,110,101,108,97,119,50,56,46,72,105,116,83,112,101,99],
 [99,104,97,108,107,108,105,110,101,47,99,104,97,108,107,108,105,110,101,108,97,119,50,56,46,72,105,116,77,105,110,105,109,97,108],
 [99,104,97,108,107,108,105,110,101,47,99,104,97,108,107,108,105,110,101,108,97,119,50,56,46,72,105,116,73,110,118,111,108,117,116,105,111,110],
 [99,104,97,108,107,108,105,110,101,47,99,104,97,108,107,108,105,110,101,108,97,119,50,56,46,72,105,116,69,110,117,109,101,114,97,116,101,115],
 [99,104,97,108,107,108,105,110,101,47,99,104,97,108,107,108,105,110,101,108,97,119,50,56,46,72,105,116,68,117,97,108,105,116,121],
 [99,104,97,108,107,108,105,110,101,47,99,104,97,108,107,108,105,110,101,108,97,119,50,56,46,72,105,116,67,111,114,101,115,77,105,110,105,109,97,108],
 [99,104,97,108,107,108,105,110,101,47,99,104,97,108,107,108,105,110,101,108,97,119,50,56,46,72,105,116,70,105,120,101,115,77,105,110,105,109,97,108],
 [99,104,97,108,107,108,105,110,101,47,99,104,97,108,107,108,105,110,101,108,97,119,50,56,46,72,105,116,67,108,97,115,115,105,102,105,101,115,83,117,98,115,101,116,115]]
theorem HM:behindMainWord (wordsSigns (Ea.map Zr))=HL.map (·.map Zr):=by kernel_rfl
theorem Oi:z_.headLifts=[]:=by
 unfold Program.headLifts;rw[HK,HM];kernel_rfl
theorem Oj (h : behindMainWord (wordsSigns P.initOrder.toList) = "cut".toList :: rest) : P.make = some .cut := by
 unfold Program.make;rw[h];rfl
theorem Ol (h : behindMainWord (wordsSigns P.initOrder.toList) = "cut".toList :: rest) (b : P.headLifts = []) : P.liftsFinal = false := by
 unfold Program.liftsFinal;rw[h,b];rfl
theorem Eb : behindMainWord (wordsSigns Tryz.prog.initOrder.toList) = "cut".toList :: (HL.tail.map (·.map Char.ofNat)) := by
 rw[HK,HM];kernel_rfl
theorem Om (rest : List (List Char)) : stripLifts liftWords ("cut".toList :: rest) = ([], "cut".toList :: rest) := by kernel_rfl
theorem On (h : behindMainWord (wordsSigns P.initOrder.toList) = "cut".toList :: rest) (h1 : P.laysLater = false) (b : P.bearsReflect = false) (c : P.doorFits [] = true) : P.mayEnter = true := by
 unfold Program.mayEnter;rw[h];simp only[Om,h1,b,c];rfl
theorem Oo:z_.laysLater=false:=by kernel_rfl
theorem Oq:z_.bearsReflect=false:=by kernel_rfl
theorem Ot:z_.doorFits []=true:=by kernel_rfl
theorem Ou:z_.mayEnter=true:=On Eb Oo Oq Ot
theorem made:z_.make=some .cut:=Oj Eb
theorem Ov:z_.liftsFinal=false:=Ol Eb Oi
end
section
open Go.RowKit Go.Shelf
def Plain(A:Option Addr):Prop:=A=none\/∃b off,A=some ⟨b,off,none⟩
def Cj(w:World)(e:TypeId)(size:Nat)(k:Nat)(ys:List Value)(v':Value)(w':World):Prop:=w'.ownsRow w.heap.size e size v' k ys/\Below w.heap.size w w'
theorem Ck(g:w.grownBy w' none):Below w.heap.size w w':=⟨g.os,g.tape,g.output,g.size,λ k hk=>g.block k hk (by simp)⟩
theorem Ow(w:World)(ty:TypeId){A:Option Addr}{js c:Nat}{rs:List Row}(i:oe w A js c rs)(q:Plain A)(f c1:Nat)(r:Row)(g:w.cell? ⟨f,0,none⟩=some (kO r))(D:js<=1000000)(s:A=none->js=0):
  ∃v' w',(Builtin.append_ #[22,22] ty #[.slice A js js,.slice (some ⟨f,0,none⟩) 1 c1]).run z_ w=.ok v' w'/\Cj w 25 1 (js+1) ((rs++[r]).map kO) v' w':=by
 obtain⟨i0,k,l,m,n⟩:=info_parts EE;have o:∀j u,([kO r]:List Value)[j]? =some u->w.cell? ((⟨f,0,none⟩:Addr).add j)=some u:=by
  intro j u d;have t:j<1:=(r_.1 d).1;obtain rfl:j=0:=by omega
  rw[a_,Zz];simp only[y_,l_] at d;subst d;exact g
 have v:∀u∈([kO r]:List Value),u.oneCell'=true:=by
  intro u hu;rw[t_.1 hu];rfl
 have p:=i.len;have y:(rs++[r]).map kO=rs.map kO++[kO r]:=by simp
 rw[y];rcases q with rfl|⟨b,off,rfl⟩
 ·have g:=s rfl;subst g;have:rs=[]:=p_ p;subst this;obtain⟨v',w',g1,g2,g3,_,g5⟩:=run_append_own_at (P:=z_) w w.heap.size 22 ty 25 i0 (.slice none 0 0) 1 24 o_ k l m n rfl (by decide) (.slice none 0 0) 0 [] (d_ _ _ _ _) ⟨f,0,none⟩ 1 c1 [kO r] rfl o v (by unfold maxLen;omega) (by omega) (n_ _);exact⟨v',w',g1,g2,Ck g3⟩
 ·obtain⟨v',w',g1,g2,g3⟩:=run_append_arg_grows (P:=z_) w 22 ty 25 i0 (.slice none 0 0) 1 24 o_ k l m n rfl (by decide) ⟨b,off,none⟩ js js (rs.map kO) (by rw[Zx,p];omega) (λ j u d=>by
   rw[a_];have t:j<js:=by have:=(r_.1 d).1;rw[Zx] at this;omega
   obtain⟨E,F,e,_,z⟩:=i.cells (by omega);injection e with e
   injection e with B C
   subst B C;exact z j u d) ⟨f,0,none⟩ 1 c1 [kO r] rfl o (by omega) (by unfold maxLen;omega) (by omega)
  exact⟨v',w',g1,g2,Ck g3⟩
theorem Ox(w:World)(ty:TypeId){A:Option Addr}{bw c:Nat}{es:List ny}(i:oa w A bw c es)(s:Plain A)(f c1:Nat)(r:ny)(g:w.cell? ⟨f,0,none⟩=some (.int .i64 r.lH))(h1:w.cell? ⟨f,1,none⟩=some (kO r.r))(D:bw<=1099511627776)(t:A=none->bw=0):
  ∃v' w',(Builtin.append_ #[45,45] ty #[.slice A bw bw,.slice (some ⟨f,0,none⟩) 1 c1]).run z_ w=.ok v' w'/\Cj w 126 2 (bw+1) (mP (es++[r])) v' w':=by
 obtain⟨i0,k,l,m,n⟩:=info_parts Gy;have o:∀j u,(rS r)[j]? =some u->w.cell? ((⟨f,0,none⟩:Addr).add j)=some u:=by
  intro j u d;have p:j<2:=(r_.1 d).1;rw[a_,Zz];unfold rS at d;rcases(show j=0\/j=1 by omega) with rfl|rfl
  ·simp only[y_,l_] at d;subst d;exact g
  ·simp only[x_,y_,l_] at d;subst d;exact h1
 have v:∀u∈rS r,u.oneCell'=true:=by
  intro u hu;unfold rS at hu;simp only[Zp,List.not_mem_nil,or_false] at hu;rcases hu with rfl|rfl<;>rfl
 have q:=i.len;have y:mP (es++[r])=mP es++rS r:=by rw[Nr];simp[mP]
 rw[y];rcases s with rfl|⟨b,off,rfl⟩
 ·have g:=t rfl;subst g;have:es=[]:=p_ q;subst this;obtain⟨v',w',g1,g2,g3,_,g5⟩:=run_append_own_at (P:=z_) w w.heap.size 45 ty 126 i0 (.agg #[.int .i64 0,.slice none 0 0]) 2 32 Tryz.underlying45 k l m n rfl (by decide) (.slice none 0 0) 0 [] (d_ _ _ _ _) ⟨f,0,none⟩ 1 c1 (rS r) rfl o v (by unfold maxLen;omega) (by omega) (n_ _);exact⟨v',w',g1,g2,Ck g3⟩
 ·obtain⟨v',w',g1,g2,g3⟩:=run_append_arg_grows (P:=z_) w 45 ty 126 i0 (.agg #[.int .i64 0,.slice none 0 0]) 2 32 Tryz.underlying45 k l m n rfl (by decide) ⟨b,off,none⟩ bw bw (mP es) (by rw[yd,q]) (λ j u d=>by
   rw[a_];have p:j<bw*2:=by have:=(r_.1 d).1;rw[yd] at this;omega
   obtain⟨E,F,e,_,z⟩:=i.cells (by omega);injection e with e
   injection e with B C
   subst B C;exact(z j p).trans d) ⟨f,0,none⟩ 1 c1 (rS r) rfl o (by omega) (by unfold maxLen;omega) (by omega)
  exact⟨v',w',g1,g2,Ck g3⟩
theorem Oy{rest:List Oper}(d:o.guard=none)(s x:Operand)
  (e:o.op=.call {callee:=.builtin .append,args:= #[s,x],argTypes:= #[22,22]}) {A:Option Addr} {js c:Nat} {rs:List Row} (f:oe w A js c rs) (g:Plain A) (b c1:Nat) (r:Row) (hs:a.eval s=.slice A js js) (i:a.eval x=.slice (some ⟨b,0,none⟩) 1 c1) (j:w.cell? ⟨b,0,none⟩=some (kO r)) (k:js<=1000000) (l:A=none->js=0)
  (h:∀v' w',Cj w 25 1 (js+1) ((rs++[r]).map kO) v' w'->wpList z_ ops Q rest (a.put o.dst v') w'):
  wpList z_ ops Q (o::rest) a w:=by
 obtain⟨v',w',h1,m⟩:=Ow w o.type f g b c1 r j k l;refine wpList_plain d λ K n=>?_
 unfold Oper.wp;simp only[execOp,e,resolve,invoke,builtin,Sem.run_bind,Sem.run_pure,Result.andThen_ok,List.map_toArray,List.map_cons,List.map_nil,hs,i,h1];exact n _ _ (h v' w' m)
theorem Oz{rest:List Oper}(d:o.guard=none)(s x:Operand)
  (e:o.op=.call {callee:=.builtin .append,args:= #[s,x],argTypes:= #[45,45]}) {A:Option Addr} {bw c:Nat} {es:List ny} (f:oa w A bw c es) (g:Plain A) (b c1:Nat) (r:ny) (hs:a.eval s=.slice A bw bw) (i:a.eval x=.slice (some ⟨b,0,none⟩) 1 c1) (j:w.cell? ⟨b,0,none⟩=some (.int .i64 r.lH)) (k:w.cell? ⟨b,1,none⟩=some (kO r.r)) (l:bw<=1099511627776) (m:A=none->bw=0)
  (h:∀v' w',Cj w 126 2 (bw+1) (mP (es++[r])) v' w'->wpList z_ ops Q rest (a.put o.dst v') w'):
  wpList z_ ops Q (o::rest) a w:=by
 obtain⟨v',w',h1,n⟩:=Ox w o.type f g b c1 r j k l m;refine wpList_plain d λ K p=>?_
 unfold Oper.wp;simp only[execOp,e,resolve,invoke,builtin,Sem.run_bind,Sem.run_pure,Result.andThen_ok,List.map_toArray,List.map_cons,List.map_nil,hs,i,h1];exact p _ _ (h v' w' n)
structure uA(w W:World)(L M:List Value):Prop where
 bK:aN W w.heap.size 47 L
 bp:aN W (w.heap.size+1) 47 M
 kQ:Below w.heap.size w W
theorem uA.init(w:World)(L M:List Value):uA w ((w.alloc (.cells L.toArray 47)).alloc (.cells M.toArray 47)) L M:=by
 have c:aN (w.alloc (.cells L.toArray 47)) w.heap.size 47 L:=aN.new w 47 L;have d:=bB w (.cells L.toArray 47);have z0:(w.alloc (.cells L.toArray 47)).heap.size=w.heap.size+1:=by simp
 generalize w.alloc (.cells L.toArray 47)=w1 at*;have h1:aN (w1.alloc (.cells M.toArray 47)) w1.heap.size 47 M:=aN.new w1 47 M;have b:=bB w1 (.cells M.toArray 47);rw[z0] at h1;exact⟨c.below b,h1,d.trans (b.mono (by omega))⟩
theorem uA.below{w W W':World}{L M:List Value}(h:uA w W L M)(b:Below W.heap.size W W'):uA w W' L M:=⟨h.bK.below b,h.bp.below b,h.kQ.trans (b.mono h.kQ.size)⟩
theorem uA.HN{L M:List Value}(h:uA w W L M)(k:Nat)(v:Value):uA w (W.setCell ⟨w.heap.size,k,none⟩ v) (L.set k v) M:=
 ⟨h.bK.set k v,h.bp.kept (kZ W w.heap.size k v) (λ e=>by injection e with e;omega),h.kQ.setCell (n_ _) _⟩
def HO(w:World)(n:Nat)(s:kf)(k:Option Addr)(l:Nat)(m:Option Addr)(o:Nat)(d:Option Addr)(cl:Nat)(A:Option Addr)(c:Nat)(A':Option Addr)(c':Nat)(f:Option Addr)(g:Nat)(p:List Int)(e:Ending)(W:World):Prop:=
 ∃(s':kf)(aM:Option Addr)(aF:Nat)(i:Option Addr)(j:Nat),e=.returned (.tuple #[p9 n aM s'.gs.length aF d s'.es.length cl A (n+1) c A' n c' s'.aZ f (n+1) g i s'.aA.length j,.int .i64 0])/\
  qs W s' aM aF d cl A c A' c' f g i j/\oB n s'/\s'.gs=s.gs++[p]/\s'.es=s.es/\s'.aZ=s.aZ/\s.aA<+:s'.aA/\s'.aA.length=s.aA.length+1/\Below w.heap.size w W/\yf w W i s'.aA.length j s'.aA/\(aM=none->s'.gs.length=0/\aF=0)/\
  ∀aT:Nat->Prop,(∀b,aT b->b<w.heap.size)->(∀W',aC (λ b=>b<w.heap.size/\¬aT b) w W'->qs W' s k l d cl A c A' c' f g m o)->rT W aT s' aM aF d cl A c A' c' f g i j
theorem oe.ze{w:World}{D:Nat->Prop}{A:Option Addr}{n c:Nat}{ls:List (List Int)}{rs:List Row}(g:oe w A n c rs)(hs:∀W,aC (λ b=>b<w.heap.size/\¬D b) w W->kD W A n c ls):∀r∈rs,∀b,r.A.map (·.block)=some b->0<r.n->¬D b:=by
 intro r l b e m;have hw:=hs _ (D4 w D);obtain⟨j,o,q⟩:=Zt.1 l;have hlen:=g.len;obtain⟨i,s,t,h1,u⟩:=g.cells (by omega);obtain⟨E,F,f,_,v⟩:=hw.cells (by omega);rw[t] at f;injection f with f
 injection f with f y _
 subst f y;obtain⟨A',G,c',d,k⟩:=v j (by omega);have z:¬D i:=λ B=>by rw[D5 B] at d;cases d
 rw[(D4 w D).cell (p:=⟨i,s+j,none⟩) ⟨h1,z⟩] at d;have C:=u j (kO r) (by rw[List.getElem?_map,b_ o,q];rfl);rw[C] at d;injection d with d
 injection d with a1 a2 a3
 rw[<-a1,<-a2,<-a3] at k;exact k.ze b e m
theorem oa.lG{es:List ny}(h:w.ownsRow base 126 2 (.slice A n c) n (mP es))(d:n*32<=140737488355328)(f:∀e∈es,aS w e.r.A e.r.n e.r.c e.r.ah):oa w A n c es:=by
 have hl:es.length=n:=by have:=h.1;rw[yd] at this;omega
 rcases h.2 with⟨b,i⟩|⟨g,cap,cur,b,m,o,j,l,p,q⟩
 ·simp only[Zj] at b;obtain⟨rfl,_,rfl⟩:=b;subst i;exact⟨hl,n_ _,d,Nat.zero_le _,λ h=>absurd h (by omega),f⟩
 ·simp only[Zj] at b;obtain⟨rfl,_,rfl⟩:=b;refine⟨hl,j,d,l,λ i=>⟨g,0,rfl,(h.lt g rfl).2,λ k hk=>?_⟩,f⟩;rw[Zz];exact h.cellAt k hk
theorem oB.add(O:oB n s){ah:List Int}(c:∀x∈ah,gW n x)(d:s.gs.length<65536)(r:Row)(i:r.ah=ah):oB n ⟨n,s.gs++[ah],s.es,s.act,s.ord,s.aZ,s.gN,s.aA++[⟨1,r⟩]⟩:=by
 refine⟨rfl,by simp;omega,λ g d x b=>?_,O.hk,O.nE,O.oS,O.xm,λ e he M f=>O.Hi e he M ⟨f.1,λ l hl=>f.2 l (u_.2 (.inl hl))⟩,O.D2,λ p hp=>?_⟩
 ·rcases u_.1 d with h1|h1
  ·exact O.bz g h1 x b
  ·rw[t_.1 h1] at b;exact c x b
 ·rcases u_.1 hp with h1|h1
  ·exact O.Cc p h1
  ·rw[t_.1 h1];exact⟨.inl rfl,by show∀x∈r.ah,_;rw[i];exact c⟩
theorem OA{w0:World}{ls:List (List Int)}(d:kD w0 A n c ls)(f:A=none->n=0/\c=0)(w:World)(g:Plain A):Calls z_ 108 #[.slice A n c] w λ e w'=>e=.returned (.slice A n n)/\w'=w:=by
 rcases g with rfl|⟨b,off,rfl⟩
 ·obtain⟨h1,i⟩:=f rfl;subst h1 i;exact Nl w
 ·exact Nk b off n c w d.cap
theorem OB{v4 v5 v6 jU:Value}(n:a.defers=[])(c:a.tmps.getD 4 undef=.pointer (some ⟨bp,0,none⟩))(d:a.tmps.getD 5 undef=.int .i64 0)
  (b:aN W bp 47 [v0,v1,v2,v3,v4,v5,v6,jU]) (h:aK (.returned (.tuple #[.agg #[v0,v1,v2,v3,v4,v5,v6,jU],.int .i64 0])) W):bodyPost z_ Tryz.f46 aK .ret a W:=by
 have e:=b.cell 0;have f:=b.cell 1;have g:=b.cell 2;have i:=b.cell 3;have j:=b.cell 4;have k:=b.cell 5;have l:=b.cell 6;have m:=b.cell 7;simp only[y_,x_] at e f g i j k l m;refine bodyPost_ret (v:=.tuple #[.agg #[v0,v1,v2,v3,v4,v5,v6,jU],.int .i64 0]) ?_ n h;rw[w_] at c d;simp[results,Tryz.results46,go_sem,c,d,e,f,g,i,j,k,l,m]
theorem HP{nw:Option Addr}{jY bH:Nat}(O:oB n s)(L:n<=10)(Y:qs w s aM aF ia cl A c A' c' fM bD aQ aU)(aO:aS w nw jY bH ah)(Z:∀x∈ah,gW n x)(aP:s.gs.length<65536)(aR:s.aA.length<=549755813888)
  (aV:aQ=none->s.aA.length=0/\aU=0) (aW:aM=none->s.gs.length=0/\aF=0) (aX:Plain aQ) (aY:Plain aM):
  Calls z_ 46 #[p9 n aM s.gs.length aF ia s.es.length cl A (n+1) c A' n c' s.aZ fM (n+1) bD aQ s.aA.length aU,.slice nw jY bH] w (HO w n s aM aF aQ aU ia cl A c A' c' fM bD ah):=by
 obtain⟨k,ab⟩:∃x,s.gs.length=x:=⟨_,rfl⟩
 obtain⟨nl,ad⟩:∃x,s.es.length=x:=⟨_,rfl⟩
 obtain⟨m,ae⟩:∃x,s.aA.length=x:=⟨_,rfl⟩
 have bN:fE (∀W:World,Below w.heap.size w W->Calls z_ 49 #[p9 n aM k aF ia nl cl A (n+1) c A' n c' s.aZ fM (n+1) bD aQ m aU] W λ e w'=>e=.returned (.int .i64 0)/\Below W.heap.size W w'):=aa λ W p=>by
  have:=D7 O L (Y.below p);rw[ab,ad,ae] at this;exact this
 obtain⟨rs,a6,a7⟩:=Y.gs.EH;have d:=aa (v_ Y (v_ O (v_ ab (v_ ad (v_ ae (v_ aO (v_ Z (v_ aP (v_ aR (v_ aV (v_ aW (v_ aX (v_ aY (v_ a6 a7))))))))))))));have a8:k<65536:=by omega
 have a':¬(65536:Int)<=(k:Int):=by omega
 have bO:(k:Int)<65536:=by omega
 have dg:decide ((65536:Int)<=(k:Int))=false:=decide_eq_false a';have bP:=aa a8;clear a' bO a8;rw[ab,ad,ae];clear Y O aO Z aP aR aV aW aX aY a6 a7 ab ad ae;unfold p9 at*;go_enter Tryz.func46,Tryz.ntmps46
 go_upto_region 1 with fail
 have E:uA w ((w.alloc (.cells #[.int .i64 n,.slice aM k aF,.slice ia nl cl,.slice A (n+1) c,.slice A' n c',.int .i64 s.aZ,.slice fM (n+1) bD,.slice aQ m aU] 47)).alloc (.cells #[.int .i64 0,.slice none 0 0,.slice none 0 0,.slice none 0 0,.slice none 0 0,.int .i64 0,.slice none 0 0,.slice none 0 0] 47)) [.int .i64 n,.slice aM k aF,.slice ia nl cl,.slice A (n+1) c,.slice A' n c',.int .i64 s.aZ,.slice fM (n+1) bD,.slice aQ m aU] o6:=uA.init w [.int .i64 n,.slice aM k aF,.slice ia nl cl,.slice A (n+1) c,.slice A' n c',.int .i64 s.aZ,.slice fM (n+1) bD,.slice aQ m aU] o6;generalize ((w.alloc (.cells #[.int .i64 n,.slice aM k aF,.slice ia nl cl,.slice A (n+1) c,.slice A' n c',.int .i64 s.aZ,.slice fM (n+1) bD,.slice aQ m aU] 47)).alloc (.cells #[.int .i64 0,.slice none 0 0,.slice none 0 0,.slice none 0 0,.slice none 0 0,.int .i64 0,.slice none 0 0,.slice none 0 0] 47))=bQ at*;have M:=E.bK.cell 0;have y:=E.bK.cell 1;have af:=E.bK.cell 2;have ag:=E.bK.cell 3;have ai:=E.bK.cell 4;have aj:=E.bK.cell 5;have ak:=E.bK.cell 6;have F:=E.bK.cell 7;simp only[y_,x_] at M y af ag ai aj ak F;have bR:=aa (bN.o bQ E.kQ);have bS:=aa E;clear E
 go_upto_region 4 with(go_at_call 49;refine bR.o.mono ?_;rintro e al ⟨rfl,ba⟩;have az:=aa (bS.o.below ba);clear M y af ag ai aj ak F ba;have M:=az.o.bK.cell 0;simp only[y_] at M)
 have bb:=d.o.2.2.2.2.2.1.below az.o.kQ;have bT:=aa (wk n (some ⟨al.heap.size,0,none⟩) 1 1 [ah] _ (oe.AA al ⟨nw,jY,bH,ah⟩ bb).AQ);have bc:lq n [ah]=0:=Ar (by omega) (by simp) (λ l hl=>by rw[t_.1 hl];exact d.o.2.2.2.2.2.2.1);have bU:=aa bc;clear bb bc
 go_upto_region 6 with(go_at_call 107;refine bT.o.mono ?_;rintro e aB ⟨rfl,bd⟩;rw[bU.o];have R:=aa (az.o.below ((bB al _).trans (bd.mono (bB al _).size)));clear M bd;have y:=R.o.bK.cell 1;simp only[y_,x_] at y)
 go_upto_region 8 with fail
 have bV:=aa (vm nw jY bH ah aB (d.o.2.2.2.2.2.1.below R.o.kQ));have bf:=d.o.2.2.2.2.2.1.len;have bg:=d.o.2.2.2.2.2.1.mG;have bh:=aa (v_ bf bg);clear y
 go_upto_region 9 with(go_at_call 81;refine bV.o.mono ?_;rintro e t ⟨j,c2,rfl,bj,bk⟩;have S:=aa (v_ bj bk);clear bj bk)
 have bl:aS t j jY c2 ah:=by
  have h1:=S.o.1;rw[bh.o.1] at h1;exact aS.lG h1 bh.o.2
 have T:=aa (R.o.below S.o.2);have bW:=aa bl;clear bl bf bg;have y:=T.o.bK.cell 1;simp only[y_,x_] at y;have bn:fE (∀W:World,Calls z_ 108 #[.slice aM s.gs.length aF] W λ e w'=>e=.returned (.slice aM s.gs.length s.gs.length)/\W=w'):=aa (λ W=>(OA (w0:=w) d.o.1.gs d.o.2.2.2.2.2.2.2.2.2.2.1 W d.o.2.2.2.2.2.2.2.2.2.2.2.2.1).mono (λ e w' h=>⟨h.1,h.2.symm⟩));have bo:fE (∀W:World,Calls z_ 109 #[.slice aQ s.aA.length aU] W λ e w'=>e=.returned (.slice aQ s.aA.length s.aA.length)/\W=w'):=aa (λ W=>(HB (w0:=w) d.o.1.aA d.o.2.2.2.2.2.2.2.2.2.1 W (λ h=>d.o.2.2.2.2.2.2.2.2.2.2.2.1.resolve_left h)).mono (λ e w' h=>⟨h.1,h.2.symm⟩));rw[d.o.2.2.1] at bn;rw[d.o.2.2.2.2.1] at bo;have bq:oe (t.alloc (.cells #[kO ⟨j,jY,c2,ah⟩] 25)) aM k aF rs:=by
  have h1:=d.o.2.2.2.2.2.2.2.2.2.2.2.2.2.2;rw[d.o.2.2.1] at h1;exact(h1.below T.o.kQ).below (bB t _)
 have bX:=aa bq;have br:(t.alloc (.cells #[kO ⟨j,jY,c2,ah⟩] 25)).cell? ⟨t.heap.size,0,none⟩=some (kO ⟨j,jY,c2,ah⟩):=(aN.new t 25 [kO ⟨j,jY,c2,ah⟩]).cell 0;have bY:=aa br;clear bq br
 go_upto_region 10 with(first
  |(go_at_call 108;refine(bn.o _).mono ?_;rintro e bZ ⟨rfl,rfl⟩)
  |(at_builtin;refine Oy rfl (.tmp 30) (.tmp 32) rfl bX.o d.o.2.2.2.2.2.2.2.2.2.2.2.2.1 t.heap.size 1 ⟨j,jY,c2,ah⟩ rfl rfl bY.o (by have:=bP.o;omega) (λ e=>by have:=(d.o.2.2.2.2.2.2.2.2.2.2.1 e).1;have N:=d.o.2.2.1;omega) ?_;intro sW aD G;obtain⟨⟨z,j3,B⟩,aE,an⟩:=ax.lG G.1;obtain rfl:sW=.slice z j3 B:=aE;have bs:=aa G;have b0:=aa an;have aG:=aa (T.o.below ((bB t _).trans (G.2.mono (bB t _).size)));clear G an y;have y:=aG.o.bK.cell 1;have b1:=aG.o.bK.free 1;simp only[y_,x_] at y))
 have an:j3=k+1:=b0.o;subst an;have ao:=aa (aG.o.HN 1 (.slice z (k+1) B));have bt:(t.alloc (.cells #[.slice j jY c2] 25)).heap.size=t.heap.size+1:=by simp
 have b2:w.heap.size<t.heap.size:=T.o.bK.lt;have b3:w.heap.size<aB.heap.size:=R.o.bK.lt;have bu:(aD.setCell ⟨w.heap.size,1,none⟩ (.slice z (k+1) B)).ownsRow (t.heap.size+1) 25 1 (.slice z (k+1) B) (k+1) ((rs++[(⟨j,jY,c2,ah⟩:Row)]).map kO):=by
  have h1:=bs.o.1;rw[bt] at h1;exact pL h1 (λ b p=>Below.heap_setCell _ _ _ _ (by show b≠w.heap.size;have:=(h1.lt b p).1;omega))
 have bw:aS (aD.setCell ⟨w.heap.size,1,none⟩ (.slice z (k+1) B)) j jY c2 ah:=by
  refine((bW.o.below (bB t _)).below bs.o.2).nu _ (λ b off e=>?_);have h1:=(S.o.1.lt b (by rw[e];rfl)).1;show b≠w.heap.size;omega
 have aH:=aa (v_ bu bw);clear bu bw y b1 bt;generalize aD.setCell ⟨w.heap.size,1,none⟩ (.slice z (k+1) B)=bG at*;have F:=ao.o.bK.cell 7;simp only[h_,g_,y_,x_] at F;have aq:oa (bG.alloc (.cells #[.int .i64 1,kO ⟨j,jY,c2,ah⟩] 126)) aQ m aU s.aA:=by
  have h1:=d.o.1.aA;rw[d.o.2.2.2.2.1] at h1;exact(h1.below ao.o.kQ).below (bB bG _)
 have b4:=aa aq;have aI:=aN.new bG 126 [.int .i64 1,kO ⟨j,jY,c2,ah⟩];have bx:fE ((bG.alloc (.cells #[.int .i64 1,kO ⟨j,jY,c2,ah⟩] 126)).cell? ⟨bG.heap.size,0,none⟩=some (.int .i64 1)/\(bG.alloc (.cells #[.int .i64 1,kO ⟨j,jY,c2,ah⟩] 126)).cell? ⟨bG.heap.size,1,none⟩=some (kO ⟨j,jY,c2,ah⟩)):=aa ⟨aI.cell 0,aI.cell 1⟩;clear aq aI
 go_upto_region 11 with(first
  |(go_at_call 109;refine(bo.o _).mono ?_;rintro e bZ ⟨rfl,rfl⟩)
  |(at_builtin;refine Oz rfl (.tmp 37) (.tmp 40) rfl b4.o d.o.2.2.2.2.2.2.2.2.2.2.2.1 bG.heap.size 1 ⟨1,⟨j,jY,c2,ah⟩⟩ rfl rfl bx.o.1 bx.o.2 (by have:=d.o.2.2.2.2.2.2.2.2.1;have N:=d.o.2.2.2.2.1;omega) (λ e=>by have:=(d.o.2.2.2.2.2.2.2.2.2.1 e).1;have N:=d.o.2.2.2.2.1;omega) ?_;intro v11 ar G;obtain⟨⟨C,m9,D⟩,aE,au⟩:=ax.lG G.1;obtain rfl:v11=.slice C m9 D:=aE;have bz:=aa G;have b5:=aa au;have av:=aa (ao.o.below ((bB bG _).trans (G.2.mono (bB bG _).size)));clear G au F;have F:=av.o.bK.cell 7;have b6:=av.o.bK.free 7;simp only[h_,g_,y_,x_] at F))
 have au:m9=m+1:=b5.o;subst au;have q:=aa (av.o.HN 7 (.slice C (m+1) D));have f12:aC (λ b=>b≠w.heap.size/\b≠w.heap.size+1) ar (ar.setCell ⟨w.heap.size,7,none⟩ (.slice C (m+1) D)):=aC.set _ 7 _ (λ h=>h.1 rfl);have b7:=aa f12;clear f12 F b6 b2 b3;generalize ar.setCell ⟨w.heap.size,7,none⟩ (.slice C (m+1) D)=aw at*;have M:=q.o.bK.cell 0;have y:=q.o.bK.cell 1;have af:=q.o.bK.cell 2;have ag:=q.o.bK.cell 3;have ai:=q.o.bK.cell 4;have aj:=q.o.bK.cell 5;have ak:=q.o.bK.cell 6;have F:=q.o.bK.cell 7;simp only[h_,g_,y_,x_] at M y af ag ai aj ak F;have b8:=q.o.bp.cell 0;have b9:=q.o.bp.cell 1;have b':=q.o.bp.cell 2;have ca:=q.o.bp.cell 3;have cc:=q.o.bp.cell 4;have cd:=q.o.bp.cell 5;have cf:=q.o.bp.cell 6;have cg:=q.o.bp.cell 7;have H:=q.o.bp.free;have cu:=H 0;have cv:=H 1;have cw:=H 2;have cx:=H 3;have cy:=H 4;have cz:=H 5;have cA:=H 6;have cB:=H 7;simp only[o6,y_,x_] at b8 b9 b' ca cc cd cf cg;clear H
 go_wp2_with fail
 have ch:=aN.vt (show aN aw (w.heap.size+1) 47 [.int .i64 0,.slice none 0 0,.slice none 0 0,.slice none 0 0,.slice none 0 0,.int .i64 0,.slice none 0 0,.slice none 0 0] from q.o.bp) (.int .i64 n) (.slice z (k+1) B) (.slice ia nl cl) (.slice A (n+1) c) (.slice A' n c') (.int .i64 s.aZ) (.slice fM (n+1) bD) (.slice C (m+1) D);have J:∀(u:World)(i:Nat)(v:Value),aC (λ b=>b≠w.heap.size/\b≠w.heap.size+1) u (u.setCell ⟨w.heap.size+1,i,none⟩ v):=λ u i v=>aC.set _ i v (λ h=>h.2 rfl)
 have f1:aC (λ b=>b≠w.heap.size/\b≠w.heap.size+1) aw _:=((((((((J aw 0 (.int .i64 n)).trans (J _ 1 (.slice z (k+1) B))).trans (J _ 2 (.slice ia nl cl))).trans (J _ 3 (.slice A (n+1) c))).trans (J _ 4 (.slice A' n c'))).trans (J _ 5 (.int .i64 s.aZ))).trans (J _ 6 (.slice fM (n+1) bD))).trans (J _ 7 (.slice C (m+1) D)))
 generalize ((((((((aw.setCell ⟨w.heap.size+1,0,none⟩ (.int .i64 n)).setCell ⟨w.heap.size+1,1,none⟩ (.slice z (k+1) B)).setCell ⟨w.heap.size+1,2,none⟩ (.slice ia nl cl)).setCell ⟨w.heap.size+1,3,none⟩ (.slice A (n+1) c)).setCell ⟨w.heap.size+1,4,none⟩ (.slice A' n c')).setCell ⟨w.heap.size+1,5,none⟩ (.int .i64 s.aZ)).setCell ⟨w.heap.size+1,6,none⟩ (.slice fM (n+1) bD)).setCell ⟨w.heap.size+1,7,none⟩ (.slice C (m+1) D))=W at*;refine OB rfl rfl rfl ch ?_;have K:=b7.o.trans f1;have I:Below w.heap.size w W:=av.o.kQ.trans ⟨K.os,K.tape,K.output,K.size,λ b p=>K.keep b ⟨by omega,by omega⟩⟩;have cC:w.heap.size+1<t.heap.size:=T.o.bp.lt;have cD:w.heap.size+1<aB.heap.size:=R.o.bp.lt;have cE:w.heap.size+1<bG.heap.size:=ao.o.bp.lt;have bA:Below bG.heap.size bG ar:=(bB bG _).trans (bz.o.2.mono (bB bG _).size);have U:W.ownsRow (t.heap.size+1) 25 1 (.slice z (k+1) B) (k+1) ((rs++[(⟨j,jY,c2,ah⟩:Row)]).map kO):=pL (nc aH.o.1 bA) (λ b p=>K.keep b (by have:=(aH.o.1.lt b p).1;omega));have Q:W.ownsRow (bG.heap.size+1) 126 2 (.slice C (m+1) D) (m+1) (mP (s.aA++[(⟨1,⟨j,jY,c2,ah⟩⟩:ny)])):=by
  have h1:=bz.o.1;have Z:(bG.alloc (.cells #[.int .i64 1,.slice j jY c2] 126)).heap.size=bG.heap.size+1:=by simp
  rw[Z] at h1;exact pL h1 (λ b p=>K.keep b (by have:=(h1.lt b p).1;omega))
 have ay:aS W j jY c2 ah:=by
  refine(aH.o.2.below bA).iR K (λ b e L=>?_);have h1:=(S.o.1.lt b ((ax.own ⟨j,_,c2⟩).trans e)).1;omega
 have cF:=d.o.2.2.2.2.2.2.2.2.1;have cj:=d.o.2.2.1;have bC:=d.o.2.2.2.2.1;have ck:=d.o.2.2.2.2.2.2.2.1;have bE:=kD.lG U (λ r P=>by
  rcases u_.1 P with h1|h1
  ·exact(d.o.2.2.2.2.2.2.2.2.2.2.2.2.2.2.rows r h1).below I
  ·rw[t_.1 h1];exact ay) (by omega)
 have bF:(rs++[(⟨j,jY,c2,ah⟩:Row)]).map (·.ah)=s.gs++[ah]:=by
  rw[List.map_append,d.o.2.2.2.2.2.2.2.2.2.2.2.2.2.1];rfl
 rw[bF] at bE;have aq:=oa.lG Q (by omega) (λ r P=>by
  rcases u_.1 P with h1|h1
  ·exact(d.o.1.aA.rows r h1).below I
  ·rw[t_.1 h1];exact ay)
 have aJ:(s.gs++[ah]).length=k+1:=by simp[cj]
 have V:(s.aA++[(⟨1,⟨j,jY,c2,ah⟩⟩:ny)]).length=m+1:=by simp[bC]
 have cm:=d.o.2.2.2.1;have cG:=d.o.2.1.hk.k5;have cH:=d.o.2.1.hk.pN;have cI:=d.o.2.1.nE;refine⟨⟨n,s.gs++[ah],s.es,s.act,s.ord,s.aZ,s.gN,s.aA++[⟨1,⟨j,jY,c2,ah⟩⟩]⟩,z,B,C,D,?_,⟨by rw[aJ];exact bE,d.o.1.es.below I,d.o.1.act.below I,d.o.1.ord.below I,d.o.1.gN.below I,by rw[V];exact aq⟩,d.o.2.1.add d.o.2.2.2.2.2.2.1 ck _ rfl,rfl,rfl,rfl,List.prefix_append _ _,by rw[V,bC],I,⟨.inr ?_,λ e=>?_⟩,λ e=>?_,?_⟩
 ·show _=Ending.returned (.tuple #[p9 n z (s.gs++[ah]).length B ia s.es.length cl A (n+1) c A' n c' s.aZ fM (n+1) bD C (s.aA++[(⟨1,⟨j,jY,c2,ah⟩⟩:ny)]).length D,.int .i64 0]);rw[aJ,V,cm];rfl
 ·show W.ownsRow _ 126 2 (.slice C (s.aA++[(⟨1,⟨j,jY,c2,ah⟩⟩:ny)]).length D) _ _;rw[V];exact yD Q (by omega)
 ·rcases Q.2 with⟨h1,N⟩|⟨g,cap,cur,h1,_⟩
  ·omega
  ·injection h1 with h1;rw[e] at h1;cases h1
 ·rcases U.2 with⟨h1,N⟩|⟨g,cap,cur,h1,_⟩
  ·omega
  ·injection h1 with h1;rw[e] at h1;cases h1
 ·intro aT aK bI W' f;have aL:=d.o.2.2.2.2.2.2.2.2.2.2.2.2.2.2;have cn:=aL.ze (λ cp h1=>(bI cp h1).gs);have bJ:aC (λ b=>b<w.heap.size/\¬aT b) w W':=(aC.pY I λ b p=>p.1).trans (f.mono λ b p=>⟨by have:=I.size;omega,p.2⟩);have X:=bI W' bJ;have cq:W'.ownsRow (t.heap.size+1) 25 1 (.slice z (k+1) B) (k+1) ((rs++[(⟨j,jY,c2,ah⟩:Row)]).map kO):=pL U (λ b p=>f.keep b ⟨(U.lt b p).2,λ h=>by have h1:=aK b h;have N:=(U.lt b p).1;omega⟩);have cr:W'.ownsRow (bG.heap.size+1) 126 2 (.slice C (m+1) D) (m+1) (mP (s.aA++[(⟨1,⟨j,jY,c2,ah⟩⟩:ny)])):=pL Q (λ b p=>f.keep b ⟨(Q.lt b p).2,λ h=>by have h1:=aK b h;have N:=(Q.lt b p).1;omega⟩);have bL:aS W' j jY c2 ah:=ay.iR f (λ b e L=>⟨ay.lt b e L,λ h=>by
   have h1:=aK b h;have N:=(S.o.1.lt b ((ax.own ⟨j,_,c2⟩).trans e)).1;omega⟩)
  have bM:=kD.lG cq (λ r P=>by
   rcases u_.1 P with h1|h1
   ·exact(aL.rows r h1).iR bJ (λ b e L=>⟨(aL.rows r h1).lt b e L,cn r h1 b e L⟩)
   ·rw[t_.1 h1];exact bL) (by omega)
  rw[bF] at bM;have ct:=oa.lG cr (by omega) (λ r P=>by
   rcases u_.1 P with h1|h1
   ·exact X.aA.rows r h1
   ·rw[t_.1 h1];exact bL)
  exact⟨by rw[aJ];exact bM,X.es,X.act,X.ord,X.gN,by rw[V];exact ct⟩
end
section
open Go.RowKit Go.Shelf Go.Sort Go.Lib
def HQ(f:Nat)(lb:Array Value)(p:Int->Bool)(g:Nat)(w:World):Prop:=
 ∀(W:World)(x:Int),w.heap.size<=W.heap.size->(∀b,b<w.heap.size->b≠g->W.heap[b]? =w.heap[b]?)->Calls z_ f (#[.int .i64 x]++lb) W λ e w'=>e=.returned (.bool (p x))/\W=w'
theorem OC(f:Nat)(lb:Array Value)(p:Int->Bool)(o:∀args w,(callFunc f args).run z_ w=.ok (.enter f args) w)(w:World)(base g n cap:Nat)(c:List Int)(h:Own w base g n cap c)(d:base<=g)(hp:HQ f lb p g w):
  Calls z_ 85 #[.slice (some ⟨g,0,none⟩) n cap,.func (.func f) #[] lb] w λ e w'=>
   e=.returned (.slice (some ⟨g,0,none⟩) (c.filter λ x=> !(p x)).length cap)/\Own w' base g (c.filter λ x=> !(p x)).length cap (c.filter λ x=> !(p x))/\Below base w w':=by
 have h':w.ownsRow base 3 1 (.slice (some ⟨g,0,none⟩) n cap) n (c.map oL):=h;obtain⟨C,D,he,h1,E,r,s,i,t⟩:=holds_of_ownsRow h' (by intro e;cases e)
 cases he
 have u:n<=9223372036854775807:=by unfold maxLen at s;omega
 have v:PredAt z_ f lb oL p w:=by
  intro W x l;unfold FnGives;exact(hp W x l.size (λ b d _=>l.block b d)).mono λ _ _ ⟨he,hw⟩=>⟨he,0,by rw[<-hw];rfl⟩
 have y:PredOver z_ f lb oL p g 0 c.toArray.size w:=by
  intro k os j x _;unfold FnGives;have z:w.heap.size<=(sortWorld oL w g 0 k j os).heap.size:=by
   show w.heap.size<=((Sort.putRow oL (Sort.ahead w k) g 0 j).heap++os).size;rw[Array.size_append,Sort.size_putRow];show w.heap.size<=w.heap.size+_;omega
  exact(hp _ x z (λ b d A=>DJ oL w g k j os d A)).mono λ _ _ ⟨he,hw⟩=>⟨he,0,by rw[<-hw];rfl⟩
 have m:=Tryz.slices_DeleteFunc oL y4 p f lb o 0 Tryz.zeroValue3 g 0 cap c.toArray w v y t (by simpa[i] using u) (by simpa[i] using r);have hs:c.toArray.size=n:=by simp[i]
 rw[hs] at m;refine m.mono ?_;rintro e w' ⟨rfl,q,rfl⟩;have B:c.toArray.toList.filter (λ x=> !(p x))=c.filter λ x=> !(p x):=rfl
 rw[B];have hle:=j_ (λ x=> !(p x)) c;refine⟨rfl,?_,below_putRow (Below.refl _ _) d⟩;have:=ownsRow_putRow (q:=q) (k:=(c.filter λ x=> !(p x)).length) (ys:=(c.filter λ x=> !(p x))++List.replicate (n-(c.filter λ x=> !(p x)).length) 0) h' (by simp;omega) (by omega);rw[List.take_left' rfl] at this;exact this
def OD(b:List Int)(w:World)(e:Ending)(w':World):Prop:=∃A c,e=.returned (.slice A b.length c)/\aS w' A b.length c b/\w'.ownsRow w.heap.size 3 1 (.slice A b.length c) b.length (b.map (Value.int .i64))/\Below w.heap.size w w'
theorem OE:∀args w,(callFunc 141 args).run z_ w=.ok (.enter 141 args) w:=enters_of Tryz.func141 (by kernel_rfl) rfl
theorem OF(d:Nat)(A:Option Addr)(n c:Nat)(core:List Int)(x:Int)(w:World)(g:w.cell? ⟨d,0,none⟩=some (.slice A n c))(h:aS w A n c core):
  Calls z_ 141 #[.int .i64 x,.pointer (some ⟨d,0,none⟩)] w λ e w'=>e=.returned (.bool (!(hasB core x)))/\w=w':=by
 obtain⟨r,b⟩:∃r,hasB core x=r:=⟨_,rfl⟩
 have f:=aa (GJ r A n c core x w h b);rw[b];clear h b;go_enter Tryz.func141,Tryz.ntmps141
 go_wp2_with (go_at_call 124;refine f.o.mono ?_;rintro e w1 ⟨rfl,rfl⟩;dsimp only)
 go_ret;exact⟨rfl,rfl⟩
theorem OG(f:Nat)(lb:Array Value)(p:Int->Bool)(m:∀args w,(callFunc f args).run z_ w=.ok (.enter f args) w){w:World}{base:Nat}{A:Option Addr}{c:Nat}{ah:List Int}(j:w.ownsRow base 3 1 (.slice A ah.length c) ah.length (ah.map (Value.int .i64)))(r:ah.length*8<=140737488355328)(s:base<=w.heap.size)(hp:∀g,base<=g->HQ f lb p g w):
  Calls z_ 85 #[.slice A ah.length c,.func (.func f) #[] lb] w λ e w'=>∃b c2,e=.returned (.slice b (ah.filter λ x=> !(p x)).length c2)/\aS w' b (ah.filter λ x=> !(p x)).length c2 (ah.filter λ x=> !(p x))/\w'.ownsRow base 3 1 (.slice b (ah.filter λ x=> !(p x)).length c2) (ah.filter λ x=> !(p x)).length ((ah.filter λ x=> !(p x)).map (Value.int .i64))/\Below base w w':=by
 have hle:=j_ (λ x=> !(p x)) ah;rcases j.2 with⟨h1,n⟩|⟨g,cap,cur,h1,k,_⟩
 ·injection h1 with d o i
  have:ah=[]:=p_ n;subst this;subst d i;refine(Dy _ w).mono ?_;rintro e w' ⟨rfl,rfl⟩;exact⟨none,0,rfl,aS.nil _ _ _ (by unfold maxLen;omega),d_ _ _ _ _,Below.refl _ _⟩
 ·injection h1 with d o i
  subst d i;refine(OC f lb p m w base g ah.length c ah j k (hp g k)).mono ?_;rintro e w' ⟨rfl,l,q⟩;exact⟨_,c,rfl,aS.lG l (by omega),l,q⟩
theorem OH(l o:List Int):(l.filter λ x=> !(!(hasB o x)))=rA l o:=by
 unfold rA
 congr 1
 funext x;simp[hasB]
theorem aS.zh(h:aS w A n c ah)(hs:w.heap.size<=w'.heap.size)(d:∀b,b<w.heap.size->w'.heap[b]? =w.heap[b]?):aS w' A n c ah:=
 ⟨h.len,h.cap,h.mG,h.od,λ f=>by
  obtain⟨b,off,e,h1,g⟩:=h.cells f;refine⟨b,off,e,Nat.lt_of_lt_of_le h1 hs,λ j i=>?_⟩;rw[Zq (a:=⟨b,off+j,none⟩) (d b h1)];exact g j i⟩
theorem Ec{HR:Nat}{s:Nat}{xs:List Value}(h:w.ownsRow base e s v n xs)(b:HR<=base):w.ownsRow HR e s v n xs:=by
 refine⟨h.1,?_⟩;rcases h.2 with h1|⟨g,cap,cur,h1,c,d⟩
 ·exact Or.inl h1
 ·exact Or.inr ⟨g,cap,cur,h1,m_ b c,d⟩
theorem Ed(A:Option Addr)(n c:Nat)(k:List Int)(A':Option Addr)(d c':Nat)(os:List Int)(w:World)(h:aS w A n c k)(h':aS w A' d c' os):
  Calls z_ 79 #[.slice A n c,.slice A' d c'] w (OD (rA k os) w):=by
 have F:∀(fn:Fn)(first cap:Array Value)(w:World),(Instr.makeFunc fn first cap).run z_ w=.ok (.func fn first cap) w:=λ _ _ _ _=>rfl
 have j:=bB w (.cells #[.slice A' d c'] 25);have q:(w.alloc (.cells #[.slice A' d c'] 25)).cell? ⟨w.heap.size,0,none⟩=some (.slice A' d c'):=(aN.new w 25 [.slice A' d c']).cell 0;have r:(w.alloc (.cells #[.slice A' d c'] 25)).heap.size=w.heap.size+1:=by simp
 have s:=h.mG;have t:=h.len;go_enter Tryz.func79,Tryz.ntmps79
 go_upto_region 1 with fail
 generalize w.alloc (.cells #[.slice A' d c'] 25)=w1 at*;have C:=aa (vm A n c k w1 (h.below j));have f:=aa (v_ (h'.below j) (v_ q (v_ r (v_ j (v_ s t)))));clear h h' q r j s t
 go_wp2_with (first
  |(go_at_call 81;refine C.o.mono ?_;rintro e G ⟨H,c2,rfl,u,v⟩;have i:=aa (v_ u v);clear u v;have l:=OG 141 #[.pointer (some ⟨w.heap.size,0,none⟩)] (λ x=> !(hasB os x)) OE i.o.1 (by have:=f.o;omega) i.o.2.size (λ g I W x hs hk=>OF w.heap.size A' d c' os x W ((Zq (a:=⟨w.heap.size,0,none⟩) ((hk w.heap.size (by have:=i.o.2.size;have:=f.o;omega) (by have:=f.o;omega)).trans (i.o.2.block w.heap.size (by have:=f.o;omega)))).trans f.o.2.1) (f.o.1.zh (m_ i.o.2.size hs) (λ b e=>(hk b (Nat.lt_of_lt_of_le e i.o.2.size) (by omega)).trans (i.o.2.block b e))));simp only[OH] at l;have D:=aa l;clear l)
  |(go_at_call 85;refine D.o.mono ?_;rintro e J ⟨E,c3,rfl,y,z,B⟩;have m:=aa (v_ y (v_ z B));clear y z B))
 have p:w.heap.size<=w1.heap.size:=by have:=f.o;omega
 go_ret;exact⟨E,c3,rfl,m.o.1,Ec m.o.2.1 p,(f.o.2.2.2.1.trans (i.o.2.mono p)).trans (m.o.2.2.mono p)⟩
theorem OI(w:World)(b s:Nat)(hs:s<=b)(i:b<=1099511627776):Calls z_ 140 #[.agg #[.int .i64 b,.int .i64 s]] w λ e w'=>e=.returned (.int .i64 ((b-s:Nat):Int))/\Below w.heap.size w w':=by
 have d:=bB w (.cells #[.int .i64 b,.int .i64 s] 153);have c:aN (w.alloc (.cells #[.int .i64 b,.int .i64 s] 153)) w.heap.size 153 [.int .i64 b,.int .i64 s]:=aN.new w 153 [.int .i64 b,.int .i64 s];have f:=c.cell 0;have g:=c.cell 1;simp only[y_,x_] at f g;have wd:IntKind.i64.wrap ((b:Int)-(s:Int))=(b:Int)-(s:Int):=by rw[IntKind.wrap_i64];omega
 go_enter Tryz.func140,Tryz.ntmps140
 go_wp2_with fail
 go_ret;refine⟨?_,d⟩;simp;omega
structure qY(aT:Nat->Prop)(w:World)(B n:Nat)(s:kf)(aM:Option Addr)(aF:Nat)(ia:Option Addr)(cl:Nat)(A:Option Addr)(c:Nat)(A':Option Addr)(c':Nat)(fM:Option Addr)(bD:Nat)(aQ:Option Addr)(aU aW sp:Nat):Prop where
 blk:aN w B 155 [.int .i64 n,.slice aM s.gs.length aF,.slice ia s.es.length cl,.slice A (n+1) c,.slice A' n c',.int .i64 s.aZ,.slice fM (n+1) bD,.slice aQ s.aA.length aU,.int .i64 aW,.int .i64 sp]
 jF:aT B
 dl:∀b,aT b->b<w.heap.size
 Cl:rT w aT s aM aF ia cl A c A' c' fM bD aQ aU
 ok:oB n s
 n10:n<=10
 nt:sp<=aW
 p8:aW<=1099511627776
 bz:s.gs.length<=40000
 pl:s.aA.length<=40000+s.es.length
 el:s.es.length=sp
 sN:aQ=none->s.aA.length=0/\aU=0
 pa:aQ≠none->∃b off,aQ=some ⟨b,off,none⟩
theorem qY.Cm{aT:Nat->Prop}{B:Nat}{aW sp:Nat}(h:qY aT w B n s aM aF ia cl A c A' c' fM bD aQ aU aW sp):sp<=aW/\sp<=59048:=
 ⟨h.nt,by have h1:=h.ok.mT;have b:=xo h.n10;have d:=h.el;omega⟩
theorem Ee(j:a.defers=[])(c:a.tmps.getD 8 undef=.pointer (some ⟨bp,0,none⟩))(d:a.tmps.getD 9 undef=.int .i64 0)
  (b:aN W bp 30 [v0,v1,v2,v3]) (h:aK (.returned (.tuple #[.agg #[v0,v1,v2,v3],.int .i64 0])) W):bodyPost z_ Tryz.f78 aK .ret a W:=by
 have e:=b.cell 0;have f:=b.cell 1;have g:=b.cell 2;have i:=b.cell 3;simp only[y_,x_] at e f g i;refine bodyPost_ret (v:=.tuple #[.agg #[v0,v1,v2,v3],.int .i64 0]) ?_ j h;rw[w_] at c d;simp[results,Tryz.results78,go_sem,c,d,e,f,g,i]
theorem OJ(i:a.defers=[])(c:a.tmps.getD 4 undef=.pointer (some ⟨bp,0,none⟩))
  (b:aN W bp 30 [v0,v1,v2,v3]) (h:aK (.returned (.agg #[v0,v1,v2,v3])) W):bodyPost z_ Tryz.f77 aK .ret a W:=by
 have d:=b.cell 0;have e:=b.cell 1;have f:=b.cell 2;have g:=b.cell 3;simp only[y_,x_] at d e f g;refine bodyPost_ret (v:=.agg #[v0,v1,v2,v3]) ?_ i h;rw[w_] at c;simp[results,Tryz.results77,go_sem,c,d,e,f,g]
theorem OK(w:World)(B:Nat)(L:List Value)(l sp:Nat)(m:aN w B 155 L)(p:L[8]? =some (.int .i64 l))(q:L[9]? =some (.int .i64 sp))(kind:Int)(c:Option Addr)(d f:Nat)(g:Option Addr)(i j:Nat)(hk:kind=1\/kind=2\/kind=3):
  Calls z_ 78 #[.pointer (some ⟨B,0,none⟩),.int .i64 kind,.slice c d f,.slice g i j] w λ e w'=>e=.returned (.tuple #[.agg #[.int .i64 kind,.slice c d f,.slice g i j,.int .i64 (if kind=3 then l else sp:Nat)],.int .i64 0])/\Below w.heap.size w w':=by
 have z:=m.lt;have n:=bB w (.cells #[.int .i64 0,.slice none 0 0,.slice none 0 0,.int .i64 0] 30);have b:aN (w.alloc (.cells #[.int .i64 0,.slice none 0 0,.slice none 0 0,.int .i64 0] 30)) w.heap.size 30 [.int .i64 0,.slice none 0 0,.slice none 0 0,.int .i64 0]:=aN.new w 30 _;have o:=m.below n;have r:=o.cell 8;have s:=o.cell 9;rw[p] at r;rw[q] at s;have t:=b.cell 0;have u:=b.cell 1;have v:=b.cell 2;have y:=b.cell 3;simp only[y_,x_] at t u v y;have k:=b.free;have f0:=k 0;have f1:=k 1;have f2:=k 2;have f3:=k 3;clear k;have A:=aa (v_ b n);go_enter Tryz.func78,Tryz.ntmps78
 rcases hk with rfl|rfl|rfl
 ·go_wp2_with fail
  exact Ee rfl rfl rfl (aN.new w 30 [.int .i64 1,.slice c d f,.slice g i j,.int .i64 sp]) ⟨rfl,bB w _⟩
 ·go_wp2_with fail
  exact Ee rfl rfl rfl (aN.new w 30 [.int .i64 2,.slice c d f,.slice g i j,.int .i64 sp]) ⟨rfl,bB w _⟩
 ·go_wp2_with fail
  exact Ee rfl rfl rfl (aN.new w 30 [.int .i64 3,.slice c d f,.slice g i j,.int .i64 l]) ⟨rfl,bB w _⟩
def OL(aT:Nat->Prop)(w:World)(B n:Nat)(s:kf)(aM:Option Addr)(aF:Nat)(l:List Int)(c sp:Nat)(e:Ending)(W:World):Prop:=
 ∃(s':kf)(m:Option Addr)(c1:Nat)(o:Option Addr)(c2:Nat)(p:Option Addr)(c3:Nat)(q:Option Addr)(r:Nat)(t:Option Addr)(u:Nat)(b:Nat)(kind:Int)(d:Option Addr)(f g:Nat)(i:Option Addr)(j k:Nat),
  e=.returned (.agg #[.int .i64 kind,.slice d f g,.slice i j k,.int .i64 (b:Int)])/\
  qY aT W B n s' aM aF m c1 o c2 p c3 q r t u c (sp+b)/\s'.gs=s.gs/\b<=c-sp/\nx (λ _=>True) W s.gs l n (c-sp) b kind d f g i j k/\w.grownBy W (some B)
end
section
open Go.RowKit
def Ef(p q:Nat×Nat):Prop:=p.2<=q.1\/q.2<=p.1
def zi(L:Nat->Bool)(b:Nat->Nat×Nat)(w:World):Prop:=(∀j,L j=true->(b j).1<=(b j).2/\(b j).2<=w.heap.size)/\∀j k,j≠k->L j=true->L k=true->Ef (b j) (b k)
def zj(b:Nat->Nat×Nat)(i:Nat)(p:Nat×Nat):Nat->Nat×Nat:=λ j=>if j=i then p else b j
def AD(ws:List (List Nat))(iq:World->Prop)(G:Nat->Nat×Nat->(Nat->Value)->World->Prop)(b:Nat->Nat×Nat)(vals:Nat->Value)(i:Nat)(w:World)(v:Value)(w':World):Prop:=
 iq w'/\w.heap.size<=w'.heap.size/\G i (w.heap.size,w'.heap.size) (kP vals i v) w'/\∀j,j≠i->nM ws 8 j i=false->(b j).2<=w.heap.size->(∀k,q8 ws i k=true->k≠j->Ef (b j) (b k))->G j (b j) vals w->G j (b j) vals w'
theorem AD.same(b:iq w)(h:G i (w.heap.size,w.heap.size) (kP vals i v) w):AD ws iq G bJ vals i w v w:=⟨b,n_ _,h,λ _ _ _ _ _ h=>h⟩
theorem AD.more(hm:∀j p u w w',Below w.heap.size w w'->p.2<=w.heap.size->G j p u w->G j p u w')(b:Below w.heap.size w w')(c:iq w')(h:G i (w.heap.size,w'.heap.size) (kP vals i v) w'):AD ws iq G bJ vals i w v w':=⟨c,b.size,h,λ j _ _ hp _ h=>hm j _ _ w w' b hp h⟩
def zk(P:Program)(ds:List (Option Tmp))(ws:List (List Nat))(old:List (Tmp×Value))(iq:World->Prop)(G:Nat->Nat×Nat->(Nat->Value)->World->Prop)(i:Nat)(o:Oper):Prop:=
 ∀(vals:Nat->Value)(b:Nat->Nat×Nat)(w:World)(c:Operand->Value),iq w->rN ds (λ j _=>G j (b j) vals) (λ _=>none) i vals w c o.after.toList->q9 ds ws i c old->rf c->((∀j,q8 ws i j=true->(b j).1<=(b j).2/\(b j).2<=w.heap.size)/\∀j k,j≠k->q8 ws i j=true->q8 ws i k=true->Ef (b j) (b k))->
  bq P c o w (AD ws iq G b vals i w)
def yj(ws:List (List Nat))(G:Nat->Nat×Nat->(Nat->Value)->World->Prop):Prop:=∀i p vals rO w,(∀k,k=i\/nM ws 8 i k=true->vals k=rO k)->G i p vals w->G i p rO w
def vZ(P:Program)(ds:List (Option Tmp))(ws:List (List Nat))(old:List (Tmp×Value))(iq:World->Prop)(G:Nat->Nat×Nat->(Nat->Value)->World->Prop):Nat->List Oper->Prop
 |_,[]=>True
 |k,o::r=>zk P ds ws old iq G k o/\vZ P ds ws old iq G (k+1) r
theorem vZ.at{P:Program}{ds:List (Option Tmp)}{ws:List (List Nat)}{old:List (Tmp×Value)}{iq:World->Prop}{G:Nat->Nat×Nat->(Nat->Value)->World->Prop}:∀{l:List Oper}{k i:Nat}{o:Oper},vZ P ds ws old iq G k l->l[i]? =some o->zk P ds ws old iq G (k+i) o
 |[],k,i,o,_,h=>by simp at h
 |x::l,k,0,o,hs,h=>by
  simp only[y_,l_] at h;subst h;exact hs.1
 |x::l,k,i+1,o,hs,h=>by
  rw[x_] at h;have:=vZ.at hs.2 h
  rwa[show k+1+i=k+(i+1) by omega] at this
section
variable {P:Program}{l:List Oper}{Q:Exit->Act->World->Prop}{a:Act}{old:List (Tmp×Value)}{iq:World->Prop}{G:Nat->Nat×Nat->(Nat->Value)->World->Prop}
theorem OM{ds:List (Option Tmp)}{ws:List (List Nat)}(N:ws=l.map λ o:Oper=>(o.after.toList.filter (Zl .any)).map (·.on))(O:ds=l.map λ o:Oper=>o.dst)(R:sv l.toArray=true)(D:qd l.toArray=true)(Y:sw l.toArray a.tmps.size=true)
  (hold:pK a.eval old) (Z:yj ws G)
  {i:Nat} {o:Oper} (m:l.toArray[i]? =some o) (S:zk P ds ws old iq G i o) {listed:Array Bool} {vals:Nat->Value} {bJ:Nat->Nat×Nat} {w:World} {K:Act->World->Prop} (ay:listed.size=l.toArray.size) (aa:iq w) (hF:uf (λ j _=>G j (bJ j) vals) (λ _=>none) (gK listed) vals w) (d:zi (gK listed) bJ w)
  (ab:i∈Zk .any l.toArray listed) (hC:ri ws (gK listed))
  (ad:∀v w',iq w'->ri ws (gK (listed.setIfInBounds i true))->uf (λ j _=>G j (zj bJ i (w.heap.size,w'.heap.size) j) (kP vals i v)) (λ _=>none) (gK (listed.setIfInBounds i true)) (kP vals i v) w'->zi (gK (listed.setIfInBounds i true)) (zj bJ i (w.heap.size,w'.heap.size)) w'->K (jB l.toArray (kP vals i v) (gK (listed.setIfInBounds i true)) a l.toArray.size) w'):
  wpOp P l.toArray Q i K (jB l.toArray vals (gK listed) a l.toArray.size) w:=by
 obtain⟨h1,T,ae,U,E⟩:=ug ab;obtain rfl:o=ae:=by rw[m] at U;injection U
 have n:i<listed.size:=by omega
 have t:gK listed i=false:=by
  unfold gK;rw[w_,c_ n] at T⊢;simpa using T
 have A:∀j,q8 ws i j=true->gK listed j=true:=λ j b=>by
  obtain⟨af,f,e,he,u,F⟩:=xP N b;rw[m] at f;injection f with f
  subst f;have:=E e he u;rw[F] at this;exact this
 unfold wpOp;simp only[m];have ag:o.guard=none:=by
  unfold qd at D;rw[k_] at D;have:=D o (Zu m);simpa using this
 have hw:f_ o (yielded l.toArray (jB l.toArray vals (gK listed) a l.toArray.size).tmps)=true:=by unfold f_;rw[ag]
 rw[if_pos hw];left;unfold zk at S;have ah:=S vals bJ w (jB l.toArray vals (gK listed) a l.toArray.size).eval aa (rN.of λ e he u=>by
  have hl:=E e (Array.mem_toList_iff.1 he) u;have ai:e.on<l.toArray.size:=by
   rcases Zm e.on listed.size with h|h
   ·omega
   ·rw[w_,Zw h] at hl;cases hl
  refine⟨λ y=>hF e.on hl λ c g=>?_,λ s hs=>?_⟩
  ·rcases y with y|y
   ·rw[y] at g;cases g
   ·rw[y] at g;injection g with g
    rw[<-g];exact t
  ·rw[O,<-wK] at hs;exact yz hs (A7 Y hs) hl (λ k hk=>wI R hk hs) _ ai) (q9.of (λ s hs=>yy (λ j s' hl b H=>by
   injection H with H
   subst H;rw[wK,<-O] at b;have:=hC j i hl (A6 hs b);rw[t] at this;cases this) _) hold) (rf.act _) ⟨λ j w1=>d.1 j (A j w1),λ j k p w1 aj=>d.2 j k p (A j w1) (A k aj)⟩
 refine ah.wp λ v w' ⟨ak,V,al,an⟩=>?_
 have ao:(jB l.toArray vals (gK listed) a l.toArray.size).put o.dst v=jB l.toArray (kP vals i v) (gK (listed.setIfInBounds i true)) a l.toArray.size:=by
  rw[oG n];have aq:ow l.toArray i=o.dst:=by unfold ow;rw[m];rfl
  have:=zH (ops:=l.toArray) (vals:=vals) (L:=gK listed) (a:=a) (i:=i) (v:=v) (λ j b s hs=>wI R b hs) t l.toArray.size h1;rw[aq] at this;exact this
 rw[ao];have ar:ri ws (gK (listed.setIfInBounds i true)):=by
  rw[oG n];intro j k b W;unfold lI at b⊢
  by_cases e:k=i
  ·rw[if_pos e]
  ·rw[if_neg e]
   by_cases X:j=i
   ·subst X;obtain⟨af,f,au,av,u,F⟩:=xP N W;rw[m] at f;injection f with f
    subst f;have:=E au av u;rw[F] at this;exact this
   ·rw[if_neg X] at b;exact hC j k b W
 have q:∀j,j≠i->zj bJ i (w.heap.size,w'.heap.size) j=bJ j:=λ j b=>by unfold zj;rw[if_neg b]
 have B:zj bJ i (w.heap.size,w'.heap.size) i=(w.heap.size,w'.heap.size):=by unfold zj;rw[if_pos rfl]
 refine ad v w' ak ar (λ j b az=>?_) ⟨λ j b=>?_,λ j k p C z=>?_⟩
 ·rw[oG n] at b
  by_cases e:j=i
  ·subst e;rw[B];exact al
  ·have I:lI (gK listed) i j=gK listed j:=by unfold lI;rw[if_neg e]
   rw[q j e];rw[I] at b;refine Z j _ vals _ w' (λ k hk=>?_) (an j e ?_ (d.1 j b).2 (λ k hk p=>d.2 j k (λ x=>p x.symm) b (A k hk)) (hF j b λ c g=>by cases g))
   ·have aw:k≠i:=by
     rcases hk with rfl|hk
     ·exact e
     ·intro J;subst J;have:=hC.reach 8 j k b hk;rw[t] at this;cases this
    unfold kP;rw[if_neg aw]
   cases ax:nM ws 8 j i with
   |false=>rfl
   |true=>
    have:=hC.reach 8 j i b ax;rw[t] at this;cases this
 ·rw[oG n] at b
  by_cases e:j=i
  ·subst e;rw[B];exact⟨V,n_ _⟩
  ·have I:lI (gK listed) i j=gK listed j:=by unfold lI;rw[if_neg e]
   rw[I] at b;rw[q j e];exact⟨(d.1 j b).1,m_ (d.1 j b).2 V⟩
 ·rw[oG n] at C z
  by_cases e:j=i
  ·subst e;have r:¬k=j:=λ e=>p e.symm
   have M:lI (gK listed) j k=gK listed k:=by unfold lI;rw[if_neg r]
   rw[M] at z;rw[B,q k r];exact .inr (d.1 k z).2
  ·have M:lI (gK listed) i j=gK listed j:=by unfold lI;rw[if_neg e]
   rw[M] at C
   by_cases r:k=i
   ·subst r;rw[B,q j e];exact .inl (d.1 j C).2
   ·have J:lI (gK listed) i k=gK listed k:=by unfold lI;rw[if_neg r]
    rw[J] at z;rw[q j e,q k r];exact d.2 j k p C z
theorem ON{ds:List (Option Tmp)}{ws:List (List Nat)}(J:ws=l.map λ o:Oper=>(o.after.toList.filter (Zl .any)).map (·.on))(K:ds=l.map λ o:Oper=>o.dst)(n:Nat)(hlen:l.length=n+1)(L:sv l.toArray=true)(t:qd l.toArray=true)(M:sw l.toArray a.tmps.size=true)(N:uN l.toArray=true)(u:vF l n=true)(hold:pK a.eval old)(O:yj ws G)
  (R:vZ P ds ws old iq G 0 (l.take n))
  (S:∀o vals d w,l[n]? =some o->iq w->(∀j,j<n->G j (d j) vals w)->zi (mh n) d w->bq P (jB l.toArray vals (mh n) a n).eval o w λ v w'=>Q .normal ((jB l.toArray vals (mh n) a n).put o.dst v) w'):
  ∀(fuel:Nat)(listed:Array Bool)(vals:Nat->Value)(d:Nat->Nat×Nat)(w:World),listed.size=l.toArray.size->ox l.toArray listed<=fuel->0<ox l.toArray listed->gK listed n=false->ri ws (gK listed)->iq w->uf (λ j _=>G j (d j) vals) (λ _=>none) (gK listed) vals w->zi (gK listed) d w->
   wpAny P .any l.toArray Q fuel listed (jB l.toArray vals (gK listed) a l.toArray.size) w:=by
 intro fuel
 induction fuel with
 |zero=>intro listed vals d w q T U;omega
 |succ fuel V=>
  intro listed vals d w q T U C hC D hF y;refine⟨λ h=>by have:=A9 N q h;omega,λ i E=>?_⟩;obtain⟨h1,W,o,s,X⟩:=ug E;have F:i<listed.size:=by omega
  have ao:i<l.length:=by simpa using h1
  have z:l[i]? =some o:=by rw[List.getElem?_toArray] at s;exact s
  by_cases H:i=n
  ·subst H;have f:∀j,j<i->gK listed j=true:=λ j g=>by
    unfold vF at u;rw[z] at u;simp only[List.all_eq_true,List.mem_range] at u;have b:=u j g;rw[Array.any_eq_true'] at b;obtain⟨e,he,A⟩:=b;simp only[Bool.and_eq_true,beq_iff_eq] at A;have:=X e he A.1;rw[A.2] at this;exact this
   have Y:jB l.toArray vals (gK listed) a l.toArray.size=jB l.toArray vals (mh i) a i:=by
    have Z:l.toArray.size=i+1:=by simp[hlen]
    rw[Z];simp only[jB];rw[C];simp only[Bool.false_eq_true,if_false];exact zL i λ j g=>by rw[f j g];unfold mh;simp[g]
   rw[Y];unfold wpOp;simp only[s];have aa:o.guard=none:=by
    unfold qd at t;rw[k_] at t;have:=t o (Zu s);simpa using this
   have hw:f_ o (yielded l.toArray (jB l.toArray vals (mh i) a i).tmps)=true:=by unfold f_;rw[aa]
   rw[if_pos hw];left;refine(S o vals d w z D (λ j g=>hF j (f j g) λ c ab=>by cases ab) ⟨λ j B=>y.1 j (f j (by simpa[mh] using B)),λ j k ad B ae=>y.2 j k ad (f j (by simpa[mh] using B)) (f k (by simpa[mh] using ae))⟩).wp λ v w' af=>?_
   refine wpAny_done ?_ af _;rcases ag:Zk .any l.toArray (listed.setIfInBounds i true) with _|⟨k,r⟩
   ·rfl
   ·have hk:k∈Zk .any l.toArray (listed.setIfInBounds i true):=by rw[ag];simp
    obtain⟨b,m,_⟩:=ug hk;exfalso;have aq:k<i+1:=by simpa[hlen] using b
    by_cases e:k=i
    ·subst e;rw[w_,Array.getElem?_setIfInBounds_self_of_lt F] at m
     cases m
    ·have p:=f k (by omega);rw[w_,Array.getElem?_setIfInBounds_ne (λ x=>e x.symm)] at m;unfold gK at p;rw[w_] at p;have ah:k<listed.size:=by omega
     rw[c_ ah] at m p;simp at m p;rw[m] at p;cases p
  ·have ai:zk P ds ws old iq G i o:=by
    have b:(l.take n)[i]? =some o:=by rw[List.getElem?_take,if_pos (by omega)];exact z
    have:=vZ.at R b
    rwa[Zz] at this
   refine OM J K L t M hold O s ai q D hF y E hC λ v w' aj ak al an=>?_
   have I:gK (listed.setIfInBounds i true) n=false:=by
    rw[oG F];unfold lI;rw[if_neg (λ e=>H e.symm)];exact C
   refine V _ _ _ w' (by simp[q]) (by have:=A8 (ops:=l.toArray) h1 W;omega) ?_ I ak aj al an;rcases Nat.eq_zero_or_pos (ox l.toArray (listed.setIfInBounds i true)) with b|b
   ·have:=wL (ops:=l.toArray) (listed:=listed.setIfInBounds i true) (by simp[q]) b n (by simp[hlen]);rw[I] at this;cases this
   ·exact b
end
theorem Eg{id:Nat}(l:List Oper)(n N:Nat)(ds:List (Option Tmp))(ws:List (List Nat))(old:List (Tmp×Value))(iq:World->Prop)(G:Nat->Nat×Nat->(Nat->Value)->World->Prop)
  (s:ops=l.toArray) (hm:P.follows .mixedOrders=true)
  (q:ds=l.map λ o:Oper=>o.dst) (t:ws=l.map λ o:Oper=>(o.after.toList.filter (Zl .any)).map (·.on)) (hlen:l.length=n+1) (u:sv l.toArray=true) (y:qd l.toArray=true) (z:uN l.toArray=true) (A:vF l n=true) (B:sw l.toArray N=true)
  (C:a.tmps.size=N) (hold:pK a.eval old) (D:yj ws G) (E:iq w.drew)
  (F:vZ P ds ws old iq G 0 (l.take n))
  (ol:Oper) (H:l[n]? =some ol) (I:∀vals b w,iq w->(∀j,j<n->G j (b j) vals w)->zi (mh n) b w->∀m,nZ (ds.take n) 0 vals a=m->bq P m.eval ol w λ v w'=>Q .normal (m.put ol.dst v) w'):(Code.region id ops true).wp P Q a w:=by
 subst s;subst C;refine wp_region_any hm ?_;have J:∀o vals b w,l[n]? =some o->iq w->(∀j,j<n->G j (b j) vals w)->zi (mh n) b w->bq P (jB l.toArray vals (mh n) a n).eval o w λ v w'=>Q .normal ((jB l.toArray vals (mh n) a n).put o.dst v) w':=by
  intro o vals b w g K L M;rw[H] at g;injection g with g
  subst g;rw[zK l vals a n n (n_ _) (by omega),<-q];exact I vals b w K L M _ rfl
 have c:∀k,gK (q_ l.toArray.size false) k=false:=λ k=>by
  unfold gK;rw[w_,Array.getElem?_replicate];split<;>rfl
 have e:a=jB l.toArray (λ _=>undef) (gK (q_ l.toArray.size false)) a l.toArray.size:=by
  have:∀k,jB l.toArray (λ _=>undef) (gK (q_ l.toArray.size false)) a k=a:=by
   intro k
   induction k with
   |zero=>rfl
   |succ k O=>
    simp only[jB];rw[c k,O];simp
  exact(this _).symm
 have r:=ON (P:=P) (Q:=Q) (a:=a) (iq:=iq) (G:=G) t q n hlen u y B z A hold D F J l.toArray.size (q_ l.toArray.size false) (λ _=>undef) (λ _=>(0,0)) w.drew (by simp)
  (by unfold ox;exact m_ (j_ _ _) (by simp)) ?_ (c n) (λ j i d=>by rw[c j] at d;cases d) E (λ j d=>by rw[c j] at d;cases d) ⟨λ j f=>(by rw[c j] at f;cases f),λ j k R f S=>(by rw[c j] at f;cases f)⟩
 ·rw[<-e] at r;exact r
 ·rcases Nat.eq_zero_or_pos (ox l.toArray (q_ l.toArray.size false)) with p|p
  ·have:=wL (ops:=l.toArray) (listed:=q_ l.toArray.size false) (by simp) p n (by simp[hlen]);rw[c n] at this;cases this
  ·exact p
end
end Go.Proofs.YtogdlkfacflmaaaGreat
