/- Parts of the walk of the solver and its core; no condition. -/
import Derived.Test.YtogdlkfacflmaaaGreatZY1
import Derived.Test.YtogdlkfacflmaaaGreatZY16
import Derived.Deep.Grids
import Derived.ProofKit
import Derived.OpenShut
import Derived.SizedLaws
import Derived.Lib.SmallJoins
import Derived.Deep.Slices
import Derived.Deep.Fields
import Derived.Deep.Strs
import Derived.ChangeSame
import Derived.Test.YtogdlkfacflmaaaGreatRows
import Derived.WalkKit
import Derived.Test.YtogdlkfacflmaaaGreatZY15
import Derived.Test.YtogdlkfacflmaaaGreatZY14
namespace Go.Proofs.YtogdlkfacflmaaaGreat
set_option linter.unusedVariables false
set_option linter.unusedSimpArgs false
set_option maxRecDepth 100000
set_option maxHeartbeats 8000000
open _root_.Go.Proofs.Tryz renaming prog→z_,underlying22→p_,underlying25→i_
open _root_.List renaming getElem?_cons_zero→y_,getElem?_cons_succ→x_,mem_singleton→v_,getD_eq_getElem?_getD→u_,mem_append→t_,getElem?_eq_some_iff→s_,eq_nil_of_length_eq_zero→q_,getElem?_eq_getElem→n_,set_cons_succ→k_,set_cons_zero→j_,ext_getElem→d_,length_map→a_,take_of_length_le→Zz,mem_range→Zx,length_filter_le→Zw,mem_iff_getElem→Zv,mem_cons→Zr
open _root_.And renaming intro→w_
open _root_.Nat renaming le_refl→r_,zero_le→m_,le_trans→e_,zero_add→Zp
open _root_.Array renaming getD_eq_getD_getElem?→o_
open _root_.Go.DataW renaming Trod→l_,weights→Zq
open _root_.Option.some renaming injEq→h_
open _root_.Go.World renaming ownsRow_nil→g_,cell?_of_block→Zs
open _root_.Go.Value renaming bool→f_
open _root_.Go.Addr renaming add_lit→c_
open _root_.Go.WideShapes renaming add_plain→b_
open _root_.Go.Lit renaming int→Zy
open _root_.Go.WideElems renaming Trod_stays→Zu
open _root_.Char renaming ofNat→Zt
open _root_.Go.Value.slice renaming injEq→Zo
variable{H:Type}{t e:TypeId}{P:Program}{rest:List (List Char)}{n k base c aZ:Nat}{ls:List (List Int)}{l ai:List Int}{m:List Bool}{p:List Int->Bool}{w w' W:World}{ops:Array Oper}{o:Oper}{a:Act}{Q:Exit->Act->World->Prop}{A:Option Addr}{s:lp}{aL:Ending->World->Prop}{v0 v1 v2 v3:Value}
section
open Go.ChangeShapes Go.WideShapes Go.ChangeAt Go.RowKit Go.Joins Go.Deep
theorem laidOut:laidOutB z_=true:=by kernel_rfl
theorem Ev:ownKnob z_.godebug=none:=by kernel_rfl
theorem OL:z_.cellsOf 3=1:=by kernel_rfl
theorem OM:z_.cellsOf 25=1:=by kernel_rfl
theorem ON:z_.cellsOf 24=2:=by kernel_rfl
theorem OO:z_.bytesOf 3=8:=by kernel_rfl
theorem OP:z_.bytesOf 25=24:=by kernel_rfl
def Fits{H:Type}(t:TypeId)(d:DataW H):Prop:=∀n∈d.weights z_ t,n<=reachBytes
theorem OQ:reachBytes<=140737488355328:=by decide
theorem xK{BN:List TypeId}{ds:List (DataW H)}(h:(DataW.weightsEach z_ BN ds).all (·<=reachBytes)=true){j:Nat}{t:TypeId}{d:DataW H}(b:BN[j]? =some t)(c:ds[j]? =some d):Fits t d:=λ n e=>
 of_decide_eq_true (List.all_eq_true.1 h n (DataW.weights_mem_each b c n e))
theorem Ir{H:Type}{P:Program}{e:TypeId}{d:DataW H}:∀{l:List (DataW H)},d∈l->∀n∈d.weights P e,n∈DataW.weightsAll P e l
 |x::l,c,n,b=>by
  simp only[DataW.weightsAll,t_];rcases Zr.1 c with rfl|h
  ·exact Or.inl b
  ·exact Or.inr (Ir h n b)
theorem Fits.elem{elems spare:List (DataW H)}(h:Fits t (.slice elems spare))(hu:z_.underlying t=some (.slice e)){d:DataW H}(b:d∈elems):Fits e d:=λ n c=>by
 refine h n ?_;simp only[Zq,hu,Zr,t_];exact Or.inr (Or.inl (Ir b n c))
theorem Fits.len{elems spare:List (DataW H)}(h:Fits t (.slice elems spare))(hu:z_.underlying t=some (.slice e)):elems.length*z_.bytesOf e<=140737488355328:=by
 have:=h ((elems.length+spare.length)*z_.bytesOf e) (by simp[Zq,hu]);have b:elems.length*z_.bytesOf e<=(elems.length+spare.length)*z_.bytesOf e:=Nat.mul_le_mul_right _ (by omega);exact e_ b (e_ this OQ)
theorem Is{α:Type}[Inhabited α]{P:Nat->α->Prop}:∀n,(∀j,j<n->∃x,P j x)->∃l:List α,l.length=n/\∀j,j<n->P j (l.getD j default)
 |0,_=>⟨[],rfl,λ j h=>by omega⟩
 |n+1,h=>by
  obtain⟨l,hl,hp⟩:=Is n (λ j b=>h j (by omega));obtain⟨x,c⟩:=h n (by omega);refine⟨l++[x],by simp[hl],λ j b=>?_⟩;rcases Nat.lt_or_ge j n with d|e
  ·have:=hp j d
   rwa[u_,List.getElem?_append_left (by omega),<-u_]
  ·have:j=n:=by omega
   subst this;rw[u_,List.getElem?_append_right (by omega)];simpa[hl] using c
section
variable {H:Type}{enc:TypeId×Value->H}{W:World}{base:Nat}{sp:Nat->Bool}{held:Bool}
theorem It{W:World}{b o:Nat}{v:Value}(h:W.cell? ⟨b,o,none⟩=some v):b<W.heap.size:=by
 rcases Nat.lt_or_ge b W.heap.size with c|d
 ·exact c
 ·simp[World.cell?,Array.getElem?_eq_none d] at h
theorem Iu{fuel:Nat}{cs:List Value}{x:DataW H×List MemPlace}(h:DataW.trod enc z_ W base sp held fuel 25 cs=some x)(e:Fits 25 x.1):
  ∃A n c d,cs=[.slice A n c]/\aP W A n c d/\∀z∈d,(Zy .i64 z).wf=true:=by
 rcases open_ints i_ Tryz.underlying3 OL h with⟨f,_⟩|⟨a,len,cap,d,f,_,hl,hm,k,rfl,l,m⟩
 ·exact⟨none,0,0,[],f,aP.nil _ _ _ (m_ _),λ z e=>by cases e⟩
 ·have q:len<=d.length:=by rw[k];split<;>omega
  have g:=e.len i_;rw[OO] at g;have o:(lits (H:=H) .i64 (d.take len)).length=len:=by simp[lits];omega
  rw[o] at g;refine⟨some a,len,cap,d.take len,f,⟨by simp;omega,hl,g,hm,λ r=>?_⟩,λ z e=>m z (List.mem_of_mem_take e)⟩;obtain⟨b,off,rfl,i⟩:=ints_at l (by omega);refine⟨b,off,rfl,It (i 0 (by omega)),λ j p=>?_⟩;rw[i j (by omega)];simp[jP,u_,p]
theorem OR{fuel:Nat}{cs:List Value}{x:DataW H×List MemPlace}(h:DataW.trod enc z_ W base sp held fuel 22 cs=some x)(f:Fits 22 x.1):
  ∃A n c ls,cs=[.slice A n c]/\kE W A n c ls/\∀l∈ls,∀z∈l,(Zy .i64 z).wf=true:=by
 rcases Deep.open_slice p_ h with⟨k,_⟩|⟨a,len,cap,m,n,D,nE,k,_,hl,u,hm,rfl,v⟩
 ·exact⟨none,0,0,[],k,kE.nil _ _ _ (m_ _),λ z f=>by cases f⟩
 ·have s:len<=m:=by rw[hm];split<;>omega
  have p:=f.len p_;rw[OP] at p;rw[a_,List.length_range] at p;have each:∀i,i<len->∃g:List Int,(∃A' d c',W.cell? (a.add i)=some (.slice A' d c')/\aP W A' d c' g)/\∀z∈g,(Zy .i64 z).wf=true:=by
   intro i w;obtain⟨G,h1,q⟩:=v i (by omega);rw[OM] at h1;obtain⟨_,I,y⟩:=World.cells?_some h1;obtain⟨A',d,c',g,rfl,B,hw⟩:=Iu q (f.elem p_ (List.mem_map.2 ⟨i,Zx.2 w,rfl⟩));refine⟨g,⟨A',d,c',?_,B⟩,hw⟩;have:=y 0 (by omega);simpa[Addr.add] using this
  obtain⟨ls,C,hp⟩:=Is len each;refine⟨some a,len,cap,ls,k,⟨C,hl,p,u,λ E=>?_⟩,λ l s=>?_⟩
  ·obtain⟨J,K,L,t,_⟩:=(hp 0 E).1;obtain⟨b,off,spot⟩:=a;have F:spot=none:=by simpa[Addr.add] using World.cell?_spot t
   subst F;refine⟨b,off,rfl,It (o:=off+0) (by rw[<-b_];exact t),λ j r=>?_⟩;obtain⟨A',d,c',h1,q⟩:=(hp j r).1;exact⟨A',d,c',by rw[<-b_];exact h1,q⟩
  ·obtain⟨j,r,e⟩:=Zv.1 s;have:=(hp j (by omega)).2;rw[u_,n_ r] at this;simp only[Option.getD_some] at this;rw[e] at this;exact this
theorem Ew{r:Reach}{de:Nat}{v:Value}{d:DataW H}{p:List MemPlace}(f:Value.okWide z_ W r de 24 v)(h:l_ enc z_ W base sp held 24 v d p)(g:Fits 24 d):
  ∃x A n c ls,v=.agg #[.int .i64 x,.slice A n c]/\kE W A n c ls/\(∀l∈ls,∀z∈l,(Zy .i64 z).wf=true)/\(Zy .i64 x).wf=true:=by
 obtain⟨v0,v1,t,i,m,rfl,rfl,rfl,j,h1⟩:=open_agg2 Tryz.underlying24 (by kernel_rfl) ON f h;obtain⟨x,e,_,k⟩:=DataW.trod_int Tryz.underlying3 j;have o:Fits 22 i.1:=λ n q=>g n (by
  simp only[Zq,Tryz.underlying24];simp[DataW.weightsEach,q])
 obtain⟨A,n,c,ls,b,s,hw⟩:=OR h1 o;simp only[List.cons.injEq,and_true] at e b;subst e b;exact⟨x,A,n,c,ls,rfl,s,hw,k⟩
theorem Ex{W':World}{v:Value}{d:DataW H}{p:List MemPlace}(h:l_ enc z_ W 0 (λ _=>true) true 24 v d p)(b:Below W.heap.size W W')(c:∀x∈p,x.block<W.heap.size){AR:Nat->Bool}(hs:∀x∈p,AR x.block=true):
  l_ enc z_ W' 0 AR true 24 v d p:=
 Zu laidOut (by kernel_rfl) (of_decide_eq_true (by kernel_rfl)) h (λ x e=>b.same (c x e)) hs
theorem AS{W':World}{v:Value}{d:DataW H}{p:List MemPlace}(h:l_ enc z_ W 0 (λ _=>true) true 25 v d p)(b:Below W.heap.size W W')(c:∀x∈p,x.block<W.heap.size){AR:Nat->Bool}(hs:∀x∈p,AR x.block=true):
  l_ enc z_ W' 0 AR true 25 v d p:=
 Zu laidOut (by kernel_rfl) (of_decide_eq_true (by kernel_rfl)) h (λ x e=>b.same (c x e)) hs
theorem AT{r:Reach}{de:Nat}{v:Value}{d:DataW H}{p:List MemPlace}(e:Value.okWide z_ W r de 25 v)(h:l_ enc z_ W base sp held 25 v d p)(f:Fits 25 d):
  ∃A n c b,v=.slice A n c/\aP W A n c b/\∀z∈b,(Zy .i64 z).wf=true:=by
 obtain⟨A,n,c,rfl⟩:=okWide_slice i_ e;obtain⟨fuel,h⟩:=h;obtain⟨A',g,c',b,i,j,hw⟩:=Iu h f;obtain⟨rfl,rfl,rfl⟩:A=A'/\n=g/\c=c':=by simpa[Value.cells] using i
 exact⟨A,n,c,b,rfl,j,hw⟩
end
end
section
open Go.ChangeShapes Go.WideShapes Go.ChangeAt Go.RowKit
def Ey:List Nat:=[
 104,97,114,110,101,115,115,32,56,100,54,48,101,55,98,56,49,55,55,56,98,53,101,101,100,49,51,57,55,99,51,53,57,51,51,98,51,100,52,53,
 50,98,50,55,56,51,97,102,99,97,57,51,55,97,100,49,56,54,49,98,51,102,53,100,57,50,49,100,52,55,98,54,32,99,117,116,32,97,116,32,
 99,104,97,108,107,108,105,110,101,47,99,104,97,108,107,108,105,110,101,108,97,119,50,55,46,67,111,114,101,69,114,114,111,114,83,112,101,99,32,99,
 104,97,108,107,108,105,110,101,47,99,104,97,108,107,108,105,110,101,108,97,119,50,55,46,67,111,114,101,76,101,97,115,116,77,105,110,105,109,97,108,
 32,99,104,97,108,107,108,105,110,101,47,99,104,97,108,107,108,105,110,101,108,97,119,50,55,46,67,111,114,101,71,114,111,119,77,97,120,105,109,97,
 108,32,99,104,97,108,107,108,105,110,101,47,99,104,97,108,107,108,105,110,101,108,97,119,50,55,46,67,111,114,101,68,101,99,105,100,101,115,32,99,
 104,97,108,107,108,105,110,101,47,99,104,97,108,107,108,105,110,101,108,97,119,50,55,46,67,111,114,101,65,103,114,101,101,115,87,105,116,104,83,111,
 108,118,101,114,32,99,104,97,108,107,108,105,110,101,47,99,104,97,108,107,108,105,110,101,108,97,119,50,55,46,67,111,114,101,73,100,101,109,112,111,
 116,101,110,116,32,99,104,97,108,107,108,105,110,101,47,99,104,97,108,107,108,105,110,101,108,97,119,50,55,46,67,111,114,101,67,111,114,114,101,99,
 116,105,111,110,83,101,116,32,99,104,97,108,107,108,105,110,101,47,99,104,97,108,107,108,105,110,101,108,97,119,50,53,46,83,111,108,118,101,114,66,
 97,115,105,99,115,83,112,101,99,32,99,104,97,108,107,108,105,110,101,47,99,104,97,108,107,108,105,110,101,108,97,119,50,53,46,83,111,108,118,101,
 114,83,111,108,118,101,69,114,114,111,114,115,32,99,104,97,108,107,108,105,110,101,47,99,104,97,108,107,108,105,110,101,108,97,119,50,53,46,83,111,
 108,118,101,114,65,110,115,119,101,114,67,111,114,114,101,99,116,32,99,104,97,108,107,108,105,110,101,47,99,104,97,108,107,108,105,110,101,108,97,119,
 50,53,46,83,111,108,118,101,114,83,116,97,116,101,80,114,101,115,101,114,118,101,100,32,99,104,97,108,107,108,105,110,101,47,99,104,97,108,107,108,
 105,110,101,108,97,119,50,53,46,83,111,108,118,101,114,65,110,115,119,101,114,83,116,97,98,108,101,32,99,104,97,108,107,108,105,110,101,47,99,104,
 97,108,107,108,105,110,101,108,97,119,50,53,46,83,111,108,118,101,114,69,110,117,109,101,114,97,116,101,115,77,111,100,101,108,115,32,99,104,97,108,
 107,108,105,110,101,47,99,104,97,108,107,108,105,110,101,108,97,119,50,53,46,83,111,108,118,101,114,65,100,100,77,111,110,111,116,111,110,101,32,99,
 104,97,108,107,108,105,110,101,47,99,104,97,108,107,108,105,110,101,108,97,119,50,53,46,83,111,108,118,101,114,71,114,111,119,80,114,101,115,101,114,
 118,101,115,32,99,104,97,108,107,108,105,110,101,47,99,104,97,108,107,108,105,110,101,108,97,119,50,56,46,72,105,116,83,112,101,99,32,99,104,97,
 108,107,108,105,110,101,47,99,104,97,108,107,108,105,110,101,108,97,119,50,56,46,72,105,116,77,105,110,105,109,97,108,32,99,104,97,108,107,108,105,
 110,101,47,99,104,97,108,107,108,105,110,101,108,97,119,50,56,46,72,105,116,73,110,118,111,108,117,116,105,111,110,32,99,104,97,108,107,108,105,110,
 101,47,99,104,97,108,107,108,105,110,101,108,97,119,50,56,46,72,105,116,69,110,117,109,101,114,97,116,101,115,32,99,104,97,108,107,108,105,110,101,
 47,99,104,97,108,107,108,105,110,101,108,97,119,50,56,46,72,105,116,68,117,97,108,105,116,121,32,99,104,97,108,107,108,105,110,101,47,99,104,97,
 108,107,108,105,110,101,108,97,119,50,56,46,72,105,116,67,111,114,101,115,77,105,110,105,109,97,108,32,99,104,97,108,107,108,105,110,101,47,99,104,
 97,108,107,108,105,110,101,108,97,119,50,56,46,72,105,116,70,105,120,101,115,77,105,110,105,109,97,108,32,99,104,97,108,107,108,105,110,101,47,99,
 104,97,108,107,108,105,110,101,108,97,119,50,56,46,72,105,116,67,108,97,115,115,105,102,105,101,115,83,117,98,115,101,116,115]
theorem head_eq:z_.initOrder=String.ofList (Ey.map Zt):=by kernel_rfl
theorem Iv:z_.initOrder.toList=Ey.map Zt:=by rw[head_eq];exact String.toList_ofList
def Iw:List (List Nat):=[
 [99,117,116],
 [97,116],
 [99,104,97,108,107,108,105,110,101,47,99,104,97,108,107,108,105,110,101,108,97,119,50,55,46,67,111,114,101,69,114,114,111,114,83,112,101,99],
 [99,104,97,108,107,108,105,110,101,47,99,104,97,108,107,108,105,110,101,108,97,119,50,55,46,67,111,114,101,76,101,97,115,116,77,105,110,105,109,97,108],
 [99,104,97,108,107,108,105,110,101,47,99,104,97,108,107,108,105,110,101,108,97,119,50,55,46,67,111,114,101,71,114,111,119,77,97,120,105,109,97,108],
 [99,104,97,108,107,108,105,110,101,47,99,104,97,108,107,108,105,110,101,108,97,119,50,55,46,67,111,114,101,68,101,99,105,100,101,115],
 [99,104,97,108,107,108,105,110,101,47,99,104,97,108,107,108,105,110,101,108,97,119,50,55,46,67,111,114,101,65,103,114,101,101,115,87,105,116,104,83,111,108,118,101,114],
 [99,104,97,108,107,108,105,110,101,47,99,104,97,108,107,108,105,110,101,108,97,119,50,55,46,67,111,114,101,73,100,101,109,112,111,116,101,110,116],
 [99,104,97,108,107,108,105,110,101,47,99,104,97,108,107,108,105,110,101,108,97,119,50,55,46,67,111,114,101,67,111,114,114,101,99,116,105,111,110,83,101,116],
 [99,104,97,108,107,108,105,110,101,47,99,104,97,108,107,108,105,110,101,108,97,119,50,53,46,83,111,108,118,101,114,66,97,115,105,99,115,83,112,101,99],
 [99,104,97,108,107,108,105,110,101,47,99,104,97,108,107,108,105,110,101,108,97,119,50,53,46,83,111,108,118,101,114,83,111,108,118,101,69,114,114,111,114,115],
 [99,104,97,108,107,108,105,110,101,47,99,104,97,108,107,108,105,110,101,108,97,119,50,53,46,83,111,108,118,101,114,65,110,115,119,101,114,67,111,114,114,101,99,116],
 [99,104,97,108,107,108,105,110,101,47,99,104,97,108,107,108,105,110,101,108,97,119,50,53,46,83,111,108,118,101,114,83,116,97,116,101,80,114,101,115,101,114,118,101,100],
 [99,104,97,108,107,108,105,110,101,47,99,104,97,108,107,108,105,110,101,108,97,119,50,53,46,83,111,108,118,101,114,65,110,115,119,101,114,83,116,97,98,108,101],
 [99,104,97,108,107,108,105,110,101,47,99,104,97,108,107,108,105,110,101,108,97,119,50,53,46,83,111,108,118,101,114,69,110,117,109,101,114,97,116,101,115,77,111,100,101,108,115],
 [99,104,97,108,107,108,105,110,101,47,99,104,97,108,107,108,105,110,101,108,97,119,50,53,46,83,111,108,118,101,114,65,100,100,77,111,110,111,116,111,110,101],
 [99,104,97,108,107,108,105,110,101,47,99,104,97,108,107,108,105,110,101,108,97,119,50,53,46,83,111,108,118,101,114,71,114,111,119,80,114,101,115,101,114,118,101,115],
 [99,104,97,108,107,108,105,110,101,47,99,104,97,108,107,108,105,110,101,108,97,119,50,56,46,72,105,116,83,112,101,99],
 [99,104,97,108,107,108,105,110,101,47,99,104,97,108,107,108,105,110,101,108,97,119,50,56,46,72,105,116,77,105,110,105,109,97,108],
 [99,104,97,108,107,108,105,110,101,47,99,104,97,108,107,108,105,110,101,108,97,119,50,56,46,72,105,116,73,110,118,111,108,117,116,105,111,110],
 [99,104,97,108,107,108,105,110,101,47,99,104,97,108,107,108,105,110,101,108,97,119,50,56,46,72,105,116,69,110,117,109,101,114,97,116,101,115],
 [99,104,97,108,107,108,105,110,101,47,99,104,97,108,107,108,105,110,101,108,97,119,50,56,46,72,105,116,68,117,97,108,105,116,121],
 [99,104,97,108,107,108,105,110,101,47,99,104,97,108,107,108,105,110,101,108,97,119,50,56,46,72,105,116,67,111,114,101,115,77,105,110,105,109,97,108],
 [99,104,97,108,107,108,105,110,101,47,99,104,97,108,107,108,105,110,101,108,97,119,50,56,46,72,105,116,70,105,120,101,115,77,105,110,105,109,97,108],
 [99,104,97,108,107,108,105,110,101,47,99,104,97,108,107,108,105,110,101,108,97,119,50,56,46,72,105,116,67,108,97,115,115,105,102,105,101,115,83,117,98,115,101,116,115]]
theorem Iy:behindMainWord (wordsSigns (Ey.map Zt))=Iw.map (·.map Zt):=by kernel_rfl
theorem OS:z_.headLifts=[]:=by
 unfold Program.headLifts;rw[Iv,Iy];kernel_rfl
theorem OT (h : behindMainWord (wordsSigns P.initOrder.toList) = "cut".toList :: rest) : P.make = some .cut := by
 unfold Program.make;rw[h];rfl
theorem OU (h : behindMainWord (wordsSigns P.initOrder.toList) = "cut".toList :: rest) (b : P.headLifts = []) : P.liftsFinal = false := by
 unfold Program.liftsFinal;rw[h,b];rfl
theorem Ez : behindMainWord (wordsSigns Tryz.prog.initOrder.toList) = "cut".toList :: (Iw.tail.map (·.map Char.ofNat)) := by
 rw[Iv,Iy];kernel_rfl
theorem OV (rest : List (List Char)) : stripLifts liftWords ("cut".toList :: rest) = ([], "cut".toList :: rest) := by kernel_rfl
theorem OW (h : behindMainWord (wordsSigns P.initOrder.toList) = "cut".toList :: rest) (h1 : P.laysLater = false) (b : P.bearsReflect = false) (c : P.doorFits [] = true) : P.mayEnter = true := by
 unfold Program.mayEnter;rw[h];simp only[OV,h1,b,c];rfl
theorem OX:z_.laysLater=false:=by kernel_rfl
theorem OY:z_.bearsReflect=false:=by kernel_rfl
theorem OZ:z_.doorFits []=true:=by kernel_rfl
theorem EA:z_.mayEnter=true:=OW Ez OX OY OZ
theorem made:z_.make=some .cut:=OT Ez
theorem EB:z_.liftsFinal=false:=OU Ez OS
end
section
open Go.RowKit
theorem O0(h:∀k,k<2^n->(qN (nX n k) l&&tE n ls (nX n k))=false):oK n ls l=false:=by
 unfold oK;rw[List.any_eq_false];intro k hk;rw[h k (Zx.1 hk)];simp
theorem O1(hk:k<2^n)(h:(qN (nX n k) l&&tE n ls (nX n k))=true):oK n ls l=true:=by
 unfold oK;rw[List.any_eq_true];exact⟨k,Zx.2 hk,h⟩
section
variable {n:Nat}{ls:List (List Int)}(aC:lS n ls=0)
include aC
theorem AU{l:List Int}(hl:∀x∈l,gP n x)(h:Can ls l):oK n ls l=true:=(Ej aC hl).2 h
theorem zC{l:List Int}(hl:∀x∈l,gP n x)(h:¬Can ls l):oK n ls l=false:=by
 cases e:oK n ls l with
 |false=>rfl
 |true=>exact absurd ((Ej aC hl).1 e) h
end
theorem sub_lt{ah:List Int}(h:l.Sublist ah)(hl:∀x∈ah,gP n x):∀x∈l,gP n x:=λ x b=>hl x (h.subset b)
theorem O2{x:Int}(hm:m.length=n+1)(c:gP n x):qN m [x]=kr m x:=by
 have:=Ei (a:=m) (l:=[x]) hm (λ y b=>by rw[v_.1 b];exact c)
 cases e:kr m x with
 |true=>exact this.2 (λ y b=>by rw[v_.1 b];exact e)
 |false=>
  cases d:qN m [x] with
  |false=>rfl
  |true=>have:=this.1 d x (by simp);rw[e] at this;cases this
def rU(m:List Bool)(l:List Int):List Int:=l.filter λ x=>qN m [x]
def sk(m:List Bool)(l:List Int):List Int:=l.filter λ x=> !(qN m [x])
theorem Iz(hm:m.length=n+1)(hl:∀x∈l,gP n x):rU m l=l.filter (kr m):=List.filter_congr λ x b=>O2 hm (hl x b)
end
section
open Go.RowKit
theorem O3(x:Int)(A:Option Addr)(n c:Nat)(d:List Bool)(w:World)(h:kN w A n c d):
  Calls z_ 117 #[.int .i64 x,.slice A n c] w λ e w'=>e=.returned (.bool (su d x))/\w=w':=by
 have hl:=h.len
 cases f:l5 x 65536
 ·rw[JA f];have g:=U f;clear f h hl;go_enter Tryz.func117,Tryz.ntmps117
  go_wp2_with (go_at_call 115;refine(xQ false x 65536 w (by omega) (by omega) g.o).mono ?_;rintro e w' ⟨rfl,rfl⟩)
  go_ret;exact⟨rfl,rfl⟩
 ·rw[Fs f];have q:=vO.1 f;have g:=U f;obtain⟨k,hk⟩:∃k,x.natAbs=k:=⟨_,rfl⟩
  rw[hk];clear f;have B:=h.mG;rcases(show x=(k:Int)/\0<k\/x= -(k:Int)/\0<k by omega) with⟨rfl,r⟩|⟨rfl,r⟩
  ·have hp:(0:Int)<(k:Int):=by omega
   have m:decide ((0:Int)<(k:Int))=true:=decide_eq_true hp;have s:wrap64 (-(k:Int))= -(k:Int):=by unfold wrap64;omega
   have C: -(k:Int)<(k:Int):=(by omega);have t:max (k:Int) (-(k:Int))=(k:Int):=(by omega);have u:max (-(k:Int)) (k:Int)=(k:Int):=(by omega)
   have y:¬(k:Int)< -(k:Int):=by omega
   rw[m];clear hk q
   by_cases i:k<n
   ·obtain⟨b,off,rfl,z,j⟩:=h.cells (by omega);have l:=j k i;have e:d.getD k false=vP d k:=rfl;rw[e] at l;generalize vP d k=v at l⊢;have p:(k:Int)<(n:Int):=by omega
    clear j h hl e
    cases v
    all_goals
     go_enter Tryz.func117,Tryz.ntmps117
     go_wp2_with (go_at_call 115;refine(xQ true _ 65536 w (by omega) (by omega) g.o).mono ?_;rintro e w' ⟨rfl,rfl⟩)
     go_ret;exact⟨rfl,rfl⟩
   ·rw[Ft hl i];have p:¬(k:Int)<(n:Int):=by omega
    clear h hl;go_enter Tryz.func117,Tryz.ntmps117
    go_wp2_with (go_at_call 115;refine(xQ true _ 65536 w (by omega) (by omega) g.o).mono ?_;rintro e w' ⟨rfl,rfl⟩)
    go_ret;exact⟨rfl,rfl⟩
  ·have hp:¬(0:Int)< -(k:Int):=by omega
   have m:decide ((0:Int)< -(k:Int))=false:=decide_eq_false hp;have s:wrap64 (k:Int)=(k:Int):=by unfold wrap64;omega
   have y:¬(k:Int)< -(k:Int):=(by omega);have t:max (k:Int) (-(k:Int))=(k:Int):=(by omega);have u:max (-(k:Int)) (k:Int)=(k:Int):=(by omega)
   have D: -(k:Int)<(k:Int):=by omega
   rw[m];clear hk q
   by_cases i:k<n
   ·obtain⟨b,off,rfl,z,j⟩:=h.cells (by omega);have l:=j k i;have e:d.getD k false=vP d k:=rfl;rw[e] at l;generalize vP d k=v at l⊢;have p:(k:Int)<(n:Int):=by omega
    clear j h hl e
    cases v
    all_goals
     go_enter Tryz.func117,Tryz.ntmps117
     go_wp2_with (go_at_call 115;refine(xQ true _ 65536 w (by omega) (by omega) g.o).mono ?_;rintro e w' ⟨rfl,rfl⟩)
     go_ret;exact⟨rfl,rfl⟩
   ·rw[Ft hl i];have p:¬(k:Int)<(n:Int):=by omega
    clear h hl;go_enter Tryz.func117,Tryz.ntmps117
    go_wp2_with (go_at_call 115;refine(xQ true _ 65536 w (by omega) (by omega) g.o).mono ?_;rintro e w' ⟨rfl,rfl⟩)
    go_ret;exact⟨rfl,rfl⟩
theorem IA(r:Bool)(x:Int)(A:Option Addr)(n c:Nat)(b:List Bool)(w:World)(h:kN w A n c b)(d:su b x=r):
  Calls z_ 117 #[.int .i64 x,.slice A n c] w λ e w'=>e=.returned (.bool r)/\w=w':=by
 rw[<-d];exact O3 x A n c b w h
theorem O4(A:Option Addr)(n c:Nat)(f:List Int)(A':Option Addr)(j c':Nat)(d:List Bool)(w:World)(h:aP w A n c f)(h':kN w A' j c' d):
  Calls z_ 116 #[.slice A n c,.slice A' j c'] w λ e w'=>e=.returned (.bool (wK d f))/\w=w':=by
 have t:=h.small;have H:=U h;have p:=U h';clear h h';go_enter Tryz.func116,Tryz.ntmps116
 go_wp2
 go_loop [5] (λ i=>∃k:Nat,k<=n/\i=.int .i64 k/\(f.take k).any (su d)=false) (λ i=>n-(intOf i).toNat)
 case atStart=>exact⟨0,m_ _,rfl,rfl⟩
 case round=>
  obtain⟨k,hk,rfl,q⟩:=hrel;have r:=U q;clear q
  by_cases m:k<n
  ·obtain⟨b,off,rfl,u,s⟩:=H.o.cells (by omega);have v:=s k m;clear s;have hl:k<f.length:=by rw[H.o.len];exact m
   cases l:su d (jP f k)
   ·have g:=U l;clear l
    go_wp2_with (go_at_call 117;refine(IA false _ A' j c' d _ p.o g.o).mono ?_;rintro e w' ⟨rfl,rfl⟩)
    go_round
    case rel=>exact⟨k+1,by omega,by go_num,Fh hl g.o r.o⟩
    case measure=>simp[intOf];omega
   ·have g:=U l;clear l
    go_wp2_with (go_at_call 117;refine(IA true _ A' j c' d _ p.o g.o).mono ?_;rintro e w' ⟨rfl,rfl⟩)
    go_ret;exact⟨nC (Fg hl g.o).symm,rfl⟩
  ·go_wp2;go_ret;exact⟨nC (Fi H.o.len m r.o).symm,rfl⟩
theorem IB(r:Bool)(A:Option Addr)(n c:Nat)(b:List Int)(A':Option Addr)(d c':Nat)(f:List Bool)(w:World)(h:aP w A n c b)(h':kN w A' d c' f)(g:wK f b=r):
  Calls z_ 116 #[.slice A n c,.slice A' d c'] w λ e w'=>e=.returned (.bool r)/\w=w':=by
 rw[<-g];exact O4 A n c b A' d c' f w h h'
theorem O5(h:k<ls.length)(e:p (om ls k)=false):ls.all p=false:=by
 rw[ud h] at e;rw[List.all_eq_false];exact⟨_,List.getElem_mem h,by simp[e]⟩
theorem O6(h:k<ls.length)(e:p (om ls k)=true)(b:(ls.take k).all p=true):(ls.take (k+1)).all p=true:=by
 rw[CU ls k h,List.all_append,b];simp[e]
theorem O7(hl:ls.length=n)(h:¬k<n)(b:(ls.take k).all p=true):ls.all p=true:=by
 rw[Zz (by omega)] at b;exact b
theorem IC(x:Int)(A:Option Addr)(n c:Nat)(ls:List (List Int))(A':Option Addr)(m c':Nat)(d:List Bool)(w:World)(h:kE w A n c ls)(h':kN w A' m c' d):
  Calls z_ 96 #[.agg #[.int .i64 x,.slice A n c],.slice A' m c'] w λ e w'=>e=.returned (.bool (tE x ls d))/\Below w.heap.size w w':=by
 have M:=h.small;have g:Below w.heap.size w (w.alloc (.cells #[.int .i64 x,.slice A n c] 24)):=(Below.refl _ _).alloc (r_ _) _;have p:=qm.new w x A n c;obtain⟨u,v⟩:∃e,lS x ls=e:=⟨_,rfl⟩
 have q:=U v;go_enter Tryz.func96,Tryz.ntmps96
 go_wp2;generalize K:w.alloc (.cells #[.int .i64 x,.slice A n c] 24)=W at g p⊢;have H:=U (h.below g);have y:=U (h'.below g);have j:=U g;have N:=p.aY;have O:=p.c1;clear K p g h h' v
 go_loop [5] (λ i=>∃k:Nat,k<=n/\i=.int .i64 k/\(ls.take k).all (wK d)=true) (λ i=>n-(intOf i).toNat)
 case atStart=>exact⟨0,m_ _,rfl,rfl⟩
 case round=>
  obtain⟨k,hk,rfl,z⟩:=hrel;have B:=U z;clear z
  by_cases s:k<n
  ·obtain⟨b,off,rfl,f,C⟩:=H.o.cells (by omega);obtain⟨a1,D,c1,P,E⟩:=C k s;clear C;have F:=U E;clear E;have hl:k<ls.length:=by rw[H.o.len];exact s
   cases r:wK d (om ls k)
   ·have l:=U r;clear r
    go_wp2_with (go_at_call 116;refine(IB false a1 D c1 _ A' m c' d _ F.o y.o l.o).mono ?_;rintro e w' ⟨rfl,rfl⟩)
    go_ret;exact⟨nC (by unfold tE;rw[O5 hl l.o,Bool.and_false]),j.o⟩
   ·have l:=U r;clear r
    go_wp2_with (go_at_call 116;refine(IB true a1 D c1 _ A' m c' d _ F.o y.o l.o).mono ?_;rintro e w' ⟨rfl,rfl⟩)
    go_round
    case rel=>exact⟨k+1,by omega,by go_num,O6 hl l.o B.o⟩
    case measure=>simp[intOf];omega
  ·have G:=O7 H.o.len s B.o;have I:=U G;clear G
   by_cases J:u=0
   ·subst J
    go_wp2_with (go_at_call 88;refine(Fe x A n c ls _ H.o).mono ?_;rintro e w' ⟨rfl,f⟩;rw[q.o];have t:=U f;clear f)
    go_ret;exact⟨nC (by unfold tE;rw[I.o,q.o];rfl),j.o.trans (t.o.mono j.o.size)⟩
   ·have L:(u==0)=false:=by simpa using J
    go_wp2_with (go_at_call 88;refine(Fe x A n c ls _ H.o).mono ?_;rintro e w' ⟨rfl,f⟩;rw[q.o];have t:=U f;clear f)
    go_ret;exact⟨nC (by unfold tE;rw[I.o,q.o];simp[L]),j.o.trans (t.o.mono j.o.size)⟩
def sQ(n k j:Nat):List Bool:=(List.range (n+1)).map λ v=>decide (1<=v)&&decide (v<=j)&&vf k (v-1)
theorem EC(n k j:Nat):(sQ n k j).length=n+1:=by simp[sQ]
theorem AV(n k j v:Nat)(h:v<(sQ n k j).length):(sQ n k j)[v]=(decide (1<=v)&&decide (v<=j)&&vf k (v-1)):=by simp[sQ]
theorem O8(n k v:Nat)(h:v+1<(nX n k).length):(nX n k)[v+1]=vf k v:=by simp[nX]
theorem O9(n k:Nat):sQ n k 0=List.replicate (n+1) false:=by
 refine d_ (by simp[sQ]) λ v h1 b=>?_
 rw[AV,List.getElem_replicate]
 by_cases h:1<=v
 ·rw[decide_eq_false (show¬v<=0 by omega)];simp
 ·rw[decide_eq_false h];simp
theorem Pa(n k j:Nat)(b:j<n):(sQ n k j).set (j+1) (vf k j)=sQ n k (j+1):=by
 refine d_ (by simp[sQ]) λ v h1 c=>?_
 rw[List.getElem_set,AV];split
 ·rename_i e;subst e;rw[AV,decide_eq_true (show 1<=j+1 by omega),decide_eq_true (show j+1<=j+1 by omega)];rfl
 ·rename_i e;rw[AV]
  by_cases h:v<=j
  ·rw[decide_eq_true h,decide_eq_true (show v<=j+1 by omega)]
  ·rw[decide_eq_false h,decide_eq_false (show¬v<=j+1 by omega)]
theorem Pb(n k:Nat):sQ n k n=nX n k:=by
 refine d_ (by simp[sQ,nX]) λ v h1 b=>?_
 rw[AV];rw[EC] at h1
 cases v with
 |zero=>simp[nX]
 |succ v=>
  rw[O8,decide_eq_true (show 1<=v+1 by omega),decide_eq_true (show v+1<=n by omega)];rfl
theorem Pc(k j:Nat):vf k j=decide (((k/2^j:Nat):Int)%2=1):=by
 unfold vf;rw[decide_eq_decide];omega
theorem Pd(n k:Nat)(w:World)(F:n<=60000)(hk:k<4611686018427387904):
  Calls z_ 94 #[.int .i64 n,.int .i64 k] w λ e w'=>∃A c,e=.returned (.slice A (n+1) c)/\kN w' A (n+1) c (nX n k)/\Below w.heap.size w w':=by
 obtain⟨i0,f,g,i,l⟩:=info_parts AF;have G:∀W:World,(Instr.makeSlice 28 (.int .i64 ((n:Int)+1)) (.int .i64 ((n:Int)+1))).run z_ W=.ok (.slice (some ⟨W.heap.size,0,none⟩) (n+1) (n+1)) (W.alloc (.cells (madeCells #[f_ false] (n+1)) 4)):=λ W=>by
  have:=run_make (P:=z_) W 28 4 i0 (.bool false) Tryz.underlying28 f g .i64 .i64 ((n:Int)+1) ((n:Int)+1) (by omega) (by omega) (by rw[l];omega) (by omega);rw[i,show((n:Int)+1).toNat=n+1 by omega,Nat.mul_one] at this;exact this
 have wn:IntKind.i64.wrap ((n:Int)+1)=(n:Int)+1:=by rw[IntKind.wrap_i64];omega
 clear f g i l;have m:(w.alloc (.cells (madeCells #[f_ false] (n+1)) 4)).ownsRow w.heap.size 4 1 (.slice (some ⟨w.heap.size,0,none⟩) (n+1) (n+1)) (n+1) ((sQ n k 0).map f_):=by
  refine⟨by simp[EC],.inr ⟨_,_,_,rfl,r_ _,heap_alloc_new _ _,r_ _,by unfold maxLen;omega,by rw[size_madeCells];simp,?_⟩⟩;rw[toList_madeCells_one,Zz (by simp),O9,List.map_replicate]
 have p:=bC w (.cells (madeCells #[f_ false] (n+1)) 4);have y:=U m;have z:=U p;clear m p;go_enter Tryz.func94,Tryz.ntmps94
 go_wp2
 go_loopw [1,6] (λ q v W=>∃j:Nat,j<=n/\v=.int .i64 ((j:Int)+1)/\q=.int .i64 ((k/2^j:Nat):Int)/\W.ownsRow w.heap.size 4 1 (.slice (some ⟨w.heap.size,0,none⟩) (n+1) (n+1)) (n+1) ((sQ n k j).map f_)/\Below w.heap.size w W) (λ _ v _=>n+1-(intOf v).toNat)
 case atStart=>exact⟨0,m_ _,rfl,by simp,y.o,z.o⟩
 case round=>
  obtain⟨j,H,rfl,rfl,b,d⟩:=hrel;have r:=U b;have s:=U d;have I:=(b.lt w.heap.size rfl).2;have B:k/2^j<=k:=Nat.div_le_self _ _;have t:k/2^(j+1)=k/2^j/2:=by rw[Nat.pow_succ,Nat.div_div_eq_div_mul]
  have u:=Pc k j;obtain⟨q,C⟩:∃q,k/2^j=q:=⟨_,rfl⟩
  rw[C] at u t B⊢
  by_cases D:j<n
  ·have E:(j:Int)+1<=(n:Int):=by omega
   have J:(j:Int)+1<(n:Int)+1:=by omega
   have cl:wr.cell? ⟨w.heap.size,j+1,none⟩=some (.bool (iY (sQ n k j) (j+1))):=by
    have:=b.cellAt (j:=j+1) (by omega);rw[this,List.getElem?_map];unfold iY;rw[u_,n_ (by rw[EC];omega)];rfl
   have K:wr.frozen? ⟨w.heap.size,j+1,none⟩=false:=b.frozenAt (j+1);clear b d;go_wp2;refine⟨⟨j+1,by omega,by go_num,by rw[t];go_num,?_,s.o.setCell (r_ _) _⟩,by simp[intOf];omega⟩;have h1:=Fq (k:=j+1) r.o (.bool ((q:Int)%2==1));rw[<-Pa n k j D,u,List.map_set];exact h1
  ·obtain rfl:j=n:=by omega
   have E:¬(j:Int)+1<=(j:Int):=by omega
   clear b d;go_wp2;go_ret;refine⟨_,_,rfl,?_,s.o⟩;rw[<-Pb];exact kN.kZ r.o (by omega)
end
section
open Go.RowKit Go.Shelf
def Plain(A:Option Addr):Prop:=A=none\/∃b off,A=some ⟨b,off,none⟩
def CE(w:World)(e:TypeId)(size:Nat)(k:Nat)(ys:List Value)(v':Value)(w':World):Prop:=w'.ownsRow w.heap.size e size v' k ys/\Below w.heap.size w w'
theorem CF(g:w.grownBy w' none):Below w.heap.size w w':=⟨g.os,g.tape,g.output,g.size,λ k hk=>g.block k hk (by simp)⟩
theorem Pe(w:World)(ty:TypeId){A:Option Addr}{jN c:Nat}{rs:List Row}(i:oy w A jN c rs)(q:Plain A)(f c1:Nat)(r:Row)(g:w.cell? ⟨f,0,none⟩=some (k3 r))(D:jN<=1000000)(s:A=none->jN=0):
  ∃v' w',(Builtin.append_ #[22,22] ty #[.slice A jN jN,.slice (some ⟨f,0,none⟩) 1 c1]).run z_ w=.ok v' w'/\CE w 25 1 (jN+1) ((rs++[r]).map k3) v' w':=by
 obtain⟨i0,k,l,m,n⟩:=info_parts Fj;have o:∀j u,([k3 r]:List Value)[j]? =some u->w.cell? ((⟨f,0,none⟩:Addr).add j)=some u:=by
  intro j u d;have t:j<1:=(s_.1 d).1;obtain rfl:j=0:=by omega
  rw[c_,Zp];simp only[y_,h_] at d;subst d;exact g
 have v:∀u∈([k3 r]:List Value),u.oneCell'=true:=by
  intro u hu;rw[v_.1 hu];rfl
 have p:=i.len;have y:(rs++[r]).map k3=rs.map k3++[k3 r]:=by simp
 rw[y];rcases q with rfl|⟨b,off,rfl⟩
 ·have g:=s rfl;subst g;have:rs=[]:=q_ p;subst this;obtain⟨v',w',g1,g2,g3,_,g5⟩:=run_append_own_at (P:=z_) w w.heap.size 22 ty 25 i0 (.slice none 0 0) 1 24 p_ k l m n rfl (by decide) (.slice none 0 0) 0 [] (g_ _ _ _ _) ⟨f,0,none⟩ 1 c1 [k3 r] rfl o v (by unfold maxLen;omega) (by omega) (r_ _);exact⟨v',w',g1,g2,CF g3⟩
 ·obtain⟨v',w',g1,g2,g3⟩:=run_append_arg_grows (P:=z_) w 22 ty 25 i0 (.slice none 0 0) 1 24 p_ k l m n rfl (by decide) ⟨b,off,none⟩ jN jN (rs.map k3) (by rw[a_,p];omega) (λ j u d=>by
   rw[c_];have t:j<jN:=by have:=(s_.1 d).1;rw[a_] at this;omega
   obtain⟨E,F,e,_,z⟩:=i.cells (by omega);injection e with e
   injection e with B C
   subst B C;exact z j u d) ⟨f,0,none⟩ 1 c1 [k3 r] rfl o (by omega) (by unfold maxLen;omega) (by omega)
  exact⟨v',w',g1,g2,CF g3⟩
theorem Pf(w:World)(ty:TypeId){A:Option Addr}{bK c:Nat}{es:List nH}(i:oJ w A bK c es)(s:Plain A)(f c1:Nat)(r:nH)(g:w.cell? ⟨f,0,none⟩=some (.int .i64 r.lQ))(h1:w.cell? ⟨f,1,none⟩=some (k3 r.r))(D:bK<=1099511627776)(t:A=none->bK=0):
  ∃v' w',(Builtin.append_ #[45,45] ty #[.slice A bK bK,.slice (some ⟨f,0,none⟩) 1 c1]).run z_ w=.ok v' w'/\CE w 126 2 (bK+1) (mX (es++[r])) v' w':=by
 obtain⟨i0,k,l,m,n⟩:=info_parts Ho;have o:∀j u,(rS r)[j]? =some u->w.cell? ((⟨f,0,none⟩:Addr).add j)=some u:=by
  intro j u d;have p:j<2:=(s_.1 d).1;rw[c_,Zp];unfold rS at d;rcases(show j=0\/j=1 by omega) with rfl|rfl
  ·simp only[y_,h_] at d;subst d;exact g
  ·simp only[x_,y_,h_] at d;subst d;exact h1
 have v:∀u∈rS r,u.oneCell'=true:=by
  intro u hu;unfold rS at hu;simp only[Zr,List.not_mem_nil,or_false] at hu;rcases hu with rfl|rfl<;>rfl
 have q:=i.len;have y:mX (es++[r])=mX es++rS r:=by rw[N4];simp[mX]
 rw[y];rcases s with rfl|⟨b,off,rfl⟩
 ·have g:=t rfl;subst g;have:es=[]:=q_ q;subst this;obtain⟨v',w',g1,g2,g3,_,g5⟩:=run_append_own_at (P:=z_) w w.heap.size 45 ty 126 i0 (.agg #[.int .i64 0,.slice none 0 0]) 2 32 Tryz.underlying45 k l m n rfl (by decide) (.slice none 0 0) 0 [] (g_ _ _ _ _) ⟨f,0,none⟩ 1 c1 (rS r) rfl o v (by unfold maxLen;omega) (by omega) (r_ _);exact⟨v',w',g1,g2,CF g3⟩
 ·obtain⟨v',w',g1,g2,g3⟩:=run_append_arg_grows (P:=z_) w 45 ty 126 i0 (.agg #[.int .i64 0,.slice none 0 0]) 2 32 Tryz.underlying45 k l m n rfl (by decide) ⟨b,off,none⟩ bK bK (mX es) (by rw[yx,q]) (λ j u d=>by
   rw[c_];have p:j<bK*2:=by have:=(s_.1 d).1;rw[yx] at this;omega
   obtain⟨E,F,e,_,z⟩:=i.cells (by omega);injection e with e
   injection e with B C
   subst B C;exact(z j p).trans d) ⟨f,0,none⟩ 1 c1 (rS r) rfl o (by omega) (by unfold maxLen;omega) (by omega)
  exact⟨v',w',g1,g2,CF g3⟩
theorem Pg{rest:List Oper}(d:o.guard=none)(s x:Operand)
  (e:o.op=.call {callee:=.builtin .append,args:= #[s,x],argTypes:= #[22,22]}) {A:Option Addr} {jN c:Nat} {rs:List Row} (f:oy w A jN c rs) (g:Plain A) (b c1:Nat) (r:Row) (hs:a.eval s=.slice A jN jN) (i:a.eval x=.slice (some ⟨b,0,none⟩) 1 c1) (j:w.cell? ⟨b,0,none⟩=some (k3 r)) (k:jN<=1000000) (l:A=none->jN=0)
  (h:∀v' w',CE w 25 1 (jN+1) ((rs++[r]).map k3) v' w'->wpList z_ ops Q rest (a.put o.dst v') w'):
  wpList z_ ops Q (o::rest) a w:=by
 obtain⟨v',w',h1,m⟩:=Pe w o.type f g b c1 r j k l;refine wpList_plain d λ K n=>?_
 unfold Oper.wp;simp only[execOp,e,resolve,invoke,builtin,Sem.run_bind,Sem.run_pure,Result.andThen_ok,List.map_toArray,List.map_cons,List.map_nil,hs,i,h1];exact n _ _ (h v' w' m)
theorem Ph{rest:List Oper}(d:o.guard=none)(s x:Operand)
  (e:o.op=.call {callee:=.builtin .append,args:= #[s,x],argTypes:= #[45,45]}) {A:Option Addr} {bK c:Nat} {es:List nH} (f:oJ w A bK c es) (g:Plain A) (b c1:Nat) (r:nH) (hs:a.eval s=.slice A bK bK) (i:a.eval x=.slice (some ⟨b,0,none⟩) 1 c1) (j:w.cell? ⟨b,0,none⟩=some (.int .i64 r.lQ)) (k:w.cell? ⟨b,1,none⟩=some (k3 r.r)) (l:bK<=1099511627776) (m:A=none->bK=0)
  (h:∀v' w',CE w 126 2 (bK+1) (mX (es++[r])) v' w'->wpList z_ ops Q rest (a.put o.dst v') w'):
  wpList z_ ops Q (o::rest) a w:=by
 obtain⟨v',w',h1,n⟩:=Pf w o.type f g b c1 r j k l m;refine wpList_plain d λ K p=>?_
 unfold Oper.wp;simp only[execOp,e,resolve,invoke,builtin,Sem.run_bind,Sem.run_pure,Result.andThen_ok,List.map_toArray,List.map_cons,List.map_nil,hs,i,h1];exact p _ _ (h v' w' n)
structure vJ(w W:World)(L M:List Value):Prop where
 de:aR W w.heap.size 47 L
 aZ:aR W (w.heap.size+1) 47 M
 jU:Below w.heap.size w W
theorem vJ.init(w:World)(L M:List Value):vJ w ((w.alloc (.cells L.toArray 47)).alloc (.cells M.toArray 47)) L M:=by
 have c:aR (w.alloc (.cells L.toArray 47)) w.heap.size 47 L:=aR.new w 47 L;have d:=bC w (.cells L.toArray 47);have z0:(w.alloc (.cells L.toArray 47)).heap.size=w.heap.size+1:=by simp
 generalize w.alloc (.cells L.toArray 47)=w1 at*;have h1:aR (w1.alloc (.cells M.toArray 47)) w1.heap.size 47 M:=aR.new w1 47 M;have b:=bC w1 (.cells M.toArray 47);rw[z0] at h1;exact⟨c.below b,h1,d.trans (b.mono (by omega))⟩
theorem vJ.below{w W W':World}{L M:List Value}(h:vJ w W L M)(b:Below W.heap.size W W'):vJ w W' L M:=⟨h.de.below b,h.aZ.below b,h.jU.trans (b.mono h.jU.size)⟩
theorem vJ.ID{L M:List Value}(h:vJ w W L M)(k:Nat)(v:Value):vJ w (W.setCell ⟨w.heap.size,k,none⟩ v) (L.set k v) M:=
 ⟨h.de.set k v,h.aZ.kept (lq W w.heap.size k v) (λ e=>by injection e with e;omega),h.jU.setCell (r_ _) _⟩
def IE(w:World)(n:Nat)(s:lp)(o:Option Addr)(p:Nat)(q:Option Addr)(r:Nat)(d:Option Addr)(cl:Nat)(A:Option Addr)(c:Nat)(A':Option Addr)(c':Nat)(f:Option Addr)(g:Nat)(t:List Int)(e:Ending)(W:World):Prop:=
 ∃(s':lp)(i:Option Addr)(j:Nat)(k:Option Addr)(l:Nat),e=.returned (.tuple #[rT n i s'.gs.length j d s'.es.length cl A (n+1) c A' n c' s'.bz f (n+1) g k s'.aF.length l,.int .i64 0])/\
  rz W s' i j d cl A c A' c' f g k l/\pL n s'/\s'.gs=s.gs++[t]/\s'.es=s.es/\s'.bz=s.bz/\s.aF<+:s'.aF/\s'.aF.length=s.aF.length+1/\Below w.heap.size w W/\zz w W k s'.aF.length l s'.aF/\(i=none->s'.gs.length=0/\j=0)/\
  ∀m:Nat->Prop,(∀b,m b->b<w.heap.size)->(∀W',aG (λ b=>b<w.heap.size/\¬m b) w W'->rz W' s o p d cl A c A' c' f g q r)->vi W m s' i j d cl A c A' c' f g k l
theorem oy.zA{w:World}{D:Nat->Prop}{A:Option Addr}{n c:Nat}{ls:List (List Int)}{rs:List Row}(g:oy w A n c rs)(hs:∀W,aG (λ b=>b<w.heap.size/\¬D b) w W->kE W A n c ls):∀r∈rs,∀b,r.A.map (·.block)=some b->0<r.n->¬D b:=by
 intro r l b e m;have hw:=hs _ (Er w D);obtain⟨j,o,q⟩:=Zv.1 l;have hlen:=g.len;obtain⟨i,s,t,h1,u⟩:=g.cells (by omega);obtain⟨E,F,f,_,v⟩:=hw.cells (by omega);rw[t] at f;injection f with f
 injection f with f y _
 subst f y;obtain⟨A',G,c',d,k⟩:=v j (by omega);have z:¬D i:=λ B=>by rw[Es B] at d;cases d
 rw[(Er w D).cell (p:=⟨i,s+j,none⟩) ⟨h1,z⟩] at d;have C:=u j (k3 r) (by rw[List.getElem?_map,n_ o,q];rfl);rw[C] at d;injection d with d
 injection d with a1 a2 a3
 rw[<-a1,<-a2,<-a3] at k;exact k.zA b e m
theorem oJ.kZ{es:List nH}(h:w.ownsRow base 126 2 (.slice A n c) n (mX es))(d:n*32<=140737488355328)(f:∀e∈es,aP w e.r.A e.r.n e.r.c e.r.ai):oJ w A n c es:=by
 have hl:es.length=n:=by have:=h.1;rw[yx] at this;omega
 rcases h.2 with⟨b,i⟩|⟨g,cap,cur,b,m,o,j,l,p,q⟩
 ·simp only[Zo] at b;obtain⟨rfl,_,rfl⟩:=b;subst i;exact⟨hl,r_ _,d,m_ _,λ h=>absurd h (by omega),f⟩
 ·simp only[Zo] at b;obtain⟨rfl,_,rfl⟩:=b;refine⟨hl,j,d,l,λ i=>⟨g,0,rfl,(h.lt g rfl).2,λ k hk=>?_⟩,f⟩;rw[Zp];exact h.cellAt k hk
theorem pL.add(O:pL n s){ai:List Int}(c:∀x∈ai,gP n x)(d:s.gs.length<65536)(r:Row)(i:r.ai=ai):pL n ⟨n,s.gs++[ai],s.es,s.act,s.ord,s.bz,s.ia,s.aF++[⟨1,r⟩]⟩:=by
 refine⟨rfl,by simp;omega,λ g d x b=>?_,O.hk,O.nM,O.o8,O.xI,λ e he M f=>O.H6 e he M ⟨f.1,λ l hl=>f.2 l (t_.2 (.inl hl))⟩,O.Eo,λ p hp=>?_⟩
 ·rcases t_.1 d with h1|h1
  ·exact O.bL g h1 x b
  ·rw[v_.1 h1] at b;exact c x b
 ·rcases t_.1 hp with h1|h1
  ·exact O.Cx p h1
  ·rw[v_.1 h1];exact⟨.inl rfl,by show∀x∈r.ai,_;rw[i];exact c⟩
theorem Pj{w0:World}(d:kE w0 A n c ls)(f:A=none->n=0/\c=0)(w:World)(g:Plain A):Calls z_ 108 #[.slice A n c] w λ e w'=>e=.returned (.slice A n n)/\w'=w:=by
 rcases g with rfl|⟨b,off,rfl⟩
 ·obtain⟨h1,i⟩:=f rfl;subst h1 i;exact NZ w
 ·exact NY b off n c w d.cap
theorem Pk{v4 v5 v6 kg:Value}(n:a.defers=[])(c:a.tmps.getD 4 undef=.pointer (some ⟨aZ,0,none⟩))(d:a.tmps.getD 5 undef=.int .i64 0)
  (b:aR W aZ 47 [v0,v1,v2,v3,v4,v5,v6,kg]) (h:aL (.returned (.tuple #[.agg #[v0,v1,v2,v3,v4,v5,v6,kg],.int .i64 0])) W):bodyPost z_ Tryz.f46 aL .ret a W:=by
 have e:=b.cell 0;have f:=b.cell 1;have g:=b.cell 2;have i:=b.cell 3;have j:=b.cell 4;have k:=b.cell 5;have l:=b.cell 6;have m:=b.cell 7;simp only[y_,x_] at e f g i j k l m;refine bodyPost_ret (v:=.tuple #[.agg #[v0,v1,v2,v3,v4,v5,v6,kg],.int .i64 0]) ?_ n h;rw[o_] at c d;simp[results,Tryz.results46,go_sem,c,d,e,f,g,i,j,k,l,m]
theorem Pm{bw:Option Addr}{aS:Nat}{jc:Option Addr}{cl:Nat}{A':Option Addr}{c':Nat}{hM:Option Addr}{gM:Nat}{bA:Option Addr}{bI:Nat}{pe:Option Addr}{kL aY:Nat}(O:pL n s)(L:n<=10)(Z:rz w s bw aS jc cl A c A' c' hM gM bA bI)(aL:aP w pe kL aY ai)(aa:∀x∈ai,gP n x)(aM:s.gs.length<65536)(aN:s.aF.length<=549755813888)
  (aO:bA=none->s.aF.length=0/\bI=0) (aQ:bw=none->s.gs.length=0/\aS=0) (aT:Plain bA) (aU:Plain bw):
  Calls z_ 46 #[rT n bw s.gs.length aS jc s.es.length cl A (n+1) c A' n c' s.bz hM (n+1) gM bA s.aF.length bI,.slice pe kL aY] w (IE w n s bw aS bA bI jc cl A c A' c' hM gM ai):=by
 obtain⟨k,ab⟩:∃x,s.gs.length=x:=⟨_,rfl⟩
 obtain⟨nl,ad⟩:∃x,s.es.length=x:=⟨_,rfl⟩
 obtain⟨m,ae⟩:∃x,s.aF.length=x:=⟨_,rfl⟩
 have bL:bF (∀W:World,Below w.heap.size w W->Calls z_ 49 #[rT n bw k aS jc nl cl A (n+1) c A' n c' s.bz hM (n+1) gM bA m bI] W λ e w'=>e=.returned (.int .i64 0)/\Below W.heap.size W w'):=U λ W p=>by
  have:=Im O L (Z.below p);rw[ab,ad,ae] at this;exact this
 obtain⟨rs,aV,aW⟩:=Z.gs.Fm;have d:=U (w_ Z (w_ O (w_ ab (w_ ad (w_ ae (w_ aL (w_ aa (w_ aM (w_ aN (w_ aO (w_ aQ (w_ aT (w_ aU (w_ aV aW))))))))))))));have aX:k<65536:=by omega
 have a6:¬(65536:Int)<=(k:Int):=by omega
 have bM:(k:Int)<65536:=by omega
 have dg:decide ((65536:Int)<=(k:Int))=false:=decide_eq_false a6;have bN:=U aX;clear a6 bM aX;rw[ab,ad,ae];clear Z O aL aa aM aN aO aQ aT aU aV aW ab ad ae;unfold rT at*;go_enter Tryz.func46,Tryz.ntmps46
 go_upto_region 1 with fail
 have E:vJ w ((w.alloc (.cells #[.int .i64 n,.slice bw k aS,.slice jc nl cl,.slice A (n+1) c,.slice A' n c',.int .i64 s.bz,.slice hM (n+1) gM,.slice bA m bI] 47)).alloc (.cells #[.int .i64 0,.slice none 0 0,.slice none 0 0,.slice none 0 0,.slice none 0 0,.int .i64 0,.slice none 0 0,.slice none 0 0] 47)) [.int .i64 n,.slice bw k aS,.slice jc nl cl,.slice A (n+1) c,.slice A' n c',.int .i64 s.bz,.slice hM (n+1) gM,.slice bA m bI] vj:=vJ.init w [.int .i64 n,.slice bw k aS,.slice jc nl cl,.slice A (n+1) c,.slice A' n c',.int .i64 s.bz,.slice hM (n+1) gM,.slice bA m bI] vj;generalize ((w.alloc (.cells #[.int .i64 n,.slice bw k aS,.slice jc nl cl,.slice A (n+1) c,.slice A' n c',.int .i64 s.bz,.slice hM (n+1) gM,.slice bA m bI] 47)).alloc (.cells #[.int .i64 0,.slice none 0 0,.slice none 0 0,.slice none 0 0,.slice none 0 0,.int .i64 0,.slice none 0 0,.slice none 0 0] 47))=bO at*;have M:=E.de.cell 0;have y:=E.de.cell 1;have af:=E.de.cell 2;have ag:=E.de.cell 3;have ah:=E.de.cell 4;have aj:=E.de.cell 5;have ak:=E.de.cell 6;have F:=E.de.cell 7;simp only[y_,x_] at M y af ag ah aj ak F;have bP:=U (bL.o bO E.jU);have bQ:=U E;clear E
 go_upto_region 4 with(go_at_call 49;refine bP.o.mono ?_;rintro e al ⟨rfl,a7⟩;have az:=U (bQ.o.below a7);clear M y af ag ah aj ak F a7;have M:=az.o.de.cell 0;simp only[y_] at M)
 have a8:=d.o.2.2.2.2.2.1.below az.o.jU;have bR:=U (xR n (some ⟨al.heap.size,0,none⟩) 1 1 [ai] _ (oy.CD al ⟨pe,kL,aY,ai⟩ a8).CZ);have a':lS n [ai]=0:=Cu (by omega) (by simp) (λ l hl=>by rw[v_.1 hl];exact d.o.2.2.2.2.2.2.1);have bS:=U a';clear a8 a'
 go_upto_region 6 with(go_at_call 107;refine bR.o.mono ?_;rintro e aA ⟨rfl,ba⟩;rw[bS.o];have R:=U (az.o.below ((bC al _).trans (ba.mono (bC al _).size)));clear M ba;have y:=R.o.de.cell 1;simp only[y_,x_] at y)
 go_upto_region 8 with fail
 have bT:=U (vD pe kL aY ai aA (d.o.2.2.2.2.2.1.below R.o.jU));have bb:=d.o.2.2.2.2.2.1.len;have bc:=d.o.2.2.2.2.2.1.mG;have bd:=U (w_ bb bc);clear y
 go_upto_region 9 with(go_at_call 81;refine bT.o.mono ?_;rintro e t ⟨j,c2,rfl,bf,bg⟩;have S:=U (w_ bf bg);clear bf bg)
 have bh:aP t j kL c2 ai:=by
  have h1:=S.o.1;rw[bd.o.1] at h1;exact aP.kZ h1 bd.o.2
 have T:=U (R.o.below S.o.2);have bU:=U bh;clear bh bb bc;have y:=T.o.de.cell 1;simp only[y_,x_] at y;have bj:bF (∀W:World,Calls z_ 108 #[.slice bw s.gs.length aS] W λ e w'=>e=.returned (.slice bw s.gs.length s.gs.length)/\W=w'):=U (λ W=>(Pj (w0:=w) d.o.1.gs d.o.2.2.2.2.2.2.2.2.2.2.1 W d.o.2.2.2.2.2.2.2.2.2.2.2.2.1).mono (λ e w' h=>⟨h.1,h.2.symm⟩));have bk:bF (∀W:World,Calls z_ 109 #[.slice bA s.aF.length bI] W λ e w'=>e=.returned (.slice bA s.aF.length s.aF.length)/\W=w'):=U (λ W=>(Io (w0:=w) d.o.1.aF d.o.2.2.2.2.2.2.2.2.2.1 W (λ h=>d.o.2.2.2.2.2.2.2.2.2.2.2.1.resolve_left h)).mono (λ e w' h=>⟨h.1,h.2.symm⟩));rw[d.o.2.2.1] at bj;rw[d.o.2.2.2.2.1] at bk;have bl:oy (t.alloc (.cells #[k3 ⟨j,kL,c2,ai⟩] 25)) bw k aS rs:=by
  have h1:=d.o.2.2.2.2.2.2.2.2.2.2.2.2.2.2;rw[d.o.2.2.1] at h1;exact(h1.below T.o.jU).below (bC t _)
 have bV:=U bl;have bn:(t.alloc (.cells #[k3 ⟨j,kL,c2,ai⟩] 25)).cell? ⟨t.heap.size,0,none⟩=some (k3 ⟨j,kL,c2,ai⟩):=(aR.new t 25 [k3 ⟨j,kL,c2,ai⟩]).cell 0;have bW:=U bn;clear bl bn
 go_upto_region 10 with(first
  |(go_at_call 108;refine(bj.o _).mono ?_;rintro e bX ⟨rfl,rfl⟩)
  |(at_builtin;refine Pg rfl (.tmp 30) (.tmp 32) rfl bV.o d.o.2.2.2.2.2.2.2.2.2.2.2.2.1 t.heap.size 1 ⟨j,kL,c2,ai⟩ rfl rfl bW.o (by have:=bN.o;omega) (λ e=>by have:=(d.o.2.2.2.2.2.2.2.2.2.2.1 e).1;have N:=d.o.2.2.1;omega) ?_;intro s4 aB G;obtain⟨⟨z,kf,B⟩,aC,an⟩:=ay.kZ G.1;obtain rfl:s4=.slice z kf B:=aC;have bo:=U G;have bY:=U an;have aD:=U (T.o.below ((bC t _).trans (G.2.mono (bC t _).size)));clear G an y;have y:=aD.o.de.cell 1;have bZ:=aD.o.de.free 1;simp only[y_,x_] at y))
 have an:kf=k+1:=bY.o;subst an;have ao:=U (aD.o.ID 1 (.slice z (k+1) B));have bp:(t.alloc (.cells #[.slice j kL c2] 25)).heap.size=t.heap.size+1:=by simp
 have b0:w.heap.size<t.heap.size:=T.o.de.lt;have b1:w.heap.size<aA.heap.size:=R.o.de.lt;have bq:(aB.setCell ⟨w.heap.size,1,none⟩ (.slice z (k+1) B)).ownsRow (t.heap.size+1) 25 1 (.slice z (k+1) B) (k+1) ((rs++[(⟨j,kL,c2,ai⟩:Row)]).map k3):=by
  have h1:=bo.o.1;rw[bp] at h1;exact o6 h1 (λ b p=>Below.heap_setCell _ _ _ _ (by show b≠w.heap.size;have:=(h1.lt b p).1;omega))
 have br:aP (aB.setCell ⟨w.heap.size,1,none⟩ (.slice z (k+1) B)) j kL c2 ai:=by
  refine((bU.o.below (bC t _)).below bo.o.2).nD _ (λ b off e=>?_);have h1:=(S.o.1.lt b (by rw[e];rfl)).1;show b≠w.heap.size;omega
 have aE:=U (w_ bq br);clear bq br y bZ bp;generalize aB.setCell ⟨w.heap.size,1,none⟩ (.slice z (k+1) B)=bE at*;have F:=ao.o.de.cell 7;simp only[k_,j_,y_,x_] at F;have aq:oJ (bE.alloc (.cells #[.int .i64 1,k3 ⟨j,kL,c2,ai⟩] 126)) bA m bI s.aF:=by
  have h1:=d.o.1.aF;rw[d.o.2.2.2.2.1] at h1;exact(h1.below ao.o.jU).below (bC bE _)
 have b2:=U aq;have aH:=aR.new bE 126 [.int .i64 1,k3 ⟨j,kL,c2,ai⟩];have bs:bF ((bE.alloc (.cells #[.int .i64 1,k3 ⟨j,kL,c2,ai⟩] 126)).cell? ⟨bE.heap.size,0,none⟩=some (.int .i64 1)/\(bE.alloc (.cells #[.int .i64 1,k3 ⟨j,kL,c2,ai⟩] 126)).cell? ⟨bE.heap.size,1,none⟩=some (k3 ⟨j,kL,c2,ai⟩)):=U ⟨aH.cell 0,aH.cell 1⟩;clear aq aH
 go_upto_region 11 with(first
  |(go_at_call 109;refine(bk.o _).mono ?_;rintro e bX ⟨rfl,rfl⟩)
  |(at_builtin;refine Ph rfl (.tmp 37) (.tmp 40) rfl b2.o d.o.2.2.2.2.2.2.2.2.2.2.2.1 bE.heap.size 1 ⟨1,⟨j,kL,c2,ai⟩⟩ rfl rfl bs.o.1 bs.o.2 (by have:=d.o.2.2.2.2.2.2.2.2.1;have N:=d.o.2.2.2.2.1;omega) (λ e=>by have:=(d.o.2.2.2.2.2.2.2.2.2.1 e).1;have N:=d.o.2.2.2.2.1;omega) ?_;intro v11 ar G;obtain⟨⟨C,m9,D⟩,aC,au⟩:=ay.kZ G.1;obtain rfl:v11=.slice C m9 D:=aC;have bt:=U G;have b3:=U au;have av:=U (ao.o.below ((bC bE _).trans (G.2.mono (bC bE _).size)));clear G au F;have F:=av.o.de.cell 7;have b4:=av.o.de.free 7;simp only[k_,j_,y_,x_] at F))
 have au:m9=m+1:=b3.o;subst au;have q:=U (av.o.ID 7 (.slice C (m+1) D));have f12:aG (λ b=>b≠w.heap.size/\b≠w.heap.size+1) ar (ar.setCell ⟨w.heap.size,7,none⟩ (.slice C (m+1) D)):=aG.set _ 7 _ (λ h=>h.1 rfl);have b5:=U f12;clear f12 F b4 b0 b1;generalize ar.setCell ⟨w.heap.size,7,none⟩ (.slice C (m+1) D)=aw at*;have M:=q.o.de.cell 0;have y:=q.o.de.cell 1;have af:=q.o.de.cell 2;have ag:=q.o.de.cell 3;have ah:=q.o.de.cell 4;have aj:=q.o.de.cell 5;have ak:=q.o.de.cell 6;have F:=q.o.de.cell 7;simp only[k_,j_,y_,x_] at M y af ag ah aj ak F;have b6:=q.o.aZ.cell 0;have b7:=q.o.aZ.cell 1;have b8:=q.o.aZ.cell 2;have b9:=q.o.aZ.cell 3;have b':=q.o.aZ.cell 4;have ca:=q.o.aZ.cell 5;have cc:=q.o.aZ.cell 6;have cd:=q.o.aZ.cell 7;have H:=q.o.aZ.free;have ct:=H 0;have cu:=H 1;have cv:=H 2;have cw:=H 3;have cx:=H 4;have cy:=H 5;have cz:=H 6;have cA:=H 7;simp only[vj,y_,x_] at b6 b7 b8 b9 b' ca cc cd;clear H
 go_wp2_with fail
 have cf:=aR.CC (show aR aw (w.heap.size+1) 47 [.int .i64 0,.slice none 0 0,.slice none 0 0,.slice none 0 0,.slice none 0 0,.int .i64 0,.slice none 0 0,.slice none 0 0] from q.o.aZ) (.int .i64 n) (.slice z (k+1) B) (.slice jc nl cl) (.slice A (n+1) c) (.slice A' n c') (.int .i64 s.bz) (.slice hM (n+1) gM) (.slice C (m+1) D);have J:∀(u:World)(i:Nat)(v:Value),aG (λ b=>b≠w.heap.size/\b≠w.heap.size+1) u (u.setCell ⟨w.heap.size+1,i,none⟩ v):=λ u i v=>aG.set _ i v (λ h=>h.2 rfl)
 have f1:aG (λ b=>b≠w.heap.size/\b≠w.heap.size+1) aw _:=((((((((J aw 0 (.int .i64 n)).trans (J _ 1 (.slice z (k+1) B))).trans (J _ 2 (.slice jc nl cl))).trans (J _ 3 (.slice A (n+1) c))).trans (J _ 4 (.slice A' n c'))).trans (J _ 5 (.int .i64 s.bz))).trans (J _ 6 (.slice hM (n+1) gM))).trans (J _ 7 (.slice C (m+1) D)))
 generalize ((((((((aw.setCell ⟨w.heap.size+1,0,none⟩ (.int .i64 n)).setCell ⟨w.heap.size+1,1,none⟩ (.slice z (k+1) B)).setCell ⟨w.heap.size+1,2,none⟩ (.slice jc nl cl)).setCell ⟨w.heap.size+1,3,none⟩ (.slice A (n+1) c)).setCell ⟨w.heap.size+1,4,none⟩ (.slice A' n c')).setCell ⟨w.heap.size+1,5,none⟩ (.int .i64 s.bz)).setCell ⟨w.heap.size+1,6,none⟩ (.slice hM (n+1) gM)).setCell ⟨w.heap.size+1,7,none⟩ (.slice C (m+1) D))=W at*;refine Pk rfl rfl rfl cf ?_;have K:=b5.o.trans f1;have I:Below w.heap.size w W:=av.o.jU.trans ⟨K.os,K.tape,K.output,K.size,λ b p=>K.keep b ⟨by omega,by omega⟩⟩;have cB:w.heap.size+1<t.heap.size:=T.o.aZ.lt;have cC:w.heap.size+1<aA.heap.size:=R.o.aZ.lt;have cD:w.heap.size+1<bE.heap.size:=ao.o.aZ.lt;have bu:Below bE.heap.size bE ar:=(bC bE _).trans (bt.o.2.mono (bC bE _).size);have V:W.ownsRow (t.heap.size+1) 25 1 (.slice z (k+1) B) (k+1) ((rs++[(⟨j,kL,c2,ai⟩:Row)]).map k3):=o6 (mh aE.o.1 bu) (λ b p=>K.keep b (by have:=(aE.o.1.lt b p).1;omega));have Q:W.ownsRow (bE.heap.size+1) 126 2 (.slice C (m+1) D) (m+1) (mX (s.aF++[(⟨1,⟨j,kL,c2,ai⟩⟩:nH)])):=by
  have h1:=bt.o.1;have aa:(bE.alloc (.cells #[.int .i64 1,.slice j kL c2] 126)).heap.size=bE.heap.size+1:=by simp
  rw[aa] at h1;exact o6 h1 (λ b p=>K.keep b (by have:=(h1.lt b p).1;omega))
 have ax:aP W j kL c2 ai:=by
  refine(aE.o.2.below bu).jB K (λ b e L=>?_);have h1:=(S.o.1.lt b ((ay.own ⟨j,_,c2⟩).trans e)).1;omega
 have cE:=d.o.2.2.2.2.2.2.2.2.1;have cg:=d.o.2.2.1;have bx:=d.o.2.2.2.2.1;have ch:=d.o.2.2.2.2.2.2.2.1;have bB:=kE.kZ V (λ r P=>by
  rcases t_.1 P with h1|h1
  ·exact(d.o.2.2.2.2.2.2.2.2.2.2.2.2.2.2.rows r h1).below I
  ·rw[v_.1 h1];exact ax) (by omega)
 have bD:(rs++[(⟨j,kL,c2,ai⟩:Row)]).map (·.ai)=s.gs++[ai]:=by
  rw[List.map_append,d.o.2.2.2.2.2.2.2.2.2.2.2.2.2.1];rfl
 rw[bD] at bB;have aq:=oJ.kZ Q (by omega) (λ r P=>by
  rcases t_.1 P with h1|h1
  ·exact(d.o.1.aF.rows r h1).below I
  ·rw[v_.1 h1];exact ax)
 have aI:(s.gs++[ai]).length=k+1:=by simp[cg]
 have X:(s.aF++[(⟨1,⟨j,kL,c2,ai⟩⟩:nH)]).length=m+1:=by simp[bx]
 have cj:=d.o.2.2.2.1;have cF:=d.o.2.1.hk.lB;have cG:=d.o.2.1.hk.qs;have cH:=d.o.2.1.nM;refine⟨⟨n,s.gs++[ai],s.es,s.act,s.ord,s.bz,s.ia,s.aF++[⟨1,⟨j,kL,c2,ai⟩⟩]⟩,z,B,C,D,?_,⟨by rw[aI];exact bB,d.o.1.es.below I,d.o.1.act.below I,d.o.1.ord.below I,d.o.1.ia.below I,by rw[X];exact aq⟩,d.o.2.1.add d.o.2.2.2.2.2.2.1 ch _ rfl,rfl,rfl,rfl,List.prefix_append _ _,by rw[X,bx],I,⟨.inr ?_,λ e=>?_⟩,λ e=>?_,?_⟩
 ·show _=Ending.returned (.tuple #[rT n z (s.gs++[ai]).length B jc s.es.length cl A (n+1) c A' n c' s.bz hM (n+1) gM C (s.aF++[(⟨1,⟨j,kL,c2,ai⟩⟩:nH)]).length D,.int .i64 0]);rw[aI,X,cj];rfl
 ·show W.ownsRow _ 126 2 (.slice C (s.aF++[(⟨1,⟨j,kL,c2,ai⟩⟩:nH)]).length D) _ _;rw[X];exact yV Q (by omega)
 ·rcases Q.2 with⟨h1,N⟩|⟨g,cap,cur,h1,_⟩
  ·omega
  ·injection h1 with h1;rw[e] at h1;cases h1
 ·rcases V.2 with⟨h1,N⟩|⟨g,cap,cur,h1,_⟩
  ·omega
  ·injection h1 with h1;rw[e] at h1;cases h1
 ·intro ck aJ bG W' f;have aK:=d.o.2.2.2.2.2.2.2.2.2.2.2.2.2.2;have cm:=aK.zA (λ cn h1=>(bG cn h1).gs);have bH:aG (λ b=>b<w.heap.size/\¬ck b) w W':=(aG.rf I λ b p=>p.1).trans (f.mono λ b p=>⟨by have:=I.size;omega,p.2⟩);have Y:=bG W' bH;have cp:W'.ownsRow (t.heap.size+1) 25 1 (.slice z (k+1) B) (k+1) ((rs++[(⟨j,kL,c2,ai⟩:Row)]).map k3):=o6 V (λ b p=>f.keep b ⟨(V.lt b p).2,λ h=>by have h1:=aJ b h;have N:=(V.lt b p).1;omega⟩);have cq:W'.ownsRow (bE.heap.size+1) 126 2 (.slice C (m+1) D) (m+1) (mX (s.aF++[(⟨1,⟨j,kL,c2,ai⟩⟩:nH)])):=o6 Q (λ b p=>f.keep b ⟨(Q.lt b p).2,λ h=>by have h1:=aJ b h;have N:=(Q.lt b p).1;omega⟩);have bJ:aP W' j kL c2 ai:=ax.jB f (λ b e L=>⟨ax.lt b e L,λ h=>by
   have h1:=aJ b h;have N:=(S.o.1.lt b ((ay.own ⟨j,_,c2⟩).trans e)).1;omega⟩)
  have bK:=kE.kZ cp (λ r P=>by
   rcases t_.1 P with h1|h1
   ·exact(aK.rows r h1).jB bH (λ b e L=>⟨(aK.rows r h1).lt b e L,cm r h1 b e L⟩)
   ·rw[v_.1 h1];exact bJ) (by omega)
  rw[bD] at bK;have cr:=oJ.kZ cq (by omega) (λ r P=>by
   rcases t_.1 P with h1|h1
   ·exact Y.aF.rows r h1
   ·rw[v_.1 h1];exact bJ)
  exact⟨by rw[aI];exact bK,Y.es,Y.act,Y.ord,Y.ia,by rw[X];exact cr⟩
end
section
open Go.RowKit Go.Shelf Go.Sort Go.Lib
def IF(f:Nat)(lb:Array Value)(p:Int->Bool)(g:Nat)(w:World):Prop:=
 ∀(W:World)(x:Int),w.heap.size<=W.heap.size->(∀b,b<w.heap.size->b≠g->W.heap[b]? =w.heap[b]?)->Calls z_ f (#[.int .i64 x]++lb) W λ e w'=>e=.returned (.bool (p x))/\W=w'
theorem Pn(f:Nat)(lb:Array Value)(p:Int->Bool)(o:∀args w,(callFunc f args).run z_ w=.ok (.enter f args) w)(w:World)(base g n cap:Nat)(c:List Int)(h:Own w base g n cap c)(d:base<=g)(hp:IF f lb p g w):
  Calls z_ 85 #[.slice (some ⟨g,0,none⟩) n cap,.func (.func f) #[] lb] w λ e w'=>
   e=.returned (.slice (some ⟨g,0,none⟩) (c.filter λ x=> !(p x)).length cap)/\Own w' base g (c.filter λ x=> !(p x)).length cap (c.filter λ x=> !(p x))/\Below base w w':=by
 have h':w.ownsRow base 3 1 (.slice (some ⟨g,0,none⟩) n cap) n (c.map oV):=h;obtain⟨C,D,he,h1,E,r,s,i,t⟩:=holds_of_ownsRow h' (by intro e;cases e)
 cases he
 have u:n<=9223372036854775807:=by unfold maxLen at s;omega
 have v:PredAt z_ f lb oV p w:=by
  intro W x l;unfold FnGives;exact(hp W x l.size (λ b d _=>l.block b d)).mono λ _ _ ⟨he,hw⟩=>⟨he,0,by rw[<-hw];rfl⟩
 have y:PredOver z_ f lb oV p g 0 c.toArray.size w:=by
  intro k os j x _;unfold FnGives;have z:w.heap.size<=(sortWorld oV w g 0 k j os).heap.size:=by
   show w.heap.size<=((Sort.putRow oV (Sort.ahead w k) g 0 j).heap++os).size;rw[Array.size_append,Sort.size_putRow];show w.heap.size<=w.heap.size+_;omega
  exact(hp _ x z (λ b d A=>D3 oV w g k j os d A)).mono λ _ _ ⟨he,hw⟩=>⟨he,0,by rw[<-hw];rfl⟩
 have m:=Tryz.slices_DeleteFunc oV zn p f lb o 0 Tryz.zeroValue3 g 0 cap c.toArray w v y t (by simpa[i] using u) (by simpa[i] using r);have hs:c.toArray.size=n:=by simp[i]
 rw[hs] at m;refine m.mono ?_;rintro e w' ⟨rfl,q,rfl⟩;have B:c.toArray.toList.filter (λ x=> !(p x))=c.filter λ x=> !(p x):=rfl
 rw[B];have hle:=Zw (λ x=> !(p x)) c;refine⟨rfl,?_,below_putRow (Below.refl _ _) d⟩;have:=ownsRow_putRow (q:=q) (k:=(c.filter λ x=> !(p x)).length) (ys:=(c.filter λ x=> !(p x))++List.replicate (n-(c.filter λ x=> !(p x)).length) 0) h' (by simp;omega) (by omega);rw[List.take_left' rfl] at this;exact this
def Po(b:List Int)(w:World)(e:Ending)(w':World):Prop:=∃A c,e=.returned (.slice A b.length c)/\aP w' A b.length c b/\w'.ownsRow w.heap.size 3 1 (.slice A b.length c) b.length (b.map (Value.int .i64))/\Below w.heap.size w w'
theorem Pp:∀args w,(callFunc 141 args).run z_ w=.ok (.enter 141 args) w:=enters_of Tryz.func141 (by kernel_rfl) rfl
theorem Pq(d:Nat)(A:Option Addr)(n c:Nat)(core:List Int)(x:Int)(w:World)(g:w.cell? ⟨d,0,none⟩=some (.slice A n c))(h:aP w A n c core):
  Calls z_ 141 #[.int .i64 x,.pointer (some ⟨d,0,none⟩)] w λ e w'=>e=.returned (.bool (!(hasB core x)))/\w=w':=by
 obtain⟨r,b⟩:∃r,hasB core x=r:=⟨_,rfl⟩
 have f:=U (Hy r A n c core x w h b);rw[b];clear h b;go_enter Tryz.func141,Tryz.ntmps141
 go_wp2_with (go_at_call 124;refine f.o.mono ?_;rintro e w1 ⟨rfl,rfl⟩;dsimp only)
 go_ret;exact⟨rfl,rfl⟩
theorem Pr(f:Nat)(lb:Array Value)(p:Int->Bool)(m:∀args w,(callFunc f args).run z_ w=.ok (.enter f args) w){w:World}{base:Nat}{A:Option Addr}{c:Nat}{ai:List Int}(j:w.ownsRow base 3 1 (.slice A ai.length c) ai.length (ai.map (Value.int .i64)))(r:ai.length*8<=140737488355328)(s:base<=w.heap.size)(hp:∀g,base<=g->IF f lb p g w):
  Calls z_ 85 #[.slice A ai.length c,.func (.func f) #[] lb] w λ e w'=>∃b c2,e=.returned (.slice b (ai.filter λ x=> !(p x)).length c2)/\aP w' b (ai.filter λ x=> !(p x)).length c2 (ai.filter λ x=> !(p x))/\w'.ownsRow base 3 1 (.slice b (ai.filter λ x=> !(p x)).length c2) (ai.filter λ x=> !(p x)).length ((ai.filter λ x=> !(p x)).map (Value.int .i64))/\Below base w w':=by
 have hle:=Zw (λ x=> !(p x)) ai;rcases j.2 with⟨h1,n⟩|⟨g,cap,cur,h1,k,_⟩
 ·injection h1 with d o i
  have:ai=[]:=q_ n;subst this;subst d i;refine(DS _ w).mono ?_;rintro e w' ⟨rfl,rfl⟩;exact⟨none,0,rfl,aP.nil _ _ _ (by unfold maxLen;omega),g_ _ _ _ _,Below.refl _ _⟩
 ·injection h1 with d o i
  subst d i;refine(Pn f lb p m w base g ai.length c ai j k (hp g k)).mono ?_;rintro e w' ⟨rfl,l,q⟩;exact⟨_,c,rfl,aP.kZ l (by omega),l,q⟩
theorem Pt(l o:List Int):(l.filter λ x=> !(!(hasB o x)))=ry l o:=by
 unfold ry
 congr 1
 funext x;simp[hasB]
theorem aP.zD(h:aP w A n c ai)(hs:w.heap.size<=w'.heap.size)(d:∀b,b<w.heap.size->w'.heap[b]? =w.heap[b]?):aP w' A n c ai:=
 ⟨h.len,h.cap,h.mG,h.n9,λ f=>by
  obtain⟨b,off,e,h1,g⟩:=h.cells f;refine⟨b,off,e,Nat.lt_of_lt_of_le h1 hs,λ j i=>?_⟩;rw[Zs (a:=⟨b,off+j,none⟩) (d b h1)];exact g j i⟩
theorem ED{IG:Nat}{s:Nat}{v:Value}{xs:List Value}(h:w.ownsRow base e s v n xs)(b:IG<=base):w.ownsRow IG e s v n xs:=by
 refine⟨h.1,?_⟩;rcases h.2 with h1|⟨g,cap,cur,h1,c,d⟩
 ·exact Or.inl h1
 ·exact Or.inr ⟨g,cap,cur,h1,e_ b c,d⟩
theorem EE(A:Option Addr)(n c:Nat)(k:List Int)(A':Option Addr)(d c':Nat)(os:List Int)(w:World)(h:aP w A n c k)(h':aP w A' d c' os):
  Calls z_ 79 #[.slice A n c,.slice A' d c'] w (Po (ry k os) w):=by
 have F:∀(fn:Fn)(first cap:Array Value)(w:World),(Instr.makeFunc fn first cap).run z_ w=.ok (.func fn first cap) w:=λ _ _ _ _=>rfl
 have j:=bC w (.cells #[.slice A' d c'] 25);have q:(w.alloc (.cells #[.slice A' d c'] 25)).cell? ⟨w.heap.size,0,none⟩=some (.slice A' d c'):=(aR.new w 25 [.slice A' d c']).cell 0;have r:(w.alloc (.cells #[.slice A' d c'] 25)).heap.size=w.heap.size+1:=by simp
 have s:=h.mG;have t:=h.len;go_enter Tryz.func79,Tryz.ntmps79
 go_upto_region 1 with fail
 generalize w.alloc (.cells #[.slice A' d c'] 25)=w1 at*;have C:=U (vD A n c k w1 (h.below j));have f:=U (w_ (h'.below j) (w_ q (w_ r (w_ j (w_ s t)))));clear h h' q r j s t
 go_wp2_with (first
  |(go_at_call 81;refine C.o.mono ?_;rintro e G ⟨H,c2,rfl,u,v⟩;have i:=U (w_ u v);clear u v;have l:=Pr 141 #[.pointer (some ⟨w.heap.size,0,none⟩)] (λ x=> !(hasB os x)) Pp i.o.1 (by have:=f.o;omega) i.o.2.size (λ g I W x hs hk=>Pq w.heap.size A' d c' os x W ((Zs (a:=⟨w.heap.size,0,none⟩) ((hk w.heap.size (by have:=i.o.2.size;have:=f.o;omega) (by have:=f.o;omega)).trans (i.o.2.block w.heap.size (by have:=f.o;omega)))).trans f.o.2.1) (f.o.1.zD (e_ i.o.2.size hs) (λ b e=>(hk b (Nat.lt_of_lt_of_le e i.o.2.size) (by omega)).trans (i.o.2.block b e))));simp only[Pt] at l;have D:=U l;clear l)
  |(go_at_call 85;refine D.o.mono ?_;rintro e J ⟨E,c3,rfl,y,z,B⟩;have m:=U (w_ y (w_ z B));clear y z B))
 have p:w.heap.size<=w1.heap.size:=by have:=f.o;omega
 go_ret;exact⟨E,c3,rfl,m.o.1,ED m.o.2.1 p,(f.o.2.2.2.1.trans (i.o.2.mono p)).trans (m.o.2.2.mono p)⟩
theorem Pu(w:World)(b s:Nat)(hs:s<=b)(i:b<=1099511627776):Calls z_ 140 #[.agg #[.int .i64 b,.int .i64 s]] w λ e w'=>e=.returned (.int .i64 ((b-s:Nat):Int))/\Below w.heap.size w w':=by
 have d:=bC w (.cells #[.int .i64 b,.int .i64 s] 153);have c:aR (w.alloc (.cells #[.int .i64 b,.int .i64 s] 153)) w.heap.size 153 [.int .i64 b,.int .i64 s]:=aR.new w 153 [.int .i64 b,.int .i64 s];have f:=c.cell 0;have g:=c.cell 1;simp only[y_,x_] at f g;have wd:IntKind.i64.wrap ((b:Int)-(s:Int))=(b:Int)-(s:Int):=by rw[IntKind.wrap_i64];omega
 go_enter Tryz.func140,Tryz.ntmps140
 go_wp2_with fail
 go_ret;refine⟨?_,d⟩;simp;omega
structure rV(bg:Nat->Prop)(w:World)(B n:Nat)(s:lp)(bw:Option Addr)(aS:Nat)(jc:Option Addr)(cl:Nat)(A:Option Addr)(c:Nat)(A':Option Addr)(c':Nat)(hM:Option Addr)(gM:Nat)(bA:Option Addr)(bI aW sp:Nat):Prop where
 blk:aR w B 155 [.int .i64 n,.slice bw s.gs.length aS,.slice jc s.es.length cl,.slice A (n+1) c,.slice A' n c',.int .i64 s.bz,.slice hM (n+1) gM,.slice bA s.aF.length bI,.int .i64 aW,.int .i64 sp]
 jS:bg B
 dl:∀b,bg b->b<w.heap.size
 CG:vi w bg s bw aS jc cl A c A' c' hM gM bA bI
 ok:pL n s
 n10:n<=10
 mW:sp<=aW
 ov:aW<=1099511627776
 bL:s.gs.length<=40000
 pl:s.aF.length<=40000+s.es.length
 el:s.es.length=sp
 uM:bA=none->s.aF.length=0/\bI=0
 pa:bA≠none->∃b off,bA=some ⟨b,off,none⟩
theorem EF(j:a.defers=[])(c:a.tmps.getD 8 undef=.pointer (some ⟨aZ,0,none⟩))(d:a.tmps.getD 9 undef=.int .i64 0)
  (b:aR W aZ 30 [v0,v1,v2,v3]) (h:aL (.returned (.tuple #[.agg #[v0,v1,v2,v3],.int .i64 0])) W):bodyPost z_ Tryz.f78 aL .ret a W:=by
 have e:=b.cell 0;have f:=b.cell 1;have g:=b.cell 2;have i:=b.cell 3;simp only[y_,x_] at e f g i;refine bodyPost_ret (v:=.tuple #[.agg #[v0,v1,v2,v3],.int .i64 0]) ?_ j h;rw[o_] at c d;simp[results,Tryz.results78,go_sem,c,d,e,f,g,i]
theorem Pv(i:a.defers=[])(c:a.tmps.getD 4 undef=.pointer (some ⟨aZ,0,none⟩))
  (b:aR W aZ 30 [v0,v1,v2,v3]) (h:aL (.returned (.agg #[v0,v1,v2,v3])) W):bodyPost z_ Tryz.f77 aL .ret a W:=by
 have d:=b.cell 0;have e:=b.cell 1;have f:=b.cell 2;have g:=b.cell 3;simp only[y_,x_] at d e f g;refine bodyPost_ret (v:=.agg #[v0,v1,v2,v3]) ?_ i h;rw[o_] at c;simp[results,Tryz.results77,go_sem,c,d,e,f,g]
theorem Pw(w:World)(B:Nat)(L:List Value)(l sp:Nat)(m:aR w B 155 L)(p:L[8]? =some (.int .i64 l))(q:L[9]? =some (.int .i64 sp))(kind:Int)(c:Option Addr)(d f:Nat)(g:Option Addr)(i j:Nat)(hk:kind=1\/kind=2\/kind=3):
  Calls z_ 78 #[.pointer (some ⟨B,0,none⟩),.int .i64 kind,.slice c d f,.slice g i j] w λ e w'=>e=.returned (.tuple #[.agg #[.int .i64 kind,.slice c d f,.slice g i j,.int .i64 (if kind=3 then l else sp:Nat)],.int .i64 0])/\Below w.heap.size w w':=by
 have z:=m.lt;have n:=bC w (.cells #[.int .i64 0,.slice none 0 0,.slice none 0 0,.int .i64 0] 30);have b:aR (w.alloc (.cells #[.int .i64 0,.slice none 0 0,.slice none 0 0,.int .i64 0] 30)) w.heap.size 30 [.int .i64 0,.slice none 0 0,.slice none 0 0,.int .i64 0]:=aR.new w 30 _;have o:=m.below n;have r:=o.cell 8;have s:=o.cell 9;rw[p] at r;rw[q] at s;have t:=b.cell 0;have u:=b.cell 1;have v:=b.cell 2;have y:=b.cell 3;simp only[y_,x_] at t u v y;have k:=b.free;have f0:=k 0;have f1:=k 1;have f2:=k 2;have f3:=k 3;clear k;have A:=U (w_ b n);go_enter Tryz.func78,Tryz.ntmps78
 rcases hk with rfl|rfl|rfl
 ·go_wp2_with fail
  exact EF rfl rfl rfl (aR.new w 30 [.int .i64 1,.slice c d f,.slice g i j,.int .i64 sp]) ⟨rfl,bC w _⟩
 ·go_wp2_with fail
  exact EF rfl rfl rfl (aR.new w 30 [.int .i64 2,.slice c d f,.slice g i j,.int .i64 sp]) ⟨rfl,bC w _⟩
 ·go_wp2_with fail
  exact EF rfl rfl rfl (aR.new w 30 [.int .i64 3,.slice c d f,.slice g i j,.int .i64 l]) ⟨rfl,bC w _⟩
def Px(l:Nat->Prop)(w:World)(B n:Nat)(s:lp)(m:Option Addr)(o:Nat)(ah:List Int)(c sp:Nat)(e:Ending)(W:World):Prop:=
 ∃(s':lp)(p:Option Addr)(c1:Nat)(q:Option Addr)(c2:Nat)(r:Option Addr)(c3:Nat)(t:Option Addr)(u:Nat)(v:Option Addr)(y:Nat)(b:Nat)(kind:Int)(d:Option Addr)(f g:Nat)(i:Option Addr)(j k:Nat),
  e=.returned (.agg #[.int .i64 kind,.slice d f g,.slice i j k,.int .i64 (b:Int)])/\
  rV l W B n s' m o p c1 q c2 r c3 t u v y c (sp+b)/\s'.gs=s.gs/\b<=c-sp/\og (λ _=>True) W s.gs ah n (c-sp) b kind d f g i j k/\w.grownBy W (some B)
end
end Go.Proofs.YtogdlkfacflmaaaGreat
