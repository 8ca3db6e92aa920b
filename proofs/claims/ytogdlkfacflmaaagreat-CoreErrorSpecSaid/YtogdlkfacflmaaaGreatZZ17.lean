/- Parts of the walk of the solver and its core; no condition. -/
import Derived.Test.YtogdlkfacflmaaaGreatZZ1
import Derived.Test.YtogdlkfacflmaaaGreatZZ16
import Derived.Deep.Grids
import Derived.ProofKit
import Derived.OpenShut
import Derived.SizedLaws
import Derived.Lib.SmallJoins
import Derived.Deep.Slices
import Derived.Deep.Fields
import Derived.Deep.Strs
import Derived.ChangeSame
import Derived.Test.YtogdlkfacflmaaaGreatRows
import Derived.WalkKit
import Derived.Test.YtogdlkfacflmaaaGreatZZ15
import Derived.Test.YtogdlkfacflmaaaGreatZZ14
namespace Go.Proofs.YtogdlkfacflmaaaGreat
set_option linter.unusedVariables false
set_option linter.unusedSimpArgs false
set_option maxRecDepth 100000
set_option maxHeartbeats 8000000
open _root_.Go.Proofs.Tryz renaming prog→z_,underlying22→p_,underlying25→h_
open _root_.List renaming getElem?_cons_zero→y_,getElem?_cons_succ→x_,mem_singleton→v_,getD_eq_getElem?_getD→u_,mem_append→t_,getElem?_eq_some_iff→s_,eq_nil_of_length_eq_zero→q_,drop_eq_getElem_cons→n_,getElem?_eq_getElem→m_,set_cons_succ→j_,set_cons_zero→i_,ext_getElem→c_,length_map→Zz,take_of_length_le→Zy,mem_range→Zw,length_filter_le→Zv,mem_iff_getElem→Zu,mem_cons→Zq
open _root_.And renaming intro→w_
open _root_.Nat renaming le_refl→r_,zero_le→l_,le_trans→d_,zero_add→Zo
open _root_.Array renaming getD_eq_getD_getElem?→o_
open _root_.Go.DataW renaming Trod→k_,weights→Zp
open _root_.Option.some renaming injEq→g_
open _root_.Go.World renaming ownsRow_nil→f_,cell?_of_block→Zr
open _root_.Go.Value renaming bool→e_
open _root_.Go.Addr renaming add_lit→b_
open _root_.Go.WideShapes renaming add_plain→a_
open _root_.Go.Lit renaming int→Zx
open _root_.Go.WideElems renaming Trod_stays→Zt
open _root_.Char renaming ofNat→Zs
open _root_.Go.Value.slice renaming injEq→Zn
variable{H:Type}{t e:TypeId}{P:Program}{rest:List (List Char)}{n k i base c aQ:Nat}{ls:List (List Int)}{l o ai:List Int}{m:List Bool}{x:Int}{p:List Int->Bool}{w w' W:World}{ops:Array Oper}{a:Act}{Q:Exit->Act->World->Prop}{A:Option Addr}{s:k7}{aN:Ending->World->Prop}{v0 v1 v2 v3:Value}
section
open Go.ChangeShapes Go.WideShapes Go.ChangeAt Go.RowKit Go.Joins Go.Deep
theorem laidOut:laidOutB z_=true:=by kernel_rfl
theorem Ee:ownKnob z_.godebug=none:=by kernel_rfl
theorem Om:z_.cellsOf 3=1:=by kernel_rfl
theorem On:z_.cellsOf 25=1:=by kernel_rfl
theorem Oo:z_.cellsOf 24=2:=by kernel_rfl
theorem Oq:z_.bytesOf 3=8:=by kernel_rfl
theorem Ot:z_.bytesOf 25=24:=by kernel_rfl
def Fits{H:Type}(t:TypeId)(d:DataW H):Prop:=∀n∈d.weights z_ t,n<=reachBytes
theorem Ou:reachBytes<=140737488355328:=by decide
theorem xd{Bs:List TypeId}{ds:List (DataW H)}(h:(DataW.weightsEach z_ Bs ds).all (·<=reachBytes)=true){j:Nat}{t:TypeId}{d:DataW H}(b:Bs[j]? =some t)(c:ds[j]? =some d):Fits t d:=λ n e=>
 of_decide_eq_true (List.all_eq_true.1 h n (DataW.weights_mem_each b c n e))
theorem H7{H:Type}{P:Program}{e:TypeId}{d:DataW H}:∀{l:List (DataW H)},d∈l->∀n∈d.weights P e,n∈DataW.weightsAll P e l
 |x::l,c,n,b=>by
  simp only[DataW.weightsAll,t_];rcases Zq.1 c with rfl|h
  ·exact Or.inl b
  ·exact Or.inr (H7 h n b)
theorem Fits.elem{elems spare:List (DataW H)}(h:Fits t (.slice elems spare))(hu:z_.underlying t=some (.slice e)){d:DataW H}(b:d∈elems):Fits e d:=λ n c=>by
 refine h n ?_;simp only[Zp,hu,Zq,t_];exact Or.inr (Or.inl (H7 b n c))
theorem Fits.len{elems spare:List (DataW H)}(h:Fits t (.slice elems spare))(hu:z_.underlying t=some (.slice e)):elems.length*z_.bytesOf e<=140737488355328:=by
 have:=h ((elems.length+spare.length)*z_.bytesOf e) (by simp[Zp,hu]);have b:elems.length*z_.bytesOf e<=(elems.length+spare.length)*z_.bytesOf e:=Nat.mul_le_mul_right _ (by omega);exact d_ b (d_ this Ou)
theorem H8{α:Type}[Inhabited α]{P:Nat->α->Prop}:∀n,(∀j,j<n->∃x,P j x)->∃l:List α,l.length=n/\∀j,j<n->P j (l.getD j default)
 |0,_=>⟨[],rfl,λ j h=>by omega⟩
 |n+1,h=>by
  obtain⟨l,hl,hp⟩:=H8 n (λ j b=>h j (by omega));obtain⟨x,c⟩:=h n (by omega);refine⟨l++[x],by simp[hl],λ j b=>?_⟩;rcases Nat.lt_or_ge j n with d|e
  ·have:=hp j d
   rwa[u_,List.getElem?_append_left (by omega),<-u_]
  ·have:j=n:=by omega
   subst this;rw[u_,List.getElem?_append_right (by omega)];simpa[hl] using c
section
variable {H:Type}{enc:TypeId×Value->H}{W:World}{base:Nat}{sp:Nat->Bool}{held:Bool}
theorem H9{W:World}{b o:Nat}{v:Value}(h:W.cell? ⟨b,o,none⟩=some v):b<W.heap.size:=by
 rcases Nat.lt_or_ge b W.heap.size with c|d
 ·exact c
 ·simp[World.cell?,Array.getElem?_eq_none d] at h
theorem Ia{fuel:Nat}{cs:List Value}{x:DataW H×List MemPlace}(h:DataW.trod enc z_ W base sp held fuel 25 cs=some x)(e:Fits 25 x.1):
  ∃A n c d,cs=[.slice A n c]/\aL W A n c d/\∀z∈d,(Zx .i64 z).wf=true:=by
 rcases open_ints h_ Tryz.underlying3 Om h with⟨f,_⟩|⟨a,len,cap,d,f,_,hl,hm,k,rfl,l,m⟩
 ·exact⟨none,0,0,[],f,aL.nil _ _ _ (l_ _),λ z e=>by cases e⟩
 ·have q:len<=d.length:=by rw[k];split<;>omega
  have g:=e.len h_;rw[Oq] at g;have o:(lits (H:=H) .i64 (d.take len)).length=len:=by simp[lits];omega
  rw[o] at g;refine⟨some a,len,cap,d.take len,f,⟨by simp;omega,hl,g,hm,λ r=>?_⟩,λ z e=>m z (List.mem_of_mem_take e)⟩;obtain⟨b,off,rfl,i⟩:=ints_at l (by omega);refine⟨b,off,rfl,H9 (i 0 (by omega)),λ j p=>?_⟩;rw[i j (by omega)];simp[je,u_,p]
theorem Ov{fuel:Nat}{cs:List Value}{x:DataW H×List MemPlace}(h:DataW.trod enc z_ W base sp held fuel 22 cs=some x)(f:Fits 22 x.1):
  ∃A n c ls,cs=[.slice A n c]/\ku W A n c ls/\∀l∈ls,∀z∈l,(Zx .i64 z).wf=true:=by
 rcases Deep.open_slice p_ h with⟨k,_⟩|⟨a,len,cap,m,n,D,nw,k,_,hl,u,hm,rfl,v⟩
 ·exact⟨none,0,0,[],k,ku.nil _ _ _ (l_ _),λ z f=>by cases f⟩
 ·have s:len<=m:=by rw[hm];split<;>omega
  have p:=f.len p_;rw[Ot] at p;rw[Zz,List.length_range] at p;have each:∀i,i<len->∃g:List Int,(∃A' d c',W.cell? (a.add i)=some (.slice A' d c')/\aL W A' d c' g)/\∀z∈g,(Zx .i64 z).wf=true:=by
   intro i w;obtain⟨G,h1,q⟩:=v i (by omega);rw[On] at h1;obtain⟨_,I,y⟩:=World.cells?_some h1;obtain⟨A',d,c',g,rfl,B,hw⟩:=Ia q (f.elem p_ (List.mem_map.2 ⟨i,Zw.2 w,rfl⟩));refine⟨g,⟨A',d,c',?_,B⟩,hw⟩;have:=y 0 (by omega);simpa[Addr.add] using this
  obtain⟨ls,C,hp⟩:=H8 len each;refine⟨some a,len,cap,ls,k,⟨C,hl,p,u,λ E=>?_⟩,λ l s=>?_⟩
  ·obtain⟨J,K,L,t,_⟩:=(hp 0 E).1;obtain⟨b,off,spot⟩:=a;have F:spot=none:=by simpa[Addr.add] using World.cell?_spot t
   subst F;refine⟨b,off,rfl,H9 (o:=off+0) (by rw[<-a_];exact t),λ j r=>?_⟩;obtain⟨A',d,c',h1,q⟩:=(hp j r).1;exact⟨A',d,c',by rw[<-a_];exact h1,q⟩
  ·obtain⟨j,r,e⟩:=Zu.1 s;have:=(hp j (by omega)).2;rw[u_,m_ r] at this;simp only[Option.getD_some] at this;rw[e] at this;exact this
theorem Ef{r:Reach}{cI:Nat}{v:Value}{d:DataW H}{p:List MemPlace}(f:Value.okWide z_ W r cI 24 v)(h:k_ enc z_ W base sp held 24 v d p)(g:Fits 24 d):
  ∃x A n c ls,v=.agg #[.int .i64 x,.slice A n c]/\ku W A n c ls/\(∀l∈ls,∀z∈l,(Zx .i64 z).wf=true)/\(Zx .i64 x).wf=true:=by
 obtain⟨v0,v1,t,i,m,rfl,rfl,rfl,j,h1⟩:=open_agg2 Tryz.underlying24 (by kernel_rfl) Oo f h;obtain⟨x,e,_,k⟩:=DataW.trod_int Tryz.underlying3 j;have o:Fits 22 i.1:=λ n q=>g n (by
  simp only[Zp,Tryz.underlying24];simp[DataW.weightsEach,q])
 obtain⟨A,n,c,ls,b,s,hw⟩:=Ov h1 o;simp only[List.cons.injEq,and_true] at e b;subst e b;exact⟨x,A,n,c,ls,rfl,s,hw,k⟩
theorem Eg{W':World}{v:Value}{d:DataW H}{p:List MemPlace}(h:k_ enc z_ W 0 (λ _=>true) true 24 v d p)(b:Below W.heap.size W W')(c:∀x∈p,x.block<W.heap.size){Aw:Nat->Bool}(hs:∀x∈p,Aw x.block=true):
  k_ enc z_ W' 0 Aw true 24 v d p:=
 Zt laidOut (by kernel_rfl) (of_decide_eq_true (by kernel_rfl)) h (λ x e=>b.same (c x e)) hs
theorem Ay{W':World}{v:Value}{d:DataW H}{p:List MemPlace}(h:k_ enc z_ W 0 (λ _=>true) true 25 v d p)(b:Below W.heap.size W W')(c:∀x∈p,x.block<W.heap.size){Aw:Nat->Bool}(hs:∀x∈p,Aw x.block=true):
  k_ enc z_ W' 0 Aw true 25 v d p:=
 Zt laidOut (by kernel_rfl) (of_decide_eq_true (by kernel_rfl)) h (λ x e=>b.same (c x e)) hs
theorem Az{r:Reach}{cI:Nat}{v:Value}{d:DataW H}{p:List MemPlace}(e:Value.okWide z_ W r cI 25 v)(h:k_ enc z_ W base sp held 25 v d p)(f:Fits 25 d):
  ∃A n c b,v=.slice A n c/\aL W A n c b/\∀z∈b,(Zx .i64 z).wf=true:=by
 obtain⟨A,n,c,rfl⟩:=okWide_slice h_ e;obtain⟨fuel,h⟩:=h;obtain⟨A',g,c',b,i,j,hw⟩:=Ia h f;obtain⟨rfl,rfl,rfl⟩:A=A'/\n=g/\c=c':=by simpa[Value.cells] using i
 exact⟨A,n,c,b,rfl,j,hw⟩
end
end
section
open Go.ChangeShapes Go.WideShapes Go.ChangeAt Go.RowKit
def Eh:List Nat:=[
 104,97,114,110,101,115,115,32,56,100,54,48,101,55,98,56,49,55,55,56,98,53,101,101,100,49,51,57,55,99,51,53,57,51,51,98,51,100,52,53,
 50,98,50,55,56,51,97,102,99,97,57,51,55,97,100,49,56,54,49,98,51,102,53,100,57,50,49,100,52,55,98,54,32,99,117,116,32,97,116,32,
 99,104,97,108,107,108,105,110,101,47,99,104,97,108,107,108,105,110,101,108,97,119,50,55,46,67,111,114,101,69,114,114,111,114,83,112,101,99,32,99,
 104,97,108,107,108,105,110,101,47,99,104,97,108,107,108,105,110,101,108,97,119,50,55,46,67,111,114,101,76,101,97,115,116,77,105,110,105,109,97,108,
 32,99,104,97,108,107,108,105,110,101,47,99,104,97,108,107,108,105,110,101,108,97,119,50,55,46,67,111,114,101,71,114,111,119,77,97,120,105,109,97,
 108,32,99,104,97,108,107,108,105,110,101,47,99,104,97,108,107,108,105,110,101,108,97,119,50,55,46,67,111,114,101,68,101,99,105,100,101,115,32,99,
 104,97,108,107,108,105,110,101,47,99,104,97,108,107,108,105,110,101,108,97,119,50,55,46,67,111,114,101,65,103,114,101,101,115,87,105,116,104,83,111,
 108,118,101,114,32,99,104,97,108,107,108,105,110,101,47,99,104,97,108,107,108,105,110,101,108,97,119,50,55,46,67,111,114,101,73,100,101,109,112,111,
 116,101,110,116,32,99,104,97,108,107,108,105,110,101,47,99,104,97,108,107,108,105,110,101,108,97,119,50,55,46,67,111,114,101,67,111,114,114,101,99,
 116,105,111,110,83,101,116,32,99,104,97,108,107,108,105,110,101,47,99,104,97,108,107,108,105,110,101,108,97,119,50,53,46,83,111,108,118,101,114,66,
 97,115,105,99,115,83,112,101,99,32,99,104,97,108,107,108,105,110,101,47,99,104,97,108,107,108,105,110,101,108,97,119,50,53,46,83,111,108,118,101,
 114,83,111,108,118,101,69,114,114,111,114,115,32,99,104,97,108,107,108,105,110,101,47,99,104,97,108,107,108,105,110,101,108,97,119,50,53,46,83,111,
 108,118,101,114,65,110,115,119,101,114,67,111,114,114,101,99,116,32,99,104,97,108,107,108,105,110,101,47,99,104,97,108,107,108,105,110,101,108,97,119,
 50,53,46,83,111,108,118,101,114,83,116,97,116,101,80,114,101,115,101,114,118,101,100,32,99,104,97,108,107,108,105,110,101,47,99,104,97,108,107,108,
 105,110,101,108,97,119,50,53,46,83,111,108,118,101,114,65,110,115,119,101,114,83,116,97,98,108,101,32,99,104,97,108,107,108,105,110,101,47,99,104,
 97,108,107,108,105,110,101,108,97,119,50,53,46,83,111,108,118,101,114,69,110,117,109,101,114,97,116,101,115,77,111,100,101,108,115,32,99,104,97,108,
 107,108,105,110,101,47,99,104,97,108,107,108,105,110,101,108,97,119,50,53,46,83,111,108,118,101,114,65,100,100,77,111,110,111,116,111,110,101,32,99,
 104,97,108,107,108,105,110,101,47,99,104,97,108,107,108,105,110,101,108,97,119,50,53,46,83,111,108,118,101,114,71,114,111,119,80,114,101,115,101,114,
 118,101,115,32,99,104,97,108,107,108,105,110,101,47,99,104,97,108,107,108,105,110,101,108,97,119,50,56,46,72,105,116,83,112,101,99,32,99,104,97,
 108,107,108,105,110,101,47,99,104,97,108,107,108,105,110,101,108,97,119,50,56,46,72,105,116,77,105,110,105,109,97,108,32,99,104,97,108,107,108,105,
 110,101,47,99,104,97,108,107,108,105,110,101,108,97,119,50,56,46,72,105,116,73,110,118,111,108,117,116,105,111,110,32,99,104,97,108,107,108,105,110,
 101,47,99,104,97,108,107,108,105,110,101,108,97,119,50,56,46,72,105,116,69,110,117,109,101,114,97,116,101,115,32,99,104,97,108,107,108,105,110,101,
 47,99,104,97,108,107,108,105,110,101,108,97,119,50,56,46,72,105,116,68,117,97,108,105,116,121,32,99,104,97,108,107,108,105,110,101,47,99,104,97,
 108,107,108,105,110,101,108,97,119,50,56,46,72,105,116,67,111,114,101,115,77,105,110,105,109,97,108,32,99,104,97,108,107,108,105,110,101,47,99,104,
 97,108,107,108,105,110,101,108,97,119,50,56,46,72,105,116,70,105,120,101,115,77,105,110,105,109,97,108,32,99,104,97,108,107,108,105,110,101,47,99,
 104,97,108,107,108,105,110,101,108,97,119,50,56,46,72,105,116,67,108,97,115,115,105,102,105,101,115,83,117,98,115,101,116,115]
theorem head_eq:z_.initOrder=String.ofList (Eh.map Zs):=by kernel_rfl
theorem Ib:z_.initOrder.toList=Eh.map Zs:=by rw[head_eq];exact String.toList_ofList
def Ic:List (List Nat):=[
 [99,117,116],
 [97,116],
 [99,104,97,108,107,108,105,110,101,47,99,104,97,108,107,108,105,110,101,108,97,119,50,55,46,67,111,114,101,69,114,114,111,114,83,112,101,99],
 [99,104,97,108,107,108,105,110,101,47,99,104,97,108,107,108,105,110,101,108,97,119,50,55,46,67,111,114,101,76,101,97,115,116,77,105,110,105,109,97,108],
 [99,104,97,108,107,108,105,110,101,47,99,104,97,108,107,108,105,110,101,108,97,119,50,55,46,67,111,114,101,71,114,111,119,77,97,120,105,109,97,108],
 [99,104,97,108,107,108,105,110,101,47,99,104,97,108,107,108,105,110,101,108,97,119,50,55,46,67,111,114,101,68,101,99,105,100,101,115],
 [99,104,97,108,107,108,105,110,101,47,99,104,97,108,107,108,105,110,101,108,97,119,50,55,46,67,111,114,101,65,103,114,101,101,115,87,105,116,104,83,111,108,118,101,114],
 [99,104,97,108,107,108,105,110,101,47,99,104,97,108,107,108,105,110,101,108,97,119,50,55,46,67,111,114,101,73,100,101,109,112,111,116,101,110,116],
 [99,104,97,108,107,108,105,110,101,47,99,104,97,108,107,108,105,110,101,108,97,119,50,55,46,67,111,114,101,67,111,114,114,101,99,116,105,111,110,83,101,116],
 [99,104,97,108,107,108,105,110,101,47,99,104,97,108,107,108,105,110,101,108,97,119,50,53,46,83,111,108,118,101,114,66,97,115,105,99,115,83,112,101,99],
 [99,104,97,108,107,108,105,110,101,47,99,104,97,108,107,108,105,110,101,108,97,119,50,53,46,83,111,108,118,101,114,83,111,108,118,101,69,114,114,111,114,115],
 [99,104,97,108,107,108,105,110,101,47,99,104,97,108,107,108,105,110,101,108,97,119,50,53,46,83,111,108,118,101,114,65,110,115,119,101,114,67,111,114,114,101,99,116],
 [99,104,97,108,107,108,105,110,101,47,99,104,97,108,107,108,105,110,101,108,97,119,50,53,46,83,111,108,118,101,114,83,116,97,116,101,80,114,101,115,101,114,118,101,100],
 [99,104,97,108,107,108,105,110,101,47,99,104,97,108,107,108,105,110,101,108,97,119,50,53,46,83,111,108,118,101,114,65,110,115,119,101,114,83,116,97,98,108,101],
 [99,104,97,108,107,108,105,110,101,47,99,104,97,108,107,108,105,110,101,108,97,119,50,53,46,83,111,108,118,101,114,69,110,117,109,101,114,97,116,101,115,77,111,100,101,108,115],
 [99,104,97,108,107,108,105,110,101,47,99,104,97,108,107,108,105,110,101,108,97,119,50,53,46,83,111,108,118,101,114,65,100,100,77,111,110,111,116,111,110,101],
 [99,104,97,108,107,108,105,110,101,47,99,104,97,108,107,108,105,110,101,108,97,119,50,53,46,83,111,108,118,101,114,71,114,111,119,80,114,101,115,101,114,118,101,115],
 [99,104,97,108,107,108,105,110,101,47,99,104,97,108,107,108,105,110,101,108,97,119,50,56,46,72,105,116,83,112,101,99],
 [99,104,97,108,107,108,105,110,101,47,99,104,97,108,107,108,105,110,101,108,97,119,50,56,46,72,105,116,77,105,110,105,109,97,108],
 [99,104,97,108,107,108,105,110,101,47,99,104,97,108,107,108,105,110,101,108,97,119,50,56,46,72,105,116,73,110,118,111,108,117,116,105,111,110],
 [99,104,97,108,107,108,105,110,101,47,99,104,97,108,107,108,105,110,101,108,97,119,50,56,46,72,105,116,69,110,117,109,101,114,97,116,101,115],
 [99,104,97,108,107,108,105,110,101,47,99,104,97,108,107,108,105,110,101,108,97,119,50,56,46,72,105,116,68,117,97,108,105,116,121],
 [99,104,97,108,107,108,105,110,101,47,99,104,97,108,107,108,105,110,101,108,97,119,50,56,46,72,105,116,67,111,114,101,115,77,105,110,105,109,97,108],
 [99,104,97,108,107,108,105,110,101,47,99,104,97,108,107,108,105,110,101,108,97,119,50,56,46,72,105,116,70,105,120,101,115,77,105,110,105,109,97,108],
 [99,104,97,108,107,108,105,110,101,47,99,104,97,108,107,108,105,110,101,108,97,119,50,56,46,72,105,116,67,108,97,115,115,105,102,105,101,115,83,117,98,115,101,116,115]]
theorem Ie:behindMainWord (wordsSigns (Eh.map Zs))=Ic.map (·.map Zs):=by kernel_rfl
theorem Ow:z_.headLifts=[]:=by
 unfold Program.headLifts;rw[Ib,Ie];kernel_rfl
theorem Ox (h : behindMainWord (wordsSigns P.initOrder.toList) = "cut".toList :: rest) : P.make = some .cut := by
 unfold Program.make;rw[h];rfl
theorem Oy (h : behindMainWord (wordsSigns P.initOrder.toList) = "cut".toList :: rest) (b : P.headLifts = []) : P.liftsFinal = false := by
 unfold Program.liftsFinal;rw[h,b];rfl
theorem Ei : behindMainWord (wordsSigns Tryz.prog.initOrder.toList) = "cut".toList :: (Ic.tail.map (·.map Char.ofNat)) := by
 rw[Ib,Ie];kernel_rfl
theorem Oz (rest : List (List Char)) : stripLifts liftWords ("cut".toList :: rest) = ([], "cut".toList :: rest) := by kernel_rfl
theorem OA (h : behindMainWord (wordsSigns P.initOrder.toList) = "cut".toList :: rest) (h1 : P.laysLater = false) (b : P.bearsReflect = false) (c : P.doorFits [] = true) : P.mayEnter = true := by
 unfold Program.mayEnter;rw[h];simp only[Oz,h1,b,c];rfl
theorem OB:z_.laysLater=false:=by kernel_rfl
theorem OC:z_.bearsReflect=false:=by kernel_rfl
theorem OD:z_.doorFits []=true:=by kernel_rfl
theorem Ej:z_.mayEnter=true:=OA Ei OB OC OD
theorem made:z_.make=some .cut:=Ox Ei
theorem Ek:z_.liftsFinal=false:=Oy Ei Ow
end
section
open Go.RowKit
theorem OE(h:∀k,k<2^n->(pV (nO n k) l&&rO n ls (nO n k))=false):pE n ls l=false:=by
 unfold pE;rw[List.any_eq_false];intro k hk;rw[h k (Zw.1 hk)];simp
theorem OF(hk:k<2^n)(h:(pV (nO n k) l&&rO n ls (nO n k))=true):pE n ls l=true:=by
 unfold pE;rw[List.any_eq_true];exact⟨k,Zw.2 hk,h⟩
section
variable {n:Nat}{ls:List (List Int)}(aD:lM n ls=0)
include aD
theorem El{ah:List Int}{m:List Bool}(hl:∀x∈ah,gK n x)(h:w8 ls n ah m):rO n ls m=true/\pV m ah=true:=
 ⟨(D3 aD).2 h.sat,(B9 h.len hl).2 h.ah⟩
theorem Ig{l:List Int}(hl:∀x∈l,gK n x)(h:Can ls l):pE n ls l=true:=(D4 aD hl).2 h
theorem ze{l:List Int}(hl:∀x∈l,gK n x)(h:¬Can ls l):pE n ls l=false:=by
 cases e:pE n ls l with
 |false=>rfl
 |true=>exact absurd ((D4 aD hl).1 e) h
end
theorem sub_lt{ah:List Int}(h:l.Sublist ah)(hl:∀x∈ah,gK n x):∀x∈l,gK n x:=λ x b=>hl x (h.subset b)
theorem Ih(hm:m.length=n+1)(c:gK n x):pV m [x]=lB m x:=by
 have:=B9 (a:=m) (l:=[x]) hm (λ y b=>by rw[v_.1 b];exact c)
 cases e:lB m x with
 |true=>exact this.2 (λ y b=>by rw[v_.1 b];exact e)
 |false=>
  cases d:pV m [x] with
  |false=>rfl
  |true=>have:=this.1 d x (by simp);rw[e] at this;cases this
def oM(m:List Bool)(l:List Int):List Int:=l.filter λ x=>pV m [x]
def oA(m:List Bool)(l:List Int):List Int:=l.filter λ x=> !(pV m [x])
theorem OG(hm:m.length=n+1)(hl:∀x∈l,gK n x):oM m l=l.filter (lB m):=List.filter_congr λ x b=>Ih hm (hl x b)
theorem Ii(hm:m.length=n+1)(hl:∀x∈l,gK n x):oA m l=l.filter (λ x=> !(lB m x)):=List.filter_congr λ x b=>by rw[Ih hm (hl x b)]
theorem OH{x:Int}(h:(l.drop k).Sublist (o.drop i))(b:i<o.length)(hk:k<l.length):(je o i=je l k->(l.drop (k+1)).Sublist (o.drop (i+1)))/\(je o i≠je l k->(l.drop k).Sublist (o.drop (i+1))):=by
 rw[oN b,oN hk];rw[n_ b,n_ hk] at h;rw[n_ hk];constructor
 ·intro e;rw[e] at h;exact List.cons_sublist_cons.1 h
 ·intro c;rcases List.sublist_cons_iff.1 h with h1|⟨r,h1,f⟩
  ·exact h1
  ·injection h1 with d g
   exact absurd d.symm c
theorem OI(h:(l.drop k).Sublist (o.drop i))(b:o.length<=i)(hk:k<=l.length):k=l.length:=by
 rw[List.drop_eq_nil_of_le b] at h;have:=List.sublist_nil.1 h;have:=List.drop_eq_nil_iff.1 this;omega
end
section
open Go.RowKit
theorem OJ(x:Int)(A:Option Addr)(n c:Nat)(d:List Bool)(w:World)(h:kE w A n c d):
  Calls z_ 117 #[.int .i64 x,.slice A n c] w λ e w'=>e=.returned (.bool (sg d x))/\w=w':=by
 have hl:=h.len
 cases f:lT x 65536
 ·rw[Jg f];have g:=U f;clear f h hl;go_enter Tryz.func117,Tryz.ntmps117
  go_wp2_with (go_at_call 115;refine(xq false x 65536 w (by omega) (by omega) g.o).mono ?_;rintro e w' ⟨rfl,rfl⟩)
  go_ret;exact⟨rfl,rfl⟩
 ·rw[E6 f];have q:=vr.1 f;have g:=U f;obtain⟨k,hk⟩:∃k,x.natAbs=k:=⟨_,rfl⟩
  rw[hk];clear f;have B:=h.mu;rcases(show x=(k:Int)/\0<k\/x= -(k:Int)/\0<k by omega) with⟨rfl,r⟩|⟨rfl,r⟩
  ·have hp:(0:Int)<(k:Int):=by omega
   have m:decide ((0:Int)<(k:Int))=true:=decide_eq_true hp;have s:wrap64 (-(k:Int))= -(k:Int):=by unfold wrap64;omega
   have C: -(k:Int)<(k:Int):=(by omega);have t:max (k:Int) (-(k:Int))=(k:Int):=(by omega);have u:max (-(k:Int)) (k:Int)=(k:Int):=(by omega)
   have y:¬(k:Int)< -(k:Int):=by omega
   rw[m];clear hk q
   by_cases i:k<n
   ·obtain⟨b,off,rfl,z,j⟩:=h.cells (by omega);have l:=j k i;have e:d.getD k false=vt d k:=rfl;rw[e] at l;generalize vt d k=v at l⊢;have p:(k:Int)<(n:Int):=by omega
    clear j h hl e
    cases v
    all_goals
     go_enter Tryz.func117,Tryz.ntmps117
     go_wp2_with (go_at_call 115;refine(xq true _ 65536 w (by omega) (by omega) g.o).mono ?_;rintro e w' ⟨rfl,rfl⟩)
     go_ret;exact⟨rfl,rfl⟩
   ·rw[E7 hl i];have p:¬(k:Int)<(n:Int):=by omega
    clear h hl;go_enter Tryz.func117,Tryz.ntmps117
    go_wp2_with (go_at_call 115;refine(xq true _ 65536 w (by omega) (by omega) g.o).mono ?_;rintro e w' ⟨rfl,rfl⟩)
    go_ret;exact⟨rfl,rfl⟩
  ·have hp:¬(0:Int)< -(k:Int):=by omega
   have m:decide ((0:Int)< -(k:Int))=false:=decide_eq_false hp;have s:wrap64 (k:Int)=(k:Int):=by unfold wrap64;omega
   have y:¬(k:Int)< -(k:Int):=(by omega);have t:max (k:Int) (-(k:Int))=(k:Int):=(by omega);have u:max (-(k:Int)) (k:Int)=(k:Int):=(by omega)
   have D: -(k:Int)<(k:Int):=by omega
   rw[m];clear hk q
   by_cases i:k<n
   ·obtain⟨b,off,rfl,z,j⟩:=h.cells (by omega);have l:=j k i;have e:d.getD k false=vt d k:=rfl;rw[e] at l;generalize vt d k=v at l⊢;have p:(k:Int)<(n:Int):=by omega
    clear j h hl e
    cases v
    all_goals
     go_enter Tryz.func117,Tryz.ntmps117
     go_wp2_with (go_at_call 115;refine(xq true _ 65536 w (by omega) (by omega) g.o).mono ?_;rintro e w' ⟨rfl,rfl⟩)
     go_ret;exact⟨rfl,rfl⟩
   ·rw[E7 hl i];have p:¬(k:Int)<(n:Int):=by omega
    clear h hl;go_enter Tryz.func117,Tryz.ntmps117
    go_wp2_with (go_at_call 115;refine(xq true _ 65536 w (by omega) (by omega) g.o).mono ?_;rintro e w' ⟨rfl,rfl⟩)
    go_ret;exact⟨rfl,rfl⟩
theorem Ij(r:Bool)(x:Int)(A:Option Addr)(n c:Nat)(b:List Bool)(w:World)(h:kE w A n c b)(d:sg b x=r):
  Calls z_ 117 #[.int .i64 x,.slice A n c] w λ e w'=>e=.returned (.bool r)/\w=w':=by
 rw[<-d];exact OJ x A n c b w h
theorem OK(A:Option Addr)(n c:Nat)(f:List Int)(A':Option Addr)(j c':Nat)(d:List Bool)(w:World)(h:aL w A n c f)(h':kE w A' j c' d):
  Calls z_ 116 #[.slice A n c,.slice A' j c'] w λ e w'=>e=.returned (.bool (vY d f))/\w=w':=by
 have t:=h.small;have H:=U h;have p:=U h';clear h h';go_enter Tryz.func116,Tryz.ntmps116
 go_wp2
 go_loop [5] (λ i=>∃k:Nat,k<=n/\i=.int .i64 k/\(f.take k).any (sg d)=false) (λ i=>n-(intOf i).toNat)
 case atStart=>exact⟨0,l_ _,rfl,rfl⟩
 case round=>
  obtain⟨k,hk,rfl,q⟩:=hrel;have r:=U q;clear q
  by_cases m:k<n
  ·obtain⟨b,off,rfl,u,s⟩:=H.o.cells (by omega);have v:=s k m;clear s;have hl:k<f.length:=by rw[H.o.len];exact m
   cases l:sg d (je f k)
   ·have g:=U l;clear l
    go_wp2_with (go_at_call 117;refine(Ij false _ A' j c' d _ p.o g.o).mono ?_;rintro e w' ⟨rfl,rfl⟩)
    go_round
    case rel=>exact⟨k+1,by omega,by go_num,EX hl g.o r.o⟩
    case measure=>simp[intOf];omega
   ·have g:=U l;clear l
    go_wp2_with (go_at_call 117;refine(Ij true _ A' j c' d _ p.o g.o).mono ?_;rintro e w' ⟨rfl,rfl⟩)
    go_ret;exact⟨mO (EW hl g.o).symm,rfl⟩
  ·go_wp2;go_ret;exact⟨mO (EY H.o.len m r.o).symm,rfl⟩
theorem Ik(r:Bool)(A:Option Addr)(n c:Nat)(b:List Int)(A':Option Addr)(d c':Nat)(f:List Bool)(w:World)(h:aL w A n c b)(h':kE w A' d c' f)(g:vY f b=r):
  Calls z_ 116 #[.slice A n c,.slice A' d c'] w λ e w'=>e=.returned (.bool r)/\w=w':=by
 rw[<-g];exact OK A n c b A' d c' f w h h'
theorem OL(h:k<ls.length)(e:p (n5 ls k)=false):ls.all p=false:=by
 rw[tM h] at e;rw[List.all_eq_false];exact⟨_,List.getElem_mem h,by simp[e]⟩
theorem OM(h:k<ls.length)(e:p (n5 ls k)=true)(b:(ls.take k).all p=true):(ls.take (k+1)).all p=true:=by
 rw[CC ls k h,List.all_append,b];simp[e]
theorem ON(hl:ls.length=n)(h:¬k<n)(b:(ls.take k).all p=true):ls.all p=true:=by
 rw[Zy (by omega)] at b;exact b
theorem Em(x:Int)(A:Option Addr)(n c:Nat)(ls:List (List Int))(A':Option Addr)(m c':Nat)(d:List Bool)(w:World)(h:ku w A n c ls)(h':kE w A' m c' d):
  Calls z_ 96 #[.agg #[.int .i64 x,.slice A n c],.slice A' m c'] w λ e w'=>e=.returned (.bool (rO x ls d))/\Below w.heap.size w w':=by
 have M:=h.small;have g:Below w.heap.size w (w.alloc (.cells #[.int .i64 x,.slice A n c] 24)):=(Below.refl _ _).alloc (r_ _) _;have p:=o6.new w x A n c;obtain⟨u,v⟩:∃e,lM x ls=e:=⟨_,rfl⟩
 have q:=U v;go_enter Tryz.func96,Tryz.ntmps96
 go_wp2;generalize K:w.alloc (.cells #[.int .i64 x,.slice A n c] 24)=W at g p⊢;have H:=U (h.below g);have y:=U (h'.below g);have j:=U g;have N:=p.bf;have O:=p.c1;clear K p g h h' v
 go_loop [5] (λ i=>∃k:Nat,k<=n/\i=.int .i64 k/\(ls.take k).all (vY d)=true) (λ i=>n-(intOf i).toNat)
 case atStart=>exact⟨0,l_ _,rfl,rfl⟩
 case round=>
  obtain⟨k,hk,rfl,z⟩:=hrel;have B:=U z;clear z
  by_cases s:k<n
  ·obtain⟨b,off,rfl,f,C⟩:=H.o.cells (by omega);obtain⟨a1,D,c1,P,E⟩:=C k s;clear C;have F:=U E;clear E;have hl:k<ls.length:=by rw[H.o.len];exact s
   cases r:vY d (n5 ls k)
   ·have l:=U r;clear r
    go_wp2_with (go_at_call 116;refine(Ik false a1 D c1 _ A' m c' d _ F.o y.o l.o).mono ?_;rintro e w' ⟨rfl,rfl⟩)
    go_ret;exact⟨mO (by unfold rO;rw[OL hl l.o,Bool.and_false]),j.o⟩
   ·have l:=U r;clear r
    go_wp2_with (go_at_call 116;refine(Ik true a1 D c1 _ A' m c' d _ F.o y.o l.o).mono ?_;rintro e w' ⟨rfl,rfl⟩)
    go_round
    case rel=>exact⟨k+1,by omega,by go_num,OM hl l.o B.o⟩
    case measure=>simp[intOf];omega
  ·have G:=ON H.o.len s B.o;have I:=U G;clear G
   by_cases J:u=0
   ·subst J
    go_wp2_with (go_at_call 88;refine(CF x A n c ls _ H.o).mono ?_;rintro e w' ⟨rfl,f⟩;rw[q.o];have t:=U f;clear f)
    go_ret;exact⟨mO (by unfold rO;rw[I.o,q.o];rfl),j.o.trans (t.o.mono j.o.size)⟩
   ·have L:(u==0)=false:=by simpa using J
    go_wp2_with (go_at_call 88;refine(CF x A n c ls _ H.o).mono ?_;rintro e w' ⟨rfl,f⟩;rw[q.o];have t:=U f;clear f)
    go_ret;exact⟨mO (by unfold rO;rw[I.o,q.o];simp[L]),j.o.trans (t.o.mono j.o.size)⟩
def sK(n k j:Nat):List Bool:=(List.range (n+1)).map λ v=>decide (1<=v)&&decide (v<=j)&&uU k (v-1)
theorem En(n k j:Nat):(sK n k j).length=n+1:=by simp[sK]
theorem AA(n k j v:Nat)(h:v<(sK n k j).length):(sK n k j)[v]=(decide (1<=v)&&decide (v<=j)&&uU k (v-1)):=by simp[sK]
theorem OO(n k v:Nat)(h:v+1<(nO n k).length):(nO n k)[v+1]=uU k v:=by simp[nO]
theorem OP(n k:Nat):sK n k 0=List.replicate (n+1) false:=by
 refine c_ (by simp[sK]) λ v h1 b=>?_
 rw[AA,List.getElem_replicate]
 by_cases h:1<=v
 ·rw[decide_eq_false (show¬v<=0 by omega)];simp
 ·rw[decide_eq_false h];simp
theorem OQ(n k j:Nat)(b:j<n):(sK n k j).set (j+1) (uU k j)=sK n k (j+1):=by
 refine c_ (by simp[sK]) λ v h1 c=>?_
 rw[List.getElem_set,AA];split
 ·rename_i e;subst e;rw[AA,decide_eq_true (show 1<=j+1 by omega),decide_eq_true (show j+1<=j+1 by omega)];rfl
 ·rename_i e;rw[AA]
  by_cases h:v<=j
  ·rw[decide_eq_true h,decide_eq_true (show v<=j+1 by omega)]
  ·rw[decide_eq_false h,decide_eq_false (show¬v<=j+1 by omega)]
theorem OR(n k:Nat):sK n k n=nO n k:=by
 refine c_ (by simp[sK,nO]) λ v h1 b=>?_
 rw[AA];rw[En] at h1
 cases v with
 |zero=>simp[nO]
 |succ v=>
  rw[OO,decide_eq_true (show 1<=v+1 by omega),decide_eq_true (show v+1<=n by omega)];rfl
theorem OS(k j:Nat):uU k j=decide (((k/2^j:Nat):Int)%2=1):=by
 unfold uU;rw[decide_eq_decide];omega
theorem OT(n k:Nat)(w:World)(F:n<=60000)(hk:k<4611686018427387904):
  Calls z_ 94 #[.int .i64 n,.int .i64 k] w λ e w'=>∃A c,e=.returned (.slice A (n+1) c)/\kE w' A (n+1) c (nO n k)/\Below w.heap.size w w':=by
 obtain⟨i0,f,g,i,l⟩:=info_parts Ak;have G:∀W:World,(Instr.makeSlice 28 (.int .i64 ((n:Int)+1)) (.int .i64 ((n:Int)+1))).run z_ W=.ok (.slice (some ⟨W.heap.size,0,none⟩) (n+1) (n+1)) (W.alloc (.cells (madeCells #[e_ false] (n+1)) 4)):=λ W=>by
  have:=run_make (P:=z_) W 28 4 i0 (.bool false) Tryz.underlying28 f g .i64 .i64 ((n:Int)+1) ((n:Int)+1) (by omega) (by omega) (by rw[l];omega) (by omega);rw[i,show((n:Int)+1).toNat=n+1 by omega,Nat.mul_one] at this;exact this
 have wn:IntKind.i64.wrap ((n:Int)+1)=(n:Int)+1:=by rw[IntKind.wrap_i64];omega
 clear f g i l;have m:(w.alloc (.cells (madeCells #[e_ false] (n+1)) 4)).ownsRow w.heap.size 4 1 (.slice (some ⟨w.heap.size,0,none⟩) (n+1) (n+1)) (n+1) ((sK n k 0).map e_):=by
  refine⟨by simp[En],.inr ⟨_,_,_,rfl,r_ _,heap_alloc_new _ _,r_ _,by unfold maxLen;omega,by rw[size_madeCells];simp,?_⟩⟩;rw[toList_madeCells_one,Zy (by simp),OP,List.map_replicate]
 have p:=bz w (.cells (madeCells #[e_ false] (n+1)) 4);have y:=U m;have z:=U p;clear m p;go_enter Tryz.func94,Tryz.ntmps94
 go_wp2
 go_loopw [1,6] (λ q v W=>∃j:Nat,j<=n/\v=.int .i64 ((j:Int)+1)/\q=.int .i64 ((k/2^j:Nat):Int)/\W.ownsRow w.heap.size 4 1 (.slice (some ⟨w.heap.size,0,none⟩) (n+1) (n+1)) (n+1) ((sK n k j).map e_)/\Below w.heap.size w W) (λ _ v _=>n+1-(intOf v).toNat)
 case atStart=>exact⟨0,l_ _,rfl,by simp,y.o,z.o⟩
 case round=>
  obtain⟨j,H,rfl,rfl,b,d⟩:=hrel;have r:=U b;have s:=U d;have I:=(b.lt w.heap.size rfl).2;have B:k/2^j<=k:=Nat.div_le_self _ _;have t:k/2^(j+1)=k/2^j/2:=by rw[Nat.pow_succ,Nat.div_div_eq_div_mul]
  have u:=OS k j;obtain⟨q,C⟩:∃q,k/2^j=q:=⟨_,rfl⟩
  rw[C] at u t B⊢
  by_cases D:j<n
  ·have E:(j:Int)+1<=(n:Int):=by omega
   have J:(j:Int)+1<(n:Int)+1:=by omega
   have cl:wr.cell? ⟨w.heap.size,j+1,none⟩=some (.bool (iE (sK n k j) (j+1))):=by
    have:=b.cellAt (j:=j+1) (by omega);rw[this,List.getElem?_map];unfold iE;rw[u_,m_ (by rw[En];omega)];rfl
   have K:wr.frozen? ⟨w.heap.size,j+1,none⟩=false:=b.frozenAt (j+1);clear b d;go_wp2;refine⟨⟨j+1,by omega,by go_num,by rw[t];go_num,?_,s.o.setCell (r_ _) _⟩,by simp[intOf];omega⟩;have h1:=E5 (k:=j+1) r.o (.bool ((q:Int)%2==1));rw[<-OQ n k j D,u,List.map_set];exact h1
  ·obtain rfl:j=n:=by omega
   have E:¬(j:Int)+1<=(j:Int):=by omega
   clear b d;go_wp2;go_ret;refine⟨_,_,rfl,?_,s.o⟩;rw[<-OR];exact kE.kW r.o (by omega)
end
section
open Go.RowKit Go.Shelf
def Plain(A:Option Addr):Prop:=A=none\/∃b off,A=some ⟨b,off,none⟩
def Cj(w:World)(e:TypeId)(size:Nat)(k:Nat)(ys:List Value)(v':Value)(w':World):Prop:=w'.ownsRow w.heap.size e size v' k ys/\Below w.heap.size w w'
theorem Ck(g:w.grownBy w' none):Below w.heap.size w w':=⟨g.os,g.tape,g.output,g.size,λ k hk=>g.block k hk (by simp)⟩
theorem OU(w:World)(ty:TypeId){A:Option Addr}{jK c:Nat}{rs:List Row}(i:oh w A jK c rs)(q:Plain A)(f c1:Nat)(r:Row)(g:w.cell? ⟨f,0,none⟩=some (kS r))(D:jK<=1000000)(s:A=none->jK=0):
  ∃v' w',(Builtin.append_ #[22,22] ty #[.slice A jK jK,.slice (some ⟨f,0,none⟩) 1 c1]).run z_ w=.ok v' w'/\Cj w 25 1 (jK+1) ((rs++[r]).map kS) v' w':=by
 obtain⟨i0,k,l,m,n⟩:=info_parts EZ;have o:∀j u,([kS r]:List Value)[j]? =some u->w.cell? ((⟨f,0,none⟩:Addr).add j)=some u:=by
  intro j u d;have t:j<1:=(s_.1 d).1;obtain rfl:j=0:=by omega
  rw[b_,Zo];simp only[y_,g_] at d;subst d;exact g
 have v:∀u∈([kS r]:List Value),u.oneCell'=true:=by
  intro u hu;rw[v_.1 hu];rfl
 have p:=i.len;have y:(rs++[r]).map kS=rs.map kS++[kS r]:=by simp
 rw[y];rcases q with rfl|⟨b,off,rfl⟩
 ·have g:=s rfl;subst g;have:rs=[]:=q_ p;subst this;obtain⟨v',w',g1,g2,g3,_,g5⟩:=run_append_own_at (P:=z_) w w.heap.size 22 ty 25 i0 (.slice none 0 0) 1 24 p_ k l m n rfl (by decide) (.slice none 0 0) 0 [] (f_ _ _ _ _) ⟨f,0,none⟩ 1 c1 [kS r] rfl o v (by unfold maxLen;omega) (by omega) (r_ _);exact⟨v',w',g1,g2,Ck g3⟩
 ·obtain⟨v',w',g1,g2,g3⟩:=run_append_arg_grows (P:=z_) w 22 ty 25 i0 (.slice none 0 0) 1 24 p_ k l m n rfl (by decide) ⟨b,off,none⟩ jK jK (rs.map kS) (by rw[Zz,p];omega) (λ j u d=>by
   rw[b_];have t:j<jK:=by have:=(s_.1 d).1;rw[Zz] at this;omega
   obtain⟨E,F,e,_,z⟩:=i.cells (by omega);injection e with e
   injection e with B C
   subst B C;exact z j u d) ⟨f,0,none⟩ 1 c1 [kS r] rfl o (by omega) (by unfold maxLen;omega) (by omega)
  exact⟨v',w',g1,g2,Ck g3⟩
theorem OV(w:World)(ty:TypeId){A:Option Addr}{bG c:Nat}{es:List nx}(i:oz w A bG c es)(s:Plain A)(f c1:Nat)(r:nx)(g:w.cell? ⟨f,0,none⟩=some (.int .i64 r.lH))(h1:w.cell? ⟨f,1,none⟩=some (kS r.r))(D:bG<=1099511627776)(t:A=none->bG=0):
  ∃v' w',(Builtin.append_ #[45,45] ty #[.slice A bG bG,.slice (some ⟨f,0,none⟩) 1 c1]).run z_ w=.ok v' w'/\Cj w 126 2 (bG+1) (mR (es++[r])) v' w':=by
 obtain⟨i0,k,l,m,n⟩:=info_parts GZ;have o:∀j u,(rK r)[j]? =some u->w.cell? ((⟨f,0,none⟩:Addr).add j)=some u:=by
  intro j u d;have p:j<2:=(s_.1 d).1;rw[b_,Zo];unfold rK at d;rcases(show j=0\/j=1 by omega) with rfl|rfl
  ·simp only[y_,g_] at d;subst d;exact g
  ·simp only[x_,y_,g_] at d;subst d;exact h1
 have v:∀u∈rK r,u.oneCell'=true:=by
  intro u hu;unfold rK at hu;simp only[Zq,List.not_mem_nil,or_false] at hu;rcases hu with rfl|rfl<;>rfl
 have q:=i.len;have y:mR (es++[r])=mR es++rK r:=by rw[NK];simp[mR]
 rw[y];rcases s with rfl|⟨b,off,rfl⟩
 ·have g:=t rfl;subst g;have:es=[]:=q_ q;subst this;obtain⟨v',w',g1,g2,g3,_,g5⟩:=run_append_own_at (P:=z_) w w.heap.size 45 ty 126 i0 (.agg #[.int .i64 0,.slice none 0 0]) 2 32 Tryz.underlying45 k l m n rfl (by decide) (.slice none 0 0) 0 [] (f_ _ _ _ _) ⟨f,0,none⟩ 1 c1 (rK r) rfl o v (by unfold maxLen;omega) (by omega) (r_ _);exact⟨v',w',g1,g2,Ck g3⟩
 ·obtain⟨v',w',g1,g2,g3⟩:=run_append_arg_grows (P:=z_) w 45 ty 126 i0 (.agg #[.int .i64 0,.slice none 0 0]) 2 32 Tryz.underlying45 k l m n rfl (by decide) ⟨b,off,none⟩ bG bG (mR es) (by rw[x4,q]) (λ j u d=>by
   rw[b_];have p:j<bG*2:=by have:=(s_.1 d).1;rw[x4] at this;omega
   obtain⟨E,F,e,_,z⟩:=i.cells (by omega);injection e with e
   injection e with B C
   subst B C;exact(z j p).trans d) ⟨f,0,none⟩ 1 c1 (rK r) rfl o (by omega) (by unfold maxLen;omega) (by omega)
  exact⟨v',w',g1,g2,Ck g3⟩
theorem OW{rest:List Oper}{o:Oper}(d:o.guard=none)(s x:Operand)
  (e:o.op=.call {callee:=.builtin .append,args:= #[s,x],argTypes:= #[22,22]}) {A:Option Addr} {jK c:Nat} {rs:List Row} (f:oh w A jK c rs) (g:Plain A) (b c1:Nat) (r:Row) (hs:a.eval s=.slice A jK jK) (i:a.eval x=.slice (some ⟨b,0,none⟩) 1 c1) (j:w.cell? ⟨b,0,none⟩=some (kS r)) (k:jK<=1000000) (l:A=none->jK=0)
  (h:∀v' w',Cj w 25 1 (jK+1) ((rs++[r]).map kS) v' w'->wpList z_ ops Q rest (a.put o.dst v') w'):
  wpList z_ ops Q (o::rest) a w:=by
 obtain⟨v',w',h1,m⟩:=OU w o.type f g b c1 r j k l;refine wpList_plain d λ K n=>?_
 unfold Oper.wp;simp only[execOp,e,resolve,invoke,builtin,Sem.run_bind,Sem.run_pure,Result.andThen_ok,List.map_toArray,List.map_cons,List.map_nil,hs,i,h1];exact n _ _ (h v' w' m)
theorem OX{rest:List Oper}{o:Oper}(d:o.guard=none)(s x:Operand)
  (e:o.op=.call {callee:=.builtin .append,args:= #[s,x],argTypes:= #[45,45]}) {A:Option Addr} {bG c:Nat} {es:List nx} (f:oz w A bG c es) (g:Plain A) (b c1:Nat) (r:nx) (hs:a.eval s=.slice A bG bG) (i:a.eval x=.slice (some ⟨b,0,none⟩) 1 c1) (j:w.cell? ⟨b,0,none⟩=some (.int .i64 r.lH)) (k:w.cell? ⟨b,1,none⟩=some (kS r.r)) (l:bG<=1099511627776) (m:A=none->bG=0)
  (h:∀v' w',Cj w 126 2 (bG+1) (mR (es++[r])) v' w'->wpList z_ ops Q rest (a.put o.dst v') w'):
  wpList z_ ops Q (o::rest) a w:=by
 obtain⟨v',w',h1,n⟩:=OV w o.type f g b c1 r j k l m;refine wpList_plain d λ K p=>?_
 unfold Oper.wp;simp only[execOp,e,resolve,invoke,builtin,Sem.run_bind,Sem.run_pure,Result.andThen_ok,List.map_toArray,List.map_cons,List.map_nil,hs,i,h1];exact p _ _ (h v' w' n)
structure vp(w W:World)(L M:List Value):Prop where
 cI:aT W w.heap.size 47 L
 aQ:aT W (w.heap.size+1) 47 M
 kD:Below w.heap.size w W
theorem vp.init(w:World)(L M:List Value):vp w ((w.alloc (.cells L.toArray 47)).alloc (.cells M.toArray 47)) L M:=by
 have c:aT (w.alloc (.cells L.toArray 47)) w.heap.size 47 L:=aT.new w 47 L;have d:=bz w (.cells L.toArray 47);have z0:(w.alloc (.cells L.toArray 47)).heap.size=w.heap.size+1:=by simp
 generalize w.alloc (.cells L.toArray 47)=w1 at*;have h1:aT (w1.alloc (.cells M.toArray 47)) w1.heap.size 47 M:=aT.new w1 47 M;have b:=bz w1 (.cells M.toArray 47);rw[z0] at h1;exact⟨c.below b,h1,d.trans (b.mono (by omega))⟩
theorem vp.below{w W W':World}{L M:List Value}(h:vp w W L M)(b:Below W.heap.size W W'):vp w W' L M:=⟨h.cI.below b,h.aQ.below b,h.kD.trans (b.mono h.kD.size)⟩
theorem vp.Il{L M:List Value}(h:vp w W L M)(k:Nat)(v:Value):vp w (W.setCell ⟨w.heap.size,k,none⟩ v) (L.set k v) M:=
 ⟨h.cI.set k v,h.aQ.kept (k8 W w.heap.size k v) (λ e=>by injection e with e;omega),h.kD.setCell (r_ _) _⟩
def Im(w:World)(n:Nat)(s:k7)(o:Option Addr)(p:Nat)(q:Option Addr)(r:Nat)(d:Option Addr)(cl:Nat)(A:Option Addr)(c:Nat)(A':Option Addr)(c':Nat)(f:Option Addr)(g:Nat)(t:List Int)(e:Ending)(W:World):Prop:=
 ∃(s':k7)(i:Option Addr)(j:Nat)(k:Option Addr)(l:Nat),e=.returned (.tuple #[rL n i s'.gs.length j d s'.es.length cl A (n+1) c A' n c' s'.bt f (n+1) g k s'.aF.length l,.int .i64 0])/\
  ri W s' i j d cl A c A' c' f g k l/\pF n s'/\s'.gs=s.gs++[t]/\s'.es=s.es/\s'.bt=s.bt/\s.aF<+:s'.aF/\s'.aF.length=s.aF.length+1/\Below w.heap.size w W/\za w W k s'.aF.length l s'.aF/\(i=none->s'.gs.length=0/\j=0)/\
  ∀m:Nat->Prop,(∀b,m b->b<w.heap.size)->(∀W',aG (λ b=>b<w.heap.size/\¬m b) w W'->ri W' s o p d cl A c A' c' f g q r)->uW W m s' i j d cl A c A' c' f g k l
theorem oh.zb{w:World}{D:Nat->Prop}{A:Option Addr}{n c:Nat}{ls:List (List Int)}{rs:List Row}(g:oh w A n c rs)(hs:∀W,aG (λ b=>b<w.heap.size/\¬D b) w W->ku W A n c ls):∀r∈rs,∀b,r.A.map (·.block)=some b->0<r.n->¬D b:=by
 intro r l b e m;have hw:=hs _ (Ea w D);obtain⟨j,o,q⟩:=Zu.1 l;have hlen:=g.len;obtain⟨i,s,t,h1,u⟩:=g.cells (by omega);obtain⟨E,F,f,_,v⟩:=hw.cells (by omega);rw[t] at f;injection f with f
 injection f with f y _
 subst f y;obtain⟨A',G,c',d,k⟩:=v j (by omega);have z:¬D i:=λ B=>by rw[Eb B] at d;cases d
 rw[(Ea w D).cell (p:=⟨i,s+j,none⟩) ⟨h1,z⟩] at d;have C:=u j (kS r) (by rw[List.getElem?_map,m_ o,q];rfl);rw[C] at d;injection d with d
 injection d with a1 a2 a3
 rw[<-a1,<-a2,<-a3] at k;exact k.zb b e m
theorem oz.kW{es:List nx}(h:w.ownsRow base 126 2 (.slice A n c) n (mR es))(d:n*32<=140737488355328)(f:∀e∈es,aL w e.r.A e.r.n e.r.c e.r.ai):oz w A n c es:=by
 have hl:es.length=n:=by have:=h.1;rw[x4] at this;omega
 rcases h.2 with⟨b,i⟩|⟨g,cap,cur,b,m,o,j,l,p,q⟩
 ·simp only[Zn] at b;obtain⟨rfl,_,rfl⟩:=b;subst i;exact⟨hl,r_ _,d,l_ _,λ h=>absurd h (by omega),f⟩
 ·simp only[Zn] at b;obtain⟨rfl,_,rfl⟩:=b;refine⟨hl,j,d,l,λ i=>⟨g,0,rfl,(h.lt g rfl).2,λ k hk=>?_⟩,f⟩;rw[Zo];exact h.cellAt k hk
theorem pF.add(O:pF n s){ai:List Int}(c:∀x∈ai,gK n x)(d:s.gs.length<65536)(r:Row)(i:r.ai=ai):pF n ⟨n,s.gs++[ai],s.es,s.act,s.ord,s.bt,s.hM,s.aF++[⟨1,r⟩]⟩:=by
 refine⟨rfl,by simp;omega,λ g d x b=>?_,O.hk,O.nG,O.oU,O.w6,λ e he M f=>O.HH e he M ⟨f.1,λ l hl=>f.2 l (t_.2 (.inl hl))⟩,O.D9,λ p hp=>?_⟩
 ·rcases t_.1 d with h1|h1
  ·exact O.bH g h1 x b
  ·rw[v_.1 h1] at b;exact c x b
 ·rcases t_.1 hp with h1|h1
  ·exact O.Cb p h1
  ·rw[v_.1 h1];exact⟨.inl rfl,by show∀x∈r.ai,_;rw[i];exact c⟩
theorem OY{w0:World}(d:ku w0 A n c ls)(f:A=none->n=0/\c=0)(w:World)(g:Plain A):Calls z_ 108 #[.slice A n c] w λ e w'=>e=.returned (.slice A n n)/\w'=w:=by
 rcases g with rfl|⟨b,off,rfl⟩
 ·obtain⟨h1,i⟩:=f rfl;subst h1 i;exact NF w
 ·exact ND b off n c w d.cap
theorem OZ{v4 v5 v6 j8:Value}(n:a.defers=[])(c:a.tmps.getD 4 undef=.pointer (some ⟨aQ,0,none⟩))(d:a.tmps.getD 5 undef=.int .i64 0)
  (b:aT W aQ 47 [v0,v1,v2,v3,v4,v5,v6,j8]) (h:aN (.returned (.tuple #[.agg #[v0,v1,v2,v3,v4,v5,v6,j8],.int .i64 0])) W):bodyPost z_ Tryz.f46 aN .ret a W:=by
 have e:=b.cell 0;have f:=b.cell 1;have g:=b.cell 2;have i:=b.cell 3;have j:=b.cell 4;have k:=b.cell 5;have l:=b.cell 6;have m:=b.cell 7;simp only[y_,x_] at e f g i j k l m;refine bodyPost_ret (v:=.tuple #[.agg #[v0,v1,v2,v3,v4,v5,v6,j8],.int .i64 0]) ?_ n h;rw[o_] at c d;simp[results,Tryz.results46,go_sem,c,d,e,f,g,i,j,k,l,m]
theorem O0{bp:Option Addr}{aR:Nat}{iV:Option Addr}{cl:Nat}{A':Option Addr}{c':Nat}{gY:Option Addr}{gJ:Nat}{bu:Option Addr}{bE:Nat}{oZ:Option Addr}{kG bf:Nat}(O:pF n s)(L:n<=10)(Z:ri w s bp aR iV cl A c A' c' gY gJ bu bE)(aM:aL w oZ kG bf ai)(aa:∀x∈ai,gK n x)(aN:s.gs.length<65536)(aO:s.aF.length<=549755813888)
  (aP:bu=none->s.aF.length=0/\bE=0) (aS:bp=none->s.gs.length=0/\aR=0) (aU:Plain bu) (aV:Plain bp):
  Calls z_ 46 #[rL n bp s.gs.length aR iV s.es.length cl A (n+1) c A' n c' s.bt gY (n+1) gJ bu s.aF.length bE,.slice oZ kG bf] w (Im w n s bp aR bu bE iV cl A c A' c' gY gJ ai):=by
 obtain⟨k,ab⟩:∃x,s.gs.length=x:=⟨_,rfl⟩
 obtain⟨nl,ad⟩:∃x,s.es.length=x:=⟨_,rfl⟩
 obtain⟨m,ae⟩:∃x,s.aF.length=x:=⟨_,rfl⟩
 have bK:bJ (∀W:World,Below w.heap.size w W->Calls z_ 49 #[rL n bp k aR iV nl cl A (n+1) c A' n c' s.bt gY (n+1) gJ bu m bE] W λ e w'=>e=.returned (.int .i64 0)/\Below W.heap.size W w'):=U λ W p=>by
  have:=HW O L (Z.below p);rw[ab,ad,ae] at this;exact this
 obtain⟨rs,aW,aX⟩:=Z.gs.E2;have d:=U (w_ Z (w_ O (w_ ab (w_ ad (w_ ae (w_ aM (w_ aa (w_ aN (w_ aO (w_ aP (w_ aS (w_ aU (w_ aV (w_ aW aX))))))))))))));have aY:k<65536:=by omega
 have aZ:¬(65536:Int)<=(k:Int):=by omega
 have bL:(k:Int)<65536:=by omega
 have dg:decide ((65536:Int)<=(k:Int))=false:=decide_eq_false aZ;have bN:=U aY;clear aZ bL aY;rw[ab,ad,ae];clear Z O aM aa aN aO aP aS aU aV aW aX ab ad ae;unfold rL at*;go_enter Tryz.func46,Tryz.ntmps46
 go_upto_region 1 with fail
 have E:vp w ((w.alloc (.cells #[.int .i64 n,.slice bp k aR,.slice iV nl cl,.slice A (n+1) c,.slice A' n c',.int .i64 s.bt,.slice gY (n+1) gJ,.slice bu m bE] 47)).alloc (.cells #[.int .i64 0,.slice none 0 0,.slice none 0 0,.slice none 0 0,.slice none 0 0,.int .i64 0,.slice none 0 0,.slice none 0 0] 47)) [.int .i64 n,.slice bp k aR,.slice iV nl cl,.slice A (n+1) c,.slice A' n c',.int .i64 s.bt,.slice gY (n+1) gJ,.slice bu m bE] uX:=vp.init w [.int .i64 n,.slice bp k aR,.slice iV nl cl,.slice A (n+1) c,.slice A' n c',.int .i64 s.bt,.slice gY (n+1) gJ,.slice bu m bE] uX;generalize ((w.alloc (.cells #[.int .i64 n,.slice bp k aR,.slice iV nl cl,.slice A (n+1) c,.slice A' n c',.int .i64 s.bt,.slice gY (n+1) gJ,.slice bu m bE] 47)).alloc (.cells #[.int .i64 0,.slice none 0 0,.slice none 0 0,.slice none 0 0,.slice none 0 0,.int .i64 0,.slice none 0 0,.slice none 0 0] 47))=bO at*;have M:=E.cI.cell 0;have y:=E.cI.cell 1;have af:=E.cI.cell 2;have ag:=E.cI.cell 3;have ah:=E.cI.cell 4;have aj:=E.cI.cell 5;have ak:=E.cI.cell 6;have F:=E.cI.cell 7;simp only[y_,x_] at M y af ag ah aj ak F;have bP:=U (bK.o bO E.kD);have bQ:=U E;clear E
 go_upto_region 4 with(go_at_call 49;refine bP.o.mono ?_;rintro e al ⟨rfl,a6⟩;have az:=U (bQ.o.below a6);clear M y af ag ah aj ak F a6;have M:=az.o.cI.cell 0;simp only[y_] at M)
 have a7:=d.o.2.2.2.2.2.1.below az.o.kD;have bR:=U (xu n (some ⟨al.heap.size,0,none⟩) 1 1 [ai] _ (oh.Ci al ⟨oZ,kG,bf,ai⟩ a7).CJ);have a8:lM n [ai]=0:=B7 (by omega) (by simp) (λ l hl=>by rw[v_.1 hl];exact d.o.2.2.2.2.2.2.1);have bS:=U a8;clear a7 a8
 go_upto_region 6 with(go_at_call 107;refine bR.o.mono ?_;rintro e aA ⟨rfl,a'⟩;rw[bS.o];have R:=U (az.o.below ((bz al _).trans (a'.mono (bz al _).size)));clear M a';have y:=R.o.cI.cell 1;simp only[y_,x_] at y)
 go_upto_region 8 with fail
 have bT:=U (vj oZ kG bf ai aA (d.o.2.2.2.2.2.1.below R.o.kD));have ba:=d.o.2.2.2.2.2.1.len;have bb:=d.o.2.2.2.2.2.1.mu;have bc:=U (w_ ba bb);clear y
 go_upto_region 9 with(go_at_call 81;refine bT.o.mono ?_;rintro e t ⟨j,c2,rfl,bd,bg⟩;have S:=U (w_ bd bg);clear bd bg)
 have bh:aL t j kG c2 ai:=by
  have h1:=S.o.1;rw[bc.o.1] at h1;exact aL.kW h1 bc.o.2
 have T:=U (R.o.below S.o.2);have bU:=U bh;clear bh ba bb;have y:=T.o.cI.cell 1;simp only[y_,x_] at y;have bj:bJ (∀W:World,Calls z_ 108 #[.slice bp s.gs.length aR] W λ e w'=>e=.returned (.slice bp s.gs.length s.gs.length)/\W=w'):=U (λ W=>(OY (w0:=w) d.o.1.gs d.o.2.2.2.2.2.2.2.2.2.2.1 W d.o.2.2.2.2.2.2.2.2.2.2.2.2.1).mono (λ e w' h=>⟨h.1,h.2.symm⟩));have bk:bJ (∀W:World,Calls z_ 109 #[.slice bu s.aF.length bE] W λ e w'=>e=.returned (.slice bu s.aF.length s.aF.length)/\W=w'):=U (λ W=>(HX (w0:=w) d.o.1.aF d.o.2.2.2.2.2.2.2.2.2.1 W (λ h=>d.o.2.2.2.2.2.2.2.2.2.2.2.1.resolve_left h)).mono (λ e w' h=>⟨h.1,h.2.symm⟩));rw[d.o.2.2.1] at bj;rw[d.o.2.2.2.2.1] at bk;have bl:oh (t.alloc (.cells #[kS ⟨j,kG,c2,ai⟩] 25)) bp k aR rs:=by
  have h1:=d.o.2.2.2.2.2.2.2.2.2.2.2.2.2.2;rw[d.o.2.2.1] at h1;exact(h1.below T.o.kD).below (bz t _)
 have bV:=U bl;have bn:(t.alloc (.cells #[kS ⟨j,kG,c2,ai⟩] 25)).cell? ⟨t.heap.size,0,none⟩=some (kS ⟨j,kG,c2,ai⟩):=(aT.new t 25 [kS ⟨j,kG,c2,ai⟩]).cell 0;have bW:=U bn;clear bl bn
 go_upto_region 10 with(first
  |(go_at_call 108;refine(bj.o _).mono ?_;rintro e bX ⟨rfl,rfl⟩)
  |(at_builtin;refine OW rfl (.tmp 30) (.tmp 32) rfl bV.o d.o.2.2.2.2.2.2.2.2.2.2.2.2.1 t.heap.size 1 ⟨j,kG,c2,ai⟩ rfl rfl bW.o (by have:=bN.o;omega) (λ e=>by have:=(d.o.2.2.2.2.2.2.2.2.2.2.1 e).1;have N:=d.o.2.2.1;omega) ?_;intro sR aB G;obtain⟨⟨z,jU,B⟩,aC,an⟩:=ax.kW G.1;obtain rfl:sR=.slice z jU B:=aC;have bo:=U G;have bY:=U an;have aD:=U (T.o.below ((bz t _).trans (G.2.mono (bz t _).size)));clear G an y;have y:=aD.o.cI.cell 1;have bZ:=aD.o.cI.free 1;simp only[y_,x_] at y))
 have an:jU=k+1:=bY.o;subst an;have ao:=U (aD.o.Il 1 (.slice z (k+1) B));have bq:(t.alloc (.cells #[.slice j kG c2] 25)).heap.size=t.heap.size+1:=by simp
 have b0:w.heap.size<t.heap.size:=T.o.cI.lt;have b1:w.heap.size<aA.heap.size:=R.o.cI.lt;have br:(aB.setCell ⟨w.heap.size,1,none⟩ (.slice z (k+1) B)).ownsRow (t.heap.size+1) 25 1 (.slice z (k+1) B) (k+1) ((rs++[(⟨j,kG,c2,ai⟩:Row)]).map kS):=by
  have h1:=bo.o.1;rw[bq] at h1;exact oS h1 (λ b p=>Below.heap_setCell _ _ _ _ (by show b≠w.heap.size;have:=(h1.lt b p).1;omega))
 have bs:aL (aB.setCell ⟨w.heap.size,1,none⟩ (.slice z (k+1) B)) j kG c2 ai:=by
  refine((bU.o.below (bz t _)).below bo.o.2).nv _ (λ b off e=>?_);have h1:=(S.o.1.lt b (by rw[e];rfl)).1;show b≠w.heap.size;omega
 have aE:=U (w_ br bs);clear br bs y bZ bq;generalize aB.setCell ⟨w.heap.size,1,none⟩ (.slice z (k+1) B)=bM at*;have F:=ao.o.cI.cell 7;simp only[j_,i_,y_,x_] at F;have aq:oz (bM.alloc (.cells #[.int .i64 1,kS ⟨j,kG,c2,ai⟩] 126)) bu m bE s.aF:=by
  have h1:=d.o.1.aF;rw[d.o.2.2.2.2.1] at h1;exact(h1.below ao.o.kD).below (bz bM _)
 have b2:=U aq;have aH:=aT.new bM 126 [.int .i64 1,kS ⟨j,kG,c2,ai⟩];have bw:bJ ((bM.alloc (.cells #[.int .i64 1,kS ⟨j,kG,c2,ai⟩] 126)).cell? ⟨bM.heap.size,0,none⟩=some (.int .i64 1)/\(bM.alloc (.cells #[.int .i64 1,kS ⟨j,kG,c2,ai⟩] 126)).cell? ⟨bM.heap.size,1,none⟩=some (kS ⟨j,kG,c2,ai⟩)):=U ⟨aH.cell 0,aH.cell 1⟩;clear aq aH
 go_upto_region 11 with(first
  |(go_at_call 109;refine(bk.o _).mono ?_;rintro e bX ⟨rfl,rfl⟩)
  |(at_builtin;refine OX rfl (.tmp 37) (.tmp 40) rfl b2.o d.o.2.2.2.2.2.2.2.2.2.2.2.1 bM.heap.size 1 ⟨1,⟨j,kG,c2,ai⟩⟩ rfl rfl bw.o.1 bw.o.2 (by have:=d.o.2.2.2.2.2.2.2.2.1;have N:=d.o.2.2.2.2.1;omega) (λ e=>by have:=(d.o.2.2.2.2.2.2.2.2.2.1 e).1;have N:=d.o.2.2.2.2.1;omega) ?_;intro v11 ar G;obtain⟨⟨C,m9,D⟩,aC,au⟩:=ax.kW G.1;obtain rfl:v11=.slice C m9 D:=aC;have bx:=U G;have b3:=U au;have av:=U (ao.o.below ((bz bM _).trans (G.2.mono (bz bM _).size)));clear G au F;have F:=av.o.cI.cell 7;have b4:=av.o.cI.free 7;simp only[j_,i_,y_,x_] at F))
 have au:m9=m+1:=b3.o;subst au;have q:=U (av.o.Il 7 (.slice C (m+1) D));have f12:aG (λ b=>b≠w.heap.size/\b≠w.heap.size+1) ar (ar.setCell ⟨w.heap.size,7,none⟩ (.slice C (m+1) D)):=aG.set _ 7 _ (λ h=>h.1 rfl);have b5:=U f12;clear f12 F b4 b0 b1;generalize ar.setCell ⟨w.heap.size,7,none⟩ (.slice C (m+1) D)=aw at*;have M:=q.o.cI.cell 0;have y:=q.o.cI.cell 1;have af:=q.o.cI.cell 2;have ag:=q.o.cI.cell 3;have ah:=q.o.cI.cell 4;have aj:=q.o.cI.cell 5;have ak:=q.o.cI.cell 6;have F:=q.o.cI.cell 7;simp only[j_,i_,y_,x_] at M y af ag ah aj ak F;have b6:=q.o.aQ.cell 0;have b7:=q.o.aQ.cell 1;have b8:=q.o.aQ.cell 2;have b9:=q.o.aQ.cell 3;have b':=q.o.aQ.cell 4;have ca:=q.o.aQ.cell 5;have cc:=q.o.aQ.cell 6;have cd:=q.o.aQ.cell 7;have H:=q.o.aQ.free;have ct:=H 0;have cu:=H 1;have cv:=H 2;have cw:=H 3;have cx:=H 4;have cy:=H 5;have cz:=H 6;have cA:=H 7;simp only[uX,y_,x_] at b6 b7 b8 b9 b' ca cc cd;clear H
 go_wp2_with fail
 have cf:=aT.Ch (show aT aw (w.heap.size+1) 47 [.int .i64 0,.slice none 0 0,.slice none 0 0,.slice none 0 0,.slice none 0 0,.int .i64 0,.slice none 0 0,.slice none 0 0] from q.o.aQ) (.int .i64 n) (.slice z (k+1) B) (.slice iV nl cl) (.slice A (n+1) c) (.slice A' n c') (.int .i64 s.bt) (.slice gY (n+1) gJ) (.slice C (m+1) D);have J:∀(u:World)(i:Nat)(v:Value),aG (λ b=>b≠w.heap.size/\b≠w.heap.size+1) u (u.setCell ⟨w.heap.size+1,i,none⟩ v):=λ u i v=>aG.set _ i v (λ h=>h.2 rfl)
 have f1:aG (λ b=>b≠w.heap.size/\b≠w.heap.size+1) aw _:=((((((((J aw 0 (.int .i64 n)).trans (J _ 1 (.slice z (k+1) B))).trans (J _ 2 (.slice iV nl cl))).trans (J _ 3 (.slice A (n+1) c))).trans (J _ 4 (.slice A' n c'))).trans (J _ 5 (.int .i64 s.bt))).trans (J _ 6 (.slice gY (n+1) gJ))).trans (J _ 7 (.slice C (m+1) D)))
 generalize ((((((((aw.setCell ⟨w.heap.size+1,0,none⟩ (.int .i64 n)).setCell ⟨w.heap.size+1,1,none⟩ (.slice z (k+1) B)).setCell ⟨w.heap.size+1,2,none⟩ (.slice iV nl cl)).setCell ⟨w.heap.size+1,3,none⟩ (.slice A (n+1) c)).setCell ⟨w.heap.size+1,4,none⟩ (.slice A' n c')).setCell ⟨w.heap.size+1,5,none⟩ (.int .i64 s.bt)).setCell ⟨w.heap.size+1,6,none⟩ (.slice gY (n+1) gJ)).setCell ⟨w.heap.size+1,7,none⟩ (.slice C (m+1) D))=W at*;refine OZ rfl rfl rfl cf ?_;have K:=b5.o.trans f1;have I:Below w.heap.size w W:=av.o.kD.trans ⟨K.os,K.tape,K.output,K.size,λ b p=>K.keep b ⟨by omega,by omega⟩⟩;have cB:w.heap.size+1<t.heap.size:=T.o.aQ.lt;have cC:w.heap.size+1<aA.heap.size:=R.o.aQ.lt;have cD:w.heap.size+1<bM.heap.size:=ao.o.aQ.lt;have bA:Below bM.heap.size bM ar:=(bz bM _).trans (bx.o.2.mono (bz bM _).size);have V:W.ownsRow (t.heap.size+1) 25 1 (.slice z (k+1) B) (k+1) ((rs++[(⟨j,kG,c2,ai⟩:Row)]).map kS):=oS (mw aE.o.1 bA) (λ b p=>K.keep b (by have:=(aE.o.1.lt b p).1;omega));have Q:W.ownsRow (bM.heap.size+1) 126 2 (.slice C (m+1) D) (m+1) (mR (s.aF++[(⟨1,⟨j,kG,c2,ai⟩⟩:nx)])):=by
  have h1:=bx.o.1;have aa:(bM.alloc (.cells #[.int .i64 1,.slice j kG c2] 126)).heap.size=bM.heap.size+1:=by simp
  rw[aa] at h1;exact oS h1 (λ b p=>K.keep b (by have:=(h1.lt b p).1;omega))
 have ay:aL W j kG c2 ai:=by
  refine(aE.o.2.below bA).jr K (λ b e L=>?_);have h1:=(S.o.1.lt b ((ax.own ⟨j,_,c2⟩).trans e)).1;omega
 have cE:=d.o.2.2.2.2.2.2.2.2.1;have cg:=d.o.2.2.1;have bB:=d.o.2.2.2.2.1;have ch:=d.o.2.2.2.2.2.2.2.1;have bC:=ku.kW V (λ r P=>by
  rcases t_.1 P with h1|h1
  ·exact(d.o.2.2.2.2.2.2.2.2.2.2.2.2.2.2.rows r h1).below I
  ·rw[v_.1 h1];exact ay) (by omega)
 have bD:(rs++[(⟨j,kG,c2,ai⟩:Row)]).map (·.ai)=s.gs++[ai]:=by
  rw[List.map_append,d.o.2.2.2.2.2.2.2.2.2.2.2.2.2.1];rfl
 rw[bD] at bC;have aq:=oz.kW Q (by omega) (λ r P=>by
  rcases t_.1 P with h1|h1
  ·exact(d.o.1.aF.rows r h1).below I
  ·rw[v_.1 h1];exact ay)
 have aI:(s.gs++[ai]).length=k+1:=by simp[cg]
 have X:(s.aF++[(⟨1,⟨j,kG,c2,ai⟩⟩:nx)]).length=m+1:=by simp[bB]
 have cj:=d.o.2.2.2.1;have cF:=d.o.2.1.hk.lg;have cG:=d.o.2.1.hk.ql;have cH:=d.o.2.1.nG;refine⟨⟨n,s.gs++[ai],s.es,s.act,s.ord,s.bt,s.hM,s.aF++[⟨1,⟨j,kG,c2,ai⟩⟩]⟩,z,B,C,D,?_,⟨by rw[aI];exact bC,d.o.1.es.below I,d.o.1.act.below I,d.o.1.ord.below I,d.o.1.hM.below I,by rw[X];exact aq⟩,d.o.2.1.add d.o.2.2.2.2.2.2.1 ch _ rfl,rfl,rfl,rfl,List.prefix_append _ _,by rw[X,bB],I,⟨.inr ?_,λ e=>?_⟩,λ e=>?_,?_⟩
 ·show _=Ending.returned (.tuple #[rL n z (s.gs++[ai]).length B iV s.es.length cl A (n+1) c A' n c' s.bt gY (n+1) gJ C (s.aF++[(⟨1,⟨j,kG,c2,ai⟩⟩:nx)]).length D,.int .i64 0]);rw[aI,X,cj];rfl
 ·show W.ownsRow _ 126 2 (.slice C (s.aF++[(⟨1,⟨j,kG,c2,ai⟩⟩:nx)]).length D) _ _;rw[X];exact yA Q (by omega)
 ·rcases Q.2 with⟨h1,N⟩|⟨g,cap,cur,h1,_⟩
  ·omega
  ·injection h1 with h1;rw[e] at h1;cases h1
 ·rcases V.2 with⟨h1,N⟩|⟨g,cap,cur,h1,_⟩
  ·omega
  ·injection h1 with h1;rw[e] at h1;cases h1
 ·intro ck aJ bF W' f;have aK:=d.o.2.2.2.2.2.2.2.2.2.2.2.2.2.2;have cm:=aK.zb (λ cn h1=>(bF cn h1).gs);have bG:aG (λ b=>b<w.heap.size/\¬ck b) w W':=(aG.q4 I λ b p=>p.1).trans (f.mono λ b p=>⟨by have:=I.size;omega,p.2⟩);have Y:=bF W' bG;have cp:W'.ownsRow (t.heap.size+1) 25 1 (.slice z (k+1) B) (k+1) ((rs++[(⟨j,kG,c2,ai⟩:Row)]).map kS):=oS V (λ b p=>f.keep b ⟨(V.lt b p).2,λ h=>by have h1:=aJ b h;have N:=(V.lt b p).1;omega⟩);have cq:W'.ownsRow (bM.heap.size+1) 126 2 (.slice C (m+1) D) (m+1) (mR (s.aF++[(⟨1,⟨j,kG,c2,ai⟩⟩:nx)])):=oS Q (λ b p=>f.keep b ⟨(Q.lt b p).2,λ h=>by have h1:=aJ b h;have N:=(Q.lt b p).1;omega⟩);have bH:aL W' j kG c2 ai:=ay.jr f (λ b e L=>⟨ay.lt b e L,λ h=>by
   have h1:=aJ b h;have N:=(S.o.1.lt b ((ax.own ⟨j,_,c2⟩).trans e)).1;omega⟩)
  have bI:=ku.kW cp (λ r P=>by
   rcases t_.1 P with h1|h1
   ·exact(aK.rows r h1).jr bG (λ b e L=>⟨(aK.rows r h1).lt b e L,cm r h1 b e L⟩)
   ·rw[v_.1 h1];exact bH) (by omega)
  rw[bD] at bI;have cr:=oz.kW cq (by omega) (λ r P=>by
   rcases t_.1 P with h1|h1
   ·exact Y.aF.rows r h1
   ·rw[v_.1 h1];exact bH)
  exact⟨by rw[aI];exact bI,Y.es,Y.act,Y.ord,Y.hM,by rw[X];exact cr⟩
end
section
open Go.RowKit Go.Shelf Go.Sort Go.Lib
def Io(f:Nat)(lb:Array Value)(p:Int->Bool)(g:Nat)(w:World):Prop:=
 ∀(W:World)(x:Int),w.heap.size<=W.heap.size->(∀b,b<w.heap.size->b≠g->W.heap[b]? =w.heap[b]?)->Calls z_ f (#[.int .i64 x]++lb) W λ e w'=>e=.returned (.bool (p x))/\W=w'
theorem O1(f:Nat)(lb:Array Value)(p:Int->Bool)(o:∀args w,(callFunc f args).run z_ w=.ok (.enter f args) w)(w:World)(base g n cap:Nat)(c:List Int)(h:Own w base g n cap c)(d:base<=g)(hp:Io f lb p g w):
  Calls z_ 85 #[.slice (some ⟨g,0,none⟩) n cap,.func (.func f) #[] lb] w λ e w'=>
   e=.returned (.slice (some ⟨g,0,none⟩) (c.filter λ x=> !(p x)).length cap)/\Own w' base g (c.filter λ x=> !(p x)).length cap (c.filter λ x=> !(p x))/\Below base w w':=by
 have h':w.ownsRow base 3 1 (.slice (some ⟨g,0,none⟩) n cap) n (c.map oL):=h;obtain⟨C,D,he,h1,E,r,s,i,t⟩:=holds_of_ownsRow h' (by intro e;cases e)
 cases he
 have u:n<=9223372036854775807:=by unfold maxLen at s;omega
 have v:PredAt z_ f lb oL p w:=by
  intro W x l;unfold FnGives;exact(hp W x l.size (λ b d _=>l.block b d)).mono λ _ _ ⟨he,hw⟩=>⟨he,0,by rw[<-hw];rfl⟩
 have y:PredOver z_ f lb oL p g 0 c.toArray.size w:=by
  intro k os j x _;unfold FnGives;have z:w.heap.size<=(sortWorld oL w g 0 k j os).heap.size:=by
   show w.heap.size<=((Sort.putRow oL (Sort.ahead w k) g 0 j).heap++os).size;rw[Array.size_append,Sort.size_putRow];show w.heap.size<=w.heap.size+_;omega
  exact(hp _ x z (λ b d A=>DO oL w g k j os d A)).mono λ _ _ ⟨he,hw⟩=>⟨he,0,by rw[<-hw];rfl⟩
 have m:=Tryz.slices_DeleteFunc oL yW p f lb o 0 Tryz.zeroValue3 g 0 cap c.toArray w v y t (by simpa[i] using u) (by simpa[i] using r);have hs:c.toArray.size=n:=by simp[i]
 rw[hs] at m;refine m.mono ?_;rintro e w' ⟨rfl,q,rfl⟩;have B:c.toArray.toList.filter (λ x=> !(p x))=c.filter λ x=> !(p x):=rfl
 rw[B];have hle:=Zv (λ x=> !(p x)) c;refine⟨rfl,?_,below_putRow (Below.refl _ _) d⟩;have:=ownsRow_putRow (q:=q) (k:=(c.filter λ x=> !(p x)).length) (ys:=(c.filter λ x=> !(p x))++List.replicate (n-(c.filter λ x=> !(p x)).length) 0) h' (by simp;omega) (by omega);rw[List.take_left' rfl] at this;exact this
def O2(b:List Int)(w:World)(e:Ending)(w':World):Prop:=∃A c,e=.returned (.slice A b.length c)/\aL w' A b.length c b/\w'.ownsRow w.heap.size 3 1 (.slice A b.length c) b.length (b.map (Value.int .i64))/\Below w.heap.size w w'
theorem O3:∀args w,(callFunc 141 args).run z_ w=.ok (.enter 141 args) w:=enters_of Tryz.func141 (by kernel_rfl) rfl
theorem O4(d:Nat)(A:Option Addr)(n c:Nat)(core:List Int)(x:Int)(w:World)(g:w.cell? ⟨d,0,none⟩=some (.slice A n c))(h:aL w A n c core):
  Calls z_ 141 #[.int .i64 x,.pointer (some ⟨d,0,none⟩)] w λ e w'=>e=.returned (.bool (!(hasB core x)))/\w=w':=by
 obtain⟨r,b⟩:∃r,hasB core x=r:=⟨_,rfl⟩
 have f:=U (G9 r A n c core x w h b);rw[b];clear h b;go_enter Tryz.func141,Tryz.ntmps141
 go_wp2_with (go_at_call 124;refine f.o.mono ?_;rintro e w1 ⟨rfl,rfl⟩;dsimp only)
 go_ret;exact⟨rfl,rfl⟩
theorem O5(f:Nat)(lb:Array Value)(p:Int->Bool)(m:∀args w,(callFunc f args).run z_ w=.ok (.enter f args) w){w:World}{base:Nat}{A:Option Addr}{c:Nat}{ai:List Int}(j:w.ownsRow base 3 1 (.slice A ai.length c) ai.length (ai.map (Value.int .i64)))(r:ai.length*8<=140737488355328)(s:base<=w.heap.size)(hp:∀g,base<=g->Io f lb p g w):
  Calls z_ 85 #[.slice A ai.length c,.func (.func f) #[] lb] w λ e w'=>∃b c2,e=.returned (.slice b (ai.filter λ x=> !(p x)).length c2)/\aL w' b (ai.filter λ x=> !(p x)).length c2 (ai.filter λ x=> !(p x))/\w'.ownsRow base 3 1 (.slice b (ai.filter λ x=> !(p x)).length c2) (ai.filter λ x=> !(p x)).length ((ai.filter λ x=> !(p x)).map (Value.int .i64))/\Below base w w':=by
 have hle:=Zv (λ x=> !(p x)) ai;rcases j.2 with⟨h1,n⟩|⟨g,cap,cur,h1,k,_⟩
 ·injection h1 with d o i
  have:ai=[]:=q_ n;subst this;subst d i;refine(DD _ w).mono ?_;rintro e w' ⟨rfl,rfl⟩;exact⟨none,0,rfl,aL.nil _ _ _ (by unfold maxLen;omega),f_ _ _ _ _,Below.refl _ _⟩
 ·injection h1 with d o i
  subst d i;refine(O1 f lb p m w base g ai.length c ai j k (hp g k)).mono ?_;rintro e w' ⟨rfl,l,q⟩;exact⟨_,c,rfl,aL.kW l (by omega),l,q⟩
theorem O6(l o:List Int):(l.filter λ x=> !(!(hasB o x)))=rf l o:=by
 unfold rf
 congr 1
 funext x;simp[hasB]
theorem aL.zf(h:aL w A n c ai)(hs:w.heap.size<=w'.heap.size)(d:∀b,b<w.heap.size->w'.heap[b]? =w.heap[b]?):aL w' A n c ai:=
 ⟨h.len,h.cap,h.mu,h.nT,λ f=>by
  obtain⟨b,off,e,h1,g⟩:=h.cells f;refine⟨b,off,e,Nat.lt_of_lt_of_le h1 hs,λ j i=>?_⟩;rw[Zr (a:=⟨b,off+j,none⟩) (d b h1)];exact g j i⟩
theorem Eo{Ip:Nat}{s:Nat}{v:Value}{xs:List Value}(h:w.ownsRow base e s v n xs)(b:Ip<=base):w.ownsRow Ip e s v n xs:=by
 refine⟨h.1,?_⟩;rcases h.2 with h1|⟨g,cap,cur,h1,c,d⟩
 ·exact Or.inl h1
 ·exact Or.inr ⟨g,cap,cur,h1,d_ b c,d⟩
theorem Ep(A:Option Addr)(n c:Nat)(k:List Int)(A':Option Addr)(d c':Nat)(os:List Int)(w:World)(h:aL w A n c k)(h':aL w A' d c' os):
  Calls z_ 79 #[.slice A n c,.slice A' d c'] w (O2 (rf k os) w):=by
 have F:∀(fn:Fn)(first cap:Array Value)(w:World),(Instr.makeFunc fn first cap).run z_ w=.ok (.func fn first cap) w:=λ _ _ _ _=>rfl
 have j:=bz w (.cells #[.slice A' d c'] 25);have q:(w.alloc (.cells #[.slice A' d c'] 25)).cell? ⟨w.heap.size,0,none⟩=some (.slice A' d c'):=(aT.new w 25 [.slice A' d c']).cell 0;have r:(w.alloc (.cells #[.slice A' d c'] 25)).heap.size=w.heap.size+1:=by simp
 have s:=h.mu;have t:=h.len;go_enter Tryz.func79,Tryz.ntmps79
 go_upto_region 1 with fail
 generalize w.alloc (.cells #[.slice A' d c'] 25)=w1 at*;have C:=U (vj A n c k w1 (h.below j));have f:=U (w_ (h'.below j) (w_ q (w_ r (w_ j (w_ s t)))));clear h h' q r j s t
 go_wp2_with (first
  |(go_at_call 81;refine C.o.mono ?_;rintro e G ⟨H,c2,rfl,u,v⟩;have i:=U (w_ u v);clear u v;have l:=O5 141 #[.pointer (some ⟨w.heap.size,0,none⟩)] (λ x=> !(hasB os x)) O3 i.o.1 (by have:=f.o;omega) i.o.2.size (λ g I W x hs hk=>O4 w.heap.size A' d c' os x W ((Zr (a:=⟨w.heap.size,0,none⟩) ((hk w.heap.size (by have:=i.o.2.size;have:=f.o;omega) (by have:=f.o;omega)).trans (i.o.2.block w.heap.size (by have:=f.o;omega)))).trans f.o.2.1) (f.o.1.zf (d_ i.o.2.size hs) (λ b e=>(hk b (Nat.lt_of_lt_of_le e i.o.2.size) (by omega)).trans (i.o.2.block b e))));simp only[O6] at l;have D:=U l;clear l)
  |(go_at_call 85;refine D.o.mono ?_;rintro e J ⟨E,c3,rfl,y,z,B⟩;have m:=U (w_ y (w_ z B));clear y z B))
 have p:w.heap.size<=w1.heap.size:=by have:=f.o;omega
 go_ret;exact⟨E,c3,rfl,m.o.1,Eo m.o.2.1 p,(f.o.2.2.2.1.trans (i.o.2.mono p)).trans (m.o.2.2.mono p)⟩
theorem O7(w:World)(b s:Nat)(hs:s<=b)(i:b<=1099511627776):Calls z_ 140 #[.agg #[.int .i64 b,.int .i64 s]] w λ e w'=>e=.returned (.int .i64 ((b-s:Nat):Int))/\Below w.heap.size w w':=by
 have d:=bz w (.cells #[.int .i64 b,.int .i64 s] 153);have c:aT (w.alloc (.cells #[.int .i64 b,.int .i64 s] 153)) w.heap.size 153 [.int .i64 b,.int .i64 s]:=aT.new w 153 [.int .i64 b,.int .i64 s];have f:=c.cell 0;have g:=c.cell 1;simp only[y_,x_] at f g;have wd:IntKind.i64.wrap ((b:Int)-(s:Int))=(b:Int)-(s:Int):=by rw[IntKind.wrap_i64];omega
 go_enter Tryz.func140,Tryz.ntmps140
 go_wp2_with fail
 go_ret;refine⟨?_,d⟩;simp;omega
structure rM(aZ:Nat->Prop)(w:World)(B n:Nat)(s:k7)(bp:Option Addr)(aR:Nat)(iV:Option Addr)(cl:Nat)(A:Option Addr)(c:Nat)(A':Option Addr)(c':Nat)(gY:Option Addr)(gJ:Nat)(bu:Option Addr)(bE aJ sp:Nat):Prop where
 blk:aT w B 155 [.int .i64 n,.slice bp s.gs.length aR,.slice iV s.es.length cl,.slice A (n+1) c,.slice A' n c',.int .i64 s.bt,.slice gY (n+1) gJ,.slice bu s.aF.length bE,.int .i64 aJ,.int .i64 sp]
 jN:aZ B
 dl:∀b,aZ b->b<w.heap.size
 Cl:uW w aZ s bp aR iV cl A c A' c' gY gJ bu bE
 ok:pF n s
 n10:n<=10
 mQ:sp<=aJ
 qa:aJ<=1099511627776
 bH:s.gs.length<=40000
 pl:s.aF.length<=40000+s.es.length
 el:s.es.length=sp
 ux:bu=none->s.aF.length=0/\bE=0
 pa:bu≠none->∃b off,bu=some ⟨b,off,none⟩
theorem Er(j:a.defers=[])(c:a.tmps.getD 8 undef=.pointer (some ⟨aQ,0,none⟩))(d:a.tmps.getD 9 undef=.int .i64 0)
  (b:aT W aQ 30 [v0,v1,v2,v3]) (h:aN (.returned (.tuple #[.agg #[v0,v1,v2,v3],.int .i64 0])) W):bodyPost z_ Tryz.f78 aN .ret a W:=by
 have e:=b.cell 0;have f:=b.cell 1;have g:=b.cell 2;have i:=b.cell 3;simp only[y_,x_] at e f g i;refine bodyPost_ret (v:=.tuple #[.agg #[v0,v1,v2,v3],.int .i64 0]) ?_ j h;rw[o_] at c d;simp[results,Tryz.results78,go_sem,c,d,e,f,g,i]
theorem O8(i:a.defers=[])(c:a.tmps.getD 4 undef=.pointer (some ⟨aQ,0,none⟩))
  (b:aT W aQ 30 [v0,v1,v2,v3]) (h:aN (.returned (.agg #[v0,v1,v2,v3])) W):bodyPost z_ Tryz.f77 aN .ret a W:=by
 have d:=b.cell 0;have e:=b.cell 1;have f:=b.cell 2;have g:=b.cell 3;simp only[y_,x_] at d e f g;refine bodyPost_ret (v:=.agg #[v0,v1,v2,v3]) ?_ i h;rw[o_] at c;simp[results,Tryz.results77,go_sem,c,d,e,f,g]
theorem O9(w:World)(B:Nat)(L:List Value)(l sp:Nat)(m:aT w B 155 L)(p:L[8]? =some (.int .i64 l))(q:L[9]? =some (.int .i64 sp))(kind:Int)(c:Option Addr)(d f:Nat)(g:Option Addr)(i j:Nat)(hk:kind=1\/kind=2\/kind=3):
  Calls z_ 78 #[.pointer (some ⟨B,0,none⟩),.int .i64 kind,.slice c d f,.slice g i j] w λ e w'=>e=.returned (.tuple #[.agg #[.int .i64 kind,.slice c d f,.slice g i j,.int .i64 (if kind=3 then l else sp:Nat)],.int .i64 0])/\Below w.heap.size w w':=by
 have z:=m.lt;have n:=bz w (.cells #[.int .i64 0,.slice none 0 0,.slice none 0 0,.int .i64 0] 30);have b:aT (w.alloc (.cells #[.int .i64 0,.slice none 0 0,.slice none 0 0,.int .i64 0] 30)) w.heap.size 30 [.int .i64 0,.slice none 0 0,.slice none 0 0,.int .i64 0]:=aT.new w 30 _;have o:=m.below n;have r:=o.cell 8;have s:=o.cell 9;rw[p] at r;rw[q] at s;have t:=b.cell 0;have u:=b.cell 1;have v:=b.cell 2;have y:=b.cell 3;simp only[y_,x_] at t u v y;have k:=b.free;have f0:=k 0;have f1:=k 1;have f2:=k 2;have f3:=k 3;clear k;have A:=U (w_ b n);go_enter Tryz.func78,Tryz.ntmps78
 rcases hk with rfl|rfl|rfl
 ·go_wp2_with fail
  exact Er rfl rfl rfl (aT.new w 30 [.int .i64 1,.slice c d f,.slice g i j,.int .i64 sp]) ⟨rfl,bz w _⟩
 ·go_wp2_with fail
  exact Er rfl rfl rfl (aT.new w 30 [.int .i64 2,.slice c d f,.slice g i j,.int .i64 sp]) ⟨rfl,bz w _⟩
 ·go_wp2_with fail
  exact Er rfl rfl rfl (aT.new w 30 [.int .i64 3,.slice c d f,.slice g i j,.int .i64 l]) ⟨rfl,bz w _⟩
def Pa(l:Nat->Prop)(w:World)(B n:Nat)(s:k7)(m:Option Addr)(o:Nat)(p:List Int)(c sp:Nat)(e:Ending)(W:World):Prop:=
 ∃(s':k7)(q:Option Addr)(c1:Nat)(r:Option Addr)(c2:Nat)(t:Option Addr)(c3:Nat)(u:Option Addr)(v:Nat)(y:Option Addr)(z:Nat)(b:Nat)(kind:Int)(d:Option Addr)(f g:Nat)(i:Option Addr)(j k:Nat),
  e=.returned (.agg #[.int .i64 kind,.slice d f g,.slice i j k,.int .i64 (b:Int)])/\
  rM l W B n s' m o q c1 r c2 t c3 u v y z c (sp+b)/\s'.gs=s.gs/\b<=c-sp/\nY (λ _=>True) W s.gs p n (c-sp) b kind d f g i j k/\w.grownBy W (some B)
end
end Go.Proofs.YtogdlkfacflmaaaGreat
