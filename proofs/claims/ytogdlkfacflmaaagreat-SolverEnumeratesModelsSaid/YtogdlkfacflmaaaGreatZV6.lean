/- Parts of the walk of the solver and its core; no condition. -/
import Derived.Shelf.SlicesE.Compact
import Derived.Shelf.SlicesE.Clone
import Derived.Shelf.SlicesE.DeleteFunc
import Derived.Shelf.SlSortCmp.Whole1
import Derived.Shelf.SlSortCmp.NoneTotal
import Derived.Test.YtogdlkfacflmaaaGreatProg
import Derived.Test.YtogdlkfacflmaaaGreatZV5
import Derived.Lib.OwnBridge
import Derived.Lib.AppendIntMem
import Derived.IntWalk
import Derived.Deep.QuietTactic
import Derived.BigQuiet
import Derived.Test.YtogdlkfacflmaaaGreatZV3
import Derived.Laws.ResultCell
import Derived.Test.YtogdlkfacflmaaaGreatZV1
namespace Go.Proofs.YtogdlkfacflmaaaGreat
set_option linter.unusedVariables false
set_option linter.unusedSimpArgs false
set_option maxRecDepth 1000000
set_option maxHeartbeats 8000000
open _root_.And renaming intro→z_
open _root_.Go.Proofs.Tryz renaming prog→y_,underlying25→s_,zeroValue3→q_,sizeOf3→k_,underlying4→h_,zeroValue25→g_,isAgg3→c_,zeroValue4→Zx,sizeOf25→Zt,underlying0→Zr,underlying3→Zq,zeroValue0→Zl,sizeOf4→Zk,isAgg25→Zj,isAgg4→Zd,underlying45→Z8,sizeOf0→Z_,isAgg0→ZQ
open _root_.List renaming length_append→x_,eq_nil_of_length_eq_zero→w_,length_filter_le→p_,mem_cons→o_,getElem?_cons_zero→n_,pairwise_cons→m_,mem_singleton→l_,length_singleton→i_,map_cons→d_,replicate→Zv,getElem?_cons_succ→Zu,map_toArray→Zo,map_nil→Zi,length_map→Zh,length_pos_iff→Zf,getElem?_eq_some_iff→Z9,mem_map→ZZ,getElem?_eq_getElem→ZX,map_append→ZT,mem_append→ZS,take_left'→ZR,pairwise_append→ZO,mem_append_left→ZN
open _root_.Bool renaming false_ne_true→v_,noConfusion→Zp,not_eq_true'→Z6
open _root_.Or renaming inr→u_,inl→r_
open _root_.Go.World renaming cell?_of_block→t_,drewN_drewN→Z7
open _root_.Nat renaming le_trans→j_,le_refl→b_,eq_zero_or_pos→Zw,le_of_lt→Zg,zero_le→Zc,lt_of_lt_of_le→Z4,one_le_two_pow→Z5,lt_or_ge→ZY,pow_succ→ZW,zero_add→ZL
open _root_.Go.RowKit.Below renaming refl→f_
open _root_.Go.IntKind renaming wrap_i64→e_,i64→a_
open _root_.Go.Lib renaming holds_of_ownsRow→Zn,ownsRow_putRow→Ze,compactUpTo_succ→ZV,below_putRow→ZU
open _root_.Go.Shelf renaming Ren→Zm
open _root_.Go.Value renaming slice→Z0,int→Z3
open _root_.Go.Sort renaming ahead→ZP
open _root_.Go.Addr renaming add_lit→ZM
open _root_.Go.Value.slice renaming injEq→ZK
open _root_.Option.some renaming injEq→ZJ
variable{a b x left:Int}{c k base g n cap G gy jk gX jo aX aT aQ iS h i:Nat}{l ah ax:List Int}{w w' W w0:World}{A jm:Option Addr}{K kV bq gN:Nat->Prop}{hs:Nat->aq}{cb:Nat->Nat}{s aG:an}{F:List (List Int)}{p:nc}{gx gz gQ gp dm gP gr gC u16 dn dr dw gd dx dy dz dA dB dD dF dG cr ct cu u32 cv cw cz cA cB cC cD cE cF cG cH dH dI gM gK gL bu bw bx bz bA bB bC bD bE bK bL bM bN bO bP u64 bQ bR bS bT bU bV bW bX bY bZ b5 b6 b7 b8 b9 cc cg ck cm cn cp dJ dK dL dM dN dO dP dQ cI cK cL cM cN cO cQ cR cS cT cU cV cW cZ c7 c8 dc dR dS dU dV dW dX dY dZ ec ee ef ei ej ek en eo ep er eu ew ey ez eA eB eC eD eE eF eG eH gh gi gj eL eM eN eO eP eR eS eT eU eV eW eX gl gm gn eY eZ e3 e4 e5 e6 e7 e8 e9 fc fe ff fh fk fm fo fq fu fA fB fC fD fE fF fG fH fI fJ fK fL fM fN fO fP fQ fR gu gv fS fT fU fV fW fZ ga ir iu iw iy iz iA iB iC iD iE iF iG iX iY iZ ja jb jc jd je jL jM jN jO jP jQ gG:Value}{Q:Exit->Act->World->Prop}
section
open Go.Shelf
def Tryz.Mb:Zm:=⟨λ|43=>223|n=>n,λ|22=>25|23=>3|3=>3|4=>4|0=>0|n=>n,λ|n=>n⟩
theorem Tryz.Mc:Go.Proofs.SlLaysE.n43 y_ Tryz.Mb:={
 mixed:=by kernel_rfl
 f43:=⟨Tryz.f223.name,by decide,Tryz.func223.trans (congrArg some (by kernel_rfl))⟩
 t0:=Zr
 a0:=ZQ
 z0:=Z_
 v0:=Zl
 t3:=Zq
 a3:=c_
 z3:=k_
 v3:=q_
 t4:=h_
 a4:=Zd
 z4:=Zk
 v4:=Zx
 t22:=s_
 a22:=Zj
 z22:=Zt
 v22:=g_
 a23:=c_
 z23:=k_}
open Go.RowKit Go.Lib Go.Sort in
theorem Tryz.slices_Compact{α:Type}[Inhabited α][DecidableEq α](enc:α->Value)(hO:OneCell enc)(heq:EqlAt y_ 3 enc (λ x y=>decide (x=y)))(c:NeqAt y_ 3 enc (λ x y=>decide (x=y)))(b:α)(v23:∀w,(zeroValue 3).run y_ w=.ok (enc b) w)(blk off cap:Nat)(d:Array α)(w:World)(hH:Holds enc w blk off d)(f:d.size<=9223372036854775807)(g:d.size<=cap):
 Calls y_ 223 #[.slice (some ⟨blk,off,none⟩) d.size cap] w λ e w'=>e=.returned (.slice (some ⟨blk,off,none⟩) (compactUpTo d d.size).length cap)/\∃q,w'=putRow enc (ZP w q) blk off (compactUpTo d d.size++Zv (d.size-(compactUpTo d d.size).length) b).toArray:=AnyE.slices_Compact Tryz.Mc enc hO heq c b v23 blk off cap d w hH f g
def Tryz.Md:Zm:=⟨λ|41=>81|n=>n,λ|22=>25|23=>3|4=>4|n=>n,λ|n=>n⟩
theorem Tryz.GZ:Go.Proofs.SlLaysE0.n41 y_ Tryz.Md:={
 mixed:=by kernel_rfl
 f41:=⟨Tryz.f81.name,by decide,Tryz.func81.trans (congrArg some (by kernel_rfl))⟩
 t4:=h_
 a4:=Zd
 z4:=Zk
 v4:=Zx
 t22:=s_
 a22:=Zj
 z22:=Zt
 v22:=g_}
open Go.RowKit Go.Lib in
theorem Tryz.slices_Clone(i0:TypeInfo)(z:Value)(size bytes:Nat)(d:y_.info? 3=some i0)(f:i0.zero=some z)(g:i0.size=size)(i:i0.bytes=bytes)(k:z.cells.size=size)(l:0<size)(z23:∀w,(Go.sizeOf 3).run y_ w=.ok size w)(b off n c:Nat)(news:List Value)(w:World)(hl:news.length=n*size)(m:n<=maxLen)(o:n*bytes<=140737488355328)(p:∀j u,news[j]? =some u->w.cell? ⟨b,off+j,none⟩=some u)(h1:∀u∈news,u.oneCell'=true):
 Calls y_ 81 #[.slice (some ⟨b,off,none⟩) n c] w λ e w'=>∃v',e=.returned v'/\w'.ownsRow w.heap.size 3 size v' n news/\v'≠ .slice none 0 0/\Below w.heap.size w w':=AnyE.slices_Clone Tryz.GZ i0 z size bytes d f g i k l z23 b off n c news w hl m o p h1
open Go.RowKit Go.Lib in
theorem Tryz.slices_Clone_nil(n c:Nat)(w:World):
 Calls y_ 81 #[.slice none n c] w λ e w'=>e=.returned (.slice none 0 0)/\w'=w:=AnyE.slices_Clone_nil Tryz.GZ n c w
def Tryz.Me:Zm:=⟨λ|10=>85|6=>142|n=>n,λ|22=>25|23=>3|25=>106|3=>3|4=>4|0=>0|n=>n,λ|n=>n⟩
theorem Tryz.Mf:Go.Proofs.SlLaysH.n10 y_ Tryz.Me:={
 mixed:=by kernel_rfl
 f6:=⟨Tryz.f142.name,by decide,Tryz.func142.trans (congrArg some (by kernel_rfl))⟩
 f10:=⟨Tryz.f85.name,by decide,Tryz.func85.trans (congrArg some (by kernel_rfl))⟩
 t0:=Zr
 a0:=ZQ
 z0:=Z_
 v0:=Zl
 t3:=Zq
 a3:=c_
 z3:=k_
 v3:=q_
 t4:=h_
 a4:=Zd
 z4:=Zk
 v4:=Zx
 t22:=s_
 a22:=Zj
 z22:=Zt
 v22:=g_
 a23:=c_
 z23:=k_
 t25:=Tryz.underlying106
 a25:=Tryz.isAgg106
 z25:=Tryz.sizeOf106
 v25:=Tryz.zeroValue106}
open Go.RowKit Go.Lib Go.Sort in
theorem Tryz.slices_DeleteFunc{α:Type}[Inhabited α](enc:α->Value)(hO:OneCell enc)(p:α->Bool)(g:Nat)(lb:Array Value)(c:∀args w,(callFunc g args).run y_ w=.ok (.enter g args) w)(b:α)(v23:∀w,(zeroValue 3).run y_ w=.ok (enc b) w)(blk off cap:Nat)(d:Array α)(w:World)(hp:PredAt y_ g lb enc p w)(f:PredOver y_ g lb enc p blk off d.size w)(hH:Holds enc w blk off d)(i:d.size<=9223372036854775807)(j:d.size<=cap):
 Calls y_ 85 #[.slice (some ⟨blk,off,none⟩) d.size cap,.func (.func g) #[] lb] w λ e w'=>e=.returned (.slice (some ⟨blk,off,none⟩) (d.toList.filter λ x=> !p x).length cap)/\∃q,w'=putRow enc (ZP w q) blk off ((d.toList.filter λ x=> !p x)++Zv (d.size-(d.toList.filter λ x=> !p x).length) b).toArray:=AnyE.slices_DeleteFunc Tryz.Mf enc hO p g lb c b v23 blk off cap d w hp f hH i j
def Tryz.Mg:Zm:=⟨λ|6=>157|15=>178|14=>195|28=>219|29=>220|20=>228|21=>229|22=>230|23=>231|24=>232|25=>233|26=>234|27=>235|46=>258|47=>254|48=>255|49=>259|50=>260|57=>269|n=>n,λ|22=>25|24=>3|25=>177|3=>3|39=>77|0=>0|53=>217|55=>219|4=>4|46=>211|45=>210|50=>137|5=>5|9=>9|66=>235|70=>239|76=>248|77=>249|n=>n,λ|n=>n⟩
theorem Tryz.Mh:Go.Proofs.SlLaysF.n6 y_ Tryz.Mg:={
 mixed:=by kernel_rfl
 f6:=⟨Tryz.f157.name,by decide,Tryz.func157.trans (congrArg some (by kernel_rfl))⟩
 f14:=⟨Tryz.f195.name,by decide,Tryz.func195.trans (congrArg some (by kernel_rfl))⟩
 f15:=Tryz.func178.trans (congrArg some (by kernel_rfl))
 f20:=⟨Tryz.f228.name,by decide,Tryz.func228.trans (congrArg some (by kernel_rfl))⟩
 f21:=⟨Tryz.f229.name,by decide,Tryz.func229.trans (congrArg some (by kernel_rfl))⟩
 f22:=⟨Tryz.f230.name,by decide,Tryz.func230.trans (congrArg some (by kernel_rfl))⟩
 f23:=⟨Tryz.f231.name,by decide,Tryz.func231.trans (congrArg some (by kernel_rfl))⟩
 f24:=⟨Tryz.f232.name,by decide,Tryz.func232.trans (congrArg some (by kernel_rfl))⟩
 f25:=⟨Tryz.f233.name,by decide,Tryz.func233.trans (congrArg some (by kernel_rfl))⟩
 f26:=⟨Tryz.f234.name,by decide,Tryz.func234.trans (congrArg some (by kernel_rfl))⟩
 f27:=⟨Tryz.f235.name,by decide,Tryz.func235.trans (congrArg some (by kernel_rfl))⟩
 f28:=Tryz.func219.trans (congrArg some (by kernel_rfl))
 f29:=Tryz.func220.trans (congrArg some (by kernel_rfl))
 f46:=⟨Tryz.f258.name,by decide,Tryz.func258.trans (congrArg some (by kernel_rfl))⟩
 f47:=Tryz.func254.trans (congrArg some (by kernel_rfl))
 f48:=Tryz.func255.trans (congrArg some (by kernel_rfl))
 f49:=⟨Tryz.f259.name,by decide,Tryz.func259.trans (congrArg some (by kernel_rfl))⟩
 f50:=⟨Tryz.f260.name,by decide,Tryz.func260.trans (congrArg some (by kernel_rfl))⟩
 f57:=⟨Tryz.f269.name,by decide,Tryz.func269.trans (congrArg some (by kernel_rfl))⟩
 t0:=Zr
 a0:=ZQ
 z0:=Z_
 v0:=Zl
 t3:=Zq
 a3:=c_
 z3:=k_
 v3:=q_
 t4:=h_
 a4:=Zd
 z4:=Zk
 v4:=Zx
 t5:=Tryz.underlying5
 a5:=Tryz.isAgg5
 z5:=Tryz.sizeOf5
 v5:=Tryz.zeroValue5
 t9:=Tryz.underlying9
 a9:=Tryz.isAgg9
 z9:=Tryz.sizeOf9
 v9:=Tryz.zeroValue9
 t22:=s_
 a22:=Zj
 z22:=Zt
 v22:=g_
 a24:=c_
 z24:=k_
 t25:=Tryz.underlying177
 a25:=Tryz.isAgg177
 z25:=Tryz.sizeOf177
 v25:=Tryz.zeroValue177
 t39:=Tryz.underlying77
 a39:=Tryz.isAgg77
 z39:=Tryz.sizeOf77
 v39:=Tryz.zeroValue77
 t45:=Tryz.underlying210
 a45:=Tryz.isAgg210
 z45:=Tryz.sizeOf210
 v45:=Tryz.zeroValue210
 t46:=Tryz.underlying211
 a46:=Tryz.isAgg211
 z46:=Tryz.sizeOf211
 v46:=Tryz.zeroValue211
 t50:=Tryz.underlying137
 a50:=Tryz.isAgg137
 z50:=Tryz.sizeOf137
 v50:=Tryz.zeroValue137
 t53:=Tryz.underlying217
 a53:=Tryz.isAgg217
 z53:=Tryz.sizeOf217
 v53:=Tryz.zeroValue217
 t55:=Tryz.underlying219
 a55:=Tryz.isAgg219
 z55:=Tryz.sizeOf219
 v55:=Tryz.zeroValue219
 t66:=Tryz.underlying235
 a66:=Tryz.isAgg235
 z66:=Tryz.sizeOf235
 v66:=Tryz.zeroValue235
 t70:=Tryz.underlying239
 a70:=Tryz.isAgg239
 z70:=Tryz.sizeOf239
 v70:=Tryz.zeroValue239
 t76:=Tryz.underlying248
 a76:=Tryz.isAgg248
 z76:=Tryz.sizeOf248
 v76:=Tryz.zeroValue248
 t77:=Tryz.underlying249
 a77:=Tryz.isAgg249
 z77:=Tryz.sizeOf249
 v77:=Tryz.zeroValue249}
def Tryz.Mi:Zm:=⟨λ|6=>157|15=>178|14=>195|28=>219|29=>220|20=>228|21=>229|22=>230|23=>231|24=>232|25=>233|26=>234|27=>235|46=>258|47=>254|48=>255|49=>259|50=>260|57=>269|n=>n,λ|22=>25|24=>3|25=>177|3=>3|39=>77|0=>0|53=>217|55=>219|4=>4|46=>211|45=>210|50=>137|5=>5|9=>9|66=>235|70=>239|76=>248|77=>249|n=>n,λ|n=>n⟩
theorem Tryz.Mj:Go.Proofs.SlLaysF0.n6 y_ Tryz.Mi:={
 mixed:=by kernel_rfl
 f6:=⟨Tryz.f157.name,by decide,Tryz.func157.trans (congrArg some (by kernel_rfl))⟩
 f14:=⟨Tryz.f195.name,by decide,Tryz.func195.trans (congrArg some (by kernel_rfl))⟩
 f15:=Tryz.func178.trans (congrArg some (by kernel_rfl))
 f20:=⟨Tryz.f228.name,by decide,Tryz.func228.trans (congrArg some (by kernel_rfl))⟩
 f21:=⟨Tryz.f229.name,by decide,Tryz.func229.trans (congrArg some (by kernel_rfl))⟩
 f22:=⟨Tryz.f230.name,by decide,Tryz.func230.trans (congrArg some (by kernel_rfl))⟩
 f23:=⟨Tryz.f231.name,by decide,Tryz.func231.trans (congrArg some (by kernel_rfl))⟩
 f24:=⟨Tryz.f232.name,by decide,Tryz.func232.trans (congrArg some (by kernel_rfl))⟩
 f25:=⟨Tryz.f233.name,by decide,Tryz.func233.trans (congrArg some (by kernel_rfl))⟩
 f26:=⟨Tryz.f234.name,by decide,Tryz.func234.trans (congrArg some (by kernel_rfl))⟩
 f27:=⟨Tryz.f235.name,by decide,Tryz.func235.trans (congrArg some (by kernel_rfl))⟩
 f28:=Tryz.func219.trans (congrArg some (by kernel_rfl))
 f29:=Tryz.func220.trans (congrArg some (by kernel_rfl))
 f46:=⟨Tryz.f258.name,by decide,Tryz.func258.trans (congrArg some (by kernel_rfl))⟩
 f47:=Tryz.func254.trans (congrArg some (by kernel_rfl))
 f48:=Tryz.func255.trans (congrArg some (by kernel_rfl))
 f49:=⟨Tryz.f259.name,by decide,Tryz.func259.trans (congrArg some (by kernel_rfl))⟩
 f50:=⟨Tryz.f260.name,by decide,Tryz.func260.trans (congrArg some (by kernel_rfl))⟩
 f57:=⟨Tryz.f269.name,by decide,Tryz.func269.trans (congrArg some (by kernel_rfl))⟩
 t0:=Zr
 a0:=ZQ
 z0:=Z_
 v0:=Zl
 t3:=Zq
 a3:=c_
 z3:=k_
 v3:=q_
 t4:=h_
 a4:=Zd
 z4:=Zk
 v4:=Zx
 t5:=Tryz.underlying5
 a5:=Tryz.isAgg5
 z5:=Tryz.sizeOf5
 v5:=Tryz.zeroValue5
 t9:=Tryz.underlying9
 a9:=Tryz.isAgg9
 z9:=Tryz.sizeOf9
 v9:=Tryz.zeroValue9
 t22:=s_
 a22:=Zj
 z22:=Zt
 v22:=g_
 t25:=Tryz.underlying177
 a25:=Tryz.isAgg177
 z25:=Tryz.sizeOf177
 v25:=Tryz.zeroValue177
 t39:=Tryz.underlying77
 a39:=Tryz.isAgg77
 z39:=Tryz.sizeOf77
 v39:=Tryz.zeroValue77
 t45:=Tryz.underlying210
 a45:=Tryz.isAgg210
 z45:=Tryz.sizeOf210
 v45:=Tryz.zeroValue210
 t46:=Tryz.underlying211
 a46:=Tryz.isAgg211
 z46:=Tryz.sizeOf211
 v46:=Tryz.zeroValue211
 t50:=Tryz.underlying137
 a50:=Tryz.isAgg137
 z50:=Tryz.sizeOf137
 v50:=Tryz.zeroValue137
 t53:=Tryz.underlying217
 a53:=Tryz.isAgg217
 z53:=Tryz.sizeOf217
 v53:=Tryz.zeroValue217
 t55:=Tryz.underlying219
 a55:=Tryz.isAgg219
 z55:=Tryz.sizeOf219
 v55:=Tryz.zeroValue219
 t66:=Tryz.underlying235
 a66:=Tryz.isAgg235
 z66:=Tryz.sizeOf235
 v66:=Tryz.zeroValue235
 t70:=Tryz.underlying239
 a70:=Tryz.isAgg239
 z70:=Tryz.sizeOf239
 v70:=Tryz.zeroValue239
 t76:=Tryz.underlying248
 a76:=Tryz.isAgg248
 z76:=Tryz.sizeOf248
 v76:=Tryz.zeroValue248
 t77:=Tryz.underlying249
 a77:=Tryz.isAgg249
 z77:=Tryz.sizeOf249
 v77:=Tryz.zeroValue249}
open Go.RowKit Go.Lib Go.Sort in
theorem Tryz.slices_SortFunc_none{α:Type}[Inhabited α](p:Option Addr)(cap:Nat)(b:Value)(w:World):
 Calls y_ 157 #[.slice p 0 cap,b] w λ e w'=>e=.returned (.tuple #[])/\w'=w:=AnyF.slices_SortFunc_none Tryz.Mj p cap b w
open Go.RowKit Go.Lib Go.Sort in
theorem Tryz.slices_SortFunc_total{α:Type}[Inhabited α](enc:α->Value)(h1:OneCell enc)(b:α->α->Int)(hO:SWO (ltOf b))(g:Nat)(cb:Array Value)(blk off cap:Nat)(d:Array α)(w:World)(c:∀args w,(callFunc g args).run y_ w=.ok (.enter g args) w)(f:CmpLays1 y_ g cb enc b blk off d.size w)(hH:Holds enc w blk off d)(hblk:blk<w.heap.size)(i:d.size<4611686018427387904)(j:∀x y,(ltOf b) x y=false->(ltOf b) y x=false->x=y):
 Calls y_ 157 #[.slice (some ⟨blk,off,none⟩) d.size cap,.func (.func g) #[] cb] w λ e w'=>
  e=.returned (.tuple #[])/\∃n os,w'=sortWorld enc w blk off n (d.toList.mergeSort λ x y=> !(ltOf b) y x).toArray os:=Any.slices_SortFunc_total Tryz.Mh enc h1 b hO g cb blk off cap d w c f hH hblk i j
end
section
open Go.RowKit Go.Shelf Go.Sort Go.Lib
theorem Mk:∀args w,(callFunc 221 args).run y_ w=.ok (.enter 221 args) w:=enters_of Tryz.func221 (by kernel_rfl) rfl
theorem Ml:∀args w,(callFunc 222 args).run y_ w=.ok (.enter 222 args) w:=enters_of Tryz.func222 (by kernel_rfl) rfl
theorem G0(x:Int)(w:World):Calls y_ 221 #[.int .i64 x] w λ e w'=>e=.returned (.bool (!(lz x 65536)))/\w=w':=by
 go_enter Tryz.func221,Tryz.ntmps221
 go_wp2_with (go_at_call 163;refine(CT x 65536 w (by omega) (by omega)).mono ?_;rintro e w' ⟨rfl,rfl⟩)
 go_ret;exact⟨rfl,rfl⟩
def B8(a b:Int):Int:=sg (oE (qV a) (qV b)) (oE b a)
theorem Mm(x y:Int)(w:World)(b: -65536<=x)(c:x<=65536)(d: -65536<=y)(f:y<=65536):
  Calls y_ 222 #[.int .i64 x,.int .i64 y] w λ e w'=>e=.returned (.int .i64 (B8 x y))/\w'=w.alloc (.cells #[.int .i64 (oE (qV x) (qV y)),.int .i64 (oE y x)] 3):=by
 have g:=U (z_ b c);have i:=U (z_ d f);clear b c d f;go_enter Tryz.func222,Tryz.ntmps222
 go_wp2_with (first
  |(go_at_call 168;refine(Fa _ _ (by first|exact g.o.1|exact i.o.1) (by first|exact g.o.2|exact i.o.2)).mono ?_;rintro e w' ⟨rfl,rfl⟩)
  |(go_at_call 160;refine(zJ _ _ _).mono ?_;rintro e w' ⟨rfl,rfl⟩)
  |(go_at_call 159;refine(Bb w.heap.size (oE (qV x) (qV y)) (oE y x) _ (by go_simp) (by go_simp)).mono ?_;rintro e w' ⟨rfl,rfl⟩))
 go_ret;exact⟨rfl,rfl⟩
theorem Mn(b:Value)(w:World):
  Calls y_ 142 #[.slice none 0 0,b] w λ e w'=>e=.returned (.int .i64 (-1))/\w=w':=by
 go_enter Tryz.func142,Tryz.ntmps142
 go_wp2;refine wp_loop_rounds 1 ?_;rw[rounds_succ];go_wp2;go_ret;exact⟨rfl,rfl⟩
theorem Mo(b:Value)(w:World):
  Calls y_ 85 #[.slice none 0 0,b] w λ e w'=>e=.returned (.slice none 0 0)/\w=w':=by
 have c:=Mn b w;go_enter Tryz.func85,Tryz.ntmps85
 go_wp2_with (go_at_call 142;refine c.mono ?_;rintro e w' ⟨rfl,rfl⟩)
 go_ret;exact⟨rfl,rfl⟩
theorem Mp(w:World):
  Calls y_ 223 #[.slice none 0 0] w λ e w'=>e=.returned (.slice none 0 0)/\w=w':=by
 go_enter Tryz.func223,Tryz.ntmps223
 go_wp2;go_ret;exact⟨rfl,rfl⟩
def p7(a b:Int):Bool:=decide (qV a<qV b)||(decide (qV a=qV b)&&decide (b<a))
theorem xd:p7 a b=true↔qV a<qV b\/(qV a=qV b/\b<a):=by simp[p7]
theorem B9(a:Int):¬p7 a a=true:=by rw[xd];omega
theorem DY{c:Int}(h1:p7 a b=true)(d:p7 b c=true):p7 a c=true:=by rw[xd] at*;omega
theorem Mq(h1:p7 a b=true):¬p7 b a=true:=by rw[xd] at*;omega
theorem Ca(h:a≠b):p7 a b=true\/p7 b a=true:=by rw[xd,xd];omega
def sV(l:List Int):Prop:=l.Pairwise λ a b=>p7 a b=true
theorem G1:∀{l m:List Int},sV l->sV m->(∀x,x∈l↔x∈m)->l=m
 |[],[],_,_,_=>rfl
 |[],y::m,_,_,h=>by have:=(h y).2 (by simp);simp at this
 |x::l,[],_,_,h=>by have:=(h x).1 (by simp);simp at this
 |x::l,y::m,h1,i,h=>by
  have d:=m_.1 h1;have f:=m_.1 i;have e:x=y:=by
   have b:=(h x).1 (by simp);have c:=(h y).2 (by simp);rcases o_.1 b with b|b
   ·exact b
   ·rcases o_.1 c with c|c
    ·exact c.symm
    ·exact absurd (d.1 y c) (Mq (f.1 x b))
  subst e
  congr 1
  refine G1 d.2 f.2 λ z=>?_
  have g:=h z;simp only[o_] at g;constructor
  ·intro hm;rcases g.1 (u_ hm) with e|e
   ·subst e;exact absurd (d.1 z hm) (B9 z)
   ·exact e
  ·intro hm;rcases g.2 (u_ hm) with e|e
   ·subst e;exact absurd (f.1 z hm) (B9 z)
   ·exact e
def xe(x:Int):List Int->List Int
 |[]=> [x]
 |y::l=>if p7 y x=true then y::xe x l else x::y::l
theorem DZ{x z:Int}:∀{l:List Int},z∈xe x l↔z=x\/z∈l
 |[]=>by simp[xe]
 |y::l=>by
  unfold xe;split
  ·simp only[o_,DZ];constructor
   ·rintro(h|h|h)
    ·exact u_ (r_ h)
    ·exact r_ h
    ·exact u_ (u_ h)
   ·rintro(h|h|h)
    ·exact u_ (r_ h)
    ·exact r_ h
    ·exact u_ (u_ h)
  ·simp
theorem G2{x:Int}:∀{l:List Int},sV l->x∉l->sV (xe x l)
 |[],_,_=>by simp[xe,sV]
 |y::l,h,b=>by
  have h':=m_.1 h;simp only[o_,not_or] at b;unfold xe;split
  ·rename_i c;refine m_.2 ⟨λ z d=>?_,G2 h'.2 b.2⟩;rcases DZ.1 d with e|e
   ·subst e;exact c
   ·exact h'.1 z e
  ·rename_i c;have f:p7 x y=true:=(Ca b.1).resolve_right c;refine m_.2 ⟨λ z d=>?_,h⟩;rcases o_.1 d with e|e
   ·subst e;exact f
   ·exact DY f (h'.1 z e)
def ya(out:List Int)(x:Int):List Int:=if lz x 65536=true/\hasB out x=false then xe x out else out
def kX(l:List Int):List Int:=l.foldl ya []
theorem D0:∀(l out:List Int),sV out->(sV (l.foldl ya out)/\∀x,x∈l.foldl ya out↔x∈out\/(x∈l/\lz x 65536=true))
 |[],out,h=>⟨h,λ x=>by simp⟩
 |y::l,out,h=>by
  have hs:sV (ya out y)/\∀x,x∈ya out y↔x∈out\/(x=y/\lz x 65536=true):=by
   unfold ya;split
   ·rename_i c;have f:y∉out:=λ hm=>by have:=oQ.2 hm;rw[c.2] at this;cases this
    refine⟨G2 h f,λ x=>?_⟩;rw[DZ];constructor
    ·rintro(e|e)
     ·subst e;exact u_ ⟨rfl,c.1⟩
     ·exact r_ e
    ·rintro(e|⟨e,_⟩)
     ·exact u_ e
     ·exact r_ e
   ·rename_i c;refine⟨h,λ x=>⟨r_,?_⟩⟩;rintro(e|⟨e,b⟩)
    ·exact e
    ·subst e
     cases d:hasB out x with
     |true=>exact oQ.1 d
     |false=>exact absurd ⟨b,d⟩ c
  obtain⟨h1,g⟩:=D0 l (ya out y) hs.1;refine⟨h1,λ x=>?_⟩;rw[List.foldl_cons,g,hs.2,o_];constructor
  ·rintro((e|⟨e,b⟩)|⟨e,b⟩)
   ·exact r_ e
   ·exact u_ ⟨r_ e,b⟩
   ·exact u_ ⟨u_ e,b⟩
  ·rintro(e|⟨e|e,b⟩)
   ·exact r_ (r_ e)
   ·exact r_ (u_ ⟨e,b⟩)
   ·exact u_ ⟨e,b⟩
theorem G3(l:List Int):sV (kX l):=(D0 l [] (by simp[sV])).1
theorem Cb:x∈kX l↔x∈l/\lz x 65536=true:=by
 have:=(D0 l [] (by simp[sV])).2 x;simpa[kX] using this
theorem Mr{m:List Int}(h:sV m)(hm:∀x,x∈m↔x∈l/\lz x 65536=true):m=kX l:=
 G1 h (G3 l) λ x=>by rw[hm,Cb]
abbrev r6:={x:Int//x≠0/\ -65536<=x/\x<=65536}
instance:Inhabited r6:=⟨⟨1,by decide⟩⟩
def r7(x:Int):Value:=.int .i64 x
def zj(x:r6):Value:=.int .i64 x.1
def sW(x y:r6):Int:=B8 x.1 y.1
theorem Ms{y:Int}:B8 x y<0↔p7 x y=true:=by
 rw[xd];unfold B8 sg oE;(repeat' split)<;>omega
theorem Av(x y:r6):ltOf sW x y=p7 x.1 y.1:=by
 unfold ltOf sW;rw[Bool.eq_iff_iff,decide_eq_true_eq,Ms]
theorem Cc:SWO (ltOf sW) where
 irrefl x:=by rw[Av];simpa using B9 x.1
 trans x y z h1 c:=by rw[Av] at*;exact DY h1 c
 ntrans x y z h1 c:=by
  rw[Av] at*
  cases h:p7 x.1 z.1 with
  |false=>rfl
  |true=>
   exfalso;have a:¬p7 x.1 y.1=true:=by rw[h1];exact Zp
   have b:¬p7 y.1 z.1=true:=by rw[c];exact Zp
   rw[xd] at*;omega
theorem Mt(x y:r6)(h1:ltOf sW x y=false)(b:ltOf sW y x=false):x=y:=by
 rw[Av] at*;rcases Classical.em (x.1=y.1) with e|e
 ·exact Subtype.ext e
 ·rcases Ca e with h|h
  ·rw[h1] at h;cases h
  ·rw[b] at h;cases h
theorem Mu(blk off size:Nat)(w:World):CmpLays1 y_ 222 #[] zj sW blk off size w:=by
 intro m os b hs x y;refine(Mm x.1 y.1 _ x.2.2.1 x.2.2.2 y.2.2.1 y.2.2.2).mono ?_;rintro e w' ⟨rfl,rfl⟩;exact⟨rfl,0, #[_],by rw[alloc_eq_grow];rfl⟩
def zk(x:Int):Bool:= !(lz x 65536)
theorem Mv(w:World):PredAt y_ 221 #[] r7 zk w:=by
 intro W x _;unfold FnGives;exact(G0 x W).mono λ _ _ ⟨he,hw⟩=>⟨he,0,by rw[<-hw];rfl⟩
theorem Mw(blk off size:Nat)(w:World):PredOver y_ 221 #[] r7 zk blk off size w:=by
 intro n os b x _;unfold FnGives;exact(G0 x _).mono λ _ _ ⟨he,hw⟩=>⟨he,0,by rw[<-hw];rfl⟩
theorem D1:OneCell r7:=λ _=>rfl
theorem Mx:OneCell zj:=λ _=>rfl
theorem filter_eq(b:List Int):(b.filter λ x=> !zk x)=b.filter λ x=>lz x 65536:=by
 congr 1;funext x;simp[zk]
def yb(b:List Int):List r6:=b.filterMap λ x=>if h:x≠0/\ -65536<=x/\x<=65536 then some ⟨x,h⟩ else none
theorem G4(b:List Int):(yb b).map (·.1)=b.filter λ x=>lz x 65536:=by
 induction b with
 |nil=>rfl
 |cons x l d=>
  unfold yb at*
  by_cases h:x≠0/\ -65536<=x/\x<=65536
  ·have c:lz x 65536=true:=s8.2 h;rw[List.filterMap_cons,List.filter_cons,c,dif_pos h];simpa using d
  ·have c:lz x 65536=false:=by
    cases e:lz x 65536 with
    |false=>rfl
    |true=>exact absurd (s8.1 e) h
   rw[List.filterMap_cons,List.filter_cons,c,dif_neg h];simpa using d
def G5(d:Array r6)(m:Nat):Prop:=∀i j,i<j->j<m->p7 d[j]!.1 d[i]!.1=false
theorem G6(d:Array r6):∀m,G5 d m->
  sV ((compactUpTo d m).map (·.1))/\(∀x,x∈compactUpTo d m↔∃i,i<m/\d[i]! =x)
 |0,_=>⟨by simp[compactUpTo,sV],λ x=>by simp[compactUpTo]⟩
 |m+1,h=>by
  obtain⟨h1,g⟩:=G6 d m (λ i j c t=>h i j c (by omega));rw[ZV]
  by_cases hk:keeps d m=true
  ·rw[if_pos hk];constructor
   ·rw[ZT];refine ZO.2 ⟨h1,by simp,λ a o b k=>?_⟩;simp only[d_,Zi,l_] at k;subst k;obtain⟨y,p,rfl⟩:=ZZ.1 o;obtain⟨i,c,rfl⟩:=(g y).1 p;have q:d[m]! ≠d[m-1]! :=by
     have:=of_decide_eq_true hk;rcases this with e|e
     ·omega
     ·exact e
    have a1:p7 d[m]!.1 d[m-1]!.1=false:=h (m-1) m (by omega) (by omega);have a2:p7 d[m-1]!.1 d[m]!.1=true:=(Ca (λ e=>q (Subtype.ext e.symm))).resolve_right (by rw[a1];exact Zp);rcases ZY i (m-1) with f|l
    ·have a3:p7 d[m-1]!.1 d[i]!.1=false:=h i (m-1) f (by omega);rcases Classical.em (d[i]!.1=d[m-1]!.1) with e|e
     ·rw[e];exact a2
     ·exact DY ((Ca e).resolve_right (by rw[a3];exact Zp)) a2
    ·have:i=m-1:=by omega
     subst this;exact a2
   ·intro x;rw[ZS,g,l_];constructor
    ·rintro(⟨i,c,e⟩|e)
     ·exact⟨i,by omega,e⟩
     ·exact⟨m,by omega,e.symm⟩
    ·rintro⟨i,c,e⟩;rcases ZY i m with f|l
     ·exact r_ ⟨i,f,e⟩
     ·have:i=m:=by omega
      subst this;exact u_ e.symm
  ·rw[if_neg hk,List.append_nil];refine⟨h1,λ x=>?_⟩;rw[g];constructor
   ·rintro⟨i,c,e⟩;exact⟨i,by omega,e⟩
   ·rintro⟨i,c,e⟩;rcases ZY i m with f|l
    ·exact⟨i,f,e⟩
    ·have r:i=m:=by omega
     subst r;have n:¬(i=0\/d[i]! ≠d[i-1]!):=λ s=>hk (decide_eq_true s)
     have u:i≠0:=λ e=>n (r_ e)
     have he:d[i]! =d[i-1]! :=Classical.byContradiction λ e=>n (u_ e)
     exact⟨i-1,by omega,by rw[<-he];exact e⟩
def uE(b:List Int):List r6:=(yb b).mergeSort λ x y=> !(ltOf sW) y x
theorem My{x:r6}:x∈yb ah↔x.1∈ah:=by
 unfold yb;rw[List.mem_filterMap];constructor
 ·rintro⟨a,b,h⟩;split at h
  ·injection h with h;rw[<-h];exact b
  ·cases h
 ·intro h;exact⟨x.1,h,by rw[dif_pos x.2]⟩
theorem Mz(d:List Int):G5 (uE d).toArray (uE d).length:=by
 have h:(uE d).Pairwise λ x y=>(!(ltOf sW) y x)=true:=by
  refine List.pairwise_mergeSort ?_ ?_ _
  ·intro a b c h1 e;simp only[Z6] at*;exact Cc.ntrans c b a e h1
  ·intro a b;simp only[Bool.or_eq_true,Z6]
   cases h1:ltOf sW b a with
   |false=>exact r_ rfl
   |true=>
    right
    cases e:ltOf sW a b with
    |false=>rfl
    |true=>have:=Cc.trans _ _ _ h1 e;rw[Cc.irrefl] at this;cases this
 intro i j g f;have:=List.pairwise_iff_getElem.1 h i j (by omega) f g;simp only[Z6,Av] at this;rw[getElem!_pos _ _ (by simpa using f),getElem!_pos _ _ (by simp;omega)];simpa using this
theorem G7(b:List Int):(compactUpTo (uE b).toArray (uE b).length).map (·.1)=kX b:=by
 obtain⟨h1,d⟩:=G6 (uE b).toArray (uE b).length (Mz b);refine Mr h1 λ x=>?_
 rw[ZZ];have hm:∀y:r6,y∈compactUpTo (uE b).toArray (uE b).length↔y.1∈b:=by
  intro y;rw[d,<-My,<-List.mem_mergeSort (le:=λ x y=> !(ltOf sW) y x)];show _↔y∈uE b;rw[List.mem_iff_getElem];constructor
  ·rintro⟨i,c,e⟩;rw[getElem!_pos _ _ (by simpa using c)] at e;exact⟨i,c,by simpa using e⟩
  ·rintro⟨i,c,e⟩;exact⟨i,c,by rw[getElem!_pos _ _ (by simpa using c)];simpa using e⟩
 constructor
 ·rintro⟨y,f,rfl⟩;exact⟨(hm y).1 f,s8.2 y.2⟩
 ·rintro⟨g,j⟩;exact⟨⟨x,s8.1 j⟩,(hm _).2 g,rfl⟩
def MA(b:List Int)(w:World)(e:Ending)(w':World):Prop:=
 ∃A c,e=.returned (.slice A b.length c)/\w'.ownsRow w.heap.size 3 1 (.slice A b.length c) b.length (b.map (Z3 .i64))/\Below w.heap.size w w'
theorem xg(A:Option Addr)(n c:Nat)(f:List Int)(w:World)(h:aN w A n c f):
  Calls y_ 81 #[.slice A n c] w (MA f w):=by
 obtain⟨i0,s,t,v,y⟩:=info_parts zK;have E:∀(w:World)(a:Option Addr)(n c m c':Nat),(binOp .eql 25 (.slice a n c) (.slice none m c')).run y_ w=.ok (.bool a.isNone) w:=λ w a n c m c'=>Lib.run_eql_slice_nil w _ _ a n c m c' s_
 have hlen:=h.len;have F:=h.mP;have H:=U h;clear h
 cases A with
 |none=>
  have z:n=0:=by
   rcases Zw n with d|d
   ·exact d
   ·obtain⟨b,off,he,_⟩:=H.o.cells d;cases he
  subst z;have B:f=[]:=w_ hlen;subst B;clear hlen;go_enter Tryz.func81,Tryz.ntmps81
  go_wp2;go_ret;exact⟨none,0,rfl,World.ownsRow_nil _ _ _ _,f_ _ _⟩
 |some a=>
  have e:=U hlen;clear hlen;go_enter Tryz.func81,Tryz.ntmps81
  go_wp2_with (at_builtin;refine wpList_append_own _ rfl _ _ 25 rfl w.heap.size 3 i0 (.int .i64 0) 1 8 s_ s t v y rfl (by decide) _ _ _ rfl (World.ownsRow_made w #[] 0 (b_ _) (Zc _) rfl) a n c (f.map (Z3 .i64)) rfl ?qc1 ?qc2 ?qc3 ?qc4 ?qc5 ?qc6 ?_)
  case qc1=>simp[e.o]
  case qc2=>
   intro j u p;have q:j<n:=by have:=(Z9.1 p).1;simpa[e.o] using this
   obtain⟨b,off,he,i,C⟩:=H.o.cells (by omega);injection he with he
   subst he;rw[ZM];rw[World.cell?_alloc_lt _ _ _ (by exact i),C j q];rw[List.getElem?_map,ZX (by rw[e.o];exact q)] at p;rw[pW (by rw[e.o];exact q)];exact p
  case qc3=>intro u hu;obtain⟨x,_,rfl⟩:=ZZ.1 hu;rfl
  case qc4=>unfold maxLen;omega
  case qc5=>omega
  case qc6=>simp
  intro v' w1 l D G;go_wp2;go_ret;have i:Below w.heap.size w w1:=((f_ _ w).alloc (b_ _) _).grown D (by simp) (by intro k hk;simp[Value.ownBlock] at hk;omega);have hl:=e.o;subst hl;rcases l.2 with⟨r,d⟩|⟨g,cap,cur,r,I⟩
  ·subst r;refine⟨none,0,?_,?_,i⟩
   ·rw[d];rfl
   ·rw[d] at l⊢;exact l
  ·subst r;exact⟨_,_,rfl,l,i⟩
def Own(w:World)(base g n cap:Nat)(b:List Int):Prop:=w.ownsRow base 3 1 (.slice (some ⟨g,0,none⟩) n cap) n (b.map (Z3 .i64))
theorem below_grow{B:Nat}{a:World}(h:Below B a w)(b:B<=w.heap.size)(os:Array Obj):Below B a (grow w os):=
 ⟨h.os,h.tape,h.output,by simp only[grow,Array.size_append];have:=h.size;omega,λ k hk=>by
  rw[<-h.block k hk];simp only[grow];rw[Array.getElem?_append_left (by omega)]⟩
theorem G8(l:List r6):l.map zj=(l.map (·.1)).map (Z3 .i64):=by rw[List.map_map];rfl
theorem MB(w:World)(base g n cap:Nat)(b:List Int)(h:Own w base g n cap b)(f:base<=g):
  Calls y_ 85 #[.slice (some ⟨g,0,none⟩) n cap,.func (.func 221) #[] #[]] w λ e w'=>
   ∃m,e=.returned (.slice (some ⟨g,0,none⟩) m cap)/\Own w' base g m cap (b.filter λ x=>lz x 65536)/\Below base w w':=by
 have h':w.ownsRow base 3 1 (.slice (some ⟨g,0,none⟩) n cap) n (b.map r7):=h;obtain⟨r,s,he,h1,t,i,j,c,l⟩:=Zn h' (by intro e;cases e)
 cases he
 have o:n<=9223372036854775807:=by unfold maxLen at j;omega
 have d:=Tryz.slices_DeleteFunc r7 D1 zk 221 #[] Mk 0 q_ g 0 cap b.toArray w (Mv w) (Mw _ _ _ w) l (by simpa[c] using o) (by simpa[c] using i);have hs:b.toArray.size=n:=by simp[c]
 rw[hs] at d;refine d.mono ?_;rintro e w' ⟨rfl,q,rfl⟩;have p:b.toArray.toList.filter (λ x=> !zk x)=b.filter λ x=>lz x 65536:=filter_eq b
 rw[p];have hle:=p_ (λ x=>lz x 65536) b;refine⟨_,rfl,?_,ZU (f_ _ _) f⟩;have:=Ze (q:=q) (k:=(b.filter λ x=>lz x 65536).length) (ys:=(b.filter λ x=>lz x 65536)++Zv (n-(b.filter λ x=>lz x 65536).length) 0) h' (by simp;omega) (by omega);rw[ZR rfl] at this;exact this
theorem MC(w:World)(base g m cap:Nat)(ls:List r6)(h:Own w base g m cap (ls.map (·.1)))(i:base<=g)(hm:m*8<=140737488355328):
  Calls y_ 157 #[.slice (some ⟨g,0,none⟩) m cap,.func (.func 222) #[] #[]] w λ e w'=>
   e=.returned (.tuple #[])/\Own w' base g m cap ((ls.mergeSort λ x y=> !(ltOf sW) y x).map (·.1))/\Below base w w':=by
 have h':w.ownsRow base 3 1 (.slice (some ⟨g,0,none⟩) m cap) m (ls.map zj):=by rw[G8];exact h
 obtain⟨p,r,he,h1,j,s,t,b,l⟩:=Zn h' (by intro e;cases e)
 cases he
 have n:m<4611686018427387904:=by omega
 have c:=Tryz.slices_SortFunc_total zj Mx sW Cc 222 #[] g 0 cap ls.toArray w Ml (Mu _ _ _ w) l j (by simpa[b] using n) Mt;have hs:ls.toArray.size=m:=by simp[b]
 rw[hs] at c;refine c.mono ?_;rintro e w' ⟨rfl,q,os,rfl⟩;have f:=Ze (q:=q) (k:=m) (ys:=ls.mergeSort λ x y=> !(ltOf sW) y x) h' (by simp[b]) (b_ _);rw[List.take_of_length_le (by simp[b]),G8] at f;refine⟨rfl,?_,?_⟩
 ·have:=ownsRow_grow f 0 os;exact this
 ·have o:=ZU (enc:=zj) (q:=q) (d:=(ls.mergeSort λ x y=> !(ltOf sW) y x).toArray) (f_ base w) i;exact below_grow o (by simp[putRow,mapBlock,ZP];omega) os
theorem G9(ls:List r6):∀m,m<=ls.length->compactUpTo (ls.map (·.1)).toArray m=(compactUpTo ls.toArray m).map (·.1)
 |0,_=>by simp[compactUpTo]
 |m+1,h=>by
  have b:∀j,j<ls.length->(ls.map (·.1)).toArray[j]! =(ls.toArray[j]!).1:=by
   intro j c;rw[getElem!_pos _ _ (by simpa using c),getElem!_pos _ _ (by simpa using c)];simp
  rw[ZV,ZV,ZT,G9 ls m (by omega)]
  congr 1
  have hk:keeps (ls.map (·.1)).toArray m=keeps ls.toArray m:=by
   unfold keeps;rw[b m (by omega),b (m-1) (by omega)]
   congr 1
   rw[ne_eq,ne_eq,Subtype.ext_iff]
  rw[hk,b m (by omega)];split<;>simp
theorem He(w:World)(base g n cap:Nat)(ls:List r6)(h:Own w base g n cap (ls.map (·.1)))(c:base<=g):
  Calls y_ 223 #[.slice (some ⟨g,0,none⟩) n cap] w λ e w'=>
   ∃m,e=.returned (.slice (some ⟨g,0,none⟩) m cap)/\Own w' base g m cap ((compactUpTo ls.toArray ls.length).map (·.1))/\Below base w w':=by
 have h':w.ownsRow base 3 1 (.slice (some ⟨g,0,none⟩) n cap) n ((ls.map (·.1)).map r7):=h;obtain⟨o,p,he,h1,r,d,f,i,j⟩:=Zn h' (by intro e;cases e)
 cases he
 have l:n<=9223372036854775807:=by unfold maxLen at f;omega
 have hl:ls.length=n:=by simpa using i
 have hs:(ls.map (·.1)).toArray.size=n:=by simp[hl]
 have b:=Tryz.slices_Compact r7 D1 (EqlAt.intD _ _ _) ⟨λ x y w=>by rw[r7,r7,(NeqAt.int y_ 3 .i64).1 x y w];congr 1,.int _ _ _⟩ 0 q_ g 0 cap (ls.map (·.1)).toArray w j (by rw[hs];exact l) (by rw[hs];exact d);rw[hs] at b;refine b.mono ?_;rintro e w' ⟨rfl,q,rfl⟩;rw[<-hl,G9 ls ls.length (b_ _)];have hle:((compactUpTo ls.toArray ls.length).map (·.1)).length<=n:=by
  rw[Zh];unfold compactUpTo;rw[Zh];refine j_ (p_ _ _) (by simp[hl])
 refine⟨_,rfl,?_,ZU (f_ _ _) c⟩;have:=Ze (q:=q) (k:=((compactUpTo ls.toArray ls.length).map (·.1)).length) (ys:=((compactUpTo ls.toArray ls.length).map (·.1))++Zv (n-((compactUpTo ls.toArray ls.length).map (·.1)).length) 0) h' (by simp at hle⊢;omega) hle;rw[ZR rfl] at this;rw[hl] at this⊢;exact this
def uF(l:List Int)(k:Nat):Bool:=(List.range k).any λ i=>decide (0<i)&&(jv l (i-1)== -(jv l i))
def sD(l:List Int):Bool:=uF l l.length
theorem Hf(l:List Int)(k:Nat):uF l (k+1)=(uF l k||(decide (0<k)&&(jv l (k-1)== -(jv l k)))):=by
 unfold uF;rw[List.range_succ,List.any_append];simp
theorem MD(l:List Int){j k:Nat}(h:j<=k)(b:uF l j=true):uF l k=true:=by
 unfold uF at*;rw[List.any_eq_true] at*;obtain⟨x,c,he⟩:=b;exact⟨x,by rw[List.mem_range] at*;omega,he⟩
theorem ME(hk:k<l.length)(h:uF l (k+1)=true):sD l=true:=MD l (by omega) h
theorem MF(h:x∈kX ah):x≠0/\ -65536<=x/\x<=65536:=s8.1 (Cb.1 h).2
theorem MG(b:List Int):CU (kX b):=λ x h=>MF h
theorem MH(b:List Int):(kX b).length<=b.length:=by
 rw[<-G7];rw[Zh];unfold compactUpTo;rw[Zh];refine j_ (p_ _ _) ?_;rw[List.length_range];unfold uE;rw[List.length_mergeSort];unfold yb;exact List.length_filterMap_le _ _
def MI(b:List Int)(w:World)(e:Ending)(w':World):Prop:=
 ∃A c,e=.returned (.tuple #[.slice A (kX b).length c,.bool (sD (kX b))])/\aN w' A (kX b).length c (kX b)/\w'.ownsRow w.heap.size 3 1 (.slice A (kX b).length c) (kX b).length ((kX b).map (Z3 .i64))/\Below w.heap.size w w'
theorem Own.xh(h:Own w base g n cap ah)(b:n*8<=140737488355328):aN w (some ⟨g,0,none⟩) n cap ah:=aN.lq h b
theorem Own.len(h:Own w base g n cap ah):ah.length=n:=by simpa using h.1
theorem Hg{ig:Nat}{a b:Bool}(d:n=ig)(h:a=b):Ending.returned (.tuple #[.slice A n c,.bool a])=.returned (.tuple #[.slice A ig c,.bool b]):=by rw[d,h]
theorem MJ(A:Option Addr)(n c:Nat)(d:List Int)(w:World)(h:aN w A n c d):
  Calls y_ 179 #[.slice A n c] w (MI d w):=by
 have M:=xg A n c d w h;have N:=h.mP;have hlen:=h.len;have C:=U (z_ hlen N);clear h hlen N;go_enter Tryz.func179,Tryz.ntmps179
 go_wp2_with fail
 refine M.mono ?_;clear M;rintro e w1 ⟨aC,c1,rfl,t,O⟩;have D:=U O;clear O;rcases t.2 with⟨p,u⟩|⟨g,cap,cur,p,E,ah⟩
 ·have ai:d=[]:=w_ u;subst ai;simp only[ZK] at p;obtain⟨rfl,-,rfl⟩:=p;clear t u;have aj:=Mo (.func (.func 221) #[] #[]) w1;have ak:Calls y_ 157 #[.slice none 0 0,.func (.func 222) #[] #[]] w1 λ e w'=>e=.returned (.tuple #[])/\w1=w':=(Tryz.slices_SortFunc_none (α:=r6) none 0 (.func (.func 222) #[] #[]) w1).mono λ _ _ ⟨h1,al⟩=>⟨h1,al.symm⟩
  have an:=Mp w1
  go_wp2_with (first
   |(go_at_call 85;refine aj.mono ?_;rintro e w' ⟨rfl,rfl⟩)
   |(go_at_call 157;refine ak.mono ?_;rintro e w' ⟨rfl,rfl⟩)
   |(go_at_call 223;refine an.mono ?_;rintro e w' ⟨rfl,rfl⟩))
  refine wp_loop_rounds 1 ?_;rw[rounds_succ];go_wp2
  go_ret2
  exact⟨none,0,rfl,aN.nil _ _ _ (Zc _),⟨rfl,r_ ⟨rfl,rfl⟩⟩,D.o⟩
 ·simp only[ZK] at p;obtain⟨rfl,-,rfl⟩:=p;have P:Own w1 w.heap.size g d.length c1 d:=t;clear ah t
  go_wp2_with fail
  refine(MB w1 w.heap.size g d.length c1 d P E).mono ?_;rintro e ao ⟨m2,rfl,v,Q⟩;rw[<-G4] at v;have F:=v.len;have R:m2*8<=140737488355328:=by
   rw[G4] at F;have:=p_ (λ x=>lz x 65536) d;have:=C.o;omega
  have S:=MC ao w.heap.size g m2 c1 (yb d) v E R;have aq:=U F;have T:=U Q;clear F Q v P
  go_wp2_with fail
  refine S.mono ?_;clear S;rintro e ar ⟨rfl,V,W⟩;have X:=He ar w.heap.size g m2 c1 (uE d) V E;have Y:=U W;clear W V
  go_wp2_with fail
  refine X.mono ?_;clear X;rintro e G ⟨m,rfl,r,Z⟩;rw[G7] at r;have hm:=r.len;have au:m*8<=140737488355328:=by
   have:=MH d;have:=C.o;omega
  have aa:=r.xh au;have H:=U aa;have f:=U hm;have ab:=U r;have y:bF (Below w.heap.size w G):=U (((D.o.trans T.o).trans Y.o).trans Z);clear hm aa r Z D T Y aq R C;have av:=U (MG d);go_wp2
  go_loopw [15] (λ i wr=>∃k q:Nat,k<=m/\i=.int .i64 k/\uF (kX d) k=false/\wr=G.drewN q) (λ i _=>m-(intOf i).toNat)
  case atStart=>exact⟨0,0,Zc _,rfl,rfl,rfl⟩
  case round=>
   obtain⟨k,q,hk,rfl,ad,rfl⟩:=hrel;have I:=U ad;clear ad
   by_cases ae:k<m
   ·obtain⟨b,off,J,aD,z⟩:=H.o.cells (by omega);injection J with J
    injection J with aw ax
    subst aw ax;have ay:=z k ae;have hl:k<(kX d).length:=by rw[f.o];exact ae
    have B:=av.o.at hl;have aE:=Je B.2.1 B.2.2;have az:=U B;clear B
    by_cases u:0<k
    ·have aA:=z (k-1) (by omega);obtain⟨j,K⟩:∃j,k-1=j:=⟨_,rfl⟩
     rw[K,ZL] at aA;rw[ZL] at ay;clear z;have af:=I.o;have l:=Hf (kX d) k;rw[af,K,decide_eq_true u,Bool.false_or,Bool.true_and] at l;have s:=U l;have aF:a_.wrap ((k:Int)-1)=(j:Int):=by rw[show(k:Int)-1=(j:Int) by omega];exact IntWalk.i64_in (j:Int) (by omega)
     have aG:j<m:=by omega
     have aH:(j:Int)<(m:Int):=by omega
     have aI:(k:Int)<(m:Int):=by omega
     have aJ:(0:Int)<(k:Int):=by omega
     have aK:a_.wrap (-(jv (kX d) k))= -(jv (kX d) k):=by have:=az.o;exact IntWalk.i64_in (-(jv (kX d) k)) (by omega)
     clear l af K;generalize aL:(jv (kX d) j== -(jv (kX d) k))=o at s
     cases o
     ·go_wp2_with fail
      go_quiet (fail)
      go_wp2;go_roundw
      case rel=>exact⟨k+1,_,by omega,by go_num,s.o,rfl⟩
      case measure=>simp[intOf];omega
     ·go_wp2_with fail
      go_quiet (fail)
      go_wp2
      go_ret2
      exact⟨_,_,Hg f.o.symm (ME hl s.o).symm,by rw[f.o,Z7];exact H.o.below (tL _ _),by rw[f.o,Z7];exact lU ab.o (tL _ _),by rw[Z7];exact y.o.trans ((tL _ _).mono y.o.size)⟩
    ·obtain rfl:k=0:=by omega
     have l:=Hf (kX d) 0;rw[I.o] at l;have s:=U l;clear l z
     go_wp2_with fail
     go_quiet (fail)
     go_wp2;go_roundw
     case rel=>exact⟨1,_,by omega,by go_num,s.o,rfl⟩
     case measure=>simp[intOf];omega
   ·have L:=U (tL G q);have ag:uF (kX d) (kX d).length=false:=by
     have:=I.o;rw[show k=(kX d).length by rw[f.o];omega] at this;exact this
    have aB:=U ag;clear ag;go_wp2
    go_ret2
    exact⟨_,_,Hg f.o.symm aB.o.symm,by rw[f.o];exact H.o.below L.o,by rw[f.o];exact lU ab.o L.o,y.o.trans (L.o.mono y.o.size)⟩
end
section
open Go.RowKit Go.Shelf
section
variable {K:Nat->Prop}{base:Nat}{w W:World}{G:Nat}{hs:Nat->aq}{cb:Nat->Nat}{s:an}
theorem MK{b lV:Nat}{t nL:TypeId}{cs Hh:List Value}(h:aM w b t cs)(h':aM w lV nL Hh)(c:t≠nL):b≠lV:=λ e=>by
 subst e;have:=h.symm.trans h';injection this with this
 injection this with _ d
 exact c d
theorem aP.other(h:aP K base w G hs cb s){b k:Nat}{v:Value}(j:G≠b)(l:∀r g,(hs r).b=some g->b≠g)(m:∀d,d<s.c.cl.length->cb d≠b)(n:¬K b):aP K base (w.setCell ⟨b,k,none⟩ v) G hs cb s/\aF K w (w.setCell ⟨b,k,none⟩ v):=by
 have f:=kK w b k v;refine⟨⟨⟨h.e.box.kept f (λ e=>j (by injection e)),h.e.rows.kept f (λ r g e o=>l r g e (by injection o)),λ d i=>(h.e.cls d i).kept f (λ e=>m d i (by injection e)),h.e.inj,h.e.rB,h.e.rW⟩,h.s.more f.size⟩,aF.set b k v n⟩
theorem an.ML{l:List Int}{x:sq}(h:l.length<2):s.sC l x={s with c:=kj s.c l,ci:=s.ci++[x]}:=by
 unfold an.sC kj;rw[if_neg (by omega)]
def vG(K:Nat->Prop)(base:Nat)(w:World)(G:Nat)(cb:Nat->Nat)(s':an)(e:Ending)(w':World):Prop:=
 e=.returned (.tuple #[])/\∃hs',aP K base w' G hs' cb s'/\aF K w w'
theorem vG.to{s1 s2:an}{e:Ending}{w':World}(h:vG K base w G cb s1 e w')(b:s1=s2):vG K base w G cb s2 e w':=b▸h
end
theorem Hi(h:aP K base w G hs cb s)(T:jU s.c)(ao:s.ci.length=s.c.cl.length)(aT:s.c.n<=60000)(ar:s.c.wt.length=2*s.c.n+2)(au:∀k,(aA s.c.wt k).length<=1000000)(av:s.c.st.length<=1000000)
  {l6:Option Addr} {jj c0 blk:Nat} {ah:List Int} {x:sq} (aw:cb s.c.cl.length=blk) (hblk:aM w blk vB [.slice l6 jj c0,.bool x.kT,.int .i64 x.aS,.int .i64 x.ac]) (ax:base<=blk) (ay:¬K blk) (az:∀d,d<s.c.cl.length->cb d≠blk) (aB:aN w l6 jj c0 ah) (j:∀z∈ah,gF s.c.n z):
  Calls y_ 144 #[.pointer (some ⟨G,0,none⟩),.pointer (some ⟨blk,0,none⟩)] w (vG K base w G cb (s.oL (kX ah) (sD (kX ah)) x)):=by
 have V:=hblk.cell 0;have V:w.cell? ⟨blk,0,none⟩=some (.slice l6 jj c0):=V;have aC:=U (MJ l6 jj c0 ah w aB);obtain⟨l,hl⟩:∃l,kX ah=l:=⟨_,rfl⟩
 obtain⟨m,hm⟩:∃m,l.length=m:=⟨_,rfl⟩
 have aD:∀z∈l,gF s.c.n z:=λ z aU=>j z (Cb.1 (hl▸aU)).1
 have D:=U (z_ h (z_ T (z_ ao (z_ aT (z_ ar (z_ au (z_ av (z_ aw (z_ hblk (z_ ax (z_ ay (z_ az (z_ hl (z_ hm aD))))))))))))));clear h T ao ar au av aw ax ay az aB j hl hm aD hblk;go_enter Tryz.func144,Tryz.ntmps144
 go_upto_region 1 with(go_at_call 179;refine aC.o.mono ?_;rintro e w1 ⟨A,c,rfl,aE,aG,aH⟩;have u:=U (z_ aE (z_ aG aH));clear aE aG aH)
 have hl:=D.o.2.2.2.2.2.2.2.2.2.2.2.2.1;have hm:=D.o.2.2.2.2.2.2.2.2.2.2.2.2.2.1;obtain⟨b,W⟩:∃b,sD l=b:=⟨_,rfl⟩
 rw[hl,hm] at u;rw[hl,hm,W];have E:=U (D.o.1.below u.o.2.2);have B:=D.o.2.2.2.2.2.2.2.2.1.below u.o.2.2;have aV:w1.cell? ⟨blk,0,none⟩=some (.slice l6 jj c0):=B.cell 0;have f1:w1.frozen? ⟨blk,0,none⟩=false:=B.free 0;have X:=U (z_ hl (z_ hm W));clear hl hm W V aC;have Y:=B.set 0 (.slice A m c);have Z:=E.o.1.other (b:=blk) (k:=0) (v:=.slice A m c) (MK E.o.1.e.box B (by decide)) (λ r g F aW=>E.o.1.e.rows.Da B (λ r=>(Dk r).2) r g F (by rw[aW])) D.o.2.2.2.2.2.2.2.2.2.2.2.1 D.o.2.2.2.2.2.2.2.2.2.2.1;have p:=U (E.o.2.trans Z.2);have q:=U Z.1;clear Z;have aa:(w1.setCell ⟨blk,0,none⟩ (.slice A m c)).ownsRow base 3 1 (aq.v ⟨A,m,c⟩) m (gT l):=by
  refine yQ (mK u.o.2.1 (λ g ab=>Below.heap_setCell _ _ _ _ (λ e=>?_))) (Zg D.o.1.e.lt);have h1:=u.o.2.1.lt g ab;have aI:=D.o.2.2.2.2.2.2.2.2.1.lt;have e:g=blk:=e;omega
 have aJ:∀g,(⟨A,m,c⟩:aq).b=some g->(∀r,(hs r).b≠some g)/\¬K g:=λ g ab=>by
  have h1:=u.o.2.1.lt g (by rw[show Z0 A m c=aq.v ⟨A,m,c⟩ from rfl,aq.own];exact ab);refine⟨λ r e=>?_,λ hk=>?_⟩
  ·have:=(D.o.1.e.rows.lt e).2;omega
  ·have:=D.o.1.s.lt g hk;omega
 go_upto_region 3 with fail
 generalize w1.setCell ⟨blk,0,none⟩ (.slice A m c)=i at Y q p aa⊢;have H:bF (aP K base i G (iH hs (kz s.c.cl.length) ⟨A,m,c⟩) cb (s.sC l x)):=U (q.o.sC (hl:=⟨A,m,c⟩) (by rw[D.o.2.2.2.2.2.2.2.1];exact Y) (by rw[D.o.2.2.2.2.2.2.2.1];exact D.o.2.2.2.2.2.2.2.2.2.1) (by rw[D.o.2.2.2.2.2.2.2.1];exact D.o.2.2.2.2.2.2.2.2.2.2.1) (by rw[D.o.2.2.2.2.2.2.2.1];exact D.o.2.2.2.2.2.2.2.2.2.2.2.1) aa aJ D.o.2.2.1);clear aa aJ Y aV f1 B E
 cases b with
 |true=>
  go_wp2_with fail
  go_end0;refine vG.to (s1:=s) ⟨rfl,_,q.o,p.o⟩ ?_;unfold an.oL pP;rw[X.o.1,X.o.2.2,if_pos rfl,if_pos (r_ rfl)]
 |false=>
  by_cases L:m=0
  ·subst L;have aX:i.cell? ⟨G,15,none⟩=some (.bool s.c.lC):=q.o.e.kA (k:=15) (v:=.bool s.c.lC) rfl;have f15:=q.o.e.free 15;have f:=q.o.Ga;have f:=U (z_ f.1 (p.o.trans f.2))
   go_wp2_with fail
   go_end0;refine vG.to (s1:={s with c:=wR s.c}) ⟨rfl,_,f.o.1,f.o.2⟩ ?_;unfold an.oL pP;rw[X.o.1,X.o.2.2,X.o.2.1,if_neg (by decide),if_pos rfl,if_pos (u_ rfl)]
  ·have a8:((m:Int)==0)=false:=by rw[beq_eq_false_iff_ne];omega
   have a':decide ((m:Int)=0)=false:=decide_eq_false (by omega);obtain⟨bk,M,ad,-⟩:=H.o.e.wV (r:=kz s.c.cl.length) (m:=m) (by rw[jC]) L;rw[jC] at M;have M:A=some ⟨bk,0,none⟩:=M;subst M;have I:=H.o.e.x2 ad;rw[jC] at I;have I:m<=c:=I;obtain⟨y,N⟩:∃y,ai l 0=y:=⟨_,rfl⟩
   have O:aA (s.sC l x).c.cl s.c.cl.length=l:=by show aA (s.c.cl++[l]) _=l;rw[uQ]
   have ba:i.cell? ⟨bk,0,none⟩=some (.int .i64 y):=by
    have:=H.o.e.x6 ad (k:=0) (by rw[O,X.o.2.1];omega);rw[O,N] at this;exact this
   have aK:gF s.c.n y:=by rw[<-N];exact D.o.2.2.2.2.2.2.2.2.2.2.2.2.2.2 _ (lY (by rw[X.o.2.1];omega))
   have C:=U (z_ N (z_ aK O));have aY:=U I;clear N aK O ad I
   by_cases aL:m=1
   ·subst aL;have aO:s.sC l x={s with c:=kj s.c l,ci:=s.ci++[x]}:=an.ML (by rw[X.o.2.1];omega);obtain⟨z,j⟩:∃z,jY s.c y=z:=⟨_,rfl⟩
    have F:=D.o.2.1.range y;rw[j] at F;have J:bF (aP K base i G (iH hs (kz s.c.cl.length) ⟨some ⟨bk,0,none⟩,1,c⟩) cb {s with c:=kj s.c l,ci:=s.ci++[x]}):=U (aO▸H.o);have ae:bF (Calls y_ 152 #[.pointer (some ⟨G,0,none⟩),.int .i64 y] i λ e w'=>e=.returned (.int .i8 z)/\i=w'):=U (by
     have:=BS J.o D.o.2.1.new D.o.2.2.2.1 (x:=y) C.o.2.1;rw[show jY (({s with c:=kj s.c l,ci:=s.ci++[x]}:an).c) y=z from j] at this;exact this)
    have aQ:=U (z_ j F);clear aO j F;have c1:(1:Int)<=(c:Int):=by have:=aY.o;omega
    have af:bF (∀c':Core,pP s.c l false=c'->∀s',s'=({s with c:=c',ci:=s.ci++[x]}:an)->s'=s.oL (kX ah) (sD (kX ah)) x):=U (λ c' h1 s' aI=>by
     unfold an.oL;rw[X.o.1,X.o.2.2,h1,if_neg (by rw[X.o.2.1];decide),aI])
    have ag:bF (pP s.c l false=if z= -1 then wR (kj s.c l) else if z=0 then k5 (kj s.c l) y (some s.c.cl.length) else kj s.c l):=U (by
     unfold pP;rw[if_neg (by decide),if_neg (by rw[X.o.2.1];decide),if_pos (by rw[X.o.2.1]),C.o.1,aQ.o.1])
    by_cases P:z= -1
    ·have aj:z<0:=by omega
     have aZ:decide (z<0)=true:=decide_eq_true aj;have Q:=U P;clear P;have aX:i.cell? ⟨G,15,none⟩=some (.bool s.c.lC):=J.o.e.kA (k:=15) (v:=.bool s.c.lC) rfl;have f15:=q.o.e.free 15;have f:=J.o.Ga;have f:=U (z_ f.1 (p.o.trans f.2))
     go_wp2_with (go_at_call 152;refine ae.o.mono ?_;rintro e R ⟨rfl,rfl⟩;dsimp only)
     go_end0;refine vG.to ⟨rfl,_,f.o.1,f.o.2⟩ (af.o (wR (kj s.c l)) (by rw[ag.o,if_pos Q.o]) _ rfl)
    ·have aj:¬z<0:=by have:=aQ.o;omega
     have aZ:decide (z<0)=false:=decide_eq_false aj;have Q:=U P;clear P
     by_cases t:z=0
     ·have d0:(z==0)=true:=beq_iff_eq.2 t;have a6:decide (z=0)=true:=decide_eq_true t;have ak:=U t;clear t;have a7:bF (Calls y_ 156 #[.pointer (some ⟨G,0,none⟩),.int .i64 y,.pointer (some ⟨blk,0,none⟩)] i λ e w'=>e=.returned (.tuple #[])/\∃h':aq,aP K base w' G (iH (iH hs (kz s.c.cl.length) ⟨some ⟨bk,0,none⟩,1,c⟩) 4 h') cb {s with c:=k5 (kj s.c l) y (some s.c.cl.length),ci:=s.ci++[x]}/\aF K i w'):=U (by
       have h1:=BR J.o y (some s.c.cl.length) D.o.2.1.new (show gF s.c.n y from C.o.2.1) (show s.c.n<=60000 from D.o.2.2.2.1) (show s.c.st.length<=1000000 from D.o.2.2.2.2.2.2.1);rw[show q3 cb (some s.c.cl.length)=.pointer (some ⟨blk,0,none⟩) by show Value.pointer (some ⟨cb s.c.cl.length,0,none⟩)=_;rw[D.o.2.2.2.2.2.2.2.1]] at h1;exact h1)
      go_wp2_with (first|(go_at_call 152;refine ae.o.mono ?_;rintro e R ⟨rfl,rfl⟩;dsimp only)|(go_at_call 156;refine a7.o.mono ?_;rintro e R ⟨rfl,h',f,al⟩;dsimp only))
      go_end0;refine vG.to ⟨rfl,_,f,p.o.trans al⟩ (af.o (k5 (kj s.c l) y (some s.c.cl.length)) (by rw[ag.o,if_neg Q.o,if_pos ak.o]) _ rfl)
     ·have d0:(z==0)=false:=by rw[beq_eq_false_iff_ne];exact t
      have a6:decide (z=0)=false:=decide_eq_false t;have ak:=U t
      go_wp2_with (go_at_call 152;refine ae.o.mono ?_;rintro e R ⟨rfl,rfl⟩;dsimp only)
      go_end0;refine vG.to ⟨rfl,_,J.o,p.o⟩ (af.o (kj s.c l) (by rw[ag.o,if_neg Q.o,if_neg ak.o]) _ rfl)
   ·have bb:((m:Int)==1)=false:=by rw[beq_eq_false_iff_ne];omega
    have bc:decide ((m:Int)=1)=false:=decide_eq_false (by omega);have aR:bF (2<=l.length):=U (by rw[X.o.2.1];omega);have S:=K8 H.o (d:=s.c.cl.length) (by show _<(s.c.cl++[l]).length;simp) (by rw[C.o.2.2];exact aR.o) (by rw[C.o.2.2];exact D.o.2.2.2.2.2.2.2.2.2.2.2.2.2.2) (show s.c.n<=60000 from D.o.2.2.2.1) (show s.c.wt.length=2*s.c.n+2 from D.o.2.2.2.2.1) (show∀k,(aA s.c.wt k).length<=1000000 from D.o.2.2.2.2.2.1);rw[D.o.2.2.2.2.2.2.2.1,Gw,C.o.2.2] at S;have S:=U S
    go_wp2_with (go_at_call 180;refine S.o.mono ?_;rintro e R ⟨rfl,bd,f,al⟩;dsimp only)
    go_end0;refine vG.to ⟨rfl,_,f,p.o.trans al⟩ ?_;unfold an.oL pP;rw[X.o.1,X.o.2.2,X.o.2.1,if_neg (by decide),if_neg L,if_neg aL,if_neg (by rintro(h|h);cases h;exact L h)];unfold kj;rw[if_pos aR.o];rfl
end
section
open Go.RowKit Go.Shelf
theorem Hj:(y_.info? 126).map (λ i=>(i.zero,i.size,i.bytes))=some (some (.agg #[.int .i64 0,.slice none 0 0]),2,32):=by kernel_rfl
theorem D2:∀l:List nc,(mg l).length=l.length*2
 |[]=>rfl
 |p::l=>by
  have:=D2 l;unfold mg at this⊢;simp only[d_,List.flatten_cons,x_,List.length_cons,List.length_nil,this];omega
theorem MM(a b:List nc):mg (a++b)=mg a++mg b:=by simp[mg]
def o4(K:Nat->Prop)(w:World)(s:an):Prop:=∀h,s.jg=some h->h.n=s.aD.length/\h.c=h.n/\((h.A=none/\h.n=0)\/∃b off,h.A=some ⟨b,off,none⟩/\(0<h.n->K b)/\∀j u,(mg s.aD)[j]? =some u->w.cell? ⟨b,off+j,none⟩=some u)
theorem o4.kept{s':an}(h:o4 K w s)(f:aF K w w')(h1:s'.jg=s.jg)(m:s'.aD=s.aD):o4 K w' s':=by
 intro d k;rw[h1] at k;obtain⟨a,b,c⟩:=h d k;rw[m];refine⟨a,b,c.imp id ?_⟩;rintro⟨l,off,e,hk,o⟩;refine⟨l,off,e,hk,λ j u g=>?_⟩;have q:0<d.n:=by
  rcases Zw d.n with i|i
  ·rw[i] at a;have:s.aD=[]:=w_ a.symm;rw[this] at g;simp[mg] at g
  ·exact i
 rw[f.cell (p:=⟨l,off+j,none⟩) (hk q)];exact o j u g
def uc(hs:Nat->aq)(s:an):Option Nat:=match s.jg with
 |some _=>none
 |none=>(hs 11).b
def Cd(w:World)(base:Nat)(row:Option Nat)(n:Nat)(ys:List Value)(v':Value)(w':World):Prop:=
 w'.ownsRow base 126 2 v' n ys/\w.grownBy w' row/\(v'.ownBlock=row\/∀g,v'.ownBlock=some g->w.heap.size<=g)
theorem MN(h:aP K base w G hs cb s)(P:o4 K w s)(ty:TypeId)(f c1:Nat)(p:nc)(J:w.cell? ⟨f,0,none⟩=some (.int .i64 p.jf))(h1:w.cell? ⟨f,1,none⟩=some p.h.v)(O:s.aD.length<=1099511627776):
  ∃v' w',(Builtin.append_ #[45,45] ty #[oc hs s,.slice (some ⟨f,0,none⟩) 1 c1]).run y_ w=.ok v' w'/\Cd w base (uc hs s) (s.aD.length+1) (mg (s.aD++[p])) v' w':=by
 obtain⟨i0,q,r,t,y⟩:=info_parts Hj;have z:∀j u,([.int .i64 p.jf,p.h.v]:List Value)[j]? =some u->w.cell? ((⟨f,0,none⟩:Addr).add j)=some u:=by
  intro j u i;have Q:j<2:=(Z9.1 i).1;rw[ZM,ZL];rcases(show j=0\/j=1 by omega) with rfl|rfl
  ·simp only[n_,ZJ] at i;subst i;exact J
  ·simp only[Zu,n_,ZJ] at i;subst i;exact h1
 have H:∀u∈([.int .i64 p.jf,p.h.v]:List Value),u.oneCell'=true:=by
  intro u hu;simp only[o_,List.not_mem_nil,or_false] at hu;rcases hu with rfl|rfl<;>rfl
 have I:mg (s.aD++[p])=mg s.aD++[.int .i64 p.jf,p.h.v]:=by rw[MM];rfl
 have B:=Zg h.e.lt
 cases k:s.jg with
 |none=>
  have C:=h.e.rows.row 11;have l:cont hs cb s 11=mg s.aD:=by show(match s.jg with|some _=> []|none=>mg s.aD)=_;rw[k]
  have o:(hs 11).n=s.aD.length:=by
   have:=C.1;rw[l,D2] at this;have L:nW 11=2:=rfl;rw[L] at this;omega
  rw[l,o] at C;obtain⟨v',w',g1,g2,g3,_,g5⟩:=run_append_own_at (P:=y_) w base 45 ty 126 i0 (.agg #[.int .i64 0,.slice none 0 0]) 2 32 Z8 q r t y rfl (by decide) (hs 11).v s.aD.length (mg s.aD) C ⟨f,0,none⟩ 1 c1 [.int .i64 p.jf,p.h.v] rfl z H (by unfold maxLen;omega) (by omega) B;have D:oc hs s=(hs 11).v:=by unfold oc;rw[k]
  have E:uc hs s=(hs 11).b:=by unfold uc;rw[k]
  rw[D,E,I];rw[aq.own] at g3 g5;exact⟨v',w',g1,g2,g3,g5.imp id (λ e g d=>by rw[e] at d;injection d with d;omega)⟩
 |some F=>
  obtain⟨a,b,c⟩:=P F k;have D:oc hs s=F.v:=by unfold oc;rw[k]
  have E:uc hs s=none:=by unfold uc;rw[k]
  rw[D,E,I];obtain⟨A,n,c0⟩:=F;rcases c with⟨m,o⟩|⟨M,off,m,hk,l⟩
  ·simp only at m o a b;subst m;subst o;subst b;have N:s.aD=[]:=w_ a.symm;rw[N];obtain⟨v',w',g1,g2,g3,_,g5⟩:=run_append_own_at (P:=y_) w base 45 ty 126 i0 (.agg #[.int .i64 0,.slice none 0 0]) 2 32 Z8 q r t y rfl (by decide) (.slice none 0 0) 0 [] (World.ownsRow_nil _ _ _ _) ⟨f,0,none⟩ 1 c1 [.int .i64 p.jf,p.h.v] rfl z H (by unfold maxLen;omega) (by omega) B;refine⟨v',w',g1,g2,g3,g5.imp id (λ e g d=>by rw[e] at d;injection d with d;omega)⟩
  ·simp only at m hk l a b;subst m;subst b;obtain⟨v',w',g1,g2,g3⟩:=run_append_arg_grows (P:=y_) w 45 ty 126 i0 (.agg #[.int .i64 0,.slice none 0 0]) 2 32 Z8 q r t y rfl (by decide) ⟨M,off,none⟩ c0 c0 (mg s.aD) (by rw[D2,a]) (λ j u i=>by rw[ZM];exact l j u i) ⟨f,0,none⟩ 1 c1 [.int .i64 p.jf,p.h.v] rfl z (by omega) (by unfold maxLen;omega) (by omega);refine⟨v',w',g1,?_,g3,u_ (λ g d=>(g2.lt g d).1)⟩;rw[<-a];exact yQ g2 B
section
variable {K:Nat->Prop}{base:Nat}{w gb W:World}{G:Nat}{hs:Nat->aq}{cb:Nat->Nat}{s:an}
theorem MO{row:Option Nat}{w w':World}(h:w.grownBy w' none):w.grownBy w' row:=⟨h.os,h.tape,h.output,h.size,λ k hk _=>h.block k hk (by simp)⟩
theorem aP.Hl(h:aP K base w G hs cb s){v':Value}{p:nc}(q:Cd w base (uc hs s) (s.aD.length+1) (mg (s.aD++[p])) v' gb):
  ∃h':aq,v'=h'.v/\gb.cell? ⟨G,14,none⟩=some (oc hs s)/\gb.frozen? ⟨G,14,none⟩=false/\aP K base (gb.setCell ⟨G,14,none⟩ v') G (iH hs 11 h') cb {s with aD:=s.aD++[p],jg:=none}/\aF K w (gb.setCell ⟨G,14,none⟩ v'):=by
 obtain⟨n,j,f⟩:=q;have m:w.grownBy gb (hs 11).b:=by
  unfold uc at j
  cases l:s.jg with
  |none=>rw[l] at j;exact j
  |some t=>rw[l] at j;exact MO j
 obtain⟨h',rfl,u⟩:=aq.lq n;rw[aq.own] at f;have i:h'.b=(hs 11).b\/∀g,h'.b=some g->w.heap.size<=g:=by
  rcases f with f|f
  ·unfold uc at f
   cases l:s.jg with
   |none=>rw[l] at f;exact r_ f
   |some t=>rw[l] at f;exact u_ (λ g e=>by rw[f] at e;cases e)
  ·exact u_ f
 have o:=h.e.iS (r:=11) (h':=h') (ys:=mg (s.aD++[p])) m (by rw[u];exact n) i;have y:∀k,gb.cell? ⟨G,k,none⟩=w.cell? ⟨G,k,none⟩:=λ k=>t_ (m.block G h.e.box.lt (λ e=>h.e.uz 11 G e.symm rfl))
 have z:Sep K gb G (iH hs 11 h') cb s.c.cl.length:=(h.s.iS (λ g e hk=>by
  rcases i with i|i
  ·exact h.s.row 11 g (i▸e) hk
  ·have:=i g e;have:=h.s.lt g hk;omega)).more m.size
 refine⟨h',rfl,by rw[y];exact h.e.kA rfl,o.free 14,⟨?_,z.more (kK gb G 14 _).size⟩,(aF.grown m h.s.lt (λ b e=>h.s.row 11 b e)).trans (aF.set G 14 _ h.s.g)⟩;refine(o.field 14 h'.v).eq rfl rfl ?_ (λ d _=>(we hs s (by omega) _ d).symm) rfl (λ r=>?_)
 ·simp[rA,oc,iH]
 ·rw[v8 hs cb _ (by omega)]
  by_cases e:r=11
  ·subst e;rw[jC];rfl
  ·rw[aV _ _ e];simp only[cont,if_neg e]
end
end
section
open Go.RowKit
def ud(ds:List (Option Tmp))(cs:List Value)(sp:Nat->Bool)(b:Operand->Value):List Edge->Prop
 |[]=>True
 |e::r=>(Region.binds .any e=true->sp e.on=false->∀s,qq ds e.on=some s->b (.tmp s)=cs.getD e.on undef)/\ud ds cs sp b r
def wu(cs:List Value)(sp:Nat->Bool)(G:Nat->Value->World->Prop)(j:Nat)(v:Value)(w:World):Prop:=if sp j=true then G j v w else v=cs.getD j undef
def Aw(sp:Nat->Bool)(dead:Nat->Option Nat)(j:Nat):Option Nat:=if sp j=true then dead j else none
theorem ud.of{ds:List (Option Tmp)}{cs:List Value}{sp:Nat->Bool}{G:Nat->Value->World->Prop}{dead:Nat->Option Nat}{i:Nat}{vals:Nat->Value}{w:World}{aC:Operand->Value}:∀{l:List Edge},su ds (wu cs sp G) (Aw sp dead) i vals w aC l->ud ds cs sp aC l
 |[],_=>trivial
 |e::r,h=>⟨λ c h1 s hs=>by
  obtain⟨b,d⟩:=h.1 c;have b:=b (r_ (by unfold Aw;rw[h1];rfl));unfold wu at b;rw[h1] at b;rw[d s hs];exact b,ud.of h.2⟩
def Ay(P:Program)(ds:List (Option Tmp))(ws:List (List Nat))(old:List (Tmp×Value))(S:World->Prop)(cs:List Value)(sp:Nat->Bool)(G:Nat->Value->World->Prop)(dead:Nat->Option Nat)(Init:World->Prop)(mL:Nat):Nat->List Oper->Prop
 |_,[]=>True
 |k,o::r=>((sp k=true->y4 P ds ws old S (wu cs sp G) (Aw sp dead) Init mL k o)/\(sp k=false->∀(b:Operand->Value)(w:World),S w->ud ds cs sp b o.after.toList->qt b old->rD b->aZ P b o w λ v w'=>v=cs.getD k undef/\w'=w))/\Ay P ds ws old S cs sp G dead Init mL (k+1) r
theorem Ay.ok{P:Program}{ds:List (Option Tmp)}{ws:List (List Nat)}{old:List (Tmp×Value)}{S:World->Prop}{cs:List Value}{sp:Nat->Bool}{G:Nat->Value->World->Prop}{dead:Nat->Option Nat}{Init:World->Prop}{mL:Nat}(b:y5 ds old=true):∀{k:Nat}{l:List Oper},Ay P ds ws old S cs sp G dead Init mL k l->uB P ds ws old S (wu cs sp G) (Aw sp dead) Init mL k l
 |_,[],_=>trivial
 |k,o::r,h=>⟨by
  cases hk:sp k with
  |true=>exact h.1.1 hk
  |false=>
   intro vals w d c i e f hp;refine aZ.mono (h.1.2 hk d w c (ud.of e) (rC.ok b f) hp) λ v w' ⟨h1,g⟩=>?_
   subst g;exact .same c (by unfold wu;rw[hk];exact h1),Ay.ok b h.2⟩
end
section
open Go.RowKit Go.Shelf
theorem lT.len{w:World}{b n:Nat}{S:List Int}(h:lT w b n S)(ty:TypeId):∃m:Nat,m<=n/\(Builtin.len_ #[114] ty #[.map (some b)]).run y_ w=.ok (.int .i64 (m:Int)) w:=by
 obtain⟨D,h1,c⟩:=h;exact⟨_,h1.size_le,h1.len Tryz.underlying114 ty⟩
theorem D3(x:Int)(b:0<=x)(h1:x<=1000000):(Lit.int .i64 x).wf=true:=by
 simp[Lit.wf,IntKind.min,IntKind.max,IntKind.bits,IntKind.signed];omega
def an.xk(s:an)(l:List Int)(aS:Int)(aD:List nc):an:=
 {s with c:=k5 (kj s.c l) (ai l 0) (some s.c.cl.length),ci:=s.ci++[⟨true,aS,s.aW⟩],aJ:=s.aJ++[s.c.cl.length],aD:=aD,jg:=none}
def uG(F:List (List Int))(n:Nat)(c:Int)(b:List Int):Prop:=(c=1/\b∈F\/c=2/\pM F b)/\∀x∈b,gF n x
theorem uG.jf{jf:Int}(h:uG F n jf ah):jf=1\/jf=2\/jf=3:=h.1.elim (λ h=>.inl h.1) (λ h=>.inr (.inl h.1))
structure qj(K:Nat->Prop)(w:World)(n:Nat)(F:List (List Int))(p:nc):Prop where
 rd:∃ah,aN w p.h.A p.h.n p.h.c ah/\uG F n p.jf ah
 blk:∀b,p.h.b=some b->0<p.h.n->K b
theorem qj.jf{K:Nat->Prop}{w:World}{n:Nat}{F:List (List Int)}{p:nc}(h:qj K w n F p):p.jf=1\/p.jf=2\/p.jf=3:=by
 obtain⟨b,_,h1⟩:=h.rd;exact h1.jf
theorem aN.iQ(h:aN w A n c ah)(f:aF K w w')(hk:∀b,A.map (·.block)=some b->0<n->K b):aN w' A n c ah:=
 ⟨h.len,h.cap,h.mP,h.oo,λ d=>by
  obtain⟨b,off,e,h1,g⟩:=h.cells d;refine⟨b,off,e,Z4 h1 f.size,λ j i=>?_⟩;rw[f.cell (p:=⟨b,off+j,none⟩) (hk b (by rw[e];rfl) d)];exact g j i⟩
theorem qj.iQ{K:Nat->Prop}{w w':World}{n:Nat}{F:List (List Int)}{p:nc}(h:qj K w n F p)(f:aF K w w'):qj K w' n F p:=by
 obtain⟨b,h1,c⟩:=h.rd;exact⟨⟨b,h1.iQ f h.blk,c⟩,h.blk⟩
theorem qj.mono(h:qj K w n F p)(hk:∀b,K b->kV b):qj kV w n F p:=⟨h.rd,λ b e c=>hk b (h.blk b e c)⟩
structure yc(K:Nat->Prop)(w:World)(l:List Int)(p:nc):Prop where
 jf:p.jf=2
 rd:aN w p.h.A p.h.n p.h.c l
 blk:∀b,p.h.b=some b->0<p.h.n->K b
theorem yc.iQ{K:Nat->Prop}{w w':World}{l:List Int}{p:nc}(h:yc K w l p)(f:aF K w w'):yc K w' l p:=⟨h.jf,h.rd.iQ f h.blk,h.blk⟩
theorem yc.to(h:yc K w l p)(hl:∀x∈l,gF n x)(b:pM F l):qj K w n F p:=⟨⟨l,h.rd,.inr ⟨h.jf,b⟩,hl⟩,h.blk⟩
theorem aP.qN(h:aP K base w G hs cb s){g:Nat}(k:g<w.heap.size)(l:g≠G)(m:∀r,(hs r).b≠some g)(n:∀d,d<s.c.cl.length->cb d≠g):aP (qN K g) base w G hs cb s:=
 ⟨h.e,⟨λ b f=>f.elim (h.s.lt b) (λ e=>by rw[e];exact k),λ f=>f.elim h.s.g (λ e=>l e.symm),λ r b e f=>f.elim (h.s.row r b e) (λ i=>m r (by rw[e,i])),λ d j f=>f.elim (h.s.cl d j) (λ i=>n d j i)⟩⟩
def MP(V:World)(l:List Int)(App:Option Addr->Nat->World->Value->World->Prop)(i:Nat)(v:Value)(w:World):Prop:=
 if i=6 then∃b c2,v=.slice b l.length c2/\Below V.heap.size V w/\w.ownsRow V.heap.size 3 1 (.slice b l.length c2) l.length (gT l)
 else if i=7 then∃b c2,v=.agg #[.int .i64 2,.slice b l.length c2]/\Below V.heap.size V w/\w.ownsRow V.heap.size 3 1 (.slice b l.length c2) l.length (gT l)
 else if i=8 then∃b c2 w1,v=.slice (some ⟨w1.heap.size,0,none⟩) 1 1/\Below V.heap.size V w1/\w1.ownsRow V.heap.size 3 1 (.slice b l.length c2) l.length (gT l)/\w=w1.alloc (.cells #[.int .i64 2,.slice b l.length c2] 126)
 else∃b c2 w1,Below V.heap.size V w1/\w1.ownsRow V.heap.size 3 1 (.slice b l.length c2) l.length (gT l)/\App b c2 w1 v w
def zl(i:Nat):Bool:=i==6||i==7||i==8||i==9
def MQ(i:Nat):Option Nat:=if i=9 then none else some (i+1)
theorem Az:∀args w,(callFunc 81 args).run y_ w=.ok (.enter 81 args) w:=enters_of Tryz.func81 (by kernel_rfl) rfl
def Ho(K:Nat->Prop)(base:Nat)(w:World)(G:Nat)(s:an)(l:List Int)(e:Ending)(w':World):Prop:=
 e=.returned (.tuple #[])/\∃(c:Nat->Prop)(hs':Nat->aq)(d:Nat->Nat)(aS:Int)(p:nc),(∀b,K b->c b)/\aP c base w' G hs' d (s.xk l aS (s.aD++[p]))/\aF K w w'/\0<=aS/\aS<=l.length/\yc c w' l p/\∀b,p.h.b=some b->w.heap.size<=b
theorem MR(h:aP K base w G hs cb s)(C:vg s)(P:o4 K w s)(T:jU s.c)(b2:s.ci.length=s.c.cl.length)(b3:s.c.n<=60000)(b4:s.c.wt.length=2*s.c.n+2)(b5:∀k,(aA s.c.wt k).length<=1000000)(b6:s.c.st.length<=1000000)(b7:s.aJ.length<=1000000)(b8:s.aD.length<=1099511627776)
  {bk m c:Nat} {l:List Int} (hm:l.length=m) (bd:1<=m) (b9:m<=200000) (O:w.ownsRow base 3 1 (.slice (some ⟨bk,0,none⟩) m c) m (gT l)) (b':∀r,(hs r).b≠some bk) (ca:¬K bk) (hl:∀z∈l,gF s.c.n z) (cc:∀z∈l,gO s.c.lvl (aI z)<=1000000):
  Calls y_ 148 #[.pointer (some ⟨G,0,none⟩),.slice (some ⟨bk,0,none⟩) m c] w (Ho K base w G s l):=by
 have lc:m<=c:=by
  rcases O.2 with⟨L,_⟩|⟨g,cap,cur,L,_,_,bf,_⟩
  ·cases L
  ·injection L with h1 F al;omega
 have cd:bk<w.heap.size:=(O.lt bk rfl).2;have cf:∀k,k<m->w.cell? ⟨bk,k,none⟩=some (.int .i64 (ai l k)):=λ k hk=>by
  have:=O.cellAt k (by omega);rw[this];unfold gT;rw[List.getElem?_map,ZX (by omega),nC (by omega)];rfl
 have D:=U (z_ h (z_ C (z_ P (z_ T (z_ b2 (z_ b3 (z_ b4 (z_ b5 (z_ b6 (z_ b7 (z_ b8 (z_ hm (z_ O (z_ b' (z_ ca (z_ hl (z_ cc cd)))))))))))))))));have dm:=U cf;have dM:(m:Int)<=(c:Int):=by omega
 have ay:=U (z_ bd (z_ b9 lc));clear h C P T b2 b4 b5 b6 b7 b8 hm O b' ca hl cc cd cf bd b9 lc b3;have dn:= @run_makeMap y_;go_enter Tryz.func148,Tryz.ntmps148
 go_upto_region 1 with fail
 have cg:=U (lT.made w);have ch:=U ((f_ w.heap.size w).alloc (b_ _) (.map #[] 0));generalize dp:w.alloc (.map #[] 0)=dN at cg ch⊢;clear dp dn
 go_wp2_with fail
 go_loopw [11] (λ i wr=>∃k:Nat,k<=m/\i=.int .i64 k/\(∃S,lT wr w.heap.size k S)/\Below w.heap.size w wr) (λ i _=>m-(intOf i).toNat)
 case atStart=>exact⟨0,Zc _,rfl,⟨_,cg.o⟩,ch.o⟩
 case round=>
  obtain⟨k,hk,rfl,⟨S,bh⟩,cj⟩:=hrel;have ck:=U bh;have V:=U cj;have dq:=U hk;clear bh cj hk
  by_cases aG:k<m
  ·have bz:(k:Int)<(m:Int):=by omega
   have dr:decide ((k:Int)<(m:Int))=true:=decide_eq_true bz;obtain⟨x,bA⟩:∃x,ai l k=x:=⟨_,rfl⟩
   have bB:x∈l:=by rw[<-bA];exact lY (by rw[D.o.2.2.2.2.2.2.2.2.2.2.2.1];exact aG)
   have cm:=D.o.2.2.2.2.2.2.2.2.2.2.2.2.2.2.2.1 x bB;have cn:=D.o.2.2.2.2.2.2.2.2.2.2.2.2.2.2.2.2.1 x bB;have dt:wr.cell? ⟨bk,k,none⟩=some (.int .i64 x):=by
    rw[t_ (V.o.block bk D.o.2.2.2.2.2.2.2.2.2.2.2.2.2.2.2.2.2),dm.o k aG,bA]
   have E:=(D.o.1.below V.o).1;obtain⟨v,L⟩:∃v,aI x=v:=⟨_,rfl⟩
   have du:=D.o.2.2.2.1.pN;have cp:=cm.2;have dv:=D.o.2.2.2.2.2.1;rw[L] at cp;obtain⟨g2,cq,dw,f3⟩:=E.e.lN 3 2 rfl E.e.lD (by omega);obtain⟨y,az⟩:∃y,gO s.c.lvl v=y:=⟨_,rfl⟩
   have cr:=E.e.v7 cq (k:=v) (by omega);rw[az] at cr;rw[L,az] at cn;have aS:(v:Int)<(s.c.lvl.length:Int):=by omega
   have dO:(0:Int)<=(v:Int):=by omega
   have dP:a_.wrap ((k:Int)+1)=(k:Int)+1:=by rw[e_];have:=ay.o;omega
   have dx:bF (∀w:World,Calls y_ 97 #[.int .i64 x] w λ e w'=>e=.returned (.int .i64 (v:Int))/\w=w'):=U (λ w=>by have:=sM x w (by unfold aI at L;omega) (by unfold aI at L;omega);rw[L] at this;exact this);obtain⟨w1,dQ,ct,cu⟩:=ck.o.drew.put (n:=k) (by have:=ay.o;unfold maxLen;omega) (x:=(y:Int)) (D3 _ (by omega) (by omega));have X:=U (z_ ct (z_ cu aG));clear ct cu bA bB cm cn du cp dv cq f3 aG L az E
   go_upto_region 4 with fail
   refine wp_region_still_tail 9 (by kernel_rfl) (by kernel_rfl) ?_;simp only[List.take_succ_cons,List.take_zero,List.drop_succ_cons,List.drop_zero]
   iterate 6 still_step
   still_call ((dx.o _).mono (λ e w' h=>⟨h.1,h.2.symm⟩))
   iterate 2 still_step
   refine wpStill_nil ?_;change wpList _ _ _ _ _ wr.drew;clear dt dw cr
   go_wp2_with fail
   go_roundw
   case rel=>
    refine⟨k+1,by have:=X.o.2.2;omega,by go_num,⟨_,X.o.1⟩,V.o.drew.grown X.o.2.1 V.o.size (λ j e=>by cases e;exact b_ _)⟩
   case measure=>have:=X.o.2.2;simp[intOf];omega
  ·have bz:¬(k:Int)<(m:Int):=by omega
   have dr:decide ((k:Int)<(m:Int))=false:=decide_eq_false bz;obtain⟨aS,cv,hlen⟩:=ck.o.drew.len 3;have pQ:=U (z_ cv aG);clear cv aG;have E:=U (D.o.1.below V.o);have dy:wr.cell? ⟨G,9,none⟩=some (.int .i64 s.aW):=E.o.1.e.kA (k:=9) (v:=.int .i64 s.aW) rfl
   go_upto_region 6 with fail
   refine wp_region_still_tail 8 (by kernel_rfl) (by kernel_rfl) ?_;simp only[List.take_succ_cons,List.take_zero,List.drop_succ_cons,List.drop_zero]
   iterate 8 still_step
   refine wpStill_nil ?_;change wpList _ _ _ _ _ wr.drew
   go_upto_region 7 with fail
   have bj:Below w.heap.size w ((wr.alloc (.cells #[.slice (some ⟨bk,0,none⟩) m c,.bool true,.int .i64 (aS:Int),.int .i64 s.aW] 166)).drew):=(V.o.alloc V.o.size _).drew;have hblk:aM ((wr.alloc (.cells #[.slice (some ⟨bk,0,none⟩) m c,.bool true,.int .i64 (aS:Int),.int .i64 s.aW] 166)).drew) wr.heap.size vB [.slice (some ⟨bk,0,none⟩) m c,.bool true,.int .i64 (aS:Int),.int .i64 s.aW]:=aM.new wr vB _;have cw:((wr.alloc (.cells #[.slice (some ⟨bk,0,none⟩) m c,.bool true,.int .i64 (aS:Int),.int .i64 s.aW] 166)).drew).heap.size=wr.heap.size+1:=by simp
   have bC:=(E.o.1.below ((bg wr (.cells #[.slice (some ⟨bk,0,none⟩) m c,.bool true,.int .i64 (aS:Int),.int .i64 s.aW] 166)).drew)).1;generalize (wr.alloc (.cells #[.slice (some ⟨bk,0,none⟩) m c,.bool true,.int .i64 (aS:Int),.int .i64 s.aW] 166)).drew=ab at bj hblk cw bC⊢;have aB:=(bC.DX D.o.2.1 wr.heap.size).sC (hl:=⟨some ⟨bk,0,none⟩,m,c⟩) (l:=l) (x:=⟨true,(aS:Int),s.aW⟩) (by rw[jC];exact hblk) (by rw[jC];exact j_ (Zg D.o.1.e.lt) V.o.size) (by rw[jC];exact λ hk=>by have:=D.o.1.s.lt _ hk;have:=V.o.size;omega) (λ d H=>by rw[jC,aV _ _ (by omega)];have:=(D.o.1.e.cls d H).lt;have:=V.o.size;omega)
    (lU D.o.2.2.2.2.2.2.2.2.2.2.2.2.1 bj) (λ g aL=>by
     have aL:some bk=some g:=aL;injection aL with aL
     subst aL;exact⟨D.o.2.2.2.2.2.2.2.2.2.2.2.2.2.1,D.o.2.2.2.2.2.2.2.2.2.2.2.2.2.2.1⟩) D.o.2.2.2.2.1
   obtain⟨I,bD⟩:∃f,iH cb s.c.cl.length wr.heap.size=f:=⟨_,rfl⟩
   have bE:I s.c.cl.length=wr.heap.size:=by rw[<-bD,jC]
   rw[bD] at aB;obtain⟨aO,bG⟩:∃f,iH hs (kz s.c.cl.length) ⟨some ⟨bk,0,none⟩,m,c⟩=f:=⟨_,rfl⟩
   have cx:aO (kz s.c.cl.length)=⟨some ⟨bk,0,none⟩,m,c⟩:=by rw[<-bG,jC]
   rw[bG] at aB;obtain⟨s1,bl⟩:∃s1,s.sC l ⟨true,(aS:Int),s.aW⟩=s1:=⟨_,rfl⟩
   rw[bl] at aB;have cy:aF K w ab:=aF.q4 bj D.o.1.s.lt;obtain⟨blk,cz⟩:∃b,wr.heap.size=b:=⟨_,rfl⟩
   rw[cz] at bE⊢;obtain⟨aQ,n10,aR,bn⟩:∃A n c,aO 10=⟨A,n,c⟩:=⟨_,_,_,rfl⟩
   have bH:s1.aJ=s.aJ:=by rw[<-bl];rfl
   have dz:ab.cell? ⟨G,13,none⟩=some (.slice aQ n10 aR):=by have:=aB.e.kA (k:=13) (v:=(aO 10).v) rfl;rw[bn] at this;exact this
   have cA:=aB.e.rows.row 10;have cB:n10=s.aJ.length:=by
    have:=cA.1;rw[bn] at this;have F:(kU I s1.aJ).length=n10*1:=this;rw[bH] at F;simp[kU] at F;omega
   have dA:=U aB;have dB:=U cy;have Y:=U (z_ bE (z_ cx (z_ bl (z_ bn (z_ bH cB)))));clear aB cy bE cx bl bn bH cB bC bj hblk cw bD bG dy cz cA hlen;have aT:=U (dA.o.below (bg ab (.cells #[.pointer (some ⟨blk,0,none⟩)] 164)));have hp:(ab.alloc (.cells #[.pointer (some ⟨blk,0,none⟩)] 164)).cell? ⟨ab.heap.size,0,none⟩=some (.pointer (some ⟨blk,0,none⟩)):=by go_simp
   have cC:=U (rH.one hp);have ad:bF ((ab.alloc (.cells #[.pointer (some ⟨blk,0,none⟩)] 164)).ownsRow base 164 1 (.slice aQ n10 aR) n10 (kU I s.aJ)):=U (by
    have:=aT.o.1.e.rows.row 10;rw[Y.o.2.2.2.1] at this;rw[<-Y.o.2.2.2.2.1];exact this)
   have cD:=U (Zg aT.o.1.e.lt);have cE:bF (∀v9 gb,n9 (ab.alloc (.cells #[.pointer (some ⟨blk,0,none⟩)] 164)) base 164 (.slice aQ n10 aR) (n10+1) (kU I s.aJ++[.pointer (some ⟨blk,0,none⟩)]) v9 gb->n9 (ab.alloc (.cells #[.pointer (some ⟨blk,0,none⟩)] 164)) base 164 (aO 10).v (s1.aJ.length+1) (kU I (s1.aJ++[s.c.cl.length])) v9 gb):=U (λ v9 gb ae=>by
    have e:kU I (s1.aJ++[s.c.cl.length])=kU I s.aJ++[.pointer (some ⟨blk,0,none⟩)]:=by simp[kU,tj,Y.o.1,Y.o.2.2.2.2.1]
    rw[e,Y.o.2.2.2.1,Y.o.2.2.2.2.1,<-Y.o.2.2.2.2.2];exact ae)
   clear hp
   go_upto_region 8 with(at_builtin;refine Gh rfl (.tmp 38) (.tmp 40) rfl base (.slice aQ n10 aR) n10 (kU I s.aJ) rfl ad.o (some ⟨ab.heap.size,0,none⟩) 1 1 _ rfl cC.o (by have:=Y.o.2.2.2.2.2;have:=D.o.2.2.2.2.2.2.2.2.2.1;omega) cD.o ?_;intro v9 gb ae;obtain⟨⟨bI,bJ,c3⟩,aC,dC,aE,a2,J,aU⟩:=aP.Gj (x:=s.c.cl.length) aT.o.1 (v':=v9) (cE.o v9 gb ae);change v9=.slice bI bJ c3 at aC;subst aC;have J:=U J;have aU:=U aU;clear ae dC;have a1:gb.cell? ⟨G,13,none⟩=some (.slice aQ n10 aR):=(by rw[Y.o.2.2.2.1] at aE;exact aE);clear aE)
   generalize gb.setCell ⟨G,13,none⟩ (.slice bI bJ c3)=t at J aU⊢;have bK:bF (aF K w t):=U (dB.o.trans (aT.o.2.trans aU.o));obtain⟨s3,bL⟩:∃s3,s1.uW s.c.cl.length=s3:=⟨_,rfl⟩
   obtain⟨ao,bM⟩:∃f,iH aO 10 ⟨bI,bJ,c3⟩=f:=⟨_,rfl⟩
   rw[bL,bM] at J;have bN:ao (kz s.c.cl.length)=⟨some ⟨bk,0,none⟩,m,c⟩:=by rw[<-bM,aV _ _ (by unfold kz;omega)];exact Y.o.2.1
   have aX:s3={s with c:={s.c with cl:=s.c.cl++[l]},ci:=s.ci++[⟨true,(aS:Int),s.aW⟩],aJ:=s.aJ++[s.c.cl.length]}:=by rw[<-bL,<-Y.o.2.2.1];rfl
   have bO:aA s3.c.cl s.c.cl.length=l:=by rw[aX];show aA (s.c.cl++[l]) _=l;rw[uQ]
   have bP:s3.aD=s.aD:=by rw[aX]
   have bQ:s3.jg=s.jg:=by rw[aX]
   have cF:o4 K t s3:=D.o.2.2.1.kept bK.o bQ bP;obtain⟨ar,au,av,bR⟩:∃A n c,oc ao s3=.slice A n c:=by
    unfold oc
    cases s3.jg with
    |none=>exact⟨_,_,_,rfl⟩
    |some h=>exact⟨_,_,_,rfl⟩
   have bo:t.cell? ⟨G,14,none⟩=some (.slice ar au av):=by have:=J.o.e.kA (k:=14) (v:=oc ao s3) rfl;rw[bR] at this;exact this
   have cG:t.ownsRow base 3 1 (.slice (some ⟨bk,0,none⟩) m c) m (gT l):=by
    have:=J.o.e.rows.row (kz s.c.cl.length);rw[bN,DH,BL,x4,bO] at this;exact this
   have cH:=U (xg (some ⟨bk,0,none⟩) m c l t.drew (by
    have:=aN.lq cG (by have:=ay.o;omega);exact this.below (f_ _ _).drew))
   have Z:=U (z_ bN (z_ aX (z_ bO (z_ bP (z_ bQ (z_ cF bR))))));clear bN aX bO bP bQ cF bR cG aU aT cC ad cD cE bL bM a1 a2 dz;have cI:bF (∀w1,Below t.drew.heap.size t.drew w1->w1.cell? ⟨G,14,none⟩=some (.slice ar au av)):=U (λ w1 aH=>by rw[t_ (aH.block G J.o.e.box.lt)];exact bo);have bp:bF (∀(q:Option Addr)(c2:Nat)(w1:World),Below t.drew.heap.size t.drew w1->aP K base (w1.alloc (.cells #[.int .i64 2,.slice q l.length c2] 126)) G ao I s3/\o4 K (w1.alloc (.cells #[.int .i64 2,.slice q l.length c2] 126)) s3/\(w1.alloc (.cells #[.int .i64 2,.slice q l.length c2] 126)).cell? ⟨G,14,none⟩=some (.slice ar au av)/\(w1.alloc (.cells #[.int .i64 2,.slice q l.length c2] 126)).cell? ⟨w1.heap.size,0,none⟩=some (.int .i64 2)/\(w1.alloc (.cells #[.int .i64 2,.slice q l.length c2] 126)).cell? ⟨w1.heap.size,1,none⟩=some (.slice q l.length c2)):=U (λ q c2 w1 B=>⟨(J.o.drew.below (B.alloc B.size (.cells #[.int .i64 2,.slice q l.length c2] 126))).1,Z.o.2.2.2.2.2.1.kept (aF.drew.trans (J.o.drew.below (B.alloc B.size (.cells #[.int .i64 2,.slice q l.length c2] 126))).2) rfl rfl,cI.o _ (B.alloc B.size _),by go_simp,by go_simp⟩);have dR:l.length=m:=D.o.2.2.2.2.2.2.2.2.2.2.2.1;refine An (tq Tryz.f148 8) 12 68 [some 44,some 45,some 46,some 47,some 48,some 49,some 50,some 51,some 52,some 53,some 54,some 55,none] _ [(0,.pointer (some ⟨G,0,none⟩)),(1,.slice (some ⟨bk,0,none⟩) m c)] (λ w:World=>w.cell? ⟨G,14,none⟩=some (.slice ar au av)) (wu [.pointer (some ⟨G,0,none⟩),.pointer (some ⟨G,0,none⟩),.pointer (some ⟨G,0,none⟩),.pointer (some ⟨G,14,none⟩),.slice ar au av,.slice (some ⟨bk,0,none⟩) m c,undef,undef,undef,undef,.pointer (some ⟨G,0,none⟩),.pointer (some ⟨G,14,none⟩)] zl (MP t.drew l (λ q c2 w1 v w=>Cd (w1.alloc (.cells #[.int .i64 2,.slice q l.length c2] 126)) base (uc ao s3) (s3.aD.length+1) (mg (s3.aD++[⟨2,⟨q,l.length,c2⟩⟩])) v w))) (Aw zl MQ) (λ w=>w=t.drew) 6 (by kernel_rfl) (by kernel_rfl) (by kernel_rfl) rfl (by kernel_rfl) (by kernel_rfl) (by kernel_rfl) (by kernel_rfl) (by kernel_rfl) (by kernel_rfl) rfl ⟨rfl,rfl,trivial⟩ bo rfl (Ay.ok (by kernel_rfl) ?_) _ rfl ?_
   ·refine⟨?_,?_,?_,?_,?_,?_,⟨λ _=>?_,λ h=>(by cases h)⟩,⟨λ _=>?_,λ h=>(by cases h)⟩,⟨λ _=>?_,λ h=>(by cases h)⟩,⟨λ _=>?_,λ h=>(by cases h)⟩,?_,?_,trivial⟩
    rotate_left 6
    ·intro vals w af bq br H O hp;obtain rfl:=br (.inr rfl);have dD:af (.tmp 49)=vals 5:=(H.1 rfl).2 _ rfl;have f5:vals 5=.slice (some ⟨bk,0,none⟩) m c:=(H.1 rfl).1 (.inl rfl);refine va 81 #[.tmp 49] #[25] rfl Az hp ?_;simp only[Zo,d_,Zi,dD,f5];refine cH.o.mono ?_;rintro e w1 ⟨q,c2,rfl,W,B⟩;refine⟨_,rfl,(t_ (a:=⟨G,14,none⟩) (B.block G J.o.e.box.lt)).trans bo,⟨q,c2,rfl,B,W⟩,λ j u aY a6 a7 a8 aw=>?_,λ h=>absurd rfl h⟩;unfold wu at*;split at aw
     ·rename_i hs;have ag:j=6\/j=7\/j=8\/j=9:=by simpa[zl,or_assoc] using hs
      exfalso;rcases ag with rfl|rfl|rfl|rfl<;>first|exact aY rfl|exact a6 rfl|exact v_ (a7.symm.trans rfl)|exact v_ ((a8 _ rfl).symm.trans rfl)
     ·rename_i hs;rw[if_neg hs];exact aw
    ·intro vals w af bq br H O hp;have cJ:af (.tmp 50)=vals 6:=(H.1 rfl).2 _ rfl;obtain⟨q,c2,f6,B,W⟩:∃q c2,vals 6=.slice q l.length c2/\Below t.drew.heap.size t.drew w/\w.ownsRow t.drew.heap.size 3 1 (.slice q l.length c2) l.length (gT l):=(H.1 rfl).1 (.inr rfl);rw[f6] at cJ;simp only[aZ,execOp,Zo,d_,Zi,cJ,hp.1];simp[gE,go_sem];exact .same bq ⟨q,c2,rfl,B,W⟩
    ·intro vals w af bq br H O hp;have cK:af (.tmp 51)=vals 7:=(H.1 rfl).2 _ rfl;obtain⟨q,c2,f7,B,W⟩:∃q c2,vals 7=.agg #[.int .i64 2,.slice q l.length c2]/\Below t.drew.heap.size t.drew w/\w.ownsRow t.drew.heap.size 3 1 (.slice q l.length c2) l.length (gT l):=(H.1 rfl).1 (.inr rfl);rw[f7] at cK;simp only[aZ,execOp,Zo,d_,Zi,cK];simp[gE,go_sem];refine⟨(bp.o q c2 w B).2.2.1,⟨q,c2,w,rfl,B,W,rfl⟩,λ j u aY a6 a7 a8 aw=>?_,λ h=>λ bS=>False.elim (v_ (bS.symm.trans (by kernel_rfl)))⟩;unfold wu at*;split at aw
     ·rename_i hs;have ag:j=6\/j=7\/j=8\/j=9:=by simpa[zl,or_assoc] using hs
      exfalso;rcases ag with rfl|rfl|rfl|rfl<;>first|exact aY rfl|exact a6 rfl|exact v_ (a7.symm.trans rfl)|exact v_ ((a8 _ rfl).symm.trans rfl)
     ·rename_i hs;rw[if_neg hs];exact aw
    ·intro vals w af bq br H O hp;have cL:af (.tmp 48)=vals 4:=(H.1 rfl).2 _ rfl;have f4:vals 4=.slice ar au av:=(H.1 rfl).1 (.inl rfl);have cM:af (.tmp 52)=vals 8:=(H.2.1 rfl).2 _ rfl;obtain⟨q,c2,w1,f8,B,W,rfl⟩:∃(q:Option Addr)(c2:Nat)(w1:World),vals 8=.slice (some ⟨w1.heap.size,0,none⟩) 1 1/\Below t.drew.heap.size t.drew w1/\w1.ownsRow t.drew.heap.size 3 1 (.slice q l.length c2) l.length (gT l)/\w=w1.alloc (.cells #[.int .i64 2,.slice q l.length c2] 126):=(H.2.1 rfl).1 (.inr rfl);rw[f4] at cL;rw[f8] at cM;obtain⟨h1,F,al,ag,bf⟩:=bp.o q c2 w1 B;obtain⟨v',w',g1,g2⟩:=MN h1 F 45 w1.heap.size 1 ⟨2,⟨q,l.length,c2⟩⟩ ag bf (by have:=D.o.2.2.2.2.2.2.2.2.2.2.1;rw[Z.o.2.2.2.1];exact this);rw[Z.o.2.2.2.2.2.2] at g1;simp only[aZ,execOp,resolve,invoke,builtin,Sem.run_bind,Sem.run_pure,Result.andThen_ok,Zo,d_,Zi,cL,cM,g1,gE];obtain⟨h',-,dE,-⟩:=aP.Hl h1 g2;refine⟨dE.trans (by rw[Z.o.2.2.2.2.2.2]),⟨q,c2,w1,B,W,g2⟩,λ j u aY a6 a7 a8 aw=>?_,λ h=>λ bS=>False.elim (v_ (bS.symm.trans (by kernel_rfl)))⟩;unfold wu at*;split at aw
     ·rename_i hs;have ag:j=6\/j=7\/j=8\/j=9:=by simpa[zl,or_assoc] using hs
      exfalso;rcases ag with rfl|rfl|rfl|rfl<;>first|exact aY rfl|exact a6 rfl|exact v_ (a7.symm.trans rfl)|exact v_ ((a8 _ rfl).symm.trans rfl)
     ·rename_i hs;rw[if_neg hs];exact aw
    all_goals
     refine⟨λ h=>(by cases h),λ _ af w bh H O hp=>?_⟩;obtain⟨dF,dG,-⟩:=O
     try simp[ud,qq,Region.binds,zl] at H
     simp[aZ,execOp,gE,go_sem,dF,dG,H,bh,hp.1]
   intro vals gb dH aa dS cN;obtain⟨q,c2,w1,B,W,ae⟩:∃(q:Option Addr)(c2:Nat)(w1:World),Below t.drew.heap.size t.drew w1/\w1.ownsRow t.drew.heap.size 3 1 (.slice q l.length c2) l.length (gT l)/\Cd (w1.alloc (.cells #[.int .i64 2,.slice q l.length c2] 126)) base (uc ao s3) (s3.aD.length+1) (mg (s3.aD++[(⟨2,⟨q,l.length,c2⟩⟩:nc)])) (vals 9) gb:=aa 9 (by omega) rfl;obtain⟨h1,F,al,ag,bf⟩:=bp.o q c2 w1 B;obtain⟨⟨Q,R,c5⟩,aC,aE,a2,a',ba⟩:=aP.Hl h1 ae;change vals 9=.slice Q R c5 at aC;rw[aC] at ae a' ba;have a1:gb.cell? ⟨G,14,none⟩=some (.slice ar au av):=by rw[Z.o.2.2.2.2.2.2] at aE;exact aE
   have a':=U a';have ba:=U ba;have bs:=U ae;have ad:=U W;have bT:=U B;have k0:vals 0=.pointer (some ⟨G,0,none⟩):=aa 0 (by omega) rfl;have cO:vals 1=.pointer (some ⟨G,0,none⟩):=aa 1 (by omega) rfl;have k2:vals 2=.pointer (some ⟨G,0,none⟩):=aa 2 (by omega) rfl;have k3:vals 3=.pointer (some ⟨G,14,none⟩):=aa 3 (by omega) rfl;have cP:vals 4=.slice ar au av:=aa 4 (by omega) rfl;have cQ:vals 5=.slice (some ⟨bk,0,none⟩) m c:=aa 5 (by omega) rfl;have k10:vals 10=.pointer (some ⟨G,0,none⟩):=aa 10 (by omega) rfl;have k11:vals 11=.pointer (some ⟨G,14,none⟩):=aa 11 (by omega) rfl;simp[oJ,Act.put,aC,k0,cO,k2,k3,cP,cQ,k10,k11] at cN;subst cN;show aZ _ _ (Oper.mk _ _ _ _ _ _) _ _;simp[aZ,execOp,gE,go_sem,Act.eval,a1,a2];clear ae W B aC aE h1 F al ag bf k0 cO k2 k3 cP cQ k10 k11 aa dH
   iterate 1
    have cR:∀b,t.heap.size<=b->b<w1.heap.size->(gb.setCell ⟨G,14,none⟩ (.slice Q R c5)).heap[b]? =w1.heap[b]? :=λ b B cS=>by
     have dT:=J.o.e.box.lt;rw[Below.heap_setCell _ _ _ _ (show b≠G by omega)];rw[bs.o.2.1.block b (by simp;omega) (λ e=>by
      have e:=e.symm;unfold uc at e
      cases bb:s3.jg with
      |none=>rw[bb] at e;have:=(J.o.e.rows.lt (r:=11) e).2;omega
      |some h=>rw[bb] at e;cases e)]
     first|exact heap_alloc_old w1 _ cS|exact heap_alloc_old w1 _ _ cS
    have cT:(gb.setCell ⟨G,14,none⟩ (.slice Q R c5)).ownsRow base 3 1 (aq.v ⟨q,l.length,c2⟩) l.length (gT l):=
     yQ (mK ad.o (λ b aH=>cR b (ad.o.lt b aH).1 (ad.o.lt b aH).2)) (Zg J.o.e.lt)
    obtain⟨g2,bt⟩:∃g2,(⟨q,l.length,c2⟩:aq).b=some g2:=by
     rcases ad.o.2 with⟨L,_⟩|⟨g,cap,cur,L,_⟩
     ·injection L with cU dU dV
      have h1:=ay.o.1;have F:l.length=m:=D.o.2.2.2.2.2.2.2.2.2.2.2.1;omega
     ·injection L with cU
      exact⟨g,by show q.map _=_;rw[cU];rfl⟩
    have bu:=ad.o.lt g2 (by show(aq.v ⟨q,l.length,c2⟩).ownBlock=_;rw[aq.own];exact bt);have dI:t.heap.size<=g2:=bu.1;have cV:g2<(gb.setCell ⟨G,14,none⟩ (.slice Q R c5)).heap.size:=by
     have h1:=(kK gb G 14 (.slice Q R c5)).size;have F:=bs.o.2.1.size;have al:=bu.2;simp at F;omega
    have ah:=a'.o.qN (g:=g2) cV (by have:=J.o.e.box.lt;omega) (λ r e=>by
     by_cases cW:r=11
     ·subst cW;rw[jC] at e;rcases bs.o.2.2 with h1|h1
      ·have F:(aq.v ⟨Q,R,c5⟩).ownBlock=uc ao s3:=h1;rw[aq.own,e] at F;unfold uc at F
       cases bb:s3.jg with
       |none=>rw[bb] at F;have:=(J.o.e.rows.lt (r:=11) F.symm).2;omega
       |some h=>rw[bb] at F;cases F
      ·have:=h1 g2 (by show(aq.v ⟨Q,R,c5⟩).ownBlock=_;rw[aq.own];exact e);have al:=bu.2;simp at this;omega
     ·rw[aV _ _ cW] at e;have:=(J.o.e.rows.lt e).2;omega) (λ d H e=>by have:=(J.o.e.cls d H).lt;omega)
    have bw:yc (qN K g2) (gb.setCell ⟨G,14,none⟩ (.slice Q R c5)) l ⟨2,⟨q,l.length,c2⟩⟩:=⟨rfl,aN.lq cT (by show l.length*8<=140737488355328;have h1:=ay.o.2.1;have F:l.length=m:=D.o.2.2.2.2.2.2.2.2.2.2.2.1;omega),λ b e _=>.inr (by rw[bt] at e;injection e with e;exact e.symm)⟩
    have cX:=U (bK.o.trans (aF.drew.trans ((J.o.drew.below (bT.o.alloc bT.o.size (.cells #[.int .i64 2,.slice q l.length c2] 126))).2.trans ba.o)));obtain⟨M,bU⟩:∃M,qN K g2=M:=⟨_,rfl⟩
    have cY:bF (∀b,K b->M b):=U (λ b aH=>by rw[<-bU];exact .inl aH);rw[bU] at ah bw;obtain⟨p,hp⟩:∃p:nc,(⟨2,⟨q,l.length,c2⟩⟩:nc)=p:=⟨_,rfl⟩
    have bV:∀b,(⟨2,⟨q,l.length,c2⟩⟩:nc).h.b=some b->w.heap.size<=b:=λ b e=>by
     have e:(⟨q,l.length,c2⟩:aq).b=some b:=e;rw[bt] at e;injection e with e
     subst e;have:=bK.o.size;omega
    rw[hp] at bw bV;have dJ:=U bV;have cZ:({s3 with aD:=s3.aD++[p],jg:=none}:an)={s with c:={s.c with cl:=s.c.cl++[l]},ci:=s.ci++[⟨true,(aS:Int),s.aW⟩],aJ:=s.aJ++[s.c.cl.length],aD:=s.aD++[p],jg:=none}:=by rw[Z.o.2.1]
    obtain⟨bW,bX⟩:∃f,iH ao 11 ⟨Q,R,c5⟩=f:=⟨_,rfl⟩
    have c7:bW (kz s.c.cl.length)=⟨some ⟨bk,0,none⟩,m,c⟩:=by
     rw[<-bX,aV _ _ (by unfold kz;omega)];exact Z.o.1
    have ah:aP M base (gb.setCell ⟨G,14,none⟩ (.slice Q R c5)) G bW I {s3 with aD:=s3.aD++[p],jg:=none}:=by rw[<-bX,<-hp];exact ah
    rw[cZ] at ah;have c8:=U bw;clear bX cZ cR cT hp a' ba bs ad bT bp cH bw bV bU bt bu dI cV
    go_upto_region 9 with fail
    generalize gb.setCell ⟨G,14,none⟩ (.slice Q R c5)=da at ah cX c8⊢;clear a1 a2 bo cI;obtain⟨y,az⟩:∃y,ai l 0=y:=⟨_,rfl⟩
    have bd:=ay.o.1;have db:=D.o.2.2.2.2.2.2.2.2.2.2.2.1;have dc:gF s.c.n y:=by rw[<-az];exact D.o.2.2.2.2.2.2.2.2.2.2.2.2.2.2.2.1 _ (lY (by omega))
    have dW:(0:Int)<(m:Int):=by omega
    have ah:=U ah;have aj:=U (z_ az (z_ dc (z_ c7 db)));clear az dc c7 db bd;have dd:bF (∀(gb:World)(bY:Nat->aq),aP M base gb G bY I {s with c:=k5 (kj s.c l) y (some s.c.cl.length),ci:=s.ci++[⟨true,(aS:Int),s.aW⟩],aJ:=s.aJ++[s.c.cl.length],aD:=s.aD++[p],jg:=none}->aF M da gb->Ho K base w G s l (.returned (.tuple #[])) gb):=U (λ gb bY bc aK=>by
     refine⟨rfl,M,bY,I,(aS:Int),p,cY.o,?_,cX.o.trans (aK.mono cY.o),by omega,by have:=pQ.o;have:=dq.o;have:=aj.o.2.2.2;omega,c8.o.iQ aK,dJ.o⟩;unfold an.xk;rw[aj.o.1];exact bc)
    have de:bF (∀(ax:World)(ak:Nat->aq),aP M base ax G ak I {s with c:=kj s.c l,ci:=s.ci++[⟨true,(aS:Int),s.aW⟩],aJ:=s.aJ++[s.c.cl.length],aD:=s.aD++[p],jg:=none}->Calls y_ 156 #[.pointer (some ⟨G,0,none⟩),.int .i64 y,.pointer (some ⟨blk,0,none⟩)] ax λ e w'=>e=.returned (.tuple #[])/\∃h':aq,aP M base w' G (iH ak 4 h') I {s with c:=k5 (kj s.c l) y (some s.c.cl.length),ci:=s.ci++[⟨true,(aS:Int),s.aW⟩],aJ:=s.aJ++[s.c.cl.length],aD:=s.aD++[p],jg:=none}/\aF M ax w'):=U (λ ax ak N=>by
     have h1:=BR N y (some s.c.cl.length) D.o.2.2.2.1.new (show gF s.c.n y from aj.o.2.1) (show s.c.n<=60000 from D.o.2.2.2.2.2.1) (show s.c.st.length<=1000000 from D.o.2.2.2.2.2.2.2.2.1);rw[show q3 I (some s.c.cl.length)=.pointer (some ⟨blk,0,none⟩) by show Value.pointer (some ⟨I s.c.cl.length,0,none⟩)=_;rw[Y.o.1]] at h1;exact h1)
    have df:bF (∀(ax:World)(ak:Nat->aq)(bZ:an),aP M base ax G ak I bZ->bZ.c.cl=s.c.cl++[l]->ak (kz s.c.cl.length)=⟨some ⟨bk,0,none⟩,m,c⟩->ax.cell? ⟨bk,0,none⟩=some (.int .i64 y)):=U (λ ax ak bZ N h1 F=>by
     have al:=N.e.x6 (d:=s.c.cl.length) (g:=bk) (by rw[F];rfl) (k:=0) (by rw[h1,uQ];have:=aj.o.2.2.2;have:=ay.o;omega);rw[h1,uQ,aj.o.1] at al;exact al)
    by_cases dh:2<=m
    ·have g1:(1:Int)<(m:Int):=by omega
     have d1:decide ((1:Int)<(m:Int))=true:=decide_eq_true g1;have di:bF (2<=l.length):=U (by have:=aj.o.2.2.2;omega);have bx:=GA ah.o (d:=s.c.cl.length) (by show _<(s.c.cl++[l]).length;simp) (by show 2<=(aA (s.c.cl++[l]) _).length;rw[uQ];exact di.o) (by show∀x∈aA (s.c.cl++[l]) _,_;rw[uQ];exact D.o.2.2.2.2.2.2.2.2.2.2.2.2.2.2.2.1) (show s.c.n<=60000 from D.o.2.2.2.2.2.1) (show s.c.wt.length=2*s.c.n+2 from D.o.2.2.2.2.2.2.1) (show∀k,(aA s.c.wt k).length<=1000000 from D.o.2.2.2.2.2.2.2.1);rw[Y.o.1,aj.o.2.2.1,Gw] at bx;have bx:=U bx;clear dh
     go_upto_region 11 with(go_at_call 180;refine bx.o.mono ?_;rintro e dK ⟨rfl,ak,N,b0,dj⟩;dsimp only)
     have N:aP M base dK G ak I {s with c:=kj s.c l,ci:=s.ci++[⟨true,(aS:Int),s.aW⟩],aJ:=s.aJ++[s.c.cl.length],aD:=s.aD++[p],jg:=none}:=by
      have e:kj s.c l={s.c with cl:=s.c.cl++[l],wt:=wQ s.c.wt l s.c.cl.length}:=by unfold kj;rw[if_pos di.o]
      rw[e];have dk:=N;rw[show aA ({s with c:={s.c with cl:=s.c.cl++[l]},ci:=s.ci++[⟨true,(aS:Int),s.aW⟩],aJ:=s.aJ++[s.c.cl.length],aD:=s.aD++[p],jg:=none}:an).c.cl s.c.cl.length=l from uQ _ _] at dk;exact dk
     have c0:=df.o _ _ _ N rfl dj;have b1:=U (de.o _ _ N);have b0:=U b0;clear N dj
     go_wp2_with (go_at_call 156;refine b1.o.mono ?_;rintro e dL ⟨rfl,h',bc,aK⟩;dsimp only)
     go_end0;exact dd.o _ _ bc (b0.o.trans aK)
    ·have g1:¬(1:Int)<(m:Int):=by omega
     have d1:decide ((1:Int)<(m:Int))=false:=decide_eq_false g1;have N:aP M base da G bW I {s with c:=kj s.c l,ci:=s.ci++[⟨true,(aS:Int),s.aW⟩],aJ:=s.aJ++[s.c.cl.length],aD:=s.aD++[p],jg:=none}:=by
      have e:kj s.c l={s.c with cl:=s.c.cl++[l]}:=by unfold kj;rw[if_neg (by have:=aj.o.2.2.2;omega)]
      rw[e];exact ah.o
     have c0:=df.o _ _ _ N rfl aj.o.2.2.1;have b1:=U (de.o _ _ N);clear N dh
     go_wp2_with (go_at_call 156;refine b1.o.mono ?_;rintro e dL ⟨rfl,h',bc,aK⟩;dsimp only)
     go_end0;exact dd.o _ _ bc aK
end
section
section
variable {F:List (List Int)}{ax:List Int}{n gy:Nat}{s s':an}{sp h h':Nat}
theorem mj.conflict(S:mj F ax n gy s sp h){l:List Int}{level:Nat}(L:uU F s.c l level){B:Int}{uH s1 s3:an}(k0:ou s uH)(k:aY level uH s1)(r:mh n jl B s1)(H:0<=B/\jl<=B)(aS:Int)(I:0<=aS/\aS<=jl)(aD:List nc)
  (k3:ou (s1.xk l aS aD) s3) (u:mh n jl (jl*(1+16*((sp+1:Nat):Int))) s3):
  mj F ax n gy s3 (sp+1) (gO s.c.st level)/\s3.c.ag=gO s.c.st level/\s3.aD=aD/\s3.jg=none:=by
 have g:uH.c=s.c:=k0.c;have J:level<uH.c.st.length:=by rw[g];exact L.mz
 have i:s1.c=mE s.c level:=by rw[k.c,g]
 have w:(s1.xk l aS aD).c=zR s.c l level:=by
  show k5 (kj s1.c l) (ai l 0) (some s1.c.cl.length)=_;rw[i];rfl
 have y:s1.c.cl=s.c.cl:=by rw[i];rfl
 have K:=L.fresh S.gH.au;have z:=S.gH.au.back L.mz;have o:=S.gH.keep L;have A:s1.aJ=s.aJ:=k.aJ.trans k0.aJ;have p:∀d∈s.aJ,d<s.c.cl.length:=S.rg.kW;have c3:s3.c=zR s.c l level:=k3.c.trans w;have q:s3.aJ=s.aJ++[s.c.cl.length]:=by
  rw[k3.aJ];show s1.aJ++[s1.c.cl.length]=_;rw[A,y]
 have C:∀v,1<=v->v<=n->ai s1.c.val v=0->0<=ai s1.pl v:=λ v h1 f j=>by
  rcases k.Gb v h1 (by rw[g,S.rg.gV];exact f) j with e|e
  ·refine k.yT v ((k0.same v).2 (S.un v h1 f ?_));rw[g] at e;exact e
  ·exact e
 refine⟨⟨by rw[c3];exact o,u,by rw[c3];exact S.wh.keep S.gH.au L,?_,λ v h1 f j=>?_,?_,?_,?_,?_,?_,?_⟩,by rw[c3];rfl,k3.aD,k3.jg⟩
 ·rw[c3];refine(S.lb.back S.gH.au L.mz).grow rfl ?_;show _<=((mE s.c level).av++[ai l 0]).length;rw[x_];omega
 ·rw[c3] at j;have e:=(sw o.au h1 (by show v<=s.c.n;rw[S.rg.gV];exact f)).1 j;have D:(zR s.c l level).av=s1.c.av++[ai l 0]:=by rw[i];rfl
  rw[D] at e;refine(k3.same v).2 (C v h1 f ?_);rw[i] at e⊢;exact(sw z h1 (by show v<=s.c.n;rw[S.rg.gV];exact f)).2 ⟨λ m=>e.1 (ZN _ m),λ m=>e.2 (ZN _ m)⟩
 ·rw[k3.aK];show s1.aK=_;rw[k.aK,k0.aK];exact S.aK
 ·rw[q,c3];show((s.aJ++[s.c.cl.length]).map (aA (s.c.cl++[l]))).Pairwise _;rw[ZT,List.map_singleton,ZO];have t:∀d∈s.aJ,aA (s.c.cl++[l]) d=aA s.c.cl d:=λ d ag=>Bm (p d ag)
  refine⟨BH _ (λ d ag x=>by rw[t d ag]) S.w6,by simp,λ a E b G=>?_⟩;rw[l_.1 G,uQ];obtain⟨d,ag,rfl⟩:=ZZ.1 E;rw[t d ag];exact L.new S.gH d (p d ag)
 ·rw[q,x_,i_,S.pG];omega
 ·rw[k3.nl];show∀l'∈s1.nl,_;rw[k.nl,k0.nl];exact S.yS
 ·rw[c3];show ai ((zero s.c.val _).set _ _) 0=0;have:=(L.ok.lt _ (lY (Zf.2 L.ok.ne))).1;rw[o9,if_neg (by omega),yF];split
  ·rfl
  ·exact S.v0
 ·rw[c3];exact pE.set ((S.qO.back level).new l) _ (λ d ag=>by injection ag with ag;rw[<-ag];show s.c.cl.length<(s.c.cl++[l]).length;simp)
theorem mh.xk{B:Int}(r:mh n jl B s)(i:jl<=B){l:List Int}(aS:Int)(f:0<=aS/\aS<=jl)(b:List nc):mh n jl B (s.xk l aS b):=by
 refine⟨r.gV,r.lJ,r.kM,r.pR,r.a0,r.rG,r.oU,r.nE,r.oV,?_,λ d=>?_,λ d g=>?_⟩
 ·show(s.ci++[_]).length=(s.c.cl++[l]).length;rw[x_,x_,r.nX];rfl
 ·have e:lE (s.xk l aS b) d=if d=s.ci.length then ⟨true,aS,s.aW⟩ else lE s d:=yU _ _ _
  rw[e];split
  ·have h1:=r.rG;have j:=r.oU;exact⟨by show 0<=s.aW;omega,by show s.aW<=B;omega,f⟩
  ·exact r.qg d
 ·show d<(s.c.cl++[l]).length;rw[x_,i_];rcases ZS.1 g with h1|h1
  ·have:=r.kW d h1;omega
  ·rw[l_.1 h1];omega
end
end
section
open Go.RowKit Go.Shelf
theorem aP.vh(h:aP K base W G hs cb s){g:Nat}(hk:K g)(k:Nat)(v:Value):aP K base (W.setCell ⟨g,k,none⟩ v) G hs cb s:=
 ⟨h.e.off (kK W g k v) (λ f e=>by
  injection e with e
  subst e;exact⟨λ b=>h.s.g (by rw[<-b];exact hk),λ r b=>h.s.row r g b hk,λ d c b=>h.s.cl d c (by rw[b];exact hk)⟩),h.s.more (kK W g k v).size⟩
theorem o4.mono(h:o4 K w s)(hk:∀b,K b->kV b):o4 kV w s:=λ f g=>by
 obtain⟨a,b,c⟩:=h f g;exact⟨a,b,c.imp id λ⟨d,off,e,h1,i⟩=>⟨d,off,e,λ j=>hk d (h1 j),i⟩⟩
structure sE(bq gN:Nat->Prop)(w0:World)(F:List (List Int))(ax:List Int)(n gy jk:Nat)(aG:an)(jm:Option Addr)(gX jo aX:Nat):Prop where
 n10:n<=10
 yd:ax.length=gX
 Hp:gX<=1000
 MS:∀x∈ax,gF n x
 MT:aN w0 jm gX jo ax
 Hq:∀b,jm.map (·.block)=some b->0<gX->gN b
 k0:∀b,gN b->b<w0.heap.size
 nB:aX<=1099511627776
 jk:jk<=gy+40000
 vi:aG.aD.length+59049<=1099511627776
 lit:∀g∈F,∀x∈g,gF n x
 dl:∀b,bq b->b<w0.heap.size
theorem sE.D4(C:sE bq gN w0 F ax n gy jk aG jm gX jo aX){b:Nat}(h:w0.heap.size<=b):¬bq b:=λ c=>by
 have:=C.dl b c;omega
def mW:Value:=.slice none 0 0
structure mN(bq gN:Nat->Prop)(base:Nat)(w0:World)(G:Nat)(F:List (List Int))(ax:List Int)(n gy jk:Nat)(aG:an)(aT aX:Nat)(K:Nat->Prop)(W:World)(hs:Nat->aq)(cb:Nat->Nat)(s:an)(aQ h:Nat):Prop where
 rJ:∀b,gN b->K b
 gA:aP K base W G hs cb s
 iQ:aF gN w0 W
 jX:mj F ax n gy s aQ h
 lH:aM W aT 30 [.int .i64 0,mW,mW,.int .i64 (aQ:Int)]
 rK:K aT
 ue:¬gN aT
 xm:o4 (λ b=>gN b/\¬bq b) W s
 xo:∀p∈s.aD,qj (λ b=>(K b/\b≠aT)/\¬bq b) W n F p
 xq:aG.aD<+:s.aD
 vi:s.aD.length=aG.aD.length+aQ
 wv:s.c.cl.length=jk+aQ
 r4:aQ<=aX
def oC(K:Nat->Prop)(W:World)(F:List (List Int))(ax:List Int)(n aX aQ:Nat)(kind:Int)(c:Option Addr)(e f:Nat)(d:Option Addr)(i j:Nat):Prop:=
 (kind=1/\Z0 d i j=mW/\∃m:List Bool,kS W c e f m/\(∀b,c.map (·.block)=some b->K b)/\m.length=n+1/\jr m 0=false/\(∀g∈F,uk (p0 m) g)/\∀x∈ax,p0 m x=true)\/
 (kind=2/\Z0 c e f=mW/\∃core:List Int,aN W d i j core/\(∀b,d.map (·.block)=some b->K b)/\core.Sublist ax/\∀M,tO M F->¬∀x∈core,M x=true)\/
 (kind=3/\Z0 c e f=mW/\Z0 d i j=mW/\aQ=aX)
def D5(bq gN:Nat->Prop)(base:Nat)(w0:World)(G:Nat)(F:List (List Int))(ax:List Int)(n gy:Nat)(aG:an)(aX:Nat)(e:Ending)(W:World):Prop:=
 ∃(K:Nat->Prop)(hs:Nat->aq)(cb:Nat->Nat)(s:an)(aQ h:Nat)(kind:Int)(c:Option Addr)(d f:Nat)(g:Option Addr)(i j:Nat),
  e=.returned (.agg #[.int .i64 kind,.slice c d f,.slice g i j,.int .i64 (aQ:Int)])/\(∀b,gN b->K b)/\aP K base W G hs cb s/\aF gN w0 W/\mj F ax n gy s aQ h/\o4 (λ b=>gN b/\¬bq b) W s/\(∀p∈s.aD,qj (λ b=>K b/\¬bq b) W n F p)/\aG.aD<+:s.aD/\s.aD.length=aG.aD.length+aQ/\aQ<=aX/\oC (λ b=>K b/\¬bq b) W F ax n aX aQ kind c d f g i j
section
variable {bq gN K kV:Nat->Prop}{base:Nat}{w0 W W':World}{G:Nat}{F:List (List Int)}{ax:List Int}{n gy jk:Nat}{aG s s':an}{jm:Option Addr}{gX jo aT aX:Nat}{hs hs':Nat->aq}{cb sr:Nat->Nat}{aQ h h':Nat}
theorem mN.move(S:mN bq gN base w0 G F ax n gy jk aG aT aX K W hs cb s aQ h)(f:aP K base W' G hs' sr s')(iQ:aF K W W')(g:mj F ax n gy s' aQ h')(d:s'.aD=s.aD)(i:s'.jg=s.jg)(j:s'.c.cl.length=s.c.cl.length):
  mN bq gN base w0 G F ax n gy jk aG aT aX K W' hs' sr s' aQ h':=
 ⟨S.rJ,f,S.iQ.trans (iQ.mono S.rJ),g,iQ.blk S.lH S.rK,S.rK,S.ue,S.xm.kept (iQ.mono λ b e=>S.rJ b e.1) i d,λ p hp=>(S.xo p (by rw[<-d];exact hp)).iQ (iQ.mono λ b e=>e.1.1),by rw[d];exact S.xq,by rw[d];exact S.vi,by rw[j];exact S.wv,S.r4⟩
theorem mN.below(S:mN bq gN base w0 G F ax n gy jk aG aT aX K W hs cb s aQ h)(b:Below W.heap.size W W'):mN bq gN base w0 G F ax n gy jk aG aT aX K W' hs cb s aQ h:=
 S.move (S.gA.below b).1 (S.gA.below b).2 S.jX rfl rfl rfl
theorem mN.more(S:mN bq gN base w0 G F ax n gy jk aG aT aX K W hs cb s aQ h)(C:sE bq gN w0 F ax n gy jk aG jm gX jo aX)(l:aQ<aX){ji:World}{p:nc}
  (hk:∀b,K b->kV b) (m:aP kV base W' G hs' sr s') (iQ:aF (λ b=>K b/\b≠aT) W ji) (g:aF K ji W') (o:aM ji aT 30 [.int .i64 0,mW,mW,.int .i64 (aQ+1:Nat)]) (r:mj F ax n gy s' (aQ+1) h') (f:s'.aD=s.aD++[p]) (t:s'.jg=none) (u:s'.c.cl.length=s.c.cl.length+1)
  (hl:qj kV W' n F p) (i:∀b,p.h.b=some b->W.heap.size<=b):mN bq gN base w0 G F ax n gy jk aG aT aX kV W' hs' sr s' (aQ+1) h':=by
 have w:=S.lH.lt;have f0:aF (λ b=>K b/\b≠aT) W W':=iQ.trans (g.mono λ b d=>d.1);refine⟨λ b d=>hk b (S.rJ b d),m,S.iQ.trans (f0.mono λ b d=>⟨S.rJ b d,λ e=>S.ue (e▸d)⟩),r,g.blk o S.rK,hk _ S.rK,S.ue,λ y j=>(by rw[t] at j;cases j),λ q k=>?_,?_,?_,?_,l⟩
 ·rw[f] at k;rcases ZS.1 k with h1|h1
  ·exact((S.xo q h1).iQ (f0.mono λ b d=>d.1)).mono λ b d=>⟨⟨hk b d.1.1,d.1.2⟩,d.2⟩
  ·rw[l_.1 h1];exact⟨hl.rd,λ b e v=>⟨⟨hl.blk b e v,by have:=i b e;omega⟩,C.D4 (j_ S.iQ.size (i b e))⟩⟩
 ·rw[f];exact S.xq.trans (List.prefix_append _ _)
 ·rw[f,x_,i_,S.vi];omega
 ·rw[u,S.wv];omega
theorem aF.D6(S:mN bq gN base w0 G F ax n gy jk aG aT aX K W hs cb s aQ h)(k:Nat)(v:Value):aF (λ b=>K b/\b≠aT) W (W.setCell ⟨aT,k,none⟩ v):=aF.set aT k v (λ c=>c.2 rfl)
theorem mN.ov(S:mN bq gN base w0 G F ax n gy jk aG aT aX K W hs cb s aQ h)(C:sE bq gN w0 F ax n gy jk aG jm gX jo aX):s.aJ.length+1<=59049/\aQ+1<=59049/\s.c.cl.length<=100000/\s.c.n<=60000/\s.c.st.length<=1100/\s.aD.length<=1099511627776/\s.c.av.length<=n:=by
 have h1:=S.jX.ov;have b:3^n<=3^10:=Nat.pow_le_pow_right (by omega) C.n10;have d:(3:Nat)^10=59049:=by decide
 have e:=S.jX.pG;have f:=S.wv;have g:=C.jk;have i:=S.jX.rg.gV;have j:=C.n10;have k:=S.jX.lb.len;have l:=S.jX.gH.au.len;have m:=C.yd;have o:=C.Hp;have p:=S.vi;have q:=C.vi;refine⟨by omega,by omega,by omega,by omega,by omega,by omega,by omega⟩
theorem mj.Hr(S:mj F ax n gy s aQ h)(d:0<s.c.st.length):0<s.c.av.length:=by
 rcases Zw ax.length with f|f
 ·have h1:=S.lb.str 0 d (by omega);split at h1
  ·have b:=S.gH.au.oI (0+1) (by assumption);omega
  ·omega
 ·have h1:=S.wh.ind 0 d f;have b:=sK h1;exact Zf.2 (λ e=>by rw[e] at b;cases b)
theorem mN.DT(S:mN bq gN base w0 G F ax n gy jk aG aT aX K W hs cb s aQ h):vg s:=
 ⟨S.jX.qO,λ k d b=>(S.jX.gH.wt.qX k d b).1,S.jX.rg.kW⟩
theorem mN.Hs(S:mN bq gN base w0 G F ax n gy jk aG aT aX K W hs cb s aQ h)(C:sE bq gN w0 F ax n gy jk aG jm gX jo aX):aN W jm gX jo ax:=C.MT.iQ S.iQ C.Hq
structure sF(bq gN:Nat->Prop)(base:Nat)(w0:World)(G:Nat)(F:List (List Int))(ax:List Int)(n gy:Nat)(aG:an)(aT aX:Nat)(K:Nat->Prop)(W:World)(hs:Nat->aq)(cb:Nat->Nat)(s:an)(aQ h:Nat)(kind:Int)(jt:Option Addr)(jE jh:Nat)(js:Option Addr)(ic dh:Nat):Prop where
 rJ:∀b,gN b->K b
 gA:aP K base W G hs cb s
 iQ:aF gN w0 W
 jX:mj F ax n gy s aQ h
 rK:K aT
 ue:¬gN aT
 xm:o4 (λ b=>gN b/\¬bq b) W s
 xo:∀p∈s.aD,qj (λ b=>(K b/\b≠aT)/\¬bq b) W n F p
 xq:aG.aD<+:s.aD
 vi:s.aD.length=aG.aD.length+aQ
 r4:aQ<=aX
 Ht:oC (λ b=>(K b/\b≠aT)/\¬bq b) W F ax n aX aQ kind jt jE jh js ic dh
theorem kS.iQ{K:Nat->Prop}{w w':World}{A:Option Addr}{n c:Nat}{ah:List Bool}(h:kS w A n c ah)(f:aF K w w')(hk:∀b,A.map (·.block)=some b->K b):kS w' A n c ah:=
 ⟨h.len,h.cap,h.mP,h.oo,λ d=>by
  obtain⟨b,off,e,h1,g⟩:=h.cells d;refine⟨b,off,e,Z4 h1 f.size,λ j i=>?_⟩;rw[f.cell (p:=⟨b,off+j,none⟩) (hk b (by rw[e];rfl))];exact g j i⟩
theorem oC.iQ{K:Nat->Prop}{kind:Int}{jt:Option Addr}{jE jh:Nat}{js:Option Addr}{ic dh:Nat}(a:oC K W F ax n aX aQ kind jt jE jh js ic dh)(f:aF K W W'):oC K W' F ax n aX aQ kind jt jE jh js ic dh:=by
 rcases a with⟨h1,d,m,g,c,i⟩|⟨h1,d,co,g,c,i⟩|h1
 ·exact .inl ⟨h1,d,m,g.iQ f c,c,i⟩
 ·exact .inr (.inl ⟨h1,d,co,g.iQ f (λ b e _=>c b e),c,i⟩)
 ·exact .inr (.inr h1)
theorem oC.mono{K kV:Nat->Prop}{kind:Int}{jt:Option Addr}{jE jh:Nat}{js:Option Addr}{ic dh:Nat}(a:oC K W F ax n aX aQ kind jt jE jh js ic dh)(hk:∀b,K b->kV b):oC kV W F ax n aX aQ kind jt jE jh js ic dh:=by
 rcases a with⟨h1,c,m,d,f,g⟩|⟨h1,c,co,d,f,g⟩|h1
 ·exact .inl ⟨h1,c,m,d,λ b e=>hk b (f b e),g⟩
 ·exact .inr (.inl ⟨h1,c,co,d,λ b e=>hk b (f b e),g⟩)
 ·exact .inr (.inr h1)
theorem sF.move{kind:Int}{jt:Option Addr}{jE jh:Nat}{js:Option Addr}{ic dh:Nat}(S:sF bq gN base w0 G F ax n gy aG aT aX K W hs cb s aQ h kind jt jE jh js ic dh)(d:aP K base W' G hs cb s)(f:aF (λ b=>K b/\b≠aT) W W'):
  sF bq gN base w0 G F ax n gy aG aT aX K W' hs cb s aQ h kind jt jE jh js ic dh:=
 have f0:aF gN W W':=f.mono λ b c=>⟨S.rJ b c,λ e=>S.ue (e▸c)⟩
 ⟨S.rJ,d,S.iQ.trans f0,S.jX,S.rK,S.ue,S.xm.kept (f0.mono λ b c=>c.1) rfl rfl,λ p hp=>(S.xo p hp).iQ (f.mono λ b c=>c.1),S.xq,S.vi,S.r4,S.Ht.iQ (f.mono λ b c=>c.1)⟩
theorem sF.set{kind:Int}{jt:Option Addr}{jE jh:Nat}{js:Option Addr}{ic dh:Nat}(S:sF bq gN base w0 G F ax n gy aG aT aX K W hs cb s aQ h kind jt jE jh js ic dh)(k:Nat)(v:Value):sF bq gN base w0 G F ax n gy aG aT aX K (W.setCell ⟨aT,k,none⟩ v) hs cb s aQ h kind jt jE jh js ic dh:=
 S.move (S.gA.vh S.rK k v) (aF.set aT k v (λ b=>b.2 rfl))
theorem sF.done{kind:Int}{jt:Option Addr}{jE jh:Nat}{js:Option Addr}{ic dh:Nat}(S:sF bq gN base w0 G F ax n gy aG aT aX K W hs cb s aQ h kind jt jE jh js ic dh):D5 bq gN base w0 G F ax n gy aG aX (.returned (.agg #[.int .i64 kind,.slice jt jE jh,.slice js ic dh,.int .i64 (aQ:Int)])) W:=
 ⟨K,hs,cb,s,aQ,h,kind,jt,jE,jh,js,ic,dh,rfl,S.rJ,S.gA,S.iQ,S.jX,S.xm,λ p hp=>(S.xo p hp).mono λ b c=>⟨c.1.1,c.2⟩,S.xq,S.vi,S.r4,S.Ht.mono λ b c=>⟨c.1.1,c.2⟩⟩
theorem mN.ends(S:mN bq gN base w0 G F ax n gy jk aG aT aX K W hs cb s aQ h){kind:Int}{jt:Option Addr}{jE jh:Nat}{js:Option Addr}{ic dh:Nat}(a:oC (λ b=>(K b/\b≠aT)/\¬bq b) W F ax n aX aQ kind jt jE jh js ic dh):sF bq gN base w0 G F ax n gy aG aT aX K W hs cb s aQ h kind jt jE jh js ic dh:=
 ⟨S.rJ,S.gA,S.iQ,S.jX,S.rK,S.ue,S.xm,S.xo,S.xq,S.vi,S.r4,a⟩
theorem mN.Ce(S:mN bq gN base w0 G F ax n gy jk aG aT aX K W hs cb s aQ h){kind:Int}(a:oC (λ b=>(K b/\b≠aT)/\¬bq b) W F ax n aX aQ kind none 0 0 none 0 0):
  sF bq gN base w0 G F ax n gy aG aT aX K (((((W.setCell ⟨aT,0,none⟩ (.int .i64 kind)).setCell ⟨aT,0,none⟩ (.int .i64 kind)).setCell ⟨aT,1,none⟩ (.slice none 0 0)).setCell ⟨aT,2,none⟩ (.slice none 0 0)).setCell ⟨aT,3,none⟩ (.int .i64 (aQ:Int))) hs cb s aQ h kind none 0 0 none 0 0/\
  aM (((((W.setCell ⟨aT,0,none⟩ (.int .i64 kind)).setCell ⟨aT,0,none⟩ (.int .i64 kind)).setCell ⟨aT,1,none⟩ (.slice none 0 0)).setCell ⟨aT,2,none⟩ (.slice none 0 0)).setCell ⟨aT,3,none⟩ (.int .i64 (aQ:Int))) aT 30 [.int .i64 kind,mW,mW,.int .i64 (aQ:Int)]:=
 ⟨((((((S.ends a).set 0 _).set 0 _).set 1 _).set 2 _).set 3 _),((((S.lH.set 0 _).set 0 _).set 1 _).set 2 _).set 3 _⟩
theorem oC.no(hu:Unsat F):oC K W F ax n aX aQ 2 none 0 0 none 0 0:=
 .inr (.inl ⟨rfl,rfl,[],aN.nil _ _ _ (by unfold maxLen;omega),λ b e=>(by cases e),List.nil_sublist _,λ M c _=>hu M c⟩)
theorem oC.o:oC K W F ax n aQ aQ 3 none 0 0 none 0 0:=.inr (.inr ⟨rfl,rfl,rfl,rfl⟩)
end
end
section
open Go.RowKit Go.Shelf
noncomputable def Cf:Code:=(Tryz.f99.body.bind λ c=>qw c 1).getD .skip
noncomputable def Hu:Code:=DS Cf
noncomputable def MU:Code:=nw (nw (BV (nw (nw Hu))))
theorem MV{w1:World}{d:Nat}
  (C:sE bq gN w0 F ax n gy jk aG jm gX jo aX) (S:mN bq gN base w0 G F ax n gy jk aG aT aX K w1 hs cb s aQ h) (aa:aQ<aX) (ag:d<s.c.cl.length) (ab:∀x∈aA s.c.cl d,-x∈s.c.av) (ad:0<s.c.st.length) (a8: -70000<=left/\left<=4398046511104)
  (ae:∀(K:Nat->Prop)(hs:Nat->aq)(cb:Nat->Nat)(s':an)(gx gz gQ a' gp dm gP gr gC u16 dn dr dw gd dx dy dz dA dB dD dF dG cr ct cu u32 cv cw cz cA cB cC cD cE cF cG cH dH dI gM gK gL bu bw bx bz bA bB bC bD bE bK bL bM bN bO bP u64 bQ bR bS bT bU bV bW bX bY bZ b5 b6 b7 b8 b9 cc cg ck cm cn cp dJ dK dL dM dN dO dP dQ cI cK cL cM cN cO cQ cR cS cT cU cV cW cZ c7 c8 dc dR dS dU dV dW dX dY dZ ec ee ef ei ej ek en eo ep er eu ew ey ez eA eB eC eD eE eF eG eH gh gi gj eL eM eN eO eP eR eS eT eU eV eW eX gl gm gn eY eZ e3 e4 e5 e6 e7 e8 e9 fc fe ff fh fk fm fo fq fu fA fB fC fD fE fF fG fH fI fJ fK fL fM fN fO fP fQ fR gu gv fS fT fU fV fW fZ ga ir iu iw iy iz iA iB iC iD iE iF iG iX iY iZ ja jb jc jd je jL jM jN jO jP jQ:Value)(W':World),mN bq gN base w0 G F ax n gy jk aG aT aX K W' hs cb s' (aQ+1) s'.c.ag->Q (.exit 1) {tmps:= #[.pointer (some ⟨G,0,none⟩),.slice jm gX jo,.int .i64 (aX:Int),gx,gz,gQ,.pointer (some ⟨aT,0,none⟩),.int .i64 (iS:Int),.int .i64 (left-1),.int .i64 2000,a',gp,dm,gP,gr,gC,u16,dn,dr,dw,gd,dx,dy,dz,dA,dB,dD,dF,dG,cr,ct,cu,u32,cv,cw,cz,cA,cB,cC,cD,cE,cF,cG,cH,dH,dI,gM,gK,gL,bu,bw,bx,bz,bA,bB,bC,bD,bE,bK,bL,bM,bN,bO,bP,u64,bQ,bR,bS,bT,bU,bV,bW,bX,bY,bZ,b5,b6,b7,b8,b9,cc,cg,ck,cm,cn,cp,dJ,dK,dL,dM,dN,dO,dP,dQ,cI,cK,cL,cM,cN,cO,cQ,cR,cS,cT,cU,cV,cW,cZ,c7,c8,dc,dR,dS,dU,dV,dW,dX,dY,dZ,ec,ee,ef,ei,ej,ek,en,eo,ep,er,eu,ew,ey,ez,eA,eB,eC,eD,eE,eF,eG,eH,gh,gi,gj,eL,eM,eN,eO,eP,eR,eS,eT,eU,eV,eW,eX,gl,gm,gn,eY,eZ,e3,e4,e5,e6,e7,e8,e9,fc,fe,ff,fh,fk,fm,fo,fq,fu,fA,fB,fC,fD,fE,fF,fG,fH,fI,fJ,fK,fL,fM,fN,fO,fP,fQ,fR,gu,gv,fS,fT,fU,fV,fW,fZ,ga,ir,iu,iw,iy,iz,iA,iB,iC,iD,iE,iF,iG,iX,iY,iZ,ja,jb,jc,jd,je,jL,jM,jN,jO,jP,jQ],defers:=[]} W'):
  Code.wp y_ MU Q {tmps:= #[.pointer (some ⟨G,0,none⟩),.slice jm gX jo,.int .i64 (aX:Int),gx,gz,gQ,.pointer (some ⟨aT,0,none⟩),.int .i64 (iS:Int),.int .i64 left,.int .i64 2000,.pointer (some ⟨cb d,0,none⟩),gp,dm,gP,gr,gC,u16,dn,dr,dw,gd,dx,dy,dz,dA,dB,dD,dF,dG,cr,ct,cu,u32,cv,cw,cz,cA,cB,cC,cD,cE,cF,cG,cH,dH,dI,gM,gK,gL,bu,bw,bx,bz,bA,bB,bC,bD,bE,bK,bL,bM,bN,bO,bP,u64,bQ,bR,bS,bT,bU,bV,bW,bX,bY,bZ,b5,b6,b7,b8,b9,cc,cg,ck,cm,cn,cp,dJ,dK,dL,dM,dN,dO,dP,dQ,cI,cK,cL,cM,cN,cO,cQ,cR,cS,cT,cU,cV,cW,cZ,c7,c8,dc,dR,dS,dU,dV,dW,dX,dY,dZ,ec,ee,ef,ei,ej,ek,en,eo,ep,er,eu,ew,ey,ez,eA,eB,eC,eD,eE,eF,eG,eH,gh,gi,gj,eL,eM,eN,eO,eP,eR,eS,eT,eU,eV,eW,eX,gl,gm,gn,eY,eZ,e3,e4,e5,e6,e7,e8,e9,fc,fe,ff,fh,fk,fm,fo,fq,fu,fA,fB,fC,fD,fE,fF,fG,fH,fI,fJ,fK,fL,fM,fN,fO,fP,fQ,fR,gu,gv,fS,fT,fU,fV,fW,fZ,ga,ir,iu,iw,iy,iz,iA,iB,iC,iD,iE,iF,iG,iX,iY,iZ,ja,jb,jc,jd,je,jL,jM,jN,jO,jP,jQ],defers:=[]} w1:=by
 have ba:=U ae;have w:=U C;have f:=U S;have y:=U (z_ aa (z_ ag (z_ ab ad)));have i:=U (S.ov C);have A:jl=1099511627776:=rfl;have af:=S.lH.cell 3;have bb:=S.lH.free 3;simp only[mW,n_,Zu] at af;have ws:a_.wrap ((aQ:Int)+1)=(aQ:Int)+1:=by rw[e_];have:=i.o.2.1;omega
 have wl:a_.wrap (left-1)=left-1:=by rw[e_];omega
 clear ae C S aa ag ab ad a8
 conv=>arg 2;whnf
 dsimp only
 go_upto_region 12 with fail
 clear af bb ws wl;have ah:=U (f.o.gA.vh f.o.rK 3 (.int .i64 ((aQ:Int)+1)));have ai:bF (aM (w1.setCell ⟨aT,3,none⟩ (.int .i64 ((aQ:Int)+1))) aT 30 [.int .i64 0,mW,mW,.int .i64 (aQ+1:Nat)]):=U (f.o.lH.set 3 _);have D:=U (aF.D6 f.o 3 (.int .i64 ((aQ:Int)+1)));generalize w1.setCell ⟨aT,3,none⟩ (.int .i64 ((aQ:Int)+1))=bc at ah ai D⊢;have aj:bF (vE F F s n h (jl*(1+16*(aQ:Int)))):=U ⟨f.o.jX.gH,f.o.jX.rg.gV,w.o.n10,y.o.2.2.2,by have:=i.o;omega,by have:=i.o;omega,by have:=i.o;rw[A];omega,by have:=i.o;rw[A];omega⟩;have ak:=U (L1 ah.o aj.o f.o.jX.rg f.o.jX.aK y.o.2.1 y.o.2.2.1);have al:jl*(1+16*(aQ:Int))+16*jl=jl*(1+16*((aQ+1:Nat):Int)):=by rw[A];omega
 have ao:0<=jl*(1+16*((aQ+1:Nat):Int))/\jl<=jl*(1+16*((aQ+1:Nat):Int))/\jl*(1+16*((aQ+1:Nat):Int))<=4611686018427387904:=by have:=i.o;rw[A];omega
 have v:=U ao;clear ao A aj;obtain⟨B,E⟩:∃B,jl*(1+16*((aQ+1:Nat):Int))=B:=⟨_,rfl⟩
 rw[E] at v;have bd:=U (al.trans E);have bf:=U E;clear E al
 go_upto_region 13 with(go_at_call 146;refine ak.o.mono ?_;rintro e b4 ⟨bk,cl,level,l,ar,rfl,J,L,M2,k0,M,N,H,aw⟩;dsimp only)
 rw[bd.o] at M;have O:level<ar.c.st.length:=by rw[k0.c];exact J.mz
 have ay:jU ar.c:=by rw[k0.c];exact f.o.jX.gH.au
 have az:=L.qN (g:=bk) (N.lt bk rfl).2 H.1 H.2.1 H.2.2;have X:=U (z_ J (z_ L (z_ M2 (z_ k0 (z_ N (z_ aw O))))));have aB:=U (Gk az M ay (by have:=w.o.n10;omega) level O (by rw[k0.c];have:=i.o;omega) (by rw[k0.c];exact mj.Hr f.o.jX y.o.2.2.2));clear J L M2 k0 M N H aw O ay az ak
 go_upto_region 14 with(go_at_call 147;refine aB.o.mono ?_;rintro e P ⟨rfl,b',s1,u,R,T,I⟩;dsimp only)
 have t:s1.c=mE s.c level:=by rw[u.c,X.o.2.2.2.1.c]
 have aC:jU s1.c:=by rw[t];exact f.o.jX.gH.au.back X.o.1.mz
 have aE:P.ownsRow base 3 1 (.slice (some ⟨bk,0,none⟩) l.length cl) l.length (gT l):=mK X.o.2.2.2.2.1 (λ b q=>I.keep b (.inr (by injection q with q;exact q.symm)));have aH:vg s1:=by
  have c0:=f.o.DT;refine⟨by rw[t];exact c0.qO.back level,λ k d ag=>?_,λ d ag=>?_⟩
  ·rw[t] at ag⊢;exact c0.ww k d ag
  ·rw[t];rw[u.aJ,X.o.2.2.2.1.aJ] at ag;exact c0.wl d ag
 have aI:o4 gN P s1:=(f.o.xm.mono λ b q=>q.1).kept ((D.o.mono λ b q=>⟨f.o.rJ b q,λ e=>f.o.ue (e▸q)⟩).trans ((X.o.2.2.1.mono f.o.rJ).trans (I.mono λ b q=>.inl (f.o.rJ b q)))) (u.jg.trans X.o.2.2.2.1.jg) (u.aD.trans X.o.2.2.2.1.aD);have aL:l.length<=22:=by have:=X.o.1.ok.len;have:=i.o;rw[f.o.jX.rg.gV] at this;have:=w.o.n10;have bg:=X.o.1.ok.len;rw[f.o.jX.rg.gV] at bg;omega
 have aN:1<=l.length:=Zf.2 X.o.1.ok.ne;have aO:=U (MR (K:=K) (T.BA λ b q=>.inl q) aH (aI.mono f.o.rJ) aC R.nX (by rw[t];have:=i.o;show s.c.n<=_;omega) (by rw[t];exact f.o.jX.gH.wt.qW) (λ k=>by rw[t];have h1:=f.o.jX.gH.wt.ov k;have:=i.o;show(aA s.c.wt k).length<=_;omega) (by rw[t];have:=i.o;show(s.c.st.take level).length<=_;rw[List.length_take];omega) (by rw[u.aJ,X.o.2.2.2.1.aJ];have:=i.o;omega) (by rw[u.aD,X.o.2.2.2.1.aD];have:=i.o;omega)
  (bk:=bk) (m:=l.length) (c:=cl) (l:=l) rfl aN (by omega) aE (λ r e=>T.s.row r bk e (.inr rfl)) X.o.2.2.2.2.2.1 (λ z V=>by rw[t];exact X.o.1.ok.lt z V) (λ z V=>by
   rw[t];obtain⟨j,ca,e,h1⟩:=f.o.jX.gH.au.at (X.o.1.Bo z V);have cd:=wN s.c.st j;have:=i.o;show aS s.c z<=_;omega))
 have Y:=U (z_ u (z_ R (z_ I (z_ t aL))));clear u R T I t aC aE aH aI aL aN aB
 go_upto_region 15 with(go_at_call 148;refine aO.o.mono ?_;rintro e cf ⟨rfl,bh,bj,bl,aS,p,aP,aR,aU,aV,bn,aW,aY⟩;dsimp only)
 have bo:(22:Int)<=jl:=by unfold jl;omega
 have W:0<=aS/\aS<=jl:=⟨aV,by have:=Y.o.2.2.2.2;omega⟩
 have aZ:=Y.o.2.1.xk (l:=l) v.o.2.1 aS W (s1.aD++[p]);have bp:=U (KY aR aZ (by have:=w.o.n10;omega) (by show(s1.aJ++[_]).length<=_;rw[Y.o.1.aJ,X.o.2.2.2.1.aJ,x_,i_];have:=i.o;omega) v.o.1 v.o.2.2);have Z:=U (z_ aP (z_ aU (z_ W (z_ aW aY))));clear aP aR aU aV bn aW aY bo W aZ aO
 go_wp2_with (go_at_call 149;refine bp.o.mono ?_;rintro e br ⟨rfl,s3,k3,bs,bt,a6⟩;dsimp only)
 have bG:mh n jl (jl*(1+16*((aQ+1:Nat):Int))) s3:=by rw[bf.o];exact bs
 obtain⟨a7,bH,bI,bJ⟩:=f.o.jX.conflict X.o.1 X.o.2.2.2.1 Y.o.1 Y.o.2.1 ⟨v.o.1,v.o.2.1⟩ aS Z.o.2.2.1 (s1.aD++[p]) k3 bG;have ch:s1.c.n=n:=by rw[Y.o.2.2.2.1];exact f.o.jX.rg.gV
 have b0:=Z.o.2.2.2.1.to (n:=n) (F:=F) (λ x b1=>by have h1:=X.o.1.ok.lt x b1;rwa[f.o.jX.rg.gV] at h1) X.o.1.imp;have b2:w1.heap.size<=P.heap.size:=j_ D.o.size (j_ X.o.2.2.1.size Y.o.2.2.1.size);have b3:aF K bc br:=X.o.2.2.1.trans ((Y.o.2.2.1.mono λ b q=>.inl q).trans (Z.o.2.1.trans (a6.mono Z.o.1)));rw[<-bH] at a7;apply ba.o bh bj bl s3;exact f.o.more w.o y.o.1 Z.o.1 bt D.o b3 ai.o a7 (by rw[bI,Y.o.1.aD,X.o.2.2.2.1.aD]) bJ (by rw[k3.c];show(s1.c.cl++[l]).length=_;rw[x_,Y.o.2.2.2.1];rfl) (b0.iQ a6) (λ b e=>j_ b2 (Z.o.2.2.2.2 b e))
theorem MW
  (C:sE bq gN w0 F ax n gy jk aG jm gX jo aX) (S:mN bq gN base w0 G F ax n gy jk aG aT aX K W hs cb s aQ s.c.ag) (B: -70000<=left/\left<=4398046511104)
  (D:∀(hs:Nat->aq)(s':an)(gx gz gQ gG gp dm gP gr gC u16 dn dr dw gd dx dy dz dA dB dD dF dG cr ct cu u32 cv cw cz cA cB cC cD cE cF cG cH dH dI gM gK gL bu bw bx bz bA bB bC bD bE bK bL bM bN bO bP u64 bQ bR bS bT bU bV bW bX bY bZ b5 b6 b7 b8 b9 cc cg ck cm cn cp dJ dK dL dM dN dO dP dQ cI cK cL cM cN cO cQ cR cS cT cU cV cW cZ c7 c8 dc dR dS dU dV dW dX dY dZ ec ee ef ei ej ek en eo ep er eu ew ey ez eA eB eC eD eE eF eG eH gh gi gj eL eM eN eO eP eR eS eT eU eV eW eX gl gm gn eY eZ e3 e4 e5 e6 e7 e8 e9 fc fe ff fh fk fm fo fq fu fA fB fC fD fE fF fG fH fI fJ fK fL fM fN fO fP fQ fR gu gv fS fT fU fV fW fZ ga ir iu iw iy iz iA iB iC iD iE iF iG iX iY iZ ja jb jc jd je jL jM jN jO jP jQ:Value)(W':World),mN bq gN base w0 G F ax n gy jk aG aT aX K W' hs cb s' aQ s'.c.ag->s'.c.ag=s'.c.av.length->s'.c.lC=false->s'.aJ.length=s.aJ.length->s.c.av.length<=s'.c.av.length->Q .normal {tmps:= #[.pointer (some ⟨G,0,none⟩),.slice jm gX jo,.int .i64 (aX:Int),gx,gz,gQ,.pointer (some ⟨aT,0,none⟩),.int .i64 (iS:Int),.int .i64 left,.int .i64 2000,gG,gp,dm,gP,gr,gC,u16,dn,dr,dw,gd,dx,dy,dz,dA,dB,dD,dF,dG,cr,ct,cu,u32,cv,cw,cz,cA,cB,cC,cD,cE,cF,cG,cH,dH,dI,gM,gK,gL,bu,bw,bx,bz,bA,bB,bC,bD,bE,bK,bL,bM,bN,bO,bP,u64,bQ,bR,bS,bT,bU,bV,bW,bX,bY,bZ,b5,b6,b7,b8,b9,cc,cg,ck,cm,cn,cp,dJ,dK,dL,dM,dN,dO,dP,dQ,cI,cK,cL,cM,cN,cO,cQ,cR,cS,cT,cU,cV,cW,cZ,c7,c8,dc,dR,dS,dU,dV,dW,dX,dY,dZ,ec,ee,ef,ei,ej,ek,en,eo,ep,er,eu,ew,ey,ez,eA,eB,eC,eD,eE,eF,eG,eH,gh,gi,gj,eL,eM,eN,eO,eP,eR,eS,eT,eU,eV,eW,eX,gl,gm,gn,eY,eZ,e3,e4,e5,e6,e7,e8,e9,fc,fe,ff,fh,fk,fm,fo,fq,fu,fA,fB,fC,fD,fE,fF,fG,fH,fI,fJ,fK,fL,fM,fN,fO,fP,fQ,fR,gu,gv,fS,fT,fU,fV,fW,fZ,ga,ir,iu,iw,iy,iz,iA,iB,iC,iD,iE,iF,iG,iX,iY,iZ,ja,jb,jc,jd,je,jL,jM,jN,jO,jP,jQ],defers:=[]} W')
  (E:∀(K:Nat->Prop)(hs:Nat->aq)(cb:Nat->Nat)(s':an)(gx gz gQ gG gp dm gP gr gC u16 dn dr dw gd dx dy dz dA dB dD dF dG cr ct cu u32 cv cw cz cA cB cC cD cE cF cG cH dH dI gM gK gL bu bw bx bz bA bB bC bD bE bK bL bM bN bO bP u64 bQ bR bS bT bU bV bW bX bY bZ b5 b6 b7 b8 b9 cc cg ck cm cn cp dJ dK dL dM dN dO dP dQ cI cK cL cM cN cO cQ cR cS cT cU cV cW cZ c7 c8 dc dR dS dU dV dW dX dY dZ ec ee ef ei ej ek en eo ep er eu ew ey ez eA eB eC eD eE eF eG eH gh gi gj eL eM eN eO eP eR eS eT eU eV eW eX gl gm gn eY eZ e3 e4 e5 e6 e7 e8 e9 fc fe ff fh fk fm fo fq fu fA fB fC fD fE fF fG fH fI fJ fK fL fM fN fO fP fQ fR gu gv fS fT fU fV fW fZ ga ir iu iw iy iz iA iB iC iD iE iF iG iX iY iZ ja jb jc jd je jL jM jN jO jP jQ:Value)(W':World),mN bq gN base w0 G F ax n gy jk aG aT aX K W' hs cb s' (aQ+1) s'.c.ag->Q (.exit 1) {tmps:= #[.pointer (some ⟨G,0,none⟩),.slice jm gX jo,.int .i64 (aX:Int),gx,gz,gQ,.pointer (some ⟨aT,0,none⟩),.int .i64 (iS:Int),.int .i64 (left-1),.int .i64 2000,gG,gp,dm,gP,gr,gC,u16,dn,dr,dw,gd,dx,dy,dz,dA,dB,dD,dF,dG,cr,ct,cu,u32,cv,cw,cz,cA,cB,cC,cD,cE,cF,cG,cH,dH,dI,gM,gK,gL,bu,bw,bx,bz,bA,bB,bC,bD,bE,bK,bL,bM,bN,bO,bP,u64,bQ,bR,bS,bT,bU,bV,bW,bX,bY,bZ,b5,b6,b7,b8,b9,cc,cg,ck,cm,cn,cp,dJ,dK,dL,dM,dN,dO,dP,dQ,cI,cK,cL,cM,cN,cO,cQ,cR,cS,cT,cU,cV,cW,cZ,c7,c8,dc,dR,dS,dU,dV,dW,dX,dY,dZ,ec,ee,ef,ei,ej,ek,en,eo,ep,er,eu,ew,ey,ez,eA,eB,eC,eD,eE,eF,eG,eH,gh,gi,gj,eL,eM,eN,eO,eP,eR,eS,eT,eU,eV,eW,eX,gl,gm,gn,eY,eZ,e3,e4,e5,e6,e7,e8,e9,fc,fe,ff,fh,fk,fm,fo,fq,fu,fA,fB,fC,fD,fE,fF,fG,fH,fI,fJ,fK,fL,fM,fN,fO,fP,fQ,fR,gu,gv,fS,fT,fU,fV,fW,fZ,ga,ir,iu,iw,iy,iz,iA,iB,iC,iD,iE,iF,iG,iX,iY,iZ,ja,jb,jc,jd,je,jL,jM,jN,jO,jP,jQ],defers:=[]} W')
  (H:∀(K:Nat->Prop)(hs:Nat->aq)(cb:Nat->Nat)(s':an)(h':Nat)(kind:Int)(gx gz gQ gG gp dm gP gr gC u16 dn dr dw gd dx dy dz dA dB dD dF dG cr ct cu u32 cv cw cz cA cB cC cD cE cF cG cH dH dI gM gK gL bu bw bx bz bA bB bC bD bE bK bL bM bN bO bP u64 bQ bR bS bT bU bV bW bX bY bZ b5 b6 b7 b8 b9 cc cg ck cm cn cp dJ dK dL dM dN dO dP dQ cI cK cL cM cN cO cQ cR cS cT cU cV cW cZ c7 c8 dc dR dS dU dV dW dX dY dZ ec ee ef ei ej ek en eo ep er eu ew ey ez eA eB eC eD eE eF eG eH gh gi gj eL eM eN eO eP eR eS eT eU eV eW eX gl gm gn eY eZ e3 e4 e5 e6 e7 e8 e9 fc fe ff fh fk fm fo fq fu fA fB fC fD fE fF fG fH fI fJ fK fL fM fN fO fP fQ fR gu gv fS fT fU fV fW fZ ga ir iu iw iy iz iA iB iC iD iE iF iG iX iY iZ ja jb jc jd je jL jM jN jO jP jQ:Value)(W':World),sF bq gN base w0 G F ax n gy aG aT aX K W' hs cb s' aQ h' kind none 0 0 none 0 0->aM W' aT 30 [.int .i64 kind,mW,mW,.int .i64 (aQ:Int)]->Q .ret {tmps:= #[.pointer (some ⟨G,0,none⟩),.slice jm gX jo,.int .i64 (aX:Int),gx,gz,gQ,.pointer (some ⟨aT,0,none⟩),.int .i64 (iS:Int),.int .i64 left,.int .i64 2000,gG,gp,dm,gP,gr,gC,u16,dn,dr,dw,gd,dx,dy,dz,dA,dB,dD,dF,dG,cr,ct,cu,u32,cv,cw,cz,cA,cB,cC,cD,cE,cF,cG,cH,dH,dI,gM,gK,gL,bu,bw,bx,bz,bA,bB,bC,bD,bE,bK,bL,bM,bN,bO,bP,u64,bQ,bR,bS,bT,bU,bV,bW,bX,bY,bZ,b5,b6,b7,b8,b9,cc,cg,ck,cm,cn,cp,dJ,dK,dL,dM,dN,dO,dP,dQ,cI,cK,cL,cM,cN,cO,cQ,cR,cS,cT,cU,cV,cW,cZ,c7,c8,dc,dR,dS,dU,dV,dW,dX,dY,dZ,ec,ee,ef,ei,ej,ek,en,eo,ep,er,eu,ew,ey,ez,eA,eB,eC,eD,eE,eF,eG,eH,gh,gi,gj,eL,eM,eN,eO,eP,eR,eS,eT,eU,eV,eW,eX,gl,gm,gn,eY,eZ,e3,e4,e5,e6,e7,e8,e9,fc,fe,ff,fh,fk,fm,fo,fq,fu,fA,fB,fC,fD,fE,fF,fG,fH,fI,fJ,fK,fL,fM,fN,fO,fP,fQ,fR,gu,gv,fS,fT,fU,fV,fW,fZ,ga,ir,iu,iw,iy,iz,iA,iB,iC,iD,iE,iF,iG,iX,iY,iZ,ja,jb,jc,jd,je,jL,jM,jN,jO,jP,jQ],defers:=[]} W'):
  Code.wp y_ Hu Q {tmps:= #[.pointer (some ⟨G,0,none⟩),.slice jm gX jo,.int .i64 (aX:Int),gx,gz,gQ,.pointer (some ⟨aT,0,none⟩),.int .i64 (iS:Int),.int .i64 left,.int .i64 2000,gG,gp,dm,gP,gr,gC,u16,dn,dr,dw,gd,dx,dy,dz,dA,dB,dD,dF,dG,cr,ct,cu,u32,cv,cw,cz,cA,cB,cC,cD,cE,cF,cG,cH,dH,dI,gM,gK,gL,bu,bw,bx,bz,bA,bB,bC,bD,bE,bK,bL,bM,bN,bO,bP,u64,bQ,bR,bS,bT,bU,bV,bW,bX,bY,bZ,b5,b6,b7,b8,b9,cc,cg,ck,cm,cn,cp,dJ,dK,dL,dM,dN,dO,dP,dQ,cI,cK,cL,cM,cN,cO,cQ,cR,cS,cT,cU,cV,cW,cZ,c7,c8,dc,dR,dS,dU,dV,dW,dX,dY,dZ,ec,ee,ef,ei,ej,ek,en,eo,ep,er,eu,ew,ey,ez,eA,eB,eC,eD,eE,eF,eG,eH,gh,gi,gj,eL,eM,eN,eO,eP,eR,eS,eT,eU,eV,eW,eX,gl,gm,gn,eY,eZ,e3,e4,e5,e6,e7,e8,e9,fc,fe,ff,fh,fk,fm,fo,fq,fu,fA,fB,fC,fD,fE,fF,fG,fH,fI,fJ,fK,fL,fM,fN,fO,fP,fQ,fR,gu,gv,fS,fT,fU,fV,fW,fZ,ga,ir,iu,iw,iy,iz,iA,iB,iC,iD,iE,iF,iG,iX,iY,iZ,ja,jb,jc,jd,je,jL,jM,jN,jO,jP,jQ],defers:=[]} W:=by
 have ab:=U D;have ad:=U E;have m:=U H;have I:=U C;have i:=U S;have ae:=U B;clear D E H C S B
 conv=>arg 2;whnf
 dsimp only;obtain⟨af,ah,J,L,ai,aj,ak⟩:=i.o.ov I.o;have M:=U (L8 i.o.gA i.o.jX.gH i.o.jX.wh L (by omega) J);clear af ah J L ai aj ak
 go_upto_region 3 with(go_at_call 145;refine M.o.mono ?_;rintro e w1 ⟨p,c',hs',h',rfl,j,N,O,hp⟩;dsimp only)
 have b:mN bq gN base w0 G F ax n gy jk aG aT aX K w1 hs' cb {s with c:=c'} aQ h':=i.o.move N O (i.o.jX.run j.sm j.gH j.jH) rfl rfl j.sm.len;have b:=U b;have al:bF (s.c.av.length<=c'.av.length):=U (by obtain⟨e,he⟩:=j.sm.av;rw[he,x_];omega);have z:=U hp;clear j N O hp M;have P:w1.cell? ⟨G,15,none⟩=some (.bool c'.lC):=b.o.gA.e.kA (k:=15) rfl;obtain⟨ao,jZ,c5,q⟩:∃A n c,hs' 5=⟨A,n,c⟩:=⟨_,_,_,rfl⟩
 have aH:w1.cell? ⟨G,6,none⟩=some (.slice ao jZ c5):=by have:=b.o.gA.e.kA (k:=6) (v:=(hs' 5).v) rfl;rw[q] at this;exact this
 have r:jZ=c'.st.length:=by have:=b.o.gA.e.jZ;rw[q] at this;exact this
 have R:=U (z_ q r);clear q r;have T:=b.o.lH.cell 0;have V:=b.o.lH.cell 1;have X:=b.o.lH.cell 2;have ar:=b.o.lH.cell 3;have l:=b.o.lH.free;have aw:=l 0;have ay:=l 1;have az:=l 2;have aA:=l 3;simp only[mW,n_,Zu] at T V X ar
 cases t:c'.lC with
 |true=>
  rw[t] at P;have u:bF (Unsat F):=U (b.o.jX.gH.jG.tQ t)
  cases p with
  |none=>
   have g:q3 cb none=.pointer none:=rfl;rw[g]
   go_wp2_with fail
   have f:=b.o.Ce (kind:=2) (oC.no u.o);apply m.o
   ·exact f.1
   ·exact f.2
  |some d=>
   have g:q3 cb (some d)=.pointer (some ⟨cb d,0,none⟩):=rfl;rw[g]
   go_wp2_with fail
   have f:=b.o.Ce (kind:=2) (oC.no u.o);apply m.o
   ·exact f.1
   ·exact f.2
 |false=>
  rw[t] at P
  cases p with
  |none=>
   have g:q3 cb none=.pointer none:=rfl;rw[g];have hp:=z.o;dsimp only at hp
   go_wp2_with fail
   have Y:=b.o;rw[<-hp.2] at Y;apply ab.o hs' {s with c:=c'}
   ·exact Y
   ·exact hp.2.trans hp.1
   ·exact t
   ·rfl
   ·exact al.o
  |some d=>
   have g:q3 cb (some d)=.pointer (some ⟨cb d,0,none⟩):=rfl;rw[g];have hp:=z.o;dsimp only at hp;have w:=U hp;clear hp z
   by_cases y:c'.st.length=0
   ·have u:bF (Unsat F):=U (Ka b.o.jX.gH.au b.o.jX.gH.jG y w.o.1 w.o.2);obtain rfl:jZ=0:=by rw[R.o.2];exact y
    go_wp2_with fail
    have f:=b.o.Ce (kind:=2) (oC.no u.o);apply m.o
    ·exact f.1
    ·exact f.2
   ·have Z:0<c'.st.length:=Nat.pos_of_ne_zero y;have r:¬(jZ:Int)=0:=by rw[R.o.2];omega
    have aI:decide ((jZ:Int)=0)=false:=decide_eq_false r;have aB:=U Z;clear Z y
    by_cases aC:aQ=aX
    ·subst aC
     go_wp2_with fail
     have f:=b.o.Ce (kind:=3) oC.o;apply m.o
     ·exact f.1
     ·exact f.2
    ·have aD:¬(aQ:Int)=(aX:Int):=by omega
     have aK:decide ((aQ:Int)=(aX:Int))=false:=decide_eq_false aD;have aE:bF (aQ<aX):=U (by have:=b.o.r4;omega);clear T V X aw ay az l aA
     go_upto_region 7 with fail
     rename_i aL aa aN aO;have aF:=U aa;clear aa
     go_wp2_with fail
     apply aF.o;refine MV I.o b.o aE.o w.o.1 w.o.2 aB.o ae.o ?_;exact ad.o
end
section
open Go.RowKit
def ql(i:Nat):Nat:=2^Nat.log2 i
theorem D7(h:1<=i):ql i<=i:=Nat.log2_self_le (by omega)
theorem MX(i:Nat):i<2*ql i:=by
 have:i<2^(Nat.log2 i+1):=Nat.lt_log2_self;rw[ZW] at this;unfold ql;omega
theorem D8(i:Nat):1<=ql i:=Z5
theorem MY{m:Nat}(h1:2^m<=i)(c:i<2*2^m):ql i=2^m:=by
 have b:i≠0:=by have:1<=2^m:=Z5;omega
 unfold ql;rw[(Nat.log2_eq_iff b).2 ⟨h1,by rw[ZW];omega⟩]
def uI:Nat->Nat->Nat
 |0,_=>0
 |f+1,i=>if i+1=2*ql i then ql i else uI f (i-ql i+1)
theorem Cg(h:1<=i)(c:i+1≠2*ql i):1<=i-ql i+1/\i-ql i+1<i:=by
 have d:=D7 h;have e:=MX i;have f:=D8 i;constructor
 ·omega
 ·rcases ZY 1 (ql i) with b|b
  ·omega
  ·have:ql i=1:=by omega
   omega
theorem Hv:∀(f b i:Nat),1<=i->i<=f->i<=b->uI f i=uI b i
 |0,_,i,h1,h,_=>absurd h (by omega)
 |_+1,0,i,h1,_,h=>absurd h (by omega)
 |f+1,b+1,i,h1,h,h'=>by
  by_cases e:i+1=2*ql i
  ·simp[uI,e]
  ·have:=Cg h1 e;simp only[uI,if_neg e];exact Hv f b _ this.1 (by omega) (by omega)
def vI(i:Nat):Nat:=uI i i
theorem MZ(h:1<=i)(e:i+1=2*ql i):vI i=ql i:=by
 obtain⟨j,rfl⟩:∃j,i=j+1:=⟨i-1,by omega⟩
 simp[vI,uI,e]
theorem M0(h:1<=i)(e:i+1≠2*ql i):vI i=vI (i-ql i+1):=by
 obtain⟨j,rfl⟩:∃j,i=j+1:=⟨i-1,by omega⟩
 have:=Cg h e;show uI (j+1) (j+1)=_;simp only[uI,if_neg e];exact Hv _ _ _ this.1 (by omega) (by omega)
theorem M1{q:Nat}(b:∃m,q=2^m)(h1:k<q)(c:q<=2*k):q=2*ql k:=by
 obtain⟨m,rfl⟩:=b
 cases m with
 |zero=>simp at h1;omega
 |succ m=>rw[ZW] at*;rw[MY (m:=m) (by omega) (by omega)];omega
theorem M3(i:Nat)(w:World)(h1:1<=i)(t:i<=1099511627776):
  Calls y_ 150 #[.int .i64 i] w λ e w'=>e=.returned (.int .i64 (vI i))/\w=w':=by
 generalize j:vI i=L;have u:=U j;clear j;have B:decide ((i:Int)<1)=false:=by simp;omega
 have C:decide (1099511627776<(i:Int))=false:=by simp;omega
 go_enter Tryz.func150,Tryz.ntmps150
 go_wp2
 go_loop [0,2,3] (λ i _ _=>∃k:Nat,1<=k/\k<=1099511627776/\i=.int .i64 k/\vI k=L) (λ i _ _=>(intOf i).toNat)
 case atStart=>exact⟨i,h1,t,rfl,u.o⟩
 case round=>
  obtain⟨k,c,D,rfl,l⟩:=hrel;have n:=U l;clear l;go_wp2
  go_loop [3] (λ p=>∃q:Nat,p=.int .i64 q/\q<=2*k/\∃m,q=2^m) (λ p=>2*k-(intOf p).toNat)
  case atStart=>exact⟨1,rfl,by omega,0,rfl⟩
  case round=>
   obtain⟨q,rfl,v,r⟩:=hrel;have g:=U r;clear r
   by_cases E:q<=k
   ·have F:1<=q:=by obtain⟨m,hm⟩:=g.o;rw[hm];exact Z5
    go_wp2
    go_round
    case rel=>exact⟨q*2,by go_num,by omega,by obtain⟨m,hm⟩:=g.o;exact⟨m+1,by rw[hm,ZW]⟩⟩
    case measure=>simp[intOf];omega
   ·have d:=M1 g.o (by omega) v;have G:=D8 k;have b:=U d;clear d
    by_cases f:k+1=q
    ·have s:(k:Int)=(q:Int)-1:=by omega
     have y:((k:Int)==(q:Int)-1)=true:=by simpa using s
     have z:=U f;clear f s;go_wp2;go_ret;refine⟨qH ?_,rfl⟩;rw[<-n.o,MZ c (by rw[z.o];exact b.o),b.o];omega
    ·have y:((k:Int)==(q:Int)-1)=false:=beq_eq_false_iff_ne.2 (by omega);have H:=Cg c (by rw[<-b.o];exact f);have I:=D7 c;have A:=U (M0 c (by rw[<-b.o];exact f));go_wp2;have d:=b.o
     go_round
     case rel=>exact⟨k-ql k+1,by omega,by omega,by rw[d];exact congrArg (Z3 .i64) (by omega),by rw[<-A.o];exact n.o⟩
     case measure=>simp[intOf];omega
theorem M4:∀(f i:Nat),1<=i->i<=f->1<=uI f i/\uI f i<=i:=by
 intro f
 induction f with
 |zero=>intro i h1 b;omega
 |succ f c=>
  intro i h1 b;unfold uI;split
  ·exact⟨D8 i,D7 h1⟩
  ·rename_i d;have e:=Cg h1 d;have g:=c (i-ql i+1) e.1 (by omega);exact⟨g.1,by omega⟩
theorem M5(h:1<=i):1<=vI i/\vI i<=i:=M4 i i h (b_ _)
end
section
open Go.RowKit Go.Shelf
theorem M6(h:aP K base w G hs cb s)(d:s.c.st.length=0):
  Calls y_ 147 #[.pointer (some ⟨G,0,none⟩),.int .i64 0] w λ e w'=>e=.returned (.tuple #[])/\w=w':=by
 obtain⟨f,jZ,c5,b⟩:∃A n c,hs 5=⟨A,n,c⟩:=⟨_,_,_,rfl⟩
 have i:w.cell? ⟨G,6,none⟩=some (.slice f jZ c5):=by have:=h.e.kA (k:=6) (v:=(hs 5).v) rfl;rw[b] at this;exact this
 have g:jZ=0:=by have:=h.e.jZ;rw[b] at this;rw[<-d];exact this
 subst g;clear h d b;go_enter Tryz.func147,Tryz.ntmps147
 go_wp2_with fail
 refine bodyPost_ret (results_none rfl _ _ _) rfl ?_;exact⟨rfl,rfl⟩
def M7(K:Nat->Prop)(base:Nat)(w:World)(G:Nat)(cb:Nat->Nat)(F:List (List Int))(b:List Int)(n d f h:Nat)(s:an)(e:Ending)(w':World):Prop:=
 e=.returned (.tuple #[])/\∃(hs':Nat->aq)(s':an)(h':Nat),aP K base w' G hs' cb s'/\aF K w w'/\mj F b n d s' f h'/\s'.c.st=[]/\s'.aD=s.aD/\s'.jg=s.jg/\s'.aJ=s.aJ/\s'.c.cl=s.c.cl/\(s.c.ag=h->s'.c.ag=h')
theorem Hw(E:aP K base w G hs cb s)(S:mj F ax n gy s aQ h)(d:n<=60000)(f:s.c.st.length<=1000000):
  Calls y_ 147 #[.pointer (some ⟨G,0,none⟩),.int .i64 0] w (M7 K base w G cb F ax n gy aQ h s):=by
 rcases Zw s.c.st.length with b|b
 ·refine(M6 E b).mono ?_;rintro e w' ⟨rfl,rfl⟩;exact⟨rfl,hs,s,h,E,aF.refl,S,w_ b,rfl,rfl,rfl,rfl,id⟩
 ·refine(Gk E S.rg S.gH.au d 0 b f (mj.Hr S b)).mono ?_;rintro e w' ⟨rfl,hs',s',k,r,g,M⟩;exact⟨rfl,hs',s',gO s.c.st 0,g,M,S.back b k r,by rw[k.c];rfl,k.aD,k.jg,k.aJ,by rw[k.c];rfl,λ _=>by rw[k.c];rfl⟩
noncomputable def M8:Code:=DS (nw Cf)
theorem M9
  (C:sE bq gN w0 F ax n gy jk aG jm gX jo aX) (S:mN bq gN base w0 G F ax n gy jk aG aT aX K W hs cb s aQ s.c.ag) (t:1<=iS/\iS<=1000000)
  (u:∀(gx gz gQ gG gp dm gP gr gC u16 dn dr dw gd dx dy dz dA dB dD dF dG cr ct cu u32 cv cw cz cA cB cC cD cE cF cG cH dH dI gM gK gL bu bw bx bz bA bB bC bD bE bK bL bM bN bO bP u64 bQ bR bS bT bU bV bW bX bY bZ b5 b6 b7 b8 b9 cc cg ck cm cn cp dJ dK dL dM dN dO dP dQ cI cK cL cM cN cO cQ cR cS cT cU cV cW cZ c7 c8 dc dR dS dU dV dW dX dY dZ ec ee ef ei ej ek en eo ep er eu ew ey ez eA eB eC eD eE eF eG eH gh gi gj eL eM eN eO eP eR eS eT eU eV eW eX gl gm gn eY eZ e3 e4 e5 e6 e7 e8 e9 fc fe ff fh fk fm fo fq fu fA fB fC fD fE fF fG fH fI fJ fK fL fM fN fO fP fQ fR gu gv fS fT fU fV fW fZ ga ir iu iw iy iz iA iB iC iD iE iF iG iX iY iZ ja jb jc jd je jL jM jN jO jP jQ:Value),0<left->Q .normal {tmps:= #[.pointer (some ⟨G,0,none⟩),.slice jm gX jo,.int .i64 (aX:Int),gx,gz,gQ,.pointer (some ⟨aT,0,none⟩),.int .i64 (iS:Int),.int .i64 left,.int .i64 2000,gG,gp,dm,gP,gr,gC,u16,dn,dr,dw,gd,dx,dy,dz,dA,dB,dD,dF,dG,cr,ct,cu,u32,cv,cw,cz,cA,cB,cC,cD,cE,cF,cG,cH,dH,dI,gM,gK,gL,bu,bw,bx,bz,bA,bB,bC,bD,bE,bK,bL,bM,bN,bO,bP,u64,bQ,bR,bS,bT,bU,bV,bW,bX,bY,bZ,b5,b6,b7,b8,b9,cc,cg,ck,cm,cn,cp,dJ,dK,dL,dM,dN,dO,dP,dQ,cI,cK,cL,cM,cN,cO,cQ,cR,cS,cT,cU,cV,cW,cZ,c7,c8,dc,dR,dS,dU,dV,dW,dX,dY,dZ,ec,ee,ef,ei,ej,ek,en,eo,ep,er,eu,ew,ey,ez,eA,eB,eC,eD,eE,eF,eG,eH,gh,gi,gj,eL,eM,eN,eO,eP,eR,eS,eT,eU,eV,eW,eX,gl,gm,gn,eY,eZ,e3,e4,e5,e6,e7,e8,e9,fc,fe,ff,fh,fk,fm,fo,fq,fu,fA,fB,fC,fD,fE,fF,fG,fH,fI,fJ,fK,fL,fM,fN,fO,fP,fQ,fR,gu,gv,fS,fT,fU,fV,fW,fZ,ga,ir,iu,iw,iy,iz,iA,iB,iC,iD,iE,iF,iG,iX,iY,iZ,ja,jb,jc,jd,je,jL,jM,jN,jO,jP,jQ],defers:=[]} W)
  (w:∀(hs:Nat->aq)(s':an)(d:Int)(gx gz gQ gG gp dm gP gr gC u16 dn dr dw gd dx dy dz dA dB dD dF dG cr ct cu u32 cv cw cz cA cB cC cD cE cF cG cH dH dI gM gK gL bu bw bx bz bA bB bC bD bE bK bL bM bN bO bP u64 bQ bR bS bT bU bV bW bX bY bZ b5 b6 b7 b8 b9 cc cg ck cm cn cp dJ dK dL dM dN dO dP dQ cI cK cL cM cN cO cQ cR cS cT cU cV cW cZ c7 c8 dc dR dS dU dV dW dX dY dZ ec ee ef ei ej ek en eo ep er eu ew ey ez eA eB eC eD eE eF eG eH gh gi gj eL eM eN eO eP eR eS eT eU eV eW eX gl gm gn eY eZ e3 e4 e5 e6 e7 e8 e9 fc fe ff fh fk fm fo fq fu fA fB fC fD fE fF fG fH fI fJ fK fL fM fN fO fP fQ fR gu gv fS fT fU fV fW fZ ga ir iu iw iy iz iA iB iC iD iE iF iG iX iY iZ ja jb jc jd je jL jM jN jO jP jQ:Value)(W':World),mN bq gN base w0 G F ax n gy jk aG aT aX K W' hs cb s' aQ s'.c.ag->s'.aJ.length=s.aJ.length->left<=0->0<d->d<=32*((iS+1:Nat):Int)->Q (.exit 1) {tmps:= #[.pointer (some ⟨G,0,none⟩),.slice jm gX jo,.int .i64 (aX:Int),gx,gz,gQ,.pointer (some ⟨aT,0,none⟩),.int .i64 ((iS+1:Nat):Int),.int .i64 d,.int .i64 2000,gG,gp,dm,gP,gr,gC,u16,dn,dr,dw,gd,dx,dy,dz,dA,dB,dD,dF,dG,cr,ct,cu,u32,cv,cw,cz,cA,cB,cC,cD,cE,cF,cG,cH,dH,dI,gM,gK,gL,bu,bw,bx,bz,bA,bB,bC,bD,bE,bK,bL,bM,bN,bO,bP,u64,bQ,bR,bS,bT,bU,bV,bW,bX,bY,bZ,b5,b6,b7,b8,b9,cc,cg,ck,cm,cn,cp,dJ,dK,dL,dM,dN,dO,dP,dQ,cI,cK,cL,cM,cN,cO,cQ,cR,cS,cT,cU,cV,cW,cZ,c7,c8,dc,dR,dS,dU,dV,dW,dX,dY,dZ,ec,ee,ef,ei,ej,ek,en,eo,ep,er,eu,ew,ey,ez,eA,eB,eC,eD,eE,eF,eG,eH,gh,gi,gj,eL,eM,eN,eO,eP,eR,eS,eT,eU,eV,eW,eX,gl,gm,gn,eY,eZ,e3,e4,e5,e6,e7,e8,e9,fc,fe,ff,fh,fk,fm,fo,fq,fu,fA,fB,fC,fD,fE,fF,fG,fH,fI,fJ,fK,fL,fM,fN,fO,fP,fQ,fR,gu,gv,fS,fT,fU,fV,fW,fZ,ga,ir,iu,iw,iy,iz,iA,iB,iC,iD,iE,iF,iG,iX,iY,iZ,ja,jb,jc,jd,je,jL,jM,jN,jO,jP,jQ],defers:=[]} W'):
  Code.wp y_ M8 Q {tmps:= #[.pointer (some ⟨G,0,none⟩),.slice jm gX jo,.int .i64 (aX:Int),gx,gz,gQ,.pointer (some ⟨aT,0,none⟩),.int .i64 (iS:Int),.int .i64 left,.int .i64 2000,gG,gp,dm,gP,gr,gC,u16,dn,dr,dw,gd,dx,dy,dz,dA,dB,dD,dF,dG,cr,ct,cu,u32,cv,cw,cz,cA,cB,cC,cD,cE,cF,cG,cH,dH,dI,gM,gK,gL,bu,bw,bx,bz,bA,bB,bC,bD,bE,bK,bL,bM,bN,bO,bP,u64,bQ,bR,bS,bT,bU,bV,bW,bX,bY,bZ,b5,b6,b7,b8,b9,cc,cg,ck,cm,cn,cp,dJ,dK,dL,dM,dN,dO,dP,dQ,cI,cK,cL,cM,cN,cO,cQ,cR,cS,cT,cU,cV,cW,cZ,c7,c8,dc,dR,dS,dU,dV,dW,dX,dY,dZ,ec,ee,ef,ei,ej,ek,en,eo,ep,er,eu,ew,ey,ez,eA,eB,eC,eD,eE,eF,eG,eH,gh,gi,gj,eL,eM,eN,eO,eP,eR,eS,eT,eU,eV,eW,eX,gl,gm,gn,eY,eZ,e3,e4,e5,e6,e7,e8,e9,fc,fe,ff,fh,fk,fm,fo,fq,fu,fA,fB,fC,fD,fE,fF,fG,fH,fI,fJ,fK,fL,fM,fN,fO,fP,fQ,fR,gu,gv,fS,fT,fU,fV,fW,fZ,ga,ir,iu,iw,iy,iz,iA,iB,iC,iD,iE,iF,iG,iX,iY,iZ,ja,jb,jc,jd,je,jL,jM,jN,jO,jP,jQ],defers:=[]} W:=by
 have J:=U u;have M:=U w;have y:=U C;have f:=U S;have g:=U t;have N:=U (S.ov C);clear u w C S t
 conv=>arg 2;whnf
 dsimp only
 by_cases hl:left<=0
 ·have dl:decide (left<=0)=true:=decide_eq_true hl;have wt:a_.wrap ((iS:Int)+1)=((iS+1:Nat):Int):=by rw[e_];have:=g.o;omega
  have j:=U (M3 (iS+1) W (by omega) (by have:=g.o;omega));obtain⟨l,m⟩:=M5 (i:=iS+1) (by omega);obtain⟨L,z⟩:∃L,vI (iS+1)=L:=⟨_,rfl⟩
  rw[z] at j l m;have Y:a_.wrap (32*(L:Int))=32*(L:Int):=by rw[e_];have:=g.o;omega
  have A:=U (Hw f.o.gA f.o.jX (by have:=y.o.n10;omega) (by have:=N.o;omega));have p:=U (z_ hl (z_ l m));clear hl l m z
  go_upto_region 19 with(go_at_call 150;refine j.o.mono ?_;rintro e w1 ⟨rfl,rfl⟩;dsimp only)
  go_upto_region 20 with(go_at_call 147;refine A.o.mono ?_;rintro e O ⟨rfl,P,s2,Z,q,M2,r,R,B,D,E,H,I⟩;dsimp only)
  have b:=f.o.move q M2 r B D (by rw[H]);rw[<-I rfl] at b;have c0:O.cell? ⟨G,0,none⟩=some (.int .i64 (n:Int)):=by have:=q.e.kA (k:=0) (v:=.int .i64 (s2.c.n:Int)) rfl;rw[r.rg.gV] at this;exact this
  have T:¬(10:Int)<(n:Int):=by have:=y.o.n10;omega
  have aa:decide ((10:Int)<(n:Int))=false:=decide_eq_false T;have b:=U b;have V:=U E;clear q M2 r R B D E H I A j
  go_wp2_with fail
  apply M.o P s2
  ·exact b.o
  ·rw[V.o]
  ·exact p.o.1
  ·have:=p.o;omega
  ·have:=p.o;omega
 ·have dl:decide (left<=0)=false:=decide_eq_false hl;have X:=U hl;clear hl
  go_wp2_with fail
  apply J.o;have:=X.o;omega
end
section
open Go.RowKit Go.Shelf
theorem Na(A:Option Addr)(n c:Nat)(d:List Int)(x:Int)(w:World)(h:aN w A n c d):
  Calls y_ 169 #[.slice A n c,.int .i64 x] w λ e w'=>(∃r:Int,e=.returned (.int .i64 r)/\decide (0<=r)=hasB d x)/\w=w':=by
 have q:=h.small;have H:=U h;clear h;go_enter Tryz.func169,Tryz.ntmps169
 go_wp2
 go_loop [8] (λ i=>∃k:Nat,k<=n/\i=.int .i64 k/\hasB (d.take k) x=false) (λ i=>n-(intOf i).toNat)
 case atStart=>exact⟨0,Zc _,rfl,rfl⟩
 case round=>
  obtain⟨k,hk,rfl,j⟩:=hrel;have l:=U j;clear j
  by_cases g:k<n
  ·obtain⟨b,off,rfl,s,m⟩:=H.o.cells (by omega);have t:=m k g;clear m
   by_cases f:x=jv d k
   ·have p:(x==jv d k)=true:=by simpa using f
    have E:bF (hasB d x=true):=U (E6 (k:=k) (by rw[H.o.len];exact g) (by simpa using f.symm));clear f;go_wp2;go_ret;exact⟨⟨k,rfl,by rw[E.o];simp⟩,rfl⟩
   ·have p:(x==jv d k)=false:=by simpa using f
    have E:bF (hasB (d.take (k+1)) x=false):=U (E7 (by rw[H.o.len];exact g) (by simpa using Ne.symm f) l.o);clear f;go_wp2
    go_round
    case rel=>exact⟨k+1,by omega,by go_num,E.o⟩
    case measure=>simp[intOf];omega
  ·go_wp2;go_ret;exact⟨⟨-1,rfl,by rw[E8 H.o.len g l.o];rfl⟩,rfl⟩
theorem Ch(r:Bool)(A:Option Addr)(n c:Nat)(d:List Int)(x:Int)(w:World)(h:aN w A n c d)(b:hasB d x=r):
  Calls y_ 124 #[.slice A n c,.int .i64 x] w λ e w'=>e=.returned (.bool r)/\w=w':=by
 have f:=Na A n c d x w h;rw[b] at f;clear h b;go_enter Tryz.func124,Tryz.ntmps124
 go_wp2_with (go_at_call 169;refine f.mono ?_;rintro e w' ⟨⟨r,rfl,b⟩,rfl⟩)
 all_goals
  go_ret;exact⟨lS (by rw[<-b]),rfl⟩
open Go.RowKit Go.Shelf Go.Sort Go.Lib
theorem Hx(enc:Int->Value)(w:World)(g m:Nat)(c:Array Int)(os:Array Obj){b:Nat}(d:b<w.heap.size)(f:b≠g):(sortWorld enc w g 0 m c os).heap[b]? =w.heap[b]? :=by
 unfold sortWorld;rw[Sort.heap_grow_old _ _ (by rw[Sort.size_putRow];exact d)];unfold Sort.putRow Sort.mapBlock;rw[Array.getElem?_modify,if_neg (λ e=>f e.symm)];rfl
theorem aN.xu(h:aN w A n c ah)(hs:w.heap.size<=w'.heap.size)(d:∀b,A.map (·.block)=some b->w'.heap[b]? =w.heap[b]?):aN w' A n c ah:=
 ⟨h.len,h.cap,h.mP,h.oo,λ f=>by
  obtain⟨b,off,e,h1,g⟩:=h.cells f;refine⟨b,off,e,Z4 h1 hs,λ j i=>?_⟩;rw[t_ (a:=⟨b,off+j,none⟩) (d b (by rw[e];rfl))];exact g j i⟩
theorem Nb:∀args w,(callFunc 154 args).run y_ w=.ok (.enter 154 args) w:=enters_of Tryz.func154 (by kernel_rfl) rfl
theorem Hy(d:Nat)(A:Option Addr)(n c:Nat)(core:List Int)(x:Int)(w:World)(g:w.cell? ⟨d,0,none⟩=some (.slice A n c))(h:aN w A n c core):
  Calls y_ 154 #[.int .i64 x,.pointer (some ⟨d,0,none⟩)] w λ e w'=>e=.returned (.bool (!(hasB core x)))/\w=w':=by
 obtain⟨r,b⟩:∃r,hasB core x=r:=⟨_,rfl⟩
 have f:=U (Ch r A n c core x w h b);rw[b];clear h b;go_enter Tryz.func154,Tryz.ntmps154
 go_wp2_with (go_at_call 124;refine f.o.mono ?_;rintro e w1 ⟨rfl,rfl⟩;dsimp only)
 go_ret;exact⟨rfl,rfl⟩
theorem Nc(w:World)(base g n cap:Nat)(c:List Int)(h:Own w base g n cap c)(t:base<=g){kH:Nat}{A:Option Addr}{ic dh:Nat}{core:List Int}(i:w.cell? ⟨kH,0,none⟩=some (.slice A ic dh))(j:kH<w.heap.size)(u:kH≠g)(l:aN w A ic dh core)(o:∀b,A.map (·.block)=some b->b<w.heap.size/\b≠g):
  Calls y_ 85 #[.slice (some ⟨g,0,none⟩) n cap,.func (.func 154) #[] #[.pointer (some ⟨kH,0,none⟩)]] w λ e w'=>
   ∃m,e=.returned (.slice (some ⟨g,0,none⟩) m cap)/\Own w' base g m cap (c.filter λ x=>hasB core x)/\Below base w w':=by
 have h':w.ownsRow base 3 1 (.slice (some ⟨g,0,none⟩) n cap) n (c.map r7):=h;obtain⟨G,H,he,h1,I,v,y,f,z⟩:=Zn h' (by intro e;cases e)
 cases he
 have B:n<=9223372036854775807:=by unfold maxLen at y;omega
 have C:PredAt y_ 154 #[.pointer (some ⟨kH,0,none⟩)] r7 (λ x=> !(hasB core x)) w:=by
  intro W x r;unfold FnGives;refine(Hy kH A ic dh core x W ((r.cell (p:=⟨kH,0,none⟩) j).trans i) (l.below r)).mono λ _ _ ⟨he,hw⟩=>⟨he,0,by rw[<-hw];rfl⟩
 have D:PredOver y_ 154 #[.pointer (some ⟨kH,0,none⟩)] r7 (λ x=> !(hasB core x)) g 0 c.toArray.size w:=by
  intro k os d x _;unfold FnGives;have E:w.heap.size<=(sortWorld r7 w g 0 k d os).heap.size:=by
   show w.heap.size<=((Sort.putRow r7 (ZP w k) g 0 d).heap++os).size;rw[Array.size_append,Sort.size_putRow];show w.heap.size<=w.heap.size+_;omega
  refine(Hy kH A ic dh core x _ ((t_ (a:=⟨kH,0,none⟩) (Hx r7 w g k d os j u)).trans i) (l.xu E (λ b e=>Hx r7 w g k d os (o b e).1 (o b e).2))).mono λ _ _ ⟨he,hw⟩=>⟨he,0,by rw[<-hw];rfl⟩
 have s:=Tryz.slices_DeleteFunc r7 D1 (λ x=> !(hasB core x)) 154 #[.pointer (some ⟨kH,0,none⟩)] Nb 0 q_ g 0 cap c.toArray w C D z (by simpa[f] using B) (by simpa[f] using v);have hs:c.toArray.size=n:=by simp[f]
 rw[hs] at s;refine s.mono ?_;rintro e w' ⟨rfl,q,rfl⟩;have F:c.toArray.toList.filter (λ x=> !(!(hasB core x)))=c.filter λ x=>hasB core x:=by
  show c.filter _=_
  congr 1
  funext x;simp
 rw[F];have hle:=p_ (λ x=>hasB core x) c;refine⟨_,rfl,?_,ZU (f_ _ _) t⟩;have:=Ze (q:=q) (k:=(c.filter λ x=>hasB core x).length) (ys:=(c.filter λ x=>hasB core x)++Zv (n-(c.filter λ x=>hasB core x).length) 0) h' (by simp;omega) (by omega);rw[ZR rfl] at this;exact this
end
end Go.Proofs.YtogdlkfacflmaaaGreat
