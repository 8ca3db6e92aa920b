/- Parts of the walk of the solver and its core; no condition. -/
import Derived.Test.YtogdlkfacflmaaaGreatZW8
import Derived.Test.YtogdlkfacflmaaaGreatZW10
import Derived.Test.YtogdlkfacflmaaaGreatZW4
import Derived.Laws.ResultCell
import Derived.Test.YtogdlkfacflmaaaGreatZW1
import Derived.Test.YtogdlkfacflmaaaGreatZW5
import Derived.Test.YtogdlkfacflmaaaGreatZW3
import Derived.Test.YtogdlkfacflmaaaGreatZW6
import Derived.Deep.LoopGhost
namespace Go.Proofs.YtogdlkfacflmaaaGreat
set_option linter.unusedVariables false
set_option linter.unusedSimpArgs false
set_option maxRecDepth 1000000
set_option maxHeartbeats 8000000
open _root_.And renaming intro→z_
open _root_.Go.World renaming cell?_of_block→y_,putObj_heap_other→d_
open _root_.Go.Proofs.Tryz renaming prog→x_
open _root_.List renaming take_succ_cons→w_,drop_succ_cons→v_,length_append→u_,take_zero→r_,drop_zero→q_,length_singleton→o_,length_filter_le→k_,mem_singleton→j_,getElem?_cons_zero→f_,getElem?_cons_succ→e_,mem_append→c_,length_pos_of_mem→a_
open _root_.Go.RowKit.Below renaming refl→t_
open _root_.Go renaming wp_region_still_tail→s_,wpStill_nil→n_
open _root_.Go.IntKind renaming wrap_i64→p_,i64→m_
open _root_.Nat renaming le_refl→l_,one_le_two_pow→i_,le_trans→h_,pow_succ→g_
open _root_.Go.Value renaming slice→b_
open _root_.Go.Handed renaming intro→Zz
open _root_.Go.KeepsOthers renaming drew→Zy
variable{K aT gU:Nat->Prop}{base G n fL jv bC gJ bu bf aB iT h i:Nat}{W w w0:World}{hs:Nat->ax}{cb:Nat->Nat}{s aI:an}{F:List (List Int)}{ai:List Int}{gG:Option Addr}{left:Int}{c5 jy iW gE gl iw gI gQ u16 gm gn gp gD gq gr gu gv gw gx gy gz fN fO fP u32 fQ fR fS fT fU fV fW fZ ga gb gd gA gB ig gX gY bM bN bO bP bQ bR bS bT bU bV bW bX bY bZ b5 u64 b6 b7 b8 b9 cc cg ck cm cn cp cr ct cu cv cw cz cA cB cC cD cE c7 c8 c9 dc de dh di dm cG cH cI cK cL cM cN cO cQ cR cS cT cU cV cW cZ c4 dn dr dw dx dy dz dA dB dD dF dG dH dI dJ dK dL dM dN dO dP dQ dR dS dU dV dW dX dY dZ ec fF fG fH ee ef ei ej ek en eo ep er eu ew ey fI fJ fK ez eA eB eC eD eE eF eG eH eL eM eN eO eP eR eS eT eU eV eW eX eY eZ e3 e4 e5 e6 e7 e8 e9 fc fe ff fh fk fm gh gi fo fq fu fA fB fC fD iB iC iD iE iF iG iH iI iJ iK iL iM jc jd je jf jg jh ji jj jM jN jO jP jQ jR gR:Value}{Q:Exit->Act->World->Prop}
section
open Go.RowKit Go.Shelf
theorem aX.uU(h:aX K base W G hs cb s){g:Nat}(hk:K g)(k:Nat)(v:Value):aX K base (W.setCell ⟨g,k,none⟩ v) G hs cb s:=
 ⟨h.e.off (kZ W g k v) (λ f e=>by
  injection e with e
  subst e;exact⟨λ b=>h.s.g (by rw[<-b];exact hk),λ r b=>h.s.row r g b hk,λ d c b=>h.s.cl d c (by rw[b];exact hk)⟩),h.s.more (kZ W g k v).size⟩
theorem oM.mono{k3:Nat->Prop}(h:oM K w s)(hk:∀b,K b->k3 b):oM k3 w s:=λ f g=>by
 obtain⟨a,b,c⟩:=h f g;exact⟨a,b,c.imp id λ⟨d,off,e,h1,i⟩=>⟨d,off,e,λ j=>hk d (h1 j),i⟩⟩
structure sg(aT gU:Nat->Prop)(w0:World)(F:List (List Int))(ai:List Int)(n fL jv:Nat)(aI:an)(gG:Option Addr)(bC gJ bu:Nat):Prop where
 n10:n<=10
 x8:ai.length=bC
 GB:bC<=1000
 Md:∀x∈ai,gW n x
 Me:aS w0 gG bC gJ ai
 GC:∀b,gG.map (·.block)=some b->0<bC->gU b
 k0:∀b,gU b->b<w0.heap.size
 aW:bu<=1099511627776
 jv:jv<=fL+40000
 uV:aI.aA.length+59049<=1099511627776
 lit:∀g∈F,∀x∈g,gW n x
 dl:∀b,aT b->b<w0.heap.size
theorem sg.DE(C:sg aT gU w0 F ai n fL jv aI gG bC gJ bu){b:Nat}(h:w0.heap.size<=b):¬aT b:=λ c=>by
 have:=C.dl b c;omega
def mY:Value:=.slice none 0 0
structure mI(aT gU:Nat->Prop)(base:Nat)(w0:World)(G:Nat)(F:List (List Int))(ai:List Int)(n fL jv:Nat)(aI:an)(bf bu:Nat)(K:Nat->Prop)(W:World)(hs:Nat->ax)(cb:Nat->Nat)(s:an)(aB h:Nat):Prop where
 rz:∀b,gU b->K b
 gH:aX K base W G hs cb s
 iR:aC gU w0 W
 jZ:mm F ai n fL s aB h
 jS:aN W bf 30 [.int .i64 0,mY,mY,.int .i64 (aB:Int)]
 sF:K bf
 tK:¬gU bf
 w5:oM (λ b=>gU b/\¬aT b) W s
 w6:∀p∈s.aA,qm (λ b=>(K b/\b≠bf)/\¬aT b) W n p
 w8:aI.aA<+:s.aA
 uV:s.aA.length=aI.aA.length+aB
 vV:s.c.cl.length=jv+aB
 nt:aB<=bu
def nx(K:Nat->Prop)(W:World)(F:List (List Int))(ai:List Int)(n bu aB:Nat)(kind:Int)(c:Option Addr)(e f:Nat)(d:Option Addr)(i j:Nat):Prop:=
 (kind=1/\b_ d i j=mY/\∃m:List Bool,kE W c e f m/\(∀b,c.map (·.block)=some b->K b)/\m.length=n+1/\iU m 0=false/\(∀g∈F,sR (lJ m) g)/\∀x∈ai,lJ m x=true)\/
 (kind=2/\b_ c e f=mY/\∃core:List Int,aS W d i j core/\(∀b,d.map (·.block)=some b->K b)/\core.Sublist ai/\∀M,tS M F->¬∀x∈core,M x=true)\/
 (kind=3/\b_ c e f=mY/\b_ d i j=mY/\aB=bu)
def DF(aT gU:Nat->Prop)(base:Nat)(w0:World)(G:Nat)(F:List (List Int))(ai:List Int)(n fL:Nat)(aI:an)(bu:Nat)(e:Ending)(W:World):Prop:=
 ∃(K:Nat->Prop)(hs:Nat->ax)(cb:Nat->Nat)(s:an)(aB h:Nat)(kind:Int)(c:Option Addr)(d f:Nat)(g:Option Addr)(i j:Nat),
  e=.returned (.agg #[.int .i64 kind,.slice c d f,.slice g i j,.int .i64 (aB:Int)])/\(∀b,gU b->K b)/\aX K base W G hs cb s/\aC gU w0 W/\mm F ai n fL s aB h/\oM (λ b=>gU b/\¬aT b) W s/\(∀p∈s.aA,qm (λ b=>K b/\¬aT b) W n p)/\aI.aA<+:s.aA/\s.aA.length=aI.aA.length+aB/\aB<=bu/\nx (λ b=>K b/\¬aT b) W F ai n bu aB kind c d f g i j
section
variable {aT gU K k3:Nat->Prop}{base:Nat}{w0 W W':World}{G:Nat}{F:List (List Int)}{ai:List Int}{n fL jv:Nat}{aI s s':an}{gG:Option Addr}{bC gJ bf bu:Nat}{hs hs':Nat->ax}{cb r0:Nat->Nat}{aB h h':Nat}
theorem mI.move(S:mI aT gU base w0 G F ai n fL jv aI bf bu K W hs cb s aB h)(f:aX K base W' G hs' r0 s')(iR:aC K W W')(g:mm F ai n fL s' aB h')(d:s'.aA=s.aA)(i:s'.jr=s.jr)(j:s'.c.cl.length=s.c.cl.length):
  mI aT gU base w0 G F ai n fL jv aI bf bu K W' hs' r0 s' aB h':=
 ⟨S.rz,f,S.iR.trans (iR.mono S.rz),g,iR.blk S.jS S.sF,S.sF,S.tK,S.w5.kept (iR.mono λ b e=>S.rz b e.1) i d,λ p hp=>(S.w6 p (by rw[<-d];exact hp)).iR (iR.mono λ b e=>e.1.1),by rw[d];exact S.w8,by rw[d];exact S.uV,by rw[j];exact S.vV,S.nt⟩
theorem mI.below(S:mI aT gU base w0 G F ai n fL jv aI bf bu K W hs cb s aB h)(b:Below W.heap.size W W'):mI aT gU base w0 G F ai n fL jv aI bf bu K W' hs cb s aB h:=
 S.move (S.gH.below b).1 (S.gH.below b).2 S.jZ rfl rfl rfl
theorem mI.more(S:mI aT gU base w0 G F ai n fL jv aI bf bu K W hs cb s aB h)(C:sg aT gU w0 F ai n fL jv aI gG bC gJ bu)(l:aB<bu){jl:World}{p:nv}
  (hk:∀b,K b->k3 b) (m:aX k3 base W' G hs' r0 s') (iR:aC (λ b=>K b/\b≠bf) W jl) (g:aC K jl W') (o:aN jl bf 30 [.int .i64 0,mY,mY,.int .i64 (aB+1:Nat)]) (r:mm F ai n fL s' (aB+1) h') (f:s'.aA=s.aA++[p]) (t:s'.jr=none) (u:s'.c.cl.length=s.c.cl.length+1)
  (hl:qm k3 W' n p) (i:∀b,p.h.b=some b->W.heap.size<=b):mI aT gU base w0 G F ai n fL jv aI bf bu k3 W' hs' r0 s' (aB+1) h':=by
 have w:=S.jS.lt;have f0:aC (λ b=>K b/\b≠bf) W W':=iR.trans (g.mono λ b d=>d.1);refine⟨λ b d=>hk b (S.rz b d),m,S.iR.trans (f0.mono λ b d=>⟨S.rz b d,λ e=>S.tK (e▸d)⟩),r,g.blk o S.sF,hk _ S.sF,S.tK,λ y j=>(by rw[t] at j;cases j),λ q k=>?_,?_,?_,?_,l⟩
 ·rw[f] at k;rcases c_.1 k with h1|h1
  ·exact((S.w6 q h1).iR (f0.mono λ b d=>d.1)).mono λ b d=>⟨⟨hk b d.1.1,d.1.2⟩,d.2⟩
  ·rw[j_.1 h1];exact⟨hl.lH,hl.rd,λ b e v=>⟨⟨hl.blk b e v,by have:=i b e;omega⟩,C.DE (h_ S.iR.size (i b e))⟩⟩
 ·rw[f];exact S.w8.trans (List.prefix_append _ _)
 ·rw[f,u_,o_,S.uV];omega
 ·rw[u,S.vV];omega
theorem aC.DG(S:mI aT gU base w0 G F ai n fL jv aI bf bu K W hs cb s aB h)(k:Nat)(v:Value):aC (λ b=>K b/\b≠bf) W (W.setCell ⟨bf,k,none⟩ v):=aC.set bf k v (λ c=>c.2 rfl)
theorem mI.mT(S:mI aT gU base w0 G F ai n fL jv aI bf bu K W hs cb s aB h)(C:sg aT gU w0 F ai n fL jv aI gG bC gJ bu):s.aO.length+1<=59049/\aB+1<=59049/\s.c.cl.length<=100000/\s.c.n<=60000/\s.c.st.length<=1100/\s.aA.length<=1099511627776/\s.c.ay.length<=n:=by
 have h1:=S.jZ.mT;have b:3^n<=3^10:=Nat.pow_le_pow_right (by omega) C.n10;have d:(3:Nat)^10=59049:=by decide
 have e:=S.jZ.pN;have f:=S.vV;have g:=C.jv;have i:=S.jZ.rg.jt;have j:=C.n10;have k:=S.jZ.lb.len;have l:=S.jZ.gP.aL.len;have m:=C.x8;have o:=C.GB;have p:=S.uV;have q:=C.uV;refine⟨by omega,by omega,by omega,by omega,by omega,by omega,by omega⟩
theorem mm.GD(S:mm F ai n fL s aB h)(d:0<s.c.st.length):0<s.c.ay.length:=by
 rcases Nat.eq_zero_or_pos ai.length with f|f
 ·have h1:=S.lb.str 0 d (by omega);split at h1
  ·have b:=S.gP.aL.ov (0+1) (by assumption);omega
  ·omega
 ·have h1:=S.vL.ind 0 d f;have b:=sr h1;exact List.length_pos_iff.2 (λ e=>by rw[e] at b;cases b)
theorem mI.Ds(S:mI aT gU base w0 G F ai n fL jv aI bf bu K W hs cb s aB h):vT s:=
 ⟨S.jZ.qD,λ k d b=>(S.jZ.gP.wt.qN k d b).1,S.jZ.rg.kX⟩
theorem mI.GF(S:mI aT gU base w0 G F ai n fL jv aI bf bu K W hs cb s aB h)(C:sg aT gU w0 F ai n fL jv aI gG bC gJ bu):aS W gG bC gJ ai:=C.Me.iR S.iR C.GC
structure si(aT gU:Nat->Prop)(base:Nat)(w0:World)(G:Nat)(F:List (List Int))(ai:List Int)(n fL:Nat)(aI:an)(bf bu:Nat)(K:Nat->Prop)(W:World)(hs:Nat->ax)(cb:Nat->Nat)(s:an)(aB h:Nat)(kind:Int)(bk:Option Addr)(bA aV:Nat)(bF:Option Addr)(bE bl:Nat):Prop where
 rz:∀b,gU b->K b
 gH:aX K base W G hs cb s
 iR:aC gU w0 W
 jZ:mm F ai n fL s aB h
 sF:K bf
 tK:¬gU bf
 w5:oM (λ b=>gU b/\¬aT b) W s
 w6:∀p∈s.aA,qm (λ b=>(K b/\b≠bf)/\¬aT b) W n p
 w8:aI.aA<+:s.aA
 uV:s.aA.length=aI.aA.length+aB
 nt:aB<=bu
 w9:nx (λ b=>(K b/\b≠bf)/\¬aT b) W F ai n bu aB kind bk bA aV bF bE bl
theorem kE.iR{K:Nat->Prop}{w w':World}{A:Option Addr}{n c:Nat}{ah:List Bool}(h:kE w A n c ah)(f:aC K w w')(hk:∀b,A.map (·.block)=some b->K b):kE w' A n c ah:=
 ⟨h.len,h.cap,h.mG,h.od,λ d=>by
  obtain⟨b,off,e,h1,g⟩:=h.cells d;refine⟨b,off,e,Nat.lt_of_lt_of_le h1 f.size,λ j i=>?_⟩;rw[f.cell (p:=⟨b,off+j,none⟩) (hk b (by rw[e];rfl))];exact g j i⟩
theorem nx.iR{K:Nat->Prop}{kind:Int}{bk:Option Addr}{bA aV:Nat}{bF:Option Addr}{bE bl:Nat}(a:nx K W F ai n bu aB kind bk bA aV bF bE bl)(f:aC K W W'):nx K W' F ai n bu aB kind bk bA aV bF bE bl:=by
 rcases a with⟨h1,d,m,g,c,i⟩|⟨h1,d,co,g,c,i⟩|h1
 ·exact .inl ⟨h1,d,m,g.iR f c,c,i⟩
 ·exact .inr (.inl ⟨h1,d,co,g.iR f (λ b e _=>c b e),c,i⟩)
 ·exact .inr (.inr h1)
theorem nx.mono{K k3:Nat->Prop}{kind:Int}{bk:Option Addr}{bA aV:Nat}{bF:Option Addr}{bE bl:Nat}(a:nx K W F ai n bu aB kind bk bA aV bF bE bl)(hk:∀b,K b->k3 b):nx k3 W F ai n bu aB kind bk bA aV bF bE bl:=by
 rcases a with⟨h1,c,m,d,f,g⟩|⟨h1,c,co,d,f,g⟩|h1
 ·exact .inl ⟨h1,c,m,d,λ b e=>hk b (f b e),g⟩
 ·exact .inr (.inl ⟨h1,c,co,d,λ b e=>hk b (f b e),g⟩)
 ·exact .inr (.inr h1)
theorem si.move{kind:Int}{bk:Option Addr}{bA aV:Nat}{bF:Option Addr}{bE bl:Nat}(S:si aT gU base w0 G F ai n fL aI bf bu K W hs cb s aB h kind bk bA aV bF bE bl)(d:aX K base W' G hs cb s)(f:aC (λ b=>K b/\b≠bf) W W'):
  si aT gU base w0 G F ai n fL aI bf bu K W' hs cb s aB h kind bk bA aV bF bE bl:=
 have f0:aC gU W W':=f.mono λ b c=>⟨S.rz b c,λ e=>S.tK (e▸c)⟩
 ⟨S.rz,d,S.iR.trans f0,S.jZ,S.sF,S.tK,S.w5.kept (f0.mono λ b c=>c.1) rfl rfl,λ p hp=>(S.w6 p hp).iR (f.mono λ b c=>c.1),S.w8,S.uV,S.nt,S.w9.iR (f.mono λ b c=>c.1)⟩
theorem si.set{kind:Int}{bk:Option Addr}{bA aV:Nat}{bF:Option Addr}{bE bl:Nat}(S:si aT gU base w0 G F ai n fL aI bf bu K W hs cb s aB h kind bk bA aV bF bE bl)(k:Nat)(v:Value):si aT gU base w0 G F ai n fL aI bf bu K (W.setCell ⟨bf,k,none⟩ v) hs cb s aB h kind bk bA aV bF bE bl:=
 S.move (S.gH.uU S.sF k v) (aC.set bf k v (λ b=>b.2 rfl))
theorem si.done{kind:Int}{bk:Option Addr}{bA aV:Nat}{bF:Option Addr}{bE bl:Nat}(S:si aT gU base w0 G F ai n fL aI bf bu K W hs cb s aB h kind bk bA aV bF bE bl):DF aT gU base w0 G F ai n fL aI bu (.returned (.agg #[.int .i64 kind,.slice bk bA aV,.slice bF bE bl,.int .i64 (aB:Int)])) W:=
 ⟨K,hs,cb,s,aB,h,kind,bk,bA,aV,bF,bE,bl,rfl,S.rz,S.gH,S.iR,S.jZ,S.w5,λ p hp=>(S.w6 p hp).mono λ b c=>⟨c.1.1,c.2⟩,S.w8,S.uV,S.nt,S.w9.mono λ b c=>⟨c.1.1,c.2⟩⟩
theorem mI.ends(S:mI aT gU base w0 G F ai n fL jv aI bf bu K W hs cb s aB h){kind:Int}{bk:Option Addr}{bA aV:Nat}{bF:Option Addr}{bE bl:Nat}(a:nx (λ b=>(K b/\b≠bf)/\¬aT b) W F ai n bu aB kind bk bA aV bF bE bl):si aT gU base w0 G F ai n fL aI bf bu K W hs cb s aB h kind bk bA aV bF bE bl:=
 ⟨S.rz,S.gH,S.iR,S.jZ,S.sF,S.tK,S.w5,S.w6,S.w8,S.uV,S.nt,a⟩
theorem mI.BR(S:mI aT gU base w0 G F ai n fL jv aI bf bu K W hs cb s aB h){kind:Int}(a:nx (λ b=>(K b/\b≠bf)/\¬aT b) W F ai n bu aB kind none 0 0 none 0 0):
  si aT gU base w0 G F ai n fL aI bf bu K (((((W.setCell ⟨bf,0,none⟩ (.int .i64 kind)).setCell ⟨bf,0,none⟩ (.int .i64 kind)).setCell ⟨bf,1,none⟩ (.slice none 0 0)).setCell ⟨bf,2,none⟩ (.slice none 0 0)).setCell ⟨bf,3,none⟩ (.int .i64 (aB:Int))) hs cb s aB h kind none 0 0 none 0 0/\
  aN (((((W.setCell ⟨bf,0,none⟩ (.int .i64 kind)).setCell ⟨bf,0,none⟩ (.int .i64 kind)).setCell ⟨bf,1,none⟩ (.slice none 0 0)).setCell ⟨bf,2,none⟩ (.slice none 0 0)).setCell ⟨bf,3,none⟩ (.int .i64 (aB:Int))) bf 30 [.int .i64 kind,mY,mY,.int .i64 (aB:Int)]:=
 ⟨((((((S.ends a).set 0 _).set 0 _).set 1 _).set 2 _).set 3 _),((((S.jS.set 0 _).set 0 _).set 1 _).set 2 _).set 3 _⟩
theorem nx.no(hu:Unsat F):nx K W F ai n bu aB 2 none 0 0 none 0 0:=
 .inr (.inl ⟨rfl,rfl,[],aS.nil _ _ _ (by unfold maxLen;omega),λ b e=>(by cases e),List.nil_sublist _,λ M c _=>hu M c⟩)
theorem nx.o:nx K W F ai n aB aB 3 none 0 0 none 0 0:=.inr (.inr ⟨rfl,rfl,rfl,rfl⟩)
end
end
section
open Go.RowKit Go.Shelf
noncomputable def BS:Code:=(Tryz.f99.body.bind λ c=>qj c 1).getD .skip
noncomputable def GG:Code:=Dr BS
noncomputable def Mf:Code:=mU (mU (By (mU (mU GG))))
theorem Mg{w1:World}{d:Nat}
  (C:sg aT gU w0 F ai n fL jv aI gG bC gJ bu) (S:mI aT gU base w0 G F ai n fL jv aI bf bu K w1 hs cb s aB h) (ab:aB<bu) (ag:d<s.c.cl.length) (ad:∀x∈az s.c.cl d,-x∈s.c.ay) (ae:0<s.c.st.length) (a': -70000<=left/\left<=4398046511104)
  (af:∀(K:Nat->Prop)(hs:Nat->ax)(cb:Nat->Nat)(s':an)(c5 jy iW ba gE gl iw gI gQ u16 gm gn gp gD gq gr gu gv gw gx gy gz fN fO fP u32 fQ fR fS fT fU fV fW fZ ga gb gd gA gB ig gX gY bM bN bO bP bQ bR bS bT bU bV bW bX bY bZ b5 u64 b6 b7 b8 b9 cc cg ck cm cn cp cr ct cu cv cw cz cA cB cC cD cE c7 c8 c9 dc de dh di dm cG cH cI cK cL cM cN cO cQ cR cS cT cU cV cW cZ c4 dn dr dw dx dy dz dA dB dD dF dG dH dI dJ dK dL dM dN dO dP dQ dR dS dU dV dW dX dY dZ ec fF fG fH ee ef ei ej ek en eo ep er eu ew ey fI fJ fK ez eA eB eC eD eE eF eG eH eL eM eN eO eP eR eS eT eU eV eW eX eY eZ e3 e4 e5 e6 e7 e8 e9 fc fe ff fh fk fm gh gi fo fq fu fA fB fC fD iB iC iD iE iF iG iH iI iJ iK iL iM jc jd je jf jg jh ji jj jM jN jO jP jQ jR:Value)(W':World),mI aT gU base w0 G F ai n fL jv aI bf bu K W' hs cb s' (aB+1) s'.c.ag->Q (.exit 1) {tmps:= #[.pointer (some ⟨G,0,none⟩),.slice gG bC gJ,.int .i64 (bu:Int),c5,jy,iW,.pointer (some ⟨bf,0,none⟩),.int .i64 (iT:Int),.int .i64 (left-1),.int .i64 2000,ba,gE,gl,iw,gI,gQ,u16,gm,gn,gp,gD,gq,gr,gu,gv,gw,gx,gy,gz,fN,fO,fP,u32,fQ,fR,fS,fT,fU,fV,fW,fZ,ga,gb,gd,gA,gB,ig,gX,gY,bM,bN,bO,bP,bQ,bR,bS,bT,bU,bV,bW,bX,bY,bZ,b5,u64,b6,b7,b8,b9,cc,cg,ck,cm,cn,cp,cr,ct,cu,cv,cw,cz,cA,cB,cC,cD,cE,c7,c8,c9,dc,de,dh,di,dm,cG,cH,cI,cK,cL,cM,cN,cO,cQ,cR,cS,cT,cU,cV,cW,cZ,c4,dn,dr,dw,dx,dy,dz,dA,dB,dD,dF,dG,dH,dI,dJ,dK,dL,dM,dN,dO,dP,dQ,dR,dS,dU,dV,dW,dX,dY,dZ,ec,fF,fG,fH,ee,ef,ei,ej,ek,en,eo,ep,er,eu,ew,ey,fI,fJ,fK,ez,eA,eB,eC,eD,eE,eF,eG,eH,eL,eM,eN,eO,eP,eR,eS,eT,eU,eV,eW,eX,eY,eZ,e3,e4,e5,e6,e7,e8,e9,fc,fe,ff,fh,fk,fm,gh,gi,fo,fq,fu,fA,fB,fC,fD,iB,iC,iD,iE,iF,iG,iH,iI,iJ,iK,iL,iM,jc,jd,je,jf,jg,jh,ji,jj,jM,jN,jO,jP,jQ,jR],defers:=[]} W'):
  Code.wp x_ Mf Q {tmps:= #[.pointer (some ⟨G,0,none⟩),.slice gG bC gJ,.int .i64 (bu:Int),c5,jy,iW,.pointer (some ⟨bf,0,none⟩),.int .i64 (iT:Int),.int .i64 left,.int .i64 2000,.pointer (some ⟨cb d,0,none⟩),gE,gl,iw,gI,gQ,u16,gm,gn,gp,gD,gq,gr,gu,gv,gw,gx,gy,gz,fN,fO,fP,u32,fQ,fR,fS,fT,fU,fV,fW,fZ,ga,gb,gd,gA,gB,ig,gX,gY,bM,bN,bO,bP,bQ,bR,bS,bT,bU,bV,bW,bX,bY,bZ,b5,u64,b6,b7,b8,b9,cc,cg,ck,cm,cn,cp,cr,ct,cu,cv,cw,cz,cA,cB,cC,cD,cE,c7,c8,c9,dc,de,dh,di,dm,cG,cH,cI,cK,cL,cM,cN,cO,cQ,cR,cS,cT,cU,cV,cW,cZ,c4,dn,dr,dw,dx,dy,dz,dA,dB,dD,dF,dG,dH,dI,dJ,dK,dL,dM,dN,dO,dP,dQ,dR,dS,dU,dV,dW,dX,dY,dZ,ec,fF,fG,fH,ee,ef,ei,ej,ek,en,eo,ep,er,eu,ew,ey,fI,fJ,fK,ez,eA,eB,eC,eD,eE,eF,eG,eH,eL,eM,eN,eO,eP,eR,eS,eT,eU,eV,eW,eX,eY,eZ,e3,e4,e5,e6,e7,e8,e9,fc,fe,ff,fh,fk,fm,gh,gi,fo,fq,fu,fA,fB,fC,fD,iB,iC,iD,iE,iF,iG,iH,iI,iJ,iK,iL,iM,jc,jd,je,jf,jg,jh,ji,jj,jM,jN,jO,jP,jQ,jR],defers:=[]} w1:=by
 have bb:=aa af;have w:=aa C;have f:=aa S;have y:=aa (z_ ab (z_ ag (z_ ad ae)));have i:=aa (S.mT C);have A:jw=1099511627776:=rfl;have ah:=S.jS.cell 3;have bc:=S.jS.free 3;simp only[mY,f_,e_] at ah;have ws:m_.wrap ((aB:Int)+1)=(aB:Int)+1:=by rw[p_];have:=i.o.2.1;omega
 have wl:m_.wrap (left-1)=left-1:=by rw[p_];omega
 clear af C S ab ag ad ae a'
 conv=>arg 2;whnf
 dsimp only
 go_upto_region 12 with fail
 clear ah bc ws wl;have aj:=aa (f.o.gH.uU f.o.sF 3 (.int .i64 ((aB:Int)+1)));have ak:fE (aN (w1.setCell ⟨bf,3,none⟩ (.int .i64 ((aB:Int)+1))) bf 30 [.int .i64 0,mY,mY,.int .i64 (aB+1:Nat)]):=aa (f.o.jS.set 3 _);have D:=aa (aC.DG f.o 3 (.int .i64 ((aB:Int)+1)));generalize w1.setCell ⟨bf,3,none⟩ (.int .i64 ((aB:Int)+1))=bd at aj ak D⊢;have al:fE (vk F F s n h (jw*(1+16*(aB:Int)))):=aa ⟨f.o.jZ.gP,f.o.jZ.rg.jt,w.o.n10,y.o.2.2.2,by have:=i.o;omega,by have:=i.o;omega,by have:=i.o;rw[A];omega,by have:=i.o;rw[A];omega⟩;have ao:=aa (Li aj.o al.o f.o.jZ.rg f.o.jZ.aP y.o.2.1 y.o.2.2.1);have aq:jw*(1+16*(aB:Int))+16*jw=jw*(1+16*((aB+1:Nat):Int)):=by rw[A];omega
 have ar:0<=jw*(1+16*((aB+1:Nat):Int))/\jw<=jw*(1+16*((aB+1:Nat):Int))/\jw*(1+16*((aB+1:Nat):Int))<=4611686018427387904:=by have:=i.o;rw[A];omega
 have v:=aa ar;clear ar A al;obtain⟨B,E⟩:∃B,jw*(1+16*((aB+1:Nat):Int))=B:=⟨_,rfl⟩
 rw[E] at v;have bh:=aa (aq.trans E);have bj:=aa E;clear E aq
 go_upto_region 13 with(go_at_call 146;refine ao.o.mono ?_;rintro e bH ⟨bz,cl,level,l,au,rfl,J,L,M2,k0,M,N,H,av⟩;dsimp only)
 rw[bh.o] at M;have O:level<au.c.st.length:=by rw[k0.c];exact J.mq
 have aw:jT au.c:=by rw[k0.c];exact f.o.jZ.gP.aL
 have aD:=L.qC (g:=bz) (N.lt bz rfl).2 H.1 H.2.1 H.2.2;have X:=aa (z_ J (z_ L (z_ M2 (z_ k0 (z_ N (z_ av O))))));have aE:=aa (FC aD M aw (by have:=w.o.n10;omega) level O (by rw[k0.c];have:=i.o;omega) (by rw[k0.c];exact mm.GD f.o.jZ y.o.2.2.2));clear J L M2 k0 M N H av O aw aD ao
 go_upto_region 14 with(go_at_call 147;refine aE.o.mono ?_;rintro e P ⟨rfl,bI,s1,u,R,T,I⟩;dsimp only)
 have t:s1.c=mC s.c level:=by rw[u.c,X.o.2.2.2.1.c]
 have aF:jT s1.c:=by rw[t];exact f.o.jZ.gP.aL.back X.o.1.mq
 have aG:P.ownsRow base 3 1 (.slice (some ⟨bz,0,none⟩) l.length cl) l.length (iY l):=pL X.o.2.2.2.2.1 (λ b q=>I.keep b (.inr (by injection q with q;exact q.symm)));have aH:vT s1:=by
  have U:=f.o.Ds;refine⟨by rw[t];exact U.qD.back level,λ k d ag=>?_,λ d ag=>?_⟩
  ·rw[t] at ag⊢;exact U.ww k d ag
  ·rw[t];rw[u.aO,X.o.2.2.2.1.aO] at ag;exact U.wl d ag
 have aJ:oM gU P s1:=(f.o.w5.mono λ b q=>q.1).kept ((D.o.mono λ b q=>⟨f.o.rz b q,λ e=>f.o.tK (e▸q)⟩).trans ((X.o.2.2.1.mono f.o.rz).trans (I.mono λ b q=>.inl (f.o.rz b q)))) (u.jr.trans X.o.2.2.2.1.jr) (u.aA.trans X.o.2.2.2.1.aA);have aK:l.length<=22:=by have:=X.o.1.ok.len;have:=i.o;rw[f.o.jZ.rg.jt] at this;have:=w.o.n10;have bk:=X.o.1.ok.len;rw[f.o.jZ.rg.jt] at bk;omega
 have aM:1<=l.length:=List.length_pos_iff.2 X.o.1.ok.ne;have aQ:=aa (Mc (K:=K) (T.Bc λ b q=>.inl q) aH (aJ.mono f.o.rz) aF R.nF (by rw[t];have:=i.o;show s.c.n<=_;omega) (by rw[t];exact f.o.jZ.gP.wt.qM) (λ k=>by rw[t];have h1:=f.o.jZ.gP.wt.mT k;have:=i.o;show(az s.c.wt k).length<=_;omega) (by rw[t];have:=i.o;show(s.c.st.take level).length<=_;rw[List.length_take];omega) (by rw[u.aO,X.o.2.2.2.1.aO];have:=i.o;omega) (by rw[u.aA,X.o.2.2.2.1.aA];have:=i.o;omega)
  (bz:=bz) (m:=l.length) (c:=cl) (l:=l) rfl aM (by omega) aG (λ r e=>T.s.row r bz e (.inr rfl)) X.o.2.2.2.2.2.1 (λ z V=>by rw[t];exact X.o.1.ok.lt z V) (λ z V=>by
   rw[t];obtain⟨j,bJ,e,h1⟩:=f.o.jZ.gP.aL.at (X.o.1.AZ z V);have bK:=wA s.c.st j;have:=i.o;show bg s.c z<=_;omega))
 have Y:=aa (z_ u (z_ R (z_ I (z_ t aK))));clear u R T I t aF aG aH aJ aK aM aE
 go_upto_region 15 with(go_at_call 148;refine aQ.o.mono ?_;rintro e bL ⟨rfl,bl,bn,bo,bg,p,aR,aS,aU,aV,bp,aW,aX⟩;dsimp only)
 have bq:(22:Int)<=jw:=by unfold jw;omega
 have W:0<=bg/\bg<=jw:=⟨aV,by have:=Y.o.2.2.2.2;omega⟩
 have aY:=Y.o.2.1.wZ (l:=l) v.o.2.1 bg W (s1.aA++[p]);have br:=aa (Kl aS aY (by have:=w.o.n10;omega) (by show(s1.aO++[_]).length<=_;rw[Y.o.1.aO,X.o.2.2.2.1.aO,u_,o_];have:=i.o;omega) v.o.1 v.o.2.2);have Z:=aa (z_ aR (z_ aU (z_ W (z_ aW aX))));clear aR aS aU aV bp aW aX bq W aY aQ
 go_wp2_with (go_at_call 149;refine br.o.mono ?_;rintro e bs ⟨rfl,s3,aZ,bt,bw,a6⟩;dsimp only)
 have bx:mj n jw (jw*(1+16*((aB+1:Nat):Int))) s3:=by rw[bj.o];exact bt
 obtain⟨a7,bA,bB,bD⟩:=f.o.jZ.conflict X.o.1 X.o.2.2.2.1 Y.o.1 Y.o.2.1 ⟨v.o.1,v.o.2.1⟩ bg Z.o.2.2.1 (s1.aA++[p]) aZ bx;have bE:s1.c.n=n:=by rw[Y.o.2.2.2.1];exact f.o.jZ.rg.jt
 have a8:=Z.o.2.2.2.1;rw[bE] at a8;have bF:w1.heap.size<=P.heap.size:=h_ D.o.size (h_ X.o.2.2.1.size Y.o.2.2.1.size);have bG:aC K bd bs:=X.o.2.2.1.trans ((Y.o.2.2.1.mono λ b q=>.inl q).trans (Z.o.2.1.trans (a6.mono Z.o.1)));rw[<-bA] at a7;apply bb.o bl bn bo s3;exact f.o.more w.o y.o.1 Z.o.1 bw D.o bG ak.o a7 (by rw[bB,Y.o.1.aA,X.o.2.2.2.1.aA]) bD (by rw[aZ.c];show(s1.c.cl++[l]).length=_;rw[u_,Y.o.2.2.2.1];rfl) (a8.iR a6) (λ b e=>h_ bF (Z.o.2.2.2.2 b e))
theorem Mh
  (C:sg aT gU w0 F ai n fL jv aI gG bC gJ bu) (S:mI aT gU base w0 G F ai n fL jv aI bf bu K W hs cb s aB s.c.ag) (B: -70000<=left/\left<=4398046511104)
  (D:∀(hs:Nat->ax)(s':an)(c5 jy iW gR gE gl iw gI gQ u16 gm gn gp gD gq gr gu gv gw gx gy gz fN fO fP u32 fQ fR fS fT fU fV fW fZ ga gb gd gA gB ig gX gY bM bN bO bP bQ bR bS bT bU bV bW bX bY bZ b5 u64 b6 b7 b8 b9 cc cg ck cm cn cp cr ct cu cv cw cz cA cB cC cD cE c7 c8 c9 dc de dh di dm cG cH cI cK cL cM cN cO cQ cR cS cT cU cV cW cZ c4 dn dr dw dx dy dz dA dB dD dF dG dH dI dJ dK dL dM dN dO dP dQ dR dS dU dV dW dX dY dZ ec fF fG fH ee ef ei ej ek en eo ep er eu ew ey fI fJ fK ez eA eB eC eD eE eF eG eH eL eM eN eO eP eR eS eT eU eV eW eX eY eZ e3 e4 e5 e6 e7 e8 e9 fc fe ff fh fk fm gh gi fo fq fu fA fB fC fD iB iC iD iE iF iG iH iI iJ iK iL iM jc jd je jf jg jh ji jj jM jN jO jP jQ jR:Value)(W':World),mI aT gU base w0 G F ai n fL jv aI bf bu K W' hs cb s' aB s'.c.ag->s'.c.ag=s'.c.ay.length->s'.c.kS=false->s'.aO.length=s.aO.length->s.c.ay.length<=s'.c.ay.length->Q .normal {tmps:= #[.pointer (some ⟨G,0,none⟩),.slice gG bC gJ,.int .i64 (bu:Int),c5,jy,iW,.pointer (some ⟨bf,0,none⟩),.int .i64 (iT:Int),.int .i64 left,.int .i64 2000,gR,gE,gl,iw,gI,gQ,u16,gm,gn,gp,gD,gq,gr,gu,gv,gw,gx,gy,gz,fN,fO,fP,u32,fQ,fR,fS,fT,fU,fV,fW,fZ,ga,gb,gd,gA,gB,ig,gX,gY,bM,bN,bO,bP,bQ,bR,bS,bT,bU,bV,bW,bX,bY,bZ,b5,u64,b6,b7,b8,b9,cc,cg,ck,cm,cn,cp,cr,ct,cu,cv,cw,cz,cA,cB,cC,cD,cE,c7,c8,c9,dc,de,dh,di,dm,cG,cH,cI,cK,cL,cM,cN,cO,cQ,cR,cS,cT,cU,cV,cW,cZ,c4,dn,dr,dw,dx,dy,dz,dA,dB,dD,dF,dG,dH,dI,dJ,dK,dL,dM,dN,dO,dP,dQ,dR,dS,dU,dV,dW,dX,dY,dZ,ec,fF,fG,fH,ee,ef,ei,ej,ek,en,eo,ep,er,eu,ew,ey,fI,fJ,fK,ez,eA,eB,eC,eD,eE,eF,eG,eH,eL,eM,eN,eO,eP,eR,eS,eT,eU,eV,eW,eX,eY,eZ,e3,e4,e5,e6,e7,e8,e9,fc,fe,ff,fh,fk,fm,gh,gi,fo,fq,fu,fA,fB,fC,fD,iB,iC,iD,iE,iF,iG,iH,iI,iJ,iK,iL,iM,jc,jd,je,jf,jg,jh,ji,jj,jM,jN,jO,jP,jQ,jR],defers:=[]} W')
  (E:∀(K:Nat->Prop)(hs:Nat->ax)(cb:Nat->Nat)(s':an)(c5 jy iW gR gE gl iw gI gQ u16 gm gn gp gD gq gr gu gv gw gx gy gz fN fO fP u32 fQ fR fS fT fU fV fW fZ ga gb gd gA gB ig gX gY bM bN bO bP bQ bR bS bT bU bV bW bX bY bZ b5 u64 b6 b7 b8 b9 cc cg ck cm cn cp cr ct cu cv cw cz cA cB cC cD cE c7 c8 c9 dc de dh di dm cG cH cI cK cL cM cN cO cQ cR cS cT cU cV cW cZ c4 dn dr dw dx dy dz dA dB dD dF dG dH dI dJ dK dL dM dN dO dP dQ dR dS dU dV dW dX dY dZ ec fF fG fH ee ef ei ej ek en eo ep er eu ew ey fI fJ fK ez eA eB eC eD eE eF eG eH eL eM eN eO eP eR eS eT eU eV eW eX eY eZ e3 e4 e5 e6 e7 e8 e9 fc fe ff fh fk fm gh gi fo fq fu fA fB fC fD iB iC iD iE iF iG iH iI iJ iK iL iM jc jd je jf jg jh ji jj jM jN jO jP jQ jR:Value)(W':World),mI aT gU base w0 G F ai n fL jv aI bf bu K W' hs cb s' (aB+1) s'.c.ag->Q (.exit 1) {tmps:= #[.pointer (some ⟨G,0,none⟩),.slice gG bC gJ,.int .i64 (bu:Int),c5,jy,iW,.pointer (some ⟨bf,0,none⟩),.int .i64 (iT:Int),.int .i64 (left-1),.int .i64 2000,gR,gE,gl,iw,gI,gQ,u16,gm,gn,gp,gD,gq,gr,gu,gv,gw,gx,gy,gz,fN,fO,fP,u32,fQ,fR,fS,fT,fU,fV,fW,fZ,ga,gb,gd,gA,gB,ig,gX,gY,bM,bN,bO,bP,bQ,bR,bS,bT,bU,bV,bW,bX,bY,bZ,b5,u64,b6,b7,b8,b9,cc,cg,ck,cm,cn,cp,cr,ct,cu,cv,cw,cz,cA,cB,cC,cD,cE,c7,c8,c9,dc,de,dh,di,dm,cG,cH,cI,cK,cL,cM,cN,cO,cQ,cR,cS,cT,cU,cV,cW,cZ,c4,dn,dr,dw,dx,dy,dz,dA,dB,dD,dF,dG,dH,dI,dJ,dK,dL,dM,dN,dO,dP,dQ,dR,dS,dU,dV,dW,dX,dY,dZ,ec,fF,fG,fH,ee,ef,ei,ej,ek,en,eo,ep,er,eu,ew,ey,fI,fJ,fK,ez,eA,eB,eC,eD,eE,eF,eG,eH,eL,eM,eN,eO,eP,eR,eS,eT,eU,eV,eW,eX,eY,eZ,e3,e4,e5,e6,e7,e8,e9,fc,fe,ff,fh,fk,fm,gh,gi,fo,fq,fu,fA,fB,fC,fD,iB,iC,iD,iE,iF,iG,iH,iI,iJ,iK,iL,iM,jc,jd,je,jf,jg,jh,ji,jj,jM,jN,jO,jP,jQ,jR],defers:=[]} W')
  (H:∀(K:Nat->Prop)(hs:Nat->ax)(cb:Nat->Nat)(s':an)(h':Nat)(kind:Int)(c5 jy iW gR gE gl iw gI gQ u16 gm gn gp gD gq gr gu gv gw gx gy gz fN fO fP u32 fQ fR fS fT fU fV fW fZ ga gb gd gA gB ig gX gY bM bN bO bP bQ bR bS bT bU bV bW bX bY bZ b5 u64 b6 b7 b8 b9 cc cg ck cm cn cp cr ct cu cv cw cz cA cB cC cD cE c7 c8 c9 dc de dh di dm cG cH cI cK cL cM cN cO cQ cR cS cT cU cV cW cZ c4 dn dr dw dx dy dz dA dB dD dF dG dH dI dJ dK dL dM dN dO dP dQ dR dS dU dV dW dX dY dZ ec fF fG fH ee ef ei ej ek en eo ep er eu ew ey fI fJ fK ez eA eB eC eD eE eF eG eH eL eM eN eO eP eR eS eT eU eV eW eX eY eZ e3 e4 e5 e6 e7 e8 e9 fc fe ff fh fk fm gh gi fo fq fu fA fB fC fD iB iC iD iE iF iG iH iI iJ iK iL iM jc jd je jf jg jh ji jj jM jN jO jP jQ jR:Value)(W':World),si aT gU base w0 G F ai n fL aI bf bu K W' hs cb s' aB h' kind none 0 0 none 0 0->aN W' bf 30 [.int .i64 kind,mY,mY,.int .i64 (aB:Int)]->Q .ret {tmps:= #[.pointer (some ⟨G,0,none⟩),.slice gG bC gJ,.int .i64 (bu:Int),c5,jy,iW,.pointer (some ⟨bf,0,none⟩),.int .i64 (iT:Int),.int .i64 left,.int .i64 2000,gR,gE,gl,iw,gI,gQ,u16,gm,gn,gp,gD,gq,gr,gu,gv,gw,gx,gy,gz,fN,fO,fP,u32,fQ,fR,fS,fT,fU,fV,fW,fZ,ga,gb,gd,gA,gB,ig,gX,gY,bM,bN,bO,bP,bQ,bR,bS,bT,bU,bV,bW,bX,bY,bZ,b5,u64,b6,b7,b8,b9,cc,cg,ck,cm,cn,cp,cr,ct,cu,cv,cw,cz,cA,cB,cC,cD,cE,c7,c8,c9,dc,de,dh,di,dm,cG,cH,cI,cK,cL,cM,cN,cO,cQ,cR,cS,cT,cU,cV,cW,cZ,c4,dn,dr,dw,dx,dy,dz,dA,dB,dD,dF,dG,dH,dI,dJ,dK,dL,dM,dN,dO,dP,dQ,dR,dS,dU,dV,dW,dX,dY,dZ,ec,fF,fG,fH,ee,ef,ei,ej,ek,en,eo,ep,er,eu,ew,ey,fI,fJ,fK,ez,eA,eB,eC,eD,eE,eF,eG,eH,eL,eM,eN,eO,eP,eR,eS,eT,eU,eV,eW,eX,eY,eZ,e3,e4,e5,e6,e7,e8,e9,fc,fe,ff,fh,fk,fm,gh,gi,fo,fq,fu,fA,fB,fC,fD,iB,iC,iD,iE,iF,iG,iH,iI,iJ,iK,iL,iM,jc,jd,je,jf,jg,jh,ji,jj,jM,jN,jO,jP,jQ,jR],defers:=[]} W'):
  Code.wp x_ GG Q {tmps:= #[.pointer (some ⟨G,0,none⟩),.slice gG bC gJ,.int .i64 (bu:Int),c5,jy,iW,.pointer (some ⟨bf,0,none⟩),.int .i64 (iT:Int),.int .i64 left,.int .i64 2000,gR,gE,gl,iw,gI,gQ,u16,gm,gn,gp,gD,gq,gr,gu,gv,gw,gx,gy,gz,fN,fO,fP,u32,fQ,fR,fS,fT,fU,fV,fW,fZ,ga,gb,gd,gA,gB,ig,gX,gY,bM,bN,bO,bP,bQ,bR,bS,bT,bU,bV,bW,bX,bY,bZ,b5,u64,b6,b7,b8,b9,cc,cg,ck,cm,cn,cp,cr,ct,cu,cv,cw,cz,cA,cB,cC,cD,cE,c7,c8,c9,dc,de,dh,di,dm,cG,cH,cI,cK,cL,cM,cN,cO,cQ,cR,cS,cT,cU,cV,cW,cZ,c4,dn,dr,dw,dx,dy,dz,dA,dB,dD,dF,dG,dH,dI,dJ,dK,dL,dM,dN,dO,dP,dQ,dR,dS,dU,dV,dW,dX,dY,dZ,ec,fF,fG,fH,ee,ef,ei,ej,ek,en,eo,ep,er,eu,ew,ey,fI,fJ,fK,ez,eA,eB,eC,eD,eE,eF,eG,eH,eL,eM,eN,eO,eP,eR,eS,eT,eU,eV,eW,eX,eY,eZ,e3,e4,e5,e6,e7,e8,e9,fc,fe,ff,fh,fk,fm,gh,gi,fo,fq,fu,fA,fB,fC,fD,iB,iC,iD,iE,iF,iG,iH,iI,iJ,iK,iL,iM,jc,jd,je,jf,jg,jh,ji,jj,jM,jN,jO,jP,jQ,jR],defers:=[]} W:=by
 have ab:=aa D;have ad:=aa E;have m:=aa H;have I:=aa C;have i:=aa S;have ae:=aa B;clear D E H C S B
 conv=>arg 2;whnf
 dsimp only;obtain⟨af,ah,J,L,aj,ak,al⟩:=i.o.mT I.o;have M:=aa (Lr i.o.gH i.o.jZ.gP i.o.jZ.vL L (by omega) J);clear af ah J L aj ak al
 go_upto_region 3 with(go_at_call 145;refine M.o.mono ?_;rintro e w1 ⟨p,c',hs',h',rfl,j,N,O,hp⟩;dsimp only)
 have b:mI aT gU base w0 G F ai n fL jv aI bf bu K w1 hs' cb {s with c:=c'} aB h':=i.o.move N O (i.o.jZ.run j.sm j.gP j.jI) rfl rfl j.sm.len;have b:=aa b;have ao:fE (s.c.ay.length<=c'.ay.length):=aa (by obtain⟨e,he⟩:=j.sm.ay;rw[he,u_];omega);have z:=aa hp;clear j N O hp M;have P:w1.cell? ⟨G,15,none⟩=some (.bool c'.kS):=b.o.gH.e.ku (k:=15) rfl;obtain⟨aq,jX,ar,q⟩:∃A n c,hs' 5=⟨A,n,c⟩:=⟨_,_,_,rfl⟩
 have aH:w1.cell? ⟨G,6,none⟩=some (.slice aq jX ar):=by have:=b.o.gH.e.ku (k:=6) (v:=(hs' 5).v) rfl;rw[q] at this;exact this
 have r:jX=c'.st.length:=by have:=b.o.gH.e.jX;rw[q] at this;exact this
 have R:=aa (z_ q r);clear q r;have T:=b.o.jS.cell 0;have U:=b.o.jS.cell 1;have V:=b.o.jS.cell 2;have au:=b.o.jS.cell 3;have l:=b.o.jS.free;have av:=l 0;have aw:=l 1;have az:=l 2;have aA:=l 3;simp only[mY,f_,e_] at T U V au
 cases t:c'.kS with
 |true=>
  rw[t] at P;have u:fE (Unsat F):=aa (b.o.jZ.gP.jF.tB t)
  cases p with
  |none=>
   have g:qQ cb none=.pointer none:=rfl;rw[g]
   go_wp2_with fail
   have f:=b.o.BR (kind:=2) (nx.no u.o);apply m.o
   ·exact f.1
   ·exact f.2
  |some d=>
   have g:qQ cb (some d)=.pointer (some ⟨cb d,0,none⟩):=rfl;rw[g]
   go_wp2_with fail
   have f:=b.o.BR (kind:=2) (nx.no u.o);apply m.o
   ·exact f.1
   ·exact f.2
 |false=>
  rw[t] at P
  cases p with
  |none=>
   have g:qQ cb none=.pointer none:=rfl;rw[g];have hp:=z.o;dsimp only at hp
   go_wp2_with fail
   have X:=b.o;rw[<-hp.2] at X;apply ab.o hs' {s with c:=c'}
   ·exact X
   ·exact hp.2.trans hp.1
   ·exact t
   ·rfl
   ·exact ao.o
  |some d=>
   have g:qQ cb (some d)=.pointer (some ⟨cb d,0,none⟩):=rfl;rw[g];have hp:=z.o;dsimp only at hp;have w:=aa hp;clear hp z
   by_cases y:c'.st.length=0
   ·have u:fE (Unsat F):=aa (Ju b.o.jZ.gP.aL b.o.jZ.gP.jF y w.o.1 w.o.2);obtain rfl:jX=0:=by rw[R.o.2];exact y
    go_wp2_with fail
    have f:=b.o.BR (kind:=2) (nx.no u.o);apply m.o
    ·exact f.1
    ·exact f.2
   ·have Y:0<c'.st.length:=Nat.pos_of_ne_zero y;have r:¬(jX:Int)=0:=by rw[R.o.2];omega
    have aJ:decide ((jX:Int)=0)=false:=decide_eq_false r;have aC:=aa Y;clear Y y
    by_cases aD:aB=bu
    ·subst aD
     go_wp2_with fail
     have f:=b.o.BR (kind:=3) nx.o;apply m.o
     ·exact f.1
     ·exact f.2
    ·have aE:¬(aB:Int)=(bu:Int):=by omega
     have aK:decide ((aB:Int)=(bu:Int))=false:=decide_eq_false aE;have aF:fE (aB<bu):=aa (by have:=b.o.nt;omega);clear T U V av aw az l aA
     go_upto_region 7 with fail
     rename_i aM Z aP aQ;have aG:=aa Z;clear Z
     go_wp2_with fail
     apply aG.o;refine Mg I.o b.o aF.o w.o.1 w.o.2 aC.o ae.o ?_;exact ad.o
end
section
open Go.RowKit
def p7(i:Nat):Nat:=2^Nat.log2 i
theorem DH(h:1<=i):p7 i<=i:=Nat.log2_self_le (by omega)
theorem Mi(i:Nat):i<2*p7 i:=by
 have:i<2^(Nat.log2 i+1):=Nat.lt_log2_self;rw[g_] at this;unfold p7;omega
theorem DI(i:Nat):1<=p7 i:=i_
theorem Mj{m:Nat}(h1:2^m<=i)(c:i<2*2^m):p7 i=2^m:=by
 have b:i≠0:=by have:1<=2^m:=i_;omega
 unfold p7;rw[(Nat.log2_eq_iff b).2 ⟨h1,by rw[g_];omega⟩]
def uv:Nat->Nat->Nat
 |0,_=>0
 |f+1,i=>if i+1=2*p7 i then p7 i else uv f (i-p7 i+1)
theorem BU(h:1<=i)(c:i+1≠2*p7 i):1<=i-p7 i+1/\i-p7 i+1<i:=by
 have d:=DH h;have e:=Mi i;have f:=DI i;constructor
 ·omega
 ·rcases Nat.lt_or_ge 1 (p7 i) with b|b
  ·omega
  ·have:p7 i=1:=by omega
   omega
theorem GH:∀(f b i:Nat),1<=i->i<=f->i<=b->uv f i=uv b i
 |0,_,i,h1,h,_=>absurd h (by omega)
 |_+1,0,i,h1,_,h=>absurd h (by omega)
 |f+1,b+1,i,h1,h,h'=>by
  by_cases e:i+1=2*p7 i
  ·simp[uv,e]
  ·have:=BU h1 e;simp only[uv,if_neg e];exact GH f b _ this.1 (by omega) (by omega)
def vp(i:Nat):Nat:=uv i i
theorem Mk(h:1<=i)(e:i+1=2*p7 i):vp i=p7 i:=by
 obtain⟨j,rfl⟩:∃j,i=j+1:=⟨i-1,by omega⟩
 simp[vp,uv,e]
theorem Ml(h:1<=i)(e:i+1≠2*p7 i):vp i=vp (i-p7 i+1):=by
 obtain⟨j,rfl⟩:∃j,i=j+1:=⟨i-1,by omega⟩
 have:=BU h e;show uv (j+1) (j+1)=_;simp only[uv,if_neg e];exact GH _ _ _ this.1 (by omega) (by omega)
theorem Mm{q k:Nat}(b:∃m,q=2^m)(h1:k<q)(c:q<=2*k):q=2*p7 k:=by
 obtain⟨m,rfl⟩:=b
 cases m with
 |zero=>simp at h1;omega
 |succ m=>rw[g_] at*;rw[Mj (m:=m) (by omega) (by omega)];omega
theorem Mn(i:Nat)(w:World)(h1:1<=i)(t:i<=1099511627776):
  Calls x_ 150 #[.int .i64 i] w λ e w'=>e=.returned (.int .i64 (vp i))/\w=w':=by
 generalize j:vp i=L;have u:=aa j;clear j;have B:decide ((i:Int)<1)=false:=by simp;omega
 have C:decide (1099511627776<(i:Int))=false:=by simp;omega
 go_enter Tryz.func150,Tryz.ntmps150
 go_wp2
 go_loop [0,2,3] (λ i _ _=>∃k:Nat,1<=k/\k<=1099511627776/\i=.int .i64 k/\vp k=L) (λ i _ _=>(intOf i).toNat)
 case atStart=>exact⟨i,h1,t,rfl,u.o⟩
 case round=>
  obtain⟨k,c,D,rfl,l⟩:=hrel;have n:=aa l;clear l;go_wp2
  go_loop [3] (λ p=>∃q:Nat,p=.int .i64 q/\q<=2*k/\∃m,q=2^m) (λ p=>2*k-(intOf p).toNat)
  case atStart=>exact⟨1,rfl,by omega,0,rfl⟩
  case round=>
   obtain⟨q,rfl,v,r⟩:=hrel;have g:=aa r;clear r
   by_cases E:q<=k
   ·have F:1<=q:=by obtain⟨m,hm⟩:=g.o;rw[hm];exact i_
    go_wp2
    go_round
    case rel=>exact⟨q*2,by go_num,by omega,by obtain⟨m,hm⟩:=g.o;exact⟨m+1,by rw[hm,g_]⟩⟩
    case measure=>simp[intOf];omega
   ·have d:=Mm g.o (by omega) v;have G:=DI k;have b:=aa d;clear d
    by_cases f:k+1=q
    ·have s:(k:Int)=(q:Int)-1:=by omega
     have y:((k:Int)==(q:Int)-1)=true:=by simpa using s
     have z:=aa f;clear f s;go_wp2;go_ret;refine⟨qv ?_,rfl⟩;rw[<-n.o,Mk c (by rw[z.o];exact b.o),b.o];omega
    ·have y:((k:Int)==(q:Int)-1)=false:=beq_eq_false_iff_ne.2 (by omega);have H:=BU c (by rw[<-b.o];exact f);have I:=DH c;have A:=aa (Ml c (by rw[<-b.o];exact f));go_wp2;have d:=b.o
     go_round
     case rel=>exact⟨k-p7 k+1,by omega,by omega,by rw[d];exact congrArg (Value.int .i64) (by omega),by rw[<-A.o];exact n.o⟩
     case measure=>simp[intOf];omega
theorem Mo:∀(f i:Nat),1<=i->i<=f->1<=uv f i/\uv f i<=i:=by
 intro f
 induction f with
 |zero=>intro i h1 b;omega
 |succ f c=>
  intro i h1 b;unfold uv;split
  ·exact⟨DI i,DH h1⟩
  ·rename_i d;have e:=BU h1 d;have g:=c (i-p7 i+1) e.1 (by omega);exact⟨g.1,by omega⟩
theorem Mp(h:1<=i):1<=vp i/\vp i<=i:=Mo i i h (l_ _)
end
section
open Go.RowKit Go.Shelf
theorem Mq(h:aX K base w G hs cb s)(d:s.c.st.length=0):
  Calls x_ 147 #[.pointer (some ⟨G,0,none⟩),.int .i64 0] w λ e w'=>e=.returned (.tuple #[])/\w=w':=by
 obtain⟨f,jX,g,b⟩:∃A n c,hs 5=⟨A,n,c⟩:=⟨_,_,_,rfl⟩
 have j:w.cell? ⟨G,6,none⟩=some (.slice f jX g):=by have:=h.e.ku (k:=6) (v:=(hs 5).v) rfl;rw[b] at this;exact this
 have i:jX=0:=by have:=h.e.jX;rw[b] at this;rw[<-d];exact this
 subst i;clear h d b;go_enter Tryz.func147,Tryz.ntmps147
 go_wp2_with fail
 refine bodyPost_ret (results_none rfl _ _ _) rfl ?_;exact⟨rfl,rfl⟩
def Mr(K:Nat->Prop)(base:Nat)(w:World)(G:Nat)(cb:Nat->Nat)(F:List (List Int))(b:List Int)(n d f h:Nat)(s:an)(e:Ending)(w':World):Prop:=
 e=.returned (.tuple #[])/\∃(hs':Nat->ax)(s':an)(h':Nat),aX K base w' G hs' cb s'/\aC K w w'/\mm F b n d s' f h'/\s'.c.st=[]/\s'.aA=s.aA/\s'.jr=s.jr/\s'.aO=s.aO/\s'.c.cl=s.c.cl/\(s.c.ag=h->s'.c.ag=h')
theorem GI(E:aX K base w G hs cb s)(S:mm F ai n fL s aB h)(d:n<=60000)(f:s.c.st.length<=1000000):
  Calls x_ 147 #[.pointer (some ⟨G,0,none⟩),.int .i64 0] w (Mr K base w G cb F ai n fL aB h s):=by
 rcases Nat.eq_zero_or_pos s.c.st.length with b|b
 ·refine(Mq E b).mono ?_;rintro e w' ⟨rfl,rfl⟩;exact⟨rfl,hs,s,h,E,aC.refl,S,List.eq_nil_of_length_eq_zero b,rfl,rfl,rfl,rfl,id⟩
 ·refine(FC E S.rg S.gP.aL d 0 b f (mm.GD S b)).mono ?_;rintro e w' ⟨rfl,hs',s',k,r,g,M⟩;exact⟨rfl,hs',s',gV s.c.st 0,g,M,S.back b k r,by rw[k.c];rfl,k.aA,k.jr,k.aO,by rw[k.c];rfl,λ _=>by rw[k.c];rfl⟩
noncomputable def Ms:Code:=Dr (mU BS)
theorem Mt
  (C:sg aT gU w0 F ai n fL jv aI gG bC gJ bu) (S:mI aT gU base w0 G F ai n fL jv aI bf bu K W hs cb s aB s.c.ag) (t:1<=iT/\iT<=1000000)
  (u:∀(c5 jy iW gR gE gl iw gI gQ u16 gm gn gp gD gq gr gu gv gw gx gy gz fN fO fP u32 fQ fR fS fT fU fV fW fZ ga gb gd gA gB ig gX gY bM bN bO bP bQ bR bS bT bU bV bW bX bY bZ b5 u64 b6 b7 b8 b9 cc cg ck cm cn cp cr ct cu cv cw cz cA cB cC cD cE c7 c8 c9 dc de dh di dm cG cH cI cK cL cM cN cO cQ cR cS cT cU cV cW cZ c4 dn dr dw dx dy dz dA dB dD dF dG dH dI dJ dK dL dM dN dO dP dQ dR dS dU dV dW dX dY dZ ec fF fG fH ee ef ei ej ek en eo ep er eu ew ey fI fJ fK ez eA eB eC eD eE eF eG eH eL eM eN eO eP eR eS eT eU eV eW eX eY eZ e3 e4 e5 e6 e7 e8 e9 fc fe ff fh fk fm gh gi fo fq fu fA fB fC fD iB iC iD iE iF iG iH iI iJ iK iL iM jc jd je jf jg jh ji jj jM jN jO jP jQ jR:Value),0<left->Q .normal {tmps:= #[.pointer (some ⟨G,0,none⟩),.slice gG bC gJ,.int .i64 (bu:Int),c5,jy,iW,.pointer (some ⟨bf,0,none⟩),.int .i64 (iT:Int),.int .i64 left,.int .i64 2000,gR,gE,gl,iw,gI,gQ,u16,gm,gn,gp,gD,gq,gr,gu,gv,gw,gx,gy,gz,fN,fO,fP,u32,fQ,fR,fS,fT,fU,fV,fW,fZ,ga,gb,gd,gA,gB,ig,gX,gY,bM,bN,bO,bP,bQ,bR,bS,bT,bU,bV,bW,bX,bY,bZ,b5,u64,b6,b7,b8,b9,cc,cg,ck,cm,cn,cp,cr,ct,cu,cv,cw,cz,cA,cB,cC,cD,cE,c7,c8,c9,dc,de,dh,di,dm,cG,cH,cI,cK,cL,cM,cN,cO,cQ,cR,cS,cT,cU,cV,cW,cZ,c4,dn,dr,dw,dx,dy,dz,dA,dB,dD,dF,dG,dH,dI,dJ,dK,dL,dM,dN,dO,dP,dQ,dR,dS,dU,dV,dW,dX,dY,dZ,ec,fF,fG,fH,ee,ef,ei,ej,ek,en,eo,ep,er,eu,ew,ey,fI,fJ,fK,ez,eA,eB,eC,eD,eE,eF,eG,eH,eL,eM,eN,eO,eP,eR,eS,eT,eU,eV,eW,eX,eY,eZ,e3,e4,e5,e6,e7,e8,e9,fc,fe,ff,fh,fk,fm,gh,gi,fo,fq,fu,fA,fB,fC,fD,iB,iC,iD,iE,iF,iG,iH,iI,iJ,iK,iL,iM,jc,jd,je,jf,jg,jh,ji,jj,jM,jN,jO,jP,jQ,jR],defers:=[]} W)
  (w:∀(hs:Nat->ax)(s':an)(d:Int)(c5 jy iW gR gE gl iw gI gQ u16 gm gn gp gD gq gr gu gv gw gx gy gz fN fO fP u32 fQ fR fS fT fU fV fW fZ ga gb gd gA gB ig gX gY bM bN bO bP bQ bR bS bT bU bV bW bX bY bZ b5 u64 b6 b7 b8 b9 cc cg ck cm cn cp cr ct cu cv cw cz cA cB cC cD cE c7 c8 c9 dc de dh di dm cG cH cI cK cL cM cN cO cQ cR cS cT cU cV cW cZ c4 dn dr dw dx dy dz dA dB dD dF dG dH dI dJ dK dL dM dN dO dP dQ dR dS dU dV dW dX dY dZ ec fF fG fH ee ef ei ej ek en eo ep er eu ew ey fI fJ fK ez eA eB eC eD eE eF eG eH eL eM eN eO eP eR eS eT eU eV eW eX eY eZ e3 e4 e5 e6 e7 e8 e9 fc fe ff fh fk fm gh gi fo fq fu fA fB fC fD iB iC iD iE iF iG iH iI iJ iK iL iM jc jd je jf jg jh ji jj jM jN jO jP jQ jR:Value)(W':World),mI aT gU base w0 G F ai n fL jv aI bf bu K W' hs cb s' aB s'.c.ag->s'.aO.length=s.aO.length->left<=0->0<d->d<=32*((iT+1:Nat):Int)->Q (.exit 1) {tmps:= #[.pointer (some ⟨G,0,none⟩),.slice gG bC gJ,.int .i64 (bu:Int),c5,jy,iW,.pointer (some ⟨bf,0,none⟩),.int .i64 ((iT+1:Nat):Int),.int .i64 d,.int .i64 2000,gR,gE,gl,iw,gI,gQ,u16,gm,gn,gp,gD,gq,gr,gu,gv,gw,gx,gy,gz,fN,fO,fP,u32,fQ,fR,fS,fT,fU,fV,fW,fZ,ga,gb,gd,gA,gB,ig,gX,gY,bM,bN,bO,bP,bQ,bR,bS,bT,bU,bV,bW,bX,bY,bZ,b5,u64,b6,b7,b8,b9,cc,cg,ck,cm,cn,cp,cr,ct,cu,cv,cw,cz,cA,cB,cC,cD,cE,c7,c8,c9,dc,de,dh,di,dm,cG,cH,cI,cK,cL,cM,cN,cO,cQ,cR,cS,cT,cU,cV,cW,cZ,c4,dn,dr,dw,dx,dy,dz,dA,dB,dD,dF,dG,dH,dI,dJ,dK,dL,dM,dN,dO,dP,dQ,dR,dS,dU,dV,dW,dX,dY,dZ,ec,fF,fG,fH,ee,ef,ei,ej,ek,en,eo,ep,er,eu,ew,ey,fI,fJ,fK,ez,eA,eB,eC,eD,eE,eF,eG,eH,eL,eM,eN,eO,eP,eR,eS,eT,eU,eV,eW,eX,eY,eZ,e3,e4,e5,e6,e7,e8,e9,fc,fe,ff,fh,fk,fm,gh,gi,fo,fq,fu,fA,fB,fC,fD,iB,iC,iD,iE,iF,iG,iH,iI,iJ,iK,iL,iM,jc,jd,je,jf,jg,jh,ji,jj,jM,jN,jO,jP,jQ,jR],defers:=[]} W'):
  Code.wp x_ Ms Q {tmps:= #[.pointer (some ⟨G,0,none⟩),.slice gG bC gJ,.int .i64 (bu:Int),c5,jy,iW,.pointer (some ⟨bf,0,none⟩),.int .i64 (iT:Int),.int .i64 left,.int .i64 2000,gR,gE,gl,iw,gI,gQ,u16,gm,gn,gp,gD,gq,gr,gu,gv,gw,gx,gy,gz,fN,fO,fP,u32,fQ,fR,fS,fT,fU,fV,fW,fZ,ga,gb,gd,gA,gB,ig,gX,gY,bM,bN,bO,bP,bQ,bR,bS,bT,bU,bV,bW,bX,bY,bZ,b5,u64,b6,b7,b8,b9,cc,cg,ck,cm,cn,cp,cr,ct,cu,cv,cw,cz,cA,cB,cC,cD,cE,c7,c8,c9,dc,de,dh,di,dm,cG,cH,cI,cK,cL,cM,cN,cO,cQ,cR,cS,cT,cU,cV,cW,cZ,c4,dn,dr,dw,dx,dy,dz,dA,dB,dD,dF,dG,dH,dI,dJ,dK,dL,dM,dN,dO,dP,dQ,dR,dS,dU,dV,dW,dX,dY,dZ,ec,fF,fG,fH,ee,ef,ei,ej,ek,en,eo,ep,er,eu,ew,ey,fI,fJ,fK,ez,eA,eB,eC,eD,eE,eF,eG,eH,eL,eM,eN,eO,eP,eR,eS,eT,eU,eV,eW,eX,eY,eZ,e3,e4,e5,e6,e7,e8,e9,fc,fe,ff,fh,fk,fm,gh,gi,fo,fq,fu,fA,fB,fC,fD,iB,iC,iD,iE,iF,iG,iH,iI,iJ,iK,iL,iM,jc,jd,je,jf,jg,jh,ji,jj,jM,jN,jO,jP,jQ,jR],defers:=[]} W:=by
 have J:=aa u;have M:=aa w;have y:=aa C;have f:=aa S;have g:=aa t;have N:=aa (S.mT C);clear u w C S t
 conv=>arg 2;whnf
 dsimp only
 by_cases hl:left<=0
 ·have dl:decide (left<=0)=true:=decide_eq_true hl;have wt:m_.wrap ((iT:Int)+1)=((iT+1:Nat):Int):=by rw[p_];have:=g.o;omega
  have j:=aa (Mn (iT+1) W (by omega) (by have:=g.o;omega));obtain⟨l,m⟩:=Mp (i:=iT+1) (by omega);obtain⟨L,z⟩:∃L,vp (iT+1)=L:=⟨_,rfl⟩
  rw[z] at j l m;have X:m_.wrap (32*(L:Int))=32*(L:Int):=by rw[p_];have:=g.o;omega
  have A:=aa (GI f.o.gH f.o.jZ (by have:=y.o.n10;omega) (by have:=N.o;omega));have p:=aa (z_ hl (z_ l m));clear hl l m z
  go_upto_region 19 with(go_at_call 150;refine j.o.mono ?_;rintro e w1 ⟨rfl,rfl⟩;dsimp only)
  go_upto_region 20 with(go_at_call 147;refine A.o.mono ?_;rintro e O ⟨rfl,P,s2,Y,q,M2,r,R,B,D,E,H,I⟩;dsimp only)
  have b:=f.o.move q M2 r B D (by rw[H]);rw[<-I rfl] at b;have Z:O.cell? ⟨G,0,none⟩=some (.int .i64 (n:Int)):=by have:=q.e.ku (k:=0) (v:=.int .i64 (s2.c.n:Int)) rfl;rw[r.rg.jt] at this;exact this
  have T:¬(10:Int)<(n:Int):=by have:=y.o.n10;omega
  have ab:decide ((10:Int)<(n:Int))=false:=decide_eq_false T;have b:=aa b;have U:=aa E;clear q M2 r R B D E H I A j
  go_wp2_with fail
  apply M.o P s2
  ·exact b.o
  ·rw[U.o]
  ·exact p.o.1
  ·have:=p.o;omega
  ·have:=p.o;omega
 ·have dl:decide (left<=0)=false:=decide_eq_false hl;have V:=aa hl;clear hl
  go_wp2_with fail
  apply J.o;have:=V.o;omega
end
section
open Go.RowKit Go.Shelf
theorem Mu(A:Option Addr)(n c:Nat)(d:List Int)(x:Int)(w:World)(h:aS w A n c d):
  Calls x_ 169 #[.slice A n c,.int .i64 x] w λ e w'=>(∃r:Int,e=.returned (.int .i64 r)/\decide (0<=r)=hasB d x)/\w=w':=by
 have q:=h.small;have H:=aa h;clear h;go_enter Tryz.func169,Tryz.ntmps169
 go_wp2
 go_loop [8] (λ i=>∃k:Nat,k<=n/\i=.int .i64 k/\hasB (d.take k) x=false) (λ i=>n-(intOf i).toNat)
 case atStart=>exact⟨0,Nat.zero_le _,rfl,rfl⟩
 case round=>
  obtain⟨k,hk,rfl,j⟩:=hrel;have l:=aa j;clear j
  by_cases g:k<n
  ·obtain⟨b,off,rfl,s,m⟩:=H.o.cells (by omega);have t:=m k g;clear m
   by_cases f:x=j8 d k
   ·have p:(x==j8 d k)=true:=by simpa using f
    have E:fE (hasB d x=true):=aa (Iq (k:=k) (by rw[H.o.len];exact g) (by simpa using f.symm));clear f;go_wp2;go_ret;exact⟨⟨k,rfl,by rw[E.o];simp⟩,rfl⟩
   ·have p:(x==j8 d k)=false:=by simpa using f
    have E:fE (hasB (d.take (k+1)) x=false):=aa (Ir (by rw[H.o.len];exact g) (by simpa using Ne.symm f) l.o);clear f;go_wp2
    go_round
    case rel=>exact⟨k+1,by omega,by go_num,E.o⟩
    case measure=>simp[intOf];omega
  ·go_wp2;go_ret;exact⟨⟨-1,rfl,by rw[Is H.o.len g l.o];rfl⟩,rfl⟩
theorem GJ(r:Bool)(A:Option Addr)(n c:Nat)(d:List Int)(x:Int)(w:World)(h:aS w A n c d)(b:hasB d x=r):
  Calls x_ 124 #[.slice A n c,.int .i64 x] w λ e w'=>e=.returned (.bool r)/\w=w':=by
 have f:=Mu A n c d x w h;rw[b] at f;clear h b;go_enter Tryz.func124,Tryz.ntmps124
 go_wp2_with (go_at_call 169;refine f.mono ?_;rintro e w' ⟨⟨r,rfl,b⟩,rfl⟩)
 all_goals
  go_ret;exact⟨qZ (by rw[<-b]),rfl⟩
open Go.RowKit Go.Shelf Go.Sort Go.Lib
theorem DJ(enc:Int->Value)(w:World)(g m:Nat)(c:Array Int)(os:Array Obj){b:Nat}(d:b<w.heap.size)(f:b≠g):(sortWorld enc w g 0 m c os).heap[b]? =w.heap[b]? :=by
 unfold sortWorld;rw[Sort.heap_grow_old _ _ (by rw[Sort.size_putRow];exact d)];unfold Sort.putRow Sort.mapBlock;rw[Array.getElem?_modify,if_neg (λ e=>f e.symm)];rfl
theorem aS.x9{w':World}{A:Option Addr}{c:Nat}{ah:List Int}(h:aS w A n c ah)(hs:w.heap.size<=w'.heap.size)(d:∀b,A.map (·.block)=some b->w'.heap[b]? =w.heap[b]?):aS w' A n c ah:=
 ⟨h.len,h.cap,h.mG,h.od,λ f=>by
  obtain⟨b,off,e,h1,g⟩:=h.cells f;refine⟨b,off,e,Nat.lt_of_lt_of_le h1 hs,λ j i=>?_⟩;rw[y_ (a:=⟨b,off+j,none⟩) (d b (by rw[e];rfl))];exact g j i⟩
theorem Mv:∀args w,(callFunc 154 args).run x_ w=.ok (.enter 154 args) w:=enters_of Tryz.func154 (by kernel_rfl) rfl
theorem GK(d:Nat)(A:Option Addr)(n c:Nat)(core:List Int)(x:Int)(w:World)(g:w.cell? ⟨d,0,none⟩=some (.slice A n c))(h:aS w A n c core):
  Calls x_ 154 #[.int .i64 x,.pointer (some ⟨d,0,none⟩)] w λ e w'=>e=.returned (.bool (!(hasB core x)))/\w=w':=by
 obtain⟨r,b⟩:∃r,hasB core x=r:=⟨_,rfl⟩
 have f:=aa (GJ r A n c core x w h b);rw[b];clear h b;go_enter Tryz.func154,Tryz.ntmps154
 go_wp2_with (go_at_call 124;refine f.o.mono ?_;rintro e w1 ⟨rfl,rfl⟩;dsimp only)
 go_ret;exact⟨rfl,rfl⟩
theorem Mw(w:World)(base g n cap:Nat)(c:List Int)(h:Own w base g n cap c)(t:base<=g){pn:Nat}{A:Option Addr}{bE bl:Nat}{core:List Int}(i:w.cell? ⟨pn,0,none⟩=some (.slice A bE bl))(j:pn<w.heap.size)(u:pn≠g)(l:aS w A bE bl core)(o:∀b,A.map (·.block)=some b->b<w.heap.size/\b≠g):
  Calls x_ 85 #[.slice (some ⟨g,0,none⟩) n cap,.func (.func 154) #[] #[.pointer (some ⟨pn,0,none⟩)]] w λ e w'=>
   ∃m,e=.returned (.slice (some ⟨g,0,none⟩) m cap)/\Own w' base g m cap (c.filter λ x=>hasB core x)/\Below base w w':=by
 have h':w.ownsRow base 3 1 (.slice (some ⟨g,0,none⟩) n cap) n (c.map oL):=h;obtain⟨G,H,he,h1,I,v,y,f,z⟩:=holds_of_ownsRow h' (by intro e;cases e)
 cases he
 have B:n<=9223372036854775807:=by unfold maxLen at y;omega
 have C:PredAt x_ 154 #[.pointer (some ⟨pn,0,none⟩)] oL (λ x=> !(hasB core x)) w:=by
  intro W x r;unfold FnGives;refine(GK pn A bE bl core x W ((r.cell (p:=⟨pn,0,none⟩) j).trans i) (l.below r)).mono λ _ _ ⟨he,hw⟩=>⟨he,0,by rw[<-hw];rfl⟩
 have D:PredOver x_ 154 #[.pointer (some ⟨pn,0,none⟩)] oL (λ x=> !(hasB core x)) g 0 c.toArray.size w:=by
  intro k os d x _;unfold FnGives;have E:w.heap.size<=(sortWorld oL w g 0 k d os).heap.size:=by
   show w.heap.size<=((Sort.putRow oL (Sort.ahead w k) g 0 d).heap++os).size;rw[Array.size_append,Sort.size_putRow];show w.heap.size<=w.heap.size+_;omega
  refine(GK pn A bE bl core x _ ((y_ (a:=⟨pn,0,none⟩) (DJ oL w g k d os j u)).trans i) (l.x9 E (λ b e=>DJ oL w g k d os (o b e).1 (o b e).2))).mono λ _ _ ⟨he,hw⟩=>⟨he,0,by rw[<-hw];rfl⟩
 have s:=Tryz.slices_DeleteFunc oL y4 (λ x=> !(hasB core x)) 154 #[.pointer (some ⟨pn,0,none⟩)] Mv 0 Tryz.zeroValue3 g 0 cap c.toArray w C D z (by simpa[f] using B) (by simpa[f] using v);have hs:c.toArray.size=n:=by simp[f]
 rw[hs] at s;refine s.mono ?_;rintro e w' ⟨rfl,q,rfl⟩;have F:c.toArray.toList.filter (λ x=> !(!(hasB core x)))=c.filter λ x=>hasB core x:=by
  show c.filter _=_
  congr 1
  funext x;simp
 rw[F];have hle:=k_ (λ x=>hasB core x) c;refine⟨_,rfl,?_,below_putRow (t_ _ _) t⟩;have:=ownsRow_putRow (q:=q) (k:=(c.filter λ x=>hasB core x).length) (ys:=(c.filter λ x=>hasB core x)++List.replicate (n-(c.filter λ x=>hasB core x).length) 0) h' (by simp;omega) (by omega);rw[List.take_left' rfl] at this;exact this
end
section
open Go.RowKit Go.Shelf
attribute [local go_sem] Oper.semAt_some
theorem DK(x:Int)(b:0<=x)(h1:x<=1000000):(Lit.int .i64 x).wf=true:=by
 simp[Lit.wf,IntKind.min,IntKind.max,IntKind.bits,IntKind.signed];omega
structure sG(F:List (List Int))(w W:World)(G bt:Nat)(bH:Core)(p:Int)(aL j m:Nat)(S:List Int)(A:Option Addr)(n c:Nat)(out:List Int)(ds:List Nat):Prop where
 s:pP w W G w.heap.size bt (w.heap.size+1+1) m S A n c out ds
 ci:qz F bH p j (hasB S) out
 Ai:j<=aL
 Aj:m+200000*j<=1+200000*aL
 nl:n+j<=aL+1
 xb:p∈out
inductive xd(F:List (List Int))(w:World)(G bt:Nat)(bH:Core)(p:Int)(aL:Nat):Nat->Act->World->Prop
 |mk {j m n c:Nat} {A:Option Addr} {S out:List Int} {ds:List Nat} {c5 u8 lB gR gE gl iw gI gQ u16 gm gn gp gD gq gr gu gv gw gx gy gz fN fO fP u32 fQ fR fS fT fU fV fW fZ ga gb gd gA gB ig gX gY bM bN bO bP bQ bR bS bT bU bV bW bX bY bZ b5 u64 b6 b7 b8 b9 cc cg ck cm cn cp cr ct cu cv cw cz cA cB cC cD cE:Value} {W:World} (h:sG F w W G bt bH p aL j m S A n c out ds):xd F w G bt bH p aL j {tmps:= #[.pointer (some ⟨G,0,none⟩),.int .i64 p,.pointer (some ⟨w.heap.size,0,none⟩),c5,.slice none 0 0,.slice A n c,.pointer (some ⟨bt,0,none⟩),.int .i64 ((j:Int)-1),u8,lB,gR,gE,gl,iw,gI,gQ,u16,gm,gn,gp,gD,gq,gr,gu,gv,gw,gx,gy,gz,fN,fO,fP,u32,fQ,fR,fS,fT,fU,fV,fW,fZ,ga,gb,gd,gA,gB,ig,gX,gY,bM,bN,bO,bP,bQ,bR,bS,bT,bU,bV,bW,bX,bY,bZ,b5,u64,b6,b7,b8,b9,cc,cg,ck,cm,cn,cp,cr,ct,cu,cv,cw,cz,cA,cB,cC,cD,cE],defers:=ds.map oD} W
theorem xd.elim{bt:Nat}{bH:Core}{p:Int}{aL:Nat}{g:Nat}{a:Act}(b:xd F w G bt bH p aL g a W){P:Prop}(k:∀{j m n c:Nat}{A:Option Addr}{S out:List Int}{ds:List Nat}{d u8 e f i l o q r u16 s t u v y z B C D E H I J K L u32 M N O Q R T U V X Y Z aa ab ad ae af ag ah ai aj ak al an ao aq ar au av aw ax ay u64 az aA aB aC aD aE aF aG aH aI aJ aK aM aN aO aP aQ aR aS aT aU:Value},a={tmps:= #[.pointer (some ⟨G,0,none⟩),.int .i64 p,.pointer (some ⟨w.heap.size,0,none⟩),d,.slice none 0 0,.slice A n c,.pointer (some ⟨bt,0,none⟩),.int .i64 ((j:Int)-1),u8,e,f,i,l,o,q,r,u16,s,t,u,v,y,z,B,C,D,E,H,I,J,K,L,u32,M,N,O,Q,R,T,U,V,X,Y,Z,aa,ab,ad,ae,af,ag,ah,ai,aj,ak,al,an,ao,aq,ar,au,av,aw,ax,ay,u64,az,aA,aB,aC,aD,aE,aF,aG,aH,aI,aJ,aK,aM,aN,aO,aP,aQ,aR,aS,aT,aU],defers:=ds.map oD}->g=j->sG F w W G bt bH p aL j m S A n c out ds->P):P:=by
 cases b with
 |mk h=>exact k rfl rfl h
section
variable {F Fd:List (List Int)}{w W W':World}{G bt:Nat}{bH:Core}{p:Int}{aL j m:Nat}{S:List Int}{A:Option Addr}{n c:Nat}{out:List Int}{ds:List Nat}
theorem sG.grow(b:sG F w W G bt bH p aL j m S A n c out ds)(d:Below W.heap.size W W'):sG F w W' G bt bH p aL j m S A n c out ds:=⟨b.s.grow d,b.ci,b.Ai,b.Aj,b.nl,b.xb⟩
theorem sG.skip(b:sG F w W G bt bH p aL (j+1) m S A n c out ds)(d:Below W.heap.size W W')(h:hasB S (aG (aj bH.ay j))=false):sG F w W' G bt bH p aL j m S A n c out ds:=
 ⟨b.s.grow d,b.ci.skip h,by have:=b.Ai;omega,by have:=b.Aj;omega,by have:=b.nl;omega,b.xb⟩
theorem sG.dec(b:sG F w W G bt bH p aL (j+1) m S A n c out ds){A':Option Addr}{c':Nat}(hs:pP w W' G w.heap.size bt (w.heap.size+1+1) m S A' (n+1) c' (out++[aj bH.ay j]) ds)(h:mo bH.j6 (aG (aj bH.ay j))=none):sG F w W' G bt bH p aL j m S A' (n+1) c' (out++[aj bH.ay j]) ds:=
 ⟨hs,b.ci.decision h,by have:=b.Ai;omega,by have:=b.Aj;omega,by have:=b.nl;omega,by simp[b.xb]⟩
theorem sG.Mx(T:jT bH)(D:rF F Fd bH)(b:sG F w W G bt bH p aL (j+1) m S A n c out ds){lS:Nat}{oI:List Int}{yV:List Nat}(hs:pP w W' G w.heap.size bt (w.heap.size+1+1) lS oI A n c out yV){d:Nat}(hw:mo bH.j6 (aG (aj bH.ay j))=some d)(hm:∀v,hasB S v=true->hasB oI v=true)
  (e:∀y∈az bH.cl d,y≠aj bH.ay j->0<bg bH y->hasB oI (aG y)=true) (f:lS<=m+200000):sG F w W' G bt bH p aL j lS oI A n c out yV:=
 ⟨hs,b.ci.reason T D hw hm e,by have:=b.Ai;omega,by have:=b.Aj;omega,by have:=b.nl;omega,b.xb⟩
end
def My(F:List (List Int))(w:World)(bH:Core)(p:Int)(e:Ending)(w':World):Prop:=
 ∃A c out,e=.returned (.slice A out.length c)/\aS w' A out.length c out/\Below w.heap.size w w'/\(∀x∈out,x=p\/(x∈bH.ay/\mo bH.j6 (aG x)=none))/\p∈out/\(∀M,tS M F->¬∀x∈p::out,M x=true)/\∀b,A.map (·.block)=some b->w.heap.size<=b
theorem Mz{K:Nat->Prop}{base:Nat}{w:World}{G:Nat}{hs:Nat->ax}{cb:Nat->Nat}{s:an}{F Fd:List (List Int)}(h:aX K base w G hs cb s)(T:jT s.c)(D:rF F Fd s.c)(dk:s.c.n<=60000)(dm:s.c.st.length<=1000000){p:Int}(hp:gW s.c.n p)(b6: -p∈s.c.ay):
  Calls x_ 153 #[.pointer (some ⟨G,0,none⟩),.int .i64 p] w (My F w s.c p):=by
 have H:=aa h;have I:=aa T;have bw:=aa D;have cJ:=aa hp;have a7:=aa b6;obtain⟨v,Q⟩:∃v,aG p=v:=⟨_,rfl⟩
 have dn:v<=60000:=by have:=hp.2;omega
 have b7:fE (∀w:World,Calls x_ 97 #[.int .i64 p] w λ e w'=>e=.returned (.int .i64 (v:Int))/\w=w'):=aa (λ w=>by have:=sZ p w (by unfold aG at Q;omega) (by unfold aG at Q;omega);rw[Q] at this;exact this);obtain⟨g2,b8,bx,f2⟩:=h.e.lW 3 2 rfl h.e.mu (by have:=T.o7;omega);obtain⟨y,R⟩:∃y,gV s.c.lvl v=y:=⟨_,rfl⟩
 have c2:=h.e.vH b8 (k:=v) (by have:=T.o7;have:=hp.2;omega);rw[R] at c2;have dp:(v:Int)<(s.c.lvl.length:Int):=by have:=T.o7;have:=hp.2;omega
 have af:=aa (z_ Q R);have cK:=(h.e.rows.lt b8).2;have aH:=h.e.box.lt;have dq:∀(fn:Fn)(first cap:Array Value)(w:World),(Instr.makeFunc fn first cap).run x_ w=.ok (.func fn first cap) w:=λ _ _ _ _=>rfl
 have dr:= @run_makeMap x_;clear h T D hp b6 Q R f2;refine CL Tryz.func153 rfl ?_;simp only[Tryz.ntmps153,List.size_toArray,List.length_cons,List.length_nil,Nat.reduceAdd,Nat.reduceSub,Array.replicate_succ,Array.replicate_zero,List.push_toArray,List.append_toArray,List.nil_append,List.cons_append]
 go_wp2_with fail
 obtain⟨u,O⟩:∃u,(w.alloc (.cells #[.pointer (some ⟨G,0,none⟩)] 115)).alloc (.cells #[.int .i64 p] 3)=u:=⟨_,rfl⟩
 rw[O];have a8:Below w.heap.size w u:=by rw[<-O];exact((t_ _ w).alloc (l_ _) _).alloc (by simp) _
 have bA:aN u w.heap.size 115 [.pointer (some ⟨G,0,none⟩)]:=by rw[<-O];exact(aN.new w 115 [.pointer (some ⟨G,0,none⟩)]).below (bB _ _)
 have b9:u.ownsRow w.heap.size 3 1 (.slice (some ⟨w.heap.size+1,0,none⟩) 1 1) 1 (iY [p]):=by rw[<-O];have:=Dc (w.alloc (.cells #[.pointer (some ⟨G,0,none⟩)] 115)) w.heap.size [p] 1 rfl (by simp) (by omega);simpa[iY] using this
 have a':u.heap.size=w.heap.size+1+1:=by rw[<-O];simp
 clear O;have aF:=bA.cell 0;have bx:=(y_ (a:=⟨G,3,none⟩) (a8.block G aH)).trans bx;have c2:=(y_ (a:=⟨g2,v,none⟩) (a8.block g2 cK)).trans c2;refine s_ 8 (by kernel_rfl) (by kernel_rfl) ?_;simp only[w_,r_,v_,q_]
 iterate 5 still_step
 still_call ((b7.o _).mono (λ e w' h=>⟨h.1,h.2.symm⟩))
 iterate 2 still_step
 refine n_ ?_;change wpList _ _ _ _ _ u.drew;have aI:=aa a8.drew;have b':=aa (show aN u.drew w.heap.size 115 [.pointer (some ⟨G,0,none⟩)] from bA);have ba:=aa (show u.drew.ownsRow w.heap.size 3 1 (.slice (some ⟨w.heap.size+1,0,none⟩) 1 1) 1 (iY [p]) from b9);have a':u.drew.heap.size=w.heap.size+1+1:=a';clear aF bx c2 a8 bA b9;generalize u.drew=u at*
 by_cases aJ:y=0
 ·have cL:((y:Int)==0)=true:=by simp[aJ]
  have bb:=aa aJ;clear aJ
  go_wp2_with fail
  refine CM [] rfl List.nodup_nil (λ D h=>by cases h) (λ W' aw=>⟨_,results_tmp rfl _ _ _,?_⟩);refine⟨some ⟨w.heap.size+1,0,none⟩,1,[p],rfl,aS.lG (nc ba.o (aw.below (t_ _ _) (λ D h=>by cases h))) (by simp),aI.o.trans ((aw.below (t_ _ _) (λ D h=>by cases h)).mono aI.o.size),λ x U=>.inl (by simpa using U),by simp,λ M ca cM=>?_,λ b e=>(by injection e with e;have e:w.heap.size+1=b:=e;omega)⟩;obtain⟨i,ah,bc,bd⟩:=I.o.at a7.o;have h1:=yu I.o bw.o ca i ah (by rw[bd];show gV s.c.lvl (aG p)=0;rw[af.o.1,af.o.2,bb.o]);rw[bc,ca.1 p cJ.o.oE,cM p (by simp)] at h1
  cases h1
 ·have cL:((y:Int)==0)=false:=by simp;omega
  have bb:=aa aJ;clear aJ;obtain⟨ai,cc,bC,bD⟩:=(lY.made u).put (x:=(v:Int)) (by unfold maxLen;omega) (DK _ (by omega) (by omega));rw[a'] at cc bC bD;have cd:=aa bC;have bf:=aa bD;clear bC bD
  go_upto_region 5 with(go_at_call 97;refine(b7.o _).mono ?_;rintro e w1 ⟨rfl,rfl⟩;dsimp only)
  have g2:u.grownBy (u.alloc (.map #[] 0)) none:=World.grownBy_alloc u _ none;have bE:pP w (ai.alloc (.cells #[.map (some (w.heap.size+1+1))] 114)) G w.heap.size ai.heap.size (w.heap.size+1+1) 1 [(v:Int)] (some ⟨w.heap.size+1,0,none⟩) 1 1 [p] []:=by
   have cN:(u.alloc (.map #[] 0)).heap.size=w.heap.size+1+1+1:=by simp[a']
   have cf:Below w.heap.size w (u.alloc (.map #[] 0)):=aI.o.alloc aI.o.size _;have dt:=bf.o.size;have bF:=cf.grown bf.o cf.size (λ g e=>by cases e;omega);have q:∀b,b<w.heap.size+1+1->ai.heap[b]? =u.heap[b]? :=λ b P=>(bf.o.block b (by omega) (by simp;omega)).trans (g2.block b (by omega) (by simp))
   refine⟨bF.alloc bF.size _,?_,aN.new ai 114 [.map (some (w.heap.size+1+1))],cd.o.alloc _,?_,⟨List.nodup_nil,λ D h=>by cases h⟩,by omega,l_ _,bF.size⟩
   ·exact(show aN ai w.heap.size 115 _ from(q _ (by omega)).trans b'.o).below (bB _ _)
   ·exact nc (pL ba.o (λ b e=>q b (by have:=(AP ba.o e).2;omega))) (bB _ _)
  obtain⟨bh,bH⟩:∃bh,ai.alloc (.cells #[.map (some (w.heap.size+1+1))] 114)=bh:=⟨_,rfl⟩
  obtain⟨bt,bI⟩:∃bt,ai.heap.size=bt:=⟨_,rfl⟩
  rw[bH,bI] at bE;rw[bH,bI];have bJ:=aa bE;clear bE g2 bf cd aI b' ba cc bH bI;obtain⟨aL,aK⟩:∃aL,s.c.ay.length=aL:=⟨_,rfl⟩
  have du:aL<=60000:=by have:=I.o.len;omega
  have dv:0<aL:=by have:=a_ a7.o;omega
  obtain⟨dw,j5,bK,cO⟩:∃A n c,hs 4=⟨A,n,c⟩:=⟨_,_,_,rfl⟩
  have dx:j5=aL:=by have:=H.o.e.j5;rw[cO] at this;exact this.trans aK
  obtain⟨g4,bL,bM,f4⟩:=H.o.e.lW 5 4 rfl H.o.e.j5 (by omega);have bN:bh.cell? ⟨G,5,none⟩=some (.slice (some ⟨g4,0,none⟩) aL (hs 4).c):=by rw[<-aK];exact(y_ (a:=⟨G,5,none⟩) (bJ.o.below.block G aH)).trans bM
  have aF:bh.cell? ⟨w.heap.size,0,none⟩=some (.pointer (some ⟨G,0,none⟩)):=bJ.o.p5.cell 0;have cg:m_.wrap ((aL:Int)-1)=(aL:Int)-1:=by rw[p_];omega
  go_wp2_with fail
  have ch:qz F s.c p aL (hasB [(v:Int)]) [p]:=by
   rw[<-aK];exact qz.start I.o a7.o (by show 1<=gV s.c.lvl (aG p);rw[af.o.1,af.o.2];have:=bb.o;omega) (by rw[af.o.1];simp[hasB])
  have bO:0<s.c.st.length:=by
   obtain⟨i,ah,bc,bd⟩:=I.o.at a7.o;have h1:=wA s.c.st i;have ak:bg s.c p=y:=by show gV s.c.lvl (aG p)=y;rw[af.o.1,af.o.2]
   have:=bb.o;omega
  obtain⟨bj,cj⟩:∃bj,s.c.st.length=bj:=⟨_,rfl⟩
  obtain⟨g5,bP,aM,f5⟩:=H.o.e.lW 6 5 rfl H.o.e.jX (by omega);obtain⟨al,bQ⟩:∃al,gV s.c.st 0=al:=⟨_,rfl⟩
  have aO:=H.o.e.E9 bP (k:=0) bO;rw[bQ] at aO;rw[cj] at aM bO;obtain⟨g3,bR,aP,f3⟩:=H.o.e.lW 4 3 rfl H.o.e.nN (by have:=I.o.pH;omega);have Y:=aa (z_ aK (z_ bQ (z_ bO (z_ bL (z_ aM (z_ aO (z_ bR (z_ aP bM))))))));have cP:=(H.o.e.rows.lt bP).2;have dy:=(H.o.e.rows.lt bL).2;have dz:=(H.o.e.rows.lt bR).2;have cQ:=aa ch;have dA:(0:Int)<(bj:Int):=by omega
  clear aF cg f4 f5 f3 aO aM bP bN bM bL bR aP aK bQ ch;refine wp_loop_ghost_k (xd F w G bt s.c p aL) aL ?start ?round
  case start=>exact xd.mk (c:=1) ⟨bJ.o,cQ.o,l_ _,l_ _,by omega,by simp⟩
  case round=>
   intro g a W ck dB K bS dC;refine ck.elim ?_;intro j m n c A S out ds dD u8 dE dF dG dH dI dJ dK u16 dL dM dN dO dP dQ dR dS dT dU dV dW dX dY dZ u32 d' ea eb ec ed ee ef eg eh ei ej ek en eo ep er et eu ev ew ey ez eA eB eC eD eE eF eG eH eI u64 eJ eK eL eM eN eO eP eQ eR eS eT eU eV eW eX eY eZ e0 e1 e2 e3 bk aQ aR;clear ck;subst bk;replace aQ:=aQ.symm;subst aQ;have B:=aa aR;have E:=aa (H.o.below aR.s.below).1;have aF:W.cell? ⟨w.heap.size,0,none⟩=some (.pointer (some ⟨G,0,none⟩)):=aR.s.p5.cell 0;have qi:=aR.s.below.block;have aM:W.cell? ⟨G,6,none⟩=some (.slice (some ⟨g5,0,none⟩) bj (hs 5).c):=(y_ (a:=⟨G,6,none⟩) (qi G aH)).trans Y.o.2.2.2.2.1;have aO:W.cell? ⟨g5,0,none⟩=some (.int .i64 (al:Int)):=(y_ (a:=⟨g5,0,none⟩) (qi g5 cP)).trans Y.o.2.2.2.2.2.1;clear aR qi
   by_cases cR:al<j
   ·obtain⟨j,rfl⟩:∃k,j=k+1:=⟨j-1,by omega⟩
    have cS:((j+1:Nat):Int)-1=(j:Int):=by omega
    rw[cS];have cT:(al:Int)<=(j:Int):=by omega
    obtain⟨x,U⟩:∃x,aj s.c.ay j=x:=⟨_,rfl⟩
    have bl:j<aL:=by have:=B.o.Ai;omega
    have bN:W.cell? ⟨G,5,none⟩=some (.slice (some ⟨g4,0,none⟩) aL (hs 4).c):=by rw[<-Y.o.1];exact(y_ (a:=⟨G,5,none⟩) (B.o.s.below.block G aH)).trans Y.o.2.2.2.2.2.2.2.2
    have bK:=E.o.e.zP Y.o.2.2.2.1 (k:=j) (by rw[Y.o.1];exact bl);rw[U] at bK;have e4:(j:Int)<(aL:Int):=by omega
    have bT:gW s.c.n x:=by rw[<-U];exact I.o.lit _ (lZ (by rw[Y.o.1];exact bl))
    obtain⟨z,aT⟩:∃z,aG x=z:=⟨_,rfl⟩
    have cm:z<=s.c.n:=by have:=bT.2;omega
    have bn:fE (∀w:World,Calls x_ 97 #[.int .i64 x] w λ e w'=>e=.returned (.int .i64 (z:Int))/\w=w'):=aa (λ w=>by have:=sZ x w (by unfold aG at aT;omega) (by unfold aG at aT;omega);rw[aT] at this;exact this);have cU:W.cell? ⟨bt,0,none⟩=some (.map (some (w.heap.size+1+1))):=B.o.s.qi.cell 0;have bU:=B.o.s.set.drew.look (DK (z:Int) (by omega) (by omega));have cg:m_.wrap ((j:Int)-1)=(j:Int)-1:=by rw[p_];omega
    have X:=aa (z_ U (z_ bl (z_ bT (z_ aT cm))));clear U bl bT aT cm
    cases P:hasB S (z:Int) with
    |false=>
     rw[P] at bU;have ao:=aa (B.o.skip (W':=W.drew) ((t_ _ W).drew) (by rw[X.o.1,X.o.2.2.2.1];exact P));clear P
     go_upto_region 9 with fail
     refine s_ 4 (by kernel_rfl) (by kernel_rfl) ?_;simp only[w_,r_,v_,q_]
     iterate 2 still_step
     still_call ((bn.o _).mono (λ e w' h=>⟨h.1,h.2.symm⟩))
     iterate 1 still_step
     refine n_ ?_;change wpList _ _ _ _ _ W.drew
     go_wp2_with fail
     exact Zz j (by omega) (bS _ _ _ (xd.mk ao.o))
    |true=>
     rw[P] at bU;have e5:=aa P;clear P
     go_upto_region 9 with fail
     refine s_ 4 (by kernel_rfl) (by kernel_rfl) ?_;simp only[w_,r_,v_,q_]
     iterate 2 still_step
     still_call ((bn.o _).mono (λ e w' h=>⟨h.1,h.2.symm⟩))
     iterate 1 still_step
     refine n_ ?_;change wpList _ _ _ _ _ W.drew
     go_upto_region 10 with fail
     have bV:=aa (B.o.grow ((t_ _ W).drew));have cn:W.drew.cell? ⟨w.heap.size,0,none⟩=some (.pointer (some ⟨G,0,none⟩)):=aF;have aP:W.drew.cell? ⟨G,4,none⟩=some (.slice (some ⟨g3,0,none⟩) s.c.j6.length (hs 3).c):=(y_ (a:=⟨G,4,none⟩) (bV.o.s.below.block G aH)).trans Y.o.2.2.2.2.2.2.2.1;have c3:=E.o.drew.e.yB Y.o.2.2.2.2.2.2.1 (k:=z) (by have:=I.o.pH;have:=X.o;omega);have e6:(z:Int)<(s.c.j6.length:Int):=by have:=I.o.pH;have:=X.o;omega
     clear aF bN bK aM aO bU cU E B;generalize W.drew=V at*
     cases hw:mo s.c.j6 z with
     |none=>
      rw[hw] at c3;change V.cell? ⟨g3,z,none⟩=some (.pointer none) at c3;have bo:=aa hw;clear hw;refine s_ 8 (by kernel_rfl) (by kernel_rfl) ?_;simp only[w_,r_,v_,q_]
      iterate 5 still_step
      still_call ((bn.o _).mono (λ e w' h=>⟨h.1,h.2.symm⟩))
      iterate 2 still_step
      refine n_ ?_;change wpList _ _ _ _ _ V.drew;clear aP c3 cn;have aA:=aa (bV.o.grow ((t_ _ V).drew));generalize V.drew=t at*;have bW:=aa (aA.o.s.grow (bB t (nX [x])));have cV:=aa (aS.lit t [x] 1 t.heap.size rfl rfl (by omega))
      go_wp2_with (at_builtin;refine uH rfl (.tmp 65) (.tmp 67) rfl w.heap.size (.slice A n c) n out rfl bW.o.row (some ⟨t.heap.size,0,none⟩) 1 1 [x] rfl cV.o (by have:=aA.o.nl;omega) bW.o.below.size ?_;intro v9 bG bk;obtain⟨A',c',rfl,aU⟩:=bW.o.app bk;have aB:=aa aU;clear bk aU)
      have ao:=aA.o.dec (W':=bG) (A':=A') (c':=c') (by rw[X.o.1];exact aB.o) (by rw[X.o.1,X.o.2.2.2.1];exact bo.o);exact Zz j (by omega) (bS _ _ _ (xd.mk ao))
     |some d=>
      rw[hw] at c3;change V.cell? ⟨g3,z,none⟩=some (.pointer (some ⟨cb d,0,none⟩)) at c3;have bo:=aa hw;clear hw;refine s_ 8 (by kernel_rfl) (by kernel_rfl) ?_;simp only[w_,r_,v_,q_]
      iterate 5 still_step
      still_call ((bn.o _).mono (λ e w' h=>⟨h.1,h.2.symm⟩))
      iterate 2 still_step
      refine n_ ?_;change wpList _ _ _ _ _ V.drew;clear aP c3 cn;have aA:=aa (bV.o.grow ((t_ _ V).drew));generalize V.drew=t at*
      go_upto_region 13 with fail
      go_wp2_with (go_at_call 183;refine(Da _ _ _).mono ?_;rintro e w1 ⟨rfl,rfl⟩;dsimp only)
      have ab:=aa (aA.o.grow ((bB t (.cells #[.pointer (some ⟨cb d,0,none⟩)] 164)).trans ((bB _ (.cells #[.int .i64 x] 3)).mono (by simp))));have cW:((t.alloc (.cells #[.pointer (some ⟨cb d,0,none⟩)] 164)).alloc (.cells #[.int .i64 x] 3)).cell? ⟨t.heap.size,0,none⟩=some (.pointer (some ⟨cb d,0,none⟩)):=by go_simp
      have cX:((t.alloc (.cells #[.pointer (some ⟨cb d,0,none⟩)] 164)).alloc (.cells #[.int .i64 x] 3)).cell? ⟨t.heap.size+1,0,none⟩=some (.int .i64 x):=by go_simp
      have cN:((t.alloc (.cells #[.pointer (some ⟨cb d,0,none⟩)] 164)).alloc (.cells #[.int .i64 x] 3)).heap.size=t.heap.size+1+1:=by simp
      generalize (t.alloc (.cells #[.pointer (some ⟨cb d,0,none⟩)] 164)).alloc (.cells #[.int .i64 x] 3)=N at*;have cp:=I.o.pV j (by rw[Y.o.1];exact X.o.2.1);rw[X.o.1,X.o.2.2.2.1,bo.o] at cp;obtain⟨ag,bX,-⟩:=cp;have bY:=aa (H.o.below ab.o.s.below).1;obtain⟨bz,m1,cY,C⟩:=bY.o.yP ag (a_ bX);have bZ:=bw.o.mB d ag;have cZ:m1<=120002:=by have:=bZ.len;have:=C.len;omega
      have c0:=(bY.o.e.rows.lt C.b).2;have c4:=(bY.o.e.cls d ag).lt;have e7:N.cell? ⟨w.heap.size,0,none⟩=some (.pointer (some ⟨G,0,none⟩)):=ab.o.s.p5.cell 0;have Z:=aa (z_ ag (z_ bX (z_ bZ (z_ cZ C))));have aC:fE (w.heap.size+1+1<N.heap.size/\w.heap.size<=N.heap.size/\∀D∈ds,D<N.heap.size):=aa ⟨ab.o.s.set.lt,ab.o.s.below.size,λ D aq=>ab.o.s.uQ.lt aq⟩;have cq:OwnFrom N.heap.size (λ(pre:List Int)(f:World)=>∃(L:Nat)(J:List Int),pP w f G w.heap.size bt (w.heap.size+1+1) L J A n c out ds/\(∀v,hasB S v=true->hasB J v=true)/\(∀y∈pre,0<bg s.c y->hasB J (aG y)=true)/\L<=m+pre.length):=by
       rintro pre e8 e9 row ⟨L,J,h1,ak,bp,b0⟩ aQ c5;exact⟨L,J,h1.uP aQ c5 aC.o.2.1 aC.o.1 aC.o.2.2,ak,bp,b0⟩
      have cr:=aa cq;have ct:fE (some (t.heap.size+1)≠some (w.heap.size+1+1)/\some bz≠some (w.heap.size+1+1)):=aa ⟨λ e=>by have h1:=aA.o.s.set.lt;injection e with e;omega,λ e=>by have h1:=(H.o.e.rows.lt C.b).2;injection e with e;omega⟩;clear ag bX bZ cq;refine(wpIn_wide (n:=6)).1 ?_;refine CI (F:=Fence.wide) (w0:=N) rfl (by omega) (gf:=224) (lb:= #[.pointer (some ⟨t.heap.size,0,none⟩),.pointer (some ⟨t.heap.size+1,0,none⟩)]) rfl trivial C9
       (Db (6-1) (by omega) t.heap.size (t.heap.size+1) (cb d) bz m1 cY (az s.c.cl d) x C.len (by omega) N cW cX C.ag C.kC (by omega) (by omega) c4 c0)
       (λ h k=>h.trans k) (λ V l o e' hl Q cu _=>⟨λ v b1=>(y_ (w:=V) (d_ (by show t.heap.size+1≠l;omega))).trans b1,λ k v _ b1=>(y_ (w:=V) (d_ (by show bz≠l;omega))).trans b1⟩) (t_ _ _) (λ _=>rfl)
       (λ(pre:List Int)(f:World)=>∃(L:Nat)(J:List Int),pP w f G w.heap.size bt (w.heap.size+1+1) L J A n c out ds/\(∀v,hasB S v=true->hasB J v=true)/\(∀y∈pre,0<bg s.c y->hasB J (aG y)=true)/\L<=m+pre.length) (λ _ _ _=>False)
       cr.o (λ _ _ _ _ _ h=>h.elim) ⟨m,S,ab.o.s,λ _ h=>h,λ y h=>absurd h List.not_mem_nil,l_ _⟩
       ?a1 ?w1 ?assign ?kw1 ?body ?done ?stop
      case assign=>
       intro l pre y f fa ah bq c6
       gi_wp2
       exact c6
      case kw1=>
       intro pre y f ah;exact⟨KeepsFrom.refl _ _,o9.refl _ _ _ _⟩
      case body=>
       rintro l pre y cv f ah ⟨o,c7,cw,cu,O,cx⟩ bq fb;have c8:=cr.o _ _ _ _ ah (show cv.grownBy f (some (N.heap.size+1)) by rw[cw];exact grownBy_putObj' cv (N.heap.size+1) o) (λ r e=>by cases e;exact⟨by omega,c7,O,cx⟩);clear ah cw cu O cx;obtain⟨L,J,hs,cy,R,aV⟩:=c8;have aW:=aa hs;have ar:=aa (z_ cy (z_ R aV));have c9:=aa bq;have ad:gW s.c.n y:=Z.o.2.2.1.lt y (by
        have h1:y∈others (az s.c.cl d) x:=bq.subset (by simp);exact(List.mem_filter.1 h1).1)
       have da:f.cell? ⟨w.heap.size,0,none⟩=some (.pointer (some ⟨G,0,none⟩)):=hs.p5.cell 0;have cz:f.cell? ⟨bt,0,none⟩=some (.map (some (w.heap.size+1+1))):=hs.qi.cell 0;have br:=aa (H.o.below hs.below).1;clear hs cy R aV bq;obtain⟨ae,aY⟩:∃v,aG y=v:=⟨_,rfl⟩
       have cA:ae<=s.c.n:=by have:=ad.2;omega
       have cB:1<=ae:=by have:=ad.1;omega
       have cC:fE (∀w:World,Calls x_ 97 #[.int .i64 y] w λ e w'=>e=.returned (.int .i64 (ae:Int))/\w=w'):=aa (λ w=>by have:=sZ y w (by unfold aG at aY;omega) (by unfold aG at aY;omega);rw[aY] at this;exact this);obtain⟨fc,cD,db,-⟩:=br.o.e.lW 3 2 rfl br.o.e.mu (by have:=I.o.o7;omega);obtain⟨aD,b2⟩:∃l,gV s.c.lvl ae=l:=⟨_,rfl⟩
       have cE:=br.o.e.vH cD (k:=ae) (by have:=I.o.o7;omega);rw[b2] at cE;have fe:(ae:Int)<(s.c.lvl.length:Int):=by have:=I.o.o7;omega
       have hlen:pre.length+1<=120002:=by
        have h1:=c9.o.length_le;have ak:(others (az s.c.cl d) x).length<=(az s.c.cl d).length:=k_ _ _;have:=Z.o.2.2.2.2.len;have:=Z.o.2.2.2.1;rw[u_,o_] at h1;omega
       have aZ:=aa (z_ aY (z_ b2 (z_ hlen (z_ cA cB))));clear aY b2 hlen cA cB ad cD
       gi_wp2
       refine CJ 8 (by kernel_rfl) (by kernel_rfl) (by rintro⟨_,_,h⟩;exact h) (by kernel_rfl) ?_;simp only[w_,r_,v_,q_]
       iterate 5 still_step
       still_call ((cC.o _).mono (λ e w' h=>⟨h.1,h.2.symm⟩))
       iterate 2 still_step
       refine n_ ?_;change wpList _ _ _ _ _ f.drew;have bs:fE (KeepsFrom N.heap.size f f.drew/\o9 (t.heap.size+1) bz m1 f f.drew):=aa ⟨(Zy f).from _,o9.refl _ _ _ _⟩;have aW:=aa (aW.o.grow ((t_ _ f).drew));have cz:f.drew.cell? ⟨bt,0,none⟩=some (.map (some (w.heap.size+1+1))):=cz;clear da db cE br;generalize f.drew=au at*
       by_cases ad:0<aD
       ·have dc:decide ((0:Int)<(aD:Int))=true:=by simp;omega
        have dd:(0:Int)<(aD:Int):=by omega
        have cF:=aa ad;clear ad;obtain⟨ff,fg,aU,cG⟩:=aW.o.set.drew.put (x:=(ae:Int)) (by have:=ar.o.2.2;have:=aZ.o;have:=ab.o.Aj;unfold maxLen;omega) (DK _ (by omega) (by have:=aZ.o;omega));have aB:=aa (z_ aU cG);clear aU cG
        go_wp2_with fail
        gi_wp2
        refine CJ 3 (by kernel_rfl) (by kernel_rfl) (by rintro⟨_,_,h⟩;exact h) (by kernel_rfl) ?_;simp only[w_,r_,v_,q_]
        iterate 2 still_step
        still_call ((cC.o _).mono (λ e w' h=>⟨h.1,h.2.symm⟩))
        refine n_ ?_;change wpList _ _ _ _ _ au.drew
        go_wp2_with fail
        have de:=(aW.o.grow ((t_ _ au).drew)).put aB.o.1 aB.o.2;refine⟨bs.o.1.trans (((Zy au).from _).trans (KeepsFrom.of_grownBy aB.o.2 (λ r e=>by cases e;exact aC.o.1))),bs.o.2.trans ((show o9 _ _ _ au au.drew from o9.refl _ _ _ au).trans (o9.FH (W:=au.drew) aB.o.2 ct.o.1 ct.o.2)),L+1,J++[(ae:Int)],de,λ v Q=>by rw[zu,ar.o.1 v Q];rfl,λ b3 b4 av=>?_,by have:=ar.o.2.2;rw[u_,o_];omega⟩;rw[zu];rcases c_.1 b4 with h|h
        ·rw[ar.o.2.1 b3 h av];rfl
        ·rw[j_] at h;subst h;rw[aZ.o.1];simp
       ·have dc:decide ((0:Int)<(aD:Int))=false:=by simp;omega
        have dd:¬(0:Int)<(aD:Int):=by omega
        have cF:=aa ad;clear ad
        go_wp2_with fail
        gi_wp2
        exact⟨bs.o.1,bs.o.2,L,J,aW.o,ar.o.1,λ b3 b4 av=>(c_.1 b4).elim (λ h=>ar.o.2.1 b3 h av) (λ h=>by rw[j_] at h;subst h;exact absurd (show 0<aD by rw[<-aZ.o.2.1,<-aZ.o.1];exact av) cF.o),by have:=ar.o.2.2;rw[u_];omega⟩
      case done=>
       rintro D ys f aq rfl ⟨L,J,h1,ak,bp,b0⟩ aV;have hlen:(others (az s.c.cl d) x).length<=120002:=by
        have ak:(others (az s.c.cl d) x).length<=(az s.c.cl d).length:=k_ _ _;have:=Z.o.2.2.2.2.len;have:=Z.o.2.2.2.1;omega
       have ao:sG F w f G bt s.c p aL j L J A n c out (D::ds):=ab.o.Mx I.o bw.o (h1.mark (by have:=aC.o.2.1;omega) aV (λ E df=>by have:=aC.o.2.2 E df;omega)) (d:=d) (by rw[X.o.1,X.o.2.2.2.1];exact bo.o) ak (λ y R cH hl=>bp y (List.mem_filter.2 ⟨R,by rw[X.o.1] at cH;simpa using cH⟩) hl) (by omega);have ao:=aa ao;clear h1 ak bp b0 aV hlen
       gi_wp2
       go_wp2_with fail
       exact Zz j (by omega) (bS _ _ _ (xd.mk (ds:=D::ds) ao.o))
      case stop=>
       rintro D fh pre f aq fi h;exact h.elim
   ·have fj:decide ((j:Int)-1>=(al:Int))=false:=by simp;omega
    have cT:¬(al:Int)<=(j:Int)-1:=by omega
    have dh:=aa cR
    go_wp2_with fail
    refine CM ds rfl B.o.s.uQ.ng (λ D aq=>(B.o.s.uQ.kC D aq).2) (λ W' aw=>⟨_,results_tmp rfl _ _ _,?_⟩);have hlen:=B.o.s.len;have di:=B.o.ci.done I.o (by rw[cj];exact Y.o.2.2.1) (by rw[Y.o.2.1];have:=dh.o;omega);refine⟨A,c,out,by rw[hlen];rfl,?_,aw.below B.o.s.below (λ D aq=>(B.o.s.uQ.kC D aq).1),λ x U=>B.o.ci.A5 x U,B.o.xb,di,λ b P=>(B.o.s.row.lt b (by show(ax.v ⟨A,n,c⟩).ownBlock=_;rw[ax.own];exact P)).1⟩;rw[hlen];have a6:=aS.lG B.o.s.row (by have:=B.o.nl;omega);refine⟨a6.len,a6.cap,a6.mG,a6.od,λ av=>?_⟩;obtain⟨aE,bu,bc,bd,cI⟩:=a6.cells av;have dj:aE∉ds:=λ ag=>by
     obtain⟨v1,b5⟩:∃v1,W.cell? ⟨aE,bu+0,none⟩=some v1:=⟨_,cI 0 av⟩
     unfold World.cell? at b5;rw[show W.heap[(⟨aE,bu+0,none⟩:Addr).block]? =_ from(B.o.s.uQ.kC aE ag).2] at b5
     cases b5
    exact⟨aE,bu,bc,by rw[aw.size];exact bd,λ k hk=>(aw.cell (p:=⟨aE,bu+k,none⟩) dj).trans (cI k hk)⟩
end
end Go.Proofs.YtogdlkfacflmaaaGreat
