/- Texts joined: Mx8 G0 G1 G2 LP CP1 GC Si SI V1 V2 V3 U1 GW TP0. -/
import Derived.Test.YtiobpjoadkfhdaaGreatDoorProg
import Derived.Shelf.Sort.Plain
import Derived.Shelf.Slices.In.SortNone
import Derived.Sort.OwnSortedInts
import Derived.Test.YtiobpjoadkfhdaaGreatDoorQF3
set_option linter.unusedVariables false
set_option linter.unusedSimpArgs false
set_option linter.unusedSectionVars false
namespace Go.Am
inductive Ax (P:Program) (Sf:Nat→Type) (T:Type):Type 1 where
  | say (φ:Prop→Prop) (a:Ax P Sf T)
  | nil
  | pass (a:Ax P Sf T)
  | br (g:Nat) (c:Bool) (x y:Ax P Sf T)
  | el (f:Nat) {α:Type} (v:α→AV) (l:List α) (Q:(α→Prop)→Prop) (k:α→Ax P Sf T)
  | elA (f:Nat) {α:Type} (v:α→List AV) (l:List α) (i n:Nat) (hv:∀x,(v x).length=n) (Q:(α→Prop)→Prop) (k:α→Ax P Sf T)
  | st (f:Nat) {α:Type} (v:α→AV) (l:List α) (g:α→α) (Q:(α→Prop)→Prop) (k:α→Ax P Sf T)
  | stI (f:Nat) {α:Type} (v:α→AV) (l:List α) (Q:(α→Prop)→Prop) (k:α→Ax P Sf T)
  | app (f:Nat) {α:Type} (v:α→AV) (l xs:List α) (a:Ax P Sf T)
  | appF (f:Nat) {α:Type} (v:α→AV) (l xs:List α) (a:Ax P Sf T)
  | sub (f:Nat) {α:Type} (v:α→AV) (l:List α) (fl:Bool) (a:Ax P Sf T)
  | rep (f:Nat) {α:Type} (v:α→AV) (x:α) (a:Ax P Sf T)
  | own (f:Nat) (a:Ax P Sf T)
  | mn (f:Nat) (q:MN) (a:Ax P Sf T)
  | req (f:Nat) (p:Prop) (k:p→Ax P Sf T)
  | callP (c:PC P) (a:Ax P Sf T)
  | callH (bs:List Nat) (c:HC P) (f:Nat) (a:Ax P Sf T)
  | callA (c:PC P) (h:bU c.args) (a:Ax P Sf T)
  | cmd (c:Cmd) (a:Ax P Sf T)
  | cmdL (c:Cmd) (a:Ax P Sf T)
  | wait (a:Ax P Sf T)
  | loop (j:Nat) (nf:Sf j→NF) (I:Sf j→Prop) (mu:Sf j→Nat) (s0:Sf j) (bs:List Nat) (body:Sf j→(Sf j→List Nat→Prop)→Ax P Sf T)
  | join (j:Nat) (nf:Sf j→NF) (I:Sf j→Prop) (a:(Sf j→List Nat→Prop)→Ax P Sf T) (body:Sf j→Ax P Sf T)
  | join2 (j:Nat) (nf:Sf j→NF) (I:Sf j→Prop) (a:(Sf j→List Nat→Prop)→Ax P Sf T) (body:Sf j→Ax P Sf T)
  | bk (j:Nat) (b:Sf j→List Nat→Prop) (t:Sf j) (bs:List Nat)
  | hand (k0:Nat) (cs:List Cmd) (m1:NF) (bs:List Nat) (s2:S3) (c:AC) (h:∀n,fK P k0 n c m1.st s2) (a:Ax P Sf T)
  | hand2 (k0:Nat) (s1 s2:S3) (c:AC) (h:∀n,fK P k0 n c s1 s2) (a:Ax P Sf T)
  | handQ (k0:Nat) (m1:NF) (bs:List Nat) (s2:S3) (c:AC) (p:Prop) (h:p→∀n,fK P k0 n c m1.st s2) (a:Ax P Sf T)
  | allB (c:Bool→Prop) (k:Bool→Ax P Sf T)
  | elX (f:Nat) {α:Type} (v:α→AV) (l:List α) (i:Nat) (k:α→Ax P Sf T)
  | elI (f:Nat) {α:Type} (v:α→AV) (l:List α) (i:Int) (k:α→Ax P Sf T)
  | elJ (f:Nat) {α:Type} (v:α→AV) (l:List α) (i:Int) (k:α→Ax P Sf T)
  | stX (f:Nat) {α:Type} (v:α→AV) (l:List α) (i:Nat) (g:α→α) (k:α→Ax P Sf T)
  | stJ (f:Nat) {α:Type} (v:α→AV) (l:List α) (i:Int) (g:α→α) (k:α→Ax P Sf T)
  | fz (b:Nat) {α:Type} (v:α→AV) (l:List α) (h:∀x,(v x).pureB=true) (a:Ax P Sf T)
  | apX (f:Nat) {α:Type} (v:α→AV) (l xs:List α) (n:Nat) (a:Ax P Sf T)
  | ap0 (f:Nat) {α:Type} (v:α→AV) (l xs:List α) (a:Ax P Sf T)
  | unr (n:Nat) (a:Ax P Sf T)
  | ret (r:T)
  | retH (r:T) (m:NF) (bs:List Nat)
section
variable {P : Program} {Sf : Nat → Type} {T : Type}
def Ax.an:Ax P Sf T→An P Sf T
 | .say _ a=>a.an
 | .nil=>.nil
 | .pass a=>.pass a.an
 | .br g _ x y=>.br g x.an y.an
 | .el f v l _ k=>.el f v l λx=>(k x).an
 | .elA f v l i n hv _ k=>.elA f v l i n hv λx=>(k x).an
 | .st f v l g _ k=>.st f v l g λx=>(k x).an
 | .stI f v l _ k=>.stI f v l λx=>(k x).an
 | .app f v l xs a=>.app f v l xs a.an
 | .appF f v l xs a=>.appF f v l xs a.an
 | .sub f v l fl a=>.sub f v l fl a.an
 | .rep f v x a=>.rep f v x a.an
 | .own f a=>.own f a.an
 | .mn f q a=>.mn f q a.an
 | .req f p k=>.req f p λh=>(k h).an
 | .callP c a=>.callP c a.an
 | .callH bs c _ a=>.callH bs c a.an
 | .callA c h a=>.callA c h a.an
 | .cmd c a=>.cmd c a.an
 | .cmdL c a=>.cmdL c a.an
 | .wait a=>.wait a.an
 | .loop j nf I mu s0 bs body=>.loop j nf I mu s0 bs λt=>(body t λ_ _=>True).an
 | .join j nf I a body=>.join j nf I (a λ_ _=>True).an λt=>(body t).an
 | .join2 j nf I a body=>.join2 j nf I (a λ_ _=>True).an λt=>(body t).an
 | .bk j _ t bs=>.back j t bs
 | .hand k0 cs m1 bs s2 c h a=>.hand k0 cs m1 bs s2 c h a.an
 | .hand2 k0 s1 s2 c h a=>.hand2 k0 s1 s2 c h a.an
 | .handQ k0 m1 bs s2 c p h a=>.handQ k0 m1 bs s2 c p h a.an
 | .allB _ k=>(k true).an
 | .elX f v l _ k=>.el f v l λx=>(k x).an
 | .elI f v l _ k=>.el f v l λx=>(k x).an
 | .elJ f v l _ k=>.el f v l λx=>(k x).an
 | .stX f v l _ g k=>.st f v l g λx=>(k x).an
 | .stJ f v l _ g k=>.st f v l g λx=>(k x).an
 | .fz b v l h a=>.cmdL (.frzE b (l.map v) (ae h l)) a.an
 | .apX f v l xs _ a=>.app f v l xs a.an
 | .ap0 f v l xs a=>.app f v l xs a.an
 | .unr n a=>.unr n a.an
 | .ret r=>.ret r
 | .retH r m bs=>.retH r m bs
def Ax.vc(e:T→AV)(b:T→List (Option Blk))(r0:T):Ax P Sf T→Prop
 | .say φ a=>φ (a.vc e b r0)
 | .nil=>True
 | .pass a=>a.vc e b r0
 | .br _ c x y=>Go.Am.br c (x.vc e b r0) (y.vc e b r0)
 | .el _ _ _ Q k=>Q λx=>(k x).vc e b r0
 | .elA _ _ _ _ _ _ Q k=>Q λx=>(k x).vc e b r0
 | .st _ _ _ _ Q k=>Q λx=>(k x).vc e b r0
 | .stI _ _ _ Q k=>Q λx=>(k x).vc e b r0
 | .app _ _ _ _ a=>a.vc e b r0
 | .appF _ _ _ _ a=>a.vc e b r0
 | .sub _ _ _ _ a=>a.vc e b r0
 | .rep _ _ _ a=>a.vc e b r0
 | .own _ a=>a.vc e b r0
 | .mn _ q a=>q.say (a.vc e b r0)
 | .req _ p k=>∃h:p,(k h).vc e b r0
 | .callP c a=>Cl c (a.vc e b r0)
 | .callH bs c f a=>Ch c bs f (a.vc e b r0)
 | .callA c _ a=>Cl c (a.vc e b r0)
 | .cmd _ a=>a.vc e b r0
 | .cmdL _ a=>a.vc e b r0
 | .wait a=>a.vc e b r0
 | .loop _ nf I mu s0 bs body=>Be nf bs I s0∧∀t,I t→(body t λx bs=>Bk nf bs I mu x t).vc e b r0
 | .join _ nf I a body=>(a λx bs=>Be nf bs I x).vc e b r0∧∀t,I t→(body t).vc e b r0
 | .join2 _ nf I a body=>(a λx bs=>Be nf bs I x).vc e b r0∧∀t,I t→(body t).vc e b r0
 | .bk _ b t bs=>b t bs
 | .hand _ _ m1 bs _ c _ a=>Nf m1 bs (Rf c (a.vc e b r0))
 | .hand2 _ s1 _ c _ a=>Rf s1 (Rf c (a.vc e b r0))
 | .handQ _ m1 bs _ c p _ a=>Nf m1 bs (Rf c (p∧a.vc e b r0))
 | .allB c k=>∀x,c x→(k x).vc e b r0
 | .elX _ v l i k=>Rf (l.map v) (ck (decide (i<l.length)) (∀x,l[i]?=some x→(k x).vc e b r0))
 | .elI _ v l i k=>Rf (l.map v) (ck (decide (0≤i)) (ck (decide (i<(l.length:Int))) (∀x,l[i.toNat]?=some x→(k x).vc e b r0)))
 | .elJ _ v l i k=>ck (cond (decide (0≤i)) (decide (i<((l.map v).length:Int))) false) (Rf (l.map v) (ck (decide (i.toNat<l.length)) (∀x,l[i.toNat]?=some x→(k x).vc e b r0)))
 | .stX _ v l i g k=>Rf (l.map v) (ck (decide (i<l.length)) (∀o,l[i]?=some o→Rf (v (g o)) ((k o).vc e b r0)))
 | .stJ _ v l i g k=>ck (cond (decide (0≤i)) (decide (i<((l.map v).length:Int))) false) (Rf (l.map v) (ck (decide (i.toNat<l.length)) (∀o,l[i.toNat]?=some o→Rf (v (g o)) ((k o).vc e b r0))))
 | .fz _ v l _ a=>Rf (l.map v) (a.vc e b r0)
 | .apX _ v l xs n a=>Rf (l.map v) (Rf (xs.map v) (ck (decide (n≤1048576)) (a.vc e b r0)))
 | .ap0 _ v l xs a=>Rf (l.map v) (Rf (xs.map v) (a.vc e b r0))
 | .unr _ a=>a.vc e b r0
 | .ret r=>Rp e r r0
 | .retH r m bs=>Qt m bs e b r r0
def Ax.vp(e:T→AV)(r0:T)(x:Ax P Sf T):Prop:=x.vc e (λ_=>[]) r0
end
def rR(r b:Nat):Nat×Sh×AV:=(r,.k,.ref b 0)
def rI(r:Nat)(x:Int):Nat×Sh×AV:=(r,.k,.int x)
def rB(r:Nat)(x:Bool):Nat×Sh×AV:=(r,.k,.bool x)
def rV(r b:Nat):Nat×Sh×AV:=(r,.k,.vec b)
def vB(k:Nat){α:Type}(v:α→AV)(l:List α)(h:∀x,(v x).pureB=true):PB:=.vec k (l.map v) (ae h l)
def pcO{P:Program}{Sf:Nat→Type}{T:Type}(f:FuncId)(shs:List Sh)(args:List AV)(sh:Sh)(e:T→AV)(r:T)(h:okL args→∃x:Ax P Sf T,x.vp e r∧mxP P f args sh e x.an r=x.vp e r)(hp:(e r).pureB=true)(hf:fnB P f=true):PC P:=
 ⟨f,shs,args,e r,eQ.of_ok λok=>(h ok).elim λ_ h=>Sd h.1 h.2 (AV.pureB_ok hp),iO hf⟩
def hcO{P:Program}{Sf:Nat→Type}{T:Type}(f:FuncId)(shs:List Sh)(args:List AV)(hs:List Blk)(sh:Sh)(e:T→AV)(b:T→List (Option Blk))(r:T)(h:okL args→(∀x∈hs,x.ok)→∃x:Ax P Sf T,x.vc e b r∧mxH P f args hs sh e b x.an r=x.vc e b r)(hf:fnB P f=true)(hg:hcB args hs (e r) (b r)=true):HC P:=
 ⟨f,shs,args,hs,e r,b r,bc.of_okh λok ok2=>(h ok ok2).elim λ_ h=>Iz h.1 h.2,iO hf,qT.of hg⟩
@[reducible] def noS:Nat→Type:=λ_=>Unit
end Go.Am
namespace Go.Proofs.YtiobpjoadkfhdaaGreatDoor
open Go Go.Am
structure Flt where
  mode:Int
  srcs:List Int
  deriving DecidableEq
structure Tap where
  L:List Int
  p:Nat
structure uT where
  L:List Int
  p:Int
def Flt.v(x:Flt):AV:=.agg [.int x.mode,.sl 1 (x.srcs.map AV.int) false]
def Tap.v(x:Tap):AV:=.agg [.sl 1 (x.L.map AV.int) false,.int x.p]
def uT.v(x:uT):AV:=.agg [.sl 1 (x.L.map AV.int) false,.int x.p]
@[simp] theorem z6 (l:List Int):bM (l.map AV.int)=true:=ae (λ_=>rfl) l
def Mod(x n:Int):Int:=if n<1 then 0 else if x.tmod n<0 then x.tmod n+n else x.tmod n
theorem bt{x n:Int}(h:1≤n):0≤Mod x n∧Mod x n<n:=by
 have hb:=Int.tmod_lt_of_pos x (show 0<n by omega);have hb':=Int.lt_tmod_of_pos x (show 0<n by omega)
 unfold Mod;split
 ·omega
 split<;>omega
def QT(x:Int)(n:Int):=okL [.int x,.int n]
def QS(r:Int):AV:=.int r
def Mf(x:Int)(n:Int):Ax Tryz.prog noS (Int):=
 (.br 48 (decide (n<1)) (.ret (0))
(.say (ck (!(n==0))) (.br 144 (decide ((x.tmod n)<0)) (.ret (W ((x.tmod n)+n)))
(.ret (x.tmod n)))))
theorem Mod_p(x n:Int)(ok:QT x n):(Mf x n).vp QS (Mod x n):=by
 simp only[QT,okU,Blk.ok,aU,f']at ok;dsimp only[Mf,noS,Ax.vp,Ax.vc];simp only[vcU,rfU,f'];refine⟨λh=>by rw[Mod,if_pos h],λh=>⟨by simp;omega,λh2=>?_,λh2=>by rw[Mod,u' h,u' h2]⟩⟩;have hb:=Int.tmod_lt_of_pos x (show 0<n by omega);have hb':=Int.lt_tmod_of_pos x (show 0<n by omega);rw[Mod,u' h,if_pos h2,cf (by omega)]
def Mod_c(x:Int)(n:Int):PC Tryz.prog:=pcO 71 [.k,.k] [.int x,.int n] .k QS (Mod x n) (λok=>⟨(Mf x n),Mod_p x n ok,by kernel_rfl⟩) rfl (by kernel_rfl)
def ab(L:List Int)(p:Nat):Nat:=if L.length≤p then p else p+1
def aj(L:List Int)(p:Nat):Int:=L.getD p 0
def QP(L:List Int)(p:Int):=okL [.ref 0 0]∧(.box (.agg [.sl 1 (L.map AV.int) false,.int p]):Blk).ok
def LX(r:uT×Int):AV:=.int r.2
def Ea(r:uT×Int):List (Option Blk):=[some (.box (uT.v r.1))]
def DZ(L:List Int)(p:Int):Ax Tryz.prog noS (uT×Int):=
 (.br 177 (decide (((L.map AV.int).length:Int)≤p)) (.retH ((⟨L,p⟩:uT),0) ⟨[rI 2 0],[.box (.agg [.sl 1 (L.map AV.int) false,.int p])]⟩ [0])
(.elI 449 AV.int L (W ((W (p+1))-1)) λx1 =>
(.retH ((⟨L,W (p+1)⟩:uT),x1) ⟨[rI 2 x1],[.box (.agg [.sl 1 (L.map AV.int) false,.int (W (p+1))])]⟩ [0])))
theorem TF(L:List Int)(p:Int)(r0:uT×Int)(h:(DZ L p).vc LX Ea r0):bc Tryz.prog 72 [.ref 0 0] [.box (.agg [.sl 1 (L.map AV.int) false,.int p])] (LX r0) (Ea r0):=Iz (sh:=.k) (hB:=Ea) (a:=(DZ L p).an) h (by kernel_rfl)
theorem Raw_p(L:List Int)(p:Nat)(ok:QP L p):(DZ L p).vc LX Ea (⟨L,ab L p⟩,aj L p):=by
 simp only[QP,okU,Blk.ok,aU,f']at ok;dsimp only[DZ,noS,Ax.vp,Ax.vc];simp only[vcU,rfU,f']
 refine⟨λh=>?_,λh=>?_⟩
 ·rw[ab,if_pos (by omega)];simp[aj,av' (show L.length≤p by omega)]
 ·have e1:W ((p:Int)+1)=p+1:=cf (by omega);have e2:W ((p:Int)+1-1)=p:=by rw[cf (by omega)];omega
  rw[e1,e2];refine⟨by omega,by omega,λx hx=>?_⟩;rw[Int.toNat_natCast]at hx;rw[ab,u' (by omega)];simp[aj,hx]
theorem LV(L:List Int)(p:Nat):bc Tryz.prog 72 [.ref 0 0] [.box (Tap.v ⟨L,p⟩)] (.int (aj L p)) [some (.box (Tap.v ⟨L,ab L p⟩))]:=
 bc.of_okh λok ok2=>TF L p _ (Raw_p L p ⟨ok,ok2 _ (O'.mpr rfl)⟩)
def Raw_h(L:List Int)(p:Nat):HC Tryz.prog:=⟨72,[],[.ref 0 0],[.box (Tap.v ⟨L,p⟩)],.int (aj L p),[some (.box (Tap.v ⟨L,ab L p⟩))],LV L p,iO (by kernel_rfl),qT.of rfl⟩
def N_e(r:Tap×Int):AV:=.int r.2
def N_b(r:Tap×Int):List (Option Blk):=[some (.box (Tap.v r.1))]
def N_x(L:List Int)(p:Nat)(n:Int):Ax Tryz.prog noS (Tap×Int):=
 (.callH [0] (Raw_h L p) 33
(.callP (Mod_c (aj L p) n)
(.retH ((⟨L,ab L p⟩:Tap),Mod (aj L p) n) ⟨[rI 4 (Mod (aj L p) n)],[.box (.agg [.sl 1 (L.map AV.int) false,.int (ab L p)])]⟩ [0])))
theorem N_p(L:List Int)(p:Nat)(n:Int):(N_x L p n).vc N_e N_b (⟨L,ab L p⟩,Mod (aj L p) n):=by
 dsimp only[N_x,noS,Ax.vp,Ax.vc];simp only[vcU,rfU,f']
def N_h(L:List Int)(p:Nat)(n:Int):HC Tryz.prog:=hcO 19 [.k,.k] [.ref 0 0,.int n] [.box (.agg [.sl 1 (L.map AV.int) false,.int p])] .k N_e N_b ((⟨L,ab L p⟩,Mod (aj L p) n):Tap×Int) (λ_ _=>⟨(N_x L p n),N_p L p n,by kernel_rfl⟩) (by kernel_rfl) (by simp[hcB,bJ,AV.belB,allB,cF,bW,N_e,N_b,Tap.v,ae (v:=AV.int) (λ_=>rfl)])
def rng(L:List Int)(p:Nat)(lo hi:Int):Int:=W (lo+Mod (aj L p) (W (W (hi-lo)+1)))
def uW(r:Tap×Int):AV:=.int r.2
def uX(r:Tap×Int):List (Option Blk):=[some (.box (Tap.v r.1))]
def uV(L:List Int)(p:Nat)(lo:Int)(hi:Int):Ax Tryz.prog noS (Tap×Int):=
 (.callH [0] (N_h L p (W ((W (hi-lo))+1))) 113
(.retH ((⟨L,ab L p⟩:Tap),W (lo+(Mod (aj L p) (W ((W (hi-lo))+1))))) ⟨[rI 6 (W (lo+(Mod (aj L p) (W ((W (hi-lo))+1)))))],[.box (.agg [.sl 1 (L.map AV.int) false,.int (ab L p)])]⟩ [0]))
theorem PT(L:List Int)(p:Nat)(lo hi:Int):(uV L p lo hi).vc uW uX (⟨L,ab L p⟩,rng L p lo hi):=by
 dsimp only[uV,noS,Ax.vp,Ax.vc];simp only[vcU,rfU,f'];rfl
def fj(L:List Int)(p:Nat)(lo:Int)(hi:Int):HC Tryz.prog:=hcO 128 [.k,.k,.k] [.ref 0 0,.int lo,.int hi] [.box (.agg [.sl 1 (L.map AV.int) false,.int p])] .k uW uX ((⟨L,ab L p⟩,rng L p lo hi):Tap×Int) (λ_ _=>⟨(uV L p lo hi),PT L p lo hi,by kernel_rfl⟩) (by kernel_rfl) (by simp[hcB,bJ,AV.belB,allB,cF,bW,uW,uX,Tap.v,ae (v:=AV.int) (λ_=>rfl)])
def ay(l:List Int)(r:Int):Int:=l.getD (Mod r l.length).toNat 0
def Bv(r:Tap×Int):AV:=.int r.2
def Bw(r:Tap×Int):List (Option Blk):=[some (.box (Tap.v r.1))]
def Bu(L:List Int)(p:Nat)(l:List Int):Ax Tryz.prog noS (Tap×Int):=
 (.callH [0] (N_h L p ((l.map AV.int).length:Int)) 81
(.elI 97 AV.int l (Mod (aj L p) ((l.map AV.int).length:Int)) λx1 =>
(.retH ((⟨L,ab L p⟩:Tap),x1) ⟨[rI 4 x1],[.box (.agg [.sl 1 (L.map AV.int) false,.int (ab L p)])]⟩ [0])))
theorem TH(L:List Int)(p:Nat)(l:List Int)(hl:l≠[]):(Bu L p l).vc Bv Bw (⟨L,ab L p⟩,ay l (aj L p)):=by
 have hl:0<l.length:=cu'.mpr hl;have hm:=bt (x:=aj L p) (show 1≤(l.length:Int) by omega);dsimp only[Bu,noS,Ax.vp,Ax.vc];simp only[vcU,rfU,f'];refine⟨by omega,by omega,λx hx=>?_⟩;rw[ay,J',hx];rfl
def fJ(L:List Int)(p:Nat)(l:List Int)(hl:l≠[]):HC Tryz.prog:=hcO 42 [.k,(.s 1)] [.ref 0 0,.sl 1 (l.map AV.int) false] [.box (.agg [.sl 1 (L.map AV.int) false,.int p])] .k Bv Bw ((⟨L,ab L p⟩,ay l (aj L p)):Tap×Int) (λ_ _=>⟨(Bu L p l),TH L p l hl,by kernel_rfl⟩) (by kernel_rfl) (by simp[hcB,bJ,AV.belB,allB,cF,bW,Bv,Bw,Tap.v,ae (v:=AV.int) (λ_=>rfl)])
def QR(t:List Int):=okL [.sl 1 (t.map AV.int) false]
def Md(r:Tap):AV:=.ref 0 0
def Me(r:Tap):List (Option Blk):=[some (.box (Tap.v r))]
def Mc(t:List Int):Ax Tryz.prog noS (Tap):=
 (.say (λR=>Rf (α:=List AV) (t.map AV.int) (ck (cj t.length 0 (gW ((t.map AV.int).length:Int) 2000) (t.length:Int))
R)) (.sub 80 AV.int t false
(.retH (⟨(t.take ((gW ((t.map AV.int).length:Int) 2000).toNat)).drop 0,0⟩:Tap) ⟨[rR 2 0],[.box (.agg [.sl 1 (((t.take ((gW ((t.map AV.int).length:Int) 2000).toNat)).drop 0).map AV.int) false,.int 0])]⟩ [112])))
theorem New_p(t:List Int)(ok:QR t):(Mc t).vc Md Me ⟨t.take 2000,0⟩:=by
 simp only[QR,okU,Blk.ok,aU,f']at ok;dsimp only[Mc,noS,Ax.vp,Ax.vc];simp only[vcU,rfU,f'];have hm:gW (t.length:Int) 2000=((min t.length 2000:Nat):Int):=by unfold gW;split<;>omega
 rw[hm];refine⟨by simp[cj];omega,?_⟩;rw[Int.toNat_natCast,bf']
 congr 1
 rcases Nat.le_total t.length 2000 with h|h
 ·rw[aO' h,G' (V' _),G' h]
 ·rw[cq' h]
def New_h(t:List Int):HC Tryz.prog:=hcO 8 [(.s 1)] [.sl 1 (t.map AV.int) false] [] .k Md Me (⟨t.take 2000,0⟩:Tap) (λok _=>⟨(Mc t),New_p t ok,by kernel_rfl⟩) (by kernel_rfl) (by simp[hcB,bJ,AV.belB,allB,cF,bW,Md,Me,Tap.v,ae (v:=AV.int) (λ_=>rfl)])
def OE(l:List Int):AV:=.sl 1 (l.map .int) false
def jg(l:List Int):Prop:=∀i,i<l.length-1→l.getD i 0<l.getD (i+1) 0
instance (l:List Int):Decidable (jg l):=by unfold jg;infer_instance
def ko(l:List Int):Prop:=∀s∈l,1≤s∧s≤99
instance (l:List Int):Decidable (ko l):=by unfold ko;infer_instance
def am(m:Int)(l:List Int):Int:=if ¬(m=1∨m=2)then 1 else if ¬ko l then 2 else if ¬jg l then 25 else 0
theorem j3{l:List Int}{i:Nat}(h:i<l.length):l.getD i 0=l[i]:=by
 simp[J',E' h]
theorem gP{l:List Int}{i:Nat}{x:Int}(h:l[i]?=some x):l.getD i 0=x:=by
 simp[J',h]
def orI(l:List Int):Int:=(l.find? (· != 0)).getD 0
def cmpI(x y:Int):Int:=if x<y then -1 else if y<x then 1 else 0
def pP(x:Int):Bool:=false
theorem ao{k n:Nat}(h:k<n)(hn:n≤9223372036854775807):W ((k:Int)+1)=((k+1:Nat):Int):=by rw[cf (by omega)];omega
theorem dX{k:Nat}(h:k≤9223372036854775807)(h1:1≤k):W ((k:Int)-1)=((k-1:Nat):Int):=by rw[cf (by omega)];omega
def Dh(r:Bool):AV:=.bool r
def uh(x:Int):Ax Tryz.prog noS (Bool):=
 (.ret (x != x))
theorem OD(x:Int):(uh x).vp Dh (pP x):=by
 dsimp only[uh,noS,Ax.vp,Ax.vc];simp only[vcU,rfU,f'];simp[pP]
def Di(x:Int):PC Tryz.prog:=pcO 329 [.k] [.int x] .k Dh (pP x) (λ_=>⟨(uh x),OD x,by kernel_rfl⟩) rfl (by kernel_rfl)
def KG(r:Int):AV:=.int r
def AG(x:Int)(y:Int):Ax Tryz.prog noS (Int):=
 (.callP (Di x)
(.callP (Di y)
(.br 128 (pP x) (.br 144 (pP y) (.ret (0))
(.ret (-1)))
(.br 144 (pP y) (.ret (1))
(.br 192 (decide (x<y)) (.ret (-1))
(.br 240 (decide (y<x)) (.ret (1))
(.ret (0))))))))
theorem SY(x y:Int):(AG x y).vp KG (cmpI x y):=by
 dsimp only[AG,noS,Ax.vp,Ax.vc];simp only[vcU,rfU,f'];simp only[pP,bk',false_implies,true_implies,true_and,cmpI];refine⟨λh=>by rw[if_pos h],λh=>⟨λh2=>by rw[u' h,if_pos h2],λh2=>by rw[u' h,u' h2]⟩⟩
def nG(x:Int)(y:Int):PC Tryz.prog:=pcO 257 [.k,.k] [.int x,.int y] .k KG (cmpI x y) (λ_=>⟨(AG x y),SY x y,by kernel_rfl⟩) rfl (by kernel_rfl)
theorem nw{l:List Int}{k:Nat}{x:Int}(h:l.take k |>.all (·==0))(hx:l[k]?=some x)(hn:x≠0):l.find? (· != 0)=some x:=by
 rw[ch'];refine⟨by simpa using hn,k,aw hx,by rw[E' (aw hx)]at hx;exact ao' hx,λj hj=>?_⟩;have:=ba'.mp h (l[j]'(by have:=aw hx;omega)) (bK'.mpr ⟨j,by have:=aw hx;omega,rfl⟩);simpa using this
def Qz(vals:List Int):=okL [.sl 1 (vals.map AV.int) false]
def RM(vals:List Int)(t0:Int):NF:=⟨[rI 3 0,(6,.k,.sl 1 (vals.map AV.int) false),rI 7 ((vals.map AV.int).length:Int),rI 8 t0],[]⟩
@[reducible] def Qx:Nat→Type
 | 0=>Int
 | _=>Unit
def Qy(r:Int):AV:=.int r
def Qw(vals:List Int)(I0:Int→Prop)(m0:Int→Nat):Ax Tryz.prog Qx (Int):=
 (.loop 0 (RM vals) I0 m0 ((0):Int) [] λ(t0:Int) b0 =>
(.br 16 (decide (t0<((vals.map AV.int).length:Int))) (.elI 16 AV.int vals t0 λx1 =>
(.br 112 (x1 != 0) (.ret (x1))
(.bk 0 b0 ((W (t0+1)):Int) [])))
(.ret (0))))
theorem orI_p(vals:List Int)(ok:Qz vals):∃I m,(Qw vals I m).vp Qy (orI vals):=by
 simp only[Qz,okU,Blk.ok,aU,f']at ok;refine⟨λt=>∃k:Nat,t=k∧k≤vals.length∧(vals.take k).all (·==0),λt=>vals.length-t.toNat,?_⟩
 dsimp only[Qw,Qx,Ax.vp,Ax.vc];simp only[vcU,rfU,f'];refine⟨⟨0,rfl,by omega,by simp⟩,?_⟩;rintro _ ⟨k,rfl,hk,h⟩
 refine⟨λh1=>⟨by omega,by omega,λx hx=>⟨λhn=>?_,λhn=>?_⟩⟩,λh1=>?_⟩
 ·rw[Int.toNat_natCast]at hx;rw[orI,nw h hx (by simpa using hn)];rfl
 ·rw[Int.toNat_natCast]at hx;have hlt:=aw hx;rw[ao (n:=vals.length) (by omega) (by omega)];refine⟨⟨k+1,rfl,by omega,?_⟩,by omega⟩;rw[al hx,List.all_append,h];simpa using hn
 ·rw[G' (by omega)]at h
  rw[orI,aL'.mpr]
  ·rfl
  ·intro x hx;simpa using ba'.mp h x hx
def vZ(vals:List Int):PC Tryz.prog:=pcO 52 [(.s 1)] [.sl 1 (vals.map AV.int) false] .k Qy (orI vals) (λok=>let ⟨I0,m0,h⟩:=orI_p vals ok;⟨_,h,by kernel_rfl⟩) rfl (by kernel_rfl)
def xV(r:List Int):AV:=.sl 1 (r.map AV.int) false
def q9(s:List Int):Ax Tryz.prog noS ((List Int)):=
 (.allB (λb1=>((s.map AV.int)≠[]→b1=false)) λb1 =>
(.br 48 (b1 != false) (.ret ([]))
(.apX 80 AV.int [] s (0+s.length)
(.fz 80 AV.int s (λ_=>rfl) (.ret (s))))))
theorem KV(s:List Int)(h:s.length≤1000000):(q9 s).vp xV s:=by
 dsimp only[q9,noS,Ax.vp,Ax.vc];simp only[vcU,rfU,f'];intro b hb;simp only[z6,true_and,and_true,aB'];refine⟨λh1=>?_,λ_=>by omega⟩;cases s with
 | nil=>rfl
 | cons x s=>simp at hb;simp[hb]at h1
def mD(s:List Int)(h:s.length≤1000000):PC Tryz.prog:=pcO 204 [(.s 1)] [.sl 1 (s.map AV.int) false] (.s 1) xV s (λ_=>⟨(q9 s),KV s h,by kernel_rfl⟩) rfl (by kernel_rfl)
theorem BN{a b:List Int}{k:Nat}{x y:Int}(h:a.take k=b.take k)(hx:a[k]?=some x)(hy:b[k]?=some y)(e:(x != y)=false):a.take (k+1)=b.take (k+1):=by
 have e:x=y:=by simpa using e
 rw[al hx,al hy,h,e]
def nP(a b:List Int):Bool:=decide (a=b)
abbrev EqI:=nP
def yJ(a:List Int)(b:List Int):=okL [.sl 1 (a.map AV.int) false,.sl 1 (b.map AV.int) false]
def FY(a:List Int)(b:List Int)(t0:Int):NF:=⟨[(0,.k,.sl 1 (a.map AV.int) false),(1,.k,.sl 1 (b.map AV.int) false),rI 5 t0],[]⟩
@[reducible] def yH:Nat→Type
 | 0=>Int
 | _=>Unit
def yI(r:Bool):AV:=.bool r
def yG(a:List Int)(b:List Int)(I0:Int→Prop)(m0:Int→Nat):Ax Tryz.prog yH (Bool):=
 (.br 96 (((a.map AV.int).length:Int) != ((b.map AV.int).length:Int)) (.ret (false))
(.loop 0 (FY a b) I0 m0 ((0):Int) [] λ(t0:Int) b0 =>
(.br 64 (decide (t0<((a.map AV.int).length:Int))) (.elI 96 AV.int a t0 λx1 =>
(.elI 160 AV.int b t0 λx2 =>
(.br 208 (x1 != x2) (.ret (false))
(.bk 0 b0 ((W (t0+1)):Int) []))))
(.ret (true)))))
theorem Mg(a b:List Int)(ok:yJ a b):∃I m,(yG a b I m).vp yI (nP a b):=by
 simp only[yJ,okU,Blk.ok,aU,f']at ok;refine⟨λi=>∃k:Nat,i=k∧k≤a.length∧a.take k=b.take k,λi=>a.length-i.toNat,?_⟩;dsimp only[yG,yH,Ax.vp,Ax.vc];simp only[vcU,rfU,f']
 refine⟨λh=>?_,λh=>⟨⟨0,rfl,by omega,rfl⟩,?_⟩⟩
 ·refine(decide_eq_false λe=>?_).symm;subst e;simp at h
 have hl:a.length=b.length:=by simp at h;omega
 rintro _ ⟨k,rfl,hk,h⟩;simp only[Int.toNat_natCast]
 refine⟨λh1=>⟨by omega,by omega,λx hx=>⟨by omega,by omega,λy hy=>⟨λe=>?_,λe=>?_⟩⟩⟩,λh1=>?_⟩
 ·refine(decide_eq_false λe'=>?_).symm;subst e';rw[hx]at hy;cases hy;simp at e
 ·rw[ao (n:=a.length) (by omega) (by omega)];exact⟨⟨k+1,rfl,by omega,BN h hx hy e⟩,by omega⟩
 ·rw[G' (by omega),G' (by omega)]at h;exact(decide_eq_true h).symm
def Mh(a:List Int)(b:List Int):PC Tryz.prog:=pcO 166 [(.s 1),(.s 1)] [.sl 1 (a.map AV.int) false,.sl 1 (b.map AV.int) false] .k yI (nP a b) (λok=>let ⟨I0,m0,h⟩:=Mg a b ok;⟨_,h,by kernel_rfl⟩) rfl (by kernel_rfl)
def Rc(s1:List Int)(s2:List Int):=okL [.sl 1 (s1.map AV.int) false,.sl 1 (s2.map AV.int) false]
def TP(s1:List Int)(s2:List Int)(t0:Int):NF:=⟨[(0,.k,.sl 1 (s1.map AV.int) false),(1,.k,.sl 1 (s2.map AV.int) false),rI 12 ((s1.map AV.int).length:Int),rI 13 t0],[]⟩
@[reducible] def Ra:Nat→Type
 | 0=>Int
 | _=>Unit
def Rb(r:Bool):AV:=.bool r
def QZ(s1:List Int)(s2:List Int)(I0:Int→Prop)(m0:Int→Nat):Ax Tryz.prog Ra (Bool):=
 (.br 96 (((s1.map AV.int).length:Int) != ((s2.map AV.int).length:Int)) (.ret (false))
(.loop 0 (TP s1 s2) I0 m0 ((0):Int) [] λ(t0:Int) b0 =>
(.br 16 (decide (t0<((s1.map AV.int).length:Int))) (.elI 80 AV.int s1 t0 λx1 =>
(.elI 144 AV.int s2 t0 λx2 =>
(.br 192 (x1 != x2) (.ret (false))
(.bk 0 b0 ((W (t0+1)):Int) []))))
(.ret (true)))))
theorem EqI_p(a b:List Int)(ok:Rc a b):∃I m,(QZ a b I m).vp Rb (EqI a b):=by
 simp only[Rc,okU,Blk.ok,aU,f']at ok;refine⟨λi=>∃k:Nat,i=k∧k≤a.length∧a.take k=b.take k,λi=>a.length-i.toNat,?_⟩;dsimp only[QZ,Ra,Ax.vp,Ax.vc];simp only[vcU,rfU,f']
 refine⟨λh=>?_,λh=>⟨⟨0,rfl,by omega,rfl⟩,?_⟩⟩
 ·refine(decide_eq_false λe=>?_).symm;subst e;simp at h
 have hl:a.length=b.length:=by simp at h;omega
 rintro _ ⟨k,rfl,hk,h⟩;simp only[Int.toNat_natCast]
 refine⟨λh1=>⟨by omega,by omega,λx hx=>⟨by omega,by omega,λy hy=>⟨λe=>?_,λe=>?_⟩⟩⟩,λh1=>?_⟩
 ·refine(decide_eq_false λe'=>?_).symm;subst e';rw[hx]at hy;cases hy;simp at e
 ·rw[ao (n:=a.length) (by omega) (by omega)];exact⟨⟨k+1,rfl,by omega,BN h hx hy e⟩,by omega⟩
 ·rw[G' (by omega),G' (by omega)]at h;exact(decide_eq_true h).symm
def EqI_c(s1:List Int)(s2:List Int):PC Tryz.prog:=pcO 208 [(.s 1),(.s 1)] [.sl 1 (s1.map AV.int) false,.sl 1 (s2.map AV.int) false] .k Rb (EqI s1 s2) (λok=>let ⟨I0,m0,h⟩:=EqI_p s1 s2 ok;⟨_,h,by kernel_rfl⟩) rfl (by kernel_rfl)
def QX(l:List Int)(x:Int):=okL [.sl 1 (l.map AV.int) false,.int x]
def TJ(l:List Int)(x:Int)(t0:Int):NF:=⟨[(0,.k,.sl 1 (l.map AV.int) false),rI 1 x,rI 5 t0],[]⟩
@[reducible] def QV:Nat→Type
 | 0=>Int
 | _=>Unit
def QW(r:Bool):AV:=.bool r
def QU(l:List Int)(x:Int)(I0:Int→Prop)(m0:Int→Nat):Ax Tryz.prog QV (Bool):=
 (.loop 0 (TJ l x) I0 m0 ((0):Int) [] λ(t0:Int) b0 =>
(.br 64 (decide (t0<((l.map AV.int).length:Int))) (.elI 96 AV.int l t0 λx1 =>
(.br 160 (x1==x) (.ret (true))
(.bk 0 b0 ((W (t0+1)):Int) [])))
(.ret (false))))
def InI(l:List Int)(x:Int):Bool:=decide (x∈l)
theorem InI_p(l:List Int)(x:Int)(ok:QX l x):∃I m,(QU l x I m).vp QW (InI l x):=by
 simp only[QX,okU,Blk.ok,aU,f']at ok;refine⟨λi=>∃k:Nat,i=k∧k≤l.length∧x ∉ l.take k,λi=>l.length-i.toNat,?_⟩;dsimp only[QU,QV,Ax.vp,Ax.vc];simp only[vcU,rfU,f'];refine⟨⟨0,rfl,by omega,by simp⟩,?_⟩;rintro _ ⟨k,rfl,hk,h⟩;simp only[Int.toNat_natCast]
 refine⟨λh1=>⟨by omega,by omega,λy hy=>⟨λe=>?_,λe=>?_⟩⟩,λh1=>?_⟩
 ·exact(decide_eq_true (by have:=aq hy;simp at e;rwa [e]at this)).symm
 ·rw[ao (n:=l.length) (by omega) (by omega)];refine⟨⟨k+1,rfl,by omega,?_⟩,by omega⟩;rw[al hy];simp at e ⊢;exact⟨h,λe'=>e e'.symm⟩
 ·rw[G' (by omega)]at h;exact(decide_eq_false h).symm
def yK(l:List Int)(x:Int):PC Tryz.prog:=pcO 155 [(.s 1),.k] [.sl 1 (l.map AV.int) false,.int x] .k QW (InI l x) (λok=>let ⟨I0,m0,h⟩:=InI_p l x ok;⟨_,h,by kernel_rfl⟩) rfl (by kernel_rfl)
def Ec:Flt:=⟨1,[]⟩
def tc(r:Flt):AV:=Flt.v r
def nO:Ax Tryz.prog noS (Flt):=
 (.ret ((⟨1,[]⟩:Flt)))
theorem FX:nO.vp tc Ec:=by
 dsimp only[nO,noS,Ax.vp,Ax.vc];simp only[vcU,rfU,f'];rfl
def fe:PC Tryz.prog:=pcO 66 [] [] (.a [.k,(.s 1)]) tc Ec (λ_=>⟨(nO),FX,by kernel_rfl⟩) rfl (by kernel_rfl)
def cE(a b:Flt):Bool:=decide (a=b)
abbrev ou:=cE
theorem eO{a b:Flt}:a=b↔a.mode=b.mode∧a.srcs=b.srcs:=by cases a;cases b;simp
def Ed(r:Bool):AV:=.bool r
def vb(a:Flt)(b:Flt):Ax Tryz.prog noS (Bool):=
 (.br 144 (a.mode==b.mode) (.callP (Mh a.srcs b.srcs)
(.ret (nP a.srcs b.srcs)))
(.ret (false)))
theorem Qe(a b:Flt):(vb a b).vp Ed (cE a b):=by
 dsimp only[vb,noS,Ax.vp,Ax.vc];simp only[vcU,rfU,f'];simp only[cE,nP,eO];refine⟨λh=>?_,λh=>?_⟩<;>simp at h<;>simp[h]
def iY(a:Flt)(b:Flt):PC Tryz.prog:=pcO 70 [(.a [.k,(.s 1)]),(.a [.k,(.s 1)])] [Flt.v a,Flt.v b] .k Ed (cE a b) (λ_=>⟨(vb a b),Qe a b,by kernel_rfl⟩) rfl (by kernel_rfl)
def Eb(r:Bool):AV:=.bool r
def uY(a:Flt)(b:Flt):Ax Tryz.prog noS (Bool):=
 (.br 144 (a.mode==b.mode) (.callP (EqI_c a.srcs b.srcs)
(.ret (EqI a.srcs b.srcs)))
(.ret (false)))
theorem PX(a b:Flt):(uY a b).vp Eb (ou a b):=by
 dsimp only[uY,noS,Ax.vp,Ax.vc];simp only[vcU,rfU,f'];simp only[cE,nP,eO];refine⟨λh=>?_,λh=>?_⟩<;>simp at h<;>simp[h]
def uZ(a:Flt)(b:Flt):PC Tryz.prog:=pcO 151 [(.a [.k,(.s 1)]),(.a [.k,(.s 1)])] [Flt.v a,Flt.v b] .k Eb (ou a b) (λ_=>⟨(uY a b),PX a b,by kernel_rfl⟩) rfl (by kernel_rfl)
theorem jH{l:List Int}:jg l↔∀j x y,l[j]?=some x→l[j+1]?=some y→x<y:=by
 unfold jg
 constructor
 ·intro h j x y hx hy;have:=h j (by have:=aw hy;omega)
  rwa [gP hx,gP hy]at this
 ·intro h i hi;have e1:=E' (show i<l.length by omega);have e2:=E' (show i+1<l.length by omega);rw[gP e1,gP e2];exact h i _ _ e1 e2
def FVal(f:Flt):Int:=am f.mode f.srcs
abbrev PVal:=FVal
def Mm(f:Flt):=okL [Flt.v f]
def Qd(f:Flt)(t0:Unit):NF:=⟨[rR 1 0],[.box (Flt.v f)]⟩
def Qc(f:Flt)(t1:Int):NF:=⟨[rR 1 0,(15,.k,.sl 1 (f.srcs.map AV.int) false),rI 16 ((f.srcs.map AV.int).length:Int),rI 17 t1],[.box (Flt.v f)]⟩
def Qb(f:Flt)(t2:Int):NF:=⟨[rR 1 0,rI 5 t2],[.box (Flt.v f)]⟩
@[reducible] def Mk:Nat→Type
 | 0=>Unit
 | 1=>Int
 | 2=>Int
 | _=>Unit
def Ml(r:Int):AV:=.int r
def Mj(f:Flt)(I1:Unit→Int→Prop)(m1:Unit→Int→Nat)(I2:Unit→Int→Int→Prop)(m2:Unit→Int→Int→Nat):Ax Tryz.prog Mk (Int):=
 (.pass (.join 0 (Qd f) (λ(t0:Unit)=>(bif (f.mode != 1)then(bif (f.mode != 2)then false else true)else true)=true) (λb0=>(.br 96 (f.mode != 1) (.br 160 (f.mode != 2) (.ret (1))
(.bk 0 b0 ((()):Unit) [0]))
(.bk 0 b0 ((()):Unit) [0]))) λ(t0:Unit) =>
(.loop 1 (Qc f) (I1 t0) (m1 t0) ((0):Int) [0] λ(t1:Int) b1 =>
(.br 17 (decide (t1<((f.srcs.map AV.int).length:Int))) (.elI 17 AV.int f.srcs t1 λx1 =>
(.br 113 (decide (x1<1)) (.ret (2))
(.br 161 (decide (99<x1)) (.ret (2))
(.bk 1 b1 ((W (t1+1)):Int) [0]))))
(.loop 2 (Qb f) (I2 t0 t1) (m2 t0 t1) ((1):Int) [0] λ(t2:Int) b2 =>
(.br 81 (decide (t2<((f.srcs.map AV.int).length:Int))) (.elI 145 AV.int f.srcs (W (t2-1)) λx2 =>
(.elI 225 AV.int f.srcs t2 λx3 =>
(.br 273 (decide (x3≤x2)) (.ret (25))
(.bk 2 b2 ((W (t2+1)):Int) [0]))))
(.ret (0))))))))
theorem TM(f:Flt)(ok:Mm f):∃I1 m1 I2 m2,(Mj f I1 m1 I2 m2).vp Ml (am f.mode f.srcs):=by
 simp only[Mm,Flt.v,okU,Blk.ok,aU,f']at ok
 refine⟨λ_ t=>∃k:Nat,t=k∧k≤f.srcs.length∧∀s∈f.srcs.take k,1≤s∧s≤99,λ_ t=>f.srcs.length-t.toNat,
  λ_ t1 t=>ko f.srcs∧∃k:Nat,t=k∧1≤k∧k≤f.srcs.length+1∧∀j x y,j+1<k→f.srcs[j]?=some x→f.srcs[j+1]?=some y→x<y,λ_ _ t=>f.srcs.length+1-t.toNat,?_⟩
 dsimp only[Mj,Mk,Ax.vp,Ax.vc];simp only[vcU,rfU,f'];have hmode:((bif f.mode != 1 then bif f.mode != 2 then false else true else true)=true)↔(f.mode=1∨f.mode=2):=by
  by_cases h1:f.mode=1<;>by_cases h2:f.mode=2<;>simp[h1,h2]
 simp only[hmode]
 refine⟨⟨λh1=>⟨λh2=>?_,λh2=>?_⟩,λh1=>?_⟩,?_⟩
 ·rw[am,if_pos];simp at h1 h2;omega
 ·simp at h2;omega
 ·simp at h1;omega
 intro t0 hm;refine⟨⟨0,rfl,by omega,by simp⟩,?_⟩;rintro _ ⟨k,rfl,hk,h⟩;simp only[Int.toNat_natCast]
 refine⟨λh1=>⟨by omega,by omega,λy hy=>⟨λe=>?_,λe=>⟨λe2=>?_,λe2=>?_⟩⟩⟩,λh1=>?_⟩
 ·rw[am,u' (not_not_intro hm),if_pos λhr=>by have:=hr y (aq hy);omega]
 ·rw[am,u' (not_not_intro hm),if_pos λhr=>by have:=hr y (aq hy);omega]
 ·rw[ao (n:=f.srcs.length) (by omega) (by omega)];refine⟨⟨k+1,rfl,by omega,?_⟩,by omega⟩;rw[al hy];intro s hs
  rcases L'.mp hs with hs|hs
  ·exact h s hs
  ·rw[O']at hs;subst hs;omega
 rw[G' (by omega)]at h;have hr:ko f.srcs:=h;refine⟨⟨hr,1,rfl,by omega,by omega,λj x y hj=>by omega⟩,?_⟩;rintro _ ⟨-,k,rfl,hk1,hk,h⟩
 refine⟨λh1=>?_,λh1=>?_⟩
 ·rw[dX (by omega) hk1];simp only[Int.toNat_natCast]
  refine⟨by omega,by omega,λx hx=>⟨by omega,by omega,λy hy=>⟨λe=>?_,λe=>?_⟩⟩⟩
  ·rw[am,u' (not_not_intro hm),u' (not_not_intro hr),if_pos];intro ha;have:=jH.mp ha (k-1) x y hx (by rw[show k-1+1=k by omega];exact hy);omega
  ·rw[ao (n:=f.srcs.length) (by omega) (by omega)];refine⟨⟨hr,k+1,rfl,by omega,by omega,λj x' y' hj hx' hy'=>?_⟩,by omega⟩
   by_cases e':j+1=k
   ·subst e';rw[show j+1-1=j by omega,hx']at hx;cases hx;rw[hy']at hy;cases hy;omega
   ·exact h j x' y' (by omega) hx' hy'
 ·rw[am,u' (not_not_intro hm),u' (not_not_intro hr),u' (not_not_intro (jH.mpr λj x y hx hy=>h j x y (by have:=aw hy;omega) hx hy))]
def lC(f:Flt):PC Tryz.prog:=pcO 160 [(.a [.k,(.s 1)])] [Flt.v f] .k Ml (FVal f) (λok=>let ⟨I1,m1,I2,m2,h⟩:=TM f ok;⟨_,h,by kernel_rfl⟩) rfl (by kernel_rfl)
def Mb(f:Flt):=okL [Flt.v f]
def PW(f:Flt)(t0:Unit):NF:=⟨[rR 1 0],[.box (Flt.v f)]⟩
def PV(f:Flt)(t1:Int):NF:=⟨[rR 1 0,(15,.k,.sl 1 (f.srcs.map AV.int) false),rI 16 ((f.srcs.map AV.int).length:Int),rI 17 t1],[.box (Flt.v f)]⟩
def PU(f:Flt)(t2:Int):NF:=⟨[rR 1 0,rI 5 t2],[.box (Flt.v f)]⟩
@[reducible] def LZ:Nat→Type
 | 0=>Unit
 | 1=>Int
 | 2=>Int
 | _=>Unit
def Ma(r:Int):AV:=.int r
def LY(f:Flt)(I1:Unit→Int→Prop)(m1:Unit→Int→Nat)(I2:Unit→Int→Int→Prop)(m2:Unit→Int→Int→Nat):Ax Tryz.prog LZ (Int):=
 (.pass (.join 0 (PW f) (λ(t0:Unit)=>(bif (f.mode != 1)then(bif (f.mode != 2)then false else true)else true)=true) (λb0=>(.br 96 (f.mode != 1) (.br 160 (f.mode != 2) (.ret (1))
(.bk 0 b0 ((()):Unit) [0]))
(.bk 0 b0 ((()):Unit) [0]))) λ(t0:Unit) =>
(.loop 1 (PV f) (I1 t0) (m1 t0) ((0):Int) [0] λ(t1:Int) b1 =>
(.br 17 (decide (t1<((f.srcs.map AV.int).length:Int))) (.elI 17 AV.int f.srcs t1 λx1 =>
(.br 113 (decide (x1<1)) (.ret (2))
(.br 161 (decide (99<x1)) (.ret (2))
(.bk 1 b1 ((W (t1+1)):Int) [0]))))
(.loop 2 (PU f) (I2 t0 t1) (m2 t0 t1) ((1):Int) [0] λ(t2:Int) b2 =>
(.br 81 (decide (t2<((f.srcs.map AV.int).length:Int))) (.elI 145 AV.int f.srcs (W (t2-1)) λx2 =>
(.elI 225 AV.int f.srcs t2 λx3 =>
(.br 273 (decide (x3≤x2)) (.ret (25))
(.bk 2 b2 ((W (t2+1)):Int) [0]))))
(.ret (0))))))))
theorem TI(f:Flt)(ok:Mb f):∃I1 m1 I2 m2,(LY f I1 m1 I2 m2).vp Ma (am f.mode f.srcs):=by
 simp only[Mb,Flt.v,okU,Blk.ok,aU,f']at ok
 refine⟨λ_ t=>∃k:Nat,t=k∧k≤f.srcs.length∧∀s∈f.srcs.take k,1≤s∧s≤99,λ_ t=>f.srcs.length-t.toNat,
  λ_ t1 t=>ko f.srcs∧∃k:Nat,t=k∧1≤k∧k≤f.srcs.length+1∧∀j x y,j+1<k→f.srcs[j]?=some x→f.srcs[j+1]?=some y→x<y,λ_ _ t=>f.srcs.length+1-t.toNat,?_⟩
 dsimp only[LY,LZ,Ax.vp,Ax.vc];simp only[vcU,rfU,f'];have hmode:((bif f.mode != 1 then bif f.mode != 2 then false else true else true)=true)↔(f.mode=1∨f.mode=2):=by
  by_cases h1:f.mode=1<;>by_cases h2:f.mode=2<;>simp[h1,h2]
 simp only[hmode]
 refine⟨⟨λh1=>⟨λh2=>?_,λh2=>?_⟩,λh1=>?_⟩,?_⟩
 ·rw[am,if_pos];simp at h1 h2;omega
 ·simp at h2;omega
 ·simp at h1;omega
 intro t0 hm;refine⟨⟨0,rfl,by omega,by simp⟩,?_⟩;rintro _ ⟨k,rfl,hk,h⟩;simp only[Int.toNat_natCast]
 refine⟨λh1=>⟨by omega,by omega,λy hy=>⟨λe=>?_,λe=>⟨λe2=>?_,λe2=>?_⟩⟩⟩,λh1=>?_⟩
 ·rw[am,u' (not_not_intro hm),if_pos λhr=>by have:=hr y (aq hy);omega]
 ·rw[am,u' (not_not_intro hm),if_pos λhr=>by have:=hr y (aq hy);omega]
 ·rw[ao (n:=f.srcs.length) (by omega) (by omega)];refine⟨⟨k+1,rfl,by omega,?_⟩,by omega⟩;rw[al hy];intro s hs
  rcases L'.mp hs with hs|hs
  ·exact h s hs
  ·rw[O']at hs;subst hs;omega
 rw[G' (by omega)]at h;have hr:ko f.srcs:=h;refine⟨⟨hr,1,rfl,by omega,by omega,λj x y hj=>by omega⟩,?_⟩;rintro _ ⟨-,k,rfl,hk1,hk,h⟩
 refine⟨λh1=>?_,λh1=>?_⟩
 ·rw[dX (by omega) hk1];simp only[Int.toNat_natCast]
  refine⟨by omega,by omega,λx hx=>⟨by omega,by omega,λy hy=>⟨λe=>?_,λe=>?_⟩⟩⟩
  ·rw[am,u' (not_not_intro hm),u' (not_not_intro hr),if_pos];intro ha;have:=jH.mp ha (k-1) x y hx (by rw[show k-1+1=k by omega];exact hy);omega
  ·rw[ao (n:=f.srcs.length) (by omega) (by omega)];refine⟨⟨hr,k+1,rfl,by omega,by omega,λj x' y' hj hx' hy'=>?_⟩,by omega⟩
   by_cases e':j+1=k
   ·subst e';rw[show j+1-1=j by omega,hx']at hx;cases hx;rw[hy']at hy;cases hy;omega
   ·exact h j x' y' (by omega) hx' hy'
 ·rw[am,u' (not_not_intro hm),u' (not_not_intro hr),u' (not_not_intro (jH.mpr λj x y hx hy=>h j x y (by have:=aw hy;omega) hx hy))]
def nN(f:Flt):PC Tryz.prog:=pcO 241 [(.a [.k,(.s 1)])] [Flt.v f] .k Ma (PVal f) (λok=>let ⟨I1,m1,I2,m2,h⟩:=TI f ok;⟨_,h,by kernel_rfl⟩) rfl (by kernel_rfl)
def dR{α:Type}(es:List α)(i:Nat)(x:α):List α:=es.take i++[x]++es.drop i
theorem ig{l:List Int}(h:l≠[])(r:Int):ay l r∈l:=by
 have hl:0<l.length:=cu'.mpr h;have:=bt (x:=r) (show 1≤(l.length:Int) by omega);have hi:(Mod r l.length).toNat<l.length:=by omega
 rw[ay,j3 hi];exact ay' hi
theorem jq{L:List Int}{p:Nat}{lo hi:Int}(h:-1000000000≤lo∧lo≤hi∧hi≤1000000000):lo≤rng L p lo hi∧rng L p lo hi≤hi:=by
 unfold rng;have e1:W (hi-lo)=hi-lo:=cf (by omega);have e2:W (hi-lo+1)=hi-lo+1:=cf (by omega);rw[e1,e2];have:=bt (x:=aj L p) (show 1≤hi-lo+1 by omega);rw[cf (by omega)];omega
def ju(l:List Int)(x:Int):Nat:=l.findIdx (λy=>!decide (y<x))
def put(l:List Int)(x:Int):List Int:=if l[ju l x]?=some x then l else dR l (ju l x) x
theorem tO{l:List Int}{x y:Int}:y∈put l x→y∈l∨y=x:=by
 unfold put
 split
 ·exact .inl
 ·unfold dR;intro h
  rcases L'.mp h with h|h
  ·rcases L'.mp h with h|h
   ·exact .inl (T' h)
   ·exact .inr (by simpa using h)
  ·exact .inl (ak' h)
theorem gb(l:List Int)(x:Int):(put l x).length≤l.length+1:=by
 unfold put
 split
 ·omega
 ·unfold dR;simp;omega
theorem l8{l:List Int}:jg l↔l.Pairwise (·<·):=by
 rw[ac']
 constructor
 ·intro h;have key:∀i d,(hi:i+d+1<l.length)→l.getD i 0<l.getD (i+d+1) 0:=by
   intro i d
   induction d with
   | zero=>intro hi;exact h i (by omega)
   | succ d ih=>intro hi;exact Int.lt_trans (ih (by omega)) (h (i+d+1) (by omega))
  intro i j hi hj hij;have:=key i (j-i-1) (by omega);rw[show i+(j-i-1)+1=j by omega,j3 hi,j3 hj]at this;exact this
 ·intro h i hi;have h1:i<l.length:=by omega
  have h2:i+1<l.length:=by omega
  rw[j3 h1,j3 h2];exact h i (i+1) h1 h2 (by omega)
theorem tP{l:List Int}{x:Int}(h:jg l):jg (put l x):=by
 unfold put
 split
 ·exact h
 rename_i hx;rw[l8]at *
 have hlo:∀a∈l.take (ju l x),a<x:=λa ha=>by
  obtain⟨i,hi,rfl⟩:=ad' ha;rw[bz'];have h1:i<ju l x:=by simp at hi;omega
  have:=bR' h1;simpa using this
 have hhi:∀a∈l.drop (ju l x),x<a:=λa ha=>by
  have hne:l.drop (ju l x)≠[]:=λe=>by rw[e]at ha;simp at ha
  have hlt:ju l x<l.length:=by
   refine af' λe=>hne (aI' (by omega))
  have h1:¬l[ju l x]<x:=by
   have:=bZ' (p:=λy=>!decide (y<x)) (xs:=l) (w:=hlt);rw[be']at this;exact ab' this
  have h2:l[ju l x]≠x:=λe=>hx (by rw[E' hlt,e]);rw[ar' hlt]at ha;have h3:(l.drop (ju l x)).Pairwise (·<·):=h.sublist (ck' _ _)
  rw[ar' hlt,an']at h3
  rcases P'.mp ha with rfl|ha
  ·omega
  ·have:=h3.1 a ha;omega
 unfold dR;rw[ag',ag']
 refine⟨⟨h.sublist (cl' _ _),aH' _ _,λa ha b hb=>?_⟩,h.sublist (ck' _ _),λa ha b hb=>?_⟩
 ·rw[O']at hb;subst hb;exact hlo a ha
 ·rcases L'.mp ha with ha|ha
  ·exact Int.lt_trans (hlo a ha) (hhi b hb)
  ·rw[O']at ha;subst ha;exact hhi b hb
theorem NO{l:List Int}{x:Int}(h:ko l)(hx:1≤x∧x≤99):ko (put l x):=λy hy=>by
 rcases tO hy with hy|rfl
 ·exact h y hy
 ·exact hx
theorem C0(l:List Int)(x:Int):ju l x≤l.length:=bF'
theorem NQ{l:List Int}{x y:Int}{j:Nat}(hj:j<ju l x)(hy:l[j]?=some y):y<x:=by
 have:=bR' hj;rw[E' (aw hy)]at hy;rw[←ao' hy];simpa using this
theorem NR{l:List Int}{x y:Int}(hy:l[ju l x]?=some y):¬y<x:=by
 have h:=aw hy;have:=bZ' (p:=λy=>!decide (y<x)) (xs:=l) (w:=h);rw[E' h]at hy;cases hy;rw[be']at this;exact ab' this
theorem C1{l:List Int}{x:Int}{k:Nat}(h:∀j y,j<k→l[j]?=some y→y<x)(hk:k≤l.length)(h2:k=l.length∨∃y,l[k]?=some y∧¬y<x):ju l x=k:=by
 rcases cm' (ju l x) k with g|g|g
 ·have hl:ju l x<l.length:=by omega
  have e:=E' hl;exact absurd (h _ _ g e) (NR e)
 ·exact g
 ·rcases h2 with h2|⟨y,hy,hn⟩
  ·have:=C0 l x;omega
  ·exact absurd (NQ g hy) hn
theorem Jx{l:List Int}{k:Nat}{x:Int}:((l.take k).drop 0)++([x]++((l.take ((l.length:Int).toNat)).drop k))=dR l k x:=by
 rw[Int.toNat_natCast,aj',bf',dR,bo']
abbrev aT(l:List Int):=(l.take ((l.length:Int).toNat))
def RC(l:List Int)(x:Int)(t0:Int):NF:=⟨[(0,.k,.sl 1 (l.map AV.int) false),rI 1 x,rI 5 t0],[]⟩
@[reducible] def Qm:Nat→Type
 | 0=>Int
 | _=>Unit
def Qn(r:List Int):AV:=.sl 1 (r.map AV.int) false
def Ql(l:List Int)(x:Int)(I0:Int→Prop)(m0:Int→Nat):Ax Tryz.prog Qm ((List Int)):=
 (.loop 0 (RC l x) I0 m0 ((0):Int) [] λ(t0:Int) b0 =>
(.br 80 (decide (t0<((l.map AV.int).length:Int))) (.elI 112 AV.int l t0 λx1 =>
(.br 192 (decide (x1<x)) (.bk 0 b0 ((W (t0+1)):Int) [])
(.br 272 (decide (t0<((l.map AV.int).length:Int))) (.elI 304 AV.int l t0 λx2 =>
(.br 384 (x2==x) (.ret (l))
(.own 400 (.say (λR=>Rf (α:=List AV) (l.map AV.int) (ck (cj l.length t0 (l.length:Int) (l.length:Int))
R)) (.sub 448 AV.int l false
(.say (λR=>Rf (α:=List AV) [.int x] (Rf (α:=List AV) (((aT l).drop t0.toNat).map AV.int)
(ck (decide ([x].length+((aT l).drop t0.toNat).length≤1048576))
R))) (.app 464 AV.int [x] ((aT l).drop t0.toNat)
(.say (λR=>Rf (α:=List AV) (l.map AV.int) (ck (cj l.length 0 t0 t0)
R)) (.sub 544 AV.int l true
(.say (λR=>ck (decide (t0=t0))
((Rf (α:=List AV) (((l.take t0.toNat).drop 0).map AV.int) (Rf (α:=List AV) (([x]++((aT l).drop t0.toNat)).map AV.int)
(ck (decide (0<([x]++((aT l).drop t0.toNat)).length))
R))))) (.appF 576 AV.int ((l.take t0.toNat).drop 0) ([x]++((aT l).drop t0.toNat))
(.say (λR=>ck (decide (((l.take t0.toNat).drop 0).length+([x]++((aT l).drop t0.toNat)).length≤1048576))
((Rf ((((l.take t0.toNat).drop 0)++([x]++((aT l).drop t0.toNat))).map AV.int) R))) (.cmdL (.frzE 576 ((((l.take t0.toNat).drop 0)++([x]++((aT l).drop t0.toNat))).map AV.int) (ae (λ_=>rfl) (((l.take t0.toNat).drop 0)++([x]++((aT l).drop t0.toNat))))) (.ret (((l.take t0.toNat).drop 0)++([x]++((aT l).drop t0.toNat)))))))))))))))))
(.own 400 (.say (λR=>Rf (α:=List AV) (l.map AV.int) (ck (cj l.length t0 (l.length:Int) (l.length:Int))
R)) (.sub 448 AV.int l false
(.say (λR=>Rf (α:=List AV) [.int x] (Rf (α:=List AV) (((aT l).drop t0.toNat).map AV.int)
(ck (decide ([x].length+((aT l).drop t0.toNat).length≤1048576))
R))) (.app 464 AV.int [x] ((aT l).drop t0.toNat)
(.say (λR=>Rf (α:=List AV) (l.map AV.int) (ck (cj l.length 0 t0 t0)
R)) (.sub 544 AV.int l true
(.say (λR=>ck (decide (t0=t0))
((Rf (α:=List AV) (((l.take t0.toNat).drop 0).map AV.int) (Rf (α:=List AV) (([x]++((aT l).drop t0.toNat)).map AV.int)
(ck (decide (0<([x]++((aT l).drop t0.toNat)).length))
R))))) (.appF 576 AV.int ((l.take t0.toNat).drop 0) ([x]++((aT l).drop t0.toNat))
(.say (λR=>ck (decide (((l.take t0.toNat).drop 0).length+([x]++((aT l).drop t0.toNat)).length≤1048576))
((Rf ((((l.take t0.toNat).drop 0)++([x]++((aT l).drop t0.toNat))).map AV.int) R))) (.cmdL (.frzE 576 ((((l.take t0.toNat).drop 0)++([x]++((aT l).drop t0.toNat))).map AV.int) (ae (λ_=>rfl) (((l.take t0.toNat).drop 0)++([x]++((aT l).drop t0.toNat))))) (.ret (((l.take t0.toNat).drop 0)++([x]++((aT l).drop t0.toNat))))))))))))))))))
(.br 272 (decide (t0<((l.map AV.int).length:Int))) (.elI 304 AV.int l t0 λx3 =>
(.br 384 (x3==x) (.ret (l))
(.own 400 (.say (λR=>Rf (α:=List AV) (l.map AV.int) (ck (cj l.length t0 (l.length:Int) (l.length:Int))
R)) (.sub 448 AV.int l false
(.say (λR=>Rf (α:=List AV) [.int x] (Rf (α:=List AV) (((aT l).drop t0.toNat).map AV.int)
(ck (decide ([x].length+((aT l).drop t0.toNat).length≤1048576))
R))) (.app 464 AV.int [x] ((aT l).drop t0.toNat)
(.say (λR=>Rf (α:=List AV) (l.map AV.int) (ck (cj l.length 0 t0 t0)
R)) (.sub 544 AV.int l true
(.say (λR=>ck (decide (t0=t0))
((Rf (α:=List AV) (((l.take t0.toNat).drop 0).map AV.int) (Rf (α:=List AV) (([x]++((aT l).drop t0.toNat)).map AV.int)
(ck (decide (0<([x]++((aT l).drop t0.toNat)).length))
R))))) (.appF 576 AV.int ((l.take t0.toNat).drop 0) ([x]++((aT l).drop t0.toNat))
(.say (λR=>ck (decide (((l.take t0.toNat).drop 0).length+([x]++((aT l).drop t0.toNat)).length≤1048576))
((Rf ((((l.take t0.toNat).drop 0)++([x]++((aT l).drop t0.toNat))).map AV.int) R))) (.cmdL (.frzE 576 ((((l.take t0.toNat).drop 0)++([x]++((aT l).drop t0.toNat))).map AV.int) (ae (λ_=>rfl) (((l.take t0.toNat).drop 0)++([x]++((aT l).drop t0.toNat))))) (.ret (((l.take t0.toNat).drop 0)++([x]++((aT l).drop t0.toNat)))))))))))))))))
(.own 400 (.say (λR=>Rf (α:=List AV) (l.map AV.int) (ck (cj l.length t0 (l.length:Int) (l.length:Int))
R)) (.sub 448 AV.int l false
(.say (λR=>Rf (α:=List AV) [.int x] (Rf (α:=List AV) (((aT l).drop t0.toNat).map AV.int)
(ck (decide ([x].length+((aT l).drop t0.toNat).length≤1048576))
R))) (.app 464 AV.int [x] ((aT l).drop t0.toNat)
(.say (λR=>Rf (α:=List AV) (l.map AV.int) (ck (cj l.length 0 t0 t0)
R)) (.sub 544 AV.int l true
(.say (λR=>ck (decide (t0=t0))
((Rf (α:=List AV) (((l.take t0.toNat).drop 0).map AV.int) (Rf (α:=List AV) (([x]++((aT l).drop t0.toNat)).map AV.int)
(ck (decide (0<([x]++((aT l).drop t0.toNat)).length))
R))))) (.appF 576 AV.int ((l.take t0.toNat).drop 0) ([x]++((aT l).drop t0.toNat))
(.say (λR=>ck (decide (((l.take t0.toNat).drop 0).length+([x]++((aT l).drop t0.toNat)).length≤1048576))
((Rf ((((l.take t0.toNat).drop 0)++([x]++((aT l).drop t0.toNat))).map AV.int) R))) (.cmdL (.frzE 576 ((((l.take t0.toNat).drop 0)++([x]++((aT l).drop t0.toNat))).map AV.int) (ae (λ_=>rfl) (((l.take t0.toNat).drop 0)++([x]++((aT l).drop t0.toNat))))) (.ret (((l.take t0.toNat).drop 0)++([x]++((aT l).drop t0.toNat))))))))))))))))))
theorem put_p(l:List Int)(x:Int)(hl:l.length≤900000):∃I m,(Ql l x I m).vp Qn (put l x):=by
 refine⟨λt=>∃k:Nat,t=k∧k≤l.length∧∀j y,j<k→l[j]?=some y→y<x,λt=>l.length-t.toNat,?_⟩;dsimp only[Ql,Qm,aT,Ax.vp,Ax.vc];simp only[vcU,rfU,f'];have hle:=C0 l x;have key:∀k:Nat,ju l x=k→l[k]?≠some x→List.drop 0 (List.take k l)++([x]++List.drop k (List.take (l.length:Int).toNat l))=put l x:=λk e hne=>by
  rw[Jx,put,e,u' hne]
 refine⟨⟨0,rfl,by omega,λj y h=>by omega⟩,?_⟩;rintro _ ⟨k,rfl,hk,h⟩;simp only[Int.toNat_natCast];have hb1:cj l.length k l.length l.length=true:=by simp[cj];omega
 have hb2:cj l.length 0 k k=true:=by simp[cj];omega
 have e1:(List.take l.length l)=l:=aj'
 refine⟨λh1=>⟨by omega,by omega,λy hy=>⟨λe=>?_,λe=>⟨λh2=>⟨by omega,by omega,λz hz=>?_⟩,λh2=>by omega⟩⟩⟩,λh1=>⟨λh2=>by omega,λ_=>?_⟩⟩
 ·rw[ao (n:=l.length) (by omega) (by omega)];refine⟨⟨k+1,rfl,by omega,λj z hj hz=>?_⟩,by omega⟩
  by_cases e':j=k
  ·subst e';rw[hz]at hy;cases hy;exact e
  ·exact h j z (by omega) hz
 ·have hq:=C1 h hk (.inr ⟨y,hy,e⟩);rw[hy]at hz;cases hz
  refine⟨λe'=>?_,λe'=>?_⟩
  ·rw[put,hq,if_pos (by rw[hy];simpa using e')]
  ·have hne:l[k]?≠some x:=by rw[hy];simpa using e'
   refine⟨hb1,?_,hb2,trivial,?_,?_,?_⟩
   ·simp;omega
   ·simp
   ·simp;omega
   ·have:=key k hq hne;simpa using this
 ·have hq:=C1 h hk (.inl (by omega))
  refine⟨hb1,?_,hb2,trivial,?_,?_,?_⟩
  ·simp;omega
  ·simp
  ·simp;omega
  ·have:=key k hq (by rw[av' (by omega)];simp);simpa using this
def HP(l:List Int)(x:Int)(hl:l.length≤900000):PC Tryz.prog:=pcO 41 [(.s 1),.k] [.sl 1 (l.map AV.int) false,.int x] (.s 1) Qn (put l x) (λ_=>let ⟨I0,m0,h⟩:=put_p l x hl;⟨_,h,by kernel_rfl⟩) rfl (by kernel_rfl)
def Ev(L:List Int)(p:Nat):Int:=ay [rng L p 1 6,rng L (ab L p) 1 20,rng L (ab L (ab L p)) 1 99] (aj L (ab L (ab L (ab L p))))
def src1P(L:List Int)(p:Nat):Nat:=ab L (ab L (ab L (ab L p)))
def jS(L:List Int):Nat→List Int→Nat→List Int×Nat
 | 0,out,p=>(out,p)
 | i+1,out,p=>jS L i (put out (Ev L p)) (src1P L p)
def dJ(L:List Int)(p:Nat)(n:Int):List Int×Nat:=jS L (Mod (aj L p) (n+1)).toNat [] (ab L p)
theorem ML(L:List Int)(p:Nat):1≤Ev L p∧Ev L p≤99:=by
 have h1:=jq (L:=L) (p:=p) (lo:=1) (hi:=6) (by omega);have h2:=jq (L:=L) (p:=ab L p) (lo:=1) (hi:=20) (by omega);have h3:=jq (L:=L) (p:=ab L (ab L p)) (lo:=1) (hi:=99) (by omega);have:=ig (l:=[rng L p 1 6,rng L (ab L p) 1 20,rng L (ab L (ab L p)) 1 99]) (by simp) (aj L (ab L (ab L (ab L p))));unfold Ev;generalize ay _ _=v at this;simp only[P',aq',or_false]at this;omega
theorem oZ{L:List Int}:∀{i:Nat} {out:List Int} {p:Nat},ko out→jg out→ko (jS L i out p).1∧jg (jS L i out p).1
 | 0,_,_,h,h2=>⟨h,h2⟩
 | i+1,out,p,h,h2=>by
  rw[jS];exact oZ (NO h (ML L p)) (tP h2)
theorem zb(L:List Int)(p:Nat)(n:Int):ko (dJ L p n).1∧jg (dJ L p n).1:=oZ (λ_ h=>by simp at h) (λi h=>by simp at h)
def za(L:List Int)(t0:List Int×Int×Nat):NF:=⟨[rR 0 0,(5,(.s 1),.sl 1 (t0.1.map AV.int) false),rI 6 t0.2.1],[.box (.agg [.sl 1 (L.map AV.int) false,.int t0.2.2])]⟩
@[reducible] def rD:Nat→Type
 | 0=>(List Int)×Int×Nat
 | _=>Unit
def mR(r:Tap×List Int):AV:=.sl 1 (r.2.map AV.int) false
def mS(r:Tap×List Int):List (Option Blk):=[some (.box (Tap.v r.1))]
def rC(L:List Int)(p:Nat)(n:Int)(I0:(List Int×Int×Nat)→Prop)(m0:(List Int×Int×Nat)→Nat):Ax Tryz.prog rD (Tap×List Int):=
 (.callH [0] (N_h L p (W (n+1))) 81
(.loop 0 (za L) I0 m0 ([],Mod (aj L p) (W (n+1)),ab L p) [0] λ(t0:List Int×Int×Nat) b0 =>
(.br 33 (decide (0<t0.2.1)) (.callH [0] (fj L t0.2.2 1 6) 81
(.callH [0] (fj L (ab L t0.2.2) 1 20) 113
(.callH [0] (fj L (ab L (ab L t0.2.2)) 1 99) 145
(.req 177 ([rng L t0.2.2 1 6,rng L (ab L t0.2.2) 1 20,rng L (ab L (ab L t0.2.2)) 1 99]≠[]) λh1 =>
(.callH [0] (fJ L (ab L (ab L (ab L t0.2.2))) [rng L t0.2.2 1 6,rng L (ab L t0.2.2) 1 20,rng L (ab L (ab L t0.2.2)) 1 99] h1) 177
(.req 193 (t0.1.length≤900000) λh2 =>
(.callP (HP t0.1 (ay [rng L t0.2.2 1 6,rng L (ab L t0.2.2) 1 20,rng L (ab L (ab L t0.2.2)) 1 99] (aj L (ab L (ab L (ab L t0.2.2))))) h2)
(.bk 0 b0 (put t0.1 (ay [rng L t0.2.2 1 6,rng L (ab L t0.2.2) 1 20,rng L (ab L (ab L t0.2.2)) 1 99] (aj L (ab L (ab L (ab L t0.2.2))))),W (t0.2.1-1),ab L (ab L (ab L (ab L t0.2.2)))) [0]))))))))
(.retH ((⟨L,t0.2.2⟩:Tap),t0.1) ⟨[(4,.k,.sl 1 (t0.1.map AV.int) false)],[.box (.agg [.sl 1 (L.map AV.int) false,.int t0.2.2])]⟩ [0]))))
theorem Ez(L:List Int)(p:Nat)(n:Int)(hn:0≤n∧n≤1000):∃I m,(rC L p n I m).vc mR mS ((⟨L,(dJ L p n).2⟩:Tap),(dJ L p n).1):=by
 have hm:=bt (x:=aj L p) (show 1≤n+1 by omega);refine⟨λt=>∃i:Nat,t.2.1=i∧jS L i t.1 t.2.2=dJ L p n∧i+t.1.length≤2000,λt=>t.2.1.toNat,?_⟩;dsimp only[rC,rD,Ax.vp,Ax.vc];simp only[vcU,rfU,f'];rw[cf (by omega)];refine⟨⟨(Mod (aj L p) (n+1)).toNat,by omega,rfl,by simp;omega⟩,?_⟩;rintro⟨out,_,q⟩ ⟨i,rfl,h,hl⟩;simp only at h hl ⊢
 refine⟨λh1=>?_,λh1=>?_⟩
 ·obtain⟨i,rfl⟩:∃k,i=k+1:=⟨i-1,by omega⟩
  refine⟨by simp,by omega,⟨i,?_,h,?_⟩,?_⟩
  ·rw[cf (by omega)];omega
  ·have:=gb out (Ev L q);show i+(put out (Ev L q)).length≤2000;omega
  ·rw[cf (by omega)];omega
 ·obtain rfl:i=0:=by omega
  rw[←h];rfl
def E0(L:List Int)(p:Nat)(n:Int)(hn:0≤n∧n≤1000):HC Tryz.prog:=hcO 235 [.k,.k] [.ref 0 0,.int n] [.box (.agg [.sl 1 (L.map AV.int) false,.int p])] (.s 1) mR mS (((⟨L,(dJ L p n).2⟩:Tap),(dJ L p n).1):Tap×List Int) (λ_ _=>let ⟨I0,m0,h⟩:=Ez L p n hn;⟨_,h,by kernel_rfl⟩) (by kernel_rfl) (by simp[hcB,bJ,AV.belB,allB,cF,bW,mR,mS,Tap.v,ae (v:=AV.int) (λ_=>rfl)])
def Kg(L:List Int)(p:Nat):Int:=ay [0,2,4,4,16,99] (aj L p)
def ax(L:List Int)(p:Nat):Flt×Nat:=(⟨rng L (ab L p) 1 2,(dJ L (ab L (ab L p)) (Kg L p)).1⟩,(dJ L (ab L (ab L p)) (Kg L p)).2)
theorem OX(L:List Int)(p:Nat):0≤Kg L p∧Kg L p≤1000:=by
 have:=ig (l:=[0,2,4,4,16,99]) (by simp) (aj L p);unfold Kg;generalize ay _ _=v at this;simp only[P',aq',or_false]at this;omega
theorem qj(L:List Int)(p:Nat):am (ax L p).1.mode (ax L p).1.srcs=0:=by
 have h1:=jq (L:=L) (p:=ab L p) (lo:=1) (hi:=2) (by omega);have h2:ko (ax L p).1.srcs∧jg (ax L p).1.srcs:=zb L _ _;unfold am;rw[u',u' (not_not_intro h2.1),u' (not_not_intro h2.2)];refine not_not_intro ?_;show rng L (ab L p) 1 2=1∨rng L (ab L p) 1 2=2;omega
def n9(r:Tap×Flt):AV:=Flt.v r.2
def nB(r:Tap×Flt):List (Option Blk):=[some (.box (Tap.v r.1))]
def nz(L:List Int)(p:Nat):Ax Tryz.prog noS (Tap×Flt):=
 (.req 49 ([0,2,4,4,16,99]≠[]) λh1 =>
(.callH [0] (fJ L p [0,2,4,4,16,99] h1) 49
(.callH [0] (fj L (ab L p) 1 2) 97
(.req 145 (0≤(ay [0,2,4,4,16,99] (aj L p))∧(ay [0,2,4,4,16,99] (aj L p))≤1000) λh2 =>
(.callH [0] (E0 L (ab L (ab L p)) (ay [0,2,4,4,16,99] (aj L p)) h2) 145
(.retH ((⟨L,(dJ L (ab L (ab L p)) (ay [0,2,4,4,16,99] (aj L p))).2⟩:Tap),(⟨rng L (ab L p) 1 2,(dJ L (ab L (ab L p)) (ay [0,2,4,4,16,99] (aj L p))).1⟩:Flt)) ⟨[rR 2 1],[.box (.agg [.sl 1 (L.map AV.int) false,.int ((((dJ L (ab L (ab L p)) (ay [0,2,4,4,16,99] (aj L p))).2):Nat):Int)]),.box (Flt.v (⟨rng L (ab L p) 1 2,(dJ L (ab L (ab L p)) (ay [0,2,4,4,16,99] (aj L p))).1⟩:Flt))]⟩ [0,1]))))))
theorem Fk(L:List Int)(p:Nat):(nz L p).vc n9 nB ((⟨L,(ax L p).2⟩:Tap),(ax L p).1):=by
 dsimp only[nz,noS,Ax.vp,Ax.vc];simp only[vcU,rfU,f'];exact⟨by simp,OX L p,rfl⟩
def sI(L:List Int)(p:Nat):HC Tryz.prog:=hcO 130 [.k] [.ref 0 0] [.box (.agg [.sl 1 (L.map AV.int) false,.int p])] (.a [.k,(.s 1)]) n9 nB (((⟨L,(ax L p).2⟩:Tap),(ax L p).1):Tap×Flt) (λ_ _=>⟨(nz L p),Fk L p,by kernel_rfl⟩) (by kernel_rfl) (by simp[hcB,bJ,AV.belB,allB,cF,bW,n9,nB,Flt.v,Tap.v,ae (v:=AV.int) (λ_=>rfl)])
section
variable {α : Type} {l : List α} {P : α → Prop} {R : α → α → Prop} {t : Int} {x y : α}
theorem kP{i n:Int}(h1:0≤i)(h2:i<n):(bif decide (0≤i)then decide (i<n)else false)=true:=by
 rw[decide_eq_true h1,decide_eq_true h2];rfl
def gG(l:List α)(P:α→Prop)(t:Int):Prop:=∃k:Nat,t=k∧k≤l.length∧∀x∈l.take k,P x
theorem gG.zero:gG l P 0:=⟨0,rfl,by omega,by simp⟩
theorem gG.idx(h:gG l P t):0≤t:=by obtain⟨k,rfl,_,_⟩:=h;omega
theorem gG.step(h:gG l P t)(hl:l.length≤9223372036854775807)(hx:l[t.toNat]?=some x)(p:P x):gG l P (W (t+1))∧l.length-(W (t+1)).toNat<l.length-t.toNat:=by
 obtain⟨k,rfl,hk,ha⟩:=h;rw[Int.toNat_natCast]at hx;have:=aw hx;rw[ao (n:=l.length) this hl];refine⟨⟨k+1,rfl,by omega,λz hz=>?_⟩,by omega⟩;rw[al hx]at hz
 rcases L'.mp hz with hz|hz
 ·exact ha z hz
 ·rw[O']at hz;exact hz ▸ p
theorem gG.done(h:gG l P t)(c:¬t<l.length):∀x∈l,P x:=by
 obtain⟨k,rfl,hk,ha⟩:=h;rw[G' (by omega)]at ha;exact ha
theorem uO(hx:l[t.toNat]?=some x):x∈l:=aq hx
def lB(l:List α)(R:α→α→Prop)(t:Int):Prop:=∃k:Nat,t=k∧1≤k∧k≤l.length+1∧∀j x y,j+1<k→l[j]?=some x→l[j+1]?=some y→R x y
theorem lB.one:lB l R 1:=⟨1,rfl,by omega,by omega,λj x y h=>by omega⟩
theorem lB.idx(h:lB l R t)(hl:l.length≤9223372036854775807)(c:t<l.length):(0≤W (t-1)∧W (t-1)<l.length)∧0≤t:=by
 obtain⟨k,rfl,h1,hk,ha⟩:=h;rw[dX (by omega) h1];omega
theorem lB.step(h:lB l R t)(hl:l.length≤9223372036854775807)(hx:l[(W (t-1)).toNat]?=some x)(hy:l[t.toNat]?=some y)(p:R x y):lB l R (W (t+1))∧l.length+1-(W (t+1)).toNat<l.length+1-t.toNat:=by
 obtain⟨k,rfl,h1,hk,ha⟩:=h;rw[Int.toNat_natCast]at hy;have hlt:=aw hy;rw[dX (by omega) h1,Int.toNat_natCast]at hx;rw[ao (n:=l.length) hlt (by omega)];refine⟨⟨k+1,rfl,by omega,by omega,λj x' y' hj hx' hy'=>?_⟩,by omega⟩
 by_cases e:j+1=k
 ·subst e;rw[show j+1-1=j by omega,hx']at hx;cases hx;rw[hy']at hy;cases hy;exact p
 ·exact ha j x' y' (by omega) hx' hy'
theorem lB.bad(h:lB l R t)(hl:l.length≤9223372036854775807)(hx:l[(W (t-1)).toNat]?=some x)(hy:l[t.toNat]?=some y){S:α→α→Prop}(p:¬S x y):¬l.Pairwise S:=by
 obtain⟨k,rfl,h1,hk,ha⟩:=h;rw[Int.toNat_natCast]at hy;have hlt:=aw hy;rw[dX (by omega) h1,Int.toNat_natCast]at hx;intro hp;rw[ac']at hp;have:=hp (k-1) k (by omega) hlt (by omega);rw[E' (by omega)]at hx hy;rw[ao' hx,ao' hy]at this;exact p this
theorem lB.done(h:lB l R t)(c:¬t<l.length)(tr:∀x y z,R x y→R y z→R x z):l.Pairwise R:=by
 obtain⟨k,rfl,h1,hk,ha⟩:=h;rw[ac'];have key:∀d i,(hi:i+d+1<l.length)→R (l[i]'(by omega)) l[i+d+1]:=by
  intro d
  induction d with
  | zero=>intro i hi;exact ha i _ _ (by omega) (E' (by omega)) (E' hi)
  | succ d ih =>
   intro i hi;exact tr _ _ _ (ih i (by omega)) (ha (i+d+1) _ _ (by omega) (E' (by omega)) (E' hi))
 intro i j hi hj hij;have:=key (j-i-1) i (by omega);simp only[show i+(j-i-1)+1=j by omega]at this;exact this
def jP{σ:Type}(l:List α)(g:σ→α→σ)(s0:σ)(t:Int)(s:σ):Prop:=∃k:Nat,t=k∧k≤l.length∧s=(l.take k).foldl g s0
section
variable {σ : Type} {g : σ → α → σ} {s0 s : σ}
theorem jP.zero:jP l g s0 0 s0:=⟨0,rfl,by omega,rfl⟩
theorem jP.idx(h:jP l g s0 t s):0≤t:=by obtain⟨k,rfl,_,_⟩:=h;omega
theorem jP.step(h:jP l g s0 t s)(hl:l.length≤9223372036854775807)(hx:l[t.toNat]?=some x){s':σ}(p:s'=g s x):jP l g s0 (W (t+1)) s'∧l.length-(W (t+1)).toNat<l.length-t.toNat:=by
 obtain⟨k,rfl,hk,rfl⟩:=h;rw[Int.toNat_natCast]at hx;have:=aw hx;rw[ao (n:=l.length) this hl];exact⟨⟨k+1,rfl,by omega,by rw[al hx,aW',p];rfl⟩,by omega⟩
theorem jP.len(h:jP l g s0 t s){f:σ→Nat}{a b:Nat}(h0:f s0≤a)(hs:∀s x,x∈l→f (g s x)≤f s+b):f s≤a+b * t.toNat:=by
 obtain⟨k,rfl,hk,rfl⟩:=h;rw[Int.toNat_natCast]
 induction k with
 | zero=>simpa using h0
 | succ k ih =>
  rw[al (E' (show k<l.length by omega)),aW',ax',List.foldl_nil,Nat.mul_succ];have:=hs ((l.take k).foldl g s0) l[k] (ay' _);have:=ih (by omega);omega
theorem jP.done(h:jP l g s0 t s)(c:¬t<l.length):s=l.foldl g s0:=by
 obtain⟨k,rfl,hk,rfl⟩:=h;rw[G' (by omega)]
end
def jO{β:Type}(l:List α)(f:α→List β)(t:Int)(out:List β):Prop:=∃k:Nat,t=k∧k≤l.length∧out=(l.take k).flatMap f
section
variable {β : Type} {f : α → List β} {out : List β}
theorem jO.zero:jO l f 0 []:=⟨0,rfl,by omega,rfl⟩
theorem jO.idx(h:jO l f t out):0≤t:=by obtain⟨k,rfl,_,_⟩:=h;omega
theorem jO.step(h:jO l f t out)(hl:l.length≤9223372036854775807)(hx:l[t.toNat]?=some x){out':List β}(p:out'=out++f x):jO l f (W (t+1)) out'∧l.length-(W (t+1)).toNat<l.length-t.toNat:=by
 obtain⟨k,rfl,hk,rfl⟩:=h;rw[Int.toNat_natCast]at hx;have:=aw hx;rw[ao (n:=l.length) this hl];exact⟨⟨k+1,rfl,by omega,by rw[al hx,bP',p];simp⟩,by omega⟩
theorem jO.done(h:jO l f t out)(c:¬t<l.length):out=l.flatMap f:=by
 obtain⟨k,rfl,hk,rfl⟩:=h;rw[G' (by omega)]
theorem jO.len(h:jO l f t out){b:Nat}(hb:∀x∈l,(f x).length≤b):out.length≤l.length * b:=by
 obtain⟨k,rfl,hk,rfl⟩:=h;have key:∀m:List α,(∀x∈m,(f x).length≤b)→(m.flatMap f).length≤m.length * b:=by
  intro m
  induction m with
  | nil=>intro _;simp
  | cons x m ih =>
   intro hm;have h1:=hm x (by simp);have h2:=ih λy hy=>hm y (by simp[hy]);rw[ap',Y',Z',Nat.succ_mul];omega
 refine aF' (key _ λx hx=>hb x (T' hx)) (ae' _ ?_);rw[aa'];omega
end
theorem nZ{β:Type}{f:α→β}{l:List α}:(l.flatMap λx=>[f x])=l.map f:=by
 induction l with
 | nil=>rfl
 | cons x l ih=>rw[ap',ih];rfl
theorem rZ{f:α→Int}(h:gG l (λx=>f x=0) t)(hx:l[t.toNat]?=some x)(hn:f x≠0):orI (l.map f)=f x:=by
 obtain⟨k,rfl,hk,ha⟩:=h;rw[Int.toNat_natCast]at hx
 rw[orI,nw (k:=k) (x:=f x) ?_ (by rw[S',hx];rfl) hn]
 ·rfl
 ·rw[←cf',ba'];intro z hz;obtain⟨w,hw,rfl⟩:=R'.mp hz;simp[ha w hw]
theorem pA{f:α→Int}(h:∀x∈l,f x=0):orI (l.map f)=0:=by
 rw[orI,aL'.mpr]
 ·rfl
 ·intro z hz;obtain⟨w,hw,rfl⟩:=R'.mp hz;simp[h w hw]
end
def Lp:AF:=
 ⟨61,1,[.tmp 2],
 .seq (.reg [⟨(some 2),.move (.c (.sl 0 [] true)),none⟩])
 (.seq (.seq (.reg [⟨(some 6),.move (.t 0),none⟩,⟨(some 7),.len (.t 6),none⟩,⟨(some 8),.bin .lss (.t 7) (.c (.val (.int .i64 2))),none⟩])
 (.cond (.t 8) (.seq (.reg [⟨(some 9),.move (.t 0),none⟩,⟨(some 2),.move (.t 9),none⟩])
 (.ret)) (.skip)))
 (.seq (.seq (.reg [⟨(some 3),.move (.c (.val (.int .i64 1))),none⟩])
 (.block 0 (.loop (.seq (.seq (.reg [⟨(some 10),.move (.t 3),none⟩,⟨(some 11),.move (.t 0),none⟩,⟨(some 12),.len (.t 11),none⟩,⟨(some 13),.bin .lss (.t 10) (.t 12),none⟩])
 (.cond (.t 13) (.skip) (.exit 0)))
 (.seq (.block 1 (.seq (.dreg [⟨(some 16),.move (.t 0),none⟩,⟨(some 17),.move (.t 3),none⟩,⟨(some 18),.iaddr 1 (.t 16) (.t 17),none⟩,⟨(some 19),.load false 1 (.t 18),none⟩,⟨(some 20),.move (.t 0),none⟩,⟨(some 21),.move (.t 3),none⟩,⟨(some 22),.bin .sub (.t 21) (.c (.val (.int .i64 1))),none⟩,⟨(some 23),.iaddr 1 (.t 20) (.t 22),none⟩,⟨(some 24),.load false 1 (.t 23),none⟩,⟨(some 25),.bin .eql (.t 19) (.t 24),none⟩] [(2,7),(3,7),(2,8),(3,8)])
 (.cond (.t 25) (.seq (.reg [⟨(some 26),.move (.t 0),none⟩,⟨(some 27),.move (.t 3),none⟩,⟨(some 28),.slice 1 (.t 26) (some (.t 27)) none none,none⟩,⟨(some 4),.move (.t 28),none⟩])
 (.seq (.seq (.reg [⟨(some 5),.move (.c (.val (.int .i64 1))),none⟩])
 (.block 2 (.loop (.seq (.seq (.reg [⟨(some 29),.move (.t 5),none⟩,⟨(some 30),.move (.t 4),none⟩,⟨(some 31),.len (.t 30),none⟩,⟨(some 32),.bin .lss (.t 29) (.t 31),none⟩])
 (.cond (.t 32) (.skip) (.exit 2)))
 (.seq (.block 3 (.seq (.dreg [⟨(some 35),.move (.t 4),none⟩,⟨(some 36),.move (.t 5),none⟩,⟨(some 37),.iaddr 1 (.t 35) (.t 36),none⟩,⟨(some 38),.load false 1 (.t 37),none⟩,⟨(some 39),.move (.t 4),none⟩,⟨(some 40),.move (.t 5),none⟩,⟨(some 41),.bin .sub (.t 40) (.c (.val (.int .i64 1))),none⟩,⟨(some 42),.iaddr 1 (.t 39) (.t 41),none⟩,⟨(some 43),.load false 1 (.t 42),none⟩,⟨(some 44),.bin .neq (.t 38) (.t 43),none⟩] [(2,7),(3,7),(2,8),(3,8)])
 (.cond (.t 44) (.seq (.reg [⟨(some 45),.move (.t 0),none⟩,⟨(some 46),.move (.t 3),none⟩,⟨(some 47),.move (.t 4),none⟩,⟨(some 48),.move (.t 5),none⟩,⟨(some 49),.iaddr 1 (.t 47) (.t 48),none⟩,⟨(some 50),.load false 1 (.t 49),none⟩,⟨(some 51),.iaddr 1 (.t 45) (.t 46),none⟩,⟨none,.store 1 (.t 51) (.t 50),none⟩])
 (.reg [⟨(some 52),.move (.t 3),none⟩,⟨(some 53),.bin .add (.t 52) (.c (.val (.int .i64 1))),none⟩,⟨(some 3),.move (.t 53),none⟩])) (.skip))))
 (.reg [⟨(some 33),.move (.t 5),none⟩,⟨(some 34),.bin .add (.t 33) (.c (.val (.int .i64 1))),none⟩,⟨(some 5),.move (.t 34),none⟩]))))))
 (.seq (.reg [⟨(some 54),.move (.t 0),none⟩,⟨(some 55),.move (.t 3),none⟩,⟨(some 56),.slice 1 (.t 54) (some (.t 55)) none none,none⟩,⟨none,.clear 1 ((.val (.int .i64 0))) (.t 56),none⟩])
 (.seq (.reg [⟨(some 57),.move (.t 0),none⟩,⟨(some 58),.move (.t 3),none⟩,⟨(some 59),.slice 1 (.t 57) none (some (.t 58)) none,none⟩,⟨(some 2),.move (.t 59),none⟩])
 (.ret))))) (.skip))))
 (.reg [⟨(some 14),.move (.t 3),none⟩,⟨(some 15),.bin .add (.t 14) (.c (.val (.int .i64 1))),none⟩,⟨(some 3),.move (.t 15),none⟩]))))))
 (.seq (.reg [⟨(some 60),.move (.t 0),none⟩,⟨(some 2),.move (.t 60),none⟩])
 (.ret))))⟩
theorem Lo:jD Tryz.prog Tryz.f244=some Lp:=by kernel_rfl
theorem lL{P:List Int→Prop}(h0:P [])(h1:∀l y,P l→P (l++[y]))(l:List Int):P l:=by
 have h:∀m:List Int,P m.reverse:=λm=>by
  induction m with
  | nil=>exact h0
  | cons x m ih=>rw[List.reverse_cons];exact h1 _ _ ih
 have h:=h l.reverse
 rwa [List.reverse_reverse]at h
def A2(o:List Int)(y:Int):List Int:=if o.getLast?=some y then o else o++[y]
def cpt(l:List Int):List Int:=l.foldl A2 []
theorem j9(l:List Int)(y:Int):cpt (l++[y])=A2 (cpt l) y:=by unfold cpt;rw[aW'];rfl
theorem xM(l:List Int):(cpt l).getLast?=l.getLast?:=by
 induction l using lL with
 | h0=>rfl
 | h1 l y ih=>rw[j9,A2];split<;>simp_all
theorem Ph(l:List Int):(cpt l).length≤l.length:=by
 induction l using lL with
 | h0=>simp[cpt]
 | h1 l y ih=>rw[j9,A2];split<;>simp<;>omega
theorem oJ(l:List Int)(z:Int):z∈cpt l↔z∈l:=by
 induction l using lL with
 | h0=>simp[cpt]
 | h1 l y ih =>
  rw[j9,A2]
  split
  ·rename_i h;have:=List.mem_of_getLast? h
   grind
  ·simp[ih]
theorem DF{l:List Int}(h:l.Pairwise (·≤·)):(cpt l).Pairwise (·<·):=by
 induction l using lL with
 | h0=>simp[cpt]
 | h1 l y ih =>
  rw[ag']at h;rw[j9,A2]
  split
  ·exact ih h.1
  ·rename_i hq;refine ag'.mpr ⟨ih h.1,by simp,λa ha b hb=>?_⟩;rw[O'.mp hb];have h1:=h.2.2 a ((oJ l a).mp ha) y (by simp);by_cases e:a=y
   case neg=>omega
   refine absurd ?_ hq;subst e;rw[xM];have hl:l≠[]:=λe=>by subst e;simp[cpt]at ha
   rw[List.getLast?_eq_some_getLast hl];have h2:=h.2.2 (l.getLast hl) (List.getLast_mem hl) a (by simp);have h3:a≤l.getLast hl:=by
    have hm:=(oJ l a).mp ha;have hd:=List.dropLast_concat_getLast hl;rw[←hd]at hm
    rcases L'.mp hm with hm|hm
    ·have h4:=h.1;rw[←hd,ag']at h4;exact h4.2.2 a hm _ (by simp)
    ·simp at hm;omega
   simp;omega
theorem xL{l:List Int}{z:Nat}{x y:Int}(hz:1≤z)(hx:l[z-1]?=some x)(hy:l[z]?=some y):cpt (l.take (z+1))=if x=y then cpt (l.take z)else cpt (l.take z)++[y]:=by
 rw[al hy,j9,A2,xM];have:(l.take z).getLast?=some x:=by
  rw[List.getLast?_eq_getElem?,aa',am'];have:=aw hy;rw[if_pos (by omega),show min z l.length-1=z-1 by omega,hx]
 rw[this];simp
theorem jV(l:List Int):bU (l.map AV.int):=aV (ae (λ_=>rfl) l)
theorem FZ(l:List Int)(hl:l.length≤1000000):bc Tryz.prog 244 [.vec 0] [.vec 1 (l.map AV.int)] (.sl 1 ((cpt l).map AV.int) false) [none]:=by
 have hml:=dc;have fin0:∀(tm:Nat→AV) (hp:Hp) (nx:Nat),tm 2=.vec 0→hp 0=some (.vec 1 (l.map AV.int))→cpt l=l→fin 1 61 [.tmp 2] (.sl 1 ((cpt l).map AV.int) false) [none] .ret ⟨tm,hp,nx⟩:=λtm hp nx h2 h3 h4=>by
  refine⟨_,aF.giveT 2 0 h2 h3 (jV l),⟨_,rfl,?_⟩,λb x e=>?_⟩
  ·rw[h4];dsimp only;rw[ai];rfl
  ·match b,e with
   | 0,e=>cases e
 refine bc.walk Tryz.func244 Lo (by simp[Lp]) ?_;unfold Lp;simp only[j0,kE,Z',aC'];refine AWP.seq' ?_;refine AWP.reg' λK hK=>?_
 try simp only[aP,seval]
 refine hK _ _ _ ?_;clear hK K;refine AWP.seq' (AWP.seq' ?_);refine AWP.reg' λK hK=>?_
 try simp only[aP,seval,f']
 refine hK _ _ _ ?_;clear hK K
 refine AWP.cond (b:=decide ((l.length:Int)<2)) rfl (λh=>?_) (λh=>?_)
 ·have h:l.length<2:=by have:=H' h;omega
  refine AWP.seq' ?_;refine AWP.reg' λK hK=>?_
  try simp only[aP,seval]
  refine hK _ _ _ ?_;clear hK K;refine AWP.ret ?_;refine fin0 _ _ _ rfl rfl ?_
  match l,h with
  | [],_=>rfl
  | [x],_=>rfl
 have h:2≤l.length:=by have:=ab' h;omega
 refine AWP.skip ?_;refine AWP.seq' (AWP.seq' ?_);refine AWP.reg' λK hK=>?_
 try simp only[aP,seval]
 refine hK _ _ _ ?_;clear hK K;refine AWP.block ?_
 refine AWP.loopS (λu:S3×Nat=>u.1) (λu=>(1≤u.2∧u.2≤l.length)∧17≤u.1.nx∧u.1.tm 0=.vec 0∧u.1.tm 3=.int (u.2:Nat)∧u.1.hp 0=some (.vec 1 (l.map AV.int))∧cpt (l.take u.2)=l.take u.2) (λu=>l.length-u.2) (i0:=(_,1)) ?_ aF.refl ?_
 ·refine⟨⟨V' _,by omega⟩,by dsimp only;omega,rfl,rfl,rfl,?_⟩
  match l,h with
  | x::l,_=>rfl
 rintro⟨⟨tm,hp,nx⟩,z⟩ ⟨⟨z1,z2⟩,n1,t0,t3,h0,hc⟩;simp only at z1 z2 n1 t0 t3 h0 hc ⊢;refine AWP.seq' (AWP.seq' ?_);refine AWP.reg' λK hK=>?_
 try simp only[aP,seval,t0,t3,h0,f']
 refine hK _ _ _ ?_;clear hK K
 refine AWP.cond (b:=decide ((z:Int)<(l.length:Int))) rfl (λe=>?_) (λe=>?_)
 ·have e:z<l.length:=by have:=H' e;omega
  refine AWP.skip ?_;refine AWP.seq' (AWP.block (AWP.seq' ?_));have hy:l[z]?=some l[z]:=E' e;have hx:l[z-1]?=some l[z-1]:=E' (by omega);generalize l[z]=y at hy;generalize l[z-1]=x at hx;have hct:=xL z1 hx hy;have hge:(l.map AV.int).getD z .unk=.int y:=by rw[J',S',hy];rfl
  have hgx:(l.map AV.int).getD (z-1) .unk=.int x:=by rw[J',S',hx];rfl
  have hw:IntKind.i64.wrap ((z:Int)-1)=((z-1:Nat):Int):=dX (k:=z) (by omega) z1;have hw1:IntKind.i64.wrap ((z:Int)+1)=((z+1:Nat):Int):=kz (by omega) (by omega);refine AWP.dreg' λK hK=>?_
  try simp only[aP,seval,t0,t3,h0,hw,hge,hgx,Int.toNat_natCast,f']
  refine⟨⟨by omega,by omega⟩,by omega,⟨by omega,by omega⟩,by omega,?_⟩;refine⟨by rfl,hK _ _ _ ?_⟩;clear hK K
  refine AWP.cond rfl (λq=>?_) (λq=>?_)
  ·have q:y=x:=eq_of_beq q;subst q;refine AWP.seq' ?_;refine AWP.reg' λK hK=>?_
   try simp only[aP,seval,t0,t3,h0,bV,sliceA,Int.toNat_natCast,f']
   refine⟨by omega,?_⟩;refine hK _ _ _ ?_;clear hK K;refine(show AWP _ _ _ _ _ _ from ?_);refine AWP.seq' (AWP.seq' ?_);refine AWP.reg' λK hK=>?_
   try simp only[aP,seval]
   refine hK _ _ _ ?_;clear hK K;refine AWP.block ?_
   refine AWP.loopS (λu:S3×(Nat×Nat×List Int)=>u.1) (λu=>(u.2.2.2.length=l.length∧1≤u.2.2.1∧z+u.2.2.1≤l.length∧z≤u.2.1∧u.2.1+1≤z+u.2.2.1∧u.2.2.2.take u.2.1=cpt (l.take (z+u.2.2.1))∧∀i,z+u.2.2.1≤i+1→u.2.2.2[i]?=l[i]?)∧17≤u.1.nx∧u.1.tm 0=.vec 0∧u.1.tm 3=.int (u.2.1:Nat)∧u.1.tm 4=.vsub 0 z (l.length-z)∧u.1.tm 5=.int (u.2.2.1:Nat)∧u.1.hp 0=some (.vec 1 (u.2.2.2.map AV.int))) (λu=>l.length-u.2.2.1) (i0:=(_,(z,1,l))) ?_ aF.refl ?_
   ·refine⟨⟨rfl,V' _,by dsimp only;omega,V' _,V' _,?_,λ_ _=>rfl⟩,by dsimp only;omega,?_,?_,?_,rfl,?_⟩
    ·dsimp only;rw[hct,if_pos rfl,hc]
    ·simp only[bz];exact t0
    ·simp only[bz];exact t3
    ·simp only[bz];rw[u' (by decide),if_pos trivial,if_pos (by omega)];congr 1;omega
    ·exact h0
   clear t0 t3 h0 hge hgx n1;rintro⟨⟨tm,hp,nx⟩,⟨k,k2,es⟩⟩ ⟨⟨l1,l2,l3,l4,l5,l6,l7⟩,n1,t0,t3,t4,t5,h0⟩;simp only at l1 l2 l3 l4 l5 l6 l7 n1 t0 t3 t4 t5 h0 ⊢;refine AWP.seq' (AWP.seq' ?_);refine AWP.reg' λK hK=>?_
   try simp only[aP,seval,t4,t5]
   refine⟨by omega,?_⟩;refine hK _ _ _ ?_;clear hK K
   refine AWP.cond rfl (λd=>?_) (λd=>?_)
   ·have d:z+k2<l.length:=by have d:=H' d;omega
    refine AWP.skip ?_;refine AWP.seq' (AWP.block (AWP.seq' ?_));have hy2:es[z+k2]?=l[z+k2]?:=l7 _ (by omega);have hx2:es[z+k2-1]?=l[z+k2-1]?:=l7 _ (by omega);rw[E' d]at hy2;rw[E' (by omega:z+k2-1<l.length)]at hx2;have hy3:l[z+k2]?=some l[z+k2]:=E' d;have hx3:l[z+k2-1]?=some l[z+k2-1]:=E' (by omega);generalize l[z+k2]=b at hy2 hy3;generalize l[z+k2-1]=a at hx2 hx3;have hcs:=xL (z:=z+k2) (by omega) hx3 hy3;have hgb:(es.map AV.int).getD (z+k2) .unk=.int b:=by rw[J',S',hy2];rfl
    have hga:(es.map AV.int).getD (z+(k2-1)) .unk=.int a:=by rw[J',S',show z+(k2-1)=z+k2-1 by omega,hx2];rfl
    have hw2:IntKind.i64.wrap ((k2:Int)-1)=((k2-1:Nat):Int):=dX (k:=k2) (by omega) l2;have hw3:IntKind.i64.wrap ((k2:Int)+1)=((k2+1:Nat):Int):=kz (by omega) (by omega);have hw4:IntKind.i64.wrap ((k:Int)+1)=((k+1:Nat):Int):=kz (by omega) (by omega);refine AWP.dreg' λK hK=>?_
    try simp only[aP,seval,t4,t5,h0,hw2,hgb,hga,Int.toNat_natCast,f']
    refine⟨⟨by omega,by omega⟩,by omega,⟨by omega,by omega⟩,by omega,?_⟩;refine⟨by rfl,hK _ _ _ ?_⟩;clear hK K;obtain⟨c0,hc0⟩:∃c0,es[k]?=some c0:=⟨_,E' (by omega)⟩
    have hgk:(es.map AV.int).getD k .unk=.int c0:=by rw[J',S',hc0];rfl
    have hset:(es.map AV.int).set k (.int b)=(es.set k b).map AV.int:=by rw[bm']
    refine AWP.cond rfl (λg=>?_) (λg=>?_)
    ·have g:¬a=b:=λe=>by subst e;simp at g
     rw[u' g]at hcs;refine AWP.seq' ?_;refine AWP.reg' λK hK=>?_
     try simp only[aP,seval,t0,t3,t4,t5,h0,hgb,hgk,hset,Int.toNat_natCast,f']
     refine⟨⟨by omega,by omega⟩,by omega,⟨by omega,by omega⟩,by omega,?_⟩;refine hK _ _ _ ?_;clear hK K;refine(show AWP _ _ _ _ _ _ from ?_);refine AWP.reg' λK hK=>?_
     try simp only[aP,seval,t3,hw4]
     refine hK _ _ _ ?_;clear hK K;refine(show AWP _ _ _ _ _ _ from ?_);refine AWP.reg' λK hK=>?_
     try simp only[aP,seval,t5,hw3]
     refine hK _ _ _ ?_;clear hK K
     refine⟨(_,(k+1,k2+1,es.set k b)),⟨⟨by dsimp only;rw[List.length_set];exact l1,by dsimp only;omega,by dsimp only;omega,by dsimp only;omega,by dsimp only;omega,?_,λi hi=>?_⟩,by dsimp only;omega,?_,rfl,?_,rfl,?_⟩,by dsimp only;omega,aF.refl⟩
     ·dsimp only;rw[show z+(k2+1)=z+k2+1 by omega,hcs,←l6,List.take_succ_eq_append_getElem (by rw[List.length_set];omega),List.take_set_of_le (V' _),List.getElem_set_self]
     ·dsimp only at hi ⊢;rw[List.getElem?_set_ne (by omega)];exact l7 i (by omega)
     ·simp only[bz];exact t0
     ·simp only[bz];exact t4
     ·simp only[bz];rfl
    ·have g:a=b:=(by simpa using g:b=a).symm;rw[if_pos g]at hcs;refine AWP.skip ?_;refine(show AWP _ _ _ _ _ _ from ?_);refine AWP.reg' λK hK=>?_
     try simp only[aP,seval,t5,hw3]
     refine hK _ _ _ ?_;clear hK K
     refine⟨(_,(k,k2+1,es)),⟨⟨l1,by dsimp only;omega,by dsimp only;omega,l4,by dsimp only;omega,?_,λi hi=>l7 i (by dsimp only at hi;omega)⟩,by dsimp only;omega,?_,?_,?_,rfl,h0⟩,by dsimp only;omega,aF.refl⟩
     ·dsimp only;rw[show z+(k2+1)=z+k2+1 by omega,hcs,←l6]
     ·simp only[bz];exact t0
     ·simp only[bz];exact t3
     ·simp only[bz];exact t4
   ·have d:z+k2=l.length:=by have d:=ab' d;omega
    refine AWP.exit ?_;refine(show AWP _ _ _ _ _ _ from ?_);refine AWP.seq' ?_;have hpos:0<es.length:=by omega
    have hkn:((es.length:Int)-(k:Int)).toNat=es.length-k:=by omega
    refine AWP.reg' λK hK=>?_
    try simp only[aP,seval,t0,t3,h0,bV,sliceA,jB,hpos,hkn,Int.toNat_natCast,f']
    refine⟨⟨by omega,by omega⟩,by omega,?_⟩;refine hK _ _ _ ?_;clear hK K;refine(show AWP _ _ _ _ _ _ from ?_);refine AWP.seq' ?_;have hov:(over (es.map AV.int) k (List.replicate (es.length-k) (AV.val (.int .i64 0)))).length=es.length:=by
     unfold over;simp;omega
    have hot:(over (es.map AV.int) k (List.replicate (es.length-k) (AV.val (.int .i64 0)))).take k=(cpt l).map AV.int:=by
     unfold over;rw[List.length_replicate,aI' (by simp;omega),az',List.take_left' (by simp;omega),←cf',l6,d,aj']
    have hop:bU (over (es.map AV.int) k (List.replicate (es.length-k) (AV.val (.int .i64 0)))):=by
     have:over (es.map AV.int) k (List.replicate (es.length-k) (AV.val (.int .i64 0)))=(es.take k++List.replicate (es.length-k) 0).map AV.int:=by
      unfold over;rw[List.length_replicate,aI' (by simp;omega)];simp
     rw[this];exact jV _
    generalize hO:over (es.map AV.int) k (List.replicate (es.length-k) (AV.val (.int .i64 0)))=O at *
    refine AWP.reg' λK hK=>?_
    try simp only[aP,seval,t0,t3,bV,sliceA,hpos,hov,Int.toNat_natCast]
    refine⟨⟨by omega,by omega⟩,?_⟩;refine hK _ _ _ ?_;clear hK K;refine AWP.ret ?_
    refine⟨_,aF.giveS (m:=k) (kk:=1) (es:=O) 2 0 (ai _ _ _) (ai _ _ _) hop (by omega),⟨_,rfl,?_⟩,λb x e=>?_⟩
    ·dsimp only;rw[ai,hot];rfl
    ·match b,e with
     | 0,e=>cases e
  ·have q:¬y=x:=by simpa using q
   rw[u' (λe=>q e.symm)]at hct;refine AWP.skip ?_;refine(show AWP _ _ _ _ _ _ from ?_);refine AWP.reg' λK hK=>?_
   try simp only[aP,seval,t3,hw1]
   refine hK _ _ _ ?_;clear hK K
   refine⟨(_,z+1),⟨⟨by dsimp only;omega,by dsimp only;omega⟩,by dsimp only;omega,?_,rfl,h0,?_⟩,by dsimp only;omega,aF.refl⟩
   ·simp only[bz];exact t0
   ·dsimp only;rw[hct,hc,al hy]
 ·refine AWP.exit ?_;refine(show AWP _ _ _ _ _ _ from ?_);refine AWP.seq' ?_;refine AWP.reg' λK hK=>?_
  try simp only[aP,seval,t0]
  refine hK _ _ _ ?_;clear hK K;refine AWP.ret ?_;refine fin0 _ _ _ rfl h0 ?_;have e:z=l.length:=by have:=ab' e;omega
  rw[e,aj']at hc;exact hc
def K8(l:List Int)(h:l.length≤1000000):HC Tryz.prog:=⟨244,[.s 1],[.vec 0],[.vec 1 (l.map AV.int)],.sl 1 ((cpt l).map AV.int) false,[none],FZ l h,iO (by kernel_rfl),qT.of (by simp[hcB,bJ,AV.belB,allB,cF,bW,ae (v:=AV.int) (λ_=>rfl)])⟩
end Go.Proofs.YtiobpjoadkfhdaaGreatDoor
namespace Go.Am
theorem aF.cutT{k n kk m nx:Nat}{tm:Nat→AV}{hp:Hp}{es:List AV}(t0 b:Nat)(ht:tm t0=.vsub b 0 m)(hb:hp b=some (.vec kk es))(hm:m≤es.length)(he:0<es.length)(hk:k≤nx) :
  aF k n ⟨tm,hp,nx⟩ ⟨upd tm t0 (.vec nx),upd (upd hp b none) nx (some (.vec kk (es.take m))),nx+1⟩:=by
 rintro P c a w ⟨hh,A,μ,H⟩;obtain⟨hd,cap,o,e1,e0,e2,e3,e4,hv⟩:=(by have:=H.tm t0;rw[show(⟨tm,hp,nx⟩:S3).tm t0=_ from ht]at this;exact this:RV w A (.vsub b 0 m) μ _)
 obtain⟨hd',g0,g1,g2⟩:=H.vec hb;rw[e1]at g0;cases g0
 rcases g2 with⟨rfl,_⟩|⟨p1,p2,p3,p4,C,ty,vs,k1,k2,k3,k4,k5,k6,k7⟩
 ·simp at he
 have ho:o=0:=by have:=e3 (by omega);omega
 subst ho;have hcap:cap=hd.cap:=by omega
 subst hcap;obtain⟨f1,f2⟩:μ nx=none∧hp nx=none:=H.fr nx (V' _);have hbn:b≠nx:=λe=>by subst e;rw[f2]at hb;cases hb
 let hd2:Hd:=⟨none,hd.blk,kk,m,hd.cap⟩
 have hle:bp μ (upd μ nx (some hd2)):=by
  intro b hd' e
  by_cases g:b=nx
  ·subst g;rw[f1]at e;cases e
  ·rw[az _ _ g];exact e
 obtain⟨r1,r2,r3⟩:=(by
  obtain⟨hd'',p1',_,p3'⟩:=H.blk b _ hb;rw[e1]at p1';cases p1';exact p3' p1:¬A hd.blk∧hd.blk<w.heap.size∧(c.own hd.blk∨c.w.heap.size≤hd.blk))
 have hd1:=H.drop b;have f3:upd hp b none nx=none:=by rw[az _ _ (Ne.symm hbn)];exact f2
 have key:=hd1.add nx f3 (upd μ nx (some hd2)) hle (λb hb=>az _ _ hb) hd2 (ai _ _ _) (.vec kk (es.take m))
  ⟨rfl,.inr ⟨rfl,by rw[aa'];show m=_;omega,e2,p4,C,ty,vs.take m,k1,RVL.mono (cJ.refl A w) (λ_ h=>h) _ hle (k2.take m),λy hy=>k3 y (T' hy),λy hy=>k4 y (T' hy),k5,by
   show C.toList.take (m * kk)=_;rw[flat_take k4,←k6,List.take_take,aO' (ae' kk (by omega))]⟩⟩ (λ_=>⟨r1,r2,r3⟩) (by
  intro b' x' hd' hx' hm' he' _ heq
  by_cases e:b'=b
  ·subst e;simp[ai]at hx'
  ·rw[az _ _ e]at hx';exact e (H.inj b' b x' _ hd' hd hx' hb hm' e1 he' p1 heq))
 refine⟨hh,A,upd μ nx (some hd2),⟨λt=>?_,key.n,key.df,key.blk,key.inj,key.lt,λb hb=>?_,key.keep,key.A0,key.A1,key.mu⟩⟩
 ·by_cases ht:t=t0
  ·subst ht;show RV w A (upd tm t (.vec nx) t) _ _;rw[ai];refine⟨hd2,ai _ _ _,?_⟩;rw[hv];rfl
  ·show RV w A (upd tm t0 (.vec nx) t) _ _;rw[az _ _ ht];exact key.tm t
 ·have hb:nx+1≤b:=hb;exact key.fr b ⟨show nx≤b by omega,by omega⟩
end Go.Am
namespace Go.Proofs.YtiobpjoadkfhdaaGreatDoor
open Go Go.Am
def Ll:AF:=
 ⟨27,2,[.tmp 4],
 .seq (.reg [⟨(some 4),.move (.c (.sl 0 [] true)),none⟩])
 (.seq (.seq (.reg [⟨(some 5),.move (.t 1),none⟩,⟨(some 6),.bin .lss (.t 5) (.c (.val (.int .i64 0))),none⟩])
 (.cond (.t 6) (.reg [⟨(some 7),.mkI 9 (.c (.val (.string ⟨#[99,97,110,110,111,116,32,98,101,32,110,101,103,97,116,105,118,101]⟩))),none⟩,⟨none,.bad,none⟩]) (.skip)))
 (.seq (.seq (.reg [⟨(some 8),.move (.t 1),none⟩,⟨(some 9),.move (.t 0),none⟩,⟨(some 10),.cap (.t 9),none⟩,⟨(some 11),.move (.t 0),none⟩,⟨(some 12),.len (.t 11),none⟩,⟨(some 13),.bin .sub (.t 10) (.t 12),none⟩,⟨(some 14),.bin .sub (.t 8) (.t 13),none⟩,⟨(some 1),.move (.t 14),none⟩])
 (.seq (.reg [⟨(some 15),.move (.t 1),none⟩,⟨(some 16),.bin .gtr (.t 15) (.c (.val (.int .i64 0))),none⟩])
 (.cond (.t 16) (.reg [⟨(some 17),.move (.t 0),none⟩,⟨(some 18),.move (.t 0),none⟩,⟨(some 19),.cap (.t 18),none⟩,⟨(some 20),.slice 1 (.t 17) none (some (.t 19)) none,none⟩,⟨(some 21),.move (.t 1),none⟩,⟨(some 22),.appendZ 1 8 ((.val (.int .i64 0))) (.t 20) (.t 21),none⟩,⟨(some 23),.move (.t 0),none⟩,⟨(some 24),.len (.t 23),none⟩,⟨(some 25),.slice 1 (.t 22) none (some (.t 24)) none,none⟩,⟨(some 0),.move (.t 25),none⟩]) (.skip))))
 (.seq (.reg [⟨(some 26),.move (.t 0),none⟩,⟨(some 4),.move (.t 26),none⟩])
 (.ret))))⟩
theorem Lk:jD Tryz.prog Tryz.f377=some Ll:=by kernel_rfl
theorem TK(n:Nat)(h:n≤1000000):bc Tryz.prog 377 [.sl 0 [] true,.int n] [] (.vec 0) [some (.vec 1 [])]:=by
 have hml:=dc;have hE:∀(π:Nat→Nat),(Blk.vec 1 []).ren π=.vec 1 []:=λ_=>rfl;refine bc.walk Tryz.func377 Lk (by simp[Ll]) ?_;unfold Ll;simp only[j0,kE,Z',aC'];refine AWP.seq' ?_;refine AWP.reg' λK hK=>?_
 try simp only[aP,seval]
 refine hK _ _ _ ?_;clear hK K;refine AWP.seq' (AWP.seq' ?_);refine AWP.reg' λK hK=>?_
 try simp only[aP,seval]
 refine hK _ _ _ ?_;clear hK K;refine AWP.cond (b:=false) (by show AV.val _=_;rw[decide_eq_false (by omega)]) (λe=>by cases e) (λ_=>?_);refine AWP.skip ?_;refine(show AWP _ _ _ _ _ _ from ?_)
 refine AWP.seqI (λs=>1≤s.nx∧((s.tm 0=.sl 0 [] true)∨∃b es,s.tm 0=.vsub b 0 0∧b<s.nx∧0<es.length∧s.hp b=some (.vec 1 es))) ?_ ?_
 ·refine AWP.seq' ?_;have hw:IntKind.i64.wrap ((n:Int)-IntKind.i64.wrap 0)=(n:Int):=kz (by have:IntKind.i64.wrap 0=0:=rfl;rw[this];omega) (by omega);refine AWP.reg' λK hK=>?_
  try simp only[aP,seval]
  rw[show IntKind.i64.wrap 0=0 from rfl]at hw;rw[show IntKind.i64.wrap 0=0 from rfl,hw];refine hK _ _ _ ?_;clear hK K;refine(show AWP _ _ _ _ _ _ from ?_);refine AWP.seq' ?_;refine AWP.reg' λK hK=>?_
  try simp only[aP,seval]
  refine hK _ _ _ ?_;clear hK K
  refine AWP.cond rfl (λe=>?_) (λe=>?_)
  ·have e:0<n:=by have e:=H' e;omega
   refine AWP.reg' λK hK=>?_
   try simp only[aP,seval,bV,sliceA,eP,List.length_replicate,e]
   refine⟨.inr trivial,⟨by omega,by omega,by omega⟩,by omega,?_⟩;refine hK _ _ _ ?_;clear hK K;exact⟨by dsimp only;omega,.inr ⟨288,List.replicate n (AV.val (.int .i64 0)),rfl,by dsimp only;omega,by rw[List.length_replicate];exact e,rfl⟩⟩
  ·refine AWP.skip ?_;exact⟨by dsimp only;omega,.inl rfl⟩
 ·rintro⟨tm,hp,nx⟩ ⟨n1,h1⟩;simp only at n1 h1;refine AWP.seq' ?_
  rcases h1 with h1|⟨b,es,h1,h2,h3,h4⟩
  ·refine AWP.reg' λK hK=>?_
   try simp only[aP,seval,h1]
   refine hK _ _ _ ?_;clear hK K;refine AWP.ret ?_
   refine⟨_,(aF.nilvec 4 0 1 (ai _ _ _) (aS' _)).trans (aF.nf [nx+16+16] [(4,.vec 0)] [some (.vec 1 [])] (m:=1) ⟨⟨?_,show(0:Nat)<1 by omega⟩,trivial⟩ ⟨⟨?_,trivial⟩,trivial⟩ ⟨rfl,rfl⟩ (by simp) (λb h=>by omega) (by omega)),⟨_,rfl,rfl⟩,λb x e=>?_⟩
   ·exact ai _ _ _
   ·exact ai _ _ _
   ·match b,e with
    | 0,e=>exact e
  ·refine AWP.reg' λK hK=>?_
   try simp only[aP,seval,h1]
   refine hK _ _ _ ?_;clear hK K;refine AWP.ret ?_
   refine⟨_,(aF.cutT (m:=0) 4 b (ai _ _ _) h4 (aS' _) h3 (aS' _)).trans (aF.nf [nx+16+16] [(4,.vec 0)] [some (.vec 1 [])] (m:=1) ⟨⟨?_,show(0:Nat)<1 by omega⟩,trivial⟩ ⟨⟨?_,trivial⟩,trivial⟩ ⟨rfl,rfl⟩ (by simp) (λb h=>by omega) (by omega)),⟨_,rfl,rfl⟩,λb x e=>?_⟩
   ·exact ai _ _ _
   ·exact ai _ _ _
   ·match b,e with
    | 0,e=>exact e
theorem sG{L:List (List Int)}{k:Nat}{r:List Int}(h:L[k]?=some r):(L.take (k+1)).flatten=(L.take k).flatten++r:=by
 rw[al h];simp
def Ln:AF:=
 ⟨36,1,[.tmp 2],
 .seq (.reg [⟨(some 2),.move (.c (.sl 0 [] true)),none⟩])
 (.seq (.reg [⟨(some 3),.move (.c (.val (.int .i64 0))),none⟩])
 (.seq (.seq (.reg [⟨(some 9),.move (.t 0),none⟩,⟨(some 10),.len (.t 9),none⟩,⟨(some 11),.move (.c (.val (.int .i64 0))),none⟩])
 (.block 0 (.loop (.seq (.reg [⟨(some 12),.bin .lss (.t 11) (.t 10),none⟩])
 (.seq (.cond (.t 12) (.skip) (.exit 0))
 (.seq (.block 1 (.seq (.reg [⟨(some 13),.iaddr 1 (.t 9) (.t 11),none⟩,⟨(some 14),.load false 1 (.t 13),none⟩,⟨(some 5),.move (.t 14),none⟩])
 (.seq (.reg [⟨(some 15),.move (.t 3),none⟩,⟨(some 16),.move (.t 5),none⟩,⟨(some 17),.len (.t 16),none⟩,⟨(some 18),.bin .add (.t 15) (.t 17),none⟩,⟨(some 3),.move (.t 18),none⟩])
 (.seq (.reg [⟨(some 19),.move (.t 3),none⟩,⟨(some 20),.bin .lss (.t 19) (.c (.val (.int .i64 0))),none⟩])
 (.cond (.t 20) (.reg [⟨(some 21),.mkI 9 (.c (.val (.string ⟨#[108,101,110,32,111,117,116,32,111,102,32,114,97,110,103,101]⟩))),none⟩,⟨none,.bad,none⟩]) (.skip))))))
 (.reg [⟨(some 22),.bin .add (.t 11) (.c (.val (.int .i64 1))),none⟩,⟨(some 11),.move (.t 22),none⟩])))))))
 (.seq (.reg [⟨(some 23),.move (.t 3),none⟩,⟨(some 24),.call (.c (.func 377 [])) [(.c (.sl 0 [] true)),(.t 23)],none⟩,⟨(some 6),.move (.t 24),none⟩])
 (.seq (.seq (.reg [⟨(some 25),.move (.t 0),none⟩,⟨(some 26),.len (.t 25),none⟩,⟨(some 27),.move (.c (.val (.int .i64 0))),none⟩])
 (.block 2 (.loop (.seq (.reg [⟨(some 28),.bin .lss (.t 27) (.t 26),none⟩])
 (.seq (.cond (.t 28) (.skip) (.exit 2))
 (.seq (.block 3 (.seq (.reg [⟨(some 29),.iaddr 1 (.t 25) (.t 27),none⟩,⟨(some 30),.load false 1 (.t 29),none⟩,⟨(some 8),.move (.t 30),none⟩])
 (.reg [⟨(some 31),.move (.t 6),none⟩,⟨(some 32),.move (.t 8),none⟩,⟨(some 33),.append 1 8 (.t 31) (.t 32),none⟩,⟨(some 6),.move (.t 33),none⟩])))
 (.reg [⟨(some 34),.bin .add (.t 27) (.c (.val (.int .i64 1))),none⟩,⟨(some 27),.move (.t 34),none⟩])))))))
 (.seq (.reg [⟨(some 35),.move (.t 6),none⟩,⟨(some 2),.move (.t 35),none⟩])
 (.ret))))))⟩
theorem Lm:jD Tryz.prog Tryz.f321=some Ln:=by kernel_rfl
theorem D2{L:List (List Int)}:∀k,(L.take k).flatten.length≤L.flatten.length:=λk=>by
 have:L.flatten.length=(L.take k).flatten.length+(L.drop k).flatten.length:=by rw[←Y',←List.flatten_append,bg']
 omega
theorem Mo(L:List (List Int))(hl:L.length≤1000)(h:L.flatten.length≤1000000):bc Tryz.prog 321 [.sl 1 (L.map λr=>AV.sl 1 (r.map AV.int) false) false] [] (.vec 0) [some (.vec 1 (L.flatten.map AV.int))]:=by
 have hml:=dc;refine bc.walk Tryz.func321 Lm (by simp[Ln]) ?_;unfold Ln;simp only[j0,kE,Z',aC'];refine AWP.seq' ?_;refine AWP.reg' λK hK=>?_
 try simp only[aP,seval]
 refine hK _ _ _ ?_;clear hK K;refine AWP.seq' ?_;refine AWP.reg' λK hK=>?_
 try simp only[aP,seval]
 refine hK _ _ _ ?_;clear hK K;refine AWP.seq' (AWP.seq' ?_);refine AWP.reg' λK hK=>?_
 try simp only[aP,seval,f']
 refine hK _ _ _ ?_;clear hK K;refine AWP.block ?_
 refine AWP.loopS (λu:S3×Nat=>u.1) (λu=>u.2≤L.length∧u.1.tm 0=.sl 1 (L.map λr=>AV.sl 1 (r.map AV.int) false) false∧u.1.tm 9=.sl 1 (L.map λr=>AV.sl 1 (r.map AV.int) false) false∧u.1.tm 10=.int L.length∧u.1.tm 11=.int (u.2:Nat)∧u.1.tm 3=.int ((L.take u.2).flatten.length:Nat)) (λu=>L.length-u.2) (i0:=(_,0)) ?_ aF.refl ?_
 ·exact⟨aS' _,rfl,rfl,rfl,rfl,rfl⟩
 rintro⟨⟨tm,hp,nx⟩,z⟩ ⟨z2,t0,t9,t10,t11,t3⟩;simp only at z2 t0 t9 t10 t11 t3 ⊢;refine AWP.seq' ?_;refine AWP.reg' λK hK=>?_
 try simp only[aP,seval,t10,t11]
 refine hK _ _ _ ?_;clear hK K;refine AWP.seq' ?_
 refine AWP.cond rfl (λe=>?_) (λe=>?_)
 ·have e:z<L.length:=by have e:=H' e;omega
  refine AWP.skip ?_;refine AWP.seq' (AWP.block (AWP.seq' ?_));have hy:L[z]?=some L[z]:=E' e;generalize L[z]=r at hy;have hge:(L.map λr=>AV.sl 1 (r.map AV.int) false).getD z .unk=.sl 1 (r.map AV.int) false:=by rw[J',S',hy];rfl
  have hfs:=sG hy;have hfl:=D2 (L:=L) (z+1);rw[hfs,Y']at hfl;have hw:IntKind.i64.wrap ((z:Int)+1)=((z+1:Nat):Int):=kz (by omega) (by omega);have hw2:IntKind.i64.wrap ((((L.take z).flatten.length:Nat):Int)+(r.length:Int))=(((L.take (z+1)).flatten.length:Nat):Int):=kz (by rw[hfs,Y'];omega) (by rw[hfs,Y'];omega);refine AWP.reg' λK hK=>?_
  try simp only[aP,seval,t9,t11,hge,Int.toNat_natCast,f']
  refine⟨⟨by omega,by omega⟩,?_⟩;refine hK _ _ _ ?_;clear hK K;refine(show AWP _ _ _ _ _ _ from ?_);refine AWP.seq' ?_;refine AWP.reg' λK hK=>?_
  try simp only[aP,seval,t3,f',hw2]
  refine hK _ _ _ ?_;clear hK K;refine(show AWP _ _ _ _ _ _ from ?_);refine AWP.seq' ?_;refine AWP.reg' λK hK=>?_
  try simp only[aP,seval]
  refine hK _ _ _ ?_;clear hK K;refine AWP.cond (b:=false) (by show AV.val _=_;rw[decide_eq_false (by omega)]) (λe=>by cases e) (λ_=>?_);refine AWP.skip ?_;refine(show AWP _ _ _ _ _ _ from ?_);refine AWP.reg' λK hK=>?_
  try simp only[aP,seval,t11,hw]
  refine hK _ _ _ ?_;clear hK K
  refine⟨(_,z+1),⟨by dsimp only;omega,?_,?_,?_,rfl,?_⟩,by dsimp only;omega,aF.refl⟩
  ·simp only[bz];exact t0
  ·simp only[bz];exact t9
  ·simp only[bz];exact t10
  ·simp only[bz];rfl
 have e:z=L.length:=by have e:=ab' e;omega
 subst e;rw[aj']at t3;refine AWP.exit ?_;refine(show AWP _ _ _ _ _ _ from ?_);refine AWP.seq' ?_;refine AWP.reg' λK hK=>?_
 try simp only[aP,seval,t3]
 refine Kr (TK L.flatten.length h) (iO (by kernel_rfl)) ⟨AV.pureB_ok rfl,trivial,trivial⟩ trivial rfl rfl ?_
 try simp only[aP,seval]
 refine hK _ _ _ ?_;clear hK K;refine(show AWP _ _ _ _ _ _ from ?_);refine AWP.seq' (AWP.seq' ?_);refine AWP.reg' λK hK=>?_
 try simp only[aP,seval,t0,f']
 refine hK _ _ _ ?_;clear hK K;refine AWP.block ?_
 refine AWP.loopS (λu:S3×Nat=>u.1) (λu=>u.2≤L.length∧u.1.tm 25=.sl 1 (L.map λr=>AV.sl 1 (r.map AV.int) false) false∧u.1.tm 26=.int L.length∧u.1.tm 27=.int (u.2:Nat)∧∃b,u.1.tm 6=.vec b∧b<u.1.nx∧u.1.hp b=some (.vec 1 ((L.take u.2).flatten.map AV.int))) (λu=>L.length-u.2) (i0:=(_,0)) ?_ aF.refl ?_
 ·exact⟨aS' _,rfl,rfl,rfl,nx+16+16,rfl,by dsimp only;omega,ai _ _ _⟩
 clear t0 t9 t10 t11 t3 z2;rintro⟨⟨tm,hp,nx⟩,z⟩ ⟨z2,t25,t26,t27,b,t6,hb,hr⟩;simp only at z2 t25 t26 t27 t6 hb hr ⊢;refine AWP.seq' ?_;refine AWP.reg' λK hK=>?_
 try simp only[aP,seval,t26,t27]
 refine hK _ _ _ ?_;clear hK K;refine AWP.seq' ?_
 refine AWP.cond rfl (λe=>?_) (λe=>?_)
 ·have e:z<L.length:=by have e:=H' e;omega
  refine AWP.skip ?_;refine AWP.seq' (AWP.block (AWP.seq' ?_));have hy:L[z]?=some L[z]:=E' e;generalize L[z]=r at hy;have hge:(L.map λr=>AV.sl 1 (r.map AV.int) false).getD z .unk=.sl 1 (r.map AV.int) false:=by rw[J',S',hy];rfl
  have hfs:=sG hy;have hfl:=D2 (L:=L) (z+1);rw[hfs,Y']at hfl;have hw:IntKind.i64.wrap ((z:Int)+1)=((z+1:Nat):Int):=kz (by omega) (by omega);refine AWP.reg' λK hK=>?_
  try simp only[aP,seval,t25,t27,hge,Int.toNat_natCast,f']
  refine⟨⟨by omega,by omega⟩,?_⟩;refine hK _ _ _ ?_;clear hK K;refine(show AWP _ _ _ _ _ _ from ?_);refine AWP.reg' λK hK=>?_
  try simp only[aP,seval,t6,hr,dP,kK,f']
  refine⟨⟨by omega,by omega⟩,?_⟩;refine hK _ _ _ ?_;clear hK K;refine(show AWP _ _ _ _ _ _ from ?_);refine AWP.reg' λK hK=>?_
  try simp only[aP,seval,t27,hw,bH']
  refine hK _ _ _ ?_;clear hK K
  refine⟨(_,z+1),⟨by dsimp only;omega,?_,?_,rfl,nx+96,rfl,by dsimp only;omega,?_⟩,by dsimp only;omega,aF.refl⟩
  ·simp only[bz];exact t25
  ·simp only[bz];exact t26
  ·dsimp only;rw[ai,hfs,List.map_append]
 have e:z=L.length:=by have e:=ab' e;omega
 subst e;rw[aj']at hr;refine AWP.exit ?_;refine(show AWP _ _ _ _ _ _ from ?_);refine AWP.seq' ?_;refine AWP.reg' λK hK=>?_
 try simp only[aP,seval,t6]
 refine hK _ _ _ ?_;clear hK K;refine AWP.ret ?_
 refine⟨_,aF.nf [b] [(2,.vec 0)] [some (.vec 1 (L.flatten.map AV.int))] (m:=1) ⟨⟨?_,show(0:Nat)<1 by omega⟩,trivial⟩ ⟨⟨?_,bm (jV _)⟩,trivial⟩ ⟨rfl,rfl⟩ (by simp) (λb h=>by omega) (by omega),⟨_,rfl,rfl⟩,λb x e=>?_⟩
 ·exact ai _ _ _
 ·rw[Blk.ren,bf _ (jV _)];exact hr
 ·match b,e with
  | 0,e=>exact e
def SS(L:List (List Int))(h:L.length≤1000∧L.flatten.length≤1000000):HC Tryz.prog:=⟨321,[.s 1],[.sl 1 (L.map λr=>AV.sl 1 (r.map AV.int) false) false],[],.vec 0,[some (.vec 1 (L.flatten.map AV.int))],Mo L h.1 h.2,iO (by kernel_rfl),qT.of (by
 have h1:bM (L.map λr=>AV.sl 1 (r.map AV.int) false)=true:=ae (λr=>by show AV.pureB (AV.sl 1 (r.map AV.int) false)=true;rw[AV.pureB];first|done|exact ae (λ_=>rfl) _) L;have h2:bM (L.flatten.map AV.int)=true:=ae (λ_=>rfl) _;simp only[hcB,bJ,AV.belB,allB,cF,bW,h1,h2,cond];rfl)⟩
end Go.Proofs.YtiobpjoadkfhdaaGreatDoor
namespace Go.Proofs
open Go.Shelf
def Tryz.sortI_ren:Go.Shelf.Ren:=⟨fun|189=>318|125=>328|257=>376|128=>386|129=>387|294=>405|295=>406|296=>407|297=>408|298=>409|299=>410|216=>411|300=>412|301=>413|328=>422|329=>415|330=>416|331=>423|332=>424|215=>329|343=>435|n=>n,fun|28=>22|3=>3|46=>260|0=>0|51=>424|53=>68|4=>4|183=>418|182=>417|131=>178|5=>5|9=>9|218=>448|222=>452|228=>459|229=>460|n=>n,fun|n=>n⟩
theorem Tryz.sortI:Go.Proofs.Lays.n189 Tryz.prog Tryz.sortI_ren:={
 mixed:=by kernel_rfl
 f125:=Tryz.func328.trans (congrArg some (by kernel_rfl))
 f128:=Tryz.func386.trans (congrArg some (by kernel_rfl))
 f129:=Tryz.func387.trans (congrArg some (by kernel_rfl))
 f189:=Tryz.func318.trans (congrArg some (by kernel_rfl))
 f215:=Tryz.func329.trans (congrArg some (by kernel_rfl))
 f216:=Tryz.func411.trans (congrArg some (by kernel_rfl))
 f257:=Tryz.func376.trans (congrArg some (by kernel_rfl))
 f294:=Tryz.func405.trans (congrArg some (by kernel_rfl))
 f295:=Tryz.func406.trans (congrArg some (by kernel_rfl))
 f296:=Tryz.func407.trans (congrArg some (by kernel_rfl))
 f297:=Tryz.func408.trans (congrArg some (by kernel_rfl))
 f298:=Tryz.func409.trans (congrArg some (by kernel_rfl))
 f299:=Tryz.func410.trans (congrArg some (by kernel_rfl))
 f300:=Tryz.func412.trans (congrArg some (by kernel_rfl))
 f301:=Tryz.func413.trans (congrArg some (by kernel_rfl))
 f328:=Tryz.func422.trans (congrArg some (by kernel_rfl))
 f329:=Tryz.func415.trans (congrArg some (by kernel_rfl))
 f330:=Tryz.func416.trans (congrArg some (by kernel_rfl))
 f331:=Tryz.func423.trans (congrArg some (by kernel_rfl))
 f332:=Tryz.func424.trans (congrArg some (by kernel_rfl))
 f343:=Tryz.func435.trans (congrArg some (by kernel_rfl))
 t0:=Tryz.underlying0
 a0:=Tryz.isAgg0
 z0:=Tryz.sizeOf0
 v0:=Tryz.zeroValue0
 t3:=Tryz.underlying3
 a3:=Tryz.isAgg3
 z3:=Tryz.sizeOf3
 v3:=Tryz.zeroValue3
 t4:=Tryz.underlying4
 a4:=Tryz.isAgg4
 z4:=Tryz.sizeOf4
 v4:=Tryz.zeroValue4
 t5:=Tryz.underlying5
 a5:=Tryz.isAgg5
 z5:=Tryz.sizeOf5
 v5:=Tryz.zeroValue5
 t9:=Tryz.underlying9
 a9:=Tryz.isAgg9
 z9:=Tryz.sizeOf9
 v9:=Tryz.zeroValue9
 t28:=Tryz.underlying22
 a28:=Tryz.isAgg22
 z28:=Tryz.sizeOf22
 v28:=Tryz.zeroValue22
 t46:=Tryz.underlying260
 a46:=Tryz.isAgg260
 z46:=Tryz.sizeOf260
 v46:=Tryz.zeroValue260
 t51:=Tryz.underlying424
 a51:=Tryz.isAgg424
 z51:=Tryz.sizeOf424
 v51:=Tryz.zeroValue424
 t53:=Tryz.underlying68
 a53:=Tryz.isAgg68
 z53:=Tryz.sizeOf68
 v53:=Tryz.zeroValue68
 t131:=Tryz.underlying178
 a131:=Tryz.isAgg178
 z131:=Tryz.sizeOf178
 v131:=Tryz.zeroValue178
 t182:=Tryz.underlying417
 a182:=Tryz.isAgg417
 z182:=Tryz.sizeOf417
 v182:=Tryz.zeroValue417
 t183:=Tryz.underlying418
 a183:=Tryz.isAgg418
 z183:=Tryz.sizeOf418
 v183:=Tryz.zeroValue418
 t218:=Tryz.underlying448
 a218:=Tryz.isAgg448
 z218:=Tryz.sizeOf448
 v218:=Tryz.zeroValue448
 t222:=Tryz.underlying452
 a222:=Tryz.isAgg452
 z222:=Tryz.sizeOf452
 v222:=Tryz.zeroValue452
 t228:=Tryz.underlying459
 a228:=Tryz.isAgg459
 z228:=Tryz.sizeOf459
 v228:=Tryz.zeroValue459
 t229:=Tryz.underlying460
 a229:=Tryz.isAgg460
 z229:=Tryz.sizeOf460
 v229:=Tryz.zeroValue460 }
end Go.Proofs
namespace Go.Proofs.YtiobpjoadkfhdaaGreatDoor
open Go Go.Am
theorem rG{w:World}{A:Nat→Prop}{μ:Mu}:∀{l:List Int} {vs:List Value},RVL w A (l.map AV.int) μ vs→vs=l.map (Value.int .i64)∧∀x∈l,RV w A (.int x) μ (Value.int .i64 x)
 | [],vs,h=>⟨h,by simp⟩
 | x::l,_,⟨u,vs,rfl,h1,h2⟩=>by
  have h1':=h1;obtain⟨rfl,_⟩:=h1;obtain⟨e1,e2⟩:=rG h2;refine⟨by rw[e1];rfl,λy hy=>?_⟩
  rcases P'.mp hy with rfl|hy
  ·exact h1'
  ·exact e2 y hy
theorem rF{w:World}{A:Nat→Prop}{μ:Mu}:∀{l:List Int},(∀x∈l,RV w A (.int x) μ (Value.int .i64 x))→RVL w A (l.map AV.int) μ (l.map (Value.int .i64))
 | [],_=>rfl
 | x::l,h=>⟨_,_,rfl,h x (by simp),rF λy hy=>h y (by simp[hy])⟩
def eK(l:List Int):List Int:=l.mergeSort λx y=>decide (x≤y)
open Go.Shelf Go.RowKit Go.Lib Go.Sort Go.Proofs in
theorem vA{P:Program}{ρ:Ren}(L:Lays.n189 P ρ)(l:List Int)(hl:l.length≤1000000):bc P (ρ.f 189) [.vec 0] [.vec 1 (l.map AV.int)] (.tup []) [some (.vec 1 ((eK l).map AV.int))]:=by
 intro w A μ cargs hH hmu hargs;obtain⟨c0,_,rfl,h0,rfl⟩:=hargs;obtain⟨hd,hm,rfl⟩:=h0;obtain⟨hd',hm',hb,hA⟩:=hH.blk 0 _ rfl;rw[hm]at hm';cases hm';obtain⟨hk,hb⟩:=hb
 have none_:∀p cap,hd.val=.slice p 0 cap→l=[]→Calls P (ρ.f 189) [hd.val].toArray w λe w'=>∃v_1 A' μ',e=.returned v_1∧RV w' A' (.tup []) μ' v_1∧jM P w' A' μ' (bo [some (.vec 1 ((eK l).map AV.int))])∧bp μ μ'∧Ext (cg μ (bo ([Blk.vec 1 (l.map AV.int)].map some))) w w' ∧
   (∀b,A b→A' b)∧(∀b,A' b→A b∨cg μ (bo ([Blk.vec 1 (l.map AV.int)].map some)) b∨w.heap.size≤b) ∧
   (∀b,cg μ' (bo [some (.vec 1 ((eK l).map AV.int))]) b→cg μ (bo ([Blk.vec 1 (l.map AV.int)].map some)) b∨w.heap.size≤b):=by
  intro p cap e0 e1;subst e1;rw[e0,show eK []=[] by simp[eK]];refine(Any.slices_Sort_int_none L p cap w).mono ?_;rintro e w' ⟨rfl,rfl⟩;exact⟨_,A,μ,rfl,⟨[],rfl,rfl⟩,hH,bp.refl _,⟨rfl,rfl,rfl,V' _,λ_ _ _=>rfl⟩,λb h=>h,λb h=>.inl h,λb h=>.inl h⟩
 rcases hb with⟨he,ha⟩|⟨he,hlen,hle,hcap,C,ty,vs,hheap,hrvl,hsol,hsz,hC,htake⟩
 ·obtain⟨a,ha⟩:=bt'.mp ha;exact none_ a 0 (by unfold Hd.val;rw[ha]) (by simpa using he)
 obtain⟨rfl,hel⟩:=rG hrvl;have hval:hd.val=.slice (some ⟨hd.blk,0,none⟩) hd.len hd.cap:=by unfold Hd.val;rw[he]
 have hlen':hd.len=l.length:=by rw[hlen];simp
 obtain⟨nA,hblk⟩:=hA he;rw[hlen',Nat.mul_one]at htake;have htake:C.toList.take l.length=l.map (Value.int .i64):=by rw[htake,List.flatMap_map,List.map_eq_flatMap];rfl
 have hH2:=holds_of_blockI hheap htake;rw[hval,hlen'];refine(Any.slices_Sort_int L hd.blk 0 hd.cap l w hH2 hblk (by omega)).mono ?_;rintro e w' ⟨rfl,n,os,rfl⟩;have hp1:=heap_sortedI (n:=n) (os:=os) (eK l).toArray hheap;obtain⟨_,_,_,hp3,hp2'⟩:=grownBy_sortedI (w:=w) (g:=hd.blk) (n:=n) (os:=os) (eK l).toArray;have hp2:∀k,k<w.heap.size→k≠hd.blk→(grow (putRow (Value.int .i64) (Sort.ahead w n) hd.blk 0 (eK l).toArray) os).heap[k]?=w.heap[k]?:=λk h1 h2=>hp2' k h1 λe=>h2 (ao' e);have hll:(eK l).length=l.length:=(cv' _ _).length_eq;have same:cJ A w (grow (putRow (Value.int .i64) (Sort.ahead w n) hd.blk 0 (eK l).toArray) os):=λb hb=>hp2 b (hH.lt b hb) (λe=>nA (e ▸ hb));have own:cg μ (bo ([Blk.vec 1 (l.map AV.int)].map some)) hd.blk:=⟨0,_,hd,rfl,hm,he,rfl⟩
 refine⟨_,A,μ,rfl,⟨[],rfl,rfl⟩,⟨λb x hx=>?_,λb b' x x' hd1 hd2 hx hx' _ _ _ _ _=>?_,hH.lt.mono same (λ_ h=>h) λb hb=>bj' (hH.lt b hb) hp3⟩,bp.refl _,
  ⟨rfl,rfl,rfl,hp3,λb h1 h2=>hp2 b h1 λe=>h2 (e ▸ own)⟩,λ_ h=>h,λ_ h=>.inl h,?_⟩
 ·have hx0:b=0:=by
   cases b with
   | zero=>rfl
   | succ b=>simp[bo]at hx
  subst hx0;have hx:some (Blk.vec 1 ((eK l).map AV.int))=some x:=hx;cases hx
  refine⟨hd,hm,⟨hk,.inr ⟨he,?_,hle,hcap,_,ty,(eK l).map (Value.int .i64),hp1,?_,?_,?_,?_,?_⟩⟩,λ_=>⟨nA,bj' hblk hp3⟩⟩
  ·rw[hlen',f',hll]
  ·exact RVL.mono same (λ_ h=>h) _ (bp.refl _) (rF λx hx=>hel x ((cv' _ _).mem_iff.mp hx))
  ·intro x hx;obtain⟨y,_,rfl⟩:=R'.mp hx;rfl
  ·intro u hu;obtain⟨p,_,rfl⟩:=R'.mp hu;rfl
  ·simpa[putCells]using hC
  ·have:=take_putCellsI C (eK l) (by rw[hll];have:hd.cap * 1≤C.size:=hC;omega);rw[hlen',Nat.mul_one,←hll,this,List.flatMap_map,List.map_eq_flatMap];rfl
 ·have z:∀{b x},bo [some (Blk.vec 1 ((eK l).map AV.int))] b=some x→b=0:=λ{b x} h=>by
   cases b with
   | zero=>rfl
   | succ b=>simp[bo]at h
  rw[z hx,z hx']
 ·rintro b ⟨b',x,hd1,hx,hm1,he1,rfl⟩;have hx0:b'=0:=by
   cases b' with
   | zero=>rfl
   | succ b=>simp[bo]at hx
  subst hx0;rw[hm]at hm1;cases hm1;exact .inl own
theorem rA(l:List Int):(eK l).Perm l:=cv' _ _
theorem Hc(l:List Int):(eK l).Pairwise λa b=>a≤b:=by
 have h1:(eK l).Pairwise λa b=>decide (a≤b)=true:=List.pairwise_mergeSort (λa b c h1 h2=>by simp at *;omega) (λa b=>by simp;omega) l;exact h1.imp λh=>H' h
theorem ze(l:List Int)(h:l.length≤1000000):bc Tryz.prog 318 [.vec 0] [.vec 1 (l.map AV.int)] (.tup []) [some (.vec 1 ((eK l).map AV.int))]:=vA Tryz.sortI l h
def MQ(l:List Int)(h:l.length≤1000000):HC Tryz.prog:=⟨318,[.k],[.vec 0],[.vec 1 (l.map AV.int)],.tup [],[some (.vec 1 ((eK l).map AV.int))],ze l h,iO (by kernel_rfl),
 qT.of (by simp[hcB,bJ,AV.belB,allB,cF,bW,ae (v:=AV.int) (λ_=>rfl)])⟩
structure Itm where
  ver:Int
  grp:Int
  mode:Int
  srcs:List Int
  deriving DecidableEq
structure Wnt where
  grp:Int
  mode:Int
  srcs:List Int
  deriving DecidableEq
structure Per where
  router:Int
  epoch:Int
  acked:Int
  deriving DecidableEq
structure Spk where
  router:Int
  epoch:Int
  last:Int
  items:List Itm
  peers:List Per
  deriving DecidableEq
structure Hrd where
  router:Int
  epoch:Int
  ver:Int
  items:List Itm
  deriving DecidableEq
structure Lsn where
  router:Int
  epoch:Int
  heard:List Hrd
  deriving DecidableEq
structure Sig where
  kind:Int
  src:Int
  dst:Int
  epoch:Int
  ver:Int
  prev:Int
  pep:Int
  grp:Int
  mode:Int
  srcs:List Int
  deriving DecidableEq
def Itm.v(x:Itm):AV:=.agg [.int x.ver,.int x.grp,.int x.mode,OE x.srcs]
def itms(l:List Itm):AV:=.sl 4 (l.map Itm.v) false
def Wnt.v(x:Wnt):AV:=.agg [.int x.grp,.int x.mode,OE x.srcs]
def Per.v(x:Per):AV:=.agg [.int x.router,.int x.epoch,.int x.acked]
def RH(l:List Per):AV:=.sl 3 (l.map Per.v) false
def Spk.v(x:Spk):AV:=.agg [.int x.router,.int x.epoch,.int x.last,itms x.items,RH x.peers]
def Hrd.v(x:Hrd):AV:=.agg [.int x.router,.int x.epoch,.int x.ver,itms x.items]
def hrds(l:List Hrd):AV:=.sl 4 (l.map Hrd.v) false
def Lsn.v(x:Lsn):AV:=.agg [.int x.router,.int x.epoch,hrds x.heard]
def Sig.v(x:Sig):AV:=.agg [.int x.kind,.int x.src,.int x.dst,.int x.epoch,.int x.ver,.int x.prev,.int x.pep,.int x.grp,.int x.mode,OE x.srcs]
def E1(l:List Sig):AV:=.sl 10 (l.map Sig.v) false
def mo(last:Int)(x:Itm):Prop:=(1≤x.ver∧x.ver≤last)∧(1≤x.grp∧x.grp≤99)∧am x.mode x.srcs=0
instance (last:Int) (x:Itm):Decidable (mo last x):=by unfold mo;infer_instance
def aK(last:Int)(l:List Itm):Prop:=(∀x∈l,mo last x)∧(l.map Itm.grp).Nodup∧l.Pairwise λx y=>x.ver<y.ver
instance (last:Int) (l:List Itm):Decidable (aK last l):=by unfold aK;infer_instance
def lY(r last:Int)(p:Per):Prop:=(1≤p.router∧p.router≤99)∧p.router≠r∧(0≤p.epoch∧p.epoch≤1000000)∧(0≤p.acked∧p.acked≤last)
instance (r last:Int) (p:Per):Decidable (lY r last p):=by unfold lY;infer_instance
def aW(s:Spk):Prop:=(1≤s.router∧s.router≤99)∧(1≤s.epoch∧s.epoch≤1000000)∧(0≤s.last∧s.last≤1000000)∧aK s.last s.items∧s.peers.length≤12 ∧
 (∀p∈s.peers,lY s.router s.last p)∧s.peers.Pairwise λx y=>x.router<y.router
instance (s:Spk):Decidable (aW s):=by unfold aW;infer_instance
def pT(r:Int)(h:Hrd):Prop:=(1≤h.router∧h.router≤99)∧h.router≠r∧(1≤h.epoch∧h.epoch≤1000000)∧(0≤h.ver∧h.ver≤1000000)∧aK h.ver h.items
instance (r:Int) (h:Hrd):Decidable (pT r h):=by unfold pT;infer_instance
def bY(l:Lsn):Prop:=(1≤l.router∧l.router≤99)∧(1≤l.epoch∧l.epoch≤1000000)∧l.heard.length≤12∧(∀h∈l.heard,pT l.router h)∧l.heard.Pairwise λx y=>x.router<y.router
instance (l:Lsn):Decidable (bY l):=by unfold bY;infer_instance
def ja(p:Prop)[Decidable p]:Int:=if p then 0 else 1
def bA(x:Sig):Prop:=
 if x.kind=1 then(1≤x.epoch∧x.epoch≤1000000)∧(0≤x.ver∧x.ver≤1000000)∧x.prev=0∧x.pep=0∧x.grp=0
 else if x.kind=2 then(1≤x.epoch∧x.epoch≤1000000)∧(1≤x.ver∧x.ver≤1000000)∧(0≤x.prev∧x.prev≤x.ver-1)∧x.pep=0∧(1≤x.grp∧x.grp≤99)
 else(0≤x.epoch∧x.epoch≤1000000)∧(0≤x.ver∧x.ver≤1000000)∧x.prev=0∧(1≤x.pep∧x.pep≤1000000)∧x.grp=0
instance (x:Sig):Decidable (bA x):=by unfold bA;infer_instance
def fg(x:Sig):Prop:=(1≤x.src∧x.src≤99)∧(1≤x.dst∧x.dst≤99)∧x.src≠x.dst
instance (x:Sig):Decidable (fg x):=by unfold fg;infer_instance
def aG(x:Sig):Int:=
 if ¬(x.kind=1∨x.kind=2∨x.kind=3)then 1 else if ¬(fg x∧bA x)then 2
 else if x.kind=2 then am x.mode x.srcs else if x.mode≠0∨x.srcs≠[]then 1 else 0
def cS(w:Wnt):Prop:=w.mode=1∧w.srcs=[]
instance (w:Wnt):Decidable (cS w):=by unfold cS;infer_instance
def fW(l:List Wnt):Int:=orI (l.map λx=>am x.mode x.srcs)
def aI(chg:Bool)(l:List Wnt):Int:=
 if 32<l.length then 3 else if ¬(∀w∈l,1≤w.grp∧w.grp≤99)then 2 else if fW l≠0 then fW l
 else if chg=false∧∃w∈l,cS w then 1 else if ¬(l.Pairwise λx y=>x.grp<y.grp)then 25 else 0
def without(g:Int)(l:List Itm):List Itm:=l.filter λx=>decide (x.grp≠g)
def gC(l:List Itm)(x:Itm):List Itm:=without x.grp l++[x]
def bO(l:List Itm)(g:Int):Int×List Int:=match l.find? λx=>decide (x.grp=g)with
 | some x=>(x.mode,x.srcs)
 | none=>(1,[])
def bv(s:Int×List Itm)(w:Wnt):Int×List Itm:=
 if bO s.2 w.grp=(w.mode,w.srcs)then s else(s.1+1,gC s.2 ⟨s.1+1,w.grp,w.mode,w.srcs⟩)
def eG:Spk:=⟨0,0,0,[],[]⟩
def w6:Lsn:=⟨0,0,[]⟩
def qY:Sig:=⟨0,0,0,0,0,0,0,0,0,[]⟩
abbrev SR:=Spk×Int
def new(r k:Int)(p:List Int):SR:=
 let s:Spk:=⟨r,k,0,[],p.map λx=>⟨x,0,0⟩⟩
 if aW s then(s,0)else(eG,1)
def change(s:Spk)(c:List Wnt):SR:=
 if ¬aW s then(eG,1)else if aI true c≠0 then(eG,aI true c)
 else if 1000000<(c.foldl bv (s.last,s.items)).1 then(eG,3)
 else(⟨s.router,s.epoch,(c.foldl bv (s.last,s.items)).1,(c.foldl bv (s.last,s.items)).2,s.peers⟩,0)
def eH(i:Nat)(w:Wnt):Itm:=⟨i+1,w.grp,w.mode,w.srcs⟩
def restart(s:Spk)(w:List Wnt):SR:=
 if ¬aW s then(eG,1)else if aI false w≠0 then(eG,aI false w)else if s.epoch=1000000 then(eG,3)
 else(⟨s.router,s.epoch+1,w.length,w.mapIdx eH,s.peers.map λp=>⟨p.router,0,0⟩⟩,0)
def iJ(l:List Per)(r:Int):Nat:=l.findIdx λp=>!decide (p.router<r)
def uk(l:List Per)(r:Int):Prop:=iJ l r<l.length∧(l.getD (iJ l r) ⟨0,0,0⟩).router=r
instance (l:List Per) (r:Int):Decidable (uk l r):=by unfold uk;infer_instance
def bK(l:List Hrd)(r:Int):Nat:=l.findIdx λp=>!decide (p.router<r)
def OJ:Hrd:=⟨0,0,0,[]⟩
def gD(l:List Hrd)(r:Int):Prop:=bK l r<l.length∧(l.getD (bK l r) OJ).router=r
instance (l:List Hrd) (r:Int):Decidable (gD l r):=by unfold gD;infer_instance
def lI(s:Spk)(to prev:Int)(x:Itm):Sig:=⟨2,s.router,to,s.epoch,x.ver,prev,0,x.grp,x.mode,x.srcs⟩
def aM(s:Spk)(to acked:Int):Int→List Itm→List Sig
 | _,[]=>[]
 | prev,x::r=>(if acked<x.ver then [lI s to prev x]else [])++aM s to acked x.ver r
def cw(s:Spk)(to:Int):Sig:=⟨1,s.router,to,s.epoch,s.last,0,0,0,0,[]⟩
def send(s:Spk)(to:Int):List Sig×Int:=
 if ¬aW s then([],1)else if ¬uk s.peers to then([],4)
 else(cw s to::aM s to (s.peers.getD (iJ s.peers to) ⟨0,0,0⟩).acked 0 s.items,0)
def lA(s:Spk)(x:Sig):Int:=if x.epoch=s.epoch∧x.ver≤s.last then x.ver else 0
def dQ(s:Spk)(x:Sig)(p:Per):Per:=
 if p.epoch<x.pep then⟨p.router,x.pep,lA s x⟩else if x.pep=p.epoch then⟨p.router,p.epoch,il p.acked (lA s x)⟩else p
def ack(s:Spk)(x:Sig):SR:=
 if ¬aW s then(eG,1)else if aG x≠0 then(eG,aG x)else if x.kind≠3∨x.dst≠s.router then(eG,1)
 else if ¬uk s.peers x.src then(eG,4)
 else(⟨s.router,s.epoch,s.last,s.items,s.peers.set (iJ s.peers x.src) (dQ s x (s.peers.getD (iJ s.peers x.src) ⟨0,0,0⟩))⟩,0)
def kL(x:Sig):Itm:=⟨x.ver,x.grp,x.mode,x.srcs⟩
def dF(h:Hrd)(x:Sig):Hrd:=
 if x.kind=2∧x.epoch=h.epoch∧x.prev≤h.ver∧h.ver<x.ver then⟨h.router,h.epoch,x.ver,gC h.items (kL x)⟩else h
def eD(h:Hrd)(x:Sig):Hrd:=if h.epoch<x.epoch then⟨x.src,x.epoch,0,[]⟩else h
def base(l:List Hrd)(r:Int):List Hrd:=if gD l r then l else dR l (bK l r) ⟨r,0,0,[]⟩
abbrev HR:=(Lsn×Sig)×Int
def xj(l:List Hrd)(x:Sig):Hrd:=dF (eD ((base l x.src).getD (bK l x.src) OJ) x) x
def hear(l:Lsn)(x:Sig):HR:=
 if ¬bY l then((w6,qY),1)else if aG x≠0 then((w6,qY),aG x)else if x.kind=3∨x.dst≠l.router then((w6,qY),1)
 else if ¬gD l.heard x.src∧l.heard.length=12 then((w6,qY),3)
 else((⟨l.router,l.epoch,(base l.heard x.src).set (bK l.heard x.src) (xj l.heard x)⟩,
  ⟨3,l.router,x.src,(xj l.heard x).epoch,(xj l.heard x).ver,0,l.epoch,0,0,[]⟩),0)
def atH(l:List Hrd)(r:Int):Hrd:=l.getD (bK l r) OJ
def agree(s:Spk)(l:Lsn):Prop:=
 aW s∧bY l∧gD l.heard s.router∧(atH l.heard s.router).epoch=s.epoch∧(atH l.heard s.router).ver=s.last∧(atH l.heard s.router).items=s.items
instance (s:Spk) (l:Lsn):Decidable (agree s l):=by unfold agree;infer_instance
theorem gM{g:Int}{l:List Itm}{x:Itm}:x∈without g l↔x∈l∧x.grp≠g:=by simp[without]
theorem eL{l:List Itm}{x y:Itm}:y∈gC l x↔(y∈l∧y.grp≠x.grp)∨y=x:=by simp[gC,gM]
theorem aK.mono{n m:Int}{l:List Itm}(h:aK n l)(hm:n≤m):aK m l:=
 ⟨λx hx=>by obtain⟨⟨a,b⟩,c⟩:=h.1 x hx;exact⟨⟨a,by omega⟩,c⟩,h.2⟩
theorem aK.without{n g:Int}{l:List Itm}(h:aK n l):aK n (without g l):=
 ⟨λx hx=>h.1 x (gM.mp hx).1,h.2.1.sublist (List.Sublist.map _ List.filter_sublist),h.2.2.sublist List.filter_sublist⟩
theorem aK.put{n:Int}{l:List Itm}{x:Itm}(h:aK n l)(h1:n<x.ver)(h2:1≤x.ver)(h3:1≤x.grp∧x.grp≤99)(h4:am x.mode x.srcs=0):aK x.ver (gC l x):=by
 have hw:=h.without (g:=x.grp)
 refine⟨λy hy=>?_,?_,?_⟩
 ·rcases L'.mp hy with hy|hy
  ·obtain⟨⟨a,b⟩,c⟩:=hw.1 y hy;exact⟨⟨a,by omega⟩,c⟩
  ·rw[O']at hy;subst hy;exact⟨⟨h2,ai' _⟩,h3,h4⟩
 ·rw[gC,List.map_append];refine List.nodup_append.mpr ⟨hw.2.1,by simp,?_⟩;intro a ha b hb e;obtain⟨y,hy,rfl⟩:=R'.mp ha;simp at hb;subst hb;exact(gM.mp hy).2 e
 ·refine ag'.mpr ⟨hw.2.2,aH' _ _,λa ha b hb=>?_⟩;rw[O']at hb;subst hb;have:=(hw.1 a ha).1.2;omega
theorem Nodup.grp{l:List Itm}(h:(l.map Itm.grp).Nodup){x y:Itm}(hx:x∈l)(hy:y∈l)(e:x.grp=y.grp):x=y:=by
 induction l with
 | nil=>simp at hx
 | cons z l ih =>
  simp only[au',bq']at h
  rcases P'.mp hx with h1|h1
  ·rcases P'.mp hy with h2|h2
   ·rw[h1,h2]
   ·exact absurd (R'.mpr ⟨y,h2,by rw[←e,h1]⟩) h.1
  ·rcases P'.mp hy with h2|h2
   ·exact absurd (R'.mpr ⟨x,h1,by rw[e,h2]⟩) h.1
   ·exact ih h.2 h1 h2
theorem PD:∀{a b:List Itm},a.Pairwise (λx y=>x.ver<y.ver)→b.Pairwise (λx y=>x.ver<y.ver)→(∀x,x∈a↔x∈b)→a=b:=by
 intro a
 induction a with
 | nil =>
  intro b _ _ h;cases b with
  | nil=>rfl
  | cons y b=>exact absurd ((h y).mpr (by simp)) (by simp)
 | cons x a ih =>
  intro b ha hb h;cases b with
  | nil=>exact absurd ((h x).mp (by simp)) (by simp)
  | cons y b =>
   rw[an']at ha hb;have hxy:x=y:=by
    refine af' λhne=>?_;have h1:x∈b:=(P'.mp ((h x).mp (by simp))).resolve_left hne;have h2:y∈a:=(P'.mp ((h y).mpr (by simp))).resolve_left (Ne.symm hne);have:=ha.1 y h2;have:=hb.1 x h1;omega
   subst hxy;rw[ih ha.2 hb.2 λz=>?_]
   constructor
   ·intro hz;refine(P'.mp ((h z).mp (by simp[hz]))).resolve_left λe=>?_;subst e;have:=ha.1 z hz;omega
   ·intro hz;refine(P'.mp ((h z).mpr (by simp[hz]))).resolve_left λe=>?_;subst e;have:=hb.1 z hz;omega
structure Adv (n:Int) (l:List Itm) (m:Int) (k:List Itm):Prop where
  le:n≤m
  old:∀z∈k,z∈l∨n<z.ver
  grp:∀z∈l,∃y∈k,y.grp=z.grp
theorem Adv.refl(n:Int)(l:List Itm):Adv n l n l:=⟨ai' _,λ_ h=>.inl h,λz h=>⟨z,h,rfl⟩⟩
theorem Adv.trans{n m p:Int}{a b c:List Itm}(h:Adv n a m b)(k:Adv m b p c):Adv n a p c:=by
 refine⟨Int.le_trans h.le k.le,λz hz=>?_,λz hz=>?_⟩
 ·rcases k.old z hz with g|g
  ·exact h.old z g
  ·exact .inr (by have:=h.le;omega)
 ·obtain⟨y,hy,e⟩:=h.grp z hz;obtain⟨x,hx,e'⟩:=k.grp y hy;exact⟨x,hx,e'.trans e⟩
theorem Adv.put{n:Int}{l:List Itm}{x:Itm}(h:n<x.ver):Adv n l x.ver (gC l x):=by
 refine⟨by omega,λz hz=>?_,λz hz=>?_⟩
 ·rcases eL.mp hz with g|rfl
  ·exact .inl g.1
  ·exact .inr h
 ·by_cases e:z.grp=x.grp
  ·exact⟨x,eL.mpr (.inr rfl),e.symm⟩
  ·exact⟨z,eL.mpr (.inl ⟨hz,e⟩),rfl⟩
def Lc(c:List Wnt):Prop:=∀w∈c,(1≤w.grp∧w.grp≤99)∧am w.mode w.srcs=0
theorem DQ{n:Int}{l:List Itm}{w:Wnt}(h:aK n l)(h0:0≤n)(hw:(1≤w.grp∧w.grp≤99)∧am w.mode w.srcs=0) :
  aK (bv (n,l) w).1 (bv (n,l) w).2∧Adv n l (bv (n,l) w).1 (bv (n,l) w).2∧(bv (n,l) w).1≤n+1∧0≤(bv (n,l) w).1:=by
 unfold bv
 split
 ·exact⟨h,Adv.refl _ _,by simp only;omega,h0⟩
 ·exact⟨h.put (x:=⟨n+1,w.grp,w.mode,w.srcs⟩) (by simp only;omega) (by simp only;omega) hw.1 hw.2,Adv.put (x:=⟨n+1,w.grp,w.mode,w.srcs⟩) (by simp only;omega),ai' _,by simp only;omega⟩
theorem lm:∀{c:List Wnt} {n:Int} {l:List Itm},aK n l→0≤n→Lc c →
  aK (c.foldl bv (n,l)).1 (c.foldl bv (n,l)).2∧Adv n l (c.foldl bv (n,l)).1 (c.foldl bv (n,l)).2∧(c.foldl bv (n,l)).1≤n+c.length∧0≤(c.foldl bv (n,l)).1
 | [],n,l,h,h0,_=>⟨h,Adv.refl _ _,by simp,h0⟩
 | w::c,n,l,h,h0,hc=>by
  obtain⟨a1,a2,a3,a4⟩:=DQ h h0 (hc w (by simp));obtain⟨b1,b2,b3,b4⟩:=lm (c:=c) a1 a4 (λv hv=>hc v (by simp[hv]));refine⟨b1,a2.trans b2,?_,b4⟩;simp only[ax',Z'];have:(c.foldl bv (bv (n,l) w)).1≤(bv (n,l) w).1+c.length:=b3;omega
structure tb (n:Int) (l:List Itm) (x:Sig):Prop where
  le:x.ver≤n
  has:∃z∈l,z.grp=x.grp
  grp:∀z∈l,z.grp=x.grp→x.ver≤z.ver
  gap:∀z∈l,z.ver≤x.ver→z.ver≤x.prev∨z=kL x
theorem tb.adv{n m:Int}{l k:List Itm}{x:Sig}(h:tb n l x)(a:Adv n l m k):tb m k x:=by
 refine⟨Int.le_trans h.le a.le,?_,λz hz e=>?_,λz hz e=>?_⟩
 ·obtain⟨z,hz,e⟩:=h.has;obtain⟨y,hy,e'⟩:=a.grp z hz;exact⟨y,hy,e'.trans e⟩
 ·rcases a.old z hz with g|g
  ·exact h.grp z g e
  ·have:=h.le;omega
 ·rcases a.old z hz with g|g
  ·exact h.gap z g e
  ·have:=h.le;omega
structure iC (n:Int) (l:List Itm) (h:Hrd):Prop where
  le:h.ver≤n
  grp:∀y∈h.items,∃z∈l,z.grp=y.grp
  has:∀z∈l,z.ver≤h.ver→z∈h.items
theorem iC.adv{n m:Int}{l k:List Itm}{h:Hrd}(o:iC n l h)(a:Adv n l m k):iC m k h:=by
 refine⟨Int.le_trans o.le a.le,λy hy=>?_,λz hz e=>?_⟩
 ·obtain⟨z,hz,e⟩:=o.grp y hy;obtain⟨x,hx,e'⟩:=a.grp z hz;exact⟨x,hx,e'.trans e⟩
 ·rcases a.old z hz with g|g
  ·exact o.has z g e
  ·have:=o.le;omega
theorem iC.nil{n:Int}{l:List Itm}(hl:aK n l)(h0:0≤n)(r e:Int):iC n l ⟨r,e,0,[]⟩:=
 ⟨h0,λy hy=>by simp at hy,λz hz e=>by have:=(hl.1 z hz).1.1;simp only at e;omega⟩
theorem iC.hear{n:Int}{l:List Itm}{h:Hrd}{x:Sig}(o:iC n l h)(u:tb n l x)(h1:x.prev≤h.ver)(h2:h.ver<x.ver) :
  iC n l ⟨h.router,h.epoch,x.ver,gC h.items (kL x)⟩:=by
 refine⟨u.le,λy hy=>?_,λz hz e=>?_⟩
 ·rcases eL.mp hy with g|rfl
  ·exact o.grp y g.1
  ·exact u.has
 ·rcases u.gap z hz e with g|rfl
  ·refine eL.mpr (.inl ⟨o.has z hz (by omega),λe'=>?_⟩);have:=u.grp z hz e';omega
  ·exact eL.mpr (.inr rfl)
theorem iC.eq{n:Int}{l:List Itm}{h:Hrd}(o:iC n l h)(hl:aK n l)(hh:aK h.ver h.items)(e:h.ver=n):h.items=l:=by
 refine PD hh.2.2 hl.2.2 λy=>⟨λhy=>?_,λhy=>o.has y hy ?_⟩
 ·obtain⟨z,hz,e'⟩:=o.grp y hy;have:=o.has z hz (by have:=(hl.1 z hz).1.2;omega);rw[←Nodup.grp hh.2.1 this hy e'];exact hz
 ·have:=(hl.1 y hy).1.2;omega
theorem Pairwise.mid{l r:List Itm}{x:Itm}(h:(l++x::r).Pairwise λa b=>a.ver<b.ver):(∀y∈l,y.ver<x.ver)∧∀y∈r,x.ver<y.ver:=by
 rw[ag',an']at h;exact⟨λy hy=>h.2.2 y hy x (by simp),λy hy=>h.2.1.1 y hy⟩
theorem Cd{s:Spk}{to acked:Int}(hs:aK s.last s.items)(h1:s.last≤1000000):∀(r d:List Itm) (prev:Int),s.items=d++r→0≤prev→(∀y∈d,y.ver≤prev)→(∀y∈r,prev<y.ver) →
  ∀x∈aM s to acked prev r,x.kind=2∧x.src=s.router∧x.dst=to∧x.epoch=s.epoch∧x.pep=0∧(0≤x.prev∧x.prev≤x.ver-1)∧(kL x)∈s.items∧tb s.last s.items x
 | [],d,prev,_,_,_,_,x,hx=>by simp[aM]at hx
 | y::r,d,prev,e,h0,hd,hr,x,hx=>by
  have hy:y∈s.items:=by rw[e];simp
  obtain⟨m1,m2⟩:=Pairwise.mid (e ▸ hs.2.2)
  rcases L'.mp hx with hx|hx
  ·split at hx
   ·rw[O']at hx;subst hx;have hp:=hr y (by simp)
    refine⟨rfl,rfl,rfl,rfl,rfl,⟨h0,by simp only[lI];omega⟩,hy,(hs.1 y hy).1.2,⟨y,hy,rfl⟩,λz hz e'=>?_,λz hz hv=>?_⟩
    ·rw[Nodup.grp hs.2.1 hz hy e'];exact ai' _
    ·rw[e]at hz
     rcases L'.mp hz with hz|hz
     ·exact .inl (hd z hz)
     ·rcases P'.mp hz with rfl|hz
      ·exact .inr rfl
      ·have:=m2 z hz;simp only[lI]at hv;omega
   ·simp at hx
  ·refine Cd hs h1 r (d++[y]) y.ver (by rw[e];simp) (by have:=(hs.1 y hy).1.1;omega) (λz hz=>?_) m2 x hx
   rcases L'.mp hz with hz|hz
   ·have:=m1 z hz;omega
   ·rw[O']at hz;subst hz;exact ai' _
theorem ED{l:List Int}:orI l=0↔∀x∈l,x=0:=by
 unfold orI;cases h:l.find? (· != 0)with
 | none =>
  rw[aL']at h;exact⟨λ_ x hx=>by simpa using h x hx,λ_=>rfl⟩
 | some a =>
  have h1:=ci' h;have h2:=br' h;exact⟨λe=>by simp at e;subst e;simp at h1,λe=>by rw[e a h2]at h1;simp at h1⟩
theorem bx{chg:Bool}{l:List Wnt}:aI chg l=0↔l.length≤32∧(∀w∈l,1≤w.grp∧w.grp≤99)∧(∀w∈l,am w.mode w.srcs=0)∧(chg=false→∀w∈l,¬cS w)∧l.Pairwise λx y=>x.grp<y.grp:=by
 have hz:fW l=0↔∀w∈l,am w.mode w.srcs=0:=by
  rw[fW,ED]
  constructor
  ·intro h w hw;exact h _ (R'.mpr ⟨w,hw,rfl⟩)
  ·intro h x hx;obtain⟨w,hw,rfl⟩:=R'.mp hx;exact h w hw
 unfold aI
 by_cases h1:32<l.length
 ·rw[if_pos h1];constructor
  ·intro h;omega
  ·intro h;omega
 rw[u' h1];by_cases h2:∀w∈l,1≤w.grp∧w.grp≤99
 case neg =>
  rw[if_pos h2];constructor
  ·intro h;omega
  ·intro h;exact absurd h.2.1 h2
 rw[u' (not_not_intro h2)];by_cases h3:fW l=0
 case neg =>
  rw[if_pos h3];exact⟨λh=>absurd h h3,λh=>hz.mpr h.2.2.1⟩
 rw[u' (not_not_intro h3)]
 by_cases h4:chg=false∧∃w∈l,cS w
 ·rw[if_pos h4]
  constructor
  ·intro h;omega
  ·intro h;obtain⟨hc,w,hw,hn⟩:=h4;exact absurd hn (h.2.2.2.1 hc w hw)
 rw[u' h4]
 by_cases h5:l.Pairwise λx y=>x.grp<y.grp
 ·rw[u' (not_not_intro h5)];exact⟨λ_=>⟨by omega,h2,hz.mp h3,λhc w hw hn=>h4 ⟨hc,w,hw,hn⟩,h5⟩,λ_=>rfl⟩
 ·rw[if_pos h5];exact⟨λh=>by omega,λh=>absurd h.2.2.2.2 h5⟩
theorem fw{chg:Bool}{l:List Wnt}(h:aI chg l=0):Lc l:=by
 obtain⟨_,h1,h2,_⟩:=bx.mp h;exact λw hw=>⟨h1 w hw,h2 w hw⟩
theorem PS{s:Spk}{x:Sig}{p:Per}(h:lY s.router s.last p)(h0:0≤s.last)(hx:aG x=0)(hk:x.kind=3):lY s.router s.last (dQ s x p)∧(dQ s x p).router=p.router:=by
 obtain⟨h1,h2,h3,h4⟩:=h;have hn:bA x:=by
  unfold aG at hx
  split at hx
  ·omega
  split at hx
  ·omega
  rename_i h;exact(X'.mp h).2
 unfold bA at hn;rw[u' (by omega),u' (by omega)]at hn;have hv:0≤lA s x∧lA s x≤s.last:=by
  unfold lA
  split
  ·exact⟨hn.2.1.1,by omega⟩
  ·exact⟨by omega,h0⟩
 unfold dQ
 split
 ·exact⟨⟨h1,h2,⟨by simp only;omega,hn.2.2.2.1.2⟩,hv⟩,rfl⟩
 split
 ·refine⟨⟨h1,h2,h3,?_⟩,rfl⟩;simp only[il];split<;>omega
 ·exact⟨⟨h1,h2,h3,h4⟩,rfl⟩
theorem gU{w:List Wnt}(h:Lc w)(ho:w.Pairwise λx y=>x.grp<y.grp):aK w.length (w.mapIdx eH):=by
 refine⟨λx hx=>?_,?_,?_⟩
 ·obtain⟨i,hi,rfl⟩:=List.mem_mapIdx.mp hx;obtain⟨h1,h2⟩:=h _ (ay' hi);exact⟨⟨by simp only[eH];omega,by simp only[eH];omega⟩,h1,h2⟩
 ·have:(w.mapIdx eH).map Itm.grp=w.map Wnt.grp:=by
   refine bd' (by simp) λi h1 h2=>?_;simp[eH]
  rw[this];rw[List.Nodup,at'];exact ho.imp λh=>by omega
 ·rw[ac'];intro i j hi hj hij;simp only[List.getElem_mapIdx,eH];omega
theorem ng:∀(n:Nat) (l:List Int),l.Nodup→(∀x∈l,1≤x∧x≤n)→l.length≤n
 | 0,l,_,h=>by
  cases l with
  | nil=>simp
  | cons x l=>have:=h x (by simp);omega
 | n+1,l,hn,h=>by
  have h1:=ng n (l.erase ((n+1:Nat):Int)) (hn.erase _) (λx hx=>by rw[hn.mem_erase_iff]at hx;have:=h x hx.2;omega);rw[List.length_erase]at h1;split at h1<;>omega
theorem gk{n:Int}{l:List Itm}(h:aK n l):l.length≤99:=by
 have:=ng 99 (l.map Itm.grp) h.2.1 (λx hx=>by obtain⟨y,hy,rfl⟩:=R'.mp hx;exact(h.1 y hy).2.1);simpa using this
theorem lN{x:Sig}(hx:aG x=0)(hk:x.kind≠3):(1≤x.epoch∧x.epoch≤1000000)∧(0≤x.ver∧x.ver≤1000000)∧(x.kind=2→1≤x.ver∧(1≤x.grp∧x.grp≤99)∧am x.mode x.srcs=0):=by
 unfold aG at hx
 split at hx
 ·omega
 split at hx
 ·omega
 rename_i h0 h1;have hn:=(X'.mp h1).2;unfold bA at hn
 split at hn
 ·exact⟨hn.1,hn.2.1,λe=>by omega⟩
 split at hn
 ·rename_i h2;rw[if_pos h2]at hx;exact⟨hn.1,⟨by omega,hn.2.1.2⟩,λ_=>⟨hn.2.1.1,hn.2.2.2.2,hx⟩⟩
 ·omega
def yP(L:List Int)(p:Nat)(g:Int)(out:List Wnt):List Wnt:=
 if Mod (aj L (ax L p).2) 2=0∧((ax L p).1.mode=2∨(ax L p).1.srcs≠[])then out++[⟨g,(ax L p).1.mode,(ax L p).1.srcs⟩]else out
def wPos(L:List Int)(p:Nat):Nat:=ab L (ax L p).2
def mM(L:List Int):Nat→Int→List Wnt→Nat→List Wnt×Nat
 | 0,_,out,p=>(out,p)
 | n+1,g,out,p=>mM L n (g+1) (yP L p g out) (wPos L p)
def dj(L:List Int)(p:Nat):List Wnt×Nat:=mM L 6 1 [] p
structure WOk (g:Int) (out:List Wnt):Prop where
  rng:∀w∈out,1≤w.grp∧w.grp<g
  flt:∀w∈out,am w.mode w.srcs=0
  no:∀w∈out,¬cS w
  asc:out.Pairwise λx y=>x.grp<y.grp
  len:out.length+1≤g
theorem WOk.new{L:List Int}{p:Nat}{g:Int}{out:List Wnt}(h:WOk g out)(hg:1≤g):WOk (g+1) (yP L p g out):=by
 unfold yP;have hf:=qj L p
 split
 ·rename_i c
  refine⟨λw hw=>?_,λw hw=>?_,λw hw=>?_,ag'.mpr ⟨h.asc,aH' _ _,λa ha b hb=>?_⟩,?_⟩
  ·rcases L'.mp hw with hw|hw
   ·have:=h.rng w hw;omega
   ·rw[O']at hw;subst hw;exact⟨hg,by simp only;omega⟩
  ·rcases L'.mp hw with hw|hw
   ·exact h.flt w hw
   ·rw[O']at hw;subst hw;exact hf
  ·rcases L'.mp hw with hw|hw
   ·exact h.no w hw
   ·rw[O']at hw;subst hw;rintro⟨e1,e2⟩;simp only at e1 e2
    rcases c.2 with c|c
    ·omega
    ·exact c e2
  ·rw[O']at hb;subst hb;exact(h.rng a ha).2
  ·have:=h.len;simp only[Y',List.length_singleton];omega
 ·exact⟨λw hw=>by have:=h.rng w hw;omega,h.flt,h.no,h.asc,by have:=h.len;omega⟩
theorem rq{L:List Int}:∀(n:Nat) {g:Int} {out:List Wnt} {p:Nat},WOk g out→1≤g→WOk (g+n) (mM L n g out p).1
 | 0,g,out,p,h,_=>by simpa[mM]using h
 | n+1,g,out,p,h,hg=>by
  have:=rq (L:=L) n (p:=wPos L p) (h.new (L:=L) (p:=p) hg) (by omega);rw[show g+((n+1:Nat):Int)=g+1+n by omega];exact this
theorem WOk.err{g:Int}{l:List Wnt}(h:WOk g l)(hg:g≤33):aI false l=0:=
 bx.mpr ⟨by have:=h.len;omega,λw hw=>by have:=h.rng w hw;omega,h.flt,λ_=>h.no,h.asc⟩
theorem rn(L:List Int)(p:Nat):WOk 7 (dj L p).1:=
 rq (g:=1) 6 ⟨λw hw=>by simp at hw,λw hw=>by simp at hw,λw hw=>by simp at hw,List.Pairwise.nil,by simp⟩ (by omega)
def aQ(l:List Wnt)(g:Int):Flt:=match l.find? λw=>decide (w.grp=g)with
 | some w=>⟨w.mode,w.srcs⟩
 | none=>⟨1,[]⟩
def oj(old new:List Wnt)(g:Int):List Wnt:=if aQ new g=aQ old g then []else [⟨g,(aQ new g).mode,(aQ new g).srcs⟩]
def bZ(old new:List Wnt):Nat→List Wnt
 | 0=>[]
 | n+1=>bZ old new n++oj old new (n+1)
def ah(old new:List Wnt):List Wnt×Int:=
 if aI false old≠0 then([],aI false old)else if aI false new≠0 then([],aI false new)
 else if 32<(bZ old new 99).length then([],3)else(bZ old new 99,0)
theorem Kj{l:List Wnt}(h:∀w∈l,am w.mode w.srcs=0)(g:Int):am (aQ l g).mode (aQ l g).srcs=0:=by
 unfold aQ
 split
 ·rename_i w e;exact h w (br' e)
 ·decide
theorem gq{l:List Wnt}{g:Int}(h:∀w∈l,w.grp≠g):aQ l g=⟨1,[]⟩:=by
 unfold aQ;rw[aL'.mpr (λw hw=>by simpa using h w hw)]
structure COk (n:Int) (c:List Wnt):Prop where
  rng:∀w∈c,1≤w.grp∧w.grp≤n
  flt:∀w∈c,am w.mode w.srcs=0
  asc:c.Pairwise λx y=>x.grp<y.grp
theorem ke{old new:List Wnt}(h2:∀w∈new,am w.mode w.srcs=0):∀n:Nat,COk n (bZ old new n)
 | 0=>⟨λw hw=>by simp[bZ]at hw,λw hw=>by simp[bZ]at hw,List.Pairwise.nil⟩
 | n+1=>by
  have h:=ke (old:=old) h2 n;simp only[bZ,oj]
  split
  ·rw[az'];exact⟨λw hw=>by have:=h.rng w hw;omega,h.flt,h.asc⟩
  ·refine⟨λw hw=>?_,λw hw=>?_,ag'.mpr ⟨h.asc,aH' _ _,λa ha b hb=>?_⟩⟩
   ·rcases L'.mp hw with hw|hw
    ·have:=h.rng w hw;omega
    ·rw[O']at hw;subst hw;exact⟨by simp only;omega,by simp only;omega⟩
   ·rcases L'.mp hw with hw|hw
    ·exact h.flt w hw
    ·rw[O']at hw;subst hw;exact Kj h2 _
   ·rw[O']at hb;subst hb;have:=h.rng a ha;simp only;omega
theorem lk(old new:List Wnt):∀n:Nat,(bZ old new n).length≤n
 | 0=>V' _
 | n+1=>by
  have:=lk old new n;simp only[bZ,oj];split<;>simp<;>omega
theorem oh{old new:List Wnt}{m:Nat}(h1:∀w∈old,w.grp≤m)(h2:∀w∈new,w.grp≤m):∀k:Nat,bZ old new (m+k)=bZ old new m
 | 0=>rfl
 | k+1=>by
  have h:=oh h1 h2 k;rw[←bH',bZ,h,oj,gq (λw hw=>by have:=h2 w hw;omega),gq (λw hw=>by have:=h1 w hw;omega),if_pos rfl,az']
theorem AS{old new:List Wnt}(h1:WOk 7 old)(h2:WOk 7 new):(ah old new).2=0∧aI true (ah old new).1=0∧(ah old new).1.length≤6:=by
 have e:bZ old new 99=bZ old new 6:=oh (m:=6) (λw hw=>by have:=h1.rng w hw;omega) (λw hw=>by have:=h2.rng w hw;omega) 93;have hl:=lk old new 6;unfold ah;rw[u' (not_not_intro (h1.err (by omega))),u' (not_not_intro (h2.err (by omega))),e,u' (by omega)];have h:=ke (old:=old) h2.flt 6;exact⟨rfl,bx.mpr ⟨by simp only;omega,λw hw=>by have:=h.rng w hw;omega,h.flt,λe=>(Bool.noConfusion e),h.asc⟩,hl⟩
def yO(L:List Int)(t0:Int×Nat×List Wnt):NF:=⟨[rR 0 0,rV 3 1,rI 4 t0.1],[.box (.agg [.sl 1 (L.map AV.int) false,.int t0.2.1]),vB 3 Wnt.v t0.2.2 (λ_=>rfl)]⟩
@[reducible] def rp:Nat→Type
 | 0=>Int×Nat×List Wnt
 | _=>Unit
def mK(r:Tap×List Wnt):AV:=.sl 3 (r.2.map Wnt.v) false
def mL(r:Tap×List Wnt):List (Option Blk):=[some (.box (Tap.v r.1))]
def ro(L:List Int)(p:Nat)(I0:(Int×Nat×List Wnt)→Prop)(m0:(Int×Nat×List Wnt)→Nat):Ax Tryz.prog rp (Tap×List Wnt):=
 (.cmdL (.nilT 3 3) (.loop 0 (yO L) I0 m0 (1,p,[]) [0,49] λ(t0:Int×Nat×List Wnt) b0 =>
(.br 34 (decide (t0.1≤6)) (.callH [0] (sI L t0.2.1) 50
(.callH [0] (N_h L ((ax L t0.2.1).2) 2) 114
(.br 162 ((Mod (aj L ((ax L t0.2.1).2)) 2)==0) (.br 226 (((ax L t0.2.1).1).mode==2) (.apX 402 Wnt.v t0.2.2 [(⟨t0.1,((ax L t0.2.1).1).mode,((ax L t0.2.1).1).srcs⟩:Wnt)] (t0.2.2.length+1)
(.bk 0 b0 (W (t0.1+1),ab L ((ax L t0.2.1).2),t0.2.2++[(⟨t0.1,((ax L t0.2.1).1).mode,((ax L t0.2.1).1).srcs⟩:Wnt)]) [0,402]))
(.br 322 (decide (0<(((((ax L t0.2.1).1).srcs).map AV.int).length:Int))) (.apX 402 Wnt.v t0.2.2 [(⟨t0.1,((ax L t0.2.1).1).mode,((ax L t0.2.1).1).srcs⟩:Wnt)] (t0.2.2.length+1)
(.bk 0 b0 (W (t0.1+1),ab L ((ax L t0.2.1).2),t0.2.2++[(⟨t0.1,((ax L t0.2.1).1).mode,((ax L t0.2.1).1).srcs⟩:Wnt)]) [0,402]))
(.bk 0 b0 (W (t0.1+1),ab L ((ax L t0.2.1).2),t0.2.2) [0,1])))
(.bk 0 b0 (W (t0.1+1),ab L ((ax L t0.2.1).2),t0.2.2) [0,1]))))
(.fz 1 Wnt.v t0.2.2 (λ_=>rfl) (.retH ((⟨L,t0.2.1⟩:Tap),t0.2.2) ⟨[(2,.k,.sl 3 (t0.2.2.map Wnt.v) false)],[.box (.agg [.sl 1 (L.map AV.int) false,.int t0.2.1])]⟩ [0])))))
theorem Eh(L:List Int)(p:Nat):∃I m,(ro L p I m).vc mK mL (⟨L,(dj L p).2⟩,(dj L p).1):=by
 refine⟨λt=>∃k:Nat,t.1=((k+1:Nat):Int)∧k≤6∧mM L (6-k) t.1 t.2.2 t.2.1=dj L p∧t.2.2.length≤k,λt=>7-t.1.toNat,?_⟩;dsimp only[ro,rp,Ax.vp,Ax.vc];simp only[vcU,rfU,f'];refine⟨⟨0,rfl,by omega,rfl,by simp⟩,?_⟩;rintro⟨_,q,out⟩ ⟨k,rfl,hk,h,hl⟩;simp only at h hl
 refine⟨λh1=>?_,λh1=>?_⟩
 ·have h1:k<6:=by simp only at h1;omega
  rw[show 6-k=(6-(k+1))+1 by omega,mM]at h;simp only[ao (k:=k+1) (n:=7) (by omega) (by omega)];have hg:((k+1:Nat):Int)+1=((k+1+1:Nat):Int):=by omega
  rw[hg]at h
  have put:Mod (aj L (ax L q).2) 2=0∧((ax L q).1.mode=2∨(ax L q).1.srcs≠[]) →
    yP L q ((k+1:Nat):Int) out=out++[⟨((k+1:Nat):Int),(ax L q).1.mode,(ax L q).1.srcs⟩]:=λc=>by rw[yP,if_pos c]
  have no:¬(Mod (aj L (ax L q).2) 2=0∧((ax L q).1.mode=2∨(ax L q).1.srcs≠[]))→yP L q ((k+1:Nat):Int) out=out:=λc=>by rw[yP,u' c]
  refine⟨λc1=>⟨λc2=>⟨by omega,⟨k+1,rfl,by omega,?_,by simp;omega⟩,by omega⟩,λc2=>⟨λc3=>⟨by omega,⟨k+1,rfl,by omega,?_,by simp;omega⟩,by omega⟩,λc3=>⟨⟨k+1,rfl,by omega,?_,by omega⟩,by omega⟩⟩⟩,λc1=>⟨⟨k+1,rfl,by omega,?_,by omega⟩,by omega⟩⟩
  ·rw[put ⟨by simpa using c1,.inl (by simpa using c2)⟩]at h;exact h
  ·rw[put ⟨by simpa using c1,.inr (λe=>by rw[e]at c3;simp at c3)⟩]at h;exact h
  ·rw[no (λ⟨_,e⟩=>by
    rcases e with e|e
    ·simp[e]at c2
    ·exact e (aG' (by omega)))]at h;exact h
  ·rw[no (λ⟨e,_⟩=>by simp[e]at c1)]at h;exact h
 ·have h1:k=6:=by simp only at h1;omega
  subst h1;rw[←h];rfl
def vg(L:List Int)(p:Nat):HC Tryz.prog:=hcO 132 [.k] [.ref 0 0] [.box (.agg [.sl 1 (L.map AV.int) false,.int p])] (.s 3) mK mL (⟨L,(dj L p).2⟩,(dj L p).1) (λ_ _=>let ⟨I0,m0,h⟩:=Eh L p;⟨_,h,by kernel_rfl⟩) (by kernel_rfl) (by simp[hcB,bJ,AV.belB,allB,cF,bW,mK,mL,Tap.v,ae (v:=AV.int) (λ_=>rfl),ae (v:=Wnt.v) (λ_=>rfl)])
theorem Wnt.eq_iff{x y:Wnt}:x=y↔x.grp=y.grp∧x.mode=y.mode∧x.srcs=y.srcs:=by cases x;cases y;simp
def Cp(a:List Wnt)(b:List Wnt):=okL [.sl 3 (a.map Wnt.v) false,.sl 3 (b.map Wnt.v) false]
def H4(a:List Wnt)(b:List Wnt)(t0:Int):NF:=⟨[(0,.k,.sl 3 (a.map Wnt.v) false),(1,.k,.sl 3 (b.map Wnt.v) false),rI 5 t0],[]⟩
@[reducible] def Cn:Nat→Type
 | 0=>Int
 | _=>Unit
def Co(r:Bool):AV:=.bool r
def Cm(a:List Wnt)(b:List Wnt)(I0:Int→Prop)(m0:Int→Nat):Ax Tryz.prog Cn (Bool):=
 (.br 96 (((a.map Wnt.v).length:Int) != ((b.map Wnt.v).length:Int)) (.ret (false))
(.loop 0 (H4 a b) I0 m0 ((0):Int) [] λ(t0:Int) b0 =>
(.br 64 (decide (t0<((a.map Wnt.v).length:Int))) (.elI 96 Wnt.v a t0 λx1 =>
(.elI 176 Wnt.v b t0 λx2 =>
(.br 256 (x1.grp != x2.grp) (.ret (false))
(.elI 288 Wnt.v a t0 λx3 =>
(.elI 368 Wnt.v b t0 λx4 =>
(.callP (iY (⟨x3.mode,x3.srcs⟩:Flt) (⟨x4.mode,x4.srcs⟩:Flt))
(.br 464 (!(cE (⟨x3.mode,x3.srcs⟩:Flt) (⟨x4.mode,x4.srcs⟩:Flt))) (.ret (false))
(.bk 0 b0 ((W (t0+1)):Int) []))))))))
(.ret (true)))))
theorem Nw(a b:List Wnt)(ok:Cp a b):∃I m,(Cm a b I m).vp Co (decide (a=b)):=by
 simp only[Cp,Wnt.v,okU,Blk.ok,aU,f']at ok;refine⟨λt=>∃k:Nat,t=k∧k≤a.length∧a.take k=b.take k,λt=>a.length-t.toNat,?_⟩;dsimp only[Cm,Cn,Ax.vp,Ax.vc];simp only[vcU,rfU,f'];refine⟨λe=>(decide_eq_false λh=>by subst h;simp at e).symm,λe=>⟨⟨0,rfl,by omega,rfl⟩,?_⟩⟩;have e:a.length=b.length:=by simp at e;omega
 rintro _ ⟨k,rfl,hk,h⟩;simp only[Int.toNat_natCast]
 refine⟨λh1=>⟨by omega,by omega,λx hx=>⟨by omega,by omega,λy hy=>?_⟩⟩,λh1=>?_⟩
 ·have bad:x≠y→false=decide (a=b):=λhne=>(decide_eq_false λhh=>by
   subst hh;cases hx.symm.trans hy;exact hne rfl).symm
  refine⟨λc=>bad λq=>by subst q;simp at c,λc=>⟨by omega,by omega,λx2 hx2=>⟨by omega,by omega,λy2 hy2=>?_⟩⟩⟩;cases hx.symm.trans hx2;cases hy.symm.trans hy2;refine⟨λc3=>bad λq=>by subst q;simp[cE]at c3,λc3=>?_⟩;have q:x=y:=by
   rw[Wnt.eq_iff];have c3:cE ⟨x.mode,x.srcs⟩ ⟨y.mode,y.srcs⟩=true:=by simpa using c3
   have c3:=H' c3;simp only[Flt.mk.injEq]at c3;exact⟨by simpa using c,c3⟩
  subst q;rw[ao (n:=a.length) (by omega) (by omega)];exact⟨⟨k+1,rfl,by omega,by rw[al hx,al hy,h]⟩,by omega⟩
 ·rw[G' (by omega),G' (by omega)]at h;exact(decide_eq_true h).symm
def Nx(a:List Wnt)(b:List Wnt):PC Tryz.prog:=pcO 16 [(.s 3),(.s 3)] [.sl 3 (a.map Wnt.v) false,.sl 3 (b.map Wnt.v) false] .k Co (decide (a=b)) (λok=>let ⟨I0,m0,h⟩:=Nw a b ok;⟨_,h,by kernel_rfl⟩) rfl (by kernel_rfl)
structure Rtr where
  id:Int
  cap:Bool
  deriving DecidableEq
structure Lnk where
  a:Int
  b:Int
  ca:Int
  cb:Int
  w:Int
  deriving DecidableEq
structure Tpl where
  rs:List Rtr
  ls:List Lnk
  deriving DecidableEq
theorem sy{α:Type}{l:List α}{k:Nat}{x:α}:((l.take k).drop 0)++([x]++((l.take ((l.length:Int).toNat)).drop k))=dR l k x:=by
 rw[Int.toNat_natCast,aj',bf',dR,bo']
def Rtr.v(x:Rtr):AV:=.agg [.int x.id,.bool x.cap]
def Lnk.v(x:Lnk):AV:=.agg [.int x.a,.int x.b,.int x.ca,.int x.cb,.int x.w]
def Tpl.v(x:Tpl):AV:=.agg [.sl 2 (x.rs.map Rtr.v) false,.sl 5 (x.ls.map Lnk.v) false]
def G(rows:List (List Bool))(h:Hp):Hp:=λb=>if 1000≤b∧b<2000 then(rows[b-1000]?).map (λr=>Blk.vec 1 (r.map AV.bool))else h b
def F(i:Nat):Nat:=1000+i
def cA(n:Nat):List AV:=(List.range n).map λi=>.vec (F i)
theorem Mi{rows:List (List Bool)}{h:Hp}{b:Nat}(hb:b<1000):G rows h b=h b:=u' (by omega)
theorem G_F{rows:List (List Bool)}{h:Hp}{i:Nat}{r:List Bool}(hr:rows[i]?=some r)(hl:rows.length≤1000):G rows h (F i)=some (.vec 1 (r.map AV.bool)):=by
 have:i<rows.length:=(I'.mp hr).1;unfold G F;rw[if_pos (by omega),show 1000+i-1000=i by omega,hr];rfl
theorem rk{i b:Nat}(hb:b<1000):(F i=b)=False:=by unfold F;simp;omega
theorem kJ{i b:Nat}(hb:b<1000):(b=F i)=False:=by unfold F;simp;omega
theorem nh{n i:Nat}(h:i<n):(cA n)[i]?=some (.vec (F i)):=by simp[cA,h]
theorem cM(n:Nat):(cA n).length=n:=by simp[cA]
def gr(bs fs:Nat→Nat)(b:Nat):Nat:=if 1000≤b∧b<2000 then fs (b-1000)else bs b
theorem kd{bs fs:Nat→Nat}{i:Nat}(h:i<1000):gr bs fs (F i)=fs i:=by unfold gr F;rw[if_pos (by omega),show 1000+i-1000=i by omega]
theorem i6{bs fs:Nat→Nat}{b:Nat}(h:b<1000):gr bs fs b=bs b:=u' (by omega)
theorem kQ(r:List Bool):bU (r.map AV.bool):=aV (ae (λ_=>rfl) r)
theorem aF.nfG{k n:Nat}{tm:Nat→AV}{hp:Hp}{nx:Nat}(rows:List (List Bool))(ts:List (Nat×AV))(hs:List (Option Blk))(bs fs:Nat→Nat)
    (hT:∀p∈ts,tm p.1=p.2.ren (gr bs fs)∧p.2.bel 2000) (hH:∀i x,hs[i]?=some (some x)→hp (bs i)=some (x.ren (gr bs fs))∧x.bel 2000)
    (hl:hs.length≤1000) (hr:rows.length≤1000) (hR:∀i r,rows[i]?=some r→hp (fs i)=some (.vec 1 (r.map AV.bool)))
    (h1:∀i j,i<hs.length→j<hs.length→bs i=bs j→i=j) (h2:∀i j,i<rows.length→j<rows.length→fs i=fs j→i=j) (h3:∀i j,i<hs.length→j<rows.length→bs i≠fs j)
    (hk:∀b,b<k→bs b=b) (hkl:k≤1000):aF k n ⟨tm,hp,nx⟩ ⟨ed ts,G rows (hpL 0 hs),2000⟩:=by
  have low:∀{b x},hpL 0 hs b=some x→hs[b]?=some (some x):=λ{b x} e=>by
    rw[uj,if_pos (aS' _),Nat.sub_zero]at e;cases e':hs[b]? with
    | none=>rw[e']at e;cases e
    | some y=>rw[e']at e;exact congrArg some e
  have cls:∀{b x},G rows (hpL 0 hs) b=some x→(∃i r,b=F i∧i<rows.length∧rows[i]?=some r∧x=.vec 1 (r.map AV.bool))∨(b<hs.length∧hs[b]?=some (some x)):=λ{b x} e=>by
    unfold G at e
    split at e
    · rename_i hb
      obtain⟨r,hr,rfl⟩:=aw'.mp e;exact .inl ⟨b-1000,r,by unfold F;omega,(I'.mp hr).1,hr,rfl⟩
    · have:=low e
      exact .inr ⟨(I'.mp this).1,this⟩
  refine aF.ren (gr bs fs) (λt=>?_) (λb x e=>?_) (λb b' e e' he=>?_) (λb hb=>?_) (by show k≤2000;omega)
  · show ed ts t=.unk∨(tm t=(ed ts t).ren _∧(ed ts t).bel 2000)
    clear hH hR h1 h2 h3 cls low hl
    induction ts with
    | nil=>exact .inl rfl
    | cons p l ih =>
      obtain⟨t',x⟩:=p
      by_cases ht:t=t'
      · subst ht
        have:=hT (t,x) (by simp);simp only[ed,↓reduceIte];exact .inr this
      · have:=ih (λp hp=>hT p (by simp[hp]))
        simp only[ed,u' ht];exact this
  · show b<2000∧hp (gr bs fs b)=some (x.ren (gr bs fs))∧x.bel 2000
    rcases cls e with⟨i,r,rfl,hi,hr',rfl⟩|⟨hb,e⟩
    · refine⟨by unfold F;omega,?_,bm (kQ r)⟩
      rw[kd (by omega),hR i r hr',Blk.ren,bf _ (kQ r)]
    · obtain⟨g1,g2⟩:=hH b x e
      exact⟨by omega,by rw[i6 (by omega)];exact g1,g2⟩
  · have c1:(∃i,b=F i∧i<rows.length)∨b<hs.length:=by
      cases q:G rows (hpL 0 hs) b with
      | none=>exact absurd q e
      | some x => rcases cls q with ⟨i, r, g1, g2, _⟩ | ⟨g, _⟩
                  · exact .inl ⟨i,g1,g2⟩
                  · exact .inr g
    have c2:(∃i,b'=F i∧i<rows.length)∨b'<hs.length:=by
      cases q:G rows (hpL 0 hs) b' with
      | none=>exact absurd q e'
      | some x => rcases cls q with ⟨i, r, g1, g2, _⟩ | ⟨g, _⟩
                  · exact .inl ⟨i,g1,g2⟩
                  · exact .inr g
    rcases c1 with⟨i,rfl,hi⟩|hb<;>rcases c2 with⟨j,rfl,hj⟩|hb'
    · rw[kd (by omega),kd (by omega)]at he
      rw[h2 i j hi hj he]
    · rw[kd (by omega),i6 (by omega)]at he
      exact absurd he.symm (h3 b' i hb' hi)
    · rw[i6 (by omega),kd (by omega)]at he
      exact absurd he (h3 b j hb hj)
    · rw[i6 (by omega),i6 (by omega)]at he
      exact h1 b b' hb hb' he
  · rw[i6 (by omega)];exact hk b hb
def mset(M:List (List Bool))(x y:Nat):List (List Bool):=M.set x ((M.getD x []).set y true)
def lk1(L:List Int):Nat→Nat→Nat→List (List Bool)→List (List Bool)×Nat
 | 0,i,p,M=>(M,p)
 | m+1,i,p,M=>if Mod (aj L p) 12<11 then lk1 L m (i+1) (ab L (ab L p)) (mset M (Mod (aj L (ab L p)) i).toNat i)else lk1 L m (i+1) (ab L p) M
def lk2(L:List Int)(n:Nat):Nat→Nat→List (List Bool)→List (List Bool)×Nat
 | 0,p,M=>(M,p)
 | m+1,p,M =>
  if Mod (aj L p) n=Mod (aj L (ab L p)) n then lk2 L n m (ab L (ab L p)) M
  else lk2 L n m (ab L (ab L p)) (mset M (min (Mod (aj L p) n) (Mod (aj L (ab L p)) n)).toNat (max (Mod (aj L p) n) (Mod (aj L (ab L p)) n)).toNat)
def Sq(n:Nat)(M:List (List Bool)):Prop:=M.length=n∧∀r∈M,r.length=n
theorem Sq.get{n:Nat}{M:List (List Bool)}(h:Sq n M){x:Nat}(hx:x<n):∃r,M[x]?=some r∧r.length=n∧M.getD x []=r:=by
 have hx:x<M.length:=by rw[h.1];exact hx
 exact⟨M[x],E' hx,h.2 _ (ay' hx),by simp[List.getD,E' hx]⟩
theorem Sq.set{n:Nat}{M:List (List Bool)}(h:Sq n M)(x y:Nat):Sq n (mset M x y):=by
 refine⟨by simp[mset,h.1],λr hr=>?_⟩
 by_cases hx:x<n
 ·obtain⟨r0,g1,g2,g3⟩:=h.get hx
  rcases bp' hr with hr|rfl
  ·exact h.2 r hr
  ·rw[g3];simpa using g2
 ·have:mset M x y=M:=List.set_eq_of_length_le (by rw[h.1];omega);rw[this]at hr;exact h.2 r hr
theorem uf{L:List Int}{n:Nat}:∀{m i p:Nat} {M:List (List Bool)},Sq n M→Sq n (lk1 L m i p M).1
 | 0,_,_,_,h=>h
 | m+1,i,p,M,h=>by
  rw[lk1];split
  ·exact uf (h.set _ _)
  ·exact uf h
theorem zR{L:List Int}{n k:Nat}:∀{m p:Nat} {M:List (List Bool)},Sq n M→Sq n (lk2 L k m p M).1
 | 0,_,_,h=>h
 | m+1,p,M,h=>by
  rw[lk2];split
  ·exact zR h
  ·exact zR (h.set _ _)
def sq0(n:Nat):List (List Bool):=List.replicate n (List.replicate n false)
theorem yY(n:Nat):Sq n (sq0 n):=⟨by simp[sq0],λr hr=>by rw[(List.mem_replicate.mp hr).2];simp⟩
end Go.Proofs.YtiobpjoadkfhdaaGreatDoor
