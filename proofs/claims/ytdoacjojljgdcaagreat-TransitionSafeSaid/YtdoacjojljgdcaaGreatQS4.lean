/- Texts joined: Mx8 G0 G1 G2 TP0 LP P0 TC1 TC2 ML SH1 TC3 TC4 FM SH2 RD1. -/
import Derived.Test.YtdoacjojljgdcaaGreatProg
import Derived.Test.YtdoacjojljgdcaaGreatQS3
set_option linter.unusedVariables false
set_option linter.unusedSimpArgs false
set_option linter.unusedSectionVars false
namespace Go.Am
inductive Ax (P:Program) (Sf:Nat→Type) (T:Type):Type 1 where
  | say (φ:Prop→Prop) (a:Ax P Sf T)
  | nil
  | pass (a:Ax P Sf T)
  | br (g:Nat) (c:Bool) (x y:Ax P Sf T)
  | el (f:Nat) {α:Type} (v:α→AV) (l:List α) (Q:(α→Prop)→Prop) (k:α→Ax P Sf T)
  | elA (f:Nat) {α:Type} (v:α→List AV) (l:List α) (i n:Nat) (hv:∀x,(v x).length=n) (Q:(α→Prop)→Prop) (k:α→Ax P Sf T)
  | st (f:Nat) {α:Type} (v:α→AV) (l:List α) (g:α→α) (Q:(α→Prop)→Prop) (k:α→Ax P Sf T)
  | stI (f:Nat) {α:Type} (v:α→AV) (l:List α) (Q:(α→Prop)→Prop) (k:α→Ax P Sf T)
  | app (f:Nat) {α:Type} (v:α→AV) (l xs:List α) (a:Ax P Sf T)
  | appF (f:Nat) {α:Type} (v:α→AV) (l xs:List α) (a:Ax P Sf T)
  | sub (f:Nat) {α:Type} (v:α→AV) (l:List α) (fl:Bool) (a:Ax P Sf T)
  | rep (f:Nat) {α:Type} (v:α→AV) (x:α) (a:Ax P Sf T)
  | own (f:Nat) (a:Ax P Sf T)
  | mn (f:Nat) (q:MN) (a:Ax P Sf T)
  | req (f:Nat) (p:Prop) (k:p→Ax P Sf T)
  | callP (c:PC P) (a:Ax P Sf T)
  | callH (bs:List Nat) (c:HC P) (f:Nat) (a:Ax P Sf T)
  | callA (c:PC P) (h:aZ c.args) (a:Ax P Sf T)
  | cmd (c:Cmd) (a:Ax P Sf T)
  | cmdL (c:Cmd) (a:Ax P Sf T)
  | wait (a:Ax P Sf T)
  | loop (j:Nat) (nf:Sf j→NF) (I:Sf j→Prop) (mu:Sf j→Nat) (s0:Sf j) (bs:List Nat) (body:Sf j→(Sf j→List Nat→Prop)→Ax P Sf T)
  | join (j:Nat) (nf:Sf j→NF) (I:Sf j→Prop) (a:(Sf j→List Nat→Prop)→Ax P Sf T) (body:Sf j→Ax P Sf T)
  | join2 (j:Nat) (nf:Sf j→NF) (I:Sf j→Prop) (a:(Sf j→List Nat→Prop)→Ax P Sf T) (body:Sf j→Ax P Sf T)
  | bk (j:Nat) (b:Sf j→List Nat→Prop) (t:Sf j) (bs:List Nat)
  | hand (k0:Nat) (cs:List Cmd) (m1:NF) (bs:List Nat) (s2:S3) (c:AC) (h:∀n,dL P k0 n c m1.st s2) (a:Ax P Sf T)
  | hand2 (k0:Nat) (s1 s2:S3) (c:AC) (h:∀n,dL P k0 n c s1 s2) (a:Ax P Sf T)
  | handQ (k0:Nat) (m1:NF) (bs:List Nat) (s2:S3) (c:AC) (p:Prop) (h:p→∀n,dL P k0 n c m1.st s2) (a:Ax P Sf T)
  | allB (c:Bool→Prop) (k:Bool→Ax P Sf T)
  | elX (f:Nat) {α:Type} (v:α→AV) (l:List α) (i:Nat) (k:α→Ax P Sf T)
  | elI (f:Nat) {α:Type} (v:α→AV) (l:List α) (i:Int) (k:α→Ax P Sf T)
  | elJ (f:Nat) {α:Type} (v:α→AV) (l:List α) (i:Int) (k:α→Ax P Sf T)
  | stX (f:Nat) {α:Type} (v:α→AV) (l:List α) (i:Nat) (g:α→α) (k:α→Ax P Sf T)
  | stJ (f:Nat) {α:Type} (v:α→AV) (l:List α) (i:Int) (g:α→α) (k:α→Ax P Sf T)
  | fz (b:Nat) {α:Type} (v:α→AV) (l:List α) (h:∀x,(v x).pureB=true) (a:Ax P Sf T)
  | apX (f:Nat) {α:Type} (v:α→AV) (l xs:List α) (n:Nat) (a:Ax P Sf T)
  | ap0 (f:Nat) {α:Type} (v:α→AV) (l xs:List α) (a:Ax P Sf T)
  | unr (n:Nat) (a:Ax P Sf T)
  | ret (r:T)
  | retH (r:T) (m:NF) (bs:List Nat)
section
variable {P : Program} {Sf : Nat → Type} {T : Type}
def Ax.an:Ax P Sf T→An P Sf T
 | .say _ a=>a.an
 | .nil=>.nil
 | .pass a=>.pass a.an
 | .br g _ x y=>.br g x.an y.an
 | .el f v l _ k=>.el f v l λx=>(k x).an
 | .elA f v l i n hv _ k=>.elA f v l i n hv λx=>(k x).an
 | .st f v l g _ k=>.st f v l g λx=>(k x).an
 | .stI f v l _ k=>.stI f v l λx=>(k x).an
 | .app f v l xs a=>.app f v l xs a.an
 | .appF f v l xs a=>.appF f v l xs a.an
 | .sub f v l fl a=>.sub f v l fl a.an
 | .rep f v x a=>.rep f v x a.an
 | .own f a=>.own f a.an
 | .mn f q a=>.mn f q a.an
 | .req f p k=>.req f p λh=>(k h).an
 | .callP c a=>.callP c a.an
 | .callH bs c _ a=>.callH bs c a.an
 | .callA c h a=>.callA c h a.an
 | .cmd c a=>.cmd c a.an
 | .cmdL c a=>.cmdL c a.an
 | .wait a=>.wait a.an
 | .loop j nf I mu s0 bs body=>.loop j nf I mu s0 bs λt=>(body t λ_ _=>True).an
 | .join j nf I a body=>.join j nf I (a λ_ _=>True).an λt=>(body t).an
 | .join2 j nf I a body=>.join2 j nf I (a λ_ _=>True).an λt=>(body t).an
 | .bk j _ t bs=>.back j t bs
 | .hand k0 cs m1 bs s2 c h a=>.hand k0 cs m1 bs s2 c h a.an
 | .hand2 k0 s1 s2 c h a=>.hand2 k0 s1 s2 c h a.an
 | .handQ k0 m1 bs s2 c p h a=>.handQ k0 m1 bs s2 c p h a.an
 | .allB _ k=>(k true).an
 | .elX f v l _ k=>.el f v l λx=>(k x).an
 | .elI f v l _ k=>.el f v l λx=>(k x).an
 | .elJ f v l _ k=>.el f v l λx=>(k x).an
 | .stX f v l _ g k=>.st f v l g λx=>(k x).an
 | .stJ f v l _ g k=>.st f v l g λx=>(k x).an
 | .fz b v l h a=>.cmdL (.frzE b (l.map v) (ae h l)) a.an
 | .apX f v l xs _ a=>.app f v l xs a.an
 | .ap0 f v l xs a=>.app f v l xs a.an
 | .unr n a=>.unr n a.an
 | .ret r=>.ret r
 | .retH r m bs=>.retH r m bs
def Ax.vc(e:T→AV)(b:T→List (Option Blk))(r0:T):Ax P Sf T→Prop
 | .say φ a=>φ (a.vc e b r0)
 | .nil=>True
 | .pass a=>a.vc e b r0
 | .br _ c x y=>Go.Am.br c (x.vc e b r0) (y.vc e b r0)
 | .el _ _ _ Q k=>Q λx=>(k x).vc e b r0
 | .elA _ _ _ _ _ _ Q k=>Q λx=>(k x).vc e b r0
 | .st _ _ _ _ Q k=>Q λx=>(k x).vc e b r0
 | .stI _ _ _ Q k=>Q λx=>(k x).vc e b r0
 | .app _ _ _ _ a=>a.vc e b r0
 | .appF _ _ _ _ a=>a.vc e b r0
 | .sub _ _ _ _ a=>a.vc e b r0
 | .rep _ _ _ a=>a.vc e b r0
 | .own _ a=>a.vc e b r0
 | .mn _ q a=>q.say (a.vc e b r0)
 | .req _ p k=>∃h:p,(k h).vc e b r0
 | .callP c a=>Cl c (a.vc e b r0)
 | .callH bs c f a=>Ch c bs f (a.vc e b r0)
 | .callA c _ a=>Cl c (a.vc e b r0)
 | .cmd _ a=>a.vc e b r0
 | .cmdL _ a=>a.vc e b r0
 | .wait a=>a.vc e b r0
 | .loop _ nf I mu s0 bs body=>Be nf bs I s0∧∀t,I t→(body t λx bs=>Bk nf bs I mu x t).vc e b r0
 | .join _ nf I a body=>(a λx bs=>Be nf bs I x).vc e b r0∧∀t,I t→(body t).vc e b r0
 | .join2 _ nf I a body=>(a λx bs=>Be nf bs I x).vc e b r0∧∀t,I t→(body t).vc e b r0
 | .bk _ b t bs=>b t bs
 | .hand _ _ m1 bs _ c _ a=>Nf m1 bs (Rf c (a.vc e b r0))
 | .hand2 _ s1 _ c _ a=>Rf s1 (Rf c (a.vc e b r0))
 | .handQ _ m1 bs _ c p _ a=>Nf m1 bs (Rf c (p∧a.vc e b r0))
 | .allB c k=>∀x,c x→(k x).vc e b r0
 | .elX _ v l i k=>Rf (l.map v) (ck (decide (i<l.length)) (∀x,l[i]?=some x→(k x).vc e b r0))
 | .elI _ v l i k=>Rf (l.map v) (ck (decide (0≤i)) (ck (decide (i<(l.length:Int))) (∀x,l[i.toNat]?=some x→(k x).vc e b r0)))
 | .elJ _ v l i k=>ck (cond (decide (0≤i)) (decide (i<((l.map v).length:Int))) false) (Rf (l.map v) (ck (decide (i.toNat<l.length)) (∀x,l[i.toNat]?=some x→(k x).vc e b r0)))
 | .stX _ v l i g k=>Rf (l.map v) (ck (decide (i<l.length)) (∀o,l[i]?=some o→Rf (v (g o)) ((k o).vc e b r0)))
 | .stJ _ v l i g k=>ck (cond (decide (0≤i)) (decide (i<((l.map v).length:Int))) false) (Rf (l.map v) (ck (decide (i.toNat<l.length)) (∀o,l[i.toNat]?=some o→Rf (v (g o)) ((k o).vc e b r0))))
 | .fz _ v l _ a=>Rf (l.map v) (a.vc e b r0)
 | .apX _ v l xs n a=>Rf (l.map v) (Rf (xs.map v) (ck (decide (n≤1048576)) (a.vc e b r0)))
 | .ap0 _ v l xs a=>Rf (l.map v) (Rf (xs.map v) (a.vc e b r0))
 | .unr _ a=>a.vc e b r0
 | .ret r=>Rp e r r0
 | .retH r m bs=>Qt m bs e b r r0
def Ax.vp(e:T→AV)(r0:T)(x:Ax P Sf T):Prop:=x.vc e (λ_=>[]) r0
end
@[reducible] def noS:Nat→Type:=λ_=>Unit
end Go.Am
namespace Go.Proofs.YtdoacjojljgdcaaGreat
open Go Go.Am
structure Tap where
  L:List Int
  p:Nat
structure zm where
  L:List Int
  p:Int
def Tap.v(x:Tap):AV:=.agg [.sl 1 (x.L.map AV.int) false,.int x.p]
@[simp] theorem wm (l:List Int):bT (l.map AV.int)=true:=ae (λ_=>rfl) l
def Mod(x n:Int):Int:=if n<1 then 0 else if x.tmod n<0 then x.tmod n+n else x.tmod n
theorem cU{x n:Int}(h:1≤n):0≤Mod x n∧Mod x n<n:=by
 have hb:=Int.tmod_lt_of_pos x (show 0<n by omega)
 have hb':=Int.lt_tmod_of_pos x (show 0<n by omega)
 unfold Mod;split
 ·omega
 split<;>omega
def ab(L:List Int)(p:Nat):Nat:=if L.length≤p then p else p+1
def au(L:List Int)(p:Nat):Int:=L.getD p 0
def rng(L:List Int)(p:Nat)(lo hi:Int):Int:=W (lo+Mod (au L p) (W (W (hi-lo)+1)))
def bf(l:List Int)(r:Int):Int:=l.getD (Mod r l.length).toNat 0
def orI(l:List Int):Int:=(l.find? (· != 0)).getD 0
def cmpI(x y:Int):Int:=if x<y then -1 else if y<x then 1 else 0
def n8(x:Int):Bool:=false
theorem bM{k n:Nat}(h:k<n)(hn:n≤9223372036854775807):W ((k:Int)+1)=((k+1:Nat):Int):=by rw[dm (by omega)];omega
theorem jL{k:Nat}(h:k≤9223372036854775807)(h1:1≤k):W ((k:Int)-1)=((k-1:Nat):Int):=by rw[dm (by omega)];omega
def Kn(x:Int):=okL [.int x]
def qY(r:Bool):AV:=.bool r
def qX(x:Int):Ax Tryz.prog noS (Bool):=
 (.ret (x != x))
def tW(x:Int)(r0:Bool):=(qX x).vp qY r0
theorem Km(x:Int)(ok:Kn x):tW x (n8 x):=by
 dsimp only[tW,qX,noS,Ax.vp,Ax.vc];simp only[vcU,rfU,List.length_map]
 simp[n8]
def Bg(x:Int):PC Tryz.prog:=⟨172,[.k],[.int x],qY (n8 x),ax.of_ok λok=>aw (sh:=.k) (enc:=qY) (a:=(qX x).an) (Km x ok) (by kernel_rfl) (AV.pureB_ok rfl),aq (by kernel_rfl)⟩
def Qf(x:Int)(y:Int):=okL [.int x,.int y]
def y0(r:Int):AV:=.int r
def yz(x:Int)(y:Int):Ax Tryz.prog noS (Int):=
 (.callP (Bg x)
(.callP (Bg y)
(.br 128 (n8 x) (.br 144 (n8 y) (.ret (0))
(.ret (-1)))
(.br 144 (n8 y) (.ret (1))
(.br 192 (decide (x<y)) (.ret (-1))
(.br 240 (decide (y<x)) (.ret (1))
(.ret (0))))))))
def BT(x:Int)(y:Int)(r0:Int):=(yz x y).vp y0 r0
theorem Qe(x y:Int)(ok:Qf x y):BT x y (cmpI x y):=by
 dsimp only[BT,yz,noS,Ax.vp,Ax.vc];simp only[vcU,rfU,List.length_map]
 simp only[n8,Bool.false_eq_true,false_implies,true_implies,true_and,cmpI]
 refine⟨λh=>by rw[if_pos h],λh=>⟨λh2=>by rw[if_neg h,if_pos h2],λh2=>by rw[if_neg h,if_neg h2]⟩⟩
def y7(x:Int)(y:Int):PC Tryz.prog:=⟨151,[.k,.k],[.int x,.int y],y0 (cmpI x y),ax.of_ok λok=>aw (sh:=.k) (enc:=y0) (a:=(yz x y).an) (Qe x y ok) (by kernel_rfl) (AV.pureB_ok rfl),aq (by kernel_rfl)⟩
theorem De{l:List Int}{k:Nat}{x:Int}(h:l.take k |>.all (·==0))(hx:l[k]?=some x)(hn:x≠0):l.find? (· != 0)=some x:=by
 rw[List.find?_eq_some_iff_getElem]
 refine⟨by simpa using hn,k,ap hx,by rw[List.getElem?_eq_getElem (ap hx)]at hx;exact Option.some.inj hx,λj hj=>?_⟩
 have:=List.all_eq_true.mp h (l[j]'(by have:=ap hx;omega)) (List.mem_take_iff_getElem.mpr ⟨j,by have:=ap hx;omega,rfl⟩)
 simpa using this
def GK(s:List Int):=okL [.sl 1 (s.map AV.int) false]
def oi(r:List Int):AV:=.sl 1 (r.map AV.int) false
def oh(s:List Int):Ax Tryz.prog noS ((List Int)):=
 (.allB (λb1=>((s.map AV.int)≠[]→b1=false)) λb1 =>
(.br 48 (b1 != false) (.ret ([]))
(.apX 80 AV.int [] s (0+s.length)
(.fz 80 AV.int s (λ_=>rfl) (.ret (s))))))
def pf(s:List Int)(r0:List Int):=(oh s).vp oi r0
theorem GJ(s:List Int)(h:s.length≤1000000)(ok:GK s):pf s s:=by
 dsimp only[pf,oh,noS,Ax.vp,Ax.vc];simp only[vcU,rfU,List.length_map]
 intro b hb
 simp only[wm,true_and,and_true,Nat.zero_add]
 refine⟨λh1=>?_,λ_=>by omega⟩
 cases s with
 | nil=>rfl
 | cons x s=>simp at hb;simp[hb]at h1
def uW(s:List Int)(h:s.length≤1000000):PC Tryz.prog:=⟨108,[(.s 1)],[.sl 1 (s.map AV.int) false],oi s,ax.of_ok λok=>aw (sh:=(.s 1)) (enc:=oi) (a:=(oh s).an) (GJ s h ok) (by kernel_rfl) (AV.pureB_ok rfl),aq (by kernel_rfl)⟩
def bD{α:Type}(es:List α)(i:Nat)(x:α):List α:=es.take i++[x]++es.drop i
def putP(l:List Int)(x:Int):Nat:=l.findIdx (λy=>!decide (y<x))
def put(l:List Int)(x:Int):List Int:=if l[putP l x]?=some x then l else bD l (putP l x) x
structure Rtr where
  id:Int
  cap:Bool
  deriving DecidableEq
structure Lnk where
  a:Int
  b:Int
  ca:Int
  cb:Int
  w:Int
  deriving DecidableEq
structure Tpl where
  rs:List Rtr
  ls:List Lnk
  deriving DecidableEq
theorem CT{α:Type}{l:List α}{k:Nat}{x:α}:((l.take k).drop 0)++([x]++((l.take ((l.length:Int).toNat)).drop k))=bD l k x:=by
 rw[Int.toNat_natCast,List.take_length,List.drop_zero,bD,List.append_assoc]
def Rtr.v(x:Rtr):AV:=.agg [.int x.id,.bool x.cap]
def Lnk.v(x:Lnk):AV:=.agg [.int x.a,.int x.b,.int x.ca,.int x.cb,.int x.w]
def Tpl.v(x:Tpl):AV:=.agg [.sl 2 (x.rs.map Rtr.v) false,.sl 5 (x.ls.map Lnk.v) false]
def G(rows:List (List Bool))(h:Hp):Hp:=λb=>if 1000≤b∧b<2000 then(rows[b-1000]?).map (λr=>Blk.vec 1 (r.map AV.bool))else h b
def F(i:Nat):Nat:=1000+i
def names(n:Nat):List AV:=(List.range n).map λi=>.vec (F i)
def mset(M:List (List Bool))(x y:Nat):List (List Bool):=M.set x ((M.getD x []).set y true)
def Sq(n:Nat)(M:List (List Bool)):Prop:=M.length=n∧∀r∈M,r.length=n
theorem Sq.get{n:Nat}{M:List (List Bool)}(h:Sq n M){x:Nat}(hx:x<n):∃r,M[x]?=some r∧r.length=n∧M.getD x []=r:=by
 have hx:x<M.length:=by rw[h.1];exact hx
 exact⟨M[x],List.getElem?_eq_getElem hx,h.2 _ (List.getElem_mem hx),by simp[List.getD,List.getElem?_eq_getElem hx]⟩
theorem Sq.set{n:Nat}{M:List (List Bool)}(h:Sq n M)(x y:Nat):Sq n (mset M x y):=by
 refine⟨by simp[mset,h.1],λr hr=>?_⟩
 by_cases hx:x<n
 ·obtain⟨r0,g1,g2,g3⟩:=h.get hx
  rcases List.mem_or_eq_of_mem_set hr with hr|rfl
  ·exact h.2 r hr
  ·rw[g3];simpa using g2
 ·have:mset M x y=M:=List.set_eq_of_length_le (by rw[h.1];omega)
  rw[this]at hr;exact h.2 r hr
section
variable {α : Type} {l : List α} {P : α → Prop} {R : α → α → Prop} {t : Int} {x y : α}
theorem eE{i n:Int}(h1:0≤i)(h2:i<n):(bif decide (0≤i)then decide (i<n)else false)=true:=by
 rw[decide_eq_true h1,decide_eq_true h2];rfl
def bi(l:List α)(P:α→Prop)(t:Int):Prop:=∃k:Nat,t=k∧k≤l.length∧∀x∈l.take k,P x
theorem bi.zero:bi l P 0:=⟨0,rfl,by omega,by simp⟩
theorem bi.idx(h:bi l P t):0≤t:=by obtain⟨k,rfl,_,_⟩:=h;omega
theorem bi.step(h:bi l P t)(hl:l.length≤9223372036854775807)(hx:l[t.toNat]?=some x)(p:P x):bi l P (W (t+1))∧l.length-(W (t+1)).toNat<l.length-t.toNat:=by
 obtain⟨k,rfl,hk,ha⟩:=h
 rw[Int.toNat_natCast]at hx
 have:=ap hx
 rw[bM (n:=l.length) this hl]
 refine⟨⟨k+1,rfl,by omega,λz hz=>?_⟩,by omega⟩
 rw[aU hx]at hz
 rcases List.mem_append.mp hz with hz|hz
 ·exact ha z hz
 ·rw[List.mem_singleton]at hz;exact hz ▸ p
theorem bi.done(h:bi l P t)(c:¬t<l.length):∀x∈l,P x:=by
 obtain⟨k,rfl,hk,ha⟩:=h
 rw[List.take_of_length_le (by omega)]at ha
 exact ha
theorem cB(hx:l[t.toNat]?=some x):x∈l:=bF hx
def iX(l:List α)(R:α→α→Prop)(t:Int):Prop:=∃k:Nat,t=k∧1≤k∧k≤l.length+1∧∀j x y,j+1<k→l[j]?=some x→l[j+1]?=some y→R x y
theorem iX.one:iX l R 1:=⟨1,rfl,by omega,by omega,λj x y h=>by omega⟩
theorem iX.idx(h:iX l R t)(hl:l.length≤9223372036854775807)(c:t<l.length):(0≤W (t-1)∧W (t-1)<l.length)∧0≤t:=by
 obtain⟨k,rfl,h1,hk,ha⟩:=h
 rw[jL (by omega) h1]
 omega
theorem iX.step(h:iX l R t)(hl:l.length≤9223372036854775807)(hx:l[(W (t-1)).toNat]?=some x)(hy:l[t.toNat]?=some y)(p:R x y):iX l R (W (t+1))∧l.length+1-(W (t+1)).toNat<l.length+1-t.toNat:=by
 obtain⟨k,rfl,h1,hk,ha⟩:=h
 rw[Int.toNat_natCast]at hy
 have hlt:=ap hy
 rw[jL (by omega) h1,Int.toNat_natCast]at hx
 rw[bM (n:=l.length) hlt (by omega)]
 refine⟨⟨k+1,rfl,by omega,by omega,λj x' y' hj hx' hy'=>?_⟩,by omega⟩
 by_cases e:j+1=k
 ·subst e
  rw[show j+1-1=j by omega,hx']at hx;cases hx
  rw[hy']at hy;cases hy;exact p
 ·exact ha j x' y' (by omega) hx' hy'
theorem iX.bad(h:iX l R t)(hl:l.length≤9223372036854775807)(hx:l[(W (t-1)).toNat]?=some x)(hy:l[t.toNat]?=some y){S:α→α→Prop}(p:¬S x y):¬l.Pairwise S:=by
 obtain⟨k,rfl,h1,hk,ha⟩:=h
 rw[Int.toNat_natCast]at hy
 have hlt:=ap hy
 rw[jL (by omega) h1,Int.toNat_natCast]at hx
 intro hp
 rw[List.pairwise_iff_getElem]at hp
 have:=hp (k-1) k (by omega) hlt (by omega)
 rw[List.getElem?_eq_getElem (by omega)]at hx hy
 rw[Option.some.inj hx,Option.some.inj hy]at this
 exact p this
theorem iX.done(h:iX l R t)(c:¬t<l.length)(tr:∀x y z,R x y→R y z→R x z):l.Pairwise R:=by
 obtain⟨k,rfl,h1,hk,ha⟩:=h
 rw[List.pairwise_iff_getElem]
 have key:∀d i,(hi:i+d+1<l.length)→R (l[i]'(by omega)) l[i+d+1]:=by
  intro d
  induction d with
  | zero=>intro i hi;exact ha i _ _ (by omega) (List.getElem?_eq_getElem (by omega)) (List.getElem?_eq_getElem hi)
  | succ d ih =>
   intro i hi
   exact tr _ _ _ (ih i (by omega)) (ha (i+d+1) _ _ (by omega) (List.getElem?_eq_getElem (by omega)) (List.getElem?_eq_getElem hi))
 intro i j hi hj hij
 have:=key (j-i-1) i (by omega)
 simp only[show i+(j-i-1)+1=j by omega]at this
 exact this
def iW{σ:Type}(l:List α)(g:σ→α→σ)(s0:σ)(t:Int)(s:σ):Prop:=∃k:Nat,t=k∧k≤l.length∧s=(l.take k).foldl g s0
section
variable {σ : Type} {g : σ → α → σ} {s0 s : σ}
theorem iW.zero:iW l g s0 0 s0:=⟨0,rfl,by omega,rfl⟩
theorem iW.idx(h:iW l g s0 t s):0≤t:=by obtain⟨k,rfl,_,_⟩:=h;omega
theorem iW.step(h:iW l g s0 t s)(hl:l.length≤9223372036854775807)(hx:l[t.toNat]?=some x){s':σ}(p:s'=g s x):iW l g s0 (W (t+1)) s'∧l.length-(W (t+1)).toNat<l.length-t.toNat:=by
 obtain⟨k,rfl,hk,rfl⟩:=h
 rw[Int.toNat_natCast]at hx
 have:=ap hx
 rw[bM (n:=l.length) this hl]
 exact⟨⟨k+1,rfl,by omega,by rw[aU hx,List.foldl_append,p];rfl⟩,by omega⟩
theorem iW.len(h:iW l g s0 t s){f:σ→Nat}{a b:Nat}(h0:f s0≤a)(hs:∀s x,x∈l→f (g s x)≤f s+b):f s≤a+b * t.toNat:=by
 obtain⟨k,rfl,hk,rfl⟩:=h
 rw[Int.toNat_natCast]
 induction k with
 | zero=>simpa using h0
 | succ k ih =>
  rw[aU (List.getElem?_eq_getElem (show k<l.length by omega)),List.foldl_append,List.foldl_cons,List.foldl_nil,Nat.mul_succ]
  have:=hs ((l.take k).foldl g s0) l[k] (List.getElem_mem _)
  have:=ih (by omega)
  omega
theorem iW.done(h:iW l g s0 t s)(c:¬t<l.length):s=l.foldl g s0:=by
 obtain⟨k,rfl,hk,rfl⟩:=h
 rw[List.take_of_length_le (by omega)]
end
def eK{β:Type}(l:List α)(f:α→List β)(t:Int)(out:List β):Prop:=∃k:Nat,t=k∧k≤l.length∧out=(l.take k).flatMap f
section
variable {β : Type} {f : α → List β} {out : List β}
theorem eK.zero:eK l f 0 []:=⟨0,rfl,by omega,rfl⟩
theorem eK.idx(h:eK l f t out):0≤t:=by obtain⟨k,rfl,_,_⟩:=h;omega
theorem eK.step(h:eK l f t out)(hl:l.length≤9223372036854775807)(hx:l[t.toNat]?=some x){out':List β}(p:out'=out++f x):eK l f (W (t+1)) out'∧l.length-(W (t+1)).toNat<l.length-t.toNat:=by
 obtain⟨k,rfl,hk,rfl⟩:=h
 rw[Int.toNat_natCast]at hx
 have:=ap hx
 rw[bM (n:=l.length) this hl]
 exact⟨⟨k+1,rfl,by omega,by rw[aU hx,List.flatMap_append,p];simp⟩,by omega⟩
theorem eK.done(h:eK l f t out)(c:¬t<l.length):out=l.flatMap f:=by
 obtain⟨k,rfl,hk,rfl⟩:=h
 rw[List.take_of_length_le (by omega)]
theorem eK.len(h:eK l f t out){b:Nat}(hb:∀x∈l,(f x).length≤b):out.length≤l.length * b:=by
 obtain⟨k,rfl,hk,rfl⟩:=h
 have key:∀m:List α,(∀x∈m,(f x).length≤b)→(m.flatMap f).length≤m.length * b:=by
  intro m
  induction m with
  | nil=>intro _;simp
  | cons x m ih =>
   intro hm
   have h1:=hm x (by simp)
   have h2:=ih λy hy=>hm y (by simp[hy])
   rw[List.flatMap_cons,List.length_append,List.length_cons,Nat.succ_mul];omega
 refine Nat.le_trans (key _ λx hx=>hb x (List.mem_of_mem_take hx)) (Nat.mul_le_mul_right _ ?_)
 rw[List.length_take];omega
end
theorem ul{β:Type}{f:α→β}{l:List α}:(l.flatMap λx=>[f x])=l.map f:=by
 induction l with
 | nil=>rfl
 | cons x l ih=>rw[List.flatMap_cons,ih];rfl
theorem xM{p:α→Bool}{l:List α}:(l.flatMap λx=>if p x=true then [x]else [])=l.filter p:=by
 induction l with
 | nil=>rfl
 | cons x l ih =>
  rw[List.flatMap_cons,ih,List.filter_cons]
  split<;>rfl
def cM(p:α→Bool)(l:List α):Int:=if l.any p=true then((l.findIdx p:Nat):Int)else -1
theorem bi.found{p:α→Bool}(h:bi l (λy=>p y=false) t)(hx:l[t.toNat]?=some x)(hp:p x=true):t=cM p l:=by
 obtain⟨k,rfl,hk,ha⟩:=h
 rw[Int.toNat_natCast]at hx
 rw[cM,if_pos (List.any_eq_true.mpr ⟨x,bF hx,hp⟩)]
 have:l.findIdx p=k:=by
  have hlt:=ap hx
  rw[List.getElem?_eq_getElem hlt]at hx
  have hx:=Option.some.inj hx
  rw[List.findIdx_eq hlt]
  refine⟨by rw[hx];exact hp,λj hj=>?_⟩
  exact ha _ (List.mem_take_iff_getElem.mpr ⟨j,by omega,rfl⟩)
 rw[this]
theorem bi.lost{p:α→Bool}(h:bi l (λy=>p y=false) t)(c:¬t<l.length):-1=cM p l:=by
 rw[cM,if_neg]
 rw[List.any_eq_true]
 rintro⟨x,hx,hp⟩
 rw[h.done c x hx]at hp;cases hp
theorem dQ(p:α→Bool)(l:List α):decide (0≤cM p l)=l.any p:=by
 unfold cM
 cases l.any p
 ·rfl
 ·rw[if_pos rfl];exact decide_eq_true (by omega)
end
theorem mw{α:Type}{l:List α}{t:Int}{x:α}{p:α→Bool}(h:bi l (λy=>p y=false) t)(hx:l[t.toNat]?=some x)(hp:p x=true):l.find? p=some x:=by
 obtain⟨k,rfl,hk,ha⟩:=h
 rw[Int.toNat_natCast]at hx
 rw[List.find?_eq_some_iff_getElem]
 have hlt:=ap hx
 refine⟨hp,k,hlt,by rw[List.getElem?_eq_getElem hlt]at hx;exact Option.some.inj hx,λj hj=>?_⟩
 rw[ha _ (List.mem_take_iff_getElem.mpr ⟨j,by omega,rfl⟩)];rfl
theorem rp{α:Type}{l:List α}{t:Int}{p:α→Bool}(h:bi l (λy=>p y=false) t)(c:¬t<l.length):l.find? p=none:=by
 rw[List.find?_eq_none]
 exact λx hx=>by rw[h.done c x hx];simp
def dT(n:Int):Bool:=decide (1≤n) && decide (n≤1000)
def PU(n:Int):=okL [.int n]
def yj(r:Bool):AV:=.bool r
def yi(n:Int):Ax Tryz.prog noS (Bool):=
 (.br 64 (decide (1≤n)) (.ret (decide (n≤1000)))
(.ret (false)))
def BK(n:Int)(r0:Bool):=(yi n).vp yj r0
theorem PT(n:Int)(ok:PU n):BK n (dT n):=by
 dsimp only[BK,yi,noS,Ax.vp,Ax.vc];simp only[vcU,rfU,List.length_map]
 refine⟨λc=>?_,λc=>?_⟩<;>simp[dT,c]
def lE(n:Int):PC Tryz.prog:=⟨80,[.k],[.int n],yj (dT n),ax.of_ok λok=>aw (sh:=.k) (enc:=yj) (a:=(yi n).an) (PT n ok) (by kernel_rfl) (AV.pureB_ok rfl),aq (by kernel_rfl)⟩
def aG(t:Tpl)(r:Int):Bool:=t.rs.any λx=>x.id==r
def Gb(t:Tpl)(r:Int):=okL [.agg [.sl 2 (t.rs.map Rtr.v) false,.sl 5 (t.ls.map Lnk.v) false],.int r]
def K1(t:Tpl)(r:Int)(t0:Int):NF:=⟨[(1,.k,.int r),(2,.k,.ref 0 0),(5,.k,.int t0)],[.box (.agg [.sl 2 (t.rs.map Rtr.v) false,.sl 5 (t.ls.map Lnk.v) false])]⟩
@[reducible] def Ga:Nat→Type
 | 0=>Int
 | _=>Unit
def xF(r:Bool):AV:=.bool r
def xE(t:Tpl)(r:Int)(I0:Int→Prop)(m0:Int→Nat):Ax Tryz.prog Ga (Bool):=
 (.loop 0 (K1 t r) I0 m0 ((0):Int) [0] λ(t0:Int) b0 =>
(.br 81 (decide (t0<((t.rs.map Rtr.v).length:Int))) (.elI 129 Rtr.v t.rs t0 λx1 =>
(.br 209 (x1.id==r) (.ret (true))
(.bk 0 b0 ((W (t0+1)):Int) [0])))
(.ret (false))))
def Bu(t:Tpl)(r:Int)(I0:Int→Prop)(m0:Int→Nat)(r0:Bool):=(xE t r I0 m0).vp xF r0
theorem Pm(t:Tpl)(r:Int)(ok:Gb t r):∃I m,Bu t r I m (aG t r):=by
 refine⟨λi=>bi t.rs (λx=>(x.id==r)=false) i,λi=>t.rs.length-i.toNat,?_⟩
 simp only[Gb,okU,Blk.ok,aL,List.length_map]at ok
 dsimp only[Bu,xE,Ga,Ax.vp,Ax.vc];simp only[vcU,rfU,List.length_map]
 refine⟨bi.zero,λi h=>⟨λc=>⟨h.idx,c,λx hx=>⟨λq=>?_,λq=>h.step (by omega) hx q⟩⟩,λc=>?_⟩⟩
 ·exact(List.any_eq_true.mpr ⟨x,cB hx,q⟩).symm
 ·exact(List.any_eq_false.mpr λx hx=>by rw[h.done c x hx];simp).symm
def nK(t:Tpl)(r:Int):PC Tryz.prog:=⟨79,[(.a [(.s 2),(.s 5)]),.k],[.agg [.sl 2 (t.rs.map Rtr.v) false,.sl 5 (t.ls.map Lnk.v) false],.int r],xF (aG t r),ax.of_ok λok=>(Pm t r ok).elim λI0 h=>h.elim λm0 h=>aw (sh:=.k) (enc:=xF) (a:=(xE t r I0 m0).an) h (by kernel_rfl) (AV.pureB_ok rfl),aq (by kernel_rfl)⟩
def fO(l:Lnk):Prop:=dT l.ca=true∧dT l.cb=true∧0≤l.w∧l.w≤1000
instance (l:Lnk):Decidable (fO l):=by unfold fO;infer_instance
def aQ(x y:Lnk):Prop:=x.a<y.a∨x.a=y.a∧x.b<y.b
instance (x y:Lnk):Decidable (aQ x y):=by unfold aQ;infer_instance
def aD(t:Tpl):Int:=
 if 24<t.rs.length∨60<t.ls.length then 3
 else if ¬∀x∈t.rs,1≤x.id∧x.id≤99 then 2
 else if ¬t.rs.Pairwise (λx y=>x.id<y.id)then 25
 else if ¬∀l∈t.ls,fO l then 2
 else if ¬∀l∈t.ls,aG t l.a=true∧aG t l.b=true then 4
 else if ¬∀l∈t.ls,l.a<l.b then 8
 else if ¬t.ls.Pairwise aQ then 25 else 0
def GY(t:Tpl):=okL [.agg [.sl 2 (t.rs.map Rtr.v) false,.sl 5 (t.ls.map Lnk.v) false]]
def L6(t:Tpl)(t0:Bool):NF:=⟨[(1,.k,.ref 0 0),(21,.k,.bool t0)],[.box (.agg [.sl 2 (t.rs.map Rtr.v) false,.sl 5 (t.ls.map Lnk.v) false])]⟩
def L5(t:Tpl)(t1:Int):NF:=⟨[(1,.k,.ref 0 0),(3,.k,.int t1)],[.box (.agg [.sl 2 (t.rs.map Rtr.v) false,.sl 5 (t.ls.map Lnk.v) false])]⟩
def L4(t:Tpl)(t1:Int)(t2:Bool):NF:=⟨[(1,.k,.ref 0 0),(3,.k,.int t1),(44,.k,.bool t2)],[.box (.agg [.sl 2 (t.rs.map Rtr.v) false,.sl 5 (t.ls.map Lnk.v) false])]⟩
def L3(t:Tpl)(t3:Int):NF:=⟨[(1,.k,.ref 0 0),(4,.k,.int t3)],[.box (.agg [.sl 2 (t.rs.map Rtr.v) false,.sl 5 (t.ls.map Lnk.v) false])]⟩
def L2(t:Tpl)(t4:Int):NF:=⟨[(1,.k,.ref 0 0),(5,.k,.int t4)],[.box (.agg [.sl 2 (t.rs.map Rtr.v) false,.sl 5 (t.ls.map Lnk.v) false])]⟩
def L1(t:Tpl)(t4:Int)(t5:Bool):NF:=⟨[(1,.k,.ref 0 0),(5,.k,.int t4),(97,.k,.bool t5)],[.box (.agg [.sl 2 (t.rs.map Rtr.v) false,.sl 5 (t.ls.map Lnk.v) false])]⟩
def L0(t:Tpl)(t6:Int):NF:=⟨[(1,.k,.ref 0 0),(7,.k,.int t6)],[.box (.agg [.sl 2 (t.rs.map Rtr.v) false,.sl 5 (t.ls.map Lnk.v) false])]⟩
def Lz(t:Tpl)(t6:Int)(t7:Bool):NF:=⟨[(1,.k,.ref 0 0),(7,.k,.int t6),(124,.k,.bool t7)],[.box (.agg [.sl 2 (t.rs.map Rtr.v) false,.sl 5 (t.ls.map Lnk.v) false])]⟩
def Ly(t:Tpl)(t8:Int):NF:=⟨[(1,.k,.ref 0 0),(8,.k,.int t8)],[.box (.agg [.sl 2 (t.rs.map Rtr.v) false,.sl 5 (t.ls.map Lnk.v) false])]⟩
def Lx(t:Tpl)(t9:Int):NF:=⟨[(1,.k,.ref 0 0),(9,.k,.int t9)],[.box (.agg [.sl 2 (t.rs.map Rtr.v) false,.sl 5 (t.ls.map Lnk.v) false])]⟩
def GV(t:Tpl)(t9:Int)(t10:Bool):NF:=⟨[(1,.k,.ref 0 0),(9,.k,.int t9),(181,.k,.bool t10)],[.box (.agg [.sl 2 (t.rs.map Rtr.v) false,.sl 5 (t.ls.map Lnk.v) false])]⟩
@[reducible] def GU:Nat→Type
 | 0=>Bool
 | 1=>Int
 | 2=>Bool
 | 3=>Int
 | 4=>Int
 | 5=>Bool
 | 6=>Int
 | 7=>Bool
 | 8=>Int
 | 9=>Int
 | 10=>Bool
 | _=>Unit
def yK(r:Int):AV:=.int r
def yJ(t:Tpl)(I0:Bool→Prop)(I1:Bool→Int→Prop)(m1:Bool→Int→Nat)(I2:Bool→Int→Bool→Prop)(I3:Bool→Int→Int→Prop)(m3:Bool→Int→Int→Nat)(I4:Bool→Int→Int→Int→Prop)(m4:Bool→Int→Int→Int→Nat)(I5:Bool→Int→Int→Int→Lnk→Bool→Prop)(I6:Bool→Int→Int→Int→Int→Prop)(m6:Bool→Int→Int→Int→Int→Nat)(I7:Bool→Int→Int→Int→Int→Bool→Prop)(I8:Bool→Int→Int→Int→Int→Int→Prop)(m8:Bool→Int→Int→Int→Int→Int→Nat)(I9:Bool→Int→Int→Int→Int→Int→Int→Prop)(m9:Bool→Int→Int→Int→Int→Int→Int→Nat)(I10:Bool→Int→Int→Int→Int→Int→Int→Lnk→Lnk→Bool→Prop):Ax Tryz.prog GU (Int):=
 (.pass (.pass (.join 0 (L6 t) (λ(t0:Bool)=>I0 t0) (λb0=>(.br 112 (decide (24<((t.rs.map Rtr.v).length:Int))) (.bk 0 b0 ((true):Bool) [0])
(.bk 0 b0 ((decide (60<((t.ls.map Lnk.v).length:Int))):Bool) [0]))) λ(t0:Bool) =>
(.br 1 t0 (.ret (3))
(.loop 1 (L5 t) (I1 t0) (m1 t0) ((0):Int) [0] λ(t1:Int) b1 =>
(.br 81 (decide (t1<((t.rs.map Rtr.v).length:Int))) (.pass (.join 2 (L4 t t1) (λ(t2:Bool)=>I2 t0 t1 t2) (λb2=>(.elI 129 Rtr.v t.rs t1 λx1 =>
(.br 209 (decide (x1.id<1)) (.bk 2 b2 ((true):Bool) [0])
(.elI 257 Rtr.v t.rs t1 λx2 =>
(.bk 2 b2 ((decide (99<x2.id)):Bool) [0]))))) λ(t2:Bool) =>
(.br 1 t2 (.ret (2))
(.bk 1 b1 ((W (t1+1)):Int) [0]))))
(.loop 3 (L3 t) (I3 t0 t1) (m3 t0 t1) ((1):Int) [0] λ(t3:Int) b3 =>
(.br 81 (decide (t3<((t.rs.map Rtr.v).length:Int))) (.elI 145 Rtr.v t.rs (W (t3-1)) λx3 =>
(.elI 241 Rtr.v t.rs t3 λx4 =>
(.br 305 (decide (x4.id≤x3.id)) (.ret (25))
(.bk 3 b3 ((W (t3+1)):Int) [0]))))
(.loop 4 (L2 t) (I4 t0 t1 t3) (m4 t0 t1 t3) ((0):Int) [0] λ(t4:Int) b4 =>
(.br 81 (decide (t4<((t.ls.map Lnk.v).length:Int))) (.elI 129 Lnk.v t.ls t4 λx5 =>
(.join 5 (L1 t t4) (λ(t5:Bool)=>I5 t0 t1 t3 t4 x5 t5) (λb5=>(.callP (lE x5.ca)
(.br 273 (!(dT x5.ca)) (.bk 5 b5 ((true):Bool) [0])
(.callP (lE x5.cb)
(.br 369 (!(dT x5.cb)) (.bk 5 b5 ((true):Bool) [0])
(.br 449 (decide (x5.w<0)) (.bk 5 b5 ((true):Bool) [0])
(.bk 5 b5 ((decide (1000<x5.w)):Bool) [0]))))))) λ(t5:Bool) =>
(.br 1 t5 (.ret (2))
(.bk 4 b4 ((W (t4+1)):Int) [0]))))
(.loop 6 (L0 t) (I6 t0 t1 t3 t4) (m6 t0 t1 t3 t4) ((0):Int) [0] λ(t6:Int) b6 =>
(.br 81 (decide (t6<((t.ls.map Lnk.v).length:Int))) (.pass (.join 7 (Lz t t6) (λ(t7:Bool)=>I7 t0 t1 t3 t4 t6 t7) (λb7=>(.elI 145 Lnk.v t.ls t6 λx6 =>
(.callP (nK t x6.a)
(.br 241 (!(aG t x6.a)) (.bk 7 b7 ((true):Bool) [0])
(.elI 305 Lnk.v t.ls t6 λx7 =>
(.callP (nK t x7.b)
(.bk 7 b7 ((!(aG t x7.b)):Bool) [0]))))))) λ(t7:Bool) =>
(.br 1 t7 (.ret (4))
(.bk 6 b6 ((W (t6+1)):Int) [0]))))
(.loop 8 (Ly t) (I8 t0 t1 t3 t4 t6) (m8 t0 t1 t3 t4 t6) ((0):Int) [0] λ(t8:Int) b8 =>
(.br 81 (decide (t8<((t.ls.map Lnk.v).length:Int))) (.elI 129 Lnk.v t.ls t8 λx8 =>
(.elI 225 Lnk.v t.ls t8 λx9 =>
(.br 289 (decide (x9.b≤x8.a)) (.ret (8))
(.bk 8 b8 ((W (t8+1)):Int) [0]))))
(.loop 9 (Lx t) (I9 t0 t1 t3 t4 t6 t8) (m9 t0 t1 t3 t4 t6 t8) ((1):Int) [0] λ(t9:Int) b9 =>
(.br 81 (decide (t9<((t.ls.map Lnk.v).length:Int))) (.elI 145 Lnk.v t.ls (W (t9-1)) λx10 =>
(.elI 225 Lnk.v t.ls t9 λx11 =>
(.join 10 (GV t t9) (λ(t10:Bool)=>I10 t0 t1 t3 t4 t6 t8 t9 x10 x11 t10) (λb10=>(.br 417 (decide (x11.a<x10.a)) (.bk 10 b10 ((true):Bool) [0])
(.br 513 (x10.a==x11.a) (.bk 10 b10 ((decide (x11.b≤x10.b)):Bool) [0])
(.bk 10 b10 ((false):Bool) [0])))) λ(t10:Bool) =>
(.br 1 t10 (.ret (25))
(.bk 9 b9 ((W (t9+1)):Int) [0])))))
(.ret (0))))))))))))))))))
def Ca(t:Tpl)(I0:Bool→Prop)(I1:Bool→Int→Prop)(m1:Bool→Int→Nat)(I2:Bool→Int→Bool→Prop)(I3:Bool→Int→Int→Prop)(m3:Bool→Int→Int→Nat)(I4:Bool→Int→Int→Int→Prop)(m4:Bool→Int→Int→Int→Nat)(I5:Bool→Int→Int→Int→Lnk→Bool→Prop)(I6:Bool→Int→Int→Int→Int→Prop)(m6:Bool→Int→Int→Int→Int→Nat)(I7:Bool→Int→Int→Int→Int→Bool→Prop)(I8:Bool→Int→Int→Int→Int→Int→Prop)(m8:Bool→Int→Int→Int→Int→Int→Nat)(I9:Bool→Int→Int→Int→Int→Int→Int→Prop)(m9:Bool→Int→Int→Int→Int→Int→Int→Nat)(I10:Bool→Int→Int→Int→Int→Int→Int→Lnk→Lnk→Bool→Prop)(r0:Int):=(yJ t I0 I1 m1 I2 I3 m3 I4 m4 I5 I6 m6 I7 I8 m8 I9 m9 I10).vp yK r0
theorem Qw(t:Tpl)(ok:GY t):∃I0 I1 m1 I2 I3 m3 I4 m4 I5 I6 m6 I7 I8 m8 I9 m9 I10,Ca t I0 I1 m1 I2 I3 m3 I4 m4 I5 I6 m6 I7 I8 m8 I9 m9 I10 (aD t):=by
 refine⟨λb=>b=decide (24<t.rs.length∨60<t.ls.length),λ_ i=>bi t.rs (λx=>1≤x.id∧x.id≤99) i,λ_ i=>t.rs.length-i.toNat,
  λ_ i b=>∀x,t.rs[i.toNat]?=some x→b=decide (¬(1≤x.id∧x.id≤99)),λ_ _ i=>iX t.rs (λx y=>x.id<y.id) i,λ_ _ i=>t.rs.length+1-i.toNat,
  λ_ _ _ i=>bi t.ls fO i,λ_ _ _ i=>t.ls.length-i.toNat,λ_ _ _ _ l b=>b=decide (¬fO l),λ_ _ _ _ i=>bi t.ls (λl=>aG t l.a=true∧aG t l.b=true) i,λ_ _ _ _ i=>t.ls.length-i.toNat,
  λ_ _ _ _ i b=>∀l,t.ls[i.toNat]?=some l→b=decide (¬(aG t l.a=true∧aG t l.b=true)),λ_ _ _ _ _ i=>bi t.ls (λl=>l.a<l.b) i,λ_ _ _ _ _ i=>t.ls.length-i.toNat,
  λ_ _ _ _ _ _ i=>iX t.ls aQ i,λ_ _ _ _ _ _ i=>t.ls.length+1-i.toNat,λ_ _ _ _ _ _ _ x y b=>b=decide (¬aQ x y),?_⟩
 simp only[GY,okU,Blk.ok,aL,List.length_map]at ok
 dsimp only[Ca,yJ,GU,Ax.vp,Ax.vc];simp only[vcU,rfU,List.length_map]
 refine⟨⟨λc=>(decide_eq_true (.inl (by omega))).symm,λc=>decide_eq_decide.mpr (by omega)⟩,?_⟩
 rintro _ rfl
 unfold aD
 refine⟨λc=>by rw[if_pos (of_decide_eq_true c)],λc=>⟨bi.zero,λi1 h1=>⟨λd=>⟨⟨h1.idx,d,λx hx=>⟨λe y hy=>?_,λe=>⟨h1.idx,d,λy hy z hz=>?_⟩⟩⟩,?_⟩,λd=>?_⟩⟩⟩
 ·rw[hx]at hy;cases hy;exact(decide_eq_true (by omega)).symm
 ·rw[hx]at hy;cases hy;rw[hx]at hz;cases hz;exact decide_eq_decide.mpr (by omega)
 ·have c:=of_decide_eq_false c
  have hx:=List.getElem?_eq_getElem (show i1.toNat<t.rs.length by have:=h1.idx;omega)
  intro b hb
  have hb:=hb _ hx
  subst hb
  refine⟨λe=>?_,λe=>h1.step (by omega) hx (Classical.not_not.mp (of_decide_eq_false e))⟩
  rw[if_neg c,if_pos λq=>of_decide_eq_true e (q _ (cB hx))]
 have c:=of_decide_eq_false c
 rw[if_neg c,if_neg (not_not_intro (h1.done d))]
 refine⟨iX.one,λi2 h2=>⟨λd2=>?_,λd2=>?_⟩⟩
 ·obtain⟨a1,a2⟩:=h2.idx (by omega) d2
  refine⟨a1.1,a1.2,λx hx=>⟨a2,d2,λy hy=>⟨λe=>?_,λe=>h2.step (by omega) hx hy (by omega)⟩⟩⟩
  rw[if_pos (h2.bad (by omega) hx hy (by omega))]
 rw[if_neg (not_not_intro (h2.done d2 λ_ _ _ q r=>Int.lt_trans q r))]
 refine⟨bi.zero,λi3 h3=>⟨λd3=>⟨h3.idx,d3,λx hx=>⟨⟨λe=>?_,λe=>⟨λe2=>?_,λe2=>⟨λe3=>?_,λe3=>?_⟩⟩⟩,?_⟩⟩,λd3=>?_⟩⟩
 ·exact(decide_eq_true (show ¬fO x from λq=>by rw[q.1]at e;cases e)).symm
 ·exact(decide_eq_true (show ¬fO x from λq=>by rw[q.2.1]at e2;cases e2)).symm
 ·exact(decide_eq_true (show ¬fO x from λq=>by have:=q.2.2.1;omega)).symm
 ·have e:dT x.ca=true:=by simpa using e
  have e2:dT x.cb=true:=by simpa using e2
  refine decide_eq_decide.mpr ⟨λq r=>by have:=r.2.2.2;omega,λq=>?_⟩
  exact Classical.byContradiction λr=>q ⟨e,e2,by omega,by omega⟩
 ·rintro _ rfl
  refine⟨λe=>?_,λe=>h3.step (by omega) hx (Classical.not_not.mp (of_decide_eq_false e))⟩
  rw[if_pos λq=>of_decide_eq_true e (q _ (cB hx))]
 rw[if_neg (not_not_intro (h3.done d3))]
 refine⟨bi.zero,λi4 h4=>⟨λd4=>⟨⟨h4.idx,d4,λx hx=>⟨λe y hy=>?_,λe=>⟨h4.idx,d4,λy hy z hz=>?_⟩⟩⟩,?_⟩,λd4=>?_⟩⟩
 ·rw[hx]at hy;cases hy
  exact(decide_eq_true (show ¬(aG t x.a=true∧aG t x.b=true)from λq=>by rw[q.1]at e;cases e)).symm
 ·rw[hx]at hy;cases hy;rw[hx]at hz;cases hz
  have e:aG t x.a=true:=by simpa using e
  cases q:aG t x.b<;>simp[e]
 ·have hx:=List.getElem?_eq_getElem (show i4.toNat<t.ls.length by have:=h4.idx;omega)
  intro b hb
  have hb:=hb _ hx
  subst hb
  refine⟨λe=>?_,λe=>h4.step (by omega) hx (Classical.not_not.mp (of_decide_eq_false e))⟩
  rw[if_pos λq=>of_decide_eq_true e (q _ (cB hx))]
 rw[if_neg (not_not_intro (h4.done d4))]
 refine⟨bi.zero,λi5 h5=>⟨λd5=>⟨h5.idx,d5,λx hx=>⟨h5.idx,d5,λy hy=>?_⟩⟩,λd5=>?_⟩⟩
 ·rw[hx]at hy;cases hy
  refine⟨λe=>?_,λe=>h5.step (by omega) hx (by omega)⟩
  rw[if_pos λq=>by have:=q _ (cB hx);omega]
 rw[if_neg (not_not_intro (h5.done d5))]
 refine⟨iX.one,λi6 h6=>⟨λd6=>?_,λd6=>?_⟩⟩
 ·obtain⟨a1,a2⟩:=h6.idx (by omega) d6
  refine⟨a1.1,a1.2,λx hx=>⟨a2,d6,λy hy=>⟨⟨λe=>?_,λe=>⟨λe2=>?_,λe2=>?_⟩⟩,?_⟩⟩⟩
  ·exact(decide_eq_true (show ¬aQ x y from λq=>by unfold aQ at q;omega)).symm
  ·have e2:=eq_of_beq e2
   exact decide_eq_decide.mpr (by unfold aQ;omega)
  ·have e2:¬x.a=y.a:=by simpa using e2
   exact(decide_eq_false (not_not_intro (.inl (by omega)))).symm
  ·rintro _ rfl
   refine⟨λe=>?_,λe=>h6.step (by omega) hx hy (Classical.not_not.mp (of_decide_eq_false e))⟩
   rw[if_pos (h6.bad (by omega) hx hy (of_decide_eq_true e))]
 ·rw[if_neg (not_not_intro (h6.done d6 λ_ _ _ q r=>by unfold aQ at *;omega))]
def oj(t:Tpl):PC Tryz.prog:=⟨58,[(.a [(.s 2),(.s 5)])],[.agg [.sl 2 (t.rs.map Rtr.v) false,.sl 5 (t.ls.map Lnk.v) false]],yK (aD t),ax.of_ok λok=>(Qw t ok).elim λI0 h=>h.elim λI1 h=>h.elim λm1 h=>h.elim λI2 h=>h.elim λI3 h=>h.elim λm3 h=>h.elim λI4 h=>h.elim λm4 h=>h.elim λI5 h=>h.elim λI6 h=>h.elim λm6 h=>h.elim λI7 h=>h.elim λI8 h=>h.elim λm8 h=>h.elim λI9 h=>h.elim λm9 h=>h.elim λI10 h=>aw (sh:=.k) (enc:=yK) (a:=(yJ t I0 I1 m1 I2 I3 m3 I4 m4 I5 I6 m6 I7 I8 m8 I9 m9 I10).an) h (by kernel_rfl) (AV.pureB_ok rfl),aq (by kernel_rfl)⟩
def fX(f g:Int)(l:Lnk):Bool:=(l.a==f && l.b==g) || (l.b==f && l.a==g)
def be(t:Tpl)(f g:Int):Int×Bool:=match t.ls.find? (fX f g)with
 | some l=>(if(l.a==f && l.b==g)=true then l.ca else l.cb,true)
 | none=>(0,false)
def EF(t:Tpl)(from_:Int)(to_:Int):=okL [.agg [.sl 2 (t.rs.map Rtr.v) false,.sl 5 (t.ls.map Lnk.v) false],.int from_,.int to_]
def Jy(t:Tpl)(from_:Int)(to_:Int)(t0:Int):NF:=⟨[(1,.k,.int from_),(2,.k,.int to_),(3,.k,.ref 0 0),(8,.k,.int t0)],[.box (.agg [.sl 2 (t.rs.map Rtr.v) false,.sl 5 (t.ls.map Lnk.v) false])]⟩
def Jx(t:Tpl)(from_:Int)(to_:Int)(t0:Int)(x1:Lnk)(t1:Bool):NF:=⟨[(1,.k,.int from_),(2,.k,.int to_),(3,.k,.ref 0 0),(8,.k,.int t0),(9,.k,.ref 1 0),(31,.k,.bool t1)],[.box (.agg [.sl 2 (t.rs.map Rtr.v) false,.sl 5 (t.ls.map Lnk.v) false]),.box (.agg [.int x1.a,.int x1.b,.int x1.ca,.int x1.cb,.int x1.w])]⟩
def Jw(t:Tpl)(from_:Int)(to_:Int)(t0:Int)(x1:Lnk)(t2:Bool):NF:=⟨[(1,.k,.int from_),(2,.k,.int to_),(3,.k,.ref 0 0),(8,.k,.int t0),(9,.k,.ref 1 0),(43,.k,.bool t2)],[.box (.agg [.sl 2 (t.rs.map Rtr.v) false,.sl 5 (t.ls.map Lnk.v) false]),.box (.agg [.int x1.a,.int x1.b,.int x1.ca,.int x1.cb,.int x1.w])]⟩
@[reducible] def EE:Nat→Type
 | 0=>Int
 | 1=>Bool
 | 2=>Bool
 | _=>Unit
def ws(r:Int×Bool):AV:=.tup [.int r.1,.bool r.2]
def wq(t:Tpl)(from_:Int)(to_:Int)(I0:Int→Prop)(m0:Int→Nat)(I1:Int→Lnk→Bool→Prop)(I2:Int→Lnk→Bool→Bool→Prop):Ax Tryz.prog EE (Int×Bool):=
 (.loop 0 (Jy t from_ to_) I0 m0 ((0):Int) [0] λ(t0:Int) b0 =>
(.br 81 (decide (t0<((t.ls.map Lnk.v).length:Int))) (.elI 129 Lnk.v t.ls t0 λx1 =>
(.pass (.join 1 (Jx t from_ to_ t0 x1) (λ(t1:Bool)=>I1 t0 x1 t1) (λb1=>(.br 273 (x1.a==from_) (.bk 1 b1 ((x1.b==to_):Bool) [0,161])
(.bk 1 b1 ((false):Bool) [0,161]))) λ(t1:Bool) =>
(.br 2 t1 (.ret (x1.ca,true))
(.join 2 (Jw t from_ to_ t0 x1) (λ(t2:Bool)=>I2 t0 x1 t1 t2) (λb2=>(.br 82 (x1.b==from_) (.bk 2 b2 ((x1.a==to_):Bool) [0,1])
(.bk 2 b2 ((false):Bool) [0,1]))) λ(t2:Bool) =>
(.br 2 t2 (.ret (x1.cb,true))
(.bk 0 b0 ((W (t0+1)):Int) [0])))))))
(.ret (0,false))))
def Ao(t:Tpl)(from_:Int)(to_:Int)(I0:Int→Prop)(m0:Int→Nat)(I1:Int→Lnk→Bool→Prop)(I2:Int→Lnk→Bool→Bool→Prop)(r0:Int×Bool):=(wq t from_ to_ I0 m0 I1 I2).vp ws r0
theorem NY(t:Tpl)(f g:Int)(ok:EF t f g):∃I0 m0 I1 I2,Ao t f g I0 m0 I1 I2 (be t f g):=by
 refine⟨λi=>bi t.ls (λl=>fX f g l=false) i,λi=>t.ls.length-i.toNat,λ_ l b=>b=(l.a==f && l.b==g),λ_ l _ b=>b=(l.b==f && l.a==g),?_⟩
 simp only[EF,okU,Blk.ok,aL,List.length_map]at ok
 dsimp only[Ao,wq,EE,Ax.vp,Ax.vc];simp only[vcU,rfU,List.length_map]
 refine⟨bi.zero,λi h=>⟨λc=>⟨h.idx,c,λx hx=>⟨⟨λe=>by rw[e];rfl,λe=>by rw[e];rfl⟩,?_⟩⟩,λc=>?_⟩⟩
 ·rintro _ rfl
  refine⟨λe=>?_,λe=>⟨⟨λe2=>by rw[e2];rfl,λe2=>by rw[e2];rfl⟩,?_⟩⟩
  ·rw[be,mw h hx (by rw[fX,e];rfl)]
   simp only;rw[if_pos e]
  ·rintro _ rfl
   refine⟨λe2=>?_,λe2=>h.step (by omega) hx (by rw[fX,e,e2];rfl)⟩
   rw[be,mw h hx (by rw[fX,e2,Bool.or_true])]
   simp only;rw[if_neg (by rw[e];simp)]
 ·rw[be,rp h c]
def wu(t:Tpl)(from_:Int)(to_:Int):PC Tryz.prog:=⟨53,[(.a [(.s 2),(.s 5)]),.k,.k],[.agg [.sl 2 (t.rs.map Rtr.v) false,.sl 5 (t.ls.map Lnk.v) false],.int from_,.int to_],ws (be t from_ to_),ax.of_ok λok=>(NY t from_ to_ ok).elim λI0 h=>h.elim λm0 h=>h.elim λI1 h=>h.elim λI2 h=>aw (sh:=.k) (enc:=ws) (a:=(wq t from_ to_ I0 m0 I1 I2).an) h (by kernel_rfl) (AV.pureB_ok rfl),aq (by kernel_rfl)⟩
def j9(t:Tpl)(r:Int):List Int:=t.rs.flatMap λx=>if(be t r x.id).2=true then [x.id]else []
def O6(t:Tpl)(r:Int):=okL [.agg [.sl 2 (t.rs.map Rtr.v) false,.sl 5 (t.ls.map Lnk.v) false],.int r]
def JP(t:Tpl)(r:Int)(t0:Int×List Int):NF:=⟨[(1,.k,.int r),(2,.k,.ref 0 0),(5,.k,.vec 1),(6,.k,.int t0.1)],[.box (.agg [.sl 2 (t.rs.map Rtr.v) false,.sl 5 (t.ls.map Lnk.v) false]),.vec 1 (t0.2.map AV.int) (ae (λ_=>rfl) t0.2)]⟩
@[reducible] def Fn:Nat→Type
 | 0=>Int×List Int
 | _=>Unit
def wT(r:List Int):AV:=.sl 1 (r.map AV.int) false
def wS(t:Tpl)(r:Int)(I0:(Int×List Int)→Prop)(m0:(Int×List Int)→Nat):Ax Tryz.prog Fn ((List Int)):=
 (.cmdL (.nilT 5 1) (.loop 0 (JP t r) I0 m0 (0,[]) [0,64] λ(t0:Int×List Int) b0 =>
(.br 82 (decide (t0.1<((t.rs.map Rtr.v).length:Int))) (.elI 162 Rtr.v t.rs t0.1 λx1 =>
(.callP (wu t r x1.id)
(.br 322 ((be t r x1.id).2) (.elI 386 Rtr.v t.rs t0.1 λx2 =>
(.apX 450 AV.int t0.2 [x2.id] (t0.2.length+1)
(.bk 0 b0 (W (t0.1+1),t0.2++[x2.id]) [0,450])))
(.bk 0 b0 (W (t0.1+1),t0.2) [0,1]))))
(.fz 1 AV.int t0.2 (λ_=>rfl) (.ret (t0.2))))))
def AK(t:Tpl)(r:Int)(I0:(Int×List Int)→Prop)(m0:(Int×List Int)→Nat)(r0:List Int):=(wS t r I0 m0).vp wT r0
theorem O4(t:Tpl)(r:Int)(h:t.rs.length≤1000)(ok:O6 t r):∃I m,AK t r I m (j9 t r):=by
 refine⟨λs=>eK t.rs (λx=>if(be t r x.id).2=true then [x.id]else []) s.1 s.2,λs=>t.rs.length-s.1.toNat,?_⟩
 dsimp only[AK,wS,Fn,Ax.vp,Ax.vc];simp only[vcU,rfU,List.length_map]
 refine⟨eK.zero,?_⟩
 rintro⟨i,out⟩ g
 simp only at g ⊢
 have hl:=g.len (b:=1) λx _=>by split<;>simp
 refine⟨λc=>⟨g.idx,c,λx hx=>?_⟩,λc=>?_⟩
 ·refine⟨λe=>⟨g.idx,c,λy hy=>⟨by omega,?_⟩⟩,λe=>g.step (by omega) hx (by rw[if_neg (by rw[e];simp)];simp)⟩
  rw[hx]at hy;cases hy
  exact g.step (by omega) hx (by rw[if_pos e])
 ·exact g.done c
def O5(t:Tpl)(r:Int)(h:t.rs.length≤1000):PC Tryz.prog:=⟨110,[(.a [(.s 2),(.s 5)]),.k],[.agg [.sl 2 (t.rs.map Rtr.v) false,.sl 5 (t.ls.map Lnk.v) false],.int r],wT (j9 t r),ax.of_ok λok=>(O4 t r h ok).elim λI0 h=>h.elim λm0 h=>aw (sh:=(.s 1)) (enc:=wT) (a:=(wS t r I0 m0).an) h (by kernel_rfl) (AV.pureB_ok rfl),aq (by kernel_rfl)⟩
theorem cd{t:Tpl}(h:aD t=0):t.rs.length≤24∧t.ls.length≤60:=by
 unfold aD at h
 by_cases c:24<t.rs.length∨60<t.ls.length
 ·rw[if_pos c]at h;cases h
 ·omega
def hs5(t:Tpl)(r:Int):Bool:=(aD t==0) && aG t r
def hs5_a(t:Tpl)(r:Int):=okL [.agg [.sl 2 (t.rs.map Rtr.v) false,.sl 5 (t.ls.map Lnk.v) false],.int r]
def FT(r:Bool):AV:=.bool r
def FR(t:Tpl)(r:Int):Ax Tryz.prog noS (Bool):=
 (.callP (oj t)
(.br 96 ((aD t)==0) (.callP (nK t r)
(.ret (aG t r)))
(.ret (false))))
def FS(t:Tpl)(r:Int)(r0:Bool):=(FR t r).vp FT r0
theorem hs5_p(t:Tpl)(r:Int)(ok:hs5_a t r):FS t r (hs5 t r):=by
 dsimp only[FS,FR,noS,Ax.vp,Ax.vc];simp only[vcU,rfU,List.length_map]
 refine⟨λc=>?_,λc=>?_⟩<;>rw[hs5,c]<;>rfl
def MR(t:Tpl)(r:Int):PC Tryz.prog:=⟨74,[(.a [(.s 2),(.s 5)]),.k],[.agg [.sl 2 (t.rs.map Rtr.v) false,.sl 5 (t.ls.map Lnk.v) false],.int r],FT (hs5 t r),ax.of_ok λok=>aw (sh:=.k) (enc:=FT) (a:=(FR t r).an) (hs5_p t r ok) (by kernel_rfl) (AV.pureB_ok rfl),aq (by kernel_rfl)⟩
def bz(t:Tpl)(f g:Int):Int×Bool:=if aD t≠0 then(0,false)else be t f g
theorem MS(i j:Nat)(h:i≤j)(hj:j≤1000000):W ((IntKind.u64.wrap (W ((i:Int)+j))).fdiv 2)=(((i+j) / 2:Nat):Int):=by
 have e1:W ((i:Int)+j)=((i+j:Nat):Int):=dm ⟨by omega,by omega⟩
 rw[e1]
 have e2:IntKind.u64.wrap ((i+j:Nat):Int)=((i+j:Nat):Int):=by simp[IntKind.wrap,IntKind.signed,IntKind.bits];omega
 rw[e2,show Int.fdiv ((i+j:Nat):Int) 2=(((i+j) / 2:Nat):Int) by rw[Int.fdiv_eq_ediv_of_nonneg _ (by omega)];rfl]
 exact dm ⟨by omega,by omega⟩
theorem mz(x y:Int):cmpI x y<0↔x<y:=by
 unfold cmpI;split
 ·simp_all
 ·split<;>simp_all
theorem kN(x y:Int):cmpI x y=0↔x=y:=by
 unfold cmpI;split
 ·simp;omega
 ·split
  ·simp;omega
  ·simp;omega
def bsI{α:Type}(lt:α→Bool)(l:List α):Nat→Nat→Nat→Nat
 | 0,i,_=>i
 | f+1,i,j=>if i<j then(match l[(i+j) / 2]? with
  | some x=>if lt x=true then bsI lt l f ((i+j) / 2+1) j else bsI lt l f i ((i+j) / 2)
  | none=>i)else i
theorem gE{α:Type}{lt:α→Bool}{l:List α}:∀{f g i j:Nat},j-i≤f→j-i≤g→bsI lt l f i j=bsI lt l g i j
 | 0,0,i,j,_,_=>rfl
 | 0,g+1,i,j,h,_=>by rw[bsI,bsI,if_neg (by omega)]
 | f+1,0,i,j,_,h=>by rw[bsI,bsI,if_neg (by omega)]
 | f+1,g+1,i,j,h,h'=>by
  rw[bsI,bsI]
  split
  ·split
   ·split
    ·exact gE (by omega) (by omega)
    ·exact gE (by omega) (by omega)
   ·rfl
  ·rfl
def bsP{α:Type}(lt:α→Bool)(l:List α):Nat:=bsI lt l l.length 0 l.length
def bsH{α:Type}(lt eq:α→Bool)(l:List α):Bool:=(l[bsP lt l]?).any eq
theorem kP{α:Type}{lt:α→Bool}{l:List α}(hm:∀(a b:Nat) x y,a<b→l[a]?=some x→l[b]?=some y→lt y=true→lt x=true):∀{f i j:Nat},j-i≤f→i≤j→j≤l.length →
  (∀k x,k<i→l[k]?=some x→lt x=true)→(∀k x,j≤k→l[k]?=some x→lt x=false)→(∀k x,k<bsI lt l f i j→l[k]?=some x→lt x=true)∧(∀k x,bsI lt l f i j≤k→l[k]?=some x→lt x=false)∧bsI lt l f i j≤l.length
 | 0,i,j,h,hij,hj,h1,h2=>by
  obtain rfl:i=j:=by omega
  rw[bsI];exact⟨h1,h2,hj⟩
 | f+1,i,j,h,hij,hj,h1,h2=>by
  rw[bsI]
  by_cases hlt:i<j
  ·have hx:=List.getElem?_eq_getElem (show(i+j) / 2<l.length by omega)
   generalize l[(i+j) / 2]=x at hx
   rw[if_pos hlt,hx]
   by_cases e:lt x=true
   ·simp only[e,if_true]
    refine kP hm (by omega) (by omega) hj (λk y hk hy=>?_) h2
    by_cases e':k=(i+j) / 2
    ·subst e';rw[hx]at hy;cases hy;exact e
    ·exact hm k _ y x (by omega) hy hx e
   ·simp only[e,if_false,Bool.false_eq_true]
    refine kP hm (by omega) (by omega) (by omega) h1 (λk y hk hy=>?_)
    by_cases e':k=(i+j) / 2
    ·subst e';rw[hx]at hy;cases hy;simpa using e
    ·cases q:lt y
     ·rfl
     ·exact absurd (hm _ k x y (by omega) hx hy q) e
  ·obtain rfl:i=j:=by omega
   rw[if_neg hlt];exact⟨h1,h2,hj⟩
theorem Ce{α:Type}{lt eq:α→Bool}{l:List α}(hm:∀(a b:Nat) x y,a<b→l[a]?=some x→l[b]?=some y→lt y=true→lt x=true)(he:∀x,eq x=true→lt x=false)
  (h2:∀(a b:Nat) x y,a<b→l[a]?=some x→l[b]?=some y→eq y=true→lt x=true):(bsH lt eq l=l.any eq)∧∀x∈l,eq x=true→l[bsP lt l]?=some x:=by
 obtain⟨s1,s2,s3⟩:=kP hm (f:=l.length) (i:=0) (j:=l.length) (by omega) (by omega) (Nat.le_refl _) (λk x hk=>by omega) (λk x hk hx=>by have:=ap hx;omega)
 have key:∀x∈l,eq x=true→l[bsP lt l]?=some x:=λx hx e=>by
  obtain⟨k,hk⟩:=List.mem_iff_getElem?.mp hx
  have h3:bsP lt l≤k:=Nat.le_of_not_lt λh=>by
   have:=s1 k x h hk;rw[he x e]at this;cases this
  by_cases e':bsP lt l=k
  ·rw[e'];exact hk
  ·have hl:=ap hk
   have hy:=List.getElem?_eq_getElem (show bsP lt l<l.length by omega)
   have a:=h2 _ k _ x (by omega) hy hk e
   have b:=s2 _ _ (Nat.le_refl _) hy
   rw[a]at b;cases b
 refine⟨?_,key⟩
 rw[Bool.eq_iff_iff,List.any_eq_true,bsH]
 constructor
 ·intro h
  cases q:l[bsP lt l]? with
  | none=>rw[q]at h;cases h
  | some x=>rw[q]at h;exact⟨x,List.mem_of_getElem? q,h⟩
 ·rintro⟨x,hx,e⟩
  rw[key x hx e];exact e
def inT(n a b:Int):Bool:=decide (a≤n) && decide (n≤b)
def inT_a(n:Int)(least:Int)(most:Int):=okL [.int n,.int least,.int most]
def FN(r:Bool):AV:=.bool r
def FK(n:Int)(least:Int)(most:Int):Ax Tryz.prog noS (Bool):=
 (.br 80 (decide (least≤n)) (.ret (decide (n≤most)))
(.ret (false)))
def FL(n:Int)(least:Int)(most:Int)(r0:Bool):=(FK n least most).vp FN r0
theorem inT_p(n a b:Int)(ok:inT_a n a b):FL n a b (inT n a b):=by
 dsimp only[FL,FK,noS,Ax.vp,Ax.vc];simp only[vcU,rfU,List.length_map]
 unfold inT
 exact⟨λh=>by simp[h],λh=>by simp[h]⟩
def oQ(n:Int)(least:Int)(most:Int):PC Tryz.prog:=⟨123,[.k,.k,.k],[.int n,.int least,.int most],FN (inT n least most),ax.of_ok λok=>aw (sh:=.k) (enc:=FN) (a:=(FK n least most).an) (inT_p n least most ok) (by kernel_rfl) (AV.pureB_ok rfl),aq (by kernel_rfl)⟩
def byI(r:Rtr)(id:Int):Int:=cmpI r.id id
def byI_a(r:Rtr)(id:Int):=okL [.agg [.int r.id,.bool r.cap],.int id]
def Hm(r:Int):AV:=.int r
def Hk(r:Rtr)(id:Int):Ax Tryz.prog noS (Int):=
 (.callP (y7 r.id id)
(.ret (cmpI r.id id)))
def Hl(r:Rtr)(id:Int)(r0:Int):=(Hk r id).vp Hm r0
theorem byI_p(r:Rtr)(id:Int)(ok:byI_a r id):Hl r id (byI r id):=by
 dsimp only[Hl,Hk,noS,Ax.vp,Ax.vc];simp only[vcU,rfU,List.length_map]
 rfl
def MV(r:Rtr)(id:Int):PC Tryz.prog:=⟨167,[.k,.k],[.agg [.int r.id,.bool r.cap],.int id],Hm (byI r id),ax.of_ok λok=>aw (sh:=.k) (enc:=Hm) (a:=(Hk r id).an) (byI_p r id ok) (by kernel_rfl) (AV.pureB_ok rfl),aq (by kernel_rfl)⟩
def ltR(r:Int)(x:Rtr):Bool:=decide (x.id<r)
def eqR(r:Int)(x:Rtr):Bool:=x.id==r
def pW(l:List Rtr)(r:Int):Nat:=bsP (ltR r) l
def md(l:List Rtr)(r:Int):Bool:=bsH (ltR r) (eqR r) l
def MY(x:List Rtr)(target:Int):=okL [.sl 2 (x.map Rtr.v) false,.int target,.func 167 []]
def QA(x:List Rtr)(target:Int)(t0:Int×Int):NF:=⟨[(0,.k,.sl 2 (x.map Rtr.v) false),(1,.k,.int target),(2,.k,.func 167 []),(8,.k,.int ((x.map Rtr.v).length:Int)),(9,.k,.int t0.1),(10,.k,.int t0.2)],[]⟩
@[reducible] def MW:Nat→Type
 | 0=>Int×Int
 | _=>Unit
def Hr(r:Int×Bool):AV:=.tup [.int r.1,.bool r.2]
def Ho(x:List Rtr)(target:Int)(I0:(Int×Int)→Prop)(m0:(Int×Int)→Nat):Ax Tryz.prog MW (Int×Bool):=
 (.loop 0 (QA x target) I0 m0 (0,((x.map Rtr.v).length:Int)) [] λ(t0:Int×Int) b0 =>
(.br 48 (decide (t0.1<t0.2)) (.elI 208 Rtr.v x (W (Int.fdiv (IntKind.u64.wrap (W (t0.1+t0.2))) 2)) λx1 =>
(.callP (MV x1 target)
(.br 288 (decide ((byI x1 target)<0)) (.bk 0 b0 (W ((W (Int.fdiv (IntKind.u64.wrap (W (t0.1+t0.2))) 2))+1),t0.2) [])
(.bk 0 b0 (t0.1,W (Int.fdiv (IntKind.u64.wrap (W (t0.1+t0.2))) 2)) []))))
(.br 128 (decide (t0.1<((x.map Rtr.v).length:Int))) (.elI 176 Rtr.v x t0.1 λx2 =>
(.callP (MV x2 target)
(.ret (t0.1,(byI x2 target)==0))))
(.ret (t0.1,false)))))
def Hq(x:List Rtr)(target:Int)(I0:(Int×Int)→Prop)(m0:(Int×Int)→Nat)(r0:Int×Bool):=(Ho x target I0 m0).vp Hr r0
theorem bsR_p(x:List Rtr)(r:Int)(hl:x.length≤1000000)(ok:MY x r):∃I m,Hq x r I m ((pW x r:Int),md x r):=by
  refine⟨λt=>∃i j:Nat,t=((i:Int),(j:Int))∧i≤j∧j≤x.length∧bsI (ltR r) x (j-i) i j=bsP (ltR r) x,λt=>(t.2-t.1).toNat,?_⟩
  simp only[MY,okU,Blk.ok,aL,List.length_map]at ok
  dsimp only[Hq,Ho,MW,Ax.vp,Ax.vc];simp only[vcU,rfU,List.length_map]
  refine⟨⟨0,x.length,rfl,by omega,by omega,rfl⟩,?_⟩
  rintro _ ⟨i,j,rfl,hij,hj,h1⟩
  refine⟨λh3=>?_,λh3=>?_⟩
  ·have h3:i<j:=by simpa using h3
   simp only[MS i j hij (by omega),Int.toNat_natCast]
   obtain⟨d,hd⟩:∃d,j-i=d+1:=⟨j-i-1,by omega⟩
   rw[hd,bsI,if_pos h3]at h1
   refine⟨by omega,by omega,λy hy=>⟨λe=>?_,λe=>?_⟩⟩
   ·rw[hy]at h1
    simp only[show ltR r y=true from decide_eq_true ((mz _ _).mp e),if_true]at h1
    rw[gE (g:=j-((i+j) / 2+1)) (by omega) (by omega)]at h1
    rw[bM (n:=x.length) (by omega) (by omega)]
    exact⟨⟨_,_,rfl,by omega,hj,h1⟩,by omega⟩
   ·rw[hy]at h1
    simp only[show ltR r y=false from decide_eq_false (λq=>e ((mz _ _).mpr q)),if_false,Bool.false_eq_true]at h1
    rw[gE (g:=(i+j) / 2-i) (by omega) (by omega)]at h1
    exact⟨⟨_,_,rfl,by omega,by omega,h1⟩,by omega⟩
  ·have h3:i=j:=by simp at h3;omega
   subst h3
   rw[Nat.sub_self,bsI]at h1
   simp only[Int.toNat_natCast]
   refine⟨λh4=>⟨by omega,by omega,λy hy=>?_⟩,λh4=>?_⟩
   ·unfold pW md bsH
    rw[←h1,hy]
    refine congrArg _ ?_
    show decide _=eqR r y
    rw[Bool.eq_iff_iff,decide_eq_true_iff]
    simp[byI,kN,eqR]
   ·unfold pW md bsH
    rw[←h1,List.getElem?_eq_none (by omega)];rfl
def MX(x:List Rtr)(target:Int)(hl:x.length≤1000000):PC Tryz.prog:=⟨166,[(.s 2),.k,.k],[.sl 2 (x.map Rtr.v) false,.int target,.func 167 []],Hr ((pW x target:Int),md x target),ax.of_ok λok=>(bsR_p x target hl ok).elim λI0 h=>h.elim λm0 h=>aw (sh:=.k) (enc:=Hr) (a:=(Ho x target I0 m0).an) h (by kernel_rfl) (AV.pureB_ok rfl),aq (by kernel_rfl)⟩
def MQ(vals:List Int):=okL [.sl 1 (vals.map AV.int) false]
def Oq(vals:List Int)(t0:Int):NF:=⟨[(3,.k,.int 0),(6,.k,.sl 1 (vals.map AV.int) false),(7,.k,.int ((vals.map AV.int).length:Int)),(8,.k,.int t0)],[]⟩
@[reducible] def MP:Nat→Type
 | 0=>Int
 | _=>Unit
def EZ(r:Int):AV:=.int r
def EX(vals:List Int)(I0:Int→Prop)(m0:Int→Nat):Ax Tryz.prog MP (Int):=
 (.loop 0 (Oq vals) I0 m0 ((0):Int) [] λ(t0:Int) b0 =>
(.br 16 (decide (t0<((vals.map AV.int).length:Int))) (.elI 16 AV.int vals t0 λx1 =>
(.br 112 (x1 != 0) (.ret (x1))
(.bk 0 b0 ((W (t0+1)):Int) [])))
(.ret (0))))
def EY(vals:List Int)(I0:Int→Prop)(m0:Int→Nat)(r0:Int):=(EX vals I0 m0).vp EZ r0
theorem orN_p(vals:List Int)(ok:MQ vals):∃I m,EY vals I m (orI vals):=by
 simp only[MQ,okU,Blk.ok,aL,List.length_map]at ok
 refine⟨λt=>∃k:Nat,t=k∧k≤vals.length∧(vals.take k).all (·==0),λt=>vals.length-t.toNat,?_⟩
 dsimp only[EY,EX,MP,Ax.vp,Ax.vc];simp only[vcU,rfU,List.length_map]
 refine⟨⟨0,rfl,by omega,by simp⟩,?_⟩
 rintro _ ⟨k,rfl,hk,h⟩
 refine⟨λh1=>⟨by omega,by omega,λx hx=>⟨λhn=>?_,λhn=>?_⟩⟩,λh1=>?_⟩
 ·rw[Int.toNat_natCast]at hx
  rw[orI,De h hx (by simpa using hn)];rfl
 ·rw[Int.toNat_natCast]at hx
  have hlt:=ap hx
  rw[bM (n:=vals.length) (by omega) (by omega)]
  refine⟨⟨k+1,rfl,by omega,?_⟩,by omega⟩
  rw[aU hx,List.all_append,h];simpa using hn
 ·rw[List.take_of_length_le (by omega)]at h
  rw[orI,List.find?_eq_none.mpr]
  ·rfl
  ·intro x hx;simpa using List.all_eq_true.mp h x hx
def orN_c(vals:List Int):PC Tryz.prog:=⟨150,[(.s 1)],[.sl 1 (vals.map AV.int) false],EZ (orI vals),ax.of_ok λok=>(orN_p vals ok).elim λI0 h=>h.elim λm0 h=>aw (sh:=.k) (enc:=EZ) (a:=(EX vals I0 m0).an) h (by kernel_rfl) (AV.pureB_ok rfl),aq (by kernel_rfl)⟩
def sd(x y:Lnk):Int:=orI [cmpI x.a y.a,cmpI x.b y.b]
def Qd(a:Lnk)(b:Lnk):=okL [.agg [.int a.a,.int a.b,.int a.ca,.int a.cb,.int a.w],.agg [.int b.a,.int b.b,.int b.ca,.int b.cb,.int b.w]]
def yw(r:Int):AV:=.int r
def yu(a:Lnk)(b:Lnk):Ax Tryz.prog noS (Int):=
 (.callP (y7 a.a b.a)
(.callP (y7 a.b b.b)
(.callP (orN_c [cmpI a.a b.a,cmpI a.b b.b])
(.ret (orI [cmpI a.a b.a,cmpI a.b b.b])))))
def BS(a:Lnk)(b:Lnk)(r0:Int):=(yu a b).vp yw r0
theorem Qc(x y:Lnk)(ok:Qd x y):BS x y (sd x y):=by
 dsimp only[BS,yu,noS,Ax.vp,Ax.vc];simp only[vcU,rfU,List.length_map]
 rfl
def yx(a:Lnk)(b:Lnk):PC Tryz.prog:=⟨121,[.k,.k],[.agg [.int a.a,.int a.b,.int a.ca,.int a.cb,.int a.w],.agg [.int b.a,.int b.b,.int b.ca,.int b.cb,.int b.w]],yw (sd a b),ax.of_ok λok=>aw (sh:=.k) (enc:=yw) (a:=(yu a b).an) (Qc a b ok) (by kernel_rfl) (AV.pureB_ok rfl),aq (by kernel_rfl)⟩
theorem uT(x y:Lnk):sd x y=if x.a=y.a then cmpI x.b y.b else cmpI x.a y.a:=by
 unfold sd orI
 by_cases e:x.a=y.a
 ·rw[if_pos e,(kN _ _).mpr e]
  by_cases e2:cmpI x.b y.b=0
  ·simp[e2]
  ·simp[e2]
 ·have:cmpI x.a y.a≠0:=λh=>e ((kN _ _).mp h)
  rw[if_neg e];simp[this]
theorem my(x y:Lnk):sd x y<0↔aQ x y:=by
 rw[uT];unfold aQ
 split
 ·rw[mz];omega
 ·rw[mz];omega
theorem Li(x y:Lnk):sd x y=0↔x.a=y.a∧x.b=y.b:=by
 rw[uT]
 split
 ·rw[kN];omega
 ·rw[kN];omega
def lv(y x:Lnk):Bool:=decide (aQ x y)
def gC(y x:Lnk):Bool:=decide (x.a=y.a∧x.b=y.b)
def aN(l:List Lnk)(y:Lnk):Nat:=bsP (lv y) l
def cp(l:List Lnk)(y:Lnk):Bool:=bsH (lv y) (gC y) l
def Nb(x:List Lnk)(target:Lnk):=okL [.sl 5 (x.map Lnk.v) false,.agg [.int target.a,.int target.b,.int target.ca,.int target.cb,.int target.w],.func 121 []]
def QB(x:List Lnk)(target:Lnk)(t0:Int×Int):NF:=⟨[(0,.k,.sl 5 (x.map Lnk.v) false),(2,.k,.func 121 []),(4,.k,.ref 0 0),(8,.k,.int ((x.map Lnk.v).length:Int)),(9,.k,.int t0.1),(10,.k,.int t0.2)],[.box (.agg [.int target.a,.int target.b,.int target.ca,.int target.cb,.int target.w])]⟩
@[reducible] def MZ:Nat→Type
 | 0=>Int×Int
 | _=>Unit
def Hu(r:Int×Bool):AV:=.tup [.int r.1,.bool r.2]
def Hs(x:List Lnk)(target:Lnk)(I0:(Int×Int)→Prop)(m0:(Int×Int)→Nat):Ax Tryz.prog MZ (Int×Bool):=
 (.loop 0 (QB x target) I0 m0 (0,((x.map Lnk.v).length:Int)) [0] λ(t0:Int×Int) b0 =>
(.br 49 (decide (t0.1<t0.2)) (.elI 209 Lnk.v x (W (Int.fdiv (IntKind.u64.wrap (W (t0.1+t0.2))) 2)) λx1 =>
(.callP (yx x1 target)
(.br 289 (decide ((sd x1 target)<0)) (.bk 0 b0 (W ((W (Int.fdiv (IntKind.u64.wrap (W (t0.1+t0.2))) 2))+1),t0.2) [0])
(.bk 0 b0 (t0.1,W (Int.fdiv (IntKind.u64.wrap (W (t0.1+t0.2))) 2)) [0]))))
(.br 129 (decide (t0.1<((x.map Lnk.v).length:Int))) (.elI 177 Lnk.v x t0.1 λx2 =>
(.callP (yx x2 target)
(.ret (t0.1,(sd x2 target)==0))))
(.ret (t0.1,false)))))
def Ht(x:List Lnk)(target:Lnk)(I0:(Int×Int)→Prop)(m0:(Int×Int)→Nat)(r0:Int×Bool):=(Hs x target I0 m0).vp Hu r0
theorem bsL_p(x:List Lnk)(r:Lnk)(hl:x.length≤1000000)(ok:Nb x r):∃I m,Ht x r I m ((aN x r:Int),cp x r):=by
  refine⟨λt=>∃i j:Nat,t=((i:Int),(j:Int))∧i≤j∧j≤x.length∧bsI (lv r) x (j-i) i j=bsP (lv r) x,λt=>(t.2-t.1).toNat,?_⟩
  simp only[Nb,okU,Blk.ok,aL,List.length_map]at ok
  dsimp only[Ht,Hs,MZ,Ax.vp,Ax.vc];simp only[vcU,rfU,List.length_map]
  refine⟨⟨0,x.length,rfl,by omega,by omega,rfl⟩,?_⟩
  rintro _ ⟨i,j,rfl,hij,hj,h1⟩
  refine⟨λh3=>?_,λh3=>?_⟩
  ·have h3:i<j:=by simpa using h3
   simp only[MS i j hij (by omega),Int.toNat_natCast]
   obtain⟨d,hd⟩:∃d,j-i=d+1:=⟨j-i-1,by omega⟩
   rw[hd,bsI,if_pos h3]at h1
   refine⟨by omega,by omega,λy hy=>⟨λe=>?_,λe=>?_⟩⟩
   ·rw[hy]at h1
    simp only[show lv r y=true from decide_eq_true ((my _ _).mp e),if_true]at h1
    rw[gE (g:=j-((i+j) / 2+1)) (by omega) (by omega)]at h1
    rw[bM (n:=x.length) (by omega) (by omega)]
    exact⟨⟨_,_,rfl,by omega,hj,h1⟩,by omega⟩
   ·rw[hy]at h1
    simp only[show lv r y=false from decide_eq_false (λq=>e ((my _ _).mpr q)),if_false,Bool.false_eq_true]at h1
    rw[gE (g:=(i+j) / 2-i) (by omega) (by omega)]at h1
    exact⟨⟨_,_,rfl,by omega,by omega,h1⟩,by omega⟩
  ·have h3:i=j:=by simp at h3;omega
   subst h3
   rw[Nat.sub_self,bsI]at h1
   simp only[Int.toNat_natCast]
   refine⟨λh4=>⟨by omega,by omega,λy hy=>?_⟩,λh4=>?_⟩
   ·unfold aN cp bsH
    rw[←h1,hy]
    refine congrArg _ ?_
    show decide _=gC r y
    rw[Bool.eq_iff_iff,decide_eq_true_iff]
    simp[Li,gC]
   ·unfold aN cp bsH
    rw[←h1,List.getElem?_eq_none (by omega)];rfl
def Na(x:List Lnk)(target:Lnk)(hl:x.length≤1000000):PC Tryz.prog:=⟨120,[(.s 5),.k,.k],[.sl 5 (x.map Lnk.v) false,.agg [.int target.a,.int target.b,.int target.ca,.int target.cb,.int target.w],.func 121 []],Hu ((aN x target:Int),cp x target),ax.of_ok λok=>(bsL_p x target hl ok).elim λI0 h=>h.elim λm0 h=>aw (sh:=.k) (enc:=Hu) (a:=(Hs x target I0 m0).an) h (by kernel_rfl) (AV.pureB_ok rfl),aq (by kernel_rfl)⟩
def kg(r:Rtr):Bool:=!inT r.id 1 99
def NN(r:Rtr):=okL [.agg [.int r.id,.bool r.cap]]
def wc(r:Bool):AV:=.bool r
def wb(r:Rtr):Ax Tryz.prog noS (Bool):=
 (.callP (oQ r.id 1 99)
(.ret (!(inT r.id 1 99))))
def zX(r:Rtr)(r0:Bool):=(wb r).vp wc r0
theorem NL(r:Rtr)(ok:NN r):zX r (kg r):=by
 dsimp only[zX,wb,noS,Ax.vp,Ax.vc];simp only[vcU,rfU,List.length_map]
 rfl
def NM(r:Rtr):PC Tryz.prog:=⟨164,[.k],[.agg [.int r.id,.bool r.cap]],wc (kg r),ax.of_ok λok=>aw (sh:=.k) (enc:=wc) (a:=(wb r).an) (NL r ok) (by kernel_rfl) (AV.pureB_ok rfl),aq (by kernel_rfl)⟩
def kL(l:Lnk):Bool:=!inT l.ca 1 1000 || (!inT l.cb 1 1000 || !inT l.w 0 1000)
def PS(l:Lnk):=okL [.agg [.int l.a,.int l.b,.int l.ca,.int l.cb,.int l.w]]
def yh(r:Bool):AV:=.bool r
def yg(l:Lnk):Ax Tryz.prog noS (Bool):=
 (.callP (oQ l.ca 1 1000)
(.br 112 (!(inT l.ca 1 1000)) (.ret (true))
(.callP (oQ l.cb 1 1000)
(.br 208 (!(inT l.cb 1 1000)) (.ret (true))
(.callP (oQ l.w 0 1000)
(.ret (!(inT l.w 0 1000))))))))
def BH(l:Lnk)(r0:Bool):=(yg l).vp yh r0
theorem PQ(l:Lnk)(ok:PS l):BH l (kL l):=by
 dsimp only[BH,yg,noS,Ax.vp,Ax.vc];simp only[vcU,rfU,List.length_map]
 unfold kL
 exact⟨λh=>by rw[h];rfl,λh=>⟨λh2=>by rw[h,h2];rfl,λh2=>by rw[h,h2];rfl⟩⟩
def PR(l:Lnk):PC Tryz.prog:=⟨169,[.k],[.agg [.int l.a,.int l.b,.int l.ca,.int l.cb,.int l.w]],yh (kL l),ax.of_ok λok=>aw (sh:=.k) (enc:=yh) (a:=(yg l).an) (PQ l ok) (by kernel_rfl) (AV.pureB_ok rfl),aq (by kernel_rfl)⟩
def lL(l:Lnk):Bool:=decide (l.b≤l.a)
def Rc(l:Lnk):=okL [.agg [.int l.a,.int l.b,.int l.ca,.int l.cb,.int l.w]]
def zl(r:Bool):AV:=.bool r
def zk(l:Lnk):Ax Tryz.prog noS (Bool):=
 (.ret (decide (l.b≤l.a)))
def Cx(l:Lnk)(r0:Bool):=(zk l).vp zl r0
theorem Ra(l:Lnk)(ok:Rc l):Cx l (lL l):=by
 dsimp only[Cx,zk,noS,Ax.vp,Ax.vc];simp only[vcU,rfU,List.length_map]
 rfl
def Rb(l:Lnk):PC Tryz.prog:=⟨171,[.k],[.agg [.int l.a,.int l.b,.int l.ca,.int l.cb,.int l.w]],zl (lL l),ax.of_ok λok=>aw (sh:=.k) (enc:=zl) (a:=(zk l).an) (Ra l ok) (by kernel_rfl) (AV.pureB_ok rfl),aq (by kernel_rfl)⟩
def vE(id:Int)(t:Tpl):Bool:=!md t.rs id
def Nt(id:Int)(t:Tpl):=okL [.int id,.rptr (.agg [.sl 2 (t.rs.map Rtr.v) false,.sl 5 (t.ls.map Lnk.v) false]) 0]
def vD(r:Bool):AV:=.bool r
def vC(id:Int)(t:Tpl):Ax Tryz.prog noS (Bool):=
 (.req 64 (t.rs.length≤1000000) λh1 =>
(.callP (MX t.rs id h1)
(.ret (!(md t.rs id)))))
def zB(id:Int)(t:Tpl)(r0:Bool):=(vC id t).vp vD r0
theorem Ns(id:Int)(t:Tpl)(hl:t.rs.length≤1000000)(ok:Nt id t):zB id t (vE id t):=by
 dsimp only[zB,vC,noS,Ax.vp,Ax.vc];simp only[vcU,rfU,List.length_map]
 exact⟨hl,rfl⟩
def DK(id:Int)(t:Tpl)(hl:t.rs.length≤1000000):PC Tryz.prog:=⟨165,[.k,.k],[.int id,.rptr (.agg [.sl 2 (t.rs.map Rtr.v) false,.sl 5 (t.ls.map Lnk.v) false]) 0],vD (vE id t),ax.of_ok λok=>aw (sh:=.k) (enc:=vD) (a:=(vC id t).an) (Ns id t hl ok) (by kernel_rfl) (AV.pureB_ok rfl),aq (by kernel_rfl)⟩
def im(l:Lnk)(t:Tpl):Bool:=vE l.a t || vE l.b t
def Nr(l:Lnk)(t:Tpl):=okL [.agg [.int l.a,.int l.b,.int l.ca,.int l.cb,.int l.w],.rptr (.func 165 [.rptr (.agg [.sl 2 (t.rs.map Rtr.v) false,.sl 5 (t.ls.map Lnk.v) false]) 0]) 0]
def vB(r:Bool):AV:=.bool r
def vA(l:Lnk)(t:Tpl):Ax Tryz.prog noS (Bool):=
 (.req 80 (t.rs.length≤1000000) λh1 =>
(.callP (DK l.a t h1)
(.br 112 (vE l.a t) (.ret (true))
(.req 160 (t.rs.length≤1000000) λh2 =>
(.callP (DK l.b t h2)
(.ret (vE l.b t)))))))
def z6(l:Lnk)(t:Tpl)(r0:Bool):=(vA l t).vp vB r0
theorem Np(l:Lnk)(t:Tpl)(hl:t.rs.length≤1000000)(ok:Nr l t):z6 l t (im l t):=by
 dsimp only[z6,vA,noS,Ax.vp,Ax.vc];simp only[vcU,rfU,List.length_map]
 exact⟨hl,λh=>by unfold im;rw[h];rfl,λh=>⟨hl,by unfold im;rw[h];rfl⟩⟩
def Nq(l:Lnk)(t:Tpl)(hl:t.rs.length≤1000000):PC Tryz.prog:=⟨170,[.k,.k],[.agg [.int l.a,.int l.b,.int l.ca,.int l.cb,.int l.w],.rptr (.func 165 [.rptr (.agg [.sl 2 (t.rs.map Rtr.v) false,.sl 5 (t.ls.map Lnk.v) false]) 0]) 0],vB (im l t),ax.of_ok λok=>aw (sh:=.k) (enc:=vB) (a:=(vA l t).an) (Np l t hl ok) (by kernel_rfl) (AV.pureB_ok rfl),aq (by kernel_rfl)⟩
def zZ(s:List Rtr):=okL [.sl 2 (s.map Rtr.v) false,.func 164 []]
def Ep(s:List Rtr)(t0:Int):NF:=⟨[(0,.k,.sl 2 (s.map Rtr.v) false),(1,.k,.func 164 []),(7,.k,.int ((s.map Rtr.v).length:Int)),(8,.k,.int t0)],[]⟩
@[reducible] def zY:Nat→Type
 | 0=>Int
 | _=>Unit
def pO(r:Int):AV:=.int r
def pN(s:List Rtr)(I0:Int→Prop)(m0:Int→Nat):Ax Tryz.prog zY (Int):=
 (.loop 0 (Ep s) I0 m0 ((0):Int) [] λ(t0:Int) b0 =>
(.br 16 (decide (t0<((s.map Rtr.v).length:Int))) (.elI 96 Rtr.v s t0 λx1 =>
(.callP (NM x1)
(.br 144 (kg x1) (.ret (t0))
(.bk 0 b0 ((W (t0+1)):Int) []))))
(.ret (-1))))
def sZ(s:List Rtr)(I0:Int→Prop)(m0:Int→Nat)(r0:Int):=(pN s I0 m0).vp pO r0
theorem IZ(s:List Rtr)(ok:zZ s):∃I m,sZ s I m (cM kg s):=by
  refine⟨λt=>bi s (λy=>kg y=false) t,λt=>s.length-t.toNat,?_⟩
  simp only[zZ,okU,Blk.ok,aL,List.length_map]at ok
  dsimp only[sZ,pN,zY,Ax.vp,Ax.vc];simp only[vcU,rfU,List.length_map]
  exact⟨bi.zero,λt h=>⟨λc=>⟨h.idx,c,λx hx=>⟨λq=>h.found hx q,λq=>h.step (by omega) hx q⟩⟩,λc=>h.lost c⟩⟩
def Ja(s:List Rtr):PC Tryz.prog:=⟨177,[(.s 2),.k],[.sl 2 (s.map Rtr.v) false,.func 164 []],pO (cM kg s),ax.of_ok λok=>(IZ s ok).elim λI0 h=>h.elim λm0 h=>aw (sh:=.k) (enc:=pO) (a:=(pN s I0 m0).an) h (by kernel_rfl) (AV.pureB_ok rfl),aq (by kernel_rfl)⟩
def Jd(s:List Rtr):=okL [.sl 2 (s.map Rtr.v) false,.func 164 []]
def pQ(r:Bool):AV:=.bool r
def pP(s:List Rtr):Ax Tryz.prog noS (Bool):=
 (.callP (Ja s)
(.ret (decide (0≤(cM kg s)))))
def ta(s:List Rtr)(r0:Bool):=(pP s).vp pQ r0
theorem Jb(s:List Rtr)(ok:Jd s):ta s (s.any kg):=by
 dsimp only[ta,pP,noS,Ax.vp,Ax.vc];simp only[vcU,rfU,List.length_map]
 exact dQ _ _
def Jc(s:List Rtr):PC Tryz.prog:=⟨163,[(.s 2),.k],[.sl 2 (s.map Rtr.v) false,.func 164 []],pQ (s.any kg),ax.of_ok λok=>aw (sh:=.k) (enc:=pQ) (a:=(pP s).an) (Jb s ok) (by kernel_rfl) (AV.pureB_ok rfl),aq (by kernel_rfl)⟩
def Hg(r:Rtr):Bool:=!r.cap
def BJ(s:List Lnk):=okL [.sl 5 (s.map Lnk.v) false,.func 169 []]
def GD(s:List Lnk)(t0:Int):NF:=⟨[(0,.k,.sl 5 (s.map Lnk.v) false),(1,.k,.func 169 []),(7,.k,.int ((s.map Lnk.v).length:Int)),(8,.k,.int t0)],[]⟩
@[reducible] def BI:Nat→Type
 | 0=>Int
 | _=>Unit
def rR(r:Int):AV:=.int r
def rQ(s:List Lnk)(I0:Int→Prop)(m0:Int→Nat):Ax Tryz.prog BI (Int):=
 (.loop 0 (GD s) I0 m0 ((0):Int) [] λ(t0:Int) b0 =>
(.br 16 (decide (t0<((s.map Lnk.v).length:Int))) (.elI 96 Lnk.v s t0 λx1 =>
(.callP (PR x1)
(.br 144 (kL x1) (.ret (t0))
(.bk 0 b0 ((W (t0+1)):Int) []))))
(.ret (-1))))
def uN(s:List Lnk)(I0:Int→Prop)(m0:Int→Nat)(r0:Int):=(rQ s I0 m0).vp rR r0
theorem KT(s:List Lnk)(ok:BJ s):∃I m,uN s I m (cM kL s):=by
  refine⟨λt=>bi s (λy=>kL y=false) t,λt=>s.length-t.toNat,?_⟩
  simp only[BJ,okU,Blk.ok,aL,List.length_map]at ok
  dsimp only[uN,rQ,BI,Ax.vp,Ax.vc];simp only[vcU,rfU,List.length_map]
  exact⟨bi.zero,λt h=>⟨λc=>⟨h.idx,c,λx hx=>⟨λq=>h.found hx q,λq=>h.step (by omega) hx q⟩⟩,λc=>h.lost c⟩⟩
def KU(s:List Lnk):PC Tryz.prog:=⟨178,[(.s 5),.k],[.sl 5 (s.map Lnk.v) false,.func 169 []],rR (cM kL s),ax.of_ok λok=>(KT s ok).elim λI0 h=>h.elim λm0 h=>aw (sh:=.k) (enc:=rR) (a:=(rQ s I0 m0).an) h (by kernel_rfl) (AV.pureB_ok rfl),aq (by kernel_rfl)⟩
def KY(s:List Lnk):=okL [.sl 5 (s.map Lnk.v) false,.func 169 []]
def rT(r:Bool):AV:=.bool r
def rS(s:List Lnk):Ax Tryz.prog noS (Bool):=
 (.callP (KU s)
(.ret (decide (0≤(cM kL s)))))
def uO(s:List Lnk)(r0:Bool):=(rS s).vp rT r0
theorem KV(s:List Lnk)(ok:KY s):uO s (s.any kL):=by
 dsimp only[uO,rS,noS,Ax.vp,Ax.vc];simp only[vcU,rfU,List.length_map]
 exact dQ _ _
def KW(s:List Lnk):PC Tryz.prog:=⟨168,[(.s 5),.k],[.sl 5 (s.map Lnk.v) false,.func 169 []],rT (s.any kL),ax.of_ok λok=>aw (sh:=.k) (enc:=rT) (a:=(rS s).an) (KV s ok) (by kernel_rfl) (AV.pureB_ok rfl),aq (by kernel_rfl)⟩
def Cz(s:List Lnk):=okL [.sl 5 (s.map Lnk.v) false,.func 171 []]
def HW(s:List Lnk)(t0:Int):NF:=⟨[(0,.k,.sl 5 (s.map Lnk.v) false),(1,.k,.func 171 []),(7,.k,.int ((s.map Lnk.v).length:Int)),(8,.k,.int t0)],[]⟩
@[reducible] def Cy:Nat→Type
 | 0=>Int
 | _=>Unit
def s9(r:Int):AV:=.int r
def s7(s:List Lnk)(I0:Int→Prop)(m0:Int→Nat):Ax Tryz.prog Cy (Int):=
 (.loop 0 (HW s) I0 m0 ((0):Int) [] λ(t0:Int) b0 =>
(.br 16 (decide (t0<((s.map Lnk.v).length:Int))) (.elI 96 Lnk.v s t0 λx1 =>
(.callP (Rb x1)
(.br 144 (lL x1) (.ret (t0))
(.bk 0 b0 ((W (t0+1)):Int) []))))
(.ret (-1))))
def vk(s:List Lnk)(I0:Int→Prop)(m0:Int→Nat)(r0:Int):=(s7 s I0 m0).vp s9 r0
theorem M6(s:List Lnk)(ok:Cz s):∃I m,vk s I m (cM lL s):=by
  refine⟨λt=>bi s (λy=>lL y=false) t,λt=>s.length-t.toNat,?_⟩
  simp only[Cz,okU,Blk.ok,aL,List.length_map]at ok
  dsimp only[vk,s7,Cy,Ax.vp,Ax.vc];simp only[vcU,rfU,List.length_map]
  exact⟨bi.zero,λt h=>⟨λc=>⟨h.idx,c,λx hx=>⟨λq=>h.found hx q,λq=>h.step (by omega) hx q⟩⟩,λc=>h.lost c⟩⟩
def M7(s:List Lnk):PC Tryz.prog:=⟨178,[(.s 5),.k],[.sl 5 (s.map Lnk.v) false,.func 171 []],s9 (cM lL s),ax.of_ok λok=>(M6 s ok).elim λI0 h=>h.elim λm0 h=>aw (sh:=.k) (enc:=s9) (a:=(s7 s I0 m0).an) h (by kernel_rfl) (AV.pureB_ok rfl),aq (by kernel_rfl)⟩
def MA(s:List Lnk):=okL [.sl 5 (s.map Lnk.v) false,.func 171 []]
def sB(r:Bool):AV:=.bool r
def sA(s:List Lnk):Ax Tryz.prog noS (Bool):=
 (.callP (M7 s)
(.ret (decide (0≤(cM lL s)))))
def vl(s:List Lnk)(r0:Bool):=(sA s).vp sB r0
theorem M8(s:List Lnk)(ok:MA s):vl s (s.any lL):=by
 dsimp only[vl,sA,noS,Ax.vp,Ax.vc];simp only[vcU,rfU,List.length_map]
 exact dQ _ _
def M9(s:List Lnk):PC Tryz.prog:=⟨168,[(.s 5),.k],[.sl 5 (s.map Lnk.v) false,.func 171 []],sB (s.any lL),ax.of_ok λok=>aw (sh:=.k) (enc:=sB) (a:=(sA s).an) (M8 s ok) (by kernel_rfl) (AV.pureB_ok rfl),aq (by kernel_rfl)⟩
def z8(s:List Lnk)(f:Tpl):=okL [.sl 5 (s.map Lnk.v) false,.func 170 [.rptr (.func 165 [.rptr (.agg [.sl 2 (f.rs.map Rtr.v) false,.sl 5 (f.ls.map Lnk.v) false]) 0]) 0]]
def DI(s:List Lnk)(f:Tpl)(t0:Int):NF:=⟨[(0,.k,.sl 5 (s.map Lnk.v) false),(1,.k,.func 170 [.rptr (.func 165 [.rptr (.agg [.sl 2 (f.rs.map Rtr.v) false,.sl 5 (f.ls.map Lnk.v) false]) 0]) 0]),(7,.k,.int ((s.map Lnk.v).length:Int)),(8,.k,.int t0)],[]⟩
@[reducible] def z7:Nat→Type
 | 0=>Int
 | _=>Unit
def pB(r:Int):AV:=.int r
def pA(s:List Lnk)(f:Tpl)(I0:Int→Prop)(m0:Int→Nat):Ax Tryz.prog z7 (Int):=
 (.loop 0 (DI s f) I0 m0 ((0):Int) [] λ(t0:Int) b0 =>
(.br 16 (decide (t0<((s.map Lnk.v).length:Int))) (.elI 96 Lnk.v s t0 λx1 =>
(.req 128 (f.rs.length≤1000000) λh2 =>
(.callP (Nq x1 f h2)
(.br 144 (im x1 f) (.ret (t0))
(.bk 0 b0 ((W (t0+1)):Int) [])))))
(.ret (-1))))
def sP(s:List Lnk)(f:Tpl)(I0:Int→Prop)(m0:Int→Nat)(r0:Int):=(pA s f I0 m0).vp pB r0
theorem Io(s:List Lnk)(t:Tpl)(hl:t.rs.length≤1000000)(ok:z8 s t):∃I m,sP s t I m (cM (λy=>im y t) s):=by
 refine⟨λi=>bi s (λy=>im y t=false) i,λi=>s.length-i.toNat,?_⟩
 simp only[z8,okU,Blk.ok,aL,List.length_map]at ok
 dsimp only[sP,pA,z7,Ax.vp,Ax.vc];simp only[vcU,rfU,List.length_map]
 exact⟨bi.zero,λi h=>⟨λc=>⟨h.idx,c,λx hx=>⟨hl,λq=>h.found hx q,λq=>h.step (by omega) hx q⟩⟩,λc=>h.lost c⟩⟩
def Ip(s:List Lnk)(f:Tpl)(hl:f.rs.length≤1000000):PC Tryz.prog:=⟨178,[(.s 5),.k],[.sl 5 (s.map Lnk.v) false,.func 170 [.rptr (.func 165 [.rptr (.agg [.sl 2 (f.rs.map Rtr.v) false,.sl 5 (f.ls.map Lnk.v) false]) 0]) 0]],pB (cM (λy=>im y f) s),ax.of_ok λok=>(Io s f hl ok).elim λI0 h=>h.elim λm0 h=>aw (sh:=.k) (enc:=pB) (a:=(pA s f I0 m0).an) h (by kernel_rfl) (AV.pureB_ok rfl),aq (by kernel_rfl)⟩
def Ir(s:List Lnk)(f:Tpl):=okL [.sl 5 (s.map Lnk.v) false,.func 170 [.rptr (.func 165 [.rptr (.agg [.sl 2 (f.rs.map Rtr.v) false,.sl 5 (f.ls.map Lnk.v) false]) 0]) 0]]
def pD(r:Bool):AV:=.bool r
def pC(s:List Lnk)(f:Tpl):Ax Tryz.prog noS (Bool):=
 (.req 48 (f.rs.length≤1000000) λh1 =>
(.callP (Ip s f h1)
(.ret (decide (0≤(cM (λy=>im y f) s))))))
def sQ(s:List Lnk)(f:Tpl)(r0:Bool):=(pC s f).vp pD r0
theorem Iq(s:List Lnk)(t:Tpl)(hl:t.rs.length≤1000000)(ok:Ir s t):sQ s t (s.any λy=>im y t):=by
 dsimp only[sQ,pC,noS,Ax.vp,Ax.vc];simp only[vcU,rfU,List.length_map]
 exact⟨hl,dQ _ _⟩
def zA(s:List Lnk)(f:Tpl)(hl:f.rs.length≤1000000):PC Tryz.prog:=⟨168,[(.s 5),.k],[.sl 5 (s.map Lnk.v) false,.func 170 [.rptr (.func 165 [.rptr (.agg [.sl 2 (f.rs.map Rtr.v) false,.sl 5 (f.ls.map Lnk.v) false]) 0]) 0]],pD (s.any λy=>im y f),ax.of_ok λok=>aw (sh:=.k) (enc:=pD) (a:=(pC s f).an) (Iq s f hl ok) (by kernel_rfl) (AV.pureB_ok rfl),aq (by kernel_rfl)⟩
theorem dC{α:Type}{l:List α}(hn:l.Nodup){i j:Nat}{x:α}(a:l[i]?=some x)(b:l[j]?=some x):i=j:=by
 have hi:=(List.getElem?_eq_some_iff.mp a).1
 have hj:=(List.getElem?_eq_some_iff.mp b).1
 rw[List.getElem?_eq_getElem hi]at a
 rw[List.getElem?_eq_getElem hj]at b
 exact(List.getElem_inj (h₀:=hi) (h₁:=hj) hn).mp (by rw[Option.some.inj a,Option.some.inj b])
section
variable {α β : Type} [DecidableEq α] {l : List (α × β)} {x y : α} {v z : β} {p : α × β}
theorem aV:x∈av l↔∃v,(x,v)∈l:=by
 unfold av
 rw[List.mem_map]
 exact⟨λ⟨p,h,e⟩=>⟨p.2,by rw[←e];exact h⟩,λ⟨v,h⟩=>⟨_,h,rfl⟩⟩
theorem bY:aY l x=true↔∃v,(x,v)∈l:=by
 unfold aY;rw[decide_eq_true_iff,aV]
theorem gn(h:(av l).Nodup){v w:β}(h1:(x,v)∈l)(h2:(x,w)∈l):v=w:=by
 obtain⟨i,hi⟩:=List.mem_iff_getElem?.mp h1
 obtain⟨j,hj⟩:=List.mem_iff_getElem?.mp h2
 have a:(av l)[i]?=some x:=by rw[av,List.getElem?_map,hi];rfl
 have b:(av l)[j]?=some x:=by rw[av,List.getElem?_map,hj];rfl
 have g:=dC h a b
 subst g;rw[hi]at hj;exact congrArg Prod.snd (Option.some.inj hj)
theorem kz(h:x∈av l):∃v,l[ep l x]?=some (x,v):=by
 have e:l[ep l x]?=some (l[ep l x]'(fw h)):=List.getElem?_eq_getElem (fw h)
 refine⟨(l[ep l x]'(fw h)).2,?_⟩
 rw[e]
 have:=tF h
 exact congrArg some (Prod.ext this rfl)
theorem bI(h:aY l x=true):(x,aB l x z)∈l:=by
 obtain⟨v,e⟩:=kz (of_decide_eq_true h)
 unfold aB;rw[e]
 exact bF e
theorem dD(hn:(av l).Nodup)(h:(x,v)∈l):aB l x z=v:=
 gn hn (bI (bY.mpr ⟨v,h⟩)) h
theorem bV(h:aY l x=false):aB l x z=z:=by
 have h:x ∉ av l:=of_decide_eq_false h
 unfold aB;rw[ml h,List.getElem?_eq_none (Nat.le_refl _)]
theorem AP:aY l x=false↔∀v,(x,v) ∉ l:=by
 rw[←Bool.not_eq_true,bY]
 exact⟨λh v hv=>h ⟨v,hv⟩,λh ⟨v,hv⟩=>h v hv⟩
theorem CO:av (bo l x v)=if x∈av l then av l else av l++[x]:=by
 unfold bo
 by_cases h:x∈av l
 ·rw[if_pos h,if_pos h]
  unfold av at h ⊢
  rw[List.map_set]
  obtain⟨v',e⟩:=kz h
  refine List.ext_getElem? λi=>?_
  rw[List.getElem?_set]
  split
  ·rename_i g;subst g
   rw[if_pos (by rw[List.length_map];exact ap e),List.getElem?_map,e];rfl
  ·rfl
 ·rw[if_neg h,if_neg h];simp[av]
theorem dy(hn:(av l).Nodup):(av (bo l x v)).Nodup:=by
 rw[CO]
 split
 ·exact hn
 ·rename_i h
  exact List.nodup_append.mpr ⟨hn,by simp,λa ha b hb=>by rw[List.mem_singleton.mp hb];rintro rfl;exact h ha⟩
theorem bP(hn:(av l).Nodup):p∈bo l x v↔p=(x,v)∨(p∈l∧p.1≠x):=by
 unfold bo
 by_cases h:x∈av l
 ·rw[if_pos h]
  obtain⟨v',e⟩:=kz h
  constructor
  ·intro hp
   obtain⟨i,hi⟩:=List.mem_iff_getElem?.mp hp
   rw[List.getElem?_set]at hi
   split at hi
   ·split at hi
    ·exact .inl (Option.some.inj hi).symm
    ·cases hi
   ·rename_i g
    refine .inr ⟨bF hi,?_⟩
    rintro rfl
    have a:(av l)[i]?=some p.1:=by rw[av,List.getElem?_map,hi];rfl
    have b:(av l)[ep l p.1]?=some p.1:=by rw[av,List.getElem?_map,e];rfl
    exact g (dC hn a b).symm
  ·rintro(rfl|⟨hp,hne⟩)
   ·exact bF (i:=ep l x) (by rw[List.getElem?_set,if_pos rfl,if_pos (ap e)])
   ·obtain⟨i,hi⟩:=List.mem_iff_getElem?.mp hp
    refine bF (i:=i) ?_
    rw[List.getElem?_set,if_neg]
    ·exact hi
    ·rintro rfl
     rw[e]at hi
     exact hne (congrArg Prod.fst (Option.some.inj hi)).symm
 ·rw[if_neg h,List.mem_append,List.mem_singleton]
  constructor
  ·rintro(hp|hp)
   ·exact .inr ⟨hp,λe=>h (aV.mpr ⟨p.2,by rw[←e];exact hp⟩)⟩
   ·exact .inl hp
  ·rintro(hp|⟨hp,_⟩)
   ·exact .inr hp
   ·exact .inl hp
theorem qG(hn:(av l).Nodup):p∈mdl l x↔p∈l∧p.1≠x:=by
 unfold mdl
 by_cases h:x∈av l
 ·obtain⟨v',e⟩:=kz h
  rw[List.mem_eraseIdx_iff_getElem?]
  constructor
  ·rintro⟨i,hne,hi⟩
   refine⟨bF hi,?_⟩
   rintro rfl
   have a:(av l)[i]?=some p.1:=by rw[av,List.getElem?_map,hi];rfl
   have b:(av l)[ep l p.1]?=some p.1:=by rw[av,List.getElem?_map,e];rfl
   exact hne (dC hn a b)
  ·rintro⟨hp,hne⟩
   obtain⟨i,hi⟩:=List.mem_iff_getElem?.mp hp
   refine⟨i,?_,hi⟩
   rintro rfl
   rw[e]at hi
   exact hne (congrArg Prod.fst (Option.some.inj hi)).symm
 ·rw[ml h,List.eraseIdx_of_length_le (Nat.le_refl _)]
  exact⟨λhp=>⟨hp,λe=>h (aV.mpr ⟨p.2,by rw[←e];exact hp⟩)⟩,λhp=>hp.1⟩
theorem CQ(hn:(av l).Nodup):(av (mdl l x)).Nodup:=by
 unfold mdl av
 rw[bS]
 exact hn.sublist (List.eraseIdx_sublist _ _)
theorem tG(hn:(av l).Nodup):aY (bo l x v) y=(decide (y=x) || aY l y):=by
 rw[Bool.eq_iff_iff,Bool.or_eq_true,decide_eq_true_iff,bY,bY]
 constructor
 ·rintro⟨w,h⟩
  rcases(bP hn).mp h with h|⟨h,_⟩
  ·cases h;exact .inl rfl
  ·exact .inr ⟨w,h⟩
 ·rintro(rfl|⟨w,h⟩)
  ·exact⟨v,(bP hn).mpr (.inl rfl)⟩
  ·by_cases e:y=x
   ·subst e;exact⟨v,(bP hn).mpr (.inl rfl)⟩
   ·exact⟨w,(bP hn).mpr (.inr ⟨h,e⟩)⟩
theorem Fw:(bo l x v).length=if aY l x=true then l.length else l.length+1:=by
 unfold bo aY
 by_cases h:x∈av l
 ·rw[if_pos h,decide_eq_true h,if_pos rfl,List.length_set]
 ·rw[if_neg h,decide_eq_false h];simp
end
structure Stp where
  to:Int
  cost:Int
def Stp.v(x:Stp):AV:=.agg [.int x.to,.int x.cost]
abbrev Lks:=List (Int×List Stp)
abbrev Dis:=List (Int×Int)
def bfr(x b:Int×Int):Prop:=x.2<b.2∨x.2=b.2∧x.1<b.1
instance (x b:Int×Int):Decidable (bfr x b):=by unfold bfr;infer_instance
def LR:Dis→Option (Int×Int)
 | []=>none
 | x::l=>match LR l with
  | none=>some x
  | some b=>if bfr x b then some x else some b
def bst(l:Dis):Int:=match LR l with
 | none=>0
 | some b=>b.1
theorem lH:∀{l:Dis},l≠[]→∃b,LR l=some b∧b∈l∧∀x∈l,¬bfr x b
 | [],h=>absurd rfl h
 | [x],_=>⟨x,rfl,by simp,by simp[bfr]⟩
 | x::y::l,_=>by
  obtain⟨b,h1,h2,h3⟩:=lH (l:=y::l) (by simp)
  rw[LR,h1]
  simp only
  split
  ·rename_i h
   refine⟨x,rfl,by simp,λz hz=>?_⟩
   rcases List.mem_cons.mp hz with rfl|hz
   ·simp[bfr]
   ·have:=h3 z hz
    unfold bfr at *;omega
  ·rename_i h
   refine⟨b,rfl,by simp[h2],λz hz=>?_⟩
   rcases List.mem_cons.mp hz with rfl|hz
   ·exact h
   ·exact h3 z hz
theorem Q9{l:Dis}{b:Int×Int}(h:b∈l)(hb:∀x∈l,¬bfr x b):bst l=b.1:=by
 obtain⟨c,h1,h2,h3⟩:=lH (l:=l) (by rintro rfl;simp at h)
 have e1:=hb c h2
 have e2:=h3 b h
 unfold bst;rw[h1]
 simp only
 unfold bfr at e1 e2;omega
theorem bx{kk:Option Nat}{z:AV}{ok:Bool}{m k:AO}{f:Nat}{ρ:AO→AV}{hp:Hp}:evA (.mget kk z ok m k) f ρ hp=match dI hp (ρ m),(ρ k).key with
    | some (kk',ks,vs),some q=>{ c:=kk'=kk∧q.fits kk,v:=cZ ks vs q z ok }
    | _,_=>.bad:=rfl
def Gt:AC:=.seq (.reg [⟨(some 35),.move (.t 8),none⟩,⟨(some 36),.rng (.t 35),none⟩])
 (.block 2 (.loop (.seq (.reg [⟨(some 37),.nxt (.t 36),none⟩,⟨(some 38),.ext 0 (.t 37),none⟩])
 (.seq (.cond (.t 38) (.skip) (.exit 2))
 (.block 3 (.seq (.reg [⟨(some 39),.ent (.t 36),none⟩,⟨(some 40),.ext 0 (.t 39),none⟩,⟨(some 41),.ext 1 (.t 39),none⟩,⟨(some 10),.move (.t 40),none⟩,⟨(some 11),.move (.t 41),none⟩])
 (.seq (.reg [⟨(some 42),.move (.t 9),none⟩,⟨(some 43),.bin .eql (.t 42) (.c (.val (.int .i64 0))),none⟩,⟨(some 44),.move (.t 43),none⟩,⟨(some 45),.move (.t 11),(some (44,false))⟩,⟨(some 46),.move (.t 8),(some (44,false))⟩,⟨(some 47),.move (.t 9),(some (44,false))⟩,⟨(some 48),.mget none ((.val (.int .i64 0))) false (.t 46) (.t 47),(some (44,false))⟩,⟨(some 49),.bin .lss (.t 45) (.t 48),(some (44,false))⟩,⟨(some 50),.pick (.t 44) (.c (.val (.bool true))) (.t 49),none⟩,⟨(some 51),.move (.t 50),none⟩,⟨(some 52),.move (.t 11),(some (51,false))⟩,⟨(some 53),.move (.t 8),(some (51,false))⟩,⟨(some 54),.move (.t 9),(some (51,false))⟩,⟨(some 55),.mget none ((.val (.int .i64 0))) false (.t 53) (.t 54),(some (51,false))⟩,⟨(some 56),.bin .eql (.t 52) (.t 55),(some (51,false))⟩,⟨(some 57),.move (.t 56),(some (51,false))⟩,⟨(some 58),.move (.t 10),(some (57,true))⟩,⟨(some 59),.move (.t 9),(some (57,true))⟩,⟨(some 60),.bin .lss (.t 58) (.t 59),(some (57,true))⟩,⟨(some 61),.pick (.t 57) (.t 60) (.c (.val (.bool false))),(some (51,false))⟩,⟨(some 62),.pick (.t 51) (.c (.val (.bool true))) (.t 61),none⟩])
 (.cond (.t 62) (.reg [⟨(some 63),.move (.t 10),none⟩,⟨(some 9),.move (.t 63),none⟩]) (.skip)))))))))
abbrev iH(L:Lks):AV:=.mp none (L.map λp=>MK.n p.1) (L.map λp=>(λl=>AV.sl 2 (l.map Stp.v) false) p.2)
abbrev rL(l:Dis):Blk:=.map none (l.map λp=>MK.n p.1) (l.map λp=>AV.int p.2)
def B4(L:Lks)(o l:Dis)(b:Int):NF:=
  ⟨[(0,.k,iH L),(5,.k,.mref 0),(8,.k,.mref 1),(9,.k,.int b)],
   [.map none (o.map λp=>MK.n p.1) (o.map λp=>AV.int p.2) (ae (λ_=>rfl) _),.map none (l.map λp=>MK.n p.1) (l.map λp=>AV.int p.2) (ae (λ_=>rfl) _)]⟩
def P9(L:Lks)(o l:Dis)(st:List Nat)(ck:Nat)(seen:List Nat)(b:Int):S3:=
 ⟨cL [(0,iH L),(5,.mref 0),(8,.mref 1),(9,.int b),(36,.ref 2 0)],hpL 0 [some (rL o),some (.mst none (l.map λp=>MK.n p.1) (l.map λp=>AV.int p.2) st ck),some (.itr 1 st ck seen)],3⟩
def LQ(l:Dis)(st seen:List Nat)(b:Int):Prop:=(seen=[]∧b=0)∨∃(i:Nat) (x:Int×Int) (s:Nat),l[i]?=some x∧st[i]?=some s∧s∈seen∧b=x.1∧∀(j:Nat) (y:Int×Int) (s:Nat),l[j]?=some y→st[j]?=some s→s∈seen→¬bfr y x
def Fc(l:Dis):Prop:=∀x∈l,x.1≠0∧-9223372036854775808≤x.1∧x.1≤9223372036854775807
theorem dst_h(L:Lks)(o l:Dis)(hl:Fc l)(k:Nat):dL Tryz.prog 0 k Gt (B4 L o l 0).st (B4 L o l (bst l)).st:=by
 unfold dL Gt
 show AWP _ 0 k _ _ ⟨cL [(0,iH L),(5,.mref 0),(8,.mref 1),(9,.int 0)],hpL 0 [some (rL o),some (rL l)],2⟩
 refine AWP.open 1 rfl λst ck hs1 hs2 hn hv=>?_
 refine AWP.seq' ?_
 refine AWP.reg' λK hK=>?_
 try simp only[ak,ao,am,eq_self,implies_true,forall_eq_or_imp,forall_eq,Nat.reduceEqDiff,↓reduceIte,Nat.reduceAdd,Nat.reduceLeDiff,Nat.reduceSub,Nat.reduceMul,Nat.reduceLT,Int.reduceBEq,Int.reduceBNe,Int.reduceToNat,Int.reduceLT,Int.reduceLE,Int.reduceAdd,Int.reduceSub,Int.reduceMul,reduceCtorEq]
 refine rz rfl rfl ?_
 try simp only[ak,ao,am,eq_self,implies_true,forall_eq_or_imp,forall_eq,Nat.reduceEqDiff,↓reduceIte,Nat.reduceAdd,Nat.reduceLeDiff,Nat.reduceSub,Nat.reduceMul,Nat.reduceLT,Int.reduceBEq,Int.reduceBNe,Int.reduceToNat,Int.reduceLT,Int.reduceLE,Int.reduceAdd,Int.reduceSub,Int.reduceMul,reduceCtorEq]
 refine hK _ _ _ ?_
 clear hK K
 refine AWP.block ?_
 have hvl:aZ (l.map λp=>AV.int p.2):=aH (ae (v:=λp:Int×Int=>AV.int p.2) (λ_=>rfl) l)
 have hvo:aZ (o.map λp=>AV.int p.2):=aH (ae (v:=λp:Int×Int=>AV.int p.2) (λ_=>rfl) o)
 have rm:∀(π:Nat→Nat) (o:Dis),some (rL o)=some (Blk.ren π (rL o)):=λπ o=>by
  rw[Blk.ren,bc _ (aH (ae (v:=λp:Int×Int=>AV.int p.2) (λ_=>rfl) o))]
 have rs:∀(π:Nat→Nat),some (Blk.mst none (l.map λp=>MK.n p.1) (l.map λp=>AV.int p.2) st ck)=some (Blk.ren π (.mst none (l.map λp=>MK.n p.1) (l.map λp=>AV.int p.2) st ck)):=λπ=>by
  rw[Blk.ren,bc _ hvl]
 have bm:∀o:Dis,Blk.bel 3 (rL o):=λo=>aW (aH (ae (v:=λp:Int×Int=>AV.int p.2) (λ_=>rfl) o))
 have bs:Blk.bel 3 (.mst none (l.map λp=>MK.n p.1) (l.map λp=>AV.int p.2) st ck):=aW hvl
 rw[List.length_map]at hs2
 refine AWP.loopS (λt:List Nat×Int=>P9 L o l st ck t.1 t.2) (λt=>LQ l st t.1 t.2∧t.1.Nodup∧∀s∈t.1,s∈st) (λt=>st.length-t.1.length) (i0:=([],0)) ⟨.inl ⟨rfl,rfl⟩,by simp,by simp⟩ ?_ ?_
 ·unfold P9
  refine aA.nf [0,1,18] _ _ ?_ ?_ ⟨rfl,rfl⟩ (by decide) (by decide) (by decide)
  ·repeat' (first|exact trivial|exact And.intro rfl trivial|refine And.intro ?_ ?_|rfl|exact Nat.le_of_ble_eq_true rfl|exact rm _ _|exact rs _|exact bm _|exact bs)
  ·repeat' (first|exact trivial|exact And.intro rfl trivial|refine And.intro ?_ ?_|rfl|exact Nat.le_of_ble_eq_true rfl|exact rm _ _|exact rs _|exact bm _|exact bs)
 ·rintro⟨seen,b⟩ ⟨hJ,hnd,hsub⟩
  unfold P9
  refine AWP.seq' ?_
  refine AWP.reg' λK hK=>?_
  try simp only[ak,ao,am,eq_self,implies_true,forall_eq_or_imp,forall_eq,Nat.reduceEqDiff,↓reduceIte,Nat.reduceAdd,Nat.reduceLeDiff,Nat.reduceSub,Nat.reduceMul,Nat.reduceLT,Int.reduceBEq,Int.reduceBNe,Int.reduceToNat,Int.reduceLT,Int.reduceLE,Int.reduceAdd,Int.reduceSub,Int.reduceMul,reduceCtorEq]
  have hk:∀q∈(l.map λp=>MK.n p.1),kOk q:=λq hq=>by
   obtain⟨x,hx,rfl⟩:=List.mem_map.mp hq
   have:=hl x hx
   show inK .i64 x.1
   rw[FP];exact this.2
  refine rA rfl rfl rfl hk (λhs=>?_) (λi q v s0 e1 e2 e3 e4=>?_)
  ·try simp only[ak,ao,am,eq_self,implies_true,forall_eq_or_imp,forall_eq,Nat.reduceEqDiff,↓reduceIte,Nat.reduceAdd,Nat.reduceLeDiff,Nat.reduceSub,Nat.reduceMul,Nat.reduceLT,Int.reduceBEq,Int.reduceBNe,Int.reduceToNat,Int.reduceLT,Int.reduceLE,Int.reduceAdd,Int.reduceSub,Int.reduceMul,reduceCtorEq]
   refine hK _ _ _ ?_
   clear hK K
   have hb:b=bst l:=by
    rcases hJ with⟨h1,h2⟩|⟨i,x,s,g1,g2,g3,g4,g5⟩
    ·have h1:seen=[]:=h1
     subst h1
     have:st=[]:=List.eq_nil_iff_forall_not_mem.mpr λs hs'=>by simpa using hs s hs'
     have:l=[]:=List.eq_nil_of_length_eq_zero (by rw[←hs2,this];rfl)
     subst this;exact h2
    ·have g4:b=x.1:=g4
     rw[g4]
     refine(Q9 (bF g1) λy hy=>?_).symm
     obtain⟨j,hj⟩:=List.mem_iff_getElem?.mp hy
     have hlt:=ap hj
     exact g5 j y (st[j]'(by omega)) hj (List.getElem?_eq_getElem (by omega)) (hs _ (List.getElem_mem _))
   refine AWP.seq' (AWP.cond (b:=false) rfl (λh=>by cases h) (λ_=>AWP.exit ?_))
   show aA 0 k _ ⟨cL [(0,iH L),(5,.mref 0),(8,.mref 1),(9,.int (bst l))],hpL 0 [some (rL o),some (rL l)],2⟩
   rw[←hb]
   refine aA.trans (aA.close 1 rfl) ?_
   have bm:∀o:Dis,Blk.bel 2 (rL o):=λo=>aW (aH (ae (v:=λp:Int×Int=>AV.int p.2) (λ_=>rfl) o))
   refine aA.nf [0,1] _ _ ?_ ?_ ⟨rfl,rfl⟩ (by decide) (by decide) (by decide)
   ·repeat' (first|exact trivial|exact And.intro rfl trivial|refine And.intro ?_ ?_|rfl|exact Nat.le_of_ble_eq_true rfl|exact rm _ _|exact bm _)
   ·repeat' (first|exact trivial|exact And.intro rfl trivial|refine And.intro ?_ ?_|rfl|exact Nat.le_of_ble_eq_true rfl|exact rm _ _|exact bm _)
  ·try simp only[ak,ao,am,eq_self,implies_true,forall_eq_or_imp,forall_eq,Nat.reduceEqDiff,↓reduceIte,Nat.reduceAdd,Nat.reduceLeDiff,Nat.reduceSub,Nat.reduceMul,Nat.reduceLT,Int.reduceBEq,Int.reduceBNe,Int.reduceToNat,Int.reduceLT,Int.reduceLE,Int.reduceAdd,Int.reduceSub,Int.reduceMul,reduceCtorEq]
   refine hK _ _ _ ?_
   clear hK K
   refine AWP.seq' (AWP.cond (b:=true) rfl (λ_=>?_) (λh=>by cases h))
   refine AWP.skip ?_
   refine AWP.block (AWP.seq' ?_)
   rw[List.getElem?_map,Option.map_eq_some_iff]at e1 e2
   obtain⟨x,e1,rfl⟩:=e1
   obtain⟨x',e2,rfl⟩:=e2
   rw[e1]at e2;cases e2
   have e5:(l.map λp=>MK.n p.1)[i]?=some (MK.n x.1):=by rw[List.getElem?_map,e1];rfl
   have e6:(l.map λp=>AV.int p.2)[i]?=some (AV.int x.2):=by rw[List.getElem?_map,e1];rfl
   refine AWP.reg' λK hK=>?_
   try simp only[ak,ao,am,eq_self,implies_true,forall_eq_or_imp,forall_eq,Nat.reduceEqDiff,↓reduceIte,Nat.reduceAdd,Nat.reduceLeDiff,Nat.reduceSub,Nat.reduceMul,Nat.reduceLT,Int.reduceBEq,Int.reduceBNe,Int.reduceToNat,Int.reduceLT,Int.reduceLE,Int.reduceAdd,Int.reduceSub,Int.reduceMul,reduceCtorEq]
   refine rC rfl rfl rfl e3 e5 e6 (hk _ (List.mem_of_getElem? e5)) ?_
   try simp only[ak,ao,am,eq_self,implies_true,forall_eq_or_imp,forall_eq,Nat.reduceEqDiff,↓reduceIte,Nat.reduceAdd,Nat.reduceLeDiff,Nat.reduceSub,Nat.reduceMul,Nat.reduceLT,Int.reduceBEq,Int.reduceBNe,Int.reduceToNat,Int.reduceLT,Int.reduceLE,Int.reduceAdd,Int.reduceSub,Int.reduceMul,reduceCtorEq,kAV]
   refine hK _ _ _ ?_
   clear hK K
   refine AWP.seq' ?_
   have hN:(seen++[s0]).Nodup:=List.nodup_append.mpr ⟨hnd,by simp,λa ha b hb=>by rw[List.mem_singleton.mp hb];rintro rfl;exact e4 ha⟩
   have hS:∀s∈seen++[s0],s∈st:=λs hs=>by
    rcases List.mem_append.mp hs with hs|hs
    ·exact hsub s hs
    ·rw[List.mem_singleton.mp hs];exact List.mem_of_getElem? e3
   have hL:st.length-(seen++[s0]).length<st.length-seen.length:=by
    have:=List.Nodup.length_le_of_subset hN hS
    rw[List.length_append,List.length_singleton]at this ⊢;omega
   have hu:∀{j y},l[j]?=some y→st[j]?=some s0→y=x:=λ{j y} h1 h2=>by
    have:=dC hs1 h2 e3
    subst this;rw[h1]at e1;exact Option.some.inj e1
   have hnew:(∀(j:Nat) (y:Int×Int) (s:Nat),l[j]?=some y→st[j]?=some s→s∈seen→¬bfr y x)→LQ l st (seen++[s0]) x.1:=λh =>
    .inr ⟨i,x,s0,e1,e3,by simp,rfl,λj y s h1 h2 h3=>by
     rcases List.mem_append.mp h3 with h3|h3
     ·exact h j y s h1 h2 h3
     ·rw[List.mem_singleton.mp h3]at h2;rw[hu h1 h2];simp[bfr]⟩
   rcases hJ with⟨h1,h2⟩|⟨i',y,s,g1,g2,g3,g4,g5⟩
   ·have h1:seen=[]:=h1
    have h2:b=0:=h2
    subst h1;subst h2
    have hJ':=hnew (λj y s _ _ h3=>by simp at h3)
    refine AWP.reg' λK hK=>?_
    try simp only[ak,ao,am,eq_self,implies_true,forall_eq_or_imp,forall_eq,Nat.reduceEqDiff,↓reduceIte,Nat.reduceAdd,Nat.reduceLeDiff,Nat.reduceSub,Nat.reduceMul,Nat.reduceLT,Int.reduceBEq,Int.reduceBNe,Int.reduceToNat,Int.reduceLT,Int.reduceLE,Int.reduceAdd,Int.reduceSub,Int.reduceMul,reduceCtorEq]
    refine hK _ _ _ ?_
    clear hK K
    refine AWP.cond (b:=true) rfl (λ_=>?_) (λh=>by cases h)
    refine AWP.reg' λK hK=>?_
    try simp only[ak,ao,am,eq_self,implies_true,forall_eq_or_imp,forall_eq,Nat.reduceEqDiff,↓reduceIte,Nat.reduceAdd,Nat.reduceLeDiff,Nat.reduceSub,Nat.reduceMul,Nat.reduceLT,Int.reduceBEq,Int.reduceBNe,Int.reduceToNat,Int.reduceLT,Int.reduceLE,Int.reduceAdd,Int.reduceSub,Int.reduceMul,reduceCtorEq]
    refine hK _ _ _ ?_
    clear hK K
    refine⟨(_,_),⟨hJ',hN,hS⟩,hL,?_⟩
    refine aA.nf [0,1,2] _ _ ?_ ?_ ⟨rfl,rfl⟩ (by decide) (by decide) (by decide)
    ·repeat' (first|exact trivial|exact And.intro rfl trivial|refine And.intro ?_ ?_|rfl|exact Nat.le_of_ble_eq_true rfl|exact rm _ _|exact rs _|exact bm _|exact bs)
    ·repeat' (first|exact trivial|exact And.intro rfl trivial|refine And.intro ?_ ?_|rfl|exact Nat.le_of_ble_eq_true rfl|exact rm _ _|exact rs _|exact bm _|exact bs)
   ·have g4:b=y.1:=g4
    subst g4
    have hy0:¬y.1=0:=(hl y (bF g1)).1
    have hmg:cZ (l.map λp=>MK.n p.1) (l.map λp=>AV.int p.2) (MK.n y.1) (AV.int 0) false=AV.int y.2:=by
     have hh:aY l y.1=true:=bY.mpr ⟨y.2,bF g1⟩
     have hnk:(av l).Nodup:=by
      have:=nz (l:=l) (kf:=MK.n)
      rw[this]at hn
      exact List.Pairwise.of_map MK.n (λa b h e=>h (congrArg _ e)) hn
     rw[lu (vf:=AV.int) (z:=0) (λ_ _ h=>MK.n.inj h) hh,dD hnk (bF g1)];rfl
    have hy1:(y.1==0)=false:=by simpa using hy0
    have hbt:bfr x y→LQ l st (seen++[s0]) x.1:=λh=>hnew λj z s' h1 h2 h3=>by
     have:=g5 j z s' h1 h2 h3
     unfold bfr at *;omega
    have hbf:¬bfr x y→LQ l st (seen++[s0]) y.1:=λh=>.inr ⟨i',y,s,g1,g2,List.mem_append_left _ g3,rfl,λj z s' h1 h2 h3=>by
     rcases List.mem_append.mp h3 with h3|h3
     ·exact g5 j z s' h1 h2 h3
     ·rw[List.mem_singleton.mp h3]at h2;rw[hu h1 h2];exact h⟩
    by_cases c1:x.2<y.2
    ·refine AWP.reg' λK hK=>?_
     try simp only[ak,ao,am,eq_self,implies_true,forall_eq_or_imp,forall_eq,Nat.reduceEqDiff,↓reduceIte,Nat.reduceAdd,Nat.reduceLeDiff,Nat.reduceSub,Nat.reduceMul,Nat.reduceLT,Int.reduceBEq,Int.reduceBNe,Int.reduceToNat,Int.reduceLT,Int.reduceLE,Int.reduceAdd,Int.reduceSub,Int.reduceMul,reduceCtorEq,hy0,hy1,hmg,bx,dI,AV.key,MK.fits,and_self,true_and,c1]
     refine hK _ _ _ ?_
     clear hK K
     refine AWP.cond (b:=true) rfl (λ_=>?_) (λh=>by cases h)
     refine AWP.reg' λK hK=>?_
     try simp only[ak,ao,am,eq_self,implies_true,forall_eq_or_imp,forall_eq,Nat.reduceEqDiff,↓reduceIte,Nat.reduceAdd,Nat.reduceLeDiff,Nat.reduceSub,Nat.reduceMul,Nat.reduceLT,Int.reduceBEq,Int.reduceBNe,Int.reduceToNat,Int.reduceLT,Int.reduceLE,Int.reduceAdd,Int.reduceSub,Int.reduceMul,reduceCtorEq]
     refine hK _ _ _ ?_
     clear hK K
     refine⟨(_,_),⟨hbt (.inl c1),hN,hS⟩,hL,?_⟩
     refine aA.nf [0,1,2] _ _ ?_ ?_ ⟨rfl,rfl⟩ (by decide) (by decide) (by decide)
     ·repeat' (first|exact trivial|exact And.intro rfl trivial|refine And.intro ?_ ?_|rfl|exact Nat.le_of_ble_eq_true rfl|exact rm _ _|exact rs _|exact bm _|exact bs)
     ·repeat' (first|exact trivial|exact And.intro rfl trivial|refine And.intro ?_ ?_|rfl|exact Nat.le_of_ble_eq_true rfl|exact rm _ _|exact rs _|exact bm _|exact bs)
    ·by_cases c2:x.2=y.2
     ·have c2':(x.2==y.2)=true:=by simpa using c2
      by_cases c3:x.1<y.1
      ·refine AWP.reg' λK hK=>?_
       try simp only[ak,ao,am,eq_self,implies_true,forall_eq_or_imp,forall_eq,Nat.reduceEqDiff,↓reduceIte,Nat.reduceAdd,Nat.reduceLeDiff,Nat.reduceSub,Nat.reduceMul,Nat.reduceLT,Int.reduceBEq,Int.reduceBNe,Int.reduceToNat,Int.reduceLT,Int.reduceLE,Int.reduceAdd,Int.reduceSub,Int.reduceMul,reduceCtorEq,hy0,hy1,hmg,bx,dI,AV.key,MK.fits,and_self,true_and,c1,c2',c3]
       refine hK _ _ _ ?_
       clear hK K
       refine AWP.cond (b:=true) rfl (λ_=>?_) (λh=>by cases h)
       refine AWP.reg' λK hK=>?_
       try simp only[ak,ao,am,eq_self,implies_true,forall_eq_or_imp,forall_eq,Nat.reduceEqDiff,↓reduceIte,Nat.reduceAdd,Nat.reduceLeDiff,Nat.reduceSub,Nat.reduceMul,Nat.reduceLT,Int.reduceBEq,Int.reduceBNe,Int.reduceToNat,Int.reduceLT,Int.reduceLE,Int.reduceAdd,Int.reduceSub,Int.reduceMul,reduceCtorEq]
       refine hK _ _ _ ?_
       clear hK K
       refine⟨(_,_),⟨hbt (.inr ⟨c2,c3⟩),hN,hS⟩,hL,?_⟩
       refine aA.nf [0,1,2] _ _ ?_ ?_ ⟨rfl,rfl⟩ (by decide) (by decide) (by decide)
       ·repeat' (first|exact trivial|exact And.intro rfl trivial|refine And.intro ?_ ?_|rfl|exact Nat.le_of_ble_eq_true rfl|exact rm _ _|exact rs _|exact bm _|exact bs)
       ·repeat' (first|exact trivial|exact And.intro rfl trivial|refine And.intro ?_ ?_|rfl|exact Nat.le_of_ble_eq_true rfl|exact rm _ _|exact rs _|exact bm _|exact bs)
      ·refine AWP.reg' λK hK=>?_
       try simp only[ak,ao,am,eq_self,implies_true,forall_eq_or_imp,forall_eq,Nat.reduceEqDiff,↓reduceIte,Nat.reduceAdd,Nat.reduceLeDiff,Nat.reduceSub,Nat.reduceMul,Nat.reduceLT,Int.reduceBEq,Int.reduceBNe,Int.reduceToNat,Int.reduceLT,Int.reduceLE,Int.reduceAdd,Int.reduceSub,Int.reduceMul,reduceCtorEq,hy0,hy1,hmg,bx,dI,AV.key,MK.fits,and_self,true_and,c1,c2',c3]
       refine hK _ _ _ ?_
       clear hK K
       refine AWP.cond (b:=false) rfl (λh=>by cases h) (λ_=>?_)
       refine AWP.skip ?_
       refine⟨(_,_),⟨hbf (by unfold bfr;omega),hN,hS⟩,hL,?_⟩
       refine aA.nf [0,1,2] _ _ ?_ ?_ ⟨rfl,rfl⟩ (by decide) (by decide) (by decide)
       ·repeat' (first|exact trivial|exact And.intro rfl trivial|refine And.intro ?_ ?_|rfl|exact Nat.le_of_ble_eq_true rfl|exact rm _ _|exact rs _|exact bm _|exact bs)
       ·repeat' (first|exact trivial|exact And.intro rfl trivial|refine And.intro ?_ ?_|rfl|exact Nat.le_of_ble_eq_true rfl|exact rm _ _|exact rs _|exact bm _|exact bs)
     ·have c2':(x.2==y.2)=false:=by simpa using c2
      refine AWP.reg' λK hK=>?_
      try simp only[ak,ao,am,eq_self,implies_true,forall_eq_or_imp,forall_eq,Nat.reduceEqDiff,↓reduceIte,Nat.reduceAdd,Nat.reduceLeDiff,Nat.reduceSub,Nat.reduceMul,Nat.reduceLT,Int.reduceBEq,Int.reduceBNe,Int.reduceToNat,Int.reduceLT,Int.reduceLE,Int.reduceAdd,Int.reduceSub,Int.reduceMul,reduceCtorEq,hy0,hy1,hmg,bx,dI,AV.key,MK.fits,and_self,true_and,c1,c2']
      refine hK _ _ _ ?_
      clear hK K
      refine AWP.cond (b:=false) rfl (λh=>by cases h) (λ_=>?_)
      refine AWP.skip ?_
      refine⟨(_,_),⟨hbf (by unfold bfr;omega),hN,hS⟩,hL,?_⟩
      refine aA.nf [0,1,2] _ _ ?_ ?_ ⟨rfl,rfl⟩ (by decide) (by decide) (by decide)
      ·repeat' (first|exact trivial|exact And.intro rfl trivial|refine And.intro ?_ ?_|rfl|exact Nat.le_of_ble_eq_true rfl|exact rm _ _|exact rs _|exact bm _|exact bs)
      ·repeat' (first|exact trivial|exact And.intro rfl trivial|refine And.intro ?_ ?_|rfl|exact Nat.le_of_ble_eq_true rfl|exact rm _ _|exact rs _|exact bm _|exact bs)
theorem dF.refN{foot:List Nat}{hp:Hp}{b off:Nat}{x y:AV}(hb:b∈foot)(h:hp b=some (.box x))(hv:dF foot hp x y)(hs:y.solid=true):dF foot hp (.ref b off) (.rptr y off):=by
 intro P c A μ fr tm' hp' n a w cv H hh hv'
 obtain⟨hd,e1,e2,rfl⟩:=hv'
 obtain⟨hd',v,ty,f1,f2,f3,f4,f5,f6⟩:=H.box ((hh b hb).trans h)
 rw[e1]at f1;cases f1
 obtain⟨hd',g1,_,g3⟩:=H.blk b _ ((hh b hb).trans h)
 rw[e1]at g1;cases g1
 have q:=hv P c A μ fr tm' hp' n a w v H hh f4
 refine⟨hd.blk,0,v,by simp,.inr ⟨b,_,hd,(hh b hb).trans h,e1,e2,rfl⟩,q,(RV.cells hs q).2,λp u hu=>f6 p u hu⟩
def DH:AC:=.reg [⟨(some 52),.faddr 1 (.t 1),none⟩,⟨(some 53),.load false 1 (.t 52),none⟩,⟨(some 54),.mkf 170 [(.t 4)],none⟩,⟨(some 55),.call (.c (.func 168 [])) [(.t 53),(.t 54)],none⟩,⟨(some 51),.move (.t 55),none⟩]
def MH(t:Tpl):NF:=⟨[(1,.k,.ref 0 0),(4,.k,.ref 1 0)],[.box (Tpl.v t),.box (.func 165 [.ref 0 0])]⟩
def MG(t:Tpl)(b:Bool):NF:=⟨[(1,.k,.ref 0 0),(51,.k,.bool b)],[.box (Tpl.v t)]⟩
theorem unk_h(t:Tpl)(hl:t.rs.length≤1000000)(k:Nat):dL Tryz.prog 0 k DH (MH t).st (MG t (t.ls.any λy=>im y t)).st:=by
 unfold dL DH
 show AWP _ 0 k _ _ ⟨cL [(1,.ref 0 0),(4,.ref 1 0)],hpL 0 [some (.box (Tpl.v t)),some (.box (.func 165 [.ref 0 0]))],2⟩
 refine AWP.reg' λK hK=>?_
 try simp only[ak,ao,am,eq_self,implies_true,forall_eq_or_imp,forall_eq,Nat.reduceEqDiff,↓reduceIte,Nat.reduceAdd,Nat.reduceLeDiff,Nat.reduceSub,Nat.reduceMul,Nat.reduceLT,Int.reduceBEq,Int.reduceBNe,Int.reduceToNat,Int.reduceLT,Int.reduceLE,Int.reduceAdd,Int.reduceSub,Int.reduceMul,reduceCtorEq,Tpl.v]
 refine uv [0,1] (zA t.ls t hl).ok (zA t.ls t hl).fn rfl rfl ⟨dF.pure trivial,dF.func ⟨?_,trivial⟩,trivial⟩ trivial ?_
 ·refine dF.refN (by simp) rfl (dF.func ⟨dF.ref (by simp) rfl ⟨trivial,trivial,trivial⟩,trivial⟩) rfl
 try simp only[ak,ao,am,eq_self,implies_true,forall_eq_or_imp,forall_eq,Nat.reduceEqDiff,↓reduceIte,Nat.reduceAdd,Nat.reduceLeDiff,Nat.reduceSub,Nat.reduceMul,Nat.reduceLT,Int.reduceBEq,Int.reduceBNe,Int.reduceToNat,Int.reduceLT,Int.reduceLE,Int.reduceAdd,Int.reduceSub,Int.reduceMul,reduceCtorEq]
 refine hK _ _ _ ?_
 clear hK K
 refine(show aA 0 k _ ⟨cL [(1,.ref 0 0),(51,.bool (t.ls.any λy=>im y t))],hpL 0 [some (.box (Tpl.v t))],1⟩from ?_)
 refine aA.nf [0] _ _ ?_ ?_ ⟨rfl,rfl⟩ (by decide) (by decide) (by decide)
 ·repeat' (first|exact trivial|exact And.intro rfl trivial|refine And.intro ?_ ?_|rfl|exact Nat.le_of_ble_eq_true rfl)
 ·repeat' (first|exact trivial|exact And.intro rfl trivial|refine And.intro ?_ ?_|rfl|exact Nat.le_of_ble_eq_true rfl)
def ez{α:Type}(l:List α)(R:α→α→Prop)(t:Int):Prop:=∃k:Nat,t=k∧k≤l.length∧∀(j:Nat) x y,j+1<k→l[j]?=some x→l[j+1]?=some y→R x y
section
variable {α : Type} {l : List α} {R : α → α → Prop} {t : Int} {x y : α}
theorem ez.zero:ez l R 0:=⟨0,rfl,by omega,λj x y h=>by omega⟩
theorem ez.idx(h:ez l R t):0≤t:=by obtain⟨k,rfl,_,_⟩:=h;omega
theorem ez.step0(h:ez l R t)(hl:l.length≤1000000)(c:t<l.length)(h0:¬0<t):ez l R (W (t+1))∧l.length-(W (t+1)).toNat<l.length-t.toNat:=by
 obtain⟨k,rfl,hk,ha⟩:=h
 obtain rfl:k=0:=by omega
 rw[bM (n:=l.length) (by omega) (by omega)]
 exact⟨⟨1,rfl,by omega,λj x y hj=>by omega⟩,by omega⟩
theorem ez.step(h:ez l R t)(hl:l.length≤1000000)(h0:0<t)(hx:l[(W (t-1)).toNat]?=some x)(hy:l[t.toNat]?=some y)(p:R x y):ez l R (W (t+1))∧l.length-(W (t+1)).toNat<l.length-t.toNat:=by
 obtain⟨k,rfl,hk,ha⟩:=h
 rw[Int.toNat_natCast]at hy
 have hlt:=ap hy
 rw[jL (by omega) (by omega),Int.toNat_natCast]at hx
 rw[bM (n:=l.length) hlt (by omega)]
 refine⟨⟨k+1,rfl,by omega,λj x' y' hj hx' hy'=>?_⟩,by omega⟩
 by_cases e:j+1=k
 ·subst e
  rw[show j+1-1=j by omega,hx']at hx;cases hx
  rw[hy']at hy;cases hy;exact p
 ·exact ha j x' y' (by omega) hx' hy'
theorem ez.bad(h:ez l R t)(hl:l.length≤1000000)(h0:0<t)(hx:l[(W (t-1)).toNat]?=some x)(hy:l[t.toNat]?=some y)(p:¬R x y):¬l.Pairwise R:=by
 obtain⟨k,rfl,hk,ha⟩:=h
 rw[Int.toNat_natCast]at hy
 have hlt:=ap hy
 rw[jL (by omega) (by omega),Int.toNat_natCast]at hx
 intro hp
 rw[List.pairwise_iff_getElem]at hp
 have:=hp (k-1) k (by omega) hlt (by omega)
 rw[List.getElem?_eq_getElem (by omega)]at hx hy
 rw[Option.some.inj hx,Option.some.inj hy]at this
 exact p this
theorem ez.rng(h:ez l R t)(hl:l.length≤1000000)(h0:0<t)(c:t<l.length):0≤W (t-1)∧W (t-1)<l.length:=by
 obtain⟨k,rfl,hk,ha⟩:=h
 rw[jL (by omega) (by omega)];omega
theorem ez.next(h:ez l R t)(hl:l.length≤1000000)(c:t<l.length){b:Bool}(hb:b=true↔0<t∧∃x y,l[(W (t-1)).toNat]?=some x∧l[t.toNat]?=some y∧¬R x y) :
  (b=true→¬l.Pairwise R)∧(b=false→ez l R (W (t+1))∧l.length-(W (t+1)).toNat<l.length-t.toNat):=by
 refine⟨λe=>?_,λe=>?_⟩
 ·obtain⟨h0,x,y,hx,hy,p⟩:=hb.mp e
  exact h.bad hl h0 hx hy p
 ·by_cases h0:0<t
  ·obtain⟨g1,g2⟩:=h.rng hl h0 c
   have hx:=List.getElem?_eq_getElem (show(W (t-1)).toNat<l.length by omega)
   have hy:=List.getElem?_eq_getElem (show t.toNat<l.length by omega)
   refine h.step hl h0 hx hy (Classical.byContradiction λp=>?_)
   have:=hb.mpr ⟨h0,_,_,hx,hy,p⟩
   rw[e]at this;cases this
  ·exact h.step0 hl c h0
theorem ez.done(h:ez l R t)(c:¬t<l.length)(tr:∀x y z,R x y→R y z→R x z):l.Pairwise R:=by
 obtain⟨k,rfl,hk,ha⟩:=h
 rw[List.pairwise_iff_getElem]
 have key:∀d i,(hi:i+d+1<l.length)→R (l[i]'(by omega)) l[i+d+1]:=by
  intro d
  induction d with
  | zero=>intro i hi;exact ha i _ _ (by omega) (List.getElem?_eq_getElem (by omega)) (List.getElem?_eq_getElem hi)
  | succ d ih =>
   intro i hi
   exact tr _ _ _ (ih i (by omega)) (ha (i+d+1) _ _ (by omega) (List.getElem?_eq_getElem (by omega)) (List.getElem?_eq_getElem hi))
 intro i j hi hj hij
 have:=key (j-i-1) i (by omega)
 simp only[show i+(j-i-1)+1=j by omega]at this
 exact this
end
theorem vg{l:List Rtr}(h:l.Pairwise (λx y=>x.id<y.id)){i j:Nat}(hij:i<j){x y:Rtr}(hx:l[i]?=some x)(hy:l[j]?=some y):x.id<y.id:=by
 have hi:=ap hx
 have hj:=ap hy
 rw[List.getElem?_eq_getElem hi]at hx
 rw[List.getElem?_eq_getElem hj]at hy
 have:=List.pairwise_iff_getElem.mp h i j hi hj hij
 rw[Option.some.inj hx,Option.some.inj hy]at this
 exact this
theorem sY(l:List Rtr):l.any kg=true↔¬∀x∈l,1≤x.id∧x.id≤99:=by
 rw[List.any_eq_true]
 constructor
 ·rintro⟨x,hx,e⟩ h
  have:=h x hx
  simp[kg,inT,this]at e
 ·intro h
  refine Classical.byContradiction λq=>h λx hx=>?_
  have:¬kg x=true:=λe=>q ⟨x,hx,e⟩
  simp[kg,inT]at this
  omega
theorem uM(l:List Lnk):l.any kL=true↔¬∀x∈l,fO x:=by
 rw[List.any_eq_true]
 have key:∀x:Lnk,kL x=true↔¬fO x:=λx=>by
  unfold kL fO inT dT
  simp
  omega
 constructor
 ·rintro⟨x,hx,e⟩ h
  exact(key x).mp e (h x hx)
 ·intro h
  exact Classical.byContradiction λq=>h λx hx=>Classical.byContradiction λr=>q ⟨x,hx,(key x).mpr r⟩
theorem vj(l:List Lnk):l.any lL=true↔¬∀x∈l,x.a<x.b:=by
 rw[List.any_eq_true]
 constructor
 ·rintro⟨x,hx,e⟩ h
  have:=h x hx
  simp[lL]at e;omega
 ·intro h
  exact Classical.byContradiction λq=>h λx hx=>Classical.byContradiction λr=>q ⟨x,hx,by simp[lL];omega⟩
theorem nJ{l:List Rtr}(h:l.Pairwise λx y=>x.id<y.id)(r:Int):(md l r=l.any (eqR r))∧∀x∈l,eqR r x=true→l[pW l r]?=some x:=by
 refine Ce (λa b x y hab hx hy e=>?_) (λx e=>?_) λa b x y hab hx hy e=>?_
 ·have:=vg h hab hx hy
  simp[ltR]at e ⊢;omega
 ·simp[eqR]at e;simp[ltR];omega
 ·have:=vg h hab hx hy
  simp[eqR]at e;simp[ltR];omega
theorem sO{t:Tpl}(h:t.rs.Pairwise λx y=>x.id<y.id):(t.ls.any λy=>im y t)=true↔¬∀l∈t.ls,aG t l.a=true∧aG t l.b=true:=by
 have key:∀l:Lnk,im l t=true↔¬(aG t l.a=true∧aG t l.b=true):=λl=>by
  unfold im vE
  rw[(nJ h l.a).1,(nJ h l.b).1]
  show(!aG t l.a || !aG t l.b)=true↔_
  cases aG t l.a<;>cases aG t l.b<;>simp
 rw[List.any_eq_true]
 constructor
 ·rintro⟨x,hx,e⟩ q
  exact(key x).mp e (q x hx)
 ·intro q
  exact Classical.byContradiction λq2=>q λx hx=>Classical.byContradiction λr=>q2 ⟨x,hx,(key x).mpr r⟩
def GN(t:Tpl):=okL [.agg [.sl 2 (t.rs.map Rtr.v) false,.sl 5 (t.ls.map Lnk.v) false]]
def Ln(t:Tpl)(t0:Bool):NF:=⟨[(1,.k,.ref 0 0),(6,.k,.bool t0)],[.box (.agg [.sl 2 (t.rs.map Rtr.v) false,.sl 5 (t.ls.map Lnk.v) false])]⟩
def Lm(t:Tpl)(t1:Int):NF:=⟨[(1,.k,.ref 0 0),(23,.k,.int ((t.rs.map Rtr.v).length:Int)),(24,.k,.int t1)],[.box (.agg [.sl 2 (t.rs.map Rtr.v) false,.sl 5 (t.ls.map Lnk.v) false])]⟩
def Ll(t:Tpl)(t1:Int)(t2:Bool):NF:=⟨[(1,.k,.ref 0 0),(23,.k,.int ((t.rs.map Rtr.v).length:Int)),(24,.k,.int t1),(44,.k,.bool t2)],[.box (.agg [.sl 2 (t.rs.map Rtr.v) false,.sl 5 (t.ls.map Lnk.v) false])]⟩
def Lk(t:Tpl)(t3:Int):NF:=⟨[(1,.k,.ref 0 0),(62,.k,.int ((t.ls.map Lnk.v).length:Int)),(63,.k,.int t3)],[.box (.agg [.sl 2 (t.rs.map Rtr.v) false,.sl 5 (t.ls.map Lnk.v) false])]⟩
def Lj(t:Tpl)(t3:Int)(t4:Bool):NF:=⟨[(1,.k,.ref 0 0),(62,.k,.int ((t.ls.map Lnk.v).length:Int)),(63,.k,.int t3),(82,.k,.bool t4)],[.box (.agg [.sl 2 (t.rs.map Rtr.v) false,.sl 5 (t.ls.map Lnk.v) false])]⟩
@[reducible] def GL:Nat→Type
 | 0=>Bool
 | 1=>Int
 | 2=>Bool
 | 3=>Int
 | 4=>Bool
 | _=>Unit
def yE(r:Int):AV:=.int r
def yD(t:Tpl)(I0:Bool→Prop)(I1:Bool→Int→Prop)(m1:Bool→Int→Nat)(I2:Bool→Int→Bool→Prop)(I3:Bool→Int→Int→Prop)(m3:Bool→Int→Int→Nat)(I4:Bool→Int→Int→Bool→Prop):Ax Tryz.prog GL (Int):=
 (.pass (.pass (.join 0 (Ln t) (λ(t0:Bool)=>I0 t0) (λb0=>(.br 112 (decide (24<((t.rs.map Rtr.v).length:Int))) (.bk 0 b0 ((true):Bool) [0])
(.bk 0 b0 ((decide (60<((t.ls.map Lnk.v).length:Int))):Bool) [0]))) λ(t0:Bool) =>
(.br 1 t0 (.ret (3))
(.callP (Jc t.rs)
(.br 65 ((t.rs).any kg) (.ret (2))
(.loop 1 (Lm t) (I1 t0) (m1 t0) ((0):Int) [0] λ(t1:Int) b1 =>
(.br 17 (decide (t1<((t.rs.map Rtr.v).length:Int))) (.pass (.pass (.join 2 (Ll t t1) (λ(t2:Bool)=>I2 t0 t1 t2) (λb2=>(.br 97 (decide (0<t1)) (.elI 161 Rtr.v t.rs (W (t1-1)) λx1 =>
(.elI 257 Rtr.v t.rs t1 λx2 =>
(.bk 2 b2 ((decide (x2.id≤x1.id)):Bool) [0])))
(.bk 2 b2 ((false):Bool) [0]))) λ(t2:Bool) =>
(.br 1 t2 (.ret (25))
(.bk 1 b1 ((W (t1+1)):Int) [0])))))
(.callP (KW t.ls)
(.br 129 ((t.ls).any kL) (.ret (2))
(.handQ 0 (MH t) [0,33] ((MG t ((t).ls.any λy=>im y t)).st) DH ((t).rs.length≤1000000) (unk_h t)
(.br 1 (t.ls.any λy=>im y t) (.ret (4))
(.callP (M9 t.ls)
(.br 65 ((t.ls).any lL) (.ret (8))
(.loop 3 (Lk t) (I3 t0 t1) (m3 t0 t1) ((0):Int) [0] λ(t3:Int) b3 =>
(.br 17 (decide (t3<((t.ls.map Lnk.v).length:Int))) (.pass (.pass (.join 4 (Lj t t3) (λ(t4:Bool)=>I4 t0 t1 t3 t4) (λb4=>(.br 97 (decide (0<t3)) (.elI 161 Lnk.v t.ls (W (t3-1)) λx3 =>
(.elI 241 Lnk.v t.ls t3 λx4 =>
(.callP (yx x3 x4)
(.bk 4 b4 ((decide (0≤(sd x3 x4))):Bool) [0]))))
(.bk 4 b4 ((false):Bool) [0]))) λ(t4:Bool) =>
(.br 1 t4 (.ret (25))
(.bk 3 b3 ((W (t3+1)):Int) [0])))))
(.ret (0))))))))))))))))))
def BX(t:Tpl)(I0:Bool→Prop)(I1:Bool→Int→Prop)(m1:Bool→Int→Nat)(I2:Bool→Int→Bool→Prop)(I3:Bool→Int→Int→Prop)(m3:Bool→Int→Int→Nat)(I4:Bool→Int→Int→Bool→Prop)(r0:Int):=(yD t I0 I1 m1 I2 I3 m3 I4).vp yE r0
theorem Qn(t:Tpl)(ok:GN t):∃I0 I1 m1 I2 I3 m3 I4,BX t I0 I1 m1 I2 I3 m3 I4 (aD t):=by
 refine⟨λb=>b=decide (24<t.rs.length∨60<t.ls.length),λ_ i=>ez t.rs (λx y=>x.id<y.id) i,λ_ i=>t.rs.length-i.toNat,
  λ_ i b=>b=true↔0<i∧∃x y,t.rs[(W (i-1)).toNat]?=some x∧t.rs[i.toNat]?=some y∧¬x.id<y.id,λ_ _ i=>ez t.ls aQ i,λ_ _ i=>t.ls.length-i.toNat,
  λ_ _ i b=>b=true↔0<i∧∃x y,t.ls[(W (i-1)).toNat]?=some x∧t.ls[i.toNat]?=some y∧¬aQ x y,?_⟩
 simp only[GN,okU,Blk.ok,aL,List.length_map]at ok
 dsimp only[BX,yD,GL,Ax.vp,Ax.vc];simp only[vcU,rfU,List.length_map]
 refine⟨⟨λc=>(decide_eq_true (.inl (by omega))).symm,λc=>decide_eq_decide.mpr (by omega)⟩,?_⟩
 rintro _ rfl
 unfold aD
 refine⟨λc=>by rw[if_pos (of_decide_eq_true c)],λc=>?_⟩
 have c:=of_decide_eq_false c
 rw[if_neg c]
 refine⟨λd=>by rw[if_pos ((sY _).mp d)],λd=>?_⟩
 have d:∀x∈t.rs,1≤x.id∧x.id≤99:=Classical.byContradiction λq=>by rw[(sY _).mpr q]at d;cases d
 rw[if_neg (not_not_intro d)]
 refine⟨ez.zero,λi h=>⟨λc1=>⟨⟨λh0=>?_,λh0=>?_⟩,λb hb=>?_⟩,λc1=>?_⟩⟩
 ·obtain⟨g1,g2⟩:=h.rng (by omega) h0 c1
  refine⟨g1,g2,λx hx=>⟨h.idx,c1,λy hy=>⟨λe=>⟨h0,x,y,hx,hy,by omega⟩,?_⟩⟩⟩
  rintro⟨_,x',y',hx',hy',p⟩
  rw[hx]at hx';cases hx';rw[hy]at hy';cases hy';omega
 ·exact⟨nofun,λe=>absurd e.1 h0⟩
 ·obtain⟨n1,n2⟩:=h.next (by omega) c1 hb
  exact⟨λe=>by rw[if_pos (n1 e)],n2⟩
 have hP:=h.done c1 λ_ _ _ q r=>Int.lt_trans q r
 rw[if_neg (not_not_intro hP)]
 refine⟨λe=>by rw[if_pos ((uM _).mp e)],λe=>?_⟩
 have e:∀x∈t.ls,fO x:=Classical.byContradiction λq=>by rw[(uM _).mpr q]at e;cases e
 rw[if_neg (not_not_intro e)]
 refine⟨by omega,λf=>by rw[if_pos ((sO hP).mp f)],λf=>?_⟩
 have f:∀l∈t.ls,aG t l.a=true∧aG t l.b=true:=Classical.byContradiction λq=>by rw[(sO hP).mpr q]at f;cases f
 rw[if_neg (not_not_intro f)]
 refine⟨λg=>by rw[if_pos ((vj _).mp g)],λg=>?_⟩
 have g:∀x∈t.ls,x.a<x.b:=Classical.byContradiction λq=>by rw[(vj _).mpr q]at g;cases g
 rw[if_neg (not_not_intro g)]
 refine⟨ez.zero,λi h=>⟨λc1=>⟨⟨λh0=>?_,λh0=>?_⟩,λb hb=>?_⟩,λc1=>?_⟩⟩
 ·obtain⟨g1,g2⟩:=h.rng (by omega) h0 c1
  refine⟨g1,g2,λx hx=>⟨h.idx,c1,λy hy=>⟨λe=>⟨h0,x,y,hx,hy,λq=>by have:=(my x y).mpr q;omega⟩,?_⟩⟩⟩
  rintro⟨_,x',y',hx',hy',p⟩
  rw[hx]at hx';cases hx';rw[hy]at hy';cases hy'
  exact Classical.byContradiction λq=>p ((my x y).mp (by omega))
 ·exact⟨nofun,λe=>absurd e.1 h0⟩
 ·obtain⟨n1,n2⟩:=h.next (by omega) c1 hb
  exact⟨λe=>by rw[if_pos (n1 e)],n2⟩
 ·rw[if_neg (not_not_intro (h.done c1 λ_ _ _ q r=>by unfold aQ at *;omega))]
def GM(t:Tpl):PC Tryz.prog:=⟨149,[(.a [(.s 2),(.s 5)])],[.agg [.sl 2 (t.rs.map Rtr.v) false,.sl 5 (t.ls.map Lnk.v) false]],yE (aD t),ax.of_ok λok=>(Qn t ok).elim λI0 h=>h.elim λI1 h=>h.elim λm1 h=>h.elim λI2 h=>h.elim λI3 h=>h.elim λm3 h=>h.elim λI4 h=>aw (sh:=.k) (enc:=yE) (a:=(yD t I0 I1 m1 I2 I3 m3 I4).an) h (by kernel_rfl) (AV.pureB_ok rfl),aq (by kernel_rfl)⟩
def iu(t:Tpl):Bool:=aD t==0
def Nl(t:Tpl):=okL [.agg [.sl 2 (t.rs.map Rtr.v) false,.sl 5 (t.ls.map Lnk.v) false]]
def v7(r:Bool):AV:=.bool r
def vz(t:Tpl):Ax Tryz.prog noS (Bool):=
 (.callP (GM t)
(.ret ((aD t)==0)))
def zy(t:Tpl)(r0:Bool):=(vz t).vp v7 r0
theorem Nk(t:Tpl)(ok:Nl t):zy t (iu t):=by
 dsimp only[zy,vz,noS,Ax.vp,Ax.vc];simp only[vcU,rfU,List.length_map]
 rfl
def v8(t:Tpl):PC Tryz.prog:=⟨119,[(.a [(.s 2),(.s 5)])],[.agg [.sl 2 (t.rs.map Rtr.v) false,.sl 5 (t.ls.map Lnk.v) false]],v7 (iu t),ax.of_ok λok=>aw (sh:=.k) (enc:=v7) (a:=(vz t).an) (Nk t ok) (by kernel_rfl) (AV.pureB_ok rfl),aq (by kernel_rfl)⟩
def Fr(i:Nat):Nat:=1000+i
theorem pk{i b:Nat}(hb:b<1000):(Fr i=b)=False:=by unfold Fr;simp;omega
theorem bO{i b:Nat}(hb:b<1000):(b=Fr i)=False:=by unfold Fr;simp;omega
theorem il{i b:Nat}(hi:i<1000)(hb:2000≤b):(Fr i=b)=False:=by unfold Fr;simp;omega
theorem sF{i j:Nat}:(Fr i=Fr j)=(i=j):=by unfold Fr;simp
def fm(bs fs:Nat→Nat)(b:Nat):Nat:=if 1000≤b∧b<2000 then fs (b-1000)else bs b
theorem jD{bs fs:Nat→Nat}{i:Nat}(h:i<1000):fm bs fs (Fr i)=fs i:=by unfold fm Fr;rw[if_pos (by omega),show 1000+i-1000=i by omega]
theorem eN{bs fs:Nat→Nat}{b:Nat}(h:b<1000):fm bs fs b=bs b:=if_neg (by omega)
section
variable {ρ : Type} (kk : Nat) (v : ρ → AV)
def GR(rows:List (List ρ))(h:Hp):Hp:=λb=>if 1000≤b∧b<2000 then(rows[b-1000]?).map (λr=>Blk.vec kk (r.map v))else h b
variable {kk v}
theorem lZ{rows:List (List ρ)}{h:Hp}{b:Nat}(hb:b<1000):GR kk v rows h b=h b:=if_neg (by omega)
theorem ic{rows:List (List ρ)}{h:Hp}{i:Nat}{r:List ρ}(hr:rows[i]?=some r)(hl:rows.length≤1000):GR kk v rows h (Fr i)=some (.vec kk (r.map v)):=by
 have:i<rows.length:=(List.getElem?_eq_some_iff.mp hr).1
 unfold GR Fr
 rw[if_pos (by omega),show 1000+i-1000=i by omega,hr];rfl
theorem aA.nfR(hpu:∀x,(v x).pureB=true){k n:Nat}{tm:Nat→AV}{hp:Hp}{nx:Nat}(rows:List (List ρ))(ts:List (Nat×AV))(hs:List (Option Blk))(bs fs:Nat→Nat)
    (hT:∀p∈ts,tm p.1=p.2.ren (fm bs fs)∧p.2.bel 2000) (hH:∀i x,hs[i]?=some (some x)→hp (bs i)=some (x.ren (fm bs fs))∧x.bel 2000)
    (hl:hs.length≤1000) (hr:rows.length≤1000) (hR:∀i r,rows[i]?=some r→hp (fs i)=some (.vec kk (r.map v)))
    (h1:∀i j,i<hs.length→j<hs.length→bs i=bs j→i=j) (h2:∀i j,i<rows.length→j<rows.length→fs i=fs j→i=j) (h3:∀i j,i<hs.length→j<rows.length→bs i≠fs j)
    (hk:∀b,b<k→bs b=b) (hkl:k≤1000):aA k n ⟨tm,hp,nx⟩ ⟨cL ts,GR kk v rows (hpL 0 hs),2000⟩:=by
  have pur:∀r:List ρ,aZ (r.map v):=λr=>aH (ae hpu r)
  have low:∀{b x},hpL 0 hs b=some x→hs[b]?=some (some x):=λ{b x} e=>by
    rw[xu,if_pos (Nat.zero_le _),Nat.sub_zero]at e
    cases e':hs[b]? with
    | none=>rw[e']at e;cases e
    | some y=>rw[e']at e;exact congrArg some e
  have cls:∀{b x},GR kk v rows (hpL 0 hs) b=some x→(∃i r,b=Fr i∧i<rows.length∧rows[i]?=some r∧x=.vec kk (r.map v))∨(b<hs.length∧hs[b]?=some (some x)):=λ{b x} e=>by
    unfold GR at e
    split at e
    · rename_i hb
      obtain⟨r,hr,rfl⟩:=Option.map_eq_some_iff.mp e
      exact .inl ⟨b-1000,r,by unfold Fr;omega,(List.getElem?_eq_some_iff.mp hr).1,hr,rfl⟩
    · have:=low e
      exact .inr ⟨(List.getElem?_eq_some_iff.mp this).1,this⟩
  refine aA.ren (fm bs fs) (λt=>?_) (λb x e=>?_) (λb b' e e' he=>?_) (λb hb=>?_) (by show k≤2000;omega)
  · show cL ts t=.unk∨(tm t=(cL ts t).ren _∧(cL ts t).bel 2000)
    clear hH hR h1 h2 h3 cls low hl
    induction ts with
    | nil=>exact .inl rfl
    | cons p l ih =>
      obtain⟨t',x⟩:=p
      by_cases ht:t=t'
      · subst ht
        have:=hT (t,x) (by simp)
        simp only[cL,↓reduceIte]
        exact .inr this
      · have:=ih (λp hp=>hT p (by simp[hp]))
        simp only[cL,if_neg ht]
        exact this
  · show b<2000∧hp (fm bs fs b)=some (x.ren (fm bs fs))∧x.bel 2000
    rcases cls e with⟨i,r,rfl,hi,hr',rfl⟩|⟨hb,e⟩
    · refine⟨by unfold Fr;omega,?_,aW (pur r)⟩
      rw[jD (by omega),hR i r hr',Blk.ren,bc _ (pur r)]
    · obtain⟨g1,g2⟩:=hH b x e
      exact⟨by omega,by rw[eN (by omega)];exact g1,g2⟩
  · have c1:∀{b},GR kk v rows (hpL 0 hs) b≠none→(∃i,b=Fr i∧i<rows.length)∨b<hs.length:=λ{b} e=>by
      cases q:GR kk v rows (hpL 0 hs) b with
      | none=>exact absurd q e
      | some x => rcases cls q with ⟨i, r, g1, g2, _⟩ | ⟨g, _⟩
                  · exact .inl ⟨i,g1,g2⟩
                  · exact .inr g
    rcases c1 e with⟨i,rfl,hi⟩|hb<;>rcases c1 e' with⟨j,rfl,hj⟩|hb'
    · rw[jD (by omega),jD (by omega)]at he
      rw[h2 i j hi hj he]
    · rw[jD (by omega),eN (by omega)]at he
      exact absurd he.symm (h3 b' i hb' hi)
    · rw[eN (by omega),jD (by omega)]at he
      exact absurd he (h3 b j hb hj)
    · rw[eN (by omega),eN (by omega)]at he
      exact h1 b b' hb hb' he
  · rw[eN (by omega)];exact hk b hb
end
theorem aA.nilvecM{k n:Nat}{tm:Nat→AV}{hp:Hp}{nx:Nat}{kq:Option Nat}{ks:List MK}{vs:List AV}(b0 i kk k':Nat)(hb:hp b0=some (.map kq ks vs))(h:vs[i]?=some (.sl kk [] true))(hk:k≤nx) :
  aA k n ⟨tm,hp,nx⟩ ⟨tm,upd (upd hp b0 (some (.map kq ks (vs.set i (.vec nx))))) nx (some (.vec k' [])),nx+1⟩:=by
 rintro P c a w ⟨h0,A,μ,H⟩
 obtain⟨hd0,q1,⟨q2,ents,ck,q3,q4,q5,q6⟩,q8⟩:=H.blk b0 _ hb
 have hi:i<vs.length:=(List.getElem?_eq_some_iff.mp h).1
 have hv0:=(RVL.length q5)
 obtain⟨vi,hvi⟩:∃vi,(ents.toList.map (·.val))[i]?=some vi:=⟨(ents.toList.map (·.val))[i]'(by omega),List.getElem?_eq_getElem (by omega)⟩
 obtain⟨ad,hv⟩:=RV.nilsl (RVL.get2 q5 h hvi)
 obtain⟨f1,f2⟩:μ nx=none∧hp nx=none:=H.fr nx (Nat.le_refl _)
 let hd:Hd:=⟨some ad,0,k',0,0⟩
 have hne:b0≠nx:=λe=>by subst e;rw[f2]at hb;cases hb
 have hle:bE μ (upd μ nx (some hd)):=by
  intro b hd' e
  by_cases g:b=nx
  ·subst g;rw[f1]at e;cases e
  ·rw[aj _ _ g];exact e
 have key:=H.add nx f2 (upd μ nx (some hd)) hle (λb hb=>aj _ _ hb) hd (ai _ _ _) (.vec k' []) ⟨rfl,.inl ⟨rfl,rfl⟩⟩ (λe=>by cases e) (λ_ _ _ _ _ _ e=>by cases e)
 have hswap:upd (upd hp b0 (some (.map kq ks (vs.set i (.vec nx))))) nx (some (.vec k' []))=upd (upd hp nx (some (.vec k' []))) b0 (some (.map kq ks (vs.set i (.vec nx)))):=by
  funext b
  by_cases e1:b=b0
  ·subst e1;rw[ai,aj _ _ hne,ai]
  ·rw[aj _ _ e1]
   by_cases e2:b=nx
   ·subst e2;rw[ai,ai]
   ·rw[aj _ _ e2,aj _ _ e1,aj _ _ e2]
 rw[hswap]
 have hb1:upd hp nx (some (.vec k' [])) b0=some (.map kq ks vs):=by rw[aj _ _ hne];exact hb
 have fin:=key.say hb1 (y:=.map kq ks (vs.set i (.vec nx))) λhd1 e1 e2=>by
  obtain⟨r2,ents',ck',r3,r4,r5,r6⟩:=e2
  rw[hle _ _ q1]at e1;cases e1
  rw[q3]at r3;cases r3
  refine⟨r2,ents,ck,q3,q4,RVL.setAt r5 hvi ⟨hd,ai _ _ _,hv⟩,λx hx=>?_⟩
  rcases List.mem_or_eq_of_mem_set hx with hx|rfl
  ·exact q6 x hx
  ·rfl
 exact⟨h0,A,upd μ nx (some hd),fin.free λb hb=>⟨show nx≤b by have:nx+1≤b:=hb;omega,by have:nx+1≤b:=hb;omega⟩⟩
def relx(cost:Int)(out:Dis)(op:Dis)(s:Stp):Dis:=
 if aY out s.to=true then op else if(aY op s.to=false∨W (cost+s.cost)<aB op s.to 0)then bo op s.to (W (cost+s.cost))else op
def Dx(L:Lks):Nat→Dis→Dis→Dis
 | 0,out,_=>out
 | n+1,out,op=>if op=[]then out else
   if(bo out (bst op) (aB op (bst op) 0)).length=L.length then bo out (bst op) (aB op (bst op) 0)
   else Dx L n (bo out (bst op) (aB op (bst op) 0)) ((aB L (bst op) []).foldl (relx (aB op (bst op) 0) (bo out (bst op) (aB op (bst op) 0))) (mdl op (bst op)))
def cJ(L:Lks)(f:Int):Dis:=if aY L f=true then Dx L L.length [] (bo [] f 0)else []
def A9(L:Lks):Prop:=L.length≤1000000∧(av L).Nodup∧(∀x∈av L,x≠0∧-9223372036854775808≤x∧x≤9223372036854775807)∧∀p∈L,p.2.length≤1000000∧∀s∈p.2,s.to∈av L
structure jO (L:Lks) (out op:Dis):Prop where
  no:(av out).Nodup
  np:(av op).Nodup
  ko:∀x∈av out,x∈av L
  kp:∀x∈av op,x∈av L
  di:∀x∈av op,x ∉ av out
theorem cR{α β:Type}(l:List (α×β)):(av l).length=l.length:=List.length_map _
theorem jO.len1{L:Lks}{out op:Dis}(h:jO L out op):out.length≤L.length:=by
 have:=List.Nodup.length_le_of_subset h.no h.ko
 rwa [cR,cR]at this
theorem jO.len2{L:Lks}{out op:Dis}(h:jO L out op):op.length≤L.length:=by
 have:=List.Nodup.length_le_of_subset h.np h.kp
 rwa [cR,cR]at this
theorem Hn{op:Dis}(h:op≠[]):∃c,(bst op,c)∈op∧∀x∈op,¬bfr x (bst op,c):=by
 obtain⟨b,h1,h2,h3⟩:=lH h
 have:bst op=b.1:=by unfold bst;rw[h1]
 rw[this]
 exact⟨b.2,h2,h3⟩
theorem LO{op:Dis}(h:op≠[]):bst op∈av op:=by
 obtain⟨c,h1,_⟩:=Hn h
 exact aV.mpr ⟨c,h1⟩
theorem jO.pop{L:Lks}{out op:Dis}(h:jO L out op){b c:Int}(hb:b∈av op):jO L (bo out b c) (mdl op b)∧(bo out b c).length=out.length+1:=by
 have hbo:=h.di b hb
 refine⟨⟨dy h.no,CQ h.np,λx hx=>?_,λx hx=>?_,λx hx hx2=>?_⟩,?_⟩
 ·obtain⟨v,hv⟩:=aV.mp hx
  rcases(bP h.no).mp hv with e|⟨e,_⟩
  ·cases e;exact h.kp _ hb
  ·exact h.ko _ (aV.mpr ⟨_,e⟩)
 ·obtain⟨v,hv⟩:=aV.mp hx
  exact h.kp _ (aV.mpr ⟨_,((qG h.np).mp hv).1⟩)
 ·obtain⟨v,hv⟩:=aV.mp hx
  obtain⟨v2,hv2⟩:=aV.mp hx2
  obtain⟨q1,q2⟩:=(qG h.np).mp hv
  rcases(bP h.no).mp hv2 with e|⟨e,_⟩
  ·cases e;exact q2 rfl
  ·exact h.di _ (aV.mpr ⟨_,q1⟩) (aV.mpr ⟨_,e⟩)
 ·rw[Fw,if_neg]
  unfold aY;simpa using hbo
theorem jO.relx{L:Lks}{out op:Dis}(h:jO L out op){c:Int}{s:Stp}(hs:s.to∈av L):jO L out (relx c out op s):=by
 unfold Go.Proofs.YtdoacjojljgdcaaGreat.relx
 split
 ·exact h
 rename_i h1
 have h1:s.to ∉ av out:=by unfold aY at h1;simpa using h1
 split
 ·refine⟨h.no,dy h.np,h.ko,λx hx=>?_,λx hx=>?_⟩
  all_goals
   obtain⟨v,hv⟩:=aV.mp hx
   rcases(bP h.np).mp hv with e|⟨e,_⟩
  ·cases e;exact hs
  ·exact h.kp _ (aV.mpr ⟨_,e⟩)
  ·cases e;exact h1
  ·exact h.di _ (aV.mpr ⟨_,e⟩)
 ·exact h
theorem jO.fold{L:Lks}{out:Dis}{c:Int}:∀{l:List Stp} {op:Dis},jO L out op→(∀s∈l,s.to∈av L)→jO L out (l.foldl (Go.Proofs.YtdoacjojljgdcaaGreat.relx c out) op)
 | [],op,h,_=>h
 | s::l,op,h,hs=>(h.relx (hs s (by simp))).fold λx hx=>hs x (by simp[hx])
def PI(links:(List (Int×List Stp)))(from_:Int):=okL [.mp none (links.map λp:Int×List Stp=>MK.n p.1) (links.map λp:Int×List Stp=>(λl:List Stp=>AV.sl 2 (l.map Stp.v) false) p.2),.int from_]
def KK(links:(List (Int×List Stp)))(t0:(List (Int×Int))×(List (Int×Int))):NF:=⟨[(0,.k,.mp none (links.map λp:Int×List Stp=>MK.n p.1) (links.map λp:Int×List Stp=>(λl:List Stp=>AV.sl 2 (l.map Stp.v) false) p.2)),(5,.k,.mref 0),(8,.k,.mref 1)],[.map none (t0.2.map λp=>MK.n p.1) (t0.2.map λp=>AV.int p.2) (ae (λ_=>rfl) _),.map none (t0.1.map λp=>MK.n p.1) (t0.1.map λp=>AV.int p.2) (ae (λ_=>rfl) _)]⟩
def KJ(links:(List (Int×List Stp)))(t0:(List (Int×Int))×(List (Int×Int)))(t1:Int×(List (Int×Int))):NF:=⟨[(0,.k,.mp none (links.map λp:Int×List Stp=>MK.n p.1) (links.map λp:Int×List Stp=>(λl:List Stp=>AV.sl 2 (l.map Stp.v) false) p.2)),(5,.k,.mref 0),(8,.k,.mref 1),(12,.k,.int (aB t0.1 (bst t0.1) 0)),(79,.k,.sl 2 ((aB links (bst t0.1) []).map Stp.v) false),(80,.k,.int (((aB links (bst t0.1) []).map Stp.v).length:Int)),(81,.k,.int t1.1)],[.map none ((bo t0.2 (bst t0.1) (aB t0.1 (bst t0.1) 0)).map λp=>MK.n p.1) ((bo t0.2 (bst t0.1) (aB t0.1 (bst t0.1) 0)).map λp=>AV.int p.2) (ae (λ_=>rfl) _),.map none (t1.2.map λp=>MK.n p.1) (t1.2.map λp=>AV.int p.2) (ae (λ_=>rfl) _)]⟩
def KI(links:(List (Int×List Stp)))(t0:(List (Int×Int))×(List (Int×Int)))(t1:Int×(List (Int×Int)))(x1:Stp)(t2:Bool):NF:=⟨[(0,.k,.mp none (links.map λp:Int×List Stp=>MK.n p.1) (links.map λp:Int×List Stp=>(λl:List Stp=>AV.sl 2 (l.map Stp.v) false) p.2)),(5,.k,.mref 0),(8,.k,.mref 1),(12,.k,.int (aB t0.1 (bst t0.1) 0)),(14,.k,.ref 2 0),(79,.k,.sl 2 ((aB links (bst t0.1) []).map Stp.v) false),(80,.k,.int (((aB links (bst t0.1) []).map Stp.v).length:Int)),(81,.k,.int t1.1),(109,.k,.bool t2)],[.map none ((bo t0.2 (bst t0.1) (aB t0.1 (bst t0.1) 0)).map λp=>MK.n p.1) ((bo t0.2 (bst t0.1) (aB t0.1 (bst t0.1) 0)).map λp=>AV.int p.2) (ae (λ_=>rfl) _),.map none (t1.2.map λp=>MK.n p.1) (t1.2.map λp=>AV.int p.2) (ae (λ_=>rfl) _),.box (.agg [.int x1.to,.int x1.cost])]⟩
@[reducible] def GA:Nat→Type
 | 0=>(List (Int×Int))×(List (Int×Int))
 | 1=>Int×(List (Int×Int))
 | 2=>Bool
 | _=>Unit
def xZ(r:(List (Int×Int))):AV:=.mp none (r.map λp:Int×Int=>MK.n p.1) (r.map λp:Int×Int=>AV.int p.2)
def xY(links:(List (Int×List Stp)))(from_:Int)(I0:((List (Int×Int))×(List (Int×Int)))→Prop)(m0:((List (Int×Int))×(List (Int×Int)))→Nat)(I1:(List (Int×Int))×(List (Int×Int))→(Int×(List (Int×Int)))→Prop)(m1:(List (Int×Int))×(List (Int×Int))→(Int×(List (Int×Int)))→Nat)(I2:(List (Int×Int))×(List (Int×Int))→Int×(List (Int×Int))→Stp→Bool→Prop):Ax Tryz.prog GA ((List (Int×Int))):=
 (.mn 80 (Fy false (λl:List Stp=>AV.sl 2 (l.map Stp.v) false) links from_ []) (.br 80 (aY links from_) (.mn 240 (nk AV.int ([]:List (Int×Int)) from_ 0) (.loop 0 (KK links) I0 m0 (bo ([]:List (Int×Int)) from_ 0,([]:List (Int×Int))) [16,208] λ(t0:(List (Int×Int))×(List (Int×Int))) b0 =>
(.say (ck (decide ((t0.1.map λp=>MK.n p.1).length≤maxLen))) (.br 50 (decide (0<((t0.1.map λp=>MK.n p.1).length:Int))) (.pass (.handQ 0 (B4 links t0.2 t0.1 0) [0,1] ((B4 links t0.2 t0.1 (bst t0.1)).st) Gt (Fc t0.1) (dst_h links t0.2 t0.1)
(.mn 34 (jA AV.int t0.1 (bst t0.1) 0) (.mn 98 (OA AV.int t0.1 (bst t0.1)) (.mn 162 (nk AV.int t0.2 (bst t0.1) (aB t0.1 (bst t0.1) 0)) (.say (λR=>ck (decide (((bo t0.2 (bst t0.1) (aB t0.1 (bst t0.1) 0)).map λp=>MK.n p.1).length≤maxLen))
((ck (decide ((links.map λp=>MK.n p.1).length≤maxLen))
R))) (.br 258 ((((bo t0.2 (bst t0.1) (aB t0.1 (bst t0.1) 0)).map λp=>MK.n p.1).length:Int)==((links.map λp=>MK.n p.1).length:Int)) (.say (Rf ((bo t0.2 (bst t0.1) (aB t0.1 (bst t0.1) 0)).map λp=>AV.int p.2)) (.cmdL (.frzM 0 ((bo t0.2 (bst t0.1) (aB t0.1 (bst t0.1) 0)).map λp=>AV.int p.2) (ae (λ_=>rfl) _)) (.ret (bo t0.2 (bst t0.1) (aB t0.1 (bst t0.1) 0)))))
(.mn 290 (Fy true (λl:List Stp=>AV.sl 2 (l.map Stp.v) false) links (bst t0.1) []) (.say (ck (aY links (bst t0.1))) (.loop 1 (KJ links t0) (I1 t0) (m1 t0) (0,mdl t0.1 (bst t0.1)) [0,1] λ(t1:Int×(List (Int×Int))) b1 =>
(.br 18 (decide (t1.1<(((aB links (bst t0.1) []).map Stp.v).length:Int))) (.elI 18 Stp.v (aB links (bst t0.1) []) t1.1 λx1 =>
(.mn 130 (jA AV.int (bo t0.2 (bst t0.1) (aB t0.1 (bst t0.1) 0)) x1.to 0) (.br 242 (aY (bo t0.2 (bst t0.1) (aB t0.1 (bst t0.1) 0)) x1.to) (.bk 1 b1 (W (t1.1+1),t1.2) [0,1])
(.mn 290 (jA AV.int t1.2 x1.to 0) (.join 2 (KI links t0 t1 x1) (λ(t2:Bool)=>I2 t0 t1 x1 t2) (λb2=>(.br 434 (!(aY t1.2 x1.to)) (.bk 2 b2 ((true):Bool) [0,1,50])
(.bk 2 b2 ((decide ((W ((aB t0.1 (bst t0.1) 0)+x1.cost))<(aB t1.2 x1.to 0))):Bool) [0,1,50]))) λ(t2:Bool) =>
(.br 3 t2 (.mn 115 (nk AV.int t1.2 x1.to (W ((aB t0.1 (bst t0.1) 0)+x1.cost))) (.bk 1 b1 (W (t1.1+1),bo t1.2 x1.to (W ((aB t0.1 (bst t0.1) 0)+x1.cost))) [0,1]))
(.bk 1 b1 (W (t1.1+1),t1.2) [0,1])))))))
(.bk 0 b0 (t1.2,bo t0.2 (bst t0.1) (aB t0.1 (bst t0.1) 0)) [0,1]))))))))))))
(.say (Rf (t0.2.map λp=>AV.int p.2)) (.cmdL (.frzM 0 (t0.2.map λp=>AV.int p.2) (ae (λ_=>rfl) _)) (.ret (t0.2))))))))
(.say (Rf (([]:List (Int×Int)).map λp=>AV.int p.2)) (.cmdL (.frzM 16 (([]:List (Int×Int)).map λp=>AV.int p.2) (ae (λ_=>rfl) _)) (.ret (([]:List (Int×Int))))))))
def BC(links:(List (Int×List Stp)))(from_:Int)(I0:((List (Int×Int))×(List (Int×Int)))→Prop)(m0:((List (Int×Int))×(List (Int×Int)))→Nat)(I1:(List (Int×Int))×(List (Int×Int))→(Int×(List (Int×Int)))→Prop)(m1:(List (Int×Int))×(List (Int×Int))→(Int×(List (Int×Int)))→Nat)(I2:(List (Int×Int))×(List (Int×Int))→Int×(List (Int×Int))→Stp→Bool→Prop)(r0:(List (Int×Int))):=(xY links from_ I0 m0 I1 m1 I2).vp xZ r0
theorem PG(L:Lks)(f:Int)(h:A9 L)(ok:PI L f):∃I0 m0 I1 m1 I2,BC L f I0 m0 I1 m1 I2 (cJ L f):=by
 obtain⟨h1,h2,h3,h4⟩:=h
 have hml:=bv
 refine⟨λt=>jO L t.2 t.1∧t.2.length<L.length∧Dx L (L.length-t.2.length) t.2 t.1=cJ L f,λt=>L.length-t.2.length,
  λt0 t=>iW (aB L (bst t0.1) []) (relx (aB t0.1 (bst t0.1) 0) (bo t0.2 (bst t0.1) (aB t0.1 (bst t0.1) 0))) (mdl t0.1 (bst t0.1)) t.1 t.2,λt0 t=>(aB L (bst t0.1) []).length-t.1.toNat,
  λt0 t x b=>b=decide (aY t.2 x.to=false∨W (aB t0.1 (bst t0.1) 0+x.cost)<aB t.2 x.to 0),?_⟩
 dsimp only[BC,xY,GA,Ax.vp,Ax.vc];simp only[vcU,rfU,List.length_map]
 refine⟨λc=>⟨?_,?_⟩,λc=>by rw[cJ,if_neg (by rw[c];simp)]⟩
 ·have hf:f∈av L:=of_decide_eq_true c
  have h0:0<L.length:=by rw[←cR];exact List.length_pos_of_mem hf
  refine⟨⟨by simp[av],by simp[bo,av],by simp[av],by simp[bo,av];simpa[av]using hf,by simp[av]⟩,h0,by rw[cJ,if_pos c];rfl⟩
 rintro⟨op,out⟩ ⟨hI,hlt,hD⟩
 simp only at hI hlt hD ⊢
 have q1:=hI.len1
 have q2:=hI.len2
 obtain⟨n,hn⟩:∃n,L.length-out.length=n+1:=⟨L.length-out.length-1,by omega⟩
 rw[hn,Dx]at hD
 refine⟨by omega,λc1=>?_,λc1=>?_⟩
 ·have hne:op≠[]:=λe=>by rw[e]at c1;simp at c1
  rw[if_neg hne]at hD
  have hb:=LO hne
  obtain⟨hP,hPl⟩:=hI.pop (c:=aB op (bst op) 0) hb
  have q3:=hP.len1
  refine⟨λx hx=>h3 _ (hI.kp _ (aV.mpr ⟨x.2,hx⟩)),by omega,by omega,λc2=>?_,λc2=>?_⟩
  ·rw[if_pos (by have:=eq_of_beq c2;omega)]at hD;exact hD
  ·have c2:¬(bo out (bst op) (aB op (bst op) 0)).length=L.length:=λe=>by rw[e]at c2;simp at c2
   rw[if_neg c2]at hD
   have hbL:=hI.kp _ hb
   have hst:(aB L (bst op) []).length≤1000000∧∀s∈aB L (bst op) [],s.to∈av L:=h4 _ (bI (z:=[]) (decide_eq_true hbL))
   refine⟨decide_eq_true hbL,iW.zero,?_⟩
   rintro⟨i,op2⟩ hG
   simp only at hG ⊢
   refine⟨λc3=>⟨hG.idx,c3,λx hx=>⟨λe=>?_,λe=>⟨⟨λe2=>?_,λe2=>?_⟩,?_⟩⟩⟩,λc3=>?_⟩
   ·refine hG.step (by omega) hx ?_
    rw[relx,if_pos e]
   ·rw[show aY op2 x.to=false by simpa using e2];simp
   ·rw[show aY op2 x.to=true by simpa using e2];simp
   ·rintro _ rfl
    refine⟨λe2=>?_,λe2=>?_⟩
    ·refine hG.step (by omega) hx ?_
     rw[relx,if_neg (by rw[e];simp),if_pos (of_decide_eq_true e2)]
    ·refine hG.step (by omega) hx ?_
     rw[relx,if_neg (by rw[e];simp),if_neg (of_decide_eq_false e2)]
   ·have hG:=hG.done c3
    have hF:=hP.fold (c:=aB op (bst op) 0) hst.2
    rw[←hG]at hF hD
    have:n=L.length-(bo out (bst op) (aB op (bst op) 0)).length:=by omega
    rw[this]at hD
    exact⟨⟨hF,by omega,hD⟩,by omega⟩
 ·have:op=[]:=List.eq_nil_of_length_eq_zero (by omega)
  rw[if_pos this]at hD
  exact hD
def PH(links:(List (Int×List Stp)))(from_:Int)(h:A9 links):PC Tryz.prog:=⟨156,[.k,.k],[.mp none (links.map λp:Int×List Stp=>MK.n p.1) (links.map λp:Int×List Stp=>(λl:List Stp=>AV.sl 2 (l.map Stp.v) false) p.2),.int from_],xZ (cJ links from_),ax.of_ok λok=>(PG links from_ h ok).elim λI0 h=>h.elim λm0 h=>h.elim λI1 h=>h.elim λm1 h=>h.elim λI2 h=>aw (sh:=.k) (enc:=xZ) (a:=(xY links from_ I0 m0 I1 m1 I2).an) h (by kernel_rfl) (AV.pureB_ok rfl),aq (by kernel_rfl)⟩
theorem bL{kk:Option Nat}{m k x:AO}{f:Nat}{ρ:AO→AV}{hp:Hp}:evA (.mset kk m k x) f ρ hp=match ρ m with
    | .mref b=>match hp b,(ρ k).key with
      | some (.map kk' ks vs),some q=>{ c:=kk'=kk∧q.fits kk∧(ρ x).solid=true,rm:=some b,ad:=some (b,dO kk ks vs q (ρ x)) }
      | _,_=>.bad
    | _=>.bad:=rfl
def evN(n:Nat):List AV:=(List.range n).map λi=>.vec (Fr (2 * i))
def odN(n:Nat):List AV:=(List.range n).map λi=>.vec (Fr (2 * i+1))
def kyN(l:List Int):List MK:=l.map MK.n
def rdH(t:Tpl)(ids:List Int)(a b:List AV):List (Option Blk):=
 [some (.box (Tpl.v t)),some (.box (.agg [.val (.map none),.val (.map none)])),some (.box (.agg [.mref 3,.mref 4])),some (.map none (kyN ids) a),some (.map none (kyN ids) b)]
abbrev GS(M:List (List Stp))(h:Hp):Hp:=GR 2 Stp.v M h
def rdS(t:Tpl)(M:List (List Stp)):S3:=
 ⟨cL [(1,.ref 0 0),(2,.ref 1 0),(3,.ref 2 0)],GS M (hpL 0 (rdH t (t.rs.map (·.id)) (evN t.rs.length) (odN t.rs.length))),2000⟩
def rd_m(t:Tpl):NF:=
 ⟨[(1,.k,.ref 0 0),(2,.k,.ref 1 0),(3,.k,.ref 2 0)],[.box (Tpl.v t),.box (.agg [.val (.map none),.val (.map none)]),.box (.agg [.mref 3,.mref 4]),.map none (([]:Lks).map λp=>MK.n p.1) (([]:Lks).map λp=>(λl:List Stp=>AV.sl 2 (l.map Stp.v) false) p.2) (ae (λ_=>rfl) _),.map none (([]:Lks).map λp=>MK.n p.1) (([]:Lks).map λp=>(λl:List Stp=>AV.sl 2 (l.map Stp.v) false) p.2) (ae (λ_=>rfl) _)]⟩
def E8:AC:=.seq (.reg [⟨(some 12),.faddr 0 (.t 1),none⟩,⟨(some 13),.load false 1 (.t 12),none⟩,⟨(some 14),.len (.t 13),none⟩,⟨(some 15),.move (.c (.val (.int .i64 0))),none⟩])
 (.block 0 (.loop (.seq (.reg [⟨(some 16),.bin .lss (.t 15) (.t 14),none⟩])
 (.seq (.cond (.t 16) (.skip) (.exit 0))
 (.seq (.block 1 (.seq (.reg [⟨(some 17),.iaddr 2 (.t 13) (.t 15),none⟩,⟨(some 18),.load true 2 (.t 17),none⟩,⟨(some 5),.box (.c (.agg [(.val (.int .i64 0)),(.val (.bool false))])),none⟩,⟨none,.store 2 (.t 5) (.t 18),none⟩])
 (.dreg [⟨(some 19),.faddr 0 (.t 3),none⟩,⟨(some 20),.load false 1 (.t 19),none⟩,⟨(some 21),.faddr 0 (.t 5),none⟩,⟨(some 22),.load false 1 (.t 21),none⟩,⟨(some 23),.faddr 1 (.t 3),none⟩,⟨(some 24),.load false 1 (.t 23),none⟩,⟨(some 25),.faddr 0 (.t 5),none⟩,⟨(some 26),.load false 1 (.t 25),none⟩,⟨none,.mset none (.t 20) (.t 22) (.c (.sl 0 [] true)),none⟩,⟨none,.mset none (.t 24) (.t 26) (.c (.sl 0 [] true)),none⟩] [(1,3),(1,5),(3,5),(1,7),(3,7),(5,7),(5,8),(7,8)])))
 (.reg [⟨(some 27),.bin .add (.t 15) (.c (.val (.int .i64 1))),none⟩,⟨(some 15),.move (.t 27),none⟩]))))))
theorem kI(n:Nat):(evN n).length=n:=by simp[evN]
theorem kw(n:Nat):(odN n).length=n:=by simp[odN]
theorem cF(x:Stp):x.v.pureB=true:=rfl
theorem D6(l:List Rtr):aZ (l.map Rtr.v):=aH (ae (λ_=>rfl) l)
theorem ou{k:Nat}:∀{xs:List AV},(∀x∈xs,x.bel k)→iq k xs
 | [],_=>trivial
 | x::xs,h=>⟨h x (by simp),ou λy hy=>h y (by simp[hy])⟩
theorem rF{n:Nat}(h:n≤400):iq 2000 (evN n):=ou λx hx=>by
 obtain⟨i,hi,rfl⟩:=List.mem_map.mp hx
 have:=List.mem_range.mp hi
 show Fr (2 * i)<2000;unfold Fr;omega
theorem qz{n:Nat}(h:n≤400):iq 2000 (odN n):=ou λx hx=>by
 obtain⟨i,hi,rfl⟩:=List.mem_map.mp hx
 have:=List.mem_range.mp hi
 show Fr (2 * i+1)<2000;unfold Fr;omega
theorem rD{n:Nat}(h:n≤400)(bs fs:Nat→Nat):dH (fm bs fs) (evN n)=(List.range n).map λi=>.vec (fs (2 * i)):=by
 rw[dN,evN,List.map_map]
 refine List.map_congr_left λi hi=>?_
 have:=List.mem_range.mp hi
 show AV.vec (fm bs fs (Fr (2 * i)))=_
 rw[jD (by omega)]
theorem qy{n:Nat}(h:n≤400)(bs fs:Nat→Nat):dH (fm bs fs) (odN n)=(List.range n).map λi=>.vec (fs (2 * i+1)):=by
 rw[dN,odN,List.map_map]
 refine List.map_congr_left λi hi=>?_
 have:=List.mem_range.mp hi
 show AV.vec (fm bs fs (Fr (2 * i+1)))=_
 rw[jD (by omega)]
theorem oG{t:Tpl}{ids:List Int}{n:Nat}{hp:Hp}{fs:Nat→Nat}{a b:List AV}(hn:n≤400)(h0:hp 0=some (.box (Tpl.v t)))(h1:hp 1=some (.box (.agg [.val (.map none),.val (.map none)])))(h2:hp 2=some (.box (.agg [.mref 3,.mref 4])))
  (h3:hp 3=some (.map none (kyN ids) a)) (h4:hp 4=some (.map none (kyN ids) b)) (ha:a=(List.range n).map λi=>.vec (fs (2 * i))) (hb:b=(List.range n).map λi=>.vec (fs (2 * i+1))) :
  ∀i x,(rdH t ids (evN n) (odN n))[i]?=some (some x)→hp ((λb=>b) i)=some (x.ren (fm (λb=>b) fs))∧x.bel 2000:=by
 have hr:=bc (fm (λb=>b) fs) (D6 t.rs)
 intro i x h
 rcases i with _|_|_|_|_|i
 ·cases h;exact⟨h0,⟨trivial,trivial,trivial⟩⟩
 ·cases h;exact⟨h1,⟨trivial,trivial,trivial⟩⟩
 ·cases h;exact⟨h2,⟨show 3<2000 by omega,show 4<2000 by omega,trivial⟩⟩
 ·cases h;exact⟨by show hp 3=_;rw[h3,Blk.ren,rD hn,ha],rF hn⟩
 ·cases h;exact⟨by show hp 4=_;rw[h4,Blk.ren,qy hn,hb],qz hn⟩
 ·simp[rdH]at h
structure Rj (t:Tpl):Prop where
  nr:t.rs.length≤24
  nl:t.ls.length≤60
  rg:∀x∈t.rs,1≤x.id∧x.id≤99
  asc:t.rs.Pairwise (λx y=>x.id<y.id)
  lr:∀l∈t.ls,fO l
  has:∀l∈t.ls,aG t l.a=true∧aG t l.b=true
  lt:∀l∈t.ls,l.a<l.b
  ord:t.ls.Pairwise aQ
theorem aC{t:Tpl}(h:aD t=0):Rj t:=by
 unfold aD at h
 by_cases a1:24<t.rs.length∨60<t.ls.length
 ·rw[if_pos a1]at h;omega
 rw[if_neg a1]at h
 by_cases a2:∀x∈t.rs,1≤x.id∧x.id≤99
 case neg=>rw[if_pos a2]at h;omega
 rw[if_neg (not_not_intro a2)]at h
 by_cases a3:t.rs.Pairwise (λx y=>x.id<y.id)
 case neg=>rw[if_pos a3]at h;omega
 rw[if_neg (not_not_intro a3)]at h
 by_cases a4:∀l∈t.ls,fO l
 case neg=>rw[if_pos a4]at h;omega
 rw[if_neg (not_not_intro a4)]at h
 by_cases a5:∀l∈t.ls,aG t l.a=true∧aG t l.b=true
 case neg=>rw[if_pos a5]at h;omega
 rw[if_neg (not_not_intro a5)]at h
 by_cases a6:∀l∈t.ls,l.a<l.b
 case neg=>rw[if_pos a6]at h;omega
 rw[if_neg (not_not_intro a6)]at h
 by_cases a7:t.ls.Pairwise aQ
 case neg=>rw[if_pos a7]at h;omega
 exact⟨by omega,by omega,a2,a3,a4,a5,a6,a7⟩
theorem GX{t:Tpl}(h:aD t=0):t.rs.Pairwise (λx y=>x.id<y.id):=(aC h).asc
theorem Me{l:List Rtr}(h:l.Pairwise (λx y=>x.id<y.id)){i j:Nat}(hij:i<j){x y:Rtr}(hx:l[i]?=some x)(hy:l[j]?=some y):x.id<y.id:=by
 have hi:=ap hx
 have hj:=ap hy
 rw[List.getElem?_eq_getElem hi]at hx
 rw[List.getElem?_eq_getElem hj]at hy
 have:=List.pairwise_iff_getElem.mp h i j hi hj hij
 rw[Option.some.inj hx,Option.some.inj hy]at this
 exact this
theorem K9(i m:Nat)(x:AV):(evN i++[x]).set i (.vec m)=(List.range (i+1)).map λj=>.vec ((λj=>if j=2 * i then m else if j=2 * i+1 then m+1 else Fr j) (2 * j)):=by
 rw[List.set_append_right _ _ (by rw[kI];exact Nat.le_refl _),kI,Nat.sub_self,List.set_cons_zero,List.range_succ,List.map_append]
 congr 1
 ·refine List.map_congr_left λj hj=>?_
  have:=List.mem_range.mp hj
  simp only
  rw[if_neg (by omega),if_neg (by omega)]
 ·simp
theorem JL(i m:Nat)(x:AV):(odN i++[x]).set i (.vec (m+1))=(List.range (i+1)).map λj=>.vec ((λj=>if j=2 * i then m else if j=2 * i+1 then m+1 else Fr j) (2 * j+1)):=by
 rw[List.set_append_right _ _ (by rw[kw];exact Nat.le_refl _),kw,Nat.sub_self,List.set_cons_zero,List.range_succ,List.map_append]
 congr 1
 ·refine List.map_congr_left λj hj=>?_
  have:=List.mem_range.mp hj
  simp only
  rw[if_neg (by omega),if_neg (by omega)]
 ·simp
theorem rd_h1(t:Tpl)(hc:aD t=0)(k:Nat):dL Tryz.prog 0 k E8 (rd_m t).st (rdS t (List.replicate (2 * t.rs.length) [])):=by
 unfold dL E8
 show AWP _ 0 k _ _ ⟨cL [(1,.ref 0 0),(2,.ref 1 0),(3,.ref 2 0)],hpL 0 (rdH t [] [] []),5⟩
 have hR:t.rs.length≤400:=by have:=(cd hc).1;omega
 have hdi:=GX hc
 have hml:=bv
 refine AWP.seq' ?_
 refine AWP.reg' λK hK=>?_
 try simp only[ak,ao,am,eq_self,implies_true,forall_eq_or_imp,forall_eq,Nat.reduceEqDiff,↓reduceIte,Nat.reduceAdd,Nat.reduceLeDiff,Nat.reduceSub,Nat.reduceMul,Nat.reduceLT,Int.reduceBEq,Int.reduceBNe,Int.reduceToNat,Int.reduceLT,Int.reduceLE,Int.reduceAdd,Int.reduceSub,Int.reduceMul,reduceCtorEq,rdH,Tpl.v,List.length_map]
 refine hK _ _ _ ?_
 clear hK K
 refine AWP.block ?_
 have hge:∀{i:Nat} {r:Rtr},t.rs[i]?=some r→(t.rs.map Rtr.v).getD i .unk=Rtr.v r:=λ{i r} h=>by rw[List.getD_eq_getElem?_getD,List.getElem?_map,h];rfl
 refine AWP.loopS (λi:Nat=>⟨cL [(1,.ref 0 0),(2,.ref 1 0),(3,.ref 2 0),(13,.sl 2 (t.rs.map Rtr.v) false),(14,.int t.rs.length),(15,.int (i:Nat))],GS (List.replicate (2 * i) []) (hpL 0 (rdH t ((t.rs.take i).map (·.id)) (evN i) (odN i))),2000⟩)
  (λi=>i≤t.rs.length) (λi=>t.rs.length-i) (i0:=0) (Nat.zero_le _) ?_ ?_
 ·refine aA.nfR cF _ _ _ (λb=>b) Fr ?_ (oG (by omega) rfl rfl rfl rfl rfl rfl rfl) (by simp[rdH]) (by simp) (by simp) (λi j _ _ h=>h) (λi j _ _ h=>by unfold Fr at h;omega) (λi j h1 h2=>by simp at h2) (λb _=>rfl) (by decide)
  simp only[List.forall_mem_cons,List.not_mem_nil,false_implies,implies_true,and_true]
  exact⟨⟨rfl,show 0<2000 by omega⟩,⟨rfl,show 1<2000 by omega⟩,⟨rfl,show 2<2000 by omega⟩,⟨rfl,trivial⟩,⟨rfl,trivial⟩,rfl,trivial⟩
 ·intro i hi
  refine AWP.seq' ?_
  refine AWP.reg' λK hK=>?_
  try simp only[ak,ao,am,eq_self,implies_true,forall_eq_or_imp,forall_eq,Nat.reduceEqDiff,↓reduceIte,Nat.reduceAdd,Nat.reduceLeDiff,Nat.reduceSub,Nat.reduceMul,Nat.reduceLT,Int.reduceBEq,Int.reduceBNe,Int.reduceToNat,Int.reduceLT,Int.reduceLE,Int.reduceAdd,Int.reduceSub,Int.reduceMul,reduceCtorEq]
  refine hK _ _ _ ?_
  clear hK K
  refine AWP.seq' ?_
  refine AWP.cond (b:=decide ((i:Int)<(t.rs.length:Int))) rfl (λh=>?_) (λh=>?_)
  ·have h:i<t.rs.length:=by have:=of_decide_eq_true h;omega
   have hr:t.rs[i]?=some t.rs[i]:=List.getElem?_eq_getElem h
   generalize t.rs[i]=r at hr
   refine AWP.skip ?_
   refine AWP.seq' (AWP.block (AWP.seq' ?_))
   have hG0:∀b,b<1000→GS (List.replicate (2 * i) []) (hpL 0 (rdH t ((t.rs.take i).map (·.id)) (evN i) (odN i))) b=hpL 0 (rdH t ((t.rs.take i).map (·.id)) (evN i) (odN i)) b:=λb hb=>lZ hb
   refine AWP.reg' λK hK=>?_
   try simp only[ak,ao,am,eq_self,implies_true,forall_eq_or_imp,forall_eq,Nat.reduceEqDiff,↓reduceIte,Nat.reduceAdd,Nat.reduceLeDiff,Nat.reduceSub,Nat.reduceMul,Nat.reduceLT,Int.reduceBEq,Int.reduceBNe,Int.reduceToNat,Int.reduceLT,Int.reduceLE,Int.reduceAdd,Int.reduceSub,Int.reduceMul,reduceCtorEq,hge hr,Int.toNat_natCast,List.length_map,Rtr.v]
   refine⟨⟨by omega,by omega⟩,?_⟩
   refine hK _ _ _ ?_
   clear hK K
   have hnm:¬MK.n r.id∈kyN ((t.rs.take i).map (·.id)):=λhm=>by
    obtain⟨q,hq,e⟩:=List.mem_map.mp hm
    obtain⟨r',hr',rfl⟩:=List.mem_map.mp hq
    obtain⟨j,hj⟩:=List.mem_iff_getElem?.mp hr'
    have hji:j<i:=by have:=ap hj;rw[List.length_take]at this;omega
    rw[List.getElem?_take_of_lt hji]at hj
    have:=Me hdi hji hj hr
    have:=MK.n.inj e;omega
   generalize hids:(t.rs.take i).map (·.id)=ids at hnm hG0 ⊢
   have g2:GS (List.replicate (2 * i) []) (hpL 0 (rdH t ids (evN i) (odN i))) 2=some (.box (.agg [.mref 3,.mref 4])):=hG0 2 (by decide)
   have g3:GS (List.replicate (2 * i) []) (hpL 0 (rdH t ids (evN i) (odN i))) 3=some (.map none (kyN ids) (evN i)):=hG0 3 (by decide)
   have g4:GS (List.replicate (2 * i) []) (hpL 0 (rdH t ids (evN i) (odN i))) 4=some (.map none (kyN ids) (odN i)):=hG0 4 (by decide)
   refine AWP.dreg' λK hK=>?_
   try simp only[ak,ao,am,eq_self,implies_true,forall_eq_or_imp,forall_eq,Nat.reduceEqDiff,↓reduceIte,Nat.reduceAdd,Nat.reduceLeDiff,Nat.reduceSub,Nat.reduceMul,Nat.reduceLT,Int.reduceBEq,Int.reduceBNe,Int.reduceToNat,Int.reduceLT,Int.reduceLE,Int.reduceAdd,Int.reduceSub,Int.reduceMul,reduceCtorEq,g2,g3,g4,bL,AV.key,MK.fits,dO,hnm,if_false]
   refine⟨by rfl,hK _ _ _ ?_⟩
   clear hK K
   refine(show AWP _ _ _ _ _ _ from ?_)
   have w:IntKind.i64.wrap ((i:Int)+1)=((i+1:Nat):Int):=jQ (by omega) (by omega)
   refine AWP.reg' λK hK=>?_
   try simp only[ak,ao,am,eq_self,implies_true,forall_eq_or_imp,forall_eq,Nat.reduceEqDiff,↓reduceIte,Nat.reduceAdd,Nat.reduceLeDiff,Nat.reduceSub,Nat.reduceMul,Nat.reduceLT,Int.reduceBEq,Int.reduceBNe,Int.reduceToNat,Int.reduceLT,Int.reduceLE,Int.reduceAdd,Int.reduceSub,Int.reduceMul,reduceCtorEq,w]
   refine hK _ _ _ ?_
   clear hK K
   refine⟨i+1,by omega,by omega,?_⟩
   have hids':(t.rs.take (i+1)).map (·.id)=ids++[r.id]:=by rw[aU hr,List.map_append,hids];rfl
   rw[hids']
   have hky:kyN (ids++[r.id])=kyN ids++[MK.n r.id]:=by simp[kyN]
   refine aA.trans (aA.nilvecM (ks:=kyN ids++[.n r.id]) (vs:=evN i++[.sl 0 [] true]) 3 i 0 2 (by simp only[ah];rfl) (by rw[List.getElem?_append_right (by rw[kI];exact Nat.le_refl _),kI,Nat.sub_self];rfl) (Nat.zero_le _)) ?_
   refine aA.trans (aA.nilvecM (ks:=kyN ids++[.n r.id]) (vs:=odN i++[.sl 0 [] true]) 4 i 0 2 (by simp only[ah];rfl) (by rw[List.getElem?_append_right (by rw[kw];exact Nat.le_refl _),kw,Nat.sub_self];rfl) (Nat.zero_le _)) ?_
   refine aA.nfR cF _ _ _ (λb=>b) (λj=>if j=2 * i then 2272 else if j=2 * i+1 then 2272+1 else Fr j) ?_
    (oG (by omega) ?_ ?_ ?_ (by rw[hky];simp only[ah];rfl) (by rw[hky];simp only[ah];rfl) (K9 i 2272 _) (JL i 2272 _)) (by simp[rdH]) (by simp;omega) ?_ (λi j _ _ h=>h) ?_ ?_ (λb _=>rfl) (by decide)
   ·simp only[List.forall_mem_cons,List.not_mem_nil,false_implies,implies_true,and_true]
    exact⟨⟨rfl,show 0<2000 by omega⟩,⟨rfl,show 1<2000 by omega⟩,⟨rfl,show 2<2000 by omega⟩,⟨rfl,trivial⟩,⟨rfl,trivial⟩,rfl,trivial⟩
   ·simp only[ah];exact hG0 0 (by decide)
   ·simp only[ah];exact hG0 1 (by decide)
   ·simp only[ah];exact hG0 2 (by decide)
   ·intro j q hj
    rw[List.getElem?_replicate]at hj
    split at hj
    case isFalse=>cases hj
    cases hj
    rename_i hj2
    split
    ·rfl
    ·split
     ·rfl
     ·have:(List.replicate (2 * i) ([]:List Stp))[j]?=some []:=by rw[List.getElem?_replicate,if_pos (by omega)]
      simp only[ah,pk (show 3<1000 by omega),pk (show 4<1000 by omega),il (show j<1000 by omega) (show 2000≤2272 by omega),il (show j<1000 by omega) (show 2000≤2272+1 by omega),il (show j<1000 by omega) (show 2000≤2048 by omega),if_false]
      exact ic this (by simp;omega)
   ·intro a b ha hb he
    simp at ha hb
    unfold Fr at he
    (repeat' split at he)<;>omega
   ·intro a b ha hb he
    simp only[rdH,List.length_cons,List.length_nil]at ha
    unfold Fr at he
    (repeat' split at he)<;>omega
  ·have h:i=t.rs.length:=by have:=of_decide_eq_false h;omega
   subst h
   refine AWP.exit ?_
   refine(show aA 0 k _ _ from ?_)
   unfold rdS
   rw[List.take_length]
   refine aA.nfR cF _ _ _ (λb=>b) Fr ?_ (oG (by omega) rfl rfl rfl rfl rfl rfl rfl) (by simp[rdH]) (by simp;omega) (λj r hr=>ic hr (by simp;omega)) (λi j _ _ h=>h) (λi j _ _ h=>by unfold Fr at h;omega) (λi j h1 h2 h=>by simp[rdH]at h1;unfold Fr at h;omega) (λb _=>rfl) (by decide)
   simp only[List.forall_mem_cons,List.not_mem_nil,false_implies,implies_true,and_true]
   exact⟨⟨rfl,show 0<2000 by omega⟩,⟨rfl,show 1<2000 by omega⟩,rfl,show 2<2000 by omega⟩
end Go.Proofs.YtdoacjojljgdcaaGreat
