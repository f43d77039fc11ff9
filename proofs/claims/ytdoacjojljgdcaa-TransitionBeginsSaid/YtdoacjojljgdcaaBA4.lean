/- Texts joined: Mx8 G0 G1 G2 TP0 LP P0 TC1 TC2 ML SH1 TC3 TC4 FM SH2 RD1 RD2 RD3 Mx7. -/
import Derived.Test.YtdoacjojljgdcaaProg
import Derived.Shelf.SlSortCmp.NoneTotal
import Derived.Shelf.SlSortCmp.WholeK
import Derived.Test.YtdoacjojljgdcaaBA3
set_option linter.unusedVariables false
set_option linter.unusedSimpArgs false
set_option linter.unusedSectionVars false
namespace Go.Am
inductive Ax (P:Program) (Sf:Nat→Type) (T:Type):Type 1 where
  | say (φ:Prop→Prop) (a:Ax P Sf T)
  | nil
  | pass (a:Ax P Sf T)
  | br (g:Nat) (c:Bool) (x y:Ax P Sf T)
  | el (f:Nat) {α:Type} (v:α→AV) (l:List α) (Q:(α→Prop)→Prop) (k:α→Ax P Sf T)
  | elA (f:Nat) {α:Type} (v:α→List AV) (l:List α) (i n:Nat) (hv:∀x,(v x).length=n) (Q:(α→Prop)→Prop) (k:α→Ax P Sf T)
  | st (f:Nat) {α:Type} (v:α→AV) (l:List α) (g:α→α) (Q:(α→Prop)→Prop) (k:α→Ax P Sf T)
  | stI (f:Nat) {α:Type} (v:α→AV) (l:List α) (Q:(α→Prop)→Prop) (k:α→Ax P Sf T)
  | app (f:Nat) {α:Type} (v:α→AV) (l xs:List α) (a:Ax P Sf T)
  | appF (f:Nat) {α:Type} (v:α→AV) (l xs:List α) (a:Ax P Sf T)
  | sub (f:Nat) {α:Type} (v:α→AV) (l:List α) (fl:Bool) (a:Ax P Sf T)
  | rep (f:Nat) {α:Type} (v:α→AV) (x:α) (a:Ax P Sf T)
  | own (f:Nat) (a:Ax P Sf T)
  | mn (f:Nat) (q:MN) (a:Ax P Sf T)
  | req (f:Nat) (p:Prop) (k:p→Ax P Sf T)
  | callP (c:PC P) (a:Ax P Sf T)
  | callH (bs:List Nat) (c:HC P) (f:Nat) (a:Ax P Sf T)
  | callA (c:PC P) (h:aH c.args) (a:Ax P Sf T)
  | cmd (c:Cmd) (a:Ax P Sf T)
  | cmdL (c:Cmd) (a:Ax P Sf T)
  | wait (a:Ax P Sf T)
  | loop (j:Nat) (nf:Sf j→NF) (I:Sf j→Prop) (mu:Sf j→Nat) (s0:Sf j) (bs:List Nat) (body:Sf j→(Sf j→List Nat→Prop)→Ax P Sf T)
  | join (j:Nat) (nf:Sf j→NF) (I:Sf j→Prop) (a:(Sf j→List Nat→Prop)→Ax P Sf T) (body:Sf j→Ax P Sf T)
  | join2 (j:Nat) (nf:Sf j→NF) (I:Sf j→Prop) (a:(Sf j→List Nat→Prop)→Ax P Sf T) (body:Sf j→Ax P Sf T)
  | bk (j:Nat) (b:Sf j→List Nat→Prop) (t:Sf j) (bs:List Nat)
  | hand (k0:Nat) (cs:List Cmd) (m1:NF) (bs:List Nat) (s2:S3) (c:AC) (h:∀n,dl P k0 n c m1.st s2) (a:Ax P Sf T)
  | hand2 (k0:Nat) (s1 s2:S3) (c:AC) (h:∀n,dl P k0 n c s1 s2) (a:Ax P Sf T)
  | handQ (k0:Nat) (m1:NF) (bs:List Nat) (s2:S3) (c:AC) (p:Prop) (h:p→∀n,dl P k0 n c m1.st s2) (a:Ax P Sf T)
  | allB (c:Bool→Prop) (k:Bool→Ax P Sf T)
  | elX (f:Nat) {α:Type} (v:α→AV) (l:List α) (i:Nat) (k:α→Ax P Sf T)
  | elI (f:Nat) {α:Type} (v:α→AV) (l:List α) (i:Int) (k:α→Ax P Sf T)
  | elJ (f:Nat) {α:Type} (v:α→AV) (l:List α) (i:Int) (k:α→Ax P Sf T)
  | stX (f:Nat) {α:Type} (v:α→AV) (l:List α) (i:Nat) (g:α→α) (k:α→Ax P Sf T)
  | stJ (f:Nat) {α:Type} (v:α→AV) (l:List α) (i:Int) (g:α→α) (k:α→Ax P Sf T)
  | fz (b:Nat) {α:Type} (v:α→AV) (l:List α) (h:∀x,(v x).pureB=true) (a:Ax P Sf T)
  | apX (f:Nat) {α:Type} (v:α→AV) (l xs:List α) (n:Nat) (a:Ax P Sf T)
  | ap0 (f:Nat) {α:Type} (v:α→AV) (l xs:List α) (a:Ax P Sf T)
  | unr (n:Nat) (a:Ax P Sf T)
  | ret (r:T)
  | retH (r:T) (m:NF) (bs:List Nat)
section
variable {P : Program} {Sf : Nat → Type} {T : Type}
def Ax.an:Ax P Sf T→An P Sf T
 | .say _ a=>a.an
 | .nil=>.nil
 | .pass a=>.pass a.an
 | .br g _ x y=>.br g x.an y.an
 | .el f v l _ k=>.el f v l λx=>(k x).an
 | .elA f v l i n hv _ k=>.elA f v l i n hv λx=>(k x).an
 | .st f v l g _ k=>.st f v l g λx=>(k x).an
 | .stI f v l _ k=>.stI f v l λx=>(k x).an
 | .app f v l xs a=>.app f v l xs a.an
 | .appF f v l xs a=>.appF f v l xs a.an
 | .sub f v l fl a=>.sub f v l fl a.an
 | .rep f v x a=>.rep f v x a.an
 | .own f a=>.own f a.an
 | .mn f q a=>.mn f q a.an
 | .req f p k=>.req f p λh=>(k h).an
 | .callP c a=>.callP c a.an
 | .callH bs c _ a=>.callH bs c a.an
 | .callA c h a=>.callA c h a.an
 | .cmd c a=>.cmd c a.an
 | .cmdL c a=>.cmdL c a.an
 | .wait a=>.wait a.an
 | .loop j nf I mu s0 bs body=>.loop j nf I mu s0 bs λt=>(body t λ_ _=>True).an
 | .join j nf I a body=>.join j nf I (a λ_ _=>True).an λt=>(body t).an
 | .join2 j nf I a body=>.join2 j nf I (a λ_ _=>True).an λt=>(body t).an
 | .bk j _ t bs=>.back j t bs
 | .hand k0 cs m1 bs s2 c h a=>.hand k0 cs m1 bs s2 c h a.an
 | .hand2 k0 s1 s2 c h a=>.hand2 k0 s1 s2 c h a.an
 | .handQ k0 m1 bs s2 c p h a=>.handQ k0 m1 bs s2 c p h a.an
 | .allB _ k=>(k true).an
 | .elX f v l _ k=>.el f v l λx=>(k x).an
 | .elI f v l _ k=>.el f v l λx=>(k x).an
 | .elJ f v l _ k=>.el f v l λx=>(k x).an
 | .stX f v l _ g k=>.st f v l g λx=>(k x).an
 | .stJ f v l _ g k=>.st f v l g λx=>(k x).an
 | .fz b v l h a=>.cmdL (.frzE b (l.map v) (am h l)) a.an
 | .apX f v l xs _ a=>.app f v l xs a.an
 | .ap0 f v l xs a=>.app f v l xs a.an
 | .unr n a=>.unr n a.an
 | .ret r=>.ret r
 | .retH r m bs=>.retH r m bs
def Ax.vc(e:T→AV)(b:T→List (Option Blk))(r0:T):Ax P Sf T→Prop
 | .say φ a=>φ (a.vc e b r0)
 | .nil=>True
 | .pass a=>a.vc e b r0
 | .br _ c x y=>Go.Am.br c (x.vc e b r0) (y.vc e b r0)
 | .el _ _ _ Q k=>Q λx=>(k x).vc e b r0
 | .elA _ _ _ _ _ _ Q k=>Q λx=>(k x).vc e b r0
 | .st _ _ _ _ Q k=>Q λx=>(k x).vc e b r0
 | .stI _ _ _ Q k=>Q λx=>(k x).vc e b r0
 | .app _ _ _ _ a=>a.vc e b r0
 | .appF _ _ _ _ a=>a.vc e b r0
 | .sub _ _ _ _ a=>a.vc e b r0
 | .rep _ _ _ a=>a.vc e b r0
 | .own _ a=>a.vc e b r0
 | .mn _ q a=>q.say (a.vc e b r0)
 | .req _ p k=>∃h:p,(k h).vc e b r0
 | .callP c a=>Cl c (a.vc e b r0)
 | .callH bs c f a=>Ch c bs f (a.vc e b r0)
 | .callA c _ a=>Cl c (a.vc e b r0)
 | .cmd _ a=>a.vc e b r0
 | .cmdL _ a=>a.vc e b r0
 | .wait a=>a.vc e b r0
 | .loop _ nf I mu s0 bs body=>Be nf bs I s0∧∀t,I t→(body t λx bs=>Bk nf bs I mu x t).vc e b r0
 | .join _ nf I a body=>(a λx bs=>Be nf bs I x).vc e b r0∧∀t,I t→(body t).vc e b r0
 | .join2 _ nf I a body=>(a λx bs=>Be nf bs I x).vc e b r0∧∀t,I t→(body t).vc e b r0
 | .bk _ b t bs=>b t bs
 | .hand _ _ m1 bs _ c _ a=>Nf m1 bs (Rf c (a.vc e b r0))
 | .hand2 _ s1 _ c _ a=>Rf s1 (Rf c (a.vc e b r0))
 | .handQ _ m1 bs _ c p _ a=>Nf m1 bs (Rf c (p∧a.vc e b r0))
 | .allB c k=>∀x,c x→(k x).vc e b r0
 | .elX _ v l i k=>Rf (l.map v) (ck (decide (i<l.length)) (∀x,l[i]?=some x→(k x).vc e b r0))
 | .elI _ v l i k=>Rf (l.map v) (ck (decide (0≤i)) (ck (decide (i<(l.length:Int))) (∀x,l[i.toNat]?=some x→(k x).vc e b r0)))
 | .elJ _ v l i k=>ck (cond (decide (0≤i)) (decide (i<((l.map v).length:Int))) false) (Rf (l.map v) (ck (decide (i.toNat<l.length)) (∀x,l[i.toNat]?=some x→(k x).vc e b r0)))
 | .stX _ v l i g k=>Rf (l.map v) (ck (decide (i<l.length)) (∀o,l[i]?=some o→Rf (v (g o)) ((k o).vc e b r0)))
 | .stJ _ v l i g k=>ck (cond (decide (0≤i)) (decide (i<((l.map v).length:Int))) false) (Rf (l.map v) (ck (decide (i.toNat<l.length)) (∀o,l[i.toNat]?=some o→Rf (v (g o)) ((k o).vc e b r0))))
 | .fz _ v l _ a=>Rf (l.map v) (a.vc e b r0)
 | .apX _ v l xs n a=>Rf (l.map v) (Rf (xs.map v) (ck (decide (n≤1048576)) (a.vc e b r0)))
 | .ap0 _ v l xs a=>Rf (l.map v) (Rf (xs.map v) (a.vc e b r0))
 | .unr _ a=>a.vc e b r0
 | .ret r=>Rp e r r0
 | .retH r m bs=>Qt m bs e b r r0
def Ax.vp(e:T→AV)(r0:T)(x:Ax P Sf T):Prop:=x.vc e (λ_=>[]) r0
end
def rR(r b:Nat):Nat×Sh×AV:=(r,.k,.ref b 0)
def rI(r:Nat)(x:Int):Nat×Sh×AV:=(r,.k,.int x)
def rB(r:Nat)(x:Bool):Nat×Sh×AV:=(r,.k,.bool x)
def rV(r b:Nat):Nat×Sh×AV:=(r,.k,.vec b)
def vB(k:Nat){α:Type}(v:α→AV)(l:List α)(h:∀x,(v x).pureB=true):PB:=.vec k (l.map v) (am h l)
def pcO{P:Program}{Sf:Nat→Type}{T:Type}(f:FuncId)(shs:List Sh)(args:List AV)(sh:Sh)(e:T→AV)(r:T)(h:okL args→∃x:Ax P Sf T,x.vp e r∧mxP P f args sh e x.an r=x.vp e r)(hp:(e r).pureB=true)(hf:fnB P f=true):PC P:=
 ⟨f,shs,args,e r,bv.of_ok λok=>(h ok).elim λ_ h=>DR h.1 h.2 (AV.pureB_ok hp),ga hf⟩
def hcO{P:Program}{Sf:Nat→Type}{T:Type}(f:FuncId)(shs:List Sh)(args:List AV)(hs:List Blk)(sh:Sh)(e:T→AV)(b:T→List (Option Blk))(r:T)(h:okL args→(∀x∈hs,x.ok)→∃x:Ax P Sf T,x.vc e b r∧mxH P f args hs sh e b x.an r=x.vc e b r)(hf:fnB P f=true)(hg:hcB args hs (e r) (b r)=true):HC P:=
 ⟨f,shs,args,hs,e r,b r,aI.of_okh λok ok2=>(h ok ok2).elim λ_ h=>xH h.1 h.2,ga hf,qt.of hg⟩
@[reducible] def noS:Nat→Type:=λ_=>Unit
end Go.Am
namespace Go.Proofs.Ytdoacjojljgdcaa
open Go Go.Am
structure Tap where
  L:List Int
  p:Nat
structure oB where
  L:List Int
  p:Int
def Tap.v(x:Tap):AV:=.agg [.sl 1 (x.L.map AV.int) false,.int x.p]
def oB.v(x:oB):AV:=.agg [.sl 1 (x.L.map AV.int) false,.int x.p]
def Mod(x n:Int):Int:=if n<1 then 0 else if x.tmod n<0 then x.tmod n+n else x.tmod n
theorem eK{x n:Int}(h:1≤n):0≤Mod x n∧Mod x n<n:=by
 have hb:=Int.tmod_lt_of_pos x (show 0<n by omega);have hb':=Int.lt_tmod_of_pos x (show 0<n by omega)
 unfold Mod;split
 ·omega
 split<;>omega
def ab(L:List Int)(p:Nat):Nat:=if L.length≤p then p else p+1
def ay(L:List Int)(p:Nat):Int:=L.getD p 0
def rng(L:List Int)(p:Nat)(lo hi:Int):Int:=W (lo+Mod (ay L p) (W (W (hi-lo)+1)))
def dq(l:List Int)(r:Int):Int:=l.getD (Mod r l.length).toNat 0
def orI(l:List Int):Int:=(l.find? (· != 0)).getD 0
def cmpI(x y:Int):Int:=if x<y then -1 else if y<x then 1 else 0
def lJ(x:Int):Bool:=false
theorem d7{k n:Nat}(h:k<n)(hn:n≤9223372036854775807):W ((k:Int)+1)=((k+1:Nat):Int):=by rw[dc (by omega)];omega
theorem oA{k:Nat}(h:k≤9223372036854775807)(h1:1≤k):W ((k:Int)-1)=((k-1:Nat):Int):=by rw[dc (by omega)];omega
def uc(r:Bool):AV:=.bool r
def nS(x:Int):Ax Try.prog noS (Bool):=
 (.ret (x != x))
theorem Bv(x:Int):(nS x).vp uc (lJ x):=by
 dsimp only[nS,noS,Ax.vp,Ax.vc];simp only[vcU,rfU,B'];simp[lJ]
def ud(x:Int):PC Try.prog:=pcO 70 [.k] [.int x] .k uc (lJ x) (λ_=>⟨(nS x),Bv x,by kernel_rfl⟩) rfl (by kernel_rfl)
def zf(r:Int):AV:=.int r
def sD(x:Int)(y:Int):Ax Try.prog noS (Int):=
 (.callP (ud x)
(.callP (ud y)
(.br 128 (lJ x) (.br 144 (lJ y) (.ret (0))
(.ret (-1)))
(.br 144 (lJ y) (.ret (1))
(.br 192 (decide (x<y)) (.ret (-1))
(.br 240 (decide (y<x)) (.ret (1))
(.ret (0))))))))
theorem EE(x y:Int):(sD x y).vp zf (cmpI x y):=by
 dsimp only[sD,noS,Ax.vp,Ax.vc];simp only[vcU,rfU,B'];simp only[lJ,aM',false_implies,true_implies,true_and,cmpI];refine⟨λh=>by rw[F' h],λh=>⟨λh2=>by rw[E' h,F' h2],λh2=>by rw[E' h,E' h2]⟩⟩
def sE(x:Int)(y:Int):PC Try.prog:=pcO 58 [.k,.k] [.int x,.int y] .k zf (cmpI x y) (λ_=>⟨(sD x y),EE x y,by kernel_rfl⟩) rfl (by kernel_rfl)
theorem vJ{l:List Int}{k:Nat}{x:Int}(h:l.take k |>.all (·==0))(hx:l[k]?=some x)(hn:x≠0):l.find? (· != 0)=some x:=by
 rw[List.find?_eq_some_iff_getElem];refine⟨by simpa using hn,k,ao hx,by rw[u' (ao hx)]at hx;exact af' hx,λj hj=>?_⟩;have:=aE'.mp h (l[j]'(by have:=ao hx;omega)) (bF'.mpr ⟨j,by have:=ao hx;omega,rfl⟩);simpa using this
def bE{α:Type}(es:List α)(i:Nat)(x:α):List α:=es.take i++[x]++es.drop i
def putP(l:List Int)(x:Int):Nat:=l.findIdx (λy=>!decide (y<x))
def put(l:List Int)(x:Int):List Int:=if l[putP l x]?=some x then l else bE l (putP l x) x
structure Rtr where
  id:Int
  cap:Bool
  deriving DecidableEq
structure Lnk where
  a:Int
  b:Int
  ca:Int
  cb:Int
  w:Int
  deriving DecidableEq
structure Tpl where
  rs:List Rtr
  ls:List Lnk
  deriving DecidableEq
theorem vz{α:Type}{l:List α}{k:Nat}{x:α}:((l.take k).drop 0)++([x]++((l.take ((l.length:Int).toNat)).drop k))=bE l k x:=by
 rw[Int.toNat_natCast,List.take_length,bR',bE,aS']
def Rtr.v(x:Rtr):AV:=.agg [.int x.id,.bool x.cap]
def Lnk.v(x:Lnk):AV:=.agg [.int x.a,.int x.b,.int x.ca,.int x.cb,.int x.w]
def Tpl.v(x:Tpl):AV:=.agg [.sl 2 (x.rs.map Rtr.v) false,.sl 5 (x.ls.map Lnk.v) false]
def G(rows:List (List Bool))(h:Hp):Hp:=λb=>if 1000≤b∧b<2000 then(rows[b-1000]?).map (λr=>Blk.vec 1 (r.map AV.bool))else h b
def F(i:Nat):Nat:=1000+i
def names(n:Nat):List AV:=(List.range n).map λi=>.vec (F i)
def mset(M:List (List Bool))(x y:Nat):List (List Bool):=M.set x ((M.getD x []).set y true)
def Sq(n:Nat)(M:List (List Bool)):Prop:=M.length=n∧∀r∈M,r.length=n
theorem Sq.get{n:Nat}{M:List (List Bool)}(h:Sq n M){x:Nat}(hx:x<n):∃r,M[x]?=some r∧r.length=n∧M.getD x []=r:=by
 have hx:x<M.length:=by rw[h.1];exact hx
 exact⟨M[x],u' hx,h.2 _ (aK' hx),by simp[List.getD,u' hx]⟩
theorem Sq.set{n:Nat}{M:List (List Bool)}(h:Sq n M)(x y:Nat):Sq n (mset M x y):=by
 refine⟨by simp[mset,h.1],λr hr=>?_⟩
 by_cases hx:x<n
 ·obtain⟨r0,g1,g2,g3⟩:=h.get hx
  rcases aj' hr with hr|rfl
  ·exact h.2 r hr
  ·rw[g3];simpa using g2
 ·have:mset M x y=M:=List.set_eq_of_length_le (by rw[h.1];omega);rw[this]at hr;exact h.2 r hr
section
variable {α : Type} {l : List α} {P : α → Prop} {R : α → α → Prop} {t : Int} {x y : α}
theorem xo{i n:Int}(h1:0≤i)(h2:i<n):(bif decide (0≤i)then decide (i<n)else false)=true:=by
 rw[decide_eq_true h1,decide_eq_true h2];rfl
def dE(l:List α)(P:α→Prop)(t:Int):Prop:=∃k:Nat,t=k∧k≤l.length∧∀x∈l.take k,P x
theorem dE.zero:dE l P 0:=⟨0,rfl,by omega,by simp⟩
theorem dE.idx(h:dE l P t):0≤t:=by obtain⟨k,rfl,_,_⟩:=h;omega
theorem dE.step(h:dE l P t)(hl:l.length≤9223372036854775807)(hx:l[t.toNat]?=some x)(p:P x):dE l P (W (t+1))∧l.length-(W (t+1)).toNat<l.length-t.toNat:=by
 obtain⟨k,rfl,hk,ha⟩:=h;rw[Int.toNat_natCast]at hx;have:=ao hx;rw[d7 (n:=l.length) this hl];refine⟨⟨k+1,rfl,by omega,λz hz=>?_⟩,by omega⟩;rw[bp hx]at hz
 rcases ac'.mp hz with hz|hz
 ·exact ha z hz
 ·rw[P']at hz;exact hz ▸ p
theorem dE.done(h:dE l P t)(c:¬t<l.length):∀x∈l,P x:=by
 obtain⟨k,rfl,hk,ha⟩:=h;rw[ah' (by omega)]at ha;exact ha
theorem sO(hx:l[t.toNat]?=some x):x∈l:=bx hx
def mr{σ:Type}(l:List α)(g:σ→α→σ)(s0:σ)(t:Int)(s:σ):Prop:=∃k:Nat,t=k∧k≤l.length∧s=(l.take k).foldl g s0
section
variable {σ : Type} {g : σ → α → σ} {s0 s : σ}
theorem mr.zero:mr l g s0 0 s0:=⟨0,rfl,by omega,rfl⟩
theorem mr.idx(h:mr l g s0 t s):0≤t:=by obtain⟨k,rfl,_,_⟩:=h;omega
theorem mr.step(h:mr l g s0 t s)(hl:l.length≤9223372036854775807)(hx:l[t.toNat]?=some x){s':σ}(p:s'=g s x):mr l g s0 (W (t+1)) s'∧l.length-(W (t+1)).toNat<l.length-t.toNat:=by
 obtain⟨k,rfl,hk,rfl⟩:=h;rw[Int.toNat_natCast]at hx;have:=ao hx;rw[d7 (n:=l.length) this hl];exact⟨⟨k+1,rfl,by omega,by rw[bp hx,bt',p];rfl⟩,by omega⟩
theorem mr.done(h:mr l g s0 t s)(c:¬t<l.length):s=l.foldl g s0:=by
 obtain⟨k,rfl,hk,rfl⟩:=h;rw[ah' (by omega)]
end
def ka{β:Type}(l:List α)(f:α→List β)(t:Int)(out:List β):Prop:=∃k:Nat,t=k∧k≤l.length∧out=(l.take k).flatMap f
section
variable {β : Type} {f : α → List β} {out : List β}
theorem ka.zero:ka l f 0 []:=⟨0,rfl,by omega,rfl⟩
theorem ka.idx(h:ka l f t out):0≤t:=by obtain⟨k,rfl,_,_⟩:=h;omega
theorem ka.step(h:ka l f t out)(hl:l.length≤9223372036854775807)(hx:l[t.toNat]?=some x){out':List β}(p:out'=out++f x):ka l f (W (t+1)) out'∧l.length-(W (t+1)).toNat<l.length-t.toNat:=by
 obtain⟨k,rfl,hk,rfl⟩:=h;rw[Int.toNat_natCast]at hx;have:=ao hx;rw[d7 (n:=l.length) this hl];exact⟨⟨k+1,rfl,by omega,by rw[bp hx,bl',p];simp⟩,by omega⟩
theorem ka.done(h:ka l f t out)(c:¬t<l.length):out=l.flatMap f:=by
 obtain⟨k,rfl,hk,rfl⟩:=h;rw[ah' (by omega)]
theorem ka.len(h:ka l f t out){b:Nat}(hb:∀x∈l,(f x).length≤b):out.length≤l.length * b:=by
 obtain⟨k,rfl,hk,rfl⟩:=h;have key:∀m:List α,(∀x∈m,(f x).length≤b)→(m.flatMap f).length≤m.length * b:=by
  intro m
  induction m with
  | nil=>intro _;simp
  | cons x m ih =>
   intro hm;have h1:=hm x (by simp);have h2:=ih λy hy=>hm y (by simp[hy]);rw[az',List.length_append,ab',Nat.succ_mul];omega
 refine aW' (key _ λx hx=>hb x (Z' hx)) (am' _ ?_);rw[ar'];omega
end
def fp(p:α→Bool)(l:List α):Int:=if l.any p=true then((l.findIdx p:Nat):Int)else -1
theorem dE.found{p:α→Bool}(h:dE l (λy=>p y=false) t)(hx:l[t.toNat]?=some x)(hp:p x=true):t=fp p l:=by
 obtain⟨k,rfl,hk,ha⟩:=h;rw[Int.toNat_natCast]at hx;rw[fp,F' (aF'.mpr ⟨x,bx hx,hp⟩)];have:l.findIdx p=k:=by
  have hlt:=ao hx;rw[u' hlt]at hx;have hx:=af' hx;rw[List.findIdx_eq hlt];refine⟨by rw[hx];exact hp,λj hj=>?_⟩;exact ha _ (bF'.mpr ⟨j,by omega,rfl⟩)
 rw[this]
theorem dE.lost{p:α→Bool}(h:dE l (λy=>p y=false) t)(c:¬t<l.length):-1=fp p l:=by
 rw[fp,E'];rw[aF'];rintro⟨x,hx,hp⟩;rw[h.done c x hx]at hp;cases hp
theorem js(p:α→Bool)(l:List α):decide (0≤fp p l)=l.any p:=by
 unfold fp
 cases l.any p
 ·rfl
 ·rw[F' rfl];exact decide_eq_true (by omega)
end
def gb(n:Int):Bool:=decide (1≤n) && decide (n≤1000)
def aJ(t:Tpl)(r:Int):Bool:=t.rs.any λx=>x.id==r
def iG(l:Lnk):Prop:=gb l.ca=true∧gb l.cb=true∧0≤l.w∧l.w≤1000
instance (l:Lnk):Decidable (iG l):=by unfold iG;infer_instance
def aU(x y:Lnk):Prop:=x.a<y.a∨x.a=y.a∧x.b<y.b
instance (x y:Lnk):Decidable (aU x y):=by unfold aU;infer_instance
def aF(t:Tpl):Int:=
 if 24<t.rs.length∨60<t.ls.length then 3
 else if ¬∀x∈t.rs,1≤x.id∧x.id≤99 then 2
 else if ¬t.rs.Pairwise (λx y=>x.id<y.id)then 25
 else if ¬∀l∈t.ls,iG l then 2
 else if ¬∀l∈t.ls,aJ t l.a=true∧aJ t l.b=true then 4
 else if ¬∀l∈t.ls,l.a<l.b then 8
 else if ¬t.ls.Pairwise aU then 25 else 0
def gN(f g:Int)(l:Lnk):Bool:=(l.a==f && l.b==g) || (l.b==f && l.a==g)
def dz(t:Tpl)(f g:Int):Int×Bool:=match t.ls.find? (gN f g)with
 | some l=>(if(l.a==f && l.b==g)=true then l.ca else l.cb,true)
 | none=>(0,false)
def DP(t:Tpl)(r:Int):List Int:=t.rs.flatMap λx=>if(dz t r x.id).2=true then [x.id]else []
theorem cX{t:Tpl}(h:aF t=0):t.rs.length≤24∧t.ls.length≤60:=by
 unfold aF at h
 by_cases c:24<t.rs.length∨60<t.ls.length
 ·rw[F' c]at h;cases h
 ·omega
def hs5(t:Tpl)(r:Int):Bool:=(aF t==0) && aJ t r
def bo(t:Tpl)(f g:Int):Int×Bool:=if aF t≠0 then(0,false)else dz t f g
theorem CS(i j:Nat)(h:i≤j)(hj:j≤1000000):W ((IntKind.u64.wrap (W ((i:Int)+j))).fdiv 2)=(((i+j) / 2:Nat):Int):=by
 have e1:W ((i:Int)+j)=((i+j:Nat):Int):=dc ⟨by omega,by omega⟩;rw[e1];have e2:IntKind.u64.wrap ((i+j:Nat):Int)=((i+j:Nat):Int):=by simp[IntKind.wrap,IntKind.signed,IntKind.bits];omega
 rw[e2,show Int.fdiv ((i+j:Nat):Int) 2=(((i+j) / 2:Nat):Int) by rw[Int.fdiv_eq_ediv_of_nonneg _ (by omega)];rfl];exact dc ⟨by omega,by omega⟩
theorem kS(x y:Int):cmpI x y<0↔x<y:=by
 unfold cmpI;split
 ·simp_all
 ·split<;>simp_all
theorem j4(x y:Int):cmpI x y=0↔x=y:=by
 unfold cmpI;split
 ·simp;omega
 ·split
  ·simp;omega
  ·simp;omega
def bsI{α:Type}(lt:α→Bool)(l:List α):Nat→Nat→Nat→Nat
 | 0,i,_=>i
 | f+1,i,j=>if i<j then(match l[(i+j) / 2]? with
  | some x=>if lt x=true then bsI lt l f ((i+j) / 2+1) j else bsI lt l f i ((i+j) / 2)
  | none=>i)else i
theorem fN{α:Type}{lt:α→Bool}{l:List α}:∀{f g i j:Nat},j-i≤f→j-i≤g→bsI lt l f i j=bsI lt l g i j
 | 0,0,i,j,_,_=>rfl
 | 0,g+1,i,j,h,_=>by rw[bsI,bsI,E' (by omega)]
 | f+1,0,i,j,_,h=>by rw[bsI,bsI,E' (by omega)]
 | f+1,g+1,i,j,h,h'=>by
  rw[bsI,bsI]
  split
  ·split
   ·split
    ·exact fN (by omega) (by omega)
    ·exact fN (by omega) (by omega)
   ·rfl
  ·rfl
def bsP{α:Type}(lt:α→Bool)(l:List α):Nat:=bsI lt l l.length 0 l.length
def bsH{α:Type}(lt eq:α→Bool)(l:List α):Bool:=(l[bsP lt l]?).any eq
theorem j5{α:Type}{lt:α→Bool}{l:List α}(hm:∀(a b:Nat) x y,a<b→l[a]?=some x→l[b]?=some y→lt y=true→lt x=true):∀{f i j:Nat},j-i≤f→i≤j→j≤l.length →
  (∀k x,k<i→l[k]?=some x→lt x=true)→(∀k x,j≤k→l[k]?=some x→lt x=false)→(∀k x,k<bsI lt l f i j→l[k]?=some x→lt x=true)∧(∀k x,bsI lt l f i j≤k→l[k]?=some x→lt x=false)∧bsI lt l f i j≤l.length
 | 0,i,j,h,hij,hj,h1,h2=>by
  obtain rfl:i=j:=by omega
  rw[bsI];exact⟨h1,h2,hj⟩
 | f+1,i,j,h,hij,hj,h1,h2=>by
  rw[bsI]
  by_cases hlt:i<j
  ·have hx:=u' (show(i+j) / 2<l.length by omega);generalize l[(i+j) / 2]=x at hx;rw[F' hlt,hx]
   by_cases e:lt x=true
   ·simp only[e,if_true];refine j5 hm (by omega) (by omega) hj (λk y hk hy=>?_) h2
    by_cases e':k=(i+j) / 2
    ·subst e';rw[hx]at hy;cases hy;exact e
    ·exact hm k _ y x (by omega) hy hx e
   ·simp only[e,if_false,aM'];refine j5 hm (by omega) (by omega) (by omega) h1 (λk y hk hy=>?_)
    by_cases e':k=(i+j) / 2
    ·subst e';rw[hx]at hy;cases hy;simpa using e
    ·cases q:lt y
     ·rfl
     ·exact absurd (hm _ k x y (by omega) hx hy q) e
  ·obtain rfl:i=j:=by omega
   rw[E' hlt];exact⟨h1,h2,hj⟩
theorem uE{α:Type}{lt eq:α→Bool}{l:List α}(hm:∀(a b:Nat) x y,a<b→l[a]?=some x→l[b]?=some y→lt y=true→lt x=true)(he:∀x,eq x=true→lt x=false)
  (h2:∀(a b:Nat) x y,a<b→l[a]?=some x→l[b]?=some y→eq y=true→lt x=true):(bsH lt eq l=l.any eq)∧∀x∈l,eq x=true→l[bsP lt l]?=some x:=by
 obtain⟨s1,s2,s3⟩:=j5 hm (f:=l.length) (i:=0) (j:=l.length) (by omega) (by omega) (S' _) (λk x hk=>by omega) (λk x hk hx=>by have:=ao hx;omega);have key:∀x∈l,eq x=true→l[bsP lt l]?=some x:=λx hx e=>by
  obtain⟨k,hk⟩:=Y'.mp hx;have h3:bsP lt l≤k:=Nat.le_of_not_lt λh=>by
   have:=s1 k x h hk;rw[he x e]at this;cases this
  by_cases e':bsP lt l=k
  ·rw[e'];exact hk
  ·have hl:=ao hk;have hy:=u' (show bsP lt l<l.length by omega);have a:=h2 _ k _ x (by omega) hy hk e;have b:=s2 _ _ (S' _) hy;rw[a]at b;cases b
 refine⟨?_,key⟩;rw[aR',aF',bsH]
 constructor
 ·intro h;cases q:l[bsP lt l]? with
  | none=>rw[q]at h;cases h
  | some x=>rw[q]at h;exact⟨x,J' q,h⟩
 ·rintro⟨x,hx,e⟩;rw[key x hx e];exact e
def inT(n a b:Int):Bool:=decide (a≤n) && decide (n≤b)
def CR(r:Bool):AV:=.bool r
def yd(n:Int)(least:Int)(most:Int):Ax Try.prog noS (Bool):=
 (.br 80 (decide (least≤n)) (.ret (decide (n≤most)))
(.ret (false)))
theorem inT_p(n a b:Int):(yd n a b).vp CR (inT n a b):=by
 dsimp only[yd,noS,Ax.vp,Ax.vc];simp only[vcU,rfU,B'];unfold inT;exact⟨λh=>by simp[h],λh=>by simp[h]⟩
def mO(n:Int)(least:Int)(most:Int):PC Try.prog:=pcO 39 [.k,.k,.k] [.int n,.int least,.int most] .k CR (inT n least most) (λ_=>⟨(yd n least most),inT_p n least most,by kernel_rfl⟩) rfl (by kernel_rfl)
def byI(r:Rtr)(id:Int):Int:=cmpI r.id id
def CT(r:Int):AV:=.int r
def zx(r:Rtr)(id:Int):Ax Try.prog noS (Int):=
 (.callP (sE r.id id)
(.ret (cmpI r.id id)))
theorem byI_p(r:Rtr)(id:Int):(zx r id).vp CT (byI r id):=by
 dsimp only[zx,noS,Ax.vp,Ax.vc];simp only[vcU,rfU,B'];rfl
def CU(r:Rtr)(id:Int):PC Try.prog:=pcO 75 [.k,.k] [Rtr.v r,.int id] .k CT (byI r id) (λ_=>⟨(zx r id),byI_p r id,by kernel_rfl⟩) rfl (by kernel_rfl)
def ltR(r:Int)(x:Rtr):Bool:=decide (x.id<r)
def eqR(r:Int)(x:Rtr):Bool:=x.id==r
def nB(l:List Rtr)(r:Int):Nat:=bsP (ltR r) l
def kG(l:List Rtr)(r:Int):Bool:=bsH (ltR r) (eqR r) l
def CZ(x:List Rtr)(target:Int):=okL [.sl 2 (x.map Rtr.v) false,.int target,.func 75 []]
def EZ(x:List Rtr)(target:Int)(t0:Int×Int):NF:=⟨[(0,.k,.sl 2 (x.map Rtr.v) false),rI 1 target,(2,.k,.func 75 []),rI 8 ((x.map Rtr.v).length:Int),rI 9 t0.1,rI 10 t0.2],[]⟩
@[reducible] def CW:Nat→Type
 | 0=>Int×Int
 | _=>Unit
def CX(r:Int×Bool):AV:=.tup [.int r.1,.bool r.2]
def CV(x:List Rtr)(target:Int)(I0:(Int×Int)→Prop)(m0:(Int×Int)→Nat):Ax Try.prog CW (Int×Bool):=
 (.loop 0 (EZ x target) I0 m0 (0,((x.map Rtr.v).length:Int)) [] λ(t0:Int×Int) b0 =>
(.br 48 (decide (t0.1<t0.2)) (.elI 208 Rtr.v x (W (Int.fdiv (IntKind.u64.wrap (W (t0.1+t0.2))) 2)) λx1 =>
(.callP (CU x1 target)
(.br 288 (decide ((byI x1 target)<0)) (.bk 0 b0 (W ((W (Int.fdiv (IntKind.u64.wrap (W (t0.1+t0.2))) 2))+1),t0.2) [])
(.bk 0 b0 (t0.1,W (Int.fdiv (IntKind.u64.wrap (W (t0.1+t0.2))) 2)) []))))
(.br 128 (decide (t0.1<((x.map Rtr.v).length:Int))) (.elI 176 Rtr.v x t0.1 λx2 =>
(.callP (CU x2 target)
(.ret (t0.1,(byI x2 target)==0))))
(.ret (t0.1,false)))))
theorem bsR_p(x:List Rtr)(r:Int)(hl:x.length≤1000000)(ok:CZ x r):∃I m,(CV x r I m).vp CX ((nB x r:Int),kG x r):=by
  refine⟨λt=>∃i j:Nat,t=((i:Int),(j:Int))∧i≤j∧j≤x.length∧bsI (ltR r) x (j-i) i j=bsP (ltR r) x,λt=>(t.2-t.1).toNat,?_⟩;simp only[CZ,Rtr.v,okU,Blk.ok,bc,B']at ok;dsimp only[CV,CW,Ax.vp,Ax.vc];simp only[vcU,rfU,B'];refine⟨⟨0,x.length,rfl,by omega,by omega,rfl⟩,?_⟩;rintro _ ⟨i,j,rfl,hij,hj,h1⟩
  refine⟨λh3=>?_,λh3=>?_⟩
  ·have h3:i<j:=by simpa using h3
   simp only[CS i j hij (by omega),Int.toNat_natCast];obtain⟨d,hd⟩:∃d,j-i=d+1:=⟨j-i-1,by omega⟩
   rw[hd,bsI,F' h3]at h1
   refine⟨by omega,by omega,λy hy=>⟨λe=>?_,λe=>?_⟩⟩
   ·rw[hy]at h1;simp only[show ltR r y=true from decide_eq_true ((kS _ _).mp e),if_true]at h1;rw[fN (g:=j-((i+j) / 2+1)) (by omega) (by omega)]at h1;rw[d7 (n:=x.length) (by omega) (by omega)];exact⟨⟨_,_,rfl,by omega,hj,h1⟩,by omega⟩
   ·rw[hy]at h1;simp only[show ltR r y=false from decide_eq_false (λq=>e ((kS _ _).mpr q)),if_false,aM']at h1;rw[fN (g:=(i+j) / 2-i) (by omega) (by omega)]at h1;exact⟨⟨_,_,rfl,by omega,by omega,h1⟩,by omega⟩
  ·have h3:i=j:=by simp at h3;omega
   subst h3;rw[bq',bsI]at h1;simp only[Int.toNat_natCast]
   refine⟨λh4=>⟨by omega,by omega,λy hy=>?_⟩,λh4=>?_⟩
   ·unfold nB kG bsH;rw[←h1,hy];refine congrArg _ ?_;show decide _=eqR r y;rw[aR',as'];simp[byI,j4,eqR]
   ·unfold nB kG bsH;rw[←h1,X' (by omega)];rfl
def CY(x:List Rtr)(target:Int)(hl:x.length≤1000000):PC Try.prog:=pcO 74 [(.s 2),.k,.k] [.sl 2 (x.map Rtr.v) false,.int target,.func 75 []] .k CX ((nB x target:Int),kG x target) (λok=>let ⟨I0,m0,h⟩:=bsR_p x target hl ok;⟨_,h,by kernel_rfl⟩) rfl (by kernel_rfl)
def CQ(vals:List Int):=okL [.sl 1 (vals.map AV.int) false]
def DG(vals:List Int)(t0:Int):NF:=⟨[rI 3 0,(6,.k,.sl 1 (vals.map AV.int) false),rI 7 ((vals.map AV.int).length:Int),rI 8 t0],[]⟩
@[reducible] def CO:Nat→Type
 | 0=>Int
 | _=>Unit
def CP(r:Int):AV:=.int r
def CN(vals:List Int)(I0:Int→Prop)(m0:Int→Nat):Ax Try.prog CO (Int):=
 (.loop 0 (DG vals) I0 m0 ((0):Int) [] λ(t0:Int) b0 =>
(.br 16 (decide (t0<((vals.map AV.int).length:Int))) (.elI 16 AV.int vals t0 λx1 =>
(.br 112 (x1 != 0) (.ret (x1))
(.bk 0 b0 ((W (t0+1)):Int) [])))
(.ret (0))))
theorem orN_p(vals:List Int)(ok:CQ vals):∃I m,(CN vals I m).vp CP (orI vals):=by
 simp only[CQ,okU,Blk.ok,bc,B']at ok;refine⟨λt=>∃k:Nat,t=k∧k≤vals.length∧(vals.take k).all (·==0),λt=>vals.length-t.toNat,?_⟩;dsimp only[CN,CO,Ax.vp,Ax.vc];simp only[vcU,rfU,B'];refine⟨⟨0,rfl,by omega,by simp⟩,?_⟩;rintro _ ⟨k,rfl,hk,h⟩
 refine⟨λh1=>⟨by omega,by omega,λx hx=>⟨λhn=>?_,λhn=>?_⟩⟩,λh1=>?_⟩
 ·rw[Int.toNat_natCast]at hx;rw[orI,vJ h hx (by simpa using hn)];rfl
 ·rw[Int.toNat_natCast]at hx;have hlt:=ao hx;rw[d7 (n:=vals.length) (by omega) (by omega)];refine⟨⟨k+1,rfl,by omega,?_⟩,by omega⟩;rw[bp hx,List.all_append,h];simpa using hn
 ·rw[ah' (by omega)]at h
  rw[orI,List.find?_eq_none.mpr]
  ·rfl
  ·intro x hx;simpa using aE'.mp h x hx
def orN_c(vals:List Int):PC Try.prog:=pcO 57 [(.s 1)] [.sl 1 (vals.map AV.int) false] .k CP (orI vals) (λok=>let ⟨I0,m0,h⟩:=orN_p vals ok;⟨_,h,by kernel_rfl⟩) rfl (by kernel_rfl)
def o3(x y:Lnk):Int:=orI [cmpI x.a y.a,cmpI x.b y.b]
def ze(r:Int):AV:=.int r
def sB(a:Lnk)(b:Lnk):Ax Try.prog noS (Int):=
 (.callP (sE a.a b.a)
(.callP (sE a.b b.b)
(.callP (orN_c [cmpI a.a b.a,cmpI a.b b.b])
(.ret (orI [cmpI a.a b.a,cmpI a.b b.b])))))
theorem ED(x y:Lnk):(sB x y).vp ze (o3 x y):=by
 dsimp only[sB,noS,Ax.vp,Ax.vc];simp only[vcU,rfU,B'];rfl
def sC(a:Lnk)(b:Lnk):PC Try.prog:=pcO 37 [.k,.k] [Lnk.v a,Lnk.v b] .k ze (o3 a b) (λ_=>⟨(sB a b),ED a b,by kernel_rfl⟩) rfl (by kernel_rfl)
theorem qh(x y:Lnk):o3 x y=if x.a=y.a then cmpI x.b y.b else cmpI x.a y.a:=by
 unfold o3 orI
 by_cases e:x.a=y.a
 ·rw[F' e,(j4 _ _).mpr e]
  by_cases e2:cmpI x.b y.b=0
  ·simp[e2]
  ·simp[e2]
 ·have:cmpI x.a y.a≠0:=λh=>e ((j4 _ _).mp h);rw[E' e];simp[this]
theorem kR(x y:Lnk):o3 x y<0↔aU x y:=by
 rw[qh];unfold aU
 split
 ·rw[kS];omega
 ·rw[kS];omega
theorem BO(x y:Lnk):o3 x y=0↔x.a=y.a∧x.b=y.b:=by
 rw[qh]
 split
 ·rw[j4];omega
 ·rw[j4];omega
def jL(y x:Lnk):Bool:=decide (aU x y)
def iK(y x:Lnk):Bool:=decide (x.a=y.a∧x.b=y.b)
def ba(l:List Lnk)(y:Lnk):Nat:=bsP (jL y) l
def cL(l:List Lnk)(y:Lnk):Bool:=bsH (jL y) (iK y) l
def De(x:List Lnk)(target:Lnk):=okL [.sl 5 (x.map Lnk.v) false,Lnk.v target,.func 37 []]
def Fa(x:List Lnk)(target:Lnk)(t0:Int×Int):NF:=⟨[(0,.k,.sl 5 (x.map Lnk.v) false),(2,.k,.func 37 []),rR 4 0,rI 8 ((x.map Lnk.v).length:Int),rI 9 t0.1,rI 10 t0.2],[.box (Lnk.v target)]⟩
@[reducible] def Db:Nat→Type
 | 0=>Int×Int
 | _=>Unit
def Dc(r:Int×Bool):AV:=.tup [.int r.1,.bool r.2]
def Da(x:List Lnk)(target:Lnk)(I0:(Int×Int)→Prop)(m0:(Int×Int)→Nat):Ax Try.prog Db (Int×Bool):=
 (.loop 0 (Fa x target) I0 m0 (0,((x.map Lnk.v).length:Int)) [0] λ(t0:Int×Int) b0 =>
(.br 49 (decide (t0.1<t0.2)) (.elI 209 Lnk.v x (W (Int.fdiv (IntKind.u64.wrap (W (t0.1+t0.2))) 2)) λx1 =>
(.callP (sC x1 target)
(.br 289 (decide ((o3 x1 target)<0)) (.bk 0 b0 (W ((W (Int.fdiv (IntKind.u64.wrap (W (t0.1+t0.2))) 2))+1),t0.2) [0])
(.bk 0 b0 (t0.1,W (Int.fdiv (IntKind.u64.wrap (W (t0.1+t0.2))) 2)) [0]))))
(.br 129 (decide (t0.1<((x.map Lnk.v).length:Int))) (.elI 177 Lnk.v x t0.1 λx2 =>
(.callP (sC x2 target)
(.ret (t0.1,(o3 x2 target)==0))))
(.ret (t0.1,false)))))
theorem bsL_p(x:List Lnk)(r:Lnk)(hl:x.length≤1000000)(ok:De x r):∃I m,(Da x r I m).vp Dc ((ba x r:Int),cL x r):=by
  refine⟨λt=>∃i j:Nat,t=((i:Int),(j:Int))∧i≤j∧j≤x.length∧bsI (jL r) x (j-i) i j=bsP (jL r) x,λt=>(t.2-t.1).toNat,?_⟩;simp only[De,Lnk.v,okU,Blk.ok,bc,B']at ok;dsimp only[Da,Db,Ax.vp,Ax.vc];simp only[vcU,rfU,B'];refine⟨⟨0,x.length,rfl,by omega,by omega,rfl⟩,?_⟩;rintro _ ⟨i,j,rfl,hij,hj,h1⟩
  refine⟨λh3=>?_,λh3=>?_⟩
  ·have h3:i<j:=by simpa using h3
   simp only[CS i j hij (by omega),Int.toNat_natCast];obtain⟨d,hd⟩:∃d,j-i=d+1:=⟨j-i-1,by omega⟩
   rw[hd,bsI,F' h3]at h1
   refine⟨by omega,by omega,λy hy=>⟨λe=>?_,λe=>?_⟩⟩
   ·rw[hy]at h1;simp only[show jL r y=true from decide_eq_true ((kR _ _).mp e),if_true]at h1;rw[fN (g:=j-((i+j) / 2+1)) (by omega) (by omega)]at h1;rw[d7 (n:=x.length) (by omega) (by omega)];exact⟨⟨_,_,rfl,by omega,hj,h1⟩,by omega⟩
   ·rw[hy]at h1;simp only[show jL r y=false from decide_eq_false (λq=>e ((kR _ _).mpr q)),if_false,aM']at h1;rw[fN (g:=(i+j) / 2-i) (by omega) (by omega)]at h1;exact⟨⟨_,_,rfl,by omega,by omega,h1⟩,by omega⟩
  ·have h3:i=j:=by simp at h3;omega
   subst h3;rw[bq',bsI]at h1;simp only[Int.toNat_natCast]
   refine⟨λh4=>⟨by omega,by omega,λy hy=>?_⟩,λh4=>?_⟩
   ·unfold ba cL bsH;rw[←h1,hy];refine congrArg _ ?_;show decide _=iK r y;rw[aR',as'];simp[BO,iK]
   ·unfold ba cL bsH;rw[←h1,X' (by omega)];rfl
def Dd(x:List Lnk)(target:Lnk)(hl:x.length≤1000000):PC Try.prog:=pcO 36 [(.s 5),.k,.k] [.sl 5 (x.map Lnk.v) false,Lnk.v target,.func 37 []] .k Dc ((ba x target:Int),cL x target) (λok=>let ⟨I0,m0,h⟩:=bsL_p x target hl ok;⟨_,h,by kernel_rfl⟩) rfl (by kernel_rfl)
def jd(r:Rtr):Bool:=!inT r.id 1 99
def wR(r:Bool):AV:=.bool r
def qW(r:Rtr):Ax Try.prog noS (Bool):=
 (.callP (mO r.id 1 99)
(.ret (!(inT r.id 1 99))))
theorem D2(r:Rtr):(qW r).vp wR (jd r):=by
 dsimp only[qW,noS,Ax.vp,Ax.vc];simp only[vcU,rfU,B'];rfl
def D3(r:Rtr):PC Try.prog:=pcO 72 [.k] [Rtr.v r] .k wR (jd r) (λ_=>⟨(qW r),D2 r,by kernel_rfl⟩) rfl (by kernel_rfl)
def j3(l:Lnk):Bool:=!inT l.ca 1 1000 || (!inT l.cb 1 1000 || !inT l.w 0 1000)
def za(r:Bool):AV:=.bool r
def su(l:Lnk):Ax Try.prog noS (Bool):=
 (.callP (mO l.ca 1 1000)
(.br 112 (!(inT l.ca 1 1000)) (.ret (true))
(.callP (mO l.cb 1 1000)
(.br 208 (!(inT l.cb 1 1000)) (.ret (true))
(.callP (mO l.w 0 1000)
(.ret (!(inT l.w 0 1000))))))))
theorem EA(l:Lnk):(su l).vp za (j3 l):=by
 dsimp only[su,noS,Ax.vp,Ax.vc];simp only[vcU,rfU,B'];unfold j3;exact⟨λh=>by rw[h];rfl,λh=>⟨λh2=>by rw[h,h2];rfl,λh2=>by rw[h,h2];rfl⟩⟩
def EB(l:Lnk):PC Try.prog:=pcO 77 [.k] [Lnk.v l] .k za (j3 l) (λ_=>⟨(su l),EA l,by kernel_rfl⟩) rfl (by kernel_rfl)
def jZ(l:Lnk):Bool:=decide (l.b≤l.a)
def Aa(r:Bool):AV:=.bool r
def sS(l:Lnk):Ax Try.prog noS (Bool):=
 (.ret (decide (l.b≤l.a)))
theorem Fl(l:Lnk):(sS l).vp Aa (jZ l):=by
 dsimp only[sS,noS,Ax.vp,Ax.vc];simp only[vcU,rfU,B'];rfl
def Fm(l:Lnk):PC Try.prog:=pcO 79 [.k] [Lnk.v l] .k Aa (jZ l) (λ_=>⟨(sS l),Fl l,by kernel_rfl⟩) rfl (by kernel_rfl)
def qD(id:Int)(t:Tpl):Bool:=!kG t.rs id
def w4(r:Bool):AV:=.bool r
def qC(id:Int)(t:Tpl):Ax Try.prog noS (Bool):=
 (.req 64 (t.rs.length≤1000000) λh1 =>
(.callP (CY t.rs id h1)
(.ret (!(kG t.rs id)))))
theorem Do(id:Int)(t:Tpl)(hl:t.rs.length≤1000000):(qC id t).vp w4 (qD id t):=by
 dsimp only[qC,noS,Ax.vp,Ax.vc];simp only[vcU,rfU,B'];exact⟨hl,rfl⟩
def w5(id:Int)(t:Tpl)(hl:t.rs.length≤1000000):PC Try.prog:=pcO 73 [.k,.k] [.int id,.rptr (Tpl.v t) 0] .k w4 (qD id t) (λ_=>⟨(qC id t),Do id t hl,by kernel_rfl⟩) rfl (by kernel_rfl)
def gt(l:Lnk)(t:Tpl):Bool:=qD l.a t || qD l.b t
def wv(r:Bool):AV:=.bool r
def qB(l:Lnk)(t:Tpl):Ax Try.prog noS (Bool):=
 (.req 80 (t.rs.length≤1000000) λh1 =>
(.callP (w5 l.a t h1)
(.br 112 (qD l.a t) (.ret (true))
(.req 160 (t.rs.length≤1000000) λh2 =>
(.callP (w5 l.b t h2)
(.ret (qD l.b t)))))))
theorem Dm(l:Lnk)(t:Tpl)(hl:t.rs.length≤1000000):(qB l t).vp wv (gt l t):=by
 dsimp only[qB,noS,Ax.vp,Ax.vc];simp only[vcU,rfU,B'];exact⟨hl,λh=>by unfold gt;rw[h];rfl,λh=>⟨hl,by unfold gt;rw[h];rfl⟩⟩
def Dn(l:Lnk)(t:Tpl)(hl:t.rs.length≤1000000):PC Try.prog:=pcO 78 [.k,.k] [Lnk.v l,.rptr (.func 73 [.rptr (Tpl.v t) 0]) 0] .k wv (gt l t) (λ_=>⟨(qB l t),Dm l t hl,by kernel_rfl⟩) rfl (by kernel_rfl)
def t7(s:List Rtr):=okL [.sl 2 (s.map Rtr.v) false,.func 72 []]
def wS(s:List Rtr)(t0:Int):NF:=⟨[(0,.k,.sl 2 (s.map Rtr.v) false),(1,.k,.func 72 []),rI 7 ((s.map Rtr.v).length:Int),rI 8 t0],[]⟩
@[reducible] def tw:Nat→Type
 | 0=>Int
 | _=>Unit
def tz(r:Int):AV:=.int r
def tv(s:List Rtr)(I0:Int→Prop)(m0:Int→Nat):Ax Try.prog tw (Int):=
 (.loop 0 (wS s) I0 m0 ((0):Int) [] λ(t0:Int) b0 =>
(.br 16 (decide (t0<((s.map Rtr.v).length:Int))) (.elI 96 Rtr.v s t0 λx1 =>
(.callP (D3 x1)
(.br 144 (jd x1) (.ret (t0))
(.bk 0 b0 ((W (t0+1)):Int) []))))
(.ret (-1))))
theorem A8(s:List Rtr)(ok:t7 s):∃I m,(tv s I m).vp tz (fp jd s):=by
  refine⟨λt=>dE s (λy=>jd y=false) t,λt=>s.length-t.toNat,?_⟩;simp only[t7,Rtr.v,okU,Blk.ok,bc,B']at ok;dsimp only[tv,tw,Ax.vp,Ax.vc];simp only[vcU,rfU,B'];exact⟨dE.zero,λt h=>⟨λc=>⟨h.idx,c,λx hx=>⟨λq=>h.found hx q,λq=>h.step (by omega) hx q⟩⟩,λc=>h.lost c⟩⟩
def A9(s:List Rtr):PC Try.prog:=pcO 84 [(.s 2),.k] [.sl 2 (s.map Rtr.v) false,.func 72 []] .k tz (fp jd s) (λok=>let ⟨I0,m0,h⟩:=A8 s ok;⟨_,h,by kernel_rfl⟩) rfl (by kernel_rfl)
def tA(r:Bool):AV:=.bool r
def nv(s:List Rtr):Ax Try.prog noS (Bool):=
 (.callP (A9 s)
(.ret (decide (0≤(fp jd s)))))
theorem AA(s:List Rtr):(nv s).vp tA (s.any jd):=by
 dsimp only[nv,noS,Ax.vp,Ax.vc];simp only[vcU,rfU,B'];exact js _ _
def AB(s:List Rtr):PC Try.prog:=pcO 71 [(.s 2),.k] [.sl 2 (s.map Rtr.v) false,.func 72 []] .k tA (s.any jd) (λ_=>⟨(nv s),AA s,by kernel_rfl⟩) rfl (by kernel_rfl)
def EW(r:Rtr):Bool:=!r.cap
def uw(s:List Lnk):=okL [.sl 5 (s.map Lnk.v) false,.func 77 []]
def zb(s:List Lnk)(t0:Int):NF:=⟨[(0,.k,.sl 5 (s.map Lnk.v) false),(1,.k,.func 77 []),rI 7 ((s.map Lnk.v).length:Int),rI 8 t0],[]⟩
@[reducible] def uu:Nat→Type
 | 0=>Int
 | _=>Unit
def uv(r:Int):AV:=.int r
def ut(s:List Lnk)(I0:Int→Prop)(m0:Int→Nat):Ax Try.prog uu (Int):=
 (.loop 0 (zb s) I0 m0 ((0):Int) [] λ(t0:Int) b0 =>
(.br 16 (decide (t0<((s.map Lnk.v).length:Int))) (.elI 96 Lnk.v s t0 λx1 =>
(.callP (EB x1)
(.br 144 (j3 x1) (.ret (t0))
(.bk 0 b0 ((W (t0+1)):Int) []))))
(.ret (-1))))
theorem BI(s:List Lnk)(ok:uw s):∃I m,(ut s I m).vp uv (fp j3 s):=by
  refine⟨λt=>dE s (λy=>j3 y=false) t,λt=>s.length-t.toNat,?_⟩;simp only[uw,Lnk.v,okU,Blk.ok,bc,B']at ok;dsimp only[ut,uu,Ax.vp,Ax.vc];simp only[vcU,rfU,B'];exact⟨dE.zero,λt h=>⟨λc=>⟨h.idx,c,λx hx=>⟨λq=>h.found hx q,λq=>h.step (by omega) hx q⟩⟩,λc=>h.lost c⟩⟩
def BJ(s:List Lnk):PC Try.prog:=pcO 85 [(.s 5),.k] [.sl 5 (s.map Lnk.v) false,.func 77 []] .k uv (fp j3 s) (λok=>let ⟨I0,m0,h⟩:=BI s ok;⟨_,h,by kernel_rfl⟩) rfl (by kernel_rfl)
def ux(r:Bool):AV:=.bool r
def ov(s:List Lnk):Ax Try.prog noS (Bool):=
 (.callP (BJ s)
(.ret (decide (0≤(fp j3 s)))))
theorem BK(s:List Lnk):(ov s).vp ux (s.any j3):=by
 dsimp only[ov,noS,Ax.vp,Ax.vc];simp only[vcU,rfU,B'];exact js _ _
def BL(s:List Lnk):PC Try.prog:=pcO 76 [(.s 5),.k] [.sl 5 (s.map Lnk.v) false,.func 77 []] .k ux (s.any j3) (λ_=>⟨(ov s),BK s,by kernel_rfl⟩) rfl (by kernel_rfl)
def uN(s:List Lnk):=okL [.sl 5 (s.map Lnk.v) false,.func 79 []]
def Ab(s:List Lnk)(t0:Int):NF:=⟨[(0,.k,.sl 5 (s.map Lnk.v) false),(1,.k,.func 79 []),rI 7 ((s.map Lnk.v).length:Int),rI 8 t0],[]⟩
@[reducible] def uL:Nat→Type
 | 0=>Int
 | _=>Unit
def uM(r:Int):AV:=.int r
def uK(s:List Lnk)(I0:Int→Prop)(m0:Int→Nat):Ax Try.prog uL (Int):=
 (.loop 0 (Ab s) I0 m0 ((0):Int) [] λ(t0:Int) b0 =>
(.br 16 (decide (t0<((s.map Lnk.v).length:Int))) (.elI 96 Lnk.v s t0 λx1 =>
(.callP (Fm x1)
(.br 144 (jZ x1) (.ret (t0))
(.bk 0 b0 ((W (t0+1)):Int) []))))
(.ret (-1))))
theorem CA(s:List Lnk)(ok:uN s):∃I m,(uK s I m).vp uM (fp jZ s):=by
  refine⟨λt=>dE s (λy=>jZ y=false) t,λt=>s.length-t.toNat,?_⟩;simp only[uN,Lnk.v,okU,Blk.ok,bc,B']at ok;dsimp only[uK,uL,Ax.vp,Ax.vc];simp only[vcU,rfU,B'];exact⟨dE.zero,λt h=>⟨λc=>⟨h.idx,c,λx hx=>⟨λq=>h.found hx q,λq=>h.step (by omega) hx q⟩⟩,λc=>h.lost c⟩⟩
def CB(s:List Lnk):PC Try.prog:=pcO 85 [(.s 5),.k] [.sl 5 (s.map Lnk.v) false,.func 79 []] .k uM (fp jZ s) (λok=>let ⟨I0,m0,h⟩:=CA s ok;⟨_,h,by kernel_rfl⟩) rfl (by kernel_rfl)
def uO(r:Bool):AV:=.bool r
def o9(s:List Lnk):Ax Try.prog noS (Bool):=
 (.callP (CB s)
(.ret (decide (0≤(fp jZ s)))))
theorem CC(s:List Lnk):(o9 s).vp uO (s.any jZ):=by
 dsimp only[o9,noS,Ax.vp,Ax.vc];simp only[vcU,rfU,B'];exact js _ _
def CD(s:List Lnk):PC Try.prog:=pcO 76 [(.s 5),.k] [.sl 5 (s.map Lnk.v) false,.func 79 []] .k uO (s.any jZ) (λ_=>⟨(o9 s),CC s,by kernel_rfl⟩) rfl (by kernel_rfl)
def tc(s:List Lnk)(f:Tpl):=okL [.sl 5 (s.map Lnk.v) false,.func 78 [.rptr (.func 73 [.rptr (Tpl.v f) 0]) 0]]
def wz(s:List Lnk)(f:Tpl)(t0:Int):NF:=⟨[(0,.k,.sl 5 (s.map Lnk.v) false),(1,.k,.func 78 [.rptr (.func 73 [.rptr (Tpl.v f) 0]) 0]),rI 7 ((s.map Lnk.v).length:Int),rI 8 t0],[]⟩
@[reducible] def ta:Nat→Type
 | 0=>Int
 | _=>Unit
def tb(r:Int):AV:=.int r
def sZ(s:List Lnk)(f:Tpl)(I0:Int→Prop)(m0:Int→Nat):Ax Try.prog ta (Int):=
 (.loop 0 (wz s f) I0 m0 ((0):Int) [] λ(t0:Int) b0 =>
(.br 16 (decide (t0<((s.map Lnk.v).length:Int))) (.elI 96 Lnk.v s t0 λx1 =>
(.req 128 (f.rs.length≤1000000) λh2 =>
(.callP (Dn x1 f h2)
(.br 144 (gt x1 f) (.ret (t0))
(.bk 0 b0 ((W (t0+1)):Int) [])))))
(.ret (-1))))
theorem Ag(s:List Lnk)(t:Tpl)(hl:t.rs.length≤1000000)(ok:tc s t):∃I m,(sZ s t I m).vp tb (fp (λy=>gt y t) s):=by
 refine⟨λi=>dE s (λy=>gt y t=false) i,λi=>s.length-i.toNat,?_⟩;simp only[tc,Lnk.v,Tpl.v,okU,Blk.ok,bc,B']at ok;dsimp only[sZ,ta,Ax.vp,Ax.vc];simp only[vcU,rfU,B'];exact⟨dE.zero,λi h=>⟨λc=>⟨h.idx,c,λx hx=>⟨hl,λq=>h.found hx q,λq=>h.step (by omega) hx q⟩⟩,λc=>h.lost c⟩⟩
def Ah(s:List Lnk)(f:Tpl)(hl:f.rs.length≤1000000):PC Try.prog:=pcO 85 [(.s 5),.k] [.sl 5 (s.map Lnk.v) false,.func 78 [.rptr (.func 73 [.rptr (Tpl.v f) 0]) 0]] .k tb (fp (λy=>gt y f) s) (λok=>let ⟨I0,m0,h⟩:=Ag s f hl ok;⟨_,h,by kernel_rfl⟩) rfl (by kernel_rfl)
def td(r:Bool):AV:=.bool r
def nk(s:List Lnk)(f:Tpl):Ax Try.prog noS (Bool):=
 (.req 48 (f.rs.length≤1000000) λh1 =>
(.callP (Ah s f h1)
(.ret (decide (0≤(fp (λy=>gt y f) s))))))
theorem Ai(s:List Lnk)(t:Tpl)(hl:t.rs.length≤1000000):(nk s t).vp td (s.any λy=>gt y t):=by
 dsimp only[nk,noS,Ax.vp,Ax.vc];simp only[vcU,rfU,B'];exact⟨hl,js _ _⟩
def te(s:List Lnk)(f:Tpl)(hl:f.rs.length≤1000000):PC Try.prog:=pcO 76 [(.s 5),.k] [.sl 5 (s.map Lnk.v) false,.func 78 [.rptr (.func 73 [.rptr (Tpl.v f) 0]) 0]] .k td (s.any λy=>gt y f) (λ_=>⟨(nk s f),Ai s f hl,by kernel_rfl⟩) rfl (by kernel_rfl)
theorem da{α:Type}{l:List α}(hn:l.Nodup){i j:Nat}{x:α}(a:l[i]?=some x)(b:l[j]?=some x):i=j:=by
 have hi:=(L'.mp a).1;have hj:=(L'.mp b).1;rw[u' hi]at a;rw[u' hj]at b;exact(List.getElem_inj (h₀:=hi) (h₁:=hj) hn).mp (by rw[af' a,af' b])
section
variable {α β : Type} [DecidableEq α] {l : List (α × β)} {x y : α} {v z : β} {p : α × β}
theorem aN:x∈aq l↔∃v,(x,v)∈l:=by
 unfold aq;rw[T'];exact⟨λ⟨p,h,e⟩=>⟨p.2,by rw[←e];exact h⟩,λ⟨v,h⟩=>⟨_,h,rfl⟩⟩
theorem bK:aR l x=true↔∃v,(x,v)∈l:=by
 unfold aR;rw[as',aN]
theorem fF(h:(aq l).Nodup){v w:β}(h1:(x,v)∈l)(h2:(x,w)∈l):v=w:=by
 obtain⟨i,hi⟩:=Y'.mp h1;obtain⟨j,hj⟩:=Y'.mp h2;have a:(aq l)[i]?=some x:=by rw[aq,G',hi];rfl
 have b:(aq l)[j]?=some x:=by rw[aq,G',hj];rfl
 have g:=da h a b;subst g;rw[hi]at hj;exact congrArg Prod.snd (af' hj)
theorem jl(h:x∈aq l):∃v,l[dH l x]?=some (x,v):=by
 have e:l[dH l x]?=some (l[dH l x]'(eF h)):=u' (eF h);refine⟨(l[dH l x]'(eF h)).2,?_⟩;rw[e];have:=pf h;exact congrArg some (Prod.ext this rfl)
theorem bD(h:aR l x=true):(x,av l x z)∈l:=by
 obtain⟨v,e⟩:=jl (H' h);unfold av;rw[e];exact bx e
theorem dU(hn:(aq l).Nodup)(h:(x,v)∈l):av l x z=v:=
 fF hn (bD (bK.mpr ⟨v,h⟩)) h
theorem cA(h:aR l x=false):av l x z=z:=by
 have h:x ∉ aq l:=ag' h;unfold av;rw[kN h,X' (S' _)]
theorem tU:aR l x=false↔∀v,(x,v) ∉ l:=by
 rw[←Bool.not_eq_true,bK];exact⟨λh v hv=>h ⟨v,hv⟩,λh ⟨v,hv⟩=>h v hv⟩
theorem vt:aq (bg l x v)=if x∈aq l then aq l else aq l++[x]:=by
 unfold bg
 by_cases h:x∈aq l
 ·rw[F' h,F' h];unfold aq at h ⊢;rw[bp'];obtain⟨v',e⟩:=jl h;refine ax' λi=>?_;rw[ae']
  split
  ·rename_i g;subst g;rw[F' (by rw[B'];exact ao e),G',e];rfl
  ·rfl
 ·rw[E' h,E' h];simp[aq]
theorem eR(hn:(aq l).Nodup):(aq (bg l x v)).Nodup:=by
 rw[vt]
 split
 ·exact hn
 ·rename_i h;exact aT'.mpr ⟨hn,by simp,λa ha b hb=>by rw[P'.mp hb];rintro rfl;exact h ha⟩
theorem bQ(hn:(aq l).Nodup):p∈bg l x v↔p=(x,v)∨(p∈l∧p.1≠x):=by
 unfold bg
 by_cases h:x∈aq l
 ·rw[F' h];obtain⟨v',e⟩:=jl h
  constructor
  ·intro hp;obtain⟨i,hi⟩:=Y'.mp hp;rw[ae']at hi
   split at hi
   ·split at hi
    ·exact .inl (af' hi).symm
    ·cases hi
   ·rename_i g;refine .inr ⟨bx hi,?_⟩;rintro rfl;have a:(aq l)[i]?=some p.1:=by rw[aq,G',hi];rfl
    have b:(aq l)[dH l p.1]?=some p.1:=by rw[aq,G',e];rfl
    exact g (da hn a b).symm
  ·rintro(rfl|⟨hp,hne⟩)
   ·exact bx (i:=dH l x) (by rw[ae',F' rfl,F' (ao e)])
   ·obtain⟨i,hi⟩:=Y'.mp hp;refine bx (i:=i) ?_
    rw[ae',E']
    ·exact hi
    ·rintro rfl;rw[e]at hi;exact hne (congrArg Prod.fst (af' hi)).symm
 ·rw[E' h,ac',P']
  constructor
  ·rintro(hp|hp)
   ·exact .inr ⟨hp,λe=>h (aN.mpr ⟨p.2,by rw[←e];exact hp⟩)⟩
   ·exact .inl hp
  ·rintro(hp|⟨hp,_⟩)
   ·exact .inr hp
   ·exact .inl hp
theorem nN(hn:(aq l).Nodup):p∈mdl l x↔p∈l∧p.1≠x:=by
 unfold mdl
 by_cases h:x∈aq l
 ·obtain⟨v',e⟩:=jl h;rw[List.mem_eraseIdx_iff_getElem?]
  constructor
  ·rintro⟨i,hne,hi⟩;refine⟨bx hi,?_⟩;rintro rfl;have a:(aq l)[i]?=some p.1:=by rw[aq,G',hi];rfl
   have b:(aq l)[dH l p.1]?=some p.1:=by rw[aq,G',e];rfl
   exact hne (da hn a b)
  ·rintro⟨hp,hne⟩;obtain⟨i,hi⟩:=Y'.mp hp;refine⟨i,?_,hi⟩;rintro rfl;rw[e]at hi;exact hne (congrArg Prod.fst (af' hi)).symm
 ·rw[kN h,cg' (S' _)];exact⟨λhp=>⟨hp,λe=>h (aN.mpr ⟨p.2,by rw[←e];exact hp⟩)⟩,λhp=>hp.1⟩
theorem vu(hn:(aq l).Nodup):(aq (mdl l x)).Nodup:=by
 unfold mdl aq;rw[bB];exact hn.sublist (List.eraseIdx_sublist _ _)
theorem xN(hn:(aq l).Nodup):aR (bg l x v) y=(decide (y=x) || aR l y):=by
 rw[aR',bg',as',bK,bK]
 constructor
 ·rintro⟨w,h⟩
  rcases(bQ hn).mp h with h|⟨h,_⟩
  ·cases h;exact .inl rfl
  ·exact .inr ⟨w,h⟩
 ·rintro(rfl|⟨w,h⟩)
  ·exact⟨v,(bQ hn).mpr (.inl rfl)⟩
  ·by_cases e:y=x
   ·subst e;exact⟨v,(bQ hn).mpr (.inl rfl)⟩
   ·exact⟨w,(bQ hn).mpr (.inr ⟨h,e⟩)⟩
theorem xK:(bg l x v).length=if aR l x=true then l.length else l.length+1:=by
 unfold bg aR
 by_cases h:x∈aq l
 ·rw[F' h,decide_eq_true h,F' rfl,be']
 ·rw[E' h,decide_eq_false h];simp
end
structure Stp where
  to:Int
  cost:Int
def Stp.v(x:Stp):AV:=.agg [.int x.to,.int x.cost]
abbrev Lks:=List (Int×List Stp)
abbrev Dis:=List (Int×Int)
def bfr(x b:Int×Int):Prop:=x.2<b.2∨x.2=b.2∧x.1<b.1
instance (x b:Int×Int):Decidable (bfr x b):=by unfold bfr;infer_instance
def Cn:Dis→Option (Int×Int)
 | []=>none
 | x::l=>match Cn l with
  | none=>some x
  | some b=>if bfr x b then some x else some b
def bst(l:Dis):Int:=match Cn l with
 | none=>0
 | some b=>b.1
theorem jW:∀{l:Dis},l≠[]→∃b,Cn l=some b∧b∈l∧∀x∈l,¬bfr x b
 | [],h=>absurd rfl h
 | [x],_=>⟨x,rfl,by simp,by simp[bfr]⟩
 | x::y::l,_=>by
  obtain⟨b,h1,h2,h3⟩:=jW (l:=y::l) (by simp);rw[Cn,h1];simp only
  split
  ·rename_i h;refine⟨x,rfl,by simp,λz hz=>?_⟩
   rcases aa'.mp hz with rfl|hz
   ·simp[bfr]
   ·have:=h3 z hz;unfold bfr at *;omega
  ·rename_i h;refine⟨b,rfl,by simp[h2],λz hz=>?_⟩
   rcases aa'.mp hz with rfl|hz
   ·exact h
   ·exact h3 z hz
theorem EY{l:Dis}{b:Int×Int}(h:b∈l)(hb:∀x∈l,¬bfr x b):bst l=b.1:=by
 obtain⟨c,h1,h2,h3⟩:=jW (l:=l) (by rintro rfl;simp at h);have e1:=hb c h2;have e2:=h3 b h;unfold bst;rw[h1];simp only;unfold bfr at e1 e2;omega
theorem bf{kk:Option Nat}{z:AV}{ok:Bool}{m k:AO}{f:Nat}{ρ:AO→AV}{hp:Hp}:evA (.mget kk z ok m k) f ρ hp=match dg hp (ρ m),(ρ k).key with
    | some (kk',ks,vs),some q=>{ c:=kk'=kk∧q.fits kk,v:=cB ks vs q z ok }
    | _,_=>.bad:=rfl
def yF:AC:=.seq (.reg [⟨(some 35),.move (.t 8),none⟩,⟨(some 36),.rng (.t 35),none⟩])
 (.block 2 (.loop (.seq (.reg [⟨(some 37),.nxt (.t 36),none⟩,⟨(some 38),.ext 0 (.t 37),none⟩])
 (.seq (.cond (.t 38) (.skip) (.exit 2))
 (.block 3 (.seq (.reg [⟨(some 39),.ent (.t 36),none⟩,⟨(some 40),.ext 0 (.t 39),none⟩,⟨(some 41),.ext 1 (.t 39),none⟩,⟨(some 10),.move (.t 40),none⟩,⟨(some 11),.move (.t 41),none⟩])
 (.seq (.reg [⟨(some 42),.move (.t 9),none⟩,⟨(some 43),.bin .eql (.t 42) (.c (.val (.int .i64 0))),none⟩,⟨(some 44),.move (.t 43),none⟩,⟨(some 45),.move (.t 11),(some (44,false))⟩,⟨(some 46),.move (.t 8),(some (44,false))⟩,⟨(some 47),.move (.t 9),(some (44,false))⟩,⟨(some 48),.mget none ((.val (.int .i64 0))) false (.t 46) (.t 47),(some (44,false))⟩,⟨(some 49),.bin .lss (.t 45) (.t 48),(some (44,false))⟩,⟨(some 50),.pick (.t 44) (.c (.val (.bool true))) (.t 49),none⟩,⟨(some 51),.move (.t 50),none⟩,⟨(some 52),.move (.t 11),(some (51,false))⟩,⟨(some 53),.move (.t 8),(some (51,false))⟩,⟨(some 54),.move (.t 9),(some (51,false))⟩,⟨(some 55),.mget none ((.val (.int .i64 0))) false (.t 53) (.t 54),(some (51,false))⟩,⟨(some 56),.bin .eql (.t 52) (.t 55),(some (51,false))⟩,⟨(some 57),.move (.t 56),(some (51,false))⟩,⟨(some 58),.move (.t 10),(some (57,true))⟩,⟨(some 59),.move (.t 9),(some (57,true))⟩,⟨(some 60),.bin .lss (.t 58) (.t 59),(some (57,true))⟩,⟨(some 61),.pick (.t 57) (.t 60) (.c (.val (.bool false))),(some (51,false))⟩,⟨(some 62),.pick (.t 51) (.c (.val (.bool true))) (.t 61),none⟩])
 (.cond (.t 62) (.reg [⟨(some 63),.move (.t 10),none⟩,⟨(some 9),.move (.t 63),none⟩]) (.skip)))))))))
abbrev gU(L:Lks):AV:=.mp none (L.map λp=>MK.n p.1) (L.map λp=>(λl=>AV.sl 2 (l.map Stp.v) false) p.2)
abbrev ou(l:Dis):Blk:=.map none (l.map λp=>MK.n p.1) (l.map λp=>AV.int p.2)
def ul(L:Lks)(o l:Dis)(b:Int):NF:=
  ⟨[(0,.k,gU L),(5,.k,.mref 0),(8,.k,.mref 1),(9,.k,.int b)],
   [.map none (o.map λp=>MK.n p.1) (o.map λp=>AV.int p.2) (am (λ_=>rfl) _),.map none (l.map λp=>MK.n p.1) (l.map λp=>AV.int p.2) (am (λ_=>rfl) _)]⟩
def E0(L:Lks)(o l:Dis)(st:List Nat)(ck:Nat)(seen:List Nat)(b:Int):S3:=
 ⟨cq [(0,gU L),(5,.mref 0),(8,.mref 1),(9,.int b),(36,.ref 2 0)],hpL 0 [some (ou o),some (.mst none (l.map λp=>MK.n p.1) (l.map λp=>AV.int p.2) st ck),some (.itr 1 st ck seen)],3⟩
def Cm(l:Dis)(st seen:List Nat)(b:Int):Prop:=(seen=[]∧b=0)∨∃(i:Nat) (x:Int×Int) (s:Nat),l[i]?=some x∧st[i]?=some s∧s∈seen∧b=x.1∧∀(j:Nat) (y:Int×Int) (s:Nat),l[j]?=some y→st[j]?=some s→s∈seen→¬bfr y x
def xB(l:Dis):Prop:=∀x∈l,x.1≠0∧-9223372036854775808≤x.1∧x.1≤9223372036854775807
theorem dst_h(L:Lks)(o l:Dis)(hl:xB l)(k:Nat):dl Try.prog 0 k yF (ul L o l 0).st (ul L o l (bst l)).st:=by
 unfold dl yF;show AWP _ 0 k _ _ ⟨cq [(0,gU L),(5,.mref 0),(8,.mref 1),(9,.int 0)],hpL 0 [some (ou o),some (ou l)],2⟩;refine AWP.open 1 rfl λst ck hs1 hs2 hn hv=>?_;refine AWP.seq' ?_;refine AWP.reg' λK hK=>?_
 try simp only[aj,seval]
 refine oa rfl rfl ?_
 try simp only[aj,seval]
 refine hK _ _ _ ?_;clear hK K;refine AWP.block ?_;have hvl:aH (l.map λp=>AV.int p.2):=aw (am (v:=λp:Int×Int=>AV.int p.2) (λ_=>rfl) l);have hvo:aH (o.map λp=>AV.int p.2):=aw (am (v:=λp:Int×Int=>AV.int p.2) (λ_=>rfl) o);have rm:∀(π:Nat→Nat) (o:Dis),some (ou o)=some (Blk.ren π (ou o)):=λπ o=>by
  rw[Blk.ren,aK _ (aw (am (v:=λp:Int×Int=>AV.int p.2) (λ_=>rfl) o))]
 have rs:∀(π:Nat→Nat),some (Blk.mst none (l.map λp=>MK.n p.1) (l.map λp=>AV.int p.2) st ck)=some (Blk.ren π (.mst none (l.map λp=>MK.n p.1) (l.map λp=>AV.int p.2) st ck)):=λπ=>by
  rw[Blk.ren,aK _ hvl]
 have bm:∀o:Dis,Blk.bel 3 (ou o):=λo=>aG (aw (am (v:=λp:Int×Int=>AV.int p.2) (λ_=>rfl) o));have bs:Blk.bel 3 (.mst none (l.map λp=>MK.n p.1) (l.map λp=>AV.int p.2) st ck):=aG hvl;rw[B']at hs2
 refine AWP.loopS (λt:List Nat×Int=>E0 L o l st ck t.1 t.2) (λt=>Cm l st t.1 t.2∧t.1.Nodup∧∀s∈t.1,s∈st) (λt=>st.length-t.1.length) (i0:=([],0)) ⟨.inl ⟨rfl,rfl⟩,by simp,by simp⟩ ?_ ?_
 ·unfold E0
  refine ap.nf [0,1,18] _ _ ?_ ?_ ⟨rfl,rfl⟩ (by decide) (by decide) (by decide)
  ·repeat' (first|exact trivial|exact f' rfl trivial|refine f' ?_ ?_|rfl|exact O' rfl|exact rm _ _|exact rs _|exact bm _|exact bs)
  ·repeat' (first|exact trivial|exact f' rfl trivial|refine f' ?_ ?_|rfl|exact O' rfl|exact rm _ _|exact rs _|exact bm _|exact bs)
 ·rintro⟨seen,b⟩ ⟨hJ,hnd,hsub⟩;unfold E0;refine AWP.seq' ?_;refine AWP.reg' λK hK=>?_
  try simp only[aj,seval]
  have hk:∀q∈(l.map λp=>MK.n p.1),kOk q:=λq hq=>by
   obtain⟨x,hx,rfl⟩:=T'.mp hq;have:=hl x hx;show inK .i64 x.1;rw[ye];exact this.2
  refine ob rfl rfl rfl hk (λhs=>?_) (λi q v s0 e1 e2 e3 e4=>?_)
  ·try simp only[aj,seval]
   refine hK _ _ _ ?_;clear hK K;have hb:b=bst l:=by
    rcases hJ with⟨h1,h2⟩|⟨i,x,s,g1,g2,g3,g4,g5⟩
    ·have h1:seen=[]:=h1;subst h1;have:st=[]:=bY'.mpr λs hs'=>by simpa using hs s hs'
     have:l=[]:=aP' (by rw[←hs2,this];rfl);subst this;exact h2
    ·have g4:b=x.1:=g4;rw[g4];refine(EY (bx g1) λy hy=>?_).symm;obtain⟨j,hj⟩:=Y'.mp hy;have hlt:=ao hj;exact g5 j y (st[j]'(by omega)) hj (u' (by omega)) (hs _ (aK' _))
   refine AWP.seq' (AWP.cond (b:=false) rfl (λh=>by cases h) (λ_=>AWP.exit ?_));show ap 0 k _ ⟨cq [(0,gU L),(5,.mref 0),(8,.mref 1),(9,.int (bst l))],hpL 0 [some (ou o),some (ou l)],2⟩;rw[←hb];refine ap.trans (ap.close 1 rfl) ?_;have bm:∀o:Dis,Blk.bel 2 (ou o):=λo=>aG (aw (am (v:=λp:Int×Int=>AV.int p.2) (λ_=>rfl) o))
   refine ap.nf [0,1] _ _ ?_ ?_ ⟨rfl,rfl⟩ (by decide) (by decide) (by decide)
   ·repeat' (first|exact trivial|exact f' rfl trivial|refine f' ?_ ?_|rfl|exact O' rfl|exact rm _ _|exact bm _)
   ·repeat' (first|exact trivial|exact f' rfl trivial|refine f' ?_ ?_|rfl|exact O' rfl|exact rm _ _|exact bm _)
  ·try simp only[aj,seval]
   refine hK _ _ _ ?_;clear hK K;refine AWP.seq' (AWP.cond (b:=true) rfl (λ_=>?_) (λh=>by cases h));refine AWP.skip ?_;refine AWP.block (AWP.seq' ?_);rw[G',av']at e1 e2;obtain⟨x,e1,rfl⟩:=e1;obtain⟨x',e2,rfl⟩:=e2;rw[e1]at e2;cases e2;have e5:(l.map λp=>MK.n p.1)[i]?=some (MK.n x.1):=by rw[G',e1];rfl
   have e6:(l.map λp=>AV.int p.2)[i]?=some (AV.int x.2):=by rw[G',e1];rfl
   refine AWP.reg' λK hK=>?_
   try simp only[aj,seval]
   refine od rfl rfl rfl e3 e5 e6 (hk _ (J' e5)) ?_
   try simp only[aj,seval,kAV]
   refine hK _ _ _ ?_;clear hK K;refine AWP.seq' ?_;have hN:(seen++[s0]).Nodup:=aT'.mpr ⟨hnd,by simp,λa ha b hb=>by rw[P'.mp hb];rintro rfl;exact e4 ha⟩;have hS:∀s∈seen++[s0],s∈st:=λs hs=>by
    rcases ac'.mp hs with hs|hs
    ·exact hsub s hs
    ·rw[P'.mp hs];exact J' e3
   have hL:st.length-(seen++[s0]).length<st.length-seen.length:=by
    have:=List.Nodup.length_le_of_subset hN hS;rw[List.length_append,List.length_singleton]at this ⊢;omega
   have hu:∀{j y},l[j]?=some y→st[j]?=some s0→y=x:=λ{j y} h1 h2=>by
    have:=da hs1 h2 e3;subst this;rw[h1]at e1;exact af' e1
   have hnew:(∀(j:Nat) (y:Int×Int) (s:Nat),l[j]?=some y→st[j]?=some s→s∈seen→¬bfr y x)→Cm l st (seen++[s0]) x.1:=λh =>
    .inr ⟨i,x,s0,e1,e3,by simp,rfl,λj y s h1 h2 h3=>by
     rcases ac'.mp h3 with h3|h3
     ·exact h j y s h1 h2 h3
     ·rw[P'.mp h3]at h2;rw[hu h1 h2];simp[bfr]⟩
   rcases hJ with⟨h1,h2⟩|⟨i',y,s,g1,g2,g3,g4,g5⟩
   ·have h1:seen=[]:=h1;have h2:b=0:=h2;subst h1;subst h2;have hJ':=hnew (λj y s _ _ h3=>by simp at h3);refine AWP.reg' λK hK=>?_
    try simp only[aj,seval]
    refine hK _ _ _ ?_;clear hK K;refine AWP.cond (b:=true) rfl (λ_=>?_) (λh=>by cases h);refine AWP.reg' λK hK=>?_
    try simp only[aj,seval]
    refine hK _ _ _ ?_;clear hK K;refine⟨(_,_),⟨hJ',hN,hS⟩,hL,?_⟩
    refine ap.nf [0,1,2] _ _ ?_ ?_ ⟨rfl,rfl⟩ (by decide) (by decide) (by decide)
    ·repeat' (first|exact trivial|exact f' rfl trivial|refine f' ?_ ?_|rfl|exact O' rfl|exact rm _ _|exact rs _|exact bm _|exact bs)
    ·repeat' (first|exact trivial|exact f' rfl trivial|refine f' ?_ ?_|rfl|exact O' rfl|exact rm _ _|exact rs _|exact bm _|exact bs)
   ·have g4:b=y.1:=g4;subst g4;have hy0:¬y.1=0:=(hl y (bx g1)).1;have hmg:cB (l.map λp=>MK.n p.1) (l.map λp=>AV.int p.2) (MK.n y.1) (AV.int 0) false=AV.int y.2:=by
     have hh:aR l y.1=true:=bK.mpr ⟨y.2,bx g1⟩;have hnk:(aq l).Nodup:=by
      have:=lH (l:=l) (kf:=MK.n);rw[this]at hn;exact List.Pairwise.of_map MK.n (λa b h e=>h (congrArg _ e)) hn
     rw[jK (vf:=AV.int) (z:=0) (λ_ _ h=>MK.n.inj h) hh,dU hnk (bx g1)];rfl
    have hy1:(y.1==0)=false:=by simpa using hy0
    have hbt:bfr x y→Cm l st (seen++[s0]) x.1:=λh=>hnew λj z s' h1 h2 h3=>by
     have:=g5 j z s' h1 h2 h3;unfold bfr at *;omega
    have hbf:¬bfr x y→Cm l st (seen++[s0]) y.1:=λh=>.inr ⟨i',y,s,g1,g2,ce' _ g3,rfl,λj z s' h1 h2 h3=>by
     rcases ac'.mp h3 with h3|h3
     ·exact g5 j z s' h1 h2 h3
     ·rw[P'.mp h3]at h2;rw[hu h1 h2];exact h⟩
    by_cases c1:x.2<y.2
    ·refine AWP.reg' λK hK=>?_
     try simp only[aj,seval,hy0,hy1,hmg,bf,dg,AV.key,MK.fits,and_self,true_and,c1]
     refine hK _ _ _ ?_;clear hK K;refine AWP.cond (b:=true) rfl (λ_=>?_) (λh=>by cases h);refine AWP.reg' λK hK=>?_
     try simp only[aj,seval]
     refine hK _ _ _ ?_;clear hK K;refine⟨(_,_),⟨hbt (.inl c1),hN,hS⟩,hL,?_⟩
     refine ap.nf [0,1,2] _ _ ?_ ?_ ⟨rfl,rfl⟩ (by decide) (by decide) (by decide)
     ·repeat' (first|exact trivial|exact f' rfl trivial|refine f' ?_ ?_|rfl|exact O' rfl|exact rm _ _|exact rs _|exact bm _|exact bs)
     ·repeat' (first|exact trivial|exact f' rfl trivial|refine f' ?_ ?_|rfl|exact O' rfl|exact rm _ _|exact rs _|exact bm _|exact bs)
    ·by_cases c2:x.2=y.2
     ·have c2':(x.2==y.2)=true:=by simpa using c2
      by_cases c3:x.1<y.1
      ·refine AWP.reg' λK hK=>?_
       try simp only[aj,seval,hy0,hy1,hmg,bf,dg,AV.key,MK.fits,and_self,true_and,c1,c2',c3]
       refine hK _ _ _ ?_;clear hK K;refine AWP.cond (b:=true) rfl (λ_=>?_) (λh=>by cases h);refine AWP.reg' λK hK=>?_
       try simp only[aj,seval]
       refine hK _ _ _ ?_;clear hK K;refine⟨(_,_),⟨hbt (.inr ⟨c2,c3⟩),hN,hS⟩,hL,?_⟩
       refine ap.nf [0,1,2] _ _ ?_ ?_ ⟨rfl,rfl⟩ (by decide) (by decide) (by decide)
       ·repeat' (first|exact trivial|exact f' rfl trivial|refine f' ?_ ?_|rfl|exact O' rfl|exact rm _ _|exact rs _|exact bm _|exact bs)
       ·repeat' (first|exact trivial|exact f' rfl trivial|refine f' ?_ ?_|rfl|exact O' rfl|exact rm _ _|exact rs _|exact bm _|exact bs)
      ·refine AWP.reg' λK hK=>?_
       try simp only[aj,seval,hy0,hy1,hmg,bf,dg,AV.key,MK.fits,and_self,true_and,c1,c2',c3]
       refine hK _ _ _ ?_;clear hK K;refine AWP.cond (b:=false) rfl (λh=>by cases h) (λ_=>?_);refine AWP.skip ?_;refine⟨(_,_),⟨hbf (by unfold bfr;omega),hN,hS⟩,hL,?_⟩
       refine ap.nf [0,1,2] _ _ ?_ ?_ ⟨rfl,rfl⟩ (by decide) (by decide) (by decide)
       ·repeat' (first|exact trivial|exact f' rfl trivial|refine f' ?_ ?_|rfl|exact O' rfl|exact rm _ _|exact rs _|exact bm _|exact bs)
       ·repeat' (first|exact trivial|exact f' rfl trivial|refine f' ?_ ?_|rfl|exact O' rfl|exact rm _ _|exact rs _|exact bm _|exact bs)
     ·have c2':(x.2==y.2)=false:=by simpa using c2
      refine AWP.reg' λK hK=>?_
      try simp only[aj,seval,hy0,hy1,hmg,bf,dg,AV.key,MK.fits,and_self,true_and,c1,c2']
      refine hK _ _ _ ?_;clear hK K;refine AWP.cond (b:=false) rfl (λh=>by cases h) (λ_=>?_);refine AWP.skip ?_;refine⟨(_,_),⟨hbf (by unfold bfr;omega),hN,hS⟩,hL,?_⟩
      refine ap.nf [0,1,2] _ _ ?_ ?_ ⟨rfl,rfl⟩ (by decide) (by decide) (by decide)
      ·repeat' (first|exact trivial|exact f' rfl trivial|refine f' ?_ ?_|rfl|exact O' rfl|exact rm _ _|exact rs _|exact bm _|exact bs)
      ·repeat' (first|exact trivial|exact f' rfl trivial|refine f' ?_ ?_|rfl|exact O' rfl|exact rm _ _|exact rs _|exact bm _|exact bs)
theorem dd.refN{foot:List Nat}{hp:Hp}{b off:Nat}{x y:AV}(hb:b∈foot)(h:hp b=some (.box x))(hv:dd foot hp x y)(hs:y.solid=true):dd foot hp (.ref b off) (.rptr y off):=by
 intro P c A μ fr tm' hp' n a w cv H hh hv';obtain⟨hd,e1,e2,rfl⟩:=hv';obtain⟨hd',v,ty,f1,f2,f3,f4,f5,f6⟩:=H.box ((hh b hb).trans h);rw[e1]at f1;cases f1;obtain⟨hd',g1,_,g3⟩:=H.blk b _ ((hh b hb).trans h);rw[e1]at g1;cases g1;have q:=hv P c A μ fr tm' hp' n a w v H hh f4;refine⟨hd.blk,0,v,by simp,.inr ⟨b,_,hd,(hh b hb).trans h,e1,e2,rfl⟩,q,(RV.cells hs q).2,λp u hu=>f6 p u hu⟩
def wu:AC:=.reg [⟨(some 52),.faddr 1 (.t 1),none⟩,⟨(some 53),.load false 1 (.t 52),none⟩,⟨(some 54),.mkf 78 [(.t 4)],none⟩,⟨(some 55),.call (.c (.func 76 [])) [(.t 53),(.t 54)],none⟩,⟨(some 51),.move (.t 55),none⟩]
def CJ(t:Tpl):NF:=⟨[(1,.k,.ref 0 0),(4,.k,.ref 1 0)],[.box (Tpl.v t),.box (.func 73 [.ref 0 0])]⟩
def CI(t:Tpl)(b:Bool):NF:=⟨[(1,.k,.ref 0 0),(51,.k,.bool b)],[.box (Tpl.v t)]⟩
theorem unk_h(t:Tpl)(hl:t.rs.length≤1000000)(k:Nat):dl Try.prog 0 k wu (CJ t).st (CI t (t.ls.any λy=>gt y t)).st:=by
 unfold dl wu;show AWP _ 0 k _ _ ⟨cq [(1,.ref 0 0),(4,.ref 1 0)],hpL 0 [some (.box (Tpl.v t)),some (.box (.func 73 [.ref 0 0]))],2⟩;refine AWP.reg' λK hK=>?_
 try simp only[aj,seval,Tpl.v]
 refine pO [0,1] (te t.ls t hl).ok (te t.ls t hl).fn rfl rfl ⟨dd.pure trivial,dd.func ⟨?_,trivial⟩,trivial⟩ trivial ?_
 ·refine dd.refN (by simp) rfl (dd.func ⟨dd.ref (by simp) rfl ⟨trivial,trivial,trivial⟩,trivial⟩) rfl
 try simp only[aj,seval]
 refine hK _ _ _ ?_;clear hK K;refine(show ap 0 k _ ⟨cq [(1,.ref 0 0),(51,.bool (t.ls.any λy=>gt y t))],hpL 0 [some (.box (Tpl.v t))],1⟩from ?_)
 refine ap.nf [0] _ _ ?_ ?_ ⟨rfl,rfl⟩ (by decide) (by decide) (by decide)
 ·repeat' (first|exact trivial|exact f' rfl trivial|refine f' ?_ ?_|rfl|exact O' rfl)
 ·repeat' (first|exact trivial|exact f' rfl trivial|refine f' ?_ ?_|rfl|exact O' rfl)
def eW{α:Type}(l:List α)(R:α→α→Prop)(t:Int):Prop:=∃k:Nat,t=k∧k≤l.length∧∀(j:Nat) x y,j+1<k→l[j]?=some x→l[j+1]?=some y→R x y
section
variable {α : Type} {l : List α} {R : α → α → Prop} {t : Int} {x y : α}
theorem eW.zero:eW l R 0:=⟨0,rfl,by omega,λj x y h=>by omega⟩
theorem eW.idx(h:eW l R t):0≤t:=by obtain⟨k,rfl,_,_⟩:=h;omega
theorem eW.step0(h:eW l R t)(hl:l.length≤1000000)(c:t<l.length)(h0:¬0<t):eW l R (W (t+1))∧l.length-(W (t+1)).toNat<l.length-t.toNat:=by
 obtain⟨k,rfl,hk,ha⟩:=h;obtain rfl:k=0:=by omega
 rw[d7 (n:=l.length) (by omega) (by omega)];exact⟨⟨1,rfl,by omega,λj x y hj=>by omega⟩,by omega⟩
theorem eW.step(h:eW l R t)(hl:l.length≤1000000)(h0:0<t)(hx:l[(W (t-1)).toNat]?=some x)(hy:l[t.toNat]?=some y)(p:R x y):eW l R (W (t+1))∧l.length-(W (t+1)).toNat<l.length-t.toNat:=by
 obtain⟨k,rfl,hk,ha⟩:=h;rw[Int.toNat_natCast]at hy;have hlt:=ao hy;rw[oA (by omega) (by omega),Int.toNat_natCast]at hx;rw[d7 (n:=l.length) hlt (by omega)];refine⟨⟨k+1,rfl,by omega,λj x' y' hj hx' hy'=>?_⟩,by omega⟩
 by_cases e:j+1=k
 ·subst e;rw[show j+1-1=j by omega,hx']at hx;cases hx;rw[hy']at hy;cases hy;exact p
 ·exact ha j x' y' (by omega) hx' hy'
theorem eW.bad(h:eW l R t)(hl:l.length≤1000000)(h0:0<t)(hx:l[(W (t-1)).toNat]?=some x)(hy:l[t.toNat]?=some y)(p:¬R x y):¬l.Pairwise R:=by
 obtain⟨k,rfl,hk,ha⟩:=h;rw[Int.toNat_natCast]at hy;have hlt:=ao hy;rw[oA (by omega) (by omega),Int.toNat_natCast]at hx;intro hp;rw[aZ']at hp;have:=hp (k-1) k (by omega) hlt (by omega);rw[u' (by omega)]at hx hy;rw[af' hx,af' hy]at this;exact p this
theorem eW.rng(h:eW l R t)(hl:l.length≤1000000)(h0:0<t)(c:t<l.length):0≤W (t-1)∧W (t-1)<l.length:=by
 obtain⟨k,rfl,hk,ha⟩:=h;rw[oA (by omega) (by omega)];omega
theorem eW.next(h:eW l R t)(hl:l.length≤1000000)(c:t<l.length){b:Bool}(hb:b=true↔0<t∧∃x y,l[(W (t-1)).toNat]?=some x∧l[t.toNat]?=some y∧¬R x y) :
  (b=true→¬l.Pairwise R)∧(b=false→eW l R (W (t+1))∧l.length-(W (t+1)).toNat<l.length-t.toNat):=by
 refine⟨λe=>?_,λe=>?_⟩
 ·obtain⟨h0,x,y,hx,hy,p⟩:=hb.mp e;exact h.bad hl h0 hx hy p
 ·by_cases h0:0<t
  ·obtain⟨g1,g2⟩:=h.rng hl h0 c;have hx:=u' (show(W (t-1)).toNat<l.length by omega);have hy:=u' (show t.toNat<l.length by omega);refine h.step hl h0 hx hy (U' λp=>?_);have:=hb.mpr ⟨h0,_,_,hx,hy,p⟩;rw[e]at this;cases this
  ·exact h.step0 hl c h0
theorem eW.done(h:eW l R t)(c:¬t<l.length)(tr:∀x y z,R x y→R y z→R x z):l.Pairwise R:=by
 obtain⟨k,rfl,hk,ha⟩:=h;rw[aZ'];have key:∀d i,(hi:i+d+1<l.length)→R (l[i]'(by omega)) l[i+d+1]:=by
  intro d
  induction d with
  | zero=>intro i hi;exact ha i _ _ (by omega) (u' (by omega)) (u' hi)
  | succ d ih =>
   intro i hi;exact tr _ _ _ (ih i (by omega)) (ha (i+d+1) _ _ (by omega) (u' (by omega)) (u' hi))
 intro i j hi hj hij;have:=key (j-i-1) i (by omega);simp only[show i+(j-i-1)+1=j by omega]at this;exact this
end
theorem qn{l:List Rtr}(h:l.Pairwise (λx y=>x.id<y.id)){i j:Nat}(hij:i<j){x y:Rtr}(hx:l[i]?=some x)(hy:l[j]?=some y):x.id<y.id:=by
 have hi:=ao hx;have hj:=ao hy;rw[u' hi]at hx;rw[u' hj]at hy;have:=aZ'.mp h i j hi hj hij;rw[af' hx,af' hy]at this;exact this
theorem oP(l:List Rtr):l.any jd=true↔¬∀x∈l,1≤x.id∧x.id≤99:=by
 rw[aF']
 constructor
 ·rintro⟨x,hx,e⟩ h;have:=h x hx;simp[jd,inT,this]at e
 ·intro h;refine U' λq=>h λx hx=>?_;have:¬jd x=true:=λe=>q ⟨x,hx,e⟩;simp[jd,inT]at this;omega
theorem qe(l:List Lnk):l.any j3=true↔¬∀x∈l,iG x:=by
 rw[aF'];have key:∀x:Lnk,j3 x=true↔¬iG x:=λx=>by
  unfold j3 iG inT gb;simp;omega
 constructor
 ·rintro⟨x,hx,e⟩ h;exact(key x).mp e (h x hx)
 ·intro h;exact U' λq=>h λx hx=>U' λr=>q ⟨x,hx,(key x).mpr r⟩
theorem qo(l:List Lnk):l.any jZ=true↔¬∀x∈l,x.a<x.b:=by
 rw[aF']
 constructor
 ·rintro⟨x,hx,e⟩ h;have:=h x hx;simp[jZ]at e;omega
 ·intro h;exact U' λq=>h λx hx=>U' λr=>q ⟨x,hx,by simp[jZ];omega⟩
theorem lO{l:List Rtr}(h:l.Pairwise λx y=>x.id<y.id)(r:Int):(kG l r=l.any (eqR r))∧∀x∈l,eqR r x=true→l[nB l r]?=some x:=by
 refine uE (λa b x y hab hx hy e=>?_) (λx e=>?_) λa b x y hab hx hy e=>?_
 ·have:=qn h hab hx hy;simp[ltR]at e ⊢;omega
 ·simp[eqR]at e;simp[ltR];omega
 ·have:=qn h hab hx hy;simp[eqR]at e;simp[ltR];omega
theorem oI{t:Tpl}(h:t.rs.Pairwise λx y=>x.id<y.id):(t.ls.any λy=>gt y t)=true↔¬∀l∈t.ls,aJ t l.a=true∧aJ t l.b=true:=by
 have key:∀l:Lnk,gt l t=true↔¬(aJ t l.a=true∧aJ t l.b=true):=λl=>by
  unfold gt qD;rw[(lO h l.a).1,(lO h l.b).1];show(!aJ t l.a || !aJ t l.b)=true↔_;cases aJ t l.a<;>cases aJ t l.b<;>simp
 rw[aF']
 constructor
 ·rintro⟨x,hx,e⟩ q;exact(key x).mp e (q x hx)
 ·intro q;exact U' λq2=>q λx hx=>U' λr=>q2 ⟨x,hx,(key x).mpr r⟩
def zm(t:Tpl):=okL [Tpl.v t]
def BT(t:Tpl)(t0:Bool):NF:=⟨[rR 1 0,rB 6 t0],[.box (Tpl.v t)]⟩
def BS(t:Tpl)(t1:Int):NF:=⟨[rR 1 0,rI 23 ((t.rs.map Rtr.v).length:Int),rI 24 t1],[.box (Tpl.v t)]⟩
def BR(t:Tpl)(t1:Int)(t2:Bool):NF:=⟨[rR 1 0,rI 23 ((t.rs.map Rtr.v).length:Int),rI 24 t1,rB 44 t2],[.box (Tpl.v t)]⟩
def BQ(t:Tpl)(t3:Int):NF:=⟨[rR 1 0,rI 62 ((t.ls.map Lnk.v).length:Int),rI 63 t3],[.box (Tpl.v t)]⟩
def BP(t:Tpl)(t3:Int)(t4:Bool):NF:=⟨[rR 1 0,rI 62 ((t.ls.map Lnk.v).length:Int),rI 63 t3,rB 82 t4],[.box (Tpl.v t)]⟩
@[reducible] def zj:Nat→Type
 | 0=>Bool
 | 1=>Int
 | 2=>Bool
 | 3=>Int
 | 4=>Bool
 | _=>Unit
def zk(r:Int):AV:=.int r
def zi(t:Tpl)(I0:Bool→Prop)(I1:Bool→Int→Prop)(m1:Bool→Int→Nat)(I2:Bool→Int→Bool→Prop)(I3:Bool→Int→Int→Prop)(m3:Bool→Int→Int→Nat)(I4:Bool→Int→Int→Bool→Prop):Ax Try.prog zj (Int):=
 (.pass (.pass (.join 0 (BT t) (λ(t0:Bool)=>I0 t0) (λb0=>(.br 112 (decide (24<((t.rs.map Rtr.v).length:Int))) (.bk 0 b0 ((true):Bool) [0])
(.bk 0 b0 ((decide (60<((t.ls.map Lnk.v).length:Int))):Bool) [0]))) λ(t0:Bool) =>
(.br 1 t0 (.ret (3))
(.callP (AB t.rs)
(.br 65 ((t.rs).any jd) (.ret (2))
(.loop 1 (BS t) (I1 t0) (m1 t0) ((0):Int) [0] λ(t1:Int) b1 =>
(.br 17 (decide (t1<((t.rs.map Rtr.v).length:Int))) (.pass (.pass (.join 2 (BR t t1) (λ(t2:Bool)=>I2 t0 t1 t2) (λb2=>(.br 97 (decide (0<t1)) (.elI 161 Rtr.v t.rs (W (t1-1)) λx1 =>
(.elI 257 Rtr.v t.rs t1 λx2 =>
(.bk 2 b2 ((decide (x2.id≤x1.id)):Bool) [0])))
(.bk 2 b2 ((false):Bool) [0]))) λ(t2:Bool) =>
(.br 1 t2 (.ret (25))
(.bk 1 b1 ((W (t1+1)):Int) [0])))))
(.callP (BL t.ls)
(.br 129 ((t.ls).any j3) (.ret (2))
(.handQ 0 (CJ t) [0,33] ((CI t ((t).ls.any λy=>gt y t)).st) wu ((t).rs.length≤1000000) (unk_h t)
(.br 1 (t.ls.any λy=>gt y t) (.ret (4))
(.callP (CD t.ls)
(.br 65 ((t.ls).any jZ) (.ret (8))
(.loop 3 (BQ t) (I3 t0 t1) (m3 t0 t1) ((0):Int) [0] λ(t3:Int) b3 =>
(.br 17 (decide (t3<((t.ls.map Lnk.v).length:Int))) (.pass (.pass (.join 4 (BP t t3) (λ(t4:Bool)=>I4 t0 t1 t3 t4) (λb4=>(.br 97 (decide (0<t3)) (.elI 161 Lnk.v t.ls (W (t3-1)) λx3 =>
(.elI 241 Lnk.v t.ls t3 λx4 =>
(.callP (sC x3 x4)
(.bk 4 b4 ((decide (0≤(o3 x3 x4))):Bool) [0]))))
(.bk 4 b4 ((false):Bool) [0]))) λ(t4:Bool) =>
(.br 1 t4 (.ret (25))
(.bk 3 b3 ((W (t3+1)):Int) [0])))))
(.ret (0))))))))))))))))))
theorem EL(t:Tpl)(ok:zm t):∃I0 I1 m1 I2 I3 m3 I4,(zi t I0 I1 m1 I2 I3 m3 I4).vp zk (aF t):=by
 refine⟨λb=>b=decide (24<t.rs.length∨60<t.ls.length),λ_ i=>eW t.rs (λx y=>x.id<y.id) i,λ_ i=>t.rs.length-i.toNat,
  λ_ i b=>b=true↔0<i∧∃x y,t.rs[(W (i-1)).toNat]?=some x∧t.rs[i.toNat]?=some y∧¬x.id<y.id,λ_ _ i=>eW t.ls aU i,λ_ _ i=>t.ls.length-i.toNat,
  λ_ _ i b=>b=true↔0<i∧∃x y,t.ls[(W (i-1)).toNat]?=some x∧t.ls[i.toNat]?=some y∧¬aU x y,?_⟩
 simp only[zm,Tpl.v,okU,Blk.ok,bc,B']at ok;dsimp only[zi,zj,Ax.vp,Ax.vc];simp only[vcU,rfU,B'];refine⟨⟨λc=>(decide_eq_true (.inl (by omega))).symm,λc=>decide_eq_decide.mpr (by omega)⟩,?_⟩;rintro _ rfl;unfold aF;refine⟨λc=>by rw[F' (H' c)],λc=>?_⟩;have c:=ag' c;rw[E' c];refine⟨λd=>by rw[F' ((oP _).mp d)],λd=>?_⟩;have d:∀x∈t.rs,1≤x.id∧x.id≤99:=U' λq=>by rw[(oP _).mpr q]at d;cases d
 rw[E' (not_not_intro d)]
 refine⟨eW.zero,λi h=>⟨λc1=>⟨⟨λh0=>?_,λh0=>?_⟩,λb hb=>?_⟩,λc1=>?_⟩⟩
 ·obtain⟨g1,g2⟩:=h.rng (by omega) h0 c1;refine⟨g1,g2,λx hx=>⟨h.idx,c1,λy hy=>⟨λe=>⟨h0,x,y,hx,hy,by omega⟩,?_⟩⟩⟩;rintro⟨_,x',y',hx',hy',p⟩;rw[hx]at hx';cases hx';rw[hy]at hy';cases hy';omega
 ·exact⟨nofun,λe=>absurd e.1 h0⟩
 ·obtain⟨n1,n2⟩:=h.next (by omega) c1 hb;exact⟨λe=>by rw[F' (n1 e)],n2⟩
 have hP:=h.done c1 λ_ _ _ q r=>Int.lt_trans q r;rw[E' (not_not_intro hP)];refine⟨λe=>by rw[F' ((qe _).mp e)],λe=>?_⟩;have e:∀x∈t.ls,iG x:=U' λq=>by rw[(qe _).mpr q]at e;cases e
 rw[E' (not_not_intro e)];refine⟨by omega,λf=>by rw[F' ((oI hP).mp f)],λf=>?_⟩;have f:∀l∈t.ls,aJ t l.a=true∧aJ t l.b=true:=U' λq=>by rw[(oI hP).mpr q]at f;cases f
 rw[E' (not_not_intro f)];refine⟨λg=>by rw[F' ((qo _).mp g)],λg=>?_⟩;have g:∀x∈t.ls,x.a<x.b:=U' λq=>by rw[(qo _).mpr q]at g;cases g
 rw[E' (not_not_intro g)]
 refine⟨eW.zero,λi h=>⟨λc1=>⟨⟨λh0=>?_,λh0=>?_⟩,λb hb=>?_⟩,λc1=>?_⟩⟩
 ·obtain⟨g1,g2⟩:=h.rng (by omega) h0 c1;refine⟨g1,g2,λx hx=>⟨h.idx,c1,λy hy=>⟨λe=>⟨h0,x,y,hx,hy,λq=>by have:=(kR x y).mpr q;omega⟩,?_⟩⟩⟩;rintro⟨_,x',y',hx',hy',p⟩;rw[hx]at hx';cases hx';rw[hy]at hy';cases hy';exact U' λq=>p ((kR x y).mp (by omega))
 ·exact⟨nofun,λe=>absurd e.1 h0⟩
 ·obtain⟨n1,n2⟩:=h.next (by omega) c1 hb;exact⟨λe=>by rw[F' (n1 e)],n2⟩
 ·rw[E' (not_not_intro (h.done c1 λ_ _ _ q r=>by unfold aU at *;omega))]
def zl(t:Tpl):PC Try.prog:=pcO 56 [(.a [(.s 2),(.s 5)])] [Tpl.v t] .k zk (aF t) (λok=>let ⟨I0,I1,m1,I2,I3,m3,I4,h⟩:=EL t ok;⟨_,h,by kernel_rfl⟩) rfl (by kernel_rfl)
def gI(t:Tpl):Bool:=aF t==0
def wq(r:Bool):AV:=.bool r
def q9(t:Tpl):Ax Try.prog noS (Bool):=
 (.callP (zl t)
(.ret ((aF t)==0)))
theorem Di(t:Tpl):(q9 t).vp wq (gI t):=by
 dsimp only[q9,noS,Ax.vp,Ax.vc];simp only[vcU,rfU,B'];rfl
def qA(t:Tpl):PC Try.prog:=pcO 35 [(.a [(.s 2),(.s 5)])] [Tpl.v t] .k wq (gI t) (λ_=>⟨(q9 t),Di t,by kernel_rfl⟩) rfl (by kernel_rfl)
def Fr(i:Nat):Nat:=1000+i
theorem nh{i b:Nat}(hb:b<1000):(Fr i=b)=False:=by unfold Fr;simp;omega
theorem b9{i b:Nat}(hb:b<1000):(b=Fr i)=False:=by unfold Fr;simp;omega
theorem gr{i b:Nat}(hi:i<1000)(hb:2000≤b):(Fr i=b)=False:=by unfold Fr;simp;omega
theorem oF{i j:Nat}:(Fr i=Fr j)=(i=j):=by unfold Fr;simp
def eA(bs fs:Nat→Nat)(b:Nat):Nat:=if 1000≤b∧b<2000 then fs (b-1000)else bs b
theorem iI{bs fs:Nat→Nat}{i:Nat}(h:i<1000):eA bs fs (Fr i)=fs i:=by unfold eA Fr;rw[F' (by omega),show 1000+i-1000=i by omega]
theorem dV{bs fs:Nat→Nat}{b:Nat}(h:b<1000):eA bs fs b=bs b:=E' (by omega)
section
variable {ρ : Type} (kk : Nat) (v : ρ → AV)
def GR(rows:List (List ρ))(h:Hp):Hp:=λb=>if 1000≤b∧b<2000 then(rows[b-1000]?).map (λr=>Blk.vec kk (r.map v))else h b
variable {kk v}
theorem kC{rows:List (List ρ)}{h:Hp}{b:Nat}(hb:b<1000):GR kk v rows h b=h b:=E' (by omega)
theorem gm{rows:List (List ρ)}{h:Hp}{i:Nat}{r:List ρ}(hr:rows[i]?=some r)(hl:rows.length≤1000):GR kk v rows h (Fr i)=some (.vec kk (r.map v)):=by
 have:i<rows.length:=(L'.mp hr).1;unfold GR Fr;rw[F' (by omega),show 1000+i-1000=i by omega,hr];rfl
theorem ap.nfR(hpu:∀x,(v x).pureB=true){k n:Nat}{tm:Nat→AV}{hp:Hp}{nx:Nat}(rows:List (List ρ))(ts:List (Nat×AV))(hs:List (Option Blk))(bs fs:Nat→Nat)
    (hT:∀p∈ts,tm p.1=p.2.ren (eA bs fs)∧p.2.bel 2000) (hH:∀i x,hs[i]?=some (some x)→hp (bs i)=some (x.ren (eA bs fs))∧x.bel 2000)
    (hl:hs.length≤1000) (hr:rows.length≤1000) (hR:∀i r,rows[i]?=some r→hp (fs i)=some (.vec kk (r.map v)))
    (h1:∀i j,i<hs.length→j<hs.length→bs i=bs j→i=j) (h2:∀i j,i<rows.length→j<rows.length→fs i=fs j→i=j) (h3:∀i j,i<hs.length→j<rows.length→bs i≠fs j)
    (hk:∀b,b<k→bs b=b) (hkl:k≤1000):ap k n ⟨tm,hp,nx⟩ ⟨cq ts,GR kk v rows (hpL 0 hs),2000⟩:=by
  have pur:∀r:List ρ,aH (r.map v):=λr=>aw (am hpu r);have low:∀{b x},hpL 0 hs b=some x→hs[b]?=some (some x):=λ{b x} e=>by
    rw[rW,F' (aq' _),Nat.sub_zero]at e;cases e':hs[b]? with
    | none=>rw[e']at e;cases e
    | some y=>rw[e']at e;exact congrArg some e
  have cls:∀{b x},GR kk v rows (hpL 0 hs) b=some x→(∃i r,b=Fr i∧i<rows.length∧rows[i]?=some r∧x=.vec kk (r.map v))∨(b<hs.length∧hs[b]?=some (some x)):=λ{b x} e=>by
    unfold GR at e
    split at e
    · rename_i hb
      obtain⟨r,hr,rfl⟩:=av'.mp e;exact .inl ⟨b-1000,r,by unfold Fr;omega,(L'.mp hr).1,hr,rfl⟩
    · have:=low e
      exact .inr ⟨(L'.mp this).1,this⟩
  refine ap.ren (eA bs fs) (λt=>?_) (λb x e=>?_) (λb b' e e' he=>?_) (λb hb=>?_) (by show k≤2000;omega)
  · show cq ts t=.unk∨(tm t=(cq ts t).ren _∧(cq ts t).bel 2000)
    clear hH hR h1 h2 h3 cls low hl
    induction ts with
    | nil=>exact .inl rfl
    | cons p l ih =>
      obtain⟨t',x⟩:=p
      by_cases ht:t=t'
      · subst ht
        have:=hT (t,x) (by simp);simp only[cq,↓reduceIte];exact .inr this
      · have:=ih (λp hp=>hT p (by simp[hp]))
        simp only[cq,E' ht];exact this
  · show b<2000∧hp (eA bs fs b)=some (x.ren (eA bs fs))∧x.bel 2000
    rcases cls e with⟨i,r,rfl,hi,hr',rfl⟩|⟨hb,e⟩
    · refine⟨by unfold Fr;omega,?_,aG (pur r)⟩
      rw[iI (by omega),hR i r hr',Blk.ren,aK _ (pur r)]
    · obtain⟨g1,g2⟩:=hH b x e
      exact⟨by omega,by rw[dV (by omega)];exact g1,g2⟩
  · have c1:∀{b},GR kk v rows (hpL 0 hs) b≠none→(∃i,b=Fr i∧i<rows.length)∨b<hs.length:=λ{b} e=>by
      cases q:GR kk v rows (hpL 0 hs) b with
      | none=>exact absurd q e
      | some x => rcases cls q with ⟨i, r, g1, g2, _⟩ | ⟨g, _⟩
                  · exact .inl ⟨i,g1,g2⟩
                  · exact .inr g
    rcases c1 e with⟨i,rfl,hi⟩|hb<;>rcases c1 e' with⟨j,rfl,hj⟩|hb'
    · rw[iI (by omega),iI (by omega)]at he
      rw[h2 i j hi hj he]
    · rw[iI (by omega),dV (by omega)]at he
      exact absurd he.symm (h3 b' i hb' hi)
    · rw[dV (by omega),iI (by omega)]at he
      exact absurd he (h3 b j hb hj)
    · rw[dV (by omega),dV (by omega)]at he
      exact h1 b b' hb hb' he
  · rw[dV (by omega)];exact hk b hb
end
theorem ap.nilvecM{k n:Nat}{tm:Nat→AV}{hp:Hp}{nx:Nat}{kq:Option Nat}{ks:List MK}{vs:List AV}(b0 i kk k':Nat)(hb:hp b0=some (.map kq ks vs))(h:vs[i]?=some (.sl kk [] true))(hk:k≤nx) :
  ap k n ⟨tm,hp,nx⟩ ⟨tm,upd (upd hp b0 (some (.map kq ks (vs.set i (.vec nx))))) nx (some (.vec k' [])),nx+1⟩:=by
 rintro P c a w ⟨h0,A,μ,H⟩;obtain⟨hd0,q1,⟨q2,ents,ck,q3,q4,q5,q6⟩,q8⟩:=H.blk b0 _ hb;have hi:i<vs.length:=(L'.mp h).1;have hv0:=(RVL.length q5)
 obtain⟨vi,hvi⟩:∃vi,(ents.toList.map (·.val))[i]?=some vi:=⟨(ents.toList.map (·.val))[i]'(by omega),u' (by omega)⟩
 obtain⟨ad,hv⟩:=RV.nilsl (RVL.get2 q5 h hvi);obtain⟨f1,f2⟩:μ nx=none∧hp nx=none:=H.fr nx (S' _)
 let hd:Hd:=⟨some ad,0,k',0,0⟩
 have hne:b0≠nx:=λe=>by subst e;rw[f2]at hb;cases hb
 have hle:be μ (upd μ nx (some hd)):=by
  intro b hd' e
  by_cases g:b=nx
  ·subst g;rw[f1]at e;cases e
  ·rw[ai _ _ g];exact e
 have key:=H.add nx f2 (upd μ nx (some hd)) hle (λb hb=>ai _ _ hb) hd (ah _ _ _) (.vec k' []) ⟨rfl,.inl ⟨rfl,rfl⟩⟩ (λe=>by cases e) (λ_ _ _ _ _ _ e=>by cases e);have hswap:upd (upd hp b0 (some (.map kq ks (vs.set i (.vec nx))))) nx (some (.vec k' []))=upd (upd hp nx (some (.vec k' []))) b0 (some (.map kq ks (vs.set i (.vec nx)))):=by
  funext b
  by_cases e1:b=b0
  ·subst e1;rw[ah,ai _ _ hne,ah]
  ·rw[ai _ _ e1]
   by_cases e2:b=nx
   ·subst e2;rw[ah,ah]
   ·rw[ai _ _ e2,ai _ _ e1,ai _ _ e2]
 rw[hswap];have hb1:upd hp nx (some (.vec k' [])) b0=some (.map kq ks vs):=by rw[ai _ _ hne];exact hb
 have fin:=key.say hb1 (y:=.map kq ks (vs.set i (.vec nx))) λhd1 e1 e2=>by
  obtain⟨r2,ents',ck',r3,r4,r5,r6⟩:=e2;rw[hle _ _ q1]at e1;cases e1;rw[q3]at r3;cases r3;refine⟨r2,ents,ck,q3,q4,RVL.setAt r5 hvi ⟨hd,ah _ _ _,hv⟩,λx hx=>?_⟩
  rcases aj' hx with hx|rfl
  ·exact q6 x hx
  ·rfl
 exact⟨h0,A,upd μ nx (some hd),fin.free λb hb=>⟨show nx≤b by have:nx+1≤b:=hb;omega,by have:nx+1≤b:=hb;omega⟩⟩
def relx(cost:Int)(out:Dis)(op:Dis)(s:Stp):Dis:=
 if aR out s.to=true then op else if(aR op s.to=false∨W (cost+s.cost)<av op s.to 0)then bg op s.to (W (cost+s.cost))else op
def wa(L:Lks):Nat→Dis→Dis→Dis
 | 0,out,_=>out
 | n+1,out,op=>if op=[]then out else
   if(bg out (bst op) (av op (bst op) 0)).length=L.length then bg out (bst op) (av op (bst op) 0)
   else wa L n (bg out (bst op) (av op (bst op) 0)) ((av L (bst op) []).foldl (relx (av op (bst op) 0) (bg out (bst op) (av op (bst op) 0))) (mdl op (bst op)))
def cn(L:Lks)(f:Int):Dis:=if aR L f=true then wa L L.length [] (bg [] f 0)else []
def tM(L:Lks):Prop:=L.length≤1000000∧(aq L).Nodup∧(∀x∈aq L,x≠0∧-9223372036854775808≤x∧x≤9223372036854775807)∧∀p∈L,p.2.length≤1000000∧∀s∈p.2,s.to∈aq L
structure iP (L:Lks) (out op:Dis):Prop where
  no:(aq out).Nodup
  np:(aq op).Nodup
  ko:∀x∈aq out,x∈aq L
  kp:∀x∈aq op,x∈aq L
  di:∀x∈aq op,x ∉ aq out
theorem cu{α β:Type}(l:List (α×β)):(aq l).length=l.length:=B' _
theorem iP.len1{L:Lks}{out op:Dis}(h:iP L out op):out.length≤L.length:=by
 have:=List.Nodup.length_le_of_subset h.no h.ko
 rwa [cu,cu]at this
theorem iP.len2{L:Lks}{out op:Dis}(h:iP L out op):op.length≤L.length:=by
 have:=List.Nodup.length_le_of_subset h.np h.kp
 rwa [cu,cu]at this
theorem zy{op:Dis}(h:op≠[]):∃c,(bst op,c)∈op∧∀x∈op,¬bfr x (bst op,c):=by
 obtain⟨b,h1,h2,h3⟩:=jW h;have:bst op=b.1:=by unfold bst;rw[h1]
 rw[this];exact⟨b.2,h2,h3⟩
theorem Ck{op:Dis}(h:op≠[]):bst op∈aq op:=by
 obtain⟨c,h1,_⟩:=zy h;exact aN.mpr ⟨c,h1⟩
theorem iP.pop{L:Lks}{out op:Dis}(h:iP L out op){b c:Int}(hb:b∈aq op):iP L (bg out b c) (mdl op b)∧(bg out b c).length=out.length+1:=by
 have hbo:=h.di b hb
 refine⟨⟨eR h.no,vu h.np,λx hx=>?_,λx hx=>?_,λx hx hx2=>?_⟩,?_⟩
 ·obtain⟨v,hv⟩:=aN.mp hx
  rcases(bQ h.no).mp hv with e|⟨e,_⟩
  ·cases e;exact h.kp _ hb
  ·exact h.ko _ (aN.mpr ⟨_,e⟩)
 ·obtain⟨v,hv⟩:=aN.mp hx;exact h.kp _ (aN.mpr ⟨_,((nN h.np).mp hv).1⟩)
 ·obtain⟨v,hv⟩:=aN.mp hx;obtain⟨v2,hv2⟩:=aN.mp hx2;obtain⟨q1,q2⟩:=(nN h.np).mp hv
  rcases(bQ h.no).mp hv2 with e|⟨e,_⟩
  ·cases e;exact q2 rfl
  ·exact h.di _ (aN.mpr ⟨_,q1⟩) (aN.mpr ⟨_,e⟩)
 ·rw[xK,E'];unfold aR;simpa using hbo
theorem iP.relx{L:Lks}{out op:Dis}(h:iP L out op){c:Int}{s:Stp}(hs:s.to∈aq L):iP L out (relx c out op s):=by
 unfold Go.Proofs.Ytdoacjojljgdcaa.relx
 split
 ·exact h
 rename_i h1;have h1:s.to ∉ aq out:=by unfold aR at h1;simpa using h1
 split
 ·refine⟨h.no,eR h.np,h.ko,λx hx=>?_,λx hx=>?_⟩
  all_goals
   obtain⟨v,hv⟩:=aN.mp hx;rcases(bQ h.np).mp hv with e|⟨e,_⟩
  ·cases e;exact hs
  ·exact h.kp _ (aN.mpr ⟨_,e⟩)
  ·cases e;exact h1
  ·exact h.di _ (aN.mpr ⟨_,e⟩)
 ·exact h
theorem iP.fold{L:Lks}{out:Dis}{c:Int}:∀{l:List Stp} {op:Dis},iP L out op→(∀s∈l,s.to∈aq L)→iP L out (l.foldl (Go.Proofs.Ytdoacjojljgdcaa.relx c out) op)
 | [],op,h,_=>h
 | s::l,op,h,hs=>(h.relx (hs s (by simp))).fold λx hx=>hs x (by simp[hx])
def BF(links:(List (Int×List Stp)))(t0:(List (Int×Int))×(List (Int×Int))):NF:=⟨[(0,.k,.mp none (links.map λp:Int×List Stp=>MK.n p.1) (links.map λp:Int×List Stp=>(λl:List Stp=>AV.sl 2 (l.map Stp.v) false) p.2)),(5,.k,.mref 0),(8,.k,.mref 1)],[.map none (t0.2.map λp=>MK.n p.1) (t0.2.map λp=>AV.int p.2) (am (λ_=>rfl) _),.map none (t0.1.map λp=>MK.n p.1) (t0.1.map λp=>AV.int p.2) (am (λ_=>rfl) _)]⟩
def BE(links:(List (Int×List Stp)))(t0:(List (Int×Int))×(List (Int×Int)))(t1:Int×(List (Int×Int))):NF:=⟨[(0,.k,.mp none (links.map λp:Int×List Stp=>MK.n p.1) (links.map λp:Int×List Stp=>(λl:List Stp=>AV.sl 2 (l.map Stp.v) false) p.2)),(5,.k,.mref 0),(8,.k,.mref 1),rI 12 (av t0.1 (bst t0.1) 0),(79,.k,.sl 2 ((av links (bst t0.1) []).map Stp.v) false),rI 80 (((av links (bst t0.1) []).map Stp.v).length:Int),rI 81 t1.1],[.map none ((bg t0.2 (bst t0.1) (av t0.1 (bst t0.1) 0)).map λp=>MK.n p.1) ((bg t0.2 (bst t0.1) (av t0.1 (bst t0.1) 0)).map λp=>AV.int p.2) (am (λ_=>rfl) _),.map none (t1.2.map λp=>MK.n p.1) (t1.2.map λp=>AV.int p.2) (am (λ_=>rfl) _)]⟩
def BD(links:(List (Int×List Stp)))(t0:(List (Int×Int))×(List (Int×Int)))(t1:Int×(List (Int×Int)))(x1:Stp)(t2:Bool):NF:=⟨[(0,.k,.mp none (links.map λp:Int×List Stp=>MK.n p.1) (links.map λp:Int×List Stp=>(λl:List Stp=>AV.sl 2 (l.map Stp.v) false) p.2)),(5,.k,.mref 0),(8,.k,.mref 1),rI 12 (av t0.1 (bst t0.1) 0),rR 14 2,(79,.k,.sl 2 ((av links (bst t0.1) []).map Stp.v) false),rI 80 (((av links (bst t0.1) []).map Stp.v).length:Int),rI 81 t1.1,rB 109 t2],[.map none ((bg t0.2 (bst t0.1) (av t0.1 (bst t0.1) 0)).map λp=>MK.n p.1) ((bg t0.2 (bst t0.1) (av t0.1 (bst t0.1) 0)).map λp=>AV.int p.2) (am (λ_=>rfl) _),.map none (t1.2.map λp=>MK.n p.1) (t1.2.map λp=>AV.int p.2) (am (λ_=>rfl) _),.box (Stp.v x1)]⟩
@[reducible] def yW:Nat→Type
 | 0=>(List (Int×Int))×(List (Int×Int))
 | 1=>Int×(List (Int×Int))
 | 2=>Bool
 | _=>Unit
def yX(r:(List (Int×Int))):AV:=.mp none (r.map λp:Int×Int=>MK.n p.1) (r.map λp:Int×Int=>AV.int p.2)
def yV(links:(List (Int×List Stp)))(from_:Int)(I0:((List (Int×Int))×(List (Int×Int)))→Prop)(m0:((List (Int×Int))×(List (Int×Int)))→Nat)(I1:(List (Int×Int))×(List (Int×Int))→(Int×(List (Int×Int)))→Prop)(m1:(List (Int×Int))×(List (Int×Int))→(Int×(List (Int×Int)))→Nat)(I2:(List (Int×Int))×(List (Int×Int))→Int×(List (Int×Int))→Stp→Bool→Prop):Ax Try.prog yW ((List (Int×Int))):=
 (.mn 80 (xM false (λl:List Stp=>AV.sl 2 (l.map Stp.v) false) links from_ []) (.br 80 (aR links from_) (.mn 240 (rL AV.int ([]:List (Int×Int)) from_ 0) (.loop 0 (BF links) I0 m0 (bg ([]:List (Int×Int)) from_ 0,([]:List (Int×Int))) [16,208] λ(t0:(List (Int×Int))×(List (Int×Int))) b0 =>
(.say (ck (decide ((t0.1.map λp=>MK.n p.1).length≤maxLen))) (.br 50 (decide (0<((t0.1.map λp=>MK.n p.1).length:Int))) (.pass (.handQ 0 (ul links t0.2 t0.1 0) [0,1] ((ul links t0.2 t0.1 (bst t0.1)).st) yF (xB t0.1) (dst_h links t0.2 t0.1)
(.mn 34 (nM AV.int t0.1 (bst t0.1) 0) (.mn 98 (DU AV.int t0.1 (bst t0.1)) (.mn 162 (rL AV.int t0.2 (bst t0.1) (av t0.1 (bst t0.1) 0)) (.say (λR=>ck (decide (((bg t0.2 (bst t0.1) (av t0.1 (bst t0.1) 0)).map λp=>MK.n p.1).length≤maxLen))
((ck (decide ((links.map λp=>MK.n p.1).length≤maxLen))
R))) (.br 258 ((((bg t0.2 (bst t0.1) (av t0.1 (bst t0.1) 0)).map λp=>MK.n p.1).length:Int)==((links.map λp=>MK.n p.1).length:Int)) (.say (Rf ((bg t0.2 (bst t0.1) (av t0.1 (bst t0.1) 0)).map λp=>AV.int p.2)) (.cmdL (.frzM 0 ((bg t0.2 (bst t0.1) (av t0.1 (bst t0.1) 0)).map λp=>AV.int p.2) (am (λ_=>rfl) _)) (.ret (bg t0.2 (bst t0.1) (av t0.1 (bst t0.1) 0)))))
(.mn 290 (xM true (λl:List Stp=>AV.sl 2 (l.map Stp.v) false) links (bst t0.1) []) (.say (ck (aR links (bst t0.1))) (.loop 1 (BE links t0) (I1 t0) (m1 t0) (0,mdl t0.1 (bst t0.1)) [0,1] λ(t1:Int×(List (Int×Int))) b1 =>
(.br 18 (decide (t1.1<(((av links (bst t0.1) []).map Stp.v).length:Int))) (.elI 18 Stp.v (av links (bst t0.1) []) t1.1 λx1 =>
(.mn 130 (nM AV.int (bg t0.2 (bst t0.1) (av t0.1 (bst t0.1) 0)) x1.to 0) (.br 242 (aR (bg t0.2 (bst t0.1) (av t0.1 (bst t0.1) 0)) x1.to) (.bk 1 b1 (W (t1.1+1),t1.2) [0,1])
(.mn 290 (nM AV.int t1.2 x1.to 0) (.join 2 (BD links t0 t1 x1) (λ(t2:Bool)=>I2 t0 t1 x1 t2) (λb2=>(.br 434 (!(aR t1.2 x1.to)) (.bk 2 b2 ((true):Bool) [0,1,50])
(.bk 2 b2 ((decide ((W ((av t0.1 (bst t0.1) 0)+x1.cost))<(av t1.2 x1.to 0))):Bool) [0,1,50]))) λ(t2:Bool) =>
(.br 3 t2 (.mn 115 (rL AV.int t1.2 x1.to (W ((av t0.1 (bst t0.1) 0)+x1.cost))) (.bk 1 b1 (W (t1.1+1),bg t1.2 x1.to (W ((av t0.1 (bst t0.1) 0)+x1.cost))) [0,1]))
(.bk 1 b1 (W (t1.1+1),t1.2) [0,1])))))))
(.bk 0 b0 (t1.2,bg t0.2 (bst t0.1) (av t0.1 (bst t0.1) 0)) [0,1]))))))))))))
(.say (Rf (t0.2.map λp=>AV.int p.2)) (.cmdL (.frzM 0 (t0.2.map λp=>AV.int p.2) (am (λ_=>rfl) _)) (.ret (t0.2))))))))
(.say (Rf (([]:List (Int×Int)).map λp=>AV.int p.2)) (.cmdL (.frzM 16 (([]:List (Int×Int)).map λp=>AV.int p.2) (am (λ_=>rfl) _)) (.ret (([]:List (Int×Int))))))))
theorem E5(L:Lks)(f:Int)(h:tM L):∃I0 m0 I1 m1 I2,(yV L f I0 m0 I1 m1 I2).vp yX (cn L f):=by
 obtain⟨h1,h2,h3,h4⟩:=h;have hml:=aT
 refine⟨λt=>iP L t.2 t.1∧t.2.length<L.length∧wa L (L.length-t.2.length) t.2 t.1=cn L f,λt=>L.length-t.2.length,
  λt0 t=>mr (av L (bst t0.1) []) (relx (av t0.1 (bst t0.1) 0) (bg t0.2 (bst t0.1) (av t0.1 (bst t0.1) 0))) (mdl t0.1 (bst t0.1)) t.1 t.2,λt0 t=>(av L (bst t0.1) []).length-t.1.toNat,
  λt0 t x b=>b=decide (aR t.2 x.to=false∨W (av t0.1 (bst t0.1) 0+x.cost)<av t.2 x.to 0),?_⟩
 dsimp only[yV,yW,Ax.vp,Ax.vc];simp only[vcU,rfU,B']
 refine⟨λc=>⟨?_,?_⟩,λc=>by rw[cn,E' (by rw[c];simp)]⟩
 ·have hf:f∈aq L:=H' c;have h0:0<L.length:=by rw[←cu];exact List.length_pos_of_mem hf
  refine⟨⟨by simp[aq],by simp[bg,aq],by simp[aq],by simp[bg,aq];simpa[aq]using hf,by simp[aq]⟩,h0,by rw[cn,F' c];rfl⟩
 rintro⟨op,out⟩ ⟨hI,hlt,hD⟩;simp only at hI hlt hD ⊢;have q1:=hI.len1;have q2:=hI.len2;obtain⟨n,hn⟩:∃n,L.length-out.length=n+1:=⟨L.length-out.length-1,by omega⟩
 rw[hn,wa]at hD
 refine⟨by omega,λc1=>?_,λc1=>?_⟩
 ·have hne:op≠[]:=λe=>by rw[e]at c1;simp at c1
  rw[E' hne]at hD;have hb:=Ck hne;obtain⟨hP,hPl⟩:=hI.pop (c:=av op (bst op) 0) hb;have q3:=hP.len1
  refine⟨λx hx=>h3 _ (hI.kp _ (aN.mpr ⟨x.2,hx⟩)),by omega,by omega,λc2=>?_,λc2=>?_⟩
  ·rw[F' (by have:=eq_of_beq c2;omega)]at hD;exact hD
  ·have c2:¬(bg out (bst op) (av op (bst op) 0)).length=L.length:=λe=>by rw[e]at c2;simp at c2
   rw[E' c2]at hD;have hbL:=hI.kp _ hb;have hst:(av L (bst op) []).length≤1000000∧∀s∈av L (bst op) [],s.to∈aq L:=h4 _ (bD (z:=[]) (decide_eq_true hbL));refine⟨decide_eq_true hbL,mr.zero,?_⟩;rintro⟨i,op2⟩ hG;simp only at hG ⊢
   refine⟨λc3=>⟨hG.idx,c3,λx hx=>⟨λe=>?_,λe=>⟨⟨λe2=>?_,λe2=>?_⟩,?_⟩⟩⟩,λc3=>?_⟩
   ·refine hG.step (by omega) hx ?_;rw[relx,F' e]
   ·rw[show aR op2 x.to=false by simpa using e2];simp
   ·rw[show aR op2 x.to=true by simpa using e2];simp
   ·rintro _ rfl
    refine⟨λe2=>?_,λe2=>?_⟩
    ·refine hG.step (by omega) hx ?_;rw[relx,E' (by rw[e];simp),F' (H' e2)]
    ·refine hG.step (by omega) hx ?_;rw[relx,E' (by rw[e];simp),E' (ag' e2)]
   ·have hG:=hG.done c3;have hF:=hP.fold (c:=av op (bst op) 0) hst.2;rw[←hG]at hF hD;have:n=L.length-(bg out (bst op) (av op (bst op) 0)).length:=by omega
    rw[this]at hD;exact⟨⟨hF,by omega,hD⟩,by omega⟩
 ·have:op=[]:=aP' (by omega);rw[F' this]at hD;exact hD
def E6(links:(List (Int×List Stp)))(from_:Int)(h:tM links):PC Try.prog:=pcO 63 [.k,.k] [.mp none (links.map λp:Int×List Stp=>MK.n p.1) (links.map λp:Int×List Stp=>(λl:List Stp=>AV.sl 2 (l.map Stp.v) false) p.2),.int from_] .k yX (cn links from_) (λ_=>let ⟨I0,m0,I1,m1,I2,h⟩:=E5 links from_ h;⟨_,h,by kernel_rfl⟩) rfl (by kernel_rfl)
theorem b7{kk:Option Nat}{m k x:AO}{f:Nat}{ρ:AO→AV}{hp:Hp}:evA (.mset kk m k x) f ρ hp=match ρ m with
    | .mref b=>match hp b,(ρ k).key with
      | some (.map kk' ks vs),some q=>{ c:=kk'=kk∧q.fits kk∧(ρ x).solid=true,rm:=some b,ad:=some (b,dr kk ks vs q (ρ x)) }
      | _,_=>.bad
    | _=>.bad:=rfl
def evN(n:Nat):List AV:=(List.range n).map λi=>.vec (Fr (2 * i))
def odN(n:Nat):List AV:=(List.range n).map λi=>.vec (Fr (2 * i+1))
def kyN(l:List Int):List MK:=l.map MK.n
def rdH(t:Tpl)(ids:List Int)(a b:List AV):List (Option Blk):=
 [some (.box (Tpl.v t)),some (.box (.agg [.val (.map none),.val (.map none)])),some (.box (.agg [.mref 3,.mref 4])),some (.map none (kyN ids) a),some (.map none (kyN ids) b)]
abbrev GS(M:List (List Stp))(h:Hp):Hp:=GR 2 Stp.v M h
def rdS(t:Tpl)(M:List (List Stp)):S3:=
 ⟨cq [(1,.ref 0 0),(2,.ref 1 0),(3,.ref 2 0)],GS M (hpL 0 (rdH t (t.rs.map (·.id)) (evN t.rs.length) (odN t.rs.length))),2000⟩
def rd_m(t:Tpl):NF:=
 ⟨[(1,.k,.ref 0 0),(2,.k,.ref 1 0),(3,.k,.ref 2 0)],[.box (Tpl.v t),.box (.agg [.val (.map none),.val (.map none)]),.box (.agg [.mref 3,.mref 4]),.map none (([]:Lks).map λp=>MK.n p.1) (([]:Lks).map λp=>(λl:List Stp=>AV.sl 2 (l.map Stp.v) false) p.2) (am (λ_=>rfl) _),.map none (([]:Lks).map λp=>MK.n p.1) (([]:Lks).map λp=>(λl:List Stp=>AV.sl 2 (l.map Stp.v) false) p.2) (am (λ_=>rfl) _)]⟩
def xm:AC:=.seq (.reg [⟨(some 12),.faddr 0 (.t 1),none⟩,⟨(some 13),.load false 1 (.t 12),none⟩,⟨(some 14),.len (.t 13),none⟩,⟨(some 15),.move (.c (.val (.int .i64 0))),none⟩])
 (.block 0 (.loop (.seq (.reg [⟨(some 16),.bin .lss (.t 15) (.t 14),none⟩])
 (.seq (.cond (.t 16) (.skip) (.exit 0))
 (.seq (.block 1 (.seq (.reg [⟨(some 17),.iaddr 2 (.t 13) (.t 15),none⟩,⟨(some 18),.load true 2 (.t 17),none⟩,⟨(some 5),.box (.c (.agg [(.val (.int .i64 0)),(.val (.bool false))])),none⟩,⟨none,.store 2 (.t 5) (.t 18),none⟩])
 (.dreg [⟨(some 19),.faddr 0 (.t 3),none⟩,⟨(some 20),.load false 1 (.t 19),none⟩,⟨(some 21),.faddr 0 (.t 5),none⟩,⟨(some 22),.load false 1 (.t 21),none⟩,⟨(some 23),.faddr 1 (.t 3),none⟩,⟨(some 24),.load false 1 (.t 23),none⟩,⟨(some 25),.faddr 0 (.t 5),none⟩,⟨(some 26),.load false 1 (.t 25),none⟩,⟨none,.mset none (.t 20) (.t 22) (.c (.sl 0 [] true)),none⟩,⟨none,.mset none (.t 24) (.t 26) (.c (.sl 0 [] true)),none⟩] [(1,3),(1,5),(3,5),(1,7),(3,7),(5,7),(5,8),(7,8)])))
 (.reg [⟨(some 27),.bin .add (.t 15) (.c (.val (.int .i64 1))),none⟩,⟨(some 15),.move (.t 27),none⟩]))))))
theorem jz(n:Nat):(evN n).length=n:=by simp[evN]
theorem ji(n:Nat):(odN n).length=n:=by simp[odN]
theorem ce(x:Stp):x.v.pureB=true:=rfl
theorem wj(l:List Rtr):aH (l.map Rtr.v):=aw (am (λ_=>rfl) l)
theorem mj{k:Nat}:∀{xs:List AV},(∀x∈xs,x.bel k)→gC k xs
 | [],_=>trivial
 | x::xs,h=>⟨h x (by simp),mj λy hy=>h y (by simp[hy])⟩
theorem oh{n:Nat}(h:n≤400):gC 2000 (evN n):=mj λx hx=>by
 obtain⟨i,hi,rfl⟩:=T'.mp hx;have:=an'.mp hi;show Fr (2 * i)<2000;unfold Fr;omega
theorem nI{n:Nat}(h:n≤400):gC 2000 (odN n):=mj λx hx=>by
 obtain⟨i,hi,rfl⟩:=T'.mp hx;have:=an'.mp hi;show Fr (2 * i+1)<2000;unfold Fr;omega
theorem oe{n:Nat}(h:n≤400)(bs fs:Nat→Nat):cZ (eA bs fs) (evN n)=(List.range n).map λi=>.vec (fs (2 * i)):=by
 rw[dp,evN,aX'];refine al' λi hi=>?_;have:=an'.mp hi;show AV.vec (eA bs fs (Fr (2 * i)))=_;rw[iI (by omega)]
theorem nH{n:Nat}(h:n≤400)(bs fs:Nat→Nat):cZ (eA bs fs) (odN n)=(List.range n).map λi=>.vec (fs (2 * i+1)):=by
 rw[dp,odN,aX'];refine al' λi hi=>?_;have:=an'.mp hi;show AV.vec (eA bs fs (Fr (2 * i+1)))=_;rw[iI (by omega)]
theorem mE{t:Tpl}{ids:List Int}{n:Nat}{hp:Hp}{fs:Nat→Nat}{a b:List AV}(hn:n≤400)(h0:hp 0=some (.box (Tpl.v t)))(h1:hp 1=some (.box (.agg [.val (.map none),.val (.map none)])))(h2:hp 2=some (.box (.agg [.mref 3,.mref 4])))
  (h3:hp 3=some (.map none (kyN ids) a)) (h4:hp 4=some (.map none (kyN ids) b)) (ha:a=(List.range n).map λi=>.vec (fs (2 * i))) (hb:b=(List.range n).map λi=>.vec (fs (2 * i+1))) :
  ∀i x,(rdH t ids (evN n) (odN n))[i]?=some (some x)→hp ((λb=>b) i)=some (x.ren (eA (λb=>b) fs))∧x.bel 2000:=by
 have hr:=aK (eA (λb=>b) fs) (wj t.rs);intro i x h
 rcases i with _|_|_|_|_|i
 ·cases h;exact⟨h0,⟨trivial,trivial,trivial⟩⟩
 ·cases h;exact⟨h1,⟨trivial,trivial,trivial⟩⟩
 ·cases h;exact⟨h2,⟨show 3<2000 by omega,show 4<2000 by omega,trivial⟩⟩
 ·cases h;exact⟨by show hp 3=_;rw[h3,Blk.ren,oe hn,ha],oh hn⟩
 ·cases h;exact⟨by show hp 4=_;rw[h4,Blk.ren,nH hn,hb],nI hn⟩
 ·simp[rdH]at h
structure Fq (t:Tpl):Prop where
  nr:t.rs.length≤24
  nl:t.ls.length≤60
  rg:∀x∈t.rs,1≤x.id∧x.id≤99
  asc:t.rs.Pairwise (λx y=>x.id<y.id)
  lr:∀l∈t.ls,iG l
  has:∀l∈t.ls,aJ t l.a=true∧aJ t l.b=true
  lt:∀l∈t.ls,l.a<l.b
  ord:t.ls.Pairwise aU
theorem aA{t:Tpl}(h:aF t=0):Fq t:=by
 unfold aF at h
 by_cases a1:24<t.rs.length∨60<t.ls.length
 ·rw[F' a1]at h;omega
 rw[E' a1]at h;by_cases a2:∀x∈t.rs,1≤x.id∧x.id≤99
 case neg=>rw[F' a2]at h;omega
 rw[E' (not_not_intro a2)]at h;by_cases a3:t.rs.Pairwise (λx y=>x.id<y.id)
 case neg=>rw[F' a3]at h;omega
 rw[E' (not_not_intro a3)]at h;by_cases a4:∀l∈t.ls,iG l
 case neg=>rw[F' a4]at h;omega
 rw[E' (not_not_intro a4)]at h;by_cases a5:∀l∈t.ls,aJ t l.a=true∧aJ t l.b=true
 case neg=>rw[F' a5]at h;omega
 rw[E' (not_not_intro a5)]at h;by_cases a6:∀l∈t.ls,l.a<l.b
 case neg=>rw[F' a6]at h;omega
 rw[E' (not_not_intro a6)]at h;by_cases a7:t.ls.Pairwise aU
 case neg=>rw[F' a7]at h;omega
 exact⟨by omega,by omega,a2,a3,a4,a5,a6,a7⟩
theorem qk{t:Tpl}(h:aF t=0):t.rs.Pairwise (λx y=>x.id<y.id):=(aA h).asc
theorem Cu{l:List Rtr}(h:l.Pairwise (λx y=>x.id<y.id)){i j:Nat}(hij:i<j){x y:Rtr}(hx:l[i]?=some x)(hy:l[j]?=some y):x.id<y.id:=by
 have hi:=ao hx;have hj:=ao hy;rw[u' hi]at hx;rw[u' hj]at hy;have:=aZ'.mp h i j hi hj hij;rw[af' hx,af' hy]at this;exact this
theorem B5(i m:Nat)(x:AV):(evN i++[x]).set i (.vec m)=(List.range (i+1)).map λj=>.vec ((λj=>if j=2 * i then m else if j=2 * i+1 then m+1 else Fr j) (2 * j)):=by
 rw[bD' _ _ (by rw[jz];exact S' _),jz,bq',bW',bV',aQ']
 congr 1
 ·refine al' λj hj=>?_;have:=an'.mp hj;simp only;rw[E' (by omega),E' (by omega)]
 ·simp
theorem Bh(i m:Nat)(x:AV):(odN i++[x]).set i (.vec (m+1))=(List.range (i+1)).map λj=>.vec ((λj=>if j=2 * i then m else if j=2 * i+1 then m+1 else Fr j) (2 * j+1)):=by
 rw[bD' _ _ (by rw[ji];exact S' _),ji,bq',bW',bV',aQ']
 congr 1
 ·refine al' λj hj=>?_;have:=an'.mp hj;simp only;rw[E' (by omega),E' (by omega)]
 ·simp
theorem rd_h1(t:Tpl)(hc:aF t=0)(k:Nat):dl Try.prog 0 k xm (rd_m t).st (rdS t (List.replicate (2 * t.rs.length) [])):=by
 unfold dl xm;show AWP _ 0 k _ _ ⟨cq [(1,.ref 0 0),(2,.ref 1 0),(3,.ref 2 0)],hpL 0 (rdH t [] [] []),5⟩;have hR:t.rs.length≤400:=by have:=(cX hc).1;omega
 have hdi:=qk hc;have hml:=aT;refine AWP.seq' ?_;refine AWP.reg' λK hK=>?_
 try simp only[aj,seval,rdH,Tpl.v,B']
 refine hK _ _ _ ?_;clear hK K;refine AWP.block ?_;have hge:∀{i:Nat} {r:Rtr},t.rs[i]?=some r→(t.rs.map Rtr.v).getD i .unk=Rtr.v r:=λ{i r} h=>by rw[I',G',h];rfl
 refine AWP.loopS (λi:Nat=>⟨cq [(1,.ref 0 0),(2,.ref 1 0),(3,.ref 2 0),(13,.sl 2 (t.rs.map Rtr.v) false),(14,.int t.rs.length),(15,.int (i:Nat))],GS (List.replicate (2 * i) []) (hpL 0 (rdH t ((t.rs.take i).map (·.id)) (evN i) (odN i))),2000⟩)
  (λi=>i≤t.rs.length) (λi=>t.rs.length-i) (i0:=0) (aq' _) ?_ ?_
 ·refine ap.nfR ce _ _ _ (λb=>b) Fr ?_ (mE (by omega) rfl rfl rfl rfl rfl rfl rfl) (by simp[rdH]) (by simp) (by simp) (λi j _ _ h=>h) (λi j _ _ h=>by unfold Fr at h;omega) (λi j h1 h2=>by simp at h2) (λb _=>rfl) (by decide);simp only[aG',au',false_implies,implies_true,and_true];exact⟨⟨rfl,show 0<2000 by omega⟩,⟨rfl,show 1<2000 by omega⟩,⟨rfl,show 2<2000 by omega⟩,⟨rfl,trivial⟩,⟨rfl,trivial⟩,rfl,trivial⟩
 ·intro i hi;refine AWP.seq' ?_;refine AWP.reg' λK hK=>?_
  try simp only[aj,seval]
  refine hK _ _ _ ?_;clear hK K;refine AWP.seq' ?_
  refine AWP.cond (b:=decide ((i:Int)<(t.rs.length:Int))) rfl (λh=>?_) (λh=>?_)
  ·have h:i<t.rs.length:=by have:=H' h;omega
   have hr:t.rs[i]?=some t.rs[i]:=u' h;generalize t.rs[i]=r at hr;refine AWP.skip ?_;refine AWP.seq' (AWP.block (AWP.seq' ?_));have hG0:∀b,b<1000→GS (List.replicate (2 * i) []) (hpL 0 (rdH t ((t.rs.take i).map (·.id)) (evN i) (odN i))) b=hpL 0 (rdH t ((t.rs.take i).map (·.id)) (evN i) (odN i)) b:=λb hb=>kC hb;refine AWP.reg' λK hK=>?_
   try simp only[aj,seval,hge hr,Int.toNat_natCast,B',Rtr.v]
   refine⟨⟨by omega,by omega⟩,?_⟩;refine hK _ _ _ ?_;clear hK K;have hnm:¬MK.n r.id∈kyN ((t.rs.take i).map (·.id)):=λhm=>by
    obtain⟨q,hq,e⟩:=T'.mp hm;obtain⟨r',hr',rfl⟩:=T'.mp hq;obtain⟨j,hj⟩:=Y'.mp hr';have hji:j<i:=by have:=ao hj;rw[ar']at this;omega
    rw[List.getElem?_take_of_lt hji]at hj;have:=Cu hdi hji hj hr;have:=MK.n.inj e;omega
   generalize hids:(t.rs.take i).map (·.id)=ids at hnm hG0 ⊢;have g2:GS (List.replicate (2 * i) []) (hpL 0 (rdH t ids (evN i) (odN i))) 2=some (.box (.agg [.mref 3,.mref 4])):=hG0 2 (by decide);have g3:GS (List.replicate (2 * i) []) (hpL 0 (rdH t ids (evN i) (odN i))) 3=some (.map none (kyN ids) (evN i)):=hG0 3 (by decide);have g4:GS (List.replicate (2 * i) []) (hpL 0 (rdH t ids (evN i) (odN i))) 4=some (.map none (kyN ids) (odN i)):=hG0 4 (by decide);refine AWP.dreg' λK hK=>?_
   try simp only[aj,seval,g2,g3,g4,b7,AV.key,MK.fits,dr,hnm,if_false]
   refine⟨by rfl,hK _ _ _ ?_⟩;clear hK K;refine(show AWP _ _ _ _ _ _ from ?_);have w:IntKind.i64.wrap ((i:Int)+1)=((i+1:Nat):Int):=fa (by omega) (by omega);refine AWP.reg' λK hK=>?_
   try simp only[aj,seval,w]
   refine hK _ _ _ ?_;clear hK K;refine⟨i+1,by omega,by omega,?_⟩;have hids':(t.rs.take (i+1)).map (·.id)=ids++[r.id]:=by rw[bp hr,aQ',hids];rfl
   rw[hids'];have hky:kyN (ids++[r.id])=kyN ids++[MK.n r.id]:=by simp[kyN]
   refine ap.trans (ap.nilvecM (ks:=kyN ids++[.n r.id]) (vs:=evN i++[.sl 0 [] true]) 3 i 0 2 (by simp only[ae];rfl) (by rw[aN' (by rw[jz];exact S' _),jz,bq'];rfl) (aq' _)) ?_;refine ap.trans (ap.nilvecM (ks:=kyN ids++[.n r.id]) (vs:=odN i++[.sl 0 [] true]) 4 i 0 2 (by simp only[ae];rfl) (by rw[aN' (by rw[ji];exact S' _),ji,bq'];rfl) (aq' _)) ?_
   refine ap.nfR ce _ _ _ (λb=>b) (λj=>if j=2 * i then 2272 else if j=2 * i+1 then 2272+1 else Fr j) ?_
    (mE (by omega) ?_ ?_ ?_ (by rw[hky];simp only[ae];rfl) (by rw[hky];simp only[ae];rfl) (B5 i 2272 _) (Bh i 2272 _)) (by simp[rdH]) (by simp;omega) ?_ (λi j _ _ h=>h) ?_ ?_ (λb _=>rfl) (by decide)
   ·simp only[aG',au',false_implies,implies_true,and_true];exact⟨⟨rfl,show 0<2000 by omega⟩,⟨rfl,show 1<2000 by omega⟩,⟨rfl,show 2<2000 by omega⟩,⟨rfl,trivial⟩,⟨rfl,trivial⟩,rfl,trivial⟩
   ·simp only[ae];exact hG0 0 (by decide)
   ·simp only[ae];exact hG0 1 (by decide)
   ·simp only[ae];exact hG0 2 (by decide)
   ·intro j q hj;rw[aD']at hj;split at hj
    case isFalse=>cases hj
    cases hj;rename_i hj2
    split
    ·rfl
    ·split
     ·rfl
     ·have:(List.replicate (2 * i) ([]:List Stp))[j]?=some []:=by rw[aD',F' (by omega)]
      simp only[ae,nh (show 3<1000 by omega),nh (show 4<1000 by omega),gr (show j<1000 by omega) (show 2000≤2272 by omega),gr (show j<1000 by omega) (show 2000≤2272+1 by omega),gr (show j<1000 by omega) (show 2000≤2048 by omega),if_false];exact gm this (by simp;omega)
   ·intro a b ha hb he;simp at ha hb;unfold Fr at he
    (repeat' split at he)<;>omega
   ·intro a b ha hb he;simp only[rdH,ab',ak']at ha;unfold Fr at he
    (repeat' split at he)<;>omega
  ·have h:i=t.rs.length:=by have:=ag' h;omega
   subst h;refine AWP.exit ?_;refine(show ap 0 k _ _ from ?_);unfold rdS;rw[List.take_length];refine ap.nfR ce _ _ _ (λb=>b) Fr ?_ (mE (by omega) rfl rfl rfl rfl rfl rfl rfl) (by simp[rdH]) (by simp;omega) (λj r hr=>gm hr (by simp;omega)) (λi j _ _ h=>h) (λi j _ _ h=>by unfold Fr at h;omega) (λi j h1 h2 h=>by simp[rdH]at h1;unfold Fr at h;omega) (λb _=>rfl) (by decide);simp only[aG',au',false_implies,implies_true,and_true];exact⟨⟨rfl,show 0<2000 by omega⟩,⟨rfl,show 1<2000 by omega⟩,rfl,show 2<2000 by omega⟩
def xj:AC:=.dreg [⟨(some 35),.faddr 0 (.t 3),none⟩,⟨(some 36),.load false 1 (.t 35),none⟩,⟨(some 37),.faddr 0 (.t 7),none⟩,⟨(some 38),.load false 1 (.t 37),none⟩,⟨(some 39),.faddr 0 (.t 3),none⟩,⟨(some 40),.load false 1 (.t 39),none⟩,⟨(some 41),.faddr 0 (.t 7),none⟩,⟨(some 42),.load false 1 (.t 41),none⟩,⟨(some 43),.mget none ((.sl 0 [] true)) false (.t 40) (.t 42),none⟩,⟨(some 44),.faddr 1 (.t 7),none⟩,⟨(some 45),.load false 1 (.t 44),none⟩,⟨(some 46),.faddr 2 (.t 7),none⟩,⟨(some 47),.load false 1 (.t 46),none⟩,⟨(some 48),.build [(.val (.int .i64 0)),(.val (.int .i64 0))] [(0,1,(.t 45)),(1,1,(.t 47))],none⟩,⟨(some 49),.lit 2 1 (.agg [(.val (.int .i64 0)),(.val (.int .i64 0))]) [(0,(.t 48))],none⟩,⟨(some 50),.append 2 16 (.t 43) (.t 49),none⟩,⟨none,.mset none (.t 36) (.t 38) (.t 50),none⟩] [(1,3),(1,5),(3,5),(1,7),(3,7),(5,7),(1,8),(3,8),(1,10),(3,10),(5,10),(7,10),(8,10),(1,12),(3,12),(5,12),(7,12),(8,12),(10,12),(1,14),(3,14),(5,14),(7,14),(8,14),(1,15),(3,15)]
def xi:AC:=.dreg [⟨(some 51),.faddr 0 (.t 3),none⟩,⟨(some 52),.load false 1 (.t 51),none⟩,⟨(some 53),.faddr 1 (.t 7),none⟩,⟨(some 54),.load false 1 (.t 53),none⟩,⟨(some 55),.faddr 0 (.t 3),none⟩,⟨(some 56),.load false 1 (.t 55),none⟩,⟨(some 57),.faddr 1 (.t 7),none⟩,⟨(some 58),.load false 1 (.t 57),none⟩,⟨(some 59),.mget none ((.sl 0 [] true)) false (.t 56) (.t 58),none⟩,⟨(some 60),.faddr 0 (.t 7),none⟩,⟨(some 61),.load false 1 (.t 60),none⟩,⟨(some 62),.faddr 3 (.t 7),none⟩,⟨(some 63),.load false 1 (.t 62),none⟩,⟨(some 64),.build [(.val (.int .i64 0)),(.val (.int .i64 0))] [(0,1,(.t 61)),(1,1,(.t 63))],none⟩,⟨(some 65),.lit 2 1 (.agg [(.val (.int .i64 0)),(.val (.int .i64 0))]) [(0,(.t 64))],none⟩,⟨(some 66),.append 2 16 (.t 59) (.t 65),none⟩,⟨none,.mset none (.t 52) (.t 54) (.t 66),none⟩] [(1,3),(1,5),(3,5),(1,7),(3,7),(5,7),(1,8),(3,8),(1,10),(3,10),(5,10),(7,10),(8,10),(1,12),(3,12),(5,12),(7,12),(8,12),(10,12),(1,14),(3,14),(5,14),(7,14),(8,14),(1,15),(3,15)]
def xh:AC:=.dreg [⟨(some 67),.faddr 1 (.t 3),none⟩,⟨(some 68),.load false 1 (.t 67),none⟩,⟨(some 69),.faddr 1 (.t 7),none⟩,⟨(some 70),.load false 1 (.t 69),none⟩,⟨(some 71),.faddr 1 (.t 3),none⟩,⟨(some 72),.load false 1 (.t 71),none⟩,⟨(some 73),.faddr 1 (.t 7),none⟩,⟨(some 74),.load false 1 (.t 73),none⟩,⟨(some 75),.mget none ((.sl 0 [] true)) false (.t 72) (.t 74),none⟩,⟨(some 76),.faddr 0 (.t 7),none⟩,⟨(some 77),.load false 1 (.t 76),none⟩,⟨(some 78),.faddr 2 (.t 7),none⟩,⟨(some 79),.load false 1 (.t 78),none⟩,⟨(some 80),.build [(.val (.int .i64 0)),(.val (.int .i64 0))] [(0,1,(.t 77)),(1,1,(.t 79))],none⟩,⟨(some 81),.lit 2 1 (.agg [(.val (.int .i64 0)),(.val (.int .i64 0))]) [(0,(.t 80))],none⟩,⟨(some 82),.append 2 16 (.t 75) (.t 81),none⟩,⟨none,.mset none (.t 68) (.t 70) (.t 82),none⟩] [(1,3),(1,5),(3,5),(1,7),(3,7),(5,7),(1,8),(3,8),(1,10),(3,10),(5,10),(7,10),(8,10),(1,12),(3,12),(5,12),(7,12),(8,12),(10,12),(1,14),(3,14),(5,14),(7,14),(8,14),(1,15),(3,15)]
def xg:AC:=.dreg [⟨(some 83),.faddr 1 (.t 3),none⟩,⟨(some 84),.load false 1 (.t 83),none⟩,⟨(some 85),.faddr 0 (.t 7),none⟩,⟨(some 86),.load false 1 (.t 85),none⟩,⟨(some 87),.faddr 1 (.t 3),none⟩,⟨(some 88),.load false 1 (.t 87),none⟩,⟨(some 89),.faddr 0 (.t 7),none⟩,⟨(some 90),.load false 1 (.t 89),none⟩,⟨(some 91),.mget none ((.sl 0 [] true)) false (.t 88) (.t 90),none⟩,⟨(some 92),.faddr 1 (.t 7),none⟩,⟨(some 93),.load false 1 (.t 92),none⟩,⟨(some 94),.faddr 3 (.t 7),none⟩,⟨(some 95),.load false 1 (.t 94),none⟩,⟨(some 96),.build [(.val (.int .i64 0)),(.val (.int .i64 0))] [(0,1,(.t 93)),(1,1,(.t 95))],none⟩,⟨(some 97),.lit 2 1 (.agg [(.val (.int .i64 0)),(.val (.int .i64 0))]) [(0,(.t 96))],none⟩,⟨(some 98),.append 2 16 (.t 91) (.t 97),none⟩,⟨none,.mset none (.t 84) (.t 86) (.t 98),none⟩] [(1,3),(1,5),(3,5),(1,7),(3,7),(5,7),(1,8),(3,8),(1,10),(3,10),(5,10),(7,10),(8,10),(1,12),(3,12),(5,12),(7,12),(8,12),(10,12),(1,14),(3,14),(5,14),(7,14),(8,14),(1,15),(3,15)]
def rdL(t:Tpl)(l:Lnk)(ids:List Int)(a b:List AV):List (Option Blk):=
 [some (.box (Tpl.v t)),some (.box (.agg [.val (.map none),.val (.map none)])),some (.box (.agg [.mref 3,.mref 4])),some (.map none (kyN ids) a),some (.map none (kyN ids) b),some (.box (Lnk.v l))]
def rdT(t:Tpl)(l:Lnk)(i:Nat)(M:List (List Stp)):S3:=
 ⟨cq [(1,.ref 0 0),(2,.ref 1 0),(3,.ref 2 0),(7,.ref 5 0),(29,.sl 5 (t.ls.map Lnk.v) false),(30,.int t.ls.length),(31,.int (i:Nat))],GS M (hpL 0 (rdL t l (t.rs.map (·.id)) (evN t.rs.length) (odN t.rs.length))),2000⟩
theorem oU{t:Tpl}{l:Lnk}{ids:List Int}{n:Nat}{hp:Hp}{bs fs:Nat→Nat}{a b:List AV}(hbs:bs 0=0∧bs 1=1∧bs 2=2∧bs 3=3∧bs 4=4)(hn:n≤400)(h0:hp 0=some (.box (Tpl.v t)))(h1:hp 1=some (.box (.agg [.val (.map none),.val (.map none)])))(h2:hp 2=some (.box (.agg [.mref 3,.mref 4])))
  (h3:hp 3=some (.map none (kyN ids) a)) (h4:hp 4=some (.map none (kyN ids) b)) (h5:hp (bs 5)=some (.box (Lnk.v l))) (ha:a=(List.range n).map λi=>.vec (fs (2 * i))) (hb:b=(List.range n).map λi=>.vec (fs (2 * i+1))) :
  ∀i x,(rdL t l ids (evN n) (odN n))[i]?=some (some x)→hp (bs i)=some (x.ren (eA bs fs))∧x.bel 2000:=by
 obtain⟨b0,b1,b2,b3,b4⟩:=hbs;have e3:eA bs fs 3=3:=by rw[dV (by omega),b3]
 have e4:eA bs fs 4=4:=by rw[dV (by omega),b4]
 intro i x h
 rcases i with _|_|_|_|_|_|i
 ·cases h;exact⟨by rw[b0];exact h0,⟨trivial,trivial,trivial⟩⟩
 ·cases h;exact⟨by rw[b1];exact h1,⟨trivial,trivial,trivial⟩⟩
 ·cases h;exact⟨by rw[b2,h2];show _=some (Blk.box (.agg [.mref (eA bs fs 3),.mref (eA bs fs 4)]));rw[e3,e4],⟨show 3<2000 by omega,show 4<2000 by omega,trivial⟩⟩
 ·cases h;exact⟨by show hp (bs 3)=_;rw[b3,h3,Blk.ren,oe hn,ha],oh hn⟩
 ·cases h;exact⟨by show hp (bs 4)=_;rw[b4,h4,Blk.ren,nH hn,hb],nI hn⟩
 ·cases h;exact⟨h5,trivial,trivial,trivial,trivial,trivial,trivial⟩
 ·simp[rdL]at h
def apR(M:List (List Stp))(x:Nat)(s:Stp):List (List Stp):=M.set x (M.getD x []++[s])
theorem gj(M:List (List Stp))(x:Nat)(s:Stp):(apR M x s).length=M.length:=by simp[apR]
theorem jp{ids:List Int}(hn:ids.Nodup){x:Nat}{a:Int}(h:ids[x]?=some a):MK.n a∈kyN ids∧(kyN ids).idxOf (MK.n a)=x:=by
 have h2:(kyN ids)[x]?=some (MK.n a):=by rw[kyN,G',h];rfl
 refine⟨J' h2,lN ?_ h2⟩;exact List.Pairwise.map MK.n (λa b h e=>h (MK.n.inj e)) hn
theorem og{n x:Nat}(h:x<n):(evN n).getD x .unk=.vec (Fr (2 * x)):=by simp[evN,I',h]
theorem tO{n x:Nat}(h:x<n):(odN n).getD x .unk=.vec (Fr (2 * x+1)):=by simp[odN,I',h]
theorem B4(n x m:Nat)(h:x<n):(evN n).set x (.vec m)=(List.range n).map λi=>.vec ((λj=>if j=2 * x then m else Fr j) (2 * i)):=by
 refine ax' λi=>?_;rw[ae',evN,G',G',B',aU']
 by_cases e:x=i
 ·subst e;simp[h]
 ·rw[E' e]
  by_cases hi:i<n
  ·simp[hi,show ¬2 * i=2 * x by omega]
  ·simp[hi]
theorem yB(n x m:Nat):evN n=(List.range n).map λi=>.vec ((λj=>if j=2 * x+1 then m else Fr j) (2 * i)):=by
 refine al' λi _=>?_;simp only;rw[E' (by omega)]
theorem Bg(n x m:Nat)(h:x<n):(odN n).set x (.vec m)=(List.range n).map λi=>.vec ((λj=>if j=2 * x+1 then m else Fr j) (2 * i+1)):=by
 refine ax' λi=>?_;rw[ae',odN,G',G',B',aU']
 by_cases e:x=i
 ·subst e;simp[h]
 ·rw[E' e]
  by_cases hi:i<n
  ·simp[hi];intro h;omega
  ·simp[hi]
theorem xD(n x m:Nat):odN n=(List.range n).map λi=>.vec ((λj=>if j=2 * x then m else Fr j) (2 * i+1)):=by
 refine al' λi _=>?_;simp only;rw[E' (by omega)]
theorem rdu1{n x m:Nat}(hx:x<n):(evN n).set x (.vec m)=(List.range n).map λi=>.vec ((λj=>if j=2 * x then m else Fr j) (2 * i)):=B4 n x m hx
theorem rdu2{n x m:Nat}(hx:x<n):odN n=(List.range n).map λi=>.vec ((λj=>if j=2 * x then m else Fr j) (2 * i+1)):=xD n x m
theorem rdu3{n x m:Nat}(hx:x<n):evN n=(List.range n).map λi=>.vec ((λj=>if j=2 * x+1 then m else Fr j) (2 * i)):=yB n x m
theorem rdu4{n x m:Nat}(hx:x<n):(odN n).set x (.vec m)=(List.range n).map λi=>.vec ((λj=>if j=2 * x+1 then m else Fr j) (2 * i+1)):=Bg n x m hx
theorem rd_a1(t:Tpl)(hc:aF t=0)(l:Lnk)(i:Nat)(M:List (List Stp))(hM:M.length=2 * t.rs.length)(hr:∀r∈M,r.length≤100000){x:Nat}(hx:(t.rs.map (·.id))[x]?=some l.a)(k:Nat){Q:X→S3→Prop}
    (hQ:∀s,ap 0 k s (rdT t l i (apR M (2*x) ⟨l.b,l.ca⟩))→Q .normal s):AWP Try.prog 0 k xj Q (rdT t l i M):=by
  have hO:=aA hc;have hR:=hO.nr;have hxl:x<t.rs.length:=by have:=ao hx;rwa [B']at this
  have hnd:(t.rs.map (·.id)).Nodup:=List.Pairwise.map _ (λa b h=>by omega) hO.asc;obtain⟨hk1,hk2⟩:=jp hnd hx;obtain⟨row,hrow⟩:∃row,M[2*x]?=some row:=⟨M[2*x]'(by omega),u' (by omega)⟩
  have hrl:=hr row (J' hrow);unfold rdT xj;generalize hids:t.rs.map (·.id)=ids at *
  have hG0:∀b,b<1000→GS M (hpL 0 (rdL t l ids (evN t.rs.length) (odN t.rs.length))) b=hpL 0 (rdL t l ids (evN t.rs.length) (odN t.rs.length)) b:=λb hb=>kC hb;have g2:GS M (hpL 0 (rdL t l ids (evN t.rs.length) (odN t.rs.length))) 2=some (.box (.agg [.mref 3,.mref 4])):=hG0 2 (by decide);have g3:GS M (hpL 0 (rdL t l ids (evN t.rs.length) (odN t.rs.length))) 3=some (.map none (kyN ids) (evN t.rs.length)):=hG0 3 (by decide);have g4:GS M (hpL 0 (rdL t l ids (evN t.rs.length) (odN t.rs.length))) 4=some (.map none (kyN ids) (odN t.rs.length)):=hG0 4 (by decide);have g5:GS M (hpL 0 (rdL t l ids (evN t.rs.length) (odN t.rs.length))) 5=some (.box (.agg [.int l.a,.int l.b,.int l.ca,.int l.cb,.int l.w])):=hG0 5 (by decide);have gF:GS M (hpL 0 (rdL t l ids (evN t.rs.length) (odN t.rs.length))) (Fr (2*x))=some (.vec 2 (row.map Stp.v)):=gm hrow (by omega);have hmg:cB (kyN ids) (evN t.rs.length) (MK.n l.a) (.sl 0 [] true) false=.vec (Fr (2*x)):=by
    unfold cB;rw[F' hk1,hk2,og hxl];rfl
  have hms:∀v,dr none (kyN ids) (evN t.rs.length) (MK.n l.a) v=  .map none (kyN ids) ((evN t.rs.length).set x v):=λv=>by
    unfold dr;rw[F' hk1,hk2]
  have hml:=aT;refine AWP.dreg' λK hK=>?_
  try simp only[aj,seval,g2,g3,g4,g5,b7,bf,dg,AV.key,MK.fits,hmg,hms,gF,and_self,true_and]
  refine fh ?_;have hap:∀xs f,aV (GS M (hpL 0 (rdL t l ids (evN t.rs.length) (odN t.rs.length)))) f 2 16 (.vec (Fr (2*x))) (some xs)={ c:=(row.length+xs.length) * 16≤2 ^ 47∧row.length+xs.length≤maxLen,v:=.vec f,rm:=some (Fr (2*x)),ad:=some (f,.vec 2 (row.map Stp.v++xs)) }:=λxs f=>by
    simp[aV,gF]
  try simp only[aj,seval,gF,g2,g3,g4,g5,hap,hms,b7,AV.key,MK.fits,and_self,true_and,dy,b9 (show 3<1000 by omega),if_false]
  refine⟨⟨by omega,by omega⟩,?_⟩
  refine⟨?_,hK _ _ _ (hQ _ ?_)⟩
  · have e2:∀n,n<1000→(Fr (2*x)==n)=false:=λn hn=>by simp[Fr];omega
    have e3:∀n,n<1000→(n==Fr (2*x))=false:=λn hn=>by simp[Fr];omega
    simp[fC,kJ,bu,AOp.opers,aL,evO,ae,e2,e3];unfold Fr;omega
  have hap':apR M (2*x) ⟨l.b,l.ca⟩=M.set (2*x) (row++[⟨l.b,l.ca⟩]):=by unfold apR;rw[I',hrow];rfl
  rw[hap']
  refine ap.nfR ce _ _ _ (λb=>b) (λj=>if j=2*x then 2240 else Fr j) ?_
    (oU ⟨rfl,rfl,rfl,rfl,rfl⟩ (by omega) ?_ ?_ ?_ ?_ ?_ ?_ (rdu1 (hx:=hxl)) (rdu2 (hx:=hxl))) (by simp[rdL]) (by simp;omega) ?_ (λi j _ _ h=>h) ?_ ?_ (λb _=>rfl) (by decide)
  · simp only[aG',au',false_implies,implies_true,and_true]
    exact⟨⟨rfl,show 0<2000 by omega⟩,⟨rfl,show 1<2000 by omega⟩,⟨rfl,show 2<2000 by omega⟩,⟨rfl,show 5<2000 by omega⟩,⟨rfl,trivial⟩,⟨rfl,trivial⟩,rfl,trivial⟩
  · simp only[ae,b9 (show 0<1000 by omega),if_false];exact hG0 0 (by decide)
  · simp only[ae,b9 (show 1<1000 by omega),if_false];exact hG0 1 (by decide)
  · simp only[ae,b9 (show 2<1000 by omega),if_false];exact hG0 2 (by decide)
  · rw[hids];first|(simp only[ae,if_true];done)|(simp only[ae,b9 (show 3<1000 by omega),if_false];exact hG0 3 (by decide))
  · rw[hids];first|(simp only[ae,if_true];done)|(simp only[ae,b9 (show 4<1000 by omega),if_false];exact hG0 4 (by decide))
  · simp only[ae,b9 (show 5<1000 by omega),if_false];exact hG0 5 (by decide)
  · intro j q hj
    have hjl:=ao hj;rw[be']at hjl;rw[ae']at hj
    by_cases e:j=2*x
    · subst e
      rw[F' rfl,F' (by omega)]at hj;cases hj;simp only[ae,if_true];simp[gr];rfl
    · rw[E' (λh=>e h.symm)]at hj
      simp only[E' e,ae,nh (show 3<1000 by omega),gr (show j<1000 by omega) (show 2000≤2240 by omega),oF,e,if_false];exact gm hj (by omega)
  · intro a b ha hb he
    simp at ha hb;unfold Fr at he
    (repeat' split at he)<;>omega
  · intro a b ha hb he
    simp only[rdL,ab',ak']at ha;unfold Fr at he
    (repeat' split at he)<;>omega
theorem rd_a2(t:Tpl)(hc:aF t=0)(l:Lnk)(i:Nat)(M:List (List Stp))(hM:M.length=2 * t.rs.length)(hr:∀r∈M,r.length≤100000){x:Nat}(hx:(t.rs.map (·.id))[x]?=some l.b)(k:Nat){Q:X→S3→Prop}
    (hQ:∀s,ap 0 k s (rdT t l i (apR M (2*x) ⟨l.a,l.cb⟩))→Q .normal s):AWP Try.prog 0 k xi Q (rdT t l i M):=by
  have hO:=aA hc;have hR:=hO.nr;have hxl:x<t.rs.length:=by have:=ao hx;rwa [B']at this
  have hnd:(t.rs.map (·.id)).Nodup:=List.Pairwise.map _ (λa b h=>by omega) hO.asc;obtain⟨hk1,hk2⟩:=jp hnd hx;obtain⟨row,hrow⟩:∃row,M[2*x]?=some row:=⟨M[2*x]'(by omega),u' (by omega)⟩
  have hrl:=hr row (J' hrow);unfold rdT xi;generalize hids:t.rs.map (·.id)=ids at *
  have hG0:∀b,b<1000→GS M (hpL 0 (rdL t l ids (evN t.rs.length) (odN t.rs.length))) b=hpL 0 (rdL t l ids (evN t.rs.length) (odN t.rs.length)) b:=λb hb=>kC hb;have g2:GS M (hpL 0 (rdL t l ids (evN t.rs.length) (odN t.rs.length))) 2=some (.box (.agg [.mref 3,.mref 4])):=hG0 2 (by decide);have g3:GS M (hpL 0 (rdL t l ids (evN t.rs.length) (odN t.rs.length))) 3=some (.map none (kyN ids) (evN t.rs.length)):=hG0 3 (by decide);have g4:GS M (hpL 0 (rdL t l ids (evN t.rs.length) (odN t.rs.length))) 4=some (.map none (kyN ids) (odN t.rs.length)):=hG0 4 (by decide);have g5:GS M (hpL 0 (rdL t l ids (evN t.rs.length) (odN t.rs.length))) 5=some (.box (.agg [.int l.a,.int l.b,.int l.ca,.int l.cb,.int l.w])):=hG0 5 (by decide);have gF:GS M (hpL 0 (rdL t l ids (evN t.rs.length) (odN t.rs.length))) (Fr (2*x))=some (.vec 2 (row.map Stp.v)):=gm hrow (by omega);have hmg:cB (kyN ids) (evN t.rs.length) (MK.n l.b) (.sl 0 [] true) false=.vec (Fr (2*x)):=by
    unfold cB;rw[F' hk1,hk2,og hxl];rfl
  have hms:∀v,dr none (kyN ids) (evN t.rs.length) (MK.n l.b) v=  .map none (kyN ids) ((evN t.rs.length).set x v):=λv=>by
    unfold dr;rw[F' hk1,hk2]
  have hml:=aT;refine AWP.dreg' λK hK=>?_
  try simp only[aj,seval,g2,g3,g4,g5,b7,bf,dg,AV.key,MK.fits,hmg,hms,gF,and_self,true_and]
  refine fh ?_;have hap:∀xs f,aV (GS M (hpL 0 (rdL t l ids (evN t.rs.length) (odN t.rs.length)))) f 2 16 (.vec (Fr (2*x))) (some xs)={ c:=(row.length+xs.length) * 16≤2 ^ 47∧row.length+xs.length≤maxLen,v:=.vec f,rm:=some (Fr (2*x)),ad:=some (f,.vec 2 (row.map Stp.v++xs)) }:=λxs f=>by
    simp[aV,gF]
  try simp only[aj,seval,gF,g2,g3,g4,g5,hap,hms,b7,AV.key,MK.fits,and_self,true_and,dy,b9 (show 3<1000 by omega),if_false]
  refine⟨⟨by omega,by omega⟩,?_⟩
  refine⟨?_,hK _ _ _ (hQ _ ?_)⟩
  · have e2:∀n,n<1000→(Fr (2*x)==n)=false:=λn hn=>by simp[Fr];omega
    have e3:∀n,n<1000→(n==Fr (2*x))=false:=λn hn=>by simp[Fr];omega
    simp[fC,kJ,bu,AOp.opers,aL,evO,ae,e2,e3];unfold Fr;omega
  have hap':apR M (2*x) ⟨l.a,l.cb⟩=M.set (2*x) (row++[⟨l.a,l.cb⟩]):=by unfold apR;rw[I',hrow];rfl
  rw[hap']
  refine ap.nfR ce _ _ _ (λb=>b) (λj=>if j=2*x then 2240 else Fr j) ?_
    (oU ⟨rfl,rfl,rfl,rfl,rfl⟩ (by omega) ?_ ?_ ?_ ?_ ?_ ?_ (rdu1 (hx:=hxl)) (rdu2 (hx:=hxl))) (by simp[rdL]) (by simp;omega) ?_ (λi j _ _ h=>h) ?_ ?_ (λb _=>rfl) (by decide)
  · simp only[aG',au',false_implies,implies_true,and_true]
    exact⟨⟨rfl,show 0<2000 by omega⟩,⟨rfl,show 1<2000 by omega⟩,⟨rfl,show 2<2000 by omega⟩,⟨rfl,show 5<2000 by omega⟩,⟨rfl,trivial⟩,⟨rfl,trivial⟩,rfl,trivial⟩
  · simp only[ae,b9 (show 0<1000 by omega),if_false];exact hG0 0 (by decide)
  · simp only[ae,b9 (show 1<1000 by omega),if_false];exact hG0 1 (by decide)
  · simp only[ae,b9 (show 2<1000 by omega),if_false];exact hG0 2 (by decide)
  · rw[hids];first|(simp only[ae,if_true];done)|(simp only[ae,b9 (show 3<1000 by omega),if_false];exact hG0 3 (by decide))
  · rw[hids];first|(simp only[ae,if_true];done)|(simp only[ae,b9 (show 4<1000 by omega),if_false];exact hG0 4 (by decide))
  · simp only[ae,b9 (show 5<1000 by omega),if_false];exact hG0 5 (by decide)
  · intro j q hj
    have hjl:=ao hj;rw[be']at hjl;rw[ae']at hj
    by_cases e:j=2*x
    · subst e
      rw[F' rfl,F' (by omega)]at hj;cases hj;simp only[ae,if_true];simp[gr];rfl
    · rw[E' (λh=>e h.symm)]at hj
      simp only[E' e,ae,nh (show 3<1000 by omega),gr (show j<1000 by omega) (show 2000≤2240 by omega),oF,e,if_false];exact gm hj (by omega)
  · intro a b ha hb he
    simp at ha hb;unfold Fr at he
    (repeat' split at he)<;>omega
  · intro a b ha hb he
    simp only[rdL,ab',ak']at ha;unfold Fr at he
    (repeat' split at he)<;>omega
theorem rd_a3(t:Tpl)(hc:aF t=0)(l:Lnk)(i:Nat)(M:List (List Stp))(hM:M.length=2 * t.rs.length)(hr:∀r∈M,r.length≤100000){x:Nat}(hx:(t.rs.map (·.id))[x]?=some l.b)(k:Nat){Q:X→S3→Prop}
    (hQ:∀s,ap 0 k s (rdT t l i (apR M (2*x+1) ⟨l.a,l.ca⟩))→Q .normal s):AWP Try.prog 0 k xh Q (rdT t l i M):=by
  have hO:=aA hc;have hR:=hO.nr;have hxl:x<t.rs.length:=by have:=ao hx;rwa [B']at this
  have hnd:(t.rs.map (·.id)).Nodup:=List.Pairwise.map _ (λa b h=>by omega) hO.asc;obtain⟨hk1,hk2⟩:=jp hnd hx;obtain⟨row,hrow⟩:∃row,M[2*x+1]?=some row:=⟨M[2*x+1]'(by omega),u' (by omega)⟩
  have hrl:=hr row (J' hrow);unfold rdT xh;generalize hids:t.rs.map (·.id)=ids at *
  have hG0:∀b,b<1000→GS M (hpL 0 (rdL t l ids (evN t.rs.length) (odN t.rs.length))) b=hpL 0 (rdL t l ids (evN t.rs.length) (odN t.rs.length)) b:=λb hb=>kC hb;have g2:GS M (hpL 0 (rdL t l ids (evN t.rs.length) (odN t.rs.length))) 2=some (.box (.agg [.mref 3,.mref 4])):=hG0 2 (by decide);have g3:GS M (hpL 0 (rdL t l ids (evN t.rs.length) (odN t.rs.length))) 3=some (.map none (kyN ids) (evN t.rs.length)):=hG0 3 (by decide);have g4:GS M (hpL 0 (rdL t l ids (evN t.rs.length) (odN t.rs.length))) 4=some (.map none (kyN ids) (odN t.rs.length)):=hG0 4 (by decide);have g5:GS M (hpL 0 (rdL t l ids (evN t.rs.length) (odN t.rs.length))) 5=some (.box (.agg [.int l.a,.int l.b,.int l.ca,.int l.cb,.int l.w])):=hG0 5 (by decide);have gF:GS M (hpL 0 (rdL t l ids (evN t.rs.length) (odN t.rs.length))) (Fr (2*x+1))=some (.vec 2 (row.map Stp.v)):=gm hrow (by omega);have hmg:cB (kyN ids) (odN t.rs.length) (MK.n l.b) (.sl 0 [] true) false=.vec (Fr (2*x+1)):=by
    unfold cB;rw[F' hk1,hk2,tO hxl];rfl
  have hms:∀v,dr none (kyN ids) (odN t.rs.length) (MK.n l.b) v=  .map none (kyN ids) ((odN t.rs.length).set x v):=λv=>by
    unfold dr;rw[F' hk1,hk2]
  have hml:=aT;refine AWP.dreg' λK hK=>?_
  try simp only[aj,seval,g2,g3,g4,g5,b7,bf,dg,AV.key,MK.fits,hmg,hms,gF,and_self,true_and]
  refine fh ?_;have hap:∀xs f,aV (GS M (hpL 0 (rdL t l ids (evN t.rs.length) (odN t.rs.length)))) f 2 16 (.vec (Fr (2*x+1))) (some xs)={ c:=(row.length+xs.length) * 16≤2 ^ 47∧row.length+xs.length≤maxLen,v:=.vec f,rm:=some (Fr (2*x+1)),ad:=some (f,.vec 2 (row.map Stp.v++xs)) }:=λxs f=>by
    simp[aV,gF]
  try simp only[aj,seval,gF,g2,g3,g4,g5,hap,hms,b7,AV.key,MK.fits,and_self,true_and,dy,b9 (show 4<1000 by omega),if_false]
  refine⟨⟨by omega,by omega⟩,?_⟩
  refine⟨?_,hK _ _ _ (hQ _ ?_)⟩
  · have e2:∀n,n<1000→(Fr (2*x+1)==n)=false:=λn hn=>by simp[Fr];omega
    have e3:∀n,n<1000→(n==Fr (2*x+1))=false:=λn hn=>by simp[Fr];omega
    simp[fC,kJ,bu,AOp.opers,aL,evO,ae,e2,e3];unfold Fr;omega
  have hap':apR M (2*x+1) ⟨l.a,l.ca⟩=M.set (2*x+1) (row++[⟨l.a,l.ca⟩]):=by unfold apR;rw[I',hrow];rfl
  rw[hap']
  refine ap.nfR ce _ _ _ (λb=>b) (λj=>if j=2*x+1 then 2240 else Fr j) ?_
    (oU ⟨rfl,rfl,rfl,rfl,rfl⟩ (by omega) ?_ ?_ ?_ ?_ ?_ ?_ (rdu3 (hx:=hxl)) (rdu4 (hx:=hxl))) (by simp[rdL]) (by simp;omega) ?_ (λi j _ _ h=>h) ?_ ?_ (λb _=>rfl) (by decide)
  · simp only[aG',au',false_implies,implies_true,and_true]
    exact⟨⟨rfl,show 0<2000 by omega⟩,⟨rfl,show 1<2000 by omega⟩,⟨rfl,show 2<2000 by omega⟩,⟨rfl,show 5<2000 by omega⟩,⟨rfl,trivial⟩,⟨rfl,trivial⟩,rfl,trivial⟩
  · simp only[ae,b9 (show 0<1000 by omega),if_false];exact hG0 0 (by decide)
  · simp only[ae,b9 (show 1<1000 by omega),if_false];exact hG0 1 (by decide)
  · simp only[ae,b9 (show 2<1000 by omega),if_false];exact hG0 2 (by decide)
  · rw[hids];first|(simp only[ae,if_true];done)|(simp only[ae,b9 (show 3<1000 by omega),if_false];exact hG0 3 (by decide))
  · rw[hids];first|(simp only[ae,if_true];done)|(simp only[ae,b9 (show 4<1000 by omega),if_false];exact hG0 4 (by decide))
  · simp only[ae,b9 (show 5<1000 by omega),if_false];exact hG0 5 (by decide)
  · intro j q hj
    have hjl:=ao hj;rw[be']at hjl;rw[ae']at hj
    by_cases e:j=2*x+1
    · subst e
      rw[F' rfl,F' (by omega)]at hj;cases hj;simp only[ae,if_true];simp[gr];rfl
    · rw[E' (λh=>e h.symm)]at hj
      simp only[E' e,ae,nh (show 4<1000 by omega),gr (show j<1000 by omega) (show 2000≤2240 by omega),oF,e,if_false];exact gm hj (by omega)
  · intro a b ha hb he
    simp at ha hb;unfold Fr at he
    (repeat' split at he)<;>omega
  · intro a b ha hb he
    simp only[rdL,ab',ak']at ha;unfold Fr at he
    (repeat' split at he)<;>omega
theorem rd_a4(t:Tpl)(hc:aF t=0)(l:Lnk)(i:Nat)(M:List (List Stp))(hM:M.length=2 * t.rs.length)(hr:∀r∈M,r.length≤100000){x:Nat}(hx:(t.rs.map (·.id))[x]?=some l.a)(k:Nat){Q:X→S3→Prop}
    (hQ:∀s,ap 0 k s (rdT t l i (apR M (2*x+1) ⟨l.b,l.cb⟩))→Q .normal s):AWP Try.prog 0 k xg Q (rdT t l i M):=by
  have hO:=aA hc;have hR:=hO.nr;have hxl:x<t.rs.length:=by have:=ao hx;rwa [B']at this
  have hnd:(t.rs.map (·.id)).Nodup:=List.Pairwise.map _ (λa b h=>by omega) hO.asc;obtain⟨hk1,hk2⟩:=jp hnd hx;obtain⟨row,hrow⟩:∃row,M[2*x+1]?=some row:=⟨M[2*x+1]'(by omega),u' (by omega)⟩
  have hrl:=hr row (J' hrow);unfold rdT xg;generalize hids:t.rs.map (·.id)=ids at *
  have hG0:∀b,b<1000→GS M (hpL 0 (rdL t l ids (evN t.rs.length) (odN t.rs.length))) b=hpL 0 (rdL t l ids (evN t.rs.length) (odN t.rs.length)) b:=λb hb=>kC hb;have g2:GS M (hpL 0 (rdL t l ids (evN t.rs.length) (odN t.rs.length))) 2=some (.box (.agg [.mref 3,.mref 4])):=hG0 2 (by decide);have g3:GS M (hpL 0 (rdL t l ids (evN t.rs.length) (odN t.rs.length))) 3=some (.map none (kyN ids) (evN t.rs.length)):=hG0 3 (by decide);have g4:GS M (hpL 0 (rdL t l ids (evN t.rs.length) (odN t.rs.length))) 4=some (.map none (kyN ids) (odN t.rs.length)):=hG0 4 (by decide);have g5:GS M (hpL 0 (rdL t l ids (evN t.rs.length) (odN t.rs.length))) 5=some (.box (.agg [.int l.a,.int l.b,.int l.ca,.int l.cb,.int l.w])):=hG0 5 (by decide);have gF:GS M (hpL 0 (rdL t l ids (evN t.rs.length) (odN t.rs.length))) (Fr (2*x+1))=some (.vec 2 (row.map Stp.v)):=gm hrow (by omega);have hmg:cB (kyN ids) (odN t.rs.length) (MK.n l.a) (.sl 0 [] true) false=.vec (Fr (2*x+1)):=by
    unfold cB;rw[F' hk1,hk2,tO hxl];rfl
  have hms:∀v,dr none (kyN ids) (odN t.rs.length) (MK.n l.a) v=  .map none (kyN ids) ((odN t.rs.length).set x v):=λv=>by
    unfold dr;rw[F' hk1,hk2]
  have hml:=aT;refine AWP.dreg' λK hK=>?_
  try simp only[aj,seval,g2,g3,g4,g5,b7,bf,dg,AV.key,MK.fits,hmg,hms,gF,and_self,true_and]
  refine fh ?_;have hap:∀xs f,aV (GS M (hpL 0 (rdL t l ids (evN t.rs.length) (odN t.rs.length)))) f 2 16 (.vec (Fr (2*x+1))) (some xs)={ c:=(row.length+xs.length) * 16≤2 ^ 47∧row.length+xs.length≤maxLen,v:=.vec f,rm:=some (Fr (2*x+1)),ad:=some (f,.vec 2 (row.map Stp.v++xs)) }:=λxs f=>by
    simp[aV,gF]
  try simp only[aj,seval,gF,g2,g3,g4,g5,hap,hms,b7,AV.key,MK.fits,and_self,true_and,dy,b9 (show 4<1000 by omega),if_false]
  refine⟨⟨by omega,by omega⟩,?_⟩
  refine⟨?_,hK _ _ _ (hQ _ ?_)⟩
  · have e2:∀n,n<1000→(Fr (2*x+1)==n)=false:=λn hn=>by simp[Fr];omega
    have e3:∀n,n<1000→(n==Fr (2*x+1))=false:=λn hn=>by simp[Fr];omega
    simp[fC,kJ,bu,AOp.opers,aL,evO,ae,e2,e3];unfold Fr;omega
  have hap':apR M (2*x+1) ⟨l.b,l.cb⟩=M.set (2*x+1) (row++[⟨l.b,l.cb⟩]):=by unfold apR;rw[I',hrow];rfl
  rw[hap']
  refine ap.nfR ce _ _ _ (λb=>b) (λj=>if j=2*x+1 then 2240 else Fr j) ?_
    (oU ⟨rfl,rfl,rfl,rfl,rfl⟩ (by omega) ?_ ?_ ?_ ?_ ?_ ?_ (rdu3 (hx:=hxl)) (rdu4 (hx:=hxl))) (by simp[rdL]) (by simp;omega) ?_ (λi j _ _ h=>h) ?_ ?_ (λb _=>rfl) (by decide)
  · simp only[aG',au',false_implies,implies_true,and_true]
    exact⟨⟨rfl,show 0<2000 by omega⟩,⟨rfl,show 1<2000 by omega⟩,⟨rfl,show 2<2000 by omega⟩,⟨rfl,show 5<2000 by omega⟩,⟨rfl,trivial⟩,⟨rfl,trivial⟩,rfl,trivial⟩
  · simp only[ae,b9 (show 0<1000 by omega),if_false];exact hG0 0 (by decide)
  · simp only[ae,b9 (show 1<1000 by omega),if_false];exact hG0 1 (by decide)
  · simp only[ae,b9 (show 2<1000 by omega),if_false];exact hG0 2 (by decide)
  · rw[hids];first|(simp only[ae,if_true];done)|(simp only[ae,b9 (show 3<1000 by omega),if_false];exact hG0 3 (by decide))
  · rw[hids];first|(simp only[ae,if_true];done)|(simp only[ae,b9 (show 4<1000 by omega),if_false];exact hG0 4 (by decide))
  · simp only[ae,b9 (show 5<1000 by omega),if_false];exact hG0 5 (by decide)
  · intro j q hj
    have hjl:=ao hj;rw[be']at hjl;rw[ae']at hj
    by_cases e:j=2*x+1
    · subst e
      rw[F' rfl,F' (by omega)]at hj;cases hj;simp only[ae,if_true];simp[gr];rfl
    · rw[E' (λh=>e h.symm)]at hj
      simp only[E' e,ae,nh (show 4<1000 by omega),gr (show j<1000 by omega) (show 2000≤2240 by omega),oF,e,if_false];exact gm hj (by omega)
  · intro a b ha hb he
    simp at ha hb;unfold Fr at he
    (repeat' split at he)<;>omega
  · intro a b ha hb he
    simp only[rdL,ab',ak']at ha;unfold Fr at he
    (repeat' split at he)<;>omega
def ix5(t:Tpl)(a:Int):Nat:=(t.rs.map (·.id)).idxOf a
theorem nR{t:Tpl}{a:Int}(h:aJ t a=true):(t.rs.map (·.id))[ix5 t a]?=some a:=by
 have hm:a∈t.rs.map (·.id):=by
  unfold aJ at h;obtain⟨r,hr,e⟩:=aF'.mp h;exact T'.mpr ⟨r,hr,by simpa using e⟩
 unfold ix5;have hl:=cb' hm;rw[u' hl,List.getElem_idxOf hl]
def nO(t:Tpl)(M:List (List Stp))(l:Lnk):List (List Stp):=apR (apR (apR (apR M (2 * ix5 t l.a) ⟨l.b,l.ca⟩) (2 * ix5 t l.b) ⟨l.a,l.cb⟩) (2 * ix5 t l.b+1) ⟨l.a,l.ca⟩) (2 * ix5 t l.a+1) ⟨l.b,l.cb⟩
def dB(t:Tpl)(ls:List Lnk):List (List Stp):=ls.foldl (nO t) (List.replicate (2 * t.rs.length) [])
theorem xS(t:Tpl)(M:List (List Stp))(l:Lnk):(nO t M l).length=M.length:=by simp[nO,gj]
theorem gf{M:List (List Stp)}{m:Nat}(h:∀r∈M,r.length≤m)(x:Nat)(s:Stp):∀r∈apR M x s,r.length≤m+1:=λr hr=>by
 unfold apR at hr
 rcases aj' hr with h1|rfl
 ·have:=h r h1;omega
 ·rw[List.length_append,I'];cases e:M[x]? with
  | none=>simp
  | some q=>have:=h q (J' e);simp;omega
theorem xR{t:Tpl}{M:List (List Stp)}{m:Nat}(h:∀r∈M,r.length≤m)(l:Lnk):∀r∈nO t M l,r.length≤m+4:=gf (gf (gf (gf h _ _) _ _) _ _) _ _
theorem cU(t:Tpl)(ls:List Lnk):(dB t ls).length=2 * t.rs.length:=by
 unfold dB;have:∀(ls:List Lnk) (M:List (List Stp)),(ls.foldl (nO t) M).length=M.length:=λls=>by
  induction ls with
  | nil=>intro M;rfl
  | cons l ls ih=>intro M;rw[ba',ih,xS]
 rw[this];simp
theorem xP(t:Tpl)(ls:List Lnk):∀r∈dB t ls,r.length≤4 * ls.length:=by
 unfold dB;have:∀(ls:List Lnk) (M:List (List Stp)) (m:Nat),(∀r∈M,r.length≤m)→∀r∈ls.foldl (nO t) M,r.length≤m+4 * ls.length:=λls=>by
  induction ls with
  | nil=>intro M m h;exact h
  | cons l ls ih=>intro M m h r hr;have:=ih _ _ (xR h l) r hr;simp only[ab'];omega
 intro r hr;have:=this ls _ 0 (λr hr=>by rw[(List.mem_replicate.mp hr).2];exact S' _) r hr;omega
theorem vw(t:Tpl){ls:List Lnk}{i:Nat}{l:Lnk}(h:ls[i]?=some l):dB t (ls.take (i+1))=nO t (dB t (ls.take i)) l:=by
 rw[bp h];unfold dB;rw[bt'];rfl
def xl:AC:=.seq (.reg [⟨(some 28),.faddr 1 (.t 1),none⟩,⟨(some 29),.load false 1 (.t 28),none⟩,⟨(some 30),.len (.t 29),none⟩,⟨(some 31),.move (.c (.val (.int .i64 0))),none⟩])
 (.block 2 (.loop (.seq (.reg [⟨(some 32),.bin .lss (.t 31) (.t 30),none⟩])
 (.seq (.cond (.t 32) (.skip) (.exit 2))
 (.seq (.block 3 (.seq (.reg [⟨(some 33),.iaddr 5 (.t 29) (.t 31),none⟩,⟨(some 34),.load true 5 (.t 33),none⟩,⟨(some 7),.box (.c (.agg [(.val (.int .i64 0)),(.val (.int .i64 0)),(.val (.int .i64 0)),(.val (.int .i64 0)),(.val (.int .i64 0))])),none⟩,⟨none,.store 5 (.t 7) (.t 34),none⟩])
 (.seq xj (.seq xi (.seq xh xg)))))
 (.reg [⟨(some 99),.bin .add (.t 31) (.c (.val (.int .i64 1))),none⟩,⟨(some 31),.move (.t 99),none⟩]))))))
def rdI(t:Tpl)(i:Nat)(M:List (List Stp)):S3:=
 ⟨cq [(1,.ref 0 0),(2,.ref 1 0),(3,.ref 2 0),(29,.sl 5 (t.ls.map Lnk.v) false),(30,.int t.ls.length),(31,.int (i:Nat))],GS M (hpL 0 (rdH t (t.rs.map (·.id)) (evN t.rs.length) (odN t.rs.length))),2000⟩
theorem rd_h2(t:Tpl)(hc:aF t=0)(k:Nat):dl Try.prog 0 k xl (rdS t (List.replicate (2 * t.rs.length) [])) (rdS t (dB t t.ls)):=by
 unfold dl xl;have hO:=aA hc;have hR:=hO.nr;have hL:=hO.nl;have hml:=aT;unfold rdS;have hG0:∀M b,b<1000→GS M (hpL 0 (rdH t (t.rs.map (·.id)) (evN t.rs.length) (odN t.rs.length))) b=hpL 0 (rdH t (t.rs.map (·.id)) (evN t.rs.length) (odN t.rs.length)) b:=λM b hb=>kC hb;have g0:∀M,GS M (hpL 0 (rdH t (t.rs.map (·.id)) (evN t.rs.length) (odN t.rs.length))) 0=some (.box (.agg [.sl 2 (t.rs.map Rtr.v) false,.sl 5 (t.ls.map Lnk.v) false])):=λM=>hG0 M 0 (by decide);refine AWP.seq' ?_;refine AWP.reg' λK hK=>?_
 try simp only[aj,seval,g0,B']
 refine hK _ _ _ ?_;clear hK K;refine AWP.block ?_
 refine AWP.loopS (λi:Nat=>rdI t i (dB t (t.ls.take i))) (λi=>i≤t.ls.length) (λi=>t.ls.length-i) (i0:=0) (aq' _) ?_ ?_
 ·refine ap.nfR ce _ _ _ (λb=>b) Fr ?_ (mE (by omega) rfl rfl rfl rfl rfl rfl rfl) (by simp[rdH]) (by rw[cU];omega) ?_ (λi j _ _ h=>h) (λi j _ _ h=>by unfold Fr at h;omega) (λi j h1 h2 h=>by simp[rdH]at h1;unfold Fr at h;omega) (λb _=>rfl) (by decide)
  ·simp only[aG',au',false_implies,implies_true,and_true];exact⟨⟨rfl,show 0<2000 by omega⟩,⟨rfl,show 1<2000 by omega⟩,⟨rfl,show 2<2000 by omega⟩,⟨rfl,trivial⟩,⟨rfl,trivial⟩,rfl,trivial⟩
  ·exact λj r hr=>gm hr (by simp;omega)
 ·intro i hi;unfold rdI;refine AWP.seq' ?_;refine AWP.reg' λK hK=>?_
  try simp only[aj,seval]
  refine hK _ _ _ ?_;clear hK K;refine AWP.seq' ?_
  refine AWP.cond (b:=decide ((i:Int)<(t.ls.length:Int))) rfl (λh=>?_) (λh=>?_)
  ·have h:i<t.ls.length:=by have:=H' h;omega
   have hr:t.ls[i]?=some t.ls[i]:=u' h;generalize t.ls[i]=l at hr;refine AWP.skip ?_
   refine AWP.seq' (AWP.block (AWP.seqW (rdT t l i (dB t (t.ls.take i))) ?_ ?_))
   ·have hge:(t.ls.map Lnk.v).getD i .unk=Lnk.v l:=by rw[I',G',hr];rfl
    refine AWP.reg' λK hK=>?_
    try simp only[aj,seval,hge,Int.toNat_natCast,B',Lnk.v]
    refine⟨⟨by omega,by omega⟩,?_⟩;refine hK _ _ _ ?_;clear hK K;have hG1:∀b,b<1000→b≠2048:=λb hb=>by omega
    refine ap.nfR ce _ _ _ (λb=>if b=5 then 2048 else b) Fr ?_ (oU ⟨rfl,rfl,rfl,rfl,rfl⟩ (by omega) rfl rfl rfl rfl rfl rfl rfl rfl) (by simp[rdL]) (by rw[cU];omega) ?_ ?_ (λi j _ _ h=>by unfold Fr at h;omega) ?_ (λb hb=>by omega) (by decide)
    ·simp only[aG',au',false_implies,implies_true,and_true];exact⟨⟨rfl,show 0<2000 by omega⟩,⟨rfl,show 1<2000 by omega⟩,⟨rfl,show 2<2000 by omega⟩,⟨rfl,show 5<2000 by omega⟩,⟨rfl,trivial⟩,⟨rfl,trivial⟩,rfl,trivial⟩
    ·intro j r hr;have hj:=ao hr;rw[cU]at hj;simp only[ae,gr (show j<1000 by omega) (show 2000≤2048 by omega),if_false];exact gm hr (by rw[cU];omega)
    ·intro a b ha hb he;simp only[rdL,ab',ak']at ha hb
     (repeat' split at he)<;>omega
    ·intro a b ha hb he;simp only[rdL,ab',ak']at ha;rw[cU]at hb;unfold Fr at he
     (repeat' split at he)<;>omega
   ·have hm:=J' hr;obtain⟨ha,hb⟩:=hO.has l hm;have hx:=nR ha;have hy:=nR hb;have hM0:=cU t (t.ls.take i);have r0:=xP t (t.ls.take i);have hln:(t.ls.take i).length≤60:=by rw[ar'];omega
    have r1:=gf r0 (2 * ix5 t l.a) ⟨l.b,l.ca⟩;have r2:=gf r1 (2 * ix5 t l.b) ⟨l.a,l.cb⟩;have r3:=gf r2 (2 * ix5 t l.b+1) ⟨l.a,l.ca⟩;refine AWP.seqW _ (rd_a1 t hc l i _ hM0 (λr h=>by have:=r0 r h;omega) hx k λs hw=>hw) ?_;refine AWP.seqW _ (rd_a2 t hc l i _ (by rw[gj,hM0]) (λr h=>by have:=r1 r h;omega) hy k λs hw=>hw) ?_;refine AWP.seqW _ (rd_a3 t hc l i _ (by rw[gj,gj,hM0]) (λr h=>by have:=r2 r h;omega) hy k λs hw=>hw) ?_;refine rd_a4 t hc l i _ (by rw[gj,gj,gj,hM0]) (λr h=>by have:=r3 r h;omega) hx k λs hw=>?_;refine AWP.weak hw ?_;have e:apR (apR (apR (apR (dB t (t.ls.take i)) (2 * ix5 t l.a) ⟨l.b,l.ca⟩) (2 * ix5 t l.b) ⟨l.a,l.cb⟩) (2 * ix5 t l.b+1) ⟨l.a,l.ca⟩) (2 * ix5 t l.a+1) ⟨l.b,l.cb⟩=dB t (t.ls.take (i+1)):=(vw t hr).symm;rw[e];unfold rdT;have w:IntKind.i64.wrap ((i:Int)+1)=((i+1:Nat):Int):=fa (by omega) (by omega);refine AWP.reg' λK hK=>?_
    try simp only[aj,seval,w]
    refine hK _ _ _ ?_;clear hK K;refine⟨i+1,by omega,by omega,?_⟩
    refine ap.nfR ce _ _ _ (λb=>b) Fr ?_ (mE (by omega) rfl rfl rfl rfl rfl rfl rfl) (by simp[rdH]) (by rw[cU];omega) ?_ (λi j _ _ h=>h) (λi j _ _ h=>by unfold Fr at h;omega) (λi j h1 h2 h=>by simp[rdH]at h1;unfold Fr at h;omega) (λb _=>rfl) (by decide)
    ·simp only[aG',au',false_implies,implies_true,and_true];exact⟨⟨rfl,show 0<2000 by omega⟩,⟨rfl,show 1<2000 by omega⟩,⟨rfl,show 2<2000 by omega⟩,⟨rfl,trivial⟩,⟨rfl,trivial⟩,rfl,trivial⟩
    ·exact λj r hr=>gm hr (by rw[cU];omega)
  ·have h:i=t.ls.length:=by have:=ag' h;omega
   subst h;refine AWP.exit ?_;refine(show ap 0 k _ _ from ?_);rw[List.take_length];refine ap.nfR ce _ _ _ (λb=>b) Fr ?_ (mE (by omega) rfl rfl rfl rfl rfl rfl rfl) (by simp[rdH]) (by rw[cU];omega) (λj r hr=>gm hr (by rw[cU];omega)) (λi j _ _ h=>h) (λi j _ _ h=>by unfold Fr at h;omega) (λi j h1 h2 h=>by simp[rdH]at h1;unfold Fr at h;omega) (λb _=>rfl) (by decide);simp only[aG',au',false_implies,implies_true,and_true];exact⟨⟨rfl,show 0<2000 by omega⟩,⟨rfl,show 1<2000 by omega⟩,rfl,show 2<2000 by omega⟩
end Go.Proofs.Ytdoacjojljgdcaa
namespace Go.Am
open Go.Proofs Go.Shelf Go.RowKit Go.Lib Go.Sort
theorem pI{α:Type}[Inhabited α](enc:α→List Value)(k:Nat)(k0:0<k)(hk:∀x,(enc x).length=k):∀l:List α,
  (List.range (l.length * k)).map (λt=>(enc l[t / k]!)[t % k]!)=l.flatMap enc
 | []=>by simp
 | x::l=>by
  have ih:=pI enc k k0 hk l;rw[az',←ih,ab',Nat.succ_mul,Nat.add_comm,List.range_add,aQ',aX']
  congr 1
  ·refine List.ext_getElem (by simp[hk]) λi h1 h2=>?_;have hi:i<k:=by simpa using h1
   simp[Nat.div_eq_of_lt hi,Nat.mod_eq_of_lt hi,h2]
  ·refine al' λt _=>?_;simp[Function.comp,Nat.add_div_left t k0]
theorem lW{α:Type}[Inhabited α](enc:α→List Value)(k:Nat)(k0:0<k)(hk:∀x,(enc x).length=k)(d:Array α):(flatK enc k d).toList=d.toList.flatMap enc:=by
 rw[←pI enc k k0 hk d.toList];unfold flatK;simp[List.getElem!_eq_getElem?_getD,Array.getElem!_eq_getD,bx']
section
variable {T : Type} (key : T → Int) (k : Nat)
structure SE where
  x:T
  cs:List Value
  ok:cs.length=k∧(∀u∈cs,u.oneCell'=true)∧∃r,cs=.int .i64 (key x)::r
variable {key k}
theorem SE.list{w:World}{A:Nat→Prop}{μ:Mu}{v:T→AV}(hv:∀x,∃cs,v x=.agg (.int (key x)::cs)) :
  ∀{l:List T} {vs:List Value},RVL w A (l.map v) μ vs→(∀u∈vs,u.cells.size=k)→∃ds:List (SE key k),ds.map SE.x=l∧vs=ds.map (λp=>.agg p.cs.toArray)∧∀p∈ds,RV w A (v p.x) μ (.agg p.cs.toArray)
 | [],vs,h,_=>⟨[],rfl,h,by simp⟩
 | x::l,_,⟨u,vs,rfl,h1,h2⟩,hs=>by
  obtain⟨ds,e1,e2,e3⟩:=SE.list hv h2 λu hu=>hs u (bi' _ hu);obtain⟨cs,hc⟩:=hv x;have h1':=h1;rw[hc]at h1;obtain⟨us,rfl,g1,g2⟩:=h1;obtain⟨u0,us',rfl,g3,g4⟩:=g1;obtain⟨rfl,g5⟩:=g3;have hl:(Value.int .i64 (key x)::us').length=k:=by
   have:=hs _ (List.mem_cons_self ..);simpa[Value.cells]using this
  exact⟨⟨x,.int .i64 (key x)::us',hl,g2,us',rfl⟩::ds,by rw[aB',e1],by rw[aB',e2],λp hp=>by
   rcases aa'.mp hp with rfl|hp
   ·exact h1'
   ·exact e3 p hp⟩
theorem SE.rvl{w:World}{A:Nat→Prop}{μ:Mu}{v:T→AV}:∀{ds:List (SE key k)},(∀p∈ds,RV w A (v p.x) μ (.agg p.cs.toArray))→RVL w A ((ds.map SE.x).map v) μ (ds.map λp=>.agg p.cs.toArray)
 | [],_=>rfl
 | p::ds,h=>⟨_,_,rfl,h p (List.mem_cons_self ..),SE.rvl λq hq=>h q (bi' _ hq)⟩
end
theorem Ar{T:Type}(key:T→Int):SWO (ltOf λx y:T=>Lib.compareInt (key x) (key y)):=by
 have e:∀x y:T,ltOf (λx y:T=>Lib.compareInt (key x) (key y)) x y=decide (key x<key y):=λx y=>by
  unfold ltOf Lib.compareInt
  by_cases h1:key x<key y
  ·simp[h1]
  ·by_cases h2:key y<key x<;>simp[h1,h2]
 refine⟨λx=>?_,λx y z h1 h2=>?_,λx y z h1 h2=>?_⟩
 ·rw[e];simp
 ·rw[e]at *;simp at *;omega
 ·rw[e]at *;simp at *;omega
theorem DV{T:Type}(key:T→Int)(x y:T):ltOf (λx y:T=>Lib.compareInt (key x) (key y)) x y=decide (key x<key y):=by
 unfold ltOf Lib.compareInt
 by_cases h1:key x<key y
 ·simp[h1]
 ·by_cases h2:key y<key x<;>simp[h1,h2]
theorem iB{T:Type}{key:T→Int}:∀{a b:List T},a.Perm b→a.Pairwise (λx y=>key x≤key y)→b.Pairwise (λx y=>key x<key y)→a=b
 | [],b,h,_,_=>(List.nil_perm.mp h).symm
 | x::a,[],h,_,_=>absurd h.length_eq (by simp)
 | x::a,y::b,h,h1,h2=>by
  have hxy:x=y:=by
   have m1:=h.mem_iff.mp (List.mem_cons_self (a:=x) (l:=a));have m2:=h.mem_iff.mpr (List.mem_cons_self (a:=y) (l:=b))
   rcases aa'.mp m1 with e|m1
   ·exact e
   rcases aa'.mp m2 with e|m2
   ·exact e.symm
   have g1:=(bM'.mp h1).1 y m2;have g2:=(bM'.mp h2).1 x m1;omega
  subst hxy;rw[iB ((List.perm_cons _).mp h) (bM'.mp h1).2 (bM'.mp h2).2]
theorem vC{α:Type}[Inhabited α]{enc:α→List Value}{k:Nat}{w:World}{blk n:Nat}{d:Array α}{os:Array Obj}{C:Array Value}{ty:TypeId}(h:w.heap[blk]?=some (.cells C ty (0,0))) :
  (sortWorldK enc k w blk 0 n d os).heap[blk]?=some (.cells (putCells id 0 (flatK enc k d) C) ty (0,0))∧(∀b,b<w.heap.size→b≠blk→(sortWorldK enc k w blk 0 n d os).heap[b]?=w.heap[b]?) ∧
  w.heap.size≤(sortWorldK enc k w blk 0 n d os).heap.size:=by
 have hb:blk<w.heap.size:=(aO'.mp h).1;have e:(sortWorldK enc k w blk 0 n d os).heap=w.heap.modify blk (onCells (putCells id 0 (flatK enc k d)))++os:=rfl;rw[e]
 refine⟨?_,λb h1 h2=>?_,by simp⟩
 ·rw[bz' (by simpa using hb),bC',F' rfl,h];rfl
 ·rw[bz' (by simpa using h1),bC',E' (Ne.symm h2)]
theorem xp{F C:Array Value}(h:F.size≤C.size):(putCells id 0 F C).toList.take F.size=F.toList∧(putCells id 0 F C).size=C.size:=by
 have hs:(putCells id 0 F C).size=C.size:=by simp[putCells]
 refine⟨List.ext_getElem (by simp[hs];omega) λi h1 h2=>?_,hs⟩;have hi:i<F.size:=by simpa using h2
 simp[putCells,hi]
theorem qK{P:Program}{ρ:Ren}(L:SlLaysF0.n6 P ρ){T:Type}(v:T→AV)(key:T→Int)(k:Nat)(k0:0<k)
  (aE:∀w,(isAgg (ρ.t 24)).run P w=.ok true w) (zE:∀w,(Go.sizeOf (ρ.t 24)).run P w=.ok k w) (hv:∀x,∃cs,v x=.agg (.int (key x)::cs))
  (g:Nat) (eg:∀args w,(callFunc g args).run P w=.ok (.enter g args) w)
  (hcmp:∀(a b:Int) (xs ys:List Value) (w:World),xs.length+1=k→ys.length+1=k→(∀u∈xs,u.oneCell'=true)→(∀u∈ys,u.oneCell'=true) →
   Calls P g #[.agg (Value.int .i64 a::xs).toArray,.agg (Value.int .i64 b::ys).toArray] w λe w'=>e=.returned (.int .i64 (Lib.compareInt a b))∧∃q os',w'=grow (w.drewN q) os')
  (l l':List T) (hp:l'.Perm l) (hs:l'.Pairwise λx y=>key x<key y) (hl:l.length≤1000000) :
  aI P (ρ.f 6) [.vec 0,.func g []] [.vec k (l.map v)] (.tup []) [some (.vec k (l'.map v))]:=by
 intro w A μ cargs hH hmu hargs;obtain⟨c0,_,rfl,h0,c1,_,rfl,h1,rfl⟩:=hargs;obtain⟨hd,hm,rfl⟩:=h0;obtain⟨_,rfl,rfl⟩:=h1;obtain⟨hd',hm',hb,hA⟩:=hH.blk 0 _ rfl;rw[hm]at hm';cases hm';obtain⟨hk,hb⟩:=hb
 have none_:∀p cap,hd.val=.slice p 0 cap→l=[]→Calls P (ρ.f 6) [hd.val,Value.func (.func g) #[] ([]:List Value).toArray].toArray w λe w'=>∃v_1 A' μ',e=.returned v_1∧RV w' A' (.tup []) μ' v_1∧ie P w' A' μ' (aQ [some (.vec k (l'.map v))])∧be μ μ'∧Ext (bC μ (aQ ([Blk.vec k (l.map v)].map some))) w w' ∧
   (∀b,A b→A' b)∧(∀b,A' b→A b∨bC μ (aQ ([Blk.vec k (l.map v)].map some)) b∨w.heap.size≤b) ∧
   (∀b,bC μ' (aQ [some (.vec k (l'.map v))]) b→bC μ (aQ ([Blk.vec k (l.map v)].map some)) b∨w.heap.size≤b):=by
  intro p cap e0 e1;subst e1;obtain rfl:=List.perm_nil.mp hp;rw[e0];refine(AnyF.slices_SortFunc_none L p cap (.func (.func g) #[] #[]) w).mono ?_;rintro e w' ⟨rfl,rfl⟩;exact⟨_,A,μ,rfl,⟨[],rfl,rfl⟩,hH,be.refl _,⟨rfl,rfl,rfl,S' _,λ_ _ _=>rfl⟩,λb h=>h,λb h=>.inl h,λb h=>.inl h⟩
 rcases hb with⟨he,ha⟩|⟨he,hlen,hle,hcap,C,ty,vs,hheap,hrvl,hsol,hsz,hC,htake⟩
 ·obtain⟨a,ha⟩:=bn'.mp ha;exact none_ a 0 (by unfold Hd.val;rw[ha]) (by simpa using he)
 obtain⟨ds,e1,rfl,e3⟩:=SE.list hv hrvl hsz;have hval:hd.val=.slice (some ⟨hd.blk,0,none⟩) hd.len hd.cap:=by unfold Hd.val;rw[he]
 have hlen':hd.len=ds.length:=by rw[hlen,←e1];simp
 match hds:ds with
 | []=>exact none_ _ _ (by rw[hval,hlen'];rfl) (by rw[←e1];rfl)
 | p0::ds' =>
  rw[←hds]at e1 e3 htake hlen' hrvl hsz;haveI:Inhabited (SE key k):=⟨p0⟩
  obtain⟨nA,hblk⟩:=hA he;have hk1:∀x:SE key k,x.cs.length=k:=λx=>x.ok.1;have hC':C.toList.take (ds.length * k)=(flatK SE.cs k ds.toArray).toList:=by
   rw[lW _ _ k0 hk1,←hlen',htake,List.flatMap_map];rfl
  have hsz':ds.length * k≤C.size:=by rw[←hlen'];exact aW' (am' _ hle) hC
  have hHK:HoldsK SE.cs k w hd.blk 0 ds.toArray:=by
   intro j hj;have hj':j<ds.length * k:=by simpa using hj
   refine⟨?_,by simp[World.frozen?,hheap]⟩;have:(C.toList.take (ds.length * k))[j]?=(flatK SE.cs k ds.toArray).toList[j]?:=by rw[hC']
   rw[ap',F' hj']at this;simp only[World.cell?,hheap,aA',Option.isSome_none,aM',if_false,id];rw[getElem!_pos _ j hj,←aI' hj];simpa using this
  have key_:=AnyQ.slices_SortFunc L k aE zE SE.cs hk1 (λx=>x.ok.2.1) (λx y=>Lib.compareInt (key x.x) (key y.x)) (Ar λp:SE key k=>key p.x) g #[] hd.blk 0 hd.cap ds.toArray w eg
   (λm os dk _ x y=>by
    obtain⟨rx,hx⟩:=x.ok.2.2;obtain⟨ry,hy⟩:=y.ok.2.2;have lx:=x.ok.1;have ly:=y.ok.1
    have ox:=x.ok.2.1;have oy:=y.ok.2.1
    have ex:x.cs=.int .i64 (key x.x)::rx:=hx;have ey:y.cs=.int .i64 (key y.x)::ry:=hy;rw[hx]at lx ox;rw[hy]at ly oy;rw[ex,ey,Array.append_empty];exact hcmp _ _ rx ry _ lx ly (λu hu=>ox u (bi' _ hu)) (λu hu=>oy u (bi' _ hu))) hHK hblk (by
    have:ds.length=l.length:=by rw[←e1];simp
    show ds.length<_;omega)
  rw[hval,hlen'];refine key_.mono ?_;rintro e w' ⟨rfl,d',n,os,⟨ps,-,pp⟩,hsrt,rfl⟩;have pp:d'.toList.Perm ds:=by
   have q1:d'.extract 0 ds.toArray.size=d':=by rw[←ps];simp
   have q2:ds.toArray.extract 0 ds.toArray.size=ds.toArray:=by simp
   rw[q1,q2]at pp;simpa using pp
  have el:d'.toList.map SE.x=l':=by
   refine iB ((pp.map _).trans ?_) ?_ hs
   ·rw[e1];exact hp.symm
   ·rw[List.pairwise_map,aZ'];intro i j hi hj hij;have hi':i<d'.size:=by simpa using hi
    have hj':j<d'.size:=by simpa using hj
    have:=hsrt i j (aq' _) hij (by rw[←ps];exact hj');rw[DV (λp:SE key k=>key p.x),getElem!_pos _ j hj',getElem!_pos _ i hi']at this;simpa using this
  have len':d'.size=ds.length:=by rw[ps];rfl
  obtain⟨hp1,hp2,hp3⟩:=vC (enc:=SE.cs) (k:=k) (n:=n) (d:=d') (os:=os) hheap;have hF:(flatK SE.cs k d').size≤C.size:=by rw[size_flatK,len'];exact hsz'
  obtain⟨q1,q2⟩:=xp hF;have same:cr A w (sortWorldK SE.cs k w hd.blk 0 n d' os):=λb hb=>hp2 b (hH.lt b hb) (λe=>nA (e ▸ hb));have own:bC μ (aQ ([Blk.vec k (l.map v)].map some)) hd.blk:=⟨0,_,hd,rfl,hm,he,rfl⟩
  refine⟨_,A,μ,rfl,⟨[],rfl,rfl⟩,⟨λb x hx=>?_,λb b' x x' hd1 hd2 hx hx' _ _ _ _ _=>?_,hH.lt.mono same (λ_ h=>h) λb hb=>aL' (hH.lt b hb) hp3⟩,be.refl _,
   ⟨rfl,rfl,rfl,hp3,λb h1 h2=>hp2 b h1 λe=>h2 (e ▸ own)⟩,λ_ h=>h,λ_ h=>.inl h,?_⟩
  ·have hx0:b=0:=by
    cases b with
    | zero=>rfl
    | succ b=>simp[aQ]at hx
   subst hx0;have hx:some (Blk.vec k (l'.map v))=some x:=hx;cases hx
   refine⟨hd,hm,⟨hk,.inr ⟨he,?_,hle,hcap,_,ty,d'.toList.map (λp=>.agg p.cs.toArray),hp1,?_,?_,?_,?_,?_⟩⟩,λ_=>⟨nA,aL' hblk hp3⟩⟩
   ·rw[hlen',←el];simp[len']
   ·rw[←el];exact RVL.mono same (λ_ h=>h) _ (be.refl _) (SE.rvl λp hp=>e3 p (pp.mem_iff.mp hp))
   ·intro x hx;obtain⟨y,_,rfl⟩:=T'.mp hx;obtain⟨cs,hc⟩:=hv y;rw[hc];rfl
   ·intro u hu;obtain⟨p,_,rfl⟩:=T'.mp hu;simpa[Value.cells]using hk1 p
   ·rw[q2];exact hC
   ·have:=lW SE.cs k k0 hk1 d';rw[size_flatK,len',←hlen']at q1;rw[q1,this,List.flatMap_map];rfl
  ·have z:∀{b x},aQ [some (Blk.vec k (l'.map v))] b=some x→b=0:=λ{b x} h=>by
    cases b with
    | zero=>rfl
    | succ b=>simp[aQ]at h
   rw[z hx,z hx']
  ·rintro b ⟨b',x,hd1,hx,hm1,he1,rfl⟩;have hx0:b'=0:=by
    cases b' with
    | zero=>rfl
    | succ b=>simp[aQ]at hx
   subst hx0;rw[hm]at hm1;cases hm1;exact .inl own
end Go.Am
