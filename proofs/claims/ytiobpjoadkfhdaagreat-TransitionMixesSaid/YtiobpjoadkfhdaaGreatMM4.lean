/- Texts joined: Mx8 G0 G1 G2 TP0 LP P0 TC1 TC2 ML SH1 TC3 TC4 FM SH2 RD1 RD2. -/
import Derived.Test.YtiobpjoadkfhdaaGreatProg
import Derived.Test.YtiobpjoadkfhdaaGreatMM3
set_option linter.unusedVariables false
set_option linter.unusedSimpArgs false
set_option linter.unusedSectionVars false
namespace Go.Am
inductive Ax (P:Program) (Sf:Nat→Type) (T:Type):Type 1 where
  | say (φ:Prop→Prop) (a:Ax P Sf T)
  | nil
  | pass (a:Ax P Sf T)
  | br (g:Nat) (c:Bool) (x y:Ax P Sf T)
  | el (f:Nat) {α:Type} (v:α→AV) (l:List α) (Q:(α→Prop)→Prop) (k:α→Ax P Sf T)
  | elA (f:Nat) {α:Type} (v:α→List AV) (l:List α) (i n:Nat) (hv:∀x,(v x).length=n) (Q:(α→Prop)→Prop) (k:α→Ax P Sf T)
  | st (f:Nat) {α:Type} (v:α→AV) (l:List α) (g:α→α) (Q:(α→Prop)→Prop) (k:α→Ax P Sf T)
  | stI (f:Nat) {α:Type} (v:α→AV) (l:List α) (Q:(α→Prop)→Prop) (k:α→Ax P Sf T)
  | app (f:Nat) {α:Type} (v:α→AV) (l xs:List α) (a:Ax P Sf T)
  | appF (f:Nat) {α:Type} (v:α→AV) (l xs:List α) (a:Ax P Sf T)
  | sub (f:Nat) {α:Type} (v:α→AV) (l:List α) (fl:Bool) (a:Ax P Sf T)
  | rep (f:Nat) {α:Type} (v:α→AV) (x:α) (a:Ax P Sf T)
  | own (f:Nat) (a:Ax P Sf T)
  | mn (f:Nat) (q:MN) (a:Ax P Sf T)
  | req (f:Nat) (p:Prop) (k:p→Ax P Sf T)
  | callP (c:PC P) (a:Ax P Sf T)
  | callH (bs:List Nat) (c:HC P) (f:Nat) (a:Ax P Sf T)
  | callA (c:PC P) (h:aD c.args) (a:Ax P Sf T)
  | cmd (c:Cmd) (a:Ax P Sf T)
  | cmdL (c:Cmd) (a:Ax P Sf T)
  | wait (a:Ax P Sf T)
  | loop (j:Nat) (nf:Sf j→NF) (I:Sf j→Prop) (mu:Sf j→Nat) (s0:Sf j) (bs:List Nat) (body:Sf j→(Sf j→List Nat→Prop)→Ax P Sf T)
  | join (j:Nat) (nf:Sf j→NF) (I:Sf j→Prop) (a:(Sf j→List Nat→Prop)→Ax P Sf T) (body:Sf j→Ax P Sf T)
  | join2 (j:Nat) (nf:Sf j→NF) (I:Sf j→Prop) (a:(Sf j→List Nat→Prop)→Ax P Sf T) (body:Sf j→Ax P Sf T)
  | bk (j:Nat) (b:Sf j→List Nat→Prop) (t:Sf j) (bs:List Nat)
  | hand (k0:Nat) (cs:List Cmd) (m1:NF) (bs:List Nat) (s2:S3) (c:AC) (h:∀n,dI P k0 n c m1.st s2) (a:Ax P Sf T)
  | hand2 (k0:Nat) (s1 s2:S3) (c:AC) (h:∀n,dI P k0 n c s1 s2) (a:Ax P Sf T)
  | handQ (k0:Nat) (m1:NF) (bs:List Nat) (s2:S3) (c:AC) (p:Prop) (h:p→∀n,dI P k0 n c m1.st s2) (a:Ax P Sf T)
  | allB (c:Bool→Prop) (k:Bool→Ax P Sf T)
  | elX (f:Nat) {α:Type} (v:α→AV) (l:List α) (i:Nat) (k:α→Ax P Sf T)
  | elI (f:Nat) {α:Type} (v:α→AV) (l:List α) (i:Int) (k:α→Ax P Sf T)
  | elJ (f:Nat) {α:Type} (v:α→AV) (l:List α) (i:Int) (k:α→Ax P Sf T)
  | stX (f:Nat) {α:Type} (v:α→AV) (l:List α) (i:Nat) (g:α→α) (k:α→Ax P Sf T)
  | stJ (f:Nat) {α:Type} (v:α→AV) (l:List α) (i:Int) (g:α→α) (k:α→Ax P Sf T)
  | fz (b:Nat) {α:Type} (v:α→AV) (l:List α) (h:∀x,(v x).pureB=true) (a:Ax P Sf T)
  | apX (f:Nat) {α:Type} (v:α→AV) (l xs:List α) (n:Nat) (a:Ax P Sf T)
  | ap0 (f:Nat) {α:Type} (v:α→AV) (l xs:List α) (a:Ax P Sf T)
  | unr (n:Nat) (a:Ax P Sf T)
  | ret (r:T)
  | retH (r:T) (m:NF) (bs:List Nat)
section
variable {P : Program} {Sf : Nat → Type} {T : Type}
def Ax.an:Ax P Sf T→An P Sf T
 | .say _ a=>a.an
 | .nil=>.nil
 | .pass a=>.pass a.an
 | .br g _ x y=>.br g x.an y.an
 | .el f v l _ k=>.el f v l λx=>(k x).an
 | .elA f v l i n hv _ k=>.elA f v l i n hv λx=>(k x).an
 | .st f v l g _ k=>.st f v l g λx=>(k x).an
 | .stI f v l _ k=>.stI f v l λx=>(k x).an
 | .app f v l xs a=>.app f v l xs a.an
 | .appF f v l xs a=>.appF f v l xs a.an
 | .sub f v l fl a=>.sub f v l fl a.an
 | .rep f v x a=>.rep f v x a.an
 | .own f a=>.own f a.an
 | .mn f q a=>.mn f q a.an
 | .req f p k=>.req f p λh=>(k h).an
 | .callP c a=>.callP c a.an
 | .callH bs c _ a=>.callH bs c a.an
 | .callA c h a=>.callA c h a.an
 | .cmd c a=>.cmd c a.an
 | .cmdL c a=>.cmdL c a.an
 | .wait a=>.wait a.an
 | .loop j nf I mu s0 bs body=>.loop j nf I mu s0 bs λt=>(body t λ_ _=>True).an
 | .join j nf I a body=>.join j nf I (a λ_ _=>True).an λt=>(body t).an
 | .join2 j nf I a body=>.join2 j nf I (a λ_ _=>True).an λt=>(body t).an
 | .bk j _ t bs=>.back j t bs
 | .hand k0 cs m1 bs s2 c h a=>.hand k0 cs m1 bs s2 c h a.an
 | .hand2 k0 s1 s2 c h a=>.hand2 k0 s1 s2 c h a.an
 | .handQ k0 m1 bs s2 c p h a=>.handQ k0 m1 bs s2 c p h a.an
 | .allB _ k=>(k true).an
 | .elX f v l _ k=>.el f v l λx=>(k x).an
 | .elI f v l _ k=>.el f v l λx=>(k x).an
 | .elJ f v l _ k=>.el f v l λx=>(k x).an
 | .stX f v l _ g k=>.st f v l g λx=>(k x).an
 | .stJ f v l _ g k=>.st f v l g λx=>(k x).an
 | .fz b v l h a=>.cmdL (.frzE b (l.map v) (ae h l)) a.an
 | .apX f v l xs _ a=>.app f v l xs a.an
 | .ap0 f v l xs a=>.app f v l xs a.an
 | .unr n a=>.unr n a.an
 | .ret r=>.ret r
 | .retH r m bs=>.retH r m bs
def Ax.vc(e:T→AV)(b:T→List (Option Blk))(r0:T):Ax P Sf T→Prop
 | .say φ a=>φ (a.vc e b r0)
 | .nil=>True
 | .pass a=>a.vc e b r0
 | .br _ c x y=>Go.Am.br c (x.vc e b r0) (y.vc e b r0)
 | .el _ _ _ Q k=>Q λx=>(k x).vc e b r0
 | .elA _ _ _ _ _ _ Q k=>Q λx=>(k x).vc e b r0
 | .st _ _ _ _ Q k=>Q λx=>(k x).vc e b r0
 | .stI _ _ _ Q k=>Q λx=>(k x).vc e b r0
 | .app _ _ _ _ a=>a.vc e b r0
 | .appF _ _ _ _ a=>a.vc e b r0
 | .sub _ _ _ _ a=>a.vc e b r0
 | .rep _ _ _ a=>a.vc e b r0
 | .own _ a=>a.vc e b r0
 | .mn _ q a=>q.say (a.vc e b r0)
 | .req _ p k=>∃h:p,(k h).vc e b r0
 | .callP c a=>Cl c (a.vc e b r0)
 | .callH bs c f a=>Ch c bs f (a.vc e b r0)
 | .callA c _ a=>Cl c (a.vc e b r0)
 | .cmd _ a=>a.vc e b r0
 | .cmdL _ a=>a.vc e b r0
 | .wait a=>a.vc e b r0
 | .loop _ nf I mu s0 bs body=>Be nf bs I s0∧∀t,I t→(body t λx bs=>Bk nf bs I mu x t).vc e b r0
 | .join _ nf I a body=>(a λx bs=>Be nf bs I x).vc e b r0∧∀t,I t→(body t).vc e b r0
 | .join2 _ nf I a body=>(a λx bs=>Be nf bs I x).vc e b r0∧∀t,I t→(body t).vc e b r0
 | .bk _ b t bs=>b t bs
 | .hand _ _ m1 bs _ c _ a=>Nf m1 bs (Rf c (a.vc e b r0))
 | .hand2 _ s1 _ c _ a=>Rf s1 (Rf c (a.vc e b r0))
 | .handQ _ m1 bs _ c p _ a=>Nf m1 bs (Rf c (p∧a.vc e b r0))
 | .allB c k=>∀x,c x→(k x).vc e b r0
 | .elX _ v l i k=>Rf (l.map v) (ck (decide (i<l.length)) (∀x,l[i]?=some x→(k x).vc e b r0))
 | .elI _ v l i k=>Rf (l.map v) (ck (decide (0≤i)) (ck (decide (i<(l.length:Int))) (∀x,l[i.toNat]?=some x→(k x).vc e b r0)))
 | .elJ _ v l i k=>ck (cond (decide (0≤i)) (decide (i<((l.map v).length:Int))) false) (Rf (l.map v) (ck (decide (i.toNat<l.length)) (∀x,l[i.toNat]?=some x→(k x).vc e b r0)))
 | .stX _ v l i g k=>Rf (l.map v) (ck (decide (i<l.length)) (∀o,l[i]?=some o→Rf (v (g o)) ((k o).vc e b r0)))
 | .stJ _ v l i g k=>ck (cond (decide (0≤i)) (decide (i<((l.map v).length:Int))) false) (Rf (l.map v) (ck (decide (i.toNat<l.length)) (∀o,l[i.toNat]?=some o→Rf (v (g o)) ((k o).vc e b r0))))
 | .fz _ v l _ a=>Rf (l.map v) (a.vc e b r0)
 | .apX _ v l xs n a=>Rf (l.map v) (Rf (xs.map v) (ck (decide (n≤1048576)) (a.vc e b r0)))
 | .ap0 _ v l xs a=>Rf (l.map v) (Rf (xs.map v) (a.vc e b r0))
 | .unr _ a=>a.vc e b r0
 | .ret r=>Rp e r r0
 | .retH r m bs=>Qt m bs e b r r0
def Ax.vp(e:T→AV)(r0:T)(x:Ax P Sf T):Prop:=x.vc e (λ_=>[]) r0
end
def rR(r b:Nat):Nat×Sh×AV:=(r,.k,.ref b 0)
def rI(r:Nat)(x:Int):Nat×Sh×AV:=(r,.k,.int x)
def rB(r:Nat)(x:Bool):Nat×Sh×AV:=(r,.k,.bool x)
def rV(r b:Nat):Nat×Sh×AV:=(r,.k,.vec b)
def vB(k:Nat){α:Type}(v:α→AV)(l:List α)(h:∀x,(v x).pureB=true):PB:=.vec k (l.map v) (ae h l)
def pcO{P:Program}{Sf:Nat→Type}{T:Type}(f:FuncId)(shs:List Sh)(args:List AV)(sh:Sh)(e:T→AV)(r:T)(h:okL args→∃x:Ax P Sf T,x.vp e r∧mxP P f args sh e x.an r=x.vp e r)(hp:(e r).pureB=true)(hf:fnB P f=true):PC P:=
 ⟨f,shs,args,e r,bT.of_ok λok=>(h ok).elim λ_ h=>O3 h.1 h.2 (AV.pureB_ok hp),bx hf⟩
def hcO{P:Program}{Sf:Nat→Type}{T:Type}(f:FuncId)(shs:List Sh)(args:List AV)(hs:List Blk)(sh:Sh)(e:T→AV)(b:T→List (Option Blk))(r:T)(h:okL args→(∀x∈hs,x.ok)→∃x:Ax P Sf T,x.vc e b r∧mxH P f args hs sh e b x.an r=x.vc e b r)(hf:fnB P f=true)(hg:hcB args hs (e r) (b r)=true):HC P:=
 ⟨f,shs,args,hs,e r,b r,aF.of_okh λok ok2=>(h ok ok2).elim λ_ h=>Do h.1 h.2,bx hf,qA.of hg⟩
@[reducible] def noS:Nat→Type:=λ_=>Unit
end Go.Am
namespace Go.Proofs.YtiobpjoadkfhdaaGreat
open Go Go.Am
structure Tap where
  L:List Int
  p:Nat
structure qy where
  L:List Int
  p:Int
def Tap.v(x:Tap):AV:=.agg [.sl 1 (x.L.map AV.int) false,.int x.p]
def qy.v(x:qy):AV:=.agg [.sl 1 (x.L.map AV.int) false,.int x.p]
@[simp] theorem ui (l:List Int):bv (l.map AV.int)=true:=ae (λ_=>rfl) l
def Mod(x n:Int):Int:=if n<1 then 0 else if x.tmod n<0 then x.tmod n+n else x.tmod n
theorem dC{x n:Int}(h:1≤n):0≤Mod x n∧Mod x n<n:=by
 have hb:=Int.tmod_lt_of_pos x (show 0<n by omega);have hb':=Int.lt_tmod_of_pos x (show 0<n by omega)
 unfold Mod;split
 ·omega
 split<;>omega
def ab(L:List Int)(p:Nat):Nat:=if L.length≤p then p else p+1
def al(L:List Int)(p:Nat):Int:=L.getD p 0
def rng(L:List Int)(p:Nat)(lo hi:Int):Int:=W (lo+Mod (al L p) (W (W (hi-lo)+1)))
def aR(l:List Int)(r:Int):Int:=l.getD (Mod r l.length).toNat 0
def orI(l:List Int):Int:=(l.find? (· != 0)).getD 0
def cmpI(x y:Int):Int:=if x<y then -1 else if y<x then 1 else 0
def ng(x:Int):Bool:=false
theorem aQ{k n:Nat}(h:k<n)(hn:n≤9223372036854775807):W ((k:Int)+1)=((k+1:Nat):Int):=by rw[eC (by omega)];omega
theorem jQ{k:Nat}(h:k≤9223372036854775807)(h1:1≤k):W ((k:Int)-1)=((k-1:Nat):Int):=by rw[eC (by omega)];omega
def yA(r:Bool):AV:=.bool r
def pI(x:Int):Ax Tryz.prog noS (Bool):=
 (.ret (x != x))
theorem Ke(x:Int):(pI x).vp yA (ng x):=by
 dsimp only[pI,noS,Ax.vp,Ax.vc];simp only[vcU,rfU,u'];simp[ng]
def yB(x:Int):PC Tryz.prog:=pcO 205 [.k] [.int x] .k yA (ng x) (λ_=>⟨(pI x),Ke x,by kernel_rfl⟩) rfl (by kernel_rfl)
def FP(r:Int):AV:=.int r
def wd(x:Int)(y:Int):Ax Tryz.prog noS (Int):=
 (.callP (yB x)
(.callP (yB y)
(.br 128 (ng x) (.br 144 (ng y) (.ret (0))
(.ret (-1)))
(.br 144 (ng y) (.ret (1))
(.br 192 (decide (x<y)) (.ret (-1))
(.br 240 (decide (y<x)) (.ret (1))
(.ret (0))))))))
theorem PR(x y:Int):(wd x y).vp FP (cmpI x y):=by
 dsimp only[wd,noS,Ax.vp,Ax.vc];simp only[vcU,rfU,u'];simp only[ng,aS',false_implies,true_implies,true_and,cmpI];refine⟨λh=>by rw[F' h],λh=>⟨λh2=>by rw[E' h,F' h2],λh2=>by rw[E' h,E' h2]⟩⟩
def we(x:Int)(y:Int):PC Tryz.prog:=pcO 179 [.k,.k] [.int x,.int y] .k FP (cmpI x y) (λ_=>⟨(wd x y),PR x y,by kernel_rfl⟩) rfl (by kernel_rfl)
theorem Az{l:List Int}{k:Nat}{x:Int}(h:l.take k |>.all (·==0))(hx:l[k]?=some x)(hn:x≠0):l.find? (· != 0)=some x:=by
 rw[cc'];refine⟨by simpa using hn,k,am hx,by rw[f' (am hx)]at hx;exact Z' hx,λj hj=>?_⟩;have:=ay'.mp h (l[j]'(by have:=am hx;omega)) (aD'.mpr ⟨j,by have:=am hx;omega,rfl⟩);simpa using this
def sZ(r:List Int):AV:=.sl 1 (r.map AV.int) false
def nP(s:List Int):Ax Tryz.prog noS ((List Int)):=
 (.allB (λb1=>((s.map AV.int)≠[]→b1=false)) λb1 =>
(.br 48 (b1 != false) (.ret ([]))
(.apX 80 AV.int [] s (0+s.length)
(.fz 80 AV.int s (λ_=>rfl) (.ret (s))))))
theorem FR(s:List Int)(h:s.length≤1000000):(nP s).vp sZ s:=by
 dsimp only[nP,noS,Ax.vp,Ax.vc];simp only[vcU,rfU,u'];intro b hb;simp only[ui,true_and,and_true,az'];refine⟨λh1=>?_,λ_=>by omega⟩;cases s with
 | nil=>rfl
 | cons x s=>simp at hb;simp[hb]at h1
def ta(s:List Int)(h:s.length≤1000000):PC Tryz.prog:=pcO 90 [(.s 1)] [.sl 1 (s.map AV.int) false] (.s 1) sZ s (λ_=>⟨(nP s),FR s h,by kernel_rfl⟩) rfl (by kernel_rfl)
def bO{α:Type}(es:List α)(i:Nat)(x:α):List α:=es.take i++[x]++es.drop i
def putP(l:List Int)(x:Int):Nat:=l.findIdx (λy=>!decide (y<x))
def put(l:List Int)(x:Int):List Int:=if l[putP l x]?=some x then l else bO l (putP l x) x
structure Rtr where
  id:Int
  cap:Bool
  deriving DecidableEq
structure Lnk where
  a:Int
  b:Int
  ca:Int
  cb:Int
  w:Int
  deriving DecidableEq
structure Tpl where
  rs:List Rtr
  ls:List Lnk
  deriving DecidableEq
theorem Al{α:Type}{l:List α}{k:Nat}{x:α}:((l.take k).drop 0)++([x]++((l.take ((l.length:Int).toNat)).drop k))=bO l k x:=by
 rw[Int.toNat_natCast,List.take_length,bX',bO,bl']
def Rtr.v(x:Rtr):AV:=.agg [.int x.id,.bool x.cap]
def Lnk.v(x:Lnk):AV:=.agg [.int x.a,.int x.b,.int x.ca,.int x.cb,.int x.w]
def Tpl.v(x:Tpl):AV:=.agg [.sl 2 (x.rs.map Rtr.v) false,.sl 5 (x.ls.map Lnk.v) false]
def G(rows:List (List Bool))(h:Hp):Hp:=λb=>if 1000≤b∧b<2000 then(rows[b-1000]?).map (λr=>Blk.vec 1 (r.map AV.bool))else h b
def F(i:Nat):Nat:=1000+i
def names(n:Nat):List AV:=(List.range n).map λi=>.vec (F i)
def mset(M:List (List Bool))(x y:Nat):List (List Bool):=M.set x ((M.getD x []).set y true)
def Sq(n:Nat)(M:List (List Bool)):Prop:=M.length=n∧∀r∈M,r.length=n
theorem Sq.get{n:Nat}{M:List (List Bool)}(h:Sq n M){x:Nat}(hx:x<n):∃r,M[x]?=some r∧r.length=n∧M.getD x []=r:=by
 have hx:x<M.length:=by rw[h.1];exact hx
 exact⟨M[x],f' hx,h.2 _ (aR' hx),by simp[List.getD,f' hx]⟩
theorem Sq.set{n:Nat}{M:List (List Bool)}(h:Sq n M)(x y:Nat):Sq n (mset M x y):=by
 refine⟨by simp[mset,h.1],λr hr=>?_⟩
 by_cases hx:x<n
 ·obtain⟨r0,g1,g2,g3⟩:=h.get hx
  rcases ap' hr with hr|rfl
  ·exact h.2 r hr
  ·rw[g3];simpa using g2
 ·have:mset M x y=M:=List.set_eq_of_length_le (by rw[h.1];omega);rw[this]at hr;exact h.2 r hr
section
variable {α : Type} {l : List α} {P : α → Prop} {R : α → α → Prop} {t : Int} {x y : α}
theorem cY{i n:Int}(h1:0≤i)(h2:i<n):(bif decide (0≤i)then decide (i<n)else false)=true:=by
 rw[decide_eq_true h1,decide_eq_true h2];rfl
def aM(l:List α)(P:α→Prop)(t:Int):Prop:=∃k:Nat,t=k∧k≤l.length∧∀x∈l.take k,P x
theorem aM.zero:aM l P 0:=⟨0,rfl,by omega,by simp⟩
theorem aM.idx(h:aM l P t):0≤t:=by obtain⟨k,rfl,_,_⟩:=h;omega
theorem aM.step(h:aM l P t)(hl:l.length≤9223372036854775807)(hx:l[t.toNat]?=some x)(p:P x):aM l P (W (t+1))∧l.length-(W (t+1)).toNat<l.length-t.toNat:=by
 obtain⟨k,rfl,hk,ha⟩:=h;rw[Int.toNat_natCast]at hx;have:=am hx;rw[aQ (n:=l.length) this hl];refine⟨⟨k+1,rfl,by omega,λz hz=>?_⟩,by omega⟩;rw[aB hx]at hz
 rcases ab'.mp hz with hz|hz
 ·exact ha z hz
 ·rw[L']at hz;exact hz ▸ p
theorem aM.done(h:aM l P t)(c:¬t<l.length):∀x∈l,P x:=by
 obtain⟨k,rfl,hk,ha⟩:=h;rw[V' (by omega)]at ha;exact ha
theorem bn(hx:l[t.toNat]?=some x):x∈l:=be hx
def gj(l:List α)(R:α→α→Prop)(t:Int):Prop:=∃k:Nat,t=k∧1≤k∧k≤l.length+1∧∀j x y,j+1<k→l[j]?=some x→l[j+1]?=some y→R x y
theorem gj.one:gj l R 1:=⟨1,rfl,by omega,by omega,λj x y h=>by omega⟩
theorem gj.idx(h:gj l R t)(hl:l.length≤9223372036854775807)(c:t<l.length):(0≤W (t-1)∧W (t-1)<l.length)∧0≤t:=by
 obtain⟨k,rfl,h1,hk,ha⟩:=h;rw[jQ (by omega) h1];omega
theorem gj.step(h:gj l R t)(hl:l.length≤9223372036854775807)(hx:l[(W (t-1)).toNat]?=some x)(hy:l[t.toNat]?=some y)(p:R x y):gj l R (W (t+1))∧l.length+1-(W (t+1)).toNat<l.length+1-t.toNat:=by
 obtain⟨k,rfl,h1,hk,ha⟩:=h;rw[Int.toNat_natCast]at hy;have hlt:=am hy;rw[jQ (by omega) h1,Int.toNat_natCast]at hx;rw[aQ (n:=l.length) hlt (by omega)];refine⟨⟨k+1,rfl,by omega,by omega,λj x' y' hj hx' hy'=>?_⟩,by omega⟩
 by_cases e:j+1=k
 ·subst e;rw[show j+1-1=j by omega,hx']at hx;cases hx;rw[hy']at hy;cases hy;exact p
 ·exact ha j x' y' (by omega) hx' hy'
theorem gj.bad(h:gj l R t)(hl:l.length≤9223372036854775807)(hx:l[(W (t-1)).toNat]?=some x)(hy:l[t.toNat]?=some y){S:α→α→Prop}(p:¬S x y):¬l.Pairwise S:=by
 obtain⟨k,rfl,h1,hk,ha⟩:=h;rw[Int.toNat_natCast]at hy;have hlt:=am hy;rw[jQ (by omega) h1,Int.toNat_natCast]at hx;intro hp;rw[at']at hp;have:=hp (k-1) k (by omega) hlt (by omega);rw[f' (by omega)]at hx hy;rw[Z' hx,Z' hy]at this;exact p this
theorem gj.done(h:gj l R t)(c:¬t<l.length)(tr:∀x y z,R x y→R y z→R x z):l.Pairwise R:=by
 obtain⟨k,rfl,h1,hk,ha⟩:=h;rw[at'];have key:∀d i,(hi:i+d+1<l.length)→R (l[i]'(by omega)) l[i+d+1]:=by
  intro d
  induction d with
  | zero=>intro i hi;exact ha i _ _ (by omega) (f' (by omega)) (f' hi)
  | succ d ih =>
   intro i hi;exact tr _ _ _ (ih i (by omega)) (ha (i+d+1) _ _ (by omega) (f' (by omega)) (f' hi))
 intro i j hi hj hij;have:=key (j-i-1) i (by omega);simp only[show i+(j-i-1)+1=j by omega]at this;exact this
def l8{σ:Type}(l:List α)(g:σ→α→σ)(s0:σ)(t:Int)(s:σ):Prop:=∃k:Nat,t=k∧k≤l.length∧s=(l.take k).foldl g s0
section
variable {σ : Type} {g : σ → α → σ} {s0 s : σ}
theorem l8.zero:l8 l g s0 0 s0:=⟨0,rfl,by omega,rfl⟩
theorem l8.idx(h:l8 l g s0 t s):0≤t:=by obtain⟨k,rfl,_,_⟩:=h;omega
theorem l8.step(h:l8 l g s0 t s)(hl:l.length≤9223372036854775807)(hx:l[t.toNat]?=some x){s':σ}(p:s'=g s x):l8 l g s0 (W (t+1)) s'∧l.length-(W (t+1)).toNat<l.length-t.toNat:=by
 obtain⟨k,rfl,hk,rfl⟩:=h;rw[Int.toNat_natCast]at hx;have:=am hx;rw[aQ (n:=l.length) this hl];exact⟨⟨k+1,rfl,by omega,by rw[aB hx,be',p];rfl⟩,by omega⟩
theorem l8.done(h:l8 l g s0 t s)(c:¬t<l.length):s=l.foldl g s0:=by
 obtain⟨k,rfl,hk,rfl⟩:=h;rw[V' (by omega)]
end
def dV{β:Type}(l:List α)(f:α→List β)(t:Int)(out:List β):Prop:=∃k:Nat,t=k∧k≤l.length∧out=(l.take k).flatMap f
section
variable {β : Type} {f : α → List β} {out : List β}
theorem dV.zero:dV l f 0 []:=⟨0,rfl,by omega,rfl⟩
theorem dV.idx(h:dV l f t out):0≤t:=by obtain⟨k,rfl,_,_⟩:=h;omega
theorem dV.step(h:dV l f t out)(hl:l.length≤9223372036854775807)(hx:l[t.toNat]?=some x){out':List β}(p:out'=out++f x):dV l f (W (t+1)) out'∧l.length-(W (t+1)).toNat<l.length-t.toNat:=by
 obtain⟨k,rfl,hk,rfl⟩:=h;rw[Int.toNat_natCast]at hx;have:=am hx;rw[aQ (n:=l.length) this hl];exact⟨⟨k+1,rfl,by omega,by rw[aB hx,bt',p];simp⟩,by omega⟩
theorem dV.done(h:dV l f t out)(c:¬t<l.length):out=l.flatMap f:=by
 obtain⟨k,rfl,hk,rfl⟩:=h;rw[V' (by omega)]
theorem dV.len(h:dV l f t out){b:Nat}(hb:∀x∈l,(f x).length≤b):out.length≤l.length * b:=by
 obtain⟨k,rfl,hk,rfl⟩:=h;have key:∀m:List α,(∀x∈m,(f x).length≤b)→(m.flatMap f).length≤m.length * b:=by
  intro m
  induction m with
  | nil=>intro _;simp
  | cons x m ih =>
   intro hm;have h1:=hm x (by simp);have h2:=ih λy hy=>hm y (by simp[hy]);rw[aq',List.length_append,Y',Nat.succ_mul];omega
 refine aF' (key _ λx hx=>hb x (ad' hx)) (ao' _ ?_);rw[ar'];omega
end
theorem sy{β:Type}{f:α→β}{l:List α}:(l.flatMap λx=>[f x])=l.map f:=by
 induction l with
 | nil=>rfl
 | cons x l ih=>rw[aq',ih];rfl
theorem vC{p:α→Bool}{l:List α}:(l.flatMap λx=>if p x=true then [x]else [])=l.filter p:=by
 induction l with
 | nil=>rfl
 | cons x l ih =>
  rw[aq',ih,bZ'];split<;>rfl
def cE(p:α→Bool)(l:List α):Int:=if l.any p=true then((l.findIdx p:Nat):Int)else -1
theorem aM.found{p:α→Bool}(h:aM l (λy=>p y=false) t)(hx:l[t.toNat]?=some x)(hp:p x=true):t=cE p l:=by
 obtain⟨k,rfl,hk,ha⟩:=h;rw[Int.toNat_natCast]at hx;rw[cE,F' (aj'.mpr ⟨x,be hx,hp⟩)];have:l.findIdx p=k:=by
  have hlt:=am hx;rw[f' hlt]at hx;have hx:=Z' hx;rw[List.findIdx_eq hlt];refine⟨by rw[hx];exact hp,λj hj=>?_⟩;exact ha _ (aD'.mpr ⟨j,by omega,rfl⟩)
 rw[this]
theorem aM.lost{p:α→Bool}(h:aM l (λy=>p y=false) t)(c:¬t<l.length):-1=cE p l:=by
 rw[cE,E'];rw[aj'];rintro⟨x,hx,hp⟩;rw[h.done c x hx]at hp;cases hp
theorem dN(p:α→Bool)(l:List α):decide (0≤cE p l)=l.any p:=by
 unfold cE
 cases l.any p
 ·rfl
 ·rw[F' rfl];exact decide_eq_true (by omega)
end
theorem kH{α:Type}{l:List α}{t:Int}{x:α}{p:α→Bool}(h:aM l (λy=>p y=false) t)(hx:l[t.toNat]?=some x)(hp:p x=true):l.find? p=some x:=by
 obtain⟨k,rfl,hk,ha⟩:=h;rw[Int.toNat_natCast]at hx;rw[cc'];have hlt:=am hx;refine⟨hp,k,hlt,by rw[f' hlt]at hx;exact Z' hx,λj hj=>?_⟩;rw[ha _ (aD'.mpr ⟨j,by omega,rfl⟩)];rfl
theorem mf{α:Type}{l:List α}{t:Int}{p:α→Bool}(h:aM l (λy=>p y=false) t)(c:¬t<l.length):l.find? p=none:=by
 rw[bR'];exact λx hx=>by rw[h.done c x hx];simp
def fp(n:Int):Bool:=decide (1≤n) && decide (n≤1000)
def F8(r:Bool):AV:=.bool r
def vS(n:Int):Ax Tryz.prog noS (Bool):=
 (.br 64 (decide (1≤n)) (.ret (decide (n≤1000)))
(.ret (false)))
theorem PI(n:Int):(vS n).vp F8 (fp n):=by
 dsimp only[vS,noS,Ax.vp,Ax.vc];simp only[vcU,rfU,u'];refine⟨λc=>?_,λc=>?_⟩<;>simp[fp,c]
def lv(n:Int):PC Tryz.prog:=pcO 39 [.k] [.int n] .k F8 (fp n) (λ_=>⟨(vS n),PI n,by kernel_rfl⟩) rfl (by kernel_rfl)
def aJ(t:Tpl)(r:Int):Bool:=t.rs.any λx=>x.id==r
def EH(t:Tpl)(r:Int):=okL [Tpl.v t,.int r]
def Ks(t:Tpl)(r:Int)(t0:Int):NF:=⟨[rI 1 r,rR 2 0,rI 5 t0],[.box (Tpl.v t)]⟩
@[reducible] def EF:Nat→Type
 | 0=>Int
 | _=>Unit
def EG(r:Bool):AV:=.bool r
def EE(t:Tpl)(r:Int)(I0:Int→Prop)(m0:Int→Nat):Ax Tryz.prog EF (Bool):=
 (.loop 0 (Ks t r) I0 m0 ((0):Int) [0] λ(t0:Int) b0 =>
(.br 81 (decide (t0<((t.rs.map Rtr.v).length:Int))) (.elI 129 Rtr.v t.rs t0 λx1 =>
(.br 209 (x1.id==r) (.ret (true))
(.bk 0 b0 ((W (t0+1)):Int) [0])))
(.ret (false))))
theorem Pe(t:Tpl)(r:Int)(ok:EH t r):∃I m,(EE t r I m).vp EG (aJ t r):=by
 refine⟨λi=>aM t.rs (λx=>(x.id==r)=false) i,λi=>t.rs.length-i.toNat,?_⟩;simp only[EH,Tpl.v,okU,Blk.ok,az,u']at ok;dsimp only[EE,EF,Ax.vp,Ax.vc];simp only[vcU,rfU,u']
 refine⟨aM.zero,λi h=>⟨λc=>⟨h.idx,c,λx hx=>⟨λq=>?_,λq=>h.step (by omega) hx q⟩⟩,λc=>?_⟩⟩
 ·exact(aj'.mpr ⟨x,bn hx,q⟩).symm
 ·exact(bK'.mpr λx hx=>by rw[h.done c x hx];simp).symm
def nw(t:Tpl)(r:Int):PC Tryz.prog:=pcO 38 [(.a [(.s 2),(.s 5)]),.k] [Tpl.v t,.int r] .k EG (aJ t r) (λok=>let ⟨I0,m0,h⟩:=Pe t r ok;⟨_,h,by kernel_rfl⟩) rfl (by kernel_rfl)
def iu(l:Lnk):Prop:=fp l.ca=true∧fp l.cb=true∧0≤l.w∧l.w≤1000
instance (l:Lnk):Decidable (iu l):=by unfold iu;infer_instance
def bC(x y:Lnk):Prop:=x.a<y.a∨x.a=y.a∧x.b<y.b
instance (x y:Lnk):Decidable (bC x y):=by unfold bC;infer_instance
def aC(t:Tpl):Int:=
 if 24<t.rs.length∨60<t.ls.length then 3
 else if ¬∀x∈t.rs,1≤x.id∧x.id≤99 then 2
 else if ¬t.rs.Pairwise (λx y=>x.id<y.id)then 25
 else if ¬∀l∈t.ls,iu l then 2
 else if ¬∀l∈t.ls,aJ t l.a=true∧aJ t l.b=true then 4
 else if ¬∀l∈t.ls,l.a<l.b then 8
 else if ¬t.ls.Pairwise bC then 25 else 0
def Gt(t:Tpl):=okL [Tpl.v t]
def L8(t:Tpl)(t0:Bool):NF:=⟨[rR 1 0,rB 21 t0],[.box (Tpl.v t)]⟩
def L7(t:Tpl)(t1:Int):NF:=⟨[rR 1 0,rI 3 t1],[.box (Tpl.v t)]⟩
def L6(t:Tpl)(t1:Int)(t2:Bool):NF:=⟨[rR 1 0,rI 3 t1,rB 44 t2],[.box (Tpl.v t)]⟩
def L5(t:Tpl)(t3:Int):NF:=⟨[rR 1 0,rI 4 t3],[.box (Tpl.v t)]⟩
def L4(t:Tpl)(t4:Int):NF:=⟨[rR 1 0,rI 5 t4],[.box (Tpl.v t)]⟩
def L3(t:Tpl)(t4:Int)(t5:Bool):NF:=⟨[rR 1 0,rI 5 t4,rB 97 t5],[.box (Tpl.v t)]⟩
def L2(t:Tpl)(t6:Int):NF:=⟨[rR 1 0,rI 7 t6],[.box (Tpl.v t)]⟩
def L1(t:Tpl)(t6:Int)(t7:Bool):NF:=⟨[rR 1 0,rI 7 t6,rB 124 t7],[.box (Tpl.v t)]⟩
def L0(t:Tpl)(t8:Int):NF:=⟨[rR 1 0,rI 8 t8],[.box (Tpl.v t)]⟩
def Lz(t:Tpl)(t9:Int):NF:=⟨[rR 1 0,rI 9 t9],[.box (Tpl.v t)]⟩
def Gq(t:Tpl)(t9:Int)(t10:Bool):NF:=⟨[rR 1 0,rI 9 t9,rB 181 t10],[.box (Tpl.v t)]⟩
@[reducible] def Gp:Nat→Type
 | 0=>Bool
 | 1=>Int
 | 2=>Bool
 | 3=>Int
 | 4=>Int
 | 5=>Bool
 | 6=>Int
 | 7=>Bool
 | 8=>Int
 | 9=>Int
 | 10=>Bool
 | _=>Unit
def Gr(r:Int):AV:=.int r
def Gn(t:Tpl)(I0:Bool→Prop)(I1:Bool→Int→Prop)(m1:Bool→Int→Nat)(I2:Bool→Int→Bool→Prop)(I3:Bool→Int→Int→Prop)(m3:Bool→Int→Int→Nat)(I4:Bool→Int→Int→Int→Prop)(m4:Bool→Int→Int→Int→Nat)(I5:Bool→Int→Int→Int→Lnk→Bool→Prop)(I6:Bool→Int→Int→Int→Int→Prop)(m6:Bool→Int→Int→Int→Int→Nat)(I7:Bool→Int→Int→Int→Int→Bool→Prop)(I8:Bool→Int→Int→Int→Int→Int→Prop)(m8:Bool→Int→Int→Int→Int→Int→Nat)(I9:Bool→Int→Int→Int→Int→Int→Int→Prop)(m9:Bool→Int→Int→Int→Int→Int→Int→Nat)(I10:Bool→Int→Int→Int→Int→Int→Int→Lnk→Lnk→Bool→Prop):Ax Tryz.prog Gp (Int):=
 (.pass (.pass (.join 0 (L8 t) (λ(t0:Bool)=>I0 t0) (λb0=>(.br 112 (decide (24<((t.rs.map Rtr.v).length:Int))) (.bk 0 b0 ((true):Bool) [0])
(.bk 0 b0 ((decide (60<((t.ls.map Lnk.v).length:Int))):Bool) [0]))) λ(t0:Bool) =>
(.br 1 t0 (.ret (3))
(.loop 1 (L7 t) (I1 t0) (m1 t0) ((0):Int) [0] λ(t1:Int) b1 =>
(.br 81 (decide (t1<((t.rs.map Rtr.v).length:Int))) (.pass (.join 2 (L6 t t1) (λ(t2:Bool)=>I2 t0 t1 t2) (λb2=>(.elI 129 Rtr.v t.rs t1 λx1 =>
(.br 209 (decide (x1.id<1)) (.bk 2 b2 ((true):Bool) [0])
(.elI 257 Rtr.v t.rs t1 λx2 =>
(.bk 2 b2 ((decide (99<x2.id)):Bool) [0]))))) λ(t2:Bool) =>
(.br 1 t2 (.ret (2))
(.bk 1 b1 ((W (t1+1)):Int) [0]))))
(.loop 3 (L5 t) (I3 t0 t1) (m3 t0 t1) ((1):Int) [0] λ(t3:Int) b3 =>
(.br 81 (decide (t3<((t.rs.map Rtr.v).length:Int))) (.elI 145 Rtr.v t.rs (W (t3-1)) λx3 =>
(.elI 241 Rtr.v t.rs t3 λx4 =>
(.br 305 (decide (x4.id≤x3.id)) (.ret (25))
(.bk 3 b3 ((W (t3+1)):Int) [0]))))
(.loop 4 (L4 t) (I4 t0 t1 t3) (m4 t0 t1 t3) ((0):Int) [0] λ(t4:Int) b4 =>
(.br 81 (decide (t4<((t.ls.map Lnk.v).length:Int))) (.elI 129 Lnk.v t.ls t4 λx5 =>
(.join 5 (L3 t t4) (λ(t5:Bool)=>I5 t0 t1 t3 t4 x5 t5) (λb5=>(.callP (lv x5.ca)
(.br 273 (!(fp x5.ca)) (.bk 5 b5 ((true):Bool) [0])
(.callP (lv x5.cb)
(.br 369 (!(fp x5.cb)) (.bk 5 b5 ((true):Bool) [0])
(.br 449 (decide (x5.w<0)) (.bk 5 b5 ((true):Bool) [0])
(.bk 5 b5 ((decide (1000<x5.w)):Bool) [0]))))))) λ(t5:Bool) =>
(.br 1 t5 (.ret (2))
(.bk 4 b4 ((W (t4+1)):Int) [0]))))
(.loop 6 (L2 t) (I6 t0 t1 t3 t4) (m6 t0 t1 t3 t4) ((0):Int) [0] λ(t6:Int) b6 =>
(.br 81 (decide (t6<((t.ls.map Lnk.v).length:Int))) (.pass (.join 7 (L1 t t6) (λ(t7:Bool)=>I7 t0 t1 t3 t4 t6 t7) (λb7=>(.elI 145 Lnk.v t.ls t6 λx6 =>
(.callP (nw t x6.a)
(.br 241 (!(aJ t x6.a)) (.bk 7 b7 ((true):Bool) [0])
(.elI 305 Lnk.v t.ls t6 λx7 =>
(.callP (nw t x7.b)
(.bk 7 b7 ((!(aJ t x7.b)):Bool) [0]))))))) λ(t7:Bool) =>
(.br 1 t7 (.ret (4))
(.bk 6 b6 ((W (t6+1)):Int) [0]))))
(.loop 8 (L0 t) (I8 t0 t1 t3 t4 t6) (m8 t0 t1 t3 t4 t6) ((0):Int) [0] λ(t8:Int) b8 =>
(.br 81 (decide (t8<((t.ls.map Lnk.v).length:Int))) (.elI 129 Lnk.v t.ls t8 λx8 =>
(.elI 225 Lnk.v t.ls t8 λx9 =>
(.br 289 (decide (x9.b≤x8.a)) (.ret (8))
(.bk 8 b8 ((W (t8+1)):Int) [0]))))
(.loop 9 (Lz t) (I9 t0 t1 t3 t4 t6 t8) (m9 t0 t1 t3 t4 t6 t8) ((1):Int) [0] λ(t9:Int) b9 =>
(.br 81 (decide (t9<((t.ls.map Lnk.v).length:Int))) (.elI 145 Lnk.v t.ls (W (t9-1)) λx10 =>
(.elI 225 Lnk.v t.ls t9 λx11 =>
(.join 10 (Gq t t9) (λ(t10:Bool)=>I10 t0 t1 t3 t4 t6 t8 t9 x10 x11 t10) (λb10=>(.br 417 (decide (x11.a<x10.a)) (.bk 10 b10 ((true):Bool) [0])
(.br 513 (x10.a==x11.a) (.bk 10 b10 ((decide (x11.b≤x10.b)):Bool) [0])
(.bk 10 b10 ((false):Bool) [0])))) λ(t10:Bool) =>
(.br 1 t10 (.ret (25))
(.bk 9 b9 ((W (t9+1)):Int) [0])))))
(.ret (0))))))))))))))))))
theorem Qe(t:Tpl)(ok:Gt t):∃I0 I1 m1 I2 I3 m3 I4 m4 I5 I6 m6 I7 I8 m8 I9 m9 I10,(Gn t I0 I1 m1 I2 I3 m3 I4 m4 I5 I6 m6 I7 I8 m8 I9 m9 I10).vp Gr (aC t):=by
 refine⟨λb=>b=decide (24<t.rs.length∨60<t.ls.length),λ_ i=>aM t.rs (λx=>1≤x.id∧x.id≤99) i,λ_ i=>t.rs.length-i.toNat,
  λ_ i b=>∀x,t.rs[i.toNat]?=some x→b=decide (¬(1≤x.id∧x.id≤99)),λ_ _ i=>gj t.rs (λx y=>x.id<y.id) i,λ_ _ i=>t.rs.length+1-i.toNat,
  λ_ _ _ i=>aM t.ls iu i,λ_ _ _ i=>t.ls.length-i.toNat,λ_ _ _ _ l b=>b=decide (¬iu l),λ_ _ _ _ i=>aM t.ls (λl=>aJ t l.a=true∧aJ t l.b=true) i,λ_ _ _ _ i=>t.ls.length-i.toNat,
  λ_ _ _ _ i b=>∀l,t.ls[i.toNat]?=some l→b=decide (¬(aJ t l.a=true∧aJ t l.b=true)),λ_ _ _ _ _ i=>aM t.ls (λl=>l.a<l.b) i,λ_ _ _ _ _ i=>t.ls.length-i.toNat,
  λ_ _ _ _ _ _ i=>gj t.ls bC i,λ_ _ _ _ _ _ i=>t.ls.length+1-i.toNat,λ_ _ _ _ _ _ _ x y b=>b=decide (¬bC x y),?_⟩
 simp only[Gt,Tpl.v,okU,Blk.ok,az,u']at ok;dsimp only[Gn,Gp,Ax.vp,Ax.vc];simp only[vcU,rfU,u'];refine⟨⟨λc=>(decide_eq_true (.inl (by omega))).symm,λc=>decide_eq_decide.mpr (by omega)⟩,?_⟩;rintro _ rfl;unfold aC
 refine⟨λc=>by rw[F' (G' c)],λc=>⟨aM.zero,λi1 h1=>⟨λd=>⟨⟨h1.idx,d,λx hx=>⟨λe y hy=>?_,λe=>⟨h1.idx,d,λy hy z hz=>?_⟩⟩⟩,?_⟩,λd=>?_⟩⟩⟩
 ·rw[hx]at hy;cases hy;exact(decide_eq_true (by omega)).symm
 ·rw[hx]at hy;cases hy;rw[hx]at hz;cases hz;exact decide_eq_decide.mpr (by omega)
 ·have c:=S' c;have hx:=f' (show i1.toNat<t.rs.length by have:=h1.idx;omega);intro b hb;have hb:=hb _ hx;subst hb;refine⟨λe=>?_,λe=>h1.step (by omega) hx (bf'.mp (S' e))⟩;rw[E' c,F' λq=>G' e (q _ (bn hx))]
 have c:=S' c;rw[E' c,E' (not_not_intro (h1.done d))]
 refine⟨gj.one,λi2 h2=>⟨λd2=>?_,λd2=>?_⟩⟩
 ·obtain⟨a1,a2⟩:=h2.idx (by omega) d2;refine⟨a1.1,a1.2,λx hx=>⟨a2,d2,λy hy=>⟨λe=>?_,λe=>h2.step (by omega) hx hy (by omega)⟩⟩⟩;rw[F' (h2.bad (by omega) hx hy (by omega))]
 rw[E' (not_not_intro (h2.done d2 λ_ _ _ q r=>bJ' q r))]
 refine⟨aM.zero,λi3 h3=>⟨λd3=>⟨h3.idx,d3,λx hx=>⟨⟨λe=>?_,λe=>⟨λe2=>?_,λe2=>⟨λe3=>?_,λe3=>?_⟩⟩⟩,?_⟩⟩,λd3=>?_⟩⟩
 ·exact(decide_eq_true (show ¬iu x from λq=>by rw[q.1]at e;cases e)).symm
 ·exact(decide_eq_true (show ¬iu x from λq=>by rw[q.2.1]at e2;cases e2)).symm
 ·exact(decide_eq_true (show ¬iu x from λq=>by have:=q.2.2.1;omega)).symm
 ·have e:fp x.ca=true:=by simpa using e
  have e2:fp x.cb=true:=by simpa using e2
  refine decide_eq_decide.mpr ⟨λq r=>by have:=r.2.2.2;omega,λq=>?_⟩;exact U' λr=>q ⟨e,e2,by omega,by omega⟩
 ·rintro _ rfl;refine⟨λe=>?_,λe=>h3.step (by omega) hx (bf'.mp (S' e))⟩;rw[F' λq=>G' e (q _ (bn hx))]
 rw[E' (not_not_intro (h3.done d3))]
 refine⟨aM.zero,λi4 h4=>⟨λd4=>⟨⟨h4.idx,d4,λx hx=>⟨λe y hy=>?_,λe=>⟨h4.idx,d4,λy hy z hz=>?_⟩⟩⟩,?_⟩,λd4=>?_⟩⟩
 ·rw[hx]at hy;cases hy;exact(decide_eq_true (show ¬(aJ t x.a=true∧aJ t x.b=true)from λq=>by rw[q.1]at e;cases e)).symm
 ·rw[hx]at hy;cases hy;rw[hx]at hz;cases hz;have e:aJ t x.a=true:=by simpa using e
  cases q:aJ t x.b<;>simp[e]
 ·have hx:=f' (show i4.toNat<t.ls.length by have:=h4.idx;omega);intro b hb;have hb:=hb _ hx;subst hb;refine⟨λe=>?_,λe=>h4.step (by omega) hx (bf'.mp (S' e))⟩;rw[F' λq=>G' e (q _ (bn hx))]
 rw[E' (not_not_intro (h4.done d4))]
 refine⟨aM.zero,λi5 h5=>⟨λd5=>⟨h5.idx,d5,λx hx=>⟨h5.idx,d5,λy hy=>?_⟩⟩,λd5=>?_⟩⟩
 ·rw[hx]at hy;cases hy;refine⟨λe=>?_,λe=>h5.step (by omega) hx (by omega)⟩;rw[F' λq=>by have:=q _ (bn hx);omega]
 rw[E' (not_not_intro (h5.done d5))]
 refine⟨gj.one,λi6 h6=>⟨λd6=>?_,λd6=>?_⟩⟩
 ·obtain⟨a1,a2⟩:=h6.idx (by omega) d6
  refine⟨a1.1,a1.2,λx hx=>⟨a2,d6,λy hy=>⟨⟨λe=>?_,λe=>⟨λe2=>?_,λe2=>?_⟩⟩,?_⟩⟩⟩
  ·exact(decide_eq_true (show ¬bC x y from λq=>by unfold bC at q;omega)).symm
  ·have e2:=eq_of_beq e2;exact decide_eq_decide.mpr (by unfold bC;omega)
  ·have e2:¬x.a=y.a:=by simpa using e2
   exact(decide_eq_false (not_not_intro (.inl (by omega)))).symm
  ·rintro _ rfl;refine⟨λe=>?_,λe=>h6.step (by omega) hx hy (bf'.mp (S' e))⟩;rw[F' (h6.bad (by omega) hx hy (G' e))]
 ·rw[E' (not_not_intro (h6.done d6 λ_ _ _ q r=>by unfold bC at *;omega))]
def lw(t:Tpl):PC Tryz.prog:=pcO 37 [(.a [(.s 2),(.s 5)])] [Tpl.v t] .k Gr (aC t) (λok=>let ⟨I0,I1,m1,I2,I3,m3,I4,m4,I5,I6,m6,I7,I8,m8,I9,m9,I10,h⟩:=Qe t ok;⟨_,h,by kernel_rfl⟩) rfl (by kernel_rfl)
def ga(f g:Int)(l:Lnk):Bool:=(l.a==f && l.b==g) || (l.b==f && l.a==g)
def dD(t:Tpl)(f g:Int):Int×Bool:=match t.ls.find? (ga f g)with
 | some l=>(if(l.a==f && l.b==g)=true then l.ca else l.cb,true)
 | none=>(0,false)
def CE(t:Tpl)(from_:Int)(to_:Int):=okL [Tpl.v t,.int from_,.int to_]
def Je(t:Tpl)(from_:Int)(to_:Int)(t0:Int):NF:=⟨[rI 1 from_,rI 2 to_,rR 3 0,rI 8 t0],[.box (Tpl.v t)]⟩
def Jd(t:Tpl)(from_:Int)(to_:Int)(t0:Int)(x1:Lnk)(t1:Bool):NF:=⟨[rI 1 from_,rI 2 to_,rR 3 0,rI 8 t0,rR 9 1,rB 31 t1],[.box (Tpl.v t),.box (Lnk.v x1)]⟩
def Jc(t:Tpl)(from_:Int)(to_:Int)(t0:Int)(x1:Lnk)(t2:Bool):NF:=⟨[rI 1 from_,rI 2 to_,rR 3 0,rI 8 t0,rR 9 1,rB 43 t2],[.box (Tpl.v t),.box (Lnk.v x1)]⟩
@[reducible] def CB:Nat→Type
 | 0=>Int
 | 1=>Bool
 | 2=>Bool
 | _=>Unit
def CD(r:Int×Bool):AV:=.tup [.int r.1,.bool r.2]
def CA(t:Tpl)(from_:Int)(to_:Int)(I0:Int→Prop)(m0:Int→Nat)(I1:Int→Lnk→Bool→Prop)(I2:Int→Lnk→Bool→Bool→Prop):Ax Tryz.prog CB (Int×Bool):=
 (.loop 0 (Je t from_ to_) I0 m0 ((0):Int) [0] λ(t0:Int) b0 =>
(.br 81 (decide (t0<((t.ls.map Lnk.v).length:Int))) (.elI 129 Lnk.v t.ls t0 λx1 =>
(.pass (.join 1 (Jd t from_ to_ t0 x1) (λ(t1:Bool)=>I1 t0 x1 t1) (λb1=>(.br 273 (x1.a==from_) (.bk 1 b1 ((x1.b==to_):Bool) [0,161])
(.bk 1 b1 ((false):Bool) [0,161]))) λ(t1:Bool) =>
(.br 2 t1 (.ret (x1.ca,true))
(.join 2 (Jc t from_ to_ t0 x1) (λ(t2:Bool)=>I2 t0 x1 t1 t2) (λb2=>(.br 82 (x1.b==from_) (.bk 2 b2 ((x1.a==to_):Bool) [0,1])
(.bk 2 b2 ((false):Bool) [0,1]))) λ(t2:Bool) =>
(.br 2 t2 (.ret (x1.cb,true))
(.bk 0 b0 ((W (t0+1)):Int) [0])))))))
(.ret (0,false))))
theorem NZ(t:Tpl)(f g:Int)(ok:CE t f g):∃I0 m0 I1 I2,(CA t f g I0 m0 I1 I2).vp CD (dD t f g):=by
 refine⟨λi=>aM t.ls (λl=>ga f g l=false) i,λi=>t.ls.length-i.toNat,λ_ l b=>b=(l.a==f && l.b==g),λ_ l _ b=>b=(l.b==f && l.a==g),?_⟩;simp only[CE,Tpl.v,okU,Blk.ok,az,u']at ok;dsimp only[CA,CB,Ax.vp,Ax.vc];simp only[vcU,rfU,u']
 refine⟨aM.zero,λi h=>⟨λc=>⟨h.idx,c,λx hx=>⟨⟨λe=>by rw[e];rfl,λe=>by rw[e];rfl⟩,?_⟩⟩,λc=>?_⟩⟩
 ·rintro _ rfl
  refine⟨λe=>?_,λe=>⟨⟨λe2=>by rw[e2];rfl,λe2=>by rw[e2];rfl⟩,?_⟩⟩
  ·rw[dD,kH h hx (by rw[ga,e];rfl)];simp only;rw[F' e]
  ·rintro _ rfl;refine⟨λe2=>?_,λe2=>h.step (by omega) hx (by rw[ga,e,e2];rfl)⟩;rw[dD,kH h hx (by rw[ga,e2,Bool.or_true])];simp only;rw[E' (by rw[e];simp)]
 ·rw[dD,mf h c]
def uk(t:Tpl)(from_:Int)(to_:Int):PC Tryz.prog:=pcO 40 [(.a [(.s 2),(.s 5)]),.k,.k] [Tpl.v t,.int from_,.int to_] .k CD (dD t from_ to_) (λok=>let ⟨I0,m0,I1,I2,h⟩:=NZ t from_ to_ ok;⟨_,h,by kernel_rfl⟩) rfl (by kernel_rfl)
def la(t:Tpl)(r:Int):List Int:=t.rs.flatMap λx=>if(dD t r x.id).2=true then [x.id]else []
def J6(t:Tpl)(r:Int)(t0:Int×List Int):NF:=⟨[rI 1 r,rR 2 0,rV 5 1,rI 6 t0.1],[.box (Tpl.v t),vB 1 AV.int t0.2 (λ_=>rfl)]⟩
@[reducible] def Dk:Nat→Type
 | 0=>Int×List Int
 | _=>Unit
def Dm(r:List Int):AV:=.sl 1 (r.map AV.int) false
def Dj(t:Tpl)(r:Int)(I0:(Int×List Int)→Prop)(m0:(Int×List Int)→Nat):Ax Tryz.prog Dk ((List Int)):=
 (.cmdL (.nilT 5 1) (.loop 0 (J6 t r) I0 m0 (0,[]) [0,64] λ(t0:Int×List Int) b0 =>
(.br 82 (decide (t0.1<((t.rs.map Rtr.v).length:Int))) (.elI 162 Rtr.v t.rs t0.1 λx1 =>
(.callP (uk t r x1.id)
(.br 322 ((dD t r x1.id).2) (.elI 386 Rtr.v t.rs t0.1 λx2 =>
(.apX 450 AV.int t0.2 [x2.id] (t0.2.length+1)
(.bk 0 b0 (W (t0.1+1),t0.2++[x2.id]) [0,450])))
(.bk 0 b0 (W (t0.1+1),t0.2) [0,1]))))
(.fz 1 AV.int t0.2 (λ_=>rfl) (.ret (t0.2))))))
theorem O0(t:Tpl)(r:Int)(h:t.rs.length≤1000):∃I m,(Dj t r I m).vp Dm (la t r):=by
 refine⟨λs=>dV t.rs (λx=>if(dD t r x.id).2=true then [x.id]else []) s.1 s.2,λs=>t.rs.length-s.1.toNat,?_⟩;dsimp only[Dj,Dk,Ax.vp,Ax.vc];simp only[vcU,rfU,u'];refine⟨dV.zero,?_⟩;rintro⟨i,out⟩ g;simp only at g ⊢;have hl:=g.len (b:=1) λx _=>by split<;>simp
 refine⟨λc=>⟨g.idx,c,λx hx=>?_⟩,λc=>?_⟩
 ·refine⟨λe=>⟨g.idx,c,λy hy=>⟨by omega,?_⟩⟩,λe=>g.step (by omega) hx (by rw[E' (by rw[e];simp)];simp)⟩;rw[hx]at hy;cases hy;exact g.step (by omega) hx (by rw[F' e])
 ·exact g.done c
def O1(t:Tpl)(r:Int)(h:t.rs.length≤1000):PC Tryz.prog:=pcO 113 [(.a [(.s 2),(.s 5)]),.k] [Tpl.v t,.int r] (.s 1) Dm (la t r) (λ_=>let ⟨I0,m0,h⟩:=O0 t r h;⟨_,h,by kernel_rfl⟩) rfl (by kernel_rfl)
theorem cJ{t:Tpl}(h:aC t=0):t.rs.length≤24∧t.ls.length≤60:=by
 unfold aC at h
 by_cases c:24<t.rs.length∨60<t.ls.length
 ·rw[F' c]at h;cases h
 ·omega
def hs5(t:Tpl)(r:Int):Bool:=(aC t==0) && aJ t r
def MS(r:Bool):AV:=.bool r
def Ez(t:Tpl)(r:Int):Ax Tryz.prog noS (Bool):=
 (.callP (lw t)
(.br 96 ((aC t)==0) (.callP (nw t r)
(.ret (aJ t r)))
(.ret (false))))
theorem hs5_p(t:Tpl)(r:Int):(Ez t r).vp MS (hs5 t r):=by
 dsimp only[Ez,noS,Ax.vp,Ax.vc];simp only[vcU,rfU,u'];refine⟨λc=>?_,λc=>?_⟩<;>rw[hs5,c]<;>rfl
def MT(t:Tpl)(r:Int):PC Tryz.prog:=pcO 69 [(.a [(.s 2),(.s 5)]),.k] [Tpl.v t,.int r] .k MS (hs5 t r) (λ_=>⟨(Ez t r),hs5_p t r,by kernel_rfl⟩) rfl (by kernel_rfl)
def bV(t:Tpl)(f g:Int):Int×Bool:=if aC t≠0 then(0,false)else dD t f g
theorem MU(i j:Nat)(h:i≤j)(hj:j≤1000000):W ((IntKind.u64.wrap (W ((i:Int)+j))).fdiv 2)=(((i+j) / 2:Nat):Int):=by
 have e1:W ((i:Int)+j)=((i+j:Nat):Int):=eC ⟨by omega,by omega⟩;rw[e1];have e2:IntKind.u64.wrap ((i+j:Nat):Int)=((i+j:Nat):Int):=by simp[IntKind.wrap,IntKind.signed,IntKind.bits];omega
 rw[e2,show Int.fdiv ((i+j:Nat):Int) 2=(((i+j) / 2:Nat):Int) by rw[Int.fdiv_eq_ediv_of_nonneg _ (by omega)];rfl];exact eC ⟨by omega,by omega⟩
theorem mj(x y:Int):cmpI x y<0↔x<y:=by
 unfold cmpI;split
 ·simp_all
 ·split<;>simp_all
theorem kM(x y:Int):cmpI x y=0↔x=y:=by
 unfold cmpI;split
 ·simp;omega
 ·split
  ·simp;omega
  ·simp;omega
def bsI{α:Type}(lt:α→Bool)(l:List α):Nat→Nat→Nat→Nat
 | 0,i,_=>i
 | f+1,i,j=>if i<j then(match l[(i+j) / 2]? with
  | some x=>if lt x=true then bsI lt l f ((i+j) / 2+1) j else bsI lt l f i ((i+j) / 2)
  | none=>i)else i
theorem gK{α:Type}{lt:α→Bool}{l:List α}:∀{f g i j:Nat},j-i≤f→j-i≤g→bsI lt l f i j=bsI lt l g i j
 | 0,0,i,j,_,_=>rfl
 | 0,g+1,i,j,h,_=>by rw[bsI,bsI,E' (by omega)]
 | f+1,0,i,j,_,h=>by rw[bsI,bsI,E' (by omega)]
 | f+1,g+1,i,j,h,h'=>by
  rw[bsI,bsI]
  split
  ·split
   ·split
    ·exact gK (by omega) (by omega)
    ·exact gK (by omega) (by omega)
   ·rfl
  ·rfl
def bsP{α:Type}(lt:α→Bool)(l:List α):Nat:=bsI lt l l.length 0 l.length
def bsH{α:Type}(lt eq:α→Bool)(l:List α):Bool:=(l[bsP lt l]?).any eq
theorem kN{α:Type}{lt:α→Bool}{l:List α}(hm:∀(a b:Nat) x y,a<b→l[a]?=some x→l[b]?=some y→lt y=true→lt x=true):∀{f i j:Nat},j-i≤f→i≤j→j≤l.length →
  (∀k x,k<i→l[k]?=some x→lt x=true)→(∀k x,j≤k→l[k]?=some x→lt x=false)→(∀k x,k<bsI lt l f i j→l[k]?=some x→lt x=true)∧(∀k x,bsI lt l f i j≤k→l[k]?=some x→lt x=false)∧bsI lt l f i j≤l.length
 | 0,i,j,h,hij,hj,h1,h2=>by
  obtain rfl:i=j:=by omega
  rw[bsI];exact⟨h1,h2,hj⟩
 | f+1,i,j,h,hij,hj,h1,h2=>by
  rw[bsI]
  by_cases hlt:i<j
  ·have hx:=f' (show(i+j) / 2<l.length by omega);generalize l[(i+j) / 2]=x at hx;rw[F' hlt,hx]
   by_cases e:lt x=true
   ·simp only[e,if_true];refine kN hm (by omega) (by omega) hj (λk y hk hy=>?_) h2
    by_cases e':k=(i+j) / 2
    ·subst e';rw[hx]at hy;cases hy;exact e
    ·exact hm k _ y x (by omega) hy hx e
   ·simp only[e,if_false,aS'];refine kN hm (by omega) (by omega) (by omega) h1 (λk y hk hy=>?_)
    by_cases e':k=(i+j) / 2
    ·subst e';rw[hx]at hy;cases hy;simpa using e
    ·cases q:lt y
     ·rfl
     ·exact absurd (hm _ k x y (by omega) hx hy q) e
  ·obtain rfl:i=j:=by omega
   rw[E' hlt];exact⟨h1,h2,hj⟩
theorem zr{α:Type}{lt eq:α→Bool}{l:List α}(hm:∀(a b:Nat) x y,a<b→l[a]?=some x→l[b]?=some y→lt y=true→lt x=true)(he:∀x,eq x=true→lt x=false)
  (h2:∀(a b:Nat) x y,a<b→l[a]?=some x→l[b]?=some y→eq y=true→lt x=true):(bsH lt eq l=l.any eq)∧∀x∈l,eq x=true→l[bsP lt l]?=some x:=by
 obtain⟨s1,s2,s3⟩:=kN hm (f:=l.length) (i:=0) (j:=l.length) (by omega) (by omega) (X' _) (λk x hk=>by omega) (λk x hk hx=>by have:=am hx;omega);have key:∀x∈l,eq x=true→l[bsP lt l]?=some x:=λx hx e=>by
  obtain⟨k,hk⟩:=ac'.mp hx;have h3:bsP lt l≤k:=Nat.le_of_not_lt λh=>by
   have:=s1 k x h hk;rw[he x e]at this;cases this
  by_cases e':bsP lt l=k
  ·rw[e'];exact hk
  ·have hl:=am hk;have hy:=f' (show bsP lt l<l.length by omega);have a:=h2 _ k _ x (by omega) hy hk e;have b:=s2 _ _ (X' _) hy;rw[a]at b;cases b
 refine⟨?_,key⟩;rw[ag',aj',bsH]
 constructor
 ·intro h;cases q:l[bsP lt l]? with
  | none=>rw[q]at h;cases h
  | some x=>rw[q]at h;exact⟨x,J' q,h⟩
 ·rintro⟨x,hx,e⟩;rw[key x hx e];exact e
def inT(n a b:Int):Bool:=decide (a≤n) && decide (n≤b)
def MR(r:Bool):AV:=.bool r
def Ev(n:Int)(least:Int)(most:Int):Ax Tryz.prog noS (Bool):=
 (.br 80 (decide (least≤n)) (.ret (decide (n≤most)))
(.ret (false)))
theorem inT_p(n a b:Int):(Ev n a b).vp MR (inT n a b):=by
 dsimp only[Ev,noS,Ax.vp,Ax.vc];simp only[vcU,rfU,u'];unfold inT;exact⟨λh=>by simp[h],λh=>by simp[h]⟩
def oA(n:Int)(least:Int)(most:Int):PC Tryz.prog:=pcO 149 [.k,.k,.k] [.int n,.int least,.int most] .k MR (inT n least most) (λ_=>⟨(Ev n least most),inT_p n least most,by kernel_rfl⟩) rfl (by kernel_rfl)
def byI(r:Rtr)(id:Int):Int:=cmpI r.id id
def MV(r:Int):AV:=.int r
def GC(r:Rtr)(id:Int):Ax Tryz.prog noS (Int):=
 (.callP (we r.id id)
(.ret (cmpI r.id id)))
theorem byI_p(r:Rtr)(id:Int):(GC r id).vp MV (byI r id):=by
 dsimp only[GC,noS,Ax.vp,Ax.vc];simp only[vcU,rfU,u'];rfl
def MW(r:Rtr)(id:Int):PC Tryz.prog:=pcO 152 [.k,.k] [Rtr.v r,.int id] .k MV (byI r id) (λ_=>⟨(GC r id),byI_p r id,by kernel_rfl⟩) rfl (by kernel_rfl)
def ltR(r:Int)(x:Rtr):Bool:=decide (x.id<r)
def eqR(r:Int)(x:Rtr):Bool:=x.id==r
def pj(l:List Rtr)(r:Int):Nat:=bsP (ltR r) l
def lT(l:List Rtr)(r:Int):Bool:=bsH (ltR r) (eqR r) l
def Nb(x:List Rtr)(target:Int):=okL [.sl 2 (x.map Rtr.v) false,.int target,.func 152 []]
def Qn(x:List Rtr)(target:Int)(t0:Int×Int):NF:=⟨[(0,.k,.sl 2 (x.map Rtr.v) false),rI 1 target,(2,.k,.func 152 []),rI 8 ((x.map Rtr.v).length:Int),rI 9 t0.1,rI 10 t0.2],[]⟩
@[reducible] def MY:Nat→Type
 | 0=>Int×Int
 | _=>Unit
def MZ(r:Int×Bool):AV:=.tup [.int r.1,.bool r.2]
def MX(x:List Rtr)(target:Int)(I0:(Int×Int)→Prop)(m0:(Int×Int)→Nat):Ax Tryz.prog MY (Int×Bool):=
 (.loop 0 (Qn x target) I0 m0 (0,((x.map Rtr.v).length:Int)) [] λ(t0:Int×Int) b0 =>
(.br 48 (decide (t0.1<t0.2)) (.elI 208 Rtr.v x (W (Int.fdiv (IntKind.u64.wrap (W (t0.1+t0.2))) 2)) λx1 =>
(.callP (MW x1 target)
(.br 288 (decide ((byI x1 target)<0)) (.bk 0 b0 (W ((W (Int.fdiv (IntKind.u64.wrap (W (t0.1+t0.2))) 2))+1),t0.2) [])
(.bk 0 b0 (t0.1,W (Int.fdiv (IntKind.u64.wrap (W (t0.1+t0.2))) 2)) []))))
(.br 128 (decide (t0.1<((x.map Rtr.v).length:Int))) (.elI 176 Rtr.v x t0.1 λx2 =>
(.callP (MW x2 target)
(.ret (t0.1,(byI x2 target)==0))))
(.ret (t0.1,false)))))
theorem bsR_p(x:List Rtr)(r:Int)(hl:x.length≤1000000)(ok:Nb x r):∃I m,(MX x r I m).vp MZ ((pj x r:Int),lT x r):=by
  refine⟨λt=>∃i j:Nat,t=((i:Int),(j:Int))∧i≤j∧j≤x.length∧bsI (ltR r) x (j-i) i j=bsP (ltR r) x,λt=>(t.2-t.1).toNat,?_⟩;simp only[Nb,Rtr.v,okU,Blk.ok,az,u']at ok;dsimp only[MX,MY,Ax.vp,Ax.vc];simp only[vcU,rfU,u'];refine⟨⟨0,x.length,rfl,by omega,by omega,rfl⟩,?_⟩;rintro _ ⟨i,j,rfl,hij,hj,h1⟩
  refine⟨λh3=>?_,λh3=>?_⟩
  ·have h3:i<j:=by simpa using h3
   simp only[MU i j hij (by omega),Int.toNat_natCast];obtain⟨d,hd⟩:∃d,j-i=d+1:=⟨j-i-1,by omega⟩
   rw[hd,bsI,F' h3]at h1
   refine⟨by omega,by omega,λy hy=>⟨λe=>?_,λe=>?_⟩⟩
   ·rw[hy]at h1;simp only[show ltR r y=true from decide_eq_true ((mj _ _).mp e),if_true]at h1;rw[gK (g:=j-((i+j) / 2+1)) (by omega) (by omega)]at h1;rw[aQ (n:=x.length) (by omega) (by omega)];exact⟨⟨_,_,rfl,by omega,hj,h1⟩,by omega⟩
   ·rw[hy]at h1;simp only[show ltR r y=false from decide_eq_false (λq=>e ((mj _ _).mpr q)),if_false,aS']at h1;rw[gK (g:=(i+j) / 2-i) (by omega) (by omega)]at h1;exact⟨⟨_,_,rfl,by omega,by omega,h1⟩,by omega⟩
  ·have h3:i=j:=by simp at h3;omega
   subst h3;rw[ba',bsI]at h1;simp only[Int.toNat_natCast]
   refine⟨λh4=>⟨by omega,by omega,λy hy=>?_⟩,λh4=>?_⟩
   ·unfold pj lT bsH;rw[←h1,hy];refine congrArg _ ?_;show decide _=eqR r y;rw[ag',R'];simp[byI,kM,eqR]
   ·unfold pj lT bsH;rw[←h1,af' (by omega)];rfl
def Na(x:List Rtr)(target:Int)(hl:x.length≤1000000):PC Tryz.prog:=pcO 151 [(.s 2),.k,.k] [.sl 2 (x.map Rtr.v) false,.int target,.func 152 []] .k MZ ((pj x target:Int),lT x target) (λok=>let ⟨I0,m0,h⟩:=bsR_p x target hl ok;⟨_,h,by kernel_rfl⟩) rfl (by kernel_rfl)
def MO(vals:List Int):=okL [.sl 1 (vals.map AV.int) false]
def Ol(vals:List Int)(t0:Int):NF:=⟨[rI 3 0,(6,.k,.sl 1 (vals.map AV.int) false),rI 7 ((vals.map AV.int).length:Int),rI 8 t0],[]⟩
@[reducible] def MJ:Nat→Type
 | 0=>Int
 | _=>Unit
def MM(r:Int):AV:=.int r
def MI(vals:List Int)(I0:Int→Prop)(m0:Int→Nat):Ax Tryz.prog MJ (Int):=
 (.loop 0 (Ol vals) I0 m0 ((0):Int) [] λ(t0:Int) b0 =>
(.br 16 (decide (t0<((vals.map AV.int).length:Int))) (.elI 16 AV.int vals t0 λx1 =>
(.br 112 (x1 != 0) (.ret (x1))
(.bk 0 b0 ((W (t0+1)):Int) [])))
(.ret (0))))
theorem orN_p(vals:List Int)(ok:MO vals):∃I m,(MI vals I m).vp MM (orI vals):=by
 simp only[MO,okU,Blk.ok,az,u']at ok;refine⟨λt=>∃k:Nat,t=k∧k≤vals.length∧(vals.take k).all (·==0),λt=>vals.length-t.toNat,?_⟩;dsimp only[MI,MJ,Ax.vp,Ax.vc];simp only[vcU,rfU,u'];refine⟨⟨0,rfl,by omega,by simp⟩,?_⟩;rintro _ ⟨k,rfl,hk,h⟩
 refine⟨λh1=>⟨by omega,by omega,λx hx=>⟨λhn=>?_,λhn=>?_⟩⟩,λh1=>?_⟩
 ·rw[Int.toNat_natCast]at hx;rw[orI,Az h hx (by simpa using hn)];rfl
 ·rw[Int.toNat_natCast]at hx;have hlt:=am hx;rw[aQ (n:=vals.length) (by omega) (by omega)];refine⟨⟨k+1,rfl,by omega,?_⟩,by omega⟩;rw[aB hx,List.all_append,h];simpa using hn
 ·rw[V' (by omega)]at h
  rw[orI,bR'.mpr]
  ·rfl
  ·intro x hx;simpa using ay'.mp h x hx
def orN_c(vals:List Int):PC Tryz.prog:=pcO 181 [(.s 1)] [.sl 1 (vals.map AV.int) false] .k MM (orI vals) (λok=>let ⟨I0,m0,h⟩:=orN_p vals ok;⟨_,h,by kernel_rfl⟩) rfl (by kernel_rfl)
def qk(x y:Lnk):Int:=orI [cmpI x.a y.a,cmpI x.b y.b]
def FO(r:Int):AV:=.int r
def wb(a:Lnk)(b:Lnk):Ax Tryz.prog noS (Int):=
 (.callP (we a.a b.a)
(.callP (we a.b b.b)
(.callP (orN_c [cmpI a.a b.a,cmpI a.b b.b])
(.ret (orI [cmpI a.a b.a,cmpI a.b b.b])))))
theorem PQ(x y:Lnk):(wb x y).vp FO (qk x y):=by
 dsimp only[wb,noS,Ax.vp,Ax.vc];simp only[vcU,rfU,u'];rfl
def wc(a:Lnk)(b:Lnk):PC Tryz.prog:=pcO 157 [.k,.k] [Lnk.v a,Lnk.v b] .k FO (qk a b) (λ_=>⟨(wb a b),PQ a b,by kernel_rfl⟩) rfl (by kernel_rfl)
theorem sW(x y:Lnk):qk x y=if x.a=y.a then cmpI x.b y.b else cmpI x.a y.a:=by
 unfold qk orI
 by_cases e:x.a=y.a
 ·rw[F' e,(kM _ _).mpr e]
  by_cases e2:cmpI x.b y.b=0
  ·simp[e2]
  ·simp[e2]
 ·have:cmpI x.a y.a≠0:=λh=>e ((kM _ _).mp h);rw[E' e];simp[this]
theorem mi(x y:Lnk):qk x y<0↔bC x y:=by
 rw[sW];unfold bC
 split
 ·rw[mj];omega
 ·rw[mj];omega
theorem KZ(x y:Lnk):qk x y=0↔x.a=y.a∧x.b=y.b:=by
 rw[sW]
 split
 ·rw[kM];omega
 ·rw[kM];omega
def ld(y x:Lnk):Bool:=decide (bC x y)
def iS(y x:Lnk):Bool:=decide (x.a=y.a∧x.b=y.b)
def aV(l:List Lnk)(y:Lnk):Nat:=bsP (ld y) l
def cN(l:List Lnk)(y:Lnk):Bool:=bsH (ld y) (iS y) l
def Ni(x:List Lnk)(target:Lnk):=okL [.sl 5 (x.map Lnk.v) false,Lnk.v target,.func 157 []]
def Qo(x:List Lnk)(target:Lnk)(t0:Int×Int):NF:=⟨[(0,.k,.sl 5 (x.map Lnk.v) false),(2,.k,.func 157 []),rR 4 0,rI 8 ((x.map Lnk.v).length:Int),rI 9 t0.1,rI 10 t0.2],[.box (Lnk.v target)]⟩
@[reducible] def Nd:Nat→Type
 | 0=>Int×Int
 | _=>Unit
def Ng(r:Int×Bool):AV:=.tup [.int r.1,.bool r.2]
def Nc(x:List Lnk)(target:Lnk)(I0:(Int×Int)→Prop)(m0:(Int×Int)→Nat):Ax Tryz.prog Nd (Int×Bool):=
 (.loop 0 (Qo x target) I0 m0 (0,((x.map Lnk.v).length:Int)) [0] λ(t0:Int×Int) b0 =>
(.br 49 (decide (t0.1<t0.2)) (.elI 209 Lnk.v x (W (Int.fdiv (IntKind.u64.wrap (W (t0.1+t0.2))) 2)) λx1 =>
(.callP (wc x1 target)
(.br 289 (decide ((qk x1 target)<0)) (.bk 0 b0 (W ((W (Int.fdiv (IntKind.u64.wrap (W (t0.1+t0.2))) 2))+1),t0.2) [0])
(.bk 0 b0 (t0.1,W (Int.fdiv (IntKind.u64.wrap (W (t0.1+t0.2))) 2)) [0]))))
(.br 129 (decide (t0.1<((x.map Lnk.v).length:Int))) (.elI 177 Lnk.v x t0.1 λx2 =>
(.callP (wc x2 target)
(.ret (t0.1,(qk x2 target)==0))))
(.ret (t0.1,false)))))
theorem bsL_p(x:List Lnk)(r:Lnk)(hl:x.length≤1000000)(ok:Ni x r):∃I m,(Nc x r I m).vp Ng ((aV x r:Int),cN x r):=by
  refine⟨λt=>∃i j:Nat,t=((i:Int),(j:Int))∧i≤j∧j≤x.length∧bsI (ld r) x (j-i) i j=bsP (ld r) x,λt=>(t.2-t.1).toNat,?_⟩;simp only[Ni,Lnk.v,okU,Blk.ok,az,u']at ok;dsimp only[Nc,Nd,Ax.vp,Ax.vc];simp only[vcU,rfU,u'];refine⟨⟨0,x.length,rfl,by omega,by omega,rfl⟩,?_⟩;rintro _ ⟨i,j,rfl,hij,hj,h1⟩
  refine⟨λh3=>?_,λh3=>?_⟩
  ·have h3:i<j:=by simpa using h3
   simp only[MU i j hij (by omega),Int.toNat_natCast];obtain⟨d,hd⟩:∃d,j-i=d+1:=⟨j-i-1,by omega⟩
   rw[hd,bsI,F' h3]at h1
   refine⟨by omega,by omega,λy hy=>⟨λe=>?_,λe=>?_⟩⟩
   ·rw[hy]at h1;simp only[show ld r y=true from decide_eq_true ((mi _ _).mp e),if_true]at h1;rw[gK (g:=j-((i+j) / 2+1)) (by omega) (by omega)]at h1;rw[aQ (n:=x.length) (by omega) (by omega)];exact⟨⟨_,_,rfl,by omega,hj,h1⟩,by omega⟩
   ·rw[hy]at h1;simp only[show ld r y=false from decide_eq_false (λq=>e ((mi _ _).mpr q)),if_false,aS']at h1;rw[gK (g:=(i+j) / 2-i) (by omega) (by omega)]at h1;exact⟨⟨_,_,rfl,by omega,by omega,h1⟩,by omega⟩
  ·have h3:i=j:=by simp at h3;omega
   subst h3;rw[ba',bsI]at h1;simp only[Int.toNat_natCast]
   refine⟨λh4=>⟨by omega,by omega,λy hy=>?_⟩,λh4=>?_⟩
   ·unfold aV cN bsH;rw[←h1,hy];refine congrArg _ ?_;show decide _=iS r y;rw[ag',R'];simp[KZ,iS]
   ·unfold aV cN bsH;rw[←h1,af' (by omega)];rfl
def Nh(x:List Lnk)(target:Lnk)(hl:x.length≤1000000):PC Tryz.prog:=pcO 162 [(.s 5),.k,.k] [.sl 5 (x.map Lnk.v) false,Lnk.v target,.func 157 []] .k Ng ((aV x target:Int),cN x target) (λok=>let ⟨I0,m0,h⟩:=bsL_p x target hl ok;⟨_,h,by kernel_rfl⟩) rfl (by kernel_rfl)
def kc(r:Rtr):Bool:=!inT r.id 1 99
def Cd(r:Bool):AV:=.bool r
def ud(r:Rtr):Ax Tryz.prog noS (Bool):=
 (.callP (oA r.id 1 99)
(.ret (!(inT r.id 1 99))))
theorem NP(r:Rtr):(ud r).vp Cd (kc r):=by
 dsimp only[ud,noS,Ax.vp,Ax.vc];simp only[vcU,rfU,u'];rfl
def NQ(r:Rtr):PC Tryz.prog:=pcO 148 [.k] [Rtr.v r] .k Cd (kc r) (λ_=>⟨(ud r),NP r,by kernel_rfl⟩) rfl (by kernel_rfl)
def kK(l:Lnk):Bool:=!inT l.ca 1 1000 || (!inT l.cb 1 1000 || !inT l.w 0 1000)
def F6(r:Bool):AV:=.bool r
def vR(l:Lnk):Ax Tryz.prog noS (Bool):=
 (.callP (oA l.ca 1 1000)
(.br 112 (!(inT l.ca 1 1000)) (.ret (true))
(.callP (oA l.cb 1 1000)
(.br 208 (!(inT l.cb 1 1000)) (.ret (true))
(.callP (oA l.w 0 1000)
(.ret (!(inT l.w 0 1000))))))))
theorem PG(l:Lnk):(vR l).vp F6 (kK l):=by
 dsimp only[vR,noS,Ax.vp,Ax.vc];simp only[vcU,rfU,u'];unfold kK;exact⟨λh=>by rw[h];rfl,λh=>⟨λh2=>by rw[h,h2];rfl,λh2=>by rw[h,h2];rfl⟩⟩
def PH(l:Lnk):PC Tryz.prog:=pcO 154 [.k] [Lnk.v l] .k F6 (kK l) (λ_=>⟨(vR l),PG l,by kernel_rfl⟩) rfl (by kernel_rfl)
def l7(l:Lnk):Bool:=decide (l.b≤l.a)
def H6(r:Bool):AV:=.bool r
def w6(l:Lnk):Ax Tryz.prog noS (Bool):=
 (.ret (decide (l.b≤l.a)))
theorem QB(l:Lnk):(w6 l).vp H6 (l7 l):=by
 dsimp only[w6,noS,Ax.vp,Ax.vc];simp only[vcU,rfU,u'];rfl
def QC(l:Lnk):PC Tryz.prog:=pcO 156 [.k] [Lnk.v l] .k H6 (l7 l) (λ_=>⟨(w6 l),QB l,by kernel_rfl⟩) rfl (by kernel_rfl)
def tJ(id:Int)(t:Tpl):Bool:=!lT t.rs id
def Bt(r:Bool):AV:=.bool r
def tH(id:Int)(t:Tpl):Ax Tryz.prog noS (Bool):=
 (.req 64 (t.rs.length≤1000000) λh1 =>
(.callP (Na t.rs id h1)
(.ret (!(lT t.rs id)))))
theorem Nz(id:Int)(t:Tpl)(hl:t.rs.length≤1000000):(tH id t).vp Bt (tJ id t):=by
 dsimp only[tH,noS,Ax.vp,Ax.vc];simp only[vcU,rfU,u'];exact⟨hl,rfl⟩
def Bu(id:Int)(t:Tpl)(hl:t.rs.length≤1000000):PC Tryz.prog:=pcO 150 [.k,.k] [.int id,.rptr (Tpl.v t) 0] .k Bt (tJ id t) (λ_=>⟨(tH id t),Nz id t hl,by kernel_rfl⟩) rfl (by kernel_rfl)
def iq(l:Lnk)(t:Tpl):Bool:=tJ l.a t || tJ l.b t
def Br(r:Bool):AV:=.bool r
def tG(l:Lnk)(t:Tpl):Ax Tryz.prog noS (Bool):=
 (.req 80 (t.rs.length≤1000000) λh1 =>
(.callP (Bu l.a t h1)
(.br 112 (tJ l.a t) (.ret (true))
(.req 160 (t.rs.length≤1000000) λh2 =>
(.callP (Bu l.b t h2)
(.ret (tJ l.b t)))))))
theorem Nx(l:Lnk)(t:Tpl)(hl:t.rs.length≤1000000):(tG l t).vp Br (iq l t):=by
 dsimp only[tG,noS,Ax.vp,Ax.vc];simp only[vcU,rfU,u'];exact⟨hl,λh=>by unfold iq;rw[h];rfl,λh=>⟨hl,by unfold iq;rw[h];rfl⟩⟩
def Ny(l:Lnk)(t:Tpl)(hl:t.rs.length≤1000000):PC Tryz.prog:=pcO 155 [.k,.k] [Lnk.v l,.rptr (.func 150 [.rptr (Tpl.v t) 0]) 0] .k Br (iq l t) (λ_=>⟨(tG l t),Nx l t hl,by kernel_rfl⟩) rfl (by kernel_rfl)
def xA(s:List Rtr):=okL [.sl 2 (s.map Rtr.v) false,.func 148 []]
def Ce(s:List Rtr)(t0:Int):NF:=⟨[(0,.k,.sl 2 (s.map Rtr.v) false),(1,.k,.func 148 []),rI 7 ((s.map Rtr.v).length:Int),rI 8 t0],[]⟩
@[reducible] def xy:Nat→Type
 | 0=>Int
 | _=>Unit
def xz(r:Int):AV:=.int r
def xx(s:List Rtr)(I0:Int→Prop)(m0:Int→Nat):Ax Tryz.prog xy (Int):=
 (.loop 0 (Ce s) I0 m0 ((0):Int) [] λ(t0:Int) b0 =>
(.br 16 (decide (t0<((s.map Rtr.v).length:Int))) (.elI 96 Rtr.v s t0 λx1 =>
(.callP (NQ x1)
(.br 144 (kc x1) (.ret (t0))
(.bk 0 b0 ((W (t0+1)):Int) []))))
(.ret (-1))))
theorem IG(s:List Rtr)(ok:xA s):∃I m,(xx s I m).vp xz (cE kc s):=by
  refine⟨λt=>aM s (λy=>kc y=false) t,λt=>s.length-t.toNat,?_⟩;simp only[xA,Rtr.v,okU,Blk.ok,az,u']at ok;dsimp only[xx,xy,Ax.vp,Ax.vc];simp only[vcU,rfU,u'];exact⟨aM.zero,λt h=>⟨λc=>⟨h.idx,c,λx hx=>⟨λq=>h.found hx q,λq=>h.step (by omega) hx q⟩⟩,λc=>h.lost c⟩⟩
def IH(s:List Rtr):PC Tryz.prog:=pcO 160 [(.s 2),.k] [.sl 2 (s.map Rtr.v) false,.func 148 []] .k xz (cE kc s) (λok=>let ⟨I0,m0,h⟩:=IG s ok;⟨_,h,by kernel_rfl⟩) rfl (by kernel_rfl)
def xB(r:Bool):AV:=.bool r
def pc(s:List Rtr):Ax Tryz.prog noS (Bool):=
 (.callP (IH s)
(.ret (decide (0≤(cE kc s)))))
theorem II(s:List Rtr):(pc s).vp xB (s.any kc):=by
 dsimp only[pc,noS,Ax.vp,Ax.vc];simp only[vcU,rfU,u'];exact dN _ _
def IJ(s:List Rtr):PC Tryz.prog:=pcO 117 [(.s 2),.k] [.sl 2 (s.map Rtr.v) false,.func 148 []] .k xB (s.any kc) (λ_=>⟨(pc s),II s,by kernel_rfl⟩) rfl (by kernel_rfl)
def yZ(s:List Lnk):=okL [.sl 5 (s.map Lnk.v) false,.func 154 []]
def F7(s:List Lnk)(t0:Int):NF:=⟨[(0,.k,.sl 5 (s.map Lnk.v) false),(1,.k,.func 154 []),rI 7 ((s.map Lnk.v).length:Int),rI 8 t0],[]⟩
@[reducible] def yX:Nat→Type
 | 0=>Int
 | _=>Unit
def yY(r:Int):AV:=.int r
def yW(s:List Lnk)(I0:Int→Prop)(m0:Int→Nat):Ax Tryz.prog yX (Int):=
 (.loop 0 (F7 s) I0 m0 ((0):Int) [] λ(t0:Int) b0 =>
(.br 16 (decide (t0<((s.map Lnk.v).length:Int))) (.elI 96 Lnk.v s t0 λx1 =>
(.callP (PH x1)
(.br 144 (kK x1) (.ret (t0))
(.bk 0 b0 ((W (t0+1)):Int) []))))
(.ret (-1))))
theorem KM(s:List Lnk)(ok:yZ s):∃I m,(yW s I m).vp yY (cE kK s):=by
  refine⟨λt=>aM s (λy=>kK y=false) t,λt=>s.length-t.toNat,?_⟩;simp only[yZ,Lnk.v,okU,Blk.ok,az,u']at ok;dsimp only[yW,yX,Ax.vp,Ax.vc];simp only[vcU,rfU,u'];exact⟨aM.zero,λt h=>⟨λc=>⟨h.idx,c,λx hx=>⟨λq=>h.found hx q,λq=>h.step (by omega) hx q⟩⟩,λc=>h.lost c⟩⟩
def KN(s:List Lnk):PC Tryz.prog:=pcO 180 [(.s 5),.k] [.sl 5 (s.map Lnk.v) false,.func 154 []] .k yY (cE kK s) (λok=>let ⟨I0,m0,h⟩:=KM s ok;⟨_,h,by kernel_rfl⟩) rfl (by kernel_rfl)
def za(r:Bool):AV:=.bool r
def qf(s:List Lnk):Ax Tryz.prog noS (Bool):=
 (.callP (KN s)
(.ret (decide (0≤(cE kK s)))))
theorem KP(s:List Lnk):(qf s).vp za (s.any kK):=by
 dsimp only[qf,noS,Ax.vp,Ax.vc];simp only[vcU,rfU,u'];exact dN _ _
def KQ(s:List Lnk):PC Tryz.prog:=pcO 153 [(.s 5),.k] [.sl 5 (s.map Lnk.v) false,.func 154 []] .k za (s.any kK) (λ_=>⟨(qf s),KP s,by kernel_rfl⟩) rfl (by kernel_rfl)
def zG(s:List Lnk):=okL [.sl 5 (s.map Lnk.v) false,.func 156 []]
def H7(s:List Lnk)(t0:Int):NF:=⟨[(0,.k,.sl 5 (s.map Lnk.v) false),(1,.k,.func 156 []),rI 7 ((s.map Lnk.v).length:Int),rI 8 t0],[]⟩
@[reducible] def zD:Nat→Type
 | 0=>Int
 | _=>Unit
def zF(r:Int):AV:=.int r
def zC(s:List Lnk)(I0:Int→Prop)(m0:Int→Nat):Ax Tryz.prog zD (Int):=
 (.loop 0 (H7 s) I0 m0 ((0):Int) [] λ(t0:Int) b0 =>
(.br 16 (decide (t0<((s.map Lnk.v).length:Int))) (.elI 96 Lnk.v s t0 λx1 =>
(.callP (QC x1)
(.br 144 (l7 x1) (.ret (t0))
(.bk 0 b0 ((W (t0+1)):Int) []))))
(.ret (-1))))
theorem M3(s:List Lnk)(ok:zG s):∃I m,(zC s I m).vp zF (cE l7 s):=by
  refine⟨λt=>aM s (λy=>l7 y=false) t,λt=>s.length-t.toNat,?_⟩;simp only[zG,Lnk.v,okU,Blk.ok,az,u']at ok;dsimp only[zC,zD,Ax.vp,Ax.vc];simp only[vcU,rfU,u'];exact⟨aM.zero,λt h=>⟨λc=>⟨h.idx,c,λx hx=>⟨λq=>h.found hx q,λq=>h.step (by omega) hx q⟩⟩,λc=>h.lost c⟩⟩
def M4(s:List Lnk):PC Tryz.prog:=pcO 180 [(.s 5),.k] [.sl 5 (s.map Lnk.v) false,.func 156 []] .k zF (cE l7 s) (λok=>let ⟨I0,m0,h⟩:=M3 s ok;⟨_,h,by kernel_rfl⟩) rfl (by kernel_rfl)
def zH(r:Bool):AV:=.bool r
def qv(s:List Lnk):Ax Tryz.prog noS (Bool):=
 (.callP (M4 s)
(.ret (decide (0≤(cE l7 s)))))
theorem M5(s:List Lnk):(qv s).vp zH (s.any l7):=by
 dsimp only[qv,noS,Ax.vp,Ax.vc];simp only[vcU,rfU,u'];exact dN _ _
def M6(s:List Lnk):PC Tryz.prog:=pcO 153 [(.s 5),.k] [.sl 5 (s.map Lnk.v) false,.func 156 []] .k zH (s.any l7) (λ_=>⟨(qv s),M5 s,by kernel_rfl⟩) rfl (by kernel_rfl)
def wP(s:List Lnk)(f:Tpl):=okL [.sl 5 (s.map Lnk.v) false,.func 155 [.rptr (.func 150 [.rptr (Tpl.v f) 0]) 0]]
def Bs(s:List Lnk)(f:Tpl)(t0:Int):NF:=⟨[(0,.k,.sl 5 (s.map Lnk.v) false),(1,.k,.func 155 [.rptr (.func 150 [.rptr (Tpl.v f) 0]) 0]),rI 7 ((s.map Lnk.v).length:Int),rI 8 t0],[]⟩
@[reducible] def wN:Nat→Type
 | 0=>Int
 | _=>Unit
def wO(r:Int):AV:=.int r
def wM(s:List Lnk)(f:Tpl)(I0:Int→Prop)(m0:Int→Nat):Ax Tryz.prog wN (Int):=
 (.loop 0 (Bs s f) I0 m0 ((0):Int) [] λ(t0:Int) b0 =>
(.br 16 (decide (t0<((s.map Lnk.v).length:Int))) (.elI 96 Lnk.v s t0 λx1 =>
(.req 128 (f.rs.length≤1000000) λh2 =>
(.callP (Ny x1 f h2)
(.br 144 (iq x1 f) (.ret (t0))
(.bk 0 b0 ((W (t0+1)):Int) [])))))
(.ret (-1))))
theorem HS(s:List Lnk)(t:Tpl)(hl:t.rs.length≤1000000)(ok:wP s t):∃I m,(wM s t I m).vp wO (cE (λy=>iq y t) s):=by
 refine⟨λi=>aM s (λy=>iq y t=false) i,λi=>s.length-i.toNat,?_⟩;simp only[wP,Lnk.v,Tpl.v,okU,Blk.ok,az,u']at ok;dsimp only[wM,wN,Ax.vp,Ax.vc];simp only[vcU,rfU,u'];exact⟨aM.zero,λi h=>⟨λc=>⟨h.idx,c,λx hx=>⟨hl,λq=>h.found hx q,λq=>h.step (by omega) hx q⟩⟩,λc=>h.lost c⟩⟩
def HT(s:List Lnk)(f:Tpl)(hl:f.rs.length≤1000000):PC Tryz.prog:=pcO 180 [(.s 5),.k] [.sl 5 (s.map Lnk.v) false,.func 155 [.rptr (.func 150 [.rptr (Tpl.v f) 0]) 0]] .k wO (cE (λy=>iq y f) s) (λok=>let ⟨I0,m0,h⟩:=HS s f hl ok;⟨_,h,by kernel_rfl⟩) rfl (by kernel_rfl)
def wQ(r:Bool):AV:=.bool r
def oU(s:List Lnk)(f:Tpl):Ax Tryz.prog noS (Bool):=
 (.req 48 (f.rs.length≤1000000) λh1 =>
(.callP (HT s f h1)
(.ret (decide (0≤(cE (λy=>iq y f) s))))))
theorem HU(s:List Lnk)(t:Tpl)(hl:t.rs.length≤1000000):(oU s t).vp wQ (s.any λy=>iq y t):=by
 dsimp only[oU,noS,Ax.vp,Ax.vc];simp only[vcU,rfU,u'];exact⟨hl,dN _ _⟩
def wR(s:List Lnk)(f:Tpl)(hl:f.rs.length≤1000000):PC Tryz.prog:=pcO 153 [(.s 5),.k] [.sl 5 (s.map Lnk.v) false,.func 155 [.rptr (.func 150 [.rptr (Tpl.v f) 0]) 0]] .k wQ (s.any λy=>iq y f) (λ_=>⟨(oU s f),HU s f hl,by kernel_rfl⟩) rfl (by kernel_rfl)
theorem dZ{α:Type}{l:List α}(hn:l.Nodup){i j:Nat}{x:α}(a:l[i]?=some x)(b:l[j]?=some x):i=j:=by
 have hi:=(P'.mp a).1;have hj:=(P'.mp b).1;rw[f' hi]at a;rw[f' hj]at b;exact(List.getElem_inj (h₀:=hi) (h₁:=hj) hn).mp (by rw[Z' a,Z' b])
section
variable {α β : Type} [DecidableEq α] {l : List (α × β)} {x y : α} {v z : β} {p : α × β}
theorem aP:x∈ap l↔∃v,(x,v)∈l:=by
 unfold ap;rw[aa'];exact⟨λ⟨p,h,e⟩=>⟨p.2,by rw[←e];exact h⟩,λ⟨v,h⟩=>⟨_,h,rfl⟩⟩
theorem bW:aT l x=true↔∃v,(x,v)∈l:=by
 unfold aT;rw[R',aP]
theorem gt(h:(ap l).Nodup){v w:β}(h1:(x,v)∈l)(h2:(x,w)∈l):v=w:=by
 obtain⟨i,hi⟩:=ac'.mp h1;obtain⟨j,hj⟩:=ac'.mp h2;have a:(ap l)[i]?=some x:=by rw[ap,I',hi];rfl
 have b:(ap l)[j]?=some x:=by rw[ap,I',hj];rfl
 have g:=dZ h a b;subst g;rw[hi]at hj;exact congrArg Prod.snd (Z' hj)
theorem kw(h:x∈ap l):∃v,l[ew l x]?=some (x,v):=by
 have e:l[ew l x]?=some (l[ew l x]'(f8 h)):=f' (f8 h);refine⟨(l[ew l x]'(f8 h)).2,?_⟩;rw[e];have:=rH h;exact congrArg some (Prod.ext this rfl)
theorem bF(h:aT l x=true):(x,av l x z)∈l:=by
 obtain⟨v,e⟩:=kw (G' h);unfold av;rw[e];exact be e
theorem d8(hn:(ap l).Nodup)(h:(x,v)∈l):av l x z=v:=
 gt hn (bF (bW.mpr ⟨v,h⟩)) h
theorem cd(h:aT l x=false):av l x z=z:=by
 have h:x ∉ ap l:=S' h;unfold av;rw[ma h,af' (X' _)]
theorem yh:aT l x=false↔∀v,(x,v) ∉ l:=by
 rw[←Bool.not_eq_true,bW];exact⟨λh v hv=>h ⟨v,hv⟩,λh ⟨v,hv⟩=>h v hv⟩
theorem Ah:ap (ba l x v)=if x∈ap l then ap l else ap l++[x]:=by
 unfold ba
 by_cases h:x∈ap l
 ·rw[F' h,F' h];unfold ap at h ⊢;rw[bz'];obtain⟨v',e⟩:=kw h;refine aJ' λi=>?_;rw[ak']
  split
  ·rename_i g;subst g;rw[F' (by rw[u'];exact am e),I',e];rfl
  ·rfl
 ·rw[E' h,E' h];simp[ap]
theorem dv(hn:(ap l).Nodup):(ap (ba l x v)).Nodup:=by
 rw[Ah]
 split
 ·exact hn
 ·rename_i h;exact bg'.mpr ⟨hn,by simp,λa ha b hb=>by rw[L'.mp hb];rintro rfl;exact h ha⟩
theorem bM(hn:(ap l).Nodup):p∈ba l x v↔p=(x,v)∨(p∈l∧p.1≠x):=by
 unfold ba
 by_cases h:x∈ap l
 ·rw[F' h];obtain⟨v',e⟩:=kw h
  constructor
  ·intro hp;obtain⟨i,hi⟩:=ac'.mp hp;rw[ak']at hi
   split at hi
   ·split at hi
    ·exact .inl (Z' hi).symm
    ·cases hi
   ·rename_i g;refine .inr ⟨be hi,?_⟩;rintro rfl;have a:(ap l)[i]?=some p.1:=by rw[ap,I',hi];rfl
    have b:(ap l)[ew l p.1]?=some p.1:=by rw[ap,I',e];rfl
    exact g (dZ hn a b).symm
  ·rintro(rfl|⟨hp,hne⟩)
   ·exact be (i:=ew l x) (by rw[ak',F' rfl,F' (am e)])
   ·obtain⟨i,hi⟩:=ac'.mp hp;refine be (i:=i) ?_
    rw[ak',E']
    ·exact hi
    ·rintro rfl;rw[e]at hi;exact hne (congrArg Prod.fst (Z' hi)).symm
 ·rw[E' h,ab',L']
  constructor
  ·rintro(hp|hp)
   ·exact .inr ⟨hp,λe=>h (aP.mpr ⟨p.2,by rw[←e];exact hp⟩)⟩
   ·exact .inl hp
  ·rintro(hp|⟨hp,_⟩)
   ·exact .inr hp
   ·exact .inl hp
theorem p8(hn:(ap l).Nodup):p∈mdl l x↔p∈l∧p.1≠x:=by
 unfold mdl
 by_cases h:x∈ap l
 ·obtain⟨v',e⟩:=kw h;rw[List.mem_eraseIdx_iff_getElem?]
  constructor
  ·rintro⟨i,hne,hi⟩;refine⟨be hi,?_⟩;rintro rfl;have a:(ap l)[i]?=some p.1:=by rw[ap,I',hi];rfl
   have b:(ap l)[ew l p.1]?=some p.1:=by rw[ap,I',e];rfl
   exact hne (dZ hn a b)
  ·rintro⟨hp,hne⟩;obtain⟨i,hi⟩:=ac'.mp hp;refine⟨i,?_,hi⟩;rintro rfl;rw[e]at hi;exact hne (congrArg Prod.fst (Z' hi)).symm
 ·rw[ma h,cn' (X' _)];exact⟨λhp=>⟨hp,λe=>h (aP.mpr ⟨p.2,by rw[←e];exact hp⟩)⟩,λhp=>hp.1⟩
theorem Ai(hn:(ap l).Nodup):(ap (mdl l x)).Nodup:=by
 unfold mdl ap;rw[bP];exact hn.sublist (List.eraseIdx_sublist _ _)
theorem rJ(hn:(ap l).Nodup):aT (ba l x v) y=(decide (y=x) || aT l y):=by
 rw[ag',bi',R',bW,bW]
 constructor
 ·rintro⟨w,h⟩
  rcases(bM hn).mp h with h|⟨h,_⟩
  ·cases h;exact .inl rfl
  ·exact .inr ⟨w,h⟩
 ·rintro(rfl|⟨w,h⟩)
  ·exact⟨v,(bM hn).mpr (.inl rfl)⟩
  ·by_cases e:y=x
   ·subst e;exact⟨v,(bM hn).mpr (.inl rfl)⟩
   ·exact⟨w,(bM hn).mpr (.inr ⟨h,e⟩)⟩
theorem Ds:(ba l x v).length=if aT l x=true then l.length else l.length+1:=by
 unfold ba aT
 by_cases h:x∈ap l
 ·rw[F' h,decide_eq_true h,F' rfl,aX']
 ·rw[E' h,decide_eq_false h];simp
end
structure Stp where
  to:Int
  cost:Int
def Stp.v(x:Stp):AV:=.agg [.int x.to,.int x.cost]
abbrev Lks:=List (Int×List Stp)
abbrev Dis:=List (Int×Int)
def bfr(x b:Int×Int):Prop:=x.2<b.2∨x.2=b.2∧x.1<b.1
instance (x b:Int×Int):Decidable (bfr x b):=by unfold bfr;infer_instance
def LN:Dis→Option (Int×Int)
 | []=>none
 | x::l=>match LN l with
  | none=>some x
  | some b=>if bfr x b then some x else some b
def bst(l:Dis):Int:=match LN l with
 | none=>0
 | some b=>b.1
theorem l5:∀{l:Dis},l≠[]→∃b,LN l=some b∧b∈l∧∀x∈l,¬bfr x b
 | [],h=>absurd rfl h
 | [x],_=>⟨x,rfl,by simp,by simp[bfr]⟩
 | x::y::l,_=>by
  obtain⟨b,h1,h2,h3⟩:=l5 (l:=y::l) (by simp);rw[LN,h1];simp only
  split
  ·rename_i h;refine⟨x,rfl,by simp,λz hz=>?_⟩
   rcases ah'.mp hz with rfl|hz
   ·simp[bfr]
   ·have:=h3 z hz;unfold bfr at *;omega
  ·rename_i h;refine⟨b,rfl,by simp[h2],λz hz=>?_⟩
   rcases ah'.mp hz with rfl|hz
   ·exact h
   ·exact h3 z hz
theorem Qm{l:Dis}{b:Int×Int}(h:b∈l)(hb:∀x∈l,¬bfr x b):bst l=b.1:=by
 obtain⟨c,h1,h2,h3⟩:=l5 (l:=l) (by rintro rfl;simp at h);have e1:=hb c h2;have e2:=h3 b h;unfold bst;rw[h1];simp only;unfold bfr at e1 e2;omega
theorem bj{kk:Option Nat}{z:AV}{ok:Bool}{m k:AO}{f:Nat}{ρ:AO→AV}{hp:Hp}:evA (.mget kk z ok m k) f ρ hp=match dF hp (ρ m),(ρ k).key with
    | some (kk',ks,vs),some q=>{ c:=kk'=kk∧q.fits kk,v:=cR ks vs q z ok }
    | _,_=>.bad:=rfl
def Fi:AC:=.seq (.reg [⟨(some 35),.move (.t 8),none⟩,⟨(some 36),.rng (.t 35),none⟩])
 (.block 2 (.loop (.seq (.reg [⟨(some 37),.nxt (.t 36),none⟩,⟨(some 38),.ext 0 (.t 37),none⟩])
 (.seq (.cond (.t 38) (.skip) (.exit 2))
 (.block 3 (.seq (.reg [⟨(some 39),.ent (.t 36),none⟩,⟨(some 40),.ext 0 (.t 39),none⟩,⟨(some 41),.ext 1 (.t 39),none⟩,⟨(some 10),.move (.t 40),none⟩,⟨(some 11),.move (.t 41),none⟩])
 (.seq (.reg [⟨(some 42),.move (.t 9),none⟩,⟨(some 43),.bin .eql (.t 42) (.c (.val (.int .i64 0))),none⟩,⟨(some 44),.move (.t 43),none⟩,⟨(some 45),.move (.t 11),(some (44,false))⟩,⟨(some 46),.move (.t 8),(some (44,false))⟩,⟨(some 47),.move (.t 9),(some (44,false))⟩,⟨(some 48),.mget none ((.val (.int .i64 0))) false (.t 46) (.t 47),(some (44,false))⟩,⟨(some 49),.bin .lss (.t 45) (.t 48),(some (44,false))⟩,⟨(some 50),.pick (.t 44) (.c (.val (.bool true))) (.t 49),none⟩,⟨(some 51),.move (.t 50),none⟩,⟨(some 52),.move (.t 11),(some (51,false))⟩,⟨(some 53),.move (.t 8),(some (51,false))⟩,⟨(some 54),.move (.t 9),(some (51,false))⟩,⟨(some 55),.mget none ((.val (.int .i64 0))) false (.t 53) (.t 54),(some (51,false))⟩,⟨(some 56),.bin .eql (.t 52) (.t 55),(some (51,false))⟩,⟨(some 57),.move (.t 56),(some (51,false))⟩,⟨(some 58),.move (.t 10),(some (57,true))⟩,⟨(some 59),.move (.t 9),(some (57,true))⟩,⟨(some 60),.bin .lss (.t 58) (.t 59),(some (57,true))⟩,⟨(some 61),.pick (.t 57) (.t 60) (.c (.val (.bool false))),(some (51,false))⟩,⟨(some 62),.pick (.t 51) (.c (.val (.bool true))) (.t 61),none⟩])
 (.cond (.t 62) (.reg [⟨(some 63),.move (.t 10),none⟩,⟨(some 9),.move (.t 63),none⟩]) (.skip)))))))))
abbrev iO(L:Lks):AV:=.mp none (L.map λp=>MK.n p.1) (L.map λp=>(λl=>AV.sl 2 (l.map Stp.v) false) p.2)
abbrev qd(l:Dis):Blk:=.map none (l.map λp=>MK.n p.1) (l.map λp=>AV.int p.2)
def yM(L:Lks)(o l:Dis)(b:Int):NF:=
  ⟨[(0,.k,iO L),(5,.k,.mref 0),(8,.k,.mref 1),(9,.k,.int b)],
   [.map none (o.map λp=>MK.n p.1) (o.map λp=>AV.int p.2) (ae (λ_=>rfl) _),.map none (l.map λp=>MK.n p.1) (l.map λp=>AV.int p.2) (ae (λ_=>rfl) _)]⟩
def Py(L:Lks)(o l:Dis)(st:List Nat)(ck:Nat)(seen:List Nat)(b:Int):S3:=
 ⟨cD [(0,iO L),(5,.mref 0),(8,.mref 1),(9,.int b),(36,.ref 2 0)],hpL 0 [some (qd o),some (.mst none (l.map λp=>MK.n p.1) (l.map λp=>AV.int p.2) st ck),some (.itr 1 st ck seen)],3⟩
def LM(l:Dis)(st seen:List Nat)(b:Int):Prop:=(seen=[]∧b=0)∨∃(i:Nat) (x:Int×Int) (s:Nat),l[i]?=some x∧st[i]?=some s∧s∈seen∧b=x.1∧∀(j:Nat) (y:Int×Int) (s:Nat),l[j]?=some y→st[j]?=some s→s∈seen→¬bfr y x
def CZ(l:Dis):Prop:=∀x∈l,x.1≠0∧-9223372036854775808≤x.1∧x.1≤9223372036854775807
theorem dst_h(L:Lks)(o l:Dis)(hl:CZ l)(k:Nat):dI Tryz.prog 0 k Fi (yM L o l 0).st (yM L o l (bst l)).st:=by
 unfold dI Fi;show AWP _ 0 k _ _ ⟨cD [(0,iO L),(5,.mref 0),(8,.mref 1),(9,.int 0)],hpL 0 [some (qd o),some (qd l)],2⟩;refine AWP.open 1 rfl λst ck hs1 hs2 hn hv=>?_;refine AWP.seq' ?_;refine AWP.reg' λK hK=>?_
 try simp only[ag,seval]
 refine pR rfl rfl ?_
 try simp only[ag,seval]
 refine hK _ _ _ ?_;clear hK K;refine AWP.block ?_;have hvl:aD (l.map λp=>AV.int p.2):=au (ae (v:=λp:Int×Int=>AV.int p.2) (λ_=>rfl) l);have hvo:aD (o.map λp=>AV.int p.2):=au (ae (v:=λp:Int×Int=>AV.int p.2) (λ_=>rfl) o);have rm:∀(π:Nat→Nat) (o:Dis),some (qd o)=some (Blk.ren π (qd o)):=λπ o=>by
  rw[Blk.ren,aK _ (au (ae (v:=λp:Int×Int=>AV.int p.2) (λ_=>rfl) o))]
 have rs:∀(π:Nat→Nat),some (Blk.mst none (l.map λp=>MK.n p.1) (l.map λp=>AV.int p.2) st ck)=some (Blk.ren π (.mst none (l.map λp=>MK.n p.1) (l.map λp=>AV.int p.2) st ck)):=λπ=>by
  rw[Blk.ren,aK _ hvl]
 have bm:∀o:Dis,Blk.bel 3 (qd o):=λo=>aG (au (ae (v:=λp:Int×Int=>AV.int p.2) (λ_=>rfl) o));have bs:Blk.bel 3 (.mst none (l.map λp=>MK.n p.1) (l.map λp=>AV.int p.2) st ck):=aG hvl;rw[u']at hs2
 refine AWP.loopS (λt:List Nat×Int=>Py L o l st ck t.1 t.2) (λt=>LM l st t.1 t.2∧t.1.Nodup∧∀s∈t.1,s∈st) (λt=>st.length-t.1.length) (i0:=([],0)) ⟨.inl ⟨rfl,rfl⟩,by simp,by simp⟩ ?_ ?_
 ·unfold Py
  refine ao.nf [0,1,18] _ _ ?_ ?_ ⟨rfl,rfl⟩ (by decide) (by decide) (by decide)
  ·repeat' (first|exact trivial|exact B' rfl trivial|refine B' ?_ ?_|rfl|exact O' rfl|exact rm _ _|exact rs _|exact bm _|exact bs)
  ·repeat' (first|exact trivial|exact B' rfl trivial|refine B' ?_ ?_|rfl|exact O' rfl|exact rm _ _|exact rs _|exact bm _|exact bs)
 ·rintro⟨seen,b⟩ ⟨hJ,hnd,hsub⟩;unfold Py;refine AWP.seq' ?_;refine AWP.reg' λK hK=>?_
  try simp only[ag,seval]
  have hk:∀q∈(l.map λp=>MK.n p.1),kOk q:=λq hq=>by
   obtain⟨x,hx,rfl⟩:=aa'.mp hq;have:=hl x hx;show inK .i64 x.1;rw[Ex];exact this.2
  refine pS rfl rfl rfl hk (λhs=>?_) (λi q v s0 e1 e2 e3 e4=>?_)
  ·try simp only[ag,seval]
   refine hK _ _ _ ?_;clear hK K;have hb:b=bst l:=by
    rcases hJ with⟨h1,h2⟩|⟨i,x,s,g1,g2,g3,g4,g5⟩
    ·have h1:seen=[]:=h1;subst h1;have:st=[]:=cd'.mpr λs hs'=>by simpa using hs s hs'
     have:l=[]:=aK' (by rw[←hs2,this];rfl);subst this;exact h2
    ·have g4:b=x.1:=g4;rw[g4];refine(Qm (be g1) λy hy=>?_).symm;obtain⟨j,hj⟩:=ac'.mp hy;have hlt:=am hj;exact g5 j y (st[j]'(by omega)) hj (f' (by omega)) (hs _ (aR' _))
   refine AWP.seq' (AWP.cond (b:=false) rfl (λh=>by cases h) (λ_=>AWP.exit ?_));show ao 0 k _ ⟨cD [(0,iO L),(5,.mref 0),(8,.mref 1),(9,.int (bst l))],hpL 0 [some (qd o),some (qd l)],2⟩;rw[←hb];refine ao.trans (ao.close 1 rfl) ?_;have bm:∀o:Dis,Blk.bel 2 (qd o):=λo=>aG (au (ae (v:=λp:Int×Int=>AV.int p.2) (λ_=>rfl) o))
   refine ao.nf [0,1] _ _ ?_ ?_ ⟨rfl,rfl⟩ (by decide) (by decide) (by decide)
   ·repeat' (first|exact trivial|exact B' rfl trivial|refine B' ?_ ?_|rfl|exact O' rfl|exact rm _ _|exact bm _)
   ·repeat' (first|exact trivial|exact B' rfl trivial|refine B' ?_ ?_|rfl|exact O' rfl|exact rm _ _|exact bm _)
  ·try simp only[ag,seval]
   refine hK _ _ _ ?_;clear hK K;refine AWP.seq' (AWP.cond (b:=true) rfl (λ_=>?_) (λh=>by cases h));refine AWP.skip ?_;refine AWP.block (AWP.seq' ?_);rw[I',av']at e1 e2;obtain⟨x,e1,rfl⟩:=e1;obtain⟨x',e2,rfl⟩:=e2;rw[e1]at e2;cases e2;have e5:(l.map λp=>MK.n p.1)[i]?=some (MK.n x.1):=by rw[I',e1];rfl
   have e6:(l.map λp=>AV.int p.2)[i]?=some (AV.int x.2):=by rw[I',e1];rfl
   refine AWP.reg' λK hK=>?_
   try simp only[ag,seval]
   refine pT rfl rfl rfl e3 e5 e6 (hk _ (J' e5)) ?_
   try simp only[ag,seval,kAV]
   refine hK _ _ _ ?_;clear hK K;refine AWP.seq' ?_;have hN:(seen++[s0]).Nodup:=bg'.mpr ⟨hnd,by simp,λa ha b hb=>by rw[L'.mp hb];rintro rfl;exact e4 ha⟩;have hS:∀s∈seen++[s0],s∈st:=λs hs=>by
    rcases ab'.mp hs with hs|hs
    ·exact hsub s hs
    ·rw[L'.mp hs];exact J' e3
   have hL:st.length-(seen++[s0]).length<st.length-seen.length:=by
    have:=List.Nodup.length_le_of_subset hN hS;rw[List.length_append,List.length_singleton]at this ⊢;omega
   have hu:∀{j y},l[j]?=some y→st[j]?=some s0→y=x:=λ{j y} h1 h2=>by
    have:=dZ hs1 h2 e3;subst this;rw[h1]at e1;exact Z' e1
   have hnew:(∀(j:Nat) (y:Int×Int) (s:Nat),l[j]?=some y→st[j]?=some s→s∈seen→¬bfr y x)→LM l st (seen++[s0]) x.1:=λh =>
    .inr ⟨i,x,s0,e1,e3,by simp,rfl,λj y s h1 h2 h3=>by
     rcases ab'.mp h3 with h3|h3
     ·exact h j y s h1 h2 h3
     ·rw[L'.mp h3]at h2;rw[hu h1 h2];simp[bfr]⟩
   rcases hJ with⟨h1,h2⟩|⟨i',y,s,g1,g2,g3,g4,g5⟩
   ·have h1:seen=[]:=h1;have h2:b=0:=h2;subst h1;subst h2;have hJ':=hnew (λj y s _ _ h3=>by simp at h3);refine AWP.reg' λK hK=>?_
    try simp only[ag,seval]
    refine hK _ _ _ ?_;clear hK K;refine AWP.cond (b:=true) rfl (λ_=>?_) (λh=>by cases h);refine AWP.reg' λK hK=>?_
    try simp only[ag,seval]
    refine hK _ _ _ ?_;clear hK K;refine⟨(_,_),⟨hJ',hN,hS⟩,hL,?_⟩
    refine ao.nf [0,1,2] _ _ ?_ ?_ ⟨rfl,rfl⟩ (by decide) (by decide) (by decide)
    ·repeat' (first|exact trivial|exact B' rfl trivial|refine B' ?_ ?_|rfl|exact O' rfl|exact rm _ _|exact rs _|exact bm _|exact bs)
    ·repeat' (first|exact trivial|exact B' rfl trivial|refine B' ?_ ?_|rfl|exact O' rfl|exact rm _ _|exact rs _|exact bm _|exact bs)
   ·have g4:b=y.1:=g4;subst g4;have hy0:¬y.1=0:=(hl y (be g1)).1;have hmg:cR (l.map λp=>MK.n p.1) (l.map λp=>AV.int p.2) (MK.n y.1) (AV.int 0) false=AV.int y.2:=by
     have hh:aT l y.1=true:=bW.mpr ⟨y.2,be g1⟩;have hnk:(ap l).Nodup:=by
      have:=nb (l:=l) (kf:=MK.n);rw[this]at hn;exact List.Pairwise.of_map MK.n (λa b h e=>h (congrArg _ e)) hn
     rw[lb (vf:=AV.int) (z:=0) (λ_ _ h=>MK.n.inj h) hh,d8 hnk (be g1)];rfl
    have hy1:(y.1==0)=false:=by simpa using hy0
    have hbt:bfr x y→LM l st (seen++[s0]) x.1:=λh=>hnew λj z s' h1 h2 h3=>by
     have:=g5 j z s' h1 h2 h3;unfold bfr at *;omega
    have hbf:¬bfr x y→LM l st (seen++[s0]) y.1:=λh=>.inr ⟨i',y,s,g1,g2,List.mem_append_left _ g3,rfl,λj z s' h1 h2 h3=>by
     rcases ab'.mp h3 with h3|h3
     ·exact g5 j z s' h1 h2 h3
     ·rw[L'.mp h3]at h2;rw[hu h1 h2];exact h⟩
    by_cases c1:x.2<y.2
    ·refine AWP.reg' λK hK=>?_
     try simp only[ag,seval,hy0,hy1,hmg,bj,dF,AV.key,MK.fits,and_self,true_and,c1]
     refine hK _ _ _ ?_;clear hK K;refine AWP.cond (b:=true) rfl (λ_=>?_) (λh=>by cases h);refine AWP.reg' λK hK=>?_
     try simp only[ag,seval]
     refine hK _ _ _ ?_;clear hK K;refine⟨(_,_),⟨hbt (.inl c1),hN,hS⟩,hL,?_⟩
     refine ao.nf [0,1,2] _ _ ?_ ?_ ⟨rfl,rfl⟩ (by decide) (by decide) (by decide)
     ·repeat' (first|exact trivial|exact B' rfl trivial|refine B' ?_ ?_|rfl|exact O' rfl|exact rm _ _|exact rs _|exact bm _|exact bs)
     ·repeat' (first|exact trivial|exact B' rfl trivial|refine B' ?_ ?_|rfl|exact O' rfl|exact rm _ _|exact rs _|exact bm _|exact bs)
    ·by_cases c2:x.2=y.2
     ·have c2':(x.2==y.2)=true:=by simpa using c2
      by_cases c3:x.1<y.1
      ·refine AWP.reg' λK hK=>?_
       try simp only[ag,seval,hy0,hy1,hmg,bj,dF,AV.key,MK.fits,and_self,true_and,c1,c2',c3]
       refine hK _ _ _ ?_;clear hK K;refine AWP.cond (b:=true) rfl (λ_=>?_) (λh=>by cases h);refine AWP.reg' λK hK=>?_
       try simp only[ag,seval]
       refine hK _ _ _ ?_;clear hK K;refine⟨(_,_),⟨hbt (.inr ⟨c2,c3⟩),hN,hS⟩,hL,?_⟩
       refine ao.nf [0,1,2] _ _ ?_ ?_ ⟨rfl,rfl⟩ (by decide) (by decide) (by decide)
       ·repeat' (first|exact trivial|exact B' rfl trivial|refine B' ?_ ?_|rfl|exact O' rfl|exact rm _ _|exact rs _|exact bm _|exact bs)
       ·repeat' (first|exact trivial|exact B' rfl trivial|refine B' ?_ ?_|rfl|exact O' rfl|exact rm _ _|exact rs _|exact bm _|exact bs)
      ·refine AWP.reg' λK hK=>?_
       try simp only[ag,seval,hy0,hy1,hmg,bj,dF,AV.key,MK.fits,and_self,true_and,c1,c2',c3]
       refine hK _ _ _ ?_;clear hK K;refine AWP.cond (b:=false) rfl (λh=>by cases h) (λ_=>?_);refine AWP.skip ?_;refine⟨(_,_),⟨hbf (by unfold bfr;omega),hN,hS⟩,hL,?_⟩
       refine ao.nf [0,1,2] _ _ ?_ ?_ ⟨rfl,rfl⟩ (by decide) (by decide) (by decide)
       ·repeat' (first|exact trivial|exact B' rfl trivial|refine B' ?_ ?_|rfl|exact O' rfl|exact rm _ _|exact rs _|exact bm _|exact bs)
       ·repeat' (first|exact trivial|exact B' rfl trivial|refine B' ?_ ?_|rfl|exact O' rfl|exact rm _ _|exact rs _|exact bm _|exact bs)
     ·have c2':(x.2==y.2)=false:=by simpa using c2
      refine AWP.reg' λK hK=>?_
      try simp only[ag,seval,hy0,hy1,hmg,bj,dF,AV.key,MK.fits,and_self,true_and,c1,c2']
      refine hK _ _ _ ?_;clear hK K;refine AWP.cond (b:=false) rfl (λh=>by cases h) (λ_=>?_);refine AWP.skip ?_;refine⟨(_,_),⟨hbf (by unfold bfr;omega),hN,hS⟩,hL,?_⟩
      refine ao.nf [0,1,2] _ _ ?_ ?_ ⟨rfl,rfl⟩ (by decide) (by decide) (by decide)
      ·repeat' (first|exact trivial|exact B' rfl trivial|refine B' ?_ ?_|rfl|exact O' rfl|exact rm _ _|exact rs _|exact bm _|exact bs)
      ·repeat' (first|exact trivial|exact B' rfl trivial|refine B' ?_ ?_|rfl|exact O' rfl|exact rm _ _|exact rs _|exact bm _|exact bs)
theorem dB.refN{foot:List Nat}{hp:Hp}{b off:Nat}{x y:AV}(hb:b∈foot)(h:hp b=some (.box x))(hv:dB foot hp x y)(hs:y.solid=true):dB foot hp (.ref b off) (.rptr y off):=by
 intro P c A μ fr tm' hp' n a w cv H hh hv';obtain⟨hd,e1,e2,rfl⟩:=hv';obtain⟨hd',v,ty,f1,f2,f3,f4,f5,f6⟩:=H.box ((hh b hb).trans h);rw[e1]at f1;cases f1;obtain⟨hd',g1,_,g3⟩:=H.blk b _ ((hh b hb).trans h);rw[e1]at g1;cases g1;have q:=hv P c A μ fr tm' hp' n a w v H hh f4;refine⟨hd.blk,0,v,by simp,.inr ⟨b,_,hd,(hh b hb).trans h,e1,e2,rfl⟩,q,(RV.cells hs q).2,λp u hu=>f6 p u hu⟩
def Bq:AC:=.reg [⟨(some 52),.faddr 1 (.t 1),none⟩,⟨(some 53),.load false 1 (.t 52),none⟩,⟨(some 54),.mkf 155 [(.t 4)],none⟩,⟨(some 55),.call (.c (.func 153 [])) [(.t 53),(.t 54)],none⟩,⟨(some 51),.move (.t 55),none⟩]
def MC(t:Tpl):NF:=⟨[(1,.k,.ref 0 0),(4,.k,.ref 1 0)],[.box (Tpl.v t),.box (.func 150 [.ref 0 0])]⟩
def MB(t:Tpl)(b:Bool):NF:=⟨[(1,.k,.ref 0 0),(51,.k,.bool b)],[.box (Tpl.v t)]⟩
theorem unk_h(t:Tpl)(hl:t.rs.length≤1000000)(k:Nat):dI Tryz.prog 0 k Bq (MC t).st (MB t (t.ls.any λy=>iq y t)).st:=by
 unfold dI Bq;show AWP _ 0 k _ _ ⟨cD [(1,.ref 0 0),(4,.ref 1 0)],hpL 0 [some (.box (Tpl.v t)),some (.box (.func 150 [.ref 0 0]))],2⟩;refine AWP.reg' λK hK=>?_
 try simp only[ag,seval,Tpl.v]
 refine sE [0,1] (wR t.ls t hl).ok (wR t.ls t hl).fn rfl rfl ⟨dB.pure trivial,dB.func ⟨?_,trivial⟩,trivial⟩ trivial ?_
 ·refine dB.refN (by simp) rfl (dB.func ⟨dB.ref (by simp) rfl ⟨trivial,trivial,trivial⟩,trivial⟩) rfl
 try simp only[ag,seval]
 refine hK _ _ _ ?_;clear hK K;refine(show ao 0 k _ ⟨cD [(1,.ref 0 0),(51,.bool (t.ls.any λy=>iq y t))],hpL 0 [some (.box (Tpl.v t))],1⟩from ?_)
 refine ao.nf [0] _ _ ?_ ?_ ⟨rfl,rfl⟩ (by decide) (by decide) (by decide)
 ·repeat' (first|exact trivial|exact B' rfl trivial|refine B' ?_ ?_|rfl|exact O' rfl)
 ·repeat' (first|exact trivial|exact B' rfl trivial|refine B' ?_ ?_|rfl|exact O' rfl)
def dW{α:Type}(l:List α)(R:α→α→Prop)(t:Int):Prop:=∃k:Nat,t=k∧k≤l.length∧∀(j:Nat) x y,j+1<k→l[j]?=some x→l[j+1]?=some y→R x y
section
variable {α : Type} {l : List α} {R : α → α → Prop} {t : Int} {x y : α}
theorem dW.zero:dW l R 0:=⟨0,rfl,by omega,λj x y h=>by omega⟩
theorem dW.idx(h:dW l R t):0≤t:=by obtain⟨k,rfl,_,_⟩:=h;omega
theorem dW.step0(h:dW l R t)(hl:l.length≤1000000)(c:t<l.length)(h0:¬0<t):dW l R (W (t+1))∧l.length-(W (t+1)).toNat<l.length-t.toNat:=by
 obtain⟨k,rfl,hk,ha⟩:=h;obtain rfl:k=0:=by omega
 rw[aQ (n:=l.length) (by omega) (by omega)];exact⟨⟨1,rfl,by omega,λj x y hj=>by omega⟩,by omega⟩
theorem dW.step(h:dW l R t)(hl:l.length≤1000000)(h0:0<t)(hx:l[(W (t-1)).toNat]?=some x)(hy:l[t.toNat]?=some y)(p:R x y):dW l R (W (t+1))∧l.length-(W (t+1)).toNat<l.length-t.toNat:=by
 obtain⟨k,rfl,hk,ha⟩:=h;rw[Int.toNat_natCast]at hy;have hlt:=am hy;rw[jQ (by omega) (by omega),Int.toNat_natCast]at hx;rw[aQ (n:=l.length) hlt (by omega)];refine⟨⟨k+1,rfl,by omega,λj x' y' hj hx' hy'=>?_⟩,by omega⟩
 by_cases e:j+1=k
 ·subst e;rw[show j+1-1=j by omega,hx']at hx;cases hx;rw[hy']at hy;cases hy;exact p
 ·exact ha j x' y' (by omega) hx' hy'
theorem dW.bad(h:dW l R t)(hl:l.length≤1000000)(h0:0<t)(hx:l[(W (t-1)).toNat]?=some x)(hy:l[t.toNat]?=some y)(p:¬R x y):¬l.Pairwise R:=by
 obtain⟨k,rfl,hk,ha⟩:=h;rw[Int.toNat_natCast]at hy;have hlt:=am hy;rw[jQ (by omega) (by omega),Int.toNat_natCast]at hx;intro hp;rw[at']at hp;have:=hp (k-1) k (by omega) hlt (by omega);rw[f' (by omega)]at hx hy;rw[Z' hx,Z' hy]at this;exact p this
theorem dW.rng(h:dW l R t)(hl:l.length≤1000000)(h0:0<t)(c:t<l.length):0≤W (t-1)∧W (t-1)<l.length:=by
 obtain⟨k,rfl,hk,ha⟩:=h;rw[jQ (by omega) (by omega)];omega
theorem dW.next(h:dW l R t)(hl:l.length≤1000000)(c:t<l.length){b:Bool}(hb:b=true↔0<t∧∃x y,l[(W (t-1)).toNat]?=some x∧l[t.toNat]?=some y∧¬R x y) :
  (b=true→¬l.Pairwise R)∧(b=false→dW l R (W (t+1))∧l.length-(W (t+1)).toNat<l.length-t.toNat):=by
 refine⟨λe=>?_,λe=>?_⟩
 ·obtain⟨h0,x,y,hx,hy,p⟩:=hb.mp e;exact h.bad hl h0 hx hy p
 ·by_cases h0:0<t
  ·obtain⟨g1,g2⟩:=h.rng hl h0 c;have hx:=f' (show(W (t-1)).toNat<l.length by omega);have hy:=f' (show t.toNat<l.length by omega);refine h.step hl h0 hx hy (U' λp=>?_);have:=hb.mpr ⟨h0,_,_,hx,hy,p⟩;rw[e]at this;cases this
  ·exact h.step0 hl c h0
theorem dW.done(h:dW l R t)(c:¬t<l.length)(tr:∀x y z,R x y→R y z→R x z):l.Pairwise R:=by
 obtain⟨k,rfl,hk,ha⟩:=h;rw[at'];have key:∀d i,(hi:i+d+1<l.length)→R (l[i]'(by omega)) l[i+d+1]:=by
  intro d
  induction d with
  | zero=>intro i hi;exact ha i _ _ (by omega) (f' (by omega)) (f' hi)
  | succ d ih =>
   intro i hi;exact tr _ _ _ (ih i (by omega)) (ha (i+d+1) _ _ (by omega) (f' (by omega)) (f' hi))
 intro i j hi hj hij;have:=key (j-i-1) i (by omega);simp only[show i+(j-i-1)+1=j by omega]at this;exact this
end
theorem th{l:List Rtr}(h:l.Pairwise (λx y=>x.id<y.id)){i j:Nat}(hij:i<j){x y:Rtr}(hx:l[i]?=some x)(hy:l[j]?=some y):x.id<y.id:=by
 have hi:=am hx;have hj:=am hy;rw[f' hi]at hx;rw[f' hj]at hy;have:=at'.mp h i j hi hj hij;rw[Z' hx,Z' hy]at this;exact this
theorem qX(l:List Rtr):l.any kc=true↔¬∀x∈l,1≤x.id∧x.id≤99:=by
 rw[aj']
 constructor
 ·rintro⟨x,hx,e⟩ h;have:=h x hx;simp[kc,inT,this]at e
 ·intro h;refine U' λq=>h λx hx=>?_;have:¬kc x=true:=λe=>q ⟨x,hx,e⟩;simp[kc,inT]at this;omega
theorem sT(l:List Lnk):l.any kK=true↔¬∀x∈l,iu x:=by
 rw[aj'];have key:∀x:Lnk,kK x=true↔¬iu x:=λx=>by
  unfold kK iu inT fp;simp;omega
 constructor
 ·rintro⟨x,hx,e⟩ h;exact(key x).mp e (h x hx)
 ·intro h;exact U' λq=>h λx hx=>U' λr=>q ⟨x,hx,(key x).mpr r⟩
theorem tk(l:List Lnk):l.any l7=true↔¬∀x∈l,x.a<x.b:=by
 rw[aj']
 constructor
 ·rintro⟨x,hx,e⟩ h;have:=h x hx;simp[l7]at e;omega
 ·intro h;exact U' λq=>h λx hx=>U' λr=>q ⟨x,hx,by simp[l7];omega⟩
theorem nv{l:List Rtr}(h:l.Pairwise λx y=>x.id<y.id)(r:Int):(lT l r=l.any (eqR r))∧∀x∈l,eqR r x=true→l[pj l r]?=some x:=by
 refine zr (λa b x y hab hx hy e=>?_) (λx e=>?_) λa b x y hab hx hy e=>?_
 ·have:=th h hab hx hy;simp[ltR]at e ⊢;omega
 ·simp[eqR]at e;simp[ltR];omega
 ·have:=th h hab hx hy;simp[eqR]at e;simp[ltR];omega
theorem qJ{t:Tpl}(h:t.rs.Pairwise λx y=>x.id<y.id):(t.ls.any λy=>iq y t)=true↔¬∀l∈t.ls,aJ t l.a=true∧aJ t l.b=true:=by
 have key:∀l:Lnk,iq l t=true↔¬(aJ t l.a=true∧aJ t l.b=true):=λl=>by
  unfold iq tJ;rw[(nv h l.a).1,(nv h l.b).1];show(!aJ t l.a || !aJ t l.b)=true↔_;cases aJ t l.a<;>cases aJ t l.b<;>simp
 rw[aj']
 constructor
 ·rintro⟨x,hx,e⟩ q;exact(key x).mp e (q x hx)
 ·intro q;exact U' λq2=>q λx hx=>U' λr=>q2 ⟨x,hx,(key x).mpr r⟩
def Ga(t:Tpl):=okL [Tpl.v t]
def Lo(t:Tpl)(t0:Bool):NF:=⟨[rR 1 0,rB 6 t0],[.box (Tpl.v t)]⟩
def Ln(t:Tpl)(t1:Int):NF:=⟨[rR 1 0,rI 23 ((t.rs.map Rtr.v).length:Int),rI 24 t1],[.box (Tpl.v t)]⟩
def Lm(t:Tpl)(t1:Int)(t2:Bool):NF:=⟨[rR 1 0,rI 23 ((t.rs.map Rtr.v).length:Int),rI 24 t1,rB 44 t2],[.box (Tpl.v t)]⟩
def Ll(t:Tpl)(t3:Int):NF:=⟨[rR 1 0,rI 62 ((t.ls.map Lnk.v).length:Int),rI 63 t3],[.box (Tpl.v t)]⟩
def Lk(t:Tpl)(t3:Int)(t4:Bool):NF:=⟨[rR 1 0,rI 62 ((t.ls.map Lnk.v).length:Int),rI 63 t3,rB 82 t4],[.box (Tpl.v t)]⟩
@[reducible] def FX:Nat→Type
 | 0=>Bool
 | 1=>Int
 | 2=>Bool
 | 3=>Int
 | 4=>Bool
 | _=>Unit
def FY(r:Int):AV:=.int r
def FW(t:Tpl)(I0:Bool→Prop)(I1:Bool→Int→Prop)(m1:Bool→Int→Nat)(I2:Bool→Int→Bool→Prop)(I3:Bool→Int→Int→Prop)(m3:Bool→Int→Int→Nat)(I4:Bool→Int→Int→Bool→Prop):Ax Tryz.prog FX (Int):=
 (.pass (.pass (.join 0 (Lo t) (λ(t0:Bool)=>I0 t0) (λb0=>(.br 112 (decide (24<((t.rs.map Rtr.v).length:Int))) (.bk 0 b0 ((true):Bool) [0])
(.bk 0 b0 ((decide (60<((t.ls.map Lnk.v).length:Int))):Bool) [0]))) λ(t0:Bool) =>
(.br 1 t0 (.ret (3))
(.callP (IJ t.rs)
(.br 65 ((t.rs).any kc) (.ret (2))
(.loop 1 (Ln t) (I1 t0) (m1 t0) ((0):Int) [0] λ(t1:Int) b1 =>
(.br 17 (decide (t1<((t.rs.map Rtr.v).length:Int))) (.pass (.pass (.join 2 (Lm t t1) (λ(t2:Bool)=>I2 t0 t1 t2) (λb2=>(.br 97 (decide (0<t1)) (.elI 161 Rtr.v t.rs (W (t1-1)) λx1 =>
(.elI 257 Rtr.v t.rs t1 λx2 =>
(.bk 2 b2 ((decide (x2.id≤x1.id)):Bool) [0])))
(.bk 2 b2 ((false):Bool) [0]))) λ(t2:Bool) =>
(.br 1 t2 (.ret (25))
(.bk 1 b1 ((W (t1+1)):Int) [0])))))
(.callP (KQ t.ls)
(.br 129 ((t.ls).any kK) (.ret (2))
(.handQ 0 (MC t) [0,33] ((MB t ((t).ls.any λy=>iq y t)).st) Bq ((t).rs.length≤1000000) (unk_h t)
(.br 1 (t.ls.any λy=>iq y t) (.ret (4))
(.callP (M6 t.ls)
(.br 65 ((t.ls).any l7) (.ret (8))
(.loop 3 (Ll t) (I3 t0 t1) (m3 t0 t1) ((0):Int) [0] λ(t3:Int) b3 =>
(.br 17 (decide (t3<((t.ls.map Lnk.v).length:Int))) (.pass (.pass (.join 4 (Lk t t3) (λ(t4:Bool)=>I4 t0 t1 t3 t4) (λb4=>(.br 97 (decide (0<t3)) (.elI 161 Lnk.v t.ls (W (t3-1)) λx3 =>
(.elI 241 Lnk.v t.ls t3 λx4 =>
(.callP (wc x3 x4)
(.bk 4 b4 ((decide (0≤(qk x3 x4))):Bool) [0]))))
(.bk 4 b4 ((false):Bool) [0]))) λ(t4:Bool) =>
(.br 1 t4 (.ret (25))
(.bk 3 b3 ((W (t3+1)):Int) [0])))))
(.ret (0))))))))))))))))))
theorem Qb(t:Tpl)(ok:Ga t):∃I0 I1 m1 I2 I3 m3 I4,(FW t I0 I1 m1 I2 I3 m3 I4).vp FY (aC t):=by
 refine⟨λb=>b=decide (24<t.rs.length∨60<t.ls.length),λ_ i=>dW t.rs (λx y=>x.id<y.id) i,λ_ i=>t.rs.length-i.toNat,
  λ_ i b=>b=true↔0<i∧∃x y,t.rs[(W (i-1)).toNat]?=some x∧t.rs[i.toNat]?=some y∧¬x.id<y.id,λ_ _ i=>dW t.ls bC i,λ_ _ i=>t.ls.length-i.toNat,
  λ_ _ i b=>b=true↔0<i∧∃x y,t.ls[(W (i-1)).toNat]?=some x∧t.ls[i.toNat]?=some y∧¬bC x y,?_⟩
 simp only[Ga,Tpl.v,okU,Blk.ok,az,u']at ok;dsimp only[FW,FX,Ax.vp,Ax.vc];simp only[vcU,rfU,u'];refine⟨⟨λc=>(decide_eq_true (.inl (by omega))).symm,λc=>decide_eq_decide.mpr (by omega)⟩,?_⟩;rintro _ rfl;unfold aC;refine⟨λc=>by rw[F' (G' c)],λc=>?_⟩;have c:=S' c;rw[E' c];refine⟨λd=>by rw[F' ((qX _).mp d)],λd=>?_⟩;have d:∀x∈t.rs,1≤x.id∧x.id≤99:=U' λq=>by rw[(qX _).mpr q]at d;cases d
 rw[E' (not_not_intro d)]
 refine⟨dW.zero,λi h=>⟨λc1=>⟨⟨λh0=>?_,λh0=>?_⟩,λb hb=>?_⟩,λc1=>?_⟩⟩
 ·obtain⟨g1,g2⟩:=h.rng (by omega) h0 c1;refine⟨g1,g2,λx hx=>⟨h.idx,c1,λy hy=>⟨λe=>⟨h0,x,y,hx,hy,by omega⟩,?_⟩⟩⟩;rintro⟨_,x',y',hx',hy',p⟩;rw[hx]at hx';cases hx';rw[hy]at hy';cases hy';omega
 ·exact⟨nofun,λe=>absurd e.1 h0⟩
 ·obtain⟨n1,n2⟩:=h.next (by omega) c1 hb;exact⟨λe=>by rw[F' (n1 e)],n2⟩
 have hP:=h.done c1 λ_ _ _ q r=>bJ' q r;rw[E' (not_not_intro hP)];refine⟨λe=>by rw[F' ((sT _).mp e)],λe=>?_⟩;have e:∀x∈t.ls,iu x:=U' λq=>by rw[(sT _).mpr q]at e;cases e
 rw[E' (not_not_intro e)];refine⟨by omega,λf=>by rw[F' ((qJ hP).mp f)],λf=>?_⟩;have f:∀l∈t.ls,aJ t l.a=true∧aJ t l.b=true:=U' λq=>by rw[(qJ hP).mpr q]at f;cases f
 rw[E' (not_not_intro f)];refine⟨λg=>by rw[F' ((tk _).mp g)],λg=>?_⟩;have g:∀x∈t.ls,x.a<x.b:=U' λq=>by rw[(tk _).mpr q]at g;cases g
 rw[E' (not_not_intro g)]
 refine⟨dW.zero,λi h=>⟨λc1=>⟨⟨λh0=>?_,λh0=>?_⟩,λb hb=>?_⟩,λc1=>?_⟩⟩
 ·obtain⟨g1,g2⟩:=h.rng (by omega) h0 c1;refine⟨g1,g2,λx hx=>⟨h.idx,c1,λy hy=>⟨λe=>⟨h0,x,y,hx,hy,λq=>by have:=(mi x y).mpr q;omega⟩,?_⟩⟩⟩;rintro⟨_,x',y',hx',hy',p⟩;rw[hx]at hx';cases hx';rw[hy]at hy';cases hy';exact U' λq=>p ((mi x y).mp (by omega))
 ·exact⟨nofun,λe=>absurd e.1 h0⟩
 ·obtain⟨n1,n2⟩:=h.next (by omega) c1 hb;exact⟨λe=>by rw[F' (n1 e)],n2⟩
 ·rw[E' (not_not_intro (h.done c1 λ_ _ _ q r=>by unfold bC at *;omega))]
def FZ(t:Tpl):PC Tryz.prog:=pcO 115 [(.a [(.s 2),(.s 5)])] [Tpl.v t] .k FY (aC t) (λok=>let ⟨I0,I1,m1,I2,I3,m3,I4,h⟩:=Qb t ok;⟨_,h,by kernel_rfl⟩) rfl (by kernel_rfl)
def iC(t:Tpl):Bool:=aC t==0
def Bp(r:Bool):AV:=.bool r
def tE(t:Tpl):Ax Tryz.prog noS (Bool):=
 (.callP (FZ t)
(.ret ((aC t)==0)))
theorem Nu(t:Tpl):(tE t).vp Bp (iC t):=by
 dsimp only[tE,noS,Ax.vp,Ax.vc];simp only[vcU,rfU,u'];rfl
def tF(t:Tpl):PC Tryz.prog:=pcO 108 [(.a [(.s 2),(.s 5)])] [Tpl.v t] .k Bp (iC t) (λ_=>⟨(tE t),Nu t,by kernel_rfl⟩) rfl (by kernel_rfl)
def Fr(i:Nat):Nat:=1000+i
theorem oQ{i b:Nat}(hb:b<1000):(Fr i=b)=False:=by unfold Fr;simp;omega
theorem bL{i b:Nat}(hb:b<1000):(b=Fr i)=False:=by unfold Fr;simp;omega
theorem im{i b:Nat}(hi:i<1000)(hb:2000≤b):(Fr i=b)=False:=by unfold Fr;simp;omega
theorem qC{i j:Nat}:(Fr i=Fr j)=(i=j):=by unfold Fr;simp
def fm(bs fs:Nat→Nat)(b:Nat):Nat:=if 1000≤b∧b<2000 then fs (b-1000)else bs b
theorem jH{bs fs:Nat→Nat}{i:Nat}(h:i<1000):fm bs fs (Fr i)=fs i:=by unfold fm Fr;rw[F' (by omega),show 1000+i-1000=i by omega]
theorem eQ{bs fs:Nat→Nat}{b:Nat}(h:b<1000):fm bs fs b=bs b:=E' (by omega)
section
variable {ρ : Type} (kk : Nat) (v : ρ → AV)
def GR(rows:List (List ρ))(h:Hp):Hp:=λb=>if 1000≤b∧b<2000 then(rows[b-1000]?).map (λr=>Blk.vec kk (r.map v))else h b
variable {kk v}
theorem lN{rows:List (List ρ)}{h:Hp}{b:Nat}(hb:b<1000):GR kk v rows h b=h b:=E' (by omega)
theorem ig{rows:List (List ρ)}{h:Hp}{i:Nat}{r:List ρ}(hr:rows[i]?=some r)(hl:rows.length≤1000):GR kk v rows h (Fr i)=some (.vec kk (r.map v)):=by
 have:i<rows.length:=(P'.mp hr).1;unfold GR Fr;rw[F' (by omega),show 1000+i-1000=i by omega,hr];rfl
theorem ao.nfR(hpu:∀x,(v x).pureB=true){k n:Nat}{tm:Nat→AV}{hp:Hp}{nx:Nat}(rows:List (List ρ))(ts:List (Nat×AV))(hs:List (Option Blk))(bs fs:Nat→Nat)
    (hT:∀p∈ts,tm p.1=p.2.ren (fm bs fs)∧p.2.bel 2000) (hH:∀i x,hs[i]?=some (some x)→hp (bs i)=some (x.ren (fm bs fs))∧x.bel 2000)
    (hl:hs.length≤1000) (hr:rows.length≤1000) (hR:∀i r,rows[i]?=some r→hp (fs i)=some (.vec kk (r.map v)))
    (h1:∀i j,i<hs.length→j<hs.length→bs i=bs j→i=j) (h2:∀i j,i<rows.length→j<rows.length→fs i=fs j→i=j) (h3:∀i j,i<hs.length→j<rows.length→bs i≠fs j)
    (hk:∀b,b<k→bs b=b) (hkl:k≤1000):ao k n ⟨tm,hp,nx⟩ ⟨cD ts,GR kk v rows (hpL 0 hs),2000⟩:=by
  have pur:∀r:List ρ,aD (r.map v):=λr=>au (ae hpu r);have low:∀{b x},hpL 0 hs b=some x→hs[b]?=some (some x):=λ{b x} e=>by
    rw[vw,F' (am' _),Nat.sub_zero]at e;cases e':hs[b]? with
    | none=>rw[e']at e;cases e
    | some y=>rw[e']at e;exact congrArg some e
  have cls:∀{b x},GR kk v rows (hpL 0 hs) b=some x→(∃i r,b=Fr i∧i<rows.length∧rows[i]?=some r∧x=.vec kk (r.map v))∨(b<hs.length∧hs[b]?=some (some x)):=λ{b x} e=>by
    unfold GR at e
    split at e
    · rename_i hb
      obtain⟨r,hr,rfl⟩:=av'.mp e;exact .inl ⟨b-1000,r,by unfold Fr;omega,(P'.mp hr).1,hr,rfl⟩
    · have:=low e
      exact .inr ⟨(P'.mp this).1,this⟩
  refine ao.ren (fm bs fs) (λt=>?_) (λb x e=>?_) (λb b' e e' he=>?_) (λb hb=>?_) (by show k≤2000;omega)
  · show cD ts t=.unk∨(tm t=(cD ts t).ren _∧(cD ts t).bel 2000)
    clear hH hR h1 h2 h3 cls low hl
    induction ts with
    | nil=>exact .inl rfl
    | cons p l ih =>
      obtain⟨t',x⟩:=p
      by_cases ht:t=t'
      · subst ht
        have:=hT (t,x) (by simp);simp only[cD,↓reduceIte];exact .inr this
      · have:=ih (λp hp=>hT p (by simp[hp]))
        simp only[cD,E' ht];exact this
  · show b<2000∧hp (fm bs fs b)=some (x.ren (fm bs fs))∧x.bel 2000
    rcases cls e with⟨i,r,rfl,hi,hr',rfl⟩|⟨hb,e⟩
    · refine⟨by unfold Fr;omega,?_,aG (pur r)⟩
      rw[jH (by omega),hR i r hr',Blk.ren,aK _ (pur r)]
    · obtain⟨g1,g2⟩:=hH b x e
      exact⟨by omega,by rw[eQ (by omega)];exact g1,g2⟩
  · have c1:∀{b},GR kk v rows (hpL 0 hs) b≠none→(∃i,b=Fr i∧i<rows.length)∨b<hs.length:=λ{b} e=>by
      cases q:GR kk v rows (hpL 0 hs) b with
      | none=>exact absurd q e
      | some x => rcases cls q with ⟨i, r, g1, g2, _⟩ | ⟨g, _⟩
                  · exact .inl ⟨i,g1,g2⟩
                  · exact .inr g
    rcases c1 e with⟨i,rfl,hi⟩|hb<;>rcases c1 e' with⟨j,rfl,hj⟩|hb'
    · rw[jH (by omega),jH (by omega)]at he
      rw[h2 i j hi hj he]
    · rw[jH (by omega),eQ (by omega)]at he
      exact absurd he.symm (h3 b' i hb' hi)
    · rw[eQ (by omega),jH (by omega)]at he
      exact absurd he (h3 b j hb hj)
    · rw[eQ (by omega),eQ (by omega)]at he
      exact h1 b b' hb hb' he
  · rw[eQ (by omega)];exact hk b hb
end
theorem ao.nilvecM{k n:Nat}{tm:Nat→AV}{hp:Hp}{nx:Nat}{kq:Option Nat}{ks:List MK}{vs:List AV}(b0 i kk k':Nat)(hb:hp b0=some (.map kq ks vs))(h:vs[i]?=some (.sl kk [] true))(hk:k≤nx) :
  ao k n ⟨tm,hp,nx⟩ ⟨tm,upd (upd hp b0 (some (.map kq ks (vs.set i (.vec nx))))) nx (some (.vec k' [])),nx+1⟩:=by
 rintro P c a w ⟨h0,A,μ,H⟩;obtain⟨hd0,q1,⟨q2,ents,ck,q3,q4,q5,q6⟩,q8⟩:=H.blk b0 _ hb;have hi:i<vs.length:=(P'.mp h).1;have hv0:=(RVL.length q5)
 obtain⟨vi,hvi⟩:∃vi,(ents.toList.map (·.val))[i]?=some vi:=⟨(ents.toList.map (·.val))[i]'(by omega),f' (by omega)⟩
 obtain⟨ad,hv⟩:=RV.nilsl (RVL.get2 q5 h hvi);obtain⟨f1,f2⟩:μ nx=none∧hp nx=none:=H.fr nx (X' _)
 let hd:Hd:=⟨some ad,0,k',0,0⟩
 have hne:b0≠nx:=λe=>by subst e;rw[f2]at hb;cases hb
 have hle:bu μ (upd μ nx (some hd)):=by
  intro b hd' e
  by_cases g:b=nx
  ·subst g;rw[f1]at e;cases e
  ·rw[ai _ _ g];exact e
 have key:=H.add nx f2 (upd μ nx (some hd)) hle (λb hb=>ai _ _ hb) hd (ak _ _ _) (.vec k' []) ⟨rfl,.inl ⟨rfl,rfl⟩⟩ (λe=>by cases e) (λ_ _ _ _ _ _ e=>by cases e);have hswap:upd (upd hp b0 (some (.map kq ks (vs.set i (.vec nx))))) nx (some (.vec k' []))=upd (upd hp nx (some (.vec k' []))) b0 (some (.map kq ks (vs.set i (.vec nx)))):=by
  funext b
  by_cases e1:b=b0
  ·subst e1;rw[ak,ai _ _ hne,ak]
  ·rw[ai _ _ e1]
   by_cases e2:b=nx
   ·subst e2;rw[ak,ak]
   ·rw[ai _ _ e2,ai _ _ e1,ai _ _ e2]
 rw[hswap];have hb1:upd hp nx (some (.vec k' [])) b0=some (.map kq ks vs):=by rw[ai _ _ hne];exact hb
 have fin:=key.say hb1 (y:=.map kq ks (vs.set i (.vec nx))) λhd1 e1 e2=>by
  obtain⟨r2,ents',ck',r3,r4,r5,r6⟩:=e2;rw[hle _ _ q1]at e1;cases e1;rw[q3]at r3;cases r3;refine⟨r2,ents,ck,q3,q4,RVL.setAt r5 hvi ⟨hd,ak _ _ _,hv⟩,λx hx=>?_⟩
  rcases ap' hx with hx|rfl
  ·exact q6 x hx
  ·rfl
 exact⟨h0,A,upd μ nx (some hd),fin.free λb hb=>⟨show nx≤b by have:nx+1≤b:=hb;omega,by have:nx+1≤b:=hb;omega⟩⟩
def relx(cost:Int)(out:Dis)(op:Dis)(s:Stp):Dis:=
 if aT out s.to=true then op else if(aT op s.to=false∨W (cost+s.cost)<av op s.to 0)then ba op s.to (W (cost+s.cost))else op
def AK(L:Lks):Nat→Dis→Dis→Dis
 | 0,out,_=>out
 | n+1,out,op=>if op=[]then out else
   if(ba out (bst op) (av op (bst op) 0)).length=L.length then ba out (bst op) (av op (bst op) 0)
   else AK L n (ba out (bst op) (av op (bst op) 0)) ((av L (bst op) []).foldl (relx (av op (bst op) 0) (ba out (bst op) (av op (bst op) 0))) (mdl op (bst op)))
def cF(L:Lks)(f:Int):Dis:=if aT L f=true then AK L L.length [] (ba [] f 0)else []
def xV(L:Lks):Prop:=L.length≤1000000∧(ap L).Nodup∧(∀x∈ap L,x≠0∧-9223372036854775808≤x∧x≤9223372036854775807)∧∀p∈L,p.2.length≤1000000∧∀s∈p.2,s.to∈ap L
structure jS (L:Lks) (out op:Dis):Prop where
  no:(ap out).Nodup
  np:(ap op).Nodup
  ko:∀x∈ap out,x∈ap L
  kp:∀x∈ap op,x∈ap L
  di:∀x∈ap op,x ∉ ap out
theorem cH{α β:Type}(l:List (α×β)):(ap l).length=l.length:=u' _
theorem jS.len1{L:Lks}{out op:Dis}(h:jS L out op):out.length≤L.length:=by
 have:=List.Nodup.length_le_of_subset h.no h.ko
 rwa [cH,cH]at this
theorem jS.len2{L:Lks}{out op:Dis}(h:jS L out op):op.length≤L.length:=by
 have:=List.Nodup.length_le_of_subset h.np h.kp
 rwa [cH,cH]at this
theorem GD{op:Dis}(h:op≠[]):∃c,(bst op,c)∈op∧∀x∈op,¬bfr x (bst op,c):=by
 obtain⟨b,h1,h2,h3⟩:=l5 h;have:bst op=b.1:=by unfold bst;rw[h1]
 rw[this];exact⟨b.2,h2,h3⟩
theorem LL{op:Dis}(h:op≠[]):bst op∈ap op:=by
 obtain⟨c,h1,_⟩:=GD h;exact aP.mpr ⟨c,h1⟩
theorem jS.pop{L:Lks}{out op:Dis}(h:jS L out op){b c:Int}(hb:b∈ap op):jS L (ba out b c) (mdl op b)∧(ba out b c).length=out.length+1:=by
 have hbo:=h.di b hb
 refine⟨⟨dv h.no,Ai h.np,λx hx=>?_,λx hx=>?_,λx hx hx2=>?_⟩,?_⟩
 ·obtain⟨v,hv⟩:=aP.mp hx
  rcases(bM h.no).mp hv with e|⟨e,_⟩
  ·cases e;exact h.kp _ hb
  ·exact h.ko _ (aP.mpr ⟨_,e⟩)
 ·obtain⟨v,hv⟩:=aP.mp hx;exact h.kp _ (aP.mpr ⟨_,((p8 h.np).mp hv).1⟩)
 ·obtain⟨v,hv⟩:=aP.mp hx;obtain⟨v2,hv2⟩:=aP.mp hx2;obtain⟨q1,q2⟩:=(p8 h.np).mp hv
  rcases(bM h.no).mp hv2 with e|⟨e,_⟩
  ·cases e;exact q2 rfl
  ·exact h.di _ (aP.mpr ⟨_,q1⟩) (aP.mpr ⟨_,e⟩)
 ·rw[Ds,E'];unfold aT;simpa using hbo
theorem jS.relx{L:Lks}{out op:Dis}(h:jS L out op){c:Int}{s:Stp}(hs:s.to∈ap L):jS L out (relx c out op s):=by
 unfold Go.Proofs.YtiobpjoadkfhdaaGreat.relx
 split
 ·exact h
 rename_i h1;have h1:s.to ∉ ap out:=by unfold aT at h1;simpa using h1
 split
 ·refine⟨h.no,dv h.np,h.ko,λx hx=>?_,λx hx=>?_⟩
  all_goals
   obtain⟨v,hv⟩:=aP.mp hx;rcases(bM h.np).mp hv with e|⟨e,_⟩
  ·cases e;exact hs
  ·exact h.kp _ (aP.mpr ⟨_,e⟩)
  ·cases e;exact h1
  ·exact h.di _ (aP.mpr ⟨_,e⟩)
 ·exact h
theorem jS.fold{L:Lks}{out:Dis}{c:Int}:∀{l:List Stp} {op:Dis},jS L out op→(∀s∈l,s.to∈ap L)→jS L out (l.foldl (Go.Proofs.YtiobpjoadkfhdaaGreat.relx c out) op)
 | [],op,h,_=>h
 | s::l,op,h,hs=>(h.relx (hs s (by simp))).fold λx hx=>hs x (by simp[hx])
def KG(links:(List (Int×List Stp)))(t0:(List (Int×Int))×(List (Int×Int))):NF:=⟨[(0,.k,.mp none (links.map λp:Int×List Stp=>MK.n p.1) (links.map λp:Int×List Stp=>(λl:List Stp=>AV.sl 2 (l.map Stp.v) false) p.2)),(5,.k,.mref 0),(8,.k,.mref 1)],[.map none (t0.2.map λp=>MK.n p.1) (t0.2.map λp=>AV.int p.2) (ae (λ_=>rfl) _),.map none (t0.1.map λp=>MK.n p.1) (t0.1.map λp=>AV.int p.2) (ae (λ_=>rfl) _)]⟩
def KF(links:(List (Int×List Stp)))(t0:(List (Int×Int))×(List (Int×Int)))(t1:Int×(List (Int×Int))):NF:=⟨[(0,.k,.mp none (links.map λp:Int×List Stp=>MK.n p.1) (links.map λp:Int×List Stp=>(λl:List Stp=>AV.sl 2 (l.map Stp.v) false) p.2)),(5,.k,.mref 0),(8,.k,.mref 1),rI 12 (av t0.1 (bst t0.1) 0),(79,.k,.sl 2 ((av links (bst t0.1) []).map Stp.v) false),rI 80 (((av links (bst t0.1) []).map Stp.v).length:Int),rI 81 t1.1],[.map none ((ba t0.2 (bst t0.1) (av t0.1 (bst t0.1) 0)).map λp=>MK.n p.1) ((ba t0.2 (bst t0.1) (av t0.1 (bst t0.1) 0)).map λp=>AV.int p.2) (ae (λ_=>rfl) _),.map none (t1.2.map λp=>MK.n p.1) (t1.2.map λp=>AV.int p.2) (ae (λ_=>rfl) _)]⟩
def KE(links:(List (Int×List Stp)))(t0:(List (Int×Int))×(List (Int×Int)))(t1:Int×(List (Int×Int)))(x1:Stp)(t2:Bool):NF:=⟨[(0,.k,.mp none (links.map λp:Int×List Stp=>MK.n p.1) (links.map λp:Int×List Stp=>(λl:List Stp=>AV.sl 2 (l.map Stp.v) false) p.2)),(5,.k,.mref 0),(8,.k,.mref 1),rI 12 (av t0.1 (bst t0.1) 0),rR 14 2,(79,.k,.sl 2 ((av links (bst t0.1) []).map Stp.v) false),rI 80 (((av links (bst t0.1) []).map Stp.v).length:Int),rI 81 t1.1,rB 109 t2],[.map none ((ba t0.2 (bst t0.1) (av t0.1 (bst t0.1) 0)).map λp=>MK.n p.1) ((ba t0.2 (bst t0.1) (av t0.1 (bst t0.1) 0)).map λp=>AV.int p.2) (ae (λ_=>rfl) _),.map none (t1.2.map λp=>MK.n p.1) (t1.2.map λp=>AV.int p.2) (ae (λ_=>rfl) _),.box (Stp.v x1)]⟩
@[reducible] def F0:Nat→Type
 | 0=>(List (Int×Int))×(List (Int×Int))
 | 1=>Int×(List (Int×Int))
 | 2=>Bool
 | _=>Unit
def F1(r:(List (Int×Int))):AV:=.mp none (r.map λp:Int×Int=>MK.n p.1) (r.map λp:Int×Int=>AV.int p.2)
def Fz(links:(List (Int×List Stp)))(from_:Int)(I0:((List (Int×Int))×(List (Int×Int)))→Prop)(m0:((List (Int×Int))×(List (Int×Int)))→Nat)(I1:(List (Int×Int))×(List (Int×Int))→(Int×(List (Int×Int)))→Prop)(m1:(List (Int×Int))×(List (Int×Int))→(Int×(List (Int×Int)))→Nat)(I2:(List (Int×Int))×(List (Int×Int))→Int×(List (Int×Int))→Stp→Bool→Prop):Ax Tryz.prog F0 ((List (Int×Int))):=
 (.mn 80 (Du false (λl:List Stp=>AV.sl 2 (l.map Stp.v) false) links from_ []) (.br 80 (aT links from_) (.mn 240 (mU AV.int ([]:List (Int×Int)) from_ 0) (.loop 0 (KG links) I0 m0 (ba ([]:List (Int×Int)) from_ 0,([]:List (Int×Int))) [16,208] λ(t0:(List (Int×Int))×(List (Int×Int))) b0 =>
(.say (ck (decide ((t0.1.map λp=>MK.n p.1).length≤maxLen))) (.br 50 (decide (0<((t0.1.map λp=>MK.n p.1).length:Int))) (.pass (.handQ 0 (yM links t0.2 t0.1 0) [0,1] ((yM links t0.2 t0.1 (bst t0.1)).st) Fi (CZ t0.1) (dst_h links t0.2 t0.1)
(.mn 34 (jF AV.int t0.1 (bst t0.1) 0) (.mn 98 (O7 AV.int t0.1 (bst t0.1)) (.mn 162 (mU AV.int t0.2 (bst t0.1) (av t0.1 (bst t0.1) 0)) (.say (λR=>ck (decide (((ba t0.2 (bst t0.1) (av t0.1 (bst t0.1) 0)).map λp=>MK.n p.1).length≤maxLen))
((ck (decide ((links.map λp=>MK.n p.1).length≤maxLen))
R))) (.br 258 ((((ba t0.2 (bst t0.1) (av t0.1 (bst t0.1) 0)).map λp=>MK.n p.1).length:Int)==((links.map λp=>MK.n p.1).length:Int)) (.say (Rf ((ba t0.2 (bst t0.1) (av t0.1 (bst t0.1) 0)).map λp=>AV.int p.2)) (.cmdL (.frzM 0 ((ba t0.2 (bst t0.1) (av t0.1 (bst t0.1) 0)).map λp=>AV.int p.2) (ae (λ_=>rfl) _)) (.ret (ba t0.2 (bst t0.1) (av t0.1 (bst t0.1) 0)))))
(.mn 290 (Du true (λl:List Stp=>AV.sl 2 (l.map Stp.v) false) links (bst t0.1) []) (.say (ck (aT links (bst t0.1))) (.loop 1 (KF links t0) (I1 t0) (m1 t0) (0,mdl t0.1 (bst t0.1)) [0,1] λ(t1:Int×(List (Int×Int))) b1 =>
(.br 18 (decide (t1.1<(((av links (bst t0.1) []).map Stp.v).length:Int))) (.elI 18 Stp.v (av links (bst t0.1) []) t1.1 λx1 =>
(.mn 130 (jF AV.int (ba t0.2 (bst t0.1) (av t0.1 (bst t0.1) 0)) x1.to 0) (.br 242 (aT (ba t0.2 (bst t0.1) (av t0.1 (bst t0.1) 0)) x1.to) (.bk 1 b1 (W (t1.1+1),t1.2) [0,1])
(.mn 290 (jF AV.int t1.2 x1.to 0) (.join 2 (KE links t0 t1 x1) (λ(t2:Bool)=>I2 t0 t1 x1 t2) (λb2=>(.br 434 (!(aT t1.2 x1.to)) (.bk 2 b2 ((true):Bool) [0,1,50])
(.bk 2 b2 ((decide ((W ((av t0.1 (bst t0.1) 0)+x1.cost))<(av t1.2 x1.to 0))):Bool) [0,1,50]))) λ(t2:Bool) =>
(.br 3 t2 (.mn 115 (mU AV.int t1.2 x1.to (W ((av t0.1 (bst t0.1) 0)+x1.cost))) (.bk 1 b1 (W (t1.1+1),ba t1.2 x1.to (W ((av t0.1 (bst t0.1) 0)+x1.cost))) [0,1]))
(.bk 1 b1 (W (t1.1+1),t1.2) [0,1])))))))
(.bk 0 b0 (t1.2,ba t0.2 (bst t0.1) (av t0.1 (bst t0.1) 0)) [0,1]))))))))))))
(.say (Rf (t0.2.map λp=>AV.int p.2)) (.cmdL (.frzM 0 (t0.2.map λp=>AV.int p.2) (ae (λ_=>rfl) _)) (.ret (t0.2))))))))
(.say (Rf (([]:List (Int×Int)).map λp=>AV.int p.2)) (.cmdL (.frzM 16 (([]:List (Int×Int)).map λp=>AV.int p.2) (ae (λ_=>rfl) _)) (.ret (([]:List (Int×Int))))))))
theorem P7(L:Lks)(f:Int)(h:xV L):∃I0 m0 I1 m1 I2,(Fz L f I0 m0 I1 m1 I2).vp F1 (cF L f):=by
 obtain⟨h1,h2,h3,h4⟩:=h;have hml:=aU
 refine⟨λt=>jS L t.2 t.1∧t.2.length<L.length∧AK L (L.length-t.2.length) t.2 t.1=cF L f,λt=>L.length-t.2.length,
  λt0 t=>l8 (av L (bst t0.1) []) (relx (av t0.1 (bst t0.1) 0) (ba t0.2 (bst t0.1) (av t0.1 (bst t0.1) 0))) (mdl t0.1 (bst t0.1)) t.1 t.2,λt0 t=>(av L (bst t0.1) []).length-t.1.toNat,
  λt0 t x b=>b=decide (aT t.2 x.to=false∨W (av t0.1 (bst t0.1) 0+x.cost)<av t.2 x.to 0),?_⟩
 dsimp only[Fz,F0,Ax.vp,Ax.vc];simp only[vcU,rfU,u']
 refine⟨λc=>⟨?_,?_⟩,λc=>by rw[cF,E' (by rw[c];simp)]⟩
 ·have hf:f∈ap L:=G' c;have h0:0<L.length:=by rw[←cH];exact List.length_pos_of_mem hf
  refine⟨⟨by simp[ap],by simp[ba,ap],by simp[ap],by simp[ba,ap];simpa[ap]using hf,by simp[ap]⟩,h0,by rw[cF,F' c];rfl⟩
 rintro⟨op,out⟩ ⟨hI,hlt,hD⟩;simp only at hI hlt hD ⊢;have q1:=hI.len1;have q2:=hI.len2;obtain⟨n,hn⟩:∃n,L.length-out.length=n+1:=⟨L.length-out.length-1,by omega⟩
 rw[hn,AK]at hD
 refine⟨by omega,λc1=>?_,λc1=>?_⟩
 ·have hne:op≠[]:=λe=>by rw[e]at c1;simp at c1
  rw[E' hne]at hD;have hb:=LL hne;obtain⟨hP,hPl⟩:=hI.pop (c:=av op (bst op) 0) hb;have q3:=hP.len1
  refine⟨λx hx=>h3 _ (hI.kp _ (aP.mpr ⟨x.2,hx⟩)),by omega,by omega,λc2=>?_,λc2=>?_⟩
  ·rw[F' (by have:=eq_of_beq c2;omega)]at hD;exact hD
  ·have c2:¬(ba out (bst op) (av op (bst op) 0)).length=L.length:=λe=>by rw[e]at c2;simp at c2
   rw[E' c2]at hD;have hbL:=hI.kp _ hb;have hst:(av L (bst op) []).length≤1000000∧∀s∈av L (bst op) [],s.to∈ap L:=h4 _ (bF (z:=[]) (decide_eq_true hbL));refine⟨decide_eq_true hbL,l8.zero,?_⟩;rintro⟨i,op2⟩ hG;simp only at hG ⊢
   refine⟨λc3=>⟨hG.idx,c3,λx hx=>⟨λe=>?_,λe=>⟨⟨λe2=>?_,λe2=>?_⟩,?_⟩⟩⟩,λc3=>?_⟩
   ·refine hG.step (by omega) hx ?_;rw[relx,F' e]
   ·rw[show aT op2 x.to=false by simpa using e2];simp
   ·rw[show aT op2 x.to=true by simpa using e2];simp
   ·rintro _ rfl
    refine⟨λe2=>?_,λe2=>?_⟩
    ·refine hG.step (by omega) hx ?_;rw[relx,E' (by rw[e];simp),F' (G' e2)]
    ·refine hG.step (by omega) hx ?_;rw[relx,E' (by rw[e];simp),E' (S' e2)]
   ·have hG:=hG.done c3;have hF:=hP.fold (c:=av op (bst op) 0) hst.2;rw[←hG]at hF hD;have:n=L.length-(ba out (bst op) (av op (bst op) 0)).length:=by omega
    rw[this]at hD;exact⟨⟨hF,by omega,hD⟩,by omega⟩
 ·have:op=[]:=aK' (by omega);rw[F' this]at hD;exact hD
def P8(links:(List (Int×List Stp)))(from_:Int)(h:xV links):PC Tryz.prog:=pcO 192 [.k,.k] [.mp none (links.map λp:Int×List Stp=>MK.n p.1) (links.map λp:Int×List Stp=>(λl:List Stp=>AV.sl 2 (l.map Stp.v) false) p.2),.int from_] .k F1 (cF links from_) (λ_=>let ⟨I0,m0,I1,m1,I2,h⟩:=P7 links from_ h;⟨_,h,by kernel_rfl⟩) rfl (by kernel_rfl)
theorem bJ{kk:Option Nat}{m k x:AO}{f:Nat}{ρ:AO→AV}{hp:Hp}:evA (.mset kk m k x) f ρ hp=match ρ m with
    | .mref b=>match hp b,(ρ k).key with
      | some (.map kk' ks vs),some q=>{ c:=kk'=kk∧q.fits kk∧(ρ x).solid=true,rm:=some b,ad:=some (b,dL kk ks vs q (ρ x)) }
      | _,_=>.bad
    | _=>.bad:=rfl
def evN(n:Nat):List AV:=(List.range n).map λi=>.vec (Fr (2 * i))
def odN(n:Nat):List AV:=(List.range n).map λi=>.vec (Fr (2 * i+1))
def kyN(l:List Int):List MK:=l.map MK.n
def rdH(t:Tpl)(ids:List Int)(a b:List AV):List (Option Blk):=
 [some (.box (Tpl.v t)),some (.box (.agg [.val (.map none),.val (.map none)])),some (.box (.agg [.mref 3,.mref 4])),some (.map none (kyN ids) a),some (.map none (kyN ids) b)]
abbrev GS(M:List (List Stp))(h:Hp):Hp:=GR 2 Stp.v M h
def rdS(t:Tpl)(M:List (List Stp)):S3:=
 ⟨cD [(1,.ref 0 0),(2,.ref 1 0),(3,.ref 2 0)],GS M (hpL 0 (rdH t (t.rs.map (·.id)) (evN t.rs.length) (odN t.rs.length))),2000⟩
def rd_m(t:Tpl):NF:=
 ⟨[(1,.k,.ref 0 0),(2,.k,.ref 1 0),(3,.k,.ref 2 0)],[.box (Tpl.v t),.box (.agg [.val (.map none),.val (.map none)]),.box (.agg [.mref 3,.mref 4]),.map none (([]:Lks).map λp=>MK.n p.1) (([]:Lks).map λp=>(λl:List Stp=>AV.sl 2 (l.map Stp.v) false) p.2) (ae (λ_=>rfl) _),.map none (([]:Lks).map λp=>MK.n p.1) (([]:Lks).map λp=>(λl:List Stp=>AV.sl 2 (l.map Stp.v) false) p.2) (ae (λ_=>rfl) _)]⟩
def C4:AC:=.seq (.reg [⟨(some 12),.faddr 0 (.t 1),none⟩,⟨(some 13),.load false 1 (.t 12),none⟩,⟨(some 14),.len (.t 13),none⟩,⟨(some 15),.move (.c (.val (.int .i64 0))),none⟩])
 (.block 0 (.loop (.seq (.reg [⟨(some 16),.bin .lss (.t 15) (.t 14),none⟩])
 (.seq (.cond (.t 16) (.skip) (.exit 0))
 (.seq (.block 1 (.seq (.reg [⟨(some 17),.iaddr 2 (.t 13) (.t 15),none⟩,⟨(some 18),.load true 2 (.t 17),none⟩,⟨(some 5),.box (.c (.agg [(.val (.int .i64 0)),(.val (.bool false))])),none⟩,⟨none,.store 2 (.t 5) (.t 18),none⟩])
 (.dreg [⟨(some 19),.faddr 0 (.t 3),none⟩,⟨(some 20),.load false 1 (.t 19),none⟩,⟨(some 21),.faddr 0 (.t 5),none⟩,⟨(some 22),.load false 1 (.t 21),none⟩,⟨(some 23),.faddr 1 (.t 3),none⟩,⟨(some 24),.load false 1 (.t 23),none⟩,⟨(some 25),.faddr 0 (.t 5),none⟩,⟨(some 26),.load false 1 (.t 25),none⟩,⟨none,.mset none (.t 20) (.t 22) (.c (.sl 0 [] true)),none⟩,⟨none,.mset none (.t 24) (.t 26) (.c (.sl 0 [] true)),none⟩] [(1,3),(1,5),(3,5),(1,7),(3,7),(5,7),(5,8),(7,8)])))
 (.reg [⟨(some 27),.bin .add (.t 15) (.c (.val (.int .i64 1))),none⟩,⟨(some 15),.move (.t 27),none⟩]))))))
theorem kI(n:Nat):(evN n).length=n:=by simp[evN]
theorem km(n:Nat):(odN n).length=n:=by simp[odN]
theorem c8(x:Stp):x.v.pureB=true:=rfl
theorem AW(l:List Rtr):aD (l.map Rtr.v):=au (ae (λ_=>rfl) l)
theorem nS{k:Nat}:∀{xs:List AV},(∀x∈xs,x.bel k)→gN k xs
 | [],_=>trivial
 | x::xs,h=>⟨h x (by simp),nS λy hy=>h y (by simp[hy])⟩
theorem pW{n:Nat}(h:n≤400):gN 2000 (evN n):=nS λx hx=>by
 obtain⟨i,hi,rfl⟩:=aa'.mp hx;have:=as'.mp hi;show Fr (2 * i)<2000;unfold Fr;omega
theorem px{n:Nat}(h:n≤400):gN 2000 (odN n):=nS λx hx=>by
 obtain⟨i,hi,rfl⟩:=aa'.mp hx;have:=as'.mp hi;show Fr (2 * i+1)<2000;unfold Fr;omega
theorem pU{n:Nat}(h:n≤400)(bs fs:Nat→Nat):cG (fm bs fs) (evN n)=(List.range n).map λi=>.vec (fs (2 * i)):=by
 rw[dt,evN,aZ'];refine an' λi hi=>?_;have:=as'.mp hi;show AV.vec (fm bs fs (Fr (2 * i)))=_;rw[jH (by omega)]
theorem pw{n:Nat}(h:n≤400)(bs fs:Nat→Nat):cG (fm bs fs) (odN n)=(List.range n).map λi=>.vec (fs (2 * i+1)):=by
 rw[dt,odN,aZ'];refine an' λi hi=>?_;have:=as'.mp hi;show AV.vec (fm bs fs (Fr (2 * i+1)))=_;rw[jH (by omega)]
theorem ot{t:Tpl}{ids:List Int}{n:Nat}{hp:Hp}{fs:Nat→Nat}{a b:List AV}(hn:n≤400)(h0:hp 0=some (.box (Tpl.v t)))(h1:hp 1=some (.box (.agg [.val (.map none),.val (.map none)])))(h2:hp 2=some (.box (.agg [.mref 3,.mref 4])))
  (h3:hp 3=some (.map none (kyN ids) a)) (h4:hp 4=some (.map none (kyN ids) b)) (ha:a=(List.range n).map λi=>.vec (fs (2 * i))) (hb:b=(List.range n).map λi=>.vec (fs (2 * i+1))) :
  ∀i x,(rdH t ids (evN n) (odN n))[i]?=some (some x)→hp ((λb=>b) i)=some (x.ren (fm (λb=>b) fs))∧x.bel 2000:=by
 have hr:=aK (fm (λb=>b) fs) (AW t.rs);intro i x h
 rcases i with _|_|_|_|_|i
 ·cases h;exact⟨h0,⟨trivial,trivial,trivial⟩⟩
 ·cases h;exact⟨h1,⟨trivial,trivial,trivial⟩⟩
 ·cases h;exact⟨h2,⟨show 3<2000 by omega,show 4<2000 by omega,trivial⟩⟩
 ·cases h;exact⟨by show hp 3=_;rw[h3,Blk.ren,pU hn,ha],pW hn⟩
 ·cases h;exact⟨by show hp 4=_;rw[h4,Blk.ren,pw hn,hb],px hn⟩
 ·simp[rdH]at h
structure Chk5 (t:Tpl):Prop where
  nr:t.rs.length≤24
  nl:t.ls.length≤60
  rg:∀x∈t.rs,1≤x.id∧x.id≤99
  asc:t.rs.Pairwise (λx y=>x.id<y.id)
  lr:∀l∈t.ls,iu l
  has:∀l∈t.ls,aJ t l.a=true∧aJ t l.b=true
  lt:∀l∈t.ls,l.a<l.b
  ord:t.ls.Pairwise bC
theorem ax{t:Tpl}(h:aC t=0):Chk5 t:=by
 unfold aC at h
 by_cases a1:24<t.rs.length∨60<t.ls.length
 ·rw[F' a1]at h;omega
 rw[E' a1]at h;by_cases a2:∀x∈t.rs,1≤x.id∧x.id≤99
 case neg=>rw[F' a2]at h;omega
 rw[E' (not_not_intro a2)]at h;by_cases a3:t.rs.Pairwise (λx y=>x.id<y.id)
 case neg=>rw[F' a3]at h;omega
 rw[E' (not_not_intro a3)]at h;by_cases a4:∀l∈t.ls,iu l
 case neg=>rw[F' a4]at h;omega
 rw[E' (not_not_intro a4)]at h;by_cases a5:∀l∈t.ls,aJ t l.a=true∧aJ t l.b=true
 case neg=>rw[F' a5]at h;omega
 rw[E' (not_not_intro a5)]at h;by_cases a6:∀l∈t.ls,l.a<l.b
 case neg=>rw[F' a6]at h;omega
 rw[E' (not_not_intro a6)]at h;by_cases a7:t.ls.Pairwise bC
 case neg=>rw[F' a7]at h;omega
 exact⟨by omega,by omega,a2,a3,a4,a5,a6,a7⟩
theorem Gs{t:Tpl}(h:aC t=0):t.rs.Pairwise (λx y=>x.id<y.id):=(ax h).asc
theorem LZ{l:List Rtr}(h:l.Pairwise (λx y=>x.id<y.id)){i j:Nat}(hij:i<j){x y:Rtr}(hx:l[i]?=some x)(hy:l[j]?=some y):x.id<y.id:=by
 have hi:=am hx;have hj:=am hy;rw[f' hi]at hx;rw[f' hj]at hy;have:=at'.mp h i j hi hj hij;rw[Z' hx,Z' hy]at this;exact this
theorem K5(i m:Nat)(x:AV):(evN i++[x]).set i (.vec m)=(List.range (i+1)).map λj=>.vec ((λj=>if j=2 * i then m else if j=2 * i+1 then m+1 else Fr j) (2 * j)):=by
 rw[bw' _ _ (by rw[kI];exact X' _),kI,ba',cb',bT',aI']
 congr 1
 ·refine an' λj hj=>?_;have:=as'.mp hj;simp only;rw[E' (by omega),E' (by omega)]
 ·simp
theorem J0(i m:Nat)(x:AV):(odN i++[x]).set i (.vec (m+1))=(List.range (i+1)).map λj=>.vec ((λj=>if j=2 * i then m else if j=2 * i+1 then m+1 else Fr j) (2 * j+1)):=by
 rw[bw' _ _ (by rw[km];exact X' _),km,ba',cb',bT',aI']
 congr 1
 ·refine an' λj hj=>?_;have:=as'.mp hj;simp only;rw[E' (by omega),E' (by omega)]
 ·simp
theorem rd_h1(t:Tpl)(hc:aC t=0)(k:Nat):dI Tryz.prog 0 k C4 (rd_m t).st (rdS t (List.replicate (2 * t.rs.length) [])):=by
 unfold dI C4;show AWP _ 0 k _ _ ⟨cD [(1,.ref 0 0),(2,.ref 1 0),(3,.ref 2 0)],hpL 0 (rdH t [] [] []),5⟩;have hR:t.rs.length≤400:=by have:=(cJ hc).1;omega
 have hdi:=Gs hc;have hml:=aU;refine AWP.seq' ?_;refine AWP.reg' λK hK=>?_
 try simp only[ag,seval,rdH,Tpl.v,u']
 refine hK _ _ _ ?_;clear hK K;refine AWP.block ?_;have hge:∀{i:Nat} {r:Rtr},t.rs[i]?=some r→(t.rs.map Rtr.v).getD i .unk=Rtr.v r:=λ{i r} h=>by rw[H',I',h];rfl
 refine AWP.loopS (λi:Nat=>⟨cD [(1,.ref 0 0),(2,.ref 1 0),(3,.ref 2 0),(13,.sl 2 (t.rs.map Rtr.v) false),(14,.int t.rs.length),(15,.int (i:Nat))],GS (List.replicate (2 * i) []) (hpL 0 (rdH t ((t.rs.take i).map (·.id)) (evN i) (odN i))),2000⟩)
  (λi=>i≤t.rs.length) (λi=>t.rs.length-i) (i0:=0) (am' _) ?_ ?_
 ·refine ao.nfR c8 _ _ _ (λb=>b) Fr ?_ (ot (by omega) rfl rfl rfl rfl rfl rfl rfl) (by simp[rdH]) (by simp) (by simp) (λi j _ _ h=>h) (λi j _ _ h=>by unfold Fr at h;omega) (λi j h1 h2=>by simp at h2) (λb _=>rfl) (by decide);simp only[aM',aB',false_implies,implies_true,and_true];exact⟨⟨rfl,show 0<2000 by omega⟩,⟨rfl,show 1<2000 by omega⟩,⟨rfl,show 2<2000 by omega⟩,⟨rfl,trivial⟩,⟨rfl,trivial⟩,rfl,trivial⟩
 ·intro i hi;refine AWP.seq' ?_;refine AWP.reg' λK hK=>?_
  try simp only[ag,seval]
  refine hK _ _ _ ?_;clear hK K;refine AWP.seq' ?_
  refine AWP.cond (b:=decide ((i:Int)<(t.rs.length:Int))) rfl (λh=>?_) (λh=>?_)
  ·have h:i<t.rs.length:=by have:=G' h;omega
   have hr:t.rs[i]?=some t.rs[i]:=f' h;generalize t.rs[i]=r at hr;refine AWP.skip ?_;refine AWP.seq' (AWP.block (AWP.seq' ?_));have hG0:∀b,b<1000→GS (List.replicate (2 * i) []) (hpL 0 (rdH t ((t.rs.take i).map (·.id)) (evN i) (odN i))) b=hpL 0 (rdH t ((t.rs.take i).map (·.id)) (evN i) (odN i)) b:=λb hb=>lN hb;refine AWP.reg' λK hK=>?_
   try simp only[ag,seval,hge hr,Int.toNat_natCast,u',Rtr.v]
   refine⟨⟨by omega,by omega⟩,?_⟩;refine hK _ _ _ ?_;clear hK K;have hnm:¬MK.n r.id∈kyN ((t.rs.take i).map (·.id)):=λhm=>by
    obtain⟨q,hq,e⟩:=aa'.mp hm;obtain⟨r',hr',rfl⟩:=aa'.mp hq;obtain⟨j,hj⟩:=ac'.mp hr';have hji:j<i:=by have:=am hj;rw[ar']at this;omega
    rw[List.getElem?_take_of_lt hji]at hj;have:=LZ hdi hji hj hr;have:=MK.n.inj e;omega
   generalize hids:(t.rs.take i).map (·.id)=ids at hnm hG0 ⊢;have g2:GS (List.replicate (2 * i) []) (hpL 0 (rdH t ids (evN i) (odN i))) 2=some (.box (.agg [.mref 3,.mref 4])):=hG0 2 (by decide);have g3:GS (List.replicate (2 * i) []) (hpL 0 (rdH t ids (evN i) (odN i))) 3=some (.map none (kyN ids) (evN i)):=hG0 3 (by decide);have g4:GS (List.replicate (2 * i) []) (hpL 0 (rdH t ids (evN i) (odN i))) 4=some (.map none (kyN ids) (odN i)):=hG0 4 (by decide);refine AWP.dreg' λK hK=>?_
   try simp only[ag,seval,g2,g3,g4,bJ,AV.key,MK.fits,dL,hnm,if_false]
   refine⟨by rfl,hK _ _ _ ?_⟩;clear hK K;refine(show AWP _ _ _ _ _ _ from ?_);have w:IntKind.i64.wrap ((i:Int)+1)=((i+1:Nat):Int):=j5 (by omega) (by omega);refine AWP.reg' λK hK=>?_
   try simp only[ag,seval,w]
   refine hK _ _ _ ?_;clear hK K;refine⟨i+1,by omega,by omega,?_⟩;have hids':(t.rs.take (i+1)).map (·.id)=ids++[r.id]:=by rw[aB hr,aI',hids];rfl
   rw[hids'];have hky:kyN (ids++[r.id])=kyN ids++[MK.n r.id]:=by simp[kyN]
   refine ao.trans (ao.nilvecM (ks:=kyN ids++[.n r.id]) (vs:=evN i++[.sl 0 [] true]) 3 i 0 2 (by simp only[aj];rfl) (by rw[aL' (by rw[kI];exact X' _),kI,ba'];rfl) (am' _)) ?_;refine ao.trans (ao.nilvecM (ks:=kyN ids++[.n r.id]) (vs:=odN i++[.sl 0 [] true]) 4 i 0 2 (by simp only[aj];rfl) (by rw[aL' (by rw[km];exact X' _),km,ba'];rfl) (am' _)) ?_
   refine ao.nfR c8 _ _ _ (λb=>b) (λj=>if j=2 * i then 2272 else if j=2 * i+1 then 2272+1 else Fr j) ?_
    (ot (by omega) ?_ ?_ ?_ (by rw[hky];simp only[aj];rfl) (by rw[hky];simp only[aj];rfl) (K5 i 2272 _) (J0 i 2272 _)) (by simp[rdH]) (by simp;omega) ?_ (λi j _ _ h=>h) ?_ ?_ (λb _=>rfl) (by decide)
   ·simp only[aM',aB',false_implies,implies_true,and_true];exact⟨⟨rfl,show 0<2000 by omega⟩,⟨rfl,show 1<2000 by omega⟩,⟨rfl,show 2<2000 by omega⟩,⟨rfl,trivial⟩,⟨rfl,trivial⟩,rfl,trivial⟩
   ·simp only[aj];exact hG0 0 (by decide)
   ·simp only[aj];exact hG0 1 (by decide)
   ·simp only[aj];exact hG0 2 (by decide)
   ·intro j q hj;rw[aY']at hj;split at hj
    case isFalse=>cases hj
    cases hj;rename_i hj2
    split
    ·rfl
    ·split
     ·rfl
     ·have:(List.replicate (2 * i) ([]:List Stp))[j]?=some []:=by rw[aY',F' (by omega)]
      simp only[aj,oQ (show 3<1000 by omega),oQ (show 4<1000 by omega),im (show j<1000 by omega) (show 2000≤2272 by omega),im (show j<1000 by omega) (show 2000≤2272+1 by omega),im (show j<1000 by omega) (show 2000≤2048 by omega),if_false];exact ig this (by simp;omega)
   ·intro a b ha hb he;simp at ha hb;unfold Fr at he
    (repeat' split at he)<;>omega
   ·intro a b ha hb he;simp only[rdH,Y',al']at ha;unfold Fr at he
    (repeat' split at he)<;>omega
  ·have h:i=t.rs.length:=by have:=S' h;omega
   subst h;refine AWP.exit ?_;refine(show ao 0 k _ _ from ?_);unfold rdS;rw[List.take_length];refine ao.nfR c8 _ _ _ (λb=>b) Fr ?_ (ot (by omega) rfl rfl rfl rfl rfl rfl rfl) (by simp[rdH]) (by simp;omega) (λj r hr=>ig hr (by simp;omega)) (λi j _ _ h=>h) (λi j _ _ h=>by unfold Fr at h;omega) (λi j h1 h2 h=>by simp[rdH]at h1;unfold Fr at h;omega) (λb _=>rfl) (by decide);simp only[aM',aB',false_implies,implies_true,and_true];exact⟨⟨rfl,show 0<2000 by omega⟩,⟨rfl,show 1<2000 by omega⟩,rfl,show 2<2000 by omega⟩
def Cz:AC:=.dreg [⟨(some 35),.faddr 0 (.t 3),none⟩,⟨(some 36),.load false 1 (.t 35),none⟩,⟨(some 37),.faddr 0 (.t 7),none⟩,⟨(some 38),.load false 1 (.t 37),none⟩,⟨(some 39),.faddr 0 (.t 3),none⟩,⟨(some 40),.load false 1 (.t 39),none⟩,⟨(some 41),.faddr 0 (.t 7),none⟩,⟨(some 42),.load false 1 (.t 41),none⟩,⟨(some 43),.mget none ((.sl 0 [] true)) false (.t 40) (.t 42),none⟩,⟨(some 44),.faddr 1 (.t 7),none⟩,⟨(some 45),.load false 1 (.t 44),none⟩,⟨(some 46),.faddr 2 (.t 7),none⟩,⟨(some 47),.load false 1 (.t 46),none⟩,⟨(some 48),.build [(.val (.int .i64 0)),(.val (.int .i64 0))] [(0,1,(.t 45)),(1,1,(.t 47))],none⟩,⟨(some 49),.lit 2 1 (.agg [(.val (.int .i64 0)),(.val (.int .i64 0))]) [(0,(.t 48))],none⟩,⟨(some 50),.append 2 16 (.t 43) (.t 49),none⟩,⟨none,.mset none (.t 36) (.t 38) (.t 50),none⟩] [(1,3),(1,5),(3,5),(1,7),(3,7),(5,7),(1,8),(3,8),(1,10),(3,10),(5,10),(7,10),(8,10),(1,12),(3,12),(5,12),(7,12),(8,12),(10,12),(1,14),(3,14),(5,14),(7,14),(8,14),(1,15),(3,15)]
def Cy:AC:=.dreg [⟨(some 51),.faddr 0 (.t 3),none⟩,⟨(some 52),.load false 1 (.t 51),none⟩,⟨(some 53),.faddr 1 (.t 7),none⟩,⟨(some 54),.load false 1 (.t 53),none⟩,⟨(some 55),.faddr 0 (.t 3),none⟩,⟨(some 56),.load false 1 (.t 55),none⟩,⟨(some 57),.faddr 1 (.t 7),none⟩,⟨(some 58),.load false 1 (.t 57),none⟩,⟨(some 59),.mget none ((.sl 0 [] true)) false (.t 56) (.t 58),none⟩,⟨(some 60),.faddr 0 (.t 7),none⟩,⟨(some 61),.load false 1 (.t 60),none⟩,⟨(some 62),.faddr 3 (.t 7),none⟩,⟨(some 63),.load false 1 (.t 62),none⟩,⟨(some 64),.build [(.val (.int .i64 0)),(.val (.int .i64 0))] [(0,1,(.t 61)),(1,1,(.t 63))],none⟩,⟨(some 65),.lit 2 1 (.agg [(.val (.int .i64 0)),(.val (.int .i64 0))]) [(0,(.t 64))],none⟩,⟨(some 66),.append 2 16 (.t 59) (.t 65),none⟩,⟨none,.mset none (.t 52) (.t 54) (.t 66),none⟩] [(1,3),(1,5),(3,5),(1,7),(3,7),(5,7),(1,8),(3,8),(1,10),(3,10),(5,10),(7,10),(8,10),(1,12),(3,12),(5,12),(7,12),(8,12),(10,12),(1,14),(3,14),(5,14),(7,14),(8,14),(1,15),(3,15)]
def Cx:AC:=.dreg [⟨(some 67),.faddr 1 (.t 3),none⟩,⟨(some 68),.load false 1 (.t 67),none⟩,⟨(some 69),.faddr 1 (.t 7),none⟩,⟨(some 70),.load false 1 (.t 69),none⟩,⟨(some 71),.faddr 1 (.t 3),none⟩,⟨(some 72),.load false 1 (.t 71),none⟩,⟨(some 73),.faddr 1 (.t 7),none⟩,⟨(some 74),.load false 1 (.t 73),none⟩,⟨(some 75),.mget none ((.sl 0 [] true)) false (.t 72) (.t 74),none⟩,⟨(some 76),.faddr 0 (.t 7),none⟩,⟨(some 77),.load false 1 (.t 76),none⟩,⟨(some 78),.faddr 2 (.t 7),none⟩,⟨(some 79),.load false 1 (.t 78),none⟩,⟨(some 80),.build [(.val (.int .i64 0)),(.val (.int .i64 0))] [(0,1,(.t 77)),(1,1,(.t 79))],none⟩,⟨(some 81),.lit 2 1 (.agg [(.val (.int .i64 0)),(.val (.int .i64 0))]) [(0,(.t 80))],none⟩,⟨(some 82),.append 2 16 (.t 75) (.t 81),none⟩,⟨none,.mset none (.t 68) (.t 70) (.t 82),none⟩] [(1,3),(1,5),(3,5),(1,7),(3,7),(5,7),(1,8),(3,8),(1,10),(3,10),(5,10),(7,10),(8,10),(1,12),(3,12),(5,12),(7,12),(8,12),(10,12),(1,14),(3,14),(5,14),(7,14),(8,14),(1,15),(3,15)]
def Cw:AC:=.dreg [⟨(some 83),.faddr 1 (.t 3),none⟩,⟨(some 84),.load false 1 (.t 83),none⟩,⟨(some 85),.faddr 0 (.t 7),none⟩,⟨(some 86),.load false 1 (.t 85),none⟩,⟨(some 87),.faddr 1 (.t 3),none⟩,⟨(some 88),.load false 1 (.t 87),none⟩,⟨(some 89),.faddr 0 (.t 7),none⟩,⟨(some 90),.load false 1 (.t 89),none⟩,⟨(some 91),.mget none ((.sl 0 [] true)) false (.t 88) (.t 90),none⟩,⟨(some 92),.faddr 1 (.t 7),none⟩,⟨(some 93),.load false 1 (.t 92),none⟩,⟨(some 94),.faddr 3 (.t 7),none⟩,⟨(some 95),.load false 1 (.t 94),none⟩,⟨(some 96),.build [(.val (.int .i64 0)),(.val (.int .i64 0))] [(0,1,(.t 93)),(1,1,(.t 95))],none⟩,⟨(some 97),.lit 2 1 (.agg [(.val (.int .i64 0)),(.val (.int .i64 0))]) [(0,(.t 96))],none⟩,⟨(some 98),.append 2 16 (.t 91) (.t 97),none⟩,⟨none,.mset none (.t 84) (.t 86) (.t 98),none⟩] [(1,3),(1,5),(3,5),(1,7),(3,7),(5,7),(1,8),(3,8),(1,10),(3,10),(5,10),(7,10),(8,10),(1,12),(3,12),(5,12),(7,12),(8,12),(10,12),(1,14),(3,14),(5,14),(7,14),(8,14),(1,15),(3,15)]
def rdL(t:Tpl)(l:Lnk)(ids:List Int)(a b:List AV):List (Option Blk):=
 [some (.box (Tpl.v t)),some (.box (.agg [.val (.map none),.val (.map none)])),some (.box (.agg [.mref 3,.mref 4])),some (.map none (kyN ids) a),some (.map none (kyN ids) b),some (.box (Lnk.v l))]
def rdT(t:Tpl)(l:Lnk)(i:Nat)(M:List (List Stp)):S3:=
 ⟨cD [(1,.ref 0 0),(2,.ref 1 0),(3,.ref 2 0),(7,.ref 5 0),(29,.sl 5 (t.ls.map Lnk.v) false),(30,.int t.ls.length),(31,.int (i:Nat))],GS M (hpL 0 (rdL t l (t.rs.map (·.id)) (evN t.rs.length) (odN t.rs.length))),2000⟩
theorem rf{t:Tpl}{l:Lnk}{ids:List Int}{n:Nat}{hp:Hp}{bs fs:Nat→Nat}{a b:List AV}(hbs:bs 0=0∧bs 1=1∧bs 2=2∧bs 3=3∧bs 4=4)(hn:n≤400)(h0:hp 0=some (.box (Tpl.v t)))(h1:hp 1=some (.box (.agg [.val (.map none),.val (.map none)])))(h2:hp 2=some (.box (.agg [.mref 3,.mref 4])))
  (h3:hp 3=some (.map none (kyN ids) a)) (h4:hp 4=some (.map none (kyN ids) b)) (h5:hp (bs 5)=some (.box (Lnk.v l))) (ha:a=(List.range n).map λi=>.vec (fs (2 * i))) (hb:b=(List.range n).map λi=>.vec (fs (2 * i+1))) :
  ∀i x,(rdL t l ids (evN n) (odN n))[i]?=some (some x)→hp (bs i)=some (x.ren (fm bs fs))∧x.bel 2000:=by
 obtain⟨b0,b1,b2,b3,b4⟩:=hbs;have e3:fm bs fs 3=3:=by rw[eQ (by omega),b3]
 have e4:fm bs fs 4=4:=by rw[eQ (by omega),b4]
 intro i x h
 rcases i with _|_|_|_|_|_|i
 ·cases h;exact⟨by rw[b0];exact h0,⟨trivial,trivial,trivial⟩⟩
 ·cases h;exact⟨by rw[b1];exact h1,⟨trivial,trivial,trivial⟩⟩
 ·cases h;exact⟨by rw[b2,h2];show _=some (Blk.box (.agg [.mref (fm bs fs 3),.mref (fm bs fs 4)]));rw[e3,e4],⟨show 3<2000 by omega,show 4<2000 by omega,trivial⟩⟩
 ·cases h;exact⟨by show hp (bs 3)=_;rw[b3,h3,Blk.ren,pU hn,ha],pW hn⟩
 ·cases h;exact⟨by show hp (bs 4)=_;rw[b4,h4,Blk.ren,pw hn,hb],px hn⟩
 ·cases h;exact⟨h5,trivial,trivial,trivial,trivial,trivial,trivial⟩
 ·simp[rdL]at h
def apR(M:List (List Stp))(x:Nat)(s:Stp):List (List Stp):=M.set x (M.getD x []++[s])
theorem ic(M:List (List Stp))(x:Nat)(s:Stp):(apR M x s).length=M.length:=by simp[apR]
theorem kC{ids:List Int}(hn:ids.Nodup){x:Nat}{a:Int}(h:ids[x]?=some a):MK.n a∈kyN ids∧(kyN ids).idxOf (MK.n a)=x:=by
 have h2:(kyN ids)[x]?=some (MK.n a):=by rw[kyN,I',h];rfl
 refine⟨J' h2,nu ?_ h2⟩;exact List.Pairwise.map MK.n (λa b h e=>h (MK.n.inj e)) hn
theorem pV{n x:Nat}(h:x<n):(evN n).getD x .unk=.vec (Fr (2 * x)):=by simp[evN,H',h]
theorem xX{n x:Nat}(h:x<n):(odN n).getD x .unk=.vec (Fr (2 * x+1)):=by simp[odN,H',h]
theorem K4(n x m:Nat)(h:x<n):(evN n).set x (.vec m)=(List.range n).map λi=>.vec ((λj=>if j=2 * x then m else Fr j) (2 * i)):=by
 refine aJ' λi=>?_;rw[ak',evN,I',I',u',ch']
 by_cases e:x=i
 ·subst e;simp[h]
 ·rw[E' e]
  by_cases hi:i<n
  ·simp[hi,show ¬2 * i=2 * x by omega]
  ·simp[hi]
theorem Fc(n x m:Nat):evN n=(List.range n).map λi=>.vec ((λj=>if j=2 * x+1 then m else Fr j) (2 * i)):=by
 refine an' λi _=>?_;simp only;rw[E' (by omega)]
theorem Jz(n x m:Nat)(h:x<n):(odN n).set x (.vec m)=(List.range n).map λi=>.vec ((λj=>if j=2 * x+1 then m else Fr j) (2 * i+1)):=by
 refine aJ' λi=>?_;rw[ak',odN,I',I',u',ch']
 by_cases e:x=i
 ·subst e;simp[h]
 ·rw[E' e]
  by_cases hi:i<n
  ·simp[hi];intro h;omega
  ·simp[hi]
theorem Da(n x m:Nat):odN n=(List.range n).map λi=>.vec ((λj=>if j=2 * x then m else Fr j) (2 * i+1)):=by
 refine an' λi _=>?_;simp only;rw[E' (by omega)]
theorem rdu1{n x m:Nat}(hx:x<n):(evN n).set x (.vec m)=(List.range n).map λi=>.vec ((λj=>if j=2 * x then m else Fr j) (2 * i)):=K4 n x m hx
theorem rdu2{n x m:Nat}(hx:x<n):odN n=(List.range n).map λi=>.vec ((λj=>if j=2 * x then m else Fr j) (2 * i+1)):=Da n x m
theorem rdu3{n x m:Nat}(hx:x<n):evN n=(List.range n).map λi=>.vec ((λj=>if j=2 * x+1 then m else Fr j) (2 * i)):=Fc n x m
theorem rdu4{n x m:Nat}(hx:x<n):(odN n).set x (.vec m)=(List.range n).map λi=>.vec ((λj=>if j=2 * x+1 then m else Fr j) (2 * i+1)):=Jz n x m hx
theorem rd_a1(t:Tpl)(hc:aC t=0)(l:Lnk)(i:Nat)(M:List (List Stp))(hM:M.length=2 * t.rs.length)(hr:∀r∈M,r.length≤100000){x:Nat}(hx:(t.rs.map (·.id))[x]?=some l.a)(k:Nat){Q:X→S3→Prop}
    (hQ:∀s,ao 0 k s (rdT t l i (apR M (2*x) ⟨l.b,l.ca⟩))→Q .normal s):AWP Tryz.prog 0 k Cz Q (rdT t l i M):=by
  have hO:=ax hc;have hR:=hO.nr;have hxl:x<t.rs.length:=by have:=am hx;rwa [u']at this
  have hnd:(t.rs.map (·.id)).Nodup:=List.Pairwise.map _ (λa b h=>by omega) hO.asc;obtain⟨hk1,hk2⟩:=kC hnd hx;obtain⟨row,hrow⟩:∃row,M[2*x]?=some row:=⟨M[2*x]'(by omega),f' (by omega)⟩
  have hrl:=hr row (J' hrow);unfold rdT Cz;generalize hids:t.rs.map (·.id)=ids at *
  have hG0:∀b,b<1000→GS M (hpL 0 (rdL t l ids (evN t.rs.length) (odN t.rs.length))) b=hpL 0 (rdL t l ids (evN t.rs.length) (odN t.rs.length)) b:=λb hb=>lN hb;have g2:GS M (hpL 0 (rdL t l ids (evN t.rs.length) (odN t.rs.length))) 2=some (.box (.agg [.mref 3,.mref 4])):=hG0 2 (by decide);have g3:GS M (hpL 0 (rdL t l ids (evN t.rs.length) (odN t.rs.length))) 3=some (.map none (kyN ids) (evN t.rs.length)):=hG0 3 (by decide);have g4:GS M (hpL 0 (rdL t l ids (evN t.rs.length) (odN t.rs.length))) 4=some (.map none (kyN ids) (odN t.rs.length)):=hG0 4 (by decide);have g5:GS M (hpL 0 (rdL t l ids (evN t.rs.length) (odN t.rs.length))) 5=some (.box (.agg [.int l.a,.int l.b,.int l.ca,.int l.cb,.int l.w])):=hG0 5 (by decide);have gF:GS M (hpL 0 (rdL t l ids (evN t.rs.length) (odN t.rs.length))) (Fr (2*x))=some (.vec 2 (row.map Stp.v)):=ig hrow (by omega);have hmg:cR (kyN ids) (evN t.rs.length) (MK.n l.a) (.sl 0 [] true) false=.vec (Fr (2*x)):=by
    unfold cR;rw[F' hk1,hk2,pV hxl];rfl
  have hms:∀v,dL none (kyN ids) (evN t.rs.length) (MK.n l.a) v=  .map none (kyN ids) ((evN t.rs.length).set x v):=λv=>by
    unfold dL;rw[F' hk1,hk2]
  have hml:=aU;refine AWP.dreg' λK hK=>?_
  try simp only[ag,seval,g2,g3,g4,g5,bJ,bj,dF,AV.key,MK.fits,hmg,hms,gF,and_self,true_and]
  refine c7 ?_;have hap:∀xs f,aS (GS M (hpL 0 (rdL t l ids (evN t.rs.length) (odN t.rs.length)))) f 2 16 (.vec (Fr (2*x))) (some xs)={ c:=(row.length+xs.length) * 16≤2 ^ 47∧row.length+xs.length≤maxLen,v:=.vec f,rm:=some (Fr (2*x)),ad:=some (f,.vec 2 (row.map Stp.v++xs)) }:=λxs f=>by
    simp[aS,gF]
  try simp only[ag,seval,gF,g2,g3,g4,g5,hap,hms,bJ,AV.key,MK.fits,and_self,true_and,dh,bL (show 3<1000 by omega),if_false]
  refine⟨⟨by omega,by omega⟩,?_⟩
  refine⟨?_,hK _ _ _ (hQ _ ?_)⟩
  · have e2:∀n,n<1000→(Fr (2*x)==n)=false:=λn hn=>by simp[Fr];omega
    have e3:∀n,n<1000→(n==Fr (2*x))=false:=λn hn=>by simp[Fr];omega
    simp[eD,iU,bi,AOp.opers,aL,evO,aj,e2,e3];unfold Fr;omega
  have hap':apR M (2*x) ⟨l.b,l.ca⟩=M.set (2*x) (row++[⟨l.b,l.ca⟩]):=by unfold apR;rw[H',hrow];rfl
  rw[hap']
  refine ao.nfR c8 _ _ _ (λb=>b) (λj=>if j=2*x then 2240 else Fr j) ?_
    (rf ⟨rfl,rfl,rfl,rfl,rfl⟩ (by omega) ?_ ?_ ?_ ?_ ?_ ?_ (rdu1 (hx:=hxl)) (rdu2 (hx:=hxl))) (by simp[rdL]) (by simp;omega) ?_ (λi j _ _ h=>h) ?_ ?_ (λb _=>rfl) (by decide)
  · simp only[aM',aB',false_implies,implies_true,and_true]
    exact⟨⟨rfl,show 0<2000 by omega⟩,⟨rfl,show 1<2000 by omega⟩,⟨rfl,show 2<2000 by omega⟩,⟨rfl,show 5<2000 by omega⟩,⟨rfl,trivial⟩,⟨rfl,trivial⟩,rfl,trivial⟩
  · simp only[aj,bL (show 0<1000 by omega),if_false];exact hG0 0 (by decide)
  · simp only[aj,bL (show 1<1000 by omega),if_false];exact hG0 1 (by decide)
  · simp only[aj,bL (show 2<1000 by omega),if_false];exact hG0 2 (by decide)
  · rw[hids];first|(simp only[aj,if_true];done)|(simp only[aj,bL (show 3<1000 by omega),if_false];exact hG0 3 (by decide))
  · rw[hids];first|(simp only[aj,if_true];done)|(simp only[aj,bL (show 4<1000 by omega),if_false];exact hG0 4 (by decide))
  · simp only[aj,bL (show 5<1000 by omega),if_false];exact hG0 5 (by decide)
  · intro j q hj
    have hjl:=am hj;rw[aX']at hjl;rw[ak']at hj
    by_cases e:j=2*x
    · subst e
      rw[F' rfl,F' (by omega)]at hj;cases hj;simp only[aj,if_true];simp[im];rfl
    · rw[E' (λh=>e h.symm)]at hj
      simp only[E' e,aj,oQ (show 3<1000 by omega),im (show j<1000 by omega) (show 2000≤2240 by omega),qC,e,if_false];exact ig hj (by omega)
  · intro a b ha hb he
    simp at ha hb;unfold Fr at he
    (repeat' split at he)<;>omega
  · intro a b ha hb he
    simp only[rdL,Y',al']at ha;unfold Fr at he
    (repeat' split at he)<;>omega
theorem rd_a2(t:Tpl)(hc:aC t=0)(l:Lnk)(i:Nat)(M:List (List Stp))(hM:M.length=2 * t.rs.length)(hr:∀r∈M,r.length≤100000){x:Nat}(hx:(t.rs.map (·.id))[x]?=some l.b)(k:Nat){Q:X→S3→Prop}
    (hQ:∀s,ao 0 k s (rdT t l i (apR M (2*x) ⟨l.a,l.cb⟩))→Q .normal s):AWP Tryz.prog 0 k Cy Q (rdT t l i M):=by
  have hO:=ax hc;have hR:=hO.nr;have hxl:x<t.rs.length:=by have:=am hx;rwa [u']at this
  have hnd:(t.rs.map (·.id)).Nodup:=List.Pairwise.map _ (λa b h=>by omega) hO.asc;obtain⟨hk1,hk2⟩:=kC hnd hx;obtain⟨row,hrow⟩:∃row,M[2*x]?=some row:=⟨M[2*x]'(by omega),f' (by omega)⟩
  have hrl:=hr row (J' hrow);unfold rdT Cy;generalize hids:t.rs.map (·.id)=ids at *
  have hG0:∀b,b<1000→GS M (hpL 0 (rdL t l ids (evN t.rs.length) (odN t.rs.length))) b=hpL 0 (rdL t l ids (evN t.rs.length) (odN t.rs.length)) b:=λb hb=>lN hb;have g2:GS M (hpL 0 (rdL t l ids (evN t.rs.length) (odN t.rs.length))) 2=some (.box (.agg [.mref 3,.mref 4])):=hG0 2 (by decide);have g3:GS M (hpL 0 (rdL t l ids (evN t.rs.length) (odN t.rs.length))) 3=some (.map none (kyN ids) (evN t.rs.length)):=hG0 3 (by decide);have g4:GS M (hpL 0 (rdL t l ids (evN t.rs.length) (odN t.rs.length))) 4=some (.map none (kyN ids) (odN t.rs.length)):=hG0 4 (by decide);have g5:GS M (hpL 0 (rdL t l ids (evN t.rs.length) (odN t.rs.length))) 5=some (.box (.agg [.int l.a,.int l.b,.int l.ca,.int l.cb,.int l.w])):=hG0 5 (by decide);have gF:GS M (hpL 0 (rdL t l ids (evN t.rs.length) (odN t.rs.length))) (Fr (2*x))=some (.vec 2 (row.map Stp.v)):=ig hrow (by omega);have hmg:cR (kyN ids) (evN t.rs.length) (MK.n l.b) (.sl 0 [] true) false=.vec (Fr (2*x)):=by
    unfold cR;rw[F' hk1,hk2,pV hxl];rfl
  have hms:∀v,dL none (kyN ids) (evN t.rs.length) (MK.n l.b) v=  .map none (kyN ids) ((evN t.rs.length).set x v):=λv=>by
    unfold dL;rw[F' hk1,hk2]
  have hml:=aU;refine AWP.dreg' λK hK=>?_
  try simp only[ag,seval,g2,g3,g4,g5,bJ,bj,dF,AV.key,MK.fits,hmg,hms,gF,and_self,true_and]
  refine c7 ?_;have hap:∀xs f,aS (GS M (hpL 0 (rdL t l ids (evN t.rs.length) (odN t.rs.length)))) f 2 16 (.vec (Fr (2*x))) (some xs)={ c:=(row.length+xs.length) * 16≤2 ^ 47∧row.length+xs.length≤maxLen,v:=.vec f,rm:=some (Fr (2*x)),ad:=some (f,.vec 2 (row.map Stp.v++xs)) }:=λxs f=>by
    simp[aS,gF]
  try simp only[ag,seval,gF,g2,g3,g4,g5,hap,hms,bJ,AV.key,MK.fits,and_self,true_and,dh,bL (show 3<1000 by omega),if_false]
  refine⟨⟨by omega,by omega⟩,?_⟩
  refine⟨?_,hK _ _ _ (hQ _ ?_)⟩
  · have e2:∀n,n<1000→(Fr (2*x)==n)=false:=λn hn=>by simp[Fr];omega
    have e3:∀n,n<1000→(n==Fr (2*x))=false:=λn hn=>by simp[Fr];omega
    simp[eD,iU,bi,AOp.opers,aL,evO,aj,e2,e3];unfold Fr;omega
  have hap':apR M (2*x) ⟨l.a,l.cb⟩=M.set (2*x) (row++[⟨l.a,l.cb⟩]):=by unfold apR;rw[H',hrow];rfl
  rw[hap']
  refine ao.nfR c8 _ _ _ (λb=>b) (λj=>if j=2*x then 2240 else Fr j) ?_
    (rf ⟨rfl,rfl,rfl,rfl,rfl⟩ (by omega) ?_ ?_ ?_ ?_ ?_ ?_ (rdu1 (hx:=hxl)) (rdu2 (hx:=hxl))) (by simp[rdL]) (by simp;omega) ?_ (λi j _ _ h=>h) ?_ ?_ (λb _=>rfl) (by decide)
  · simp only[aM',aB',false_implies,implies_true,and_true]
    exact⟨⟨rfl,show 0<2000 by omega⟩,⟨rfl,show 1<2000 by omega⟩,⟨rfl,show 2<2000 by omega⟩,⟨rfl,show 5<2000 by omega⟩,⟨rfl,trivial⟩,⟨rfl,trivial⟩,rfl,trivial⟩
  · simp only[aj,bL (show 0<1000 by omega),if_false];exact hG0 0 (by decide)
  · simp only[aj,bL (show 1<1000 by omega),if_false];exact hG0 1 (by decide)
  · simp only[aj,bL (show 2<1000 by omega),if_false];exact hG0 2 (by decide)
  · rw[hids];first|(simp only[aj,if_true];done)|(simp only[aj,bL (show 3<1000 by omega),if_false];exact hG0 3 (by decide))
  · rw[hids];first|(simp only[aj,if_true];done)|(simp only[aj,bL (show 4<1000 by omega),if_false];exact hG0 4 (by decide))
  · simp only[aj,bL (show 5<1000 by omega),if_false];exact hG0 5 (by decide)
  · intro j q hj
    have hjl:=am hj;rw[aX']at hjl;rw[ak']at hj
    by_cases e:j=2*x
    · subst e
      rw[F' rfl,F' (by omega)]at hj;cases hj;simp only[aj,if_true];simp[im];rfl
    · rw[E' (λh=>e h.symm)]at hj
      simp only[E' e,aj,oQ (show 3<1000 by omega),im (show j<1000 by omega) (show 2000≤2240 by omega),qC,e,if_false];exact ig hj (by omega)
  · intro a b ha hb he
    simp at ha hb;unfold Fr at he
    (repeat' split at he)<;>omega
  · intro a b ha hb he
    simp only[rdL,Y',al']at ha;unfold Fr at he
    (repeat' split at he)<;>omega
theorem rd_a3(t:Tpl)(hc:aC t=0)(l:Lnk)(i:Nat)(M:List (List Stp))(hM:M.length=2 * t.rs.length)(hr:∀r∈M,r.length≤100000){x:Nat}(hx:(t.rs.map (·.id))[x]?=some l.b)(k:Nat){Q:X→S3→Prop}
    (hQ:∀s,ao 0 k s (rdT t l i (apR M (2*x+1) ⟨l.a,l.ca⟩))→Q .normal s):AWP Tryz.prog 0 k Cx Q (rdT t l i M):=by
  have hO:=ax hc;have hR:=hO.nr;have hxl:x<t.rs.length:=by have:=am hx;rwa [u']at this
  have hnd:(t.rs.map (·.id)).Nodup:=List.Pairwise.map _ (λa b h=>by omega) hO.asc;obtain⟨hk1,hk2⟩:=kC hnd hx;obtain⟨row,hrow⟩:∃row,M[2*x+1]?=some row:=⟨M[2*x+1]'(by omega),f' (by omega)⟩
  have hrl:=hr row (J' hrow);unfold rdT Cx;generalize hids:t.rs.map (·.id)=ids at *
  have hG0:∀b,b<1000→GS M (hpL 0 (rdL t l ids (evN t.rs.length) (odN t.rs.length))) b=hpL 0 (rdL t l ids (evN t.rs.length) (odN t.rs.length)) b:=λb hb=>lN hb;have g2:GS M (hpL 0 (rdL t l ids (evN t.rs.length) (odN t.rs.length))) 2=some (.box (.agg [.mref 3,.mref 4])):=hG0 2 (by decide);have g3:GS M (hpL 0 (rdL t l ids (evN t.rs.length) (odN t.rs.length))) 3=some (.map none (kyN ids) (evN t.rs.length)):=hG0 3 (by decide);have g4:GS M (hpL 0 (rdL t l ids (evN t.rs.length) (odN t.rs.length))) 4=some (.map none (kyN ids) (odN t.rs.length)):=hG0 4 (by decide);have g5:GS M (hpL 0 (rdL t l ids (evN t.rs.length) (odN t.rs.length))) 5=some (.box (.agg [.int l.a,.int l.b,.int l.ca,.int l.cb,.int l.w])):=hG0 5 (by decide);have gF:GS M (hpL 0 (rdL t l ids (evN t.rs.length) (odN t.rs.length))) (Fr (2*x+1))=some (.vec 2 (row.map Stp.v)):=ig hrow (by omega);have hmg:cR (kyN ids) (odN t.rs.length) (MK.n l.b) (.sl 0 [] true) false=.vec (Fr (2*x+1)):=by
    unfold cR;rw[F' hk1,hk2,xX hxl];rfl
  have hms:∀v,dL none (kyN ids) (odN t.rs.length) (MK.n l.b) v=  .map none (kyN ids) ((odN t.rs.length).set x v):=λv=>by
    unfold dL;rw[F' hk1,hk2]
  have hml:=aU;refine AWP.dreg' λK hK=>?_
  try simp only[ag,seval,g2,g3,g4,g5,bJ,bj,dF,AV.key,MK.fits,hmg,hms,gF,and_self,true_and]
  refine c7 ?_;have hap:∀xs f,aS (GS M (hpL 0 (rdL t l ids (evN t.rs.length) (odN t.rs.length)))) f 2 16 (.vec (Fr (2*x+1))) (some xs)={ c:=(row.length+xs.length) * 16≤2 ^ 47∧row.length+xs.length≤maxLen,v:=.vec f,rm:=some (Fr (2*x+1)),ad:=some (f,.vec 2 (row.map Stp.v++xs)) }:=λxs f=>by
    simp[aS,gF]
  try simp only[ag,seval,gF,g2,g3,g4,g5,hap,hms,bJ,AV.key,MK.fits,and_self,true_and,dh,bL (show 4<1000 by omega),if_false]
  refine⟨⟨by omega,by omega⟩,?_⟩
  refine⟨?_,hK _ _ _ (hQ _ ?_)⟩
  · have e2:∀n,n<1000→(Fr (2*x+1)==n)=false:=λn hn=>by simp[Fr];omega
    have e3:∀n,n<1000→(n==Fr (2*x+1))=false:=λn hn=>by simp[Fr];omega
    simp[eD,iU,bi,AOp.opers,aL,evO,aj,e2,e3];unfold Fr;omega
  have hap':apR M (2*x+1) ⟨l.a,l.ca⟩=M.set (2*x+1) (row++[⟨l.a,l.ca⟩]):=by unfold apR;rw[H',hrow];rfl
  rw[hap']
  refine ao.nfR c8 _ _ _ (λb=>b) (λj=>if j=2*x+1 then 2240 else Fr j) ?_
    (rf ⟨rfl,rfl,rfl,rfl,rfl⟩ (by omega) ?_ ?_ ?_ ?_ ?_ ?_ (rdu3 (hx:=hxl)) (rdu4 (hx:=hxl))) (by simp[rdL]) (by simp;omega) ?_ (λi j _ _ h=>h) ?_ ?_ (λb _=>rfl) (by decide)
  · simp only[aM',aB',false_implies,implies_true,and_true]
    exact⟨⟨rfl,show 0<2000 by omega⟩,⟨rfl,show 1<2000 by omega⟩,⟨rfl,show 2<2000 by omega⟩,⟨rfl,show 5<2000 by omega⟩,⟨rfl,trivial⟩,⟨rfl,trivial⟩,rfl,trivial⟩
  · simp only[aj,bL (show 0<1000 by omega),if_false];exact hG0 0 (by decide)
  · simp only[aj,bL (show 1<1000 by omega),if_false];exact hG0 1 (by decide)
  · simp only[aj,bL (show 2<1000 by omega),if_false];exact hG0 2 (by decide)
  · rw[hids];first|(simp only[aj,if_true];done)|(simp only[aj,bL (show 3<1000 by omega),if_false];exact hG0 3 (by decide))
  · rw[hids];first|(simp only[aj,if_true];done)|(simp only[aj,bL (show 4<1000 by omega),if_false];exact hG0 4 (by decide))
  · simp only[aj,bL (show 5<1000 by omega),if_false];exact hG0 5 (by decide)
  · intro j q hj
    have hjl:=am hj;rw[aX']at hjl;rw[ak']at hj
    by_cases e:j=2*x+1
    · subst e
      rw[F' rfl,F' (by omega)]at hj;cases hj;simp only[aj,if_true];simp[im];rfl
    · rw[E' (λh=>e h.symm)]at hj
      simp only[E' e,aj,oQ (show 4<1000 by omega),im (show j<1000 by omega) (show 2000≤2240 by omega),qC,e,if_false];exact ig hj (by omega)
  · intro a b ha hb he
    simp at ha hb;unfold Fr at he
    (repeat' split at he)<;>omega
  · intro a b ha hb he
    simp only[rdL,Y',al']at ha;unfold Fr at he
    (repeat' split at he)<;>omega
theorem rd_a4(t:Tpl)(hc:aC t=0)(l:Lnk)(i:Nat)(M:List (List Stp))(hM:M.length=2 * t.rs.length)(hr:∀r∈M,r.length≤100000){x:Nat}(hx:(t.rs.map (·.id))[x]?=some l.a)(k:Nat){Q:X→S3→Prop}
    (hQ:∀s,ao 0 k s (rdT t l i (apR M (2*x+1) ⟨l.b,l.cb⟩))→Q .normal s):AWP Tryz.prog 0 k Cw Q (rdT t l i M):=by
  have hO:=ax hc;have hR:=hO.nr;have hxl:x<t.rs.length:=by have:=am hx;rwa [u']at this
  have hnd:(t.rs.map (·.id)).Nodup:=List.Pairwise.map _ (λa b h=>by omega) hO.asc;obtain⟨hk1,hk2⟩:=kC hnd hx;obtain⟨row,hrow⟩:∃row,M[2*x+1]?=some row:=⟨M[2*x+1]'(by omega),f' (by omega)⟩
  have hrl:=hr row (J' hrow);unfold rdT Cw;generalize hids:t.rs.map (·.id)=ids at *
  have hG0:∀b,b<1000→GS M (hpL 0 (rdL t l ids (evN t.rs.length) (odN t.rs.length))) b=hpL 0 (rdL t l ids (evN t.rs.length) (odN t.rs.length)) b:=λb hb=>lN hb;have g2:GS M (hpL 0 (rdL t l ids (evN t.rs.length) (odN t.rs.length))) 2=some (.box (.agg [.mref 3,.mref 4])):=hG0 2 (by decide);have g3:GS M (hpL 0 (rdL t l ids (evN t.rs.length) (odN t.rs.length))) 3=some (.map none (kyN ids) (evN t.rs.length)):=hG0 3 (by decide);have g4:GS M (hpL 0 (rdL t l ids (evN t.rs.length) (odN t.rs.length))) 4=some (.map none (kyN ids) (odN t.rs.length)):=hG0 4 (by decide);have g5:GS M (hpL 0 (rdL t l ids (evN t.rs.length) (odN t.rs.length))) 5=some (.box (.agg [.int l.a,.int l.b,.int l.ca,.int l.cb,.int l.w])):=hG0 5 (by decide);have gF:GS M (hpL 0 (rdL t l ids (evN t.rs.length) (odN t.rs.length))) (Fr (2*x+1))=some (.vec 2 (row.map Stp.v)):=ig hrow (by omega);have hmg:cR (kyN ids) (odN t.rs.length) (MK.n l.a) (.sl 0 [] true) false=.vec (Fr (2*x+1)):=by
    unfold cR;rw[F' hk1,hk2,xX hxl];rfl
  have hms:∀v,dL none (kyN ids) (odN t.rs.length) (MK.n l.a) v=  .map none (kyN ids) ((odN t.rs.length).set x v):=λv=>by
    unfold dL;rw[F' hk1,hk2]
  have hml:=aU;refine AWP.dreg' λK hK=>?_
  try simp only[ag,seval,g2,g3,g4,g5,bJ,bj,dF,AV.key,MK.fits,hmg,hms,gF,and_self,true_and]
  refine c7 ?_;have hap:∀xs f,aS (GS M (hpL 0 (rdL t l ids (evN t.rs.length) (odN t.rs.length)))) f 2 16 (.vec (Fr (2*x+1))) (some xs)={ c:=(row.length+xs.length) * 16≤2 ^ 47∧row.length+xs.length≤maxLen,v:=.vec f,rm:=some (Fr (2*x+1)),ad:=some (f,.vec 2 (row.map Stp.v++xs)) }:=λxs f=>by
    simp[aS,gF]
  try simp only[ag,seval,gF,g2,g3,g4,g5,hap,hms,bJ,AV.key,MK.fits,and_self,true_and,dh,bL (show 4<1000 by omega),if_false]
  refine⟨⟨by omega,by omega⟩,?_⟩
  refine⟨?_,hK _ _ _ (hQ _ ?_)⟩
  · have e2:∀n,n<1000→(Fr (2*x+1)==n)=false:=λn hn=>by simp[Fr];omega
    have e3:∀n,n<1000→(n==Fr (2*x+1))=false:=λn hn=>by simp[Fr];omega
    simp[eD,iU,bi,AOp.opers,aL,evO,aj,e2,e3];unfold Fr;omega
  have hap':apR M (2*x+1) ⟨l.b,l.cb⟩=M.set (2*x+1) (row++[⟨l.b,l.cb⟩]):=by unfold apR;rw[H',hrow];rfl
  rw[hap']
  refine ao.nfR c8 _ _ _ (λb=>b) (λj=>if j=2*x+1 then 2240 else Fr j) ?_
    (rf ⟨rfl,rfl,rfl,rfl,rfl⟩ (by omega) ?_ ?_ ?_ ?_ ?_ ?_ (rdu3 (hx:=hxl)) (rdu4 (hx:=hxl))) (by simp[rdL]) (by simp;omega) ?_ (λi j _ _ h=>h) ?_ ?_ (λb _=>rfl) (by decide)
  · simp only[aM',aB',false_implies,implies_true,and_true]
    exact⟨⟨rfl,show 0<2000 by omega⟩,⟨rfl,show 1<2000 by omega⟩,⟨rfl,show 2<2000 by omega⟩,⟨rfl,show 5<2000 by omega⟩,⟨rfl,trivial⟩,⟨rfl,trivial⟩,rfl,trivial⟩
  · simp only[aj,bL (show 0<1000 by omega),if_false];exact hG0 0 (by decide)
  · simp only[aj,bL (show 1<1000 by omega),if_false];exact hG0 1 (by decide)
  · simp only[aj,bL (show 2<1000 by omega),if_false];exact hG0 2 (by decide)
  · rw[hids];first|(simp only[aj,if_true];done)|(simp only[aj,bL (show 3<1000 by omega),if_false];exact hG0 3 (by decide))
  · rw[hids];first|(simp only[aj,if_true];done)|(simp only[aj,bL (show 4<1000 by omega),if_false];exact hG0 4 (by decide))
  · simp only[aj,bL (show 5<1000 by omega),if_false];exact hG0 5 (by decide)
  · intro j q hj
    have hjl:=am hj;rw[aX']at hjl;rw[ak']at hj
    by_cases e:j=2*x+1
    · subst e
      rw[F' rfl,F' (by omega)]at hj;cases hj;simp only[aj,if_true];simp[im];rfl
    · rw[E' (λh=>e h.symm)]at hj
      simp only[E' e,aj,oQ (show 4<1000 by omega),im (show j<1000 by omega) (show 2000≤2240 by omega),qC,e,if_false];exact ig hj (by omega)
  · intro a b ha hb he
    simp at ha hb;unfold Fr at he
    (repeat' split at he)<;>omega
  · intro a b ha hb he
    simp only[rdL,Y',al']at ha;unfold Fr at he
    (repeat' split at he)<;>omega
end Go.Proofs.YtiobpjoadkfhdaaGreat
