/- Texts joined: Mx8 G0 G1 G2 TP0 LP P0 TC1 TC2 ML SH1 TC3 TC4 FM SH2 RD1 RD2. -/
import Derived.Test.YtiobpjoadkfhdaaGreatProg
import Derived.Test.YtiobpjoadkfhdaaGreatMM3
set_option linter.unusedVariables false
set_option linter.unusedSimpArgs false
set_option linter.unusedSectionVars false
namespace Go.Am
inductive Ax (P:Program) (Sf:Nat→Type) (T:Type):Type 1 where
  | say (φ:Prop→Prop) (a:Ax P Sf T)
  | nil
  | pass (a:Ax P Sf T)
  | br (g:Nat) (c:Bool) (x y:Ax P Sf T)
  | el (f:Nat) {α:Type} (v:α→AV) (l:List α) (Q:(α→Prop)→Prop) (k:α→Ax P Sf T)
  | elA (f:Nat) {α:Type} (v:α→List AV) (l:List α) (i n:Nat) (hv:∀x,(v x).length=n) (Q:(α→Prop)→Prop) (k:α→Ax P Sf T)
  | st (f:Nat) {α:Type} (v:α→AV) (l:List α) (g:α→α) (Q:(α→Prop)→Prop) (k:α→Ax P Sf T)
  | stI (f:Nat) {α:Type} (v:α→AV) (l:List α) (Q:(α→Prop)→Prop) (k:α→Ax P Sf T)
  | app (f:Nat) {α:Type} (v:α→AV) (l xs:List α) (a:Ax P Sf T)
  | appF (f:Nat) {α:Type} (v:α→AV) (l xs:List α) (a:Ax P Sf T)
  | sub (f:Nat) {α:Type} (v:α→AV) (l:List α) (fl:Bool) (a:Ax P Sf T)
  | rep (f:Nat) {α:Type} (v:α→AV) (x:α) (a:Ax P Sf T)
  | own (f:Nat) (a:Ax P Sf T)
  | mn (f:Nat) (q:MN) (a:Ax P Sf T)
  | req (f:Nat) (p:Prop) (k:p→Ax P Sf T)
  | callP (c:PC P) (a:Ax P Sf T)
  | callH (bs:List Nat) (c:HC P) (f:Nat) (a:Ax P Sf T)
  | callA (c:PC P) (h:aD c.args) (a:Ax P Sf T)
  | cmd (c:Cmd) (a:Ax P Sf T)
  | cmdL (c:Cmd) (a:Ax P Sf T)
  | wait (a:Ax P Sf T)
  | loop (j:Nat) (nf:Sf j→NF) (I:Sf j→Prop) (mu:Sf j→Nat) (s0:Sf j) (bs:List Nat) (body:Sf j→(Sf j→List Nat→Prop)→Ax P Sf T)
  | join (j:Nat) (nf:Sf j→NF) (I:Sf j→Prop) (a:(Sf j→List Nat→Prop)→Ax P Sf T) (body:Sf j→Ax P Sf T)
  | join2 (j:Nat) (nf:Sf j→NF) (I:Sf j→Prop) (a:(Sf j→List Nat→Prop)→Ax P Sf T) (body:Sf j→Ax P Sf T)
  | bk (j:Nat) (b:Sf j→List Nat→Prop) (t:Sf j) (bs:List Nat)
  | hand (k0:Nat) (cs:List Cmd) (m1:NF) (bs:List Nat) (s2:S3) (c:AC) (h:∀n,dL P k0 n c m1.st s2) (a:Ax P Sf T)
  | hand2 (k0:Nat) (s1 s2:S3) (c:AC) (h:∀n,dL P k0 n c s1 s2) (a:Ax P Sf T)
  | handQ (k0:Nat) (m1:NF) (bs:List Nat) (s2:S3) (c:AC) (p:Prop) (h:p→∀n,dL P k0 n c m1.st s2) (a:Ax P Sf T)
  | allB (c:Bool→Prop) (k:Bool→Ax P Sf T)
  | elX (f:Nat) {α:Type} (v:α→AV) (l:List α) (i:Nat) (k:α→Ax P Sf T)
  | elI (f:Nat) {α:Type} (v:α→AV) (l:List α) (i:Int) (k:α→Ax P Sf T)
  | elJ (f:Nat) {α:Type} (v:α→AV) (l:List α) (i:Int) (k:α→Ax P Sf T)
  | stX (f:Nat) {α:Type} (v:α→AV) (l:List α) (i:Nat) (g:α→α) (k:α→Ax P Sf T)
  | stJ (f:Nat) {α:Type} (v:α→AV) (l:List α) (i:Int) (g:α→α) (k:α→Ax P Sf T)
  | fz (b:Nat) {α:Type} (v:α→AV) (l:List α) (h:∀x,(v x).pureB=true) (a:Ax P Sf T)
  | apX (f:Nat) {α:Type} (v:α→AV) (l xs:List α) (n:Nat) (a:Ax P Sf T)
  | ap0 (f:Nat) {α:Type} (v:α→AV) (l xs:List α) (a:Ax P Sf T)
  | unr (n:Nat) (a:Ax P Sf T)
  | ret (r:T)
  | retH (r:T) (m:NF) (bs:List Nat)
section
variable {P : Program} {Sf : Nat → Type} {T : Type}
def Ax.an:Ax P Sf T→An P Sf T
 | .say _ a=>a.an
 | .nil=>.nil
 | .pass a=>.pass a.an
 | .br g _ x y=>.br g x.an y.an
 | .el f v l _ k=>.el f v l λx=>(k x).an
 | .elA f v l i n hv _ k=>.elA f v l i n hv λx=>(k x).an
 | .st f v l g _ k=>.st f v l g λx=>(k x).an
 | .stI f v l _ k=>.stI f v l λx=>(k x).an
 | .app f v l xs a=>.app f v l xs a.an
 | .appF f v l xs a=>.appF f v l xs a.an
 | .sub f v l fl a=>.sub f v l fl a.an
 | .rep f v x a=>.rep f v x a.an
 | .own f a=>.own f a.an
 | .mn f q a=>.mn f q a.an
 | .req f p k=>.req f p λh=>(k h).an
 | .callP c a=>.callP c a.an
 | .callH bs c _ a=>.callH bs c a.an
 | .callA c h a=>.callA c h a.an
 | .cmd c a=>.cmd c a.an
 | .cmdL c a=>.cmdL c a.an
 | .wait a=>.wait a.an
 | .loop j nf I mu s0 bs body=>.loop j nf I mu s0 bs λt=>(body t λ_ _=>True).an
 | .join j nf I a body=>.join j nf I (a λ_ _=>True).an λt=>(body t).an
 | .join2 j nf I a body=>.join2 j nf I (a λ_ _=>True).an λt=>(body t).an
 | .bk j _ t bs=>.back j t bs
 | .hand k0 cs m1 bs s2 c h a=>.hand k0 cs m1 bs s2 c h a.an
 | .hand2 k0 s1 s2 c h a=>.hand2 k0 s1 s2 c h a.an
 | .handQ k0 m1 bs s2 c p h a=>.handQ k0 m1 bs s2 c p h a.an
 | .allB _ k=>(k true).an
 | .elX f v l _ k=>.el f v l λx=>(k x).an
 | .elI f v l _ k=>.el f v l λx=>(k x).an
 | .elJ f v l _ k=>.el f v l λx=>(k x).an
 | .stX f v l _ g k=>.st f v l g λx=>(k x).an
 | .stJ f v l _ g k=>.st f v l g λx=>(k x).an
 | .fz b v l h a=>.cmdL (.frzE b (l.map v) (ae h l)) a.an
 | .apX f v l xs _ a=>.app f v l xs a.an
 | .ap0 f v l xs a=>.app f v l xs a.an
 | .unr n a=>.unr n a.an
 | .ret r=>.ret r
 | .retH r m bs=>.retH r m bs
def Ax.vc(e:T→AV)(b:T→List (Option Blk))(r0:T):Ax P Sf T→Prop
 | .say φ a=>φ (a.vc e b r0)
 | .nil=>True
 | .pass a=>a.vc e b r0
 | .br _ c x y=>Go.Am.br c (x.vc e b r0) (y.vc e b r0)
 | .el _ _ _ Q k=>Q λx=>(k x).vc e b r0
 | .elA _ _ _ _ _ _ Q k=>Q λx=>(k x).vc e b r0
 | .st _ _ _ _ Q k=>Q λx=>(k x).vc e b r0
 | .stI _ _ _ Q k=>Q λx=>(k x).vc e b r0
 | .app _ _ _ _ a=>a.vc e b r0
 | .appF _ _ _ _ a=>a.vc e b r0
 | .sub _ _ _ _ a=>a.vc e b r0
 | .rep _ _ _ a=>a.vc e b r0
 | .own _ a=>a.vc e b r0
 | .mn _ q a=>q.say (a.vc e b r0)
 | .req _ p k=>∃h:p,(k h).vc e b r0
 | .callP c a=>Cl c (a.vc e b r0)
 | .callH bs c f a=>Ch c bs f (a.vc e b r0)
 | .callA c _ a=>Cl c (a.vc e b r0)
 | .cmd _ a=>a.vc e b r0
 | .cmdL _ a=>a.vc e b r0
 | .wait a=>a.vc e b r0
 | .loop _ nf I mu s0 bs body=>Be nf bs I s0∧∀t,I t→(body t λx bs=>Bk nf bs I mu x t).vc e b r0
 | .join _ nf I a body=>(a λx bs=>Be nf bs I x).vc e b r0∧∀t,I t→(body t).vc e b r0
 | .join2 _ nf I a body=>(a λx bs=>Be nf bs I x).vc e b r0∧∀t,I t→(body t).vc e b r0
 | .bk _ b t bs=>b t bs
 | .hand _ _ m1 bs _ c _ a=>Nf m1 bs (Rf c (a.vc e b r0))
 | .hand2 _ s1 _ c _ a=>Rf s1 (Rf c (a.vc e b r0))
 | .handQ _ m1 bs _ c p _ a=>Nf m1 bs (Rf c (p∧a.vc e b r0))
 | .allB c k=>∀x,c x→(k x).vc e b r0
 | .elX _ v l i k=>Rf (l.map v) (ck (decide (i<l.length)) (∀x,l[i]?=some x→(k x).vc e b r0))
 | .elI _ v l i k=>Rf (l.map v) (ck (decide (0≤i)) (ck (decide (i<(l.length:Int))) (∀x,l[i.toNat]?=some x→(k x).vc e b r0)))
 | .elJ _ v l i k=>ck (cond (decide (0≤i)) (decide (i<((l.map v).length:Int))) false) (Rf (l.map v) (ck (decide (i.toNat<l.length)) (∀x,l[i.toNat]?=some x→(k x).vc e b r0)))
 | .stX _ v l i g k=>Rf (l.map v) (ck (decide (i<l.length)) (∀o,l[i]?=some o→Rf (v (g o)) ((k o).vc e b r0)))
 | .stJ _ v l i g k=>ck (cond (decide (0≤i)) (decide (i<((l.map v).length:Int))) false) (Rf (l.map v) (ck (decide (i.toNat<l.length)) (∀o,l[i.toNat]?=some o→Rf (v (g o)) ((k o).vc e b r0))))
 | .fz _ v l _ a=>Rf (l.map v) (a.vc e b r0)
 | .apX _ v l xs n a=>Rf (l.map v) (Rf (xs.map v) (ck (decide (n≤1048576)) (a.vc e b r0)))
 | .ap0 _ v l xs a=>Rf (l.map v) (Rf (xs.map v) (a.vc e b r0))
 | .unr _ a=>a.vc e b r0
 | .ret r=>Rp e r r0
 | .retH r m bs=>Qt m bs e b r r0
def Ax.vp(e:T→AV)(r0:T)(x:Ax P Sf T):Prop:=x.vc e (λ_=>[]) r0
end
def rR(r b:Nat):Nat×Sh×AV:=(r,.k,.ref b 0)
def rI(r:Nat)(x:Int):Nat×Sh×AV:=(r,.k,.int x)
def rB(r:Nat)(x:Bool):Nat×Sh×AV:=(r,.k,.bool x)
def rV(r b:Nat):Nat×Sh×AV:=(r,.k,.vec b)
def vB(k:Nat){α:Type}(v:α→AV)(l:List α)(h:∀x,(v x).pureB=true):PB:=.vec k (l.map v) (ae h l)
def pcO{P:Program}{Sf:Nat→Type}{T:Type}(f:FuncId)(shs:List Sh)(args:List AV)(sh:Sh)(e:T→AV)(r:T)(h:okL args→∃x:Ax P Sf T,x.vp e r∧mxP P f args sh e x.an r=x.vp e r)(hp:(e r).pureB=true)(hf:fnB P f=true):PC P:=
 ⟨f,shs,args,e r,bT.of_ok λok=>(h ok).elim λ_ h=>OT h.1 h.2 (AV.pureB_ok hp),bx hf⟩
def hcO{P:Program}{Sf:Nat→Type}{T:Type}(f:FuncId)(shs:List Sh)(args:List AV)(hs:List Blk)(sh:Sh)(e:T→AV)(b:T→List (Option Blk))(r:T)(h:okL args→(∀x∈hs,x.ok)→∃x:Ax P Sf T,x.vc e b r∧mxH P f args hs sh e b x.an r=x.vc e b r)(hf:fnB P f=true)(hg:hcB args hs (e r) (b r)=true):HC P:=
 ⟨f,shs,args,hs,e r,b r,aF.of_okh λok ok2=>(h ok ok2).elim λ_ h=>D8 h.1 h.2,bx hf,qT.of hg⟩
@[reducible] def noS:Nat→Type:=λ_=>Unit
end Go.Am
namespace Go.Proofs.YtiobpjoadkfhdaaGreat
open Go Go.Am
structure Tap where
  L:List Int
  p:Nat
structure qQ where
  L:List Int
  p:Int
def Tap.v(x:Tap):AV:=.agg [.sl 1 (x.L.map AV.int) false,.int x.p]
def qQ.v(x:qQ):AV:=.agg [.sl 1 (x.L.map AV.int) false,.int x.p]
@[simp] theorem uC (l:List Int):bv (l.map AV.int)=true:=ae (λ_=>rfl) l
def Mod(x n:Int):Int:=if n<1 then 0 else if x.tmod n<0 then x.tmod n+n else x.tmod n
theorem dF{x n:Int}(h:1≤n):0≤Mod x n∧Mod x n<n:=by
 have hb:=Int.tmod_lt_of_pos x (show 0<n by omega);have hb':=Int.lt_tmod_of_pos x (show 0<n by omega)
 unfold Mod;split
 ·omega
 split<;>omega
def ab(L:List Int)(p:Nat):Nat:=if L.length≤p then p else p+1
def al(L:List Int)(p:Nat):Int:=L.getD p 0
def rng(L:List Int)(p:Nat)(lo hi:Int):Int:=W (lo+Mod (al L p) (W (W (hi-lo)+1)))
def aR(l:List Int)(r:Int):Int:=l.getD (Mod r l.length).toNat 0
def orI(l:List Int):Int:=(l.find? (· != 0)).getD 0
def cmpI(x y:Int):Int:=if x<y then -1 else if y<x then 1 else 0
def n0(x:Int):Bool:=false
theorem aQ{k n:Nat}(h:k<n)(hn:n≤9223372036854775807):W ((k:Int)+1)=((k+1:Nat):Int):=by rw[eF (by omega)];omega
theorem ka{k:Nat}(h:k≤9223372036854775807)(h1:1≤k):W ((k:Int)-1)=((k-1:Nat):Int):=by rw[eF (by omega)];omega
def yT(r:Bool):AV:=.bool r
def pX(x:Int):Ax Tryz.prog noS (Bool):=
 (.ret (x != x))
theorem K3(x:Int):(pX x).vp yT (n0 x):=by
 dsimp only[pX,noS,Ax.vp,Ax.vc];simp only[vcU,rfU,u'];simp[n0]
def yU(x:Int):PC Tryz.prog:=pcO 205 [.k] [.int x] .k yT (n0 x) (λ_=>⟨(pX x),K3 x,by kernel_rfl⟩) rfl (by kernel_rfl)
def Gl(r:Int):AV:=.int r
def w7(x:Int)(y:Int):Ax Tryz.prog noS (Int):=
 (.callP (yU x)
(.callP (yU y)
(.br 128 (n0 x) (.br 144 (n0 y) (.ret (0))
(.ret (-1)))
(.br 144 (n0 y) (.ret (1))
(.br 192 (decide (x<y)) (.ret (-1))
(.br 240 (decide (y<x)) (.ret (1))
(.ret (0))))))))
theorem Qu(x y:Int):(w7 x y).vp Gl (cmpI x y):=by
 dsimp only[w7,noS,Ax.vp,Ax.vc];simp only[vcU,rfU,u'];simp only[n0,aS',false_implies,true_implies,true_and,cmpI];refine⟨λh=>by rw[F' h],λh=>⟨λh2=>by rw[E' h,F' h2],λh2=>by rw[E' h,E' h2]⟩⟩
def w8(x:Int)(y:Int):PC Tryz.prog:=pcO 179 [.k,.k] [.int x,.int y] .k Gl (cmpI x y) (λ_=>⟨(w7 x y),Qu x y,by kernel_rfl⟩) rfl (by kernel_rfl)
theorem AN{l:List Int}{k:Nat}{x:Int}(h:l.take k |>.all (·==0))(hx:l[k]?=some x)(hn:x≠0):l.find? (· != 0)=some x:=by
 rw[cc'];refine⟨by simpa using hn,k,am hx,by rw[f' (am hx)]at hx;exact Z' hx,λj hj=>?_⟩;have:=ay'.mp h (l[j]'(by have:=am hx;omega)) (aD'.mpr ⟨j,by have:=am hx;omega,rfl⟩);simpa using this
def tw(r:List Int):AV:=.sl 1 (r.map AV.int) false
def oe(s:List Int):Ax Tryz.prog noS ((List Int)):=
 (.allB (λb1=>((s.map AV.int)≠[]→b1=false)) λb1 =>
(.br 48 (b1 != false) (.ret ([]))
(.apX 80 AV.int [] s (0+s.length)
(.fz 80 AV.int s (λ_=>rfl) (.ret (s))))))
theorem Gn(s:List Int)(h:s.length≤1000000):(oe s).vp tw s:=by
 dsimp only[oe,noS,Ax.vp,Ax.vc];simp only[vcU,rfU,u'];intro b hb;simp only[uC,true_and,and_true,az'];refine⟨λh1=>?_,λ_=>by omega⟩;cases s with
 | nil=>rfl
 | cons x s=>simp at hb;simp[hb]at h1
def tz(s:List Int)(h:s.length≤1000000):PC Tryz.prog:=pcO 90 [(.s 1)] [.sl 1 (s.map AV.int) false] (.s 1) tw s (λ_=>⟨(oe s),Gn s h,by kernel_rfl⟩) rfl (by kernel_rfl)
def bO{α:Type}(es:List α)(i:Nat)(x:α):List α:=es.take i++[x]++es.drop i
def putP(l:List Int)(x:Int):Nat:=l.findIdx (λy=>!decide (y<x))
def put(l:List Int)(x:Int):List Int:=if l[putP l x]?=some x then l else bO l (putP l x) x
structure Rtr where
  id:Int
  cap:Bool
  deriving DecidableEq
structure Lnk where
  a:Int
  b:Int
  ca:Int
  cb:Int
  w:Int
  deriving DecidableEq
structure Tpl where
  rs:List Rtr
  ls:List Lnk
  deriving DecidableEq
theorem AA{α:Type}{l:List α}{k:Nat}{x:α}:((l.take k).drop 0)++([x]++((l.take ((l.length:Int).toNat)).drop k))=bO l k x:=by
 rw[Int.toNat_natCast,List.take_length,bX',bO,bl']
def Rtr.v(x:Rtr):AV:=.agg [.int x.id,.bool x.cap]
def Lnk.v(x:Lnk):AV:=.agg [.int x.a,.int x.b,.int x.ca,.int x.cb,.int x.w]
def Tpl.v(x:Tpl):AV:=.agg [.sl 2 (x.rs.map Rtr.v) false,.sl 5 (x.ls.map Lnk.v) false]
def G(rows:List (List Bool))(h:Hp):Hp:=λb=>if 1000≤b∧b<2000 then(rows[b-1000]?).map (λr=>Blk.vec 1 (r.map AV.bool))else h b
def F(i:Nat):Nat:=1000+i
def names(n:Nat):List AV:=(List.range n).map λi=>.vec (F i)
def mset(M:List (List Bool))(x y:Nat):List (List Bool):=M.set x ((M.getD x []).set y true)
def Sq(n:Nat)(M:List (List Bool)):Prop:=M.length=n∧∀r∈M,r.length=n
theorem Sq.get{n:Nat}{M:List (List Bool)}(h:Sq n M){x:Nat}(hx:x<n):∃r,M[x]?=some r∧r.length=n∧M.getD x []=r:=by
 have hx:x<M.length:=by rw[h.1];exact hx
 exact⟨M[x],f' hx,h.2 _ (aR' hx),by simp[List.getD,f' hx]⟩
theorem Sq.set{n:Nat}{M:List (List Bool)}(h:Sq n M)(x y:Nat):Sq n (mset M x y):=by
 refine⟨by simp[mset,h.1],λr hr=>?_⟩
 by_cases hx:x<n
 ·obtain⟨r0,g1,g2,g3⟩:=h.get hx
  rcases ap' hr with hr|rfl
  ·exact h.2 r hr
  ·rw[g3];simpa using g2
 ·have:mset M x y=M:=List.set_eq_of_length_le (by rw[h.1];omega);rw[this]at hr;exact h.2 r hr
section
variable {α : Type} {l : List α} {P : α → Prop} {R : α → α → Prop} {t : Int} {x y : α}
theorem cY{i n:Int}(h1:0≤i)(h2:i<n):(bif decide (0≤i)then decide (i<n)else false)=true:=by
 rw[decide_eq_true h1,decide_eq_true h2];rfl
def aM(l:List α)(P:α→Prop)(t:Int):Prop:=∃k:Nat,t=k∧k≤l.length∧∀x∈l.take k,P x
theorem aM.zero:aM l P 0:=⟨0,rfl,by omega,by simp⟩
theorem aM.idx(h:aM l P t):0≤t:=by obtain⟨k,rfl,_,_⟩:=h;omega
theorem aM.step(h:aM l P t)(hl:l.length≤9223372036854775807)(hx:l[t.toNat]?=some x)(p:P x):aM l P (W (t+1))∧l.length-(W (t+1)).toNat<l.length-t.toNat:=by
 obtain⟨k,rfl,hk,ha⟩:=h;rw[Int.toNat_natCast]at hx;have:=am hx;rw[aQ (n:=l.length) this hl];refine⟨⟨k+1,rfl,by omega,λz hz=>?_⟩,by omega⟩;rw[aB hx]at hz
 rcases ab'.mp hz with hz|hz
 ·exact ha z hz
 ·rw[L']at hz;exact hz ▸ p
theorem aM.done(h:aM l P t)(c:¬t<l.length):∀x∈l,P x:=by
 obtain⟨k,rfl,hk,ha⟩:=h;rw[V' (by omega)]at ha;exact ha
theorem bn(hx:l[t.toNat]?=some x):x∈l:=be hx
def gu(l:List α)(R:α→α→Prop)(t:Int):Prop:=∃k:Nat,t=k∧1≤k∧k≤l.length+1∧∀j x y,j+1<k→l[j]?=some x→l[j+1]?=some y→R x y
theorem gu.one:gu l R 1:=⟨1,rfl,by omega,by omega,λj x y h=>by omega⟩
theorem gu.idx(h:gu l R t)(hl:l.length≤9223372036854775807)(c:t<l.length):(0≤W (t-1)∧W (t-1)<l.length)∧0≤t:=by
 obtain⟨k,rfl,h1,hk,ha⟩:=h;rw[ka (by omega) h1];omega
theorem gu.step(h:gu l R t)(hl:l.length≤9223372036854775807)(hx:l[(W (t-1)).toNat]?=some x)(hy:l[t.toNat]?=some y)(p:R x y):gu l R (W (t+1))∧l.length+1-(W (t+1)).toNat<l.length+1-t.toNat:=by
 obtain⟨k,rfl,h1,hk,ha⟩:=h;rw[Int.toNat_natCast]at hy;have hlt:=am hy;rw[ka (by omega) h1,Int.toNat_natCast]at hx;rw[aQ (n:=l.length) hlt (by omega)];refine⟨⟨k+1,rfl,by omega,by omega,λj x' y' hj hx' hy'=>?_⟩,by omega⟩
 by_cases e:j+1=k
 ·subst e;rw[show j+1-1=j by omega,hx']at hx;cases hx;rw[hy']at hy;cases hy;exact p
 ·exact ha j x' y' (by omega) hx' hy'
theorem gu.bad(h:gu l R t)(hl:l.length≤9223372036854775807)(hx:l[(W (t-1)).toNat]?=some x)(hy:l[t.toNat]?=some y){S:α→α→Prop}(p:¬S x y):¬l.Pairwise S:=by
 obtain⟨k,rfl,h1,hk,ha⟩:=h;rw[Int.toNat_natCast]at hy;have hlt:=am hy;rw[ka (by omega) h1,Int.toNat_natCast]at hx;intro hp;rw[at']at hp;have:=hp (k-1) k (by omega) hlt (by omega);rw[f' (by omega)]at hx hy;rw[Z' hx,Z' hy]at this;exact p this
theorem gu.done(h:gu l R t)(c:¬t<l.length)(tr:∀x y z,R x y→R y z→R x z):l.Pairwise R:=by
 obtain⟨k,rfl,h1,hk,ha⟩:=h;rw[at'];have key:∀d i,(hi:i+d+1<l.length)→R (l[i]'(by omega)) l[i+d+1]:=by
  intro d
  induction d with
  | zero=>intro i hi;exact ha i _ _ (by omega) (f' (by omega)) (f' hi)
  | succ d ih =>
   intro i hi;exact tr _ _ _ (ih i (by omega)) (ha (i+d+1) _ _ (by omega) (f' (by omega)) (f' hi))
 intro i j hi hj hij;have:=key (j-i-1) i (by omega);simp only[show i+(j-i-1)+1=j by omega]at this;exact this
def lJ{σ:Type}(l:List α)(g:σ→α→σ)(s0:σ)(t:Int)(s:σ):Prop:=∃k:Nat,t=k∧k≤l.length∧s=(l.take k).foldl g s0
section
variable {σ : Type} {g : σ → α → σ} {s0 s : σ}
theorem lJ.zero:lJ l g s0 0 s0:=⟨0,rfl,by omega,rfl⟩
theorem lJ.idx(h:lJ l g s0 t s):0≤t:=by obtain⟨k,rfl,_,_⟩:=h;omega
theorem lJ.step(h:lJ l g s0 t s)(hl:l.length≤9223372036854775807)(hx:l[t.toNat]?=some x){s':σ}(p:s'=g s x):lJ l g s0 (W (t+1)) s'∧l.length-(W (t+1)).toNat<l.length-t.toNat:=by
 obtain⟨k,rfl,hk,rfl⟩:=h;rw[Int.toNat_natCast]at hx;have:=am hx;rw[aQ (n:=l.length) this hl];exact⟨⟨k+1,rfl,by omega,by rw[aB hx,be',p];rfl⟩,by omega⟩
theorem lJ.done(h:lJ l g s0 t s)(c:¬t<l.length):s=l.foldl g s0:=by
 obtain⟨k,rfl,hk,rfl⟩:=h;rw[V' (by omega)]
end
def dY{β:Type}(l:List α)(f:α→List β)(t:Int)(out:List β):Prop:=∃k:Nat,t=k∧k≤l.length∧out=(l.take k).flatMap f
section
variable {β : Type} {f : α → List β} {out : List β}
theorem dY.zero:dY l f 0 []:=⟨0,rfl,by omega,rfl⟩
theorem dY.idx(h:dY l f t out):0≤t:=by obtain⟨k,rfl,_,_⟩:=h;omega
theorem dY.step(h:dY l f t out)(hl:l.length≤9223372036854775807)(hx:l[t.toNat]?=some x){out':List β}(p:out'=out++f x):dY l f (W (t+1)) out'∧l.length-(W (t+1)).toNat<l.length-t.toNat:=by
 obtain⟨k,rfl,hk,rfl⟩:=h;rw[Int.toNat_natCast]at hx;have:=am hx;rw[aQ (n:=l.length) this hl];exact⟨⟨k+1,rfl,by omega,by rw[aB hx,bt',p];simp⟩,by omega⟩
theorem dY.done(h:dY l f t out)(c:¬t<l.length):out=l.flatMap f:=by
 obtain⟨k,rfl,hk,rfl⟩:=h;rw[V' (by omega)]
theorem dY.len(h:dY l f t out){b:Nat}(hb:∀x∈l,(f x).length≤b):out.length≤l.length * b:=by
 obtain⟨k,rfl,hk,rfl⟩:=h;have key:∀m:List α,(∀x∈m,(f x).length≤b)→(m.flatMap f).length≤m.length * b:=by
  intro m
  induction m with
  | nil=>intro _;simp
  | cons x m ih =>
   intro hm;have h1:=hm x (by simp);have h2:=ih λy hy=>hm y (by simp[hy]);rw[aq',List.length_append,Y',Nat.succ_mul];omega
 refine aF' (key _ λx hx=>hb x (ad' hx)) (ao' _ ?_);rw[ar'];omega
end
theorem sQ{β:Type}{f:α→β}{l:List α}:(l.flatMap λx=>[f x])=l.map f:=by
 induction l with
 | nil=>rfl
 | cons x l ih=>rw[aq',ih];rfl
theorem vU{p:α→Bool}{l:List α}:(l.flatMap λx=>if p x=true then [x]else [])=l.filter p:=by
 induction l with
 | nil=>rfl
 | cons x l ih =>
  rw[aq',ih,bZ'];split<;>rfl
def cE(p:α→Bool)(l:List α):Int:=if l.any p=true then((l.findIdx p:Nat):Int)else -1
theorem aM.found{p:α→Bool}(h:aM l (λy=>p y=false) t)(hx:l[t.toNat]?=some x)(hp:p x=true):t=cE p l:=by
 obtain⟨k,rfl,hk,ha⟩:=h;rw[Int.toNat_natCast]at hx;rw[cE,F' (aj'.mpr ⟨x,be hx,hp⟩)];have:l.findIdx p=k:=by
  have hlt:=am hx;rw[f' hlt]at hx;have hx:=Z' hx;rw[List.findIdx_eq hlt];refine⟨by rw[hx];exact hp,λj hj=>?_⟩;exact ha _ (aD'.mpr ⟨j,by omega,rfl⟩)
 rw[this]
theorem aM.lost{p:α→Bool}(h:aM l (λy=>p y=false) t)(c:¬t<l.length):-1=cE p l:=by
 rw[cE,E'];rw[aj'];rintro⟨x,hx,hp⟩;rw[h.done c x hx]at hp;cases hp
theorem dQ(p:α→Bool)(l:List α):decide (0≤cE p l)=l.any p:=by
 unfold cE
 cases l.any p
 ·rfl
 ·rw[F' rfl];exact decide_eq_true (by omega)
end
theorem kR{α:Type}{l:List α}{t:Int}{x:α}{p:α→Bool}(h:aM l (λy=>p y=false) t)(hx:l[t.toNat]?=some x)(hp:p x=true):l.find? p=some x:=by
 obtain⟨k,rfl,hk,ha⟩:=h;rw[Int.toNat_natCast]at hx;rw[cc'];have hlt:=am hx;refine⟨hp,k,hlt,by rw[f' hlt]at hx;exact Z' hx,λj hj=>?_⟩;rw[ha _ (aD'.mpr ⟨j,by omega,rfl⟩)];rfl
theorem mA{α:Type}{l:List α}{t:Int}{p:α→Bool}(h:aM l (λy=>p y=false) t)(c:¬t<l.length):l.find? p=none:=by
 rw[bR'];exact λx hx=>by rw[h.done c x hx];simp
def fv(n:Int):Bool:=decide (1≤n) && decide (n≤1000)
def FW(r:Bool):AV:=.bool r
def wm(n:Int):Ax Tryz.prog noS (Bool):=
 (.br 64 (decide (1≤n)) (.ret (decide (n≤1000)))
(.ret (false)))
theorem Qk(n:Int):(wm n).vp FW (fv n):=by
 dsimp only[wm,noS,Ax.vp,Ax.vc];simp only[vcU,rfU,u'];refine⟨λc=>?_,λc=>?_⟩<;>simp[fv,c]
def lC(n:Int):PC Tryz.prog:=pcO 39 [.k] [.int n] .k FW (fv n) (λ_=>⟨(wm n),Qk n,by kernel_rfl⟩) rfl (by kernel_rfl)
def aJ(t:Tpl)(r:Int):Bool:=t.rs.any λx=>x.id==r
def Fc(t:Tpl)(r:Int):=okL [Tpl.v t,.int r]
def KH(t:Tpl)(r:Int)(t0:Int):NF:=⟨[rI 1 r,rR 2 0,rI 5 t0],[.box (Tpl.v t)]⟩
@[reducible] def Fa:Nat→Type
 | 0=>Int
 | _=>Unit
def Fb(r:Bool):AV:=.bool r
def EZ(t:Tpl)(r:Int)(I0:Int→Prop)(m0:Int→Nat):Ax Tryz.prog Fa (Bool):=
 (.loop 0 (KH t r) I0 m0 ((0):Int) [0] λ(t0:Int) b0 =>
(.br 81 (decide (t0<((t.rs.map Rtr.v).length:Int))) (.elI 129 Rtr.v t.rs t0 λx1 =>
(.br 209 (x1.id==r) (.ret (true))
(.bk 0 b0 ((W (t0+1)):Int) [0])))
(.ret (false))))
theorem P6(t:Tpl)(r:Int)(ok:Fc t r):∃I m,(EZ t r I m).vp Fb (aJ t r):=by
 refine⟨λi=>aM t.rs (λx=>(x.id==r)=false) i,λi=>t.rs.length-i.toNat,?_⟩;simp only[Fc,Tpl.v,okU,Blk.ok,az,u']at ok;dsimp only[EZ,Fa,Ax.vp,Ax.vc];simp only[vcU,rfU,u']
 refine⟨aM.zero,λi h=>⟨λc=>⟨h.idx,c,λx hx=>⟨λq=>?_,λq=>h.step (by omega) hx q⟩⟩,λc=>?_⟩⟩
 ·exact(aj'.mpr ⟨x,bn hx,q⟩).symm
 ·exact(bK'.mpr λx hx=>by rw[h.done c x hx];simp).symm
def nJ(t:Tpl)(r:Int):PC Tryz.prog:=pcO 38 [(.a [(.s 2),(.s 5)]),.k] [Tpl.v t,.int r] .k Fb (aJ t r) (λok=>let ⟨I0,m0,h⟩:=P6 t r ok;⟨_,h,by kernel_rfl⟩) rfl (by kernel_rfl)
def iD(l:Lnk):Prop:=fv l.ca=true∧fv l.cb=true∧0≤l.w∧l.w≤1000
instance (l:Lnk):Decidable (iD l):=by unfold iD;infer_instance
def bC(x y:Lnk):Prop:=x.a<y.a∨x.a=y.a∧x.b<y.b
instance (x y:Lnk):Decidable (bC x y):=by unfold bC;infer_instance
def aC(t:Tpl):Int:=
 if 24<t.rs.length∨60<t.ls.length then 3
 else if ¬∀x∈t.rs,1≤x.id∧x.id≤99 then 2
 else if ¬t.rs.Pairwise (λx y=>x.id<y.id)then 25
 else if ¬∀l∈t.ls,iD l then 2
 else if ¬∀l∈t.ls,aJ t l.a=true∧aJ t l.b=true then 4
 else if ¬∀l∈t.ls,l.a<l.b then 8
 else if ¬t.ls.Pairwise bC then 25 else 0
def GI(t:Tpl):=okL [Tpl.v t]
def LZ(t:Tpl)(t0:Bool):NF:=⟨[rR 1 0,rB 21 t0],[.box (Tpl.v t)]⟩
def LY(t:Tpl)(t1:Int):NF:=⟨[rR 1 0,rI 3 t1],[.box (Tpl.v t)]⟩
def LX(t:Tpl)(t1:Int)(t2:Bool):NF:=⟨[rR 1 0,rI 3 t1,rB 44 t2],[.box (Tpl.v t)]⟩
def LW(t:Tpl)(t3:Int):NF:=⟨[rR 1 0,rI 4 t3],[.box (Tpl.v t)]⟩
def LV(t:Tpl)(t4:Int):NF:=⟨[rR 1 0,rI 5 t4],[.box (Tpl.v t)]⟩
def LU(t:Tpl)(t4:Int)(t5:Bool):NF:=⟨[rR 1 0,rI 5 t4,rB 97 t5],[.box (Tpl.v t)]⟩
def LS(t:Tpl)(t6:Int):NF:=⟨[rR 1 0,rI 7 t6],[.box (Tpl.v t)]⟩
def LR(t:Tpl)(t6:Int)(t7:Bool):NF:=⟨[rR 1 0,rI 7 t6,rB 124 t7],[.box (Tpl.v t)]⟩
def LQ(t:Tpl)(t8:Int):NF:=⟨[rR 1 0,rI 8 t8],[.box (Tpl.v t)]⟩
def LO(t:Tpl)(t9:Int):NF:=⟨[rR 1 0,rI 9 t9],[.box (Tpl.v t)]⟩
def GF(t:Tpl)(t9:Int)(t10:Bool):NF:=⟨[rR 1 0,rI 9 t9,rB 181 t10],[.box (Tpl.v t)]⟩
@[reducible] def GE:Nat→Type
 | 0=>Bool
 | 1=>Int
 | 2=>Bool
 | 3=>Int
 | 4=>Int
 | 5=>Bool
 | 6=>Int
 | 7=>Bool
 | 8=>Int
 | 9=>Int
 | 10=>Bool
 | _=>Unit
def GG(r:Int):AV:=.int r
def GD(t:Tpl)(I0:Bool→Prop)(I1:Bool→Int→Prop)(m1:Bool→Int→Nat)(I2:Bool→Int→Bool→Prop)(I3:Bool→Int→Int→Prop)(m3:Bool→Int→Int→Nat)(I4:Bool→Int→Int→Int→Prop)(m4:Bool→Int→Int→Int→Nat)(I5:Bool→Int→Int→Int→Lnk→Bool→Prop)(I6:Bool→Int→Int→Int→Int→Prop)(m6:Bool→Int→Int→Int→Int→Nat)(I7:Bool→Int→Int→Int→Int→Bool→Prop)(I8:Bool→Int→Int→Int→Int→Int→Prop)(m8:Bool→Int→Int→Int→Int→Int→Nat)(I9:Bool→Int→Int→Int→Int→Int→Int→Prop)(m9:Bool→Int→Int→Int→Int→Int→Int→Nat)(I10:Bool→Int→Int→Int→Int→Int→Int→Lnk→Lnk→Bool→Prop):Ax Tryz.prog GE (Int):=
 (.pass (.pass (.join 0 (LZ t) (λ(t0:Bool)=>I0 t0) (λb0=>(.br 112 (decide (24<((t.rs.map Rtr.v).length:Int))) (.bk 0 b0 ((true):Bool) [0])
(.bk 0 b0 ((decide (60<((t.ls.map Lnk.v).length:Int))):Bool) [0]))) λ(t0:Bool) =>
(.br 1 t0 (.ret (3))
(.loop 1 (LY t) (I1 t0) (m1 t0) ((0):Int) [0] λ(t1:Int) b1 =>
(.br 81 (decide (t1<((t.rs.map Rtr.v).length:Int))) (.pass (.join 2 (LX t t1) (λ(t2:Bool)=>I2 t0 t1 t2) (λb2=>(.elI 129 Rtr.v t.rs t1 λx1 =>
(.br 209 (decide (x1.id<1)) (.bk 2 b2 ((true):Bool) [0])
(.elI 257 Rtr.v t.rs t1 λx2 =>
(.bk 2 b2 ((decide (99<x2.id)):Bool) [0]))))) λ(t2:Bool) =>
(.br 1 t2 (.ret (2))
(.bk 1 b1 ((W (t1+1)):Int) [0]))))
(.loop 3 (LW t) (I3 t0 t1) (m3 t0 t1) ((1):Int) [0] λ(t3:Int) b3 =>
(.br 81 (decide (t3<((t.rs.map Rtr.v).length:Int))) (.elI 145 Rtr.v t.rs (W (t3-1)) λx3 =>
(.elI 241 Rtr.v t.rs t3 λx4 =>
(.br 305 (decide (x4.id≤x3.id)) (.ret (25))
(.bk 3 b3 ((W (t3+1)):Int) [0]))))
(.loop 4 (LV t) (I4 t0 t1 t3) (m4 t0 t1 t3) ((0):Int) [0] λ(t4:Int) b4 =>
(.br 81 (decide (t4<((t.ls.map Lnk.v).length:Int))) (.elI 129 Lnk.v t.ls t4 λx5 =>
(.join 5 (LU t t4) (λ(t5:Bool)=>I5 t0 t1 t3 t4 x5 t5) (λb5=>(.callP (lC x5.ca)
(.br 273 (!(fv x5.ca)) (.bk 5 b5 ((true):Bool) [0])
(.callP (lC x5.cb)
(.br 369 (!(fv x5.cb)) (.bk 5 b5 ((true):Bool) [0])
(.br 449 (decide (x5.w<0)) (.bk 5 b5 ((true):Bool) [0])
(.bk 5 b5 ((decide (1000<x5.w)):Bool) [0]))))))) λ(t5:Bool) =>
(.br 1 t5 (.ret (2))
(.bk 4 b4 ((W (t4+1)):Int) [0]))))
(.loop 6 (LS t) (I6 t0 t1 t3 t4) (m6 t0 t1 t3 t4) ((0):Int) [0] λ(t6:Int) b6 =>
(.br 81 (decide (t6<((t.ls.map Lnk.v).length:Int))) (.pass (.join 7 (LR t t6) (λ(t7:Bool)=>I7 t0 t1 t3 t4 t6 t7) (λb7=>(.elI 145 Lnk.v t.ls t6 λx6 =>
(.callP (nJ t x6.a)
(.br 241 (!(aJ t x6.a)) (.bk 7 b7 ((true):Bool) [0])
(.elI 305 Lnk.v t.ls t6 λx7 =>
(.callP (nJ t x7.b)
(.bk 7 b7 ((!(aJ t x7.b)):Bool) [0]))))))) λ(t7:Bool) =>
(.br 1 t7 (.ret (4))
(.bk 6 b6 ((W (t6+1)):Int) [0]))))
(.loop 8 (LQ t) (I8 t0 t1 t3 t4 t6) (m8 t0 t1 t3 t4 t6) ((0):Int) [0] λ(t8:Int) b8 =>
(.br 81 (decide (t8<((t.ls.map Lnk.v).length:Int))) (.elI 129 Lnk.v t.ls t8 λx8 =>
(.elI 225 Lnk.v t.ls t8 λx9 =>
(.br 289 (decide (x9.b≤x8.a)) (.ret (8))
(.bk 8 b8 ((W (t8+1)):Int) [0]))))
(.loop 9 (LO t) (I9 t0 t1 t3 t4 t6 t8) (m9 t0 t1 t3 t4 t6 t8) ((1):Int) [0] λ(t9:Int) b9 =>
(.br 81 (decide (t9<((t.ls.map Lnk.v).length:Int))) (.elI 145 Lnk.v t.ls (W (t9-1)) λx10 =>
(.elI 225 Lnk.v t.ls t9 λx11 =>
(.join 10 (GF t t9) (λ(t10:Bool)=>I10 t0 t1 t3 t4 t6 t8 t9 x10 x11 t10) (λb10=>(.br 417 (decide (x11.a<x10.a)) (.bk 10 b10 ((true):Bool) [0])
(.br 513 (x10.a==x11.a) (.bk 10 b10 ((decide (x11.b≤x10.b)):Bool) [0])
(.bk 10 b10 ((false):Bool) [0])))) λ(t10:Bool) =>
(.br 1 t10 (.ret (25))
(.bk 9 b9 ((W (t9+1)):Int) [0])))))
(.ret (0))))))))))))))))))
theorem Q7(t:Tpl)(ok:GI t):∃I0 I1 m1 I2 I3 m3 I4 m4 I5 I6 m6 I7 I8 m8 I9 m9 I10,(GD t I0 I1 m1 I2 I3 m3 I4 m4 I5 I6 m6 I7 I8 m8 I9 m9 I10).vp GG (aC t):=by
 refine⟨λb=>b=decide (24<t.rs.length∨60<t.ls.length),λ_ i=>aM t.rs (λx=>1≤x.id∧x.id≤99) i,λ_ i=>t.rs.length-i.toNat,
  λ_ i b=>∀x,t.rs[i.toNat]?=some x→b=decide (¬(1≤x.id∧x.id≤99)),λ_ _ i=>gu t.rs (λx y=>x.id<y.id) i,λ_ _ i=>t.rs.length+1-i.toNat,
  λ_ _ _ i=>aM t.ls iD i,λ_ _ _ i=>t.ls.length-i.toNat,λ_ _ _ _ l b=>b=decide (¬iD l),λ_ _ _ _ i=>aM t.ls (λl=>aJ t l.a=true∧aJ t l.b=true) i,λ_ _ _ _ i=>t.ls.length-i.toNat,
  λ_ _ _ _ i b=>∀l,t.ls[i.toNat]?=some l→b=decide (¬(aJ t l.a=true∧aJ t l.b=true)),λ_ _ _ _ _ i=>aM t.ls (λl=>l.a<l.b) i,λ_ _ _ _ _ i=>t.ls.length-i.toNat,
  λ_ _ _ _ _ _ i=>gu t.ls bC i,λ_ _ _ _ _ _ i=>t.ls.length+1-i.toNat,λ_ _ _ _ _ _ _ x y b=>b=decide (¬bC x y),?_⟩
 simp only[GI,Tpl.v,okU,Blk.ok,az,u']at ok;dsimp only[GD,GE,Ax.vp,Ax.vc];simp only[vcU,rfU,u'];refine⟨⟨λc=>(decide_eq_true (.inl (by omega))).symm,λc=>decide_eq_decide.mpr (by omega)⟩,?_⟩;rintro _ rfl;unfold aC
 refine⟨λc=>by rw[F' (G' c)],λc=>⟨aM.zero,λi1 h1=>⟨λd=>⟨⟨h1.idx,d,λx hx=>⟨λe y hy=>?_,λe=>⟨h1.idx,d,λy hy z hz=>?_⟩⟩⟩,?_⟩,λd=>?_⟩⟩⟩
 ·rw[hx]at hy;cases hy;exact(decide_eq_true (by omega)).symm
 ·rw[hx]at hy;cases hy;rw[hx]at hz;cases hz;exact decide_eq_decide.mpr (by omega)
 ·have c:=S' c;have hx:=f' (show i1.toNat<t.rs.length by have:=h1.idx;omega);intro b hb;have hb:=hb _ hx;subst hb;refine⟨λe=>?_,λe=>h1.step (by omega) hx (bf'.mp (S' e))⟩;rw[E' c,F' λq=>G' e (q _ (bn hx))]
 have c:=S' c;rw[E' c,E' (not_not_intro (h1.done d))]
 refine⟨gu.one,λi2 h2=>⟨λd2=>?_,λd2=>?_⟩⟩
 ·obtain⟨a1,a2⟩:=h2.idx (by omega) d2;refine⟨a1.1,a1.2,λx hx=>⟨a2,d2,λy hy=>⟨λe=>?_,λe=>h2.step (by omega) hx hy (by omega)⟩⟩⟩;rw[F' (h2.bad (by omega) hx hy (by omega))]
 rw[E' (not_not_intro (h2.done d2 λ_ _ _ q r=>bJ' q r))]
 refine⟨aM.zero,λi3 h3=>⟨λd3=>⟨h3.idx,d3,λx hx=>⟨⟨λe=>?_,λe=>⟨λe2=>?_,λe2=>⟨λe3=>?_,λe3=>?_⟩⟩⟩,?_⟩⟩,λd3=>?_⟩⟩
 ·exact(decide_eq_true (show ¬iD x from λq=>by rw[q.1]at e;cases e)).symm
 ·exact(decide_eq_true (show ¬iD x from λq=>by rw[q.2.1]at e2;cases e2)).symm
 ·exact(decide_eq_true (show ¬iD x from λq=>by have:=q.2.2.1;omega)).symm
 ·have e:fv x.ca=true:=by simpa using e
  have e2:fv x.cb=true:=by simpa using e2
  refine decide_eq_decide.mpr ⟨λq r=>by have:=r.2.2.2;omega,λq=>?_⟩;exact U' λr=>q ⟨e,e2,by omega,by omega⟩
 ·rintro _ rfl;refine⟨λe=>?_,λe=>h3.step (by omega) hx (bf'.mp (S' e))⟩;rw[F' λq=>G' e (q _ (bn hx))]
 rw[E' (not_not_intro (h3.done d3))]
 refine⟨aM.zero,λi4 h4=>⟨λd4=>⟨⟨h4.idx,d4,λx hx=>⟨λe y hy=>?_,λe=>⟨h4.idx,d4,λy hy z hz=>?_⟩⟩⟩,?_⟩,λd4=>?_⟩⟩
 ·rw[hx]at hy;cases hy;exact(decide_eq_true (show ¬(aJ t x.a=true∧aJ t x.b=true)from λq=>by rw[q.1]at e;cases e)).symm
 ·rw[hx]at hy;cases hy;rw[hx]at hz;cases hz;have e:aJ t x.a=true:=by simpa using e
  cases q:aJ t x.b<;>simp[e]
 ·have hx:=f' (show i4.toNat<t.ls.length by have:=h4.idx;omega);intro b hb;have hb:=hb _ hx;subst hb;refine⟨λe=>?_,λe=>h4.step (by omega) hx (bf'.mp (S' e))⟩;rw[F' λq=>G' e (q _ (bn hx))]
 rw[E' (not_not_intro (h4.done d4))]
 refine⟨aM.zero,λi5 h5=>⟨λd5=>⟨h5.idx,d5,λx hx=>⟨h5.idx,d5,λy hy=>?_⟩⟩,λd5=>?_⟩⟩
 ·rw[hx]at hy;cases hy;refine⟨λe=>?_,λe=>h5.step (by omega) hx (by omega)⟩;rw[F' λq=>by have:=q _ (bn hx);omega]
 rw[E' (not_not_intro (h5.done d5))]
 refine⟨gu.one,λi6 h6=>⟨λd6=>?_,λd6=>?_⟩⟩
 ·obtain⟨a1,a2⟩:=h6.idx (by omega) d6
  refine⟨a1.1,a1.2,λx hx=>⟨a2,d6,λy hy=>⟨⟨λe=>?_,λe=>⟨λe2=>?_,λe2=>?_⟩⟩,?_⟩⟩⟩
  ·exact(decide_eq_true (show ¬bC x y from λq=>by unfold bC at q;omega)).symm
  ·have e2:=eq_of_beq e2;exact decide_eq_decide.mpr (by unfold bC;omega)
  ·have e2:¬x.a=y.a:=by simpa using e2
   exact(decide_eq_false (not_not_intro (.inl (by omega)))).symm
  ·rintro _ rfl;refine⟨λe=>?_,λe=>h6.step (by omega) hx hy (bf'.mp (S' e))⟩;rw[F' (h6.bad (by omega) hx hy (G' e))]
 ·rw[E' (not_not_intro (h6.done d6 λ_ _ _ q r=>by unfold bC at *;omega))]
def lD(t:Tpl):PC Tryz.prog:=pcO 37 [(.a [(.s 2),(.s 5)])] [Tpl.v t] .k GG (aC t) (λok=>let ⟨I0,I1,m1,I2,I3,m3,I4,m4,I5,I6,m6,I7,I8,m8,I9,m9,I10,h⟩:=Q7 t ok;⟨_,h,by kernel_rfl⟩) rfl (by kernel_rfl)
def gm(f g:Int)(l:Lnk):Bool:=(l.a==f && l.b==g) || (l.b==f && l.a==g)
def dG(t:Tpl)(f g:Int):Int×Bool:=match t.ls.find? (gm f g)with
 | some l=>(if(l.a==f && l.b==g)=true then l.ca else l.cb,true)
 | none=>(0,false)
def CY(t:Tpl)(from_:Int)(to_:Int):=okL [Tpl.v t,.int from_,.int to_]
def J2(t:Tpl)(from_:Int)(to_:Int)(t0:Int):NF:=⟨[rI 1 from_,rI 2 to_,rR 3 0,rI 8 t0],[.box (Tpl.v t)]⟩
def J1(t:Tpl)(from_:Int)(to_:Int)(t0:Int)(x1:Lnk)(t1:Bool):NF:=⟨[rI 1 from_,rI 2 to_,rR 3 0,rI 8 t0,rR 9 1,rB 31 t1],[.box (Tpl.v t),.box (Lnk.v x1)]⟩
def J0(t:Tpl)(from_:Int)(to_:Int)(t0:Int)(x1:Lnk)(t2:Bool):NF:=⟨[rI 1 from_,rI 2 to_,rR 3 0,rI 8 t0,rR 9 1,rB 43 t2],[.box (Tpl.v t),.box (Lnk.v x1)]⟩
@[reducible] def CV:Nat→Type
 | 0=>Int
 | 1=>Bool
 | 2=>Bool
 | _=>Unit
def CX(r:Int×Bool):AV:=.tup [.int r.1,.bool r.2]
def CU(t:Tpl)(from_:Int)(to_:Int)(I0:Int→Prop)(m0:Int→Nat)(I1:Int→Lnk→Bool→Prop)(I2:Int→Lnk→Bool→Bool→Prop):Ax Tryz.prog CV (Int×Bool):=
 (.loop 0 (J2 t from_ to_) I0 m0 ((0):Int) [0] λ(t0:Int) b0 =>
(.br 81 (decide (t0<((t.ls.map Lnk.v).length:Int))) (.elI 129 Lnk.v t.ls t0 λx1 =>
(.pass (.join 1 (J1 t from_ to_ t0 x1) (λ(t1:Bool)=>I1 t0 x1 t1) (λb1=>(.br 273 (x1.a==from_) (.bk 1 b1 ((x1.b==to_):Bool) [0,161])
(.bk 1 b1 ((false):Bool) [0,161]))) λ(t1:Bool) =>
(.br 2 t1 (.ret (x1.ca,true))
(.join 2 (J0 t from_ to_ t0 x1) (λ(t2:Bool)=>I2 t0 x1 t1 t2) (λb2=>(.br 82 (x1.b==from_) (.bk 2 b2 ((x1.a==to_):Bool) [0,1])
(.bk 2 b2 ((false):Bool) [0,1]))) λ(t2:Bool) =>
(.br 2 t2 (.ret (x1.cb,true))
(.bk 0 b0 ((W (t0+1)):Int) [0])))))))
(.ret (0,false))))
theorem O2(t:Tpl)(f g:Int)(ok:CY t f g):∃I0 m0 I1 I2,(CU t f g I0 m0 I1 I2).vp CX (dG t f g):=by
 refine⟨λi=>aM t.ls (λl=>gm f g l=false) i,λi=>t.ls.length-i.toNat,λ_ l b=>b=(l.a==f && l.b==g),λ_ l _ b=>b=(l.b==f && l.a==g),?_⟩;simp only[CY,Tpl.v,okU,Blk.ok,az,u']at ok;dsimp only[CU,CV,Ax.vp,Ax.vc];simp only[vcU,rfU,u']
 refine⟨aM.zero,λi h=>⟨λc=>⟨h.idx,c,λx hx=>⟨⟨λe=>by rw[e];rfl,λe=>by rw[e];rfl⟩,?_⟩⟩,λc=>?_⟩⟩
 ·rintro _ rfl
  refine⟨λe=>?_,λe=>⟨⟨λe2=>by rw[e2];rfl,λe2=>by rw[e2];rfl⟩,?_⟩⟩
  ·rw[dG,kR h hx (by rw[gm,e];rfl)];simp only;rw[F' e]
  ·rintro _ rfl;refine⟨λe2=>?_,λe2=>h.step (by omega) hx (by rw[gm,e,e2];rfl)⟩;rw[dG,kR h hx (by rw[gm,e2,Bool.or_true])];simp only;rw[E' (by rw[e];simp)]
 ·rw[dG,mA h c]
def uE(t:Tpl)(from_:Int)(to_:Int):PC Tryz.prog:=pcO 40 [(.a [(.s 2),(.s 5)]),.k,.k] [Tpl.v t,.int from_,.int to_] .k CX (dG t from_ to_) (λok=>let ⟨I0,m0,I1,I2,h⟩:=O2 t from_ to_ ok;⟨_,h,by kernel_rfl⟩) rfl (by kernel_rfl)
def lu(t:Tpl)(r:Int):List Int:=t.rs.flatMap λx=>if(dG t r x.id).2=true then [x.id]else []
def JU(t:Tpl)(r:Int)(t0:Int×List Int):NF:=⟨[rI 1 r,rR 2 0,rV 5 1,rI 6 t0.1],[.box (Tpl.v t),vB 1 AV.int t0.2 (λ_=>rfl)]⟩
@[reducible] def D5:Nat→Type
 | 0=>Int×List Int
 | _=>Unit
def D6(r:List Int):AV:=.sl 1 (r.map AV.int) false
def D4(t:Tpl)(r:Int)(I0:(Int×List Int)→Prop)(m0:(Int×List Int)→Nat):Ax Tryz.prog D5 ((List Int)):=
 (.cmdL (.nilT 5 1) (.loop 0 (JU t r) I0 m0 (0,[]) [0,64] λ(t0:Int×List Int) b0 =>
(.br 82 (decide (t0.1<((t.rs.map Rtr.v).length:Int))) (.elI 162 Rtr.v t.rs t0.1 λx1 =>
(.callP (uE t r x1.id)
(.br 322 ((dG t r x1.id).2) (.elI 386 Rtr.v t.rs t0.1 λx2 =>
(.apX 450 AV.int t0.2 [x2.id] (t0.2.length+1)
(.bk 0 b0 (W (t0.1+1),t0.2++[x2.id]) [0,450])))
(.bk 0 b0 (W (t0.1+1),t0.2) [0,1]))))
(.fz 1 AV.int t0.2 (λ_=>rfl) (.ret (t0.2))))))
theorem OQ(t:Tpl)(r:Int)(h:t.rs.length≤1000):∃I m,(D4 t r I m).vp D6 (lu t r):=by
 refine⟨λs=>dY t.rs (λx=>if(dG t r x.id).2=true then [x.id]else []) s.1 s.2,λs=>t.rs.length-s.1.toNat,?_⟩;dsimp only[D4,D5,Ax.vp,Ax.vc];simp only[vcU,rfU,u'];refine⟨dY.zero,?_⟩;rintro⟨i,out⟩ g;simp only at g ⊢;have hl:=g.len (b:=1) λx _=>by split<;>simp
 refine⟨λc=>⟨g.idx,c,λx hx=>?_⟩,λc=>?_⟩
 ·refine⟨λe=>⟨g.idx,c,λy hy=>⟨by omega,?_⟩⟩,λe=>g.step (by omega) hx (by rw[E' (by rw[e];simp)];simp)⟩;rw[hx]at hy;cases hy;exact g.step (by omega) hx (by rw[F' e])
 ·exact g.done c
def OR(t:Tpl)(r:Int)(h:t.rs.length≤1000):PC Tryz.prog:=pcO 113 [(.a [(.s 2),(.s 5)]),.k] [Tpl.v t,.int r] (.s 1) D6 (lu t r) (λ_=>let ⟨I0,m0,h⟩:=OQ t r h;⟨_,h,by kernel_rfl⟩) rfl (by kernel_rfl)
theorem cJ{t:Tpl}(h:aC t=0):t.rs.length≤24∧t.ls.length≤60:=by
 unfold aC at h
 by_cases c:24<t.rs.length∨60<t.ls.length
 ·rw[F' c]at h;cases h
 ·omega
def hs5(t:Tpl)(r:Int):Bool:=(aC t==0) && aJ t r
def Nu(r:Bool):AV:=.bool r
def EJ(t:Tpl)(r:Int):Ax Tryz.prog noS (Bool):=
 (.callP (lD t)
(.br 96 ((aC t)==0) (.callP (nJ t r)
(.ret (aJ t r)))
(.ret (false))))
theorem hs5_p(t:Tpl)(r:Int):(EJ t r).vp Nu (hs5 t r):=by
 dsimp only[EJ,noS,Ax.vp,Ax.vc];simp only[vcU,rfU,u'];refine⟨λc=>?_,λc=>?_⟩<;>rw[hs5,c]<;>rfl
def Nv(t:Tpl)(r:Int):PC Tryz.prog:=pcO 69 [(.a [(.s 2),(.s 5)]),.k] [Tpl.v t,.int r] .k Nu (hs5 t r) (λ_=>⟨(EJ t r),hs5_p t r,by kernel_rfl⟩) rfl (by kernel_rfl)
def bV(t:Tpl)(f g:Int):Int×Bool:=if aC t≠0 then(0,false)else dG t f g
theorem Nw(i j:Nat)(h:i≤j)(hj:j≤1000000):W ((IntKind.u64.wrap (W ((i:Int)+j))).fdiv 2)=(((i+j) / 2:Nat):Int):=by
 have e1:W ((i:Int)+j)=((i+j:Nat):Int):=eF ⟨by omega,by omega⟩;rw[e1];have e2:IntKind.u64.wrap ((i+j:Nat):Int)=((i+j:Nat):Int):=by simp[IntKind.wrap,IntKind.signed,IntKind.bits];omega
 rw[e2,show Int.fdiv ((i+j:Nat):Int) 2=(((i+j) / 2:Nat):Int) by rw[Int.fdiv_eq_ediv_of_nonneg _ (by omega)];rfl];exact eF ⟨by omega,by omega⟩
theorem mE(x y:Int):cmpI x y<0↔x<y:=by
 unfold cmpI;split
 ·simp_all
 ·split<;>simp_all
theorem kW(x y:Int):cmpI x y=0↔x=y:=by
 unfold cmpI;split
 ·simp;omega
 ·split
  ·simp;omega
  ·simp;omega
def bsI{α:Type}(lt:α→Bool)(l:List α):Nat→Nat→Nat→Nat
 | 0,i,_=>i
 | f+1,i,j=>if i<j then(match l[(i+j) / 2]? with
  | some x=>if lt x=true then bsI lt l f ((i+j) / 2+1) j else bsI lt l f i ((i+j) / 2)
  | none=>i)else i
theorem gS{α:Type}{lt:α→Bool}{l:List α}:∀{f g i j:Nat},j-i≤f→j-i≤g→bsI lt l f i j=bsI lt l g i j
 | 0,0,i,j,_,_=>rfl
 | 0,g+1,i,j,h,_=>by rw[bsI,bsI,E' (by omega)]
 | f+1,0,i,j,_,h=>by rw[bsI,bsI,E' (by omega)]
 | f+1,g+1,i,j,h,h'=>by
  rw[bsI,bsI]
  split
  ·split
   ·split
    ·exact gS (by omega) (by omega)
    ·exact gS (by omega) (by omega)
   ·rfl
  ·rfl
def bsP{α:Type}(lt:α→Bool)(l:List α):Nat:=bsI lt l l.length 0 l.length
def bsH{α:Type}(lt eq:α→Bool)(l:List α):Bool:=(l[bsP lt l]?).any eq
theorem kX{α:Type}{lt:α→Bool}{l:List α}(hm:∀(a b:Nat) x y,a<b→l[a]?=some x→l[b]?=some y→lt y=true→lt x=true):∀{f i j:Nat},j-i≤f→i≤j→j≤l.length →
  (∀k x,k<i→l[k]?=some x→lt x=true)→(∀k x,j≤k→l[k]?=some x→lt x=false)→(∀k x,k<bsI lt l f i j→l[k]?=some x→lt x=true)∧(∀k x,bsI lt l f i j≤k→l[k]?=some x→lt x=false)∧bsI lt l f i j≤l.length
 | 0,i,j,h,hij,hj,h1,h2=>by
  obtain rfl:i=j:=by omega
  rw[bsI];exact⟨h1,h2,hj⟩
 | f+1,i,j,h,hij,hj,h1,h2=>by
  rw[bsI]
  by_cases hlt:i<j
  ·have hx:=f' (show(i+j) / 2<l.length by omega);generalize l[(i+j) / 2]=x at hx;rw[F' hlt,hx]
   by_cases e:lt x=true
   ·simp only[e,if_true];refine kX hm (by omega) (by omega) hj (λk y hk hy=>?_) h2
    by_cases e':k=(i+j) / 2
    ·subst e';rw[hx]at hy;cases hy;exact e
    ·exact hm k _ y x (by omega) hy hx e
   ·simp only[e,if_false,aS'];refine kX hm (by omega) (by omega) (by omega) h1 (λk y hk hy=>?_)
    by_cases e':k=(i+j) / 2
    ·subst e';rw[hx]at hy;cases hy;simpa using e
    ·cases q:lt y
     ·rfl
     ·exact absurd (hm _ k x y (by omega) hx hy q) e
  ·obtain rfl:i=j:=by omega
   rw[E' hlt];exact⟨h1,h2,hj⟩
theorem zL{α:Type}{lt eq:α→Bool}{l:List α}(hm:∀(a b:Nat) x y,a<b→l[a]?=some x→l[b]?=some y→lt y=true→lt x=true)(he:∀x,eq x=true→lt x=false)
  (h2:∀(a b:Nat) x y,a<b→l[a]?=some x→l[b]?=some y→eq y=true→lt x=true):(bsH lt eq l=l.any eq)∧∀x∈l,eq x=true→l[bsP lt l]?=some x:=by
 obtain⟨s1,s2,s3⟩:=kX hm (f:=l.length) (i:=0) (j:=l.length) (by omega) (by omega) (X' _) (λk x hk=>by omega) (λk x hk hx=>by have:=am hx;omega);have key:∀x∈l,eq x=true→l[bsP lt l]?=some x:=λx hx e=>by
  obtain⟨k,hk⟩:=ac'.mp hx;have h3:bsP lt l≤k:=Nat.le_of_not_lt λh=>by
   have:=s1 k x h hk;rw[he x e]at this;cases this
  by_cases e':bsP lt l=k
  ·rw[e'];exact hk
  ·have hl:=am hk;have hy:=f' (show bsP lt l<l.length by omega);have a:=h2 _ k _ x (by omega) hy hk e;have b:=s2 _ _ (X' _) hy;rw[a]at b;cases b
 refine⟨?_,key⟩;rw[ag',aj',bsH]
 constructor
 ·intro h;cases q:l[bsP lt l]? with
  | none=>rw[q]at h;cases h
  | some x=>rw[q]at h;exact⟨x,J' q,h⟩
 ·rintro⟨x,hx,e⟩;rw[key x hx e];exact e
def inT(n a b:Int):Bool:=decide (a≤n) && decide (n≤b)
def Nt(r:Bool):AV:=.bool r
def EF(n:Int)(least:Int)(most:Int):Ax Tryz.prog noS (Bool):=
 (.br 80 (decide (least≤n)) (.ret (decide (n≤most)))
(.ret (false)))
theorem inT_p(n a b:Int):(EF n a b).vp Nt (inT n a b):=by
 dsimp only[EF,noS,Ax.vp,Ax.vc];simp only[vcU,rfU,u'];unfold inT;exact⟨λh=>by simp[h],λh=>by simp[h]⟩
def oP(n:Int)(least:Int)(most:Int):PC Tryz.prog:=pcO 149 [.k,.k,.k] [.int n,.int least,.int most] .k Nt (inT n least most) (λ_=>⟨(EF n least most),inT_p n least most,by kernel_rfl⟩) rfl (by kernel_rfl)
def byI(r:Rtr)(id:Int):Int:=cmpI r.id id
def Nx(r:Int):AV:=.int r
def Ha(r:Rtr)(id:Int):Ax Tryz.prog noS (Int):=
 (.callP (w8 r.id id)
(.ret (cmpI r.id id)))
theorem byI_p(r:Rtr)(id:Int):(Ha r id).vp Nx (byI r id):=by
 dsimp only[Ha,noS,Ax.vp,Ax.vc];simp only[vcU,rfU,u'];rfl
def Ny(r:Rtr)(id:Int):PC Tryz.prog:=pcO 152 [.k,.k] [Rtr.v r,.int id] .k Nx (byI r id) (λ_=>⟨(Ha r id),byI_p r id,by kernel_rfl⟩) rfl (by kernel_rfl)
def ltR(r:Int)(x:Rtr):Bool:=decide (x.id<r)
def eqR(r:Int)(x:Rtr):Bool:=x.id==r
def pB(l:List Rtr)(r:Int):Nat:=bsP (ltR r) l
def mf(l:List Rtr)(r:Int):Bool:=bsH (ltR r) (eqR r) l
def N3(x:List Rtr)(target:Int):=okL [.sl 2 (x.map Rtr.v) false,.int target,.func 152 []]
def QG(x:List Rtr)(target:Int)(t0:Int×Int):NF:=⟨[(0,.k,.sl 2 (x.map Rtr.v) false),rI 1 target,(2,.k,.func 152 []),rI 8 ((x.map Rtr.v).length:Int),rI 9 t0.1,rI 10 t0.2],[]⟩
@[reducible] def N0:Nat→Type
 | 0=>Int×Int
 | _=>Unit
def N1(r:Int×Bool):AV:=.tup [.int r.1,.bool r.2]
def Nz(x:List Rtr)(target:Int)(I0:(Int×Int)→Prop)(m0:(Int×Int)→Nat):Ax Tryz.prog N0 (Int×Bool):=
 (.loop 0 (QG x target) I0 m0 (0,((x.map Rtr.v).length:Int)) [] λ(t0:Int×Int) b0 =>
(.br 48 (decide (t0.1<t0.2)) (.elI 208 Rtr.v x (W (Int.fdiv (IntKind.u64.wrap (W (t0.1+t0.2))) 2)) λx1 =>
(.callP (Ny x1 target)
(.br 288 (decide ((byI x1 target)<0)) (.bk 0 b0 (W ((W (Int.fdiv (IntKind.u64.wrap (W (t0.1+t0.2))) 2))+1),t0.2) [])
(.bk 0 b0 (t0.1,W (Int.fdiv (IntKind.u64.wrap (W (t0.1+t0.2))) 2)) []))))
(.br 128 (decide (t0.1<((x.map Rtr.v).length:Int))) (.elI 176 Rtr.v x t0.1 λx2 =>
(.callP (Ny x2 target)
(.ret (t0.1,(byI x2 target)==0))))
(.ret (t0.1,false)))))
theorem bsR_p(x:List Rtr)(r:Int)(hl:x.length≤1000000)(ok:N3 x r):∃I m,(Nz x r I m).vp N1 ((pB x r:Int),mf x r):=by
  refine⟨λt=>∃i j:Nat,t=((i:Int),(j:Int))∧i≤j∧j≤x.length∧bsI (ltR r) x (j-i) i j=bsP (ltR r) x,λt=>(t.2-t.1).toNat,?_⟩;simp only[N3,Rtr.v,okU,Blk.ok,az,u']at ok;dsimp only[Nz,N0,Ax.vp,Ax.vc];simp only[vcU,rfU,u'];refine⟨⟨0,x.length,rfl,by omega,by omega,rfl⟩,?_⟩;rintro _ ⟨i,j,rfl,hij,hj,h1⟩
  refine⟨λh3=>?_,λh3=>?_⟩
  ·have h3:i<j:=by simpa using h3
   simp only[Nw i j hij (by omega),Int.toNat_natCast];obtain⟨d,hd⟩:∃d,j-i=d+1:=⟨j-i-1,by omega⟩
   rw[hd,bsI,F' h3]at h1
   refine⟨by omega,by omega,λy hy=>⟨λe=>?_,λe=>?_⟩⟩
   ·rw[hy]at h1;simp only[show ltR r y=true from decide_eq_true ((mE _ _).mp e),if_true]at h1;rw[gS (g:=j-((i+j) / 2+1)) (by omega) (by omega)]at h1;rw[aQ (n:=x.length) (by omega) (by omega)];exact⟨⟨_,_,rfl,by omega,hj,h1⟩,by omega⟩
   ·rw[hy]at h1;simp only[show ltR r y=false from decide_eq_false (λq=>e ((mE _ _).mpr q)),if_false,aS']at h1;rw[gS (g:=(i+j) / 2-i) (by omega) (by omega)]at h1;exact⟨⟨_,_,rfl,by omega,by omega,h1⟩,by omega⟩
  ·have h3:i=j:=by simp at h3;omega
   subst h3;rw[ba',bsI]at h1;simp only[Int.toNat_natCast]
   refine⟨λh4=>⟨by omega,by omega,λy hy=>?_⟩,λh4=>?_⟩
   ·unfold pB mf bsH;rw[←h1,hy];refine congrArg _ ?_;show decide _=eqR r y;rw[ag',R'];simp[byI,kW,eqR]
   ·unfold pB mf bsH;rw[←h1,af' (by omega)];rfl
def N2(x:List Rtr)(target:Int)(hl:x.length≤1000000):PC Tryz.prog:=pcO 151 [(.s 2),.k,.k] [.sl 2 (x.map Rtr.v) false,.int target,.func 152 []] .k N1 ((pB x target:Int),mf x target) (λok=>let ⟨I0,m0,h⟩:=bsR_p x target hl ok;⟨_,h,by kernel_rfl⟩) rfl (by kernel_rfl)
def Nq(vals:List Int):=okL [.sl 1 (vals.map AV.int) false]
def OE(vals:List Int)(t0:Int):NF:=⟨[rI 3 0,(6,.k,.sl 1 (vals.map AV.int) false),rI 7 ((vals.map AV.int).length:Int),rI 8 t0],[]⟩
@[reducible] def Nn:Nat→Type
 | 0=>Int
 | _=>Unit
def Np(r:Int):AV:=.int r
def Nm(vals:List Int)(I0:Int→Prop)(m0:Int→Nat):Ax Tryz.prog Nn (Int):=
 (.loop 0 (OE vals) I0 m0 ((0):Int) [] λ(t0:Int) b0 =>
(.br 16 (decide (t0<((vals.map AV.int).length:Int))) (.elI 16 AV.int vals t0 λx1 =>
(.br 112 (x1 != 0) (.ret (x1))
(.bk 0 b0 ((W (t0+1)):Int) [])))
(.ret (0))))
theorem orN_p(vals:List Int)(ok:Nq vals):∃I m,(Nm vals I m).vp Np (orI vals):=by
 simp only[Nq,okU,Blk.ok,az,u']at ok;refine⟨λt=>∃k:Nat,t=k∧k≤vals.length∧(vals.take k).all (·==0),λt=>vals.length-t.toNat,?_⟩;dsimp only[Nm,Nn,Ax.vp,Ax.vc];simp only[vcU,rfU,u'];refine⟨⟨0,rfl,by omega,by simp⟩,?_⟩;rintro _ ⟨k,rfl,hk,h⟩
 refine⟨λh1=>⟨by omega,by omega,λx hx=>⟨λhn=>?_,λhn=>?_⟩⟩,λh1=>?_⟩
 ·rw[Int.toNat_natCast]at hx;rw[orI,AN h hx (by simpa using hn)];rfl
 ·rw[Int.toNat_natCast]at hx;have hlt:=am hx;rw[aQ (n:=vals.length) (by omega) (by omega)];refine⟨⟨k+1,rfl,by omega,?_⟩,by omega⟩;rw[aB hx,List.all_append,h];simpa using hn
 ·rw[V' (by omega)]at h
  rw[orI,bR'.mpr]
  ·rfl
  ·intro x hx;simpa using ay'.mp h x hx
def orN_c(vals:List Int):PC Tryz.prog:=pcO 181 [(.s 1)] [.sl 1 (vals.map AV.int) false] .k Np (orI vals) (λok=>let ⟨I0,m0,h⟩:=orN_p vals ok;⟨_,h,by kernel_rfl⟩) rfl (by kernel_rfl)
def qA(x y:Lnk):Int:=orI [cmpI x.a y.a,cmpI x.b y.b]
def Gk(r:Int):AV:=.int r
def w5(a:Lnk)(b:Lnk):Ax Tryz.prog noS (Int):=
 (.callP (w8 a.a b.a)
(.callP (w8 a.b b.b)
(.callP (orN_c [cmpI a.a b.a,cmpI a.b b.b])
(.ret (orI [cmpI a.a b.a,cmpI a.b b.b])))))
theorem Qs(x y:Lnk):(w5 x y).vp Gk (qA x y):=by
 dsimp only[w5,noS,Ax.vp,Ax.vc];simp only[vcU,rfU,u'];rfl
def w6(a:Lnk)(b:Lnk):PC Tryz.prog:=pcO 157 [.k,.k] [Lnk.v a,Lnk.v b] .k Gk (qA a b) (λ_=>⟨(w5 a b),Qs a b,by kernel_rfl⟩) rfl (by kernel_rfl)
theorem tq(x y:Lnk):qA x y=if x.a=y.a then cmpI x.b y.b else cmpI x.a y.a:=by
 unfold qA orI
 by_cases e:x.a=y.a
 ·rw[F' e,(kW _ _).mpr e]
  by_cases e2:cmpI x.b y.b=0
  ·simp[e2]
  ·simp[e2]
 ·have:cmpI x.a y.a≠0:=λh=>e ((kW _ _).mp h);rw[E' e];simp[this]
theorem mD(x y:Lnk):qA x y<0↔bC x y:=by
 rw[tq];unfold bC
 split
 ·rw[mE];omega
 ·rw[mE];omega
theorem Ly(x y:Lnk):qA x y=0↔x.a=y.a∧x.b=y.b:=by
 rw[tq]
 split
 ·rw[kW];omega
 ·rw[kW];omega
def lw(y x:Lnk):Bool:=decide (bC x y)
def je(y x:Lnk):Bool:=decide (x.a=y.a∧x.b=y.b)
def aV(l:List Lnk)(y:Lnk):Nat:=bsP (lw y) l
def cN(l:List Lnk)(y:Lnk):Bool:=bsH (lw y) (je y) l
def N8(x:List Lnk)(target:Lnk):=okL [.sl 5 (x.map Lnk.v) false,Lnk.v target,.func 157 []]
def QH(x:List Lnk)(target:Lnk)(t0:Int×Int):NF:=⟨[(0,.k,.sl 5 (x.map Lnk.v) false),(2,.k,.func 157 []),rR 4 0,rI 8 ((x.map Lnk.v).length:Int),rI 9 t0.1,rI 10 t0.2],[.box (Lnk.v target)]⟩
@[reducible] def N5:Nat→Type
 | 0=>Int×Int
 | _=>Unit
def N6(r:Int×Bool):AV:=.tup [.int r.1,.bool r.2]
def N4(x:List Lnk)(target:Lnk)(I0:(Int×Int)→Prop)(m0:(Int×Int)→Nat):Ax Tryz.prog N5 (Int×Bool):=
 (.loop 0 (QH x target) I0 m0 (0,((x.map Lnk.v).length:Int)) [0] λ(t0:Int×Int) b0 =>
(.br 49 (decide (t0.1<t0.2)) (.elI 209 Lnk.v x (W (Int.fdiv (IntKind.u64.wrap (W (t0.1+t0.2))) 2)) λx1 =>
(.callP (w6 x1 target)
(.br 289 (decide ((qA x1 target)<0)) (.bk 0 b0 (W ((W (Int.fdiv (IntKind.u64.wrap (W (t0.1+t0.2))) 2))+1),t0.2) [0])
(.bk 0 b0 (t0.1,W (Int.fdiv (IntKind.u64.wrap (W (t0.1+t0.2))) 2)) [0]))))
(.br 129 (decide (t0.1<((x.map Lnk.v).length:Int))) (.elI 177 Lnk.v x t0.1 λx2 =>
(.callP (w6 x2 target)
(.ret (t0.1,(qA x2 target)==0))))
(.ret (t0.1,false)))))
theorem bsL_p(x:List Lnk)(r:Lnk)(hl:x.length≤1000000)(ok:N8 x r):∃I m,(N4 x r I m).vp N6 ((aV x r:Int),cN x r):=by
  refine⟨λt=>∃i j:Nat,t=((i:Int),(j:Int))∧i≤j∧j≤x.length∧bsI (lw r) x (j-i) i j=bsP (lw r) x,λt=>(t.2-t.1).toNat,?_⟩;simp only[N8,Lnk.v,okU,Blk.ok,az,u']at ok;dsimp only[N4,N5,Ax.vp,Ax.vc];simp only[vcU,rfU,u'];refine⟨⟨0,x.length,rfl,by omega,by omega,rfl⟩,?_⟩;rintro _ ⟨i,j,rfl,hij,hj,h1⟩
  refine⟨λh3=>?_,λh3=>?_⟩
  ·have h3:i<j:=by simpa using h3
   simp only[Nw i j hij (by omega),Int.toNat_natCast];obtain⟨d,hd⟩:∃d,j-i=d+1:=⟨j-i-1,by omega⟩
   rw[hd,bsI,F' h3]at h1
   refine⟨by omega,by omega,λy hy=>⟨λe=>?_,λe=>?_⟩⟩
   ·rw[hy]at h1;simp only[show lw r y=true from decide_eq_true ((mD _ _).mp e),if_true]at h1;rw[gS (g:=j-((i+j) / 2+1)) (by omega) (by omega)]at h1;rw[aQ (n:=x.length) (by omega) (by omega)];exact⟨⟨_,_,rfl,by omega,hj,h1⟩,by omega⟩
   ·rw[hy]at h1;simp only[show lw r y=false from decide_eq_false (λq=>e ((mD _ _).mpr q)),if_false,aS']at h1;rw[gS (g:=(i+j) / 2-i) (by omega) (by omega)]at h1;exact⟨⟨_,_,rfl,by omega,by omega,h1⟩,by omega⟩
  ·have h3:i=j:=by simp at h3;omega
   subst h3;rw[ba',bsI]at h1;simp only[Int.toNat_natCast]
   refine⟨λh4=>⟨by omega,by omega,λy hy=>?_⟩,λh4=>?_⟩
   ·unfold aV cN bsH;rw[←h1,hy];refine congrArg _ ?_;show decide _=je r y;rw[ag',R'];simp[Ly,je]
   ·unfold aV cN bsH;rw[←h1,af' (by omega)];rfl
def N7(x:List Lnk)(target:Lnk)(hl:x.length≤1000000):PC Tryz.prog:=pcO 162 [(.s 5),.k,.k] [.sl 5 (x.map Lnk.v) false,Lnk.v target,.func 157 []] .k N6 ((aV x target:Int),cN x target) (λok=>let ⟨I0,m0,h⟩:=bsL_p x target hl ok;⟨_,h,by kernel_rfl⟩) rfl (by kernel_rfl)
def kA(r:Rtr):Bool:=!inT r.id 1 99
def Cz(r:Bool):AV:=.bool r
def uy(r:Rtr):Ax Tryz.prog noS (Bool):=
 (.callP (oP r.id 1 99)
(.ret (!(inT r.id 1 99))))
theorem Oq(r:Rtr):(uy r).vp Cz (kA r):=by
 dsimp only[uy,noS,Ax.vp,Ax.vc];simp only[vcU,rfU,u'];rfl
def Ot(r:Rtr):PC Tryz.prog:=pcO 148 [.k] [Rtr.v r] .k Cz (kA r) (λ_=>⟨(uy r),Oq r,by kernel_rfl⟩) rfl (by kernel_rfl)
def kU(l:Lnk):Bool:=!inT l.ca 1 1000 || (!inT l.cb 1 1000 || !inT l.w 0 1000)
def FU(r:Bool):AV:=.bool r
def wl(l:Lnk):Ax Tryz.prog noS (Bool):=
 (.callP (oP l.ca 1 1000)
(.br 112 (!(inT l.ca 1 1000)) (.ret (true))
(.callP (oP l.cb 1 1000)
(.br 208 (!(inT l.cb 1 1000)) (.ret (true))
(.callP (oP l.w 0 1000)
(.ret (!(inT l.w 0 1000))))))))
theorem Qi(l:Lnk):(wl l).vp FU (kU l):=by
 dsimp only[wl,noS,Ax.vp,Ax.vc];simp only[vcU,rfU,u'];unfold kU;exact⟨λh=>by rw[h];rfl,λh=>⟨λh2=>by rw[h,h2];rfl,λh2=>by rw[h,h2];rfl⟩⟩
def Qj(l:Lnk):PC Tryz.prog:=pcO 154 [.k] [Lnk.v l] .k FU (kU l) (λ_=>⟨(wl l),Qi l,by kernel_rfl⟩) rfl (by kernel_rfl)
def lI(l:Lnk):Bool:=decide (l.b≤l.a)
def HU(r:Bool):AV:=.bool r
def wP(l:Lnk):Ax Tryz.prog noS (Bool):=
 (.ret (decide (l.b≤l.a)))
theorem Rb(l:Lnk):(wP l).vp HU (lI l):=by
 dsimp only[wP,noS,Ax.vp,Ax.vc];simp only[vcU,rfU,u'];rfl
def Rc(l:Lnk):PC Tryz.prog:=pcO 156 [.k] [Lnk.v l] .k HU (lI l) (λ_=>⟨(wP l),Rb l,by kernel_rfl⟩) rfl (by kernel_rfl)
def uf(id:Int)(t:Tpl):Bool:=!mf t.rs id
def BF(r:Bool):AV:=.bool r
def ue(id:Int)(t:Tpl):Ax Tryz.prog noS (Bool):=
 (.req 64 (t.rs.length≤1000000) λh1 =>
(.callP (N2 t.rs id h1)
(.ret (!(mf t.rs id)))))
theorem NP(id:Int)(t:Tpl)(hl:t.rs.length≤1000000):(ue id t).vp BF (uf id t):=by
 dsimp only[ue,noS,Ax.vp,Ax.vc];simp only[vcU,rfU,u'];exact⟨hl,rfl⟩
def BG(id:Int)(t:Tpl)(hl:t.rs.length≤1000000):PC Tryz.prog:=pcO 150 [.k,.k] [.int id,.rptr (Tpl.v t) 0] .k BF (uf id t) (λ_=>⟨(ue id t),NP id t hl,by kernel_rfl⟩) rfl (by kernel_rfl)
def iA(l:Lnk)(t:Tpl):Bool:=uf l.a t || uf l.b t
def BC(r:Bool):AV:=.bool r
def ud(l:Lnk)(t:Tpl):Ax Tryz.prog noS (Bool):=
 (.req 80 (t.rs.length≤1000000) λh1 =>
(.callP (BG l.a t h1)
(.br 112 (uf l.a t) (.ret (true))
(.req 160 (t.rs.length≤1000000) λh2 =>
(.callP (BG l.b t h2)
(.ret (uf l.b t)))))))
theorem NN(l:Lnk)(t:Tpl)(hl:t.rs.length≤1000000):(ud l t).vp BC (iA l t):=by
 dsimp only[ud,noS,Ax.vp,Ax.vc];simp only[vcU,rfU,u'];exact⟨hl,λh=>by unfold iA;rw[h];rfl,λh=>⟨hl,by unfold iA;rw[h];rfl⟩⟩
def NO(l:Lnk)(t:Tpl)(hl:t.rs.length≤1000000):PC Tryz.prog:=pcO 155 [.k,.k] [Lnk.v l,.rptr (.func 150 [.rptr (Tpl.v t) 0]) 0] .k BC (iA l t) (λ_=>⟨(ud l t),NN l t hl,by kernel_rfl⟩) rfl (by kernel_rfl)
def xT(s:List Rtr):=okL [.sl 2 (s.map Rtr.v) false,.func 148 []]
def C0(s:List Rtr)(t0:Int):NF:=⟨[(0,.k,.sl 2 (s.map Rtr.v) false),(1,.k,.func 148 []),rI 7 ((s.map Rtr.v).length:Int),rI 8 t0],[]⟩
@[reducible] def xR:Nat→Type
 | 0=>Int
 | _=>Unit
def xS(r:Int):AV:=.int r
def xQ(s:List Rtr)(I0:Int→Prop)(m0:Int→Nat):Ax Tryz.prog xR (Int):=
 (.loop 0 (C0 s) I0 m0 ((0):Int) [] λ(t0:Int) b0 =>
(.br 16 (decide (t0<((s.map Rtr.v).length:Int))) (.elI 96 Rtr.v s t0 λx1 =>
(.callP (Ot x1)
(.br 144 (kA x1) (.ret (t0))
(.bk 0 b0 ((W (t0+1)):Int) []))))
(.ret (-1))))
theorem Jf(s:List Rtr)(ok:xT s):∃I m,(xQ s I m).vp xS (cE kA s):=by
  refine⟨λt=>aM s (λy=>kA y=false) t,λt=>s.length-t.toNat,?_⟩;simp only[xT,Rtr.v,okU,Blk.ok,az,u']at ok;dsimp only[xQ,xR,Ax.vp,Ax.vc];simp only[vcU,rfU,u'];exact⟨aM.zero,λt h=>⟨λc=>⟨h.idx,c,λx hx=>⟨λq=>h.found hx q,λq=>h.step (by omega) hx q⟩⟩,λc=>h.lost c⟩⟩
def Jg(s:List Rtr):PC Tryz.prog:=pcO 160 [(.s 2),.k] [.sl 2 (s.map Rtr.v) false,.func 148 []] .k xS (cE kA s) (λok=>let ⟨I0,m0,h⟩:=Jf s ok;⟨_,h,by kernel_rfl⟩) rfl (by kernel_rfl)
def xU(r:Bool):AV:=.bool r
def px(s:List Rtr):Ax Tryz.prog noS (Bool):=
 (.callP (Jg s)
(.ret (decide (0≤(cE kA s)))))
theorem Jh(s:List Rtr):(px s).vp xU (s.any kA):=by
 dsimp only[px,noS,Ax.vp,Ax.vc];simp only[vcU,rfU,u'];exact dQ _ _
def Ji(s:List Rtr):PC Tryz.prog:=pcO 117 [(.s 2),.k] [.sl 2 (s.map Rtr.v) false,.func 148 []] .k xU (s.any kA) (λ_=>⟨(px s),Jh s,by kernel_rfl⟩) rfl (by kernel_rfl)
def zt(s:List Lnk):=okL [.sl 5 (s.map Lnk.v) false,.func 154 []]
def FV(s:List Lnk)(t0:Int):NF:=⟨[(0,.k,.sl 5 (s.map Lnk.v) false),(1,.k,.func 154 []),rI 7 ((s.map Lnk.v).length:Int),rI 8 t0],[]⟩
@[reducible] def zq:Nat→Type
 | 0=>Int
 | _=>Unit
def zr(r:Int):AV:=.int r
def zp(s:List Lnk)(I0:Int→Prop)(m0:Int→Nat):Ax Tryz.prog zq (Int):=
 (.loop 0 (FV s) I0 m0 ((0):Int) [] λ(t0:Int) b0 =>
(.br 16 (decide (t0<((s.map Lnk.v).length:Int))) (.elI 96 Lnk.v s t0 λx1 =>
(.callP (Qj x1)
(.br 144 (kU x1) (.ret (t0))
(.bk 0 b0 ((W (t0+1)):Int) []))))
(.ret (-1))))
theorem Ln(s:List Lnk)(ok:zt s):∃I m,(zp s I m).vp zr (cE kU s):=by
  refine⟨λt=>aM s (λy=>kU y=false) t,λt=>s.length-t.toNat,?_⟩;simp only[zt,Lnk.v,okU,Blk.ok,az,u']at ok;dsimp only[zp,zq,Ax.vp,Ax.vc];simp only[vcU,rfU,u'];exact⟨aM.zero,λt h=>⟨λc=>⟨h.idx,c,λx hx=>⟨λq=>h.found hx q,λq=>h.step (by omega) hx q⟩⟩,λc=>h.lost c⟩⟩
def Lo(s:List Lnk):PC Tryz.prog:=pcO 180 [(.s 5),.k] [.sl 5 (s.map Lnk.v) false,.func 154 []] .k zr (cE kU s) (λok=>let ⟨I0,m0,h⟩:=Ln s ok;⟨_,h,by kernel_rfl⟩) rfl (by kernel_rfl)
def zu(r:Bool):AV:=.bool r
def qw(s:List Lnk):Ax Tryz.prog noS (Bool):=
 (.callP (Lo s)
(.ret (decide (0≤(cE kU s)))))
theorem Lp(s:List Lnk):(qw s).vp zu (s.any kU):=by
 dsimp only[qw,noS,Ax.vp,Ax.vc];simp only[vcU,rfU,u'];exact dQ _ _
def Lq(s:List Lnk):PC Tryz.prog:=pcO 153 [(.s 5),.k] [.sl 5 (s.map Lnk.v) false,.func 154 []] .k zu (s.any kU) (λ_=>⟨(qw s),Lp s,by kernel_rfl⟩) rfl (by kernel_rfl)
def zZ(s:List Lnk):=okL [.sl 5 (s.map Lnk.v) false,.func 156 []]
def HV(s:List Lnk)(t0:Int):NF:=⟨[(0,.k,.sl 5 (s.map Lnk.v) false),(1,.k,.func 156 []),rI 7 ((s.map Lnk.v).length:Int),rI 8 t0],[]⟩
@[reducible] def zX:Nat→Type
 | 0=>Int
 | _=>Unit
def zY(r:Int):AV:=.int r
def zW(s:List Lnk)(I0:Int→Prop)(m0:Int→Nat):Ax Tryz.prog zX (Int):=
 (.loop 0 (HV s) I0 m0 ((0):Int) [] λ(t0:Int) b0 =>
(.br 16 (decide (t0<((s.map Lnk.v).length:Int))) (.elI 96 Lnk.v s t0 λx1 =>
(.callP (Rc x1)
(.br 144 (lI x1) (.ret (t0))
(.bk 0 b0 ((W (t0+1)):Int) []))))
(.ret (-1))))
theorem MV(s:List Lnk)(ok:zZ s):∃I m,(zW s I m).vp zY (cE lI s):=by
  refine⟨λt=>aM s (λy=>lI y=false) t,λt=>s.length-t.toNat,?_⟩;simp only[zZ,Lnk.v,okU,Blk.ok,az,u']at ok;dsimp only[zW,zX,Ax.vp,Ax.vc];simp only[vcU,rfU,u'];exact⟨aM.zero,λt h=>⟨λc=>⟨h.idx,c,λx hx=>⟨λq=>h.found hx q,λq=>h.step (by omega) hx q⟩⟩,λc=>h.lost c⟩⟩
def MW(s:List Lnk):PC Tryz.prog:=pcO 180 [(.s 5),.k] [.sl 5 (s.map Lnk.v) false,.func 156 []] .k zY (cE lI s) (λok=>let ⟨I0,m0,h⟩:=MV s ok;⟨_,h,by kernel_rfl⟩) rfl (by kernel_rfl)
def Aa(r:Bool):AV:=.bool r
def qM(s:List Lnk):Ax Tryz.prog noS (Bool):=
 (.callP (MW s)
(.ret (decide (0≤(cE lI s)))))
theorem MX(s:List Lnk):(qM s).vp Aa (s.any lI):=by
 dsimp only[qM,noS,Ax.vp,Ax.vc];simp only[vcU,rfU,u'];exact dQ _ _
def MY(s:List Lnk):PC Tryz.prog:=pcO 153 [(.s 5),.k] [.sl 5 (s.map Lnk.v) false,.func 156 []] .k Aa (s.any lI) (λ_=>⟨(qM s),MX s,by kernel_rfl⟩) rfl (by kernel_rfl)
def xk(s:List Lnk)(f:Tpl):=okL [.sl 5 (s.map Lnk.v) false,.func 155 [.rptr (.func 150 [.rptr (Tpl.v f) 0]) 0]]
def BE(s:List Lnk)(f:Tpl)(t0:Int):NF:=⟨[(0,.k,.sl 5 (s.map Lnk.v) false),(1,.k,.func 155 [.rptr (.func 150 [.rptr (Tpl.v f) 0]) 0]),rI 7 ((s.map Lnk.v).length:Int),rI 8 t0],[]⟩
@[reducible] def xi:Nat→Type
 | 0=>Int
 | _=>Unit
def xj(r:Int):AV:=.int r
def xh(s:List Lnk)(f:Tpl)(I0:Int→Prop)(m0:Int→Nat):Ax Tryz.prog xi (Int):=
 (.loop 0 (BE s f) I0 m0 ((0):Int) [] λ(t0:Int) b0 =>
(.br 16 (decide (t0<((s.map Lnk.v).length:Int))) (.elI 96 Lnk.v s t0 λx1 =>
(.req 128 (f.rs.length≤1000000) λh2 =>
(.callP (NO x1 f h2)
(.br 144 (iA x1 f) (.ret (t0))
(.bk 0 b0 ((W (t0+1)):Int) [])))))
(.ret (-1))))
theorem Iq(s:List Lnk)(t:Tpl)(hl:t.rs.length≤1000000)(ok:xk s t):∃I m,(xh s t I m).vp xj (cE (λy=>iA y t) s):=by
 refine⟨λi=>aM s (λy=>iA y t=false) i,λi=>s.length-i.toNat,?_⟩;simp only[xk,Lnk.v,Tpl.v,okU,Blk.ok,az,u']at ok;dsimp only[xh,xi,Ax.vp,Ax.vc];simp only[vcU,rfU,u'];exact⟨aM.zero,λi h=>⟨λc=>⟨h.idx,c,λx hx=>⟨hl,λq=>h.found hx q,λq=>h.step (by omega) hx q⟩⟩,λc=>h.lost c⟩⟩
def Ir(s:List Lnk)(f:Tpl)(hl:f.rs.length≤1000000):PC Tryz.prog:=pcO 180 [(.s 5),.k] [.sl 5 (s.map Lnk.v) false,.func 155 [.rptr (.func 150 [.rptr (Tpl.v f) 0]) 0]] .k xj (cE (λy=>iA y f) s) (λok=>let ⟨I0,m0,h⟩:=Iq s f hl ok;⟨_,h,by kernel_rfl⟩) rfl (by kernel_rfl)
def xl(r:Bool):AV:=.bool r
def pn(s:List Lnk)(f:Tpl):Ax Tryz.prog noS (Bool):=
 (.req 48 (f.rs.length≤1000000) λh1 =>
(.callP (Ir s f h1)
(.ret (decide (0≤(cE (λy=>iA y f) s))))))
theorem Is(s:List Lnk)(t:Tpl)(hl:t.rs.length≤1000000):(pn s t).vp xl (s.any λy=>iA y t):=by
 dsimp only[pn,noS,Ax.vp,Ax.vc];simp only[vcU,rfU,u'];exact⟨hl,dQ _ _⟩
def xm(s:List Lnk)(f:Tpl)(hl:f.rs.length≤1000000):PC Tryz.prog:=pcO 153 [(.s 5),.k] [.sl 5 (s.map Lnk.v) false,.func 155 [.rptr (.func 150 [.rptr (Tpl.v f) 0]) 0]] .k xl (s.any λy=>iA y f) (λ_=>⟨(pn s f),Is s f hl,by kernel_rfl⟩) rfl (by kernel_rfl)
theorem ef{α:Type}{l:List α}(hn:l.Nodup){i j:Nat}{x:α}(a:l[i]?=some x)(b:l[j]?=some x):i=j:=by
 have hi:=(P'.mp a).1;have hj:=(P'.mp b).1;rw[f' hi]at a;rw[f' hj]at b;exact(List.getElem_inj (h₀:=hi) (h₁:=hj) hn).mp (by rw[Z' a,Z' b])
section
variable {α β : Type} [DecidableEq α] {l : List (α × β)} {x y : α} {v z : β} {p : α × β}
theorem aP:x∈ap l↔∃v,(x,v)∈l:=by
 unfold ap;rw[aa'];exact⟨λ⟨p,h,e⟩=>⟨p.2,by rw[←e];exact h⟩,λ⟨v,h⟩=>⟨_,h,rfl⟩⟩
theorem bW:aT l x=true↔∃v,(x,v)∈l:=by
 unfold aT;rw[R',aP]
theorem gE(h:(ap l).Nodup){v w:β}(h1:(x,v)∈l)(h2:(x,w)∈l):v=w:=by
 obtain⟨i,hi⟩:=ac'.mp h1;obtain⟨j,hj⟩:=ac'.mp h2;have a:(ap l)[i]?=some x:=by rw[ap,I',hi];rfl
 have b:(ap l)[j]?=some x:=by rw[ap,I',hj];rfl
 have g:=ef h a b;subst g;rw[hi]at hj;exact congrArg Prod.snd (Z' hj)
theorem kH(h:x∈ap l):∃v,l[eB l x]?=some (x,v):=by
 have e:l[eB l x]?=some (l[eB l x]'(fD h)):=f' (fD h);refine⟨(l[eB l x]'(fD h)).2,?_⟩;rw[e];have:=sd h;exact congrArg some (Prod.ext this rfl)
theorem bF(h:aT l x=true):(x,av l x z)∈l:=by
 obtain⟨v,e⟩:=kH (G' h);unfold av;rw[e];exact be e
theorem dC(hn:(ap l).Nodup)(h:(x,v)∈l):av l x z=v:=
 gE hn (bF (bW.mpr ⟨v,h⟩)) h
theorem cd(h:aT l x=false):av l x z=z:=by
 have h:x ∉ ap l:=S' h;unfold av;rw[mq h,af' (X' _)]
theorem yC:aT l x=false↔∀v,(x,v) ∉ l:=by
 rw[←Bool.not_eq_true,bW];exact⟨λh v hv=>h ⟨v,hv⟩,λh ⟨v,hv⟩=>h v hv⟩
theorem A6:ap (ba l x v)=if x∈ap l then ap l else ap l++[x]:=by
 unfold ba
 by_cases h:x∈ap l
 ·rw[F' h,F' h];unfold ap at h ⊢;rw[bz'];obtain⟨v',e⟩:=kH h;refine aJ' λi=>?_;rw[ak']
  split
  ·rename_i g;subst g;rw[F' (by rw[u'];exact am e),I',e];rfl
  ·rfl
 ·rw[E' h,E' h];simp[ap]
theorem dw(hn:(ap l).Nodup):(ap (ba l x v)).Nodup:=by
 rw[A6]
 split
 ·exact hn
 ·rename_i h;exact bg'.mpr ⟨hn,by simp,λa ha b hb=>by rw[L'.mp hb];rintro rfl;exact h ha⟩
theorem bM(hn:(ap l).Nodup):p∈ba l x v↔p=(x,v)∨(p∈l∧p.1≠x):=by
 unfold ba
 by_cases h:x∈ap l
 ·rw[F' h];obtain⟨v',e⟩:=kH h
  constructor
  ·intro hp;obtain⟨i,hi⟩:=ac'.mp hp;rw[ak']at hi
   split at hi
   ·split at hi
    ·exact .inl (Z' hi).symm
    ·cases hi
   ·rename_i g;refine .inr ⟨be hi,?_⟩;rintro rfl;have a:(ap l)[i]?=some p.1:=by rw[ap,I',hi];rfl
    have b:(ap l)[eB l p.1]?=some p.1:=by rw[ap,I',e];rfl
    exact g (ef hn a b).symm
  ·rintro(rfl|⟨hp,hne⟩)
   ·exact be (i:=eB l x) (by rw[ak',F' rfl,F' (am e)])
   ·obtain⟨i,hi⟩:=ac'.mp hp;refine be (i:=i) ?_
    rw[ak',E']
    ·exact hi
    ·rintro rfl;rw[e]at hi;exact hne (congrArg Prod.fst (Z' hi)).symm
 ·rw[E' h,ab',L']
  constructor
  ·rintro(hp|hp)
   ·exact .inr ⟨hp,λe=>h (aP.mpr ⟨p.2,by rw[←e];exact hp⟩)⟩
   ·exact .inl hp
  ·rintro(hp|⟨hp,_⟩)
   ·exact .inr hp
   ·exact .inl hp
theorem pN(hn:(ap l).Nodup):p∈mdl l x↔p∈l∧p.1≠x:=by
 unfold mdl
 by_cases h:x∈ap l
 ·obtain⟨v',e⟩:=kH h;rw[List.mem_eraseIdx_iff_getElem?]
  constructor
  ·rintro⟨i,hne,hi⟩;refine⟨be hi,?_⟩;rintro rfl;have a:(ap l)[i]?=some p.1:=by rw[ap,I',hi];rfl
   have b:(ap l)[eB l p.1]?=some p.1:=by rw[ap,I',e];rfl
   exact hne (ef hn a b)
  ·rintro⟨hp,hne⟩;obtain⟨i,hi⟩:=ac'.mp hp;refine⟨i,?_,hi⟩;rintro rfl;rw[e]at hi;exact hne (congrArg Prod.fst (Z' hi)).symm
 ·rw[mq h,cn' (X' _)];exact⟨λhp=>⟨hp,λe=>h (aP.mpr ⟨p.2,by rw[←e];exact hp⟩)⟩,λhp=>hp.1⟩
theorem A7(hn:(ap l).Nodup):(ap (mdl l x)).Nodup:=by
 unfold mdl ap;rw[bP];exact hn.sublist (List.eraseIdx_sublist _ _)
theorem se(hn:(ap l).Nodup):aT (ba l x v) y=(decide (y=x) || aT l y):=by
 rw[ag',bi',R',bW,bW]
 constructor
 ·rintro⟨w,h⟩
  rcases(bM hn).mp h with h|⟨h,_⟩
  ·cases h;exact .inl rfl
  ·exact .inr ⟨w,h⟩
 ·rintro(rfl|⟨w,h⟩)
  ·exact⟨v,(bM hn).mpr (.inl rfl)⟩
  ·by_cases e:y=x
   ·subst e;exact⟨v,(bM hn).mpr (.inl rfl)⟩
   ·exact⟨w,(bM hn).mpr (.inr ⟨h,e⟩)⟩
theorem DC:(ba l x v).length=if aT l x=true then l.length else l.length+1:=by
 unfold ba aT
 by_cases h:x∈ap l
 ·rw[F' h,decide_eq_true h,F' rfl,aX']
 ·rw[E' h,decide_eq_false h];simp
end
structure Stp where
  to:Int
  cost:Int
def Stp.v(x:Stp):AV:=.agg [.int x.to,.int x.cost]
abbrev Lks:=List (Int×List Stp)
abbrev Dis:=List (Int×Int)
def bfr(x b:Int×Int):Prop:=x.2<b.2∨x.2=b.2∧x.1<b.1
instance (x b:Int×Int):Decidable (bfr x b):=by unfold bfr;infer_instance
def Mo:Dis→Option (Int×Int)
 | []=>none
 | x::l=>match Mo l with
  | none=>some x
  | some b=>if bfr x b then some x else some b
def bst(l:Dis):Int:=match Mo l with
 | none=>0
 | some b=>b.1
theorem lG:∀{l:Dis},l≠[]→∃b,Mo l=some b∧b∈l∧∀x∈l,¬bfr x b
 | [],h=>absurd rfl h
 | [x],_=>⟨x,rfl,by simp,by simp[bfr]⟩
 | x::y::l,_=>by
  obtain⟨b,h1,h2,h3⟩:=lG (l:=y::l) (by simp);rw[Mo,h1];simp only
  split
  ·rename_i h;refine⟨x,rfl,by simp,λz hz=>?_⟩
   rcases ah'.mp hz with rfl|hz
   ·simp[bfr]
   ·have:=h3 z hz;unfold bfr at *;omega
  ·rename_i h;refine⟨b,rfl,by simp[h2],λz hz=>?_⟩
   rcases ah'.mp hz with rfl|hz
   ·exact h
   ·exact h3 z hz
theorem QF{l:Dis}{b:Int×Int}(h:b∈l)(hb:∀x∈l,¬bfr x b):bst l=b.1:=by
 obtain⟨c,h1,h2,h3⟩:=lG (l:=l) (by rintro rfl;simp at h);have e1:=hb c h2;have e2:=h3 b h;unfold bst;rw[h1];simp only;unfold bfr at e1 e2;omega
theorem bj{kk:Option Nat}{z:AV}{ok:Bool}{m k:AO}{f:Nat}{ρ:AO→AV}{hp:Hp}:evA (.mget kk z ok m k) f ρ hp=match dI hp (ρ m),(ρ k).key with
    | some (kk',ks,vs),some q=>{ c:=kk'=kk∧q.fits kk,v:=cR ks vs q z ok }
    | _,_=>.bad:=rfl
def F5:AC:=.seq (.reg [⟨(some 35),.move (.t 8),none⟩,⟨(some 36),.rng (.t 35),none⟩])
 (.block 2 (.loop (.seq (.reg [⟨(some 37),.nxt (.t 36),none⟩,⟨(some 38),.ext 0 (.t 37),none⟩])
 (.seq (.cond (.t 38) (.skip) (.exit 2))
 (.block 3 (.seq (.reg [⟨(some 39),.ent (.t 36),none⟩,⟨(some 40),.ext 0 (.t 39),none⟩,⟨(some 41),.ext 1 (.t 39),none⟩,⟨(some 10),.move (.t 40),none⟩,⟨(some 11),.move (.t 41),none⟩])
 (.seq (.reg [⟨(some 42),.move (.t 9),none⟩,⟨(some 43),.bin .eql (.t 42) (.c (.val (.int .i64 0))),none⟩,⟨(some 44),.move (.t 43),none⟩,⟨(some 45),.move (.t 11),(some (44,false))⟩,⟨(some 46),.move (.t 8),(some (44,false))⟩,⟨(some 47),.move (.t 9),(some (44,false))⟩,⟨(some 48),.mget none ((.val (.int .i64 0))) false (.t 46) (.t 47),(some (44,false))⟩,⟨(some 49),.bin .lss (.t 45) (.t 48),(some (44,false))⟩,⟨(some 50),.pick (.t 44) (.c (.val (.bool true))) (.t 49),none⟩,⟨(some 51),.move (.t 50),none⟩,⟨(some 52),.move (.t 11),(some (51,false))⟩,⟨(some 53),.move (.t 8),(some (51,false))⟩,⟨(some 54),.move (.t 9),(some (51,false))⟩,⟨(some 55),.mget none ((.val (.int .i64 0))) false (.t 53) (.t 54),(some (51,false))⟩,⟨(some 56),.bin .eql (.t 52) (.t 55),(some (51,false))⟩,⟨(some 57),.move (.t 56),(some (51,false))⟩,⟨(some 58),.move (.t 10),(some (57,true))⟩,⟨(some 59),.move (.t 9),(some (57,true))⟩,⟨(some 60),.bin .lss (.t 58) (.t 59),(some (57,true))⟩,⟨(some 61),.pick (.t 57) (.t 60) (.c (.val (.bool false))),(some (51,false))⟩,⟨(some 62),.pick (.t 51) (.c (.val (.bool true))) (.t 61),none⟩])
 (.cond (.t 62) (.reg [⟨(some 63),.move (.t 10),none⟩,⟨(some 9),.move (.t 63),none⟩]) (.skip)))))))))
abbrev iY(L:Lks):AV:=.mp none (L.map λp=>MK.n p.1) (L.map λp=>(λl=>AV.sl 2 (l.map Stp.v) false) p.2)
abbrev qu(l:Dis):Blk:=.map none (l.map λp=>MK.n p.1) (l.map λp=>AV.int p.2)
def zf(L:Lks)(o l:Dis)(b:Int):NF:=
  ⟨[(0,.k,iY L),(5,.k,.mref 0),(8,.k,.mref 1),(9,.k,.int b)],
   [.map none (o.map λp=>MK.n p.1) (o.map λp=>AV.int p.2) (ae (λ_=>rfl) _),.map none (l.map λp=>MK.n p.1) (l.map λp=>AV.int p.2) (ae (λ_=>rfl) _)]⟩
def PT(L:Lks)(o l:Dis)(st:List Nat)(ck:Nat)(seen:List Nat)(b:Int):S3:=
 ⟨cD [(0,iY L),(5,.mref 0),(8,.mref 1),(9,.int b),(36,.ref 2 0)],hpL 0 [some (qu o),some (.mst none (l.map λp=>MK.n p.1) (l.map λp=>AV.int p.2) st ck),some (.itr 1 st ck seen)],3⟩
def Mn(l:Dis)(st seen:List Nat)(b:Int):Prop:=(seen=[]∧b=0)∨∃(i:Nat) (x:Int×Int) (s:Nat),l[i]?=some x∧st[i]?=some s∧s∈seen∧b=x.1∧∀(j:Nat) (y:Int×Int) (s:Nat),l[j]?=some y→st[j]?=some s→s∈seen→¬bfr y x
def Du(l:Dis):Prop:=∀x∈l,x.1≠0∧-9223372036854775808≤x.1∧x.1≤9223372036854775807
theorem dst_h(L:Lks)(o l:Dis)(hl:Du l)(k:Nat):dL Tryz.prog 0 k F5 (zf L o l 0).st (zf L o l (bst l)).st:=by
 unfold dL F5;show AWP _ 0 k _ _ ⟨cD [(0,iY L),(5,.mref 0),(8,.mref 1),(9,.int 0)],hpL 0 [some (qu o),some (qu l)],2⟩;refine AWP.open 1 rfl λst ck hs1 hs2 hn hv=>?_;refine AWP.seq' ?_;refine AWP.reg' λK hK=>?_
 try simp only[ag,seval]
 refine qh rfl rfl ?_
 try simp only[ag,seval]
 refine hK _ _ _ ?_;clear hK K;refine AWP.block ?_;have hvl:aD (l.map λp=>AV.int p.2):=au (ae (v:=λp:Int×Int=>AV.int p.2) (λ_=>rfl) l);have hvo:aD (o.map λp=>AV.int p.2):=au (ae (v:=λp:Int×Int=>AV.int p.2) (λ_=>rfl) o);have rm:∀(π:Nat→Nat) (o:Dis),some (qu o)=some (Blk.ren π (qu o)):=λπ o=>by
  rw[Blk.ren,aK _ (au (ae (v:=λp:Int×Int=>AV.int p.2) (λ_=>rfl) o))]
 have rs:∀(π:Nat→Nat),some (Blk.mst none (l.map λp=>MK.n p.1) (l.map λp=>AV.int p.2) st ck)=some (Blk.ren π (.mst none (l.map λp=>MK.n p.1) (l.map λp=>AV.int p.2) st ck)):=λπ=>by
  rw[Blk.ren,aK _ hvl]
 have bm:∀o:Dis,Blk.bel 3 (qu o):=λo=>aG (au (ae (v:=λp:Int×Int=>AV.int p.2) (λ_=>rfl) o));have bs:Blk.bel 3 (.mst none (l.map λp=>MK.n p.1) (l.map λp=>AV.int p.2) st ck):=aG hvl;rw[u']at hs2
 refine AWP.loopS (λt:List Nat×Int=>PT L o l st ck t.1 t.2) (λt=>Mn l st t.1 t.2∧t.1.Nodup∧∀s∈t.1,s∈st) (λt=>st.length-t.1.length) (i0:=([],0)) ⟨.inl ⟨rfl,rfl⟩,by simp,by simp⟩ ?_ ?_
 ·unfold PT
  refine ao.nf [0,1,18] _ _ ?_ ?_ ⟨rfl,rfl⟩ (by decide) (by decide) (by decide)
  ·repeat' (first|exact trivial|exact B' rfl trivial|refine B' ?_ ?_|rfl|exact O' rfl|exact rm _ _|exact rs _|exact bm _|exact bs)
  ·repeat' (first|exact trivial|exact B' rfl trivial|refine B' ?_ ?_|rfl|exact O' rfl|exact rm _ _|exact rs _|exact bm _|exact bs)
 ·rintro⟨seen,b⟩ ⟨hJ,hnd,hsub⟩;unfold PT;refine AWP.seq' ?_;refine AWP.reg' λK hK=>?_
  try simp only[ag,seval]
  have hk:∀q∈(l.map λp=>MK.n p.1),kOk q:=λq hq=>by
   obtain⟨x,hx,rfl⟩:=aa'.mp hq;have:=hl x hx;show inK .i64 x.1;rw[EH];exact this.2
  refine qi rfl rfl rfl hk (λhs=>?_) (λi q v s0 e1 e2 e3 e4=>?_)
  ·try simp only[ag,seval]
   refine hK _ _ _ ?_;clear hK K;have hb:b=bst l:=by
    rcases hJ with⟨h1,h2⟩|⟨i,x,s,g1,g2,g3,g4,g5⟩
    ·have h1:seen=[]:=h1;subst h1;have:st=[]:=cd'.mpr λs hs'=>by simpa using hs s hs'
     have:l=[]:=aK' (by rw[←hs2,this];rfl);subst this;exact h2
    ·have g4:b=x.1:=g4;rw[g4];refine(QF (be g1) λy hy=>?_).symm;obtain⟨j,hj⟩:=ac'.mp hy;have hlt:=am hj;exact g5 j y (st[j]'(by omega)) hj (f' (by omega)) (hs _ (aR' _))
   refine AWP.seq' (AWP.cond (b:=false) rfl (λh=>by cases h) (λ_=>AWP.exit ?_));show ao 0 k _ ⟨cD [(0,iY L),(5,.mref 0),(8,.mref 1),(9,.int (bst l))],hpL 0 [some (qu o),some (qu l)],2⟩;rw[←hb];refine ao.trans (ao.close 1 rfl) ?_;have bm:∀o:Dis,Blk.bel 2 (qu o):=λo=>aG (au (ae (v:=λp:Int×Int=>AV.int p.2) (λ_=>rfl) o))
   refine ao.nf [0,1] _ _ ?_ ?_ ⟨rfl,rfl⟩ (by decide) (by decide) (by decide)
   ·repeat' (first|exact trivial|exact B' rfl trivial|refine B' ?_ ?_|rfl|exact O' rfl|exact rm _ _|exact bm _)
   ·repeat' (first|exact trivial|exact B' rfl trivial|refine B' ?_ ?_|rfl|exact O' rfl|exact rm _ _|exact bm _)
  ·try simp only[ag,seval]
   refine hK _ _ _ ?_;clear hK K;refine AWP.seq' (AWP.cond (b:=true) rfl (λ_=>?_) (λh=>by cases h));refine AWP.skip ?_;refine AWP.block (AWP.seq' ?_);rw[I',av']at e1 e2;obtain⟨x,e1,rfl⟩:=e1;obtain⟨x',e2,rfl⟩:=e2;rw[e1]at e2;cases e2;have e5:(l.map λp=>MK.n p.1)[i]?=some (MK.n x.1):=by rw[I',e1];rfl
   have e6:(l.map λp=>AV.int p.2)[i]?=some (AV.int x.2):=by rw[I',e1];rfl
   refine AWP.reg' λK hK=>?_
   try simp only[ag,seval]
   refine qj rfl rfl rfl e3 e5 e6 (hk _ (J' e5)) ?_
   try simp only[ag,seval,kAV]
   refine hK _ _ _ ?_;clear hK K;refine AWP.seq' ?_;have hN:(seen++[s0]).Nodup:=bg'.mpr ⟨hnd,by simp,λa ha b hb=>by rw[L'.mp hb];rintro rfl;exact e4 ha⟩;have hS:∀s∈seen++[s0],s∈st:=λs hs=>by
    rcases ab'.mp hs with hs|hs
    ·exact hsub s hs
    ·rw[L'.mp hs];exact J' e3
   have hL:st.length-(seen++[s0]).length<st.length-seen.length:=by
    have:=List.Nodup.length_le_of_subset hN hS;rw[List.length_append,List.length_singleton]at this ⊢;omega
   have hu:∀{j y},l[j]?=some y→st[j]?=some s0→y=x:=λ{j y} h1 h2=>by
    have:=ef hs1 h2 e3;subst this;rw[h1]at e1;exact Z' e1
   have hnew:(∀(j:Nat) (y:Int×Int) (s:Nat),l[j]?=some y→st[j]?=some s→s∈seen→¬bfr y x)→Mn l st (seen++[s0]) x.1:=λh =>
    .inr ⟨i,x,s0,e1,e3,by simp,rfl,λj y s h1 h2 h3=>by
     rcases ab'.mp h3 with h3|h3
     ·exact h j y s h1 h2 h3
     ·rw[L'.mp h3]at h2;rw[hu h1 h2];simp[bfr]⟩
   rcases hJ with⟨h1,h2⟩|⟨i',y,s,g1,g2,g3,g4,g5⟩
   ·have h1:seen=[]:=h1;have h2:b=0:=h2;subst h1;subst h2;have hJ':=hnew (λj y s _ _ h3=>by simp at h3);refine AWP.reg' λK hK=>?_
    try simp only[ag,seval]
    refine hK _ _ _ ?_;clear hK K;refine AWP.cond (b:=true) rfl (λ_=>?_) (λh=>by cases h);refine AWP.reg' λK hK=>?_
    try simp only[ag,seval]
    refine hK _ _ _ ?_;clear hK K;refine⟨(_,_),⟨hJ',hN,hS⟩,hL,?_⟩
    refine ao.nf [0,1,2] _ _ ?_ ?_ ⟨rfl,rfl⟩ (by decide) (by decide) (by decide)
    ·repeat' (first|exact trivial|exact B' rfl trivial|refine B' ?_ ?_|rfl|exact O' rfl|exact rm _ _|exact rs _|exact bm _|exact bs)
    ·repeat' (first|exact trivial|exact B' rfl trivial|refine B' ?_ ?_|rfl|exact O' rfl|exact rm _ _|exact rs _|exact bm _|exact bs)
   ·have g4:b=y.1:=g4;subst g4;have hy0:¬y.1=0:=(hl y (be g1)).1;have hmg:cR (l.map λp=>MK.n p.1) (l.map λp=>AV.int p.2) (MK.n y.1) (AV.int 0) false=AV.int y.2:=by
     have hh:aT l y.1=true:=bW.mpr ⟨y.2,be g1⟩;have hnk:(ap l).Nodup:=by
      have:=ny (l:=l) (kf:=MK.n);rw[this]at hn;exact List.Pairwise.of_map MK.n (λa b h e=>h (congrArg _ e)) hn
     rw[lv (vf:=AV.int) (z:=0) (λ_ _ h=>MK.n.inj h) hh,dC hnk (be g1)];rfl
    have hy1:(y.1==0)=false:=by simpa using hy0
    have hbt:bfr x y→Mn l st (seen++[s0]) x.1:=λh=>hnew λj z s' h1 h2 h3=>by
     have:=g5 j z s' h1 h2 h3;unfold bfr at *;omega
    have hbf:¬bfr x y→Mn l st (seen++[s0]) y.1:=λh=>.inr ⟨i',y,s,g1,g2,List.mem_append_left _ g3,rfl,λj z s' h1 h2 h3=>by
     rcases ab'.mp h3 with h3|h3
     ·exact g5 j z s' h1 h2 h3
     ·rw[L'.mp h3]at h2;rw[hu h1 h2];exact h⟩
    by_cases c1:x.2<y.2
    ·refine AWP.reg' λK hK=>?_
     try simp only[ag,seval,hy0,hy1,hmg,bj,dI,AV.key,MK.fits,and_self,true_and,c1]
     refine hK _ _ _ ?_;clear hK K;refine AWP.cond (b:=true) rfl (λ_=>?_) (λh=>by cases h);refine AWP.reg' λK hK=>?_
     try simp only[ag,seval]
     refine hK _ _ _ ?_;clear hK K;refine⟨(_,_),⟨hbt (.inl c1),hN,hS⟩,hL,?_⟩
     refine ao.nf [0,1,2] _ _ ?_ ?_ ⟨rfl,rfl⟩ (by decide) (by decide) (by decide)
     ·repeat' (first|exact trivial|exact B' rfl trivial|refine B' ?_ ?_|rfl|exact O' rfl|exact rm _ _|exact rs _|exact bm _|exact bs)
     ·repeat' (first|exact trivial|exact B' rfl trivial|refine B' ?_ ?_|rfl|exact O' rfl|exact rm _ _|exact rs _|exact bm _|exact bs)
    ·by_cases c2:x.2=y.2
     ·have c2':(x.2==y.2)=true:=by simpa using c2
      by_cases c3:x.1<y.1
      ·refine AWP.reg' λK hK=>?_
       try simp only[ag,seval,hy0,hy1,hmg,bj,dI,AV.key,MK.fits,and_self,true_and,c1,c2',c3]
       refine hK _ _ _ ?_;clear hK K;refine AWP.cond (b:=true) rfl (λ_=>?_) (λh=>by cases h);refine AWP.reg' λK hK=>?_
       try simp only[ag,seval]
       refine hK _ _ _ ?_;clear hK K;refine⟨(_,_),⟨hbt (.inr ⟨c2,c3⟩),hN,hS⟩,hL,?_⟩
       refine ao.nf [0,1,2] _ _ ?_ ?_ ⟨rfl,rfl⟩ (by decide) (by decide) (by decide)
       ·repeat' (first|exact trivial|exact B' rfl trivial|refine B' ?_ ?_|rfl|exact O' rfl|exact rm _ _|exact rs _|exact bm _|exact bs)
       ·repeat' (first|exact trivial|exact B' rfl trivial|refine B' ?_ ?_|rfl|exact O' rfl|exact rm _ _|exact rs _|exact bm _|exact bs)
      ·refine AWP.reg' λK hK=>?_
       try simp only[ag,seval,hy0,hy1,hmg,bj,dI,AV.key,MK.fits,and_self,true_and,c1,c2',c3]
       refine hK _ _ _ ?_;clear hK K;refine AWP.cond (b:=false) rfl (λh=>by cases h) (λ_=>?_);refine AWP.skip ?_;refine⟨(_,_),⟨hbf (by unfold bfr;omega),hN,hS⟩,hL,?_⟩
       refine ao.nf [0,1,2] _ _ ?_ ?_ ⟨rfl,rfl⟩ (by decide) (by decide) (by decide)
       ·repeat' (first|exact trivial|exact B' rfl trivial|refine B' ?_ ?_|rfl|exact O' rfl|exact rm _ _|exact rs _|exact bm _|exact bs)
       ·repeat' (first|exact trivial|exact B' rfl trivial|refine B' ?_ ?_|rfl|exact O' rfl|exact rm _ _|exact rs _|exact bm _|exact bs)
     ·have c2':(x.2==y.2)=false:=by simpa using c2
      refine AWP.reg' λK hK=>?_
      try simp only[ag,seval,hy0,hy1,hmg,bj,dI,AV.key,MK.fits,and_self,true_and,c1,c2']
      refine hK _ _ _ ?_;clear hK K;refine AWP.cond (b:=false) rfl (λh=>by cases h) (λ_=>?_);refine AWP.skip ?_;refine⟨(_,_),⟨hbf (by unfold bfr;omega),hN,hS⟩,hL,?_⟩
      refine ao.nf [0,1,2] _ _ ?_ ?_ ⟨rfl,rfl⟩ (by decide) (by decide) (by decide)
      ·repeat' (first|exact trivial|exact B' rfl trivial|refine B' ?_ ?_|rfl|exact O' rfl|exact rm _ _|exact rs _|exact bm _|exact bs)
      ·repeat' (first|exact trivial|exact B' rfl trivial|refine B' ?_ ?_|rfl|exact O' rfl|exact rm _ _|exact rs _|exact bm _|exact bs)
theorem dE.refN{foot:List Nat}{hp:Hp}{b off:Nat}{x y:AV}(hb:b∈foot)(h:hp b=some (.box x))(hv:dE foot hp x y)(hs:y.solid=true):dE foot hp (.ref b off) (.rptr y off):=by
 intro P c A μ fr tm' hp' n a w cv H hh hv';obtain⟨hd,e1,e2,rfl⟩:=hv';obtain⟨hd',v,ty,f1,f2,f3,f4,f5,f6⟩:=H.box ((hh b hb).trans h);rw[e1]at f1;cases f1;obtain⟨hd',g1,_,g3⟩:=H.blk b _ ((hh b hb).trans h);rw[e1]at g1;cases g1;have q:=hv P c A μ fr tm' hp' n a w v H hh f4;refine⟨hd.blk,0,v,by simp,.inr ⟨b,_,hd,(hh b hb).trans h,e1,e2,rfl⟩,q,(RV.cells hs q).2,λp u hu=>f6 p u hu⟩
def BB:AC:=.reg [⟨(some 52),.faddr 1 (.t 1),none⟩,⟨(some 53),.load false 1 (.t 52),none⟩,⟨(some 54),.mkf 155 [(.t 4)],none⟩,⟨(some 55),.call (.c (.func 153 [])) [(.t 53),(.t 54)],none⟩,⟨(some 51),.move (.t 55),none⟩]
def Ng(t:Tpl):NF:=⟨[(1,.k,.ref 0 0),(4,.k,.ref 1 0)],[.box (Tpl.v t),.box (.func 150 [.ref 0 0])]⟩
def Nd(t:Tpl)(b:Bool):NF:=⟨[(1,.k,.ref 0 0),(51,.k,.bool b)],[.box (Tpl.v t)]⟩
theorem unk_h(t:Tpl)(hl:t.rs.length≤1000000)(k:Nat):dL Tryz.prog 0 k BB (Ng t).st (Nd t (t.ls.any λy=>iA y t)).st:=by
 unfold dL BB;show AWP _ 0 k _ _ ⟨cD [(1,.ref 0 0),(4,.ref 1 0)],hpL 0 [some (.box (Tpl.v t)),some (.box (.func 150 [.ref 0 0]))],2⟩;refine AWP.reg' λK hK=>?_
 try simp only[ag,seval,Tpl.v]
 refine sW [0,1] (xm t.ls t hl).ok (xm t.ls t hl).fn rfl rfl ⟨dE.pure trivial,dE.func ⟨?_,trivial⟩,trivial⟩ trivial ?_
 ·refine dE.refN (by simp) rfl (dE.func ⟨dE.ref (by simp) rfl ⟨trivial,trivial,trivial⟩,trivial⟩) rfl
 try simp only[ag,seval]
 refine hK _ _ _ ?_;clear hK K;refine(show ao 0 k _ ⟨cD [(1,.ref 0 0),(51,.bool (t.ls.any λy=>iA y t))],hpL 0 [some (.box (Tpl.v t))],1⟩from ?_)
 refine ao.nf [0] _ _ ?_ ?_ ⟨rfl,rfl⟩ (by decide) (by decide) (by decide)
 ·repeat' (first|exact trivial|exact B' rfl trivial|refine B' ?_ ?_|rfl|exact O' rfl)
 ·repeat' (first|exact trivial|exact B' rfl trivial|refine B' ?_ ?_|rfl|exact O' rfl)
def dZ{α:Type}(l:List α)(R:α→α→Prop)(t:Int):Prop:=∃k:Nat,t=k∧k≤l.length∧∀(j:Nat) x y,j+1<k→l[j]?=some x→l[j+1]?=some y→R x y
section
variable {α : Type} {l : List α} {R : α → α → Prop} {t : Int} {x y : α}
theorem dZ.zero:dZ l R 0:=⟨0,rfl,by omega,λj x y h=>by omega⟩
theorem dZ.idx(h:dZ l R t):0≤t:=by obtain⟨k,rfl,_,_⟩:=h;omega
theorem dZ.step0(h:dZ l R t)(hl:l.length≤1000000)(c:t<l.length)(h0:¬0<t):dZ l R (W (t+1))∧l.length-(W (t+1)).toNat<l.length-t.toNat:=by
 obtain⟨k,rfl,hk,ha⟩:=h;obtain rfl:k=0:=by omega
 rw[aQ (n:=l.length) (by omega) (by omega)];exact⟨⟨1,rfl,by omega,λj x y hj=>by omega⟩,by omega⟩
theorem dZ.step(h:dZ l R t)(hl:l.length≤1000000)(h0:0<t)(hx:l[(W (t-1)).toNat]?=some x)(hy:l[t.toNat]?=some y)(p:R x y):dZ l R (W (t+1))∧l.length-(W (t+1)).toNat<l.length-t.toNat:=by
 obtain⟨k,rfl,hk,ha⟩:=h;rw[Int.toNat_natCast]at hy;have hlt:=am hy;rw[ka (by omega) (by omega),Int.toNat_natCast]at hx;rw[aQ (n:=l.length) hlt (by omega)];refine⟨⟨k+1,rfl,by omega,λj x' y' hj hx' hy'=>?_⟩,by omega⟩
 by_cases e:j+1=k
 ·subst e;rw[show j+1-1=j by omega,hx']at hx;cases hx;rw[hy']at hy;cases hy;exact p
 ·exact ha j x' y' (by omega) hx' hy'
theorem dZ.bad(h:dZ l R t)(hl:l.length≤1000000)(h0:0<t)(hx:l[(W (t-1)).toNat]?=some x)(hy:l[t.toNat]?=some y)(p:¬R x y):¬l.Pairwise R:=by
 obtain⟨k,rfl,hk,ha⟩:=h;rw[Int.toNat_natCast]at hy;have hlt:=am hy;rw[ka (by omega) (by omega),Int.toNat_natCast]at hx;intro hp;rw[at']at hp;have:=hp (k-1) k (by omega) hlt (by omega);rw[f' (by omega)]at hx hy;rw[Z' hx,Z' hy]at this;exact p this
theorem dZ.rng(h:dZ l R t)(hl:l.length≤1000000)(h0:0<t)(c:t<l.length):0≤W (t-1)∧W (t-1)<l.length:=by
 obtain⟨k,rfl,hk,ha⟩:=h;rw[ka (by omega) (by omega)];omega
theorem dZ.next(h:dZ l R t)(hl:l.length≤1000000)(c:t<l.length){b:Bool}(hb:b=true↔0<t∧∃x y,l[(W (t-1)).toNat]?=some x∧l[t.toNat]?=some y∧¬R x y) :
  (b=true→¬l.Pairwise R)∧(b=false→dZ l R (W (t+1))∧l.length-(W (t+1)).toNat<l.length-t.toNat):=by
 refine⟨λe=>?_,λe=>?_⟩
 ·obtain⟨h0,x,y,hx,hy,p⟩:=hb.mp e;exact h.bad hl h0 hx hy p
 ·by_cases h0:0<t
  ·obtain⟨g1,g2⟩:=h.rng hl h0 c;have hx:=f' (show(W (t-1)).toNat<l.length by omega);have hy:=f' (show t.toNat<l.length by omega);refine h.step hl h0 hx hy (U' λp=>?_);have:=hb.mpr ⟨h0,_,_,hx,hy,p⟩;rw[e]at this;cases this
  ·exact h.step0 hl c h0
theorem dZ.done(h:dZ l R t)(c:¬t<l.length)(tr:∀x y z,R x y→R y z→R x z):l.Pairwise R:=by
 obtain⟨k,rfl,hk,ha⟩:=h;rw[at'];have key:∀d i,(hi:i+d+1<l.length)→R (l[i]'(by omega)) l[i+d+1]:=by
  intro d
  induction d with
  | zero=>intro i hi;exact ha i _ _ (by omega) (f' (by omega)) (f' hi)
  | succ d ih =>
   intro i hi;exact tr _ _ _ (ih i (by omega)) (ha (i+d+1) _ _ (by omega) (f' (by omega)) (f' hi))
 intro i j hi hj hij;have:=key (j-i-1) i (by omega);simp only[show i+(j-i-1)+1=j by omega]at this;exact this
end
theorem tG{l:List Rtr}(h:l.Pairwise (λx y=>x.id<y.id)){i j:Nat}(hij:i<j){x y:Rtr}(hx:l[i]?=some x)(hy:l[j]?=some y):x.id<y.id:=by
 have hi:=am hx;have hj:=am hy;rw[f' hi]at hx;rw[f' hj]at hy;have:=at'.mp h i j hi hj hij;rw[Z' hx,Z' hy]at this;exact this
theorem rz(l:List Rtr):l.any kA=true↔¬∀x∈l,1≤x.id∧x.id≤99:=by
 rw[aj']
 constructor
 ·rintro⟨x,hx,e⟩ h;have:=h x hx;simp[kA,inT,this]at e
 ·intro h;refine U' λq=>h λx hx=>?_;have:¬kA x=true:=λe=>q ⟨x,hx,e⟩;simp[kA,inT]at this;omega
theorem tl(l:List Lnk):l.any kU=true↔¬∀x∈l,iD x:=by
 rw[aj'];have key:∀x:Lnk,kU x=true↔¬iD x:=λx=>by
  unfold kU iD inT fv;simp;omega
 constructor
 ·rintro⟨x,hx,e⟩ h;exact(key x).mp e (h x hx)
 ·intro h;exact U' λq=>h λx hx=>U' λr=>q ⟨x,hx,(key x).mpr r⟩
theorem tK(l:List Lnk):l.any lI=true↔¬∀x∈l,x.a<x.b:=by
 rw[aj']
 constructor
 ·rintro⟨x,hx,e⟩ h;have:=h x hx;simp[lI]at e;omega
 ·intro h;exact U' λq=>h λx hx=>U' λr=>q ⟨x,hx,by simp[lI];omega⟩
theorem nI{l:List Rtr}(h:l.Pairwise λx y=>x.id<y.id)(r:Int):(mf l r=l.any (eqR r))∧∀x∈l,eqR r x=true→l[pB l r]?=some x:=by
 refine zL (λa b x y hab hx hy e=>?_) (λx e=>?_) λa b x y hab hx hy e=>?_
 ·have:=tG h hab hx hy;simp[ltR]at e ⊢;omega
 ·simp[eqR]at e;simp[ltR];omega
 ·have:=tG h hab hx hy;simp[eqR]at e;simp[ltR];omega
theorem rc{t:Tpl}(h:t.rs.Pairwise λx y=>x.id<y.id):(t.ls.any λy=>iA y t)=true↔¬∀l∈t.ls,aJ t l.a=true∧aJ t l.b=true:=by
 have key:∀l:Lnk,iA l t=true↔¬(aJ t l.a=true∧aJ t l.b=true):=λl=>by
  unfold iA uf;rw[(nI h l.a).1,(nI h l.b).1];show(!aJ t l.a || !aJ t l.b)=true↔_;cases aJ t l.a<;>cases aJ t l.b<;>simp
 rw[aj']
 constructor
 ·rintro⟨x,hx,e⟩ q;exact(key x).mp e (q x hx)
 ·intro q;exact U' λq2=>q λx hx=>U' λr=>q2 ⟨x,hx,(key x).mpr r⟩
def Gx(t:Tpl):=okL [Tpl.v t]
def LC(t:Tpl)(t0:Bool):NF:=⟨[rR 1 0,rB 6 t0],[.box (Tpl.v t)]⟩
def LB(t:Tpl)(t1:Int):NF:=⟨[rR 1 0,rI 23 ((t.rs.map Rtr.v).length:Int),rI 24 t1],[.box (Tpl.v t)]⟩
def LA(t:Tpl)(t1:Int)(t2:Bool):NF:=⟨[rR 1 0,rI 23 ((t.rs.map Rtr.v).length:Int),rI 24 t1,rB 44 t2],[.box (Tpl.v t)]⟩
def L9(t:Tpl)(t3:Int):NF:=⟨[rR 1 0,rI 62 ((t.ls.map Lnk.v).length:Int),rI 63 t3],[.box (Tpl.v t)]⟩
def L8(t:Tpl)(t3:Int)(t4:Bool):NF:=⟨[rR 1 0,rI 62 ((t.ls.map Lnk.v).length:Int),rI 63 t3,rB 82 t4],[.box (Tpl.v t)]⟩
@[reducible] def Gu:Nat→Type
 | 0=>Bool
 | 1=>Int
 | 2=>Bool
 | 3=>Int
 | 4=>Bool
 | _=>Unit
def Gv(r:Int):AV:=.int r
def Gt(t:Tpl)(I0:Bool→Prop)(I1:Bool→Int→Prop)(m1:Bool→Int→Nat)(I2:Bool→Int→Bool→Prop)(I3:Bool→Int→Int→Prop)(m3:Bool→Int→Int→Nat)(I4:Bool→Int→Int→Bool→Prop):Ax Tryz.prog Gu (Int):=
 (.pass (.pass (.join 0 (LC t) (λ(t0:Bool)=>I0 t0) (λb0=>(.br 112 (decide (24<((t.rs.map Rtr.v).length:Int))) (.bk 0 b0 ((true):Bool) [0])
(.bk 0 b0 ((decide (60<((t.ls.map Lnk.v).length:Int))):Bool) [0]))) λ(t0:Bool) =>
(.br 1 t0 (.ret (3))
(.callP (Ji t.rs)
(.br 65 ((t.rs).any kA) (.ret (2))
(.loop 1 (LB t) (I1 t0) (m1 t0) ((0):Int) [0] λ(t1:Int) b1 =>
(.br 17 (decide (t1<((t.rs.map Rtr.v).length:Int))) (.pass (.pass (.join 2 (LA t t1) (λ(t2:Bool)=>I2 t0 t1 t2) (λb2=>(.br 97 (decide (0<t1)) (.elI 161 Rtr.v t.rs (W (t1-1)) λx1 =>
(.elI 257 Rtr.v t.rs t1 λx2 =>
(.bk 2 b2 ((decide (x2.id≤x1.id)):Bool) [0])))
(.bk 2 b2 ((false):Bool) [0]))) λ(t2:Bool) =>
(.br 1 t2 (.ret (25))
(.bk 1 b1 ((W (t1+1)):Int) [0])))))
(.callP (Lq t.ls)
(.br 129 ((t.ls).any kU) (.ret (2))
(.handQ 0 (Ng t) [0,33] ((Nd t ((t).ls.any λy=>iA y t)).st) BB ((t).rs.length≤1000000) (unk_h t)
(.br 1 (t.ls.any λy=>iA y t) (.ret (4))
(.callP (MY t.ls)
(.br 65 ((t.ls).any lI) (.ret (8))
(.loop 3 (L9 t) (I3 t0 t1) (m3 t0 t1) ((0):Int) [0] λ(t3:Int) b3 =>
(.br 17 (decide (t3<((t.ls.map Lnk.v).length:Int))) (.pass (.pass (.join 4 (L8 t t3) (λ(t4:Bool)=>I4 t0 t1 t3 t4) (λb4=>(.br 97 (decide (0<t3)) (.elI 161 Lnk.v t.ls (W (t3-1)) λx3 =>
(.elI 241 Lnk.v t.ls t3 λx4 =>
(.callP (w6 x3 x4)
(.bk 4 b4 ((decide (0≤(qA x3 x4))):Bool) [0]))))
(.bk 4 b4 ((false):Bool) [0]))) λ(t4:Bool) =>
(.br 1 t4 (.ret (25))
(.bk 3 b3 ((W (t3+1)):Int) [0])))))
(.ret (0))))))))))))))))))
theorem Q4(t:Tpl)(ok:Gx t):∃I0 I1 m1 I2 I3 m3 I4,(Gt t I0 I1 m1 I2 I3 m3 I4).vp Gv (aC t):=by
 refine⟨λb=>b=decide (24<t.rs.length∨60<t.ls.length),λ_ i=>dZ t.rs (λx y=>x.id<y.id) i,λ_ i=>t.rs.length-i.toNat,
  λ_ i b=>b=true↔0<i∧∃x y,t.rs[(W (i-1)).toNat]?=some x∧t.rs[i.toNat]?=some y∧¬x.id<y.id,λ_ _ i=>dZ t.ls bC i,λ_ _ i=>t.ls.length-i.toNat,
  λ_ _ i b=>b=true↔0<i∧∃x y,t.ls[(W (i-1)).toNat]?=some x∧t.ls[i.toNat]?=some y∧¬bC x y,?_⟩
 simp only[Gx,Tpl.v,okU,Blk.ok,az,u']at ok;dsimp only[Gt,Gu,Ax.vp,Ax.vc];simp only[vcU,rfU,u'];refine⟨⟨λc=>(decide_eq_true (.inl (by omega))).symm,λc=>decide_eq_decide.mpr (by omega)⟩,?_⟩;rintro _ rfl;unfold aC;refine⟨λc=>by rw[F' (G' c)],λc=>?_⟩;have c:=S' c;rw[E' c];refine⟨λd=>by rw[F' ((rz _).mp d)],λd=>?_⟩;have d:∀x∈t.rs,1≤x.id∧x.id≤99:=U' λq=>by rw[(rz _).mpr q]at d;cases d
 rw[E' (not_not_intro d)]
 refine⟨dZ.zero,λi h=>⟨λc1=>⟨⟨λh0=>?_,λh0=>?_⟩,λb hb=>?_⟩,λc1=>?_⟩⟩
 ·obtain⟨g1,g2⟩:=h.rng (by omega) h0 c1;refine⟨g1,g2,λx hx=>⟨h.idx,c1,λy hy=>⟨λe=>⟨h0,x,y,hx,hy,by omega⟩,?_⟩⟩⟩;rintro⟨_,x',y',hx',hy',p⟩;rw[hx]at hx';cases hx';rw[hy]at hy';cases hy';omega
 ·exact⟨nofun,λe=>absurd e.1 h0⟩
 ·obtain⟨n1,n2⟩:=h.next (by omega) c1 hb;exact⟨λe=>by rw[F' (n1 e)],n2⟩
 have hP:=h.done c1 λ_ _ _ q r=>bJ' q r;rw[E' (not_not_intro hP)];refine⟨λe=>by rw[F' ((tl _).mp e)],λe=>?_⟩;have e:∀x∈t.ls,iD x:=U' λq=>by rw[(tl _).mpr q]at e;cases e
 rw[E' (not_not_intro e)];refine⟨by omega,λf=>by rw[F' ((rc hP).mp f)],λf=>?_⟩;have f:∀l∈t.ls,aJ t l.a=true∧aJ t l.b=true:=U' λq=>by rw[(rc hP).mpr q]at f;cases f
 rw[E' (not_not_intro f)];refine⟨λg=>by rw[F' ((tK _).mp g)],λg=>?_⟩;have g:∀x∈t.ls,x.a<x.b:=U' λq=>by rw[(tK _).mpr q]at g;cases g
 rw[E' (not_not_intro g)]
 refine⟨dZ.zero,λi h=>⟨λc1=>⟨⟨λh0=>?_,λh0=>?_⟩,λb hb=>?_⟩,λc1=>?_⟩⟩
 ·obtain⟨g1,g2⟩:=h.rng (by omega) h0 c1;refine⟨g1,g2,λx hx=>⟨h.idx,c1,λy hy=>⟨λe=>⟨h0,x,y,hx,hy,λq=>by have:=(mD x y).mpr q;omega⟩,?_⟩⟩⟩;rintro⟨_,x',y',hx',hy',p⟩;rw[hx]at hx';cases hx';rw[hy]at hy';cases hy';exact U' λq=>p ((mD x y).mp (by omega))
 ·exact⟨nofun,λe=>absurd e.1 h0⟩
 ·obtain⟨n1,n2⟩:=h.next (by omega) c1 hb;exact⟨λe=>by rw[F' (n1 e)],n2⟩
 ·rw[E' (not_not_intro (h.done c1 λ_ _ _ q r=>by unfold bC at *;omega))]
def Gw(t:Tpl):PC Tryz.prog:=pcO 115 [(.a [(.s 2),(.s 5)])] [Tpl.v t] .k Gv (aC t) (λok=>let ⟨I0,I1,m1,I2,I3,m3,I4,h⟩:=Q4 t ok;⟨_,h,by kernel_rfl⟩) rfl (by kernel_rfl)
def iM(t:Tpl):Bool:=aC t==0
def BA(r:Bool):AV:=.bool r
def ub(t:Tpl):Ax Tryz.prog noS (Bool):=
 (.callP (Gw t)
(.ret ((aC t)==0)))
theorem NK(t:Tpl):(ub t).vp BA (iM t):=by
 dsimp only[ub,noS,Ax.vp,Ax.vc];simp only[vcU,rfU,u'];rfl
def uc(t:Tpl):PC Tryz.prog:=pcO 108 [(.a [(.s 2),(.s 5)])] [Tpl.v t] .k BA (iM t) (λ_=>⟨(ub t),NK t,by kernel_rfl⟩) rfl (by kernel_rfl)
def Fr(i:Nat):Nat:=1000+i
theorem ph{i b:Nat}(hb:b<1000):(Fr i=b)=False:=by unfold Fr;simp;omega
theorem bL{i b:Nat}(hb:b<1000):(b=Fr i)=False:=by unfold Fr;simp;omega
theorem iz{i b:Nat}(hi:i<1000)(hb:2000≤b):(Fr i=b)=False:=by unfold Fr;simp;omega
theorem qV{i j:Nat}:(Fr i=Fr j)=(i=j):=by unfold Fr;simp
def ft(bs fs:Nat→Nat)(b:Nat):Nat:=if 1000≤b∧b<2000 then fs (b-1000)else bs b
theorem jR{bs fs:Nat→Nat}{i:Nat}(h:i<1000):ft bs fs (Fr i)=fs i:=by unfold ft Fr;rw[F' (by omega),show 1000+i-1000=i by omega]
theorem eT{bs fs:Nat→Nat}{b:Nat}(h:b<1000):ft bs fs b=bs b:=E' (by omega)
section
variable {ρ : Type} (kk : Nat) (v : ρ → AV)
def GR(rows:List (List ρ))(h:Hp):Hp:=λb=>if 1000≤b∧b<2000 then(rows[b-1000]?).map (λr=>Blk.vec kk (r.map v))else h b
variable {kk v}
theorem lY{rows:List (List ρ)}{h:Hp}{b:Nat}(hb:b<1000):GR kk v rows h b=h b:=E' (by omega)
theorem it{rows:List (List ρ)}{h:Hp}{i:Nat}{r:List ρ}(hr:rows[i]?=some r)(hl:rows.length≤1000):GR kk v rows h (Fr i)=some (.vec kk (r.map v)):=by
 have:i<rows.length:=(P'.mp hr).1;unfold GR Fr;rw[F' (by omega),show 1000+i-1000=i by omega,hr];rfl
theorem ao.nfR(hpu:∀x,(v x).pureB=true){k n:Nat}{tm:Nat→AV}{hp:Hp}{nx:Nat}(rows:List (List ρ))(ts:List (Nat×AV))(hs:List (Option Blk))(bs fs:Nat→Nat)
    (hT:∀p∈ts,tm p.1=p.2.ren (ft bs fs)∧p.2.bel 2000) (hH:∀i x,hs[i]?=some (some x)→hp (bs i)=some (x.ren (ft bs fs))∧x.bel 2000)
    (hl:hs.length≤1000) (hr:rows.length≤1000) (hR:∀i r,rows[i]?=some r→hp (fs i)=some (.vec kk (r.map v)))
    (h1:∀i j,i<hs.length→j<hs.length→bs i=bs j→i=j) (h2:∀i j,i<rows.length→j<rows.length→fs i=fs j→i=j) (h3:∀i j,i<hs.length→j<rows.length→bs i≠fs j)
    (hk:∀b,b<k→bs b=b) (hkl:k≤1000):ao k n ⟨tm,hp,nx⟩ ⟨cD ts,GR kk v rows (hpL 0 hs),2000⟩:=by
  have pur:∀r:List ρ,aD (r.map v):=λr=>au (ae hpu r);have low:∀{b x},hpL 0 hs b=some x→hs[b]?=some (some x):=λ{b x} e=>by
    rw[vN,F' (am' _),Nat.sub_zero]at e;cases e':hs[b]? with
    | none=>rw[e']at e;cases e
    | some y=>rw[e']at e;exact congrArg some e
  have cls:∀{b x},GR kk v rows (hpL 0 hs) b=some x→(∃i r,b=Fr i∧i<rows.length∧rows[i]?=some r∧x=.vec kk (r.map v))∨(b<hs.length∧hs[b]?=some (some x)):=λ{b x} e=>by
    unfold GR at e
    split at e
    · rename_i hb
      obtain⟨r,hr,rfl⟩:=av'.mp e;exact .inl ⟨b-1000,r,by unfold Fr;omega,(P'.mp hr).1,hr,rfl⟩
    · have:=low e
      exact .inr ⟨(P'.mp this).1,this⟩
  refine ao.ren (ft bs fs) (λt=>?_) (λb x e=>?_) (λb b' e e' he=>?_) (λb hb=>?_) (by show k≤2000;omega)
  · show cD ts t=.unk∨(tm t=(cD ts t).ren _∧(cD ts t).bel 2000)
    clear hH hR h1 h2 h3 cls low hl
    induction ts with
    | nil=>exact .inl rfl
    | cons p l ih =>
      obtain⟨t',x⟩:=p
      by_cases ht:t=t'
      · subst ht
        have:=hT (t,x) (by simp);simp only[cD,↓reduceIte];exact .inr this
      · have:=ih (λp hp=>hT p (by simp[hp]))
        simp only[cD,E' ht];exact this
  · show b<2000∧hp (ft bs fs b)=some (x.ren (ft bs fs))∧x.bel 2000
    rcases cls e with⟨i,r,rfl,hi,hr',rfl⟩|⟨hb,e⟩
    · refine⟨by unfold Fr;omega,?_,aG (pur r)⟩
      rw[jR (by omega),hR i r hr',Blk.ren,aK _ (pur r)]
    · obtain⟨g1,g2⟩:=hH b x e
      exact⟨by omega,by rw[eT (by omega)];exact g1,g2⟩
  · have c1:∀{b},GR kk v rows (hpL 0 hs) b≠none→(∃i,b=Fr i∧i<rows.length)∨b<hs.length:=λ{b} e=>by
      cases q:GR kk v rows (hpL 0 hs) b with
      | none=>exact absurd q e
      | some x => rcases cls q with ⟨i, r, g1, g2, _⟩ | ⟨g, _⟩
                  · exact .inl ⟨i,g1,g2⟩
                  · exact .inr g
    rcases c1 e with⟨i,rfl,hi⟩|hb<;>rcases c1 e' with⟨j,rfl,hj⟩|hb'
    · rw[jR (by omega),jR (by omega)]at he
      rw[h2 i j hi hj he]
    · rw[jR (by omega),eT (by omega)]at he
      exact absurd he.symm (h3 b' i hb' hi)
    · rw[eT (by omega),jR (by omega)]at he
      exact absurd he (h3 b j hb hj)
    · rw[eT (by omega),eT (by omega)]at he
      exact h1 b b' hb hb' he
  · rw[eT (by omega)];exact hk b hb
end
theorem ao.nilvecM{k n:Nat}{tm:Nat→AV}{hp:Hp}{nx:Nat}{kq:Option Nat}{ks:List MK}{vs:List AV}(b0 i kk k':Nat)(hb:hp b0=some (.map kq ks vs))(h:vs[i]?=some (.sl kk [] true))(hk:k≤nx) :
  ao k n ⟨tm,hp,nx⟩ ⟨tm,upd (upd hp b0 (some (.map kq ks (vs.set i (.vec nx))))) nx (some (.vec k' [])),nx+1⟩:=by
 rintro P c a w ⟨h0,A,μ,H⟩;obtain⟨hd0,q1,⟨q2,ents,ck,q3,q4,q5,q6⟩,q8⟩:=H.blk b0 _ hb;have hi:i<vs.length:=(P'.mp h).1;have hv0:=(RVL.length q5)
 obtain⟨vi,hvi⟩:∃vi,(ents.toList.map (·.val))[i]?=some vi:=⟨(ents.toList.map (·.val))[i]'(by omega),f' (by omega)⟩
 obtain⟨ad,hv⟩:=RV.nilsl (RVL.get2 q5 h hvi);obtain⟨f1,f2⟩:μ nx=none∧hp nx=none:=H.fr nx (X' _)
 let hd:Hd:=⟨some ad,0,k',0,0⟩
 have hne:b0≠nx:=λe=>by subst e;rw[f2]at hb;cases hb
 have hle:bu μ (upd μ nx (some hd)):=by
  intro b hd' e
  by_cases g:b=nx
  ·subst g;rw[f1]at e;cases e
  ·rw[ai _ _ g];exact e
 have key:=H.add nx f2 (upd μ nx (some hd)) hle (λb hb=>ai _ _ hb) hd (ak _ _ _) (.vec k' []) ⟨rfl,.inl ⟨rfl,rfl⟩⟩ (λe=>by cases e) (λ_ _ _ _ _ _ e=>by cases e);have hswap:upd (upd hp b0 (some (.map kq ks (vs.set i (.vec nx))))) nx (some (.vec k' []))=upd (upd hp nx (some (.vec k' []))) b0 (some (.map kq ks (vs.set i (.vec nx)))):=by
  funext b
  by_cases e1:b=b0
  ·subst e1;rw[ak,ai _ _ hne,ak]
  ·rw[ai _ _ e1]
   by_cases e2:b=nx
   ·subst e2;rw[ak,ak]
   ·rw[ai _ _ e2,ai _ _ e1,ai _ _ e2]
 rw[hswap];have hb1:upd hp nx (some (.vec k' [])) b0=some (.map kq ks vs):=by rw[ai _ _ hne];exact hb
 have fin:=key.say hb1 (y:=.map kq ks (vs.set i (.vec nx))) λhd1 e1 e2=>by
  obtain⟨r2,ents',ck',r3,r4,r5,r6⟩:=e2;rw[hle _ _ q1]at e1;cases e1;rw[q3]at r3;cases r3;refine⟨r2,ents,ck,q3,q4,RVL.setAt r5 hvi ⟨hd,ak _ _ _,hv⟩,λx hx=>?_⟩
  rcases ap' hx with hx|rfl
  ·exact q6 x hx
  ·rfl
 exact⟨h0,A,upd μ nx (some hd),fin.free λb hb=>⟨show nx≤b by have:nx+1≤b:=hb;omega,by have:nx+1≤b:=hb;omega⟩⟩
def relx(cost:Int)(out:Dis)(op:Dis)(s:Stp):Dis:=
 if aT out s.to=true then op else if(aT op s.to=false∨W (cost+s.cost)<av op s.to 0)then ba op s.to (W (cost+s.cost))else op
def Bi(L:Lks):Nat→Dis→Dis→Dis
 | 0,out,_=>out
 | n+1,out,op=>if op=[]then out else
   if(ba out (bst op) (av op (bst op) 0)).length=L.length then ba out (bst op) (av op (bst op) 0)
   else Bi L n (ba out (bst op) (av op (bst op) 0)) ((av L (bst op) []).foldl (relx (av op (bst op) 0) (ba out (bst op) (av op (bst op) 0))) (mdl op (bst op)))
def cF(L:Lks)(f:Int):Dis:=if aT L f=true then Bi L L.length [] (ba [] f 0)else []
def yq(L:Lks):Prop:=L.length≤1000000∧(ap L).Nodup∧(∀x∈ap L,x≠0∧-9223372036854775808≤x∧x≤9223372036854775807)∧∀p∈L,p.2.length≤1000000∧∀s∈p.2,s.to∈ap L
structure kg (L:Lks) (out op:Dis):Prop where
  no:(ap out).Nodup
  np:(ap op).Nodup
  ko:∀x∈ap out,x∈ap L
  kp:∀x∈ap op,x∈ap L
  di:∀x∈ap op,x ∉ ap out
theorem cH{α β:Type}(l:List (α×β)):(ap l).length=l.length:=u' _
theorem kg.len1{L:Lks}{out op:Dis}(h:kg L out op):out.length≤L.length:=by
 have:=List.Nodup.length_le_of_subset h.no h.ko
 rwa [cH,cH]at this
theorem kg.len2{L:Lks}{out op:Dis}(h:kg L out op):op.length≤L.length:=by
 have:=List.Nodup.length_le_of_subset h.np h.kp
 rwa [cH,cH]at this
theorem Hb{op:Dis}(h:op≠[]):∃c,(bst op,c)∈op∧∀x∈op,¬bfr x (bst op,c):=by
 obtain⟨b,h1,h2,h3⟩:=lG h;have:bst op=b.1:=by unfold bst;rw[h1]
 rw[this];exact⟨b.2,h2,h3⟩
theorem Mm{op:Dis}(h:op≠[]):bst op∈ap op:=by
 obtain⟨c,h1,_⟩:=Hb h;exact aP.mpr ⟨c,h1⟩
theorem kg.pop{L:Lks}{out op:Dis}(h:kg L out op){b c:Int}(hb:b∈ap op):kg L (ba out b c) (mdl op b)∧(ba out b c).length=out.length+1:=by
 have hbo:=h.di b hb
 refine⟨⟨dw h.no,A7 h.np,λx hx=>?_,λx hx=>?_,λx hx hx2=>?_⟩,?_⟩
 ·obtain⟨v,hv⟩:=aP.mp hx
  rcases(bM h.no).mp hv with e|⟨e,_⟩
  ·cases e;exact h.kp _ hb
  ·exact h.ko _ (aP.mpr ⟨_,e⟩)
 ·obtain⟨v,hv⟩:=aP.mp hx;exact h.kp _ (aP.mpr ⟨_,((pN h.np).mp hv).1⟩)
 ·obtain⟨v,hv⟩:=aP.mp hx;obtain⟨v2,hv2⟩:=aP.mp hx2;obtain⟨q1,q2⟩:=(pN h.np).mp hv
  rcases(bM h.no).mp hv2 with e|⟨e,_⟩
  ·cases e;exact q2 rfl
  ·exact h.di _ (aP.mpr ⟨_,q1⟩) (aP.mpr ⟨_,e⟩)
 ·rw[DC,E'];unfold aT;simpa using hbo
theorem kg.relx{L:Lks}{out op:Dis}(h:kg L out op){c:Int}{s:Stp}(hs:s.to∈ap L):kg L out (relx c out op s):=by
 unfold Go.Proofs.YtiobpjoadkfhdaaGreat.relx
 split
 ·exact h
 rename_i h1;have h1:s.to ∉ ap out:=by unfold aT at h1;simpa using h1
 split
 ·refine⟨h.no,dw h.np,h.ko,λx hx=>?_,λx hx=>?_⟩
  all_goals
   obtain⟨v,hv⟩:=aP.mp hx;rcases(bM h.np).mp hv with e|⟨e,_⟩
  ·cases e;exact hs
  ·exact h.kp _ (aP.mpr ⟨_,e⟩)
  ·cases e;exact h1
  ·exact h.di _ (aP.mpr ⟨_,e⟩)
 ·exact h
theorem kg.fold{L:Lks}{out:Dis}{c:Int}:∀{l:List Stp} {op:Dis},kg L out op→(∀s∈l,s.to∈ap L)→kg L out (l.foldl (Go.Proofs.YtiobpjoadkfhdaaGreat.relx c out) op)
 | [],op,h,_=>h
 | s::l,op,h,hs=>(h.relx (hs s (by simp))).fold λx hx=>hs x (by simp[hx])
def Lh(links:(List (Int×List Stp)))(t0:(List (Int×Int))×(List (Int×Int))):NF:=⟨[(0,.k,.mp none (links.map λp:Int×List Stp=>MK.n p.1) (links.map λp:Int×List Stp=>(λl:List Stp=>AV.sl 2 (l.map Stp.v) false) p.2)),(5,.k,.mref 0),(8,.k,.mref 1)],[.map none (t0.2.map λp=>MK.n p.1) (t0.2.map λp=>AV.int p.2) (ae (λ_=>rfl) _),.map none (t0.1.map λp=>MK.n p.1) (t0.1.map λp=>AV.int p.2) (ae (λ_=>rfl) _)]⟩
def Lg(links:(List (Int×List Stp)))(t0:(List (Int×Int))×(List (Int×Int)))(t1:Int×(List (Int×Int))):NF:=⟨[(0,.k,.mp none (links.map λp:Int×List Stp=>MK.n p.1) (links.map λp:Int×List Stp=>(λl:List Stp=>AV.sl 2 (l.map Stp.v) false) p.2)),(5,.k,.mref 0),(8,.k,.mref 1),rI 12 (av t0.1 (bst t0.1) 0),(79,.k,.sl 2 ((av links (bst t0.1) []).map Stp.v) false),rI 80 (((av links (bst t0.1) []).map Stp.v).length:Int),rI 81 t1.1],[.map none ((ba t0.2 (bst t0.1) (av t0.1 (bst t0.1) 0)).map λp=>MK.n p.1) ((ba t0.2 (bst t0.1) (av t0.1 (bst t0.1) 0)).map λp=>AV.int p.2) (ae (λ_=>rfl) _),.map none (t1.2.map λp=>MK.n p.1) (t1.2.map λp=>AV.int p.2) (ae (λ_=>rfl) _)]⟩
def Lf(links:(List (Int×List Stp)))(t0:(List (Int×Int))×(List (Int×Int)))(t1:Int×(List (Int×Int)))(x1:Stp)(t2:Bool):NF:=⟨[(0,.k,.mp none (links.map λp:Int×List Stp=>MK.n p.1) (links.map λp:Int×List Stp=>(λl:List Stp=>AV.sl 2 (l.map Stp.v) false) p.2)),(5,.k,.mref 0),(8,.k,.mref 1),rI 12 (av t0.1 (bst t0.1) 0),rR 14 2,(79,.k,.sl 2 ((av links (bst t0.1) []).map Stp.v) false),rI 80 (((av links (bst t0.1) []).map Stp.v).length:Int),rI 81 t1.1,rB 109 t2],[.map none ((ba t0.2 (bst t0.1) (av t0.1 (bst t0.1) 0)).map λp=>MK.n p.1) ((ba t0.2 (bst t0.1) (av t0.1 (bst t0.1) 0)).map λp=>AV.int p.2) (ae (λ_=>rfl) _),.map none (t1.2.map λp=>MK.n p.1) (t1.2.map λp=>AV.int p.2) (ae (λ_=>rfl) _),.box (Stp.v x1)]⟩
@[reducible] def FO:Nat→Type
 | 0=>(List (Int×Int))×(List (Int×Int))
 | 1=>Int×(List (Int×Int))
 | 2=>Bool
 | _=>Unit
def FP(r:(List (Int×Int))):AV:=.mp none (r.map λp:Int×Int=>MK.n p.1) (r.map λp:Int×Int=>AV.int p.2)
def FN(links:(List (Int×List Stp)))(from_:Int)(I0:((List (Int×Int))×(List (Int×Int)))→Prop)(m0:((List (Int×Int))×(List (Int×Int)))→Nat)(I1:(List (Int×Int))×(List (Int×Int))→(Int×(List (Int×Int)))→Prop)(m1:(List (Int×Int))×(List (Int×Int))→(Int×(List (Int×Int)))→Nat)(I2:(List (Int×Int))×(List (Int×Int))→Int×(List (Int×Int))→Stp→Bool→Prop):Ax Tryz.prog FO ((List (Int×Int))):=
 (.mn 80 (DE false (λl:List Stp=>AV.sl 2 (l.map Stp.v) false) links from_ []) (.br 80 (aT links from_) (.mn 240 (nk AV.int ([]:List (Int×Int)) from_ 0) (.loop 0 (Lh links) I0 m0 (ba ([]:List (Int×Int)) from_ 0,([]:List (Int×Int))) [16,208] λ(t0:(List (Int×Int))×(List (Int×Int))) b0 =>
(.say (ck (decide ((t0.1.map λp=>MK.n p.1).length≤maxLen))) (.br 50 (decide (0<((t0.1.map λp=>MK.n p.1).length:Int))) (.pass (.handQ 0 (zf links t0.2 t0.1 0) [0,1] ((zf links t0.2 t0.1 (bst t0.1)).st) F5 (Du t0.1) (dst_h links t0.2 t0.1)
(.mn 34 (jP AV.int t0.1 (bst t0.1) 0) (.mn 98 (OX AV.int t0.1 (bst t0.1)) (.mn 162 (nk AV.int t0.2 (bst t0.1) (av t0.1 (bst t0.1) 0)) (.say (λR=>ck (decide (((ba t0.2 (bst t0.1) (av t0.1 (bst t0.1) 0)).map λp=>MK.n p.1).length≤maxLen))
((ck (decide ((links.map λp=>MK.n p.1).length≤maxLen))
R))) (.br 258 ((((ba t0.2 (bst t0.1) (av t0.1 (bst t0.1) 0)).map λp=>MK.n p.1).length:Int)==((links.map λp=>MK.n p.1).length:Int)) (.say (Rf ((ba t0.2 (bst t0.1) (av t0.1 (bst t0.1) 0)).map λp=>AV.int p.2)) (.cmdL (.frzM 0 ((ba t0.2 (bst t0.1) (av t0.1 (bst t0.1) 0)).map λp=>AV.int p.2) (ae (λ_=>rfl) _)) (.ret (ba t0.2 (bst t0.1) (av t0.1 (bst t0.1) 0)))))
(.mn 290 (DE true (λl:List Stp=>AV.sl 2 (l.map Stp.v) false) links (bst t0.1) []) (.say (ck (aT links (bst t0.1))) (.loop 1 (Lg links t0) (I1 t0) (m1 t0) (0,mdl t0.1 (bst t0.1)) [0,1] λ(t1:Int×(List (Int×Int))) b1 =>
(.br 18 (decide (t1.1<(((av links (bst t0.1) []).map Stp.v).length:Int))) (.elI 18 Stp.v (av links (bst t0.1) []) t1.1 λx1 =>
(.mn 130 (jP AV.int (ba t0.2 (bst t0.1) (av t0.1 (bst t0.1) 0)) x1.to 0) (.br 242 (aT (ba t0.2 (bst t0.1) (av t0.1 (bst t0.1) 0)) x1.to) (.bk 1 b1 (W (t1.1+1),t1.2) [0,1])
(.mn 290 (jP AV.int t1.2 x1.to 0) (.join 2 (Lf links t0 t1 x1) (λ(t2:Bool)=>I2 t0 t1 x1 t2) (λb2=>(.br 434 (!(aT t1.2 x1.to)) (.bk 2 b2 ((true):Bool) [0,1,50])
(.bk 2 b2 ((decide ((W ((av t0.1 (bst t0.1) 0)+x1.cost))<(av t1.2 x1.to 0))):Bool) [0,1,50]))) λ(t2:Bool) =>
(.br 3 t2 (.mn 115 (nk AV.int t1.2 x1.to (W ((av t0.1 (bst t0.1) 0)+x1.cost))) (.bk 1 b1 (W (t1.1+1),ba t1.2 x1.to (W ((av t0.1 (bst t0.1) 0)+x1.cost))) [0,1]))
(.bk 1 b1 (W (t1.1+1),t1.2) [0,1])))))))
(.bk 0 b0 (t1.2,ba t0.2 (bst t0.1) (av t0.1 (bst t0.1) 0)) [0,1]))))))))))))
(.say (Rf (t0.2.map λp=>AV.int p.2)) (.cmdL (.frzM 0 (t0.2.map λp=>AV.int p.2) (ae (λ_=>rfl) _)) (.ret (t0.2))))))))
(.say (Rf (([]:List (Int×Int)).map λp=>AV.int p.2)) (.cmdL (.frzM 16 (([]:List (Int×Int)).map λp=>AV.int p.2) (ae (λ_=>rfl) _)) (.ret (([]:List (Int×Int))))))))
theorem Qb(L:Lks)(f:Int)(h:yq L):∃I0 m0 I1 m1 I2,(FN L f I0 m0 I1 m1 I2).vp FP (cF L f):=by
 obtain⟨h1,h2,h3,h4⟩:=h;have hml:=aU
 refine⟨λt=>kg L t.2 t.1∧t.2.length<L.length∧Bi L (L.length-t.2.length) t.2 t.1=cF L f,λt=>L.length-t.2.length,
  λt0 t=>lJ (av L (bst t0.1) []) (relx (av t0.1 (bst t0.1) 0) (ba t0.2 (bst t0.1) (av t0.1 (bst t0.1) 0))) (mdl t0.1 (bst t0.1)) t.1 t.2,λt0 t=>(av L (bst t0.1) []).length-t.1.toNat,
  λt0 t x b=>b=decide (aT t.2 x.to=false∨W (av t0.1 (bst t0.1) 0+x.cost)<av t.2 x.to 0),?_⟩
 dsimp only[FN,FO,Ax.vp,Ax.vc];simp only[vcU,rfU,u']
 refine⟨λc=>⟨?_,?_⟩,λc=>by rw[cF,E' (by rw[c];simp)]⟩
 ·have hf:f∈ap L:=G' c;have h0:0<L.length:=by rw[←cH];exact List.length_pos_of_mem hf
  refine⟨⟨by simp[ap],by simp[ba,ap],by simp[ap],by simp[ba,ap];simpa[ap]using hf,by simp[ap]⟩,h0,by rw[cF,F' c];rfl⟩
 rintro⟨op,out⟩ ⟨hI,hlt,hD⟩;simp only at hI hlt hD ⊢;have q1:=hI.len1;have q2:=hI.len2;obtain⟨n,hn⟩:∃n,L.length-out.length=n+1:=⟨L.length-out.length-1,by omega⟩
 rw[hn,Bi]at hD
 refine⟨by omega,λc1=>?_,λc1=>?_⟩
 ·have hne:op≠[]:=λe=>by rw[e]at c1;simp at c1
  rw[E' hne]at hD;have hb:=Mm hne;obtain⟨hP,hPl⟩:=hI.pop (c:=av op (bst op) 0) hb;have q3:=hP.len1
  refine⟨λx hx=>h3 _ (hI.kp _ (aP.mpr ⟨x.2,hx⟩)),by omega,by omega,λc2=>?_,λc2=>?_⟩
  ·rw[F' (by have:=eq_of_beq c2;omega)]at hD;exact hD
  ·have c2:¬(ba out (bst op) (av op (bst op) 0)).length=L.length:=λe=>by rw[e]at c2;simp at c2
   rw[E' c2]at hD;have hbL:=hI.kp _ hb;have hst:(av L (bst op) []).length≤1000000∧∀s∈av L (bst op) [],s.to∈ap L:=h4 _ (bF (z:=[]) (decide_eq_true hbL));refine⟨decide_eq_true hbL,lJ.zero,?_⟩;rintro⟨i,op2⟩ hG;simp only at hG ⊢
   refine⟨λc3=>⟨hG.idx,c3,λx hx=>⟨λe=>?_,λe=>⟨⟨λe2=>?_,λe2=>?_⟩,?_⟩⟩⟩,λc3=>?_⟩
   ·refine hG.step (by omega) hx ?_;rw[relx,F' e]
   ·rw[show aT op2 x.to=false by simpa using e2];simp
   ·rw[show aT op2 x.to=true by simpa using e2];simp
   ·rintro _ rfl
    refine⟨λe2=>?_,λe2=>?_⟩
    ·refine hG.step (by omega) hx ?_;rw[relx,E' (by rw[e];simp),F' (G' e2)]
    ·refine hG.step (by omega) hx ?_;rw[relx,E' (by rw[e];simp),E' (S' e2)]
   ·have hG:=hG.done c3;have hF:=hP.fold (c:=av op (bst op) 0) hst.2;rw[←hG]at hF hD;have:n=L.length-(ba out (bst op) (av op (bst op) 0)).length:=by omega
    rw[this]at hD;exact⟨⟨hF,by omega,hD⟩,by omega⟩
 ·have:op=[]:=aK' (by omega);rw[F' this]at hD;exact hD
def Qc(links:(List (Int×List Stp)))(from_:Int)(h:yq links):PC Tryz.prog:=pcO 192 [.k,.k] [.mp none (links.map λp:Int×List Stp=>MK.n p.1) (links.map λp:Int×List Stp=>(λl:List Stp=>AV.sl 2 (l.map Stp.v) false) p.2),.int from_] .k FP (cF links from_) (λ_=>let ⟨I0,m0,I1,m1,I2,h⟩:=Qb links from_ h;⟨_,h,by kernel_rfl⟩) rfl (by kernel_rfl)
theorem bJ{kk:Option Nat}{m k x:AO}{f:Nat}{ρ:AO→AV}{hp:Hp}:evA (.mset kk m k x) f ρ hp=match ρ m with
    | .mref b=>match hp b,(ρ k).key with
      | some (.map kk' ks vs),some q=>{ c:=kk'=kk∧q.fits kk∧(ρ x).solid=true,rm:=some b,ad:=some (b,dO kk ks vs q (ρ x)) }
      | _,_=>.bad
    | _=>.bad:=rfl
def evN(n:Nat):List AV:=(List.range n).map λi=>.vec (Fr (2 * i))
def odN(n:Nat):List AV:=(List.range n).map λi=>.vec (Fr (2 * i+1))
def kyN(l:List Int):List MK:=l.map MK.n
def rdH(t:Tpl)(ids:List Int)(a b:List AV):List (Option Blk):=
 [some (.box (Tpl.v t)),some (.box (.agg [.val (.map none),.val (.map none)])),some (.box (.agg [.mref 3,.mref 4])),some (.map none (kyN ids) a),some (.map none (kyN ids) b)]
abbrev GS(M:List (List Stp))(h:Hp):Hp:=GR 2 Stp.v M h
def rdS(t:Tpl)(M:List (List Stp)):S3:=
 ⟨cD [(1,.ref 0 0),(2,.ref 1 0),(3,.ref 2 0)],GS M (hpL 0 (rdH t (t.rs.map (·.id)) (evN t.rs.length) (odN t.rs.length))),2000⟩
def rd_m(t:Tpl):NF:=
 ⟨[(1,.k,.ref 0 0),(2,.k,.ref 1 0),(3,.k,.ref 2 0)],[.box (Tpl.v t),.box (.agg [.val (.map none),.val (.map none)]),.box (.agg [.mref 3,.mref 4]),.map none (([]:Lks).map λp=>MK.n p.1) (([]:Lks).map λp=>(λl:List Stp=>AV.sl 2 (l.map Stp.v) false) p.2) (ae (λ_=>rfl) _),.map none (([]:Lks).map λp=>MK.n p.1) (([]:Lks).map λp=>(λl:List Stp=>AV.sl 2 (l.map Stp.v) false) p.2) (ae (λ_=>rfl) _)]⟩
def CO:AC:=.seq (.reg [⟨(some 12),.faddr 0 (.t 1),none⟩,⟨(some 13),.load false 1 (.t 12),none⟩,⟨(some 14),.len (.t 13),none⟩,⟨(some 15),.move (.c (.val (.int .i64 0))),none⟩])
 (.block 0 (.loop (.seq (.reg [⟨(some 16),.bin .lss (.t 15) (.t 14),none⟩])
 (.seq (.cond (.t 16) (.skip) (.exit 0))
 (.seq (.block 1 (.seq (.reg [⟨(some 17),.iaddr 2 (.t 13) (.t 15),none⟩,⟨(some 18),.load true 2 (.t 17),none⟩,⟨(some 5),.box (.c (.agg [(.val (.int .i64 0)),(.val (.bool false))])),none⟩,⟨none,.store 2 (.t 5) (.t 18),none⟩])
 (.dreg [⟨(some 19),.faddr 0 (.t 3),none⟩,⟨(some 20),.load false 1 (.t 19),none⟩,⟨(some 21),.faddr 0 (.t 5),none⟩,⟨(some 22),.load false 1 (.t 21),none⟩,⟨(some 23),.faddr 1 (.t 3),none⟩,⟨(some 24),.load false 1 (.t 23),none⟩,⟨(some 25),.faddr 0 (.t 5),none⟩,⟨(some 26),.load false 1 (.t 25),none⟩,⟨none,.mset none (.t 20) (.t 22) (.c (.sl 0 [] true)),none⟩,⟨none,.mset none (.t 24) (.t 26) (.c (.sl 0 [] true)),none⟩] [(1,3),(1,5),(3,5),(1,7),(3,7),(5,7),(5,8),(7,8)])))
 (.reg [⟨(some 27),.bin .add (.t 15) (.c (.val (.int .i64 1))),none⟩,⟨(some 15),.move (.t 27),none⟩]))))))
theorem kS(n:Nat):(evN n).length=n:=by simp[evN]
theorem kE(n:Nat):(odN n).length=n:=by simp[odN]
theorem c8(x:Stp):x.v.pureB=true:=rfl
theorem Bt(l:List Rtr):aD (l.map Rtr.v):=au (ae (λ_=>rfl) l)
theorem oi{k:Nat}:∀{xs:List AV},(∀x∈xs,x.bel k)→gW k xs
 | [],_=>trivial
 | x::xs,h=>⟨h x (by simp),oi λy hy=>h y (by simp[hy])⟩
theorem qm{n:Nat}(h:n≤400):gW 2000 (evN n):=oi λx hx=>by
 obtain⟨i,hi,rfl⟩:=aa'.mp hx;have:=as'.mp hi;show Fr (2 * i)<2000;unfold Fr;omega
theorem pK{n:Nat}(h:n≤400):gW 2000 (odN n):=oi λx hx=>by
 obtain⟨i,hi,rfl⟩:=aa'.mp hx;have:=as'.mp hi;show Fr (2 * i+1)<2000;unfold Fr;omega
theorem qk{n:Nat}(h:n≤400)(bs fs:Nat→Nat):cG (ft bs fs) (evN n)=(List.range n).map λi=>.vec (fs (2 * i)):=by
 rw[du,evN,aZ'];refine an' λi hi=>?_;have:=as'.mp hi;show AV.vec (ft bs fs (Fr (2 * i)))=_;rw[jR (by omega)]
theorem pJ{n:Nat}(h:n≤400)(bs fs:Nat→Nat):cG (ft bs fs) (odN n)=(List.range n).map λi=>.vec (fs (2 * i+1)):=by
 rw[du,odN,aZ'];refine an' λi hi=>?_;have:=as'.mp hi;show AV.vec (ft bs fs (Fr (2 * i+1)))=_;rw[jR (by omega)]
theorem oE{t:Tpl}{ids:List Int}{n:Nat}{hp:Hp}{fs:Nat→Nat}{a b:List AV}(hn:n≤400)(h0:hp 0=some (.box (Tpl.v t)))(h1:hp 1=some (.box (.agg [.val (.map none),.val (.map none)])))(h2:hp 2=some (.box (.agg [.mref 3,.mref 4])))
  (h3:hp 3=some (.map none (kyN ids) a)) (h4:hp 4=some (.map none (kyN ids) b)) (ha:a=(List.range n).map λi=>.vec (fs (2 * i))) (hb:b=(List.range n).map λi=>.vec (fs (2 * i+1))) :
  ∀i x,(rdH t ids (evN n) (odN n))[i]?=some (some x)→hp ((λb=>b) i)=some (x.ren (ft (λb=>b) fs))∧x.bel 2000:=by
 have hr:=aK (ft (λb=>b) fs) (Bt t.rs);intro i x h
 rcases i with _|_|_|_|_|i
 ·cases h;exact⟨h0,⟨trivial,trivial,trivial⟩⟩
 ·cases h;exact⟨h1,⟨trivial,trivial,trivial⟩⟩
 ·cases h;exact⟨h2,⟨show 3<2000 by omega,show 4<2000 by omega,trivial⟩⟩
 ·cases h;exact⟨by show hp 3=_;rw[h3,Blk.ren,qk hn,ha],qm hn⟩
 ·cases h;exact⟨by show hp 4=_;rw[h4,Blk.ren,pJ hn,hb],pK hn⟩
 ·simp[rdH]at h
structure Chk5 (t:Tpl):Prop where
  nr:t.rs.length≤24
  nl:t.ls.length≤60
  rg:∀x∈t.rs,1≤x.id∧x.id≤99
  asc:t.rs.Pairwise (λx y=>x.id<y.id)
  lr:∀l∈t.ls,iD l
  has:∀l∈t.ls,aJ t l.a=true∧aJ t l.b=true
  lt:∀l∈t.ls,l.a<l.b
  ord:t.ls.Pairwise bC
theorem ax{t:Tpl}(h:aC t=0):Chk5 t:=by
 unfold aC at h
 by_cases a1:24<t.rs.length∨60<t.ls.length
 ·rw[F' a1]at h;omega
 rw[E' a1]at h;by_cases a2:∀x∈t.rs,1≤x.id∧x.id≤99
 case neg=>rw[F' a2]at h;omega
 rw[E' (not_not_intro a2)]at h;by_cases a3:t.rs.Pairwise (λx y=>x.id<y.id)
 case neg=>rw[F' a3]at h;omega
 rw[E' (not_not_intro a3)]at h;by_cases a4:∀l∈t.ls,iD l
 case neg=>rw[F' a4]at h;omega
 rw[E' (not_not_intro a4)]at h;by_cases a5:∀l∈t.ls,aJ t l.a=true∧aJ t l.b=true
 case neg=>rw[F' a5]at h;omega
 rw[E' (not_not_intro a5)]at h;by_cases a6:∀l∈t.ls,l.a<l.b
 case neg=>rw[F' a6]at h;omega
 rw[E' (not_not_intro a6)]at h;by_cases a7:t.ls.Pairwise bC
 case neg=>rw[F' a7]at h;omega
 exact⟨by omega,by omega,a2,a3,a4,a5,a6,a7⟩
theorem GH{t:Tpl}(h:aC t=0):t.rs.Pairwise (λx y=>x.id<y.id):=(ax h).asc
theorem Mz{l:List Rtr}(h:l.Pairwise (λx y=>x.id<y.id)){i j:Nat}(hij:i<j){x y:Rtr}(hx:l[i]?=some x)(hy:l[j]?=some y):x.id<y.id:=by
 have hi:=am hx;have hj:=am hy;rw[f' hi]at hx;rw[f' hj]at hy;have:=at'.mp h i j hi hj hij;rw[Z' hx,Z' hy]at this;exact this
theorem KV(i m:Nat)(x:AV):(evN i++[x]).set i (.vec m)=(List.range (i+1)).map λj=>.vec ((λj=>if j=2 * i then m else if j=2 * i+1 then m+1 else Fr j) (2 * j)):=by
 rw[bw' _ _ (by rw[kS];exact X' _),kS,ba',cb',bT',aI']
 congr 1
 ·refine an' λj hj=>?_;have:=as'.mp hj;simp only;rw[E' (by omega),E' (by omega)]
 ·simp
theorem JO(i m:Nat)(x:AV):(odN i++[x]).set i (.vec (m+1))=(List.range (i+1)).map λj=>.vec ((λj=>if j=2 * i then m else if j=2 * i+1 then m+1 else Fr j) (2 * j+1)):=by
 rw[bw' _ _ (by rw[kE];exact X' _),kE,ba',cb',bT',aI']
 congr 1
 ·refine an' λj hj=>?_;have:=as'.mp hj;simp only;rw[E' (by omega),E' (by omega)]
 ·simp
theorem rd_h1(t:Tpl)(hc:aC t=0)(k:Nat):dL Tryz.prog 0 k CO (rd_m t).st (rdS t (List.replicate (2 * t.rs.length) [])):=by
 unfold dL CO;show AWP _ 0 k _ _ ⟨cD [(1,.ref 0 0),(2,.ref 1 0),(3,.ref 2 0)],hpL 0 (rdH t [] [] []),5⟩;have hR:t.rs.length≤400:=by have:=(cJ hc).1;omega
 have hdi:=GH hc;have hml:=aU;refine AWP.seq' ?_;refine AWP.reg' λK hK=>?_
 try simp only[ag,seval,rdH,Tpl.v,u']
 refine hK _ _ _ ?_;clear hK K;refine AWP.block ?_;have hge:∀{i:Nat} {r:Rtr},t.rs[i]?=some r→(t.rs.map Rtr.v).getD i .unk=Rtr.v r:=λ{i r} h=>by rw[H',I',h];rfl
 refine AWP.loopS (λi:Nat=>⟨cD [(1,.ref 0 0),(2,.ref 1 0),(3,.ref 2 0),(13,.sl 2 (t.rs.map Rtr.v) false),(14,.int t.rs.length),(15,.int (i:Nat))],GS (List.replicate (2 * i) []) (hpL 0 (rdH t ((t.rs.take i).map (·.id)) (evN i) (odN i))),2000⟩)
  (λi=>i≤t.rs.length) (λi=>t.rs.length-i) (i0:=0) (am' _) ?_ ?_
 ·refine ao.nfR c8 _ _ _ (λb=>b) Fr ?_ (oE (by omega) rfl rfl rfl rfl rfl rfl rfl) (by simp[rdH]) (by simp) (by simp) (λi j _ _ h=>h) (λi j _ _ h=>by unfold Fr at h;omega) (λi j h1 h2=>by simp at h2) (λb _=>rfl) (by decide);simp only[aM',aB',false_implies,implies_true,and_true];exact⟨⟨rfl,show 0<2000 by omega⟩,⟨rfl,show 1<2000 by omega⟩,⟨rfl,show 2<2000 by omega⟩,⟨rfl,trivial⟩,⟨rfl,trivial⟩,rfl,trivial⟩
 ·intro i hi;refine AWP.seq' ?_;refine AWP.reg' λK hK=>?_
  try simp only[ag,seval]
  refine hK _ _ _ ?_;clear hK K;refine AWP.seq' ?_
  refine AWP.cond (b:=decide ((i:Int)<(t.rs.length:Int))) rfl (λh=>?_) (λh=>?_)
  ·have h:i<t.rs.length:=by have:=G' h;omega
   have hr:t.rs[i]?=some t.rs[i]:=f' h;generalize t.rs[i]=r at hr;refine AWP.skip ?_;refine AWP.seq' (AWP.block (AWP.seq' ?_));have hG0:∀b,b<1000→GS (List.replicate (2 * i) []) (hpL 0 (rdH t ((t.rs.take i).map (·.id)) (evN i) (odN i))) b=hpL 0 (rdH t ((t.rs.take i).map (·.id)) (evN i) (odN i)) b:=λb hb=>lY hb;refine AWP.reg' λK hK=>?_
   try simp only[ag,seval,hge hr,Int.toNat_natCast,u',Rtr.v]
   refine⟨⟨by omega,by omega⟩,?_⟩;refine hK _ _ _ ?_;clear hK K;have hnm:¬MK.n r.id∈kyN ((t.rs.take i).map (·.id)):=λhm=>by
    obtain⟨q,hq,e⟩:=aa'.mp hm;obtain⟨r',hr',rfl⟩:=aa'.mp hq;obtain⟨j,hj⟩:=ac'.mp hr';have hji:j<i:=by have:=am hj;rw[ar']at this;omega
    rw[List.getElem?_take_of_lt hji]at hj;have:=Mz hdi hji hj hr;have:=MK.n.inj e;omega
   generalize hids:(t.rs.take i).map (·.id)=ids at hnm hG0 ⊢;have g2:GS (List.replicate (2 * i) []) (hpL 0 (rdH t ids (evN i) (odN i))) 2=some (.box (.agg [.mref 3,.mref 4])):=hG0 2 (by decide);have g3:GS (List.replicate (2 * i) []) (hpL 0 (rdH t ids (evN i) (odN i))) 3=some (.map none (kyN ids) (evN i)):=hG0 3 (by decide);have g4:GS (List.replicate (2 * i) []) (hpL 0 (rdH t ids (evN i) (odN i))) 4=some (.map none (kyN ids) (odN i)):=hG0 4 (by decide);refine AWP.dreg' λK hK=>?_
   try simp only[ag,seval,g2,g3,g4,bJ,AV.key,MK.fits,dO,hnm,if_false]
   refine⟨by rfl,hK _ _ _ ?_⟩;clear hK K;refine(show AWP _ _ _ _ _ _ from ?_);have w:IntKind.i64.wrap ((i:Int)+1)=((i+1:Nat):Int):=jF (by omega) (by omega);refine AWP.reg' λK hK=>?_
   try simp only[ag,seval,w]
   refine hK _ _ _ ?_;clear hK K;refine⟨i+1,by omega,by omega,?_⟩;have hids':(t.rs.take (i+1)).map (·.id)=ids++[r.id]:=by rw[aB hr,aI',hids];rfl
   rw[hids'];have hky:kyN (ids++[r.id])=kyN ids++[MK.n r.id]:=by simp[kyN]
   refine ao.trans (ao.nilvecM (ks:=kyN ids++[.n r.id]) (vs:=evN i++[.sl 0 [] true]) 3 i 0 2 (by simp only[aj];rfl) (by rw[aL' (by rw[kS];exact X' _),kS,ba'];rfl) (am' _)) ?_;refine ao.trans (ao.nilvecM (ks:=kyN ids++[.n r.id]) (vs:=odN i++[.sl 0 [] true]) 4 i 0 2 (by simp only[aj];rfl) (by rw[aL' (by rw[kE];exact X' _),kE,ba'];rfl) (am' _)) ?_
   refine ao.nfR c8 _ _ _ (λb=>b) (λj=>if j=2 * i then 2272 else if j=2 * i+1 then 2272+1 else Fr j) ?_
    (oE (by omega) ?_ ?_ ?_ (by rw[hky];simp only[aj];rfl) (by rw[hky];simp only[aj];rfl) (KV i 2272 _) (JO i 2272 _)) (by simp[rdH]) (by simp;omega) ?_ (λi j _ _ h=>h) ?_ ?_ (λb _=>rfl) (by decide)
   ·simp only[aM',aB',false_implies,implies_true,and_true];exact⟨⟨rfl,show 0<2000 by omega⟩,⟨rfl,show 1<2000 by omega⟩,⟨rfl,show 2<2000 by omega⟩,⟨rfl,trivial⟩,⟨rfl,trivial⟩,rfl,trivial⟩
   ·simp only[aj];exact hG0 0 (by decide)
   ·simp only[aj];exact hG0 1 (by decide)
   ·simp only[aj];exact hG0 2 (by decide)
   ·intro j q hj;rw[aY']at hj;split at hj
    case isFalse=>cases hj
    cases hj;rename_i hj2
    split
    ·rfl
    ·split
     ·rfl
     ·have:(List.replicate (2 * i) ([]:List Stp))[j]?=some []:=by rw[aY',F' (by omega)]
      simp only[aj,ph (show 3<1000 by omega),ph (show 4<1000 by omega),iz (show j<1000 by omega) (show 2000≤2272 by omega),iz (show j<1000 by omega) (show 2000≤2272+1 by omega),iz (show j<1000 by omega) (show 2000≤2048 by omega),if_false];exact it this (by simp;omega)
   ·intro a b ha hb he;simp at ha hb;unfold Fr at he
    (repeat' split at he)<;>omega
   ·intro a b ha hb he;simp only[rdH,Y',al']at ha;unfold Fr at he
    (repeat' split at he)<;>omega
  ·have h:i=t.rs.length:=by have:=S' h;omega
   subst h;refine AWP.exit ?_;refine(show ao 0 k _ _ from ?_);unfold rdS;rw[List.take_length];refine ao.nfR c8 _ _ _ (λb=>b) Fr ?_ (oE (by omega) rfl rfl rfl rfl rfl rfl rfl) (by simp[rdH]) (by simp;omega) (λj r hr=>it hr (by simp;omega)) (λi j _ _ h=>h) (λi j _ _ h=>by unfold Fr at h;omega) (λi j h1 h2 h=>by simp[rdH]at h1;unfold Fr at h;omega) (λb _=>rfl) (by decide);simp only[aM',aB',false_implies,implies_true,and_true];exact⟨⟨rfl,show 0<2000 by omega⟩,⟨rfl,show 1<2000 by omega⟩,rfl,show 2<2000 by omega⟩
def CL:AC:=.dreg [⟨(some 35),.faddr 0 (.t 3),none⟩,⟨(some 36),.load false 1 (.t 35),none⟩,⟨(some 37),.faddr 0 (.t 7),none⟩,⟨(some 38),.load false 1 (.t 37),none⟩,⟨(some 39),.faddr 0 (.t 3),none⟩,⟨(some 40),.load false 1 (.t 39),none⟩,⟨(some 41),.faddr 0 (.t 7),none⟩,⟨(some 42),.load false 1 (.t 41),none⟩,⟨(some 43),.mget none ((.sl 0 [] true)) false (.t 40) (.t 42),none⟩,⟨(some 44),.faddr 1 (.t 7),none⟩,⟨(some 45),.load false 1 (.t 44),none⟩,⟨(some 46),.faddr 2 (.t 7),none⟩,⟨(some 47),.load false 1 (.t 46),none⟩,⟨(some 48),.build [(.val (.int .i64 0)),(.val (.int .i64 0))] [(0,1,(.t 45)),(1,1,(.t 47))],none⟩,⟨(some 49),.lit 2 1 (.agg [(.val (.int .i64 0)),(.val (.int .i64 0))]) [(0,(.t 48))],none⟩,⟨(some 50),.append 2 16 (.t 43) (.t 49),none⟩,⟨none,.mset none (.t 36) (.t 38) (.t 50),none⟩] [(1,3),(1,5),(3,5),(1,7),(3,7),(5,7),(1,8),(3,8),(1,10),(3,10),(5,10),(7,10),(8,10),(1,12),(3,12),(5,12),(7,12),(8,12),(10,12),(1,14),(3,14),(5,14),(7,14),(8,14),(1,15),(3,15)]
def CK:AC:=.dreg [⟨(some 51),.faddr 0 (.t 3),none⟩,⟨(some 52),.load false 1 (.t 51),none⟩,⟨(some 53),.faddr 1 (.t 7),none⟩,⟨(some 54),.load false 1 (.t 53),none⟩,⟨(some 55),.faddr 0 (.t 3),none⟩,⟨(some 56),.load false 1 (.t 55),none⟩,⟨(some 57),.faddr 1 (.t 7),none⟩,⟨(some 58),.load false 1 (.t 57),none⟩,⟨(some 59),.mget none ((.sl 0 [] true)) false (.t 56) (.t 58),none⟩,⟨(some 60),.faddr 0 (.t 7),none⟩,⟨(some 61),.load false 1 (.t 60),none⟩,⟨(some 62),.faddr 3 (.t 7),none⟩,⟨(some 63),.load false 1 (.t 62),none⟩,⟨(some 64),.build [(.val (.int .i64 0)),(.val (.int .i64 0))] [(0,1,(.t 61)),(1,1,(.t 63))],none⟩,⟨(some 65),.lit 2 1 (.agg [(.val (.int .i64 0)),(.val (.int .i64 0))]) [(0,(.t 64))],none⟩,⟨(some 66),.append 2 16 (.t 59) (.t 65),none⟩,⟨none,.mset none (.t 52) (.t 54) (.t 66),none⟩] [(1,3),(1,5),(3,5),(1,7),(3,7),(5,7),(1,8),(3,8),(1,10),(3,10),(5,10),(7,10),(8,10),(1,12),(3,12),(5,12),(7,12),(8,12),(10,12),(1,14),(3,14),(5,14),(7,14),(8,14),(1,15),(3,15)]
def CJ:AC:=.dreg [⟨(some 67),.faddr 1 (.t 3),none⟩,⟨(some 68),.load false 1 (.t 67),none⟩,⟨(some 69),.faddr 1 (.t 7),none⟩,⟨(some 70),.load false 1 (.t 69),none⟩,⟨(some 71),.faddr 1 (.t 3),none⟩,⟨(some 72),.load false 1 (.t 71),none⟩,⟨(some 73),.faddr 1 (.t 7),none⟩,⟨(some 74),.load false 1 (.t 73),none⟩,⟨(some 75),.mget none ((.sl 0 [] true)) false (.t 72) (.t 74),none⟩,⟨(some 76),.faddr 0 (.t 7),none⟩,⟨(some 77),.load false 1 (.t 76),none⟩,⟨(some 78),.faddr 2 (.t 7),none⟩,⟨(some 79),.load false 1 (.t 78),none⟩,⟨(some 80),.build [(.val (.int .i64 0)),(.val (.int .i64 0))] [(0,1,(.t 77)),(1,1,(.t 79))],none⟩,⟨(some 81),.lit 2 1 (.agg [(.val (.int .i64 0)),(.val (.int .i64 0))]) [(0,(.t 80))],none⟩,⟨(some 82),.append 2 16 (.t 75) (.t 81),none⟩,⟨none,.mset none (.t 68) (.t 70) (.t 82),none⟩] [(1,3),(1,5),(3,5),(1,7),(3,7),(5,7),(1,8),(3,8),(1,10),(3,10),(5,10),(7,10),(8,10),(1,12),(3,12),(5,12),(7,12),(8,12),(10,12),(1,14),(3,14),(5,14),(7,14),(8,14),(1,15),(3,15)]
def CI:AC:=.dreg [⟨(some 83),.faddr 1 (.t 3),none⟩,⟨(some 84),.load false 1 (.t 83),none⟩,⟨(some 85),.faddr 0 (.t 7),none⟩,⟨(some 86),.load false 1 (.t 85),none⟩,⟨(some 87),.faddr 1 (.t 3),none⟩,⟨(some 88),.load false 1 (.t 87),none⟩,⟨(some 89),.faddr 0 (.t 7),none⟩,⟨(some 90),.load false 1 (.t 89),none⟩,⟨(some 91),.mget none ((.sl 0 [] true)) false (.t 88) (.t 90),none⟩,⟨(some 92),.faddr 1 (.t 7),none⟩,⟨(some 93),.load false 1 (.t 92),none⟩,⟨(some 94),.faddr 3 (.t 7),none⟩,⟨(some 95),.load false 1 (.t 94),none⟩,⟨(some 96),.build [(.val (.int .i64 0)),(.val (.int .i64 0))] [(0,1,(.t 93)),(1,1,(.t 95))],none⟩,⟨(some 97),.lit 2 1 (.agg [(.val (.int .i64 0)),(.val (.int .i64 0))]) [(0,(.t 96))],none⟩,⟨(some 98),.append 2 16 (.t 91) (.t 97),none⟩,⟨none,.mset none (.t 84) (.t 86) (.t 98),none⟩] [(1,3),(1,5),(3,5),(1,7),(3,7),(5,7),(1,8),(3,8),(1,10),(3,10),(5,10),(7,10),(8,10),(1,12),(3,12),(5,12),(7,12),(8,12),(10,12),(1,14),(3,14),(5,14),(7,14),(8,14),(1,15),(3,15)]
def rdL(t:Tpl)(l:Lnk)(ids:List Int)(a b:List AV):List (Option Blk):=
 [some (.box (Tpl.v t)),some (.box (.agg [.val (.map none),.val (.map none)])),some (.box (.agg [.mref 3,.mref 4])),some (.map none (kyN ids) a),some (.map none (kyN ids) b),some (.box (Lnk.v l))]
def rdT(t:Tpl)(l:Lnk)(i:Nat)(M:List (List Stp)):S3:=
 ⟨cD [(1,.ref 0 0),(2,.ref 1 0),(3,.ref 2 0),(7,.ref 5 0),(29,.sl 5 (t.ls.map Lnk.v) false),(30,.int t.ls.length),(31,.int (i:Nat))],GS M (hpL 0 (rdL t l (t.rs.map (·.id)) (evN t.rs.length) (odN t.rs.length))),2000⟩
theorem rG{t:Tpl}{l:Lnk}{ids:List Int}{n:Nat}{hp:Hp}{bs fs:Nat→Nat}{a b:List AV}(hbs:bs 0=0∧bs 1=1∧bs 2=2∧bs 3=3∧bs 4=4)(hn:n≤400)(h0:hp 0=some (.box (Tpl.v t)))(h1:hp 1=some (.box (.agg [.val (.map none),.val (.map none)])))(h2:hp 2=some (.box (.agg [.mref 3,.mref 4])))
  (h3:hp 3=some (.map none (kyN ids) a)) (h4:hp 4=some (.map none (kyN ids) b)) (h5:hp (bs 5)=some (.box (Lnk.v l))) (ha:a=(List.range n).map λi=>.vec (fs (2 * i))) (hb:b=(List.range n).map λi=>.vec (fs (2 * i+1))) :
  ∀i x,(rdL t l ids (evN n) (odN n))[i]?=some (some x)→hp (bs i)=some (x.ren (ft bs fs))∧x.bel 2000:=by
 obtain⟨b0,b1,b2,b3,b4⟩:=hbs;have e3:ft bs fs 3=3:=by rw[eT (by omega),b3]
 have e4:ft bs fs 4=4:=by rw[eT (by omega),b4]
 intro i x h
 rcases i with _|_|_|_|_|_|i
 ·cases h;exact⟨by rw[b0];exact h0,⟨trivial,trivial,trivial⟩⟩
 ·cases h;exact⟨by rw[b1];exact h1,⟨trivial,trivial,trivial⟩⟩
 ·cases h;exact⟨by rw[b2,h2];show _=some (Blk.box (.agg [.mref (ft bs fs 3),.mref (ft bs fs 4)]));rw[e3,e4],⟨show 3<2000 by omega,show 4<2000 by omega,trivial⟩⟩
 ·cases h;exact⟨by show hp (bs 3)=_;rw[b3,h3,Blk.ren,qk hn,ha],qm hn⟩
 ·cases h;exact⟨by show hp (bs 4)=_;rw[b4,h4,Blk.ren,pJ hn,hb],pK hn⟩
 ·cases h;exact⟨h5,trivial,trivial,trivial,trivial,trivial,trivial⟩
 ·simp[rdL]at h
def apR(M:List (List Stp))(x:Nat)(s:Stp):List (List Stp):=M.set x (M.getD x []++[s])
theorem iq(M:List (List Stp))(x:Nat)(s:Stp):(apR M x s).length=M.length:=by simp[apR]
theorem kM{ids:List Int}(hn:ids.Nodup){x:Nat}{a:Int}(h:ids[x]?=some a):MK.n a∈kyN ids∧(kyN ids).idxOf (MK.n a)=x:=by
 have h2:(kyN ids)[x]?=some (MK.n a):=by rw[kyN,I',h];rfl
 refine⟨J' h2,nH ?_ h2⟩;exact List.Pairwise.map MK.n (λa b h e=>h (MK.n.inj e)) hn
theorem ql{n x:Nat}(h:x<n):(evN n).getD x .unk=.vec (Fr (2 * x)):=by simp[evN,H',h]
theorem yu{n x:Nat}(h:x<n):(odN n).getD x .unk=.vec (Fr (2 * x+1)):=by simp[odN,H',h]
theorem KU(n x m:Nat)(h:x<n):(evN n).set x (.vec m)=(List.range n).map λi=>.vec ((λj=>if j=2 * x then m else Fr j) (2 * i)):=by
 refine aJ' λi=>?_;rw[ak',evN,I',I',u',ch']
 by_cases e:x=i
 ·subst e;simp[h]
 ·rw[E' e]
  by_cases hi:i<n
  ·simp[hi,show ¬2 * i=2 * x by omega]
  ·simp[hi]
theorem Fz(n x m:Nat):evN n=(List.range n).map λi=>.vec ((λj=>if j=2 * x+1 then m else Fr j) (2 * i)):=by
 refine an' λi _=>?_;simp only;rw[E' (by omega)]
theorem JN(n x m:Nat)(h:x<n):(odN n).set x (.vec m)=(List.range n).map λi=>.vec ((λj=>if j=2 * x+1 then m else Fr j) (2 * i+1)):=by
 refine aJ' λi=>?_;rw[ak',odN,I',I',u',ch']
 by_cases e:x=i
 ·subst e;simp[h]
 ·rw[E' e]
  by_cases hi:i<n
  ·simp[hi];intro h;omega
  ·simp[hi]
theorem Dv(n x m:Nat):odN n=(List.range n).map λi=>.vec ((λj=>if j=2 * x then m else Fr j) (2 * i+1)):=by
 refine an' λi _=>?_;simp only;rw[E' (by omega)]
theorem rdu1{n x m:Nat}(hx:x<n):(evN n).set x (.vec m)=(List.range n).map λi=>.vec ((λj=>if j=2 * x then m else Fr j) (2 * i)):=KU n x m hx
theorem rdu2{n x m:Nat}(hx:x<n):odN n=(List.range n).map λi=>.vec ((λj=>if j=2 * x then m else Fr j) (2 * i+1)):=Dv n x m
theorem rdu3{n x m:Nat}(hx:x<n):evN n=(List.range n).map λi=>.vec ((λj=>if j=2 * x+1 then m else Fr j) (2 * i)):=Fz n x m
theorem rdu4{n x m:Nat}(hx:x<n):(odN n).set x (.vec m)=(List.range n).map λi=>.vec ((λj=>if j=2 * x+1 then m else Fr j) (2 * i+1)):=JN n x m hx
theorem rd_a1(t:Tpl)(hc:aC t=0)(l:Lnk)(i:Nat)(M:List (List Stp))(hM:M.length=2 * t.rs.length)(hr:∀r∈M,r.length≤100000){x:Nat}(hx:(t.rs.map (·.id))[x]?=some l.a)(k:Nat){Q:X→S3→Prop}
    (hQ:∀s,ao 0 k s (rdT t l i (apR M (2*x) ⟨l.b,l.ca⟩))→Q .normal s):AWP Tryz.prog 0 k CL Q (rdT t l i M):=by
  have hO:=ax hc;have hR:=hO.nr;have hxl:x<t.rs.length:=by have:=am hx;rwa [u']at this
  have hnd:(t.rs.map (·.id)).Nodup:=List.Pairwise.map _ (λa b h=>by omega) hO.asc;obtain⟨hk1,hk2⟩:=kM hnd hx;obtain⟨row,hrow⟩:∃row,M[2*x]?=some row:=⟨M[2*x]'(by omega),f' (by omega)⟩
  have hrl:=hr row (J' hrow);unfold rdT CL;generalize hids:t.rs.map (·.id)=ids at *
  have hG0:∀b,b<1000→GS M (hpL 0 (rdL t l ids (evN t.rs.length) (odN t.rs.length))) b=hpL 0 (rdL t l ids (evN t.rs.length) (odN t.rs.length)) b:=λb hb=>lY hb;have g2:GS M (hpL 0 (rdL t l ids (evN t.rs.length) (odN t.rs.length))) 2=some (.box (.agg [.mref 3,.mref 4])):=hG0 2 (by decide);have g3:GS M (hpL 0 (rdL t l ids (evN t.rs.length) (odN t.rs.length))) 3=some (.map none (kyN ids) (evN t.rs.length)):=hG0 3 (by decide);have g4:GS M (hpL 0 (rdL t l ids (evN t.rs.length) (odN t.rs.length))) 4=some (.map none (kyN ids) (odN t.rs.length)):=hG0 4 (by decide);have g5:GS M (hpL 0 (rdL t l ids (evN t.rs.length) (odN t.rs.length))) 5=some (.box (.agg [.int l.a,.int l.b,.int l.ca,.int l.cb,.int l.w])):=hG0 5 (by decide);have gF:GS M (hpL 0 (rdL t l ids (evN t.rs.length) (odN t.rs.length))) (Fr (2*x))=some (.vec 2 (row.map Stp.v)):=it hrow (by omega);have hmg:cR (kyN ids) (evN t.rs.length) (MK.n l.a) (.sl 0 [] true) false=.vec (Fr (2*x)):=by
    unfold cR;rw[F' hk1,hk2,ql hxl];rfl
  have hms:∀v,dO none (kyN ids) (evN t.rs.length) (MK.n l.a) v=  .map none (kyN ids) ((evN t.rs.length).set x v):=λv=>by
    unfold dO;rw[F' hk1,hk2]
  have hml:=aU;refine AWP.dreg' λK hK=>?_
  try simp only[ag,seval,g2,g3,g4,g5,bJ,bj,dI,AV.key,MK.fits,hmg,hms,gF,and_self,true_and]
  refine c7 ?_;have hap:∀xs f,aS (GS M (hpL 0 (rdL t l ids (evN t.rs.length) (odN t.rs.length)))) f 2 16 (.vec (Fr (2*x))) (some xs)={ c:=(row.length+xs.length) * 16≤2 ^ 47∧row.length+xs.length≤maxLen,v:=.vec f,rm:=some (Fr (2*x)),ad:=some (f,.vec 2 (row.map Stp.v++xs)) }:=λxs f=>by
    simp[aS,gF]
  try simp only[ag,seval,gF,g2,g3,g4,g5,hap,hms,bJ,AV.key,MK.fits,and_self,true_and,dj,bL (show 3<1000 by omega),if_false]
  refine⟨⟨by omega,by omega⟩,?_⟩
  refine⟨?_,hK _ _ _ (hQ _ ?_)⟩
  · have e2:∀n,n<1000→(Fr (2*x)==n)=false:=λn hn=>by simp[Fr];omega
    have e3:∀n,n<1000→(n==Fr (2*x))=false:=λn hn=>by simp[Fr];omega
    simp[eG,jg,bi,AOp.opers,aL,evO,aj,e2,e3];unfold Fr;omega
  have hap':apR M (2*x) ⟨l.b,l.ca⟩=M.set (2*x) (row++[⟨l.b,l.ca⟩]):=by unfold apR;rw[H',hrow];rfl
  rw[hap']
  refine ao.nfR c8 _ _ _ (λb=>b) (λj=>if j=2*x then 2240 else Fr j) ?_
    (rG ⟨rfl,rfl,rfl,rfl,rfl⟩ (by omega) ?_ ?_ ?_ ?_ ?_ ?_ (rdu1 (hx:=hxl)) (rdu2 (hx:=hxl))) (by simp[rdL]) (by simp;omega) ?_ (λi j _ _ h=>h) ?_ ?_ (λb _=>rfl) (by decide)
  · simp only[aM',aB',false_implies,implies_true,and_true]
    exact⟨⟨rfl,show 0<2000 by omega⟩,⟨rfl,show 1<2000 by omega⟩,⟨rfl,show 2<2000 by omega⟩,⟨rfl,show 5<2000 by omega⟩,⟨rfl,trivial⟩,⟨rfl,trivial⟩,rfl,trivial⟩
  · simp only[aj,bL (show 0<1000 by omega),if_false];exact hG0 0 (by decide)
  · simp only[aj,bL (show 1<1000 by omega),if_false];exact hG0 1 (by decide)
  · simp only[aj,bL (show 2<1000 by omega),if_false];exact hG0 2 (by decide)
  · rw[hids];first|(simp only[aj,if_true];done)|(simp only[aj,bL (show 3<1000 by omega),if_false];exact hG0 3 (by decide))
  · rw[hids];first|(simp only[aj,if_true];done)|(simp only[aj,bL (show 4<1000 by omega),if_false];exact hG0 4 (by decide))
  · simp only[aj,bL (show 5<1000 by omega),if_false];exact hG0 5 (by decide)
  · intro j q hj
    have hjl:=am hj;rw[aX']at hjl;rw[ak']at hj
    by_cases e:j=2*x
    · subst e
      rw[F' rfl,F' (by omega)]at hj;cases hj;simp only[aj,if_true];simp[iz];rfl
    · rw[E' (λh=>e h.symm)]at hj
      simp only[E' e,aj,ph (show 3<1000 by omega),iz (show j<1000 by omega) (show 2000≤2240 by omega),qV,e,if_false];exact it hj (by omega)
  · intro a b ha hb he
    simp at ha hb;unfold Fr at he
    (repeat' split at he)<;>omega
  · intro a b ha hb he
    simp only[rdL,Y',al']at ha;unfold Fr at he
    (repeat' split at he)<;>omega
theorem rd_a2(t:Tpl)(hc:aC t=0)(l:Lnk)(i:Nat)(M:List (List Stp))(hM:M.length=2 * t.rs.length)(hr:∀r∈M,r.length≤100000){x:Nat}(hx:(t.rs.map (·.id))[x]?=some l.b)(k:Nat){Q:X→S3→Prop}
    (hQ:∀s,ao 0 k s (rdT t l i (apR M (2*x) ⟨l.a,l.cb⟩))→Q .normal s):AWP Tryz.prog 0 k CK Q (rdT t l i M):=by
  have hO:=ax hc;have hR:=hO.nr;have hxl:x<t.rs.length:=by have:=am hx;rwa [u']at this
  have hnd:(t.rs.map (·.id)).Nodup:=List.Pairwise.map _ (λa b h=>by omega) hO.asc;obtain⟨hk1,hk2⟩:=kM hnd hx;obtain⟨row,hrow⟩:∃row,M[2*x]?=some row:=⟨M[2*x]'(by omega),f' (by omega)⟩
  have hrl:=hr row (J' hrow);unfold rdT CK;generalize hids:t.rs.map (·.id)=ids at *
  have hG0:∀b,b<1000→GS M (hpL 0 (rdL t l ids (evN t.rs.length) (odN t.rs.length))) b=hpL 0 (rdL t l ids (evN t.rs.length) (odN t.rs.length)) b:=λb hb=>lY hb;have g2:GS M (hpL 0 (rdL t l ids (evN t.rs.length) (odN t.rs.length))) 2=some (.box (.agg [.mref 3,.mref 4])):=hG0 2 (by decide);have g3:GS M (hpL 0 (rdL t l ids (evN t.rs.length) (odN t.rs.length))) 3=some (.map none (kyN ids) (evN t.rs.length)):=hG0 3 (by decide);have g4:GS M (hpL 0 (rdL t l ids (evN t.rs.length) (odN t.rs.length))) 4=some (.map none (kyN ids) (odN t.rs.length)):=hG0 4 (by decide);have g5:GS M (hpL 0 (rdL t l ids (evN t.rs.length) (odN t.rs.length))) 5=some (.box (.agg [.int l.a,.int l.b,.int l.ca,.int l.cb,.int l.w])):=hG0 5 (by decide);have gF:GS M (hpL 0 (rdL t l ids (evN t.rs.length) (odN t.rs.length))) (Fr (2*x))=some (.vec 2 (row.map Stp.v)):=it hrow (by omega);have hmg:cR (kyN ids) (evN t.rs.length) (MK.n l.b) (.sl 0 [] true) false=.vec (Fr (2*x)):=by
    unfold cR;rw[F' hk1,hk2,ql hxl];rfl
  have hms:∀v,dO none (kyN ids) (evN t.rs.length) (MK.n l.b) v=  .map none (kyN ids) ((evN t.rs.length).set x v):=λv=>by
    unfold dO;rw[F' hk1,hk2]
  have hml:=aU;refine AWP.dreg' λK hK=>?_
  try simp only[ag,seval,g2,g3,g4,g5,bJ,bj,dI,AV.key,MK.fits,hmg,hms,gF,and_self,true_and]
  refine c7 ?_;have hap:∀xs f,aS (GS M (hpL 0 (rdL t l ids (evN t.rs.length) (odN t.rs.length)))) f 2 16 (.vec (Fr (2*x))) (some xs)={ c:=(row.length+xs.length) * 16≤2 ^ 47∧row.length+xs.length≤maxLen,v:=.vec f,rm:=some (Fr (2*x)),ad:=some (f,.vec 2 (row.map Stp.v++xs)) }:=λxs f=>by
    simp[aS,gF]
  try simp only[ag,seval,gF,g2,g3,g4,g5,hap,hms,bJ,AV.key,MK.fits,and_self,true_and,dj,bL (show 3<1000 by omega),if_false]
  refine⟨⟨by omega,by omega⟩,?_⟩
  refine⟨?_,hK _ _ _ (hQ _ ?_)⟩
  · have e2:∀n,n<1000→(Fr (2*x)==n)=false:=λn hn=>by simp[Fr];omega
    have e3:∀n,n<1000→(n==Fr (2*x))=false:=λn hn=>by simp[Fr];omega
    simp[eG,jg,bi,AOp.opers,aL,evO,aj,e2,e3];unfold Fr;omega
  have hap':apR M (2*x) ⟨l.a,l.cb⟩=M.set (2*x) (row++[⟨l.a,l.cb⟩]):=by unfold apR;rw[H',hrow];rfl
  rw[hap']
  refine ao.nfR c8 _ _ _ (λb=>b) (λj=>if j=2*x then 2240 else Fr j) ?_
    (rG ⟨rfl,rfl,rfl,rfl,rfl⟩ (by omega) ?_ ?_ ?_ ?_ ?_ ?_ (rdu1 (hx:=hxl)) (rdu2 (hx:=hxl))) (by simp[rdL]) (by simp;omega) ?_ (λi j _ _ h=>h) ?_ ?_ (λb _=>rfl) (by decide)
  · simp only[aM',aB',false_implies,implies_true,and_true]
    exact⟨⟨rfl,show 0<2000 by omega⟩,⟨rfl,show 1<2000 by omega⟩,⟨rfl,show 2<2000 by omega⟩,⟨rfl,show 5<2000 by omega⟩,⟨rfl,trivial⟩,⟨rfl,trivial⟩,rfl,trivial⟩
  · simp only[aj,bL (show 0<1000 by omega),if_false];exact hG0 0 (by decide)
  · simp only[aj,bL (show 1<1000 by omega),if_false];exact hG0 1 (by decide)
  · simp only[aj,bL (show 2<1000 by omega),if_false];exact hG0 2 (by decide)
  · rw[hids];first|(simp only[aj,if_true];done)|(simp only[aj,bL (show 3<1000 by omega),if_false];exact hG0 3 (by decide))
  · rw[hids];first|(simp only[aj,if_true];done)|(simp only[aj,bL (show 4<1000 by omega),if_false];exact hG0 4 (by decide))
  · simp only[aj,bL (show 5<1000 by omega),if_false];exact hG0 5 (by decide)
  · intro j q hj
    have hjl:=am hj;rw[aX']at hjl;rw[ak']at hj
    by_cases e:j=2*x
    · subst e
      rw[F' rfl,F' (by omega)]at hj;cases hj;simp only[aj,if_true];simp[iz];rfl
    · rw[E' (λh=>e h.symm)]at hj
      simp only[E' e,aj,ph (show 3<1000 by omega),iz (show j<1000 by omega) (show 2000≤2240 by omega),qV,e,if_false];exact it hj (by omega)
  · intro a b ha hb he
    simp at ha hb;unfold Fr at he
    (repeat' split at he)<;>omega
  · intro a b ha hb he
    simp only[rdL,Y',al']at ha;unfold Fr at he
    (repeat' split at he)<;>omega
theorem rd_a3(t:Tpl)(hc:aC t=0)(l:Lnk)(i:Nat)(M:List (List Stp))(hM:M.length=2 * t.rs.length)(hr:∀r∈M,r.length≤100000){x:Nat}(hx:(t.rs.map (·.id))[x]?=some l.b)(k:Nat){Q:X→S3→Prop}
    (hQ:∀s,ao 0 k s (rdT t l i (apR M (2*x+1) ⟨l.a,l.ca⟩))→Q .normal s):AWP Tryz.prog 0 k CJ Q (rdT t l i M):=by
  have hO:=ax hc;have hR:=hO.nr;have hxl:x<t.rs.length:=by have:=am hx;rwa [u']at this
  have hnd:(t.rs.map (·.id)).Nodup:=List.Pairwise.map _ (λa b h=>by omega) hO.asc;obtain⟨hk1,hk2⟩:=kM hnd hx;obtain⟨row,hrow⟩:∃row,M[2*x+1]?=some row:=⟨M[2*x+1]'(by omega),f' (by omega)⟩
  have hrl:=hr row (J' hrow);unfold rdT CJ;generalize hids:t.rs.map (·.id)=ids at *
  have hG0:∀b,b<1000→GS M (hpL 0 (rdL t l ids (evN t.rs.length) (odN t.rs.length))) b=hpL 0 (rdL t l ids (evN t.rs.length) (odN t.rs.length)) b:=λb hb=>lY hb;have g2:GS M (hpL 0 (rdL t l ids (evN t.rs.length) (odN t.rs.length))) 2=some (.box (.agg [.mref 3,.mref 4])):=hG0 2 (by decide);have g3:GS M (hpL 0 (rdL t l ids (evN t.rs.length) (odN t.rs.length))) 3=some (.map none (kyN ids) (evN t.rs.length)):=hG0 3 (by decide);have g4:GS M (hpL 0 (rdL t l ids (evN t.rs.length) (odN t.rs.length))) 4=some (.map none (kyN ids) (odN t.rs.length)):=hG0 4 (by decide);have g5:GS M (hpL 0 (rdL t l ids (evN t.rs.length) (odN t.rs.length))) 5=some (.box (.agg [.int l.a,.int l.b,.int l.ca,.int l.cb,.int l.w])):=hG0 5 (by decide);have gF:GS M (hpL 0 (rdL t l ids (evN t.rs.length) (odN t.rs.length))) (Fr (2*x+1))=some (.vec 2 (row.map Stp.v)):=it hrow (by omega);have hmg:cR (kyN ids) (odN t.rs.length) (MK.n l.b) (.sl 0 [] true) false=.vec (Fr (2*x+1)):=by
    unfold cR;rw[F' hk1,hk2,yu hxl];rfl
  have hms:∀v,dO none (kyN ids) (odN t.rs.length) (MK.n l.b) v=  .map none (kyN ids) ((odN t.rs.length).set x v):=λv=>by
    unfold dO;rw[F' hk1,hk2]
  have hml:=aU;refine AWP.dreg' λK hK=>?_
  try simp only[ag,seval,g2,g3,g4,g5,bJ,bj,dI,AV.key,MK.fits,hmg,hms,gF,and_self,true_and]
  refine c7 ?_;have hap:∀xs f,aS (GS M (hpL 0 (rdL t l ids (evN t.rs.length) (odN t.rs.length)))) f 2 16 (.vec (Fr (2*x+1))) (some xs)={ c:=(row.length+xs.length) * 16≤2 ^ 47∧row.length+xs.length≤maxLen,v:=.vec f,rm:=some (Fr (2*x+1)),ad:=some (f,.vec 2 (row.map Stp.v++xs)) }:=λxs f=>by
    simp[aS,gF]
  try simp only[ag,seval,gF,g2,g3,g4,g5,hap,hms,bJ,AV.key,MK.fits,and_self,true_and,dj,bL (show 4<1000 by omega),if_false]
  refine⟨⟨by omega,by omega⟩,?_⟩
  refine⟨?_,hK _ _ _ (hQ _ ?_)⟩
  · have e2:∀n,n<1000→(Fr (2*x+1)==n)=false:=λn hn=>by simp[Fr];omega
    have e3:∀n,n<1000→(n==Fr (2*x+1))=false:=λn hn=>by simp[Fr];omega
    simp[eG,jg,bi,AOp.opers,aL,evO,aj,e2,e3];unfold Fr;omega
  have hap':apR M (2*x+1) ⟨l.a,l.ca⟩=M.set (2*x+1) (row++[⟨l.a,l.ca⟩]):=by unfold apR;rw[H',hrow];rfl
  rw[hap']
  refine ao.nfR c8 _ _ _ (λb=>b) (λj=>if j=2*x+1 then 2240 else Fr j) ?_
    (rG ⟨rfl,rfl,rfl,rfl,rfl⟩ (by omega) ?_ ?_ ?_ ?_ ?_ ?_ (rdu3 (hx:=hxl)) (rdu4 (hx:=hxl))) (by simp[rdL]) (by simp;omega) ?_ (λi j _ _ h=>h) ?_ ?_ (λb _=>rfl) (by decide)
  · simp only[aM',aB',false_implies,implies_true,and_true]
    exact⟨⟨rfl,show 0<2000 by omega⟩,⟨rfl,show 1<2000 by omega⟩,⟨rfl,show 2<2000 by omega⟩,⟨rfl,show 5<2000 by omega⟩,⟨rfl,trivial⟩,⟨rfl,trivial⟩,rfl,trivial⟩
  · simp only[aj,bL (show 0<1000 by omega),if_false];exact hG0 0 (by decide)
  · simp only[aj,bL (show 1<1000 by omega),if_false];exact hG0 1 (by decide)
  · simp only[aj,bL (show 2<1000 by omega),if_false];exact hG0 2 (by decide)
  · rw[hids];first|(simp only[aj,if_true];done)|(simp only[aj,bL (show 3<1000 by omega),if_false];exact hG0 3 (by decide))
  · rw[hids];first|(simp only[aj,if_true];done)|(simp only[aj,bL (show 4<1000 by omega),if_false];exact hG0 4 (by decide))
  · simp only[aj,bL (show 5<1000 by omega),if_false];exact hG0 5 (by decide)
  · intro j q hj
    have hjl:=am hj;rw[aX']at hjl;rw[ak']at hj
    by_cases e:j=2*x+1
    · subst e
      rw[F' rfl,F' (by omega)]at hj;cases hj;simp only[aj,if_true];simp[iz];rfl
    · rw[E' (λh=>e h.symm)]at hj
      simp only[E' e,aj,ph (show 4<1000 by omega),iz (show j<1000 by omega) (show 2000≤2240 by omega),qV,e,if_false];exact it hj (by omega)
  · intro a b ha hb he
    simp at ha hb;unfold Fr at he
    (repeat' split at he)<;>omega
  · intro a b ha hb he
    simp only[rdL,Y',al']at ha;unfold Fr at he
    (repeat' split at he)<;>omega
theorem rd_a4(t:Tpl)(hc:aC t=0)(l:Lnk)(i:Nat)(M:List (List Stp))(hM:M.length=2 * t.rs.length)(hr:∀r∈M,r.length≤100000){x:Nat}(hx:(t.rs.map (·.id))[x]?=some l.a)(k:Nat){Q:X→S3→Prop}
    (hQ:∀s,ao 0 k s (rdT t l i (apR M (2*x+1) ⟨l.b,l.cb⟩))→Q .normal s):AWP Tryz.prog 0 k CI Q (rdT t l i M):=by
  have hO:=ax hc;have hR:=hO.nr;have hxl:x<t.rs.length:=by have:=am hx;rwa [u']at this
  have hnd:(t.rs.map (·.id)).Nodup:=List.Pairwise.map _ (λa b h=>by omega) hO.asc;obtain⟨hk1,hk2⟩:=kM hnd hx;obtain⟨row,hrow⟩:∃row,M[2*x+1]?=some row:=⟨M[2*x+1]'(by omega),f' (by omega)⟩
  have hrl:=hr row (J' hrow);unfold rdT CI;generalize hids:t.rs.map (·.id)=ids at *
  have hG0:∀b,b<1000→GS M (hpL 0 (rdL t l ids (evN t.rs.length) (odN t.rs.length))) b=hpL 0 (rdL t l ids (evN t.rs.length) (odN t.rs.length)) b:=λb hb=>lY hb;have g2:GS M (hpL 0 (rdL t l ids (evN t.rs.length) (odN t.rs.length))) 2=some (.box (.agg [.mref 3,.mref 4])):=hG0 2 (by decide);have g3:GS M (hpL 0 (rdL t l ids (evN t.rs.length) (odN t.rs.length))) 3=some (.map none (kyN ids) (evN t.rs.length)):=hG0 3 (by decide);have g4:GS M (hpL 0 (rdL t l ids (evN t.rs.length) (odN t.rs.length))) 4=some (.map none (kyN ids) (odN t.rs.length)):=hG0 4 (by decide);have g5:GS M (hpL 0 (rdL t l ids (evN t.rs.length) (odN t.rs.length))) 5=some (.box (.agg [.int l.a,.int l.b,.int l.ca,.int l.cb,.int l.w])):=hG0 5 (by decide);have gF:GS M (hpL 0 (rdL t l ids (evN t.rs.length) (odN t.rs.length))) (Fr (2*x+1))=some (.vec 2 (row.map Stp.v)):=it hrow (by omega);have hmg:cR (kyN ids) (odN t.rs.length) (MK.n l.a) (.sl 0 [] true) false=.vec (Fr (2*x+1)):=by
    unfold cR;rw[F' hk1,hk2,yu hxl];rfl
  have hms:∀v,dO none (kyN ids) (odN t.rs.length) (MK.n l.a) v=  .map none (kyN ids) ((odN t.rs.length).set x v):=λv=>by
    unfold dO;rw[F' hk1,hk2]
  have hml:=aU;refine AWP.dreg' λK hK=>?_
  try simp only[ag,seval,g2,g3,g4,g5,bJ,bj,dI,AV.key,MK.fits,hmg,hms,gF,and_self,true_and]
  refine c7 ?_;have hap:∀xs f,aS (GS M (hpL 0 (rdL t l ids (evN t.rs.length) (odN t.rs.length)))) f 2 16 (.vec (Fr (2*x+1))) (some xs)={ c:=(row.length+xs.length) * 16≤2 ^ 47∧row.length+xs.length≤maxLen,v:=.vec f,rm:=some (Fr (2*x+1)),ad:=some (f,.vec 2 (row.map Stp.v++xs)) }:=λxs f=>by
    simp[aS,gF]
  try simp only[ag,seval,gF,g2,g3,g4,g5,hap,hms,bJ,AV.key,MK.fits,and_self,true_and,dj,bL (show 4<1000 by omega),if_false]
  refine⟨⟨by omega,by omega⟩,?_⟩
  refine⟨?_,hK _ _ _ (hQ _ ?_)⟩
  · have e2:∀n,n<1000→(Fr (2*x+1)==n)=false:=λn hn=>by simp[Fr];omega
    have e3:∀n,n<1000→(n==Fr (2*x+1))=false:=λn hn=>by simp[Fr];omega
    simp[eG,jg,bi,AOp.opers,aL,evO,aj,e2,e3];unfold Fr;omega
  have hap':apR M (2*x+1) ⟨l.b,l.cb⟩=M.set (2*x+1) (row++[⟨l.b,l.cb⟩]):=by unfold apR;rw[H',hrow];rfl
  rw[hap']
  refine ao.nfR c8 _ _ _ (λb=>b) (λj=>if j=2*x+1 then 2240 else Fr j) ?_
    (rG ⟨rfl,rfl,rfl,rfl,rfl⟩ (by omega) ?_ ?_ ?_ ?_ ?_ ?_ (rdu3 (hx:=hxl)) (rdu4 (hx:=hxl))) (by simp[rdL]) (by simp;omega) ?_ (λi j _ _ h=>h) ?_ ?_ (λb _=>rfl) (by decide)
  · simp only[aM',aB',false_implies,implies_true,and_true]
    exact⟨⟨rfl,show 0<2000 by omega⟩,⟨rfl,show 1<2000 by omega⟩,⟨rfl,show 2<2000 by omega⟩,⟨rfl,show 5<2000 by omega⟩,⟨rfl,trivial⟩,⟨rfl,trivial⟩,rfl,trivial⟩
  · simp only[aj,bL (show 0<1000 by omega),if_false];exact hG0 0 (by decide)
  · simp only[aj,bL (show 1<1000 by omega),if_false];exact hG0 1 (by decide)
  · simp only[aj,bL (show 2<1000 by omega),if_false];exact hG0 2 (by decide)
  · rw[hids];first|(simp only[aj,if_true];done)|(simp only[aj,bL (show 3<1000 by omega),if_false];exact hG0 3 (by decide))
  · rw[hids];first|(simp only[aj,if_true];done)|(simp only[aj,bL (show 4<1000 by omega),if_false];exact hG0 4 (by decide))
  · simp only[aj,bL (show 5<1000 by omega),if_false];exact hG0 5 (by decide)
  · intro j q hj
    have hjl:=am hj;rw[aX']at hjl;rw[ak']at hj
    by_cases e:j=2*x+1
    · subst e
      rw[F' rfl,F' (by omega)]at hj;cases hj;simp only[aj,if_true];simp[iz];rfl
    · rw[E' (λh=>e h.symm)]at hj
      simp only[E' e,aj,ph (show 4<1000 by omega),iz (show j<1000 by omega) (show 2000≤2240 by omega),qV,e,if_false];exact it hj (by omega)
  · intro a b ha hb he
    simp at ha hb;unfold Fr at he
    (repeat' split at he)<;>omega
  · intro a b ha hb he
    simp only[rdL,Y',al']at ha;unfold Fr at he
    (repeat' split at he)<;>omega
end Go.Proofs.YtiobpjoadkfhdaaGreat
