/- Texts joined: Mx8 G0 G1 G2 TP0 LP P0 TC1 TC2 ML SH1 TC3 TC4 FM SH2 RD1 RD2. -/
import Derived.Test.YtdoacjojljgdcaaGreatProg
import Derived.Test.YtdoacjojljgdcaaGreatEE3
set_option linter.unusedVariables false
set_option linter.unusedSimpArgs false
set_option linter.unusedSectionVars false
namespace Go.Am
inductive Ax (P:Program) (Sf:Nat→Type) (T:Type):Type 1 where
  | say (φ:Prop→Prop) (a:Ax P Sf T)
  | nil
  | pass (a:Ax P Sf T)
  | br (g:Nat) (c:Bool) (x y:Ax P Sf T)
  | el (f:Nat) {α:Type} (v:α→AV) (l:List α) (Q:(α→Prop)→Prop) (k:α→Ax P Sf T)
  | elA (f:Nat) {α:Type} (v:α→List AV) (l:List α) (i n:Nat) (hv:∀x,(v x).length=n) (Q:(α→Prop)→Prop) (k:α→Ax P Sf T)
  | st (f:Nat) {α:Type} (v:α→AV) (l:List α) (g:α→α) (Q:(α→Prop)→Prop) (k:α→Ax P Sf T)
  | stI (f:Nat) {α:Type} (v:α→AV) (l:List α) (Q:(α→Prop)→Prop) (k:α→Ax P Sf T)
  | app (f:Nat) {α:Type} (v:α→AV) (l xs:List α) (a:Ax P Sf T)
  | appF (f:Nat) {α:Type} (v:α→AV) (l xs:List α) (a:Ax P Sf T)
  | sub (f:Nat) {α:Type} (v:α→AV) (l:List α) (fl:Bool) (a:Ax P Sf T)
  | rep (f:Nat) {α:Type} (v:α→AV) (x:α) (a:Ax P Sf T)
  | own (f:Nat) (a:Ax P Sf T)
  | mn (f:Nat) (q:MN) (a:Ax P Sf T)
  | req (f:Nat) (p:Prop) (k:p→Ax P Sf T)
  | callP (c:PC P) (a:Ax P Sf T)
  | callH (bs:List Nat) (c:HC P) (f:Nat) (a:Ax P Sf T)
  | callA (c:PC P) (h:aV c.args) (a:Ax P Sf T)
  | cmd (c:Cmd) (a:Ax P Sf T)
  | cmdL (c:Cmd) (a:Ax P Sf T)
  | wait (a:Ax P Sf T)
  | loop (j:Nat) (nf:Sf j→NF) (I:Sf j→Prop) (mu:Sf j→Nat) (s0:Sf j) (bs:List Nat) (body:Sf j→(Sf j→List Nat→Prop)→Ax P Sf T)
  | join (j:Nat) (nf:Sf j→NF) (I:Sf j→Prop) (a:(Sf j→List Nat→Prop)→Ax P Sf T) (body:Sf j→Ax P Sf T)
  | join2 (j:Nat) (nf:Sf j→NF) (I:Sf j→Prop) (a:(Sf j→List Nat→Prop)→Ax P Sf T) (body:Sf j→Ax P Sf T)
  | bk (j:Nat) (b:Sf j→List Nat→Prop) (t:Sf j) (bs:List Nat)
  | hand (k0:Nat) (cs:List Cmd) (m1:NF) (bs:List Nat) (s2:S3) (c:AC) (h:∀n,dU P k0 n c m1.st s2) (a:Ax P Sf T)
  | hand2 (k0:Nat) (s1 s2:S3) (c:AC) (h:∀n,dU P k0 n c s1 s2) (a:Ax P Sf T)
  | handQ (k0:Nat) (m1:NF) (bs:List Nat) (s2:S3) (c:AC) (p:Prop) (h:p→∀n,dU P k0 n c m1.st s2) (a:Ax P Sf T)
  | allB (c:Bool→Prop) (k:Bool→Ax P Sf T)
  | elX (f:Nat) {α:Type} (v:α→AV) (l:List α) (i:Nat) (k:α→Ax P Sf T)
  | elI (f:Nat) {α:Type} (v:α→AV) (l:List α) (i:Int) (k:α→Ax P Sf T)
  | elJ (f:Nat) {α:Type} (v:α→AV) (l:List α) (i:Int) (k:α→Ax P Sf T)
  | stX (f:Nat) {α:Type} (v:α→AV) (l:List α) (i:Nat) (g:α→α) (k:α→Ax P Sf T)
  | stJ (f:Nat) {α:Type} (v:α→AV) (l:List α) (i:Int) (g:α→α) (k:α→Ax P Sf T)
  | fz (b:Nat) {α:Type} (v:α→AV) (l:List α) (h:∀x,(v x).pureB=true) (a:Ax P Sf T)
  | apX (f:Nat) {α:Type} (v:α→AV) (l xs:List α) (n:Nat) (a:Ax P Sf T)
  | ap0 (f:Nat) {α:Type} (v:α→AV) (l xs:List α) (a:Ax P Sf T)
  | unr (n:Nat) (a:Ax P Sf T)
  | ret (r:T)
  | retH (r:T) (m:NF) (bs:List Nat)
section
variable {P : Program} {Sf : Nat → Type} {T : Type}
def Ax.an:Ax P Sf T→An P Sf T
 | .say _ a=>a.an
 | .nil=>.nil
 | .pass a=>.pass a.an
 | .br g _ x y=>.br g x.an y.an
 | .el f v l _ k=>.el f v l λx=>(k x).an
 | .elA f v l i n hv _ k=>.elA f v l i n hv λx=>(k x).an
 | .st f v l g _ k=>.st f v l g λx=>(k x).an
 | .stI f v l _ k=>.stI f v l λx=>(k x).an
 | .app f v l xs a=>.app f v l xs a.an
 | .appF f v l xs a=>.appF f v l xs a.an
 | .sub f v l fl a=>.sub f v l fl a.an
 | .rep f v x a=>.rep f v x a.an
 | .own f a=>.own f a.an
 | .mn f q a=>.mn f q a.an
 | .req f p k=>.req f p λh=>(k h).an
 | .callP c a=>.callP c a.an
 | .callH bs c _ a=>.callH bs c a.an
 | .callA c h a=>.callA c h a.an
 | .cmd c a=>.cmd c a.an
 | .cmdL c a=>.cmdL c a.an
 | .wait a=>.wait a.an
 | .loop j nf I mu s0 bs body=>.loop j nf I mu s0 bs λt=>(body t λ_ _=>True).an
 | .join j nf I a body=>.join j nf I (a λ_ _=>True).an λt=>(body t).an
 | .join2 j nf I a body=>.join2 j nf I (a λ_ _=>True).an λt=>(body t).an
 | .bk j _ t bs=>.back j t bs
 | .hand k0 cs m1 bs s2 c h a=>.hand k0 cs m1 bs s2 c h a.an
 | .hand2 k0 s1 s2 c h a=>.hand2 k0 s1 s2 c h a.an
 | .handQ k0 m1 bs s2 c p h a=>.handQ k0 m1 bs s2 c p h a.an
 | .allB _ k=>(k true).an
 | .elX f v l _ k=>.el f v l λx=>(k x).an
 | .elI f v l _ k=>.el f v l λx=>(k x).an
 | .elJ f v l _ k=>.el f v l λx=>(k x).an
 | .stX f v l _ g k=>.st f v l g λx=>(k x).an
 | .stJ f v l _ g k=>.st f v l g λx=>(k x).an
 | .fz b v l h a=>.cmdL (.frzE b (l.map v) (ah h l)) a.an
 | .apX f v l xs _ a=>.app f v l xs a.an
 | .ap0 f v l xs a=>.app f v l xs a.an
 | .unr n a=>.unr n a.an
 | .ret r=>.ret r
 | .retH r m bs=>.retH r m bs
def Ax.vc(e:T→AV)(b:T→List (Option Blk))(r0:T):Ax P Sf T→Prop
 | .say φ a=>φ (a.vc e b r0)
 | .nil=>True
 | .pass a=>a.vc e b r0
 | .br _ c x y=>Go.Am.br c (x.vc e b r0) (y.vc e b r0)
 | .el _ _ _ Q k=>Q λx=>(k x).vc e b r0
 | .elA _ _ _ _ _ _ Q k=>Q λx=>(k x).vc e b r0
 | .st _ _ _ _ Q k=>Q λx=>(k x).vc e b r0
 | .stI _ _ _ Q k=>Q λx=>(k x).vc e b r0
 | .app _ _ _ _ a=>a.vc e b r0
 | .appF _ _ _ _ a=>a.vc e b r0
 | .sub _ _ _ _ a=>a.vc e b r0
 | .rep _ _ _ a=>a.vc e b r0
 | .own _ a=>a.vc e b r0
 | .mn _ q a=>q.say (a.vc e b r0)
 | .req _ p k=>∃h:p,(k h).vc e b r0
 | .callP c a=>Cl c (a.vc e b r0)
 | .callH bs c f a=>Ch c bs f (a.vc e b r0)
 | .callA c _ a=>Cl c (a.vc e b r0)
 | .cmd _ a=>a.vc e b r0
 | .cmdL _ a=>a.vc e b r0
 | .wait a=>a.vc e b r0
 | .loop _ nf I mu s0 bs body=>Be nf bs I s0∧∀t,I t→(body t λx bs=>Bk nf bs I mu x t).vc e b r0
 | .join _ nf I a body=>(a λx bs=>Be nf bs I x).vc e b r0∧∀t,I t→(body t).vc e b r0
 | .join2 _ nf I a body=>(a λx bs=>Be nf bs I x).vc e b r0∧∀t,I t→(body t).vc e b r0
 | .bk _ b t bs=>b t bs
 | .hand _ _ m1 bs _ c _ a=>Nf m1 bs (Rf c (a.vc e b r0))
 | .hand2 _ s1 _ c _ a=>Rf s1 (Rf c (a.vc e b r0))
 | .handQ _ m1 bs _ c p _ a=>Nf m1 bs (Rf c (p∧a.vc e b r0))
 | .allB c k=>∀x,c x→(k x).vc e b r0
 | .elX _ v l i k=>Rf (l.map v) (ck (decide (i<l.length)) (∀x,l[i]?=some x→(k x).vc e b r0))
 | .elI _ v l i k=>Rf (l.map v) (ck (decide (0≤i)) (ck (decide (i<(l.length:Int))) (∀x,l[i.toNat]?=some x→(k x).vc e b r0)))
 | .elJ _ v l i k=>ck (cond (decide (0≤i)) (decide (i<((l.map v).length:Int))) false) (Rf (l.map v) (ck (decide (i.toNat<l.length)) (∀x,l[i.toNat]?=some x→(k x).vc e b r0)))
 | .stX _ v l i g k=>Rf (l.map v) (ck (decide (i<l.length)) (∀o,l[i]?=some o→Rf (v (g o)) ((k o).vc e b r0)))
 | .stJ _ v l i g k=>ck (cond (decide (0≤i)) (decide (i<((l.map v).length:Int))) false) (Rf (l.map v) (ck (decide (i.toNat<l.length)) (∀o,l[i.toNat]?=some o→Rf (v (g o)) ((k o).vc e b r0))))
 | .fz _ v l _ a=>Rf (l.map v) (a.vc e b r0)
 | .apX _ v l xs n a=>Rf (l.map v) (Rf (xs.map v) (ck (decide (n≤1048576)) (a.vc e b r0)))
 | .ap0 _ v l xs a=>Rf (l.map v) (Rf (xs.map v) (a.vc e b r0))
 | .unr _ a=>a.vc e b r0
 | .ret r=>Rp e r r0
 | .retH r m bs=>Qt m bs e b r r0
def Ax.vp(e:T→AV)(r0:T)(x:Ax P Sf T):Prop:=x.vc e (λ_=>[]) r0
end
def rR(r b:Nat):Nat×Sh×AV:=(r,.k,.ref b 0)
def rI(r:Nat)(x:Int):Nat×Sh×AV:=(r,.k,.int x)
def rB(r:Nat)(x:Bool):Nat×Sh×AV:=(r,.k,.bool x)
def rV(r b:Nat):Nat×Sh×AV:=(r,.k,.vec b)
def vB(k:Nat){α:Type}(v:α→AV)(l:List α)(h:∀x,(v x).pureB=true):PB:=.vec k (l.map v) (ah h l)
def pcO{P:Program}{Sf:Nat→Type}{T:Type}(f:FuncId)(shs:List Sh)(args:List AV)(sh:Sh)(e:T→AV)(r:T)(h:okL args→∃x:Ax P Sf T,x.vp e r∧mxP P f args sh e x.an r=x.vp e r)(hp:(e r).pureB=true)(hf:fnB P f=true):PC P:=
 ⟨f,shs,args,e r,cm.of_ok λok=>(h ok).elim λ_ h=>Qb h.1 h.2 (AV.pureB_ok hp),mB hf⟩
def hcO{P:Program}{Sf:Nat→Type}{T:Type}(f:FuncId)(shs:List Sh)(args:List AV)(hs:List Blk)(sh:Sh)(e:T→AV)(b:T→List (Option Blk))(r:T)(h:okL args→(∀x∈hs,x.ok)→∃x:Ax P Sf T,x.vc e b r∧mxH P f args hs sh e b x.an r=x.vc e b r)(hf:fnB P f=true)(hg:hcB args hs (e r) (b r)=true):HC P:=
 ⟨f,shs,args,hs,e r,b r,aZ.of_okh λok ok2=>(h ok ok2).elim λ_ h=>El h.1 h.2,mB hf,vd.of hg⟩
@[reducible] def noS:Nat→Type:=λ_=>Unit
end Go.Am
namespace Go.Proofs.YtdoacjojljgdcaaGreat
open Go Go.Am
structure Tap where
  L:List Int
  p:Nat
structure sK where
  L:List Int
  p:Int
def Tap.v(x:Tap):AV:=.agg [.sl 1 (x.L.map AV.int) false,.int x.p]
def sK.v(x:sK):AV:=.agg [.sl 1 (x.L.map AV.int) false,.int x.p]
@[simp] theorem vV (l:List Int):bS (l.map AV.int)=true:=ah (λ_=>rfl) l
def Mod(x n:Int):Int:=if n<1 then 0 else if x.tmod n<0 then x.tmod n+n else x.tmod n
theorem bw{x n:Int}(h:1≤n):0≤Mod x n∧Mod x n<n:=by
 have hb:=cg' x (show 0<n by omega);have hb':=Int.lt_tmod_of_pos x (show 0<n by omega)
 unfold Mod;split
 ·omega
 split<;>omega
def ab(L:List Int)(p:Nat):Nat:=if L.length≤p then p else p+1
def am(L:List Int)(p:Nat):Int:=L.getD p 0
def rng(L:List Int)(p:Nat)(lo hi:Int):Int:=W (lo+Mod (am L p) (W (W (hi-lo)+1)))
def aK(l:List Int)(r:Int):Int:=l.getD (Mod r l.length).toNat 0
theorem FD{l:List Int}{i:Nat}(h:i<l.length):l.getD i 0=l[i]:=by
 simp[I',u' h]
def orI(l:List Int):Int:=(l.find? (· != 0)).getD 0
def cmpI(x y:Int):Int:=if x<y then -1 else if y<x then 1 else 0
def oF(x:Int):Bool:=false
theorem bf{k n:Nat}(h:k<n)(hn:n≤9223372036854775807):W ((k:Int)+1)=((k+1:Nat):Int):=by rw[ce (by omega)];omega
theorem kI{k:Nat}(h:k≤9223372036854775807)(h1:1≤k):W ((k:Int)-1)=((k-1:Nat):Int):=by rw[ce (by omega)];omega
def z7(r:Bool):AV:=.bool r
def rK(x:Int):Ax Tryz.prog noS (Bool):=
 (.ret (x != x))
theorem Le(x:Int):(rK x).vp z7 (oF x):=by
 dsimp only[rK,noS,Ax.vp,Ax.vc];simp only[vcU,rfU,B'];simp[oF]
def z8(x:Int):PC Tryz.prog:=pcO 172 [.k] [.int x] .k z7 (oF x) (λ_=>⟨(rK x),Le x,by kernel_rfl⟩) rfl (by kernel_rfl)
def He(r:Int):AV:=.int r
def xK(x:Int)(y:Int):Ax Tryz.prog noS (Int):=
 (.callP (z8 x)
(.callP (z8 y)
(.br 128 (oF x) (.br 144 (oF y) (.ret (0))
(.ret (-1)))
(.br 144 (oF y) (.ret (1))
(.br 192 (decide (x<y)) (.ret (-1))
(.br 240 (decide (y<x)) (.ret (1))
(.ret (0))))))))
theorem R6(x y:Int):(xK x y).vp He (cmpI x y):=by
 dsimp only[xK,noS,Ax.vp,Ax.vc];simp only[vcU,rfU,B'];simp only[oF,aQ',false_implies,true_implies,true_and,cmpI];refine⟨λh=>by rw[G' h],λh=>⟨λh2=>by rw[F' h,G' h2],λh2=>by rw[F' h,F' h2]⟩⟩
def xL(x:Int)(y:Int):PC Tryz.prog:=pcO 151 [.k,.k] [.int x,.int y] .k He (cmpI x y) (λ_=>⟨(xK x y),R6 x y,by kernel_rfl⟩) rfl (by kernel_rfl)
theorem Bx{l:List Int}{k:Nat}{x:Int}(h:l.take k |>.all (·==0))(hx:l[k]?=some x)(hn:x≠0):l.find? (· != 0)=some x:=by
 rw[cq'];refine⟨by simpa using hn,k,ao hx,by rw[u' (ao hx)]at hx;exact af' hx,λj hj=>?_⟩;have:=aN'.mp h (l[j]'(by have:=ao hx;omega)) (aD'.mpr ⟨j,by have:=ao hx;omega,rfl⟩);simpa using this
def uL(r:List Int):AV:=.sl 1 (r.map AV.int) false
def pv(s:List Int):Ax Tryz.prog noS ((List Int)):=
 (.allB (λb1=>((s.map AV.int)≠[]→b1=false)) λb1 =>
(.br 48 (b1 != false) (.ret ([]))
(.apX 80 AV.int [] s (0+s.length)
(.fz 80 AV.int s (λ_=>rfl) (.ret (s))))))
theorem Hg(s:List Int)(h:s.length≤1000000):(pv s).vp uL s:=by
 dsimp only[pv,noS,Ax.vp,Ax.vc];simp only[vcU,rfU,B'];intro b hb;simp only[vV,true_and,and_true,aF'];refine⟨λh1=>?_,λ_=>by omega⟩;cases s with
 | nil=>rfl
 | cons x s=>simp at hb;simp[hb]at h1
def Hh(s:List Int)(h:s.length≤1000000):PC Tryz.prog:=pcO 108 [(.s 1)] [.sl 1 (s.map AV.int) false] (.s 1) uL s (λ_=>⟨(pv s),Hg s h,by kernel_rfl⟩) rfl (by kernel_rfl)
def bF{α:Type}(es:List α)(i:Nat)(x:α):List α:=es.take i++[x]++es.drop i
theorem AX{l:List Int}(h:l≠[])(r:Int):aK l r∈l:=by
 have hl:0<l.length:=cM'.mpr h;have:=bw (x:=r) (show 1≤(l.length:Int) by omega);have hi:(Mod r l.length).toNat<l.length:=by omega
 rw[aK,FD hi];exact aA' hi
theorem vM{L:List Int}{p:Nat}{lo hi:Int}(h:-1000000000≤lo∧lo≤hi∧hi≤1000000000):lo≤rng L p lo hi∧rng L p lo hi≤hi:=by
 unfold rng;have e1:W (hi-lo)=hi-lo:=ce (by omega);have e2:W (hi-lo+1)=hi-lo+1:=ce (by omega);rw[e1,e2];have:=bw (x:=am L p) (show 1≤hi-lo+1 by omega);rw[ce (by omega)];omega
def putP(l:List Int)(x:Int):Nat:=l.findIdx (λy=>!decide (y<x))
def put(l:List Int)(x:Int):List Int:=if l[putP l x]?=some x then l else bF l (putP l x) x
structure Rtr where
  id:Int
  cap:Bool
  deriving DecidableEq
structure Lnk where
  a:Int
  b:Int
  ca:Int
  cb:Int
  w:Int
  deriving DecidableEq
structure Tpl where
  rs:List Rtr
  ls:List Lnk
  deriving DecidableEq
theorem Bm{α:Type}{l:List α}{k:Nat}{x:α}:((l.take k).drop 0)++([x]++((l.take ((l.length:Int).toNat)).drop k))=bF l k x:=by
 rw[Int.toNat_natCast,List.take_length,cd',bF,aT']
def Rtr.v(x:Rtr):AV:=.agg [.int x.id,.bool x.cap]
def Lnk.v(x:Lnk):AV:=.agg [.int x.a,.int x.b,.int x.ca,.int x.cb,.int x.w]
def Tpl.v(x:Tpl):AV:=.agg [.sl 2 (x.rs.map Rtr.v) false,.sl 5 (x.ls.map Lnk.v) false]
def G(rows:List (List Bool))(h:Hp):Hp:=λb=>if 1000≤b∧b<2000 then(rows[b-1000]?).map (λr=>Blk.vec 1 (r.map AV.bool))else h b
def F(i:Nat):Nat:=1000+i
def names(n:Nat):List AV:=(List.range n).map λi=>.vec (F i)
def mset(M:List (List Bool))(x y:Nat):List (List Bool):=M.set x ((M.getD x []).set y true)
def Sq(n:Nat)(M:List (List Bool)):Prop:=M.length=n∧∀r∈M,r.length=n
theorem Sq.get{n:Nat}{M:List (List Bool)}(h:Sq n M){x:Nat}(hx:x<n):∃r,M[x]?=some r∧r.length=n∧M.getD x []=r:=by
 have hx:x<M.length:=by rw[h.1];exact hx
 exact⟨M[x],u' hx,h.2 _ (aA' hx),by simp[List.getD,u' hx]⟩
theorem Sq.set{n:Nat}{M:List (List Bool)}(h:Sq n M)(x y:Nat):Sq n (mset M x y):=by
 refine⟨by simp[mset,h.1],λr hr=>?_⟩
 by_cases hx:x<n
 ·obtain⟨r0,g1,g2,g3⟩:=h.get hx
  rcases aC' hr with hr|rfl
  ·exact h.2 r hr
  ·rw[g3];simpa using g2
 ·have:mset M x y=M:=List.set_eq_of_length_le (by rw[h.1];omega);rw[this]at hr;exact h.2 r hr
section
variable {α : Type} {l : List α} {P : α → Prop} {R : α → α → Prop} {t : Int} {x y : α}
theorem eu{i n:Int}(h1:0≤i)(h2:i<n):(bif decide (0≤i)then decide (i<n)else false)=true:=by
 rw[decide_eq_true h1,decide_eq_true h2];rfl
def ba(l:List α)(P:α→Prop)(t:Int):Prop:=∃k:Nat,t=k∧k≤l.length∧∀x∈l.take k,P x
theorem ba.zero:ba l P 0:=⟨0,rfl,by omega,by simp⟩
theorem ba.idx(h:ba l P t):0≤t:=by obtain⟨k,rfl,_,_⟩:=h;omega
theorem ba.step(h:ba l P t)(hl:l.length≤9223372036854775807)(hx:l[t.toNat]?=some x)(p:P x):ba l P (W (t+1))∧l.length-(W (t+1)).toNat<l.length-t.toNat:=by
 obtain⟨k,rfl,hk,ha⟩:=h;rw[Int.toNat_natCast]at hx;have:=ao hx;rw[bf (n:=l.length) this hl];refine⟨⟨k+1,rfl,by omega,λz hz=>?_⟩,by omega⟩;rw[aP hx]at hz
 rcases X'.mp hz with hz|hz
 ·exact ha z hz
 ·rw[L']at hz;exact hz ▸ p
theorem ba.done(h:ba l P t)(c:¬t<l.length):∀x∈l,P x:=by
 obtain⟨k,rfl,hk,ha⟩:=h;rw[ai' (by omega)]at ha;exact ha
theorem cd(hx:l[t.toNat]?=some x):x∈l:=bt hx
def gQ(l:List α)(R:α→α→Prop)(t:Int):Prop:=∃k:Nat,t=k∧1≤k∧k≤l.length+1∧∀j x y,j+1<k→l[j]?=some x→l[j+1]?=some y→R x y
theorem gQ.one:gQ l R 1:=⟨1,rfl,by omega,by omega,λj x y h=>by omega⟩
theorem gQ.idx(h:gQ l R t)(hl:l.length≤9223372036854775807)(c:t<l.length):(0≤W (t-1)∧W (t-1)<l.length)∧0≤t:=by
 obtain⟨k,rfl,h1,hk,ha⟩:=h;rw[kI (by omega) h1];omega
theorem gQ.step(h:gQ l R t)(hl:l.length≤9223372036854775807)(hx:l[(W (t-1)).toNat]?=some x)(hy:l[t.toNat]?=some y)(p:R x y):gQ l R (W (t+1))∧l.length+1-(W (t+1)).toNat<l.length+1-t.toNat:=by
 obtain⟨k,rfl,h1,hk,ha⟩:=h;rw[Int.toNat_natCast]at hy;have hlt:=ao hy;rw[kI (by omega) h1,Int.toNat_natCast]at hx;rw[bf (n:=l.length) hlt (by omega)];refine⟨⟨k+1,rfl,by omega,by omega,λj x' y' hj hx' hy'=>?_⟩,by omega⟩
 by_cases e:j+1=k
 ·subst e;rw[show j+1-1=j by omega,hx']at hx;cases hx;rw[hy']at hy;cases hy;exact p
 ·exact ha j x' y' (by omega) hx' hy'
theorem gQ.bad(h:gQ l R t)(hl:l.length≤9223372036854775807)(hx:l[(W (t-1)).toNat]?=some x)(hy:l[t.toNat]?=some y){S:α→α→Prop}(p:¬S x y):¬l.Pairwise S:=by
 obtain⟨k,rfl,h1,hk,ha⟩:=h;rw[Int.toNat_natCast]at hy;have hlt:=ao hy;rw[kI (by omega) h1,Int.toNat_natCast]at hx;intro hp;rw[ax']at hp;have:=hp (k-1) k (by omega) hlt (by omega);rw[u' (by omega)]at hx hy;rw[af' hx,af' hy]at this;exact p this
theorem gQ.done(h:gQ l R t)(c:¬t<l.length)(tr:∀x y z,R x y→R y z→R x z):l.Pairwise R:=by
 obtain⟨k,rfl,h1,hk,ha⟩:=h;rw[ax'];have key:∀d i,(hi:i+d+1<l.length)→R (l[i]'(by omega)) l[i+d+1]:=by
  intro d
  induction d with
  | zero=>intro i hi;exact ha i _ _ (by omega) (u' (by omega)) (u' hi)
  | succ d ih =>
   intro i hi;exact tr _ _ _ (ih i (by omega)) (ha (i+d+1) _ _ (by omega) (u' (by omega)) (u' hi))
 intro i j hi hj hij;have:=key (j-i-1) i (by omega);simp only[show i+(j-i-1)+1=j by omega]at this;exact this
def iM{σ:Type}(l:List α)(g:σ→α→σ)(s0:σ)(t:Int)(s:σ):Prop:=∃k:Nat,t=k∧k≤l.length∧s=(l.take k).foldl g s0
section
variable {σ : Type} {g : σ → α → σ} {s0 s : σ}
theorem iM.zero:iM l g s0 0 s0:=⟨0,rfl,by omega,rfl⟩
theorem iM.idx(h:iM l g s0 t s):0≤t:=by obtain⟨k,rfl,_,_⟩:=h;omega
theorem iM.step(h:iM l g s0 t s)(hl:l.length≤9223372036854775807)(hx:l[t.toNat]?=some x){s':σ}(p:s'=g s x):iM l g s0 (W (t+1)) s'∧l.length-(W (t+1)).toNat<l.length-t.toNat:=by
 obtain⟨k,rfl,hk,rfl⟩:=h;rw[Int.toNat_natCast]at hx;have:=ao hx;rw[bf (n:=l.length) this hl];exact⟨⟨k+1,rfl,by omega,by rw[aP hx,aZ',p];rfl⟩,by omega⟩
theorem iM.len(h:iM l g s0 t s){f:σ→Nat}{a b:Nat}(h0:f s0≤a)(hs:∀s x,x∈l→f (g s x)≤f s+b):f s≤a+b * t.toNat:=by
 obtain⟨k,rfl,hk,rfl⟩:=h;rw[Int.toNat_natCast]
 induction k with
 | zero=>simpa using h0
 | succ k ih =>
  rw[aP (u' (show k<l.length by omega)),aZ',at',List.foldl_nil,Nat.mul_succ];have:=hs ((l.take k).foldl g s0) l[k] (aA' _);have:=ih (by omega);omega
theorem iM.done(h:iM l g s0 t s)(c:¬t<l.length):s=l.foldl g s0:=by
 obtain⟨k,rfl,hk,rfl⟩:=h;rw[ai' (by omega)]
end
def eO{β:Type}(l:List α)(f:α→List β)(t:Int)(out:List β):Prop:=∃k:Nat,t=k∧k≤l.length∧out=(l.take k).flatMap f
section
variable {β : Type} {f : α → List β} {out : List β}
theorem eO.zero:eO l f 0 []:=⟨0,rfl,by omega,rfl⟩
theorem eO.idx(h:eO l f t out):0≤t:=by obtain⟨k,rfl,_,_⟩:=h;omega
theorem eO.step(h:eO l f t out)(hl:l.length≤9223372036854775807)(hx:l[t.toNat]?=some x){out':List β}(p:out'=out++f x):eO l f (W (t+1)) out'∧l.length-(W (t+1)).toNat<l.length-t.toNat:=by
 obtain⟨k,rfl,hk,rfl⟩:=h;rw[Int.toNat_natCast]at hx;have:=ao hx;rw[bf (n:=l.length) this hl];exact⟨⟨k+1,rfl,by omega,by rw[aP hx,bF',p];simp⟩,by omega⟩
theorem eO.done(h:eO l f t out)(c:¬t<l.length):out=l.flatMap f:=by
 obtain⟨k,rfl,hk,rfl⟩:=h;rw[ai' (by omega)]
theorem eO.len(h:eO l f t out){b:Nat}(hb:∀x∈l,(f x).length≤b):out.length≤l.length * b:=by
 obtain⟨k,rfl,hk,rfl⟩:=h;have key:∀m:List α,(∀x∈m,(f x).length≤b)→(m.flatMap f).length≤m.length * b:=by
  intro m
  induction m with
  | nil=>intro _;simp
  | cons x m ih =>
   intro hm;have h1:=hm x (by simp);have h2:=ih λy hy=>hm y (by simp[hy]);rw[au',List.length_append,ab',Nat.succ_mul];omega
 refine aI' (key _ λx hx=>hb x (ah' hx)) (aq' _ ?_);rw[ar'];omega
end
theorem ui{β:Type}{f:α→β}{l:List α}:(l.flatMap λx=>[f x])=l.map f:=by
 induction l with
 | nil=>rfl
 | cons x l ih=>rw[au',ih];rfl
theorem xm{p:α→Bool}{l:List α}:(l.flatMap λx=>if p x=true then [x]else [])=l.filter p:=by
 induction l with
 | nil=>rfl
 | cons x l ih =>
  rw[au',ih,aO'];split<;>rfl
def fU(p:α→Bool)(l:List α):Int:=if l.any p=true then((l.findIdx p:Nat):Int)else -1
theorem ba.found{p:α→Bool}(h:ba l (λy=>p y=false) t)(hx:l[t.toNat]?=some x)(hp:p x=true):t=fU p l:=by
 obtain⟨k,rfl,hk,ha⟩:=h;rw[Int.toNat_natCast]at hx;rw[fU,G' (ac'.mpr ⟨x,bt hx,hp⟩)];have:l.findIdx p=k:=by
  have hlt:=ao hx;rw[u' hlt]at hx;have hx:=af' hx;rw[List.findIdx_eq hlt];refine⟨by rw[hx];exact hp,λj hj=>?_⟩;exact ha _ (aD'.mpr ⟨j,by omega,rfl⟩)
 rw[this]
theorem ba.lost{p:α→Bool}(h:ba l (λy=>p y=false) t)(c:¬t<l.length):-1=fU p l:=by
 rw[fU,F'];rw[ac'];rintro⟨x,hx,hp⟩;rw[h.done c x hx]at hp;cases hp
theorem l6(p:α→Bool)(l:List α):decide (0≤fU p l)=l.any p:=by
 unfold fU
 cases l.any p
 ·rfl
 ·rw[G' rfl];exact decide_eq_true (by omega)
end
theorem rngL{a n:Nat}(h:a<n):(bif decide (0≤(a:Int))then decide ((a:Int)<(n:Int))else false)=true:=by
 rw[decide_eq_true (show 0≤(a:Int) by omega),decide_eq_true (show(a:Int)<(n:Int) by omega)];rfl
theorem lB{α:Type}{l:List α}{t:Int}{x:α}{p:α→Bool}(h:ba l (λy=>p y=false) t)(hx:l[t.toNat]?=some x)(hp:p x=true):l.find? p=some x:=by
 obtain⟨k,rfl,hk,ha⟩:=h;rw[Int.toNat_natCast]at hx;rw[cq'];have hlt:=ao hx;refine⟨hp,k,hlt,by rw[u' hlt]at hx;exact af' hx,λj hj=>?_⟩;rw[ha _ (aD'.mpr ⟨j,by omega,rfl⟩)];rfl
theorem nF{α:Type}{l:List α}{t:Int}{p:α→Bool}(h:ba l (λy=>p y=false) t)(c:¬t<l.length):l.find? p=none:=by
 rw[cr'];exact λx hx=>by rw[h.done c x hx];simp
def ei(n:Int):Bool:=decide (1≤n) && decide (n≤1000)
def GP(r:Bool):AV:=.bool r
def xB(n:Int):Ax Tryz.prog noS (Bool):=
 (.br 64 (decide (1≤n)) (.ret (decide (n≤1000)))
(.ret (false)))
theorem Rz(n:Int):(xB n).vp GP (ei n):=by
 dsimp only[xB,noS,Ax.vp,Ax.vc];simp only[vcU,rfU,B'];refine⟨λc=>?_,λc=>?_⟩<;>simp[ei,c]
def mG(n:Int):PC Tryz.prog:=pcO 80 [.k] [.int n] .k GP (ei n) (λ_=>⟨(xB n),Rz n,by kernel_rfl⟩) rfl (by kernel_rfl)
def az(t:Tpl)(r:Int):Bool:=t.rs.any λx=>x.id==r
def F9(t:Tpl)(r:Int):=okL [Tpl.v t,.int r]
def Lq(t:Tpl)(r:Int)(t0:Int):NF:=⟨[rI 1 r,rR 2 0,rI 5 t0],[.box (Tpl.v t)]⟩
@[reducible] def F7:Nat→Type
 | 0=>Int
 | _=>Unit
def F8(r:Bool):AV:=.bool r
def F6(t:Tpl)(r:Int)(I0:Int→Prop)(m0:Int→Nat):Ax Tryz.prog F7 (Bool):=
 (.loop 0 (Lq t r) I0 m0 ((0):Int) [0] λ(t0:Int) b0 =>
(.br 81 (decide (t0<((t.rs.map Rtr.v).length:Int))) (.elI 129 Rtr.v t.rs t0 λx1 =>
(.br 209 (x1.id==r) (.ret (true))
(.bk 0 b0 ((W (t0+1)):Int) [0])))
(.ret (false))))
theorem QB(t:Tpl)(r:Int)(ok:F9 t r):∃I m,(F6 t r I m).vp F8 (az t r):=by
 refine⟨λi=>ba t.rs (λx=>(x.id==r)=false) i,λi=>t.rs.length-i.toNat,?_⟩;simp only[F9,Tpl.v,okU,Blk.ok,aJ,B']at ok;dsimp only[F6,F7,Ax.vp,Ax.vc];simp only[vcU,rfU,B']
 refine⟨ba.zero,λi h=>⟨λc=>⟨h.idx,c,λx hx=>⟨λq=>?_,λq=>h.step (by omega) hx q⟩⟩,λc=>?_⟩⟩
 ·exact(ac'.mpr ⟨x,cd hx,q⟩).symm
 ·exact(aP'.mpr λx hx=>by rw[h.done c x hx];simp).symm
def oN(t:Tpl)(r:Int):PC Tryz.prog:=pcO 79 [(.a [(.s 2),(.s 5)]),.k] [Tpl.v t,.int r] .k F8 (az t r) (λok=>let ⟨I0,m0,h⟩:=QB t r ok;⟨_,h,by kernel_rfl⟩) rfl (by kernel_rfl)
def gt(l:Lnk):Prop:=ei l.ca=true∧ei l.cb=true∧0≤l.w∧l.w≤1000
instance (l:Lnk):Decidable (gt l):=by unfold gt;infer_instance
def aM(x y:Lnk):Prop:=x.a<y.a∨x.a=y.a∧x.b<y.b
instance (x y:Lnk):Decidable (aM x y):=by unfold aM;infer_instance
def ay(t:Tpl):Int:=
 if 24<t.rs.length∨60<t.ls.length then 3
 else if ¬∀x∈t.rs,1≤x.id∧x.id≤99 then 2
 else if ¬t.rs.Pairwise (λx y=>x.id<y.id)then 25
 else if ¬∀l∈t.ls,gt l then 2
 else if ¬∀l∈t.ls,az t l.a=true∧az t l.b=true then 4
 else if ¬∀l∈t.ls,l.a<l.b then 8
 else if ¬t.ls.Pairwise aM then 25 else 0
def H6(t:Tpl):=okL [Tpl.v t]
def M7(t:Tpl)(t0:Bool):NF:=⟨[rR 1 0,rB 21 t0],[.box (Tpl.v t)]⟩
def M6(t:Tpl)(t1:Int):NF:=⟨[rR 1 0,rI 3 t1],[.box (Tpl.v t)]⟩
def M5(t:Tpl)(t1:Int)(t2:Bool):NF:=⟨[rR 1 0,rI 3 t1,rB 44 t2],[.box (Tpl.v t)]⟩
def M4(t:Tpl)(t3:Int):NF:=⟨[rR 1 0,rI 4 t3],[.box (Tpl.v t)]⟩
def M3(t:Tpl)(t4:Int):NF:=⟨[rR 1 0,rI 5 t4],[.box (Tpl.v t)]⟩
def M2(t:Tpl)(t4:Int)(t5:Bool):NF:=⟨[rR 1 0,rI 5 t4,rB 97 t5],[.box (Tpl.v t)]⟩
def M1(t:Tpl)(t6:Int):NF:=⟨[rR 1 0,rI 7 t6],[.box (Tpl.v t)]⟩
def M0(t:Tpl)(t6:Int)(t7:Bool):NF:=⟨[rR 1 0,rI 7 t6,rB 124 t7],[.box (Tpl.v t)]⟩
def Mz(t:Tpl)(t8:Int):NF:=⟨[rR 1 0,rI 8 t8],[.box (Tpl.v t)]⟩
def My(t:Tpl)(t9:Int):NF:=⟨[rR 1 0,rI 9 t9],[.box (Tpl.v t)]⟩
def Hz(t:Tpl)(t9:Int)(t10:Bool):NF:=⟨[rR 1 0,rI 9 t9,rB 181 t10],[.box (Tpl.v t)]⟩
@[reducible] def Hy:Nat→Type
 | 0=>Bool
 | 1=>Int
 | 2=>Bool
 | 3=>Int
 | 4=>Int
 | 5=>Bool
 | 6=>Int
 | 7=>Bool
 | 8=>Int
 | 9=>Int
 | 10=>Bool
 | _=>Unit
def H4(r:Int):AV:=.int r
def Hx(t:Tpl)(I0:Bool→Prop)(I1:Bool→Int→Prop)(m1:Bool→Int→Nat)(I2:Bool→Int→Bool→Prop)(I3:Bool→Int→Int→Prop)(m3:Bool→Int→Int→Nat)(I4:Bool→Int→Int→Int→Prop)(m4:Bool→Int→Int→Int→Nat)(I5:Bool→Int→Int→Int→Lnk→Bool→Prop)(I6:Bool→Int→Int→Int→Int→Prop)(m6:Bool→Int→Int→Int→Int→Nat)(I7:Bool→Int→Int→Int→Int→Bool→Prop)(I8:Bool→Int→Int→Int→Int→Int→Prop)(m8:Bool→Int→Int→Int→Int→Int→Nat)(I9:Bool→Int→Int→Int→Int→Int→Int→Prop)(m9:Bool→Int→Int→Int→Int→Int→Int→Nat)(I10:Bool→Int→Int→Int→Int→Int→Int→Lnk→Lnk→Bool→Prop):Ax Tryz.prog Hy (Int):=
 (.pass (.pass (.join 0 (M7 t) (λ(t0:Bool)=>I0 t0) (λb0=>(.br 112 (decide (24<((t.rs.map Rtr.v).length:Int))) (.bk 0 b0 ((true):Bool) [0])
(.bk 0 b0 ((decide (60<((t.ls.map Lnk.v).length:Int))):Bool) [0]))) λ(t0:Bool) =>
(.br 1 t0 (.ret (3))
(.loop 1 (M6 t) (I1 t0) (m1 t0) ((0):Int) [0] λ(t1:Int) b1 =>
(.br 81 (decide (t1<((t.rs.map Rtr.v).length:Int))) (.pass (.join 2 (M5 t t1) (λ(t2:Bool)=>I2 t0 t1 t2) (λb2=>(.elI 129 Rtr.v t.rs t1 λx1 =>
(.br 209 (decide (x1.id<1)) (.bk 2 b2 ((true):Bool) [0])
(.elI 257 Rtr.v t.rs t1 λx2 =>
(.bk 2 b2 ((decide (99<x2.id)):Bool) [0]))))) λ(t2:Bool) =>
(.br 1 t2 (.ret (2))
(.bk 1 b1 ((W (t1+1)):Int) [0]))))
(.loop 3 (M4 t) (I3 t0 t1) (m3 t0 t1) ((1):Int) [0] λ(t3:Int) b3 =>
(.br 81 (decide (t3<((t.rs.map Rtr.v).length:Int))) (.elI 145 Rtr.v t.rs (W (t3-1)) λx3 =>
(.elI 241 Rtr.v t.rs t3 λx4 =>
(.br 305 (decide (x4.id≤x3.id)) (.ret (25))
(.bk 3 b3 ((W (t3+1)):Int) [0]))))
(.loop 4 (M3 t) (I4 t0 t1 t3) (m4 t0 t1 t3) ((0):Int) [0] λ(t4:Int) b4 =>
(.br 81 (decide (t4<((t.ls.map Lnk.v).length:Int))) (.elI 129 Lnk.v t.ls t4 λx5 =>
(.join 5 (M2 t t4) (λ(t5:Bool)=>I5 t0 t1 t3 t4 x5 t5) (λb5=>(.callP (mG x5.ca)
(.br 273 (!(ei x5.ca)) (.bk 5 b5 ((true):Bool) [0])
(.callP (mG x5.cb)
(.br 369 (!(ei x5.cb)) (.bk 5 b5 ((true):Bool) [0])
(.br 449 (decide (x5.w<0)) (.bk 5 b5 ((true):Bool) [0])
(.bk 5 b5 ((decide (1000<x5.w)):Bool) [0]))))))) λ(t5:Bool) =>
(.br 1 t5 (.ret (2))
(.bk 4 b4 ((W (t4+1)):Int) [0]))))
(.loop 6 (M1 t) (I6 t0 t1 t3 t4) (m6 t0 t1 t3 t4) ((0):Int) [0] λ(t6:Int) b6 =>
(.br 81 (decide (t6<((t.ls.map Lnk.v).length:Int))) (.pass (.join 7 (M0 t t6) (λ(t7:Bool)=>I7 t0 t1 t3 t4 t6 t7) (λb7=>(.elI 145 Lnk.v t.ls t6 λx6 =>
(.callP (oN t x6.a)
(.br 241 (!(az t x6.a)) (.bk 7 b7 ((true):Bool) [0])
(.elI 305 Lnk.v t.ls t6 λx7 =>
(.callP (oN t x7.b)
(.bk 7 b7 ((!(az t x7.b)):Bool) [0]))))))) λ(t7:Bool) =>
(.br 1 t7 (.ret (4))
(.bk 6 b6 ((W (t6+1)):Int) [0]))))
(.loop 8 (Mz t) (I8 t0 t1 t3 t4 t6) (m8 t0 t1 t3 t4 t6) ((0):Int) [0] λ(t8:Int) b8 =>
(.br 81 (decide (t8<((t.ls.map Lnk.v).length:Int))) (.elI 129 Lnk.v t.ls t8 λx8 =>
(.elI 225 Lnk.v t.ls t8 λx9 =>
(.br 289 (decide (x9.b≤x8.a)) (.ret (8))
(.bk 8 b8 ((W (t8+1)):Int) [0]))))
(.loop 9 (My t) (I9 t0 t1 t3 t4 t6 t8) (m9 t0 t1 t3 t4 t6 t8) ((1):Int) [0] λ(t9:Int) b9 =>
(.br 81 (decide (t9<((t.ls.map Lnk.v).length:Int))) (.elI 145 Lnk.v t.ls (W (t9-1)) λx10 =>
(.elI 225 Lnk.v t.ls t9 λx11 =>
(.join 10 (Hz t t9) (λ(t10:Bool)=>I10 t0 t1 t3 t4 t6 t8 t9 x10 x11 t10) (λb10=>(.br 417 (decide (x11.a<x10.a)) (.bk 10 b10 ((true):Bool) [0])
(.br 513 (x10.a==x11.a) (.bk 10 b10 ((decide (x11.b≤x10.b)):Bool) [0])
(.bk 10 b10 ((false):Bool) [0])))) λ(t10:Bool) =>
(.br 1 t10 (.ret (25))
(.bk 9 b9 ((W (t9+1)):Int) [0])))))
(.ret (0))))))))))))))))))
theorem RG(t:Tpl)(ok:H6 t):∃I0 I1 m1 I2 I3 m3 I4 m4 I5 I6 m6 I7 I8 m8 I9 m9 I10,(Hx t I0 I1 m1 I2 I3 m3 I4 m4 I5 I6 m6 I7 I8 m8 I9 m9 I10).vp H4 (ay t):=by
 refine⟨λb=>b=decide (24<t.rs.length∨60<t.ls.length),λ_ i=>ba t.rs (λx=>1≤x.id∧x.id≤99) i,λ_ i=>t.rs.length-i.toNat,
  λ_ i b=>∀x,t.rs[i.toNat]?=some x→b=decide (¬(1≤x.id∧x.id≤99)),λ_ _ i=>gQ t.rs (λx y=>x.id<y.id) i,λ_ _ i=>t.rs.length+1-i.toNat,
  λ_ _ _ i=>ba t.ls gt i,λ_ _ _ i=>t.ls.length-i.toNat,λ_ _ _ _ l b=>b=decide (¬gt l),λ_ _ _ _ i=>ba t.ls (λl=>az t l.a=true∧az t l.b=true) i,λ_ _ _ _ i=>t.ls.length-i.toNat,
  λ_ _ _ _ i b=>∀l,t.ls[i.toNat]?=some l→b=decide (¬(az t l.a=true∧az t l.b=true)),λ_ _ _ _ _ i=>ba t.ls (λl=>l.a<l.b) i,λ_ _ _ _ _ i=>t.ls.length-i.toNat,
  λ_ _ _ _ _ _ i=>gQ t.ls aM i,λ_ _ _ _ _ _ i=>t.ls.length+1-i.toNat,λ_ _ _ _ _ _ _ x y b=>b=decide (¬aM x y),?_⟩
 simp only[H6,Tpl.v,okU,Blk.ok,aJ,B']at ok;dsimp only[Hx,Hy,Ax.vp,Ax.vc];simp only[vcU,rfU,B'];refine⟨⟨λc=>(decide_eq_true (.inl (by omega))).symm,λc=>decide_eq_decide.mpr (by omega)⟩,?_⟩;rintro _ rfl;unfold ay
 refine⟨λc=>by rw[G' (H' c)],λc=>⟨ba.zero,λi1 h1=>⟨λd=>⟨⟨h1.idx,d,λx hx=>⟨λe y hy=>?_,λe=>⟨h1.idx,d,λy hy z hz=>?_⟩⟩⟩,?_⟩,λd=>?_⟩⟩⟩
 ·rw[hx]at hy;cases hy;exact(decide_eq_true (by omega)).symm
 ·rw[hx]at hy;cases hy;rw[hx]at hz;cases hz;exact decide_eq_decide.mpr (by omega)
 ·have c:=T' c;have hx:=u' (show i1.toNat<t.rs.length by have:=h1.idx;omega);intro b hb;have hb:=hb _ hx;subst hb;refine⟨λe=>?_,λe=>h1.step (by omega) hx (br'.mp (T' e))⟩;rw[F' c,G' λq=>H' e (q _ (cd hx))]
 have c:=T' c;rw[F' c,F' (not_not_intro (h1.done d))]
 refine⟨gQ.one,λi2 h2=>⟨λd2=>?_,λd2=>?_⟩⟩
 ·obtain⟨a1,a2⟩:=h2.idx (by omega) d2;refine⟨a1.1,a1.2,λx hx=>⟨a2,d2,λy hy=>⟨λe=>?_,λe=>h2.step (by omega) hx hy (by omega)⟩⟩⟩;rw[G' (h2.bad (by omega) hx hy (by omega))]
 rw[F' (not_not_intro (h2.done d2 λ_ _ _ q r=>cz' q r))]
 refine⟨ba.zero,λi3 h3=>⟨λd3=>⟨h3.idx,d3,λx hx=>⟨⟨λe=>?_,λe=>⟨λe2=>?_,λe2=>⟨λe3=>?_,λe3=>?_⟩⟩⟩,?_⟩⟩,λd3=>?_⟩⟩
 ·exact(decide_eq_true (show ¬gt x from λq=>by rw[q.1]at e;cases e)).symm
 ·exact(decide_eq_true (show ¬gt x from λq=>by rw[q.2.1]at e2;cases e2)).symm
 ·exact(decide_eq_true (show ¬gt x from λq=>by have:=q.2.2.1;omega)).symm
 ·have e:ei x.ca=true:=by simpa using e
  have e2:ei x.cb=true:=by simpa using e2
  refine decide_eq_decide.mpr ⟨λq r=>by have:=r.2.2.2;omega,λq=>?_⟩;exact P' λr=>q ⟨e,e2,by omega,by omega⟩
 ·rintro _ rfl;refine⟨λe=>?_,λe=>h3.step (by omega) hx (br'.mp (T' e))⟩;rw[G' λq=>H' e (q _ (cd hx))]
 rw[F' (not_not_intro (h3.done d3))]
 refine⟨ba.zero,λi4 h4=>⟨λd4=>⟨⟨h4.idx,d4,λx hx=>⟨λe y hy=>?_,λe=>⟨h4.idx,d4,λy hy z hz=>?_⟩⟩⟩,?_⟩,λd4=>?_⟩⟩
 ·rw[hx]at hy;cases hy;exact(decide_eq_true (show ¬(az t x.a=true∧az t x.b=true)from λq=>by rw[q.1]at e;cases e)).symm
 ·rw[hx]at hy;cases hy;rw[hx]at hz;cases hz;have e:az t x.a=true:=by simpa using e
  cases q:az t x.b<;>simp[e]
 ·have hx:=u' (show i4.toNat<t.ls.length by have:=h4.idx;omega);intro b hb;have hb:=hb _ hx;subst hb;refine⟨λe=>?_,λe=>h4.step (by omega) hx (br'.mp (T' e))⟩;rw[G' λq=>H' e (q _ (cd hx))]
 rw[F' (not_not_intro (h4.done d4))]
 refine⟨ba.zero,λi5 h5=>⟨λd5=>⟨h5.idx,d5,λx hx=>⟨h5.idx,d5,λy hy=>?_⟩⟩,λd5=>?_⟩⟩
 ·rw[hx]at hy;cases hy;refine⟨λe=>?_,λe=>h5.step (by omega) hx (by omega)⟩;rw[G' λq=>by have:=q _ (cd hx);omega]
 rw[F' (not_not_intro (h5.done d5))]
 refine⟨gQ.one,λi6 h6=>⟨λd6=>?_,λd6=>?_⟩⟩
 ·obtain⟨a1,a2⟩:=h6.idx (by omega) d6
  refine⟨a1.1,a1.2,λx hx=>⟨a2,d6,λy hy=>⟨⟨λe=>?_,λe=>⟨λe2=>?_,λe2=>?_⟩⟩,?_⟩⟩⟩
  ·exact(decide_eq_true (show ¬aM x y from λq=>by unfold aM at q;omega)).symm
  ·have e2:=eq_of_beq e2;exact decide_eq_decide.mpr (by unfold aM;omega)
  ·have e2:¬x.a=y.a:=by simpa using e2
   exact(decide_eq_false (not_not_intro (.inl (by omega)))).symm
  ·rintro _ rfl;refine⟨λe=>?_,λe=>h6.step (by omega) hx hy (br'.mp (T' e))⟩;rw[G' (h6.bad (by omega) hx hy (H' e))]
 ·rw[F' (not_not_intro (h6.done d6 λ_ _ _ q r=>by unfold aM at *;omega))]
def px(t:Tpl):PC Tryz.prog:=pcO 58 [(.a [(.s 2),(.s 5)])] [Tpl.v t] .k H4 (ay t) (λok=>let ⟨I0,I1,m1,I2,I3,m3,I4,m4,I5,I6,m6,I7,I8,m8,I9,m9,I10,h⟩:=RG t ok;⟨_,h,by kernel_rfl⟩) rfl (by kernel_rfl)
def gK(f g:Int)(l:Lnk):Bool:=(l.a==f && l.b==g) || (l.b==f && l.a==g)
def aU(t:Tpl)(f g:Int):Int×Bool:=match t.ls.find? (gK f g)with
 | some l=>(if(l.a==f && l.b==g)=true then l.ca else l.cb,true)
 | none=>(0,false)
def D0(t:Tpl)(from_:Int)(to_:Int):=okL [Tpl.v t,.int from_,.int to_]
def Ka(t:Tpl)(from_:Int)(to_:Int)(t0:Int):NF:=⟨[rI 1 from_,rI 2 to_,rR 3 0,rI 8 t0],[.box (Tpl.v t)]⟩
def JZ(t:Tpl)(from_:Int)(to_:Int)(t0:Int)(x1:Lnk)(t1:Bool):NF:=⟨[rI 1 from_,rI 2 to_,rR 3 0,rI 8 t0,rR 9 1,rB 31 t1],[.box (Tpl.v t),.box (Lnk.v x1)]⟩
def JY(t:Tpl)(from_:Int)(to_:Int)(t0:Int)(x1:Lnk)(t2:Bool):NF:=⟨[rI 1 from_,rI 2 to_,rR 3 0,rI 8 t0,rR 9 1,rB 43 t2],[.box (Tpl.v t),.box (Lnk.v x1)]⟩
@[reducible] def Dy:Nat→Type
 | 0=>Int
 | 1=>Bool
 | 2=>Bool
 | _=>Unit
def Dz(r:Int×Bool):AV:=.tup [.int r.1,.bool r.2]
def Dx(t:Tpl)(from_:Int)(to_:Int)(I0:Int→Prop)(m0:Int→Nat)(I1:Int→Lnk→Bool→Prop)(I2:Int→Lnk→Bool→Bool→Prop):Ax Tryz.prog Dy (Int×Bool):=
 (.loop 0 (Ka t from_ to_) I0 m0 ((0):Int) [0] λ(t0:Int) b0 =>
(.br 81 (decide (t0<((t.ls.map Lnk.v).length:Int))) (.elI 129 Lnk.v t.ls t0 λx1 =>
(.pass (.join 1 (JZ t from_ to_ t0 x1) (λ(t1:Bool)=>I1 t0 x1 t1) (λb1=>(.br 273 (x1.a==from_) (.bk 1 b1 ((x1.b==to_):Bool) [0,161])
(.bk 1 b1 ((false):Bool) [0,161]))) λ(t1:Bool) =>
(.br 2 t1 (.ret (x1.ca,true))
(.join 2 (JY t from_ to_ t0 x1) (λ(t2:Bool)=>I2 t0 x1 t1 t2) (λb2=>(.br 82 (x1.b==from_) (.bk 2 b2 ((x1.a==to_):Bool) [0,1])
(.bk 2 b2 ((false):Bool) [0,1]))) λ(t2:Bool) =>
(.br 2 t2 (.ret (x1.cb,true))
(.bk 0 b0 ((W (t0+1)):Int) [0])))))))
(.ret (0,false))))
theorem Pq(t:Tpl)(f g:Int)(ok:D0 t f g):∃I0 m0 I1 I2,(Dx t f g I0 m0 I1 I2).vp Dz (aU t f g):=by
 refine⟨λi=>ba t.ls (λl=>gK f g l=false) i,λi=>t.ls.length-i.toNat,λ_ l b=>b=(l.a==f && l.b==g),λ_ l _ b=>b=(l.b==f && l.a==g),?_⟩;simp only[D0,Tpl.v,okU,Blk.ok,aJ,B']at ok;dsimp only[Dx,Dy,Ax.vp,Ax.vc];simp only[vcU,rfU,B']
 refine⟨ba.zero,λi h=>⟨λc=>⟨h.idx,c,λx hx=>⟨⟨λe=>by rw[e];rfl,λe=>by rw[e];rfl⟩,?_⟩⟩,λc=>?_⟩⟩
 ·rintro _ rfl
  refine⟨λe=>?_,λe=>⟨⟨λe2=>by rw[e2];rfl,λe2=>by rw[e2];rfl⟩,?_⟩⟩
  ·rw[aU,lB h hx (by rw[gK,e];rfl)];simp only;rw[G' e]
  ·rintro _ rfl;refine⟨λe2=>?_,λe2=>h.step (by omega) hx (by rw[gK,e,e2];rfl)⟩;rw[aU,lB h hx (by rw[gK,e2,Bool.or_true])];simp only;rw[F' (by rw[e];simp)]
 ·rw[aU,nF h c]
def vY(t:Tpl)(from_:Int)(to_:Int):PC Tryz.prog:=pcO 53 [(.a [(.s 2),(.s 5)]),.k,.k] [Tpl.v t,.int from_,.int to_] .k Dz (aU t from_ to_) (λok=>let ⟨I0,m0,I1,I2,h⟩:=Pq t from_ to_ ok;⟨_,h,by kernel_rfl⟩) rfl (by kernel_rfl)
def eX(t:Tpl)(r:Int):List Int:=t.rs.flatMap λx=>if(aU t r x.id).2=true then [x.id]else []
def K6(t:Tpl)(r:Int)(t0:Int×List Int):NF:=⟨[rI 1 r,rR 2 0,rV 5 1,rI 6 t0.1],[.box (Tpl.v t),vB 1 AV.int t0.2 (λ_=>rfl)]⟩
@[reducible] def Eh:Nat→Type
 | 0=>Int×List Int
 | _=>Unit
def Ei(r:List Int):AV:=.sl 1 (r.map AV.int) false
def Eg(t:Tpl)(r:Int)(I0:(Int×List Int)→Prop)(m0:(Int×List Int)→Nat):Ax Tryz.prog Eh ((List Int)):=
 (.cmdL (.nilT 5 1) (.loop 0 (K6 t r) I0 m0 (0,[]) [0,64] λ(t0:Int×List Int) b0 =>
(.br 82 (decide (t0.1<((t.rs.map Rtr.v).length:Int))) (.elI 162 Rtr.v t.rs t0.1 λx1 =>
(.callP (vY t r x1.id)
(.br 322 ((aU t r x1.id).2) (.elI 386 Rtr.v t.rs t0.1 λx2 =>
(.apX 450 AV.int t0.2 [x2.id] (t0.2.length+1)
(.bk 0 b0 (W (t0.1+1),t0.2++[x2.id]) [0,450])))
(.bk 0 b0 (W (t0.1+1),t0.2) [0,1]))))
(.fz 1 AV.int t0.2 (λ_=>rfl) (.ret (t0.2))))))
theorem PZ(t:Tpl)(r:Int)(h:t.rs.length≤1000):∃I m,(Eg t r I m).vp Ei (eX t r):=by
 refine⟨λs=>eO t.rs (λx=>if(aU t r x.id).2=true then [x.id]else []) s.1 s.2,λs=>t.rs.length-s.1.toNat,?_⟩;dsimp only[Eg,Eh,Ax.vp,Ax.vc];simp only[vcU,rfU,B'];refine⟨eO.zero,?_⟩;rintro⟨i,out⟩ g;simp only at g ⊢;have hl:=g.len (b:=1) λx _=>by split<;>simp
 refine⟨λc=>⟨g.idx,c,λx hx=>?_⟩,λc=>?_⟩
 ·refine⟨λe=>⟨g.idx,c,λy hy=>⟨by omega,?_⟩⟩,λe=>g.step (by omega) hx (by rw[F' (by rw[e];simp)];simp)⟩;rw[hx]at hy;cases hy;exact g.step (by omega) hx (by rw[G' e])
 ·exact g.done c
def Ej(t:Tpl)(r:Int)(h:t.rs.length≤1000):PC Tryz.prog:=pcO 110 [(.a [(.s 2),(.s 5)]),.k] [Tpl.v t,.int r] (.s 1) Ei (eX t r) (λ_=>let ⟨I0,m0,h⟩:=PZ t r h;⟨_,h,by kernel_rfl⟩) rfl (by kernel_rfl)
theorem cg{t:Tpl}(h:ay t=0):t.rs.length≤24∧t.ls.length≤60:=by
 unfold ay at h
 by_cases c:24<t.rs.length∨60<t.ls.length
 ·rw[G' c]at h;cases h
 ·omega
def hs5(t:Tpl)(r:Int):Bool:=(ay t==0) && az t r
def NT(r:Bool):AV:=.bool r
def Fn(t:Tpl)(r:Int):Ax Tryz.prog noS (Bool):=
 (.callP (px t)
(.br 96 ((ay t)==0) (.callP (oN t r)
(.ret (az t r)))
(.ret (false))))
theorem hs5_p(t:Tpl)(r:Int):(Fn t r).vp NT (hs5 t r):=by
 dsimp only[Fn,noS,Ax.vp,Ax.vc];simp only[vcU,rfU,B'];refine⟨λc=>?_,λc=>?_⟩<;>rw[hs5,c]<;>rfl
def zC(t:Tpl)(r:Int):PC Tryz.prog:=pcO 74 [(.a [(.s 2),(.s 5)]),.k] [Tpl.v t,.int r] .k NT (hs5 t r) (λ_=>⟨(Fn t r),hs5_p t r,by kernel_rfl⟩) rfl (by kernel_rfl)
def bC(t:Tpl)(f g:Int):Int×Bool:=if ay t≠0 then(0,false)else aU t f g
theorem NU(i j:Nat)(h:i≤j)(hj:j≤1000000):W ((IntKind.u64.wrap (W ((i:Int)+j))).fdiv 2)=(((i+j) / 2:Nat):Int):=by
 have e1:W ((i:Int)+j)=((i+j:Nat):Int):=ce ⟨by omega,by omega⟩;rw[e1];have e2:IntKind.u64.wrap ((i+j:Nat):Int)=((i+j:Nat):Int):=by simp[IntKind.wrap,IntKind.signed,IntKind.bits];omega
 rw[e2,show Int.fdiv ((i+j:Nat):Int) 2=(((i+j) / 2:Nat):Int) by rw[cG' _ (by omega)];rfl];exact ce ⟨by omega,by omega⟩
theorem nH(x y:Int):cmpI x y<0↔x<y:=by
 unfold cmpI;split
 ·simp_all
 ·split<;>simp_all
theorem lI(x y:Int):cmpI x y=0↔x=y:=by
 unfold cmpI;split
 ·simp;omega
 ·split
  ·simp;omega
  ·simp;omega
def bsI{α:Type}(lt:α→Bool)(l:List α):Nat→Nat→Nat→Nat
 | 0,i,_=>i
 | f+1,i,j=>if i<j then(match l[(i+j) / 2]? with
  | some x=>if lt x=true then bsI lt l f ((i+j) / 2+1) j else bsI lt l f i ((i+j) / 2)
  | none=>i)else i
theorem im{α:Type}{lt:α→Bool}{l:List α}:∀{f g i j:Nat},j-i≤f→j-i≤g→bsI lt l f i j=bsI lt l g i j
 | 0,0,i,j,_,_=>rfl
 | 0,g+1,i,j,h,_=>by rw[bsI,bsI,F' (by omega)]
 | f+1,0,i,j,_,h=>by rw[bsI,bsI,F' (by omega)]
 | f+1,g+1,i,j,h,h'=>by
  rw[bsI,bsI]
  split
  ·split
   ·split
    ·exact im (by omega) (by omega)
    ·exact im (by omega) (by omega)
   ·rfl
  ·rfl
def bsP{α:Type}(lt:α→Bool)(l:List α):Nat:=bsI lt l l.length 0 l.length
def bsH{α:Type}(lt eq:α→Bool)(l:List α):Bool:=(l[bsP lt l]?).any eq
theorem lK{α:Type}{lt:α→Bool}{l:List α}(hm:∀(a b:Nat) x y,a<b→l[a]?=some x→l[b]?=some y→lt y=true→lt x=true):∀{f i j:Nat},j-i≤f→i≤j→j≤l.length →
  (∀k x,k<i→l[k]?=some x→lt x=true)→(∀k x,j≤k→l[k]?=some x→lt x=false)→(∀k x,k<bsI lt l f i j→l[k]?=some x→lt x=true)∧(∀k x,bsI lt l f i j≤k→l[k]?=some x→lt x=false)∧bsI lt l f i j≤l.length
 | 0,i,j,h,hij,hj,h1,h2=>by
  obtain rfl:i=j:=by omega
  rw[bsI];exact⟨h1,h2,hj⟩
 | f+1,i,j,h,hij,hj,h1,h2=>by
  rw[bsI]
  by_cases hlt:i<j
  ·have hx:=u' (show(i+j) / 2<l.length by omega);generalize l[(i+j) / 2]=x at hx;rw[G' hlt,hx]
   by_cases e:lt x=true
   ·simp only[e,if_true];refine lK hm (by omega) (by omega) hj (λk y hk hy=>?_) h2
    by_cases e':k=(i+j) / 2
    ·subst e';rw[hx]at hy;cases hy;exact e
    ·exact hm k _ y x (by omega) hy hx e
   ·simp only[e,if_false,aQ'];refine lK hm (by omega) (by omega) (by omega) h1 (λk y hk hy=>?_)
    by_cases e':k=(i+j) / 2
    ·subst e';rw[hx]at hy;cases hy;simpa using e
    ·cases q:lt y
     ·rfl
     ·exact absurd (hm _ k x y (by omega) hx hy q) e
  ·obtain rfl:i=j:=by omega
   rw[F' hlt];exact⟨h1,h2,hj⟩
theorem At{α:Type}{lt eq:α→Bool}{l:List α}(hm:∀(a b:Nat) x y,a<b→l[a]?=some x→l[b]?=some y→lt y=true→lt x=true)(he:∀x,eq x=true→lt x=false)
  (h2:∀(a b:Nat) x y,a<b→l[a]?=some x→l[b]?=some y→eq y=true→lt x=true):(bsH lt eq l=l.any eq)∧∀x∈l,eq x=true→l[bsP lt l]?=some x:=by
 obtain⟨s1,s2,s3⟩:=lK hm (f:=l.length) (i:=0) (j:=l.length) (by omega) (by omega) (V' _) (λk x hk=>by omega) (λk x hk hx=>by have:=ao hx;omega);have key:∀x∈l,eq x=true→l[bsP lt l]?=some x:=λx hx e=>by
  obtain⟨k,hk⟩:=ag'.mp hx;have h3:bsP lt l≤k:=Nat.le_of_not_lt λh=>by
   have:=s1 k x h hk;rw[he x e]at this;cases this
  by_cases e':bsP lt l=k
  ·rw[e'];exact hk
  ·have hl:=ao hk;have hy:=u' (show bsP lt l<l.length by omega);have a:=h2 _ k _ x (by omega) hy hk e;have b:=s2 _ _ (V' _) hy;rw[a]at b;cases b
 refine⟨?_,key⟩;rw[ae',ac',bsH]
 constructor
 ·intro h;cases q:l[bsP lt l]? with
  | none=>rw[q]at h;cases h
  | some x=>rw[q]at h;exact⟨x,O' q,h⟩
 ·rintro⟨x,hx,e⟩;rw[key x hx e];exact e
def inT(n a b:Int):Bool:=decide (a≤n) && decide (n≤b)
def NS(r:Bool):AV:=.bool r
def Fk(n:Int)(least:Int)(most:Int):Ax Tryz.prog noS (Bool):=
 (.br 80 (decide (least≤n)) (.ret (decide (n≤most)))
(.ret (false)))
theorem inT_p(n a b:Int):(Fk n a b).vp NS (inT n a b):=by
 dsimp only[Fk,noS,Ax.vp,Ax.vc];simp only[vcU,rfU,B'];unfold inT;exact⟨λh=>by simp[h],λh=>by simp[h]⟩
def qh(n:Int)(least:Int)(most:Int):PC Tryz.prog:=pcO 123 [.k,.k,.k] [.int n,.int least,.int most] .k NS (inT n least most) (λ_=>⟨(Fk n least most),inT_p n least most,by kernel_rfl⟩) rfl (by kernel_rfl)
def byI(r:Rtr)(id:Int):Int:=cmpI r.id id
def Oc(r:Int):AV:=.int r
def HL(r:Rtr)(id:Int):Ax Tryz.prog noS (Int):=
 (.callP (xL r.id id)
(.ret (cmpI r.id id)))
theorem byI_p(r:Rtr)(id:Int):(HL r id).vp Oc (byI r id):=by
 dsimp only[HL,noS,Ax.vp,Ax.vc];simp only[vcU,rfU,B'];rfl
def Od(r:Rtr)(id:Int):PC Tryz.prog:=pcO 167 [.k,.k] [Rtr.v r,.int id] .k Oc (byI r id) (λ_=>⟨(HL r id),byI_p r id,by kernel_rfl⟩) rfl (by kernel_rfl)
def ltR(r:Int)(x:Rtr):Bool:=decide (x.id<r)
def eqR(r:Int)(x:Rtr):Bool:=x.id==r
def qW(l:List Rtr)(r:Int):Nat:=bsP (ltR r) l
def nk(l:List Rtr)(r:Int):Bool:=bsH (ltR r) (eqR r) l
def Oi(x:List Rtr)(target:Int):=okL [.sl 2 (x.map Rtr.v) false,.int target,.func 167 []]
def RY(x:List Rtr)(target:Int)(t0:Int×Int):NF:=⟨[(0,.k,.sl 2 (x.map Rtr.v) false),rI 1 target,(2,.k,.func 167 []),rI 8 ((x.map Rtr.v).length:Int),rI 9 t0.1,rI 10 t0.2],[]⟩
@[reducible] def Of:Nat→Type
 | 0=>Int×Int
 | _=>Unit
def Og(r:Int×Bool):AV:=.tup [.int r.1,.bool r.2]
def Oe(x:List Rtr)(target:Int)(I0:(Int×Int)→Prop)(m0:(Int×Int)→Nat):Ax Tryz.prog Of (Int×Bool):=
 (.loop 0 (RY x target) I0 m0 (0,((x.map Rtr.v).length:Int)) [] λ(t0:Int×Int) b0 =>
(.br 48 (decide (t0.1<t0.2)) (.elI 208 Rtr.v x (W (Int.fdiv (IntKind.u64.wrap (W (t0.1+t0.2))) 2)) λx1 =>
(.callP (Od x1 target)
(.br 288 (decide ((byI x1 target)<0)) (.bk 0 b0 (W ((W (Int.fdiv (IntKind.u64.wrap (W (t0.1+t0.2))) 2))+1),t0.2) [])
(.bk 0 b0 (t0.1,W (Int.fdiv (IntKind.u64.wrap (W (t0.1+t0.2))) 2)) []))))
(.br 128 (decide (t0.1<((x.map Rtr.v).length:Int))) (.elI 176 Rtr.v x t0.1 λx2 =>
(.callP (Od x2 target)
(.ret (t0.1,(byI x2 target)==0))))
(.ret (t0.1,false)))))
theorem bsR_p(x:List Rtr)(r:Int)(hl:x.length≤1000000)(ok:Oi x r):∃I m,(Oe x r I m).vp Og ((qW x r:Int),nk x r):=by
  refine⟨λt=>∃i j:Nat,t=((i:Int),(j:Int))∧i≤j∧j≤x.length∧bsI (ltR r) x (j-i) i j=bsP (ltR r) x,λt=>(t.2-t.1).toNat,?_⟩;simp only[Oi,Rtr.v,okU,Blk.ok,aJ,B']at ok;dsimp only[Oe,Of,Ax.vp,Ax.vc];simp only[vcU,rfU,B'];refine⟨⟨0,x.length,rfl,by omega,by omega,rfl⟩,?_⟩;rintro _ ⟨i,j,rfl,hij,hj,h1⟩
  refine⟨λh3=>?_,λh3=>?_⟩
  ·have h3:i<j:=by simpa using h3
   simp only[NU i j hij (by omega),Int.toNat_natCast];obtain⟨d,hd⟩:∃d,j-i=d+1:=⟨j-i-1,by omega⟩
   rw[hd,bsI,G' h3]at h1
   refine⟨by omega,by omega,λy hy=>⟨λe=>?_,λe=>?_⟩⟩
   ·rw[hy]at h1;simp only[show ltR r y=true from decide_eq_true ((nH _ _).mp e),if_true]at h1;rw[im (g:=j-((i+j) / 2+1)) (by omega) (by omega)]at h1;rw[bf (n:=x.length) (by omega) (by omega)];exact⟨⟨_,_,rfl,by omega,hj,h1⟩,by omega⟩
   ·rw[hy]at h1;simp only[show ltR r y=false from decide_eq_false (λq=>e ((nH _ _).mpr q)),if_false,aQ']at h1;rw[im (g:=(i+j) / 2-i) (by omega) (by omega)]at h1;exact⟨⟨_,_,rfl,by omega,by omega,h1⟩,by omega⟩
  ·have h3:i=j:=by simp at h3;omega
   subst h3;rw[bz',bsI]at h1;simp only[Int.toNat_natCast]
   refine⟨λh4=>⟨by omega,by omega,λy hy=>?_⟩,λh4=>?_⟩
   ·unfold qW nk bsH;rw[←h1,hy];refine congrArg _ ?_;show decide _=eqR r y;rw[ae',S'];simp[byI,lI,eqR]
   ·unfold qW nk bsH;rw[←h1,aj' (by omega)];rfl
def Oh(x:List Rtr)(target:Int)(hl:x.length≤1000000):PC Tryz.prog:=pcO 166 [(.s 2),.k,.k] [.sl 2 (x.map Rtr.v) false,.int target,.func 167 []] .k Og ((qW x target:Int),nk x target) (λok=>let ⟨I0,m0,h⟩:=bsR_p x target hl ok;⟨_,h,by kernel_rfl⟩) rfl (by kernel_rfl)
def NR(vals:List Int):=okL [.sl 1 (vals.map AV.int) false]
def PE(vals:List Int)(t0:Int):NF:=⟨[rI 3 0,(6,.k,.sl 1 (vals.map AV.int) false),rI 7 ((vals.map AV.int).length:Int),rI 8 t0],[]⟩
@[reducible] def NP:Nat→Type
 | 0=>Int
 | _=>Unit
def NQ(r:Int):AV:=.int r
def NO(vals:List Int)(I0:Int→Prop)(m0:Int→Nat):Ax Tryz.prog NP (Int):=
 (.loop 0 (PE vals) I0 m0 ((0):Int) [] λ(t0:Int) b0 =>
(.br 16 (decide (t0<((vals.map AV.int).length:Int))) (.elI 16 AV.int vals t0 λx1 =>
(.br 112 (x1 != 0) (.ret (x1))
(.bk 0 b0 ((W (t0+1)):Int) [])))
(.ret (0))))
theorem orN_p(vals:List Int)(ok:NR vals):∃I m,(NO vals I m).vp NQ (orI vals):=by
 simp only[NR,okU,Blk.ok,aJ,B']at ok;refine⟨λt=>∃k:Nat,t=k∧k≤vals.length∧(vals.take k).all (·==0),λt=>vals.length-t.toNat,?_⟩;dsimp only[NO,NP,Ax.vp,Ax.vc];simp only[vcU,rfU,B'];refine⟨⟨0,rfl,by omega,by simp⟩,?_⟩;rintro _ ⟨k,rfl,hk,h⟩
 refine⟨λh1=>⟨by omega,by omega,λx hx=>⟨λhn=>?_,λhn=>?_⟩⟩,λh1=>?_⟩
 ·rw[Int.toNat_natCast]at hx;rw[orI,Bx h hx (by simpa using hn)];rfl
 ·rw[Int.toNat_natCast]at hx;have hlt:=ao hx;rw[bf (n:=vals.length) (by omega) (by omega)];refine⟨⟨k+1,rfl,by omega,?_⟩,by omega⟩;rw[aP hx,List.all_append,h];simpa using hn
 ·rw[ai' (by omega)]at h
  rw[orI,cr'.mpr]
  ·rfl
  ·intro x hx;simpa using aN'.mp h x hx
def orN_c(vals:List Int):PC Tryz.prog:=pcO 150 [(.s 1)] [.sl 1 (vals.map AV.int) false] .k NQ (orI vals) (λok=>let ⟨I0,m0,h⟩:=orN_p vals ok;⟨_,h,by kernel_rfl⟩) rfl (by kernel_rfl)
def sC(x y:Lnk):Int:=orI [cmpI x.a y.a,cmpI x.b y.b]
def Hc(r:Int):AV:=.int r
def xI(a:Lnk)(b:Lnk):Ax Tryz.prog noS (Int):=
 (.callP (xL a.a b.a)
(.callP (xL a.b b.b)
(.callP (orN_c [cmpI a.a b.a,cmpI a.b b.b])
(.ret (orI [cmpI a.a b.a,cmpI a.b b.b])))))
theorem R5(x y:Lnk):(xI x y).vp Hc (sC x y):=by
 dsimp only[xI,noS,Ax.vp,Ax.vc];simp only[vcU,rfU,B'];rfl
def xJ(a:Lnk)(b:Lnk):PC Tryz.prog:=pcO 121 [.k,.k] [Lnk.v a,Lnk.v b] .k Hc (sC a b) (λ_=>⟨(xI a b),R5 a b,by kernel_rfl⟩) rfl (by kernel_rfl)
theorem uI(x y:Lnk):sC x y=if x.a=y.a then cmpI x.b y.b else cmpI x.a y.a:=by
 unfold sC orI
 by_cases e:x.a=y.a
 ·rw[G' e,(lI _ _).mpr e]
  by_cases e2:cmpI x.b y.b=0
  ·simp[e2]
  ·simp[e2]
 ·have:cmpI x.a y.a≠0:=λh=>e ((lI _ _).mp h);rw[F' e];simp[this]
theorem nG(x y:Lnk):sC x y<0↔aM x y:=by
 rw[uI];unfold aM
 split
 ·rw[nH];omega
 ·rw[nH];omega
theorem Mg(x y:Lnk):sC x y=0↔x.a=y.a∧x.b=y.b:=by
 rw[uI]
 split
 ·rw[lI];omega
 ·rw[lI];omega
def mj(y x:Lnk):Bool:=decide (aM x y)
def ik(y x:Lnk):Bool:=decide (x.a=y.a∧x.b=y.b)
def aI(l:List Lnk)(y:Lnk):Nat:=bsP (mj y) l
def c9(l:List Lnk)(y:Lnk):Bool:=bsH (mj y) (ik y) l
def On(x:List Lnk)(target:Lnk):=okL [.sl 5 (x.map Lnk.v) false,Lnk.v target,.func 121 []]
def RZ(x:List Lnk)(target:Lnk)(t0:Int×Int):NF:=⟨[(0,.k,.sl 5 (x.map Lnk.v) false),(2,.k,.func 121 []),rR 4 0,rI 8 ((x.map Lnk.v).length:Int),rI 9 t0.1,rI 10 t0.2],[.box (Lnk.v target)]⟩
@[reducible] def Ok:Nat→Type
 | 0=>Int×Int
 | _=>Unit
def Ol(r:Int×Bool):AV:=.tup [.int r.1,.bool r.2]
def Oj(x:List Lnk)(target:Lnk)(I0:(Int×Int)→Prop)(m0:(Int×Int)→Nat):Ax Tryz.prog Ok (Int×Bool):=
 (.loop 0 (RZ x target) I0 m0 (0,((x.map Lnk.v).length:Int)) [0] λ(t0:Int×Int) b0 =>
(.br 49 (decide (t0.1<t0.2)) (.elI 209 Lnk.v x (W (Int.fdiv (IntKind.u64.wrap (W (t0.1+t0.2))) 2)) λx1 =>
(.callP (xJ x1 target)
(.br 289 (decide ((sC x1 target)<0)) (.bk 0 b0 (W ((W (Int.fdiv (IntKind.u64.wrap (W (t0.1+t0.2))) 2))+1),t0.2) [0])
(.bk 0 b0 (t0.1,W (Int.fdiv (IntKind.u64.wrap (W (t0.1+t0.2))) 2)) [0]))))
(.br 129 (decide (t0.1<((x.map Lnk.v).length:Int))) (.elI 177 Lnk.v x t0.1 λx2 =>
(.callP (xJ x2 target)
(.ret (t0.1,(sC x2 target)==0))))
(.ret (t0.1,false)))))
theorem bsL_p(x:List Lnk)(r:Lnk)(hl:x.length≤1000000)(ok:On x r):∃I m,(Oj x r I m).vp Ol ((aI x r:Int),c9 x r):=by
  refine⟨λt=>∃i j:Nat,t=((i:Int),(j:Int))∧i≤j∧j≤x.length∧bsI (mj r) x (j-i) i j=bsP (mj r) x,λt=>(t.2-t.1).toNat,?_⟩;simp only[On,Lnk.v,okU,Blk.ok,aJ,B']at ok;dsimp only[Oj,Ok,Ax.vp,Ax.vc];simp only[vcU,rfU,B'];refine⟨⟨0,x.length,rfl,by omega,by omega,rfl⟩,?_⟩;rintro _ ⟨i,j,rfl,hij,hj,h1⟩
  refine⟨λh3=>?_,λh3=>?_⟩
  ·have h3:i<j:=by simpa using h3
   simp only[NU i j hij (by omega),Int.toNat_natCast];obtain⟨d,hd⟩:∃d,j-i=d+1:=⟨j-i-1,by omega⟩
   rw[hd,bsI,G' h3]at h1
   refine⟨by omega,by omega,λy hy=>⟨λe=>?_,λe=>?_⟩⟩
   ·rw[hy]at h1;simp only[show mj r y=true from decide_eq_true ((nG _ _).mp e),if_true]at h1;rw[im (g:=j-((i+j) / 2+1)) (by omega) (by omega)]at h1;rw[bf (n:=x.length) (by omega) (by omega)];exact⟨⟨_,_,rfl,by omega,hj,h1⟩,by omega⟩
   ·rw[hy]at h1;simp only[show mj r y=false from decide_eq_false (λq=>e ((nG _ _).mpr q)),if_false,aQ']at h1;rw[im (g:=(i+j) / 2-i) (by omega) (by omega)]at h1;exact⟨⟨_,_,rfl,by omega,by omega,h1⟩,by omega⟩
  ·have h3:i=j:=by simp at h3;omega
   subst h3;rw[bz',bsI]at h1;simp only[Int.toNat_natCast]
   refine⟨λh4=>⟨by omega,by omega,λy hy=>?_⟩,λh4=>?_⟩
   ·unfold aI c9 bsH;rw[←h1,hy];refine congrArg _ ?_;show decide _=ik r y;rw[ae',S'];simp[Mg,ik]
   ·unfold aI c9 bsH;rw[←h1,aj' (by omega)];rfl
def Om(x:List Lnk)(target:Lnk)(hl:x.length≤1000000):PC Tryz.prog:=pcO 120 [(.s 5),.k,.k] [.sl 5 (x.map Lnk.v) false,Lnk.v target,.func 121 []] .k Ol ((aI x target:Int),c9 x target) (λok=>let ⟨I0,m0,h⟩:=bsL_p x target hl ok;⟨_,h,by kernel_rfl⟩) rfl (by kernel_rfl)
def kX(r:Rtr):Bool:=!inT r.id 1 99
def CT(r:Bool):AV:=.bool r
def vQ(r:Rtr):Ax Tryz.prog noS (Bool):=
 (.callP (qh r.id 1 99)
(.ret (!(inT r.id 1 99))))
theorem Pf(r:Rtr):(vQ r).vp CT (kX r):=by
 dsimp only[vQ,noS,Ax.vp,Ax.vc];simp only[vcU,rfU,B'];rfl
def Pg(r:Rtr):PC Tryz.prog:=pcO 164 [.k] [Rtr.v r] .k CT (kX r) (λ_=>⟨(vQ r),Pf r,by kernel_rfl⟩) rfl (by kernel_rfl)
def lF(l:Lnk):Bool:=!inT l.ca 1 1000 || (!inT l.cb 1 1000 || !inT l.w 0 1000)
def GN(r:Bool):AV:=.bool r
def xA(l:Lnk):Ax Tryz.prog noS (Bool):=
 (.callP (qh l.ca 1 1000)
(.br 112 (!(inT l.ca 1 1000)) (.ret (true))
(.callP (qh l.cb 1 1000)
(.br 208 (!(inT l.cb 1 1000)) (.ret (true))
(.callP (qh l.w 0 1000)
(.ret (!(inT l.w 0 1000))))))))
theorem Rx(l:Lnk):(xA l).vp GN (lF l):=by
 dsimp only[xA,noS,Ax.vp,Ax.vc];simp only[vcU,rfU,B'];unfold lF;exact⟨λh=>by rw[h];rfl,λh=>⟨λh2=>by rw[h,h2];rfl,λh2=>by rw[h,h2];rfl⟩⟩
def Ry(l:Lnk):PC Tryz.prog:=pcO 169 [.k] [Lnk.v l] .k GN (lF l) (λ_=>⟨(xA l),Rx l,by kernel_rfl⟩) rfl (by kernel_rfl)
def mM(l:Lnk):Bool:=decide (l.b≤l.a)
def IM(r:Bool):AV:=.bool r
def yd(l:Lnk):Ax Tryz.prog noS (Bool):=
 (.ret (decide (l.b≤l.a)))
theorem S1(l:Lnk):(yd l).vp IM (mM l):=by
 dsimp only[yd,noS,Ax.vp,Ax.vc];simp only[vcU,rfU,B'];rfl
def S4(l:Lnk):PC Tryz.prog:=pcO 171 [.k] [Lnk.v l] .k IM (mM l) (λ_=>⟨(yd l),S1 l,by kernel_rfl⟩) rfl (by kernel_rfl)
def vu(id:Int)(t:Tpl):Bool:=!nk t.rs id
def Cn(r:Bool):AV:=.bool r
def vt(id:Int)(t:Tpl):Ax Tryz.prog noS (Bool):=
 (.req 64 (t.rs.length≤1000000) λh1 =>
(.callP (Oh t.rs id h1)
(.ret (!(nk t.rs id)))))
theorem OB(id:Int)(t:Tpl)(hl:t.rs.length≤1000000):(vt id t).vp Cn (vu id t):=by
 dsimp only[vt,noS,Ax.vp,Ax.vc];simp only[vcU,rfU,B'];exact⟨hl,rfl⟩
def Co(id:Int)(t:Tpl)(hl:t.rs.length≤1000000):PC Tryz.prog:=pcO 165 [.k,.k] [.int id,.rptr (Tpl.v t) 0] .k Cn (vu id t) (λ_=>⟨(vt id t),OB id t hl,by kernel_rfl⟩) rfl (by kernel_rfl)
def iR(l:Lnk)(t:Tpl):Bool:=vu l.a t || vu l.b t
def Ck(r:Bool):AV:=.bool r
def vr(l:Lnk)(t:Tpl):Ax Tryz.prog noS (Bool):=
 (.req 80 (t.rs.length≤1000000) λh1 =>
(.callP (Co l.a t h1)
(.br 112 (vu l.a t) (.ret (true))
(.req 160 (t.rs.length≤1000000) λh2 =>
(.callP (Co l.b t h2)
(.ret (vu l.b t)))))))
theorem O9(l:Lnk)(t:Tpl)(hl:t.rs.length≤1000000):(vr l t).vp Ck (iR l t):=by
 dsimp only[vr,noS,Ax.vp,Ax.vc];simp only[vcU,rfU,B'];exact⟨hl,λh=>by unfold iR;rw[h];rfl,λh=>⟨hl,by unfold iR;rw[h];rfl⟩⟩
def OA(l:Lnk)(t:Tpl)(hl:t.rs.length≤1000000):PC Tryz.prog:=pcO 170 [.k,.k] [Lnk.v l,.rptr (.func 165 [.rptr (Tpl.v t) 0]) 0] .k Ck (iR l t) (λ_=>⟨(vr l t),O9 l t hl,by kernel_rfl⟩) rfl (by kernel_rfl)
def yM(s:List Rtr):=okL [.sl 2 (s.map Rtr.v) false,.func 164 []]
def CU(s:List Rtr)(t0:Int):NF:=⟨[(0,.k,.sl 2 (s.map Rtr.v) false),(1,.k,.func 164 []),rI 7 ((s.map Rtr.v).length:Int),rI 8 t0],[]⟩
@[reducible] def yK:Nat→Type
 | 0=>Int
 | _=>Unit
def yL(r:Int):AV:=.int r
def yJ(s:List Rtr)(I0:Int→Prop)(m0:Int→Nat):Ax Tryz.prog yK (Int):=
 (.loop 0 (CU s) I0 m0 ((0):Int) [] λ(t0:Int) b0 =>
(.br 16 (decide (t0<((s.map Rtr.v).length:Int))) (.elI 96 Rtr.v s t0 λx1 =>
(.callP (Pg x1)
(.br 144 (kX x1) (.ret (t0))
(.bk 0 b0 ((W (t0+1)):Int) []))))
(.ret (-1))))
theorem JC(s:List Rtr)(ok:yM s):∃I m,(yJ s I m).vp yL (fU kX s):=by
  refine⟨λt=>ba s (λy=>kX y=false) t,λt=>s.length-t.toNat,?_⟩;simp only[yM,Rtr.v,okU,Blk.ok,aJ,B']at ok;dsimp only[yJ,yK,Ax.vp,Ax.vc];simp only[vcU,rfU,B'];exact⟨ba.zero,λt h=>⟨λc=>⟨h.idx,c,λx hx=>⟨λq=>h.found hx q,λq=>h.step (by omega) hx q⟩⟩,λc=>h.lost c⟩⟩
def JD(s:List Rtr):PC Tryz.prog:=pcO 177 [(.s 2),.k] [.sl 2 (s.map Rtr.v) false,.func 164 []] .k yL (fU kX s) (λok=>let ⟨I0,m0,h⟩:=JC s ok;⟨_,h,by kernel_rfl⟩) rfl (by kernel_rfl)
def yN(r:Bool):AV:=.bool r
def qO(s:List Rtr):Ax Tryz.prog noS (Bool):=
 (.callP (JD s)
(.ret (decide (0≤(fU kX s)))))
theorem JE(s:List Rtr):(qO s).vp yN (s.any kX):=by
 dsimp only[qO,noS,Ax.vp,Ax.vc];simp only[vcU,rfU,B'];exact l6 _ _
def JF(s:List Rtr):PC Tryz.prog:=pcO 163 [(.s 2),.k] [.sl 2 (s.map Rtr.v) false,.func 164 []] .k yN (s.any kX) (λ_=>⟨(qO s),JE s,by kernel_rfl⟩) rfl (by kernel_rfl)
def HH(r:Rtr):Bool:=!r.cap
def Ag(s:List Lnk):=okL [.sl 5 (s.map Lnk.v) false,.func 169 []]
def GO(s:List Lnk)(t0:Int):NF:=⟨[(0,.k,.sl 5 (s.map Lnk.v) false),(1,.k,.func 169 []),rI 7 ((s.map Lnk.v).length:Int),rI 8 t0],[]⟩
@[reducible] def Ad:Nat→Type
 | 0=>Int
 | _=>Unit
def Ae(r:Int):AV:=.int r
def Ac(s:List Lnk)(I0:Int→Prop)(m0:Int→Nat):Ax Tryz.prog Ad (Int):=
 (.loop 0 (GO s) I0 m0 ((0):Int) [] λ(t0:Int) b0 =>
(.br 16 (decide (t0<((s.map Lnk.v).length:Int))) (.elI 96 Lnk.v s t0 λx1 =>
(.callP (Ry x1)
(.br 144 (lF x1) (.ret (t0))
(.bk 0 b0 ((W (t0+1)):Int) []))))
(.ret (-1))))
theorem LX(s:List Lnk)(ok:Ag s):∃I m,(Ac s I m).vp Ae (fU lF s):=by
  refine⟨λt=>ba s (λy=>lF y=false) t,λt=>s.length-t.toNat,?_⟩;simp only[Ag,Lnk.v,okU,Blk.ok,aJ,B']at ok;dsimp only[Ac,Ad,Ax.vp,Ax.vc];simp only[vcU,rfU,B'];exact⟨ba.zero,λt h=>⟨λc=>⟨h.idx,c,λx hx=>⟨λq=>h.found hx q,λq=>h.step (by omega) hx q⟩⟩,λc=>h.lost c⟩⟩
def LY(s:List Lnk):PC Tryz.prog:=pcO 178 [(.s 5),.k] [.sl 5 (s.map Lnk.v) false,.func 169 []] .k Ae (fU lF s) (λok=>let ⟨I0,m0,h⟩:=LX s ok;⟨_,h,by kernel_rfl⟩) rfl (by kernel_rfl)
def Ah(r:Bool):AV:=.bool r
def sA(s:List Lnk):Ax Tryz.prog noS (Bool):=
 (.callP (LY s)
(.ret (decide (0≤(fU lF s)))))
theorem LZ(s:List Lnk):(sA s).vp Ah (s.any lF):=by
 dsimp only[sA,noS,Ax.vp,Ax.vc];simp only[vcU,rfU,B'];exact l6 _ _
def Ma(s:List Lnk):PC Tryz.prog:=pcO 168 [(.s 5),.k] [.sl 5 (s.map Lnk.v) false,.func 169 []] .k Ah (s.any lF) (λ_=>⟨(sA s),LZ s,by kernel_rfl⟩) rfl (by kernel_rfl)
def A8(s:List Lnk):=okL [.sl 5 (s.map Lnk.v) false,.func 171 []]
def IN(s:List Lnk)(t0:Int):NF:=⟨[(0,.k,.sl 5 (s.map Lnk.v) false),(1,.k,.func 171 []),rI 7 ((s.map Lnk.v).length:Int),rI 8 t0],[]⟩
@[reducible] def A6:Nat→Type
 | 0=>Int
 | _=>Unit
def A7(r:Int):AV:=.int r
def A5(s:List Lnk)(I0:Int→Prop)(m0:Int→Nat):Ax Tryz.prog A6 (Int):=
 (.loop 0 (IN s) I0 m0 ((0):Int) [] λ(t0:Int) b0 =>
(.br 16 (decide (t0<((s.map Lnk.v).length:Int))) (.elI 96 Lnk.v s t0 λx1 =>
(.callP (S4 x1)
(.br 144 (mM x1) (.ret (t0))
(.bk 0 b0 ((W (t0+1)):Int) []))))
(.ret (-1))))
theorem N7(s:List Lnk)(ok:A8 s):∃I m,(A5 s I m).vp A7 (fU mM s):=by
  refine⟨λt=>ba s (λy=>mM y=false) t,λt=>s.length-t.toNat,?_⟩;simp only[A8,Lnk.v,okU,Blk.ok,aJ,B']at ok;dsimp only[A5,A6,Ax.vp,Ax.vc];simp only[vcU,rfU,B'];exact⟨ba.zero,λt h=>⟨λc=>⟨h.idx,c,λx hx=>⟨λq=>h.found hx q,λq=>h.step (by omega) hx q⟩⟩,λc=>h.lost c⟩⟩
def N8(s:List Lnk):PC Tryz.prog:=pcO 178 [(.s 5),.k] [.sl 5 (s.map Lnk.v) false,.func 171 []] .k A7 (fU mM s) (λok=>let ⟨I0,m0,h⟩:=N7 s ok;⟨_,h,by kernel_rfl⟩) rfl (by kernel_rfl)
def A9(r:Bool):AV:=.bool r
def sJ(s:List Lnk):Ax Tryz.prog noS (Bool):=
 (.callP (N8 s)
(.ret (decide (0≤(fU mM s)))))
theorem N9(s:List Lnk):(sJ s).vp A9 (s.any mM):=by
 dsimp only[sJ,noS,Ax.vp,Ax.vc];simp only[vcU,rfU,B'];exact l6 _ _
def NA(s:List Lnk):PC Tryz.prog:=pcO 168 [(.s 5),.k] [.sl 5 (s.map Lnk.v) false,.func 171 []] .k A9 (s.any mM) (λ_=>⟨(sJ s),N9 s,by kernel_rfl⟩) rfl (by kernel_rfl)
def yr(s:List Lnk)(f:Tpl):=okL [.sl 5 (s.map Lnk.v) false,.func 170 [.rptr (.func 165 [.rptr (Tpl.v f) 0]) 0]]
def Cm(s:List Lnk)(f:Tpl)(t0:Int):NF:=⟨[(0,.k,.sl 5 (s.map Lnk.v) false),(1,.k,.func 170 [.rptr (.func 165 [.rptr (Tpl.v f) 0]) 0]),rI 7 ((s.map Lnk.v).length:Int),rI 8 t0],[]⟩
@[reducible] def yp:Nat→Type
 | 0=>Int
 | _=>Unit
def yq(r:Int):AV:=.int r
def yo(s:List Lnk)(f:Tpl)(I0:Int→Prop)(m0:Int→Nat):Ax Tryz.prog yp (Int):=
 (.loop 0 (Cm s f) I0 m0 ((0):Int) [] λ(t0:Int) b0 =>
(.br 16 (decide (t0<((s.map Lnk.v).length:Int))) (.elI 96 Lnk.v s t0 λx1 =>
(.req 128 (f.rs.length≤1000000) λh2 =>
(.callP (OA x1 f h2)
(.br 144 (iR x1 f) (.ret (t0))
(.bk 0 b0 ((W (t0+1)):Int) [])))))
(.ret (-1))))
theorem Je(s:List Lnk)(t:Tpl)(hl:t.rs.length≤1000000)(ok:yr s t):∃I m,(yo s t I m).vp yq (fU (λy=>iR y t) s):=by
 refine⟨λi=>ba s (λy=>iR y t=false) i,λi=>s.length-i.toNat,?_⟩;simp only[yr,Lnk.v,Tpl.v,okU,Blk.ok,aJ,B']at ok;dsimp only[yo,yp,Ax.vp,Ax.vc];simp only[vcU,rfU,B'];exact⟨ba.zero,λi h=>⟨λc=>⟨h.idx,c,λx hx=>⟨hl,λq=>h.found hx q,λq=>h.step (by omega) hx q⟩⟩,λc=>h.lost c⟩⟩
def Jf(s:List Lnk)(f:Tpl)(hl:f.rs.length≤1000000):PC Tryz.prog:=pcO 178 [(.s 5),.k] [.sl 5 (s.map Lnk.v) false,.func 170 [.rptr (.func 165 [.rptr (Tpl.v f) 0]) 0]] .k yq (fU (λy=>iR y f) s) (λok=>let ⟨I0,m0,h⟩:=Je s f hl ok;⟨_,h,by kernel_rfl⟩) rfl (by kernel_rfl)
def yu(r:Bool):AV:=.bool r
def qE(s:List Lnk)(f:Tpl):Ax Tryz.prog noS (Bool):=
 (.req 48 (f.rs.length≤1000000) λh1 =>
(.callP (Jf s f h1)
(.ret (decide (0≤(fU (λy=>iR y f) s))))))
theorem Jg(s:List Lnk)(t:Tpl)(hl:t.rs.length≤1000000):(qE s t).vp yu (s.any λy=>iR y t):=by
 dsimp only[qE,noS,Ax.vp,Ax.vc];simp only[vcU,rfU,B'];exact⟨hl,l6 _ _⟩
def yw(s:List Lnk)(f:Tpl)(hl:f.rs.length≤1000000):PC Tryz.prog:=pcO 168 [(.s 5),.k] [.sl 5 (s.map Lnk.v) false,.func 170 [.rptr (.func 165 [.rptr (Tpl.v f) 0]) 0]] .k yu (s.any λy=>iR y f) (λ_=>⟨(qE s f),Jg s f hl,by kernel_rfl⟩) rfl (by kernel_rfl)
theorem dM{α:Type}{l:List α}(hn:l.Nodup){i j:Nat}{x:α}(a:l[i]?=some x)(b:l[j]?=some x):i=j:=by
 have hi:=(Z'.mp a).1;have hj:=(Z'.mp b).1;rw[u' hi]at a;rw[u' hj]at b;exact(List.getElem_inj (h₀:=hi) (h₁:=hj) hn).mp (by rw[af' a,af' b])
section
variable {α β : Type} [DecidableEq α] {l : List (α × β)} {x y : α} {v z : β} {p : α × β}
theorem aS:x∈ap l↔∃v,(x,v)∈l:=by
 unfold ap;rw[Y'];exact⟨λ⟨p,h,e⟩=>⟨p.2,by rw[←e];exact h⟩,λ⟨v,h⟩=>⟨_,h,rfl⟩⟩
theorem bV:aY l x=true↔∃v,(x,v)∈l:=by
 unfold aY;rw[S',aS]
theorem gX(h:(ap l).Nodup){v w:β}(h1:(x,v)∈l)(h2:(x,w)∈l):v=w:=by
 obtain⟨i,hi⟩:=ag'.mp h1;obtain⟨j,hj⟩:=ag'.mp h2;have a:(ap l)[i]?=some x:=by rw[ap,J',hi];rfl
 have b:(ap l)[j]?=some x:=by rw[ap,J',hj];rfl
 have g:=dM h a b;subst g;rw[hi]at hj;exact congrArg Prod.snd (af' hj)
theorem lq(h:x∈ap l):∃v,l[eJ l x]?=some (x,v):=by
 have e:l[eJ l x]?=some (l[eJ l x]'(fS h)):=u' (fS h);refine⟨(l[eJ l x]'(fS h)).2,?_⟩;rw[e];have:=tB h;exact congrArg some (Prod.ext this rfl)
theorem bU(h:aY l x=true):(x,av l x z)∈l:=by
 obtain⟨v,e⟩:=lq (H' h);unfold av;rw[e];exact bt e
theorem fj(hn:(ap l).Nodup)(h:(x,v)∈l):av l x z=v:=
 gX hn (bU (bV.mpr ⟨v,h⟩)) h
theorem dj(h:aY l x=false):av l x z=z:=by
 have h:x ∉ ap l:=T' h;unfold av;rw[n7 h,aj' (V' _)]
theorem zo:aY l x=false↔∀v,(x,v) ∉ l:=by
 rw[←ce',bV];exact⟨λh v hv=>h ⟨v,hv⟩,λh ⟨v,hv⟩=>h v hv⟩
theorem Bd:ap (bB l x v)=if x∈ap l then ap l else ap l++[x]:=by
 unfold bB
 by_cases h:x∈ap l
 ·rw[G' h,G' h];unfold ap at h ⊢;rw[bO'];obtain⟨v',e⟩:=lq h;refine aS' λi=>?_;rw[ao']
  split
  ·rename_i g;subst g;rw[G' (by rw[B'];exact ao e),J',e];rfl
  ·rfl
 ·rw[F' h,F' h];simp[ap]
theorem gj(hn:(ap l).Nodup):(ap (bB l x v)).Nodup:=by
 rw[Bd]
 split
 ·exact hn
 ·rename_i h;exact ba'.mpr ⟨hn,by simp,λa ha b hb=>by rw[L'.mp hb];rintro rfl;exact h ha⟩
theorem cw(hn:(ap l).Nodup):p∈bB l x v↔p=(x,v)∨(p∈l∧p.1≠x):=by
 unfold bB
 by_cases h:x∈ap l
 ·rw[G' h];obtain⟨v',e⟩:=lq h
  constructor
  ·intro hp;obtain⟨i,hi⟩:=ag'.mp hp;rw[ao']at hi
   split at hi
   ·split at hi
    ·exact .inl (af' hi).symm
    ·cases hi
   ·rename_i g;refine .inr ⟨bt hi,?_⟩;rintro rfl;have a:(ap l)[i]?=some p.1:=by rw[ap,J',hi];rfl
    have b:(ap l)[eJ l p.1]?=some p.1:=by rw[ap,J',e];rfl
    exact g (dM hn a b).symm
  ·rintro(rfl|⟨hp,hne⟩)
   ·exact bt (i:=eJ l x) (by rw[ao',G' rfl,G' (ao e)])
   ·obtain⟨i,hi⟩:=ag'.mp hp;refine bt (i:=i) ?_
    rw[ao',F']
    ·exact hi
    ·rintro rfl;rw[e]at hi;exact hne (congrArg Prod.fst (af' hi)).symm
 ·rw[F' h,X',L']
  constructor
  ·rintro(hp|hp)
   ·exact .inr ⟨hp,λe=>h (aS.mpr ⟨p.2,by rw[←e];exact hp⟩)⟩
   ·exact .inl hp
  ·rintro(hp|⟨hp,_⟩)
   ·exact .inr hp
   ·exact .inl hp
theorem rt(hn:(ap l).Nodup):p∈mdl l x↔p∈l∧p.1≠x:=by
 unfold mdl
 by_cases h:x∈ap l
 ·obtain⟨v',e⟩:=lq h;rw[List.mem_eraseIdx_iff_getElem?]
  constructor
  ·rintro⟨i,hne,hi⟩;refine⟨bt hi,?_⟩;rintro rfl;have a:(ap l)[i]?=some p.1:=by rw[ap,J',hi];rfl
   have b:(ap l)[eJ l p.1]?=some p.1:=by rw[ap,J',e];rfl
   exact hne (dM hn a b)
  ·rintro⟨hp,hne⟩;obtain⟨i,hi⟩:=ag'.mp hp;refine⟨i,?_,hi⟩;rintro rfl;rw[e]at hi;exact hne (congrArg Prod.fst (af' hi)).symm
 ·rw[n7 h,cH' (V' _)];exact⟨λhp=>⟨hp,λe=>h (aS.mpr ⟨p.2,by rw[←e];exact hp⟩)⟩,λhp=>hp.1⟩
theorem Bg(hn:(ap l).Nodup):(ap (mdl l x)).Nodup:=by
 unfold mdl ap;rw[bQ];exact hn.sublist (List.eraseIdx_sublist _ _)
theorem Ez(hn:(ap l).Nodup):aY (bB l x v) y=(decide (y=x) || aY l y):=by
 rw[ae',aK',S',bV,bV]
 constructor
 ·rintro⟨w,h⟩
  rcases(cw hn).mp h with h|⟨h,_⟩
  ·cases h;exact .inl rfl
  ·exact .inr ⟨w,h⟩
 ·rintro(rfl|⟨w,h⟩)
  ·exact⟨v,(cw hn).mpr (.inl rfl)⟩
  ·by_cases e:y=x
   ·subst e;exact⟨v,(cw hn).mpr (.inl rfl)⟩
   ·exact⟨w,(cw hn).mpr (.inr ⟨h,e⟩)⟩
theorem Et:(bB l x v).length=if aY l x=true then l.length else l.length+1:=by
 unfold bB aY
 by_cases h:x∈ap l
 ·rw[G' h,decide_eq_true h,G' rfl,bG']
 ·rw[F' h,decide_eq_false h];simp
end
structure Stp where
  to:Int
  cost:Int
def Stp.v(x:Stp):AV:=.agg [.int x.to,.int x.cost]
abbrev Lks:=List (Int×List Stp)
abbrev Dis:=List (Int×Int)
def bfr(x b:Int×Int):Prop:=x.2<b.2∨x.2=b.2∧x.1<b.1
instance (x b:Int×Int):Decidable (bfr x b):=by unfold bfr;infer_instance
def MU:Dis→Option (Int×Int)
 | []=>none
 | x::l=>match MU l with
  | none=>some x
  | some b=>if bfr x b then some x else some b
def bst(l:Dis):Int:=match MU l with
 | none=>0
 | some b=>b.1
theorem mJ:∀{l:Dis},l≠[]→∃b,MU l=some b∧b∈l∧∀x∈l,¬bfr x b
 | [],h=>absurd rfl h
 | [x],_=>⟨x,rfl,by simp,by simp[bfr]⟩
 | x::y::l,_=>by
  obtain⟨b,h1,h2,h3⟩:=mJ (l:=y::l) (by simp);rw[MU,h1];simp only
  split
  ·rename_i h;refine⟨x,rfl,by simp,λz hz=>?_⟩
   rcases ad'.mp hz with rfl|hz
   ·simp[bfr]
   ·have:=h3 z hz;unfold bfr at *;omega
  ·rename_i h;refine⟨b,rfl,by simp[h2],λz hz=>?_⟩
   rcases ad'.mp hz with rfl|hz
   ·exact h
   ·exact h3 z hz
theorem RX{l:Dis}{b:Int×Int}(h:b∈l)(hb:∀x∈l,¬bfr x b):bst l=b.1:=by
 obtain⟨c,h1,h2,h3⟩:=mJ (l:=l) (by rintro rfl;simp at h);have e1:=hb c h2;have e2:=h3 b h;unfold bst;rw[h1];simp only;unfold bfr at e1 e2;omega
theorem bA{kk:Option Nat}{z:AV}{ok:Bool}{m k:AO}{f:Nat}{ρ:AO→AV}{hp:Hp}:evA (.mget kk z ok m k) f ρ hp=match dR hp (ρ m),(ρ k).key with
    | some (kk',ks,vs),some q=>{ c:=kk'=kk∧q.fits kk,v:=dp ks vs q z ok }
    | _,_=>.bad:=rfl
def Gz:AC:=.seq (.reg [⟨(some 35),.move (.t 8),none⟩,⟨(some 36),.rng (.t 35),none⟩])
 (.block 2 (.loop (.seq (.reg [⟨(some 37),.nxt (.t 36),none⟩,⟨(some 38),.ext 0 (.t 37),none⟩])
 (.seq (.cond (.t 38) (.skip) (.exit 2))
 (.block 3 (.seq (.reg [⟨(some 39),.ent (.t 36),none⟩,⟨(some 40),.ext 0 (.t 39),none⟩,⟨(some 41),.ext 1 (.t 39),none⟩,⟨(some 10),.move (.t 40),none⟩,⟨(some 11),.move (.t 41),none⟩])
 (.seq (.reg [⟨(some 42),.move (.t 9),none⟩,⟨(some 43),.bin .eql (.t 42) (.c (.val (.int .i64 0))),none⟩,⟨(some 44),.move (.t 43),none⟩,⟨(some 45),.move (.t 11),(some (44,false))⟩,⟨(some 46),.move (.t 8),(some (44,false))⟩,⟨(some 47),.move (.t 9),(some (44,false))⟩,⟨(some 48),.mget none ((.val (.int .i64 0))) false (.t 46) (.t 47),(some (44,false))⟩,⟨(some 49),.bin .lss (.t 45) (.t 48),(some (44,false))⟩,⟨(some 50),.pick (.t 44) (.c (.val (.bool true))) (.t 49),none⟩,⟨(some 51),.move (.t 50),none⟩,⟨(some 52),.move (.t 11),(some (51,false))⟩,⟨(some 53),.move (.t 8),(some (51,false))⟩,⟨(some 54),.move (.t 9),(some (51,false))⟩,⟨(some 55),.mget none ((.val (.int .i64 0))) false (.t 53) (.t 54),(some (51,false))⟩,⟨(some 56),.bin .eql (.t 52) (.t 55),(some (51,false))⟩,⟨(some 57),.move (.t 56),(some (51,false))⟩,⟨(some 58),.move (.t 10),(some (57,true))⟩,⟨(some 59),.move (.t 9),(some (57,true))⟩,⟨(some 60),.bin .lss (.t 58) (.t 59),(some (57,true))⟩,⟨(some 61),.pick (.t 57) (.t 60) (.c (.val (.bool false))),(some (51,false))⟩,⟨(some 62),.pick (.t 51) (.c (.val (.bool true))) (.t 61),none⟩])
 (.cond (.t 62) (.reg [⟨(some 63),.move (.t 10),none⟩,⟨(some 9),.move (.t 63),none⟩]) (.skip)))))))))
abbrev jr(L:Lks):AV:=.mp none (L.map λp=>MK.n p.1) (L.map λp=>(λl=>AV.sl 2 (l.map Stp.v) false) p.2)
abbrev s7(l:Dis):Blk:=.map none (l.map λp=>MK.n p.1) (l.map λp=>AV.int p.2)
def zW(L:Lks)(o l:Dis)(b:Int):NF:=
  ⟨[(0,.k,jr L),(5,.k,.mref 0),(8,.k,.mref 1),(9,.k,.int b)],
   [.map none (o.map λp=>MK.n p.1) (o.map λp=>AV.int p.2) (ah (λ_=>rfl) _),.map none (l.map λp=>MK.n p.1) (l.map λp=>AV.int p.2) (ah (λ_=>rfl) _)]⟩
def Rl(L:Lks)(o l:Dis)(st:List Nat)(ck:Nat)(seen:List Nat)(b:Int):S3:=
 ⟨cT [(0,jr L),(5,.mref 0),(8,.mref 1),(9,.int b),(36,.ref 2 0)],hpL 0 [some (s7 o),some (.mst none (l.map λp=>MK.n p.1) (l.map λp=>AV.int p.2) st ck),some (.itr 1 st ck seen)],3⟩
def MT(l:Dis)(st seen:List Nat)(b:Int):Prop:=(seen=[]∧b=0)∨∃(i:Nat) (x:Int×Int) (s:Nat),l[i]?=some x∧st[i]?=some s∧s∈seen∧b=x.1∧∀(j:Nat) (y:Int×Int) (s:Nat),l[j]?=some y→st[j]?=some s→s∈seen→¬bfr y x
def DR(l:Dis):Prop:=∀x∈l,x.1≠0∧-9223372036854775808≤x.1∧x.1≤9223372036854775807
theorem dst_h(L:Lks)(o l:Dis)(hl:DR l)(k:Nat):dU Tryz.prog 0 k Gz (zW L o l 0).st (zW L o l (bst l)).st:=by
 unfold dU Gz;show AWP _ 0 k _ _ ⟨cT [(0,jr L),(5,.mref 0),(8,.mref 1),(9,.int 0)],hpL 0 [some (s7 o),some (s7 l)],2⟩;refine AWP.open 1 rfl λst ck hs1 hs2 hn hv=>?_;refine AWP.seq' ?_;refine AWP.reg' λK hK=>?_
 try simp only[ak,seval]
 refine se rfl rfl ?_
 try simp only[ak,seval]
 refine hK _ _ _ ?_;clear hK K;refine AWP.block ?_;have hvl:aV (l.map λp=>AV.int p.2):=aB (ah (v:=λp:Int×Int=>AV.int p.2) (λ_=>rfl) l);have hvo:aV (o.map λp=>AV.int p.2):=aB (ah (v:=λp:Int×Int=>AV.int p.2) (λ_=>rfl) o);have rm:∀(π:Nat→Nat) (o:Dis),some (s7 o)=some (Blk.ren π (s7 o)):=λπ o=>by
  rw[Blk.ren,aX _ (aB (ah (v:=λp:Int×Int=>AV.int p.2) (λ_=>rfl) o))]
 have rs:∀(π:Nat→Nat),some (Blk.mst none (l.map λp=>MK.n p.1) (l.map λp=>AV.int p.2) st ck)=some (Blk.ren π (.mst none (l.map λp=>MK.n p.1) (l.map λp=>AV.int p.2) st ck)):=λπ=>by
  rw[Blk.ren,aX _ hvl]
 have bm:∀o:Dis,Blk.bel 3 (s7 o):=λo=>aT (aB (ah (v:=λp:Int×Int=>AV.int p.2) (λ_=>rfl) o));have bs:Blk.bel 3 (.mst none (l.map λp=>MK.n p.1) (l.map λp=>AV.int p.2) st ck):=aT hvl;rw[B']at hs2
 refine AWP.loopS (λt:List Nat×Int=>Rl L o l st ck t.1 t.2) (λt=>MT l st t.1 t.2∧t.1.Nodup∧∀s∈t.1,s∈st) (λt=>st.length-t.1.length) (i0:=([],0)) ⟨.inl ⟨rfl,rfl⟩,by simp,by simp⟩ ?_ ?_
 ·unfold Rl
  refine au.nf [0,1,18] _ _ ?_ ?_ ⟨rfl,rfl⟩ (by decide) (by decide) (by decide)
  ·repeat' (first|exact trivial|exact E' rfl trivial|refine E' ?_ ?_|rfl|exact U' rfl|exact rm _ _|exact rs _|exact bm _|exact bs)
  ·repeat' (first|exact trivial|exact E' rfl trivial|refine E' ?_ ?_|rfl|exact U' rfl|exact rm _ _|exact rs _|exact bm _|exact bs)
 ·rintro⟨seen,b⟩ ⟨hJ,hnd,hsub⟩;unfold Rl;refine AWP.seq' ?_;refine AWP.reg' λK hK=>?_
  try simp only[ak,seval]
  have hk:∀q∈(l.map λp=>MK.n p.1),kOk q:=λq hq=>by
   obtain⟨x,hx,rfl⟩:=Y'.mp hq;have:=hl x hx;show inK .i64 x.1;rw[Fl];exact this.2
  refine sf rfl rfl rfl hk (λhs=>?_) (λi q v s0 e1 e2 e3 e4=>?_)
  ·try simp only[ak,seval]
   refine hK _ _ _ ?_;clear hK K;have hb:b=bst l:=by
    rcases hJ with⟨h1,h2⟩|⟨i,x,s,g1,g2,g3,g4,g5⟩
    ·have h1:seen=[]:=h1;subst h1;have:st=[]:=ct'.mpr λs hs'=>by simpa using hs s hs'
     have:l=[]:=bd' (by rw[←hs2,this];rfl);subst this;exact h2
    ·have g4:b=x.1:=g4;rw[g4];refine(RX (bt g1) λy hy=>?_).symm;obtain⟨j,hj⟩:=ag'.mp hy;have hlt:=ao hj;exact g5 j y (st[j]'(by omega)) hj (u' (by omega)) (hs _ (aA' _))
   refine AWP.seq' (AWP.cond (b:=false) rfl (λh=>by cases h) (λ_=>AWP.exit ?_));show au 0 k _ ⟨cT [(0,jr L),(5,.mref 0),(8,.mref 1),(9,.int (bst l))],hpL 0 [some (s7 o),some (s7 l)],2⟩;rw[←hb];refine au.trans (au.close 1 rfl) ?_;have bm:∀o:Dis,Blk.bel 2 (s7 o):=λo=>aT (aB (ah (v:=λp:Int×Int=>AV.int p.2) (λ_=>rfl) o))
   refine au.nf [0,1] _ _ ?_ ?_ ⟨rfl,rfl⟩ (by decide) (by decide) (by decide)
   ·repeat' (first|exact trivial|exact E' rfl trivial|refine E' ?_ ?_|rfl|exact U' rfl|exact rm _ _|exact bm _)
   ·repeat' (first|exact trivial|exact E' rfl trivial|refine E' ?_ ?_|rfl|exact U' rfl|exact rm _ _|exact bm _)
  ·try simp only[ak,seval]
   refine hK _ _ _ ?_;clear hK K;refine AWP.seq' (AWP.cond (b:=true) rfl (λ_=>?_) (λh=>by cases h));refine AWP.skip ?_;refine AWP.block (AWP.seq' ?_);rw[J',aB']at e1 e2;obtain⟨x,e1,rfl⟩:=e1;obtain⟨x',e2,rfl⟩:=e2;rw[e1]at e2;cases e2;have e5:(l.map λp=>MK.n p.1)[i]?=some (MK.n x.1):=by rw[J',e1];rfl
   have e6:(l.map λp=>AV.int p.2)[i]?=some (AV.int x.2):=by rw[J',e1];rfl
   refine AWP.reg' λK hK=>?_
   try simp only[ak,seval]
   refine si rfl rfl rfl e3 e5 e6 (hk _ (O' e5)) ?_
   try simp only[ak,seval,kAV]
   refine hK _ _ _ ?_;clear hK K;refine AWP.seq' ?_;have hN:(seen++[s0]).Nodup:=ba'.mpr ⟨hnd,by simp,λa ha b hb=>by rw[L'.mp hb];rintro rfl;exact e4 ha⟩;have hS:∀s∈seen++[s0],s∈st:=λs hs=>by
    rcases X'.mp hs with hs|hs
    ·exact hsub s hs
    ·rw[L'.mp hs];exact O' e3
   have hL:st.length-(seen++[s0]).length<st.length-seen.length:=by
    have:=List.Nodup.length_le_of_subset hN hS;rw[List.length_append,List.length_singleton]at this ⊢;omega
   have hu:∀{j y},l[j]?=some y→st[j]?=some s0→y=x:=λ{j y} h1 h2=>by
    have:=dM hs1 h2 e3;subst this;rw[h1]at e1;exact af' e1
   have hnew:(∀(j:Nat) (y:Int×Int) (s:Nat),l[j]?=some y→st[j]?=some s→s∈seen→¬bfr y x)→MT l st (seen++[s0]) x.1:=λh =>
    .inr ⟨i,x,s0,e1,e3,by simp,rfl,λj y s h1 h2 h3=>by
     rcases X'.mp h3 with h3|h3
     ·exact h j y s h1 h2 h3
     ·rw[L'.mp h3]at h2;rw[hu h1 h2];simp[bfr]⟩
   rcases hJ with⟨h1,h2⟩|⟨i',y,s,g1,g2,g3,g4,g5⟩
   ·have h1:seen=[]:=h1;have h2:b=0:=h2;subst h1;subst h2;have hJ':=hnew (λj y s _ _ h3=>by simp at h3);refine AWP.reg' λK hK=>?_
    try simp only[ak,seval]
    refine hK _ _ _ ?_;clear hK K;refine AWP.cond (b:=true) rfl (λ_=>?_) (λh=>by cases h);refine AWP.reg' λK hK=>?_
    try simp only[ak,seval]
    refine hK _ _ _ ?_;clear hK K;refine⟨(_,_),⟨hJ',hN,hS⟩,hL,?_⟩
    refine au.nf [0,1,2] _ _ ?_ ?_ ⟨rfl,rfl⟩ (by decide) (by decide) (by decide)
    ·repeat' (first|exact trivial|exact E' rfl trivial|refine E' ?_ ?_|rfl|exact U' rfl|exact rm _ _|exact rs _|exact bm _|exact bs)
    ·repeat' (first|exact trivial|exact E' rfl trivial|refine E' ?_ ?_|rfl|exact U' rfl|exact rm _ _|exact rs _|exact bm _|exact bs)
   ·have g4:b=y.1:=g4;subst g4;have hy0:¬y.1=0:=(hl y (bt g1)).1;have hmg:dp (l.map λp=>MK.n p.1) (l.map λp=>AV.int p.2) (MK.n y.1) (AV.int 0) false=AV.int y.2:=by
     have hh:aY l y.1=true:=bV.mpr ⟨y.2,bt g1⟩;have hnk:(ap l).Nodup:=by
      have:=oD (l:=l) (kf:=MK.n);rw[this]at hn;exact List.Pairwise.of_map MK.n (λa b h e=>h (congrArg _ e)) hn
     rw[mi (vf:=AV.int) (z:=0) (λ_ _ h=>MK.n.inj h) hh,fj hnk (bt g1)];rfl
    have hy1:(y.1==0)=false:=by simpa using hy0
    have hbt:bfr x y→MT l st (seen++[s0]) x.1:=λh=>hnew λj z s' h1 h2 h3=>by
     have:=g5 j z s' h1 h2 h3;unfold bfr at *;omega
    have hbf:¬bfr x y→MT l st (seen++[s0]) y.1:=λh=>.inr ⟨i',y,s,g1,g2,cl' _ g3,rfl,λj z s' h1 h2 h3=>by
     rcases X'.mp h3 with h3|h3
     ·exact g5 j z s' h1 h2 h3
     ·rw[L'.mp h3]at h2;rw[hu h1 h2];exact h⟩
    by_cases c1:x.2<y.2
    ·refine AWP.reg' λK hK=>?_
     try simp only[ak,seval,hy0,hy1,hmg,bA,dR,AV.key,MK.fits,and_self,true_and,c1]
     refine hK _ _ _ ?_;clear hK K;refine AWP.cond (b:=true) rfl (λ_=>?_) (λh=>by cases h);refine AWP.reg' λK hK=>?_
     try simp only[ak,seval]
     refine hK _ _ _ ?_;clear hK K;refine⟨(_,_),⟨hbt (.inl c1),hN,hS⟩,hL,?_⟩
     refine au.nf [0,1,2] _ _ ?_ ?_ ⟨rfl,rfl⟩ (by decide) (by decide) (by decide)
     ·repeat' (first|exact trivial|exact E' rfl trivial|refine E' ?_ ?_|rfl|exact U' rfl|exact rm _ _|exact rs _|exact bm _|exact bs)
     ·repeat' (first|exact trivial|exact E' rfl trivial|refine E' ?_ ?_|rfl|exact U' rfl|exact rm _ _|exact rs _|exact bm _|exact bs)
    ·by_cases c2:x.2=y.2
     ·have c2':(x.2==y.2)=true:=by simpa using c2
      by_cases c3:x.1<y.1
      ·refine AWP.reg' λK hK=>?_
       try simp only[ak,seval,hy0,hy1,hmg,bA,dR,AV.key,MK.fits,and_self,true_and,c1,c2',c3]
       refine hK _ _ _ ?_;clear hK K;refine AWP.cond (b:=true) rfl (λ_=>?_) (λh=>by cases h);refine AWP.reg' λK hK=>?_
       try simp only[ak,seval]
       refine hK _ _ _ ?_;clear hK K;refine⟨(_,_),⟨hbt (.inr ⟨c2,c3⟩),hN,hS⟩,hL,?_⟩
       refine au.nf [0,1,2] _ _ ?_ ?_ ⟨rfl,rfl⟩ (by decide) (by decide) (by decide)
       ·repeat' (first|exact trivial|exact E' rfl trivial|refine E' ?_ ?_|rfl|exact U' rfl|exact rm _ _|exact rs _|exact bm _|exact bs)
       ·repeat' (first|exact trivial|exact E' rfl trivial|refine E' ?_ ?_|rfl|exact U' rfl|exact rm _ _|exact rs _|exact bm _|exact bs)
      ·refine AWP.reg' λK hK=>?_
       try simp only[ak,seval,hy0,hy1,hmg,bA,dR,AV.key,MK.fits,and_self,true_and,c1,c2',c3]
       refine hK _ _ _ ?_;clear hK K;refine AWP.cond (b:=false) rfl (λh=>by cases h) (λ_=>?_);refine AWP.skip ?_;refine⟨(_,_),⟨hbf (by unfold bfr;omega),hN,hS⟩,hL,?_⟩
       refine au.nf [0,1,2] _ _ ?_ ?_ ⟨rfl,rfl⟩ (by decide) (by decide) (by decide)
       ·repeat' (first|exact trivial|exact E' rfl trivial|refine E' ?_ ?_|rfl|exact U' rfl|exact rm _ _|exact rs _|exact bm _|exact bs)
       ·repeat' (first|exact trivial|exact E' rfl trivial|refine E' ?_ ?_|rfl|exact U' rfl|exact rm _ _|exact rs _|exact bm _|exact bs)
     ·have c2':(x.2==y.2)=false:=by simpa using c2
      refine AWP.reg' λK hK=>?_
      try simp only[ak,seval,hy0,hy1,hmg,bA,dR,AV.key,MK.fits,and_self,true_and,c1,c2']
      refine hK _ _ _ ?_;clear hK K;refine AWP.cond (b:=false) rfl (λh=>by cases h) (λ_=>?_);refine AWP.skip ?_;refine⟨(_,_),⟨hbf (by unfold bfr;omega),hN,hS⟩,hL,?_⟩
      refine au.nf [0,1,2] _ _ ?_ ?_ ⟨rfl,rfl⟩ (by decide) (by decide) (by decide)
      ·repeat' (first|exact trivial|exact E' rfl trivial|refine E' ?_ ?_|rfl|exact U' rfl|exact rm _ _|exact rs _|exact bm _|exact bs)
      ·repeat' (first|exact trivial|exact E' rfl trivial|refine E' ?_ ?_|rfl|exact U' rfl|exact rm _ _|exact rs _|exact bm _|exact bs)
theorem dO.refN{foot:List Nat}{hp:Hp}{b off:Nat}{x y:AV}(hb:b∈foot)(h:hp b=some (.box x))(hv:dO foot hp x y)(hs:y.solid=true):dO foot hp (.ref b off) (.rptr y off):=by
 intro P c A μ fr tm' hp' n a w cv H hh hv';obtain⟨hd,e1,e2,rfl⟩:=hv';obtain⟨hd',v,ty,f1,f2,f3,f4,f5,f6⟩:=H.box ((hh b hb).trans h);rw[e1]at f1;cases f1;obtain⟨hd',g1,_,g3⟩:=H.blk b _ ((hh b hb).trans h);rw[e1]at g1;cases g1;have q:=hv P c A μ fr tm' hp' n a w v H hh f4;refine⟨hd.blk,0,v,by simp,.inr ⟨b,_,hd,(hh b hb).trans h,e1,e2,rfl⟩,q,(RV.cells hs q).2,λp u hu=>f6 p u hu⟩
def Cj:AC:=.reg [⟨(some 52),.faddr 1 (.t 1),none⟩,⟨(some 53),.load false 1 (.t 52),none⟩,⟨(some 54),.mkf 170 [(.t 4)],none⟩,⟨(some 55),.call (.c (.func 168 [])) [(.t 53),(.t 54)],none⟩,⟨(some 51),.move (.t 55),none⟩]
def NH(t:Tpl):NF:=⟨[(1,.k,.ref 0 0),(4,.k,.ref 1 0)],[.box (Tpl.v t),.box (.func 165 [.ref 0 0])]⟩
def NG(t:Tpl)(b:Bool):NF:=⟨[(1,.k,.ref 0 0),(51,.k,.bool b)],[.box (Tpl.v t)]⟩
theorem unk_h(t:Tpl)(hl:t.rs.length≤1000000)(k:Nat):dU Tryz.prog 0 k Cj (NH t).st (NG t (t.ls.any λy=>iR y t)).st:=by
 unfold dU Cj;show AWP _ 0 k _ _ ⟨cT [(1,.ref 0 0),(4,.ref 1 0)],hpL 0 [some (.box (Tpl.v t)),some (.box (.func 165 [.ref 0 0]))],2⟩;refine AWP.reg' λK hK=>?_
 try simp only[ak,seval,Tpl.v]
 refine uq [0,1] (yw t.ls t hl).ok (yw t.ls t hl).fn rfl rfl ⟨dO.pure trivial,dO.func ⟨?_,trivial⟩,trivial⟩ trivial ?_
 ·refine dO.refN (by simp) rfl (dO.func ⟨dO.ref (by simp) rfl ⟨trivial,trivial,trivial⟩,trivial⟩) rfl
 try simp only[ak,seval]
 refine hK _ _ _ ?_;clear hK K;refine(show au 0 k _ ⟨cT [(1,.ref 0 0),(51,.bool (t.ls.any λy=>iR y t))],hpL 0 [some (.box (Tpl.v t))],1⟩from ?_)
 refine au.nf [0] _ _ ?_ ?_ ⟨rfl,rfl⟩ (by decide) (by decide) (by decide)
 ·repeat' (first|exact trivial|exact E' rfl trivial|refine E' ?_ ?_|rfl|exact U' rfl)
 ·repeat' (first|exact trivial|exact E' rfl trivial|refine E' ?_ ?_|rfl|exact U' rfl)
def fN{α:Type}(l:List α)(R:α→α→Prop)(t:Int):Prop:=∃k:Nat,t=k∧k≤l.length∧∀(j:Nat) x y,j+1<k→l[j]?=some x→l[j+1]?=some y→R x y
section
variable {α : Type} {l : List α} {R : α → α → Prop} {t : Int} {x y : α}
theorem fN.zero:fN l R 0:=⟨0,rfl,by omega,λj x y h=>by omega⟩
theorem fN.idx(h:fN l R t):0≤t:=by obtain⟨k,rfl,_,_⟩:=h;omega
theorem fN.step0(h:fN l R t)(hl:l.length≤1000000)(c:t<l.length)(h0:¬0<t):fN l R (W (t+1))∧l.length-(W (t+1)).toNat<l.length-t.toNat:=by
 obtain⟨k,rfl,hk,ha⟩:=h;obtain rfl:k=0:=by omega
 rw[bf (n:=l.length) (by omega) (by omega)];exact⟨⟨1,rfl,by omega,λj x y hj=>by omega⟩,by omega⟩
theorem fN.step(h:fN l R t)(hl:l.length≤1000000)(h0:0<t)(hx:l[(W (t-1)).toNat]?=some x)(hy:l[t.toNat]?=some y)(p:R x y):fN l R (W (t+1))∧l.length-(W (t+1)).toNat<l.length-t.toNat:=by
 obtain⟨k,rfl,hk,ha⟩:=h;rw[Int.toNat_natCast]at hy;have hlt:=ao hy;rw[kI (by omega) (by omega),Int.toNat_natCast]at hx;rw[bf (n:=l.length) hlt (by omega)];refine⟨⟨k+1,rfl,by omega,λj x' y' hj hx' hy'=>?_⟩,by omega⟩
 by_cases e:j+1=k
 ·subst e;rw[show j+1-1=j by omega,hx']at hx;cases hx;rw[hy']at hy;cases hy;exact p
 ·exact ha j x' y' (by omega) hx' hy'
theorem fN.bad(h:fN l R t)(hl:l.length≤1000000)(h0:0<t)(hx:l[(W (t-1)).toNat]?=some x)(hy:l[t.toNat]?=some y)(p:¬R x y):¬l.Pairwise R:=by
 obtain⟨k,rfl,hk,ha⟩:=h;rw[Int.toNat_natCast]at hy;have hlt:=ao hy;rw[kI (by omega) (by omega),Int.toNat_natCast]at hx;intro hp;rw[ax']at hp;have:=hp (k-1) k (by omega) hlt (by omega);rw[u' (by omega)]at hx hy;rw[af' hx,af' hy]at this;exact p this
theorem fN.rng(h:fN l R t)(hl:l.length≤1000000)(h0:0<t)(c:t<l.length):0≤W (t-1)∧W (t-1)<l.length:=by
 obtain⟨k,rfl,hk,ha⟩:=h;rw[kI (by omega) (by omega)];omega
theorem fN.next(h:fN l R t)(hl:l.length≤1000000)(c:t<l.length){b:Bool}(hb:b=true↔0<t∧∃x y,l[(W (t-1)).toNat]?=some x∧l[t.toNat]?=some y∧¬R x y) :
  (b=true→¬l.Pairwise R)∧(b=false→fN l R (W (t+1))∧l.length-(W (t+1)).toNat<l.length-t.toNat):=by
 refine⟨λe=>?_,λe=>?_⟩
 ·obtain⟨h0,x,y,hx,hy,p⟩:=hb.mp e;exact h.bad hl h0 hx hy p
 ·by_cases h0:0<t
  ·obtain⟨g1,g2⟩:=h.rng hl h0 c;have hx:=u' (show(W (t-1)).toNat<l.length by omega);have hy:=u' (show t.toNat<l.length by omega);refine h.step hl h0 hx hy (P' λp=>?_);have:=hb.mpr ⟨h0,_,_,hx,hy,p⟩;rw[e]at this;cases this
  ·exact h.step0 hl c h0
theorem fN.done(h:fN l R t)(c:¬t<l.length)(tr:∀x y z,R x y→R y z→R x z):l.Pairwise R:=by
 obtain⟨k,rfl,hk,ha⟩:=h;rw[ax'];have key:∀d i,(hi:i+d+1<l.length)→R (l[i]'(by omega)) l[i+d+1]:=by
  intro d
  induction d with
  | zero=>intro i hi;exact ha i _ _ (by omega) (u' (by omega)) (u' hi)
  | succ d ih =>
   intro i hi;exact tr _ _ _ (ih i (by omega)) (ha (i+d+1) _ _ (by omega) (u' (by omega)) (u' hi))
 intro i j hi hj hij;have:=key (j-i-1) i (by omega);simp only[show i+(j-i-1)+1=j by omega]at this;exact this
end
theorem uU{l:List Rtr}(h:l.Pairwise (λx y=>x.id<y.id)){i j:Nat}(hij:i<j){x y:Rtr}(hx:l[i]?=some x)(hy:l[j]?=some y):x.id<y.id:=by
 have hi:=ao hx;have hj:=ao hy;rw[u' hi]at hx;rw[u' hj]at hy;have:=ax'.mp h i j hi hj hij;rw[af' hx,af' hy]at this;exact this
theorem tb(l:List Rtr):l.any kX=true↔¬∀x∈l,1≤x.id∧x.id≤99:=by
 rw[ac']
 constructor
 ·rintro⟨x,hx,e⟩ h;have:=h x hx;simp[kX,inT,this]at e
 ·intro h;refine P' λq=>h λx hx=>?_;have:¬kX x=true:=λe=>q ⟨x,hx,e⟩;simp[kX,inT]at this;omega
theorem uG(l:List Lnk):l.any lF=true↔¬∀x∈l,gt x:=by
 rw[ac'];have key:∀x:Lnk,lF x=true↔¬gt x:=λx=>by
  unfold lF gt inT ei;simp;omega
 constructor
 ·rintro⟨x,hx,e⟩ h;exact(key x).mp e (h x hx)
 ·intro h;exact P' λq=>h λx hx=>P' λr=>q ⟨x,hx,(key x).mpr r⟩
theorem uY(l:List Lnk):l.any mM=true↔¬∀x∈l,x.a<x.b:=by
 rw[ac']
 constructor
 ·rintro⟨x,hx,e⟩ h;have:=h x hx;simp[mM]at e;omega
 ·intro h;exact P' λq=>h λx hx=>P' λr=>q ⟨x,hx,by simp[mM];omega⟩
theorem oM{l:List Rtr}(h:l.Pairwise λx y=>x.id<y.id)(r:Int):(nk l r=l.any (eqR r))∧∀x∈l,eqR r x=true→l[qW l r]?=some x:=by
 refine At (λa b x y hab hx hy e=>?_) (λx e=>?_) λa b x y hab hx hy e=>?_
 ·have:=uU h hab hx hy;simp[ltR]at e ⊢;omega
 ·simp[eqR]at e;simp[ltR];omega
 ·have:=uU h hab hx hy;simp[eqR]at e;simp[ltR];omega
theorem sS{t:Tpl}(h:t.rs.Pairwise λx y=>x.id<y.id):(t.ls.any λy=>iR y t)=true↔¬∀l∈t.ls,az t l.a=true∧az t l.b=true:=by
 have key:∀l:Lnk,iR l t=true↔¬(az t l.a=true∧az t l.b=true):=λl=>by
  unfold iR vu;rw[(oM h l.a).1,(oM h l.b).1];show(!az t l.a || !az t l.b)=true↔_;cases az t l.a<;>cases az t l.b<;>simp
 rw[ac']
 constructor
 ·rintro⟨x,hx,e⟩ q;exact(key x).mp e (q x hx)
 ·intro q;exact P' λq2=>q λx hx=>P' λr=>q2 ⟨x,hx,(key x).mpr r⟩
def Hr(t:Tpl):=okL [Tpl.v t]
def Mv(t:Tpl)(t0:Bool):NF:=⟨[rR 1 0,rB 6 t0],[.box (Tpl.v t)]⟩
def Mt(t:Tpl)(t1:Int):NF:=⟨[rR 1 0,rI 23 ((t.rs.map Rtr.v).length:Int),rI 24 t1],[.box (Tpl.v t)]⟩
def Ms(t:Tpl)(t1:Int)(t2:Bool):NF:=⟨[rR 1 0,rI 23 ((t.rs.map Rtr.v).length:Int),rI 24 t1,rB 44 t2],[.box (Tpl.v t)]⟩
def Mr(t:Tpl)(t3:Int):NF:=⟨[rR 1 0,rI 62 ((t.ls.map Lnk.v).length:Int),rI 63 t3],[.box (Tpl.v t)]⟩
def Mq(t:Tpl)(t3:Int)(t4:Bool):NF:=⟨[rR 1 0,rI 62 ((t.ls.map Lnk.v).length:Int),rI 63 t3,rB 82 t4],[.box (Tpl.v t)]⟩
@[reducible] def Hn:Nat→Type
 | 0=>Bool
 | 1=>Int
 | 2=>Bool
 | 3=>Int
 | 4=>Bool
 | _=>Unit
def Ho(r:Int):AV:=.int r
def Hm(t:Tpl)(I0:Bool→Prop)(I1:Bool→Int→Prop)(m1:Bool→Int→Nat)(I2:Bool→Int→Bool→Prop)(I3:Bool→Int→Int→Prop)(m3:Bool→Int→Int→Nat)(I4:Bool→Int→Int→Bool→Prop):Ax Tryz.prog Hn (Int):=
 (.pass (.pass (.join 0 (Mv t) (λ(t0:Bool)=>I0 t0) (λb0=>(.br 112 (decide (24<((t.rs.map Rtr.v).length:Int))) (.bk 0 b0 ((true):Bool) [0])
(.bk 0 b0 ((decide (60<((t.ls.map Lnk.v).length:Int))):Bool) [0]))) λ(t0:Bool) =>
(.br 1 t0 (.ret (3))
(.callP (JF t.rs)
(.br 65 ((t.rs).any kX) (.ret (2))
(.loop 1 (Mt t) (I1 t0) (m1 t0) ((0):Int) [0] λ(t1:Int) b1 =>
(.br 17 (decide (t1<((t.rs.map Rtr.v).length:Int))) (.pass (.pass (.join 2 (Ms t t1) (λ(t2:Bool)=>I2 t0 t1 t2) (λb2=>(.br 97 (decide (0<t1)) (.elI 161 Rtr.v t.rs (W (t1-1)) λx1 =>
(.elI 257 Rtr.v t.rs t1 λx2 =>
(.bk 2 b2 ((decide (x2.id≤x1.id)):Bool) [0])))
(.bk 2 b2 ((false):Bool) [0]))) λ(t2:Bool) =>
(.br 1 t2 (.ret (25))
(.bk 1 b1 ((W (t1+1)):Int) [0])))))
(.callP (Ma t.ls)
(.br 129 ((t.ls).any lF) (.ret (2))
(.handQ 0 (NH t) [0,33] ((NG t ((t).ls.any λy=>iR y t)).st) Cj ((t).rs.length≤1000000) (unk_h t)
(.br 1 (t.ls.any λy=>iR y t) (.ret (4))
(.callP (NA t.ls)
(.br 65 ((t.ls).any mM) (.ret (8))
(.loop 3 (Mr t) (I3 t0 t1) (m3 t0 t1) ((0):Int) [0] λ(t3:Int) b3 =>
(.br 17 (decide (t3<((t.ls.map Lnk.v).length:Int))) (.pass (.pass (.join 4 (Mq t t3) (λ(t4:Bool)=>I4 t0 t1 t3 t4) (λb4=>(.br 97 (decide (0<t3)) (.elI 161 Lnk.v t.ls (W (t3-1)) λx3 =>
(.elI 241 Lnk.v t.ls t3 λx4 =>
(.callP (xJ x3 x4)
(.bk 4 b4 ((decide (0≤(sC x3 x4))):Bool) [0]))))
(.bk 4 b4 ((false):Bool) [0]))) λ(t4:Bool) =>
(.br 1 t4 (.ret (25))
(.bk 3 b3 ((W (t3+1)):Int) [0])))))
(.ret (0))))))))))))))))))
theorem RF(t:Tpl)(ok:Hr t):∃I0 I1 m1 I2 I3 m3 I4,(Hm t I0 I1 m1 I2 I3 m3 I4).vp Ho (ay t):=by
 refine⟨λb=>b=decide (24<t.rs.length∨60<t.ls.length),λ_ i=>fN t.rs (λx y=>x.id<y.id) i,λ_ i=>t.rs.length-i.toNat,
  λ_ i b=>b=true↔0<i∧∃x y,t.rs[(W (i-1)).toNat]?=some x∧t.rs[i.toNat]?=some y∧¬x.id<y.id,λ_ _ i=>fN t.ls aM i,λ_ _ i=>t.ls.length-i.toNat,
  λ_ _ i b=>b=true↔0<i∧∃x y,t.ls[(W (i-1)).toNat]?=some x∧t.ls[i.toNat]?=some y∧¬aM x y,?_⟩
 simp only[Hr,Tpl.v,okU,Blk.ok,aJ,B']at ok;dsimp only[Hm,Hn,Ax.vp,Ax.vc];simp only[vcU,rfU,B'];refine⟨⟨λc=>(decide_eq_true (.inl (by omega))).symm,λc=>decide_eq_decide.mpr (by omega)⟩,?_⟩;rintro _ rfl;unfold ay;refine⟨λc=>by rw[G' (H' c)],λc=>?_⟩;have c:=T' c;rw[F' c];refine⟨λd=>by rw[G' ((tb _).mp d)],λd=>?_⟩;have d:∀x∈t.rs,1≤x.id∧x.id≤99:=P' λq=>by rw[(tb _).mpr q]at d;cases d
 rw[F' (not_not_intro d)]
 refine⟨fN.zero,λi h=>⟨λc1=>⟨⟨λh0=>?_,λh0=>?_⟩,λb hb=>?_⟩,λc1=>?_⟩⟩
 ·obtain⟨g1,g2⟩:=h.rng (by omega) h0 c1;refine⟨g1,g2,λx hx=>⟨h.idx,c1,λy hy=>⟨λe=>⟨h0,x,y,hx,hy,by omega⟩,?_⟩⟩⟩;rintro⟨_,x',y',hx',hy',p⟩;rw[hx]at hx';cases hx';rw[hy]at hy';cases hy';omega
 ·exact⟨nofun,λe=>absurd e.1 h0⟩
 ·obtain⟨n1,n2⟩:=h.next (by omega) c1 hb;exact⟨λe=>by rw[G' (n1 e)],n2⟩
 have hP:=h.done c1 λ_ _ _ q r=>cz' q r;rw[F' (not_not_intro hP)];refine⟨λe=>by rw[G' ((uG _).mp e)],λe=>?_⟩;have e:∀x∈t.ls,gt x:=P' λq=>by rw[(uG _).mpr q]at e;cases e
 rw[F' (not_not_intro e)];refine⟨by omega,λf=>by rw[G' ((sS hP).mp f)],λf=>?_⟩;have f:∀l∈t.ls,az t l.a=true∧az t l.b=true:=P' λq=>by rw[(sS hP).mpr q]at f;cases f
 rw[F' (not_not_intro f)];refine⟨λg=>by rw[G' ((uY _).mp g)],λg=>?_⟩;have g:∀x∈t.ls,x.a<x.b:=P' λq=>by rw[(uY _).mpr q]at g;cases g
 rw[F' (not_not_intro g)]
 refine⟨fN.zero,λi h=>⟨λc1=>⟨⟨λh0=>?_,λh0=>?_⟩,λb hb=>?_⟩,λc1=>?_⟩⟩
 ·obtain⟨g1,g2⟩:=h.rng (by omega) h0 c1;refine⟨g1,g2,λx hx=>⟨h.idx,c1,λy hy=>⟨λe=>⟨h0,x,y,hx,hy,λq=>by have:=(nG x y).mpr q;omega⟩,?_⟩⟩⟩;rintro⟨_,x',y',hx',hy',p⟩;rw[hx]at hx';cases hx';rw[hy]at hy';cases hy';exact P' λq=>p ((nG x y).mp (by omega))
 ·exact⟨nofun,λe=>absurd e.1 h0⟩
 ·obtain⟨n1,n2⟩:=h.next (by omega) c1 hb;exact⟨λe=>by rw[G' (n1 e)],n2⟩
 ·rw[F' (not_not_intro (h.done c1 λ_ _ _ q r=>by unfold aM at *;omega))]
def Hq(t:Tpl):PC Tryz.prog:=pcO 149 [(.a [(.s 2),(.s 5)])] [Tpl.v t] .k Ho (ay t) (λok=>let ⟨I0,I1,m1,I2,I3,m3,I4,h⟩:=RF t ok;⟨_,h,by kernel_rfl⟩) rfl (by kernel_rfl)
def iY(t:Tpl):Bool:=ay t==0
def Ci(r:Bool):AV:=.bool r
def vo(t:Tpl):Ax Tryz.prog noS (Bool):=
 (.callP (Hq t)
(.ret ((ay t)==0)))
theorem O6(t:Tpl):(vo t).vp Ci (iY t):=by
 dsimp only[vo,noS,Ax.vp,Ax.vc];simp only[vcU,rfU,B'];rfl
def vq(t:Tpl):PC Tryz.prog:=pcO 119 [(.a [(.s 2),(.s 5)])] [Tpl.v t] .k Ci (iY t) (λ_=>⟨(vo t),O6 t,by kernel_rfl⟩) rfl (by kernel_rfl)
def Fr(i:Nat):Nat:=1000+i
theorem q9{i b:Nat}(hb:b<1000):(Fr i=b)=False:=by unfold Fr;simp;omega
theorem bO{i b:Nat}(hb:b<1000):(b=Fr i)=False:=by unfold Fr;simp;omega
theorem iQ{i b:Nat}(hi:i<1000)(hb:2000≤b):(Fr i=b)=False:=by unfold Fr;simp;omega
theorem sO{i j:Nat}:(Fr i=Fr j)=(i=j):=by unfold Fr;simp
def fL(bs fs:Nat→Nat)(b:Nat):Nat:=if 1000≤b∧b<2000 then fs (b-1000)else bs b
theorem kB{bs fs:Nat→Nat}{i:Nat}(h:i<1000):fL bs fs (Fr i)=fs i:=by unfold fL Fr;rw[G' (by omega),show 1000+i-1000=i by omega]
theorem fk{bs fs:Nat→Nat}{b:Nat}(h:b<1000):fL bs fs b=bs b:=F' (by omega)
section
variable {ρ : Type} (kk : Nat) (v : ρ → AV)
def GR(rows:List (List ρ))(h:Hp):Hp:=λb=>if 1000≤b∧b<2000 then(rows[b-1000]?).map (λr=>Blk.vec kk (r.map v))else h b
variable {kk v}
theorem na{rows:List (List ρ)}{h:Hp}{b:Nat}(hb:b<1000):GR kk v rows h b=h b:=F' (by omega)
theorem iL{rows:List (List ρ)}{h:Hp}{i:Nat}{r:List ρ}(hr:rows[i]?=some r)(hl:rows.length≤1000):GR kk v rows h (Fr i)=some (.vec kk (r.map v)):=by
 have:i<rows.length:=(Z'.mp hr).1;unfold GR Fr;rw[G' (by omega),show 1000+i-1000=i by omega,hr];rfl
theorem au.nfR(hpu:∀x,(v x).pureB=true){k n:Nat}{tm:Nat→AV}{hp:Hp}{nx:Nat}(rows:List (List ρ))(ts:List (Nat×AV))(hs:List (Option Blk))(bs fs:Nat→Nat)
    (hT:∀p∈ts,tm p.1=p.2.ren (fL bs fs)∧p.2.bel 2000) (hH:∀i x,hs[i]?=some (some x)→hp (bs i)=some (x.ren (fL bs fs))∧x.bel 2000)
    (hl:hs.length≤1000) (hr:rows.length≤1000) (hR:∀i r,rows[i]?=some r→hp (fs i)=some (.vec kk (r.map v)))
    (h1:∀i j,i<hs.length→j<hs.length→bs i=bs j→i=j) (h2:∀i j,i<rows.length→j<rows.length→fs i=fs j→i=j) (h3:∀i j,i<hs.length→j<rows.length→bs i≠fs j)
    (hk:∀b,b<k→bs b=b) (hkl:k≤1000):au k n ⟨tm,hp,nx⟩ ⟨cT ts,GR kk v rows (hpL 0 hs),2000⟩:=by
  have pur:∀r:List ρ,aV (r.map v):=λr=>aB (ah hpu r);have low:∀{b x},hpL 0 hs b=some x→hs[b]?=some (some x):=λ{b x} e=>by
    rw[wY,G' (aG' _),Nat.sub_zero]at e;cases e':hs[b]? with
    | none=>rw[e']at e;cases e
    | some y=>rw[e']at e;exact congrArg some e
  have cls:∀{b x},GR kk v rows (hpL 0 hs) b=some x→(∃i r,b=Fr i∧i<rows.length∧rows[i]?=some r∧x=.vec kk (r.map v))∨(b<hs.length∧hs[b]?=some (some x)):=λ{b x} e=>by
    unfold GR at e
    split at e
    · rename_i hb
      obtain⟨r,hr,rfl⟩:=aB'.mp e;exact .inl ⟨b-1000,r,by unfold Fr;omega,(Z'.mp hr).1,hr,rfl⟩
    · have:=low e
      exact .inr ⟨(Z'.mp this).1,this⟩
  refine au.ren (fL bs fs) (λt=>?_) (λb x e=>?_) (λb b' e e' he=>?_) (λb hb=>?_) (by show k≤2000;omega)
  · show cT ts t=.unk∨(tm t=(cT ts t).ren _∧(cT ts t).bel 2000)
    clear hH hR h1 h2 h3 cls low hl
    induction ts with
    | nil=>exact .inl rfl
    | cons p l ih =>
      obtain⟨t',x⟩:=p
      by_cases ht:t=t'
      · subst ht
        have:=hT (t,x) (by simp);simp only[cT,↓reduceIte];exact .inr this
      · have:=ih (λp hp=>hT p (by simp[hp]))
        simp only[cT,F' ht];exact this
  · show b<2000∧hp (fL bs fs b)=some (x.ren (fL bs fs))∧x.bel 2000
    rcases cls e with⟨i,r,rfl,hi,hr',rfl⟩|⟨hb,e⟩
    · refine⟨by unfold Fr;omega,?_,aT (pur r)⟩
      rw[kB (by omega),hR i r hr',Blk.ren,aX _ (pur r)]
    · obtain⟨g1,g2⟩:=hH b x e
      exact⟨by omega,by rw[fk (by omega)];exact g1,g2⟩
  · have c1:∀{b},GR kk v rows (hpL 0 hs) b≠none→(∃i,b=Fr i∧i<rows.length)∨b<hs.length:=λ{b} e=>by
      cases q:GR kk v rows (hpL 0 hs) b with
      | none=>exact absurd q e
      | some x => rcases cls q with ⟨i, r, g1, g2, _⟩ | ⟨g, _⟩
                  · exact .inl ⟨i,g1,g2⟩
                  · exact .inr g
    rcases c1 e with⟨i,rfl,hi⟩|hb<;>rcases c1 e' with⟨j,rfl,hj⟩|hb'
    · rw[kB (by omega),kB (by omega)]at he
      rw[h2 i j hi hj he]
    · rw[kB (by omega),fk (by omega)]at he
      exact absurd he.symm (h3 b' i hb' hi)
    · rw[fk (by omega),kB (by omega)]at he
      exact absurd he (h3 b j hb hj)
    · rw[fk (by omega),fk (by omega)]at he
      exact h1 b b' hb hb' he
  · rw[fk (by omega)];exact hk b hb
end
theorem au.nilvecM{k n:Nat}{tm:Nat→AV}{hp:Hp}{nx:Nat}{kq:Option Nat}{ks:List MK}{vs:List AV}(b0 i kk k':Nat)(hb:hp b0=some (.map kq ks vs))(h:vs[i]?=some (.sl kk [] true))(hk:k≤nx) :
  au k n ⟨tm,hp,nx⟩ ⟨tm,upd (upd hp b0 (some (.map kq ks (vs.set i (.vec nx))))) nx (some (.vec k' [])),nx+1⟩:=by
 rintro P c a w ⟨h0,A,μ,H⟩;obtain⟨hd0,q1,⟨q2,ents,ck,q3,q4,q5,q6⟩,q8⟩:=H.blk b0 _ hb;have hi:i<vs.length:=(Z'.mp h).1;have hv0:=(RVL.length q5)
 obtain⟨vi,hvi⟩:∃vi,(ents.toList.map (·.val))[i]?=some vi:=⟨(ents.toList.map (·.val))[i]'(by omega),u' (by omega)⟩
 obtain⟨ad,hv⟩:=RV.nilsl (RVL.get2 q5 h hvi);obtain⟨f1,f2⟩:μ nx=none∧hp nx=none:=H.fr nx (V' _)
 let hd:Hd:=⟨some ad,0,k',0,0⟩
 have hne:b0≠nx:=λe=>by subst e;rw[f2]at hb;cases hb
 have hle:bG μ (upd μ nx (some hd)):=by
  intro b hd' e
  by_cases g:b=nx
  ·subst g;rw[f1]at e;cases e
  ·rw[aj _ _ g];exact e
 have key:=H.add nx f2 (upd μ nx (some hd)) hle (λb hb=>aj _ _ hb) hd (ai _ _ _) (.vec k' []) ⟨rfl,.inl ⟨rfl,rfl⟩⟩ (λe=>by cases e) (λ_ _ _ _ _ _ e=>by cases e);have hswap:upd (upd hp b0 (some (.map kq ks (vs.set i (.vec nx))))) nx (some (.vec k' []))=upd (upd hp nx (some (.vec k' []))) b0 (some (.map kq ks (vs.set i (.vec nx)))):=by
  funext b
  by_cases e1:b=b0
  ·subst e1;rw[ai,aj _ _ hne,ai]
  ·rw[aj _ _ e1]
   by_cases e2:b=nx
   ·subst e2;rw[ai,ai]
   ·rw[aj _ _ e2,aj _ _ e1,aj _ _ e2]
 rw[hswap];have hb1:upd hp nx (some (.vec k' [])) b0=some (.map kq ks vs):=by rw[aj _ _ hne];exact hb
 have fin:=key.say hb1 (y:=.map kq ks (vs.set i (.vec nx))) λhd1 e1 e2=>by
  obtain⟨r2,ents',ck',r3,r4,r5,r6⟩:=e2;rw[hle _ _ q1]at e1;cases e1;rw[q3]at r3;cases r3;refine⟨r2,ents,ck,q3,q4,RVL.setAt r5 hvi ⟨hd,ai _ _ _,hv⟩,λx hx=>?_⟩
  rcases aC' hx with hx|rfl
  ·exact q6 x hx
  ·rfl
 exact⟨h0,A,upd μ nx (some hd),fin.free λb hb=>⟨show nx≤b by have:nx+1≤b:=hb;omega,by have:nx+1≤b:=hb;omega⟩⟩
def relx(cost:Int)(out:Dis)(op:Dis)(s:Stp):Dis:=
 if aY out s.to=true then op else if(aY op s.to=false∨W (cost+s.cost)<av op s.to 0)then bB op s.to (W (cost+s.cost))else op
def BG(L:Lks):Nat→Dis→Dis→Dis
 | 0,out,_=>out
 | n+1,out,op=>if op=[]then out else
   if(bB out (bst op) (av op (bst op) 0)).length=L.length then bB out (bst op) (av op (bst op) 0)
   else BG L n (bB out (bst op) (av op (bst op) 0)) ((av L (bst op) []).foldl (relx (av op (bst op) 0) (bB out (bst op) (av op (bst op) 0))) (mdl op (bst op)))
def cM(L:Lks)(f:Int):Dis:=if aY L f=true then BG L L.length [] (bB [] f 0)else []
def ze(L:Lks):Prop:=L.length≤1000000∧(ap L).Nodup∧(∀x∈ap L,x≠0∧-9223372036854775808≤x∧x≤9223372036854775807)∧∀p∈L,p.2.length≤1000000∧∀s∈p.2,s.to∈ap L
structure kL (L:Lks) (out op:Dis):Prop where
  no:(ap out).Nodup
  np:(ap op).Nodup
  ko:∀x∈ap out,x∈ap L
  kp:∀x∈ap op,x∈ap L
  di:∀x∈ap op,x ∉ ap out
theorem cY{α β:Type}(l:List (α×β)):(ap l).length=l.length:=B' _
theorem kL.len1{L:Lks}{out op:Dis}(h:kL L out op):out.length≤L.length:=by
 have:=List.Nodup.length_le_of_subset h.no h.ko
 rwa [cY,cY]at this
theorem kL.len2{L:Lks}{out op:Dis}(h:kL L out op):op.length≤L.length:=by
 have:=List.Nodup.length_le_of_subset h.np h.kp
 rwa [cY,cY]at this
theorem HP{op:Dis}(h:op≠[]):∃c,(bst op,c)∈op∧∀x∈op,¬bfr x (bst op,c):=by
 obtain⟨b,h1,h2,h3⟩:=mJ h;have:bst op=b.1:=by unfold bst;rw[h1]
 rw[this];exact⟨b.2,h2,h3⟩
theorem MS{op:Dis}(h:op≠[]):bst op∈ap op:=by
 obtain⟨c,h1,_⟩:=HP h;exact aS.mpr ⟨c,h1⟩
theorem kL.pop{L:Lks}{out op:Dis}(h:kL L out op){b c:Int}(hb:b∈ap op):kL L (bB out b c) (mdl op b)∧(bB out b c).length=out.length+1:=by
 have hbo:=h.di b hb
 refine⟨⟨gj h.no,Bg h.np,λx hx=>?_,λx hx=>?_,λx hx hx2=>?_⟩,?_⟩
 ·obtain⟨v,hv⟩:=aS.mp hx
  rcases(cw h.no).mp hv with e|⟨e,_⟩
  ·cases e;exact h.kp _ hb
  ·exact h.ko _ (aS.mpr ⟨_,e⟩)
 ·obtain⟨v,hv⟩:=aS.mp hx;exact h.kp _ (aS.mpr ⟨_,((rt h.np).mp hv).1⟩)
 ·obtain⟨v,hv⟩:=aS.mp hx;obtain⟨v2,hv2⟩:=aS.mp hx2;obtain⟨q1,q2⟩:=(rt h.np).mp hv
  rcases(cw h.no).mp hv2 with e|⟨e,_⟩
  ·cases e;exact q2 rfl
  ·exact h.di _ (aS.mpr ⟨_,q1⟩) (aS.mpr ⟨_,e⟩)
 ·rw[Et,F'];unfold aY;simpa using hbo
theorem kL.relx{L:Lks}{out op:Dis}(h:kL L out op){c:Int}{s:Stp}(hs:s.to∈ap L):kL L out (relx c out op s):=by
 unfold Go.Proofs.YtdoacjojljgdcaaGreat.relx
 split
 ·exact h
 rename_i h1;have h1:s.to ∉ ap out:=by unfold aY at h1;simpa using h1
 split
 ·refine⟨h.no,gj h.np,h.ko,λx hx=>?_,λx hx=>?_⟩
  all_goals
   obtain⟨v,hv⟩:=aS.mp hx;rcases(cw h.np).mp hv with e|⟨e,_⟩
  ·cases e;exact hs
  ·exact h.kp _ (aS.mpr ⟨_,e⟩)
  ·cases e;exact h1
  ·exact h.di _ (aS.mpr ⟨_,e⟩)
 ·exact h
theorem kL.fold{L:Lks}{out:Dis}{c:Int}:∀{l:List Stp} {op:Dis},kL L out op→(∀s∈l,s.to∈ap L)→kL L out (l.foldl (Go.Proofs.YtdoacjojljgdcaaGreat.relx c out) op)
 | [],op,h,_=>h
 | s::l,op,h,hs=>(h.relx (hs s (by simp))).fold λx hx=>hs x (by simp[hx])
def LU(links:(List (Int×List Stp)))(t0:(List (Int×Int))×(List (Int×Int))):NF:=⟨[(0,.k,.mp none (links.map λp:Int×List Stp=>MK.n p.1) (links.map λp:Int×List Stp=>(λl:List Stp=>AV.sl 2 (l.map Stp.v) false) p.2)),(5,.k,.mref 0),(8,.k,.mref 1)],[.map none (t0.2.map λp=>MK.n p.1) (t0.2.map λp=>AV.int p.2) (ah (λ_=>rfl) _),.map none (t0.1.map λp=>MK.n p.1) (t0.1.map λp=>AV.int p.2) (ah (λ_=>rfl) _)]⟩
def LS(links:(List (Int×List Stp)))(t0:(List (Int×Int))×(List (Int×Int)))(t1:Int×(List (Int×Int))):NF:=⟨[(0,.k,.mp none (links.map λp:Int×List Stp=>MK.n p.1) (links.map λp:Int×List Stp=>(λl:List Stp=>AV.sl 2 (l.map Stp.v) false) p.2)),(5,.k,.mref 0),(8,.k,.mref 1),rI 12 (av t0.1 (bst t0.1) 0),(79,.k,.sl 2 ((av links (bst t0.1) []).map Stp.v) false),rI 80 (((av links (bst t0.1) []).map Stp.v).length:Int),rI 81 t1.1],[.map none ((bB t0.2 (bst t0.1) (av t0.1 (bst t0.1) 0)).map λp=>MK.n p.1) ((bB t0.2 (bst t0.1) (av t0.1 (bst t0.1) 0)).map λp=>AV.int p.2) (ah (λ_=>rfl) _),.map none (t1.2.map λp=>MK.n p.1) (t1.2.map λp=>AV.int p.2) (ah (λ_=>rfl) _)]⟩
def LR(links:(List (Int×List Stp)))(t0:(List (Int×Int))×(List (Int×Int)))(t1:Int×(List (Int×Int)))(x1:Stp)(t2:Bool):NF:=⟨[(0,.k,.mp none (links.map λp:Int×List Stp=>MK.n p.1) (links.map λp:Int×List Stp=>(λl:List Stp=>AV.sl 2 (l.map Stp.v) false) p.2)),(5,.k,.mref 0),(8,.k,.mref 1),rI 12 (av t0.1 (bst t0.1) 0),rR 14 2,(79,.k,.sl 2 ((av links (bst t0.1) []).map Stp.v) false),rI 80 (((av links (bst t0.1) []).map Stp.v).length:Int),rI 81 t1.1,rB 109 t2],[.map none ((bB t0.2 (bst t0.1) (av t0.1 (bst t0.1) 0)).map λp=>MK.n p.1) ((bB t0.2 (bst t0.1) (av t0.1 (bst t0.1) 0)).map λp=>AV.int p.2) (ah (λ_=>rfl) _),.map none (t1.2.map λp=>MK.n p.1) (t1.2.map λp=>AV.int p.2) (ah (λ_=>rfl) _),.box (Stp.v x1)]⟩
@[reducible] def GJ:Nat→Type
 | 0=>(List (Int×Int))×(List (Int×Int))
 | 1=>Int×(List (Int×Int))
 | 2=>Bool
 | _=>Unit
def GK(r:(List (Int×Int))):AV:=.mp none (r.map λp:Int×Int=>MK.n p.1) (r.map λp:Int×Int=>AV.int p.2)
def GI(links:(List (Int×List Stp)))(from_:Int)(I0:((List (Int×Int))×(List (Int×Int)))→Prop)(m0:((List (Int×Int))×(List (Int×Int)))→Nat)(I1:(List (Int×Int))×(List (Int×Int))→(Int×(List (Int×Int)))→Prop)(m1:(List (Int×Int))×(List (Int×Int))→(Int×(List (Int×Int)))→Nat)(I2:(List (Int×Int))×(List (Int×Int))→Int×(List (Int×Int))→Stp→Bool→Prop):Ax Tryz.prog GJ ((List (Int×Int))):=
 (.mn 80 (Ev false (λl:List Stp=>AV.sl 2 (l.map Stp.v) false) links from_ []) (.br 80 (aY links from_) (.mn 240 (wK AV.int ([]:List (Int×Int)) from_ 0) (.loop 0 (LU links) I0 m0 (bB ([]:List (Int×Int)) from_ 0,([]:List (Int×Int))) [16,208] λ(t0:(List (Int×Int))×(List (Int×Int))) b0 =>
(.say (ck (decide ((t0.1.map λp=>MK.n p.1).length≤maxLen))) (.br 50 (decide (0<((t0.1.map λp=>MK.n p.1).length:Int))) (.pass (.handQ 0 (zW links t0.2 t0.1 0) [0,1] ((zW links t0.2 t0.1 (bst t0.1)).st) Gz (DR t0.1) (dst_h links t0.2 t0.1)
(.mn 34 (rr AV.int t0.1 (bst t0.1) 0) (.mn 98 (Qg AV.int t0.1 (bst t0.1)) (.mn 162 (wK AV.int t0.2 (bst t0.1) (av t0.1 (bst t0.1) 0)) (.say (λR=>ck (decide (((bB t0.2 (bst t0.1) (av t0.1 (bst t0.1) 0)).map λp=>MK.n p.1).length≤maxLen))
((ck (decide ((links.map λp=>MK.n p.1).length≤maxLen))
R))) (.br 258 ((((bB t0.2 (bst t0.1) (av t0.1 (bst t0.1) 0)).map λp=>MK.n p.1).length:Int)==((links.map λp=>MK.n p.1).length:Int)) (.say (Rf ((bB t0.2 (bst t0.1) (av t0.1 (bst t0.1) 0)).map λp=>AV.int p.2)) (.cmdL (.frzM 0 ((bB t0.2 (bst t0.1) (av t0.1 (bst t0.1) 0)).map λp=>AV.int p.2) (ah (λ_=>rfl) _)) (.ret (bB t0.2 (bst t0.1) (av t0.1 (bst t0.1) 0)))))
(.mn 290 (Ev true (λl:List Stp=>AV.sl 2 (l.map Stp.v) false) links (bst t0.1) []) (.say (ck (aY links (bst t0.1))) (.loop 1 (LS links t0) (I1 t0) (m1 t0) (0,mdl t0.1 (bst t0.1)) [0,1] λ(t1:Int×(List (Int×Int))) b1 =>
(.br 18 (decide (t1.1<(((av links (bst t0.1) []).map Stp.v).length:Int))) (.elI 18 Stp.v (av links (bst t0.1) []) t1.1 λx1 =>
(.mn 130 (rr AV.int (bB t0.2 (bst t0.1) (av t0.1 (bst t0.1) 0)) x1.to 0) (.br 242 (aY (bB t0.2 (bst t0.1) (av t0.1 (bst t0.1) 0)) x1.to) (.bk 1 b1 (W (t1.1+1),t1.2) [0,1])
(.mn 290 (rr AV.int t1.2 x1.to 0) (.join 2 (LR links t0 t1 x1) (λ(t2:Bool)=>I2 t0 t1 x1 t2) (λb2=>(.br 434 (!(aY t1.2 x1.to)) (.bk 2 b2 ((true):Bool) [0,1,50])
(.bk 2 b2 ((decide ((W ((av t0.1 (bst t0.1) 0)+x1.cost))<(av t1.2 x1.to 0))):Bool) [0,1,50]))) λ(t2:Bool) =>
(.br 3 t2 (.mn 115 (wK AV.int t1.2 x1.to (W ((av t0.1 (bst t0.1) 0)+x1.cost))) (.bk 1 b1 (W (t1.1+1),bB t1.2 x1.to (W ((av t0.1 (bst t0.1) 0)+x1.cost))) [0,1]))
(.bk 1 b1 (W (t1.1+1),t1.2) [0,1])))))))
(.bk 0 b0 (t1.2,bB t0.2 (bst t0.1) (av t0.1 (bst t0.1) 0)) [0,1]))))))))))))
(.say (Rf (t0.2.map λp=>AV.int p.2)) (.cmdL (.frzM 0 (t0.2.map λp=>AV.int p.2) (ah (λ_=>rfl) _)) (.ret (t0.2))))))))
(.say (Rf (([]:List (Int×Int)).map λp=>AV.int p.2)) (.cmdL (.frzM 16 (([]:List (Int×Int)).map λp=>AV.int p.2) (ah (λ_=>rfl) _)) (.ret (([]:List (Int×Int))))))))
theorem Rr(L:Lks)(f:Int)(h:ze L):∃I0 m0 I1 m1 I2,(GI L f I0 m0 I1 m1 I2).vp GK (cM L f):=by
 obtain⟨h1,h2,h3,h4⟩:=h;have hml:=bv
 refine⟨λt=>kL L t.2 t.1∧t.2.length<L.length∧BG L (L.length-t.2.length) t.2 t.1=cM L f,λt=>L.length-t.2.length,
  λt0 t=>iM (av L (bst t0.1) []) (relx (av t0.1 (bst t0.1) 0) (bB t0.2 (bst t0.1) (av t0.1 (bst t0.1) 0))) (mdl t0.1 (bst t0.1)) t.1 t.2,λt0 t=>(av L (bst t0.1) []).length-t.1.toNat,
  λt0 t x b=>b=decide (aY t.2 x.to=false∨W (av t0.1 (bst t0.1) 0+x.cost)<av t.2 x.to 0),?_⟩
 dsimp only[GI,GJ,Ax.vp,Ax.vc];simp only[vcU,rfU,B']
 refine⟨λc=>⟨?_,?_⟩,λc=>by rw[cM,F' (by rw[c];simp)]⟩
 ·have hf:f∈ap L:=H' c;have h0:0<L.length:=by rw[←cY];exact List.length_pos_of_mem hf
  refine⟨⟨by simp[ap],by simp[bB,ap],by simp[ap],by simp[bB,ap];simpa[ap]using hf,by simp[ap]⟩,h0,by rw[cM,G' c];rfl⟩
 rintro⟨op,out⟩ ⟨hI,hlt,hD⟩;simp only at hI hlt hD ⊢;have q1:=hI.len1;have q2:=hI.len2;obtain⟨n,hn⟩:∃n,L.length-out.length=n+1:=⟨L.length-out.length-1,by omega⟩
 rw[hn,BG]at hD
 refine⟨by omega,λc1=>?_,λc1=>?_⟩
 ·have hne:op≠[]:=λe=>by rw[e]at c1;simp at c1
  rw[F' hne]at hD;have hb:=MS hne;obtain⟨hP,hPl⟩:=hI.pop (c:=av op (bst op) 0) hb;have q3:=hP.len1
  refine⟨λx hx=>h3 _ (hI.kp _ (aS.mpr ⟨x.2,hx⟩)),by omega,by omega,λc2=>?_,λc2=>?_⟩
  ·rw[G' (by have:=eq_of_beq c2;omega)]at hD;exact hD
  ·have c2:¬(bB out (bst op) (av op (bst op) 0)).length=L.length:=λe=>by rw[e]at c2;simp at c2
   rw[F' c2]at hD;have hbL:=hI.kp _ hb;have hst:(av L (bst op) []).length≤1000000∧∀s∈av L (bst op) [],s.to∈ap L:=h4 _ (bU (z:=[]) (decide_eq_true hbL));refine⟨decide_eq_true hbL,iM.zero,?_⟩;rintro⟨i,op2⟩ hG;simp only at hG ⊢
   refine⟨λc3=>⟨hG.idx,c3,λx hx=>⟨λe=>?_,λe=>⟨⟨λe2=>?_,λe2=>?_⟩,?_⟩⟩⟩,λc3=>?_⟩
   ·refine hG.step (by omega) hx ?_;rw[relx,G' e]
   ·rw[show aY op2 x.to=false by simpa using e2];simp
   ·rw[show aY op2 x.to=true by simpa using e2];simp
   ·rintro _ rfl
    refine⟨λe2=>?_,λe2=>?_⟩
    ·refine hG.step (by omega) hx ?_;rw[relx,F' (by rw[e];simp),G' (H' e2)]
    ·refine hG.step (by omega) hx ?_;rw[relx,F' (by rw[e];simp),F' (T' e2)]
   ·have hG:=hG.done c3;have hF:=hP.fold (c:=av op (bst op) 0) hst.2;rw[←hG]at hF hD;have:n=L.length-(bB out (bst op) (av op (bst op) 0)).length:=by omega
    rw[this]at hD;exact⟨⟨hF,by omega,hD⟩,by omega⟩
 ·have:op=[]:=bd' (by omega);rw[G' this]at hD;exact hD
def Rs(links:(List (Int×List Stp)))(from_:Int)(h:ze links):PC Tryz.prog:=pcO 156 [.k,.k] [.mp none (links.map λp:Int×List Stp=>MK.n p.1) (links.map λp:Int×List Stp=>(λl:List Stp=>AV.sl 2 (l.map Stp.v) false) p.2),.int from_] .k GK (cM links from_) (λ_=>let ⟨I0,m0,I1,m1,I2,h⟩:=Rr links from_ h;⟨_,h,by kernel_rfl⟩) rfl (by kernel_rfl)
theorem bL{kk:Option Nat}{m k x:AO}{f:Nat}{ρ:AO→AV}{hp:Hp}:evA (.mset kk m k x) f ρ hp=match ρ m with
    | .mref b=>match hp b,(ρ k).key with
      | some (.map kk' ks vs),some q=>{ c:=kk'=kk∧q.fits kk∧(ρ x).solid=true,rm:=some b,ad:=some (b,dY kk ks vs q (ρ x)) }
      | _,_=>.bad
    | _=>.bad:=rfl
def evN(n:Nat):List AV:=(List.range n).map λi=>.vec (Fr (2 * i))
def odN(n:Nat):List AV:=(List.range n).map λi=>.vec (Fr (2 * i+1))
def kyN(l:List Int):List MK:=l.map MK.n
def rdH(t:Tpl)(ids:List Int)(a b:List AV):List (Option Blk):=
 [some (.box (Tpl.v t)),some (.box (.agg [.val (.map none),.val (.map none)])),some (.box (.agg [.mref 3,.mref 4])),some (.map none (kyN ids) a),some (.map none (kyN ids) b)]
abbrev GS(M:List (List Stp))(h:Hp):Hp:=GR 2 Stp.v M h
def rdS(t:Tpl)(M:List (List Stp)):S3:=
 ⟨cT [(1,.ref 0 0),(2,.ref 1 0),(3,.ref 2 0)],GS M (hpL 0 (rdH t (t.rs.map (·.id)) (evN t.rs.length) (odN t.rs.length))),2000⟩
def rd_m(t:Tpl):NF:=
 ⟨[(1,.k,.ref 0 0),(2,.k,.ref 1 0),(3,.k,.ref 2 0)],[.box (Tpl.v t),.box (.agg [.val (.map none),.val (.map none)]),.box (.agg [.mref 3,.mref 4]),.map none (([]:Lks).map λp=>MK.n p.1) (([]:Lks).map λp=>(λl:List Stp=>AV.sl 2 (l.map Stp.v) false) p.2) (ah (λ_=>rfl) _),.map none (([]:Lks).map λp=>MK.n p.1) (([]:Lks).map λp=>(λl:List Stp=>AV.sl 2 (l.map Stp.v) false) p.2) (ah (λ_=>rfl) _)]⟩
def Dr:AC:=.seq (.reg [⟨(some 12),.faddr 0 (.t 1),none⟩,⟨(some 13),.load false 1 (.t 12),none⟩,⟨(some 14),.len (.t 13),none⟩,⟨(some 15),.move (.c (.val (.int .i64 0))),none⟩])
 (.block 0 (.loop (.seq (.reg [⟨(some 16),.bin .lss (.t 15) (.t 14),none⟩])
 (.seq (.cond (.t 16) (.skip) (.exit 0))
 (.seq (.block 1 (.seq (.reg [⟨(some 17),.iaddr 2 (.t 13) (.t 15),none⟩,⟨(some 18),.load true 2 (.t 17),none⟩,⟨(some 5),.box (.c (.agg [(.val (.int .i64 0)),(.val (.bool false))])),none⟩,⟨none,.store 2 (.t 5) (.t 18),none⟩])
 (.dreg [⟨(some 19),.faddr 0 (.t 3),none⟩,⟨(some 20),.load false 1 (.t 19),none⟩,⟨(some 21),.faddr 0 (.t 5),none⟩,⟨(some 22),.load false 1 (.t 21),none⟩,⟨(some 23),.faddr 1 (.t 3),none⟩,⟨(some 24),.load false 1 (.t 23),none⟩,⟨(some 25),.faddr 0 (.t 5),none⟩,⟨(some 26),.load false 1 (.t 25),none⟩,⟨none,.mset none (.t 20) (.t 22) (.c (.sl 0 [] true)),none⟩,⟨none,.mset none (.t 24) (.t 26) (.c (.sl 0 [] true)),none⟩] [(1,3),(1,5),(3,5),(1,7),(3,7),(5,7),(5,8),(7,8)])))
 (.reg [⟨(some 27),.bin .add (.t 15) (.c (.val (.int .i64 1))),none⟩,⟨(some 15),.move (.t 27),none⟩]))))))
theorem lC(n:Nat):(evN n).length=n:=by simp[evN]
theorem lk(n:Nat):(odN n).length=n:=by simp[odN]
theorem cN(x:Stp):x.v.pureB=true:=rfl
theorem BR(l:List Rtr):aV (l.map Rtr.v):=aB (ah (λ_=>rfl) l)
theorem pA{k:Nat}:∀{xs:List AV},(∀x∈xs,x.bel k)→iV k xs
 | [],_=>trivial
 | x::xs,h=>⟨h x (by simp),pA λy hy=>h y (by simp[hy])⟩
theorem sm{n:Nat}(h:n≤400):iV 2000 (evN n):=pA λx hx=>by
 obtain⟨i,hi,rfl⟩:=Y'.mp hx;have:=al'.mp hi;show Fr (2 * i)<2000;unfold Fr;omega
theorem rk{n:Nat}(h:n≤400):iV 2000 (odN n):=pA λx hx=>by
 obtain⟨i,hi,rfl⟩:=Y'.mp hx;have:=al'.mp hi;show Fr (2 * i+1)<2000;unfold Fr;omega
theorem sj{n:Nat}(h:n≤400)(bs fs:Nat→Nat):dP (fL bs fs) (evN n)=(List.range n).map λi=>.vec (fs (2 * i)):=by
 rw[dX,evN,aV'];refine as' λi hi=>?_;have:=al'.mp hi;show AV.vec (fL bs fs (Fr (2 * i)))=_;rw[kB (by omega)]
theorem rj{n:Nat}(h:n≤400)(bs fs:Nat→Nat):dP (fL bs fs) (odN n)=(List.range n).map λi=>.vec (fs (2 * i+1)):=by
 rw[dX,odN,aV'];refine as' λi hi=>?_;have:=al'.mp hi;show AV.vec (fL bs fs (Fr (2 * i+1)))=_;rw[kB (by omega)]
theorem pX{t:Tpl}{ids:List Int}{n:Nat}{hp:Hp}{fs:Nat→Nat}{a b:List AV}(hn:n≤400)(h0:hp 0=some (.box (Tpl.v t)))(h1:hp 1=some (.box (.agg [.val (.map none),.val (.map none)])))(h2:hp 2=some (.box (.agg [.mref 3,.mref 4])))
  (h3:hp 3=some (.map none (kyN ids) a)) (h4:hp 4=some (.map none (kyN ids) b)) (ha:a=(List.range n).map λi=>.vec (fs (2 * i))) (hb:b=(List.range n).map λi=>.vec (fs (2 * i+1))) :
  ∀i x,(rdH t ids (evN n) (odN n))[i]?=some (some x)→hp ((λb=>b) i)=some (x.ren (fL (λb=>b) fs))∧x.bel 2000:=by
 have hr:=aX (fL (λb=>b) fs) (BR t.rs);intro i x h
 rcases i with _|_|_|_|_|i
 ·cases h;exact⟨h0,⟨trivial,trivial,trivial⟩⟩
 ·cases h;exact⟨h1,⟨trivial,trivial,trivial⟩⟩
 ·cases h;exact⟨h2,⟨show 3<2000 by omega,show 4<2000 by omega,trivial⟩⟩
 ·cases h;exact⟨by show hp 3=_;rw[h3,Blk.ren,sj hn,ha],sm hn⟩
 ·cases h;exact⟨by show hp 4=_;rw[h4,Blk.ren,rj hn,hb],rk hn⟩
 ·simp[rdH]at h
structure S9 (t:Tpl):Prop where
  nr:t.rs.length≤24
  nl:t.ls.length≤60
  rg:∀x∈t.rs,1≤x.id∧x.id≤99
  asc:t.rs.Pairwise (λx y=>x.id<y.id)
  lr:∀l∈t.ls,gt l
  has:∀l∈t.ls,az t l.a=true∧az t l.b=true
  lt:∀l∈t.ls,l.a<l.b
  ord:t.ls.Pairwise aM
theorem ax{t:Tpl}(h:ay t=0):S9 t:=by
 unfold ay at h
 by_cases a1:24<t.rs.length∨60<t.ls.length
 ·rw[G' a1]at h;omega
 rw[F' a1]at h;by_cases a2:∀x∈t.rs,1≤x.id∧x.id≤99
 case neg=>rw[G' a2]at h;omega
 rw[F' (not_not_intro a2)]at h;by_cases a3:t.rs.Pairwise (λx y=>x.id<y.id)
 case neg=>rw[G' a3]at h;omega
 rw[F' (not_not_intro a3)]at h;by_cases a4:∀l∈t.ls,gt l
 case neg=>rw[G' a4]at h;omega
 rw[F' (not_not_intro a4)]at h;by_cases a5:∀l∈t.ls,az t l.a=true∧az t l.b=true
 case neg=>rw[G' a5]at h;omega
 rw[F' (not_not_intro a5)]at h;by_cases a6:∀l∈t.ls,l.a<l.b
 case neg=>rw[G' a6]at h;omega
 rw[F' (not_not_intro a6)]at h;by_cases a7:t.ls.Pairwise aM
 case neg=>rw[G' a7]at h;omega
 exact⟨by omega,by omega,a2,a3,a4,a5,a6,a7⟩
theorem H5{t:Tpl}(h:ay t=0):t.rs.Pairwise (λx y=>x.id<y.id):=(ax h).asc
theorem Nc{l:List Rtr}(h:l.Pairwise (λx y=>x.id<y.id)){i j:Nat}(hij:i<j){x y:Rtr}(hx:l[i]?=some x)(hy:l[j]?=some y):x.id<y.id:=by
 have hi:=ao hx;have hj:=ao hy;rw[u' hi]at hx;rw[u' hj]at hy;have:=ax'.mp h i j hi hj hij;rw[af' hx,af' hy]at this;exact this
theorem LD(i m:Nat)(x:AV):(evN i++[x]).set i (.vec m)=(List.range (i+1)).map λj=>.vec ((λj=>if j=2 * i then m else if j=2 * i+1 then m+1 else Fr j) (2 * j)):=by
 rw[ci' _ _ (by rw[lC];exact V' _),lC,bz',List.set_cons_zero,bL',ay']
 congr 1
 ·refine as' λj hj=>?_;have:=al'.mp hj;simp only;rw[F' (by omega),F' (by omega)]
 ·simp
theorem Kx(i m:Nat)(x:AV):(odN i++[x]).set i (.vec (m+1))=(List.range (i+1)).map λj=>.vec ((λj=>if j=2 * i then m else if j=2 * i+1 then m+1 else Fr j) (2 * j+1)):=by
 rw[ci' _ _ (by rw[lk];exact V' _),lk,bz',List.set_cons_zero,bL',ay']
 congr 1
 ·refine as' λj hj=>?_;have:=al'.mp hj;simp only;rw[F' (by omega),F' (by omega)]
 ·simp
theorem rd_h1(t:Tpl)(hc:ay t=0)(k:Nat):dU Tryz.prog 0 k Dr (rd_m t).st (rdS t (List.replicate (2 * t.rs.length) [])):=by
 unfold dU Dr;show AWP _ 0 k _ _ ⟨cT [(1,.ref 0 0),(2,.ref 1 0),(3,.ref 2 0)],hpL 0 (rdH t [] [] []),5⟩;have hR:t.rs.length≤400:=by have:=(cg hc).1;omega
 have hdi:=H5 hc;have hml:=bv;refine AWP.seq' ?_;refine AWP.reg' λK hK=>?_
 try simp only[ak,seval,rdH,Tpl.v,B']
 refine hK _ _ _ ?_;clear hK K;refine AWP.block ?_;have hge:∀{i:Nat} {r:Rtr},t.rs[i]?=some r→(t.rs.map Rtr.v).getD i .unk=Rtr.v r:=λ{i r} h=>by rw[I',J',h];rfl
 refine AWP.loopS (λi:Nat=>⟨cT [(1,.ref 0 0),(2,.ref 1 0),(3,.ref 2 0),(13,.sl 2 (t.rs.map Rtr.v) false),(14,.int t.rs.length),(15,.int (i:Nat))],GS (List.replicate (2 * i) []) (hpL 0 (rdH t ((t.rs.take i).map (·.id)) (evN i) (odN i))),2000⟩)
  (λi=>i≤t.rs.length) (λi=>t.rs.length-i) (i0:=0) (aG' _) ?_ ?_
 ·refine au.nfR cN _ _ _ (λb=>b) Fr ?_ (pX (by omega) rfl rfl rfl rfl rfl rfl rfl) (by simp[rdH]) (by simp) (by simp) (λi j _ _ h=>h) (λi j _ _ h=>by unfold Fr at h;omega) (λi j h1 h2=>by simp at h2) (λb _=>rfl) (by decide);simp only[aR',aw',false_implies,implies_true,and_true];exact⟨⟨rfl,show 0<2000 by omega⟩,⟨rfl,show 1<2000 by omega⟩,⟨rfl,show 2<2000 by omega⟩,⟨rfl,trivial⟩,⟨rfl,trivial⟩,rfl,trivial⟩
 ·intro i hi;refine AWP.seq' ?_;refine AWP.reg' λK hK=>?_
  try simp only[ak,seval]
  refine hK _ _ _ ?_;clear hK K;refine AWP.seq' ?_
  refine AWP.cond (b:=decide ((i:Int)<(t.rs.length:Int))) rfl (λh=>?_) (λh=>?_)
  ·have h:i<t.rs.length:=by have:=H' h;omega
   have hr:t.rs[i]?=some t.rs[i]:=u' h;generalize t.rs[i]=r at hr;refine AWP.skip ?_;refine AWP.seq' (AWP.block (AWP.seq' ?_));have hG0:∀b,b<1000→GS (List.replicate (2 * i) []) (hpL 0 (rdH t ((t.rs.take i).map (·.id)) (evN i) (odN i))) b=hpL 0 (rdH t ((t.rs.take i).map (·.id)) (evN i) (odN i)) b:=λb hb=>na hb;refine AWP.reg' λK hK=>?_
   try simp only[ak,seval,hge hr,Int.toNat_natCast,B',Rtr.v]
   refine⟨⟨by omega,by omega⟩,?_⟩;refine hK _ _ _ ?_;clear hK K;have hnm:¬MK.n r.id∈kyN ((t.rs.take i).map (·.id)):=λhm=>by
    obtain⟨q,hq,e⟩:=Y'.mp hm;obtain⟨r',hr',rfl⟩:=Y'.mp hq;obtain⟨j,hj⟩:=ag'.mp hr';have hji:j<i:=by have:=ao hj;rw[ar']at this;omega
    rw[List.getElem?_take_of_lt hji]at hj;have:=Nc hdi hji hj hr;have:=MK.n.inj e;omega
   generalize hids:(t.rs.take i).map (·.id)=ids at hnm hG0 ⊢;have g2:GS (List.replicate (2 * i) []) (hpL 0 (rdH t ids (evN i) (odN i))) 2=some (.box (.agg [.mref 3,.mref 4])):=hG0 2 (by decide);have g3:GS (List.replicate (2 * i) []) (hpL 0 (rdH t ids (evN i) (odN i))) 3=some (.map none (kyN ids) (evN i)):=hG0 3 (by decide);have g4:GS (List.replicate (2 * i) []) (hpL 0 (rdH t ids (evN i) (odN i))) 4=some (.map none (kyN ids) (odN i)):=hG0 4 (by decide);refine AWP.dreg' λK hK=>?_
   try simp only[ak,seval,g2,g3,g4,bL,AV.key,MK.fits,dY,hnm,if_false]
   refine⟨by rfl,hK _ _ _ ?_⟩;clear hK K;refine(show AWP _ _ _ _ _ _ from ?_);have w:IntKind.i64.wrap ((i:Int)+1)=((i+1:Nat):Int):=kN (by omega) (by omega);refine AWP.reg' λK hK=>?_
   try simp only[ak,seval,w]
   refine hK _ _ _ ?_;clear hK K;refine⟨i+1,by omega,by omega,?_⟩;have hids':(t.rs.take (i+1)).map (·.id)=ids++[r.id]:=by rw[aP hr,ay',hids];rfl
   rw[hids'];have hky:kyN (ids++[r.id])=kyN ids++[MK.n r.id]:=by simp[kyN]
   refine au.trans (au.nilvecM (ks:=kyN ids++[.n r.id]) (vs:=evN i++[.sl 0 [] true]) 3 i 0 2 (by simp only[ag];rfl) (by rw[bi' (by rw[lC];exact V' _),lC,bz'];rfl) (aG' _)) ?_;refine au.trans (au.nilvecM (ks:=kyN ids++[.n r.id]) (vs:=odN i++[.sl 0 [] true]) 4 i 0 2 (by simp only[ag];rfl) (by rw[bi' (by rw[lk];exact V' _),lk,bz'];rfl) (aG' _)) ?_
   refine au.nfR cN _ _ _ (λb=>b) (λj=>if j=2 * i then 2272 else if j=2 * i+1 then 2272+1 else Fr j) ?_
    (pX (by omega) ?_ ?_ ?_ (by rw[hky];simp only[ag];rfl) (by rw[hky];simp only[ag];rfl) (LD i 2272 _) (Kx i 2272 _)) (by simp[rdH]) (by simp;omega) ?_ (λi j _ _ h=>h) ?_ ?_ (λb _=>rfl) (by decide)
   ·simp only[aR',aw',false_implies,implies_true,and_true];exact⟨⟨rfl,show 0<2000 by omega⟩,⟨rfl,show 1<2000 by omega⟩,⟨rfl,show 2<2000 by omega⟩,⟨rfl,trivial⟩,⟨rfl,trivial⟩,rfl,trivial⟩
   ·simp only[ag];exact hG0 0 (by decide)
   ·simp only[ag];exact hG0 1 (by decide)
   ·simp only[ag];exact hG0 2 (by decide)
   ·intro j q hj;rw[bj']at hj;split at hj
    case isFalse=>cases hj
    cases hj;rename_i hj2
    split
    ·rfl
    ·split
     ·rfl
     ·have:(List.replicate (2 * i) ([]:List Stp))[j]?=some []:=by rw[bj',G' (by omega)]
      simp only[ag,q9 (show 3<1000 by omega),q9 (show 4<1000 by omega),iQ (show j<1000 by omega) (show 2000≤2272 by omega),iQ (show j<1000 by omega) (show 2000≤2272+1 by omega),iQ (show j<1000 by omega) (show 2000≤2048 by omega),if_false];exact iL this (by simp;omega)
   ·intro a b ha hb he;simp at ha hb;unfold Fr at he
    (repeat' split at he)<;>omega
   ·intro a b ha hb he;simp only[rdH,ab',ap']at ha;unfold Fr at he
    (repeat' split at he)<;>omega
  ·have h:i=t.rs.length:=by have:=T' h;omega
   subst h;refine AWP.exit ?_;refine(show au 0 k _ _ from ?_);unfold rdS;rw[List.take_length];refine au.nfR cN _ _ _ (λb=>b) Fr ?_ (pX (by omega) rfl rfl rfl rfl rfl rfl rfl) (by simp[rdH]) (by simp;omega) (λj r hr=>iL hr (by simp;omega)) (λi j _ _ h=>h) (λi j _ _ h=>by unfold Fr at h;omega) (λi j h1 h2 h=>by simp[rdH]at h1;unfold Fr at h;omega) (λb _=>rfl) (by decide);simp only[aR',aw',false_implies,implies_true,and_true];exact⟨⟨rfl,show 0<2000 by omega⟩,⟨rfl,show 1<2000 by omega⟩,rfl,show 2<2000 by omega⟩
def Do:AC:=.dreg [⟨(some 35),.faddr 0 (.t 3),none⟩,⟨(some 36),.load false 1 (.t 35),none⟩,⟨(some 37),.faddr 0 (.t 7),none⟩,⟨(some 38),.load false 1 (.t 37),none⟩,⟨(some 39),.faddr 0 (.t 3),none⟩,⟨(some 40),.load false 1 (.t 39),none⟩,⟨(some 41),.faddr 0 (.t 7),none⟩,⟨(some 42),.load false 1 (.t 41),none⟩,⟨(some 43),.mget none ((.sl 0 [] true)) false (.t 40) (.t 42),none⟩,⟨(some 44),.faddr 1 (.t 7),none⟩,⟨(some 45),.load false 1 (.t 44),none⟩,⟨(some 46),.faddr 2 (.t 7),none⟩,⟨(some 47),.load false 1 (.t 46),none⟩,⟨(some 48),.build [(.val (.int .i64 0)),(.val (.int .i64 0))] [(0,1,(.t 45)),(1,1,(.t 47))],none⟩,⟨(some 49),.lit 2 1 (.agg [(.val (.int .i64 0)),(.val (.int .i64 0))]) [(0,(.t 48))],none⟩,⟨(some 50),.append 2 16 (.t 43) (.t 49),none⟩,⟨none,.mset none (.t 36) (.t 38) (.t 50),none⟩] [(1,3),(1,5),(3,5),(1,7),(3,7),(5,7),(1,8),(3,8),(1,10),(3,10),(5,10),(7,10),(8,10),(1,12),(3,12),(5,12),(7,12),(8,12),(10,12),(1,14),(3,14),(5,14),(7,14),(8,14),(1,15),(3,15)]
def Dn:AC:=.dreg [⟨(some 51),.faddr 0 (.t 3),none⟩,⟨(some 52),.load false 1 (.t 51),none⟩,⟨(some 53),.faddr 1 (.t 7),none⟩,⟨(some 54),.load false 1 (.t 53),none⟩,⟨(some 55),.faddr 0 (.t 3),none⟩,⟨(some 56),.load false 1 (.t 55),none⟩,⟨(some 57),.faddr 1 (.t 7),none⟩,⟨(some 58),.load false 1 (.t 57),none⟩,⟨(some 59),.mget none ((.sl 0 [] true)) false (.t 56) (.t 58),none⟩,⟨(some 60),.faddr 0 (.t 7),none⟩,⟨(some 61),.load false 1 (.t 60),none⟩,⟨(some 62),.faddr 3 (.t 7),none⟩,⟨(some 63),.load false 1 (.t 62),none⟩,⟨(some 64),.build [(.val (.int .i64 0)),(.val (.int .i64 0))] [(0,1,(.t 61)),(1,1,(.t 63))],none⟩,⟨(some 65),.lit 2 1 (.agg [(.val (.int .i64 0)),(.val (.int .i64 0))]) [(0,(.t 64))],none⟩,⟨(some 66),.append 2 16 (.t 59) (.t 65),none⟩,⟨none,.mset none (.t 52) (.t 54) (.t 66),none⟩] [(1,3),(1,5),(3,5),(1,7),(3,7),(5,7),(1,8),(3,8),(1,10),(3,10),(5,10),(7,10),(8,10),(1,12),(3,12),(5,12),(7,12),(8,12),(10,12),(1,14),(3,14),(5,14),(7,14),(8,14),(1,15),(3,15)]
def Dm:AC:=.dreg [⟨(some 67),.faddr 1 (.t 3),none⟩,⟨(some 68),.load false 1 (.t 67),none⟩,⟨(some 69),.faddr 1 (.t 7),none⟩,⟨(some 70),.load false 1 (.t 69),none⟩,⟨(some 71),.faddr 1 (.t 3),none⟩,⟨(some 72),.load false 1 (.t 71),none⟩,⟨(some 73),.faddr 1 (.t 7),none⟩,⟨(some 74),.load false 1 (.t 73),none⟩,⟨(some 75),.mget none ((.sl 0 [] true)) false (.t 72) (.t 74),none⟩,⟨(some 76),.faddr 0 (.t 7),none⟩,⟨(some 77),.load false 1 (.t 76),none⟩,⟨(some 78),.faddr 2 (.t 7),none⟩,⟨(some 79),.load false 1 (.t 78),none⟩,⟨(some 80),.build [(.val (.int .i64 0)),(.val (.int .i64 0))] [(0,1,(.t 77)),(1,1,(.t 79))],none⟩,⟨(some 81),.lit 2 1 (.agg [(.val (.int .i64 0)),(.val (.int .i64 0))]) [(0,(.t 80))],none⟩,⟨(some 82),.append 2 16 (.t 75) (.t 81),none⟩,⟨none,.mset none (.t 68) (.t 70) (.t 82),none⟩] [(1,3),(1,5),(3,5),(1,7),(3,7),(5,7),(1,8),(3,8),(1,10),(3,10),(5,10),(7,10),(8,10),(1,12),(3,12),(5,12),(7,12),(8,12),(10,12),(1,14),(3,14),(5,14),(7,14),(8,14),(1,15),(3,15)]
def Dk:AC:=.dreg [⟨(some 83),.faddr 1 (.t 3),none⟩,⟨(some 84),.load false 1 (.t 83),none⟩,⟨(some 85),.faddr 0 (.t 7),none⟩,⟨(some 86),.load false 1 (.t 85),none⟩,⟨(some 87),.faddr 1 (.t 3),none⟩,⟨(some 88),.load false 1 (.t 87),none⟩,⟨(some 89),.faddr 0 (.t 7),none⟩,⟨(some 90),.load false 1 (.t 89),none⟩,⟨(some 91),.mget none ((.sl 0 [] true)) false (.t 88) (.t 90),none⟩,⟨(some 92),.faddr 1 (.t 7),none⟩,⟨(some 93),.load false 1 (.t 92),none⟩,⟨(some 94),.faddr 3 (.t 7),none⟩,⟨(some 95),.load false 1 (.t 94),none⟩,⟨(some 96),.build [(.val (.int .i64 0)),(.val (.int .i64 0))] [(0,1,(.t 93)),(1,1,(.t 95))],none⟩,⟨(some 97),.lit 2 1 (.agg [(.val (.int .i64 0)),(.val (.int .i64 0))]) [(0,(.t 96))],none⟩,⟨(some 98),.append 2 16 (.t 91) (.t 97),none⟩,⟨none,.mset none (.t 84) (.t 86) (.t 98),none⟩] [(1,3),(1,5),(3,5),(1,7),(3,7),(5,7),(1,8),(3,8),(1,10),(3,10),(5,10),(7,10),(8,10),(1,12),(3,12),(5,12),(7,12),(8,12),(10,12),(1,14),(3,14),(5,14),(7,14),(8,14),(1,15),(3,15)]
def rdL(t:Tpl)(l:Lnk)(ids:List Int)(a b:List AV):List (Option Blk):=
 [some (.box (Tpl.v t)),some (.box (.agg [.val (.map none),.val (.map none)])),some (.box (.agg [.mref 3,.mref 4])),some (.map none (kyN ids) a),some (.map none (kyN ids) b),some (.box (Lnk.v l))]
def rdT(t:Tpl)(l:Lnk)(i:Nat)(M:List (List Stp)):S3:=
 ⟨cT [(1,.ref 0 0),(2,.ref 1 0),(3,.ref 2 0),(7,.ref 5 0),(29,.sl 5 (t.ls.map Lnk.v) false),(30,.int t.ls.length),(31,.int (i:Nat))],GS M (hpL 0 (rdL t l (t.rs.map (·.id)) (evN t.rs.length) (odN t.rs.length))),2000⟩
theorem th{t:Tpl}{l:Lnk}{ids:List Int}{n:Nat}{hp:Hp}{bs fs:Nat→Nat}{a b:List AV}(hbs:bs 0=0∧bs 1=1∧bs 2=2∧bs 3=3∧bs 4=4)(hn:n≤400)(h0:hp 0=some (.box (Tpl.v t)))(h1:hp 1=some (.box (.agg [.val (.map none),.val (.map none)])))(h2:hp 2=some (.box (.agg [.mref 3,.mref 4])))
  (h3:hp 3=some (.map none (kyN ids) a)) (h4:hp 4=some (.map none (kyN ids) b)) (h5:hp (bs 5)=some (.box (Lnk.v l))) (ha:a=(List.range n).map λi=>.vec (fs (2 * i))) (hb:b=(List.range n).map λi=>.vec (fs (2 * i+1))) :
  ∀i x,(rdL t l ids (evN n) (odN n))[i]?=some (some x)→hp (bs i)=some (x.ren (fL bs fs))∧x.bel 2000:=by
 obtain⟨b0,b1,b2,b3,b4⟩:=hbs;have e3:fL bs fs 3=3:=by rw[fk (by omega),b3]
 have e4:fL bs fs 4=4:=by rw[fk (by omega),b4]
 intro i x h
 rcases i with _|_|_|_|_|_|i
 ·cases h;exact⟨by rw[b0];exact h0,⟨trivial,trivial,trivial⟩⟩
 ·cases h;exact⟨by rw[b1];exact h1,⟨trivial,trivial,trivial⟩⟩
 ·cases h;exact⟨by rw[b2,h2];show _=some (Blk.box (.agg [.mref (fL bs fs 3),.mref (fL bs fs 4)]));rw[e3,e4],⟨show 3<2000 by omega,show 4<2000 by omega,trivial⟩⟩
 ·cases h;exact⟨by show hp (bs 3)=_;rw[b3,h3,Blk.ren,sj hn,ha],sm hn⟩
 ·cases h;exact⟨by show hp (bs 4)=_;rw[b4,h4,Blk.ren,rj hn,hb],rk hn⟩
 ·cases h;exact⟨h5,trivial,trivial,trivial,trivial,trivial,trivial⟩
 ·simp[rdL]at h
def apR(M:List (List Stp))(x:Nat)(s:Stp):List (List Stp):=M.set x (M.getD x []++[s])
theorem iJ(M:List (List Stp))(x:Nat)(s:Stp):(apR M x s).length=M.length:=by simp[apR]
theorem lw{ids:List Int}(hn:ids.Nodup){x:Nat}{a:Int}(h:ids[x]?=some a):MK.n a∈kyN ids∧(kyN ids).idxOf (MK.n a)=x:=by
 have h2:(kyN ids)[x]?=some (MK.n a):=by rw[kyN,J',h];rfl
 refine⟨O' h2,oK ?_ h2⟩;exact List.Pairwise.map MK.n (λa b h e=>h (MK.n.inj e)) hn
theorem sk{n x:Nat}(h:x<n):(evN n).getD x .unk=.vec (Fr (2 * x)):=by simp[evN,I',h]
theorem zg{n x:Nat}(h:x<n):(odN n).getD x .unk=.vec (Fr (2 * x+1)):=by simp[odN,I',h]
theorem LC(n x m:Nat)(h:x<n):(evN n).set x (.vec m)=(List.range n).map λi=>.vec ((λj=>if j=2 * x then m else Fr j) (2 * i)):=by
 refine aS' λi=>?_;rw[ao',evN,J',J',B',bY']
 by_cases e:x=i
 ·subst e;simp[h]
 ·rw[F' e]
  by_cases hi:i<n
  ·simp[hi,show ¬2 * i=2 * x by omega]
  ·simp[hi]
theorem Gm(n x m:Nat):evN n=(List.range n).map λi=>.vec ((λj=>if j=2 * x+1 then m else Fr j) (2 * i)):=by
 refine as' λi _=>?_;simp only;rw[F' (by omega)]
theorem Kw(n x m:Nat)(h:x<n):(odN n).set x (.vec m)=(List.range n).map λi=>.vec ((λj=>if j=2 * x+1 then m else Fr j) (2 * i+1)):=by
 refine aS' λi=>?_;rw[ao',odN,J',J',B',bY']
 by_cases e:x=i
 ·subst e;simp[h]
 ·rw[F' e]
  by_cases hi:i<n
  ·simp[hi];intro h;omega
  ·simp[hi]
theorem DT(n x m:Nat):odN n=(List.range n).map λi=>.vec ((λj=>if j=2 * x then m else Fr j) (2 * i+1)):=by
 refine as' λi _=>?_;simp only;rw[F' (by omega)]
theorem rdu1{n x m:Nat}(hx:x<n):(evN n).set x (.vec m)=(List.range n).map λi=>.vec ((λj=>if j=2 * x then m else Fr j) (2 * i)):=LC n x m hx
theorem rdu2{n x m:Nat}(hx:x<n):odN n=(List.range n).map λi=>.vec ((λj=>if j=2 * x then m else Fr j) (2 * i+1)):=DT n x m
theorem rdu3{n x m:Nat}(hx:x<n):evN n=(List.range n).map λi=>.vec ((λj=>if j=2 * x+1 then m else Fr j) (2 * i)):=Gm n x m
theorem rdu4{n x m:Nat}(hx:x<n):(odN n).set x (.vec m)=(List.range n).map λi=>.vec ((λj=>if j=2 * x+1 then m else Fr j) (2 * i+1)):=Kw n x m hx
theorem rd_a1(t:Tpl)(hc:ay t=0)(l:Lnk)(i:Nat)(M:List (List Stp))(hM:M.length=2 * t.rs.length)(hr:∀r∈M,r.length≤100000){x:Nat}(hx:(t.rs.map (·.id))[x]?=some l.a)(k:Nat){Q:X→S3→Prop}
    (hQ:∀s,au 0 k s (rdT t l i (apR M (2*x) ⟨l.b,l.ca⟩))→Q .normal s):AWP Tryz.prog 0 k Do Q (rdT t l i M):=by
  have hO:=ax hc;have hR:=hO.nr;have hxl:x<t.rs.length:=by have:=ao hx;rwa [B']at this
  have hnd:(t.rs.map (·.id)).Nodup:=List.Pairwise.map _ (λa b h=>by omega) hO.asc;obtain⟨hk1,hk2⟩:=lw hnd hx;obtain⟨row,hrow⟩:∃row,M[2*x]?=some row:=⟨M[2*x]'(by omega),u' (by omega)⟩
  have hrl:=hr row (O' hrow);unfold rdT Do;generalize hids:t.rs.map (·.id)=ids at *
  have hG0:∀b,b<1000→GS M (hpL 0 (rdL t l ids (evN t.rs.length) (odN t.rs.length))) b=hpL 0 (rdL t l ids (evN t.rs.length) (odN t.rs.length)) b:=λb hb=>na hb;have g2:GS M (hpL 0 (rdL t l ids (evN t.rs.length) (odN t.rs.length))) 2=some (.box (.agg [.mref 3,.mref 4])):=hG0 2 (by decide);have g3:GS M (hpL 0 (rdL t l ids (evN t.rs.length) (odN t.rs.length))) 3=some (.map none (kyN ids) (evN t.rs.length)):=hG0 3 (by decide);have g4:GS M (hpL 0 (rdL t l ids (evN t.rs.length) (odN t.rs.length))) 4=some (.map none (kyN ids) (odN t.rs.length)):=hG0 4 (by decide);have g5:GS M (hpL 0 (rdL t l ids (evN t.rs.length) (odN t.rs.length))) 5=some (.box (.agg [.int l.a,.int l.b,.int l.ca,.int l.cb,.int l.w])):=hG0 5 (by decide);have gF:GS M (hpL 0 (rdL t l ids (evN t.rs.length) (odN t.rs.length))) (Fr (2*x))=some (.vec 2 (row.map Stp.v)):=iL hrow (by omega);have hmg:dp (kyN ids) (evN t.rs.length) (MK.n l.a) (.sl 0 [] true) false=.vec (Fr (2*x)):=by
    unfold dp;rw[G' hk1,hk2,sk hxl];rfl
  have hms:∀v,dY none (kyN ids) (evN t.rs.length) (MK.n l.a) v=  .map none (kyN ids) ((evN t.rs.length).set x v):=λv=>by
    unfold dY;rw[G' hk1,hk2]
  have hml:=bv;refine AWP.dreg' λK hK=>?_
  try simp only[ak,seval,g2,g3,g4,g5,bL,bA,dR,AV.key,MK.fits,hmg,hms,gF,and_self,true_and]
  refine iE ?_;have hap:∀xs f,bp (GS M (hpL 0 (rdL t l ids (evN t.rs.length) (odN t.rs.length)))) f 2 16 (.vec (Fr (2*x))) (some xs)={ c:=(row.length+xs.length) * 16≤2 ^ 47∧row.length+xs.length≤maxLen,v:=.vec f,rm:=some (Fr (2*x)),ad:=some (f,.vec 2 (row.map Stp.v++xs)) }:=λxs f=>by
    simp[bp,gF]
  try simp only[ak,seval,gF,g2,g3,g4,g5,hap,hms,bL,AV.key,MK.fits,and_self,true_and,eC,bO (show 3<1000 by omega),if_false]
  refine⟨⟨by omega,by omega⟩,?_⟩
  refine⟨?_,hK _ _ _ (hQ _ ?_)⟩
  · have e2:∀n,n<1000→(Fr (2*x)==n)=false:=λn hn=>by simp[Fr];omega
    have e3:∀n,n<1000→(n==Fr (2*x))=false:=λn hn=>by simp[Fr];omega
    simp[iO,pj,bK,AOp.opers,aR,evO,ag,e2,e3];unfold Fr;omega
  have hap':apR M (2*x) ⟨l.b,l.ca⟩=M.set (2*x) (row++[⟨l.b,l.ca⟩]):=by unfold apR;rw[I',hrow];rfl
  rw[hap']
  refine au.nfR cN _ _ _ (λb=>b) (λj=>if j=2*x then 2240 else Fr j) ?_
    (th ⟨rfl,rfl,rfl,rfl,rfl⟩ (by omega) ?_ ?_ ?_ ?_ ?_ ?_ (rdu1 (hx:=hxl)) (rdu2 (hx:=hxl))) (by simp[rdL]) (by simp;omega) ?_ (λi j _ _ h=>h) ?_ ?_ (λb _=>rfl) (by decide)
  · simp only[aR',aw',false_implies,implies_true,and_true]
    exact⟨⟨rfl,show 0<2000 by omega⟩,⟨rfl,show 1<2000 by omega⟩,⟨rfl,show 2<2000 by omega⟩,⟨rfl,show 5<2000 by omega⟩,⟨rfl,trivial⟩,⟨rfl,trivial⟩,rfl,trivial⟩
  · simp only[ag,bO (show 0<1000 by omega),if_false];exact hG0 0 (by decide)
  · simp only[ag,bO (show 1<1000 by omega),if_false];exact hG0 1 (by decide)
  · simp only[ag,bO (show 2<1000 by omega),if_false];exact hG0 2 (by decide)
  · rw[hids];first|(simp only[ag,if_true];done)|(simp only[ag,bO (show 3<1000 by omega),if_false];exact hG0 3 (by decide))
  · rw[hids];first|(simp only[ag,if_true];done)|(simp only[ag,bO (show 4<1000 by omega),if_false];exact hG0 4 (by decide))
  · simp only[ag,bO (show 5<1000 by omega),if_false];exact hG0 5 (by decide)
  · intro j q hj
    have hjl:=ao hj;rw[bG']at hjl;rw[ao']at hj
    by_cases e:j=2*x
    · subst e
      rw[G' rfl,G' (by omega)]at hj;cases hj;simp only[ag,if_true];simp[iQ];rfl
    · rw[F' (λh=>e h.symm)]at hj
      simp only[F' e,ag,q9 (show 3<1000 by omega),iQ (show j<1000 by omega) (show 2000≤2240 by omega),sO,e,if_false];exact iL hj (by omega)
  · intro a b ha hb he
    simp at ha hb;unfold Fr at he
    (repeat' split at he)<;>omega
  · intro a b ha hb he
    simp only[rdL,ab',ap']at ha;unfold Fr at he
    (repeat' split at he)<;>omega
theorem rd_a2(t:Tpl)(hc:ay t=0)(l:Lnk)(i:Nat)(M:List (List Stp))(hM:M.length=2 * t.rs.length)(hr:∀r∈M,r.length≤100000){x:Nat}(hx:(t.rs.map (·.id))[x]?=some l.b)(k:Nat){Q:X→S3→Prop}
    (hQ:∀s,au 0 k s (rdT t l i (apR M (2*x) ⟨l.a,l.cb⟩))→Q .normal s):AWP Tryz.prog 0 k Dn Q (rdT t l i M):=by
  have hO:=ax hc;have hR:=hO.nr;have hxl:x<t.rs.length:=by have:=ao hx;rwa [B']at this
  have hnd:(t.rs.map (·.id)).Nodup:=List.Pairwise.map _ (λa b h=>by omega) hO.asc;obtain⟨hk1,hk2⟩:=lw hnd hx;obtain⟨row,hrow⟩:∃row,M[2*x]?=some row:=⟨M[2*x]'(by omega),u' (by omega)⟩
  have hrl:=hr row (O' hrow);unfold rdT Dn;generalize hids:t.rs.map (·.id)=ids at *
  have hG0:∀b,b<1000→GS M (hpL 0 (rdL t l ids (evN t.rs.length) (odN t.rs.length))) b=hpL 0 (rdL t l ids (evN t.rs.length) (odN t.rs.length)) b:=λb hb=>na hb;have g2:GS M (hpL 0 (rdL t l ids (evN t.rs.length) (odN t.rs.length))) 2=some (.box (.agg [.mref 3,.mref 4])):=hG0 2 (by decide);have g3:GS M (hpL 0 (rdL t l ids (evN t.rs.length) (odN t.rs.length))) 3=some (.map none (kyN ids) (evN t.rs.length)):=hG0 3 (by decide);have g4:GS M (hpL 0 (rdL t l ids (evN t.rs.length) (odN t.rs.length))) 4=some (.map none (kyN ids) (odN t.rs.length)):=hG0 4 (by decide);have g5:GS M (hpL 0 (rdL t l ids (evN t.rs.length) (odN t.rs.length))) 5=some (.box (.agg [.int l.a,.int l.b,.int l.ca,.int l.cb,.int l.w])):=hG0 5 (by decide);have gF:GS M (hpL 0 (rdL t l ids (evN t.rs.length) (odN t.rs.length))) (Fr (2*x))=some (.vec 2 (row.map Stp.v)):=iL hrow (by omega);have hmg:dp (kyN ids) (evN t.rs.length) (MK.n l.b) (.sl 0 [] true) false=.vec (Fr (2*x)):=by
    unfold dp;rw[G' hk1,hk2,sk hxl];rfl
  have hms:∀v,dY none (kyN ids) (evN t.rs.length) (MK.n l.b) v=  .map none (kyN ids) ((evN t.rs.length).set x v):=λv=>by
    unfold dY;rw[G' hk1,hk2]
  have hml:=bv;refine AWP.dreg' λK hK=>?_
  try simp only[ak,seval,g2,g3,g4,g5,bL,bA,dR,AV.key,MK.fits,hmg,hms,gF,and_self,true_and]
  refine iE ?_;have hap:∀xs f,bp (GS M (hpL 0 (rdL t l ids (evN t.rs.length) (odN t.rs.length)))) f 2 16 (.vec (Fr (2*x))) (some xs)={ c:=(row.length+xs.length) * 16≤2 ^ 47∧row.length+xs.length≤maxLen,v:=.vec f,rm:=some (Fr (2*x)),ad:=some (f,.vec 2 (row.map Stp.v++xs)) }:=λxs f=>by
    simp[bp,gF]
  try simp only[ak,seval,gF,g2,g3,g4,g5,hap,hms,bL,AV.key,MK.fits,and_self,true_and,eC,bO (show 3<1000 by omega),if_false]
  refine⟨⟨by omega,by omega⟩,?_⟩
  refine⟨?_,hK _ _ _ (hQ _ ?_)⟩
  · have e2:∀n,n<1000→(Fr (2*x)==n)=false:=λn hn=>by simp[Fr];omega
    have e3:∀n,n<1000→(n==Fr (2*x))=false:=λn hn=>by simp[Fr];omega
    simp[iO,pj,bK,AOp.opers,aR,evO,ag,e2,e3];unfold Fr;omega
  have hap':apR M (2*x) ⟨l.a,l.cb⟩=M.set (2*x) (row++[⟨l.a,l.cb⟩]):=by unfold apR;rw[I',hrow];rfl
  rw[hap']
  refine au.nfR cN _ _ _ (λb=>b) (λj=>if j=2*x then 2240 else Fr j) ?_
    (th ⟨rfl,rfl,rfl,rfl,rfl⟩ (by omega) ?_ ?_ ?_ ?_ ?_ ?_ (rdu1 (hx:=hxl)) (rdu2 (hx:=hxl))) (by simp[rdL]) (by simp;omega) ?_ (λi j _ _ h=>h) ?_ ?_ (λb _=>rfl) (by decide)
  · simp only[aR',aw',false_implies,implies_true,and_true]
    exact⟨⟨rfl,show 0<2000 by omega⟩,⟨rfl,show 1<2000 by omega⟩,⟨rfl,show 2<2000 by omega⟩,⟨rfl,show 5<2000 by omega⟩,⟨rfl,trivial⟩,⟨rfl,trivial⟩,rfl,trivial⟩
  · simp only[ag,bO (show 0<1000 by omega),if_false];exact hG0 0 (by decide)
  · simp only[ag,bO (show 1<1000 by omega),if_false];exact hG0 1 (by decide)
  · simp only[ag,bO (show 2<1000 by omega),if_false];exact hG0 2 (by decide)
  · rw[hids];first|(simp only[ag,if_true];done)|(simp only[ag,bO (show 3<1000 by omega),if_false];exact hG0 3 (by decide))
  · rw[hids];first|(simp only[ag,if_true];done)|(simp only[ag,bO (show 4<1000 by omega),if_false];exact hG0 4 (by decide))
  · simp only[ag,bO (show 5<1000 by omega),if_false];exact hG0 5 (by decide)
  · intro j q hj
    have hjl:=ao hj;rw[bG']at hjl;rw[ao']at hj
    by_cases e:j=2*x
    · subst e
      rw[G' rfl,G' (by omega)]at hj;cases hj;simp only[ag,if_true];simp[iQ];rfl
    · rw[F' (λh=>e h.symm)]at hj
      simp only[F' e,ag,q9 (show 3<1000 by omega),iQ (show j<1000 by omega) (show 2000≤2240 by omega),sO,e,if_false];exact iL hj (by omega)
  · intro a b ha hb he
    simp at ha hb;unfold Fr at he
    (repeat' split at he)<;>omega
  · intro a b ha hb he
    simp only[rdL,ab',ap']at ha;unfold Fr at he
    (repeat' split at he)<;>omega
theorem rd_a3(t:Tpl)(hc:ay t=0)(l:Lnk)(i:Nat)(M:List (List Stp))(hM:M.length=2 * t.rs.length)(hr:∀r∈M,r.length≤100000){x:Nat}(hx:(t.rs.map (·.id))[x]?=some l.b)(k:Nat){Q:X→S3→Prop}
    (hQ:∀s,au 0 k s (rdT t l i (apR M (2*x+1) ⟨l.a,l.ca⟩))→Q .normal s):AWP Tryz.prog 0 k Dm Q (rdT t l i M):=by
  have hO:=ax hc;have hR:=hO.nr;have hxl:x<t.rs.length:=by have:=ao hx;rwa [B']at this
  have hnd:(t.rs.map (·.id)).Nodup:=List.Pairwise.map _ (λa b h=>by omega) hO.asc;obtain⟨hk1,hk2⟩:=lw hnd hx;obtain⟨row,hrow⟩:∃row,M[2*x+1]?=some row:=⟨M[2*x+1]'(by omega),u' (by omega)⟩
  have hrl:=hr row (O' hrow);unfold rdT Dm;generalize hids:t.rs.map (·.id)=ids at *
  have hG0:∀b,b<1000→GS M (hpL 0 (rdL t l ids (evN t.rs.length) (odN t.rs.length))) b=hpL 0 (rdL t l ids (evN t.rs.length) (odN t.rs.length)) b:=λb hb=>na hb;have g2:GS M (hpL 0 (rdL t l ids (evN t.rs.length) (odN t.rs.length))) 2=some (.box (.agg [.mref 3,.mref 4])):=hG0 2 (by decide);have g3:GS M (hpL 0 (rdL t l ids (evN t.rs.length) (odN t.rs.length))) 3=some (.map none (kyN ids) (evN t.rs.length)):=hG0 3 (by decide);have g4:GS M (hpL 0 (rdL t l ids (evN t.rs.length) (odN t.rs.length))) 4=some (.map none (kyN ids) (odN t.rs.length)):=hG0 4 (by decide);have g5:GS M (hpL 0 (rdL t l ids (evN t.rs.length) (odN t.rs.length))) 5=some (.box (.agg [.int l.a,.int l.b,.int l.ca,.int l.cb,.int l.w])):=hG0 5 (by decide);have gF:GS M (hpL 0 (rdL t l ids (evN t.rs.length) (odN t.rs.length))) (Fr (2*x+1))=some (.vec 2 (row.map Stp.v)):=iL hrow (by omega);have hmg:dp (kyN ids) (odN t.rs.length) (MK.n l.b) (.sl 0 [] true) false=.vec (Fr (2*x+1)):=by
    unfold dp;rw[G' hk1,hk2,zg hxl];rfl
  have hms:∀v,dY none (kyN ids) (odN t.rs.length) (MK.n l.b) v=  .map none (kyN ids) ((odN t.rs.length).set x v):=λv=>by
    unfold dY;rw[G' hk1,hk2]
  have hml:=bv;refine AWP.dreg' λK hK=>?_
  try simp only[ak,seval,g2,g3,g4,g5,bL,bA,dR,AV.key,MK.fits,hmg,hms,gF,and_self,true_and]
  refine iE ?_;have hap:∀xs f,bp (GS M (hpL 0 (rdL t l ids (evN t.rs.length) (odN t.rs.length)))) f 2 16 (.vec (Fr (2*x+1))) (some xs)={ c:=(row.length+xs.length) * 16≤2 ^ 47∧row.length+xs.length≤maxLen,v:=.vec f,rm:=some (Fr (2*x+1)),ad:=some (f,.vec 2 (row.map Stp.v++xs)) }:=λxs f=>by
    simp[bp,gF]
  try simp only[ak,seval,gF,g2,g3,g4,g5,hap,hms,bL,AV.key,MK.fits,and_self,true_and,eC,bO (show 4<1000 by omega),if_false]
  refine⟨⟨by omega,by omega⟩,?_⟩
  refine⟨?_,hK _ _ _ (hQ _ ?_)⟩
  · have e2:∀n,n<1000→(Fr (2*x+1)==n)=false:=λn hn=>by simp[Fr];omega
    have e3:∀n,n<1000→(n==Fr (2*x+1))=false:=λn hn=>by simp[Fr];omega
    simp[iO,pj,bK,AOp.opers,aR,evO,ag,e2,e3];unfold Fr;omega
  have hap':apR M (2*x+1) ⟨l.a,l.ca⟩=M.set (2*x+1) (row++[⟨l.a,l.ca⟩]):=by unfold apR;rw[I',hrow];rfl
  rw[hap']
  refine au.nfR cN _ _ _ (λb=>b) (λj=>if j=2*x+1 then 2240 else Fr j) ?_
    (th ⟨rfl,rfl,rfl,rfl,rfl⟩ (by omega) ?_ ?_ ?_ ?_ ?_ ?_ (rdu3 (hx:=hxl)) (rdu4 (hx:=hxl))) (by simp[rdL]) (by simp;omega) ?_ (λi j _ _ h=>h) ?_ ?_ (λb _=>rfl) (by decide)
  · simp only[aR',aw',false_implies,implies_true,and_true]
    exact⟨⟨rfl,show 0<2000 by omega⟩,⟨rfl,show 1<2000 by omega⟩,⟨rfl,show 2<2000 by omega⟩,⟨rfl,show 5<2000 by omega⟩,⟨rfl,trivial⟩,⟨rfl,trivial⟩,rfl,trivial⟩
  · simp only[ag,bO (show 0<1000 by omega),if_false];exact hG0 0 (by decide)
  · simp only[ag,bO (show 1<1000 by omega),if_false];exact hG0 1 (by decide)
  · simp only[ag,bO (show 2<1000 by omega),if_false];exact hG0 2 (by decide)
  · rw[hids];first|(simp only[ag,if_true];done)|(simp only[ag,bO (show 3<1000 by omega),if_false];exact hG0 3 (by decide))
  · rw[hids];first|(simp only[ag,if_true];done)|(simp only[ag,bO (show 4<1000 by omega),if_false];exact hG0 4 (by decide))
  · simp only[ag,bO (show 5<1000 by omega),if_false];exact hG0 5 (by decide)
  · intro j q hj
    have hjl:=ao hj;rw[bG']at hjl;rw[ao']at hj
    by_cases e:j=2*x+1
    · subst e
      rw[G' rfl,G' (by omega)]at hj;cases hj;simp only[ag,if_true];simp[iQ];rfl
    · rw[F' (λh=>e h.symm)]at hj
      simp only[F' e,ag,q9 (show 4<1000 by omega),iQ (show j<1000 by omega) (show 2000≤2240 by omega),sO,e,if_false];exact iL hj (by omega)
  · intro a b ha hb he
    simp at ha hb;unfold Fr at he
    (repeat' split at he)<;>omega
  · intro a b ha hb he
    simp only[rdL,ab',ap']at ha;unfold Fr at he
    (repeat' split at he)<;>omega
theorem rd_a4(t:Tpl)(hc:ay t=0)(l:Lnk)(i:Nat)(M:List (List Stp))(hM:M.length=2 * t.rs.length)(hr:∀r∈M,r.length≤100000){x:Nat}(hx:(t.rs.map (·.id))[x]?=some l.a)(k:Nat){Q:X→S3→Prop}
    (hQ:∀s,au 0 k s (rdT t l i (apR M (2*x+1) ⟨l.b,l.cb⟩))→Q .normal s):AWP Tryz.prog 0 k Dk Q (rdT t l i M):=by
  have hO:=ax hc;have hR:=hO.nr;have hxl:x<t.rs.length:=by have:=ao hx;rwa [B']at this
  have hnd:(t.rs.map (·.id)).Nodup:=List.Pairwise.map _ (λa b h=>by omega) hO.asc;obtain⟨hk1,hk2⟩:=lw hnd hx;obtain⟨row,hrow⟩:∃row,M[2*x+1]?=some row:=⟨M[2*x+1]'(by omega),u' (by omega)⟩
  have hrl:=hr row (O' hrow);unfold rdT Dk;generalize hids:t.rs.map (·.id)=ids at *
  have hG0:∀b,b<1000→GS M (hpL 0 (rdL t l ids (evN t.rs.length) (odN t.rs.length))) b=hpL 0 (rdL t l ids (evN t.rs.length) (odN t.rs.length)) b:=λb hb=>na hb;have g2:GS M (hpL 0 (rdL t l ids (evN t.rs.length) (odN t.rs.length))) 2=some (.box (.agg [.mref 3,.mref 4])):=hG0 2 (by decide);have g3:GS M (hpL 0 (rdL t l ids (evN t.rs.length) (odN t.rs.length))) 3=some (.map none (kyN ids) (evN t.rs.length)):=hG0 3 (by decide);have g4:GS M (hpL 0 (rdL t l ids (evN t.rs.length) (odN t.rs.length))) 4=some (.map none (kyN ids) (odN t.rs.length)):=hG0 4 (by decide);have g5:GS M (hpL 0 (rdL t l ids (evN t.rs.length) (odN t.rs.length))) 5=some (.box (.agg [.int l.a,.int l.b,.int l.ca,.int l.cb,.int l.w])):=hG0 5 (by decide);have gF:GS M (hpL 0 (rdL t l ids (evN t.rs.length) (odN t.rs.length))) (Fr (2*x+1))=some (.vec 2 (row.map Stp.v)):=iL hrow (by omega);have hmg:dp (kyN ids) (odN t.rs.length) (MK.n l.a) (.sl 0 [] true) false=.vec (Fr (2*x+1)):=by
    unfold dp;rw[G' hk1,hk2,zg hxl];rfl
  have hms:∀v,dY none (kyN ids) (odN t.rs.length) (MK.n l.a) v=  .map none (kyN ids) ((odN t.rs.length).set x v):=λv=>by
    unfold dY;rw[G' hk1,hk2]
  have hml:=bv;refine AWP.dreg' λK hK=>?_
  try simp only[ak,seval,g2,g3,g4,g5,bL,bA,dR,AV.key,MK.fits,hmg,hms,gF,and_self,true_and]
  refine iE ?_;have hap:∀xs f,bp (GS M (hpL 0 (rdL t l ids (evN t.rs.length) (odN t.rs.length)))) f 2 16 (.vec (Fr (2*x+1))) (some xs)={ c:=(row.length+xs.length) * 16≤2 ^ 47∧row.length+xs.length≤maxLen,v:=.vec f,rm:=some (Fr (2*x+1)),ad:=some (f,.vec 2 (row.map Stp.v++xs)) }:=λxs f=>by
    simp[bp,gF]
  try simp only[ak,seval,gF,g2,g3,g4,g5,hap,hms,bL,AV.key,MK.fits,and_self,true_and,eC,bO (show 4<1000 by omega),if_false]
  refine⟨⟨by omega,by omega⟩,?_⟩
  refine⟨?_,hK _ _ _ (hQ _ ?_)⟩
  · have e2:∀n,n<1000→(Fr (2*x+1)==n)=false:=λn hn=>by simp[Fr];omega
    have e3:∀n,n<1000→(n==Fr (2*x+1))=false:=λn hn=>by simp[Fr];omega
    simp[iO,pj,bK,AOp.opers,aR,evO,ag,e2,e3];unfold Fr;omega
  have hap':apR M (2*x+1) ⟨l.b,l.cb⟩=M.set (2*x+1) (row++[⟨l.b,l.cb⟩]):=by unfold apR;rw[I',hrow];rfl
  rw[hap']
  refine au.nfR cN _ _ _ (λb=>b) (λj=>if j=2*x+1 then 2240 else Fr j) ?_
    (th ⟨rfl,rfl,rfl,rfl,rfl⟩ (by omega) ?_ ?_ ?_ ?_ ?_ ?_ (rdu3 (hx:=hxl)) (rdu4 (hx:=hxl))) (by simp[rdL]) (by simp;omega) ?_ (λi j _ _ h=>h) ?_ ?_ (λb _=>rfl) (by decide)
  · simp only[aR',aw',false_implies,implies_true,and_true]
    exact⟨⟨rfl,show 0<2000 by omega⟩,⟨rfl,show 1<2000 by omega⟩,⟨rfl,show 2<2000 by omega⟩,⟨rfl,show 5<2000 by omega⟩,⟨rfl,trivial⟩,⟨rfl,trivial⟩,rfl,trivial⟩
  · simp only[ag,bO (show 0<1000 by omega),if_false];exact hG0 0 (by decide)
  · simp only[ag,bO (show 1<1000 by omega),if_false];exact hG0 1 (by decide)
  · simp only[ag,bO (show 2<1000 by omega),if_false];exact hG0 2 (by decide)
  · rw[hids];first|(simp only[ag,if_true];done)|(simp only[ag,bO (show 3<1000 by omega),if_false];exact hG0 3 (by decide))
  · rw[hids];first|(simp only[ag,if_true];done)|(simp only[ag,bO (show 4<1000 by omega),if_false];exact hG0 4 (by decide))
  · simp only[ag,bO (show 5<1000 by omega),if_false];exact hG0 5 (by decide)
  · intro j q hj
    have hjl:=ao hj;rw[bG']at hjl;rw[ao']at hj
    by_cases e:j=2*x+1
    · subst e
      rw[G' rfl,G' (by omega)]at hj;cases hj;simp only[ag,if_true];simp[iQ];rfl
    · rw[F' (λh=>e h.symm)]at hj
      simp only[F' e,ag,q9 (show 4<1000 by omega),iQ (show j<1000 by omega) (show 2000≤2240 by omega),sO,e,if_false];exact iL hj (by omega)
  · intro a b ha hb he
    simp at ha hb;unfold Fr at he
    (repeat' split at he)<;>omega
  · intro a b ha hb he
    simp only[rdL,ab',ap']at ha;unfold Fr at he
    (repeat' split at he)<;>omega
end Go.Proofs.YtdoacjojljgdcaaGreat
