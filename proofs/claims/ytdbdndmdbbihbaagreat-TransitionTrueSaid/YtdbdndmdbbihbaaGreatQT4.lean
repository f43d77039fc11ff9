/- Texts joined: Mx8 G0 G1 G2 TP0 LP P0 TC1 TC2 ML SH1 TC3 TC4 FM SH2 RD1. -/
import Derived.Test.YtdbdndmdbbihbaaGreatProg
import Derived.Test.YtdbdndmdbbihbaaGreatQT3
set_option linter.unusedVariables false
set_option linter.unusedSimpArgs false
set_option linter.unusedSectionVars false
namespace Go.Am
inductive Ax (P:Program) (Sf:Nat→Type) (T:Type):Type 1 where
  | say (φ:Prop→Prop) (a:Ax P Sf T)
  | nil
  | pass (a:Ax P Sf T)
  | br (g:Nat) (c:Bool) (x y:Ax P Sf T)
  | el (f:Nat) {α:Type} (v:α→AV) (l:List α) (Q:(α→Prop)→Prop) (k:α→Ax P Sf T)
  | elA (f:Nat) {α:Type} (v:α→List AV) (l:List α) (i n:Nat) (hv:∀x,(v x).length=n) (Q:(α→Prop)→Prop) (k:α→Ax P Sf T)
  | st (f:Nat) {α:Type} (v:α→AV) (l:List α) (g:α→α) (Q:(α→Prop)→Prop) (k:α→Ax P Sf T)
  | stI (f:Nat) {α:Type} (v:α→AV) (l:List α) (Q:(α→Prop)→Prop) (k:α→Ax P Sf T)
  | app (f:Nat) {α:Type} (v:α→AV) (l xs:List α) (a:Ax P Sf T)
  | appF (f:Nat) {α:Type} (v:α→AV) (l xs:List α) (a:Ax P Sf T)
  | sub (f:Nat) {α:Type} (v:α→AV) (l:List α) (fl:Bool) (a:Ax P Sf T)
  | rep (f:Nat) {α:Type} (v:α→AV) (x:α) (a:Ax P Sf T)
  | own (f:Nat) (a:Ax P Sf T)
  | mn (f:Nat) (q:MN) (a:Ax P Sf T)
  | req (f:Nat) (p:Prop) (k:p→Ax P Sf T)
  | callP (c:PC P) (a:Ax P Sf T)
  | callH (bs:List Nat) (c:HC P) (f:Nat) (a:Ax P Sf T)
  | callA (c:PC P) (h:aR c.args) (a:Ax P Sf T)
  | cmd (c:Cmd) (a:Ax P Sf T)
  | cmdL (c:Cmd) (a:Ax P Sf T)
  | wait (a:Ax P Sf T)
  | loop (j:Nat) (nf:Sf j→NF) (I:Sf j→Prop) (mu:Sf j→Nat) (s0:Sf j) (bs:List Nat) (body:Sf j→(Sf j→List Nat→Prop)→Ax P Sf T)
  | join (j:Nat) (nf:Sf j→NF) (I:Sf j→Prop) (a:(Sf j→List Nat→Prop)→Ax P Sf T) (body:Sf j→Ax P Sf T)
  | join2 (j:Nat) (nf:Sf j→NF) (I:Sf j→Prop) (a:(Sf j→List Nat→Prop)→Ax P Sf T) (body:Sf j→Ax P Sf T)
  | bk (j:Nat) (b:Sf j→List Nat→Prop) (t:Sf j) (bs:List Nat)
  | hand (k0:Nat) (cs:List Cmd) (m1:NF) (bs:List Nat) (s2:S3) (c:AC) (h:∀n,dx P k0 n c m1.st s2) (a:Ax P Sf T)
  | hand2 (k0:Nat) (s1 s2:S3) (c:AC) (h:∀n,dx P k0 n c s1 s2) (a:Ax P Sf T)
  | handQ (k0:Nat) (m1:NF) (bs:List Nat) (s2:S3) (c:AC) (p:Prop) (h:p→∀n,dx P k0 n c m1.st s2) (a:Ax P Sf T)
  | allB (c:Bool→Prop) (k:Bool→Ax P Sf T)
  | unr (n:Nat) (a:Ax P Sf T)
  | ret (r:T)
  | retH (r:T) (m:NF) (bs:List Nat)
section
variable {P : Program} {Sf : Nat → Type} {T : Type}
def Ax.an:Ax P Sf T→An P Sf T
 | .say _ a=>a.an
 | .nil=>.nil
 | .pass a=>.pass a.an
 | .br g _ x y=>.br g x.an y.an
 | .el f v l _ k=>.el f v l λx=>(k x).an
 | .elA f v l i n hv _ k=>.elA f v l i n hv λx=>(k x).an
 | .st f v l g _ k=>.st f v l g λx=>(k x).an
 | .stI f v l _ k=>.stI f v l λx=>(k x).an
 | .app f v l xs a=>.app f v l xs a.an
 | .appF f v l xs a=>.appF f v l xs a.an
 | .sub f v l fl a=>.sub f v l fl a.an
 | .rep f v x a=>.rep f v x a.an
 | .own f a=>.own f a.an
 | .mn f q a=>.mn f q a.an
 | .req f p k=>.req f p λh=>(k h).an
 | .callP c a=>.callP c a.an
 | .callH bs c _ a=>.callH bs c a.an
 | .callA c h a=>.callA c h a.an
 | .cmd c a=>.cmd c a.an
 | .cmdL c a=>.cmdL c a.an
 | .wait a=>.wait a.an
 | .loop j nf I mu s0 bs body=>.loop j nf I mu s0 bs λt=>(body t λ_ _=>True).an
 | .join j nf I a body=>.join j nf I (a λ_ _=>True).an λt=>(body t).an
 | .join2 j nf I a body=>.join2 j nf I (a λ_ _=>True).an λt=>(body t).an
 | .bk j _ t bs=>.back j t bs
 | .hand k0 cs m1 bs s2 c h a=>.hand k0 cs m1 bs s2 c h a.an
 | .hand2 k0 s1 s2 c h a=>.hand2 k0 s1 s2 c h a.an
 | .handQ k0 m1 bs s2 c p h a=>.handQ k0 m1 bs s2 c p h a.an
 | .allB _ k=>(k true).an
 | .unr n a=>.unr n a.an
 | .ret r=>.ret r
 | .retH r m bs=>.retH r m bs
def Ax.vc(e:T→AV)(b:T→List (Option Blk))(r0:T):Ax P Sf T→Prop
 | .say φ a=>φ (a.vc e b r0)
 | .nil=>True
 | .pass a=>a.vc e b r0
 | .br _ c x y=>Go.Am.br c (x.vc e b r0) (y.vc e b r0)
 | .el _ _ _ Q k=>Q λx=>(k x).vc e b r0
 | .elA _ _ _ _ _ _ Q k=>Q λx=>(k x).vc e b r0
 | .st _ _ _ _ Q k=>Q λx=>(k x).vc e b r0
 | .stI _ _ _ Q k=>Q λx=>(k x).vc e b r0
 | .app _ _ _ _ a=>a.vc e b r0
 | .appF _ _ _ _ a=>a.vc e b r0
 | .sub _ _ _ _ a=>a.vc e b r0
 | .rep _ _ _ a=>a.vc e b r0
 | .own _ a=>a.vc e b r0
 | .mn _ q a=>q.say (a.vc e b r0)
 | .req _ p k=>∃h:p,(k h).vc e b r0
 | .callP c a=>Cl c (a.vc e b r0)
 | .callH bs c f a=>Ch c bs f (a.vc e b r0)
 | .callA c _ a=>Cl c (a.vc e b r0)
 | .cmd _ a=>a.vc e b r0
 | .cmdL _ a=>a.vc e b r0
 | .wait a=>a.vc e b r0
 | .loop _ nf I mu s0 bs body=>Be nf bs I s0∧∀t,I t→(body t λx bs=>Bk nf bs I mu x t).vc e b r0
 | .join _ nf I a body=>(a λx bs=>Be nf bs I x).vc e b r0∧∀t,I t→(body t).vc e b r0
 | .join2 _ nf I a body=>(a λx bs=>Be nf bs I x).vc e b r0∧∀t,I t→(body t).vc e b r0
 | .bk _ b t bs=>b t bs
 | .hand _ _ m1 bs _ c _ a=>Nf m1 bs (Rf c (a.vc e b r0))
 | .hand2 _ s1 _ c _ a=>Rf s1 (Rf c (a.vc e b r0))
 | .handQ _ m1 bs _ c p _ a=>Nf m1 bs (Rf c (p∧a.vc e b r0))
 | .allB c k=>∀x,c x→(k x).vc e b r0
 | .unr _ a=>a.vc e b r0
 | .ret r=>Rp e r r0
 | .retH r m bs=>Qt m bs e b r r0
def Ax.vp(e:T→AV)(r0:T)(x:Ax P Sf T):Prop:=x.vc e (λ_=>[]) r0
end
@[reducible] def noS:Nat→Type:=λ_=>Unit
end Go.Am
namespace Go.Proofs.YtdbdndmdbbihbaaGreat
open Go Go.Am
structure Tap where
  L:List Int
  p:Nat
structure yL where
  L:List Int
  p:Int
def Tap.v(x:Tap):AV:=.agg [.sl 1 (x.L.map AV.int) false,.int x.p]
@[simp] theorem v7 (l:List Int):bJ (l.map AV.int)=true:=ab (λ_=>rfl) l
def Mod(x n:Int):Int:=if n<1 then 0 else if x.tmod n<0 then x.tmod n+n else x.tmod n
theorem eo{x n:Int}(h:1≤n):0≤Mod x n∧Mod x n<n:=by
 have hb:=Int.tmod_lt_of_pos x (show 0<n by omega)
 have hb':=Int.lt_tmod_of_pos x (show 0<n by omega)
 unfold Mod;split
 ·omega
 split<;>omega
def ae(L:List Int)(p:Nat):Nat:=if L.length≤p then p else p+1
def ao(L:List Int)(p:Nat):Int:=L.getD p 0
def rng(L:List Int)(p:Nat)(lo hi:Int):Int:=W (lo+Mod (ao L p) (W (W (hi-lo)+1)))
def aO(l:List Int)(r:Int):Int:=l.getD (Mod r l.length).toNat 0
def orI(l:List Int):Int:=(l.find? (· != 0)).getD 0
def cmpI(x y:Int):Int:=if x<y then -1 else if y<x then 1 else 0
def mE(x:Int):Bool:=false
theorem bx{k n:Nat}(h:k<n)(hn:n≤9223372036854775807):W ((k:Int)+1)=((k+1:Nat):Int):=by rw[dY (by omega)];omega
theorem j3{k:Nat}(h:k≤9223372036854775807)(h1:1≤k):W ((k:Int)-1)=((k-1:Nat):Int):=by rw[dY (by omega)];omega
def JD(x:Int):=okL [.int x]
def qg(r:Bool):AV:=.bool r
def qf(x:Int):Ax Tryz.prog noS (Bool):=
 (.ret (x != x))
def sW(x:Int)(r0:Bool):=(qf x).vp qg r0
theorem JC(x:Int)(ok:JD x):sW x (mE x):=by
 dsimp only[sW,qf,noS,Ax.vp,Ax.vc];simp only[vcU,rfU,List.length_map]
 simp[mE]
def Az(x:Int):PC Tryz.prog:=⟨174,[.k],[.int x],qg (mE x),aw.of_ok λok=>av (sh:=.k) (enc:=qg) (a:=(qf x).an) (JC x ok) (by kernel_rfl) (AV.pureB_ok rfl),ap (by kernel_rfl)⟩
def Ps(x:Int)(y:Int):=okL [.int x,.int y]
def xW(r:Int):AV:=.int r
def xV(x:Int)(y:Int):Ax Tryz.prog noS (Int):=
 (.callP (Az x)
(.callP (Az y)
(.br 128 (mE x) (.br 144 (mE y) (.ret (0))
(.ret (-1)))
(.br 144 (mE y) (.ret (1))
(.br 192 (decide (x<y)) (.ret (-1))
(.br 240 (decide (y<x)) (.ret (1))
(.ret (0))))))))
def Bt(x:Int)(y:Int)(r0:Int):=(xV x y).vp xW r0
theorem Pr(x y:Int)(ok:Ps x y):Bt x y (cmpI x y):=by
 dsimp only[Bt,xV,noS,Ax.vp,Ax.vc];simp only[vcU,rfU,List.length_map]
 simp only[mE,Bool.false_eq_true,false_implies,true_implies,true_and,cmpI]
 refine⟨λh=>by rw[if_pos h],λh=>⟨λh2=>by rw[if_neg h,if_pos h2],λh2=>by rw[if_neg h,if_neg h2]⟩⟩
def xX(x:Int)(y:Int):PC Tryz.prog:=⟨153,[.k,.k],[.int x,.int y],xW (cmpI x y),aw.of_ok λok=>av (sh:=.k) (enc:=xW) (a:=(xV x y).an) (Pr x y ok) (by kernel_rfl) (AV.pureB_ok rfl),ap (by kernel_rfl)⟩
theorem Cv{l:List Int}{k:Nat}{x:Int}(h:l.take k |>.all (·==0))(hx:l[k]?=some x)(hn:x≠0):l.find? (· != 0)=some x:=by
 rw[List.find?_eq_some_iff_getElem]
 refine⟨by simpa using hn,k,aq hx,by rw[List.getElem?_eq_getElem (aq hx)]at hx;exact Option.some.inj hx,λj hj=>?_⟩
 have:=List.all_eq_true.mp h (l[j]'(by have:=aq hx;omega)) (List.mem_take_iff_getElem.mpr ⟨j,by have:=aq hx;omega,rfl⟩)
 simpa using this
def Gh(s:List Int):=okL [.sl 1 (s.map AV.int) false]
def nv(r:List Int):AV:=.sl 1 (r.map AV.int) false
def nu(s:List Int):Ax Tryz.prog noS ((List Int)):=
 (.allB (λb1=>((s.map AV.int)≠[]→b1=false)) λb1 =>
(.br 48 (b1 != false) (.ret ([]))
(.say (λR=>Rf (α:=List AV) [] (Rf (α:=List AV) (s.map AV.int)
(ck (decide (0+s.length≤1048576))
R))) (.app 80 AV.int [] s
(.say (Rf (s.map AV.int)) (.cmdL (.frzE 80 (s.map AV.int) (ab (λ_=>rfl) s)) (.ret (s))))))))
def ow(s:List Int)(r0:List Int):=(nu s).vp nv r0
theorem Gf(s:List Int)(h:s.length≤1000000)(ok:Gh s):ow s s:=by
 dsimp only[ow,nu,noS,Ax.vp,Ax.vc];simp only[vcU,rfU,List.length_map]
 intro b hb
 simp only[v7,true_and,and_true,Nat.zero_add]
 refine⟨λh1=>?_,λ_=>by omega⟩
 cases s with
 | nil=>rfl
 | cons x s=>simp at hb;simp[hb]at h1
def Gg(s:List Int)(h:s.length≤1000000):PC Tryz.prog:=⟨111,[(.s 1)],[.sl 1 (s.map AV.int) false],nv s,aw.of_ok λok=>av (sh:=(.s 1)) (enc:=nv) (a:=(nu s).an) (Gf s h ok) (by kernel_rfl) (AV.pureB_ok rfl),ap (by kernel_rfl)⟩
def bM{α:Type}(es:List α)(i:Nat)(x:α):List α:=es.take i++[x]++es.drop i
def putP(l:List Int)(x:Int):Nat:=l.findIdx (λy=>!decide (y<x))
def put(l:List Int)(x:Int):List Int:=if l[putP l x]?=some x then l else bM l (putP l x) x
structure Rtr where
  id:Int
  cap:Bool
  deriving DecidableEq
structure Lnk where
  a:Int
  b:Int
  ca:Int
  cb:Int
  w:Int
  deriving DecidableEq
structure Tpl where
  rs:List Rtr
  ls:List Lnk
  deriving DecidableEq
theorem Cj{α:Type}{l:List α}{k:Nat}{x:α}:((l.take k).drop 0)++([x]++((l.take ((l.length:Int).toNat)).drop k))=bM l k x:=by
 rw[Int.toNat_natCast,List.take_length,List.drop_zero,bM,List.append_assoc]
def Rtr.v(x:Rtr):AV:=.agg [.int x.id,.bool x.cap]
def Lnk.v(x:Lnk):AV:=.agg [.int x.a,.int x.b,.int x.ca,.int x.cb,.int x.w]
def Tpl.v(x:Tpl):AV:=.agg [.sl 2 (x.rs.map Rtr.v) false,.sl 5 (x.ls.map Lnk.v) false]
def G(rows:List (List Bool))(h:Hp):Hp:=λb=>if 1000≤b∧b<2000 then(rows[b-1000]?).map (λr=>Blk.vec 1 (r.map AV.bool))else h b
def F(i:Nat):Nat:=1000+i
def names(n:Nat):List AV:=(List.range n).map λi=>.vec (F i)
def mset(M:List (List Bool))(x y:Nat):List (List Bool):=M.set x ((M.getD x []).set y true)
def Sq(n:Nat)(M:List (List Bool)):Prop:=M.length=n∧∀r∈M,r.length=n
theorem Sq.get{n:Nat}{M:List (List Bool)}(h:Sq n M){x:Nat}(hx:x<n):∃r,M[x]?=some r∧r.length=n∧M.getD x []=r:=by
 have hx:x<M.length:=by rw[h.1];exact hx
 exact⟨M[x],List.getElem?_eq_getElem hx,h.2 _ (List.getElem_mem hx),by simp[List.getD,List.getElem?_eq_getElem hx]⟩
theorem Sq.set{n:Nat}{M:List (List Bool)}(h:Sq n M)(x y:Nat):Sq n (mset M x y):=by
 refine⟨by simp[mset,h.1],λr hr=>?_⟩
 by_cases hx:x<n
 ·obtain⟨r0,g1,g2,g3⟩:=h.get hx
  rcases List.mem_or_eq_of_mem_set hr with hr|rfl
  ·exact h.2 r hr
  ·rw[g3];simpa using g2
 ·have:mset M x y=M:=List.set_eq_of_length_le (by rw[h.1];omega)
  rw[this]at hr;exact h.2 r hr
section
variable {α : Type} {l : List α} {P : α → Prop} {R : α → α → Prop} {t : Int} {x y : α}
theorem dg{i n:Int}(h1:0≤i)(h2:i<n):(bif decide (0≤i)then decide (i<n)else false)=true:=by
 rw[decide_eq_true h1,decide_eq_true h2];rfl
def aL(l:List α)(P:α→Prop)(t:Int):Prop:=∃k:Nat,t=k∧k≤l.length∧∀x∈l.take k,P x
theorem aL.zero:aL l P 0:=⟨0,rfl,by omega,by simp⟩
theorem aL.idx(h:aL l P t):0≤t:=by obtain⟨k,rfl,_,_⟩:=h;omega
theorem aL.step(h:aL l P t)(hl:l.length≤9223372036854775807)(hx:l[t.toNat]?=some x)(p:P x):aL l P (W (t+1))∧l.length-(W (t+1)).toNat<l.length-t.toNat:=by
 obtain⟨k,rfl,hk,ha⟩:=h
 rw[Int.toNat_natCast]at hx
 have:=aq hx
 rw[bx (n:=l.length) this hl]
 refine⟨⟨k+1,rfl,by omega,λz hz=>?_⟩,by omega⟩
 rw[aV hx]at hz
 rcases List.mem_append.mp hz with hz|hz
 ·exact ha z hz
 ·rw[List.mem_singleton]at hz;exact hz ▸ p
theorem aL.done(h:aL l P t)(c:¬t<l.length):∀x∈l,P x:=by
 obtain⟨k,rfl,hk,ha⟩:=h
 rw[List.take_of_length_le (by omega)]at ha
 exact ha
theorem bS(hx:l[t.toNat]?=some x):x∈l:=bc hx
def fM(l:List α)(R:α→α→Prop)(t:Int):Prop:=∃k:Nat,t=k∧1≤k∧k≤l.length+1∧∀j x y,j+1<k→l[j]?=some x→l[j+1]?=some y→R x y
theorem fM.one:fM l R 1:=⟨1,rfl,by omega,by omega,λj x y h=>by omega⟩
theorem fM.idx(h:fM l R t)(hl:l.length≤9223372036854775807)(c:t<l.length):(0≤W (t-1)∧W (t-1)<l.length)∧0≤t:=by
 obtain⟨k,rfl,h1,hk,ha⟩:=h
 rw[j3 (by omega) h1]
 omega
theorem fM.step(h:fM l R t)(hl:l.length≤9223372036854775807)(hx:l[(W (t-1)).toNat]?=some x)(hy:l[t.toNat]?=some y)(p:R x y):fM l R (W (t+1))∧l.length+1-(W (t+1)).toNat<l.length+1-t.toNat:=by
 obtain⟨k,rfl,h1,hk,ha⟩:=h
 rw[Int.toNat_natCast]at hy
 have hlt:=aq hy
 rw[j3 (by omega) h1,Int.toNat_natCast]at hx
 rw[bx (n:=l.length) hlt (by omega)]
 refine⟨⟨k+1,rfl,by omega,by omega,λj x' y' hj hx' hy'=>?_⟩,by omega⟩
 by_cases e:j+1=k
 ·subst e
  rw[show j+1-1=j by omega,hx']at hx;cases hx
  rw[hy']at hy;cases hy;exact p
 ·exact ha j x' y' (by omega) hx' hy'
theorem fM.bad(h:fM l R t)(hl:l.length≤9223372036854775807)(hx:l[(W (t-1)).toNat]?=some x)(hy:l[t.toNat]?=some y){S:α→α→Prop}(p:¬S x y):¬l.Pairwise S:=by
 obtain⟨k,rfl,h1,hk,ha⟩:=h
 rw[Int.toNat_natCast]at hy
 have hlt:=aq hy
 rw[j3 (by omega) h1,Int.toNat_natCast]at hx
 intro hp
 rw[List.pairwise_iff_getElem]at hp
 have:=hp (k-1) k (by omega) hlt (by omega)
 rw[List.getElem?_eq_getElem (by omega)]at hx hy
 rw[Option.some.inj hx,Option.some.inj hy]at this
 exact p this
theorem fM.done(h:fM l R t)(c:¬t<l.length)(tr:∀x y z,R x y→R y z→R x z):l.Pairwise R:=by
 obtain⟨k,rfl,h1,hk,ha⟩:=h
 rw[List.pairwise_iff_getElem]
 have key:∀d i,(hi:i+d+1<l.length)→R (l[i]'(by omega)) l[i+d+1]:=by
  intro d
  induction d with
  | zero=>intro i hi;exact ha i _ _ (by omega) (List.getElem?_eq_getElem (by omega)) (List.getElem?_eq_getElem hi)
  | succ d ih =>
   intro i hi
   exact tr _ _ _ (ih i (by omega)) (ha (i+d+1) _ _ (by omega) (List.getElem?_eq_getElem (by omega)) (List.getElem?_eq_getElem hi))
 intro i j hi hj hij
 have:=key (j-i-1) i (by omega)
 simp only[show i+(j-i-1)+1=j by omega]at this
 exact this
def kS{σ:Type}(l:List α)(g:σ→α→σ)(s0:σ)(t:Int)(s:σ):Prop:=∃k:Nat,t=k∧k≤l.length∧s=(l.take k).foldl g s0
section
variable {σ : Type} {g : σ → α → σ} {s0 s : σ}
theorem kS.zero:kS l g s0 0 s0:=⟨0,rfl,by omega,rfl⟩
theorem kS.idx(h:kS l g s0 t s):0≤t:=by obtain⟨k,rfl,_,_⟩:=h;omega
theorem kS.step(h:kS l g s0 t s)(hl:l.length≤9223372036854775807)(hx:l[t.toNat]?=some x){s':σ}(p:s'=g s x):kS l g s0 (W (t+1)) s'∧l.length-(W (t+1)).toNat<l.length-t.toNat:=by
 obtain⟨k,rfl,hk,rfl⟩:=h
 rw[Int.toNat_natCast]at hx
 have:=aq hx
 rw[bx (n:=l.length) this hl]
 exact⟨⟨k+1,rfl,by omega,by rw[aV hx,List.foldl_append,p];rfl⟩,by omega⟩
theorem kS.done(h:kS l g s0 t s)(c:¬t<l.length):s=l.foldl g s0:=by
 obtain⟨k,rfl,hk,rfl⟩:=h
 rw[List.take_of_length_le (by omega)]
end
def fz{β:Type}(l:List α)(f:α→List β)(t:Int)(out:List β):Prop:=∃k:Nat,t=k∧k≤l.length∧out=(l.take k).flatMap f
section
variable {β : Type} {f : α → List β} {out : List β}
theorem fz.zero:fz l f 0 []:=⟨0,rfl,by omega,rfl⟩
theorem fz.idx(h:fz l f t out):0≤t:=by obtain⟨k,rfl,_,_⟩:=h;omega
theorem fz.step(h:fz l f t out)(hl:l.length≤9223372036854775807)(hx:l[t.toNat]?=some x){out':List β}(p:out'=out++f x):fz l f (W (t+1)) out'∧l.length-(W (t+1)).toNat<l.length-t.toNat:=by
 obtain⟨k,rfl,hk,rfl⟩:=h
 rw[Int.toNat_natCast]at hx
 have:=aq hx
 rw[bx (n:=l.length) this hl]
 exact⟨⟨k+1,rfl,by omega,by rw[aV hx,List.flatMap_append,p];simp⟩,by omega⟩
theorem fz.done(h:fz l f t out)(c:¬t<l.length):out=l.flatMap f:=by
 obtain⟨k,rfl,hk,rfl⟩:=h
 rw[List.take_of_length_le (by omega)]
theorem fz.len(h:fz l f t out){b:Nat}(hb:∀x∈l,(f x).length≤b):out.length≤l.length * b:=by
 obtain⟨k,rfl,hk,rfl⟩:=h
 have key:∀m:List α,(∀x∈m,(f x).length≤b)→(m.flatMap f).length≤m.length * b:=by
  intro m
  induction m with
  | nil=>intro _;simp
  | cons x m ih =>
   intro hm
   have h1:=hm x (by simp)
   have h2:=ih λy hy=>hm y (by simp[hy])
   rw[List.flatMap_cons,List.length_append,List.length_cons,Nat.succ_mul];omega
 refine Nat.le_trans (key _ λx hx=>hb x (List.mem_of_mem_take hx)) (Nat.mul_le_mul_right _ ?_)
 rw[List.length_take];omega
end
theorem tu{β:Type}{f:α→β}{l:List α}:(l.flatMap λx=>[f x])=l.map f:=by
 induction l with
 | nil=>rfl
 | cons x l ih=>rw[List.flatMap_cons,ih];rfl
theorem xi{p:α→Bool}{l:List α}:(l.flatMap λx=>if p x=true then [x]else [])=l.filter p:=by
 induction l with
 | nil=>rfl
 | cons x l ih =>
  rw[List.flatMap_cons,ih,List.filter_cons]
  split<;>rfl
def cw(p:α→Bool)(l:List α):Int:=if l.any p=true then((l.findIdx p:Nat):Int)else -1
theorem aL.found{p:α→Bool}(h:aL l (λy=>p y=false) t)(hx:l[t.toNat]?=some x)(hp:p x=true):t=cw p l:=by
 obtain⟨k,rfl,hk,ha⟩:=h
 rw[Int.toNat_natCast]at hx
 rw[cw,if_pos (List.any_eq_true.mpr ⟨x,bc hx,hp⟩)]
 have:l.findIdx p=k:=by
  have hlt:=aq hx
  rw[List.getElem?_eq_getElem hlt]at hx
  have hx:=Option.some.inj hx
  rw[List.findIdx_eq hlt]
  refine⟨by rw[hx];exact hp,λj hj=>?_⟩
  exact ha _ (List.mem_take_iff_getElem.mpr ⟨j,by omega,rfl⟩)
 rw[this]
theorem aL.lost{p:α→Bool}(h:aL l (λy=>p y=false) t)(c:¬t<l.length):-1=cw p l:=by
 rw[cw,if_neg]
 rw[List.any_eq_true]
 rintro⟨x,hx,hp⟩
 rw[h.done c x hx]at hp;cases hp
theorem dA(p:α→Bool)(l:List α):decide (0≤cw p l)=l.any p:=by
 unfold cw
 cases l.any p
 ·rfl
 ·rw[if_pos rfl];exact decide_eq_true (by omega)
end
theorem lD{α:Type}{l:List α}{t:Int}{x:α}{p:α→Bool}(h:aL l (λy=>p y=false) t)(hx:l[t.toNat]?=some x)(hp:p x=true):l.find? p=some x:=by
 obtain⟨k,rfl,hk,ha⟩:=h
 rw[Int.toNat_natCast]at hx
 rw[List.find?_eq_some_iff_getElem]
 have hlt:=aq hx
 refine⟨hp,k,hlt,by rw[List.getElem?_eq_getElem hlt]at hx;exact Option.some.inj hx,λj hj=>?_⟩
 rw[ha _ (List.mem_take_iff_getElem.mpr ⟨j,by omega,rfl⟩)];rfl
theorem qn{α:Type}{l:List α}{t:Int}{p:α→Bool}(h:aL l (λy=>p y=false) t)(c:¬t<l.length):l.find? p=none:=by
 rw[List.find?_eq_none]
 exact λx hx=>by rw[h.done c x hx];simp
def gE(n:Int):Bool:=decide (1≤n) && decide (n≤1000)
def Pf(n:Int):=okL [.int n]
def xG(r:Bool):AV:=.bool r
def xF(n:Int):Ax Tryz.prog noS (Bool):=
 (.br 64 (decide (1≤n)) (.ret (decide (n≤1000)))
(.ret (false)))
def Bf(n:Int)(r0:Bool):=(xF n).vp xG r0
theorem Pe(n:Int)(ok:Pf n):Bf n (gE n):=by
 dsimp only[Bf,xF,noS,Ax.vp,Ax.vc];simp only[vcU,rfU,List.length_map]
 refine⟨λc=>?_,λc=>?_⟩<;>simp[gE,c]
def FW(n:Int):PC Tryz.prog:=⟨88,[.k],[.int n],xG (gE n),aw.of_ok λok=>av (sh:=.k) (enc:=xG) (a:=(xF n).an) (Pe n ok) (by kernel_rfl) (AV.pureB_ok rfl),ap (by kernel_rfl)⟩
def aI(t:Tpl)(r:Int):Bool:=t.rs.any λx=>x.id==r
def Fs(t:Tpl)(r:Int):=okL [.agg [.sl 2 (t.rs.map Rtr.v) false,.sl 5 (t.ls.map Lnk.v) false],.int r]
def JN(t:Tpl)(r:Int)(t0:Int):NF:=⟨[(1,.k,.int r),(2,.k,.ref 0 0),(5,.k,.int t0)],[.box (.agg [.sl 2 (t.rs.map Rtr.v) false,.sl 5 (t.ls.map Lnk.v) false])]⟩
@[reducible] def Fq:Nat→Type
 | 0=>Int
 | _=>Unit
def wW(r:Bool):AV:=.bool r
def wV(t:Tpl)(r:Int)(I0:Int→Prop)(m0:Int→Nat):Ax Tryz.prog Fq (Bool):=
 (.loop 0 (JN t r) I0 m0 ((0):Int) [0] λ(t0:Int) b0 =>
(.br 81 (decide (t0<((t.rs.map Rtr.v).length:Int))) (.el 129 Rtr.v t.rs (λR=>Rf (t.rs.map Rtr.v) (ck (decide (0≤t0)) (ck (decide (t0<(t.rs.length:Int)))
(∀x1,t.rs[t0.toNat]?=some x1 →
(R x1))))) λx1 =>
(.br 209 (x1.id==r) (.ret (true))
(.bk 0 b0 ((W (t0+1)):Int) [0])))
(.ret (false))))
def AD(t:Tpl)(r:Int)(I0:Int→Prop)(m0:Int→Nat)(r0:Bool):=(wV t r I0 m0).vp wW r0
theorem Oz(t:Tpl)(r:Int)(ok:Fs t r):∃I m,AD t r I m (aI t r):=by
 refine⟨λi=>aL t.rs (λx=>(x.id==r)=false) i,λi=>t.rs.length-i.toNat,?_⟩
 simp only[Fs,okU,Blk.ok,aK,List.length_map]at ok
 dsimp only[AD,wV,Fq,Ax.vp,Ax.vc];simp only[vcU,rfU,List.length_map]
 refine⟨aL.zero,λi h=>⟨λc=>⟨h.idx,c,λx hx=>⟨λq=>?_,λq=>h.step (by omega) hx q⟩⟩,λc=>?_⟩⟩
 ·exact(List.any_eq_true.mpr ⟨x,bS hx,q⟩).symm
 ·exact(List.any_eq_false.mpr λx hx=>by rw[h.done c x hx];simp).symm
def wX(t:Tpl)(r:Int):PC Tryz.prog:=⟨87,[(.a [(.s 2),(.s 5)]),.k],[.agg [.sl 2 (t.rs.map Rtr.v) false,.sl 5 (t.ls.map Lnk.v) false],.int r],wW (aI t r),aw.of_ok λok=>(Oz t r ok).elim λI0 h=>h.elim λm0 h=>av (sh:=.k) (enc:=wW) (a:=(wV t r I0 m0).an) h (by kernel_rfl) (AV.pureB_ok rfl),ap (by kernel_rfl)⟩
def gV(l:Lnk):Prop:=gE l.ca=true∧gE l.cb=true∧0≤l.w∧l.w≤1000
instance (l:Lnk):Decidable (gV l):=by unfold gV;infer_instance
def cX(x y:Lnk):Prop:=x.a<y.a∨x.a=y.a∧x.b<y.b
instance (x y:Lnk):Decidable (cX x y):=by unfold cX;infer_instance
def aJ(t:Tpl):Int:=
 if 24<t.rs.length∨60<t.ls.length then 3
 else if ¬∀x∈t.rs,1≤x.id∧x.id≤99 then 2
 else if ¬t.rs.Pairwise (λx y=>x.id<y.id)then 25
 else if ¬∀l∈t.ls,gV l then 2
 else if ¬∀l∈t.ls,aI t l.a=true∧aI t l.b=true then 4
 else if ¬∀l∈t.ls,l.a<l.b then 8
 else if ¬t.ls.Pairwise cX then 25 else 0
def Gx(t:Tpl):=okL [.agg [.sl 2 (t.rs.map Rtr.v) false,.sl 5 (t.ls.map Lnk.v) false]]
def Lc(t:Tpl)(t0:Bool):NF:=⟨[(1,.k,.ref 0 0),(21,.k,.bool t0)],[.box (.agg [.sl 2 (t.rs.map Rtr.v) false,.sl 5 (t.ls.map Lnk.v) false])]⟩
def Lb(t:Tpl)(t1:Int):NF:=⟨[(1,.k,.ref 0 0),(3,.k,.int t1)],[.box (.agg [.sl 2 (t.rs.map Rtr.v) false,.sl 5 (t.ls.map Lnk.v) false])]⟩
def La(t:Tpl)(t1:Int)(t2:Bool):NF:=⟨[(1,.k,.ref 0 0),(3,.k,.int t1),(44,.k,.bool t2)],[.box (.agg [.sl 2 (t.rs.map Rtr.v) false,.sl 5 (t.ls.map Lnk.v) false])]⟩
def KZ(t:Tpl)(t3:Int):NF:=⟨[(1,.k,.ref 0 0),(4,.k,.int t3)],[.box (.agg [.sl 2 (t.rs.map Rtr.v) false,.sl 5 (t.ls.map Lnk.v) false])]⟩
def KY(t:Tpl)(t4:Int):NF:=⟨[(1,.k,.ref 0 0),(5,.k,.int t4)],[.box (.agg [.sl 2 (t.rs.map Rtr.v) false,.sl 5 (t.ls.map Lnk.v) false])]⟩
def KW(t:Tpl)(t4:Int)(t5:Bool):NF:=⟨[(1,.k,.ref 0 0),(5,.k,.int t4),(97,.k,.bool t5)],[.box (.agg [.sl 2 (t.rs.map Rtr.v) false,.sl 5 (t.ls.map Lnk.v) false])]⟩
def KV(t:Tpl)(t6:Int):NF:=⟨[(1,.k,.ref 0 0),(7,.k,.int t6)],[.box (.agg [.sl 2 (t.rs.map Rtr.v) false,.sl 5 (t.ls.map Lnk.v) false])]⟩
def KU(t:Tpl)(t6:Int)(t7:Bool):NF:=⟨[(1,.k,.ref 0 0),(7,.k,.int t6),(124,.k,.bool t7)],[.box (.agg [.sl 2 (t.rs.map Rtr.v) false,.sl 5 (t.ls.map Lnk.v) false])]⟩
def KT(t:Tpl)(t8:Int):NF:=⟨[(1,.k,.ref 0 0),(8,.k,.int t8)],[.box (.agg [.sl 2 (t.rs.map Rtr.v) false,.sl 5 (t.ls.map Lnk.v) false])]⟩
def KS(t:Tpl)(t9:Int):NF:=⟨[(1,.k,.ref 0 0),(9,.k,.int t9)],[.box (.agg [.sl 2 (t.rs.map Rtr.v) false,.sl 5 (t.ls.map Lnk.v) false])]⟩
def Gv(t:Tpl)(t9:Int)(t10:Bool):NF:=⟨[(1,.k,.ref 0 0),(9,.k,.int t9),(181,.k,.bool t10)],[.box (.agg [.sl 2 (t.rs.map Rtr.v) false,.sl 5 (t.ls.map Lnk.v) false])]⟩
@[reducible] def Gu:Nat→Type
 | 0=>Bool
 | 1=>Int
 | 2=>Bool
 | 3=>Int
 | 4=>Int
 | 5=>Bool
 | 6=>Int
 | 7=>Bool
 | 8=>Int
 | 9=>Int
 | 10=>Bool
 | _=>Unit
def ym(r:Int):AV:=.int r
def yl(t:Tpl)(I0:Bool→Prop)(I1:Bool→Int→Prop)(m1:Bool→Int→Nat)(I2:Bool→Int→Bool→Prop)(I3:Bool→Int→Int→Prop)(m3:Bool→Int→Int→Nat)(I4:Bool→Int→Int→Int→Prop)(m4:Bool→Int→Int→Int→Nat)(I5:Bool→Int→Int→Int→Lnk→Bool→Prop)(I6:Bool→Int→Int→Int→Int→Prop)(m6:Bool→Int→Int→Int→Int→Nat)(I7:Bool→Int→Int→Int→Int→Bool→Prop)(I8:Bool→Int→Int→Int→Int→Int→Prop)(m8:Bool→Int→Int→Int→Int→Int→Nat)(I9:Bool→Int→Int→Int→Int→Int→Int→Prop)(m9:Bool→Int→Int→Int→Int→Int→Int→Nat)(I10:Bool→Int→Int→Int→Int→Int→Int→Lnk→Lnk→Bool→Prop):Ax Tryz.prog Gu (Int):=
 (.pass (.pass (.join 0 (Lc t) (λ(t0:Bool)=>I0 t0) (λb0=>(.br 112 (decide (24<((t.rs.map Rtr.v).length:Int))) (.bk 0 b0 ((true):Bool) [0])
(.bk 0 b0 ((decide (60<((t.ls.map Lnk.v).length:Int))):Bool) [0]))) λ(t0:Bool) =>
(.br 1 t0 (.ret (3))
(.loop 1 (Lb t) (I1 t0) (m1 t0) ((0):Int) [0] λ(t1:Int) b1 =>
(.br 81 (decide (t1<((t.rs.map Rtr.v).length:Int))) (.pass (.join 2 (La t t1) (λ(t2:Bool)=>I2 t0 t1 t2) (λb2=>(.el 129 Rtr.v t.rs (λR=>Rf (t.rs.map Rtr.v) (ck (decide (0≤t1)) (ck (decide (t1<(t.rs.length:Int)))
(∀x1,t.rs[t1.toNat]?=some x1 →
(R x1))))) λx1 =>
(.br 209 (decide (x1.id<1)) (.bk 2 b2 ((true):Bool) [0])
(.el 257 Rtr.v t.rs (λR=>Rf (t.rs.map Rtr.v) (ck (decide (0≤t1)) (ck (decide (t1<(t.rs.length:Int)))
(∀x2,t.rs[t1.toNat]?=some x2 →
(R x2))))) λx2 =>
(.bk 2 b2 ((decide (99<x2.id)):Bool) [0]))))) λ(t2:Bool) =>
(.br 1 t2 (.ret (2))
(.bk 1 b1 ((W (t1+1)):Int) [0]))))
(.loop 3 (KZ t) (I3 t0 t1) (m3 t0 t1) ((1):Int) [0] λ(t3:Int) b3 =>
(.br 81 (decide (t3<((t.rs.map Rtr.v).length:Int))) (.el 145 Rtr.v t.rs (λR=>Rf (t.rs.map Rtr.v) (ck (decide (0≤(W (t3-1)))) (ck (decide ((W (t3-1))<(t.rs.length:Int)))
(∀x3,t.rs[(W (t3-1)).toNat]?=some x3 →
(R x3))))) λx3 =>
(.el 241 Rtr.v t.rs (λR=>Rf (t.rs.map Rtr.v) (ck (decide (0≤t3)) (ck (decide (t3<(t.rs.length:Int)))
(∀x4,t.rs[t3.toNat]?=some x4 →
(R x4))))) λx4 =>
(.br 305 (decide (x4.id≤x3.id)) (.ret (25))
(.bk 3 b3 ((W (t3+1)):Int) [0]))))
(.loop 4 (KY t) (I4 t0 t1 t3) (m4 t0 t1 t3) ((0):Int) [0] λ(t4:Int) b4 =>
(.br 81 (decide (t4<((t.ls.map Lnk.v).length:Int))) (.el 129 Lnk.v t.ls (λR=>Rf (t.ls.map Lnk.v) (ck (decide (0≤t4)) (ck (decide (t4<(t.ls.length:Int)))
(∀x5,t.ls[t4.toNat]?=some x5 →
(R x5))))) λx5 =>
(.join 5 (KW t t4) (λ(t5:Bool)=>I5 t0 t1 t3 t4 x5 t5) (λb5=>(.callP (FW x5.ca)
(.br 273 (!(gE x5.ca)) (.bk 5 b5 ((true):Bool) [0])
(.callP (FW x5.cb)
(.br 369 (!(gE x5.cb)) (.bk 5 b5 ((true):Bool) [0])
(.br 449 (decide (x5.w<0)) (.bk 5 b5 ((true):Bool) [0])
(.bk 5 b5 ((decide (1000<x5.w)):Bool) [0]))))))) λ(t5:Bool) =>
(.br 1 t5 (.ret (2))
(.bk 4 b4 ((W (t4+1)):Int) [0]))))
(.loop 6 (KV t) (I6 t0 t1 t3 t4) (m6 t0 t1 t3 t4) ((0):Int) [0] λ(t6:Int) b6 =>
(.br 81 (decide (t6<((t.ls.map Lnk.v).length:Int))) (.pass (.join 7 (KU t t6) (λ(t7:Bool)=>I7 t0 t1 t3 t4 t6 t7) (λb7=>(.el 145 Lnk.v t.ls (λR=>Rf (t.ls.map Lnk.v) (ck (decide (0≤t6)) (ck (decide (t6<(t.ls.length:Int)))
(∀x6,t.ls[t6.toNat]?=some x6 →
(R x6))))) λx6 =>
(.callP (wX t x6.a)
(.br 241 (!(aI t x6.a)) (.bk 7 b7 ((true):Bool) [0])
(.el 305 Lnk.v t.ls (λR=>Rf (t.ls.map Lnk.v) (ck (decide (0≤t6)) (ck (decide (t6<(t.ls.length:Int)))
(∀x7,t.ls[t6.toNat]?=some x7 →
(R x7))))) λx7 =>
(.callP (wX t x7.b)
(.bk 7 b7 ((!(aI t x7.b)):Bool) [0]))))))) λ(t7:Bool) =>
(.br 1 t7 (.ret (4))
(.bk 6 b6 ((W (t6+1)):Int) [0]))))
(.loop 8 (KT t) (I8 t0 t1 t3 t4 t6) (m8 t0 t1 t3 t4 t6) ((0):Int) [0] λ(t8:Int) b8 =>
(.br 81 (decide (t8<((t.ls.map Lnk.v).length:Int))) (.el 129 Lnk.v t.ls (λR=>Rf (t.ls.map Lnk.v) (ck (decide (0≤t8)) (ck (decide (t8<(t.ls.length:Int)))
(∀x8,t.ls[t8.toNat]?=some x8 →
(R x8))))) λx8 =>
(.el 225 Lnk.v t.ls (λR=>Rf (t.ls.map Lnk.v) (ck (decide (0≤t8)) (ck (decide (t8<(t.ls.length:Int)))
(∀x9,t.ls[t8.toNat]?=some x9 →
(R x9))))) λx9 =>
(.br 289 (decide (x9.b≤x8.a)) (.ret (8))
(.bk 8 b8 ((W (t8+1)):Int) [0]))))
(.loop 9 (KS t) (I9 t0 t1 t3 t4 t6 t8) (m9 t0 t1 t3 t4 t6 t8) ((1):Int) [0] λ(t9:Int) b9 =>
(.br 81 (decide (t9<((t.ls.map Lnk.v).length:Int))) (.el 145 Lnk.v t.ls (λR=>Rf (t.ls.map Lnk.v) (ck (decide (0≤(W (t9-1)))) (ck (decide ((W (t9-1))<(t.ls.length:Int)))
(∀x10,t.ls[(W (t9-1)).toNat]?=some x10 →
(R x10))))) λx10 =>
(.el 225 Lnk.v t.ls (λR=>Rf (t.ls.map Lnk.v) (ck (decide (0≤t9)) (ck (decide (t9<(t.ls.length:Int)))
(∀x11,t.ls[t9.toNat]?=some x11 →
(R x11))))) λx11 =>
(.join 10 (Gv t t9) (λ(t10:Bool)=>I10 t0 t1 t3 t4 t6 t8 t9 x10 x11 t10) (λb10=>(.br 417 (decide (x11.a<x10.a)) (.bk 10 b10 ((true):Bool) [0])
(.br 513 (x10.a==x11.a) (.bk 10 b10 ((decide (x11.b≤x10.b)):Bool) [0])
(.bk 10 b10 ((false):Bool) [0])))) λ(t10:Bool) =>
(.br 1 t10 (.ret (25))
(.bk 9 b9 ((W (t9+1)):Int) [0])))))
(.ret (0))))))))))))))))))
def B2(t:Tpl)(I0:Bool→Prop)(I1:Bool→Int→Prop)(m1:Bool→Int→Nat)(I2:Bool→Int→Bool→Prop)(I3:Bool→Int→Int→Prop)(m3:Bool→Int→Int→Nat)(I4:Bool→Int→Int→Int→Prop)(m4:Bool→Int→Int→Int→Nat)(I5:Bool→Int→Int→Int→Lnk→Bool→Prop)(I6:Bool→Int→Int→Int→Int→Prop)(m6:Bool→Int→Int→Int→Int→Nat)(I7:Bool→Int→Int→Int→Int→Bool→Prop)(I8:Bool→Int→Int→Int→Int→Int→Prop)(m8:Bool→Int→Int→Int→Int→Int→Nat)(I9:Bool→Int→Int→Int→Int→Int→Int→Prop)(m9:Bool→Int→Int→Int→Int→Int→Int→Nat)(I10:Bool→Int→Int→Int→Int→Int→Int→Lnk→Lnk→Bool→Prop)(r0:Int):=(yl t I0 I1 m1 I2 I3 m3 I4 m4 I5 I6 m6 I7 I8 m8 I9 m9 I10).vp ym r0
theorem PD(t:Tpl)(ok:Gx t):∃I0 I1 m1 I2 I3 m3 I4 m4 I5 I6 m6 I7 I8 m8 I9 m9 I10,B2 t I0 I1 m1 I2 I3 m3 I4 m4 I5 I6 m6 I7 I8 m8 I9 m9 I10 (aJ t):=by
 refine⟨λb=>b=decide (24<t.rs.length∨60<t.ls.length),λ_ i=>aL t.rs (λx=>1≤x.id∧x.id≤99) i,λ_ i=>t.rs.length-i.toNat,
  λ_ i b=>∀x,t.rs[i.toNat]?=some x→b=decide (¬(1≤x.id∧x.id≤99)),λ_ _ i=>fM t.rs (λx y=>x.id<y.id) i,λ_ _ i=>t.rs.length+1-i.toNat,
  λ_ _ _ i=>aL t.ls gV i,λ_ _ _ i=>t.ls.length-i.toNat,λ_ _ _ _ l b=>b=decide (¬gV l),λ_ _ _ _ i=>aL t.ls (λl=>aI t l.a=true∧aI t l.b=true) i,λ_ _ _ _ i=>t.ls.length-i.toNat,
  λ_ _ _ _ i b=>∀l,t.ls[i.toNat]?=some l→b=decide (¬(aI t l.a=true∧aI t l.b=true)),λ_ _ _ _ _ i=>aL t.ls (λl=>l.a<l.b) i,λ_ _ _ _ _ i=>t.ls.length-i.toNat,
  λ_ _ _ _ _ _ i=>fM t.ls cX i,λ_ _ _ _ _ _ i=>t.ls.length+1-i.toNat,λ_ _ _ _ _ _ _ x y b=>b=decide (¬cX x y),?_⟩
 simp only[Gx,okU,Blk.ok,aK,List.length_map]at ok
 dsimp only[B2,yl,Gu,Ax.vp,Ax.vc];simp only[vcU,rfU,List.length_map]
 refine⟨⟨λc=>(decide_eq_true (.inl (by omega))).symm,λc=>decide_eq_decide.mpr (by omega)⟩,?_⟩
 rintro _ rfl
 unfold aJ
 refine⟨λc=>by rw[if_pos (of_decide_eq_true c)],λc=>⟨aL.zero,λi1 h1=>⟨λd=>⟨⟨h1.idx,d,λx hx=>⟨λe y hy=>?_,λe=>⟨h1.idx,d,λy hy z hz=>?_⟩⟩⟩,?_⟩,λd=>?_⟩⟩⟩
 ·rw[hx]at hy;cases hy;exact(decide_eq_true (by omega)).symm
 ·rw[hx]at hy;cases hy;rw[hx]at hz;cases hz;exact decide_eq_decide.mpr (by omega)
 ·have c:=of_decide_eq_false c
  have hx:=List.getElem?_eq_getElem (show i1.toNat<t.rs.length by have:=h1.idx;omega)
  intro b hb
  have hb:=hb _ hx
  subst hb
  refine⟨λe=>?_,λe=>h1.step (by omega) hx (Classical.not_not.mp (of_decide_eq_false e))⟩
  rw[if_neg c,if_pos λq=>of_decide_eq_true e (q _ (bS hx))]
 have c:=of_decide_eq_false c
 rw[if_neg c,if_neg (not_not_intro (h1.done d))]
 refine⟨fM.one,λi2 h2=>⟨λd2=>?_,λd2=>?_⟩⟩
 ·obtain⟨a1,a2⟩:=h2.idx (by omega) d2
  refine⟨a1.1,a1.2,λx hx=>⟨a2,d2,λy hy=>⟨λe=>?_,λe=>h2.step (by omega) hx hy (by omega)⟩⟩⟩
  rw[if_pos (h2.bad (by omega) hx hy (by omega))]
 rw[if_neg (not_not_intro (h2.done d2 λ_ _ _ q r=>Int.lt_trans q r))]
 refine⟨aL.zero,λi3 h3=>⟨λd3=>⟨h3.idx,d3,λx hx=>⟨⟨λe=>?_,λe=>⟨λe2=>?_,λe2=>⟨λe3=>?_,λe3=>?_⟩⟩⟩,?_⟩⟩,λd3=>?_⟩⟩
 ·exact(decide_eq_true (show ¬gV x from λq=>by rw[q.1]at e;cases e)).symm
 ·exact(decide_eq_true (show ¬gV x from λq=>by rw[q.2.1]at e2;cases e2)).symm
 ·exact(decide_eq_true (show ¬gV x from λq=>by have:=q.2.2.1;omega)).symm
 ·have e:gE x.ca=true:=by simpa using e
  have e2:gE x.cb=true:=by simpa using e2
  refine decide_eq_decide.mpr ⟨λq r=>by have:=r.2.2.2;omega,λq=>?_⟩
  exact Classical.byContradiction λr=>q ⟨e,e2,by omega,by omega⟩
 ·rintro _ rfl
  refine⟨λe=>?_,λe=>h3.step (by omega) hx (Classical.not_not.mp (of_decide_eq_false e))⟩
  rw[if_pos λq=>of_decide_eq_true e (q _ (bS hx))]
 rw[if_neg (not_not_intro (h3.done d3))]
 refine⟨aL.zero,λi4 h4=>⟨λd4=>⟨⟨h4.idx,d4,λx hx=>⟨λe y hy=>?_,λe=>⟨h4.idx,d4,λy hy z hz=>?_⟩⟩⟩,?_⟩,λd4=>?_⟩⟩
 ·rw[hx]at hy;cases hy
  exact(decide_eq_true (show ¬(aI t x.a=true∧aI t x.b=true)from λq=>by rw[q.1]at e;cases e)).symm
 ·rw[hx]at hy;cases hy;rw[hx]at hz;cases hz
  have e:aI t x.a=true:=by simpa using e
  cases q:aI t x.b<;>simp[e]
 ·have hx:=List.getElem?_eq_getElem (show i4.toNat<t.ls.length by have:=h4.idx;omega)
  intro b hb
  have hb:=hb _ hx
  subst hb
  refine⟨λe=>?_,λe=>h4.step (by omega) hx (Classical.not_not.mp (of_decide_eq_false e))⟩
  rw[if_pos λq=>of_decide_eq_true e (q _ (bS hx))]
 rw[if_neg (not_not_intro (h4.done d4))]
 refine⟨aL.zero,λi5 h5=>⟨λd5=>⟨h5.idx,d5,λx hx=>⟨h5.idx,d5,λy hy=>?_⟩⟩,λd5=>?_⟩⟩
 ·rw[hx]at hy;cases hy
  refine⟨λe=>?_,λe=>h5.step (by omega) hx (by omega)⟩
  rw[if_pos λq=>by have:=q _ (bS hx);omega]
 rw[if_neg (not_not_intro (h5.done d5))]
 refine⟨fM.one,λi6 h6=>⟨λd6=>?_,λd6=>?_⟩⟩
 ·obtain⟨a1,a2⟩:=h6.idx (by omega) d6
  refine⟨a1.1,a1.2,λx hx=>⟨a2,d6,λy hy=>⟨⟨λe=>?_,λe=>⟨λe2=>?_,λe2=>?_⟩⟩,?_⟩⟩⟩
  ·exact(decide_eq_true (show ¬cX x y from λq=>by unfold cX at q;omega)).symm
  ·have e2:=eq_of_beq e2
   exact decide_eq_decide.mpr (by unfold cX;omega)
  ·have e2:¬x.a=y.a:=by simpa using e2
   exact(decide_eq_false (not_not_intro (.inl (by omega)))).symm
  ·rintro _ rfl
   refine⟨λe=>?_,λe=>h6.step (by omega) hx hy (Classical.not_not.mp (of_decide_eq_false e))⟩
   rw[if_pos (h6.bad (by omega) hx hy (of_decide_eq_true e))]
 ·rw[if_neg (not_not_intro (h6.done d6 λ_ _ _ q r=>by unfold cX at *;omega))]
def yn(t:Tpl):PC Tryz.prog:=⟨62,[(.a [(.s 2),(.s 5)])],[.agg [.sl 2 (t.rs.map Rtr.v) false,.sl 5 (t.ls.map Lnk.v) false]],ym (aJ t),aw.of_ok λok=>(PD t ok).elim λI0 h=>h.elim λI1 h=>h.elim λm1 h=>h.elim λI2 h=>h.elim λI3 h=>h.elim λm3 h=>h.elim λI4 h=>h.elim λm4 h=>h.elim λI5 h=>h.elim λI6 h=>h.elim λm6 h=>h.elim λI7 h=>h.elim λI8 h=>h.elim λm8 h=>h.elim λI9 h=>h.elim λm9 h=>h.elim λI10 h=>av (sh:=.k) (enc:=ym) (a:=(yl t I0 I1 m1 I2 I3 m3 I4 m4 I5 I6 m6 I7 I8 m8 I9 m9 I10).an) h (by kernel_rfl) (AV.pureB_ok rfl),ap (by kernel_rfl)⟩
def fH(f g:Int)(l:Lnk):Bool:=(l.a==f && l.b==g) || (l.b==f && l.a==g)
def ec(t:Tpl)(f g:Int):Int×Bool:=match t.ls.find? (fH f g)with
 | some l=>(if(l.a==f && l.b==g)=true then l.ca else l.cb,true)
 | none=>(0,false)
def Ed(t:Tpl)(from_:Int)(to_:Int):=okL [.agg [.sl 2 (t.rs.map Rtr.v) false,.sl 5 (t.ls.map Lnk.v) false],.int from_,.int to_]
def IT(t:Tpl)(from_:Int)(to_:Int)(t0:Int):NF:=⟨[(1,.k,.int from_),(2,.k,.int to_),(3,.k,.ref 0 0),(8,.k,.int t0)],[.box (.agg [.sl 2 (t.rs.map Rtr.v) false,.sl 5 (t.ls.map Lnk.v) false])]⟩
def IS(t:Tpl)(from_:Int)(to_:Int)(t0:Int)(x1:Lnk)(t1:Bool):NF:=⟨[(1,.k,.int from_),(2,.k,.int to_),(3,.k,.ref 0 0),(8,.k,.int t0),(9,.k,.ref 1 0),(31,.k,.bool t1)],[.box (.agg [.sl 2 (t.rs.map Rtr.v) false,.sl 5 (t.ls.map Lnk.v) false]),.box (.agg [.int x1.a,.int x1.b,.int x1.ca,.int x1.cb,.int x1.w])]⟩
def IR(t:Tpl)(from_:Int)(to_:Int)(t0:Int)(x1:Lnk)(t2:Bool):NF:=⟨[(1,.k,.int from_),(2,.k,.int to_),(3,.k,.ref 0 0),(8,.k,.int t0),(9,.k,.ref 1 0),(43,.k,.bool t2)],[.box (.agg [.sl 2 (t.rs.map Rtr.v) false,.sl 5 (t.ls.map Lnk.v) false]),.box (.agg [.int x1.a,.int x1.b,.int x1.ca,.int x1.cb,.int x1.w])]⟩
@[reducible] def Ea:Nat→Type
 | 0=>Int
 | 1=>Bool
 | 2=>Bool
 | _=>Unit
def vE(r:Int×Bool):AV:=.tup [.int r.1,.bool r.2]
def vD(t:Tpl)(from_:Int)(to_:Int)(I0:Int→Prop)(m0:Int→Nat)(I1:Int→Lnk→Bool→Prop)(I2:Int→Lnk→Bool→Bool→Prop):Ax Tryz.prog Ea (Int×Bool):=
 (.loop 0 (IT t from_ to_) I0 m0 ((0):Int) [0] λ(t0:Int) b0 =>
(.br 81 (decide (t0<((t.ls.map Lnk.v).length:Int))) (.el 129 Lnk.v t.ls (λR=>Rf (t.ls.map Lnk.v) (ck (decide (0≤t0)) (ck (decide (t0<(t.ls.length:Int)))
(∀x1,t.ls[t0.toNat]?=some x1 →
(R x1))))) λx1 =>
(.pass (.join 1 (IS t from_ to_ t0 x1) (λ(t1:Bool)=>I1 t0 x1 t1) (λb1=>(.br 273 (x1.a==from_) (.bk 1 b1 ((x1.b==to_):Bool) [0,161])
(.bk 1 b1 ((false):Bool) [0,161]))) λ(t1:Bool) =>
(.br 2 t1 (.ret (x1.ca,true))
(.join 2 (IR t from_ to_ t0 x1) (λ(t2:Bool)=>I2 t0 x1 t1 t2) (λb2=>(.br 82 (x1.b==from_) (.bk 2 b2 ((x1.a==to_):Bool) [0,1])
(.bk 2 b2 ((false):Bool) [0,1]))) λ(t2:Bool) =>
(.br 2 t2 (.ret (x1.cb,true))
(.bk 0 b0 ((W (t0+1)):Int) [0])))))))
(.ret (0,false))))
def zJ(t:Tpl)(from_:Int)(to_:Int)(I0:Int→Prop)(m0:Int→Nat)(I1:Int→Lnk→Bool→Prop)(I2:Int→Lnk→Bool→Bool→Prop)(r0:Int×Bool):=(vD t from_ to_ I0 m0 I1 I2).vp vE r0
theorem Ni(t:Tpl)(f g:Int)(ok:Ed t f g):∃I0 m0 I1 I2,zJ t f g I0 m0 I1 I2 (ec t f g):=by
 refine⟨λi=>aL t.ls (λl=>fH f g l=false) i,λi=>t.ls.length-i.toNat,λ_ l b=>b=(l.a==f && l.b==g),λ_ l _ b=>b=(l.b==f && l.a==g),?_⟩
 simp only[Ed,okU,Blk.ok,aK,List.length_map]at ok
 dsimp only[zJ,vD,Ea,Ax.vp,Ax.vc];simp only[vcU,rfU,List.length_map]
 refine⟨aL.zero,λi h=>⟨λc=>⟨h.idx,c,λx hx=>⟨⟨λe=>by rw[e];rfl,λe=>by rw[e];rfl⟩,?_⟩⟩,λc=>?_⟩⟩
 ·rintro _ rfl
  refine⟨λe=>?_,λe=>⟨⟨λe2=>by rw[e2];rfl,λe2=>by rw[e2];rfl⟩,?_⟩⟩
  ·rw[ec,lD h hx (by rw[fH,e];rfl)]
   simp only;rw[if_pos e]
  ·rintro _ rfl
   refine⟨λe2=>?_,λe2=>h.step (by omega) hx (by rw[fH,e,e2];rfl)⟩
   rw[ec,lD h hx (by rw[fH,e2,Bool.or_true])]
   simp only;rw[if_neg (by rw[e];simp)]
 ·rw[ec,qn h c]
def Ec(t:Tpl)(from_:Int)(to_:Int):PC Tryz.prog:=⟨57,[(.a [(.s 2),(.s 5)]),.k,.k],[.agg [.sl 2 (t.rs.map Rtr.v) false,.sl 5 (t.ls.map Lnk.v) false],.int from_,.int to_],vE (ec t from_ to_),aw.of_ok λok=>(Ni t from_ to_ ok).elim λI0 h=>h.elim λm0 h=>h.elim λI1 h=>h.elim λI2 h=>av (sh:=.k) (enc:=vE) (a:=(vD t from_ to_ I0 m0 I1 I2).an) h (by kernel_rfl) (AV.pureB_ok rfl),ap (by kernel_rfl)⟩
def eO(t:Tpl)(r:Int):List Int:=t.rs.flatMap λx=>if(ec t r x.id).2=true then [x.id]else []
def NC(t:Tpl)(r:Int):=okL [.agg [.sl 2 (t.rs.map Rtr.v) false,.sl 5 (t.ls.map Lnk.v) false],.int r]
def Ju(t:Tpl)(r:Int)(t0:Int×List Int):NF:=⟨[(1,.k,.int r),(2,.k,.ref 0 0),(5,.k,.vec 1),(6,.k,.int t0.1)],[.box (.agg [.sl 2 (t.rs.map Rtr.v) false,.sl 5 (t.ls.map Lnk.v) false]),.vec 1 (t0.2.map AV.int) (ab (λ_=>rfl) t0.2)]⟩
@[reducible] def E6:Nat→Type
 | 0=>Int×List Int
 | _=>Unit
def wh(r:List Int):AV:=.sl 1 (r.map AV.int) false
def wg(t:Tpl)(r:Int)(I0:(Int×List Int)→Prop)(m0:(Int×List Int)→Nat):Ax Tryz.prog E6 ((List Int)):=
 (.cmdL (.nilT 5 1) (.loop 0 (Ju t r) I0 m0 (0,[]) [0,64] λ(t0:Int×List Int) b0 =>
(.br 82 (decide (t0.1<((t.rs.map Rtr.v).length:Int))) (.el 162 Rtr.v t.rs (λR=>Rf (t.rs.map Rtr.v) (ck (decide (0≤t0.1)) (ck (decide (t0.1<(t.rs.length:Int)))
(∀x1,t.rs[t0.1.toNat]?=some x1 →
(R x1))))) λx1 =>
(.callP (Ec t r x1.id)
(.br 322 ((ec t r x1.id).2) (.el 386 Rtr.v t.rs (λR=>Rf (t.rs.map Rtr.v) (ck (decide (0≤t0.1)) (ck (decide (t0.1<(t.rs.length:Int)))
(∀x2,t.rs[t0.1.toNat]?=some x2 →
(R x2))))) λx2 =>
(.say (λR=>Rf (α:=List AV) (t0.2.map AV.int) (Rf (α:=List AV) [.int x2.id]
(ck (decide (t0.2.length+1≤1048576))
R))) (.app 450 AV.int t0.2 [x2.id]
(.bk 0 b0 (W (t0.1+1),t0.2++[x2.id]) [0,450]))))
(.bk 0 b0 (W (t0.1+1),t0.2) [0,1]))))
(.say (Rf (t0.2.map AV.int)) (.cmdL (.frzE 1 (t0.2.map AV.int) (ab (λ_=>rfl) t0.2)) (.ret (t0.2)))))))
def Ag(t:Tpl)(r:Int)(I0:(Int×List Int)→Prop)(m0:(Int×List Int)→Nat)(r0:List Int):=(wg t r I0 m0).vp wh r0
theorem NA(t:Tpl)(r:Int)(h:t.rs.length≤1000)(ok:NC t r):∃I m,Ag t r I m (eO t r):=by
 refine⟨λs=>fz t.rs (λx=>if(ec t r x.id).2=true then [x.id]else []) s.1 s.2,λs=>t.rs.length-s.1.toNat,?_⟩
 dsimp only[Ag,wg,E6,Ax.vp,Ax.vc];simp only[vcU,rfU,List.length_map]
 refine⟨fz.zero,?_⟩
 rintro⟨i,out⟩ g
 simp only at g ⊢
 have hl:=g.len (b:=1) λx _=>by split<;>simp
 refine⟨λc=>⟨g.idx,c,λx hx=>?_⟩,λc=>?_⟩
 ·refine⟨λe=>⟨g.idx,c,λy hy=>⟨by omega,?_⟩⟩,λe=>g.step (by omega) hx (by rw[if_neg (by rw[e];simp)];simp)⟩
  rw[hx]at hy;cases hy
  exact g.step (by omega) hx (by rw[if_pos e])
 ·exact g.done c
def NB(t:Tpl)(r:Int)(h:t.rs.length≤1000):PC Tryz.prog:=⟨113,[(.a [(.s 2),(.s 5)]),.k],[.agg [.sl 2 (t.rs.map Rtr.v) false,.sl 5 (t.ls.map Lnk.v) false],.int r],wh (eO t r),aw.of_ok λok=>(NA t r h ok).elim λI0 h=>h.elim λm0 h=>av (sh:=(.s 1)) (enc:=wh) (a:=(wg t r I0 m0).an) h (by kernel_rfl) (AV.pureB_ok rfl),ap (by kernel_rfl)⟩
theorem cH{t:Tpl}(h:aJ t=0):t.rs.length≤24∧t.ls.length≤60:=by
 unfold aJ at h
 by_cases c:24<t.rs.length∨60<t.ls.length
 ·rw[if_pos c]at h;cases h
 ·omega
def hs5(t:Tpl)(r:Int):Bool:=(aJ t==0) && aI t r
def hs5_a(t:Tpl)(r:Int):=okL [.agg [.sl 2 (t.rs.map Rtr.v) false,.sl 5 (t.ls.map Lnk.v) false],.int r]
def Fi(r:Bool):AV:=.bool r
def Fg(t:Tpl)(r:Int):Ax Tryz.prog noS (Bool):=
 (.callP (yn t)
(.br 96 ((aJ t)==0) (.callP (wX t r)
(.ret (aI t r)))
(.ret (false))))
def Fh(t:Tpl)(r:Int)(r0:Bool):=(Fg t r).vp Fi r0
theorem hs5_p(t:Tpl)(r:Int)(ok:hs5_a t r):Fh t r (hs5 t r):=by
 dsimp only[Fh,Fg,noS,Ax.vp,Ax.vc];simp only[vcU,rfU,List.length_map]
 refine⟨λc=>?_,λc=>?_⟩<;>rw[hs5,c]<;>rfl
def Mb(t:Tpl)(r:Int):PC Tryz.prog:=⟨77,[(.a [(.s 2),(.s 5)]),.k],[.agg [.sl 2 (t.rs.map Rtr.v) false,.sl 5 (t.ls.map Lnk.v) false],.int r],Fi (hs5 t r),aw.of_ok λok=>av (sh:=.k) (enc:=Fi) (a:=(Fg t r).an) (hs5_p t r ok) (by kernel_rfl) (AV.pureB_ok rfl),ap (by kernel_rfl)⟩
def bR(t:Tpl)(f g:Int):Int×Bool:=if aJ t≠0 then(0,false)else ec t f g
theorem Mc(i j:Nat)(h:i≤j)(hj:j≤1000000):W ((IntKind.u64.wrap (W ((i:Int)+j))).fdiv 2)=(((i+j) / 2:Nat):Int):=by
 have e1:W ((i:Int)+j)=((i+j:Nat):Int):=dY ⟨by omega,by omega⟩
 rw[e1]
 have e2:IntKind.u64.wrap ((i+j:Nat):Int)=((i+j:Nat):Int):=by simp[IntKind.wrap,IntKind.signed,IntKind.bits];omega
 rw[e2,show Int.fdiv ((i+j:Nat):Int) 2=(((i+j) / 2:Nat):Int) by rw[Int.fdiv_eq_ediv_of_nonneg _ (by omega)];rfl]
 exact dY ⟨by omega,by omega⟩
theorem lF(x y:Int):cmpI x y<0↔x<y:=by
 unfold cmpI;split
 ·simp_all
 ·split<;>simp_all
theorem ka(x y:Int):cmpI x y=0↔x=y:=by
 unfold cmpI;split
 ·simp;omega
 ·split
  ·simp;omega
  ·simp;omega
def bsI{α:Type}(lt:α→Bool)(l:List α):Nat→Nat→Nat→Nat
 | 0,i,_=>i
 | f+1,i,j=>if i<j then(match l[(i+j) / 2]? with
  | some x=>if lt x=true then bsI lt l f ((i+j) / 2+1) j else bsI lt l f i ((i+j) / 2)
  | none=>i)else i
theorem gk{α:Type}{lt:α→Bool}{l:List α}:∀{f g i j:Nat},j-i≤f→j-i≤g→bsI lt l f i j=bsI lt l g i j
 | 0,0,i,j,_,_=>rfl
 | 0,g+1,i,j,h,_=>by rw[bsI,bsI,if_neg (by omega)]
 | f+1,0,i,j,_,h=>by rw[bsI,bsI,if_neg (by omega)]
 | f+1,g+1,i,j,h,h'=>by
  rw[bsI,bsI]
  split
  ·split
   ·split
    ·exact gk (by omega) (by omega)
    ·exact gk (by omega) (by omega)
   ·rfl
  ·rfl
def bsP{α:Type}(lt:α→Bool)(l:List α):Nat:=bsI lt l l.length 0 l.length
def bsH{α:Type}(lt eq:α→Bool)(l:List α):Bool:=(l[bsP lt l]?).any eq
theorem n0{α:Type}{lt:α→Bool}{l:List α}(hm:∀(a b:Nat) x y,a<b→l[a]?=some x→l[b]?=some y→lt y=true→lt x=true):∀{f i j:Nat},j-i≤f→i≤j→j≤l.length →
  (∀k x,k<i→l[k]?=some x→lt x=true)→(∀k x,j≤k→l[k]?=some x→lt x=false)→(∀k x,k<bsI lt l f i j→l[k]?=some x→lt x=true)∧(∀k x,bsI lt l f i j≤k→l[k]?=some x→lt x=false)∧bsI lt l f i j≤l.length
 | 0,i,j,h,hij,hj,h1,h2=>by
  obtain rfl:i=j:=by omega
  rw[bsI];exact⟨h1,h2,hj⟩
 | f+1,i,j,h,hij,hj,h1,h2=>by
  rw[bsI]
  by_cases hlt:i<j
  ·have hx:=List.getElem?_eq_getElem (show(i+j) / 2<l.length by omega)
   generalize l[(i+j) / 2]=x at hx
   rw[if_pos hlt,hx]
   by_cases e:lt x=true
   ·simp only[e,if_true]
    refine n0 hm (by omega) (by omega) hj (λk y hk hy=>?_) h2
    by_cases e':k=(i+j) / 2
    ·subst e';rw[hx]at hy;cases hy;exact e
    ·exact hm k _ y x (by omega) hy hx e
   ·simp only[e,if_false,Bool.false_eq_true]
    refine n0 hm (by omega) (by omega) (by omega) h1 (λk y hk hy=>?_)
    by_cases e':k=(i+j) / 2
    ·subst e';rw[hx]at hy;cases hy;simpa using e
    ·cases q:lt y
     ·rfl
     ·exact absurd (hm _ k x y (by omega) hx hy q) e
  ·obtain rfl:i=j:=by omega
   rw[if_neg hlt];exact⟨h1,h2,hj⟩
theorem B3{α:Type}{lt eq:α→Bool}{l:List α}(hm:∀(a b:Nat) x y,a<b→l[a]?=some x→l[b]?=some y→lt y=true→lt x=true)(he:∀x,eq x=true→lt x=false)
  (h2:∀(a b:Nat) x y,a<b→l[a]?=some x→l[b]?=some y→eq y=true→lt x=true):(bsH lt eq l=l.any eq)∧∀x∈l,eq x=true→l[bsP lt l]?=some x:=by
 obtain⟨s1,s2,s3⟩:=n0 hm (f:=l.length) (i:=0) (j:=l.length) (by omega) (by omega) (Nat.le_refl _) (λk x hk=>by omega) (λk x hk hx=>by have:=aq hx;omega)
 have key:∀x∈l,eq x=true→l[bsP lt l]?=some x:=λx hx e=>by
  obtain⟨k,hk⟩:=List.mem_iff_getElem?.mp hx
  have h3:bsP lt l≤k:=Nat.le_of_not_lt λh=>by
   have:=s1 k x h hk;rw[he x e]at this;cases this
  by_cases e':bsP lt l=k
  ·rw[e'];exact hk
  ·have hl:=aq hk
   have hy:=List.getElem?_eq_getElem (show bsP lt l<l.length by omega)
   have a:=h2 _ k _ x (by omega) hy hk e
   have b:=s2 _ _ (Nat.le_refl _) hy
   rw[a]at b;cases b
 refine⟨?_,key⟩
 rw[Bool.eq_iff_iff,List.any_eq_true,bsH]
 constructor
 ·intro h
  cases q:l[bsP lt l]? with
  | none=>rw[q]at h;cases h
  | some x=>rw[q]at h;exact⟨x,List.mem_of_getElem? q,h⟩
 ·rintro⟨x,hx,e⟩
  rw[key x hx e];exact e
def inT(n a b:Int):Bool:=decide (a≤n) && decide (n≤b)
def inT_a(n:Int)(least:Int)(most:Int):=okL [.int n,.int least,.int most]
def Fc(r:Bool):AV:=.bool r
def Fa(n:Int)(least:Int)(most:Int):Ax Tryz.prog noS (Bool):=
 (.br 80 (decide (least≤n)) (.ret (decide (n≤most)))
(.ret (false)))
def Fb(n:Int)(least:Int)(most:Int)(r0:Bool):=(Fa n least most).vp Fc r0
theorem inT_p(n a b:Int)(ok:inT_a n a b):Fb n a b (inT n a b):=by
 dsimp only[Fb,Fa,noS,Ax.vp,Ax.vc];simp only[vcU,rfU,List.length_map]
 unfold inT
 exact⟨λh=>by simp[h],λh=>by simp[h]⟩
def ob(n:Int)(least:Int)(most:Int):PC Tryz.prog:=⟨125,[.k,.k,.k],[.int n,.int least,.int most],Fc (inT n least most),aw.of_ok λok=>av (sh:=.k) (enc:=Fc) (a:=(Fa n least most).an) (inT_p n least most ok) (by kernel_rfl) (AV.pureB_ok rfl),ap (by kernel_rfl)⟩
def byI(r:Rtr)(id:Int):Int:=cmpI r.id id
def byI_a(r:Rtr)(id:Int):=okL [.agg [.int r.id,.bool r.cap],.int id]
def G8(r:Int):AV:=.int r
def G6(r:Rtr)(id:Int):Ax Tryz.prog noS (Int):=
 (.callP (xX r.id id)
(.ret (cmpI r.id id)))
def G7(r:Rtr)(id:Int)(r0:Int):=(G6 r id).vp G8 r0
theorem byI_p(r:Rtr)(id:Int)(ok:byI_a r id):G7 r id (byI r id):=by
 dsimp only[G7,G6,noS,Ax.vp,Ax.vc];simp only[vcU,rfU,List.length_map]
 rfl
def Md(r:Rtr)(id:Int):PC Tryz.prog:=⟨169,[.k,.k],[.agg [.int r.id,.bool r.cap],.int id],G8 (byI r id),aw.of_ok λok=>av (sh:=.k) (enc:=G8) (a:=(G6 r id).an) (byI_p r id ok) (by kernel_rfl) (AV.pureB_ok rfl),ap (by kernel_rfl)⟩
def ltR(r:Int)(x:Rtr):Bool:=decide (x.id<r)
def eqR(r:Int)(x:Rtr):Bool:=x.id==r
def lW(l:List Rtr)(r:Int):Nat:=bsP (ltR r) l
def lw(l:List Rtr)(r:Int):Bool:=bsH (ltR r) (eqR r) l
def Mg(x:List Rtr)(target:Int):=okL [.sl 2 (x.map Rtr.v) false,.int target,.func 169 []]
def PK(x:List Rtr)(target:Int)(t0:Int×Int):NF:=⟨[(0,.k,.sl 2 (x.map Rtr.v) false),(1,.k,.int target),(2,.k,.func 169 []),(8,.k,.int ((x.map Rtr.v).length:Int)),(9,.k,.int t0.1),(10,.k,.int t0.2)],[]⟩
@[reducible] def Me:Nat→Type
 | 0=>Int×Int
 | _=>Unit
def GC(r:Int×Bool):AV:=.tup [.int r.1,.bool r.2]
def GA(x:List Rtr)(target:Int)(I0:(Int×Int)→Prop)(m0:(Int×Int)→Nat):Ax Tryz.prog Me (Int×Bool):=
 (.loop 0 (PK x target) I0 m0 (0,((x.map Rtr.v).length:Int)) [] λ(t0:Int×Int) b0 =>
(.br 48 (decide (t0.1<t0.2)) (.el 208 Rtr.v x (λR=>Rf (x.map Rtr.v) (ck (decide (0≤(W (Int.fdiv (IntKind.u64.wrap (W (t0.1+t0.2))) 2)))) (ck (decide ((W (Int.fdiv (IntKind.u64.wrap (W (t0.1+t0.2))) 2))<(x.length:Int)))
(∀x1,x[(W (Int.fdiv (IntKind.u64.wrap (W (t0.1+t0.2))) 2)).toNat]?=some x1 →
(R x1))))) λx1 =>
(.callP (Md x1 target)
(.br 288 (decide ((byI x1 target)<0)) (.bk 0 b0 (W ((W (Int.fdiv (IntKind.u64.wrap (W (t0.1+t0.2))) 2))+1),t0.2) [])
(.bk 0 b0 (t0.1,W (Int.fdiv (IntKind.u64.wrap (W (t0.1+t0.2))) 2)) []))))
(.br 128 (decide (t0.1<((x.map Rtr.v).length:Int))) (.el 176 Rtr.v x (λR=>Rf (x.map Rtr.v) (ck (decide (0≤t0.1)) (ck (decide (t0.1<(x.length:Int)))
(∀x2,x[t0.1.toNat]?=some x2 →
(R x2))))) λx2 =>
(.callP (Md x2 target)
(.ret (t0.1,(byI x2 target)==0))))
(.ret (t0.1,false)))))
def GB(x:List Rtr)(target:Int)(I0:(Int×Int)→Prop)(m0:(Int×Int)→Nat)(r0:Int×Bool):=(GA x target I0 m0).vp GC r0
theorem bsR_p(x:List Rtr)(r:Int)(hl:x.length≤1000000)(ok:Mg x r):∃I m,GB x r I m ((lW x r:Int),lw x r):=by
 refine⟨λt=>∃i j:Nat,t=((i:Int),(j:Int))∧i≤j∧j≤x.length∧bsI (ltR r) x (j-i) i j=bsP (ltR r) x,λt=>(t.2-t.1).toNat,?_⟩
 simp only[Mg,okU,Blk.ok,aK,List.length_map]at ok
 dsimp only[GB,GA,Me,Ax.vp,Ax.vc];simp only[vcU,rfU,List.length_map]
 refine⟨⟨0,x.length,rfl,by omega,by omega,rfl⟩,?_⟩
 rintro _ ⟨i,j,rfl,hij,hj,h1⟩
 refine⟨λh3=>?_,λh3=>?_⟩
 ·have h3:i<j:=by simpa using h3
  simp only[Mc i j hij (by omega),Int.toNat_natCast]
  obtain⟨d,hd⟩:∃d,j-i=d+1:=⟨j-i-1,by omega⟩
  rw[hd,bsI,if_pos h3]at h1
  refine⟨by omega,by omega,λy hy=>⟨λe=>?_,λe=>?_⟩⟩
  ·rw[hy]at h1
   simp only[show ltR r y=true from decide_eq_true ((lF _ _).mp e),if_true]at h1
   rw[gk (g:=j-((i+j) / 2+1)) (by omega) (by omega)]at h1
   rw[bx (n:=x.length) (by omega) (by omega)]
   exact⟨⟨_,_,rfl,by omega,hj,h1⟩,by omega⟩
  ·rw[hy]at h1
   simp only[show ltR r y=false from decide_eq_false (λq=>e ((lF _ _).mpr q)),if_false,Bool.false_eq_true]at h1
   rw[gk (g:=(i+j) / 2-i) (by omega) (by omega)]at h1
   exact⟨⟨_,_,rfl,by omega,by omega,h1⟩,by omega⟩
 ·have h3:i=j:=by simp at h3;omega
  subst h3
  rw[Nat.sub_self,bsI]at h1
  simp only[Int.toNat_natCast]
  refine⟨λh4=>⟨by omega,by omega,λy hy=>?_⟩,λh4=>?_⟩
  ·unfold lW lw bsH
   rw[←h1,hy]
   refine congrArg _ ?_
   show decide _=eqR r y
   rw[Bool.eq_iff_iff,decide_eq_true_iff]
   simp[byI,ka,eqR]
  ·unfold lW lw bsH
   rw[←h1,List.getElem?_eq_none (by omega)];rfl
def Mf(x:List Rtr)(target:Int)(hl:x.length≤1000000):PC Tryz.prog:=⟨168,[(.s 2),.k,.k],[.sl 2 (x.map Rtr.v) false,.int target,.func 169 []],GC ((lW x target:Int),lw x target),aw.of_ok λok=>(bsR_p x target hl ok).elim λI0 h=>h.elim λm0 h=>av (sh:=.k) (enc:=GC) (a:=(GA x target I0 m0).an) h (by kernel_rfl) (AV.pureB_ok rfl),ap (by kernel_rfl)⟩
def Ma(vals:List Int):=okL [.sl 1 (vals.map AV.int) false]
def Nz(vals:List Int)(t0:Int):NF:=⟨[(3,.k,.int 0),(6,.k,.sl 1 (vals.map AV.int) false),(7,.k,.int ((vals.map AV.int).length:Int)),(8,.k,.int t0)],[]⟩
@[reducible] def LZ:Nat→Type
 | 0=>Int
 | _=>Unit
def Ex(r:Int):AV:=.int r
def Ev(vals:List Int)(I0:Int→Prop)(m0:Int→Nat):Ax Tryz.prog LZ (Int):=
 (.loop 0 (Nz vals) I0 m0 ((0):Int) [] λ(t0:Int) b0 =>
(.br 16 (decide (t0<((vals.map AV.int).length:Int))) (.el 16 AV.int vals (λR=>Rf (vals.map AV.int) (ck (decide (0≤t0)) (ck (decide (t0<(vals.length:Int)))
(∀x1,vals[t0.toNat]?=some x1 →
(R x1))))) λx1 =>
(.br 112 (x1 != 0) (.ret (x1))
(.bk 0 b0 ((W (t0+1)):Int) [])))
(.ret (0))))
def Ew(vals:List Int)(I0:Int→Prop)(m0:Int→Nat)(r0:Int):=(Ev vals I0 m0).vp Ex r0
theorem orN_p(vals:List Int)(ok:Ma vals):∃I m,Ew vals I m (orI vals):=by
 simp only[Ma,okU,Blk.ok,aK,List.length_map]at ok
 refine⟨λt=>∃k:Nat,t=k∧k≤vals.length∧(vals.take k).all (·==0),λt=>vals.length-t.toNat,?_⟩
 dsimp only[Ew,Ev,LZ,Ax.vp,Ax.vc];simp only[vcU,rfU,List.length_map]
 refine⟨⟨0,rfl,by omega,by simp⟩,?_⟩
 rintro _ ⟨k,rfl,hk,h⟩
 refine⟨λh1=>⟨by omega,by omega,λx hx=>⟨λhn=>?_,λhn=>?_⟩⟩,λh1=>?_⟩
 ·rw[Int.toNat_natCast]at hx
  rw[orI,Cv h hx (by simpa using hn)];rfl
 ·rw[Int.toNat_natCast]at hx
  have hlt:=aq hx
  rw[bx (n:=vals.length) (by omega) (by omega)]
  refine⟨⟨k+1,rfl,by omega,?_⟩,by omega⟩
  rw[aV hx,List.all_append,h];simpa using hn
 ·rw[List.take_of_length_le (by omega)]at h
  rw[orI,List.find?_eq_none.mpr]
  ·rfl
  ·intro x hx;simpa using List.all_eq_true.mp h x hx
def orN_c(vals:List Int):PC Tryz.prog:=⟨152,[(.s 1)],[.sl 1 (vals.map AV.int) false],Ex (orI vals),aw.of_ok λok=>(orN_p vals ok).elim λI0 h=>h.elim λm0 h=>av (sh:=.k) (enc:=Ex) (a:=(Ev vals I0 m0).an) h (by kernel_rfl) (AV.pureB_ok rfl),ap (by kernel_rfl)⟩
def rb(x y:Lnk):Int:=orI [cmpI x.a y.a,cmpI x.b y.b]
def Pq(a:Lnk)(b:Lnk):=okL [.agg [.int a.a,.int a.b,.int a.ca,.int a.cb,.int a.w],.agg [.int b.a,.int b.b,.int b.ca,.int b.cb,.int b.w]]
def xT(r:Int):AV:=.int r
def xS(a:Lnk)(b:Lnk):Ax Tryz.prog noS (Int):=
 (.callP (xX a.a b.a)
(.callP (xX a.b b.b)
(.callP (orN_c [cmpI a.a b.a,cmpI a.b b.b])
(.ret (orI [cmpI a.a b.a,cmpI a.b b.b])))))
def Bs(a:Lnk)(b:Lnk)(r0:Int):=(xS a b).vp xT r0
theorem Pp(x y:Lnk)(ok:Pq x y):Bs x y (rb x y):=by
 dsimp only[Bs,xS,noS,Ax.vp,Ax.vc];simp only[vcU,rfU,List.length_map]
 rfl
def xU(a:Lnk)(b:Lnk):PC Tryz.prog:=⟨123,[.k,.k],[.agg [.int a.a,.int a.b,.int a.ca,.int a.cb,.int a.w],.agg [.int b.a,.int b.b,.int b.ca,.int b.cb,.int b.w]],xT (rb a b),aw.of_ok λok=>av (sh:=.k) (enc:=xT) (a:=(xS a b).an) (Pp a b ok) (by kernel_rfl) (AV.pureB_ok rfl),ap (by kernel_rfl)⟩
theorem ue(x y:Lnk):rb x y=if x.a=y.a then cmpI x.b y.b else cmpI x.a y.a:=by
 unfold rb orI
 by_cases e:x.a=y.a
 ·rw[if_pos e,(ka _ _).mpr e]
  by_cases e2:cmpI x.b y.b=0
  ·simp[e2]
  ·simp[e2]
 ·have:cmpI x.a y.a≠0:=λh=>e ((ka _ _).mp h)
  rw[if_neg e];simp[this]
theorem lE(x y:Lnk):rb x y<0↔cX x y:=by
 rw[ue];unfold cX
 split
 ·rw[lF];omega
 ·rw[lF];omega
theorem K0(x y:Lnk):rb x y=0↔x.a=y.a∧x.b=y.b:=by
 rw[ue]
 split
 ·rw[ka];omega
 ·rw[ka];omega
def pS(y x:Lnk):Bool:=decide (cX x y)
def nL(y x:Lnk):Bool:=decide (x.a=y.a∧x.b=y.b)
def bE(l:List Lnk)(y:Lnk):Nat:=bsP (pS y) l
def dW(l:List Lnk)(y:Lnk):Bool:=bsH (pS y) (nL y) l
def Mj(x:List Lnk)(target:Lnk):=okL [.sl 5 (x.map Lnk.v) false,.agg [.int target.a,.int target.b,.int target.ca,.int target.cb,.int target.w],.func 123 []]
def PM(x:List Lnk)(target:Lnk)(t0:Int×Int):NF:=⟨[(0,.k,.sl 5 (x.map Lnk.v) false),(2,.k,.func 123 []),(4,.k,.ref 0 0),(8,.k,.int ((x.map Lnk.v).length:Int)),(9,.k,.int t0.1),(10,.k,.int t0.2)],[.box (.agg [.int target.a,.int target.b,.int target.ca,.int target.cb,.int target.w])]⟩
@[reducible] def Mh:Nat→Type
 | 0=>Int×Int
 | _=>Unit
def GF(r:Int×Bool):AV:=.tup [.int r.1,.bool r.2]
def GD(x:List Lnk)(target:Lnk)(I0:(Int×Int)→Prop)(m0:(Int×Int)→Nat):Ax Tryz.prog Mh (Int×Bool):=
 (.loop 0 (PM x target) I0 m0 (0,((x.map Lnk.v).length:Int)) [0] λ(t0:Int×Int) b0 =>
(.br 49 (decide (t0.1<t0.2)) (.el 209 Lnk.v x (λR=>Rf (x.map Lnk.v) (ck (decide (0≤(W (Int.fdiv (IntKind.u64.wrap (W (t0.1+t0.2))) 2)))) (ck (decide ((W (Int.fdiv (IntKind.u64.wrap (W (t0.1+t0.2))) 2))<(x.length:Int)))
(∀x1,x[(W (Int.fdiv (IntKind.u64.wrap (W (t0.1+t0.2))) 2)).toNat]?=some x1 →
(R x1))))) λx1 =>
(.callP (xU x1 target)
(.br 289 (decide ((rb x1 target)<0)) (.bk 0 b0 (W ((W (Int.fdiv (IntKind.u64.wrap (W (t0.1+t0.2))) 2))+1),t0.2) [0])
(.bk 0 b0 (t0.1,W (Int.fdiv (IntKind.u64.wrap (W (t0.1+t0.2))) 2)) [0]))))
(.br 129 (decide (t0.1<((x.map Lnk.v).length:Int))) (.el 177 Lnk.v x (λR=>Rf (x.map Lnk.v) (ck (decide (0≤t0.1)) (ck (decide (t0.1<(x.length:Int)))
(∀x2,x[t0.1.toNat]?=some x2 →
(R x2))))) λx2 =>
(.callP (xU x2 target)
(.ret (t0.1,(rb x2 target)==0))))
(.ret (t0.1,false)))))
def GE(x:List Lnk)(target:Lnk)(I0:(Int×Int)→Prop)(m0:(Int×Int)→Nat)(r0:Int×Bool):=(GD x target I0 m0).vp GF r0
theorem bsL_p(x:List Lnk)(r:Lnk)(hl:x.length≤1000000)(ok:Mj x r):∃I m,GE x r I m ((bE x r:Int),dW x r):=by
 refine⟨λt=>∃i j:Nat,t=((i:Int),(j:Int))∧i≤j∧j≤x.length∧bsI (pS r) x (j-i) i j=bsP (pS r) x,λt=>(t.2-t.1).toNat,?_⟩
 simp only[Mj,okU,Blk.ok,aK,List.length_map]at ok
 dsimp only[GE,GD,Mh,Ax.vp,Ax.vc];simp only[vcU,rfU,List.length_map]
 refine⟨⟨0,x.length,rfl,by omega,by omega,rfl⟩,?_⟩
 rintro _ ⟨i,j,rfl,hij,hj,h1⟩
 refine⟨λh3=>?_,λh3=>?_⟩
 ·have h3:i<j:=by simpa using h3
  simp only[Mc i j hij (by omega),Int.toNat_natCast]
  obtain⟨d,hd⟩:∃d,j-i=d+1:=⟨j-i-1,by omega⟩
  rw[hd,bsI,if_pos h3]at h1
  refine⟨by omega,by omega,λy hy=>⟨λe=>?_,λe=>?_⟩⟩
  ·rw[hy]at h1
   simp only[show pS r y=true from decide_eq_true ((lE _ _).mp e),if_true]at h1
   rw[gk (g:=j-((i+j) / 2+1)) (by omega) (by omega)]at h1
   rw[bx (n:=x.length) (by omega) (by omega)]
   exact⟨⟨_,_,rfl,by omega,hj,h1⟩,by omega⟩
  ·rw[hy]at h1
   simp only[show pS r y=false from decide_eq_false (λq=>e ((lE _ _).mpr q)),if_false,Bool.false_eq_true]at h1
   rw[gk (g:=(i+j) / 2-i) (by omega) (by omega)]at h1
   exact⟨⟨_,_,rfl,by omega,by omega,h1⟩,by omega⟩
 ·have h3:i=j:=by simp at h3;omega
  subst h3
  rw[Nat.sub_self,bsI]at h1
  simp only[Int.toNat_natCast]
  refine⟨λh4=>⟨by omega,by omega,λy hy=>?_⟩,λh4=>?_⟩
  ·unfold bE dW bsH
   rw[←h1,hy]
   refine congrArg _ ?_
   show decide _=nL r y
   rw[Bool.eq_iff_iff,decide_eq_true_iff]
   simp[K0,nL]
  ·unfold bE dW bsH
   rw[←h1,List.getElem?_eq_none (by omega)];rfl
def Mi(x:List Lnk)(target:Lnk)(hl:x.length≤1000000):PC Tryz.prog:=⟨122,[(.s 5),.k,.k],[.sl 5 (x.map Lnk.v) false,.agg [.int target.a,.int target.b,.int target.ca,.int target.cb,.int target.w],.func 123 []],GF ((bE x target:Int),dW x target),aw.of_ok λok=>(bsL_p x target hl ok).elim λI0 h=>h.elim λm0 h=>av (sh:=.k) (enc:=GF) (a:=(GD x target I0 m0).an) h (by kernel_rfl) (AV.pureB_ok rfl),ap (by kernel_rfl)⟩
def jH(r:Rtr):Bool:=!inT r.id 1 99
def MV(r:Rtr):=okL [.agg [.int r.id,.bool r.cap]]
def vq(r:Bool):AV:=.bool r
def vo(r:Rtr):Ax Tryz.prog noS (Bool):=
 (.callP (ob r.id 1 99)
(.ret (!(inT r.id 1 99))))
def z6(r:Rtr)(r0:Bool):=(vo r).vp vq r0
theorem MT(r:Rtr)(ok:MV r):z6 r (jH r):=by
 dsimp only[z6,vo,noS,Ax.vp,Ax.vc];simp only[vcU,rfU,List.length_map]
 rfl
def MU(r:Rtr):PC Tryz.prog:=⟨166,[.k],[.agg [.int r.id,.bool r.cap]],vq (jH r),aw.of_ok λok=>av (sh:=.k) (enc:=vq) (a:=(vo r).an) (MT r ok) (by kernel_rfl) (AV.pureB_ok rfl),ap (by kernel_rfl)⟩
def jZ(l:Lnk):Bool:=!inT l.ca 1 1000 || (!inT l.cb 1 1000 || !inT l.w 0 1000)
def Pd(l:Lnk):=okL [.agg [.int l.a,.int l.b,.int l.ca,.int l.cb,.int l.w]]
def xE(r:Bool):AV:=.bool r
def xD(l:Lnk):Ax Tryz.prog noS (Bool):=
 (.callP (ob l.ca 1 1000)
(.br 112 (!(inT l.ca 1 1000)) (.ret (true))
(.callP (ob l.cb 1 1000)
(.br 208 (!(inT l.cb 1 1000)) (.ret (true))
(.callP (ob l.w 0 1000)
(.ret (!(inT l.w 0 1000))))))))
def Bb(l:Lnk)(r0:Bool):=(xD l).vp xE r0
theorem Pb(l:Lnk)(ok:Pd l):Bb l (jZ l):=by
 dsimp only[Bb,xD,noS,Ax.vp,Ax.vc];simp only[vcU,rfU,List.length_map]
 unfold jZ
 exact⟨λh=>by rw[h];rfl,λh=>⟨λh2=>by rw[h,h2];rfl,λh2=>by rw[h,h2];rfl⟩⟩
def Pc(l:Lnk):PC Tryz.prog:=⟨171,[.k],[.agg [.int l.a,.int l.b,.int l.ca,.int l.cb,.int l.w]],xE (jZ l),aw.of_ok λok=>av (sh:=.k) (enc:=xE) (a:=(xD l).an) (Pb l ok) (by kernel_rfl) (AV.pureB_ok rfl),ap (by kernel_rfl)⟩
def kR(l:Lnk):Bool:=decide (l.b≤l.a)
def Qk(l:Lnk):=okL [.agg [.int l.a,.int l.b,.int l.ca,.int l.cb,.int l.w]]
def yK(r:Bool):AV:=.bool r
def yJ(l:Lnk):Ax Tryz.prog noS (Bool):=
 (.ret (decide (l.b≤l.a)))
def BG(l:Lnk)(r0:Bool):=(yJ l).vp yK r0
theorem Qi(l:Lnk)(ok:Qk l):BG l (kR l):=by
 dsimp only[BG,yJ,noS,Ax.vp,Ax.vc];simp only[vcU,rfU,List.length_map]
 rfl
def Qj(l:Lnk):PC Tryz.prog:=⟨173,[.k],[.agg [.int l.a,.int l.b,.int l.ca,.int l.cb,.int l.w]],yK (kR l),aw.of_ok λok=>av (sh:=.k) (enc:=yK) (a:=(yJ l).an) (Qi l ok) (by kernel_rfl) (AV.pureB_ok rfl),ap (by kernel_rfl)⟩
def uP(id:Int)(t:Tpl):Bool:=!lw t.rs id
def Mz(id:Int)(t:Tpl):=okL [.int id,.rptr (.agg [.sl 2 (t.rs.map Rtr.v) false,.sl 5 (t.ls.map Lnk.v) false]) 0]
def uO(r:Bool):AV:=.bool r
def uN(id:Int)(t:Tpl):Ax Tryz.prog noS (Bool):=
 (.req 64 (t.rs.length≤1000000) λh1 =>
(.callP (Mf t.rs id h1)
(.ret (!(lw t.rs id)))))
def za(id:Int)(t:Tpl)(r0:Bool):=(uN id t).vp uO r0
theorem My(id:Int)(t:Tpl)(hl:t.rs.length≤1000000)(ok:Mz id t):za id t (uP id t):=by
 dsimp only[za,uN,noS,Ax.vp,Ax.vc];simp only[vcU,rfU,List.length_map]
 exact⟨hl,rfl⟩
def Da(id:Int)(t:Tpl)(hl:t.rs.length≤1000000):PC Tryz.prog:=⟨167,[.k,.k],[.int id,.rptr (.agg [.sl 2 (t.rs.map Rtr.v) false,.sl 5 (t.ls.map Lnk.v) false]) 0],uO (uP id t),aw.of_ok λok=>av (sh:=.k) (enc:=uO) (a:=(uN id t).an) (My id t hl ok) (by kernel_rfl) (AV.pureB_ok rfl),ap (by kernel_rfl)⟩
def gS(l:Lnk)(t:Tpl):Bool:=uP l.a t || uP l.b t
def Mx(l:Lnk)(t:Tpl):=okL [.agg [.int l.a,.int l.b,.int l.ca,.int l.cb,.int l.w],.rptr (.func 167 [.rptr (.agg [.sl 2 (t.rs.map Rtr.v) false,.sl 5 (t.ls.map Lnk.v) false]) 0]) 0]
def uM(r:Bool):AV:=.bool r
def uL(l:Lnk)(t:Tpl):Ax Tryz.prog noS (Bool):=
 (.req 80 (t.rs.length≤1000000) λh1 =>
(.callP (Da l.a t h1)
(.br 112 (uP l.a t) (.ret (true))
(.req 160 (t.rs.length≤1000000) λh2 =>
(.callP (Da l.b t h2)
(.ret (uP l.b t)))))))
def yW(l:Lnk)(t:Tpl)(r0:Bool):=(uL l t).vp uM r0
theorem Mv(l:Lnk)(t:Tpl)(hl:t.rs.length≤1000000)(ok:Mx l t):yW l t (gS l t):=by
 dsimp only[yW,uL,noS,Ax.vp,Ax.vc];simp only[vcU,rfU,List.length_map]
 exact⟨hl,λh=>by unfold gS;rw[h];rfl,λh=>⟨hl,by unfold gS;rw[h];rfl⟩⟩
def Mw(l:Lnk)(t:Tpl)(hl:t.rs.length≤1000000):PC Tryz.prog:=⟨172,[.k,.k],[.agg [.int l.a,.int l.b,.int l.ca,.int l.cb,.int l.w],.rptr (.func 167 [.rptr (.agg [.sl 2 (t.rs.map Rtr.v) false,.sl 5 (t.ls.map Lnk.v) false]) 0]) 0],uM (gS l t),aw.of_ok λok=>av (sh:=.k) (enc:=uM) (a:=(uL l t).an) (Mv l t hl ok) (by kernel_rfl) (AV.pureB_ok rfl),ap (by kernel_rfl)⟩
def z8(s:List Rtr):=okL [.sl 2 (s.map Rtr.v) false,.func 166 []]
def D8(s:List Rtr)(t0:Int):NF:=⟨[(0,.k,.sl 2 (s.map Rtr.v) false),(1,.k,.func 166 []),(7,.k,.int ((s.map Rtr.v).length:Int)),(8,.k,.int t0)],[]⟩
@[reducible] def z7:Nat→Type
 | 0=>Int
 | _=>Unit
def oX(r:Int):AV:=.int r
def oW(s:List Rtr)(I0:Int→Prop)(m0:Int→Nat):Ax Tryz.prog z7 (Int):=
 (.loop 0 (D8 s) I0 m0 ((0):Int) [] λ(t0:Int) b0 =>
(.br 16 (decide (t0<((s.map Rtr.v).length:Int))) (.el 96 Rtr.v s (λR=>Rf (s.map Rtr.v) (ck (decide (0≤t0)) (ck (decide (t0<(s.length:Int)))
(∀x1,s[t0.toNat]?=some x1 →
(R x1))))) λx1 =>
(.callP (MU x1)
(.br 144 (jH x1) (.ret (t0))
(.bk 0 b0 ((W (t0+1)):Int) []))))
(.ret (-1))))
def sg(s:List Rtr)(I0:Int→Prop)(m0:Int→Nat)(r0:Int):=(oW s I0 m0).vp oX r0
theorem Iq(s:List Rtr)(ok:z8 s):∃I m,sg s I m (cw jH s):=by
 refine⟨λt=>aL s (λy=>jH y=false) t,λt=>s.length-t.toNat,?_⟩
 simp only[z8,okU,Blk.ok,aK,List.length_map]at ok
 dsimp only[sg,oW,z7,Ax.vp,Ax.vc];simp only[vcU,rfU,List.length_map]
 exact⟨aL.zero,λt h=>⟨λc=>⟨h.idx,c,λx hx=>⟨λq=>h.found hx q,λq=>h.step (by omega) hx q⟩⟩,λc=>h.lost c⟩⟩
def Ir(s:List Rtr):PC Tryz.prog:=⟨179,[(.s 2),.k],[.sl 2 (s.map Rtr.v) false,.func 166 []],oX (cw jH s),aw.of_ok λok=>(Iq s ok).elim λI0 h=>h.elim λm0 h=>av (sh:=.k) (enc:=oX) (a:=(oW s I0 m0).an) h (by kernel_rfl) (AV.pureB_ok rfl),ap (by kernel_rfl)⟩
def Iu(s:List Rtr):=okL [.sl 2 (s.map Rtr.v) false,.func 166 []]
def oZ(r:Bool):AV:=.bool r
def oY(s:List Rtr):Ax Tryz.prog noS (Bool):=
 (.callP (Ir s)
(.ret (decide (0≤(cw jH s)))))
def si(s:List Rtr)(r0:Bool):=(oY s).vp oZ r0
theorem Is(s:List Rtr)(ok:Iu s):si s (s.any jH):=by
 dsimp only[si,oY,noS,Ax.vp,Ax.vc];simp only[vcU,rfU,List.length_map]
 exact dA _ _
def It(s:List Rtr):PC Tryz.prog:=⟨165,[(.s 2),.k],[.sl 2 (s.map Rtr.v) false,.func 166 []],oZ (s.any jH),aw.of_ok λok=>av (sh:=.k) (enc:=oZ) (a:=(oY s).an) (Is s ok) (by kernel_rfl) (AV.pureB_ok rfl),ap (by kernel_rfl)⟩
def Bd(s:List Lnk):=okL [.sl 5 (s.map Lnk.v) false,.func 171 []]
def FV(s:List Lnk)(t0:Int):NF:=⟨[(0,.k,.sl 5 (s.map Lnk.v) false),(1,.k,.func 171 []),(7,.k,.int ((s.map Lnk.v).length:Int)),(8,.k,.int t0)],[]⟩
@[reducible] def Bc:Nat→Type
 | 0=>Int
 | _=>Unit
def qP(r:Int):AV:=.int r
def qO(s:List Lnk)(I0:Int→Prop)(m0:Int→Nat):Ax Tryz.prog Bc (Int):=
 (.loop 0 (FV s) I0 m0 ((0):Int) [] λ(t0:Int) b0 =>
(.br 16 (decide (t0<((s.map Lnk.v).length:Int))) (.el 96 Lnk.v s (λR=>Rf (s.map Lnk.v) (ck (decide (0≤t0)) (ck (decide (t0<(s.length:Int)))
(∀x1,s[t0.toNat]?=some x1 →
(R x1))))) λx1 =>
(.callP (Pc x1)
(.br 144 (jZ x1) (.ret (t0))
(.bk 0 b0 ((W (t0+1)):Int) []))))
(.ret (-1))))
def tY(s:List Lnk)(I0:Int→Prop)(m0:Int→Nat)(r0:Int):=(qO s I0 m0).vp qP r0
theorem Kl(s:List Lnk)(ok:Bd s):∃I m,tY s I m (cw jZ s):=by
 refine⟨λt=>aL s (λy=>jZ y=false) t,λt=>s.length-t.toNat,?_⟩
 simp only[Bd,okU,Blk.ok,aK,List.length_map]at ok
 dsimp only[tY,qO,Bc,Ax.vp,Ax.vc];simp only[vcU,rfU,List.length_map]
 exact⟨aL.zero,λt h=>⟨λc=>⟨h.idx,c,λx hx=>⟨λq=>h.found hx q,λq=>h.step (by omega) hx q⟩⟩,λc=>h.lost c⟩⟩
def Km(s:List Lnk):PC Tryz.prog:=⟨180,[(.s 5),.k],[.sl 5 (s.map Lnk.v) false,.func 171 []],qP (cw jZ s),aw.of_ok λok=>(Kl s ok).elim λI0 h=>h.elim λm0 h=>av (sh:=.k) (enc:=qP) (a:=(qO s I0 m0).an) h (by kernel_rfl) (AV.pureB_ok rfl),ap (by kernel_rfl)⟩
def Kq(s:List Lnk):=okL [.sl 5 (s.map Lnk.v) false,.func 171 []]
def qR(r:Bool):AV:=.bool r
def qQ(s:List Lnk):Ax Tryz.prog noS (Bool):=
 (.callP (Km s)
(.ret (decide (0≤(cw jZ s)))))
def tZ(s:List Lnk)(r0:Bool):=(qQ s).vp qR r0
theorem Kn(s:List Lnk)(ok:Kq s):tZ s (s.any jZ):=by
 dsimp only[tZ,qQ,noS,Ax.vp,Ax.vc];simp only[vcU,rfU,List.length_map]
 exact dA _ _
def Ko(s:List Lnk):PC Tryz.prog:=⟨170,[(.s 5),.k],[.sl 5 (s.map Lnk.v) false,.func 171 []],qR (s.any jZ),aw.of_ok λok=>av (sh:=.k) (enc:=qR) (a:=(qQ s).an) (Kn s ok) (by kernel_rfl) (AV.pureB_ok rfl),ap (by kernel_rfl)⟩
def BI(s:List Lnk):=okL [.sl 5 (s.map Lnk.v) false,.func 173 []]
def Hm(s:List Lnk)(t0:Int):NF:=⟨[(0,.k,.sl 5 (s.map Lnk.v) false),(1,.k,.func 173 []),(7,.k,.int ((s.map Lnk.v).length:Int)),(8,.k,.int t0)],[]⟩
@[reducible] def BH:Nat→Type
 | 0=>Int
 | _=>Unit
def rC(r:Int):AV:=.int r
def rB(s:List Lnk)(I0:Int→Prop)(m0:Int→Nat):Ax Tryz.prog BH (Int):=
 (.loop 0 (Hm s) I0 m0 ((0):Int) [] λ(t0:Int) b0 =>
(.br 16 (decide (t0<((s.map Lnk.v).length:Int))) (.el 96 Lnk.v s (λR=>Rf (s.map Lnk.v) (ck (decide (0≤t0)) (ck (decide (t0<(s.length:Int)))
(∀x1,s[t0.toNat]?=some x1 →
(R x1))))) λx1 =>
(.callP (Qj x1)
(.br 144 (kR x1) (.ret (t0))
(.bk 0 b0 ((W (t0+1)):Int) []))))
(.ret (-1))))
def uz(s:List Lnk)(I0:Int→Prop)(m0:Int→Nat)(r0:Int):=(rB s I0 m0).vp rC r0
theorem LK(s:List Lnk)(ok:BI s):∃I m,uz s I m (cw kR s):=by
 refine⟨λt=>aL s (λy=>kR y=false) t,λt=>s.length-t.toNat,?_⟩
 simp only[BI,okU,Blk.ok,aK,List.length_map]at ok
 dsimp only[uz,rB,BH,Ax.vp,Ax.vc];simp only[vcU,rfU,List.length_map]
 exact⟨aL.zero,λt h=>⟨λc=>⟨h.idx,c,λx hx=>⟨λq=>h.found hx q,λq=>h.step (by omega) hx q⟩⟩,λc=>h.lost c⟩⟩
def LL(s:List Lnk):PC Tryz.prog:=⟨180,[(.s 5),.k],[.sl 5 (s.map Lnk.v) false,.func 173 []],rC (cw kR s),aw.of_ok λok=>(LK s ok).elim λI0 h=>h.elim λm0 h=>av (sh:=.k) (enc:=rC) (a:=(rB s I0 m0).an) h (by kernel_rfl) (AV.pureB_ok rfl),ap (by kernel_rfl)⟩
def LO(s:List Lnk):=okL [.sl 5 (s.map Lnk.v) false,.func 173 []]
def rE(r:Bool):AV:=.bool r
def rD(s:List Lnk):Ax Tryz.prog noS (Bool):=
 (.callP (LL s)
(.ret (decide (0≤(cw kR s)))))
def u9(s:List Lnk)(r0:Bool):=(rD s).vp rE r0
theorem LM(s:List Lnk)(ok:LO s):u9 s (s.any kR):=by
 dsimp only[u9,rD,noS,Ax.vp,Ax.vc];simp only[vcU,rfU,List.length_map]
 exact dA _ _
def LN(s:List Lnk):PC Tryz.prog:=⟨170,[(.s 5),.k],[.sl 5 (s.map Lnk.v) false,.func 173 []],rE (s.any kR),aw.of_ok λok=>av (sh:=.k) (enc:=rE) (a:=(rD s).an) (LM s ok) (by kernel_rfl) (AV.pureB_ok rfl),ap (by kernel_rfl)⟩
def yY(s:List Lnk)(f:Tpl):=okL [.sl 5 (s.map Lnk.v) false,.func 172 [.rptr (.func 167 [.rptr (.agg [.sl 2 (f.rs.map Rtr.v) false,.sl 5 (f.ls.map Lnk.v) false]) 0]) 0]]
def CZ(s:List Lnk)(f:Tpl)(t0:Int):NF:=⟨[(0,.k,.sl 5 (s.map Lnk.v) false),(1,.k,.func 172 [.rptr (.func 167 [.rptr (.agg [.sl 2 (f.rs.map Rtr.v) false,.sl 5 (f.ls.map Lnk.v) false]) 0]) 0]),(7,.k,.int ((s.map Lnk.v).length:Int)),(8,.k,.int t0)],[]⟩
@[reducible] def yX:Nat→Type
 | 0=>Int
 | _=>Unit
def oJ(r:Int):AV:=.int r
def oI(s:List Lnk)(f:Tpl)(I0:Int→Prop)(m0:Int→Nat):Ax Tryz.prog yX (Int):=
 (.loop 0 (CZ s f) I0 m0 ((0):Int) [] λ(t0:Int) b0 =>
(.br 16 (decide (t0<((s.map Lnk.v).length:Int))) (.el 96 Lnk.v s (λR=>Rf (s.map Lnk.v) (ck (decide (0≤t0)) (ck (decide (t0<(s.length:Int)))
(∀x1,s[t0.toNat]?=some x1 →
(R x1))))) λx1 =>
(.req 128 (f.rs.length≤1000000) λh2 =>
(.callP (Mw x1 f h2)
(.br 144 (gS x1 f) (.ret (t0))
(.bk 0 b0 ((W (t0+1)):Int) [])))))
(.ret (-1))))
def rS(s:List Lnk)(f:Tpl)(I0:Int→Prop)(m0:Int→Nat)(r0:Int):=(oI s f I0 m0).vp oJ r0
theorem H7(s:List Lnk)(t:Tpl)(hl:t.rs.length≤1000000)(ok:yY s t):∃I m,rS s t I m (cw (λy=>gS y t) s):=by
 refine⟨λi=>aL s (λy=>gS y t=false) i,λi=>s.length-i.toNat,?_⟩
 simp only[yY,okU,Blk.ok,aK,List.length_map]at ok
 dsimp only[rS,oI,yX,Ax.vp,Ax.vc];simp only[vcU,rfU,List.length_map]
 exact⟨aL.zero,λi h=>⟨λc=>⟨h.idx,c,λx hx=>⟨hl,λq=>h.found hx q,λq=>h.step (by omega) hx q⟩⟩,λc=>h.lost c⟩⟩
def H8(s:List Lnk)(f:Tpl)(hl:f.rs.length≤1000000):PC Tryz.prog:=⟨180,[(.s 5),.k],[.sl 5 (s.map Lnk.v) false,.func 172 [.rptr (.func 167 [.rptr (.agg [.sl 2 (f.rs.map Rtr.v) false,.sl 5 (f.ls.map Lnk.v) false]) 0]) 0]],oJ (cw (λy=>gS y f) s),aw.of_ok λok=>(H7 s f hl ok).elim λI0 h=>h.elim λm0 h=>av (sh:=.k) (enc:=oJ) (a:=(oI s f I0 m0).an) h (by kernel_rfl) (AV.pureB_ok rfl),ap (by kernel_rfl)⟩
def HA(s:List Lnk)(f:Tpl):=okL [.sl 5 (s.map Lnk.v) false,.func 172 [.rptr (.func 167 [.rptr (.agg [.sl 2 (f.rs.map Rtr.v) false,.sl 5 (f.ls.map Lnk.v) false]) 0]) 0]]
def oL(r:Bool):AV:=.bool r
def oK(s:List Lnk)(f:Tpl):Ax Tryz.prog noS (Bool):=
 (.req 48 (f.rs.length≤1000000) λh1 =>
(.callP (H8 s f h1)
(.ret (decide (0≤(cw (λy=>gS y f) s))))))
def rT(s:List Lnk)(f:Tpl)(r0:Bool):=(oK s f).vp oL r0
theorem H9(s:List Lnk)(t:Tpl)(hl:t.rs.length≤1000000)(ok:HA s t):rT s t (s.any λy=>gS y t):=by
 dsimp only[rT,oK,noS,Ax.vp,Ax.vc];simp only[vcU,rfU,List.length_map]
 exact⟨hl,dA _ _⟩
def yZ(s:List Lnk)(f:Tpl)(hl:f.rs.length≤1000000):PC Tryz.prog:=⟨170,[(.s 5),.k],[.sl 5 (s.map Lnk.v) false,.func 172 [.rptr (.func 167 [.rptr (.agg [.sl 2 (f.rs.map Rtr.v) false,.sl 5 (f.ls.map Lnk.v) false]) 0]) 0]],oL (s.any λy=>gS y f),aw.of_ok λok=>av (sh:=.k) (enc:=oL) (a:=(oK s f).an) (H9 s f hl ok) (by kernel_rfl) (AV.pureB_ok rfl),ap (by kernel_rfl)⟩
theorem dM{α:Type}{l:List α}(hn:l.Nodup){i j:Nat}{x:α}(a:l[i]?=some x)(b:l[j]?=some x):i=j:=by
 have hi:=(List.getElem?_eq_some_iff.mp a).1
 have hj:=(List.getElem?_eq_some_iff.mp b).1
 rw[List.getElem?_eq_getElem hi]at a
 rw[List.getElem?_eq_getElem hj]at b
 exact(List.getElem_inj (h₀:=hi) (h₁:=hj) hn).mp (by rw[Option.some.inj a,Option.some.inj b])
section
variable {α β : Type} [DecidableEq α] {l : List (α × β)} {x y : α} {v z : β} {p : α × β}
theorem aP:x∈au l↔∃v,(x,v)∈l:=by
 unfold au
 rw[List.mem_map]
 exact⟨λ⟨p,h,e⟩=>⟨p.2,by rw[←e];exact h⟩,λ⟨v,h⟩=>⟨_,h,rfl⟩⟩
theorem bP:aU l x=true↔∃v,(x,v)∈l:=by
 unfold aU;rw[decide_eq_true_iff,aP]
theorem fV(h:(au l).Nodup){v w:β}(h1:(x,v)∈l)(h2:(x,w)∈l):v=w:=by
 obtain⟨i,hi⟩:=List.mem_iff_getElem?.mp h1
 obtain⟨j,hj⟩:=List.mem_iff_getElem?.mp h2
 have a:(au l)[i]?=some x:=by rw[au,List.getElem?_map,hi];rfl
 have b:(au l)[j]?=some x:=by rw[au,List.getElem?_map,hj];rfl
 have g:=dM h a b
 subst g;rw[hi]at hj;exact congrArg Prod.snd (Option.some.inj hj)
theorem jO(h:x∈au l):∃v,l[dS l x]?=some (x,v):=by
 have e:l[dS l x]?=some (l[dS l x]'(eW h)):=List.getElem?_eq_getElem (eW h)
 refine⟨(l[dS l x]'(eW h)).2,?_⟩
 rw[e]
 have:=sK h
 exact congrArg some (Prod.ext this rfl)
theorem bG(h:aU l x=true):(x,az l x z)∈l:=by
 obtain⟨v,e⟩:=jO (of_decide_eq_true h)
 unfold az;rw[e]
 exact bc e
theorem dE(hn:(au l).Nodup)(h:(x,v)∈l):az l x z=v:=
 fV hn (bG (bP.mpr ⟨v,h⟩)) h
theorem cn(h:aU l x=false):az l x z=z:=by
 have h:x ∉ au l:=of_decide_eq_false h
 unfold az;rw[l7 h,List.getElem?_eq_none (Nat.le_refl _)]
theorem Ai:aU l x=false↔∀v,(x,v) ∉ l:=by
 rw[←Bool.not_eq_true,bP]
 exact⟨λh v hv=>h ⟨v,hv⟩,λh ⟨v,hv⟩=>h v hv⟩
theorem Ce:au (bi l x v)=if x∈au l then au l else au l++[x]:=by
 unfold bi
 by_cases h:x∈au l
 ·rw[if_pos h,if_pos h]
  unfold au at h ⊢
  rw[List.map_set]
  obtain⟨v',e⟩:=jO h
  refine List.ext_getElem? λi=>?_
  rw[List.getElem?_set]
  split
  ·rename_i g;subst g
   rw[if_pos (by rw[List.length_map];exact aq e),List.getElem?_map,e];rfl
  ·rfl
 ·rw[if_neg h,if_neg h];simp[au]
theorem dI(hn:(au l).Nodup):(au (bi l x v)).Nodup:=by
 rw[Ce]
 split
 ·exact hn
 ·rename_i h
  exact List.nodup_append.mpr ⟨hn,by simp,λa ha b hb=>by rw[List.mem_singleton.mp hb];rintro rfl;exact h ha⟩
theorem bK(hn:(au l).Nodup):p∈bi l x v↔p=(x,v)∨(p∈l∧p.1≠x):=by
 unfold bi
 by_cases h:x∈au l
 ·rw[if_pos h]
  obtain⟨v',e⟩:=jO h
  constructor
  ·intro hp
   obtain⟨i,hi⟩:=List.mem_iff_getElem?.mp hp
   rw[List.getElem?_set]at hi
   split at hi
   ·split at hi
    ·exact .inl (Option.some.inj hi).symm
    ·cases hi
   ·rename_i g
    refine .inr ⟨bc hi,?_⟩
    rintro rfl
    have a:(au l)[i]?=some p.1:=by rw[au,List.getElem?_map,hi];rfl
    have b:(au l)[dS l p.1]?=some p.1:=by rw[au,List.getElem?_map,e];rfl
    exact g (dM hn a b).symm
  ·rintro(rfl|⟨hp,hne⟩)
   ·exact bc (i:=dS l x) (by rw[List.getElem?_set,if_pos rfl,if_pos (aq e)])
   ·obtain⟨i,hi⟩:=List.mem_iff_getElem?.mp hp
    refine bc (i:=i) ?_
    rw[List.getElem?_set,if_neg]
    ·exact hi
    ·rintro rfl
     rw[e]at hi
     exact hne (congrArg Prod.fst (Option.some.inj hi)).symm
 ·rw[if_neg h,List.mem_append,List.mem_singleton]
  constructor
  ·rintro(hp|hp)
   ·exact .inr ⟨hp,λe=>h (aP.mpr ⟨p.2,by rw[←e];exact hp⟩)⟩
   ·exact .inl hp
  ·rintro(hp|⟨hp,_⟩)
   ·exact .inr hp
   ·exact .inl hp
theorem pQ(hn:(au l).Nodup):p∈mdl l x↔p∈l∧p.1≠x:=by
 unfold mdl
 by_cases h:x∈au l
 ·obtain⟨v',e⟩:=jO h
  rw[List.mem_eraseIdx_iff_getElem?]
  constructor
  ·rintro⟨i,hne,hi⟩
   refine⟨bc hi,?_⟩
   rintro rfl
   have a:(au l)[i]?=some p.1:=by rw[au,List.getElem?_map,hi];rfl
   have b:(au l)[dS l p.1]?=some p.1:=by rw[au,List.getElem?_map,e];rfl
   exact hne (dM hn a b)
  ·rintro⟨hp,hne⟩
   obtain⟨i,hi⟩:=List.mem_iff_getElem?.mp hp
   refine⟨i,?_,hi⟩
   rintro rfl
   rw[e]at hi
   exact hne (congrArg Prod.fst (Option.some.inj hi)).symm
 ·rw[l7 h,List.eraseIdx_of_length_le (Nat.le_refl _)]
  exact⟨λhp=>⟨hp,λe=>h (aP.mpr ⟨p.2,by rw[←e];exact hp⟩)⟩,λhp=>hp.1⟩
theorem Cf(hn:(au l).Nodup):(au (mdl l x)).Nodup:=by
 unfold mdl au
 rw[bI]
 exact hn.sublist (List.eraseIdx_sublist _ _)
theorem sL(hn:(au l).Nodup):aU (bi l x v) y=(decide (y=x) || aU l y):=by
 rw[Bool.eq_iff_iff,Bool.or_eq_true,decide_eq_true_iff,bP,bP]
 constructor
 ·rintro⟨w,h⟩
  rcases(bK hn).mp h with h|⟨h,_⟩
  ·cases h;exact .inl rfl
  ·exact .inr ⟨w,h⟩
 ·rintro(rfl|⟨w,h⟩)
  ·exact⟨v,(bK hn).mpr (.inl rfl)⟩
  ·by_cases e:y=x
   ·subst e;exact⟨v,(bK hn).mpr (.inl rfl)⟩
   ·exact⟨w,(bK hn).mpr (.inr ⟨h,e⟩)⟩
theorem ED:(bi l x v).length=if aU l x=true then l.length else l.length+1:=by
 unfold bi aU
 by_cases h:x∈au l
 ·rw[if_pos h,decide_eq_true h,if_pos rfl,List.length_set]
 ·rw[if_neg h,decide_eq_false h];simp
end
structure Stp where
  to:Int
  cost:Int
def Stp.v(x:Stp):AV:=.agg [.int x.to,.int x.cost]
abbrev Lks:=List (Int×List Stp)
abbrev Dis:=List (Int×Int)
def bfr(x b:Int×Int):Prop:=x.2<b.2∨x.2=b.2∧x.1<b.1
instance (x b:Int×Int):Decidable (bfr x b):=by unfold bfr;infer_instance
def Lq:Dis→Option (Int×Int)
 | []=>none
 | x::l=>match Lq l with
  | none=>some x
  | some b=>if bfr x b then some x else some b
def bst(l:Dis):Int:=match Lq l with
 | none=>0
 | some b=>b.1
theorem kP:∀{l:Dis},l≠[]→∃b,Lq l=some b∧b∈l∧∀x∈l,¬bfr x b
 | [],h=>absurd rfl h
 | [x],_=>⟨x,rfl,by simp,by simp[bfr]⟩
 | x::y::l,_=>by
  obtain⟨b,h1,h2,h3⟩:=kP (l:=y::l) (by simp)
  rw[Lq,h1]
  simp only
  split
  ·rename_i h
   refine⟨x,rfl,by simp,λz hz=>?_⟩
   rcases List.mem_cons.mp hz with rfl|hz
   ·simp[bfr]
   ·have:=h3 z hz
    unfold bfr at *;omega
  ·rename_i h
   refine⟨b,rfl,by simp[h2],λz hz=>?_⟩
   rcases List.mem_cons.mp hz with rfl|hz
   ·exact h
   ·exact h3 z hz
theorem PJ{l:Dis}{b:Int×Int}(h:b∈l)(hb:∀x∈l,¬bfr x b):bst l=b.1:=by
 obtain⟨c,h1,h2,h3⟩:=kP (l:=l) (by rintro rfl;simp at h)
 have e1:=hb c h2
 have e2:=h3 b h
 unfold bst;rw[h1]
 simp only
 unfold bfr at e1 e2;omega
theorem bo{kk:Option Nat}{z:AV}{ok:Bool}{m k:AO}{f:Nat}{ρ:AO→AV}{hp:Hp}:evA (.mget kk z ok m k) f ρ hp=match du hp (ρ m),(ρ k).key with
    | some (kk',ks,vs),some q=>{ c:=kk'=kk∧q.fits kk,v:=cF ks vs q z ok }
    | _,_=>.bad:=rfl
def FC:AC:=.seq (.reg [⟨(some 35),.move (.t 8),none⟩,⟨(some 36),.rng (.t 35),none⟩])
 (.block 2 (.loop (.seq (.reg [⟨(some 37),.nxt (.t 36),none⟩,⟨(some 38),.ext 0 (.t 37),none⟩])
 (.seq (.cond (.t 38) (.skip) (.exit 2))
 (.block 3 (.seq (.reg [⟨(some 39),.ent (.t 36),none⟩,⟨(some 40),.ext 0 (.t 39),none⟩,⟨(some 41),.ext 1 (.t 39),none⟩,⟨(some 10),.move (.t 40),none⟩,⟨(some 11),.move (.t 41),none⟩])
 (.seq (.reg [⟨(some 42),.move (.t 9),none⟩,⟨(some 43),.bin .eql (.t 42) (.c (.val (.int .i64 0))),none⟩,⟨(some 44),.move (.t 43),none⟩,⟨(some 45),.move (.t 11),(some (44,false))⟩,⟨(some 46),.move (.t 8),(some (44,false))⟩,⟨(some 47),.move (.t 9),(some (44,false))⟩,⟨(some 48),.mget none ((.val (.int .i64 0))) false (.t 46) (.t 47),(some (44,false))⟩,⟨(some 49),.bin .lss (.t 45) (.t 48),(some (44,false))⟩,⟨(some 50),.pick (.t 44) (.c (.val (.bool true))) (.t 49),none⟩,⟨(some 51),.move (.t 50),none⟩,⟨(some 52),.move (.t 11),(some (51,false))⟩,⟨(some 53),.move (.t 8),(some (51,false))⟩,⟨(some 54),.move (.t 9),(some (51,false))⟩,⟨(some 55),.mget none ((.val (.int .i64 0))) false (.t 53) (.t 54),(some (51,false))⟩,⟨(some 56),.bin .eql (.t 52) (.t 55),(some (51,false))⟩,⟨(some 57),.move (.t 56),(some (51,false))⟩,⟨(some 58),.move (.t 10),(some (57,true))⟩,⟨(some 59),.move (.t 9),(some (57,true))⟩,⟨(some 60),.bin .lss (.t 58) (.t 59),(some (57,true))⟩,⟨(some 61),.pick (.t 57) (.t 60) (.c (.val (.bool false))),(some (51,false))⟩,⟨(some 62),.pick (.t 51) (.c (.val (.bool true))) (.t 61),none⟩])
 (.cond (.t 62) (.reg [⟨(some 63),.move (.t 10),none⟩,⟨(some 9),.move (.t 63),none⟩]) (.skip)))))))))
abbrev ix(L:Lks):AV:=.mp none (L.map λp=>MK.n p.1) (L.map λp=>(λl=>AV.sl 2 (l.map Stp.v) false) p.2)
abbrev qG(l:Dis):Blk:=.map none (l.map λp=>MK.n p.1) (l.map λp=>AV.int p.2)
def AM(L:Lks)(o l:Dis)(b:Int):NF:=
  ⟨[(0,.k,ix L),(5,.k,.mref 0),(8,.k,.mref 1),(9,.k,.int b)],
   [.map none (o.map λp=>MK.n p.1) (o.map λp=>AV.int p.2) (ab (λ_=>rfl) _),.map none (l.map λp=>MK.n p.1) (l.map λp=>AV.int p.2) (ab (λ_=>rfl) _)]⟩
def OL(L:Lks)(o l:Dis)(st:List Nat)(ck:Nat)(seen:List Nat)(b:Int):S3:=
 ⟨cu [(0,ix L),(5,.mref 0),(8,.mref 1),(9,.int b),(36,.ref 2 0)],hpL 0 [some (qG o),some (.mst none (l.map λp=>MK.n p.1) (l.map λp=>AV.int p.2) st ck),some (.itr 1 st ck seen)],3⟩
def Lp(l:Dis)(st seen:List Nat)(b:Int):Prop:=(seen=[]∧b=0)∨∃(i:Nat) (x:Int×Int) (s:Nat),l[i]?=some x∧st[i]?=some s∧s∈seen∧b=x.1∧∀(j:Nat) (y:Int×Int) (s:Nat),l[j]?=some y→st[j]?=some s→s∈seen→¬bfr y x
def E0(l:Dis):Prop:=∀x∈l,x.1≠0∧-9223372036854775808≤x.1∧x.1≤9223372036854775807
theorem dst_h(L:Lks)(o l:Dis)(hl:E0 l)(k:Nat):dx Tryz.prog 0 k FC (AM L o l 0).st (AM L o l (bst l)).st:=by
 unfold dx FC
 show AWP _ 0 k _ _ ⟨cu [(0,ix L),(5,.mref 0),(8,.mref 1),(9,.int 0)],hpL 0 [some (qG o),some (qG l)],2⟩
 refine AWP.open 1 rfl λst ck hs1 hs2 hn hv=>?_
 refine AWP.seq' ?_
 refine AWP.reg' λK hK=>?_
 try simp only[ak,am,al,eq_self,implies_true,forall_eq_or_imp,forall_eq,Nat.reduceEqDiff,↓reduceIte,Nat.reduceAdd,Nat.reduceLeDiff,Nat.reduceSub,Nat.reduceMul,Nat.reduceLT,Int.reduceBEq,Int.reduceBNe,Int.reduceToNat,Int.reduceLT,Int.reduceLE,Int.reduceAdd,Int.reduceSub,Int.reduceMul,reduceCtorEq]
 refine qt rfl rfl ?_
 try simp only[ak,am,al,eq_self,implies_true,forall_eq_or_imp,forall_eq,Nat.reduceEqDiff,↓reduceIte,Nat.reduceAdd,Nat.reduceLeDiff,Nat.reduceSub,Nat.reduceMul,Nat.reduceLT,Int.reduceBEq,Int.reduceBNe,Int.reduceToNat,Int.reduceLT,Int.reduceLE,Int.reduceAdd,Int.reduceSub,Int.reduceMul,reduceCtorEq]
 refine hK _ _ _ ?_
 clear hK K
 refine AWP.block ?_
 have hvl:aR (l.map λp=>AV.int p.2):=aB (ab (v:=λp:Int×Int=>AV.int p.2) (λ_=>rfl) l)
 have hvo:aR (o.map λp=>AV.int p.2):=aB (ab (v:=λp:Int×Int=>AV.int p.2) (λ_=>rfl) o)
 have rm:∀(π:Nat→Nat) (o:Dis),some (qG o)=some (Blk.ren π (qG o)):=λπ o=>by
  rw[Blk.ren,aT _ (aB (ab (v:=λp:Int×Int=>AV.int p.2) (λ_=>rfl) o))]
 have rs:∀(π:Nat→Nat),some (Blk.mst none (l.map λp=>MK.n p.1) (l.map λp=>AV.int p.2) st ck)=some (Blk.ren π (.mst none (l.map λp=>MK.n p.1) (l.map λp=>AV.int p.2) st ck)):=λπ=>by
  rw[Blk.ren,aT _ hvl]
 have bm:∀o:Dis,Blk.bel 3 (qG o):=λo=>aQ (aB (ab (v:=λp:Int×Int=>AV.int p.2) (λ_=>rfl) o))
 have bs:Blk.bel 3 (.mst none (l.map λp=>MK.n p.1) (l.map λp=>AV.int p.2) st ck):=aQ hvl
 rw[List.length_map]at hs2
 refine AWP.loopS (λt:List Nat×Int=>OL L o l st ck t.1 t.2) (λt=>Lp l st t.1 t.2∧t.1.Nodup∧∀s∈t.1,s∈st) (λt=>st.length-t.1.length) (i0:=([],0)) ⟨.inl ⟨rfl,rfl⟩,by simp,by simp⟩ ?_ ?_
 ·unfold OL
  refine ay.nf [0,1,18] _ _ ?_ ?_ ⟨rfl,rfl⟩ (by decide) (by decide) (by decide)
  ·repeat' (first|exact trivial|exact And.intro rfl trivial|refine And.intro ?_ ?_|rfl|exact Nat.le_of_ble_eq_true rfl|exact rm _ _|exact rs _|exact bm _|exact bs)
  ·repeat' (first|exact trivial|exact And.intro rfl trivial|refine And.intro ?_ ?_|rfl|exact Nat.le_of_ble_eq_true rfl|exact rm _ _|exact rs _|exact bm _|exact bs)
 ·rintro⟨seen,b⟩ ⟨hJ,hnd,hsub⟩
  unfold OL
  refine AWP.seq' ?_
  refine AWP.reg' λK hK=>?_
  try simp only[ak,am,al,eq_self,implies_true,forall_eq_or_imp,forall_eq,Nat.reduceEqDiff,↓reduceIte,Nat.reduceAdd,Nat.reduceLeDiff,Nat.reduceSub,Nat.reduceMul,Nat.reduceLT,Int.reduceBEq,Int.reduceBNe,Int.reduceToNat,Int.reduceLT,Int.reduceLE,Int.reduceAdd,Int.reduceSub,Int.reduceMul,reduceCtorEq]
  have hk:∀q∈(l.map λp=>MK.n p.1),kOk q:=λq hq=>by
   obtain⟨x,hx,rfl⟩:=List.mem_map.mp hq
   have:=hl x hx
   show inK .i64 x.1
   rw[Fe];exact this.2
  refine qu rfl rfl rfl hk (λhs=>?_) (λi q v s0 e1 e2 e3 e4=>?_)
  ·try simp only[ak,am,al,eq_self,implies_true,forall_eq_or_imp,forall_eq,Nat.reduceEqDiff,↓reduceIte,Nat.reduceAdd,Nat.reduceLeDiff,Nat.reduceSub,Nat.reduceMul,Nat.reduceLT,Int.reduceBEq,Int.reduceBNe,Int.reduceToNat,Int.reduceLT,Int.reduceLE,Int.reduceAdd,Int.reduceSub,Int.reduceMul,reduceCtorEq]
   refine hK _ _ _ ?_
   clear hK K
   have hb:b=bst l:=by
    rcases hJ with⟨h1,h2⟩|⟨i,x,s,g1,g2,g3,g4,g5⟩
    ·have h1:seen=[]:=h1
     subst h1
     have:st=[]:=List.eq_nil_iff_forall_not_mem.mpr λs hs'=>by simpa using hs s hs'
     have:l=[]:=List.eq_nil_of_length_eq_zero (by rw[←hs2,this];rfl)
     subst this;exact h2
    ·have g4:b=x.1:=g4
     rw[g4]
     refine(PJ (bc g1) λy hy=>?_).symm
     obtain⟨j,hj⟩:=List.mem_iff_getElem?.mp hy
     have hlt:=aq hj
     exact g5 j y (st[j]'(by omega)) hj (List.getElem?_eq_getElem (by omega)) (hs _ (List.getElem_mem _))
   refine AWP.seq' (AWP.cond (b:=false) rfl (λh=>by cases h) (λ_=>AWP.exit ?_))
   show ay 0 k _ ⟨cu [(0,ix L),(5,.mref 0),(8,.mref 1),(9,.int (bst l))],hpL 0 [some (qG o),some (qG l)],2⟩
   rw[←hb]
   refine ay.trans (ay.close 1 rfl) ?_
   have bm:∀o:Dis,Blk.bel 2 (qG o):=λo=>aQ (aB (ab (v:=λp:Int×Int=>AV.int p.2) (λ_=>rfl) o))
   refine ay.nf [0,1] _ _ ?_ ?_ ⟨rfl,rfl⟩ (by decide) (by decide) (by decide)
   ·repeat' (first|exact trivial|exact And.intro rfl trivial|refine And.intro ?_ ?_|rfl|exact Nat.le_of_ble_eq_true rfl|exact rm _ _|exact bm _)
   ·repeat' (first|exact trivial|exact And.intro rfl trivial|refine And.intro ?_ ?_|rfl|exact Nat.le_of_ble_eq_true rfl|exact rm _ _|exact bm _)
  ·try simp only[ak,am,al,eq_self,implies_true,forall_eq_or_imp,forall_eq,Nat.reduceEqDiff,↓reduceIte,Nat.reduceAdd,Nat.reduceLeDiff,Nat.reduceSub,Nat.reduceMul,Nat.reduceLT,Int.reduceBEq,Int.reduceBNe,Int.reduceToNat,Int.reduceLT,Int.reduceLE,Int.reduceAdd,Int.reduceSub,Int.reduceMul,reduceCtorEq]
   refine hK _ _ _ ?_
   clear hK K
   refine AWP.seq' (AWP.cond (b:=true) rfl (λ_=>?_) (λh=>by cases h))
   refine AWP.skip ?_
   refine AWP.block (AWP.seq' ?_)
   rw[List.getElem?_map,Option.map_eq_some_iff]at e1 e2
   obtain⟨x,e1,rfl⟩:=e1
   obtain⟨x',e2,rfl⟩:=e2
   rw[e1]at e2;cases e2
   have e5:(l.map λp=>MK.n p.1)[i]?=some (MK.n x.1):=by rw[List.getElem?_map,e1];rfl
   have e6:(l.map λp=>AV.int p.2)[i]?=some (AV.int x.2):=by rw[List.getElem?_map,e1];rfl
   refine AWP.reg' λK hK=>?_
   try simp only[ak,am,al,eq_self,implies_true,forall_eq_or_imp,forall_eq,Nat.reduceEqDiff,↓reduceIte,Nat.reduceAdd,Nat.reduceLeDiff,Nat.reduceSub,Nat.reduceMul,Nat.reduceLT,Int.reduceBEq,Int.reduceBNe,Int.reduceToNat,Int.reduceLT,Int.reduceLE,Int.reduceAdd,Int.reduceSub,Int.reduceMul,reduceCtorEq]
   refine qw rfl rfl rfl e3 e5 e6 (hk _ (List.mem_of_getElem? e5)) ?_
   try simp only[ak,am,al,eq_self,implies_true,forall_eq_or_imp,forall_eq,Nat.reduceEqDiff,↓reduceIte,Nat.reduceAdd,Nat.reduceLeDiff,Nat.reduceSub,Nat.reduceMul,Nat.reduceLT,Int.reduceBEq,Int.reduceBNe,Int.reduceToNat,Int.reduceLT,Int.reduceLE,Int.reduceAdd,Int.reduceSub,Int.reduceMul,reduceCtorEq,kAV]
   refine hK _ _ _ ?_
   clear hK K
   refine AWP.seq' ?_
   have hN:(seen++[s0]).Nodup:=List.nodup_append.mpr ⟨hnd,by simp,λa ha b hb=>by rw[List.mem_singleton.mp hb];rintro rfl;exact e4 ha⟩
   have hS:∀s∈seen++[s0],s∈st:=λs hs=>by
    rcases List.mem_append.mp hs with hs|hs
    ·exact hsub s hs
    ·rw[List.mem_singleton.mp hs];exact List.mem_of_getElem? e3
   have hL:st.length-(seen++[s0]).length<st.length-seen.length:=by
    have:=List.Nodup.length_le_of_subset hN hS
    rw[List.length_append,List.length_singleton]at this ⊢;omega
   have hu:∀{j y},l[j]?=some y→st[j]?=some s0→y=x:=λ{j y} h1 h2=>by
    have:=dM hs1 h2 e3
    subst this;rw[h1]at e1;exact Option.some.inj e1
   have hnew:(∀(j:Nat) (y:Int×Int) (s:Nat),l[j]?=some y→st[j]?=some s→s∈seen→¬bfr y x)→Lp l st (seen++[s0]) x.1:=λh =>
    .inr ⟨i,x,s0,e1,e3,by simp,rfl,λj y s h1 h2 h3=>by
     rcases List.mem_append.mp h3 with h3|h3
     ·exact h j y s h1 h2 h3
     ·rw[List.mem_singleton.mp h3]at h2;rw[hu h1 h2];simp[bfr]⟩
   rcases hJ with⟨h1,h2⟩|⟨i',y,s,g1,g2,g3,g4,g5⟩
   ·have h1:seen=[]:=h1
    have h2:b=0:=h2
    subst h1;subst h2
    have hJ':=hnew (λj y s _ _ h3=>by simp at h3)
    refine AWP.reg' λK hK=>?_
    try simp only[ak,am,al,eq_self,implies_true,forall_eq_or_imp,forall_eq,Nat.reduceEqDiff,↓reduceIte,Nat.reduceAdd,Nat.reduceLeDiff,Nat.reduceSub,Nat.reduceMul,Nat.reduceLT,Int.reduceBEq,Int.reduceBNe,Int.reduceToNat,Int.reduceLT,Int.reduceLE,Int.reduceAdd,Int.reduceSub,Int.reduceMul,reduceCtorEq]
    refine hK _ _ _ ?_
    clear hK K
    refine AWP.cond (b:=true) rfl (λ_=>?_) (λh=>by cases h)
    refine AWP.reg' λK hK=>?_
    try simp only[ak,am,al,eq_self,implies_true,forall_eq_or_imp,forall_eq,Nat.reduceEqDiff,↓reduceIte,Nat.reduceAdd,Nat.reduceLeDiff,Nat.reduceSub,Nat.reduceMul,Nat.reduceLT,Int.reduceBEq,Int.reduceBNe,Int.reduceToNat,Int.reduceLT,Int.reduceLE,Int.reduceAdd,Int.reduceSub,Int.reduceMul,reduceCtorEq]
    refine hK _ _ _ ?_
    clear hK K
    refine⟨(_,_),⟨hJ',hN,hS⟩,hL,?_⟩
    refine ay.nf [0,1,2] _ _ ?_ ?_ ⟨rfl,rfl⟩ (by decide) (by decide) (by decide)
    ·repeat' (first|exact trivial|exact And.intro rfl trivial|refine And.intro ?_ ?_|rfl|exact Nat.le_of_ble_eq_true rfl|exact rm _ _|exact rs _|exact bm _|exact bs)
    ·repeat' (first|exact trivial|exact And.intro rfl trivial|refine And.intro ?_ ?_|rfl|exact Nat.le_of_ble_eq_true rfl|exact rm _ _|exact rs _|exact bm _|exact bs)
   ·have g4:b=y.1:=g4
    subst g4
    have hy0:¬y.1=0:=(hl y (bc g1)).1
    have hmg:cF (l.map λp=>MK.n p.1) (l.map λp=>AV.int p.2) (MK.n y.1) (AV.int 0) false=AV.int y.2:=by
     have hh:aU l y.1=true:=bP.mpr ⟨y.2,bc g1⟩
     have hnk:(au l).Nodup:=by
      have:=mB (l:=l) (kf:=MK.n)
      rw[this]at hn
      exact List.Pairwise.of_map MK.n (λa b h e=>h (congrArg _ e)) hn
     rw[kC (vf:=AV.int) (z:=0) (λ_ _ h=>MK.n.inj h) hh,dE hnk (bc g1)];rfl
    have hy1:(y.1==0)=false:=by simpa using hy0
    have hbt:bfr x y→Lp l st (seen++[s0]) x.1:=λh=>hnew λj z s' h1 h2 h3=>by
     have:=g5 j z s' h1 h2 h3
     unfold bfr at *;omega
    have hbf:¬bfr x y→Lp l st (seen++[s0]) y.1:=λh=>.inr ⟨i',y,s,g1,g2,List.mem_append_left _ g3,rfl,λj z s' h1 h2 h3=>by
     rcases List.mem_append.mp h3 with h3|h3
     ·exact g5 j z s' h1 h2 h3
     ·rw[List.mem_singleton.mp h3]at h2;rw[hu h1 h2];exact h⟩
    by_cases c1:x.2<y.2
    ·refine AWP.reg' λK hK=>?_
     try simp only[ak,am,al,eq_self,implies_true,forall_eq_or_imp,forall_eq,Nat.reduceEqDiff,↓reduceIte,Nat.reduceAdd,Nat.reduceLeDiff,Nat.reduceSub,Nat.reduceMul,Nat.reduceLT,Int.reduceBEq,Int.reduceBNe,Int.reduceToNat,Int.reduceLT,Int.reduceLE,Int.reduceAdd,Int.reduceSub,Int.reduceMul,reduceCtorEq,hy0,hy1,hmg,bo,du,AV.key,MK.fits,and_self,true_and,c1]
     refine hK _ _ _ ?_
     clear hK K
     refine AWP.cond (b:=true) rfl (λ_=>?_) (λh=>by cases h)
     refine AWP.reg' λK hK=>?_
     try simp only[ak,am,al,eq_self,implies_true,forall_eq_or_imp,forall_eq,Nat.reduceEqDiff,↓reduceIte,Nat.reduceAdd,Nat.reduceLeDiff,Nat.reduceSub,Nat.reduceMul,Nat.reduceLT,Int.reduceBEq,Int.reduceBNe,Int.reduceToNat,Int.reduceLT,Int.reduceLE,Int.reduceAdd,Int.reduceSub,Int.reduceMul,reduceCtorEq]
     refine hK _ _ _ ?_
     clear hK K
     refine⟨(_,_),⟨hbt (.inl c1),hN,hS⟩,hL,?_⟩
     refine ay.nf [0,1,2] _ _ ?_ ?_ ⟨rfl,rfl⟩ (by decide) (by decide) (by decide)
     ·repeat' (first|exact trivial|exact And.intro rfl trivial|refine And.intro ?_ ?_|rfl|exact Nat.le_of_ble_eq_true rfl|exact rm _ _|exact rs _|exact bm _|exact bs)
     ·repeat' (first|exact trivial|exact And.intro rfl trivial|refine And.intro ?_ ?_|rfl|exact Nat.le_of_ble_eq_true rfl|exact rm _ _|exact rs _|exact bm _|exact bs)
    ·by_cases c2:x.2=y.2
     ·have c2':(x.2==y.2)=true:=by simpa using c2
      by_cases c3:x.1<y.1
      ·refine AWP.reg' λK hK=>?_
       try simp only[ak,am,al,eq_self,implies_true,forall_eq_or_imp,forall_eq,Nat.reduceEqDiff,↓reduceIte,Nat.reduceAdd,Nat.reduceLeDiff,Nat.reduceSub,Nat.reduceMul,Nat.reduceLT,Int.reduceBEq,Int.reduceBNe,Int.reduceToNat,Int.reduceLT,Int.reduceLE,Int.reduceAdd,Int.reduceSub,Int.reduceMul,reduceCtorEq,hy0,hy1,hmg,bo,du,AV.key,MK.fits,and_self,true_and,c1,c2',c3]
       refine hK _ _ _ ?_
       clear hK K
       refine AWP.cond (b:=true) rfl (λ_=>?_) (λh=>by cases h)
       refine AWP.reg' λK hK=>?_
       try simp only[ak,am,al,eq_self,implies_true,forall_eq_or_imp,forall_eq,Nat.reduceEqDiff,↓reduceIte,Nat.reduceAdd,Nat.reduceLeDiff,Nat.reduceSub,Nat.reduceMul,Nat.reduceLT,Int.reduceBEq,Int.reduceBNe,Int.reduceToNat,Int.reduceLT,Int.reduceLE,Int.reduceAdd,Int.reduceSub,Int.reduceMul,reduceCtorEq]
       refine hK _ _ _ ?_
       clear hK K
       refine⟨(_,_),⟨hbt (.inr ⟨c2,c3⟩),hN,hS⟩,hL,?_⟩
       refine ay.nf [0,1,2] _ _ ?_ ?_ ⟨rfl,rfl⟩ (by decide) (by decide) (by decide)
       ·repeat' (first|exact trivial|exact And.intro rfl trivial|refine And.intro ?_ ?_|rfl|exact Nat.le_of_ble_eq_true rfl|exact rm _ _|exact rs _|exact bm _|exact bs)
       ·repeat' (first|exact trivial|exact And.intro rfl trivial|refine And.intro ?_ ?_|rfl|exact Nat.le_of_ble_eq_true rfl|exact rm _ _|exact rs _|exact bm _|exact bs)
      ·refine AWP.reg' λK hK=>?_
       try simp only[ak,am,al,eq_self,implies_true,forall_eq_or_imp,forall_eq,Nat.reduceEqDiff,↓reduceIte,Nat.reduceAdd,Nat.reduceLeDiff,Nat.reduceSub,Nat.reduceMul,Nat.reduceLT,Int.reduceBEq,Int.reduceBNe,Int.reduceToNat,Int.reduceLT,Int.reduceLE,Int.reduceAdd,Int.reduceSub,Int.reduceMul,reduceCtorEq,hy0,hy1,hmg,bo,du,AV.key,MK.fits,and_self,true_and,c1,c2',c3]
       refine hK _ _ _ ?_
       clear hK K
       refine AWP.cond (b:=false) rfl (λh=>by cases h) (λ_=>?_)
       refine AWP.skip ?_
       refine⟨(_,_),⟨hbf (by unfold bfr;omega),hN,hS⟩,hL,?_⟩
       refine ay.nf [0,1,2] _ _ ?_ ?_ ⟨rfl,rfl⟩ (by decide) (by decide) (by decide)
       ·repeat' (first|exact trivial|exact And.intro rfl trivial|refine And.intro ?_ ?_|rfl|exact Nat.le_of_ble_eq_true rfl|exact rm _ _|exact rs _|exact bm _|exact bs)
       ·repeat' (first|exact trivial|exact And.intro rfl trivial|refine And.intro ?_ ?_|rfl|exact Nat.le_of_ble_eq_true rfl|exact rm _ _|exact rs _|exact bm _|exact bs)
     ·have c2':(x.2==y.2)=false:=by simpa using c2
      refine AWP.reg' λK hK=>?_
      try simp only[ak,am,al,eq_self,implies_true,forall_eq_or_imp,forall_eq,Nat.reduceEqDiff,↓reduceIte,Nat.reduceAdd,Nat.reduceLeDiff,Nat.reduceSub,Nat.reduceMul,Nat.reduceLT,Int.reduceBEq,Int.reduceBNe,Int.reduceToNat,Int.reduceLT,Int.reduceLE,Int.reduceAdd,Int.reduceSub,Int.reduceMul,reduceCtorEq,hy0,hy1,hmg,bo,du,AV.key,MK.fits,and_self,true_and,c1,c2']
      refine hK _ _ _ ?_
      clear hK K
      refine AWP.cond (b:=false) rfl (λh=>by cases h) (λ_=>?_)
      refine AWP.skip ?_
      refine⟨(_,_),⟨hbf (by unfold bfr;omega),hN,hS⟩,hL,?_⟩
      refine ay.nf [0,1,2] _ _ ?_ ?_ ⟨rfl,rfl⟩ (by decide) (by decide) (by decide)
      ·repeat' (first|exact trivial|exact And.intro rfl trivial|refine And.intro ?_ ?_|rfl|exact Nat.le_of_ble_eq_true rfl|exact rm _ _|exact rs _|exact bm _|exact bs)
      ·repeat' (first|exact trivial|exact And.intro rfl trivial|refine And.intro ?_ ?_|rfl|exact Nat.le_of_ble_eq_true rfl|exact rm _ _|exact rs _|exact bm _|exact bs)
theorem dr.refN{foot:List Nat}{hp:Hp}{b off:Nat}{x y:AV}(hb:b∈foot)(h:hp b=some (.box x))(hv:dr foot hp x y)(hs:y.solid=true):dr foot hp (.ref b off) (.rptr y off):=by
 intro P c A μ fr tm' hp' n a w cv H hh hv'
 obtain⟨hd,e1,e2,rfl⟩:=hv'
 obtain⟨hd',v,ty,f1,f2,f3,f4,f5,f6⟩:=H.box ((hh b hb).trans h)
 rw[e1]at f1;cases f1
 obtain⟨hd',g1,_,g3⟩:=H.blk b _ ((hh b hb).trans h)
 rw[e1]at g1;cases g1
 have q:=hv P c A μ fr tm' hp' n a w v H hh f4
 refine⟨hd.blk,0,v,by simp,.inr ⟨b,_,hd,(hh b hb).trans h,e1,e2,rfl⟩,q,(RV.cells hs q).2,λp u hu=>f6 p u hu⟩
def CY:AC:=.reg [⟨(some 52),.faddr 1 (.t 1),none⟩,⟨(some 53),.load false 1 (.t 52),none⟩,⟨(some 54),.mkf 172 [(.t 4)],none⟩,⟨(some 55),.call (.c (.func 170 [])) [(.t 53),(.t 54)],none⟩,⟨(some 51),.move (.t 55),none⟩]
def LV(t:Tpl):NF:=⟨[(1,.k,.ref 0 0),(4,.k,.ref 1 0)],[.box (Tpl.v t),.box (.func 167 [.ref 0 0])]⟩
def LU(t:Tpl)(b:Bool):NF:=⟨[(1,.k,.ref 0 0),(51,.k,.bool b)],[.box (Tpl.v t)]⟩
theorem unk_h(t:Tpl)(hl:t.rs.length≤1000000)(k:Nat):dx Tryz.prog 0 k CY (LV t).st (LU t (t.ls.any λy=>gS y t)).st:=by
 unfold dx CY
 show AWP _ 0 k _ _ ⟨cu [(1,.ref 0 0),(4,.ref 1 0)],hpL 0 [some (.box (Tpl.v t)),some (.box (.func 167 [.ref 0 0]))],2⟩
 refine AWP.reg' λK hK=>?_
 try simp only[ak,am,al,eq_self,implies_true,forall_eq_or_imp,forall_eq,Nat.reduceEqDiff,↓reduceIte,Nat.reduceAdd,Nat.reduceLeDiff,Nat.reduceSub,Nat.reduceMul,Nat.reduceLT,Int.reduceBEq,Int.reduceBNe,Int.reduceToNat,Int.reduceLT,Int.reduceLE,Int.reduceAdd,Int.reduceSub,Int.reduceMul,reduceCtorEq,Tpl.v]
 refine tC [0,1] (yZ t.ls t hl).ok (yZ t.ls t hl).fn rfl rfl ⟨dr.pure trivial,dr.func ⟨?_,trivial⟩,trivial⟩ trivial ?_
 ·refine dr.refN (by simp) rfl (dr.func ⟨dr.ref (by simp) rfl ⟨trivial,trivial,trivial⟩,trivial⟩) rfl
 try simp only[ak,am,al,eq_self,implies_true,forall_eq_or_imp,forall_eq,Nat.reduceEqDiff,↓reduceIte,Nat.reduceAdd,Nat.reduceLeDiff,Nat.reduceSub,Nat.reduceMul,Nat.reduceLT,Int.reduceBEq,Int.reduceBNe,Int.reduceToNat,Int.reduceLT,Int.reduceLE,Int.reduceAdd,Int.reduceSub,Int.reduceMul,reduceCtorEq]
 refine hK _ _ _ ?_
 clear hK K
 refine(show ay 0 k _ ⟨cu [(1,.ref 0 0),(51,.bool (t.ls.any λy=>gS y t))],hpL 0 [some (.box (Tpl.v t))],1⟩from ?_)
 refine ay.nf [0] _ _ ?_ ?_ ⟨rfl,rfl⟩ (by decide) (by decide) (by decide)
 ·repeat' (first|exact trivial|exact And.intro rfl trivial|refine And.intro ?_ ?_|rfl|exact Nat.le_of_ble_eq_true rfl)
 ·repeat' (first|exact trivial|exact And.intro rfl trivial|refine And.intro ?_ ?_|rfl|exact Nat.le_of_ble_eq_true rfl)
def dJ{α:Type}(l:List α)(R:α→α→Prop)(t:Int):Prop:=∃k:Nat,t=k∧k≤l.length∧∀(j:Nat) x y,j+1<k→l[j]?=some x→l[j+1]?=some y→R x y
section
variable {α : Type} {l : List α} {R : α → α → Prop} {t : Int} {x y : α}
theorem dJ.zero:dJ l R 0:=⟨0,rfl,by omega,λj x y h=>by omega⟩
theorem dJ.idx(h:dJ l R t):0≤t:=by obtain⟨k,rfl,_,_⟩:=h;omega
theorem dJ.step0(h:dJ l R t)(hl:l.length≤1000000)(c:t<l.length)(h0:¬0<t):dJ l R (W (t+1))∧l.length-(W (t+1)).toNat<l.length-t.toNat:=by
 obtain⟨k,rfl,hk,ha⟩:=h
 obtain rfl:k=0:=by omega
 rw[bx (n:=l.length) (by omega) (by omega)]
 exact⟨⟨1,rfl,by omega,λj x y hj=>by omega⟩,by omega⟩
theorem dJ.step(h:dJ l R t)(hl:l.length≤1000000)(h0:0<t)(hx:l[(W (t-1)).toNat]?=some x)(hy:l[t.toNat]?=some y)(p:R x y):dJ l R (W (t+1))∧l.length-(W (t+1)).toNat<l.length-t.toNat:=by
 obtain⟨k,rfl,hk,ha⟩:=h
 rw[Int.toNat_natCast]at hy
 have hlt:=aq hy
 rw[j3 (by omega) (by omega),Int.toNat_natCast]at hx
 rw[bx (n:=l.length) hlt (by omega)]
 refine⟨⟨k+1,rfl,by omega,λj x' y' hj hx' hy'=>?_⟩,by omega⟩
 by_cases e:j+1=k
 ·subst e
  rw[show j+1-1=j by omega,hx']at hx;cases hx
  rw[hy']at hy;cases hy;exact p
 ·exact ha j x' y' (by omega) hx' hy'
theorem dJ.bad(h:dJ l R t)(hl:l.length≤1000000)(h0:0<t)(hx:l[(W (t-1)).toNat]?=some x)(hy:l[t.toNat]?=some y)(p:¬R x y):¬l.Pairwise R:=by
 obtain⟨k,rfl,hk,ha⟩:=h
 rw[Int.toNat_natCast]at hy
 have hlt:=aq hy
 rw[j3 (by omega) (by omega),Int.toNat_natCast]at hx
 intro hp
 rw[List.pairwise_iff_getElem]at hp
 have:=hp (k-1) k (by omega) hlt (by omega)
 rw[List.getElem?_eq_getElem (by omega)]at hx hy
 rw[Option.some.inj hx,Option.some.inj hy]at this
 exact p this
theorem dJ.rng(h:dJ l R t)(hl:l.length≤1000000)(h0:0<t)(c:t<l.length):0≤W (t-1)∧W (t-1)<l.length:=by
 obtain⟨k,rfl,hk,ha⟩:=h
 rw[j3 (by omega) (by omega)];omega
theorem dJ.next(h:dJ l R t)(hl:l.length≤1000000)(c:t<l.length){b:Bool}(hb:b=true↔0<t∧∃x y,l[(W (t-1)).toNat]?=some x∧l[t.toNat]?=some y∧¬R x y) :
  (b=true→¬l.Pairwise R)∧(b=false→dJ l R (W (t+1))∧l.length-(W (t+1)).toNat<l.length-t.toNat):=by
 refine⟨λe=>?_,λe=>?_⟩
 ·obtain⟨h0,x,y,hx,hy,p⟩:=hb.mp e
  exact h.bad hl h0 hx hy p
 ·by_cases h0:0<t
  ·obtain⟨g1,g2⟩:=h.rng hl h0 c
   have hx:=List.getElem?_eq_getElem (show(W (t-1)).toNat<l.length by omega)
   have hy:=List.getElem?_eq_getElem (show t.toNat<l.length by omega)
   refine h.step hl h0 hx hy (Classical.byContradiction λp=>?_)
   have:=hb.mpr ⟨h0,_,_,hx,hy,p⟩
   rw[e]at this;cases this
  ·exact h.step0 hl c h0
theorem dJ.done(h:dJ l R t)(c:¬t<l.length)(tr:∀x y z,R x y→R y z→R x z):l.Pairwise R:=by
 obtain⟨k,rfl,hk,ha⟩:=h
 rw[List.pairwise_iff_getElem]
 have key:∀d i,(hi:i+d+1<l.length)→R (l[i]'(by omega)) l[i+d+1]:=by
  intro d
  induction d with
  | zero=>intro i hi;exact ha i _ _ (by omega) (List.getElem?_eq_getElem (by omega)) (List.getElem?_eq_getElem hi)
  | succ d ih =>
   intro i hi
   exact tr _ _ _ (ih i (by omega)) (ha (i+d+1) _ _ (by omega) (List.getElem?_eq_getElem (by omega)) (List.getElem?_eq_getElem hi))
 intro i j hi hj hij
 have:=key (j-i-1) i (by omega)
 simp only[show i+(j-i-1)+1=j by omega]at this
 exact this
end
theorem uv{l:List Rtr}(h:l.Pairwise (λx y=>x.id<y.id)){i j:Nat}(hij:i<j){x y:Rtr}(hx:l[i]?=some x)(hy:l[j]?=some y):x.id<y.id:=by
 have hi:=aq hx
 have hj:=aq hy
 rw[List.getElem?_eq_getElem hi]at hx
 rw[List.getElem?_eq_getElem hj]at hy
 have:=List.pairwise_iff_getElem.mp h i j hi hj hij
 rw[Option.some.inj hx,Option.some.inj hy]at this
 exact this
theorem sf(l:List Rtr):l.any jH=true↔¬∀x∈l,1≤x.id∧x.id≤99:=by
 rw[List.any_eq_true]
 constructor
 ·rintro⟨x,hx,e⟩ h
  have:=h x hx
  simp[jH,inT,this]at e
 ·intro h
  refine Classical.byContradiction λq=>h λx hx=>?_
  have:¬jH x=true:=λe=>q ⟨x,hx,e⟩
  simp[jH,inT]at this
  omega
theorem tX(l:List Lnk):l.any jZ=true↔¬∀x∈l,gV x:=by
 rw[List.any_eq_true]
 have key:∀x:Lnk,jZ x=true↔¬gV x:=λx=>by
  unfold jZ gV inT gE
  simp
  omega
 constructor
 ·rintro⟨x,hx,e⟩ h
  exact(key x).mp e (h x hx)
 ·intro h
  exact Classical.byContradiction λq=>h λx hx=>Classical.byContradiction λr=>q ⟨x,hx,(key x).mpr r⟩
theorem uy(l:List Lnk):l.any kR=true↔¬∀x∈l,x.a<x.b:=by
 rw[List.any_eq_true]
 constructor
 ·rintro⟨x,hx,e⟩ h
  have:=h x hx
  simp[kR]at e;omega
 ·intro h
  exact Classical.byContradiction λq=>h λx hx=>Classical.byContradiction λr=>q ⟨x,hx,by simp[kR];omega⟩
theorem mP{l:List Rtr}(h:l.Pairwise λx y=>x.id<y.id)(r:Int):(lw l r=l.any (eqR r))∧∀x∈l,eqR r x=true→l[lW l r]?=some x:=by
 refine B3 (λa b x y hab hx hy e=>?_) (λx e=>?_) λa b x y hab hx hy e=>?_
 ·have:=uv h hab hx hy
  simp[ltR]at e ⊢;omega
 ·simp[eqR]at e;simp[ltR];omega
 ·have:=uv h hab hx hy
  simp[eqR]at e;simp[ltR];omega
theorem rR{t:Tpl}(h:t.rs.Pairwise λx y=>x.id<y.id):(t.ls.any λy=>gS y t)=true↔¬∀l∈t.ls,aI t l.a=true∧aI t l.b=true:=by
 have key:∀l:Lnk,gS l t=true↔¬(aI t l.a=true∧aI t l.b=true):=λl=>by
  unfold gS uP
  rw[(mP h l.a).1,(mP h l.b).1]
  show(!aI t l.a || !aI t l.b)=true↔_
  cases aI t l.a<;>cases aI t l.b<;>simp
 rw[List.any_eq_true]
 constructor
 ·rintro⟨x,hx,e⟩ q
  exact(key x).mp e (q x hx)
 ·intro q
  exact Classical.byContradiction λq2=>q λx hx=>Classical.byContradiction λr=>q2 ⟨x,hx,(key x).mpr r⟩
def Gl(t:Tpl):=okL [.agg [.sl 2 (t.rs.map Rtr.v) false,.sl 5 (t.ls.map Lnk.v) false]]
def KE(t:Tpl)(t0:Bool):NF:=⟨[(1,.k,.ref 0 0),(6,.k,.bool t0)],[.box (.agg [.sl 2 (t.rs.map Rtr.v) false,.sl 5 (t.ls.map Lnk.v) false])]⟩
def KD(t:Tpl)(t1:Int):NF:=⟨[(1,.k,.ref 0 0),(23,.k,.int ((t.rs.map Rtr.v).length:Int)),(24,.k,.int t1)],[.box (.agg [.sl 2 (t.rs.map Rtr.v) false,.sl 5 (t.ls.map Lnk.v) false])]⟩
def KC(t:Tpl)(t1:Int)(t2:Bool):NF:=⟨[(1,.k,.ref 0 0),(23,.k,.int ((t.rs.map Rtr.v).length:Int)),(24,.k,.int t1),(44,.k,.bool t2)],[.box (.agg [.sl 2 (t.rs.map Rtr.v) false,.sl 5 (t.ls.map Lnk.v) false])]⟩
def KB(t:Tpl)(t3:Int):NF:=⟨[(1,.k,.ref 0 0),(62,.k,.int ((t.ls.map Lnk.v).length:Int)),(63,.k,.int t3)],[.box (.agg [.sl 2 (t.rs.map Rtr.v) false,.sl 5 (t.ls.map Lnk.v) false])]⟩
def KA(t:Tpl)(t3:Int)(t4:Bool):NF:=⟨[(1,.k,.ref 0 0),(62,.k,.int ((t.ls.map Lnk.v).length:Int)),(63,.k,.int t3),(82,.k,.bool t4)],[.box (.agg [.sl 2 (t.rs.map Rtr.v) false,.sl 5 (t.ls.map Lnk.v) false])]⟩
@[reducible] def Gj:Nat→Type
 | 0=>Bool
 | 1=>Int
 | 2=>Bool
 | 3=>Int
 | 4=>Bool
 | _=>Unit
def yg(r:Int):AV:=.int r
def yf(t:Tpl)(I0:Bool→Prop)(I1:Bool→Int→Prop)(m1:Bool→Int→Nat)(I2:Bool→Int→Bool→Prop)(I3:Bool→Int→Int→Prop)(m3:Bool→Int→Int→Nat)(I4:Bool→Int→Int→Bool→Prop):Ax Tryz.prog Gj (Int):=
 (.pass (.pass (.join 0 (KE t) (λ(t0:Bool)=>I0 t0) (λb0=>(.br 112 (decide (24<((t.rs.map Rtr.v).length:Int))) (.bk 0 b0 ((true):Bool) [0])
(.bk 0 b0 ((decide (60<((t.ls.map Lnk.v).length:Int))):Bool) [0]))) λ(t0:Bool) =>
(.br 1 t0 (.ret (3))
(.callP (It t.rs)
(.br 65 ((t.rs).any jH) (.ret (2))
(.loop 1 (KD t) (I1 t0) (m1 t0) ((0):Int) [0] λ(t1:Int) b1 =>
(.br 17 (decide (t1<((t.rs.map Rtr.v).length:Int))) (.pass (.pass (.join 2 (KC t t1) (λ(t2:Bool)=>I2 t0 t1 t2) (λb2=>(.br 97 (decide (0<t1)) (.el 161 Rtr.v t.rs (λR=>Rf (t.rs.map Rtr.v) (ck (decide (0≤(W (t1-1)))) (ck (decide ((W (t1-1))<(t.rs.length:Int)))
(∀x1,t.rs[(W (t1-1)).toNat]?=some x1 →
(R x1))))) λx1 =>
(.el 257 Rtr.v t.rs (λR=>Rf (t.rs.map Rtr.v) (ck (decide (0≤t1)) (ck (decide (t1<(t.rs.length:Int)))
(∀x2,t.rs[t1.toNat]?=some x2 →
(R x2))))) λx2 =>
(.bk 2 b2 ((decide (x2.id≤x1.id)):Bool) [0])))
(.bk 2 b2 ((false):Bool) [0]))) λ(t2:Bool) =>
(.br 1 t2 (.ret (25))
(.bk 1 b1 ((W (t1+1)):Int) [0])))))
(.callP (Ko t.ls)
(.br 129 ((t.ls).any jZ) (.ret (2))
(.handQ 0 (LV t) [0,33] ((LU t ((t).ls.any λy=>gS y t)).st) CY ((t).rs.length≤1000000) (unk_h t)
(.br 1 (t.ls.any λy=>gS y t) (.ret (4))
(.callP (LN t.ls)
(.br 65 ((t.ls).any kR) (.ret (8))
(.loop 3 (KB t) (I3 t0 t1) (m3 t0 t1) ((0):Int) [0] λ(t3:Int) b3 =>
(.br 17 (decide (t3<((t.ls.map Lnk.v).length:Int))) (.pass (.pass (.join 4 (KA t t3) (λ(t4:Bool)=>I4 t0 t1 t3 t4) (λb4=>(.br 97 (decide (0<t3)) (.el 161 Lnk.v t.ls (λR=>Rf (t.ls.map Lnk.v) (ck (decide (0≤(W (t3-1)))) (ck (decide ((W (t3-1))<(t.ls.length:Int)))
(∀x3,t.ls[(W (t3-1)).toNat]?=some x3 →
(R x3))))) λx3 =>
(.el 241 Lnk.v t.ls (λR=>Rf (t.ls.map Lnk.v) (ck (decide (0≤t3)) (ck (decide (t3<(t.ls.length:Int)))
(∀x4,t.ls[t3.toNat]?=some x4 →
(R x4))))) λx4 =>
(.callP (xU x3 x4)
(.bk 4 b4 ((decide (0≤(rb x3 x4))):Bool) [0]))))
(.bk 4 b4 ((false):Bool) [0]))) λ(t4:Bool) =>
(.br 1 t4 (.ret (25))
(.bk 3 b3 ((W (t3+1)):Int) [0])))))
(.ret (0))))))))))))))))))
def By(t:Tpl)(I0:Bool→Prop)(I1:Bool→Int→Prop)(m1:Bool→Int→Nat)(I2:Bool→Int→Bool→Prop)(I3:Bool→Int→Int→Prop)(m3:Bool→Int→Int→Nat)(I4:Bool→Int→Int→Bool→Prop)(r0:Int):=(yf t I0 I1 m1 I2 I3 m3 I4).vp yg r0
theorem P5(t:Tpl)(ok:Gl t):∃I0 I1 m1 I2 I3 m3 I4,By t I0 I1 m1 I2 I3 m3 I4 (aJ t):=by
 refine⟨λb=>b=decide (24<t.rs.length∨60<t.ls.length),λ_ i=>dJ t.rs (λx y=>x.id<y.id) i,λ_ i=>t.rs.length-i.toNat,
  λ_ i b=>b=true↔0<i∧∃x y,t.rs[(W (i-1)).toNat]?=some x∧t.rs[i.toNat]?=some y∧¬x.id<y.id,λ_ _ i=>dJ t.ls cX i,λ_ _ i=>t.ls.length-i.toNat,
  λ_ _ i b=>b=true↔0<i∧∃x y,t.ls[(W (i-1)).toNat]?=some x∧t.ls[i.toNat]?=some y∧¬cX x y,?_⟩
 simp only[Gl,okU,Blk.ok,aK,List.length_map]at ok
 dsimp only[By,yf,Gj,Ax.vp,Ax.vc];simp only[vcU,rfU,List.length_map]
 refine⟨⟨λc=>(decide_eq_true (.inl (by omega))).symm,λc=>decide_eq_decide.mpr (by omega)⟩,?_⟩
 rintro _ rfl
 unfold aJ
 refine⟨λc=>by rw[if_pos (of_decide_eq_true c)],λc=>?_⟩
 have c:=of_decide_eq_false c
 rw[if_neg c]
 refine⟨λd=>by rw[if_pos ((sf _).mp d)],λd=>?_⟩
 have d:∀x∈t.rs,1≤x.id∧x.id≤99:=Classical.byContradiction λq=>by rw[(sf _).mpr q]at d;cases d
 rw[if_neg (not_not_intro d)]
 refine⟨dJ.zero,λi h=>⟨λc1=>⟨⟨λh0=>?_,λh0=>?_⟩,λb hb=>?_⟩,λc1=>?_⟩⟩
 ·obtain⟨g1,g2⟩:=h.rng (by omega) h0 c1
  refine⟨g1,g2,λx hx=>⟨h.idx,c1,λy hy=>⟨λe=>⟨h0,x,y,hx,hy,by omega⟩,?_⟩⟩⟩
  rintro⟨_,x',y',hx',hy',p⟩
  rw[hx]at hx';cases hx';rw[hy]at hy';cases hy';omega
 ·exact⟨nofun,λe=>absurd e.1 h0⟩
 ·obtain⟨n1,n2⟩:=h.next (by omega) c1 hb
  exact⟨λe=>by rw[if_pos (n1 e)],n2⟩
 have hP:=h.done c1 λ_ _ _ q r=>Int.lt_trans q r
 rw[if_neg (not_not_intro hP)]
 refine⟨λe=>by rw[if_pos ((tX _).mp e)],λe=>?_⟩
 have e:∀x∈t.ls,gV x:=Classical.byContradiction λq=>by rw[(tX _).mpr q]at e;cases e
 rw[if_neg (not_not_intro e)]
 refine⟨by omega,λf=>by rw[if_pos ((rR hP).mp f)],λf=>?_⟩
 have f:∀l∈t.ls,aI t l.a=true∧aI t l.b=true:=Classical.byContradiction λq=>by rw[(rR hP).mpr q]at f;cases f
 rw[if_neg (not_not_intro f)]
 refine⟨λg=>by rw[if_pos ((uy _).mp g)],λg=>?_⟩
 have g:∀x∈t.ls,x.a<x.b:=Classical.byContradiction λq=>by rw[(uy _).mpr q]at g;cases g
 rw[if_neg (not_not_intro g)]
 refine⟨dJ.zero,λi h=>⟨λc1=>⟨⟨λh0=>?_,λh0=>?_⟩,λb hb=>?_⟩,λc1=>?_⟩⟩
 ·obtain⟨g1,g2⟩:=h.rng (by omega) h0 c1
  refine⟨g1,g2,λx hx=>⟨h.idx,c1,λy hy=>⟨λe=>⟨h0,x,y,hx,hy,λq=>by have:=(lE x y).mpr q;omega⟩,?_⟩⟩⟩
  rintro⟨_,x',y',hx',hy',p⟩
  rw[hx]at hx';cases hx';rw[hy]at hy';cases hy'
  exact Classical.byContradiction λq=>p ((lE x y).mp (by omega))
 ·exact⟨nofun,λe=>absurd e.1 h0⟩
 ·obtain⟨n1,n2⟩:=h.next (by omega) c1 hb
  exact⟨λe=>by rw[if_pos (n1 e)],n2⟩
 ·rw[if_neg (not_not_intro (h.done c1 λ_ _ _ q r=>by unfold cX at *;omega))]
def Gk(t:Tpl):PC Tryz.prog:=⟨151,[(.a [(.s 2),(.s 5)])],[.agg [.sl 2 (t.rs.map Rtr.v) false,.sl 5 (t.ls.map Lnk.v) false]],yg (aJ t),aw.of_ok λok=>(P5 t ok).elim λI0 h=>h.elim λI1 h=>h.elim λm1 h=>h.elim λI2 h=>h.elim λI3 h=>h.elim λm3 h=>h.elim λI4 h=>av (sh:=.k) (enc:=yg) (a:=(yf t I0 I1 m1 I2 I3 m3 I4).an) h (by kernel_rfl) (AV.pureB_ok rfl),ap (by kernel_rfl)⟩
def ie(t:Tpl):Bool:=aJ t==0
def Mr(t:Tpl):=okL [.agg [.sl 2 (t.rs.map Rtr.v) false,.sl 5 (t.ls.map Lnk.v) false]]
def uJ(r:Bool):AV:=.bool r
def uI(t:Tpl):Ax Tryz.prog noS (Bool):=
 (.callP (Gk t)
(.ret ((aJ t)==0)))
def yV(t:Tpl)(r0:Bool):=(uI t).vp uJ r0
theorem Mq(t:Tpl)(ok:Mr t):yV t (ie t):=by
 dsimp only[yV,uI,noS,Ax.vp,Ax.vc];simp only[vcU,rfU,List.length_map]
 rfl
def uK(t:Tpl):PC Tryz.prog:=⟨121,[(.a [(.s 2),(.s 5)])],[.agg [.sl 2 (t.rs.map Rtr.v) false,.sl 5 (t.ls.map Lnk.v) false]],uJ (ie t),aw.of_ok λok=>av (sh:=.k) (enc:=uJ) (a:=(uI t).an) (Mq t ok) (by kernel_rfl) (AV.pureB_ok rfl),ap (by kernel_rfl)⟩
def Fr(i:Nat):Nat:=1000+i
theorem o4{i b:Nat}(hb:b<1000):(Fr i=b)=False:=by unfold Fr;simp;omega
theorem bF{i b:Nat}(hb:b<1000):(b=Fr i)=False:=by unfold Fr;simp;omega
theorem gR{i b:Nat}(hi:i<1000)(hb:2000≤b):(Fr i=b)=False:=by unfold Fr;simp;omega
theorem rJ{i j:Nat}:(Fr i=Fr j)=(i=j):=by unfold Fr;simp
def eQ(bs fs:Nat→Nat)(b:Nat):Nat:=if 1000≤b∧b<2000 then fs (b-1000)else bs b
theorem jr{bs fs:Nat→Nat}{i:Nat}(h:i<1000):eQ bs fs (Fr i)=fs i:=by unfold eQ Fr;rw[if_pos (by omega),show 1000+i-1000=i by omega]
theorem ez{bs fs:Nat→Nat}{b:Nat}(h:b<1000):eQ bs fs b=bs b:=if_neg (by omega)
section
variable {ρ : Type} (kk : Nat) (v : ρ → AV)
def GR(rows:List (List ρ))(h:Hp):Hp:=λb=>if 1000≤b∧b<2000 then(rows[b-1000]?).map (λr=>Blk.vec kk (r.map v))else h b
variable {kk v}
theorem lk{rows:List (List ρ)}{h:Hp}{b:Nat}(hb:b<1000):GR kk v rows h b=h b:=if_neg (by omega)
theorem gM{rows:List (List ρ)}{h:Hp}{i:Nat}{r:List ρ}(hr:rows[i]?=some r)(hl:rows.length≤1000):GR kk v rows h (Fr i)=some (.vec kk (r.map v)):=by
 have:i<rows.length:=(List.getElem?_eq_some_iff.mp hr).1
 unfold GR Fr
 rw[if_pos (by omega),show 1000+i-1000=i by omega,hr];rfl
theorem ay.nfR(hpu:∀x,(v x).pureB=true){k n:Nat}{tm:Nat→AV}{hp:Hp}{nx:Nat}(rows:List (List ρ))(ts:List (Nat×AV))(hs:List (Option Blk))(bs fs:Nat→Nat)
    (hT:∀p∈ts,tm p.1=p.2.ren (eQ bs fs)∧p.2.bel 2000) (hH:∀i x,hs[i]?=some (some x)→hp (bs i)=some (x.ren (eQ bs fs))∧x.bel 2000)
    (hl:hs.length≤1000) (hr:rows.length≤1000) (hR:∀i r,rows[i]?=some r→hp (fs i)=some (.vec kk (r.map v)))
    (h1:∀i j,i<hs.length→j<hs.length→bs i=bs j→i=j) (h2:∀i j,i<rows.length→j<rows.length→fs i=fs j→i=j) (h3:∀i j,i<hs.length→j<rows.length→bs i≠fs j)
    (hk:∀b,b<k→bs b=b) (hkl:k≤1000):ay k n ⟨tm,hp,nx⟩ ⟨cu ts,GR kk v rows (hpL 0 hs),2000⟩:=by
  have pur:∀r:List ρ,aR (r.map v):=λr=>aB (ab hpu r)
  have low:∀{b x},hpL 0 hs b=some x→hs[b]?=some (some x):=λ{b x} e=>by
    rw[wJ,if_pos (Nat.zero_le _),Nat.sub_zero]at e
    cases e':hs[b]? with
    | none=>rw[e']at e;cases e
    | some y=>rw[e']at e;exact congrArg some e
  have cls:∀{b x},GR kk v rows (hpL 0 hs) b=some x→(∃i r,b=Fr i∧i<rows.length∧rows[i]?=some r∧x=.vec kk (r.map v))∨(b<hs.length∧hs[b]?=some (some x)):=λ{b x} e=>by
    unfold GR at e
    split at e
    · rename_i hb
      obtain⟨r,hr,rfl⟩:=Option.map_eq_some_iff.mp e
      exact .inl ⟨b-1000,r,by unfold Fr;omega,(List.getElem?_eq_some_iff.mp hr).1,hr,rfl⟩
    · have:=low e
      exact .inr ⟨(List.getElem?_eq_some_iff.mp this).1,this⟩
  refine ay.ren (eQ bs fs) (λt=>?_) (λb x e=>?_) (λb b' e e' he=>?_) (λb hb=>?_) (by show k≤2000;omega)
  · show cu ts t=.unk∨(tm t=(cu ts t).ren _∧(cu ts t).bel 2000)
    clear hH hR h1 h2 h3 cls low hl
    induction ts with
    | nil=>exact .inl rfl
    | cons p l ih =>
      obtain⟨t',x⟩:=p
      by_cases ht:t=t'
      · subst ht
        have:=hT (t,x) (by simp)
        simp only[cu,↓reduceIte]
        exact .inr this
      · have:=ih (λp hp=>hT p (by simp[hp]))
        simp only[cu,if_neg ht]
        exact this
  · show b<2000∧hp (eQ bs fs b)=some (x.ren (eQ bs fs))∧x.bel 2000
    rcases cls e with⟨i,r,rfl,hi,hr',rfl⟩|⟨hb,e⟩
    · refine⟨by unfold Fr;omega,?_,aQ (pur r)⟩
      rw[jr (by omega),hR i r hr',Blk.ren,aT _ (pur r)]
    · obtain⟨g1,g2⟩:=hH b x e
      exact⟨by omega,by rw[ez (by omega)];exact g1,g2⟩
  · have c1:∀{b},GR kk v rows (hpL 0 hs) b≠none→(∃i,b=Fr i∧i<rows.length)∨b<hs.length:=λ{b} e=>by
      cases q:GR kk v rows (hpL 0 hs) b with
      | none=>exact absurd q e
      | some x => rcases cls q with ⟨i, r, g1, g2, _⟩ | ⟨g, _⟩
                  · exact .inl ⟨i,g1,g2⟩
                  · exact .inr g
    rcases c1 e with⟨i,rfl,hi⟩|hb<;>rcases c1 e' with⟨j,rfl,hj⟩|hb'
    · rw[jr (by omega),jr (by omega)]at he
      rw[h2 i j hi hj he]
    · rw[jr (by omega),ez (by omega)]at he
      exact absurd he.symm (h3 b' i hb' hi)
    · rw[ez (by omega),jr (by omega)]at he
      exact absurd he (h3 b j hb hj)
    · rw[ez (by omega),ez (by omega)]at he
      exact h1 b b' hb hb' he
  · rw[ez (by omega)];exact hk b hb
end
theorem ay.nilvecM{k n:Nat}{tm:Nat→AV}{hp:Hp}{nx:Nat}{kq:Option Nat}{ks:List MK}{vs:List AV}(b0 i kk k':Nat)(hb:hp b0=some (.map kq ks vs))(h:vs[i]?=some (.sl kk [] true))(hk:k≤nx) :
  ay k n ⟨tm,hp,nx⟩ ⟨tm,upd (upd hp b0 (some (.map kq ks (vs.set i (.vec nx))))) nx (some (.vec k' [])),nx+1⟩:=by
 rintro P c a w ⟨h0,A,μ,H⟩
 obtain⟨hd0,q1,⟨q2,ents,ck,q3,q4,q5,q6⟩,q8⟩:=H.blk b0 _ hb
 have hi:i<vs.length:=(List.getElem?_eq_some_iff.mp h).1
 have hv0:=(RVL.length q5)
 obtain⟨vi,hvi⟩:∃vi,(ents.toList.map (·.val))[i]?=some vi:=⟨(ents.toList.map (·.val))[i]'(by omega),List.getElem?_eq_getElem (by omega)⟩
 obtain⟨ad,hv⟩:=RV.nilsl (RVL.get2 q5 h hvi)
 obtain⟨f1,f2⟩:μ nx=none∧hp nx=none:=H.fr nx (Nat.le_refl _)
 let hd:Hd:=⟨some ad,0,k',0,0⟩
 have hne:b0≠nx:=λe=>by subst e;rw[f2]at hb;cases hb
 have hle:bu μ (upd μ nx (some hd)):=by
  intro b hd' e
  by_cases g:b=nx
  ·subst g;rw[f1]at e;cases e
  ·rw[aj _ _ g];exact e
 have key:=H.add nx f2 (upd μ nx (some hd)) hle (λb hb=>aj _ _ hb) hd (ai _ _ _) (.vec k' []) ⟨rfl,.inl ⟨rfl,rfl⟩⟩ (λe=>by cases e) (λ_ _ _ _ _ _ e=>by cases e)
 have hswap:upd (upd hp b0 (some (.map kq ks (vs.set i (.vec nx))))) nx (some (.vec k' []))=upd (upd hp nx (some (.vec k' []))) b0 (some (.map kq ks (vs.set i (.vec nx)))):=by
  funext b
  by_cases e1:b=b0
  ·subst e1;rw[ai,aj _ _ hne,ai]
  ·rw[aj _ _ e1]
   by_cases e2:b=nx
   ·subst e2;rw[ai,ai]
   ·rw[aj _ _ e2,aj _ _ e1,aj _ _ e2]
 rw[hswap]
 have hb1:upd hp nx (some (.vec k' [])) b0=some (.map kq ks vs):=by rw[aj _ _ hne];exact hb
 have fin:=key.say hb1 (y:=.map kq ks (vs.set i (.vec nx))) λhd1 e1 e2=>by
  obtain⟨r2,ents',ck',r3,r4,r5,r6⟩:=e2
  rw[hle _ _ q1]at e1;cases e1
  rw[q3]at r3;cases r3
  refine⟨r2,ents,ck,q3,q4,RVL.setAt r5 hvi ⟨hd,ai _ _ _,hv⟩,λx hx=>?_⟩
  rcases List.mem_or_eq_of_mem_set hx with hx|rfl
  ·exact q6 x hx
  ·rfl
 exact⟨h0,A,upd μ nx (some hd),fin.free λb hb=>⟨show nx≤b by have:nx+1≤b:=hb;omega,by have:nx+1≤b:=hb;omega⟩⟩
def relx(cost:Int)(out:Dis)(op:Dis)(s:Stp):Dis:=
 if aU out s.to=true then op else if(aU op s.to=false∨W (cost+s.cost)<az op s.to 0)then bi op s.to (W (cost+s.cost))else op
def CE(L:Lks):Nat→Dis→Dis→Dis
 | 0,out,_=>out
 | n+1,out,op=>if op=[]then out else
   if(bi out (bst op) (az op (bst op) 0)).length=L.length then bi out (bst op) (az op (bst op) 0)
   else CE L n (bi out (bst op) (az op (bst op) 0)) ((az L (bst op) []).foldl (relx (az op (bst op) 0) (bi out (bst op) (az op (bst op) 0))) (mdl op (bst op)))
def cr(L:Lks)(f:Int):Dis:=if aU L f=true then CE L L.length [] (bi [] f 0)else []
def zZ(L:Lks):Prop:=L.length≤1000000∧(au L).Nodup∧(∀x∈au L,x≠0∧-9223372036854775808≤x∧x≤9223372036854775807)∧∀p∈L,p.2.length≤1000000∧∀s∈p.2,s.to∈au L
structure j6 (L:Lks) (out op:Dis):Prop where
  no:(au out).Nodup
  np:(au op).Nodup
  ko:∀x∈au out,x∈au L
  kp:∀x∈au op,x∈au L
  di:∀x∈au op,x ∉ au out
theorem c9{α β:Type}(l:List (α×β)):(au l).length=l.length:=List.length_map _
theorem j6.len1{L:Lks}{out op:Dis}(h:j6 L out op):out.length≤L.length:=by
 have:=List.Nodup.length_le_of_subset h.no h.ko
 rwa [c9,c9]at this
theorem j6.len2{L:Lks}{out op:Dis}(h:j6 L out op):op.length≤L.length:=by
 have:=List.Nodup.length_le_of_subset h.np h.kp
 rwa [c9,c9]at this
theorem G9{op:Dis}(h:op≠[]):∃c,(bst op,c)∈op∧∀x∈op,¬bfr x (bst op,c):=by
 obtain⟨b,h1,h2,h3⟩:=kP h
 have:bst op=b.1:=by unfold bst;rw[h1]
 rw[this]
 exact⟨b.2,h2,h3⟩
theorem Lo{op:Dis}(h:op≠[]):bst op∈au op:=by
 obtain⟨c,h1,_⟩:=G9 h
 exact aP.mpr ⟨c,h1⟩
theorem j6.pop{L:Lks}{out op:Dis}(h:j6 L out op){b c:Int}(hb:b∈au op):j6 L (bi out b c) (mdl op b)∧(bi out b c).length=out.length+1:=by
 have hbo:=h.di b hb
 refine⟨⟨dI h.no,Cf h.np,λx hx=>?_,λx hx=>?_,λx hx hx2=>?_⟩,?_⟩
 ·obtain⟨v,hv⟩:=aP.mp hx
  rcases(bK h.no).mp hv with e|⟨e,_⟩
  ·cases e;exact h.kp _ hb
  ·exact h.ko _ (aP.mpr ⟨_,e⟩)
 ·obtain⟨v,hv⟩:=aP.mp hx
  exact h.kp _ (aP.mpr ⟨_,((pQ h.np).mp hv).1⟩)
 ·obtain⟨v,hv⟩:=aP.mp hx
  obtain⟨v2,hv2⟩:=aP.mp hx2
  obtain⟨q1,q2⟩:=(pQ h.np).mp hv
  rcases(bK h.no).mp hv2 with e|⟨e,_⟩
  ·cases e;exact q2 rfl
  ·exact h.di _ (aP.mpr ⟨_,q1⟩) (aP.mpr ⟨_,e⟩)
 ·rw[ED,if_neg]
  unfold aU;simpa using hbo
theorem j6.relx{L:Lks}{out op:Dis}(h:j6 L out op){c:Int}{s:Stp}(hs:s.to∈au L):j6 L out (relx c out op s):=by
 unfold Go.Proofs.YtdbdndmdbbihbaaGreat.relx
 split
 ·exact h
 rename_i h1
 have h1:s.to ∉ au out:=by unfold aU at h1;simpa using h1
 split
 ·refine⟨h.no,dI h.np,h.ko,λx hx=>?_,λx hx=>?_⟩
  all_goals
   obtain⟨v,hv⟩:=aP.mp hx
   rcases(bK h.np).mp hv with e|⟨e,_⟩
  ·cases e;exact hs
  ·exact h.kp _ (aP.mpr ⟨_,e⟩)
  ·cases e;exact h1
  ·exact h.di _ (aP.mpr ⟨_,e⟩)
 ·exact h
theorem j6.fold{L:Lks}{out:Dis}{c:Int}:∀{l:List Stp} {op:Dis},j6 L out op→(∀s∈l,s.to∈au L)→j6 L out (l.foldl (Go.Proofs.YtdbdndmdbbihbaaGreat.relx c out) op)
 | [],op,h,_=>h
 | s::l,op,h,hs=>(h.relx (hs s (by simp))).fold λx hx=>hs x (by simp[hx])
def OU(links:(List (Int×List Stp)))(from_:Int):=okL [.mp none (links.map λp:Int×List Stp=>MK.n p.1) (links.map λp:Int×List Stp=>(λl:List Stp=>AV.sl 2 (l.map Stp.v) false) p.2),.int from_]
def Ke(links:(List (Int×List Stp)))(t0:(List (Int×Int))×(List (Int×Int))):NF:=⟨[(0,.k,.mp none (links.map λp:Int×List Stp=>MK.n p.1) (links.map λp:Int×List Stp=>(λl:List Stp=>AV.sl 2 (l.map Stp.v) false) p.2)),(5,.k,.mref 0),(8,.k,.mref 1)],[.map none (t0.2.map λp=>MK.n p.1) (t0.2.map λp=>AV.int p.2) (ab (λ_=>rfl) _),.map none (t0.1.map λp=>MK.n p.1) (t0.1.map λp=>AV.int p.2) (ab (λ_=>rfl) _)]⟩
def Kd(links:(List (Int×List Stp)))(t0:(List (Int×Int))×(List (Int×Int)))(t1:Int×(List (Int×Int))):NF:=⟨[(0,.k,.mp none (links.map λp:Int×List Stp=>MK.n p.1) (links.map λp:Int×List Stp=>(λl:List Stp=>AV.sl 2 (l.map Stp.v) false) p.2)),(5,.k,.mref 0),(8,.k,.mref 1),(12,.k,.int (az t0.1 (bst t0.1) 0)),(79,.k,.sl 2 ((az links (bst t0.1) []).map Stp.v) false),(80,.k,.int (((az links (bst t0.1) []).map Stp.v).length:Int)),(81,.k,.int t1.1)],[.map none ((bi t0.2 (bst t0.1) (az t0.1 (bst t0.1) 0)).map λp=>MK.n p.1) ((bi t0.2 (bst t0.1) (az t0.1 (bst t0.1) 0)).map λp=>AV.int p.2) (ab (λ_=>rfl) _),.map none (t1.2.map λp=>MK.n p.1) (t1.2.map λp=>AV.int p.2) (ab (λ_=>rfl) _)]⟩
def Kc(links:(List (Int×List Stp)))(t0:(List (Int×Int))×(List (Int×Int)))(t1:Int×(List (Int×Int)))(x1:Stp)(t2:Bool):NF:=⟨[(0,.k,.mp none (links.map λp:Int×List Stp=>MK.n p.1) (links.map λp:Int×List Stp=>(λl:List Stp=>AV.sl 2 (l.map Stp.v) false) p.2)),(5,.k,.mref 0),(8,.k,.mref 1),(12,.k,.int (az t0.1 (bst t0.1) 0)),(14,.k,.ref 2 0),(79,.k,.sl 2 ((az links (bst t0.1) []).map Stp.v) false),(80,.k,.int (((az links (bst t0.1) []).map Stp.v).length:Int)),(81,.k,.int t1.1),(109,.k,.bool t2)],[.map none ((bi t0.2 (bst t0.1) (az t0.1 (bst t0.1) 0)).map λp=>MK.n p.1) ((bi t0.2 (bst t0.1) (az t0.1 (bst t0.1) 0)).map λp=>AV.int p.2) (ab (λ_=>rfl) _),.map none (t1.2.map λp=>MK.n p.1) (t1.2.map λp=>AV.int p.2) (ab (λ_=>rfl) _),.box (.agg [.int x1.to,.int x1.cost])]⟩
@[reducible] def FS:Nat→Type
 | 0=>(List (Int×Int))×(List (Int×Int))
 | 1=>Int×(List (Int×Int))
 | 2=>Bool
 | _=>Unit
def xy(r:(List (Int×Int))):AV:=.mp none (r.map λp:Int×Int=>MK.n p.1) (r.map λp:Int×Int=>AV.int p.2)
def xx(links:(List (Int×List Stp)))(from_:Int)(I0:((List (Int×Int))×(List (Int×Int)))→Prop)(m0:((List (Int×Int))×(List (Int×Int)))→Nat)(I1:(List (Int×Int))×(List (Int×Int))→(Int×(List (Int×Int)))→Prop)(m1:(List (Int×Int))×(List (Int×Int))→(Int×(List (Int×Int)))→Nat)(I2:(List (Int×Int))×(List (Int×Int))→Int×(List (Int×Int))→Stp→Bool→Prop):Ax Tryz.prog FS ((List (Int×Int))):=
 (.mn 80 (EF false (λl:List Stp=>AV.sl 2 (l.map Stp.v) false) links from_ []) (.br 80 (aU links from_) (.mn 240 (pP AV.int ([]:List (Int×Int)) from_ 0) (.loop 0 (Ke links) I0 m0 (bi ([]:List (Int×Int)) from_ 0,([]:List (Int×Int))) [16,208] λ(t0:(List (Int×Int))×(List (Int×Int))) b0 =>
(.say (ck (decide ((t0.1.map λp=>MK.n p.1).length≤maxLen))) (.br 50 (decide (0<((t0.1.map λp=>MK.n p.1).length:Int))) (.pass (.handQ 0 (AM links t0.2 t0.1 0) [0,1] ((AM links t0.2 t0.1 (bst t0.1)).st) FC (E0 t0.1) (dst_h links t0.2 t0.1)
(.mn 34 (kB AV.int t0.1 (bst t0.1) 0) (.mn 98 (NI AV.int t0.1 (bst t0.1)) (.mn 162 (pP AV.int t0.2 (bst t0.1) (az t0.1 (bst t0.1) 0)) (.say (λR=>ck (decide (((bi t0.2 (bst t0.1) (az t0.1 (bst t0.1) 0)).map λp=>MK.n p.1).length≤maxLen))
((ck (decide ((links.map λp=>MK.n p.1).length≤maxLen))
R))) (.br 258 ((((bi t0.2 (bst t0.1) (az t0.1 (bst t0.1) 0)).map λp=>MK.n p.1).length:Int)==((links.map λp=>MK.n p.1).length:Int)) (.say (Rf ((bi t0.2 (bst t0.1) (az t0.1 (bst t0.1) 0)).map λp=>AV.int p.2)) (.cmdL (.frzM 0 ((bi t0.2 (bst t0.1) (az t0.1 (bst t0.1) 0)).map λp=>AV.int p.2) (ab (λ_=>rfl) _)) (.ret (bi t0.2 (bst t0.1) (az t0.1 (bst t0.1) 0)))))
(.mn 290 (EF true (λl:List Stp=>AV.sl 2 (l.map Stp.v) false) links (bst t0.1) []) (.say (ck (aU links (bst t0.1))) (.loop 1 (Kd links t0) (I1 t0) (m1 t0) (0,mdl t0.1 (bst t0.1)) [0,1] λ(t1:Int×(List (Int×Int))) b1 =>
(.br 18 (decide (t1.1<(((az links (bst t0.1) []).map Stp.v).length:Int))) (.el 18 Stp.v (az links (bst t0.1) []) (λR=>Rf ((az links (bst t0.1) []).map Stp.v) (ck (decide (0≤t1.1)) (ck (decide (t1.1<((az links (bst t0.1) []).length:Int)))
(∀x1,(az links (bst t0.1) [])[t1.1.toNat]?=some x1 →
(R x1))))) λx1 =>
(.mn 130 (kB AV.int (bi t0.2 (bst t0.1) (az t0.1 (bst t0.1) 0)) x1.to 0) (.br 242 (aU (bi t0.2 (bst t0.1) (az t0.1 (bst t0.1) 0)) x1.to) (.bk 1 b1 (W (t1.1+1),t1.2) [0,1])
(.mn 290 (kB AV.int t1.2 x1.to 0) (.join 2 (Kc links t0 t1 x1) (λ(t2:Bool)=>I2 t0 t1 x1 t2) (λb2=>(.br 434 (!(aU t1.2 x1.to)) (.bk 2 b2 ((true):Bool) [0,1,50])
(.bk 2 b2 ((decide ((W ((az t0.1 (bst t0.1) 0)+x1.cost))<(az t1.2 x1.to 0))):Bool) [0,1,50]))) λ(t2:Bool) =>
(.br 3 t2 (.mn 115 (pP AV.int t1.2 x1.to (W ((az t0.1 (bst t0.1) 0)+x1.cost))) (.bk 1 b1 (W (t1.1+1),bi t1.2 x1.to (W ((az t0.1 (bst t0.1) 0)+x1.cost))) [0,1]))
(.bk 1 b1 (W (t1.1+1),t1.2) [0,1])))))))
(.bk 0 b0 (t1.2,bi t0.2 (bst t0.1) (az t0.1 (bst t0.1) 0)) [0,1]))))))))))))
(.say (Rf (t0.2.map λp=>AV.int p.2)) (.cmdL (.frzM 0 (t0.2.map λp=>AV.int p.2) (ab (λ_=>rfl) _)) (.ret (t0.2))))))))
(.say (Rf (([]:List (Int×Int)).map λp=>AV.int p.2)) (.cmdL (.frzM 16 (([]:List (Int×Int)).map λp=>AV.int p.2) (ab (λ_=>rfl) _)) (.ret (([]:List (Int×Int))))))))
def AW(links:(List (Int×List Stp)))(from_:Int)(I0:((List (Int×Int))×(List (Int×Int)))→Prop)(m0:((List (Int×Int))×(List (Int×Int)))→Nat)(I1:(List (Int×Int))×(List (Int×Int))→(Int×(List (Int×Int)))→Prop)(m1:(List (Int×Int))×(List (Int×Int))→(Int×(List (Int×Int)))→Nat)(I2:(List (Int×Int))×(List (Int×Int))→Int×(List (Int×Int))→Stp→Bool→Prop)(r0:(List (Int×Int))):=(xx links from_ I0 m0 I1 m1 I2).vp xy r0
theorem OS(L:Lks)(f:Int)(h:zZ L)(ok:OU L f):∃I0 m0 I1 m1 I2,AW L f I0 m0 I1 m1 I2 (cr L f):=by
 obtain⟨h1,h2,h3,h4⟩:=h
 have hml:=bj
 refine⟨λt=>j6 L t.2 t.1∧t.2.length<L.length∧CE L (L.length-t.2.length) t.2 t.1=cr L f,λt=>L.length-t.2.length,
  λt0 t=>kS (az L (bst t0.1) []) (relx (az t0.1 (bst t0.1) 0) (bi t0.2 (bst t0.1) (az t0.1 (bst t0.1) 0))) (mdl t0.1 (bst t0.1)) t.1 t.2,λt0 t=>(az L (bst t0.1) []).length-t.1.toNat,
  λt0 t x b=>b=decide (aU t.2 x.to=false∨W (az t0.1 (bst t0.1) 0+x.cost)<az t.2 x.to 0),?_⟩
 dsimp only[AW,xx,FS,Ax.vp,Ax.vc];simp only[vcU,rfU,List.length_map]
 refine⟨λc=>⟨?_,?_⟩,λc=>by rw[cr,if_neg (by rw[c];simp)]⟩
 ·have hf:f∈au L:=of_decide_eq_true c
  have h0:0<L.length:=by rw[←c9];exact List.length_pos_of_mem hf
  refine⟨⟨by simp[au],by simp[bi,au],by simp[au],by simp[bi,au];simpa[au]using hf,by simp[au]⟩,h0,by rw[cr,if_pos c];rfl⟩
 rintro⟨op,out⟩ ⟨hI,hlt,hD⟩
 simp only at hI hlt hD ⊢
 have q1:=hI.len1
 have q2:=hI.len2
 obtain⟨n,hn⟩:∃n,L.length-out.length=n+1:=⟨L.length-out.length-1,by omega⟩
 rw[hn,CE]at hD
 refine⟨by omega,λc1=>?_,λc1=>?_⟩
 ·have hne:op≠[]:=λe=>by rw[e]at c1;simp at c1
  rw[if_neg hne]at hD
  have hb:=Lo hne
  obtain⟨hP,hPl⟩:=hI.pop (c:=az op (bst op) 0) hb
  have q3:=hP.len1
  refine⟨λx hx=>h3 _ (hI.kp _ (aP.mpr ⟨x.2,hx⟩)),by omega,by omega,λc2=>?_,λc2=>?_⟩
  ·rw[if_pos (by have:=eq_of_beq c2;omega)]at hD;exact hD
  ·have c2:¬(bi out (bst op) (az op (bst op) 0)).length=L.length:=λe=>by rw[e]at c2;simp at c2
   rw[if_neg c2]at hD
   have hbL:=hI.kp _ hb
   have hst:(az L (bst op) []).length≤1000000∧∀s∈az L (bst op) [],s.to∈au L:=h4 _ (bG (z:=[]) (decide_eq_true hbL))
   refine⟨decide_eq_true hbL,kS.zero,?_⟩
   rintro⟨i,op2⟩ hG
   simp only at hG ⊢
   refine⟨λc3=>⟨hG.idx,c3,λx hx=>⟨λe=>?_,λe=>⟨⟨λe2=>?_,λe2=>?_⟩,?_⟩⟩⟩,λc3=>?_⟩
   ·refine hG.step (by omega) hx ?_
    rw[relx,if_pos e]
   ·rw[show aU op2 x.to=false by simpa using e2];simp
   ·rw[show aU op2 x.to=true by simpa using e2];simp
   ·rintro _ rfl
    refine⟨λe2=>?_,λe2=>?_⟩
    ·refine hG.step (by omega) hx ?_
     rw[relx,if_neg (by rw[e];simp),if_pos (of_decide_eq_true e2)]
    ·refine hG.step (by omega) hx ?_
     rw[relx,if_neg (by rw[e];simp),if_neg (of_decide_eq_false e2)]
   ·have hG:=hG.done c3
    have hF:=hP.fold (c:=az op (bst op) 0) hst.2
    rw[←hG]at hF hD
    have:n=L.length-(bi out (bst op) (az op (bst op) 0)).length:=by omega
    rw[this]at hD
    exact⟨⟨hF,by omega,hD⟩,by omega⟩
 ·have:op=[]:=List.eq_nil_of_length_eq_zero (by omega)
  rw[if_pos this]at hD
  exact hD
def OT(links:(List (Int×List Stp)))(from_:Int)(h:zZ links):PC Tryz.prog:=⟨158,[.k,.k],[.mp none (links.map λp:Int×List Stp=>MK.n p.1) (links.map λp:Int×List Stp=>(λl:List Stp=>AV.sl 2 (l.map Stp.v) false) p.2),.int from_],xy (cr links from_),aw.of_ok λok=>(OS links from_ h ok).elim λI0 h=>h.elim λm0 h=>h.elim λI1 h=>h.elim λm1 h=>h.elim λI2 h=>av (sh:=.k) (enc:=xy) (a:=(xx links from_ I0 m0 I1 m1 I2).an) h (by kernel_rfl) (AV.pureB_ok rfl),ap (by kernel_rfl)⟩
theorem bC{kk:Option Nat}{m k x:AO}{f:Nat}{ρ:AO→AV}{hp:Hp}:evA (.mset kk m k x) f ρ hp=match ρ m with
    | .mref b=>match hp b,(ρ k).key with
      | some (.map kk' ks vs),some q=>{ c:=kk'=kk∧q.fits kk∧(ρ x).solid=true,rm:=some b,ad:=some (b,d8 kk ks vs q (ρ x)) }
      | _,_=>.bad
    | _=>.bad:=rfl
def evN(n:Nat):List AV:=(List.range n).map λi=>.vec (Fr (2 * i))
def odN(n:Nat):List AV:=(List.range n).map λi=>.vec (Fr (2 * i+1))
def kyN(l:List Int):List MK:=l.map MK.n
def rdH(t:Tpl)(ids:List Int)(a b:List AV):List (Option Blk):=
 [some (.box (Tpl.v t)),some (.box (.agg [.val (.map none),.val (.map none)])),some (.box (.agg [.mref 3,.mref 4])),some (.map none (kyN ids) a),some (.map none (kyN ids) b)]
abbrev GS(M:List (List Stp))(h:Hp):Hp:=GR 2 Stp.v M h
def rdS(t:Tpl)(M:List (List Stp)):S3:=
 ⟨cu [(1,.ref 0 0),(2,.ref 1 0),(3,.ref 2 0)],GS M (hpL 0 (rdH t (t.rs.map (·.id)) (evN t.rs.length) (odN t.rs.length))),2000⟩
def rd_m(t:Tpl):NF:=
 ⟨[(1,.k,.ref 0 0),(2,.k,.ref 1 0),(3,.k,.ref 2 0)],[.box (Tpl.v t),.box (.agg [.val (.map none),.val (.map none)]),.box (.agg [.mref 3,.mref 4]),.map none (([]:Lks).map λp=>MK.n p.1) (([]:Lks).map λp=>(λl:List Stp=>AV.sl 2 (l.map Stp.v) false) p.2) (ab (λ_=>rfl) _),.map none (([]:Lks).map λp=>MK.n p.1) (([]:Lks).map λp=>(λl:List Stp=>AV.sl 2 (l.map Stp.v) false) p.2) (ab (λ_=>rfl) _)]⟩
def DR:AC:=.seq (.reg [⟨(some 12),.faddr 0 (.t 1),none⟩,⟨(some 13),.load false 1 (.t 12),none⟩,⟨(some 14),.len (.t 13),none⟩,⟨(some 15),.move (.c (.val (.int .i64 0))),none⟩])
 (.block 0 (.loop (.seq (.reg [⟨(some 16),.bin .lss (.t 15) (.t 14),none⟩])
 (.seq (.cond (.t 16) (.skip) (.exit 0))
 (.seq (.block 1 (.seq (.reg [⟨(some 17),.iaddr 2 (.t 13) (.t 15),none⟩,⟨(some 18),.load true 2 (.t 17),none⟩,⟨(some 5),.box (.c (.agg [(.val (.int .i64 0)),(.val (.bool false))])),none⟩,⟨none,.store 2 (.t 5) (.t 18),none⟩])
 (.dreg [⟨(some 19),.faddr 0 (.t 3),none⟩,⟨(some 20),.load false 1 (.t 19),none⟩,⟨(some 21),.faddr 0 (.t 5),none⟩,⟨(some 22),.load false 1 (.t 21),none⟩,⟨(some 23),.faddr 1 (.t 3),none⟩,⟨(some 24),.load false 1 (.t 23),none⟩,⟨(some 25),.faddr 0 (.t 5),none⟩,⟨(some 26),.load false 1 (.t 25),none⟩,⟨none,.mset none (.t 20) (.t 22) (.c (.sl 0 [] true)),none⟩,⟨none,.mset none (.t 24) (.t 26) (.c (.sl 0 [] true)),none⟩] [(1,3),(1,5),(3,5),(1,7),(3,7),(5,7),(5,8),(7,8)])))
 (.reg [⟨(some 27),.bin .add (.t 15) (.c (.val (.int .i64 1))),none⟩,⟨(some 15),.move (.t 27),none⟩]))))))
theorem jX(n:Nat):(evN n).length=n:=by simp[evN]
theorem jM(n:Nat):(odN n).length=n:=by simp[odN]
theorem co(x:Stp):x.v.pureB=true:=rfl
theorem CN(l:List Rtr):aR (l.map Rtr.v):=aB (ab (λ_=>rfl) l)
theorem n8{k:Nat}:∀{xs:List AV},(∀x∈xs,x.bel k)→hZ k xs
 | [],_=>trivial
 | x::xs,h=>⟨h x (by simp),n8 λy hy=>h y (by simp[hy])⟩
theorem qz{n:Nat}(h:n≤400):hZ 2000 (evN n):=n8 λx hx=>by
 obtain⟨i,hi,rfl⟩:=List.mem_map.mp hx
 have:=List.mem_range.mp hi
 show Fr (2 * i)<2000;unfold Fr;omega
theorem pI{n:Nat}(h:n≤400):hZ 2000 (odN n):=n8 λx hx=>by
 obtain⟨i,hi,rfl⟩:=List.mem_map.mp hx
 have:=List.mem_range.mp hi
 show Fr (2 * i+1)<2000;unfold Fr;omega
theorem qx{n:Nat}(h:n≤400)(bs fs:Nat→Nat):dt (eQ bs fs) (evN n)=(List.range n).map λi=>.vec (fs (2 * i)):=by
 rw[d7,evN,List.map_map]
 refine List.map_congr_left λi hi=>?_
 have:=List.mem_range.mp hi
 show AV.vec (eQ bs fs (Fr (2 * i)))=_
 rw[jr (by omega)]
theorem pH{n:Nat}(h:n≤400)(bs fs:Nat→Nat):dt (eQ bs fs) (odN n)=(List.range n).map λi=>.vec (fs (2 * i+1)):=by
 rw[d7,odN,List.map_map]
 refine List.map_congr_left λi hi=>?_
 have:=List.mem_range.mp hi
 show AV.vec (eQ bs fs (Fr (2 * i+1)))=_
 rw[jr (by omega)]
theorem nQ{t:Tpl}{ids:List Int}{n:Nat}{hp:Hp}{fs:Nat→Nat}{a b:List AV}(hn:n≤400)(h0:hp 0=some (.box (Tpl.v t)))(h1:hp 1=some (.box (.agg [.val (.map none),.val (.map none)])))(h2:hp 2=some (.box (.agg [.mref 3,.mref 4])))
  (h3:hp 3=some (.map none (kyN ids) a)) (h4:hp 4=some (.map none (kyN ids) b)) (ha:a=(List.range n).map λi=>.vec (fs (2 * i))) (hb:b=(List.range n).map λi=>.vec (fs (2 * i+1))) :
  ∀i x,(rdH t ids (evN n) (odN n))[i]?=some (some x)→hp ((λb=>b) i)=some (x.ren (eQ (λb=>b) fs))∧x.bel 2000:=by
 have hr:=aT (eQ (λb=>b) fs) (CN t.rs)
 intro i x h
 rcases i with _|_|_|_|_|i
 ·cases h;exact⟨h0,⟨trivial,trivial,trivial⟩⟩
 ·cases h;exact⟨h1,⟨trivial,trivial,trivial⟩⟩
 ·cases h;exact⟨h2,⟨show 3<2000 by omega,show 4<2000 by omega,trivial⟩⟩
 ·cases h;exact⟨by show hp 3=_;rw[h3,Blk.ren,qx hn,ha],qz hn⟩
 ·cases h;exact⟨by show hp 4=_;rw[h4,Blk.ren,pH hn,hb],pI hn⟩
 ·simp[rdH]at h
structure Chk5 (t:Tpl):Prop where
  nr:t.rs.length≤24
  nl:t.ls.length≤60
  rg:∀x∈t.rs,1≤x.id∧x.id≤99
  asc:t.rs.Pairwise (λx y=>x.id<y.id)
  lr:∀l∈t.ls,gV l
  has:∀l∈t.ls,aI t l.a=true∧aI t l.b=true
  lt:∀l∈t.ls,l.a<l.b
  ord:t.ls.Pairwise cX
theorem aC{t:Tpl}(h:aJ t=0):Chk5 t:=by
 unfold aJ at h
 by_cases a1:24<t.rs.length∨60<t.ls.length
 ·rw[if_pos a1]at h;omega
 rw[if_neg a1]at h
 by_cases a2:∀x∈t.rs,1≤x.id∧x.id≤99
 case neg=>rw[if_pos a2]at h;omega
 rw[if_neg (not_not_intro a2)]at h
 by_cases a3:t.rs.Pairwise (λx y=>x.id<y.id)
 case neg=>rw[if_pos a3]at h;omega
 rw[if_neg (not_not_intro a3)]at h
 by_cases a4:∀l∈t.ls,gV l
 case neg=>rw[if_pos a4]at h;omega
 rw[if_neg (not_not_intro a4)]at h
 by_cases a5:∀l∈t.ls,aI t l.a=true∧aI t l.b=true
 case neg=>rw[if_pos a5]at h;omega
 rw[if_neg (not_not_intro a5)]at h
 by_cases a6:∀l∈t.ls,l.a<l.b
 case neg=>rw[if_pos a6]at h;omega
 rw[if_neg (not_not_intro a6)]at h
 by_cases a7:t.ls.Pairwise cX
 case neg=>rw[if_pos a7]at h;omega
 exact⟨by omega,by omega,a2,a3,a4,a5,a6,a7⟩
theorem Gw{t:Tpl}(h:aJ t=0):t.rs.Pairwise (λx y=>x.id<y.id):=(aC h).asc
theorem L2{l:List Rtr}(h:l.Pairwise (λx y=>x.id<y.id)){i j:Nat}(hij:i<j){x y:Rtr}(hx:l[i]?=some x)(hy:l[j]?=some y):x.id<y.id:=by
 have hi:=aq hx
 have hj:=aq hy
 rw[List.getElem?_eq_getElem hi]at hx
 rw[List.getElem?_eq_getElem hj]at hy
 have:=List.pairwise_iff_getElem.mp h i j hi hj hij
 rw[Option.some.inj hx,Option.some.inj hy]at this
 exact this
theorem JU(i m:Nat)(x:AV):(evN i++[x]).set i (.vec m)=(List.range (i+1)).map λj=>.vec ((λj=>if j=2 * i then m else if j=2 * i+1 then m+1 else Fr j) (2 * j)):=by
 rw[List.set_append_right _ _ (by rw[jX];exact Nat.le_refl _),jX,Nat.sub_self,List.set_cons_zero,List.range_succ,List.map_append]
 congr 1
 ·refine List.map_congr_left λj hj=>?_
  have:=List.mem_range.mp hj
  simp only
  rw[if_neg (by omega),if_neg (by omega)]
 ·simp
theorem Js(i m:Nat)(x:AV):(odN i++[x]).set i (.vec (m+1))=(List.range (i+1)).map λj=>.vec ((λj=>if j=2 * i then m else if j=2 * i+1 then m+1 else Fr j) (2 * j+1)):=by
 rw[List.set_append_right _ _ (by rw[jM];exact Nat.le_refl _),jM,Nat.sub_self,List.set_cons_zero,List.range_succ,List.map_append]
 congr 1
 ·refine List.map_congr_left λj hj=>?_
  have:=List.mem_range.mp hj
  simp only
  rw[if_neg (by omega),if_neg (by omega)]
 ·simp
theorem rd_h1(t:Tpl)(hc:aJ t=0)(k:Nat):dx Tryz.prog 0 k DR (rd_m t).st (rdS t (List.replicate (2 * t.rs.length) [])):=by
 unfold dx DR
 show AWP _ 0 k _ _ ⟨cu [(1,.ref 0 0),(2,.ref 1 0),(3,.ref 2 0)],hpL 0 (rdH t [] [] []),5⟩
 have hR:t.rs.length≤400:=by have:=(cH hc).1;omega
 have hdi:=Gw hc
 have hml:=bj
 refine AWP.seq' ?_
 refine AWP.reg' λK hK=>?_
 try simp only[ak,am,al,eq_self,implies_true,forall_eq_or_imp,forall_eq,Nat.reduceEqDiff,↓reduceIte,Nat.reduceAdd,Nat.reduceLeDiff,Nat.reduceSub,Nat.reduceMul,Nat.reduceLT,Int.reduceBEq,Int.reduceBNe,Int.reduceToNat,Int.reduceLT,Int.reduceLE,Int.reduceAdd,Int.reduceSub,Int.reduceMul,reduceCtorEq,rdH,Tpl.v,List.length_map]
 refine hK _ _ _ ?_
 clear hK K
 refine AWP.block ?_
 have hge:∀{i:Nat} {r:Rtr},t.rs[i]?=some r→(t.rs.map Rtr.v).getD i .unk=Rtr.v r:=λ{i r} h=>by rw[List.getD_eq_getElem?_getD,List.getElem?_map,h];rfl
 refine AWP.loopS (λi:Nat=>⟨cu [(1,.ref 0 0),(2,.ref 1 0),(3,.ref 2 0),(13,.sl 2 (t.rs.map Rtr.v) false),(14,.int t.rs.length),(15,.int (i:Nat))],GS (List.replicate (2 * i) []) (hpL 0 (rdH t ((t.rs.take i).map (·.id)) (evN i) (odN i))),2000⟩)
  (λi=>i≤t.rs.length) (λi=>t.rs.length-i) (i0:=0) (Nat.zero_le _) ?_ ?_
 ·refine ay.nfR co _ _ _ (λb=>b) Fr ?_ (nQ (by omega) rfl rfl rfl rfl rfl rfl rfl) (by simp[rdH]) (by simp) (by simp) (λi j _ _ h=>h) (λi j _ _ h=>by unfold Fr at h;omega) (λi j h1 h2=>by simp at h2) (λb _=>rfl) (by decide)
  simp only[List.forall_mem_cons,List.not_mem_nil,false_implies,implies_true,and_true]
  exact⟨⟨rfl,show 0<2000 by omega⟩,⟨rfl,show 1<2000 by omega⟩,⟨rfl,show 2<2000 by omega⟩,⟨rfl,trivial⟩,⟨rfl,trivial⟩,rfl,trivial⟩
 ·intro i hi
  refine AWP.seq' ?_
  refine AWP.reg' λK hK=>?_
  try simp only[ak,am,al,eq_self,implies_true,forall_eq_or_imp,forall_eq,Nat.reduceEqDiff,↓reduceIte,Nat.reduceAdd,Nat.reduceLeDiff,Nat.reduceSub,Nat.reduceMul,Nat.reduceLT,Int.reduceBEq,Int.reduceBNe,Int.reduceToNat,Int.reduceLT,Int.reduceLE,Int.reduceAdd,Int.reduceSub,Int.reduceMul,reduceCtorEq]
  refine hK _ _ _ ?_
  clear hK K
  refine AWP.seq' ?_
  refine AWP.cond (b:=decide ((i:Int)<(t.rs.length:Int))) rfl (λh=>?_) (λh=>?_)
  ·have h:i<t.rs.length:=by have:=of_decide_eq_true h;omega
   have hr:t.rs[i]?=some t.rs[i]:=List.getElem?_eq_getElem h
   generalize t.rs[i]=r at hr
   refine AWP.skip ?_
   refine AWP.seq' (AWP.block (AWP.seq' ?_))
   have hG0:∀b,b<1000→GS (List.replicate (2 * i) []) (hpL 0 (rdH t ((t.rs.take i).map (·.id)) (evN i) (odN i))) b=hpL 0 (rdH t ((t.rs.take i).map (·.id)) (evN i) (odN i)) b:=λb hb=>lk hb
   refine AWP.reg' λK hK=>?_
   try simp only[ak,am,al,eq_self,implies_true,forall_eq_or_imp,forall_eq,Nat.reduceEqDiff,↓reduceIte,Nat.reduceAdd,Nat.reduceLeDiff,Nat.reduceSub,Nat.reduceMul,Nat.reduceLT,Int.reduceBEq,Int.reduceBNe,Int.reduceToNat,Int.reduceLT,Int.reduceLE,Int.reduceAdd,Int.reduceSub,Int.reduceMul,reduceCtorEq,hge hr,Int.toNat_natCast,List.length_map,Rtr.v]
   refine⟨⟨by omega,by omega⟩,?_⟩
   refine hK _ _ _ ?_
   clear hK K
   have hnm:¬MK.n r.id∈kyN ((t.rs.take i).map (·.id)):=λhm=>by
    obtain⟨q,hq,e⟩:=List.mem_map.mp hm
    obtain⟨r',hr',rfl⟩:=List.mem_map.mp hq
    obtain⟨j,hj⟩:=List.mem_iff_getElem?.mp hr'
    have hji:j<i:=by have:=aq hj;rw[List.length_take]at this;omega
    rw[List.getElem?_take_of_lt hji]at hj
    have:=L2 hdi hji hj hr
    have:=MK.n.inj e;omega
   generalize hids:(t.rs.take i).map (·.id)=ids at hnm hG0 ⊢
   have g2:GS (List.replicate (2 * i) []) (hpL 0 (rdH t ids (evN i) (odN i))) 2=some (.box (.agg [.mref 3,.mref 4])):=hG0 2 (by decide)
   have g3:GS (List.replicate (2 * i) []) (hpL 0 (rdH t ids (evN i) (odN i))) 3=some (.map none (kyN ids) (evN i)):=hG0 3 (by decide)
   have g4:GS (List.replicate (2 * i) []) (hpL 0 (rdH t ids (evN i) (odN i))) 4=some (.map none (kyN ids) (odN i)):=hG0 4 (by decide)
   refine AWP.dreg' λK hK=>?_
   try simp only[ak,am,al,eq_self,implies_true,forall_eq_or_imp,forall_eq,Nat.reduceEqDiff,↓reduceIte,Nat.reduceAdd,Nat.reduceLeDiff,Nat.reduceSub,Nat.reduceMul,Nat.reduceLT,Int.reduceBEq,Int.reduceBNe,Int.reduceToNat,Int.reduceLT,Int.reduceLE,Int.reduceAdd,Int.reduceSub,Int.reduceMul,reduceCtorEq,g2,g3,g4,bC,AV.key,MK.fits,d8,hnm,if_false]
   refine⟨by rfl,hK _ _ _ ?_⟩
   clear hK K
   refine(show AWP _ _ _ _ _ _ from ?_)
   have w:IntKind.i64.wrap ((i:Int)+1)=((i+1:Nat):Int):=j8 (by omega) (by omega)
   refine AWP.reg' λK hK=>?_
   try simp only[ak,am,al,eq_self,implies_true,forall_eq_or_imp,forall_eq,Nat.reduceEqDiff,↓reduceIte,Nat.reduceAdd,Nat.reduceLeDiff,Nat.reduceSub,Nat.reduceMul,Nat.reduceLT,Int.reduceBEq,Int.reduceBNe,Int.reduceToNat,Int.reduceLT,Int.reduceLE,Int.reduceAdd,Int.reduceSub,Int.reduceMul,reduceCtorEq,w]
   refine hK _ _ _ ?_
   clear hK K
   refine⟨i+1,by omega,by omega,?_⟩
   have hids':(t.rs.take (i+1)).map (·.id)=ids++[r.id]:=by rw[aV hr,List.map_append,hids];rfl
   rw[hids']
   have hky:kyN (ids++[r.id])=kyN ids++[MK.n r.id]:=by simp[kyN]
   refine ay.trans (ay.nilvecM (ks:=kyN ids++[.n r.id]) (vs:=evN i++[.sl 0 [] true]) 3 i 0 2 (by simp only[ah];rfl) (by rw[List.getElem?_append_right (by rw[jX];exact Nat.le_refl _),jX,Nat.sub_self];rfl) (Nat.zero_le _)) ?_
   refine ay.trans (ay.nilvecM (ks:=kyN ids++[.n r.id]) (vs:=odN i++[.sl 0 [] true]) 4 i 0 2 (by simp only[ah];rfl) (by rw[List.getElem?_append_right (by rw[jM];exact Nat.le_refl _),jM,Nat.sub_self];rfl) (Nat.zero_le _)) ?_
   refine ay.nfR co _ _ _ (λb=>b) (λj=>if j=2 * i then 2272 else if j=2 * i+1 then 2272+1 else Fr j) ?_
    (nQ (by omega) ?_ ?_ ?_ (by rw[hky];simp only[ah];rfl) (by rw[hky];simp only[ah];rfl) (JU i 2272 _) (Js i 2272 _)) (by simp[rdH]) (by simp;omega) ?_ (λi j _ _ h=>h) ?_ ?_ (λb _=>rfl) (by decide)
   ·simp only[List.forall_mem_cons,List.not_mem_nil,false_implies,implies_true,and_true]
    exact⟨⟨rfl,show 0<2000 by omega⟩,⟨rfl,show 1<2000 by omega⟩,⟨rfl,show 2<2000 by omega⟩,⟨rfl,trivial⟩,⟨rfl,trivial⟩,rfl,trivial⟩
   ·simp only[ah];exact hG0 0 (by decide)
   ·simp only[ah];exact hG0 1 (by decide)
   ·simp only[ah];exact hG0 2 (by decide)
   ·intro j q hj
    rw[List.getElem?_replicate]at hj
    split at hj
    case isFalse=>cases hj
    cases hj
    rename_i hj2
    split
    ·rfl
    ·split
     ·rfl
     ·have:(List.replicate (2 * i) ([]:List Stp))[j]?=some []:=by rw[List.getElem?_replicate,if_pos (by omega)]
      simp only[ah,o4 (show 3<1000 by omega),o4 (show 4<1000 by omega),gR (show j<1000 by omega) (show 2000≤2272 by omega),gR (show j<1000 by omega) (show 2000≤2272+1 by omega),gR (show j<1000 by omega) (show 2000≤2048 by omega),if_false]
      exact gM this (by simp;omega)
   ·intro a b ha hb he
    simp at ha hb
    unfold Fr at he
    (repeat' split at he)<;>omega
   ·intro a b ha hb he
    simp only[rdH,List.length_cons,List.length_nil]at ha
    unfold Fr at he
    (repeat' split at he)<;>omega
  ·have h:i=t.rs.length:=by have:=of_decide_eq_false h;omega
   subst h
   refine AWP.exit ?_
   refine(show ay 0 k _ _ from ?_)
   unfold rdS
   rw[List.take_length]
   refine ay.nfR co _ _ _ (λb=>b) Fr ?_ (nQ (by omega) rfl rfl rfl rfl rfl rfl rfl) (by simp[rdH]) (by simp;omega) (λj r hr=>gM hr (by simp;omega)) (λi j _ _ h=>h) (λi j _ _ h=>by unfold Fr at h;omega) (λi j h1 h2 h=>by simp[rdH]at h1;unfold Fr at h;omega) (λb _=>rfl) (by decide)
   simp only[List.forall_mem_cons,List.not_mem_nil,false_implies,implies_true,and_true]
   exact⟨⟨rfl,show 0<2000 by omega⟩,⟨rfl,show 1<2000 by omega⟩,rfl,show 2<2000 by omega⟩
end Go.Proofs.YtdbdndmdbbihbaaGreat
