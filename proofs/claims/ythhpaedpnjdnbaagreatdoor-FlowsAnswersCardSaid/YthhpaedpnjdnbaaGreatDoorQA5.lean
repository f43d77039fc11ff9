/- Texts joined: H0 LP G3 G4 G5 G6 G7 G10 H1 V4 V5. -/
import Derived.Test.YthhpaedpnjdnbaaGreatDoorQA4
set_option linter.unusedVariables false
set_option linter.unusedSimpArgs false
namespace Go.Proofs.YthhpaedpnjdnbaaGreatDoor
open Go Go.Am
structure Mem where
  host:Int
  grp:Int
  mode:Int
  srcs:List Int
  til:Int
  deriving DecidableEq
structure bW where
  now:Int
  list:List Mem
  deriving DecidableEq
structure Edg where
  router:Int
  id:Int
  deriving DecidableEq
structure Pln where
  sub:Int
  len:Int
  es:List Edg
  deriving DecidableEq
def Mem.v(x:Mem):AV:=.agg [.int x.host,.int x.grp,.int x.mode,Rb x.srcs,.int x.til]
def Edg.v(x:Edg):AV:=.agg [.int x.router,.int x.id]
def Pln.v(x:Pln):AV:=.agg [.int x.sub,.int x.len,.sl 2 (x.es.map Edg.v) false]
def qm(L:List Int):Nat→Int→List Int→Nat→List Int×Nat
 | 0,_,out,p=>(out,p)
 | n+1,i,out,p=>qm L n (i+1) (dC out (Mod (al L p) (out.length+1)).toNat i) (ag L p)
def gr(L:List Int)(n:Int)(p:Nat):List Int×Nat:=qm L n.toNat 0 [] p
theorem lD{α:Type}(l:List α)(k:Nat)(x:α)(h:k≤l.length):(dC l k x).length=l.length+1:=by
 unfold dC;simp;omega
theorem oU{α:Type}(l:List α)(k:Nat)(x:α):(dC l k x).Perm (x::l):=by
 unfold dC
 have:=(List.perm_middle (a:=x) (l₁:=l.take k) (l₂:=l.drop k))
 rw[List.take_append_drop]at this
 simpa[List.append_assoc]using this
theorem EH{L:List Int}:∀{n:Nat} {i:Int} {out:List Int} {p:Nat},out.Nodup→(∀x∈out,0≤x∧x<i)→0≤i →
  (qm L n i out p).1.Nodup∧∀x∈(qm L n i out p).1,0≤x∧x<i+n
 | 0,i,out,p,h1,h2,h0=>⟨h1,λx hx=>by have:=h2 x hx;omega⟩
 | n+1,i,out,p,h1,h2,h0=>by
  rw[qm]
  have hp:=oU out (Mod (al L p) (out.length+1)).toNat i
  obtain⟨a,b⟩:=EH (L:=L) (n:=n) (i:=i+1) (out:=dC out (Mod (al L p) (out.length+1)).toNat i) (p:=ag L p)
   (hp.nodup_iff.mpr (List.nodup_cons.mpr ⟨λhi=>by have:=h2 i hi;omega,h1⟩))
   (λx hx=>by
    rcases List.mem_cons.mp (hp.mem_iff.mp hx)with rfl|hx
    ·omega
    ·have:=h2 x hx;omega) (by omega)
  exact⟨a,λx hx=>by have:=b x hx;omega⟩
theorem o6{L:List Int}{n:Int}{p:Nat}(h:0≤n):(gr L n p).1.Nodup∧∀x∈(gr L n p).1,0≤x∧x<n:=by
 obtain⟨a,b⟩:=EH (L:=L) (n:=n.toNat) (i:=0) (out:=[]) (p:=p) List.nodup_nil (by simp) (by omega)
 exact⟨a,λx hx=>by have:=b x hx;omega⟩
def Lc(L:List Int)(p:Nat)(n:Int):=okL [.ref 0 0,.int n]∧(.box (.agg [.sl 1 (L.map AV.int) false,.int p]):Blk).ok
def Q5(L:List Int)(n:Int)(t0:Int×Nat×List Int):NF:=⟨[(0,.k,.ref 0 0),(1,.k,.int n),(5,.k,.vec 1),(6,.k,.int t0.1)],[.box (.agg [.sl 1 (L.map AV.int) false,.int t0.2.1]),.vec 1 (t0.2.2.map AV.int) (ab (λ_=>rfl) t0.2.2)]⟩
@[reducible] def Lb:Nat→Type
 | 0=>Int×Nat×List Int
 | _=>Unit
def tD(r:Tap×List Int):AV:=.sl 1 (r.2.map AV.int) false
def tE(r:Tap×List Int):List (Option Blk):=[some (.box (.agg [.sl 1 (r.1.L.map AV.int) false,.int r.1.p]))]
def Bg(L:List Int)(p:Nat)(n:Int)(I0:(Int×Nat×List Int)→Prop)(m0:(Int×Nat×List Int)→Nat):Ax Tryz.prog Lb (Tap×List Int):=
 (.cmdL (.nilT 5 1) (.loop 0 (Q5 L n) I0 m0 (0,p,[]) [0,49] λ(t0:Int×Nat×List Int) b0 =>
(.br 50 (decide (t0.1<n)) (.callH [0] (N_h L t0.2.1 (W (((t0.2.2.map AV.int).length:Int)+1))) 114
(.say (Rf (t0.2.2.map AV.int)) (.cmd (.frzE 1 (t0.2.2.map AV.int) (ab (λ_=>rfl) t0.2.2)) (.own 162 (.say (λR=>Rf (α:=List AV) (t0.2.2.map AV.int) (ck (c9 t0.2.2.length (Mod (al L t0.2.1) (W (((t0.2.2.map AV.int).length:Int)+1))) (t0.2.2.length:Int) (t0.2.2.length:Int))
R)) (.sub 210 AV.int t0.2.2 false
(.say (λR=>Rf (α:=List AV) [.int t0.1] (Rf (α:=List AV) (((t0.2.2.take ((t0.2.2.length:Int).toNat)).drop ((Mod (al L t0.2.1) (W (((t0.2.2.map AV.int).length:Int)+1))).toNat)).map AV.int)
(ck (decide ([t0.1].length+((t0.2.2.take ((t0.2.2.length:Int).toNat)).drop ((Mod (al L t0.2.1) (W (((t0.2.2.map AV.int).length:Int)+1))).toNat)).length≤1048576))
R))) (.app 226 AV.int [t0.1] ((t0.2.2.take ((t0.2.2.length:Int).toNat)).drop ((Mod (al L t0.2.1) (W (((t0.2.2.map AV.int).length:Int)+1))).toNat))
(.say (λR=>Rf (α:=List AV) (t0.2.2.map AV.int) (ck (c9 t0.2.2.length 0 (Mod (al L t0.2.1) (W (((t0.2.2.map AV.int).length:Int)+1))) (Mod (al L t0.2.1) (W (((t0.2.2.map AV.int).length:Int)+1))))
R)) (.sub 306 AV.int t0.2.2 true
(.say (λR=>ck (decide ((Mod (al L t0.2.1) (W (((t0.2.2.map AV.int).length:Int)+1)))=(Mod (al L t0.2.1) (W (((t0.2.2.map AV.int).length:Int)+1)))))
((Rf (α:=List AV) (((t0.2.2.take ((Mod (al L t0.2.1) (W (((t0.2.2.map AV.int).length:Int)+1))).toNat)).drop 0).map AV.int) (Rf (α:=List AV) (([t0.1]++((t0.2.2.take ((t0.2.2.length:Int).toNat)).drop ((Mod (al L t0.2.1) (W (((t0.2.2.map AV.int).length:Int)+1))).toNat))).map AV.int)
(ck (decide (0<([t0.1]++((t0.2.2.take ((t0.2.2.length:Int).toNat)).drop ((Mod (al L t0.2.1) (W (((t0.2.2.map AV.int).length:Int)+1))).toNat))).length))
R))))) (.appF 338 AV.int ((t0.2.2.take ((Mod (al L t0.2.1) (W (((t0.2.2.map AV.int).length:Int)+1))).toNat)).drop 0) ([t0.1]++((t0.2.2.take ((t0.2.2.length:Int).toNat)).drop ((Mod (al L t0.2.1) (W (((t0.2.2.map AV.int).length:Int)+1))).toNat)))
(.say (ck (decide (((t0.2.2.take ((Mod (al L t0.2.1) (W (((t0.2.2.map AV.int).length:Int)+1))).toNat)).drop 0).length+([t0.1]++((t0.2.2.take ((t0.2.2.length:Int).toNat)).drop ((Mod (al L t0.2.1) (W (((t0.2.2.map AV.int).length:Int)+1))).toNat))).length≤1048576))) (.bk 0 b0 (W (t0.1+1),ag L t0.2.1,((t0.2.2.take ((Mod (al L t0.2.1) (W (((t0.2.2.map AV.int).length:Int)+1))).toNat)).drop 0)++([t0.1]++((t0.2.2.take ((t0.2.2.length:Int).toNat)).drop ((Mod (al L t0.2.1) (W (((t0.2.2.map AV.int).length:Int)+1))).toNat)))) [0,338]))))))))))))))
(.say (Rf (t0.2.2.map AV.int)) (.cmdL (.frzE 1 (t0.2.2.map AV.int) (ab (λ_=>rfl) t0.2.2)) (.retH ((⟨L,t0.2.1⟩:Tap),t0.2.2) ⟨[(4,.k,.sl 1 (t0.2.2.map AV.int) false)],[.box (.agg [.sl 1 (L.map AV.int) false,.int t0.2.1])]⟩ [0]))))))
def EG(L:List Int)(p:Nat)(n:Int)(I0:(Int×Nat×List Int)→Prop)(m0:(Int×Nat×List Int)→Nat)(r0:Tap×List Int):=(Bg L p n I0 m0).vc tD tE r0
theorem Vi(L:List Int)(p:Nat)(n:Int)(h:n≤1000)(ok:Lc L p n):∃I m,EG L p n I m ((⟨L,(gr L n p).2⟩:Tap),(gr L n p).1):=by
 have hm:=λ(l:Nat) (q:Nat)=>bg (x:=al L q) (show 1≤(l:Int)+1 by omega)
 refine⟨λt=>∃k:Nat,t.1=k∧k≤n.toNat∧t.2.2.length=k∧qm L (n.toNat-k) t.1 t.2.2 t.2.1=gr L n p,λt=>n.toNat-t.1.toNat,?_⟩
 dsimp only[EG,Bg,Lb,Ax.vp,Ax.vc];simp only[vcU,rfU,List.length_map]
 refine⟨⟨0,rfl,by omega,rfl,rfl⟩,?_⟩
 rintro⟨i,q,out⟩ ⟨k,hi,hk,hl,hr⟩
 simp only at hi hl hr ⊢
 subst hi
 have w1:W ((out.length:Int)+1)=(out.length:Int)+1:=bB (by omega)
 have hq:=hm out.length q
 rw[w1,rn]
 refine⟨λc=>?_,λc=>?_⟩
 ·have c:k<n.toNat:=by omega
  rw[av (n:=n.toNat) (by omega) (by omega)]
  refine⟨by simp[c9];omega,by simp;omega,by simp[c9];omega,trivial,by simp,by simp;omega,⟨k+1,rfl,by omega,by rw[lD _ _ _ (by omega),hl],?_⟩,by omega⟩
  rw[show n.toNat-k=(n.toNat-(k+1))+1 by omega,qm]at hr
  exact hr
 ·have:k=n.toNat:=by omega
  subst this
  rw[Nat.sub_self,qm]at hr
  rw[←hr]
def Vj(L:List Int)(p:Nat)(n:Int)(h:n≤1000):HC Tryz.prog:=⟨79,[.k,.k],[.ref 0 0,.int n],[.box (.agg [.sl 1 (L.map AV.int) false,.int p])],tD ((⟨L,(gr L n p).2⟩:Tap),(gr L n p).1),tE ((⟨L,(gr L n p).2⟩:Tap),(gr L n p).1),bl.of_okh λok ok2=>have ok:Lc L p n:=⟨ok,ok2 _ (by simp)⟩;(Vi L p n h ok).elim λI0 h=>h.elim λm0 h=>cC (sh:=(.s 1)) (enc:=tD) (hB:=tE) (a:=(Bg L p n I0 m0).an) h (by kernel_rfl),ai (by kernel_rfl),fk.of (by simp[hcB,cJ,AV.belB,allB,eI,dQ,tD,tE,ab (v:=AV.int) (λ_=>rfl)])⟩
theorem wX{L:List Int}:∀{n:Nat} {i:Int} {out:List Int} {p:Nat},(qm L n i out p).1.length=out.length+n
 | 0,i,out,p=>rfl
 | n+1,i,out,p=>by
  have:=bg (x:=al L p) (show 1≤(out.length:Int)+1 by omega)
  rw[qm,wX,lD _ _ _ (by omega)];omega
theorem wW{L:List Int}{n:Int}{p:Nat}:(gr L n p).1.length=n.toNat:=by rw[gr,wX];simp
theorem Cc{α:Type}{g:α→Bool}{l:List α}{k:Nat}(h:∀j y,j<k→l[j]?=some y→g y=true)(hk:k≤l.length)(h2:k=l.length∨∃y,l[k]?=some y∧g y=false):(l.findIdx λy=>!g y)=k:=by
 have hle:(l.findIdx λy=>!g y)≤l.length:=List.findIdx_le_length
 rcases Nat.lt_trichotomy (l.findIdx λy=>!g y) k with q|q|q
 ·have hl:(l.findIdx λy=>!g y)<l.length:=by omega
  have:=List.findIdx_getElem (p:=λy=>!g y) (xs:=l) (w:=hl)
  rw[h _ _ q (List.getElem?_eq_getElem hl)]at this
  cases this
 ·exact q
 ·rcases h2 with h2|⟨y,hy,hn⟩
  ·omega
  ·have:=List.not_of_lt_findIdx q
   rw[List.getElem?_eq_getElem (ay hy)]at hy
   rw[Option.some.inj hy,hn]at this
   simp at this
def iO(y x:Mem):Bool:=decide (y.grp<x.grp) || (y.grp==x.grp && decide (y.host<x.host))
def jJ(l:List Mem)(x:Mem):Nat:=l.findIdx λy=>!iO y x
def xq(l:List Mem)(x:Mem)(k:Nat):Bool:=match l[k]? with|some y=>iO y x|none=>false
def xr(l:List Mem)(x:Mem)(k:Nat):Bool:=match l[k]? with|some y=>y.grp==x.grp && y.host==x.host|none=>false
def lz(l:List Mem)(x:Mem):List Mem:=if xr l x (jJ l x)=true then l.set (jJ l x) x else dC l (jJ l x) x
def qo(L:List Int)(now:Int)(p:Nat):Mem×Nat:=
 (⟨rng L p 1 8,rng L (ag L p) 1 4,if(aw L (ag L (ag L p))).1.mode=1∧(aw L (ag L (ag L p))).1.srcs=[]then 2 else(aw L (ag L (ag L p))).1.mode,(aw L (ag L (ag L p))).1.srcs,
  now+au [0,1,30,1000] (al L (aw L (ag L (ag L p))).2)⟩,ag L (aw L (ag L (ag L p))).2)
def gK(L:List Int)(now:Int):Nat→List Mem→Nat→List Mem×Nat
 | 0,l,p=>(l,p)
 | n+1,l,p=>gK L now n (lz l (qo L now p).1) (qo L now p).2
def aZ(L:List Int)(n:Int)(p:Nat):bW×Nat:=
 (⟨au [0,10,500,998000] (al L p),(gK L (au [0,10,500,998000] (al L p)) (Mod (al L (ag L p)) (n+1)).toNat [] (ag L (ag L p))).1⟩,
  (gK L (au [0,10,500,998000] (al L p)) (Mod (al L (ag L p)) (n+1)).toNat [] (ag L (ag L p))).2)
theorem wO(l:List Mem)(x:Mem):(lz l x).length≤l.length+1:=by
 have:jJ l x≤l.length:=List.findIdx_le_length
 unfold lz
 split
 ·simp
 ·rw[lD _ _ _ this];omega
theorem fH{l:List Int}{a b:Int}(h:∀x∈l,a≤x∧x≤b)(h0:l≠[])(r:Int):a≤au l r∧au l r≤b:=h _ (gG h0 r)
def ET(L:List Int)(p:Nat)(n:Int):=okL [.ref 0 0,.int n]∧(.box (.agg [.sl 1 (L.map AV.int) false,.int p]):Blk).ok
def LA(L:List Int)(p:Nat)(t0:Int×Nat×List Mem):NF:=⟨[(0,.k,.ref 0 0),(4,.k,.ref 1 0),(5,.k,.ref 2 0),(6,.k,.int t0.1)],[.box (.agg [.sl 1 (L.map AV.int) false,.int t0.2.1]),.box (.agg [.int 0,.sl 0 [] true]),.box (.agg [.int (au [0,10,500,998000] (al L p)),.vec 3]),.vec 5 (t0.2.2.map Mem.v) (ab (λ_=>rfl) t0.2.2)]⟩
def L9(L:List Int)(p:Nat)(t0:Int×Nat×List Mem)(t1:Mem):NF:=⟨[(0,.k,.ref 0 0),(4,.k,.ref 1 0),(5,.k,.ref 2 0),(6,.k,.int t0.1),(7,.k,.ref 4 0)],[.box (.agg [.sl 1 (L.map AV.int) false,.int (((ag L ((aw L (ag L (ag L t0.2.1))).2)):Nat):Int)]),.box (.agg [.int 0,.sl 0 [] true]),.box (.agg [.int (au [0,10,500,998000] (al L p)),.vec 3]),.vec 5 (t0.2.2.map Mem.v) (ab (λ_=>rfl) t0.2.2),.box (.agg [.int t1.host,.int t1.grp,.int t1.mode,.sl 1 (t1.srcs.map AV.int) false,.int t1.til])]⟩
def L8(L:List Int)(p:Nat)(t0:Int×Nat×List Mem)(t2:Bool):NF:=⟨[(0,.k,.ref 0 0),(4,.k,.ref 1 0),(5,.k,.ref 2 0),(6,.k,.int t0.1),(7,.k,.ref 4 0),(45,.k,.bool t2)],[.box (.agg [.sl 1 (L.map AV.int) false,.int (((ag L ((aw L (ag L (ag L t0.2.1))).2)):Nat):Int)]),.box (.agg [.int 0,.sl 0 [] true]),.box (.agg [.int (au [0,10,500,998000] (al L p)),.vec 3]),.vec 5 (t0.2.2.map Mem.v) (ab (λ_=>rfl) t0.2.2),.box (.agg [.int (rng L t0.2.1 1 8),.int (rng L (ag L t0.2.1) 1 4),.int (((aw L (ag L (ag L t0.2.1))).1).mode),.sl 1 ((((aw L (ag L (ag L t0.2.1))).1).srcs).map AV.int) false,.int (W ((au [0,10,500,998000] (al L p))+(au [0,1,30,1000] (al L ((aw L (ag L (ag L t0.2.1))).2)))))])]⟩
def L7(L:List Int)(p:Nat)(t0:Int×Nat×List Mem)(t1:Mem)(t3:Int):NF:=⟨[(0,.k,.ref 0 0),(4,.k,.ref 1 0),(5,.k,.ref 2 0),(6,.k,.int t0.1),(7,.k,.ref 4 0),(8,.k,.int t3)],[.box (.agg [.sl 1 (L.map AV.int) false,.int (((ag L ((aw L (ag L (ag L t0.2.1))).2)):Nat):Int)]),.box (.agg [.int 0,.sl 0 [] true]),.box (.agg [.int (au [0,10,500,998000] (al L p)),.vec 3]),.vec 5 (t0.2.2.map Mem.v) (ab (λ_=>rfl) t0.2.2),.box (.agg [.int t1.host,.int t1.grp,.int t1.mode,.sl 1 (t1.srcs.map AV.int) false,.int t1.til])]⟩
def L6(L:List Int)(p:Nat)(t0:Int×Nat×List Mem)(t1:Mem)(t3:Int)(t4:Bool):NF:=⟨[(0,.k,.ref 0 0),(4,.k,.ref 1 0),(5,.k,.ref 2 0),(6,.k,.int t0.1),(7,.k,.ref 4 0),(8,.k,.int t3),(85,.k,.bool t4)],[.box (.agg [.sl 1 (L.map AV.int) false,.int (((ag L ((aw L (ag L (ag L t0.2.1))).2)):Nat):Int)]),.box (.agg [.int 0,.sl 0 [] true]),.box (.agg [.int (au [0,10,500,998000] (al L p)),.vec 3]),.vec 5 (t0.2.2.map Mem.v) (ab (λ_=>rfl) t0.2.2),.box (.agg [.int t1.host,.int t1.grp,.int t1.mode,.sl 1 (t1.srcs.map AV.int) false,.int t1.til])]⟩
def L5(L:List Int)(p:Nat)(t0:Int×Nat×List Mem)(t1:Mem)(t3:Int)(t5:Bool):NF:=⟨[(0,.k,.ref 0 0),(4,.k,.ref 1 0),(5,.k,.ref 2 0),(6,.k,.int t0.1),(7,.k,.ref 4 0),(8,.k,.int t3),(114,.k,.bool t5)],[.box (.agg [.sl 1 (L.map AV.int) false,.int (((ag L ((aw L (ag L (ag L t0.2.1))).2)):Nat):Int)]),.box (.agg [.int 0,.sl 0 [] true]),.box (.agg [.int (au [0,10,500,998000] (al L p)),.vec 3]),.vec 5 (t0.2.2.map Mem.v) (ab (λ_=>rfl) t0.2.2),.box (.agg [.int t1.host,.int t1.grp,.int t1.mode,.sl 1 (t1.srcs.map AV.int) false,.int t1.til])]⟩
@[reducible] def ER:Nat→Type
 | 0=>Int×Nat×List Mem
 | 1=>Mem
 | 2=>Bool
 | 3=>Int
 | 4=>Bool
 | 5=>Bool
 | _=>Unit
def mY(r:Tap×bW):AV:=.agg [.int r.2.now,.vec 1]
def mZ(r:Tap×bW):List (Option Blk):=[some (.box (.agg [.sl 1 (r.1.L.map AV.int) false,.int r.1.p])),some (.vec 5 (r.2.list.map Mem.v))]
def tM(L:List Int)(p:Nat)(n:Int)(I0:(Int×Nat×List Mem)→Prop)(m0:(Int×Nat×List Mem)→Nat)(I1:Int×Nat×List Mem→Mem→Prop)(I2:Int×Nat×List Mem→Bool→Prop)(I3:Int×Nat×List Mem→Mem→Int→Prop)(m3:Int×Nat×List Mem→Mem→Int→Nat)(I4:Int×Nat×List Mem→Mem→Int→Bool→Prop)(I5:Int×Nat×List Mem→Mem→Int→Bool→Bool→Prop):Ax Tryz.prog ER (Tap×bW):=
 (.req 49 ([0,10,500,998000]≠[]) λh1 =>
(.callH [0] (dH L p [0,10,500,998000] h1) 49
(.callH [0] (N_h L (ag L p) (W (n+1))) 161
(.cmdL (.nilB 81 1 5) (.loop 0 (LA L p) I0 m0 (Mod (al L (ag L p)) (W (n+1)),ag L (ag L p),[]) [0,1,81,193] λ(t0:Int×Nat×List Mem) b0 =>
(.br 36 (decide (0<t0.1)) (.callH [0] (da L t0.2.1 1 8) 52
(.callH [0] (da L (ag L t0.2.1) 1 4) 84
(.callH [0] (rI L (ag L (ag L t0.2.1))) 116
(.req 196 ([0,1,30,1000]≠[]) λh2 =>
(.callH [0] (dH L ((aw L (ag L (ag L t0.2.1))).2) [0,1,30,1000] h2) 196
(.join 1 (L9 L p t0) (λ(t1:Mem)=>I1 t0 t1) (λb1=>(.join 2 (L8 L p t0) (λ(t2:Bool)=>I2 t0 t2) (λb2=>(.br 356 (((aw L (ag L (ag L t0.2.1))).1).mode==1) (.bk 2 b2 (((((((aw L (ag L (ag L t0.2.1))).1).srcs).map AV.int).length:Int)==0):Bool) [0,1,2,3,244])
(.bk 2 b2 ((false):Bool) [0,1,2,3,244]))) λ(t2:Bool) =>
(.br 5 t2 (.bk 1 b1 (((⟨rng L t0.2.1 1 8,rng L (ag L t0.2.1) 1 4,2,((aw L (ag L (ag L t0.2.1))).1).srcs,W ((au [0,10,500,998000] (al L p))+(au [0,1,30,1000] (al L ((aw L (ag L (ag L t0.2.1))).2))))⟩:Mem)):Mem) [0,1,2,3,4])
(.bk 1 b1 (((⟨rng L t0.2.1 1 8,rng L (ag L t0.2.1) 1 4,((aw L (ag L (ag L t0.2.1))).1).mode,((aw L (ag L (ag L t0.2.1))).1).srcs,W ((au [0,10,500,998000] (al L p))+(au [0,1,30,1000] (al L ((aw L (ag L (ag L t0.2.1))).2))))⟩:Mem)):Mem) [0,1,2,3,4])))) λ(t1:Mem) =>
(.loop 3 (L7 L p t0 t1) (I3 t0 t1) (m3 t0 t1) ((0):Int) [0,1,2,3,4] λ(t3:Int) b3 =>
(.pass (.join 4 (L6 L p t0 t1 t3) (λ(t4:Bool)=>I4 t0 t1 t3 t4) (λb4=>(.br 101 (decide (t3<((t0.2.2.map Mem.v).length:Int))) (.say (ck (cond (decide (0≤t3)) (decide (t3<((t0.2.2.map Mem.v).length:Int))) false)) (.el 181 Mem.v t0.2.2 (λR=>Rf (t0.2.2.map Mem.v) (ck (decide (t3.toNat<t0.2.2.length))
(∀x3,t0.2.2[t3.toNat]?=some x3 →
(R x3)))) λx3 =>
(.br 261 (decide (x3.grp<t1.grp)) (.bk 4 b4 ((true):Bool) [0,1,2,3,4])
(.say (ck (cond (decide (0≤t3)) (decide (t3<((t0.2.2.map Mem.v).length:Int))) false)) (.el 341 Mem.v t0.2.2 (λR=>Rf (t0.2.2.map Mem.v) (ck (decide (t3.toNat<t0.2.2.length))
(∀x4,t0.2.2[t3.toNat]?=some x4 →
(R x4)))) λx4 =>
(.br 421 (x4.grp==t1.grp) (.say (ck (cond (decide (0≤t3)) (decide (t3<((t0.2.2.map Mem.v).length:Int))) false)) (.el 501 Mem.v t0.2.2 (λR=>Rf (t0.2.2.map Mem.v) (ck (decide (t3.toNat<t0.2.2.length))
(∀x5,t0.2.2[t3.toNat]?=some x5 →
(R x5)))) λx5 =>
(.bk 4 b4 ((decide (x5.host<t1.host)):Bool) [0,1,2,3,4])))
(.bk 4 b4 ((false):Bool) [0,1,2,3,4])))))))
(.bk 4 b4 ((false):Bool) [0,1,2,3,4]))) λ(t4:Bool) =>
(.br 5 t4 (.bk 3 b3 ((W (t3+1)):Int) [0,1,2,3,4])
(.pass (.join 5 (L5 L p t0 t1 t3) (λ(t5:Bool)=>I5 t0 t1 t3 t4 t5) (λb5=>(.br 101 (decide (t3<((t0.2.2.map Mem.v).length:Int))) (.say (ck (cond (decide (0≤t3)) (decide (t3<((t0.2.2.map Mem.v).length:Int))) false)) (.el 181 Mem.v t0.2.2 (λR=>Rf (t0.2.2.map Mem.v) (ck (decide (t3.toNat<t0.2.2.length))
(∀x6,t0.2.2[t3.toNat]?=some x6 →
(R x6)))) λx6 =>
(.br 277 (x6.grp==t1.grp) (.say (ck (cond (decide (0≤t3)) (decide (t3<((t0.2.2.map Mem.v).length:Int))) false)) (.el 357 Mem.v t0.2.2 (λR=>Rf (t0.2.2.map Mem.v) (ck (decide (t3.toNat<t0.2.2.length))
(∀x7,t0.2.2[t3.toNat]?=some x7 →
(R x7)))) λx7 =>
(.bk 5 b5 ((x7.host==t1.host):Bool) [0,1,2,3,4])))
(.bk 5 b5 ((false):Bool) [0,1,2,3,4]))))
(.bk 5 b5 ((false):Bool) [0,1,2,3,4]))) λ(t5:Bool) =>
(.br 5 t5 (.say (ck (cond (decide (0≤t3)) (decide (t3<((t0.2.2.map Mem.v).length:Int))) false)) (.st 85 Mem.v t0.2.2 (λy8=>t1) (λR=>Rf (t0.2.2.map Mem.v) (ck (decide (t3.toNat<t0.2.2.length))
(∀y8,t0.2.2[t3.toNat]?=some y8→Rf (Mem.v t1)
((R y8))))) λy8 =>
(.bk 0 b0 (W (t0.1-1),ag L ((aw L (ag L (ag L t0.2.1))).2),t0.2.2.set t3.toNat t1) [0,1,2,3])))
(.say (Rf (t0.2.2.map Mem.v)) (.cmd (.frzE 3 (t0.2.2.map Mem.v) (ab (λ_=>rfl) t0.2.2)) (.own 21 (.say (λR=>Rf (α:=List AV) (t0.2.2.map Mem.v) (ck (c9 t0.2.2.length t3 (t0.2.2.length:Int) (t0.2.2.length:Int))
R)) (.sub 85 Mem.v t0.2.2 false
(.say (λR=>Rf (α:=List AV) [.agg [.int t1.host,.int t1.grp,.int t1.mode,.sl 1 (t1.srcs.map AV.int) false,.int t1.til]] (Rf (α:=List AV) (((t0.2.2.take ((t0.2.2.length:Int).toNat)).drop t3.toNat).map Mem.v)
(ck (decide ([t1].length+((t0.2.2.take ((t0.2.2.length:Int).toNat)).drop t3.toNat).length≤1048576))
R))) (.app 101 Mem.v [t1] ((t0.2.2.take ((t0.2.2.length:Int).toNat)).drop t3.toNat)
(.say (λR=>Rf (α:=List AV) (t0.2.2.map Mem.v) (ck (c9 t0.2.2.length 0 t3 t3)
R)) (.sub 197 Mem.v t0.2.2 true
(.say (λR=>ck (decide (t3=t3))
((Rf (α:=List AV) (((t0.2.2.take t3.toNat).drop 0).map Mem.v) (Rf (α:=List AV) (([t1]++((t0.2.2.take ((t0.2.2.length:Int).toNat)).drop t3.toNat)).map Mem.v)
(ck (decide (0<([t1]++((t0.2.2.take ((t0.2.2.length:Int).toNat)).drop t3.toNat)).length))
R))))) (.appF 229 Mem.v ((t0.2.2.take t3.toNat).drop 0) ([t1]++((t0.2.2.take ((t0.2.2.length:Int).toNat)).drop t3.toNat))
(.say (ck (decide (((t0.2.2.take t3.toNat).drop 0).length+([t1]++((t0.2.2.take ((t0.2.2.length:Int).toNat)).drop t3.toNat)).length≤1048576))) (.bk 0 b0 (W (t0.1-1),ag L ((aw L (ag L (ag L t0.2.1))).2),((t0.2.2.take t3.toNat).drop 0)++([t1]++((t0.2.2.take ((t0.2.2.length:Int).toNat)).drop t3.toNat))) [0,1,2,229]))))))))))))))))))))))))))
(.retH ((⟨L,t0.2.1⟩:Tap),(⟨au [0,10,500,998000] (al L p),t0.2.2⟩:bW)) ⟨[(4,.k,.ref 2 0)],[.box (.agg [.sl 1 (L.map AV.int) false,.int t0.2.1]),.vec 5 (t0.2.2.map Mem.v) (ab (λ_=>rfl) t0.2.2),.box (.agg [.int (au [0,10,500,998000] (al L p)),.vec 1])]⟩ [0,3,1])))))))
def xm(L:List Int)(p:Nat)(n:Int)(I0:(Int×Nat×List Mem)→Prop)(m0:(Int×Nat×List Mem)→Nat)(I1:Int×Nat×List Mem→Mem→Prop)(I2:Int×Nat×List Mem→Bool→Prop)(I3:Int×Nat×List Mem→Mem→Int→Prop)(m3:Int×Nat×List Mem→Mem→Int→Nat)(I4:Int×Nat×List Mem→Mem→Int→Bool→Prop)(I5:Int×Nat×List Mem→Mem→Int→Bool→Bool→Prop)(r0:Tap×bW):=(tM L p n I0 m0 I1 I2 I3 m3 I4 I5).vc mY mZ r0
theorem QF(L:List Int)(p:Nat)(n:Int)(h:0≤n∧n≤1000)(ok:ET L p n):∃I0 m0 I1 I2 I3 m3 I4 I5,xm L p n I0 m0 I1 I2 I3 m3 I4 I5 ((⟨L,(aZ L n p).2⟩:Tap),(aZ L n p).1):=by
 have hnow:=fH (l:=[0,10,500,998000]) (a:=0) (b:=998000) (by decide) (by decide) (al L p)
 refine⟨λt=>∃k:Nat,t.1=k∧k+t.2.2.length≤1000∧gK L (au [0,10,500,998000] (al L p)) k t.2.2 t.2.1=((aZ L n p).1.list,(aZ L n p).2),λt=>t.1.toNat,
  λs x=>x=(qo L (au [0,10,500,998000] (al L p)) s.2.1).1,
  λs b=>b=decide ((aw L (ag L (ag L s.2.1))).1.mode=1∧(aw L (ag L (ag L s.2.1))).1.srcs=[]),
  λs x t=>∃k:Nat,t=k∧k≤s.2.2.length∧∀j y,j<k→s.2.2[j]?=some y→iO y x=true,λs x t=>s.2.2.length-t.toNat,
  λs x t b=>∀k:Nat,t=k→b=xq s.2.2 x k,λs x t b c=>∀k:Nat,t=k→c=xr s.2.2 x k,?_⟩
 dsimp only[xm,tM,ER,Ax.vp,Ax.vc];simp only[vcU,rfU,List.length_map]
 have w0:W (n+1)=n+1:=bB (by omega)
 have hm:=bg (x:=al L (ag L p)) (show 1≤n+1 by omega)
 rw[w0]
 refine⟨by simp,⟨(Mod (al L (ag L p)) (n+1)).toNat,by omega,by simp;omega,rfl⟩,?_⟩
 rintro⟨c,q,l⟩ ⟨k,rfl,hl,hr⟩
 simp only at hl hr ⊢
 have hp4:=fH (l:=[0,1,30,1000]) (a:=0) (b:=1000) (by decide) (by decide) (al L (aw L (ag L (ag L q))).2)
 have w1:W (au [0,10,500,998000] (al L p)+au [0,1,30,1000] (al L (aw L (ag L (ag L q))).2))=au [0,10,500,998000] (al L p)+au [0,1,30,1000] (al L (aw L (ag L (ag L q))).2):=bB (by omega)
 rw[w1]
 generalize hf:aw L (ag L (ag L q))=F at *
 generalize hN:au [0,10,500,998000] (al L p)=N at *
 have hX:qo L N q=(⟨rng L q 1 8,rng L (ag L q) 1 4,if F.1.mode=1∧F.1.srcs=[]then 2 else F.1.mode,F.1.srcs,N+au [0,1,30,1000] (al L F.2)⟩,ag L F.2):=by rw[qo,hf]
 rw[hX]
 have emp:(((F.1.srcs.length:Int)==0)=true)↔F.1.srcs=[]:=by
  rw[beq_iff_eq,←List.length_eq_zero_iff];omega
 refine⟨λc=>⟨by simp,⟨⟨λc1=>?_,λc1=>?_⟩,?_⟩,?_⟩,λc=>?_⟩
 ·have c1:F.1.mode=1:=eq_of_beq c1
  rw[Bool.eq_iff_iff,emp,decide_eq_true_eq];simp[c1]
 ·have c1:¬F.1.mode=1:=by simpa using c1
  simp[c1]
 ·rintro _ rfl
  refine⟨λd=>?_,λd=>?_⟩
  ·rw[if_pos (of_decide_eq_true d)]
  ·rw[if_neg (of_decide_eq_false d)]
 ·intro x hx0
  replace hx0:=hx0.symm
  refine⟨⟨0,rfl,by omega,λj y hj=>by omega⟩,?_⟩
  rintro _ ⟨i,rfl,hi,hlt⟩
  simp only[Int.toNat_natCast]
  have one:∀{A:Prop},(∀j:Nat,(i:Int)=j→A)↔A:=λ{A}=>⟨λh=>h i rfl,λh _ _=>h⟩
  have cast:∀{f:Nat→Bool} {b:Bool},(∀j:Nat,(i:Int)=j→b=f j)↔b=f i:=λ{f b}=>⟨λh=>h i rfl,λh j hj=>by rw[h,show i=j by omega]⟩
  simp only[cast]
  have bd:(i:Int)<l.length→(bif decide ((0:Int)≤i)then decide ((i:Int)<l.length)else false)=true:=λh=>by
   rw[decide_eq_true (by omega),decide_eq_true h];rfl
  refine⟨⟨λd=>⟨bd d,by omega,λy hy=>⟨λe=>?_,λe=>⟨bd d,by omega,λy2 hy2=>?_⟩⟩⟩,λd=>?_⟩,?_⟩
  ·simp[xq,hy,iO,e]
  ·rw[hy]at hy2;cases hy2
   refine⟨λe2=>⟨bd d,by omega,λy3 hy3=>?_⟩,λe2=>?_⟩
   ·rw[hy]at hy3;cases hy3
    simp[xq,hy,iO,e,e2]
   ·simp[xq,hy,iO,e,e2]
  ·rw[xq,List.getElem?_eq_none (by omega)]
  rintro b rfl
  refine⟨λd=>?_,λd=>?_⟩
  ·have hil:i<l.length:=by
    refine Classical.byContradiction λhh=>?_
    rw[xq,List.getElem?_eq_none (by omega)]at d;simp at d
   rw[av (n:=l.length) (by omega) (by omega)]
   refine⟨⟨i+1,rfl,by omega,λj z hj hz=>?_⟩,by omega⟩
   by_cases e':j=i
   ·subst e';rw[xq,hz]at d;exact d
   ·exact hlt j z (by omega) hz
  have hP:jJ l x=i:=Cc hlt hi (by
   by_cases hil:i<l.length
   ·refine .inr ⟨l[i],List.getElem?_eq_getElem hil,?_⟩
    rw[xq,List.getElem?_eq_getElem hil]at d;exact d
   ·exact .inl (by omega))
  refine⟨⟨λc2=>⟨bd c2,by omega,λy hy=>⟨λe=>⟨bd c2,by omega,λy2 hy2=>?_⟩,λe=>?_⟩⟩,λc2=>?_⟩,?_⟩
  ·rw[hy]at hy2;cases hy2
   simp[xr,hy,e]
  ·simp[xr,hy,e]
  ·rw[xr,List.getElem?_eq_none (by omega)]
  rintro b2 rfl
  have hk1:0<k:=by omega
  have wk:W ((k:Int)-1)=((k-1:Nat):Int):=dw (by omega) hk1
  rw[wk]
  have step:gK L N k l q=gK L N (k-1) (lz l x) (ag L F.2):=by
   obtain⟨k',rfl⟩:∃k',k=k'+1:=⟨k-1,by omega⟩
   rw[gK,hX,hx0];rfl
  have hpl:=wO l x
  rw[step]at hr
  refine⟨λc2=>?_,λc2=>?_⟩
  ·have hil:i<l.length:=by
    refine Classical.byContradiction λhh=>?_
    rw[xr,List.getElem?_eq_none (by omega)]at c2;simp at c2
   have hput:lz l x=l.set i x:=by rw[lz,hP,if_pos c2]
   rw[hput]at hr hpl
   refine⟨bd (by omega),by omega,λy hy=>⟨⟨k-1,rfl,by omega,hr⟩,by omega⟩⟩
  ·have hput:lz l x=dC l i x:=by rw[lz,hP,if_neg (by rw[c2];simp)]
   rw[hput]at hr hpl
   have e1:=rn (l:=l) (k:=i) (x:=x)
   rw[Int.toNat_natCast]at e1
   rw[e1]
   exact⟨by simp[c9];omega,by simp;omega,by simp[c9];omega,trivial,by simp,by simp;omega,⟨k-1,rfl,by omega,hr⟩,by omega⟩
 ·have:k=0:=by omega
  subst this
  rw[gK]at hr
  have h1:l=(aZ L n p).1.list:=congrArg Prod.fst hr
  have h2:q=(aZ L n p).2:=congrArg Prod.snd hr
  rw[←h2]
  have h3:(aZ L n p).1=⟨(aZ L n p).1.now,(aZ L n p).1.list⟩:=rfl
  have h4:(aZ L n p).1.now=N:=hN
  rw[h3,←h1,h4]
def QG(L:List Int)(p:Nat)(n:Int)(h:0≤n∧n≤1000):HC Tryz.prog:=⟨37,[.k,.k],[.ref 0 0,.int n],[.box (.agg [.sl 1 (L.map AV.int) false,.int p])],mY ((⟨L,(aZ L n p).2⟩:Tap),(aZ L n p).1),mZ ((⟨L,(aZ L n p).2⟩:Tap),(aZ L n p).1),bl.of_okh λok ok2=>have ok:ET L p n:=⟨ok,ok2 _ (by simp)⟩;(QF L p n h ok).elim λI0 h=>h.elim λm0 h=>h.elim λI1 h=>h.elim λI2 h=>h.elim λI3 h=>h.elim λm3 h=>h.elim λI4 h=>h.elim λI5 h=>cC (sh:=.k) (enc:=mY) (hB:=mZ) (a:=(tM L p n I0 m0 I1 I2 I3 m3 I4 I5).an) h (by kernel_rfl),ai (by kernel_rfl),fk.of (by simp[hcB,cJ,AV.belB,allB,eI,dQ,mY,mZ,ab (v:=AV.int) (λ_=>rfl),ab (v:=Mem.v) (λ_=>rfl)])⟩
def qk(L:List Int)(rs:List Rtr):List Int→Int→List Edg→Nat→List Edg×Nat
 | [],_,out,p=>(out,p)
 | k::ks,id,out,p=>if Mod (al L p) 4=0 then qk L rs ks id out (ag L p)
  else qk L rs ks (id+au [1,1,1,2,7,9] (al L (ag L p))) (out++[⟨(rs.getD k.toNat ⟨0,false⟩).id,id+au [1,1,1,2,7,9] (al L (ag L p))⟩]) (ag L (ag L p))
def j4(L:List Int)(p:Nat)(a:Tpl):List Edg×Nat:=qk L a.rs (gr L a.rs.length (ag L p)).1 0 [] (gr L a.rs.length (ag L p)).2
def j3(L:List Int)(p:Nat)(a:Tpl):Pln×Nat:=
 if 0<(j4 L p a).1.length then(⟨Mod (al L p) 3,au [8,8,16,32,64] (al L (j4 L p a).2),(j4 L p a).1⟩,ag L (j4 L p a).2)
 else(⟨Mod (al L p) 3,0,(j4 L p a).1⟩,(j4 L p a).2)
def KK(L:List Int)(p:Nat)(a1:Tpl):=okL [.ref 0 0,.agg [.sl 2 (a1.rs.map Rtr.v) false,.sl 5 (a1.ls.map Lnk.v) false]]∧(.box (.agg [.sl 1 (L.map AV.int) false,.int p]):Blk).ok
abbrev fv(L:List Int)(p:Nat)(a1:Tpl):=(gr L ((a1.rs.map Rtr.v).length:Int) (ag L p))
def Qw(L:List Int)(p:Nat)(a1:Tpl)(t0:Int×Nat×Int×List Edg):NF:=⟨[(0,.k,.ref 0 0),(3,.k,.ref 1 0),(4,.k,.ref 2 0),(5,.k,.ref 3 0),(6,.k,.int t0.2.2.1),(16,.k,.sl 1 (((fv L p a1).1).map AV.int) false),(17,.k,.int ((((fv L p a1).1).map AV.int).length:Int)),(18,.k,.int t0.1)],[.box (.agg [.sl 1 (L.map AV.int) false,.int t0.2.1]),.box (.agg [.sl 2 (a1.rs.map Rtr.v) false,.sl 5 (a1.ls.map Lnk.v) false]),.box (.agg [.int 0,.int 0,.sl 0 [] true]),.box (.agg [.int (Mod (al L p) 3),.int 0,.vec 4]),.vec 2 (t0.2.2.2.map Edg.v) (ab (λ_=>rfl) t0.2.2.2)]⟩
@[reducible] def KJ:Nat→Type
 | 0=>Int×Nat×Int×List Edg
 | _=>Unit
def tp(r:Tap×Pln):AV:=.agg [.int r.2.sub,.int r.2.len,.sl 2 (r.2.es.map Edg.v) false]
def tq(r:Tap×Pln):List (Option Blk):=[some (.box (.agg [.sl 1 (r.1.L.map AV.int) false,.int r.1.p]))]
def AL(L:List Int)(p:Nat)(a1:Tpl)(I0:(Int×Nat×Int×List Edg)→Prop)(m0:(Int×Nat×Int×List Edg)→Nat):Ax Tryz.prog KJ (Tap×Pln):=
 (.callH [0] (N_h L p 3) 49
(.req 193 (((a1.rs.map Rtr.v).length:Int)≤1000) λh1 =>
(.callH [0] (Vj L (ag L p) ((a1.rs.map Rtr.v).length:Int) h1) 193
(.cmdL (.nilB 81 2 2) (.loop 0 (Qw L p a1) I0 m0 (0,(fv L p a1).2,0,[]) [0,1,17,81,241] λ(t0:Int×Nat×Int×List Edg) b0 =>
(.br 21 (decide (t0.1<((((fv L p a1).1).map AV.int).length:Int))) (.el 21 AV.int ((fv L p a1).1) (λR=>Rf (((fv L p a1).1).map AV.int) (ck (decide (0≤t0.1)) (ck (decide (t0.1<(((fv L p a1).1).length:Int)))
(∀x2,((fv L p a1).1)[t0.1.toNat]?=some x2 →
(R x2))))) λx2 =>
(.callH [0] (N_h L t0.2.1 4) 85
(.br 117 ((Mod (al L t0.2.1) 4)==0) (.bk 0 b0 (W (t0.1+1),ag L t0.2.1,t0.2.2.1,t0.2.2.2) [0,1,2,3,4])
(.req 165 ([1,1,1,2,7,9]≠[]) λh3 =>
(.callH [0] (dH L (ag L t0.2.1) [1,1,1,2,7,9] h3) 165
(.el 293 Rtr.v a1.rs (λR=>Rf (a1.rs.map Rtr.v) (ck (decide (0≤x2)) (ck (decide (x2<(a1.rs.length:Int)))
(∀x4,a1.rs[x2.toNat]?=some x4 →
(R x4))))) λx4 =>
(.say (λR=>Rf (α:=List AV) (t0.2.2.2.map Edg.v) (Rf (α:=List AV) [.agg [.int x4.id,.int (W (t0.2.2.1+(au [1,1,1,2,7,9] (al L (ag L t0.2.1)))))]]
(ck (decide (t0.2.2.2.length+1≤1048576))
R))) (.app 389 Edg.v t0.2.2.2 [(⟨x4.id,W (t0.2.2.1+(au [1,1,1,2,7,9] (al L (ag L t0.2.1))))⟩:Edg)]
(.bk 0 b0 (W (t0.1+1),ag L (ag L t0.2.1),W (t0.2.2.1+(au [1,1,1,2,7,9] (al L (ag L t0.2.1)))),t0.2.2.2++[(⟨x4.id,W (t0.2.2.1+(au [1,1,1,2,7,9] (al L (ag L t0.2.1))))⟩:Edg)]) [0,1,2,3,389])))))))))
(.br 85 (decide (0<((t0.2.2.2.map Edg.v).length:Int))) (.req 117 ([8,8,16,32,64]≠[]) λh5 =>
(.callH [0] (dH L t0.2.1 [8,8,16,32,64] h5) 117
(.say (Rf (t0.2.2.2.map Edg.v)) (.cmdL (.frzE 4 (t0.2.2.2.map Edg.v) (ab (λ_=>rfl) t0.2.2.2)) (.retH ((⟨L,ag L t0.2.1⟩:Tap),(⟨Mod (al L p) 3,au [8,8,16,32,64] (al L t0.2.1),t0.2.2.2⟩:Pln)) ⟨[(4,.k,.ref 1 0)],[.box (.agg [.sl 1 (L.map AV.int) false,.int (ag L t0.2.1)]),.box (.agg [.int (Mod (al L p) 3),.int (au [8,8,16,32,64] (al L t0.2.1)),.sl 2 (t0.2.2.2.map Edg.v) false])]⟩ [0,2])))))
(.say (Rf (t0.2.2.2.map Edg.v)) (.cmdL (.frzE 4 (t0.2.2.2.map Edg.v) (ab (λ_=>rfl) t0.2.2.2)) (.retH ((⟨L,t0.2.1⟩:Tap),(⟨Mod (al L p) 3,0,t0.2.2.2⟩:Pln)) ⟨[(4,.k,.ref 1 0)],[.box (.agg [.sl 1 (L.map AV.int) false,.int t0.2.1]),.box (.agg [.int (Mod (al L p) 3),.int 0,.sl 2 (t0.2.2.2.map Edg.v) false])]⟩ [0,2]))))))))))
def E4(L:List Int)(p:Nat)(a1:Tpl)(I0:(Int×Nat×Int×List Edg)→Prop)(m0:(Int×Nat×Int×List Edg)→Nat)(r0:Tap×Pln):=(AL L p a1 I0 m0).vc tp tq r0
theorem UO(L:List Int)(p:Nat)(a:Tpl)(h:a.rs.length≤1000)(ok:KK L p a):∃I m,E4 L p a I m ((⟨L,(j3 L p a).2⟩:Tap),(j3 L p a).1):=by
 refine⟨λt=>∃k:Nat,t.1=k∧k≤a.rs.length∧t.2.2.2.length≤k∧(0≤t.2.2.1∧t.2.2.1≤9 * k)∧qk L a.rs ((gr L a.rs.length (ag L p)).1.drop k) t.2.2.1 t.2.2.2 t.2.1=j4 L p a,
  λt=>a.rs.length-t.1.toNat,?_⟩
 dsimp only[E4,AL,KJ,fv,Ax.vp,Ax.vc];simp only[vcU,rfU,List.length_map]
 have ho:(gr L (a.rs.length:Int) (ag L p)).1.length=a.rs.length:=by rw[wW];simp
 have hb:=(o6 (L:=L) (n:=(a.rs.length:Int)) (p:=ag L p) (by omega)).2
 refine⟨by omega,⟨0,rfl,by omega,by simp,by omega,rfl⟩,?_⟩
 rintro⟨i,q,id,es⟩ ⟨k,hi,hk,hl,hid,hr⟩
 simp only at hi hl hid hr ⊢
 subst hi
 simp only[Int.toNat_natCast]
 refine⟨λc=>⟨by omega,by omega,λx hx=>?_⟩,λc=>?_⟩
 ·have hk':k<a.rs.length:=by omega
  have hd:=List.drop_eq_getElem_cons (show k<(gr L (a.rs.length:Int) (ag L p)).1.length by omega)
  have hxe:(gr L (a.rs.length:Int) (ag L p)).1[k]=x:=by rw[List.getElem?_eq_getElem (by omega)]at hx;exact Option.some.inj hx
  rw[hd,hxe,qk]at hr
  have hxb:=hb x (aB hx)
  have hp6:=fH (l:=[1,1,1,2,7,9]) (a:=1) (b:=9) (by decide) (by decide) (al L (ag L q))
  rw[av (n:=a.rs.length) (by omega) (by omega)]
  refine⟨λc1=>⟨⟨k+1,rfl,by omega,by omega,by omega,?_⟩,by omega⟩,λc1=>⟨by simp,by omega,by omega,λy hy=>?_⟩⟩
  ·rw[if_pos (eq_of_beq c1)]at hr;exact hr
  ·rw[if_neg (by simpa using c1)]at hr
   have w1:W (id+au [1,1,1,2,7,9] (al L (ag L q)))=id+au [1,1,1,2,7,9] (al L (ag L q)):=bB (by omega)
   rw[w1]
   refine⟨by omega,⟨k+1,rfl,by omega,by simp;omega,by omega,?_⟩,by omega⟩
   rw[List.getD_eq_getElem?_getD,hy]at hr;exact hr
 ·have:k=a.rs.length:=by omega
  subst this
  rw[List.drop_of_length_le (by omega),qk]at hr
  rw[j3,←hr]
  refine⟨λc2=>⟨by simp,?_⟩,λc2=>?_⟩
  ·rw[if_pos (show 0<es.length by omega)]
  ·rw[if_neg (show ¬0<es.length by omega)]
def UP(L:List Int)(p:Nat)(a1:Tpl)(h:a1.rs.length≤1000):HC Tryz.prog:=⟨35,[.k,(.a [(.s 2),(.s 5)])],[.ref 0 0,.agg [.sl 2 (a1.rs.map Rtr.v) false,.sl 5 (a1.ls.map Lnk.v) false]],[.box (.agg [.sl 1 (L.map AV.int) false,.int p])],tp ((⟨L,(j3 L p a1).2⟩:Tap),(j3 L p a1).1),tq ((⟨L,(j3 L p a1).2⟩:Tap),(j3 L p a1).1),bl.of_okh λok ok2=>have ok:KK L p a1:=⟨ok,ok2 _ (by simp)⟩;(UO L p a1 h ok).elim λI0 h=>h.elim λm0 h=>cC (sh:=(.a [.k,.k,(.s 2)])) (enc:=tp) (hB:=tq) (a:=(AL L p a1 I0 m0).an) h (by kernel_rfl),ai (by kernel_rfl),fk.of (by simp[hcB,cJ,AV.belB,allB,eI,dQ,tp,tq,ab (v:=AV.int) (λ_=>rfl),ab (v:=Lnk.v) (λ_=>rfl),ab (v:=Rtr.v) (λ_=>rfl)])⟩
section
variable {α : Type} {l : List α} {P : α → Prop} {R : α → α → Prop} {t : Int} {x y : α}
theorem eG{i n:Int}(h1:0≤i)(h2:i<n):(bif decide (0≤i)then decide (i<n)else false)=true:=by
 rw[decide_eq_true h1,decide_eq_true h2];rfl
def bP(l:List α)(P:α→Prop)(t:Int):Prop:=∃k:Nat,t=k∧k≤l.length∧∀x∈l.take k,P x
theorem bP.zero:bP l P 0:=⟨0,rfl,by omega,by simp⟩
theorem bP.idx(h:bP l P t):0≤t:=by obtain⟨k,rfl,_,_⟩:=h;omega
theorem bP.step(h:bP l P t)(hl:l.length≤9223372036854775807)(hx:l[t.toNat]?=some x)(p:P x):bP l P (W (t+1))∧l.length-(W (t+1)).toNat<l.length-t.toNat:=by
 obtain⟨k,rfl,hk,ha⟩:=h
 rw[Int.toNat_natCast]at hx
 have:=ay hx
 rw[av (n:=l.length) this hl]
 refine⟨⟨k+1,rfl,by omega,λz hz=>?_⟩,by omega⟩
 rw[ax hx]at hz
 rcases List.mem_append.mp hz with hz|hz
 ·exact ha z hz
 ·rw[List.mem_singleton]at hz;exact hz ▸ p
theorem bP.done(h:bP l P t)(c:¬t<l.length):∀x∈l,P x:=by
 obtain⟨k,rfl,hk,ha⟩:=h
 rw[List.take_of_length_le (by omega)]at ha
 exact ha
theorem lT(hx:l[t.toNat]?=some x):x∈l:=aB hx
def jh(l:List α)(R:α→α→Prop)(t:Int):Prop:=∃k:Nat,t=k∧1≤k∧k≤l.length+1∧∀j x y,j+1<k→l[j]?=some x→l[j+1]?=some y→R x y
theorem jh.one:jh l R 1:=⟨1,rfl,by omega,by omega,λj x y h=>by omega⟩
theorem jh.idx(h:jh l R t)(hl:l.length≤9223372036854775807)(c:t<l.length):(0≤W (t-1)∧W (t-1)<l.length)∧0≤t:=by
 obtain⟨k,rfl,h1,hk,ha⟩:=h
 rw[dw (by omega) h1]
 omega
theorem jh.step(h:jh l R t)(hl:l.length≤9223372036854775806)(hx:l[(W (t-1)).toNat]?=some x)(hy:l[t.toNat]?=some y)(p:R x y):jh l R (W (t+1))∧l.length+1-(W (t+1)).toNat<l.length+1-t.toNat:=by
 obtain⟨k,rfl,h1,hk,ha⟩:=h
 rw[Int.toNat_natCast]at hy
 have hlt:=ay hy
 rw[dw (by omega) h1,Int.toNat_natCast]at hx
 rw[av (n:=l.length) hlt (by omega)]
 refine⟨⟨k+1,rfl,by omega,by omega,λj x' y' hj hx' hy'=>?_⟩,by omega⟩
 by_cases e:j+1=k
 ·subst e
  rw[show j+1-1=j by omega,hx']at hx;cases hx
  rw[hy']at hy;cases hy;exact p
 ·exact ha j x' y' (by omega) hx' hy'
theorem jh.bad(h:jh l R t)(hl:l.length≤9223372036854775806)(hx:l[(W (t-1)).toNat]?=some x)(hy:l[t.toNat]?=some y){S:α→α→Prop}(p:¬S x y):¬l.Pairwise S:=by
 obtain⟨k,rfl,h1,hk,ha⟩:=h
 rw[Int.toNat_natCast]at hy
 have hlt:=ay hy
 rw[dw (by omega) h1,Int.toNat_natCast]at hx
 intro hp
 rw[List.pairwise_iff_getElem]at hp
 have:=hp (k-1) k (by omega) hlt (by omega)
 rw[List.getElem?_eq_getElem (by omega)]at hx hy
 rw[Option.some.inj hx,Option.some.inj hy]at this
 exact p this
theorem jh.done(h:jh l R t)(c:¬t<l.length)(tr:∀x y z,R x y→R y z→R x z):l.Pairwise R:=by
 obtain⟨k,rfl,h1,hk,ha⟩:=h
 rw[List.pairwise_iff_getElem]
 have key:∀d i,(hi:i+d+1<l.length)→R (l[i]'(by omega)) l[i+d+1]:=by
  intro d
  induction d with
  | zero=>intro i hi;exact ha i _ _ (by omega) (List.getElem?_eq_getElem (by omega)) (List.getElem?_eq_getElem hi)
  | succ d ih =>
   intro i hi
   exact tr _ _ _ (ih i (by omega)) (ha (i+d+1) _ _ (by omega) (List.getElem?_eq_getElem (by omega)) (List.getElem?_eq_getElem hi))
 intro i j hi hj hij
 have:=key (j-i-1) i (by omega)
 simp only[show i+(j-i-1)+1=j by omega]at this
 exact this
def fT{σ:Type}(l:List α)(g:σ→α→σ)(s0:σ)(t:Int)(s:σ):Prop:=∃k:Nat,t=k∧k≤l.length∧s=(l.take k).foldl g s0
section
variable {σ : Type} {g : σ → α → σ} {s0 s : σ}
theorem fT.zero:fT l g s0 0 s0:=⟨0,rfl,by omega,rfl⟩
theorem fT.idx(h:fT l g s0 t s):0≤t:=by obtain⟨k,rfl,_,_⟩:=h;omega
theorem fT.step(h:fT l g s0 t s)(hl:l.length≤9223372036854775807)(hx:l[t.toNat]?=some x){s':σ}(p:s'=g s x):fT l g s0 (W (t+1)) s'∧l.length-(W (t+1)).toNat<l.length-t.toNat:=by
 obtain⟨k,rfl,hk,rfl⟩:=h
 rw[Int.toNat_natCast]at hx
 have:=ay hx
 rw[av (n:=l.length) this hl]
 exact⟨⟨k+1,rfl,by omega,by rw[ax hx,List.foldl_append,p];rfl⟩,by omega⟩
theorem fT.len(h:fT l g s0 t s){f:σ→Nat}{a b:Nat}(h0:f s0≤a)(hs:∀s x,x∈l→f (g s x)≤f s+b):f s≤a+b * t.toNat:=by
 obtain⟨k,rfl,hk,rfl⟩:=h
 rw[Int.toNat_natCast]
 induction k with
 | zero=>simpa using h0
 | succ k ih =>
  rw[ax (List.getElem?_eq_getElem (show k<l.length by omega)),List.foldl_append,List.foldl_cons,List.foldl_nil,Nat.mul_succ]
  have:=hs ((l.take k).foldl g s0) l[k] (List.getElem_mem _)
  have:=ih (by omega)
  omega
theorem fT.done(h:fT l g s0 t s)(c:¬t<l.length):s=l.foldl g s0:=by
 obtain⟨k,rfl,hk,rfl⟩:=h
 rw[List.take_of_length_le (by omega)]
end
def dI{β:Type}(l:List α)(f:α→List β)(t:Int)(out:List β):Prop:=∃k:Nat,t=k∧k≤l.length∧out=(l.take k).flatMap f
section
variable {β : Type} {f : α → List β} {out : List β}
theorem dI.zero:dI l f 0 []:=⟨0,rfl,by omega,rfl⟩
theorem dI.idx(h:dI l f t out):0≤t:=by obtain⟨k,rfl,_,_⟩:=h;omega
theorem dI.step(h:dI l f t out)(hl:l.length≤9223372036854775807)(hx:l[t.toNat]?=some x){out':List β}(p:out'=out++f x):dI l f (W (t+1)) out'∧l.length-(W (t+1)).toNat<l.length-t.toNat:=by
 obtain⟨k,rfl,hk,rfl⟩:=h
 rw[Int.toNat_natCast]at hx
 have:=ay hx
 rw[av (n:=l.length) this hl]
 exact⟨⟨k+1,rfl,by omega,by rw[ax hx,List.flatMap_append,p];simp⟩,by omega⟩
theorem dI.done(h:dI l f t out)(c:¬t<l.length):out=l.flatMap f:=by
 obtain⟨k,rfl,hk,rfl⟩:=h
 rw[List.take_of_length_le (by omega)]
theorem dI.len(h:dI l f t out){b:Nat}(hb:∀x∈l,(f x).length≤b):out.length≤l.length * b:=by
 obtain⟨k,rfl,hk,rfl⟩:=h
 have key:∀m:List α,(∀x∈m,(f x).length≤b)→(m.flatMap f).length≤m.length * b:=by
  intro m
  induction m with
  | nil=>intro _;simp
  | cons x m ih =>
   intro hm
   have h1:=hm x (by simp)
   have h2:=ih λy hy=>hm y (by simp[hy])
   rw[List.flatMap_cons,List.length_append,List.length_cons,Nat.succ_mul];omega
 refine Nat.le_trans (key _ λx hx=>hb x (List.mem_of_mem_take hx)) (Nat.mul_le_mul_right _ ?_)
 rw[List.length_take];omega
end
theorem dv{β:Type}{f:α→β}{l:List α}:(l.flatMap λx=>[f x])=l.map f:=by
 induction l with
 | nil=>rfl
 | cons x l ih=>rw[List.flatMap_cons,ih];rfl
theorem pq{p:α→Bool}{l:List α}:(l.flatMap λx=>if p x=true then [x]else [])=l.filter p:=by
 induction l with
 | nil=>rfl
 | cons x l ih =>
  rw[List.flatMap_cons,ih,List.filter_cons]
  split<;>rfl
def i7(p:α→Bool)(l:List α):Int:=if l.any p=true then((l.findIdx p:Nat):Int)else -1
theorem bP.found{p:α→Bool}(h:bP l (λy=>p y=false) t)(hx:l[t.toNat]?=some x)(hp:p x=true):t=i7 p l:=by
 obtain⟨k,rfl,hk,ha⟩:=h
 rw[Int.toNat_natCast]at hx
 rw[i7,if_pos (List.any_eq_true.mpr ⟨x,aB hx,hp⟩)]
 have:l.findIdx p=k:=by
  have hlt:=ay hx
  rw[List.getElem?_eq_getElem hlt]at hx
  have hx:=Option.some.inj hx
  rw[List.findIdx_eq hlt]
  refine⟨by rw[hx];exact hp,λj hj=>?_⟩
  exact ha _ (List.mem_take_iff_getElem.mpr ⟨j,by omega,rfl⟩)
 rw[this]
theorem bP.lost{p:α→Bool}(h:bP l (λy=>p y=false) t)(c:¬t<l.length):-1=i7 p l:=by
 rw[i7,if_neg]
 rw[List.any_eq_true]
 rintro⟨x,hx,hp⟩
 rw[h.done c x hx]at hp;cases hp
theorem kE(p:α→Bool)(l:List α):decide (0≤i7 p l)=l.any p:=by
 unfold i7
 cases l.any p
 ·rfl
 ·rw[if_pos rfl];exact decide_eq_true (by omega)
theorem gJ{f:α→Int}(h:bP l (λx=>f x=0) t)(hx:l[t.toNat]?=some x)(hn:f x≠0):orI (l.map f)=f x:=by
 obtain⟨k,rfl,hk,ha⟩:=h
 rw[Int.toNat_natCast]at hx
 rw[orI,HN (k:=k) (x:=f x) ?_ (by rw[List.getElem?_map,hx];rfl) hn]
 ·rfl
 ·rw[←List.map_take,List.all_eq_true]
  intro z hz
  obtain⟨w,hw,rfl⟩:=List.mem_map.mp hz
  simp[ha w hw]
theorem gI{f:α→Int}(h:∀x∈l,f x=0):orI (l.map f)=0:=by
 rw[orI,List.find?_eq_none.mpr]
 ·rfl
 ·intro z hz
  obtain⟨w,hw,rfl⟩:=List.mem_map.mp hz
  simp[h w hw]
end
def aU(n lo hi:Int):Bool:=decide (lo≤n∧n≤hi)
def mj(v:Bool):Int:=if v then 0 else 1
def IN(n:Int)(lo:Int)(hi:Int):=okL [.int n,.int lo,.int hi]
def nt(r:Bool):AV:=.bool r
def nr(n:Int)(lo:Int)(hi:Int):Ax Tryz.prog noS (Bool):=
 (.br 80 (decide (lo≤n)) (.ret (decide (n≤hi)))
(.ret (false)))
def qw(n:Int)(lo:Int)(hi:Int)(r0:Bool):=(nr n lo hi).vp nt r0
theorem IM(n lo hi:Int)(ok:IN n lo hi):qw n lo hi (aU n lo hi):=by
 dsimp only[qw,nr,noS,Ax.vp,Ax.vc];simp only[vcU,rfU,List.length_map]
 refine⟨λh=>by simp[aU,h],λh=>by simp[aU,h]⟩
def cA(n:Int)(lo:Int)(hi:Int):PC Tryz.prog:=⟨158,[.k,.k,.k],[.int n,.int lo,.int hi],nt (aU n lo hi),ao.of_ok λok=>aj (sh:=.k) (enc:=nt) (a:=(nr n lo hi).an) (IM n lo hi ok) (by kernel_rfl) (AV.pureB_ok rfl),ai (by kernel_rfl)⟩
def Sg(valid:Bool):=okL [.bool valid]
def va(r:Int):AV:=.int r
def uZ(valid:Bool):Ax Tryz.prog noS (Int):=
 (.br 32 valid (.ret (0))
(.ret (1)))
def yT(valid:Bool)(r0:Int):=(uZ valid).vp va r0
theorem Se(v:Bool)(ok:Sg v):yT v (mj v):=by
 dsimp only[yT,uZ,noS,Ax.vp,Ax.vc];simp only[vcU,rfU,List.length_map]
 cases v<;>simp[mj]
def FQ(valid:Bool):PC Tryz.prog:=⟨159,[.k],[.bool valid],va (mj valid),ao.of_ok λok=>aj (sh:=.k) (enc:=va) (a:=(uZ valid).an) (Se valid ok) (by kernel_rfl) (AV.pureB_ok rfl),ai (by kernel_rfl)⟩
def keyI(x:Itm):Int:=x.ver
def keyP(x:Per):Int:=x.router
def keyH(x:Hrd):Int:=x.router
def VB(x:Itm):=okL [.agg [.int x.ver,.int x.grp,.int x.mode,.sl 1 (x.srcs.map AV.int) false]]
def B2(r:Int):AV:=.int r
def Bz(x:Itm):Ax Tryz.prog noS (Int):=
 (.ret (x.ver))
def Fc(x:Itm)(r0:Int):=(Bz x).vp B2 r0
theorem VA(x:Itm)(ok:VB x):Fc x (keyI x):=by
 dsimp only[Fc,Bz,noS,Ax.vp,Ax.vc];simp only[vcU,rfU,List.length_map]
 rfl
def LT(x:Itm):PC Tryz.prog:=⟨169,[(.a [.k,.k,.k,(.s 1)])],[.agg [.int x.ver,.int x.grp,.int x.mode,.sl 1 (x.srcs.map AV.int) false]],B2 (keyI x),ao.of_ok λok=>aj (sh:=.k) (enc:=B2) (a:=(Bz x).an) (VA x ok) (by kernel_rfl) (AV.pureB_ok rfl),ai (by kernel_rfl)⟩
def V9(p:Per):=okL [.agg [.int p.router,.int p.epoch,.int p.acked]]
def Bx(r:Int):AV:=.int r
def Bw(p:Per):Ax Tryz.prog noS (Int):=
 (.ret (p.router))
def Fa(p:Per)(r0:Int):=(Bw p).vp Bx r0
theorem V8(x:Per)(ok:V9 x):Fa x (keyP x):=by
 dsimp only[Fa,Bw,noS,Ax.vp,Ax.vc];simp only[vcU,rfU,List.length_map]
 rfl
def LS(p:Per):PC Tryz.prog:=⟨161,[.k],[.agg [.int p.router,.int p.epoch,.int p.acked]],Bx (keyP p),ao.of_ok λok=>aj (sh:=.k) (enc:=Bx) (a:=(Bw p).an) (V8 p ok) (by kernel_rfl) (AV.pureB_ok rfl),ai (by kernel_rfl)⟩
def VD(h_:Hrd):=okL [.agg [.int h_.router,.int h_.epoch,.int h_.ver,.sl 4 (h_.items.map Itm.v) false]]
def B4(r:Int):AV:=.int r
def B3(h_:Hrd):Ax Tryz.prog noS (Int):=
 (.ret (h_.router))
def Fd(h_:Hrd)(r0:Int):=(B3 h_).vp B4 r0
theorem VC(x:Hrd)(ok:VD x):Fd x (keyH x):=by
 dsimp only[Fd,B3,noS,Ax.vp,Ax.vc];simp only[vcU,rfU,List.length_map]
 rfl
def LU(h_:Hrd):PC Tryz.prog:=⟨163,[(.a [.k,.k,.k,(.s 4)])],[.agg [.int h_.router,.int h_.epoch,.int h_.ver,.sl 4 (h_.items.map Itm.v) false]],B4 (keyH h_),ao.of_ok λok=>aj (sh:=.k) (enc:=B4) (a:=(B3 h_).an) (VC h_ ok) (by kernel_rfl) (AV.pureB_ok rfl),ai (by kernel_rfl)⟩
def mL{α:Type}(key:α→Int)(l:List α):Bool:=decide (l.Pairwise λx y=>key x<key y)
theorem lw{α:Type}{key:α→Int}{l:List α}(h:∀j x y,l[j]?=some x→l[j+1]?=some y→key x<key y):l.Pairwise λx y=>key x<key y:=by
 have step:∀d i x y,l[i]?=some x→l[i+1+d]?=some y→key x<key y:=by
  intro d
  induction d with
  | zero=>exact h
  | succ d ih =>
   intro i x y hx hy
   have hz:=List.getElem?_eq_getElem (show i+1+d<l.length by have:=ay hy;omega)
   have h1:=ih i x _ hx hz
   have h2:=h (i+1+d) _ y hz hy
   omega
 rw[List.pairwise_iff_getElem]
 intro i j hi hj hij
 exact step (j-i-1) i _ _ (List.getElem?_eq_getElem hi) (by rw[show i+1+(j-i-1)=j by omega];exact List.getElem?_eq_getElem hj)
theorem fF{α:Type}{R:α→α→Prop}{l:List α}(h:l.Pairwise R){i j:Nat}{x y:α}(hij:i<j)(hx:l[i]?=some x)(hy:l[j]?=some y):R x y:=by
 have hi:=ay hx
 have hj:=ay hy
 have:=List.pairwise_iff_getElem.mp h i j hi hj hij
 rw[List.getElem?_eq_getElem hi]at hx;rw[List.getElem?_eq_getElem hj]at hy
 rw[←Option.some.inj hx,←Option.some.inj hy];exact this
def NZ(l:List Itm):=okL [.sl 4 (l.map Itm.v) false,.func 169 []]
def S6(l:List Itm)(t0:Int):NF:=⟨[(0,.k,.sl 4 (l.map Itm.v) false),(1,.k,.func 169 []),(5,.k,.int t0)],[]⟩
@[reducible] def NY:Nat→Type
 | 0=>Int
 | _=>Unit
def CW(r:Bool):AV:=.bool r
def CV(l:List Itm)(I0:Int→Prop)(m0:Int→Nat):Ax Tryz.prog NY (Bool):=
 (.loop 0 (S6 l) I0 m0 ((1):Int) [] λ(t0:Int) b0 =>
(.br 64 (decide (t0<((l.map Itm.v).length:Int))) (.el 128 Itm.v l (λR=>Rf (l.map Itm.v) (ck (decide (0≤(W (t0-1)))) (ck (decide ((W (t0-1))<(l.length:Int)))
(∀x1,l[(W (t0-1)).toNat]?=some x1 →
(R x1))))) λx1 =>
(.callP (LT x1)
(.el 224 Itm.v l (λR=>Rf (l.map Itm.v) (ck (decide (0≤t0)) (ck (decide (t0<(l.length:Int)))
(∀x2,l[t0.toNat]?=some x2 →
(R x2))))) λx2 =>
(.callP (LT x2)
(.br 288 (decide (x2.ver≤x1.ver)) (.ret (false))
(.bk 0 b0 ((W (t0+1)):Int) []))))))
(.ret (true))))
def Gd(l:List Itm)(I0:Int→Prop)(m0:Int→Nat)(r0:Bool):=(CV l I0 m0).vp CW r0
theorem Xc(l:List Itm)(ok:NZ l):∃I m,Gd l I m (mL Itm.ver l):=by
 simp only[NZ,okU,Blk.ok,aK,List.length_map]at ok
 refine⟨λt=>∃k:Nat,t=k∧1≤k∧k≤l.length+1∧∀j x y,j+1<k→l[j]?=some x→l[j+1]?=some y→Itm.ver x<Itm.ver y,λt=>l.length+1-t.toNat,?_⟩
 dsimp only[Gd,CV,NY,Ax.vp,Ax.vc];simp only[vcU,rfU,List.length_map]
 refine⟨⟨1,rfl,by omega,by omega,λj x y hj=>by omega⟩,?_⟩
 rintro _ ⟨k,rfl,hk1,hk,h⟩
 refine⟨λh1=>?_,λh1=>?_⟩
 ·rw[dw (by omega) hk1]
  simp only[Int.toNat_natCast]
  refine⟨by omega,by omega,λx hx=>⟨by omega,by omega,λy hy=>⟨λe=>?_,λe=>?_⟩⟩⟩
  ·refine(decide_eq_false λhp=>?_).symm
   have:Itm.ver x<Itm.ver y:=fF hp (show k-1<k by omega) hx hy
   omega
  ·rw[av (n:=l.length) (by omega) (by omega)]
   refine⟨⟨k+1,rfl,by omega,by omega,λj x' y' hj hx' hy'=>?_⟩,by omega⟩
   by_cases e':j+1=k
   ·subst e'
    rw[show j+1-1=j by omega,hx']at hx;cases hx
    rw[hy']at hy;cases hy;omega
   ·exact h j x' y' (by omega) hx' hy'
 ·exact(decide_eq_true (lw λj x y hx hy=>h j x y (by have:=ay hy;omega) hx hy)).symm
def Xd(l:List Itm):PC Tryz.prog:=⟨168,[(.s 4),.k],[.sl 4 (l.map Itm.v) false,.func 169 []],CW (mL Itm.ver l),ao.of_ok λok=>(Xc l ok).elim λI0 h=>h.elim λm0 h=>aj (sh:=.k) (enc:=CW) (a:=(CV l I0 m0).an) h (by kernel_rfl) (AV.pureB_ok rfl),ai (by kernel_rfl)⟩
def NX(l:List Per):=okL [.sl 3 (l.map Per.v) false,.func 161 []]
def S5(l:List Per)(t0:Int):NF:=⟨[(0,.k,.sl 3 (l.map Per.v) false),(1,.k,.func 161 []),(5,.k,.int t0)],[]⟩
@[reducible] def NW:Nat→Type
 | 0=>Int
 | _=>Unit
def CU(r:Bool):AV:=.bool r
def CT(l:List Per)(I0:Int→Prop)(m0:Int→Nat):Ax Tryz.prog NW (Bool):=
 (.loop 0 (S5 l) I0 m0 ((1):Int) [] λ(t0:Int) b0 =>
(.br 64 (decide (t0<((l.map Per.v).length:Int))) (.el 128 Per.v l (λR=>Rf (l.map Per.v) (ck (decide (0≤(W (t0-1)))) (ck (decide ((W (t0-1))<(l.length:Int)))
(∀x1,l[(W (t0-1)).toNat]?=some x1 →
(R x1))))) λx1 =>
(.callP (LS x1)
(.el 224 Per.v l (λR=>Rf (l.map Per.v) (ck (decide (0≤t0)) (ck (decide (t0<(l.length:Int)))
(∀x2,l[t0.toNat]?=some x2 →
(R x2))))) λx2 =>
(.callP (LS x2)
(.br 288 (decide (x2.router≤x1.router)) (.ret (false))
(.bk 0 b0 ((W (t0+1)):Int) []))))))
(.ret (true))))
def Gc(l:List Per)(I0:Int→Prop)(m0:Int→Nat)(r0:Bool):=(CT l I0 m0).vp CU r0
theorem Xa(l:List Per)(ok:NX l):∃I m,Gc l I m (mL Per.router l):=by
 simp only[NX,okU,Blk.ok,aK,List.length_map]at ok
 refine⟨λt=>∃k:Nat,t=k∧1≤k∧k≤l.length+1∧∀j x y,j+1<k→l[j]?=some x→l[j+1]?=some y→Per.router x<Per.router y,λt=>l.length+1-t.toNat,?_⟩
 dsimp only[Gc,CT,NW,Ax.vp,Ax.vc];simp only[vcU,rfU,List.length_map]
 refine⟨⟨1,rfl,by omega,by omega,λj x y hj=>by omega⟩,?_⟩
 rintro _ ⟨k,rfl,hk1,hk,h⟩
 refine⟨λh1=>?_,λh1=>?_⟩
 ·rw[dw (by omega) hk1]
  simp only[Int.toNat_natCast]
  refine⟨by omega,by omega,λx hx=>⟨by omega,by omega,λy hy=>⟨λe=>?_,λe=>?_⟩⟩⟩
  ·refine(decide_eq_false λhp=>?_).symm
   have:Per.router x<Per.router y:=fF hp (show k-1<k by omega) hx hy
   omega
  ·rw[av (n:=l.length) (by omega) (by omega)]
   refine⟨⟨k+1,rfl,by omega,by omega,λj x' y' hj hx' hy'=>?_⟩,by omega⟩
   by_cases e':j+1=k
   ·subst e'
    rw[show j+1-1=j by omega,hx']at hx;cases hx
    rw[hy']at hy;cases hy;omega
   ·exact h j x' y' (by omega) hx' hy'
 ·exact(decide_eq_true (lw λj x y hx hy=>h j x y (by have:=ay hy;omega) hx hy)).symm
def Xb(l:List Per):PC Tryz.prog:=⟨160,[(.s 3),.k],[.sl 3 (l.map Per.v) false,.func 161 []],CU (mL Per.router l),ao.of_ok λok=>(Xa l ok).elim λI0 h=>h.elim λm0 h=>aj (sh:=.k) (enc:=CU) (a:=(CT l I0 m0).an) h (by kernel_rfl) (AV.pureB_ok rfl),ai (by kernel_rfl)⟩
def Ob(l:List Hrd):=okL [.sl 4 (l.map Hrd.v) false,.func 163 []]
def S7(l:List Hrd)(t0:Int):NF:=⟨[(0,.k,.sl 4 (l.map Hrd.v) false),(1,.k,.func 163 []),(5,.k,.int t0)],[]⟩
@[reducible] def Oa:Nat→Type
 | 0=>Int
 | _=>Unit
def CY(r:Bool):AV:=.bool r
def CX(l:List Hrd)(I0:Int→Prop)(m0:Int→Nat):Ax Tryz.prog Oa (Bool):=
 (.loop 0 (S7 l) I0 m0 ((1):Int) [] λ(t0:Int) b0 =>
(.br 64 (decide (t0<((l.map Hrd.v).length:Int))) (.el 128 Hrd.v l (λR=>Rf (l.map Hrd.v) (ck (decide (0≤(W (t0-1)))) (ck (decide ((W (t0-1))<(l.length:Int)))
(∀x1,l[(W (t0-1)).toNat]?=some x1 →
(R x1))))) λx1 =>
(.callP (LU x1)
(.el 224 Hrd.v l (λR=>Rf (l.map Hrd.v) (ck (decide (0≤t0)) (ck (decide (t0<(l.length:Int)))
(∀x2,l[t0.toNat]?=some x2 →
(R x2))))) λx2 =>
(.callP (LU x2)
(.br 288 (decide (x2.router≤x1.router)) (.ret (false))
(.bk 0 b0 ((W (t0+1)):Int) []))))))
(.ret (true))))
def Ge(l:List Hrd)(I0:Int→Prop)(m0:Int→Nat)(r0:Bool):=(CX l I0 m0).vp CY r0
theorem Xe(l:List Hrd)(ok:Ob l):∃I m,Ge l I m (mL Hrd.router l):=by
 simp only[Ob,okU,Blk.ok,aK,List.length_map]at ok
 refine⟨λt=>∃k:Nat,t=k∧1≤k∧k≤l.length+1∧∀j x y,j+1<k→l[j]?=some x→l[j+1]?=some y→Hrd.router x<Hrd.router y,λt=>l.length+1-t.toNat,?_⟩
 dsimp only[Ge,CX,Oa,Ax.vp,Ax.vc];simp only[vcU,rfU,List.length_map]
 refine⟨⟨1,rfl,by omega,by omega,λj x y hj=>by omega⟩,?_⟩
 rintro _ ⟨k,rfl,hk1,hk,h⟩
 refine⟨λh1=>?_,λh1=>?_⟩
 ·rw[dw (by omega) hk1]
  simp only[Int.toNat_natCast]
  refine⟨by omega,by omega,λx hx=>⟨by omega,by omega,λy hy=>⟨λe=>?_,λe=>?_⟩⟩⟩
  ·refine(decide_eq_false λhp=>?_).symm
   have:Hrd.router x<Hrd.router y:=fF hp (show k-1<k by omega) hx hy
   omega
  ·rw[av (n:=l.length) (by omega) (by omega)]
   refine⟨⟨k+1,rfl,by omega,by omega,λj x' y' hj hx' hy'=>?_⟩,by omega⟩
   by_cases e':j+1=k
   ·subst e'
    rw[show j+1-1=j by omega,hx']at hx;cases hx
    rw[hy']at hy;cases hy;omega
   ·exact h j x' y' (by omega) hx' hy'
 ·exact(decide_eq_true (lw λj x y hx hy=>h j x y (by have:=ay hy;omega) hx hy)).symm
def Xf(l:List Hrd):PC Tryz.prog:=⟨162,[(.s 4),.k],[.sl 4 (l.map Hrd.v) false,.func 163 []],CY (mL Hrd.router l),ao.of_ok λok=>(Xe l ok).elim λI0 h=>h.elim λm0 h=>aj (sh:=.k) (enc:=CY) (a:=(CX l I0 m0).an) h (by kernel_rfl) (AV.pureB_ok rfl),ai (by kernel_rfl)⟩
def cD(l:List Itm)(last:Int):Bool:=decide (aT last l)
def sX(l:List Itm)(s:List Bool):Prop:=s.length=100∧∀g,g<100→s[g]?=some (decide (∃x∈l,x.grp=(g:Nat)))
theorem Kk:sX [] (List.replicate 100 false):=⟨List.length_replicate,λg hg=>by rw[List.getElem?_replicate,if_pos hg];simp⟩
theorem Kl{l:List Itm}{s:List Bool}(h:sX l s){x:Itm}(hx:1≤x.grp∧x.grp≤99):sX (l++[x]) (s.set x.grp.toNat true):=by
 refine⟨by simp[h.1],λg hg=>?_⟩
 rw[List.getElem?_set]
 by_cases e:x.grp.toNat=g
 ·rw[if_pos e,if_pos (by have:=h.1;omega)]
  refine congrArg some (decide_eq_true ⟨x,by simp,by omega⟩).symm
 ·rw[if_neg e,h.2 g hg]
  refine congrArg some ?_
  refine decide_eq_decide.mpr ⟨λ⟨y,hy,hg⟩=>⟨y,by simp[hy],hg⟩,λ⟨y,hy,hg⟩=>?_⟩
  rcases List.mem_append.mp hy with hy|hy
  ·exact⟨y,hy,hg⟩
  ·rw[List.mem_singleton]at hy;subst hy;omega
theorem Ho{l:List Itm}{x:Itm}(h:(l.map Itm.grp).Nodup)(hx:¬∃y∈l,y.grp=x.grp):((l++[x]).map Itm.grp).Nodup:=by
 rw[List.map_append,List.nodup_append]
 refine⟨h,by simp,λa ha b hb e=>?_⟩
 obtain⟨y,hy,rfl⟩:=List.mem_map.mp ha
 simp at hb;subst hb
 exact hx ⟨y,hy,e⟩
def xH(l:List Itm)(last:Int):=okL [.sl 4 (l.map Itm.v) false,.int last]
def Hy(l:List Itm)(last:Int)(t0:Int×List Bool):NF:=⟨[(0,.k,.sl 4 (l.map Itm.v) false),(1,.k,.int last),(5,.k,.ref 0 0),(8,.k,.sl 4 (l.map Itm.v) false),(9,.k,.int ((l.map Itm.v).length:Int)),(10,.k,.int t0.1)],[.arr (t0.2.map AV.bool) (ab (λ_=>rfl) t0.2)]⟩
@[reducible] def xG:Nat→Type
 | 0=>Int×List Bool
 | _=>Unit
def oP(r:Bool):AV:=.bool r
def oO(l:List Itm)(last:Int)(I0:(Int×List Bool)→Prop)(m0:(Int×List Bool)→Nat):Ax Tryz.prog xG (Bool):=
 (.loop 0 (Hy l last) I0 m0 (0,List.replicate 100 false) [16] λ(t0:Int×List Bool) b0 =>
(.br 17 (decide (t0.1<((l.map Itm.v).length:Int))) (.el 17 Itm.v l (λR=>Rf (l.map Itm.v) (ck (decide (0≤t0.1)) (ck (decide (t0.1<(l.length:Int)))
(∀x1,l[t0.1.toNat]?=some x1 →
(R x1))))) λx1 =>
(.callP (cA x1.ver 1 last)
(.br 177 (!(aU x1.ver 1 last)) (.ret (false))
(.callP (cA x1.grp 1 99)
(.br 273 (!(aU x1.grp 1 99)) (.ret (false))
(.say (ck (cond (decide (0≤x1.grp)) (decide (x1.grp<100)) false)) (.el 321 AV.bool t0.2 (λR=>Rf (t0.2.map AV.bool) (ck (decide ((0+(x1.grp.toNat * 1))<t0.2.length))
(∀x2,t0.2[(0+(x1.grp.toNat * 1))]?=some x2 →
(R x2)))) λx2 =>
(.br 369 x2 (.ret (false))
(.callP (vC (⟨x1.mode,x1.srcs⟩:Flt))
(.br 449 ((aF (⟨x1.mode,x1.srcs⟩:Flt).mode (⟨x1.mode,x1.srcs⟩:Flt).srcs) != 0) (.ret (false))
(.say (ck (cond (decide (0≤x1.grp)) (decide (x1.grp<100)) false)) (.st 497 AV.bool t0.2 (λ_=>true) (λR=>Rf (t0.2.map AV.bool) (ck (decide ((0+(x1.grp.toNat * 1))<t0.2.length))
(∀y3,t0.2[(0+(x1.grp.toNat * 1))]?=some y3→Rf (AV.bool true)
((R y3))))) λy3 =>
(.bk 0 b0 (W (t0.1+1),t0.2.set (0+(x1.grp.toNat * 1)) true) [0])))))))))))))
(.callP (Xd l)
(.ret (mL Itm.ver l)))))
def rj(l:List Itm)(last:Int)(I0:(Int×List Bool)→Prop)(m0:(Int×List Bool)→Nat)(r0:Bool):=(oO l last I0 m0).vp oP r0
theorem LW(l:List Itm)(last:Int)(ok:xH l last):∃I m,rj l last I m (cD l last):=by
 simp only[xH,okU,Blk.ok,aK,List.length_map]at ok
 refine⟨λt=>∃k:Nat,t.1=k∧k≤l.length∧sX (l.take k) t.2∧(∀x∈l.take k,kB last x)∧((l.take k).map Itm.grp).Nodup,λt=>l.length-t.1.toNat,?_⟩
 dsimp only[rj,oO,xG,Ax.vp,Ax.vc];simp only[vcU,rfU,List.length_map]
 refine⟨⟨0,rfl,by omega,Kk,by simp,by simp⟩,?_⟩
 rintro⟨_,s⟩ ⟨k,rfl,hk,hs,hi,hn⟩
 simp only[Int.toNat_natCast,Nat.zero_add,Nat.mul_one]at hs ⊢
 refine⟨λh1=>⟨by omega,by omega,λx hx=>?_⟩,λh1=>?_⟩
 ·have hm:=aB hx
  have bad:¬kB last x→false=cD l last:=λh=>(decide_eq_false λe=>h (e.1 x hm)).symm
  refine⟨λe=>bad λe'=>?_,λe1=>⟨λe=>bad λe'=>?_,λe2=>?_⟩⟩
  ·simp[aU]at e;have:=e'.1;omega
  ·simp[aU]at e;have:=e'.2.1;omega
  have hv:1≤x.ver∧x.ver≤last:=by simpa[aU]using e1
  have hg:1≤x.grp∧x.grp≤99:=by simpa[aU]using e2
  have hg2:(bif decide (0≤x.grp)then decide (x.grp<100)else false)=true:=by simp;omega
  have hsl:=hs.1
  refine⟨hg2,by omega,λb hb=>?_⟩
  rw[hs.2 _ (by omega)]at hb
  have hb:=Option.some.inj hb
  have hex:(∃y∈l.take k,y.grp=((x.grp.toNat:Nat):Int))↔∃y∈l.take k,y.grp=x.grp:=by rw[show((x.grp.toNat:Nat):Int)=x.grp by omega]
  refine⟨λe3=>?_,λe3=>⟨λe=>bad λe'=>?_,λe4=>⟨hg2,by omega,λy hy=>?_⟩⟩⟩
  ·rw[e3]at hb
   obtain⟨y,hy,hyx⟩:=hex.mp (of_decide_eq_true hb)
   refine(decide_eq_false λe=>?_).symm
   obtain⟨j,hj,rfl⟩:=List.mem_take_iff_getElem.mp hy
   have:=fF (R:=λa b=>a≠b) e.2.1 (i:=j) (j:=k) (by omega) (by rw[List.getElem?_map,List.getElem?_eq_getElem (by omega)];rfl) (by rw[List.getElem?_map,hx];rfl)
   exact this hyx
  ·have:=e'.2.2;simp[this]at e
  ·have hf:aF x.mode x.srcs=0:=by simpa using e4
   rw[e3]at hb
   have hne:=λh=>of_decide_eq_false hb (hex.mpr h)
   rw[av (n:=l.length) (by omega) (by omega)]
   refine⟨⟨k+1,rfl,by omega,?_,?_,?_⟩,by omega⟩
   ·rw[ax hx];exact Kl hs hg
   ·rw[ax hx]
    intro z hz
    rcases List.mem_append.mp hz with hz|hz
    ·exact hi z hz
    ·rw[List.mem_singleton]at hz;subst hz;exact⟨hv,hg,hf⟩
   ·rw[ax hx];exact Ho hn hne
 ·rw[List.take_of_length_le (by omega)]at hi hn
  simp only[mL,cD,aT]
  exact decide_eq_decide.mpr ⟨λh=>⟨hi,hn,h⟩,λh=>h.2.2⟩
def oQ(l:List Itm)(last:Int):PC Tryz.prog:=⟨133,[(.s 4),.k],[.sl 4 (l.map Itm.v) false,.int last],oP (cD l last),ao.of_ok λok=>(LW l last ok).elim λI0 h=>h.elim λm0 h=>aj (sh:=.k) (enc:=oP) (a:=(oO l last I0 m0).an) h (by kernel_rfl) (AV.pureB_ok rfl),ai (by kernel_rfl)⟩
def dK(s:Spk):Int:=py (bc s)
def fU(l:Lsn):Int:=py (bX l)
theorem yz{p:Prop}[Decidable p](h:¬p):(1:Int)=py p:=by rw[py,if_neg h]
theorem rP{p q:Prop}[Decidable p][Decidable q](h:p↔q):mj (decide p)=py q:=by
 by_cases hp:p
 ·simp[mj,py,hp,h.mp hp]
 ·have hq:¬q:=λhq=>hp (h.mpr hq)
  simp[mj,py,hp,hq]
def Jd(s:Spk):=okL [.agg [.int s.router,.int s.epoch,.int s.last,.sl 4 (s.items.map Itm.v) false,.sl 3 (s.peers.map Per.v) false]]
def Pb(s:Spk)(t0:Int):NF:=⟨[(1,.k,.ref 0 0),(36,.k,.sl 3 (s.peers.map Per.v) false),(37,.k,.int ((s.peers.map Per.v).length:Int)),(38,.k,.int t0)],[.box (.agg [.int s.router,.int s.epoch,.int s.last,.sl 4 (s.items.map Itm.v) false,.sl 3 (s.peers.map Per.v) false])]⟩
@[reducible] def Jc:Nat→Type
 | 0=>Int
 | _=>Unit
def zX(r:Int):AV:=.int r
def zW(s:Spk)(I0:Int→Prop)(m0:Int→Nat):Ax Tryz.prog Jc (Int):=
 (.callP (cA s.router 1 99)
(.br 112 (!(aU s.router 1 99)) (.ret (1))
(.callP (cA s.epoch 1 1000000)
(.br 208 (!(aU s.epoch 1 1000000)) (.ret (1))
(.callP (cA s.last 0 1000000)
(.br 304 (!(aU s.last 0 1000000)) (.ret (1))
(.callP (oQ s.items s.last)
(.br 432 (!(cD s.items s.last)) (.ret (1))
(.br 512 (decide (12<((s.peers.map Per.v).length:Int))) (.ret (1))
(.loop 0 (Pb s) I0 m0 ((0):Int) [0] λ(t0:Int) b0 =>
(.br 17 (decide (t0<((s.peers.map Per.v).length:Int))) (.el 17 Per.v s.peers (λR=>Rf (s.peers.map Per.v) (ck (decide (0≤t0)) (ck (decide (t0<(s.peers.length:Int)))
(∀x1,s.peers[t0.toNat]?=some x1 →
(R x1))))) λx1 =>
(.callP (cA x1.router 1 99)
(.br 161 (!(aU x1.router 1 99)) (.ret (1))
(.br 273 (x1.router==s.router) (.ret (1))
(.callP (cA x1.epoch 0 1000000)
(.br 369 (!(aU x1.epoch 0 1000000)) (.ret (1))
(.callP (cA x1.acked 0 s.last)
(.br 481 (!(aU x1.acked 0 s.last)) (.ret (1))
(.bk 0 b0 ((W (t0+1)):Int) [0])))))))))
(.callP (Xb s.peers)
(.callP (FQ (mL Per.router s.peers))
(.ret (mj (mL Per.router s.peers))))))))))))))))
def DA(s:Spk)(I0:Int→Prop)(m0:Int→Nat)(r0:Int):=(zW s I0 m0).vp zX r0
theorem Ua(s:Spk)(ok:Jd s):∃I m,DA s I m (dK s):=by
 simp only[Jd,okU,Blk.ok,aK,List.length_map]at ok
 refine⟨λt=>∃k:Nat,t=k∧k≤s.peers.length∧∀p∈s.peers.take k,kw s.router s.last p,λt=>s.peers.length-t.toNat,?_⟩
 dsimp only[DA,zW,Jc,Ax.vp,Ax.vc];simp only[vcU,rfU,List.length_map]
 have bad:¬bc s→1=dK s:=yz
 refine⟨λe=>bad λh=>?_,λe1=>⟨λe=>bad λh=>?_,λe2=>⟨λe=>bad λh=>?_,λe3=>⟨λe=>bad λh=>?_,λe4=>⟨λe=>bad λh=>?_,λe5=>?_⟩⟩⟩⟩⟩
 ·have:=h.1;simp[aU]at e;omega
 ·have:=h.2.1;simp[aU]at e;omega
 ·have:=h.2.2.1;simp[aU]at e;omega
 ·have:=h.2.2.2.1;simp[cD,this]at e
 ·have:=h.2.2.2.2.1;omega
 have e1:1≤s.router∧s.router≤99:=by simpa[aU]using e1
 have e2:1≤s.epoch∧s.epoch≤1000000:=by simpa[aU]using e2
 have e3:0≤s.last∧s.last≤1000000:=by simpa[aU]using e3
 have e4:aT s.last s.items:=by simpa[cD]using e4
 refine⟨⟨0,rfl,by omega,by simp⟩,?_⟩
 rintro _ ⟨k,rfl,hk,hp⟩
 simp only[Int.toNat_natCast]
 refine⟨λh1=>⟨by omega,by omega,λx hx=>?_⟩,λh1=>?_⟩
 ·have bad:¬kw s.router s.last x→1=dK s:=λh=>bad λe=>h (e.2.2.2.2.2.1 x (aB hx))
  refine⟨λe=>bad λh=>?_,λp1=>⟨λe=>bad λh=>?_,λp2=>⟨λe=>bad λh=>?_,λp3=>⟨λe=>bad λh=>?_,λp4=>?_⟩⟩⟩⟩
  ·have:=h.1;simp[aU]at e;omega
  ·have:=h.2.1;simp at e;omega
  ·have:=h.2.2.1;simp[aU]at e;omega
  ·have:=h.2.2.2;simp[aU]at e;omega
  rw[av (n:=s.peers.length) (by omega) (by omega)]
  refine⟨⟨k+1,rfl,by omega,?_⟩,by omega⟩
  rw[ax hx]
  intro z hz
  rcases List.mem_append.mp hz with hz|hz
  ·exact hp z hz
  ·rw[List.mem_singleton]at hz;subst hz
   exact⟨by simpa[aU]using p1,by simpa using p2,by simpa[aU]using p3,by simpa[aU]using p4⟩
 ·rw[List.take_of_length_le (by omega)]at hp
  exact rP ⟨λh=>⟨e1,e2,e3,e4,by omega,hp,h⟩,λh=>h.2.2.2.2.2.2⟩
def Ub(s:Spk):PC Tryz.prog:=⟨122,[(.a [.k,.k,.k,(.s 4),(.s 3)])],[.agg [.int s.router,.int s.epoch,.int s.last,.sl 4 (s.items.map Itm.v) false,.sl 3 (s.peers.map Per.v) false]],zX (dK s),ao.of_ok λok=>(Ua s ok).elim λI0 h=>h.elim λm0 h=>aj (sh:=.k) (enc:=zX) (a:=(zW s I0 m0).an) h (by kernel_rfl) (AV.pureB_ok rfl),ai (by kernel_rfl)⟩
def Jr(l:Lsn):=okL [.agg [.int l.router,.int l.epoch,.sl 4 (l.heard.map Hrd.v) false]]
def Pe(l:Lsn)(t0:Int):NF:=⟨[(1,.k,.ref 0 0),(22,.k,.sl 4 (l.heard.map Hrd.v) false),(23,.k,.int ((l.heard.map Hrd.v).length:Int)),(24,.k,.int t0)],[.box (.agg [.int l.router,.int l.epoch,.sl 4 (l.heard.map Hrd.v) false])]⟩
@[reducible] def Jp:Nat→Type
 | 0=>Int
 | _=>Unit
def Ad(r:Int):AV:=.int r
def Ac(l:Lsn)(I0:Int→Prop)(m0:Int→Nat):Ax Tryz.prog Jp (Int):=
 (.callP (cA l.router 1 99)
(.br 112 (!(aU l.router 1 99)) (.ret (1))
(.callP (cA l.epoch 1 1000000)
(.br 208 (!(aU l.epoch 1 1000000)) (.ret (1))
(.br 288 (decide (12<((l.heard.map Hrd.v).length:Int))) (.ret (1))
(.loop 0 (Pe l) I0 m0 ((0):Int) [0] λ(t0:Int) b0 =>
(.br 17 (decide (t0<((l.heard.map Hrd.v).length:Int))) (.el 17 Hrd.v l.heard (λR=>Rf (l.heard.map Hrd.v) (ck (decide (0≤t0)) (ck (decide (t0<(l.heard.length:Int)))
(∀x1,l.heard[t0.toNat]?=some x1 →
(R x1))))) λx1 =>
(.callP (cA x1.router 1 99)
(.br 161 (!(aU x1.router 1 99)) (.ret (1))
(.br 273 (x1.router==l.router) (.ret (1))
(.callP (cA x1.epoch 1 1000000)
(.br 369 (!(aU x1.epoch 1 1000000)) (.ret (1))
(.callP (cA x1.ver 0 1000000)
(.br 465 (!(aU x1.ver 0 1000000)) (.ret (1))
(.callP (oQ x1.items x1.ver)
(.br 577 (!(cD x1.items x1.ver)) (.ret (1))
(.bk 0 b0 ((W (t0+1)):Int) [0])))))))))))
(.callP (Xf l.heard)
(.callP (FQ (mL Hrd.router l.heard))
(.ret (mj (mL Hrd.router l.heard))))))))))))
def DH(l:Lsn)(I0:Int→Prop)(m0:Int→Nat)(r0:Int):=(Ac l I0 m0).vp Ad r0
theorem Uh(l:Lsn)(ok:Jr l):∃I m,DH l I m (fU l):=by
 simp only[Jr,okU,Blk.ok,aK,List.length_map]at ok
 refine⟨λt=>∃k:Nat,t=k∧k≤l.heard.length∧∀h∈l.heard.take k,pb l.router h,λt=>l.heard.length-t.toNat,?_⟩
 dsimp only[DH,Ac,Jp,Ax.vp,Ax.vc];simp only[vcU,rfU,List.length_map]
 have bad:¬bX l→1=fU l:=yz
 refine⟨λe=>bad λh=>?_,λe1=>⟨λe=>bad λh=>?_,λe2=>⟨λe=>bad λh=>?_,λe5=>?_⟩⟩⟩
 ·have:=h.1;simp[aU]at e;omega
 ·have:=h.2.1;simp[aU]at e;omega
 ·have:=h.2.2.1;omega
 have e1:1≤l.router∧l.router≤99:=by simpa[aU]using e1
 have e2:1≤l.epoch∧l.epoch≤1000000:=by simpa[aU]using e2
 refine⟨⟨0,rfl,by omega,by simp⟩,?_⟩
 rintro _ ⟨k,rfl,hk,hp⟩
 simp only[Int.toNat_natCast]
 refine⟨λh1=>⟨by omega,by omega,λx hx=>?_⟩,λh1=>?_⟩
 ·have bad:¬pb l.router x→1=fU l:=λh=>bad λe=>h (e.2.2.2.1 x (aB hx))
  refine⟨λe=>bad λh=>?_,λp1=>⟨λe=>bad λh=>?_,λp2=>⟨λe=>bad λh=>?_,λp3=>⟨λe=>bad λh=>?_,λp4=>⟨λe=>bad λh=>?_,λp5=>?_⟩⟩⟩⟩⟩
  ·have:=h.1;simp[aU]at e;omega
  ·have:=h.2.1;simp at e;omega
  ·have:=h.2.2.1;simp[aU]at e;omega
  ·have:=h.2.2.2.1;simp[aU]at e;omega
  ·have:=h.2.2.2.2;simp[cD,this]at e
  rw[av (n:=l.heard.length) (by omega) (by omega)]
  refine⟨⟨k+1,rfl,by omega,?_⟩,by omega⟩
  rw[ax hx]
  intro z hz
  rcases List.mem_append.mp hz with hz|hz
  ·exact hp z hz
  ·rw[List.mem_singleton]at hz;subst hz
   exact⟨by simpa[aU]using p1,by simpa using p2,by simpa[aU]using p3,by simpa[aU]using p4,by simpa[cD]using p5⟩
 ·rw[List.take_of_length_le (by omega)]at hp
  exact rP ⟨λh=>⟨e1,e2,by omega,hp,h⟩,λh=>h.2.2.2.2⟩
def Jq(l:Lsn):PC Tryz.prog:=⟨126,[(.a [.k,.k,(.s 4)])],[.agg [.int l.router,.int l.epoch,.sl 4 (l.heard.map Hrd.v) false]],Ad (fU l),ao.of_ok λok=>(Uh l ok).elim λI0 h=>h.elim λm0 h=>aj (sh:=.k) (enc:=Ad) (a:=(Ac l I0 m0).an) h (by kernel_rfl) (AV.pureB_ok rfl),ai (by kernel_rfl)⟩
def Cf(f:Flt):=okL [.agg [.int f.mode,.sl 1 (f.srcs.map AV.int) false]]
def jP(r:Flt):AV:=Flt.v r
def jO(f:Flt):Ax Tryz.prog noS (Flt):=
 (.req 64 (f.srcs.length≤1000000) λh1 =>
(.callP (N6 f.srcs h1)
(.ret (f))))
def mf(f:Flt)(r0:Flt):=(jO f).vp jP r0
theorem Cd(f:Flt)(h:f.srcs.length≤1000000)(ok:Cf f):mf f f:=by
 dsimp only[mf,jO,noS,Ax.vp,Ax.vc];simp only[vcU,rfU,List.length_map]
 exact⟨h,trivial⟩
def Ce(f:Flt)(h:f.srcs.length≤1000000):PC Tryz.prog:=⟨135,[(.a [.k,(.s 1)])],[.agg [.int f.mode,.sl 1 (f.srcs.map AV.int) false]],jP f,ao.of_ok λok=>aj (sh:=(.a [.k,(.s 1)])) (enc:=jP) (a:=(jO f).an) (Cd f h ok) (by kernel_rfl) (AV.pureB_ok rfl),ai (by kernel_rfl)⟩
theorem F8{α:Type}{p:α→Bool}{l:List α}{k:Nat}{x:α}(h:∀y∈l.take k,p y=false)(hx:l[k]?=some x)(hp:p x=true):l.find? p=some x:=by
 rw[List.find?_eq_some_iff_getElem]
 have hk:=ay hx
 rw[List.getElem?_eq_getElem hk]at hx
 refine⟨hp,k,hk,Option.some.inj hx,λj hj=>?_⟩
 rw[h _ (List.mem_take_iff_getElem.mpr ⟨j,by omega,rfl⟩)];rfl
def CH(p:Hrd)(r:Int):Int:=cmpI p.router r
def WL(h_:Hrd)(r:Int):=okL [.agg [.int h_.router,.int h_.epoch,.int h_.ver,.sl 4 (h_.items.map Itm.v) false],.int r]
def CG(r:Int):AV:=.int r
def CF(h_:Hrd)(r:Int):Ax Tryz.prog noS (Int):=
 (.callP (N1 h_.router r)
(.ret (cmpI h_.router r)))
def FT(h_:Hrd)(r:Int)(r0:Int):=(CF h_ r).vp CG r0
theorem WK(p:Hrd)(r:Int)(ok:WL p r):FT p r (CH p r):=by
 dsimp only[FT,CF,noS,Ax.vp,Ax.vc];simp only[vcU,rfU,List.length_map]
 rfl
def N2(h_:Hrd)(r:Int):PC Tryz.prog:=⟨174,[(.a [.k,.k,.k,(.s 4)]),.k],[.agg [.int h_.router,.int h_.epoch,.int h_.ver,.sl 4 (h_.items.map Itm.v) false],.int r],CG (CH h_ r),ao.of_ok λok=>aj (sh:=.k) (enc:=CG) (a:=(CF h_ r).an) (WK h_ r ok) (by kernel_rfl) (AV.pureB_ok rfl),ai (by kernel_rfl)⟩
theorem half(i j:Nat)(h:i≤j)(hj:j≤1000000):W ((IntKind.u64.wrap (W ((i:Int)+j))).fdiv 2)=(((i+j) / 2:Nat):Int):=by
 have e1:W ((i:Int)+j)=((i+j:Nat):Int):=bB ⟨by omega,by omega⟩
 rw[e1]
 have e2:IntKind.u64.wrap ((i+j:Nat):Int)=((i+j:Nat):Int):=by simp[IntKind.wrap,IntKind.signed,IntKind.bits];omega
 rw[e2,show Int.fdiv ((i+j:Nat):Int) 2=(((i+j) / 2:Nat):Int) by rw[Int.fdiv_eq_ediv_of_nonneg _ (by omega)];rfl]
 exact bB ⟨by omega,by omega⟩
theorem Ml{α:Type}{key:α→Int}{l:List α}{r:Int}{i:Nat}(hi:i≤l.length)(h1:∀k x,k<i→l[k]?=some x→key x<r)(h2:∀k x,i≤k→l[k]?=some x→r≤key x) :
  l.findIdx (λp=>!decide (key p<r))=i:=by
 by_cases e:i=l.length
 ·subst e
  rw[List.findIdx_eq_length]
  intro x hx
  obtain⟨k,hk,rfl⟩:=List.mem_iff_getElem.mp hx
  have:=h1 k _ hk (List.getElem?_eq_getElem hk)
  simp[this]
 ·rw[List.findIdx_eq (by omega)]
  refine⟨?_,λj hj=>?_⟩
  ·have:=h2 i _ (Nat.le_refl _) (List.getElem?_eq_getElem (by omega))
   simp;omega
  ·have:=h1 j _ hj (List.getElem?_eq_getElem (by omega))
   simp[this]
theorem getD_some{α:Type}{l:List α}{i:Nat}{x d:α}(h:l[i]?=some x):l.getD i d=x:=by rw[List.getD,h];rfl
theorem vb(x y:Int):cmpI x y<0↔x<y:=by
 unfold cmpI;split
 ·simp_all
 ·split<;>simp_all
theorem Nz(x y:Int):cmpI x y=0↔x=y:=by
 unfold cmpI;split
 ·simp;omega
 ·split
  ·simp;omega
  ·simp;omega
def Tt(x:List Hrd)(target:Int):=okL [.sl 4 (x.map Hrd.v) false,.int target,.func 174 []]
def WT(x:List Hrd)(target:Int)(t0:Int×Int):NF:=⟨[(0,.k,.sl 4 (x.map Hrd.v) false),(1,.k,.int target),(2,.k,.func 174 []),(8,.k,.int ((x.map Hrd.v).length:Int)),(9,.k,.int t0.1),(10,.k,.int t0.2)],[]⟩
@[reducible] def Ts:Nat→Type
 | 0=>Int×Int
 | _=>Unit
def NP(r:Int×Bool):AV:=.tup [.int r.1,.bool r.2]
def NN(x:List Hrd)(target:Int)(I0:(Int×Int)→Prop)(m0:(Int×Int)→Nat):Ax Tryz.prog Ts (Int×Bool):=
 (.loop 0 (WT x target) I0 m0 (0,((x.map Hrd.v).length:Int)) [] λ(t0:Int×Int) b0 =>
(.br 48 (decide (t0.1<t0.2)) (.el 208 Hrd.v x (λR=>Rf (x.map Hrd.v) (ck (decide (0≤(W (Int.fdiv (IntKind.u64.wrap (W (t0.1+t0.2))) 2)))) (ck (decide ((W (Int.fdiv (IntKind.u64.wrap (W (t0.1+t0.2))) 2))<(x.length:Int)))
(∀x1,x[(W (Int.fdiv (IntKind.u64.wrap (W (t0.1+t0.2))) 2)).toNat]?=some x1 →
(R x1))))) λx1 =>
(.callP (N2 x1 target)
(.br 288 (decide ((CH x1 target)<0)) (.bk 0 b0 (W ((W (Int.fdiv (IntKind.u64.wrap (W (t0.1+t0.2))) 2))+1),t0.2) [])
(.bk 0 b0 (t0.1,W (Int.fdiv (IntKind.u64.wrap (W (t0.1+t0.2))) 2)) []))))
(.br 128 (decide (t0.1<((x.map Hrd.v).length:Int))) (.el 176 Hrd.v x (λR=>Rf (x.map Hrd.v) (ck (decide (0≤t0.1)) (ck (decide (t0.1<(x.length:Int)))
(∀x2,x[t0.1.toNat]?=some x2 →
(R x2))))) λx2 =>
(.callP (N2 x2 target)
(.ret (t0.1,(CH x2 target)==0))))
(.ret (t0.1,false)))))
def NO(x:List Hrd)(target:Int)(I0:(Int×Int)→Prop)(m0:(Int×Int)→Nat)(r0:Int×Bool):=(NN x target I0 m0).vp NP r0
theorem bsH_p(l:List Hrd)(r:Int)(h:l.Pairwise λx y=>x.router<y.router)(hl:l.length≤1000000)(ok:Tt l r):∃I m,NO l r I m ((bp l r:Int),decide (fX l r)):=by
 simp only[Tt,okU,Blk.ok,aK,List.length_map]at ok
 refine⟨λt=>∃i j:Nat,t=((i:Int),(j:Int))∧i≤j∧j≤l.length∧(∀k x,k<i→l[k]?=some x→x.router<r)∧(∀k x,j≤k→l[k]?=some x→r≤x.router),λt=>(t.2-t.1).toNat,?_⟩
 dsimp only[NO,NN,Ts,Ax.vp,Ax.vc];simp only[vcU,rfU,List.length_map]
 refine⟨⟨0,l.length,rfl,by omega,by omega,λk x hk=>by omega,λk x hk hx=>by have:=ay hx;omega⟩,?_⟩
 rintro _ ⟨i,j,rfl,hij,hj,h1,h2⟩
 refine⟨λh3=>?_,λh3=>?_⟩
 ·have h3:i<j:=by simpa using h3
  simp only[half i j hij (by omega),Int.toNat_natCast]
  refine⟨by omega,by omega,λx hx=>⟨λe=>?_,λe=>?_⟩⟩
  ·rw[CH,vb]at e
   rw[av (n:=l.length) (by omega) (by omega)]
   refine⟨⟨_,_,rfl,by omega,hj,λk y hk hy=>?_,h2⟩,by omega⟩
   by_cases e':k=(i+j) / 2
   ·subst e';rw[hx]at hy;cases hy;exact e
   ·have:=fF h (show k<(i+j) / 2 by omega) hy hx;omega
  ·rw[CH,vb]at e
   refine⟨⟨_,_,rfl,by omega,by omega,h1,λk y hk hy=>?_⟩,by omega⟩
   by_cases e':k=(i+j) / 2
   ·subst e';rw[hx]at hy;cases hy;omega
   ·have:=fF h (show(i+j) / 2<k by omega) hx hy;omega
 ·have h3:i=j:=by simp at h3;omega
  subst h3
  have hp:bp l r=i:=Ml (key:=Hrd.router) hj h1 h2
  simp only[Int.toNat_natCast]
  refine⟨λh4=>⟨by omega,by omega,λx hx=>?_⟩,λh4=>?_⟩
  ·have e:fX l r↔x.router=r:=by rw[fX,hp,getD_some hx];exact⟨λh=>h.2,λh=>⟨ay hx,h⟩⟩
   rw[hp]
   refine congrArg _ ?_
   rw[CH,Bool.eq_iff_iff,decide_eq_true_iff,e,beq_iff_eq,Nz]
  ·rw[hp,decide_eq_false]
   rw[fX,hp];intro h;omega
def bsH_c(x:List Hrd)(target:Int)(h:x.Pairwise λx y=>x.router<y.router)(hl:x.length≤1000000):PC Tryz.prog:=⟨173,[(.s 4),.k,.k],[.sl 4 (x.map Hrd.v) false,.int target,.func 174 []],NP ((bp x target:Int),decide (fX x target)),ao.of_ok λok=>(bsH_p x target h hl ok).elim λI0 h=>h.elim λm0 h=>aj (sh:=.k) (enc:=NP) (a:=(NN x target I0 m0).an) h (by kernel_rfl) (AV.pureB_ok rfl),ai (by kernel_rfl)⟩
def Ro(l:Lsn)(router:Int):=okL [.agg [.int l.router,.int l.epoch,.sl 4 (l.heard.map Hrd.v) false],.int router]
def uj(r:Int×Bool):AV:=.tup [.int r.1,.bool r.2]
def ui(l:Lsn)(router:Int):Ax Tryz.prog noS (Int×Bool):=
 (.req 96 (l.heard.Pairwise λx y=>x.router<y.router) λh1 =>
(.req 96 (l.heard.length≤1000000) λh2 =>
(.callP (bsH_c l.heard router h1 h2)
(.ret ((bp l.heard router:Int),decide (fX l.heard router))))))
def xW(l:Lsn)(router:Int)(r0:Int×Bool):=(ui l router).vp uj r0
theorem Rm(l:Lsn)(r:Int)(h:l.heard.Pairwise λx y=>x.router<y.router)(hl:l.heard.length≤1000000)(ok:Ro l r):xW l r ((bp l.heard r:Int),decide (fX l.heard r)):=by
 dsimp only[xW,ui,noS,Ax.vp,Ax.vc];simp only[vcU,rfU,List.length_map]
 exact⟨h,hl,trivial⟩
def Rn(l:Lsn)(router:Int)(h:l.heard.Pairwise λx y=>x.router<y.router)(hl:l.heard.length≤1000000):PC Tryz.prog:=⟨138,[(.a [.k,.k,(.s 4)]),.k],[.agg [.int l.router,.int l.epoch,.sl 4 (l.heard.map Hrd.v) false],.int router],uj ((bp l.heard router:Int),decide (fX l.heard router)),ao.of_ok λok=>aj (sh:=.k) (enc:=uj) (a:=(ui l router).an) (Rm l router h hl ok) (by kernel_rfl) (AV.pureB_ok rfl),ai (by kernel_rfl)⟩
def noF(f:Flt):Bool:=f.mode==1 && (f.srcs.length:Int)==0
def noF_a(f:Flt):=okL [.agg [.int f.mode,.sl 1 (f.srcs.map AV.int) false]]
def Lv(r:Bool):AV:=.bool r
def Lt(f:Flt):Ax Tryz.prog noS (Bool):=
 (.br 96 (f.mode==1) (.ret (((f.srcs.map AV.int).length:Int)==0))
(.ret (false)))
def Lu(f:Flt)(r0:Bool):=(Lt f).vp Lv r0
theorem noF_p(f:Flt)(ok:noF_a f):Lu f (noF f):=by
 dsimp only[Lu,Lt,noS,Ax.vp,Ax.vc];simp only[vcU,rfU,List.length_map]
 by_cases h:f.mode=1<;>simp[noF,h]
def noF_c(f:Flt):PC Tryz.prog:=⟨175,[(.a [.k,(.s 1)])],[.agg [.int f.mode,.sl 1 (f.srcs.map AV.int) false]],Lv (noF f),ao.of_ok λok=>aj (sh:=.k) (enc:=Lv) (a:=(Lt f).an) (noF_p f ok) (by kernel_rfl) (AV.pureB_ok rfl),ai (by kernel_rfl)⟩
def NC(l:List Wnt)(am:Bool):=okL [.sl 3 (l.map Wnt.v) false,.bool am]
def Il(l:List Wnt)(am:Bool)(t0:Int):NF:=⟨[(0,.k,.sl 3 (l.map Wnt.v) false),(1,.k,.bool am),(16,.k,.sl 3 (l.map Wnt.v) false),(17,.k,.int ((l.map Wnt.v).length:Int)),(18,.k,.int t0)],[]⟩
def Ik(l:List Wnt)(am:Bool)(t1:Int):NF:=⟨[(0,.k,.sl 3 (l.map Wnt.v) false),(1,.k,.bool am),(31,.k,.sl 3 (l.map Wnt.v) false),(32,.k,.int ((l.map Wnt.v).length:Int)),(33,.k,.int t1)],[]⟩
def Ij(l:List Wnt)(am:Bool)(t2:Int):NF:=⟨[(0,.k,.sl 3 (l.map Wnt.v) false),(1,.k,.bool am),(44,.k,.sl 3 (l.map Wnt.v) false),(45,.k,.int ((l.map Wnt.v).length:Int)),(46,.k,.int t2)],[]⟩
def Ii(l:List Wnt)(t3:Int):NF:=⟨[(0,.k,.sl 3 (l.map Wnt.v) false),(12,.k,.int t3)],[]⟩
@[reducible] def zb:Nat→Type
 | 0=>Int
 | 1=>Int
 | 2=>Int
 | 3=>Int
 | _=>Unit
def pI(r:Int):AV:=.int r
def pH(l:List Wnt)(am:Bool)(I0:Int→Prop)(m0:Int→Nat)(I1:Int→Int→Prop)(m1:Int→Int→Nat)(I2:Int→Int→Int→Prop)(m2:Int→Int→Int→Nat)(I3:Int→Int→Int→Int→Prop)(m3:Int→Int→Int→Int→Nat):Ax Tryz.prog zb (Int):=
 (.br 64 (decide (32<((l.map Wnt.v).length:Int))) (.ret (3))
(.loop 0 (Il l am) I0 m0 ((0):Int) [] λ(t0:Int) b0 =>
(.br 16 (decide (t0<((l.map Wnt.v).length:Int))) (.el 16 Wnt.v l (λR=>Rf (l.map Wnt.v) (ck (decide (0≤t0)) (ck (decide (t0<(l.length:Int)))
(∀x1,l[t0.toNat]?=some x1 →
(R x1))))) λx1 =>
(.br 144 (decide (x1.grp<1)) (.ret (2))
(.br 208 (decide (99<x1.grp)) (.ret (2))
(.bk 0 b0 ((W (t0+1)):Int) []))))
(.loop 1 (Ik l am) (I1 t0) (m1 t0) ((0):Int) [] λ(t1:Int) b1 =>
(.br 16 (decide (t1<((l.map Wnt.v).length:Int))) (.el 16 Wnt.v l (λR=>Rf (l.map Wnt.v) (ck (decide (0≤t1)) (ck (decide (t1<(l.length:Int)))
(∀x2,l[t1.toNat]?=some x2 →
(R x2))))) λx2 =>
(.callP (vC (⟨x2.mode,x2.srcs⟩:Flt))
(.br 176 ((aF (⟨x2.mode,x2.srcs⟩:Flt).mode (⟨x2.mode,x2.srcs⟩:Flt).srcs) != 0) (.ret (aF (⟨x2.mode,x2.srcs⟩:Flt).mode (⟨x2.mode,x2.srcs⟩:Flt).srcs))
(.bk 1 b1 ((W (t1+1)):Int) []))))
(.loop 2 (Ij l am) (I2 t0 t1) (m2 t0 t1) ((0):Int) [] λ(t2:Int) b2 =>
(.br 16 (decide (t2<((l.map Wnt.v).length:Int))) (.el 16 Wnt.v l (λR=>Rf (l.map Wnt.v) (ck (decide (0≤t2)) (ck (decide (t2<(l.length:Int)))
(∀x3,l[t2.toNat]?=some x3 →
(R x3))))) λx3 =>
(.br 128 (!am) (.callP (noF_c (⟨x3.mode,x3.srcs⟩:Flt))
(.br 192 (noF (⟨x3.mode,x3.srcs⟩:Flt)) (.ret (1))
(.bk 2 b2 ((W (t2+1)):Int) [])))
(.bk 2 b2 ((W (t2+1)):Int) [])))
(.loop 3 (Ii l) (I3 t0 t1 t2) (m3 t0 t1 t2) ((1):Int) [] λ(t3:Int) b3 =>
(.br 64 (decide (t3<((l.map Wnt.v).length:Int))) (.el 112 Wnt.v l (λR=>Rf (l.map Wnt.v) (ck (decide (0≤(W (t3-1)))) (ck (decide ((W (t3-1))<(l.length:Int)))
(∀x4,l[(W (t3-1)).toNat]?=some x4 →
(R x4))))) λx4 =>
(.el 192 Wnt.v l (λR=>Rf (l.map Wnt.v) (ck (decide (0≤t3)) (ck (decide (t3<(l.length:Int)))
(∀x5,l[t3.toNat]?=some x5 →
(R x5))))) λx5 =>
(.br 256 (decide (x5.grp≤x4.grp)) (.ret (25))
(.bk 3 b3 ((W (t3+1)):Int) []))))
(.ret (0)))))))))))
def rR(l:List Wnt)(am:Bool)(I0:Int→Prop)(m0:Int→Nat)(I1:Int→Int→Prop)(m1:Int→Int→Nat)(I2:Int→Int→Int→Prop)(m2:Int→Int→Int→Nat)(I3:Int→Int→Int→Int→Prop)(m3:Int→Int→Int→Int→Nat)(r0:Int):=(pH l am I0 m0 I1 m1 I2 m2 I3 m3).vp pI r0
theorem Le{α:Type}{l:List α}{f:α→Int}{k:Nat}{x:α}(h:∀y∈l.take k,f y=0)(hx:l[k]?=some x)(hn:f x≠0):orI (l.map f)=f x:=by
 rw[orI,F8 (k:=k) (x:=f x)]
 ·rfl
 ·intro y hy
  rw[←List.map_take]at hy
  obtain⟨z,hz,rfl⟩:=List.mem_map.mp hy
  simp[h z hz]
 ·rw[List.getElem?_map,hx];rfl
 ·simpa using hn
theorem EI{α:Type}{l:List α}{f:α→Int}(h:∀y∈l,f y=0):orI (l.map f)=0:=by
 rw[orI,List.find?_eq_none.mpr];· rfl
 intro x hx;obtain⟨z,hz,rfl⟩:=List.mem_map.mp hx;simp[h z hz]
theorem gV{α:Type}{P:α→Prop}{l:List α}{k:Nat}{x:α}(h:∀y∈l.take k,P y)(hx:l[k]?=some x)(hp:P x):∀y∈l.take (k+1),P y:=by
 rw[ax hx]
 intro z hz
 rcases List.mem_append.mp hz with hz|hz
 ·exact h z hz
 ·rw[List.mem_singleton]at hz;subst hz;exact hp
theorem NA(l:List Wnt)(chg:Bool)(ok:NC l chg):∃I0 m0 I1 m1 I2 m2 I3 m3,rR l chg I0 m0 I1 m1 I2 m2 I3 m3 (bh chg l):=by
 let R:Prop:=∀w∈l,1≤w.grp∧w.grp≤99
 let F:Prop:=∀w∈l,aF w.mode w.srcs=0
 let N:Prop:=chg=false→∀w∈l,¬dB w
 refine⟨λt=>∃k:Nat,t=k∧k≤l.length∧∀w∈l.take k,1≤w.grp∧w.grp≤99,λt=>l.length-t.toNat,
  λ_ t=>R∧∃k:Nat,t=k∧k≤l.length∧∀w∈l.take k,aF w.mode w.srcs=0,λ_ t=>l.length-t.toNat,
  λ_ _ t=>R∧F∧∃k:Nat,t=k∧k≤l.length∧∀w∈l.take k,chg=false→¬dB w,λ_ _ t=>l.length-t.toNat,
  λ_ _ _ t=>R∧F∧N∧∃k:Nat,t=k∧1≤k∧k≤l.length+1∧∀j x y,j+1<k→l[j]?=some x→l[j+1]?=some y→x.grp<y.grp,λ_ _ _ t=>l.length+1-t.toNat,?_⟩
 dsimp only[rR,pH,zb,Ax.vp,Ax.vc];simp only[vcU,rfU,List.length_map]
 have hno:∀x:Wnt,noF ⟨x.mode,x.srcs⟩=true↔dB x:=λx=>by simp[noF,dB]
 refine⟨λe=>by rw[bh,if_pos (by omega)],λe0=>⟨⟨0,rfl,by omega,by simp⟩,?_⟩⟩
 have e0:¬32<l.length:=by omega
 rintro _ ⟨k,rfl,hk,h⟩
 simp only[Int.toNat_natCast]
 refine⟨λh1=>⟨by omega,by omega,λx hx=>?_⟩,λh1=>?_⟩
 ·have bad:¬(1≤x.grp∧x.grp≤99)→2=bh chg l:=λh=>by
   rw[bh,if_neg e0,if_pos λh'=>h (h' x (aB hx))]
  refine⟨λe=>bad (by omega),λe1=>⟨λe=>bad (by omega),λe2=>?_⟩⟩
  rw[av (n:=l.length) (by omega) (by omega)]
  exact⟨⟨k+1,rfl,by omega,gV h hx ⟨by omega,by omega⟩⟩,by omega⟩
 rw[List.take_of_length_le (by omega)]at h
 have hR:R:=h
 have w1:bh chg l=if fC l≠0 then fC l else if chg=false∧∃w∈l,dB w then 1 else if ¬(l.Pairwise λx y=>x.grp<y.grp)then 25 else 0:=by
  rw[bh,if_neg e0,if_neg (λh=>h hR)]
 clear h h1 hk k
 refine⟨⟨hR,0,rfl,by omega,by simp⟩,?_⟩
 rintro _ ⟨-,k,rfl,hk,h⟩
 simp only[Int.toNat_natCast]
 refine⟨λh1=>⟨by omega,by omega,λx hx=>⟨λe=>?_,λe=>?_⟩⟩,λh1=>?_⟩
 ·have e:aF x.mode x.srcs≠0:=by simpa using e
  have:fC l=aF x.mode x.srcs:=Le (f:=λx:Wnt=>aF x.mode x.srcs) h hx e
  rw[w1,this,if_pos e]
 ·rw[av (n:=l.length) (by omega) (by omega)]
  exact⟨⟨hR,k+1,rfl,by omega,gV h hx (by simpa using e)⟩,by omega⟩
 rw[List.take_of_length_le (by omega)]at h
 have hF:F:=h
 have w2:bh chg l=if chg=false∧∃w∈l,dB w then 1 else if ¬(l.Pairwise λx y=>x.grp<y.grp)then 25 else 0:=by
  rw[w1,if_neg (λhh=>hh (EI hF))]
 clear h h1 hk k
 refine⟨⟨hR,hF,0,rfl,by omega,by simp⟩,?_⟩
 rintro _ ⟨-,-,k,rfl,hk,h⟩
 simp only[Int.toNat_natCast]
 refine⟨λh1=>⟨by omega,by omega,λx hx=>?_⟩,λh1=>?_⟩
 ·have step:(chg=false→¬dB x)→(R∧F∧∃k':Nat,W ((k:Int)+1)=k'∧k'≤l.length∧∀w∈l.take k',chg=false→¬dB w)∧l.length-(W ((k:Int)+1)).toNat<l.length-k:=by
   intro hs
   rw[av (n:=l.length) (by omega) (by omega)]
   exact⟨⟨hR,hF,k+1,rfl,by omega,gV h hx hs⟩,by omega⟩
  refine⟨λe=>⟨λe2=>?_,λe2=>step λ_ hn=>?_⟩,λe=>step λhc=>?_⟩
  ·rw[w2,if_pos ⟨by simpa using e,x,aB hx,(hno x).mp e2⟩]
  ·rw[(hno x).mpr hn]at e2;cases e2
  ·simp[hc]at e
 rw[List.take_of_length_le (by omega)]at h
 have hN:N:=λhc w hw=>h w hw hc
 have w3:bh chg l=if ¬(l.Pairwise λx y=>x.grp<y.grp)then 25 else 0:=by
  rw[w2,if_neg (λ⟨hc,w,hw,hn⟩=>hN hc w hw hn)]
 clear h h1 hk k
 refine⟨⟨hR,hF,hN,1,rfl,by omega,by omega,λj x y hj=>by omega⟩,?_⟩
 rintro _ ⟨-,-,-,k,rfl,hk1,hk,h⟩
 refine⟨λh1=>?_,λh1=>?_⟩
 ·rw[dw (by omega) hk1]
  simp only[Int.toNat_natCast]
  refine⟨by omega,by omega,λx hx=>⟨by omega,by omega,λy hy=>⟨λe=>?_,λe=>?_⟩⟩⟩
  ·rw[w3,if_pos]
   intro hp
   have:x.grp<y.grp:=fF hp (show k-1<k by omega) hx hy
   omega
  ·rw[av (n:=l.length) (by omega) (by omega)]
   refine⟨⟨hR,hF,hN,k+1,rfl,by omega,by omega,λj x' y' hj hx' hy'=>?_⟩,by omega⟩
   by_cases e':j+1=k
   ·subst e'
    rw[show j+1-1=j by omega,hx']at hx;cases hx
    rw[hy']at hy;cases hy;omega
   ·exact h j x' y' (by omega) hx' hy'
 ·rw[w3,if_neg]
  exact λhh=>hh (lw λj x y hx hy=>h j x y (by have:=ay hy;omega) hx hy)
def NB(l:List Wnt)(am:Bool):PC Tryz.prog:=⟨139,[(.s 3),.k],[.sl 3 (l.map Wnt.v) false,.bool am],pI (bh am l),ao.of_ok λok=>(NA l am ok).elim λI0 h=>h.elim λm0 h=>h.elim λI1 h=>h.elim λm1 h=>h.elim λI2 h=>h.elim λm2 h=>h.elim λI3 h=>h.elim λm3 h=>aj (sh:=.k) (enc:=pI) (a:=(pH l am I0 m0 I1 m1 I2 m2 I3 m3).an) h (by kernel_rfl) (AV.pureB_ok rfl),ai (by kernel_rfl)⟩
def TZ(l:List Wnt):=okL [.sl 3 (l.map Wnt.v) false]
def zV(r:Int):AV:=.int r
def zU(l:List Wnt):Ax Tryz.prog noS (Int):=
 (.callP (NB l false)
(.ret (bh false l)))
def D9(l:List Wnt)(r0:Int):=(zU l).vp zV r0
theorem TX(l:List Wnt)(ok:TZ l):D9 l (bh false l):=by
 dsimp only[D9,zU,noS,Ax.vp,Ax.vc];simp only[vcU,rfU,List.length_map]
def TY(l:List Wnt):PC Tryz.prog:=⟨99,[(.s 3)],[.sl 3 (l.map Wnt.v) false],zV (bh false l),ao.of_ok λok=>aj (sh:=.k) (enc:=zV) (a:=(zU l).an) (TX l ok) (by kernel_rfl) (AV.pureB_ok rfl),ai (by kernel_rfl)⟩
structure Bnd where
  lo:Int
  hi:Int
structure Frm where
  l0:Int
  h0:Int
  l1:Int
  h1:Int
  l2:Int
  h2:Int
  l3:Int
  h3:Int
  l4:Int
  h4:Int
def Frm.v(b:Frm):AV:=.agg [.int b.l0,.int b.h0,.int b.l1,.int b.h1,.int b.l2,.int b.h2,.int b.l3,.int b.h3,.int b.l4,.int b.h4]
def kJ(b:Bnd)(n:Int):Bool:=decide (b.lo≤n) && decide (n≤b.hi)
def Wc(b:Bnd)(n:Int):=okL [.agg [.int b.lo,.int b.hi],.int n]
def BQ(r:Bool):AV:=.bool r
def BP(b:Bnd)(n:Int):Ax Tryz.prog noS (Bool):=
 (.br 112 (decide (b.lo≤n)) (.ret (decide (n≤b.hi)))
(.ret (false)))
def Fu(b:Bnd)(n:Int)(r0:Bool):=(BP b n).vp BQ r0
theorem Wb(b:Bnd)(n:Int)(ok:Wc b n):Fu b n (kJ b n):=by
 dsimp only[Fu,BP,noS,Ax.vp,Ax.vc];simp only[vcU,rfU,List.length_map]
 by_cases h:b.lo≤n<;>simp[kJ,h]
def BR(b:Bnd)(n:Int):PC Tryz.prog:=⟨166,[.k,.k],[.agg [.int b.lo,.int b.hi],.int n],BQ (kJ b n),ao.of_ok λok=>aj (sh:=.k) (enc:=BQ) (a:=(BP b n).an) (Wb b n ok) (by kernel_rfl) (AV.pureB_ok rfl),ai (by kernel_rfl)⟩
def aH(s:Sig):Frm×Bool:=
 if s.kind=1 then(⟨1,1000000,0,1000000,0,0,0,0,0,0⟩,true)
 else if s.kind=2 then(⟨1,1000000,1,1000000,0,W (s.ver-1),0,0,1,99⟩,true)
 else if s.kind=3 then(⟨0,1000000,0,1000000,0,0,1,1000000,0,0⟩,true)
 else(⟨0,0,0,0,0,0,0,0,0,0⟩,false)
def R9(s:Sig):=okL [.agg [.int s.kind,.int s.src,.int s.dst,.int s.epoch,.int s.ver,.int s.prev,.int s.pep,.int s.grp,.int s.mode,.sl 1 (s.srcs.map AV.int) false]]
def uy(r:Frm×Bool):AV:=.tup [Frm.v r.1,.bool r.2]
def ux(s:Sig):Ax Tryz.prog noS (Frm×Bool):=
 (.br 112 (s.kind==1) (.ret ((⟨1,1000000,0,1000000,0,0,0,0,0,0⟩:Frm),true))
(.br 144 (s.kind==2) (.ret ((⟨1,1000000,1,1000000,0,W (s.ver-1),0,0,1,99⟩:Frm),true))
(.br 176 (s.kind==3) (.ret ((⟨0,1000000,0,1000000,0,0,1,1000000,0,0⟩:Frm),true))
(.ret ((⟨0,0,0,0,0,0,0,0,0,0⟩:Frm),false)))))
def yi(s:Sig)(r0:Frm×Bool):=(ux s).vp uy r0
theorem R7(s:Sig)(ok:R9 s):yi s (aH s):=by
 dsimp only[yi,ux,noS,Ax.vp,Ax.vc];simp only[vcU,rfU,List.length_map]
 refine⟨λe=>?_,λe=>⟨λe2=>?_,λe2=>⟨λe3=>?_,λe3=>?_⟩⟩⟩
 all_goals simp at *
 all_goals simp[aH, *]
def R8(s:Sig):PC Tryz.prog:=⟨165,[(.a [.k,.k,.k,.k,.k,.k,.k,.k,.k,(.s 1)])],[.agg [.int s.kind,.int s.src,.int s.dst,.int s.epoch,.int s.ver,.int s.prev,.int s.pep,.int s.grp,.int s.mode,.sl 1 (s.srcs.map AV.int) false]],uy (aH s),ao.of_ok λok=>aj (sh:=.k) (enc:=uy) (a:=(ux s).an) (R7 s ok) (by kernel_rfl) (AV.pureB_ok rfl),ai (by kernel_rfl)⟩
theorem iU{b:Bnd}{n:Int}:kJ b n=true↔b.lo≤n∧n≤b.hi:=by simp[kJ]
def Lm(s:Sig):List Int:=[s.epoch,s.ver,s.prev,s.pep,s.grp]
def Su(f:Frm):List Bnd:=[⟨f.l0,f.h0⟩,⟨f.l1,f.h1⟩,⟨f.l2,f.h2⟩,⟨f.l3,f.h3⟩,⟨f.l4,f.h4⟩]
theorem five{p:Int→Bnd→Prop}{s:Sig}{f:Frm}:(∀(j:Nat) x b,(Lm s)[j]?=some x→(Su f)[j]?=some b→p x b)↔p s.epoch ⟨f.l0,f.h0⟩∧p s.ver ⟨f.l1,f.h1⟩∧p s.prev ⟨f.l2,f.h2⟩∧p s.pep ⟨f.l3,f.h3⟩∧p s.grp ⟨f.l4,f.h4⟩:=by
 refine⟨λh=>⟨h 0 _ _ rfl rfl,h 1 _ _ rfl rfl,h 2 _ _ rfl rfl,h 3 _ _ rfl rfl,h 4 _ _ rfl rfl⟩,λ⟨h0,h1,h2,h3,h4⟩ j x b hx hb=>?_⟩
 rcases j with _|_|_|_|_|j<;>simp[Lm,Su]at hx hb<;>subst hx hb<;>assumption
theorem xc{s:Sig}(hv:-9223372036854775808≤s.ver∧s.ver≤9223372036854775807)(hk:(aH s).2=true) :
  bn s↔∀(j:Nat) x b,(Lm s)[j]?=some x→(Su (aH s).1)[j]?=some b→kJ b x=true:=by
 rw[five (p:=λx b=>kJ b x=true)]
 simp only[iU]
 by_cases e1:s.kind=1
 ·simp[aH,bn,e1];omega
 ·by_cases e2:s.kind=2
  ·simp only[aH,bn,if_neg e1,if_pos e2]
   constructor
   ·rintro⟨h0,h1,h2,h3,h4⟩
    rw[bB (by omega)];omega
   ·rintro⟨h0,h1,h2,h3,h4⟩
    rw[bB (by omega)]at h2;omega
  ·by_cases e3:s.kind=3
   ·simp[aH,bn,e3];omega
   ·simp[aH,e1,e2,e3]at hk
theorem rD{s:Sig}:(aH s).2=true↔s.kind=1∨s.kind=2∨s.kind=3:=by
 by_cases e1:s.kind=1
 ·simp[aH,e1]
 ·by_cases e2:s.kind=2
  ·simp[aH,e2]
  ·by_cases e3:s.kind=3<;>simp[aH,e1,e2,e3]
def JR(s:Sig):=okL [.agg [.int s.kind,.int s.src,.int s.dst,.int s.epoch,.int s.ver,.int s.prev,.int s.pep,.int s.grp,.int s.mode,.sl 1 (s.srcs.map AV.int) false]]
def P0(s:Sig)(t0:Int):NF:=⟨[(1,.k,.ref 0 0),(3,.k,.ref 1 0),(45,.k,.agg [.int s.epoch,.int s.ver,.int s.prev,.int s.pep,.int s.grp]),(46,.k,.int t0)],[.box (.agg [.int s.kind,.int s.src,.int s.dst,.int s.epoch,.int s.ver,.int s.prev,.int s.pep,.int s.grp,.int s.mode,.sl 1 (s.srcs.map AV.int) false]),.box (.agg [.int (((aH s).1).l0),.int (((aH s).1).h0),.int (((aH s).1).l1),.int (((aH s).1).h1),.int (((aH s).1).l2),.int (((aH s).1).h2),.int (((aH s).1).l3),.int (((aH s).1).h3),.int (((aH s).1).l4),.int (((aH s).1).h4)])]⟩
@[reducible] def JQ:Nat→Type
 | 0=>Int
 | _=>Unit
def As(r:Int):AV:=.int r
def Ar(s:Sig)(I0:Int→Prop)(m0:Int→Nat):Ax Tryz.prog JQ (Int):=
 (.callP (R8 s)
(.br 192 (!((aH s).2)) (.ret (1))
(.callP (BR (⟨1,99⟩:Bnd) s.src)
(.br 336 (!(kJ (⟨1,99⟩:Bnd) s.src)) (.ret (2))
(.callP (BR (⟨1,99⟩:Bnd) s.dst)
(.br 448 (!(kJ (⟨1,99⟩:Bnd) s.dst)) (.ret (2))
(.br 544 (s.src==s.dst) (.ret (2))
(.loop 0 (P0 s) I0 m0 ((0):Int) [0,112] λ(t0:Int) b0 =>
(.br 18 (decide (t0<5)) (.el 34 AV.int ([s.epoch,s.ver,s.prev,s.pep,s.grp]:List Int) (λR=>Rf (([s.epoch,s.ver,s.prev,s.pep,s.grp]:List Int).map AV.int) (ck (decide (0≤t0)) (ck (decide (t0<5)) (ck (decide (t0.toNat<([s.epoch,s.ver,s.prev,s.pep,s.grp]:List Int).length))
(∀x1,([s.epoch,s.ver,s.prev,s.pep,s.grp]:List Int)[t0.toNat]?=some x1 →
(R x1)))))) λx1 =>
(.say (ck (cond (decide (0≤t0)) (decide (t0<5)) false)) (.elA 114 (λx:Bnd=>[.int x.lo,.int x.hi]) [(⟨((aH s).1).l0,((aH s).1).h0⟩:Bnd),(⟨((aH s).1).l1,((aH s).1).h1⟩:Bnd),(⟨((aH s).1).l2,((aH s).1).h2⟩:Bnd),(⟨((aH s).1).l3,((aH s).1).h3⟩:Bnd),(⟨((aH s).1).l4,((aH s).1).h4⟩:Bnd)] (t0.toNat) 2 (λ_=>rfl) (λR=>Rf (α:=List AV) ([.int (((aH s).1).l0),.int (((aH s).1).h0),.int (((aH s).1).l1),.int (((aH s).1).h1),.int (((aH s).1).l2),.int (((aH s).1).h2),.int (((aH s).1).l3),.int (((aH s).1).h3),.int (((aH s).1).l4),.int (((aH s).1).h4)]) (((0+(t0.toNat * 2))=t0.toNat * 2)∧(ck (decide (t0.toNat<[(⟨((aH s).1).l0,((aH s).1).h0⟩:Bnd),(⟨((aH s).1).l1,((aH s).1).h1⟩:Bnd),(⟨((aH s).1).l2,((aH s).1).h2⟩:Bnd),(⟨((aH s).1).l3,((aH s).1).h3⟩:Bnd),(⟨((aH s).1).l4,((aH s).1).h4⟩:Bnd)].length))
(∀x2,[(⟨((aH s).1).l0,((aH s).1).h0⟩:Bnd),(⟨((aH s).1).l1,((aH s).1).h1⟩:Bnd),(⟨((aH s).1).l2,((aH s).1).h2⟩:Bnd),(⟨((aH s).1).l3,((aH s).1).h3⟩:Bnd),(⟨((aH s).1).l4,((aH s).1).h4⟩:Bnd)][t0.toNat]?=some x2 →
(R x2))))) λx2 =>
(.callP (BR x2 x1)
(.br 178 (!(kJ x2 x1)) (.ret (2))
(.bk 0 b0 ((W (t0+1)):Int) [0,1]))))))
(.br 66 (s.kind==2) (.callP (vC (⟨s.mode,s.srcs⟩:Flt))
(.ret (aF (⟨s.mode,s.srcs⟩:Flt).mode (⟨s.mode,s.srcs⟩:Flt).srcs)))
(.br 146 (s.mode != 0) (.ret (1))
(.br 242 (decide (0<((s.srcs.map AV.int).length:Int))) (.ret (1))
(.ret (0))))))))))))))
def DX(s:Sig)(I0:Int→Prop)(m0:Int→Nat)(r0:Int):=(Ar s I0 m0).vp As r0
theorem Uu(s:Sig)(ok:JR s):∃I m,DX s I m (aL s):=by
 simp only[JR,okU,Blk.ok,aK,List.length_map]at ok
 refine⟨λt=>∃k:Nat,t=k∧k≤5∧∀(j:Nat) x b,j<k→(Lm s)[j]?=some x→(Su (aH s).1)[j]?=some b→kJ b x=true,λt=>5-t.toNat,?_⟩
 dsimp only[DX,Ar,JQ,Ax.vp,Ax.vc];simp only[vcU,rfU,List.length_map]
 have hv:-9223372036854775808≤s.ver∧s.ver≤9223372036854775807:=ok.2.2.2.2.1
 refine⟨λe=>?_,λe0=>?_⟩
 ·rw[aL,if_pos (λh=>by rw[rD.mpr h]at e;cases e)]
 have e0:(aH s).2=true:=by simpa using e0
 have hk:=rD.mp e0
 have bad:¬(eN s∧bn s)→2=aL s:=λh=>by rw[aL,if_neg (λh=>h hk),if_pos h]
 refine⟨λe=>bad λh=>?_,λe1=>⟨λe=>bad λh=>?_,λe2=>⟨λe=>bad λh=>?_,λe3=>?_⟩⟩⟩
 ·have:=h.1.1;rw[iU.mpr this]at e;cases e
 ·have:=h.1.2.1;rw[iU.mpr this]at e;cases e
 ·have:=h.1.2.2;simp at e;exact this e
 have e1:=iU.mp (Bool.not_eq_false' .. ▸ e1:kJ ⟨1,99⟩ s.src=true)
 have e2:=iU.mp (Bool.not_eq_false' .. ▸ e2:kJ ⟨1,99⟩ s.dst=true)
 have hE:eN s:=⟨e1,e2,by simpa using e3⟩
 refine⟨⟨0,rfl,by omega,λj x b hj=>by omega⟩,?_⟩
 rintro _ ⟨k,rfl,hk5,h⟩
 simp only[Int.toNat_natCast]
 refine⟨λh1=>⟨by omega,by omega,by simp;omega,λx hx=>⟨by simp;omega,by omega,by simp;omega,λb hb=>⟨λe=>bad λhs=>?_,λe=>?_⟩⟩⟩,λh1=>?_⟩
 ·have:=(xc hv e0).mp hs.2 k x b hx hb
  rw[this]at e;cases e
 ·have e:kJ b x=true:=by simpa using e
  rw[av (n:=5) (by omega) (by omega)]
  refine⟨⟨k+1,rfl,by omega,λj y c hj hy hc=>?_⟩,by omega⟩
  by_cases e':j=k
  ·subst e'
   have hy:=hy.symm.trans hx
   have hc:=hc.symm.trans hb
   cases hy;cases hc;exact e
  ·exact h j y c (by omega) hy hc
 have hN:bn s:=(xc hv e0).mpr λj x b hx hb=>h j x b (by have:=ay hx;simp[Lm]at this;omega) hx hb
 have fin:aL s=if s.kind=2 then aF s.mode s.srcs else if s.mode≠0∨s.srcs≠[]then 1 else 0:=by
  rw[aL,if_neg (λh=>h hk),if_neg (λh=>h ⟨hE,hN⟩)]
 rw[fin]
 refine⟨λe=>by rw[if_pos (by simpa using e)],λe=>?_⟩
 have e:¬s.kind=2:=by simpa using e
 rw[if_neg e]
 refine⟨λe=>by rw[if_pos (.inl (by simpa using e))],λe1=>⟨λe=>?_,λe=>?_⟩⟩
 ·rw[if_pos (.inr λh=>by rw[h]at e;simp at e)]
 ·rw[if_neg]
  rintro(h|h)
  ·exact h (by simpa using e1)
  ·exact h (List.eq_nil_of_length_eq_zero (by omega))
def Uv(s:Sig):PC Tryz.prog:=⟨128,[(.a [.k,.k,.k,.k,.k,.k,.k,.k,.k,(.s 1)])],[.agg [.int s.kind,.int s.src,.int s.dst,.int s.epoch,.int s.ver,.int s.prev,.int s.pep,.int s.grp,.int s.mode,.sl 1 (s.srcs.map AV.int) false]],As (aL s),ao.of_ok λok=>(Uu s ok).elim λI0 h=>h.elim λm0 h=>aj (sh:=.k) (enc:=As) (a:=(Ar s I0 m0).an) h (by kernel_rfl) (AV.pureB_ok rfl),ai (by kernel_rfl)⟩
theorem iJ{es:List AV}(h:cf es=true):bK [es]=true:=by rw[bK,h];rfl
theorem we{m:Int}{l:List Int}(h:aF m l=0):l.length≤99:=by
 unfold aF at h
 split at h
 ·cases h
 split at h
 ·cases h
 rename_i hr
 split at h
 ·cases h
 rename_i ha
 have hr:=Classical.not_not.mp hr
 have ha:=Classical.not_not.mp ha
 have hp:l.Pairwise λx y=>id x<id y:=lw (key:=id) λj x y hx hy=>jd.mp ha j x y hx hy
 exact lA 99 l (hp.imp λh=>Int.ne_of_lt h) λx hx=>by have:=hr x hx;omega
def NE(l:List Wnt)(am:Bool):=okL [.sl 3 (l.map Wnt.v) false,.bool am]
def Ip(l:List Wnt)(am:Bool)(t0:Int):NF:=⟨[(0,.k,.sl 3 (l.map Wnt.v) false),(1,.k,.bool am),(16,.k,.sl 3 (l.map Wnt.v) false),(17,.k,.int ((l.map Wnt.v).length:Int)),(18,.k,.int t0)],[]⟩
def Io(l:List Wnt)(am:Bool)(t1:Int):NF:=⟨[(0,.k,.sl 3 (l.map Wnt.v) false),(1,.k,.bool am),(31,.k,.sl 3 (l.map Wnt.v) false),(32,.k,.int ((l.map Wnt.v).length:Int)),(33,.k,.int t1)],[]⟩
def In(l:List Wnt)(am:Bool)(t2:Int):NF:=⟨[(0,.k,.sl 3 (l.map Wnt.v) false),(1,.k,.bool am),(44,.k,.sl 3 (l.map Wnt.v) false),(45,.k,.int ((l.map Wnt.v).length:Int)),(46,.k,.int t2)],[]⟩
def Im(l:List Wnt)(t3:Int):NF:=⟨[(0,.k,.sl 3 (l.map Wnt.v) false),(12,.k,.int t3)],[]⟩
@[reducible] def zc:Nat→Type
 | 0=>Int
 | 1=>Int
 | 2=>Int
 | 3=>Int
 | _=>Unit
def pK(r:Int):AV:=.int r
def pJ(l:List Wnt)(am:Bool)(I0:Int→Prop)(m0:Int→Nat)(I1:Int→Int→Prop)(m1:Int→Int→Nat)(I2:Int→Int→Int→Prop)(m2:Int→Int→Int→Nat)(I3:Int→Int→Int→Int→Prop)(m3:Int→Int→Int→Int→Nat):Ax Tryz.prog zc (Int):=
 (.br 64 (decide (32<((l.map Wnt.v).length:Int))) (.ret (3))
(.loop 0 (Ip l am) I0 m0 ((0):Int) [] λ(t0:Int) b0 =>
(.br 16 (decide (t0<((l.map Wnt.v).length:Int))) (.el 16 Wnt.v l (λR=>Rf (l.map Wnt.v) (ck (decide (0≤t0)) (ck (decide (t0<(l.length:Int)))
(∀x1,l[t0.toNat]?=some x1 →
(R x1))))) λx1 =>
(.br 144 (decide (x1.grp<1)) (.ret (2))
(.br 208 (decide (99<x1.grp)) (.ret (2))
(.bk 0 b0 ((W (t0+1)):Int) []))))
(.loop 1 (Io l am) (I1 t0) (m1 t0) ((0):Int) [] λ(t1:Int) b1 =>
(.br 16 (decide (t1<((l.map Wnt.v).length:Int))) (.el 16 Wnt.v l (λR=>Rf (l.map Wnt.v) (ck (decide (0≤t1)) (ck (decide (t1<(l.length:Int)))
(∀x2,l[t1.toNat]?=some x2 →
(R x2))))) λx2 =>
(.callP (jY (⟨x2.mode,x2.srcs⟩:Flt))
(.br 176 ((aF (⟨x2.mode,x2.srcs⟩:Flt).mode (⟨x2.mode,x2.srcs⟩:Flt).srcs) != 0) (.ret (aF (⟨x2.mode,x2.srcs⟩:Flt).mode (⟨x2.mode,x2.srcs⟩:Flt).srcs))
(.bk 1 b1 ((W (t1+1)):Int) []))))
(.loop 2 (In l am) (I2 t0 t1) (m2 t0 t1) ((0):Int) [] λ(t2:Int) b2 =>
(.br 16 (decide (t2<((l.map Wnt.v).length:Int))) (.el 16 Wnt.v l (λR=>Rf (l.map Wnt.v) (ck (decide (0≤t2)) (ck (decide (t2<(l.length:Int)))
(∀x3,l[t2.toNat]?=some x3 →
(R x3))))) λx3 =>
(.br 128 (!am) (.callP (eM )
(.callP (j1 (⟨x3.mode,x3.srcs⟩:Flt) (⟨1,[]⟩:Flt))
(.br 208 (dU (⟨x3.mode,x3.srcs⟩:Flt) (⟨1,[]⟩:Flt)) (.ret (1))
(.bk 2 b2 ((W (t2+1)):Int) []))))
(.bk 2 b2 ((W (t2+1)):Int) [])))
(.loop 3 (Im l) (I3 t0 t1 t2) (m3 t0 t1 t2) ((1):Int) [] λ(t3:Int) b3 =>
(.br 64 (decide (t3<((l.map Wnt.v).length:Int))) (.el 112 Wnt.v l (λR=>Rf (l.map Wnt.v) (ck (decide (0≤(W (t3-1)))) (ck (decide ((W (t3-1))<(l.length:Int)))
(∀x4,l[(W (t3-1)).toNat]?=some x4 →
(R x4))))) λx4 =>
(.el 192 Wnt.v l (λR=>Rf (l.map Wnt.v) (ck (decide (0≤t3)) (ck (decide (t3<(l.length:Int)))
(∀x5,l[t3.toNat]?=some x5 →
(R x5))))) λx5 =>
(.br 256 (decide (x5.grp≤x4.grp)) (.ret (25))
(.bk 3 b3 ((W (t3+1)):Int) []))))
(.ret (0)))))))))))
def rS(l:List Wnt)(am:Bool)(I0:Int→Prop)(m0:Int→Nat)(I1:Int→Int→Prop)(m1:Int→Int→Nat)(I2:Int→Int→Int→Prop)(m2:Int→Int→Int→Nat)(I3:Int→Int→Int→Int→Prop)(m3:Int→Int→Int→Int→Nat)(r0:Int):=(pJ l am I0 m0 I1 m1 I2 m2 I3 m3).vp pK r0
theorem ND(l:List Wnt)(chg:Bool)(ok:NE l chg):∃I0 m0 I1 m1 I2 m2 I3 m3,rS l chg I0 m0 I1 m1 I2 m2 I3 m3 (bh chg l):=by
 let R:Prop:=∀w∈l,1≤w.grp∧w.grp≤99
 let F:Prop:=∀w∈l,aF w.mode w.srcs=0
 let N:Prop:=chg=false→∀w∈l,¬dB w
 refine⟨λt=>∃k:Nat,t=k∧k≤l.length∧∀w∈l.take k,1≤w.grp∧w.grp≤99,λt=>l.length-t.toNat,
  λ_ t=>R∧∃k:Nat,t=k∧k≤l.length∧∀w∈l.take k,aF w.mode w.srcs=0,λ_ t=>l.length-t.toNat,
  λ_ _ t=>R∧F∧∃k:Nat,t=k∧k≤l.length∧∀w∈l.take k,chg=false→¬dB w,λ_ _ t=>l.length-t.toNat,
  λ_ _ _ t=>R∧F∧N∧∃k:Nat,t=k∧1≤k∧k≤l.length+1∧∀j x y,j+1<k→l[j]?=some x→l[j+1]?=some y→x.grp<y.grp,λ_ _ _ t=>l.length+1-t.toNat,?_⟩
 dsimp only[rS,pJ,zc,Ax.vp,Ax.vc];simp only[vcU,rfU,List.length_map]
 have hno:∀x:Wnt,dU ⟨x.mode,x.srcs⟩ ⟨1,[]⟩=true↔dB x:=λx=>by simp[dU,dB]
 refine⟨λe=>by rw[bh,if_pos (by omega)],λe0=>⟨⟨0,rfl,by omega,by simp⟩,?_⟩⟩
 have e0:¬32<l.length:=by omega
 rintro _ ⟨k,rfl,hk,h⟩
 simp only[Int.toNat_natCast]
 refine⟨λh1=>⟨by omega,by omega,λx hx=>?_⟩,λh1=>?_⟩
 ·have bad:¬(1≤x.grp∧x.grp≤99)→2=bh chg l:=λh=>by
   rw[bh,if_neg e0,if_pos λh'=>h (h' x (aB hx))]
  refine⟨λe=>bad (by omega),λe1=>⟨λe=>bad (by omega),λe2=>?_⟩⟩
  rw[av (n:=l.length) (by omega) (by omega)]
  exact⟨⟨k+1,rfl,by omega,gV h hx ⟨by omega,by omega⟩⟩,by omega⟩
 rw[List.take_of_length_le (by omega)]at h
 have hR:R:=h
 have w1:bh chg l=if fC l≠0 then fC l else if chg=false∧∃w∈l,dB w then 1 else if ¬(l.Pairwise λx y=>x.grp<y.grp)then 25 else 0:=by
  rw[bh,if_neg e0,if_neg (λh=>h hR)]
 clear h h1 hk k
 refine⟨⟨hR,0,rfl,by omega,by simp⟩,?_⟩
 rintro _ ⟨-,k,rfl,hk,h⟩
 simp only[Int.toNat_natCast]
 refine⟨λh1=>⟨by omega,by omega,λx hx=>⟨λe=>?_,λe=>?_⟩⟩,λh1=>?_⟩
 ·have e:aF x.mode x.srcs≠0:=by simpa using e
  have:fC l=aF x.mode x.srcs:=Le (f:=λx:Wnt=>aF x.mode x.srcs) h hx e
  rw[w1,this,if_pos e]
 ·rw[av (n:=l.length) (by omega) (by omega)]
  exact⟨⟨hR,k+1,rfl,by omega,gV h hx (by simpa using e)⟩,by omega⟩
 rw[List.take_of_length_le (by omega)]at h
 have hF:F:=h
 have w2:bh chg l=if chg=false∧∃w∈l,dB w then 1 else if ¬(l.Pairwise λx y=>x.grp<y.grp)then 25 else 0:=by
  rw[w1,if_neg (λhh=>hh (EI hF))]
 clear h h1 hk k
 refine⟨⟨hR,hF,0,rfl,by omega,by simp⟩,?_⟩
 rintro _ ⟨-,-,k,rfl,hk,h⟩
 simp only[Int.toNat_natCast]
 refine⟨λh1=>⟨by omega,by omega,λx hx=>?_⟩,λh1=>?_⟩
 ·have step:(chg=false→¬dB x)→(R∧F∧∃k':Nat,W ((k:Int)+1)=k'∧k'≤l.length∧∀w∈l.take k',chg=false→¬dB w)∧l.length-(W ((k:Int)+1)).toNat<l.length-k:=by
   intro hs
   rw[av (n:=l.length) (by omega) (by omega)]
   exact⟨⟨hR,hF,k+1,rfl,by omega,gV h hx hs⟩,by omega⟩
  refine⟨λe=>⟨λe2=>?_,λe2=>step λ_ hn=>?_⟩,λe=>step λhc=>?_⟩
  ·rw[w2,if_pos ⟨by simpa using e,x,aB hx,(hno x).mp e2⟩]
  ·rw[(hno x).mpr hn]at e2;cases e2
  ·simp[hc]at e
 rw[List.take_of_length_le (by omega)]at h
 have hN:N:=λhc w hw=>h w hw hc
 have w3:bh chg l=if ¬(l.Pairwise λx y=>x.grp<y.grp)then 25 else 0:=by
  rw[w2,if_neg (λ⟨hc,w,hw,hn⟩=>hN hc w hw hn)]
 clear h h1 hk k
 refine⟨⟨hR,hF,hN,1,rfl,by omega,by omega,λj x y hj=>by omega⟩,?_⟩
 rintro _ ⟨-,-,-,k,rfl,hk1,hk,h⟩
 refine⟨λh1=>?_,λh1=>?_⟩
 ·rw[dw (by omega) hk1]
  simp only[Int.toNat_natCast]
  refine⟨by omega,by omega,λx hx=>⟨by omega,by omega,λy hy=>⟨λe=>?_,λe=>?_⟩⟩⟩
  ·rw[w3,if_pos]
   intro hp
   have:x.grp<y.grp:=fF hp (show k-1<k by omega) hx hy
   omega
  ·rw[av (n:=l.length) (by omega) (by omega)]
   refine⟨⟨hR,hF,hN,k+1,rfl,by omega,by omega,λj x' y' hj hx' hy'=>?_⟩,by omega⟩
   by_cases e':j+1=k
   ·subst e'
    rw[show j+1-1=j by omega,hx']at hx;cases hx
    rw[hy']at hy;cases hy;omega
   ·exact h j x' y' (by omega) hx' hy'
 ·rw[w3,if_neg]
  exact λhh=>hh (lw λj x y hx hy=>h j x y (by have:=ay hy;omega) hx hy)
def zd(l:List Wnt)(am:Bool):PC Tryz.prog:=⟨89,[(.s 3),.k],[.sl 3 (l.map Wnt.v) false,.bool am],pK (bh am l),ao.of_ok λok=>(ND l am ok).elim λI0 h=>h.elim λm0 h=>h.elim λI1 h=>h.elim λm1 h=>h.elim λI2 h=>h.elim λm2 h=>h.elim λI3 h=>h.elim λm3 h=>aj (sh:=.k) (enc:=pK) (a:=(pJ l am I0 m0 I1 m1 I2 m2 I3 m3).an) h (by kernel_rfl) (AV.pureB_ok rfl),ai (by kernel_rfl)⟩
def Ud(l:List Wnt):=okL [.sl 3 (l.map Wnt.v) false]
def zZ(r:Int):AV:=.int r
def zY(l:List Wnt):Ax Tryz.prog noS (Int):=
 (.callP (zd l false)
(.ret (bh false l)))
def DB(l:List Wnt)(r0:Int):=(zY l).vp zZ r0
theorem Uc(l:List Wnt)(ok:Ud l):DB l (bh false l):=by
 dsimp only[DB,zY,noS,Ax.vp,Ax.vc];simp only[vcU,rfU,List.length_map]
def kZ(l:List Wnt):PC Tryz.prog:=⟨47,[(.s 3)],[.sl 3 (l.map Wnt.v) false],zZ (bh false l),ao.of_ok λok=>aj (sh:=.k) (enc:=zZ) (a:=(zY l).an) (Uc l ok) (by kernel_rfl) (AV.pureB_ok rfl),ai (by kernel_rfl)⟩
def FB(l:List Wnt)(group:Int):=okL [.sl 3 (l.map Wnt.v) false,.int group]
def MU(l:List Wnt)(group:Int)(t0:Int):NF:=⟨[(1,.k,.int group),(4,.k,.ref 0 0),(7,.k,.sl 3 (l.map Wnt.v) false),(8,.k,.int ((l.map Wnt.v).length:Int)),(9,.k,.int t0)],[.box (.agg [.int 0,.sl 0 [] true])]⟩
@[reducible] def FA:Nat→Type
 | 0=>Int
 | _=>Unit
def uG(r:Flt):AV:=Flt.v r
def uF(l:List Wnt)(group:Int)(I0:Int→Prop)(m0:Int→Nat):Ax Tryz.prog FA (Flt):=
 (.loop 0 (MU l group) I0 m0 ((0):Int) [0] λ(t0:Int) b0 =>
(.br 17 (decide (t0<((l.map Wnt.v).length:Int))) (.el 17 Wnt.v l (λR=>Rf (l.map Wnt.v) (ck (decide (0≤t0)) (ck (decide (t0<(l.length:Int)))
(∀x1,l[t0.toNat]?=some x1 →
(R x1))))) λx1 =>
(.br 145 (x1.grp==group) (.ret ((⟨x1.mode,x1.srcs⟩:Flt)))
(.bk 0 b0 ((W (t0+1)):Int) [0])))
(.callP (eM )
(.ret ((⟨1,[]⟩:Flt))))))
def yp(l:List Wnt)(group:Int)(I0:Int→Prop)(m0:Int→Nat)(r0:Flt):=(uF l group I0 m0).vp uG r0
theorem RG(l:List Wnt)(g:Int)(ok:FB l g):∃I m,yp l g I m (bM l g):=by
 simp only[FB,okU,Blk.ok,aK,List.length_map]at ok
 refine⟨λt=>∃k:Nat,t=k∧k≤l.length∧∀x∈l.take k,decide (x.grp=g)=false,λt=>l.length-t.toNat,?_⟩
 dsimp only[yp,uF,FA,Ax.vp,Ax.vc];simp only[vcU,rfU,List.length_map]
 refine⟨⟨0,rfl,by omega,by simp⟩,?_⟩
 rintro _ ⟨k,rfl,hk,h⟩
 simp only[Int.toNat_natCast]
 have h:∀x∈l.take k,decide (x.grp=g)=false:=λx hx=>decide_eq_false (h x hx)
 refine⟨λh1=>⟨by omega,by omega,λx hx=>⟨λe=>?_,λe=>?_⟩⟩,λh1=>?_⟩
 ·rw[bM,F8 h hx (by simpa using e)]
 ·rw[av (n:=l.length) (by omega) (by omega)]
  refine⟨⟨k+1,rfl,by omega,?_⟩,by omega⟩
  rw[ax hx]
  intro z hz
  rcases List.mem_append.mp hz with hz|hz
  ·simpa using h z hz
  ·rw[List.mem_singleton]at hz;subst hz;simpa using e
 ·rw[List.take_of_length_le (by omega)]at h
  rw[bM,List.find?_eq_none.mpr λx hx=>by rw[h x hx];simp]
def kM(l:List Wnt)(group:Int):PC Tryz.prog:=⟨49,[(.s 3),.k],[.sl 3 (l.map Wnt.v) false,.int group],uG (bM l group),ao.of_ok λok=>(RG l group ok).elim λI0 h=>h.elim λm0 h=>aj (sh:=(.a [.k,(.s 1)])) (enc:=uG) (a:=(uF l group I0 m0).an) h (by kernel_rfl) (AV.pureB_ok rfl),ai (by kernel_rfl)⟩
def Sm(old:List Wnt)(new:List Wnt):=okL [.sl 3 (old.map Wnt.v) false,.sl 3 (new.map Wnt.v) false]
def N8(old:List Wnt)(new:List Wnt)(t0:Int×List Wnt):NF:=⟨[(0,.k,.sl 3 (old.map Wnt.v) false),(1,.k,.sl 3 (new.map Wnt.v) false),(8,.k,.vec 0),(9,.k,.int t0.1)],[.vec 3 (t0.2.map Wnt.v) (ab (λ_=>rfl) t0.2)]⟩
@[reducible] def FW:Nat→Type
 | 0=>Int×List Wnt
 | _=>Unit
def vg(r:List Wnt×Int):AV:=.tup [.sl 3 (r.1.map Wnt.v) false,.int r.2]
def ve(old:List Wnt)(new:List Wnt)(I0:(Int×List Wnt)→Prop)(m0:(Int×List Wnt)→Nat):Ax Tryz.prog FW (List Wnt×Int):=
 (.callP (kZ old)
(.br 112 ((bh false old) != 0) (.ret ([],bh false old))
(.callP (kZ new)
(.br 192 ((bh false new) != 0) (.ret ([],bh false new))
(.cmdL (.nilT 8 3) (.loop 0 (N8 old new) I0 m0 (1,[]) [224] λ(t0:Int×List Wnt) b0 =>
(.br 33 (decide (t0.1≤99)) (.callP (kM new t0.1)
(.callP (kM old t0.1)
(.callP (j1 (bM new t0.1) (bM old t0.1))
(.br 209 (!(dU (bM new t0.1) (bM old t0.1))) (.say (λR=>Rf (α:=List AV) (t0.2.map Wnt.v) (Rf (α:=List AV) [.agg [.int t0.1,.int ((bM new t0.1).mode),.sl 1 (((bM new t0.1).srcs).map AV.int) false]]
(ck (decide (t0.2.length+1≤1048576))
R))) (.app 289 Wnt.v t0.2 [(⟨t0.1,(bM new t0.1).mode,(bM new t0.1).srcs⟩:Wnt)]
(.bk 0 b0 (W (t0.1+1),t0.2++[(⟨t0.1,(bM new t0.1).mode,(bM new t0.1).srcs⟩:Wnt)]) [289])))
(.bk 0 b0 (W (t0.1+1),t0.2) [0])))))
(.br 81 (decide (32<((t0.2.map Wnt.v).length:Int))) (.ret ([],3))
(.say (Rf (t0.2.map Wnt.v)) (.cmdL (.frzE 0 (t0.2.map Wnt.v) (ab (λ_=>rfl) t0.2)) (.ret (t0.2,0))))))))))))
def yX(old:List Wnt)(new:List Wnt)(I0:(Int×List Wnt)→Prop)(m0:(Int×List Wnt)→Nat)(r0:List Wnt×Int):=(ve old new I0 m0).vp vg r0
theorem Sk(a b:List Wnt)(ok:Sm a b):∃I m,yX a b I m (am a b):=by
 refine⟨λt=>∃k:Nat,t=(((k+1:Nat):Int),gw a b k)∧k≤99,λt=>100-t.1.toNat,?_⟩
 dsimp only[yX,ve,FW,Ax.vp,Ax.vc];simp only[vcU,rfU,List.length_map]
 by_cases h1:bh false a=0
 case neg=>simp[am,h1]
 by_cases h2:bh false b=0
 case neg=>simp[am,h1,h2]
 have e:am a b=if 32<(gw a b 99).length then([],3)else(gw a b 99,0):=by
  rw[am,if_neg (not_not_intro h1),if_neg (not_not_intro h2)]
 refine⟨λc=>by simp[h1]at c,λ_=>⟨λc=>by simp[h2]at c,λ_=>⟨⟨0,rfl,by omega⟩,?_⟩⟩⟩
 rintro _ ⟨k,rfl,hk⟩
 have hl:=pF a b k
 refine⟨λc=>?_,λc=>?_⟩
 ·have c:k<99:=by simp only at c;omega
  simp only[av (k:=k+1) (n:=100) (by omega) (by omega)]
  refine⟨λd=>⟨by omega,⟨k+1,?_,by omega⟩,by omega⟩,λd=>⟨⟨k+1,?_,by omega⟩,by omega⟩⟩
  ·rw[gw,FX,if_neg (by simpa[dU]using d)];rfl
  ·rw[gw,FX,if_pos (by simpa[dU]using d),List.append_nil]
 ·have c:k=99:=by simp only at c;omega
  subst c
  rw[e]
  simp only
  refine⟨λd=>by rw[if_pos (by omega)],λd=>by rw[if_neg (by omega)]⟩
def Sl(old:List Wnt)(new:List Wnt):PC Tryz.prog:=⟨76,[(.s 3),(.s 3)],[.sl 3 (old.map Wnt.v) false,.sl 3 (new.map Wnt.v) false],vg (am old new),ao.of_ok λok=>(Sk old new ok).elim λI0 h=>h.elim λm0 h=>aj (sh:=(.a [(.s 3),.k])) (enc:=vg) (a:=(ve old new I0 m0).an) h (by kernel_rfl) (AV.pureB_ok rfl),ai (by kernel_rfl)⟩
def eQ(f:Flt)(s:Int):Bool:=decide (aF f.mode f.srcs=0) && (decide (1≤s) && (decide (s∈f.srcs)==decide (f.mode=1)))
def TG(f:Flt)(source:Int):=okL [.agg [.int f.mode,.sl 1 (f.srcs.map AV.int) false],.int source]
def zG(r:Bool):AV:=.bool r
def zF(f:Flt)(source:Int):Ax Tryz.prog noS (Bool):=
 (.callP (jY f)
(.br 96 ((aF f.mode f.srcs)==0) (.br 160 (decide (1≤source)) (.callP (zu f.srcs source)
(.ret ((InI f.srcs source)==(f.mode==1))))
(.ret (false)))
(.ret (false))))
def Dt(f:Flt)(source:Int)(r0:Bool):=(zF f source).vp zG r0
theorem TF(f:Flt)(source:Int)(ok:TG f source):Dt f source (eQ f source):=by
 dsimp only[Dt,zF,noS,Ax.vp,Ax.vc];simp only[vcU,rfU,List.length_map]
 refine⟨λc=>?_,λc=>?_⟩
 ·have c:aF f.mode f.srcs=0:=eq_of_beq c
  refine⟨λd=>?_,λd=>?_⟩
  ·rw[eQ,decide_eq_true c,decide_eq_true d];rfl
  ·rw[eQ,decide_eq_false d];simp
 ·have c:¬aF f.mode f.srcs=0:=by simpa using c
  rw[eQ,decide_eq_false c];rfl
def zH(f:Flt)(source:Int):PC Tryz.prog:=⟨48,[(.a [.k,(.s 1)]),.k],[.agg [.int f.mode,.sl 1 (f.srcs.map AV.int) false],.int source],zG (eQ f source),ao.of_ok λok=>aj (sh:=.k) (enc:=zG) (a:=(zF f source).an) (TF f source ok) (by kernel_rfl) (AV.pureB_ok rfl),ai (by kernel_rfl)⟩
def frs(k:Nat):List Int:=(List.range k).map λ(i:Nat)=>(i:Int)+1
theorem MI(k:Nat):frs (k+1)=frs k++[(k:Int)+1]:=by unfold frs;rw[List.range_succ,List.map_append];rfl
theorem R6(k:Nat):(frs k).length=k:=by unfold frs;simp
def ofF(w:List Bool)(g:Bool):Flt:=⟨if g=true then 2 else 1,(frs 99).filter λs=>!(w.getD s.toNat false==g)⟩
def ofF_a(want:List Bool)(greater:Bool):=okL [.agg (want.map AV.bool),.bool greater]
def Vp(want:List Bool)(greater:Bool)(t0:Int):NF:=⟨[(1,.k,.bool greater),(2,.k,.ref 0 0),(4,.k,.ref 1 0),(5,.k,.ref 2 0)],[.arr (want.map AV.bool) (ab (λ_=>rfl) want),.box (.agg [.int 0,.sl 0 [] true]),.box (.agg [.int t0,.sl 0 [] true])]⟩
def Vo(want:List Bool)(greater:Bool)(t0:Int)(t1:Int×List Int):NF:=⟨[(1,.k,.bool greater),(2,.k,.ref 0 0),(4,.k,.ref 1 0),(5,.k,.ref 2 0),(6,.k,.int t1.1)],[.arr (want.map AV.bool) (ab (λ_=>rfl) want),.box (.agg [.int 0,.sl 0 [] true]),.box (.agg [.int t0,.vec 3]),.vec 1 (t1.2.map AV.int) (ab (λ_=>rfl) t1.2)]⟩
@[reducible] def Tn:Nat→Type
 | 0=>Int
 | 1=>Int×List Int
 | _=>Unit
def Ll(r:Flt):AV:=Flt.v r
def Lj(want:List Bool)(greater:Bool)(I0:Int→Prop)(I1:Int→(Int×List Int)→Prop)(m1:Int→(Int×List Int)→Nat):Ax Tryz.prog Tn (Flt):=
 (.pass (.pass (.join 0 (Vp want greater) (λ(t0:Int)=>I0 t0) (λb0=>(.br 96 greater (.bk 0 b0 ((2):Int) [0,16,48])
(.bk 0 b0 ((1):Int) [0,16,48]))) λ(t0:Int) =>
(.cmdL (.nilB 2 1 1) (.loop 1 (Vo want greater t0) (I1 t0) (m1 t0) (1,[]) [0,1,2,19] λ(t1:Int×List Int) b1 =>
(.br 36 (decide (t1.1≤99)) (.say (ck (cond (decide (0≤t1.1)) (decide (t1.1<100)) false)) (.el 68 AV.bool want (λR=>Rf (want.map AV.bool) (ck (decide ((0+(t1.1.toNat * 1))<want.length))
(∀x1,want[(0+(t1.1.toNat * 1))]?=some x1 →
(R x1)))) λx1 =>
(.br 116 (!(x1==greater)) (.say (λR=>Rf (α:=List AV) (t1.2.map AV.int) (Rf (α:=List AV) [.int t1.1]
(ck (decide (t1.2.length+1≤1048576))
R))) (.app 180 AV.int t1.2 [t1.1]
(.bk 1 b1 (W (t1.1+1),t1.2++[t1.1]) [0,1,2,180])))
(.bk 1 b1 (W (t1.1+1),t1.2) [0,1,2,3]))))
(.say (Rf (t1.2.map AV.int)) (.cmdL (.frzE 3 (t1.2.map AV.int) (ab (λ_=>rfl) t1.2)) (.ret ((⟨t0,t1.2⟩:Flt)))))))))))
def Lk(want:List Bool)(greater:Bool)(I0:Int→Prop)(I1:Int→(Int×List Int)→Prop)(m1:Int→(Int×List Int)→Nat)(r0:Flt):=(Lj want greater I0 I1 m1).vp Ll r0
theorem ofF_p(w:List Bool)(g:Bool)(hw:w.length=100)(ok:ofF_a w g):∃I0 I1 m1,Lk w g I0 I1 m1 (ofF w g):=by
 refine⟨λt=>t=if g=true then 2 else 1,λ_ t=>∃k:Nat,t.1=((k+1:Nat):Int)∧k≤99∧t.2=(frs k).filter λs=>!(w.getD s.toNat false==g),λ_ t=>100-t.1.toNat,?_⟩
 dsimp only[Lk,Lj,Tn,Ax.vp,Ax.vc];simp only[vcU,rfU,List.length_map]
 refine⟨⟨λc=>by rw[if_pos c],λc=>by rw[c];rfl⟩,?_⟩
 rintro t rfl
 refine⟨⟨0,rfl,by omega,rfl⟩,?_⟩
 rintro⟨i,out⟩ ⟨k,hi,hk,ho⟩
 simp only at hi ho ⊢
 subst hi
 refine⟨λc=>?_,λc=>?_⟩
 ·have h1:(bif decide ((0:Int)≤((k+1:Nat):Int))then decide ((((k+1:Nat):Int))<100)else false)=true:=by
   rw[decide_eq_true (show(0:Int)≤((k+1:Nat):Int) by omega),decide_eq_true (show((k+1:Nat):Int)<100 by omega)];rfl
  refine⟨h1,by omega,λx hx=>?_⟩
  have hx:w.getD (((k+1:Nat):Int)).toNat false=x:=by
   rw[List.getD_eq_getElem?_getD,show(((k+1:Nat):Int)).toNat=0+(((k+1:Nat):Int)).toNat * 1 by omega,hx];rfl
  have hf:((frs (k+1)).filter λs=>!(w.getD s.toNat false==g))=out++(if(!(x==g))=true then [((k+1:Nat):Int)]else []):=by
   rw[MI,List.filter_append,←ho]
   have e:((k:Int)+1)=((k+1:Nat):Int):=by omega
   rw[e,List.filter_cons,List.filter_nil,hx]
  have hlen:out.length≤99:=by rw[ho];exact Nat.le_trans (List.length_filter_le _ _) (by rw[R6];omega)
  rw[av (k:=k+1) (n:=101) (by omega) (by omega)]
  refine⟨λd=>⟨by omega,⟨k+1,rfl,by omega,?_⟩,by omega⟩,λd=>⟨⟨k+1,rfl,by omega,?_⟩,by omega⟩⟩
  ·rw[hf,if_pos d]
  ·rw[hf,d];simp
 ·have:k=99:=by omega
  subst this
  rw[ofF,ho]
def ofF_c(want:List Bool)(greater:Bool)(hw:want.length=100):PC Tryz.prog:=⟨120,[.k,.k],[.agg (want.map AV.bool),.bool greater],Ll (ofF want greater),ao.of_ok λok=>(ofF_p want greater hw ok).elim λI0 h=>h.elim λI1 h=>h.elim λm1 h=>aj (sh:=(.a [.k,(.s 1)])) (enc:=Ll) (a:=(Lj want greater I0 I1 m1).an) h (by kernel_rfl) (AV.pureB_ok rfl),ai (by kernel_rfl)⟩
def cmbB(both x y:Bool):Bool:=(x && y) || (!both && (x || y))
def wnB(Z:Int→Bool)(k:Nat):List Bool:=(List.range 100).map λ(j:Nat)=>decide (1≤j∧j≤k) && Z j
theorem gW{Z:Int→Bool}{k:Nat}:(wnB Z k).length=100:=by unfold wnB;simp
theorem mM{Z:Int→Bool}{k j:Nat}(h:j<100):(wnB Z k)[j]?=some (decide (1≤j∧j≤k) && Z j):=by
 unfold wnB
 rw[List.getElem?_map,List.getElem?_range h];rfl
theorem IL{Z:Int→Bool}:wnB Z 0=List.replicate 100 false:=by
 refine List.ext_getElem? λj=>?_
 by_cases h:j<100
 ·rw[mM h,decide_eq_false (by omega),List.getElem?_replicate,if_pos h];rfl
 ·rw[List.getElem?_eq_none (by rw[gW];omega),List.getElem?_eq_none (by simp;omega)]
theorem OT{Z:Int→Bool}{k:Nat}(h:k<99):(wnB Z k).set (k+1) (Z ((k+1:Nat):Int))=wnB Z (k+1):=by
 refine List.ext_getElem? λj=>?_
 rw[List.getElem?_set,gW]
 by_cases e:k+1=j
 ·subst e
  rw[if_pos rfl,if_pos (by omega),mM (by omega),decide_eq_true (by omega)];rfl
 ·rw[if_neg e]
  by_cases hj:j<100
  ·rw[mM hj,mM hj]
   congr 2
   rw[decide_eq_decide];omega
  ·rw[List.getElem?_eq_none (by rw[gW];omega),List.getElem?_eq_none (by rw[gW];omega)]
def Ih(a b:Flt)(both:Bool)(s:Int):Bool:=cmbB both (eQ a s) (eQ b s)
def yV(a b:Flt)(both:Bool):Flt×Int:=
 if aF a.mode a.srcs≠0 then(⟨0,[]⟩,aF a.mode a.srcs)else if aF b.mode b.srcs≠0 then(⟨0,[]⟩,aF b.mode b.srcs)
 else(ofF (wnB (Ih a b both) 99) (Ih a b both 100),0)
def WO(a:Flt)(b:Flt)(both:Bool):=okL [.agg [.int a.mode,.sl 1 (a.srcs.map AV.int) false],.agg [.int b.mode,.sl 1 (b.srcs.map AV.int) false],.bool both]
def Sj(a:Flt)(b:Flt)(both:Bool)(t0:Int×List Bool×Bool):NF:=⟨[(2,.k,.bool both),(3,.k,.ref 0 0),(4,.k,.ref 1 0),(6,.k,.ref 2 0),(10,.k,.ref 3 0),(11,.k,.bool t0.2.2),(12,.k,.int t0.1)],[.box (.agg [.int a.mode,.sl 1 (a.srcs.map AV.int) false]),.box (.agg [.int b.mode,.sl 1 (b.srcs.map AV.int) false]),.box (.agg [.int 0,.sl 0 [] true]),.arr (t0.2.1.map AV.bool) (ab (λ_=>rfl) t0.2.1)]⟩
def Si(a:Flt)(b:Flt)(both:Bool)(t0:Int×List Bool×Bool)(t1:Bool):NF:=⟨[(2,.k,.bool both),(3,.k,.ref 0 0),(4,.k,.ref 1 0),(6,.k,.ref 2 0),(10,.k,.ref 3 0),(11,.k,.bool t0.2.2),(12,.k,.int t0.1),(15,.k,.bool t1)],[.box (.agg [.int a.mode,.sl 1 (a.srcs.map AV.int) false]),.box (.agg [.int b.mode,.sl 1 (b.srcs.map AV.int) false]),.box (.agg [.int 0,.sl 0 [] true]),.arr (t0.2.1.map AV.bool) (ab (λ_=>rfl) t0.2.1)]⟩
@[reducible] def N4:Nat→Type
 | 0=>Int×List Bool×Bool
 | 1=>Bool
 | _=>Unit
def CJ(r:Flt×Int):AV:=.tup [Flt.v r.1,.int r.2]
def CI(a:Flt)(b:Flt)(both:Bool)(I0:(Int×List Bool×Bool)→Prop)(m0:(Int×List Bool×Bool)→Nat)(I1:Int×List Bool×Bool→Bool→Prop):Ax Tryz.prog N4 (Flt×Int):=
 (.callP (jY a)
(.br 144 ((aF a.mode a.srcs) != 0) (.ret ((⟨0,[]⟩:Flt),aF a.mode a.srcs))
(.callP (jY b)
(.br 224 ((aF b.mode b.srcs) != 0) (.ret ((⟨0,[]⟩:Flt),aF b.mode b.srcs))
(.loop 0 (Sj a b both) I0 m0 (1,List.replicate 100 false,false) [0,16,32,224] λ(t0:Int×List Bool×Bool) b0 =>
(.br 36 (decide (t0.1≤100)) (.callP (zH a t0.1)
(.callP (zH b t0.1)
(.join 1 (Si a b both t0) (λ(t1:Bool)=>I1 t0 t1) (λb1=>(.br 196 (eQ a t0.1) (.br 244 (eQ b t0.1) (.bk 1 b1 ((true):Bool) [0,1,2,3])
(.br 292 (!both) (.br 324 (eQ a t0.1) (.bk 1 b1 ((true):Bool) [0,1,2,3])
(.bk 1 b1 ((eQ b t0.1):Bool) [0,1,2,3]))
(.bk 1 b1 ((false):Bool) [0,1,2,3])))
(.br 292 (!both) (.br 324 (eQ a t0.1) (.bk 1 b1 ((true):Bool) [0,1,2,3])
(.bk 1 b1 ((eQ b t0.1):Bool) [0,1,2,3]))
(.bk 1 b1 ((false):Bool) [0,1,2,3])))) λ(t1:Bool) =>
(.br 36 (decide (t0.1≤99)) (.say (ck (cond (decide (0≤t0.1)) (decide (t0.1<100)) false)) (.st 84 AV.bool t0.2.1 (λ_=>t1) (λR=>Rf (t0.2.1.map AV.bool) (ck (decide ((0+(t0.1.toNat * 1))<t0.2.1.length))
(∀y1,t0.2.1[(0+(t0.1.toNat * 1))]?=some y1→Rf (AV.bool t1)
((R y1))))) λy1 =>
(.bk 0 b0 (W (t0.1+1),t0.2.1.set (0+(t0.1.toNat * 1)) t1,t0.2.2) [0,1,2,3])))
(.bk 0 b0 (W (t0.1+1),t0.2.1,t1) [0,1,2,3])))))
(.say (λR=>Rf (t0.2.1.map AV.bool) (ck (decide (t0.2.1.length=100))
R)) (.sub 36 AV.bool t0.2.1 false
(.req 68 (t0.2.1.length=100) λh2 =>
(.callA (ofF_c t0.2.1 t0.2.2 h2) (id (α:=cI [.agg (t0.2.1.map AV.bool),.bool t0.2.2]) (aW (by simp[cf,AV.pureB,ab (v:=AV.bool) (λ_=>rfl)])))
(.ret (ofF t0.2.1 t0.2.2,0))))))))))))
def FU(a:Flt)(b:Flt)(both:Bool)(I0:(Int×List Bool×Bool)→Prop)(m0:(Int×List Bool×Bool)→Nat)(I1:Int×List Bool×Bool→Bool→Prop)(r0:Flt×Int):=(CI a b both I0 m0 I1).vp CJ r0
theorem WM(a b:Flt)(both:Bool)(ok:WO a b both):∃I0 m0 I1,FU a b both I0 m0 I1 (yV a b both):=by
 refine⟨λt=>∃k:Nat,t.1=((k+1:Nat):Int)∧k≤100∧t.2.1=wnB (Ih a b both) (min k 99)∧(k=100→t.2.2=Ih a b both 100),λt=>101-t.1.toNat,λs t=>t=Ih a b both s.1,?_⟩
 dsimp only[FU,CI,N4,Ax.vp,Ax.vc];simp only[vcU,rfU,List.length_map]
 refine⟨λc=>?_,λc=>⟨λd=>?_,λd=>⟨⟨0,rfl,by omega,IL.symm,by omega⟩,?_⟩⟩⟩
 ·rw[yV,if_pos (by simpa using c)]
 ·rw[yV,if_neg (by simpa using c),if_pos (by simpa using d)]
 rintro⟨i,w,g⟩ ⟨k,hi,hk,hw,hg⟩
 simp only at hi hw hg ⊢
 subst hi
 refine⟨λh=>⟨?_,?_⟩,λh=>?_⟩
 ·unfold Ih cmbB
  cases eQ a ((k+1:Nat):Int)<;>cases eQ b ((k+1:Nat):Int)<;>cases both<;>simp
 ·rintro z rfl
  have hb:w.length=100:=by rw[hw,gW]
  refine⟨λh2=>⟨?_,by omega,λy hy=>?_⟩,λh2=>?_⟩
  ·rw[decide_eq_true (show(0:Int)≤((k+1:Nat):Int) by omega),decide_eq_true (show((k+1:Nat):Int)<100 by omega)];rfl
  ·have e:0+(((k+1:Nat):Int)).toNat * 1=k+1:=by omega
   rw[e,av (k:=k+1) (n:=102) (by omega) (by omega),hw,show min k 99=k by omega,OT (by omega)]
   exact⟨⟨k+1,rfl,by omega,by rw[show min (k+1) 99=k+1 by omega],by omega⟩,by omega⟩
  ·have e:k=99:=by omega
   subst e
   rw[av (k:=99+1) (n:=102) (by omega) (by omega)]
   exact⟨⟨100,rfl,by omega,hw,λ_=>rfl⟩,by omega⟩
 ·have e:k=100:=by omega
  subst e
  rw[yV,if_neg (by simpa using c),if_neg (by simpa using d),hg rfl,hw]
  exact⟨gW,gW,rfl⟩
def WN(a:Flt)(b:Flt)(both:Bool):PC Tryz.prog:=⟨88,[(.a [.k,(.s 1)]),(.a [.k,(.s 1)]),.k],[.agg [.int a.mode,.sl 1 (a.srcs.map AV.int) false],.agg [.int b.mode,.sl 1 (b.srcs.map AV.int) false],.bool both],CJ (yV a b both),ao.of_ok λok=>(WM a b both ok).elim λI0 h=>h.elim λm0 h=>h.elim λI1 h=>aj (sh:=(.a [(.a [.k,(.s 1)]),.k])) (enc:=CJ) (a:=(CI a b both I0 m0 I1).an) h (by kernel_rfl) (AV.pureB_ok rfl),ai (by kernel_rfl)⟩
abbrev unF(a b:Flt):Flt×Int:=yV a b false
def unF_a(a:Flt)(b:Flt):=okL [.agg [.int a.mode,.sl 1 (a.srcs.map AV.int) false],.agg [.int b.mode,.sl 1 (b.srcs.map AV.int) false]]
def J0(r:Flt×Int):AV:=.tup [Flt.v r.1,.int r.2]
def Jy(a:Flt)(b:Flt):Ax Tryz.prog noS (Flt×Int):=
 (.callP (WN a b false)
(.ret ((yV a b false).1,(yV a b false).2)))
def Jz(a:Flt)(b:Flt)(r0:Flt×Int):=(Jy a b).vp J0 r0
theorem unF_p(a b:Flt)(ok:unF_a a b):Jz a b (unF a b):=by
 dsimp only[Jz,Jy,noS,Ax.vp,Ax.vc];simp only[vcU,rfU,List.length_map]
def unF_c(a:Flt)(b:Flt):PC Tryz.prog:=⟨46,[(.a [.k,(.s 1)]),(.a [.k,(.s 1)])],[.agg [.int a.mode,.sl 1 (a.srcs.map AV.int) false],.agg [.int b.mode,.sl 1 (b.srcs.map AV.int) false]],J0 (unF a b),ao.of_ok λok=>aj (sh:=(.a [(.a [.k,(.s 1)]),.k])) (enc:=J0) (a:=(Jy a b).an) (unF_p a b ok) (by kernel_rfl) (AV.pureB_ok rfl),ai (by kernel_rfl)⟩
def kS(x:Mem)(g h:Int):Bool:=decide (x.grp<g) || (x.grp==g && decide (x.host<h))
def WZ(x:Mem)(group:Int)(host:Int):=okL [.agg [.int x.host,.int x.grp,.int x.mode,.sl 1 (x.srcs.map AV.int) false,.int x.til],.int group,.int host]
def CR(r:Bool):AV:=.bool r
def CQ(x:Mem)(group:Int)(host:Int):Ax Tryz.prog noS (Bool):=
 (.br 112 (decide (x.grp<group)) (.ret (true))
(.br 192 (x.grp==group) (.ret (decide (x.host<host)))
(.ret (false))))
def Ga(x:Mem)(group:Int)(host:Int)(r0:Bool):=(CQ x group host).vp CR r0
theorem WX(x:Mem)(g h:Int)(ok:WZ x g h):Ga x g h (kS x g h):=by
 dsimp only[Ga,CQ,noS,Ax.vp,Ax.vc];simp only[vcU,rfU,List.length_map]
 refine⟨λc=>by simp[kS,c],λc=>⟨λd=>by simp[kS,c,d],λd=>by simp[kS,c,d]⟩⟩
def WY(x:Mem)(group:Int)(host:Int):PC Tryz.prog:=⟨87,[(.a [.k,.k,.k,(.s 1),.k]),.k,.k],[.agg [.int x.host,.int x.grp,.int x.mode,.sl 1 (x.srcs.map AV.int) false,.int x.til],.int group,.int host],CR (kS x group host),ao.of_ok λok=>aj (sh:=.k) (enc:=CR) (a:=(CQ x group host).an) (WX x group host ok) (by kernel_rfl) (AV.pureB_ok rfl),ai (by kernel_rfl)⟩
def eJ(now:Int)(x:Mem):Prop:=(1≤x.host∧x.host≤99)∧(1≤x.grp∧x.grp≤99)∧now≤x.til∧x.til≤now+1000
instance (now:Int) (x:Mem):Decidable (eJ now x):=by unfold eJ;infer_instance
def cY(x y:Mem):Prop:=kS x y.grp y.host=true
instance (x y:Mem):Decidable (cY x y):=by unfold cY;infer_instance
theorem xp(x y z:Mem)(h:cY x y)(k:cY y z):cY x z:=by
 simp only[cY,kS,Bool.or_eq_true,Bool.and_eq_true,decide_eq_true_eq,beq_iff_eq]at *
 omega
def cn(m:bW):Int:=
 if ¬(0≤m.now∧m.now≤1000000)then 2 else if 64<m.list.length then 3 else if ¬∀x∈m.list,eJ m.now x then 2
 else if orI (m.list.map λx=>aF x.mode x.srcs)≠0 then orI (m.list.map λx=>aF x.mode x.srcs)
 else if ∃x∈m.list,x.mode=1∧x.srcs=[]then 1 else if ¬m.list.Pairwise cY then 25 else 0
def V6(m:bW):=okL [.agg [.int m.now,.sl 5 (m.list.map Mem.v) false]]
def QO(m:bW)(t0:Bool):NF:=⟨[(1,.k,.ref 0 0),(18,.k,.bool t0)],[.box (.agg [.int m.now,.sl 5 (m.list.map Mem.v) false])]⟩
def QN(m:bW)(t1:Int):NF:=⟨[(1,.k,.ref 0 0),(24,.k,.sl 5 (m.list.map Mem.v) false),(25,.k,.int ((m.list.map Mem.v).length:Int)),(26,.k,.int t1)],[.box (.agg [.int m.now,.sl 5 (m.list.map Mem.v) false])]⟩
def QM(m:bW)(t1:Int)(t2:Bool):NF:=⟨[(1,.k,.ref 0 0),(24,.k,.sl 5 (m.list.map Mem.v) false),(25,.k,.int ((m.list.map Mem.v).length:Int)),(26,.k,.int t1),(62,.k,.bool t2)],[.box (.agg [.int m.now,.sl 5 (m.list.map Mem.v) false])]⟩
def QL(m:bW)(t3:Int):NF:=⟨[(1,.k,.ref 0 0),(65,.k,.sl 5 (m.list.map Mem.v) false),(66,.k,.int ((m.list.map Mem.v).length:Int)),(67,.k,.int t3)],[.box (.agg [.int m.now,.sl 5 (m.list.map Mem.v) false])]⟩
def QK(m:bW)(t4:Int):NF:=⟨[(1,.k,.ref 0 0),(79,.k,.sl 5 (m.list.map Mem.v) false),(80,.k,.int ((m.list.map Mem.v).length:Int)),(81,.k,.int t4)],[.box (.agg [.int m.now,.sl 5 (m.list.map Mem.v) false])]⟩
def QJ(m:bW)(t5:Int):NF:=⟨[(1,.k,.ref 0 0),(10,.k,.int t5)],[.box (.agg [.int m.now,.sl 5 (m.list.map Mem.v) false])]⟩
@[reducible] def LB:Nat→Type
 | 0=>Bool
 | 1=>Int
 | 2=>Bool
 | 3=>Int
 | 4=>Int
 | 5=>Int
 | _=>Unit
def Br(r:Int):AV:=.int r
def Bq(m:bW)(I0:Bool→Prop)(I1:Bool→Int→Prop)(m1:Bool→Int→Nat)(I2:Bool→Int→Mem→Bool→Prop)(I3:Bool→Int→Int→Prop)(m3:Bool→Int→Int→Nat)(I4:Bool→Int→Int→Int→Prop)(m4:Bool→Int→Int→Int→Nat)(I5:Bool→Int→Int→Int→Int→Prop)(m5:Bool→Int→Int→Int→Int→Nat):Ax Tryz.prog LB (Int):=
 (.pass (.pass (.join 0 (QO m) (λ(t0:Bool)=>I0 t0) (λb0=>(.br 96 (decide (m.now<0)) (.bk 0 b0 ((true):Bool) [0])
(.bk 0 b0 ((decide (1000000<m.now)):Bool) [0]))) λ(t0:Bool) =>
(.br 1 t0 (.ret (2))
(.br 65 (decide (64<((m.list.map Mem.v).length:Int))) (.ret (3))
(.loop 1 (QN m) (I1 t0) (m1 t0) ((0):Int) [0] λ(t1:Int) b1 =>
(.br 17 (decide (t1<((m.list.map Mem.v).length:Int))) (.el 17 Mem.v m.list (λR=>Rf (m.list.map Mem.v) (ck (decide (0≤t1)) (ck (decide (t1<(m.list.length:Int)))
(∀x1,m.list[t1.toNat]?=some x1 →
(R x1))))) λx1 =>
(.join 2 (QM m t1) (λ(t2:Bool)=>I2 t0 t1 x1 t2) (λb2=>(.br 145 (decide (x1.host<1)) (.bk 2 b2 ((true):Bool) [0])
(.br 225 (decide (99<x1.host)) (.bk 2 b2 ((true):Bool) [0])
(.br 305 (decide (x1.grp<1)) (.bk 2 b2 ((true):Bool) [0])
(.br 385 (decide (99<x1.grp)) (.bk 2 b2 ((true):Bool) [0])
(.br 497 (decide (x1.til<m.now)) (.bk 2 b2 ((true):Bool) [0])
(.bk 2 b2 ((decide ((W (m.now+1000))<x1.til)):Bool) [0]))))))) λ(t2:Bool) =>
(.br 1 t2 (.ret (2))
(.bk 1 b1 ((W (t1+1)):Int) [0]))))
(.loop 3 (QL m) (I3 t0 t1) (m3 t0 t1) ((0):Int) [0] λ(t3:Int) b3 =>
(.br 17 (decide (t3<((m.list.map Mem.v).length:Int))) (.el 17 Mem.v m.list (λR=>Rf (m.list.map Mem.v) (ck (decide (0≤t3)) (ck (decide (t3<(m.list.length:Int)))
(∀x2,m.list[t3.toNat]?=some x2 →
(R x2))))) λx2 =>
(.callP (jY (⟨x2.mode,x2.srcs⟩:Flt))
(.br 177 ((aF (⟨x2.mode,x2.srcs⟩:Flt).mode (⟨x2.mode,x2.srcs⟩:Flt).srcs) != 0) (.ret (aF (⟨x2.mode,x2.srcs⟩:Flt).mode (⟨x2.mode,x2.srcs⟩:Flt).srcs))
(.bk 3 b3 ((W (t3+1)):Int) [0]))))
(.loop 4 (QK m) (I4 t0 t1 t3) (m4 t0 t1 t3) ((0):Int) [0] λ(t4:Int) b4 =>
(.br 17 (decide (t4<((m.list.map Mem.v).length:Int))) (.el 17 Mem.v m.list (λR=>Rf (m.list.map Mem.v) (ck (decide (0≤t4)) (ck (decide (t4<(m.list.length:Int)))
(∀x3,m.list[t4.toNat]?=some x3 →
(R x3))))) λx3 =>
(.callP (eM )
(.callP (j1 (⟨x3.mode,x3.srcs⟩:Flt) (⟨1,[]⟩:Flt))
(.br 145 (dU (⟨x3.mode,x3.srcs⟩:Flt) (⟨1,[]⟩:Flt)) (.ret (1))
(.bk 4 b4 ((W (t4+1)):Int) [0])))))
(.loop 5 (QJ m) (I5 t0 t1 t3 t4) (m5 t0 t1 t3 t4) ((1):Int) [0] λ(t5:Int) b5 =>
(.br 81 (decide (t5<((m.list.map Mem.v).length:Int))) (.el 145 Mem.v m.list (λR=>Rf (m.list.map Mem.v) (ck (decide (0≤(W (t5-1)))) (ck (decide ((W (t5-1))<(m.list.length:Int)))
(∀x4,m.list[(W (t5-1)).toNat]?=some x4 →
(R x4))))) λx4 =>
(.el 225 Mem.v m.list (λR=>Rf (m.list.map Mem.v) (ck (decide (0≤t5)) (ck (decide (t5<(m.list.length:Int)))
(∀x5,m.list[t5.toNat]?=some x5 →
(R x5))))) λx5 =>
(.el 321 Mem.v m.list (λR=>Rf (m.list.map Mem.v) (ck (decide (0≤t5)) (ck (decide (t5<(m.list.length:Int)))
(∀x6,m.list[t5.toNat]?=some x6 →
(R x6))))) λx6 =>
(.callP (WY x4 x5.grp x6.host)
(.br 401 (!(kS x4 x5.grp x6.host)) (.ret (25))
(.bk 5 b5 ((W (t5+1)):Int) [0]))))))
(.ret (0)))))))))))))))
def EU(m:bW)(I0:Bool→Prop)(I1:Bool→Int→Prop)(m1:Bool→Int→Nat)(I2:Bool→Int→Mem→Bool→Prop)(I3:Bool→Int→Int→Prop)(m3:Bool→Int→Int→Nat)(I4:Bool→Int→Int→Int→Prop)(m4:Bool→Int→Int→Int→Nat)(I5:Bool→Int→Int→Int→Int→Prop)(m5:Bool→Int→Int→Int→Int→Nat)(r0:Int):=(Bq m I0 I1 m1 I2 I3 m3 I4 m4 I5 m5).vp Br r0
theorem V0(m:bW)(ok:V6 m):∃I0 I1 m1 I2 I3 m3 I4 m4 I5 m5,EU m I0 I1 m1 I2 I3 m3 I4 m4 I5 m5 (cn m):=by
 refine⟨λb=>b=decide (¬(0≤m.now∧m.now≤1000000)),λ_=>bP m.list (eJ m.now),λ_ t=>m.list.length-t.toNat,λ_ _ x b=>b=decide (¬eJ m.now x),
  λ_ _=>bP m.list (λx=>aF x.mode x.srcs=0),λ_ _ t=>m.list.length-t.toNat,λ_ _ _=>bP m.list (λx=>¬(x.mode=1∧x.srcs=[])),λ_ _ _ t=>m.list.length-t.toNat,
  λ_ _ _ _=>jh m.list cY,λ_ _ _ _ t=>m.list.length+1-t.toNat,?_⟩
 dsimp only[EU,Bq,LB,Ax.vp,Ax.vc];simp only[vcU,rfU,List.length_map]
 refine⟨⟨λc=>(decide_eq_true (by omega)).symm,λc=>by rw[decide_eq_decide];omega⟩,?_⟩
 rintro _ rfl
 refine⟨λc=>?_,λc=>⟨λd=>?_,λd=>⟨bP.zero,?_⟩⟩⟩
 ·rw[cn,if_pos (of_decide_eq_true c)]
 ·rw[cn,if_neg (of_decide_eq_false c),if_pos (by omega)]
 have c:=Classical.not_not.mp (of_decide_eq_false c)
 have hl:m.list.length≤9223372036854775806:=by omega
 have d:¬64<m.list.length:=by omega
 intro t1 h1
 refine⟨λe=>⟨h1.idx,e,λx hx=>⟨?_,?_⟩⟩,λe=>⟨bP.zero,?_⟩⟩
 ·have w:W (m.now+1000)=m.now+1000:=bB (by omega)
  rw[w]
  refine⟨λq=>(decide_eq_true (show ¬eJ m.now x from λr=>by obtain⟨⟨r,_⟩,_⟩:=r;omega)).symm,λq1=>⟨λq=>(decide_eq_true (show ¬eJ m.now x from λr=>by obtain⟨⟨_,r⟩,_⟩:=r;omega)).symm,λq2=>⟨λq=>(decide_eq_true (show ¬eJ m.now x from λr=>by obtain⟨_,⟨r,_⟩,_⟩:=r;omega)).symm,
   λq3=>⟨λq=>(decide_eq_true (show ¬eJ m.now x from λr=>by obtain⟨_,⟨_,r⟩,_⟩:=r;omega)).symm,λq4=>⟨λq=>(decide_eq_true (show ¬eJ m.now x from λr=>by obtain⟨_,_,r,_⟩:=r;omega)).symm,λq5=>by rw[decide_eq_decide];unfold eJ;omega⟩⟩⟩⟩⟩
 ·rintro _ rfl
  refine⟨λq=>?_,λq=>h1.step (by omega) hx (Classical.not_not.mp (of_decide_eq_false q))⟩
  rw[cn,if_neg (not_not_intro c),if_neg d,if_pos λr=>of_decide_eq_true q (r x (lT hx))]
 have g1:=h1.done e
 intro t2 h2
 refine⟨λe=>⟨h2.idx,e,λx hx=>⟨λq=>?_,λq=>h2.step (by omega) hx (by simpa using q)⟩⟩,λe=>⟨bP.zero,?_⟩⟩
 ·have f:=gJ h2 hx (by simpa using q)
  rw[cn,if_neg (not_not_intro c),if_neg d,if_neg (not_not_intro g1),f,if_pos (by simpa using q)]
 have g2:=gI (h2.done e)
 intro t3 h3
 refine⟨λe=>⟨h3.idx,e,λx hx=>⟨λq=>?_,λq=>h3.step (by omega) hx (by simpa[dU]using q)⟩⟩,λe=>⟨jh.one,?_⟩⟩
 ·rw[cn,if_neg (not_not_intro c),if_neg d,if_neg (not_not_intro g1),if_neg (not_not_intro g2),if_pos ⟨x,lT hx,by simpa[dU]using q⟩]
 have g3:¬∃x∈m.list,x.mode=1∧x.srcs=[]:=λ⟨x,hx,q⟩=>h3.done e x hx q
 intro t4 h4
 refine⟨λe=>⟨(h4.idx (by omega) e).1.1,(h4.idx (by omega) e).1.2,λx hx=>⟨(h4.idx (by omega) e).2,e,λy hy=>⟨(h4.idx (by omega) e).2,e,λy2 hy2=>?_⟩⟩⟩,λe=>?_⟩
 ·rw[hy]at hy2;cases hy2
  refine⟨λq=>?_,λq=>h4.step hl hx hy (by simpa[cY]using q)⟩
  rw[cn,if_neg (not_not_intro c),if_neg d,if_neg (not_not_intro g1),if_neg (not_not_intro g2),if_neg g3,if_pos (h4.bad hl hx hy (by simpa[cY]using q))]
 ·rw[cn,if_neg (not_not_intro c),if_neg d,if_neg (not_not_intro g1),if_neg (not_not_intro g2),if_neg g3,if_neg (not_not_intro (h4.done e xp))]
def LC(m:bW):PC Tryz.prog:=⟨43,[(.a [.k,(.s 5)])],[.agg [.int m.now,.sl 5 (m.list.map Mem.v) false]],Br (cn m),ao.of_ok λok=>(V0 m ok).elim λI0 h=>h.elim λI1 h=>h.elim λm1 h=>h.elim λI2 h=>h.elim λI3 h=>h.elim λm3 h=>h.elim λI4 h=>h.elim λm4 h=>h.elim λI5 h=>h.elim λm5 h=>aj (sh:=.k) (enc:=Br) (a:=(Bq m I0 I1 m1 I2 I3 m3 I4 m4 I5 m5).an) h (by kernel_rfl) (AV.pureB_ok rfl),ai (by kernel_rfl)⟩
theorem iP{m:bW}(h:cn m=0):(0≤m.now∧m.now≤1000000)∧m.list.length≤64∧(∀x∈m.list,eJ m.now x)∧(∀x∈m.list,aF x.mode x.srcs=0)∧(∀x∈m.list,¬(x.mode=1∧x.srcs=[]))∧m.list.Pairwise cY:=by
 unfold cn at h
 split at h
 ·cases h
 rename_i h1
 split at h
 ·cases h
 rename_i h2
 split at h
 ·cases h
 rename_i h3
 split at h
 ·rename_i h4;exact absurd h h4
 rename_i h4
 split at h
 ·cases h
 rename_i h5
 split at h
 ·cases h
 rename_i h6
 refine⟨Classical.not_not.mp h1,by omega,Classical.not_not.mp h3,λx hx=>?_,λx hx q=>h5 ⟨x,hx,q⟩,Classical.not_not.mp h6⟩
 refine Classical.byContradiction λq=>h4 ?_
 have hf:(m.list.map λx=>aF x.mode x.srcs).find? (· != 0)≠none:=by
  rw[Ne,List.find?_eq_none]
  exact λhn=>hn _ (List.mem_map_of_mem hx) (by simpa using q)
 rw[orI]
 cases e:(m.list.map λx=>aF x.mode x.srcs).find? (· != 0)with
 | none=>exact absurd e hf
 | some z =>
  have:=List.find?_some e
  simpa using this
theorem Ht{m:bW}(h1:0≤m.now∧m.now≤1000000)(h2:m.list.length≤64)(h3:∀x∈m.list,eJ m.now x)(h4:∀x∈m.list,aF x.mode x.srcs=0)(h5:∀x∈m.list,¬(x.mode=1∧x.srcs=[]))(h6:m.list.Pairwise cY):cn m=0:=by
 rw[cn,if_neg (not_not_intro h1),if_neg (by omega),if_neg (not_not_intro h3),if_neg (not_not_intro (gI h4)),if_neg (λ⟨x,hx,q⟩=>h5 x hx q),if_neg (not_not_intro h6)]
def ik(m:bW):List Int:=if cn m=0 then m.list.foldl (λout x=>put out x.grp) []else []
def Wg(m:bW):=okL [.agg [.int m.now,.sl 5 (m.list.map Mem.v) false]]
def Rv(m:bW)(t0:List Int×Int):NF:=⟨[(3,(.s 1),.sl 1 (t0.1.map AV.int) false),(10,.k,.sl 5 (m.list.map Mem.v) false),(11,.k,.int ((m.list.map Mem.v).length:Int)),(12,.k,.int t0.2)],[]⟩
@[reducible] def MD:Nat→Type
 | 0=>(List Int)×Int
 | _=>Unit
def BV(r:List Int):AV:=.sl 1 (r.map AV.int) false
def BU(m:bW)(I0:(List Int×Int)→Prop)(m0:(List Int×Int)→Nat):Ax Tryz.prog MD ((List Int)):=
 (.callP (LC m)
(.br 96 ((cn m)==0) (.loop 0 (Rv m) I0 m0 ([],0) [] λ(t0:List Int×Int) b0 =>
(.br 16 (decide (t0.2<((m.list.map Mem.v).length:Int))) (.el 16 Mem.v m.list (λR=>Rf (m.list.map Mem.v) (ck (decide (0≤t0.2)) (ck (decide (t0.2<(m.list.length:Int)))
(∀x1,m.list[t0.2.toNat]?=some x1 →
(R x1))))) λx1 =>
(.req 128 (t0.1.length≤900000) λh2 =>
(.callP (KF t0.1 x1.grp h2)
(.bk 0 b0 (put t0.1 x1.grp,W (t0.2+1)) []))))
(.ret (t0.1))))
(.ret ([]))))
def Fx(m:bW)(I0:(List Int×Int)→Prop)(m0:(List Int×Int)→Nat)(r0:List Int):=(BU m I0 m0).vp BV r0
theorem We(m:bW)(ok:Wg m):∃I0 m0,Fx m I0 m0 (ik m):=by
 refine⟨λt=>fT m.list (λout x=>put out x.grp) [] t.2 t.1,λt=>m.list.length-t.2.toNat,?_⟩
 dsimp only[Fx,BU,MD,Ax.vp,Ax.vc];simp only[vcU,rfU,List.length_map]
 refine⟨λc=>⟨fT.zero,?_⟩,λc=>?_⟩
 ·have c:cn m=0:=eq_of_beq c
  have hl:=(iP c).2.1
  rintro⟨out,i⟩ h
  simp only at h ⊢
  have hlen:=h.len (f:=List.length) (a:=0) (b:=1) (by simp) λs x _=>fG s x.grp
  refine⟨λd=>⟨h.idx,d,λx hx=>⟨by omega,h.step (by omega) hx rfl⟩⟩,λd=>?_⟩
  rw[ik,if_pos c,←h.done d]
 ·rw[ik,if_neg (by simpa using c)]
def Wf(m:bW):PC Tryz.prog:=⟨44,[(.a [.k,(.s 5)])],[.agg [.int m.now,.sl 5 (m.list.map Mem.v) false]],BV (ik m),ao.of_ok λok=>(We m ok).elim λI0 h=>h.elim λm0 h=>aj (sh:=(.s 1)) (enc:=BV) (a:=(BU m I0 m0).an) h (by kernel_rfl) (AV.pureB_ok rfl),ai (by kernel_rfl)⟩
def MO(m:bW)(g:Int):Flt:=m.list.foldl (λf x=>if x.grp=g then(unF f ⟨x.mode,x.srcs⟩).1 else f) ⟨1,[]⟩
def TK(m:bW)(g:Int):Wnt:=⟨g,(MO m g).mode,(MO m g).srcs⟩
def ofW(m:bW):List Wnt×Int:=if cn m≠0 then([],cn m)else if 32<(ik m).length then([],3)else((ik m).map (TK m),0)
theorem ME(m:bW):(ik m).length≤64:=by
 unfold ik
 split
 ·rename_i c
  have hl:=(iP c).2.1
  have key:∀(l:List Mem) (s:List Int),(l.foldl (λout x=>put out x.grp) s).length≤s.length+l.length:=by
   intro l
   induction l with
   | nil=>intro s;simp
   | cons x l ih=>intro s;have:=ih (put s x.grp);have:=fG s x.grp;simp only[List.foldl_cons,List.length_cons];omega
  have:=key m.list []
  simp at this;omega
 ·simp
def ofW_a(m:bW):=okL [.agg [.int m.now,.sl 5 (m.list.map Mem.v) false]]
def Vn(m:bW)(t0:Int×List Wnt):NF:=⟨[(1,.k,.ref 0 0),(5,.k,.vec 1),(17,.k,.sl 1 ((ik m).map AV.int) false),(18,.k,.int (((ik m).map AV.int).length:Int)),(19,.k,.int t0.1)],[.box (.agg [.int m.now,.sl 5 (m.list.map Mem.v) false]),.vec 3 (t0.2.map Wnt.v) (ab (λ_=>rfl) t0.2)]⟩
def Vm(m:bW)(t0:Int×List Wnt)(x1:Int)(t1:Int×Flt):NF:=⟨[(1,.k,.ref 0 0),(5,.k,.vec 1),(7,.k,.int x1),(8,.k,.ref 2 0),(17,.k,.sl 1 ((ik m).map AV.int) false),(18,.k,.int (((ik m).map AV.int).length:Int)),(19,.k,.int t0.1),(25,.k,.sl 5 (m.list.map Mem.v) false),(26,.k,.int ((m.list.map Mem.v).length:Int)),(27,.k,.int t1.1)],[.box (.agg [.int m.now,.sl 5 (m.list.map Mem.v) false]),.vec 3 (t0.2.map Wnt.v) (ab (λ_=>rfl) t0.2),.box (.agg [.int t1.2.mode,.sl 1 (t1.2.srcs.map AV.int) false])]⟩
@[reducible] def Tl:Nat→Type
 | 0=>Int×List Wnt
 | 1=>Int×Flt
 | _=>Unit
def Li(r:List Wnt×Int):AV:=.tup [.sl 3 (r.1.map Wnt.v) false,.int r.2]
def Lg(m:bW)(I0:(Int×List Wnt)→Prop)(m0:(Int×List Wnt)→Nat)(I1:Int×List Wnt→Int→(Int×Flt)→Prop)(m1:Int×List Wnt→Int→(Int×Flt)→Nat):Ax Tryz.prog Tl (List Wnt×Int):=
 (.callP (LC m)
(.br 128 ((cn m) != 0) (.ret ([],cn m))
(.callP (Wf m)
(.cmdL (.nilT 5 3) (.loop 0 (Vn m) I0 m0 (0,[]) [0,208] λ(t0:Int×List Wnt) b0 =>
(.br 18 (decide (t0.1<(((ik m).map AV.int).length:Int))) (.el 18 AV.int (ik m) (λR=>Rf ((ik m).map AV.int) (ck (decide (0≤t0.1)) (ck (decide (t0.1<((ik m).length:Int)))
(∀x1,(ik m)[t0.1.toNat]?=some x1 →
(R x1))))) λx1 =>
(.callP (eM )
(.loop 1 (Vm m t0 x1) (I1 t0 x1) (m1 t0 x1) (0,(⟨1,[]⟩:Flt)) [0,1,82] λ(t1:Int×Flt) b1 =>
(.br 19 (decide (t1.1<((m.list.map Mem.v).length:Int))) (.el 19 Mem.v m.list (λR=>Rf (m.list.map Mem.v) (ck (decide (0≤t1.1)) (ck (decide (t1.1<(m.list.length:Int)))
(∀x2,m.list[t1.1.toNat]?=some x2 →
(R x2))))) λx2 =>
(.br 147 (x2.grp==x1) (.callP (unF_c t1.2 (⟨x2.mode,x2.srcs⟩:Flt))
(.bk 1 b1 (W (t1.1+1),(unF t1.2 (⟨x2.mode,x2.srcs⟩:Flt)).1) [0,1,2]))
(.bk 1 b1 (W (t1.1+1),t1.2) [0,1,2])))
(.say (λR=>Rf (α:=List AV) (t0.2.map Wnt.v) (Rf (α:=List AV) [.agg [.int x1,.int t1.2.mode,.sl 1 (t1.2.srcs.map AV.int) false]]
(ck (decide (t0.2.length+1≤1048576))
R))) (.app 99 Wnt.v t0.2 [(⟨x1,t1.2.mode,t1.2.srcs⟩:Wnt)]
(.bk 0 b0 (W (t0.1+1),t0.2++[(⟨x1,t1.2.mode,t1.2.srcs⟩:Wnt)]) [0,99])))))))
(.br 66 (decide (32<((t0.2.map Wnt.v).length:Int))) (.ret ([],3))
(.say (Rf (t0.2.map Wnt.v)) (.cmdL (.frzE 1 (t0.2.map Wnt.v) (ab (λ_=>rfl) t0.2)) (.ret (t0.2,0)))))))))))
def Lh(m:bW)(I0:(Int×List Wnt)→Prop)(m0:(Int×List Wnt)→Nat)(I1:Int×List Wnt→Int→(Int×Flt)→Prop)(m1:Int×List Wnt→Int→(Int×Flt)→Nat)(r0:List Wnt×Int):=(Lg m I0 m0 I1 m1).vp Li r0
theorem ofW_p(m:bW)(ok:ofW_a m):∃I0 m0 I1 m1,Lh m I0 m0 I1 m1 (ofW m):=by
 refine⟨λt=>dI (ik m) (λg=>[TK m g]) t.1 t.2,λt=>(ik m).length-t.1.toNat,λ_ g t=>fT m.list (λf x=>if x.grp=g then(unF f ⟨x.mode,x.srcs⟩).1 else f) ⟨1,[]⟩ t.1 t.2,λ_ _ t=>m.list.length-t.1.toNat,?_⟩
 dsimp only[Lh,Lg,Tl,Ax.vp,Ax.vc];simp only[vcU,rfU,List.length_map]
 refine⟨λc=>?_,λc=>⟨dI.zero,?_⟩⟩
 ·rw[ofW,if_pos (by simpa using c)]
 have c:cn m=0:=by simpa using c
 have hl:=(iP c).2.1
 have hg:=ME m
 rintro⟨i,out⟩ h
 simp only at h ⊢
 have hlen:=h.len (b:=1) (by simp)
 refine⟨λd=>⟨h.idx,d,λg hgx=>⟨fT.zero,?_⟩⟩,λd=>?_⟩
 ·rintro⟨j,f⟩ k
  simp only at k ⊢
  refine⟨λe=>⟨k.idx,e,λx hx=>⟨λq=>k.step (by omega) hx ?_,λq=>k.step (by omega) hx ?_⟩⟩,λe=>⟨by omega,h.step (by omega) hgx ?_⟩⟩
  ·rw[if_pos (eq_of_beq q)]
  ·rw[if_neg (by simpa using q)]
  ·rw[TK,MO,←k.done e]
 ·have e:=h.done d
  rw[dv]at e
  subst e
  rw[List.length_map,ofW,if_neg (not_not_intro c)]
  refine⟨λq=>by rw[if_pos (by omega)],λq=>by rw[if_neg (by omega)]⟩
def Tm(m:bW):PC Tryz.prog:=⟨12,[(.a [.k,(.s 5)])],[.agg [.int m.now,.sl 5 (m.list.map Mem.v) false]],Li (ofW m),ao.of_ok λok=>(ofW_p m ok).elim λI0 h=>h.elim λm0 h=>h.elim λI1 h=>h.elim λm1 h=>aj (sh:=(.a [(.s 3),.k])) (enc:=Li) (a:=(Lg m I0 m0 I1 m1).an) h (by kernel_rfl) (AV.pureB_ok rfl),ai (by kernel_rfl)⟩
def kW(l:List Wnt)(f:Flw):Bool:=decide (bh false l=0) && eQ (bM l f.grp) f.src
def TA(l:List Wnt)(f:Flw):=okL [.sl 3 (l.map Wnt.v) false,.agg [.int f.src,.int f.grp]]
def zB(r:Bool):AV:=.bool r
def zA(l:List Wnt)(f:Flw):Ax Tryz.prog noS (Bool):=
 (.callP (kZ l)
(.br 96 ((bh false l)==0) (.callP (kM l f.grp)
(.callP (zH (bM l f.grp) f.src)
(.ret (eQ (bM l f.grp) f.src))))
(.ret (false))))
def Dr(l:List Wnt)(f:Flw)(r0:Bool):=(zA l f).vp zB r0
theorem T8(l:List Wnt)(f:Flw)(ok:TA l f):Dr l f (kW l f):=by
 dsimp only[Dr,zA,noS,Ax.vp,Ax.vc];simp only[vcU,rfU,List.length_map]
 refine⟨λc=>?_,λc=>?_⟩
 ·rw[kW,decide_eq_true (eq_of_beq c)];rfl
 ·rw[kW,decide_eq_false (by simpa using c)];rfl
def T9(l:List Wnt)(f:Flw):PC Tryz.prog:=⟨13,[(.s 3),.k],[.sl 3 (l.map Wnt.v) false,.agg [.int f.src,.int f.grp]],zB (kW l f),ao.of_ok λok=>aj (sh:=.k) (enc:=zB) (a:=(zA l f).an) (T8 l f ok) (by kernel_rfl) (AV.pureB_ok rfl),ai (by kernel_rfl)⟩
def kL(f:Int→Int×List Int)(g:Int):List Wnt:=if f g=(1,[])then []else [⟨g,(f g).1,(f g).2⟩]
def eW(f:Int→Int×List Int):Nat→List Wnt
 | 0=>[]
 | n+1=>eW f n++kL f (n+1)
def aM(l:List Itm):List Wnt:=if aT 1000000 l then eW (dh l) 99 else []
theorem rc{f:Int→Int×List Int}{g:Int}{w:Wnt}:w∈kL f g↔w.grp=g∧f w.grp=(w.mode,w.srcs)∧f w.grp≠(1,[]):=by
 unfold kL
 split
 ·rename_i e
  simp only[List.not_mem_nil,false_iff]
  rintro⟨rfl,_,h⟩;exact h e
 ·rename_i e
  rw[List.mem_singleton]
  constructor
  ·rintro rfl;exact⟨rfl,rfl,e⟩
  ·rintro⟨rfl,h1,_⟩
   rw[h1]
theorem js{f:Int→Int×List Int}{w:Wnt}:∀{n:Nat},w∈eW f n↔(1≤w.grp∧w.grp≤n)∧f w.grp=(w.mode,w.srcs)∧f w.grp≠(1,[])
 | 0=>by simp only[eW,List.not_mem_nil,false_iff];rintro⟨h,_⟩;omega
 | n+1=>by
  rw[eW,List.mem_append,js (n:=n),rc]
  constructor
  ·rintro(⟨h1,h2⟩|⟨h1,h2⟩)
   ·exact⟨by omega,h2⟩
   ·exact⟨by omega,h2⟩
  ·rintro⟨h1,h2⟩
   by_cases e:w.grp=((n+1:Nat):Int)
   ·exact .inr ⟨by omega,h2⟩
   ·exact .inl ⟨by omega,h2⟩
theorem lH{f:Int→Int×List Int}:∀n:Nat,(eW f n).Pairwise λx y=>x.grp<y.grp
 | 0=>List.Pairwise.nil
 | n+1=>by
  refine List.pairwise_append.mpr ⟨lH n,?_,λa ha b hb=>?_⟩
  ·unfold kL;split
   ·exact List.Pairwise.nil
   ·exact List.pairwise_singleton _ _
  ·have:=(js.mp ha).1
   have:=(rc.mp hb).1
   omega
theorem zk:∀{a b:List Wnt},a.Pairwise (λx y=>x.grp<y.grp)→b.Pairwise (λx y=>x.grp<y.grp)→(∀x,x∈a↔x∈b)→a=b:=by
 intro a
 induction a with
 | nil =>
  intro b _ _ h
  cases b with
  | nil=>rfl
  | cons y b=>exact absurd ((h y).mpr (by simp)) (by simp)
 | cons x a ih =>
  intro b ha hb h
  cases b with
  | nil=>exact absurd ((h x).mp (by simp)) (by simp)
  | cons y b =>
   rw[List.pairwise_cons]at ha hb
   have hxy:x=y:=by
    refine Classical.byContradiction λhne=>?_
    have h1:x∈b:=(List.mem_cons.mp ((h x).mp (by simp))).resolve_left hne
    have h2:y∈a:=(List.mem_cons.mp ((h y).mpr (by simp))).resolve_left (Ne.symm hne)
    have:=ha.1 y h2
    have:=hb.1 x h1
    omega
   subst hxy
   rw[ih ha.2 hb.2 λz=>?_]
   constructor
   ·intro hz
    refine(List.mem_cons.mp ((h z).mp (by simp[hz]))).resolve_left λe=>?_
    subst e
    have:=ha.1 z hz
    omega
   ·intro hz
    refine(List.mem_cons.mp ((h z).mpr (by simp[hz]))).resolve_left λe=>?_
    subst e
    have:=hb.1 z hz
    omega
theorem Pp{l:List Itm}(h:(l.map Itm.grp).Nodup){x:Itm}(hx:x∈l):dh l x.grp=(x.mode,x.srcs):=by
 unfold dh
 cases e:l.find? λy=>decide (y.grp=x.grp)with
 | none=>rw[List.find?_eq_none]at e;exact absurd (e x hx) (by simp)
 | some y =>
  have h1:=List.mem_of_find?_eq_some e
  have h2:=List.find?_some e
  rw[Nodup.grp h h1 hx (by simpa using h2)]
theorem Po{l:List Itm}{g:Int}(h:∀x∈l,x.grp≠g):dh l g=(1,[]):=by
 unfold dh
 rw[List.find?_eq_none.mpr (λx hx=>by simpa using h x hx)]
theorem GI{l:List Itm}{g:Int}(h:dh l g≠(1,[])):∃x∈l,x.grp=g∧dh l g=(x.mode,x.srcs):=by
 unfold dh at h ⊢
 cases e:l.find? λy=>decide (y.grp=g)with
 | none=>rw[e]at h;exact absurd rfl h
 | some y=>exact⟨y,List.mem_of_find?_eq_some e,by simpa using List.find?_some e,rfl⟩
def me(l:List Wnt)(g:Int):Int×List Int:=((bM l g).mode,(bM l g).srcs)
theorem MT{l:List Wnt}(h:l.Pairwise λx y=>x.grp<y.grp){w:Wnt}(hw:w∈l):bM l w.grp=⟨w.mode,w.srcs⟩:=by
 unfold bM
 cases e:l.find? λy=>decide (y.grp=w.grp)with
 | none=>rw[List.find?_eq_none]at e;exact absurd (e w hw) (by simp)
 | some y =>
  have h1:=List.mem_of_find?_eq_some e
  have h2:y.grp=w.grp:=by simpa using List.find?_some e
  have:y=w:=by
   obtain⟨i,hi,rfl⟩:=List.mem_iff_getElem.mp h1
   obtain⟨j,hj,rfl⟩:=List.mem_iff_getElem.mp hw
   rw[List.pairwise_iff_getElem]at h
   rcases Nat.lt_trichotomy i j with g|g|g
   ·have:=h i j hi hj g;omega
   ·subst g;rfl
   ·have:=h j i hj hi g;omega
  rw[this]
theorem Ca{l:List Wnt}{g:Int}(h:bM l g≠⟨1,[]⟩):∃w∈l,w.grp=g∧bM l g=⟨w.mode,w.srcs⟩:=by
 unfold bM at h ⊢
 cases e:l.find? λy=>decide (y.grp=g)with
 | none=>rw[e]at h;exact absurd rfl h
 | some y=>exact⟨y,List.mem_of_find?_eq_some e,by simpa using List.find?_some e,rfl⟩
theorem MW{l:List Wnt}{g:Int}:me l g≠(1,[])↔bM l g≠⟨1,[]⟩:=by
 unfold me
 cases bM l g
 simp
theorem pL{s:Spk}{c:List Wnt}(h:(change s c).2=0):bc s∧bh true c=0∧¬1000000<(c.foldl dA (s.last,s.items)).1 ∧
  change s c=(⟨s.router,s.epoch,(c.foldl dA (s.last,s.items)).1,(c.foldl dA (s.last,s.items)).2,s.peers⟩,0):=by
 unfold change at h ⊢
 by_cases h1:bc s
 case neg=>rw[if_pos h1]at h;simp at h
 by_cases h2:bh true c=0
 case neg=>rw[if_neg (not_not_intro h1),if_pos h2]at h;exact absurd h h2
 by_cases h3:1000000<(c.foldl dA (s.last,s.items)).1
 case pos=>rw[if_neg (not_not_intro h1),if_neg (not_not_intro h2),if_pos h3]at h;simp at h
 rw[if_neg (not_not_intro h1),if_neg (not_not_intro h2),if_neg h3]
 exact⟨h1,h2,h3,rfl⟩
theorem vm{s:Spk}{c:List Wnt}(h:(change s c).2=0):bc (change s c).1:=by
 obtain⟨h1,h2,h3,e⟩:=pL h
 rw[e]
 obtain⟨p1,p2,p3,p4,p5,p6,p7⟩:=h1
 obtain⟨q1,q2,q3,q4⟩:=CK p4 p3.1 (pG h2)
 refine⟨p1,p2,⟨q4,by simp only;omega⟩,q1,p5,λp hp=>?_,p7⟩
 obtain⟨r1,r2,r3,r4⟩:=p6 p hp
 exact⟨r1,r2,r3,r4.1,by have:=q2.le;simp only;omega⟩
theorem lY{s:Spk}{w:List Wnt}(h:(bR s w).2=0):bc s∧bh false w=0∧s.epoch≠1000000 ∧
  bR s w=(⟨s.router,s.epoch+1,w.length,w.mapIdx my,s.peers.map λp=>⟨p.router,0,0⟩⟩,0):=by
 unfold bR at h ⊢
 by_cases h1:bc s
 case neg=>rw[if_pos h1]at h;simp at h
 by_cases h2:bh false w=0
 case neg=>rw[if_neg (not_not_intro h1),if_pos h2]at h;exact absurd h h2
 by_cases h3:s.epoch=1000000
 case pos=>rw[if_neg (not_not_intro h1),if_neg (not_not_intro h2),if_pos h3]at h;simp at h
 rw[if_neg (not_not_intro h1),if_neg (not_not_intro h2),if_neg h3]
 exact⟨h1,h2,h3,rfl⟩
theorem qi{s:Spk}{w:List Wnt}(h:(bR s w).2=0):bc (bR s w).1:=by
 obtain⟨h1,h2,h3,e⟩:=lY h
 rw[e]
 obtain⟨p1,p2,p3,p4,p5,p6,p7⟩:=h1
 obtain⟨w1,_,_,_,w5⟩:=eD.mp h2
 refine⟨p1,⟨by simp only;omega,by simp only;omega⟩,⟨by simp only;omega,by simp only;omega⟩,qj (pG h2) w5,by simpa using p5,λq hq=>?_,?_⟩
 ·obtain⟨q',hq',rfl⟩:=List.mem_map.mp hq
  obtain⟨r1,r2,_,_⟩:=p6 q' hq'
  exact⟨r1,r2,⟨by simp,by simp⟩,by simp,by simp⟩
 ·rw[List.pairwise_map];exact p7
end Go.Proofs.YthhpaedpnjdnbaaGreatDoor
