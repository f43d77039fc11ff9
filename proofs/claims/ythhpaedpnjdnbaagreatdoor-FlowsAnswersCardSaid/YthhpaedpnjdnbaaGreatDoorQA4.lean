/- Texts joined: G1 G2 V1 V2 V3 U1 GW TP0 TP1 TP2. -/
import Derived.Test.YthhpaedpnjdnbaaGreatDoorQA3
set_option linter.unusedVariables false
set_option linter.unusedSimpArgs false
namespace Go.Proofs.YthhpaedpnjdnbaaGreatDoor
open Go Go.Am
def Rb(l:List Int):AV:=.sl 1 (l.map .int) false
def kT(l:List Int):Prop:=∀i,i<l.length-1→l.getD i 0<l.getD (i+1) 0
instance (l:List Int):Decidable (kT l):=by unfold kT;infer_instance
def lq(l:List Int):Prop:=∀s∈l,1≤s∧s≤99
instance (l:List Int):Decidable (lq l):=by unfold lq;infer_instance
def aF(m:Int)(l:List Int):Int:=if ¬(m=1∨m=2)then 1 else if ¬lq l then 2 else if ¬kT l then 25 else 0
theorem iV{l:List Int}{i:Nat}(h:i<l.length):l.getD i 0=l[i]:=by
 simp[List.getD_eq_getElem?_getD,List.getElem?_eq_getElem h]
theorem gj{l:List Int}{i:Nat}{x:Int}(h:l[i]?=some x):l.getD i 0=x:=by
 simp[List.getD_eq_getElem?_getD,h]
def orI(l:List Int):Int:=(l.find? (· != 0)).getD 0
def cmpI(x y:Int):Int:=if x<y then -1 else if y<x then 1 else 0
def oS(x:Int):Bool:=false
theorem av{k n:Nat}(h:k<n)(hn:n≤9223372036854775807):W ((k:Int)+1)=((k+1:Nat):Int):=by rw[bB (by omega)];omega
theorem dw{k:Nat}(h:k≤9223372036854775807)(h1:1≤k):W ((k:Int)-1)=((k-1:Nat):Int):=by rw[bB (by omega)];omega
def Ra(x:Int):=okL [.int x]
def tZ(r:Bool):AV:=.bool r
def tY(x:Int):Ax Tryz.prog noS (Bool):=
 (.ret (x != x))
def xI(x:Int)(r0:Bool):=(tY x).vp tZ r0
theorem QZ(x:Int)(ok:Ra x):xI x (oS x):=by
 dsimp only[xI,tY,noS,Ax.vp,Ax.vc];simp only[vcU,rfU,List.length_map]
 simp[oS]
def Fe(x:Int):PC Tryz.prog:=⟨167,[.k],[.int x],tZ (oS x),ao.of_ok λok=>aj (sh:=.k) (enc:=tZ) (a:=(tY x).an) (QZ x ok) (by kernel_rfl) (AV.pureB_ok rfl),ai (by kernel_rfl)⟩
def WJ(x:Int)(y:Int):=okL [.int x,.int y]
def CE(r:Int):AV:=.int r
def CD(x:Int)(y:Int):Ax Tryz.prog noS (Int):=
 (.callP (Fe x)
(.callP (Fe y)
(.br 128 (oS x) (.br 144 (oS y) (.ret (0))
(.ret (-1)))
(.br 144 (oS y) (.ret (1))
(.br 192 (decide (x<y)) (.ret (-1))
(.br 240 (decide (y<x)) (.ret (1))
(.ret (0))))))))
def FS(x:Int)(y:Int)(r0:Int):=(CD x y).vp CE r0
theorem WI(x y:Int)(ok:WJ x y):FS x y (cmpI x y):=by
 dsimp only[FS,CD,noS,Ax.vp,Ax.vc];simp only[vcU,rfU,List.length_map]
 simp only[oS,Bool.false_eq_true,false_implies,true_implies,true_and,cmpI]
 refine⟨λh=>by rw[if_pos h],λh=>⟨λh2=>by rw[if_neg h,if_pos h2],λh2=>by rw[if_neg h,if_neg h2]⟩⟩
def N1(x:Int)(y:Int):PC Tryz.prog:=⟨132,[.k,.k],[.int x,.int y],CE (cmpI x y),ao.of_ok λok=>aj (sh:=.k) (enc:=CE) (a:=(CD x y).an) (WI x y ok) (by kernel_rfl) (AV.pureB_ok rfl),ai (by kernel_rfl)⟩
theorem HN{l:List Int}{k:Nat}{x:Int}(h:l.take k |>.all (·==0))(hx:l[k]?=some x)(hn:x≠0):l.find? (· != 0)=some x:=by
 rw[List.find?_eq_some_iff_getElem]
 refine⟨by simpa using hn,k,ay hx,by rw[List.getElem?_eq_getElem (ay hx)]at hx;exact Option.some.inj hx,λj hj=>?_⟩
 have:=List.all_eq_true.mp h (l[j]'(by have:=ay hx;omega)) (List.mem_take_iff_getElem.mpr ⟨j,by have:=ay hx;omega,rfl⟩)
 simpa using this
def N7(s:List Int):=okL [.sl 1 (s.map AV.int) false]
def pE(r:List Int):AV:=.sl 1 (r.map AV.int) false
def pD(s:List Int):Ax Tryz.prog noS ((List Int)):=
 (.allB (λb1=>((s.map AV.int)≠[]→b1=false)) λb1 =>
(.br 48 (b1 != false) (.ret ([]))
(.say (λR=>Rf (α:=List AV) [] (Rf (α:=List AV) (s.map AV.int)
(ck (decide (0+s.length≤1048576))
R))) (.app 80 AV.int [] s
(.say (Rf (s.map AV.int)) (.cmdL (.frzE 80 (s.map AV.int) (ab (λ_=>rfl) s)) (.ret (s))))))))
def rQ(s:List Int)(r0:List Int):=(pD s).vp pE r0
theorem N5(s:List Int)(h:s.length≤1000000)(ok:N7 s):rQ s s:=by
 dsimp only[rQ,pD,noS,Ax.vp,Ax.vc];simp only[vcU,rfU,List.length_map]
 intro b hb
 simp only[AK,true_and,and_true,Nat.zero_add]
 refine⟨λh1=>?_,λ_=>by omega⟩
 cases s with
 | nil=>rfl
 | cons x s=>simp at hb;simp[hb]at h1
def N6(s:List Int)(h:s.length≤1000000):PC Tryz.prog:=⟨170,[(.s 1)],[.sl 1 (s.map AV.int) false],pE s,ao.of_ok λok=>aj (sh:=(.s 1)) (enc:=pE) (a:=(pD s).an) (N5 s h ok) (by kernel_rfl) (AV.pureB_ok rfl),ai (by kernel_rfl)⟩
theorem DR{a b:List Int}{k:Nat}{x y:Int}(h:a.take k=b.take k)(hx:a[k]?=some x)(hy:b[k]?=some y)(e:(x != y)=false):a.take (k+1)=b.take (k+1):=by
 have e:x=y:=by simpa using e
 rw[ax hx,ax hy,h,e]
def fj(a b:List Int):Bool:=decide (a=b)
abbrev EqI:=fj
def zt(a:List Int)(b:List Int):=okL [.sl 1 (a.map AV.int) false,.sl 1 (b.map AV.int) false]
def IE(a:List Int)(b:List Int)(t0:Int):NF:=⟨[(0,.k,.sl 1 (a.map AV.int) false),(1,.k,.sl 1 (b.map AV.int) false),(5,.k,.int t0)],[]⟩
@[reducible] def zr:Nat→Type
 | 0=>Int
 | _=>Unit
def pZ(r:Bool):AV:=.bool r
def pY(a:List Int)(b:List Int)(I0:Int→Prop)(m0:Int→Nat):Ax Tryz.prog zr (Bool):=
 (.br 96 (((a.map AV.int).length:Int) != ((b.map AV.int).length:Int)) (.ret (false))
(.loop 0 (IE a b) I0 m0 ((0):Int) [] λ(t0:Int) b0 =>
(.br 64 (decide (t0<((a.map AV.int).length:Int))) (.el 96 AV.int a (λR=>Rf (a.map AV.int) (ck (decide (0≤t0)) (ck (decide (t0<(a.length:Int)))
(∀x1,a[t0.toNat]?=some x1 →
(R x1))))) λx1 =>
(.el 160 AV.int b (λR=>Rf (b.map AV.int) (ck (decide (0≤t0)) (ck (decide (t0<(b.length:Int)))
(∀x2,b[t0.toNat]?=some x2 →
(R x2))))) λx2 =>
(.br 208 (x1 != x2) (.ret (false))
(.bk 0 b0 ((W (t0+1)):Int) []))))
(.ret (true)))))
def rY(a:List Int)(b:List Int)(I0:Int→Prop)(m0:Int→Nat)(r0:Bool):=(pY a b I0 m0).vp pZ r0
theorem O8(a b:List Int)(ok:zt a b):∃I m,rY a b I m (fj a b):=by
 simp only[zt,okU,Blk.ok,aK,List.length_map]at ok
 refine⟨λi=>∃k:Nat,i=k∧k≤a.length∧a.take k=b.take k,λi=>a.length-i.toNat,?_⟩
 dsimp only[rY,pY,zr,Ax.vp,Ax.vc];simp only[vcU,rfU,List.length_map]
 refine⟨λh=>?_,λh=>⟨⟨0,rfl,by omega,rfl⟩,?_⟩⟩
 ·refine(decide_eq_false λe=>?_).symm
  subst e;simp at h
 have hl:a.length=b.length:=by simp at h;omega
 rintro _ ⟨k,rfl,hk,h⟩
 simp only[Int.toNat_natCast]
 refine⟨λh1=>⟨by omega,by omega,λx hx=>⟨by omega,by omega,λy hy=>⟨λe=>?_,λe=>?_⟩⟩⟩,λh1=>?_⟩
 ·refine(decide_eq_false λe'=>?_).symm
  subst e';rw[hx]at hy;cases hy;simp at e
 ·rw[av (n:=a.length) (by omega) (by omega)]
  exact⟨⟨k+1,rfl,by omega,DR h hx hy e⟩,by omega⟩
 ·rw[List.take_of_length_le (by omega),List.take_of_length_le (by omega)]at h
  exact(decide_eq_true h).symm
def qc(a:List Int)(b:List Int):PC Tryz.prog:=⟨15,[(.s 1),(.s 1)],[.sl 1 (a.map AV.int) false,.sl 1 (b.map AV.int) false],pZ (fj a b),ao.of_ok λok=>(O8 a b ok).elim λI0 h=>h.elim λm0 h=>aj (sh:=.k) (enc:=pZ) (a:=(pY a b I0 m0).an) h (by kernel_rfl) (AV.pureB_ok rfl),ai (by kernel_rfl)⟩
def T3(s1:List Int)(s2:List Int):=okL [.sl 1 (s1.map AV.int) false,.sl 1 (s2.map AV.int) false]
def X6(s1:List Int)(s2:List Int)(t0:Int):NF:=⟨[(0,.k,.sl 1 (s1.map AV.int) false),(1,.k,.sl 1 (s2.map AV.int) false),(12,.k,.int ((s1.map AV.int).length:Int)),(13,.k,.int t0)],[]⟩
@[reducible] def T2:Nat→Type
 | 0=>Int
 | _=>Unit
def OK(r:Bool):AV:=.bool r
def OH(s1:List Int)(s2:List Int)(I0:Int→Prop)(m0:Int→Nat):Ax Tryz.prog T2 (Bool):=
 (.br 96 (((s1.map AV.int).length:Int) != ((s2.map AV.int).length:Int)) (.ret (false))
(.loop 0 (X6 s1 s2) I0 m0 ((0):Int) [] λ(t0:Int) b0 =>
(.br 16 (decide (t0<((s1.map AV.int).length:Int))) (.el 80 AV.int s1 (λR=>Rf (s1.map AV.int) (ck (decide (0≤t0)) (ck (decide (t0<(s1.length:Int)))
(∀x1,s1[t0.toNat]?=some x1 →
(R x1))))) λx1 =>
(.el 144 AV.int s2 (λR=>Rf (s2.map AV.int) (ck (decide (0≤t0)) (ck (decide (t0<(s2.length:Int)))
(∀x2,s2[t0.toNat]?=some x2 →
(R x2))))) λx2 =>
(.br 192 (x1 != x2) (.ret (false))
(.bk 0 b0 ((W (t0+1)):Int) []))))
(.ret (true)))))
def OJ(s1:List Int)(s2:List Int)(I0:Int→Prop)(m0:Int→Nat)(r0:Bool):=(OH s1 s2 I0 m0).vp OK r0
theorem EqI_p(a b:List Int)(ok:T3 a b):∃I m,OJ a b I m (EqI a b):=by
 simp only[T3,okU,Blk.ok,aK,List.length_map]at ok
 refine⟨λi=>∃k:Nat,i=k∧k≤a.length∧a.take k=b.take k,λi=>a.length-i.toNat,?_⟩
 dsimp only[OJ,OH,T2,Ax.vp,Ax.vc];simp only[vcU,rfU,List.length_map]
 refine⟨λh=>?_,λh=>⟨⟨0,rfl,by omega,rfl⟩,?_⟩⟩
 ·refine(decide_eq_false λe=>?_).symm
  subst e;simp at h
 have hl:a.length=b.length:=by simp at h;omega
 rintro _ ⟨k,rfl,hk,h⟩
 simp only[Int.toNat_natCast]
 refine⟨λh1=>⟨by omega,by omega,λx hx=>⟨by omega,by omega,λy hy=>⟨λe=>?_,λe=>?_⟩⟩⟩,λh1=>?_⟩
 ·refine(decide_eq_false λe'=>?_).symm
  subst e';rw[hx]at hy;cases hy;simp at e
 ·rw[av (n:=a.length) (by omega) (by omega)]
  exact⟨⟨k+1,rfl,by omega,DR h hx hy e⟩,by omega⟩
 ·rw[List.take_of_length_le (by omega),List.take_of_length_le (by omega)]at h
  exact(decide_eq_true h).symm
def EqI_c(s1:List Int)(s2:List Int):PC Tryz.prog:=⟨75,[(.s 1),(.s 1)],[.sl 1 (s1.map AV.int) false,.sl 1 (s2.map AV.int) false],OK (EqI s1 s2),ao.of_ok λok=>(EqI_p s1 s2 ok).elim λI0 h=>h.elim λm0 h=>aj (sh:=.k) (enc:=OK) (a:=(OH s1 s2 I0 m0).an) h (by kernel_rfl) (AV.pureB_ok rfl),ai (by kernel_rfl)⟩
def T1(l:List Int)(x:Int):=okL [.sl 1 (l.map AV.int) false,.int x]
def X0(l:List Int)(x:Int)(t0:Int):NF:=⟨[(0,.k,.sl 1 (l.map AV.int) false),(1,.k,.int x),(5,.k,.int t0)],[]⟩
@[reducible] def T0:Nat→Type
 | 0=>Int
 | _=>Unit
def OB(r:Bool):AV:=.bool r
def O9(l:List Int)(x:Int)(I0:Int→Prop)(m0:Int→Nat):Ax Tryz.prog T0 (Bool):=
 (.loop 0 (X0 l x) I0 m0 ((0):Int) [] λ(t0:Int) b0 =>
(.br 64 (decide (t0<((l.map AV.int).length:Int))) (.el 96 AV.int l (λR=>Rf (l.map AV.int) (ck (decide (0≤t0)) (ck (decide (t0<(l.length:Int)))
(∀x1,l[t0.toNat]?=some x1 →
(R x1))))) λx1 =>
(.br 160 (x1==x) (.ret (true))
(.bk 0 b0 ((W (t0+1)):Int) [])))
(.ret (false))))
def OA(l:List Int)(x:Int)(I0:Int→Prop)(m0:Int→Nat)(r0:Bool):=(O9 l x I0 m0).vp OB r0
def InI(l:List Int)(x:Int):Bool:=decide (x∈l)
theorem InI_p(l:List Int)(x:Int)(ok:T1 l x):∃I m,OA l x I m (InI l x):=by
 simp only[T1,okU,Blk.ok,aK,List.length_map]at ok
 refine⟨λi=>∃k:Nat,i=k∧k≤l.length∧x ∉ l.take k,λi=>l.length-i.toNat,?_⟩
 dsimp only[OA,O9,T0,Ax.vp,Ax.vc];simp only[vcU,rfU,List.length_map]
 refine⟨⟨0,rfl,by omega,by simp⟩,?_⟩
 rintro _ ⟨k,rfl,hk,h⟩
 simp only[Int.toNat_natCast]
 refine⟨λh1=>⟨by omega,by omega,λy hy=>⟨λe=>?_,λe=>?_⟩⟩,λh1=>?_⟩
 ·exact(decide_eq_true (by have:=aB hy;simp at e;rwa [e]at this)).symm
 ·rw[av (n:=l.length) (by omega) (by omega)]
  refine⟨⟨k+1,rfl,by omega,?_⟩,by omega⟩
  rw[ax hy];simp at e ⊢;exact⟨h,λe'=>e e'.symm⟩
 ·rw[List.take_of_length_le (by omega)]at h
  exact(decide_eq_false h).symm
def zu(l:List Int)(x:Int):PC Tryz.prog:=⟨90,[(.s 1),.k],[.sl 1 (l.map AV.int) false,.int x],OB (InI l x),ao.of_ok λok=>(InI_p l x ok).elim λI0 h=>h.elim λm0 h=>aj (sh:=.k) (enc:=OB) (a:=(O9 l x I0 m0).an) h (by kernel_rfl) (AV.pureB_ok rfl),ai (by kernel_rfl)⟩
def Gr:Flt:=⟨1,[]⟩
def ID:Prop:=okL []
def lW(r:Flt):AV:=Flt.v r
def lV:Ax Tryz.prog noS (Flt):=
 (.ret ((⟨1,[]⟩:Flt)))
def pW(r0:Flt):=(lV).vp lW r0
theorem IC(ok:ID):pW Gr:=by
 dsimp only[pW,lV,noS,Ax.vp,Ax.vc];simp only[vcU,rfU,List.length_map]
 rfl
def eM:PC Tryz.prog:=⟨45,[],[],lW Gr,ao.of_ok λok=>aj (sh:=(.a [.k,(.s 1)])) (enc:=lW) (a:=(lV).an) (IC ok) (by kernel_rfl) (AV.pureB_ok rfl),ai (by kernel_rfl)⟩
def dU(a b:Flt):Bool:=decide (a=b)
theorem lI{a b:Flt}:a=b↔a.mode=b.mode∧a.srcs=b.srcs:=by cases a;cases b;simp
def Tg(a:Flt)(b:Flt):=okL [.agg [.int a.mode,.sl 1 (a.srcs.map AV.int) false],.agg [.int b.mode,.sl 1 (b.srcs.map AV.int) false]]
def vF(r:Bool):AV:=.bool r
def vE(a:Flt)(b:Flt):Ax Tryz.prog noS (Bool):=
 (.br 144 (a.mode==b.mode) (.callP (qc a.srcs b.srcs)
(.ret (fj a.srcs b.srcs)))
(.ret (false)))
def zw(a:Flt)(b:Flt)(r0:Bool):=(vE a b).vp vF r0
theorem Tf(a b:Flt)(ok:Tg a b):zw a b (dU a b):=by
 dsimp only[zw,vE,noS,Ax.vp,Ax.vc];simp only[vcU,rfU,List.length_map]
 simp only[dU,fj,lI]
 refine⟨λh=>?_,λh=>?_⟩<;>simp at h<;>simp[h]
def j1(a:Flt)(b:Flt):PC Tryz.prog:=⟨86,[(.a [.k,(.s 1)]),(.a [.k,(.s 1)])],[.agg [.int a.mode,.sl 1 (a.srcs.map AV.int) false],.agg [.int b.mode,.sl 1 (b.srcs.map AV.int) false]],vF (dU a b),ao.of_ok λok=>aj (sh:=.k) (enc:=vF) (a:=(vE a b).an) (Tf a b ok) (by kernel_rfl) (AV.pureB_ok rfl),ai (by kernel_rfl)⟩
theorem jd{l:List Int}:kT l↔∀j x y,l[j]?=some x→l[j+1]?=some y→x<y:=by
 unfold kT
 constructor
 ·intro h j x y hx hy
  have:=h j (by have:=ay hy;omega)
  rwa [gj hx,gj hy]at this
 ·intro h i hi
  have e1:=List.getElem?_eq_getElem (show i<l.length by omega)
  have e2:=List.getElem?_eq_getElem (show i+1<l.length by omega)
  rw[gj e1,gj e2]
  exact h i _ _ e1 e2
def FVal(f:Flt):Int:=aF f.mode f.srcs
abbrev PVal:=FVal
def OF(f:Flt):=okL [.agg [.int f.mode,.sl 1 (f.srcs.map AV.int) false]]
def Te(f:Flt)(t0:Unit):NF:=⟨[(1,.k,.ref 0 0)],[.box (.agg [.int f.mode,.sl 1 (f.srcs.map AV.int) false])]⟩
def Td(f:Flt)(t1:Int):NF:=⟨[(1,.k,.ref 0 0),(15,.k,.sl 1 (f.srcs.map AV.int) false),(16,.k,.int ((f.srcs.map AV.int).length:Int)),(17,.k,.int t1)],[.box (.agg [.int f.mode,.sl 1 (f.srcs.map AV.int) false])]⟩
def Tc(f:Flt)(t2:Int):NF:=⟨[(1,.k,.ref 0 0),(5,.k,.int t2)],[.box (.agg [.int f.mode,.sl 1 (f.srcs.map AV.int) false])]⟩
@[reducible] def OE:Nat→Type
 | 0=>Unit
 | 1=>Int
 | 2=>Int
 | _=>Unit
def Do(r:Int):AV:=.int r
def Dn(f:Flt)(I1:Unit→Int→Prop)(m1:Unit→Int→Nat)(I2:Unit→Int→Int→Prop)(m2:Unit→Int→Int→Nat):Ax Tryz.prog OE (Int):=
 (.pass (.join 0 (Te f) (λ(t0:Unit)=>(bif (f.mode != 1)then(bif (f.mode != 2)then false else true)else true)=true) (λb0=>(.br 96 (f.mode != 1) (.br 160 (f.mode != 2) (.ret (1))
(.bk 0 b0 ((()):Unit) [0]))
(.bk 0 b0 ((()):Unit) [0]))) λ(t0:Unit) =>
(.loop 1 (Td f) (I1 t0) (m1 t0) ((0):Int) [0] λ(t1:Int) b1 =>
(.br 17 (decide (t1<((f.srcs.map AV.int).length:Int))) (.el 17 AV.int f.srcs (λR=>Rf (f.srcs.map AV.int) (ck (decide (0≤t1)) (ck (decide (t1<(f.srcs.length:Int)))
(∀x1,f.srcs[t1.toNat]?=some x1 →
(R x1))))) λx1 =>
(.br 113 (decide (x1<1)) (.ret (2))
(.br 161 (decide (99<x1)) (.ret (2))
(.bk 1 b1 ((W (t1+1)):Int) [0]))))
(.loop 2 (Tc f) (I2 t0 t1) (m2 t0 t1) ((1):Int) [0] λ(t2:Int) b2 =>
(.br 81 (decide (t2<((f.srcs.map AV.int).length:Int))) (.el 145 AV.int f.srcs (λR=>Rf (f.srcs.map AV.int) (ck (decide (0≤(W (t2-1)))) (ck (decide ((W (t2-1))<(f.srcs.length:Int)))
(∀x2,f.srcs[(W (t2-1)).toNat]?=some x2 →
(R x2))))) λx2 =>
(.el 225 AV.int f.srcs (λR=>Rf (f.srcs.map AV.int) (ck (decide (0≤t2)) (ck (decide (t2<(f.srcs.length:Int)))
(∀x3,f.srcs[t2.toNat]?=some x3 →
(R x3))))) λx3 =>
(.br 273 (decide (x3≤x2)) (.ret (25))
(.bk 2 b2 ((W (t2+1)):Int) [0]))))
(.ret (0))))))))
def Gu(f:Flt)(I1:Unit→Int→Prop)(m1:Unit→Int→Nat)(I2:Unit→Int→Int→Prop)(m2:Unit→Int→Int→Nat)(r0:Int):=(Dn f I1 m1 I2 m2).vp Do r0
theorem X3(f:Flt)(ok:OF f):∃I1 m1 I2 m2,Gu f I1 m1 I2 m2 (aF f.mode f.srcs):=by
 simp only[OF,okU,Blk.ok,aK,List.length_map]at ok
 refine⟨λ_ t=>∃k:Nat,t=k∧k≤f.srcs.length∧∀s∈f.srcs.take k,1≤s∧s≤99,λ_ t=>f.srcs.length-t.toNat,
  λ_ t1 t=>lq f.srcs∧∃k:Nat,t=k∧1≤k∧k≤f.srcs.length+1∧∀j x y,j+1<k→f.srcs[j]?=some x→f.srcs[j+1]?=some y→x<y,λ_ _ t=>f.srcs.length+1-t.toNat,?_⟩
 dsimp only[Gu,Dn,OE,Ax.vp,Ax.vc];simp only[vcU,rfU,List.length_map]
 have hmode:((bif f.mode != 1 then bif f.mode != 2 then false else true else true)=true)↔(f.mode=1∨f.mode=2):=by
  by_cases h1:f.mode=1<;>by_cases h2:f.mode=2<;>simp[h1,h2]
 simp only[hmode]
 refine⟨⟨λh1=>⟨λh2=>?_,λh2=>?_⟩,λh1=>?_⟩,?_⟩
 ·rw[aF,if_pos];simp at h1 h2;omega
 ·simp at h2;omega
 ·simp at h1;omega
 intro t0 hm
 refine⟨⟨0,rfl,by omega,by simp⟩,?_⟩
 rintro _ ⟨k,rfl,hk,h⟩
 simp only[Int.toNat_natCast]
 refine⟨λh1=>⟨by omega,by omega,λy hy=>⟨λe=>?_,λe=>⟨λe2=>?_,λe2=>?_⟩⟩⟩,λh1=>?_⟩
 ·rw[aF,if_neg (not_not_intro hm),if_pos λhr=>by have:=hr y (aB hy);omega]
 ·rw[aF,if_neg (not_not_intro hm),if_pos λhr=>by have:=hr y (aB hy);omega]
 ·rw[av (n:=f.srcs.length) (by omega) (by omega)]
  refine⟨⟨k+1,rfl,by omega,?_⟩,by omega⟩
  rw[ax hy]
  intro s hs
  rcases List.mem_append.mp hs with hs|hs
  ·exact h s hs
  ·rw[List.mem_singleton]at hs;subst hs;omega
 rw[List.take_of_length_le (by omega)]at h
 have hr:lq f.srcs:=h
 refine⟨⟨hr,1,rfl,by omega,by omega,λj x y hj=>by omega⟩,?_⟩
 rintro _ ⟨-,k,rfl,hk1,hk,h⟩
 refine⟨λh1=>?_,λh1=>?_⟩
 ·rw[dw (by omega) hk1]
  simp only[Int.toNat_natCast]
  refine⟨by omega,by omega,λx hx=>⟨by omega,by omega,λy hy=>⟨λe=>?_,λe=>?_⟩⟩⟩
  ·rw[aF,if_neg (not_not_intro hm),if_neg (not_not_intro hr),if_pos]
   intro ha
   have:=jd.mp ha (k-1) x y hx (by rw[show k-1+1=k by omega];exact hy)
   omega
  ·rw[av (n:=f.srcs.length) (by omega) (by omega)]
   refine⟨⟨hr,k+1,rfl,by omega,by omega,λj x' y' hj hx' hy'=>?_⟩,by omega⟩
   by_cases e':j+1=k
   ·subst e'
    rw[show j+1-1=j by omega,hx']at hx;cases hx
    rw[hy']at hy;cases hy;omega
   ·exact h j x' y' (by omega) hx' hy'
 ·rw[aF,if_neg (not_not_intro hm),if_neg (not_not_intro hr),if_neg (not_not_intro (jd.mpr λj x y hx hy=>h j x y (by have:=ay hy;omega) hx hy))]
def jY(f:Flt):PC Tryz.prog:=⟨85,[(.a [.k,(.s 1)])],[.agg [.int f.mode,.sl 1 (f.srcs.map AV.int) false]],Do (FVal f),ao.of_ok λok=>(X3 f ok).elim λI1 h=>h.elim λm1 h=>h.elim λI2 h=>h.elim λm2 h=>aj (sh:=.k) (enc:=Do) (a:=(Dn f I1 m1 I2 m2).an) h (by kernel_rfl) (AV.pureB_ok rfl),ai (by kernel_rfl)⟩
def O2(f:Flt):=okL [.agg [.int f.mode,.sl 1 (f.srcs.map AV.int) false]]
def Ta(f:Flt)(t0:Unit):NF:=⟨[(1,.k,.ref 0 0)],[.box (.agg [.int f.mode,.sl 1 (f.srcs.map AV.int) false])]⟩
def SZ(f:Flt)(t1:Int):NF:=⟨[(1,.k,.ref 0 0),(15,.k,.sl 1 (f.srcs.map AV.int) false),(16,.k,.int ((f.srcs.map AV.int).length:Int)),(17,.k,.int t1)],[.box (.agg [.int f.mode,.sl 1 (f.srcs.map AV.int) false])]⟩
def SY(f:Flt)(t2:Int):NF:=⟨[(1,.k,.ref 0 0),(5,.k,.int t2)],[.box (.agg [.int f.mode,.sl 1 (f.srcs.map AV.int) false])]⟩
@[reducible] def O1:Nat→Type
 | 0=>Unit
 | 1=>Int
 | 2=>Int
 | _=>Unit
def Dm(r:Int):AV:=.int r
def Dk(f:Flt)(I1:Unit→Int→Prop)(m1:Unit→Int→Nat)(I2:Unit→Int→Int→Prop)(m2:Unit→Int→Int→Nat):Ax Tryz.prog O1 (Int):=
 (.pass (.join 0 (Ta f) (λ(t0:Unit)=>(bif (f.mode != 1)then(bif (f.mode != 2)then false else true)else true)=true) (λb0=>(.br 96 (f.mode != 1) (.br 160 (f.mode != 2) (.ret (1))
(.bk 0 b0 ((()):Unit) [0]))
(.bk 0 b0 ((()):Unit) [0]))) λ(t0:Unit) =>
(.loop 1 (SZ f) (I1 t0) (m1 t0) ((0):Int) [0] λ(t1:Int) b1 =>
(.br 17 (decide (t1<((f.srcs.map AV.int).length:Int))) (.el 17 AV.int f.srcs (λR=>Rf (f.srcs.map AV.int) (ck (decide (0≤t1)) (ck (decide (t1<(f.srcs.length:Int)))
(∀x1,f.srcs[t1.toNat]?=some x1 →
(R x1))))) λx1 =>
(.br 113 (decide (x1<1)) (.ret (2))
(.br 161 (decide (99<x1)) (.ret (2))
(.bk 1 b1 ((W (t1+1)):Int) [0]))))
(.loop 2 (SY f) (I2 t0 t1) (m2 t0 t1) ((1):Int) [0] λ(t2:Int) b2 =>
(.br 81 (decide (t2<((f.srcs.map AV.int).length:Int))) (.el 145 AV.int f.srcs (λR=>Rf (f.srcs.map AV.int) (ck (decide (0≤(W (t2-1)))) (ck (decide ((W (t2-1))<(f.srcs.length:Int)))
(∀x2,f.srcs[(W (t2-1)).toNat]?=some x2 →
(R x2))))) λx2 =>
(.el 225 AV.int f.srcs (λR=>Rf (f.srcs.map AV.int) (ck (decide (0≤t2)) (ck (decide (t2<(f.srcs.length:Int)))
(∀x3,f.srcs[t2.toNat]?=some x3 →
(R x3))))) λx3 =>
(.br 273 (decide (x3≤x2)) (.ret (25))
(.bk 2 b2 ((W (t2+1)):Int) [0]))))
(.ret (0))))))))
def Gq(f:Flt)(I1:Unit→Int→Prop)(m1:Unit→Int→Nat)(I2:Unit→Int→Int→Prop)(m2:Unit→Int→Int→Nat)(r0:Int):=(Dk f I1 m1 I2 m2).vp Dm r0
theorem Xy(f:Flt)(ok:O2 f):∃I1 m1 I2 m2,Gq f I1 m1 I2 m2 (aF f.mode f.srcs):=by
 simp only[O2,okU,Blk.ok,aK,List.length_map]at ok
 refine⟨λ_ t=>∃k:Nat,t=k∧k≤f.srcs.length∧∀s∈f.srcs.take k,1≤s∧s≤99,λ_ t=>f.srcs.length-t.toNat,
  λ_ t1 t=>lq f.srcs∧∃k:Nat,t=k∧1≤k∧k≤f.srcs.length+1∧∀j x y,j+1<k→f.srcs[j]?=some x→f.srcs[j+1]?=some y→x<y,λ_ _ t=>f.srcs.length+1-t.toNat,?_⟩
 dsimp only[Gq,Dk,O1,Ax.vp,Ax.vc];simp only[vcU,rfU,List.length_map]
 have hmode:((bif f.mode != 1 then bif f.mode != 2 then false else true else true)=true)↔(f.mode=1∨f.mode=2):=by
  by_cases h1:f.mode=1<;>by_cases h2:f.mode=2<;>simp[h1,h2]
 simp only[hmode]
 refine⟨⟨λh1=>⟨λh2=>?_,λh2=>?_⟩,λh1=>?_⟩,?_⟩
 ·rw[aF,if_pos];simp at h1 h2;omega
 ·simp at h2;omega
 ·simp at h1;omega
 intro t0 hm
 refine⟨⟨0,rfl,by omega,by simp⟩,?_⟩
 rintro _ ⟨k,rfl,hk,h⟩
 simp only[Int.toNat_natCast]
 refine⟨λh1=>⟨by omega,by omega,λy hy=>⟨λe=>?_,λe=>⟨λe2=>?_,λe2=>?_⟩⟩⟩,λh1=>?_⟩
 ·rw[aF,if_neg (not_not_intro hm),if_pos λhr=>by have:=hr y (aB hy);omega]
 ·rw[aF,if_neg (not_not_intro hm),if_pos λhr=>by have:=hr y (aB hy);omega]
 ·rw[av (n:=f.srcs.length) (by omega) (by omega)]
  refine⟨⟨k+1,rfl,by omega,?_⟩,by omega⟩
  rw[ax hy]
  intro s hs
  rcases List.mem_append.mp hs with hs|hs
  ·exact h s hs
  ·rw[List.mem_singleton]at hs;subst hs;omega
 rw[List.take_of_length_le (by omega)]at h
 have hr:lq f.srcs:=h
 refine⟨⟨hr,1,rfl,by omega,by omega,λj x y hj=>by omega⟩,?_⟩
 rintro _ ⟨-,k,rfl,hk1,hk,h⟩
 refine⟨λh1=>?_,λh1=>?_⟩
 ·rw[dw (by omega) hk1]
  simp only[Int.toNat_natCast]
  refine⟨by omega,by omega,λx hx=>⟨by omega,by omega,λy hy=>⟨λe=>?_,λe=>?_⟩⟩⟩
  ·rw[aF,if_neg (not_not_intro hm),if_neg (not_not_intro hr),if_pos]
   intro ha
   have:=jd.mp ha (k-1) x y hx (by rw[show k-1+1=k by omega];exact hy)
   omega
  ·rw[av (n:=f.srcs.length) (by omega) (by omega)]
   refine⟨⟨hr,k+1,rfl,by omega,by omega,λj x' y' hj hx' hy'=>?_⟩,by omega⟩
   by_cases e':j+1=k
   ·subst e'
    rw[show j+1-1=j by omega,hx']at hx;cases hx
    rw[hy']at hy;cases hy;omega
   ·exact h j x' y' (by omega) hx' hy'
 ·rw[aF,if_neg (not_not_intro hm),if_neg (not_not_intro hr),if_neg (not_not_intro (jd.mpr λj x y hx hy=>h j x y (by have:=ay hy;omega) hx hy))]
def vC(f:Flt):PC Tryz.prog:=⟨141,[(.a [.k,(.s 1)])],[.agg [.int f.mode,.sl 1 (f.srcs.map AV.int) false]],Dm (PVal f),ao.of_ok λok=>(Xy f ok).elim λI1 h=>h.elim λm1 h=>h.elim λI2 h=>h.elim λm2 h=>aj (sh:=.k) (enc:=Dm) (a:=(Dk f I1 m1 I2 m2).an) h (by kernel_rfl) (AV.pureB_ok rfl),ai (by kernel_rfl)⟩
def dC{α:Type}(es:List α)(i:Nat)(x:α):List α:=es.take i++[x]++es.drop i
theorem gG{l:List Int}(h:l≠[])(r:Int):au l r∈l:=by
 have hl:0<l.length:=List.length_pos_iff.mpr h
 have:=bg (x:=r) (show 1≤(l.length:Int) by omega)
 have hi:(Mod r l.length).toNat<l.length:=by omega
 rw[au,iV hi]
 exact List.getElem_mem hi
theorem iG{L:List Int}{p:Nat}{lo hi:Int}(h:-1000000000≤lo∧lo≤hi∧hi≤1000000000):lo≤rng L p lo hi∧rng L p lo hi≤hi:=by
 unfold rng
 have e1:W (hi-lo)=hi-lo:=bB (by omega)
 have e2:W (hi-lo+1)=hi-lo+1:=bB (by omega)
 rw[e1,e2]
 have:=bg (x:=al L p) (show 1≤hi-lo+1 by omega)
 rw[bB (by omega)];omega
def iI(l:List Int)(x:Int):Nat:=l.findIdx (λy=>!decide (y<x))
def put(l:List Int)(x:Int):List Int:=if l[iI l x]?=some x then l else dC l (iI l x) x
theorem Ex{l:List Int}{x y:Int}:y∈put l x→y∈l∨y=x:=by
 unfold put
 split
 ·exact .inl
 ·unfold dC
  intro h
  rcases List.mem_append.mp h with h|h
  ·rcases List.mem_append.mp h with h|h
   ·exact .inl (List.mem_of_mem_take h)
   ·exact .inr (by simpa using h)
  ·exact .inl (List.mem_of_mem_drop h)
theorem fG(l:List Int)(x:Int):(put l x).length≤l.length+1:=by
 unfold put
 split
 ·omega
 ·unfold dC;simp;omega
theorem CS{l:List Int}:kT l↔l.Pairwise (·<·):=by
 rw[List.pairwise_iff_getElem]
 constructor
 ·intro h
  have key:∀i d,(hi:i+d+1<l.length)→l.getD i 0<l.getD (i+d+1) 0:=by
   intro i d
   induction d with
   | zero=>intro hi;exact h i (by omega)
   | succ d ih=>intro hi;exact Int.lt_trans (ih (by omega)) (h (i+d+1) (by omega))
  intro i j hi hj hij
  have:=key i (j-i-1) (by omega)
  rw[show i+(j-i-1)+1=j by omega,iV hi,iV hj]at this
  exact this
 ·intro h i hi
  have h1:i<l.length:=by omega
  have h2:i+1<l.length:=by omega
  rw[iV h1,iV h2]
  exact h i (i+1) h1 h2 (by omega)
theorem Ey{l:List Int}{x:Int}(h:kT l):kT (put l x):=by
 unfold put
 split
 ·exact h
 rename_i hx
 rw[CS]at *
 have hlo:∀a∈l.take (iI l x),a<x:=λa ha=>by
  obtain⟨i,hi,rfl⟩:=List.getElem_of_mem ha
  rw[List.getElem_take]
  have h1:i<iI l x:=by simp at hi;omega
  have:=List.not_of_lt_findIdx h1
  simpa using this
 have hhi:∀a∈l.drop (iI l x),x<a:=λa ha=>by
  have hne:l.drop (iI l x)≠[]:=λe=>by rw[e]at ha;simp at ha
  have hlt:iI l x<l.length:=by
   refine Classical.byContradiction λe=>hne (List.drop_of_length_le (by omega))
  have h1:¬l[iI l x]<x:=by
   have:=List.findIdx_getElem (p:=λy=>!decide (y<x)) (xs:=l) (w:=hlt)
   rw[Bool.not_eq_true']at this
   exact of_decide_eq_false this
  have h2:l[iI l x]≠x:=λe=>hx (by rw[List.getElem?_eq_getElem hlt,e])
  rw[List.drop_eq_getElem_cons hlt]at ha
  have h3:(l.drop (iI l x)).Pairwise (·<·):=h.sublist (List.drop_sublist _ _)
  rw[List.drop_eq_getElem_cons hlt,List.pairwise_cons]at h3
  rcases List.mem_cons.mp ha with rfl|ha
  ·omega
  ·have:=h3.1 a ha;omega
 unfold dC
 rw[List.pairwise_append,List.pairwise_append]
 refine⟨⟨h.sublist (List.take_sublist _ _),List.pairwise_singleton _ _,λa ha b hb=>?_⟩,h.sublist (List.drop_sublist _ _),λa ha b hb=>?_⟩
 ·rw[List.mem_singleton]at hb;subst hb;exact hlo a ha
 ·rcases List.mem_append.mp ha with ha|ha
  ·exact Int.lt_trans (hlo a ha) (hhi b hb)
  ·rw[List.mem_singleton]at ha;subst ha;exact hhi b hb
theorem Qp{l:List Int}{x:Int}(h:lq l)(hx:1≤x∧x≤99):lq (put l x):=λy hy=>by
 rcases Ex hy with hy|rfl
 ·exact h y hy
 ·exact hx
theorem E0(l:List Int)(x:Int):iI l x≤l.length:=List.findIdx_le_length
theorem Qr{l:List Int}{x y:Int}{j:Nat}(hj:j<iI l x)(hy:l[j]?=some y):y<x:=by
 have:=List.not_of_lt_findIdx hj
 rw[List.getElem?_eq_getElem (ay hy)]at hy
 rw[←Option.some.inj hy]
 simpa using this
theorem Qs{l:List Int}{x y:Int}(hy:l[iI l x]?=some y):¬y<x:=by
 have h:=ay hy
 have:=List.findIdx_getElem (p:=λy=>!decide (y<x)) (xs:=l) (w:=h)
 rw[List.getElem?_eq_getElem h]at hy;cases hy
 rw[Bool.not_eq_true']at this
 exact of_decide_eq_false this
theorem E1{l:List Int}{x:Int}{k:Nat}(h:∀j y,j<k→l[j]?=some y→y<x)(hk:k≤l.length)(h2:k=l.length∨∃y,l[k]?=some y∧¬y<x):iI l x=k:=by
 rcases Nat.lt_trichotomy (iI l x) k with g|g|g
 ·have hl:iI l x<l.length:=by omega
  have e:=List.getElem?_eq_getElem hl
  exact absurd (h _ _ g e) (Qs e)
 ·exact g
 ·rcases h2 with h2|⟨y,hy,hn⟩
  ·have:=E0 l x;omega
  ·exact absurd (Qr g hy) hn
theorem LX{l:List Int}{k:Nat}{x:Int}:((l.take k).drop 0)++([x]++((l.take ((l.length:Int).toNat)).drop k))=dC l k x:=by
 rw[Int.toNat_natCast,List.take_length,List.drop_zero,dC,List.append_assoc]
def put_a(l:List Int)(x:Int):=okL [.sl 1 (l.map AV.int) false,.int x]
abbrev aS(l:List Int):=(l.take ((l.length:Int).toNat))
def UK(l:List Int)(x:Int)(t0:Int):NF:=⟨[(0,.k,.sl 1 (l.map AV.int) false),(1,.k,.int x),(5,.k,.int t0)],[]⟩
@[reducible] def Tj:Nat→Type
 | 0=>Int
 | _=>Unit
def KE(r:List Int):AV:=.sl 1 (r.map AV.int) false
def KB(l:List Int)(x:Int)(I0:Int→Prop)(m0:Int→Nat):Ax Tryz.prog Tj ((List Int)):=
 (.loop 0 (UK l x) I0 m0 ((0):Int) [] λ(t0:Int) b0 =>
(.br 80 (decide (t0<((l.map AV.int).length:Int))) (.el 112 AV.int l (λR=>Rf (l.map AV.int) (ck (decide (0≤t0)) (ck (decide (t0<(l.length:Int)))
(∀x1,l[t0.toNat]?=some x1 →
(R x1))))) λx1 =>
(.br 192 (decide (x1<x)) (.bk 0 b0 ((W (t0+1)):Int) [])
(.br 272 (decide (t0<((l.map AV.int).length:Int))) (.el 304 AV.int l (λR=>Rf (l.map AV.int) (ck (decide (0≤t0)) (ck (decide (t0<(l.length:Int)))
(∀x2,l[t0.toNat]?=some x2 →
(R x2))))) λx2 =>
(.br 384 (x2==x) (.ret (l))
(.own 400 (.say (λR=>Rf (α:=List AV) (l.map AV.int) (ck (c9 l.length t0 (l.length:Int) (l.length:Int))
R)) (.sub 448 AV.int l false
(.say (λR=>Rf (α:=List AV) [.int x] (Rf (α:=List AV) (((aS l).drop t0.toNat).map AV.int)
(ck (decide ([x].length+((aS l).drop t0.toNat).length≤1048576))
R))) (.app 464 AV.int [x] ((aS l).drop t0.toNat)
(.say (λR=>Rf (α:=List AV) (l.map AV.int) (ck (c9 l.length 0 t0 t0)
R)) (.sub 544 AV.int l true
(.say (λR=>ck (decide (t0=t0))
((Rf (α:=List AV) (((l.take t0.toNat).drop 0).map AV.int) (Rf (α:=List AV) (([x]++((aS l).drop t0.toNat)).map AV.int)
(ck (decide (0<([x]++((aS l).drop t0.toNat)).length))
R))))) (.appF 576 AV.int ((l.take t0.toNat).drop 0) ([x]++((aS l).drop t0.toNat))
(.say (λR=>ck (decide (((l.take t0.toNat).drop 0).length+([x]++((aS l).drop t0.toNat)).length≤1048576))
((Rf ((((l.take t0.toNat).drop 0)++([x]++((aS l).drop t0.toNat))).map AV.int) R))) (.cmdL (.frzE 576 ((((l.take t0.toNat).drop 0)++([x]++((aS l).drop t0.toNat))).map AV.int) (ab (λ_=>rfl) (((l.take t0.toNat).drop 0)++([x]++((aS l).drop t0.toNat))))) (.ret (((l.take t0.toNat).drop 0)++([x]++((aS l).drop t0.toNat)))))))))))))))))
(.own 400 (.say (λR=>Rf (α:=List AV) (l.map AV.int) (ck (c9 l.length t0 (l.length:Int) (l.length:Int))
R)) (.sub 448 AV.int l false
(.say (λR=>Rf (α:=List AV) [.int x] (Rf (α:=List AV) (((aS l).drop t0.toNat).map AV.int)
(ck (decide ([x].length+((aS l).drop t0.toNat).length≤1048576))
R))) (.app 464 AV.int [x] ((aS l).drop t0.toNat)
(.say (λR=>Rf (α:=List AV) (l.map AV.int) (ck (c9 l.length 0 t0 t0)
R)) (.sub 544 AV.int l true
(.say (λR=>ck (decide (t0=t0))
((Rf (α:=List AV) (((l.take t0.toNat).drop 0).map AV.int) (Rf (α:=List AV) (([x]++((aS l).drop t0.toNat)).map AV.int)
(ck (decide (0<([x]++((aS l).drop t0.toNat)).length))
R))))) (.appF 576 AV.int ((l.take t0.toNat).drop 0) ([x]++((aS l).drop t0.toNat))
(.say (λR=>ck (decide (((l.take t0.toNat).drop 0).length+([x]++((aS l).drop t0.toNat)).length≤1048576))
((Rf ((((l.take t0.toNat).drop 0)++([x]++((aS l).drop t0.toNat))).map AV.int) R))) (.cmdL (.frzE 576 ((((l.take t0.toNat).drop 0)++([x]++((aS l).drop t0.toNat))).map AV.int) (ab (λ_=>rfl) (((l.take t0.toNat).drop 0)++([x]++((aS l).drop t0.toNat))))) (.ret (((l.take t0.toNat).drop 0)++([x]++((aS l).drop t0.toNat))))))))))))))))))
(.br 272 (decide (t0<((l.map AV.int).length:Int))) (.el 304 AV.int l (λR=>Rf (l.map AV.int) (ck (decide (0≤t0)) (ck (decide (t0<(l.length:Int)))
(∀x3,l[t0.toNat]?=some x3 →
(R x3))))) λx3 =>
(.br 384 (x3==x) (.ret (l))
(.own 400 (.say (λR=>Rf (α:=List AV) (l.map AV.int) (ck (c9 l.length t0 (l.length:Int) (l.length:Int))
R)) (.sub 448 AV.int l false
(.say (λR=>Rf (α:=List AV) [.int x] (Rf (α:=List AV) (((aS l).drop t0.toNat).map AV.int)
(ck (decide ([x].length+((aS l).drop t0.toNat).length≤1048576))
R))) (.app 464 AV.int [x] ((aS l).drop t0.toNat)
(.say (λR=>Rf (α:=List AV) (l.map AV.int) (ck (c9 l.length 0 t0 t0)
R)) (.sub 544 AV.int l true
(.say (λR=>ck (decide (t0=t0))
((Rf (α:=List AV) (((l.take t0.toNat).drop 0).map AV.int) (Rf (α:=List AV) (([x]++((aS l).drop t0.toNat)).map AV.int)
(ck (decide (0<([x]++((aS l).drop t0.toNat)).length))
R))))) (.appF 576 AV.int ((l.take t0.toNat).drop 0) ([x]++((aS l).drop t0.toNat))
(.say (λR=>ck (decide (((l.take t0.toNat).drop 0).length+([x]++((aS l).drop t0.toNat)).length≤1048576))
((Rf ((((l.take t0.toNat).drop 0)++([x]++((aS l).drop t0.toNat))).map AV.int) R))) (.cmdL (.frzE 576 ((((l.take t0.toNat).drop 0)++([x]++((aS l).drop t0.toNat))).map AV.int) (ab (λ_=>rfl) (((l.take t0.toNat).drop 0)++([x]++((aS l).drop t0.toNat))))) (.ret (((l.take t0.toNat).drop 0)++([x]++((aS l).drop t0.toNat)))))))))))))))))
(.own 400 (.say (λR=>Rf (α:=List AV) (l.map AV.int) (ck (c9 l.length t0 (l.length:Int) (l.length:Int))
R)) (.sub 448 AV.int l false
(.say (λR=>Rf (α:=List AV) [.int x] (Rf (α:=List AV) (((aS l).drop t0.toNat).map AV.int)
(ck (decide ([x].length+((aS l).drop t0.toNat).length≤1048576))
R))) (.app 464 AV.int [x] ((aS l).drop t0.toNat)
(.say (λR=>Rf (α:=List AV) (l.map AV.int) (ck (c9 l.length 0 t0 t0)
R)) (.sub 544 AV.int l true
(.say (λR=>ck (decide (t0=t0))
((Rf (α:=List AV) (((l.take t0.toNat).drop 0).map AV.int) (Rf (α:=List AV) (([x]++((aS l).drop t0.toNat)).map AV.int)
(ck (decide (0<([x]++((aS l).drop t0.toNat)).length))
R))))) (.appF 576 AV.int ((l.take t0.toNat).drop 0) ([x]++((aS l).drop t0.toNat))
(.say (λR=>ck (decide (((l.take t0.toNat).drop 0).length+([x]++((aS l).drop t0.toNat)).length≤1048576))
((Rf ((((l.take t0.toNat).drop 0)++([x]++((aS l).drop t0.toNat))).map AV.int) R))) (.cmdL (.frzE 576 ((((l.take t0.toNat).drop 0)++([x]++((aS l).drop t0.toNat))).map AV.int) (ab (λ_=>rfl) (((l.take t0.toNat).drop 0)++([x]++((aS l).drop t0.toNat))))) (.ret (((l.take t0.toNat).drop 0)++([x]++((aS l).drop t0.toNat))))))))))))))))))
def KC(l:List Int)(x:Int)(I0:Int→Prop)(m0:Int→Nat)(r0:List Int):=(KB l x I0 m0).vp KE r0
theorem put_p(l:List Int)(x:Int)(hl:l.length≤900000)(ok:put_a l x):∃I m,KC l x I m (put l x):=by
 refine⟨λt=>∃k:Nat,t=k∧k≤l.length∧∀j y,j<k→l[j]?=some y→y<x,λt=>l.length-t.toNat,?_⟩
 dsimp only[KC,KB,Tj,aS,Ax.vp,Ax.vc];simp only[vcU,rfU,List.length_map]
 have hle:=E0 l x
 have key:∀k:Nat,iI l x=k→l[k]?≠some x→List.drop 0 (List.take k l)++([x]++List.drop k (List.take (l.length:Int).toNat l))=put l x:=λk e hne=>by
  rw[LX,put,e,if_neg hne]
 refine⟨⟨0,rfl,by omega,λj y h=>by omega⟩,?_⟩
 rintro _ ⟨k,rfl,hk,h⟩
 simp only[Int.toNat_natCast]
 have hb1:c9 l.length k l.length l.length=true:=by simp[c9];omega
 have hb2:c9 l.length 0 k k=true:=by simp[c9];omega
 have e1:(List.take l.length l)=l:=List.take_length
 refine⟨λh1=>⟨by omega,by omega,λy hy=>⟨λe=>?_,λe=>⟨λh2=>⟨by omega,by omega,λz hz=>?_⟩,λh2=>by omega⟩⟩⟩,λh1=>⟨λh2=>by omega,λ_=>?_⟩⟩
 ·rw[av (n:=l.length) (by omega) (by omega)]
  refine⟨⟨k+1,rfl,by omega,λj z hj hz=>?_⟩,by omega⟩
  by_cases e':j=k
  ·subst e';rw[hz]at hy;cases hy;exact e
  ·exact h j z (by omega) hz
 ·have hq:=E1 h hk (.inr ⟨y,hy,e⟩)
  rw[hy]at hz;cases hz
  refine⟨λe'=>?_,λe'=>?_⟩
  ·rw[put,hq,if_pos (by rw[hy];simpa using e')]
  ·have hne:l[k]?≠some x:=by rw[hy];simpa using e'
   refine⟨hb1,?_,hb2,trivial,?_,?_,?_⟩
   ·simp;omega
   ·simp
   ·simp;omega
   ·have:=key k hq hne;simpa using this
 ·have hq:=E1 h hk (.inl (by omega))
  refine⟨hb1,?_,hb2,trivial,?_,?_,?_⟩
  ·simp;omega
  ·simp
  ·simp;omega
  ·have:=key k hq (by rw[List.getElem?_eq_none (by omega)];simp);simpa using this
def KF(l:List Int)(x:Int)(hl:l.length≤900000):PC Tryz.prog:=⟨19,[(.s 1),.k],[.sl 1 (l.map AV.int) false,.int x],KE (put l x),ao.of_ok λok=>(put_p l x hl ok).elim λI0 h=>h.elim λm0 h=>aj (sh:=(.s 1)) (enc:=KE) (a:=(KB l x I0 m0).an) h (by kernel_rfl) (AV.pureB_ok rfl),ai (by kernel_rfl)⟩
def GK(L:List Int)(p:Nat):Int:=au [rng L p 1 6,rng L (ag L p) 1 20,rng L (ag L (ag L p)) 1 99] (al L (ag L (ag L (ag L p))))
def src1P(L:List Int)(p:Nat):Nat:=ag L (ag L (ag L (ag L p)))
def jm(L:List Int):Nat→List Int→Nat→List Int×Nat
 | 0,out,p=>(out,p)
 | i+1,out,p=>jm L i (put out (GK L p)) (src1P L p)
def cL(L:List Int)(p:Nat)(n:Int):List Int×Nat:=jm L (Mod (al L p) (n+1)).toNat [] (ag L p)
theorem Py(L:List Int)(p:Nat):1≤GK L p∧GK L p≤99:=by
 have h1:=iG (L:=L) (p:=p) (lo:=1) (hi:=6) (by omega)
 have h2:=iG (L:=L) (p:=ag L p) (lo:=1) (hi:=20) (by omega)
 have h3:=iG (L:=L) (p:=ag L (ag L p)) (lo:=1) (hi:=99) (by omega)
 have:=gG (l:=[rng L p 1 6,rng L (ag L p) 1 20,rng L (ag L (ag L p)) 1 99]) (by simp) (al L (ag L (ag L (ag L p))))
 unfold GK
 generalize au _ _=v at this
 simp only[List.mem_cons,List.not_mem_nil,or_false]at this
 omega
theorem nJ{L:List Int}:∀{i:Nat} {out:List Int} {p:Nat},lq out→kT out→lq (jm L i out p).1∧kT (jm L i out p).1
 | 0,_,_,h,h2=>⟨h,h2⟩
 | i+1,out,p,h,h2=>by
  rw[jm]
  exact nJ (Qp h (Py L p)) (Ey h2)
theorem Ao(L:List Int)(p:Nat)(n:Int):lq (cL L p n).1∧kT (cL L p n).1:=nJ (λ_ h=>by simp at h) (λi h=>by simp at h)
def qE(L:List Int)(p:Nat)(n:Int):=okL [.ref 0 0,.int n]∧(.box (.agg [.sl 1 (L.map AV.int) false,.int p]):Blk).ok
def Al(L:List Int)(t0:List Int×Int×Nat):NF:=⟨[(0,.k,.ref 0 0),(5,(.s 1),.sl 1 (t0.1.map AV.int) false),(6,.k,.int t0.2.1)],[.box (.agg [.sl 1 (L.map AV.int) false,.int t0.2.2])]⟩
@[reducible] def qD:Nat→Type
 | 0=>(List Int)×Int×Nat
 | _=>Unit
def jn(r:Tap×List Int):AV:=.sl 1 (r.2.map AV.int) false
def jo(r:Tap×List Int):List (Option Blk):=[some (.box (.agg [.sl 1 (r.1.L.map AV.int) false,.int r.1.p]))]
def li(L:List Int)(p:Nat)(n:Int)(I0:(List Int×Int×Nat)→Prop)(m0:(List Int×Int×Nat)→Nat):Ax Tryz.prog qD (Tap×List Int):=
 (.callH [0] (N_h L p (W (n+1))) 81
(.loop 0 (Al L) I0 m0 ([],Mod (al L p) (W (n+1)),ag L p) [0] λ(t0:List Int×Int×Nat) b0 =>
(.br 33 (decide (0<t0.2.1)) (.callH [0] (da L t0.2.2 1 6) 81
(.callH [0] (da L (ag L t0.2.2) 1 20) 113
(.callH [0] (da L (ag L (ag L t0.2.2)) 1 99) 145
(.req 177 ([rng L t0.2.2 1 6,rng L (ag L t0.2.2) 1 20,rng L (ag L (ag L t0.2.2)) 1 99]≠[]) λh1 =>
(.callH [0] (dH L (ag L (ag L (ag L t0.2.2))) [rng L t0.2.2 1 6,rng L (ag L t0.2.2) 1 20,rng L (ag L (ag L t0.2.2)) 1 99] h1) 177
(.req 193 (t0.1.length≤900000) λh2 =>
(.callP (KF t0.1 (au [rng L t0.2.2 1 6,rng L (ag L t0.2.2) 1 20,rng L (ag L (ag L t0.2.2)) 1 99] (al L (ag L (ag L (ag L t0.2.2))))) h2)
(.bk 0 b0 (put t0.1 (au [rng L t0.2.2 1 6,rng L (ag L t0.2.2) 1 20,rng L (ag L (ag L t0.2.2)) 1 99] (al L (ag L (ag L (ag L t0.2.2))))),W (t0.2.1-1),ag L (ag L (ag L (ag L t0.2.2)))) [0]))))))))
(.retH ((⟨L,t0.2.2⟩:Tap),t0.1) ⟨[(4,.k,.sl 1 (t0.1.map AV.int) false)],[.box (.agg [.sl 1 (L.map AV.int) false,.int t0.2.2])]⟩ [0]))))
def nL(L:List Int)(p:Nat)(n:Int)(I0:(List Int×Int×Nat)→Prop)(m0:(List Int×Int×Nat)→Nat)(r0:Tap×List Int):=(li L p n I0 m0).vc jn jo r0
theorem GN(L:List Int)(p:Nat)(n:Int)(hn:0≤n∧n≤1000)(ok:qE L p n):∃I m,nL L p n I m ((⟨L,(cL L p n).2⟩:Tap),(cL L p n).1):=by
 have hm:=bg (x:=al L p) (show 1≤n+1 by omega)
 refine⟨λt=>∃i:Nat,t.2.1=i∧jm L i t.1 t.2.2=cL L p n∧i+t.1.length≤2000,λt=>t.2.1.toNat,?_⟩
 dsimp only[nL,li,qD,Ax.vp,Ax.vc];simp only[vcU,rfU,List.length_map]
 rw[bB (by omega)]
 refine⟨⟨(Mod (al L p) (n+1)).toNat,by omega,rfl,by simp;omega⟩,?_⟩
 rintro⟨out,_,q⟩ ⟨i,rfl,h,hl⟩
 simp only at h hl ⊢
 refine⟨λh1=>?_,λh1=>?_⟩
 ·obtain⟨i,rfl⟩:∃k,i=k+1:=⟨i-1,by omega⟩
  refine⟨by simp,by omega,⟨i,?_,h,?_⟩,?_⟩
  ·rw[bB (by omega)];omega
  ·have:=fG out (GK L q);show i+(put out (GK L q)).length≤2000;omega
  ·rw[bB (by omega)];omega
 ·obtain rfl:i=0:=by omega
  rw[←h];rfl
def GO(L:List Int)(p:Nat)(n:Int)(hn:0≤n∧n≤1000):HC Tryz.prog:=⟨118,[.k,.k],[.ref 0 0,.int n],[.box (.agg [.sl 1 (L.map AV.int) false,.int p])],jn (((⟨L,(cL L p n).2⟩:Tap),(cL L p n).1):Tap×List Int),jo (((⟨L,(cL L p n).2⟩:Tap),(cL L p n).1):Tap×List Int),bl.of_okh λok ok2=>have ok:qE L p n:=⟨ok,ok2 _ (by simp)⟩;(GN L p n hn ok).elim λI0 h=>h.elim λm0 h=>cC (sh:=(.s 1)) (enc:=jn) (hB:=jo) (a:=(li L p n I0 m0).an) h (by kernel_rfl),ai (by kernel_rfl),fk.of (by simp[hcB,cJ,AV.belB,allB,eI,dQ,jn,jo,ab (v:=AV.int) (λ_=>rfl)])⟩
def MP(L:List Int)(p:Nat):Int:=au [0,2,4,4,16,99] (al L p)
def aw(L:List Int)(p:Nat):Flt×Nat:=(⟨rng L (ag L p) 1 2,(cL L (ag L (ag L p)) (MP L p)).1⟩,(cL L (ag L (ag L p)) (MP L p)).2)
theorem RB(L:List Int)(p:Nat):0≤MP L p∧MP L p≤1000:=by
 have:=gG (l:=[0,2,4,4,16,99]) (by simp) (al L p)
 unfold MP
 generalize au _ _=v at this
 simp only[List.mem_cons,List.not_mem_nil,or_false]at this
 omega
theorem Cg(L:List Int)(p:Nat):aF (aw L p).1.mode (aw L p).1.srcs=0:=by
 have h1:=iG (L:=L) (p:=ag L p) (lo:=1) (hi:=2) (by omega)
 have h2:lq (aw L p).1.srcs∧kT (aw L p).1.srcs:=Ao L _ _
 unfold aF
 rw[if_neg,if_neg (not_not_intro h2.1),if_neg (not_not_intro h2.2)]
 refine not_not_intro ?_
 show rng L (ag L p) 1 2=1∨rng L (ag L p) 1 2=2
 omega
def rJ(L:List Int)(p:Nat):=okL [.ref 0 0]∧(.box (.agg [.sl 1 (L.map AV.int) false,.int p]):Blk).ok
def ju(r:Tap×Flt):AV:=.agg [.int r.2.mode,.sl 1 (r.2.srcs.map AV.int) false]
def jv(r:Tap×Flt):List (Option Blk):=[some (.box (.agg [.sl 1 (r.1.L.map AV.int) false,.int r.1.p]))]
def lL(L:List Int)(p:Nat):Ax Tryz.prog noS (Tap×Flt):=
 (.req 49 ([0,2,4,4,16,99]≠[]) λh1 =>
(.callH [0] (dH L p [0,2,4,4,16,99] h1) 49
(.callH [0] (da L (ag L p) 1 2) 97
(.req 145 (0≤(au [0,2,4,4,16,99] (al L p))∧(au [0,2,4,4,16,99] (al L p))≤1000) λh2 =>
(.callH [0] (GO L (ag L (ag L p)) (au [0,2,4,4,16,99] (al L p)) h2) 145
(.retH ((⟨L,(cL L (ag L (ag L p)) (au [0,2,4,4,16,99] (al L p))).2⟩:Tap),(⟨rng L (ag L p) 1 2,(cL L (ag L (ag L p)) (au [0,2,4,4,16,99] (al L p))).1⟩:Flt)) ⟨[(2,.k,.ref 1 0)],[.box (.agg [.sl 1 (L.map AV.int) false,.int ((((cL L (ag L (ag L p)) (au [0,2,4,4,16,99] (al L p))).2):Nat):Int)]),.box (.agg [.int (rng L (ag L p) 1 2),.sl 1 (((cL L (ag L (ag L p)) (au [0,2,4,4,16,99] (al L p))).1).map AV.int) false])]⟩ [0,1]))))))
def px(L:List Int)(p:Nat)(r0:Tap×Flt):=(lL L p).vc ju jv r0
theorem HP(L:List Int)(p:Nat)(ok:rJ L p):px L p ((⟨L,(aw L p).2⟩:Tap),(aw L p).1):=by
 dsimp only[px,lL,noS,Ax.vp,Ax.vc];simp only[vcU,rfU,List.length_map]
 exact⟨by simp,RB L p,rfl⟩
def rI(L:List Int)(p:Nat):HC Tryz.prog:=⟨80,[.k],[.ref 0 0],[.box (.agg [.sl 1 (L.map AV.int) false,.int p])],ju (((⟨L,(aw L p).2⟩:Tap),(aw L p).1):Tap×Flt),jv (((⟨L,(aw L p).2⟩:Tap),(aw L p).1):Tap×Flt),bl.of_okh λok ok2=>have ok:rJ L p:=⟨ok,ok2 _ (by simp)⟩;cC (sh:=(.a [.k,(.s 1)])) (enc:=ju) (hB:=jv) (a:=(lL L p).an) (HP L p ok) (by kernel_rfl),ai (by kernel_rfl),fk.of (by simp[hcB,cJ,AV.belB,allB,eI,dQ,ju,jv,ab (v:=AV.int) (λ_=>rfl)])⟩
structure Itm where
  ver:Int
  grp:Int
  mode:Int
  srcs:List Int
  deriving DecidableEq
structure Wnt where
  grp:Int
  mode:Int
  srcs:List Int
  deriving DecidableEq
structure Per where
  router:Int
  epoch:Int
  acked:Int
  deriving DecidableEq
structure Spk where
  router:Int
  epoch:Int
  last:Int
  items:List Itm
  peers:List Per
  deriving DecidableEq
structure Hrd where
  router:Int
  epoch:Int
  ver:Int
  items:List Itm
  deriving DecidableEq
structure Lsn where
  router:Int
  epoch:Int
  heard:List Hrd
  deriving DecidableEq
structure Sig where
  kind:Int
  src:Int
  dst:Int
  epoch:Int
  ver:Int
  prev:Int
  pep:Int
  grp:Int
  mode:Int
  srcs:List Int
  deriving DecidableEq
def Itm.v(x:Itm):AV:=.agg [.int x.ver,.int x.grp,.int x.mode,Rb x.srcs]
def itms(l:List Itm):AV:=.sl 4 (l.map Itm.v) false
def Wnt.v(x:Wnt):AV:=.agg [.int x.grp,.int x.mode,Rb x.srcs]
def Per.v(x:Per):AV:=.agg [.int x.router,.int x.epoch,.int x.acked]
def Ve(l:List Per):AV:=.sl 3 (l.map Per.v) false
def Spk.v(x:Spk):AV:=.agg [.int x.router,.int x.epoch,.int x.last,itms x.items,Ve x.peers]
def Hrd.v(x:Hrd):AV:=.agg [.int x.router,.int x.epoch,.int x.ver,itms x.items]
def hrds(l:List Hrd):AV:=.sl 4 (l.map Hrd.v) false
def Lsn.v(x:Lsn):AV:=.agg [.int x.router,.int x.epoch,hrds x.heard]
def Sig.v(x:Sig):AV:=.agg [.int x.kind,.int x.src,.int x.dst,.int x.epoch,.int x.ver,.int x.prev,.int x.pep,.int x.grp,.int x.mode,Rb x.srcs]
def sigs(l:List Sig):AV:=.sl 10 (l.map Sig.v) false
def kB(last:Int)(x:Itm):Prop:=(1≤x.ver∧x.ver≤last)∧(1≤x.grp∧x.grp≤99)∧aF x.mode x.srcs=0
instance (last:Int) (x:Itm):Decidable (kB last x):=by unfold kB;infer_instance
def aT(last:Int)(l:List Itm):Prop:=(∀x∈l,kB last x)∧(l.map Itm.grp).Nodup∧l.Pairwise λx y=>x.ver<y.ver
instance (last:Int) (l:List Itm):Decidable (aT last l):=by unfold aT;infer_instance
def kw(r last:Int)(p:Per):Prop:=(1≤p.router∧p.router≤99)∧p.router≠r∧(0≤p.epoch∧p.epoch≤1000000)∧(0≤p.acked∧p.acked≤last)
instance (r last:Int) (p:Per):Decidable (kw r last p):=by unfold kw;infer_instance
def bc(s:Spk):Prop:=(1≤s.router∧s.router≤99)∧(1≤s.epoch∧s.epoch≤1000000)∧(0≤s.last∧s.last≤1000000)∧aT s.last s.items∧s.peers.length≤12 ∧
 (∀p∈s.peers,kw s.router s.last p)∧s.peers.Pairwise λx y=>x.router<y.router
instance (s:Spk):Decidable (bc s):=by unfold bc;infer_instance
def pb(r:Int)(h:Hrd):Prop:=(1≤h.router∧h.router≤99)∧h.router≠r∧(1≤h.epoch∧h.epoch≤1000000)∧(0≤h.ver∧h.ver≤1000000)∧aT h.ver h.items
instance (r:Int) (h:Hrd):Decidable (pb r h):=by unfold pb;infer_instance
def bX(l:Lsn):Prop:=(1≤l.router∧l.router≤99)∧(1≤l.epoch∧l.epoch≤1000000)∧l.heard.length≤12∧(∀h∈l.heard,pb l.router h)∧l.heard.Pairwise λx y=>x.router<y.router
instance (l:Lsn):Decidable (bX l):=by unfold bX;infer_instance
def py(p:Prop)[Decidable p]:Int:=if p then 0 else 1
def bn(x:Sig):Prop:=
 if x.kind=1 then(1≤x.epoch∧x.epoch≤1000000)∧(0≤x.ver∧x.ver≤1000000)∧x.prev=0∧x.pep=0∧x.grp=0
 else if x.kind=2 then(1≤x.epoch∧x.epoch≤1000000)∧(1≤x.ver∧x.ver≤1000000)∧(0≤x.prev∧x.prev≤x.ver-1)∧x.pep=0∧(1≤x.grp∧x.grp≤99)
 else(0≤x.epoch∧x.epoch≤1000000)∧(0≤x.ver∧x.ver≤1000000)∧x.prev=0∧(1≤x.pep∧x.pep≤1000000)∧x.grp=0
instance (x:Sig):Decidable (bn x):=by unfold bn;infer_instance
def eN(x:Sig):Prop:=(1≤x.src∧x.src≤99)∧(1≤x.dst∧x.dst≤99)∧x.src≠x.dst
instance (x:Sig):Decidable (eN x):=by unfold eN;infer_instance
def aL(x:Sig):Int:=
 if ¬(x.kind=1∨x.kind=2∨x.kind=3)then 1 else if ¬(eN x∧bn x)then 2
 else if x.kind=2 then aF x.mode x.srcs else if x.mode≠0∨x.srcs≠[]then 1 else 0
def dB(w:Wnt):Prop:=w.mode=1∧w.srcs=[]
instance (w:Wnt):Decidable (dB w):=by unfold dB;infer_instance
def fC(l:List Wnt):Int:=orI (l.map λx=>aF x.mode x.srcs)
def bh(chg:Bool)(l:List Wnt):Int:=
 if 32<l.length then 3 else if ¬(∀w∈l,1≤w.grp∧w.grp≤99)then 2 else if fC l≠0 then fC l
 else if chg=false∧∃w∈l,dB w then 1 else if ¬(l.Pairwise λx y=>x.grp<y.grp)then 25 else 0
def without(g:Int)(l:List Itm):List Itm:=l.filter λx=>decide (x.grp≠g)
def om(l:List Itm)(x:Itm):List Itm:=without x.grp l++[x]
def dh(l:List Itm)(g:Int):Int×List Int:=match l.find? λx=>decide (x.grp=g)with
 | some x=>(x.mode,x.srcs)
 | none=>(1,[])
def dA(s:Int×List Itm)(w:Wnt):Int×List Itm:=
 if dh s.2 w.grp=(w.mode,w.srcs)then s else(s.1+1,om s.2 ⟨s.1+1,w.grp,w.mode,w.srcs⟩)
def fc:Spk:=⟨0,0,0,[],[]⟩
def xx:Lsn:=⟨0,0,[]⟩
def qf:Sig:=⟨0,0,0,0,0,0,0,0,0,[]⟩
abbrev SR:=Spk×Int
def new(r k:Int)(p:List Int):SR:=
 let s:Spk:=⟨r,k,0,[],p.map λx=>⟨x,0,0⟩⟩
 if bc s then(s,0)else(fc,1)
def change(s:Spk)(c:List Wnt):SR:=
 if ¬bc s then(fc,1)else if bh true c≠0 then(fc,bh true c)
 else if 1000000<(c.foldl dA (s.last,s.items)).1 then(fc,3)
 else(⟨s.router,s.epoch,(c.foldl dA (s.last,s.items)).1,(c.foldl dA (s.last,s.items)).2,s.peers⟩,0)
def my(i:Nat)(w:Wnt):Itm:=⟨i+1,w.grp,w.mode,w.srcs⟩
def bR(s:Spk)(w:List Wnt):SR:=
 if ¬bc s then(fc,1)else if bh false w≠0 then(fc,bh false w)else if s.epoch=1000000 then(fc,3)
 else(⟨s.router,s.epoch+1,w.length,w.mapIdx my,s.peers.map λp=>⟨p.router,0,0⟩⟩,0)
def ib(l:List Per)(r:Int):Nat:=l.findIdx λp=>!decide (p.router<r)
def uh(l:List Per)(r:Int):Prop:=ib l r<l.length∧(l.getD (ib l r) ⟨0,0,0⟩).router=r
instance (l:List Per) (r:Int):Decidable (uh l r):=by unfold uh;infer_instance
def bp(l:List Hrd)(r:Int):Nat:=l.findIdx λp=>!decide (p.router<r)
def Rk:Hrd:=⟨0,0,0,[]⟩
def fX(l:List Hrd)(r:Int):Prop:=bp l r<l.length∧(l.getD (bp l r) Rk).router=r
instance (l:List Hrd) (r:Int):Decidable (fX l r):=by unfold fX;infer_instance
def Pi(s:Spk)(to prev:Int)(x:Itm):Sig:=⟨2,s.router,to,s.epoch,x.ver,prev,0,x.grp,x.mode,x.srcs⟩
def bU(s:Spk)(to acked:Int):Int→List Itm→List Sig
 | _,[]=>[]
 | prev,x::r=>(if acked<x.ver then [Pi s to prev x]else [])++bU s to acked x.ver r
def gi(s:Spk)(to:Int):Sig:=⟨1,s.router,to,s.epoch,s.last,0,0,0,0,[]⟩
def send(s:Spk)(to:Int):List Sig×Int:=
 if ¬bc s then([],1)else if ¬uh s.peers to then([],4)
 else(gi s to::bU s to (s.peers.getD (ib s.peers to) ⟨0,0,0⟩).acked 0 s.items,0)
def vy(s:Spk)(x:Sig):Int:=if x.epoch=s.epoch∧x.ver≤s.last then x.ver else 0
def g9(s:Spk)(x:Sig)(p:Per):Per:=
 if p.epoch<x.pep then⟨p.router,x.pep,vy s x⟩else if x.pep=p.epoch then⟨p.router,p.epoch,gu p.acked (vy s x)⟩else p
def ack(s:Spk)(x:Sig):SR:=
 if ¬bc s then(fc,1)else if aL x≠0 then(fc,aL x)else if x.kind≠3∨x.dst≠s.router then(fc,1)
 else if ¬uh s.peers x.src then(fc,4)
 else(⟨s.router,s.epoch,s.last,s.items,s.peers.set (ib s.peers x.src) (g9 s x (s.peers.getD (ib s.peers x.src) ⟨0,0,0⟩))⟩,0)
def nV(x:Sig):Itm:=⟨x.ver,x.grp,x.mode,x.srcs⟩
def fo(h:Hrd)(x:Sig):Hrd:=
 if x.kind=2∧x.epoch=h.epoch∧x.prev≤h.ver∧h.ver<x.ver then⟨h.router,h.epoch,x.ver,om h.items (nV x)⟩else h
def iT(h:Hrd)(x:Sig):Hrd:=if h.epoch<x.epoch then⟨x.src,x.epoch,0,[]⟩else h
def base(l:List Hrd)(r:Int):List Hrd:=if fX l r then l else dC l (bp l r) ⟨r,0,0,[]⟩
abbrev HR:=(Lsn×Sig)×Int
def xZ(l:List Hrd)(x:Sig):Hrd:=fo (iT ((base l x.src).getD (bp l x.src) Rk) x) x
def eV(l:Lsn)(x:Sig):HR:=
 if ¬bX l then((xx,qf),1)else if aL x≠0 then((xx,qf),aL x)else if x.kind=3∨x.dst≠l.router then((xx,qf),1)
 else if ¬fX l.heard x.src∧l.heard.length=12 then((xx,qf),3)
 else((⟨l.router,l.epoch,(base l.heard x.src).set (bp l.heard x.src) (xZ l.heard x)⟩,
  ⟨3,l.router,x.src,(xZ l.heard x).epoch,(xZ l.heard x).ver,0,l.epoch,0,0,[]⟩),0)
def atH(l:List Hrd)(r:Int):Hrd:=l.getD (bp l r) Rk
def agree(s:Spk)(l:Lsn):Prop:=
 bc s∧bX l∧fX l.heard s.router∧(atH l.heard s.router).epoch=s.epoch∧(atH l.heard s.router).ver=s.last∧(atH l.heard s.router).items=s.items
instance (s:Spk) (l:Lsn):Decidable (agree s l):=by unfold agree;infer_instance
theorem iN{g:Int}{l:List Itm}{x:Itm}:x∈without g l↔x∈l∧x.grp≠g:=by simp[without]
theorem oD{l:List Itm}{x y:Itm}:y∈om l x↔(y∈l∧y.grp≠x.grp)∨y=x:=by simp[om,iN]
theorem aT.mono{n m:Int}{l:List Itm}(h:aT n l)(hm:n≤m):aT m l:=
 ⟨λx hx=>by obtain⟨⟨a,b⟩,c⟩:=h.1 x hx;exact⟨⟨a,by omega⟩,c⟩,h.2⟩
theorem aT.without{n g:Int}{l:List Itm}(h:aT n l):aT n (without g l):=
 ⟨λx hx=>h.1 x (iN.mp hx).1,h.2.1.sublist (List.Sublist.map _ List.filter_sublist),h.2.2.sublist List.filter_sublist⟩
theorem aT.put{n:Int}{l:List Itm}{x:Itm}(h:aT n l)(h1:n<x.ver)(h2:1≤x.ver)(h3:1≤x.grp∧x.grp≤99)(h4:aF x.mode x.srcs=0):aT x.ver (om l x):=by
 have hw:=h.without (g:=x.grp)
 refine⟨λy hy=>?_,?_,?_⟩
 ·rcases List.mem_append.mp hy with hy|hy
  ·obtain⟨⟨a,b⟩,c⟩:=hw.1 y hy
   exact⟨⟨a,by omega⟩,c⟩
  ·rw[List.mem_singleton]at hy;subst hy
   exact⟨⟨h2,Int.le_refl _⟩,h3,h4⟩
 ·rw[om,List.map_append]
  refine List.nodup_append.mpr ⟨hw.2.1,by simp,?_⟩
  intro a ha b hb e
  obtain⟨y,hy,rfl⟩:=List.mem_map.mp ha
  simp at hb
  subst hb
  exact(iN.mp hy).2 e
 ·refine List.pairwise_append.mpr ⟨hw.2.2,List.pairwise_singleton _ _,λa ha b hb=>?_⟩
  rw[List.mem_singleton]at hb;subst hb
  have:=(hw.1 a ha).1.2
  omega
theorem Nodup.grp{l:List Itm}(h:(l.map Itm.grp).Nodup){x y:Itm}(hx:x∈l)(hy:y∈l)(e:x.grp=y.grp):x=y:=by
 induction l with
 | nil=>simp at hx
 | cons z l ih =>
  simp only[List.map_cons,List.nodup_cons]at h
  rcases List.mem_cons.mp hx with h1|h1
  ·rcases List.mem_cons.mp hy with h2|h2
   ·rw[h1,h2]
   ·exact absurd (List.mem_map.mpr ⟨y,h2,by rw[←e,h1]⟩) h.1
  ·rcases List.mem_cons.mp hy with h2|h2
   ·exact absurd (List.mem_map.mpr ⟨x,h1,by rw[e,h2]⟩) h.1
   ·exact ih h.2 h1 h2
theorem S4:∀{a b:List Itm},a.Pairwise (λx y=>x.ver<y.ver)→b.Pairwise (λx y=>x.ver<y.ver)→(∀x,x∈a↔x∈b)→a=b:=by
 intro a
 induction a with
 | nil =>
  intro b _ _ h
  cases b with
  | nil=>rfl
  | cons y b=>exact absurd ((h y).mpr (by simp)) (by simp)
 | cons x a ih =>
  intro b ha hb h
  cases b with
  | nil=>exact absurd ((h x).mp (by simp)) (by simp)
  | cons y b =>
   rw[List.pairwise_cons]at ha hb
   have hxy:x=y:=by
    refine Classical.byContradiction λhne=>?_
    have h1:x∈b:=(List.mem_cons.mp ((h x).mp (by simp))).resolve_left hne
    have h2:y∈a:=(List.mem_cons.mp ((h y).mpr (by simp))).resolve_left (Ne.symm hne)
    have:=ha.1 y h2
    have:=hb.1 x h1
    omega
   subst hxy
   rw[ih ha.2 hb.2 λz=>?_]
   constructor
   ·intro hz
    refine(List.mem_cons.mp ((h z).mp (by simp[hz]))).resolve_left λe=>?_
    subst e
    have:=ha.1 z hz
    omega
   ·intro hz
    refine(List.mem_cons.mp ((h z).mpr (by simp[hz]))).resolve_left λe=>?_
    subst e
    have:=hb.1 z hz
    omega
structure Adv (n:Int) (l:List Itm) (m:Int) (k:List Itm):Prop where
  le:n≤m
  old:∀z∈k,z∈l∨n<z.ver
  grp:∀z∈l,∃y∈k,y.grp=z.grp
theorem Adv.refl(n:Int)(l:List Itm):Adv n l n l:=⟨Int.le_refl _,λ_ h=>.inl h,λz h=>⟨z,h,rfl⟩⟩
theorem Adv.trans{n m p:Int}{a b c:List Itm}(h:Adv n a m b)(k:Adv m b p c):Adv n a p c:=by
 refine⟨Int.le_trans h.le k.le,λz hz=>?_,λz hz=>?_⟩
 ·rcases k.old z hz with g|g
  ·exact h.old z g
  ·exact .inr (by have:=h.le;omega)
 ·obtain⟨y,hy,e⟩:=h.grp z hz
  obtain⟨x,hx,e'⟩:=k.grp y hy
  exact⟨x,hx,e'.trans e⟩
theorem Adv.put{n:Int}{l:List Itm}{x:Itm}(h:n<x.ver):Adv n l x.ver (om l x):=by
 refine⟨by omega,λz hz=>?_,λz hz=>?_⟩
 ·rcases oD.mp hz with g|rfl
  ·exact .inl g.1
  ·exact .inr h
 ·by_cases e:z.grp=x.grp
  ·exact⟨x,oD.mpr (.inr rfl),e.symm⟩
  ·exact⟨z,oD.mpr (.inl ⟨hz,e⟩),rfl⟩
def N9(c:List Wnt):Prop:=∀w∈c,(1≤w.grp∧w.grp≤99)∧aF w.mode w.srcs=0
theorem Sp{n:Int}{l:List Itm}{w:Wnt}(h:aT n l)(h0:0≤n)(hw:(1≤w.grp∧w.grp≤99)∧aF w.mode w.srcs=0) :
  aT (dA (n,l) w).1 (dA (n,l) w).2∧Adv n l (dA (n,l) w).1 (dA (n,l) w).2∧(dA (n,l) w).1≤n+1∧0≤(dA (n,l) w).1:=by
 unfold dA
 split
 ·exact⟨h,Adv.refl _ _,by simp only;omega,h0⟩
 ·exact⟨h.put (x:=⟨n+1,w.grp,w.mode,w.srcs⟩) (by simp only;omega) (by simp only;omega) hw.1 hw.2,Adv.put (x:=⟨n+1,w.grp,w.mode,w.srcs⟩) (by simp only;omega),Int.le_refl _,by simp only;omega⟩
theorem CK:∀{c:List Wnt} {n:Int} {l:List Itm},aT n l→0≤n→N9 c →
  aT (c.foldl dA (n,l)).1 (c.foldl dA (n,l)).2∧Adv n l (c.foldl dA (n,l)).1 (c.foldl dA (n,l)).2∧(c.foldl dA (n,l)).1≤n+c.length∧0≤(c.foldl dA (n,l)).1
 | [],n,l,h,h0,_=>⟨h,Adv.refl _ _,by simp,h0⟩
 | w::c,n,l,h,h0,hc=>by
  obtain⟨a1,a2,a3,a4⟩:=Sp h h0 (hc w (by simp))
  obtain⟨b1,b2,b3,b4⟩:=CK (c:=c) a1 a4 (λv hv=>hc v (by simp[hv]))
  refine⟨b1,a2.trans b2,?_,b4⟩
  simp only[List.foldl_cons,List.length_cons]
  have:(c.foldl dA (dA (n,l) w)).1≤(dA (n,l) w).1+c.length:=b3
  omega
structure Tu (n:Int) (l:List Itm) (x:Sig):Prop where
  le:x.ver≤n
  has:∃z∈l,z.grp=x.grp
  grp:∀z∈l,z.grp=x.grp→x.ver≤z.ver
  gap:∀z∈l,z.ver≤x.ver→z.ver≤x.prev∨z=nV x
structure OC (n:Int) (l:List Itm) (h:Hrd):Prop where
  le:h.ver≤n
  grp:∀y∈h.items,∃z∈l,z.grp=y.grp
  has:∀z∈l,z.ver≤h.ver→z∈h.items
theorem OC.eq{n:Int}{l:List Itm}{h:Hrd}(o:OC n l h)(hl:aT n l)(hh:aT h.ver h.items)(e:h.ver=n):h.items=l:=by
 refine S4 hh.2.2 hl.2.2 λy=>⟨λhy=>?_,λhy=>o.has y hy ?_⟩
 ·obtain⟨z,hz,e'⟩:=o.grp y hy
  have:=o.has z hz (by have:=(hl.1 z hz).1.2;omega)
  rw[←Nodup.grp hh.2.1 this hy e'];exact hz
 ·have:=(hl.1 y hy).1.2;omega
theorem Pairwise.mid{l r:List Itm}{x:Itm}(h:(l++x::r).Pairwise λa b=>a.ver<b.ver):(∀y∈l,y.ver<x.ver)∧∀y∈r,x.ver<y.ver:=by
 rw[List.pairwise_append,List.pairwise_cons]at h
 exact⟨λy hy=>h.2.2 y hy x (by simp),λy hy=>h.2.1.1 y hy⟩
theorem Ee{s:Spk}{to acked:Int}(hs:aT s.last s.items)(h1:s.last≤1000000):∀(r d:List Itm) (prev:Int),s.items=d++r→0≤prev→(∀y∈d,y.ver≤prev)→(∀y∈r,prev<y.ver) →
  ∀x∈bU s to acked prev r,x.kind=2∧x.src=s.router∧x.dst=to∧x.epoch=s.epoch∧x.pep=0∧(0≤x.prev∧x.prev≤x.ver-1)∧(nV x)∈s.items∧Tu s.last s.items x
 | [],d,prev,_,_,_,_,x,hx=>by simp[bU]at hx
 | y::r,d,prev,e,h0,hd,hr,x,hx=>by
  have hy:y∈s.items:=by rw[e];simp
  obtain⟨m1,m2⟩:=Pairwise.mid (e ▸ hs.2.2)
  rcases List.mem_append.mp hx with hx|hx
  ·split at hx
   ·rw[List.mem_singleton]at hx;subst hx
    have hp:=hr y (by simp)
    refine⟨rfl,rfl,rfl,rfl,rfl,⟨h0,by simp only[Pi];omega⟩,hy,(hs.1 y hy).1.2,⟨y,hy,rfl⟩,λz hz e'=>?_,λz hz hv=>?_⟩
    ·rw[Nodup.grp hs.2.1 hz hy e'];exact Int.le_refl _
    ·rw[e]at hz
     rcases List.mem_append.mp hz with hz|hz
     ·exact .inl (hd z hz)
     ·rcases List.mem_cons.mp hz with rfl|hz
      ·exact .inr rfl
      ·have:=m2 z hz;simp only[Pi]at hv;omega
   ·simp at hx
  ·refine Ee hs h1 r (d++[y]) y.ver (by rw[e];simp) (by have:=(hs.1 y hy).1.1;omega) (λz hz=>?_) m2 x hx
   rcases List.mem_append.mp hz with hz|hz
   ·have:=m1 z hz;omega
   ·rw[List.mem_singleton]at hz;subst hz;exact Int.le_refl _
theorem Hm{l:List Int}:orI l=0↔∀x∈l,x=0:=by
 unfold orI
 cases h:l.find? (· != 0)with
 | none =>
  rw[List.find?_eq_none]at h
  exact⟨λ_ x hx=>by simpa using h x hx,λ_=>rfl⟩
 | some a =>
  have h1:=List.find?_some h
  have h2:=List.mem_of_find?_eq_some h
  exact⟨λe=>by simp at e;subst e;simp at h1,λe=>by rw[e a h2]at h1;simp at h1⟩
theorem eD{chg:Bool}{l:List Wnt}:bh chg l=0↔l.length≤32∧(∀w∈l,1≤w.grp∧w.grp≤99)∧(∀w∈l,aF w.mode w.srcs=0)∧(chg=false→∀w∈l,¬dB w)∧l.Pairwise λx y=>x.grp<y.grp:=by
 have hz:fC l=0↔∀w∈l,aF w.mode w.srcs=0:=by
  rw[fC,Hm]
  constructor
  ·intro h w hw;exact h _ (List.mem_map.mpr ⟨w,hw,rfl⟩)
  ·intro h x hx;obtain⟨w,hw,rfl⟩:=List.mem_map.mp hx;exact h w hw
 unfold bh
 by_cases h1:32<l.length
 ·rw[if_pos h1];constructor
  ·intro h;omega
  ·intro h;omega
 rw[if_neg h1]
 by_cases h2:∀w∈l,1≤w.grp∧w.grp≤99
 case neg =>
  rw[if_pos h2];constructor
  ·intro h;omega
  ·intro h;exact absurd h.2.1 h2
 rw[if_neg (not_not_intro h2)]
 by_cases h3:fC l=0
 case neg =>
  rw[if_pos h3]
  exact⟨λh=>absurd h h3,λh=>hz.mpr h.2.2.1⟩
 rw[if_neg (not_not_intro h3)]
 by_cases h4:chg=false∧∃w∈l,dB w
 ·rw[if_pos h4]
  constructor
  ·intro h;omega
  ·intro h
   obtain⟨hc,w,hw,hn⟩:=h4
   exact absurd hn (h.2.2.2.1 hc w hw)
 rw[if_neg h4]
 by_cases h5:l.Pairwise λx y=>x.grp<y.grp
 ·rw[if_neg (not_not_intro h5)]
  exact⟨λ_=>⟨by omega,h2,hz.mp h3,λhc w hw hn=>h4 ⟨hc,w,hw,hn⟩,h5⟩,λ_=>rfl⟩
 ·rw[if_pos h5]
  exact⟨λh=>by omega,λh=>absurd h.2.2.2.2 h5⟩
theorem pG{chg:Bool}{l:List Wnt}(h:bh chg l=0):N9 l:=by
 obtain⟨_,h1,h2,_⟩:=eD.mp h
 exact λw hw=>⟨h1 w hw,h2 w hw⟩
theorem SV{s:Spk}{x:Sig}{p:Per}(h:kw s.router s.last p)(h0:0≤s.last)(hx:aL x=0)(hk:x.kind=3):kw s.router s.last (g9 s x p)∧(g9 s x p).router=p.router:=by
 obtain⟨h1,h2,h3,h4⟩:=h
 have hn:bn x:=by
  unfold aL at hx
  split at hx
  ·omega
  split at hx
  ·omega
  rename_i h;exact(Classical.not_not.mp h).2
 unfold bn at hn
 rw[if_neg (by omega),if_neg (by omega)]at hn
 have hv:0≤vy s x∧vy s x≤s.last:=by
  unfold vy
  split
  ·exact⟨hn.2.1.1,by omega⟩
  ·exact⟨by omega,h0⟩
 unfold g9
 split
 ·exact⟨⟨h1,h2,⟨by simp only;omega,hn.2.2.2.1.2⟩,hv⟩,rfl⟩
 split
 ·refine⟨⟨h1,h2,h3,?_⟩,rfl⟩
  simp only[gu]
  split<;>omega
 ·exact⟨⟨h1,h2,h3,h4⟩,rfl⟩
theorem qj{w:List Wnt}(h:N9 w)(ho:w.Pairwise λx y=>x.grp<y.grp):aT w.length (w.mapIdx my):=by
 refine⟨λx hx=>?_,?_,?_⟩
 ·obtain⟨i,hi,rfl⟩:=List.mem_mapIdx.mp hx
  obtain⟨h1,h2⟩:=h _ (List.getElem_mem hi)
  exact⟨⟨by simp only[my];omega,by simp only[my];omega⟩,h1,h2⟩
 ·have:(w.mapIdx my).map Itm.grp=w.map Wnt.grp:=by
   refine List.ext_getElem (by simp) λi h1 h2=>?_
   simp[my]
  rw[this]
  rw[List.Nodup,List.pairwise_map]
  exact ho.imp λh=>by omega
 ·rw[List.pairwise_iff_getElem]
  intro i j hi hj hij
  simp only[List.getElem_mapIdx,my]
  omega
theorem lA:∀(n:Nat) (l:List Int),l.Nodup→(∀x∈l,1≤x∧x≤n)→l.length≤n
 | 0,l,_,h=>by
  cases l with
  | nil=>simp
  | cons x l=>have:=h x (by simp);omega
 | n+1,l,hn,h=>by
  have h1:=lA n (l.erase ((n+1:Nat):Int)) (hn.erase _) (λx hx=>by rw[hn.mem_erase_iff]at hx;have:=h x hx.2;omega)
  rw[List.length_erase]at h1
  split at h1<;>omega
theorem gM{n:Int}{l:List Itm}(h:aT n l):l.length≤99:=by
 have:=lA 99 (l.map Itm.grp) h.2.1 (λx hx=>by obtain⟨y,hy,rfl⟩:=List.mem_map.mp hx;exact(h.1 y hy).2.1)
 simpa using this
theorem JO{x:Sig}(hx:aL x=0)(hk:x.kind≠3):(1≤x.epoch∧x.epoch≤1000000)∧(0≤x.ver∧x.ver≤1000000)∧(x.kind=2→1≤x.ver∧(1≤x.grp∧x.grp≤99)∧aF x.mode x.srcs=0):=by
 unfold aL at hx
 split at hx
 ·omega
 split at hx
 ·omega
 rename_i h0 h1
 have hn:=(Classical.not_not.mp h1).2
 unfold bn at hn
 split at hn
 ·exact⟨hn.1,hn.2.1,λe=>by omega⟩
 split at hn
 ·rename_i h2
  rw[if_pos h2]at hx
  exact⟨hn.1,⟨by omega,hn.2.1.2⟩,λ_=>⟨hn.2.1.1,hn.2.2.2.2,hx⟩⟩
 ·omega
def IT(L:List Int)(p:Nat)(g:Int)(out:List Wnt):List Wnt:=
 if Mod (al L (aw L p).2) 2=0∧((aw L p).1.mode=2∨(aw L p).1.srcs≠[])then out++[⟨g,(aw L p).1.mode,(aw L p).1.srcs⟩]else out
def wPos(L:List Int)(p:Nat):Nat:=ag L (aw L p).2
def se(L:List Int):Nat→Int→List Wnt→Nat→List Wnt×Nat
 | 0,_,out,p=>(out,p)
 | n+1,g,out,p=>se L n (g+1) (IT L p g out) (wPos L p)
def cK(L:List Int)(p:Nat):List Wnt×Nat:=se L 6 1 [] p
def bM(l:List Wnt)(g:Int):Flt:=match l.find? λw=>decide (w.grp=g)with
 | some w=>⟨w.mode,w.srcs⟩
 | none=>⟨1,[]⟩
def FX(old new:List Wnt)(g:Int):List Wnt:=if bM new g=bM old g then []else [⟨g,(bM new g).mode,(bM new g).srcs⟩]
def gw(old new:List Wnt):Nat→List Wnt
 | 0=>[]
 | n+1=>gw old new n++FX old new (n+1)
def am(old new:List Wnt):List Wnt×Int:=
 if bh false old≠0 then([],bh false old)else if bh false new≠0 then([],bh false new)
 else if 32<(gw old new 99).length then([],3)else(gw old new 99,0)
theorem pF(old new:List Wnt):∀n:Nat,(gw old new n).length≤n
 | 0=>Nat.le_refl _
 | n+1=>by
  have:=pF old new n
  simp only[gw,FX]
  split<;>simp<;>omega
def qy(L:List Int)(p:Nat):=okL [.ref 0 0]∧(.box (.agg [.sl 1 (L.map AV.int) false,.int p]):Blk).ok
def zK(L:List Int)(t0:Int×Nat×List Wnt):NF:=⟨[(0,.k,.ref 0 0),(3,.k,.vec 1),(4,.k,.int t0.1)],[.box (.agg [.sl 1 (L.map AV.int) false,.int t0.2.1]),.vec 3 (t0.2.2.map Wnt.v) (ab (λ_=>rfl) t0.2.2)]⟩
@[reducible] def qx:Nat→Type
 | 0=>Int×Nat×List Wnt
 | _=>Unit
def ji(r:Tap×List Wnt):AV:=.sl 3 (r.2.map Wnt.v) false
def jj(r:Tap×List Wnt):List (Option Blk):=[some (.box (.agg [.sl 1 (r.1.L.map AV.int) false,.int r.1.p]))]
def kX(L:List Int)(p:Nat)(I0:(Int×Nat×List Wnt)→Prop)(m0:(Int×Nat×List Wnt)→Nat):Ax Tryz.prog qx (Tap×List Wnt):=
 (.cmdL (.nilT 3 3) (.loop 0 (zK L) I0 m0 (1,p,[]) [0,49] λ(t0:Int×Nat×List Wnt) b0 =>
(.br 34 (decide (t0.1≤6)) (.callH [0] (rI L t0.2.1) 50
(.callH [0] (N_h L ((aw L t0.2.1).2) 2) 114
(.br 162 ((Mod (al L ((aw L t0.2.1).2)) 2)==0) (.br 226 (((aw L t0.2.1).1).mode==2) (.say (λR=>Rf (α:=List AV) (t0.2.2.map Wnt.v) (Rf (α:=List AV) [.agg [.int t0.1,.int (((aw L t0.2.1).1).mode),.sl 1 ((((aw L t0.2.1).1).srcs).map AV.int) false]]
(ck (decide (t0.2.2.length+1≤1048576))
R))) (.app 402 Wnt.v t0.2.2 [(⟨t0.1,((aw L t0.2.1).1).mode,((aw L t0.2.1).1).srcs⟩:Wnt)]
(.bk 0 b0 (W (t0.1+1),ag L ((aw L t0.2.1).2),t0.2.2++[(⟨t0.1,((aw L t0.2.1).1).mode,((aw L t0.2.1).1).srcs⟩:Wnt)]) [0,402])))
(.br 322 (decide (0<(((((aw L t0.2.1).1).srcs).map AV.int).length:Int))) (.say (λR=>Rf (α:=List AV) (t0.2.2.map Wnt.v) (Rf (α:=List AV) [.agg [.int t0.1,.int (((aw L t0.2.1).1).mode),.sl 1 ((((aw L t0.2.1).1).srcs).map AV.int) false]]
(ck (decide (t0.2.2.length+1≤1048576))
R))) (.app 402 Wnt.v t0.2.2 [(⟨t0.1,((aw L t0.2.1).1).mode,((aw L t0.2.1).1).srcs⟩:Wnt)]
(.bk 0 b0 (W (t0.1+1),ag L ((aw L t0.2.1).2),t0.2.2++[(⟨t0.1,((aw L t0.2.1).1).mode,((aw L t0.2.1).1).srcs⟩:Wnt)]) [0,402])))
(.bk 0 b0 (W (t0.1+1),ag L ((aw L t0.2.1).2),t0.2.2) [0,1])))
(.bk 0 b0 (W (t0.1+1),ag L ((aw L t0.2.1).2),t0.2.2) [0,1]))))
(.say (Rf (t0.2.2.map Wnt.v)) (.cmdL (.frzE 1 (t0.2.2.map Wnt.v) (ab (λ_=>rfl) t0.2.2)) (.retH ((⟨L,t0.2.1⟩:Tap),t0.2.2) ⟨[(2,.k,.sl 3 (t0.2.2.map Wnt.v) false)],[.box (.agg [.sl 1 (L.map AV.int) false,.int t0.2.1])]⟩ [0]))))))
def nu(L:List Int)(p:Nat)(I0:(Int×Nat×List Wnt)→Prop)(m0:(Int×Nat×List Wnt)→Nat)(r0:Tap×List Wnt):=(kX L p I0 m0).vc ji jj r0
theorem Gy(L:List Int)(p:Nat)(ok:qy L p):∃I m,nu L p I m (⟨L,(cK L p).2⟩,(cK L p).1):=by
 refine⟨λt=>∃k:Nat,t.1=((k+1:Nat):Int)∧k≤6∧se L (6-k) t.1 t.2.2 t.2.1=cK L p∧t.2.2.length≤k,λt=>7-t.1.toNat,?_⟩
 dsimp only[nu,kX,qx,Ax.vp,Ax.vc];simp only[vcU,rfU,List.length_map]
 refine⟨⟨0,rfl,by omega,rfl,by simp⟩,?_⟩
 rintro⟨_,q,out⟩ ⟨k,rfl,hk,h,hl⟩
 simp only at h hl
 refine⟨λh1=>?_,λh1=>?_⟩
 ·have h1:k<6:=by simp only at h1;omega
  rw[show 6-k=(6-(k+1))+1 by omega,se]at h
  simp only[av (k:=k+1) (n:=7) (by omega) (by omega)]
  have hg:((k+1:Nat):Int)+1=((k+1+1:Nat):Int):=by omega
  rw[hg]at h
  have put:Mod (al L (aw L q).2) 2=0∧((aw L q).1.mode=2∨(aw L q).1.srcs≠[]) →
    IT L q ((k+1:Nat):Int) out=out++[⟨((k+1:Nat):Int),(aw L q).1.mode,(aw L q).1.srcs⟩]:=λc=>by rw[IT,if_pos c]
  have no:¬(Mod (al L (aw L q).2) 2=0∧((aw L q).1.mode=2∨(aw L q).1.srcs≠[]))→IT L q ((k+1:Nat):Int) out=out:=λc=>by rw[IT,if_neg c]
  refine⟨λc1=>⟨λc2=>⟨by omega,⟨k+1,rfl,by omega,?_,by simp;omega⟩,by omega⟩,λc2=>⟨λc3=>⟨by omega,⟨k+1,rfl,by omega,?_,by simp;omega⟩,by omega⟩,λc3=>⟨⟨k+1,rfl,by omega,?_,by omega⟩,by omega⟩⟩⟩,λc1=>⟨⟨k+1,rfl,by omega,?_,by omega⟩,by omega⟩⟩
  ·rw[put ⟨by simpa using c1,.inl (by simpa using c2)⟩]at h;exact h
  ·rw[put ⟨by simpa using c1,.inr (λe=>by rw[e]at c3;simp at c3)⟩]at h;exact h
  ·rw[no (λ⟨_,e⟩=>by
    rcases e with e|e
    ·simp[e]at c2
    ·exact e (List.eq_nil_of_length_eq_zero (by omega)))]at h;exact h
  ·rw[no (λ⟨e,_⟩=>by simp[e]at c1)]at h;exact h
 ·have h1:k=6:=by simp only at h1;omega
  subst h1
  rw[←h];rfl
def vJ(L:List Int)(p:Nat):HC Tryz.prog:=⟨82,[.k],[.ref 0 0],[.box (.agg [.sl 1 (L.map AV.int) false,.int p])],ji (⟨L,(cK L p).2⟩,(cK L p).1),jj (⟨L,(cK L p).2⟩,(cK L p).1),bl.of_okh λok ok2=>have ok:qy L p:=⟨ok,ok2 _ (by simp)⟩;(Gy L p ok).elim λI0 h=>h.elim λm0 h=>cC (sh:=(.s 3)) (enc:=ji) (hB:=jj) (a:=(kX L p I0 m0).an) h (by kernel_rfl),ai (by kernel_rfl),fk.of (by simp[hcB,cJ,AV.belB,allB,eI,dQ,ji,jj,ab (v:=AV.int) (λ_=>rfl)])⟩
theorem Wnt.eq_iff{x y:Wnt}:x=y↔x.grp=y.grp∧x.mode=y.mode∧x.srcs=y.srcs:=by cases x;cases y;simp
structure Rtr where
  id:Int
  cap:Bool
  deriving DecidableEq
structure Lnk where
  a:Int
  b:Int
  ca:Int
  cb:Int
  w:Int
  deriving DecidableEq
structure Tpl where
  rs:List Rtr
  ls:List Lnk
  deriving DecidableEq
structure Flw where
  src:Int
  grp:Int
  deriving DecidableEq
def Flw.v(x:Flw):AV:=.agg [.int x.src,.int x.grp]
theorem rn{α:Type}{l:List α}{k:Nat}{x:α}:((l.take k).drop 0)++([x]++((l.take ((l.length:Int).toNat)).drop k))=dC l k x:=by
 rw[Int.toNat_natCast,List.take_length,List.drop_zero,dC,List.append_assoc]
def Rtr.v(x:Rtr):AV:=.agg [.int x.id,.bool x.cap]
def Lnk.v(x:Lnk):AV:=.agg [.int x.a,.int x.b,.int x.ca,.int x.cb,.int x.w]
def G(rows:List (List Bool))(h:Hp):Hp:=λb=>if 1000≤b∧b<2000 then(rows[b-1000]?).map (λr=>Blk.vec 1 (r.map AV.bool))else h b
def F(i:Nat):Nat:=1000+i
def c7(n:Nat):List AV:=(List.range n).map λi=>.vec (F i)
theorem OD{rows:List (List Bool)}{h:Hp}{b:Nat}(hb:b<1000):G rows h b=h b:=if_neg (by omega)
theorem G_F{rows:List (List Bool)}{h:Hp}{i:Nat}{r:List Bool}(hr:rows[i]?=some r)(hl:rows.length≤1000):G rows h (F i)=some (.vec 1 (r.map AV.bool)):=by
 have:i<rows.length:=(List.getElem?_eq_some_iff.mp hr).1
 unfold G F
 rw[if_pos (by omega),show 1000+i-1000=i by omega,hr];rfl
theorem qu{i b:Nat}(hb:b<1000):(F i=b)=False:=by unfold F;simp;omega
theorem jE{i b:Nat}(hb:b<1000):(b=F i)=False:=by unfold F;simp;omega
theorem lB{n i:Nat}(h:i<n):(c7 n)[i]?=some (.vec (F i)):=by simp[c7,h]
theorem cB(n:Nat):(c7 n).length=n:=by simp[c7]
def fL(bs fs:Nat→Nat)(b:Nat):Nat:=if 1000≤b∧b<2000 then fs (b-1000)else bs b
theorem jy{bs fs:Nat→Nat}{i:Nat}(h:i<1000):fL bs fs (F i)=fs i:=by unfold fL F;rw[if_pos (by omega),show 1000+i-1000=i by omega]
theorem gS{bs fs:Nat→Nat}{b:Nat}(h:b<1000):fL bs fs b=bs b:=if_neg (by omega)
theorem jH(r:List Bool):cI (r.map AV.bool):=aW (ab (λ_=>rfl) r)
theorem aQ.nfG{k n:Nat}{tm:Nat→AV}{hp:Hp}{nx:Nat}(rows:List (List Bool))(ts:List (Nat×AV))(hs:List (Option Blk))(bs fs:Nat→Nat)
    (hT:∀p∈ts,tm p.1=p.2.ren (fL bs fs)∧p.2.bel 2000) (hH:∀i x,hs[i]?=some (some x)→hp (bs i)=some (x.ren (fL bs fs))∧x.bel 2000)
    (hl:hs.length≤1000) (hr:rows.length≤1000) (hR:∀i r,rows[i]?=some r→hp (fs i)=some (.vec 1 (r.map AV.bool)))
    (h1:∀i j,i<hs.length→j<hs.length→bs i=bs j→i=j) (h2:∀i j,i<rows.length→j<rows.length→fs i=fs j→i=j) (h3:∀i j,i<hs.length→j<rows.length→bs i≠fs j)
    (hk:∀b,b<k→bs b=b) (hkl:k≤1000):aQ k n ⟨tm,hp,nx⟩ ⟨dO ts,G rows (hpL 0 hs),2000⟩:=by
  have low:∀{b x},hpL 0 hs b=some x→hs[b]?=some (some x):=λ{b x} e=>by
    rw[ug,if_pos (Nat.zero_le _),Nat.sub_zero]at e
    cases e':hs[b]? with
    | none=>rw[e']at e;cases e
    | some y=>rw[e']at e;exact congrArg some e
  have cls:∀{b x},G rows (hpL 0 hs) b=some x→(∃i r,b=F i∧i<rows.length∧rows[i]?=some r∧x=.vec 1 (r.map AV.bool))∨(b<hs.length∧hs[b]?=some (some x)):=λ{b x} e=>by
    unfold G at e
    split at e
    · rename_i hb
      obtain⟨r,hr,rfl⟩:=Option.map_eq_some_iff.mp e
      exact .inl ⟨b-1000,r,by unfold F;omega,(List.getElem?_eq_some_iff.mp hr).1,hr,rfl⟩
    · have:=low e
      exact .inr ⟨(List.getElem?_eq_some_iff.mp this).1,this⟩
  refine aQ.ren (fL bs fs) (λt=>?_) (λb x e=>?_) (λb b' e e' he=>?_) (λb hb=>?_) (by show k≤2000;omega)
  · show dO ts t=.unk∨(tm t=(dO ts t).ren _∧(dO ts t).bel 2000)
    clear hH hR h1 h2 h3 cls low hl
    induction ts with
    | nil=>exact .inl rfl
    | cons p l ih =>
      obtain⟨t',x⟩:=p
      by_cases ht:t=t'
      · subst ht
        have:=hT (t,x) (by simp)
        simp only[dO,↓reduceIte]
        exact .inr this
      · have:=ih (λp hp=>hT p (by simp[hp]))
        simp only[dO,if_neg ht]
        exact this
  · show b<2000∧hp (fL bs fs b)=some (x.ren (fL bs fs))∧x.bel 2000
    rcases cls e with⟨i,r,rfl,hi,hr',rfl⟩|⟨hb,e⟩
    · refine⟨by unfold F;omega,?_,bN (jH r)⟩
      rw[jy (by omega),hR i r hr',Blk.ren,bF _ (jH r)]
    · obtain⟨g1,g2⟩:=hH b x e
      exact⟨by omega,by rw[gS (by omega)];exact g1,g2⟩
  · have c1:(∃i,b=F i∧i<rows.length)∨b<hs.length:=by
      cases q:G rows (hpL 0 hs) b with
      | none=>exact absurd q e
      | some x => rcases cls q with ⟨i, r, g1, g2, _⟩ | ⟨g, _⟩
                  · exact .inl ⟨i,g1,g2⟩
                  · exact .inr g
    have c2:(∃i,b'=F i∧i<rows.length)∨b'<hs.length:=by
      cases q:G rows (hpL 0 hs) b' with
      | none=>exact absurd q e'
      | some x => rcases cls q with ⟨i, r, g1, g2, _⟩ | ⟨g, _⟩
                  · exact .inl ⟨i,g1,g2⟩
                  · exact .inr g
    rcases c1 with⟨i,rfl,hi⟩|hb<;>rcases c2 with⟨j,rfl,hj⟩|hb'
    · rw[jy (by omega),jy (by omega)]at he
      rw[h2 i j hi hj he]
    · rw[jy (by omega),gS (by omega)]at he
      exact absurd he.symm (h3 b' i hb' hi)
    · rw[gS (by omega),jy (by omega)]at he
      exact absurd he (h3 b j hb hj)
    · rw[gS (by omega),gS (by omega)]at he
      exact h1 b b' hb hb' he
  · rw[gS (by omega)];exact hk b hb
def mset(M:List (List Bool))(x y:Nat):List (List Bool):=M.set x ((M.getD x []).set y true)
def lk1(L:List Int):Nat→Nat→Nat→List (List Bool)→List (List Bool)×Nat
 | 0,i,p,M=>(M,p)
 | m+1,i,p,M=>if Mod (al L p) 12<11 then lk1 L m (i+1) (ag L (ag L p)) (mset M (Mod (al L (ag L p)) i).toNat i)else lk1 L m (i+1) (ag L p) M
def lk2(L:List Int)(n:Nat):Nat→Nat→List (List Bool)→List (List Bool)×Nat
 | 0,p,M=>(M,p)
 | m+1,p,M =>
  if Mod (al L p) n=Mod (al L (ag L p)) n then lk2 L n m (ag L (ag L p)) M
  else lk2 L n m (ag L (ag L p)) (mset M (min (Mod (al L p) n) (Mod (al L (ag L p)) n)).toNat (max (Mod (al L p) n) (Mod (al L (ag L p)) n)).toNat)
def Sq(n:Nat)(M:List (List Bool)):Prop:=M.length=n∧∀r∈M,r.length=n
theorem Sq.get{n:Nat}{M:List (List Bool)}(h:Sq n M){x:Nat}(hx:x<n):∃r,M[x]?=some r∧r.length=n∧M.getD x []=r:=by
 have hx:x<M.length:=by rw[h.1];exact hx
 exact⟨M[x],List.getElem?_eq_getElem hx,h.2 _ (List.getElem_mem hx),by simp[List.getD,List.getElem?_eq_getElem hx]⟩
theorem Sq.set{n:Nat}{M:List (List Bool)}(h:Sq n M)(x y:Nat):Sq n (mset M x y):=by
 refine⟨by simp[mset,h.1],λr hr=>?_⟩
 by_cases hx:x<n
 ·obtain⟨r0,g1,g2,g3⟩:=h.get hx
  rcases List.mem_or_eq_of_mem_set hr with hr|rfl
  ·exact h.2 r hr
  ·rw[g3];simpa using g2
 ·have:mset M x y=M:=List.set_eq_of_length_le (by rw[h.1];omega)
  rw[this]at hr;exact h.2 r hr
theorem tQ{L:List Int}{n:Nat}:∀{m i p:Nat} {M:List (List Bool)},Sq n M→Sq n (lk1 L m i p M).1
 | 0,_,_,_,h=>h
 | m+1,i,p,M,h=>by
  rw[lk1];split
  ·exact tQ (h.set _ _)
  ·exact tQ h
theorem Bt{L:List Int}{n k:Nat}:∀{m p:Nat} {M:List (List Bool)},Sq n M→Sq n (lk2 L k m p M).1
 | 0,_,_,h=>h
 | m+1,p,M,h=>by
  rw[lk2];split
  ·exact Bt h
  ·exact Bt (h.set _ _)
def sq0(n:Nat):List (List Bool):=List.replicate n (List.replicate n false)
theorem Aj(n:Nat):Sq n (sq0 n):=⟨by simp[sq0],λr hr=>by rw[(List.mem_replicate.mp hr).2];simp⟩
mutual
theorem AV.ren_id:∀x:AV,x.ren (λb=>b)=x
  | .agg cs=>by rw[AV.ren,kq cs]
  | .tup xs=>by rw[AV.ren,kq xs]
  | .func f caps=>by rw[AV.ren,kq caps]
  | .ref _ _=>rfl
  | .eref _ _ _=>rfl
  | .vec _=>rfl
  | .vsub _ _ _=>rfl
  | .asub _ _ _ _=>rfl
  | .val _=>rfl
  | .rptr _ _=>rfl
  | .sl _ _ _=>rfl
  | .mref _=>rfl
  | .mp _ _ _=>rfl
  | .unk=>rfl
theorem kq:∀xs:List AV,d6 (λb=>b) xs=xs
  | []=>rfl
  | x::xs=>by rw[d6,AV.ren_id x,kq xs]
end
def F0(i:Nat):Nat:=1000+i
theorem Na:fL (λb=>b) F0=λb=>b:=by
 funext b;show(if 1000≤b∧b<2000 then 1000+(b-1000)else b)=b;split<;>omega
def F1(i f j:Nat):Nat:=if j=i then f else 1000+j
theorem d7(n:Nat)(h:n≤1000):fZ 2000 (c7 n):=by
 unfold c7
 have:∀l:List Nat,(∀i∈l,i<1000)→fZ 2000 (l.map λi=>AV.vec (F i)):=by
  intro l
  induction l with
  | nil=>intro _;trivial
  | cons a l ih=>intro h;exact⟨by have:=h a (by simp);show F a<2000;unfold F;omega,ih λi hi=>h i (by simp[hi])⟩
 exact this _ λi hi=>by have:=List.mem_range.mp hi;omega
theorem zg{k:Nat}:∀{xs ys:List AV},fZ k xs→fZ k ys→fZ k (xs++ys)
 | [],_,_,h=>h
 | _::_,_,h,h'=>⟨h.1,zg h.2 h'⟩
theorem NU{k n:Nat}{x:AV}(h:x.bel k):fZ k (List.replicate n x):=by
 induction n with
 | zero=>trivial
 | succ n ih=>exact⟨h,ih⟩
theorem K8{π:Nat→Nat}(xs ys:List AV):d6 π (xs++ys)=d6 π xs++d6 π ys:=by rw[cQ,cQ,cQ,List.map_append]
theorem Hs(n:Nat)(bs fs:Nat→Nat)(h:n≤1000):d6 (fL bs fs) (c7 n)=(List.range n).map λi=>.vec (fs i):=by
 rw[cQ,c7,List.map_map]
 refine List.map_congr_left λi hi=>?_
 have:=List.mem_range.mp hi
 show AV.vec (fL bs fs (F i))=_
 rw[jy (by omega)]
abbrev nilR:AV:=.sl 1 [] false
def ga(i m:Nat):List AV:=c7 i++List.replicate m nilR
theorem qN(i m:Nat):(ga i m).length=i+m:=by simp[ga,cB]
theorem Hb{i m f:Nat}(h:i≤999)(bs:Nat→Nat):d6 (fL bs (F1 i f)) (ga (i+1) m)=(ga i (m+1)).set i (.vec f):=by
 rw[ga,K8,Hs _ _ _ (by omega),bF _ (qP.mpr λx hx=>by rw[(List.mem_replicate.mp hx).2];trivial),ga,List.set_append_right _ _ (by rw[cB];exact Nat.le_refl _),cB,Nat.sub_self,
  List.replicate_succ,List.set_cons_zero,List.range_succ,List.map_append,List.map_cons,List.map_nil,c7,List.append_assoc]
 have e:(List.range i).map (λj=>AV.vec (F1 i f j))=(List.range i).map λj=>.vec (F j):=List.map_congr_left λj hj=>by
  have:=List.mem_range.mp hj
  simp[F1,F,show j≠i by omega]
 rw[e];simp[F1]
theorem qO{i m:Nat}(h:i≤1000):fZ 2000 (ga i m):=zg (d7 i h) (NU trivial)
theorem X4{i f m:Nat}(hm:m≤1000)(hf:2000≤f):∀a b,a<m→b<m→F1 i f a=F1 i f b→a=b:=λa b ha hb h=>by
 unfold F1 at h;split at h<;>split at h<;>omega
def sJ:AC:=.seq (.reg [⟨(some 41),.move (.t 9),none⟩,⟨(some 42),.len (.t 41),none⟩,⟨(some 43),.move (.c (.val (.int .i64 0))),none⟩])
 (.block 2 (.loop (.seq (.reg [⟨(some 44),.bin .lss (.t 43) (.t 42),none⟩])
 (.seq (.cond (.t 44) (.skip) (.exit 2))
 (.seq (.block 3 (.seq (.reg [⟨(some 45),.move (.t 43),none⟩,⟨(some 10),.move (.t 45),none⟩])
 (.reg [⟨(some 46),.move (.t 9),none⟩,⟨(some 47),.move (.t 10),none⟩,⟨(some 48),.move (.t 5),none⟩,⟨(some 49),.mks 1 1 (.val (.bool false)) (.t 48) (.t 48),none⟩,⟨(some 50),.iaddr 1 (.t 46) (.t 47),none⟩,⟨none,.store 1 (.t 50) (.t 49),none⟩])))
 (.reg [⟨(some 51),.bin .add (.t 43) (.c (.val (.int .i64 1))),none⟩,⟨(some 43),.move (.t 51),none⟩]))))))
def DM(L:List Int)(p:Nat)(rs:List Rtr)(n:Int):NF:=
  ⟨[(0,.k,.ref 0 0),(4,.k,.ref 1 0),(5,.k,.int n),(6,.k,.ref 2 0),(9,.k,.vec 4)],
   [.box (Tap.v ⟨L,p⟩),.box (.agg [.sl 0 [] true,.sl 0 [] true]),.box (.agg [.vec 3,.sl 0 [] true]),.vec 2 (rs.map Rtr.v) (ab (λ_=>rfl) rs),.vec 1 ((List.replicate n.toNat ([]:List Bool)).map (λl=>AV.sl 1 (l.map AV.bool) false)) (ab (λ_=>rfl) _)]⟩
def bA(L:List Int)(p:Nat)(rs:List Rtr)(es:List AV):List (Option Blk):=
 [some (.box (Tap.v ⟨L,p⟩)),some (.box (.agg [.sl 0 [] true,.sl 0 [] true])),some (.box (.agg [.vec 3,.sl 0 [] true])),some (.vec 2 (rs.map Rtr.v)),some (.vec 1 es)]
def iA(L:List Int)(p:Nat)(rs:List Rtr)(n:Int)(M:List (List Bool)):S3:=
 ⟨dO [(0,.ref 0 0),(4,.ref 1 0),(5,.int n),(6,.ref 2 0),(9,.vec 4)],G M (hpL 0 (bA L p rs (c7 n.toNat))),2000⟩
theorem f8(rs:List Rtr):cI (rs.map Rtr.v):=aW (ab (λ_=>rfl) rs)
theorem qC{L:List Int}{p:Nat}{rs:List Rtr}{es es':List AV}{hp:Hp}{fs:Nat→Nat}(h0:hp 0=some (.box (Tap.v ⟨L,p⟩)))(h1:hp 1=some (.box (.agg [.sl 0 [] true,.sl 0 [] true])))(h2:hp 2=some (.box (.agg [.vec 3,.sl 0 [] true])))(h3:hp 3=some (.vec 2 (rs.map Rtr.v)))
  (h4:hp 4=some (.vec 1 es')) (he:d6 (fL (λb=>b) fs) es=es') (hb:fZ 2000 es):∀i x,(bA L p rs es)[i]?=some (some x)→hp i=some (x.ren (fL (λb=>b) fs))∧x.bel 2000:=by
 intro i x h
 rcases i with _|_|_|_|_|i
 ·cases h;exact⟨by rw[h0];rfl,⟨trivial,trivial,trivial⟩⟩
 ·cases h;exact⟨by rw[h1];rfl,⟨trivial,trivial,trivial⟩⟩
 ·cases h;exact⟨by rw[h2];rfl,⟨show 3<2000 by omega,trivial,trivial⟩⟩
 ·cases h;exact⟨by rw[h3,Blk.ren,bF _ (f8 rs)],bN (f8 rs)⟩
 ·cases h;exact⟨by rw[h4,Blk.ren,he],hb⟩
 ·simp[bA]at h
theorem fq{L:List Int}{p:Nat}{rs:List Rtr}{es:List AV}{hp:Hp}(h0:hp 0=some (.box (Tap.v ⟨L,p⟩)))(h1:hp 1=some (.box (.agg [.sl 0 [] true,.sl 0 [] true])))(h2:hp 2=some (.box (.agg [.vec 3,.sl 0 [] true])))(h3:hp 3=some (.vec 2 (rs.map Rtr.v)))
  (h4:hp 4=some (.vec 1 es)) (hb:fZ 2000 es):∀i x,(bA L p rs es)[i]?=some (some x)→hp i=some (x.ren (fL (λb=>b) F0))∧x.bel 2000:=
 qC h0 h1 h2 h3 h4 (by rw[Na,kq]) hb
theorem G4(rows:List (List Bool))(h:Hp):G rows h 4=h 4:=OD (by decide)
theorem Pl(L:List Int)(p:Nat)(rs:List Rtr)(n:Int)(hn:1≤n∧n≤100)(k:Nat):gA Tryz.prog 1 k sJ (DM L p rs n).st (iA L p rs n (sq0 n.toNat)):=by
 obtain⟨N,rfl⟩:∃N:Nat,n=N:=⟨n.toNat,by omega⟩
 simp only[iA,Int.toNat_natCast]
 unfold gA sJ
 show AWP _ 1 k _ _ ⟨dO [(0,.ref 0 0),(4,.ref 1 0),(5,.int N),(6,.ref 2 0),(9,.vec 4)],hpL 0 (bA L p rs ((List.replicate N ([]:List Bool)).map (λl=>AV.sl 1 (l.map AV.bool) false))),5⟩
 have hnil:(List.replicate N ([]:List Bool)).map (λl=>AV.sl 1 (l.map AV.bool) false)=ga 0 N:=by rw[List.map_replicate,ga,c7];rfl
 rw[hnil]
 refine AWP.seq' ?_
 refine AWP.reg' λK hK=>?_
 try simp only[di,dm,dj,eq_self,implies_true,forall_eq_or_imp,forall_eq,Nat.reduceEqDiff,↓reduceIte,Nat.reduceAdd,Nat.reduceLeDiff,Nat.reduceSub,Nat.reduceMul,Nat.reduceLT,Int.reduceBEq,Int.reduceBNe,Int.reduceToNat,Int.reduceLT,Int.reduceLE,Int.reduceAdd,Int.reduceSub,Int.reduceMul,reduceCtorEq,bA,i6,qN]
 refine hK _ _ _ ?_
 clear hK K
 refine AWP.block ?_
 refine AWP.loopS (λi=>⟨dO [(0,.ref 0 0),(4,.ref 1 0),(5,.int N),(6,.ref 2 0),(9,.vec 4),(42,.int N),(43,.int (i:Nat))],G (List.replicate i (List.replicate N false)) (hpL 0 (bA L p rs (ga i (N-i)))),2000⟩)
  (λi=>i≤N) (λi=>N-i) (i0:=0) (Nat.zero_le _) ?_ ?_
 ·refine aQ.nfG _ _ _ (λb=>b) F0 ?_ (fq rfl rfl rfl rfl rfl (qO (by omega))) (by simp[bA]) (by simp) (by simp) (λi j _ _ h=>h) (λi j _ _ h=>by unfold F0 at h;omega) (λi j h1 h2=>by simp at h2) (λb _=>rfl) (by decide)
  simp only[List.forall_mem_cons,List.not_mem_nil,false_implies,implies_true,and_true]
  exact⟨⟨rfl,show 0<2000 by omega⟩,⟨rfl,show 1<2000 by omega⟩,⟨rfl,trivial⟩,⟨rfl,show 2<2000 by omega⟩,⟨rfl,show 4<2000 by omega⟩,⟨rfl,trivial⟩,rfl,trivial⟩
 ·intro i hi
  refine AWP.seq' ?_
  refine AWP.reg' λK hK=>?_
  try simp only[di,dm,dj,eq_self,implies_true,forall_eq_or_imp,forall_eq,Nat.reduceEqDiff,↓reduceIte,Nat.reduceAdd,Nat.reduceLeDiff,Nat.reduceSub,Nat.reduceMul,Nat.reduceLT,Int.reduceBEq,Int.reduceBNe,Int.reduceToNat,Int.reduceLT,Int.reduceLE,Int.reduceAdd,Int.reduceSub,Int.reduceMul,reduceCtorEq,bA]
  refine hK _ _ _ ?_
  clear hK K
  refine AWP.seq' ?_
  refine AWP.cond (b:=decide ((i:Int)<(N:Int))) rfl (λh=>?_) (λh=>?_)
  ·have h:i<N:=by have:=of_decide_eq_true h;omega
   refine AWP.skip ?_
   refine AWP.seq' (AWP.block (AWP.seq' ?_))
   refine AWP.reg' λK hK=>?_
   try simp only[di,dm,dj,eq_self,implies_true,forall_eq_or_imp,forall_eq,Nat.reduceEqDiff,↓reduceIte,Nat.reduceAdd,Nat.reduceLeDiff,Nat.reduceSub,Nat.reduceMul,Nat.reduceLT,Int.reduceBEq,Int.reduceBNe,Int.reduceToNat,Int.reduceLT,Int.reduceLE,Int.reduceAdd,Int.reduceSub,Int.reduceMul,reduceCtorEq]
   refine hK _ _ _ ?_
   clear hK K
   have hml:=cT
   have hg:(ga i (N-i)).getD i .unk=nilR:=by
    rw[ga,List.getD_eq_getElem?_getD,List.getElem?_append_right (by rw[cB];exact Nat.le_refl _),cB,Nat.sub_self,List.getElem?_replicate,if_pos (by omega)];rfl
   have hs1:nilR.solid=true:=rfl
   have hc1:nilR.cells=[nilR]:=rfl
   have hv1:dz nilR 0 (.vec 2096)=.vec 2096:=rfl
   refine AWP.reg' λK hK=>?_
   try simp only[di,dm,dj,eq_self,implies_true,forall_eq_or_imp,forall_eq,Nat.reduceEqDiff,↓reduceIte,Nat.reduceAdd,Nat.reduceLeDiff,Nat.reduceSub,Nat.reduceMul,Nat.reduceLT,Int.reduceBEq,Int.reduceBNe,Int.reduceToNat,Int.reduceLT,Int.reduceLE,Int.reduceAdd,Int.reduceSub,Int.reduceMul,reduceCtorEq,G4,bA,qN,Int.toNat_natCast,hg,hs1,hc1,hv1]
   refine⟨⟨by omega,by omega,by omega⟩,⟨by omega,by omega⟩,by omega,?_⟩
   refine hK _ _ _ ?_
   clear hK K
   refine(show AWP _ _ _ _ _ _ from ?_)
   have w:IntKind.i64.wrap ((i:Int)+1)=((i+1:Nat):Int):=IH (by omega) (by omega)
   refine AWP.reg' λK hK=>?_
   try simp only[di,dm,dj,eq_self,implies_true,forall_eq_or_imp,forall_eq,Nat.reduceEqDiff,↓reduceIte,Nat.reduceAdd,Nat.reduceLeDiff,Nat.reduceSub,Nat.reduceMul,Nat.reduceLT,Int.reduceBEq,Int.reduceBNe,Int.reduceToNat,Int.reduceLT,Int.reduceLE,Int.reduceAdd,Int.reduceSub,Int.reduceMul,reduceCtorEq,w]
   refine hK _ _ _ ?_
   clear hK K
   refine⟨i+1,by omega,by omega,?_⟩
   refine aQ.nfG _ _ _ (λb=>b) (F1 i 2096) ?_ (qC rfl rfl rfl rfl rfl ?_ (qO (by omega))) (by simp[bA]) (by simp;omega) ?_ (λa b _ _ h=>h) (X4 (by simp;omega) (by decide)) (λa b h1 h2 h=>by simp[bA]at h1;unfold F1 at h;split at h<;>omega) (λb _=>rfl) (by decide)
   ·simp only[List.forall_mem_cons,List.not_mem_nil,false_implies,implies_true,and_true]
    exact⟨⟨rfl,show 0<2000 by omega⟩,⟨rfl,show 1<2000 by omega⟩,⟨rfl,trivial⟩,⟨rfl,show 2<2000 by omega⟩,⟨rfl,show 4<2000 by omega⟩,⟨rfl,trivial⟩,rfl,trivial⟩
   ·rw[Hb (by omega),show N-(i+1)+1=N-i by omega]
   ·intro j r hr
    by_cases e:j=i
    ·subst e
     rw[List.getElem?_replicate,if_pos (by omega)]at hr
     cases hr
     simp only[F1,↓reduceIte,List.map_replicate]
     rfl
    ·have hj:j<i+1:=by have:=(List.getElem?_eq_some_iff.mp hr).1;simpa using this
     rw[List.getElem?_replicate,if_pos hj]at hr
     cases hr
     have:(List.replicate i (List.replicate N false))[j]?=some (List.replicate N false):=by rw[List.getElem?_replicate,if_pos (by omega)]
     rw[show F1 i 2096 j=F j by simp[F1,e,F]]
     simp only[cU,qu (show 4<1000 by omega),if_false]
     rw[if_neg (by unfold F;omega)]
     exact G_F this (by simp;omega)
  ·have h:i=N:=by have:=of_decide_eq_false h;omega
   subst h
   refine AWP.exit ?_
   refine(show aQ 1 k _ _ from ?_)
   have e:sq0 i=List.replicate i (List.replicate i false):=rfl
   rw[e]
   refine aQ.nfG _ _ _ (λb=>b) F0 ?_ (fq rfl rfl rfl rfl ?_ (d7 i (by omega))) (by simp[bA]) (by simp;omega) ?_ (λi j _ _ h=>h) (λi j _ _ h=>by unfold F0 at h;omega) (λi j h1 h2 h=>by simp[bA]at h1;unfold F0 at h;omega) (λb _=>rfl) (by decide)
   ·simp only[List.forall_mem_cons,List.not_mem_nil,false_implies,implies_true,and_true]
    exact⟨⟨rfl,show 0<2000 by omega⟩,⟨rfl,show 1<2000 by omega⟩,⟨rfl,trivial⟩,⟨rfl,show 2<2000 by omega⟩,⟨rfl,show 4<2000 by omega⟩⟩
   ·show G _ _ 4=_
    rw[G4]
    show some (Blk.vec 1 (ga i (i-i)))=_
    rw[Nat.sub_self,ga,List.replicate_zero,List.append_nil]
   ·intro j r hr
    exact G_F hr (by simp;omega)
def sI:AC:=.seq (.reg [⟨(some 11),.move (.c (.val (.int .i64 1))),none⟩])
 (.block 4 (.loop (.seq (.seq (.reg [⟨(some 52),.move (.t 11),none⟩,⟨(some 53),.move (.t 5),none⟩,⟨(some 54),.bin .lss (.t 52) (.t 53),none⟩])
 (.cond (.t 54) (.skip) (.exit 4)))
 (.seq (.block 5 (.seq (.reg [⟨(some 57),.move (.t 0),none⟩,⟨(some 58),.call (.c (.func 10 [])) [(.t 57),(.c (.val (.int .i64 12)))],none⟩,⟨(some 59),.bin .lss (.t 58) (.c (.val (.int .i64 11))),none⟩])
 (.cond (.t 59) (.reg [⟨(some 60),.move (.t 9),none⟩,⟨(some 61),.move (.t 0),none⟩,⟨(some 62),.move (.t 11),none⟩,⟨(some 63),.call (.c (.func 10 [])) [(.t 61),(.t 62)],none⟩,⟨(some 64),.iaddr 1 (.t 60) (.t 63),none⟩,⟨(some 65),.load false 1 (.t 64),none⟩,⟨(some 66),.move (.t 11),none⟩,⟨(some 67),.iaddr 1 (.t 65) (.t 66),none⟩,⟨none,.store 1 (.t 67) (.c (.val (.bool true))),none⟩]) (.skip))))
 (.reg [⟨(some 55),.move (.t 11),none⟩,⟨(some 56),.bin .add (.t 55) (.c (.val (.int .i64 1))),none⟩,⟨(some 11),.move (.t 56),none⟩])))))
theorem dL(L:List Int)(p:Nat):(Tap.v ⟨L,p⟩).pure:=⟨trivial,trivial,trivial⟩
theorem oB{n i:Nat}(h:i<n):(c7 n).getD i .unk=.vec (F i):=by rw[List.getD_eq_getElem?_getD,lB h];rfl
theorem pO{r:List Bool}{i:Nat}(h:i<r.length):∃b:Bool,(r.map AV.bool).getD i .unk=.bool b:=⟨r[i],by simp[List.getD_eq_getElem?_getD,h]⟩
theorem xi{M:List (List Bool)}{x y j:Nat}{r q:List Bool}(hx:M[x]?=some r)(h:(mset M x y)[j]?=some q):(j=x∧q=r.set y true)∨(j≠x∧M[j]?=some q):=by
 have hl:=(List.getElem?_eq_some_iff.mp hx).1
 have e:M.getD x []=r:=by rw[List.getD_eq_getElem?_getD,hx];rfl
 rw[mset,List.getElem?_set,e]at h
 by_cases hj:x=j
 ·subst hj;rw[if_pos rfl,if_pos hl]at h;cases h;exact .inl ⟨rfl,rfl⟩
 ·rw[if_neg hj]at h;exact .inr ⟨λe=>hj e.symm,h⟩
theorem Pk(L:List Int)(p:Nat)(rs:List Rtr)(n:Int)(M:List (List Bool))(hn:1≤n∧n≤100)(hM:Sq n.toNat M)(k:Nat) :
  gA Tryz.prog 1 k sI (iA L p rs n M) (iA L (lk1 L (n.toNat-1) 1 p M).2 rs n (lk1 L (n.toNat-1) 1 p M).1):=by
 obtain⟨N,rfl⟩:∃N:Nat,n=N:=⟨n.toNat,by omega⟩
 simp only[iA,Int.toNat_natCast]at hM ⊢
 unfold gA sI
 generalize hE:lk1 L (N-1) 1 p M=E
 refine AWP.seq' ?_
 refine AWP.reg' λK hK=>?_
 try simp only[di,dm,dj,eq_self,implies_true,forall_eq_or_imp,forall_eq,Nat.reduceEqDiff,↓reduceIte,Nat.reduceAdd,Nat.reduceLeDiff,Nat.reduceSub,Nat.reduceMul,Nat.reduceLT,Int.reduceBEq,Int.reduceBNe,Int.reduceToNat,Int.reduceLT,Int.reduceLE,Int.reduceAdd,Int.reduceSub,Int.reduceMul,reduceCtorEq]
 refine hK _ _ _ ?_
 clear hK K
 refine AWP.block ?_
 refine AWP.loopS (σ:=Nat×Nat×List (List Bool)) (λt=>⟨dO [(0,.ref 0 0),(4,.ref 1 0),(5,.int N),(6,.ref 2 0),(9,.vec 4),(11,.int (t.1:Nat))],G t.2.2 (hpL 0 (bA L t.2.1 rs (c7 N))),2000⟩)
  (λt=>1≤t.1∧t.1≤N∧Sq N t.2.2∧lk1 L (N-t.1) t.1 t.2.1 t.2.2=E) (λt=>N-t.1) (i0:=(1,p,M)) ⟨by omega,by omega,hM,hE⟩ ?_ ?_
 ·refine aQ.nfG _ _ _ (λb=>b) F0 ?_ (fq rfl rfl rfl rfl rfl (d7 N (by omega))) (by simp[bA]) (by rw[hM.1];omega) (λj r hr=>G_F hr (by rw[hM.1];omega)) (λi j _ _ h=>h) (λi j _ _ h=>by unfold F0 at h;omega) (λi j h1 h2 h=>by simp[bA]at h1;unfold F0 at h;omega) (λb _=>rfl) (by decide)
  simp only[List.forall_mem_cons,List.not_mem_nil,false_implies,implies_true,and_true]
  exact⟨⟨rfl,show 0<2000 by omega⟩,⟨rfl,show 1<2000 by omega⟩,⟨rfl,trivial⟩,⟨rfl,show 2<2000 by omega⟩,⟨rfl,show 4<2000 by omega⟩,rfl,trivial⟩
 rintro⟨i,p,M⟩ ⟨h1,h2,hM,hE⟩
 simp only at h1 h2 hM hE ⊢
 have hMl:M.length≤1000:=by rw[hM.1];omega
 refine AWP.seq' (AWP.seq' ?_)
 refine AWP.reg' λK hK=>?_
 try simp only[di,dm,dj,eq_self,implies_true,forall_eq_or_imp,forall_eq,Nat.reduceEqDiff,↓reduceIte,Nat.reduceAdd,Nat.reduceLeDiff,Nat.reduceSub,Nat.reduceMul,Nat.reduceLT,Int.reduceBEq,Int.reduceBNe,Int.reduceToNat,Int.reduceLT,Int.reduceLE,Int.reduceAdd,Int.reduceSub,Int.reduceMul,reduceCtorEq]
 refine hK _ _ _ ?_
 clear hK K
 refine AWP.cond (b:=decide ((i:Int)<(N:Int))) rfl (λh=>?_) (λh=>?_)
 ·have h:i<N:=by have:=of_decide_eq_true h;omega
  refine AWP.skip ?_
  refine AWP.seq' (AWP.block (AWP.seq' ?_))
  refine AWP.reg' λK hK=>?_
  try simp only[di,dm,dj,eq_self,implies_true,forall_eq_or_imp,forall_eq,Nat.reduceEqDiff,↓reduceIte,Nat.reduceAdd,Nat.reduceLeDiff,Nat.reduceSub,Nat.reduceMul,Nat.reduceLT,Int.reduceBEq,Int.reduceBNe,Int.reduceToNat,Int.reduceLT,Int.reduceLE,Int.reduceAdd,Int.reduceSub,Int.reduceMul,reduceCtorEq]
  refine kN (hs:=(N_h L p 12).ok) (N_h L p 12).fn (args:=[.int 12]) (r:=.int (Mod (al L p) 12)) (x':=Tap.v ⟨L,ag L p⟩) ⟨trivial,trivial⟩ (dL _ _) (dL _ _) trivial rfl (by rfl) (by rfl) ?_
  try simp only[di,dm,dj,eq_self,implies_true,forall_eq_or_imp,forall_eq,Nat.reduceEqDiff,↓reduceIte,Nat.reduceAdd,Nat.reduceLeDiff,Nat.reduceSub,Nat.reduceMul,Nat.reduceLT,Int.reduceBEq,Int.reduceBNe,Int.reduceToNat,Int.reduceLT,Int.reduceLE,Int.reduceAdd,Int.reduceSub,Int.reduceMul,reduceCtorEq]
  refine hK _ _ _ ?_
  clear hK K
  have w:IntKind.i64.wrap ((i:Int)+1)=((i+1:Nat):Int):=IH (by omega) (by omega)
  have hE':lk1 L (N-(i+1)+1) i p M=E:=by rw[show N-(i+1)+1=N-i by omega];exact hE
  rw[lk1]at hE'
  refine AWP.cond (b:=decide (Mod (al L p) 12<11)) rfl (λhc=>?_) (λhc=>?_)
  ·rw[if_pos (of_decide_eq_true hc)]at hE'
   have hX:=bg (x:=al L (ag L p)) (n:=(i:Int)) (by omega)
   generalize hq:Mod (al L (ag L p)) (i:Int)=X at hX hE'
   obtain⟨Y,rfl⟩:∃Y:Nat,X=Y:=⟨X.toNat,by omega⟩
   rw[Int.toNat_natCast]at hE'
   obtain⟨r,hr,hrl,-⟩:=hM.get (show Y<N by omega)
   obtain⟨b0,hb0⟩:=pO (r:=r) (i:=i) (by omega)
   refine AWP.reg' λK hK=>?_
   try simp only[di,dm,dj,eq_self,implies_true,forall_eq_or_imp,forall_eq,Nat.reduceEqDiff,↓reduceIte,Nat.reduceAdd,Nat.reduceLeDiff,Nat.reduceSub,Nat.reduceMul,Nat.reduceLT,Int.reduceBEq,Int.reduceBNe,Int.reduceToNat,Int.reduceLT,Int.reduceLE,Int.reduceAdd,Int.reduceSub,Int.reduceMul,reduceCtorEq]
   have hc2:bl Tryz.prog (N_h L (ag L p) i).f [.ref 0 0,.int i] [.box (Tap.v ⟨L,ag L p⟩)] (.int Y) [some (.box (Tap.v ⟨L,ag L (ag L p)⟩))]:=by rw[←hq];exact(N_h L (ag L p) i).ok
   refine kN (hs:=hc2) (N_h L (ag L p) i).fn (args:=[.int i]) ⟨trivial,trivial⟩ (dL _ _) (dL _ _) trivial rfl (by rfl) (by rfl) ?_
   have hgF:G M (hpL 0 (bA L p rs (c7 N))) (F Y)=some (.vec 1 (r.map AV.bool)):=G_F hr hMl
   have hso:(AV.vec (F Y)).solid=true:=rfl
   have hce:(AV.vec (F Y)).cells=[AV.vec (F Y)]:=rfl
   have hpa:eU (.vec (F Y)) 0 1 false=.vec (F Y):=rfl
   have hF0:(F Y=0)=False:=qu (by decide)
   have hF3:(F Y=4)=False:=qu (by decide)
   have hbs:(AV.bool b0).solid=true:=rfl
   have hbc:(AV.bool b0).cells=[AV.bool b0]:=rfl
   have htc:(AV.bool true).cells=[AV.bool true]:=rfl
   have hts:(AV.bool true).solid=true:=rfl
   have hsp:dz (.bool b0) 0 (.bool true)=.bool true:=rfl
   have hT4:hpL 0 (bA L p rs (c7 N)) 4=some (.vec 1 (c7 N)):=rfl
   try simp only[di,dm,dj,eq_self,implies_true,forall_eq_or_imp,forall_eq,Nat.reduceEqDiff,↓reduceIte,Nat.reduceAdd,Nat.reduceLeDiff,Nat.reduceSub,Nat.reduceMul,Nat.reduceLT,Int.reduceBEq,Int.reduceBNe,Int.reduceToNat,Int.reduceLT,Int.reduceLE,Int.reduceAdd,Int.reduceSub,Int.reduceMul,reduceCtorEq,G4,hT4,cB,Int.toNat_natCast,oB (show Y<N by omega),hso,hce,hpa,hF0,hF3,hgF,List.length_map,hb0,hbs,hbc,htc,hts,hsp,if_false]
   refine⟨⟨by omega,by omega⟩,by omega,⟨by omega,by omega⟩,by omega,?_⟩
   refine hK _ _ _ ?_
   clear hK K
   refine(show AWP _ _ _ _ _ _ from ?_)
   refine AWP.reg' λK hK=>?_
   try simp only[di,dm,dj,eq_self,implies_true,forall_eq_or_imp,forall_eq,Nat.reduceEqDiff,↓reduceIte,Nat.reduceAdd,Nat.reduceLeDiff,Nat.reduceSub,Nat.reduceMul,Nat.reduceLT,Int.reduceBEq,Int.reduceBNe,Int.reduceToNat,Int.reduceLT,Int.reduceLE,Int.reduceAdd,Int.reduceSub,Int.reduceMul,reduceCtorEq,w]
   refine hK _ _ _ ?_
   clear hK K
   refine⟨(i+1,ag L (ag L p),mset M Y i),⟨by omega,by omega,hM.set _ _,hE'⟩,by omega,?_⟩
   have hM':(mset M Y i).length≤1000:=by rw[(hM.set Y i).1];omega
   refine aQ.nfG _ _ _ (λb=>b) F0 ?_ (fq ?_ ?_ ?_ ?_ ?_ (d7 N (by omega))) (by simp[bA]) hM' ?_ (λi j _ _ h=>h) (λi j _ _ h=>by unfold F0 at h;omega) (λi j h1 h2 h=>by simp[bA]at h1;unfold F0 at h;omega) (λb _=>rfl) (by decide)
   ·simp only[List.forall_mem_cons,List.not_mem_nil,false_implies,implies_true,and_true]
    exact⟨⟨rfl,show 0<2000 by omega⟩,⟨rfl,show 1<2000 by omega⟩,⟨rfl,trivial⟩,⟨rfl,show 2<2000 by omega⟩,⟨rfl,show 4<2000 by omega⟩,rfl,trivial⟩
   ·simp only[cU,jE (show 0<1000 by omega),if_false,if_true]
   ·simp only[cU,jE (show 1<1000 by omega),if_false];rfl
   ·simp only[cU,jE (show 2<1000 by omega),if_false];rfl
   ·simp only[cU,jE (show 3<1000 by omega),if_false];rfl
   ·simp only[cU,jE (show 4<1000 by omega),if_false];rfl
   ·intro j q hj
    rw[show F0 j=F j from rfl]
    rcases xi hr hj with⟨rfl,rfl⟩|⟨hne,hj⟩
    ·simp only[cU,if_true,List.map_set]
    ·have:(F j=F Y)=False:=by unfold F;simp;omega
     simp only[cU,this,qu (show 0<1000 by omega),if_false]
     exact G_F hj hMl
  ·rw[if_neg (of_decide_eq_false hc)]at hE'
   refine AWP.skip ?_
   refine(show AWP _ _ _ _ _ _ from ?_)
   refine AWP.reg' λK hK=>?_
   try simp only[di,dm,dj,eq_self,implies_true,forall_eq_or_imp,forall_eq,Nat.reduceEqDiff,↓reduceIte,Nat.reduceAdd,Nat.reduceLeDiff,Nat.reduceSub,Nat.reduceMul,Nat.reduceLT,Int.reduceBEq,Int.reduceBNe,Int.reduceToNat,Int.reduceLT,Int.reduceLE,Int.reduceAdd,Int.reduceSub,Int.reduceMul,reduceCtorEq,w]
   refine hK _ _ _ ?_
   clear hK K
   refine⟨(i+1,ag L p,M),⟨by omega,by omega,hM,hE'⟩,by omega,?_⟩
   refine aQ.nfG _ _ _ (λb=>b) F0 ?_ (fq rfl rfl rfl rfl rfl (d7 N (by omega))) (by simp[bA]) hMl ?_ (λi j _ _ h=>h) (λi j _ _ h=>by unfold F0 at h;omega) (λi j h1 h2 h=>by simp[bA]at h1;unfold F0 at h;omega) (λb _=>rfl) (by decide)
   ·simp only[List.forall_mem_cons,List.not_mem_nil,false_implies,implies_true,and_true]
    exact⟨⟨rfl,show 0<2000 by omega⟩,⟨rfl,show 1<2000 by omega⟩,⟨rfl,trivial⟩,⟨rfl,show 2<2000 by omega⟩,⟨rfl,show 4<2000 by omega⟩,rfl,trivial⟩
   ·intro j r hr
    rw[show F0 j=F j from rfl]
    simp only[cU,qu (show 0<1000 by omega),if_false]
    exact G_F hr hMl
 ·have h:i=N:=by have:=of_decide_eq_false h;omega
  subst h
  refine AWP.exit ?_
  refine(show aQ 1 k _ _ from ?_)
  rw[Nat.sub_self,lk1]at hE
  subst hE
  refine aQ.nfG _ _ _ (λb=>b) F0 ?_ (fq rfl rfl rfl rfl rfl (d7 i (by omega))) (by simp[bA]) hMl (λj r hr=>G_F hr hMl) (λi j _ _ h=>h) (λi j _ _ h=>by unfold F0 at h;omega) (λi j h1 h2 h=>by simp[bA]at h1;unfold F0 at h;omega) (λb _=>rfl) (by decide)
  simp only[List.forall_mem_cons,List.not_mem_nil,false_implies,implies_true,and_true]
  exact⟨⟨rfl,show 0<2000 by omega⟩,⟨rfl,show 1<2000 by omega⟩,⟨rfl,trivial⟩,⟨rfl,show 2<2000 by omega⟩,⟨rfl,show 4<2000 by omega⟩⟩
def Ku(r:List Bool):AV:=.sl 1 (r.map AV.bool) false
theorem J1{L:List Int}{p:Nat}{rs:List Rtr}{M:List (List Bool)}{N:Nat}{k n nx:Nat}{tm:Nat→AV}{x:AV}(hM:Sq N M)(hN:1≤N∧N≤100)(hnx:2000≤nx)
  (t0:tm 0=.ref 0 0) (t4:tm 4=.ref 1 0) (t5:tm 5=x) (hx:x.pure) (t6:tm 6=.ref 2 0) (t9:tm 9=.vec 4) :
  aQ k n ⟨tm,G M (hpL 0 (bA L p rs (c7 N))),nx⟩
   ⟨dO [(0,.ref 0 0),(4,.ref 1 0),(5,x),(6,.ref 2 0),(9,.sl 1 (M.map Ku) false)],hpL 0 [some (.box (Tap.v ⟨L,p⟩)),some (.box (.agg [.sl 0 [] true,.sl 0 [] true])),some (.box (.agg [.vec 3,.sl 0 [] true])),some (.vec 2 (rs.map Rtr.v))],nx⟩:=by
 rintro P c a w ⟨h0,A,μ,H⟩
 have H:aI P c A μ (λb=>nx≤b) tm (G M (hpL 0 (bA L p rs (c7 N)))) n a w:=H
 have hMl:M.length≤1000:=by rw[hM.1];omega
 have same:dc A w w:=λ_ _=>rfl
 let fam:Nat→Prop:=λb=>b=4∨∃i,i<N∧b=F i
 let A':Nat→Prop:=λq=>A q∨∃b hd,fam b∧μ b=some hd∧hd.emp=none∧hd.blk=q
 have hle:∀b,A b→A' b:=λb hb=>.inl hb
 have hlive:∀b,fam b→∃x,G M (hpL 0 (bA L p rs (c7 N))) b=some x:=by
  rintro b (rfl|⟨i,hi,rfl⟩)
  ·exact⟨_,G4 _ _⟩
  ·obtain⟨r,hr,_,_⟩:=hM.get hi
   exact⟨_,G_F hr hMl⟩
 have hsub:∀b y,hpL 0 [some (.box (Tap.v ⟨L,p⟩)),some (.box (.agg [.sl 0 [] true,.sl 0 [] true])),some (.box (.agg [.vec 3,.sl 0 [] true])),some (.vec 2 (rs.map Rtr.v))] b=some y→b<4∧G M (hpL 0 (bA L p rs (c7 N))) b=some y:=by
  intro b y hy
  rcases b with _|_|_|_|b
  ·exact⟨by omega,by rw[OD (by omega)];exact hy⟩
  ·exact⟨by omega,by rw[OD (by omega)];exact hy⟩
  ·exact⟨by omega,by rw[OD (by omega)];exact hy⟩
  ·exact⟨by omega,by rw[OD (by omega)];exact hy⟩
  ·have:hpL 0 [some (.box (Tap.v ⟨L,p⟩)),some (.box (.agg [.sl 0 [] true,.sl 0 [] true])),some (.box (.agg [.vec 3,.sl 0 [] true])),some (.vec 2 (rs.map Rtr.v))] (b+4)=none:=by rw[ug];simp
   rw[this]at hy;cases hy
 have hnf:∀b,b<4→¬fam b:=by
  rintro b hb (rfl|⟨i,hi,rfl⟩)
  ·omega
  ·unfold F at hb;omega
 have row:∀i r v,M[i]?=some r→RV w A (.vec (F i)) μ v→RV w A' (Ku r) cR v:=by
  intro i r v hr hv
  have g:G M (hpL 0 (bA L p rs (c7 N))) (F i)=some (.vec 1 (r.map AV.bool)):=G_F hr hMl
  have hi:i<N:=by rw[←hM.1];exact(List.getElem?_eq_some_iff.mp hr).1
  have:=bO.vec g (jH r) P c A μ _ tm n a w v H hv
  refine RV.pure trivial (this.mono (λ_ _=>rfl) (λq hq=>?_) _ (bv.refl _))
  rcases hq with hq|⟨hd,e1,e2,e3⟩
  ·exact .inl hq
  ·exact .inr ⟨F i,hd,.inr ⟨i,hi,rfl⟩,e1,e2,e3⟩
 have out:RV w A' (.sl 1 (M.map Ku) false) cR (a.tmps.getD 9 undef):=by
  have hv:=H.tm 9
  rw[t9]at hv
  obtain⟨hd,e1,hv⟩:=hv
  obtain⟨hd',f1,f2,f3⟩:=H.vec (show G M (hpL 0 (bA L p rs (c7 N))) 4=some (.vec 1 (c7 N))from G4 _ _)
  rw[e1]at f1;cases f1
  rcases f3 with⟨f3,_⟩|⟨g1,g2,g4,g5,C,ty,vs,k1,k2,k3,k4,k5,k6,k7⟩
  ·have:=congrArg List.length f3
   rw[cB]at this;simp at this;omega
  ·rw[cB]at g2
   have hv':hd.val=.slice (some ⟨hd.blk,0,none⟩) (M.map Ku).length hd.cap:=by rw[Hd.val,g1,g2,List.length_map,hM.1]
   rw[hv,hv']
   refine .inr ⟨hd.blk,0,hd.cap,vs,rfl,.inr ⟨4,hd,.inl rfl,e1,g1,rfl⟩,by rw[List.length_map,hM.1];omega,g5,(λh=>by cases h),?_,λv hv=>⟨k4 v hv,?_⟩,λp u hu=>by rw[Nat.zero_add];exact k7 p u hu,λy hy=>?_⟩
   ·refine RVL.of_get (by rw[List.length_map,hM.1,←k2.length,cB]) λi y v hy hv=>?_
    rw[List.getElem?_map]at hy
    obtain⟨r,hr,rfl⟩:=Option.map_eq_some_iff.mp hy
    have hi:i<N:=by rw[←hM.1];exact(List.getElem?_eq_some_iff.mp hr).1
    exact row i r v hr (k2.get2 (lB hi) hv)
   ·obtain⟨i,hi⟩:=List.mem_iff_getElem?.1 hv
    have hlt:i<N:=by
     have:=(List.getElem?_eq_some_iff.1 hi).1
     rwa [←k2.length,cB]at this
    exact(RV.cells rfl (k2.get2 (lB hlt) hi)).2
   ·obtain⟨r,_,rfl⟩:=List.mem_map.mp hy;rfl
 refine⟨h0,A',μ,λt=>?_,H.n,H.df,λb y hy=>?_,λb b' y y' hd hd' hy hy'=>?_,?_,λb hb=>?_,H.keep,λb hb=>.inl (H.A0 b hb),?_,H.mu⟩
 ·show RV w A' (dO _ t) μ _
  have ht:=H.tm t
  simp only[dO]
  split
  ·rename_i e;subst e;rw[show tm 0=_ from t0]at ht;exact ht.mono same hle _ (bv.refl _)
  split
  ·rename_i e;subst e;rw[show tm 4=_ from t4]at ht;exact ht.mono same hle _ (bv.refl _)
  split
  ·rename_i e;subst e;rw[show tm 5=_ from t5]at ht;exact ht.mono same hle _ (bv.refl _)
  split
  ·rename_i e;subst e;rw[show tm 6=_ from t6]at ht;exact ht.mono same hle _ (bv.refl _)
  split
  ·rename_i e;subst e;exact out.up
  ·trivial
 ·obtain⟨g0,g1⟩:=hsub b y hy
  obtain⟨hd,e1,e2,e3⟩:=H.blk b y g1
  refine⟨hd,e1,e2.mono same hle (bv.refl _) (λ_=>rfl),λhe=>⟨?_,(e3 he).2⟩⟩
  rintro(h|⟨b2,hd2,q1,q2,q3,q4⟩)
  ·exact(e3 he).1 h
  ·obtain⟨x2,hx2⟩:=hlive b2 q1
   have:=H.inj b b2 y x2 hd hd2 g1 hx2 e1 q2 he q3 q4.symm
   exact hnf b g0 (this ▸ q1)
 ·exact H.inj b b' y y' hd hd' (hsub b y hy).2 (hsub b' y' hy').2
 ·refine H.lt.mono same hle ?_
  rintro q (h|⟨b,hd,q1,q2,q3,rfl⟩)
  ·exact H.lt q h
  ·obtain⟨x,hx⟩:=hlive b q1
   obtain⟨hd',e1,e2,e3⟩:=H.blk b x hx
   rw[q2]at e1;cases e1
   exact(e3 q3).2.1
 ·obtain⟨q1,q2⟩:=H.fr b hb
  refine⟨q1,?_⟩
  cases hy:hpL 0 [some (.box (Tap.v ⟨L,p⟩)),some (.box (.agg [.sl 0 [] true,.sl 0 [] true])),some (.box (.agg [.vec 3,.sl 0 [] true])),some (.vec 2 (rs.map Rtr.v))] b with
  | none=>exact hy
  | some y=>have:=(hsub b y hy).1;have hb:nx≤b:=hb;omega
 ·rintro q (h|⟨b,hd,q1,q2,q3,rfl⟩)
  ·exact H.A1 q h
  ·obtain⟨x,hx⟩:=hlive b q1
   obtain⟨hd',e1,e2,e3⟩:=H.blk b x hx
   rw[q2]at e1;cases e1
   exact .inr (e3 q3).2.2
def sH:AC:=.seq (.reg [⟨(some 68),.move (.t 0),none⟩,⟨(some 69),.move (.t 5),none⟩,⟨(some 70),.bin .add (.t 69) (.c (.val (.int .i64 2))),none⟩,⟨(some 71),.call (.c (.func 10 [])) [(.t 68),(.t 70)],none⟩,⟨(some 12),.move (.t 71),none⟩])
 (.block 6 (.loop (.seq (.seq (.reg [⟨(some 72),.move (.t 12),none⟩,⟨(some 73),.bin .gtr (.t 72) (.c (.val (.int .i64 0))),none⟩])
 (.cond (.t 73) (.skip) (.exit 6)))
 (.seq (.block 7 (.seq (.reg [⟨(some 76),.move (.t 0),none⟩,⟨(some 77),.move (.t 5),none⟩,⟨(some 78),.call (.c (.func 10 [])) [(.t 76),(.t 77)],none⟩,⟨(some 79),.move (.t 0),none⟩,⟨(some 80),.move (.t 5),none⟩,⟨(some 81),.call (.c (.func 10 [])) [(.t 79),(.t 80)],none⟩,⟨(some 13),.move (.t 78),none⟩,⟨(some 14),.move (.t 81),none⟩])
 (.seq (.reg [⟨(some 82),.move (.t 13),none⟩,⟨(some 83),.move (.t 14),none⟩,⟨(some 84),.bin .neq (.t 82) (.t 83),none⟩])
 (.cond (.t 84) (.reg [⟨(some 85),.move (.t 9),none⟩,⟨(some 86),.move (.t 13),none⟩,⟨(some 87),.move (.t 14),none⟩,⟨(some 88),.min [(.t 86),(.t 87)],none⟩,⟨(some 89),.iaddr 1 (.t 85) (.t 88),none⟩,⟨(some 90),.load false 1 (.t 89),none⟩,⟨(some 91),.move (.t 13),none⟩,⟨(some 92),.move (.t 14),none⟩,⟨(some 93),.max [(.t 91),(.t 92)],none⟩,⟨(some 94),.iaddr 1 (.t 90) (.t 93),none⟩,⟨none,.store 1 (.t 94) (.c (.val (.bool true))),none⟩]) (.skip)))))
 (.reg [⟨(some 74),.move (.t 12),none⟩,⟨(some 75),.bin .sub (.t 74) (.c (.val (.int .i64 1))),none⟩,⟨(some 12),.move (.t 75),none⟩])))))
def J6(L:List Int)(p:Nat)(rs:List Rtr)(n:Int)(M:List (List Bool)):S3:=
 ⟨dO [(0,.ref 0 0),(4,.ref 1 0),(5,.int n),(6,.ref 2 0),(9,.sl 1 (M.map Ku) false)],hpL 0 [some (.box (Tap.v ⟨L,p⟩)),some (.box (.agg [.sl 0 [] true,.sl 0 [] true])),some (.box (.agg [.vec 3,.sl 0 [] true])),some (.vec 2 (rs.map Rtr.v))],4⟩
def lkE(L:List Int)(n:Nat)(p:Nat)(M:List (List Bool)):List (List Bool)×Nat:=lk2 L n (Mod (al L p) (n+2)).toNat (ag L p) M
theorem LD(a b:Int):gu a b=max a b:=by unfold gu;split<;>omega
theorem L3(a b:Int):dR a b=min a b:=by unfold dR;split<;>omega
theorem Pj(L:List Int)(p:Nat)(rs:List Rtr)(n:Int)(M:List (List Bool))(hn:1≤n∧n≤100)(hM:Sq n.toNat M)(k:Nat) :
  gA Tryz.prog 1 k sH (iA L p rs n M) (J6 L (lkE L n.toNat p M).2 rs n (lkE L n.toNat p M).1):=by
 obtain⟨N,rfl⟩:∃N:Nat,n=N:=⟨n.toNat,by omega⟩
 simp only[iA,J6,Int.toNat_natCast]at hM ⊢
 unfold gA sH
 have hC:=bg (x:=al L p) (n:=(N:Int)+2) (by omega)
 have hE:lk2 L N (Mod (al L p) (N+2)).toNat (ag L p) M=lkE L N p M:=rfl
 generalize lkE L N p M=E at hE ⊢
 generalize hq:Mod (al L p) ((N:Int)+2)=X at hC hE
 obtain⟨C,rfl⟩:∃C:Nat,X=C:=⟨X.toNat,by omega⟩
 rw[Int.toNat_natCast]at hE
 have w2:IntKind.i64.wrap ((N:Int)+2)=(N:Int)+2:=II (by omega)
 refine AWP.seq' ?_
 refine AWP.reg' λK hK=>?_
 try simp only[di,dm,dj,eq_self,implies_true,forall_eq_or_imp,forall_eq,Nat.reduceEqDiff,↓reduceIte,Nat.reduceAdd,Nat.reduceLeDiff,Nat.reduceSub,Nat.reduceMul,Nat.reduceLT,Int.reduceBEq,Int.reduceBNe,Int.reduceToNat,Int.reduceLT,Int.reduceLE,Int.reduceAdd,Int.reduceSub,Int.reduceMul,reduceCtorEq,w2]
 have hc0:bl Tryz.prog (N_h L p ((N:Int)+2)).f [.ref 0 0,.int ((N:Int)+2)] [.box (Tap.v ⟨L,p⟩)] (.int C) [some (.box (Tap.v ⟨L,ag L p⟩))]:=by rw[←hq];exact(N_h L p ((N:Int)+2)).ok
 refine kN (hs:=hc0) (N_h L p ((N:Int)+2)).fn (args:=[.int ((N:Int)+2)]) ⟨trivial,trivial⟩ (dL _ _) (dL _ _) trivial rfl (by rfl) (by rfl) ?_
 try simp only[di,dm,dj,eq_self,implies_true,forall_eq_or_imp,forall_eq,Nat.reduceEqDiff,↓reduceIte,Nat.reduceAdd,Nat.reduceLeDiff,Nat.reduceSub,Nat.reduceMul,Nat.reduceLT,Int.reduceBEq,Int.reduceBNe,Int.reduceToNat,Int.reduceLT,Int.reduceLE,Int.reduceAdd,Int.reduceSub,Int.reduceMul,reduceCtorEq]
 refine hK _ _ _ ?_
 clear hK K
 refine AWP.block ?_
 refine AWP.loopS (σ:=Nat×Nat×List (List Bool)) (λt=>⟨dO [(0,.ref 0 0),(4,.ref 1 0),(5,.int N),(6,.ref 2 0),(9,.vec 4),(12,.int (t.1:Nat))],G t.2.2 (hpL 0 (bA L t.2.1 rs (c7 N))),2000⟩)
  (λt=>t.1≤N+2∧Sq N t.2.2∧lk2 L N t.1 t.2.1 t.2.2=E) (λt=>t.1) (i0:=(C,ag L p,M)) ⟨by omega,hM,hE⟩ ?_ ?_
 ·have hMl:M.length≤1000:=by rw[hM.1];omega
  refine aQ.nfG _ _ _ (λb=>b) F0 ?_ (fq rfl rfl rfl rfl rfl (d7 N (by omega))) (by simp[bA]) hMl ?_ (λi j _ _ h=>h) (λi j _ _ h=>by unfold F0 at h;omega) (λi j h1 h2 h=>by simp[bA]at h1;unfold F0 at h;omega) (λb _=>rfl) (by decide)
  ·simp only[List.forall_mem_cons,List.not_mem_nil,false_implies,implies_true,and_true]
   exact⟨⟨rfl,show 0<2000 by omega⟩,⟨rfl,show 1<2000 by omega⟩,⟨rfl,trivial⟩,⟨rfl,show 2<2000 by omega⟩,⟨rfl,show 4<2000 by omega⟩,rfl,trivial⟩
  ·intro j r hr
   rw[show F0 j=F j from rfl]
   simp only[cU,qu (show 0<1000 by omega),if_false]
   exact G_F hr hMl
 clear hM hE hq hC
 rintro⟨i,p,M⟩ ⟨h2,hM,hE⟩
 simp only at h2 hM hE ⊢
 have hMl:M.length≤1000:=by rw[hM.1];omega
 refine AWP.seq' (AWP.seq' ?_)
 refine AWP.reg' λK hK=>?_
 try simp only[di,dm,dj,eq_self,implies_true,forall_eq_or_imp,forall_eq,Nat.reduceEqDiff,↓reduceIte,Nat.reduceAdd,Nat.reduceLeDiff,Nat.reduceSub,Nat.reduceMul,Nat.reduceLT,Int.reduceBEq,Int.reduceBNe,Int.reduceToNat,Int.reduceLT,Int.reduceLE,Int.reduceAdd,Int.reduceSub,Int.reduceMul,reduceCtorEq]
 refine hK _ _ _ ?_
 clear hK K
 refine AWP.cond (b:=decide ((0:Int)<(i:Int))) rfl (λh=>?_) (λh=>?_)
 ·have h:0<i:=by have:=of_decide_eq_true h;omega
  obtain⟨i,rfl⟩:∃j,i=j+1:=⟨i-1,by omega⟩
  refine AWP.skip ?_
  refine AWP.seq' (AWP.block (AWP.seq' ?_))
  refine AWP.reg' λK hK=>?_
  try simp only[di,dm,dj,eq_self,implies_true,forall_eq_or_imp,forall_eq,Nat.reduceEqDiff,↓reduceIte,Nat.reduceAdd,Nat.reduceLeDiff,Nat.reduceSub,Nat.reduceMul,Nat.reduceLT,Int.reduceBEq,Int.reduceBNe,Int.reduceToNat,Int.reduceLT,Int.reduceLE,Int.reduceAdd,Int.reduceSub,Int.reduceMul,reduceCtorEq]
  have hX:=bg (x:=al L p) (n:=(N:Int)) (by omega)
  have hY:=bg (x:=al L (ag L p)) (n:=(N:Int)) (by omega)
  rw[lk2]at hE
  have hc1:=(N_h L p N).ok
  have hc2:=(N_h L (ag L p) N).ok
  have hc1:bl Tryz.prog (N_h L p N).f [.ref 0 0,.int N] [.box (Tap.v ⟨L,p⟩)] (.int (Mod (al L p) N)) [some (.box (Tap.v ⟨L,ag L p⟩))]:=hc1
  have hc2:bl Tryz.prog (N_h L (ag L p) N).f [.ref 0 0,.int N] [.box (Tap.v ⟨L,ag L p⟩)] (.int (Mod (al L (ag L p)) N)) [some (.box (Tap.v ⟨L,ag L (ag L p)⟩))]:=hc2
  generalize Mod (al L p) (N:Int)=X at hX hE hc1
  generalize Mod (al L (ag L p)) (N:Int)=Y at hY hE hc2
  refine kN (hs:=hc1) (N_h L p N).fn (args:=[.int N]) ⟨trivial,trivial⟩ (dL _ _) (dL _ _) trivial rfl (by rfl) (by rfl) ?_
  try simp only[di,dm,dj,eq_self,implies_true,forall_eq_or_imp,forall_eq,Nat.reduceEqDiff,↓reduceIte,Nat.reduceAdd,Nat.reduceLeDiff,Nat.reduceSub,Nat.reduceMul,Nat.reduceLT,Int.reduceBEq,Int.reduceBNe,Int.reduceToNat,Int.reduceLT,Int.reduceLE,Int.reduceAdd,Int.reduceSub,Int.reduceMul,reduceCtorEq]
  refine kN (hs:=hc2) (N_h L (ag L p) N).fn (args:=[.int N]) ⟨trivial,trivial⟩ (dL _ _) (dL _ _) trivial rfl (by rfl) (by rfl) ?_
  try simp only[di,dm,dj,eq_self,implies_true,forall_eq_or_imp,forall_eq,Nat.reduceEqDiff,↓reduceIte,Nat.reduceAdd,Nat.reduceLeDiff,Nat.reduceSub,Nat.reduceMul,Nat.reduceLT,Int.reduceBEq,Int.reduceBNe,Int.reduceToNat,Int.reduceLT,Int.reduceLE,Int.reduceAdd,Int.reduceSub,Int.reduceMul,reduceCtorEq]
  refine hK _ _ _ ?_
  clear hK K
  refine AWP.seq' ?_
  refine AWP.reg' λK hK=>?_
  try simp only[di,dm,dj,eq_self,implies_true,forall_eq_or_imp,forall_eq,Nat.reduceEqDiff,↓reduceIte,Nat.reduceAdd,Nat.reduceLeDiff,Nat.reduceSub,Nat.reduceMul,Nat.reduceLT,Int.reduceBEq,Int.reduceBNe,Int.reduceToNat,Int.reduceLT,Int.reduceLE,Int.reduceAdd,Int.reduceSub,Int.reduceMul,reduceCtorEq]
  refine hK _ _ _ ?_
  clear hK K
  have w:IntKind.i64.wrap (((i+1:Nat):Int)-1)=(i:Nat):=IH (by omega) (by omega)
  refine AWP.cond (b:=(X != Y)) rfl (λhc=>?_) (λhc=>?_)
  ·have hc:¬X=Y:=by simpa using hc
   rw[if_neg hc]at hE
   obtain⟨U,hU⟩:∃U:Nat,min X Y=U:=⟨(min X Y).toNat,by omega⟩
   obtain⟨V,hV⟩:∃V:Nat,max X Y=V:=⟨(max X Y).toNat,by omega⟩
   rw[hU,hV,Int.toNat_natCast,Int.toNat_natCast]at hE
   have hUN:U<N:=by omega
   have hVN:V<N:=by omega
   obtain⟨r,hr,hrl,-⟩:=hM.get hUN
   obtain⟨b0,hb0⟩:=pO (r:=r) (i:=V) (by omega)
   have hT4:hpL 0 (bA L p rs (c7 N)) 4=some (.vec 1 (c7 N)):=rfl
   have hgF:G M (hpL 0 (bA L p rs (c7 N))) (F U)=some (.vec 1 (r.map AV.bool)):=G_F hr hMl
   have hso:(AV.vec (F U)).solid=true:=rfl
   have hce:(AV.vec (F U)).cells=[AV.vec (F U)]:=rfl
   have hpa:eU (.vec (F U)) 0 1 false=.vec (F U):=rfl
   have hF0:(F U=0)=False:=qu (by decide)
   have hF3:(F U=4)=False:=qu (by decide)
   have hbs:(AV.bool b0).solid=true:=rfl
   have hbc:(AV.bool b0).cells=[AV.bool b0]:=rfl
   have htc:(AV.bool true).cells=[AV.bool true]:=rfl
   have hts:(AV.bool true).solid=true:=rfl
   have hsp:dz (.bool b0) 0 (.bool true)=.bool true:=rfl
   refine AWP.reg' λK hK=>?_
   try simp only[di,dm,dj,eq_self,implies_true,forall_eq_or_imp,forall_eq,Nat.reduceEqDiff,↓reduceIte,Nat.reduceAdd,Nat.reduceLeDiff,Nat.reduceSub,Nat.reduceMul,Nat.reduceLT,Int.reduceBEq,Int.reduceBNe,Int.reduceToNat,Int.reduceLT,Int.reduceLE,Int.reduceAdd,Int.reduceSub,Int.reduceMul,reduceCtorEq,gk,gQ,L3,LD,hU,hV,G4,hT4,cB,Int.toNat_natCast,oB hUN,hso,hce,hpa,hF0,hF3,hgF,List.length_map,hb0,hbs,hbc,htc,hts,hsp,if_false]
   refine⟨⟨by omega,by omega⟩,by omega,⟨by omega,by omega⟩,by omega,?_⟩
   refine hK _ _ _ ?_
   clear hK K
   refine(show AWP _ _ _ _ _ _ from ?_)
   refine AWP.reg' λK hK=>?_
   try simp only[di,dm,dj,eq_self,implies_true,forall_eq_or_imp,forall_eq,Nat.reduceEqDiff,↓reduceIte,Nat.reduceAdd,Nat.reduceLeDiff,Nat.reduceSub,Nat.reduceMul,Nat.reduceLT,Int.reduceBEq,Int.reduceBNe,Int.reduceToNat,Int.reduceLT,Int.reduceLE,Int.reduceAdd,Int.reduceSub,Int.reduceMul,reduceCtorEq,w]
   refine hK _ _ _ ?_
   clear hK K
   refine⟨(i,ag L (ag L p),mset M U V),⟨by omega,hM.set _ _,hE⟩,by omega,?_⟩
   have hM':(mset M U V).length≤1000:=by rw[(hM.set U V).1];omega
   refine aQ.nfG _ _ _ (λb=>b) F0 ?_ (fq ?_ ?_ ?_ ?_ ?_ (d7 N (by omega))) (by simp[bA]) hM' ?_ (λi j _ _ h=>h) (λi j _ _ h=>by unfold F0 at h;omega) (λi j h1 h2 h=>by simp[bA]at h1;unfold F0 at h;omega) (λb _=>rfl) (by decide)
   ·simp only[List.forall_mem_cons,List.not_mem_nil,false_implies,implies_true,and_true]
    exact⟨⟨rfl,show 0<2000 by omega⟩,⟨rfl,show 1<2000 by omega⟩,⟨rfl,trivial⟩,⟨rfl,show 2<2000 by omega⟩,⟨rfl,show 4<2000 by omega⟩,rfl,trivial⟩
   ·simp only[cU,jE (show 0<1000 by omega),if_false,if_true]
   ·simp only[cU,jE (show 1<1000 by omega),if_false];rfl
   ·simp only[cU,jE (show 2<1000 by omega),if_false];rfl
   ·simp only[cU,jE (show 3<1000 by omega),if_false];rfl
   ·simp only[cU,jE (show 4<1000 by omega),if_false];rfl
   ·intro j q hj
    rw[show F0 j=F j from rfl]
    rcases xi hr hj with⟨rfl,rfl⟩|⟨hne,hj⟩
    ·simp only[cU,if_true,List.map_set]
    ·have:(F j=F U)=False:=by unfold F;simp;omega
     simp only[cU,this,qu (show 0<1000 by omega),if_false]
     exact G_F hj hMl
  ·have hc:X=Y:=by simpa using hc
   rw[if_pos hc]at hE
   refine AWP.skip ?_
   refine(show AWP _ _ _ _ _ _ from ?_)
   refine AWP.reg' λK hK=>?_
   try simp only[di,dm,dj,eq_self,implies_true,forall_eq_or_imp,forall_eq,Nat.reduceEqDiff,↓reduceIte,Nat.reduceAdd,Nat.reduceLeDiff,Nat.reduceSub,Nat.reduceMul,Nat.reduceLT,Int.reduceBEq,Int.reduceBNe,Int.reduceToNat,Int.reduceLT,Int.reduceLE,Int.reduceAdd,Int.reduceSub,Int.reduceMul,reduceCtorEq,w]
   refine hK _ _ _ ?_
   clear hK K
   refine⟨(i,ag L (ag L p),M),⟨by omega,hM,hE⟩,by omega,?_⟩
   refine aQ.nfG _ _ _ (λb=>b) F0 ?_ (fq rfl rfl rfl rfl rfl (d7 N (by omega))) (by simp[bA]) hMl ?_ (λi j _ _ h=>h) (λi j _ _ h=>by unfold F0 at h;omega) (λi j h1 h2 h=>by simp[bA]at h1;unfold F0 at h;omega) (λb _=>rfl) (by decide)
   ·simp only[List.forall_mem_cons,List.not_mem_nil,false_implies,implies_true,and_true]
    exact⟨⟨rfl,show 0<2000 by omega⟩,⟨rfl,show 1<2000 by omega⟩,⟨rfl,trivial⟩,⟨rfl,show 2<2000 by omega⟩,⟨rfl,show 4<2000 by omega⟩,rfl,trivial⟩
   ·intro j r hr
    rw[show F0 j=F j from rfl]
    simp only[cU,qu (show 0<1000 by omega),if_false]
    exact G_F hr hMl
 ·have h:i=0:=by have:=of_decide_eq_false h;omega
  subst h
  refine AWP.exit ?_
  refine(show aQ 1 k _ _ from ?_)
  rw[lk2]at hE
  subst hE
  refine aQ.trans (J1 (x:=.int N) hM (by omega) ?_ ?_ ?_ ?_ trivial ?_ ?_) ?_
  ·exact Nat.le_of_ble_eq_true rfl
  ·rfl
  ·rfl
  ·rfl
  ·rfl
  ·rfl
  refine aQ.nf [0,1,2,3] _ _ ?_ ?_ ⟨rfl,rfl⟩ (by decide) (by decide) (by decide)
  ·repeat' (first|exact trivial|exact And.intro rfl trivial|refine And.intro ?_ ?_|rfl|exact Nat.le_of_ble_eq_true rfl|(rw[Blk.ren,bF _ (f8 rs)];rfl)|exact bN (f8 rs))
  ·repeat' (first|exact trivial|exact And.intro rfl trivial|refine And.intro ?_ ?_|rfl|exact Nat.le_of_ble_eq_true rfl|(rw[Blk.ren,bF _ (f8 rs)];rfl)|exact bN (f8 rs))
theorem mT{L:List Int}{p:Nat}{most:Int}(h:1≤most∧most≤100):1≤rng L p 1 most∧rng L p 1 most≤100:=by
 have:=iG (L:=L) (p:=p) (lo:=1) (hi:=most) (by omega)
 omega
def mE(L:List Int):Nat→Int→Nat→List Rtr→List Rtr×Nat
 | 0,id,p,rs=>(rs,p)
 | n+1,id,p,rs=>mE L n (id+au [1,1,1,2,5] (al L p)) (ag L p) (rs++[⟨id+au [1,1,1,2,5] (al L p),true⟩])
def lnkP(L:List Int)(flat:Bool)(p:Nat):Nat:=if flat then ag L p else ag L (ag L (ag L (ag L (ag L p))))
def To(L:List Int)(p:Nat):Int:=au [1,2,3,rng L p 1 20,1000] (al L (ag L p))
def lnkCb(L:List Int)(p:Nat)(ca:Int):Int:=au [ca,ca,rng L p 1 20] (al L (ag L p))
def lnk0(L:List Int)(flat:Bool)(a b:Int)(p:Nat):Lnk:=
 if flat then⟨a,b,1,1,au [0,1,2,3,5,10,1000] (al L p)⟩
 else⟨a,b,To L (ag L p),lnkCb L (ag L (ag L (ag L p))) (To L (ag L p)),au [0,1,2,3,5,10,1000] (al L p)⟩
def HD(rs:List Rtr)(i:Nat):Int:=(rs.getD i ⟨0,false⟩).id
def tP(L:List Int)(rs:List Rtr)(flat:Bool)(a:Nat):List Bool→Nat→List Lnk→Nat→List Lnk×Nat
 | [],b,ls,p=>(ls,p)
 | t::r,b,ls,p=>if t then tP L rs flat a r (b+1) (ls++[lnk0 L flat (HD rs a) (HD rs b) p]) (lnkP L flat p)else tP L rs flat a r (b+1) ls p
def xz(L:List Int)(rs:List Rtr)(flat:Bool):List (List Bool)→Nat→List Lnk→Nat→List Lnk×Nat
 | [],a,ls,p=>(ls,p)
 | r::M,a,ls,p=>xz L rs flat M (a+1) (tP L rs flat a r 0 ls p).1 (tP L rs flat a r 0 ls p).2
def ef(L:List Int)(n p:Nat):List (List Bool)×Nat:=lkE L n (lk1 L (n-1) 1 p (sq0 n)).2 (lk1 L (n-1) 1 p (sq0 n)).1
def cr(L:List Int)(p:Nat)(most:Int):List Rtr×Nat:=mE L (rng L p 1 most).toNat 0 (ag L p) []
def bu(L:List Int)(p:Nat)(most:Int):Tpl×Nat:=
 let r:=cr L p most;let m:=ef L (rng L p 1 most).toNat r.2
 let k:=xz L r.1 (Mod (al L m.2) 3==0) m.1 0 [] (ag L m.2)
 (⟨r.1,k.1⟩,k.2)
theorem oe{L:List Int}:∀{n:Nat} {id:Int} {p:Nat} {rs:List Rtr},(mE L n id p rs).1.length=rs.length+n
 | 0,_,_,_=>by simp[mE]
 | n+1,id,p,rs=>by rw[mE,oe];simp;omega
theorem J5(L:List Int)(n p:Nat):Sq n (ef L n p).1:=Bt (tQ (Aj n))
theorem Tk{L:List Int}{p:Nat}:1≤au [1,1,1,2,5] (al L p)∧au [1,1,1,2,5] (al L p)≤5:=by
 have:=gG (l:=[1,1,1,2,5]) (by simp) (al L p)
 simp at this;omega
def DO(L:List Int)(p:Nat)(most:Int)(hm:1≤most∧most≤100):=okL [.ref 0 0,.int most]∧(.box (.agg [.sl 1 (L.map AV.int) false,.int p]):Blk).ok
abbrev aG(L:List Int)(p:Nat)(most:Int):=(sq0 ((rng L p 1 most)).toNat)
def J4(L:List Int)(p:Nat)(most:Int)(t0:Int×Int×Nat×List Rtr):NF:=⟨[(0,.k,.ref 0 0),(4,.k,.ref 1 0),(5,.k,.int (rng L p 1 most)),(6,.k,.ref 2 0),(7,.k,.int t0.1),(8,.k,.int t0.2.1)],[.box (.agg [.sl 1 (L.map AV.int) false,.int t0.2.2.1]),.box (.agg [.sl 0 [] true,.sl 0 [] true]),.box (.agg [.vec 3,.sl 0 [] true]),.vec 2 (t0.2.2.2.map Rtr.v) (ab (λ_=>rfl) t0.2.2.2)]⟩
def J3(L:List Int)(p:Nat)(most:Int)(t0:Int×Int×Nat×List Rtr)(t1:Int×Nat×List Lnk):NF:=⟨[(0,.k,.ref 0 0),(4,.k,.ref 1 0),(6,.k,.ref 2 0),(9,.k,.sl 1 (((lkE L ((rng L p 1 most)).toNat ((lk1 L (((rng L p 1 most)).toNat-1) 1 t0.2.2.1 (aG L p most)).2) (lk1 L (((rng L p 1 most)).toNat-1) 1 t0.2.2.1 (aG L p most)).1).1).map (λl=>AV.sl 1 (l.map AV.bool) false)) false),(15,.k,.bool ((Mod (al L (lkE L ((rng L p 1 most)).toNat ((lk1 L (((rng L p 1 most)).toNat-1) 1 t0.2.2.1 (aG L p most)).2) (lk1 L (((rng L p 1 most)).toNat-1) 1 t0.2.2.1 (aG L p most)).1).2) 3)==0)),(99,.k,.int ((((lkE L ((rng L p 1 most)).toNat ((lk1 L (((rng L p 1 most)).toNat-1) 1 t0.2.2.1 (aG L p most)).2) (lk1 L (((rng L p 1 most)).toNat-1) 1 t0.2.2.1 (aG L p most)).1).1).map (λl=>AV.sl 1 (l.map AV.bool) false)).length:Int)),(100,.k,.int t1.1)],[.box (.agg [.sl 1 (L.map AV.int) false,.int t1.2.1]),.box (.agg [.sl 0 [] true,.sl 0 [] true]),.box (.agg [.vec 3,.vec 4]),.vec 2 (t0.2.2.2.map Rtr.v) (ab (λ_=>rfl) t0.2.2.2),.vec 5 (t1.2.2.map Lnk.v) (ab (λ_=>rfl) t1.2.2)]⟩
def J2(L:List Int)(p:Nat)(most:Int)(t0:Int×Int×Nat×List Rtr)(t1:Int×Nat×List Lnk)(t2:Int×List Lnk×Nat):NF:=⟨[(0,.k,.ref 0 0),(4,.k,.ref 1 0),(6,.k,.ref 2 0),(9,.k,.sl 1 (((lkE L ((rng L p 1 most)).toNat ((lk1 L (((rng L p 1 most)).toNat-1) 1 t0.2.2.1 (aG L p most)).2) (lk1 L (((rng L p 1 most)).toNat-1) 1 t0.2.2.1 (aG L p most)).1).1).map (λl=>AV.sl 1 (l.map AV.bool) false)) false),(15,.k,.bool ((Mod (al L (lkE L ((rng L p 1 most)).toNat ((lk1 L (((rng L p 1 most)).toNat-1) 1 t0.2.2.1 (aG L p most)).2) (lk1 L (((rng L p 1 most)).toNat-1) 1 t0.2.2.1 (aG L p most)).1).2) 3)==0)),(16,.k,.int t1.1),(99,.k,.int ((((lkE L ((rng L p 1 most)).toNat ((lk1 L (((rng L p 1 most)).toNat-1) 1 t0.2.2.1 (aG L p most)).2) (lk1 L (((rng L p 1 most)).toNat-1) 1 t0.2.2.1 (aG L p most)).1).1).map (λl=>AV.sl 1 (l.map AV.bool) false)).length:Int)),(100,.k,.int t1.1),(104,.k,.int ((((lkE L ((rng L p 1 most)).toNat ((lk1 L (((rng L p 1 most)).toNat-1) 1 t0.2.2.1 (aG L p most)).2) (lk1 L (((rng L p 1 most)).toNat-1) 1 t0.2.2.1 (aG L p most)).1).1).map (λl=>AV.sl 1 (l.map AV.bool) false)).length:Int)),(105,.k,.int t2.1)],[.box (.agg [.sl 1 (L.map AV.int) false,.int t2.2.2]),.box (.agg [.sl 0 [] true,.sl 0 [] true]),.box (.agg [.vec 3,.vec 4]),.vec 2 (t0.2.2.2.map Rtr.v) (ab (λ_=>rfl) t0.2.2.2),.vec 5 (t2.2.1.map Lnk.v) (ab (λ_=>rfl) t2.2.1)]⟩
@[reducible] def DN:Nat→Type
 | 0=>Int×Int×Nat×List Rtr
 | 1=>Int×Nat×List Lnk
 | 2=>Int×List Lnk×Nat
 | _=>Unit
def mP(r:Tap×Tpl):AV:=.agg [.sl 2 (r.2.rs.map Rtr.v) false,.sl 5 (r.2.ls.map Lnk.v) false]
def mQ(r:Tap×Tpl):List (Option Blk):=[some (.box (.agg [.sl 1 (r.1.L.map AV.int) false,.int r.1.p]))]
def sK(L:List Int)(p:Nat)(most:Int)(hm:1≤most∧most≤100)(I0:(Int×Int×Nat×List Rtr)→Prop)(m0:(Int×Int×Nat×List Rtr)→Nat)(I1:Int×Int×Nat×List Rtr→(Int×Nat×List Lnk)→Prop)(m1:Int×Int×Nat×List Rtr→(Int×Nat×List Lnk)→Nat)(I2:Int×Int×Nat×List Rtr→Int×Nat×List Lnk→(Int×List Lnk×Nat)→Prop)(m2:Int×Int×Nat×List Rtr→Int×Nat×List Lnk→(Int×List Lnk×Nat)→Nat):Ax Tryz.prog DN (Tap×Tpl):=
 (.callH [0] (da L p 1 most) 49
(.cmdL (.nilB 81 0 2) (.loop 0 (J4 L p most) I0 m0 (0,0,ag L p,[]) [0,1,81,129] λ(t0:Int×Int×Nat×List Rtr) b0 =>
(.br 52 (decide (t0.2.1<(rng L p 1 most))) (.req 100 ([1,1,1,2,5]≠[]) λh1 =>
(.callH [0] (dH L t0.2.2.1 [1,1,1,2,5] h1) 100
(.say (λR=>Rf (α:=List AV) (t0.2.2.2.map Rtr.v) (Rf (α:=List AV) [.agg [.int (W (t0.1+(au [1,1,1,2,5] (al L t0.2.2.1)))),.bool true]]
(ck (decide (t0.2.2.2.length+1≤1048576))
R))) (.app 228 Rtr.v t0.2.2.2 [(⟨W (t0.1+(au [1,1,1,2,5] (al L t0.2.2.1))),true⟩:Rtr)]
(.bk 0 b0 (W (t0.1+(au [1,1,1,2,5] (al L t0.2.2.1))),W (t0.2.1+1),ag L t0.2.2.1,t0.2.2.2++[(⟨W (t0.1+(au [1,1,1,2,5] (al L t0.2.2.1))),true⟩:Rtr)]) [0,1,2,228])))))
(.say (λR=>Rf (AV.sl 0 [] true) (ck (cond (decide (0≤(rng L p 1 most))) (cond (decide ((rng L p 1 most)≤(rng L p 1 most))) (decide ((rng L p 1 most)≤1048576)) false) false)
R)) (.rep 68 (λy:AV=>y) (.sl 0 [] true)
(.say (λR=>X1 (.s 1) (λl=>AV.sl 1 (l.map AV.bool) false) ((rng L p 1 most).toNat) (.sl 0 [] true) [] ∧
R) (.hand 1 [.wkV 68 (.s 1) (λl=>AV.sl 1 (l.map AV.bool) false) (List.replicate ((rng L p 1 most).toNat) [])] (DM L t0.2.2.1 t0.2.2.2 (rng L p 1 most)) [0,1,2,3,68] (iA L t0.2.2.1 t0.2.2.2 (rng L p 1 most) (aG L p most)) sJ (Pl L t0.2.2.1 t0.2.2.2 (rng L p 1 most) (mT hm))
(.hand2 1 (iA L t0.2.2.1 t0.2.2.2 (rng L p 1 most) (aG L p most)) (iA L (lk1 L (((rng L p 1 most)).toNat-1) 1 t0.2.2.1 (aG L p most)).2 t0.2.2.2 (rng L p 1 most) (lk1 L (((rng L p 1 most)).toNat-1) 1 t0.2.2.1 (aG L p most)).1) sI (Pk L t0.2.2.1 t0.2.2.2 (rng L p 1 most) (aG L p most) (mT hm) (Aj _))
(.hand2 1 (iA L ((lk1 L (((rng L p 1 most)).toNat-1) 1 t0.2.2.1 (aG L p most)).2) t0.2.2.2 (rng L p 1 most) (lk1 L (((rng L p 1 most)).toNat-1) 1 t0.2.2.1 (aG L p most)).1) (J6 L (lkE L ((rng L p 1 most)).toNat ((lk1 L (((rng L p 1 most)).toNat-1) 1 t0.2.2.1 (aG L p most)).2) (lk1 L (((rng L p 1 most)).toNat-1) 1 t0.2.2.1 (aG L p most)).1).2 t0.2.2.2 (rng L p 1 most) (lkE L ((rng L p 1 most)).toNat ((lk1 L (((rng L p 1 most)).toNat-1) 1 t0.2.2.1 (aG L p most)).2) (lk1 L (((rng L p 1 most)).toNat-1) 1 t0.2.2.1 (aG L p most)).1).1) sH (Pj L ((lk1 L (((rng L p 1 most)).toNat-1) 1 t0.2.2.1 (aG L p most)).2) t0.2.2.2 (rng L p 1 most) (lk1 L (((rng L p 1 most)).toNat-1) 1 t0.2.2.1 (aG L p most)).1 (mT hm) (tQ (Aj _)))
(.callH [0] (N_h L (lkE L ((rng L p 1 most)).toNat ((lk1 L (((rng L p 1 most)).toNat-1) 1 t0.2.2.1 (aG L p most)).2) (lk1 L (((rng L p 1 most)).toNat-1) 1 t0.2.2.1 (aG L p most)).1).2 3) 20
(.cmdL (.nilB 2 1 5) (.loop 1 (J3 L p most t0) (I1 t0) (m1 t0) (0,ag L (lkE L ((rng L p 1 most)).toNat ((lk1 L (((rng L p 1 most)).toNat-1) 1 t0.2.2.1 (aG L p most)).2) (lk1 L (((rng L p 1 most)).toNat-1) 1 t0.2.2.1 (aG L p most)).1).2,[]) [0,1,2,3,116] λ(t1:Int×Nat×List Lnk) b1 =>
(.br 21 (decide (t1.1<((((lkE L ((rng L p 1 most)).toNat ((lk1 L (((rng L p 1 most)).toNat-1) 1 t0.2.2.1 (aG L p most)).2) (lk1 L (((rng L p 1 most)).toNat-1) 1 t0.2.2.1 (aG L p most)).1).1).map (λl=>AV.sl 1 (l.map AV.bool) false)).length:Int))) (.loop 2 (J2 L p most t0 t1) (I2 t0 t1) (m2 t0 t1) (0,t1.2.2,t1.2.1) [0,1,2,3,4] λ(t2:Int×List Lnk×Nat) b2 =>
(.br 21 (decide (t2.1<((((lkE L ((rng L p 1 most)).toNat ((lk1 L (((rng L p 1 most)).toNat-1) 1 t0.2.2.1 (aG L p most)).2) (lk1 L (((rng L p 1 most)).toNat-1) 1 t0.2.2.1 (aG L p most)).1).1).map (λl=>AV.sl 1 (l.map AV.bool) false)).length:Int))) (.el 85 (λl=>AV.sl 1 (l.map AV.bool) false) ((lkE L ((rng L p 1 most)).toNat ((lk1 L (((rng L p 1 most)).toNat-1) 1 t0.2.2.1 (aG L p most)).2) (lk1 L (((rng L p 1 most)).toNat-1) 1 t0.2.2.1 (aG L p most)).1).1) (λR=>Rf (((lkE L ((rng L p 1 most)).toNat ((lk1 L (((rng L p 1 most)).toNat-1) 1 t0.2.2.1 (aG L p most)).2) (lk1 L (((rng L p 1 most)).toNat-1) 1 t0.2.2.1 (aG L p most)).1).1).map (λl=>AV.sl 1 (l.map AV.bool) false)) (ck (decide (0≤t1.1)) (ck (decide (t1.1<(((lkE L ((rng L p 1 most)).toNat ((lk1 L (((rng L p 1 most)).toNat-1) 1 t0.2.2.1 (aG L p most)).2) (lk1 L (((rng L p 1 most)).toNat-1) 1 t0.2.2.1 (aG L p most)).1).1).length:Int)))
(∀x2,((lkE L ((rng L p 1 most)).toNat ((lk1 L (((rng L p 1 most)).toNat-1) 1 t0.2.2.1 (aG L p most)).2) (lk1 L (((rng L p 1 most)).toNat-1) 1 t0.2.2.1 (aG L p most)).1).1)[t1.1.toNat]?=some x2 →
(R x2))))) λx2 =>
(.el 133 AV.bool x2 (λR=>Rf (x2.map AV.bool) (ck (decide (0≤t2.1)) (ck (decide (t2.1<(x2.length:Int)))
(∀x3,x2[t2.1.toNat]?=some x3 →
(R x3))))) λx3 =>
(.br 181 (!x3) (.bk 2 b2 (W (t2.1+1),t2.2.1,t2.2.2) [0,1,2,3,4])
(.say (ck (cond (decide (0≤t1.1)) (decide (t1.1<((t0.2.2.2.map Rtr.v).length:Int))) false)) (.el 261 Rtr.v t0.2.2.2 (λR=>Rf (t0.2.2.2.map Rtr.v) (ck (decide (t1.1.toNat<t0.2.2.2.length))
(∀x4,t0.2.2.2[t1.1.toNat]?=some x4 →
(R x4)))) λx4 =>
(.say (ck (cond (decide (0≤t2.1)) (decide (t2.1<((t0.2.2.2.map Rtr.v).length:Int))) false)) (.el 357 Rtr.v t0.2.2.2 (λR=>Rf (t0.2.2.2.map Rtr.v) (ck (decide (t2.1.toNat<t0.2.2.2.length))
(∀x5,t0.2.2.2[t2.1.toNat]?=some x5 →
(R x5)))) λx5 =>
(.req 405 ([0,1,2,3,5,10,1000]≠[]) λh6 =>
(.callH [0] (dH L t2.2.2 [0,1,2,3,5,10,1000] h6) 405
(.br 501 (!((Mod (al L (lkE L ((rng L p 1 most)).toNat ((lk1 L (((rng L p 1 most)).toNat-1) 1 t0.2.2.1 (aG L p most)).2) (lk1 L (((rng L p 1 most)).toNat-1) 1 t0.2.2.1 (aG L p most)).1).2) 3)==0)) (.callH [0] (da L (ag L t2.2.2) 1 20) 533
(.req 565 ([1,2,3,rng L (ag L t2.2.2) 1 20,1000]≠[]) λh7 =>
(.callH [0] (dH L (ag L (ag L t2.2.2)) [1,2,3,rng L (ag L t2.2.2) 1 20,1000] h7) 565
(.callH [0] (da L (ag L (ag L (ag L t2.2.2))) 1 20) 709
(.req 741 ([au [1,2,3,rng L (ag L t2.2.2) 1 20,1000] (al L (ag L (ag L t2.2.2))),au [1,2,3,rng L (ag L t2.2.2) 1 20,1000] (al L (ag L (ag L t2.2.2))),rng L (ag L (ag L (ag L t2.2.2))) 1 20]≠[]) λh8 =>
(.callH [0] (dH L (ag L (ag L (ag L (ag L t2.2.2)))) [au [1,2,3,rng L (ag L t2.2.2) 1 20,1000] (al L (ag L (ag L t2.2.2))),au [1,2,3,rng L (ag L t2.2.2) 1 20,1000] (al L (ag L (ag L t2.2.2))),rng L (ag L (ag L (ag L t2.2.2))) 1 20] h8) 741
(.say (λR=>Rf (α:=List AV) (t2.2.1.map Lnk.v) (Rf (α:=List AV) [.agg [.int x4.id,.int x5.id,.int (au [1,2,3,rng L (ag L t2.2.2) 1 20,1000] (al L (ag L (ag L t2.2.2)))),.int (au [au [1,2,3,rng L (ag L t2.2.2) 1 20,1000] (al L (ag L (ag L t2.2.2))),au [1,2,3,rng L (ag L t2.2.2) 1 20,1000] (al L (ag L (ag L t2.2.2))),rng L (ag L (ag L (ag L t2.2.2))) 1 20] (al L (ag L (ag L (ag L (ag L t2.2.2)))))),.int (au [0,1,2,3,5,10,1000] (al L t2.2.2))]]
(ck (decide (t2.2.1.length+1≤1048576))
R))) (.app 853 Lnk.v t2.2.1 [(⟨x4.id,x5.id,au [1,2,3,rng L (ag L t2.2.2) 1 20,1000] (al L (ag L (ag L t2.2.2))),au [au [1,2,3,rng L (ag L t2.2.2) 1 20,1000] (al L (ag L (ag L t2.2.2))),au [1,2,3,rng L (ag L t2.2.2) 1 20,1000] (al L (ag L (ag L t2.2.2))),rng L (ag L (ag L (ag L t2.2.2))) 1 20] (al L (ag L (ag L (ag L (ag L t2.2.2))))),au [0,1,2,3,5,10,1000] (al L t2.2.2)⟩:Lnk)]
(.bk 2 b2 (W (t2.1+1),t2.2.1++[(⟨x4.id,x5.id,au [1,2,3,rng L (ag L t2.2.2) 1 20,1000] (al L (ag L (ag L t2.2.2))),au [au [1,2,3,rng L (ag L t2.2.2) 1 20,1000] (al L (ag L (ag L t2.2.2))),au [1,2,3,rng L (ag L t2.2.2) 1 20,1000] (al L (ag L (ag L t2.2.2))),rng L (ag L (ag L (ag L t2.2.2))) 1 20] (al L (ag L (ag L (ag L (ag L t2.2.2))))),au [0,1,2,3,5,10,1000] (al L t2.2.2)⟩:Lnk)],ag L (ag L (ag L (ag L (ag L t2.2.2))))) [0,1,2,3,853])))))))))
(.say (λR=>Rf (α:=List AV) (t2.2.1.map Lnk.v) (Rf (α:=List AV) [.agg [.int x4.id,.int x5.id,.int 1,.int 1,.int (au [0,1,2,3,5,10,1000] (al L t2.2.2))]]
(ck (decide (t2.2.1.length+1≤1048576))
R))) (.app 565 Lnk.v t2.2.1 [(⟨x4.id,x5.id,1,1,au [0,1,2,3,5,10,1000] (al L t2.2.2)⟩:Lnk)]
(.bk 2 b2 (W (t2.1+1),t2.2.1++[(⟨x4.id,x5.id,1,1,au [0,1,2,3,5,10,1000] (al L t2.2.2)⟩:Lnk)],ag L t2.2.2) [0,1,2,3,565])))))))))))))
(.bk 1 b1 (W (t1.1+1),t2.2.2,t2.2.1) [0,1,2,3,4])))
(.say (Rf (t1.2.2.map Lnk.v)) (.cmdL (.frzE 4 (t1.2.2.map Lnk.v) (ab (λ_=>rfl) t1.2.2)) (.say (Rf (t0.2.2.2.map Rtr.v)) (.cmdL (.frzE 3 (t0.2.2.2.map Rtr.v) (ab (λ_=>rfl) t0.2.2.2)) (.retH ((⟨L,t1.2.1⟩:Tap),(⟨t0.2.2.2,t1.2.2⟩:Tpl)) ⟨[(4,.k,.ref 1 0)],[.box (.agg [.sl 1 (L.map AV.int) false,.int t1.2.1]),.box (.agg [.sl 2 (t0.2.2.2.map Rtr.v) false,.sl 5 (t1.2.2.map Lnk.v) false])]⟩ [0,1])))))))))))))))))))
def wb(L:List Int)(p:Nat)(most:Int)(hm:1≤most∧most≤100)(I0:(Int×Int×Nat×List Rtr)→Prop)(m0:(Int×Int×Nat×List Rtr)→Nat)(I1:Int×Int×Nat×List Rtr→(Int×Nat×List Lnk)→Prop)(m1:Int×Int×Nat×List Rtr→(Int×Nat×List Lnk)→Nat)(I2:Int×Int×Nat×List Rtr→Int×Nat×List Lnk→(Int×List Lnk×Nat)→Prop)(m2:Int×Int×Nat×List Rtr→Int×Nat×List Lnk→(Int×List Lnk×Nat)→Nat)(r0:Tap×Tpl):=(sK L p most hm I0 m0 I1 m1 I2 m2).vc mP mQ r0
theorem Pm(L:List Int)(p:Nat)(most:Int)(hm:1≤most∧most≤100)(ok:DO L p most hm):∃I0 m0 I1 m1 I2 m2,wb L p most hm I0 m0 I1 m1 I2 m2 ((⟨L,(bu L p most).2⟩:Tap),(bu L p most).1):=by
 have hr:=mT (L:=L) (p:=p) hm
 have hlen:(cr L p most).1.length=(rng L p 1 most).toNat:=by unfold cr;rw[oe];simp
 have hn100:(rng L p 1 most).toNat≤100:=by omega
 refine⟨λt=>∃k:Nat,t.2.1=k∧k≤(rng L p 1 most).toNat∧t.2.2.2.length=k∧0≤t.1∧t.1≤5 * k∧mE L ((rng L p 1 most).toNat-k) t.1 t.2.2.1 t.2.2.2=cr L p most,λt=>(rng L p 1 most).toNat-t.2.1.toNat,
  λt0 t=>∃k:Nat,t.1=k∧k≤(rng L p 1 most).toNat∧t.2.2.length≤k * 100∧xz L (cr L p most).1 (Mod (al L (ef L (rng L p 1 most).toNat (cr L p most).2).2) 3==0) ((ef L (rng L p 1 most).toNat (cr L p most).2).1.drop k) k t.2.2 t.2.1
    = xz L (cr L p most).1 (Mod (al L (ef L (rng L p 1 most).toNat (cr L p most).2).2) 3==0) (ef L (rng L p 1 most).toNat (cr L p most).2).1 0 [] (ag L (ef L (rng L p 1 most).toNat (cr L p most).2).2),
  λ_ t=>(rng L p 1 most).toNat-t.1.toNat,
  λ_ a t=>∃k:Nat,t.1=k∧k≤(rng L p 1 most).toNat∧t.2.1.length≤a.2.2.length+k∧tP L (cr L p most).1 (Mod (al L (ef L (rng L p 1 most).toNat (cr L p most).2).2) 3==0) a.1.toNat (((ef L (rng L p 1 most).toNat (cr L p most).2).1.getD a.1.toNat []).drop k) k t.2.1 t.2.2
    = tP L (cr L p most).1 (Mod (al L (ef L (rng L p 1 most).toNat (cr L p most).2).2) 3==0) a.1.toNat ((ef L (rng L p 1 most).toNat (cr L p most).2).1.getD a.1.toNat []) 0 a.2.2 a.2.1,
  λ_ _ t=>(rng L p 1 most).toNat-t.1.toNat,?_⟩
 dsimp only[wb,sK,DN,aG,Ax.vp,Ax.vc];simp only[vcU,rfU,List.length_map]
 have hE:bu L p most=(⟨(cr L p most).1,(xz L (cr L p most).1 (Mod (al L (ef L (rng L p 1 most).toNat (cr L p most).2).2) 3==0) (ef L (rng L p 1 most).toNat (cr L p most).2).1 0 [] (ag L (ef L (rng L p 1 most).toNat (cr L p most).2).2)).1⟩,
  (xz L (cr L p most).1 (Mod (al L (ef L (rng L p 1 most).toNat (cr L p most).2).2) 3==0) (ef L (rng L p 1 most).toNat (cr L p most).2).1 0 [] (ag L (ef L (rng L p 1 most).toNat (cr L p most).2).2)).2):=rfl
 rw[hE]
 have hR0:mE L (rng L p 1 most).toNat 0 (ag L p) []=cr L p most:=rfl
 generalize rng L p 1 most=n at *
 generalize cr L p most=R at *
 obtain⟨N,rfl⟩:∃N:Nat,n=N:=⟨n.toNat,by omega⟩
 simp only[Int.toNat_natCast]at *
 refine⟨⟨0,rfl,by omega,rfl,by omega,by omega,hR0⟩,?_⟩
 rintro⟨id,i,q,rs⟩ ⟨k,hi,hk,hl,h0,h5,hr'⟩
 simp only at hi hl h0 h5 hr' ⊢
 subst hi
 have hp5:=Tk (L:=L) (p:=q)
 refine⟨λc=>?_,λc=>?_⟩
 ·have c:k<N:=by omega
  have w1:W (id+au [1,1,1,2,5] (al L q))=id+au [1,1,1,2,5] (al L q):=bB (by omega)
  rw[w1,av (n:=N) (by omega) (by omega)]
  refine⟨by simp,by omega,⟨k+1,rfl,by omega,by simp[hl],by omega,by omega,?_⟩,by omega⟩
  rw[←hr',show N-k=N-(k+1)+1 by omega,mE]
 ·have hkN:k=N:=by omega
  subst hkN
  rw[Nat.sub_self,mE]at hr'
  subst hr'
  simp only at *
  have hM:=J5 L k q
  have e2:lkE L k (lk1 L (k-1) 1 q (sq0 k)).2 (lk1 L (k-1) 1 q (sq0 k)).1=ef L k q:=rfl
  rw[e2]
  generalize ef L k q=T at *
  obtain⟨M,m⟩:=T
  simp only at hM ⊢
  refine⟨by simp;omega,RD rfl,⟨0,rfl,by omega,by simp,rfl⟩,?_⟩
  rintro⟨a,pa,ls⟩ ⟨x,ha,hx,hls,hq⟩
  simp only at ha hls hq ⊢
  subst ha
  simp only[Int.toNat_natCast]
  refine⟨λc2=>⟨⟨0,rfl,by omega,by simp,rfl⟩,?_⟩,λc2=>?_⟩
  ·have hxk:x<k:=by rw[hM.1]at c2;omega
   obtain⟨row,g1,g2,g3⟩:=hM.get hxk
   rw[g3]
   rintro⟨b,ls2,p2⟩ ⟨y,hb,hy,hls2,hq2⟩
   simp only at hb hls2 hq2 ⊢
   subst hb
   simp only[Int.toNat_natCast]
   refine⟨λc3=>?_,λc3=>?_⟩
   ·have hyk:y<k:=by rw[hM.1]at c3;omega
    have hy':y<row.length:=by omega
    have hd:row.drop y=row[y]::row.drop (y+1):=List.drop_eq_getElem_cons hy'
    refine⟨by omega,by rw[hM.1];omega,λx2 e=>?_⟩
    rw[g1]at e;cases e
    refine⟨by omega,by omega,λx3 e3=>?_⟩
    obtain⟨-,rfl⟩:=List.getElem?_eq_some_iff.mp e3
    rw[hd]at hq2
    rw[av (n:=k) (by omega) (by omega)]
    refine⟨λd=>?_,λd=>?_⟩
    ·have d:row[y]=false:=by simpa using d
     rw[d,tP,if_neg (by simp)]at hq2
     exact⟨⟨y+1,rfl,by omega,by omega,hq2⟩,by omega⟩
    ·have d:row[y]=true:=by simpa using d
     rw[d,tP,if_pos rfl]at hq2
     refine⟨by simp;omega,by omega,λx4 e4=>⟨by simp;omega,by omega,λx5 e5=>?_⟩⟩
     have i4:HD rs x=x4.id:=by rw[HD,List.getD_eq_getElem?_getD,e4];rfl
     have i5:HD rs y=x5.id:=by rw[HD,List.getD_eq_getElem?_getD,e5];rfl
     rw[i4,i5]at hq2
     refine⟨by simp,λf=>?_,λf=>?_⟩
     ·have f:(Mod (al L m) 3==0)=false:=by simpa using f
      rw[f]at hq2 ⊢
      refine⟨by simp,by simp,by omega,⟨y+1,rfl,by omega,by simp;omega,?_⟩,by omega⟩
      exact hq2
     ·have f:(Mod (al L m) 3==0)=true:=by simpa using f
      rw[f]at hq2 ⊢
      refine⟨by omega,⟨y+1,rfl,by omega,by simp;omega,?_⟩,by omega⟩
      exact hq2
   ·have hyk:y=k:=by rw[hM.1]at c3;omega
    subst hyk
    rw[List.drop_of_length_le (by omega),tP]at hq2
    rw[av (n:=y) (by omega) (by omega)]
    refine⟨⟨x+1,rfl,by omega,by omega,?_⟩,by omega⟩
    have hd:M.drop x=row::M.drop (x+1):=by
     obtain⟨h1,h2⟩:=List.getElem?_eq_some_iff.mp g1
     rw[List.drop_eq_getElem_cons h1,h2]
    rw[hd,xz,←hq2]at hq
    exact hq
  ·have hxk:x=k:=by rw[hM.1]at c2;omega
   subst hxk
   rw[List.drop_of_length_le (by rw[hM.1];omega),xz]at hq
   rw[←hq]
def Pn(L:List Int)(p:Nat)(most:Int)(hm:1≤most∧most≤100):HC Tryz.prog:=⟨34,[.k,.k],[.ref 0 0,.int most],[.box (.agg [.sl 1 (L.map AV.int) false,.int p])],mP ((⟨L,(bu L p most).2⟩:Tap),(bu L p most).1),mQ ((⟨L,(bu L p most).2⟩:Tap),(bu L p most).1),bl.of_okh λok ok2=>have ok:DO L p most hm:=⟨ok,ok2 _ (by simp)⟩;(Pm L p most hm ok).elim λI0 h=>h.elim λm0 h=>h.elim λI1 h=>h.elim λm1 h=>h.elim λI2 h=>h.elim λm2 h=>cC (sh:=(.a [(.s 2),(.s 5)])) (enc:=mP) (hB:=mQ) (a:=(sK L p most hm I0 m0 I1 m1 I2 m2).an) h (by kernel_rfl),ai (by kernel_rfl),fk.of (by simp[hcB,cJ,AV.belB,allB,eI,dQ,mP,mQ,ab (v:=AV.int) (λ_=>rfl)])⟩
end Go.Proofs.YthhpaedpnjdnbaaGreatDoor
