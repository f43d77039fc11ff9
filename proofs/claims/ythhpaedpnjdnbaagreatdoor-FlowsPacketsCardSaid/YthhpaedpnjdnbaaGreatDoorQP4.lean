/- Texts joined: G1 G2 V1 V2 V3 U1 GW TP0 TP1 TP2. -/
import Derived.Test.YthhpaedpnjdnbaaGreatDoorQP3
set_option linter.unusedVariables false
set_option linter.unusedSimpArgs false
namespace Go.Proofs.YthhpaedpnjdnbaaGreatDoor
open Go Go.Am
def ints(l:List Int):AV:=.sl 1 (l.map .int) false
def ascI(l:List Int):Prop:=∀i,i<l.length-1→l.getD i 0<l.getD (i+1) 0
instance (l:List Int):Decidable (ascI l):=by unfold ascI;infer_instance
def rngI(l:List Int):Prop:=∀s∈l,1≤s∧s≤99
instance (l:List Int):Decidable (rngI l):=by unfold rngI;infer_instance
def fltErr(m:Int)(l:List Int):Int:=if ¬(m=1∨m=2) then 1 else if ¬rngI l then 2 else if ¬ascI l then 25 else 0
theorem getD_get{l:List Int}{i:Nat}(h:i<l.length):l.getD i 0=l[i]:=by
 simp [List.getD_eq_getElem?_getD,List.getElem?_eq_getElem h]
theorem getD_of_get{l:List Int}{i:Nat}{x:Int}(h:l[i]?=some x):l.getD i 0=x:=by
 simp [List.getD_eq_getElem?_getD,h]
def orI(l:List Int):Int:=(l.find? (· != 0)).getD 0
def cmpI(x y:Int):Int:=if x<y then -1 else if y<x then 1 else 0
def isNaN(x:Int):Bool:=false
theorem W_succ{k n:Nat}(h:k<n)(hn:n≤9223372036854775807):W ((k:Int)+1)=((k+1:Nat):Int):=by rw [W_eq (by omega)];omega
theorem W_pred{k:Nat}(h:k≤9223372036854775807)(h1:1≤k):W ((k:Int)-1)=((k-1:Nat):Int):=by rw [W_eq (by omega)];omega
def isNaN_a(x:Int):Prop:=okL [.int x]
def isNaN_e(r:Bool):AV:=.bool r
def isNaN_x(x:Int):Ax Tryz.prog noS (Bool):=
 (.ret (x != x))
def isNaN_vc(x:Int)(r0:Bool):Prop:=(isNaN_x x).vp isNaN_e r0
theorem isNaN_p(x:Int)(ok:isNaN_a x):isNaN_vc x (isNaN x):=by
 dsimp only [isNaN_vc,isNaN_x,noS,Ax.vp,Ax.vc];simp only [vcU,rfU,List.length_map]
 simp [isNaN]
def isNaN_c(x:Int):PC Tryz.prog:=⟨167,[.k],[.int x],isNaN_e (isNaN x),PSpec.of_ok fun ok=>mxP_of (sh:=.k) (enc:=isNaN_e) (a:=(isNaN_x x).an) (isNaN_p x ok) (by kernel_rfl) (AV.pureB_ok rfl),fnB_ok (by kernel_rfl)⟩
def cmpI_a(x:Int)(y:Int):Prop:=okL [.int x,.int y]
def cmpI_e(r:Int):AV:=.int r
def cmpI_x(x:Int)(y:Int):Ax Tryz.prog noS (Int):=
 (.callP (isNaN_c x)
(.callP (isNaN_c y)
(.br 128 (isNaN x) (.br 144 (isNaN y) (.ret (0))
(.ret (-1)))
(.br 144 (isNaN y) (.ret (1))
(.br 192 (decide (x<y)) (.ret (-1))
(.br 240 (decide (y<x)) (.ret (1))
(.ret (0))))))))
def cmpI_vc(x:Int)(y:Int)(r0:Int):Prop:=(cmpI_x x y).vp cmpI_e r0
theorem cmpI_p(x y:Int)(ok:cmpI_a x y):cmpI_vc x y (cmpI x y):=by
 dsimp only [cmpI_vc,cmpI_x,noS,Ax.vp,Ax.vc];simp only [vcU,rfU,List.length_map]
 simp only [isNaN,Bool.false_eq_true,false_implies,true_implies,true_and,cmpI]
 refine ⟨fun h=>by rw [if_pos h],fun h=>⟨fun h2=>by rw [if_neg h,if_pos h2],fun h2=>by rw [if_neg h,if_neg h2]⟩⟩
def cmpI_c(x:Int)(y:Int):PC Tryz.prog:=⟨132,[.k,.k],[.int x,.int y],cmpI_e (cmpI x y),PSpec.of_ok fun ok=>mxP_of (sh:=.k) (enc:=cmpI_e) (a:=(cmpI_x x y).an) (cmpI_p x y ok) (by kernel_rfl) (AV.pureB_ok rfl),fnB_ok (by kernel_rfl)⟩
theorem find_take{l:List Int}{k:Nat}{x:Int}(h:l.take k |>.all (·==0))(hx:l[k]?=some x)(hn:x≠0):l.find? (· != 0)=some x:=by
 rw [List.find?_eq_some_iff_getElem]
 refine ⟨by simpa using hn,k,lt_of_get hx,by rw [List.getElem?_eq_getElem (lt_of_get hx)] at hx;exact Option.some.inj hx,fun j hj=>?_⟩
 have:=List.all_eq_true.mp h (l[j]'(by have:=lt_of_get hx;omega)) (List.mem_take_iff_getElem.mpr ⟨j,by have:=lt_of_get hx;omega,rfl⟩)
 simpa using this
def cloneI_a(s:(List Int)):Prop:=okL [.sl 1 (s.map AV.int) false]
def cloneI_e(r:(List Int)):AV:=.sl 1 (r.map AV.int) false
def cloneI_x(s:(List Int)):Ax Tryz.prog noS ((List Int)):=
 (.allB (fun b1=>((s.map AV.int)≠[]→b1=false)) fun b1 =>
(.br 48 (b1 != false) (.ret ([]))
(.say (fun R=>Rf (α:=List AV) [] (Rf (α:=List AV) (s.map AV.int)
(ck (decide (0+s.length≤1048576))
R))) (.app 80 AV.int [] s
(.say (Rf (s.map AV.int)) (.cmdL (.frzE 80 (s.map AV.int) (pureBL_map (fun _=>rfl) s)) (.ret (s))))))))
def cloneI_vc(s:(List Int))(r0:(List Int)):Prop:=(cloneI_x s).vp cloneI_e r0
theorem cloneI_p(s:List Int)(h:s.length≤1000000)(ok:cloneI_a s):cloneI_vc s s:=by
 dsimp only [cloneI_vc,cloneI_x,noS,Ax.vp,Ax.vc];simp only [vcU,rfU,List.length_map]
 intro b hb
 simp only [pureBL_int,true_and,and_true,Nat.zero_add]
 refine ⟨fun h1=>?_,fun _=>by omega⟩
 cases s with
 | nil=>rfl
 | cons x s=>simp at hb;simp [hb] at h1
def cloneI_c(s:(List Int))(h:s.length≤1000000):PC Tryz.prog:=⟨170,[(.s 1)],[.sl 1 (s.map AV.int) false],cloneI_e s,PSpec.of_ok fun ok=>mxP_of (sh:=(.s 1)) (enc:=cloneI_e) (a:=(cloneI_x s).an) (cloneI_p s h ok) (by kernel_rfl) (AV.pureB_ok rfl),fnB_ok (by kernel_rfl)⟩
theorem take_eq{a b:List Int}{k:Nat}{x y:Int}(h:a.take k=b.take k)(hx:a[k]?=some x)(hy:b[k]?=some y)(e:(x != y)=false):a.take (k+1)=b.take (k+1):=by
 have e:x=y:=by simpa using e
 rw [take_succ hx,take_succ hy,h,e]
def IntsEq(a b:List Int):Bool:=decide (a=b)
def IntsEq_a(a:(List Int))(b:(List Int)):Prop:=okL [.sl 1 (a.map AV.int) false,.sl 1 (b.map AV.int) false]
def IntsEq_n0(a:(List Int))(b:(List Int))(t0:Int):NF:=⟨[(0,.k,.sl 1 (a.map AV.int) false),(1,.k,.sl 1 (b.map AV.int) false),(5,.k,.int t0)],[]⟩
@[reducible] def IntsEq_s:Nat→Type
 | 0=>Int
 | _=>Unit
def IntsEq_e(r:Bool):AV:=.bool r
def IntsEq_x(a:(List Int))(b:(List Int))(I0:Int→Prop)(m0:Int→Nat):Ax Tryz.prog IntsEq_s (Bool):=
 (.br 96 (((a.map AV.int).length:Int) != ((b.map AV.int).length:Int)) (.ret (false))
(.loop 0 (IntsEq_n0 a b) I0 m0 ((0):Int) [] fun (t0:Int) b0 =>
(.br 64 (decide (t0<((a.map AV.int).length:Int))) (.el 96 AV.int a (fun R=>Rf (a.map AV.int) (ck (decide (0≤t0)) (ck (decide (t0<(a.length:Int)))
(∀x1,a[t0.toNat]?=some x1 →
(R x1))))) fun x1 =>
(.el 160 AV.int b (fun R=>Rf (b.map AV.int) (ck (decide (0≤t0)) (ck (decide (t0<(b.length:Int)))
(∀x2,b[t0.toNat]?=some x2 →
(R x2))))) fun x2 =>
(.br 208 (x1 != x2) (.ret (false))
(.bk 0 b0 ((W (t0+1)):Int) []))))
(.ret (true)))))
def IntsEq_vc(a:(List Int))(b:(List Int))(I0:Int→Prop)(m0:Int→Nat)(r0:Bool):Prop:=(IntsEq_x a b I0 m0).vp IntsEq_e r0
theorem IntsEq_p(a b:List Int)(ok:IntsEq_a a b):∃I m,IntsEq_vc a b I m (IntsEq a b):=by
 simp only [IntsEq_a,okU,Blk.ok,plainV,List.length_map] at ok
 refine ⟨fun i=>∃k:Nat,i=k∧k≤a.length∧a.take k=b.take k,fun i=>a.length-i.toNat,?_⟩
 dsimp only [IntsEq_vc,IntsEq_x,IntsEq_s,Ax.vp,Ax.vc];simp only [vcU,rfU,List.length_map]
 refine ⟨fun h=>?_,fun h=>⟨⟨0,rfl,by omega,rfl⟩,?_⟩⟩
 ·refine (decide_eq_false fun e=>?_).symm
  subst e;simp at h
 have hl:a.length=b.length:=by simp at h;omega
 rintro _ ⟨k,rfl,hk,h⟩
 simp only [Int.toNat_natCast]
 refine ⟨fun h1=>⟨by omega,by omega,fun x hx=>⟨by omega,by omega,fun y hy=>⟨fun e=>?_,fun e=>?_⟩⟩⟩,fun h1=>?_⟩
 ·refine (decide_eq_false fun e'=>?_).symm
  subst e';rw [hx] at hy;cases hy;simp at e
 ·rw [W_succ (n:=a.length) (by omega) (by omega)]
  exact ⟨⟨k+1,rfl,by omega,take_eq h hx hy e⟩,by omega⟩
 ·rw [List.take_of_length_le (by omega),List.take_of_length_le (by omega)] at h
  exact (decide_eq_true h).symm
def IntsEq_c(a:(List Int))(b:(List Int)):PC Tryz.prog:=⟨15,[(.s 1),(.s 1)],[.sl 1 (a.map AV.int) false,.sl 1 (b.map AV.int) false],IntsEq_e (IntsEq a b),PSpec.of_ok fun ok=>(IntsEq_p a b ok).elim fun I0 h=>h.elim fun m0 h=>mxP_of (sh:=.k) (enc:=IntsEq_e) (a:=(IntsEq_x a b I0 m0).an) h (by kernel_rfl) (AV.pureB_ok rfl),fnB_ok (by kernel_rfl)⟩
def InI_a(l:(List Int))(x:Int):Prop:=okL [.sl 1 (l.map AV.int) false,.int x]
def InI_n0(l:(List Int))(x:Int)(t0:Int):NF:=⟨[(0,.k,.sl 1 (l.map AV.int) false),(1,.k,.int x),(5,.k,.int t0)],[]⟩
@[reducible] def InI_s:Nat→Type
 | 0=>Int
 | _=>Unit
def InI_e(r:Bool):AV:=.bool r
def InI_x(l:(List Int))(x:Int)(I0:Int→Prop)(m0:Int→Nat):Ax Tryz.prog InI_s (Bool):=
 (.loop 0 (InI_n0 l x) I0 m0 ((0):Int) [] fun (t0:Int) b0 =>
(.br 64 (decide (t0<((l.map AV.int).length:Int))) (.el 96 AV.int l (fun R=>Rf (l.map AV.int) (ck (decide (0≤t0)) (ck (decide (t0<(l.length:Int)))
(∀x1,l[t0.toNat]?=some x1 →
(R x1))))) fun x1 =>
(.br 160 (x1==x) (.ret (true))
(.bk 0 b0 ((W (t0+1)):Int) [])))
(.ret (false))))
def InI_vc(l:(List Int))(x:Int)(I0:Int→Prop)(m0:Int→Nat)(r0:Bool):Prop:=(InI_x l x I0 m0).vp InI_e r0
def InI(l:List Int)(x:Int):Bool:=decide (x∈l)
theorem InI_p(l:List Int)(x:Int)(ok:InI_a l x):∃I m,InI_vc l x I m (InI l x):=by
 simp only [InI_a,okU,Blk.ok,plainV,List.length_map] at ok
 refine ⟨fun i=>∃k:Nat,i=k∧k≤l.length∧x ∉ l.take k,fun i=>l.length-i.toNat,?_⟩
 dsimp only [InI_vc,InI_x,InI_s,Ax.vp,Ax.vc];simp only [vcU,rfU,List.length_map]
 refine ⟨⟨0,rfl,by omega,by simp⟩,?_⟩
 rintro _ ⟨k,rfl,hk,h⟩
 simp only [Int.toNat_natCast]
 refine ⟨fun h1=>⟨by omega,by omega,fun y hy=>⟨fun e=>?_,fun e=>?_⟩⟩,fun h1=>?_⟩
 ·exact (decide_eq_true (by have:=mem_of_get hy;simp at e;rwa [e] at this)).symm
 ·rw [W_succ (n:=l.length) (by omega) (by omega)]
  refine ⟨⟨k+1,rfl,by omega,?_⟩,by omega⟩
  rw [take_succ hy];simp at e ⊢;exact ⟨h,fun e'=>e e'.symm⟩
 ·rw [List.take_of_length_le (by omega)] at h
  exact (decide_eq_false h).symm
def InI_c(l:(List Int))(x:Int):PC Tryz.prog:=⟨90,[(.s 1),.k],[.sl 1 (l.map AV.int) false,.int x],InI_e (InI l x),PSpec.of_ok fun ok=>(InI_p l x ok).elim fun I0 h=>h.elim fun m0 h=>mxP_of (sh:=.k) (enc:=InI_e) (a:=(InI_x l x I0 m0).an) h (by kernel_rfl) (AV.pureB_ok rfl),fnB_ok (by kernel_rfl)⟩
def Nothing:Flt:=⟨1,[]⟩
def Nothing_a:Prop:=okL []
def Nothing_e(r:Flt):AV:=Flt.v r
def Nothing_x:Ax Tryz.prog noS (Flt):=
 (.ret ((⟨1,[]⟩:Flt)))
def Nothing_vc(r0:Flt):Prop:=(Nothing_x).vp Nothing_e r0
theorem Nothing_p(ok:Nothing_a):Nothing_vc Nothing:=by
 dsimp only [Nothing_vc,Nothing_x,noS,Ax.vp,Ax.vc];simp only [vcU,rfU,List.length_map]
 rfl
def Nothing_c:PC Tryz.prog:=⟨45,[],[],Nothing_e Nothing,PSpec.of_ok fun ok=>mxP_of (sh:=(.a [.k,(.s 1)])) (enc:=Nothing_e) (a:=(Nothing_x).an) (Nothing_p ok) (by kernel_rfl) (AV.pureB_ok rfl),fnB_ok (by kernel_rfl)⟩
def FSame(a b:Flt):Bool:=decide (a=b)
theorem flt_eq{a b:Flt}:a=b↔a.mode=b.mode∧a.srcs=b.srcs:=by cases a;cases b;simp
def FSame_a(a:Flt)(b:Flt):Prop:=okL [.agg [.int a.mode,.sl 1 (a.srcs.map AV.int) false],.agg [.int b.mode,.sl 1 (b.srcs.map AV.int) false]]
def FSame_e(r:Bool):AV:=.bool r
def FSame_x(a:Flt)(b:Flt):Ax Tryz.prog noS (Bool):=
 (.br 144 (a.mode==b.mode) (.callP (IntsEq_c a.srcs b.srcs)
(.ret (IntsEq a.srcs b.srcs)))
(.ret (false)))
def FSame_vc(a:Flt)(b:Flt)(r0:Bool):Prop:=(FSame_x a b).vp FSame_e r0
theorem FSame_p(a b:Flt)(ok:FSame_a a b):FSame_vc a b (FSame a b):=by
 dsimp only [FSame_vc,FSame_x,noS,Ax.vp,Ax.vc];simp only [vcU,rfU,List.length_map]
 simp only [FSame,IntsEq,flt_eq]
 refine ⟨fun h=>?_,fun h=>?_⟩<;>simp at h<;>simp [h]
def FSame_c(a:Flt)(b:Flt):PC Tryz.prog:=⟨86,[(.a [.k,(.s 1)]),(.a [.k,(.s 1)])],[.agg [.int a.mode,.sl 1 (a.srcs.map AV.int) false],.agg [.int b.mode,.sl 1 (b.srcs.map AV.int) false]],FSame_e (FSame a b),PSpec.of_ok fun ok=>mxP_of (sh:=.k) (enc:=FSame_e) (a:=(FSame_x a b).an) (FSame_p a b ok) (by kernel_rfl) (AV.pureB_ok rfl),fnB_ok (by kernel_rfl)⟩
theorem ascI_iff{l:List Int}:ascI l↔∀j x y,l[j]?=some x→l[j+1]?=some y→x<y:=by
 unfold ascI
 constructor
 ·intro h j x y hx hy
  have:=h j (by have:=lt_of_get hy;omega)
  rwa [getD_of_get hx,getD_of_get hy] at this
 ·intro h i hi
  have e1:=List.getElem?_eq_getElem (show i<l.length by omega)
  have e2:=List.getElem?_eq_getElem (show i+1<l.length by omega)
  rw [getD_of_get e1,getD_of_get e2]
  exact h i _ _ e1 e2
def FVal(f:Flt):Int:=fltErr f.mode f.srcs
abbrev PVal:=FVal
def FVal_a(f:Flt):Prop:=okL [.agg [.int f.mode,.sl 1 (f.srcs.map AV.int) false]]
def FVal_n0(f:Flt)(t0:Unit):NF:=⟨[(1,.k,.ref 0 0)],[.box (.agg [.int f.mode,.sl 1 (f.srcs.map AV.int) false])]⟩
def FVal_n1(f:Flt)(t1:Int):NF:=⟨[(1,.k,.ref 0 0),(15,.k,.sl 1 (f.srcs.map AV.int) false),(16,.k,.int ((f.srcs.map AV.int).length:Int)),(17,.k,.int t1)],[.box (.agg [.int f.mode,.sl 1 (f.srcs.map AV.int) false])]⟩
def FVal_n2(f:Flt)(t2:Int):NF:=⟨[(1,.k,.ref 0 0),(5,.k,.int t2)],[.box (.agg [.int f.mode,.sl 1 (f.srcs.map AV.int) false])]⟩
@[reducible] def FVal_s:Nat→Type
 | 0=>Unit
 | 1=>Int
 | 2=>Int
 | _=>Unit
def FVal_e(r:Int):AV:=.int r
def FVal_x(f:Flt)(I1:Unit→Int→Prop)(m1:Unit→Int→Nat)(I2:Unit→Int→Int→Prop)(m2:Unit→Int→Int→Nat):Ax Tryz.prog FVal_s (Int):=
 (.pass (.join 0 (FVal_n0 f) (fun (t0:Unit)=>(bif (f.mode != 1) then (bif (f.mode != 2) then false else true) else true)=true) (fun b0=>(.br 96 (f.mode != 1) (.br 160 (f.mode != 2) (.ret (1))
(.bk 0 b0 ((()):Unit) [0]))
(.bk 0 b0 ((()):Unit) [0]))) fun (t0:Unit) =>
(.loop 1 (FVal_n1 f) (I1 t0) (m1 t0) ((0):Int) [0] fun (t1:Int) b1 =>
(.br 17 (decide (t1<((f.srcs.map AV.int).length:Int))) (.el 17 AV.int f.srcs (fun R=>Rf (f.srcs.map AV.int) (ck (decide (0≤t1)) (ck (decide (t1<(f.srcs.length:Int)))
(∀x1,f.srcs[t1.toNat]?=some x1 →
(R x1))))) fun x1 =>
(.br 113 (decide (x1<1)) (.ret (2))
(.br 161 (decide (99<x1)) (.ret (2))
(.bk 1 b1 ((W (t1+1)):Int) [0]))))
(.loop 2 (FVal_n2 f) (I2 t0 t1) (m2 t0 t1) ((1):Int) [0] fun (t2:Int) b2 =>
(.br 81 (decide (t2<((f.srcs.map AV.int).length:Int))) (.el 145 AV.int f.srcs (fun R=>Rf (f.srcs.map AV.int) (ck (decide (0≤(W (t2-1)))) (ck (decide ((W (t2-1))<(f.srcs.length:Int)))
(∀x2,f.srcs[(W (t2-1)).toNat]?=some x2 →
(R x2))))) fun x2 =>
(.el 225 AV.int f.srcs (fun R=>Rf (f.srcs.map AV.int) (ck (decide (0≤t2)) (ck (decide (t2<(f.srcs.length:Int)))
(∀x3,f.srcs[t2.toNat]?=some x3 →
(R x3))))) fun x3 =>
(.br 273 (decide (x3≤x2)) (.ret (25))
(.bk 2 b2 ((W (t2+1)):Int) [0]))))
(.ret (0))))))))
def FVal_vc(f:Flt)(I1:Unit→Int→Prop)(m1:Unit→Int→Nat)(I2:Unit→Int→Int→Prop)(m2:Unit→Int→Int→Nat)(r0:Int):Prop:=(FVal_x f I1 m1 I2 m2).vp FVal_e r0
theorem FVal_p(f:Flt)(ok:FVal_a f):∃I1 m1 I2 m2,FVal_vc f I1 m1 I2 m2 (fltErr f.mode f.srcs):=by
 simp only [FVal_a,okU,Blk.ok,plainV,List.length_map] at ok
 refine ⟨fun _ t=>∃k:Nat,t=k∧k≤f.srcs.length∧∀s∈f.srcs.take k,1≤s∧s≤99,fun _ t=>f.srcs.length-t.toNat,
  fun _ t1 t=>rngI f.srcs∧∃k:Nat,t=k∧1≤k∧k≤f.srcs.length+1∧∀j x y,j+1<k→f.srcs[j]?=some x→f.srcs[j+1]?=some y→x<y,fun _ _ t=>f.srcs.length+1-t.toNat,?_⟩
 dsimp only [FVal_vc,FVal_x,FVal_s,Ax.vp,Ax.vc];simp only [vcU,rfU,List.length_map]
 have hmode:((bif f.mode != 1 then bif f.mode != 2 then false else true else true)=true)↔(f.mode=1∨f.mode=2):=by
  by_cases h1:f.mode=1<;>by_cases h2:f.mode=2<;>simp [h1,h2]
 simp only [hmode]
 refine ⟨⟨fun h1=>⟨fun h2=>?_,fun h2=>?_⟩,fun h1=>?_⟩,?_⟩
 ·rw [fltErr,if_pos];simp at h1 h2;omega
 ·simp at h2;omega
 ·simp at h1;omega
 intro t0 hm
 refine ⟨⟨0,rfl,by omega,by simp⟩,?_⟩
 rintro _ ⟨k,rfl,hk,h⟩
 simp only [Int.toNat_natCast]
 refine ⟨fun h1=>⟨by omega,by omega,fun y hy=>⟨fun e=>?_,fun e=>⟨fun e2=>?_,fun e2=>?_⟩⟩⟩,fun h1=>?_⟩
 ·rw [fltErr,if_neg (not_not_intro hm),if_pos fun hr=>by have:=hr y (mem_of_get hy);omega]
 ·rw [fltErr,if_neg (not_not_intro hm),if_pos fun hr=>by have:=hr y (mem_of_get hy);omega]
 ·rw [W_succ (n:=f.srcs.length) (by omega) (by omega)]
  refine ⟨⟨k+1,rfl,by omega,?_⟩,by omega⟩
  rw [take_succ hy]
  intro s hs
  rcases List.mem_append.mp hs with hs|hs
  ·exact h s hs
  ·rw [List.mem_singleton] at hs;subst hs;omega
 rw [List.take_of_length_le (by omega)] at h
 have hr:rngI f.srcs:=h
 refine ⟨⟨hr,1,rfl,by omega,by omega,fun j x y hj=>by omega⟩,?_⟩
 rintro _ ⟨-,k,rfl,hk1,hk,h⟩
 refine ⟨fun h1=>?_,fun h1=>?_⟩
 ·rw [W_pred (by omega) hk1]
  simp only [Int.toNat_natCast]
  refine ⟨by omega,by omega,fun x hx=>⟨by omega,by omega,fun y hy=>⟨fun e=>?_,fun e=>?_⟩⟩⟩
  ·rw [fltErr,if_neg (not_not_intro hm),if_neg (not_not_intro hr),if_pos]
   intro ha
   have:=ascI_iff.mp ha (k-1) x y hx (by rw [show k-1+1=k by omega];exact hy)
   omega
  ·rw [W_succ (n:=f.srcs.length) (by omega) (by omega)]
   refine ⟨⟨hr,k+1,rfl,by omega,by omega,fun j x' y' hj hx' hy'=>?_⟩,by omega⟩
   by_cases e':j+1=k
   ·subst e'
    rw [show j+1-1=j by omega,hx'] at hx;cases hx
    rw [hy'] at hy;cases hy;omega
   ·exact h j x' y' (by omega) hx' hy'
 ·rw [fltErr,if_neg (not_not_intro hm),if_neg (not_not_intro hr),if_neg (not_not_intro (ascI_iff.mpr fun j x y hx hy=>h j x y (by have:=lt_of_get hy;omega) hx hy))]
def FVal_c(f:Flt):PC Tryz.prog:=⟨85,[(.a [.k,(.s 1)])],[.agg [.int f.mode,.sl 1 (f.srcs.map AV.int) false]],FVal_e (FVal f),PSpec.of_ok fun ok=>(FVal_p f ok).elim fun I1 h=>h.elim fun m1 h=>h.elim fun I2 h=>h.elim fun m2 h=>mxP_of (sh:=.k) (enc:=FVal_e) (a:=(FVal_x f I1 m1 I2 m2).an) h (by kernel_rfl) (AV.pureB_ok rfl),fnB_ok (by kernel_rfl)⟩
def PVal_a(f:Flt):Prop:=okL [.agg [.int f.mode,.sl 1 (f.srcs.map AV.int) false]]
def PVal_n0(f:Flt)(t0:Unit):NF:=⟨[(1,.k,.ref 0 0)],[.box (.agg [.int f.mode,.sl 1 (f.srcs.map AV.int) false])]⟩
def PVal_n1(f:Flt)(t1:Int):NF:=⟨[(1,.k,.ref 0 0),(15,.k,.sl 1 (f.srcs.map AV.int) false),(16,.k,.int ((f.srcs.map AV.int).length:Int)),(17,.k,.int t1)],[.box (.agg [.int f.mode,.sl 1 (f.srcs.map AV.int) false])]⟩
def PVal_n2(f:Flt)(t2:Int):NF:=⟨[(1,.k,.ref 0 0),(5,.k,.int t2)],[.box (.agg [.int f.mode,.sl 1 (f.srcs.map AV.int) false])]⟩
@[reducible] def PVal_s:Nat→Type
 | 0=>Unit
 | 1=>Int
 | 2=>Int
 | _=>Unit
def PVal_e(r:Int):AV:=.int r
def PVal_x(f:Flt)(I1:Unit→Int→Prop)(m1:Unit→Int→Nat)(I2:Unit→Int→Int→Prop)(m2:Unit→Int→Int→Nat):Ax Tryz.prog PVal_s (Int):=
 (.pass (.join 0 (PVal_n0 f) (fun (t0:Unit)=>(bif (f.mode != 1) then (bif (f.mode != 2) then false else true) else true)=true) (fun b0=>(.br 96 (f.mode != 1) (.br 160 (f.mode != 2) (.ret (1))
(.bk 0 b0 ((()):Unit) [0]))
(.bk 0 b0 ((()):Unit) [0]))) fun (t0:Unit) =>
(.loop 1 (PVal_n1 f) (I1 t0) (m1 t0) ((0):Int) [0] fun (t1:Int) b1 =>
(.br 17 (decide (t1<((f.srcs.map AV.int).length:Int))) (.el 17 AV.int f.srcs (fun R=>Rf (f.srcs.map AV.int) (ck (decide (0≤t1)) (ck (decide (t1<(f.srcs.length:Int)))
(∀x1,f.srcs[t1.toNat]?=some x1 →
(R x1))))) fun x1 =>
(.br 113 (decide (x1<1)) (.ret (2))
(.br 161 (decide (99<x1)) (.ret (2))
(.bk 1 b1 ((W (t1+1)):Int) [0]))))
(.loop 2 (PVal_n2 f) (I2 t0 t1) (m2 t0 t1) ((1):Int) [0] fun (t2:Int) b2 =>
(.br 81 (decide (t2<((f.srcs.map AV.int).length:Int))) (.el 145 AV.int f.srcs (fun R=>Rf (f.srcs.map AV.int) (ck (decide (0≤(W (t2-1)))) (ck (decide ((W (t2-1))<(f.srcs.length:Int)))
(∀x2,f.srcs[(W (t2-1)).toNat]?=some x2 →
(R x2))))) fun x2 =>
(.el 225 AV.int f.srcs (fun R=>Rf (f.srcs.map AV.int) (ck (decide (0≤t2)) (ck (decide (t2<(f.srcs.length:Int)))
(∀x3,f.srcs[t2.toNat]?=some x3 →
(R x3))))) fun x3 =>
(.br 273 (decide (x3≤x2)) (.ret (25))
(.bk 2 b2 ((W (t2+1)):Int) [0]))))
(.ret (0))))))))
def PVal_vc(f:Flt)(I1:Unit→Int→Prop)(m1:Unit→Int→Nat)(I2:Unit→Int→Int→Prop)(m2:Unit→Int→Int→Nat)(r0:Int):Prop:=(PVal_x f I1 m1 I2 m2).vp PVal_e r0
theorem PVal_p(f:Flt)(ok:PVal_a f):∃I1 m1 I2 m2,PVal_vc f I1 m1 I2 m2 (fltErr f.mode f.srcs):=by
 simp only [PVal_a,okU,Blk.ok,plainV,List.length_map] at ok
 refine ⟨fun _ t=>∃k:Nat,t=k∧k≤f.srcs.length∧∀s∈f.srcs.take k,1≤s∧s≤99,fun _ t=>f.srcs.length-t.toNat,
  fun _ t1 t=>rngI f.srcs∧∃k:Nat,t=k∧1≤k∧k≤f.srcs.length+1∧∀j x y,j+1<k→f.srcs[j]?=some x→f.srcs[j+1]?=some y→x<y,fun _ _ t=>f.srcs.length+1-t.toNat,?_⟩
 dsimp only [PVal_vc,PVal_x,PVal_s,Ax.vp,Ax.vc];simp only [vcU,rfU,List.length_map]
 have hmode:((bif f.mode != 1 then bif f.mode != 2 then false else true else true)=true)↔(f.mode=1∨f.mode=2):=by
  by_cases h1:f.mode=1<;>by_cases h2:f.mode=2<;>simp [h1,h2]
 simp only [hmode]
 refine ⟨⟨fun h1=>⟨fun h2=>?_,fun h2=>?_⟩,fun h1=>?_⟩,?_⟩
 ·rw [fltErr,if_pos];simp at h1 h2;omega
 ·simp at h2;omega
 ·simp at h1;omega
 intro t0 hm
 refine ⟨⟨0,rfl,by omega,by simp⟩,?_⟩
 rintro _ ⟨k,rfl,hk,h⟩
 simp only [Int.toNat_natCast]
 refine ⟨fun h1=>⟨by omega,by omega,fun y hy=>⟨fun e=>?_,fun e=>⟨fun e2=>?_,fun e2=>?_⟩⟩⟩,fun h1=>?_⟩
 ·rw [fltErr,if_neg (not_not_intro hm),if_pos fun hr=>by have:=hr y (mem_of_get hy);omega]
 ·rw [fltErr,if_neg (not_not_intro hm),if_pos fun hr=>by have:=hr y (mem_of_get hy);omega]
 ·rw [W_succ (n:=f.srcs.length) (by omega) (by omega)]
  refine ⟨⟨k+1,rfl,by omega,?_⟩,by omega⟩
  rw [take_succ hy]
  intro s hs
  rcases List.mem_append.mp hs with hs|hs
  ·exact h s hs
  ·rw [List.mem_singleton] at hs;subst hs;omega
 rw [List.take_of_length_le (by omega)] at h
 have hr:rngI f.srcs:=h
 refine ⟨⟨hr,1,rfl,by omega,by omega,fun j x y hj=>by omega⟩,?_⟩
 rintro _ ⟨-,k,rfl,hk1,hk,h⟩
 refine ⟨fun h1=>?_,fun h1=>?_⟩
 ·rw [W_pred (by omega) hk1]
  simp only [Int.toNat_natCast]
  refine ⟨by omega,by omega,fun x hx=>⟨by omega,by omega,fun y hy=>⟨fun e=>?_,fun e=>?_⟩⟩⟩
  ·rw [fltErr,if_neg (not_not_intro hm),if_neg (not_not_intro hr),if_pos]
   intro ha
   have:=ascI_iff.mp ha (k-1) x y hx (by rw [show k-1+1=k by omega];exact hy)
   omega
  ·rw [W_succ (n:=f.srcs.length) (by omega) (by omega)]
   refine ⟨⟨hr,k+1,rfl,by omega,by omega,fun j x' y' hj hx' hy'=>?_⟩,by omega⟩
   by_cases e':j+1=k
   ·subst e'
    rw [show j+1-1=j by omega,hx'] at hx;cases hx
    rw [hy'] at hy;cases hy;omega
   ·exact h j x' y' (by omega) hx' hy'
 ·rw [fltErr,if_neg (not_not_intro hm),if_neg (not_not_intro hr),if_neg (not_not_intro (ascI_iff.mpr fun j x y hx hy=>h j x y (by have:=lt_of_get hy;omega) hx hy))]
def PVal_c(f:Flt):PC Tryz.prog:=⟨141,[(.a [.k,(.s 1)])],[.agg [.int f.mode,.sl 1 (f.srcs.map AV.int) false]],PVal_e (PVal f),PSpec.of_ok fun ok=>(PVal_p f ok).elim fun I1 h=>h.elim fun m1 h=>h.elim fun I2 h=>h.elim fun m2 h=>mxP_of (sh:=.k) (enc:=PVal_e) (a:=(PVal_x f I1 m1 I2 m2).an) h (by kernel_rfl) (AV.pureB_ok rfl),fnB_ok (by kernel_rfl)⟩
def insAt{α:Type}(es:List α)(i:Nat)(x:α):List α:=es.take i++[x]++es.drop i
theorem pickI_mem{l:List Int}(h:l≠[])(r:Int):pickI l r∈l:=by
 have hl:0<l.length:=List.length_pos_iff.mpr h
 have:=Mod_range (x:=r) (show 1≤(l.length:Int) by omega)
 have hi:(Mod r l.length).toNat<l.length:=by omega
 rw [pickI,getD_get hi]
 exact List.getElem_mem hi
theorem rng_in{L:List Int}{p:Nat}{lo hi:Int}(h:-1000000000≤lo∧lo≤hi∧hi≤1000000000):lo≤rng L p lo hi∧rng L p lo hi≤hi:=by
 unfold rng
 have e1:W (hi-lo)=hi-lo:=W_eq (by omega)
 have e2:W (hi-lo+1)=hi-lo+1:=W_eq (by omega)
 rw [e1,e2]
 have:=Mod_range (x:=rawV L p) (show 1≤hi-lo+1 by omega)
 rw [W_eq (by omega)];omega
def putP(l:List Int)(x:Int):Nat:=l.findIdx (fun y=>!decide (y<x))
def put(l:List Int)(x:Int):List Int:=if l[putP l x]?=some x then l else insAt l (putP l x) x
theorem put_mem{l:List Int}{x y:Int}:y∈put l x→y∈l∨y=x:=by
 unfold put
 split
 ·exact .inl
 ·unfold insAt
  intro h
  rcases List.mem_append.mp h with h|h
  ·rcases List.mem_append.mp h with h|h
   ·exact .inl (List.mem_of_mem_take h)
   ·exact .inr (by simpa using h)
  ·exact .inl (List.mem_of_mem_drop h)
theorem put_length(l:List Int)(x:Int):(put l x).length≤l.length+1:=by
 unfold put
 split
 ·omega
 ·unfold insAt;simp;omega
theorem asc_pw{l:List Int}:ascI l↔l.Pairwise (·<·):=by
 rw [List.pairwise_iff_getElem]
 constructor
 ·intro h
  have key:∀i d,(hi:i+d+1<l.length)→l.getD i 0<l.getD (i+d+1) 0:=by
   intro i d
   induction d with
   | zero=>intro hi;exact h i (by omega)
   | succ d ih=>intro hi;exact Int.lt_trans (ih (by omega)) (h (i+d+1) (by omega))
  intro i j hi hj hij
  have:=key i (j-i-1) (by omega)
  rw [show i+(j-i-1)+1=j by omega,getD_get hi,getD_get hj] at this
  exact this
 ·intro h i hi
  have h1:i<l.length:=by omega
  have h2:i+1<l.length:=by omega
  rw [getD_get h1,getD_get h2]
  exact h i (i+1) h1 h2 (by omega)
theorem put_asc{l:List Int}{x:Int}(h:ascI l):ascI (put l x):=by
 unfold put
 split
 ·exact h
 rename_i hx
 rw [asc_pw] at *
 have hlo:∀a∈l.take (putP l x),a<x:=fun a ha=>by
  obtain ⟨i,hi,rfl⟩:=List.getElem_of_mem ha
  rw [List.getElem_take]
  have h1:i<putP l x:=by simp at hi;omega
  have:=List.not_of_lt_findIdx h1
  simpa using this
 have hhi:∀a∈l.drop (putP l x),x<a:=fun a ha=>by
  have hne:l.drop (putP l x)≠[]:=fun e=>by rw [e] at ha;simp at ha
  have hlt:putP l x<l.length:=by
   refine Classical.byContradiction fun e=>hne (List.drop_of_length_le (by omega))
  have h1:¬l[putP l x]<x:=by
   have:=List.findIdx_getElem (p:=fun y=>!decide (y<x)) (xs:=l) (w:=hlt)
   rw [Bool.not_eq_true'] at this
   exact of_decide_eq_false this
  have h2:l[putP l x]≠x:=fun e=>hx (by rw [List.getElem?_eq_getElem hlt,e])
  rw [List.drop_eq_getElem_cons hlt] at ha
  have h3:(l.drop (putP l x)).Pairwise (·<·):=h.sublist (List.drop_sublist _ _)
  rw [List.drop_eq_getElem_cons hlt,List.pairwise_cons] at h3
  rcases List.mem_cons.mp ha with rfl|ha
  ·omega
  ·have:=h3.1 a ha;omega
 unfold insAt
 rw [List.pairwise_append,List.pairwise_append]
 refine ⟨⟨h.sublist (List.take_sublist _ _),List.pairwise_singleton _ _,fun a ha b hb=>?_⟩,h.sublist (List.drop_sublist _ _),fun a ha b hb=>?_⟩
 ·rw [List.mem_singleton] at hb;subst hb;exact hlo a ha
 ·rcases List.mem_append.mp ha with ha|ha
  ·exact Int.lt_trans (hlo a ha) (hhi b hb)
  ·rw [List.mem_singleton] at ha;subst ha;exact hhi b hb
theorem put_rng{l:List Int}{x:Int}(h:rngI l)(hx:1≤x∧x≤99):rngI (put l x):=fun y hy=>by
 rcases put_mem hy with hy|rfl
 ·exact h y hy
 ·exact hx
theorem putP_le(l:List Int)(x:Int):putP l x≤l.length:=List.findIdx_le_length
theorem putP_lo{l:List Int}{x y:Int}{j:Nat}(hj:j<putP l x)(hy:l[j]?=some y):y<x:=by
 have:=List.not_of_lt_findIdx hj
 rw [List.getElem?_eq_getElem (lt_of_get hy)] at hy
 rw [←Option.some.inj hy]
 simpa using this
theorem putP_hi{l:List Int}{x y:Int}(hy:l[putP l x]?=some y):¬y<x:=by
 have h:=lt_of_get hy
 have:=List.findIdx_getElem (p:=fun y=>!decide (y<x)) (xs:=l) (w:=h)
 rw [List.getElem?_eq_getElem h] at hy;cases hy
 rw [Bool.not_eq_true'] at this
 exact of_decide_eq_false this
theorem putP_eq{l:List Int}{x:Int}{k:Nat}(h:∀j y,j<k→l[j]?=some y→y<x)(hk:k≤l.length)(h2:k=l.length∨∃y,l[k]?=some y∧¬y<x):putP l x=k:=by
 rcases Nat.lt_trichotomy (putP l x) k with g|g|g
 ·have hl:putP l x<l.length:=by omega
  have e:=List.getElem?_eq_getElem hl
  exact absurd (h _ _ g e) (putP_hi e)
 ·exact g
 ·rcases h2 with h2|⟨y,hy,hn⟩
  ·have:=putP_le l x;omega
  ·exact absurd (putP_lo g hy) hn
theorem insAt_eq{l:List Int}{k:Nat}{x:Int}:((l.take k).drop 0)++([x]++((l.take ((l.length:Int).toNat)).drop k))=insAt l k x:=by
 rw [Int.toNat_natCast,List.take_length,List.drop_zero,insAt,List.append_assoc]
def put_a(l:(List Int))(x:Int):Prop:=okL [.sl 1 (l.map AV.int) false,.int x]
abbrev put_v0(l:(List Int)):=(l.take ((l.length:Int).toNat))
def put_n0(l:(List Int))(x:Int)(t0:Int):NF:=⟨[(0,.k,.sl 1 (l.map AV.int) false),(1,.k,.int x),(5,.k,.int t0)],[]⟩
@[reducible] def put_s:Nat→Type
 | 0=>Int
 | _=>Unit
def put_e(r:(List Int)):AV:=.sl 1 (r.map AV.int) false
def put_x(l:(List Int))(x:Int)(I0:Int→Prop)(m0:Int→Nat):Ax Tryz.prog put_s ((List Int)):=
 (.loop 0 (put_n0 l x) I0 m0 ((0):Int) [] fun (t0:Int) b0 =>
(.br 80 (decide (t0<((l.map AV.int).length:Int))) (.el 112 AV.int l (fun R=>Rf (l.map AV.int) (ck (decide (0≤t0)) (ck (decide (t0<(l.length:Int)))
(∀x1,l[t0.toNat]?=some x1 →
(R x1))))) fun x1 =>
(.br 192 (decide (x1<x)) (.bk 0 b0 ((W (t0+1)):Int) [])
(.br 272 (decide (t0<((l.map AV.int).length:Int))) (.el 304 AV.int l (fun R=>Rf (l.map AV.int) (ck (decide (0≤t0)) (ck (decide (t0<(l.length:Int)))
(∀x2,l[t0.toNat]?=some x2 →
(R x2))))) fun x2 =>
(.br 384 (x2==x) (.ret (l))
(.own 400 (.say (fun R=>Rf (α:=List AV) (l.map AV.int) (ck (bndB l.length t0 (l.length:Int) (l.length:Int))
R)) (.sub 448 AV.int l false
(.say (fun R=>Rf (α:=List AV) [.int x] (Rf (α:=List AV) (((put_v0 l).drop t0.toNat).map AV.int)
(ck (decide ([x].length+((put_v0 l).drop t0.toNat).length≤1048576))
R))) (.app 464 AV.int [x] ((put_v0 l).drop t0.toNat)
(.say (fun R=>Rf (α:=List AV) (l.map AV.int) (ck (bndB l.length 0 t0 t0)
R)) (.sub 544 AV.int l true
(.say (fun R=>ck (decide (t0=t0))
((Rf (α:=List AV) (((l.take t0.toNat).drop 0).map AV.int) (Rf (α:=List AV) (([x]++((put_v0 l).drop t0.toNat)).map AV.int)
(ck (decide (0<([x]++((put_v0 l).drop t0.toNat)).length))
R))))) (.appF 576 AV.int ((l.take t0.toNat).drop 0) ([x]++((put_v0 l).drop t0.toNat))
(.say (fun R=>ck (decide (((l.take t0.toNat).drop 0).length+([x]++((put_v0 l).drop t0.toNat)).length≤1048576))
((Rf ((((l.take t0.toNat).drop 0)++([x]++((put_v0 l).drop t0.toNat))).map AV.int) R))) (.cmdL (.frzE 576 ((((l.take t0.toNat).drop 0)++([x]++((put_v0 l).drop t0.toNat))).map AV.int) (pureBL_map (fun _=>rfl) (((l.take t0.toNat).drop 0)++([x]++((put_v0 l).drop t0.toNat))))) (.ret (((l.take t0.toNat).drop 0)++([x]++((put_v0 l).drop t0.toNat)))))))))))))))))
(.own 400 (.say (fun R=>Rf (α:=List AV) (l.map AV.int) (ck (bndB l.length t0 (l.length:Int) (l.length:Int))
R)) (.sub 448 AV.int l false
(.say (fun R=>Rf (α:=List AV) [.int x] (Rf (α:=List AV) (((put_v0 l).drop t0.toNat).map AV.int)
(ck (decide ([x].length+((put_v0 l).drop t0.toNat).length≤1048576))
R))) (.app 464 AV.int [x] ((put_v0 l).drop t0.toNat)
(.say (fun R=>Rf (α:=List AV) (l.map AV.int) (ck (bndB l.length 0 t0 t0)
R)) (.sub 544 AV.int l true
(.say (fun R=>ck (decide (t0=t0))
((Rf (α:=List AV) (((l.take t0.toNat).drop 0).map AV.int) (Rf (α:=List AV) (([x]++((put_v0 l).drop t0.toNat)).map AV.int)
(ck (decide (0<([x]++((put_v0 l).drop t0.toNat)).length))
R))))) (.appF 576 AV.int ((l.take t0.toNat).drop 0) ([x]++((put_v0 l).drop t0.toNat))
(.say (fun R=>ck (decide (((l.take t0.toNat).drop 0).length+([x]++((put_v0 l).drop t0.toNat)).length≤1048576))
((Rf ((((l.take t0.toNat).drop 0)++([x]++((put_v0 l).drop t0.toNat))).map AV.int) R))) (.cmdL (.frzE 576 ((((l.take t0.toNat).drop 0)++([x]++((put_v0 l).drop t0.toNat))).map AV.int) (pureBL_map (fun _=>rfl) (((l.take t0.toNat).drop 0)++([x]++((put_v0 l).drop t0.toNat))))) (.ret (((l.take t0.toNat).drop 0)++([x]++((put_v0 l).drop t0.toNat))))))))))))))))))
(.br 272 (decide (t0<((l.map AV.int).length:Int))) (.el 304 AV.int l (fun R=>Rf (l.map AV.int) (ck (decide (0≤t0)) (ck (decide (t0<(l.length:Int)))
(∀x3,l[t0.toNat]?=some x3 →
(R x3))))) fun x3 =>
(.br 384 (x3==x) (.ret (l))
(.own 400 (.say (fun R=>Rf (α:=List AV) (l.map AV.int) (ck (bndB l.length t0 (l.length:Int) (l.length:Int))
R)) (.sub 448 AV.int l false
(.say (fun R=>Rf (α:=List AV) [.int x] (Rf (α:=List AV) (((put_v0 l).drop t0.toNat).map AV.int)
(ck (decide ([x].length+((put_v0 l).drop t0.toNat).length≤1048576))
R))) (.app 464 AV.int [x] ((put_v0 l).drop t0.toNat)
(.say (fun R=>Rf (α:=List AV) (l.map AV.int) (ck (bndB l.length 0 t0 t0)
R)) (.sub 544 AV.int l true
(.say (fun R=>ck (decide (t0=t0))
((Rf (α:=List AV) (((l.take t0.toNat).drop 0).map AV.int) (Rf (α:=List AV) (([x]++((put_v0 l).drop t0.toNat)).map AV.int)
(ck (decide (0<([x]++((put_v0 l).drop t0.toNat)).length))
R))))) (.appF 576 AV.int ((l.take t0.toNat).drop 0) ([x]++((put_v0 l).drop t0.toNat))
(.say (fun R=>ck (decide (((l.take t0.toNat).drop 0).length+([x]++((put_v0 l).drop t0.toNat)).length≤1048576))
((Rf ((((l.take t0.toNat).drop 0)++([x]++((put_v0 l).drop t0.toNat))).map AV.int) R))) (.cmdL (.frzE 576 ((((l.take t0.toNat).drop 0)++([x]++((put_v0 l).drop t0.toNat))).map AV.int) (pureBL_map (fun _=>rfl) (((l.take t0.toNat).drop 0)++([x]++((put_v0 l).drop t0.toNat))))) (.ret (((l.take t0.toNat).drop 0)++([x]++((put_v0 l).drop t0.toNat)))))))))))))))))
(.own 400 (.say (fun R=>Rf (α:=List AV) (l.map AV.int) (ck (bndB l.length t0 (l.length:Int) (l.length:Int))
R)) (.sub 448 AV.int l false
(.say (fun R=>Rf (α:=List AV) [.int x] (Rf (α:=List AV) (((put_v0 l).drop t0.toNat).map AV.int)
(ck (decide ([x].length+((put_v0 l).drop t0.toNat).length≤1048576))
R))) (.app 464 AV.int [x] ((put_v0 l).drop t0.toNat)
(.say (fun R=>Rf (α:=List AV) (l.map AV.int) (ck (bndB l.length 0 t0 t0)
R)) (.sub 544 AV.int l true
(.say (fun R=>ck (decide (t0=t0))
((Rf (α:=List AV) (((l.take t0.toNat).drop 0).map AV.int) (Rf (α:=List AV) (([x]++((put_v0 l).drop t0.toNat)).map AV.int)
(ck (decide (0<([x]++((put_v0 l).drop t0.toNat)).length))
R))))) (.appF 576 AV.int ((l.take t0.toNat).drop 0) ([x]++((put_v0 l).drop t0.toNat))
(.say (fun R=>ck (decide (((l.take t0.toNat).drop 0).length+([x]++((put_v0 l).drop t0.toNat)).length≤1048576))
((Rf ((((l.take t0.toNat).drop 0)++([x]++((put_v0 l).drop t0.toNat))).map AV.int) R))) (.cmdL (.frzE 576 ((((l.take t0.toNat).drop 0)++([x]++((put_v0 l).drop t0.toNat))).map AV.int) (pureBL_map (fun _=>rfl) (((l.take t0.toNat).drop 0)++([x]++((put_v0 l).drop t0.toNat))))) (.ret (((l.take t0.toNat).drop 0)++([x]++((put_v0 l).drop t0.toNat))))))))))))))))))
def put_vc(l:(List Int))(x:Int)(I0:Int→Prop)(m0:Int→Nat)(r0:(List Int)):Prop:=(put_x l x I0 m0).vp put_e r0
theorem put_p(l:List Int)(x:Int)(hl:l.length≤900000)(ok:put_a l x):∃I m,put_vc l x I m (put l x):=by
 refine ⟨fun t=>∃k:Nat,t=k∧k≤l.length∧∀j y,j<k→l[j]?=some y→y<x,fun t=>l.length-t.toNat,?_⟩
 dsimp only [put_vc,put_x,put_s,put_v0,Ax.vp,Ax.vc];simp only [vcU,rfU,List.length_map]
 have hle:=putP_le l x
 have key:∀k:Nat,putP l x=k→l[k]?≠some x→List.drop 0 (List.take k l)++([x]++List.drop k (List.take (l.length:Int).toNat l))=put l x:=fun k e hne=>by
  rw [insAt_eq,put,e,if_neg hne]
 refine ⟨⟨0,rfl,by omega,fun j y h=>by omega⟩,?_⟩
 rintro _ ⟨k,rfl,hk,h⟩
 simp only [Int.toNat_natCast]
 have hb1:bndB l.length k l.length l.length=true:=by simp [bndB];omega
 have hb2:bndB l.length 0 k k=true:=by simp [bndB];omega
 have e1:(List.take l.length l)=l:=List.take_length
 refine ⟨fun h1=>⟨by omega,by omega,fun y hy=>⟨fun e=>?_,fun e=>⟨fun h2=>⟨by omega,by omega,fun z hz=>?_⟩,fun h2=>by omega⟩⟩⟩,fun h1=>⟨fun h2=>by omega,fun _=>?_⟩⟩
 ·rw [W_succ (n:=l.length) (by omega) (by omega)]
  refine ⟨⟨k+1,rfl,by omega,fun j z hj hz=>?_⟩,by omega⟩
  by_cases e':j=k
  ·subst e';rw [hz] at hy;cases hy;exact e
  ·exact h j z (by omega) hz
 ·have hq:=putP_eq h hk (.inr ⟨y,hy,e⟩)
  rw [hy] at hz;cases hz
  refine ⟨fun e'=>?_,fun e'=>?_⟩
  ·rw [put,hq,if_pos (by rw [hy];simpa using e')]
  ·have hne:l[k]?≠some x:=by rw [hy];simpa using e'
   refine ⟨hb1,?_,hb2,trivial,?_,?_,?_⟩
   ·simp;omega
   ·simp
   ·simp;omega
   ·have:=key k hq hne;simpa using this
 ·have hq:=putP_eq h hk (.inl (by omega))
  refine ⟨hb1,?_,hb2,trivial,?_,?_,?_⟩
  ·simp;omega
  ·simp
  ·simp;omega
  ·have:=key k hq (by rw [List.getElem?_eq_none (by omega)];simp);simpa using this
def put_c(l:(List Int))(x:Int)(hl:l.length≤900000):PC Tryz.prog:=⟨19,[(.s 1),.k],[.sl 1 (l.map AV.int) false,.int x],put_e (put l x),PSpec.of_ok fun ok=>(put_p l x hl ok).elim fun I0 h=>h.elim fun m0 h=>mxP_of (sh:=(.s 1)) (enc:=put_e) (a:=(put_x l x I0 m0).an) h (by kernel_rfl) (AV.pureB_ok rfl),fnB_ok (by kernel_rfl)⟩
def src1(L:List Int)(p:Nat):Int:=pickI [rng L p 1 6,rng L (rawP L p) 1 20,rng L (rawP L (rawP L p)) 1 99] (rawV L (rawP L (rawP L (rawP L p))))
def src1P(L:List Int)(p:Nat):Nat:=rawP L (rawP L (rawP L (rawP L p)))
def srcLoop(L:List Int):Nat→List Int→Nat→List Int×Nat
 | 0,out,p=>(out,p)
 | i+1,out,p=>srcLoop L i (put out (src1 L p)) (src1P L p)
def sources(L:List Int)(p:Nat)(n:Int):List Int×Nat:=srcLoop L (Mod (rawV L p) (n+1)).toNat [] (rawP L p)
theorem src1_in(L:List Int)(p:Nat):1≤src1 L p∧src1 L p≤99:=by
 have h1:=rng_in (L:=L) (p:=p) (lo:=1) (hi:=6) (by omega)
 have h2:=rng_in (L:=L) (p:=rawP L p) (lo:=1) (hi:=20) (by omega)
 have h3:=rng_in (L:=L) (p:=rawP L (rawP L p)) (lo:=1) (hi:=99) (by omega)
 have:=pickI_mem (l:=[rng L p 1 6,rng L (rawP L p) 1 20,rng L (rawP L (rawP L p)) 1 99]) (by simp) (rawV L (rawP L (rawP L (rawP L p))))
 unfold src1
 generalize pickI _ _=v at this
 simp only [List.mem_cons,List.not_mem_nil,or_false] at this
 omega
theorem srcLoop_ok{L:List Int}:∀{i:Nat} {out:List Int} {p:Nat},rngI out→ascI out→rngI (srcLoop L i out p).1∧ascI (srcLoop L i out p).1
 | 0,_,_,h,h2=>⟨h,h2⟩
 | i+1,out,p,h,h2=>by
  rw [srcLoop]
  exact srcLoop_ok (put_rng h (src1_in L p)) (put_asc h2)
theorem sources_in(L:List Int)(p:Nat)(n:Int):rngI (sources L p n).1∧ascI (sources L p n).1:=srcLoop_ok (fun _ h=>by simp at h) (fun i h=>by simp at h)
def sources_a(L:(List Int))(p:Nat)(n:Int):Prop:=okL [.ref 0 0,.int n]∧(.box (.agg [.sl 1 (L.map AV.int) false,.int ((p:Nat):Int)]):Blk).ok
def sources_n0(L:(List Int))(t0:(List Int)×Int×Nat):NF:=⟨[(0,.k,.ref 0 0),(5,(.s 1),.sl 1 (t0.1.map AV.int) false),(6,.k,.int t0.2.1)],[.box (.agg [.sl 1 (L.map AV.int) false,.int ((t0.2.2:Nat):Int)])]⟩
@[reducible] def sources_s:Nat→Type
 | 0=>(List Int)×Int×Nat
 | _=>Unit
def sources_e(r:Tap×(List Int)):AV:=.sl 1 (r.2.map AV.int) false
def sources_b(r:Tap×(List Int)):List (Option Blk):=[some (.box (.agg [.sl 1 (r.1.L.map AV.int) false,.int ((r.1.p:Nat):Int)]))]
def sources_x(L:(List Int))(p:Nat)(n:Int)(I0:((List Int)×Int×Nat)→Prop)(m0:((List Int)×Int×Nat)→Nat):Ax Tryz.prog sources_s (Tap×(List Int)):=
 (.callH [0] (N_h L p (W (n+1))) 81
(.loop 0 (sources_n0 L) I0 m0 ([],Mod (rawV L p) (W (n+1)),rawP L p) [0] fun (t0:(List Int)×Int×Nat) b0 =>
(.br 33 (decide (0<t0.2.1)) (.callH [0] (Range_h L t0.2.2 1 6) 81
(.callH [0] (Range_h L (rawP L t0.2.2) 1 20) 113
(.callH [0] (Range_h L (rawP L (rawP L t0.2.2)) 1 99) 145
(.req 177 ([rng L t0.2.2 1 6,rng L (rawP L t0.2.2) 1 20,rng L (rawP L (rawP L t0.2.2)) 1 99]≠[]) fun h1 =>
(.callH [0] (Pick_h L (rawP L (rawP L (rawP L t0.2.2))) [rng L t0.2.2 1 6,rng L (rawP L t0.2.2) 1 20,rng L (rawP L (rawP L t0.2.2)) 1 99] h1) 177
(.req 193 (t0.1.length≤900000) fun h2 =>
(.callP (put_c t0.1 (pickI [rng L t0.2.2 1 6,rng L (rawP L t0.2.2) 1 20,rng L (rawP L (rawP L t0.2.2)) 1 99] (rawV L (rawP L (rawP L (rawP L t0.2.2))))) h2)
(.bk 0 b0 (put t0.1 (pickI [rng L t0.2.2 1 6,rng L (rawP L t0.2.2) 1 20,rng L (rawP L (rawP L t0.2.2)) 1 99] (rawV L (rawP L (rawP L (rawP L t0.2.2))))),W (t0.2.1-1),rawP L (rawP L (rawP L (rawP L t0.2.2)))) [0]))))))))
(.retH ((⟨L,t0.2.2⟩:Tap),t0.1) ⟨[(4,.k,.sl 1 (t0.1.map AV.int) false)],[.box (.agg [.sl 1 (L.map AV.int) false,.int ((t0.2.2:Nat):Int)])]⟩ [0]))))
def sources_vc(L:(List Int))(p:Nat)(n:Int)(I0:((List Int)×Int×Nat)→Prop)(m0:((List Int)×Int×Nat)→Nat)(r0:Tap×(List Int)):Prop:=(sources_x L p n I0 m0).vc sources_e sources_b r0
theorem sources_p(L:List Int)(p:Nat)(n:Int)(hn:0≤n∧n≤1000)(ok:sources_a L p n):∃I m,sources_vc L p n I m ((⟨L,(sources L p n).2⟩:Tap),(sources L p n).1):=by
 have hm:=Mod_range (x:=rawV L p) (show 1≤n+1 by omega)
 refine ⟨fun t=>∃i:Nat,t.2.1=i∧srcLoop L i t.1 t.2.2=sources L p n∧i+t.1.length≤2000,fun t=>t.2.1.toNat,?_⟩
 dsimp only [sources_vc,sources_x,sources_s,Ax.vp,Ax.vc];simp only [vcU,rfU,List.length_map]
 rw [W_eq (by omega)]
 refine ⟨⟨(Mod (rawV L p) (n+1)).toNat,by omega,rfl,by simp;omega⟩,?_⟩
 rintro ⟨out,_,q⟩ ⟨i,rfl,h,hl⟩
 simp only at h hl ⊢
 refine ⟨fun h1=>?_,fun h1=>?_⟩
 ·obtain ⟨i,rfl⟩:∃k,i=k+1:=⟨i-1,by omega⟩
  refine ⟨by simp,by omega,⟨i,?_,h,?_⟩,?_⟩
  ·rw [W_eq (by omega)];omega
  ·have:=put_length out (src1 L q);show i+(put out (src1 L q)).length≤2000;omega
  ·rw [W_eq (by omega)];omega
 ·obtain rfl:i=0:=by omega
  rw [←h];rfl
def sources_h(L:(List Int))(p:Nat)(n:Int)(hn:0≤n∧n≤1000):HC Tryz.prog:=⟨118,[.k,.k],[.ref 0 0,.int n],[.box (.agg [.sl 1 (L.map AV.int) false,.int ((p:Nat):Int)])],sources_e (((⟨L,(sources L p n).2⟩:Tap),(sources L p n).1):Tap×List Int),sources_b (((⟨L,(sources L p n).2⟩:Tap),(sources L p n).1):Tap×List Int),HSpec.of_okh fun ok ok2=>have ok:sources_a L p n:=⟨ok,ok2 _ (by simp)⟩;(sources_p L p n hn ok).elim fun I0 h=>h.elim fun m0 h=>mxH_of (sh:=(.s 1)) (enc:=sources_e) (hB:=sources_b) (a:=(sources_x L p n I0 m0).an) h (by kernel_rfl),fnB_ok (by kernel_rfl),HcOk.of (by simp [hcB,belBL,AV.belB,allB,okBk,okBkO,sources_e,sources_b,pureBL_map (v:=AV.int) (fun _=>rfl)])⟩
def fltN(L:List Int)(p:Nat):Int:=pickI [0,2,4,4,16,99] (rawV L p)
def filterT(L:List Int)(p:Nat):Flt×Nat:=(⟨rng L (rawP L p) 1 2,(sources L (rawP L (rawP L p)) (fltN L p)).1⟩,(sources L (rawP L (rawP L p)) (fltN L p)).2)
theorem fltN_in(L:List Int)(p:Nat):0≤fltN L p∧fltN L p≤1000:=by
 have:=pickI_mem (l:=[0,2,4,4,16,99]) (by simp) (rawV L p)
 unfold fltN
 generalize pickI _ _=v at this
 simp only [List.mem_cons,List.not_mem_nil,or_false] at this
 omega
theorem filterT_in(L:List Int)(p:Nat):fltErr (filterT L p).1.mode (filterT L p).1.srcs=0:=by
 have h1:=rng_in (L:=L) (p:=rawP L p) (lo:=1) (hi:=2) (by omega)
 have h2:rngI (filterT L p).1.srcs∧ascI (filterT L p).1.srcs:=sources_in L _ _
 unfold fltErr
 rw [if_neg,if_neg (not_not_intro h2.1),if_neg (not_not_intro h2.2)]
 refine not_not_intro ?_
 show rng L (rawP L p) 1 2=1∨rng L (rawP L p) 1 2=2
 omega
def filterT_a(L:(List Int))(p:Nat):Prop:=okL [.ref 0 0]∧(.box (.agg [.sl 1 (L.map AV.int) false,.int ((p:Nat):Int)]):Blk).ok
def filterT_e(r:Tap×Flt):AV:=.agg [.int r.2.mode,.sl 1 (r.2.srcs.map AV.int) false]
def filterT_b(r:Tap×Flt):List (Option Blk):=[some (.box (.agg [.sl 1 (r.1.L.map AV.int) false,.int ((r.1.p:Nat):Int)]))]
def filterT_x(L:(List Int))(p:Nat):Ax Tryz.prog noS (Tap×Flt):=
 (.req 49 ([0,2,4,4,16,99]≠[]) fun h1 =>
(.callH [0] (Pick_h L p [0,2,4,4,16,99] h1) 49
(.callH [0] (Range_h L (rawP L p) 1 2) 97
(.req 145 (0≤(pickI [0,2,4,4,16,99] (rawV L p))∧(pickI [0,2,4,4,16,99] (rawV L p))≤1000) fun h2 =>
(.callH [0] (sources_h L (rawP L (rawP L p)) (pickI [0,2,4,4,16,99] (rawV L p)) h2) 145
(.retH ((⟨L,(sources L (rawP L (rawP L p)) (pickI [0,2,4,4,16,99] (rawV L p))).2⟩:Tap),(⟨rng L (rawP L p) 1 2,(sources L (rawP L (rawP L p)) (pickI [0,2,4,4,16,99] (rawV L p))).1⟩:Flt)) ⟨[(2,.k,.ref 1 0)],[.box (.agg [.sl 1 (L.map AV.int) false,.int ((((sources L (rawP L (rawP L p)) (pickI [0,2,4,4,16,99] (rawV L p))).2):Nat):Int)]),.box (.agg [.int (rng L (rawP L p) 1 2),.sl 1 (((sources L (rawP L (rawP L p)) (pickI [0,2,4,4,16,99] (rawV L p))).1).map AV.int) false])]⟩ [0,1]))))))
def filterT_vc(L:(List Int))(p:Nat)(r0:Tap×Flt):Prop:=(filterT_x L p).vc filterT_e filterT_b r0
theorem filterT_p(L:List Int)(p:Nat)(ok:filterT_a L p):filterT_vc L p ((⟨L,(filterT L p).2⟩:Tap),(filterT L p).1):=by
 dsimp only [filterT_vc,filterT_x,noS,Ax.vp,Ax.vc];simp only [vcU,rfU,List.length_map]
 exact ⟨by simp,fltN_in L p,rfl⟩
def filterT_h(L:(List Int))(p:Nat):HC Tryz.prog:=⟨80,[.k],[.ref 0 0],[.box (.agg [.sl 1 (L.map AV.int) false,.int ((p:Nat):Int)])],filterT_e (((⟨L,(filterT L p).2⟩:Tap),(filterT L p).1):Tap×Flt),filterT_b (((⟨L,(filterT L p).2⟩:Tap),(filterT L p).1):Tap×Flt),HSpec.of_okh fun ok ok2=>have ok:filterT_a L p:=⟨ok,ok2 _ (by simp)⟩;mxH_of (sh:=(.a [.k,(.s 1)])) (enc:=filterT_e) (hB:=filterT_b) (a:=(filterT_x L p).an) (filterT_p L p ok) (by kernel_rfl),fnB_ok (by kernel_rfl),HcOk.of (by simp [hcB,belBL,AV.belB,allB,okBk,okBkO,filterT_e,filterT_b,pureBL_map (v:=AV.int) (fun _=>rfl)])⟩
structure Itm where
  ver:Int
  grp:Int
  mode:Int
  srcs:List Int
  deriving DecidableEq
structure Wnt where
  grp:Int
  mode:Int
  srcs:List Int
  deriving DecidableEq
structure Per where
  router:Int
  epoch:Int
  acked:Int
  deriving DecidableEq
structure Spk where
  router:Int
  epoch:Int
  last:Int
  items:List Itm
  peers:List Per
  deriving DecidableEq
structure Hrd where
  router:Int
  epoch:Int
  ver:Int
  items:List Itm
  deriving DecidableEq
structure Lsn where
  router:Int
  epoch:Int
  heard:List Hrd
  deriving DecidableEq
structure Sig where
  kind:Int
  src:Int
  dst:Int
  epoch:Int
  ver:Int
  prev:Int
  pep:Int
  grp:Int
  mode:Int
  srcs:List Int
  deriving DecidableEq
def Itm.v(x:Itm):AV:=.agg [.int x.ver,.int x.grp,.int x.mode,ints x.srcs]
def itms(l:List Itm):AV:=.sl 4 (l.map Itm.v) false
def Wnt.v(x:Wnt):AV:=.agg [.int x.grp,.int x.mode,ints x.srcs]
def Per.v(x:Per):AV:=.agg [.int x.router,.int x.epoch,.int x.acked]
def pers(l:List Per):AV:=.sl 3 (l.map Per.v) false
def Spk.v(x:Spk):AV:=.agg [.int x.router,.int x.epoch,.int x.last,itms x.items,pers x.peers]
def Hrd.v(x:Hrd):AV:=.agg [.int x.router,.int x.epoch,.int x.ver,itms x.items]
def hrds(l:List Hrd):AV:=.sl 4 (l.map Hrd.v) false
def Lsn.v(x:Lsn):AV:=.agg [.int x.router,.int x.epoch,hrds x.heard]
def Sig.v(x:Sig):AV:=.agg [.int x.kind,.int x.src,.int x.dst,.int x.epoch,.int x.ver,.int x.prev,.int x.pep,.int x.grp,.int x.mode,ints x.srcs]
def sigs(l:List Sig):AV:=.sl 10 (l.map Sig.v) false
def itmOk(last:Int)(x:Itm):Prop:=(1≤x.ver∧x.ver≤last)∧(1≤x.grp∧x.grp≤99)∧fltErr x.mode x.srcs=0
instance (last:Int) (x:Itm):Decidable (itmOk last x):=by unfold itmOk;infer_instance
def itmsOk(last:Int)(l:List Itm):Prop:=(∀x∈l,itmOk last x)∧(l.map Itm.grp).Nodup∧l.Pairwise fun x y=>x.ver<y.ver
instance (last:Int) (l:List Itm):Decidable (itmsOk last l):=by unfold itmsOk;infer_instance
def perOk(r last:Int)(p:Per):Prop:=(1≤p.router∧p.router≤99)∧p.router≠r∧(0≤p.epoch∧p.epoch≤1000000)∧(0≤p.acked∧p.acked≤last)
instance (r last:Int) (p:Per):Decidable (perOk r last p):=by unfold perOk;infer_instance
def spkOk(s:Spk):Prop:=(1≤s.router∧s.router≤99)∧(1≤s.epoch∧s.epoch≤1000000)∧(0≤s.last∧s.last≤1000000)∧itmsOk s.last s.items∧s.peers.length≤12 ∧
 (∀p∈s.peers,perOk s.router s.last p)∧s.peers.Pairwise fun x y=>x.router<y.router
instance (s:Spk):Decidable (spkOk s):=by unfold spkOk;infer_instance
def hrdOk(r:Int)(h:Hrd):Prop:=(1≤h.router∧h.router≤99)∧h.router≠r∧(1≤h.epoch∧h.epoch≤1000000)∧(0≤h.ver∧h.ver≤1000000)∧itmsOk h.ver h.items
instance (r:Int) (h:Hrd):Decidable (hrdOk r h):=by unfold hrdOk;infer_instance
def lsnOk(l:Lsn):Prop:=(1≤l.router∧l.router≤99)∧(1≤l.epoch∧l.epoch≤1000000)∧l.heard.length≤12∧(∀h∈l.heard,hrdOk l.router h)∧l.heard.Pairwise fun x y=>x.router<y.router
instance (l:Lsn):Decidable (lsnOk l):=by unfold lsnOk;infer_instance
def errIf(p:Prop)[Decidable p]:Int:=if p then 0 else 1
def sigNums(x:Sig):Prop:=
 if x.kind=1 then (1≤x.epoch∧x.epoch≤1000000)∧(0≤x.ver∧x.ver≤1000000)∧x.prev=0∧x.pep=0∧x.grp=0
 else if x.kind=2 then (1≤x.epoch∧x.epoch≤1000000)∧(1≤x.ver∧x.ver≤1000000)∧(0≤x.prev∧x.prev≤x.ver-1)∧x.pep=0∧(1≤x.grp∧x.grp≤99)
 else (0≤x.epoch∧x.epoch≤1000000)∧(0≤x.ver∧x.ver≤1000000)∧x.prev=0∧(1≤x.pep∧x.pep≤1000000)∧x.grp=0
instance (x:Sig):Decidable (sigNums x):=by unfold sigNums;infer_instance
def sigEnds(x:Sig):Prop:=(1≤x.src∧x.src≤99)∧(1≤x.dst∧x.dst≤99)∧x.src≠x.dst
instance (x:Sig):Decidable (sigEnds x):=by unfold sigEnds;infer_instance
def sigErr(x:Sig):Int:=
 if ¬(x.kind=1∨x.kind=2∨x.kind=3) then 1 else if ¬(sigEnds x∧sigNums x) then 2
 else if x.kind=2 then fltErr x.mode x.srcs else if x.mode≠0∨x.srcs≠[] then 1 else 0
def isNoW(w:Wnt):Prop:=w.mode=1∧w.srcs=[]
instance (w:Wnt):Decidable (isNoW w):=by unfold isNoW;infer_instance
def wFErrs(l:List Wnt):Int:=orI (l.map fun x=>fltErr x.mode x.srcs)
def wErr(chg:Bool)(l:List Wnt):Int:=
 if 32<l.length then 3 else if ¬(∀w∈l,1≤w.grp∧w.grp≤99) then 2 else if wFErrs l≠0 then wFErrs l
 else if chg=false∧∃w∈l,isNoW w then 1 else if ¬(l.Pairwise fun x y=>x.grp<y.grp) then 25 else 0
def without(g:Int)(l:List Itm):List Itm:=l.filter fun x=>decide (x.grp≠g)
def put1(l:List Itm)(x:Itm):List Itm:=without x.grp l++[x]
def told(l:List Itm)(g:Int):Int×List Int:=match l.find? fun x=>decide (x.grp=g) with
 | some x=>(x.mode,x.srcs)
 | none=>(1,[])
def chg1(s:Int×List Itm)(w:Wnt):Int×List Itm:=
 if told s.2 w.grp=(w.mode,w.srcs) then s else (s.1+1,put1 s.2 ⟨s.1+1,w.grp,w.mode,w.srcs⟩)
def spk0:Spk:=⟨0,0,0,[],[]⟩
def lsn0:Lsn:=⟨0,0,[]⟩
def sig0:Sig:=⟨0,0,0,0,0,0,0,0,0,[]⟩
abbrev SR:=Spk×Int
def new(r k:Int)(p:List Int):SR:=
 let s:Spk:=⟨r,k,0,[],p.map fun x=>⟨x,0,0⟩⟩
 if spkOk s then (s,0) else (spk0,1)
def change(s:Spk)(c:List Wnt):SR:=
 if ¬spkOk s then (spk0,1) else if wErr true c≠0 then (spk0,wErr true c)
 else if 1000000<(c.foldl chg1 (s.last,s.items)).1 then (spk0,3)
 else (⟨s.router,s.epoch,(c.foldl chg1 (s.last,s.items)).1,(c.foldl chg1 (s.last,s.items)).2,s.peers⟩,0)
def wItm(i:Nat)(w:Wnt):Itm:=⟨i+1,w.grp,w.mode,w.srcs⟩
def restart(s:Spk)(w:List Wnt):SR:=
 if ¬spkOk s then (spk0,1) else if wErr false w≠0 then (spk0,wErr false w) else if s.epoch=1000000 then (spk0,3)
 else (⟨s.router,s.epoch+1,w.length,w.mapIdx wItm,s.peers.map fun p=>⟨p.router,0,0⟩⟩,0)
def posP(l:List Per)(r:Int):Nat:=l.findIdx fun p=>!decide (p.router<r)
def hitP(l:List Per)(r:Int):Prop:=posP l r<l.length∧(l.getD (posP l r) ⟨0,0,0⟩).router=r
instance (l:List Per) (r:Int):Decidable (hitP l r):=by unfold hitP;infer_instance
def posH(l:List Hrd)(r:Int):Nat:=l.findIdx fun p=>!decide (p.router<r)
def hrd0:Hrd:=⟨0,0,0,[]⟩
def hitH(l:List Hrd)(r:Int):Prop:=posH l r<l.length∧(l.getD (posH l r) hrd0).router=r
instance (l:List Hrd) (r:Int):Decidable (hitH l r):=by unfold hitH;infer_instance
def upd1(s:Spk)(to prev:Int)(x:Itm):Sig:=⟨2,s.router,to,s.epoch,x.ver,prev,0,x.grp,x.mode,x.srcs⟩
def sendFrom(s:Spk)(to acked:Int):Int→List Itm→List Sig
 | _,[]=>[]
 | prev,x::r=>(if acked<x.ver then [upd1 s to prev x] else [])++sendFrom s to acked x.ver r
def hello(s:Spk)(to:Int):Sig:=⟨1,s.router,to,s.epoch,s.last,0,0,0,0,[]⟩
def send(s:Spk)(to:Int):List Sig×Int:=
 if ¬spkOk s then ([],1) else if ¬hitP s.peers to then ([],4)
 else (hello s to::sendFrom s to (s.peers.getD (posP s.peers to) ⟨0,0,0⟩).acked 0 s.items,0)
def ackV(s:Spk)(x:Sig):Int:=if x.epoch=s.epoch∧x.ver≤s.last then x.ver else 0
def ackP(s:Spk)(x:Sig)(p:Per):Per:=
 if p.epoch<x.pep then ⟨p.router,x.pep,ackV s x⟩ else if x.pep=p.epoch then ⟨p.router,p.epoch,maxI p.acked (ackV s x)⟩ else p
def ack(s:Spk)(x:Sig):SR:=
 if ¬spkOk s then (spk0,1) else if sigErr x≠0 then (spk0,sigErr x) else if x.kind≠3∨x.dst≠s.router then (spk0,1)
 else if ¬hitP s.peers x.src then (spk0,4)
 else (⟨s.router,s.epoch,s.last,s.items,s.peers.set (posP s.peers x.src) (ackP s x (s.peers.getD (posP s.peers x.src) ⟨0,0,0⟩))⟩,0)
def sigItm(x:Sig):Itm:=⟨x.ver,x.grp,x.mode,x.srcs⟩
def hear1(h:Hrd)(x:Sig):Hrd:=
 if x.kind=2∧x.epoch=h.epoch∧x.prev≤h.ver∧h.ver<x.ver then ⟨h.router,h.epoch,x.ver,put1 h.items (sigItm x)⟩ else h
def hear0(h:Hrd)(x:Sig):Hrd:=if h.epoch<x.epoch then ⟨x.src,x.epoch,0,[]⟩ else h
def base(l:List Hrd)(r:Int):List Hrd:=if hitH l r then l else insAt l (posH l r) ⟨r,0,0,[]⟩
abbrev HR:=(Lsn×Sig)×Int
def hearH(l:List Hrd)(x:Sig):Hrd:=hear1 (hear0 ((base l x.src).getD (posH l x.src) hrd0) x) x
def hear(l:Lsn)(x:Sig):HR:=
 if ¬lsnOk l then ((lsn0,sig0),1) else if sigErr x≠0 then ((lsn0,sig0),sigErr x) else if x.kind=3∨x.dst≠l.router then ((lsn0,sig0),1)
 else if ¬hitH l.heard x.src∧l.heard.length=12 then ((lsn0,sig0),3)
 else ((⟨l.router,l.epoch,(base l.heard x.src).set (posH l.heard x.src) (hearH l.heard x)⟩,
  ⟨3,l.router,x.src,(hearH l.heard x).epoch,(hearH l.heard x).ver,0,l.epoch,0,0,[]⟩),0)
def atH(l:List Hrd)(r:Int):Hrd:=l.getD (posH l r) hrd0
def agree(s:Spk)(l:Lsn):Prop:=
 spkOk s∧lsnOk l∧hitH l.heard s.router∧(atH l.heard s.router).epoch=s.epoch∧(atH l.heard s.router).ver=s.last∧(atH l.heard s.router).items=s.items
instance (s:Spk) (l:Lsn):Decidable (agree s l):=by unfold agree;infer_instance
theorem mem_without{g:Int}{l:List Itm}{x:Itm}:x∈without g l↔x∈l∧x.grp≠g:=by simp [without]
theorem mem_put1{l:List Itm}{x y:Itm}:y∈put1 l x↔(y∈l∧y.grp≠x.grp)∨y=x:=by simp [put1,mem_without]
theorem itmsOk.mono{n m:Int}{l:List Itm}(h:itmsOk n l)(hm:n≤m):itmsOk m l:=
 ⟨fun x hx=>by obtain ⟨⟨a,b⟩,c⟩:=h.1 x hx;exact ⟨⟨a,by omega⟩,c⟩,h.2⟩
theorem itmsOk.without{n g:Int}{l:List Itm}(h:itmsOk n l):itmsOk n (without g l):=
 ⟨fun x hx=>h.1 x (mem_without.mp hx).1,h.2.1.sublist (List.Sublist.map _ List.filter_sublist),h.2.2.sublist List.filter_sublist⟩
theorem itmsOk.put{n:Int}{l:List Itm}{x:Itm}(h:itmsOk n l)(h1:n<x.ver)(h2:1≤x.ver)(h3:1≤x.grp∧x.grp≤99)(h4:fltErr x.mode x.srcs=0):itmsOk x.ver (put1 l x):=by
 have hw:=h.without (g:=x.grp)
 refine ⟨fun y hy=>?_,?_,?_⟩
 ·rcases List.mem_append.mp hy with hy|hy
  ·obtain ⟨⟨a,b⟩,c⟩:=hw.1 y hy
   exact ⟨⟨a,by omega⟩,c⟩
  ·rw [List.mem_singleton] at hy;subst hy
   exact ⟨⟨h2,Int.le_refl _⟩,h3,h4⟩
 ·rw [put1,List.map_append]
  refine List.nodup_append.mpr ⟨hw.2.1,by simp,?_⟩
  intro a ha b hb e
  obtain ⟨y,hy,rfl⟩:=List.mem_map.mp ha
  simp at hb
  subst hb
  exact (mem_without.mp hy).2 e
 ·refine List.pairwise_append.mpr ⟨hw.2.2,List.pairwise_singleton _ _,fun a ha b hb=>?_⟩
  rw [List.mem_singleton] at hb;subst hb
  have:=(hw.1 a ha).1.2
  omega
theorem Nodup.grp{l:List Itm}(h:(l.map Itm.grp).Nodup){x y:Itm}(hx:x∈l)(hy:y∈l)(e:x.grp=y.grp):x=y:=by
 induction l with
 | nil=>simp at hx
 | cons z l ih =>
  simp only [List.map_cons,List.nodup_cons] at h
  rcases List.mem_cons.mp hx with h1|h1
  ·rcases List.mem_cons.mp hy with h2|h2
   ·rw [h1,h2]
   ·exact absurd (List.mem_map.mpr ⟨y,h2,by rw [←e,h1]⟩) h.1
  ·rcases List.mem_cons.mp hy with h2|h2
   ·exact absurd (List.mem_map.mpr ⟨x,h1,by rw [e,h2]⟩) h.1
   ·exact ih h.2 h1 h2
theorem asc_ext:∀{a b:List Itm},a.Pairwise (fun x y=>x.ver<y.ver)→b.Pairwise (fun x y=>x.ver<y.ver)→(∀x,x∈a↔x∈b)→a=b:=by
 intro a
 induction a with
 | nil =>
  intro b _ _ h
  cases b with
  | nil=>rfl
  | cons y b=>exact absurd ((h y).mpr (by simp)) (by simp)
 | cons x a ih =>
  intro b ha hb h
  cases b with
  | nil=>exact absurd ((h x).mp (by simp)) (by simp)
  | cons y b =>
   rw [List.pairwise_cons] at ha hb
   have hxy:x=y:=by
    refine Classical.byContradiction fun hne=>?_
    have h1:x∈b:=(List.mem_cons.mp ((h x).mp (by simp))).resolve_left hne
    have h2:y∈a:=(List.mem_cons.mp ((h y).mpr (by simp))).resolve_left (Ne.symm hne)
    have:=ha.1 y h2
    have:=hb.1 x h1
    omega
   subst hxy
   rw [ih ha.2 hb.2 fun z=>?_]
   constructor
   ·intro hz
    refine (List.mem_cons.mp ((h z).mp (by simp [hz]))).resolve_left fun e=>?_
    subst e
    have:=ha.1 z hz
    omega
   ·intro hz
    refine (List.mem_cons.mp ((h z).mpr (by simp [hz]))).resolve_left fun e=>?_
    subst e
    have:=hb.1 z hz
    omega
structure Adv (n:Int) (l:List Itm) (m:Int) (k:List Itm):Prop where
  le:n≤m
  old:∀z∈k,z∈l∨n<z.ver
  grp:∀z∈l,∃y∈k,y.grp=z.grp
theorem Adv.refl(n:Int)(l:List Itm):Adv n l n l:=⟨Int.le_refl _,fun _ h=>.inl h,fun z h=>⟨z,h,rfl⟩⟩
theorem Adv.trans{n m p:Int}{a b c:List Itm}(h:Adv n a m b)(k:Adv m b p c):Adv n a p c:=by
 refine ⟨Int.le_trans h.le k.le,fun z hz=>?_,fun z hz=>?_⟩
 ·rcases k.old z hz with g|g
  ·exact h.old z g
  ·exact .inr (by have:=h.le;omega)
 ·obtain ⟨y,hy,e⟩:=h.grp z hz
  obtain ⟨x,hx,e'⟩:=k.grp y hy
  exact ⟨x,hx,e'.trans e⟩
theorem Adv.put{n:Int}{l:List Itm}{x:Itm}(h:n<x.ver):Adv n l x.ver (put1 l x):=by
 refine ⟨by omega,fun z hz=>?_,fun z hz=>?_⟩
 ·rcases mem_put1.mp hz with g|rfl
  ·exact .inl g.1
  ·exact .inr h
 ·by_cases e:z.grp=x.grp
  ·exact ⟨x,mem_put1.mpr (.inr rfl),e.symm⟩
  ·exact ⟨z,mem_put1.mpr (.inl ⟨hz,e⟩),rfl⟩
def chgOk(c:List Wnt):Prop:=∀w∈c,(1≤w.grp∧w.grp≤99)∧fltErr w.mode w.srcs=0
theorem chg1_ok{n:Int}{l:List Itm}{w:Wnt}(h:itmsOk n l)(h0:0≤n)(hw:(1≤w.grp∧w.grp≤99)∧fltErr w.mode w.srcs=0) :
  itmsOk (chg1 (n,l) w).1 (chg1 (n,l) w).2∧Adv n l (chg1 (n,l) w).1 (chg1 (n,l) w).2∧(chg1 (n,l) w).1≤n+1∧0≤(chg1 (n,l) w).1:=by
 unfold chg1
 split
 ·exact ⟨h,Adv.refl _ _,by simp only;omega,h0⟩
 ·exact ⟨h.put (x:=⟨n+1,w.grp,w.mode,w.srcs⟩) (by simp only;omega) (by simp only;omega) hw.1 hw.2,Adv.put (x:=⟨n+1,w.grp,w.mode,w.srcs⟩) (by simp only;omega),Int.le_refl _,by simp only;omega⟩
theorem chg_ok:∀{c:List Wnt} {n:Int} {l:List Itm},itmsOk n l→0≤n→chgOk c →
  itmsOk (c.foldl chg1 (n,l)).1 (c.foldl chg1 (n,l)).2∧Adv n l (c.foldl chg1 (n,l)).1 (c.foldl chg1 (n,l)).2∧(c.foldl chg1 (n,l)).1≤n+c.length∧0≤(c.foldl chg1 (n,l)).1
 | [],n,l,h,h0,_=>⟨h,Adv.refl _ _,by simp,h0⟩
 | w::c,n,l,h,h0,hc=>by
  obtain ⟨a1,a2,a3,a4⟩:=chg1_ok h h0 (hc w (by simp))
  obtain ⟨b1,b2,b3,b4⟩:=chg_ok (c:=c) a1 a4 (fun v hv=>hc v (by simp [hv]))
  refine ⟨b1,a2.trans b2,?_,b4⟩
  simp only [List.foldl_cons,List.length_cons]
  have:(c.foldl chg1 (chg1 (n,l) w)).1≤(chg1 (n,l) w).1+c.length:=b3
  omega
structure UpdOk (n:Int) (l:List Itm) (x:Sig):Prop where
  le:x.ver≤n
  has:∃z∈l,z.grp=x.grp
  grp:∀z∈l,z.grp=x.grp→x.ver≤z.ver
  gap:∀z∈l,z.ver≤x.ver→z.ver≤x.prev∨z=sigItm x
structure HrdOk (n:Int) (l:List Itm) (h:Hrd):Prop where
  le:h.ver≤n
  grp:∀y∈h.items,∃z∈l,z.grp=y.grp
  has:∀z∈l,z.ver≤h.ver→z∈h.items
theorem HrdOk.eq{n:Int}{l:List Itm}{h:Hrd}(o:HrdOk n l h)(hl:itmsOk n l)(hh:itmsOk h.ver h.items)(e:h.ver=n):h.items=l:=by
 refine asc_ext hh.2.2 hl.2.2 fun y=>⟨fun hy=>?_,fun hy=>o.has y hy ?_⟩
 ·obtain ⟨z,hz,e'⟩:=o.grp y hy
  have:=o.has z hz (by have:=(hl.1 z hz).1.2;omega)
  rw [←Nodup.grp hh.2.1 this hy e'];exact hz
 ·have:=(hl.1 y hy).1.2;omega
theorem Pairwise.mid{l r:List Itm}{x:Itm}(h:(l++x::r).Pairwise fun a b=>a.ver<b.ver):(∀y∈l,y.ver<x.ver)∧∀y∈r,x.ver<y.ver:=by
 rw [List.pairwise_append,List.pairwise_cons] at h
 exact ⟨fun y hy=>h.2.2 y hy x (by simp),fun y hy=>h.2.1.1 y hy⟩
theorem send_ok{s:Spk}{to acked:Int}(hs:itmsOk s.last s.items)(h1:s.last≤1000000):∀(r d:List Itm) (prev:Int),s.items=d++r→0≤prev→(∀y∈d,y.ver≤prev)→(∀y∈r,prev<y.ver) →
  ∀x∈sendFrom s to acked prev r,x.kind=2∧x.src=s.router∧x.dst=to∧x.epoch=s.epoch∧x.pep=0∧(0≤x.prev∧x.prev≤x.ver-1)∧(sigItm x)∈s.items∧UpdOk s.last s.items x
 | [],d,prev,_,_,_,_,x,hx=>by simp [sendFrom] at hx
 | y::r,d,prev,e,h0,hd,hr,x,hx=>by
  have hy:y∈s.items:=by rw [e];simp
  obtain ⟨m1,m2⟩:=Pairwise.mid (e ▸ hs.2.2)
  rcases List.mem_append.mp hx with hx|hx
  ·split at hx
   ·rw [List.mem_singleton] at hx;subst hx
    have hp:=hr y (by simp)
    refine ⟨rfl,rfl,rfl,rfl,rfl,⟨h0,by simp only [upd1];omega⟩,hy,(hs.1 y hy).1.2,⟨y,hy,rfl⟩,fun z hz e'=>?_,fun z hz hv=>?_⟩
    ·rw [Nodup.grp hs.2.1 hz hy e'];exact Int.le_refl _
    ·rw [e] at hz
     rcases List.mem_append.mp hz with hz|hz
     ·exact .inl (hd z hz)
     ·rcases List.mem_cons.mp hz with rfl|hz
      ·exact .inr rfl
      ·have:=m2 z hz;simp only [upd1] at hv;omega
   ·simp at hx
  ·refine send_ok hs h1 r (d++[y]) y.ver (by rw [e];simp) (by have:=(hs.1 y hy).1.1;omega) (fun z hz=>?_) m2 x hx
   rcases List.mem_append.mp hz with hz|hz
   ·have:=m1 z hz;omega
   ·rw [List.mem_singleton] at hz;subst hz;exact Int.le_refl _
theorem orI_zero2{l:List Int}:orI l=0↔∀x∈l,x=0:=by
 unfold orI
 cases h:l.find? (· != 0) with
 | none =>
  rw [List.find?_eq_none] at h
  exact ⟨fun _ x hx=>by simpa using h x hx,fun _=>rfl⟩
 | some a =>
  have h1:=List.find?_some h
  have h2:=List.mem_of_find?_eq_some h
  exact ⟨fun e=>by simp at e;subst e;simp at h1,fun e=>by rw [e a h2] at h1;simp at h1⟩
theorem wErr_zero{chg:Bool}{l:List Wnt}:wErr chg l=0↔l.length≤32∧(∀w∈l,1≤w.grp∧w.grp≤99)∧(∀w∈l,fltErr w.mode w.srcs=0)∧(chg=false→∀w∈l,¬isNoW w)∧l.Pairwise fun x y=>x.grp<y.grp:=by
 have hz:wFErrs l=0↔∀w∈l,fltErr w.mode w.srcs=0:=by
  rw [wFErrs,orI_zero2]
  constructor
  ·intro h w hw;exact h _ (List.mem_map.mpr ⟨w,hw,rfl⟩)
  ·intro h x hx;obtain ⟨w,hw,rfl⟩:=List.mem_map.mp hx;exact h w hw
 unfold wErr
 by_cases h1:32<l.length
 ·rw [if_pos h1];constructor
  ·intro h;omega
  ·intro h;omega
 rw [if_neg h1]
 by_cases h2:∀w∈l,1≤w.grp∧w.grp≤99
 case neg =>
  rw [if_pos h2];constructor
  ·intro h;omega
  ·intro h;exact absurd h.2.1 h2
 rw [if_neg (not_not_intro h2)]
 by_cases h3:wFErrs l=0
 case neg =>
  rw [if_pos h3]
  exact ⟨fun h=>absurd h h3,fun h=>hz.mpr h.2.2.1⟩
 rw [if_neg (not_not_intro h3)]
 by_cases h4:chg=false∧∃w∈l,isNoW w
 ·rw [if_pos h4]
  constructor
  ·intro h;omega
  ·intro h
   obtain ⟨hc,w,hw,hn⟩:=h4
   exact absurd hn (h.2.2.2.1 hc w hw)
 rw [if_neg h4]
 by_cases h5:l.Pairwise fun x y=>x.grp<y.grp
 ·rw [if_neg (not_not_intro h5)]
  exact ⟨fun _=>⟨by omega,h2,hz.mp h3,fun hc w hw hn=>h4 ⟨hc,w,hw,hn⟩,h5⟩,fun _=>rfl⟩
 ·rw [if_pos h5]
  exact ⟨fun h=>by omega,fun h=>absurd h.2.2.2.2 h5⟩
theorem chgOk_of{chg:Bool}{l:List Wnt}(h:wErr chg l=0):chgOk l:=by
 obtain ⟨_,h1,h2,_⟩:=wErr_zero.mp h
 exact fun w hw=>⟨h1 w hw,h2 w hw⟩
theorem ackP_ok{s:Spk}{x:Sig}{p:Per}(h:perOk s.router s.last p)(h0:0≤s.last)(hx:sigErr x=0)(hk:x.kind=3):perOk s.router s.last (ackP s x p)∧(ackP s x p).router=p.router:=by
 obtain ⟨h1,h2,h3,h4⟩:=h
 have hn:sigNums x:=by
  unfold sigErr at hx
  split at hx
  ·omega
  split at hx
  ·omega
  rename_i h;exact (Classical.not_not.mp h).2
 unfold sigNums at hn
 rw [if_neg (by omega),if_neg (by omega)] at hn
 have hv:0≤ackV s x∧ackV s x≤s.last:=by
  unfold ackV
  split
  ·exact ⟨hn.2.1.1,by omega⟩
  ·exact ⟨by omega,h0⟩
 unfold ackP
 split
 ·exact ⟨⟨h1,h2,⟨by simp only;omega,hn.2.2.2.1.2⟩,hv⟩,rfl⟩
 split
 ·refine ⟨⟨h1,h2,h3,?_⟩,rfl⟩
  simp only [maxI]
  split<;>omega
 ·exact ⟨⟨h1,h2,h3,h4⟩,rfl⟩
theorem restart_items{w:List Wnt}(h:chgOk w)(ho:w.Pairwise fun x y=>x.grp<y.grp):itmsOk w.length (w.mapIdx wItm):=by
 refine ⟨fun x hx=>?_,?_,?_⟩
 ·obtain ⟨i,hi,rfl⟩:=List.mem_mapIdx.mp hx
  obtain ⟨h1,h2⟩:=h _ (List.getElem_mem hi)
  exact ⟨⟨by simp only [wItm];omega,by simp only [wItm];omega⟩,h1,h2⟩
 ·have:(w.mapIdx wItm).map Itm.grp=w.map Wnt.grp:=by
   refine List.ext_getElem (by simp) fun i h1 h2=>?_
   simp [wItm]
  rw [this]
  rw [List.Nodup,List.pairwise_map]
  exact ho.imp fun h=>by omega
 ·rw [List.pairwise_iff_getElem]
  intro i j hi hj hij
  simp only [List.getElem_mapIdx,wItm]
  omega
theorem nodup_len:∀(n:Nat) (l:List Int),l.Nodup→(∀x∈l,1≤x∧x≤n)→l.length≤n
 | 0,l,_,h=>by
  cases l with
  | nil=>simp
  | cons x l=>have:=h x (by simp);omega
 | n+1,l,hn,h=>by
  have h1:=nodup_len n (l.erase ((n+1:Nat):Int)) (hn.erase _) (fun x hx=>by rw [hn.mem_erase_iff] at hx;have:=h x hx.2;omega)
  rw [List.length_erase] at h1
  split at h1<;>omega
theorem itms_len{n:Int}{l:List Itm}(h:itmsOk n l):l.length≤99:=by
 have:=nodup_len 99 (l.map Itm.grp) h.2.1 (fun x hx=>by obtain ⟨y,hy,rfl⟩:=List.mem_map.mp hx;exact (h.1 y hy).2.1)
 simpa using this
theorem sig_told{x:Sig}(hx:sigErr x=0)(hk:x.kind≠3):(1≤x.epoch∧x.epoch≤1000000)∧(0≤x.ver∧x.ver≤1000000)∧(x.kind=2→1≤x.ver∧(1≤x.grp∧x.grp≤99)∧fltErr x.mode x.srcs=0):=by
 unfold sigErr at hx
 split at hx
 ·omega
 split at hx
 ·omega
 rename_i h0 h1
 have hn:=(Classical.not_not.mp h1).2
 unfold sigNums at hn
 split at hn
 ·exact ⟨hn.1,hn.2.1,fun e=>by omega⟩
 split at hn
 ·rename_i h2
  rw [if_pos h2] at hx
  exact ⟨hn.1,⟨by omega,hn.2.1.2⟩,fun _=>⟨hn.2.1.1,hn.2.2.2.2,hx⟩⟩
 ·omega
def wNew(L:List Int)(p:Nat)(g:Int)(out:List Wnt):List Wnt:=
 if Mod (rawV L (filterT L p).2) 2=0∧((filterT L p).1.mode=2∨(filterT L p).1.srcs≠[]) then out++[⟨g,(filterT L p).1.mode,(filterT L p).1.srcs⟩] else out
def wPos(L:List Int)(p:Nat):Nat:=rawP L (filterT L p).2
def wantsL(L:List Int):Nat→Int→List Wnt→Nat→List Wnt×Nat
 | 0,_,out,p=>(out,p)
 | n+1,g,out,p=>wantsL L n (g+1) (wNew L p g out) (wPos L p)
def wantsT(L:List Int)(p:Nat):List Wnt×Nat:=wantsL L 6 1 [] p
def findW(l:List Wnt)(g:Int):Flt:=match l.find? fun w=>decide (w.grp=g) with
 | some w=>⟨w.mode,w.srcs⟩
 | none=>⟨1,[]⟩
def chgs1(old new:List Wnt)(g:Int):List Wnt:=if findW new g=findW old g then [] else [⟨g,(findW new g).mode,(findW new g).srcs⟩]
def chgsTo(old new:List Wnt):Nat→List Wnt
 | 0=>[]
 | n+1=>chgsTo old new n++chgs1 old new (n+1)
def changes(old new:List Wnt):List Wnt×Int:=
 if wErr false old≠0 then ([],wErr false old) else if wErr false new≠0 then ([],wErr false new)
 else if 32<(chgsTo old new 99).length then ([],3) else (chgsTo old new 99,0)
theorem chgsTo_len(old new:List Wnt):∀n:Nat,(chgsTo old new n).length≤n
 | 0=>Nat.le_refl _
 | n+1=>by
  have:=chgsTo_len old new n
  simp only [chgsTo,chgs1]
  split<;>simp<;>omega
def wantsTF_a(L:(List Int))(p:Nat):Prop:=okL [.ref 0 0]∧(.box (.agg [.sl 1 (L.map AV.int) false,.int ((p:Nat):Int)]):Blk).ok
def wantsTF_n0(L:(List Int))(t0:Int×Nat×(List Wnt)):NF:=⟨[(0,.k,.ref 0 0),(3,.k,.vec 1),(4,.k,.int t0.1)],[.box (.agg [.sl 1 (L.map AV.int) false,.int ((t0.2.1:Nat):Int)]),.vec 3 (t0.2.2.map Wnt.v) (pureBL_map (fun _=>rfl) t0.2.2)]⟩
@[reducible] def wantsTF_s:Nat→Type
 | 0=>Int×Nat×(List Wnt)
 | _=>Unit
def wantsTF_e(r:Tap×(List Wnt)):AV:=.sl 3 (r.2.map Wnt.v) false
def wantsTF_b(r:Tap×(List Wnt)):List (Option Blk):=[some (.box (.agg [.sl 1 (r.1.L.map AV.int) false,.int ((r.1.p:Nat):Int)]))]
def wantsTF_x(L:(List Int))(p:Nat)(I0:(Int×Nat×(List Wnt))→Prop)(m0:(Int×Nat×(List Wnt))→Nat):Ax Tryz.prog wantsTF_s (Tap×(List Wnt)):=
 (.cmdL (.nilT 3 3) (.loop 0 (wantsTF_n0 L) I0 m0 (1,p,[]) [0,49] fun (t0:Int×Nat×(List Wnt)) b0 =>
(.br 34 (decide (t0.1≤6)) (.callH [0] (filterT_h L t0.2.1) 50
(.callH [0] (N_h L ((filterT L t0.2.1).2) 2) 114
(.br 162 ((Mod (rawV L ((filterT L t0.2.1).2)) 2)==0) (.br 226 (((filterT L t0.2.1).1).mode==2) (.say (fun R=>Rf (α:=List AV) (t0.2.2.map Wnt.v) (Rf (α:=List AV) [.agg [.int t0.1,.int (((filterT L t0.2.1).1).mode),.sl 1 ((((filterT L t0.2.1).1).srcs).map AV.int) false]]
(ck (decide (t0.2.2.length+1≤1048576))
R))) (.app 402 Wnt.v t0.2.2 [(⟨t0.1,((filterT L t0.2.1).1).mode,((filterT L t0.2.1).1).srcs⟩:Wnt)]
(.bk 0 b0 (W (t0.1+1),rawP L ((filterT L t0.2.1).2),t0.2.2++[(⟨t0.1,((filterT L t0.2.1).1).mode,((filterT L t0.2.1).1).srcs⟩:Wnt)]) [0,402])))
(.br 322 (decide (0<(((((filterT L t0.2.1).1).srcs).map AV.int).length:Int))) (.say (fun R=>Rf (α:=List AV) (t0.2.2.map Wnt.v) (Rf (α:=List AV) [.agg [.int t0.1,.int (((filterT L t0.2.1).1).mode),.sl 1 ((((filterT L t0.2.1).1).srcs).map AV.int) false]]
(ck (decide (t0.2.2.length+1≤1048576))
R))) (.app 402 Wnt.v t0.2.2 [(⟨t0.1,((filterT L t0.2.1).1).mode,((filterT L t0.2.1).1).srcs⟩:Wnt)]
(.bk 0 b0 (W (t0.1+1),rawP L ((filterT L t0.2.1).2),t0.2.2++[(⟨t0.1,((filterT L t0.2.1).1).mode,((filterT L t0.2.1).1).srcs⟩:Wnt)]) [0,402])))
(.bk 0 b0 (W (t0.1+1),rawP L ((filterT L t0.2.1).2),t0.2.2) [0,1])))
(.bk 0 b0 (W (t0.1+1),rawP L ((filterT L t0.2.1).2),t0.2.2) [0,1]))))
(.say (Rf (t0.2.2.map Wnt.v)) (.cmdL (.frzE 1 (t0.2.2.map Wnt.v) (pureBL_map (fun _=>rfl) t0.2.2)) (.retH ((⟨L,t0.2.1⟩:Tap),t0.2.2) ⟨[(2,.k,.sl 3 (t0.2.2.map Wnt.v) false)],[.box (.agg [.sl 1 (L.map AV.int) false,.int ((t0.2.1:Nat):Int)])]⟩ [0]))))))
def wantsTF_vc(L:(List Int))(p:Nat)(I0:(Int×Nat×(List Wnt))→Prop)(m0:(Int×Nat×(List Wnt))→Nat)(r0:Tap×(List Wnt)):Prop:=(wantsTF_x L p I0 m0).vc wantsTF_e wantsTF_b r0
theorem wantsTF_p(L:List Int)(p:Nat)(ok:wantsTF_a L p):∃I m,wantsTF_vc L p I m (⟨L,(wantsT L p).2⟩,(wantsT L p).1):=by
 refine ⟨fun t=>∃k:Nat,t.1=((k+1:Nat):Int)∧k≤6∧wantsL L (6-k) t.1 t.2.2 t.2.1=wantsT L p∧t.2.2.length≤k,fun t=>7-t.1.toNat,?_⟩
 dsimp only [wantsTF_vc,wantsTF_x,wantsTF_s,Ax.vp,Ax.vc];simp only [vcU,rfU,List.length_map]
 refine ⟨⟨0,rfl,by omega,rfl,by simp⟩,?_⟩
 rintro ⟨_,q,out⟩ ⟨k,rfl,hk,h,hl⟩
 simp only at h hl
 refine ⟨fun h1=>?_,fun h1=>?_⟩
 ·have h1:k<6:=by simp only at h1;omega
  rw [show 6-k=(6-(k+1))+1 by omega,wantsL] at h
  simp only [W_succ (k:=k+1) (n:=7) (by omega) (by omega)]
  have hg:((k+1:Nat):Int)+1=((k+1+1:Nat):Int):=by omega
  rw [hg] at h
  have put:Mod (rawV L (filterT L q).2) 2=0∧((filterT L q).1.mode=2∨(filterT L q).1.srcs≠[]) →
    wNew L q ((k+1:Nat):Int) out=out++[⟨((k+1:Nat):Int),(filterT L q).1.mode,(filterT L q).1.srcs⟩]:=fun c=>by rw [wNew,if_pos c]
  have no:¬(Mod (rawV L (filterT L q).2) 2=0∧((filterT L q).1.mode=2∨(filterT L q).1.srcs≠[]))→wNew L q ((k+1:Nat):Int) out=out:=fun c=>by rw [wNew,if_neg c]
  refine ⟨fun c1=>⟨fun c2=>⟨by omega,⟨k+1,rfl,by omega,?_,by simp;omega⟩,by omega⟩,fun c2=>⟨fun c3=>⟨by omega,⟨k+1,rfl,by omega,?_,by simp;omega⟩,by omega⟩,fun c3=>⟨⟨k+1,rfl,by omega,?_,by omega⟩,by omega⟩⟩⟩,fun c1=>⟨⟨k+1,rfl,by omega,?_,by omega⟩,by omega⟩⟩
  ·rw [put ⟨by simpa using c1,.inl (by simpa using c2)⟩] at h;exact h
  ·rw [put ⟨by simpa using c1,.inr (fun e=>by rw [e] at c3;simp at c3)⟩] at h;exact h
  ·rw [no (fun ⟨_,e⟩=>by
    rcases e with e|e
    ·simp [e] at c2
    ·exact e (List.eq_nil_of_length_eq_zero (by omega)))] at h;exact h
  ·rw [no (fun ⟨e,_⟩=>by simp [e] at c1)] at h;exact h
 ·have h1:k=6:=by simp only at h1;omega
  subst h1
  rw [←h];rfl
def wantsT_h(L:(List Int))(p:Nat):HC Tryz.prog:=⟨82,[.k],[.ref 0 0],[.box (.agg [.sl 1 (L.map AV.int) false,.int ((p:Nat):Int)])],wantsTF_e (⟨L,(wantsT L p).2⟩,(wantsT L p).1),wantsTF_b (⟨L,(wantsT L p).2⟩,(wantsT L p).1),HSpec.of_okh fun ok ok2=>have ok:wantsTF_a L p:=⟨ok,ok2 _ (by simp)⟩;(wantsTF_p L p ok).elim fun I0 h=>h.elim fun m0 h=>mxH_of (sh:=(.s 3)) (enc:=wantsTF_e) (hB:=wantsTF_b) (a:=(wantsTF_x L p I0 m0).an) h (by kernel_rfl),fnB_ok (by kernel_rfl),HcOk.of (by simp [hcB,belBL,AV.belB,allB,okBk,okBkO,wantsTF_e,wantsTF_b,pureBL_map (v:=AV.int) (fun _=>rfl)])⟩
theorem Wnt.eq_iff{x y:Wnt}:x=y↔x.grp=y.grp∧x.mode=y.mode∧x.srcs=y.srcs:=by cases x;cases y;simp
structure Rtr where
  id:Int
  cap:Bool
  deriving DecidableEq
structure Lnk where
  a:Int
  b:Int
  ca:Int
  cb:Int
  w:Int
  deriving DecidableEq
structure Tpl where
  rs:List Rtr
  ls:List Lnk
  deriving DecidableEq
structure Flw where
  src:Int
  grp:Int
  deriving DecidableEq
def Flw.v(x:Flw):AV:=.agg [.int x.src,.int x.grp]
theorem insAt_eqG{α:Type}{l:List α}{k:Nat}{x:α}:((l.take k).drop 0)++([x]++((l.take ((l.length:Int).toNat)).drop k))=insAt l k x:=by
 rw [Int.toNat_natCast,List.take_length,List.drop_zero,insAt,List.append_assoc]
def Rtr.v(x:Rtr):AV:=.agg [.int x.id,.bool x.cap]
def Lnk.v(x:Lnk):AV:=.agg [.int x.a,.int x.b,.int x.ca,.int x.cb,.int x.w]
def G(rows:List (List Bool))(h:Hp):Hp:=fun b=>if 1000≤b∧b<2000 then (rows[b-1000]?).map (fun r=>Blk.vec 1 (r.map AV.bool)) else h b
def F(i:Nat):Nat:=1000+i
def names(n:Nat):List AV:=(List.range n).map fun i=>.vec (F i)
theorem G_lo{rows:List (List Bool)}{h:Hp}{b:Nat}(hb:b<1000):G rows h b=h b:=if_neg (by omega)
theorem G_F{rows:List (List Bool)}{h:Hp}{i:Nat}{r:List Bool}(hr:rows[i]?=some r)(hl:rows.length≤1000):G rows h (F i)=some (.vec 1 (r.map AV.bool)):=by
 have:i<rows.length:=(List.getElem?_eq_some_iff.mp hr).1
 unfold G F
 rw [if_pos (by omega),show 1000+i-1000=i by omega,hr];rfl
theorem F_lo{i b:Nat}(hb:b<1000):(F i=b)=False:=by unfold F;simp;omega
theorem F_lo'{i b:Nat}(hb:b<1000):(b=F i)=False:=by unfold F;simp;omega
theorem names_get{n i:Nat}(h:i<n):(names n)[i]?=some (.vec (F i)):=by simp [names,h]
theorem names_len(n:Nat):(names n).length=n:=by simp [names]
def famPi(bs fs:Nat→Nat)(b:Nat):Nat:=if 1000≤b∧b<2000 then fs (b-1000) else bs b
theorem famPi_F{bs fs:Nat→Nat}{i:Nat}(h:i<1000):famPi bs fs (F i)=fs i:=by unfold famPi F;rw [if_pos (by omega),show 1000+i-1000=i by omega]
theorem famPi_lo{bs fs:Nat→Nat}{b:Nat}(h:b<1000):famPi bs fs b=bs b:=if_neg (by omega)
theorem pureL_bool(r:List Bool):pureL (r.map AV.bool):=pureBL_ok (pureBL_map (fun _=>rfl) r)
theorem Weak.nfG{k n:Nat}{tm:Nat→AV}{hp:Hp}{nx:Nat}(rows:List (List Bool))(ts:List (Nat×AV))(hs:List (Option Blk))(bs fs:Nat→Nat)
    (hT:∀p∈ts,tm p.1=p.2.ren (famPi bs fs)∧p.2.bel 2000) (hH:∀i x,hs[i]?=some (some x)→hp (bs i)=some (x.ren (famPi bs fs))∧x.bel 2000)
    (hl:hs.length≤1000) (hr:rows.length≤1000) (hR:∀i r,rows[i]?=some r→hp (fs i)=some (.vec 1 (r.map AV.bool)))
    (h1:∀i j,i<hs.length→j<hs.length→bs i=bs j→i=j) (h2:∀i j,i<rows.length→j<rows.length→fs i=fs j→i=j) (h3:∀i j,i<hs.length→j<rows.length→bs i≠fs j)
    (hk:∀b,b<k→bs b=b) (hkl:k≤1000):Weak k n ⟨tm,hp,nx⟩ ⟨resT ts,G rows (hpL 0 hs),2000⟩:=by
  have low:∀{b x},hpL 0 hs b=some x→hs[b]?=some (some x):=fun {b x} e=>by
    rw [hpL_eq,if_pos (Nat.zero_le _),Nat.sub_zero] at e
    cases e':hs[b]? with
    | none=>rw [e'] at e;cases e
    | some y=>rw [e'] at e;exact congrArg some e
  have cls:∀{b x},G rows (hpL 0 hs) b=some x→(∃i r,b=F i∧i<rows.length∧rows[i]?=some r∧x=.vec 1 (r.map AV.bool))∨(b<hs.length∧hs[b]?=some (some x)):=fun {b x} e=>by
    unfold G at e
    split at e
    · rename_i hb
      obtain ⟨r,hr,rfl⟩:=Option.map_eq_some_iff.mp e
      exact .inl ⟨b-1000,r,by unfold F;omega,(List.getElem?_eq_some_iff.mp hr).1,hr,rfl⟩
    · have:=low e
      exact .inr ⟨(List.getElem?_eq_some_iff.mp this).1,this⟩
  refine Weak.ren (famPi bs fs) (fun t=>?_) (fun b x e=>?_) (fun b b' e e' he=>?_) (fun b hb=>?_) (by show k≤2000;omega)
  · show resT ts t=.unk∨(tm t=(resT ts t).ren _∧(resT ts t).bel 2000)
    clear hH hR h1 h2 h3 cls low hl
    induction ts with
    | nil=>exact .inl rfl
    | cons p l ih =>
      obtain ⟨t',x⟩:=p
      by_cases ht:t=t'
      · subst ht
        have:=hT (t,x) (by simp)
        simp only [resT,↓reduceIte]
        exact .inr this
      · have:=ih (fun p hp=>hT p (by simp [hp]))
        simp only [resT,if_neg ht]
        exact this
  · show b<2000∧hp (famPi bs fs b)=some (x.ren (famPi bs fs))∧x.bel 2000
    rcases cls e with ⟨i,r,rfl,hi,hr',rfl⟩|⟨hb,e⟩
    · refine ⟨by unfold F;omega,?_,belL_pure (pureL_bool r)⟩
      rw [famPi_F (by omega),hR i r hr',Blk.ren,renL_pure _ (pureL_bool r)]
    · obtain ⟨g1,g2⟩:=hH b x e
      exact ⟨by omega,by rw [famPi_lo (by omega)];exact g1,g2⟩
  · have c1:(∃i,b=F i∧i<rows.length)∨b<hs.length:=by
      cases q:G rows (hpL 0 hs) b with
      | none=>exact absurd q e
      | some x => rcases cls q with ⟨i, r, g1, g2, _⟩ | ⟨g, _⟩
                  · exact .inl ⟨i,g1,g2⟩
                  · exact .inr g
    have c2:(∃i,b'=F i∧i<rows.length)∨b'<hs.length:=by
      cases q:G rows (hpL 0 hs) b' with
      | none=>exact absurd q e'
      | some x => rcases cls q with ⟨i, r, g1, g2, _⟩ | ⟨g, _⟩
                  · exact .inl ⟨i,g1,g2⟩
                  · exact .inr g
    rcases c1 with ⟨i,rfl,hi⟩|hb<;>rcases c2 with ⟨j,rfl,hj⟩|hb'
    · rw [famPi_F (by omega),famPi_F (by omega)] at he
      rw [h2 i j hi hj he]
    · rw [famPi_F (by omega),famPi_lo (by omega)] at he
      exact absurd he.symm (h3 b' i hb' hi)
    · rw [famPi_lo (by omega),famPi_F (by omega)] at he
      exact absurd he (h3 b j hb hj)
    · rw [famPi_lo (by omega),famPi_lo (by omega)] at he
      exact h1 b b' hb hb' he
  · rw [famPi_lo (by omega)];exact hk b hb
def mset(M:List (List Bool))(x y:Nat):List (List Bool):=M.set x ((M.getD x []).set y true)
def lk1(L:List Int):Nat→Nat→Nat→List (List Bool)→List (List Bool)×Nat
 | 0,i,p,M=>(M,p)
 | m+1,i,p,M=>if Mod (rawV L p) 12<11 then lk1 L m (i+1) (rawP L (rawP L p)) (mset M (Mod (rawV L (rawP L p)) i).toNat i) else lk1 L m (i+1) (rawP L p) M
def lk2(L:List Int)(n:Nat):Nat→Nat→List (List Bool)→List (List Bool)×Nat
 | 0,p,M=>(M,p)
 | m+1,p,M =>
  if Mod (rawV L p) n=Mod (rawV L (rawP L p)) n then lk2 L n m (rawP L (rawP L p)) M
  else lk2 L n m (rawP L (rawP L p)) (mset M (min (Mod (rawV L p) n) (Mod (rawV L (rawP L p)) n)).toNat (max (Mod (rawV L p) n) (Mod (rawV L (rawP L p)) n)).toNat)
def Sq(n:Nat)(M:List (List Bool)):Prop:=M.length=n∧∀r∈M,r.length=n
theorem Sq.get{n:Nat}{M:List (List Bool)}(h:Sq n M){x:Nat}(hx:x<n):∃r,M[x]?=some r∧r.length=n∧M.getD x []=r:=by
 have hx:x<M.length:=by rw [h.1];exact hx
 exact ⟨M[x],List.getElem?_eq_getElem hx,h.2 _ (List.getElem_mem hx),by simp [List.getD,List.getElem?_eq_getElem hx]⟩
theorem Sq.set{n:Nat}{M:List (List Bool)}(h:Sq n M)(x y:Nat):Sq n (mset M x y):=by
 refine ⟨by simp [mset,h.1],fun r hr=>?_⟩
 by_cases hx:x<n
 ·obtain ⟨r0,g1,g2,g3⟩:=h.get hx
  rcases List.mem_or_eq_of_mem_set hr with hr|rfl
  ·exact h.2 r hr
  ·rw [g3];simpa using g2
 ·have:mset M x y=M:=List.set_eq_of_length_le (by rw [h.1];omega)
  rw [this] at hr;exact h.2 r hr
theorem lk1_sq{L:List Int}{n:Nat}:∀{m i p:Nat} {M:List (List Bool)},Sq n M→Sq n (lk1 L m i p M).1
 | 0,_,_,_,h=>h
 | m+1,i,p,M,h=>by
  rw [lk1];split
  ·exact lk1_sq (h.set _ _)
  ·exact lk1_sq h
theorem lk2_sq{L:List Int}{n k:Nat}:∀{m p:Nat} {M:List (List Bool)},Sq n M→Sq n (lk2 L k m p M).1
 | 0,_,_,h=>h
 | m+1,p,M,h=>by
  rw [lk2];split
  ·exact lk2_sq h
  ·exact lk2_sq (h.set _ _)
def sq0(n:Nat):List (List Bool):=List.replicate n (List.replicate n false)
theorem sq0_sq(n:Nat):Sq n (sq0 n):=⟨by simp [sq0],fun r hr=>by rw [(List.mem_replicate.mp hr).2];simp⟩
mutual
theorem AV.ren_id:∀x:AV,x.ren (fun b=>b)=x
  | .agg cs=>by rw [AV.ren,renL_id cs]
  | .tup xs=>by rw [AV.ren,renL_id xs]
  | .func f caps=>by rw [AV.ren,renL_id caps]
  | .ref _ _=>rfl
  | .eref _ _ _=>rfl
  | .vec _=>rfl
  | .vsub _ _ _=>rfl
  | .asub _ _ _ _=>rfl
  | .val _=>rfl
  | .rptr _ _=>rfl
  | .sl _ _ _=>rfl
  | .mref _=>rfl
  | .mp _ _ _=>rfl
  | .unk=>rfl
theorem renL_id:∀xs:List AV,renL (fun b=>b) xs=xs
  | []=>rfl
  | x::xs=>by rw [renL,AV.ren_id x,renL_id xs]
end
def F0(i:Nat):Nat:=1000+i
theorem famPi_id:famPi (fun b=>b) F0=fun b=>b:=by
 funext b;show (if 1000≤b∧b<2000 then 1000+(b-1000) else b)=b;split<;>omega
def F1(i f j:Nat):Nat:=if j=i then f else 1000+j
theorem names_bel(n:Nat)(h:n≤1000):belL 2000 (names n):=by
 unfold names
 have:∀l:List Nat,(∀i∈l,i<1000)→belL 2000 (l.map fun i=>AV.vec (F i)):=by
  intro l
  induction l with
  | nil=>intro _;trivial
  | cons a l ih=>intro h;exact ⟨by have:=h a (by simp);show F a<2000;unfold F;omega,ih fun i hi=>h i (by simp [hi])⟩
 exact this _ fun i hi=>by have:=List.mem_range.mp hi;omega
theorem belL_app{k:Nat}:∀{xs ys:List AV},belL k xs→belL k ys→belL k (xs++ys)
 | [],_,_,h=>h
 | _::_,_,h,h'=>⟨h.1,belL_app h.2 h'⟩
theorem belL_rep{k n:Nat}{x:AV}(h:x.bel k):belL k (List.replicate n x):=by
 induction n with
 | zero=>trivial
 | succ n ih=>exact ⟨h,ih⟩
theorem renL_app{π:Nat→Nat}(xs ys:List AV):renL π (xs++ys)=renL π xs++renL π ys:=by rw [renL_map,renL_map,renL_map,List.map_append]
theorem names_ren(n:Nat)(bs fs:Nat→Nat)(h:n≤1000):renL (famPi bs fs) (names n)=(List.range n).map fun i=>.vec (fs i):=by
 rw [renL_map,names,List.map_map]
 refine List.map_congr_left fun i hi=>?_
 have:=List.mem_range.mp hi
 show AV.vec (famPi bs fs (F i))=_
 rw [famPi_F (by omega)]
abbrev nilR:AV:=.sl 1 [] false
def rowsN(i m:Nat):List AV:=names i++List.replicate m nilR
theorem rowsN_len(i m:Nat):(rowsN i m).length=i+m:=by simp [rowsN,names_len]
theorem rowsN_new{i m f:Nat}(h:i≤999)(bs:Nat→Nat):renL (famPi bs (F1 i f)) (rowsN (i+1) m)=(rowsN i (m+1)).set i (.vec f):=by
 rw [rowsN,renL_app,names_ren _ _ _ (by omega),renL_pure _ (pureL_iff.mpr fun x hx=>by rw [(List.mem_replicate.mp hx).2];trivial),rowsN,List.set_append_right _ _ (by rw [names_len];exact Nat.le_refl _),names_len,Nat.sub_self,
  List.replicate_succ,List.set_cons_zero,List.range_succ,List.map_append,List.map_cons,List.map_nil,names,List.append_assoc]
 have e:(List.range i).map (fun j=>AV.vec (F1 i f j))=(List.range i).map fun j=>.vec (F j):=List.map_congr_left fun j hj=>by
  have:=List.mem_range.mp hj
  simp [F1,F,show j≠i by omega]
 rw [e];simp [F1]
theorem rowsN_bel{i m:Nat}(h:i≤1000):belL 2000 (rowsN i m):=belL_app (names_bel i h) (belL_rep trivial)
theorem F1_inj{i f m:Nat}(hm:m≤1000)(hf:2000≤f):∀a b,a<m→b<m→F1 i f a=F1 i f b→a=b:=fun a b ha hb h=>by
 unfold F1 at h;split at h<;>split at h<;>omega
def topo_c2:AC:=.seq (.reg [⟨(some 41),.move (.t 9),none⟩,⟨(some 42),.len (.t 41),none⟩,⟨(some 43),.move (.c (.val (.int .i64 0))),none⟩])
 (.block 2 (.loop (.seq (.reg [⟨(some 44),.bin .lss (.t 43) (.t 42),none⟩])
 (.seq (.cond (.t 44) (.skip) (.exit 2))
 (.seq (.block 3 (.seq (.reg [⟨(some 45),.move (.t 43),none⟩,⟨(some 10),.move (.t 45),none⟩])
 (.reg [⟨(some 46),.move (.t 9),none⟩,⟨(some 47),.move (.t 10),none⟩,⟨(some 48),.move (.t 5),none⟩,⟨(some 49),.mks 1 1 (.val (.bool false)) (.t 48) (.t 48),none⟩,⟨(some 50),.iaddr 1 (.t 46) (.t 47),none⟩,⟨none,.store 1 (.t 50) (.t 49),none⟩])))
 (.reg [⟨(some 51),.bin .add (.t 43) (.c (.val (.int .i64 1))),none⟩,⟨(some 43),.move (.t 51),none⟩]))))))
def topo_m1(L:List Int)(p:Nat)(rs:List Rtr)(n:Int):NF:=
  ⟨[(0,.k,.ref 0 0),(4,.k,.ref 1 0),(5,.k,.int n),(6,.k,.ref 2 0),(9,.k,.vec 4)],
   [.box (Tap.v ⟨L,p⟩),.box (.agg [.sl 0 [] true,.sl 0 [] true]),.box (.agg [.vec 3,.sl 0 [] true]),.vec 2 (rs.map Rtr.v) (pureBL_map (fun _=>rfl) rs),.vec 1 ((List.replicate n.toNat ([]:List Bool)).map (fun l=>AV.sl 1 (l.map AV.bool) false)) (pureBL_map (fun _=>rfl) _)]⟩
def topoH(L:List Int)(p:Nat)(rs:List Rtr)(es:List AV):List (Option Blk):=
 [some (.box (Tap.v ⟨L,p⟩)),some (.box (.agg [.sl 0 [] true,.sl 0 [] true])),some (.box (.agg [.vec 3,.sl 0 [] true])),some (.vec 2 (rs.map Rtr.v)),some (.vec 1 es)]
def topoS(L:List Int)(p:Nat)(rs:List Rtr)(n:Int)(M:List (List Bool)):S3:=
 ⟨resT [(0,.ref 0 0),(4,.ref 1 0),(5,.int n),(6,.ref 2 0),(9,.vec 4)],G M (hpL 0 (topoH L p rs (names n.toNat))),2000⟩
theorem pureL_rtr(rs:List Rtr):pureL (rs.map Rtr.v):=pureBL_ok (pureBL_map (fun _=>rfl) rs)
theorem topoH_ren{L:List Int}{p:Nat}{rs:List Rtr}{es es':List AV}{hp:Hp}{fs:Nat→Nat}(h0:hp 0=some (.box (Tap.v ⟨L,p⟩)))(h1:hp 1=some (.box (.agg [.sl 0 [] true,.sl 0 [] true])))(h2:hp 2=some (.box (.agg [.vec 3,.sl 0 [] true])))(h3:hp 3=some (.vec 2 (rs.map Rtr.v)))
  (h4:hp 4=some (.vec 1 es')) (he:renL (famPi (fun b=>b) fs) es=es') (hb:belL 2000 es):∀i x,(topoH L p rs es)[i]?=some (some x)→hp i=some (x.ren (famPi (fun b=>b) fs))∧x.bel 2000:=by
 intro i x h
 rcases i with _|_|_|_|_|i
 ·cases h;exact ⟨by rw [h0];rfl,⟨trivial,trivial,trivial⟩⟩
 ·cases h;exact ⟨by rw [h1];rfl,⟨trivial,trivial,trivial⟩⟩
 ·cases h;exact ⟨by rw [h2];rfl,⟨show 3<2000 by omega,trivial,trivial⟩⟩
 ·cases h;exact ⟨by rw [h3,Blk.ren,renL_pure _ (pureL_rtr rs)],belL_pure (pureL_rtr rs)⟩
 ·cases h;exact ⟨by rw [h4,Blk.ren,he],hb⟩
 ·simp [topoH] at h
theorem topoH_F{L:List Int}{p:Nat}{rs:List Rtr}{es:List AV}{hp:Hp}(h0:hp 0=some (.box (Tap.v ⟨L,p⟩)))(h1:hp 1=some (.box (.agg [.sl 0 [] true,.sl 0 [] true])))(h2:hp 2=some (.box (.agg [.vec 3,.sl 0 [] true])))(h3:hp 3=some (.vec 2 (rs.map Rtr.v)))
  (h4:hp 4=some (.vec 1 es)) (hb:belL 2000 es):∀i x,(topoH L p rs es)[i]?=some (some x)→hp i=some (x.ren (famPi (fun b=>b) F0))∧x.bel 2000:=
 topoH_ren h0 h1 h2 h3 h4 (by rw [famPi_id,renL_id]) hb
theorem G4(rows:List (List Bool))(h:Hp):G rows h 4=h 4:=G_lo (by decide)
theorem topo_h2(L:List Int)(p:Nat)(rs:List Rtr)(n:Int)(hn:1≤n∧n≤100)(k:Nat):HandOk Tryz.prog 1 k topo_c2 (topo_m1 L p rs n).st (topoS L p rs n (sq0 n.toNat)):=by
 obtain ⟨N,rfl⟩:∃N:Nat,n=N:=⟨n.toNat,by omega⟩
 simp only [topoS,Int.toNat_natCast]
 unfold HandOk topo_c2
 show AWP _ 1 k _ _ ⟨resT [(0,.ref 0 0),(4,.ref 1 0),(5,.int N),(6,.ref 2 0),(9,.vec 4)],hpL 0 (topoH L p rs ((List.replicate N ([]:List Bool)).map (fun l=>AV.sl 1 (l.map AV.bool) false))),5⟩
 have hnil:(List.replicate N ([]:List Bool)).map (fun l=>AV.sl 1 (l.map AV.bool) false)=rowsN 0 N:=by rw [List.map_replicate,rowsN,names];rfl
 rw [hnil]
 refine AWP.seq' ?_
 refine AWP.reg' fun K hK=>?_
 try simp only [stepS,stepD,stepM,eq_self,implies_true,forall_eq_or_imp,forall_eq,Nat.reduceEqDiff,↓reduceIte,Nat.reduceAdd,Nat.reduceLeDiff,Nat.reduceSub,Nat.reduceMul,Nat.reduceLT,Int.reduceBEq,Int.reduceBNe,Int.reduceToNat,Int.reduceLT,Int.reduceLE,Int.reduceAdd,Int.reduceSub,Int.reduceMul,reduceCtorEq,topoH,lenA,rowsN_len]
 refine hK _ _ _ ?_
 clear hK K
 refine AWP.block ?_
 refine AWP.loopS (fun i=>⟨resT [(0,.ref 0 0),(4,.ref 1 0),(5,.int N),(6,.ref 2 0),(9,.vec 4),(42,.int N),(43,.int (i:Nat))],G (List.replicate i (List.replicate N false)) (hpL 0 (topoH L p rs (rowsN i (N-i)))),2000⟩)
  (fun i=>i≤N) (fun i=>N-i) (i0:=0) (Nat.zero_le _) ?_ ?_
 ·refine Weak.nfG _ _ _ (fun b=>b) F0 ?_ (topoH_F rfl rfl rfl rfl rfl (rowsN_bel (by omega))) (by simp [topoH]) (by simp) (by simp) (fun i j _ _ h=>h) (fun i j _ _ h=>by unfold F0 at h;omega) (fun i j h1 h2=>by simp at h2) (fun b _=>rfl) (by decide)
  simp only [List.forall_mem_cons,List.not_mem_nil,false_implies,implies_true,and_true]
  exact ⟨⟨rfl,show 0<2000 by omega⟩,⟨rfl,show 1<2000 by omega⟩,⟨rfl,trivial⟩,⟨rfl,show 2<2000 by omega⟩,⟨rfl,show 4<2000 by omega⟩,⟨rfl,trivial⟩,rfl,trivial⟩
 ·intro i hi
  refine AWP.seq' ?_
  refine AWP.reg' fun K hK=>?_
  try simp only [stepS,stepD,stepM,eq_self,implies_true,forall_eq_or_imp,forall_eq,Nat.reduceEqDiff,↓reduceIte,Nat.reduceAdd,Nat.reduceLeDiff,Nat.reduceSub,Nat.reduceMul,Nat.reduceLT,Int.reduceBEq,Int.reduceBNe,Int.reduceToNat,Int.reduceLT,Int.reduceLE,Int.reduceAdd,Int.reduceSub,Int.reduceMul,reduceCtorEq,topoH]
  refine hK _ _ _ ?_
  clear hK K
  refine AWP.seq' ?_
  refine AWP.cond (b:=decide ((i:Int)<(N:Int))) rfl (fun h=>?_) (fun h=>?_)
  ·have h:i<N:=by have:=of_decide_eq_true h;omega
   refine AWP.skip ?_
   refine AWP.seq' (AWP.block (AWP.seq' ?_))
   refine AWP.reg' fun K hK=>?_
   try simp only [stepS,stepD,stepM,eq_self,implies_true,forall_eq_or_imp,forall_eq,Nat.reduceEqDiff,↓reduceIte,Nat.reduceAdd,Nat.reduceLeDiff,Nat.reduceSub,Nat.reduceMul,Nat.reduceLT,Int.reduceBEq,Int.reduceBNe,Int.reduceToNat,Int.reduceLT,Int.reduceLE,Int.reduceAdd,Int.reduceSub,Int.reduceMul,reduceCtorEq]
   refine hK _ _ _ ?_
   clear hK K
   have hml:=maxLen_eq
   have hg:(rowsN i (N-i)).getD i .unk=nilR:=by
    rw [rowsN,List.getD_eq_getElem?_getD,List.getElem?_append_right (by rw [names_len];exact Nat.le_refl _),names_len,Nat.sub_self,List.getElem?_replicate,if_pos (by omega)];rfl
   have hs1:nilR.solid=true:=rfl
   have hc1:nilR.cells=[nilR]:=rfl
   have hv1:setPart nilR 0 (.vec 2096)=.vec 2096:=rfl
   refine AWP.reg' fun K hK=>?_
   try simp only [stepS,stepD,stepM,eq_self,implies_true,forall_eq_or_imp,forall_eq,Nat.reduceEqDiff,↓reduceIte,Nat.reduceAdd,Nat.reduceLeDiff,Nat.reduceSub,Nat.reduceMul,Nat.reduceLT,Int.reduceBEq,Int.reduceBNe,Int.reduceToNat,Int.reduceLT,Int.reduceLE,Int.reduceAdd,Int.reduceSub,Int.reduceMul,reduceCtorEq,G4,topoH,rowsN_len,Int.toNat_natCast,hg,hs1,hc1,hv1]
   refine ⟨⟨by omega,by omega,by omega⟩,⟨by omega,by omega⟩,by omega,?_⟩
   refine hK _ _ _ ?_
   clear hK K
   refine (show AWP _ _ _ _ _ _ from ?_)
   have w:IntKind.i64.wrap ((i:Int)+1)=((i+1:Nat):Int):=wrapN (by omega) (by omega)
   refine AWP.reg' fun K hK=>?_
   try simp only [stepS,stepD,stepM,eq_self,implies_true,forall_eq_or_imp,forall_eq,Nat.reduceEqDiff,↓reduceIte,Nat.reduceAdd,Nat.reduceLeDiff,Nat.reduceSub,Nat.reduceMul,Nat.reduceLT,Int.reduceBEq,Int.reduceBNe,Int.reduceToNat,Int.reduceLT,Int.reduceLE,Int.reduceAdd,Int.reduceSub,Int.reduceMul,reduceCtorEq,w]
   refine hK _ _ _ ?_
   clear hK K
   refine ⟨i+1,by omega,by omega,?_⟩
   refine Weak.nfG _ _ _ (fun b=>b) (F1 i 2096) ?_ (topoH_ren rfl rfl rfl rfl rfl ?_ (rowsN_bel (by omega))) (by simp [topoH]) (by simp;omega) ?_ (fun a b _ _ h=>h) (F1_inj (by simp;omega) (by decide)) (fun a b h1 h2 h=>by simp [topoH] at h1;unfold F1 at h;split at h<;>omega) (fun b _=>rfl) (by decide)
   ·simp only [List.forall_mem_cons,List.not_mem_nil,false_implies,implies_true,and_true]
    exact ⟨⟨rfl,show 0<2000 by omega⟩,⟨rfl,show 1<2000 by omega⟩,⟨rfl,trivial⟩,⟨rfl,show 2<2000 by omega⟩,⟨rfl,show 4<2000 by omega⟩,⟨rfl,trivial⟩,rfl,trivial⟩
   ·rw [rowsN_new (by omega),show N-(i+1)+1=N-i by omega]
   ·intro j r hr
    by_cases e:j=i
    ·subst e
     rw [List.getElem?_replicate,if_pos (by omega)] at hr
     cases hr
     simp only [F1,↓reduceIte,List.map_replicate]
     rfl
    ·have hj:j<i+1:=by have:=(List.getElem?_eq_some_iff.mp hr).1;simpa using this
     rw [List.getElem?_replicate,if_pos hj] at hr
     cases hr
     have:(List.replicate i (List.replicate N false))[j]?=some (List.replicate N false):=by rw [List.getElem?_replicate,if_pos (by omega)]
     rw [show F1 i 2096 j=F j by simp [F1,e,F]]
     simp only [upd_ap,F_lo (show 4<1000 by omega),if_false]
     rw [if_neg (by unfold F;omega)]
     exact G_F this (by simp;omega)
  ·have h:i=N:=by have:=of_decide_eq_false h;omega
   subst h
   refine AWP.exit ?_
   refine (show Weak 1 k _ _ from ?_)
   have e:sq0 i=List.replicate i (List.replicate i false):=rfl
   rw [e]
   refine Weak.nfG _ _ _ (fun b=>b) F0 ?_ (topoH_F rfl rfl rfl rfl ?_ (names_bel i (by omega))) (by simp [topoH]) (by simp;omega) ?_ (fun i j _ _ h=>h) (fun i j _ _ h=>by unfold F0 at h;omega) (fun i j h1 h2 h=>by simp [topoH] at h1;unfold F0 at h;omega) (fun b _=>rfl) (by decide)
   ·simp only [List.forall_mem_cons,List.not_mem_nil,false_implies,implies_true,and_true]
    exact ⟨⟨rfl,show 0<2000 by omega⟩,⟨rfl,show 1<2000 by omega⟩,⟨rfl,trivial⟩,⟨rfl,show 2<2000 by omega⟩,⟨rfl,show 4<2000 by omega⟩⟩
   ·show G _ _ 4=_
    rw [G4]
    show some (Blk.vec 1 (rowsN i (i-i)))=_
    rw [Nat.sub_self,rowsN,List.replicate_zero,List.append_nil]
   ·intro j r hr
    exact G_F hr (by simp;omega)
def topo_c3:AC:=.seq (.reg [⟨(some 11),.move (.c (.val (.int .i64 1))),none⟩])
 (.block 4 (.loop (.seq (.seq (.reg [⟨(some 52),.move (.t 11),none⟩,⟨(some 53),.move (.t 5),none⟩,⟨(some 54),.bin .lss (.t 52) (.t 53),none⟩])
 (.cond (.t 54) (.skip) (.exit 4)))
 (.seq (.block 5 (.seq (.reg [⟨(some 57),.move (.t 0),none⟩,⟨(some 58),.call (.c (.func 10 [])) [(.t 57),(.c (.val (.int .i64 12)))],none⟩,⟨(some 59),.bin .lss (.t 58) (.c (.val (.int .i64 11))),none⟩])
 (.cond (.t 59) (.reg [⟨(some 60),.move (.t 9),none⟩,⟨(some 61),.move (.t 0),none⟩,⟨(some 62),.move (.t 11),none⟩,⟨(some 63),.call (.c (.func 10 [])) [(.t 61),(.t 62)],none⟩,⟨(some 64),.iaddr 1 (.t 60) (.t 63),none⟩,⟨(some 65),.load false 1 (.t 64),none⟩,⟨(some 66),.move (.t 11),none⟩,⟨(some 67),.iaddr 1 (.t 65) (.t 66),none⟩,⟨none,.store 1 (.t 67) (.c (.val (.bool true))),none⟩]) (.skip))))
 (.reg [⟨(some 55),.move (.t 11),none⟩,⟨(some 56),.bin .add (.t 55) (.c (.val (.int .i64 1))),none⟩,⟨(some 11),.move (.t 56),none⟩])))))
theorem tap_pure(L:List Int)(p:Nat):(Tap.v ⟨L,p⟩).pure:=⟨trivial,trivial,trivial⟩
theorem names_getD{n i:Nat}(h:i<n):(names n).getD i .unk=.vec (F i):=by rw [List.getD_eq_getElem?_getD,names_get h];rfl
theorem bools_getD{r:List Bool}{i:Nat}(h:i<r.length):∃b:Bool,(r.map AV.bool).getD i .unk=.bool b:=⟨r[i],by simp [List.getD_eq_getElem?_getD,h]⟩
theorem mset_get{M:List (List Bool)}{x y j:Nat}{r q:List Bool}(hx:M[x]?=some r)(h:(mset M x y)[j]?=some q):(j=x∧q=r.set y true)∨(j≠x∧M[j]?=some q):=by
 have hl:=(List.getElem?_eq_some_iff.mp hx).1
 have e:M.getD x []=r:=by rw [List.getD_eq_getElem?_getD,hx];rfl
 rw [mset,List.getElem?_set,e] at h
 by_cases hj:x=j
 ·subst hj;rw [if_pos rfl,if_pos hl] at h;cases h;exact .inl ⟨rfl,rfl⟩
 ·rw [if_neg hj] at h;exact .inr ⟨fun e=>hj e.symm,h⟩
theorem topo_h3(L:List Int)(p:Nat)(rs:List Rtr)(n:Int)(M:List (List Bool))(hn:1≤n∧n≤100)(hM:Sq n.toNat M)(k:Nat) :
  HandOk Tryz.prog 1 k topo_c3 (topoS L p rs n M) (topoS L (lk1 L (n.toNat-1) 1 p M).2 rs n (lk1 L (n.toNat-1) 1 p M).1):=by
 obtain ⟨N,rfl⟩:∃N:Nat,n=N:=⟨n.toNat,by omega⟩
 simp only [topoS,Int.toNat_natCast] at hM ⊢
 unfold HandOk topo_c3
 generalize hE:lk1 L (N-1) 1 p M=E
 refine AWP.seq' ?_
 refine AWP.reg' fun K hK=>?_
 try simp only [stepS,stepD,stepM,eq_self,implies_true,forall_eq_or_imp,forall_eq,Nat.reduceEqDiff,↓reduceIte,Nat.reduceAdd,Nat.reduceLeDiff,Nat.reduceSub,Nat.reduceMul,Nat.reduceLT,Int.reduceBEq,Int.reduceBNe,Int.reduceToNat,Int.reduceLT,Int.reduceLE,Int.reduceAdd,Int.reduceSub,Int.reduceMul,reduceCtorEq]
 refine hK _ _ _ ?_
 clear hK K
 refine AWP.block ?_
 refine AWP.loopS (σ:=Nat×Nat×List (List Bool)) (fun t=>⟨resT [(0,.ref 0 0),(4,.ref 1 0),(5,.int N),(6,.ref 2 0),(9,.vec 4),(11,.int (t.1:Nat))],G t.2.2 (hpL 0 (topoH L t.2.1 rs (names N))),2000⟩)
  (fun t=>1≤t.1∧t.1≤N∧Sq N t.2.2∧lk1 L (N-t.1) t.1 t.2.1 t.2.2=E) (fun t=>N-t.1) (i0:=(1,p,M)) ⟨by omega,by omega,hM,hE⟩ ?_ ?_
 ·refine Weak.nfG _ _ _ (fun b=>b) F0 ?_ (topoH_F rfl rfl rfl rfl rfl (names_bel N (by omega))) (by simp [topoH]) (by rw [hM.1];omega) (fun j r hr=>G_F hr (by rw [hM.1];omega)) (fun i j _ _ h=>h) (fun i j _ _ h=>by unfold F0 at h;omega) (fun i j h1 h2 h=>by simp [topoH] at h1;unfold F0 at h;omega) (fun b _=>rfl) (by decide)
  simp only [List.forall_mem_cons,List.not_mem_nil,false_implies,implies_true,and_true]
  exact ⟨⟨rfl,show 0<2000 by omega⟩,⟨rfl,show 1<2000 by omega⟩,⟨rfl,trivial⟩,⟨rfl,show 2<2000 by omega⟩,⟨rfl,show 4<2000 by omega⟩,rfl,trivial⟩
 rintro ⟨i,p,M⟩ ⟨h1,h2,hM,hE⟩
 simp only at h1 h2 hM hE ⊢
 have hMl:M.length≤1000:=by rw [hM.1];omega
 refine AWP.seq' (AWP.seq' ?_)
 refine AWP.reg' fun K hK=>?_
 try simp only [stepS,stepD,stepM,eq_self,implies_true,forall_eq_or_imp,forall_eq,Nat.reduceEqDiff,↓reduceIte,Nat.reduceAdd,Nat.reduceLeDiff,Nat.reduceSub,Nat.reduceMul,Nat.reduceLT,Int.reduceBEq,Int.reduceBNe,Int.reduceToNat,Int.reduceLT,Int.reduceLE,Int.reduceAdd,Int.reduceSub,Int.reduceMul,reduceCtorEq]
 refine hK _ _ _ ?_
 clear hK K
 refine AWP.cond (b:=decide ((i:Int)<(N:Int))) rfl (fun h=>?_) (fun h=>?_)
 ·have h:i<N:=by have:=of_decide_eq_true h;omega
  refine AWP.skip ?_
  refine AWP.seq' (AWP.block (AWP.seq' ?_))
  refine AWP.reg' fun K hK=>?_
  try simp only [stepS,stepD,stepM,eq_self,implies_true,forall_eq_or_imp,forall_eq,Nat.reduceEqDiff,↓reduceIte,Nat.reduceAdd,Nat.reduceLeDiff,Nat.reduceSub,Nat.reduceMul,Nat.reduceLT,Int.reduceBEq,Int.reduceBNe,Int.reduceToNat,Int.reduceLT,Int.reduceLE,Int.reduceAdd,Int.reduceSub,Int.reduceMul,reduceCtorEq]
  refine evT_own (hs:=(N_h L p 12).ok) (N_h L p 12).fn (args:=[.int 12]) (r:=.int (Mod (rawV L p) 12)) (x':=Tap.v ⟨L,rawP L p⟩) ⟨trivial,trivial⟩ (tap_pure _ _) (tap_pure _ _) trivial rfl (by rfl) (by rfl) ?_
  try simp only [stepS,stepD,stepM,eq_self,implies_true,forall_eq_or_imp,forall_eq,Nat.reduceEqDiff,↓reduceIte,Nat.reduceAdd,Nat.reduceLeDiff,Nat.reduceSub,Nat.reduceMul,Nat.reduceLT,Int.reduceBEq,Int.reduceBNe,Int.reduceToNat,Int.reduceLT,Int.reduceLE,Int.reduceAdd,Int.reduceSub,Int.reduceMul,reduceCtorEq]
  refine hK _ _ _ ?_
  clear hK K
  have w:IntKind.i64.wrap ((i:Int)+1)=((i+1:Nat):Int):=wrapN (by omega) (by omega)
  have hE':lk1 L (N-(i+1)+1) i p M=E:=by rw [show N-(i+1)+1=N-i by omega];exact hE
  rw [lk1] at hE'
  refine AWP.cond (b:=decide (Mod (rawV L p) 12<11)) rfl (fun hc=>?_) (fun hc=>?_)
  ·rw [if_pos (of_decide_eq_true hc)] at hE'
   have hX:=Mod_range (x:=rawV L (rawP L p)) (n:=(i:Int)) (by omega)
   generalize hq:Mod (rawV L (rawP L p)) (i:Int)=X at hX hE'
   obtain ⟨Y,rfl⟩:∃Y:Nat,X=Y:=⟨X.toNat,by omega⟩
   rw [Int.toNat_natCast] at hE'
   obtain ⟨r,hr,hrl,-⟩:=hM.get (show Y<N by omega)
   obtain ⟨b0,hb0⟩:=bools_getD (r:=r) (i:=i) (by omega)
   refine AWP.reg' fun K hK=>?_
   try simp only [stepS,stepD,stepM,eq_self,implies_true,forall_eq_or_imp,forall_eq,Nat.reduceEqDiff,↓reduceIte,Nat.reduceAdd,Nat.reduceLeDiff,Nat.reduceSub,Nat.reduceMul,Nat.reduceLT,Int.reduceBEq,Int.reduceBNe,Int.reduceToNat,Int.reduceLT,Int.reduceLE,Int.reduceAdd,Int.reduceSub,Int.reduceMul,reduceCtorEq]
   have hc2:HSpec Tryz.prog (N_h L (rawP L p) i).f [.ref 0 0,.int i] [.box (Tap.v ⟨L,rawP L p⟩)] (.int Y) [some (.box (Tap.v ⟨L,rawP L (rawP L p)⟩))]:=by rw [←hq];exact (N_h L (rawP L p) i).ok
   refine evT_own (hs:=hc2) (N_h L (rawP L p) i).fn (args:=[.int i]) ⟨trivial,trivial⟩ (tap_pure _ _) (tap_pure _ _) trivial rfl (by rfl) (by rfl) ?_
   have hgF:G M (hpL 0 (topoH L p rs (names N))) (F Y)=some (.vec 1 (r.map AV.bool)):=G_F hr hMl
   have hso:(AV.vec (F Y)).solid=true:=rfl
   have hce:(AV.vec (F Y)).cells=[AV.vec (F Y)]:=rfl
   have hpa:partA (.vec (F Y)) 0 1 false=.vec (F Y):=rfl
   have hF0:(F Y=0)=False:=F_lo (by decide)
   have hF3:(F Y=4)=False:=F_lo (by decide)
   have hbs:(AV.bool b0).solid=true:=rfl
   have hbc:(AV.bool b0).cells=[AV.bool b0]:=rfl
   have htc:(AV.bool true).cells=[AV.bool true]:=rfl
   have hts:(AV.bool true).solid=true:=rfl
   have hsp:setPart (.bool b0) 0 (.bool true)=.bool true:=rfl
   have hT4:hpL 0 (topoH L p rs (names N)) 4=some (.vec 1 (names N)):=rfl
   try simp only [stepS,stepD,stepM,eq_self,implies_true,forall_eq_or_imp,forall_eq,Nat.reduceEqDiff,↓reduceIte,Nat.reduceAdd,Nat.reduceLeDiff,Nat.reduceSub,Nat.reduceMul,Nat.reduceLT,Int.reduceBEq,Int.reduceBNe,Int.reduceToNat,Int.reduceLT,Int.reduceLE,Int.reduceAdd,Int.reduceSub,Int.reduceMul,reduceCtorEq,G4,hT4,names_len,Int.toNat_natCast,names_getD (show Y<N by omega),hso,hce,hpa,hF0,hF3,hgF,List.length_map,hb0,hbs,hbc,htc,hts,hsp,if_false]
   refine ⟨⟨by omega,by omega⟩,by omega,⟨by omega,by omega⟩,by omega,?_⟩
   refine hK _ _ _ ?_
   clear hK K
   refine (show AWP _ _ _ _ _ _ from ?_)
   refine AWP.reg' fun K hK=>?_
   try simp only [stepS,stepD,stepM,eq_self,implies_true,forall_eq_or_imp,forall_eq,Nat.reduceEqDiff,↓reduceIte,Nat.reduceAdd,Nat.reduceLeDiff,Nat.reduceSub,Nat.reduceMul,Nat.reduceLT,Int.reduceBEq,Int.reduceBNe,Int.reduceToNat,Int.reduceLT,Int.reduceLE,Int.reduceAdd,Int.reduceSub,Int.reduceMul,reduceCtorEq,w]
   refine hK _ _ _ ?_
   clear hK K
   refine ⟨(i+1,rawP L (rawP L p),mset M Y i),⟨by omega,by omega,hM.set _ _,hE'⟩,by omega,?_⟩
   have hM':(mset M Y i).length≤1000:=by rw [(hM.set Y i).1];omega
   refine Weak.nfG _ _ _ (fun b=>b) F0 ?_ (topoH_F ?_ ?_ ?_ ?_ ?_ (names_bel N (by omega))) (by simp [topoH]) hM' ?_ (fun i j _ _ h=>h) (fun i j _ _ h=>by unfold F0 at h;omega) (fun i j h1 h2 h=>by simp [topoH] at h1;unfold F0 at h;omega) (fun b _=>rfl) (by decide)
   ·simp only [List.forall_mem_cons,List.not_mem_nil,false_implies,implies_true,and_true]
    exact ⟨⟨rfl,show 0<2000 by omega⟩,⟨rfl,show 1<2000 by omega⟩,⟨rfl,trivial⟩,⟨rfl,show 2<2000 by omega⟩,⟨rfl,show 4<2000 by omega⟩,rfl,trivial⟩
   ·simp only [upd_ap,F_lo' (show 0<1000 by omega),if_false,if_true]
   ·simp only [upd_ap,F_lo' (show 1<1000 by omega),if_false];rfl
   ·simp only [upd_ap,F_lo' (show 2<1000 by omega),if_false];rfl
   ·simp only [upd_ap,F_lo' (show 3<1000 by omega),if_false];rfl
   ·simp only [upd_ap,F_lo' (show 4<1000 by omega),if_false];rfl
   ·intro j q hj
    rw [show F0 j=F j from rfl]
    rcases mset_get hr hj with ⟨rfl,rfl⟩|⟨hne,hj⟩
    ·simp only [upd_ap,if_true,List.map_set]
    ·have:(F j=F Y)=False:=by unfold F;simp;omega
     simp only [upd_ap,this,F_lo (show 0<1000 by omega),if_false]
     exact G_F hj hMl
  ·rw [if_neg (of_decide_eq_false hc)] at hE'
   refine AWP.skip ?_
   refine (show AWP _ _ _ _ _ _ from ?_)
   refine AWP.reg' fun K hK=>?_
   try simp only [stepS,stepD,stepM,eq_self,implies_true,forall_eq_or_imp,forall_eq,Nat.reduceEqDiff,↓reduceIte,Nat.reduceAdd,Nat.reduceLeDiff,Nat.reduceSub,Nat.reduceMul,Nat.reduceLT,Int.reduceBEq,Int.reduceBNe,Int.reduceToNat,Int.reduceLT,Int.reduceLE,Int.reduceAdd,Int.reduceSub,Int.reduceMul,reduceCtorEq,w]
   refine hK _ _ _ ?_
   clear hK K
   refine ⟨(i+1,rawP L p,M),⟨by omega,by omega,hM,hE'⟩,by omega,?_⟩
   refine Weak.nfG _ _ _ (fun b=>b) F0 ?_ (topoH_F rfl rfl rfl rfl rfl (names_bel N (by omega))) (by simp [topoH]) hMl ?_ (fun i j _ _ h=>h) (fun i j _ _ h=>by unfold F0 at h;omega) (fun i j h1 h2 h=>by simp [topoH] at h1;unfold F0 at h;omega) (fun b _=>rfl) (by decide)
   ·simp only [List.forall_mem_cons,List.not_mem_nil,false_implies,implies_true,and_true]
    exact ⟨⟨rfl,show 0<2000 by omega⟩,⟨rfl,show 1<2000 by omega⟩,⟨rfl,trivial⟩,⟨rfl,show 2<2000 by omega⟩,⟨rfl,show 4<2000 by omega⟩,rfl,trivial⟩
   ·intro j r hr
    rw [show F0 j=F j from rfl]
    simp only [upd_ap,F_lo (show 0<1000 by omega),if_false]
    exact G_F hr hMl
 ·have h:i=N:=by have:=of_decide_eq_false h;omega
  subst h
  refine AWP.exit ?_
  refine (show Weak 1 k _ _ from ?_)
  rw [Nat.sub_self,lk1] at hE
  subst hE
  refine Weak.nfG _ _ _ (fun b=>b) F0 ?_ (topoH_F rfl rfl rfl rfl rfl (names_bel i (by omega))) (by simp [topoH]) hMl (fun j r hr=>G_F hr hMl) (fun i j _ _ h=>h) (fun i j _ _ h=>by unfold F0 at h;omega) (fun i j h1 h2 h=>by simp [topoH] at h1;unfold F0 at h;omega) (fun b _=>rfl) (by decide)
  simp only [List.forall_mem_cons,List.not_mem_nil,false_implies,implies_true,and_true]
  exact ⟨⟨rfl,show 0<2000 by omega⟩,⟨rfl,show 1<2000 by omega⟩,⟨rfl,trivial⟩,⟨rfl,show 2<2000 by omega⟩,⟨rfl,show 4<2000 by omega⟩⟩
def rowV(r:List Bool):AV:=.sl 1 (r.map AV.bool) false
theorem topo_frz{L:List Int}{p:Nat}{rs:List Rtr}{M:List (List Bool)}{N:Nat}{k n nx:Nat}{tm:Nat→AV}{x:AV}(hM:Sq N M)(hN:1≤N∧N≤100)(hnx:2000≤nx)
  (t0:tm 0=.ref 0 0) (t4:tm 4=.ref 1 0) (t5:tm 5=x) (hx:x.pure) (t6:tm 6=.ref 2 0) (t9:tm 9=.vec 4) :
  Weak k n ⟨tm,G M (hpL 0 (topoH L p rs (names N))),nx⟩
   ⟨resT [(0,.ref 0 0),(4,.ref 1 0),(5,x),(6,.ref 2 0),(9,.sl 1 (M.map rowV) false)],hpL 0 [some (.box (Tap.v ⟨L,p⟩)),some (.box (.agg [.sl 0 [] true,.sl 0 [] true])),some (.box (.agg [.vec 3,.sl 0 [] true])),some (.vec 2 (rs.map Rtr.v))],nx⟩:=by
 rintro P c a w ⟨h0,A,μ,H⟩
 have H:RelE P c A μ (fun b=>nx≤b) tm (G M (hpL 0 (topoH L p rs (names N)))) n a w:=H
 have hMl:M.length≤1000:=by rw [hM.1];omega
 have same:Same A w w:=fun _ _=>rfl
 let fam:Nat→Prop:=fun b=>b=4∨∃i,i<N∧b=F i
 let A':Nat→Prop:=fun q=>A q∨∃b hd,fam b∧μ b=some hd∧hd.emp=none∧hd.blk=q
 have hle:∀b,A b→A' b:=fun b hb=>.inl hb
 have hlive:∀b,fam b→∃x,G M (hpL 0 (topoH L p rs (names N))) b=some x:=by
  rintro b (rfl|⟨i,hi,rfl⟩)
  ·exact ⟨_,G4 _ _⟩
  ·obtain ⟨r,hr,_,_⟩:=hM.get hi
   exact ⟨_,G_F hr hMl⟩
 have hsub:∀b y,hpL 0 [some (.box (Tap.v ⟨L,p⟩)),some (.box (.agg [.sl 0 [] true,.sl 0 [] true])),some (.box (.agg [.vec 3,.sl 0 [] true])),some (.vec 2 (rs.map Rtr.v))] b=some y→b<4∧G M (hpL 0 (topoH L p rs (names N))) b=some y:=by
  intro b y hy
  rcases b with _|_|_|_|b
  ·exact ⟨by omega,by rw [G_lo (by omega)];exact hy⟩
  ·exact ⟨by omega,by rw [G_lo (by omega)];exact hy⟩
  ·exact ⟨by omega,by rw [G_lo (by omega)];exact hy⟩
  ·exact ⟨by omega,by rw [G_lo (by omega)];exact hy⟩
  ·have:hpL 0 [some (.box (Tap.v ⟨L,p⟩)),some (.box (.agg [.sl 0 [] true,.sl 0 [] true])),some (.box (.agg [.vec 3,.sl 0 [] true])),some (.vec 2 (rs.map Rtr.v))] (b+4)=none:=by rw [hpL_eq];simp
   rw [this] at hy;cases hy
 have hnf:∀b,b<4→¬fam b:=by
  rintro b hb (rfl|⟨i,hi,rfl⟩)
  ·omega
  ·unfold F at hb;omega
 have row:∀i r v,M[i]?=some r→RV w A (.vec (F i)) μ v→RV w A' (rowV r) noMu v:=by
  intro i r v hr hv
  have g:G M (hpL 0 (topoH L p rs (names N))) (F i)=some (.vec 1 (r.map AV.bool)):=G_F hr hMl
  have hi:i<N:=by rw [←hM.1];exact (List.getElem?_eq_some_iff.mp hr).1
  have:=Give.vec g (pureL_bool r) P c A μ _ tm n a w v H hv
  refine RV.pure trivial (this.mono (fun _ _=>rfl) (fun q hq=>?_) _ (MuLe.refl _))
  rcases hq with hq|⟨hd,e1,e2,e3⟩
  ·exact .inl hq
  ·exact .inr ⟨F i,hd,.inr ⟨i,hi,rfl⟩,e1,e2,e3⟩
 have out:RV w A' (.sl 1 (M.map rowV) false) noMu (a.tmps.getD 9 undef):=by
  have hv:=H.tm 9
  rw [t9] at hv
  obtain ⟨hd,e1,hv⟩:=hv
  obtain ⟨hd',f1,f2,f3⟩:=H.vec (show G M (hpL 0 (topoH L p rs (names N))) 4=some (.vec 1 (names N)) from G4 _ _)
  rw [e1] at f1;cases f1
  rcases f3 with ⟨f3,_⟩|⟨g1,g2,g4,g5,C,ty,vs,k1,k2,k3,k4,k5,k6,k7⟩
  ·have:=congrArg List.length f3
   rw [names_len] at this;simp at this;omega
  ·rw [names_len] at g2
   have hv':hd.val=.slice (some ⟨hd.blk,0,none⟩) (M.map rowV).length hd.cap:=by rw [Hd.val,g1,g2,List.length_map,hM.1]
   rw [hv,hv']
   refine .inr ⟨hd.blk,0,hd.cap,vs,rfl,.inr ⟨4,hd,.inl rfl,e1,g1,rfl⟩,by rw [List.length_map,hM.1];omega,g5,(fun h=>by cases h),?_,fun v hv=>⟨k4 v hv,?_⟩,fun p u hu=>by rw [Nat.zero_add];exact k7 p u hu,fun y hy=>?_⟩
   ·refine RVL.of_get (by rw [List.length_map,hM.1,←k2.length,names_len]) fun i y v hy hv=>?_
    rw [List.getElem?_map] at hy
    obtain ⟨r,hr,rfl⟩:=Option.map_eq_some_iff.mp hy
    have hi:i<N:=by rw [←hM.1];exact (List.getElem?_eq_some_iff.mp hr).1
    exact row i r v hr (k2.get2 (names_get hi) hv)
   ·obtain ⟨i,hi⟩:=List.mem_iff_getElem?.1 hv
    have hlt:i<N:=by
     have:=(List.getElem?_eq_some_iff.1 hi).1
     rwa [←k2.length,names_len] at this
    exact (RV.cells rfl (k2.get2 (names_get hlt) hi)).2
   ·obtain ⟨r,_,rfl⟩:=List.mem_map.mp hy;rfl
 refine ⟨h0,A',μ,fun t=>?_,H.n,H.df,fun b y hy=>?_,fun b b' y y' hd hd' hy hy'=>?_,?_,fun b hb=>?_,H.keep,fun b hb=>.inl (H.A0 b hb),?_,H.mu⟩
 ·show RV w A' (resT _ t) μ _
  have ht:=H.tm t
  simp only [resT]
  split
  ·rename_i e;subst e;rw [show tm 0=_ from t0] at ht;exact ht.mono same hle _ (MuLe.refl _)
  split
  ·rename_i e;subst e;rw [show tm 4=_ from t4] at ht;exact ht.mono same hle _ (MuLe.refl _)
  split
  ·rename_i e;subst e;rw [show tm 5=_ from t5] at ht;exact ht.mono same hle _ (MuLe.refl _)
  split
  ·rename_i e;subst e;rw [show tm 6=_ from t6] at ht;exact ht.mono same hle _ (MuLe.refl _)
  split
  ·rename_i e;subst e;exact out.up
  ·trivial
 ·obtain ⟨g0,g1⟩:=hsub b y hy
  obtain ⟨hd,e1,e2,e3⟩:=H.blk b y g1
  refine ⟨hd,e1,e2.mono same hle (MuLe.refl _) (fun _=>rfl),fun he=>⟨?_,(e3 he).2⟩⟩
  rintro (h|⟨b2,hd2,q1,q2,q3,q4⟩)
  ·exact (e3 he).1 h
  ·obtain ⟨x2,hx2⟩:=hlive b2 q1
   have:=H.inj b b2 y x2 hd hd2 g1 hx2 e1 q2 he q3 q4.symm
   exact hnf b g0 (this ▸ q1)
 ·exact H.inj b b' y y' hd hd' (hsub b y hy).2 (hsub b' y' hy').2
 ·refine H.lt.mono same hle ?_
  rintro q (h|⟨b,hd,q1,q2,q3,rfl⟩)
  ·exact H.lt q h
  ·obtain ⟨x,hx⟩:=hlive b q1
   obtain ⟨hd',e1,e2,e3⟩:=H.blk b x hx
   rw [q2] at e1;cases e1
   exact (e3 q3).2.1
 ·obtain ⟨q1,q2⟩:=H.fr b hb
  refine ⟨q1,?_⟩
  cases hy:hpL 0 [some (.box (Tap.v ⟨L,p⟩)),some (.box (.agg [.sl 0 [] true,.sl 0 [] true])),some (.box (.agg [.vec 3,.sl 0 [] true])),some (.vec 2 (rs.map Rtr.v))] b with
  | none=>exact hy
  | some y=>have:=(hsub b y hy).1;have hb:nx≤b:=hb;omega
 ·rintro q (h|⟨b,hd,q1,q2,q3,rfl⟩)
  ·exact H.A1 q h
  ·obtain ⟨x,hx⟩:=hlive b q1
   obtain ⟨hd',e1,e2,e3⟩:=H.blk b x hx
   rw [q2] at e1;cases e1
   exact .inr (e3 q3).2.2
def topo_c4:AC:=.seq (.reg [⟨(some 68),.move (.t 0),none⟩,⟨(some 69),.move (.t 5),none⟩,⟨(some 70),.bin .add (.t 69) (.c (.val (.int .i64 2))),none⟩,⟨(some 71),.call (.c (.func 10 [])) [(.t 68),(.t 70)],none⟩,⟨(some 12),.move (.t 71),none⟩])
 (.block 6 (.loop (.seq (.seq (.reg [⟨(some 72),.move (.t 12),none⟩,⟨(some 73),.bin .gtr (.t 72) (.c (.val (.int .i64 0))),none⟩])
 (.cond (.t 73) (.skip) (.exit 6)))
 (.seq (.block 7 (.seq (.reg [⟨(some 76),.move (.t 0),none⟩,⟨(some 77),.move (.t 5),none⟩,⟨(some 78),.call (.c (.func 10 [])) [(.t 76),(.t 77)],none⟩,⟨(some 79),.move (.t 0),none⟩,⟨(some 80),.move (.t 5),none⟩,⟨(some 81),.call (.c (.func 10 [])) [(.t 79),(.t 80)],none⟩,⟨(some 13),.move (.t 78),none⟩,⟨(some 14),.move (.t 81),none⟩])
 (.seq (.reg [⟨(some 82),.move (.t 13),none⟩,⟨(some 83),.move (.t 14),none⟩,⟨(some 84),.bin .neq (.t 82) (.t 83),none⟩])
 (.cond (.t 84) (.reg [⟨(some 85),.move (.t 9),none⟩,⟨(some 86),.move (.t 13),none⟩,⟨(some 87),.move (.t 14),none⟩,⟨(some 88),.min [(.t 86),(.t 87)],none⟩,⟨(some 89),.iaddr 1 (.t 85) (.t 88),none⟩,⟨(some 90),.load false 1 (.t 89),none⟩,⟨(some 91),.move (.t 13),none⟩,⟨(some 92),.move (.t 14),none⟩,⟨(some 93),.max [(.t 91),(.t 92)],none⟩,⟨(some 94),.iaddr 1 (.t 90) (.t 93),none⟩,⟨none,.store 1 (.t 94) (.c (.val (.bool true))),none⟩]) (.skip)))))
 (.reg [⟨(some 74),.move (.t 12),none⟩,⟨(some 75),.bin .sub (.t 74) (.c (.val (.int .i64 1))),none⟩,⟨(some 12),.move (.t 75),none⟩])))))
def topoE(L:List Int)(p:Nat)(rs:List Rtr)(n:Int)(M:List (List Bool)):S3:=
 ⟨resT [(0,.ref 0 0),(4,.ref 1 0),(5,.int n),(6,.ref 2 0),(9,.sl 1 (M.map rowV) false)],hpL 0 [some (.box (Tap.v ⟨L,p⟩)),some (.box (.agg [.sl 0 [] true,.sl 0 [] true])),some (.box (.agg [.vec 3,.sl 0 [] true])),some (.vec 2 (rs.map Rtr.v))],4⟩
def lkE(L:List Int)(n:Nat)(p:Nat)(M:List (List Bool)):List (List Bool)×Nat:=lk2 L n (Mod (rawV L p) (n+2)).toNat (rawP L p) M
theorem maxI_max(a b:Int):maxI a b=max a b:=by unfold maxI;split<;>omega
theorem minI_min(a b:Int):minI a b=min a b:=by unfold minI;split<;>omega
theorem topo_h4(L:List Int)(p:Nat)(rs:List Rtr)(n:Int)(M:List (List Bool))(hn:1≤n∧n≤100)(hM:Sq n.toNat M)(k:Nat) :
  HandOk Tryz.prog 1 k topo_c4 (topoS L p rs n M) (topoE L (lkE L n.toNat p M).2 rs n (lkE L n.toNat p M).1):=by
 obtain ⟨N,rfl⟩:∃N:Nat,n=N:=⟨n.toNat,by omega⟩
 simp only [topoS,topoE,Int.toNat_natCast] at hM ⊢
 unfold HandOk topo_c4
 have hC:=Mod_range (x:=rawV L p) (n:=(N:Int)+2) (by omega)
 have hE:lk2 L N (Mod (rawV L p) (N+2)).toNat (rawP L p) M=lkE L N p M:=rfl
 generalize lkE L N p M=E at hE ⊢
 generalize hq:Mod (rawV L p) ((N:Int)+2)=X at hC hE
 obtain ⟨C,rfl⟩:∃C:Nat,X=C:=⟨X.toNat,by omega⟩
 rw [Int.toNat_natCast] at hE
 have w2:IntKind.i64.wrap ((N:Int)+2)=(N:Int)+2:=wrap64 (by omega)
 refine AWP.seq' ?_
 refine AWP.reg' fun K hK=>?_
 try simp only [stepS,stepD,stepM,eq_self,implies_true,forall_eq_or_imp,forall_eq,Nat.reduceEqDiff,↓reduceIte,Nat.reduceAdd,Nat.reduceLeDiff,Nat.reduceSub,Nat.reduceMul,Nat.reduceLT,Int.reduceBEq,Int.reduceBNe,Int.reduceToNat,Int.reduceLT,Int.reduceLE,Int.reduceAdd,Int.reduceSub,Int.reduceMul,reduceCtorEq,w2]
 have hc0:HSpec Tryz.prog (N_h L p ((N:Int)+2)).f [.ref 0 0,.int ((N:Int)+2)] [.box (Tap.v ⟨L,p⟩)] (.int C) [some (.box (Tap.v ⟨L,rawP L p⟩))]:=by rw [←hq];exact (N_h L p ((N:Int)+2)).ok
 refine evT_own (hs:=hc0) (N_h L p ((N:Int)+2)).fn (args:=[.int ((N:Int)+2)]) ⟨trivial,trivial⟩ (tap_pure _ _) (tap_pure _ _) trivial rfl (by rfl) (by rfl) ?_
 try simp only [stepS,stepD,stepM,eq_self,implies_true,forall_eq_or_imp,forall_eq,Nat.reduceEqDiff,↓reduceIte,Nat.reduceAdd,Nat.reduceLeDiff,Nat.reduceSub,Nat.reduceMul,Nat.reduceLT,Int.reduceBEq,Int.reduceBNe,Int.reduceToNat,Int.reduceLT,Int.reduceLE,Int.reduceAdd,Int.reduceSub,Int.reduceMul,reduceCtorEq]
 refine hK _ _ _ ?_
 clear hK K
 refine AWP.block ?_
 refine AWP.loopS (σ:=Nat×Nat×List (List Bool)) (fun t=>⟨resT [(0,.ref 0 0),(4,.ref 1 0),(5,.int N),(6,.ref 2 0),(9,.vec 4),(12,.int (t.1:Nat))],G t.2.2 (hpL 0 (topoH L t.2.1 rs (names N))),2000⟩)
  (fun t=>t.1≤N+2∧Sq N t.2.2∧lk2 L N t.1 t.2.1 t.2.2=E) (fun t=>t.1) (i0:=(C,rawP L p,M)) ⟨by omega,hM,hE⟩ ?_ ?_
 ·have hMl:M.length≤1000:=by rw [hM.1];omega
  refine Weak.nfG _ _ _ (fun b=>b) F0 ?_ (topoH_F rfl rfl rfl rfl rfl (names_bel N (by omega))) (by simp [topoH]) hMl ?_ (fun i j _ _ h=>h) (fun i j _ _ h=>by unfold F0 at h;omega) (fun i j h1 h2 h=>by simp [topoH] at h1;unfold F0 at h;omega) (fun b _=>rfl) (by decide)
  ·simp only [List.forall_mem_cons,List.not_mem_nil,false_implies,implies_true,and_true]
   exact ⟨⟨rfl,show 0<2000 by omega⟩,⟨rfl,show 1<2000 by omega⟩,⟨rfl,trivial⟩,⟨rfl,show 2<2000 by omega⟩,⟨rfl,show 4<2000 by omega⟩,rfl,trivial⟩
  ·intro j r hr
   rw [show F0 j=F j from rfl]
   simp only [upd_ap,F_lo (show 0<1000 by omega),if_false]
   exact G_F hr hMl
 clear hM hE hq hC
 rintro ⟨i,p,M⟩ ⟨h2,hM,hE⟩
 simp only at h2 hM hE ⊢
 have hMl:M.length≤1000:=by rw [hM.1];omega
 refine AWP.seq' (AWP.seq' ?_)
 refine AWP.reg' fun K hK=>?_
 try simp only [stepS,stepD,stepM,eq_self,implies_true,forall_eq_or_imp,forall_eq,Nat.reduceEqDiff,↓reduceIte,Nat.reduceAdd,Nat.reduceLeDiff,Nat.reduceSub,Nat.reduceMul,Nat.reduceLT,Int.reduceBEq,Int.reduceBNe,Int.reduceToNat,Int.reduceLT,Int.reduceLE,Int.reduceAdd,Int.reduceSub,Int.reduceMul,reduceCtorEq]
 refine hK _ _ _ ?_
 clear hK K
 refine AWP.cond (b:=decide ((0:Int)<(i:Int))) rfl (fun h=>?_) (fun h=>?_)
 ·have h:0<i:=by have:=of_decide_eq_true h;omega
  obtain ⟨i,rfl⟩:∃j,i=j+1:=⟨i-1,by omega⟩
  refine AWP.skip ?_
  refine AWP.seq' (AWP.block (AWP.seq' ?_))
  refine AWP.reg' fun K hK=>?_
  try simp only [stepS,stepD,stepM,eq_self,implies_true,forall_eq_or_imp,forall_eq,Nat.reduceEqDiff,↓reduceIte,Nat.reduceAdd,Nat.reduceLeDiff,Nat.reduceSub,Nat.reduceMul,Nat.reduceLT,Int.reduceBEq,Int.reduceBNe,Int.reduceToNat,Int.reduceLT,Int.reduceLE,Int.reduceAdd,Int.reduceSub,Int.reduceMul,reduceCtorEq]
  have hX:=Mod_range (x:=rawV L p) (n:=(N:Int)) (by omega)
  have hY:=Mod_range (x:=rawV L (rawP L p)) (n:=(N:Int)) (by omega)
  rw [lk2] at hE
  have hc1:=(N_h L p N).ok
  have hc2:=(N_h L (rawP L p) N).ok
  have hc1:HSpec Tryz.prog (N_h L p N).f [.ref 0 0,.int N] [.box (Tap.v ⟨L,p⟩)] (.int (Mod (rawV L p) N)) [some (.box (Tap.v ⟨L,rawP L p⟩))]:=hc1
  have hc2:HSpec Tryz.prog (N_h L (rawP L p) N).f [.ref 0 0,.int N] [.box (Tap.v ⟨L,rawP L p⟩)] (.int (Mod (rawV L (rawP L p)) N)) [some (.box (Tap.v ⟨L,rawP L (rawP L p)⟩))]:=hc2
  generalize Mod (rawV L p) (N:Int)=X at hX hE hc1
  generalize Mod (rawV L (rawP L p)) (N:Int)=Y at hY hE hc2
  refine evT_own (hs:=hc1) (N_h L p N).fn (args:=[.int N]) ⟨trivial,trivial⟩ (tap_pure _ _) (tap_pure _ _) trivial rfl (by rfl) (by rfl) ?_
  try simp only [stepS,stepD,stepM,eq_self,implies_true,forall_eq_or_imp,forall_eq,Nat.reduceEqDiff,↓reduceIte,Nat.reduceAdd,Nat.reduceLeDiff,Nat.reduceSub,Nat.reduceMul,Nat.reduceLT,Int.reduceBEq,Int.reduceBNe,Int.reduceToNat,Int.reduceLT,Int.reduceLE,Int.reduceAdd,Int.reduceSub,Int.reduceMul,reduceCtorEq]
  refine evT_own (hs:=hc2) (N_h L (rawP L p) N).fn (args:=[.int N]) ⟨trivial,trivial⟩ (tap_pure _ _) (tap_pure _ _) trivial rfl (by rfl) (by rfl) ?_
  try simp only [stepS,stepD,stepM,eq_self,implies_true,forall_eq_or_imp,forall_eq,Nat.reduceEqDiff,↓reduceIte,Nat.reduceAdd,Nat.reduceLeDiff,Nat.reduceSub,Nat.reduceMul,Nat.reduceLT,Int.reduceBEq,Int.reduceBNe,Int.reduceToNat,Int.reduceLT,Int.reduceLE,Int.reduceAdd,Int.reduceSub,Int.reduceMul,reduceCtorEq]
  refine hK _ _ _ ?_
  clear hK K
  refine AWP.seq' ?_
  refine AWP.reg' fun K hK=>?_
  try simp only [stepS,stepD,stepM,eq_self,implies_true,forall_eq_or_imp,forall_eq,Nat.reduceEqDiff,↓reduceIte,Nat.reduceAdd,Nat.reduceLeDiff,Nat.reduceSub,Nat.reduceMul,Nat.reduceLT,Int.reduceBEq,Int.reduceBNe,Int.reduceToNat,Int.reduceLT,Int.reduceLE,Int.reduceAdd,Int.reduceSub,Int.reduceMul,reduceCtorEq]
  refine hK _ _ _ ?_
  clear hK K
  have w:IntKind.i64.wrap (((i+1:Nat):Int)-1)=(i:Nat):=wrapN (by omega) (by omega)
  refine AWP.cond (b:=(X != Y)) rfl (fun hc=>?_) (fun hc=>?_)
  ·have hc:¬X=Y:=by simpa using hc
   rw [if_neg hc] at hE
   obtain ⟨U,hU⟩:∃U:Nat,min X Y=U:=⟨(min X Y).toNat,by omega⟩
   obtain ⟨V,hV⟩:∃V:Nat,max X Y=V:=⟨(max X Y).toNat,by omega⟩
   rw [hU,hV,Int.toNat_natCast,Int.toNat_natCast] at hE
   have hUN:U<N:=by omega
   have hVN:V<N:=by omega
   obtain ⟨r,hr,hrl,-⟩:=hM.get hUN
   obtain ⟨b0,hb0⟩:=bools_getD (r:=r) (i:=V) (by omega)
   have hT4:hpL 0 (topoH L p rs (names N)) 4=some (.vec 1 (names N)):=rfl
   have hgF:G M (hpL 0 (topoH L p rs (names N))) (F U)=some (.vec 1 (r.map AV.bool)):=G_F hr hMl
   have hso:(AV.vec (F U)).solid=true:=rfl
   have hce:(AV.vec (F U)).cells=[AV.vec (F U)]:=rfl
   have hpa:partA (.vec (F U)) 0 1 false=.vec (F U):=rfl
   have hF0:(F U=0)=False:=F_lo (by decide)
   have hF3:(F U=4)=False:=F_lo (by decide)
   have hbs:(AV.bool b0).solid=true:=rfl
   have hbc:(AV.bool b0).cells=[AV.bool b0]:=rfl
   have htc:(AV.bool true).cells=[AV.bool true]:=rfl
   have hts:(AV.bool true).solid=true:=rfl
   have hsp:setPart (.bool b0) 0 (.bool true)=.bool true:=rfl
   refine AWP.reg' fun K hK=>?_
   try simp only [stepS,stepD,stepM,eq_self,implies_true,forall_eq_or_imp,forall_eq,Nat.reduceEqDiff,↓reduceIte,Nat.reduceAdd,Nat.reduceLeDiff,Nat.reduceSub,Nat.reduceMul,Nat.reduceLT,Int.reduceBEq,Int.reduceBNe,Int.reduceToNat,Int.reduceLT,Int.reduceLE,Int.reduceAdd,Int.reduceSub,Int.reduceMul,reduceCtorEq,foldA,foldI,minI_min,maxI_max,hU,hV,G4,hT4,names_len,Int.toNat_natCast,names_getD hUN,hso,hce,hpa,hF0,hF3,hgF,List.length_map,hb0,hbs,hbc,htc,hts,hsp,if_false]
   refine ⟨⟨by omega,by omega⟩,by omega,⟨by omega,by omega⟩,by omega,?_⟩
   refine hK _ _ _ ?_
   clear hK K
   refine (show AWP _ _ _ _ _ _ from ?_)
   refine AWP.reg' fun K hK=>?_
   try simp only [stepS,stepD,stepM,eq_self,implies_true,forall_eq_or_imp,forall_eq,Nat.reduceEqDiff,↓reduceIte,Nat.reduceAdd,Nat.reduceLeDiff,Nat.reduceSub,Nat.reduceMul,Nat.reduceLT,Int.reduceBEq,Int.reduceBNe,Int.reduceToNat,Int.reduceLT,Int.reduceLE,Int.reduceAdd,Int.reduceSub,Int.reduceMul,reduceCtorEq,w]
   refine hK _ _ _ ?_
   clear hK K
   refine ⟨(i,rawP L (rawP L p),mset M U V),⟨by omega,hM.set _ _,hE⟩,by omega,?_⟩
   have hM':(mset M U V).length≤1000:=by rw [(hM.set U V).1];omega
   refine Weak.nfG _ _ _ (fun b=>b) F0 ?_ (topoH_F ?_ ?_ ?_ ?_ ?_ (names_bel N (by omega))) (by simp [topoH]) hM' ?_ (fun i j _ _ h=>h) (fun i j _ _ h=>by unfold F0 at h;omega) (fun i j h1 h2 h=>by simp [topoH] at h1;unfold F0 at h;omega) (fun b _=>rfl) (by decide)
   ·simp only [List.forall_mem_cons,List.not_mem_nil,false_implies,implies_true,and_true]
    exact ⟨⟨rfl,show 0<2000 by omega⟩,⟨rfl,show 1<2000 by omega⟩,⟨rfl,trivial⟩,⟨rfl,show 2<2000 by omega⟩,⟨rfl,show 4<2000 by omega⟩,rfl,trivial⟩
   ·simp only [upd_ap,F_lo' (show 0<1000 by omega),if_false,if_true]
   ·simp only [upd_ap,F_lo' (show 1<1000 by omega),if_false];rfl
   ·simp only [upd_ap,F_lo' (show 2<1000 by omega),if_false];rfl
   ·simp only [upd_ap,F_lo' (show 3<1000 by omega),if_false];rfl
   ·simp only [upd_ap,F_lo' (show 4<1000 by omega),if_false];rfl
   ·intro j q hj
    rw [show F0 j=F j from rfl]
    rcases mset_get hr hj with ⟨rfl,rfl⟩|⟨hne,hj⟩
    ·simp only [upd_ap,if_true,List.map_set]
    ·have:(F j=F U)=False:=by unfold F;simp;omega
     simp only [upd_ap,this,F_lo (show 0<1000 by omega),if_false]
     exact G_F hj hMl
  ·have hc:X=Y:=by simpa using hc
   rw [if_pos hc] at hE
   refine AWP.skip ?_
   refine (show AWP _ _ _ _ _ _ from ?_)
   refine AWP.reg' fun K hK=>?_
   try simp only [stepS,stepD,stepM,eq_self,implies_true,forall_eq_or_imp,forall_eq,Nat.reduceEqDiff,↓reduceIte,Nat.reduceAdd,Nat.reduceLeDiff,Nat.reduceSub,Nat.reduceMul,Nat.reduceLT,Int.reduceBEq,Int.reduceBNe,Int.reduceToNat,Int.reduceLT,Int.reduceLE,Int.reduceAdd,Int.reduceSub,Int.reduceMul,reduceCtorEq,w]
   refine hK _ _ _ ?_
   clear hK K
   refine ⟨(i,rawP L (rawP L p),M),⟨by omega,hM,hE⟩,by omega,?_⟩
   refine Weak.nfG _ _ _ (fun b=>b) F0 ?_ (topoH_F rfl rfl rfl rfl rfl (names_bel N (by omega))) (by simp [topoH]) hMl ?_ (fun i j _ _ h=>h) (fun i j _ _ h=>by unfold F0 at h;omega) (fun i j h1 h2 h=>by simp [topoH] at h1;unfold F0 at h;omega) (fun b _=>rfl) (by decide)
   ·simp only [List.forall_mem_cons,List.not_mem_nil,false_implies,implies_true,and_true]
    exact ⟨⟨rfl,show 0<2000 by omega⟩,⟨rfl,show 1<2000 by omega⟩,⟨rfl,trivial⟩,⟨rfl,show 2<2000 by omega⟩,⟨rfl,show 4<2000 by omega⟩,rfl,trivial⟩
   ·intro j r hr
    rw [show F0 j=F j from rfl]
    simp only [upd_ap,F_lo (show 0<1000 by omega),if_false]
    exact G_F hr hMl
 ·have h:i=0:=by have:=of_decide_eq_false h;omega
  subst h
  refine AWP.exit ?_
  refine (show Weak 1 k _ _ from ?_)
  rw [lk2] at hE
  subst hE
  refine Weak.trans (topo_frz (x:=.int N) hM (by omega) ?_ ?_ ?_ ?_ trivial ?_ ?_) ?_
  ·exact Nat.le_of_ble_eq_true rfl
  ·rfl
  ·rfl
  ·rfl
  ·rfl
  ·rfl
  refine Weak.nf [0,1,2,3] _ _ ?_ ?_ ⟨rfl,rfl⟩ (by decide) (by decide) (by decide)
  ·repeat' (first|exact trivial|exact And.intro rfl trivial|refine And.intro ?_ ?_|rfl|exact Nat.le_of_ble_eq_true rfl|(rw [Blk.ren,renL_pure _ (pureL_rtr rs)];rfl)|exact belL_pure (pureL_rtr rs))
  ·repeat' (first|exact trivial|exact And.intro rfl trivial|refine And.intro ?_ ?_|rfl|exact Nat.le_of_ble_eq_true rfl|(rw [Blk.ren,renL_pure _ (pureL_rtr rs)];rfl)|exact belL_pure (pureL_rtr rs))
theorem rng_top{L:List Int}{p:Nat}{most:Int}(h:1≤most∧most≤100):1≤rng L p 1 most∧rng L p 1 most≤100:=by
 have:=rng_in (L:=L) (p:=p) (lo:=1) (hi:=most) (by omega)
 omega
def rtsL(L:List Int):Nat→Int→Nat→List Rtr→List Rtr×Nat
 | 0,id,p,rs=>(rs,p)
 | n+1,id,p,rs=>rtsL L n (id+pickI [1,1,1,2,5] (rawV L p)) (rawP L p) (rs++[⟨id+pickI [1,1,1,2,5] (rawV L p),true⟩])
def lnkP(L:List Int)(flat:Bool)(p:Nat):Nat:=if flat then rawP L p else rawP L (rawP L (rawP L (rawP L (rawP L p))))
def lnkCa(L:List Int)(p:Nat):Int:=pickI [1,2,3,rng L p 1 20,1000] (rawV L (rawP L p))
def lnkCb(L:List Int)(p:Nat)(ca:Int):Int:=pickI [ca,ca,rng L p 1 20] (rawV L (rawP L p))
def lnk0(L:List Int)(flat:Bool)(a b:Int)(p:Nat):Lnk:=
 if flat then ⟨a,b,1,1,pickI [0,1,2,3,5,10,1000] (rawV L p)⟩
 else ⟨a,b,lnkCa L (rawP L p),lnkCb L (rawP L (rawP L (rawP L p))) (lnkCa L (rawP L p)),pickI [0,1,2,3,5,10,1000] (rawV L p)⟩
def idAt(rs:List Rtr)(i:Nat):Int:=(rs.getD i ⟨0,false⟩).id
def lnk1(L:List Int)(rs:List Rtr)(flat:Bool)(a:Nat):List Bool→Nat→List Lnk→Nat→List Lnk×Nat
 | [],b,ls,p=>(ls,p)
 | t::r,b,ls,p=>if t then lnk1 L rs flat a r (b+1) (ls++[lnk0 L flat (idAt rs a) (idAt rs b) p]) (lnkP L flat p) else lnk1 L rs flat a r (b+1) ls p
def lnk2(L:List Int)(rs:List Rtr)(flat:Bool):List (List Bool)→Nat→List Lnk→Nat→List Lnk×Nat
 | [],a,ls,p=>(ls,p)
 | r::M,a,ls,p=>lnk2 L rs flat M (a+1) (lnk1 L rs flat a r 0 ls p).1 (lnk1 L rs flat a r 0 ls p).2
def topoM(L:List Int)(n p:Nat):List (List Bool)×Nat:=lkE L n (lk1 L (n-1) 1 p (sq0 n)).2 (lk1 L (n-1) 1 p (sq0 n)).1
def topoR(L:List Int)(p:Nat)(most:Int):List Rtr×Nat:=rtsL L (rng L p 1 most).toNat 0 (rawP L p) []
def topoT(L:List Int)(p:Nat)(most:Int):Tpl×Nat:=
 let r:=topoR L p most;let m:=topoM L (rng L p 1 most).toNat r.2
 let k:=lnk2 L r.1 (Mod (rawV L m.2) 3==0) m.1 0 [] (rawP L m.2)
 (⟨r.1,k.1⟩,k.2)
theorem rtsL_len{L:List Int}:∀{n:Nat} {id:Int} {p:Nat} {rs:List Rtr},(rtsL L n id p rs).1.length=rs.length+n
 | 0,_,_,_=>by simp [rtsL]
 | n+1,id,p,rs=>by rw [rtsL,rtsL_len];simp;omega
theorem topoM_sq(L:List Int)(n p:Nat):Sq n (topoM L n p).1:=lk2_sq (lk1_sq (sq0_sq n))
theorem pick5{L:List Int}{p:Nat}:1≤pickI [1,1,1,2,5] (rawV L p)∧pickI [1,1,1,2,5] (rawV L p)≤5:=by
 have:=pickI_mem (l:=[1,1,1,2,5]) (by simp) (rawV L p)
 simp at this;omega
def topoT_a(L:(List Int))(p:Nat)(most:Int)(hm:1≤most∧most≤100):Prop:=okL [.ref 0 0,.int most]∧(.box (.agg [.sl 1 (L.map AV.int) false,.int ((p:Nat):Int)]):Blk).ok
abbrev topoT_v0(L:(List Int))(p:Nat)(most:Int):=(sq0 ((rng L p 1 most)).toNat)
def topoT_n0(L:(List Int))(p:Nat)(most:Int)(t0:Int×Int×Nat×(List Rtr)):NF:=⟨[(0,.k,.ref 0 0),(4,.k,.ref 1 0),(5,.k,.int (rng L p 1 most)),(6,.k,.ref 2 0),(7,.k,.int t0.1),(8,.k,.int t0.2.1)],[.box (.agg [.sl 1 (L.map AV.int) false,.int ((t0.2.2.1:Nat):Int)]),.box (.agg [.sl 0 [] true,.sl 0 [] true]),.box (.agg [.vec 3,.sl 0 [] true]),.vec 2 (t0.2.2.2.map Rtr.v) (pureBL_map (fun _=>rfl) t0.2.2.2)]⟩
def topoT_n1(L:(List Int))(p:Nat)(most:Int)(t0:Int×Int×Nat×(List Rtr))(t1:Int×Nat×(List Lnk)):NF:=⟨[(0,.k,.ref 0 0),(4,.k,.ref 1 0),(6,.k,.ref 2 0),(9,.k,.sl 1 (((lkE L ((rng L p 1 most)).toNat ((lk1 L (((rng L p 1 most)).toNat-1) 1 t0.2.2.1 (topoT_v0 L p most)).2) (lk1 L (((rng L p 1 most)).toNat-1) 1 t0.2.2.1 (topoT_v0 L p most)).1).1).map (fun l=>AV.sl 1 (l.map AV.bool) false)) false),(15,.k,.bool ((Mod (rawV L (lkE L ((rng L p 1 most)).toNat ((lk1 L (((rng L p 1 most)).toNat-1) 1 t0.2.2.1 (topoT_v0 L p most)).2) (lk1 L (((rng L p 1 most)).toNat-1) 1 t0.2.2.1 (topoT_v0 L p most)).1).2) 3)==0)),(99,.k,.int ((((lkE L ((rng L p 1 most)).toNat ((lk1 L (((rng L p 1 most)).toNat-1) 1 t0.2.2.1 (topoT_v0 L p most)).2) (lk1 L (((rng L p 1 most)).toNat-1) 1 t0.2.2.1 (topoT_v0 L p most)).1).1).map (fun l=>AV.sl 1 (l.map AV.bool) false)).length:Int)),(100,.k,.int t1.1)],[.box (.agg [.sl 1 (L.map AV.int) false,.int ((t1.2.1:Nat):Int)]),.box (.agg [.sl 0 [] true,.sl 0 [] true]),.box (.agg [.vec 3,.vec 4]),.vec 2 (t0.2.2.2.map Rtr.v) (pureBL_map (fun _=>rfl) t0.2.2.2),.vec 5 (t1.2.2.map Lnk.v) (pureBL_map (fun _=>rfl) t1.2.2)]⟩
def topoT_n2(L:(List Int))(p:Nat)(most:Int)(t0:Int×Int×Nat×(List Rtr))(t1:Int×Nat×(List Lnk))(t2:Int×(List Lnk)×Nat):NF:=⟨[(0,.k,.ref 0 0),(4,.k,.ref 1 0),(6,.k,.ref 2 0),(9,.k,.sl 1 (((lkE L ((rng L p 1 most)).toNat ((lk1 L (((rng L p 1 most)).toNat-1) 1 t0.2.2.1 (topoT_v0 L p most)).2) (lk1 L (((rng L p 1 most)).toNat-1) 1 t0.2.2.1 (topoT_v0 L p most)).1).1).map (fun l=>AV.sl 1 (l.map AV.bool) false)) false),(15,.k,.bool ((Mod (rawV L (lkE L ((rng L p 1 most)).toNat ((lk1 L (((rng L p 1 most)).toNat-1) 1 t0.2.2.1 (topoT_v0 L p most)).2) (lk1 L (((rng L p 1 most)).toNat-1) 1 t0.2.2.1 (topoT_v0 L p most)).1).2) 3)==0)),(16,.k,.int t1.1),(99,.k,.int ((((lkE L ((rng L p 1 most)).toNat ((lk1 L (((rng L p 1 most)).toNat-1) 1 t0.2.2.1 (topoT_v0 L p most)).2) (lk1 L (((rng L p 1 most)).toNat-1) 1 t0.2.2.1 (topoT_v0 L p most)).1).1).map (fun l=>AV.sl 1 (l.map AV.bool) false)).length:Int)),(100,.k,.int t1.1),(104,.k,.int ((((lkE L ((rng L p 1 most)).toNat ((lk1 L (((rng L p 1 most)).toNat-1) 1 t0.2.2.1 (topoT_v0 L p most)).2) (lk1 L (((rng L p 1 most)).toNat-1) 1 t0.2.2.1 (topoT_v0 L p most)).1).1).map (fun l=>AV.sl 1 (l.map AV.bool) false)).length:Int)),(105,.k,.int t2.1)],[.box (.agg [.sl 1 (L.map AV.int) false,.int ((t2.2.2:Nat):Int)]),.box (.agg [.sl 0 [] true,.sl 0 [] true]),.box (.agg [.vec 3,.vec 4]),.vec 2 (t0.2.2.2.map Rtr.v) (pureBL_map (fun _=>rfl) t0.2.2.2),.vec 5 (t2.2.1.map Lnk.v) (pureBL_map (fun _=>rfl) t2.2.1)]⟩
@[reducible] def topoT_s:Nat→Type
 | 0=>Int×Int×Nat×(List Rtr)
 | 1=>Int×Nat×(List Lnk)
 | 2=>Int×(List Lnk)×Nat
 | _=>Unit
def topoT_e(r:Tap×Tpl):AV:=.agg [.sl 2 (r.2.rs.map Rtr.v) false,.sl 5 (r.2.ls.map Lnk.v) false]
def topoT_b(r:Tap×Tpl):List (Option Blk):=[some (.box (.agg [.sl 1 (r.1.L.map AV.int) false,.int ((r.1.p:Nat):Int)]))]
def topoT_x(L:(List Int))(p:Nat)(most:Int)(hm:1≤most∧most≤100)(I0:(Int×Int×Nat×(List Rtr))→Prop)(m0:(Int×Int×Nat×(List Rtr))→Nat)(I1:Int×Int×Nat×(List Rtr)→(Int×Nat×(List Lnk))→Prop)(m1:Int×Int×Nat×(List Rtr)→(Int×Nat×(List Lnk))→Nat)(I2:Int×Int×Nat×(List Rtr)→Int×Nat×(List Lnk)→(Int×(List Lnk)×Nat)→Prop)(m2:Int×Int×Nat×(List Rtr)→Int×Nat×(List Lnk)→(Int×(List Lnk)×Nat)→Nat):Ax Tryz.prog topoT_s (Tap×Tpl):=
 (.callH [0] (Range_h L p 1 most) 49
(.cmdL (.nilB 81 0 2) (.loop 0 (topoT_n0 L p most) I0 m0 (0,0,rawP L p,[]) [0,1,81,129] fun (t0:Int×Int×Nat×(List Rtr)) b0 =>
(.br 52 (decide (t0.2.1<(rng L p 1 most))) (.req 100 ([1,1,1,2,5]≠[]) fun h1 =>
(.callH [0] (Pick_h L t0.2.2.1 [1,1,1,2,5] h1) 100
(.say (fun R=>Rf (α:=List AV) (t0.2.2.2.map Rtr.v) (Rf (α:=List AV) [.agg [.int (W (t0.1+(pickI [1,1,1,2,5] (rawV L t0.2.2.1)))),.bool true]]
(ck (decide (t0.2.2.2.length+1≤1048576))
R))) (.app 228 Rtr.v t0.2.2.2 [(⟨W (t0.1+(pickI [1,1,1,2,5] (rawV L t0.2.2.1))),true⟩:Rtr)]
(.bk 0 b0 (W (t0.1+(pickI [1,1,1,2,5] (rawV L t0.2.2.1))),W (t0.2.1+1),rawP L t0.2.2.1,t0.2.2.2++[(⟨W (t0.1+(pickI [1,1,1,2,5] (rawV L t0.2.2.1))),true⟩:Rtr)]) [0,1,2,228])))))
(.say (fun R=>Rf (AV.sl 0 [] true) (ck (cond (decide (0≤(rng L p 1 most))) (cond (decide ((rng L p 1 most)≤(rng L p 1 most))) (decide ((rng L p 1 most)≤1048576)) false) false)
R)) (.rep 68 (fun y:AV=>y) (.sl 0 [] true)
(.say (fun R=>FitR (.s 1) (fun l=>AV.sl 1 (l.map AV.bool) false) ((rng L p 1 most).toNat) (.sl 0 [] true) [] ∧
R) (.hand 1 [.wkV 68 (.s 1) (fun l=>AV.sl 1 (l.map AV.bool) false) (List.replicate ((rng L p 1 most).toNat) [])] (topo_m1 L t0.2.2.1 t0.2.2.2 (rng L p 1 most)) [0,1,2,3,68] (topoS L t0.2.2.1 t0.2.2.2 (rng L p 1 most) (topoT_v0 L p most)) topo_c2 (topo_h2 L t0.2.2.1 t0.2.2.2 (rng L p 1 most) (rng_top hm))
(.hand2 1 (topoS L t0.2.2.1 t0.2.2.2 (rng L p 1 most) (topoT_v0 L p most)) (topoS L (lk1 L (((rng L p 1 most)).toNat-1) 1 t0.2.2.1 (topoT_v0 L p most)).2 t0.2.2.2 (rng L p 1 most) (lk1 L (((rng L p 1 most)).toNat-1) 1 t0.2.2.1 (topoT_v0 L p most)).1) topo_c3 (topo_h3 L t0.2.2.1 t0.2.2.2 (rng L p 1 most) (topoT_v0 L p most) (rng_top hm) (sq0_sq _))
(.hand2 1 (topoS L ((lk1 L (((rng L p 1 most)).toNat-1) 1 t0.2.2.1 (topoT_v0 L p most)).2) t0.2.2.2 (rng L p 1 most) (lk1 L (((rng L p 1 most)).toNat-1) 1 t0.2.2.1 (topoT_v0 L p most)).1) (topoE L (lkE L ((rng L p 1 most)).toNat ((lk1 L (((rng L p 1 most)).toNat-1) 1 t0.2.2.1 (topoT_v0 L p most)).2) (lk1 L (((rng L p 1 most)).toNat-1) 1 t0.2.2.1 (topoT_v0 L p most)).1).2 t0.2.2.2 (rng L p 1 most) (lkE L ((rng L p 1 most)).toNat ((lk1 L (((rng L p 1 most)).toNat-1) 1 t0.2.2.1 (topoT_v0 L p most)).2) (lk1 L (((rng L p 1 most)).toNat-1) 1 t0.2.2.1 (topoT_v0 L p most)).1).1) topo_c4 (topo_h4 L ((lk1 L (((rng L p 1 most)).toNat-1) 1 t0.2.2.1 (topoT_v0 L p most)).2) t0.2.2.2 (rng L p 1 most) (lk1 L (((rng L p 1 most)).toNat-1) 1 t0.2.2.1 (topoT_v0 L p most)).1 (rng_top hm) (lk1_sq (sq0_sq _)))
(.callH [0] (N_h L (lkE L ((rng L p 1 most)).toNat ((lk1 L (((rng L p 1 most)).toNat-1) 1 t0.2.2.1 (topoT_v0 L p most)).2) (lk1 L (((rng L p 1 most)).toNat-1) 1 t0.2.2.1 (topoT_v0 L p most)).1).2 3) 20
(.cmdL (.nilB 2 1 5) (.loop 1 (topoT_n1 L p most t0) (I1 t0) (m1 t0) (0,rawP L (lkE L ((rng L p 1 most)).toNat ((lk1 L (((rng L p 1 most)).toNat-1) 1 t0.2.2.1 (topoT_v0 L p most)).2) (lk1 L (((rng L p 1 most)).toNat-1) 1 t0.2.2.1 (topoT_v0 L p most)).1).2,[]) [0,1,2,3,116] fun (t1:Int×Nat×(List Lnk)) b1 =>
(.br 21 (decide (t1.1<((((lkE L ((rng L p 1 most)).toNat ((lk1 L (((rng L p 1 most)).toNat-1) 1 t0.2.2.1 (topoT_v0 L p most)).2) (lk1 L (((rng L p 1 most)).toNat-1) 1 t0.2.2.1 (topoT_v0 L p most)).1).1).map (fun l=>AV.sl 1 (l.map AV.bool) false)).length:Int))) (.loop 2 (topoT_n2 L p most t0 t1) (I2 t0 t1) (m2 t0 t1) (0,t1.2.2,t1.2.1) [0,1,2,3,4] fun (t2:Int×(List Lnk)×Nat) b2 =>
(.br 21 (decide (t2.1<((((lkE L ((rng L p 1 most)).toNat ((lk1 L (((rng L p 1 most)).toNat-1) 1 t0.2.2.1 (topoT_v0 L p most)).2) (lk1 L (((rng L p 1 most)).toNat-1) 1 t0.2.2.1 (topoT_v0 L p most)).1).1).map (fun l=>AV.sl 1 (l.map AV.bool) false)).length:Int))) (.el 85 (fun l=>AV.sl 1 (l.map AV.bool) false) ((lkE L ((rng L p 1 most)).toNat ((lk1 L (((rng L p 1 most)).toNat-1) 1 t0.2.2.1 (topoT_v0 L p most)).2) (lk1 L (((rng L p 1 most)).toNat-1) 1 t0.2.2.1 (topoT_v0 L p most)).1).1) (fun R=>Rf (((lkE L ((rng L p 1 most)).toNat ((lk1 L (((rng L p 1 most)).toNat-1) 1 t0.2.2.1 (topoT_v0 L p most)).2) (lk1 L (((rng L p 1 most)).toNat-1) 1 t0.2.2.1 (topoT_v0 L p most)).1).1).map (fun l=>AV.sl 1 (l.map AV.bool) false)) (ck (decide (0≤t1.1)) (ck (decide (t1.1<(((lkE L ((rng L p 1 most)).toNat ((lk1 L (((rng L p 1 most)).toNat-1) 1 t0.2.2.1 (topoT_v0 L p most)).2) (lk1 L (((rng L p 1 most)).toNat-1) 1 t0.2.2.1 (topoT_v0 L p most)).1).1).length:Int)))
(∀x2,((lkE L ((rng L p 1 most)).toNat ((lk1 L (((rng L p 1 most)).toNat-1) 1 t0.2.2.1 (topoT_v0 L p most)).2) (lk1 L (((rng L p 1 most)).toNat-1) 1 t0.2.2.1 (topoT_v0 L p most)).1).1)[t1.1.toNat]?=some x2 →
(R x2))))) fun x2 =>
(.el 133 AV.bool x2 (fun R=>Rf (x2.map AV.bool) (ck (decide (0≤t2.1)) (ck (decide (t2.1<(x2.length:Int)))
(∀x3,x2[t2.1.toNat]?=some x3 →
(R x3))))) fun x3 =>
(.br 181 (!x3) (.bk 2 b2 (W (t2.1+1),t2.2.1,t2.2.2) [0,1,2,3,4])
(.say (ck (cond (decide (0≤t1.1)) (decide (t1.1<((t0.2.2.2.map Rtr.v).length:Int))) false)) (.el 261 Rtr.v t0.2.2.2 (fun R=>Rf (t0.2.2.2.map Rtr.v) (ck (decide (t1.1.toNat<t0.2.2.2.length))
(∀x4,t0.2.2.2[t1.1.toNat]?=some x4 →
(R x4)))) fun x4 =>
(.say (ck (cond (decide (0≤t2.1)) (decide (t2.1<((t0.2.2.2.map Rtr.v).length:Int))) false)) (.el 357 Rtr.v t0.2.2.2 (fun R=>Rf (t0.2.2.2.map Rtr.v) (ck (decide (t2.1.toNat<t0.2.2.2.length))
(∀x5,t0.2.2.2[t2.1.toNat]?=some x5 →
(R x5)))) fun x5 =>
(.req 405 ([0,1,2,3,5,10,1000]≠[]) fun h6 =>
(.callH [0] (Pick_h L t2.2.2 [0,1,2,3,5,10,1000] h6) 405
(.br 501 (!((Mod (rawV L (lkE L ((rng L p 1 most)).toNat ((lk1 L (((rng L p 1 most)).toNat-1) 1 t0.2.2.1 (topoT_v0 L p most)).2) (lk1 L (((rng L p 1 most)).toNat-1) 1 t0.2.2.1 (topoT_v0 L p most)).1).2) 3)==0)) (.callH [0] (Range_h L (rawP L t2.2.2) 1 20) 533
(.req 565 ([1,2,3,rng L (rawP L t2.2.2) 1 20,1000]≠[]) fun h7 =>
(.callH [0] (Pick_h L (rawP L (rawP L t2.2.2)) [1,2,3,rng L (rawP L t2.2.2) 1 20,1000] h7) 565
(.callH [0] (Range_h L (rawP L (rawP L (rawP L t2.2.2))) 1 20) 709
(.req 741 ([pickI [1,2,3,rng L (rawP L t2.2.2) 1 20,1000] (rawV L (rawP L (rawP L t2.2.2))),pickI [1,2,3,rng L (rawP L t2.2.2) 1 20,1000] (rawV L (rawP L (rawP L t2.2.2))),rng L (rawP L (rawP L (rawP L t2.2.2))) 1 20]≠[]) fun h8 =>
(.callH [0] (Pick_h L (rawP L (rawP L (rawP L (rawP L t2.2.2)))) [pickI [1,2,3,rng L (rawP L t2.2.2) 1 20,1000] (rawV L (rawP L (rawP L t2.2.2))),pickI [1,2,3,rng L (rawP L t2.2.2) 1 20,1000] (rawV L (rawP L (rawP L t2.2.2))),rng L (rawP L (rawP L (rawP L t2.2.2))) 1 20] h8) 741
(.say (fun R=>Rf (α:=List AV) (t2.2.1.map Lnk.v) (Rf (α:=List AV) [.agg [.int x4.id,.int x5.id,.int (pickI [1,2,3,rng L (rawP L t2.2.2) 1 20,1000] (rawV L (rawP L (rawP L t2.2.2)))),.int (pickI [pickI [1,2,3,rng L (rawP L t2.2.2) 1 20,1000] (rawV L (rawP L (rawP L t2.2.2))),pickI [1,2,3,rng L (rawP L t2.2.2) 1 20,1000] (rawV L (rawP L (rawP L t2.2.2))),rng L (rawP L (rawP L (rawP L t2.2.2))) 1 20] (rawV L (rawP L (rawP L (rawP L (rawP L t2.2.2)))))),.int (pickI [0,1,2,3,5,10,1000] (rawV L t2.2.2))]]
(ck (decide (t2.2.1.length+1≤1048576))
R))) (.app 853 Lnk.v t2.2.1 [(⟨x4.id,x5.id,pickI [1,2,3,rng L (rawP L t2.2.2) 1 20,1000] (rawV L (rawP L (rawP L t2.2.2))),pickI [pickI [1,2,3,rng L (rawP L t2.2.2) 1 20,1000] (rawV L (rawP L (rawP L t2.2.2))),pickI [1,2,3,rng L (rawP L t2.2.2) 1 20,1000] (rawV L (rawP L (rawP L t2.2.2))),rng L (rawP L (rawP L (rawP L t2.2.2))) 1 20] (rawV L (rawP L (rawP L (rawP L (rawP L t2.2.2))))),pickI [0,1,2,3,5,10,1000] (rawV L t2.2.2)⟩:Lnk)]
(.bk 2 b2 (W (t2.1+1),t2.2.1++[(⟨x4.id,x5.id,pickI [1,2,3,rng L (rawP L t2.2.2) 1 20,1000] (rawV L (rawP L (rawP L t2.2.2))),pickI [pickI [1,2,3,rng L (rawP L t2.2.2) 1 20,1000] (rawV L (rawP L (rawP L t2.2.2))),pickI [1,2,3,rng L (rawP L t2.2.2) 1 20,1000] (rawV L (rawP L (rawP L t2.2.2))),rng L (rawP L (rawP L (rawP L t2.2.2))) 1 20] (rawV L (rawP L (rawP L (rawP L (rawP L t2.2.2))))),pickI [0,1,2,3,5,10,1000] (rawV L t2.2.2)⟩:Lnk)],rawP L (rawP L (rawP L (rawP L (rawP L t2.2.2))))) [0,1,2,3,853])))))))))
(.say (fun R=>Rf (α:=List AV) (t2.2.1.map Lnk.v) (Rf (α:=List AV) [.agg [.int x4.id,.int x5.id,.int 1,.int 1,.int (pickI [0,1,2,3,5,10,1000] (rawV L t2.2.2))]]
(ck (decide (t2.2.1.length+1≤1048576))
R))) (.app 565 Lnk.v t2.2.1 [(⟨x4.id,x5.id,1,1,pickI [0,1,2,3,5,10,1000] (rawV L t2.2.2)⟩:Lnk)]
(.bk 2 b2 (W (t2.1+1),t2.2.1++[(⟨x4.id,x5.id,1,1,pickI [0,1,2,3,5,10,1000] (rawV L t2.2.2)⟩:Lnk)],rawP L t2.2.2) [0,1,2,3,565])))))))))))))
(.bk 1 b1 (W (t1.1+1),t2.2.2,t2.2.1) [0,1,2,3,4])))
(.say (Rf (t1.2.2.map Lnk.v)) (.cmdL (.frzE 4 (t1.2.2.map Lnk.v) (pureBL_map (fun _=>rfl) t1.2.2)) (.say (Rf (t0.2.2.2.map Rtr.v)) (.cmdL (.frzE 3 (t0.2.2.2.map Rtr.v) (pureBL_map (fun _=>rfl) t0.2.2.2)) (.retH ((⟨L,t1.2.1⟩:Tap),(⟨t0.2.2.2,t1.2.2⟩:Tpl)) ⟨[(4,.k,.ref 1 0)],[.box (.agg [.sl 1 (L.map AV.int) false,.int ((t1.2.1:Nat):Int)]),.box (.agg [.sl 2 (t0.2.2.2.map Rtr.v) false,.sl 5 (t1.2.2.map Lnk.v) false])]⟩ [0,1])))))))))))))))))))
def topoT_vc(L:(List Int))(p:Nat)(most:Int)(hm:1≤most∧most≤100)(I0:(Int×Int×Nat×(List Rtr))→Prop)(m0:(Int×Int×Nat×(List Rtr))→Nat)(I1:Int×Int×Nat×(List Rtr)→(Int×Nat×(List Lnk))→Prop)(m1:Int×Int×Nat×(List Rtr)→(Int×Nat×(List Lnk))→Nat)(I2:Int×Int×Nat×(List Rtr)→Int×Nat×(List Lnk)→(Int×(List Lnk)×Nat)→Prop)(m2:Int×Int×Nat×(List Rtr)→Int×Nat×(List Lnk)→(Int×(List Lnk)×Nat)→Nat)(r0:Tap×Tpl):Prop:=(topoT_x L p most hm I0 m0 I1 m1 I2 m2).vc topoT_e topoT_b r0
theorem topoT_p(L:List Int)(p:Nat)(most:Int)(hm:1≤most∧most≤100)(ok:topoT_a L p most hm):∃I0 m0 I1 m1 I2 m2,topoT_vc L p most hm I0 m0 I1 m1 I2 m2 ((⟨L,(topoT L p most).2⟩:Tap),(topoT L p most).1):=by
 have hr:=rng_top (L:=L) (p:=p) hm
 have hlen:(topoR L p most).1.length=(rng L p 1 most).toNat:=by unfold topoR;rw [rtsL_len];simp
 have hn100:(rng L p 1 most).toNat≤100:=by omega
 refine ⟨fun t=>∃k:Nat,t.2.1=k∧k≤(rng L p 1 most).toNat∧t.2.2.2.length=k∧0≤t.1∧t.1≤5 * k∧rtsL L ((rng L p 1 most).toNat-k) t.1 t.2.2.1 t.2.2.2=topoR L p most,fun t=>(rng L p 1 most).toNat-t.2.1.toNat,
  fun t0 t=>∃k:Nat,t.1=k∧k≤(rng L p 1 most).toNat∧t.2.2.length≤k * 100∧lnk2 L (topoR L p most).1 (Mod (rawV L (topoM L (rng L p 1 most).toNat (topoR L p most).2).2) 3==0) ((topoM L (rng L p 1 most).toNat (topoR L p most).2).1.drop k) k t.2.2 t.2.1
    = lnk2 L (topoR L p most).1 (Mod (rawV L (topoM L (rng L p 1 most).toNat (topoR L p most).2).2) 3==0) (topoM L (rng L p 1 most).toNat (topoR L p most).2).1 0 [] (rawP L (topoM L (rng L p 1 most).toNat (topoR L p most).2).2),
  fun _ t=>(rng L p 1 most).toNat-t.1.toNat,
  fun _ a t=>∃k:Nat,t.1=k∧k≤(rng L p 1 most).toNat∧t.2.1.length≤a.2.2.length+k∧lnk1 L (topoR L p most).1 (Mod (rawV L (topoM L (rng L p 1 most).toNat (topoR L p most).2).2) 3==0) a.1.toNat (((topoM L (rng L p 1 most).toNat (topoR L p most).2).1.getD a.1.toNat []).drop k) k t.2.1 t.2.2
    = lnk1 L (topoR L p most).1 (Mod (rawV L (topoM L (rng L p 1 most).toNat (topoR L p most).2).2) 3==0) a.1.toNat ((topoM L (rng L p 1 most).toNat (topoR L p most).2).1.getD a.1.toNat []) 0 a.2.2 a.2.1,
  fun _ _ t=>(rng L p 1 most).toNat-t.1.toNat,?_⟩
 dsimp only [topoT_vc,topoT_x,topoT_s,topoT_v0,Ax.vp,Ax.vc];simp only [vcU,rfU,List.length_map]
 have hE:topoT L p most=(⟨(topoR L p most).1,(lnk2 L (topoR L p most).1 (Mod (rawV L (topoM L (rng L p 1 most).toNat (topoR L p most).2).2) 3==0) (topoM L (rng L p 1 most).toNat (topoR L p most).2).1 0 [] (rawP L (topoM L (rng L p 1 most).toNat (topoR L p most).2).2)).1⟩,
  (lnk2 L (topoR L p most).1 (Mod (rawV L (topoM L (rng L p 1 most).toNat (topoR L p most).2).2) 3==0) (topoM L (rng L p 1 most).toNat (topoR L p most).2).1 0 [] (rawP L (topoM L (rng L p 1 most).toNat (topoR L p most).2).2)).2):=rfl
 rw [hE]
 have hR0:rtsL L (rng L p 1 most).toNat 0 (rawP L p) []=topoR L p most:=rfl
 generalize rng L p 1 most=n at *
 generalize topoR L p most=R at *
 obtain ⟨N,rfl⟩:∃N:Nat,n=N:=⟨n.toNat,by omega⟩
 simp only [Int.toNat_natCast] at *
 refine ⟨⟨0,rfl,by omega,rfl,by omega,by omega,hR0⟩,?_⟩
 rintro ⟨id,i,q,rs⟩ ⟨k,hi,hk,hl,h0,h5,hr'⟩
 simp only at hi hl h0 h5 hr' ⊢
 subst hi
 have hp5:=pick5 (L:=L) (p:=q)
 refine ⟨fun c=>?_,fun c=>?_⟩
 ·have c:k<N:=by omega
  have w1:W (id+pickI [1,1,1,2,5] (rawV L q))=id+pickI [1,1,1,2,5] (rawV L q):=W_eq (by omega)
  rw [w1,W_succ (n:=N) (by omega) (by omega)]
  refine ⟨by simp,by omega,⟨k+1,rfl,by omega,by simp [hl],by omega,by omega,?_⟩,by omega⟩
  rw [←hr',show N-k=N-(k+1)+1 by omega,rtsL]
 ·have hkN:k=N:=by omega
  subst hkN
  rw [Nat.sub_self,rtsL] at hr'
  subst hr'
  simp only at *
  have hM:=topoM_sq L k q
  have e2:lkE L k (lk1 L (k-1) 1 q (sq0 k)).2 (lk1 L (k-1) 1 q (sq0 k)).1=topoM L k q:=rfl
  rw [e2]
  generalize topoM L k q=T at *
  obtain ⟨M,m⟩:=T
  simp only at hM ⊢
  refine ⟨by simp;omega,fitR_ok rfl,⟨0,rfl,by omega,by simp,rfl⟩,?_⟩
  rintro ⟨a,pa,ls⟩ ⟨x,ha,hx,hls,hq⟩
  simp only at ha hls hq ⊢
  subst ha
  simp only [Int.toNat_natCast]
  refine ⟨fun c2=>⟨⟨0,rfl,by omega,by simp,rfl⟩,?_⟩,fun c2=>?_⟩
  ·have hxk:x<k:=by rw [hM.1] at c2;omega
   obtain ⟨row,g1,g2,g3⟩:=hM.get hxk
   rw [g3]
   rintro ⟨b,ls2,p2⟩ ⟨y,hb,hy,hls2,hq2⟩
   simp only at hb hls2 hq2 ⊢
   subst hb
   simp only [Int.toNat_natCast]
   refine ⟨fun c3=>?_,fun c3=>?_⟩
   ·have hyk:y<k:=by rw [hM.1] at c3;omega
    have hy':y<row.length:=by omega
    have hd:row.drop y=row[y]::row.drop (y+1):=List.drop_eq_getElem_cons hy'
    refine ⟨by omega,by rw [hM.1];omega,fun x2 e=>?_⟩
    rw [g1] at e;cases e
    refine ⟨by omega,by omega,fun x3 e3=>?_⟩
    obtain ⟨-,rfl⟩:=List.getElem?_eq_some_iff.mp e3
    rw [hd] at hq2
    rw [W_succ (n:=k) (by omega) (by omega)]
    refine ⟨fun d=>?_,fun d=>?_⟩
    ·have d:row[y]=false:=by simpa using d
     rw [d,lnk1,if_neg (by simp)] at hq2
     exact ⟨⟨y+1,rfl,by omega,by omega,hq2⟩,by omega⟩
    ·have d:row[y]=true:=by simpa using d
     rw [d,lnk1,if_pos rfl] at hq2
     refine ⟨by simp;omega,by omega,fun x4 e4=>⟨by simp;omega,by omega,fun x5 e5=>?_⟩⟩
     have i4:idAt rs x=x4.id:=by rw [idAt,List.getD_eq_getElem?_getD,e4];rfl
     have i5:idAt rs y=x5.id:=by rw [idAt,List.getD_eq_getElem?_getD,e5];rfl
     rw [i4,i5] at hq2
     refine ⟨by simp,fun f=>?_,fun f=>?_⟩
     ·have f:(Mod (rawV L m) 3==0)=false:=by simpa using f
      rw [f] at hq2 ⊢
      refine ⟨by simp,by simp,by omega,⟨y+1,rfl,by omega,by simp;omega,?_⟩,by omega⟩
      exact hq2
     ·have f:(Mod (rawV L m) 3==0)=true:=by simpa using f
      rw [f] at hq2 ⊢
      refine ⟨by omega,⟨y+1,rfl,by omega,by simp;omega,?_⟩,by omega⟩
      exact hq2
   ·have hyk:y=k:=by rw [hM.1] at c3;omega
    subst hyk
    rw [List.drop_of_length_le (by omega),lnk1] at hq2
    rw [W_succ (n:=y) (by omega) (by omega)]
    refine ⟨⟨x+1,rfl,by omega,by omega,?_⟩,by omega⟩
    have hd:M.drop x=row::M.drop (x+1):=by
     obtain ⟨h1,h2⟩:=List.getElem?_eq_some_iff.mp g1
     rw [List.drop_eq_getElem_cons h1,h2]
    rw [hd,lnk2,←hq2] at hq
    exact hq
  ·have hxk:x=k:=by rw [hM.1] at c2;omega
   subst hxk
   rw [List.drop_of_length_le (by rw [hM.1];omega),lnk2] at hq
   rw [←hq]
def topoT_h(L:(List Int))(p:Nat)(most:Int)(hm:1≤most∧most≤100):HC Tryz.prog:=⟨34,[.k,.k],[.ref 0 0,.int most],[.box (.agg [.sl 1 (L.map AV.int) false,.int ((p:Nat):Int)])],topoT_e ((⟨L,(topoT L p most).2⟩:Tap),(topoT L p most).1),topoT_b ((⟨L,(topoT L p most).2⟩:Tap),(topoT L p most).1),HSpec.of_okh fun ok ok2=>have ok:topoT_a L p most hm:=⟨ok,ok2 _ (by simp)⟩;(topoT_p L p most hm ok).elim fun I0 h=>h.elim fun m0 h=>h.elim fun I1 h=>h.elim fun m1 h=>h.elim fun I2 h=>h.elim fun m2 h=>mxH_of (sh:=(.a [(.s 2),(.s 5)])) (enc:=topoT_e) (hB:=topoT_b) (a:=(topoT_x L p most hm I0 m0 I1 m1 I2 m2).an) h (by kernel_rfl),fnB_ok (by kernel_rfl),HcOk.of (by simp [hcB,belBL,AV.belB,allB,okBk,okBkO,topoT_e,topoT_b,pureBL_map (v:=AV.int) (fun _=>rfl)])⟩
end Go.Proofs.YthhpaedpnjdnbaaGreatDoor
