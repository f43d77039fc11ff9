/- Texts joined: G1 G2 V1 V2 V3 U1 V4 V5 U3 U4 G3 G4 G5 G6. -/
import Derived.Test.YtkanhopflelmdaaGreatDoorQA3
set_option linter.unusedVariables false
set_option linter.unusedSimpArgs false
namespace Go.Proofs.YtkanhopflelmdaaGreatDoor
open Go Go.Am
def ints(l:List Int):AV:=.sl 1 (l.map .int) false
def ascI(l:List Int):Prop:=∀i,i<l.length-1→l.getD i 0<l.getD (i+1) 0
instance (l:List Int):Decidable (ascI l):=by unfold ascI;infer_instance
def rngI(l:List Int):Prop:=∀s∈l,1≤s∧s≤99
instance (l:List Int):Decidable (rngI l):=by unfold rngI;infer_instance
def fltErr(m:Int)(l:List Int):Int:=if ¬(m=1∨m=2) then 1 else if ¬rngI l then 2 else if ¬ascI l then 25 else 0
theorem getD_get{l:List Int}{i:Nat}(h:i<l.length):l.getD i 0=l[i]:=by
 simp [List.getD_eq_getElem?_getD,List.getElem?_eq_getElem h]
theorem getD_of_get{l:List Int}{i:Nat}{x:Int}(h:l[i]?=some x):l.getD i 0=x:=by
 simp [List.getD_eq_getElem?_getD,h]
def orI(l:List Int):Int:=(l.find? (· != 0)).getD 0
def cmpI(x y:Int):Int:=if x<y then -1 else if y<x then 1 else 0
def isNaN(x:Int):Bool:=false
theorem W_succ{k n:Nat}(h:k<n)(hn:n≤9223372036854775807):W ((k:Int)+1)=((k+1:Nat):Int):=by rw [W_eq (by omega)];omega
theorem W_pred{k:Nat}(h:k≤9223372036854775807)(h1:1≤k):W ((k:Int)-1)=((k-1:Nat):Int):=by rw [W_eq (by omega)];omega
def isNaN_a(x:Int):Prop:=okL [.int x]
def isNaN_e(r:Bool):AV:=.bool r
def isNaN_x(x:Int):Ax Tryz.prog noS (Bool):=
 (.ret (x != x))
def isNaN_vc(x:Int)(r0:Bool):Prop:=(isNaN_x x).vp isNaN_e r0
theorem isNaN_p(x:Int)(ok:isNaN_a x):isNaN_vc x (isNaN x):=by
 dsimp only [isNaN_vc,isNaN_x,noS,Ax.vp,Ax.vc];simp only [vcU,rfU,List.length_map]
 simp [isNaN]
def isNaN_c(x:Int):PC Tryz.prog:=⟨147,[.k],[.int x],isNaN_e (isNaN x),PSpec.of_ok fun ok=>mxP_of (sh:=.k) (enc:=isNaN_e) (a:=(isNaN_x x).an) (isNaN_p x ok) (by kernel_rfl) (AV.pureB_ok rfl),fnB_ok (by kernel_rfl)⟩
def cmpI_a(x:Int)(y:Int):Prop:=okL [.int x,.int y]
def cmpI_e(r:Int):AV:=.int r
def cmpI_x(x:Int)(y:Int):Ax Tryz.prog noS (Int):=
 (.callP (isNaN_c x)
(.callP (isNaN_c y)
(.br 128 (isNaN x) (.br 144 (isNaN y) (.ret (0))
(.ret (-1)))
(.br 144 (isNaN y) (.ret (1))
(.br 192 (decide (x<y)) (.ret (-1))
(.br 240 (decide (y<x)) (.ret (1))
(.ret (0))))))))
def cmpI_vc(x:Int)(y:Int)(r0:Int):Prop:=(cmpI_x x y).vp cmpI_e r0
theorem cmpI_p(x y:Int)(ok:cmpI_a x y):cmpI_vc x y (cmpI x y):=by
 dsimp only [cmpI_vc,cmpI_x,noS,Ax.vp,Ax.vc];simp only [vcU,rfU,List.length_map]
 simp only [isNaN,Bool.false_eq_true,false_implies,true_implies,true_and,cmpI]
 refine ⟨fun h=>by rw [if_pos h],fun h=>⟨fun h2=>by rw [if_neg h,if_pos h2],fun h2=>by rw [if_neg h,if_neg h2]⟩⟩
def cmpI_c(x:Int)(y:Int):PC Tryz.prog:=⟨95,[.k,.k],[.int x,.int y],cmpI_e (cmpI x y),PSpec.of_ok fun ok=>mxP_of (sh:=.k) (enc:=cmpI_e) (a:=(cmpI_x x y).an) (cmpI_p x y ok) (by kernel_rfl) (AV.pureB_ok rfl),fnB_ok (by kernel_rfl)⟩
theorem find_take{l:List Int}{k:Nat}{x:Int}(h:l.take k |>.all (·==0))(hx:l[k]?=some x)(hn:x≠0):l.find? (· != 0)=some x:=by
 rw [List.find?_eq_some_iff_getElem]
 refine ⟨by simpa using hn,k,lt_of_get hx,by rw [List.getElem?_eq_getElem (lt_of_get hx)] at hx;exact Option.some.inj hx,fun j hj=>?_⟩
 have:=List.all_eq_true.mp h (l[j]'(by have:=lt_of_get hx;omega)) (List.mem_take_iff_getElem.mpr ⟨j,by have:=lt_of_get hx;omega,rfl⟩)
 simpa using this
def orI_a(vals:(List Int)):Prop:=okL [.sl 1 (vals.map AV.int) false]
def orI_n0(vals:(List Int))(t0:Int):NF:=⟨[(3,.k,.int 0),(6,.k,.sl 1 (vals.map AV.int) false),(7,.k,.int ((vals.map AV.int).length:Int)),(8,.k,.int t0)],[]⟩
@[reducible] def orI_s:Nat→Type
 | 0=>Int
 | _=>Unit
def orI_e(r:Int):AV:=.int r
def orI_x(vals:(List Int))(I0:Int→Prop)(m0:Int→Nat):Ax Tryz.prog orI_s (Int):=
 (.loop 0 (orI_n0 vals) I0 m0 ((0):Int) [] fun (t0:Int) b0 =>
(.br 16 (decide (t0<((vals.map AV.int).length:Int))) (.el 16 AV.int vals (fun R=>Rf (vals.map AV.int) (ck (decide (0≤t0)) (ck (decide (t0<(vals.length:Int)))
(∀x1,vals[t0.toNat]?=some x1 →
(R x1))))) fun x1 =>
(.br 112 (x1 != 0) (.ret (x1))
(.bk 0 b0 ((W (t0+1)):Int) [])))
(.ret (0))))
def orI_vc(vals:(List Int))(I0:Int→Prop)(m0:Int→Nat)(r0:Int):Prop:=(orI_x vals I0 m0).vp orI_e r0
theorem orI_p(vals:List Int)(ok:orI_a vals):∃I m,orI_vc vals I m (orI vals):=by
 simp only [orI_a,okU,Blk.ok,plainV,List.length_map] at ok
 refine ⟨fun t=>∃k:Nat,t=k∧k≤vals.length∧(vals.take k).all (·==0),fun t=>vals.length-t.toNat,?_⟩
 dsimp only [orI_vc,orI_x,orI_s,Ax.vp,Ax.vc];simp only [vcU,rfU,List.length_map]
 refine ⟨⟨0,rfl,by omega,by simp⟩,?_⟩
 rintro _ ⟨k,rfl,hk,h⟩
 refine ⟨fun h1=>⟨by omega,by omega,fun x hx=>⟨fun hn=>?_,fun hn=>?_⟩⟩,fun h1=>?_⟩
 ·rw [Int.toNat_natCast] at hx
  rw [orI,find_take h hx (by simpa using hn)];rfl
 ·rw [Int.toNat_natCast] at hx
  have hlt:=lt_of_get hx
  rw [W_succ (n:=vals.length) (by omega) (by omega)]
  refine ⟨⟨k+1,rfl,by omega,?_⟩,by omega⟩
  rw [take_succ hx,List.all_append,h];simpa using hn
 ·rw [List.take_of_length_le (by omega)] at h
  rw [orI,List.find?_eq_none.mpr]
  ·rfl
  ·intro x hx;simpa using List.all_eq_true.mp h x hx
def orI_c(vals:(List Int)):PC Tryz.prog:=⟨103,[(.s 1)],[.sl 1 (vals.map AV.int) false],orI_e (orI vals),PSpec.of_ok fun ok=>(orI_p vals ok).elim fun I0 h=>h.elim fun m0 h=>mxP_of (sh:=.k) (enc:=orI_e) (a:=(orI_x vals I0 m0).an) h (by kernel_rfl) (AV.pureB_ok rfl),fnB_ok (by kernel_rfl)⟩
def cloneI_a(s:(List Int)):Prop:=okL [.sl 1 (s.map AV.int) false]
def cloneI_e(r:(List Int)):AV:=.sl 1 (r.map AV.int) false
def cloneI_x(s:(List Int)):Ax Tryz.prog noS ((List Int)):=
 (.allB (fun b1=>((s.map AV.int)≠[]→b1=false)) fun b1 =>
(.br 48 (b1 != false) (.ret ([]))
(.say (fun R=>Rf (α:=List AV) [] (Rf (α:=List AV) (s.map AV.int)
(ck (decide (0+s.length≤1000000))
R))) (.app 80 AV.int [] s
(.say (Rf (s.map AV.int)) (.cmdL (.frzE 80 (s.map AV.int) (pureBL_map (fun _=>rfl) s)) (.ret (s))))))))
def cloneI_vc(s:(List Int))(r0:(List Int)):Prop:=(cloneI_x s).vp cloneI_e r0
theorem cloneI_p(s:List Int)(h:s.length≤1000000)(ok:cloneI_a s):cloneI_vc s s:=by
 dsimp only [cloneI_vc,cloneI_x,noS,Ax.vp,Ax.vc];simp only [vcU,rfU,List.length_map]
 intro b hb
 simp only [pureBL_int,true_and,and_true,Nat.zero_add]
 refine ⟨fun h1=>?_,fun _=>h⟩
 cases s with
 | nil=>rfl
 | cons x s=>simp at hb;simp [hb] at h1
def cloneI_c(s:(List Int))(h:s.length≤1000000):PC Tryz.prog:=⟨130,[(.s 1)],[.sl 1 (s.map AV.int) false],cloneI_e s,PSpec.of_ok fun ok=>mxP_of (sh:=(.s 1)) (enc:=cloneI_e) (a:=(cloneI_x s).an) (cloneI_p s h ok) (by kernel_rfl) (AV.pureB_ok rfl),fnB_ok (by kernel_rfl)⟩
theorem take_eq{a b:List Int}{k:Nat}{x y:Int}(h:a.take k=b.take k)(hx:a[k]?=some x)(hy:b[k]?=some y)(e:(x != y)=false):a.take (k+1)=b.take (k+1):=by
 have e:x=y:=by simpa using e
 rw [take_succ hx,take_succ hy,h,e]
def IntsEq(a b:List Int):Bool:=decide (a=b)
abbrev EqI:=IntsEq
def IntsEq_a(a:(List Int))(b:(List Int)):Prop:=okL [.sl 1 (a.map AV.int) false,.sl 1 (b.map AV.int) false]
def IntsEq_n0(a:(List Int))(b:(List Int))(t0:Int):NF:=⟨[(0,.k,.sl 1 (a.map AV.int) false),(1,.k,.sl 1 (b.map AV.int) false),(5,.k,.int t0)],[]⟩
@[reducible] def IntsEq_s:Nat→Type
 | 0=>Int
 | _=>Unit
def IntsEq_e(r:Bool):AV:=.bool r
def IntsEq_x(a:(List Int))(b:(List Int))(I0:Int→Prop)(m0:Int→Nat):Ax Tryz.prog IntsEq_s (Bool):=
 (.br 96 (((a.map AV.int).length:Int) != ((b.map AV.int).length:Int)) (.ret (false))
(.loop 0 (IntsEq_n0 a b) I0 m0 ((0):Int) [] fun (t0:Int) b0 =>
(.br 64 (decide (t0<((a.map AV.int).length:Int))) (.el 96 AV.int a (fun R=>Rf (a.map AV.int) (ck (decide (0≤t0)) (ck (decide (t0<(a.length:Int)))
(∀x1,a[t0.toNat]?=some x1 →
(R x1))))) fun x1 =>
(.el 160 AV.int b (fun R=>Rf (b.map AV.int) (ck (decide (0≤t0)) (ck (decide (t0<(b.length:Int)))
(∀x2,b[t0.toNat]?=some x2 →
(R x2))))) fun x2 =>
(.br 208 (x1 != x2) (.ret (false))
(.bk 0 b0 ((W (t0+1)):Int) []))))
(.ret (true)))))
def IntsEq_vc(a:(List Int))(b:(List Int))(I0:Int→Prop)(m0:Int→Nat)(r0:Bool):Prop:=(IntsEq_x a b I0 m0).vp IntsEq_e r0
theorem IntsEq_p(a b:List Int)(ok:IntsEq_a a b):∃I m,IntsEq_vc a b I m (IntsEq a b):=by
 simp only [IntsEq_a,okU,Blk.ok,plainV,List.length_map] at ok
 refine ⟨fun i=>∃k:Nat,i=k∧k≤a.length∧a.take k=b.take k,fun i=>a.length-i.toNat,?_⟩
 dsimp only [IntsEq_vc,IntsEq_x,IntsEq_s,Ax.vp,Ax.vc];simp only [vcU,rfU,List.length_map]
 refine ⟨fun h=>?_,fun h=>⟨⟨0,rfl,by omega,rfl⟩,?_⟩⟩
 ·refine (decide_eq_false fun e=>?_).symm
  subst e;simp at h
 have hl:a.length=b.length:=by simp at h;omega
 rintro _ ⟨k,rfl,hk,h⟩
 simp only [Int.toNat_natCast]
 refine ⟨fun h1=>⟨by omega,by omega,fun x hx=>⟨by omega,by omega,fun y hy=>⟨fun e=>?_,fun e=>?_⟩⟩⟩,fun h1=>?_⟩
 ·refine (decide_eq_false fun e'=>?_).symm
  subst e';rw [hx] at hy;cases hy;simp at e
 ·rw [W_succ (n:=a.length) (by omega) (by omega)]
  exact ⟨⟨k+1,rfl,by omega,take_eq h hx hy e⟩,by omega⟩
 ·rw [List.take_of_length_le (by omega),List.take_of_length_le (by omega)] at h
  exact (decide_eq_true h).symm
def IntsEq_c(a:(List Int))(b:(List Int)):PC Tryz.prog:=⟨135,[(.s 1),(.s 1)],[.sl 1 (a.map AV.int) false,.sl 1 (b.map AV.int) false],IntsEq_e (IntsEq a b),PSpec.of_ok fun ok=>(IntsEq_p a b ok).elim fun I0 h=>h.elim fun m0 h=>mxP_of (sh:=.k) (enc:=IntsEq_e) (a:=(IntsEq_x a b I0 m0).an) h (by kernel_rfl) (AV.pureB_ok rfl),fnB_ok (by kernel_rfl)⟩
def EqI_a(s1:(List Int))(s2:(List Int)):Prop:=okL [.sl 1 (s1.map AV.int) false,.sl 1 (s2.map AV.int) false]
def EqI_n0(s1:(List Int))(s2:(List Int))(t0:Int):NF:=⟨[(0,.k,.sl 1 (s1.map AV.int) false),(1,.k,.sl 1 (s2.map AV.int) false),(12,.k,.int ((s1.map AV.int).length:Int)),(13,.k,.int t0)],[]⟩
@[reducible] def EqI_s:Nat→Type
 | 0=>Int
 | _=>Unit
def EqI_e(r:Bool):AV:=.bool r
def EqI_x(s1:(List Int))(s2:(List Int))(I0:Int→Prop)(m0:Int→Nat):Ax Tryz.prog EqI_s (Bool):=
 (.br 96 (((s1.map AV.int).length:Int) != ((s2.map AV.int).length:Int)) (.ret (false))
(.loop 0 (EqI_n0 s1 s2) I0 m0 ((0):Int) [] fun (t0:Int) b0 =>
(.br 16 (decide (t0<((s1.map AV.int).length:Int))) (.el 80 AV.int s1 (fun R=>Rf (s1.map AV.int) (ck (decide (0≤t0)) (ck (decide (t0<(s1.length:Int)))
(∀x1,s1[t0.toNat]?=some x1 →
(R x1))))) fun x1 =>
(.el 144 AV.int s2 (fun R=>Rf (s2.map AV.int) (ck (decide (0≤t0)) (ck (decide (t0<(s2.length:Int)))
(∀x2,s2[t0.toNat]?=some x2 →
(R x2))))) fun x2 =>
(.br 192 (x1 != x2) (.ret (false))
(.bk 0 b0 ((W (t0+1)):Int) []))))
(.ret (true)))))
def EqI_vc(s1:(List Int))(s2:(List Int))(I0:Int→Prop)(m0:Int→Nat)(r0:Bool):Prop:=(EqI_x s1 s2 I0 m0).vp EqI_e r0
theorem EqI_p(a b:List Int)(ok:EqI_a a b):∃I m,EqI_vc a b I m (EqI a b):=by
 simp only [EqI_a,okU,Blk.ok,plainV,List.length_map] at ok
 refine ⟨fun i=>∃k:Nat,i=k∧k≤a.length∧a.take k=b.take k,fun i=>a.length-i.toNat,?_⟩
 dsimp only [EqI_vc,EqI_x,EqI_s,Ax.vp,Ax.vc];simp only [vcU,rfU,List.length_map]
 refine ⟨fun h=>?_,fun h=>⟨⟨0,rfl,by omega,rfl⟩,?_⟩⟩
 ·refine (decide_eq_false fun e=>?_).symm
  subst e;simp at h
 have hl:a.length=b.length:=by simp at h;omega
 rintro _ ⟨k,rfl,hk,h⟩
 simp only [Int.toNat_natCast]
 refine ⟨fun h1=>⟨by omega,by omega,fun x hx=>⟨by omega,by omega,fun y hy=>⟨fun e=>?_,fun e=>?_⟩⟩⟩,fun h1=>?_⟩
 ·refine (decide_eq_false fun e'=>?_).symm
  subst e';rw [hx] at hy;cases hy;simp at e
 ·rw [W_succ (n:=a.length) (by omega) (by omega)]
  exact ⟨⟨k+1,rfl,by omega,take_eq h hx hy e⟩,by omega⟩
 ·rw [List.take_of_length_le (by omega),List.take_of_length_le (by omega)] at h
  exact (decide_eq_true h).symm
def EqI_c(s1:(List Int))(s2:(List Int)):PC Tryz.prog:=⟨150,[(.s 1),(.s 1)],[.sl 1 (s1.map AV.int) false,.sl 1 (s2.map AV.int) false],EqI_e (EqI s1 s2),PSpec.of_ok fun ok=>(EqI_p s1 s2 ok).elim fun I0 h=>h.elim fun m0 h=>mxP_of (sh:=.k) (enc:=EqI_e) (a:=(EqI_x s1 s2 I0 m0).an) h (by kernel_rfl) (AV.pureB_ok rfl),fnB_ok (by kernel_rfl)⟩
def InI_a(l:(List Int))(x:Int):Prop:=okL [.sl 1 (l.map AV.int) false,.int x]
def InI_n0(l:(List Int))(x:Int)(t0:Int):NF:=⟨[(0,.k,.sl 1 (l.map AV.int) false),(1,.k,.int x),(5,.k,.int t0)],[]⟩
@[reducible] def InI_s:Nat→Type
 | 0=>Int
 | _=>Unit
def InI_e(r:Bool):AV:=.bool r
def InI_x(l:(List Int))(x:Int)(I0:Int→Prop)(m0:Int→Nat):Ax Tryz.prog InI_s (Bool):=
 (.loop 0 (InI_n0 l x) I0 m0 ((0):Int) [] fun (t0:Int) b0 =>
(.br 64 (decide (t0<((l.map AV.int).length:Int))) (.el 96 AV.int l (fun R=>Rf (l.map AV.int) (ck (decide (0≤t0)) (ck (decide (t0<(l.length:Int)))
(∀x1,l[t0.toNat]?=some x1 →
(R x1))))) fun x1 =>
(.br 160 (x1==x) (.ret (true))
(.bk 0 b0 ((W (t0+1)):Int) [])))
(.ret (false))))
def InI_vc(l:(List Int))(x:Int)(I0:Int→Prop)(m0:Int→Nat)(r0:Bool):Prop:=(InI_x l x I0 m0).vp InI_e r0
def InI(l:List Int)(x:Int):Bool:=decide (x∈l)
theorem InI_p(l:List Int)(x:Int)(ok:InI_a l x):∃I m,InI_vc l x I m (InI l x):=by
 simp only [InI_a,okU,Blk.ok,plainV,List.length_map] at ok
 refine ⟨fun i=>∃k:Nat,i=k∧k≤l.length∧x ∉ l.take k,fun i=>l.length-i.toNat,?_⟩
 dsimp only [InI_vc,InI_x,InI_s,Ax.vp,Ax.vc];simp only [vcU,rfU,List.length_map]
 refine ⟨⟨0,rfl,by omega,by simp⟩,?_⟩
 rintro _ ⟨k,rfl,hk,h⟩
 simp only [Int.toNat_natCast]
 refine ⟨fun h1=>⟨by omega,by omega,fun y hy=>⟨fun e=>?_,fun e=>?_⟩⟩,fun h1=>?_⟩
 ·exact (decide_eq_true (by have:=mem_of_get hy;simp at e;rwa [e] at this)).symm
 ·rw [W_succ (n:=l.length) (by omega) (by omega)]
  refine ⟨⟨k+1,rfl,by omega,?_⟩,by omega⟩
  rw [take_succ hy];simp at e ⊢;exact ⟨h,fun e'=>e e'.symm⟩
 ·rw [List.take_of_length_le (by omega)] at h
  exact (decide_eq_false h).symm
def InI_c(l:(List Int))(x:Int):PC Tryz.prog:=⟨39,[(.s 1),.k],[.sl 1 (l.map AV.int) false,.int x],InI_e (InI l x),PSpec.of_ok fun ok=>(InI_p l x ok).elim fun I0 h=>h.elim fun m0 h=>mxP_of (sh:=.k) (enc:=InI_e) (a:=(InI_x l x I0 m0).an) h (by kernel_rfl) (AV.pureB_ok rfl),fnB_ok (by kernel_rfl)⟩
def Nothing:Flt:=⟨1,[]⟩
def Nothing_a:Prop:=okL []
def Nothing_e(r:Flt):AV:=Flt.v r
def Nothing_x:Ax Tryz.prog noS (Flt):=
 (.ret ((⟨1,[]⟩:Flt)))
def Nothing_vc(r0:Flt):Prop:=(Nothing_x).vp Nothing_e r0
theorem Nothing_p(ok:Nothing_a):Nothing_vc Nothing:=by
 dsimp only [Nothing_vc,Nothing_x,noS,Ax.vp,Ax.vc];simp only [vcU,rfU,List.length_map]
 rfl
def Nothing_c:PC Tryz.prog:=⟨122,[],[],Nothing_e Nothing,PSpec.of_ok fun ok=>mxP_of (sh:=(.a [.k,(.s 1)])) (enc:=Nothing_e) (a:=(Nothing_x).an) (Nothing_p ok) (by kernel_rfl) (AV.pureB_ok rfl),fnB_ok (by kernel_rfl)⟩
def FSame(a b:Flt):Bool:=decide (a=b)
abbrev PSame:=FSame
theorem flt_eq{a b:Flt}:a=b↔a.mode=b.mode∧a.srcs=b.srcs:=by cases a;cases b;simp
def FSame_a(a:Flt)(b:Flt):Prop:=okL [.agg [.int a.mode,.sl 1 (a.srcs.map AV.int) false],.agg [.int b.mode,.sl 1 (b.srcs.map AV.int) false]]
def FSame_e(r:Bool):AV:=.bool r
def FSame_x(a:Flt)(b:Flt):Ax Tryz.prog noS (Bool):=
 (.br 144 (a.mode==b.mode) (.callP (IntsEq_c a.srcs b.srcs)
(.ret (IntsEq a.srcs b.srcs)))
(.ret (false)))
def FSame_vc(a:Flt)(b:Flt)(r0:Bool):Prop:=(FSame_x a b).vp FSame_e r0
theorem FSame_p(a b:Flt)(ok:FSame_a a b):FSame_vc a b (FSame a b):=by
 dsimp only [FSame_vc,FSame_x,noS,Ax.vp,Ax.vc];simp only [vcU,rfU,List.length_map]
 simp only [FSame,IntsEq,flt_eq]
 refine ⟨fun h=>?_,fun h=>?_⟩<;>simp at h<;>simp [h]
def FSame_c(a:Flt)(b:Flt):PC Tryz.prog:=⟨73,[(.a [.k,(.s 1)]),(.a [.k,(.s 1)])],[.agg [.int a.mode,.sl 1 (a.srcs.map AV.int) false],.agg [.int b.mode,.sl 1 (b.srcs.map AV.int) false]],FSame_e (FSame a b),PSpec.of_ok fun ok=>mxP_of (sh:=.k) (enc:=FSame_e) (a:=(FSame_x a b).an) (FSame_p a b ok) (by kernel_rfl) (AV.pureB_ok rfl),fnB_ok (by kernel_rfl)⟩
def PSame_a(a:Flt)(b:Flt):Prop:=okL [.agg [.int a.mode,.sl 1 (a.srcs.map AV.int) false],.agg [.int b.mode,.sl 1 (b.srcs.map AV.int) false]]
def PSame_e(r:Bool):AV:=.bool r
def PSame_x(a:Flt)(b:Flt):Ax Tryz.prog noS (Bool):=
 (.br 144 (a.mode==b.mode) (.callP (EqI_c a.srcs b.srcs)
(.ret (EqI a.srcs b.srcs)))
(.ret (false)))
def PSame_vc(a:Flt)(b:Flt)(r0:Bool):Prop:=(PSame_x a b).vp PSame_e r0
theorem PSame_p(a b:Flt)(ok:PSame_a a b):PSame_vc a b (PSame a b):=by
 dsimp only [PSame_vc,PSame_x,noS,Ax.vp,Ax.vc];simp only [vcU,rfU,List.length_map]
 simp only [FSame,IntsEq,flt_eq]
 refine ⟨fun h=>?_,fun h=>?_⟩<;>simp at h<;>simp [h]
def PSame_c(a:Flt)(b:Flt):PC Tryz.prog:=⟨99,[(.a [.k,(.s 1)]),(.a [.k,(.s 1)])],[.agg [.int a.mode,.sl 1 (a.srcs.map AV.int) false],.agg [.int b.mode,.sl 1 (b.srcs.map AV.int) false]],PSame_e (PSame a b),PSpec.of_ok fun ok=>mxP_of (sh:=.k) (enc:=PSame_e) (a:=(PSame_x a b).an) (PSame_p a b ok) (by kernel_rfl) (AV.pureB_ok rfl),fnB_ok (by kernel_rfl)⟩
theorem ascI_iff{l:List Int}:ascI l↔∀j x y,l[j]?=some x→l[j+1]?=some y→x<y:=by
 unfold ascI
 constructor
 ·intro h j x y hx hy
  have:=h j (by have:=lt_of_get hy;omega)
  rwa [getD_of_get hx,getD_of_get hy] at this
 ·intro h i hi
  have e1:=List.getElem?_eq_getElem (show i<l.length by omega)
  have e2:=List.getElem?_eq_getElem (show i+1<l.length by omega)
  rw [getD_of_get e1,getD_of_get e2]
  exact h i _ _ e1 e2
def FVal(f:Flt):Int:=fltErr f.mode f.srcs
abbrev PVal:=FVal
def FVal_a(f:Flt):Prop:=okL [.agg [.int f.mode,.sl 1 (f.srcs.map AV.int) false]]
def FVal_n0(f:Flt)(t0:Unit):NF:=⟨[(1,.k,.ref 0 0)],[.box (.agg [.int f.mode,.sl 1 (f.srcs.map AV.int) false])]⟩
def FVal_n1(f:Flt)(t1:Int):NF:=⟨[(1,.k,.ref 0 0),(15,.k,.sl 1 (f.srcs.map AV.int) false),(16,.k,.int ((f.srcs.map AV.int).length:Int)),(17,.k,.int t1)],[.box (.agg [.int f.mode,.sl 1 (f.srcs.map AV.int) false])]⟩
def FVal_n2(f:Flt)(t2:Int):NF:=⟨[(1,.k,.ref 0 0),(5,.k,.int t2)],[.box (.agg [.int f.mode,.sl 1 (f.srcs.map AV.int) false])]⟩
@[reducible] def FVal_s:Nat→Type
 | 0=>Unit
 | 1=>Int
 | 2=>Int
 | _=>Unit
def FVal_e(r:Int):AV:=.int r
def FVal_x(f:Flt)(I1:Unit→Int→Prop)(m1:Unit→Int→Nat)(I2:Unit→Int→Int→Prop)(m2:Unit→Int→Int→Nat):Ax Tryz.prog FVal_s (Int):=
 (.pass (.join 0 (FVal_n0 f) (fun (t0:Unit)=>(bif (f.mode != 1) then (bif (f.mode != 2) then false else true) else true)=true) (fun b0=>(.br 96 (f.mode != 1) (.br 160 (f.mode != 2) (.ret (1))
(.bk 0 b0 ((()):Unit) [0]))
(.bk 0 b0 ((()):Unit) [0]))) fun (t0:Unit) =>
(.loop 1 (FVal_n1 f) (I1 t0) (m1 t0) ((0):Int) [0] fun (t1:Int) b1 =>
(.br 17 (decide (t1<((f.srcs.map AV.int).length:Int))) (.el 17 AV.int f.srcs (fun R=>Rf (f.srcs.map AV.int) (ck (decide (0≤t1)) (ck (decide (t1<(f.srcs.length:Int)))
(∀x1,f.srcs[t1.toNat]?=some x1 →
(R x1))))) fun x1 =>
(.br 113 (decide (x1<1)) (.ret (2))
(.br 161 (decide (99<x1)) (.ret (2))
(.bk 1 b1 ((W (t1+1)):Int) [0]))))
(.loop 2 (FVal_n2 f) (I2 t0 t1) (m2 t0 t1) ((1):Int) [0] fun (t2:Int) b2 =>
(.br 81 (decide (t2<((f.srcs.map AV.int).length:Int))) (.el 145 AV.int f.srcs (fun R=>Rf (f.srcs.map AV.int) (ck (decide (0≤(W (t2-1)))) (ck (decide ((W (t2-1))<(f.srcs.length:Int)))
(∀x2,f.srcs[(W (t2-1)).toNat]?=some x2 →
(R x2))))) fun x2 =>
(.el 225 AV.int f.srcs (fun R=>Rf (f.srcs.map AV.int) (ck (decide (0≤t2)) (ck (decide (t2<(f.srcs.length:Int)))
(∀x3,f.srcs[t2.toNat]?=some x3 →
(R x3))))) fun x3 =>
(.br 273 (decide (x3≤x2)) (.ret (25))
(.bk 2 b2 ((W (t2+1)):Int) [0]))))
(.ret (0))))))))
def FVal_vc(f:Flt)(I1:Unit→Int→Prop)(m1:Unit→Int→Nat)(I2:Unit→Int→Int→Prop)(m2:Unit→Int→Int→Nat)(r0:Int):Prop:=(FVal_x f I1 m1 I2 m2).vp FVal_e r0
theorem FVal_p(f:Flt)(ok:FVal_a f):∃I1 m1 I2 m2,FVal_vc f I1 m1 I2 m2 (fltErr f.mode f.srcs):=by
 simp only [FVal_a,okU,Blk.ok,plainV,List.length_map] at ok
 refine ⟨fun _ t=>∃k:Nat,t=k∧k≤f.srcs.length∧∀s∈f.srcs.take k,1≤s∧s≤99,fun _ t=>f.srcs.length-t.toNat,
  fun _ t1 t=>rngI f.srcs∧∃k:Nat,t=k∧1≤k∧k≤f.srcs.length+1∧∀j x y,j+1<k→f.srcs[j]?=some x→f.srcs[j+1]?=some y→x<y,fun _ _ t=>f.srcs.length+1-t.toNat,?_⟩
 dsimp only [FVal_vc,FVal_x,FVal_s,Ax.vp,Ax.vc];simp only [vcU,rfU,List.length_map]
 have hmode:((bif f.mode != 1 then bif f.mode != 2 then false else true else true)=true)↔(f.mode=1∨f.mode=2):=by
  by_cases h1:f.mode=1<;>by_cases h2:f.mode=2<;>simp [h1,h2]
 simp only [hmode]
 refine ⟨⟨fun h1=>⟨fun h2=>?_,fun h2=>?_⟩,fun h1=>?_⟩,?_⟩
 ·rw [fltErr,if_pos];simp at h1 h2;omega
 ·simp at h2;omega
 ·simp at h1;omega
 intro t0 hm
 refine ⟨⟨0,rfl,by omega,by simp⟩,?_⟩
 rintro _ ⟨k,rfl,hk,h⟩
 simp only [Int.toNat_natCast]
 refine ⟨fun h1=>⟨by omega,by omega,fun y hy=>⟨fun e=>?_,fun e=>⟨fun e2=>?_,fun e2=>?_⟩⟩⟩,fun h1=>?_⟩
 ·rw [fltErr,if_neg (not_not_intro hm),if_pos fun hr=>by have:=hr y (mem_of_get hy);omega]
 ·rw [fltErr,if_neg (not_not_intro hm),if_pos fun hr=>by have:=hr y (mem_of_get hy);omega]
 ·rw [W_succ (n:=f.srcs.length) (by omega) (by omega)]
  refine ⟨⟨k+1,rfl,by omega,?_⟩,by omega⟩
  rw [take_succ hy]
  intro s hs
  rcases List.mem_append.mp hs with hs|hs
  ·exact h s hs
  ·rw [List.mem_singleton] at hs;subst hs;omega
 rw [List.take_of_length_le (by omega)] at h
 have hr:rngI f.srcs:=h
 refine ⟨⟨hr,1,rfl,by omega,by omega,fun j x y hj=>by omega⟩,?_⟩
 rintro _ ⟨-,k,rfl,hk1,hk,h⟩
 refine ⟨fun h1=>?_,fun h1=>?_⟩
 ·rw [W_pred (by omega) hk1]
  simp only [Int.toNat_natCast]
  refine ⟨by omega,by omega,fun x hx=>⟨by omega,by omega,fun y hy=>⟨fun e=>?_,fun e=>?_⟩⟩⟩
  ·rw [fltErr,if_neg (not_not_intro hm),if_neg (not_not_intro hr),if_pos]
   intro ha
   have:=ascI_iff.mp ha (k-1) x y hx (by rw [show k-1+1=k by omega];exact hy)
   omega
  ·rw [W_succ (n:=f.srcs.length) (by omega) (by omega)]
   refine ⟨⟨hr,k+1,rfl,by omega,by omega,fun j x' y' hj hx' hy'=>?_⟩,by omega⟩
   by_cases e':j+1=k
   ·subst e'
    rw [show j+1-1=j by omega,hx'] at hx;cases hx
    rw [hy'] at hy;cases hy;omega
   ·exact h j x' y' (by omega) hx' hy'
 ·rw [fltErr,if_neg (not_not_intro hm),if_neg (not_not_intro hr),if_neg (not_not_intro (ascI_iff.mpr fun j x y hx hy=>h j x y (by have:=lt_of_get hy;omega) hx hy))]
def FVal_c(f:Flt):PC Tryz.prog:=⟨92,[(.a [.k,(.s 1)])],[.agg [.int f.mode,.sl 1 (f.srcs.map AV.int) false]],FVal_e (FVal f),PSpec.of_ok fun ok=>(FVal_p f ok).elim fun I1 h=>h.elim fun m1 h=>h.elim fun I2 h=>h.elim fun m2 h=>mxP_of (sh:=.k) (enc:=FVal_e) (a:=(FVal_x f I1 m1 I2 m2).an) h (by kernel_rfl) (AV.pureB_ok rfl),fnB_ok (by kernel_rfl)⟩
def PVal_a(f:Flt):Prop:=okL [.agg [.int f.mode,.sl 1 (f.srcs.map AV.int) false]]
def PVal_n0(f:Flt)(t0:Unit):NF:=⟨[(1,.k,.ref 0 0)],[.box (.agg [.int f.mode,.sl 1 (f.srcs.map AV.int) false])]⟩
def PVal_n1(f:Flt)(t1:Int):NF:=⟨[(1,.k,.ref 0 0),(15,.k,.sl 1 (f.srcs.map AV.int) false),(16,.k,.int ((f.srcs.map AV.int).length:Int)),(17,.k,.int t1)],[.box (.agg [.int f.mode,.sl 1 (f.srcs.map AV.int) false])]⟩
def PVal_n2(f:Flt)(t2:Int):NF:=⟨[(1,.k,.ref 0 0),(5,.k,.int t2)],[.box (.agg [.int f.mode,.sl 1 (f.srcs.map AV.int) false])]⟩
@[reducible] def PVal_s:Nat→Type
 | 0=>Unit
 | 1=>Int
 | 2=>Int
 | _=>Unit
def PVal_e(r:Int):AV:=.int r
def PVal_x(f:Flt)(I1:Unit→Int→Prop)(m1:Unit→Int→Nat)(I2:Unit→Int→Int→Prop)(m2:Unit→Int→Int→Nat):Ax Tryz.prog PVal_s (Int):=
 (.pass (.join 0 (PVal_n0 f) (fun (t0:Unit)=>(bif (f.mode != 1) then (bif (f.mode != 2) then false else true) else true)=true) (fun b0=>(.br 96 (f.mode != 1) (.br 160 (f.mode != 2) (.ret (1))
(.bk 0 b0 ((()):Unit) [0]))
(.bk 0 b0 ((()):Unit) [0]))) fun (t0:Unit) =>
(.loop 1 (PVal_n1 f) (I1 t0) (m1 t0) ((0):Int) [0] fun (t1:Int) b1 =>
(.br 17 (decide (t1<((f.srcs.map AV.int).length:Int))) (.el 17 AV.int f.srcs (fun R=>Rf (f.srcs.map AV.int) (ck (decide (0≤t1)) (ck (decide (t1<(f.srcs.length:Int)))
(∀x1,f.srcs[t1.toNat]?=some x1 →
(R x1))))) fun x1 =>
(.br 113 (decide (x1<1)) (.ret (2))
(.br 161 (decide (99<x1)) (.ret (2))
(.bk 1 b1 ((W (t1+1)):Int) [0]))))
(.loop 2 (PVal_n2 f) (I2 t0 t1) (m2 t0 t1) ((1):Int) [0] fun (t2:Int) b2 =>
(.br 81 (decide (t2<((f.srcs.map AV.int).length:Int))) (.el 145 AV.int f.srcs (fun R=>Rf (f.srcs.map AV.int) (ck (decide (0≤(W (t2-1)))) (ck (decide ((W (t2-1))<(f.srcs.length:Int)))
(∀x2,f.srcs[(W (t2-1)).toNat]?=some x2 →
(R x2))))) fun x2 =>
(.el 225 AV.int f.srcs (fun R=>Rf (f.srcs.map AV.int) (ck (decide (0≤t2)) (ck (decide (t2<(f.srcs.length:Int)))
(∀x3,f.srcs[t2.toNat]?=some x3 →
(R x3))))) fun x3 =>
(.br 273 (decide (x3≤x2)) (.ret (25))
(.bk 2 b2 ((W (t2+1)):Int) [0]))))
(.ret (0))))))))
def PVal_vc(f:Flt)(I1:Unit→Int→Prop)(m1:Unit→Int→Nat)(I2:Unit→Int→Int→Prop)(m2:Unit→Int→Int→Nat)(r0:Int):Prop:=(PVal_x f I1 m1 I2 m2).vp PVal_e r0
theorem PVal_p(f:Flt)(ok:PVal_a f):∃I1 m1 I2 m2,PVal_vc f I1 m1 I2 m2 (fltErr f.mode f.srcs):=by
 simp only [PVal_a,okU,Blk.ok,plainV,List.length_map] at ok
 refine ⟨fun _ t=>∃k:Nat,t=k∧k≤f.srcs.length∧∀s∈f.srcs.take k,1≤s∧s≤99,fun _ t=>f.srcs.length-t.toNat,
  fun _ t1 t=>rngI f.srcs∧∃k:Nat,t=k∧1≤k∧k≤f.srcs.length+1∧∀j x y,j+1<k→f.srcs[j]?=some x→f.srcs[j+1]?=some y→x<y,fun _ _ t=>f.srcs.length+1-t.toNat,?_⟩
 dsimp only [PVal_vc,PVal_x,PVal_s,Ax.vp,Ax.vc];simp only [vcU,rfU,List.length_map]
 have hmode:((bif f.mode != 1 then bif f.mode != 2 then false else true else true)=true)↔(f.mode=1∨f.mode=2):=by
  by_cases h1:f.mode=1<;>by_cases h2:f.mode=2<;>simp [h1,h2]
 simp only [hmode]
 refine ⟨⟨fun h1=>⟨fun h2=>?_,fun h2=>?_⟩,fun h1=>?_⟩,?_⟩
 ·rw [fltErr,if_pos];simp at h1 h2;omega
 ·simp at h2;omega
 ·simp at h1;omega
 intro t0 hm
 refine ⟨⟨0,rfl,by omega,by simp⟩,?_⟩
 rintro _ ⟨k,rfl,hk,h⟩
 simp only [Int.toNat_natCast]
 refine ⟨fun h1=>⟨by omega,by omega,fun y hy=>⟨fun e=>?_,fun e=>⟨fun e2=>?_,fun e2=>?_⟩⟩⟩,fun h1=>?_⟩
 ·rw [fltErr,if_neg (not_not_intro hm),if_pos fun hr=>by have:=hr y (mem_of_get hy);omega]
 ·rw [fltErr,if_neg (not_not_intro hm),if_pos fun hr=>by have:=hr y (mem_of_get hy);omega]
 ·rw [W_succ (n:=f.srcs.length) (by omega) (by omega)]
  refine ⟨⟨k+1,rfl,by omega,?_⟩,by omega⟩
  rw [take_succ hy]
  intro s hs
  rcases List.mem_append.mp hs with hs|hs
  ·exact h s hs
  ·rw [List.mem_singleton] at hs;subst hs;omega
 rw [List.take_of_length_le (by omega)] at h
 have hr:rngI f.srcs:=h
 refine ⟨⟨hr,1,rfl,by omega,by omega,fun j x y hj=>by omega⟩,?_⟩
 rintro _ ⟨-,k,rfl,hk1,hk,h⟩
 refine ⟨fun h1=>?_,fun h1=>?_⟩
 ·rw [W_pred (by omega) hk1]
  simp only [Int.toNat_natCast]
  refine ⟨by omega,by omega,fun x hx=>⟨by omega,by omega,fun y hy=>⟨fun e=>?_,fun e=>?_⟩⟩⟩
  ·rw [fltErr,if_neg (not_not_intro hm),if_neg (not_not_intro hr),if_pos]
   intro ha
   have:=ascI_iff.mp ha (k-1) x y hx (by rw [show k-1+1=k by omega];exact hy)
   omega
  ·rw [W_succ (n:=f.srcs.length) (by omega) (by omega)]
   refine ⟨⟨hr,k+1,rfl,by omega,by omega,fun j x' y' hj hx' hy'=>?_⟩,by omega⟩
   by_cases e':j+1=k
   ·subst e'
    rw [show j+1-1=j by omega,hx'] at hx;cases hx
    rw [hy'] at hy;cases hy;omega
   ·exact h j x' y' (by omega) hx' hy'
 ·rw [fltErr,if_neg (not_not_intro hm),if_neg (not_not_intro hr),if_neg (not_not_intro (ascI_iff.mpr fun j x y hx hy=>h j x y (by have:=lt_of_get hy;omega) hx hy))]
def PVal_c(f:Flt):PC Tryz.prog:=⟨146,[(.a [.k,(.s 1)])],[.agg [.int f.mode,.sl 1 (f.srcs.map AV.int) false]],PVal_e (PVal f),PSpec.of_ok fun ok=>(PVal_p f ok).elim fun I1 h=>h.elim fun m1 h=>h.elim fun I2 h=>h.elim fun m2 h=>mxP_of (sh:=.k) (enc:=PVal_e) (a:=(PVal_x f I1 m1 I2 m2).an) h (by kernel_rfl) (AV.pureB_ok rfl),fnB_ok (by kernel_rfl)⟩
def insAt{α:Type}(es:List α)(i:Nat)(x:α):List α:=es.take i++[x]++es.drop i
theorem pickI_mem{l:List Int}(h:l≠[])(r:Int):pickI l r∈l:=by
 have hl:0<l.length:=List.length_pos_iff.mpr h
 have:=Mod_range (x:=r) (show 1≤(l.length:Int) by omega)
 have hi:(Mod r l.length).toNat<l.length:=by omega
 rw [pickI,getD_get hi]
 exact List.getElem_mem hi
theorem rng_in{L:List Int}{p:Nat}{lo hi:Int}(h:-1000000000≤lo∧lo≤hi∧hi≤1000000000):lo≤rng L p lo hi∧rng L p lo hi≤hi:=by
 unfold rng
 have e1:W (hi-lo)=hi-lo:=W_eq (by omega)
 have e2:W (hi-lo+1)=hi-lo+1:=W_eq (by omega)
 rw [e1,e2]
 have:=Mod_range (x:=rawV L p) (show 1≤hi-lo+1 by omega)
 rw [W_eq (by omega)];omega
def putP(l:List Int)(x:Int):Nat:=l.findIdx (fun y=>!decide (y<x))
def put(l:List Int)(x:Int):List Int:=if l[putP l x]?=some x then l else insAt l (putP l x) x
theorem put_mem{l:List Int}{x y:Int}:y∈put l x→y∈l∨y=x:=by
 unfold put
 split
 ·exact .inl
 ·unfold insAt
  intro h
  rcases List.mem_append.mp h with h|h
  ·rcases List.mem_append.mp h with h|h
   ·exact .inl (List.mem_of_mem_take h)
   ·exact .inr (by simpa using h)
  ·exact .inl (List.mem_of_mem_drop h)
theorem put_length(l:List Int)(x:Int):(put l x).length≤l.length+1:=by
 unfold put
 split
 ·omega
 ·unfold insAt;simp;omega
theorem asc_pw{l:List Int}:ascI l↔l.Pairwise (·<·):=by
 rw [List.pairwise_iff_getElem]
 constructor
 ·intro h
  have key:∀i d,(hi:i+d+1<l.length)→l.getD i 0<l.getD (i+d+1) 0:=by
   intro i d
   induction d with
   | zero=>intro hi;exact h i (by omega)
   | succ d ih=>intro hi;exact Int.lt_trans (ih (by omega)) (h (i+d+1) (by omega))
  intro i j hi hj hij
  have:=key i (j-i-1) (by omega)
  rw [show i+(j-i-1)+1=j by omega,getD_get hi,getD_get hj] at this
  exact this
 ·intro h i hi
  have h1:i<l.length:=by omega
  have h2:i+1<l.length:=by omega
  rw [getD_get h1,getD_get h2]
  exact h i (i+1) h1 h2 (by omega)
theorem put_asc{l:List Int}{x:Int}(h:ascI l):ascI (put l x):=by
 unfold put
 split
 ·exact h
 rename_i hx
 rw [asc_pw] at *
 have hlo:∀a∈l.take (putP l x),a<x:=fun a ha=>by
  obtain ⟨i,hi,rfl⟩:=List.getElem_of_mem ha
  rw [List.getElem_take]
  have h1:i<putP l x:=by simp at hi;omega
  have:=List.not_of_lt_findIdx h1
  simpa using this
 have hhi:∀a∈l.drop (putP l x),x<a:=fun a ha=>by
  have hne:l.drop (putP l x)≠[]:=fun e=>by rw [e] at ha;simp at ha
  have hlt:putP l x<l.length:=by
   refine Classical.byContradiction fun e=>hne (List.drop_of_length_le (by omega))
  have h1:¬l[putP l x]<x:=by
   have:=List.findIdx_getElem (p:=fun y=>!decide (y<x)) (xs:=l) (w:=hlt)
   rw [Bool.not_eq_true'] at this
   exact of_decide_eq_false this
  have h2:l[putP l x]≠x:=fun e=>hx (by rw [List.getElem?_eq_getElem hlt,e])
  rw [List.drop_eq_getElem_cons hlt] at ha
  have h3:(l.drop (putP l x)).Pairwise (·<·):=h.sublist (List.drop_sublist _ _)
  rw [List.drop_eq_getElem_cons hlt,List.pairwise_cons] at h3
  rcases List.mem_cons.mp ha with rfl|ha
  ·omega
  ·have:=h3.1 a ha;omega
 unfold insAt
 rw [List.pairwise_append,List.pairwise_append]
 refine ⟨⟨h.sublist (List.take_sublist _ _),List.pairwise_singleton _ _,fun a ha b hb=>?_⟩,h.sublist (List.drop_sublist _ _),fun a ha b hb=>?_⟩
 ·rw [List.mem_singleton] at hb;subst hb;exact hlo a ha
 ·rcases List.mem_append.mp ha with ha|ha
  ·exact Int.lt_trans (hlo a ha) (hhi b hb)
  ·rw [List.mem_singleton] at ha;subst ha;exact hhi b hb
theorem put_rng{l:List Int}{x:Int}(h:rngI l)(hx:1≤x∧x≤99):rngI (put l x):=fun y hy=>by
 rcases put_mem hy with hy|rfl
 ·exact h y hy
 ·exact hx
theorem putP_le(l:List Int)(x:Int):putP l x≤l.length:=List.findIdx_le_length
theorem putP_lo{l:List Int}{x y:Int}{j:Nat}(hj:j<putP l x)(hy:l[j]?=some y):y<x:=by
 have:=List.not_of_lt_findIdx hj
 rw [List.getElem?_eq_getElem (lt_of_get hy)] at hy
 rw [←Option.some.inj hy]
 simpa using this
theorem putP_hi{l:List Int}{x y:Int}(hy:l[putP l x]?=some y):¬y<x:=by
 have h:=lt_of_get hy
 have:=List.findIdx_getElem (p:=fun y=>!decide (y<x)) (xs:=l) (w:=h)
 rw [List.getElem?_eq_getElem h] at hy;cases hy
 rw [Bool.not_eq_true'] at this
 exact of_decide_eq_false this
theorem putP_eq{l:List Int}{x:Int}{k:Nat}(h:∀j y,j<k→l[j]?=some y→y<x)(hk:k≤l.length)(h2:k=l.length∨∃y,l[k]?=some y∧¬y<x):putP l x=k:=by
 rcases Nat.lt_trichotomy (putP l x) k with g|g|g
 ·have hl:putP l x<l.length:=by omega
  have e:=List.getElem?_eq_getElem hl
  exact absurd (h _ _ g e) (putP_hi e)
 ·exact g
 ·rcases h2 with h2|⟨y,hy,hn⟩
  ·have:=putP_le l x;omega
  ·exact absurd (putP_lo g hy) hn
theorem insAt_eq{l:List Int}{k:Nat}{x:Int}:((l.take k).drop 0)++([x]++((l.take ((l.length:Int).toNat)).drop k))=insAt l k x:=by
 rw [Int.toNat_natCast,List.take_length,List.drop_zero,insAt,List.append_assoc]
def put_a(l:(List Int))(x:Int):Prop:=okL [.sl 1 (l.map AV.int) false,.int x]
abbrev put_v0(l:(List Int)):=(l.take ((l.length:Int).toNat))
def put_n0(l:(List Int))(x:Int)(t0:Int):NF:=⟨[(0,.k,.sl 1 (l.map AV.int) false),(1,.k,.int x),(5,.k,.int t0)],[]⟩
@[reducible] def put_s:Nat→Type
 | 0=>Int
 | _=>Unit
def put_e(r:(List Int)):AV:=.sl 1 (r.map AV.int) false
def put_x(l:(List Int))(x:Int)(I0:Int→Prop)(m0:Int→Nat):Ax Tryz.prog put_s ((List Int)):=
 (.loop 0 (put_n0 l x) I0 m0 ((0):Int) [] fun (t0:Int) b0 =>
(.br 80 (decide (t0<((l.map AV.int).length:Int))) (.el 112 AV.int l (fun R=>Rf (l.map AV.int) (ck (decide (0≤t0)) (ck (decide (t0<(l.length:Int)))
(∀x1,l[t0.toNat]?=some x1 →
(R x1))))) fun x1 =>
(.br 192 (decide (x1<x)) (.bk 0 b0 ((W (t0+1)):Int) [])
(.br 272 (decide (t0<((l.map AV.int).length:Int))) (.el 304 AV.int l (fun R=>Rf (l.map AV.int) (ck (decide (0≤t0)) (ck (decide (t0<(l.length:Int)))
(∀x2,l[t0.toNat]?=some x2 →
(R x2))))) fun x2 =>
(.br 384 (x2==x) (.ret (l))
(.own 400 (.say (fun R=>Rf (α:=List AV) (l.map AV.int) (ck (bndB l.length t0 (l.length:Int) (l.length:Int))
R)) (.sub 448 AV.int l false
(.say (fun R=>Rf (α:=List AV) [.int x] (Rf (α:=List AV) (((put_v0 l).drop t0.toNat).map AV.int)
(ck (decide ([x].length+((put_v0 l).drop t0.toNat).length≤1000000))
R))) (.app 464 AV.int [x] ((put_v0 l).drop t0.toNat)
(.say (fun R=>Rf (α:=List AV) (l.map AV.int) (ck (bndB l.length 0 t0 t0)
R)) (.sub 544 AV.int l true
(.say (fun R=>ck (decide (t0=t0))
((Rf (α:=List AV) (((l.take t0.toNat).drop 0).map AV.int) (Rf (α:=List AV) (([x]++((put_v0 l).drop t0.toNat)).map AV.int)
(ck (decide (0<([x]++((put_v0 l).drop t0.toNat)).length))
R))))) (.appF 576 AV.int ((l.take t0.toNat).drop 0) ([x]++((put_v0 l).drop t0.toNat))
(.say (fun R=>ck (decide (((l.take t0.toNat).drop 0).length+([x]++((put_v0 l).drop t0.toNat)).length≤1000000))
((Rf ((((l.take t0.toNat).drop 0)++([x]++((put_v0 l).drop t0.toNat))).map AV.int) R))) (.cmdL (.frzE 576 ((((l.take t0.toNat).drop 0)++([x]++((put_v0 l).drop t0.toNat))).map AV.int) (pureBL_map (fun _=>rfl) (((l.take t0.toNat).drop 0)++([x]++((put_v0 l).drop t0.toNat))))) (.ret (((l.take t0.toNat).drop 0)++([x]++((put_v0 l).drop t0.toNat)))))))))))))))))
(.own 400 (.say (fun R=>Rf (α:=List AV) (l.map AV.int) (ck (bndB l.length t0 (l.length:Int) (l.length:Int))
R)) (.sub 448 AV.int l false
(.say (fun R=>Rf (α:=List AV) [.int x] (Rf (α:=List AV) (((put_v0 l).drop t0.toNat).map AV.int)
(ck (decide ([x].length+((put_v0 l).drop t0.toNat).length≤1000000))
R))) (.app 464 AV.int [x] ((put_v0 l).drop t0.toNat)
(.say (fun R=>Rf (α:=List AV) (l.map AV.int) (ck (bndB l.length 0 t0 t0)
R)) (.sub 544 AV.int l true
(.say (fun R=>ck (decide (t0=t0))
((Rf (α:=List AV) (((l.take t0.toNat).drop 0).map AV.int) (Rf (α:=List AV) (([x]++((put_v0 l).drop t0.toNat)).map AV.int)
(ck (decide (0<([x]++((put_v0 l).drop t0.toNat)).length))
R))))) (.appF 576 AV.int ((l.take t0.toNat).drop 0) ([x]++((put_v0 l).drop t0.toNat))
(.say (fun R=>ck (decide (((l.take t0.toNat).drop 0).length+([x]++((put_v0 l).drop t0.toNat)).length≤1000000))
((Rf ((((l.take t0.toNat).drop 0)++([x]++((put_v0 l).drop t0.toNat))).map AV.int) R))) (.cmdL (.frzE 576 ((((l.take t0.toNat).drop 0)++([x]++((put_v0 l).drop t0.toNat))).map AV.int) (pureBL_map (fun _=>rfl) (((l.take t0.toNat).drop 0)++([x]++((put_v0 l).drop t0.toNat))))) (.ret (((l.take t0.toNat).drop 0)++([x]++((put_v0 l).drop t0.toNat))))))))))))))))))
(.br 272 (decide (t0<((l.map AV.int).length:Int))) (.el 304 AV.int l (fun R=>Rf (l.map AV.int) (ck (decide (0≤t0)) (ck (decide (t0<(l.length:Int)))
(∀x3,l[t0.toNat]?=some x3 →
(R x3))))) fun x3 =>
(.br 384 (x3==x) (.ret (l))
(.own 400 (.say (fun R=>Rf (α:=List AV) (l.map AV.int) (ck (bndB l.length t0 (l.length:Int) (l.length:Int))
R)) (.sub 448 AV.int l false
(.say (fun R=>Rf (α:=List AV) [.int x] (Rf (α:=List AV) (((put_v0 l).drop t0.toNat).map AV.int)
(ck (decide ([x].length+((put_v0 l).drop t0.toNat).length≤1000000))
R))) (.app 464 AV.int [x] ((put_v0 l).drop t0.toNat)
(.say (fun R=>Rf (α:=List AV) (l.map AV.int) (ck (bndB l.length 0 t0 t0)
R)) (.sub 544 AV.int l true
(.say (fun R=>ck (decide (t0=t0))
((Rf (α:=List AV) (((l.take t0.toNat).drop 0).map AV.int) (Rf (α:=List AV) (([x]++((put_v0 l).drop t0.toNat)).map AV.int)
(ck (decide (0<([x]++((put_v0 l).drop t0.toNat)).length))
R))))) (.appF 576 AV.int ((l.take t0.toNat).drop 0) ([x]++((put_v0 l).drop t0.toNat))
(.say (fun R=>ck (decide (((l.take t0.toNat).drop 0).length+([x]++((put_v0 l).drop t0.toNat)).length≤1000000))
((Rf ((((l.take t0.toNat).drop 0)++([x]++((put_v0 l).drop t0.toNat))).map AV.int) R))) (.cmdL (.frzE 576 ((((l.take t0.toNat).drop 0)++([x]++((put_v0 l).drop t0.toNat))).map AV.int) (pureBL_map (fun _=>rfl) (((l.take t0.toNat).drop 0)++([x]++((put_v0 l).drop t0.toNat))))) (.ret (((l.take t0.toNat).drop 0)++([x]++((put_v0 l).drop t0.toNat)))))))))))))))))
(.own 400 (.say (fun R=>Rf (α:=List AV) (l.map AV.int) (ck (bndB l.length t0 (l.length:Int) (l.length:Int))
R)) (.sub 448 AV.int l false
(.say (fun R=>Rf (α:=List AV) [.int x] (Rf (α:=List AV) (((put_v0 l).drop t0.toNat).map AV.int)
(ck (decide ([x].length+((put_v0 l).drop t0.toNat).length≤1000000))
R))) (.app 464 AV.int [x] ((put_v0 l).drop t0.toNat)
(.say (fun R=>Rf (α:=List AV) (l.map AV.int) (ck (bndB l.length 0 t0 t0)
R)) (.sub 544 AV.int l true
(.say (fun R=>ck (decide (t0=t0))
((Rf (α:=List AV) (((l.take t0.toNat).drop 0).map AV.int) (Rf (α:=List AV) (([x]++((put_v0 l).drop t0.toNat)).map AV.int)
(ck (decide (0<([x]++((put_v0 l).drop t0.toNat)).length))
R))))) (.appF 576 AV.int ((l.take t0.toNat).drop 0) ([x]++((put_v0 l).drop t0.toNat))
(.say (fun R=>ck (decide (((l.take t0.toNat).drop 0).length+([x]++((put_v0 l).drop t0.toNat)).length≤1000000))
((Rf ((((l.take t0.toNat).drop 0)++([x]++((put_v0 l).drop t0.toNat))).map AV.int) R))) (.cmdL (.frzE 576 ((((l.take t0.toNat).drop 0)++([x]++((put_v0 l).drop t0.toNat))).map AV.int) (pureBL_map (fun _=>rfl) (((l.take t0.toNat).drop 0)++([x]++((put_v0 l).drop t0.toNat))))) (.ret (((l.take t0.toNat).drop 0)++([x]++((put_v0 l).drop t0.toNat))))))))))))))))))
def put_vc(l:(List Int))(x:Int)(I0:Int→Prop)(m0:Int→Nat)(r0:(List Int)):Prop:=(put_x l x I0 m0).vp put_e r0
theorem put_p(l:List Int)(x:Int)(hl:l.length≤900000)(ok:put_a l x):∃I m,put_vc l x I m (put l x):=by
 refine ⟨fun t=>∃k:Nat,t=k∧k≤l.length∧∀j y,j<k→l[j]?=some y→y<x,fun t=>l.length-t.toNat,?_⟩
 dsimp only [put_vc,put_x,put_s,put_v0,Ax.vp,Ax.vc];simp only [vcU,rfU,List.length_map]
 have hle:=putP_le l x
 have key:∀k:Nat,putP l x=k→l[k]?≠some x→List.drop 0 (List.take k l)++([x]++List.drop k (List.take (l.length:Int).toNat l))=put l x:=fun k e hne=>by
  rw [insAt_eq,put,e,if_neg hne]
 refine ⟨⟨0,rfl,by omega,fun j y h=>by omega⟩,?_⟩
 rintro _ ⟨k,rfl,hk,h⟩
 simp only [Int.toNat_natCast]
 have hb1:bndB l.length k l.length l.length=true:=by simp [bndB];omega
 have hb2:bndB l.length 0 k k=true:=by simp [bndB];omega
 have e1:(List.take l.length l)=l:=List.take_length
 refine ⟨fun h1=>⟨by omega,by omega,fun y hy=>⟨fun e=>?_,fun e=>⟨fun h2=>⟨by omega,by omega,fun z hz=>?_⟩,fun h2=>by omega⟩⟩⟩,fun h1=>⟨fun h2=>by omega,fun _=>?_⟩⟩
 ·rw [W_succ (n:=l.length) (by omega) (by omega)]
  refine ⟨⟨k+1,rfl,by omega,fun j z hj hz=>?_⟩,by omega⟩
  by_cases e':j=k
  ·subst e';rw [hz] at hy;cases hy;exact e
  ·exact h j z (by omega) hz
 ·have hq:=putP_eq h hk (.inr ⟨y,hy,e⟩)
  rw [hy] at hz;cases hz
  refine ⟨fun e'=>?_,fun e'=>?_⟩
  ·rw [put,hq,if_pos (by rw [hy];simpa using e')]
  ·have hne:l[k]?≠some x:=by rw [hy];simpa using e'
   refine ⟨hb1,?_,hb2,trivial,?_,?_,?_⟩
   ·simp;omega
   ·simp
   ·simp;omega
   ·have:=key k hq hne;simpa using this
 ·have hq:=putP_eq h hk (.inl (by omega))
  refine ⟨hb1,?_,hb2,trivial,?_,?_,?_⟩
  ·simp;omega
  ·simp
  ·simp;omega
  ·have:=key k hq (by rw [List.getElem?_eq_none (by omega)];simp);simpa using this
def put_c(l:(List Int))(x:Int)(hl:l.length≤900000):PC Tryz.prog:=⟨151,[(.s 1),.k],[.sl 1 (l.map AV.int) false,.int x],put_e (put l x),PSpec.of_ok fun ok=>(put_p l x hl ok).elim fun I0 h=>h.elim fun m0 h=>mxP_of (sh:=(.s 1)) (enc:=put_e) (a:=(put_x l x I0 m0).an) h (by kernel_rfl) (AV.pureB_ok rfl),fnB_ok (by kernel_rfl)⟩
def src1(L:List Int)(p:Nat):Int:=pickI [rng L p 1 6,rng L (rawP L p) 1 20,rng L (rawP L (rawP L p)) 1 99] (rawV L (rawP L (rawP L (rawP L p))))
def src1P(L:List Int)(p:Nat):Nat:=rawP L (rawP L (rawP L (rawP L p)))
def srcLoop(L:List Int):Nat→List Int→Nat→List Int×Nat
 | 0,out,p=>(out,p)
 | i+1,out,p=>srcLoop L i (put out (src1 L p)) (src1P L p)
def sources(L:List Int)(p:Nat)(n:Int):List Int×Nat:=srcLoop L (Mod (rawV L p) (n+1)).toNat [] (rawP L p)
theorem src1_in(L:List Int)(p:Nat):1≤src1 L p∧src1 L p≤99:=by
 have h1:=rng_in (L:=L) (p:=p) (lo:=1) (hi:=6) (by omega)
 have h2:=rng_in (L:=L) (p:=rawP L p) (lo:=1) (hi:=20) (by omega)
 have h3:=rng_in (L:=L) (p:=rawP L (rawP L p)) (lo:=1) (hi:=99) (by omega)
 have:=pickI_mem (l:=[rng L p 1 6,rng L (rawP L p) 1 20,rng L (rawP L (rawP L p)) 1 99]) (by simp) (rawV L (rawP L (rawP L (rawP L p))))
 unfold src1
 generalize pickI _ _=v at this
 simp only [List.mem_cons,List.not_mem_nil,or_false] at this
 omega
theorem srcLoop_ok{L:List Int}:∀{i:Nat} {out:List Int} {p:Nat},rngI out→ascI out→rngI (srcLoop L i out p).1∧ascI (srcLoop L i out p).1
 | 0,_,_,h,h2=>⟨h,h2⟩
 | i+1,out,p,h,h2=>by
  rw [srcLoop]
  exact srcLoop_ok (put_rng h (src1_in L p)) (put_asc h2)
theorem sources_in(L:List Int)(p:Nat)(n:Int):rngI (sources L p n).1∧ascI (sources L p n).1:=srcLoop_ok (fun _ h=>by simp at h) (fun i h=>by simp at h)
def sources_a(L:(List Int))(p:Nat)(n:Int):Prop:=okL [.ref 0 0,.int n]∧(.box (.agg [.sl 1 (L.map AV.int) false,.int ((p:Nat):Int)]):Blk).ok
def sources_n0(L:(List Int))(t0:(List Int)×Int×Nat):NF:=⟨[(0,.k,.ref 0 0),(5,(.s 1),.sl 1 (t0.1.map AV.int) false),(6,.k,.int t0.2.1)],[.box (.agg [.sl 1 (L.map AV.int) false,.int ((t0.2.2:Nat):Int)])]⟩
@[reducible] def sources_s:Nat→Type
 | 0=>(List Int)×Int×Nat
 | _=>Unit
def sources_e(r:Tap×(List Int)):AV:=.sl 1 (r.2.map AV.int) false
def sources_b(r:Tap×(List Int)):List (Option Blk):=[some (.box (.agg [.sl 1 (r.1.L.map AV.int) false,.int ((r.1.p:Nat):Int)]))]
def sources_x(L:(List Int))(p:Nat)(n:Int)(I0:((List Int)×Int×Nat)→Prop)(m0:((List Int)×Int×Nat)→Nat):Ax Tryz.prog sources_s (Tap×(List Int)):=
 (.callH [0] (N_h L p (W (n+1))) 81
(.loop 0 (sources_n0 L) I0 m0 ([],Mod (rawV L p) (W (n+1)),rawP L p) [0] fun (t0:(List Int)×Int×Nat) b0 =>
(.br 33 (decide (0<t0.2.1)) (.callH [0] (Range_h L t0.2.2 1 6) 81
(.callH [0] (Range_h L (rawP L t0.2.2) 1 20) 113
(.callH [0] (Range_h L (rawP L (rawP L t0.2.2)) 1 99) 145
(.req 177 ([rng L t0.2.2 1 6,rng L (rawP L t0.2.2) 1 20,rng L (rawP L (rawP L t0.2.2)) 1 99]≠[]) fun h1 =>
(.callH [0] (Pick_h L (rawP L (rawP L (rawP L t0.2.2))) [rng L t0.2.2 1 6,rng L (rawP L t0.2.2) 1 20,rng L (rawP L (rawP L t0.2.2)) 1 99] h1) 177
(.req 193 (t0.1.length≤900000) fun h2 =>
(.callP (put_c t0.1 (pickI [rng L t0.2.2 1 6,rng L (rawP L t0.2.2) 1 20,rng L (rawP L (rawP L t0.2.2)) 1 99] (rawV L (rawP L (rawP L (rawP L t0.2.2))))) h2)
(.bk 0 b0 (put t0.1 (pickI [rng L t0.2.2 1 6,rng L (rawP L t0.2.2) 1 20,rng L (rawP L (rawP L t0.2.2)) 1 99] (rawV L (rawP L (rawP L (rawP L t0.2.2))))),W (t0.2.1-1),rawP L (rawP L (rawP L (rawP L t0.2.2)))) [0]))))))))
(.retH ((⟨L,t0.2.2⟩:Tap),t0.1) ⟨[(4,.k,.sl 1 (t0.1.map AV.int) false)],[.box (.agg [.sl 1 (L.map AV.int) false,.int ((t0.2.2:Nat):Int)])]⟩ [0]))))
def sources_vc(L:(List Int))(p:Nat)(n:Int)(I0:((List Int)×Int×Nat)→Prop)(m0:((List Int)×Int×Nat)→Nat)(r0:Tap×(List Int)):Prop:=(sources_x L p n I0 m0).vc sources_e sources_b r0
theorem sources_p(L:List Int)(p:Nat)(n:Int)(hn:0≤n∧n≤1000)(ok:sources_a L p n):∃I m,sources_vc L p n I m ((⟨L,(sources L p n).2⟩:Tap),(sources L p n).1):=by
 have hm:=Mod_range (x:=rawV L p) (show 1≤n+1 by omega)
 refine ⟨fun t=>∃i:Nat,t.2.1=i∧srcLoop L i t.1 t.2.2=sources L p n∧i+t.1.length≤2000,fun t=>t.2.1.toNat,?_⟩
 dsimp only [sources_vc,sources_x,sources_s,Ax.vp,Ax.vc];simp only [vcU,rfU,List.length_map]
 rw [W_eq (by omega)]
 refine ⟨⟨(Mod (rawV L p) (n+1)).toNat,by omega,rfl,by simp;omega⟩,?_⟩
 rintro ⟨out,_,q⟩ ⟨i,rfl,h,hl⟩
 simp only at h hl ⊢
 refine ⟨fun h1=>?_,fun h1=>?_⟩
 ·obtain ⟨i,rfl⟩:∃k,i=k+1:=⟨i-1,by omega⟩
  refine ⟨by simp,by omega,⟨i,?_,h,?_⟩,?_⟩
  ·rw [W_eq (by omega)];omega
  ·have:=put_length out (src1 L q);show i+(put out (src1 L q)).length≤2000;omega
  ·rw [W_eq (by omega)];omega
 ·obtain rfl:i=0:=by omega
  rw [←h];rfl
def sources_h(L:(List Int))(p:Nat)(n:Int)(hn:0≤n∧n≤1000):HC Tryz.prog:=⟨101,[.k,.k],[.ref 0 0,.int n],[.box (.agg [.sl 1 (L.map AV.int) false,.int ((p:Nat):Int)])],sources_e (((⟨L,(sources L p n).2⟩:Tap),(sources L p n).1):Tap×List Int),sources_b (((⟨L,(sources L p n).2⟩:Tap),(sources L p n).1):Tap×List Int),HSpec.of_okh fun ok ok2=>have ok:sources_a L p n:=⟨ok,ok2 _ (by simp)⟩;(sources_p L p n hn ok).elim fun I0 h=>h.elim fun m0 h=>mxH_of (sh:=(.s 1)) (enc:=sources_e) (hB:=sources_b) (a:=(sources_x L p n I0 m0).an) h (by kernel_rfl),fnB_ok (by kernel_rfl),HcOk.of (by simp [hcB,belBL,AV.belB,allB,okBk,okBkO,sources_e,sources_b,pureBL_map (v:=AV.int) (fun _=>rfl)])⟩
def fltN(L:List Int)(p:Nat):Int:=pickI [0,2,4,4,16,99] (rawV L p)
def filterT(L:List Int)(p:Nat):Flt×Nat:=(⟨rng L (rawP L p) 1 2,(sources L (rawP L (rawP L p)) (fltN L p)).1⟩,(sources L (rawP L (rawP L p)) (fltN L p)).2)
theorem fltN_in(L:List Int)(p:Nat):0≤fltN L p∧fltN L p≤1000:=by
 have:=pickI_mem (l:=[0,2,4,4,16,99]) (by simp) (rawV L p)
 unfold fltN
 generalize pickI _ _=v at this
 simp only [List.mem_cons,List.not_mem_nil,or_false] at this
 omega
theorem filterT_in(L:List Int)(p:Nat):fltErr (filterT L p).1.mode (filterT L p).1.srcs=0:=by
 have h1:=rng_in (L:=L) (p:=rawP L p) (lo:=1) (hi:=2) (by omega)
 have h2:rngI (filterT L p).1.srcs∧ascI (filterT L p).1.srcs:=sources_in L _ _
 unfold fltErr
 rw [if_neg,if_neg (not_not_intro h2.1),if_neg (not_not_intro h2.2)]
 refine not_not_intro ?_
 show rng L (rawP L p) 1 2=1∨rng L (rawP L p) 1 2=2
 omega
def filterT_a(L:(List Int))(p:Nat):Prop:=okL [.ref 0 0]∧(.box (.agg [.sl 1 (L.map AV.int) false,.int ((p:Nat):Int)]):Blk).ok
def filterT_e(r:Tap×Flt):AV:=.agg [.int r.2.mode,.sl 1 (r.2.srcs.map AV.int) false]
def filterT_b(r:Tap×Flt):List (Option Blk):=[some (.box (.agg [.sl 1 (r.1.L.map AV.int) false,.int ((r.1.p:Nat):Int)]))]
def filterT_x(L:(List Int))(p:Nat):Ax Tryz.prog noS (Tap×Flt):=
 (.req 49 ([0,2,4,4,16,99]≠[]) fun h1 =>
(.callH [0] (Pick_h L p [0,2,4,4,16,99] h1) 49
(.callH [0] (Range_h L (rawP L p) 1 2) 97
(.req 145 (0≤(pickI [0,2,4,4,16,99] (rawV L p))∧(pickI [0,2,4,4,16,99] (rawV L p))≤1000) fun h2 =>
(.callH [0] (sources_h L (rawP L (rawP L p)) (pickI [0,2,4,4,16,99] (rawV L p)) h2) 145
(.retH ((⟨L,(sources L (rawP L (rawP L p)) (pickI [0,2,4,4,16,99] (rawV L p))).2⟩:Tap),(⟨rng L (rawP L p) 1 2,(sources L (rawP L (rawP L p)) (pickI [0,2,4,4,16,99] (rawV L p))).1⟩:Flt)) ⟨[(2,.k,.ref 1 0)],[.box (.agg [.sl 1 (L.map AV.int) false,.int ((((sources L (rawP L (rawP L p)) (pickI [0,2,4,4,16,99] (rawV L p))).2):Nat):Int)]),.box (.agg [.int (rng L (rawP L p) 1 2),.sl 1 (((sources L (rawP L (rawP L p)) (pickI [0,2,4,4,16,99] (rawV L p))).1).map AV.int) false])]⟩ [0,1]))))))
def filterT_vc(L:(List Int))(p:Nat)(r0:Tap×Flt):Prop:=(filterT_x L p).vc filterT_e filterT_b r0
theorem filterT_p(L:List Int)(p:Nat)(ok:filterT_a L p):filterT_vc L p ((⟨L,(filterT L p).2⟩:Tap),(filterT L p).1):=by
 dsimp only [filterT_vc,filterT_x,noS,Ax.vp,Ax.vc];simp only [vcU,rfU,List.length_map]
 exact ⟨by simp,fltN_in L p,rfl⟩
def filterT_h(L:(List Int))(p:Nat):HC Tryz.prog:=⟨46,[.k],[.ref 0 0],[.box (.agg [.sl 1 (L.map AV.int) false,.int ((p:Nat):Int)])],filterT_e (((⟨L,(filterT L p).2⟩:Tap),(filterT L p).1):Tap×Flt),filterT_b (((⟨L,(filterT L p).2⟩:Tap),(filterT L p).1):Tap×Flt),HSpec.of_okh fun ok ok2=>have ok:filterT_a L p:=⟨ok,ok2 _ (by simp)⟩;mxH_of (sh:=(.a [.k,(.s 1)])) (enc:=filterT_e) (hB:=filterT_b) (a:=(filterT_x L p).an) (filterT_p L p ok) (by kernel_rfl),fnB_ok (by kernel_rfl),HcOk.of (by simp [hcB,belBL,AV.belB,allB,okBk,okBkO,filterT_e,filterT_b,pureBL_map (v:=AV.int) (fun _=>rfl)])⟩
structure Itm where
  ver:Int
  grp:Int
  mode:Int
  srcs:List Int
  deriving DecidableEq
structure Wnt where
  grp:Int
  mode:Int
  srcs:List Int
  deriving DecidableEq
structure Per where
  router:Int
  epoch:Int
  acked:Int
  deriving DecidableEq
structure Spk where
  router:Int
  epoch:Int
  last:Int
  items:List Itm
  peers:List Per
  deriving DecidableEq
structure Hrd where
  router:Int
  epoch:Int
  ver:Int
  items:List Itm
  deriving DecidableEq
structure Lsn where
  router:Int
  epoch:Int
  heard:List Hrd
  deriving DecidableEq
structure Sig where
  kind:Int
  src:Int
  dst:Int
  epoch:Int
  ver:Int
  prev:Int
  pep:Int
  grp:Int
  mode:Int
  srcs:List Int
  deriving DecidableEq
def Itm.v(x:Itm):AV:=.agg [.int x.ver,.int x.grp,.int x.mode,ints x.srcs]
def itms(l:List Itm):AV:=.sl 4 (l.map Itm.v) false
def Wnt.v(x:Wnt):AV:=.agg [.int x.grp,.int x.mode,ints x.srcs]
def Per.v(x:Per):AV:=.agg [.int x.router,.int x.epoch,.int x.acked]
def pers(l:List Per):AV:=.sl 3 (l.map Per.v) false
def Spk.v(x:Spk):AV:=.agg [.int x.router,.int x.epoch,.int x.last,itms x.items,pers x.peers]
def Hrd.v(x:Hrd):AV:=.agg [.int x.router,.int x.epoch,.int x.ver,itms x.items]
def hrds(l:List Hrd):AV:=.sl 4 (l.map Hrd.v) false
def Lsn.v(x:Lsn):AV:=.agg [.int x.router,.int x.epoch,hrds x.heard]
def Sig.v(x:Sig):AV:=.agg [.int x.kind,.int x.src,.int x.dst,.int x.epoch,.int x.ver,.int x.prev,.int x.pep,.int x.grp,.int x.mode,ints x.srcs]
def sigs(l:List Sig):AV:=.sl 10 (l.map Sig.v) false
def itmOk(last:Int)(x:Itm):Prop:=(1≤x.ver∧x.ver≤last)∧(1≤x.grp∧x.grp≤99)∧fltErr x.mode x.srcs=0
instance (last:Int) (x:Itm):Decidable (itmOk last x):=by unfold itmOk;infer_instance
def itmsOk(last:Int)(l:List Itm):Prop:=(∀x∈l,itmOk last x)∧(l.map Itm.grp).Nodup∧l.Pairwise fun x y=>x.ver<y.ver
instance (last:Int) (l:List Itm):Decidable (itmsOk last l):=by unfold itmsOk;infer_instance
def perOk(r last:Int)(p:Per):Prop:=(1≤p.router∧p.router≤99)∧p.router≠r∧(0≤p.epoch∧p.epoch≤1000000)∧(0≤p.acked∧p.acked≤last)
instance (r last:Int) (p:Per):Decidable (perOk r last p):=by unfold perOk;infer_instance
def spkOk(s:Spk):Prop:=(1≤s.router∧s.router≤99)∧(1≤s.epoch∧s.epoch≤1000000)∧(0≤s.last∧s.last≤1000000)∧itmsOk s.last s.items∧s.peers.length≤12 ∧
 (∀p∈s.peers,perOk s.router s.last p)∧s.peers.Pairwise fun x y=>x.router<y.router
instance (s:Spk):Decidable (spkOk s):=by unfold spkOk;infer_instance
def hrdOk(r:Int)(h:Hrd):Prop:=(1≤h.router∧h.router≤99)∧h.router≠r∧(1≤h.epoch∧h.epoch≤1000000)∧(0≤h.ver∧h.ver≤1000000)∧itmsOk h.ver h.items
instance (r:Int) (h:Hrd):Decidable (hrdOk r h):=by unfold hrdOk;infer_instance
def lsnOk(l:Lsn):Prop:=(1≤l.router∧l.router≤99)∧(1≤l.epoch∧l.epoch≤1000000)∧l.heard.length≤12∧(∀h∈l.heard,hrdOk l.router h)∧l.heard.Pairwise fun x y=>x.router<y.router
instance (l:Lsn):Decidable (lsnOk l):=by unfold lsnOk;infer_instance
def errIf(p:Prop)[Decidable p]:Int:=if p then 0 else 1
def sigNums(x:Sig):Prop:=
 if x.kind=1 then (1≤x.epoch∧x.epoch≤1000000)∧(0≤x.ver∧x.ver≤1000000)∧x.prev=0∧x.pep=0∧x.grp=0
 else if x.kind=2 then (1≤x.epoch∧x.epoch≤1000000)∧(1≤x.ver∧x.ver≤1000000)∧(0≤x.prev∧x.prev≤x.ver-1)∧x.pep=0∧(1≤x.grp∧x.grp≤99)
 else (0≤x.epoch∧x.epoch≤1000000)∧(0≤x.ver∧x.ver≤1000000)∧x.prev=0∧(1≤x.pep∧x.pep≤1000000)∧x.grp=0
instance (x:Sig):Decidable (sigNums x):=by unfold sigNums;infer_instance
def sigEnds(x:Sig):Prop:=(1≤x.src∧x.src≤99)∧(1≤x.dst∧x.dst≤99)∧x.src≠x.dst
instance (x:Sig):Decidable (sigEnds x):=by unfold sigEnds;infer_instance
def sigErr(x:Sig):Int:=
 if ¬(x.kind=1∨x.kind=2∨x.kind=3) then 1 else if ¬(sigEnds x∧sigNums x) then 2
 else if x.kind=2 then fltErr x.mode x.srcs else if x.mode≠0∨x.srcs≠[] then 1 else 0
def isNoW(w:Wnt):Prop:=w.mode=1∧w.srcs=[]
instance (w:Wnt):Decidable (isNoW w):=by unfold isNoW;infer_instance
def wFErrs(l:List Wnt):Int:=orI (l.map fun x=>fltErr x.mode x.srcs)
def wErr(chg:Bool)(l:List Wnt):Int:=
 if 32<l.length then 3 else if ¬(∀w∈l,1≤w.grp∧w.grp≤99) then 2 else if wFErrs l≠0 then wFErrs l
 else if chg=false∧∃w∈l,isNoW w then 1 else if ¬(l.Pairwise fun x y=>x.grp<y.grp) then 25 else 0
def without(g:Int)(l:List Itm):List Itm:=l.filter fun x=>decide (x.grp≠g)
def put1(l:List Itm)(x:Itm):List Itm:=without x.grp l++[x]
def told(l:List Itm)(g:Int):Int×List Int:=match l.find? fun x=>decide (x.grp=g) with
 | some x=>(x.mode,x.srcs)
 | none=>(1,[])
def chg1(s:Int×List Itm)(w:Wnt):Int×List Itm:=
 if told s.2 w.grp=(w.mode,w.srcs) then s else (s.1+1,put1 s.2 ⟨s.1+1,w.grp,w.mode,w.srcs⟩)
def spk0:Spk:=⟨0,0,0,[],[]⟩
def lsn0:Lsn:=⟨0,0,[]⟩
def sig0:Sig:=⟨0,0,0,0,0,0,0,0,0,[]⟩
abbrev SR:=Spk×Int
def new(r k:Int)(p:List Int):SR:=
 let s:Spk:=⟨r,k,0,[],p.map fun x=>⟨x,0,0⟩⟩
 if spkOk s then (s,0) else (spk0,1)
def change(s:Spk)(c:List Wnt):SR:=
 if ¬spkOk s then (spk0,1) else if wErr true c≠0 then (spk0,wErr true c)
 else if 1000000<(c.foldl chg1 (s.last,s.items)).1 then (spk0,3)
 else (⟨s.router,s.epoch,(c.foldl chg1 (s.last,s.items)).1,(c.foldl chg1 (s.last,s.items)).2,s.peers⟩,0)
def wItm(i:Nat)(w:Wnt):Itm:=⟨i+1,w.grp,w.mode,w.srcs⟩
def restart(s:Spk)(w:List Wnt):SR:=
 if ¬spkOk s then (spk0,1) else if wErr false w≠0 then (spk0,wErr false w) else if s.epoch=1000000 then (spk0,3)
 else (⟨s.router,s.epoch+1,w.length,w.mapIdx wItm,s.peers.map fun p=>⟨p.router,0,0⟩⟩,0)
def posP(l:List Per)(r:Int):Nat:=l.findIdx fun p=>!decide (p.router<r)
def hitP(l:List Per)(r:Int):Prop:=posP l r<l.length∧(l.getD (posP l r) ⟨0,0,0⟩).router=r
instance (l:List Per) (r:Int):Decidable (hitP l r):=by unfold hitP;infer_instance
def posH(l:List Hrd)(r:Int):Nat:=l.findIdx fun p=>!decide (p.router<r)
def hrd0:Hrd:=⟨0,0,0,[]⟩
def hitH(l:List Hrd)(r:Int):Prop:=posH l r<l.length∧(l.getD (posH l r) hrd0).router=r
instance (l:List Hrd) (r:Int):Decidable (hitH l r):=by unfold hitH;infer_instance
def upd1(s:Spk)(to prev:Int)(x:Itm):Sig:=⟨2,s.router,to,s.epoch,x.ver,prev,0,x.grp,x.mode,x.srcs⟩
def sendFrom(s:Spk)(to acked:Int):Int→List Itm→List Sig
 | _,[]=>[]
 | prev,x::r=>(if acked<x.ver then [upd1 s to prev x] else [])++sendFrom s to acked x.ver r
def hello(s:Spk)(to:Int):Sig:=⟨1,s.router,to,s.epoch,s.last,0,0,0,0,[]⟩
def send(s:Spk)(to:Int):List Sig×Int:=
 if ¬spkOk s then ([],1) else if ¬hitP s.peers to then ([],4)
 else (hello s to::sendFrom s to (s.peers.getD (posP s.peers to) ⟨0,0,0⟩).acked 0 s.items,0)
def ackV(s:Spk)(x:Sig):Int:=if x.epoch=s.epoch∧x.ver≤s.last then x.ver else 0
def ackP(s:Spk)(x:Sig)(p:Per):Per:=
 if p.epoch<x.pep then ⟨p.router,x.pep,ackV s x⟩ else if x.pep=p.epoch then ⟨p.router,p.epoch,maxI p.acked (ackV s x)⟩ else p
def ack(s:Spk)(x:Sig):SR:=
 if ¬spkOk s then (spk0,1) else if sigErr x≠0 then (spk0,sigErr x) else if x.kind≠3∨x.dst≠s.router then (spk0,1)
 else if ¬hitP s.peers x.src then (spk0,4)
 else (⟨s.router,s.epoch,s.last,s.items,s.peers.set (posP s.peers x.src) (ackP s x (s.peers.getD (posP s.peers x.src) ⟨0,0,0⟩))⟩,0)
def sigItm(x:Sig):Itm:=⟨x.ver,x.grp,x.mode,x.srcs⟩
def hear1(h:Hrd)(x:Sig):Hrd:=
 if x.kind=2∧x.epoch=h.epoch∧x.prev≤h.ver∧h.ver<x.ver then ⟨h.router,h.epoch,x.ver,put1 h.items (sigItm x)⟩ else h
def hear0(h:Hrd)(x:Sig):Hrd:=if h.epoch<x.epoch then ⟨x.src,x.epoch,0,[]⟩ else h
def base(l:List Hrd)(r:Int):List Hrd:=if hitH l r then l else insAt l (posH l r) ⟨r,0,0,[]⟩
abbrev HR:=(Lsn×Sig)×Int
def hearH(l:List Hrd)(x:Sig):Hrd:=hear1 (hear0 ((base l x.src).getD (posH l x.src) hrd0) x) x
def hear(l:Lsn)(x:Sig):HR:=
 if ¬lsnOk l then ((lsn0,sig0),1) else if sigErr x≠0 then ((lsn0,sig0),sigErr x) else if x.kind=3∨x.dst≠l.router then ((lsn0,sig0),1)
 else if ¬hitH l.heard x.src∧l.heard.length=12 then ((lsn0,sig0),3)
 else ((⟨l.router,l.epoch,(base l.heard x.src).set (posH l.heard x.src) (hearH l.heard x)⟩,
  ⟨3,l.router,x.src,(hearH l.heard x).epoch,(hearH l.heard x).ver,0,l.epoch,0,0,[]⟩),0)
def atH(l:List Hrd)(r:Int):Hrd:=l.getD (posH l r) hrd0
def agree(s:Spk)(l:Lsn):Prop:=
 spkOk s∧lsnOk l∧hitH l.heard s.router∧(atH l.heard s.router).epoch=s.epoch∧(atH l.heard s.router).ver=s.last∧(atH l.heard s.router).items=s.items
instance (s:Spk) (l:Lsn):Decidable (agree s l):=by unfold agree;infer_instance
theorem mem_without{g:Int}{l:List Itm}{x:Itm}:x∈without g l↔x∈l∧x.grp≠g:=by simp [without]
theorem mem_put1{l:List Itm}{x y:Itm}:y∈put1 l x↔(y∈l∧y.grp≠x.grp)∨y=x:=by simp [put1,mem_without]
theorem itmsOk.without{n g:Int}{l:List Itm}(h:itmsOk n l):itmsOk n (without g l):=
 ⟨fun x hx=>h.1 x (mem_without.mp hx).1,h.2.1.sublist (List.Sublist.map _ List.filter_sublist),h.2.2.sublist List.filter_sublist⟩
theorem itmsOk.put{n:Int}{l:List Itm}{x:Itm}(h:itmsOk n l)(h1:n<x.ver)(h2:1≤x.ver)(h3:1≤x.grp∧x.grp≤99)(h4:fltErr x.mode x.srcs=0):itmsOk x.ver (put1 l x):=by
 have hw:=h.without (g:=x.grp)
 refine ⟨fun y hy=>?_,?_,?_⟩
 ·rcases List.mem_append.mp hy with hy|hy
  ·obtain ⟨⟨a,b⟩,c⟩:=hw.1 y hy
   exact ⟨⟨a,by omega⟩,c⟩
  ·rw [List.mem_singleton] at hy;subst hy
   exact ⟨⟨h2,Int.le_refl _⟩,h3,h4⟩
 ·rw [put1,List.map_append]
  refine List.nodup_append.mpr ⟨hw.2.1,by simp,?_⟩
  intro a ha b hb e
  obtain ⟨y,hy,rfl⟩:=List.mem_map.mp ha
  simp at hb
  subst hb
  exact (mem_without.mp hy).2 e
 ·refine List.pairwise_append.mpr ⟨hw.2.2,List.pairwise_singleton _ _,fun a ha b hb=>?_⟩
  rw [List.mem_singleton] at hb;subst hb
  have:=(hw.1 a ha).1.2
  omega
theorem Nodup.grp{l:List Itm}(h:(l.map Itm.grp).Nodup){x y:Itm}(hx:x∈l)(hy:y∈l)(e:x.grp=y.grp):x=y:=by
 induction l with
 | nil=>simp at hx
 | cons z l ih =>
  simp only [List.map_cons,List.nodup_cons] at h
  rcases List.mem_cons.mp hx with h1|h1
  ·rcases List.mem_cons.mp hy with h2|h2
   ·rw [h1,h2]
   ·exact absurd (List.mem_map.mpr ⟨y,h2,by rw [←e,h1]⟩) h.1
  ·rcases List.mem_cons.mp hy with h2|h2
   ·exact absurd (List.mem_map.mpr ⟨x,h1,by rw [e,h2]⟩) h.1
   ·exact ih h.2 h1 h2
structure Adv (n:Int) (l:List Itm) (m:Int) (k:List Itm):Prop where
  le:n≤m
  old:∀z∈k,z∈l∨n<z.ver
  grp:∀z∈l,∃y∈k,y.grp=z.grp
theorem Adv.refl(n:Int)(l:List Itm):Adv n l n l:=⟨Int.le_refl _,fun _ h=>.inl h,fun z h=>⟨z,h,rfl⟩⟩
theorem Adv.trans{n m p:Int}{a b c:List Itm}(h:Adv n a m b)(k:Adv m b p c):Adv n a p c:=by
 refine ⟨Int.le_trans h.le k.le,fun z hz=>?_,fun z hz=>?_⟩
 ·rcases k.old z hz with g|g
  ·exact h.old z g
  ·exact .inr (by have:=h.le;omega)
 ·obtain ⟨y,hy,e⟩:=h.grp z hz
  obtain ⟨x,hx,e'⟩:=k.grp y hy
  exact ⟨x,hx,e'.trans e⟩
theorem Adv.put{n:Int}{l:List Itm}{x:Itm}(h:n<x.ver):Adv n l x.ver (put1 l x):=by
 refine ⟨by omega,fun z hz=>?_,fun z hz=>?_⟩
 ·rcases mem_put1.mp hz with g|rfl
  ·exact .inl g.1
  ·exact .inr h
 ·by_cases e:z.grp=x.grp
  ·exact ⟨x,mem_put1.mpr (.inr rfl),e.symm⟩
  ·exact ⟨z,mem_put1.mpr (.inl ⟨hz,e⟩),rfl⟩
def chgOk(c:List Wnt):Prop:=∀w∈c,(1≤w.grp∧w.grp≤99)∧fltErr w.mode w.srcs=0
theorem chg1_ok{n:Int}{l:List Itm}{w:Wnt}(h:itmsOk n l)(h0:0≤n)(hw:(1≤w.grp∧w.grp≤99)∧fltErr w.mode w.srcs=0) :
  itmsOk (chg1 (n,l) w).1 (chg1 (n,l) w).2∧Adv n l (chg1 (n,l) w).1 (chg1 (n,l) w).2∧(chg1 (n,l) w).1≤n+1∧0≤(chg1 (n,l) w).1:=by
 unfold chg1
 split
 ·exact ⟨h,Adv.refl _ _,by simp only;omega,h0⟩
 ·exact ⟨h.put (x:=⟨n+1,w.grp,w.mode,w.srcs⟩) (by simp only;omega) (by simp only;omega) hw.1 hw.2,Adv.put (x:=⟨n+1,w.grp,w.mode,w.srcs⟩) (by simp only;omega),Int.le_refl _,by simp only;omega⟩
theorem chg_ok:∀{c:List Wnt} {n:Int} {l:List Itm},itmsOk n l→0≤n→chgOk c →
  itmsOk (c.foldl chg1 (n,l)).1 (c.foldl chg1 (n,l)).2∧Adv n l (c.foldl chg1 (n,l)).1 (c.foldl chg1 (n,l)).2∧(c.foldl chg1 (n,l)).1≤n+c.length∧0≤(c.foldl chg1 (n,l)).1
 | [],n,l,h,h0,_=>⟨h,Adv.refl _ _,by simp,h0⟩
 | w::c,n,l,h,h0,hc=>by
  obtain ⟨a1,a2,a3,a4⟩:=chg1_ok h h0 (hc w (by simp))
  obtain ⟨b1,b2,b3,b4⟩:=chg_ok (c:=c) a1 a4 (fun v hv=>hc v (by simp [hv]))
  refine ⟨b1,a2.trans b2,?_,b4⟩
  simp only [List.foldl_cons,List.length_cons]
  have:(c.foldl chg1 (chg1 (n,l) w)).1≤(chg1 (n,l) w).1+c.length:=b3
  omega
structure UpdOk (n:Int) (l:List Itm) (x:Sig):Prop where
  le:x.ver≤n
  has:∃z∈l,z.grp=x.grp
  grp:∀z∈l,z.grp=x.grp→x.ver≤z.ver
  gap:∀z∈l,z.ver≤x.ver→z.ver≤x.prev∨z=sigItm x
theorem Pairwise.mid{l r:List Itm}{x:Itm}(h:(l++x::r).Pairwise fun a b=>a.ver<b.ver):(∀y∈l,y.ver<x.ver)∧∀y∈r,x.ver<y.ver:=by
 rw [List.pairwise_append,List.pairwise_cons] at h
 exact ⟨fun y hy=>h.2.2 y hy x (by simp),fun y hy=>h.2.1.1 y hy⟩
theorem send_ok{s:Spk}{to acked:Int}(hs:itmsOk s.last s.items)(h1:s.last≤1000000):∀(r d:List Itm) (prev:Int),s.items=d++r→0≤prev→(∀y∈d,y.ver≤prev)→(∀y∈r,prev<y.ver) →
  ∀x∈sendFrom s to acked prev r,x.kind=2∧x.src=s.router∧x.dst=to∧x.epoch=s.epoch∧x.pep=0∧(0≤x.prev∧x.prev≤x.ver-1)∧(sigItm x)∈s.items∧UpdOk s.last s.items x
 | [],d,prev,_,_,_,_,x,hx=>by simp [sendFrom] at hx
 | y::r,d,prev,e,h0,hd,hr,x,hx=>by
  have hy:y∈s.items:=by rw [e];simp
  obtain ⟨m1,m2⟩:=Pairwise.mid (e ▸ hs.2.2)
  rcases List.mem_append.mp hx with hx|hx
  ·split at hx
   ·rw [List.mem_singleton] at hx;subst hx
    have hp:=hr y (by simp)
    refine ⟨rfl,rfl,rfl,rfl,rfl,⟨h0,by simp only [upd1];omega⟩,hy,(hs.1 y hy).1.2,⟨y,hy,rfl⟩,fun z hz e'=>?_,fun z hz hv=>?_⟩
    ·rw [Nodup.grp hs.2.1 hz hy e'];exact Int.le_refl _
    ·rw [e] at hz
     rcases List.mem_append.mp hz with hz|hz
     ·exact .inl (hd z hz)
     ·rcases List.mem_cons.mp hz with rfl|hz
      ·exact .inr rfl
      ·have:=m2 z hz;simp only [upd1] at hv;omega
   ·simp at hx
  ·refine send_ok hs h1 r (d++[y]) y.ver (by rw [e];simp) (by have:=(hs.1 y hy).1.1;omega) (fun z hz=>?_) m2 x hx
   rcases List.mem_append.mp hz with hz|hz
   ·have:=m1 z hz;omega
   ·rw [List.mem_singleton] at hz;subst hz;exact Int.le_refl _
theorem orI_zero2{l:List Int}:orI l=0↔∀x∈l,x=0:=by
 unfold orI
 cases h:l.find? (· != 0) with
 | none =>
  rw [List.find?_eq_none] at h
  exact ⟨fun _ x hx=>by simpa using h x hx,fun _=>rfl⟩
 | some a =>
  have h1:=List.find?_some h
  have h2:=List.mem_of_find?_eq_some h
  exact ⟨fun e=>by simp at e;subst e;simp at h1,fun e=>by rw [e a h2] at h1;simp at h1⟩
theorem wErr_zero{chg:Bool}{l:List Wnt}:wErr chg l=0↔l.length≤32∧(∀w∈l,1≤w.grp∧w.grp≤99)∧(∀w∈l,fltErr w.mode w.srcs=0)∧(chg=false→∀w∈l,¬isNoW w)∧l.Pairwise fun x y=>x.grp<y.grp:=by
 have hz:wFErrs l=0↔∀w∈l,fltErr w.mode w.srcs=0:=by
  rw [wFErrs,orI_zero2]
  constructor
  ·intro h w hw;exact h _ (List.mem_map.mpr ⟨w,hw,rfl⟩)
  ·intro h x hx;obtain ⟨w,hw,rfl⟩:=List.mem_map.mp hx;exact h w hw
 unfold wErr
 by_cases h1:32<l.length
 ·rw [if_pos h1];constructor
  ·intro h;omega
  ·intro h;omega
 rw [if_neg h1]
 by_cases h2:∀w∈l,1≤w.grp∧w.grp≤99
 case neg =>
  rw [if_pos h2];constructor
  ·intro h;omega
  ·intro h;exact absurd h.2.1 h2
 rw [if_neg (not_not_intro h2)]
 by_cases h3:wFErrs l=0
 case neg =>
  rw [if_pos h3]
  exact ⟨fun h=>absurd h h3,fun h=>hz.mpr h.2.2.1⟩
 rw [if_neg (not_not_intro h3)]
 by_cases h4:chg=false∧∃w∈l,isNoW w
 ·rw [if_pos h4]
  constructor
  ·intro h;omega
  ·intro h
   obtain ⟨hc,w,hw,hn⟩:=h4
   exact absurd hn (h.2.2.2.1 hc w hw)
 rw [if_neg h4]
 by_cases h5:l.Pairwise fun x y=>x.grp<y.grp
 ·rw [if_neg (not_not_intro h5)]
  exact ⟨fun _=>⟨by omega,h2,hz.mp h3,fun hc w hw hn=>h4 ⟨hc,w,hw,hn⟩,h5⟩,fun _=>rfl⟩
 ·rw [if_pos h5]
  exact ⟨fun h=>by omega,fun h=>absurd h.2.2.2.2 h5⟩
theorem chgOk_of{chg:Bool}{l:List Wnt}(h:wErr chg l=0):chgOk l:=by
 obtain ⟨_,h1,h2,_⟩:=wErr_zero.mp h
 exact fun w hw=>⟨h1 w hw,h2 w hw⟩
theorem ackP_ok{s:Spk}{x:Sig}{p:Per}(h:perOk s.router s.last p)(h0:0≤s.last)(hx:sigErr x=0)(hk:x.kind=3):perOk s.router s.last (ackP s x p)∧(ackP s x p).router=p.router:=by
 obtain ⟨h1,h2,h3,h4⟩:=h
 have hn:sigNums x:=by
  unfold sigErr at hx
  split at hx
  ·omega
  split at hx
  ·omega
  rename_i h;exact (Classical.not_not.mp h).2
 unfold sigNums at hn
 rw [if_neg (by omega),if_neg (by omega)] at hn
 have hv:0≤ackV s x∧ackV s x≤s.last:=by
  unfold ackV
  split
  ·exact ⟨hn.2.1.1,by omega⟩
  ·exact ⟨by omega,h0⟩
 unfold ackP
 split
 ·exact ⟨⟨h1,h2,⟨by simp only;omega,hn.2.2.2.1.2⟩,hv⟩,rfl⟩
 split
 ·refine ⟨⟨h1,h2,h3,?_⟩,rfl⟩
  simp only [maxI]
  split<;>omega
 ·exact ⟨⟨h1,h2,h3,h4⟩,rfl⟩
theorem restart_items{w:List Wnt}(h:chgOk w)(ho:w.Pairwise fun x y=>x.grp<y.grp):itmsOk w.length (w.mapIdx wItm):=by
 refine ⟨fun x hx=>?_,?_,?_⟩
 ·obtain ⟨i,hi,rfl⟩:=List.mem_mapIdx.mp hx
  obtain ⟨h1,h2⟩:=h _ (List.getElem_mem hi)
  exact ⟨⟨by simp only [wItm];omega,by simp only [wItm];omega⟩,h1,h2⟩
 ·have:(w.mapIdx wItm).map Itm.grp=w.map Wnt.grp:=by
   refine List.ext_getElem (by simp) fun i h1 h2=>?_
   simp [wItm]
  rw [this]
  rw [List.Nodup,List.pairwise_map]
  exact ho.imp fun h=>by omega
 ·rw [List.pairwise_iff_getElem]
  intro i j hi hj hij
  simp only [List.getElem_mapIdx,wItm]
  omega
theorem nodup_len:∀(n:Nat) (l:List Int),l.Nodup→(∀x∈l,1≤x∧x≤n)→l.length≤n
 | 0,l,_,h=>by
  cases l with
  | nil=>simp
  | cons x l=>have:=h x (by simp);omega
 | n+1,l,hn,h=>by
  have h1:=nodup_len n (l.erase ((n+1:Nat):Int)) (hn.erase _) (fun x hx=>by rw [hn.mem_erase_iff] at hx;have:=h x hx.2;omega)
  rw [List.length_erase] at h1
  split at h1<;>omega
theorem itms_len{n:Int}{l:List Itm}(h:itmsOk n l):l.length≤99:=by
 have:=nodup_len 99 (l.map Itm.grp) h.2.1 (fun x hx=>by obtain ⟨y,hy,rfl⟩:=List.mem_map.mp hx;exact (h.1 y hy).2.1)
 simpa using this
theorem sig_told{x:Sig}(hx:sigErr x=0)(hk:x.kind≠3):(1≤x.epoch∧x.epoch≤1000000)∧(0≤x.ver∧x.ver≤1000000)∧(x.kind=2→1≤x.ver∧(1≤x.grp∧x.grp≤99)∧fltErr x.mode x.srcs=0):=by
 unfold sigErr at hx
 split at hx
 ·omega
 split at hx
 ·omega
 rename_i h0 h1
 have hn:=(Classical.not_not.mp h1).2
 unfold sigNums at hn
 split at hn
 ·exact ⟨hn.1,hn.2.1,fun e=>by omega⟩
 split at hn
 ·rename_i h2
  rw [if_pos h2] at hx
  exact ⟨hn.1,⟨by omega,hn.2.1.2⟩,fun _=>⟨hn.2.1.1,hn.2.2.2.2,hx⟩⟩
 ·omega
def wNew(L:List Int)(p:Nat)(g:Int)(out:List Wnt):List Wnt:=
 if Mod (rawV L (filterT L p).2) 2=0∧((filterT L p).1.mode=2∨(filterT L p).1.srcs≠[]) then out++[⟨g,(filterT L p).1.mode,(filterT L p).1.srcs⟩] else out
def wPos(L:List Int)(p:Nat):Nat:=rawP L (filterT L p).2
def wantsL(L:List Int):Nat→Int→List Wnt→Nat→List Wnt×Nat
 | 0,_,out,p=>(out,p)
 | n+1,g,out,p=>wantsL L n (g+1) (wNew L p g out) (wPos L p)
def wantsT(L:List Int)(p:Nat):List Wnt×Nat:=wantsL L 6 1 [] p
def findW(l:List Wnt)(g:Int):Flt:=match l.find? fun w=>decide (w.grp=g) with
 | some w=>⟨w.mode,w.srcs⟩
 | none=>⟨1,[]⟩
def chgs1(old new:List Wnt)(g:Int):List Wnt:=if findW new g=findW old g then [] else [⟨g,(findW new g).mode,(findW new g).srcs⟩]
def chgsTo(old new:List Wnt):Nat→List Wnt
 | 0=>[]
 | n+1=>chgsTo old new n++chgs1 old new (n+1)
def changes(old new:List Wnt):List Wnt×Int:=
 if wErr false old≠0 then ([],wErr false old) else if wErr false new≠0 then ([],wErr false new)
 else if 32<(chgsTo old new 99).length then ([],3) else (chgsTo old new 99,0)
theorem findW_ok{l:List Wnt}(h:∀w∈l,fltErr w.mode w.srcs=0)(g:Int):fltErr (findW l g).mode (findW l g).srcs=0:=by
 unfold findW
 split
 ·rename_i w e;exact h w (List.mem_of_find?_eq_some e)
 ·decide
theorem findW_none{l:List Wnt}{g:Int}(h:∀w∈l,w.grp≠g):findW l g=⟨1,[]⟩:=by
 unfold findW
 rw [List.find?_eq_none.mpr (fun w hw=>by simpa using h w hw)]
structure COk (n:Int) (c:List Wnt):Prop where
  rng:∀w∈c,1≤w.grp∧w.grp≤n
  flt:∀w∈c,fltErr w.mode w.srcs=0
  asc:c.Pairwise fun x y=>x.grp<y.grp
theorem chgsTo_ok{old new:List Wnt}(h2:∀w∈new,fltErr w.mode w.srcs=0):∀n:Nat,COk n (chgsTo old new n)
 | 0=>⟨fun w hw=>by simp [chgsTo] at hw,fun w hw=>by simp [chgsTo] at hw,List.Pairwise.nil⟩
 | n+1=>by
  have h:=chgsTo_ok (old:=old) h2 n
  simp only [chgsTo,chgs1]
  split
  ·rw [List.append_nil]
   exact ⟨fun w hw=>by have:=h.rng w hw;omega,h.flt,h.asc⟩
  ·refine ⟨fun w hw=>?_,fun w hw=>?_,List.pairwise_append.mpr ⟨h.asc,List.pairwise_singleton _ _,fun a ha b hb=>?_⟩⟩
   ·rcases List.mem_append.mp hw with hw|hw
    ·have:=h.rng w hw;omega
    ·rw [List.mem_singleton] at hw;subst hw;exact ⟨by simp only;omega,by simp only;omega⟩
   ·rcases List.mem_append.mp hw with hw|hw
    ·exact h.flt w hw
    ·rw [List.mem_singleton] at hw;subst hw;exact findW_ok h2 _
   ·rw [List.mem_singleton] at hb;subst hb
    have:=h.rng a ha;simp only;omega
theorem chgsTo_len(old new:List Wnt):∀n:Nat,(chgsTo old new n).length≤n
 | 0=>Nat.le_refl _
 | n+1=>by
  have:=chgsTo_len old new n
  simp only [chgsTo,chgs1]
  split<;>simp<;>omega
def from1(f:Int→Int×List Int)(g:Int):List Wnt:=if f g=(1,[]) then [] else [⟨g,(f g).1,(f g).2⟩]
def fromF(f:Int→Int×List Int):Nat→List Wnt
 | 0=>[]
 | n+1=>fromF f n++from1 f (n+1)
def wantsOf(l:List Itm):List Wnt:=if itmsOk 1000000 l then fromF (told l) 99 else []
theorem mem_from1{f:Int→Int×List Int}{g:Int}{w:Wnt}:w∈from1 f g↔w.grp=g∧f w.grp=(w.mode,w.srcs)∧f w.grp≠(1,[]):=by
 unfold from1
 split
 ·rename_i e
  simp only [List.not_mem_nil,false_iff]
  rintro ⟨rfl,_,h⟩;exact h e
 ·rename_i e
  rw [List.mem_singleton]
  constructor
  ·rintro rfl;exact ⟨rfl,rfl,e⟩
  ·rintro ⟨rfl,h1,_⟩
   rw [h1]
theorem mem_fromF{f:Int→Int×List Int}{w:Wnt}:∀{n:Nat},w∈fromF f n↔(1≤w.grp∧w.grp≤n)∧f w.grp=(w.mode,w.srcs)∧f w.grp≠(1,[])
 | 0=>by simp only [fromF,List.not_mem_nil,false_iff];rintro ⟨h,_⟩;omega
 | n+1=>by
  rw [fromF,List.mem_append,mem_fromF (n:=n),mem_from1]
  constructor
  ·rintro (⟨h1,h2⟩|⟨h1,h2⟩)
   ·exact ⟨by omega,h2⟩
   ·exact ⟨by omega,h2⟩
  ·rintro ⟨h1,h2⟩
   by_cases e:w.grp=((n+1:Nat):Int)
   ·exact .inr ⟨by omega,h2⟩
   ·exact .inl ⟨by omega,h2⟩
theorem fromF_asc{f:Int→Int×List Int}:∀n:Nat,(fromF f n).Pairwise fun x y=>x.grp<y.grp
 | 0=>List.Pairwise.nil
 | n+1=>by
  refine List.pairwise_append.mpr ⟨fromF_asc n,?_,fun a ha b hb=>?_⟩
  ·unfold from1;split
   ·exact List.Pairwise.nil
   ·exact List.pairwise_singleton _ _
  ·have:=(mem_fromF.mp ha).1
   have:=(mem_from1.mp hb).1
   omega
theorem ascW_ext:∀{a b:List Wnt},a.Pairwise (fun x y=>x.grp<y.grp)→b.Pairwise (fun x y=>x.grp<y.grp)→(∀x,x∈a↔x∈b)→a=b:=by
 intro a
 induction a with
 | nil =>
  intro b _ _ h
  cases b with
  | nil=>rfl
  | cons y b=>exact absurd ((h y).mpr (by simp)) (by simp)
 | cons x a ih =>
  intro b ha hb h
  cases b with
  | nil=>exact absurd ((h x).mp (by simp)) (by simp)
  | cons y b =>
   rw [List.pairwise_cons] at ha hb
   have hxy:x=y:=by
    refine Classical.byContradiction fun hne=>?_
    have h1:x∈b:=(List.mem_cons.mp ((h x).mp (by simp))).resolve_left hne
    have h2:y∈a:=(List.mem_cons.mp ((h y).mpr (by simp))).resolve_left (Ne.symm hne)
    have:=ha.1 y h2
    have:=hb.1 x h1
    omega
   subst hxy
   rw [ih ha.2 hb.2 fun z=>?_]
   constructor
   ·intro hz
    refine (List.mem_cons.mp ((h z).mp (by simp [hz]))).resolve_left fun e=>?_
    subst e
    have:=ha.1 z hz
    omega
   ·intro hz
    refine (List.mem_cons.mp ((h z).mpr (by simp [hz]))).resolve_left fun e=>?_
    subst e
    have:=hb.1 z hz
    omega
theorem told_in{l:List Itm}(h:(l.map Itm.grp).Nodup){x:Itm}(hx:x∈l):told l x.grp=(x.mode,x.srcs):=by
 unfold told
 cases e:l.find? fun y=>decide (y.grp=x.grp) with
 | none=>rw [List.find?_eq_none] at e;exact absurd (e x hx) (by simp)
 | some y =>
  have h1:=List.mem_of_find?_eq_some e
  have h2:=List.find?_some e
  rw [Nodup.grp h h1 hx (by simpa using h2)]
theorem told_no{l:List Itm}{g:Int}(h:∀x∈l,x.grp≠g):told l g=(1,[]):=by
 unfold told
 rw [List.find?_eq_none.mpr (fun x hx=>by simpa using h x hx)]
theorem told_some{l:List Itm}{g:Int}(h:told l g≠(1,[])):∃x∈l,x.grp=g∧told l g=(x.mode,x.srcs):=by
 unfold told at h ⊢
 cases e:l.find? fun y=>decide (y.grp=g) with
 | none=>rw [e] at h;exact absurd rfl h
 | some y=>exact ⟨y,List.mem_of_find?_eq_some e,by simpa using List.find?_some e,rfl⟩
def find2(l:List Wnt)(g:Int):Int×List Int:=((findW l g).mode,(findW l g).srcs)
theorem findW_in{l:List Wnt}(h:l.Pairwise fun x y=>x.grp<y.grp){w:Wnt}(hw:w∈l):findW l w.grp=⟨w.mode,w.srcs⟩:=by
 unfold findW
 cases e:l.find? fun y=>decide (y.grp=w.grp) with
 | none=>rw [List.find?_eq_none] at e;exact absurd (e w hw) (by simp)
 | some y =>
  have h1:=List.mem_of_find?_eq_some e
  have h2:y.grp=w.grp:=by simpa using List.find?_some e
  have:y=w:=by
   obtain ⟨i,hi,rfl⟩:=List.mem_iff_getElem.mp h1
   obtain ⟨j,hj,rfl⟩:=List.mem_iff_getElem.mp hw
   rw [List.pairwise_iff_getElem] at h
   rcases Nat.lt_trichotomy i j with g|g|g
   ·have:=h i j hi hj g;omega
   ·subst g;rfl
   ·have:=h j i hj hi g;omega
  rw [this]
theorem findW_some{l:List Wnt}{g:Int}(h:findW l g≠⟨1,[]⟩):∃w∈l,w.grp=g∧findW l g=⟨w.mode,w.srcs⟩:=by
 unfold findW at h ⊢
 cases e:l.find? fun y=>decide (y.grp=g) with
 | none=>rw [e] at h;exact absurd rfl h
 | some y=>exact ⟨y,List.mem_of_find?_eq_some e,by simpa using List.find?_some e,rfl⟩
theorem find2_ne{l:List Wnt}{g:Int}:find2 l g≠(1,[])↔findW l g≠⟨1,[]⟩:=by
 unfold find2
 cases findW l g
 simp
theorem mem_chgsTo{old new:List Wnt}{w:Wnt}:∀{n:Nat},w∈chgsTo old new n↔(1≤w.grp∧w.grp≤n)∧findW new w.grp=⟨w.mode,w.srcs⟩∧findW new w.grp≠findW old w.grp
 | 0=>by simp only [chgsTo,List.not_mem_nil,false_iff];rintro ⟨h,_⟩;omega
 | n+1=>by
  rw [chgsTo,List.mem_append,mem_chgsTo (n:=n)]
  have:w∈chgs1 old new (n+1)↔w.grp=n+1∧findW new w.grp=⟨w.mode,w.srcs⟩∧findW new w.grp≠findW old w.grp:=by
   unfold chgs1
   split
   ·rename_i e
    simp only [List.not_mem_nil,false_iff]
    rintro ⟨q,_,h⟩;rw [q] at h;exact h e
   ·rename_i e
    rw [List.mem_singleton]
    constructor
    ·rintro rfl;exact ⟨rfl,rfl,e⟩
    ·rintro ⟨q,h1,_⟩
     rw [q] at h1
     cases w;simp only at q h1 ⊢;rw [h1,q]
  rw [this]
  constructor
  ·rintro (⟨h1,h2⟩|⟨h1,h2⟩)
   ·exact ⟨by omega,h2⟩
   ·exact ⟨by omega,h2⟩
  ·rintro ⟨h1,h2⟩
   by_cases e:w.grp=n+1
   ·exact .inr ⟨e,h2⟩
   ·exact .inl ⟨by omega,h2⟩
theorem change_val{s:Spk}{c:List Wnt}(h:(change s c).2=0):spkOk s∧wErr true c=0∧¬1000000<(c.foldl chg1 (s.last,s.items)).1 ∧
  change s c=(⟨s.router,s.epoch,(c.foldl chg1 (s.last,s.items)).1,(c.foldl chg1 (s.last,s.items)).2,s.peers⟩,0):=by
 unfold change at h ⊢
 by_cases h1:spkOk s
 case neg=>rw [if_pos h1] at h;simp at h
 by_cases h2:wErr true c=0
 case neg=>rw [if_neg (not_not_intro h1),if_pos h2] at h;exact absurd h h2
 by_cases h3:1000000<(c.foldl chg1 (s.last,s.items)).1
 case pos=>rw [if_neg (not_not_intro h1),if_neg (not_not_intro h2),if_pos h3] at h;simp at h
 rw [if_neg (not_not_intro h1),if_neg (not_not_intro h2),if_neg h3]
 exact ⟨h1,h2,h3,rfl⟩
theorem change_spkOk{s:Spk}{c:List Wnt}(h:(change s c).2=0):spkOk (change s c).1:=by
 obtain ⟨h1,h2,h3,e⟩:=change_val h
 rw [e]
 obtain ⟨p1,p2,p3,p4,p5,p6,p7⟩:=h1
 obtain ⟨q1,q2,q3,q4⟩:=chg_ok p4 p3.1 (chgOk_of h2)
 refine ⟨p1,p2,⟨q4,by simp only;omega⟩,q1,p5,fun p hp=>?_,p7⟩
 obtain ⟨r1,r2,r3,r4⟩:=p6 p hp
 exact ⟨r1,r2,r3,r4.1,by have:=q2.le;simp only;omega⟩
theorem restart_val{s:Spk}{w:List Wnt}(h:(restart s w).2=0):spkOk s∧wErr false w=0∧s.epoch≠1000000 ∧
  restart s w=(⟨s.router,s.epoch+1,w.length,w.mapIdx wItm,s.peers.map fun p=>⟨p.router,0,0⟩⟩,0):=by
 unfold restart at h ⊢
 by_cases h1:spkOk s
 case neg=>rw [if_pos h1] at h;simp at h
 by_cases h2:wErr false w=0
 case neg=>rw [if_neg (not_not_intro h1),if_pos h2] at h;exact absurd h h2
 by_cases h3:s.epoch=1000000
 case pos=>rw [if_neg (not_not_intro h1),if_neg (not_not_intro h2),if_pos h3] at h;simp at h
 rw [if_neg (not_not_intro h1),if_neg (not_not_intro h2),if_neg h3]
 exact ⟨h1,h2,h3,rfl⟩
theorem restart_spkOk{s:Spk}{w:List Wnt}(h:(restart s w).2=0):spkOk (restart s w).1:=by
 obtain ⟨h1,h2,h3,e⟩:=restart_val h
 rw [e]
 obtain ⟨p1,p2,p3,p4,p5,p6,p7⟩:=h1
 obtain ⟨w1,_,_,_,w5⟩:=wErr_zero.mp h2
 refine ⟨p1,⟨by simp only;omega,by simp only;omega⟩,⟨by simp only;omega,by simp only;omega⟩,restart_items (chgOk_of h2) w5,by simpa using p5,fun q hq=>?_,?_⟩
 ·obtain ⟨q',hq',rfl⟩:=List.mem_map.mp hq
  obtain ⟨r1,r2,_,_⟩:=p6 q' hq'
  exact ⟨r1,r2,⟨by simp,by simp⟩,by simp,by simp⟩
 ·rw [List.pairwise_map];exact p7
section
variable {α : Type} (key : α → Int)
def posK(l:List α)(r:Int):Nat:=l.findIdx fun p=>!decide (key p<r)
variable {key}
theorem posK_lt{l:List α}{r:Int}{i:Nat}(h:i<posK key l r)(hi:i<l.length):key l[i]<r:=by
 have:=List.not_of_lt_findIdx h
 simpa using this
theorem posK_ge{l:List α}{r:Int}(ho:l.Pairwise fun x y=>key x<key y){i:Nat}(hi:i<l.length)(h:posK key l r≤i):r≤key l[i]:=by
 have hp:posK key l r<l.length:=by omega
 have h1:r≤key l[posK key l r]:=by
  have:(!decide (key l[posK key l r]<r))=true:=List.findIdx_getElem (w:=hp)
  simpa using this
 rcases Nat.eq_or_lt_of_le h with e|e
 ·simp only [e] at h1;exact h1
 ·have:=List.pairwise_iff_getElem.mp ho _ _ hp hi e
  omega
theorem posK_eq{l:List α}{r:Int}(ho:l.Pairwise fun x y=>key x<key y){i:Nat}(hi:i<l.length)(h:key l[i]=r):posK key l r=i:=by
 rcases Nat.lt_trichotomy (posK key l r) i with e|e|e
 ·have h1:=posK_ge ho (r:=r) (i:=posK key l r) (by omega) (Nat.le_refl _)
  have:=List.pairwise_iff_getElem.mp ho _ _ (by omega) hi e
  omega
 ·exact e
 ·have:=posK_lt e hi;omega
theorem hitK_iff{l:List α}{r:Int}{d:α}(ho:l.Pairwise fun x y=>key x<key y):(posK key l r<l.length∧key (l.getD (posK key l r) d)=r)↔∃z∈l,key z=r:=by
 constructor
 ·rintro ⟨h1,h2⟩
  rw [List.getD_eq_getElem?_getD,List.getElem?_eq_getElem h1] at h2
  exact ⟨_,List.getElem_mem h1,h2⟩
 ·rintro ⟨z,hz,rfl⟩
  obtain ⟨i,hi,rfl⟩:=List.getElem_of_mem hz
  rw [posK_eq ho hi rfl]
  exact ⟨hi,by rw [List.getD_eq_getElem?_getD,List.getElem?_eq_getElem hi];rfl⟩
theorem atK_eq{l:List α}{d z:α}(ho:l.Pairwise fun x y=>key x<key y)(hz:z∈l):l.getD (posK key l (key z)) d=z:=by
 obtain ⟨i,hi,rfl⟩:=List.getElem_of_mem hz
 rw [posK_eq ho hi rfl,List.getD_eq_getElem?_getD,List.getElem?_eq_getElem hi];rfl
theorem mem_setK{l:List α}{r:Int}{z':α}(ho:l.Pairwise fun x y=>key x<key y)(hh:∃z∈l,key z=r)(z:α):z∈l.set (posK key l r) z'↔z=z'∨z∈l∧key z≠r:=by
 obtain ⟨y,hy,rfl⟩:=hh
 obtain ⟨i,hi,rfl⟩:=List.getElem_of_mem hy
 rw [posK_eq ho hi rfl,List.mem_iff_getElem]
 constructor
 ·rintro ⟨j,hj,rfl⟩
  rw [List.getElem_set]
  split
  ·exact .inl rfl
  ·rename_i hne
   have hj':j<l.length:=by simpa using hj
   refine .inr ⟨List.getElem_mem _,fun e=>?_⟩
   rcases Nat.lt_or_gt_of_ne hne with e'|e'
   ·have:=List.pairwise_iff_getElem.mp ho _ _ hi hj' e';omega
   ·have:=List.pairwise_iff_getElem.mp ho _ _ hj' hi e';omega
 ·rintro (rfl|⟨hz,hne⟩)
  ·exact ⟨i,by simpa using hi,by simp⟩
  ·obtain ⟨j,hj,rfl⟩:=List.getElem_of_mem hz
   refine ⟨j,by simpa using hj,?_⟩
   rw [List.getElem_set,if_neg]
   rintro rfl;exact hne rfl
theorem sort_setK{l:List α}{r:Int}{z':α}(ho:l.Pairwise fun x y=>key x<key y)(hh:∃z∈l,key z=r)(hk:key z'=r):(l.set (posK key l r) z').Pairwise fun x y=>key x<key y:=by
 obtain ⟨y,hy,rfl⟩:=hh
 obtain ⟨i,hi,rfl⟩:=List.getElem_of_mem hy
 rw [posK_eq ho hi rfl]
 have:(l.set i z').map key=l.map key:=by
  rw [List.map_set,hk]
  refine List.ext_getElem (by simp) fun j h1 h2=>?_
  rw [List.getElem_set]
  split
  ·rename_i e;subst e;simp
  ·rfl
 have h:=ho
 rw [←List.pairwise_map (f:=key) (R:=fun x y:Int=>x<y)] at h ⊢
 rw [this];exact h
theorem ins_setK{l:List α}{r:Int}{z0 z':α}(ho:l.Pairwise fun x y=>key x<key y)(hh:¬∃z∈l,key z=r)(hk:key z'=r) :
  ((l.take (posK key l r)++z0::l.drop (posK key l r)).set (posK key l r) z'=l.take (posK key l r)++z'::l.drop (posK key l r)) ∧
  (∀z,z∈l.take (posK key l r)++z'::l.drop (posK key l r)↔z=z'∨z∈l∧key z≠r)∧(l.take (posK key l r)++z'::l.drop (posK key l r)).Pairwise fun x y=>key x<key y:=by
 have hp:posK key l r≤l.length:=List.findIdx_le_length
 refine ⟨?_,fun z=>?_,?_⟩
 ·rw [List.set_append_right _ _ (by rw [List.length_take];omega)]
  simp [List.length_take,Nat.min_eq_left hp]
 ·rw [List.mem_append,List.mem_cons]
  constructor
  ·rintro (h|rfl|h)
   ·have:=List.mem_of_mem_take h;exact .inr ⟨this,fun e=>hh ⟨z,this,e⟩⟩
   ·exact .inl rfl
   ·have:=List.mem_of_mem_drop h;exact .inr ⟨this,fun e=>hh ⟨z,this,e⟩⟩
  ·rintro (rfl|⟨h,_⟩)
   ·exact .inr (.inl rfl)
   ·rw [←List.take_append_drop (posK key l r) l] at h
    rcases List.mem_append.mp h with h|h
    ·exact .inl h
    ·exact .inr (.inr h)
 ·have h1:∀x∈l.take (posK key l r),key x<r:=fun x hx=>by
   obtain ⟨i,hi,rfl⟩:=List.getElem_of_mem hx
   rw [List.getElem_take]
   simp only [List.length_take] at hi
   exact posK_lt (by omega) _
  have h2:∀x∈l.drop (posK key l r),r<key x:=fun x hx=>by
   have hm:=List.mem_of_mem_drop hx
   obtain ⟨i,hi,rfl⟩:=List.getElem_of_mem hx
   rw [List.getElem_drop]
   simp only [List.length_drop] at hi
   have h3:=posK_ge ho (r:=r) (i:=posK key l r+i) (by omega) (by omega)
   have h4:key l[posK key l r+i]≠r:=fun e=>hh ⟨_,List.getElem_mem _,e⟩
   omega
  refine List.pairwise_append.mpr ⟨ho.sublist (List.take_sublist _ _),List.pairwise_cons.mpr ⟨fun y hy=>by rw [hk];exact h2 y hy,ho.sublist (List.drop_sublist _ _)⟩,fun x hx y hy=>?_⟩
  have:=h1 x hx
  rcases List.mem_cons.mp hy with rfl|hy
  ·omega
  ·have:=h2 y hy;omega
end
def gOf(l:List Hrd)(r:Int):Hrd:=(base l r).getD (posH l r) hrd0
def pOf(l:List Per)(r:Int):Per:=l.getD (posP l r) ⟨0,0,0⟩
theorem hitH_iff{l:List Hrd}{r:Int}(ho:l.Pairwise fun x y=>x.router<y.router):hitH l r↔∃z∈l,z.router=r:=hitK_iff (key:=Hrd.router) ho
theorem hitP_iff{l:List Per}{r:Int}(ho:l.Pairwise fun x y=>x.router<y.router):hitP l r↔∃z∈l,z.router=r:=hitK_iff (key:=Per.router) ho
theorem gOf_mem{l:List Hrd}{z:Hrd}(ho:l.Pairwise fun x y=>x.router<y.router)(hz:z∈l):gOf l z.router=z:=by
 unfold gOf base
 rw [if_pos ((hitH_iff ho).mpr ⟨z,hz,rfl⟩)]
 exact atK_eq (key:=Hrd.router) ho hz
theorem insAt_cons{α:Type}(l:List α)(i:Nat)(x:α):insAt l i x=l.take i++x::l.drop i:=by
 simp [insAt]
theorem gOf_no{l:List Hrd}{r:Int}(ho:l.Pairwise fun x y=>x.router<y.router)(h:¬∃z∈l,z.router=r):gOf l r=⟨r,0,0,[]⟩:=by
 unfold gOf base
 rw [if_neg (fun q=>h ((hitH_iff ho).mp q)),insAt_cons]
 have hp:posH l r≤l.length:=List.findIdx_le_length
 rw [List.getD_eq_getElem?_getD,List.getElem?_append_right (by rw [List.length_take];omega)]
 simp [List.length_take,Nat.min_eq_left hp]
theorem pOf_mem{l:List Per}{z:Per}(ho:l.Pairwise fun x y=>x.router<y.router)(hz:z∈l):pOf l z.router=z:=atK_eq (key:=Per.router) ho hz
theorem gOf_router{l:List Hrd}{r:Int}(ho:l.Pairwise fun x y=>x.router<y.router):(gOf l r).router=r:=by
 by_cases h:∃z∈l,z.router=r
 ·obtain ⟨z,hz,rfl⟩:=h;rw [gOf_mem ho hz]
 ·rw [gOf_no ho h]
def hearG(g:Hrd)(x:Sig):Hrd:=hear1 (hear0 g x) x
theorem hearG_router{g:Hrd}{x:Sig}(h:g.router=x.src):(hearG g x).router=x.src:=by
 unfold hearG hear1 hear0
 split<;>split<;>simp [h]
structure Hears (l l':Lsn) (x y:Sig):Prop where
  router:l'.router=l.router
  epoch:l'.epoch=l.epoch
  mem:∀z,z∈l'.heard↔z=hearG (gOf l.heard x.src) x∨z∈l.heard∧z.router≠x.src
  ans:y=⟨3,l.router,x.src,(hearG (gOf l.heard x.src) x).epoch,(hearG (gOf l.heard x.src) x).ver,0,l.epoch,0,0,[]⟩
  ok:lsnOk l'
theorem hearG_ok{g:Hrd}{x:Sig}(hg:itmsOk g.ver g.items)(hv:0≤g.ver∧g.ver≤1000000)(he:0≤g.epoch∧g.epoch≤1000000)(hx:sigErr x=0)(hk:x.kind≠3) :
  (1≤(hearG g x).epoch∧(hearG g x).epoch≤1000000)∧(0≤(hearG g x).ver∧(hearG g x).ver≤1000000)∧itmsOk (hearG g x).ver (hearG g x).items:=by
 obtain ⟨s1,s2,s3⟩:=sig_told hx hk
 have key:∀h:Hrd,(1≤h.epoch∧h.epoch≤1000000)→(0≤h.ver∧h.ver≤1000000)→itmsOk h.ver h.items→(1≤(hear1 h x).epoch∧(hear1 h x).epoch≤1000000)∧(0≤(hear1 h x).ver∧(hear1 h x).ver≤1000000)∧itmsOk (hear1 h x).ver (hear1 h x).items:=by
  intro h h1 h2 h3
  unfold hear1
  split
  ·rename_i c
   obtain ⟨t1,t2,t3⟩:=s3 c.1
   exact ⟨h1,s2,h3.put (x:=sigItm x) c.2.2.2 t1 t2 t3⟩
  ·exact ⟨h1,h2,h3⟩
 unfold hearG hear0
 split
 ·exact key _ s1 ⟨by simp,by simp⟩ ⟨fun y hy=>by simp at hy,by simp,List.Pairwise.nil⟩
 ·exact key _ ⟨by omega,he.2⟩ hv hg
theorem gOf_ok{l:Lsn}(hl:lsnOk l)(r:Int):itmsOk (gOf l.heard r).ver (gOf l.heard r).items∧(0≤(gOf l.heard r).ver∧(gOf l.heard r).ver≤1000000)∧(0≤(gOf l.heard r).epoch∧(gOf l.heard r).epoch≤1000000):=by
 by_cases h:∃z∈l.heard,z.router=r
 ·obtain ⟨z,hz,rfl⟩:=h
  rw [gOf_mem hl.2.2.2.2 hz]
  obtain ⟨k1,k2,k3,k4,k5⟩:=hl.2.2.2.1 z hz
  exact ⟨k5,k4,by omega,k3.2⟩
 ·rw [gOf_no hl.2.2.2.2 h]
  exact ⟨⟨fun y hy=>by simp at hy,by simp,List.Pairwise.nil⟩,⟨by simp,by simp⟩,by simp,by simp⟩
theorem sig_ends{x:Sig}(hx:sigErr x=0):sigEnds x:=by
 unfold sigErr at hx
 split at hx
 ·omega
 split at hx
 ·omega
 rename_i h;exact (Classical.not_not.mp h).1
theorem hear_val{l:Lsn}{x:Sig}(hl:lsnOk l)(hx:sigErr x=0)(hk:x.kind≠3)(hd:x.dst=l.router)(hn:(∃z∈l.heard,z.router=x.src)∨l.heard.length<12) :
  (hear l x).2=0∧Hears l (hear l x).1.1 x (hear l x).1.2:=by
 obtain ⟨g1,g2,g3⟩:=gOf_ok hl x.src
 obtain ⟨l1,l2,l3,l4,l5⟩:=hl
 obtain ⟨k1,k2,k3⟩:=hearG_ok g1 g2 g3 hx hk
 have hr:=hearG_router (x:=x) (gOf_router l5)
 obtain ⟨e1,e2,e3⟩:=sig_ends hx
 have hH:hearH l.heard x=hearG (gOf l.heard x.src) x:=rfl
 have hc:¬(¬hitH l.heard x.src∧l.heard.length=12):=by
  rintro ⟨q1,q2⟩
  rcases hn with q|q
  ·exact q1 ((hitH_iff l5).mpr q)
  ·omega
 have e:hear l x=((⟨l.router,l.epoch,(base l.heard x.src).set (posH l.heard x.src) (hearG (gOf l.heard x.src) x)⟩,
  ⟨3,l.router,x.src,(hearG (gOf l.heard x.src) x).epoch,(hearG (gOf l.heard x.src) x).ver,0,l.epoch,0,0,[]⟩),0):=by
  unfold hear
  rw [if_neg (not_not_intro ⟨l1,l2,l3,l4,l5⟩),if_neg (not_not_intro hx),if_neg (by rintro (q|q);exact hk q;exact q hd),if_neg hc,hH]
 rw [e]
 have key:(∀z,z∈(base l.heard x.src).set (posH l.heard x.src) (hearG (gOf l.heard x.src) x)↔z=hearG (gOf l.heard x.src) x∨z∈l.heard∧z.router≠x.src) ∧
   ((base l.heard x.src).set (posH l.heard x.src) (hearG (gOf l.heard x.src) x)).Pairwise (fun x y=>x.router<y.router)∧((base l.heard x.src).set (posH l.heard x.src) (hearG (gOf l.heard x.src) x)).length≤12:=by
  by_cases h:∃z∈l.heard,z.router=x.src
  ·have hb:base l.heard x.src=l.heard:=if_pos ((hitH_iff l5).mpr h)
   rw [hb]
   exact ⟨mem_setK (key:=Hrd.router) l5 h,sort_setK (key:=Hrd.router) l5 h hr,by simpa using l3⟩
  ·have hb:base l.heard x.src=l.heard.take (posH l.heard x.src)++⟨x.src,0,0,[]⟩::l.heard.drop (posH l.heard x.src):=by
    unfold base
    rw [if_neg fun q=>h ((hitH_iff l5).mp q),insAt_cons]
   rw [hb]
   obtain ⟨q1,q2,q3⟩:=ins_setK (key:=Hrd.router) (z0:=⟨x.src,0,0,[]⟩) l5 h hr
   have q1:(l.heard.take (posH l.heard x.src)++⟨x.src,0,0,[]⟩::l.heard.drop (posH l.heard x.src)).set (posH l.heard x.src) (hearG (gOf l.heard x.src) x)=l.heard.take (posH l.heard x.src)++hearG (gOf l.heard x.src) x::l.heard.drop (posH l.heard x.src):=q1
   rw [q1]
   refine ⟨q2,q3,?_⟩
   have:=hn.resolve_left h
   simp only [List.length_append,List.length_cons,List.length_take,List.length_drop];omega
 obtain ⟨m1,m2,m3⟩:=key
 refine ⟨rfl,rfl,rfl,m1,rfl,l1,l2,m3,fun z hz=>?_,m2⟩
 rcases (m1 z).mp hz with rfl|⟨hz,_⟩
 ·exact ⟨by rw [hr];exact e1,by rw [hr,←hd];exact e3,k1,k2,k3⟩
 ·exact l4 z hz
theorem Hears.self{l l':Lsn}{x y:Sig}(hl:lsnOk l)(h:Hears l l' x y):gOf l'.heard x.src=hearG (gOf l.heard x.src) x:=by
 have:=gOf_mem h.ok.2.2.2.2 ((h.mem _).mpr (.inl rfl))
 rw [hearG_router (gOf_router hl.2.2.2.2)] at this
 exact this
theorem Hears.other{l l':Lsn}{x y:Sig}(hl:lsnOk l)(h:Hears l l' x y){r:Int}(hr:r≠x.src):gOf l'.heard r=gOf l.heard r:=by
 by_cases e:∃z∈l.heard,z.router=r
 ·obtain ⟨z,hz,rfl⟩:=e
  rw [gOf_mem hl.2.2.2.2 hz,gOf_mem h.ok.2.2.2.2 ((h.mem z).mpr (.inr ⟨hz,hr⟩))]
 ·rw [gOf_no hl.2.2.2.2 e,gOf_no h.ok.2.2.2.2]
  rintro ⟨z,hz,rfl⟩
  rcases (h.mem z).mp hz with rfl|⟨hz,_⟩
  ·exact hr (hearG_router (gOf_router hl.2.2.2.2))
  ·exact e ⟨z,hz,rfl⟩
structure Acks (a a':Spk) (x:Sig):Prop where
  router:a'.router=a.router
  epoch:a'.epoch=a.epoch
  last:a'.last=a.last
  items:a'.items=a.items
  mem:∀z,z∈a'.peers↔z=ackP a x (pOf a.peers x.src)∨z∈a.peers∧z.router≠x.src
  ok:spkOk a'
  routers:a'.peers.map Per.router=a.peers.map Per.router
theorem ack_val{a:Spk}{x:Sig}(ha:spkOk a)(hx:sigErr x=0)(hk:x.kind=3)(hd:x.dst=a.router)(hh:∃z∈a.peers,z.router=x.src):(ack a x).2=0∧Acks a (ack a x).1 x:=by
 obtain ⟨p1,p2,p3,p4,p5,p6,p7⟩:=ha
 have hhit:=(hitP_iff p7).mpr hh
 have e:ack a x=(⟨a.router,a.epoch,a.last,a.items,a.peers.set (posP a.peers x.src) (ackP a x (pOf a.peers x.src))⟩,0):=by
  unfold ack
  rw [if_neg (not_not_intro ⟨p1,p2,p3,p4,p5,p6,p7⟩),if_neg (not_not_intro hx),if_neg (by rintro (q|q);exact q hk;exact q hd),if_neg (not_not_intro hhit)]
  rfl
 rw [e]
 obtain ⟨z,hz,hzr⟩:=hh
 have hp:pOf a.peers x.src=z:=by rw [←hzr];exact pOf_mem p7 hz
 obtain ⟨k1,k2⟩:=ackP_ok (p6 z hz) p3.1 hx hk
 rw [hp]
 have hr:(ackP a x z).router=x.src:=k2.trans hzr
 have m1:=mem_setK (key:=Per.router) (z':=ackP a x z) p7 ⟨z,hz,hzr⟩
 have m2:=sort_setK (key:=Per.router) (z':=ackP a x z) p7 ⟨z,hz,hzr⟩ hr
 refine ⟨rfl,rfl,rfl,rfl,rfl,by rw [hp];exact m1,⟨p1,p2,p3,p4,by simpa using p5,fun y hy=>?_,m2⟩,?_⟩
 ·rcases (m1 y).mp hy with rfl|⟨hy,_⟩
  ·exact k1
  ·exact p6 y hy
 ·obtain ⟨i,hi,rfl⟩:=List.getElem_of_mem hz
  have hpos:posP a.peers x.src=i:=posK_eq (key:=Per.router) p7 hi hzr
  simp only [hpos]
  rw [List.map_set,k2]
  refine List.ext_getElem (by simp) fun j h1 h2=>?_
  rw [List.getElem_set]
  split
  ·rename_i e;subst e;simp
  ·rfl
theorem Acks.self{a a':Spk}{x:Sig}(ha:spkOk a)(hh:∃z∈a.peers,z.router=x.src)(h:Acks a a' x):pOf a'.peers x.src=ackP a x (pOf a.peers x.src):=by
 obtain ⟨z,hz,hzr⟩:=hh
 have hp:pOf a.peers x.src=z:=by rw [←hzr];exact pOf_mem ha.2.2.2.2.2.2 hz
 have:=pOf_mem h.ok.2.2.2.2.2.2 ((h.mem _).mpr (.inl rfl))
 rw [←this,hp]
 congr 1
 unfold ackP
 split
 ·exact hzr.symm
 split<;>exact hzr.symm
theorem Acks.other{a a':Spk}{x:Sig}(ha:spkOk a)(h:Acks a a' x){r:Int}(hr:r≠x.src)(hh:∃z∈a.peers,z.router=r):pOf a'.peers r=pOf a.peers r:=by
 obtain ⟨z,hz,rfl⟩:=hh
 rw [pOf_mem ha.2.2.2.2.2.2 hz,pOf_mem h.ok.2.2.2.2.2.2 ((h.mem z).mpr (.inr ⟨hz,hr⟩))]
structure TellOk (e n:Int) (it:List Itm) (x:Sig):Prop where
  ep:x.epoch≤e
  upd:x.kind=2→x.epoch=e→UpdOk n it x
section
variable {e n : Int} {it : List Itm} {p : Per} {le : Int} {g : Hrd} {x : Sig}
def hearL(g:Hrd)(l:List Sig):Hrd:=l.foldl hearG g
end
def within(n lo hi:Int):Bool:=decide (lo≤n∧n≤hi)
def codeE(v:Bool):Int:=if v then 0 else 1
def within_a(n:Int)(lo:Int)(hi:Int):Prop:=okL [.int n,.int lo,.int hi]
def within_e(r:Bool):AV:=.bool r
def within_x(n:Int)(lo:Int)(hi:Int):Ax Tryz.prog noS (Bool):=
 (.br 80 (decide (lo≤n)) (.ret (decide (n≤hi)))
(.ret (false)))
def within_vc(n:Int)(lo:Int)(hi:Int)(r0:Bool):Prop:=(within_x n lo hi).vp within_e r0
theorem within_p(n lo hi:Int)(ok:within_a n lo hi):within_vc n lo hi (within n lo hi):=by
 dsimp only [within_vc,within_x,noS,Ax.vp,Ax.vc];simp only [vcU,rfU,List.length_map]
 refine ⟨fun h=>by simp [within,h],fun h=>by simp [within,h]⟩
def within_c(n:Int)(lo:Int)(hi:Int):PC Tryz.prog:=⟨137,[.k,.k,.k],[.int n,.int lo,.int hi],within_e (within n lo hi),PSpec.of_ok fun ok=>mxP_of (sh:=.k) (enc:=within_e) (a:=(within_x n lo hi).an) (within_p n lo hi ok) (by kernel_rfl) (AV.pureB_ok rfl),fnB_ok (by kernel_rfl)⟩
def codeE_a(valid:Bool):Prop:=okL [.bool valid]
def codeE_e(r:Int):AV:=.int r
def codeE_x(valid:Bool):Ax Tryz.prog noS (Int):=
 (.br 32 valid (.ret (0))
(.ret (1)))
def codeE_vc(valid:Bool)(r0:Int):Prop:=(codeE_x valid).vp codeE_e r0
theorem codeE_p(v:Bool)(ok:codeE_a v):codeE_vc v (codeE v):=by
 dsimp only [codeE_vc,codeE_x,noS,Ax.vp,Ax.vc];simp only [vcU,rfU,List.length_map]
 cases v<;>simp [codeE]
def codeE_c(valid:Bool):PC Tryz.prog:=⟨138,[.k],[.bool valid],codeE_e (codeE valid),PSpec.of_ok fun ok=>mxP_of (sh:=.k) (enc:=codeE_e) (a:=(codeE_x valid).an) (codeE_p valid ok) (by kernel_rfl) (AV.pureB_ok rfl),fnB_ok (by kernel_rfl)⟩
def keyI(x:Itm):Int:=x.ver
def keyP(x:Per):Int:=x.router
def keyH(x:Hrd):Int:=x.router
def keyI_a(x:Itm):Prop:=okL [.agg [.int x.ver,.int x.grp,.int x.mode,.sl 1 (x.srcs.map AV.int) false]]
def keyI_e(r:Int):AV:=.int r
def keyI_x(x:Itm):Ax Tryz.prog noS (Int):=
 (.ret (x.ver))
def keyI_vc(x:Itm)(r0:Int):Prop:=(keyI_x x).vp keyI_e r0
theorem keyI_p(x:Itm)(ok:keyI_a x):keyI_vc x (keyI x):=by
 dsimp only [keyI_vc,keyI_x,noS,Ax.vp,Ax.vc];simp only [vcU,rfU,List.length_map]
 rfl
def keyI_c(x:Itm):PC Tryz.prog:=⟨154,[(.a [.k,.k,.k,(.s 1)])],[.agg [.int x.ver,.int x.grp,.int x.mode,.sl 1 (x.srcs.map AV.int) false]],keyI_e (keyI x),PSpec.of_ok fun ok=>mxP_of (sh:=.k) (enc:=keyI_e) (a:=(keyI_x x).an) (keyI_p x ok) (by kernel_rfl) (AV.pureB_ok rfl),fnB_ok (by kernel_rfl)⟩
def keyP_a(p:Per):Prop:=okL [.agg [.int p.router,.int p.epoch,.int p.acked]]
def keyP_e(r:Int):AV:=.int r
def keyP_x(p:Per):Ax Tryz.prog noS (Int):=
 (.ret (p.router))
def keyP_vc(p:Per)(r0:Int):Prop:=(keyP_x p).vp keyP_e r0
theorem keyP_p(x:Per)(ok:keyP_a x):keyP_vc x (keyP x):=by
 dsimp only [keyP_vc,keyP_x,noS,Ax.vp,Ax.vc];simp only [vcU,rfU,List.length_map]
 rfl
def keyP_c(p:Per):PC Tryz.prog:=⟨140,[.k],[.agg [.int p.router,.int p.epoch,.int p.acked]],keyP_e (keyP p),PSpec.of_ok fun ok=>mxP_of (sh:=.k) (enc:=keyP_e) (a:=(keyP_x p).an) (keyP_p p ok) (by kernel_rfl) (AV.pureB_ok rfl),fnB_ok (by kernel_rfl)⟩
def keyH_a(h_:Hrd):Prop:=okL [.agg [.int h_.router,.int h_.epoch,.int h_.ver,.sl 4 (h_.items.map Itm.v) false]]
def keyH_e(r:Int):AV:=.int r
def keyH_x(h_:Hrd):Ax Tryz.prog noS (Int):=
 (.ret (h_.router))
def keyH_vc(h_:Hrd)(r0:Int):Prop:=(keyH_x h_).vp keyH_e r0
theorem keyH_p(x:Hrd)(ok:keyH_a x):keyH_vc x (keyH x):=by
 dsimp only [keyH_vc,keyH_x,noS,Ax.vp,Ax.vc];simp only [vcU,rfU,List.length_map]
 rfl
def keyH_c(h_:Hrd):PC Tryz.prog:=⟨142,[(.a [.k,.k,.k,(.s 4)])],[.agg [.int h_.router,.int h_.epoch,.int h_.ver,.sl 4 (h_.items.map Itm.v) false]],keyH_e (keyH h_),PSpec.of_ok fun ok=>mxP_of (sh:=.k) (enc:=keyH_e) (a:=(keyH_x h_).an) (keyH_p h_ ok) (by kernel_rfl) (AV.pureB_ok rfl),fnB_ok (by kernel_rfl)⟩
def ascB{α:Type}(key:α→Int)(l:List α):Bool:=decide (l.Pairwise fun x y=>key x<key y)
theorem pw_adj{α:Type}{key:α→Int}{l:List α}(h:∀j x y,l[j]?=some x→l[j+1]?=some y→key x<key y):l.Pairwise fun x y=>key x<key y:=by
 have step:∀d i x y,l[i]?=some x→l[i+1+d]?=some y→key x<key y:=by
  intro d
  induction d with
  | zero=>exact h
  | succ d ih =>
   intro i x y hx hy
   have hz:=List.getElem?_eq_getElem (show i+1+d<l.length by have:=lt_of_get hy;omega)
   have h1:=ih i x _ hx hz
   have h2:=h (i+1+d) _ y hz hy
   omega
 rw [List.pairwise_iff_getElem]
 intro i j hi hj hij
 exact step (j-i-1) i _ _ (List.getElem?_eq_getElem hi) (by rw [show i+1+(j-i-1)=j by omega];exact List.getElem?_eq_getElem hj)
theorem pw_get{α:Type}{R:α→α→Prop}{l:List α}(h:l.Pairwise R){i j:Nat}{x y:α}(hij:i<j)(hx:l[i]?=some x)(hy:l[j]?=some y):R x y:=by
 have hi:=lt_of_get hx
 have hj:=lt_of_get hy
 have:=List.pairwise_iff_getElem.mp h i j hi hj hij
 rw [List.getElem?_eq_getElem hi] at hx;rw [List.getElem?_eq_getElem hj] at hy
 rw [←Option.some.inj hx,←Option.some.inj hy];exact this
def ascI_a(l:(List Itm)):Prop:=okL [.sl 4 (l.map Itm.v) false,.func 154 []]
def ascI_n0(l:(List Itm))(t0:Int):NF:=⟨[(0,.k,.sl 4 (l.map Itm.v) false),(1,.k,.func 154 []),(5,.k,.int t0)],[]⟩
@[reducible] def ascI_s:Nat→Type
 | 0=>Int
 | _=>Unit
def ascI_e(r:Bool):AV:=.bool r
def ascI_x(l:(List Itm))(I0:Int→Prop)(m0:Int→Nat):Ax Tryz.prog ascI_s (Bool):=
 (.loop 0 (ascI_n0 l) I0 m0 ((1):Int) [] fun (t0:Int) b0 =>
(.br 64 (decide (t0<((l.map Itm.v).length:Int))) (.el 128 Itm.v l (fun R=>Rf (l.map Itm.v) (ck (decide (0≤(W (t0-1)))) (ck (decide ((W (t0-1))<(l.length:Int)))
(∀x1,l[(W (t0-1)).toNat]?=some x1 →
(R x1))))) fun x1 =>
(.callP (keyI_c x1)
(.el 224 Itm.v l (fun R=>Rf (l.map Itm.v) (ck (decide (0≤t0)) (ck (decide (t0<(l.length:Int)))
(∀x2,l[t0.toNat]?=some x2 →
(R x2))))) fun x2 =>
(.callP (keyI_c x2)
(.br 288 (decide (x2.ver≤x1.ver)) (.ret (false))
(.bk 0 b0 ((W (t0+1)):Int) []))))))
(.ret (true))))
def ascI_vc(l:(List Itm))(I0:Int→Prop)(m0:Int→Nat)(r0:Bool):Prop:=(ascI_x l I0 m0).vp ascI_e r0
theorem ascI_p(l:List Itm)(ok:ascI_a l):∃I m,ascI_vc l I m (ascB Itm.ver l):=by
 simp only [ascI_a,okU,Blk.ok,plainV,List.length_map] at ok
 refine ⟨fun t=>∃k:Nat,t=k∧1≤k∧k≤l.length+1∧∀j x y,j+1<k→l[j]?=some x→l[j+1]?=some y→Itm.ver x<Itm.ver y,fun t=>l.length+1-t.toNat,?_⟩
 dsimp only [ascI_vc,ascI_x,ascI_s,Ax.vp,Ax.vc];simp only [vcU,rfU,List.length_map]
 refine ⟨⟨1,rfl,by omega,by omega,fun j x y hj=>by omega⟩,?_⟩
 rintro _ ⟨k,rfl,hk1,hk,h⟩
 refine ⟨fun h1=>?_,fun h1=>?_⟩
 ·rw [W_pred (by omega) hk1]
  simp only [Int.toNat_natCast]
  refine ⟨by omega,by omega,fun x hx=>⟨by omega,by omega,fun y hy=>⟨fun e=>?_,fun e=>?_⟩⟩⟩
  ·refine (decide_eq_false fun hp=>?_).symm
   have:Itm.ver x<Itm.ver y:=pw_get hp (show k-1<k by omega) hx hy
   omega
  ·rw [W_succ (n:=l.length) (by omega) (by omega)]
   refine ⟨⟨k+1,rfl,by omega,by omega,fun j x' y' hj hx' hy'=>?_⟩,by omega⟩
   by_cases e':j+1=k
   ·subst e'
    rw [show j+1-1=j by omega,hx'] at hx;cases hx
    rw [hy'] at hy;cases hy;omega
   ·exact h j x' y' (by omega) hx' hy'
 ·exact (decide_eq_true (pw_adj fun j x y hx hy=>h j x y (by have:=lt_of_get hy;omega) hx hy)).symm
def ascI_c(l:(List Itm)):PC Tryz.prog:=⟨153,[(.s 4),.k],[.sl 4 (l.map Itm.v) false,.func 154 []],ascI_e (ascB Itm.ver l),PSpec.of_ok fun ok=>(ascI_p l ok).elim fun I0 h=>h.elim fun m0 h=>mxP_of (sh:=.k) (enc:=ascI_e) (a:=(ascI_x l I0 m0).an) h (by kernel_rfl) (AV.pureB_ok rfl),fnB_ok (by kernel_rfl)⟩
def ascP_a(l:(List Per)):Prop:=okL [.sl 3 (l.map Per.v) false,.func 140 []]
def ascP_n0(l:(List Per))(t0:Int):NF:=⟨[(0,.k,.sl 3 (l.map Per.v) false),(1,.k,.func 140 []),(5,.k,.int t0)],[]⟩
@[reducible] def ascP_s:Nat→Type
 | 0=>Int
 | _=>Unit
def ascP_e(r:Bool):AV:=.bool r
def ascP_x(l:(List Per))(I0:Int→Prop)(m0:Int→Nat):Ax Tryz.prog ascP_s (Bool):=
 (.loop 0 (ascP_n0 l) I0 m0 ((1):Int) [] fun (t0:Int) b0 =>
(.br 64 (decide (t0<((l.map Per.v).length:Int))) (.el 128 Per.v l (fun R=>Rf (l.map Per.v) (ck (decide (0≤(W (t0-1)))) (ck (decide ((W (t0-1))<(l.length:Int)))
(∀x1,l[(W (t0-1)).toNat]?=some x1 →
(R x1))))) fun x1 =>
(.callP (keyP_c x1)
(.el 224 Per.v l (fun R=>Rf (l.map Per.v) (ck (decide (0≤t0)) (ck (decide (t0<(l.length:Int)))
(∀x2,l[t0.toNat]?=some x2 →
(R x2))))) fun x2 =>
(.callP (keyP_c x2)
(.br 288 (decide (x2.router≤x1.router)) (.ret (false))
(.bk 0 b0 ((W (t0+1)):Int) []))))))
(.ret (true))))
def ascP_vc(l:(List Per))(I0:Int→Prop)(m0:Int→Nat)(r0:Bool):Prop:=(ascP_x l I0 m0).vp ascP_e r0
theorem ascP_p(l:List Per)(ok:ascP_a l):∃I m,ascP_vc l I m (ascB Per.router l):=by
 simp only [ascP_a,okU,Blk.ok,plainV,List.length_map] at ok
 refine ⟨fun t=>∃k:Nat,t=k∧1≤k∧k≤l.length+1∧∀j x y,j+1<k→l[j]?=some x→l[j+1]?=some y→Per.router x<Per.router y,fun t=>l.length+1-t.toNat,?_⟩
 dsimp only [ascP_vc,ascP_x,ascP_s,Ax.vp,Ax.vc];simp only [vcU,rfU,List.length_map]
 refine ⟨⟨1,rfl,by omega,by omega,fun j x y hj=>by omega⟩,?_⟩
 rintro _ ⟨k,rfl,hk1,hk,h⟩
 refine ⟨fun h1=>?_,fun h1=>?_⟩
 ·rw [W_pred (by omega) hk1]
  simp only [Int.toNat_natCast]
  refine ⟨by omega,by omega,fun x hx=>⟨by omega,by omega,fun y hy=>⟨fun e=>?_,fun e=>?_⟩⟩⟩
  ·refine (decide_eq_false fun hp=>?_).symm
   have:Per.router x<Per.router y:=pw_get hp (show k-1<k by omega) hx hy
   omega
  ·rw [W_succ (n:=l.length) (by omega) (by omega)]
   refine ⟨⟨k+1,rfl,by omega,by omega,fun j x' y' hj hx' hy'=>?_⟩,by omega⟩
   by_cases e':j+1=k
   ·subst e'
    rw [show j+1-1=j by omega,hx'] at hx;cases hx
    rw [hy'] at hy;cases hy;omega
   ·exact h j x' y' (by omega) hx' hy'
 ·exact (decide_eq_true (pw_adj fun j x y hx hy=>h j x y (by have:=lt_of_get hy;omega) hx hy)).symm
def ascP_c(l:(List Per)):PC Tryz.prog:=⟨139,[(.s 3),.k],[.sl 3 (l.map Per.v) false,.func 140 []],ascP_e (ascB Per.router l),PSpec.of_ok fun ok=>(ascP_p l ok).elim fun I0 h=>h.elim fun m0 h=>mxP_of (sh:=.k) (enc:=ascP_e) (a:=(ascP_x l I0 m0).an) h (by kernel_rfl) (AV.pureB_ok rfl),fnB_ok (by kernel_rfl)⟩
def ascH_a(l:(List Hrd)):Prop:=okL [.sl 4 (l.map Hrd.v) false,.func 142 []]
def ascH_n0(l:(List Hrd))(t0:Int):NF:=⟨[(0,.k,.sl 4 (l.map Hrd.v) false),(1,.k,.func 142 []),(5,.k,.int t0)],[]⟩
@[reducible] def ascH_s:Nat→Type
 | 0=>Int
 | _=>Unit
def ascH_e(r:Bool):AV:=.bool r
def ascH_x(l:(List Hrd))(I0:Int→Prop)(m0:Int→Nat):Ax Tryz.prog ascH_s (Bool):=
 (.loop 0 (ascH_n0 l) I0 m0 ((1):Int) [] fun (t0:Int) b0 =>
(.br 64 (decide (t0<((l.map Hrd.v).length:Int))) (.el 128 Hrd.v l (fun R=>Rf (l.map Hrd.v) (ck (decide (0≤(W (t0-1)))) (ck (decide ((W (t0-1))<(l.length:Int)))
(∀x1,l[(W (t0-1)).toNat]?=some x1 →
(R x1))))) fun x1 =>
(.callP (keyH_c x1)
(.el 224 Hrd.v l (fun R=>Rf (l.map Hrd.v) (ck (decide (0≤t0)) (ck (decide (t0<(l.length:Int)))
(∀x2,l[t0.toNat]?=some x2 →
(R x2))))) fun x2 =>
(.callP (keyH_c x2)
(.br 288 (decide (x2.router≤x1.router)) (.ret (false))
(.bk 0 b0 ((W (t0+1)):Int) []))))))
(.ret (true))))
def ascH_vc(l:(List Hrd))(I0:Int→Prop)(m0:Int→Nat)(r0:Bool):Prop:=(ascH_x l I0 m0).vp ascH_e r0
theorem ascH_p(l:List Hrd)(ok:ascH_a l):∃I m,ascH_vc l I m (ascB Hrd.router l):=by
 simp only [ascH_a,okU,Blk.ok,plainV,List.length_map] at ok
 refine ⟨fun t=>∃k:Nat,t=k∧1≤k∧k≤l.length+1∧∀j x y,j+1<k→l[j]?=some x→l[j+1]?=some y→Hrd.router x<Hrd.router y,fun t=>l.length+1-t.toNat,?_⟩
 dsimp only [ascH_vc,ascH_x,ascH_s,Ax.vp,Ax.vc];simp only [vcU,rfU,List.length_map]
 refine ⟨⟨1,rfl,by omega,by omega,fun j x y hj=>by omega⟩,?_⟩
 rintro _ ⟨k,rfl,hk1,hk,h⟩
 refine ⟨fun h1=>?_,fun h1=>?_⟩
 ·rw [W_pred (by omega) hk1]
  simp only [Int.toNat_natCast]
  refine ⟨by omega,by omega,fun x hx=>⟨by omega,by omega,fun y hy=>⟨fun e=>?_,fun e=>?_⟩⟩⟩
  ·refine (decide_eq_false fun hp=>?_).symm
   have:Hrd.router x<Hrd.router y:=pw_get hp (show k-1<k by omega) hx hy
   omega
  ·rw [W_succ (n:=l.length) (by omega) (by omega)]
   refine ⟨⟨k+1,rfl,by omega,by omega,fun j x' y' hj hx' hy'=>?_⟩,by omega⟩
   by_cases e':j+1=k
   ·subst e'
    rw [show j+1-1=j by omega,hx'] at hx;cases hx
    rw [hy'] at hy;cases hy;omega
   ·exact h j x' y' (by omega) hx' hy'
 ·exact (decide_eq_true (pw_adj fun j x y hx hy=>h j x y (by have:=lt_of_get hy;omega) hx hy)).symm
def ascH_c(l:(List Hrd)):PC Tryz.prog:=⟨141,[(.s 4),.k],[.sl 4 (l.map Hrd.v) false,.func 142 []],ascH_e (ascB Hrd.router l),PSpec.of_ok fun ok=>(ascH_p l ok).elim fun I0 h=>h.elim fun m0 h=>mxP_of (sh:=.k) (enc:=ascH_e) (a:=(ascH_x l I0 m0).an) h (by kernel_rfl) (AV.pureB_ok rfl),fnB_ok (by kernel_rfl)⟩
def okItms(l:List Itm):Prop:=l.length≤900000∧∀x∈l,x.srcs.length≤1000000
def itemsB(l:List Itm)(last:Int):Bool:=decide (itmsOk last l)
def seenOk(l:List Itm)(s:List Bool):Prop:=s.length=100∧∀g,g<100→s[g]?=some (decide (∃x∈l,x.grp=(g:Nat)))
theorem seen_nil:seenOk [] (List.replicate 100 false):=⟨List.length_replicate,fun g hg=>by rw [List.getElem?_replicate,if_pos hg];simp⟩
theorem seen_add{l:List Itm}{s:List Bool}(h:seenOk l s){x:Itm}(hx:1≤x.grp∧x.grp≤99):seenOk (l++[x]) (s.set x.grp.toNat true):=by
 refine ⟨by simp [h.1],fun g hg=>?_⟩
 rw [List.getElem?_set]
 by_cases e:x.grp.toNat=g
 ·rw [if_pos e,if_pos (by have:=h.1;omega)]
  refine congrArg some (decide_eq_true ⟨x,by simp,by omega⟩).symm
 ·rw [if_neg e,h.2 g hg]
  refine congrArg some ?_
  refine decide_eq_decide.mpr ⟨fun ⟨y,hy,hg⟩=>⟨y,by simp [hy],hg⟩,fun ⟨y,hy,hg⟩=>?_⟩
  rcases List.mem_append.mp hy with hy|hy
  ·exact ⟨y,hy,hg⟩
  ·rw [List.mem_singleton] at hy;subst hy;omega
theorem nodup_add{l:List Itm}{x:Itm}(h:(l.map Itm.grp).Nodup)(hx:¬∃y∈l,y.grp=x.grp):((l++[x]).map Itm.grp).Nodup:=by
 rw [List.map_append,List.nodup_append]
 refine ⟨h,by simp,fun a ha b hb e=>?_⟩
 obtain ⟨y,hy,rfl⟩:=List.mem_map.mp ha
 simp at hb;subst hb
 exact hx ⟨y,hy,e⟩
def itemsB_a(l:(List Itm))(last:Int):Prop:=okL [.sl 4 (l.map Itm.v) false,.int last]
def itemsB_n0(l:(List Itm))(last:Int)(t0:Int×(List Bool)):NF:=⟨[(0,.k,.sl 4 (l.map Itm.v) false),(1,.k,.int last),(5,.k,.ref 0 0),(8,.k,.sl 4 (l.map Itm.v) false),(9,.k,.int ((l.map Itm.v).length:Int)),(10,.k,.int t0.1)],[.arr (t0.2.map AV.bool) (pureBL_map (fun _=>rfl) t0.2)]⟩
@[reducible] def itemsB_s:Nat→Type
 | 0=>Int×(List Bool)
 | _=>Unit
def itemsB_e(r:Bool):AV:=.bool r
def itemsB_x(l:(List Itm))(last:Int)(I0:(Int×(List Bool))→Prop)(m0:(Int×(List Bool))→Nat):Ax Tryz.prog itemsB_s (Bool):=
 (.loop 0 (itemsB_n0 l last) I0 m0 (0,List.replicate 100 false) [16] fun (t0:Int×(List Bool)) b0 =>
(.br 17 (decide (t0.1<((l.map Itm.v).length:Int))) (.el 17 Itm.v l (fun R=>Rf (l.map Itm.v) (ck (decide (0≤t0.1)) (ck (decide (t0.1<(l.length:Int)))
(∀x1,l[t0.1.toNat]?=some x1 →
(R x1))))) fun x1 =>
(.callP (within_c x1.ver 1 last)
(.br 177 (!(within x1.ver 1 last)) (.ret (false))
(.callP (within_c x1.grp 1 99)
(.br 273 (!(within x1.grp 1 99)) (.ret (false))
(.say (ck (cond (decide (0≤x1.grp)) (decide (x1.grp<100)) false)) (.el 321 AV.bool t0.2 (fun R=>Rf (t0.2.map AV.bool) (ck (decide ((0+(x1.grp.toNat * 1))<t0.2.length))
(∀x2,t0.2[(0+(x1.grp.toNat * 1))]?=some x2 →
(R x2)))) fun x2 =>
(.br 369 x2 (.ret (false))
(.callP (PVal_c (⟨x1.mode,x1.srcs⟩:Flt))
(.br 449 ((fltErr (⟨x1.mode,x1.srcs⟩:Flt).mode (⟨x1.mode,x1.srcs⟩:Flt).srcs) != 0) (.ret (false))
(.say (ck (cond (decide (0≤x1.grp)) (decide (x1.grp<100)) false)) (.st 497 AV.bool t0.2 (fun _=>true) (fun R=>Rf (t0.2.map AV.bool) (ck (decide ((0+(x1.grp.toNat * 1))<t0.2.length))
(∀y3,t0.2[(0+(x1.grp.toNat * 1))]?=some y3→Rf (AV.bool true)
((R y3))))) fun y3 =>
(.bk 0 b0 (W (t0.1+1),t0.2.set (0+(x1.grp.toNat * 1)) true) [0])))))))))))))
(.callP (ascI_c l)
(.ret (ascB Itm.ver l)))))
def itemsB_vc(l:(List Itm))(last:Int)(I0:(Int×(List Bool))→Prop)(m0:(Int×(List Bool))→Nat)(r0:Bool):Prop:=(itemsB_x l last I0 m0).vp itemsB_e r0
theorem itemsB_p(l:List Itm)(last:Int)(ok:itemsB_a l last):∃I m,itemsB_vc l last I m (itemsB l last):=by
 simp only [itemsB_a,okU,Blk.ok,plainV,List.length_map] at ok
 refine ⟨fun t=>∃k:Nat,t.1=k∧k≤l.length∧seenOk (l.take k) t.2∧(∀x∈l.take k,itmOk last x)∧((l.take k).map Itm.grp).Nodup,fun t=>l.length-t.1.toNat,?_⟩
 dsimp only [itemsB_vc,itemsB_x,itemsB_s,Ax.vp,Ax.vc];simp only [vcU,rfU,List.length_map]
 refine ⟨⟨0,rfl,by omega,seen_nil,by simp,by simp⟩,?_⟩
 rintro ⟨_,s⟩ ⟨k,rfl,hk,hs,hi,hn⟩
 simp only [Int.toNat_natCast,Nat.zero_add,Nat.mul_one] at hs ⊢
 refine ⟨fun h1=>⟨by omega,by omega,fun x hx=>?_⟩,fun h1=>?_⟩
 ·have hm:=mem_of_get hx
  have bad:¬itmOk last x→false=itemsB l last:=fun h=>(decide_eq_false fun e=>h (e.1 x hm)).symm
  refine ⟨fun e=>bad fun e'=>?_,fun e1=>⟨fun e=>bad fun e'=>?_,fun e2=>?_⟩⟩
  ·simp [within] at e;have:=e'.1;omega
  ·simp [within] at e;have:=e'.2.1;omega
  have hv:1≤x.ver∧x.ver≤last:=by simpa [within] using e1
  have hg:1≤x.grp∧x.grp≤99:=by simpa [within] using e2
  have hg2:(bif decide (0≤x.grp) then decide (x.grp<100) else false)=true:=by simp;omega
  have hsl:=hs.1
  refine ⟨hg2,by omega,fun b hb=>?_⟩
  rw [hs.2 _ (by omega)] at hb
  have hb:=Option.some.inj hb
  have hex:(∃y∈l.take k,y.grp=((x.grp.toNat:Nat):Int))↔∃y∈l.take k,y.grp=x.grp:=by rw [show ((x.grp.toNat:Nat):Int)=x.grp by omega]
  refine ⟨fun e3=>?_,fun e3=>⟨fun e=>bad fun e'=>?_,fun e4=>⟨hg2,by omega,fun y hy=>?_⟩⟩⟩
  ·rw [e3] at hb
   obtain ⟨y,hy,hyx⟩:=hex.mp (of_decide_eq_true hb)
   refine (decide_eq_false fun e=>?_).symm
   obtain ⟨j,hj,rfl⟩:=List.mem_take_iff_getElem.mp hy
   have:=pw_get (R:=fun a b=>a≠b) e.2.1 (i:=j) (j:=k) (by omega) (by rw [List.getElem?_map,List.getElem?_eq_getElem (by omega)];rfl) (by rw [List.getElem?_map,hx];rfl)
   exact this hyx
  ·have:=e'.2.2;simp [this] at e
  ·have hf:fltErr x.mode x.srcs=0:=by simpa using e4
   rw [e3] at hb
   have hne:=fun h=>of_decide_eq_false hb (hex.mpr h)
   rw [W_succ (n:=l.length) (by omega) (by omega)]
   refine ⟨⟨k+1,rfl,by omega,?_,?_,?_⟩,by omega⟩
   ·rw [take_succ hx];exact seen_add hs hg
   ·rw [take_succ hx]
    intro z hz
    rcases List.mem_append.mp hz with hz|hz
    ·exact hi z hz
    ·rw [List.mem_singleton] at hz;subst hz;exact ⟨hv,hg,hf⟩
   ·rw [take_succ hx];exact nodup_add hn hne
 ·rw [List.take_of_length_le (by omega)] at hi hn
  simp only [ascB,itemsB,itmsOk]
  exact decide_eq_decide.mpr ⟨fun h=>⟨hi,hn,h⟩,fun h=>h.2.2⟩
def itemsB_c(l:(List Itm))(last:Int):PC Tryz.prog:=⟨108,[(.s 4),.k],[.sl 4 (l.map Itm.v) false,.int last],itemsB_e (itemsB l last),PSpec.of_ok fun ok=>(itemsB_p l last ok).elim fun I0 h=>h.elim fun m0 h=>mxP_of (sh:=.k) (enc:=itemsB_e) (a:=(itemsB_x l last I0 m0).an) h (by kernel_rfl) (AV.pureB_ok rfl),fnB_ok (by kernel_rfl)⟩
def valS(s:Spk):Int:=errIf (spkOk s)
def valL(l:Lsn):Int:=errIf (lsnOk l)
theorem errIf_no{p:Prop}[Decidable p](h:¬p):(1:Int)=errIf p:=by rw [errIf,if_neg h]
theorem codeE_iff{p q:Prop}[Decidable p][Decidable q](h:p↔q):codeE (decide p)=errIf q:=by
 by_cases hp:p
 ·simp [codeE,errIf,hp,h.mp hp]
 ·have hq:¬q:=fun hq=>hp (h.mpr hq)
  simp [codeE,errIf,hp,hq]
def valS_a(s:Spk):Prop:=okL [.agg [.int s.router,.int s.epoch,.int s.last,.sl 4 (s.items.map Itm.v) false,.sl 3 (s.peers.map Per.v) false]]
def valS_n0(s:Spk)(t0:Int):NF:=⟨[(1,.k,.ref 0 0),(36,.k,.sl 3 (s.peers.map Per.v) false),(37,.k,.int ((s.peers.map Per.v).length:Int)),(38,.k,.int t0)],[.box (.agg [.int s.router,.int s.epoch,.int s.last,.sl 4 (s.items.map Itm.v) false,.sl 3 (s.peers.map Per.v) false])]⟩
@[reducible] def valS_s:Nat→Type
 | 0=>Int
 | _=>Unit
def valS_e(r:Int):AV:=.int r
def valS_x(s:Spk)(I0:Int→Prop)(m0:Int→Nat):Ax Tryz.prog valS_s (Int):=
 (.callP (within_c s.router 1 99)
(.br 112 (!(within s.router 1 99)) (.ret (1))
(.callP (within_c s.epoch 1 1000000)
(.br 208 (!(within s.epoch 1 1000000)) (.ret (1))
(.callP (within_c s.last 0 1000000)
(.br 304 (!(within s.last 0 1000000)) (.ret (1))
(.callP (itemsB_c s.items s.last)
(.br 432 (!(itemsB s.items s.last)) (.ret (1))
(.br 512 (decide (12<((s.peers.map Per.v).length:Int))) (.ret (1))
(.loop 0 (valS_n0 s) I0 m0 ((0):Int) [0] fun (t0:Int) b0 =>
(.br 17 (decide (t0<((s.peers.map Per.v).length:Int))) (.el 17 Per.v s.peers (fun R=>Rf (s.peers.map Per.v) (ck (decide (0≤t0)) (ck (decide (t0<(s.peers.length:Int)))
(∀x1,s.peers[t0.toNat]?=some x1 →
(R x1))))) fun x1 =>
(.callP (within_c x1.router 1 99)
(.br 161 (!(within x1.router 1 99)) (.ret (1))
(.br 273 (x1.router==s.router) (.ret (1))
(.callP (within_c x1.epoch 0 1000000)
(.br 369 (!(within x1.epoch 0 1000000)) (.ret (1))
(.callP (within_c x1.acked 0 s.last)
(.br 481 (!(within x1.acked 0 s.last)) (.ret (1))
(.bk 0 b0 ((W (t0+1)):Int) [0])))))))))
(.callP (ascP_c s.peers)
(.callP (codeE_c (ascB Per.router s.peers))
(.ret (codeE (ascB Per.router s.peers))))))))))))))))
def valS_vc(s:Spk)(I0:Int→Prop)(m0:Int→Nat)(r0:Int):Prop:=(valS_x s I0 m0).vp valS_e r0
theorem valS_p(s:Spk)(ok:valS_a s):∃I m,valS_vc s I m (valS s):=by
 simp only [valS_a,okU,Blk.ok,plainV,List.length_map] at ok
 refine ⟨fun t=>∃k:Nat,t=k∧k≤s.peers.length∧∀p∈s.peers.take k,perOk s.router s.last p,fun t=>s.peers.length-t.toNat,?_⟩
 dsimp only [valS_vc,valS_x,valS_s,Ax.vp,Ax.vc];simp only [vcU,rfU,List.length_map]
 have bad:¬spkOk s→1=valS s:=errIf_no
 refine ⟨fun e=>bad fun h=>?_,fun e1=>⟨fun e=>bad fun h=>?_,fun e2=>⟨fun e=>bad fun h=>?_,fun e3=>⟨fun e=>bad fun h=>?_,fun e4=>⟨fun e=>bad fun h=>?_,fun e5=>?_⟩⟩⟩⟩⟩
 ·have:=h.1;simp [within] at e;omega
 ·have:=h.2.1;simp [within] at e;omega
 ·have:=h.2.2.1;simp [within] at e;omega
 ·have:=h.2.2.2.1;simp [itemsB,this] at e
 ·have:=h.2.2.2.2.1;omega
 have e1:1≤s.router∧s.router≤99:=by simpa [within] using e1
 have e2:1≤s.epoch∧s.epoch≤1000000:=by simpa [within] using e2
 have e3:0≤s.last∧s.last≤1000000:=by simpa [within] using e3
 have e4:itmsOk s.last s.items:=by simpa [itemsB] using e4
 refine ⟨⟨0,rfl,by omega,by simp⟩,?_⟩
 rintro _ ⟨k,rfl,hk,hp⟩
 simp only [Int.toNat_natCast]
 refine ⟨fun h1=>⟨by omega,by omega,fun x hx=>?_⟩,fun h1=>?_⟩
 ·have bad:¬perOk s.router s.last x→1=valS s:=fun h=>bad fun e=>h (e.2.2.2.2.2.1 x (mem_of_get hx))
  refine ⟨fun e=>bad fun h=>?_,fun p1=>⟨fun e=>bad fun h=>?_,fun p2=>⟨fun e=>bad fun h=>?_,fun p3=>⟨fun e=>bad fun h=>?_,fun p4=>?_⟩⟩⟩⟩
  ·have:=h.1;simp [within] at e;omega
  ·have:=h.2.1;simp at e;omega
  ·have:=h.2.2.1;simp [within] at e;omega
  ·have:=h.2.2.2;simp [within] at e;omega
  rw [W_succ (n:=s.peers.length) (by omega) (by omega)]
  refine ⟨⟨k+1,rfl,by omega,?_⟩,by omega⟩
  rw [take_succ hx]
  intro z hz
  rcases List.mem_append.mp hz with hz|hz
  ·exact hp z hz
  ·rw [List.mem_singleton] at hz;subst hz
   exact ⟨by simpa [within] using p1,by simpa using p2,by simpa [within] using p3,by simpa [within] using p4⟩
 ·rw [List.take_of_length_le (by omega)] at hp
  exact codeE_iff ⟨fun h=>⟨e1,e2,e3,e4,by omega,hp,h⟩,fun h=>h.2.2.2.2.2.2⟩
def valS_c(s:Spk):PC Tryz.prog:=⟨83,[(.a [.k,.k,.k,(.s 4),(.s 3)])],[.agg [.int s.router,.int s.epoch,.int s.last,.sl 4 (s.items.map Itm.v) false,.sl 3 (s.peers.map Per.v) false]],valS_e (valS s),PSpec.of_ok fun ok=>(valS_p s ok).elim fun I0 h=>h.elim fun m0 h=>mxP_of (sh:=.k) (enc:=valS_e) (a:=(valS_x s I0 m0).an) h (by kernel_rfl) (AV.pureB_ok rfl),fnB_ok (by kernel_rfl)⟩
def valL_a(l:Lsn):Prop:=okL [.agg [.int l.router,.int l.epoch,.sl 4 (l.heard.map Hrd.v) false]]
def valL_n0(l:Lsn)(t0:Int):NF:=⟨[(1,.k,.ref 0 0),(22,.k,.sl 4 (l.heard.map Hrd.v) false),(23,.k,.int ((l.heard.map Hrd.v).length:Int)),(24,.k,.int t0)],[.box (.agg [.int l.router,.int l.epoch,.sl 4 (l.heard.map Hrd.v) false])]⟩
@[reducible] def valL_s:Nat→Type
 | 0=>Int
 | _=>Unit
def valL_e(r:Int):AV:=.int r
def valL_x(l:Lsn)(I0:Int→Prop)(m0:Int→Nat):Ax Tryz.prog valL_s (Int):=
 (.callP (within_c l.router 1 99)
(.br 112 (!(within l.router 1 99)) (.ret (1))
(.callP (within_c l.epoch 1 1000000)
(.br 208 (!(within l.epoch 1 1000000)) (.ret (1))
(.br 288 (decide (12<((l.heard.map Hrd.v).length:Int))) (.ret (1))
(.loop 0 (valL_n0 l) I0 m0 ((0):Int) [0] fun (t0:Int) b0 =>
(.br 17 (decide (t0<((l.heard.map Hrd.v).length:Int))) (.el 17 Hrd.v l.heard (fun R=>Rf (l.heard.map Hrd.v) (ck (decide (0≤t0)) (ck (decide (t0<(l.heard.length:Int)))
(∀x1,l.heard[t0.toNat]?=some x1 →
(R x1))))) fun x1 =>
(.callP (within_c x1.router 1 99)
(.br 161 (!(within x1.router 1 99)) (.ret (1))
(.br 273 (x1.router==l.router) (.ret (1))
(.callP (within_c x1.epoch 1 1000000)
(.br 369 (!(within x1.epoch 1 1000000)) (.ret (1))
(.callP (within_c x1.ver 0 1000000)
(.br 465 (!(within x1.ver 0 1000000)) (.ret (1))
(.callP (itemsB_c x1.items x1.ver)
(.br 577 (!(itemsB x1.items x1.ver)) (.ret (1))
(.bk 0 b0 ((W (t0+1)):Int) [0])))))))))))
(.callP (ascH_c l.heard)
(.callP (codeE_c (ascB Hrd.router l.heard))
(.ret (codeE (ascB Hrd.router l.heard))))))))))))
def valL_vc(l:Lsn)(I0:Int→Prop)(m0:Int→Nat)(r0:Int):Prop:=(valL_x l I0 m0).vp valL_e r0
theorem valL_p(l:Lsn)(ok:valL_a l):∃I m,valL_vc l I m (valL l):=by
 simp only [valL_a,okU,Blk.ok,plainV,List.length_map] at ok
 refine ⟨fun t=>∃k:Nat,t=k∧k≤l.heard.length∧∀h∈l.heard.take k,hrdOk l.router h,fun t=>l.heard.length-t.toNat,?_⟩
 dsimp only [valL_vc,valL_x,valL_s,Ax.vp,Ax.vc];simp only [vcU,rfU,List.length_map]
 have bad:¬lsnOk l→1=valL l:=errIf_no
 refine ⟨fun e=>bad fun h=>?_,fun e1=>⟨fun e=>bad fun h=>?_,fun e2=>⟨fun e=>bad fun h=>?_,fun e5=>?_⟩⟩⟩
 ·have:=h.1;simp [within] at e;omega
 ·have:=h.2.1;simp [within] at e;omega
 ·have:=h.2.2.1;omega
 have e1:1≤l.router∧l.router≤99:=by simpa [within] using e1
 have e2:1≤l.epoch∧l.epoch≤1000000:=by simpa [within] using e2
 refine ⟨⟨0,rfl,by omega,by simp⟩,?_⟩
 rintro _ ⟨k,rfl,hk,hp⟩
 simp only [Int.toNat_natCast]
 refine ⟨fun h1=>⟨by omega,by omega,fun x hx=>?_⟩,fun h1=>?_⟩
 ·have bad:¬hrdOk l.router x→1=valL l:=fun h=>bad fun e=>h (e.2.2.2.1 x (mem_of_get hx))
  refine ⟨fun e=>bad fun h=>?_,fun p1=>⟨fun e=>bad fun h=>?_,fun p2=>⟨fun e=>bad fun h=>?_,fun p3=>⟨fun e=>bad fun h=>?_,fun p4=>⟨fun e=>bad fun h=>?_,fun p5=>?_⟩⟩⟩⟩⟩
  ·have:=h.1;simp [within] at e;omega
  ·have:=h.2.1;simp at e;omega
  ·have:=h.2.2.1;simp [within] at e;omega
  ·have:=h.2.2.2.1;simp [within] at e;omega
  ·have:=h.2.2.2.2;simp [itemsB,this] at e
  rw [W_succ (n:=l.heard.length) (by omega) (by omega)]
  refine ⟨⟨k+1,rfl,by omega,?_⟩,by omega⟩
  rw [take_succ hx]
  intro z hz
  rcases List.mem_append.mp hz with hz|hz
  ·exact hp z hz
  ·rw [List.mem_singleton] at hz;subst hz
   exact ⟨by simpa [within] using p1,by simpa using p2,by simpa [within] using p3,by simpa [within] using p4,by simpa [itemsB] using p5⟩
 ·rw [List.take_of_length_le (by omega)] at hp
  exact codeE_iff ⟨fun h=>⟨e1,e2,by omega,hp,h⟩,fun h=>h.2.2.2.2⟩
def valL_c(l:Lsn):PC Tryz.prog:=⟨86,[(.a [.k,.k,(.s 4)])],[.agg [.int l.router,.int l.epoch,.sl 4 (l.heard.map Hrd.v) false]],valL_e (valL l),PSpec.of_ok fun ok=>(valL_p l ok).elim fun I0 h=>h.elim fun m0 h=>mxP_of (sh:=.k) (enc:=valL_e) (a:=(valL_x l I0 m0).an) h (by kernel_rfl) (AV.pureB_ok rfl),fnB_ok (by kernel_rfl)⟩
def filtered_a(f:Flt):Prop:=okL [.agg [.int f.mode,.sl 1 (f.srcs.map AV.int) false]]
def filtered_e(r:Flt):AV:=Flt.v r
def filtered_x(f:Flt):Ax Tryz.prog noS (Flt):=
 (.req 64 (f.srcs.length≤1000000) fun h1 =>
(.callP (cloneI_c f.srcs h1)
(.ret (f))))
def filtered_vc(f:Flt)(r0:Flt):Prop:=(filtered_x f).vp filtered_e r0
theorem filtered_p(f:Flt)(h:f.srcs.length≤1000000)(ok:filtered_a f):filtered_vc f f:=by
 dsimp only [filtered_vc,filtered_x,noS,Ax.vp,Ax.vc];simp only [vcU,rfU,List.length_map]
 exact ⟨h,trivial⟩
def filtered_c(f:Flt)(h:f.srcs.length≤1000000):PC Tryz.prog:=⟨110,[(.a [.k,(.s 1)])],[.agg [.int f.mode,.sl 1 (f.srcs.map AV.int) false]],filtered_e f,PSpec.of_ok fun ok=>mxP_of (sh:=(.a [.k,(.s 1)])) (enc:=filtered_e) (a:=(filtered_x f).an) (filtered_p f h ok) (by kernel_rfl) (AV.pureB_ok rfl),fnB_ok (by kernel_rfl)⟩
def copied_a(l:(List Itm))(without:Int):Prop:=okL [.sl 4 (l.map Itm.v) false,.int without]
def copied_n0(l:(List Itm))(without:Int)(t0:Int×(List Itm)):NF:=⟨[(1,.k,.int without),(5,.k,.vec 0),(8,.k,.sl 4 (l.map Itm.v) false),(9,.k,.int ((l.map Itm.v).length:Int)),(10,.k,.int t0.1)],[.vec 4 (t0.2.map Itm.v) (pureBL_map (fun _=>rfl) t0.2)]⟩
@[reducible] def copied_s:Nat→Type
 | 0=>Int×(List Itm)
 | _=>Unit
def copied_e(r:(List Itm)):AV:=.vec 0
def copied_b(r:(List Itm)):List (Option Blk):=[some (.vec 4 (r.map Itm.v))]
def copied_x(l:(List Itm))(without:Int)(I0:(Int×(List Itm))→Prop)(m0:(Int×(List Itm))→Nat):Ax Tryz.prog copied_s ((List Itm)):=
 (.cmdL (.nilT 5 4) (.loop 0 (copied_n0 l without) I0 m0 (0,[]) [80] fun (t0:Int×(List Itm)) b0 =>
(.br 17 (decide (t0.1<((l.map Itm.v).length:Int))) (.el 17 Itm.v l (fun R=>Rf (l.map Itm.v) (ck (decide (0≤t0.1)) (ck (decide (t0.1<(l.length:Int)))
(∀x1,l[t0.1.toNat]?=some x1 →
(R x1))))) fun x1 =>
(.br 145 (x1.grp != without) (.req 177 ((⟨x1.mode,x1.srcs⟩:Flt).srcs.length≤1000000) fun h2 =>
(.callP (filtered_c (⟨x1.mode,x1.srcs⟩:Flt) h2)
(.say (fun R=>Rf (α:=List AV) (t0.2.map Itm.v) (Rf (α:=List AV) [.agg [.int x1.ver,.int x1.grp,.int x1.mode,.sl 1 (x1.srcs.map AV.int) false]]
(ck (decide (t0.2.length+1≤1000000))
R))) (.app 273 Itm.v t0.2 [x1]
(.bk 0 b0 (W (t0.1+1),t0.2++[x1]) [273])))))
(.bk 0 b0 (W (t0.1+1),t0.2) [0])))
(.retH t0.2 ⟨[(4,.k,.vec 0)],[.vec 4 (t0.2.map Itm.v) (pureBL_map (fun _=>rfl) t0.2)]⟩ [0]))))
def copied_vc(l:(List Itm))(without:Int)(I0:(Int×(List Itm))→Prop)(m0:(Int×(List Itm))→Nat)(r0:(List Itm)):Prop:=(copied_x l without I0 m0).vc copied_e copied_b r0
theorem copied_p(l:List Itm)(wo:Int)(h:okItms l)(ok:copied_a l wo):∃I m,copied_vc l wo I m (without wo l):=by
 obtain ⟨h1,h2⟩:=h
 refine ⟨fun t=>∃k:Nat,t=((k:Int),without wo (l.take k))∧k≤l.length,fun t=>l.length-t.1.toNat,?_⟩
 dsimp only [copied_vc,copied_x,copied_s,Ax.vp,Ax.vc];simp only [vcU,rfU,List.length_map]
 refine ⟨⟨0,by simp [without],by omega⟩,?_⟩
 rintro _ ⟨k,rfl,hk⟩
 simp only [Int.toNat_natCast]
 refine ⟨fun h3=>⟨by omega,by omega,fun x hx=>?_⟩,fun h3=>?_⟩
 ·have hl:(without wo (l.take k)).length≤900000:=Nat.le_trans (List.length_filter_le _ _) (by simp;omega)
  rw [W_succ (n:=l.length) (by omega) (by omega)]
  refine ⟨fun e=>⟨h2 x (mem_of_get hx),by omega,⟨k+1,?_,by omega⟩,by omega⟩,fun e=>⟨⟨k+1,?_,by omega⟩,by omega⟩⟩
  ·rw [take_succ hx];simp at e;simp [without,e]
  ·rw [take_succ hx];simp at e;simp [without,e]
 ·rw [List.take_of_length_le (by omega)]
def copied_h(l:(List Itm))(without:Int)(h:okItms l):HC Tryz.prog:=⟨114,[(.s 4),.k],[.sl 4 (l.map Itm.v) false,.int without],[],copied_e (Go.Proofs.YtkanhopflelmdaaGreatDoor.without without l),copied_b (Go.Proofs.YtkanhopflelmdaaGreatDoor.without without l),HSpec.of_okh fun ok _=>(copied_p l without h ok).elim fun I0 h=>h.elim fun m0 h=>mxH_of (sh:=.k) (enc:=copied_e) (hB:=copied_b) (a:=(copied_x l without I0 m0).an) h (by kernel_rfl),fnB_ok (by kernel_rfl),HcOk.of (by simp [hcB,belBL,AV.belB,allB,okBk,okBkO,copied_e,copied_b,pureBL_map (v:=Itm.v) (fun _=>rfl)])⟩
def fresh(p:List Int):List Per:=p.map fun x=>⟨x,0,0⟩
def fresh_a(routers:(List Int)):Prop:=okL [.sl 1 (routers.map AV.int) false]
def fresh_n0(routers:(List Int))(t0:Int×(List Per)):NF:=⟨[(3,.k,.vec 0),(6,.k,.sl 1 (routers.map AV.int) false),(7,.k,.int ((routers.map AV.int).length:Int)),(8,.k,.int t0.1)],[.vec 3 (t0.2.map Per.v) (pureBL_map (fun _=>rfl) t0.2)]⟩
@[reducible] def fresh_s:Nat→Type
 | 0=>Int×(List Per)
 | _=>Unit
def fresh_e(r:(List Per)):AV:=.vec 0
def fresh_b(r:(List Per)):List (Option Blk):=[some (.vec 3 (r.map Per.v))]
def fresh_x(routers:(List Int))(I0:(Int×(List Per))→Prop)(m0:(Int×(List Per))→Nat):Ax Tryz.prog fresh_s ((List Per)):=
 (.cmdL (.nilT 3 3) (.loop 0 (fresh_n0 routers) I0 m0 (0,[]) [80] fun (t0:Int×(List Per)) b0 =>
(.br 17 (decide (t0.1<((routers.map AV.int).length:Int))) (.el 17 AV.int routers (fun R=>Rf (routers.map AV.int) (ck (decide (0≤t0.1)) (ck (decide (t0.1<(routers.length:Int)))
(∀x1,routers[t0.1.toNat]?=some x1 →
(R x1))))) fun x1 =>
(.say (fun R=>Rf (α:=List AV) (t0.2.map Per.v) (Rf (α:=List AV) [.agg [.int x1,.int 0,.int 0]]
(ck (decide (t0.2.length+1≤1000000))
R))) (.app 129 Per.v t0.2 [(⟨x1,0,0⟩:Per)]
(.bk 0 b0 (W (t0.1+1),t0.2++[(⟨x1,0,0⟩:Per)]) [129]))))
(.retH t0.2 ⟨[(2,.k,.vec 0)],[.vec 3 (t0.2.map Per.v) (pureBL_map (fun _=>rfl) t0.2)]⟩ [0]))))
def fresh_vc(routers:(List Int))(I0:(Int×(List Per))→Prop)(m0:(Int×(List Per))→Nat)(r0:(List Per)):Prop:=(fresh_x routers I0 m0).vc fresh_e fresh_b r0
theorem fresh_p(p:List Int)(h:p.length≤1000000)(ok:fresh_a p):∃I m,fresh_vc p I m (fresh p):=by
 refine ⟨fun t=>∃k:Nat,t=((k:Int),fresh (p.take k))∧k≤p.length,fun t=>p.length-t.1.toNat,?_⟩
 dsimp only [fresh_vc,fresh_x,fresh_s,Ax.vp,Ax.vc];simp only [vcU,rfU,List.length_map]
 refine ⟨⟨0,by simp [fresh],by omega⟩,?_⟩
 rintro _ ⟨k,rfl,hk⟩
 simp only [Int.toNat_natCast]
 refine ⟨fun h3=>⟨by omega,by omega,fun x hx=>?_⟩,fun h3=>?_⟩
 ·rw [W_succ (n:=p.length) (by omega) (by omega)]
  refine ⟨by simp [fresh];omega,⟨k+1,?_,by omega⟩,by omega⟩
  rw [take_succ hx];simp [fresh]
 ·rw [List.take_of_length_le (by omega)]
def fresh_h(routers:(List Int))(h:routers.length≤1000000):HC Tryz.prog:=⟨136,[(.s 1)],[.sl 1 (routers.map AV.int) false],[],fresh_e (fresh routers),fresh_b (fresh routers),HSpec.of_okh fun ok _=>(fresh_p routers h ok).elim fun I0 h=>h.elim fun m0 h=>mxH_of (sh:=.k) (enc:=fresh_e) (hB:=fresh_b) (a:=(fresh_x routers I0 m0).an) h (by kernel_rfl),fnB_ok (by kernel_rfl),HcOk.of (by simp [hcB,belBL,AV.belB,allB,okBk,okBkO,fresh_e,fresh_b,pureBL_map (v:=AV.int) (fun _=>rfl),pureBL_map (v:=Per.v) (fun _=>rfl)])⟩
def cloneP_a(s:(List Per)):Prop:=okL [.sl 3 (s.map Per.v) false]
def cloneP_e(r:(List Per)):AV:=.vec 0
def cloneP_b(r:(List Per)):List (Option Blk):=[some (.vec 3 (r.map Per.v))]
def cloneP_x(s:(List Per)):Ax Tryz.prog noS ((List Per)):=
 (.allB (fun b1=>((s.map Per.v)≠[]→b1=false)) fun b1 =>
(.br 48 (b1 != false) (.cmdL (.nilT 2 3) (.retH [] ⟨[(2,.k,.vec 0)],[.vec 3 [] rfl]⟩ [64]))
(.say (fun R=>Rf (α:=List AV) [] (Rf (α:=List AV) (s.map Per.v)
(ck (decide (0+s.length≤1000000))
R))) (.app 80 Per.v [] s
(.retH s ⟨[(2,.k,.vec 0)],[.vec 3 (s.map Per.v) (pureBL_map (fun _=>rfl) s)]⟩ [80])))))
def cloneP_vc(s:(List Per))(r0:(List Per)):Prop:=(cloneP_x s).vc cloneP_e cloneP_b r0
theorem cloneP_p(s:List Per)(h:s.length≤1000000)(ok:cloneP_a s):cloneP_vc s s:=by
 dsimp only [cloneP_vc,cloneP_x,noS,Ax.vp,Ax.vc];simp only [vcU,rfU,List.length_map]
 intro b hb
 refine ⟨fun h1=>?_,fun _=>by first|omega|exact ⟨by omega,trivial⟩|(trace_state;simpa using h)⟩
 cases s with
 | nil=>rfl
 | cons x s=>simp at hb;simp [hb] at h1
def cloneP_h(s:(List Per))(h:s.length≤1000000):HC Tryz.prog:=⟨115,[(.s 3)],[.sl 3 (s.map Per.v) false],[],cloneP_e s,cloneP_b s,HSpec.of_okh fun ok _=>mxH_of (sh:=.k) (enc:=cloneP_e) (hB:=cloneP_b) (a:=(cloneP_x s).an) (cloneP_p s h ok) (by kernel_rfl),fnB_ok (by kernel_rfl),HcOk.of (by simp [hcB,belBL,AV.belB,allB,okBk,okBkO,cloneP_e,cloneP_b,pureBL_map (v:=Per.v) (fun _=>rfl)])⟩
def toldF(l:List Itm)(g:Int):Flt:=⟨(told l g).1,(told l g).2⟩
theorem find_at{α:Type}{p:α→Bool}{l:List α}{k:Nat}{x:α}(h:∀y∈l.take k,p y=false)(hx:l[k]?=some x)(hp:p x=true):l.find? p=some x:=by
 rw [List.find?_eq_some_iff_getElem]
 have hk:=lt_of_get hx
 rw [List.getElem?_eq_getElem hk] at hx
 refine ⟨hp,k,hk,Option.some.inj hx,fun j hj=>?_⟩
 rw [h _ (List.mem_take_iff_getElem.mpr ⟨j,by omega,rfl⟩)];rfl
def toldF_a(l:(List Itm))(group:Int):Prop:=okL [.sl 4 (l.map Itm.v) false,.int group]
def toldF_n0(l:(List Itm))(group:Int)(t0:Int):NF:=⟨[(1,.k,.int group),(4,.k,.ref 0 0),(7,.k,.sl 4 (l.map Itm.v) false),(8,.k,.int ((l.map Itm.v).length:Int)),(9,.k,.int t0)],[.box (.agg [.int 0,.sl 0 [] true])]⟩
@[reducible] def toldF_s:Nat→Type
 | 0=>Int
 | _=>Unit
def toldF_e(r:Flt):AV:=Flt.v r
def toldF_x(l:(List Itm))(group:Int)(I0:Int→Prop)(m0:Int→Nat):Ax Tryz.prog toldF_s (Flt):=
 (.loop 0 (toldF_n0 l group) I0 m0 ((0):Int) [0] fun (t0:Int) b0 =>
(.br 17 (decide (t0<((l.map Itm.v).length:Int))) (.el 17 Itm.v l (fun R=>Rf (l.map Itm.v) (ck (decide (0≤t0)) (ck (decide (t0<(l.length:Int)))
(∀x1,l[t0.toNat]?=some x1 →
(R x1))))) fun x1 =>
(.br 145 (x1.grp==group) (.ret ((⟨x1.mode,x1.srcs⟩:Flt)))
(.bk 0 b0 ((W (t0+1)):Int) [0])))
(.ret ((⟨1,[]⟩:Flt)))))
def toldF_vc(l:(List Itm))(group:Int)(I0:Int→Prop)(m0:Int→Nat)(r0:Flt):Prop:=(toldF_x l group I0 m0).vp toldF_e r0
theorem toldF_p(l:List Itm)(g:Int)(ok:toldF_a l g):∃I m,toldF_vc l g I m (toldF l g):=by
 simp only [toldF_a,okU,Blk.ok,plainV,List.length_map] at ok
 refine ⟨fun t=>∃k:Nat,t=k∧k≤l.length∧∀x∈l.take k,decide (x.grp=g)=false,fun t=>l.length-t.toNat,?_⟩
 dsimp only [toldF_vc,toldF_x,toldF_s,Ax.vp,Ax.vc];simp only [vcU,rfU,List.length_map]
 refine ⟨⟨0,rfl,by omega,by simp⟩,?_⟩
 rintro _ ⟨k,rfl,hk,h⟩
 simp only [Int.toNat_natCast]
 have h:∀x∈l.take k,decide (x.grp=g)=false:=fun x hx=>decide_eq_false (h x hx)
 refine ⟨fun h1=>⟨by omega,by omega,fun x hx=>⟨fun e=>?_,fun e=>?_⟩⟩,fun h1=>?_⟩
 ·rw [toldF,told,find_at h hx (by simpa using e)]
 ·rw [W_succ (n:=l.length) (by omega) (by omega)]
  refine ⟨⟨k+1,rfl,by omega,?_⟩,by omega⟩
  rw [take_succ hx]
  intro z hz
  rcases List.mem_append.mp hz with hz|hz
  ·simpa using h z hz
  ·rw [List.mem_singleton] at hz;subst hz;simpa using e
 ·rw [List.take_of_length_le (by omega)] at h
  rw [toldF,told,List.find?_eq_none.mpr fun x hx=>by rw [h x hx];simp]
def toldF_c(l:(List Itm))(group:Int):PC Tryz.prog:=⟨116,[(.s 4),.k],[.sl 4 (l.map Itm.v) false,.int group],toldF_e (toldF l group),PSpec.of_ok fun ok=>(toldF_p l group ok).elim fun I0 h=>h.elim fun m0 h=>mxP_of (sh:=(.a [.k,(.s 1)])) (enc:=toldF_e) (a:=(toldF_x l group I0 m0).an) h (by kernel_rfl) (AV.pureB_ok rfl),fnB_ok (by kernel_rfl)⟩
def cmpP(p:Per)(r:Int):Int:=cmpI p.router r
def cmpP_a(p:Per)(r:Int):Prop:=okL [.agg [.int p.router,.int p.epoch,.int p.acked],.int r]
def cmpP_e(r:Int):AV:=.int r
def cmpP_x(p:Per)(r:Int):Ax Tryz.prog noS (Int):=
 (.callP (cmpI_c p.router r)
(.ret (cmpI p.router r)))
def cmpP_vc(p:Per)(r:Int)(r0:Int):Prop:=(cmpP_x p r).vp cmpP_e r0
theorem cmpP_p(p:Per)(r:Int)(ok:cmpP_a p r):cmpP_vc p r (cmpP p r):=by
 dsimp only [cmpP_vc,cmpP_x,noS,Ax.vp,Ax.vc];simp only [vcU,rfU,List.length_map]
 rfl
def cmpP_c(p:Per)(r:Int):PC Tryz.prog:=⟨165,[.k,.k],[.agg [.int p.router,.int p.epoch,.int p.acked],.int r],cmpP_e (cmpP p r),PSpec.of_ok fun ok=>mxP_of (sh:=.k) (enc:=cmpP_e) (a:=(cmpP_x p r).an) (cmpP_p p r ok) (by kernel_rfl) (AV.pureB_ok rfl),fnB_ok (by kernel_rfl)⟩
def cmpH(p:Hrd)(r:Int):Int:=cmpI p.router r
def cmpH_a(h_:Hrd)(r:Int):Prop:=okL [.agg [.int h_.router,.int h_.epoch,.int h_.ver,.sl 4 (h_.items.map Itm.v) false],.int r]
def cmpH_e(r:Int):AV:=.int r
def cmpH_x(h_:Hrd)(r:Int):Ax Tryz.prog noS (Int):=
 (.callP (cmpI_c h_.router r)
(.ret (cmpI h_.router r)))
def cmpH_vc(h_:Hrd)(r:Int)(r0:Int):Prop:=(cmpH_x h_ r).vp cmpH_e r0
theorem cmpH_p(p:Hrd)(r:Int)(ok:cmpH_a p r):cmpH_vc p r (cmpH p r):=by
 dsimp only [cmpH_vc,cmpH_x,noS,Ax.vp,Ax.vc];simp only [vcU,rfU,List.length_map]
 rfl
def cmpH_c(h_:Hrd)(r:Int):PC Tryz.prog:=⟨149,[(.a [.k,.k,.k,(.s 4)]),.k],[.agg [.int h_.router,.int h_.epoch,.int h_.ver,.sl 4 (h_.items.map Itm.v) false],.int r],cmpH_e (cmpH h_ r),PSpec.of_ok fun ok=>mxP_of (sh:=.k) (enc:=cmpH_e) (a:=(cmpH_x h_ r).an) (cmpH_p h_ r ok) (by kernel_rfl) (AV.pureB_ok rfl),fnB_ok (by kernel_rfl)⟩
theorem half(i j:Nat)(h:i≤j)(hj:j≤1000000):W ((IntKind.u64.wrap (W ((i:Int)+j))).fdiv 2)=(((i+j) / 2:Nat):Int):=by
 have e1:W ((i:Int)+j)=((i+j:Nat):Int):=W_eq ⟨by omega,by omega⟩
 rw [e1]
 have e2:IntKind.u64.wrap ((i+j:Nat):Int)=((i+j:Nat):Int):=by simp [IntKind.wrap,IntKind.signed,IntKind.bits];omega
 rw [e2,show Int.fdiv ((i+j:Nat):Int) 2=(((i+j) / 2:Nat):Int) by rw [Int.fdiv_eq_ediv_of_nonneg _ (by omega)];rfl]
 exact W_eq ⟨by omega,by omega⟩
theorem idx_eq{α:Type}{key:α→Int}{l:List α}{r:Int}{i:Nat}(hi:i≤l.length)(h1:∀k x,k<i→l[k]?=some x→key x<r)(h2:∀k x,i≤k→l[k]?=some x→r≤key x) :
  l.findIdx (fun p=>!decide (key p<r))=i:=by
 by_cases e:i=l.length
 ·subst e
  rw [List.findIdx_eq_length]
  intro x hx
  obtain ⟨k,hk,rfl⟩:=List.mem_iff_getElem.mp hx
  have:=h1 k _ hk (List.getElem?_eq_getElem hk)
  simp [this]
 ·rw [List.findIdx_eq (by omega)]
  refine ⟨?_,fun j hj=>?_⟩
  ·have:=h2 i _ (Nat.le_refl _) (List.getElem?_eq_getElem (by omega))
   simp;omega
  ·have:=h1 j _ hj (List.getElem?_eq_getElem (by omega))
   simp [this]
theorem getD_some{α:Type}{l:List α}{i:Nat}{x d:α}(h:l[i]?=some x):l.getD i d=x:=by rw [List.getD,h];rfl
theorem cmp_lt(x y:Int):cmpI x y<0↔x<y:=by
 unfold cmpI;split
 ·simp_all
 ·split<;>simp_all
theorem cmp_eq(x y:Int):cmpI x y=0↔x=y:=by
 unfold cmpI;split
 ·simp;omega
 ·split
  ·simp;omega
  ·simp;omega
def bsP_a(x:(List Per))(target:Int):Prop:=okL [.sl 3 (x.map Per.v) false,.int target,.func 165 []]
def bsP_n0(x:(List Per))(target:Int)(t0:Int×Int):NF:=⟨[(0,.k,.sl 3 (x.map Per.v) false),(1,.k,.int target),(2,.k,.func 165 []),(8,.k,.int ((x.map Per.v).length:Int)),(9,.k,.int t0.1),(10,.k,.int t0.2)],[]⟩
@[reducible] def bsP_s:Nat→Type
 | 0=>Int×Int
 | _=>Unit
def bsP_e(r:Int×Bool):AV:=.tup [.int r.1,.bool r.2]
def bsP_x(x:(List Per))(target:Int)(I0:(Int×Int)→Prop)(m0:(Int×Int)→Nat):Ax Tryz.prog bsP_s (Int×Bool):=
 (.loop 0 (bsP_n0 x target) I0 m0 (0,((x.map Per.v).length:Int)) [] fun (t0:Int×Int) b0 =>
(.br 48 (decide (t0.1<t0.2)) (.el 208 Per.v x (fun R=>Rf (x.map Per.v) (ck (decide (0≤(W (Int.fdiv (IntKind.u64.wrap (W (t0.1+t0.2))) 2)))) (ck (decide ((W (Int.fdiv (IntKind.u64.wrap (W (t0.1+t0.2))) 2))<(x.length:Int)))
(∀x1,x[(W (Int.fdiv (IntKind.u64.wrap (W (t0.1+t0.2))) 2)).toNat]?=some x1 →
(R x1))))) fun x1 =>
(.callP (cmpP_c x1 target)
(.br 288 (decide ((cmpP x1 target)<0)) (.bk 0 b0 (W ((W (Int.fdiv (IntKind.u64.wrap (W (t0.1+t0.2))) 2))+1),t0.2) [])
(.bk 0 b0 (t0.1,W (Int.fdiv (IntKind.u64.wrap (W (t0.1+t0.2))) 2)) []))))
(.br 128 (decide (t0.1<((x.map Per.v).length:Int))) (.el 176 Per.v x (fun R=>Rf (x.map Per.v) (ck (decide (0≤t0.1)) (ck (decide (t0.1<(x.length:Int)))
(∀x2,x[t0.1.toNat]?=some x2 →
(R x2))))) fun x2 =>
(.callP (cmpP_c x2 target)
(.ret (t0.1,(cmpP x2 target)==0))))
(.ret (t0.1,false)))))
def bsP_vc(x:(List Per))(target:Int)(I0:(Int×Int)→Prop)(m0:(Int×Int)→Nat)(r0:Int×Bool):Prop:=(bsP_x x target I0 m0).vp bsP_e r0
theorem bsP_p(l:List Per)(r:Int)(h:l.Pairwise fun x y=>x.router<y.router)(hl:l.length≤1000000)(ok:bsP_a l r):∃I m,bsP_vc l r I m ((posP l r:Int),decide (hitP l r)):=by
 simp only [bsP_a,okU,Blk.ok,plainV,List.length_map] at ok
 refine ⟨fun t=>∃i j:Nat,t=((i:Int),(j:Int))∧i≤j∧j≤l.length∧(∀k x,k<i→l[k]?=some x→x.router<r)∧(∀k x,j≤k→l[k]?=some x→r≤x.router),fun t=>(t.2-t.1).toNat,?_⟩
 dsimp only [bsP_vc,bsP_x,bsP_s,Ax.vp,Ax.vc];simp only [vcU,rfU,List.length_map]
 refine ⟨⟨0,l.length,rfl,by omega,by omega,fun k x hk=>by omega,fun k x hk hx=>by have:=lt_of_get hx;omega⟩,?_⟩
 rintro _ ⟨i,j,rfl,hij,hj,h1,h2⟩
 refine ⟨fun h3=>?_,fun h3=>?_⟩
 ·have h3:i<j:=by simpa using h3
  simp only [half i j hij (by omega),Int.toNat_natCast]
  refine ⟨by omega,by omega,fun x hx=>⟨fun e=>?_,fun e=>?_⟩⟩
  ·rw [cmpP,cmp_lt] at e
   rw [W_succ (n:=l.length) (by omega) (by omega)]
   refine ⟨⟨_,_,rfl,by omega,hj,fun k y hk hy=>?_,h2⟩,by omega⟩
   by_cases e':k=(i+j) / 2
   ·subst e';rw [hx] at hy;cases hy;exact e
   ·have:=pw_get h (show k<(i+j) / 2 by omega) hy hx;omega
  ·rw [cmpP,cmp_lt] at e
   refine ⟨⟨_,_,rfl,by omega,by omega,h1,fun k y hk hy=>?_⟩,by omega⟩
   by_cases e':k=(i+j) / 2
   ·subst e';rw [hx] at hy;cases hy;omega
   ·have:=pw_get h (show (i+j) / 2<k by omega) hx hy;omega
 ·have h3:i=j:=by simp at h3;omega
  subst h3
  have hp:posP l r=i:=idx_eq (key:=Per.router) hj h1 h2
  simp only [Int.toNat_natCast]
  refine ⟨fun h4=>⟨by omega,by omega,fun x hx=>?_⟩,fun h4=>?_⟩
  ·have e:hitP l r↔x.router=r:=by rw [hitP,hp,getD_some hx];exact ⟨fun h=>h.2,fun h=>⟨lt_of_get hx,h⟩⟩
   rw [hp]
   refine congrArg _ ?_
   rw [cmpP,Bool.eq_iff_iff,decide_eq_true_iff,e,beq_iff_eq,cmp_eq]
  ·rw [hp,decide_eq_false]
   rw [hitP,hp];intro h;omega
def bsP_c(x:(List Per))(target:Int)(h:x.Pairwise fun x y=>x.router<y.router)(hl:x.length≤1000000):PC Tryz.prog:=⟨164,[(.s 3),.k,.k],[.sl 3 (x.map Per.v) false,.int target,.func 165 []],bsP_e ((posP x target:Int),decide (hitP x target)),PSpec.of_ok fun ok=>(bsP_p x target h hl ok).elim fun I0 h=>h.elim fun m0 h=>mxP_of (sh:=.k) (enc:=bsP_e) (a:=(bsP_x x target I0 m0).an) h (by kernel_rfl) (AV.pureB_ok rfl),fnB_ok (by kernel_rfl)⟩
def bsH_a(x:(List Hrd))(target:Int):Prop:=okL [.sl 4 (x.map Hrd.v) false,.int target,.func 149 []]
def bsH_n0(x:(List Hrd))(target:Int)(t0:Int×Int):NF:=⟨[(0,.k,.sl 4 (x.map Hrd.v) false),(1,.k,.int target),(2,.k,.func 149 []),(8,.k,.int ((x.map Hrd.v).length:Int)),(9,.k,.int t0.1),(10,.k,.int t0.2)],[]⟩
@[reducible] def bsH_s:Nat→Type
 | 0=>Int×Int
 | _=>Unit
def bsH_e(r:Int×Bool):AV:=.tup [.int r.1,.bool r.2]
def bsH_x(x:(List Hrd))(target:Int)(I0:(Int×Int)→Prop)(m0:(Int×Int)→Nat):Ax Tryz.prog bsH_s (Int×Bool):=
 (.loop 0 (bsH_n0 x target) I0 m0 (0,((x.map Hrd.v).length:Int)) [] fun (t0:Int×Int) b0 =>
(.br 48 (decide (t0.1<t0.2)) (.el 208 Hrd.v x (fun R=>Rf (x.map Hrd.v) (ck (decide (0≤(W (Int.fdiv (IntKind.u64.wrap (W (t0.1+t0.2))) 2)))) (ck (decide ((W (Int.fdiv (IntKind.u64.wrap (W (t0.1+t0.2))) 2))<(x.length:Int)))
(∀x1,x[(W (Int.fdiv (IntKind.u64.wrap (W (t0.1+t0.2))) 2)).toNat]?=some x1 →
(R x1))))) fun x1 =>
(.callP (cmpH_c x1 target)
(.br 288 (decide ((cmpH x1 target)<0)) (.bk 0 b0 (W ((W (Int.fdiv (IntKind.u64.wrap (W (t0.1+t0.2))) 2))+1),t0.2) [])
(.bk 0 b0 (t0.1,W (Int.fdiv (IntKind.u64.wrap (W (t0.1+t0.2))) 2)) []))))
(.br 128 (decide (t0.1<((x.map Hrd.v).length:Int))) (.el 176 Hrd.v x (fun R=>Rf (x.map Hrd.v) (ck (decide (0≤t0.1)) (ck (decide (t0.1<(x.length:Int)))
(∀x2,x[t0.1.toNat]?=some x2 →
(R x2))))) fun x2 =>
(.callP (cmpH_c x2 target)
(.ret (t0.1,(cmpH x2 target)==0))))
(.ret (t0.1,false)))))
def bsH_vc(x:(List Hrd))(target:Int)(I0:(Int×Int)→Prop)(m0:(Int×Int)→Nat)(r0:Int×Bool):Prop:=(bsH_x x target I0 m0).vp bsH_e r0
theorem bsH_p(l:List Hrd)(r:Int)(h:l.Pairwise fun x y=>x.router<y.router)(hl:l.length≤1000000)(ok:bsH_a l r):∃I m,bsH_vc l r I m ((posH l r:Int),decide (hitH l r)):=by
 simp only [bsH_a,okU,Blk.ok,plainV,List.length_map] at ok
 refine ⟨fun t=>∃i j:Nat,t=((i:Int),(j:Int))∧i≤j∧j≤l.length∧(∀k x,k<i→l[k]?=some x→x.router<r)∧(∀k x,j≤k→l[k]?=some x→r≤x.router),fun t=>(t.2-t.1).toNat,?_⟩
 dsimp only [bsH_vc,bsH_x,bsH_s,Ax.vp,Ax.vc];simp only [vcU,rfU,List.length_map]
 refine ⟨⟨0,l.length,rfl,by omega,by omega,fun k x hk=>by omega,fun k x hk hx=>by have:=lt_of_get hx;omega⟩,?_⟩
 rintro _ ⟨i,j,rfl,hij,hj,h1,h2⟩
 refine ⟨fun h3=>?_,fun h3=>?_⟩
 ·have h3:i<j:=by simpa using h3
  simp only [half i j hij (by omega),Int.toNat_natCast]
  refine ⟨by omega,by omega,fun x hx=>⟨fun e=>?_,fun e=>?_⟩⟩
  ·rw [cmpH,cmp_lt] at e
   rw [W_succ (n:=l.length) (by omega) (by omega)]
   refine ⟨⟨_,_,rfl,by omega,hj,fun k y hk hy=>?_,h2⟩,by omega⟩
   by_cases e':k=(i+j) / 2
   ·subst e';rw [hx] at hy;cases hy;exact e
   ·have:=pw_get h (show k<(i+j) / 2 by omega) hy hx;omega
  ·rw [cmpH,cmp_lt] at e
   refine ⟨⟨_,_,rfl,by omega,by omega,h1,fun k y hk hy=>?_⟩,by omega⟩
   by_cases e':k=(i+j) / 2
   ·subst e';rw [hx] at hy;cases hy;omega
   ·have:=pw_get h (show (i+j) / 2<k by omega) hx hy;omega
 ·have h3:i=j:=by simp at h3;omega
  subst h3
  have hp:posH l r=i:=idx_eq (key:=Hrd.router) hj h1 h2
  simp only [Int.toNat_natCast]
  refine ⟨fun h4=>⟨by omega,by omega,fun x hx=>?_⟩,fun h4=>?_⟩
  ·have e:hitH l r↔x.router=r:=by rw [hitH,hp,getD_some hx];exact ⟨fun h=>h.2,fun h=>⟨lt_of_get hx,h⟩⟩
   rw [hp]
   refine congrArg _ ?_
   rw [cmpH,Bool.eq_iff_iff,decide_eq_true_iff,e,beq_iff_eq,cmp_eq]
  ·rw [hp,decide_eq_false]
   rw [hitH,hp];intro h;omega
def bsH_c(x:(List Hrd))(target:Int)(h:x.Pairwise fun x y=>x.router<y.router)(hl:x.length≤1000000):PC Tryz.prog:=⟨148,[(.s 4),.k,.k],[.sl 4 (x.map Hrd.v) false,.int target,.func 149 []],bsH_e ((posH x target:Int),decide (hitH x target)),PSpec.of_ok fun ok=>(bsH_p x target h hl ok).elim fun I0 h=>h.elim fun m0 h=>mxP_of (sh:=.k) (enc:=bsH_e) (a:=(bsH_x x target I0 m0).an) h (by kernel_rfl) (AV.pureB_ok rfl),fnB_ok (by kernel_rfl)⟩
def peer_a(s:Spk)(router:Int):Prop:=okL [.agg [.int s.router,.int s.epoch,.int s.last,.sl 4 (s.items.map Itm.v) false,.sl 3 (s.peers.map Per.v) false],.int router]
def peer_e(r:Int×Bool):AV:=.tup [.int r.1,.bool r.2]
def peer_x(s:Spk)(router:Int):Ax Tryz.prog noS (Int×Bool):=
 (.req 96 (s.peers.Pairwise fun x y=>x.router<y.router) fun h1 =>
(.req 96 (s.peers.length≤1000000) fun h2 =>
(.callP (bsP_c s.peers router h1 h2)
(.ret ((posP s.peers router:Int),decide (hitP s.peers router))))))
def peer_vc(s:Spk)(router:Int)(r0:Int×Bool):Prop:=(peer_x s router).vp peer_e r0
theorem peer_p(s:Spk)(r:Int)(h:s.peers.Pairwise fun x y=>x.router<y.router)(hl:s.peers.length≤1000000)(ok:peer_a s r):peer_vc s r ((posP s.peers r:Int),decide (hitP s.peers r)):=by
 dsimp only [peer_vc,peer_x,noS,Ax.vp,Ax.vc];simp only [vcU,rfU,List.length_map]
 exact ⟨h,hl,trivial⟩
def peer_c(s:Spk)(router:Int)(h:s.peers.Pairwise fun x y=>x.router<y.router)(hl:s.peers.length≤1000000):PC Tryz.prog:=⟨127,[(.a [.k,.k,.k,(.s 4),(.s 3)]),.k],[.agg [.int s.router,.int s.epoch,.int s.last,.sl 4 (s.items.map Itm.v) false,.sl 3 (s.peers.map Per.v) false],.int router],peer_e ((posP s.peers router:Int),decide (hitP s.peers router)),PSpec.of_ok fun ok=>mxP_of (sh:=.k) (enc:=peer_e) (a:=(peer_x s router).an) (peer_p s router h hl ok) (by kernel_rfl) (AV.pureB_ok rfl),fnB_ok (by kernel_rfl)⟩
def heard_a(l:Lsn)(router:Int):Prop:=okL [.agg [.int l.router,.int l.epoch,.sl 4 (l.heard.map Hrd.v) false],.int router]
def heard_e(r:Int×Bool):AV:=.tup [.int r.1,.bool r.2]
def heard_x(l:Lsn)(router:Int):Ax Tryz.prog noS (Int×Bool):=
 (.req 96 (l.heard.Pairwise fun x y=>x.router<y.router) fun h1 =>
(.req 96 (l.heard.length≤1000000) fun h2 =>
(.callP (bsH_c l.heard router h1 h2)
(.ret ((posH l.heard router:Int),decide (hitH l.heard router))))))
def heard_vc(l:Lsn)(router:Int)(r0:Int×Bool):Prop:=(heard_x l router).vp heard_e r0
theorem heard_p(l:Lsn)(r:Int)(h:l.heard.Pairwise fun x y=>x.router<y.router)(hl:l.heard.length≤1000000)(ok:heard_a l r):heard_vc l r ((posH l.heard r:Int),decide (hitH l.heard r)):=by
 dsimp only [heard_vc,heard_x,noS,Ax.vp,Ax.vc];simp only [vcU,rfU,List.length_map]
 exact ⟨h,hl,trivial⟩
def heard_c(l:Lsn)(router:Int)(h:l.heard.Pairwise fun x y=>x.router<y.router)(hl:l.heard.length≤1000000):PC Tryz.prog:=⟨96,[(.a [.k,.k,(.s 4)]),.k],[.agg [.int l.router,.int l.epoch,.sl 4 (l.heard.map Hrd.v) false],.int router],heard_e ((posH l.heard router:Int),decide (hitH l.heard router)),PSpec.of_ok fun ok=>mxP_of (sh:=.k) (enc:=heard_e) (a:=(heard_x l router).an) (heard_p l router h hl ok) (by kernel_rfl) (AV.pureB_ok rfl),fnB_ok (by kernel_rfl)⟩
def noF(f:Flt):Bool:=f.mode==1 && (f.srcs.length:Int)==0
def noF_a(f:Flt):Prop:=okL [.agg [.int f.mode,.sl 1 (f.srcs.map AV.int) false]]
def noF_e(r:Bool):AV:=.bool r
def noF_x(f:Flt):Ax Tryz.prog noS (Bool):=
 (.br 96 (f.mode==1) (.ret (((f.srcs.map AV.int).length:Int)==0))
(.ret (false)))
def noF_vc(f:Flt)(r0:Bool):Prop:=(noF_x f).vp noF_e r0
theorem noF_p(f:Flt)(ok:noF_a f):noF_vc f (noF f):=by
 dsimp only [noF_vc,noF_x,noS,Ax.vp,Ax.vc];simp only [vcU,rfU,List.length_map]
 by_cases h:f.mode=1<;>simp [noF,h]
def noF_c(f:Flt):PC Tryz.prog:=⟨158,[(.a [.k,(.s 1)])],[.agg [.int f.mode,.sl 1 (f.srcs.map AV.int) false]],noF_e (noF f),PSpec.of_ok fun ok=>mxP_of (sh:=.k) (enc:=noF_e) (a:=(noF_x f).an) (noF_p f ok) (by kernel_rfl) (AV.pureB_ok rfl),fnB_ok (by kernel_rfl)⟩
def checkW_a(l:(List Wnt))(changes:Bool):Prop:=okL [.sl 3 (l.map Wnt.v) false,.bool changes]
def checkW_n0(l:(List Wnt))(changes:Bool)(t0:Int):NF:=⟨[(0,.k,.sl 3 (l.map Wnt.v) false),(1,.k,.bool changes),(16,.k,.sl 3 (l.map Wnt.v) false),(17,.k,.int ((l.map Wnt.v).length:Int)),(18,.k,.int t0)],[]⟩
def checkW_n1(l:(List Wnt))(changes:Bool)(t1:Int):NF:=⟨[(0,.k,.sl 3 (l.map Wnt.v) false),(1,.k,.bool changes),(31,.k,.sl 3 (l.map Wnt.v) false),(32,.k,.int ((l.map Wnt.v).length:Int)),(33,.k,.int t1)],[]⟩
def checkW_n2(l:(List Wnt))(changes:Bool)(t2:Int):NF:=⟨[(0,.k,.sl 3 (l.map Wnt.v) false),(1,.k,.bool changes),(44,.k,.sl 3 (l.map Wnt.v) false),(45,.k,.int ((l.map Wnt.v).length:Int)),(46,.k,.int t2)],[]⟩
def checkW_n3(l:(List Wnt))(t3:Int):NF:=⟨[(0,.k,.sl 3 (l.map Wnt.v) false),(12,.k,.int t3)],[]⟩
@[reducible] def checkW_s:Nat→Type
 | 0=>Int
 | 1=>Int
 | 2=>Int
 | 3=>Int
 | _=>Unit
def checkW_e(r:Int):AV:=.int r
def checkW_x(l:(List Wnt))(changes:Bool)(I0:Int→Prop)(m0:Int→Nat)(I1:Int→Int→Prop)(m1:Int→Int→Nat)(I2:Int→Int→Int→Prop)(m2:Int→Int→Int→Nat)(I3:Int→Int→Int→Int→Prop)(m3:Int→Int→Int→Int→Nat):Ax Tryz.prog checkW_s (Int):=
 (.br 64 (decide (32<((l.map Wnt.v).length:Int))) (.ret (3))
(.loop 0 (checkW_n0 l changes) I0 m0 ((0):Int) [] fun (t0:Int) b0 =>
(.br 16 (decide (t0<((l.map Wnt.v).length:Int))) (.el 16 Wnt.v l (fun R=>Rf (l.map Wnt.v) (ck (decide (0≤t0)) (ck (decide (t0<(l.length:Int)))
(∀x1,l[t0.toNat]?=some x1 →
(R x1))))) fun x1 =>
(.br 144 (decide (x1.grp<1)) (.ret (2))
(.br 208 (decide (99<x1.grp)) (.ret (2))
(.bk 0 b0 ((W (t0+1)):Int) []))))
(.loop 1 (checkW_n1 l changes) (I1 t0) (m1 t0) ((0):Int) [] fun (t1:Int) b1 =>
(.br 16 (decide (t1<((l.map Wnt.v).length:Int))) (.el 16 Wnt.v l (fun R=>Rf (l.map Wnt.v) (ck (decide (0≤t1)) (ck (decide (t1<(l.length:Int)))
(∀x2,l[t1.toNat]?=some x2 →
(R x2))))) fun x2 =>
(.callP (PVal_c (⟨x2.mode,x2.srcs⟩:Flt))
(.br 176 ((fltErr (⟨x2.mode,x2.srcs⟩:Flt).mode (⟨x2.mode,x2.srcs⟩:Flt).srcs) != 0) (.ret (fltErr (⟨x2.mode,x2.srcs⟩:Flt).mode (⟨x2.mode,x2.srcs⟩:Flt).srcs))
(.bk 1 b1 ((W (t1+1)):Int) []))))
(.loop 2 (checkW_n2 l changes) (I2 t0 t1) (m2 t0 t1) ((0):Int) [] fun (t2:Int) b2 =>
(.br 16 (decide (t2<((l.map Wnt.v).length:Int))) (.el 16 Wnt.v l (fun R=>Rf (l.map Wnt.v) (ck (decide (0≤t2)) (ck (decide (t2<(l.length:Int)))
(∀x3,l[t2.toNat]?=some x3 →
(R x3))))) fun x3 =>
(.br 128 (!changes) (.callP (noF_c (⟨x3.mode,x3.srcs⟩:Flt))
(.br 192 (noF (⟨x3.mode,x3.srcs⟩:Flt)) (.ret (1))
(.bk 2 b2 ((W (t2+1)):Int) [])))
(.bk 2 b2 ((W (t2+1)):Int) [])))
(.loop 3 (checkW_n3 l) (I3 t0 t1 t2) (m3 t0 t1 t2) ((1):Int) [] fun (t3:Int) b3 =>
(.br 64 (decide (t3<((l.map Wnt.v).length:Int))) (.el 112 Wnt.v l (fun R=>Rf (l.map Wnt.v) (ck (decide (0≤(W (t3-1)))) (ck (decide ((W (t3-1))<(l.length:Int)))
(∀x4,l[(W (t3-1)).toNat]?=some x4 →
(R x4))))) fun x4 =>
(.el 192 Wnt.v l (fun R=>Rf (l.map Wnt.v) (ck (decide (0≤t3)) (ck (decide (t3<(l.length:Int)))
(∀x5,l[t3.toNat]?=some x5 →
(R x5))))) fun x5 =>
(.br 256 (decide (x5.grp≤x4.grp)) (.ret (25))
(.bk 3 b3 ((W (t3+1)):Int) []))))
(.ret (0)))))))))))
def checkW_vc(l:(List Wnt))(changes:Bool)(I0:Int→Prop)(m0:Int→Nat)(I1:Int→Int→Prop)(m1:Int→Int→Nat)(I2:Int→Int→Int→Prop)(m2:Int→Int→Int→Nat)(I3:Int→Int→Int→Int→Prop)(m3:Int→Int→Int→Int→Nat)(r0:Int):Prop:=(checkW_x l changes I0 m0 I1 m1 I2 m2 I3 m3).vp checkW_e r0
theorem orI_at{α:Type}{l:List α}{f:α→Int}{k:Nat}{x:α}(h:∀y∈l.take k,f y=0)(hx:l[k]?=some x)(hn:f x≠0):orI (l.map f)=f x:=by
 rw [orI,find_at (k:=k) (x:=f x)]
 ·rfl
 ·intro y hy
  rw [←List.map_take] at hy
  obtain ⟨z,hz,rfl⟩:=List.mem_map.mp hy
  simp [h z hz]
 ·rw [List.getElem?_map,hx];rfl
 ·simpa using hn
theorem orI_all{α:Type}{l:List α}{f:α→Int}(h:∀y∈l,f y=0):orI (l.map f)=0:=by
 rw [orI,List.find?_eq_none.mpr];· rfl
 intro x hx;obtain ⟨z,hz,rfl⟩:=List.mem_map.mp hx;simp [h z hz]
theorem all_take{α:Type}{P:α→Prop}{l:List α}{k:Nat}{x:α}(h:∀y∈l.take k,P y)(hx:l[k]?=some x)(hp:P x):∀y∈l.take (k+1),P y:=by
 rw [take_succ hx]
 intro z hz
 rcases List.mem_append.mp hz with hz|hz
 ·exact h z hz
 ·rw [List.mem_singleton] at hz;subst hz;exact hp
theorem checkW_p(l:List Wnt)(chg:Bool)(ok:checkW_a l chg):∃I0 m0 I1 m1 I2 m2 I3 m3,checkW_vc l chg I0 m0 I1 m1 I2 m2 I3 m3 (wErr chg l):=by
 let R:Prop:=∀w∈l,1≤w.grp∧w.grp≤99
 let F:Prop:=∀w∈l,fltErr w.mode w.srcs=0
 let N:Prop:=chg=false→∀w∈l,¬isNoW w
 refine ⟨fun t=>∃k:Nat,t=k∧k≤l.length∧∀w∈l.take k,1≤w.grp∧w.grp≤99,fun t=>l.length-t.toNat,
  fun _ t=>R∧∃k:Nat,t=k∧k≤l.length∧∀w∈l.take k,fltErr w.mode w.srcs=0,fun _ t=>l.length-t.toNat,
  fun _ _ t=>R∧F∧∃k:Nat,t=k∧k≤l.length∧∀w∈l.take k,chg=false→¬isNoW w,fun _ _ t=>l.length-t.toNat,
  fun _ _ _ t=>R∧F∧N∧∃k:Nat,t=k∧1≤k∧k≤l.length+1∧∀j x y,j+1<k→l[j]?=some x→l[j+1]?=some y→x.grp<y.grp,fun _ _ _ t=>l.length+1-t.toNat,?_⟩
 dsimp only [checkW_vc,checkW_x,checkW_s,Ax.vp,Ax.vc];simp only [vcU,rfU,List.length_map]
 have hno:∀x:Wnt,noF ⟨x.mode,x.srcs⟩=true↔isNoW x:=fun x=>by simp [noF,isNoW]
 refine ⟨fun e=>by rw [wErr,if_pos (by omega)],fun e0=>⟨⟨0,rfl,by omega,by simp⟩,?_⟩⟩
 have e0:¬32<l.length:=by omega
 rintro _ ⟨k,rfl,hk,h⟩
 simp only [Int.toNat_natCast]
 refine ⟨fun h1=>⟨by omega,by omega,fun x hx=>?_⟩,fun h1=>?_⟩
 ·have bad:¬(1≤x.grp∧x.grp≤99)→2=wErr chg l:=fun h=>by
   rw [wErr,if_neg e0,if_pos fun h'=>h (h' x (mem_of_get hx))]
  refine ⟨fun e=>bad (by omega),fun e1=>⟨fun e=>bad (by omega),fun e2=>?_⟩⟩
  rw [W_succ (n:=l.length) (by omega) (by omega)]
  exact ⟨⟨k+1,rfl,by omega,all_take h hx ⟨by omega,by omega⟩⟩,by omega⟩
 rw [List.take_of_length_le (by omega)] at h
 have hR:R:=h
 have w1:wErr chg l=if wFErrs l≠0 then wFErrs l else if chg=false∧∃w∈l,isNoW w then 1 else if ¬(l.Pairwise fun x y=>x.grp<y.grp) then 25 else 0:=by
  rw [wErr,if_neg e0,if_neg (fun h=>h hR)]
 clear h h1 hk k
 refine ⟨⟨hR,0,rfl,by omega,by simp⟩,?_⟩
 rintro _ ⟨-,k,rfl,hk,h⟩
 simp only [Int.toNat_natCast]
 refine ⟨fun h1=>⟨by omega,by omega,fun x hx=>⟨fun e=>?_,fun e=>?_⟩⟩,fun h1=>?_⟩
 ·have e:fltErr x.mode x.srcs≠0:=by simpa using e
  have:wFErrs l=fltErr x.mode x.srcs:=orI_at (f:=fun x:Wnt=>fltErr x.mode x.srcs) h hx e
  rw [w1,this,if_pos e]
 ·rw [W_succ (n:=l.length) (by omega) (by omega)]
  exact ⟨⟨hR,k+1,rfl,by omega,all_take h hx (by simpa using e)⟩,by omega⟩
 rw [List.take_of_length_le (by omega)] at h
 have hF:F:=h
 have w2:wErr chg l=if chg=false∧∃w∈l,isNoW w then 1 else if ¬(l.Pairwise fun x y=>x.grp<y.grp) then 25 else 0:=by
  rw [w1,if_neg (fun hh=>hh (orI_all hF))]
 clear h h1 hk k
 refine ⟨⟨hR,hF,0,rfl,by omega,by simp⟩,?_⟩
 rintro _ ⟨-,-,k,rfl,hk,h⟩
 simp only [Int.toNat_natCast]
 refine ⟨fun h1=>⟨by omega,by omega,fun x hx=>?_⟩,fun h1=>?_⟩
 ·have step:(chg=false→¬isNoW x)→(R∧F∧∃k':Nat,W ((k:Int)+1)=k'∧k'≤l.length∧∀w∈l.take k',chg=false→¬isNoW w)∧l.length-(W ((k:Int)+1)).toNat<l.length-k:=by
   intro hs
   rw [W_succ (n:=l.length) (by omega) (by omega)]
   exact ⟨⟨hR,hF,k+1,rfl,by omega,all_take h hx hs⟩,by omega⟩
  refine ⟨fun e=>⟨fun e2=>?_,fun e2=>step fun _ hn=>?_⟩,fun e=>step fun hc=>?_⟩
  ·rw [w2,if_pos ⟨by simpa using e,x,mem_of_get hx,(hno x).mp e2⟩]
  ·rw [(hno x).mpr hn] at e2;cases e2
  ·simp [hc] at e
 rw [List.take_of_length_le (by omega)] at h
 have hN:N:=fun hc w hw=>h w hw hc
 have w3:wErr chg l=if ¬(l.Pairwise fun x y=>x.grp<y.grp) then 25 else 0:=by
  rw [w2,if_neg (fun ⟨hc,w,hw,hn⟩=>hN hc w hw hn)]
 clear h h1 hk k
 refine ⟨⟨hR,hF,hN,1,rfl,by omega,by omega,fun j x y hj=>by omega⟩,?_⟩
 rintro _ ⟨-,-,-,k,rfl,hk1,hk,h⟩
 refine ⟨fun h1=>?_,fun h1=>?_⟩
 ·rw [W_pred (by omega) hk1]
  simp only [Int.toNat_natCast]
  refine ⟨by omega,by omega,fun x hx=>⟨by omega,by omega,fun y hy=>⟨fun e=>?_,fun e=>?_⟩⟩⟩
  ·rw [w3,if_pos]
   intro hp
   have:x.grp<y.grp:=pw_get hp (show k-1<k by omega) hx hy
   omega
  ·rw [W_succ (n:=l.length) (by omega) (by omega)]
   refine ⟨⟨hR,hF,hN,k+1,rfl,by omega,by omega,fun j x' y' hj hx' hy'=>?_⟩,by omega⟩
   by_cases e':j+1=k
   ·subst e'
    rw [show j+1-1=j by omega,hx'] at hx;cases hx
    rw [hy'] at hy;cases hy;omega
   ·exact h j x' y' (by omega) hx' hy'
 ·rw [w3,if_neg]
  exact fun hh=>hh (pw_adj fun j x y hx hy=>h j x y (by have:=lt_of_get hy;omega) hx hy)
def checkW_c(l:(List Wnt))(changes:Bool):PC Tryz.prog:=⟨152,[(.s 3),.k],[.sl 3 (l.map Wnt.v) false,.bool changes],checkW_e (wErr changes l),PSpec.of_ok fun ok=>(checkW_p l changes ok).elim fun I0 h=>h.elim fun m0 h=>h.elim fun I1 h=>h.elim fun m1 h=>h.elim fun I2 h=>h.elim fun m2 h=>h.elim fun I3 h=>h.elim fun m3 h=>mxP_of (sh:=.k) (enc:=checkW_e) (a:=(checkW_x l changes I0 m0 I1 m1 I2 m2 I3 m3).an) h (by kernel_rfl) (AV.pureB_ok rfl),fnB_ok (by kernel_rfl)⟩
def valW_a(l:(List Wnt)):Prop:=okL [.sl 3 (l.map Wnt.v) false]
def valW_e(r:Int):AV:=.int r
def valW_x(l:(List Wnt)):Ax Tryz.prog noS (Int):=
 (.callP (checkW_c l false)
(.ret (wErr false l)))
def valW_vc(l:(List Wnt))(r0:Int):Prop:=(valW_x l).vp valW_e r0
theorem valW_p(l:List Wnt)(ok:valW_a l):valW_vc l (wErr false l):=by
 dsimp only [valW_vc,valW_x,noS,Ax.vp,Ax.vc];simp only [vcU,rfU,List.length_map]
def valW_c(l:(List Wnt)):PC Tryz.prog:=⟨102,[(.s 3)],[.sl 3 (l.map Wnt.v) false],valW_e (wErr false l),PSpec.of_ok fun ok=>mxP_of (sh:=.k) (enc:=valW_e) (a:=(valW_x l).an) (valW_p l ok) (by kernel_rfl) (AV.pureB_ok rfl),fnB_ok (by kernel_rfl)⟩
def copiedW_a(w:Wnt):Prop:=okL [.agg [.int w.grp,.int w.mode,.sl 1 (w.srcs.map AV.int) false]]
def copiedW_e(r:Wnt):AV:=Wnt.v r
def copiedW_x(w:Wnt):Ax Tryz.prog noS (Wnt):=
 (.req 80 (w.srcs.length≤1000000) fun h1 =>
(.callP (cloneI_c w.srcs h1)
(.ret (w))))
def copiedW_vc(w:Wnt)(r0:Wnt):Prop:=(copiedW_x w).vp copiedW_e r0
theorem copiedW_p(w:Wnt)(h:w.srcs.length≤1000000)(ok:copiedW_a w):copiedW_vc w w:=by
 dsimp only [copiedW_vc,copiedW_x,noS,Ax.vp,Ax.vc];simp only [vcU,rfU,List.length_map]
 exact ⟨h,trivial⟩
def copiedW_c(w:Wnt)(h:w.srcs.length≤1000000):PC Tryz.prog:=⟨106,[(.a [.k,.k,(.s 1)])],[.agg [.int w.grp,.int w.mode,.sl 1 (w.srcs.map AV.int) false]],copiedW_e w,PSpec.of_ok fun ok=>mxP_of (sh:=(.a [.k,.k,(.s 1)])) (enc:=copiedW_e) (a:=(copiedW_x w).an) (copiedW_p w h ok) (by kernel_rfl) (AV.pureB_ok rfl),fnB_ok (by kernel_rfl)⟩
structure Bnd where
  lo:Int
  hi:Int
structure Frm where
  l0:Int
  h0:Int
  l1:Int
  h1:Int
  l2:Int
  h2:Int
  l3:Int
  h3:Int
  l4:Int
  h4:Int
def Frm.v(b:Frm):AV:=.agg [.int b.l0,.int b.h0,.int b.l1,.int b.h1,.int b.l2,.int b.h2,.int b.l3,.int b.h3,.int b.l4,.int b.h4]
def hasB(b:Bnd)(n:Int):Bool:=decide (b.lo≤n) && decide (n≤b.hi)
def hasB_a(b:Bnd)(n:Int):Prop:=okL [.agg [.int b.lo,.int b.hi],.int n]
def hasB_e(r:Bool):AV:=.bool r
def hasB_x(b:Bnd)(n:Int):Ax Tryz.prog noS (Bool):=
 (.br 112 (decide (b.lo≤n)) (.ret (decide (n≤b.hi)))
(.ret (false)))
def hasB_vc(b:Bnd)(n:Int)(r0:Bool):Prop:=(hasB_x b n).vp hasB_e r0
theorem hasB_p(b:Bnd)(n:Int)(ok:hasB_a b n):hasB_vc b n (hasB b n):=by
 dsimp only [hasB_vc,hasB_x,noS,Ax.vp,Ax.vc];simp only [vcU,rfU,List.length_map]
 by_cases h:b.lo≤n<;>simp [hasB,h]
def hasB_c(b:Bnd)(n:Int):PC Tryz.prog:=⟨145,[.k,.k],[.agg [.int b.lo,.int b.hi],.int n],hasB_e (hasB b n),PSpec.of_ok fun ok=>mxP_of (sh:=.k) (enc:=hasB_e) (a:=(hasB_x b n).an) (hasB_p b n ok) (by kernel_rfl) (AV.pureB_ok rfl),fnB_ok (by kernel_rfl)⟩
def formsF(s:Sig):Frm×Bool:=
 if s.kind=1 then (⟨1,1000000,0,1000000,0,0,0,0,0,0⟩,true)
 else if s.kind=2 then (⟨1,1000000,1,1000000,0,W (s.ver-1),0,0,1,99⟩,true)
 else if s.kind=3 then (⟨0,1000000,0,1000000,0,0,1,1000000,0,0⟩,true)
 else (⟨0,0,0,0,0,0,0,0,0,0⟩,false)
def forms_a(s:Sig):Prop:=okL [.agg [.int s.kind,.int s.src,.int s.dst,.int s.epoch,.int s.ver,.int s.prev,.int s.pep,.int s.grp,.int s.mode,.sl 1 (s.srcs.map AV.int) false]]
def forms_e(r:Frm×Bool):AV:=.tup [Frm.v r.1,.bool r.2]
def forms_x(s:Sig):Ax Tryz.prog noS (Frm×Bool):=
 (.br 112 (s.kind==1) (.ret ((⟨1,1000000,0,1000000,0,0,0,0,0,0⟩:Frm),true))
(.br 144 (s.kind==2) (.ret ((⟨1,1000000,1,1000000,0,W (s.ver-1),0,0,1,99⟩:Frm),true))
(.br 176 (s.kind==3) (.ret ((⟨0,1000000,0,1000000,0,0,1,1000000,0,0⟩:Frm),true))
(.ret ((⟨0,0,0,0,0,0,0,0,0,0⟩:Frm),false)))))
def forms_vc(s:Sig)(r0:Frm×Bool):Prop:=(forms_x s).vp forms_e r0
theorem forms_p(s:Sig)(ok:forms_a s):forms_vc s (formsF s):=by
 dsimp only [forms_vc,forms_x,noS,Ax.vp,Ax.vc];simp only [vcU,rfU,List.length_map]
 refine ⟨fun e=>?_,fun e=>⟨fun e2=>?_,fun e2=>⟨fun e3=>?_,fun e3=>?_⟩⟩⟩
 all_goals simp at *
 all_goals simp [formsF, *]
def forms_c(s:Sig):PC Tryz.prog:=⟨144,[(.a [.k,.k,.k,.k,.k,.k,.k,.k,.k,(.s 1)])],[.agg [.int s.kind,.int s.src,.int s.dst,.int s.epoch,.int s.ver,.int s.prev,.int s.pep,.int s.grp,.int s.mode,.sl 1 (s.srcs.map AV.int) false]],forms_e (formsF s),PSpec.of_ok fun ok=>mxP_of (sh:=.k) (enc:=forms_e) (a:=(forms_x s).an) (forms_p s ok) (by kernel_rfl) (AV.pureB_ok rfl),fnB_ok (by kernel_rfl)⟩
theorem hasB_iff{b:Bnd}{n:Int}:hasB b n=true↔b.lo≤n∧n≤b.hi:=by simp [hasB]
def numL(s:Sig):List Int:=[s.epoch,s.ver,s.prev,s.pep,s.grp]
def bndL(f:Frm):List Bnd:=[⟨f.l0,f.h0⟩,⟨f.l1,f.h1⟩,⟨f.l2,f.h2⟩,⟨f.l3,f.h3⟩,⟨f.l4,f.h4⟩]
theorem five{p:Int→Bnd→Prop}{s:Sig}{f:Frm}:(∀(j:Nat) x b,(numL s)[j]?=some x→(bndL f)[j]?=some b→p x b)↔p s.epoch ⟨f.l0,f.h0⟩∧p s.ver ⟨f.l1,f.h1⟩∧p s.prev ⟨f.l2,f.h2⟩∧p s.pep ⟨f.l3,f.h3⟩∧p s.grp ⟨f.l4,f.h4⟩:=by
 refine ⟨fun h=>⟨h 0 _ _ rfl rfl,h 1 _ _ rfl rfl,h 2 _ _ rfl rfl,h 3 _ _ rfl rfl,h 4 _ _ rfl rfl⟩,fun ⟨h0,h1,h2,h3,h4⟩ j x b hx hb=>?_⟩
 rcases j with _|_|_|_|_|j<;>simp [numL,bndL] at hx hb<;>subst hx hb<;>assumption
theorem nums_iff{s:Sig}(hv:-9223372036854775808≤s.ver∧s.ver≤9223372036854775807)(hk:(formsF s).2=true) :
  sigNums s↔∀(j:Nat) x b,(numL s)[j]?=some x→(bndL (formsF s).1)[j]?=some b→hasB b x=true:=by
 rw [five (p:=fun x b=>hasB b x=true)]
 simp only [hasB_iff]
 by_cases e1:s.kind=1
 ·simp [formsF,sigNums,e1];omega
 ·by_cases e2:s.kind=2
  ·simp only [formsF,sigNums,if_neg e1,if_pos e2]
   constructor
   ·rintro ⟨h0,h1,h2,h3,h4⟩
    rw [W_eq (by omega)];omega
   ·rintro ⟨h0,h1,h2,h3,h4⟩
    rw [W_eq (by omega)] at h2;omega
  ·by_cases e3:s.kind=3
   ·simp [formsF,sigNums,e3];omega
   ·simp [formsF,e1,e2,e3] at hk
theorem forms_iff{s:Sig}:(formsF s).2=true↔s.kind=1∨s.kind=2∨s.kind=3:=by
 by_cases e1:s.kind=1
 ·simp [formsF,e1]
 ·by_cases e2:s.kind=2
  ·simp [formsF,e2]
  ·by_cases e3:s.kind=3<;>simp [formsF,e1,e2,e3]
def sigV_a(s:Sig):Prop:=okL [.agg [.int s.kind,.int s.src,.int s.dst,.int s.epoch,.int s.ver,.int s.prev,.int s.pep,.int s.grp,.int s.mode,.sl 1 (s.srcs.map AV.int) false]]
def sigV_n0(s:Sig)(t0:Int):NF:=⟨[(1,.k,.ref 0 0),(3,.k,.ref 1 0),(45,.k,.agg [.int s.epoch,.int s.ver,.int s.prev,.int s.pep,.int s.grp]),(46,.k,.int t0)],[.box (.agg [.int s.kind,.int s.src,.int s.dst,.int s.epoch,.int s.ver,.int s.prev,.int s.pep,.int s.grp,.int s.mode,.sl 1 (s.srcs.map AV.int) false]),.box (.agg [.int (((formsF s).1).l0),.int (((formsF s).1).h0),.int (((formsF s).1).l1),.int (((formsF s).1).h1),.int (((formsF s).1).l2),.int (((formsF s).1).h2),.int (((formsF s).1).l3),.int (((formsF s).1).h3),.int (((formsF s).1).l4),.int (((formsF s).1).h4)])]⟩
@[reducible] def sigV_s:Nat→Type
 | 0=>Int
 | _=>Unit
def sigV_e(r:Int):AV:=.int r
def sigV_x(s:Sig)(I0:Int→Prop)(m0:Int→Nat):Ax Tryz.prog sigV_s (Int):=
 (.callP (forms_c s)
(.br 192 (!((formsF s).2)) (.ret (1))
(.callP (hasB_c (⟨1,99⟩:Bnd) s.src)
(.br 336 (!(hasB (⟨1,99⟩:Bnd) s.src)) (.ret (2))
(.callP (hasB_c (⟨1,99⟩:Bnd) s.dst)
(.br 448 (!(hasB (⟨1,99⟩:Bnd) s.dst)) (.ret (2))
(.br 544 (s.src==s.dst) (.ret (2))
(.loop 0 (sigV_n0 s) I0 m0 ((0):Int) [0,112] fun (t0:Int) b0 =>
(.br 18 (decide (t0<5)) (.el 34 AV.int ([s.epoch,s.ver,s.prev,s.pep,s.grp]:List Int) (fun R=>Rf (([s.epoch,s.ver,s.prev,s.pep,s.grp]:List Int).map AV.int) (ck (decide (0≤t0)) (ck (decide (t0<5)) (ck (decide (t0.toNat<([s.epoch,s.ver,s.prev,s.pep,s.grp]:List Int).length))
(∀x1,([s.epoch,s.ver,s.prev,s.pep,s.grp]:List Int)[t0.toNat]?=some x1 →
(R x1)))))) fun x1 =>
(.say (ck (cond (decide (0≤t0)) (decide (t0<5)) false)) (.elA 114 (fun x:Bnd=>[.int x.lo,.int x.hi]) [(⟨((formsF s).1).l0,((formsF s).1).h0⟩:Bnd),(⟨((formsF s).1).l1,((formsF s).1).h1⟩:Bnd),(⟨((formsF s).1).l2,((formsF s).1).h2⟩:Bnd),(⟨((formsF s).1).l3,((formsF s).1).h3⟩:Bnd),(⟨((formsF s).1).l4,((formsF s).1).h4⟩:Bnd)] (t0.toNat) 2 (fun _=>rfl) (fun R=>Rf (α:=List AV) ([.int (((formsF s).1).l0),.int (((formsF s).1).h0),.int (((formsF s).1).l1),.int (((formsF s).1).h1),.int (((formsF s).1).l2),.int (((formsF s).1).h2),.int (((formsF s).1).l3),.int (((formsF s).1).h3),.int (((formsF s).1).l4),.int (((formsF s).1).h4)]) (((0+(t0.toNat * 2))=t0.toNat * 2)∧(ck (decide (t0.toNat<[(⟨((formsF s).1).l0,((formsF s).1).h0⟩:Bnd),(⟨((formsF s).1).l1,((formsF s).1).h1⟩:Bnd),(⟨((formsF s).1).l2,((formsF s).1).h2⟩:Bnd),(⟨((formsF s).1).l3,((formsF s).1).h3⟩:Bnd),(⟨((formsF s).1).l4,((formsF s).1).h4⟩:Bnd)].length))
(∀x2,[(⟨((formsF s).1).l0,((formsF s).1).h0⟩:Bnd),(⟨((formsF s).1).l1,((formsF s).1).h1⟩:Bnd),(⟨((formsF s).1).l2,((formsF s).1).h2⟩:Bnd),(⟨((formsF s).1).l3,((formsF s).1).h3⟩:Bnd),(⟨((formsF s).1).l4,((formsF s).1).h4⟩:Bnd)][t0.toNat]?=some x2 →
(R x2))))) fun x2 =>
(.callP (hasB_c x2 x1)
(.br 178 (!(hasB x2 x1)) (.ret (2))
(.bk 0 b0 ((W (t0+1)):Int) [0,1]))))))
(.br 66 (s.kind==2) (.callP (PVal_c (⟨s.mode,s.srcs⟩:Flt))
(.ret (fltErr (⟨s.mode,s.srcs⟩:Flt).mode (⟨s.mode,s.srcs⟩:Flt).srcs)))
(.br 146 (s.mode != 0) (.ret (1))
(.br 242 (decide (0<((s.srcs.map AV.int).length:Int))) (.ret (1))
(.ret (0))))))))))))))
def sigV_vc(s:Sig)(I0:Int→Prop)(m0:Int→Nat)(r0:Int):Prop:=(sigV_x s I0 m0).vp sigV_e r0
theorem sigV_p(s:Sig)(ok:sigV_a s):∃I m,sigV_vc s I m (sigErr s):=by
 simp only [sigV_a,okU,Blk.ok,plainV,List.length_map] at ok
 refine ⟨fun t=>∃k:Nat,t=k∧k≤5∧∀(j:Nat) x b,j<k→(numL s)[j]?=some x→(bndL (formsF s).1)[j]?=some b→hasB b x=true,fun t=>5-t.toNat,?_⟩
 dsimp only [sigV_vc,sigV_x,sigV_s,Ax.vp,Ax.vc];simp only [vcU,rfU,List.length_map]
 have hv:-9223372036854775808≤s.ver∧s.ver≤9223372036854775807:=ok.2.2.2.2.1
 refine ⟨fun e=>?_,fun e0=>?_⟩
 ·rw [sigErr,if_pos (fun h=>by rw [forms_iff.mpr h] at e;cases e)]
 have e0:(formsF s).2=true:=by simpa using e0
 have hk:=forms_iff.mp e0
 have bad:¬(sigEnds s∧sigNums s)→2=sigErr s:=fun h=>by rw [sigErr,if_neg (fun h=>h hk),if_pos h]
 refine ⟨fun e=>bad fun h=>?_,fun e1=>⟨fun e=>bad fun h=>?_,fun e2=>⟨fun e=>bad fun h=>?_,fun e3=>?_⟩⟩⟩
 ·have:=h.1.1;rw [hasB_iff.mpr this] at e;cases e
 ·have:=h.1.2.1;rw [hasB_iff.mpr this] at e;cases e
 ·have:=h.1.2.2;simp at e;exact this e
 have e1:=hasB_iff.mp (Bool.not_eq_false' .. ▸ e1:hasB ⟨1,99⟩ s.src=true)
 have e2:=hasB_iff.mp (Bool.not_eq_false' .. ▸ e2:hasB ⟨1,99⟩ s.dst=true)
 have hE:sigEnds s:=⟨e1,e2,by simpa using e3⟩
 refine ⟨⟨0,rfl,by omega,fun j x b hj=>by omega⟩,?_⟩
 rintro _ ⟨k,rfl,hk5,h⟩
 simp only [Int.toNat_natCast]
 refine ⟨fun h1=>⟨by omega,by omega,by simp;omega,fun x hx=>⟨by simp;omega,by omega,by simp;omega,fun b hb=>⟨fun e=>bad fun hs=>?_,fun e=>?_⟩⟩⟩,fun h1=>?_⟩
 ·have:=(nums_iff hv e0).mp hs.2 k x b hx hb
  rw [this] at e;cases e
 ·have e:hasB b x=true:=by simpa using e
  rw [W_succ (n:=5) (by omega) (by omega)]
  refine ⟨⟨k+1,rfl,by omega,fun j y c hj hy hc=>?_⟩,by omega⟩
  by_cases e':j=k
  ·subst e'
   have hy:=hy.symm.trans hx
   have hc:=hc.symm.trans hb
   cases hy;cases hc;exact e
  ·exact h j y c (by omega) hy hc
 have hN:sigNums s:=(nums_iff hv e0).mpr fun j x b hx hb=>h j x b (by have:=lt_of_get hx;simp [numL] at this;omega) hx hb
 have fin:sigErr s=if s.kind=2 then fltErr s.mode s.srcs else if s.mode≠0∨s.srcs≠[] then 1 else 0:=by
  rw [sigErr,if_neg (fun h=>h hk),if_neg (fun h=>h ⟨hE,hN⟩)]
 rw [fin]
 refine ⟨fun e=>by rw [if_pos (by simpa using e)],fun e=>?_⟩
 have e:¬s.kind=2:=by simpa using e
 rw [if_neg e]
 refine ⟨fun e=>by rw [if_pos (.inl (by simpa using e))],fun e1=>⟨fun e=>?_,fun e=>?_⟩⟩
 ·rw [if_pos (.inr fun h=>by rw [h] at e;simp at e)]
 ·rw [if_neg]
  rintro (h|h)
  ·exact h (by simpa using e1)
  ·exact h (List.eq_nil_of_length_eq_zero (by omega))
def sigV_c(s:Sig):PC Tryz.prog:=⟨88,[(.a [.k,.k,.k,.k,.k,.k,.k,.k,.k,(.s 1)])],[.agg [.int s.kind,.int s.src,.int s.dst,.int s.epoch,.int s.ver,.int s.prev,.int s.pep,.int s.grp,.int s.mode,.sl 1 (s.srcs.map AV.int) false]],sigV_e (sigErr s),PSpec.of_ok fun ok=>(sigV_p s ok).elim fun I0 h=>h.elim fun m0 h=>mxP_of (sh:=.k) (enc:=sigV_e) (a:=(sigV_x s I0 m0).an) h (by kernel_rfl) (AV.pureB_ok rfl),fnB_ok (by kernel_rfl)⟩
end Go.Proofs.YtkanhopflelmdaaGreatDoor
