/- Texts joined: G1 G2 V1 V2 V3 U1 V4 V5 U3 U4 G3 G4. -/
import Derived.Test.YtgnogboljobocaaGreatDoorQT3
set_option linter.unusedVariables false
set_option linter.unusedSimpArgs false
namespace Go.Proofs.YtgnogboljobocaaGreatDoor
open Go Go.Am
def ints(l:List Int):AV:=.sl 1 (l.map .int) false
def ascI(l:List Int):Prop:=∀i,i<l.length-1→l.getD i 0<l.getD (i+1) 0
instance (l:List Int):Decidable (ascI l):=by unfold ascI;infer_instance
def rngI(l:List Int):Prop:=∀s∈l,1≤s∧s≤99
instance (l:List Int):Decidable (rngI l):=by unfold rngI;infer_instance
def fltErr(m:Int)(l:List Int):Int:=if ¬(m=1∨m=2) then 1 else if ¬rngI l then 2 else if ¬ascI l then 25 else 0
theorem getD_get{l:List Int}{i:Nat}(h:i<l.length):l.getD i 0=l[i]:=by
 simp [List.getD_eq_getElem?_getD,List.getElem?_eq_getElem h]
theorem getD_of_get{l:List Int}{i:Nat}{x:Int}(h:l[i]?=some x):l.getD i 0=x:=by
 simp [List.getD_eq_getElem?_getD,h]
def orI(l:List Int):Int:=(l.find? (· != 0)).getD 0
def cmpI(x y:Int):Int:=if x<y then -1 else if y<x then 1 else 0
def isNaN(x:Int):Bool:=false
theorem W_succ{k n:Nat}(h:k<n)(hn:n≤9223372036854775807):W ((k:Int)+1)=((k+1:Nat):Int):=by rw [W_eq (by omega)];omega
theorem W_pred{k:Nat}(h:k≤9223372036854775807)(h1:1≤k):W ((k:Int)-1)=((k-1:Nat):Int):=by rw [W_eq (by omega)];omega
def isNaN_a(x:Int):Prop:=okL [.int x]
def isNaN_s:Nat→Type
 | _=>Unit
def isNaN_e(r:Bool):AV:=.bool r
def isNaN_vc(x:Int)(r0:Bool):Prop:=
 Rp isNaN_e (x != x) r0
theorem isNaN_p(x:Int)(ok:isNaN_a x):isNaN_vc x (isNaN x):=by
 simp only [isNaN_vc,vcU,rfU,List.length_map]
 simp [isNaN]
def isNaN_c(x:Int):PC Tryz.prog:=⟨211,[.k],[.int x],isNaN_e (isNaN x),PSpec.of_ok fun ok=>mxP_of (sh:=.k) (enc:=isNaN_e) (a:=((.ret (x != x)):An Tryz.prog isNaN_s (Bool))) (isNaN_p x ok) (by kernel_rfl) (AV.pureB_ok rfl),fnB_ok (by kernel_rfl)⟩
def cmpI_a(x:Int)(y:Int):Prop:=okL [.int x,.int y]
def cmpI_s:Nat→Type
 | _=>Unit
def cmpI_e(r:Int):AV:=.int r
def cmpI_vc(x:Int)(y:Int)(r0:Int):Prop:=
 Cl (isNaN_c x)
 (Cl (isNaN_c y)
 (br (isNaN x)
 (br (isNaN y)
 (Rp cmpI_e (0) r0)
 (Rp cmpI_e (-1) r0))
 (br (isNaN y)
 (Rp cmpI_e (1) r0)
 (br (decide (x<y))
 (Rp cmpI_e (-1) r0)
 (br (decide (y<x))
 (Rp cmpI_e (1) r0)
 (Rp cmpI_e (0) r0))))))
theorem cmpI_p(x y:Int)(ok:cmpI_a x y):cmpI_vc x y (cmpI x y):=by
 simp only [cmpI_vc,vcU,rfU,List.length_map]
 simp only [isNaN,Bool.false_eq_true,false_implies,true_implies,true_and,cmpI]
 refine ⟨fun h=>by rw [if_pos h],fun h=>⟨fun h2=>by rw [if_neg h,if_pos h2],fun h2=>by rw [if_neg h,if_neg h2]⟩⟩
def cmpI_c(x:Int)(y:Int):PC Tryz.prog:=⟨156,[.k,.k],[.int x,.int y],cmpI_e (cmpI x y),PSpec.of_ok fun ok=>mxP_of (sh:=.k) (enc:=cmpI_e) (a:=((.callP (isNaN_c x)
 (.callP (isNaN_c y)
 (.br 128 (.br 144 (.ret (0))
 (.ret (-1)))
 (.br 144 (.ret (1))
 (.br 192 (.ret (-1))
 (.br 240 (.ret (1))
 (.ret (0)))))))):An Tryz.prog cmpI_s (Int))) (cmpI_p x y ok) (by kernel_rfl) (AV.pureB_ok rfl),fnB_ok (by kernel_rfl)⟩
theorem find_take{l:List Int}{k:Nat}{x:Int}(h:l.take k |>.all (·==0))(hx:l[k]?=some x)(hn:x≠0):l.find? (· != 0)=some x:=by
 rw [List.find?_eq_some_iff_getElem]
 refine ⟨by simpa using hn,k,lt_of_get hx,by rw [List.getElem?_eq_getElem (lt_of_get hx)] at hx;exact Option.some.inj hx,fun j hj=>?_⟩
 have:=List.all_eq_true.mp h (l[j]'(by have:=lt_of_get hx;omega)) (List.mem_take_iff_getElem.mpr ⟨j,by have:=lt_of_get hx;omega,rfl⟩)
 simpa using this
def orI_a(vals:(List Int)):Prop:=okL [.sl 1 (vals.map AV.int) false]
def orI_n0(vals:(List Int))(t0:Int):NF:=⟨[(3,.k,.int 0),(6,.k,.sl 1 (vals.map AV.int) false),(7,.k,.int ((vals.map AV.int).length:Int)),(8,.k,.int t0)],[]⟩
def orI_s:Nat→Type
 | 0=>Int
 | _=>Unit
def orI_e(r:Int):AV:=.int r
def orI_vc(vals:(List Int))(I0:Int→Prop)(m0:Int→Nat)(r0:Int):Prop:=
 Be (orI_n0 vals) [] I0 (0)∧∀t0,I0 t0 →
 br (decide (t0<((vals.map AV.int).length:Int)))
 (Rf (vals.map AV.int) (ck (decide (0≤t0)) (ck (decide (t0<(vals.length:Int)))
 (∀x1,vals[t0.toNat]?=some x1 →
 br (x1 != 0)
 (Rp orI_e (x1) r0)
 (Bk (orI_n0 vals) [] I0 m0 (W (t0+1)) t0)))))
 (Rp orI_e (0) r0)
theorem orI_p(vals:List Int)(ok:orI_a vals):∃I m,orI_vc vals I m (orI vals):=by
 simp only [orI_a,okU,Blk.ok,plainV,List.length_map] at ok
 refine ⟨fun t=>∃k:Nat,t=k∧k≤vals.length∧(vals.take k).all (·==0),fun t=>vals.length-t.toNat,?_⟩
 simp only [orI_vc,vcU,rfU,List.length_map]
 refine ⟨⟨0,rfl,by omega,by simp⟩,?_⟩
 rintro _ ⟨k,rfl,hk,h⟩
 refine ⟨fun h1=>⟨by omega,by omega,fun x hx=>⟨fun hn=>?_,fun hn=>?_⟩⟩,fun h1=>?_⟩
 ·rw [Int.toNat_natCast] at hx
  rw [orI,find_take h hx (by simpa using hn)];rfl
 ·rw [Int.toNat_natCast] at hx
  have hlt:=lt_of_get hx
  rw [W_succ (n:=vals.length) (by omega) (by omega)]
  refine ⟨⟨k+1,rfl,by omega,?_⟩,by omega⟩
  rw [take_succ hx,List.all_append,h];simpa using hn
 ·rw [List.take_of_length_le (by omega)] at h
  rw [orI,List.find?_eq_none.mpr]
  ·rfl
  ·intro x hx;simpa using List.all_eq_true.mp h x hx
def orI_c(vals:(List Int)):PC Tryz.prog:=⟨141,[(.s 1)],[.sl 1 (vals.map AV.int) false],orI_e (orI vals),PSpec.of_ok fun ok=>(orI_p vals ok).elim fun I0 h=>h.elim fun m0 h=>mxP_of (sh:=.k) (enc:=orI_e) (a:=((.loop 0 (orI_n0 vals) (I0) (m0) ((0):Int) [] fun (t0:Int) =>
 (.br 16 (.el 16 AV.int vals fun x1 =>
 (.br 112 (.ret (x1))
 (.back 0 ((W (t0+1)):Int) [])))
 (.ret (0)))):An Tryz.prog orI_s (Int))) h (by kernel_rfl) (AV.pureB_ok rfl),fnB_ok (by kernel_rfl)⟩
def cloneI_a(s:(List Int)):Prop:=okL [.sl 1 (s.map AV.int) false]
def cloneI_s:Nat→Type
 | _=>Unit
def cloneI_e(r:(List Int)):AV:=.sl 1 (r.map AV.int) false
def cloneI_vc(s:(List Int))(r0:(List Int)):Prop:=
 ∀b1:Bool,((s.map AV.int)≠[]→b1=false) →
 br (b1 != false)
 (Rp cloneI_e ([]) r0)
 (Rf (α:=List AV) [] (Rf (α:=List AV) (s.map AV.int)
 (ck (decide (0+s.length≤1000000))
 (Rf (s.map AV.int) (Rp cloneI_e (s) r0)))))
theorem cloneI_p(s:List Int)(h:s.length≤1000000)(ok:cloneI_a s):cloneI_vc s s:=by
 simp only [cloneI_vc,vcU,rfU,List.length_map]
 intro b hb
 simp only [pureBL_int,true_and,and_true,Nat.zero_add]
 refine ⟨fun h1=>?_,fun _=>h⟩
 cases s with
 | nil=>rfl
 | cons x s=>simp at hb;simp [hb] at h1
def cloneI_c(s:(List Int))(h:s.length≤1000000):PC Tryz.prog:=⟨205,[(.s 1)],[.sl 1 (s.map AV.int) false],cloneI_e s,PSpec.of_ok fun ok=>mxP_of (sh:=(.s 1)) (enc:=cloneI_e) (a:=((.br 48 (.ret ([]))
 (.app 80 AV.int [] s
 (.cmdL (.frzE 80 (s.map AV.int) (pureBL_map (fun _=>rfl) s)) (.ret (s))))):An Tryz.prog cloneI_s ((List Int)))) (cloneI_p s h ok) (by kernel_rfl) (AV.pureB_ok rfl),fnB_ok (by kernel_rfl)⟩
theorem take_eq{a b:List Int}{k:Nat}{x y:Int}(h:a.take k=b.take k)(hx:a[k]?=some x)(hy:b[k]?=some y)(e:(x != y)=false):a.take (k+1)=b.take (k+1):=by
 have e:x=y:=by simpa using e
 rw [take_succ hx,take_succ hy,h,e]
def IntsEq(a b:List Int):Bool:=decide (a=b)
abbrev EqI:=IntsEq
def IntsEq_a(a:(List Int))(b:(List Int)):Prop:=okL [.sl 1 (a.map AV.int) false,.sl 1 (b.map AV.int) false]
def IntsEq_n0(a:(List Int))(b:(List Int))(t0:Int):NF:=⟨[(0,.k,.sl 1 (a.map AV.int) false),(1,.k,.sl 1 (b.map AV.int) false),(5,.k,.int t0)],[]⟩
def IntsEq_s:Nat→Type
 | 0=>Int
 | _=>Unit
def IntsEq_e(r:Bool):AV:=.bool r
def IntsEq_vc(a:(List Int))(b:(List Int))(I0:Int→Prop)(m0:Int→Nat)(r0:Bool):Prop:=
 br (((a.map AV.int).length:Int) != ((b.map AV.int).length:Int))
 (Rp IntsEq_e (false) r0)
 (Be (IntsEq_n0 a b) [] I0 (0)∧∀t0,I0 t0 →
 br (decide (t0<((a.map AV.int).length:Int)))
 (Rf (a.map AV.int) (ck (decide (0≤t0)) (ck (decide (t0<(a.length:Int)))
 (∀x1,a[t0.toNat]?=some x1 →
 Rf (b.map AV.int) (ck (decide (0≤t0)) (ck (decide (t0<(b.length:Int)))
 (∀x2,b[t0.toNat]?=some x2 →
 br (x1 != x2)
 (Rp IntsEq_e (false) r0)
 (Bk (IntsEq_n0 a b) [] I0 m0 (W (t0+1)) t0))))))))
 (Rp IntsEq_e (true) r0))
theorem IntsEq_p(a b:List Int)(ok:IntsEq_a a b):∃I m,IntsEq_vc a b I m (IntsEq a b):=by
 simp only [IntsEq_a,okU,Blk.ok,plainV,List.length_map] at ok
 refine ⟨fun i=>∃k:Nat,i=k∧k≤a.length∧a.take k=b.take k,fun i=>a.length-i.toNat,?_⟩
 simp only [IntsEq_vc,vcU,rfU,List.length_map]
 refine ⟨fun h=>?_,fun h=>⟨⟨0,rfl,by omega,rfl⟩,?_⟩⟩
 ·refine (decide_eq_false fun e=>?_).symm
  subst e;simp at h
 have hl:a.length=b.length:=by simp at h;omega
 rintro _ ⟨k,rfl,hk,h⟩
 simp only [Int.toNat_natCast]
 refine ⟨fun h1=>⟨by omega,by omega,fun x hx=>⟨by omega,by omega,fun y hy=>⟨fun e=>?_,fun e=>?_⟩⟩⟩,fun h1=>?_⟩
 ·refine (decide_eq_false fun e'=>?_).symm
  subst e';rw [hx] at hy;cases hy;simp at e
 ·rw [W_succ (n:=a.length) (by omega) (by omega)]
  exact ⟨⟨k+1,rfl,by omega,take_eq h hx hy e⟩,by omega⟩
 ·rw [List.take_of_length_le (by omega),List.take_of_length_le (by omega)] at h
  exact (decide_eq_true h).symm
def IntsEq_c(a:(List Int))(b:(List Int)):PC Tryz.prog:=⟨20,[(.s 1),(.s 1)],[.sl 1 (a.map AV.int) false,.sl 1 (b.map AV.int) false],IntsEq_e (IntsEq a b),PSpec.of_ok fun ok=>(IntsEq_p a b ok).elim fun I0 h=>h.elim fun m0 h=>mxP_of (sh:=.k) (enc:=IntsEq_e) (a:=((.br 96 (.ret (false))
 (.loop 0 (IntsEq_n0 a b) (I0) (m0) ((0):Int) [] fun (t0:Int) =>
 (.br 64 (.el 96 AV.int a fun x1 =>
 (.el 160 AV.int b fun x2 =>
 (.br 208 (.ret (false))
 (.back 0 ((W (t0+1)):Int) []))))
 (.ret (true))))):An Tryz.prog IntsEq_s (Bool))) h (by kernel_rfl) (AV.pureB_ok rfl),fnB_ok (by kernel_rfl)⟩
def EqI_a(s1:(List Int))(s2:(List Int)):Prop:=okL [.sl 1 (s1.map AV.int) false,.sl 1 (s2.map AV.int) false]
def EqI_n0(s1:(List Int))(s2:(List Int))(t0:Int):NF:=⟨[(0,.k,.sl 1 (s1.map AV.int) false),(1,.k,.sl 1 (s2.map AV.int) false),(12,.k,.int ((s1.map AV.int).length:Int)),(13,.k,.int t0)],[]⟩
def EqI_s:Nat→Type
 | 0=>Int
 | _=>Unit
def EqI_e(r:Bool):AV:=.bool r
def EqI_vc(s1:(List Int))(s2:(List Int))(I0:Int→Prop)(m0:Int→Nat)(r0:Bool):Prop:=
 br (((s1.map AV.int).length:Int) != ((s2.map AV.int).length:Int))
 (Rp EqI_e (false) r0)
 (Be (EqI_n0 s1 s2) [] I0 (0)∧∀t0,I0 t0 →
 br (decide (t0<((s1.map AV.int).length:Int)))
 (Rf (s1.map AV.int) (ck (decide (0≤t0)) (ck (decide (t0<(s1.length:Int)))
 (∀x1,s1[t0.toNat]?=some x1 →
 Rf (s2.map AV.int) (ck (decide (0≤t0)) (ck (decide (t0<(s2.length:Int)))
 (∀x2,s2[t0.toNat]?=some x2 →
 br (x1 != x2)
 (Rp EqI_e (false) r0)
 (Bk (EqI_n0 s1 s2) [] I0 m0 (W (t0+1)) t0))))))))
 (Rp EqI_e (true) r0))
theorem EqI_p(a b:List Int)(ok:EqI_a a b):∃I m,EqI_vc a b I m (EqI a b):=by
 simp only [EqI_a,okU,Blk.ok,plainV,List.length_map] at ok
 refine ⟨fun i=>∃k:Nat,i=k∧k≤a.length∧a.take k=b.take k,fun i=>a.length-i.toNat,?_⟩
 simp only [EqI_vc,vcU,rfU,List.length_map]
 refine ⟨fun h=>?_,fun h=>⟨⟨0,rfl,by omega,rfl⟩,?_⟩⟩
 ·refine (decide_eq_false fun e=>?_).symm
  subst e;simp at h
 have hl:a.length=b.length:=by simp at h;omega
 rintro _ ⟨k,rfl,hk,h⟩
 simp only [Int.toNat_natCast]
 refine ⟨fun h1=>⟨by omega,by omega,fun x hx=>⟨by omega,by omega,fun y hy=>⟨fun e=>?_,fun e=>?_⟩⟩⟩,fun h1=>?_⟩
 ·refine (decide_eq_false fun e'=>?_).symm
  subst e';rw [hx] at hy;cases hy;simp at e
 ·rw [W_succ (n:=a.length) (by omega) (by omega)]
  exact ⟨⟨k+1,rfl,by omega,take_eq h hx hy e⟩,by omega⟩
 ·rw [List.take_of_length_le (by omega),List.take_of_length_le (by omega)] at h
  exact (decide_eq_true h).symm
def EqI_c(s1:(List Int))(s2:(List Int)):PC Tryz.prog:=⟨116,[(.s 1),(.s 1)],[.sl 1 (s1.map AV.int) false,.sl 1 (s2.map AV.int) false],EqI_e (EqI s1 s2),PSpec.of_ok fun ok=>(EqI_p s1 s2 ok).elim fun I0 h=>h.elim fun m0 h=>mxP_of (sh:=.k) (enc:=EqI_e) (a:=((.br 96 (.ret (false))
 (.loop 0 (EqI_n0 s1 s2) (I0) (m0) ((0):Int) [] fun (t0:Int) =>
 (.br 16 (.el 80 AV.int s1 fun x1 =>
 (.el 144 AV.int s2 fun x2 =>
 (.br 192 (.ret (false))
 (.back 0 ((W (t0+1)):Int) []))))
 (.ret (true))))):An Tryz.prog EqI_s (Bool))) h (by kernel_rfl) (AV.pureB_ok rfl),fnB_ok (by kernel_rfl)⟩
def InI_a(l:(List Int))(x:Int):Prop:=okL [.sl 1 (l.map AV.int) false,.int x]
def InI_n0(l:(List Int))(x:Int)(t0:Int):NF:=⟨[(0,.k,.sl 1 (l.map AV.int) false),(1,.k,.int x),(5,.k,.int t0)],[]⟩
def InI_s:Nat→Type
 | 0=>Int
 | _=>Unit
def InI_e(r:Bool):AV:=.bool r
def InI_vc(l:(List Int))(x:Int)(I0:Int→Prop)(m0:Int→Nat)(r0:Bool):Prop:=
 Be (InI_n0 l x) [] I0 (0)∧∀t0,I0 t0 →
 br (decide (t0<((l.map AV.int).length:Int)))
 (Rf (l.map AV.int) (ck (decide (0≤t0)) (ck (decide (t0<(l.length:Int)))
 (∀x1,l[t0.toNat]?=some x1 →
 br (x1==x)
 (Rp InI_e (true) r0)
 (Bk (InI_n0 l x) [] I0 m0 (W (t0+1)) t0)))))
 (Rp InI_e (false) r0)
def InI(l:List Int)(x:Int):Bool:=decide (x∈l)
theorem InI_p(l:List Int)(x:Int)(ok:InI_a l x):∃I m,InI_vc l x I m (InI l x):=by
 simp only [InI_a,okU,Blk.ok,plainV,List.length_map] at ok
 refine ⟨fun i=>∃k:Nat,i=k∧k≤l.length∧x ∉ l.take k,fun i=>l.length-i.toNat,?_⟩
 simp only [InI_vc,vcU,rfU,List.length_map]
 refine ⟨⟨0,rfl,by omega,by simp⟩,?_⟩
 rintro _ ⟨k,rfl,hk,h⟩
 simp only [Int.toNat_natCast]
 refine ⟨fun h1=>⟨by omega,by omega,fun y hy=>⟨fun e=>?_,fun e=>?_⟩⟩,fun h1=>?_⟩
 ·exact (decide_eq_true (by have:=mem_of_get hy;simp at e;rwa [e] at this)).symm
 ·rw [W_succ (n:=l.length) (by omega) (by omega)]
  refine ⟨⟨k+1,rfl,by omega,?_⟩,by omega⟩
  rw [take_succ hy];simp at e ⊢;exact ⟨h,fun e'=>e e'.symm⟩
 ·rw [List.take_of_length_le (by omega)] at h
  exact (decide_eq_false h).symm
def InI_c(l:(List Int))(x:Int):PC Tryz.prog:=⟨164,[(.s 1),.k],[.sl 1 (l.map AV.int) false,.int x],InI_e (InI l x),PSpec.of_ok fun ok=>(InI_p l x ok).elim fun I0 h=>h.elim fun m0 h=>mxP_of (sh:=.k) (enc:=InI_e) (a:=((.loop 0 (InI_n0 l x) (I0) (m0) ((0):Int) [] fun (t0:Int) =>
 (.br 64 (.el 96 AV.int l fun x1 =>
 (.br 160 (.ret (true))
 (.back 0 ((W (t0+1)):Int) [])))
 (.ret (false)))):An Tryz.prog InI_s (Bool))) h (by kernel_rfl) (AV.pureB_ok rfl),fnB_ok (by kernel_rfl)⟩
def Nothing:Flt:=⟨1,[]⟩
def Nothing_a:Prop:=okL []
def Nothing_s:Nat→Type
 | _=>Unit
def Nothing_e(r:Flt):AV:=Flt.v r
def Nothing_vc(r0:Flt):Prop:=
 Rp Nothing_e ((⟨1,[]⟩:Flt)) r0
theorem Nothing_p(ok:Nothing_a):Nothing_vc Nothing:=by
 simp only [Nothing_vc,vcU,rfU,List.length_map]
 rfl
def Nothing_c:PC Tryz.prog:=⟨94,[],[],Nothing_e Nothing,PSpec.of_ok fun ok=>mxP_of (sh:=(.a [.k,(.s 1)])) (enc:=Nothing_e) (a:=((.ret ((⟨1,[]⟩:Flt))):An Tryz.prog Nothing_s (Flt))) (Nothing_p ok) (by kernel_rfl) (AV.pureB_ok rfl),fnB_ok (by kernel_rfl)⟩
def FSame(a b:Flt):Bool:=decide (a=b)
abbrev PSame:=FSame
theorem flt_eq{a b:Flt}:a=b↔a.mode=b.mode∧a.srcs=b.srcs:=by cases a;cases b;simp
def FSame_a(a:Flt)(b:Flt):Prop:=okL [.agg [.int a.mode,.sl 1 (a.srcs.map AV.int) false],.agg [.int b.mode,.sl 1 (b.srcs.map AV.int) false]]
def FSame_s:Nat→Type
 | _=>Unit
def FSame_e(r:Bool):AV:=.bool r
def FSame_vc(a:Flt)(b:Flt)(r0:Bool):Prop:=
 br (a.mode==b.mode)
 (Cl (IntsEq_c a.srcs b.srcs)
 (Rp FSame_e (IntsEq a.srcs b.srcs) r0))
 (Rp FSame_e (false) r0)
theorem FSame_p(a b:Flt)(ok:FSame_a a b):FSame_vc a b (FSame a b):=by
 simp only [FSame_vc,vcU,rfU,List.length_map]
 simp only [FSame,IntsEq,flt_eq]
 refine ⟨fun h=>?_,fun h=>?_⟩<;>simp at h<;>simp [h]
def FSame_c(a:Flt)(b:Flt):PC Tryz.prog:=⟨140,[(.a [.k,(.s 1)]),(.a [.k,(.s 1)])],[.agg [.int a.mode,.sl 1 (a.srcs.map AV.int) false],.agg [.int b.mode,.sl 1 (b.srcs.map AV.int) false]],FSame_e (FSame a b),PSpec.of_ok fun ok=>mxP_of (sh:=.k) (enc:=FSame_e) (a:=((.br 144 (.callP (IntsEq_c a.srcs b.srcs)
 (.ret (IntsEq a.srcs b.srcs)))
 (.ret (false))):An Tryz.prog FSame_s (Bool))) (FSame_p a b ok) (by kernel_rfl) (AV.pureB_ok rfl),fnB_ok (by kernel_rfl)⟩
def PSame_a(a:Flt)(b:Flt):Prop:=okL [.agg [.int a.mode,.sl 1 (a.srcs.map AV.int) false],.agg [.int b.mode,.sl 1 (b.srcs.map AV.int) false]]
def PSame_s:Nat→Type
 | _=>Unit
def PSame_e(r:Bool):AV:=.bool r
def PSame_vc(a:Flt)(b:Flt)(r0:Bool):Prop:=
 br (a.mode==b.mode)
 (Cl (EqI_c a.srcs b.srcs)
 (Rp PSame_e (EqI a.srcs b.srcs) r0))
 (Rp PSame_e (false) r0)
theorem PSame_p(a b:Flt)(ok:PSame_a a b):PSame_vc a b (PSame a b):=by
 simp only [PSame_vc,vcU,rfU,List.length_map]
 simp only [FSame,IntsEq,flt_eq]
 refine ⟨fun h=>?_,fun h=>?_⟩<;>simp at h<;>simp [h]
def PSame_c(a:Flt)(b:Flt):PC Tryz.prog:=⟨137,[(.a [.k,(.s 1)]),(.a [.k,(.s 1)])],[.agg [.int a.mode,.sl 1 (a.srcs.map AV.int) false],.agg [.int b.mode,.sl 1 (b.srcs.map AV.int) false]],PSame_e (PSame a b),PSpec.of_ok fun ok=>mxP_of (sh:=.k) (enc:=PSame_e) (a:=((.br 144 (.callP (EqI_c a.srcs b.srcs)
 (.ret (EqI a.srcs b.srcs)))
 (.ret (false))):An Tryz.prog PSame_s (Bool))) (PSame_p a b ok) (by kernel_rfl) (AV.pureB_ok rfl),fnB_ok (by kernel_rfl)⟩
theorem ascI_iff{l:List Int}:ascI l↔∀j x y,l[j]?=some x→l[j+1]?=some y→x<y:=by
 unfold ascI
 constructor
 ·intro h j x y hx hy
  have:=h j (by have:=lt_of_get hy;omega)
  rwa [getD_of_get hx,getD_of_get hy] at this
 ·intro h i hi
  have e1:=List.getElem?_eq_getElem (show i<l.length by omega)
  have e2:=List.getElem?_eq_getElem (show i+1<l.length by omega)
  rw [getD_of_get e1,getD_of_get e2]
  exact h i _ _ e1 e2
def FVal(f:Flt):Int:=fltErr f.mode f.srcs
abbrev PVal:=FVal
def FVal_a(f:Flt):Prop:=okL [.agg [.int f.mode,.sl 1 (f.srcs.map AV.int) false]]
def FVal_n0(f:Flt)(t0:Unit):NF:=⟨[(1,.k,.ref 0 0)],[.box (.agg [.int f.mode,.sl 1 (f.srcs.map AV.int) false])]⟩
def FVal_n1(f:Flt)(t0:Unit)(t1:Int):NF:=⟨[(1,.k,.ref 0 0),(15,.k,.sl 1 (f.srcs.map AV.int) false),(16,.k,.int ((f.srcs.map AV.int).length:Int)),(17,.k,.int t1)],[.box (.agg [.int f.mode,.sl 1 (f.srcs.map AV.int) false])]⟩
def FVal_n2(f:Flt)(t0:Unit)(t1:Int)(t2:Int):NF:=⟨[(1,.k,.ref 0 0),(5,.k,.int t2)],[.box (.agg [.int f.mode,.sl 1 (f.srcs.map AV.int) false])]⟩
def FVal_s:Nat→Type
 | 0=>Unit
 | 1=>Int
 | 2=>Int
 | _=>Unit
def FVal_e(r:Int):AV:=.int r
def FVal_vc(f:Flt)(I1:Unit→Int→Prop)(m1:Unit→Int→Nat)(I2:Unit→Int→Int→Prop)(m2:Unit→Int→Int→Nat)(r0:Int):Prop:=
 (br (f.mode != 1)
 (br (f.mode != 2)
 (Rp FVal_e (1) r0)
 (Nf (FVal_n0 f (())) [0] ((bif (f.mode != 1) then (bif (f.mode != 2) then false else true) else true)=true)))
 (Nf (FVal_n0 f (())) [0] ((bif (f.mode != 1) then (bif (f.mode != 2) then false else true) else true)=true)))∧∀t0:Unit,(bif (f.mode != 1) then (bif (f.mode != 2) then false else true) else true)=true →
 Be (FVal_n1 f t0) [0] (I1 t0) (0)∧∀t1,I1 t0 t1 →
 br (decide (t1<((f.srcs.map AV.int).length:Int)))
 (Rf (f.srcs.map AV.int) (ck (decide (0≤t1)) (ck (decide (t1<(f.srcs.length:Int)))
 (∀x1,f.srcs[t1.toNat]?=some x1 →
 br (decide (x1<1))
 (Rp FVal_e (2) r0)
 (br (decide (99<x1))
 (Rp FVal_e (2) r0)
 (Bk (FVal_n1 f t0) [0] (I1 t0) (m1 t0) (W (t1+1)) t1))))))
 (Be (FVal_n2 f t0 t1) [0] (I2 t0 t1) (1)∧∀t2,I2 t0 t1 t2 →
 br (decide (t2<((f.srcs.map AV.int).length:Int)))
 (Rf (f.srcs.map AV.int) (ck (decide (0≤(W (t2-1)))) (ck (decide ((W (t2-1))<(f.srcs.length:Int)))
 (∀x2,f.srcs[(W (t2-1)).toNat]?=some x2 →
 Rf (f.srcs.map AV.int) (ck (decide (0≤t2)) (ck (decide (t2<(f.srcs.length:Int)))
 (∀x3,f.srcs[t2.toNat]?=some x3 →
 br (decide (x3≤x2))
 (Rp FVal_e (25) r0)
 (Bk (FVal_n2 f t0 t1) [0] (I2 t0 t1) (m2 t0 t1) (W (t2+1)) t2))))))))
 (Rp FVal_e (0) r0))
theorem FVal_p(f:Flt)(ok:FVal_a f):∃I1 m1 I2 m2,FVal_vc f I1 m1 I2 m2 (fltErr f.mode f.srcs):=by
 simp only [FVal_a,okU,Blk.ok,plainV,List.length_map] at ok
 refine ⟨fun _ t=>∃k:Nat,t=k∧k≤f.srcs.length∧∀s∈f.srcs.take k,1≤s∧s≤99,fun _ t=>f.srcs.length-t.toNat,
  fun _ t1 t=>rngI f.srcs∧∃k:Nat,t=k∧1≤k∧k≤f.srcs.length+1∧∀j x y,j+1<k→f.srcs[j]?=some x→f.srcs[j+1]?=some y→x<y,fun _ _ t=>f.srcs.length+1-t.toNat,?_⟩
 simp only [FVal_vc,vcU,rfU,List.length_map]
 have hmode:((bif f.mode != 1 then bif f.mode != 2 then false else true else true)=true)↔(f.mode=1∨f.mode=2):=by
  by_cases h1:f.mode=1<;>by_cases h2:f.mode=2<;>simp [h1,h2]
 simp only [hmode]
 refine ⟨⟨fun h1=>⟨fun h2=>?_,fun h2=>?_⟩,fun h1=>?_⟩,?_⟩
 ·rw [fltErr,if_pos];simp at h1 h2;omega
 ·simp at h2;omega
 ·simp at h1;omega
 intro t0 hm
 refine ⟨⟨0,rfl,by omega,by simp⟩,?_⟩
 rintro _ ⟨k,rfl,hk,h⟩
 simp only [Int.toNat_natCast]
 refine ⟨fun h1=>⟨by omega,by omega,fun y hy=>⟨fun e=>?_,fun e=>⟨fun e2=>?_,fun e2=>?_⟩⟩⟩,fun h1=>?_⟩
 ·rw [fltErr,if_neg (not_not_intro hm),if_pos fun hr=>by have:=hr y (mem_of_get hy);omega]
 ·rw [fltErr,if_neg (not_not_intro hm),if_pos fun hr=>by have:=hr y (mem_of_get hy);omega]
 ·rw [W_succ (n:=f.srcs.length) (by omega) (by omega)]
  refine ⟨⟨k+1,rfl,by omega,?_⟩,by omega⟩
  rw [take_succ hy]
  intro s hs
  rcases List.mem_append.mp hs with hs|hs
  ·exact h s hs
  ·rw [List.mem_singleton] at hs;subst hs;omega
 rw [List.take_of_length_le (by omega)] at h
 have hr:rngI f.srcs:=h
 refine ⟨⟨hr,1,rfl,by omega,by omega,fun j x y hj=>by omega⟩,?_⟩
 rintro _ ⟨-,k,rfl,hk1,hk,h⟩
 refine ⟨fun h1=>?_,fun h1=>?_⟩
 ·rw [W_pred (by omega) hk1]
  simp only [Int.toNat_natCast]
  refine ⟨by omega,by omega,fun x hx=>⟨by omega,by omega,fun y hy=>⟨fun e=>?_,fun e=>?_⟩⟩⟩
  ·rw [fltErr,if_neg (not_not_intro hm),if_neg (not_not_intro hr),if_pos]
   intro ha
   have:=ascI_iff.mp ha (k-1) x y hx (by rw [show k-1+1=k by omega];exact hy)
   omega
  ·rw [W_succ (n:=f.srcs.length) (by omega) (by omega)]
   refine ⟨⟨hr,k+1,rfl,by omega,by omega,fun j x' y' hj hx' hy'=>?_⟩,by omega⟩
   by_cases e':j+1=k
   ·subst e'
    rw [show j+1-1=j by omega,hx'] at hx;cases hx
    rw [hy'] at hy;cases hy;omega
   ·exact h j x' y' (by omega) hx' hy'
 ·rw [fltErr,if_neg (not_not_intro hm),if_neg (not_not_intro hr),if_neg (not_not_intro (ascI_iff.mpr fun j x y hx hy=>h j x y (by have:=lt_of_get hy;omega) hx hy))]
def FVal_c(f:Flt):PC Tryz.prog:=⟨173,[(.a [.k,(.s 1)])],[.agg [.int f.mode,.sl 1 (f.srcs.map AV.int) false]],FVal_e (FVal f),PSpec.of_ok fun ok=>(FVal_p f ok).elim fun I1 h=>h.elim fun m1 h=>h.elim fun I2 h=>h.elim fun m2 h=>mxP_of (sh:=.k) (enc:=FVal_e) (a:=((.pass (.join 0 (FVal_n0 f) (fun t0=>(bif (f.mode != 1) then (bif (f.mode != 2) then false else true) else true)=true) (.br 96 (.br 160 (.ret (1))
 (.back 0 ((()):Unit) [0]))
 (.back 0 ((()):Unit) [0])) fun (t0:Unit) =>
 (.loop 1 (FVal_n1 f t0) (I1 t0) (m1 t0) ((0):Int) [0] fun (t1:Int) =>
 (.br 17 (.el 17 AV.int f.srcs fun x1 =>
 (.br 113 (.ret (2))
 (.br 161 (.ret (2))
 (.back 1 ((W (t1+1)):Int) [0]))))
 (.loop 2 (FVal_n2 f t0 t1) (I2 t0 t1) (m2 t0 t1) ((1):Int) [0] fun (t2:Int) =>
 (.br 81 (.el 145 AV.int f.srcs fun x2 =>
 (.el 225 AV.int f.srcs fun x3 =>
 (.br 273 (.ret (25))
 (.back 2 ((W (t2+1)):Int) [0]))))
 (.ret (0)))))))):An Tryz.prog FVal_s (Int))) h (by kernel_rfl) (AV.pureB_ok rfl),fnB_ok (by kernel_rfl)⟩
def PVal_a(f:Flt):Prop:=okL [.agg [.int f.mode,.sl 1 (f.srcs.map AV.int) false]]
def PVal_n0(f:Flt)(t0:Unit):NF:=⟨[(1,.k,.ref 0 0)],[.box (.agg [.int f.mode,.sl 1 (f.srcs.map AV.int) false])]⟩
def PVal_n1(f:Flt)(t0:Unit)(t1:Int):NF:=⟨[(1,.k,.ref 0 0),(15,.k,.sl 1 (f.srcs.map AV.int) false),(16,.k,.int ((f.srcs.map AV.int).length:Int)),(17,.k,.int t1)],[.box (.agg [.int f.mode,.sl 1 (f.srcs.map AV.int) false])]⟩
def PVal_n2(f:Flt)(t0:Unit)(t1:Int)(t2:Int):NF:=⟨[(1,.k,.ref 0 0),(5,.k,.int t2)],[.box (.agg [.int f.mode,.sl 1 (f.srcs.map AV.int) false])]⟩
def PVal_s:Nat→Type
 | 0=>Unit
 | 1=>Int
 | 2=>Int
 | _=>Unit
def PVal_e(r:Int):AV:=.int r
def PVal_vc(f:Flt)(I1:Unit→Int→Prop)(m1:Unit→Int→Nat)(I2:Unit→Int→Int→Prop)(m2:Unit→Int→Int→Nat)(r0:Int):Prop:=
 (br (f.mode != 1)
 (br (f.mode != 2)
 (Rp PVal_e (1) r0)
 (Nf (PVal_n0 f (())) [0] ((bif (f.mode != 1) then (bif (f.mode != 2) then false else true) else true)=true)))
 (Nf (PVal_n0 f (())) [0] ((bif (f.mode != 1) then (bif (f.mode != 2) then false else true) else true)=true)))∧∀t0:Unit,(bif (f.mode != 1) then (bif (f.mode != 2) then false else true) else true)=true →
 Be (PVal_n1 f t0) [0] (I1 t0) (0)∧∀t1,I1 t0 t1 →
 br (decide (t1<((f.srcs.map AV.int).length:Int)))
 (Rf (f.srcs.map AV.int) (ck (decide (0≤t1)) (ck (decide (t1<(f.srcs.length:Int)))
 (∀x1,f.srcs[t1.toNat]?=some x1 →
 br (decide (x1<1))
 (Rp PVal_e (2) r0)
 (br (decide (99<x1))
 (Rp PVal_e (2) r0)
 (Bk (PVal_n1 f t0) [0] (I1 t0) (m1 t0) (W (t1+1)) t1))))))
 (Be (PVal_n2 f t0 t1) [0] (I2 t0 t1) (1)∧∀t2,I2 t0 t1 t2 →
 br (decide (t2<((f.srcs.map AV.int).length:Int)))
 (Rf (f.srcs.map AV.int) (ck (decide (0≤(W (t2-1)))) (ck (decide ((W (t2-1))<(f.srcs.length:Int)))
 (∀x2,f.srcs[(W (t2-1)).toNat]?=some x2 →
 Rf (f.srcs.map AV.int) (ck (decide (0≤t2)) (ck (decide (t2<(f.srcs.length:Int)))
 (∀x3,f.srcs[t2.toNat]?=some x3 →
 br (decide (x3≤x2))
 (Rp PVal_e (25) r0)
 (Bk (PVal_n2 f t0 t1) [0] (I2 t0 t1) (m2 t0 t1) (W (t2+1)) t2))))))))
 (Rp PVal_e (0) r0))
theorem PVal_p(f:Flt)(ok:PVal_a f):∃I1 m1 I2 m2,PVal_vc f I1 m1 I2 m2 (fltErr f.mode f.srcs):=by
 simp only [PVal_a,okU,Blk.ok,plainV,List.length_map] at ok
 refine ⟨fun _ t=>∃k:Nat,t=k∧k≤f.srcs.length∧∀s∈f.srcs.take k,1≤s∧s≤99,fun _ t=>f.srcs.length-t.toNat,
  fun _ t1 t=>rngI f.srcs∧∃k:Nat,t=k∧1≤k∧k≤f.srcs.length+1∧∀j x y,j+1<k→f.srcs[j]?=some x→f.srcs[j+1]?=some y→x<y,fun _ _ t=>f.srcs.length+1-t.toNat,?_⟩
 simp only [PVal_vc,vcU,rfU,List.length_map]
 have hmode:((bif f.mode != 1 then bif f.mode != 2 then false else true else true)=true)↔(f.mode=1∨f.mode=2):=by
  by_cases h1:f.mode=1<;>by_cases h2:f.mode=2<;>simp [h1,h2]
 simp only [hmode]
 refine ⟨⟨fun h1=>⟨fun h2=>?_,fun h2=>?_⟩,fun h1=>?_⟩,?_⟩
 ·rw [fltErr,if_pos];simp at h1 h2;omega
 ·simp at h2;omega
 ·simp at h1;omega
 intro t0 hm
 refine ⟨⟨0,rfl,by omega,by simp⟩,?_⟩
 rintro _ ⟨k,rfl,hk,h⟩
 simp only [Int.toNat_natCast]
 refine ⟨fun h1=>⟨by omega,by omega,fun y hy=>⟨fun e=>?_,fun e=>⟨fun e2=>?_,fun e2=>?_⟩⟩⟩,fun h1=>?_⟩
 ·rw [fltErr,if_neg (not_not_intro hm),if_pos fun hr=>by have:=hr y (mem_of_get hy);omega]
 ·rw [fltErr,if_neg (not_not_intro hm),if_pos fun hr=>by have:=hr y (mem_of_get hy);omega]
 ·rw [W_succ (n:=f.srcs.length) (by omega) (by omega)]
  refine ⟨⟨k+1,rfl,by omega,?_⟩,by omega⟩
  rw [take_succ hy]
  intro s hs
  rcases List.mem_append.mp hs with hs|hs
  ·exact h s hs
  ·rw [List.mem_singleton] at hs;subst hs;omega
 rw [List.take_of_length_le (by omega)] at h
 have hr:rngI f.srcs:=h
 refine ⟨⟨hr,1,rfl,by omega,by omega,fun j x y hj=>by omega⟩,?_⟩
 rintro _ ⟨-,k,rfl,hk1,hk,h⟩
 refine ⟨fun h1=>?_,fun h1=>?_⟩
 ·rw [W_pred (by omega) hk1]
  simp only [Int.toNat_natCast]
  refine ⟨by omega,by omega,fun x hx=>⟨by omega,by omega,fun y hy=>⟨fun e=>?_,fun e=>?_⟩⟩⟩
  ·rw [fltErr,if_neg (not_not_intro hm),if_neg (not_not_intro hr),if_pos]
   intro ha
   have:=ascI_iff.mp ha (k-1) x y hx (by rw [show k-1+1=k by omega];exact hy)
   omega
  ·rw [W_succ (n:=f.srcs.length) (by omega) (by omega)]
   refine ⟨⟨hr,k+1,rfl,by omega,by omega,fun j x' y' hj hx' hy'=>?_⟩,by omega⟩
   by_cases e':j+1=k
   ·subst e'
    rw [show j+1-1=j by omega,hx'] at hx;cases hx
    rw [hy'] at hy;cases hy;omega
   ·exact h j x' y' (by omega) hx' hy'
 ·rw [fltErr,if_neg (not_not_intro hm),if_neg (not_not_intro hr),if_neg (not_not_intro (ascI_iff.mpr fun j x y hx hy=>h j x y (by have:=lt_of_get hy;omega) hx hy))]
def PVal_c(f:Flt):PC Tryz.prog:=⟨194,[(.a [.k,(.s 1)])],[.agg [.int f.mode,.sl 1 (f.srcs.map AV.int) false]],PVal_e (PVal f),PSpec.of_ok fun ok=>(PVal_p f ok).elim fun I1 h=>h.elim fun m1 h=>h.elim fun I2 h=>h.elim fun m2 h=>mxP_of (sh:=.k) (enc:=PVal_e) (a:=((.pass (.join 0 (PVal_n0 f) (fun t0=>(bif (f.mode != 1) then (bif (f.mode != 2) then false else true) else true)=true) (.br 96 (.br 160 (.ret (1))
 (.back 0 ((()):Unit) [0]))
 (.back 0 ((()):Unit) [0])) fun (t0:Unit) =>
 (.loop 1 (PVal_n1 f t0) (I1 t0) (m1 t0) ((0):Int) [0] fun (t1:Int) =>
 (.br 17 (.el 17 AV.int f.srcs fun x1 =>
 (.br 113 (.ret (2))
 (.br 161 (.ret (2))
 (.back 1 ((W (t1+1)):Int) [0]))))
 (.loop 2 (PVal_n2 f t0 t1) (I2 t0 t1) (m2 t0 t1) ((1):Int) [0] fun (t2:Int) =>
 (.br 81 (.el 145 AV.int f.srcs fun x2 =>
 (.el 225 AV.int f.srcs fun x3 =>
 (.br 273 (.ret (25))
 (.back 2 ((W (t2+1)):Int) [0]))))
 (.ret (0)))))))):An Tryz.prog PVal_s (Int))) h (by kernel_rfl) (AV.pureB_ok rfl),fnB_ok (by kernel_rfl)⟩
def insAt{α:Type}(es:List α)(i:Nat)(x:α):List α:=es.take i++[x]++es.drop i
theorem pickI_mem{l:List Int}(h:l≠[])(r:Int):pickI l r∈l:=by
 have hl:0<l.length:=List.length_pos_iff.mpr h
 have:=Mod_range (x:=r) (show 1≤(l.length:Int) by omega)
 have hi:(Mod r l.length).toNat<l.length:=by omega
 rw [pickI,getD_get hi]
 exact List.getElem_mem hi
theorem rng_in{L:List Int}{p:Nat}{lo hi:Int}(h:-1000000000≤lo∧lo≤hi∧hi≤1000000000):lo≤rng L p lo hi∧rng L p lo hi≤hi:=by
 unfold rng
 have e1:W (hi-lo)=hi-lo:=W_eq (by omega)
 have e2:W (hi-lo+1)=hi-lo+1:=W_eq (by omega)
 rw [e1,e2]
 have:=Mod_range (x:=rawV L p) (show 1≤hi-lo+1 by omega)
 rw [W_eq (by omega)];omega
def putP(l:List Int)(x:Int):Nat:=l.findIdx (fun y=>!decide (y<x))
def put(l:List Int)(x:Int):List Int:=if l[putP l x]?=some x then l else insAt l (putP l x) x
theorem put_length(l:List Int)(x:Int):(put l x).length≤l.length+1:=by
 unfold put
 split
 ·omega
 ·unfold insAt;simp;omega
theorem putP_le(l:List Int)(x:Int):putP l x≤l.length:=List.findIdx_le_length
theorem putP_lo{l:List Int}{x y:Int}{j:Nat}(hj:j<putP l x)(hy:l[j]?=some y):y<x:=by
 have:=List.not_of_lt_findIdx hj
 rw [List.getElem?_eq_getElem (lt_of_get hy)] at hy
 rw [←Option.some.inj hy]
 simpa using this
theorem putP_hi{l:List Int}{x y:Int}(hy:l[putP l x]?=some y):¬y<x:=by
 have h:=lt_of_get hy
 have:=List.findIdx_getElem (p:=fun y=>!decide (y<x)) (xs:=l) (w:=h)
 rw [List.getElem?_eq_getElem h] at hy;cases hy
 rw [Bool.not_eq_true'] at this
 exact of_decide_eq_false this
theorem putP_eq{l:List Int}{x:Int}{k:Nat}(h:∀j y,j<k→l[j]?=some y→y<x)(hk:k≤l.length)(h2:k=l.length∨∃y,l[k]?=some y∧¬y<x):putP l x=k:=by
 rcases Nat.lt_trichotomy (putP l x) k with g|g|g
 ·have hl:putP l x<l.length:=by omega
  have e:=List.getElem?_eq_getElem hl
  exact absurd (h _ _ g e) (putP_hi e)
 ·exact g
 ·rcases h2 with h2|⟨y,hy,hn⟩
  ·have:=putP_le l x;omega
  ·exact absurd (putP_lo g hy) hn
theorem insAt_eq{l:List Int}{k:Nat}{x:Int}:((l.take k).drop 0)++([x]++((l.take ((l.length:Int).toNat)).drop k))=insAt l k x:=by
 rw [Int.toNat_natCast,List.take_length,List.drop_zero,insAt,List.append_assoc]
def put_a(l:(List Int))(x:Int):Prop:=okL [.sl 1 (l.map AV.int) false,.int x]
def put_n0(l:(List Int))(x:Int)(t0:Int):NF:=⟨[(0,.k,.sl 1 (l.map AV.int) false),(1,.k,.int x),(5,.k,.int t0)],[]⟩
def put_s:Nat→Type
 | 0=>Int
 | _=>Unit
def put_e(r:(List Int)):AV:=.sl 1 (r.map AV.int) false
def put_vc(l:(List Int))(x:Int)(I0:Int→Prop)(m0:Int→Nat)(r0:(List Int)):Prop:=
 Be (put_n0 l x) [] I0 (0)∧∀t0,I0 t0 →
 br (decide (t0<((l.map AV.int).length:Int)))
 (Rf (l.map AV.int) (ck (decide (0≤t0)) (ck (decide (t0<(l.length:Int)))
 (∀x1,l[t0.toNat]?=some x1 →
 br (decide (x1<x))
 (Bk (put_n0 l x) [] I0 m0 (W (t0+1)) t0)
 (br (decide (t0<((l.map AV.int).length:Int)))
 (Rf (l.map AV.int) (ck (decide (0≤t0)) (ck (decide (t0<(l.length:Int)))
 (∀x2,l[t0.toNat]?=some x2 →
 br (x2==x)
 (Rp put_e (l) r0)
 (Rf (α:=List AV) (l.map AV.int) (ck (bndB l.length t0 (l.length:Int) (l.length:Int))
 (Rf (α:=List AV) [.int x] (Rf (α:=List AV) (((l.take ((l.length:Int).toNat)).drop t0.toNat).map AV.int)
 (ck (decide ([x].length+((l.take ((l.length:Int).toNat)).drop t0.toNat).length≤1000000))
 (Rf (α:=List AV) (l.map AV.int) (ck (bndB l.length 0 t0 t0)
 (ck (decide (t0=t0))
 (Rf (α:=List AV) (((l.take t0.toNat).drop 0).map AV.int) (Rf (α:=List AV) (([x]++((l.take ((l.length:Int).toNat)).drop t0.toNat)).map AV.int)
 (ck (decide (0<([x]++((l.take ((l.length:Int).toNat)).drop t0.toNat)).length))
 (ck (decide (((l.take t0.toNat).drop 0).length+([x]++((l.take ((l.length:Int).toNat)).drop t0.toNat)).length≤1000000))
 (Rf ((((l.take t0.toNat).drop 0)++([x]++((l.take ((l.length:Int).toNat)).drop t0.toNat))).map AV.int) (Rp put_e (((l.take t0.toNat).drop 0)++([x]++((l.take ((l.length:Int).toNat)).drop t0.toNat))) r0))))))))))))))))))
 (Rf (α:=List AV) (l.map AV.int) (ck (bndB l.length t0 (l.length:Int) (l.length:Int))
 (Rf (α:=List AV) [.int x] (Rf (α:=List AV) (((l.take ((l.length:Int).toNat)).drop t0.toNat).map AV.int)
 (ck (decide ([x].length+((l.take ((l.length:Int).toNat)).drop t0.toNat).length≤1000000))
 (Rf (α:=List AV) (l.map AV.int) (ck (bndB l.length 0 t0 t0)
 (ck (decide (t0=t0))
 (Rf (α:=List AV) (((l.take t0.toNat).drop 0).map AV.int) (Rf (α:=List AV) (([x]++((l.take ((l.length:Int).toNat)).drop t0.toNat)).map AV.int)
 (ck (decide (0<([x]++((l.take ((l.length:Int).toNat)).drop t0.toNat)).length))
 (ck (decide (((l.take t0.toNat).drop 0).length+([x]++((l.take ((l.length:Int).toNat)).drop t0.toNat)).length≤1000000))
 (Rf ((((l.take t0.toNat).drop 0)++([x]++((l.take ((l.length:Int).toNat)).drop t0.toNat))).map AV.int) (Rp put_e (((l.take t0.toNat).drop 0)++([x]++((l.take ((l.length:Int).toNat)).drop t0.toNat))) r0)))))))))))))))))))
 (br (decide (t0<((l.map AV.int).length:Int)))
 (Rf (l.map AV.int) (ck (decide (0≤t0)) (ck (decide (t0<(l.length:Int)))
 (∀x3,l[t0.toNat]?=some x3 →
 br (x3==x)
 (Rp put_e (l) r0)
 (Rf (α:=List AV) (l.map AV.int) (ck (bndB l.length t0 (l.length:Int) (l.length:Int))
 (Rf (α:=List AV) [.int x] (Rf (α:=List AV) (((l.take ((l.length:Int).toNat)).drop t0.toNat).map AV.int)
 (ck (decide ([x].length+((l.take ((l.length:Int).toNat)).drop t0.toNat).length≤1000000))
 (Rf (α:=List AV) (l.map AV.int) (ck (bndB l.length 0 t0 t0)
 (ck (decide (t0=t0))
 (Rf (α:=List AV) (((l.take t0.toNat).drop 0).map AV.int) (Rf (α:=List AV) (([x]++((l.take ((l.length:Int).toNat)).drop t0.toNat)).map AV.int)
 (ck (decide (0<([x]++((l.take ((l.length:Int).toNat)).drop t0.toNat)).length))
 (ck (decide (((l.take t0.toNat).drop 0).length+([x]++((l.take ((l.length:Int).toNat)).drop t0.toNat)).length≤1000000))
 (Rf ((((l.take t0.toNat).drop 0)++([x]++((l.take ((l.length:Int).toNat)).drop t0.toNat))).map AV.int) (Rp put_e (((l.take t0.toNat).drop 0)++([x]++((l.take ((l.length:Int).toNat)).drop t0.toNat))) r0))))))))))))))))))
 (Rf (α:=List AV) (l.map AV.int) (ck (bndB l.length t0 (l.length:Int) (l.length:Int))
 (Rf (α:=List AV) [.int x] (Rf (α:=List AV) (((l.take ((l.length:Int).toNat)).drop t0.toNat).map AV.int)
 (ck (decide ([x].length+((l.take ((l.length:Int).toNat)).drop t0.toNat).length≤1000000))
 (Rf (α:=List AV) (l.map AV.int) (ck (bndB l.length 0 t0 t0)
 (ck (decide (t0=t0))
 (Rf (α:=List AV) (((l.take t0.toNat).drop 0).map AV.int) (Rf (α:=List AV) (([x]++((l.take ((l.length:Int).toNat)).drop t0.toNat)).map AV.int)
 (ck (decide (0<([x]++((l.take ((l.length:Int).toNat)).drop t0.toNat)).length))
 (ck (decide (((l.take t0.toNat).drop 0).length+([x]++((l.take ((l.length:Int).toNat)).drop t0.toNat)).length≤1000000))
 (Rf ((((l.take t0.toNat).drop 0)++([x]++((l.take ((l.length:Int).toNat)).drop t0.toNat))).map AV.int) (Rp put_e (((l.take t0.toNat).drop 0)++([x]++((l.take ((l.length:Int).toNat)).drop t0.toNat))) r0)))))))))))))))
theorem put_p(l:List Int)(x:Int)(hl:l.length≤900000)(ok:put_a l x):∃I m,put_vc l x I m (put l x):=by
 refine ⟨fun t=>∃k:Nat,t=k∧k≤l.length∧∀j y,j<k→l[j]?=some y→y<x,fun t=>l.length-t.toNat,?_⟩
 simp only [put_vc,vcU,rfU,List.length_map]
 have hle:=putP_le l x
 have key:∀k:Nat,putP l x=k→l[k]?≠some x→List.drop 0 (List.take k l)++([x]++List.drop k (List.take (l.length:Int).toNat l))=put l x:=fun k e hne=>by
  rw [insAt_eq,put,e,if_neg hne]
 refine ⟨⟨0,rfl,by omega,fun j y h=>by omega⟩,?_⟩
 rintro _ ⟨k,rfl,hk,h⟩
 simp only [Int.toNat_natCast]
 have hb1:bndB l.length k l.length l.length=true:=by simp [bndB];omega
 have hb2:bndB l.length 0 k k=true:=by simp [bndB];omega
 have e1:(List.take l.length l)=l:=List.take_length
 refine ⟨fun h1=>⟨by omega,by omega,fun y hy=>⟨fun e=>?_,fun e=>⟨fun h2=>⟨by omega,by omega,fun z hz=>?_⟩,fun h2=>by omega⟩⟩⟩,fun h1=>⟨fun h2=>by omega,fun _=>?_⟩⟩
 ·rw [W_succ (n:=l.length) (by omega) (by omega)]
  refine ⟨⟨k+1,rfl,by omega,fun j z hj hz=>?_⟩,by omega⟩
  by_cases e':j=k
  ·subst e';rw [hz] at hy;cases hy;exact e
  ·exact h j z (by omega) hz
 ·have hq:=putP_eq h hk (.inr ⟨y,hy,e⟩)
  rw [hy] at hz;cases hz
  refine ⟨fun e'=>?_,fun e'=>?_⟩
  ·rw [put,hq,if_pos (by rw [hy];simpa using e')]
  ·have hne:l[k]?≠some x:=by rw [hy];simpa using e'
   refine ⟨hb1,?_,hb2,trivial,?_,?_,?_⟩
   ·simp;omega
   ·simp
   ·simp;omega
   ·have:=key k hq hne;simpa using this
 ·have hq:=putP_eq h hk (.inl (by omega))
  refine ⟨hb1,?_,hb2,trivial,?_,?_,?_⟩
  ·simp;omega
  ·simp
  ·simp;omega
  ·have:=key k hq (by rw [List.getElem?_eq_none (by omega)];simp);simpa using this
def put_c(l:(List Int))(x:Int)(hl:l.length≤900000):PC Tryz.prog:=⟨24,[(.s 1),.k],[.sl 1 (l.map AV.int) false,.int x],put_e (put l x),PSpec.of_ok fun ok=>(put_p l x hl ok).elim fun I0 h=>h.elim fun m0 h=>mxP_of (sh:=(.s 1)) (enc:=put_e) (a:=((.loop 0 (put_n0 l x) (I0) (m0) ((0):Int) [] fun (t0:Int) =>
 (.br 80 (.el 112 AV.int l fun x1 =>
 (.br 192 (.back 0 ((W (t0+1)):Int) [])
 (.br 272 (.el 304 AV.int l fun x2 =>
 (.br 384 (.ret (l))
 (.own 400 (.sub 448 AV.int l false
 (.app 464 AV.int [x] ((l.take ((l.length:Int).toNat)).drop t0.toNat)
 (.sub 544 AV.int l true
 (.appF 576 AV.int ((l.take t0.toNat).drop 0) ([x]++((l.take ((l.length:Int).toNat)).drop t0.toNat))
 (.cmdL (.frzE 576 ((((l.take t0.toNat).drop 0)++([x]++((l.take ((l.length:Int).toNat)).drop t0.toNat))).map AV.int) (pureBL_map (fun _=>rfl) (((l.take t0.toNat).drop 0)++([x]++((l.take ((l.length:Int).toNat)).drop t0.toNat))))) (.ret (((l.take t0.toNat).drop 0)++([x]++((l.take ((l.length:Int).toNat)).drop t0.toNat))))))))))))
 (.own 400 (.sub 448 AV.int l false
 (.app 464 AV.int [x] ((l.take ((l.length:Int).toNat)).drop t0.toNat)
 (.sub 544 AV.int l true
 (.appF 576 AV.int ((l.take t0.toNat).drop 0) ([x]++((l.take ((l.length:Int).toNat)).drop t0.toNat))
 (.cmdL (.frzE 576 ((((l.take t0.toNat).drop 0)++([x]++((l.take ((l.length:Int).toNat)).drop t0.toNat))).map AV.int) (pureBL_map (fun _=>rfl) (((l.take t0.toNat).drop 0)++([x]++((l.take ((l.length:Int).toNat)).drop t0.toNat))))) (.ret (((l.take t0.toNat).drop 0)++([x]++((l.take ((l.length:Int).toNat)).drop t0.toNat)))))))))))))
 (.br 272 (.el 304 AV.int l fun x3 =>
 (.br 384 (.ret (l))
 (.own 400 (.sub 448 AV.int l false
 (.app 464 AV.int [x] ((l.take ((l.length:Int).toNat)).drop t0.toNat)
 (.sub 544 AV.int l true
 (.appF 576 AV.int ((l.take t0.toNat).drop 0) ([x]++((l.take ((l.length:Int).toNat)).drop t0.toNat))
 (.cmdL (.frzE 576 ((((l.take t0.toNat).drop 0)++([x]++((l.take ((l.length:Int).toNat)).drop t0.toNat))).map AV.int) (pureBL_map (fun _=>rfl) (((l.take t0.toNat).drop 0)++([x]++((l.take ((l.length:Int).toNat)).drop t0.toNat))))) (.ret (((l.take t0.toNat).drop 0)++([x]++((l.take ((l.length:Int).toNat)).drop t0.toNat))))))))))))
 (.own 400 (.sub 448 AV.int l false
 (.app 464 AV.int [x] ((l.take ((l.length:Int).toNat)).drop t0.toNat)
 (.sub 544 AV.int l true
 (.appF 576 AV.int ((l.take t0.toNat).drop 0) ([x]++((l.take ((l.length:Int).toNat)).drop t0.toNat))
 (.cmdL (.frzE 576 ((((l.take t0.toNat).drop 0)++([x]++((l.take ((l.length:Int).toNat)).drop t0.toNat))).map AV.int) (pureBL_map (fun _=>rfl) (((l.take t0.toNat).drop 0)++([x]++((l.take ((l.length:Int).toNat)).drop t0.toNat))))) (.ret (((l.take t0.toNat).drop 0)++([x]++((l.take ((l.length:Int).toNat)).drop t0.toNat))))))))))))):An Tryz.prog put_s ((List Int)))) h (by kernel_rfl) (AV.pureB_ok rfl),fnB_ok (by kernel_rfl)⟩
def src1(L:List Int)(p:Nat):Int:=pickI [rng L p 1 6,rng L (rawP L p) 1 20,rng L (rawP L (rawP L p)) 1 99] (rawV L (rawP L (rawP L (rawP L p))))
def src1P(L:List Int)(p:Nat):Nat:=rawP L (rawP L (rawP L (rawP L p)))
def srcLoop(L:List Int):Nat→List Int→Nat→List Int×Nat
 | 0,out,p=>(out,p)
 | i+1,out,p=>srcLoop L i (put out (src1 L p)) (src1P L p)
def sources(L:List Int)(p:Nat)(n:Int):List Int×Nat:=srcLoop L (Mod (rawV L p) (n+1)).toNat [] (rawP L p)
def sources_a(L:(List Int))(p:Nat)(n:Int):Prop:=okL [.ref 0 0,.int n]∧(.box (.agg [.sl 1 (L.map AV.int) false,.int ((p:Nat):Int)]):Blk).ok
def sources_n0(L:(List Int))(p:Nat)(n:Int)(t0:(List Int)×Int×Nat):NF:=⟨[(0,.k,.ref 0 0),(5,(.s 1),.sl 1 (t0.1.map AV.int) false),(6,.k,.int t0.2.1)],[.box (.agg [.sl 1 (L.map AV.int) false,.int ((t0.2.2:Nat):Int)])]⟩
def sources_s:Nat→Type
 | 0=>(List Int)×Int×Nat
 | _=>Unit
def sources_e(r:Tap×(List Int)):AV:=.sl 1 (r.2.map AV.int) false
def sources_b(r:Tap×(List Int)):List (Option Blk):=[some (.box (.agg [.sl 1 (r.1.L.map AV.int) false,.int ((r.1.p:Nat):Int)]))]
def sources_vc(L:(List Int))(p:Nat)(n:Int)(I0:((List Int)×Int×Nat)→Prop)(m0:((List Int)×Int×Nat)→Nat)(r0:Tap×(List Int)):Prop:=
 Ch (N_h L p (W (n+1))) [0] 81
 (Be (sources_n0 L p n) [0] I0 ([],Mod (rawV L p) (W (n+1)),rawP L p)∧∀t0,I0 t0 →
 br (decide (0<t0.2.1))
 (Ch (Range_h L t0.2.2 1 6) [0] 81
 (Ch (Range_h L (rawP L t0.2.2) 1 20) [0] 113
 (Ch (Range_h L (rawP L (rawP L t0.2.2)) 1 99) [0] 145
 (∃h1:[rng L t0.2.2 1 6,rng L (rawP L t0.2.2) 1 20,rng L (rawP L (rawP L t0.2.2)) 1 99]≠[],
 Ch (Pick_h L (rawP L (rawP L (rawP L t0.2.2))) [rng L t0.2.2 1 6,rng L (rawP L t0.2.2) 1 20,rng L (rawP L (rawP L t0.2.2)) 1 99] h1) [0] 177
 (∃h2:t0.1.length≤900000,
 Cl (put_c t0.1 (pickI [rng L t0.2.2 1 6,rng L (rawP L t0.2.2) 1 20,rng L (rawP L (rawP L t0.2.2)) 1 99] (rawV L (rawP L (rawP L (rawP L t0.2.2))))) h2)
 (Bk (sources_n0 L p n) [0] I0 m0 (put t0.1 (pickI [rng L t0.2.2 1 6,rng L (rawP L t0.2.2) 1 20,rng L (rawP L (rawP L t0.2.2)) 1 99] (rawV L (rawP L (rawP L (rawP L t0.2.2))))),W (t0.2.1-1),rawP L (rawP L (rawP L (rawP L t0.2.2)))) t0))))))
 (Qt ⟨[(4,.k,.sl 1 (t0.1.map AV.int) false)],[.box (.agg [.sl 1 (L.map AV.int) false,.int ((t0.2.2:Nat):Int)])]⟩ [0] sources_e sources_b ((⟨L,t0.2.2⟩:Tap),t0.1) r0))
theorem sources_p(L:List Int)(p:Nat)(n:Int)(hn:0≤n∧n≤1000)(ok:sources_a L p n):∃I m,sources_vc L p n I m ((⟨L,(sources L p n).2⟩:Tap),(sources L p n).1):=by
 have hm:=Mod_range (x:=rawV L p) (show 1≤n+1 by omega)
 refine ⟨fun t=>∃i:Nat,t.2.1=i∧srcLoop L i t.1 t.2.2=sources L p n∧i+t.1.length≤2000,fun t=>t.2.1.toNat,?_⟩
 simp only [sources_vc,vcU,rfU,List.length_map]
 rw [W_eq (by omega)]
 refine ⟨⟨(Mod (rawV L p) (n+1)).toNat,by omega,rfl,by simp;omega⟩,?_⟩
 rintro ⟨out,_,q⟩ ⟨i,rfl,h,hl⟩
 simp only at h hl ⊢
 refine ⟨fun h1=>?_,fun h1=>?_⟩
 ·obtain ⟨i,rfl⟩:∃k,i=k+1:=⟨i-1,by omega⟩
  refine ⟨by simp,by omega,⟨i,?_,h,?_⟩,?_⟩
  ·rw [W_eq (by omega)];omega
  ·have:=put_length out (src1 L q);show i+(put out (src1 L q)).length≤2000;omega
  ·rw [W_eq (by omega)];omega
 ·obtain rfl:i=0:=by omega
  rw [←h];rfl
def sources_h(L:(List Int))(p:Nat)(n:Int)(hn:0≤n∧n≤1000):HC Tryz.prog:=⟨193,[.k,.k],[.ref 0 0,.int n],[.box (.agg [.sl 1 (L.map AV.int) false,.int ((p:Nat):Int)])],sources_e (((⟨L,(sources L p n).2⟩:Tap),(sources L p n).1):Tap×List Int),sources_b (((⟨L,(sources L p n).2⟩:Tap),(sources L p n).1):Tap×List Int),HSpec.of_okh fun ok ok2=>have ok:sources_a L p n:=⟨ok,ok2 _ (by simp)⟩;(sources_p L p n hn ok).elim fun I0 h=>h.elim fun m0 h=>mxH_of (sh:=(.s 1)) (enc:=sources_e) (hB:=sources_b) (a:=((.callH [0] (N_h L p (W (n+1)))
 (.loop 0 (sources_n0 L p n) (I0) (m0) (([],Mod (rawV L p) (W (n+1)),rawP L p):(List Int)×Int×Nat) [0] fun (t0:(List Int)×Int×Nat) =>
 (.br 33 (.callH [0] (Range_h L t0.2.2 1 6)
 (.callH [0] (Range_h L (rawP L t0.2.2) 1 20)
 (.callH [0] (Range_h L (rawP L (rawP L t0.2.2)) 1 99)
 (.req 177 ([rng L t0.2.2 1 6,rng L (rawP L t0.2.2) 1 20,rng L (rawP L (rawP L t0.2.2)) 1 99]≠[]) fun h1 =>
 (.callH [0] (Pick_h L (rawP L (rawP L (rawP L t0.2.2))) [rng L t0.2.2 1 6,rng L (rawP L t0.2.2) 1 20,rng L (rawP L (rawP L t0.2.2)) 1 99] h1)
 (.req 193 (t0.1.length≤900000) fun h2 =>
 (.callP (put_c t0.1 (pickI [rng L t0.2.2 1 6,rng L (rawP L t0.2.2) 1 20,rng L (rawP L (rawP L t0.2.2)) 1 99] (rawV L (rawP L (rawP L (rawP L t0.2.2))))) h2)
 (.back 0 ((put t0.1 (pickI [rng L t0.2.2 1 6,rng L (rawP L t0.2.2) 1 20,rng L (rawP L (rawP L t0.2.2)) 1 99] (rawV L (rawP L (rawP L (rawP L t0.2.2))))),W (t0.2.1-1),rawP L (rawP L (rawP L (rawP L t0.2.2)))):(List Int)×Int×Nat) [0]))))))))
 (.retH ((⟨L,t0.2.2⟩:Tap),t0.1) ⟨[(4,.k,.sl 1 (t0.1.map AV.int) false)],[.box (.agg [.sl 1 (L.map AV.int) false,.int ((t0.2.2:Nat):Int)])]⟩ [0])))):An Tryz.prog sources_s (Tap×(List Int)))) h (by kernel_rfl),fnB_ok (by kernel_rfl),HcOk.of (by simp [hcB,belBL,AV.belB,allB,okBk,okBkO,sources_e,sources_b,pureBL_map (v:=AV.int) (fun _=>rfl)])⟩
def fltN(L:List Int)(p:Nat):Int:=pickI [0,2,4,4,16,99] (rawV L p)
def filterT(L:List Int)(p:Nat):Flt×Nat:=(⟨rng L (rawP L p) 1 2,(sources L (rawP L (rawP L p)) (fltN L p)).1⟩,(sources L (rawP L (rawP L p)) (fltN L p)).2)
theorem fltN_in(L:List Int)(p:Nat):0≤fltN L p∧fltN L p≤1000:=by
 have:=pickI_mem (l:=[0,2,4,4,16,99]) (by simp) (rawV L p)
 unfold fltN
 generalize pickI _ _=v at this
 simp only [List.mem_cons,List.not_mem_nil,or_false] at this
 omega
def filterT_a(L:(List Int))(p:Nat):Prop:=okL [.ref 0 0]∧(.box (.agg [.sl 1 (L.map AV.int) false,.int ((p:Nat):Int)]):Blk).ok
def filterT_s:Nat→Type
 | _=>Unit
def filterT_e(r:Tap×Flt):AV:=.agg [.int r.2.mode,.sl 1 (r.2.srcs.map AV.int) false]
def filterT_b(r:Tap×Flt):List (Option Blk):=[some (.box (.agg [.sl 1 (r.1.L.map AV.int) false,.int ((r.1.p:Nat):Int)]))]
def filterT_vc(L:(List Int))(p:Nat)(r0:Tap×Flt):Prop:=
 ∃h1:[0,2,4,4,16,99]≠[],
 Ch (Pick_h L p [0,2,4,4,16,99] h1) [0] 49
 (Ch (Range_h L (rawP L p) 1 2) [0] 97
 (∃h2:0≤(pickI [0,2,4,4,16,99] (rawV L p))∧(pickI [0,2,4,4,16,99] (rawV L p))≤1000,
 Ch (sources_h L (rawP L (rawP L p)) (pickI [0,2,4,4,16,99] (rawV L p)) h2) [0] 145
 (Qt ⟨[(2,.k,.ref 1 0)],[.box (.agg [.sl 1 (L.map AV.int) false,.int ((((sources L (rawP L (rawP L p)) (pickI [0,2,4,4,16,99] (rawV L p))).2):Nat):Int)]),.box (.agg [.int (rng L (rawP L p) 1 2),.sl 1 (((sources L (rawP L (rawP L p)) (pickI [0,2,4,4,16,99] (rawV L p))).1).map AV.int) false])]⟩ [0,1] filterT_e filterT_b ((⟨L,(sources L (rawP L (rawP L p)) (pickI [0,2,4,4,16,99] (rawV L p))).2⟩:Tap),(⟨rng L (rawP L p) 1 2,(sources L (rawP L (rawP L p)) (pickI [0,2,4,4,16,99] (rawV L p))).1⟩:Flt)) r0)))
theorem filterT_p(L:List Int)(p:Nat)(ok:filterT_a L p):filterT_vc L p ((⟨L,(filterT L p).2⟩:Tap),(filterT L p).1):=by
 simp only [filterT_vc,vcU,rfU,List.length_map]
 exact ⟨by simp,fltN_in L p,rfl⟩
def filterT_h(L:(List Int))(p:Nat):HC Tryz.prog:=⟨122,[.k],[.ref 0 0],[.box (.agg [.sl 1 (L.map AV.int) false,.int ((p:Nat):Int)])],filterT_e (((⟨L,(filterT L p).2⟩:Tap),(filterT L p).1):Tap×Flt),filterT_b (((⟨L,(filterT L p).2⟩:Tap),(filterT L p).1):Tap×Flt),HSpec.of_okh fun ok ok2=>have ok:filterT_a L p:=⟨ok,ok2 _ (by simp)⟩;mxH_of (sh:=(.a [.k,(.s 1)])) (enc:=filterT_e) (hB:=filterT_b) (a:=((.req 49 ([0,2,4,4,16,99]≠[]) fun h1 =>
 (.callH [0] (Pick_h L p [0,2,4,4,16,99] h1)
 (.callH [0] (Range_h L (rawP L p) 1 2)
 (.req 145 (0≤(pickI [0,2,4,4,16,99] (rawV L p))∧(pickI [0,2,4,4,16,99] (rawV L p))≤1000) fun h2 =>
 (.callH [0] (sources_h L (rawP L (rawP L p)) (pickI [0,2,4,4,16,99] (rawV L p)) h2)
 (.retH ((⟨L,(sources L (rawP L (rawP L p)) (pickI [0,2,4,4,16,99] (rawV L p))).2⟩:Tap),(⟨rng L (rawP L p) 1 2,(sources L (rawP L (rawP L p)) (pickI [0,2,4,4,16,99] (rawV L p))).1⟩:Flt)) ⟨[(2,.k,.ref 1 0)],[.box (.agg [.sl 1 (L.map AV.int) false,.int ((((sources L (rawP L (rawP L p)) (pickI [0,2,4,4,16,99] (rawV L p))).2):Nat):Int)]),.box (.agg [.int (rng L (rawP L p) 1 2),.sl 1 (((sources L (rawP L (rawP L p)) (pickI [0,2,4,4,16,99] (rawV L p))).1).map AV.int) false])]⟩ [0,1])))))):An Tryz.prog filterT_s (Tap×Flt))) (filterT_p L p ok) (by kernel_rfl),fnB_ok (by kernel_rfl),HcOk.of (by simp [hcB,belBL,AV.belB,allB,okBk,okBkO,filterT_e,filterT_b,pureBL_map (v:=AV.int) (fun _=>rfl)])⟩
structure Itm where
  ver:Int
  grp:Int
  mode:Int
  srcs:List Int
  deriving DecidableEq
structure Wnt where
  grp:Int
  mode:Int
  srcs:List Int
  deriving DecidableEq
structure Per where
  router:Int
  epoch:Int
  acked:Int
  deriving DecidableEq
structure Spk where
  router:Int
  epoch:Int
  last:Int
  items:List Itm
  peers:List Per
  deriving DecidableEq
structure Hrd where
  router:Int
  epoch:Int
  ver:Int
  items:List Itm
  deriving DecidableEq
structure Lsn where
  router:Int
  epoch:Int
  heard:List Hrd
  deriving DecidableEq
structure Sig where
  kind:Int
  src:Int
  dst:Int
  epoch:Int
  ver:Int
  prev:Int
  pep:Int
  grp:Int
  mode:Int
  srcs:List Int
  deriving DecidableEq
def Itm.v(x:Itm):AV:=.agg [.int x.ver,.int x.grp,.int x.mode,ints x.srcs]
def itms(l:List Itm):AV:=.sl 4 (l.map Itm.v) false
def Wnt.v(x:Wnt):AV:=.agg [.int x.grp,.int x.mode,ints x.srcs]
def Per.v(x:Per):AV:=.agg [.int x.router,.int x.epoch,.int x.acked]
def pers(l:List Per):AV:=.sl 3 (l.map Per.v) false
def Spk.v(x:Spk):AV:=.agg [.int x.router,.int x.epoch,.int x.last,itms x.items,pers x.peers]
def Hrd.v(x:Hrd):AV:=.agg [.int x.router,.int x.epoch,.int x.ver,itms x.items]
def hrds(l:List Hrd):AV:=.sl 4 (l.map Hrd.v) false
def Lsn.v(x:Lsn):AV:=.agg [.int x.router,.int x.epoch,hrds x.heard]
def Sig.v(x:Sig):AV:=.agg [.int x.kind,.int x.src,.int x.dst,.int x.epoch,.int x.ver,.int x.prev,.int x.pep,.int x.grp,.int x.mode,ints x.srcs]
def sigs(l:List Sig):AV:=.sl 10 (l.map Sig.v) false
def itmOk(last:Int)(x:Itm):Prop:=(1≤x.ver∧x.ver≤last)∧(1≤x.grp∧x.grp≤99)∧fltErr x.mode x.srcs=0
instance (last:Int) (x:Itm):Decidable (itmOk last x):=by unfold itmOk;infer_instance
def itmsOk(last:Int)(l:List Itm):Prop:=(∀x∈l,itmOk last x)∧(l.map Itm.grp).Nodup∧l.Pairwise fun x y=>x.ver<y.ver
instance (last:Int) (l:List Itm):Decidable (itmsOk last l):=by unfold itmsOk;infer_instance
def perOk(r last:Int)(p:Per):Prop:=(1≤p.router∧p.router≤99)∧p.router≠r∧(0≤p.epoch∧p.epoch≤1000000)∧(0≤p.acked∧p.acked≤last)
instance (r last:Int) (p:Per):Decidable (perOk r last p):=by unfold perOk;infer_instance
def spkOk(s:Spk):Prop:=(1≤s.router∧s.router≤99)∧(1≤s.epoch∧s.epoch≤1000000)∧(0≤s.last∧s.last≤1000000)∧itmsOk s.last s.items∧s.peers.length≤12 ∧
 (∀p∈s.peers,perOk s.router s.last p)∧s.peers.Pairwise fun x y=>x.router<y.router
instance (s:Spk):Decidable (spkOk s):=by unfold spkOk;infer_instance
def hrdOk(r:Int)(h:Hrd):Prop:=(1≤h.router∧h.router≤99)∧h.router≠r∧(1≤h.epoch∧h.epoch≤1000000)∧(0≤h.ver∧h.ver≤1000000)∧itmsOk h.ver h.items
instance (r:Int) (h:Hrd):Decidable (hrdOk r h):=by unfold hrdOk;infer_instance
def lsnOk(l:Lsn):Prop:=(1≤l.router∧l.router≤99)∧(1≤l.epoch∧l.epoch≤1000000)∧l.heard.length≤12∧(∀h∈l.heard,hrdOk l.router h)∧l.heard.Pairwise fun x y=>x.router<y.router
instance (l:Lsn):Decidable (lsnOk l):=by unfold lsnOk;infer_instance
def errIf(p:Prop)[Decidable p]:Int:=if p then 0 else 1
def sigNums(x:Sig):Prop:=
 if x.kind=1 then (1≤x.epoch∧x.epoch≤1000000)∧(0≤x.ver∧x.ver≤1000000)∧x.prev=0∧x.pep=0∧x.grp=0
 else if x.kind=2 then (1≤x.epoch∧x.epoch≤1000000)∧(1≤x.ver∧x.ver≤1000000)∧(0≤x.prev∧x.prev≤x.ver-1)∧x.pep=0∧(1≤x.grp∧x.grp≤99)
 else (0≤x.epoch∧x.epoch≤1000000)∧(0≤x.ver∧x.ver≤1000000)∧x.prev=0∧(1≤x.pep∧x.pep≤1000000)∧x.grp=0
instance (x:Sig):Decidable (sigNums x):=by unfold sigNums;infer_instance
def sigEnds(x:Sig):Prop:=(1≤x.src∧x.src≤99)∧(1≤x.dst∧x.dst≤99)∧x.src≠x.dst
instance (x:Sig):Decidable (sigEnds x):=by unfold sigEnds;infer_instance
def sigErr(x:Sig):Int:=
 if ¬(x.kind=1∨x.kind=2∨x.kind=3) then 1 else if ¬(sigEnds x∧sigNums x) then 2
 else if x.kind=2 then fltErr x.mode x.srcs else if x.mode≠0∨x.srcs≠[] then 1 else 0
def isNoW(w:Wnt):Prop:=w.mode=1∧w.srcs=[]
instance (w:Wnt):Decidable (isNoW w):=by unfold isNoW;infer_instance
def wFErrs(l:List Wnt):Int:=orI (l.map fun x=>fltErr x.mode x.srcs)
def wErr(chg:Bool)(l:List Wnt):Int:=
 if 32<l.length then 3 else if ¬(∀w∈l,1≤w.grp∧w.grp≤99) then 2 else if wFErrs l≠0 then wFErrs l
 else if chg=false∧∃w∈l,isNoW w then 1 else if ¬(l.Pairwise fun x y=>x.grp<y.grp) then 25 else 0
def without(g:Int)(l:List Itm):List Itm:=l.filter fun x=>decide (x.grp≠g)
def put1(l:List Itm)(x:Itm):List Itm:=without x.grp l++[x]
def told(l:List Itm)(g:Int):Int×List Int:=match l.find? fun x=>decide (x.grp=g) with
 | some x=>(x.mode,x.srcs)
 | none=>(1,[])
def chg1(s:Int×List Itm)(w:Wnt):Int×List Itm:=
 if told s.2 w.grp=(w.mode,w.srcs) then s else (s.1+1,put1 s.2 ⟨s.1+1,w.grp,w.mode,w.srcs⟩)
def spk0:Spk:=⟨0,0,0,[],[]⟩
def lsn0:Lsn:=⟨0,0,[]⟩
def sig0:Sig:=⟨0,0,0,0,0,0,0,0,0,[]⟩
abbrev SR:=Spk×Int
def new(r k:Int)(p:List Int):SR:=
 let s:Spk:=⟨r,k,0,[],p.map fun x=>⟨x,0,0⟩⟩
 if spkOk s then (s,0) else (spk0,1)
def change(s:Spk)(c:List Wnt):SR:=
 if ¬spkOk s then (spk0,1) else if wErr true c≠0 then (spk0,wErr true c)
 else if 1000000<(c.foldl chg1 (s.last,s.items)).1 then (spk0,3)
 else (⟨s.router,s.epoch,(c.foldl chg1 (s.last,s.items)).1,(c.foldl chg1 (s.last,s.items)).2,s.peers⟩,0)
def wItm(i:Nat)(w:Wnt):Itm:=⟨i+1,w.grp,w.mode,w.srcs⟩
def restart(s:Spk)(w:List Wnt):SR:=
 if ¬spkOk s then (spk0,1) else if wErr false w≠0 then (spk0,wErr false w) else if s.epoch=1000000 then (spk0,3)
 else (⟨s.router,s.epoch+1,w.length,w.mapIdx wItm,s.peers.map fun p=>⟨p.router,0,0⟩⟩,0)
def posP(l:List Per)(r:Int):Nat:=l.findIdx fun p=>!decide (p.router<r)
def hitP(l:List Per)(r:Int):Prop:=posP l r<l.length∧(l.getD (posP l r) ⟨0,0,0⟩).router=r
instance (l:List Per) (r:Int):Decidable (hitP l r):=by unfold hitP;infer_instance
def posH(l:List Hrd)(r:Int):Nat:=l.findIdx fun p=>!decide (p.router<r)
def hrd0:Hrd:=⟨0,0,0,[]⟩
def hitH(l:List Hrd)(r:Int):Prop:=posH l r<l.length∧(l.getD (posH l r) hrd0).router=r
instance (l:List Hrd) (r:Int):Decidable (hitH l r):=by unfold hitH;infer_instance
def upd1(s:Spk)(to prev:Int)(x:Itm):Sig:=⟨2,s.router,to,s.epoch,x.ver,prev,0,x.grp,x.mode,x.srcs⟩
def sendFrom(s:Spk)(to acked:Int):Int→List Itm→List Sig
 | _,[]=>[]
 | prev,x::r=>(if acked<x.ver then [upd1 s to prev x] else [])++sendFrom s to acked x.ver r
def hello(s:Spk)(to:Int):Sig:=⟨1,s.router,to,s.epoch,s.last,0,0,0,0,[]⟩
def send(s:Spk)(to:Int):List Sig×Int:=
 if ¬spkOk s then ([],1) else if ¬hitP s.peers to then ([],4)
 else (hello s to::sendFrom s to (s.peers.getD (posP s.peers to) ⟨0,0,0⟩).acked 0 s.items,0)
def ackV(s:Spk)(x:Sig):Int:=if x.epoch=s.epoch∧x.ver≤s.last then x.ver else 0
def ackP(s:Spk)(x:Sig)(p:Per):Per:=
 if p.epoch<x.pep then ⟨p.router,x.pep,ackV s x⟩ else if x.pep=p.epoch then ⟨p.router,p.epoch,maxI p.acked (ackV s x)⟩ else p
def ack(s:Spk)(x:Sig):SR:=
 if ¬spkOk s then (spk0,1) else if sigErr x≠0 then (spk0,sigErr x) else if x.kind≠3∨x.dst≠s.router then (spk0,1)
 else if ¬hitP s.peers x.src then (spk0,4)
 else (⟨s.router,s.epoch,s.last,s.items,s.peers.set (posP s.peers x.src) (ackP s x (s.peers.getD (posP s.peers x.src) ⟨0,0,0⟩))⟩,0)
def sigItm(x:Sig):Itm:=⟨x.ver,x.grp,x.mode,x.srcs⟩
def hear1(h:Hrd)(x:Sig):Hrd:=
 if x.kind=2∧x.epoch=h.epoch∧x.prev≤h.ver∧h.ver<x.ver then ⟨h.router,h.epoch,x.ver,put1 h.items (sigItm x)⟩ else h
def hear0(h:Hrd)(x:Sig):Hrd:=if h.epoch<x.epoch then ⟨x.src,x.epoch,0,[]⟩ else h
def base(l:List Hrd)(r:Int):List Hrd:=if hitH l r then l else insAt l (posH l r) ⟨r,0,0,[]⟩
abbrev HR:=(Lsn×Sig)×Int
def hearH(l:List Hrd)(x:Sig):Hrd:=hear1 (hear0 ((base l x.src).getD (posH l x.src) hrd0) x) x
def hear(l:Lsn)(x:Sig):HR:=
 if ¬lsnOk l then ((lsn0,sig0),1) else if sigErr x≠0 then ((lsn0,sig0),sigErr x) else if x.kind=3∨x.dst≠l.router then ((lsn0,sig0),1)
 else if ¬hitH l.heard x.src∧l.heard.length=12 then ((lsn0,sig0),3)
 else ((⟨l.router,l.epoch,(base l.heard x.src).set (posH l.heard x.src) (hearH l.heard x)⟩,
  ⟨3,l.router,x.src,(hearH l.heard x).epoch,(hearH l.heard x).ver,0,l.epoch,0,0,[]⟩),0)
def atH(l:List Hrd)(r:Int):Hrd:=l.getD (posH l r) hrd0
def agree(s:Spk)(l:Lsn):Prop:=
 spkOk s∧lsnOk l∧hitH l.heard s.router∧(atH l.heard s.router).epoch=s.epoch∧(atH l.heard s.router).ver=s.last∧(atH l.heard s.router).items=s.items
instance (s:Spk) (l:Lsn):Decidable (agree s l):=by unfold agree;infer_instance
theorem mem_without{g:Int}{l:List Itm}{x:Itm}:x∈without g l↔x∈l∧x.grp≠g:=by simp [without]
theorem mem_put1{l:List Itm}{x y:Itm}:y∈put1 l x↔(y∈l∧y.grp≠x.grp)∨y=x:=by simp [put1,mem_without]
theorem itmsOk.mono{n m:Int}{l:List Itm}(h:itmsOk n l)(hm:n≤m):itmsOk m l:=
 ⟨fun x hx=>by obtain ⟨⟨a,b⟩,c⟩:=h.1 x hx;exact ⟨⟨a,by omega⟩,c⟩,h.2⟩
theorem itmsOk.without{n g:Int}{l:List Itm}(h:itmsOk n l):itmsOk n (without g l):=
 ⟨fun x hx=>h.1 x (mem_without.mp hx).1,h.2.1.sublist (List.Sublist.map _ List.filter_sublist),h.2.2.sublist List.filter_sublist⟩
theorem itmsOk.put{n:Int}{l:List Itm}{x:Itm}(h:itmsOk n l)(h1:n<x.ver)(h2:1≤x.ver)(h3:1≤x.grp∧x.grp≤99)(h4:fltErr x.mode x.srcs=0):itmsOk x.ver (put1 l x):=by
 have hw:=h.without (g:=x.grp)
 refine ⟨fun y hy=>?_,?_,?_⟩
 ·rcases List.mem_append.mp hy with hy|hy
  ·obtain ⟨⟨a,b⟩,c⟩:=hw.1 y hy
   exact ⟨⟨a,by omega⟩,c⟩
  ·rw [List.mem_singleton] at hy;subst hy
   exact ⟨⟨h2,Int.le_refl _⟩,h3,h4⟩
 ·rw [put1,List.map_append]
  refine List.nodup_append.mpr ⟨hw.2.1,by simp,?_⟩
  intro a ha b hb e
  obtain ⟨y,hy,rfl⟩:=List.mem_map.mp ha
  simp at hb
  subst hb
  exact (mem_without.mp hy).2 e
 ·refine List.pairwise_append.mpr ⟨hw.2.2,List.pairwise_singleton _ _,fun a ha b hb=>?_⟩
  rw [List.mem_singleton] at hb;subst hb
  have:=(hw.1 a ha).1.2
  omega
theorem Nodup.grp{l:List Itm}(h:(l.map Itm.grp).Nodup){x y:Itm}(hx:x∈l)(hy:y∈l)(e:x.grp=y.grp):x=y:=by
 induction l with
 | nil=>simp at hx
 | cons z l ih =>
  simp only [List.map_cons,List.nodup_cons] at h
  rcases List.mem_cons.mp hx with h1|h1
  ·rcases List.mem_cons.mp hy with h2|h2
   ·rw [h1,h2]
   ·exact absurd (List.mem_map.mpr ⟨y,h2,by rw [←e,h1]⟩) h.1
  ·rcases List.mem_cons.mp hy with h2|h2
   ·exact absurd (List.mem_map.mpr ⟨x,h1,by rw [e,h2]⟩) h.1
   ·exact ih h.2 h1 h2
theorem asc_ext:∀{a b:List Itm},a.Pairwise (fun x y=>x.ver<y.ver)→b.Pairwise (fun x y=>x.ver<y.ver)→(∀x,x∈a↔x∈b)→a=b:=by
 intro a
 induction a with
 | nil =>
  intro b _ _ h
  cases b with
  | nil=>rfl
  | cons y b=>exact absurd ((h y).mpr (by simp)) (by simp)
 | cons x a ih =>
  intro b ha hb h
  cases b with
  | nil=>exact absurd ((h x).mp (by simp)) (by simp)
  | cons y b =>
   rw [List.pairwise_cons] at ha hb
   have hxy:x=y:=by
    refine Classical.byContradiction fun hne=>?_
    have h1:x∈b:=(List.mem_cons.mp ((h x).mp (by simp))).resolve_left hne
    have h2:y∈a:=(List.mem_cons.mp ((h y).mpr (by simp))).resolve_left (Ne.symm hne)
    have:=ha.1 y h2
    have:=hb.1 x h1
    omega
   subst hxy
   rw [ih ha.2 hb.2 fun z=>?_]
   constructor
   ·intro hz
    refine (List.mem_cons.mp ((h z).mp (by simp [hz]))).resolve_left fun e=>?_
    subst e
    have:=ha.1 z hz
    omega
   ·intro hz
    refine (List.mem_cons.mp ((h z).mpr (by simp [hz]))).resolve_left fun e=>?_
    subst e
    have:=hb.1 z hz
    omega
structure Adv (n:Int) (l:List Itm) (m:Int) (k:List Itm):Prop where
  le:n≤m
  old:∀z∈k,z∈l∨n<z.ver
  grp:∀z∈l,∃y∈k,y.grp=z.grp
theorem Adv.refl(n:Int)(l:List Itm):Adv n l n l:=⟨Int.le_refl _,fun _ h=>.inl h,fun z h=>⟨z,h,rfl⟩⟩
theorem Adv.trans{n m p:Int}{a b c:List Itm}(h:Adv n a m b)(k:Adv m b p c):Adv n a p c:=by
 refine ⟨Int.le_trans h.le k.le,fun z hz=>?_,fun z hz=>?_⟩
 ·rcases k.old z hz with g|g
  ·exact h.old z g
  ·exact .inr (by have:=h.le;omega)
 ·obtain ⟨y,hy,e⟩:=h.grp z hz
  obtain ⟨x,hx,e'⟩:=k.grp y hy
  exact ⟨x,hx,e'.trans e⟩
theorem Adv.put{n:Int}{l:List Itm}{x:Itm}(h:n<x.ver):Adv n l x.ver (put1 l x):=by
 refine ⟨by omega,fun z hz=>?_,fun z hz=>?_⟩
 ·rcases mem_put1.mp hz with g|rfl
  ·exact .inl g.1
  ·exact .inr h
 ·by_cases e:z.grp=x.grp
  ·exact ⟨x,mem_put1.mpr (.inr rfl),e.symm⟩
  ·exact ⟨z,mem_put1.mpr (.inl ⟨hz,e⟩),rfl⟩
def chgOk(c:List Wnt):Prop:=∀w∈c,(1≤w.grp∧w.grp≤99)∧fltErr w.mode w.srcs=0
theorem chg1_ok{n:Int}{l:List Itm}{w:Wnt}(h:itmsOk n l)(h0:0≤n)(hw:(1≤w.grp∧w.grp≤99)∧fltErr w.mode w.srcs=0) :
  itmsOk (chg1 (n,l) w).1 (chg1 (n,l) w).2∧Adv n l (chg1 (n,l) w).1 (chg1 (n,l) w).2∧(chg1 (n,l) w).1≤n+1∧0≤(chg1 (n,l) w).1:=by
 unfold chg1
 split
 ·exact ⟨h,Adv.refl _ _,by simp only;omega,h0⟩
 ·exact ⟨h.put (x:=⟨n+1,w.grp,w.mode,w.srcs⟩) (by simp only;omega) (by simp only;omega) hw.1 hw.2,Adv.put (x:=⟨n+1,w.grp,w.mode,w.srcs⟩) (by simp only;omega),Int.le_refl _,by simp only;omega⟩
theorem chg_ok:∀{c:List Wnt} {n:Int} {l:List Itm},itmsOk n l→0≤n→chgOk c →
  itmsOk (c.foldl chg1 (n,l)).1 (c.foldl chg1 (n,l)).2∧Adv n l (c.foldl chg1 (n,l)).1 (c.foldl chg1 (n,l)).2∧(c.foldl chg1 (n,l)).1≤n+c.length∧0≤(c.foldl chg1 (n,l)).1
 | [],n,l,h,h0,_=>⟨h,Adv.refl _ _,by simp,h0⟩
 | w::c,n,l,h,h0,hc=>by
  obtain ⟨a1,a2,a3,a4⟩:=chg1_ok h h0 (hc w (by simp))
  obtain ⟨b1,b2,b3,b4⟩:=chg_ok (c:=c) a1 a4 (fun v hv=>hc v (by simp [hv]))
  refine ⟨b1,a2.trans b2,?_,b4⟩
  simp only [List.foldl_cons,List.length_cons]
  have:(c.foldl chg1 (chg1 (n,l) w)).1≤(chg1 (n,l) w).1+c.length:=b3
  omega
structure UpdOk (n:Int) (l:List Itm) (x:Sig):Prop where
  le:x.ver≤n
  has:∃z∈l,z.grp=x.grp
  grp:∀z∈l,z.grp=x.grp→x.ver≤z.ver
  gap:∀z∈l,z.ver≤x.ver→z.ver≤x.prev∨z=sigItm x
theorem UpdOk.adv{n m:Int}{l k:List Itm}{x:Sig}(h:UpdOk n l x)(a:Adv n l m k):UpdOk m k x:=by
 refine ⟨Int.le_trans h.le a.le,?_,fun z hz e=>?_,fun z hz e=>?_⟩
 ·obtain ⟨z,hz,e⟩:=h.has
  obtain ⟨y,hy,e'⟩:=a.grp z hz
  exact ⟨y,hy,e'.trans e⟩
 ·rcases a.old z hz with g|g
  ·exact h.grp z g e
  ·have:=h.le;omega
 ·rcases a.old z hz with g|g
  ·exact h.gap z g e
  ·have:=h.le;omega
structure HrdOk (n:Int) (l:List Itm) (h:Hrd):Prop where
  le:h.ver≤n
  grp:∀y∈h.items,∃z∈l,z.grp=y.grp
  has:∀z∈l,z.ver≤h.ver→z∈h.items
theorem HrdOk.adv{n m:Int}{l k:List Itm}{h:Hrd}(o:HrdOk n l h)(a:Adv n l m k):HrdOk m k h:=by
 refine ⟨Int.le_trans o.le a.le,fun y hy=>?_,fun z hz e=>?_⟩
 ·obtain ⟨z,hz,e⟩:=o.grp y hy
  obtain ⟨x,hx,e'⟩:=a.grp z hz
  exact ⟨x,hx,e'.trans e⟩
 ·rcases a.old z hz with g|g
  ·exact o.has z g e
  ·have:=o.le;omega
theorem HrdOk.nil{n:Int}{l:List Itm}(hl:itmsOk n l)(h0:0≤n)(r e:Int):HrdOk n l ⟨r,e,0,[]⟩:=
 ⟨h0,fun y hy=>by simp at hy,fun z hz e=>by have:=(hl.1 z hz).1.1;simp only at e;omega⟩
theorem HrdOk.hear{n:Int}{l:List Itm}{h:Hrd}{x:Sig}(o:HrdOk n l h)(u:UpdOk n l x)(h1:x.prev≤h.ver)(h2:h.ver<x.ver) :
  HrdOk n l ⟨h.router,h.epoch,x.ver,put1 h.items (sigItm x)⟩:=by
 refine ⟨u.le,fun y hy=>?_,fun z hz e=>?_⟩
 ·rcases mem_put1.mp hy with g|rfl
  ·exact o.grp y g.1
  ·exact u.has
 ·rcases u.gap z hz e with g|rfl
  ·refine mem_put1.mpr (.inl ⟨o.has z hz (by omega),fun e'=>?_⟩)
   have:=u.grp z hz e'
   omega
  ·exact mem_put1.mpr (.inr rfl)
theorem HrdOk.eq{n:Int}{l:List Itm}{h:Hrd}(o:HrdOk n l h)(hl:itmsOk n l)(hh:itmsOk h.ver h.items)(e:h.ver=n):h.items=l:=by
 refine asc_ext hh.2.2 hl.2.2 fun y=>⟨fun hy=>?_,fun hy=>o.has y hy ?_⟩
 ·obtain ⟨z,hz,e'⟩:=o.grp y hy
  have:=o.has z hz (by have:=(hl.1 z hz).1.2;omega)
  rw [←Nodup.grp hh.2.1 this hy e'];exact hz
 ·have:=(hl.1 y hy).1.2;omega
theorem Pairwise.mid{l r:List Itm}{x:Itm}(h:(l++x::r).Pairwise fun a b=>a.ver<b.ver):(∀y∈l,y.ver<x.ver)∧∀y∈r,x.ver<y.ver:=by
 rw [List.pairwise_append,List.pairwise_cons] at h
 exact ⟨fun y hy=>h.2.2 y hy x (by simp),fun y hy=>h.2.1.1 y hy⟩
theorem send_ok{s:Spk}{to acked:Int}(hs:itmsOk s.last s.items)(h1:s.last≤1000000):∀(r d:List Itm) (prev:Int),s.items=d++r→0≤prev→(∀y∈d,y.ver≤prev)→(∀y∈r,prev<y.ver) →
  ∀x∈sendFrom s to acked prev r,x.kind=2∧x.src=s.router∧x.dst=to∧x.epoch=s.epoch∧x.pep=0∧(0≤x.prev∧x.prev≤x.ver-1)∧(sigItm x)∈s.items∧UpdOk s.last s.items x
 | [],d,prev,_,_,_,_,x,hx=>by simp [sendFrom] at hx
 | y::r,d,prev,e,h0,hd,hr,x,hx=>by
  have hy:y∈s.items:=by rw [e];simp
  obtain ⟨m1,m2⟩:=Pairwise.mid (e ▸ hs.2.2)
  rcases List.mem_append.mp hx with hx|hx
  ·split at hx
   ·rw [List.mem_singleton] at hx;subst hx
    have hp:=hr y (by simp)
    refine ⟨rfl,rfl,rfl,rfl,rfl,⟨h0,by simp only [upd1];omega⟩,hy,(hs.1 y hy).1.2,⟨y,hy,rfl⟩,fun z hz e'=>?_,fun z hz hv=>?_⟩
    ·rw [Nodup.grp hs.2.1 hz hy e'];exact Int.le_refl _
    ·rw [e] at hz
     rcases List.mem_append.mp hz with hz|hz
     ·exact .inl (hd z hz)
     ·rcases List.mem_cons.mp hz with rfl|hz
      ·exact .inr rfl
      ·have:=m2 z hz;simp only [upd1] at hv;omega
   ·simp at hx
  ·refine send_ok hs h1 r (d++[y]) y.ver (by rw [e];simp) (by have:=(hs.1 y hy).1.1;omega) (fun z hz=>?_) m2 x hx
   rcases List.mem_append.mp hz with hz|hz
   ·have:=m1 z hz;omega
   ·rw [List.mem_singleton] at hz;subst hz;exact Int.le_refl _
theorem orI_zero2{l:List Int}:orI l=0↔∀x∈l,x=0:=by
 unfold orI
 cases h:l.find? (· != 0) with
 | none =>
  rw [List.find?_eq_none] at h
  exact ⟨fun _ x hx=>by simpa using h x hx,fun _=>rfl⟩
 | some a =>
  have h1:=List.find?_some h
  have h2:=List.mem_of_find?_eq_some h
  exact ⟨fun e=>by simp at e;subst e;simp at h1,fun e=>by rw [e a h2] at h1;simp at h1⟩
theorem wErr_zero{chg:Bool}{l:List Wnt}:wErr chg l=0↔l.length≤32∧(∀w∈l,1≤w.grp∧w.grp≤99)∧(∀w∈l,fltErr w.mode w.srcs=0)∧(chg=false→∀w∈l,¬isNoW w)∧l.Pairwise fun x y=>x.grp<y.grp:=by
 have hz:wFErrs l=0↔∀w∈l,fltErr w.mode w.srcs=0:=by
  rw [wFErrs,orI_zero2]
  constructor
  ·intro h w hw;exact h _ (List.mem_map.mpr ⟨w,hw,rfl⟩)
  ·intro h x hx;obtain ⟨w,hw,rfl⟩:=List.mem_map.mp hx;exact h w hw
 unfold wErr
 by_cases h1:32<l.length
 ·rw [if_pos h1];constructor
  ·intro h;omega
  ·intro h;omega
 rw [if_neg h1]
 by_cases h2:∀w∈l,1≤w.grp∧w.grp≤99
 case neg =>
  rw [if_pos h2];constructor
  ·intro h;omega
  ·intro h;exact absurd h.2.1 h2
 rw [if_neg (not_not_intro h2)]
 by_cases h3:wFErrs l=0
 case neg =>
  rw [if_pos h3]
  exact ⟨fun h=>absurd h h3,fun h=>hz.mpr h.2.2.1⟩
 rw [if_neg (not_not_intro h3)]
 by_cases h4:chg=false∧∃w∈l,isNoW w
 ·rw [if_pos h4]
  constructor
  ·intro h;omega
  ·intro h
   obtain ⟨hc,w,hw,hn⟩:=h4
   exact absurd hn (h.2.2.2.1 hc w hw)
 rw [if_neg h4]
 by_cases h5:l.Pairwise fun x y=>x.grp<y.grp
 ·rw [if_neg (not_not_intro h5)]
  exact ⟨fun _=>⟨by omega,h2,hz.mp h3,fun hc w hw hn=>h4 ⟨hc,w,hw,hn⟩,h5⟩,fun _=>rfl⟩
 ·rw [if_pos h5]
  exact ⟨fun h=>by omega,fun h=>absurd h.2.2.2.2 h5⟩
theorem chgOk_of{chg:Bool}{l:List Wnt}(h:wErr chg l=0):chgOk l:=by
 obtain ⟨_,h1,h2,_⟩:=wErr_zero.mp h
 exact fun w hw=>⟨h1 w hw,h2 w hw⟩
theorem ackP_ok{s:Spk}{x:Sig}{p:Per}(h:perOk s.router s.last p)(h0:0≤s.last)(hx:sigErr x=0)(hk:x.kind=3):perOk s.router s.last (ackP s x p)∧(ackP s x p).router=p.router:=by
 obtain ⟨h1,h2,h3,h4⟩:=h
 have hn:sigNums x:=by
  unfold sigErr at hx
  split at hx
  ·omega
  split at hx
  ·omega
  rename_i h;exact (Classical.not_not.mp h).2
 unfold sigNums at hn
 rw [if_neg (by omega),if_neg (by omega)] at hn
 have hv:0≤ackV s x∧ackV s x≤s.last:=by
  unfold ackV
  split
  ·exact ⟨hn.2.1.1,by omega⟩
  ·exact ⟨by omega,h0⟩
 unfold ackP
 split
 ·exact ⟨⟨h1,h2,⟨by simp only;omega,hn.2.2.2.1.2⟩,hv⟩,rfl⟩
 split
 ·refine ⟨⟨h1,h2,h3,?_⟩,rfl⟩
  simp only [maxI]
  split<;>omega
 ·exact ⟨⟨h1,h2,h3,h4⟩,rfl⟩
theorem restart_items{w:List Wnt}(h:chgOk w)(ho:w.Pairwise fun x y=>x.grp<y.grp):itmsOk w.length (w.mapIdx wItm):=by
 refine ⟨fun x hx=>?_,?_,?_⟩
 ·obtain ⟨i,hi,rfl⟩:=List.mem_mapIdx.mp hx
  obtain ⟨h1,h2⟩:=h _ (List.getElem_mem hi)
  exact ⟨⟨by simp only [wItm];omega,by simp only [wItm];omega⟩,h1,h2⟩
 ·have:(w.mapIdx wItm).map Itm.grp=w.map Wnt.grp:=by
   refine List.ext_getElem (by simp) fun i h1 h2=>?_
   simp [wItm]
  rw [this]
  rw [List.Nodup,List.pairwise_map]
  exact ho.imp fun h=>by omega
 ·rw [List.pairwise_iff_getElem]
  intro i j hi hj hij
  simp only [List.getElem_mapIdx,wItm]
  omega
theorem nodup_len:∀(n:Nat) (l:List Int),l.Nodup→(∀x∈l,1≤x∧x≤n)→l.length≤n
 | 0,l,_,h=>by
  cases l with
  | nil=>simp
  | cons x l=>have:=h x (by simp);omega
 | n+1,l,hn,h=>by
  have h1:=nodup_len n (l.erase ((n+1:Nat):Int)) (hn.erase _) (fun x hx=>by rw [hn.mem_erase_iff] at hx;have:=h x hx.2;omega)
  rw [List.length_erase] at h1
  split at h1<;>omega
theorem itms_len{n:Int}{l:List Itm}(h:itmsOk n l):l.length≤99:=by
 have:=nodup_len 99 (l.map Itm.grp) h.2.1 (fun x hx=>by obtain ⟨y,hy,rfl⟩:=List.mem_map.mp hx;exact (h.1 y hy).2.1)
 simpa using this
theorem sig_told{x:Sig}(hx:sigErr x=0)(hk:x.kind≠3):(1≤x.epoch∧x.epoch≤1000000)∧(0≤x.ver∧x.ver≤1000000)∧(x.kind=2→1≤x.ver∧(1≤x.grp∧x.grp≤99)∧fltErr x.mode x.srcs=0):=by
 unfold sigErr at hx
 split at hx
 ·omega
 split at hx
 ·omega
 rename_i h0 h1
 have hn:=(Classical.not_not.mp h1).2
 unfold sigNums at hn
 split at hn
 ·exact ⟨hn.1,hn.2.1,fun e=>by omega⟩
 split at hn
 ·rename_i h2
  rw [if_pos h2] at hx
  exact ⟨hn.1,⟨by omega,hn.2.1.2⟩,fun _=>⟨hn.2.1.1,hn.2.2.2.2,hx⟩⟩
 ·omega
def wNew(L:List Int)(p:Nat)(g:Int)(out:List Wnt):List Wnt:=
 if Mod (rawV L (filterT L p).2) 2=0∧((filterT L p).1.mode=2∨(filterT L p).1.srcs≠[]) then out++[⟨g,(filterT L p).1.mode,(filterT L p).1.srcs⟩] else out
def wPos(L:List Int)(p:Nat):Nat:=rawP L (filterT L p).2
def wantsL(L:List Int):Nat→Int→List Wnt→Nat→List Wnt×Nat
 | 0,_,out,p=>(out,p)
 | n+1,g,out,p=>wantsL L n (g+1) (wNew L p g out) (wPos L p)
def wantsT(L:List Int)(p:Nat):List Wnt×Nat:=wantsL L 6 1 [] p
def findW(l:List Wnt)(g:Int):Flt:=match l.find? fun w=>decide (w.grp=g) with
 | some w=>⟨w.mode,w.srcs⟩
 | none=>⟨1,[]⟩
def chgs1(old new:List Wnt)(g:Int):List Wnt:=if findW new g=findW old g then [] else [⟨g,(findW new g).mode,(findW new g).srcs⟩]
def chgsTo(old new:List Wnt):Nat→List Wnt
 | 0=>[]
 | n+1=>chgsTo old new n++chgs1 old new (n+1)
def changes(old new:List Wnt):List Wnt×Int:=
 if wErr false old≠0 then ([],wErr false old) else if wErr false new≠0 then ([],wErr false new)
 else if 32<(chgsTo old new 99).length then ([],3) else (chgsTo old new 99,0)
theorem findW_ok{l:List Wnt}(h:∀w∈l,fltErr w.mode w.srcs=0)(g:Int):fltErr (findW l g).mode (findW l g).srcs=0:=by
 unfold findW
 split
 ·rename_i w e;exact h w (List.mem_of_find?_eq_some e)
 ·decide
theorem findW_none{l:List Wnt}{g:Int}(h:∀w∈l,w.grp≠g):findW l g=⟨1,[]⟩:=by
 unfold findW
 rw [List.find?_eq_none.mpr (fun w hw=>by simpa using h w hw)]
structure COk (n:Int) (c:List Wnt):Prop where
  rng:∀w∈c,1≤w.grp∧w.grp≤n
  flt:∀w∈c,fltErr w.mode w.srcs=0
  asc:c.Pairwise fun x y=>x.grp<y.grp
theorem chgsTo_ok{old new:List Wnt}(h2:∀w∈new,fltErr w.mode w.srcs=0):∀n:Nat,COk n (chgsTo old new n)
 | 0=>⟨fun w hw=>by simp [chgsTo] at hw,fun w hw=>by simp [chgsTo] at hw,List.Pairwise.nil⟩
 | n+1=>by
  have h:=chgsTo_ok (old:=old) h2 n
  simp only [chgsTo,chgs1]
  split
  ·rw [List.append_nil]
   exact ⟨fun w hw=>by have:=h.rng w hw;omega,h.flt,h.asc⟩
  ·refine ⟨fun w hw=>?_,fun w hw=>?_,List.pairwise_append.mpr ⟨h.asc,List.pairwise_singleton _ _,fun a ha b hb=>?_⟩⟩
   ·rcases List.mem_append.mp hw with hw|hw
    ·have:=h.rng w hw;omega
    ·rw [List.mem_singleton] at hw;subst hw;exact ⟨by simp only;omega,by simp only;omega⟩
   ·rcases List.mem_append.mp hw with hw|hw
    ·exact h.flt w hw
    ·rw [List.mem_singleton] at hw;subst hw;exact findW_ok h2 _
   ·rw [List.mem_singleton] at hb;subst hb
    have:=h.rng a ha;simp only;omega
theorem chgsTo_len(old new:List Wnt):∀n:Nat,(chgsTo old new n).length≤n
 | 0=>Nat.le_refl _
 | n+1=>by
  have:=chgsTo_len old new n
  simp only [chgsTo,chgs1]
  split<;>simp<;>omega
def from1(f:Int→Int×List Int)(g:Int):List Wnt:=if f g=(1,[]) then [] else [⟨g,(f g).1,(f g).2⟩]
def fromF(f:Int→Int×List Int):Nat→List Wnt
 | 0=>[]
 | n+1=>fromF f n++from1 f (n+1)
def wantsOf(l:List Itm):List Wnt:=if itmsOk 1000000 l then fromF (told l) 99 else []
theorem mem_from1{f:Int→Int×List Int}{g:Int}{w:Wnt}:w∈from1 f g↔w.grp=g∧f w.grp=(w.mode,w.srcs)∧f w.grp≠(1,[]):=by
 unfold from1
 split
 ·rename_i e
  simp only [List.not_mem_nil,false_iff]
  rintro ⟨rfl,_,h⟩;exact h e
 ·rename_i e
  rw [List.mem_singleton]
  constructor
  ·rintro rfl;exact ⟨rfl,rfl,e⟩
  ·rintro ⟨rfl,h1,_⟩
   rw [h1]
theorem mem_fromF{f:Int→Int×List Int}{w:Wnt}:∀{n:Nat},w∈fromF f n↔(1≤w.grp∧w.grp≤n)∧f w.grp=(w.mode,w.srcs)∧f w.grp≠(1,[])
 | 0=>by simp only [fromF,List.not_mem_nil,false_iff];rintro ⟨h,_⟩;omega
 | n+1=>by
  rw [fromF,List.mem_append,mem_fromF (n:=n),mem_from1]
  constructor
  ·rintro (⟨h1,h2⟩|⟨h1,h2⟩)
   ·exact ⟨by omega,h2⟩
   ·exact ⟨by omega,h2⟩
  ·rintro ⟨h1,h2⟩
   by_cases e:w.grp=((n+1:Nat):Int)
   ·exact .inr ⟨by omega,h2⟩
   ·exact .inl ⟨by omega,h2⟩
theorem fromF_asc{f:Int→Int×List Int}:∀n:Nat,(fromF f n).Pairwise fun x y=>x.grp<y.grp
 | 0=>List.Pairwise.nil
 | n+1=>by
  refine List.pairwise_append.mpr ⟨fromF_asc n,?_,fun a ha b hb=>?_⟩
  ·unfold from1;split
   ·exact List.Pairwise.nil
   ·exact List.pairwise_singleton _ _
  ·have:=(mem_fromF.mp ha).1
   have:=(mem_from1.mp hb).1
   omega
theorem ascW_ext:∀{a b:List Wnt},a.Pairwise (fun x y=>x.grp<y.grp)→b.Pairwise (fun x y=>x.grp<y.grp)→(∀x,x∈a↔x∈b)→a=b:=by
 intro a
 induction a with
 | nil =>
  intro b _ _ h
  cases b with
  | nil=>rfl
  | cons y b=>exact absurd ((h y).mpr (by simp)) (by simp)
 | cons x a ih =>
  intro b ha hb h
  cases b with
  | nil=>exact absurd ((h x).mp (by simp)) (by simp)
  | cons y b =>
   rw [List.pairwise_cons] at ha hb
   have hxy:x=y:=by
    refine Classical.byContradiction fun hne=>?_
    have h1:x∈b:=(List.mem_cons.mp ((h x).mp (by simp))).resolve_left hne
    have h2:y∈a:=(List.mem_cons.mp ((h y).mpr (by simp))).resolve_left (Ne.symm hne)
    have:=ha.1 y h2
    have:=hb.1 x h1
    omega
   subst hxy
   rw [ih ha.2 hb.2 fun z=>?_]
   constructor
   ·intro hz
    refine (List.mem_cons.mp ((h z).mp (by simp [hz]))).resolve_left fun e=>?_
    subst e
    have:=ha.1 z hz
    omega
   ·intro hz
    refine (List.mem_cons.mp ((h z).mpr (by simp [hz]))).resolve_left fun e=>?_
    subst e
    have:=hb.1 z hz
    omega
theorem told_in{l:List Itm}(h:(l.map Itm.grp).Nodup){x:Itm}(hx:x∈l):told l x.grp=(x.mode,x.srcs):=by
 unfold told
 cases e:l.find? fun y=>decide (y.grp=x.grp) with
 | none=>rw [List.find?_eq_none] at e;exact absurd (e x hx) (by simp)
 | some y =>
  have h1:=List.mem_of_find?_eq_some e
  have h2:=List.find?_some e
  rw [Nodup.grp h h1 hx (by simpa using h2)]
theorem told_no{l:List Itm}{g:Int}(h:∀x∈l,x.grp≠g):told l g=(1,[]):=by
 unfold told
 rw [List.find?_eq_none.mpr (fun x hx=>by simpa using h x hx)]
theorem told_some{l:List Itm}{g:Int}(h:told l g≠(1,[])):∃x∈l,x.grp=g∧told l g=(x.mode,x.srcs):=by
 unfold told at h ⊢
 cases e:l.find? fun y=>decide (y.grp=g) with
 | none=>rw [e] at h;exact absurd rfl h
 | some y=>exact ⟨y,List.mem_of_find?_eq_some e,by simpa using List.find?_some e,rfl⟩
def find2(l:List Wnt)(g:Int):Int×List Int:=((findW l g).mode,(findW l g).srcs)
theorem findW_in{l:List Wnt}(h:l.Pairwise fun x y=>x.grp<y.grp){w:Wnt}(hw:w∈l):findW l w.grp=⟨w.mode,w.srcs⟩:=by
 unfold findW
 cases e:l.find? fun y=>decide (y.grp=w.grp) with
 | none=>rw [List.find?_eq_none] at e;exact absurd (e w hw) (by simp)
 | some y =>
  have h1:=List.mem_of_find?_eq_some e
  have h2:y.grp=w.grp:=by simpa using List.find?_some e
  have:y=w:=by
   obtain ⟨i,hi,rfl⟩:=List.mem_iff_getElem.mp h1
   obtain ⟨j,hj,rfl⟩:=List.mem_iff_getElem.mp hw
   rw [List.pairwise_iff_getElem] at h
   rcases Nat.lt_trichotomy i j with g|g|g
   ·have:=h i j hi hj g;omega
   ·subst g;rfl
   ·have:=h j i hj hi g;omega
  rw [this]
theorem findW_some{l:List Wnt}{g:Int}(h:findW l g≠⟨1,[]⟩):∃w∈l,w.grp=g∧findW l g=⟨w.mode,w.srcs⟩:=by
 unfold findW at h ⊢
 cases e:l.find? fun y=>decide (y.grp=g) with
 | none=>rw [e] at h;exact absurd rfl h
 | some y=>exact ⟨y,List.mem_of_find?_eq_some e,by simpa using List.find?_some e,rfl⟩
theorem find2_ne{l:List Wnt}{g:Int}:find2 l g≠(1,[])↔findW l g≠⟨1,[]⟩:=by
 unfold find2
 cases findW l g
 simp
theorem wants_from{w:List Wnt}(h:wErr false w=0):w=fromF (find2 w) 99:=by
 obtain ⟨_,h1,h2,h3,h4⟩:=wErr_zero.mp h
 refine ascW_ext h4 (fromF_asc 99) fun x=>?_
 rw [mem_fromF]
 constructor
 ·intro hx
  have e:=findW_in h4 hx
  refine ⟨h1 x hx,by unfold find2;rw [e],?_⟩
  rw [find2_ne,e]
  intro e'
  simp only [Flt.mk.injEq] at e'
  exact h3 rfl x hx e'
 ·rintro ⟨g1,g2,g3⟩
  obtain ⟨y,hy,e1,e2⟩:=findW_some (find2_ne.mp g3)
  unfold find2 at g2
  rw [e2] at g2
  simp only [Prod.mk.injEq] at g2
  have:y=x:=by cases x;cases y;simp_all
  rw [←this];exact hy
theorem fromF_congr{f g:Int→Int×List Int}:∀{n:Nat},(∀i:Int,1≤i→i≤n→f i=g i)→fromF f n=fromF g n
 | 0,_=>rfl
 | n+1,h=>by
  rw [fromF,fromF,fromF_congr (n:=n) fun i h1 h2=>h i h1 (by omega),from1,from1,h ((n:Int)+1) (by omega) (by omega)]
theorem find_wantsOf{l:List Itm}(h:itmsOk 1000000 l){g:Int}:find2 (wantsOf l) g=told l g:=by
 have hw:wantsOf l=fromF (told l) 99:=if_pos h
 rw [hw]
 by_cases e:told l g=(1,[])
 ·rw [e]
  unfold find2
  rw [findW_none fun w hw' e'=>?_]
  obtain ⟨_,g2,g3⟩:=mem_fromF.mp hw'
  rw [e'] at g3;exact g3 e
 ·obtain ⟨x,hx,e1,e2⟩:=told_some e
  have hm:(⟨g,x.mode,x.srcs⟩:Wnt)∈fromF (told l) 99:=mem_fromF.mpr ⟨by have:=(h.1 x hx).2.1;simp only;omega,e2,e⟩
  have:=findW_in (fromF_asc 99) hm
  unfold find2
  simp only at this
  rw [this,e2]
theorem told_put1{l:List Itm}{x:Itm}{g:Int}:told (put1 l x) g=if g=x.grp then (x.mode,x.srcs) else told l g:=by
 unfold told put1
 rw [List.find?_append]
 by_cases e:g=x.grp
 ·subst e
  rw [if_pos rfl,List.find?_eq_none.mpr fun y hy=>by have:=(mem_without.mp hy).2;simpa using this]
  simp
 ·rw [if_neg e]
  have:(without x.grp l).find? (fun y=>decide (y.grp=g))=l.find? fun y=>decide (y.grp=g):=by
   unfold without
   rw [List.find?_filter]
   congr 1
   funext y
   by_cases e2:y.grp=g
   ·simp [e2,e]
   ·simp [e2]
  rw [this]
  cases l.find? fun y=>decide (y.grp=g) with
  | some y=>rfl
  | none=>simp [Ne.symm e]
theorem told_chg1{n:Int}{l:List Itm}{w:Wnt}{g:Int}:told (chg1 (n,l) w).2 g=if g=w.grp then (w.mode,w.srcs) else told l g:=by
 unfold chg1
 split
 ·rename_i e
  simp only at e
  by_cases h:g=w.grp
  ·subst h;rw [if_pos rfl,e]
  ·rw [if_neg h]
 ·exact told_put1
theorem told_fold:∀{c:List Wnt} {n:Int} {l:List Itm} {g:Int},c.Pairwise (fun x y=>x.grp<y.grp)→told (c.foldl chg1 (n,l)).2 g=if (∃w∈c,w.grp=g) then find2 c g else told l g
 | [],n,l,g,_=>by simp
 | w::c,n,l,g,h=>by
  have h':=List.pairwise_cons.mp h
  rw [List.foldl_cons]
  have ih:=told_fold (c:=c) (n:=(chg1 (n,l) w).1) (l:=(chg1 (n,l) w).2) (g:=g) h'.2
  rw [show ((chg1 (n,l) w).1,(chg1 (n,l) w).2)=chg1 (n,l) w from rfl] at ih
  rw [ih]
  by_cases e:w.grp=g
  ·have no:¬∃v∈c,v.grp=g:=fun ⟨v,hv,e'⟩=>by have:=h'.1 v hv;omega
   rw [if_neg no,told_chg1,if_pos e.symm,if_pos ⟨w,by simp,e⟩]
   have:=findW_in h (w:=w) (by simp)
   unfold find2
   rw [←e,this]
  ·by_cases e2:∃v∈c,v.grp=g
   ·rw [if_pos e2,if_pos (by obtain ⟨v,hv,q⟩:=e2;exact ⟨v,by simp [hv],q⟩)]
    unfold find2 findW
    rw [List.find?_cons]
    simp [e]
   ·rw [if_neg e2,told_chg1,if_neg (Ne.symm e),if_neg]
    rintro ⟨v,hv,q⟩
    rcases List.mem_cons.mp hv with rfl|hv
    ·exact e q
    ·exact e2 ⟨v,hv,q⟩
theorem fold_len:∀{c:List Wnt} {n:Int} {l:List Itm},c.Pairwise (fun x y=>x.grp<y.grp)→(∀w∈c,told l w.grp≠(w.mode,w.srcs))→(c.foldl chg1 (n,l)).1=n+c.length
 | [],n,l,_,_=>by simp
 | w::c,n,l,h,hn=>by
  have h':=List.pairwise_cons.mp h
  have e:chg1 (n,l) w=(n+1,put1 l ⟨n+1,w.grp,w.mode,w.srcs⟩):=if_neg (hn w (by simp))
  rw [List.foldl_cons,e,fold_len h'.2 fun v hv=>?_]
  ·simp;omega
  ·rw [told_put1,if_neg (by have:=h'.1 v hv;simp only;omega)]
   exact hn v (by simp [hv])
theorem fold_same:∀{c:List Wnt} {n:Int} {l:List Itm},(∀w∈c,told l w.grp=(w.mode,w.srcs))→c.foldl chg1 (n,l)=(n,l)
 | [],n,l,_=>rfl
 | w::c,n,l,h=>by
  have e:chg1 (n,l) w=(n,l):=if_pos (h w (by simp))
  rw [List.foldl_cons,e]
  exact fold_same fun v hv=>h v (by simp [hv])
theorem fold_stay:∀{c:List Wnt} {n:Int} {l:List Itm} {x:Itm},c.Pairwise (fun x y=>x.grp<y.grp)→(∀w∈c,told l w.grp≠(w.mode,w.srcs))→x∈l→x.ver≤n →
  (x∈(c.foldl chg1 (n,l)).2↔¬∃w∈c,w.grp=x.grp)
 | [],n,l,x,_,_,hx,_=>by simp [hx]
 | w::c,n,l,x,h,hn,hx,hv=>by
  have h':=List.pairwise_cons.mp h
  have e:chg1 (n,l) w=(n+1,put1 l ⟨n+1,w.grp,w.mode,w.srcs⟩):=if_neg (hn w (by simp))
  rw [List.foldl_cons,e]
  have hn':∀v∈c,told (put1 l ⟨n+1,w.grp,w.mode,w.srcs⟩) v.grp≠(v.mode,v.srcs):=fun v hv=>by
   rw [told_put1,if_neg (by have:=h'.1 v hv;simp only;omega)]
   exact hn v (by simp [hv])
  by_cases g:w.grp=x.grp
  ·refine iff_of_false (fun hm=>?_) (fun q=>q ⟨w,by simp,g⟩)
   have:∀{c:List Wnt} {n:Int} {l:List Itm},(∀y∈l,y.grp=x.grp→x.ver<y.ver)→x.ver≤n→x∈(c.foldl chg1 (n,l)).2→False:=by
    intro c
    induction c with
    | nil=>intro n l q1 q2 q3;have:=q1 x q3 rfl;omega
    | cons v c ih =>
     intro n l q1 q2 q3
     rw [List.foldl_cons] at q3
     by_cases e2:told l v.grp=(v.mode,v.srcs)
     ·rw [show chg1 (n,l) v=(n,l) from if_pos e2] at q3
      exact ih q1 q2 q3
     ·rw [show chg1 (n,l) v=(n+1,put1 l ⟨n+1,v.grp,v.mode,v.srcs⟩) from if_neg e2] at q3
      refine ih (fun y hy e3=>?_) (by omega) q3
      rcases mem_put1.mp hy with q|rfl
      ·exact q1 y q.1 e3
      ·simp only;omega
   refine this (fun y hy e2=>?_) (by omega) hm
   rcases mem_put1.mp hy with q|rfl
   ·exact absurd (e2.trans g.symm) q.2
   ·simp only;omega
  ·rw [fold_stay h'.2 hn' (mem_put1.mpr (.inl ⟨hx,Ne.symm g⟩)) (by omega)]
   constructor
   ·rintro q ⟨v,hv,e2⟩
    rcases List.mem_cons.mp hv with rfl|hv
    ·exact g e2
    ·exact q ⟨v,hv,e2⟩
   ·rintro q ⟨v,hv,e2⟩
    exact q ⟨v,by simp [hv],e2⟩
theorem mem_chgsTo{old new:List Wnt}{w:Wnt}:∀{n:Nat},w∈chgsTo old new n↔(1≤w.grp∧w.grp≤n)∧findW new w.grp=⟨w.mode,w.srcs⟩∧findW new w.grp≠findW old w.grp
 | 0=>by simp only [chgsTo,List.not_mem_nil,false_iff];rintro ⟨h,_⟩;omega
 | n+1=>by
  rw [chgsTo,List.mem_append,mem_chgsTo (n:=n)]
  have:w∈chgs1 old new (n+1)↔w.grp=n+1∧findW new w.grp=⟨w.mode,w.srcs⟩∧findW new w.grp≠findW old w.grp:=by
   unfold chgs1
   split
   ·rename_i e
    simp only [List.not_mem_nil,false_iff]
    rintro ⟨q,_,h⟩;rw [q] at h;exact h e
   ·rename_i e
    rw [List.mem_singleton]
    constructor
    ·rintro rfl;exact ⟨rfl,rfl,e⟩
    ·rintro ⟨q,h1,_⟩
     rw [q] at h1
     cases w;simp only at q h1 ⊢;rw [h1,q]
  rw [this]
  constructor
  ·rintro (⟨h1,h2⟩|⟨h1,h2⟩)
   ·exact ⟨by omega,h2⟩
   ·exact ⟨by omega,h2⟩
  ·rintro ⟨h1,h2⟩
   by_cases e:w.grp=n+1
   ·exact .inr ⟨e,h2⟩
   ·exact .inl ⟨by omega,h2⟩
theorem change_val{s:Spk}{c:List Wnt}(h:(change s c).2=0):spkOk s∧wErr true c=0∧¬1000000<(c.foldl chg1 (s.last,s.items)).1 ∧
  change s c=(⟨s.router,s.epoch,(c.foldl chg1 (s.last,s.items)).1,(c.foldl chg1 (s.last,s.items)).2,s.peers⟩,0):=by
 unfold change at h ⊢
 by_cases h1:spkOk s
 case neg=>rw [if_pos h1] at h;simp at h
 by_cases h2:wErr true c=0
 case neg=>rw [if_neg (not_not_intro h1),if_pos h2] at h;exact absurd h h2
 by_cases h3:1000000<(c.foldl chg1 (s.last,s.items)).1
 case pos=>rw [if_neg (not_not_intro h1),if_neg (not_not_intro h2),if_pos h3] at h;simp at h
 rw [if_neg (not_not_intro h1),if_neg (not_not_intro h2),if_neg h3]
 exact ⟨h1,h2,h3,rfl⟩
theorem change_spkOk{s:Spk}{c:List Wnt}(h:(change s c).2=0):spkOk (change s c).1:=by
 obtain ⟨h1,h2,h3,e⟩:=change_val h
 rw [e]
 obtain ⟨p1,p2,p3,p4,p5,p6,p7⟩:=h1
 obtain ⟨q1,q2,q3,q4⟩:=chg_ok p4 p3.1 (chgOk_of h2)
 refine ⟨p1,p2,⟨q4,by simp only;omega⟩,q1,p5,fun p hp=>?_,p7⟩
 obtain ⟨r1,r2,r3,r4⟩:=p6 p hp
 exact ⟨r1,r2,r3,r4.1,by have:=q2.le;simp only;omega⟩
theorem restart_val{s:Spk}{w:List Wnt}(h:(restart s w).2=0):spkOk s∧wErr false w=0∧s.epoch≠1000000 ∧
  restart s w=(⟨s.router,s.epoch+1,w.length,w.mapIdx wItm,s.peers.map fun p=>⟨p.router,0,0⟩⟩,0):=by
 unfold restart at h ⊢
 by_cases h1:spkOk s
 case neg=>rw [if_pos h1] at h;simp at h
 by_cases h2:wErr false w=0
 case neg=>rw [if_neg (not_not_intro h1),if_pos h2] at h;exact absurd h h2
 by_cases h3:s.epoch=1000000
 case pos=>rw [if_neg (not_not_intro h1),if_neg (not_not_intro h2),if_pos h3] at h;simp at h
 rw [if_neg (not_not_intro h1),if_neg (not_not_intro h2),if_neg h3]
 exact ⟨h1,h2,h3,rfl⟩
theorem restart_spkOk{s:Spk}{w:List Wnt}(h:(restart s w).2=0):spkOk (restart s w).1:=by
 obtain ⟨h1,h2,h3,e⟩:=restart_val h
 rw [e]
 obtain ⟨p1,p2,p3,p4,p5,p6,p7⟩:=h1
 obtain ⟨w1,_,_,_,w5⟩:=wErr_zero.mp h2
 refine ⟨p1,⟨by simp only;omega,by simp only;omega⟩,⟨by simp only;omega,by simp only;omega⟩,restart_items (chgOk_of h2) w5,by simpa using p5,fun q hq=>?_,?_⟩
 ·obtain ⟨q',hq',rfl⟩:=List.mem_map.mp hq
  obtain ⟨r1,r2,_,_⟩:=p6 q' hq'
  exact ⟨r1,r2,⟨by simp,by simp⟩,by simp,by simp⟩
 ·rw [List.pairwise_map];exact p7
theorem changes_val{a b:List Wnt}(h:(changes a b).2=0):wErr false a=0∧wErr false b=0∧wErr true (changes a b).1=0∧(changes a b).1=chgsTo a b 99:=by
 unfold changes at h ⊢
 by_cases h1:wErr false a=0
 case neg=>rw [if_pos h1] at h;exact absurd h h1
 by_cases h2:wErr false b=0
 case neg=>rw [if_neg (not_not_intro h1),if_pos h2] at h;exact absurd h h2
 by_cases h3:32<(chgsTo a b 99).length
 case pos=>rw [if_neg (not_not_intro h1),if_neg (not_not_intro h2),if_pos h3] at h;simp at h
 rw [if_neg (not_not_intro h1),if_neg (not_not_intro h2),if_neg h3]
 refine ⟨h1,h2,?_,rfl⟩
 have o:=chgsTo_ok (old:=a) (wErr_zero.mp h2).2.2.1 99
 exact wErr_zero.mpr ⟨by simp only;omega,o.rng,o.flt,fun e=>Bool.noConfusion e,o.asc⟩
structure ChgTo (a b:Spk) (w c:List Wnt):Prop where
  wants:wantsOf b.items=w
  last:b.last=a.last+c.length
  ok:spkOk b
  again:change b c=(b,0)
  stay:∀x∈a.items,(x∈b.items↔¬∃y∈c,y.grp=x.grp)
theorem change_to{a:Spk}{w:List Wnt}(ha:spkOk a)(hc:(changes (wantsOf a.items) w).2=0)(hf:(change a (changes (wantsOf a.items) w).1).2=0) :
  ChgTo a (change a (changes (wantsOf a.items) w).1).1 w (changes (wantsOf a.items) w).1:=by
 obtain ⟨c1,c2,c3,c4⟩:=changes_val hc
 generalize hcc:(changes (wantsOf a.items) w).1=c at *
 obtain ⟨_,f2,f3,f4⟩:=change_val hf
 have hok:=change_spkOk hf
 have hai:itmsOk 1000000 a.items:=ha.2.2.2.1.mono ha.2.2.1.2
 have asc:c.Pairwise fun x y=>x.grp<y.grp:=(wErr_zero.mp c3).2.2.2.2
 have mem:∀{x:Wnt},x∈c↔(1≤x.grp∧x.grp≤99)∧findW w x.grp=⟨x.mode,x.srcs⟩∧findW w x.grp≠findW (wantsOf a.items) x.grp:=fun {x}=>by rw [c4];exact mem_chgsTo
 have old:∀g,findW (wantsOf a.items) g=⟨(told a.items g).1,(told a.items g).2⟩:=fun g=>by
  have:=find_wantsOf hai (g:=g)
  unfold find2 at this
  rw [←this]
 have ne:∀x∈c,told a.items x.grp≠(x.mode,x.srcs):=fun x hx e=>by
  obtain ⟨_,h2,h3⟩:=mem.mp hx
  rw [h2,old,e] at h3
  exact h3 rfl
 have hlen:=fold_len (n:=a.last) asc ne
 have told':∀g:Int,1≤g→g≤99→told (change a c).1.items g=find2 w g:=fun g h1 h2=>by
  rw [f4]
  simp only
  rw [told_fold asc]
  split
  ·rename_i h
   obtain ⟨x,hx,rfl⟩:=h
   obtain ⟨_,q2,_⟩:=mem.mp hx
   unfold find2
   rw [findW_in asc hx,q2]
  ·rename_i h
   have e:findW w g=findW (wantsOf a.items) g:=Classical.byContradiction fun hn=>h ⟨⟨g,(findW w g).mode,(findW w g).srcs⟩,mem.mpr ⟨⟨h1,h2⟩,rfl,hn⟩,rfl⟩
   unfold find2
   rw [e,old]
 refine ⟨?_,by rw [f4];exact hlen,hok,?_,fun x hx=>?_⟩
 ·rw [wantsOf,if_pos (hok.2.2.2.1.mono hok.2.2.1.2)]
  have e:=wants_from c2
  rw [fromF_congr fun i h1 h2=>told' i h1 (by omega)]
  exact e.symm
 ·have same:c.foldl chg1 ((change a c).1.last,(change a c).1.items)=((change a c).1.last,(change a c).1.items):=by
   refine fold_same fun x hx=>?_
   obtain ⟨q1,q2,_⟩:=mem.mp hx
   rw [told' _ q1.1 q1.2]
   unfold find2
   rw [q2]
  generalize (change a c).1=b at *
  unfold change
  rw [if_neg (not_not_intro hok),if_neg (not_not_intro c3),same,if_neg (by have:=hok.2.2.1.2;simp only;omega)]
 ·rw [f4]
  exact fold_stay asc ne hx (ha.2.2.2.1.1 x hx).1.2
section
variable {α : Type} (key : α → Int)
def posK(l:List α)(r:Int):Nat:=l.findIdx fun p=>!decide (key p<r)
variable {key}
theorem posK_lt{l:List α}{r:Int}{i:Nat}(h:i<posK key l r)(hi:i<l.length):key l[i]<r:=by
 have:=List.not_of_lt_findIdx h
 simpa using this
theorem posK_ge{l:List α}{r:Int}(ho:l.Pairwise fun x y=>key x<key y){i:Nat}(hi:i<l.length)(h:posK key l r≤i):r≤key l[i]:=by
 have hp:posK key l r<l.length:=by omega
 have h1:r≤key l[posK key l r]:=by
  have:(!decide (key l[posK key l r]<r))=true:=List.findIdx_getElem (w:=hp)
  simpa using this
 rcases Nat.eq_or_lt_of_le h with e|e
 ·simp only [e] at h1;exact h1
 ·have:=List.pairwise_iff_getElem.mp ho _ _ hp hi e
  omega
theorem posK_eq{l:List α}{r:Int}(ho:l.Pairwise fun x y=>key x<key y){i:Nat}(hi:i<l.length)(h:key l[i]=r):posK key l r=i:=by
 rcases Nat.lt_trichotomy (posK key l r) i with e|e|e
 ·have h1:=posK_ge ho (r:=r) (i:=posK key l r) (by omega) (Nat.le_refl _)
  have:=List.pairwise_iff_getElem.mp ho _ _ (by omega) hi e
  omega
 ·exact e
 ·have:=posK_lt e hi;omega
theorem hitK_iff{l:List α}{r:Int}{d:α}(ho:l.Pairwise fun x y=>key x<key y):(posK key l r<l.length∧key (l.getD (posK key l r) d)=r)↔∃z∈l,key z=r:=by
 constructor
 ·rintro ⟨h1,h2⟩
  rw [List.getD_eq_getElem?_getD,List.getElem?_eq_getElem h1] at h2
  exact ⟨_,List.getElem_mem h1,h2⟩
 ·rintro ⟨z,hz,rfl⟩
  obtain ⟨i,hi,rfl⟩:=List.getElem_of_mem hz
  rw [posK_eq ho hi rfl]
  exact ⟨hi,by rw [List.getD_eq_getElem?_getD,List.getElem?_eq_getElem hi];rfl⟩
theorem atK_eq{l:List α}{d z:α}(ho:l.Pairwise fun x y=>key x<key y)(hz:z∈l):l.getD (posK key l (key z)) d=z:=by
 obtain ⟨i,hi,rfl⟩:=List.getElem_of_mem hz
 rw [posK_eq ho hi rfl,List.getD_eq_getElem?_getD,List.getElem?_eq_getElem hi];rfl
theorem mem_setK{l:List α}{r:Int}{z':α}(ho:l.Pairwise fun x y=>key x<key y)(hh:∃z∈l,key z=r)(z:α):z∈l.set (posK key l r) z'↔z=z'∨z∈l∧key z≠r:=by
 obtain ⟨y,hy,rfl⟩:=hh
 obtain ⟨i,hi,rfl⟩:=List.getElem_of_mem hy
 rw [posK_eq ho hi rfl,List.mem_iff_getElem]
 constructor
 ·rintro ⟨j,hj,rfl⟩
  rw [List.getElem_set]
  split
  ·exact .inl rfl
  ·rename_i hne
   have hj':j<l.length:=by simpa using hj
   refine .inr ⟨List.getElem_mem _,fun e=>?_⟩
   rcases Nat.lt_or_gt_of_ne hne with e'|e'
   ·have:=List.pairwise_iff_getElem.mp ho _ _ hi hj' e';omega
   ·have:=List.pairwise_iff_getElem.mp ho _ _ hj' hi e';omega
 ·rintro (rfl|⟨hz,hne⟩)
  ·exact ⟨i,by simpa using hi,by simp⟩
  ·obtain ⟨j,hj,rfl⟩:=List.getElem_of_mem hz
   refine ⟨j,by simpa using hj,?_⟩
   rw [List.getElem_set,if_neg]
   rintro rfl;exact hne rfl
theorem sort_setK{l:List α}{r:Int}{z':α}(ho:l.Pairwise fun x y=>key x<key y)(hh:∃z∈l,key z=r)(hk:key z'=r):(l.set (posK key l r) z').Pairwise fun x y=>key x<key y:=by
 obtain ⟨y,hy,rfl⟩:=hh
 obtain ⟨i,hi,rfl⟩:=List.getElem_of_mem hy
 rw [posK_eq ho hi rfl]
 have:(l.set i z').map key=l.map key:=by
  rw [List.map_set,hk]
  refine List.ext_getElem (by simp) fun j h1 h2=>?_
  rw [List.getElem_set]
  split
  ·rename_i e;subst e;simp
  ·rfl
 have h:=ho
 rw [←List.pairwise_map (f:=key) (R:=fun x y:Int=>x<y)] at h ⊢
 rw [this];exact h
theorem ins_setK{l:List α}{r:Int}{z0 z':α}(ho:l.Pairwise fun x y=>key x<key y)(hh:¬∃z∈l,key z=r)(hk:key z'=r) :
  ((l.take (posK key l r)++z0::l.drop (posK key l r)).set (posK key l r) z'=l.take (posK key l r)++z'::l.drop (posK key l r)) ∧
  (∀z,z∈l.take (posK key l r)++z'::l.drop (posK key l r)↔z=z'∨z∈l∧key z≠r)∧(l.take (posK key l r)++z'::l.drop (posK key l r)).Pairwise fun x y=>key x<key y:=by
 have hp:posK key l r≤l.length:=List.findIdx_le_length
 refine ⟨?_,fun z=>?_,?_⟩
 ·rw [List.set_append_right _ _ (by rw [List.length_take];omega)]
  simp [List.length_take,Nat.min_eq_left hp]
 ·rw [List.mem_append,List.mem_cons]
  constructor
  ·rintro (h|rfl|h)
   ·have:=List.mem_of_mem_take h;exact .inr ⟨this,fun e=>hh ⟨z,this,e⟩⟩
   ·exact .inl rfl
   ·have:=List.mem_of_mem_drop h;exact .inr ⟨this,fun e=>hh ⟨z,this,e⟩⟩
  ·rintro (rfl|⟨h,_⟩)
   ·exact .inr (.inl rfl)
   ·rw [←List.take_append_drop (posK key l r) l] at h
    rcases List.mem_append.mp h with h|h
    ·exact .inl h
    ·exact .inr (.inr h)
 ·have h1:∀x∈l.take (posK key l r),key x<r:=fun x hx=>by
   obtain ⟨i,hi,rfl⟩:=List.getElem_of_mem hx
   rw [List.getElem_take]
   simp only [List.length_take] at hi
   exact posK_lt (by omega) _
  have h2:∀x∈l.drop (posK key l r),r<key x:=fun x hx=>by
   have hm:=List.mem_of_mem_drop hx
   obtain ⟨i,hi,rfl⟩:=List.getElem_of_mem hx
   rw [List.getElem_drop]
   simp only [List.length_drop] at hi
   have h3:=posK_ge ho (r:=r) (i:=posK key l r+i) (by omega) (by omega)
   have h4:key l[posK key l r+i]≠r:=fun e=>hh ⟨_,List.getElem_mem _,e⟩
   omega
  refine List.pairwise_append.mpr ⟨ho.sublist (List.take_sublist _ _),List.pairwise_cons.mpr ⟨fun y hy=>by rw [hk];exact h2 y hy,ho.sublist (List.drop_sublist _ _)⟩,fun x hx y hy=>?_⟩
  have:=h1 x hx
  rcases List.mem_cons.mp hy with rfl|hy
  ·omega
  ·have:=h2 y hy;omega
end
def gOf(l:List Hrd)(r:Int):Hrd:=(base l r).getD (posH l r) hrd0
def pOf(l:List Per)(r:Int):Per:=l.getD (posP l r) ⟨0,0,0⟩
theorem hitH_iff{l:List Hrd}{r:Int}(ho:l.Pairwise fun x y=>x.router<y.router):hitH l r↔∃z∈l,z.router=r:=hitK_iff (key:=Hrd.router) ho
theorem hitP_iff{l:List Per}{r:Int}(ho:l.Pairwise fun x y=>x.router<y.router):hitP l r↔∃z∈l,z.router=r:=hitK_iff (key:=Per.router) ho
theorem gOf_mem{l:List Hrd}{z:Hrd}(ho:l.Pairwise fun x y=>x.router<y.router)(hz:z∈l):gOf l z.router=z:=by
 unfold gOf base
 rw [if_pos ((hitH_iff ho).mpr ⟨z,hz,rfl⟩)]
 exact atK_eq (key:=Hrd.router) ho hz
theorem insAt_cons{α:Type}(l:List α)(i:Nat)(x:α):insAt l i x=l.take i++x::l.drop i:=by
 simp [insAt]
theorem gOf_no{l:List Hrd}{r:Int}(ho:l.Pairwise fun x y=>x.router<y.router)(h:¬∃z∈l,z.router=r):gOf l r=⟨r,0,0,[]⟩:=by
 unfold gOf base
 rw [if_neg (fun q=>h ((hitH_iff ho).mp q)),insAt_cons]
 have hp:posH l r≤l.length:=List.findIdx_le_length
 rw [List.getD_eq_getElem?_getD,List.getElem?_append_right (by rw [List.length_take];omega)]
 simp [List.length_take,Nat.min_eq_left hp]
theorem pOf_mem{l:List Per}{z:Per}(ho:l.Pairwise fun x y=>x.router<y.router)(hz:z∈l):pOf l z.router=z:=atK_eq (key:=Per.router) ho hz
theorem gOf_router{l:List Hrd}{r:Int}(ho:l.Pairwise fun x y=>x.router<y.router):(gOf l r).router=r:=by
 by_cases h:∃z∈l,z.router=r
 ·obtain ⟨z,hz,rfl⟩:=h;rw [gOf_mem ho hz]
 ·rw [gOf_no ho h]
def hearG(g:Hrd)(x:Sig):Hrd:=hear1 (hear0 g x) x
theorem hearG_router{g:Hrd}{x:Sig}(h:g.router=x.src):(hearG g x).router=x.src:=by
 unfold hearG hear1 hear0
 split<;>split<;>simp [h]
structure Hears (l l':Lsn) (x y:Sig):Prop where
  router:l'.router=l.router
  epoch:l'.epoch=l.epoch
  mem:∀z,z∈l'.heard↔z=hearG (gOf l.heard x.src) x∨z∈l.heard∧z.router≠x.src
  ans:y=⟨3,l.router,x.src,(hearG (gOf l.heard x.src) x).epoch,(hearG (gOf l.heard x.src) x).ver,0,l.epoch,0,0,[]⟩
  ok:lsnOk l'
theorem hearG_ok{g:Hrd}{x:Sig}(hg:itmsOk g.ver g.items)(hv:0≤g.ver∧g.ver≤1000000)(he:0≤g.epoch∧g.epoch≤1000000)(hx:sigErr x=0)(hk:x.kind≠3) :
  (1≤(hearG g x).epoch∧(hearG g x).epoch≤1000000)∧(0≤(hearG g x).ver∧(hearG g x).ver≤1000000)∧itmsOk (hearG g x).ver (hearG g x).items:=by
 obtain ⟨s1,s2,s3⟩:=sig_told hx hk
 have key:∀h:Hrd,(1≤h.epoch∧h.epoch≤1000000)→(0≤h.ver∧h.ver≤1000000)→itmsOk h.ver h.items→(1≤(hear1 h x).epoch∧(hear1 h x).epoch≤1000000)∧(0≤(hear1 h x).ver∧(hear1 h x).ver≤1000000)∧itmsOk (hear1 h x).ver (hear1 h x).items:=by
  intro h h1 h2 h3
  unfold hear1
  split
  ·rename_i c
   obtain ⟨t1,t2,t3⟩:=s3 c.1
   exact ⟨h1,s2,h3.put (x:=sigItm x) c.2.2.2 t1 t2 t3⟩
  ·exact ⟨h1,h2,h3⟩
 unfold hearG hear0
 split
 ·exact key _ s1 ⟨by simp,by simp⟩ ⟨fun y hy=>by simp at hy,by simp,List.Pairwise.nil⟩
 ·exact key _ ⟨by omega,he.2⟩ hv hg
theorem gOf_ok{l:Lsn}(hl:lsnOk l)(r:Int):itmsOk (gOf l.heard r).ver (gOf l.heard r).items∧(0≤(gOf l.heard r).ver∧(gOf l.heard r).ver≤1000000)∧(0≤(gOf l.heard r).epoch∧(gOf l.heard r).epoch≤1000000):=by
 by_cases h:∃z∈l.heard,z.router=r
 ·obtain ⟨z,hz,rfl⟩:=h
  rw [gOf_mem hl.2.2.2.2 hz]
  obtain ⟨k1,k2,k3,k4,k5⟩:=hl.2.2.2.1 z hz
  exact ⟨k5,k4,by omega,k3.2⟩
 ·rw [gOf_no hl.2.2.2.2 h]
  exact ⟨⟨fun y hy=>by simp at hy,by simp,List.Pairwise.nil⟩,⟨by simp,by simp⟩,by simp,by simp⟩
theorem sig_ends{x:Sig}(hx:sigErr x=0):sigEnds x:=by
 unfold sigErr at hx
 split at hx
 ·omega
 split at hx
 ·omega
 rename_i h;exact (Classical.not_not.mp h).1
theorem hear_val{l:Lsn}{x:Sig}(hl:lsnOk l)(hx:sigErr x=0)(hk:x.kind≠3)(hd:x.dst=l.router)(hn:(∃z∈l.heard,z.router=x.src)∨l.heard.length<12) :
  (hear l x).2=0∧Hears l (hear l x).1.1 x (hear l x).1.2:=by
 obtain ⟨g1,g2,g3⟩:=gOf_ok hl x.src
 obtain ⟨l1,l2,l3,l4,l5⟩:=hl
 obtain ⟨k1,k2,k3⟩:=hearG_ok g1 g2 g3 hx hk
 have hr:=hearG_router (x:=x) (gOf_router l5)
 obtain ⟨e1,e2,e3⟩:=sig_ends hx
 have hH:hearH l.heard x=hearG (gOf l.heard x.src) x:=rfl
 have hc:¬(¬hitH l.heard x.src∧l.heard.length=12):=by
  rintro ⟨q1,q2⟩
  rcases hn with q|q
  ·exact q1 ((hitH_iff l5).mpr q)
  ·omega
 have e:hear l x=((⟨l.router,l.epoch,(base l.heard x.src).set (posH l.heard x.src) (hearG (gOf l.heard x.src) x)⟩,
  ⟨3,l.router,x.src,(hearG (gOf l.heard x.src) x).epoch,(hearG (gOf l.heard x.src) x).ver,0,l.epoch,0,0,[]⟩),0):=by
  unfold hear
  rw [if_neg (not_not_intro ⟨l1,l2,l3,l4,l5⟩),if_neg (not_not_intro hx),if_neg (by rintro (q|q);exact hk q;exact q hd),if_neg hc,hH]
 rw [e]
 have key:(∀z,z∈(base l.heard x.src).set (posH l.heard x.src) (hearG (gOf l.heard x.src) x)↔z=hearG (gOf l.heard x.src) x∨z∈l.heard∧z.router≠x.src) ∧
   ((base l.heard x.src).set (posH l.heard x.src) (hearG (gOf l.heard x.src) x)).Pairwise (fun x y=>x.router<y.router)∧((base l.heard x.src).set (posH l.heard x.src) (hearG (gOf l.heard x.src) x)).length≤12:=by
  by_cases h:∃z∈l.heard,z.router=x.src
  ·have hb:base l.heard x.src=l.heard:=if_pos ((hitH_iff l5).mpr h)
   rw [hb]
   exact ⟨mem_setK (key:=Hrd.router) l5 h,sort_setK (key:=Hrd.router) l5 h hr,by simpa using l3⟩
  ·have hb:base l.heard x.src=l.heard.take (posH l.heard x.src)++⟨x.src,0,0,[]⟩::l.heard.drop (posH l.heard x.src):=by
    unfold base
    rw [if_neg fun q=>h ((hitH_iff l5).mp q),insAt_cons]
   rw [hb]
   obtain ⟨q1,q2,q3⟩:=ins_setK (key:=Hrd.router) (z0:=⟨x.src,0,0,[]⟩) l5 h hr
   have q1:(l.heard.take (posH l.heard x.src)++⟨x.src,0,0,[]⟩::l.heard.drop (posH l.heard x.src)).set (posH l.heard x.src) (hearG (gOf l.heard x.src) x)=l.heard.take (posH l.heard x.src)++hearG (gOf l.heard x.src) x::l.heard.drop (posH l.heard x.src):=q1
   rw [q1]
   refine ⟨q2,q3,?_⟩
   have:=hn.resolve_left h
   simp only [List.length_append,List.length_cons,List.length_take,List.length_drop];omega
 obtain ⟨m1,m2,m3⟩:=key
 refine ⟨rfl,rfl,rfl,m1,rfl,l1,l2,m3,fun z hz=>?_,m2⟩
 rcases (m1 z).mp hz with rfl|⟨hz,_⟩
 ·exact ⟨by rw [hr];exact e1,by rw [hr,←hd];exact e3,k1,k2,k3⟩
 ·exact l4 z hz
theorem Hears.self{l l':Lsn}{x y:Sig}(hl:lsnOk l)(h:Hears l l' x y):gOf l'.heard x.src=hearG (gOf l.heard x.src) x:=by
 have:=gOf_mem h.ok.2.2.2.2 ((h.mem _).mpr (.inl rfl))
 rw [hearG_router (gOf_router hl.2.2.2.2)] at this
 exact this
theorem Hears.other{l l':Lsn}{x y:Sig}(hl:lsnOk l)(h:Hears l l' x y){r:Int}(hr:r≠x.src):gOf l'.heard r=gOf l.heard r:=by
 by_cases e:∃z∈l.heard,z.router=r
 ·obtain ⟨z,hz,rfl⟩:=e
  rw [gOf_mem hl.2.2.2.2 hz,gOf_mem h.ok.2.2.2.2 ((h.mem z).mpr (.inr ⟨hz,hr⟩))]
 ·rw [gOf_no hl.2.2.2.2 e,gOf_no h.ok.2.2.2.2]
  rintro ⟨z,hz,rfl⟩
  rcases (h.mem z).mp hz with rfl|⟨hz,_⟩
  ·exact hr (hearG_router (gOf_router hl.2.2.2.2))
  ·exact e ⟨z,hz,rfl⟩
structure Acks (a a':Spk) (x:Sig):Prop where
  router:a'.router=a.router
  epoch:a'.epoch=a.epoch
  last:a'.last=a.last
  items:a'.items=a.items
  mem:∀z,z∈a'.peers↔z=ackP a x (pOf a.peers x.src)∨z∈a.peers∧z.router≠x.src
  ok:spkOk a'
  routers:a'.peers.map Per.router=a.peers.map Per.router
theorem ack_val{a:Spk}{x:Sig}(ha:spkOk a)(hx:sigErr x=0)(hk:x.kind=3)(hd:x.dst=a.router)(hh:∃z∈a.peers,z.router=x.src):(ack a x).2=0∧Acks a (ack a x).1 x:=by
 obtain ⟨p1,p2,p3,p4,p5,p6,p7⟩:=ha
 have hhit:=(hitP_iff p7).mpr hh
 have e:ack a x=(⟨a.router,a.epoch,a.last,a.items,a.peers.set (posP a.peers x.src) (ackP a x (pOf a.peers x.src))⟩,0):=by
  unfold ack
  rw [if_neg (not_not_intro ⟨p1,p2,p3,p4,p5,p6,p7⟩),if_neg (not_not_intro hx),if_neg (by rintro (q|q);exact q hk;exact q hd),if_neg (not_not_intro hhit)]
  rfl
 rw [e]
 obtain ⟨z,hz,hzr⟩:=hh
 have hp:pOf a.peers x.src=z:=by rw [←hzr];exact pOf_mem p7 hz
 obtain ⟨k1,k2⟩:=ackP_ok (p6 z hz) p3.1 hx hk
 rw [hp]
 have hr:(ackP a x z).router=x.src:=k2.trans hzr
 have m1:=mem_setK (key:=Per.router) (z':=ackP a x z) p7 ⟨z,hz,hzr⟩
 have m2:=sort_setK (key:=Per.router) (z':=ackP a x z) p7 ⟨z,hz,hzr⟩ hr
 refine ⟨rfl,rfl,rfl,rfl,rfl,by rw [hp];exact m1,⟨p1,p2,p3,p4,by simpa using p5,fun y hy=>?_,m2⟩,?_⟩
 ·rcases (m1 y).mp hy with rfl|⟨hy,_⟩
  ·exact k1
  ·exact p6 y hy
 ·obtain ⟨i,hi,rfl⟩:=List.getElem_of_mem hz
  have hpos:posP a.peers x.src=i:=posK_eq (key:=Per.router) p7 hi hzr
  simp only [hpos]
  rw [List.map_set,k2]
  refine List.ext_getElem (by simp) fun j h1 h2=>?_
  rw [List.getElem_set]
  split
  ·rename_i e;subst e;simp
  ·rfl
theorem Acks.self{a a':Spk}{x:Sig}(ha:spkOk a)(hh:∃z∈a.peers,z.router=x.src)(h:Acks a a' x):pOf a'.peers x.src=ackP a x (pOf a.peers x.src):=by
 obtain ⟨z,hz,hzr⟩:=hh
 have hp:pOf a.peers x.src=z:=by rw [←hzr];exact pOf_mem ha.2.2.2.2.2.2 hz
 have:=pOf_mem h.ok.2.2.2.2.2.2 ((h.mem _).mpr (.inl rfl))
 rw [←this,hp]
 congr 1
 unfold ackP
 split
 ·exact hzr.symm
 split<;>exact hzr.symm
theorem Acks.other{a a':Spk}{x:Sig}(ha:spkOk a)(h:Acks a a' x){r:Int}(hr:r≠x.src)(hh:∃z∈a.peers,z.router=r):pOf a'.peers r=pOf a.peers r:=by
 obtain ⟨z,hz,rfl⟩:=hh
 rw [pOf_mem ha.2.2.2.2.2.2 hz,pOf_mem h.ok.2.2.2.2.2.2 ((h.mem z).mpr (.inr ⟨hz,hr⟩))]
def LastOk(n:Int)(l:List Itm):Prop:=(l=[]→n=0)∧∀x,l.getLast?=some x→x.ver=n
theorem LastOk.nil:LastOk 0 []:=⟨fun _=>rfl,fun x h=>by simp at h⟩
theorem LastOk.put{n:Int}{l:List Itm}{x:Itm}(h:x.ver=n):LastOk n (put1 l x):=by
 unfold put1
 exact ⟨fun e=>by simp at e,fun y hy=>by simp at hy;rw [←hy];exact h⟩
theorem LastOk.chg:∀{c:List Wnt} {n:Int} {l:List Itm},LastOk n l→LastOk (c.foldl chg1 (n,l)).1 (c.foldl chg1 (n,l)).2
 | [],n,l,h=>h
 | w::c,n,l,h=>by
  rw [List.foldl_cons]
  unfold chg1
  split
  ·exact LastOk.chg h
  ·exact LastOk.chg (LastOk.put rfl)
theorem LastOk.restart(w:List Wnt):LastOk w.length (w.mapIdx wItm):=by
 refine ⟨fun e=>by have:=congrArg List.length e;simp at this;simp [this],fun x hx=>?_⟩
 rw [List.getLast?_eq_getElem?] at hx
 rw [List.length_mapIdx,List.getElem?_mapIdx] at hx
 cases e:w[w.length-1]? with
 | none=>rw [e] at hx;simp at hx
 | some y =>
  rw [e] at hx
  simp at hx
  have:=(List.getElem?_eq_some_iff.mp e).1
  rw [←hx]
  simp only [wItm];omega
theorem LastOk.all{n v:Int}{l:List Itm}(h:LastOk n l)(h0:0≤v)(hv:∀x∈l,x.ver≤v):n≤v:=by
 cases e:l.getLast? with
 | none=>rw [List.getLast?_eq_none_iff] at e;rw [h.1 e];exact h0
 | some x =>
  have:=h.2 x e
  have:=hv x (List.mem_of_getLast? e)
  omega
structure TellOk (e n:Int) (it:List Itm) (x:Sig):Prop where
  ep:x.epoch≤e
  upd:x.kind=2→x.epoch=e→UpdOk n it x
structure AckOk (e le:Int) (g:Hrd) (x:Sig):Prop where
  ep:x.epoch≤e
  pe:x.pep≤le
  now:x.pep=le→x.epoch=e→g.epoch=e∧x.ver≤g.ver
structure PI (e n:Int) (it:List Itm) (p:Per) (le:Int) (g:Hrd):Prop where
  e1:1≤e
  n0:0≤n
  io:itmsOk n it
  last:LastOk n it
  p1:p.epoch≤le
  p2:0≤p.acked
  p3:p.epoch=le→p.acked=0∨(g.epoch=e∧p.acked≤g.ver)
  g1:0≤g.epoch∧g.epoch≤e
  g2:0≤g.ver
  g3:itmsOk g.ver g.items
  g4:g.epoch=e→HrdOk n it g
section
variable {e n : Int} {it : List Itm} {p : Per} {le : Int} {g : Hrd} {x : Sig}
theorem PI.change(h:PI e n it p le g){m:Int}{k:List Itm}(ha:Adv n it m k)(h0:0≤m)(hk:itmsOk m k)(hl:LastOk m k):PI e m k p le g:=
  { h with n0:=h0,io:=hk,last:=hl,g4:=fun q=>(h.g4 q).adv ha }
theorem TellOk.change(h:TellOk e n it x){m:Int}{k:List Itm}(ha:Adv n it m k):TellOk e m k x:=⟨h.ep,fun q1 q2=>(h.upd q1 q2).adv ha⟩
theorem PI.restart(h:PI e n it p le g){m:Int}{k:List Itm}(h0:0≤m)(hk:itmsOk m k)(hl:LastOk m k)(q:Int)(hle:0≤le):PI (e+1) m k ⟨q,0,0⟩ le g:=
  { e1:=by have:=h.e1;omega,n0:=h0,io:=hk,last:=hl,p1:=hle,p2:=by simp,p3:=fun _=>.inl rfl,g1:=by have:=h.g1;omega,g2:=h.g2,g3:=h.g3,g4:=fun q=>by have:=h.g1;omega }
theorem TellOk.restart(h:TellOk e n it x){m:Int}{k:List Itm}:TellOk (e+1) m k x:=⟨by have:=h.ep;omega,fun _ q=>by have:=h.ep;omega⟩
theorem AckOk.restart(h:AckOk e le g x):AckOk (e+1) le g x:=⟨by have:=h.ep;omega,h.pe,fun _ q=>by have:=h.ep;omega⟩
theorem PI.lapse(h:PI e n it p le g)(r:Int):PI e n it p (le+1) ⟨r,0,0,[]⟩:=
  { h with p1:=by have:=h.p1;omega,p3:=fun q=>by have:=h.p1;omega,g1:=⟨by simp,by have:=h.e1;simp only;omega⟩,g2:=by simp,g3:=⟨fun y hy=>by simp at hy,by simp,List.Pairwise.nil⟩,g4:=fun q=>by have:=h.e1;simp only at q;omega }
theorem AckOk.lapse(h:AckOk e le g x){g':Hrd}:AckOk e (le+1) g' x:=⟨h.ep,by have:=h.pe;omega,fun q=>by have:=h.pe;omega⟩
structure Grows (e:Int) (g g':Hrd):Prop where
  now:g.epoch=e→g'.epoch=e∧g.ver≤g'.ver
theorem AckOk.grow(h:AckOk e le g x){g':Hrd}(hg:Grows e g g'):AckOk e le g' x:=⟨h.ep,h.pe,fun q1 q2=>by
 obtain ⟨a,b⟩:=h.now q1 q2
 obtain ⟨c,d⟩:=hg.now a
 exact ⟨c,by omega⟩⟩
theorem hearG_grows(hx:x.epoch≤e):Grows e g (hearG g x):=by
 refine ⟨fun q=>?_⟩
 have h0:hear0 g x=g:=if_neg (by omega)
 unfold hearG
 rw [h0]
 unfold hear1
 split
 ·rename_i c;exact ⟨q,by simp only;omega⟩
 ·exact ⟨q,Int.le_refl _⟩
theorem PI.hear(h:PI e n it p le g)(hx:sigErr x=0)(hk:x.kind≠3)(ht:TellOk e n it x):PI e n it p le (hearG g x):=by
  obtain ⟨s1,s2,s3⟩:=sig_told hx hk
  have hgr:=hearG_grows (g:=g) ht.ep
  have h0:PI e n it p le (hear0 g x):=by
    unfold hear0
    split
    · rename_i c
      have:=h.g1;have:=ht.ep
      exact { h with p3:=fun q=>(h.p3 q).imp_right fun q=>by omega,g1:=⟨by simp only;omega,ht.ep⟩,g2:=by simp,g3:=⟨fun y hy=>by simp at hy,by simp,List.Pairwise.nil⟩,g4:=fun _=>HrdOk.nil h.io h.n0 _ _ }
    · exact h
  unfold hearG
  generalize hear0 g x=g0 at h0 ⊢
  unfold hear1
  split
  · rename_i c
    obtain ⟨c1,c2,c3,c4⟩:=c
    obtain ⟨t1,t2,t3⟩:=s3 c1
    exact { h0 with p3:=fun q=>(h0.p3 q).imp_right fun q=>⟨q.1,by simp only;omega⟩,g1:=h0.g1,g2:=s2.1,g3:=h0.g3.put (x:=sigItm x) c4 t1 t2 t3,g4:=fun q=>(h0.g4 q).hear (ht.upd c1 (c2.trans q)) c3 c4 }
  · exact h0
theorem PI.answer(h:PI e n it p le g){r q:Int}:AckOk e le g ⟨3,r,q,g.epoch,g.ver,0,le,0,0,[]⟩:=⟨h.g1.2,Int.le_refl _,fun _ q=>⟨q,Int.le_refl _⟩⟩
theorem PI.ack(h:PI e n it p le g){a:Spk}(hae:a.epoch=e)(hal:a.last=n)(ha:AckOk e le g x)(hv:0≤x.ver):PI e n it (ackP a x p) le g:=by
  subst hae;subst hal
  have hV:0≤ackV a x∧(x.pep=le→ackV a x=0∨(g.epoch=a.epoch∧ackV a x≤g.ver)):=by
    unfold ackV
    split
    · rename_i c;exact ⟨hv,fun q=>.inr (ha.now q c.1)⟩
    · exact ⟨Int.le_refl _,fun _=>.inl rfl⟩
  unfold ackP
  split
  · exact { h with p1:=ha.pe,p2:=hV.1,p3:=hV.2 }
  split
  · rename_i _ c
    refine { h with p1:=h.p1,p2:=?_,p3:=fun q=>?_ }
    · simp only [maxI];split
      · exact hV.1
      · exact h.p2
    · simp only [maxI] at q ⊢
      split
      · exact hV.2 (c.trans q)
      · exact h.p3 q
  · exact h
def hearL(g:Hrd)(l:List Sig):Hrd:=l.foldl hearG g
theorem hearL_grows:∀{l:List Sig} {g:Hrd},(∀x∈l,x.epoch≤e)→Grows e g (hearL g l)
 | [],g,_=>⟨fun q=>⟨q,Int.le_refl _⟩⟩
 | x::l,g,h=>⟨fun q=>by
  obtain ⟨a,b⟩:=(hearG_grows (g:=g) (h x (by simp))).now q
  obtain ⟨c,d⟩:=(hearL_grows (l:=l) (g:=hearG g x) fun y hy=>h y (by simp [hy])).now a
  exact ⟨c,by simp only [hearL,List.foldl_cons] at d ⊢;omega⟩⟩
theorem hearG_epoch(h:g.epoch≤e)(hx:x.epoch=e):(hearG g x).epoch=e:=by
 unfold hearG hear1 hear0
 by_cases c:g.epoch<x.epoch
 ·rw [if_pos c];split<;>exact hx
 ·rw [if_neg c]
  split
  ·simp only;omega
  ·omega
theorem hearL_upd{s:Spk}{to acked:Int}(hs:s.epoch=e):∀(r d:List Itm) (prev:Int) (g:Hrd),g.epoch=e→acked≤g.ver→prev≤g.ver→(∀y∈d,y.ver≤g.ver) →
  (hearL g (sendFrom s to acked prev r)).epoch=e∧g.ver≤(hearL g (sendFrom s to acked prev r)).ver∧∀y∈d++r,y.ver≤(hearL g (sendFrom s to acked prev r)).ver
 | [],d,prev,g,h1,h2,h3,h4=>⟨h1,Int.le_refl _,by simpa [sendFrom,hearL] using h4⟩
 | y::r,d,prev,g,h1,h2,h3,h4=>by
  by_cases c:acked<y.ver
  ·have e1:sendFrom s to acked prev (y::r)=upd1 s to prev y::sendFrom s to acked y.ver r:=by simp [sendFrom,c]
   rw [e1]
   have hg:=hearG_grows (g:=g) (x:=upd1 s to prev y) (e:=e) (by simp only [upd1];omega)
   obtain ⟨q1,q2⟩:=hg.now h1
   have hy:y.ver≤(hearG g (upd1 s to prev y)).ver:=by
    unfold hearG
    rw [show hear0 g (upd1 s to prev y)=g from if_neg (by simp only [upd1];omega)]
    unfold hear1
    split
    ·exact Int.le_refl _
    ·rename_i c2
     refine Classical.byContradiction fun c3=>c2 ⟨rfl,by simp only [upd1];omega,h3,by simp only [upd1];omega⟩
   obtain ⟨r1,r2,r3⟩:=hearL_upd (to:=to) (acked:=acked) hs r (d++[y]) y.ver (hearG g (upd1 s to prev y)) q1 (by omega) hy fun z hz=>by
    rcases List.mem_append.mp hz with hz|hz
    ·have:=h4 z hz;omega
    ·rw [List.mem_singleton] at hz;subst hz;exact hy
   refine ⟨r1,?_,fun z hz=>r3 z (by simpa using hz)⟩
   show g.ver≤(hearL (hearG g (upd1 s to prev y)) _).ver
   omega
  ·have e1:sendFrom s to acked prev (y::r)=sendFrom s to acked y.ver r:=by simp [sendFrom,c]
   rw [e1]
   obtain ⟨r1,r2,r3⟩:=hearL_upd (to:=to) (acked:=acked) hs r (d++[y]) y.ver g h1 h2 (by omega) fun z hz=>by
    rcases List.mem_append.mp hz with hz|hz
    ·exact h4 z hz
    ·rw [List.mem_singleton] at hz;subst hz;omega
   exact ⟨r1,r2,fun z hz=>r3 z (by simpa using hz)⟩
theorem PI.full(h:PI e n it p le g){s:Spk}{to acked:Int}(he:s.epoch=e)(hn:s.last=n)(hi:s.items=it)(hg:g.epoch≤e)(h3:acked=0∨(g.epoch=e∧acked≤g.ver))
  {g':Hrd} (hg':g'=hearL g (hello s to::sendFrom s to acked 0 s.items)) (hg2:0≤g'.ver) (hg4:g'.epoch=e→HrdOk n it g'):g'.epoch=e∧g'.ver=n:=by
 have e0:hearL g (hello s to::sendFrom s to acked 0 s.items)=hearL (hearG g (hello s to)) (sendFrom s to acked 0 s.items):=rfl
 have h1:(hearG g (hello s to)).epoch=e:=hearG_epoch hg (by simp only [hello];exact he)
 have h2:acked≤(hearG g (hello s to)).ver∧0≤(hearG g (hello s to)).ver:=by
  have hv:0≤(hearG g (hello s to)).ver:=by
   unfold hearG hear1 hear0
   have:=h.g2
   split<;>split<;>first|simp [hello];done|simp [hello] at *<;>omega
  refine ⟨?_,hv⟩
  rcases h3 with rfl|⟨q1,q2⟩
  ·exact hv
  ·have:=(hearG_grows (g:=g) (x:=hello s to) (e:=e) (by simp only [hello];omega)).now q1
   omega
 obtain ⟨r1,r2,r3⟩:=hearL_upd (to:=to) (acked:=acked) he s.items [] 0 (hearG g (hello s to)) h1 h2.1 h2.2 (by simp)
 rw [←e0,←hg'] at r1 r2 r3
 rw [List.nil_append,hi] at r3
 have:=h.last.all hg2 r3
 have:=(hg4 r1).le
 exact ⟨r1,by omega⟩
structure Done (e n:Int) (p:Per) (le:Int) (g:Hrd):Prop where
  ge:g.epoch=e
  gv:g.ver=n
  pe:p.epoch=le
  pa:p.acked=n
theorem Done.hear(h:PI e n it p le g)(hd:Done e n p le g)(hk:x.kind≠3)(ht:TellOk e n it x):hearG g x=g:=by
 have h0:hear0 g x=g:=if_neg (by have:=ht.ep;have:=hd.ge;omega)
 unfold hearG
 rw [h0]
 unfold hear1
 rw [if_neg]
 rintro ⟨c1,c2,c3,c4⟩
 have:=(ht.upd c1 (c2.trans hd.ge)).le
 have:=hd.gv
 omega
theorem Done.ack(hd:Done e n p le g)(h0:0≤n){a:Spk}(hae:a.epoch=e)(hal:a.last=n)(ha:AckOk e le g x):ackP a x p=p:=by
 obtain ⟨d1,d2,d3,d4⟩:=hd
 have hpe:=ha.pe
 unfold ackP
 rw [if_neg (by omega)]
 split
 ·rename_i c
  have:maxI p.acked (ackV a x)=p.acked:=by
   unfold maxI ackV
   by_cases q2:x.epoch=a.epoch∧x.ver≤a.last
   ·rw [if_pos q2,if_neg]
    have:=ha.now (by omega) (by omega);omega
   ·rw [if_neg q2,if_neg (by omega)]
  rw [this]
 ·rfl
theorem PI.done_ack(h:PI e n it p le g){a:Spk}(hae:a.epoch=e)(hal:a.last=n)(hg:g.epoch=e∧g.ver=n)(h1:x.epoch=e)(h2:x.ver=n)(h3:x.pep=le):Done e n (ackP a x p) le g:=by
 have hV:ackV a x=n:=by unfold ackV;rw [if_pos ⟨by omega,by omega⟩];exact h2
 have hp:=h.p1
 refine ⟨hg.1,hg.2,?_,?_⟩
 ·unfold ackP
  split
  ·exact h3
  ·rw [if_pos (by omega)];simp only;omega
 ·unfold ackP
  split
  ·exact hV
  ·rename_i c
   rw [if_pos (by omega)]
   simp only [maxI,hV]
   have h3':=h.p3 (by omega)
   have:=h.n0
   split
   ·rfl
   ·rename_i q;omega
end
def within(n lo hi:Int):Bool:=decide (lo≤n∧n≤hi)
def codeE(v:Bool):Int:=if v then 0 else 1
def within_a(n:Int)(lo:Int)(hi:Int):Prop:=okL [.int n,.int lo,.int hi]
def within_s:Nat→Type
 | _=>Unit
def within_e(r:Bool):AV:=.bool r
def within_vc(n:Int)(lo:Int)(hi:Int)(r0:Bool):Prop:=
 br (decide (lo≤n))
 (Rp within_e (decide (n≤hi)) r0)
 (Rp within_e (false) r0)
theorem within_p(n lo hi:Int)(ok:within_a n lo hi):within_vc n lo hi (within n lo hi):=by
 simp only [within_vc,vcU,rfU,List.length_map]
 refine ⟨fun h=>by simp [within,h],fun h=>by simp [within,h]⟩
def within_c(n:Int)(lo:Int)(hi:Int):PC Tryz.prog:=⟨126,[.k,.k,.k],[.int n,.int lo,.int hi],within_e (within n lo hi),PSpec.of_ok fun ok=>mxP_of (sh:=.k) (enc:=within_e) (a:=((.br 80 (.ret (decide (n≤hi)))
 (.ret (false))):An Tryz.prog within_s (Bool))) (within_p n lo hi ok) (by kernel_rfl) (AV.pureB_ok rfl),fnB_ok (by kernel_rfl)⟩
def codeE_a(valid:Bool):Prop:=okL [.bool valid]
def codeE_s:Nat→Type
 | _=>Unit
def codeE_e(r:Int):AV:=.int r
def codeE_vc(valid:Bool)(r0:Int):Prop:=
 br valid
 (Rp codeE_e (0) r0)
 (Rp codeE_e (1) r0)
theorem codeE_p(v:Bool)(ok:codeE_a v):codeE_vc v (codeE v):=by
 simp only [codeE_vc,vcU,rfU,List.length_map]
 cases v<;>simp [codeE]
def codeE_c(valid:Bool):PC Tryz.prog:=⟨128,[.k],[.bool valid],codeE_e (codeE valid),PSpec.of_ok fun ok=>mxP_of (sh:=.k) (enc:=codeE_e) (a:=((.br 32 (.ret (0))
 (.ret (1))):An Tryz.prog codeE_s (Int))) (codeE_p valid ok) (by kernel_rfl) (AV.pureB_ok rfl),fnB_ok (by kernel_rfl)⟩
def keyI(x:Itm):Int:=x.ver
def keyP(x:Per):Int:=x.router
def keyH(x:Hrd):Int:=x.router
def keyI_a(x:Itm):Prop:=okL [.agg [.int x.ver,.int x.grp,.int x.mode,.sl 1 (x.srcs.map AV.int) false]]
def keyI_s:Nat→Type
 | _=>Unit
def keyI_e(r:Int):AV:=.int r
def keyI_vc(x:Itm)(r0:Int):Prop:=
 Rp keyI_e (x.ver) r0
theorem keyI_p(x:Itm)(ok:keyI_a x):keyI_vc x (keyI x):=by
 simp only [keyI_vc,vcU,rfU,List.length_map]
 rfl
def keyI_c(x:Itm):PC Tryz.prog:=⟨196,[(.a [.k,.k,.k,(.s 1)])],[.agg [.int x.ver,.int x.grp,.int x.mode,.sl 1 (x.srcs.map AV.int) false]],keyI_e (keyI x),PSpec.of_ok fun ok=>mxP_of (sh:=.k) (enc:=keyI_e) (a:=((.ret (x.ver)):An Tryz.prog keyI_s (Int))) (keyI_p x ok) (by kernel_rfl) (AV.pureB_ok rfl),fnB_ok (by kernel_rfl)⟩
def keyP_a(p:Per):Prop:=okL [.agg [.int p.router,.int p.epoch,.int p.acked]]
def keyP_s:Nat→Type
 | _=>Unit
def keyP_e(r:Int):AV:=.int r
def keyP_vc(p:Per)(r0:Int):Prop:=
 Rp keyP_e (p.router) r0
theorem keyP_p(x:Per)(ok:keyP_a x):keyP_vc x (keyP x):=by
 simp only [keyP_vc,vcU,rfU,List.length_map]
 rfl
def keyP_c(p:Per):PC Tryz.prog:=⟨198,[.k],[.agg [.int p.router,.int p.epoch,.int p.acked]],keyP_e (keyP p),PSpec.of_ok fun ok=>mxP_of (sh:=.k) (enc:=keyP_e) (a:=((.ret (p.router)):An Tryz.prog keyP_s (Int))) (keyP_p p ok) (by kernel_rfl) (AV.pureB_ok rfl),fnB_ok (by kernel_rfl)⟩
def keyH_a(h_:Hrd):Prop:=okL [.agg [.int h_.router,.int h_.epoch,.int h_.ver,.sl 4 (h_.items.map Itm.v) false]]
def keyH_s:Nat→Type
 | _=>Unit
def keyH_e(r:Int):AV:=.int r
def keyH_vc(h_:Hrd)(r0:Int):Prop:=
 Rp keyH_e (h_.router) r0
theorem keyH_p(x:Hrd)(ok:keyH_a x):keyH_vc x (keyH x):=by
 simp only [keyH_vc,vcU,rfU,List.length_map]
 rfl
def keyH_c(h_:Hrd):PC Tryz.prog:=⟨130,[(.a [.k,.k,.k,(.s 4)])],[.agg [.int h_.router,.int h_.epoch,.int h_.ver,.sl 4 (h_.items.map Itm.v) false]],keyH_e (keyH h_),PSpec.of_ok fun ok=>mxP_of (sh:=.k) (enc:=keyH_e) (a:=((.ret (h_.router)):An Tryz.prog keyH_s (Int))) (keyH_p h_ ok) (by kernel_rfl) (AV.pureB_ok rfl),fnB_ok (by kernel_rfl)⟩
def ascB{α:Type}(key:α→Int)(l:List α):Bool:=decide (l.Pairwise fun x y=>key x<key y)
theorem pw_adj{α:Type}{key:α→Int}{l:List α}(h:∀j x y,l[j]?=some x→l[j+1]?=some y→key x<key y):l.Pairwise fun x y=>key x<key y:=by
 have step:∀d i x y,l[i]?=some x→l[i+1+d]?=some y→key x<key y:=by
  intro d
  induction d with
  | zero=>exact h
  | succ d ih =>
   intro i x y hx hy
   have hz:=List.getElem?_eq_getElem (show i+1+d<l.length by have:=lt_of_get hy;omega)
   have h1:=ih i x _ hx hz
   have h2:=h (i+1+d) _ y hz hy
   omega
 rw [List.pairwise_iff_getElem]
 intro i j hi hj hij
 exact step (j-i-1) i _ _ (List.getElem?_eq_getElem hi) (by rw [show i+1+(j-i-1)=j by omega];exact List.getElem?_eq_getElem hj)
theorem pw_get{α:Type}{R:α→α→Prop}{l:List α}(h:l.Pairwise R){i j:Nat}{x y:α}(hij:i<j)(hx:l[i]?=some x)(hy:l[j]?=some y):R x y:=by
 have hi:=lt_of_get hx
 have hj:=lt_of_get hy
 have:=List.pairwise_iff_getElem.mp h i j hi hj hij
 rw [List.getElem?_eq_getElem hi] at hx;rw [List.getElem?_eq_getElem hj] at hy
 rw [←Option.some.inj hx,←Option.some.inj hy];exact this
def ascI_a(l:(List Itm)):Prop:=okL [.sl 4 (l.map Itm.v) false,.func 196 []]
def ascI_n0(l:(List Itm))(t0:Int):NF:=⟨[(0,.k,.sl 4 (l.map Itm.v) false),(1,.k,.func 196 []),(5,.k,.int t0)],[]⟩
def ascI_s:Nat→Type
 | 0=>Int
 | _=>Unit
def ascI_e(r:Bool):AV:=.bool r
def ascI_vc(l:(List Itm))(I0:Int→Prop)(m0:Int→Nat)(r0:Bool):Prop:=
 Be (ascI_n0 l) [] I0 (1)∧∀t0,I0 t0 →
 br (decide (t0<((l.map Itm.v).length:Int)))
 (Rf (l.map Itm.v) (ck (decide (0≤(W (t0-1)))) (ck (decide ((W (t0-1))<(l.length:Int)))
 (∀x1,l[(W (t0-1)).toNat]?=some x1 →
 Cl (keyI_c x1)
 (Rf (l.map Itm.v) (ck (decide (0≤t0)) (ck (decide (t0<(l.length:Int)))
 (∀x2,l[t0.toNat]?=some x2 →
 Cl (keyI_c x2)
 (br (decide (x2.ver≤x1.ver))
 (Rp ascI_e (false) r0)
 (Bk (ascI_n0 l) [] I0 m0 (W (t0+1)) t0))))))))))
 (Rp ascI_e (true) r0)
theorem ascI_p(l:List Itm)(ok:ascI_a l):∃I m,ascI_vc l I m (ascB Itm.ver l):=by
 simp only [ascI_a,okU,Blk.ok,plainV,List.length_map] at ok
 refine ⟨fun t=>∃k:Nat,t=k∧1≤k∧k≤l.length+1∧∀j x y,j+1<k→l[j]?=some x→l[j+1]?=some y→Itm.ver x<Itm.ver y,fun t=>l.length+1-t.toNat,?_⟩
 simp only [ascI_vc,vcU,rfU,List.length_map]
 refine ⟨⟨1,rfl,by omega,by omega,fun j x y hj=>by omega⟩,?_⟩
 rintro _ ⟨k,rfl,hk1,hk,h⟩
 refine ⟨fun h1=>?_,fun h1=>?_⟩
 ·rw [W_pred (by omega) hk1]
  simp only [Int.toNat_natCast]
  refine ⟨by omega,by omega,fun x hx=>⟨by omega,by omega,fun y hy=>⟨fun e=>?_,fun e=>?_⟩⟩⟩
  ·refine (decide_eq_false fun hp=>?_).symm
   have:Itm.ver x<Itm.ver y:=pw_get hp (show k-1<k by omega) hx hy
   omega
  ·rw [W_succ (n:=l.length) (by omega) (by omega)]
   refine ⟨⟨k+1,rfl,by omega,by omega,fun j x' y' hj hx' hy'=>?_⟩,by omega⟩
   by_cases e':j+1=k
   ·subst e'
    rw [show j+1-1=j by omega,hx'] at hx;cases hx
    rw [hy'] at hy;cases hy;omega
   ·exact h j x' y' (by omega) hx' hy'
 ·exact (decide_eq_true (pw_adj fun j x y hx hy=>h j x y (by have:=lt_of_get hy;omega) hx hy)).symm
def ascI_c(l:(List Itm)):PC Tryz.prog:=⟨195,[(.s 4),.k],[.sl 4 (l.map Itm.v) false,.func 196 []],ascI_e (ascB Itm.ver l),PSpec.of_ok fun ok=>(ascI_p l ok).elim fun I0 h=>h.elim fun m0 h=>mxP_of (sh:=.k) (enc:=ascI_e) (a:=((.loop 0 (ascI_n0 l) (I0) (m0) ((1):Int) [] fun (t0:Int) =>
 (.br 64 (.el 128 Itm.v l fun x1 =>
 (.callP (keyI_c x1)
 (.el 224 Itm.v l fun x2 =>
 (.callP (keyI_c x2)
 (.br 288 (.ret (false))
 (.back 0 ((W (t0+1)):Int) []))))))
 (.ret (true)))):An Tryz.prog ascI_s (Bool))) h (by kernel_rfl) (AV.pureB_ok rfl),fnB_ok (by kernel_rfl)⟩
def ascP_a(l:(List Per)):Prop:=okL [.sl 3 (l.map Per.v) false,.func 198 []]
def ascP_n0(l:(List Per))(t0:Int):NF:=⟨[(0,.k,.sl 3 (l.map Per.v) false),(1,.k,.func 198 []),(5,.k,.int t0)],[]⟩
def ascP_s:Nat→Type
 | 0=>Int
 | _=>Unit
def ascP_e(r:Bool):AV:=.bool r
def ascP_vc(l:(List Per))(I0:Int→Prop)(m0:Int→Nat)(r0:Bool):Prop:=
 Be (ascP_n0 l) [] I0 (1)∧∀t0,I0 t0 →
 br (decide (t0<((l.map Per.v).length:Int)))
 (Rf (l.map Per.v) (ck (decide (0≤(W (t0-1)))) (ck (decide ((W (t0-1))<(l.length:Int)))
 (∀x1,l[(W (t0-1)).toNat]?=some x1 →
 Cl (keyP_c x1)
 (Rf (l.map Per.v) (ck (decide (0≤t0)) (ck (decide (t0<(l.length:Int)))
 (∀x2,l[t0.toNat]?=some x2 →
 Cl (keyP_c x2)
 (br (decide (x2.router≤x1.router))
 (Rp ascP_e (false) r0)
 (Bk (ascP_n0 l) [] I0 m0 (W (t0+1)) t0))))))))))
 (Rp ascP_e (true) r0)
theorem ascP_p(l:List Per)(ok:ascP_a l):∃I m,ascP_vc l I m (ascB Per.router l):=by
 simp only [ascP_a,okU,Blk.ok,plainV,List.length_map] at ok
 refine ⟨fun t=>∃k:Nat,t=k∧1≤k∧k≤l.length+1∧∀j x y,j+1<k→l[j]?=some x→l[j+1]?=some y→Per.router x<Per.router y,fun t=>l.length+1-t.toNat,?_⟩
 simp only [ascP_vc,vcU,rfU,List.length_map]
 refine ⟨⟨1,rfl,by omega,by omega,fun j x y hj=>by omega⟩,?_⟩
 rintro _ ⟨k,rfl,hk1,hk,h⟩
 refine ⟨fun h1=>?_,fun h1=>?_⟩
 ·rw [W_pred (by omega) hk1]
  simp only [Int.toNat_natCast]
  refine ⟨by omega,by omega,fun x hx=>⟨by omega,by omega,fun y hy=>⟨fun e=>?_,fun e=>?_⟩⟩⟩
  ·refine (decide_eq_false fun hp=>?_).symm
   have:Per.router x<Per.router y:=pw_get hp (show k-1<k by omega) hx hy
   omega
  ·rw [W_succ (n:=l.length) (by omega) (by omega)]
   refine ⟨⟨k+1,rfl,by omega,by omega,fun j x' y' hj hx' hy'=>?_⟩,by omega⟩
   by_cases e':j+1=k
   ·subst e'
    rw [show j+1-1=j by omega,hx'] at hx;cases hx
    rw [hy'] at hy;cases hy;omega
   ·exact h j x' y' (by omega) hx' hy'
 ·exact (decide_eq_true (pw_adj fun j x y hx hy=>h j x y (by have:=lt_of_get hy;omega) hx hy)).symm
def ascP_c(l:(List Per)):PC Tryz.prog:=⟨197,[(.s 3),.k],[.sl 3 (l.map Per.v) false,.func 198 []],ascP_e (ascB Per.router l),PSpec.of_ok fun ok=>(ascP_p l ok).elim fun I0 h=>h.elim fun m0 h=>mxP_of (sh:=.k) (enc:=ascP_e) (a:=((.loop 0 (ascP_n0 l) (I0) (m0) ((1):Int) [] fun (t0:Int) =>
 (.br 64 (.el 128 Per.v l fun x1 =>
 (.callP (keyP_c x1)
 (.el 224 Per.v l fun x2 =>
 (.callP (keyP_c x2)
 (.br 288 (.ret (false))
 (.back 0 ((W (t0+1)):Int) []))))))
 (.ret (true)))):An Tryz.prog ascP_s (Bool))) h (by kernel_rfl) (AV.pureB_ok rfl),fnB_ok (by kernel_rfl)⟩
def ascH_a(l:(List Hrd)):Prop:=okL [.sl 4 (l.map Hrd.v) false,.func 130 []]
def ascH_n0(l:(List Hrd))(t0:Int):NF:=⟨[(0,.k,.sl 4 (l.map Hrd.v) false),(1,.k,.func 130 []),(5,.k,.int t0)],[]⟩
def ascH_s:Nat→Type
 | 0=>Int
 | _=>Unit
def ascH_e(r:Bool):AV:=.bool r
def ascH_vc(l:(List Hrd))(I0:Int→Prop)(m0:Int→Nat)(r0:Bool):Prop:=
 Be (ascH_n0 l) [] I0 (1)∧∀t0,I0 t0 →
 br (decide (t0<((l.map Hrd.v).length:Int)))
 (Rf (l.map Hrd.v) (ck (decide (0≤(W (t0-1)))) (ck (decide ((W (t0-1))<(l.length:Int)))
 (∀x1,l[(W (t0-1)).toNat]?=some x1 →
 Cl (keyH_c x1)
 (Rf (l.map Hrd.v) (ck (decide (0≤t0)) (ck (decide (t0<(l.length:Int)))
 (∀x2,l[t0.toNat]?=some x2 →
 Cl (keyH_c x2)
 (br (decide (x2.router≤x1.router))
 (Rp ascH_e (false) r0)
 (Bk (ascH_n0 l) [] I0 m0 (W (t0+1)) t0))))))))))
 (Rp ascH_e (true) r0)
theorem ascH_p(l:List Hrd)(ok:ascH_a l):∃I m,ascH_vc l I m (ascB Hrd.router l):=by
 simp only [ascH_a,okU,Blk.ok,plainV,List.length_map] at ok
 refine ⟨fun t=>∃k:Nat,t=k∧1≤k∧k≤l.length+1∧∀j x y,j+1<k→l[j]?=some x→l[j+1]?=some y→Hrd.router x<Hrd.router y,fun t=>l.length+1-t.toNat,?_⟩
 simp only [ascH_vc,vcU,rfU,List.length_map]
 refine ⟨⟨1,rfl,by omega,by omega,fun j x y hj=>by omega⟩,?_⟩
 rintro _ ⟨k,rfl,hk1,hk,h⟩
 refine ⟨fun h1=>?_,fun h1=>?_⟩
 ·rw [W_pred (by omega) hk1]
  simp only [Int.toNat_natCast]
  refine ⟨by omega,by omega,fun x hx=>⟨by omega,by omega,fun y hy=>⟨fun e=>?_,fun e=>?_⟩⟩⟩
  ·refine (decide_eq_false fun hp=>?_).symm
   have:Hrd.router x<Hrd.router y:=pw_get hp (show k-1<k by omega) hx hy
   omega
  ·rw [W_succ (n:=l.length) (by omega) (by omega)]
   refine ⟨⟨k+1,rfl,by omega,by omega,fun j x' y' hj hx' hy'=>?_⟩,by omega⟩
   by_cases e':j+1=k
   ·subst e'
    rw [show j+1-1=j by omega,hx'] at hx;cases hx
    rw [hy'] at hy;cases hy;omega
   ·exact h j x' y' (by omega) hx' hy'
 ·exact (decide_eq_true (pw_adj fun j x y hx hy=>h j x y (by have:=lt_of_get hy;omega) hx hy)).symm
def ascH_c(l:(List Hrd)):PC Tryz.prog:=⟨129,[(.s 4),.k],[.sl 4 (l.map Hrd.v) false,.func 130 []],ascH_e (ascB Hrd.router l),PSpec.of_ok fun ok=>(ascH_p l ok).elim fun I0 h=>h.elim fun m0 h=>mxP_of (sh:=.k) (enc:=ascH_e) (a:=((.loop 0 (ascH_n0 l) (I0) (m0) ((1):Int) [] fun (t0:Int) =>
 (.br 64 (.el 128 Hrd.v l fun x1 =>
 (.callP (keyH_c x1)
 (.el 224 Hrd.v l fun x2 =>
 (.callP (keyH_c x2)
 (.br 288 (.ret (false))
 (.back 0 ((W (t0+1)):Int) []))))))
 (.ret (true)))):An Tryz.prog ascH_s (Bool))) h (by kernel_rfl) (AV.pureB_ok rfl),fnB_ok (by kernel_rfl)⟩
def okItms(l:List Itm):Prop:=l.length≤900000∧∀x∈l,x.srcs.length≤1000000
def itemsB(l:List Itm)(last:Int):Bool:=decide (itmsOk last l)
def seenOk(l:List Itm)(s:List Bool):Prop:=s.length=100∧∀g,g<100→s[g]?=some (decide (∃x∈l,x.grp=(g:Nat)))
theorem seen_nil:seenOk [] (List.replicate 100 false):=⟨List.length_replicate,fun g hg=>by rw [List.getElem?_replicate,if_pos hg];simp⟩
theorem seen_add{l:List Itm}{s:List Bool}(h:seenOk l s){x:Itm}(hx:1≤x.grp∧x.grp≤99):seenOk (l++[x]) (s.set x.grp.toNat true):=by
 refine ⟨by simp [h.1],fun g hg=>?_⟩
 rw [List.getElem?_set]
 by_cases e:x.grp.toNat=g
 ·rw [if_pos e,if_pos (by have:=h.1;omega)]
  refine congrArg some (decide_eq_true ⟨x,by simp,by omega⟩).symm
 ·rw [if_neg e,h.2 g hg]
  refine congrArg some ?_
  refine decide_eq_decide.mpr ⟨fun ⟨y,hy,hg⟩=>⟨y,by simp [hy],hg⟩,fun ⟨y,hy,hg⟩=>?_⟩
  rcases List.mem_append.mp hy with hy|hy
  ·exact ⟨y,hy,hg⟩
  ·rw [List.mem_singleton] at hy;subst hy;omega
theorem nodup_add{l:List Itm}{x:Itm}(h:(l.map Itm.grp).Nodup)(hx:¬∃y∈l,y.grp=x.grp):((l++[x]).map Itm.grp).Nodup:=by
 rw [List.map_append,List.nodup_append]
 refine ⟨h,by simp,fun a ha b hb e=>?_⟩
 obtain ⟨y,hy,rfl⟩:=List.mem_map.mp ha
 simp at hb;subst hb
 exact hx ⟨y,hy,e⟩
def itemsB_a(l:(List Itm))(last:Int):Prop:=okL [.sl 4 (l.map Itm.v) false,.int last]
def itemsB_n0(l:(List Itm))(last:Int)(t0:Int×(List Bool)):NF:=⟨[(0,.k,.sl 4 (l.map Itm.v) false),(1,.k,.int last),(5,.k,.ref 0 0),(8,.k,.sl 4 (l.map Itm.v) false),(9,.k,.int ((l.map Itm.v).length:Int)),(10,.k,.int t0.1)],[.arr (t0.2.map AV.bool) (pureBL_map (fun _=>rfl) t0.2)]⟩
def itemsB_s:Nat→Type
 | 0=>Int×(List Bool)
 | _=>Unit
def itemsB_e(r:Bool):AV:=.bool r
def itemsB_vc(l:(List Itm))(last:Int)(I0:(Int×(List Bool))→Prop)(m0:(Int×(List Bool))→Nat)(r0:Bool):Prop:=
 Be (itemsB_n0 l last) [16] I0 (0,List.replicate 100 false)∧∀t0,I0 t0 →
 br (decide (t0.1<((l.map Itm.v).length:Int)))
 (Rf (l.map Itm.v) (ck (decide (0≤t0.1)) (ck (decide (t0.1<(l.length:Int)))
 (∀x1,l[t0.1.toNat]?=some x1 →
 Cl (within_c x1.ver 1 last)
 (br (!(within x1.ver 1 last))
 (Rp itemsB_e (false) r0)
 (Cl (within_c x1.grp 1 99)
 (br (!(within x1.grp 1 99))
 (Rp itemsB_e (false) r0)
 (ck (cond (decide (0≤x1.grp)) (decide (x1.grp<100)) false)
 (Rf (t0.2.map AV.bool) (ck (decide ((0+(x1.grp.toNat * 1))<t0.2.length))
 (∀x2,t0.2[(0+(x1.grp.toNat * 1))]?=some x2 →
 br x2
 (Rp itemsB_e (false) r0)
 (Cl (PVal_c (⟨x1.mode,x1.srcs⟩:Flt))
 (br ((fltErr (⟨x1.mode,x1.srcs⟩:Flt).mode (⟨x1.mode,x1.srcs⟩:Flt).srcs) != 0)
 (Rp itemsB_e (false) r0)
 (ck (cond (decide (0≤x1.grp)) (decide (x1.grp<100)) false)
 (Rf (t0.2.map AV.bool) (ck (decide ((0+(x1.grp.toNat * 1))<t0.2.length))
 (∀y3,t0.2[(0+(x1.grp.toNat * 1))]?=some y3→Rf (AV.bool true)
 (Bk (itemsB_n0 l last) [0] I0 m0 (W (t0.1+1),t0.2.set (0+(x1.grp.toNat * 1)) true) t0))))))))))))))))))
 (Cl (ascI_c l)
 (Rp itemsB_e (ascB Itm.ver l) r0))
theorem itemsB_p(l:List Itm)(last:Int)(ok:itemsB_a l last):∃I m,itemsB_vc l last I m (itemsB l last):=by
 simp only [itemsB_a,okU,Blk.ok,plainV,List.length_map] at ok
 refine ⟨fun t=>∃k:Nat,t.1=k∧k≤l.length∧seenOk (l.take k) t.2∧(∀x∈l.take k,itmOk last x)∧((l.take k).map Itm.grp).Nodup,fun t=>l.length-t.1.toNat,?_⟩
 simp only [itemsB_vc,vcU,rfU,List.length_map]
 refine ⟨⟨0,rfl,by omega,seen_nil,by simp,by simp⟩,?_⟩
 rintro ⟨_,s⟩ ⟨k,rfl,hk,hs,hi,hn⟩
 simp only [Int.toNat_natCast,Nat.zero_add,Nat.mul_one] at hs ⊢
 refine ⟨fun h1=>⟨by omega,by omega,fun x hx=>?_⟩,fun h1=>?_⟩
 ·have hm:=mem_of_get hx
  have bad:¬itmOk last x→false=itemsB l last:=fun h=>(decide_eq_false fun e=>h (e.1 x hm)).symm
  refine ⟨fun e=>bad fun e'=>?_,fun e1=>⟨fun e=>bad fun e'=>?_,fun e2=>?_⟩⟩
  ·simp [within] at e;have:=e'.1;omega
  ·simp [within] at e;have:=e'.2.1;omega
  have hv:1≤x.ver∧x.ver≤last:=by simpa [within] using e1
  have hg:1≤x.grp∧x.grp≤99:=by simpa [within] using e2
  have hg2:(bif decide (0≤x.grp) then decide (x.grp<100) else false)=true:=by simp;omega
  have hsl:=hs.1
  refine ⟨hg2,by omega,fun b hb=>?_⟩
  rw [hs.2 _ (by omega)] at hb
  have hb:=Option.some.inj hb
  have hex:(∃y∈l.take k,y.grp=((x.grp.toNat:Nat):Int))↔∃y∈l.take k,y.grp=x.grp:=by rw [show ((x.grp.toNat:Nat):Int)=x.grp by omega]
  refine ⟨fun e3=>?_,fun e3=>⟨fun e=>bad fun e'=>?_,fun e4=>⟨hg2,by omega,fun y hy=>?_⟩⟩⟩
  ·rw [e3] at hb
   obtain ⟨y,hy,hyx⟩:=hex.mp (of_decide_eq_true hb)
   refine (decide_eq_false fun e=>?_).symm
   obtain ⟨j,hj,rfl⟩:=List.mem_take_iff_getElem.mp hy
   have:=pw_get (R:=fun a b=>a≠b) e.2.1 (i:=j) (j:=k) (by omega) (by rw [List.getElem?_map,List.getElem?_eq_getElem (by omega)];rfl) (by rw [List.getElem?_map,hx];rfl)
   exact this hyx
  ·have:=e'.2.2;simp [this] at e
  ·have hf:fltErr x.mode x.srcs=0:=by simpa using e4
   rw [e3] at hb
   have hne:=fun h=>of_decide_eq_false hb (hex.mpr h)
   rw [W_succ (n:=l.length) (by omega) (by omega)]
   refine ⟨⟨k+1,rfl,by omega,?_,?_,?_⟩,by omega⟩
   ·rw [take_succ hx];exact seen_add hs hg
   ·rw [take_succ hx]
    intro z hz
    rcases List.mem_append.mp hz with hz|hz
    ·exact hi z hz
    ·rw [List.mem_singleton] at hz;subst hz;exact ⟨hv,hg,hf⟩
   ·rw [take_succ hx];exact nodup_add hn hne
 ·rw [List.take_of_length_le (by omega)] at hi hn
  simp only [ascB,itemsB,itmsOk]
  exact decide_eq_decide.mpr ⟨fun h=>⟨hi,hn,h⟩,fun h=>h.2.2⟩
def itemsB_c(l:(List Itm))(last:Int):PC Tryz.prog:=⟨127,[(.s 4),.k],[.sl 4 (l.map Itm.v) false,.int last],itemsB_e (itemsB l last),PSpec.of_ok fun ok=>(itemsB_p l last ok).elim fun I0 h=>h.elim fun m0 h=>mxP_of (sh:=.k) (enc:=itemsB_e) (a:=((.loop 0 (itemsB_n0 l last) (I0) (m0) ((0,List.replicate 100 false):Int×(List Bool)) [16] fun (t0:Int×(List Bool)) =>
 (.br 17 (.el 17 Itm.v l fun x1 =>
 (.callP (within_c x1.ver 1 last)
 (.br 177 (.ret (false))
 (.callP (within_c x1.grp 1 99)
 (.br 273 (.ret (false))
 (.el 321 AV.bool t0.2 fun x2 =>
 (.br 369 (.ret (false))
 (.callP (PVal_c (⟨x1.mode,x1.srcs⟩:Flt))
 (.br 449 (.ret (false))
 (.st 497 AV.bool t0.2 (fun _=>true) fun y3 =>
 (.back 0 ((W (t0.1+1),t0.2.set (0+(x1.grp.toNat * 1)) true):Int×(List Bool)) [0])))))))))))
 (.callP (ascI_c l)
 (.ret (ascB Itm.ver l))))):An Tryz.prog itemsB_s (Bool))) h (by kernel_rfl) (AV.pureB_ok rfl),fnB_ok (by kernel_rfl)⟩
def valS(s:Spk):Int:=errIf (spkOk s)
def valL(l:Lsn):Int:=errIf (lsnOk l)
theorem errIf_no{p:Prop}[Decidable p](h:¬p):(1:Int)=errIf p:=by rw [errIf,if_neg h]
theorem codeE_iff{p q:Prop}[Decidable p][Decidable q](h:p↔q):codeE (decide p)=errIf q:=by
 by_cases hp:p
 ·simp [codeE,errIf,hp,h.mp hp]
 ·have hq:¬q:=fun hq=>hp (h.mpr hq)
  simp [codeE,errIf,hp,hq]
def valS_a(s:Spk):Prop:=okL [.agg [.int s.router,.int s.epoch,.int s.last,.sl 4 (s.items.map Itm.v) false,.sl 3 (s.peers.map Per.v) false]]
def valS_n0(s:Spk)(t0:Int):NF:=⟨[(1,.k,.ref 0 0),(36,.k,.sl 3 (s.peers.map Per.v) false),(37,.k,.int ((s.peers.map Per.v).length:Int)),(38,.k,.int t0)],[.box (.agg [.int s.router,.int s.epoch,.int s.last,.sl 4 (s.items.map Itm.v) false,.sl 3 (s.peers.map Per.v) false])]⟩
def valS_s:Nat→Type
 | 0=>Int
 | _=>Unit
def valS_e(r:Int):AV:=.int r
def valS_vc(s:Spk)(I0:Int→Prop)(m0:Int→Nat)(r0:Int):Prop:=
 Cl (within_c s.router 1 99)
 (br (!(within s.router 1 99))
 (Rp valS_e (1) r0)
 (Cl (within_c s.epoch 1 1000000)
 (br (!(within s.epoch 1 1000000))
 (Rp valS_e (1) r0)
 (Cl (within_c s.last 0 1000000)
 (br (!(within s.last 0 1000000))
 (Rp valS_e (1) r0)
 (Cl (itemsB_c s.items s.last)
 (br (!(itemsB s.items s.last))
 (Rp valS_e (1) r0)
 (br (decide (12<((s.peers.map Per.v).length:Int)))
 (Rp valS_e (1) r0)
 (Be (valS_n0 s) [0] I0 (0)∧∀t0,I0 t0 →
 br (decide (t0<((s.peers.map Per.v).length:Int)))
 (Rf (s.peers.map Per.v) (ck (decide (0≤t0)) (ck (decide (t0<(s.peers.length:Int)))
 (∀x1,s.peers[t0.toNat]?=some x1 →
 Cl (within_c x1.router 1 99)
 (br (!(within x1.router 1 99))
 (Rp valS_e (1) r0)
 (br (x1.router==s.router)
 (Rp valS_e (1) r0)
 (Cl (within_c x1.epoch 0 1000000)
 (br (!(within x1.epoch 0 1000000))
 (Rp valS_e (1) r0)
 (Cl (within_c x1.acked 0 s.last)
 (br (!(within x1.acked 0 s.last))
 (Rp valS_e (1) r0)
 (Bk (valS_n0 s) [0] I0 m0 (W (t0+1)) t0)))))))))))
 (Cl (ascP_c s.peers)
 (Cl (codeE_c (ascB Per.router s.peers))
 (Rp valS_e (codeE (ascB Per.router s.peers)) r0))))))))))))
theorem valS_p(s:Spk)(ok:valS_a s):∃I m,valS_vc s I m (valS s):=by
 simp only [valS_a,okU,Blk.ok,plainV,List.length_map] at ok
 refine ⟨fun t=>∃k:Nat,t=k∧k≤s.peers.length∧∀p∈s.peers.take k,perOk s.router s.last p,fun t=>s.peers.length-t.toNat,?_⟩
 simp only [valS_vc,vcU,rfU,List.length_map]
 have bad:¬spkOk s→1=valS s:=errIf_no
 refine ⟨fun e=>bad fun h=>?_,fun e1=>⟨fun e=>bad fun h=>?_,fun e2=>⟨fun e=>bad fun h=>?_,fun e3=>⟨fun e=>bad fun h=>?_,fun e4=>⟨fun e=>bad fun h=>?_,fun e5=>?_⟩⟩⟩⟩⟩
 ·have:=h.1;simp [within] at e;omega
 ·have:=h.2.1;simp [within] at e;omega
 ·have:=h.2.2.1;simp [within] at e;omega
 ·have:=h.2.2.2.1;simp [itemsB,this] at e
 ·have:=h.2.2.2.2.1;omega
 have e1:1≤s.router∧s.router≤99:=by simpa [within] using e1
 have e2:1≤s.epoch∧s.epoch≤1000000:=by simpa [within] using e2
 have e3:0≤s.last∧s.last≤1000000:=by simpa [within] using e3
 have e4:itmsOk s.last s.items:=by simpa [itemsB] using e4
 refine ⟨⟨0,rfl,by omega,by simp⟩,?_⟩
 rintro _ ⟨k,rfl,hk,hp⟩
 simp only [Int.toNat_natCast]
 refine ⟨fun h1=>⟨by omega,by omega,fun x hx=>?_⟩,fun h1=>?_⟩
 ·have bad:¬perOk s.router s.last x→1=valS s:=fun h=>bad fun e=>h (e.2.2.2.2.2.1 x (mem_of_get hx))
  refine ⟨fun e=>bad fun h=>?_,fun p1=>⟨fun e=>bad fun h=>?_,fun p2=>⟨fun e=>bad fun h=>?_,fun p3=>⟨fun e=>bad fun h=>?_,fun p4=>?_⟩⟩⟩⟩
  ·have:=h.1;simp [within] at e;omega
  ·have:=h.2.1;simp at e;omega
  ·have:=h.2.2.1;simp [within] at e;omega
  ·have:=h.2.2.2;simp [within] at e;omega
  rw [W_succ (n:=s.peers.length) (by omega) (by omega)]
  refine ⟨⟨k+1,rfl,by omega,?_⟩,by omega⟩
  rw [take_succ hx]
  intro z hz
  rcases List.mem_append.mp hz with hz|hz
  ·exact hp z hz
  ·rw [List.mem_singleton] at hz;subst hz
   exact ⟨by simpa [within] using p1,by simpa using p2,by simpa [within] using p3,by simpa [within] using p4⟩
 ·rw [List.take_of_length_le (by omega)] at hp
  exact codeE_iff ⟨fun h=>⟨e1,e2,e3,e4,by omega,hp,h⟩,fun h=>h.2.2.2.2.2.2⟩
def valS_c(s:Spk):PC Tryz.prog:=⟨133,[(.a [.k,.k,.k,(.s 4),(.s 3)])],[.agg [.int s.router,.int s.epoch,.int s.last,.sl 4 (s.items.map Itm.v) false,.sl 3 (s.peers.map Per.v) false]],valS_e (valS s),PSpec.of_ok fun ok=>(valS_p s ok).elim fun I0 h=>h.elim fun m0 h=>mxP_of (sh:=.k) (enc:=valS_e) (a:=((.callP (within_c s.router 1 99)
 (.br 112 (.ret (1))
 (.callP (within_c s.epoch 1 1000000)
 (.br 208 (.ret (1))
 (.callP (within_c s.last 0 1000000)
 (.br 304 (.ret (1))
 (.callP (itemsB_c s.items s.last)
 (.br 432 (.ret (1))
 (.br 512 (.ret (1))
 (.loop 0 (valS_n0 s) (I0) (m0) ((0):Int) [0] fun (t0:Int) =>
 (.br 17 (.el 17 Per.v s.peers fun x1 =>
 (.callP (within_c x1.router 1 99)
 (.br 161 (.ret (1))
 (.br 273 (.ret (1))
 (.callP (within_c x1.epoch 0 1000000)
 (.br 369 (.ret (1))
 (.callP (within_c x1.acked 0 s.last)
 (.br 481 (.ret (1))
 (.back 0 ((W (t0+1)):Int) [0])))))))))
 (.callP (ascP_c s.peers)
 (.callP (codeE_c (ascB Per.router s.peers))
 (.ret (codeE (ascB Per.router s.peers)))))))))))))))):An Tryz.prog valS_s (Int))) h (by kernel_rfl) (AV.pureB_ok rfl),fnB_ok (by kernel_rfl)⟩
def valL_a(l:Lsn):Prop:=okL [.agg [.int l.router,.int l.epoch,.sl 4 (l.heard.map Hrd.v) false]]
def valL_n0(l:Lsn)(t0:Int):NF:=⟨[(1,.k,.ref 0 0),(22,.k,.sl 4 (l.heard.map Hrd.v) false),(23,.k,.int ((l.heard.map Hrd.v).length:Int)),(24,.k,.int t0)],[.box (.agg [.int l.router,.int l.epoch,.sl 4 (l.heard.map Hrd.v) false])]⟩
def valL_s:Nat→Type
 | 0=>Int
 | _=>Unit
def valL_e(r:Int):AV:=.int r
def valL_vc(l:Lsn)(I0:Int→Prop)(m0:Int→Nat)(r0:Int):Prop:=
 Cl (within_c l.router 1 99)
 (br (!(within l.router 1 99))
 (Rp valL_e (1) r0)
 (Cl (within_c l.epoch 1 1000000)
 (br (!(within l.epoch 1 1000000))
 (Rp valL_e (1) r0)
 (br (decide (12<((l.heard.map Hrd.v).length:Int)))
 (Rp valL_e (1) r0)
 (Be (valL_n0 l) [0] I0 (0)∧∀t0,I0 t0 →
 br (decide (t0<((l.heard.map Hrd.v).length:Int)))
 (Rf (l.heard.map Hrd.v) (ck (decide (0≤t0)) (ck (decide (t0<(l.heard.length:Int)))
 (∀x1,l.heard[t0.toNat]?=some x1 →
 Cl (within_c x1.router 1 99)
 (br (!(within x1.router 1 99))
 (Rp valL_e (1) r0)
 (br (x1.router==l.router)
 (Rp valL_e (1) r0)
 (Cl (within_c x1.epoch 1 1000000)
 (br (!(within x1.epoch 1 1000000))
 (Rp valL_e (1) r0)
 (Cl (within_c x1.ver 0 1000000)
 (br (!(within x1.ver 0 1000000))
 (Rp valL_e (1) r0)
 (Cl (itemsB_c x1.items x1.ver)
 (br (!(itemsB x1.items x1.ver))
 (Rp valL_e (1) r0)
 (Bk (valL_n0 l) [0] I0 m0 (W (t0+1)) t0)))))))))))))
 (Cl (ascH_c l.heard)
 (Cl (codeE_c (ascB Hrd.router l.heard))
 (Rp valL_e (codeE (ascB Hrd.router l.heard)) r0))))))))
theorem valL_p(l:Lsn)(ok:valL_a l):∃I m,valL_vc l I m (valL l):=by
 simp only [valL_a,okU,Blk.ok,plainV,List.length_map] at ok
 refine ⟨fun t=>∃k:Nat,t=k∧k≤l.heard.length∧∀h∈l.heard.take k,hrdOk l.router h,fun t=>l.heard.length-t.toNat,?_⟩
 simp only [valL_vc,vcU,rfU,List.length_map]
 have bad:¬lsnOk l→1=valL l:=errIf_no
 refine ⟨fun e=>bad fun h=>?_,fun e1=>⟨fun e=>bad fun h=>?_,fun e2=>⟨fun e=>bad fun h=>?_,fun e5=>?_⟩⟩⟩
 ·have:=h.1;simp [within] at e;omega
 ·have:=h.2.1;simp [within] at e;omega
 ·have:=h.2.2.1;omega
 have e1:1≤l.router∧l.router≤99:=by simpa [within] using e1
 have e2:1≤l.epoch∧l.epoch≤1000000:=by simpa [within] using e2
 refine ⟨⟨0,rfl,by omega,by simp⟩,?_⟩
 rintro _ ⟨k,rfl,hk,hp⟩
 simp only [Int.toNat_natCast]
 refine ⟨fun h1=>⟨by omega,by omega,fun x hx=>?_⟩,fun h1=>?_⟩
 ·have bad:¬hrdOk l.router x→1=valL l:=fun h=>bad fun e=>h (e.2.2.2.1 x (mem_of_get hx))
  refine ⟨fun e=>bad fun h=>?_,fun p1=>⟨fun e=>bad fun h=>?_,fun p2=>⟨fun e=>bad fun h=>?_,fun p3=>⟨fun e=>bad fun h=>?_,fun p4=>⟨fun e=>bad fun h=>?_,fun p5=>?_⟩⟩⟩⟩⟩
  ·have:=h.1;simp [within] at e;omega
  ·have:=h.2.1;simp at e;omega
  ·have:=h.2.2.1;simp [within] at e;omega
  ·have:=h.2.2.2.1;simp [within] at e;omega
  ·have:=h.2.2.2.2;simp [itemsB,this] at e
  rw [W_succ (n:=l.heard.length) (by omega) (by omega)]
  refine ⟨⟨k+1,rfl,by omega,?_⟩,by omega⟩
  rw [take_succ hx]
  intro z hz
  rcases List.mem_append.mp hz with hz|hz
  ·exact hp z hz
  ·rw [List.mem_singleton] at hz;subst hz
   exact ⟨by simpa [within] using p1,by simpa using p2,by simpa [within] using p3,by simpa [within] using p4,by simpa [itemsB] using p5⟩
 ·rw [List.take_of_length_le (by omega)] at hp
  exact codeE_iff ⟨fun h=>⟨e1,e2,by omega,hp,h⟩,fun h=>h.2.2.2.2⟩
def valL_c(l:Lsn):PC Tryz.prog:=⟨46,[(.a [.k,.k,(.s 4)])],[.agg [.int l.router,.int l.epoch,.sl 4 (l.heard.map Hrd.v) false]],valL_e (valL l),PSpec.of_ok fun ok=>(valL_p l ok).elim fun I0 h=>h.elim fun m0 h=>mxP_of (sh:=.k) (enc:=valL_e) (a:=((.callP (within_c l.router 1 99)
 (.br 112 (.ret (1))
 (.callP (within_c l.epoch 1 1000000)
 (.br 208 (.ret (1))
 (.br 288 (.ret (1))
 (.loop 0 (valL_n0 l) (I0) (m0) ((0):Int) [0] fun (t0:Int) =>
 (.br 17 (.el 17 Hrd.v l.heard fun x1 =>
 (.callP (within_c x1.router 1 99)
 (.br 161 (.ret (1))
 (.br 273 (.ret (1))
 (.callP (within_c x1.epoch 1 1000000)
 (.br 369 (.ret (1))
 (.callP (within_c x1.ver 0 1000000)
 (.br 465 (.ret (1))
 (.callP (itemsB_c x1.items x1.ver)
 (.br 577 (.ret (1))
 (.back 0 ((W (t0+1)):Int) [0])))))))))))
 (.callP (ascH_c l.heard)
 (.callP (codeE_c (ascB Hrd.router l.heard))
 (.ret (codeE (ascB Hrd.router l.heard)))))))))))):An Tryz.prog valL_s (Int))) h (by kernel_rfl) (AV.pureB_ok rfl),fnB_ok (by kernel_rfl)⟩
def filtered_a(f:Flt):Prop:=okL [.agg [.int f.mode,.sl 1 (f.srcs.map AV.int) false]]
def filtered_s:Nat→Type
 | _=>Unit
def filtered_e(r:Flt):AV:=Flt.v r
def filtered_vc(f:Flt)(r0:Flt):Prop:=
 ∃h1:f.srcs.length≤1000000,
 Cl (cloneI_c f.srcs h1)
 (Rp filtered_e (f) r0)
theorem filtered_p(f:Flt)(h:f.srcs.length≤1000000)(ok:filtered_a f):filtered_vc f f:=by
 simp only [filtered_vc,vcU,rfU,List.length_map]
 exact ⟨h,trivial⟩
def filtered_c(f:Flt)(h:f.srcs.length≤1000000):PC Tryz.prog:=⟨145,[(.a [.k,(.s 1)])],[.agg [.int f.mode,.sl 1 (f.srcs.map AV.int) false]],filtered_e f,PSpec.of_ok fun ok=>mxP_of (sh:=(.a [.k,(.s 1)])) (enc:=filtered_e) (a:=((.req 64 (f.srcs.length≤1000000) fun h1 =>
 (.callP (cloneI_c f.srcs h1)
 (.ret (f)))):An Tryz.prog filtered_s (Flt))) (filtered_p f h ok) (by kernel_rfl) (AV.pureB_ok rfl),fnB_ok (by kernel_rfl)⟩
def copied_a(l:(List Itm))(without:Int):Prop:=okL [.sl 4 (l.map Itm.v) false,.int without]
def copied_n0(l:(List Itm))(without:Int)(t0:Int×(List Itm)):NF:=⟨[(1,.k,.int without),(5,.k,.vec 0),(8,.k,.sl 4 (l.map Itm.v) false),(9,.k,.int ((l.map Itm.v).length:Int)),(10,.k,.int t0.1)],[.vec 4 (t0.2.map Itm.v) (pureBL_map (fun _=>rfl) t0.2)]⟩
def copied_s:Nat→Type
 | 0=>Int×(List Itm)
 | _=>Unit
def copied_e(r:(List Itm)):AV:=.vec 0
def copied_b(r:(List Itm)):List (Option Blk):=[some (.vec 4 (r.map Itm.v))]
def copied_vc(l:(List Itm))(without:Int)(I0:(Int×(List Itm))→Prop)(m0:(Int×(List Itm))→Nat)(r0:(List Itm)):Prop:=
 Be (copied_n0 l without) [80] I0 (0,[])∧∀t0,I0 t0 →
 br (decide (t0.1<((l.map Itm.v).length:Int)))
 (Rf (l.map Itm.v) (ck (decide (0≤t0.1)) (ck (decide (t0.1<(l.length:Int)))
 (∀x1,l[t0.1.toNat]?=some x1 →
 br (x1.grp != without)
 (∃h2:(⟨x1.mode,x1.srcs⟩:Flt).srcs.length≤1000000,
 Cl (filtered_c (⟨x1.mode,x1.srcs⟩:Flt) h2)
 (Rf (α:=List AV) (t0.2.map Itm.v) (Rf (α:=List AV) [.agg [.int x1.ver,.int x1.grp,.int x1.mode,.sl 1 (x1.srcs.map AV.int) false]]
 (ck (decide (t0.2.length+1≤1000000))
 (Bk (copied_n0 l without) [273] I0 m0 (W (t0.1+1),t0.2++[x1]) t0)))))
 (Bk (copied_n0 l without) [0] I0 m0 (W (t0.1+1),t0.2) t0)))))
 (Qt ⟨[(4,.k,.vec 0)],[.vec 4 (t0.2.map Itm.v) (pureBL_map (fun _=>rfl) t0.2)]⟩ [0] copied_e copied_b t0.2 r0)
theorem copied_p(l:List Itm)(wo:Int)(h:okItms l)(ok:copied_a l wo):∃I m,copied_vc l wo I m (without wo l):=by
 obtain ⟨h1,h2⟩:=h
 refine ⟨fun t=>∃k:Nat,t=((k:Int),without wo (l.take k))∧k≤l.length,fun t=>l.length-t.1.toNat,?_⟩
 simp only [copied_vc,vcU,rfU,List.length_map]
 refine ⟨⟨0,by simp [without],by omega⟩,?_⟩
 rintro _ ⟨k,rfl,hk⟩
 simp only [Int.toNat_natCast]
 refine ⟨fun h3=>⟨by omega,by omega,fun x hx=>?_⟩,fun h3=>?_⟩
 ·have hl:(without wo (l.take k)).length≤900000:=Nat.le_trans (List.length_filter_le _ _) (by simp;omega)
  rw [W_succ (n:=l.length) (by omega) (by omega)]
  refine ⟨fun e=>⟨h2 x (mem_of_get hx),by omega,⟨k+1,?_,by omega⟩,by omega⟩,fun e=>⟨⟨k+1,?_,by omega⟩,by omega⟩⟩
  ·rw [take_succ hx];simp at e;simp [without,e]
  ·rw [take_succ hx];simp at e;simp [without,e]
 ·rw [List.take_of_length_le (by omega)]
def copied_h(l:(List Itm))(without:Int)(h:okItms l):HC Tryz.prog:=⟨143,[(.s 4),.k],[.sl 4 (l.map Itm.v) false,.int without],[],copied_e (Go.Proofs.YtgnogboljobocaaGreatDoor.without without l),copied_b (Go.Proofs.YtgnogboljobocaaGreatDoor.without without l),HSpec.of_okh fun ok _=>(copied_p l without h ok).elim fun I0 h=>h.elim fun m0 h=>mxH_of (sh:=.k) (enc:=copied_e) (hB:=copied_b) (a:=((.cmdL (.nilT 5 4) (.loop 0 (copied_n0 l without) (I0) (m0) ((0,[]):Int×(List Itm)) [80] fun (t0:Int×(List Itm)) =>
 (.br 17 (.el 17 Itm.v l fun x1 =>
 (.br 145 (.req 177 ((⟨x1.mode,x1.srcs⟩:Flt).srcs.length≤1000000) fun h2 =>
 (.callP (filtered_c (⟨x1.mode,x1.srcs⟩:Flt) h2)
 (.app 273 Itm.v t0.2 [x1]
 (.back 0 ((W (t0.1+1),t0.2++[x1]):Int×(List Itm)) [273]))))
 (.back 0 ((W (t0.1+1),t0.2):Int×(List Itm)) [0])))
 (.retH t0.2 ⟨[(4,.k,.vec 0)],[.vec 4 (t0.2.map Itm.v) (pureBL_map (fun _=>rfl) t0.2)]⟩ [0])))):An Tryz.prog copied_s ((List Itm)))) h (by kernel_rfl),fnB_ok (by kernel_rfl),HcOk.of (by simp [hcB,belBL,AV.belB,allB,okBk,okBkO,copied_e,copied_b,pureBL_map (v:=Itm.v) (fun _=>rfl)])⟩
def fresh(p:List Int):List Per:=p.map fun x=>⟨x,0,0⟩
def fresh_a(routers:(List Int)):Prop:=okL [.sl 1 (routers.map AV.int) false]
def fresh_n0(routers:(List Int))(t0:Int×(List Per)):NF:=⟨[(3,.k,.vec 0),(6,.k,.sl 1 (routers.map AV.int) false),(7,.k,.int ((routers.map AV.int).length:Int)),(8,.k,.int t0.1)],[.vec 3 (t0.2.map Per.v) (pureBL_map (fun _=>rfl) t0.2)]⟩
def fresh_s:Nat→Type
 | 0=>Int×(List Per)
 | _=>Unit
def fresh_e(r:(List Per)):AV:=.vec 0
def fresh_b(r:(List Per)):List (Option Blk):=[some (.vec 3 (r.map Per.v))]
def fresh_vc(routers:(List Int))(I0:(Int×(List Per))→Prop)(m0:(Int×(List Per))→Nat)(r0:(List Per)):Prop:=
 Be (fresh_n0 routers) [80] I0 (0,[])∧∀t0,I0 t0 →
 br (decide (t0.1<((routers.map AV.int).length:Int)))
 (Rf (routers.map AV.int) (ck (decide (0≤t0.1)) (ck (decide (t0.1<(routers.length:Int)))
 (∀x1,routers[t0.1.toNat]?=some x1 →
 Rf (α:=List AV) (t0.2.map Per.v) (Rf (α:=List AV) [.agg [.int x1,.int 0,.int 0]]
 (ck (decide (t0.2.length+1≤1000000))
 (Bk (fresh_n0 routers) [129] I0 m0 (W (t0.1+1),t0.2++[(⟨x1,0,0⟩:Per)]) t0)))))))
 (Qt ⟨[(2,.k,.vec 0)],[.vec 3 (t0.2.map Per.v) (pureBL_map (fun _=>rfl) t0.2)]⟩ [0] fresh_e fresh_b t0.2 r0)
theorem fresh_p(p:List Int)(h:p.length≤1000000)(ok:fresh_a p):∃I m,fresh_vc p I m (fresh p):=by
 refine ⟨fun t=>∃k:Nat,t=((k:Int),fresh (p.take k))∧k≤p.length,fun t=>p.length-t.1.toNat,?_⟩
 simp only [fresh_vc,vcU,rfU,List.length_map]
 refine ⟨⟨0,by simp [fresh],by omega⟩,?_⟩
 rintro _ ⟨k,rfl,hk⟩
 simp only [Int.toNat_natCast]
 refine ⟨fun h3=>⟨by omega,by omega,fun x hx=>?_⟩,fun h3=>?_⟩
 ·rw [W_succ (n:=p.length) (by omega) (by omega)]
  refine ⟨by simp [fresh];omega,⟨k+1,?_,by omega⟩,by omega⟩
  rw [take_succ hx];simp [fresh]
 ·rw [List.take_of_length_le (by omega)]
def fresh_h(routers:(List Int))(h:routers.length≤1000000):HC Tryz.prog:=⟨190,[(.s 1)],[.sl 1 (routers.map AV.int) false],[],fresh_e (fresh routers),fresh_b (fresh routers),HSpec.of_okh fun ok _=>(fresh_p routers h ok).elim fun I0 h=>h.elim fun m0 h=>mxH_of (sh:=.k) (enc:=fresh_e) (hB:=fresh_b) (a:=((.cmdL (.nilT 3 3) (.loop 0 (fresh_n0 routers) (I0) (m0) ((0,[]):Int×(List Per)) [80] fun (t0:Int×(List Per)) =>
 (.br 17 (.el 17 AV.int routers fun x1 =>
 (.app 129 Per.v t0.2 [(⟨x1,0,0⟩:Per)]
 (.back 0 ((W (t0.1+1),t0.2++[(⟨x1,0,0⟩:Per)]):Int×(List Per)) [129])))
 (.retH t0.2 ⟨[(2,.k,.vec 0)],[.vec 3 (t0.2.map Per.v) (pureBL_map (fun _=>rfl) t0.2)]⟩ [0])))):An Tryz.prog fresh_s ((List Per)))) h (by kernel_rfl),fnB_ok (by kernel_rfl),HcOk.of (by simp [hcB,belBL,AV.belB,allB,okBk,okBkO,fresh_e,fresh_b,pureBL_map (v:=AV.int) (fun _=>rfl),pureBL_map (v:=Per.v) (fun _=>rfl)])⟩
def cloneP_a(s:(List Per)):Prop:=okL [.sl 3 (s.map Per.v) false]
def cloneP_s:Nat→Type
 | _=>Unit
def cloneP_e(r:(List Per)):AV:=.vec 0
def cloneP_b(r:(List Per)):List (Option Blk):=[some (.vec 3 (r.map Per.v))]
def cloneP_vc(s:(List Per))(r0:(List Per)):Prop:=
 ∀b1:Bool,((s.map Per.v)≠[]→b1=false) →
 br (b1 != false)
 (Qt ⟨[(2,.k,.vec 0)],[.vec 3 [] rfl]⟩ [64] cloneP_e cloneP_b [] r0)
 (Rf (α:=List AV) [] (Rf (α:=List AV) (s.map Per.v)
 (ck (decide (0+s.length≤1000000))
 (Qt ⟨[(2,.k,.vec 0)],[.vec 3 (s.map Per.v) (pureBL_map (fun _=>rfl) s)]⟩ [80] cloneP_e cloneP_b s r0))))
theorem cloneP_p(s:List Per)(h:s.length≤1000000)(ok:cloneP_a s):cloneP_vc s s:=by
 simp only [cloneP_vc,vcU,rfU,List.length_map]
 intro b hb
 refine ⟨fun h1=>?_,fun _=>by first|omega|exact ⟨by omega,trivial⟩|(trace_state;simpa using h)⟩
 cases s with
 | nil=>rfl
 | cons x s=>simp at hb;simp [hb] at h1
def cloneP_h(s:(List Per))(h:s.length≤1000000):HC Tryz.prog:=⟨149,[(.s 3)],[.sl 3 (s.map Per.v) false],[],cloneP_e s,cloneP_b s,HSpec.of_okh fun ok _=>mxH_of (sh:=.k) (enc:=cloneP_e) (hB:=cloneP_b) (a:=((.br 48 (.cmdL (.nilT 2 3) (.retH [] ⟨[(2,.k,.vec 0)],[.vec 3 [] rfl]⟩ [64]))
 (.app 80 Per.v [] s
 (.retH s ⟨[(2,.k,.vec 0)],[.vec 3 (s.map Per.v) (pureBL_map (fun _=>rfl) s)]⟩ [80]))):An Tryz.prog cloneP_s ((List Per)))) (cloneP_p s h ok) (by kernel_rfl),fnB_ok (by kernel_rfl),HcOk.of (by simp [hcB,belBL,AV.belB,allB,okBk,okBkO,cloneP_e,cloneP_b,pureBL_map (v:=Per.v) (fun _=>rfl)])⟩
def toldF(l:List Itm)(g:Int):Flt:=⟨(told l g).1,(told l g).2⟩
theorem find_at{α:Type}{p:α→Bool}{l:List α}{k:Nat}{x:α}(h:∀y∈l.take k,p y=false)(hx:l[k]?=some x)(hp:p x=true):l.find? p=some x:=by
 rw [List.find?_eq_some_iff_getElem]
 have hk:=lt_of_get hx
 rw [List.getElem?_eq_getElem hk] at hx
 refine ⟨hp,k,hk,Option.some.inj hx,fun j hj=>?_⟩
 rw [h _ (List.mem_take_iff_getElem.mpr ⟨j,by omega,rfl⟩)];rfl
def toldF_a(l:(List Itm))(group:Int):Prop:=okL [.sl 4 (l.map Itm.v) false,.int group]
def toldF_n0(l:(List Itm))(group:Int)(t0:Int):NF:=⟨[(1,.k,.int group),(4,.k,.ref 0 0),(7,.k,.sl 4 (l.map Itm.v) false),(8,.k,.int ((l.map Itm.v).length:Int)),(9,.k,.int t0)],[.box (.agg [.int 0,.sl 0 [] true])]⟩
def toldF_s:Nat→Type
 | 0=>Int
 | _=>Unit
def toldF_e(r:Flt):AV:=Flt.v r
def toldF_vc(l:(List Itm))(group:Int)(I0:Int→Prop)(m0:Int→Nat)(r0:Flt):Prop:=
 Be (toldF_n0 l group) [0] I0 (0)∧∀t0,I0 t0 →
 br (decide (t0<((l.map Itm.v).length:Int)))
 (Rf (l.map Itm.v) (ck (decide (0≤t0)) (ck (decide (t0<(l.length:Int)))
 (∀x1,l[t0.toNat]?=some x1 →
 br (x1.grp==group)
 (Rp toldF_e ((⟨x1.mode,x1.srcs⟩:Flt)) r0)
 (Bk (toldF_n0 l group) [0] I0 m0 (W (t0+1)) t0)))))
 (Rp toldF_e ((⟨1,[]⟩:Flt)) r0)
theorem toldF_p(l:List Itm)(g:Int)(ok:toldF_a l g):∃I m,toldF_vc l g I m (toldF l g):=by
 simp only [toldF_a,okU,Blk.ok,plainV,List.length_map] at ok
 refine ⟨fun t=>∃k:Nat,t=k∧k≤l.length∧∀x∈l.take k,decide (x.grp=g)=false,fun t=>l.length-t.toNat,?_⟩
 simp only [toldF_vc,vcU,rfU,List.length_map]
 refine ⟨⟨0,rfl,by omega,by simp⟩,?_⟩
 rintro _ ⟨k,rfl,hk,h⟩
 simp only [Int.toNat_natCast]
 have h:∀x∈l.take k,decide (x.grp=g)=false:=fun x hx=>decide_eq_false (h x hx)
 refine ⟨fun h1=>⟨by omega,by omega,fun x hx=>⟨fun e=>?_,fun e=>?_⟩⟩,fun h1=>?_⟩
 ·rw [toldF,told,find_at h hx (by simpa using e)]
 ·rw [W_succ (n:=l.length) (by omega) (by omega)]
  refine ⟨⟨k+1,rfl,by omega,?_⟩,by omega⟩
  rw [take_succ hx]
  intro z hz
  rcases List.mem_append.mp hz with hz|hz
  ·simpa using h z hz
  ·rw [List.mem_singleton] at hz;subst hz;simpa using e
 ·rw [List.take_of_length_le (by omega)] at h
  rw [toldF,told,List.find?_eq_none.mpr fun x hx=>by rw [h x hx];simp]
def toldF_c(l:(List Itm))(group:Int):PC Tryz.prog:=⟨192,[(.s 4),.k],[.sl 4 (l.map Itm.v) false,.int group],toldF_e (toldF l group),PSpec.of_ok fun ok=>(toldF_p l group ok).elim fun I0 h=>h.elim fun m0 h=>mxP_of (sh:=(.a [.k,(.s 1)])) (enc:=toldF_e) (a:=((.loop 0 (toldF_n0 l group) (I0) (m0) ((0):Int) [0] fun (t0:Int) =>
 (.br 17 (.el 17 Itm.v l fun x1 =>
 (.br 145 (.ret ((⟨x1.mode,x1.srcs⟩:Flt)))
 (.back 0 ((W (t0+1)):Int) [0])))
 (.ret ((⟨1,[]⟩:Flt))))):An Tryz.prog toldF_s (Flt))) h (by kernel_rfl) (AV.pureB_ok rfl),fnB_ok (by kernel_rfl)⟩
end Go.Proofs.YtgnogboljobocaaGreatDoor
