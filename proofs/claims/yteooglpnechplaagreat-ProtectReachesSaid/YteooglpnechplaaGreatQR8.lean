/- Texts joined: AL3 VA1 VA2 RT1 RT2 RE1. -/
import Derived.Test.YteooglpnechplaaGreatQR7
set_option linter.unusedVariables false
set_option linter.unusedSimpArgs false
set_option linter.unusedSectionVars false
namespace Go.Proofs.YteooglpnechplaaGreat
open Go Go.Am
def aro1(s:List Int)(q:Int):List Int:=if q∈s then s else s++[q]
def aroO(t:Tpl):Nat→Nat→List Int→List Int
 | 0,_,out=>out
 | f+1,i,out=>match out[i]? with
  | some x=>aroO t f (i+1) ((nea5 t x).foldl aro1 out)
  | none=>out
def aroL(t:Tpl)(r:Int):List Int:=aroO t 26 0 [r]
def aroT(t:Tpl)(r:Int):List Int:=(aroL t r).foldl insT []
def aroR_a(t:Tpl)(r:Int):Prop:=okL [.agg [.sl 2 (t.rs.map Rtr.v) false,.sl 5 (t.ls.map Lnk.v) false],.int r]
def aroR_n0(t:Tpl)(t0:Int×(List Int)):NF:=⟨[(2,.k,.ref 0 0),(5,.k,.vec 1),(6,.k,.int t0.1)],[.box (.agg [.sl 2 (t.rs.map Rtr.v) false,.sl 5 (t.ls.map Lnk.v) false]),.vec 1 (t0.2.map AV.int) (pureBL_map (λ_=>rfl) t0.2)]⟩
def aroR_n1(t:Tpl)(t0:Int×(List Int))(x1:Int)(t1:Int×(List Int)):NF:=⟨[(2,.k,.ref 0 0),(5,.k,.vec 1),(6,.k,.int t0.1),(7,.k,.sl 1 ((nea5 t x1).map AV.int) false),(8,.k,.int t1.1)],[.box (.agg [.sl 2 (t.rs.map Rtr.v) false,.sl 5 (t.ls.map Lnk.v) false]),.vec 1 (t1.2.map AV.int) (pureBL_map (λ_=>rfl) t1.2)]⟩
def aroR_n2(t0:Int×(List Int))(t2:(List Int)×Int):NF:=⟨[(5,.k,.vec 0),(9,(.s 1),.sl 1 (t2.1.map AV.int) false),(10,.k,.int t2.2)],[.vec 1 (t0.2.map AV.int) (pureBL_map (λ_=>rfl) t0.2)]⟩
@[reducible] def aroR_s:Nat→Type
 | 0=>Int×(List Int)
 | 1=>Int×(List Int)
 | 2=>(List Int)×Int
 | _=>Unit
def aroR_e(r:(List Int)):AV:=.sl 1 (r.map AV.int) false
def aroR_x(t:Tpl)(r:Int)(I0:(Int×(List Int))→Prop)(m0:(Int×(List Int))→Nat)(I1:Int×(List Int)→Int→(Int×(List Int))→Prop)(m1:Int×(List Int)→Int→(Int×(List Int))→Nat)(I2:Int×(List Int)→((List Int)×Int)→Prop)(m2:Int×(List Int)→((List Int)×Int)→Nat):Ax Tryz.prog aroR_s ((List Int)):=
 (.own 48 (.loop 0 (aroR_n0 t) I0 m0 (0,[r]) [0,48] λ(t0:Int×(List Int)) b0 =>
(.br 66 (decide (t0.1<((t0.2.map AV.int).length:Int))) (.say (ck (cond (decide (0≤t0.1)) (decide (t0.1<((t0.2.map AV.int).length:Int))) false)) (.el 130 AV.int t0.2 (λR=>Rf (t0.2.map AV.int) (ck (decide (t0.1.toNat<t0.2.length))
(∀x1,t0.2[t0.1.toNat]?=some x1 →
(R x1)))) λx1 =>
(.req 146 (t.rs.length≤1000) λh2 =>
(.callP (nea5_c t x1 h2)
(.loop 1 (aroR_n1 t t0 x1) (I1 t0 x1) (m1 t0 x1) (0,t0.2) [0,1] λ(t1:Int×(List Int)) b1 =>
(.br 66 (decide (t1.1<(((nea5 t x1).map AV.int).length:Int))) (.el 114 AV.int (nea5 t x1) (λR=>Rf ((nea5 t x1).map AV.int) (ck (decide (0≤t1.1)) (ck (decide (t1.1<((nea5 t x1).length:Int)))
(∀x3,(nea5 t x1)[t1.1.toNat]?=some x3 →
(R x3))))) λx3 =>
(.callP (hasI_c t1.2 x3)
(.say (ck (pureBLs [(t1.2.map AV.int)])) (.br 178 (!(decide (x3∈t1.2))) (.el 226 AV.int (nea5 t x1) (λR=>Rf ((nea5 t x1).map AV.int) (ck (decide (0≤t1.1)) (ck (decide (t1.1<((nea5 t x1).length:Int)))
(∀x4,(nea5 t x1)[t1.1.toNat]?=some x4 →
(R x4))))) λx4 =>
(.own 258 (.say (λR=>Rf (α:=List AV) (t1.2.map AV.int) (Rf (α:=List AV) [.int x4]
(ck (decide (t1.2.length+1≤1048576))
R))) (.app 274 AV.int t1.2 [x4]
(.bk 1 b1 (W (t1.1+1),t1.2++[x4]) [0,274])))))
(.bk 1 b1 (W (t1.1+1),t1.2) [0,1])))))
(.bk 0 b0 (W (t0.1+1),t1.2) [0,1])))))))
(.loop 2 (aroR_n2 t0) (I2 t0) (m2 t0) ([],0) [1] λ(t2:(List Int)×Int) b2 =>
(.br 65 (decide (t2.2<((t0.2.map AV.int).length:Int))) (.say (ck (cond (decide (0≤t2.2)) (decide (t2.2<((t0.2.map AV.int).length:Int))) false)) (.el 129 AV.int t0.2 (λR=>Rf (t0.2.map AV.int) (ck (decide (t2.2.toNat<t0.2.length))
(∀x5,t0.2[t2.2.toNat]?=some x5 →
(R x5)))) λx5 =>
(.req 145 (t2.1.length≤100000) λh6 =>
(.callP (insQ_c t2.1 x5 h6)
(.bk 2 b2 (insT t2.1 x5,W (t2.2+1)) [0])))))
(.ret (t2.1)))))))
def aroR_vc(t:Tpl)(r:Int)(I0:(Int×(List Int))→Prop)(m0:(Int×(List Int))→Nat)(I1:Int×(List Int)→Int→(Int×(List Int))→Prop)(m1:Int×(List Int)→Int→(Int×(List Int))→Nat)(I2:Int×(List Int)→((List Int)×Int)→Prop)(m2:Int×(List Int)→((List Int)×Int)→Nat)(r0:(List Int)):Prop:=(aroR_x t r I0 m0 I1 m1 I2 m2).vp aroR_e r0
structure AroI (t:Tpl) (r:Int) (s:List Int):Prop where
  nd:s.Nodup
  me:∀x∈s,x=r∨has5 t x=true
theorem AroI.len{t:Tpl}{r:Int}{s:List Int}(h:AroI t r s):s.length≤t.rs.length+1:=by
 have:=List.Nodup.length_le_of_subset h.nd (l₂:=r::t.rs.map (·.id)) λx hx=>by
  rcases h.me x hx with e|e
  ·rw[e];simp
  ·exact List.mem_cons_of_mem _ (keys_has.mpr e)
 rw[List.length_cons,List.length_map]at this
 exact this
theorem AroI.one{t:Tpl}{r:Int}{s:List Int}(h:AroI t r s){q:Int}(hq:has5 t q=true):AroI t r (aro1 s q):=by
 unfold aro1
 split
 ·exact h
 ·rename_i hn
  refine⟨List.nodup_append.mpr ⟨h.nd,by simp,λa ha b hb=>by rw[List.mem_singleton.mp hb];rintro rfl;exact hn ha⟩,λx hx=>?_⟩
  rcases List.mem_append.mp hx with hx|hx
  ·exact h.me x hx
  ·rw[List.mem_singleton.mp hx];exact .inr hq
theorem AroI.fold{t:Tpl}{r:Int}:∀{l:List Int} {s:List Int},AroI t r s→(∀q∈l,has5 t q=true)→AroI t r (l.foldl aro1 s)
 | [],s,h,_=>h
 | q::l,s,h,hs=>(h.one (hs q (by simp))).fold λx hx=>hs x (by simp[hx])
theorem aro1_le:∀(l:List Int) (s:List Int),s.length≤(l.foldl aro1 s).length
 | [],s=>Nat.le_refl _
 | q::l,s=>Nat.le_trans (by unfold aro1;split<;>simp) (aro1_le l (aro1 s q))
theorem nea_has{t:Tpl}(hc:chk5 t=0){f q:Int}(h:q∈nea5 t f):has5 t q=true:=by
 have:=(nea_mem hc).mp h
 exact((prc_edge hc (c:=(prc5 t f q).1)).mpr (Prod.ext rfl this)).has hc |>.2
theorem aroR_p(t:Tpl)(r:Int)(hc:chk5 t=0)(ok:aroR_a t r):∃I0 m0 I1 m1 I2 m2,aroR_vc t r I0 m0 I1 m1 I2 m2 (aroT t r):=by
 refine⟨λs=>∃k:Nat,s.1=k∧k≤s.2.length∧AroI t r s.2∧aroO t (26-k) k s.2=aroL t r,λs=>26-s.1.toNat,
  λs0 x s=>∃j:Nat,s.1=j∧j≤(nea5 t x).length∧s.2=((nea5 t x).take j).foldl aro1 s0.2,λ_ x s=>(nea5 t x).length-s.1.toNat,
  λs0 s=>∃k:Nat,s.2=k∧k≤s0.2.length∧s.1=(s0.2.take k).foldl insT []∧s.1.length≤k,λs0 s=>s0.2.length-s.2.toNat,?_⟩
 dsimp only[aroR_vc,aroR_x,aroR_s,Ax.vp,Ax.vc];simp only[vcU,rfU,List.length_map]
 have hR:=(chk5_ok hc).nr
 refine⟨⟨0,rfl,by simp,⟨by simp,by simp⟩,rfl⟩,?_⟩
 rintro⟨i,out⟩ ⟨k,hi,hk,hI,hO⟩
 simp only at hi hk hI hO ⊢
 subst hi
 have hsl:=hI.len
 refine⟨λd=>?_,λd=>?_⟩
 ·rw[Int.toNat_natCast]
  refine⟨range2 (by omega) d,by omega,λx hx=>⟨by omega,⟨0,rfl,by omega,rfl⟩,?_⟩⟩
  have hnl:=nea5_len (t:=t) (r:=x)
  have hnh:=λq (h:q∈nea5 t x)=>nea_has hc h
  have e:26-k=(26-(k+1))+1:=by omega
  rw[e,aroO,hx]at hO
  simp only at hO
  generalize nea5 t x=n at hnl hnh hO ⊢
  rintro⟨j0,s2⟩ ⟨j,hj0,hj,hs⟩
  simp only at hj0 hs ⊢
  subst hj0
  have hI2:AroI t r s2:=by rw[hs];exact hI.fold λq hq=>hnh q (List.mem_of_mem_take hq)
  have hsl2:=hI2.len
  refine⟨λd2=>⟨by omega,d2,λy hy=>?_⟩,λd2=>?_⟩
  ·have hw:W ((j:Int)+1)=((j+1:Nat):Int):=W_succ (n:=n.length) (by omega) (by omega)
   rw[hw]
   rw[Int.toNat_natCast]at hy ⊢
   have hst:(n.take (j+1)).foldl aro1 out=aro1 s2 y:=by rw[take_succ hy,List.foldl_append,←hs];rfl
   refine⟨pureBLs_one (pureBL_map (λ_=>rfl) _),λe2=>⟨by omega,d2,λu hu=>?_⟩,λe2=>?_⟩
   ·rw[hy]at hu;cases hu
    have e2:¬y∈s2:=by simpa using e2
    exact⟨by omega,⟨j+1,rfl,by omega,by rw[hst,aro1,if_neg e2]⟩,by omega⟩
   ·have e2:y∈s2:=by simpa using e2
    exact⟨⟨j+1,rfl,by omega,by rw[hst,aro1,if_pos e2]⟩,by omega⟩
  ·have hjn:j=n.length:=by omega
   rw[hjn,List.take_length]at hs
   rw[←hs]at hO
   have hw:W ((k:Int)+1)=((k+1:Nat):Int):=W_succ (n:=26) (by omega) (by omega)
   rw[hw]
   have hpre:=aro1_le n out
   rw[←hs]at hpre
   exact⟨⟨k+1,rfl,by omega,hI2,hO⟩,by omega⟩
 ·have e:out[k]?=none:=List.getElem?_eq_none (by omega)
  have e2:26-k=(26-(k+1))+1:=by omega
  rw[e2,aroO,e]at hO
  have hO:out=aroL t r:=hO
  refine⟨⟨0,rfl,by omega,rfl,by simp⟩,?_⟩
  rintro⟨l,i2⟩ ⟨m,hm,hml,hl,hll⟩
  simp only at hm hl hll ⊢
  subst hm
  refine⟨λd2=>?_,λd2=>?_⟩
  ·rw[Int.toNat_natCast,W_succ (n:=out.length) (by omega) (by omega)]
   refine⟨range2 (by omega) d2,by omega,λx hx=>⟨by omega,⟨m+1,rfl,by omega,?_,?_⟩,by omega⟩⟩
   ·rw[take_succ hx,List.foldl_append,←hl];rfl
   ·have:=insT_len l x;omega
  ·rw[hl,List.take_of_length_le (by omega),hO];rfl
def aroR_c(t:Tpl)(r:Int)(hc:chk5 t=0):PC Tryz.prog:=⟨54,[(.a [(.s 2),(.s 5)]),.k],[.agg [.sl 2 (t.rs.map Rtr.v) false,.sl 5 (t.ls.map Lnk.v) false],.int r],aroR_e (aroT t r),PSpec.of_ok λok=>(aroR_p t r hc ok).elim λI0 h=>h.elim λm0 h=>h.elim λI1 h=>h.elim λm1 h=>h.elim λI2 h=>h.elim λm2 h=>mxP_of (sh:=(.s 1)) (enc:=aroR_e) (a:=(aroR_x t r I0 m0 I1 m1 I2 m2).an) h (by kernel_rfl) (AV.pureB_ok rfl),fnB_ok (by kernel_rfl)⟩
def conT(t:Tpl)(a b:Int):Bool:=hs5 t a && (hs5 t b && decide (b∈aroT t a))
def conR_a(t:Tpl)(a:Int)(b:Int):Prop:=okL [.agg [.sl 2 (t.rs.map Rtr.v) false,.sl 5 (t.ls.map Lnk.v) false],.int a,.int b]
def conR_e(r:Bool):AV:=.bool r
def conR_x(t:Tpl)(a:Int)(b:Int):Ax Tryz.prog noS (Bool):=
 (.callP (hs5_c t a)
(.br 96 (hs5 t a) (.callP (hs5_c t b)
(.br 176 (hs5 t b) (.req 208 (chk5 t=0) λh1 =>
(.callP (aroR_c t a h1)
(.callP (hasI_c (aroT t a) b)
(.ret (decide (b∈(aroT t a)))))))
(.ret (false))))
(.ret (false))))
def conR_vc(t:Tpl)(a:Int)(b:Int)(r0:Bool):Prop:=(conR_x t a b).vp conR_e r0
theorem conR_p(t:Tpl)(a b:Int)(ok:conR_a t a b):conR_vc t a b (conT t a b):=by
 dsimp only[conR_vc,conR_x,noS,Ax.vp,Ax.vc];simp only[vcU,rfU,List.length_map]
 unfold conT
 refine⟨λh1=>⟨λh2=>⟨(hs5_iff.mp h1).1,by rw[h1,h2];rfl⟩,λh2=>by rw[h2,Bool.false_and,Bool.and_false]⟩,λh1=>by rw[h1,Bool.false_and]⟩
def conR_c(t:Tpl)(a:Int)(b:Int):PC Tryz.prog:=⟨20,[(.a [(.s 2),(.s 5)]),.k,.k],[.agg [.sl 2 (t.rs.map Rtr.v) false,.sl 5 (t.ls.map Lnk.v) false],.int a,.int b],conR_e (conT t a b),PSpec.of_ok λok=>mxP_of (sh:=.k) (enc:=conR_e) (a:=(conR_x t a b).an) (conR_p t a b ok) (by kernel_rfl) (AV.pureB_ok rfl),fnB_ok (by kernel_rfl)⟩
def lnkB(x y:Lnk):Prop:=x.b<y.b∨x.b=y.b∧x.a<y.a
def okLk(K:Int)(l:Lnk):Prop:=1≤l.a∧l.a<l.b∧l.b≤K∧lnkR l
structure InvB (K b a:Int) (ls:List Lnk):Prop where
  pw:ls.Pairwise lnkB
  al:∀l∈ls,okLk K l∧(l.b<b∨l.b=b∧l.a<a)
theorem lkM1_ok{L:List Int}{cost a b K:Int}{p:Nat}(hc:1≤cost∧cost≤1000)(h:1≤a∧a<b∧b≤K):okLk K (lkM1 L cost a b p):=by
 have h1:=rng_1 (L:=L) (p:=p) hc
 have h2:=rng_1 (L:=L) (p:=rawP L p) hc
 have h3:=Mod_range (x:=rawV L (rawP L (rawP L p))) (show(1:Int)≤4 by omega)
 refine⟨h.1,h.2.1,h.2.2,?_⟩
 unfold lnkR lkM1 cst5
 simp only[Bool.and_eq_true,decide_eq_true_eq]
 omega
theorem inM_ok{L:List Int}{cost b tree K:Int}{skip:Bool}(hc:1≤cost∧cost≤1000)(hb:b≤K):∀{f:Nat} {a:Int} {ls:List Lnk} {p:Nat},InvB K b a ls→1≤a→a+f≤b →
  InvB K b (a+f) (inM L cost b tree skip f a ls p).1∧(inM L cost b tree skip f a ls p).1.length≤ls.length+f
 | 0,a,ls,p,h,h1,h2=>⟨by rw[inM];simpa using h,by rw[inM];exact Nat.le_refl _⟩
 | f+1,a,ls,p,h,h1,h2=>by
  rw[inM]
  have e:a+((f+1:Nat):Int)=(a+1)+(f:Int):=by omega
  rw[e]
  split
  ·have hk:=lkM1_ok (L:=L) (a:=a) (b:=b) (K:=K) (p:=(cnM L a tree skip p).2) hc (by omega)
   have hI:InvB K b (a+1) (ls++[lkM1 L cost a b (cnM L a tree skip p).2]):=by
    refine⟨List.pairwise_append.mpr ⟨h.pw,by simp,λx hx y hy=>?_⟩,λl hl=>?_⟩
    ·rw[List.mem_singleton.mp hy]
     have:=(h.al x hx).2
     unfold lnkB lkM1;simp only;omega
    ·rcases List.mem_append.mp hl with hl|hl
     ·have:=h.al l hl;exact⟨this.1,by omega⟩
     ·rw[List.mem_singleton.mp hl]
      exact⟨hk,.inr ⟨rfl,by show a<a+1;omega⟩⟩
   obtain⟨g1,g2⟩:=inM_ok (L:=L) (tree:=tree) (skip:=skip) hc hb (p:=rawP L (rawP L (rawP L (cnM L a tree skip p).2))) hI (by omega) (by omega) (f:=f)
   exact⟨g1,by rw[List.length_append,List.length_singleton]at g2;omega⟩
  ·obtain⟨g1,g2⟩:=inM_ok (L:=L) (tree:=tree) (skip:=skip) hc hb (p:=(cnM L a tree skip p).2) (ls:=ls) (a:=a+1) (f:=f) ⟨h.pw,λl hl=>by have:=h.al l hl;exact⟨this.1,by omega⟩⟩ (by omega) (by omega)
   exact⟨g1,by omega⟩
theorem ouM_ok{L:List Int}{cost K:Int}(hc:1≤cost∧cost≤1000)(hK:K≤7):∀{f:Nat} {b:Int} {ls:List Lnk} {p:Nat},InvB K b 1 ls→2≤b→b+f≤K+1 →
  InvB K (b+f) 1 (ouM L cost f b ls p).1∧(ouM L cost f b ls p).1.length≤ls.length+6 * f
 | 0,b,ls,p,h,h1,h2=>⟨by rw[ouM];simpa using h,by rw[ouM];exact Nat.le_refl _⟩
 | f+1,b,ls,p,h,h1,h2=>by
  rw[ouM]
  have e:b+((f+1:Nat):Int)=(b+1)+(f:Int):=by omega
  rw[e]
  obtain⟨g1,g2⟩:=inM_ok (L:=L) (tree:=rng L p 1 (W (b-1))) (skip:=oneT L (rawP L p) 9) hc (show b≤K by omega) (p:=rawP L (rawP L p)) h (by omega) (show(1:Int)+(((b-1).toNat:Nat):Int)≤b by omega)
  have hI:InvB K (b+1) 1 (inR L cost b ls p).1:=⟨g1.pw,λl hl=>by
   have:=g1.al l hl
   have h3:=this.1
   unfold okLk at h3
   exact⟨this.1,by omega⟩⟩
  obtain⟨k1,k2⟩:=ouM_ok hc hK (L:=L) (p:=(inR L cost b ls p).2) hI (by omega) (by omega) (f:=f)
  refine⟨k1,?_⟩
  have:(inR L cost b ls p).1.length≤ls.length+6:=by
   unfold inR
   have:(b-1).toNat≤6:=by omega
   omega
  omega
theorem lnkL_tr{x y z:Lnk}(h1:lnkL x y)(h2:lnkL y z):lnkL x z:=by unfold lnkL at *;omega
theorem ordK_asc:∀(l out:List Lnk),out.Pairwise lnkL→(∀x∈l,∀y∈out,lnkL x y∨lnkL y x)→l.Pairwise (λx y=>lnkL x y∨lnkL y x)→(ordK l out).Pairwise lnkL∧(ordK l out).Perm (l++out)
 | [],out,h,_,_=>⟨h,.refl _⟩
 | x::l,out,h,hd,hp=>by
  rw[ordK]
  obtain⟨hp1,hp2⟩:=List.pairwise_cons.mp hp
  have hperm:=insAt_perm out (posK out x) x
  have hin:(insAt out (posK out x) x).Pairwise lnkL:=by
   have hle:=posK_le out x
   have ht:∀y∈out.take (posK out x),lnkL y x:=λy hy=>by
    obtain⟨i,hi,rfl⟩:=List.mem_take_iff_getElem.mp hy
    have:=List.not_of_lt_findIdx (p:=λy=>!decide (lnkL y x)) (xs:=out) (i:=i) (by show i<posK out x;omega)
    simpa using this
   have hdr:∀y∈out.drop (posK out x),lnkL x y:=λy hy=>by
    obtain⟨i,hi,rfl⟩:=List.mem_iff_getElem.mp hy
    rw[List.length_drop]at hi
    rw[List.getElem_drop]
    have h0:lnkL x (out[posK out x]'(by omega)):=by
     have:=List.findIdx_getElem (p:=λy=>!decide (lnkL y x)) (xs:=out) (w:=by show posK out x<out.length;omega)
     have hn:¬lnkL (out[posK out x]'(by omega)) x:=by simp only[posK];simpa using this
     rcases hd x (by simp) (out[posK out x]'(by omega)) (List.getElem_mem _)with q|q
     ·exact q
     ·exact absurd q hn
    by_cases e:i=0
    ·subst e;simpa using h0
    ·have:=List.pairwise_iff_getElem.mp h (posK out x) (posK out x+i) (by omega) (by omega) (by omega)
     exact lnkL_tr h0 this
   unfold insAt
   rw[List.append_assoc]
   refine List.pairwise_append.mpr ⟨h.sublist (List.take_sublist _ _),?_,λy hy z hz=>?_⟩
   ·rw[List.singleton_append]
    exact List.pairwise_cons.mpr ⟨hdr,h.sublist (List.drop_sublist _ _)⟩
   ·rcases List.mem_append.mp hz with hz|hz
    ·rw[List.mem_singleton.mp hz];exact ht y hy
    ·exact lnkL_tr (ht y hy) (hdr z hz)
  have hdd:∀z∈l,∀y∈insAt out (posK out x) x,lnkL z y∨lnkL y z:=λz hz y hy=>by
   rcases List.mem_cons.mp (hperm.mem_iff.mp hy)with rfl|hy
   ·exact(hp1 z hz).symm
   ·exact hd z (by simp[hz]) y hy
  obtain⟨g1,g2⟩:=ordK_asc l (insAt out (posK out x) x) hin hdd hp2
  refine⟨g1,g2.trans ?_⟩
  refine((List.Perm.refl l).append hperm).trans ?_
  exact List.perm_middle
theorem chk5_mk{t:Tpl}(h:Chk5 t):chk5 t=0:=by
 unfold chk5
 rw[if_neg (by have:=h.nr;have:=h.nl;omega),if_neg (not_not_intro h.rg),if_neg (not_not_intro h.asc),if_neg (not_not_intro h.lr),if_neg (not_not_intro h.has),if_neg (not_not_intro h.lt),if_neg (not_not_intro h.ord)]
theorem cstM_ok(L:List Int)(p:Nat):1≤cstM L p∧cstM L p≤1000:=by
 unfold cstM pickI
 have hm:=Mod_range (x:=rawV L (rawP L p)) (show(1:Int)≤(([1,2,2,5]:List Int).length:Int) by decide)
 generalize Mod (rawV L (rawP L p)) (([1,2,2,5]:List Int).length:Int)=m at hm
 have hm2:0≤m∧m<4:=hm
 obtain⟨k,hk⟩:∃k:Nat,m.toNat=k∧k<4:=⟨m.toNat,rfl,by omega⟩
 rw[hk.1]
 match k,hk.2 with
 | 0,_=>decide
 | 1,_=>decide
 | 2,_=>decide
 | 3,_=>decide
theorem top_ok(L:List Int)(p:Nat)(most:Int)(h:1≤most∧most≤7):chk5 (topM L p most 0).1=0∧capT (topM L p most 0).1=true:=by
 have hk:=rng_1 (L:=L) (p:=p) (m:=most) (by omega)
 unfold topM
 rw[if_neg (λq=>by have:=q.1;omega)]
 simp only
 unfold topB topO
 generalize rng L p 1 most=K at hk
 obtain⟨g1,g2⟩:=ouM_ok (L:=L) (K:=K) (cstM_ok L p) (by omega) (f:=(K-1).toNat) (b:=2) (ls:=[]) (p:=rawP L (rawP L p)) ⟨by simp,by simp⟩ (by omega) (by omega)
 generalize (ouM L (cstM L p) (K-1).toNat 2 [] (rawP L (rawP L p))).1=o at g1 g2
 obtain⟨s1,s2⟩:=ordK_asc o [] (by simp) (by simp) (g1.pw.imp λh=>by unfold lnkB at h;unfold lnkL;omega)
 have hmem:∀l∈ordK o [],okLk K l:=λl hl=>by
  have:=s2.mem_iff.mp hl
  rw[List.append_nil]at this
  exact(g1.al l this).1
 have hrs:∀x∈rtsM K.toNat,1≤x.id∧x.id≤K∧x.cap=true:=λx hx=>by
  obtain⟨i,hi,rfl⟩:=List.mem_map.mp hx
  have:=List.mem_range.mp hi
  exact⟨by simp only;omega,by simp only;omega,rfl⟩
 have hhas:∀a:Int,1≤a→a≤K→has5 ⟨rtsM K.toNat,ordK o []⟩ a=true:=λa h1 h2=>has5_iff.mpr ⟨⟨((a.toNat-1+1:Nat):Int),true⟩,List.mem_map.mpr ⟨a.toNat-1,List.mem_range.mpr (by omega),rfl⟩,by simp only;omega⟩
 refine⟨chk5_mk ⟨by simp only[rtsM_len];omega,by rw[ordK_len];simp only[List.length_nil]at *;omega,λx hx=>by have:=hrs x hx;omega,?_,λl hl=>(hmem l hl).2.2.2,λl hl=>?_,λl hl=>(hmem l hl).2.1,s1⟩,?_⟩
 ·refine List.Pairwise.map _ (λa b (h:a<b)=>?_) List.pairwise_lt_range
  simp only;omega
 ·have:=hmem l hl
  unfold okLk at this
  exact⟨hhas _ (by omega) (by omega),hhas _ (by omega) (by omega)⟩
 ·unfold capT
  have:(rtsM K.toNat).any capB=false:=by
   rw[Bool.eq_false_iff]
   intro q
   obtain⟨x,hx,e⟩:=List.any_eq_true.mp q
   rw[capB,(hrs x hx).2.2]at e;cases e
  simp only[this];rfl
structure PlI (rs:List Rtr) (os:List Int) (id:Int) (es:List Edg):Prop where
  asc:(es.map Edg.id).Pairwise (·<·)
  rng:∀e∈es,1≤e.id∧e.id≤id∧e.id≤256∧∃o∈os,∃r,rs[o.toNat]?=some r∧e.router=r.id
  nd:(es.map Edg.router).Nodup
  id0:0≤id
theorem pick_pos{c x:Int}(hc:1≤c∧c≤63):1≤pickI [1,1,1,2,c] x∧pickI [1,1,1,2,c] x≤63:=by
 unfold pickI
 have hm:0≤Mod x (([1,1,1,2,c]:List Int).length:Int)∧Mod x (([1,1,1,2,c]:List Int).length:Int)<5:=Mod_range (x:=x) (by simp)
 generalize Mod x (([1,1,1,2,c]:List Int).length:Int)=m at hm
 obtain⟨k,hk,hk5⟩:∃k:Nat,m.toNat=k∧k<5:=⟨m.toNat,rfl,by omega⟩
 rw[hk]
 match k,hk5 with
 | 0,_=>exact⟨by show(1:Int)≤1;decide,by show(1:Int)≤63;decide⟩
 | 1,_=>exact⟨by show(1:Int)≤1;decide,by show(1:Int)≤63;decide⟩
 | 2,_=>exact⟨by show(1:Int)≤1;decide,by show(1:Int)≤63;decide⟩
 | 3,_=>exact⟨by show(1:Int)≤2;decide,by show(2:Int)≤63;decide⟩
 | 4,_=>exact hc
theorem plaL_ok{L:List Int}{c:Int}{rs:List Rtr}(hc:1≤c∧c≤63)(hrs:∀(i j:Nat) (x y:Rtr),rs[i]?=some x→rs[j]?=some y→x.id=y.id→i=j):∀{os:List Int} {pre:List Int} {id:Int} {es:List Edg} {p:Nat},
  PlI rs pre id es→(pre++os).Nodup→(∀o∈pre++os,0≤o∧o<rs.length)→id≤63 * pre.length→pre.length+os.length≤100→∃pre',PlI rs pre' (plaL L c rs os id es p).1.1 (plaL L c rs os id es p).1.2∧(plaL L c rs os id es p).1.2.length≤es.length+os.length
 | [],pre,id,es,p,h,hn,ho,hid,hl=>⟨pre,by rw[plaL];exact h,by rw[plaL];exact Nat.le_refl _⟩
 | o::os,pre,id,es,p,h,hn,ho,hid,hl=>by
  have hpk:=pick_pos (x:=rawV L (rawP L p)) hc
  have hn2:(pre++[o]++os).Nodup:=by rw[List.append_assoc];exact hn
  have ho2:∀q∈pre++[o]++os,0≤q∧q<rs.length:=by rw[List.append_assoc];exact ho
  have hnot:o ∉ pre:=λq=>by
   have:=(List.nodup_append.mp hn).2.2 o q o (by simp)
   exact this rfl
  have hoo:=ho o (by simp)
  have h0:=h.id0
  rw[List.length_cons]at hl
  have hw:W (id+pickI [1,1,1,2,c] (rawV L (rawP L p)))=id+pickI [1,1,1,2,c] (rawV L (rawP L p)):=W_eq (by omega)
  have up:∀id',id≤id'→PlI rs (pre++[o]) id' es:=λid' hle=>⟨h.asc,λe he=>by
   obtain⟨a1,a2,a3,q,hq,r,hr,e2⟩:=h.rng e he
   exact⟨a1,by omega,a3,q,List.mem_append_left _ hq,r,hr,e2⟩,h.nd,by omega⟩
  rw[plaL]
  rw[hw]
  generalize hpp:pickI [1,1,1,2,c] (rawV L (rawP L p))=w at hpk
  by_cases e1:Mod (rawV L p) 4=0
  ·rw[if_pos e1]
   obtain⟨pre',g1,g2⟩:=plaL_ok (L:=L) hc hrs (p:=rawP L p) (up id (Int.le_refl _)) hn2 ho2 (by simp;omega) (by simp;omega)
   exact⟨pre',g1,by rw[List.length_cons];omega⟩
  rw[if_neg e1]
  by_cases e2:id+w≤256
  ·rw[if_pos e2]
   have hx:=List.getElem?_eq_getElem (show o.toNat<rs.length by omega)
   generalize rs[o.toNat]'(by omega)=r at hx
   rw[hx]
   simp only
   have hI:PlI rs (pre++[o]) (id+w) (es++[⟨r.id,id+w⟩]):=by
    have hu:=up (id+w) (by omega)
    refine⟨?_,λe he=>?_,?_,by omega⟩
    ·rw[List.map_append]
     refine List.pairwise_append.mpr ⟨h.asc,by simp,λa ha b hb=>?_⟩
     obtain⟨e,he,rfl⟩:=List.mem_map.mp ha
     have hb:b=id+w:=by simpa using hb
     have:=(h.rng e he).2.1
     omega
    ·rcases List.mem_append.mp he with he|he
     ·exact hu.rng e he
     ·rw[List.mem_singleton.mp he]
      exact⟨by simp only;omega,by simp only;omega,e2,o,by simp,r,hx,rfl⟩
    ·rw[List.map_append]
     refine List.nodup_append.mpr ⟨h.nd,by simp,λa ha b hb=>?_⟩
     obtain⟨e,he,rfl⟩:=List.mem_map.mp ha
     have hb:b=r.id:=by simpa using hb
     subst hb
     obtain⟨_,_,_,q,hq,r',hr',e3⟩:=h.rng e he
     rw[e3]
     intro e4
     have hi:=hrs _ _ _ _ hr' hx e4
     have hqq:=ho q (List.mem_append_left _ hq)
     have:q=o:=by omega
     exact hnot (this ▸ hq)
   obtain⟨pre',g1,g2⟩:=plaL_ok (L:=L) hc hrs (p:=rawP L (rawP L p)) hI hn2 ho2 (by simp;omega) (by simp;omega)
   refine⟨pre',g1,?_⟩
   rw[List.length_append,List.length_singleton]at g2
   rw[List.length_cons];omega
  ·rw[if_neg e2]
   obtain⟨pre',g1,g2⟩:=plaL_ok (L:=L) hc hrs (p:=rawP L (rawP L p)) (up (id+w) (by omega)) hn2 ho2 (by simp;omega) (by simp;omega)
   exact⟨pre',g1,by rw[List.length_cons];omega⟩
theorem lenT_ok(L:List Int)(p:Nat):vlenP (lenT L p)=true∧8≤lenT L p∧lenT L p≤64:=by
 unfold lenT pickI
 have hm:0≤Mod (rawV L p) (lenL.length:Int)∧Mod (rawV L p) (lenL.length:Int)<5:=Mod_range (x:=rawV L p) (by decide)
 generalize Mod (rawV L p) (lenL.length:Int)=m at hm
 obtain⟨k,hk,hk5⟩:∃k:Nat,m.toNat=k∧k<5:=⟨m.toNat,rfl,by omega⟩
 rw[hk]
 match k,hk5 with
 | 0,_=>decide
 | 1,_=>decide
 | 2,_=>decide
 | 3,_=>decide
 | 4,_=>decide
theorem pla_ok(L:List Int)(p:Nat)(g:Tpl)(hg:chk5 g=0):plnOkB (plaM L p g 0).1=true:=by
 have hO:=chk5_ok hg
 have hn:=hO.nr
 unfold plaM
 rw[if_neg (λq=>by have:=q.1;omega)]
 have hlen:=lenT_ok L (rawP L p)
 have hsub:=Mod_range (x:=rawV L p) (show(1:Int)≤3 by omega)
 obtain⟨f1,f2⟩:=ordT_facts (L:=L) (n:=(g.rs.length:Int)) (p:=rawP L (rawP L p)) (by omega)
 have f3:(ordT L (g.rs.length:Int) (rawP L (rawP L p))).1.length=g.rs.length:=by unfold ordT;rw[ordL_len];simp
 have hrs:∀(i j:Nat) (x y:Rtr),g.rs[i]?=some x→g.rs[j]?=some y→x.id=y.id→i=j:=λi j x y hx hy e=>by
  have h1:(g.rs.map (·.id))[i]?=some x.id:=by rw[List.getElem?_map,hx];rfl
  have h2:(g.rs.map (·.id))[j]?=some x.id:=by rw[List.getElem?_map,hy,e];rfl
  exact nodup_get (ids_nodup hg) h1 h2
 have hc:W (lenT L (rawP L p)-1)=lenT L (rawP L p)-1:=W_eq (by omega)
 obtain⟨pre',h1,h2⟩:=plaL_ok (L:=L) (c:=W (lenT L (rawP L p)-1)) (rs:=g.rs) (by rw[hc];omega) hrs (os:=(ordT L (g.rs.length:Int) (rawP L (rawP L p))).1) (pre:=[]) (id:=0) (es:=[]) (p:=(ordT L (g.rs.length:Int) (rawP L (rawP L p))).2) ⟨by simp,by simp,by simp,by omega⟩ (by simpa using f1) (by simpa using f2) (by simp) (by simp;omega)
 unfold plnOkB
 simp only
 unfold plaR
 rw[Bool.and_eq_true,decide_eq_true_iff,decide_eq_true_iff]
 simp only[List.length_nil,Nat.zero_add]at h2
 refine⟨⟨by simp only;omega,.inl hlen.1,by simp only;omega⟩,λe he=>?_,h1.nd,h1.asc⟩
 obtain⟨a1,a2,a3,o,ho,r,hr,e2⟩:=h1.rng e he
 have:=hO.rg r (mem_of_get hr)
 unfold edgR
 omega
theorem dmn_ok(L:List Int)(p:Nat):chk5 (dmnM L p 7).1.1=0∧capT (dmnM L p 7).1.1=true∧plnOkB (dmnM L p 7).1.2.1=true:=by
 obtain⟨h1,h2⟩:=top_ok L p 7 (by omega)
 exact⟨h1,h2,pla_ok _ _ _ h1⟩
theorem wit_eq{t:Tpl}(hc:chk5 t=0)(f:Flr):witT t f=⟨t.rs.filter λr=>!decide (r.id∈f.rs),t.ls.filter λl=>!gone f l⟩:=if_pos hc
theorem wit_ok{t:Tpl}(hc:chk5 t=0)(f:Flr):chk5 (witT t f)=0:=by
 have h:=chk5_ok hc
 have hm:∀l,l∈(witT t f).ls→l∈t.ls∧l.a ∉ f.rs∧l.b ∉ f.rs:=λl hl=>by
  rw[wit_eq hc]at hl
  obtain⟨h1,h2⟩:=List.mem_filter.mp hl
  unfold gone at h2
  simp at h2
  exact⟨h1,h2.1,h2.2.1⟩
 have hr:∀r,r∈(witT t f).rs↔r∈t.rs∧r.id ∉ f.rs:=λr=>by
  rw[wit_eq hc]
  simp[List.mem_filter]
 have hh:∀x,has5 t x=true→x ∉ f.rs→has5 (witT t f) x=true:=λx hx hn=>by
  obtain⟨r,h1,rfl⟩:=has5_iff.mp hx
  exact has5_iff.mpr ⟨r,(hr r).mpr ⟨h1,hn⟩,rfl⟩
 refine chk5_mk ⟨?_,?_,λx hx=>h.rg x ((hr x).mp hx).1,?_,λl hl=>h.lr l (hm l hl).1,λl hl=>?_,λl hl=>h.lt l (hm l hl).1,?_⟩
 ·rw[wit_eq hc];exact Nat.le_trans (List.length_filter_le _ _) h.nr
 ·rw[wit_eq hc];exact Nat.le_trans (List.length_filter_le _ _) h.nl
 ·rw[wit_eq hc];exact h.asc.filter _
 ·obtain⟨h1,h2,h3⟩:=hm l hl
  exact⟨hh _ (h.has l h1).1 h2,hh _ (h.has l h1).2 h3⟩
 ·rw[wit_eq hc];exact h.ord.filter _
theorem wit_no{t:Tpl}(n:Int):has5 (witT t ⟨[],[n]⟩) n=false:=by
 rw[Bool.eq_false_iff]
 intro h
 obtain⟨r,h1,h2⟩:=has5_iff.mp h
 unfold witT at h1
 split at h1
 ·have:=(List.mem_filter.mp h1).2
  simp[h2]at this
 ·cases h1
def Walk(u:Tpl):Int→List Int→Prop
 | _,[]=>True
 | a,b::l=>(prc5 u a b).2=true∧Walk u b l
def lastI(a:Int):List Int→Int
 | []=>a
 | b::l=>lastI b l
theorem Walk.take{u:Tpl}:∀{l:List Int} {a:Int} (k:Nat),Walk u a l→Walk u a (l.take k)
 | [],a,k,_=>by simp[Walk]
 | b::l,a,0,_=>trivial
 | b::l,a,k+1,h=>⟨h.1,Walk.take k h.2⟩
theorem Walk.step{u:Tpl}:∀{l:List Int} {a:Int},Walk u a l→∀(k:Nat) x,l[k]?=some x→(prc5 u (lastI a (l.take k)) x).2=true
 | [],a,_,k,x,hx=>by simp at hx
 | b::l,a,h,0,x,hx=>by
  cases hx;exact h.1
 | b::l,a,h,k+1,x,hx=>Walk.step h.2 k x (by simpa using hx)
theorem lastI_get:∀{l:List Int} {a:Int} {k:Nat} {x:Int},l[k]?=some x→lastI a (l.take (k+1))=x
 | b::l,a,0,x,hx=>by cases hx;rfl
 | b::l,a,k+1,x,hx=>by
  have:l[k]?=some x:=by simpa using hx
  exact lastI_get (a:=b) this
theorem lastI_mem:∀{l:List Int} {a:Int},l≠[]→lastI a l∈l
 | [],a,h=>absurd rfl h
 | [b],a,_=>by simp[lastI]
 | b::c::l,a,_=>List.mem_cons_of_mem _ (lastI_mem (l:=c::l) (a:=b) (by simp))
theorem lastI_at{l:List Int}{a:Int}(h:l≠[]){x:Int}(hx:l[l.length-1]?=some x):lastI a l=x:=by
 have hl:0<l.length:=List.length_pos_iff.mpr h
 have:=lastI_get (a:=a) hx
 rwa [show l.length-1+1=l.length by omega,List.take_length]at this
section
variable {t : Tpl} (hc : chk5 t = 0)
include hc
theorem Walk.has:∀{l:List Int} {a:Int},Walk t a l→∀x∈l,has5 t x=true
 | b::l,a,h,x,hx=>by
  rcases List.mem_cons.mp hx with rfl|hx
  ·exact(((prc_edge hc (c:=(prc5 t a x).1)).mpr (Prod.ext rfl h.1)).has hc).2
  ·exact Walk.has h.2 x hx
theorem stp_nea{d:List Int}{f q:Int}(h:q∈stp6 t d f):(prc5 t f q).2=true:=by
 unfold stp6 at h
 split at h
 ·cases h
 ·exact(nea_mem hc).mp (List.mem_filter.mp h).1
theorem rouL_walk{d:List Int}{g:Int}:∀{n:Nat} {f:Int} {out:List Int},rouL t d g n f out=[]∨∃R,rouL t d g n f out=out++R∧Walk t f R∧lastI f R=g
 | 0,f,out=>.inl rfl
 | n+1,f,out=>by
  rw[rouL]
  by_cases e:f=g
  ·rw[if_pos e];exact .inr ⟨[],by simp,trivial,e⟩
  ·rw[if_neg e]
   split
   ·exact .inl rfl
   ·rename_i q l hq
    have hp:=stp_nea hc (d:=d) (f:=f) (q:=q) (by rw[hq];simp)
    rcases rouL_walk (d:=d) (g:=g) (n:=n) (f:=q) (out:=out++[q])with h|⟨R,h1,h2,h3⟩
    ·exact .inl h
    ·exact .inr ⟨q::R,by rw[h1,List.append_assoc];rfl,⟨hp,h2⟩,h3⟩
theorem rou6_walk{f g:Int}:Walk t f (rou6 t f g)∧(rou6 t f g≠[]→lastI f (rou6 t f g)=g):=by
 unfold rou6
 split
 ·exact⟨trivial,λh=>absurd rfl h⟩
 ·rcases rouL_walk hc (d:=to6 t g) (g:=g) (n:=25) (f:=f) (out:=[])with h|⟨R,h1,h2,h3⟩
  ·rw[h];exact⟨trivial,λh=>absurd rfl h⟩
  ·rw[h1];exact⟨h2,λ_=>h3⟩
theorem at6_in{g:Int}(hg:has5 t g=true){u m:Int}(h:(u,m)∈dijT (inG t) g):at6 t (to6 t g) u=m:=by
 have hf:=dijT_fin (in_ok hc) (f:=g) (by unfold inG;rw[grh_keys,keys_has];exact hg)
 have hh:mhas (dijT (inG t) g) u=true:=mhas_iff.mpr ⟨m,h⟩
 rw[to6_dij hc hg,if_pos hh]
 exact mval_eq hf.nd h
theorem stp_ne{g:Int}(hg:has5 t g=true){f:Int}(hf:mhas (dijT (inG t) g) f=true)(hne:f≠g):stp6 t (to6 t g) f≠[]:=by
 have hF:=dijT_fin (in_ok hc) (f:=g) (by unfold inG;rw[grh_keys,keys_has];exact hg)
 obtain⟨m,hm⟩:=mhas_iff.mp hf
 obtain⟨⟨q,n⟩,hq,s,hs,h1,h2⟩:=hF.tgt _ hm hne
 simp only at hs h1 h2
 have he:=(in_mem hc).mp hs
 have hco:=he.cost hc
 have hpr:=(prc_edge hc).mp he
 have hp1:=dij_pos hc hg hm
 have hp2:=dij_pos hc hg hq
 have a1:=at6_in hc hg hm
 have a2:=at6_in hc hg hq
 have:q∈stp6 t (to6 t g) f:=by
  unfold stp6
  rw[if_neg (by omega)]
  rw[h1]at hpr
  refine List.mem_filter.mpr ⟨(nea_mem hc).mpr (by rw[hpr]),?_⟩
  unfold okN
  rw[hpr,a1,a2,Bool.and_eq_true,decide_eq_true_iff,beq_iff_eq]
  simp only
  rw[W_eq (by omega)]
  omega
 exact List.ne_nil_of_mem this
theorem stp_rch{g:Int}(hg:has5 t g=true){f q:Int}(h:q∈stp6 t (to6 t g) f):mhas (dijT (inG t) g) q=true:=by
 unfold stp6 at h
 split at h
 ·cases h
 ·have:=(List.mem_filter.mp h).2
  unfold okN at this
  rw[Bool.and_eq_true,decide_eq_true_iff,to6_dij hc hg q]at this
  by_cases c:mhas (dijT (inG t) g) q=true
  ·exact c
  ·rw[if_neg c]at this;exact absurd this.1 (by decide)
theorem rouL_ne{g:Int}(hg:has5 t g=true):∀{n:Nat} {f:Int} {out:List Int},nrr t (to6 t g) f<n→mhas (dijT (inG t) g) f=true→(out≠[]∨f≠g)→rouL t (to6 t g) g n f out≠[]
 | n+1,f,out,hn,hf,ho=>by
  rw[rouL]
  by_cases e:f=g
  ·rw[if_pos e]
   rcases ho with h|h
   ·exact h
   ·exact absurd e h
  ·rw[if_neg e]
   split
   ·rename_i h;exact absurd h (stp_ne hc hg hf e)
   ·rename_i q l hq
    have hm:q∈stp6 t (to6 t g) f:=by rw[hq];simp
    have:nrr t (to6 t g) q<nrr t (to6 t g) f:=nrr_lt hc (to6_rnd hc hg _).2.1 hm
    exact rouL_ne hg (by omega) (stp_rch hc hg hm) (.inl (by simp))
theorem rou6_ne{f g:Int}(hf:has5 t f=true)(hg:has5 t g=true)(hr:mhas (dijT (inG t) g) f=true)(hne:f≠g):rou6 t f g≠[]:=by
 unfold rou6
 have h1:hs5 t f=true:=hs5_iff.mpr ⟨hc,hf⟩
 have h2:hs5 t g=true:=hs5_iff.mpr ⟨hc,hg⟩
 rw[if_neg (by rw[h1,h2];simp)]
 refine rouL_ne hc hg ?_ hr (.inr hne)
 have:=List.length_filter_le (λx:Rtr=>decide (at6 t (to6 t g) x.id<at6 t (to6 t g) f)) t.rs
 have:=(chk5_ok hc).nr
 unfold nrr
 omega
theorem aro_path{a:Int}:∀{n i:Nat} {s:List Int},(∀x∈s,∃m,PathL (outG t) a x m)→∀x∈aroO t n i s,∃m,PathL (outG t) a x m
 | 0,i,s,h=>h
 | n+1,i,s,h=>by
  rw[aroO]
  split
  ·rename_i y hy
   refine aro_path ?_
   obtain⟨m,hm⟩:=h y (mem_of_get hy)
   have key:∀(l s:List Int),(∀q∈l,q∈nea5 t y)→(∀x∈s,∃m,PathL (outG t) a x m)→∀x∈l.foldl aro1 s,∃m,PathL (outG t) a x m:=λl=>by
    induction l with
    | nil=>intro s _ h;exact h
    | cons q l ih =>
     intro s hq h
     refine ih _ (λz hz=>hq z (by simp[hz])) λx hx=>?_
     unfold aro1 at hx
     split at hx
     ·exact h x hx
     ·rcases List.mem_append.mp hx with hx|hx
      ·exact h x hx
      ·obtain rfl:=List.mem_singleton.mp hx
       have he:=(prc_edge hc (u:=y) (v:=x) (c:=(prc5 t y x).1)).mpr (Prod.ext rfl ((nea_mem hc).mp (hq x (by simp))))
       exact⟨_,.snoc (s:=⟨x,(prc5 t y x).1⟩) hm ((out_mem hc).mpr he)⟩
   exact key _ _ (λq hq=>hq) h
  ·exact h
theorem con_rch{a b:Int}(h:conT t a b=true):has5 t a=true∧has5 t b=true∧mhas (dijT (inG t) b) a=true:=by
 unfold conT at h
 rw[Bool.and_eq_true,Bool.and_eq_true,decide_eq_true_iff]at h
 obtain⟨h1,h2,h3⟩:=h
 have ha:=(hs5_iff.mp h1).2
 have hb:=(hs5_iff.mp h2).2
 have hm:∀(l s:List Int) x,x∈l.foldl insT s→x∈l∨x∈s:=λl=>by
  induction l with
  | nil=>intro s x hx;exact .inr hx
  | cons q l ih =>
   intro s x hx
   rcases ih _ _ hx with h|h
   ·exact .inl (by simp[h])
   ·unfold insT at h
    split at h
    ·exact .inr h
    ·rcases List.mem_cons.mp ((insAt_perm _ _ _).mem_iff.mp h)with rfl|h
     ·exact .inl (by simp)
     ·exact .inr h
 rcases hm _ _ _ h3 with h|h
 ·obtain⟨m,hp⟩:=aro_path hc (a:=a) (s:=[a]) (λx hx=>by rw[List.mem_singleton.mp hx];exact⟨0,.nil⟩) b h
  have hpi:=(in_path hc (g:=b)).mpr ((out_path hc).mp hp)
  have hF:=dijT_fin (in_ok hc) (f:=b) (by unfold inG;rw[grh_keys,keys_has];exact hb)
  obtain⟨k,_,hk⟩:=hF.low hpi
  exact⟨ha,hb,mhas_iff.mpr ⟨k,hk⟩⟩
 ·cases h
theorem con_rou{a b:Int}(h:conT t a b=true)(hne:a≠b):b∈rou6 t a b:=by
 obtain⟨h1,h2,h3⟩:=con_rch hc h
 have hn:=rou6_ne hc h1 h2 h3 hne
 have:=(rou6_walk hc (f:=a) (g:=b)).2 hn
 have h:=lastI_mem (a:=a) hn
 rw[this]at h
 exact h
end
def wnoT(t:Tpl)(n:Int):Tpl:=witT t ⟨[],[n]⟩
def wliT(t:Tpl)(r n:Int):Tpl:=witT t ⟨[⟨r,n⟩],[]⟩
structure DtF (t:Tpl) (r n e:Int) (R:List Int):Prop where
  walk:Walk (if lastI r R==n then wliT t r n else wnoT t n) r R
  atn:lastI r R=n→e≠n→conT (wnoT t n) r e=false
  off:lastI r R≠n→lastI r R≠e→avo6 t (lastI r R) e n=true
theorem dtl_good{t:Tpl}(hc:chk5 t=0){r n e:Int}(hr:r≠e)(hne:dtl t r n e≠[]):DtF t r n e (dtl t r n e):=by
 have h1:=wit_ok hc ⟨[],[n]⟩
 have h2:=wit_ok hc ⟨[⟨r,n⟩],[]⟩
 unfold dtl at hne ⊢
 by_cases c:e≠n∧(dtA t r n e).any (dtC t n e)=true
 ·rw[if_pos c]at hne ⊢
  have hw:=(rou6_walk h1 (f:=r) (g:=e)).1
  change Walk (wnoT t n) r (dtA t r n e)at hw
  obtain⟨c1,c2⟩:=c
  have hlt:(dtA t r n e).findIdx (dtC t n e)<(dtA t r n e).length:=List.findIdx_lt_length.mpr (List.any_eq_true.mp c2)
  have hp:=List.findIdx_getElem (w:=hlt)
  have hi:(idxF (dtC t n e) (dtA t r n e)).toNat=(dtA t r n e).findIdx (dtC t n e):=by
   unfold idxF;rw[if_pos c2];rfl
  rw[hi]at hne ⊢
  have hx:=List.getElem?_eq_getElem hlt
  have hlast:=lastI_get (a:=r) hx
  have hm:=List.getElem_mem hlt
  generalize (dtA t r n e)[(dtA t r n e).findIdx (dtC t n e)]=y at hp hx hlast hm
  have hyn:y≠n:=λq=>by
   have:=hw.has h1 y hm
   rw[q]at this
   have h3:=wit_no (t:=t) n
   rw[h3]at this;cases this
  refine⟨?_,λq=>absurd (hlast.symm.trans q) hyn,λ_ q=>?_⟩
  ·rw[hlast,if_neg (by simpa using hyn)]
   exact hw.take _
  ·rw[hlast]at q ⊢
   unfold dtC at hp
   rw[Bool.or_eq_true,beq_iff_eq]at hp
   exact hp.resolve_left q
 ·rw[if_neg c]at hne ⊢
  obtain⟨hw,hl⟩:=rou6_walk h2 (f:=r) (g:=n)
  have hl:=hl hne
  change lastI r (dtB t r n)=n at hl
  refine⟨?_,λ_ q=>?_,λq=>absurd hl q⟩
  ·rw[hl,if_pos (by simp)];exact hw
  ·rw[Bool.eq_false_iff]
   intro hcon
   refine c ⟨q,List.any_eq_true.mpr ⟨e,con_rou h1 hcon hr,?_⟩⟩
   unfold dtC;simp
theorem dtl_len(t:Tpl)(r n e:Int):(dtl t r n e).length≤25:=by
 have h1:(dtA t r n e).length≤25:=rou6_len _ _ _
 have h2:(dtB t r n).length≤25:=rou6_len _ _ _
 unfold dtl
 split
 ·rw[List.length_take];omega
 ·exact h2
theorem edgF_of{p:Pln}(hp:plnOkB p=true){x:Edg}(hx:x∈p.es):edgF p x.id=(x,true):=by
 unfold plnOkB at hp
 rw[Bool.and_eq_true,decide_eq_true_iff,decide_eq_true_iff]at hp
 have hasc:=hp.2.2.2
 have:p.es.find? (λe=>e.id==x.id)=some x:=by
  have key:∀{l:List Edg},(l.map Edg.id).Pairwise (·<·)→x∈l→l.find? (λe=>e.id==x.id)=some x:=λ{l}=>by
   induction l with
   | nil=>intro _ h;cases h
   | cons y l ih =>
    intro h hm
    rw[List.map_cons]at h
    obtain⟨ha,hb⟩:=List.pairwise_cons.mp h
    rcases List.mem_cons.mp hm with rfl|hm
    ·rw[List.find?_cons];simp
    ·have:=ha x.id (List.mem_map.mpr ⟨x,hm,rfl⟩)
     rw[List.find?_cons,show(y.id==x.id)=false by simp;omega]
     exact ih hb hm
  exact key hasc hx
 unfold edgF;rw[this]
theorem dts_ok{t:Tpl}{p:Pln}(hc:chk5 t=0)(hp:plnOkB p=true)(hcap:capT t=true){r n:Int}(hl:(prc5 t r n).2=true):(dtsT t p r n).2=0∧∀d∈(dtsT t p r n).1,(edgF p d.id).2=true∧d.route≠[]∧d.route.length≤25∧DtF t r n (edgF p d.id).1.router d.route:=by
 unfold dtsT
 rw[if_neg (by simp[hc,hp]),if_neg (by simp[hcap]),if_neg (by unfold cos5;rw[if_neg (by simp[hc])];simp[hl])]
 refine⟨rfl,λd hd=>?_⟩
 obtain⟨x,hx,hd⟩:=List.mem_flatMap.mp hd
 unfold dts1 at hd
 split at hd
 ·rename_i h
  rw[List.mem_singleton.mp hd]
  have he:=edgF_of hp hx
  obtain⟨_,h2⟩:=h
  unfold dtoT at h2 ⊢
  by_cases hB:dtoB t p r n x.id=true
  ·rw[if_pos hB]at h2;cases h2
  ·rw[if_neg hB]at h2
   simp only[he,if_neg hB]at h2 ⊢
   have hr:r≠x.router:=λq=>by
    apply hB
    unfold dtoB
    rw[he];simp[q]
   have hn:dtl t r n x.router≠[]:=List.length_pos_iff.mp (by simpa using h2)
   exact⟨trivial,hn,dtl_len _ _ _ _,dtl_good hc hr hn⟩
 ·cases hd
theorem lnk_prc{t:Tpl}(hc:chk5 t=0){l:Lnk}(h:l∈t.ls):(prc5 t l.a l.b).2=true∧(prc5 t l.b l.a).2=true:=by
 have h1:=(prc_edge hc (u:=l.a) (v:=l.b) (c:=l.ca)).mp ⟨l,h,.inl ⟨rfl,rfl,rfl⟩⟩
 have h2:=(prc_edge hc (u:=l.b) (v:=l.a) (c:=l.cb)).mp ⟨l,h,.inr ⟨rfl,rfl,rfl⟩⟩
 exact⟨by rw[h1],by rw[h2]⟩
def reaL_a(t:(List Int)):Prop:=okL [.sl 1 (t.map AV.int) false]
def reaL_n0(t0:Tap):NF:=⟨[(3,.k,.ref 0 0)],[.box (.agg [.sl 1 (t0.L.map AV.int) false,.int ((t0.p:Nat):Int)])]⟩
def reaL_n1(t0:Tap)(t1:Tpl×Pln):NF:=⟨[(3,.k,.ref 0 0),(4,.k,.ref 1 0),(5,.k,.ref 2 0)],[.box (.agg [.sl 1 (t0.L.map AV.int) false,.int ((((dmnM t0.L t0.p 7).2):Nat):Int)]),.box (.agg [.sl 2 (t1.1.rs.map Rtr.v) false,.sl 5 (t1.1.ls.map Lnk.v) false]),.box (.agg [.int t1.2.sub,.int t1.2.len,.sl 2 (t1.2.es.map Edg.v) false])]⟩
def reaL_n2(t1:Tpl×Pln)(t2:Int×Int):NF:=⟨[(4,.k,.ref 0 0),(5,.k,.ref 1 0),(8,.k,.int t2.1),(9,.k,.int t2.2)],[.box (.agg [.sl 2 (t1.1.rs.map Rtr.v) false,.sl 5 (t1.1.ls.map Lnk.v) false]),.box (.agg [.int t1.2.sub,.int t1.2.len,.sl 2 (t1.2.es.map Edg.v) false])]⟩
def reaL_n3(t1:Tpl×Pln)(x2:Lnk)(t3:Bool):NF:=⟨[(4,.k,.ref 0 0),(5,.k,.ref 1 0),(7,.k,.ref 2 0),(8,.k,.int x2.a),(9,.k,.int x2.b),(51,.k,.bool t3)],[.box (.agg [.sl 2 (t1.1.rs.map Rtr.v) false,.sl 5 (t1.1.ls.map Lnk.v) false]),.box (.agg [.int t1.2.sub,.int t1.2.len,.sl 2 (t1.2.es.map Edg.v) false]),.box (.agg [.int x2.a,.int x2.b,.int x2.ca,.int x2.cb,.int x2.w])]⟩
def reaL_n4(t1:Tpl×Pln)(t2:Int×Int)(t4:(List Dto)×Int):NF:=⟨[(4,.k,.ref 0 0),(5,.k,.ref 1 0),(8,.k,.int t2.1),(9,.k,.int t2.2),(10,(.s 2),.sl 2 (t4.1.map Dto.v) false),(11,.k,.int t4.2)],[.box (.agg [.sl 2 (t1.1.rs.map Rtr.v) false,.sl 5 (t1.1.ls.map Lnk.v) false]),.box (.agg [.int t1.2.sub,.int t1.2.len,.sl 2 (t1.2.es.map Edg.v) false])]⟩
def reaL_n5(t1:Tpl×Pln)(t2:Int×Int)(t4:(List Dto)×Int)(t5:Tpl):NF:=⟨[(4,.k,.ref 0 0),(5,.k,.ref 1 0),(8,.k,.int t2.1),(9,.k,.int t2.2),(10,.k,.sl 2 (t4.1.map Dto.v) false),(12,.k,.ref 2 0)],[.box (.agg [.sl 2 (t1.1.rs.map Rtr.v) false,.sl 5 (t1.1.ls.map Lnk.v) false]),.box (.agg [.int t1.2.sub,.int t1.2.len,.sl 2 (t1.2.es.map Edg.v) false]),.box (.agg [.sl 2 (t5.rs.map Rtr.v) false,.sl 5 (t5.ls.map Lnk.v) false])]⟩
def reaL_n6(t1:Tpl×Pln)(t2:Int×Int)(t4:(List Dto)×Int)(t5:Tpl)(t6:Tpl):NF:=⟨[(4,.k,.ref 0 0),(5,.k,.ref 1 0),(8,.k,.int t2.1),(9,.k,.int t2.2),(10,.k,.sl 2 (t4.1.map Dto.v) false),(12,.k,.ref 2 0),(13,.k,.ref 3 0)],[.box (.agg [.sl 2 (t1.1.rs.map Rtr.v) false,.sl 5 (t1.1.ls.map Lnk.v) false]),.box (.agg [.int t1.2.sub,.int t1.2.len,.sl 2 (t1.2.es.map Edg.v) false]),.box (.agg [.sl 2 (t5.rs.map Rtr.v) false,.sl 5 (t5.ls.map Lnk.v) false]),.box (.agg [.sl 2 (t6.rs.map Rtr.v) false,.sl 5 (t6.ls.map Lnk.v) false])]⟩
def reaL_n7(t1:Tpl×Pln)(t2:Int×Int)(t4:(List Dto)×Int)(t5:Tpl)(t6:Tpl)(t7:Int):NF:=⟨[(4,.k,.ref 0 0),(5,.k,.ref 1 0),(8,.k,.int t2.1),(9,.k,.int t2.2),(10,.k,.sl 2 (t4.1.map Dto.v) false),(12,.k,.ref 2 0),(13,.k,.ref 3 0),(14,.k,.int t7)],[.box (.agg [.sl 2 (t1.1.rs.map Rtr.v) false,.sl 5 (t1.1.ls.map Lnk.v) false]),.box (.agg [.int t1.2.sub,.int t1.2.len,.sl 2 (t1.2.es.map Edg.v) false]),.box (.agg [.sl 2 (t5.rs.map Rtr.v) false,.sl 5 (t5.ls.map Lnk.v) false]),.box (.agg [.sl 2 (t6.rs.map Rtr.v) false,.sl 5 (t6.ls.map Lnk.v) false])]⟩
def reaL_n8(t1:Tpl×Pln)(t2:Int×Int)(t4:(List Dto)×Int)(t5:Tpl)(t6:Tpl)(t7:Int)(t8:Bool×Edg):NF:=⟨[(4,.k,.ref 0 0),(5,.k,.ref 1 0),(8,.k,.int t2.1),(9,.k,.int t2.2),(10,.k,.sl 2 (t4.1.map Dto.v) false),(12,.k,.ref 2 0),(13,.k,.ref 3 0),(14,.k,.int t7),(15,.k,.ref 4 0),(16,.k,.bool t8.1)],[.box (.agg [.sl 2 (t1.1.rs.map Rtr.v) false,.sl 5 (t1.1.ls.map Lnk.v) false]),.box (.agg [.int t1.2.sub,.int t1.2.len,.sl 2 (t1.2.es.map Edg.v) false]),.box (.agg [.sl 2 (t5.rs.map Rtr.v) false,.sl 5 (t5.ls.map Lnk.v) false]),.box (.agg [.sl 2 (t6.rs.map Rtr.v) false,.sl 5 (t6.ls.map Lnk.v) false]),.box (.agg [.int t8.2.router,.int t8.2.id])]⟩
def reaL_n9(t1:Tpl×Pln)(t2:Int×Int)(t4:(List Dto)×Int)(t5:Tpl)(t6:Tpl)(t7:Int)(t8:Bool×Edg)(t9:Bool):NF:=⟨[(4,.k,.ref 0 0),(5,.k,.ref 1 0),(8,.k,.int t2.1),(9,.k,.int t2.2),(10,.k,.sl 2 (t4.1.map Dto.v) false),(12,.k,.ref 2 0),(13,.k,.ref 3 0),(14,.k,.int t7),(15,.k,.ref 4 0),(104,.k,.bool t9)],[.box (.agg [.sl 2 (t1.1.rs.map Rtr.v) false,.sl 5 (t1.1.ls.map Lnk.v) false]),.box (.agg [.int t1.2.sub,.int t1.2.len,.sl 2 (t1.2.es.map Edg.v) false]),.box (.agg [.sl 2 (t5.rs.map Rtr.v) false,.sl 5 (t5.ls.map Lnk.v) false]),.box (.agg [.sl 2 (t6.rs.map Rtr.v) false,.sl 5 (t6.ls.map Lnk.v) false]),.box (.agg [.int t8.2.router,.int t8.2.id])]⟩
def reaL_n10(t1:Tpl×Pln)(t2:Int×Int)(t4:(List Dto)×Int)(t5:Tpl)(t6:Tpl)(t7:Int)(t8:Bool×Edg)(x7:Int)(t10:Tpl):NF:=⟨[(4,.k,.ref 0 0),(5,.k,.ref 1 0),(8,.k,.int t2.1),(9,.k,.int t2.2),(10,.k,.sl 2 (t4.1.map Dto.v) false),(12,.k,.ref 2 0),(13,.k,.ref 3 0),(14,.k,.int t7),(15,.k,.ref 4 0),(17,.k,.int x7),(18,.k,.ref 5 0)],[.box (.agg [.sl 2 (t1.1.rs.map Rtr.v) false,.sl 5 (t1.1.ls.map Lnk.v) false]),.box (.agg [.int t1.2.sub,.int t1.2.len,.sl 2 (t1.2.es.map Edg.v) false]),.box (.agg [.sl 2 (t5.rs.map Rtr.v) false,.sl 5 (t5.ls.map Lnk.v) false]),.box (.agg [.sl 2 (t6.rs.map Rtr.v) false,.sl 5 (t6.ls.map Lnk.v) false]),.box (.agg [.int t8.2.router,.int t8.2.id]),.box (.agg [.sl 2 (t10.rs.map Rtr.v) false,.sl 5 (t10.ls.map Lnk.v) false])]⟩
def reaL_n11(t1:Tpl×Pln)(t2:Int×Int)(t4:(List Dto)×Int)(t5:Tpl)(t6:Tpl)(t7:Int)(t10:Tpl)(t11:Bool):NF:=⟨[(4,.k,.ref 0 0),(5,.k,.ref 1 0),(8,.k,.int t2.1),(9,.k,.int t2.2),(10,.k,.sl 2 (t4.1.map Dto.v) false),(12,.k,.ref 2 0),(13,.k,.ref 3 0),(14,.k,.int t7),(18,.k,.ref 4 0),(159,.k,.bool t11)],[.box (.agg [.sl 2 (t1.1.rs.map Rtr.v) false,.sl 5 (t1.1.ls.map Lnk.v) false]),.box (.agg [.int t1.2.sub,.int t1.2.len,.sl 2 (t1.2.es.map Edg.v) false]),.box (.agg [.sl 2 (t5.rs.map Rtr.v) false,.sl 5 (t5.ls.map Lnk.v) false]),.box (.agg [.sl 2 (t6.rs.map Rtr.v) false,.sl 5 (t6.ls.map Lnk.v) false]),.box (.agg [.sl 2 (t10.rs.map Rtr.v) false,.sl 5 (t10.ls.map Lnk.v) false])]⟩
def reaL_n12(t1:Tpl×Pln)(t2:Int×Int)(t4:(List Dto)×Int)(t5:Tpl)(t6:Tpl)(t7:Int)(t10:Tpl)(t12:Int×Int):NF:=⟨[(4,.k,.ref 0 0),(5,.k,.ref 1 0),(8,.k,.int t2.1),(9,.k,.int t2.2),(10,.k,.sl 2 (t4.1.map Dto.v) false),(12,.k,.ref 2 0),(13,.k,.ref 3 0),(14,.k,.int t7),(18,.k,.ref 4 0),(19,.k,.int t12.1),(20,.k,.int t12.2)],[.box (.agg [.sl 2 (t1.1.rs.map Rtr.v) false,.sl 5 (t1.1.ls.map Lnk.v) false]),.box (.agg [.int t1.2.sub,.int t1.2.len,.sl 2 (t1.2.es.map Edg.v) false]),.box (.agg [.sl 2 (t5.rs.map Rtr.v) false,.sl 5 (t5.ls.map Lnk.v) false]),.box (.agg [.sl 2 (t6.rs.map Rtr.v) false,.sl 5 (t6.ls.map Lnk.v) false]),.box (.agg [.sl 2 (t10.rs.map Rtr.v) false,.sl 5 (t10.ls.map Lnk.v) false])]⟩
def reaL_n13(t1:Tpl×Pln)(t2:Int×Int)(t4:(List Dto)×Int)(t5:Tpl)(t6:Tpl)(t7:Int)(t10:Tpl)(t12:Int×Int)(t13:Bool):NF:=⟨[(4,.k,.ref 0 0),(5,.k,.ref 1 0),(8,.k,.int t2.1),(9,.k,.int t2.2),(10,.k,.sl 2 (t4.1.map Dto.v) false),(12,.k,.ref 2 0),(13,.k,.ref 3 0),(14,.k,.int t7),(18,.k,.ref 4 0),(20,.k,.int t12.2),(22,.k,.bool t13)],[.box (.agg [.sl 2 (t1.1.rs.map Rtr.v) false,.sl 5 (t1.1.ls.map Lnk.v) false]),.box (.agg [.int t1.2.sub,.int t1.2.len,.sl 2 (t1.2.es.map Edg.v) false]),.box (.agg [.sl 2 (t5.rs.map Rtr.v) false,.sl 5 (t5.ls.map Lnk.v) false]),.box (.agg [.sl 2 (t6.rs.map Rtr.v) false,.sl 5 (t6.ls.map Lnk.v) false]),.box (.agg [.sl 2 (t10.rs.map Rtr.v) false,.sl 5 (t10.ls.map Lnk.v) false])]⟩
@[reducible] def reaL_s:Nat→Type
 | 0=>Tap
 | 1=>Tpl×Pln
 | 2=>Int×Int
 | 3=>Bool
 | 4=>(List Dto)×Int
 | 5=>Tpl
 | 6=>Tpl
 | 7=>Int
 | 8=>Bool×Edg
 | 9=>Bool
 | 10=>Tpl
 | 11=>Bool
 | 12=>Int×Int
 | 13=>Bool
 | _=>Unit
def reaL_e(r:Bool):AV:=.bool r
def reaL_x(t:(List Int))(I2:Tap→Tpl×Pln→Lnk→(Int×Int)→Prop)(I7:Tap→Tpl×Pln→Lnk→Int×Int→(List Dto)×Int→Tpl→Tpl→Int→Prop)(m7:Tap→Tpl×Pln→Lnk→Int×Int→(List Dto)×Int→Tpl→Tpl→Int→Nat)(I9:Tap→Tpl×Pln→Lnk→Int×Int→(List Dto)×Int→Tpl→Tpl→Int→Bool×Edg→Bool→Prop)(I10:Tap→Tpl×Pln→Lnk→Int×Int→(List Dto)×Int→Tpl→Tpl→Int→Bool×Edg→Bool→Dto→Dto→Int→Tpl→Prop)(I11:Tap→Tpl×Pln→Lnk→Int×Int→(List Dto)×Int→Tpl→Tpl→Int→Bool×Edg→Bool→Dto→Dto→Int→Tpl→Bool→Prop)(I12:Tap→Tpl×Pln→Lnk→Int×Int→(List Dto)×Int→Tpl→Tpl→Int→Bool×Edg→Bool→Dto→Dto→Int→Tpl→Bool→(Int×Int)→Prop)(m12:Tap→Tpl×Pln→Lnk→Int×Int→(List Dto)×Int→Tpl→Tpl→Int→Bool×Edg→Bool→Dto→Dto→Int→Tpl→Bool→(Int×Int)→Nat):Ax Tryz.prog reaL_s (Bool):=
 (.pass (.join 0 (reaL_n0) (λ(t0:Tap)=>t0=(((⟨t.take 600,0⟩:Tap)):Tap)) (λb0=>(.callH [] (newM_h t) 32
(.bk 0 b0 (((⟨t.take 600,0⟩:Tap)):Tap) [32]))) λ(t0:Tap) =>
(.join 1 (reaL_n1 t0) (λ(t1:Tpl×Pln)=>t1=(((dmnM t0.L t0.p 7).1.1,(dmnM t0.L t0.p 7).1.2.1):Tpl×Pln)) (λb1=>(.req 17 (1≤7∧7≤20) λh1 =>
(.callH [0] (dmnM_h t0.L t0.p 7 h1) 17
(.bk 1 b1 ((dmnM t0.L t0.p 7).1.1,(dmnM t0.L t0.p 7).1.2.1) [0,97,113])))) λ(t1:Tpl×Pln) =>
(.br 67 (((t1.1.ls.map Lnk.v).length:Int)==0) (.callP (awk20_c )
(.ret (true)))
(.callH [0] (nxtM_h t0.L ((dmnM t0.L t0.p 7).2) ((t1.1.ls.map Lnk.v).length:Int)) 163
(.el 179 Lnk.v t1.1.ls (λR=>Rf (t1.1.ls.map Lnk.v) (ck (decide (0≤(Mod (rawV t0.L ((dmnM t0.L t0.p 7).2)) ((t1.1.ls.map Lnk.v).length:Int)))) (ck (decide ((Mod (rawV t0.L ((dmnM t0.L t0.p 7).2)) ((t1.1.ls.map Lnk.v).length:Int))<(t1.1.ls.length:Int)))
(∀x2,t1.1.ls[(Mod (rawV t0.L ((dmnM t0.L t0.p 7).2)) ((t1.1.ls.map Lnk.v).length:Int)).toNat]?=some x2 →
(R x2))))) λx2 =>
(.pass (.join 2 (reaL_n2 t1) (λ(t2:Int×Int)=>I2 t0 t1 x2 t2) (λb2=>(.join 3 (reaL_n3 t1 x2) (λ(t3:Bool)=>t3=(((Mod (rawV t0.L (rawP t0.L ((dmnM t0.L t0.p 7).2))) 2)==0):Bool)) (λb3=>(.callH [0] (nxtM_h t0.L (rawP t0.L ((dmnM t0.L t0.p 7).2)) 2) 355
(.bk 3 b3 (((Mod (rawV t0.L (rawP t0.L ((dmnM t0.L t0.p 7).2))) 2)==0):Bool) [1,2,211]))) λ(t3:Bool) =>
(.br 3 t3 (.bk 2 b2 (x2.b,x2.a) [0,1])
(.bk 2 b2 (x2.a,x2.b) [0,1])))) λ(t2:Int×Int) =>
(.join 4 (reaL_n4 t1 t2) (λ(t4:(List Dto)×Int)=>t4=(((dtsT t1.1 t1.2 t2.1 t2.2).1,(dtsT t1.1 t1.2 t2.1 t2.2).2):(List Dto)×Int)) (λb4=>(.callP (dtsP_c t1.1 t1.2 t2.1 t2.2)
(.bk 4 b4 ((dtsT t1.1 t1.2 t2.1 t2.2).1,(dtsT t1.1 t1.2 t2.1 t2.2).2) [0,1]))) λ(t4:(List Dto)×Int) =>
(.br 34 (t4.2 != 0) (.ret (false))
(.join 5 (reaL_n5 t1 t2 t4) (λ(t5:Tpl)=>t5=((witT t1.1 (⟨[],[t2.2]⟩:Flr)):Tpl)) (λb5=>(.callP (witR_c t1.1 (⟨[],[t2.2]⟩:Flr))
(.bk 5 b5 ((witT t1.1 (⟨[],[t2.2]⟩:Flr)):Tpl) [0,1,114]))) λ(t5:Tpl) =>
(.join 6 (reaL_n6 t1 t2 t4 t5) (λ(t6:Tpl)=>t6=((witT t1.1 (⟨[(⟨t2.1,t2.2⟩:Hop)],[]⟩:Flr)):Tpl)) (λb6=>(.callP (witR_c t1.1 (⟨[(⟨t2.1,t2.2⟩:Hop)],[]⟩:Flr))
(.bk 6 b6 ((witT t1.1 (⟨[(⟨t2.1,t2.2⟩:Hop)],[]⟩:Flr)):Tpl) [0,1,2,115]))) λ(t6:Tpl) =>
(.loop 7 (reaL_n7 t1 t2 t4 t5 t6) (I7 t0 t1 x2 t2 t4 t5 t6) (m7 t0 t1 x2 t2 t4 t5 t6) ((0):Int) [0,1,2,3] λ(t7:Int) b7 =>
(.br 68 (decide (t7<((t4.1.map Dto.v).length:Int))) (.pass (.join 8 (reaL_n8 t1 t2 t4 t5 t6 t7) (λ(t8:Bool×Edg)=>(∃x3':Dto,t4.1[t7.toNat]?=some x3'∧t8=(((edgF t1.2 x3'.id).2,(edgF t1.2 x3'.id).1):Bool×Edg))) (λb8=>(.el 116 Dto.v t4.1 (λR=>Rf (t4.1.map Dto.v) (ck (decide (0≤t7)) (ck (decide (t7<(t4.1.length:Int)))
(∀x3,t4.1[t7.toNat]?=some x3 →
(R x3))))) λx3 =>
(.callP (edgF_c t1.2 x3.id)
(.bk 8 b8 ((edgF t1.2 x3.id).2,(edgF t1.2 x3.id).1) [0,1,2,3,228])))) λ(t8:Bool×Edg) =>
(.pass (.join 9 (reaL_n9 t1 t2 t4 t5 t6 t7 t8) (λ(t9:Bool)=>I9 t0 t1 x2 t2 t4 t5 t6 t7 t8 t9) (λb9=>(.br 53 (!t8.1) (.bk 9 b9 ((true):Bool) [0,1,2,3,4])
(.el 85 Dto.v t4.1 (λR=>Rf (t4.1.map Dto.v) (ck (decide (0≤t7)) (ck (decide (t7<(t4.1.length:Int)))
(∀x4,t4.1[t7.toNat]?=some x4 →
(R x4))))) λx4 =>
(.bk 9 b9 ((((x4.route.map AV.int).length:Int)==0):Bool) [0,1,2,3,4])))) λ(t9:Bool) =>
(.br 5 t9 (.ret (false))
(.el 37 Dto.v t4.1 (λR=>Rf (t4.1.map Dto.v) (ck (decide (0≤t7)) (ck (decide (t7<(t4.1.length:Int)))
(∀x5,t4.1[t7.toNat]?=some x5 →
(R x5))))) λx5 =>
(.el 117 Dto.v t4.1 (λR=>Rf (t4.1.map Dto.v) (ck (decide (0≤t7)) (ck (decide (t7<(t4.1.length:Int)))
(∀x6,t4.1[t7.toNat]?=some x6 →
(R x6))))) λx6 =>
(.el 197 AV.int x5.route (λR=>Rf (x5.route.map AV.int) (ck (decide (0≤(W (((x6.route.map AV.int).length:Int)-1)))) (ck (decide ((W (((x6.route.map AV.int).length:Int)-1))<(x5.route.length:Int)))
(∀x7,x5.route[(W (((x6.route.map AV.int).length:Int)-1)).toNat]?=some x7 →
(R x7))))) λx7 =>
(.pass (.join 10 (reaL_n10 t1 t2 t4 t5 t6 t7 t8 x7) (λ(t10:Tpl)=>I10 t0 t1 x2 t2 t4 t5 t6 t7 t8 t9 x5 x6 x7 t10) (λb10=>(.br 341 (x7==t2.2) (.bk 10 b10 ((t6):Tpl) [0,1,2,3,4,261])
(.bk 10 b10 ((t5):Tpl) [0,1,2,3,4,261]))) λ(t10:Tpl) =>
(.pass (.join 11 (reaL_n11 t1 t2 t4 t5 t6 t7 t10) (λ(t11:Bool)=>I11 t0 t1 x2 t2 t4 t5 t6 t7 t8 t9 x5 x6 x7 t10 t11) (λb11=>(.br 70 (x7==t2.2) (.br 166 (t8.2.router != t2.2) (.callP (conR_c t5 t2.1 t8.2.router)
(.br 278 (conT t5 t2.1 t8.2.router) (.bk 11 b11 ((true):Bool) [0,1,2,3,5])
(.br 342 (x7 != t2.2) (.br 438 (x7 != t8.2.router) (.callP (avo6_c t1.1 x7 t8.2.router t2.2)
(.bk 11 b11 ((!(avo6 t1.1 x7 t8.2.router t2.2)):Bool) [0,1,2,3,5]))
(.bk 11 b11 ((false):Bool) [0,1,2,3,5]))
(.bk 11 b11 ((false):Bool) [0,1,2,3,5]))))
(.br 342 (x7 != t2.2) (.br 438 (x7 != t8.2.router) (.callP (avo6_c t1.1 x7 t8.2.router t2.2)
(.bk 11 b11 ((!(avo6 t1.1 x7 t8.2.router t2.2)):Bool) [0,1,2,3,5]))
(.bk 11 b11 ((false):Bool) [0,1,2,3,5]))
(.bk 11 b11 ((false):Bool) [0,1,2,3,5])))
(.br 342 (x7 != t2.2) (.br 438 (x7 != t8.2.router) (.callP (avo6_c t1.1 x7 t8.2.router t2.2)
(.bk 11 b11 ((!(avo6 t1.1 x7 t8.2.router t2.2)):Bool) [0,1,2,3,5]))
(.bk 11 b11 ((false):Bool) [0,1,2,3,5]))
(.bk 11 b11 ((false):Bool) [0,1,2,3,5])))) λ(t11:Bool) =>
(.br 5 t11 (.ret (false))
(.loop 12 (reaL_n12 t1 t2 t4 t5 t6 t7 t10) (I12 t0 t1 x2 t2 t4 t5 t6 t7 t8 t9 x5 x6 x7 t10 t11) (m12 t0 t1 x2 t2 t4 t5 t6 t7 t8 t9 x5 x6 x7 t10 t11) (t2.1,0) [0,1,2,3,4] λ(t12:Int×Int) b12 =>
(.el 53 Dto.v t4.1 (λR=>Rf (t4.1.map Dto.v) (ck (decide (0≤t7)) (ck (decide (t7<(t4.1.length:Int)))
(∀x8,t4.1[t7.toNat]?=some x8 →
(R x8))))) λx8 =>
(.br 133 (decide (t12.2<((x8.route.map AV.int).length:Int))) (.pass (.pass (.join 13 (reaL_n13 t1 t2 t4 t5 t6 t7 t10 t12) (λ(t13:Bool)=>(∃x9':Dto,t4.1[t7.toNat]?=some x9'∧∃x10':Int,x9'.route[t12.2.toNat]?=some x10'∧t13=(((prc5 t10 t12.1 x10').2):Bool))) (λb13=>(.el 197 Dto.v t4.1 (λR=>Rf (t4.1.map Dto.v) (ck (decide (0≤t7)) (ck (decide (t7<(t4.1.length:Int)))
(∀x9,t4.1[t7.toNat]?=some x9 →
(R x9))))) λx9 =>
(.el 261 AV.int x9.route (λR=>Rf (x9.route.map AV.int) (ck (decide (0≤t12.2)) (ck (decide (t12.2<(x9.route.length:Int)))
(∀x10,x9.route[t12.2.toNat]?=some x10 →
(R x10))))) λx10 =>
(.callP (prc5_c t10 t12.1 x10)
(.bk 13 b13 (((prc5 t10 t12.1 x10).2):Bool) [0,1,2,3,4]))))) λ(t13:Bool) =>
(.br 37 (!t13) (.ret (false))
(.el 69 Dto.v t4.1 (λR=>Rf (t4.1.map Dto.v) (ck (decide (0≤t7)) (ck (decide (t7<(t4.1.length:Int)))
(∀x11,t4.1[t7.toNat]?=some x11 →
(R x11))))) λx11 =>
(.el 133 AV.int x11.route (λR=>Rf (x11.route.map AV.int) (ck (decide (0≤t12.2)) (ck (decide (t12.2<(x11.route.length:Int)))
(∀x12,x11.route[t12.2.toNat]?=some x12 →
(R x12))))) λx12 =>
(.bk 12 b12 (x12,W (t12.2+1)) [0,1,2,3,4])))))))
(.bk 7 b7 ((W (t7+1)):Int) [0,1,2,3])))))))))))))))))
(.callP (awk20_c )
(.ret (true)))))))))))))))))
def reaL_vc(t:(List Int))(I2:Tap→Tpl×Pln→Lnk→(Int×Int)→Prop)(I7:Tap→Tpl×Pln→Lnk→Int×Int→(List Dto)×Int→Tpl→Tpl→Int→Prop)(m7:Tap→Tpl×Pln→Lnk→Int×Int→(List Dto)×Int→Tpl→Tpl→Int→Nat)(I9:Tap→Tpl×Pln→Lnk→Int×Int→(List Dto)×Int→Tpl→Tpl→Int→Bool×Edg→Bool→Prop)(I10:Tap→Tpl×Pln→Lnk→Int×Int→(List Dto)×Int→Tpl→Tpl→Int→Bool×Edg→Bool→Dto→Dto→Int→Tpl→Prop)(I11:Tap→Tpl×Pln→Lnk→Int×Int→(List Dto)×Int→Tpl→Tpl→Int→Bool×Edg→Bool→Dto→Dto→Int→Tpl→Bool→Prop)(I12:Tap→Tpl×Pln→Lnk→Int×Int→(List Dto)×Int→Tpl→Tpl→Int→Bool×Edg→Bool→Dto→Dto→Int→Tpl→Bool→(Int×Int)→Prop)(m12:Tap→Tpl×Pln→Lnk→Int×Int→(List Dto)×Int→Tpl→Tpl→Int→Bool×Edg→Bool→Dto→Dto→Int→Tpl→Bool→(Int×Int)→Nat)(r0:Bool):Prop:=(reaL_x t I2 I7 m7 I9 I10 I11 I12 m12).vp reaL_e r0
theorem reaL_p(t:List Int)(ok:reaL_a t):∃I2 I7 m7 I9 I10 I11 I12 m12,reaL_vc t I2 I7 m7 I9 I10 I11 I12 m12 true:=by
 refine⟨λ_ _ h s=>(s.1=h.a∧s.2=h.b)∨(s.1=h.b∧s.2=h.a),λ_ _ _ _ d _ _ i=>0≤i∧i≤d.1.length,λ_ _ _ _ d _ _ i=>d.1.length-i.toNat,λ_ _ _ _ _ _ _ _ _ b=>b=false,λ_ _ _ s _ one two _ _ _ _ _ en u=>u=if en==s.2 then two else one,λ_ _ _ _ _ _ _ _ _ _ _ _ _ _ b=>b=false,λ_ _ _ s _ _ _ _ _ _ d _ _ _ _ st=>0≤st.2∧st.2≤d.route.length∧st.1=lastI s.1 (d.route.take st.2.toNat),λ_ _ _ _ _ _ _ _ _ _ d _ _ _ _ st=>d.route.length-st.2.toNat,?_⟩
 dsimp only[reaL_vc,reaL_x,reaL_s,Ax.vp,Ax.vc];simp only[vcU,rfU,List.length_map]
 refine⟨trivial,?_⟩
 rintro _ rfl
 refine⟨⟨by omega,trivial⟩,?_⟩
 rintro _ rfl
 refine⟨λ_=>trivial,λc=>?_⟩
 obtain⟨g1,g2,g3⟩:=dmn_ok (List.take 600 t) 0
 simp only at c ⊢
 generalize (dmnM (List.take 600 t) 0 7).1.1=g at *
 generalize (dmnM (List.take 600 t) 0 7).1.2.1=P at *
 have hl:0<(g.ls.length:Int):=by simp at c;have:=List.length_pos_iff.mpr c;omega
 have hm:=Mod_range (x:=rawV (List.take 600 t) (dmnM (List.take 600 t) 0 7).2) hl
 refine⟨hm.1,hm.2,λx hx=>⟨⟨trivial,?_⟩,?_⟩⟩
 ·rintro _ rfl;exact⟨λ_=>.inr ⟨trivial,trivial⟩,λ_=>.inl ⟨trivial,trivial⟩⟩
 rintro⟨r,n⟩ hrn
 have hp:(prc5 g r n).2=true:=by
  obtain⟨p1,p2⟩:=lnk_prc g1 (mem_of_get hx)
  rcases hrn with⟨h1,h2⟩|⟨h1,h2⟩
  ·simp only at h1 h2;rw[h1,h2];exact p1
  ·simp only at h1 h2;rw[h1,h2];exact p2
 obtain⟨k1,k2⟩:=dts_ok g1 g3 g2 hp
 have hD:=dts_len g P r n
 refine⟨trivial,?_⟩
 rintro _ rfl
 simp only[k1]
 refine⟨λe=>by simp at e,λ_=>⟨trivial,?_⟩⟩
 rintro _ rfl
 refine⟨trivial,?_⟩
 rintro _ rfl
 generalize (dtsT g P r n).1=D at k2 hD ⊢
 refine⟨⟨by omega,by omega⟩,?_⟩
 rintro(i:Int) ⟨i0,i1⟩
 refine⟨λc2=>⟨⟨i0,c2,λx3 h3=>⟨x3,h3,rfl⟩⟩,?_⟩,λ_=>trivial⟩
 rintro⟨b,e⟩ ⟨d,h3,he⟩
 obtain⟨q1,q2,q3,q4⟩:=k2 d (mem_of_get h3)
 obtain⟨rfl,rfl⟩:=Prod.mk.inj he
 generalize (edgF P d.id).1.router=e at *
 refine⟨⟨λe=>by simp[q1]at e,λ_=>⟨i0,c2,λx4 h4=>?_⟩⟩,?_⟩
 ·rw[h3]at h4;cases h4;simpa using q2
 rintro _ rfl
 refine⟨λe=>(by cases e),λ_=>⟨i0,c2,λx5 h5=>⟨i0,c2,λx6 h6=>?_⟩⟩⟩
 rw[h3]at h5 h6;cases h5;cases h6
 have hpos:=List.length_pos_iff.mpr q2
 rw[show W ((d.route.length:Int)-1)=d.route.length-1 from W_eq (by omega)]
 refine⟨by omega,by omega,λy hy=>?_⟩
 have hlast:lastI r d.route=y:=lastI_at q2 (by rwa [show((d.route.length:Int)-1).toNat=d.route.length-1 by omega]at hy)
 obtain⟨d1,d2,d3⟩:=q4
 rw[hlast]at d1 d2 d3
 refine⟨⟨λh=>by rw[if_pos h],λh=>by rw[if_neg (by rw[h];simp)]⟩,?_⟩
 rintro _ rfl
 have hA:y≠n→y≠e→(!avo6 g y e n)=false:=λa b=>by rw[d3 a b];rfl
 refine⟨⟨λe1=>⟨λe2=>⟨λe3=>?_,λ_=>?_⟩,λ_=>?_⟩,λ_=>?_⟩,?_⟩
 ·have:=d2 (by simpa using e1) (by simpa using e2)
  unfold wnoT at this
  rw[this]at e3;cases e3
 iterate 3 exact⟨λa=>⟨λb=>hA (by simpa using a) (by simpa using b),λ_=>trivial⟩,λ_=>trivial⟩
 rintro _ rfl
 refine⟨λe=>(by cases e),λ_=>⟨⟨by omega,by omega,rfl⟩,?_⟩⟩
 rintro⟨a,k⟩ ⟨a0,a1,a2⟩
 simp only at a0 a1 a2
 refine⟨i0,c2,λx8 h8=>?_⟩
 rw[h3]at h8;cases h8
 refine⟨λc3=>⟨⟨i0,c2,λx9 h9=>?_⟩,?_⟩,λc3=>?_⟩
 ·have h9':=h9
  rw[h3]at h9';cases h9'
  exact⟨a0,c3,λz hz=>⟨d,h9,z,hz,rfl⟩⟩
 ·rintro _ ⟨x9,h9,z,hz,rfl⟩
  rw[h3]at h9;cases h9
  simp only at hz c3
  have hst:=d1.step k.toNat z hz
  rw[←a2]at hst
  unfold wnoT wliT at hst
  refine⟨λe=>?_,λ_=>⟨i0,c2,λx11 h11=>?_⟩⟩
  ·simp only at e;rw[hst]at e;cases e
  ·rw[h3]at h11;cases h11
   refine⟨a0,c3,λw hw=>?_⟩
   simp only at hw ⊢
   rw[show W (k+1)=k+1 from W_eq (by omega)]
   refine⟨⟨by omega,by omega,?_⟩,by omega⟩
   rw[show(k+1).toNat=k.toNat+1 by omega]
   exact(lastI_get hw).symm
 ·rw[show W (i+1)=i+1 from W_eq (by omega)]
  exact⟨⟨by omega,by omega⟩,by omega⟩
def reaL_c(t:(List Int)):PC Tryz.prog:=⟨4,[(.s 1)],[.sl 1 (t.map AV.int) false],reaL_e true,PSpec.of_ok λok=>(reaL_p t ok).elim λI2 h=>h.elim λI7 h=>h.elim λm7 h=>h.elim λI9 h=>h.elim λI10 h=>h.elim λI11 h=>h.elim λI12 h=>h.elim λm12 h=>mxP_of (sh:=.k) (enc:=reaL_e) (a:=(reaL_x t I2 I7 m7 I9 I10 I11 I12 m12).an) h (by kernel_rfl) (AV.pureB_ok rfl),fnB_ok (by kernel_rfl)⟩
end Go.Proofs.YteooglpnechplaaGreat
