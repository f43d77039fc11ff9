/- Texts joined: RF6 KC TW RF7. -/
import Derived.Test.YtdoacjojljgdcaaGreatQN8
set_option linter.unusedVariables false
set_option linter.unusedSimpArgs false
set_option linter.unusedSectionVars false
namespace Go.Proofs.YtdoacjojljgdcaaGreat
open Go Go.Am
set_option pp.deepTerms true
set_option pp.maxSteps 100000
def isB(g:Tpl)(ds:List Hop)(x y:Int):Bool:=(prc5 g x y).2 && bhd18 g ds x y
theorem relR_eq(k:Int)(g:Tpl)(ds:List Hop)(x y:Int):relR k g ds x y=(((k==1) && isB g ds y x) || ((k==2) && isB g ds x y)):=rfl
theorem red_gov(t:Tpl)(c:Chg)(h:(redT t c).2.2.2=0):(redT t c).2.1=if(redT t c).1=2 then(aplT t c).1 else t:=by
 have:=(redT_ok h).2.1
 unfold redT at h ⊢
 rw[if_neg (not_not_intro this)]at h ⊢
 split
 ·rename_i q;rw[if_pos q]at h;cases h
 ·split<;>rfl
structure MatI (rs:List Rtr) (g:Tpl) (ds:List Hop) (a b:Nat) (M:List Bool):Prop where
  ln:M.length=576
  el:∀p q x y,rs[p]?=some x→rs[q]?=some y→(p<a∨p=a∧q<b)→M[p * 24+q]?=some (isB g ds x.id y.id)
theorem MatI.set{rs:List Rtr}{g:Tpl}{ds:List Hop}{a b:Nat}{M:List Bool}(h:MatI rs g ds a b M)(hn:rs.length≤24){x y:Rtr}(hx:rs[a]?=some x)(hy:rs[b]?=some y){v:Bool}(hv:v=isB g ds x.id y.id):MatI rs g ds a (b+1) (M.set (a * 24+b) v):=by
 refine⟨by rw[List.length_set];exact h.ln,λp q x' y' hx' hy' hpq=>?_⟩
 have:=lt_of_get hx;have:=lt_of_get hy;have:=lt_of_get hx';have:=lt_of_get hy'
 rw[List.getElem?_set]
 by_cases e:a * 24+b=p * 24+q
 ·have e1:a=p:=by omega
  have e2:b=q:=by omega
  subst e1;subst e2
  rw[hx]at hx';cases hx'
  rw[hy]at hy';cases hy'
  rw[if_pos rfl,if_pos (by rw[h.ln];omega),hv]
 ·rw[if_neg e]
  exact h.el p q x' y' hx' hy' (by omega)
structure RnkI (rs:List Rtr) (P:Int→Int) (m i:Nat) (d:List Int):Prop where
  ln:d.length=rs.length
  el:∀(p:Nat) x,rs[p]?=some x→∃v,d[p]?=some v∧0≤v∧v≤P x.id∧(P x.id≤v∨(m:Int)≤v)∧(p<i→P x.id≤v∨(m:Int)+1≤v)
theorem rng24{a:Nat}(h:a<24):(bif decide (0≤(a:Int))then decide ((a:Int)<24)else false)=true:=by
 rw[decide_eq_true (show 0≤(a:Int) by omega),decide_eq_true (show(a:Int)<24 by omega)];rfl
theorem rngL{a n:Nat}(h:a<n):(bif decide (0≤(a:Int))then decide ((a:Int)<(n:Int))else false)=true:=by
 rw[decide_eq_true (show 0≤(a:Int) by omega),decide_eq_true (show(a:Int)<(n:Int) by omega)];rfl
def rnk18_a(t:Tpl)(c:Chg):Prop:=okL [.agg [.sl 2 (t.rs.map Rtr.v) false,.sl 5 (t.ls.map Lnk.v) false],.agg [.int c.a,.int c.b,.int c.ca,.int c.cb]]
def rnk18_n0(t:Tpl)(c:Chg)(t0:Tpl):NF:=⟨[(2,.k,.ref 0 0),(3,.k,.ref 1 0),(6,.k,.int ((knd18 t c).1)),(8,.k,.ref 2 0)],[.box (.agg [.sl 2 (t.rs.map Rtr.v) false,.sl 5 (t.ls.map Lnk.v) false]),.box (.agg [.int c.a,.int c.b,.int c.ca,.int c.cb]),.box (.agg [.sl 2 (t0.rs.map Rtr.v) false,.sl 5 (t0.ls.map Lnk.v) false])]⟩
def rnk18_n1(t:Tpl)(c:Chg)(t0:Tpl)(t1:Int×(List Bool)):NF:=⟨[(2,.k,.ref 0 0),(6,.k,.int ((knd18 t c).1)),(8,.k,.ref 1 0),(9,.k,.sl 2 ((drc18 t c).map Hop.v) false),(10,.k,.int ((t.rs.map Rtr.v).length:Int)),(11,.k,.ref 2 0),(12,.k,.int t1.1)],[.box (.agg [.sl 2 (t.rs.map Rtr.v) false,.sl 5 (t.ls.map Lnk.v) false]),.box (.agg [.sl 2 (t0.rs.map Rtr.v) false,.sl 5 (t0.ls.map Lnk.v) false]),.arr (t1.2.map AV.bool) (pureBL_map (λ_=>rfl) t1.2)]⟩
def rnk18_n2(t:Tpl)(c:Chg)(t0:Tpl)(t1:Int×(List Bool))(t2:Int×(List Bool)):NF:=⟨[(2,.k,.ref 0 0),(6,.k,.int ((knd18 t c).1)),(8,.k,.ref 1 0),(9,.k,.sl 2 ((drc18 t c).map Hop.v) false),(10,.k,.int ((t.rs.map Rtr.v).length:Int)),(11,.k,.ref 2 0),(12,.k,.int t1.1),(13,.k,.int t2.1)],[.box (.agg [.sl 2 (t.rs.map Rtr.v) false,.sl 5 (t.ls.map Lnk.v) false]),.box (.agg [.sl 2 (t0.rs.map Rtr.v) false,.sl 5 (t0.ls.map Lnk.v) false]),.arr (t2.2.map AV.bool) (pureBL_map (λ_=>rfl) t2.2)]⟩
def rnk18_n3(t:Tpl)(c:Chg)(t1:Int×(List Bool))(t3:Int×(List Int)):NF:=⟨[(2,.k,.ref 0 0),(6,.k,.int ((knd18 t c).1)),(10,.k,.int ((t.rs.map Rtr.v).length:Int)),(11,.k,.ref 1 0),(18,.k,.vec 2),(19,.k,.int t3.1)],[.box (.agg [.sl 2 (t.rs.map Rtr.v) false,.sl 5 (t.ls.map Lnk.v) false]),.arr (t1.2.map AV.bool) (pureBL_map (λ_=>rfl) t1.2),.vec 1 (t3.2.map AV.int) (pureBL_map (λ_=>rfl) t3.2)]⟩
def rnk18_n4(t:Tpl)(c:Chg)(t1:Int×(List Bool))(t3:Int×(List Int))(t4:Int×(List Int)):NF:=⟨[(2,.k,.ref 0 0),(6,.k,.int ((knd18 t c).1)),(10,.k,.int ((t.rs.map Rtr.v).length:Int)),(11,.k,.ref 1 0),(18,.k,.vec 2),(19,.k,.int t3.1),(20,.k,.int t4.1)],[.box (.agg [.sl 2 (t.rs.map Rtr.v) false,.sl 5 (t.ls.map Lnk.v) false]),.arr (t1.2.map AV.bool) (pureBL_map (λ_=>rfl) t1.2),.vec 1 (t4.2.map AV.int) (pureBL_map (λ_=>rfl) t4.2)]⟩
def rnk18_n5(t:Tpl)(c:Chg)(t1:Int×(List Bool))(t3:Int×(List Int))(t4:Int×(List Int))(t5:Int×(List Int)):NF:=⟨[(2,.k,.ref 0 0),(6,.k,.int ((knd18 t c).1)),(10,.k,.int ((t.rs.map Rtr.v).length:Int)),(11,.k,.ref 1 0),(18,.k,.vec 2),(19,.k,.int t3.1),(20,.k,.int t4.1),(21,.k,.int t5.1)],[.box (.agg [.sl 2 (t.rs.map Rtr.v) false,.sl 5 (t.ls.map Lnk.v) false]),.arr (t1.2.map AV.bool) (pureBL_map (λ_=>rfl) t1.2),.vec 1 (t5.2.map AV.int) (pureBL_map (λ_=>rfl) t5.2)]⟩
def rnk18_n6(t:Tpl)(c:Chg)(t1:Int×(List Bool))(t3:Int×(List Int))(t4:Int×(List Int))(t5:Int×(List Int))(t6:Bool):NF:=⟨[(2,.k,.ref 0 0),(6,.k,.int ((knd18 t c).1)),(10,.k,.int ((t.rs.map Rtr.v).length:Int)),(11,.k,.ref 1 0),(18,.k,.vec 2),(19,.k,.int t3.1),(20,.k,.int t4.1),(21,.k,.int t5.1),(125,.k,.bool t6)],[.box (.agg [.sl 2 (t.rs.map Rtr.v) false,.sl 5 (t.ls.map Lnk.v) false]),.arr (t1.2.map AV.bool) (pureBL_map (λ_=>rfl) t1.2),.vec 1 (t5.2.map AV.int) (pureBL_map (λ_=>rfl) t5.2)]⟩
def rnk18_n7(t:Tpl)(t3:Int×(List Int))(t7:Int×(List Rnk)):NF:=⟨[(2,.k,.ref 0 0),(10,.k,.int ((t.rs.map Rtr.v).length:Int)),(18,.k,.vec 1),(22,.k,.vec 2),(23,.k,.int t7.1)],[.box (.agg [.sl 2 (t.rs.map Rtr.v) false,.sl 5 (t.ls.map Lnk.v) false]),.vec 1 (t3.2.map AV.int) (pureBL_map (λ_=>rfl) t3.2),.vec 2 (t7.2.map Rnk.v) (pureBL_map (λ_=>rfl) t7.2)]⟩
@[reducible] def rnk18_s:Nat→Type
 | 0=>Tpl
 | 1=>Int×(List Bool)
 | 2=>Int×(List Bool)
 | 3=>Int×(List Int)
 | 4=>Int×(List Int)
 | 5=>Int×(List Int)
 | 6=>Bool
 | 7=>Int×(List Rnk)
 | _=>Unit
def rnk18_e(r:(List Rnk)×Int):AV:=.tup [.sl 2 (r.1.map Rnk.v) false,.int r.2]
def rnk18_x(t:Tpl)(c:Chg)(I0:Tpl→Prop)(I1:Tpl→(Int×(List Bool))→Prop)(m1:Tpl→(Int×(List Bool))→Nat)(I2:Tpl→Int×(List Bool)→(Int×(List Bool))→Prop)(m2:Tpl→Int×(List Bool)→(Int×(List Bool))→Nat)(I3:Tpl→Int×(List Bool)→(Int×(List Int))→Prop)(m3:Tpl→Int×(List Bool)→(Int×(List Int))→Nat)(I4:Tpl→Int×(List Bool)→Int×(List Int)→(Int×(List Int))→Prop)(m4:Tpl→Int×(List Bool)→Int×(List Int)→(Int×(List Int))→Nat)(I5:Tpl→Int×(List Bool)→Int×(List Int)→Int×(List Int)→(Int×(List Int))→Prop)(m5:Tpl→Int×(List Bool)→Int×(List Int)→Int×(List Int)→(Int×(List Int))→Nat)(I6:Tpl→Int×(List Bool)→Int×(List Int)→Int×(List Int)→Int×(List Int)→Bool→Prop)(I7:Tpl→Int×(List Bool)→Int×(List Int)→(Int×(List Rnk))→Prop)(m7:Tpl→Int×(List Bool)→Int×(List Int)→(Int×(List Rnk))→Nat):Ax Tryz.prog rnk18_s ((List Rnk)×Int):=
 (.callP (knd18_c t c)
(.br 224 (((knd18 t c).2) != 0) (.ret ([],(knd18 t c).2))
(.pass (.join 0 (rnk18_n0 t c) (λ(t0:Tpl)=>I0 t0) (λb0=>(.br 304 (((knd18 t c).1)==2) (.callP (apl5_c t c)
(.bk 0 b0 (((aplT t c).1):Tpl) [0,16,240]))
(.bk 0 b0 ((t):Tpl) [0,16,240]))) λ(t0:Tpl) =>
(.callP (drc18_c t c)
(.loop 1 (rnk18_n1 t c t0) (I1 t0) (m1 t0) (0,List.replicate 576 false) [0,2,131] λ(t1:Int×(List Bool)) b1 =>
(.br 51 (decide (t1.1<((t.rs.map Rtr.v).length:Int))) (.loop 2 (rnk18_n2 t c t0 t1) (I2 t0 t1) (m2 t0 t1) (0,t1.2) [0,1,2] λ(t2:Int×(List Bool)) b2 =>
(.br 51 (decide (t2.1<((t.rs.map Rtr.v).length:Int))) (.elI 99 Rtr.v t.rs t1.1 λx1 =>
(.elI 195 Rtr.v t.rs t2.1 λx2 =>
(.callP (prc5_c t0 x1.id x2.id)
(.br 483 ((prc5 t0 x1.id x2.id).2) (.callP (bhd18_c t0 (drc18 t c) x1.id x2.id)
(.say (λR=>ck (cond (decide (0≤t1.1)) (decide (t1.1<24)) false)
((ck (cond (decide (0≤t2.1)) (decide (t2.1<24)) false)
R))) (.stX 611 AV.bool t2.2 ((0+(t1.1.toNat * 24))+(t2.1.toNat * 1)) (λ_=>(bhd18 t0 (drc18 t c) x1.id x2.id)) λy3 =>
(.bk 2 b2 (W (t2.1+1),t2.2.set ((0+(t1.1.toNat * 24))+(t2.1.toNat * 1)) (bhd18 t0 (drc18 t c) x1.id x2.id)) [0,1,2]))))
(.say (λR=>ck (cond (decide (0≤t1.1)) (decide (t1.1<24)) false)
((ck (cond (decide (0≤t2.1)) (decide (t2.1<24)) false)
R))) (.stX 611 AV.bool t2.2 ((0+(t1.1.toNat * 24))+(t2.1.toNat * 1)) (λ_=>false) λy4 =>
(.bk 2 b2 (W (t2.1+1),t2.2.set ((0+(t1.1.toNat * 24))+(t2.1.toNat * 1)) false) [0,1,2])))))))
(.bk 1 b1 (W (t1.1+1),t2.2) [0,1,2])))
(.say (λR=>Rf (AV.int 0) (ck (cond (decide (0≤((t.rs.map Rtr.v).length:Int))) (cond (decide (((t.rs.map Rtr.v).length:Int)≤((t.rs.map Rtr.v).length:Int))) (decide (((t.rs.map Rtr.v).length:Int)≤1048576)) false) false)
R)) (.rep 67 AV.int 0
(.loop 3 (rnk18_n3 t c t1) (I3 t0 t1) (m3 t0 t1) (0,List.replicate (((t.rs.map Rtr.v).length:Int).toNat) 0) [0,2,67] λ(t3:Int×(List Int)) b3 =>
(.br 51 (decide (t3.1<((t.rs.map Rtr.v).length:Int))) (.loop 4 (rnk18_n4 t c t1 t3) (I4 t0 t1 t3) (m4 t0 t1 t3) (0,t3.2) [0,1,2] λ(t4:Int×(List Int)) b4 =>
(.br 51 (decide (t4.1<((t.rs.map Rtr.v).length:Int))) (.loop 5 (rnk18_n5 t c t1 t3 t4) (I5 t0 t1 t3 t4) (m5 t0 t1 t3 t4) (0,t4.2) [0,1,2] λ(t5:Int×(List Int)) b5 =>
(.br 51 (decide (t5.1<((t.rs.map Rtr.v).length:Int))) (.pass (.join 6 (rnk18_n6 t c t1 t3 t4 t5) (λ(t6:Bool)=>I6 t0 t1 t3 t4 t5 t6) (λb6=>(.br 99 (((knd18 t c).1)==1) (.say (λR=>ck (cond (decide (0≤t5.1)) (decide (t5.1<24)) false)
((ck (cond (decide (0≤t4.1)) (decide (t4.1<24)) false)
R))) (.elX 163 AV.bool t1.2 ((0+(t5.1.toNat * 24))+(t4.1.toNat * 1)) λx5 =>
(.br 211 x5 (.bk 6 b6 ((true):Bool) [0,1,2])
(.br 259 (((knd18 t c).1)==2) (.say (λR=>ck (cond (decide (0≤t4.1)) (decide (t4.1<24)) false)
((ck (cond (decide (0≤t5.1)) (decide (t5.1<24)) false)
R))) (.elX 323 AV.bool t1.2 ((0+(t4.1.toNat * 24))+(t5.1.toNat * 1)) λx6 =>
(.bk 6 b6 ((x6):Bool) [0,1,2])))
(.bk 6 b6 ((false):Bool) [0,1,2])))))
(.br 259 (((knd18 t c).1)==2) (.say (λR=>ck (cond (decide (0≤t4.1)) (decide (t4.1<24)) false)
((ck (cond (decide (0≤t5.1)) (decide (t5.1<24)) false)
R))) (.elX 323 AV.bool t1.2 ((0+(t4.1.toNat * 24))+(t5.1.toNat * 1)) λx7 =>
(.bk 6 b6 ((x7):Bool) [0,1,2])))
(.bk 6 b6 ((false):Bool) [0,1,2])))) λ(t6:Bool) =>
(.br 3 t6 (.elJ 83 AV.int t5.2 t4.1 λx8 =>
(.elJ 147 AV.int t5.2 t5.1 λx9 =>
(.stJ 211 AV.int t5.2 t4.1 (λy10=>(maxI x8 (W (x9+1)))) λy10 =>
(.bk 5 b5 (W (t5.1+1),t5.2.set t4.1.toNat (maxI x8 (W (x9+1)))) [0,1,2]))))
(.bk 5 b5 (W (t5.1+1),t5.2) [0,1,2]))))
(.bk 4 b4 (W (t4.1+1),t5.2) [0,1,2])))
(.bk 3 b3 (W (t3.1+1),t4.2) [0,1,2])))
(.cmdL (.nilT 22 2) (.loop 7 (rnk18_n7 t t3) (I7 t0 t1 t3) (m7 t0 t1 t3) (0,[]) [0,2,83] λ(t7:Int×(List Rnk)) b7 =>
(.br 51 (decide (t7.1<((t.rs.map Rtr.v).length:Int))) (.elI 115 Rtr.v t.rs t7.1 λx11 =>
(.elJ 211 AV.int t3.2 t7.1 λx12 =>
(.apX 259 Rnk.v t7.2 [(⟨x11.id,x12⟩:Rnk)] (t7.2.length+1)
(.bk 7 b7 (W (t7.1+1),t7.2++[(⟨x11.id,x12⟩:Rnk)]) [0,1,259]))))
(.fz 2 Rnk.v t7.2 (λ_=>rfl) (.ret (t7.2,0)))))))))))))))))
def rnk18_vc(t:Tpl)(c:Chg)(I0:Tpl→Prop)(I1:Tpl→(Int×(List Bool))→Prop)(m1:Tpl→(Int×(List Bool))→Nat)(I2:Tpl→Int×(List Bool)→(Int×(List Bool))→Prop)(m2:Tpl→Int×(List Bool)→(Int×(List Bool))→Nat)(I3:Tpl→Int×(List Bool)→(Int×(List Int))→Prop)(m3:Tpl→Int×(List Bool)→(Int×(List Int))→Nat)(I4:Tpl→Int×(List Bool)→Int×(List Int)→(Int×(List Int))→Prop)(m4:Tpl→Int×(List Bool)→Int×(List Int)→(Int×(List Int))→Nat)(I5:Tpl→Int×(List Bool)→Int×(List Int)→Int×(List Int)→(Int×(List Int))→Prop)(m5:Tpl→Int×(List Bool)→Int×(List Int)→Int×(List Int)→(Int×(List Int))→Nat)(I6:Tpl→Int×(List Bool)→Int×(List Int)→Int×(List Int)→Int×(List Int)→Bool→Prop)(I7:Tpl→Int×(List Bool)→Int×(List Int)→(Int×(List Rnk))→Prop)(m7:Tpl→Int×(List Bool)→Int×(List Int)→(Int×(List Rnk))→Nat)(r0:(List Rnk)×Int):Prop:=(rnk18_x t c I0 I1 m1 I2 m2 I3 m3 I4 m4 I5 m5 I6 I7 m7).vp rnk18_e r0
theorem rnk18_p(t:Tpl)(c:Chg)(ok:rnk18_a t c):∃I0 I1 m1 I2 m2 I3 m3 I4 m4 I5 m5 I6 I7 m7,rnk18_vc t c I0 I1 m1 I2 m2 I3 m3 I4 m4 I5 m5 I6 I7 m7 (rnkR t c,(redT t c).2.2.2):=by
 generalize hg:(redT t c).2.1=g
 generalize hds:(redT t c).2.2.1=ds
 generalize hK:(redT t c).1=K
 generalize hP:rkP (rnkA t c) 200000=P
 refine⟨λg'=>g'=g,λ_ s=>∃a:Nat,s.1=a∧a≤t.rs.length∧MatI t.rs g ds a 0 s.2,λ_ s=>t.rs.length-s.1.toNat,
  λ_ s u=>∃b:Nat,u.1=b∧b≤t.rs.length∧MatI t.rs g ds s.1.toNat b u.2,λ_ _ u=>t.rs.length-u.1.toNat,
  λ_ _ s=>∃m:Nat,s.1=m∧m≤t.rs.length∧RnkI t.rs P m 0 s.2,λ_ _ s=>t.rs.length-s.1.toNat,
  λ_ _ s u=>∃i:Nat,u.1=i∧i≤t.rs.length∧RnkI t.rs P s.1.toNat i u.2,λ_ _ _ u=>t.rs.length-u.1.toNat,
  λ_ _ s u w=>∃k:Nat,w.1=k∧k≤t.rs.length∧RnkI t.rs P s.1.toNat u.1.toNat w.2 ∧
   ∀(q:Nat) x y,q<k→t.rs[q]?=some y→t.rs[u.1.toNat]?=some x→relR K g ds x.id y.id=true→∃v,w.2[u.1.toNat]?=some v∧(P y.id+1≤v∨(s.1.toNat:Int)+1≤v),
  λ_ _ _ _ w=>t.rs.length-w.1.toNat,
  λ_ _ _ u w b=>∀x y,t.rs[u.1.toNat]?=some x→t.rs[w.1.toNat]?=some y→b=relR K g ds x.id y.id,
  λ_ _ _ s=>∃k:Nat,s.1=k∧k≤t.rs.length∧s.2=(t.rs.take k).map λr=>⟨r.id,P r.id⟩,λ_ _ _ s=>t.rs.length-s.1.toNat,?_⟩
 simp only[rnk18_a,okU,Blk.ok,plainV,List.length_map]at ok
 dsimp only[rnk18_vc,rnk18_x,rnk18_s,Ax.vp,Ax.vc];simp only[vcU,rfU,List.length_map]
 obtain⟨hk1,hk2⟩:=red_eq t c
 have e1:(knd18 t c).1=K:=by rw[hk1];exact hK
 have e2:(knd18 t c).2=(redT t c).2.2.2:=by rw[hk1]
 rw[e1,e2]
 refine⟨λq=>?_,λq=>?_⟩
 ·unfold rnkR;rw[if_neg (by simpa using q)]
 have q:(redT t c).2.2.2=0:=by simpa using q
 have hc:=(redT_ok q).1
 have hn:=(chk5_len hc).1
 have hgov:=red_gov t c q
 have hO:=rnk_ok q
 have hkk:=red_kind q
 have hR:rnkR t c=t.rs.map λr=>⟨r.id,P r.id⟩:=by unfold rnkR;rw[if_pos q,hP]
 rw[hg]at hgov
 rw[hK]at hgov hkk
 rw[hK,hg,hds,hP]at hO
 rw[hR,q,hk2 q,hds]
 refine⟨⟨λd=>by rw[hgov,if_pos (eq_of_beq d)],λd=>by rw[hgov,if_neg (by simpa using d)]⟩,?_⟩
 rintro g rfl
 clear hk1 hk2 e1 e2 hgov hR
 generalize hnn:t.rs.length=n at *
 have wS:∀a:Nat,a<n→W ((a:Int)+1)=((a+1:Nat):Int):=λa h=>by rw[W_eq (by omega)];omega
 refine⟨⟨0,rfl,by omega,⟨List.length_replicate ..,λp q x y _ _ h=>by omega⟩⟩,?_⟩
 rintro⟨_,M⟩ ⟨a,rfl,ha,hM⟩
 simp only at hM ⊢
 refine⟨λd=>?_,λd=>?_⟩
 ·have d:a<n:=by omega
  refine⟨⟨0,rfl,by omega,hM⟩,?_⟩
  rintro⟨_,M⟩ ⟨b,rfl,hb,hM⟩
  simp only[Int.toNat_natCast]at hM ⊢
  refine⟨λd2=>⟨by omega,by omega,λx hx=>⟨by omega,by omega,λy hy=>⟨λe=>?_,λe=>?_⟩⟩⟩,λd2=>?_⟩
  ·have d2:b<n:=by omega
   rw[wS b d2]
   refine⟨rng24 (by omega),rng24 (by omega),by rw[hM.ln];omega,λo ho=>⟨⟨b+1,rfl,by omega,?_⟩,by omega⟩⟩
   have:=hM.set (by omega) hx hy (v:=bhd18 g ds x.id y.id) (by unfold isB;rw[e];rfl)
   rw[show 0+a * 24+b * 1=a * 24+b by omega];exact this
  ·have d2:b<n:=by omega
   rw[wS b d2]
   refine⟨rng24 (by omega),rng24 (by omega),by rw[hM.ln];omega,λo ho=>⟨⟨b+1,rfl,by omega,?_⟩,by omega⟩⟩
   have:=hM.set (by omega) hx hy (v:=false) (by unfold isB;rw[e];rfl)
   rw[show 0+a * 24+b * 1=a * 24+b by omega];exact this
  ·have d2:b=n:=by omega
   subst d2
   rw[wS a d]
   refine⟨⟨a+1,rfl,by omega,⟨hM.ln,λp q x y hx hy hpq=>hM.el p q x y hx hy ?_⟩⟩,by omega⟩
   have:=lt_of_get hy;omega
 have d:a=n:=by omega
 subst d
 have hM':∀(p q:Nat) x y,t.rs[p]?=some x→t.rs[q]?=some y→M[p * 24+q]?=some (isB g ds x.id y.id):=λp q x y hx hy=>hM.el p q x y hx hy (by have:=lt_of_get hx;omega)
 have hMl:=hM.ln
 refine⟨?_,⟨0,rfl,by omega,⟨by simp[hnn],λp x hx=>?_⟩⟩,?_⟩
 ·rw[decide_eq_true (show(0:Int)≤(a:Int) by omega),decide_eq_true (Int.le_refl (a:Int)),decide_eq_true (show(a:Int)≤1048576 by omega)];rfl
 ·have:=lt_of_get hx
  exact⟨0,by rw[List.getElem?_replicate,if_pos (by omega)],by omega,hO.nn _,by omega,by omega⟩
 rintro⟨_,d0⟩ ⟨m,rfl,hm,hD0⟩
 simp only at hD0 ⊢
 refine⟨λd=>?_,λd=>?_⟩
 ·have d:m<a:=by omega
  refine⟨⟨0,rfl,by omega,by rw[Int.toNat_natCast];exact hD0⟩,?_⟩
  rintro⟨_,d1⟩ ⟨i,rfl,hi,hD1⟩
  simp only[Int.toNat_natCast]at hD1 ⊢
  refine⟨λdi=>?_,λdi=>?_⟩
  ·have di:i<a:=by omega
   refine⟨⟨0,rfl,by omega,hD1,λq x y hq=>by omega⟩,?_⟩
   rintro⟨_,d2⟩ ⟨k,rfl,hk,hD2,hB⟩
   simp only[Int.toNat_natCast]at hD2 hB ⊢
   obtain⟨x,hx⟩:∃x,t.rs[i]?=some x:=⟨_,List.getElem?_eq_getElem (by omega)⟩
   refine⟨λdk=>?_,λdk=>?_⟩
   ·have dk:k<a:=by omega
    obtain⟨y,hy⟩:∃y,t.rs[k]?=some y:=⟨_,List.getElem?_eq_getElem (by omega)⟩
    have h1:=hM' k i y x hy hx
    have h2:=hM' i k x y hx hy
    have i1:0+k * 24+i * 1=k * 24+i:=by omega
    have i2:0+i * 24+k * 1=i * 24+k:=by omega
    rw[i1,i2,h1,h2,wS k dk]
    have fin:∀b:Bool,b=relR K g ds x.id y.id→∀x' y',t.rs[i]?=some x'→t.rs[k]?=some y'→b=relR K g ds x'.id y'.id:=λb hb x' y' hx' hy'=>by
     rw[hx]at hx';cases hx'
     rw[hy]at hy';cases hy';exact hb
    have r1:=rng24 (a:=i) (by omega)
    have r2:=rng24 (a:=k) (by omega)
    refine⟨⟨λe=>⟨r2,r1,by omega,λz hz=>?_⟩,λe=>⟨λe'=>⟨r1,r2,by omega,λz hz=>?_⟩,λe'=>?_⟩⟩,?_⟩
    ·cases hz
     have e:=eq_of_beq e
     refine⟨λw=>fin _ (by simp[relR_eq,w,e]),λw=>⟨λe'=>?_,λe'=>fin _ (by simp[relR_eq,w,e])⟩⟩
     have:=eq_of_beq e';omega
    ·cases hz
     exact fin _ (by simp[relR_eq,e,e'])
    ·have e:=ne_of_beq_false e
     have e':=ne_of_beq_false e'
     omega
    ·intro b hb
     have hb:=hb x y hx hy
     subst hb
     obtain⟨v,hv,v0,v1,v2,v3⟩:=hD2.el i x hx
     obtain⟨u,hu,u0,u1,u2,u3⟩:=hD2.el k y hy
     have ple:=hO.le y (List.mem_of_getElem? hy)
     have hl2:=hD2.ln
     refine⟨λe=>⟨by rw[hl2,hnn];exact rngL di,by omega,λv' hv'=>⟨by rw[hl2,hnn];exact rngL dk,by omega,λu' hu'=>⟨by rw[hl2,hnn];exact rngL di,by omega,λo ho=>⟨⟨k+1,rfl,by omega,⟨?_,?_⟩⟩,by omega⟩⟩⟩⟩,λe=>⟨⟨k+1,rfl,by omega,hD2,λq x' y' hq hy' hx' hr=>?_⟩,by omega⟩⟩
     ·refine⟨by rw[List.length_set];exact hl2,λp x' hx'=>?_⟩
      rw[hv]at hv';cases hv'
      rw[hu]at hu';cases hu'
      rw[W_eq (show _ by omega)]
      obtain⟨m1,m2,m3⟩:=maxI_le v (u+1)
      have:=hO.up _ _ e
      by_cases e3:i=p
      ·subst e3
       rw[hx]at hx';cases hx'
       rw[List.getElem?_set,if_pos rfl,if_pos (by omega)]
       exact⟨_,rfl,by omega,by omega,by omega,λq=>by omega⟩
      ·rw[List.getElem?_set,if_neg e3]
       exact hD2.el p x' hx'
     ·intro q x' y' hq hy' hx' hr
      rw[hx]at hx';cases hx'
      rw[hv]at hv';cases hv'
      rw[hu]at hu';cases hu'
      rw[W_eq (show _ by omega)]
      obtain⟨m1,m2,m3⟩:=maxI_le v (u+1)
      rw[List.getElem?_set,if_pos rfl,if_pos (by omega)]
      refine⟨_,rfl,?_⟩
      by_cases e3:q=k
      ·subst e3
       rw[hy]at hy';cases hy'
       omega
      ·obtain⟨v2,hv2,hh⟩:=hB q x y' (by omega) hy' hx hr
       rw[hv]at hv2;cases hv2
       omega
     ·by_cases e3:q=k
      ·subst e3
       rw[hx]at hx';cases hx'
       rw[hy]at hy';cases hy'
       rw[hr]at e;cases e
      ·exact hB q x' y' (by omega) hy' hx' hr
   ·have dk:k=a:=by omega
    subst dk
    rw[wS i di]
    refine⟨⟨i+1,rfl,by omega,⟨hD2.ln,λp x' hx'=>?_⟩⟩,by omega⟩
    obtain⟨v,hv,v0,v1,v2,v3⟩:=hD2.el p x' hx'
    refine⟨v,hv,v0,v1,v2,λhp=>?_⟩
    by_cases e3:p=i
    ·subst e3
     rcases hO.att x'.id with e|⟨_,hr,e,r,hr2,rfl⟩
     ·omega
     ·obtain⟨q,hq⟩:=List.mem_iff_getElem?.mp hr2
      obtain⟨v',hv',hh⟩:=hB q x' r (by have:=lt_of_get hq;omega) hq hx' hr
      rw[hv]at hv';cases hv'
      omega
    ·exact v3 (by omega)
  ·have di:i=a:=by omega
   subst di
   rw[wS m d]
   refine⟨⟨m+1,rfl,by omega,⟨hD1.ln,λp x' hx'=>?_⟩⟩,by omega⟩
   obtain⟨v,hv,v0,v1,v2,v3⟩:=hD1.el p x' hx'
   have:=v3 (by have:=lt_of_get hx';omega)
   exact⟨v,hv,v0,v1,by omega,by omega⟩
 have d:m=a:=by omega
 subst d
 refine⟨⟨0,rfl,by omega,rfl⟩,?_⟩
 rintro⟨_,out⟩ ⟨k,rfl,hk,hout⟩
 simp only[Int.toNat_natCast]at hout ⊢
 refine⟨λd=>⟨by omega,by omega,λx hx=>?_⟩,λd=>?_⟩
 ·have d:k<m:=by omega
  obtain⟨v,hv,v0,v1,v2,_⟩:=hD0.el k x hx
  have ple:=hO.le x (List.mem_of_getElem? hx)
  have hl:=hD0.ln
  rw[wS k d]
  refine⟨by rw[hl,hnn];exact rngL d,by omega,λv' hv'=>?_⟩
  rw[hv]at hv';cases hv'
  have hol:out.length≤k:=by rw[hout,List.length_map,List.length_take];omega
  refine⟨by omega,⟨k+1,rfl,by omega,?_⟩,by omega⟩
  rw[take_succ hx,hout,List.map_append]
  have:v=P x.id:=by omega
  rw[this];rfl
 ·rw[hout,List.take_of_length_le (by omega)]
def rnk18_c(t:Tpl)(c:Chg):PC Tryz.prog:=⟨13,[(.a [(.s 2),(.s 5)]),.k],[.agg [.sl 2 (t.rs.map Rtr.v) false,.sl 5 (t.ls.map Lnk.v) false],.agg [.int c.a,.int c.b,.int c.ca,.int c.cb]],rnk18_e (rnkR t c,(redT t c).2.2.2),PSpec.of_ok λok=>(rnk18_p t c ok).elim λI0 h=>h.elim λI1 h=>h.elim λm1 h=>h.elim λI2 h=>h.elim λm2 h=>h.elim λI3 h=>h.elim λm3 h=>h.elim λI4 h=>h.elim λm4 h=>h.elim λI5 h=>h.elim λm5 h=>h.elim λI6 h=>h.elim λI7 h=>h.elim λm7 h=>mxP_of (sh:=(.a [(.s 2),.k])) (enc:=rnk18_e) (a:=(rnk18_x t c I0 I1 m1 I2 m2 I3 m3 I4 m4 I5 m5 I6 I7 m7).an) h (by kernel_rfl) (AV.pureB_ok rfl),fnB_ok (by kernel_rfl)⟩
def chg0(L:List Int)(p:Nat)(k:Int):Chg×Nat:=
 (⟨W (1+Mod (rawV L p) k),W (1+Mod (rawV L (rawP L p)) k),rng L (rawP L (rawP L p)) 1 6,rng L (rawP L (rawP L (rawP L p))) 1 6⟩,rawP L (rawP L (rawP L (rawP L p))))
def chgS(L:List Int)(p:Nat)(l:Lnk):Chg×Nat:=
 if Mod (rawV L p) 6=0 then(⟨l.a,l.b,0,0⟩,rawP L p)
 else if Mod (rawV L p) 6=1 then(⟨l.a,l.b,W (l.ca+rng L (rawP L p) 1 4),l.cb⟩,rawP L (rawP L p))
 else if Mod (rawV L p) 6=2 then(⟨l.a,l.b,W (l.ca+rng L (rawP L p) 0 4),W (l.cb+rng L (rawP L (rawP L p)) 0 4)⟩,rawP L (rawP L (rawP L p)))
 else if Mod (rawV L p) 6=3 then(⟨l.a,l.b,rng L (rawP L p) 1 l.ca,rng L (rawP L (rawP L p)) 1 l.cb⟩,rawP L (rawP L (rawP L p)))
 else if Mod (rawV L p) 6=4 then(⟨l.b,l.a,W (l.cb+Mod (rawV L (rawP L p)) 3),W (l.ca+Mod (rawV L (rawP L (rawP L p))) 3)⟩,rawP L (rawP L (rawP L p)))
 else(⟨l.a,l.b,l.ca,1⟩,rawP L p)
def chg1(L:List Int)(p:Nat)(g:Tpl):Chg×Nat:=
 if 0<g.ls.length then
  (if 0<Mod (rawV L (chg0 L p g.rs.length).2) 4 then
   (match g.ls[(Mod (rawV L (rawP L (chg0 L p g.rs.length).2)) g.ls.length).toNat]? with
    | some l=>chgS L (rawP L (rawP L (chg0 L p g.rs.length).2)) l
    | none=>((chg0 L p g.rs.length).1,0))
   else((chg0 L p g.rs.length).1,rawP L (chg0 L p g.rs.length).2))
 else chg0 L p g.rs.length
def chgN(L:List Int)(p:Nat)(c:Chg):Chg×Nat:=
 if Mod (rawV L p) 4=0 then(⟨Mod (rawV L (rawP L p)) 9,c.b,c.ca,c.cb⟩,rawP L (rawP L p))
 else if Mod (rawV L p) 4=1 then(⟨c.a,c.a,c.ca,c.cb⟩,rawP L p)
 else if Mod (rawV L p) 4=2 then(⟨c.a,c.b,wldT L (rawP L p),c.cb⟩,rawP L (rawP L p))
 else(⟨c.a,c.b,0,Mod (rawV L (rawP L p)) 2⟩,rawP L (rawP L p))
def chgM(L:List Int)(p:Nat)(g:Tpl)(n:Int):Chg×Nat:=
 if 0<n then
  (if oneT L (chg1 L p g).2 n=true then chgN L (rawP L (chg1 L p g).2) (chg1 L p g).1 else((chg1 L p g).1,rawP L (chg1 L p g).2))
 else chg1 L p g
def chgM_a(L:(List Int))(p:Nat)(g:Tpl)(n:Int):Prop:=okL [.ref 0 0,.agg [.sl 2 (g.rs.map Rtr.v) false,.sl 5 (g.ls.map Lnk.v) false],.int n]∧(.box (.agg [.sl 1 (L.map AV.int) false,.int ((p:Nat):Int)]):Blk).ok
def chgM_n0(L:(List Int))(n:Int)(t0:Chg×Nat):NF:=⟨[(0,.k,.ref 0 0),(2,.k,.int n),(6,.k,.ref 1 0),(8,.k,.ref 2 0)],[.box (.agg [.sl 1 (L.map AV.int) false,.int ((t0.2:Nat):Int)]),.box (.agg [.int 0,.int 0,.int 0,.int 0]),.box (.agg [.int t0.1.a,.int t0.1.b,.int t0.1.ca,.int t0.1.cb])]⟩
def chgM_n1(L:(List Int))(p:Nat)(g:Tpl)(n:Int)(t1:Bool×Nat):NF:=⟨[(0,.k,.ref 0 0),(2,.k,.int n),(4,.k,.ref 1 0),(6,.k,.ref 2 0),(8,.k,.ref 3 0),(34,.k,.bool t1.1)],[.box (.agg [.sl 1 (L.map AV.int) false,.int ((t1.2:Nat):Int)]),.box (.agg [.sl 2 (g.rs.map Rtr.v) false,.sl 5 (g.ls.map Lnk.v) false]),.box (.agg [.int 0,.int 0,.int 0,.int 0]),.box (.agg [.int (W (1+(Mod (rawV L p) ((g.rs.map Rtr.v).length:Int)))),.int (W (1+(Mod (rawV L (rawP L p)) ((g.rs.map Rtr.v).length:Int)))),.int (rng L (rawP L (rawP L p)) 1 6),.int (rng L (rawP L (rawP L (rawP L p))) 1 6)])]⟩
def chgM_n2(L:(List Int))(t0:Chg×Nat)(t2:Bool×Nat):NF:=⟨[(0,.k,.ref 0 0),(6,.k,.ref 1 0),(8,.k,.ref 2 0),(117,.k,.bool t2.1)],[.box (.agg [.sl 1 (L.map AV.int) false,.int ((t2.2:Nat):Int)]),.box (.agg [.int 0,.int 0,.int 0,.int 0]),.box (.agg [.int t0.1.a,.int t0.1.b,.int t0.1.ca,.int t0.1.cb])]⟩
@[reducible] def chgM_s:Nat→Type
 | 0=>Chg×Nat
 | 1=>Bool×Nat
 | 2=>Bool×Nat
 | _=>Unit
def chgM_e(r:Tap×Chg):AV:=.agg [.int r.2.a,.int r.2.b,.int r.2.ca,.int r.2.cb]
def chgM_b(r:Tap×Chg):List (Option Blk):=[some (.box (.agg [.sl 1 (r.1.L.map AV.int) false,.int ((r.1.p:Nat):Int)]))]
def chgM_x(L:(List Int))(p:Nat)(g:Tpl)(n:Int)(I0:(Chg×Nat)→Prop)(I1:(Bool×Nat)→Prop)(I2:Chg×Nat→(Bool×Nat)→Prop):Ax Tryz.prog chgM_s (Tap×Chg):=
 (.callH [0] (nxtM_h L p ((g.rs.map Rtr.v).length:Int)) 129
(.callH [0] (nxtM_h L (rawP L p) ((g.rs.map Rtr.v).length:Int)) 193
(.callH [0] (rngM_h L (rawP L (rawP L p)) 1 6) 241
(.callH [0] (rngM_h L (rawP L (rawP L (rawP L p))) 1 6) 273
(.join 0 (chgM_n0 L n) (λ(t0:Chg×Nat)=>I0 t0) (λb0=>(.join 1 (chgM_n1 L p g n) (λ(t1:Bool×Nat)=>I1 t1) (λb1=>(.br 417 (decide (0<((g.ls.map Lnk.v).length:Int))) (.callH [0] (nxtM_h L (rawP L (rawP L (rawP L (rawP L p)))) 4) 433
(.bk 1 b1 (decide (0<(Mod (rawV L (rawP L (rawP L (rawP L (rawP L p))))) 4)),rawP L (rawP L (rawP L (rawP L (rawP L p))))) [0,1,17,305]))
(.bk 1 b1 (false,rawP L (rawP L (rawP L (rawP L p)))) [0,1,17,305]))) λ(t1:Bool×Nat) =>
(.br 4 t1.1 (.callH [0] (nxtM_h L t1.2 ((g.ls.map Lnk.v).length:Int)) 100
(.elI 116 Lnk.v g.ls (Mod (rawV L t1.2) ((g.ls.map Lnk.v).length:Int)) λx1 =>
(.callH [0] (nxtM_h L (rawP L t1.2) 6) 356
(.br 404 ((Mod (rawV L (rawP L t1.2)) 6)==0) (.bk 0 b0 ((⟨x1.a,x1.b,0,0⟩:Chg),rawP L (rawP L t1.2)) [0,2,3])
(.br 436 ((Mod (rawV L (rawP L t1.2)) 6)==1) (.callH [0] (rngM_h L (rawP L (rawP L t1.2)) 1 4) 484
(.bk 0 b0 ((⟨x1.a,x1.b,W (x1.ca+(rng L (rawP L (rawP L t1.2)) 1 4)),x1.cb⟩:Chg),rawP L (rawP L (rawP L t1.2))) [0,2,3]))
(.br 468 ((Mod (rawV L (rawP L t1.2)) 6)==2) (.callH [0] (rngM_h L (rawP L (rawP L t1.2)) 0 4) 516
(.callH [0] (rngM_h L (rawP L (rawP L (rawP L t1.2))) 0 4) 596
(.bk 0 b0 ((⟨x1.a,x1.b,W (x1.ca+(rng L (rawP L (rawP L t1.2)) 0 4)),W (x1.cb+(rng L (rawP L (rawP L (rawP L t1.2))) 0 4))⟩:Chg),rawP L (rawP L (rawP L (rawP L t1.2)))) [0,2,3])))
(.br 500 ((Mod (rawV L (rawP L t1.2)) 6)==3) (.callH [0] (rngM_h L (rawP L (rawP L t1.2)) 1 x1.ca) 548
(.callH [0] (rngM_h L (rawP L (rawP L (rawP L t1.2))) 1 x1.cb) 612
(.bk 0 b0 ((⟨x1.a,x1.b,rng L (rawP L (rawP L t1.2)) 1 x1.ca,rng L (rawP L (rawP L (rawP L t1.2))) 1 x1.cb⟩:Chg),rawP L (rawP L (rawP L (rawP L t1.2)))) [0,2,3])))
(.br 532 ((Mod (rawV L (rawP L t1.2)) 6)==4) (.callH [0] (nxtM_h L (rawP L (rawP L t1.2)) 3) 644
(.callH [0] (nxtM_h L (rawP L (rawP L (rawP L t1.2))) 3) 724
(.bk 0 b0 ((⟨x1.b,x1.a,W (x1.cb+(Mod (rawV L (rawP L (rawP L t1.2))) 3)),W (x1.ca+(Mod (rawV L (rawP L (rawP L (rawP L t1.2)))) 3))⟩:Chg),rawP L (rawP L (rawP L (rawP L t1.2)))) [0,2,3])))
(.bk 0 b0 ((⟨x1.a,x1.b,x1.ca,1⟩:Chg),rawP L (rawP L t1.2)) [0,2,3])))))))))
(.bk 0 b0 ((⟨W (1+(Mod (rawV L p) ((g.rs.map Rtr.v).length:Int))),W (1+(Mod (rawV L (rawP L p)) ((g.rs.map Rtr.v).length:Int))),rng L (rawP L (rawP L p)) 1 6,rng L (rawP L (rawP L (rawP L p))) 1 6⟩:Chg),t1.2) [0,2,3])))) λ(t0:Chg×Nat) =>
(.pass (.join 2 (chgM_n2 L t0) (λ(t2:Bool×Nat)=>I2 t0 t2) (λb2=>(.br 51 (decide (0<n)) (.callH [0] (oneM_h L t0.2 n) 83
(.bk 2 b2 (oneT L t0.2 n,rawP L t0.2) [0,1,2]))
(.bk 2 b2 (false,t0.2) [0,1,2]))) λ(t2:Bool×Nat) =>
(.br 3 t2.1 (.callH [0] (nxtM_h L t2.2 4) 19
(.br 67 ((Mod (rawV L t2.2) 4)==0) (.callH [0] (nxtM_h L (rawP L t2.2) 9) 83
(.retH ((⟨L,rawP L (rawP L t2.2)⟩:Tap),(⟨Mod (rawV L (rawP L t2.2)) 9,t0.1.b,t0.1.ca,t0.1.cb⟩:Chg)) ⟨[(6,.k,.ref 1 0)],[.box (.agg [.sl 1 (L.map AV.int) false,.int (((rawP L (rawP L t2.2)):Nat):Int)]),.box (.agg [.int (Mod (rawV L (rawP L t2.2)) 9),.int t0.1.b,.int t0.1.ca,.int t0.1.cb])]⟩ [0,1]))
(.br 99 ((Mod (rawV L t2.2) 4)==1) (.retH ((⟨L,rawP L t2.2⟩:Tap),(⟨t0.1.a,t0.1.a,t0.1.ca,t0.1.cb⟩:Chg)) ⟨[(6,.k,.ref 1 0)],[.box (.agg [.sl 1 (L.map AV.int) false,.int (((rawP L t2.2):Nat):Int)]),.box (.agg [.int t0.1.a,.int t0.1.a,.int t0.1.ca,.int t0.1.cb])]⟩ [0,1])
(.br 131 ((Mod (rawV L t2.2) 4)==2) (.callH [0] (wldM_h L (rawP L t2.2)) 147
(.retH ((⟨L,rawP L (rawP L t2.2)⟩:Tap),(⟨t0.1.a,t0.1.b,wldT L (rawP L t2.2),t0.1.cb⟩:Chg)) ⟨[(6,.k,.ref 1 0)],[.box (.agg [.sl 1 (L.map AV.int) false,.int (((rawP L (rawP L t2.2)):Nat):Int)]),.box (.agg [.int t0.1.a,.int t0.1.b,.int (wldT L (rawP L t2.2)),.int t0.1.cb])]⟩ [0,1]))
(.callH [0] (nxtM_h L (rawP L t2.2) 2) 147
(.retH ((⟨L,rawP L (rawP L t2.2)⟩:Tap),(⟨t0.1.a,t0.1.b,0,Mod (rawV L (rawP L t2.2)) 2⟩:Chg)) ⟨[(6,.k,.ref 1 0)],[.box (.agg [.sl 1 (L.map AV.int) false,.int (((rawP L (rawP L t2.2)):Nat):Int)]),.box (.agg [.int t0.1.a,.int t0.1.b,.int 0,.int (Mod (rawV L (rawP L t2.2)) 2)])]⟩ [0,1]))))))
(.retH ((⟨L,t2.2⟩:Tap),t0.1) ⟨[(6,.k,.ref 1 0)],[.box (.agg [.sl 1 (L.map AV.int) false,.int ((t2.2:Nat):Int)]),.box (.agg [.int t0.1.a,.int t0.1.b,.int t0.1.ca,.int t0.1.cb])]⟩ [0,1])))))))))
def chgM_vc(L:(List Int))(p:Nat)(g:Tpl)(n:Int)(I0:(Chg×Nat)→Prop)(I1:(Bool×Nat)→Prop)(I2:Chg×Nat→(Bool×Nat)→Prop)(r0:Tap×Chg):Prop:=(chgM_x L p g n I0 I1 I2).vc chgM_e chgM_b r0
theorem chgM_p(L:List Int)(p:Nat)(g:Tpl)(n:Int)(ok:chgM_a L p g n):∃I0 I1 I2,chgM_vc L p g n I0 I1 I2 ((⟨L,(chgM L p g n).2⟩:Tap),(chgM L p g n).1):=by
 refine⟨λs=>s=chg1 L p g,λu=>u=(decide (0<g.ls.length∧0<Mod (rawV L (chg0 L p g.rs.length).2) 4),if 0<g.ls.length then rawP L (chg0 L p g.rs.length).2 else(chg0 L p g.rs.length).2),λs u=>u=(decide (0<n∧oneT L s.2 n=true),if 0<n then rawP L s.2 else s.2),?_⟩
 simp only[chgM_a,okU,Blk.ok,plainV,List.length_map]at ok
 dsimp only[chgM_vc,chgM_x,chgM_s,Ax.vp,Ax.vc];simp only[vcU,rfU,List.length_map]
 have e0:(chg0 L p g.rs.length).2=rawP L (rawP L (rawP L (rawP L p))):=rfl
 refine⟨⟨⟨λc=>?_,λc=>?_⟩,?_⟩,?_⟩
 ·have c:0<g.ls.length:=by omega
  rw[e0,if_pos c]
  congr 1
  rw[decide_eq_decide];exact⟨λh=>⟨c,h⟩,λh=>h.2⟩
 ·have c:¬0<g.ls.length:=by omega
  rw[e0,if_neg c]
  congr 1
  rw[eq_comm,decide_eq_false_iff_not];exact λh=>c h.1
 ·rintro _ rfl
  simp only
  refine⟨λc=>?_,λc=>?_⟩
  ·obtain⟨c1,c2⟩:=of_decide_eq_true c
   rw[if_pos c1]
   have hm:=Mod_range (x:=rawV L (rawP L (chg0 L p g.rs.length).2)) (show 1≤(g.ls.length:Int) by omega)
   refine⟨hm.1,hm.2,λx hx=>?_⟩
   have e:chg1 L p g=chgS L (rawP L (rawP L (chg0 L p g.rs.length).2)) x:=by unfold chg1;rw[if_pos c1,if_pos c2,hx]
   rw[e]
   unfold chgS
   refine⟨λd=>by rw[if_pos (eq_of_beq d)],λd=>?_⟩
   rw[if_neg (by simpa using d)]
   refine⟨λd=>by rw[if_pos (eq_of_beq d)],λd=>?_⟩
   rw[if_neg (by simpa using d)]
   refine⟨λd=>by rw[if_pos (eq_of_beq d)],λd=>?_⟩
   rw[if_neg (by simpa using d)]
   refine⟨λd=>by rw[if_pos (eq_of_beq d)],λd=>?_⟩
   rw[if_neg (by simpa using d)]
   exact⟨λd=>by rw[if_pos (eq_of_beq d)],λd=>by rw[if_neg (by simpa using d)]⟩
  ·have c:=of_decide_eq_false c
   unfold chg1
   by_cases c1:0<g.ls.length
   ·rw[if_pos c1,if_pos c1,if_neg (λh=>c ⟨c1,h⟩)];rfl
   ·rw[if_neg c1,if_neg c1];rfl
 ·rintro _ rfl
  refine⟨⟨λc=>?_,λc=>?_⟩,?_⟩
  ·rw[if_pos c];simp[c]
  ·rw[if_neg c];simp[c]
  rintro _ rfl
  simp only
  unfold chgM
  refine⟨λc=>?_,λc=>?_⟩
  ·obtain⟨c1,c2⟩:=of_decide_eq_true c
   rw[if_pos c1,if_pos c1,if_pos c2]
   unfold chgN
   refine⟨λd=>by rw[if_pos (eq_of_beq d)],λd=>?_⟩
   rw[if_neg (by simpa using d)]
   refine⟨λd=>by rw[if_pos (eq_of_beq d)],λd=>?_⟩
   rw[if_neg (by simpa using d)]
   exact⟨λd=>by rw[if_pos (eq_of_beq d)],λd=>by rw[if_neg (by simpa using d)]⟩
  ·have c:=of_decide_eq_false c
   by_cases c1:0<n
   ·rw[if_pos c1,if_pos c1,if_neg (λh=>c ⟨c1,h⟩)]
   ·rw[if_neg c1,if_neg c1]
def chgM_h(L:(List Int))(p:Nat)(g:Tpl)(n:Int):HC Tryz.prog:=⟨9,[.k,(.a [(.s 2),(.s 5)]),.k],[.ref 0 0,.agg [.sl 2 (g.rs.map Rtr.v) false,.sl 5 (g.ls.map Lnk.v) false],.int n],[.box (.agg [.sl 1 (L.map AV.int) false,.int ((p:Nat):Int)])],chgM_e ((⟨L,(chgM L p g n).2⟩:Tap),(chgM L p g n).1),chgM_b ((⟨L,(chgM L p g n).2⟩:Tap),(chgM L p g n).1),HSpec.of_okh λok ok2=>have ok:chgM_a L p g n:=⟨ok,ok2 _ (by simp)⟩;(chgM_p L p g n ok).elim λI0 h=>h.elim λI1 h=>h.elim λI2 h=>mxH_of (sh:=.k) (enc:=chgM_e) (hB:=chgM_b) (a:=(chgM_x L p g n I0 I1 I2).an) h (by kernel_rfl),fnB_ok (by kernel_rfl),HcOk.of (by simp[hcB,belBL,AV.belB,allB,okBk,okBkO,chgM_e,chgM_b,pureBL_map (v:=AV.int) (λ_=>rfl),pureBL_map (v:=Lnk.v) (λ_=>rfl),pureBL_map (v:=Rtr.v) (λ_=>rfl)])⟩
def alwQ(ch:List Int)(x y:Rnk):Bool:=decide (x.n<y.n) && (!(decide (x.r∈ch)) && decide (y.r∈ch))
def alwT(l:List Rnk)(ch:List Int):Bool:=l.all λx=>l.all λy=>!(alwQ ch x y)
def alwP_a(l:(List Rnk))(changed:(List Int)):Prop:=okL [.sl 2 (l.map Rnk.v) false,.sl 1 (changed.map AV.int) false]
def alwP_n0(l:(List Rnk))(changed:(List Int))(t0:Int):NF:=⟨[(0,.k,.sl 2 (l.map Rnk.v) false),(1,.k,.sl 1 (changed.map AV.int) false),(9,.k,.sl 2 (l.map Rnk.v) false),(10,.k,.int ((l.map Rnk.v).length:Int)),(11,.k,.int t0)],[]⟩
def alwP_n1(l:(List Rnk))(changed:(List Int))(t0:Int)(x1:Rnk)(t1:Int):NF:=⟨[(0,.k,.sl 2 (l.map Rnk.v) false),(1,.k,.sl 1 (changed.map AV.int) false),(6,.k,.ref 0 0),(9,.k,.sl 2 (l.map Rnk.v) false),(10,.k,.int ((l.map Rnk.v).length:Int)),(11,.k,.int t0),(15,.k,.sl 2 (l.map Rnk.v) false),(16,.k,.int ((l.map Rnk.v).length:Int)),(17,.k,.int t1)],[.box (.agg [.int x1.r,.int x1.n])]⟩
def alwP_n2(l:(List Rnk))(changed:(List Int))(t0:Int)(x1:Rnk)(t1:Int)(t2:Bool):NF:=⟨[(0,.k,.sl 2 (l.map Rnk.v) false),(1,.k,.sl 1 (changed.map AV.int) false),(6,.k,.ref 0 0),(9,.k,.sl 2 (l.map Rnk.v) false),(10,.k,.int ((l.map Rnk.v).length:Int)),(11,.k,.int t0),(15,.k,.sl 2 (l.map Rnk.v) false),(16,.k,.int ((l.map Rnk.v).length:Int)),(17,.k,.int t1),(38,.k,.bool t2)],[.box (.agg [.int x1.r,.int x1.n])]⟩
@[reducible] def alwP_s:Nat→Type
 | 0=>Int
 | 1=>Int
 | 2=>Bool
 | _=>Unit
def alwP_e(r:Bool):AV:=.bool r
def alwP_x(l:(List Rnk))(changed:(List Int))(I0:Int→Prop)(m0:Int→Nat)(I1:Int→Rnk→Int→Prop)(m1:Int→Rnk→Int→Nat)(I2:Int→Rnk→Int→Rnk→Bool→Prop):Ax Tryz.prog alwP_s (Bool):=
 (.loop 0 (alwP_n0 l changed) I0 m0 ((0):Int) [] λ(t0:Int) b0 =>
(.br 16 (decide (t0<((l.map Rnk.v).length:Int))) (.elI 16 Rnk.v l t0 λx1 =>
(.loop 1 (alwP_n1 l changed t0 x1) (I1 t0 x1) (m1 t0 x1) ((0):Int) [48] λ(t1:Int) b1 =>
(.br 17 (decide (t1<((l.map Rnk.v).length:Int))) (.elI 17 Rnk.v l t1 λx2 =>
(.join 2 (alwP_n2 l changed t0 x1 t1) (λ(t2:Bool)=>I2 t0 x1 t1 x2 t2) (λb2=>(.br 177 (decide (x1.n<x2.n)) (.callP (contI_c changed x1.r)
(.br 289 (!(decide (x1.r∈changed))) (.callP (contI_c changed x2.r)
(.bk 2 b2 ((decide (x2.r∈changed)):Bool) [0]))
(.bk 2 b2 ((false):Bool) [0])))
(.bk 2 b2 ((false):Bool) [0]))) λ(t2:Bool) =>
(.br 1 t2 (.ret (false))
(.bk 1 b1 ((W (t1+1)):Int) [0]))))
(.bk 0 b0 ((W (t0+1)):Int) []))))
(.ret (true))))
def alwP_vc(l:(List Rnk))(changed:(List Int))(I0:Int→Prop)(m0:Int→Nat)(I1:Int→Rnk→Int→Prop)(m1:Int→Rnk→Int→Nat)(I2:Int→Rnk→Int→Rnk→Bool→Prop)(r0:Bool):Prop:=(alwP_x l changed I0 m0 I1 m1 I2).vp alwP_e r0
theorem alwP_p(l:List Rnk)(ch:List Int)(h:l.length≤1000000)(ok:alwP_a l ch):∃I0 m0 I1 m1 I2,alwP_vc l ch I0 m0 I1 m1 I2 (alwT l ch):=by
 refine⟨λi=>ForI l (λx=>(l.all λy=>!(alwQ ch x y))=true) i,λi=>l.length-i.toNat,λ_ x i=>ForI l (λy=>alwQ ch x y=false) i,λ_ _ i=>l.length-i.toNat,λ_ x _ y b=>b=alwQ ch x y,?_⟩
 simp only[alwP_a,okU,Blk.ok,plainV,List.length_map]at ok
 dsimp only[alwP_vc,alwP_x,alwP_s,Ax.vp,Ax.vc];simp only[vcU,rfU,List.length_map]
 refine⟨ForI.zero,λi hi=>⟨λc=>⟨hi.idx,c,λx hx=>⟨ForI.zero,λj hj=>⟨λd=>⟨hj.idx,d,λy hy=>⟨⟨λe=>⟨λe2=>?_,λe2=>?_⟩,λe=>?_⟩,?_⟩⟩,λd=>?_⟩⟩⟩,λc=>?_⟩⟩
 ·unfold alwQ;rw[decide_eq_true e,e2];rfl
 ·unfold alwQ;rw[e2];simp
 ·unfold alwQ;rw[decide_eq_false e];rfl
 ·rintro _ rfl
  refine⟨λe=>?_,λe=>hj.step (by omega) hy e⟩
  refine(Bool.eq_false_iff.mpr λq=>?_).symm
  unfold alwT at q
  have:=List.all_eq_true.mp (List.all_eq_true.mp q x (at_mem hx)) y (at_mem hy)
  rw[e]at this;cases this
 ·exact hi.step (by omega) hx (List.all_eq_true.mpr λy hy=>by rw[hj.done d y hy];rfl)
 ·exact(List.all_eq_true.mpr λx hx=>hi.done c x hx).symm
def alwP_c(l:(List Rnk))(changed:(List Int))(h:l.length≤1000000):PC Tryz.prog:=⟨55,[(.s 2),(.s 1)],[.sl 2 (l.map Rnk.v) false,.sl 1 (changed.map AV.int) false],alwP_e (alwT l changed),PSpec.of_ok λok=>(alwP_p l changed h ok).elim λI0 h=>h.elim λm0 h=>h.elim λI1 h=>h.elim λm1 h=>h.elim λI2 h=>mxP_of (sh:=.k) (enc:=alwP_e) (a:=(alwP_x l changed I0 m0 I1 m1 I2).an) h (by kernel_rfl) (AV.pureB_ok rfl),fnB_ok (by kernel_rfl)⟩
def T18:Tpl:=⟨[⟨1,true⟩,⟨2,true⟩,⟨3,true⟩,⟨4,true⟩],[⟨1,2,1,1,0⟩,⟨1,3,1,1,0⟩,⟨1,4,1,1,0⟩,⟨2,3,1,1,0⟩]⟩
theorem T18_red:(redT T18 ⟨1,2,0,0⟩).1=1∧(redT T18 ⟨1,2,0,0⟩).2.2.2=0:=⟨by kernel_rfl,by kernel_rfl⟩
theorem T18_rnk:rnkR T18 ⟨1,2,0,0⟩=[⟨1,1⟩,⟨2,0⟩,⟨3,0⟩,⟨4,0⟩]:=by kernel_rfl
def awk18_a:Prop:=okL []
def awk18_e(r:Bool):AV:=.bool r
def awk18_x:Ax Tryz.prog noS (Bool):=
 (.callP (ranks_c (⟨[(⟨1,true⟩:Rtr),(⟨2,true⟩:Rtr),(⟨3,true⟩:Rtr),(⟨4,true⟩:Rtr)],[(⟨1,2,1,1,0⟩:Lnk),(⟨1,3,1,1,0⟩:Lnk),(⟨1,4,1,1,0⟩:Lnk),(⟨2,3,1,1,0⟩:Lnk)]⟩:Tpl) (⟨1,2,0,0⟩:Chg))
(.callP (kndP_c (⟨[(⟨1,true⟩:Rtr),(⟨2,true⟩:Rtr),(⟨3,true⟩:Rtr),(⟨4,true⟩:Rtr)],[(⟨1,2,1,1,0⟩:Lnk),(⟨1,3,1,1,0⟩:Lnk),(⟨1,4,1,1,0⟩:Lnk),(⟨2,3,1,1,0⟩:Lnk)]⟩:Tpl) (⟨1,2,0,0⟩:Chg))
(.br 528 (((redT (⟨[(⟨1,true⟩:Rtr),(⟨2,true⟩:Rtr),(⟨3,true⟩:Rtr),(⟨4,true⟩:Rtr)],[(⟨1,2,1,1,0⟩:Lnk),(⟨1,3,1,1,0⟩:Lnk),(⟨1,4,1,1,0⟩:Lnk),(⟨2,3,1,1,0⟩:Lnk)]⟩:Tpl) (⟨1,2,0,0⟩:Chg)).2.2.2)==0) (.br 592 (((redT (⟨[(⟨1,true⟩:Rtr),(⟨2,true⟩:Rtr),(⟨3,true⟩:Rtr),(⟨4,true⟩:Rtr)],[(⟨1,2,1,1,0⟩:Lnk),(⟨1,3,1,1,0⟩:Lnk),(⟨1,4,1,1,0⟩:Lnk),(⟨2,3,1,1,0⟩:Lnk)]⟩:Tpl) (⟨1,2,0,0⟩:Chg)).2.2.2)==0) (.br 656 (((redT (⟨[(⟨1,true⟩:Rtr),(⟨2,true⟩:Rtr),(⟨3,true⟩:Rtr),(⟨4,true⟩:Rtr)],[(⟨1,2,1,1,0⟩:Lnk),(⟨1,3,1,1,0⟩:Lnk),(⟨1,4,1,1,0⟩:Lnk),(⟨2,3,1,1,0⟩:Lnk)]⟩:Tpl) (⟨1,2,0,0⟩:Chg)).1)==1) (.br 736 ((((rnkR (⟨[(⟨1,true⟩:Rtr),(⟨2,true⟩:Rtr),(⟨3,true⟩:Rtr),(⟨4,true⟩:Rtr)],[(⟨1,2,1,1,0⟩:Lnk),(⟨1,3,1,1,0⟩:Lnk),(⟨1,4,1,1,0⟩:Lnk),(⟨2,3,1,1,0⟩:Lnk)]⟩:Tpl) (⟨1,2,0,0⟩:Chg)).map Rnk.v).length:Int)==4) (.el 752 Rnk.v (rnkR (⟨[(⟨1,true⟩:Rtr),(⟨2,true⟩:Rtr),(⟨3,true⟩:Rtr),(⟨4,true⟩:Rtr)],[(⟨1,2,1,1,0⟩:Lnk),(⟨1,3,1,1,0⟩:Lnk),(⟨1,4,1,1,0⟩:Lnk),(⟨2,3,1,1,0⟩:Lnk)]⟩:Tpl) (⟨1,2,0,0⟩:Chg)) (λR=>Rf ((rnkR (⟨[(⟨1,true⟩:Rtr),(⟨2,true⟩:Rtr),(⟨3,true⟩:Rtr),(⟨4,true⟩:Rtr)],[(⟨1,2,1,1,0⟩:Lnk),(⟨1,3,1,1,0⟩:Lnk),(⟨1,4,1,1,0⟩:Lnk),(⟨2,3,1,1,0⟩:Lnk)]⟩:Tpl) (⟨1,2,0,0⟩:Chg)).map Rnk.v) (ck (decide (0<((rnkR (⟨[(⟨1,true⟩:Rtr),(⟨2,true⟩:Rtr),(⟨3,true⟩:Rtr),(⟨4,true⟩:Rtr)],[(⟨1,2,1,1,0⟩:Lnk),(⟨1,3,1,1,0⟩:Lnk),(⟨1,4,1,1,0⟩:Lnk),(⟨2,3,1,1,0⟩:Lnk)]⟩:Tpl) (⟨1,2,0,0⟩:Chg)).length:Int)))
(∀x1,(rnkR (⟨[(⟨1,true⟩:Rtr),(⟨2,true⟩:Rtr),(⟨3,true⟩:Rtr),(⟨4,true⟩:Rtr)],[(⟨1,2,1,1,0⟩:Lnk),(⟨1,3,1,1,0⟩:Lnk),(⟨1,4,1,1,0⟩:Lnk),(⟨2,3,1,1,0⟩:Lnk)]⟩:Tpl) (⟨1,2,0,0⟩:Chg))[0]?=some x1 →
(R x1)))) λx1 =>
(.br 848 ((x1.r==1) && ((x1.n==1) && true)) (.el 864 Rnk.v (rnkR (⟨[(⟨1,true⟩:Rtr),(⟨2,true⟩:Rtr),(⟨3,true⟩:Rtr),(⟨4,true⟩:Rtr)],[(⟨1,2,1,1,0⟩:Lnk),(⟨1,3,1,1,0⟩:Lnk),(⟨1,4,1,1,0⟩:Lnk),(⟨2,3,1,1,0⟩:Lnk)]⟩:Tpl) (⟨1,2,0,0⟩:Chg)) (λR=>Rf ((rnkR (⟨[(⟨1,true⟩:Rtr),(⟨2,true⟩:Rtr),(⟨3,true⟩:Rtr),(⟨4,true⟩:Rtr)],[(⟨1,2,1,1,0⟩:Lnk),(⟨1,3,1,1,0⟩:Lnk),(⟨1,4,1,1,0⟩:Lnk),(⟨2,3,1,1,0⟩:Lnk)]⟩:Tpl) (⟨1,2,0,0⟩:Chg)).map Rnk.v) (ck (decide (3<((rnkR (⟨[(⟨1,true⟩:Rtr),(⟨2,true⟩:Rtr),(⟨3,true⟩:Rtr),(⟨4,true⟩:Rtr)],[(⟨1,2,1,1,0⟩:Lnk),(⟨1,3,1,1,0⟩:Lnk),(⟨1,4,1,1,0⟩:Lnk),(⟨2,3,1,1,0⟩:Lnk)]⟩:Tpl) (⟨1,2,0,0⟩:Chg)).length:Int)))
(∀x2,(rnkR (⟨[(⟨1,true⟩:Rtr),(⟨2,true⟩:Rtr),(⟨3,true⟩:Rtr),(⟨4,true⟩:Rtr)],[(⟨1,2,1,1,0⟩:Lnk),(⟨1,3,1,1,0⟩:Lnk),(⟨1,4,1,1,0⟩:Lnk),(⟨2,3,1,1,0⟩:Lnk)]⟩:Tpl) (⟨1,2,0,0⟩:Chg))[3]?=some x2 →
(R x2)))) λx2 =>
(.br 960 ((x2.r==4) && ((x2.n==0) && true)) (.req 992 ((rnkR (⟨[(⟨1,true⟩:Rtr),(⟨2,true⟩:Rtr),(⟨3,true⟩:Rtr),(⟨4,true⟩:Rtr)],[(⟨1,2,1,1,0⟩:Lnk),(⟨1,3,1,1,0⟩:Lnk),(⟨1,4,1,1,0⟩:Lnk),(⟨2,3,1,1,0⟩:Lnk)]⟩:Tpl) (⟨1,2,0,0⟩:Chg)).length≤1000000) λh3 =>
(.callP (alwP_c (rnkR (⟨[(⟨1,true⟩:Rtr),(⟨2,true⟩:Rtr),(⟨3,true⟩:Rtr),(⟨4,true⟩:Rtr)],[(⟨1,2,1,1,0⟩:Lnk),(⟨1,3,1,1,0⟩:Lnk),(⟨1,4,1,1,0⟩:Lnk),(⟨2,3,1,1,0⟩:Lnk)]⟩:Tpl) (⟨1,2,0,0⟩:Chg)) [4] h3)
(.br 1040 (alwT (rnkR (⟨[(⟨1,true⟩:Rtr),(⟨2,true⟩:Rtr),(⟨3,true⟩:Rtr),(⟨4,true⟩:Rtr)],[(⟨1,2,1,1,0⟩:Lnk),(⟨1,3,1,1,0⟩:Lnk),(⟨1,4,1,1,0⟩:Lnk),(⟨2,3,1,1,0⟩:Lnk)]⟩:Tpl) (⟨1,2,0,0⟩:Chg)) [4]) (.req 1072 ((rnkR (⟨[(⟨1,true⟩:Rtr),(⟨2,true⟩:Rtr),(⟨3,true⟩:Rtr),(⟨4,true⟩:Rtr)],[(⟨1,2,1,1,0⟩:Lnk),(⟨1,3,1,1,0⟩:Lnk),(⟨1,4,1,1,0⟩:Lnk),(⟨2,3,1,1,0⟩:Lnk)]⟩:Tpl) (⟨1,2,0,0⟩:Chg)).length≤1000000) λh4 =>
(.callP (alwP_c (rnkR (⟨[(⟨1,true⟩:Rtr),(⟨2,true⟩:Rtr),(⟨3,true⟩:Rtr),(⟨4,true⟩:Rtr)],[(⟨1,2,1,1,0⟩:Lnk),(⟨1,3,1,1,0⟩:Lnk),(⟨1,4,1,1,0⟩:Lnk),(⟨2,3,1,1,0⟩:Lnk)]⟩:Tpl) (⟨1,2,0,0⟩:Chg)) [1] h4)
(.ret (!(alwT (rnkR (⟨[(⟨1,true⟩:Rtr),(⟨2,true⟩:Rtr),(⟨3,true⟩:Rtr),(⟨4,true⟩:Rtr)],[(⟨1,2,1,1,0⟩:Lnk),(⟨1,3,1,1,0⟩:Lnk),(⟨1,4,1,1,0⟩:Lnk),(⟨2,3,1,1,0⟩:Lnk)]⟩:Tpl) (⟨1,2,0,0⟩:Chg)) [1])))))
(.ret (false)))))
(.ret (false))))
(.ret (false))))
(.ret (false)))
(.ret (false)))
(.ret (false)))
(.ret (false)))))
def awk18_vc(r0:Bool):Prop:=(awk18_x).vp awk18_e r0
theorem awk18_p(ok:awk18_a):awk18_vc true:=by
  dsimp only[awk18_vc,awk18_x,noS,Ax.vp,Ax.vc];simp only[vcU,rfU,List.length_map]
  rw[show({ rs:=[{ id:=1,cap:=true },{ id:=2,cap:=true },{ id:=3,cap:=true },{ id:=4,cap:=true }],ls:=[{ a:=1,b:=2,ca:=1,cb:=1,w:=0 },{ a:=1,b:=3,ca:=1,cb:=1,w:=0 },{ a:=1,b:=4,ca:=1,cb:=1,w:=0 },{ a:=2,b:=3,ca:=1,cb:=1,w:=0 }] }:Tpl)=T18 from rfl,T18_rnk,T18_red.1,T18_red.2]
  simp[alwT,alwQ]
def awk18_c:PC Tryz.prog:=⟨15,[],[],awk18_e true,PSpec.of_ok λok=>mxP_of (sh:=.k) (enc:=awk18_e) (a:=(awk18_x).an) (awk18_p ok) (by kernel_rfl) (AV.pureB_ok rfl),fnB_ok (by kernel_rfl)⟩
set_option pp.deepTerms true
set_option pp.maxSteps 100000
def smr18_a(a:(List Rnk))(b:(List Rnk)):Prop:=okL [.sl 2 (a.map Rnk.v) false,.sl 2 (b.map Rnk.v) false]
def smr18_n0(a:(List Rnk))(b:(List Rnk))(t0:Int):NF:=⟨[(0,.k,.sl 2 (a.map Rnk.v) false),(1,.k,.sl 2 (b.map Rnk.v) false),(5,.k,.int t0)],[]⟩
@[reducible] def smr18_s:Nat→Type
 | 0=>Int
 | _=>Unit
def smr18_e(r:Bool):AV:=.bool r
def smr18_x(a:(List Rnk))(b:(List Rnk))(I0:Int→Prop)(m0:Int→Nat):Ax Tryz.prog smr18_s (Bool):=
 (.br 96 (((a.map Rnk.v).length:Int) != ((b.map Rnk.v).length:Int)) (.ret (false))
(.loop 0 (smr18_n0 a b) I0 m0 ((0):Int) [] λ(t0:Int) b0 =>
(.br 64 (decide (t0<((a.map Rnk.v).length:Int))) (.elI 96 Rnk.v a t0 λx1 =>
(.elI 160 Rnk.v b t0 λx2 =>
(.br 208 (!((x1.r==x2.r) && ((x1.n==x2.n) && true))) (.ret (false))
(.bk 0 b0 ((W (t0+1)):Int) []))))
(.ret (true)))))
def smr18_vc(a:(List Rnk))(b:(List Rnk))(I0:Int→Prop)(m0:Int→Nat)(r0:Bool):Prop:=(smr18_x a b I0 m0).vp smr18_e r0
theorem smr18_p(a b:List Rnk)(ok:smr18_a a b):∃I0 m0,smr18_vc a b I0 m0 (decide (a=b)):=by
 refine⟨λi=>∃k:Nat,i=k∧k≤a.length∧∀j,j<k→a[j]?=b[j]?,λi=>a.length-i.toNat,?_⟩
 simp only[smr18_a,okU,Blk.ok,plainV,List.length_map]at ok
 dsimp only[smr18_vc,smr18_x,smr18_s,Ax.vp,Ax.vc];simp only[vcU,rfU,List.length_map]
 refine⟨λq=>?_,λq=>⟨⟨0,rfl,by omega,λj hj=>by omega⟩,?_⟩⟩
 ·rw[eq_comm,decide_eq_false_iff_not];rintro rfl;simp at q
 have q:a.length=b.length:=by have:=eq_of_beq (by simpa using q:((a.length:Int)==b.length)=true);omega
 rintro _ ⟨k,rfl,hk,hE⟩
 simp only[Int.toNat_natCast]
 refine⟨λd=>⟨by omega,d,λx hx=>⟨by omega,by omega,λy hy=>⟨λe=>?_,λe=>?_⟩⟩⟩,λd=>?_⟩
 ·rw[eq_comm,decide_eq_false_iff_not];rintro rfl
  rw[hx]at hy;cases hy;simp at e
 ·have e:x=y:=by
   simp at e;cases x;cases y;simp_all
  subst e
  have w:W ((k:Int)+1)=((k+1:Nat):Int):=W_succ (n:=a.length) (by omega) (by omega)
  rw[w]
  refine⟨⟨k+1,rfl,by omega,λj hj=>?_⟩,by omega⟩
  by_cases e2:j=k
  ·subst e2;rw[hx,hy]
  ·exact hE j (by omega)
 ·rw[eq_comm,decide_eq_true_iff]
  refine List.ext_getElem? λj=>?_
  by_cases hj:j<k
  ·exact hE j hj
  ·rw[List.getElem?_eq_none (by omega),List.getElem?_eq_none (by omega)]
def smr18_c(a:(List Rnk))(b:(List Rnk)):PC Tryz.prog:=⟨14,[(.s 2),(.s 2)],[.sl 2 (a.map Rnk.v) false,.sl 2 (b.map Rnk.v) false],smr18_e (decide (a=b)),PSpec.of_ok λok=>(smr18_p a b ok).elim λI0 h=>h.elim λm0 h=>mxP_of (sh:=.k) (enc:=smr18_e) (a:=(smr18_x a b I0 m0).an) h (by kernel_rfl) (AV.pureB_ok rfl),fnB_ok (by kernel_rfl)⟩
def rnkL_a(t:(List Int))(raw:Chg):Prop:=okL [.sl 1 (t.map AV.int) false,.agg [.int raw.a,.int raw.b,.int raw.ca,.int raw.cb]]
abbrev rnkL_v0(t:(List Int)):=(topM (t.take 600) 0 6 10)
def rnkL_n0(t:(List Int))(raw:Chg)(t0:Int):NF:=⟨[(6,.k,.ref 0 0),(7,.k,.sl 4 [.agg [.int (((chgM (t.take 600) ((rnkL_v0 t).2) (⟨((rnkL_v0 t).1).rs,((rnkL_v0 t).1).ls⟩:Tpl) 0).1).a),.int (((chgM (t.take 600) ((rnkL_v0 t).2) (⟨((rnkL_v0 t).1).rs,((rnkL_v0 t).1).ls⟩:Tpl) 0).1).b),.int (((chgM (t.take 600) ((rnkL_v0 t).2) (⟨((rnkL_v0 t).1).rs,((rnkL_v0 t).1).ls⟩:Tpl) 0).1).ca),.int (((chgM (t.take 600) ((rnkL_v0 t).2) (⟨((rnkL_v0 t).1).rs,((rnkL_v0 t).1).ls⟩:Tpl) 0).1).cb)],.agg [.int (((chgM (t.take 600) ((chgM (t.take 600) ((rnkL_v0 t).2) (⟨((rnkL_v0 t).1).rs,((rnkL_v0 t).1).ls⟩:Tpl) 0).2) (⟨((rnkL_v0 t).1).rs,((rnkL_v0 t).1).ls⟩:Tpl) 3).1).a),.int (((chgM (t.take 600) ((chgM (t.take 600) ((rnkL_v0 t).2) (⟨((rnkL_v0 t).1).rs,((rnkL_v0 t).1).ls⟩:Tpl) 0).2) (⟨((rnkL_v0 t).1).rs,((rnkL_v0 t).1).ls⟩:Tpl) 3).1).b),.int (((chgM (t.take 600) ((chgM (t.take 600) ((rnkL_v0 t).2) (⟨((rnkL_v0 t).1).rs,((rnkL_v0 t).1).ls⟩:Tpl) 0).2) (⟨((rnkL_v0 t).1).rs,((rnkL_v0 t).1).ls⟩:Tpl) 3).1).ca),.int (((chgM (t.take 600) ((chgM (t.take 600) ((rnkL_v0 t).2) (⟨((rnkL_v0 t).1).rs,((rnkL_v0 t).1).ls⟩:Tpl) 0).2) (⟨((rnkL_v0 t).1).rs,((rnkL_v0 t).1).ls⟩:Tpl) 3).1).cb)],.agg [.int raw.a,.int raw.b,.int raw.ca,.int raw.cb]] true),(8,.k,.int t0)],[.box (.agg [.sl 2 ((((rnkL_v0 t).1).rs).map Rtr.v) false,.sl 5 ((((rnkL_v0 t).1).ls).map Lnk.v) false])]⟩
def rnkL_n1(t:(List Int))(raw:Chg)(t0:Int)(t1:Bool):NF:=⟨[(6,.k,.ref 0 0),(7,.k,.sl 4 [.agg [.int (((chgM (t.take 600) ((rnkL_v0 t).2) (⟨((rnkL_v0 t).1).rs,((rnkL_v0 t).1).ls⟩:Tpl) 0).1).a),.int (((chgM (t.take 600) ((rnkL_v0 t).2) (⟨((rnkL_v0 t).1).rs,((rnkL_v0 t).1).ls⟩:Tpl) 0).1).b),.int (((chgM (t.take 600) ((rnkL_v0 t).2) (⟨((rnkL_v0 t).1).rs,((rnkL_v0 t).1).ls⟩:Tpl) 0).1).ca),.int (((chgM (t.take 600) ((rnkL_v0 t).2) (⟨((rnkL_v0 t).1).rs,((rnkL_v0 t).1).ls⟩:Tpl) 0).1).cb)],.agg [.int (((chgM (t.take 600) ((chgM (t.take 600) ((rnkL_v0 t).2) (⟨((rnkL_v0 t).1).rs,((rnkL_v0 t).1).ls⟩:Tpl) 0).2) (⟨((rnkL_v0 t).1).rs,((rnkL_v0 t).1).ls⟩:Tpl) 3).1).a),.int (((chgM (t.take 600) ((chgM (t.take 600) ((rnkL_v0 t).2) (⟨((rnkL_v0 t).1).rs,((rnkL_v0 t).1).ls⟩:Tpl) 0).2) (⟨((rnkL_v0 t).1).rs,((rnkL_v0 t).1).ls⟩:Tpl) 3).1).b),.int (((chgM (t.take 600) ((chgM (t.take 600) ((rnkL_v0 t).2) (⟨((rnkL_v0 t).1).rs,((rnkL_v0 t).1).ls⟩:Tpl) 0).2) (⟨((rnkL_v0 t).1).rs,((rnkL_v0 t).1).ls⟩:Tpl) 3).1).ca),.int (((chgM (t.take 600) ((chgM (t.take 600) ((rnkL_v0 t).2) (⟨((rnkL_v0 t).1).rs,((rnkL_v0 t).1).ls⟩:Tpl) 0).2) (⟨((rnkL_v0 t).1).rs,((rnkL_v0 t).1).ls⟩:Tpl) 3).1).cb)],.agg [.int raw.a,.int raw.b,.int raw.ca,.int raw.cb]] true),(8,.k,.int t0),(87,.k,.bool t1)],[.box (.agg [.sl 2 ((((rnkL_v0 t).1).rs).map Rtr.v) false,.sl 5 ((((rnkL_v0 t).1).ls).map Lnk.v) false])]⟩
@[reducible] def rnkL_s:Nat→Type
 | 0=>Int
 | 1=>Bool
 | _=>Unit
def rnkL_e(r:Bool):AV:=.bool r
def rnkL_x(t:(List Int))(raw:Chg)(I0:Int→Prop)(m0:Int→Nat)(I1:Int→Chg→Chg→Chg→Chg→Bool→Prop):Ax Tryz.prog rnkL_s (Bool):=
 (.callH [] (newM_h t) 48
(.req 96 (1≤6∧6≤20) λh1 =>
(.callH [48] (topM_h (t.take 600) 0 6 10 h1) 96
(.say (Rf ((((rnkL_v0 t).1).rs).map Rtr.v)) (.cmd (.frzE 96 ((((rnkL_v0 t).1).rs).map Rtr.v) (pureBL_map (λ_=>rfl) (((rnkL_v0 t).1).rs))) (.say (Rf ((((rnkL_v0 t).1).ls).map Lnk.v)) (.cmd (.frzE 97 ((((rnkL_v0 t).1).ls).map Lnk.v) (pureBL_map (λ_=>rfl) (((rnkL_v0 t).1).ls))) (.callH [48] (chgM_h (t.take 600) ((rnkL_v0 t).2) (⟨((rnkL_v0 t).1).rs,((rnkL_v0 t).1).ls⟩:Tpl) 0) 176
(.callH [48] (chgM_h (t.take 600) ((chgM (t.take 600) ((rnkL_v0 t).2) (⟨((rnkL_v0 t).1).rs,((rnkL_v0 t).1).ls⟩:Tpl) 0).2) (⟨((rnkL_v0 t).1).rs,((rnkL_v0 t).1).ls⟩:Tpl) 3) 224
(.loop 0 (rnkL_n0 t raw) I0 m0 ((0):Int) [112] λ(t0:Int) b0 =>
(.br 33 (decide (t0<3)) (.el 81 Chg.v [(chgM (t.take 600) ((rnkL_v0 t).2) (⟨((rnkL_v0 t).1).rs,((rnkL_v0 t).1).ls⟩:Tpl) 0).1,(chgM (t.take 600) ((chgM (t.take 600) ((rnkL_v0 t).2) (⟨((rnkL_v0 t).1).rs,((rnkL_v0 t).1).ls⟩:Tpl) 0).2) (⟨((rnkL_v0 t).1).rs,((rnkL_v0 t).1).ls⟩:Tpl) 3).1,raw] (λR=>Rf (α:=List AV) [.agg [.int (((chgM (t.take 600) ((rnkL_v0 t).2) (⟨((rnkL_v0 t).1).rs,((rnkL_v0 t).1).ls⟩:Tpl) 0).1).a),.int (((chgM (t.take 600) ((rnkL_v0 t).2) (⟨((rnkL_v0 t).1).rs,((rnkL_v0 t).1).ls⟩:Tpl) 0).1).b),.int (((chgM (t.take 600) ((rnkL_v0 t).2) (⟨((rnkL_v0 t).1).rs,((rnkL_v0 t).1).ls⟩:Tpl) 0).1).ca),.int (((chgM (t.take 600) ((rnkL_v0 t).2) (⟨((rnkL_v0 t).1).rs,((rnkL_v0 t).1).ls⟩:Tpl) 0).1).cb)],.agg [.int (((chgM (t.take 600) ((chgM (t.take 600) ((rnkL_v0 t).2) (⟨((rnkL_v0 t).1).rs,((rnkL_v0 t).1).ls⟩:Tpl) 0).2) (⟨((rnkL_v0 t).1).rs,((rnkL_v0 t).1).ls⟩:Tpl) 3).1).a),.int (((chgM (t.take 600) ((chgM (t.take 600) ((rnkL_v0 t).2) (⟨((rnkL_v0 t).1).rs,((rnkL_v0 t).1).ls⟩:Tpl) 0).2) (⟨((rnkL_v0 t).1).rs,((rnkL_v0 t).1).ls⟩:Tpl) 3).1).b),.int (((chgM (t.take 600) ((chgM (t.take 600) ((rnkL_v0 t).2) (⟨((rnkL_v0 t).1).rs,((rnkL_v0 t).1).ls⟩:Tpl) 0).2) (⟨((rnkL_v0 t).1).rs,((rnkL_v0 t).1).ls⟩:Tpl) 3).1).ca),.int (((chgM (t.take 600) ((chgM (t.take 600) ((rnkL_v0 t).2) (⟨((rnkL_v0 t).1).rs,((rnkL_v0 t).1).ls⟩:Tpl) 0).2) (⟨((rnkL_v0 t).1).rs,((rnkL_v0 t).1).ls⟩:Tpl) 3).1).cb)],.agg [.int raw.a,.int raw.b,.int raw.ca,.int raw.cb]] (ck (decide (0≤t0)) (ck (decide (t0<([(chgM (t.take 600) ((rnkL_v0 t).2) (⟨((rnkL_v0 t).1).rs,((rnkL_v0 t).1).ls⟩:Tpl) 0).1,(chgM (t.take 600) ((chgM (t.take 600) ((rnkL_v0 t).2) (⟨((rnkL_v0 t).1).rs,((rnkL_v0 t).1).ls⟩:Tpl) 0).2) (⟨((rnkL_v0 t).1).rs,((rnkL_v0 t).1).ls⟩:Tpl) 3).1,raw].length:Int)))
(∀x2,[(chgM (t.take 600) ((rnkL_v0 t).2) (⟨((rnkL_v0 t).1).rs,((rnkL_v0 t).1).ls⟩:Tpl) 0).1,(chgM (t.take 600) ((chgM (t.take 600) ((rnkL_v0 t).2) (⟨((rnkL_v0 t).1).rs,((rnkL_v0 t).1).ls⟩:Tpl) 0).2) (⟨((rnkL_v0 t).1).rs,((rnkL_v0 t).1).ls⟩:Tpl) 3).1,raw][t0.toNat]?=some x2 →
(R x2))))) λx2 =>
(.callP (kndP_c (⟨((rnkL_v0 t).1).rs,((rnkL_v0 t).1).ls⟩:Tpl) x2)
(.el 257 Chg.v [(chgM (t.take 600) ((rnkL_v0 t).2) (⟨((rnkL_v0 t).1).rs,((rnkL_v0 t).1).ls⟩:Tpl) 0).1,(chgM (t.take 600) ((chgM (t.take 600) ((rnkL_v0 t).2) (⟨((rnkL_v0 t).1).rs,((rnkL_v0 t).1).ls⟩:Tpl) 0).2) (⟨((rnkL_v0 t).1).rs,((rnkL_v0 t).1).ls⟩:Tpl) 3).1,raw] (λR=>Rf (α:=List AV) [.agg [.int (((chgM (t.take 600) ((rnkL_v0 t).2) (⟨((rnkL_v0 t).1).rs,((rnkL_v0 t).1).ls⟩:Tpl) 0).1).a),.int (((chgM (t.take 600) ((rnkL_v0 t).2) (⟨((rnkL_v0 t).1).rs,((rnkL_v0 t).1).ls⟩:Tpl) 0).1).b),.int (((chgM (t.take 600) ((rnkL_v0 t).2) (⟨((rnkL_v0 t).1).rs,((rnkL_v0 t).1).ls⟩:Tpl) 0).1).ca),.int (((chgM (t.take 600) ((rnkL_v0 t).2) (⟨((rnkL_v0 t).1).rs,((rnkL_v0 t).1).ls⟩:Tpl) 0).1).cb)],.agg [.int (((chgM (t.take 600) ((chgM (t.take 600) ((rnkL_v0 t).2) (⟨((rnkL_v0 t).1).rs,((rnkL_v0 t).1).ls⟩:Tpl) 0).2) (⟨((rnkL_v0 t).1).rs,((rnkL_v0 t).1).ls⟩:Tpl) 3).1).a),.int (((chgM (t.take 600) ((chgM (t.take 600) ((rnkL_v0 t).2) (⟨((rnkL_v0 t).1).rs,((rnkL_v0 t).1).ls⟩:Tpl) 0).2) (⟨((rnkL_v0 t).1).rs,((rnkL_v0 t).1).ls⟩:Tpl) 3).1).b),.int (((chgM (t.take 600) ((chgM (t.take 600) ((rnkL_v0 t).2) (⟨((rnkL_v0 t).1).rs,((rnkL_v0 t).1).ls⟩:Tpl) 0).2) (⟨((rnkL_v0 t).1).rs,((rnkL_v0 t).1).ls⟩:Tpl) 3).1).ca),.int (((chgM (t.take 600) ((chgM (t.take 600) ((rnkL_v0 t).2) (⟨((rnkL_v0 t).1).rs,((rnkL_v0 t).1).ls⟩:Tpl) 0).2) (⟨((rnkL_v0 t).1).rs,((rnkL_v0 t).1).ls⟩:Tpl) 3).1).cb)],.agg [.int raw.a,.int raw.b,.int raw.ca,.int raw.cb]] (ck (decide (0≤t0)) (ck (decide (t0<([(chgM (t.take 600) ((rnkL_v0 t).2) (⟨((rnkL_v0 t).1).rs,((rnkL_v0 t).1).ls⟩:Tpl) 0).1,(chgM (t.take 600) ((chgM (t.take 600) ((rnkL_v0 t).2) (⟨((rnkL_v0 t).1).rs,((rnkL_v0 t).1).ls⟩:Tpl) 0).2) (⟨((rnkL_v0 t).1).rs,((rnkL_v0 t).1).ls⟩:Tpl) 3).1,raw].length:Int)))
(∀x3,[(chgM (t.take 600) ((rnkL_v0 t).2) (⟨((rnkL_v0 t).1).rs,((rnkL_v0 t).1).ls⟩:Tpl) 0).1,(chgM (t.take 600) ((chgM (t.take 600) ((rnkL_v0 t).2) (⟨((rnkL_v0 t).1).rs,((rnkL_v0 t).1).ls⟩:Tpl) 0).2) (⟨((rnkL_v0 t).1).rs,((rnkL_v0 t).1).ls⟩:Tpl) 3).1,raw][t0.toNat]?=some x3 →
(R x3))))) λx3 =>
(.callP (knd18_c (⟨((rnkL_v0 t).1).rs,((rnkL_v0 t).1).ls⟩:Tpl) x3)
(.el 433 Chg.v [(chgM (t.take 600) ((rnkL_v0 t).2) (⟨((rnkL_v0 t).1).rs,((rnkL_v0 t).1).ls⟩:Tpl) 0).1,(chgM (t.take 600) ((chgM (t.take 600) ((rnkL_v0 t).2) (⟨((rnkL_v0 t).1).rs,((rnkL_v0 t).1).ls⟩:Tpl) 0).2) (⟨((rnkL_v0 t).1).rs,((rnkL_v0 t).1).ls⟩:Tpl) 3).1,raw] (λR=>Rf (α:=List AV) [.agg [.int (((chgM (t.take 600) ((rnkL_v0 t).2) (⟨((rnkL_v0 t).1).rs,((rnkL_v0 t).1).ls⟩:Tpl) 0).1).a),.int (((chgM (t.take 600) ((rnkL_v0 t).2) (⟨((rnkL_v0 t).1).rs,((rnkL_v0 t).1).ls⟩:Tpl) 0).1).b),.int (((chgM (t.take 600) ((rnkL_v0 t).2) (⟨((rnkL_v0 t).1).rs,((rnkL_v0 t).1).ls⟩:Tpl) 0).1).ca),.int (((chgM (t.take 600) ((rnkL_v0 t).2) (⟨((rnkL_v0 t).1).rs,((rnkL_v0 t).1).ls⟩:Tpl) 0).1).cb)],.agg [.int (((chgM (t.take 600) ((chgM (t.take 600) ((rnkL_v0 t).2) (⟨((rnkL_v0 t).1).rs,((rnkL_v0 t).1).ls⟩:Tpl) 0).2) (⟨((rnkL_v0 t).1).rs,((rnkL_v0 t).1).ls⟩:Tpl) 3).1).a),.int (((chgM (t.take 600) ((chgM (t.take 600) ((rnkL_v0 t).2) (⟨((rnkL_v0 t).1).rs,((rnkL_v0 t).1).ls⟩:Tpl) 0).2) (⟨((rnkL_v0 t).1).rs,((rnkL_v0 t).1).ls⟩:Tpl) 3).1).b),.int (((chgM (t.take 600) ((chgM (t.take 600) ((rnkL_v0 t).2) (⟨((rnkL_v0 t).1).rs,((rnkL_v0 t).1).ls⟩:Tpl) 0).2) (⟨((rnkL_v0 t).1).rs,((rnkL_v0 t).1).ls⟩:Tpl) 3).1).ca),.int (((chgM (t.take 600) ((chgM (t.take 600) ((rnkL_v0 t).2) (⟨((rnkL_v0 t).1).rs,((rnkL_v0 t).1).ls⟩:Tpl) 0).2) (⟨((rnkL_v0 t).1).rs,((rnkL_v0 t).1).ls⟩:Tpl) 3).1).cb)],.agg [.int raw.a,.int raw.b,.int raw.ca,.int raw.cb]] (ck (decide (0≤t0)) (ck (decide (t0<([(chgM (t.take 600) ((rnkL_v0 t).2) (⟨((rnkL_v0 t).1).rs,((rnkL_v0 t).1).ls⟩:Tpl) 0).1,(chgM (t.take 600) ((chgM (t.take 600) ((rnkL_v0 t).2) (⟨((rnkL_v0 t).1).rs,((rnkL_v0 t).1).ls⟩:Tpl) 0).2) (⟨((rnkL_v0 t).1).rs,((rnkL_v0 t).1).ls⟩:Tpl) 3).1,raw].length:Int)))
(∀x4,[(chgM (t.take 600) ((rnkL_v0 t).2) (⟨((rnkL_v0 t).1).rs,((rnkL_v0 t).1).ls⟩:Tpl) 0).1,(chgM (t.take 600) ((chgM (t.take 600) ((rnkL_v0 t).2) (⟨((rnkL_v0 t).1).rs,((rnkL_v0 t).1).ls⟩:Tpl) 0).2) (⟨((rnkL_v0 t).1).rs,((rnkL_v0 t).1).ls⟩:Tpl) 3).1,raw][t0.toNat]?=some x4 →
(R x4))))) λx4 =>
(.callP (ranks_c (⟨((rnkL_v0 t).1).rs,((rnkL_v0 t).1).ls⟩:Tpl) x4)
(.el 609 Chg.v [(chgM (t.take 600) ((rnkL_v0 t).2) (⟨((rnkL_v0 t).1).rs,((rnkL_v0 t).1).ls⟩:Tpl) 0).1,(chgM (t.take 600) ((chgM (t.take 600) ((rnkL_v0 t).2) (⟨((rnkL_v0 t).1).rs,((rnkL_v0 t).1).ls⟩:Tpl) 0).2) (⟨((rnkL_v0 t).1).rs,((rnkL_v0 t).1).ls⟩:Tpl) 3).1,raw] (λR=>Rf (α:=List AV) [.agg [.int (((chgM (t.take 600) ((rnkL_v0 t).2) (⟨((rnkL_v0 t).1).rs,((rnkL_v0 t).1).ls⟩:Tpl) 0).1).a),.int (((chgM (t.take 600) ((rnkL_v0 t).2) (⟨((rnkL_v0 t).1).rs,((rnkL_v0 t).1).ls⟩:Tpl) 0).1).b),.int (((chgM (t.take 600) ((rnkL_v0 t).2) (⟨((rnkL_v0 t).1).rs,((rnkL_v0 t).1).ls⟩:Tpl) 0).1).ca),.int (((chgM (t.take 600) ((rnkL_v0 t).2) (⟨((rnkL_v0 t).1).rs,((rnkL_v0 t).1).ls⟩:Tpl) 0).1).cb)],.agg [.int (((chgM (t.take 600) ((chgM (t.take 600) ((rnkL_v0 t).2) (⟨((rnkL_v0 t).1).rs,((rnkL_v0 t).1).ls⟩:Tpl) 0).2) (⟨((rnkL_v0 t).1).rs,((rnkL_v0 t).1).ls⟩:Tpl) 3).1).a),.int (((chgM (t.take 600) ((chgM (t.take 600) ((rnkL_v0 t).2) (⟨((rnkL_v0 t).1).rs,((rnkL_v0 t).1).ls⟩:Tpl) 0).2) (⟨((rnkL_v0 t).1).rs,((rnkL_v0 t).1).ls⟩:Tpl) 3).1).b),.int (((chgM (t.take 600) ((chgM (t.take 600) ((rnkL_v0 t).2) (⟨((rnkL_v0 t).1).rs,((rnkL_v0 t).1).ls⟩:Tpl) 0).2) (⟨((rnkL_v0 t).1).rs,((rnkL_v0 t).1).ls⟩:Tpl) 3).1).ca),.int (((chgM (t.take 600) ((chgM (t.take 600) ((rnkL_v0 t).2) (⟨((rnkL_v0 t).1).rs,((rnkL_v0 t).1).ls⟩:Tpl) 0).2) (⟨((rnkL_v0 t).1).rs,((rnkL_v0 t).1).ls⟩:Tpl) 3).1).cb)],.agg [.int raw.a,.int raw.b,.int raw.ca,.int raw.cb]] (ck (decide (0≤t0)) (ck (decide (t0<([(chgM (t.take 600) ((rnkL_v0 t).2) (⟨((rnkL_v0 t).1).rs,((rnkL_v0 t).1).ls⟩:Tpl) 0).1,(chgM (t.take 600) ((chgM (t.take 600) ((rnkL_v0 t).2) (⟨((rnkL_v0 t).1).rs,((rnkL_v0 t).1).ls⟩:Tpl) 0).2) (⟨((rnkL_v0 t).1).rs,((rnkL_v0 t).1).ls⟩:Tpl) 3).1,raw].length:Int)))
(∀x5,[(chgM (t.take 600) ((rnkL_v0 t).2) (⟨((rnkL_v0 t).1).rs,((rnkL_v0 t).1).ls⟩:Tpl) 0).1,(chgM (t.take 600) ((chgM (t.take 600) ((rnkL_v0 t).2) (⟨((rnkL_v0 t).1).rs,((rnkL_v0 t).1).ls⟩:Tpl) 0).2) (⟨((rnkL_v0 t).1).rs,((rnkL_v0 t).1).ls⟩:Tpl) 3).1,raw][t0.toNat]?=some x5 →
(R x5))))) λx5 =>
(.callP (rnk18_c (⟨((rnkL_v0 t).1).rs,((rnkL_v0 t).1).ls⟩:Tpl) x5)
(.join 1 (rnkL_n1 t raw t0) (λ(t1:Bool)=>I1 t0 x2 x3 x4 x5 t1) (λb1=>(.br 801 (((redT (⟨((rnkL_v0 t).1).rs,((rnkL_v0 t).1).ls⟩:Tpl) x2).1) != ((knd18 (⟨((rnkL_v0 t).1).rs,((rnkL_v0 t).1).ls⟩:Tpl) x3).1)) (.bk 1 b1 ((true):Bool) [0])
(.br 881 (((redT (⟨((rnkL_v0 t).1).rs,((rnkL_v0 t).1).ls⟩:Tpl) x2).2.2.2) != ((knd18 (⟨((rnkL_v0 t).1).rs,((rnkL_v0 t).1).ls⟩:Tpl) x3).2)) (.bk 1 b1 ((true):Bool) [0])
(.callP (smr18_c (rnkR (⟨((rnkL_v0 t).1).rs,((rnkL_v0 t).1).ls⟩:Tpl) x4) (rnkR (⟨((rnkL_v0 t).1).rs,((rnkL_v0 t).1).ls⟩:Tpl) x5))
(.br 977 (!(decide ((rnkR (⟨((rnkL_v0 t).1).rs,((rnkL_v0 t).1).ls⟩:Tpl) x4)=(rnkR (⟨((rnkL_v0 t).1).rs,((rnkL_v0 t).1).ls⟩:Tpl) x5)))) (.bk 1 b1 ((true):Bool) [0])
(.bk 1 b1 ((((redT (⟨((rnkL_v0 t).1).rs,((rnkL_v0 t).1).ls⟩:Tpl) x4).2.2.2) != ((redT (⟨((rnkL_v0 t).1).rs,((rnkL_v0 t).1).ls⟩:Tpl) x5).2.2.2)):Bool) [0])))))) λ(t1:Bool) =>
(.br 1 t1 (.ret (false))
(.bk 0 b0 ((W (t0+1)):Int) [0])))))))))))
(.callP (awk18_c )
(.ret (true))))))))))))))
def rnkL_vc(t:(List Int))(raw:Chg)(I0:Int→Prop)(m0:Int→Nat)(I1:Int→Chg→Chg→Chg→Chg→Bool→Prop)(r0:Bool):Prop:=(rnkL_x t raw I0 m0 I1).vp rnkL_e r0
theorem rnkL_p(t:List Int)(raw:Chg)(ok:rnkL_a t raw):∃I0 m0 I1,rnkL_vc t raw I0 m0 I1 true:=by
 refine⟨λi=>∃k:Nat,i=k∧k≤3,λi=>3-i.toNat,λ_ _ _ _ _ b=>b=false,?_⟩
 simp only[rnkL_a,okU,Blk.ok,plainV,List.length_map]at ok
 dsimp only[rnkL_vc,rnkL_x,rnkL_s,rnkL_v0,Ax.vp,Ax.vc];simp only[vcU,rfU,List.length_map]
 refine⟨by omega,⟨0,rfl,by omega⟩,?_⟩
 generalize (⟨(topM (t.take 600) 0 6 10).1.rs,(topM (t.take 600) 0 6 10).1.ls⟩:Tpl)=g
 generalize (topM (t.take 600) 0 6 10).2=q
 generalize hC:[(chgM (t.take 600) q g 0).1,(chgM (t.take 600) (chgM (t.take 600) q g 0).2 g 3).1,raw]=C
 have hl:C.length=3:=by rw[←hC];rfl
 rw[hl]
 rintro _ ⟨k,rfl,hk⟩
 refine⟨λd=>⟨by omega,by omega,λx2 h2=>⟨by omega,by omega,λx3 h3=>⟨by omega,by omega,λx4 h4=>⟨by omega,by omega,λx5 h5=>?_⟩⟩⟩⟩,λd=>?_⟩
 ·rw[h2]at h3 h4 h5
  cases h3;cases h4;cases h5
  rw[(red_eq g x2).1]
  have w:W ((k:Int)+1)=((k+1:Nat):Int):=W_succ (n:=3) (by omega) (by omega)
  rw[w]
  refine⟨⟨λe=>by simp at e,λ_=>⟨λe=>by simp at e,λ_=>⟨λe=>by simp at e,λ_=>by simp⟩⟩⟩,?_⟩
  rintro _ rfl
  exact⟨λe=>(by cases e),λ_=>⟨⟨k+1,rfl,by omega⟩,by omega⟩⟩
 ·trivial
def rnkL_c(t:(List Int))(raw:Chg):PC Tryz.prog:=⟨3,[(.s 1),.k],[.sl 1 (t.map AV.int) false,.agg [.int raw.a,.int raw.b,.int raw.ca,.int raw.cb]],rnkL_e true,PSpec.of_ok λok=>(rnkL_p t raw ok).elim λI0 h=>h.elim λm0 h=>h.elim λI1 h=>mxP_of (sh:=.k) (enc:=rnkL_e) (a:=(rnkL_x t raw I0 m0 I1).an) h (by kernel_rfl) (AV.pureB_ok rfl),fnB_ok (by kernel_rfl)⟩
end Go.Proofs.YtdoacjojljgdcaaGreat
