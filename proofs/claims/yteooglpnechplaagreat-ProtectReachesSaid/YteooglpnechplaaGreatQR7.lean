/- Texts joined: PL PR1 KM1 KM2 KM3 KM4 KM5 KM6 AL1 AL2. -/
import Derived.Test.YteooglpnechplaaGreatQR6
set_option linter.unusedVariables false
set_option linter.unusedSimpArgs false
set_option linter.unusedSectionVars false
namespace Go.Proofs.YteooglpnechplaaGreat
open Go Go.Am
structure Edg where
  router:Int
  id:Int
  deriving DecidableEq
structure Pln where
  sub:Int
  len:Int
  es:List Edg
  deriving DecidableEq
def Edg.v(x:Edg):AV:=.agg [.int x.router,.int x.id]
theorem pureBLs_one{es:List AV}(h:pureBL es=true):pureBLs [es]=true:=by rw[pureBLs,h];rfl
theorem ForI.find{α:Type}{l:List α}{t:Int}{x:α}{p:α→Bool}(h:ForI l (λy=>p y=false) t)(hx:l[t.toNat]?=some x)(hp:p x=true):l.find? p=some x:=by
 obtain⟨k,rfl,hk,ha⟩:=h
 rw[Int.toNat_natCast]at hx
 rw[List.find?_eq_some_iff_getElem]
 have hlt:=lt_of_get hx
 refine⟨hp,k,hlt,by rw[List.getElem?_eq_getElem hlt]at hx;exact Option.some.inj hx,λj hj=>?_⟩
 rw[ha _ (List.mem_take_iff_getElem.mpr ⟨j,by omega,rfl⟩)];rfl
theorem ForI.nofind{α:Type}{l:List α}{t:Int}{p:α→Bool}(h:ForI l (λy=>p y=false) t)(c:¬t<l.length):l.find? p=none:=by
 rw[List.find?_eq_none]
 exact λx hx=>by rw[h.done c x hx];simp
def inP(n a b:Int):Bool:=decide (a≤n) && decide (n≤b)
def inP_a(n:Int)(least:Int)(most:Int):Prop:=okL [.int n,.int least,.int most]
def inP_e(r:Bool):AV:=.bool r
def inP_x(n:Int)(least:Int)(most:Int):Ax Tryz.prog noS (Bool):=
 (.br 80 (decide (least≤n)) (.ret (decide (n≤most)))
(.ret (false)))
def inP_vc(n:Int)(least:Int)(most:Int)(r0:Bool):Prop:=(inP_x n least most).vp inP_e r0
theorem inP_p(n a b:Int)(ok:inP_a n a b):inP_vc n a b (inP n a b):=by
 dsimp only[inP_vc,inP_x,noS,Ax.vp,Ax.vc];simp only[vcU,rfU,List.length_map]
 refine⟨λc=>?_,λc=>?_⟩<;>simp[inP,c]
def inP_c(n:Int)(least:Int)(most:Int):PC Tryz.prog:=⟨77,[.k,.k,.k],[.int n,.int least,.int most],inP_e (inP n least most),PSpec.of_ok λok=>mxP_of (sh:=.k) (enc:=inP_e) (a:=(inP_x n least most).an) (inP_p n least most ok) (by kernel_rfl) (AV.pureB_ok rfl),fnB_ok (by kernel_rfl)⟩
theorem inP_t{n a b:Int}:(!inP n a b)=true↔¬(a≤n∧n≤b):=by
 unfold inP
 by_cases h1:a≤n<;>by_cases h2:n≤b<;>simp[h1,h2]
theorem inP_f{n a b:Int}:(!inP n a b)=false↔a≤n∧n≤b:=by
 unfold inP
 by_cases h1:a≤n<;>by_cases h2:n≤b<;>simp[h1,h2]
def vlenP(n:Int):Bool:=decide (n=8∨n=16∨n=32∨n=64)
def vlenP_a(n:Int):Prop:=okL [.int n]
def vlenP_e(r:Bool):AV:=.bool r
def vlenP_x(n:Int):Ax Tryz.prog noS (Bool):=
 (.br 64 (n==8) (.ret (true))
(.br 128 (n==16) (.ret (true))
(.br 192 (n==32) (.ret (true))
(.ret (n==64)))))
def vlenP_vc(n:Int)(r0:Bool):Prop:=(vlenP_x n).vp vlenP_e r0
theorem vlenP_p(n:Int)(ok:vlenP_a n):vlenP_vc n (vlenP n):=by
 dsimp only[vlenP_vc,vlenP_x,noS,Ax.vp,Ax.vc];simp only[vcU,rfU,List.length_map]
 refine⟨λc=>?_,λc=>⟨λd=>?_,λd=>⟨λe=>?_,λe=>?_⟩⟩⟩
 ·rw[vlenP,decide_eq_true (.inl (eq_of_beq c))]
 ·rw[vlenP,decide_eq_true (.inr (.inl (eq_of_beq d)))]
 ·rw[vlenP,decide_eq_true (.inr (.inr (.inl (eq_of_beq e))))]
 ·have c:¬n=8:=by simpa using c
  have d:¬n=16:=by simpa using d
  have e:¬n=32:=by simpa using e
  rw[vlenP,Bool.eq_iff_iff,beq_iff_eq,decide_eq_true_eq]
  simp[c,d,e]
def vlenP_c(n:Int):PC Tryz.prog:=⟨78,[.k],[.int n],vlenP_e (vlenP n),PSpec.of_ok λok=>mxP_of (sh:=.k) (enc:=vlenP_e) (a:=(vlenP_x n).an) (vlenP_p n ok) (by kernel_rfl) (AV.pureB_ok rfl),fnB_ok (by kernel_rfl)⟩
def eqRt(y x:Edg):Bool:=y.router==x.router
def eqRt_a(y:Edg)(x:Edg):Prop:=okL [.agg [.int y.router,.int y.id],.rptr (.agg [.int x.router,.int x.id]) 0]
def eqRt_e(r:Bool):AV:=.bool r
def eqRt_x(y:Edg)(x:Edg):Ax Tryz.prog noS (Bool):=
 (.ret (y.router==x.router))
def eqRt_vc(y:Edg)(x:Edg)(r0:Bool):Prop:=(eqRt_x y x).vp eqRt_e r0
theorem eqRt_p(y x:Edg)(ok:eqRt_a y x):eqRt_vc y x (eqRt y x):=by
 dsimp only[eqRt_vc,eqRt_x,noS,Ax.vp,Ax.vc];simp only[vcU,rfU,List.length_map]
 rfl
def eqRt_c(y:Edg)(x:Edg):PC Tryz.prog:=⟨80,[.k,.k],[.agg [.int y.router,.int y.id],.rptr (.agg [.int x.router,.int x.id]) 0],eqRt_e (eqRt y x),PSpec.of_ok λok=>mxP_of (sh:=.k) (enc:=eqRt_e) (a:=(eqRt_x y x).an) (eqRt_p y x ok) (by kernel_rfl) (AV.pureB_ok rfl),fnB_ok (by kernel_rfl)⟩
def eqRtI_a(s:(List Edg))(f:Edg):Prop:=okL [.sl 2 (s.map Edg.v) false,.func 80 [.rptr (.agg [.int f.router,.int f.id]) 0]]
def eqRtI_n0(s:(List Edg))(f:Edg)(t0:Int):NF:=⟨[(0,.k,.sl 2 (s.map Edg.v) false),(1,.k,.func 80 [.rptr (.agg [.int f.router,.int f.id]) 0]),(7,.k,.int ((s.map Edg.v).length:Int)),(8,.k,.int t0)],[]⟩
@[reducible] def eqRtI_s:Nat→Type
 | 0=>Int
 | _=>Unit
def eqRtI_e(r:Int):AV:=.int r
def eqRtI_x(s:(List Edg))(f:Edg)(I0:Int→Prop)(m0:Int→Nat):Ax Tryz.prog eqRtI_s (Int):=
 (.loop 0 (eqRtI_n0 s f) I0 m0 ((0):Int) [] λ(t0:Int) b0 =>
(.br 16 (decide (t0<((s.map Edg.v).length:Int))) (.el 96 Edg.v s (λR=>Rf (s.map Edg.v) (ck (decide (0≤t0)) (ck (decide (t0<(s.length:Int)))
(∀x1,s[t0.toNat]?=some x1 →
(R x1))))) λx1 =>
(.callP (eqRt_c x1 f)
(.br 144 (eqRt x1 f) (.ret (t0))
(.bk 0 b0 ((W (t0+1)):Int) []))))
(.ret (-1))))
def eqRtI_vc(s:(List Edg))(f:Edg)(I0:Int→Prop)(m0:Int→Nat)(r0:Int):Prop:=(eqRtI_x s f I0 m0).vp eqRtI_e r0
theorem eqRtI_p(s:List Edg)(f:Edg)(ok:eqRtI_a s f):∃I m,eqRtI_vc s f I m (idxF (λy=>eqRt y f) s):=by
 refine⟨λt=>ForI s (λy=>eqRt y f=false) t,λt=>s.length-t.toNat,?_⟩
 simp only[eqRtI_a,okU,Blk.ok,plainV,List.length_map]at ok
 dsimp only[eqRtI_vc,eqRtI_x,eqRtI_s,Ax.vp,Ax.vc];simp only[vcU,rfU,List.length_map]
 exact⟨ForI.zero,λt h=>⟨λc=>⟨h.idx,c,λx hx=>⟨λq=>h.found hx q,λq=>h.step (by omega) hx q⟩⟩,λc=>h.lost c⟩⟩
def eqRtI_c(s:(List Edg))(f:Edg):PC Tryz.prog:=⟨107,[(.s 2),.k],[.sl 2 (s.map Edg.v) false,.func 80 [.rptr (.agg [.int f.router,.int f.id]) 0]],eqRtI_e (idxF (λy=>eqRt y f) s),PSpec.of_ok λok=>(eqRtI_p s f ok).elim λI0 h=>h.elim λm0 h=>mxP_of (sh:=.k) (enc:=eqRtI_e) (a:=(eqRtI_x s f I0 m0).an) h (by kernel_rfl) (AV.pureB_ok rfl),fnB_ok (by kernel_rfl)⟩
def eqRtA_a(s:(List Edg))(f:Edg):Prop:=okL [.sl 2 (s.map Edg.v) false,.func 80 [.rptr (.agg [.int f.router,.int f.id]) 0]]
def eqRtA_e(r:Bool):AV:=.bool r
def eqRtA_x(s:(List Edg))(f:Edg):Ax Tryz.prog noS (Bool):=
 (.callP (eqRtI_c s f)
(.ret (decide (0≤(idxF (λy=>eqRt y f) s)))))
def eqRtA_vc(s:(List Edg))(f:Edg)(r0:Bool):Prop:=(eqRtA_x s f).vp eqRtA_e r0
theorem eqRtA_p(s:List Edg)(f:Edg)(ok:eqRtA_a s f):eqRtA_vc s f (s.any λy=>eqRt y f):=by
 dsimp only[eqRtA_vc,eqRtA_x,noS,Ax.vp,Ax.vc];simp only[vcU,rfU,List.length_map]
 exact idxF_any _ _
def eqRtA_c(s:(List Edg))(f:Edg):PC Tryz.prog:=⟨79,[(.s 2),.k],[.sl 2 (s.map Edg.v) false,.func 80 [.rptr (.agg [.int f.router,.int f.id]) 0]],eqRtA_e (s.any λy=>eqRt y f),PSpec.of_ok λok=>mxP_of (sh:=.k) (enc:=eqRtA_e) (a:=(eqRtA_x s f).an) (eqRtA_p s f ok) (by kernel_rfl) (AV.pureB_ok rfl),fnB_ok (by kernel_rfl)⟩
def edgR(e:Edg):Prop:=(1≤e.id∧e.id≤256)∧1≤e.router∧e.router≤99
instance (e:Edg):Decidable (edgR e):=by unfold edgR;infer_instance
def plnH(p:Pln):Prop:=(0≤p.sub∧p.sub≤7)∧(vlenP p.len=true∨p.len=0∧p.es=[])∧p.es.length≤24
instance (p:Pln):Decidable (plnH p):=by unfold plnH;infer_instance
def plnE(es:List Edg):Prop:=(∀e∈es,edgR e)∧(es.map Edg.router).Nodup∧(es.map Edg.id).Pairwise (·<·)
instance (es:List Edg):Decidable (plnE es):=by unfold plnE;infer_instance
def plnOkB(p:Pln):Bool:=decide (plnH p) && decide (plnE p.es)
def edgG(es:List Edg)(j:Nat)(e:Edg):Prop:=edgR e∧((es.take j).any λy=>eqRt y e)=false∧∀e',0<j→es[j-1]?=some e'→e'.id<e.id
theorem plnE_iff{es:List Edg}:plnE es↔∀j e,es[j]?=some e→edgG es j e:=by
 constructor
 ·rintro⟨h1,h2,h3⟩ j e he
  have hj:=lt_of_get he
  rw[List.getElem?_eq_getElem hj]at he
  have he:=Option.some.inj he
  rw[List.nodup_iff_pairwise_ne,List.pairwise_map,List.pairwise_iff_getElem]at h2
  rw[List.pairwise_map,List.pairwise_iff_getElem]at h3
  refine⟨h1 e (he ▸ List.getElem_mem hj),?_,λe' h0 he'=>?_⟩
  ·rw[List.any_eq_false]
   intro y hy
   obtain⟨i,hi,rfl⟩:=List.getElem_of_mem hy
   have hi':i<j:=by simp at hi;omega
   rw[List.getElem_take]
   have:=h2 i j (by omega) hj hi'
   rw[he]at this
   simpa[eqRt]using this
  ·rw[List.getElem?_eq_getElem (by omega)]at he'
   have:=h3 (j-1) j (by omega) hj (by omega)
   rw[he,Option.some.inj he']at this
   exact this
 ·intro h
  refine⟨λe he=>?_,?_,?_⟩
  ·obtain⟨j,hj⟩:=List.getElem?_of_mem he
   exact(h j e hj).1
  ·rw[List.nodup_iff_pairwise_ne,List.pairwise_map,List.pairwise_iff_getElem]
   intro i j hi hj hij
   have:=(h j _ (List.getElem?_eq_getElem hj)).2.1
   rw[List.any_eq_false]at this
   have:=this es[i] (List.mem_take_iff_getElem.mpr ⟨i,by omega,rfl⟩)
   simpa[eqRt]using this
  ·rw[List.pairwise_map]
   refine ForA.done (l:=es) (R:=λa b=>a.id<b.id) (t:=((es.length+1:Nat):Int)) ⟨es.length+1,rfl,by omega,by omega,λj x y hj hx hy=>?_⟩ (by omega) λx y z q r=>Int.lt_trans q r
   exact(h (j+1) y hy).2.2 x (by omega) (by simpa using hx)
def vplnP_a(p:Pln):Prop:=okL [.agg [.int p.sub,.int p.len,.sl 2 (p.es.map Edg.v) false]]
def vplnP_n0(p:Pln)(t0:Bool):NF:=⟨[(1,.k,.ref 0 0),(32,.k,.bool t0)],[.box (.agg [.int p.sub,.int p.len,.sl 2 (p.es.map Edg.v) false])]⟩
def vplnP_n1(p:Pln)(t1:Int):NF:=⟨[(1,.k,.ref 0 0),(34,.k,.sl 2 (p.es.map Edg.v) false),(35,.k,.int ((p.es.map Edg.v).length:Int)),(36,.k,.int t1)],[.box (.agg [.int p.sub,.int p.len,.sl 2 (p.es.map Edg.v) false])]⟩
def vplnP_n2(p:Pln)(t1:Int)(t2:Bool):NF:=⟨[(1,.k,.ref 0 0),(34,.k,.sl 2 (p.es.map Edg.v) false),(35,.k,.int ((p.es.map Edg.v).length:Int)),(36,.k,.int t1),(75,.k,.bool t2)],[.box (.agg [.int p.sub,.int p.len,.sl 2 (p.es.map Edg.v) false])]⟩
@[reducible] def vplnP_s:Nat→Type
 | 0=>Bool
 | 1=>Int
 | 2=>Bool
 | _=>Unit
def vplnP_e(r:Bool):AV:=.bool r
def vplnP_x(p:Pln)(I0:Bool→Prop)(I1:Bool→Int→Prop)(m1:Bool→Int→Nat)(I2:Bool→Int→Edg→Bool→Prop):Ax Tryz.prog vplnP_s (Bool):=
 (.pass (.pass (.join 0 (vplnP_n0 p) (λ(t0:Bool)=>I0 t0) (λb0=>(.callP (inP_c p.sub 0 7)
(.br 112 (!(inP p.sub 0 7)) (.bk 0 b0 ((true):Bool) [0])
(.callP (vlenP_c p.len)
(.br 192 (!(vlenP p.len)) (.br 256 (p.len != 0) (.bk 0 b0 ((true):Bool) [0])
(.br 384 (decide (0<((p.es.map Edg.v).length:Int))) (.bk 0 b0 ((true):Bool) [0])
(.bk 0 b0 ((decide (24<((p.es.map Edg.v).length:Int))):Bool) [0])))
(.bk 0 b0 ((decide (24<((p.es.map Edg.v).length:Int))):Bool) [0])))))) λ(t0:Bool) =>
(.br 1 t0 (.ret (false))
(.loop 1 (vplnP_n1 p) (I1 t0) (m1 t0) ((0):Int) [0] λ(t1:Int) b1 =>
(.br 17 (decide (t1<((p.es.map Edg.v).length:Int))) (.el 33 Edg.v p.es (λR=>Rf (p.es.map Edg.v) (ck (decide (0≤t1)) (ck (decide (t1<(p.es.length:Int)))
(∀x1,p.es[t1.toNat]?=some x1 →
(R x1))))) λx1 =>
(.say (λR=>Rf (α:=List AV) (p.es.map Edg.v) (ck (bndB p.es.length 0 t1 (p.es.length:Int))
R)) (.sub 161 Edg.v p.es false
(.callP (eqRtA_c ((p.es.take t1.toNat).drop 0) x1)
(.say (ck (pureBLs [[.agg [.int x1.router,.int x1.id]]])) (.join 2 (vplnP_n2 p t1) (λ(t2:Bool)=>I2 t0 t1 x1 t2) (λb2=>(.callP (inP_c x1.id 1 256)
(.br 305 (!(inP x1.id 1 256)) (.bk 2 b2 ((true):Bool) [0])
(.callP (inP_c x1.router 1 99)
(.br 401 (!(inP x1.router 1 99)) (.bk 2 b2 ((true):Bool) [0])
(.br 449 ((((p.es.take t1.toNat).drop 0)).any λy=>eqRt y x1) (.bk 2 b2 ((true):Bool) [0])
(.br 497 (decide (0<t1)) (.el 561 Edg.v p.es (λR=>Rf (p.es.map Edg.v) (ck (decide (0≤(W (t1-1)))) (ck (decide ((W (t1-1))<(p.es.length:Int)))
(∀x2,p.es[(W (t1-1)).toNat]?=some x2 →
(R x2))))) λx2 =>
(.bk 2 b2 ((decide (x1.id≤x2.id)):Bool) [0]))
(.bk 2 b2 ((false):Bool) [0])))))))) λ(t2:Bool) =>
(.br 1 t2 (.ret (false))
(.bk 1 b1 ((W (t1+1)):Int) [0]))))))))
(.ret (true))))))))
def vplnP_vc(p:Pln)(I0:Bool→Prop)(I1:Bool→Int→Prop)(m1:Bool→Int→Nat)(I2:Bool→Int→Edg→Bool→Prop)(r0:Bool):Prop:=(vplnP_x p I0 I1 m1 I2).vp vplnP_e r0
theorem vplnP_p(p:Pln)(ok:vplnP_a p):∃I0 I1 m1 I2,vplnP_vc p I0 I1 m1 I2 (plnOkB p):=by
 refine⟨λb=>b=decide (¬plnH p),λ_ t=>∃k:Nat,t=k∧k≤p.es.length∧∀j e,j<k→p.es[j]?=some e→edgG p.es j e,λ_ t=>p.es.length-t.toNat,λ_ t x b=>b=true↔¬edgG p.es t.toNat x,?_⟩
 simp only[vplnP_a,okU,Blk.ok,plainV,List.length_map]at ok
 dsimp only[vplnP_vc,vplnP_x,vplnP_s,Ax.vp,Ax.vc];simp only[vcU,rfU,List.length_map]
 have hes:p.es=[]↔¬0<(p.es.length:Int):=by rw[←List.length_eq_zero_iff];omega
 refine⟨⟨λc=>?_,λc=>⟨λd=>⟨λe=>?_,λe=>⟨λg=>?_,λg=>?_⟩⟩,λd=>?_⟩⟩,?_⟩
 ·have c:¬(0≤p.sub∧p.sub≤7):=inP_t.mp c
  exact(decide_eq_true (show ¬plnH p from λq=>c q.1)).symm
 ·have d:vlenP p.len=false:=by simpa using d
  have e:p.len≠0:=by simpa using e
  exact(decide_eq_true (show ¬plnH p from λq=>by
   rcases q.2.1 with r|r
   ·rw[d]at r;cases r
   ·exact e r.1)).symm
 ·have d:vlenP p.len=false:=by simpa using d
  exact(decide_eq_true (show ¬plnH p from λq=>by
   rcases q.2.1 with r|r
   ·rw[d]at r;cases r
   ·exact hes.mp r.2 g)).symm
 ·have c:0≤p.sub∧p.sub≤7:=inP_f.mp c
  have e:p.len=0:=by simpa using e
  rw[decide_eq_decide]
  unfold plnH
  rw[and_iff_right c,and_iff_right (.inr ⟨e,hes.mpr g⟩)]
  omega
 ·have c:0≤p.sub∧p.sub≤7:=inP_f.mp c
  have d:vlenP p.len=true:=by simpa using d
  rw[decide_eq_decide]
  unfold plnH
  rw[and_iff_right c,and_iff_right (.inl d)]
  omega
 rintro _ rfl
 refine⟨λc=>?_,λc=>⟨⟨0,rfl,by omega,λj e h=>by omega⟩,?_⟩⟩
 ·rw[plnOkB,decide_eq_false (of_decide_eq_true c)];rfl
 have c:=Classical.not_not.mp (of_decide_eq_false c)
 have hl:=c.2.2
 rintro _ ⟨k,rfl,hk,h⟩
 simp only[Int.toNat_natCast]
 refine⟨λd=>⟨by omega,d,λx hx=>⟨by simp[bndB];omega,rfl,?_,?_⟩⟩,λd=>?_⟩
 ·rw[List.drop_zero]
  refine⟨λe1=>?_,λe1=>⟨λe2=>?_,λe2=>⟨λe3=>?_,λe3=>⟨λe4=>?_,λe4=>?_⟩⟩⟩⟩
  ·have e1:¬(1≤x.id∧x.id≤256):=inP_t.mp e1
   exact iff_of_true trivial λq=>e1 q.1.1
  ·have e2:¬(1≤x.router∧x.router≤99):=inP_t.mp e2
   exact iff_of_true trivial λq=>e2 q.1.2
  ·exact iff_of_true trivial λq=>by rw[q.2.1]at e3;cases e3
  ·have e1:1≤x.id∧x.id≤256:=inP_f.mp e1
   have e2:1≤x.router∧x.router≤99:=inP_f.mp e2
   rw[W_pred (by omega) (by omega)]
   refine⟨by omega,by omega,λy hy=>?_⟩
   rw[Int.toNat_natCast]at hy
   constructor
   ·exact λq r=>by have:=r.2.2 y (by omega) hy;omega
   ·intro q
    refine Classical.byContradiction λr=>q ⟨⟨e1,e2⟩,e3,λy' _ hy'=>?_⟩
    rw[hy]at hy';cases hy';omega
  ·have e1:1≤x.id∧x.id≤256:=inP_f.mp e1
   have e2:1≤x.router∧x.router≤99:=inP_f.mp e2
   exact iff_of_false Bool.false_ne_true λq=>q ⟨⟨e1,e2⟩,e3,λy' h0 _=>by omega⟩
 ·intro b hb
  refine⟨λe=>?_,λe=>?_⟩
  ·have:¬plnE p.es:=λq=>hb.mp e (plnE_iff.mp q k x hx)
   rw[plnOkB,decide_eq_false this,Bool.and_false]
  ·have hg:edgG p.es k x:=Classical.not_not.mp λq=>by rw[hb.mpr q]at e;cases e
   rw[W_succ (n:=p.es.length) (by omega) (by omega)]
   refine⟨⟨k+1,rfl,by omega,λj y hj hy=>?_⟩,by omega⟩
   by_cases e':j=k
   ·subst e';rw[hx]at hy;cases hy;exact hg
   ·exact h j y (by omega) hy
 ·have:plnE p.es:=plnE_iff.mpr λj e he=>h j e (by have:=lt_of_get he;omega) he
  rw[plnOkB,decide_eq_true c,decide_eq_true this];rfl
def vplnP_c(p:Pln):PC Tryz.prog:=⟨37,[(.a [.k,.k,(.s 2)])],[.agg [.int p.sub,.int p.len,.sl 2 (p.es.map Edg.v) false]],vplnP_e (plnOkB p),PSpec.of_ok λok=>(vplnP_p p ok).elim λI0 h=>h.elim λI1 h=>h.elim λm1 h=>h.elim λI2 h=>mxP_of (sh:=.k) (enc:=vplnP_e) (a:=(vplnP_x p I0 I1 m1 I2).an) h (by kernel_rfl) (AV.pureB_ok rfl),fnB_ok (by kernel_rfl)⟩
abbrev vlenR:=vlenP
def vlenR_a(n:Int):Prop:=okL [.int n]
def vlenR_e(r:Bool):AV:=.bool r
def vlenR_x(n:Int):Ax Tryz.prog noS (Bool):=
 (.br 64 (n==8) (.ret (true))
(.br 128 (n==16) (.ret (true))
(.br 192 (n==32) (.ret (true))
(.ret (n==64)))))
def vlenR_vc(n:Int)(r0:Bool):Prop:=(vlenR_x n).vp vlenR_e r0
theorem vlenR_p(n:Int)(ok:vlenR_a n):vlenR_vc n (vlenR n):=by
 dsimp only[vlenR_vc,vlenR_x,noS,Ax.vp,Ax.vc];simp only[vcU,rfU,List.length_map]
 refine⟨λc=>?_,λc=>⟨λd=>?_,λd=>⟨λe=>?_,λe=>?_⟩⟩⟩
 ·rw[vlenR,vlenP,decide_eq_true (.inl (eq_of_beq c))]
 ·rw[vlenR,vlenP,decide_eq_true (.inr (.inl (eq_of_beq d)))]
 ·rw[vlenR,vlenP,decide_eq_true (.inr (.inr (.inl (eq_of_beq e))))]
 ·have c:¬n=8:=by simpa using c
  have d:¬n=16:=by simpa using d
  have e:¬n=32:=by simpa using e
  rw[vlenR,vlenP,Bool.eq_iff_iff,beq_iff_eq,decide_eq_true_eq]
  simp[c,d,e]
def vlenR_c(n:Int):PC Tryz.prog:=⟨88,[.k],[.int n],vlenR_e (vlenP n),PSpec.of_ok λok=>mxP_of (sh:=.k) (enc:=vlenR_e) (a:=(vlenR_x n).an) (vlenR_p n ok) (by kernel_rfl) (AV.pureB_ok rfl),fnB_ok (by kernel_rfl)⟩
abbrev insR:=inP
def insR_a(n:Int)(low:Int)(high:Int):Prop:=okL [.int n,.int low,.int high]
def insR_e(r:Bool):AV:=.bool r
def insR_x(n:Int)(low:Int)(high:Int):Ax Tryz.prog noS (Bool):=
 (.br 80 (decide (low≤n)) (.ret (decide (n≤high)))
(.ret (false)))
def insR_vc(n:Int)(low:Int)(high:Int)(r0:Bool):Prop:=(insR_x n low high).vp insR_e r0
theorem insR_p(n a b:Int)(ok:insR_a n a b):insR_vc n a b (insR n a b):=by
 dsimp only[insR_vc,insR_x,noS,Ax.vp,Ax.vc];simp only[vcU,rfU,List.length_map]
 refine⟨λc=>?_,λc=>?_⟩<;>simp[insR,inP,c]
def insR_c(n:Int)(low:Int)(high:Int):PC Tryz.prog:=⟨87,[.k,.k,.k],[.int n,.int low,.int high],insR_e (inP n low high),PSpec.of_ok λok=>mxP_of (sh:=.k) (enc:=insR_e) (a:=(insR_x n low high).an) (insR_p n low high ok) (by kernel_rfl) (AV.pureB_ok rfl),fnB_ok (by kernel_rfl)⟩
def repR(l:List Int):Bool:=!decide l.Nodup
theorem take_nd{α:Type}{l:List α}{k:Nat}{y:α}(hy:l[k]?=some y):(l.take (k+1)).Nodup↔(l.take k).Nodup∧∀x∈l.take k,x≠y:=by
 rw[take_succ hy,List.nodup_append]
 simp
def repR_a(l:(List Int)):Prop:=okL [.sl 1 (l.map AV.int) false]
def repR_n0(l:(List Int))(t0:Int):NF:=⟨[(0,.k,.sl 1 (l.map AV.int) false),(3,.k,.int t0)],[]⟩
def repR_n1(l:(List Int))(t0:Int)(t1:Int):NF:=⟨[(0,.k,.sl 1 (l.map AV.int) false),(3,.k,.int t0),(4,.k,.int t1)],[]⟩
@[reducible] def repR_s:Nat→Type
 | 0=>Int
 | 1=>Int
 | _=>Unit
def repR_e(r:Bool):AV:=.bool r
def repR_x(l:(List Int))(I0:Int→Prop)(m0:Int→Nat)(I1:Int→Int→Prop)(m1:Int→Int→Nat):Ax Tryz.prog repR_s (Bool):=
 (.loop 0 (repR_n0 l) I0 m0 ((0):Int) [] λ(t0:Int) b0 =>
(.br 64 (decide (t0<((l.map AV.int).length:Int))) (.loop 1 (repR_n1 l t0) (I1 t0) (m1 t0) ((0):Int) [] λ(t1:Int) b1 =>
(.br 48 (decide (t1<t0)) (.el 80 AV.int l (λR=>Rf (l.map AV.int) (ck (decide (0≤t0)) (ck (decide (t0<(l.length:Int)))
(∀x1,l[t0.toNat]?=some x1 →
(R x1))))) λx1 =>
(.el 144 AV.int l (λR=>Rf (l.map AV.int) (ck (decide (0≤t1)) (ck (decide (t1<(l.length:Int)))
(∀x2,l[t1.toNat]?=some x2 →
(R x2))))) λx2 =>
(.br 192 (x1==x2) (.ret (true))
(.bk 1 b1 ((W (t1+1)):Int) []))))
(.bk 0 b0 ((W (t0+1)):Int) [])))
(.ret (false))))
def repR_vc(l:(List Int))(I0:Int→Prop)(m0:Int→Nat)(I1:Int→Int→Prop)(m1:Int→Int→Nat)(r0:Bool):Prop:=(repR_x l I0 m0 I1 m1).vp repR_e r0
theorem repR_p(l:List Int)(ok:repR_a l):∃I0 m0 I1 m1,repR_vc l I0 m0 I1 m1 (repR l):=by
 refine⟨λt=>∃k:Nat,t=k∧k≤l.length∧(l.take k).Nodup,λt=>l.length-t.toNat,λs t=>∃j:Nat,t=j∧t≤s∧∀y,l[s.toNat]?=some y→∀x∈l.take j,x≠y,λs t=>s.toNat-t.toNat,?_⟩
 simp only[repR_a,okU,Blk.ok,plainV,List.length_map]at ok
 dsimp only[repR_vc,repR_x,repR_s,Ax.vp,Ax.vc];simp only[vcU,rfU,List.length_map]
 refine⟨⟨0,rfl,by omega,by simp⟩,?_⟩
 rintro _ ⟨k,rfl,hk,h⟩
 refine⟨λc=>⟨⟨0,rfl,by omega,by simp⟩,?_⟩,λc=>?_⟩
 ·rintro _ ⟨j,rfl,hj,g⟩
  have hy:=List.getElem?_eq_getElem (show k<l.length by omega)
  simp only[Int.toNat_natCast]at g ⊢
  refine⟨λd=>⟨by omega,by omega,λy hy'=>⟨by omega,by omega,λx hx=>⟨λe=>?_,λe=>?_⟩⟩⟩,λd=>?_⟩
  ·have e:=eq_of_beq e
   have:¬l.Nodup:=λq=>by
    have:=(take_nd hy').mp (q.sublist (List.take_sublist _ _))
    exact this.2 x (List.mem_take_iff_getElem.mpr ⟨j,by omega,by rw[List.getElem?_eq_getElem (by omega)]at hx;exact Option.some.inj hx⟩) e.symm
   rw[repR,decide_eq_false this];rfl
  ·rw[W_succ (n:=l.length) (by omega) (by omega)]
   refine⟨⟨j+1,rfl,by omega,λz hz w hw=>?_⟩,by omega⟩
   rw[take_succ hx]at hw
   rcases List.mem_append.mp hw with hw|hw
   ·exact g z hz w hw
   ·rw[List.mem_singleton]at hw
    rw[hy']at hz;cases hz;subst hw
    exact λq=>by rw[q]at e;simp at e
  ·have:j=k:=by omega
   subst this
   rw[W_succ (n:=l.length) (by omega) (by omega)]
   exact⟨⟨j+1,rfl,by omega,(take_nd hy).mpr ⟨h,g _ hy⟩⟩,by omega⟩
 ·rw[List.take_of_length_le (by omega)]at h
  rw[repR,decide_eq_true h];rfl
def repR_c(l:(List Int)):PC Tryz.prog:=⟨89,[(.s 1)],[.sl 1 (l.map AV.int) false],repR_e (repR l),PSpec.of_ok λok=>(repR_p l ok).elim λI0 h=>h.elim λm0 h=>h.elim λI1 h=>h.elim λm1 h=>mxP_of (sh:=.k) (enc:=repR_e) (a:=(repR_x l I0 m0 I1 m1).an) h (by kernel_rfl) (AV.pureB_ok rfl),fnB_ok (by kernel_rfl)⟩
def vplnR_a(p:Pln):Prop:=okL [.agg [.int p.sub,.int p.len,.sl 2 (p.es.map Edg.v) false]]
def vplnR_n0(p:Pln)(t0:Bool):NF:=⟨[(1,.k,.ref 0 0),(32,.k,.bool t0)],[.box (.agg [.int p.sub,.int p.len,.sl 2 (p.es.map Edg.v) false])]⟩
def vplnR_n1(p:Pln)(t1:Int×(List Int)):NF:=⟨[(1,.k,.ref 0 0),(3,.k,.vec 1),(4,.k,.int t1.1)],[.box (.agg [.int p.sub,.int p.len,.sl 2 (p.es.map Edg.v) false]),.vec 1 (t1.2.map AV.int) (pureBL_map (λ_=>rfl) t1.2)]⟩
def vplnR_n2(p:Pln)(t1:Int×(List Int))(x1:Edg)(t2:Bool):NF:=⟨[(1,.k,.ref 0 0),(3,.k,.vec 1),(4,.k,.int t1.1),(5,.k,.ref 2 0),(70,.k,.bool t2)],[.box (.agg [.int p.sub,.int p.len,.sl 2 (p.es.map Edg.v) false]),.vec 1 (t1.2.map AV.int) (pureBL_map (λ_=>rfl) t1.2),.box (.agg [.int x1.router,.int x1.id])]⟩
@[reducible] def vplnR_s:Nat→Type
 | 0=>Bool
 | 1=>Int×(List Int)
 | 2=>Bool
 | _=>Unit
def vplnR_e(r:Bool):AV:=.bool r
def vplnR_x(p:Pln)(I0:Bool→Prop)(I1:Bool→(Int×(List Int))→Prop)(m1:Bool→(Int×(List Int))→Nat)(I2:Bool→Int×(List Int)→Edg→Bool→Prop):Ax Tryz.prog vplnR_s (Bool):=
 (.pass (.pass (.join 0 (vplnR_n0 p) (λ(t0:Bool)=>I0 t0) (λb0=>(.callP (insR_c p.sub 0 7)
(.br 112 (!(inP p.sub 0 7)) (.bk 0 b0 ((true):Bool) [0])
(.callP (vlenR_c p.len)
(.br 192 (!(vlenP p.len)) (.br 256 (p.len != 0) (.bk 0 b0 ((true):Bool) [0])
(.br 384 (decide (0<((p.es.map Edg.v).length:Int))) (.bk 0 b0 ((true):Bool) [0])
(.bk 0 b0 ((decide (24<((p.es.map Edg.v).length:Int))):Bool) [0])))
(.bk 0 b0 ((decide (24<((p.es.map Edg.v).length:Int))):Bool) [0])))))) λ(t0:Bool) =>
(.br 1 t0 (.ret (false))
(.cmdL (.nilT 3 1) (.loop 1 (vplnR_n1 p) (I1 t0) (m1 t0) (0,[]) [0,33] λ(t1:Int×(List Int)) b1 =>
(.br 82 (decide (t1.1<((p.es.map Edg.v).length:Int))) (.el 130 Edg.v p.es (λR=>Rf (p.es.map Edg.v) (ck (decide (0≤t1.1)) (ck (decide (t1.1<(p.es.length:Int)))
(∀x1,p.es[t1.1.toNat]?=some x1 →
(R x1))))) λx1 =>
(.pass (.join 2 (vplnR_n2 p t1 x1) (λ(t2:Bool)=>I2 t0 t1 x1 t2) (λb2=>(.callP (insR_c x1.id 1 256)
(.br 274 (!(inP x1.id 1 256)) (.bk 2 b2 ((true):Bool) [0,1,162])
(.callP (insR_c x1.router 1 99)
(.br 370 (!(inP x1.router 1 99)) (.bk 2 b2 ((true):Bool) [0,1,162])
(.br 418 (decide (0<t1.1)) (.el 482 Edg.v p.es (λR=>Rf (p.es.map Edg.v) (ck (decide (0≤(W (t1.1-1)))) (ck (decide ((W (t1.1-1))<(p.es.length:Int)))
(∀x2,p.es[(W (t1.1-1)).toNat]?=some x2 →
(R x2))))) λx2 =>
(.bk 2 b2 ((decide (x1.id≤x2.id)):Bool) [0,1,162]))
(.bk 2 b2 ((false):Bool) [0,1,162]))))))) λ(t2:Bool) =>
(.br 3 t2 (.ret (false))
(.say (λR=>Rf (α:=List AV) (t1.2.map AV.int) (Rf (α:=List AV) [.int x1.router]
(ck (decide (t1.2.length+1≤1048576))
R))) (.app 67 AV.int t1.2 [x1.router]
(.bk 1 b1 (W (t1.1+1),t1.2++[x1.router]) [0,67])))))))
(.callP (repR_c t1.2)
(.say (ck (pureBLs [(t1.2.map AV.int)])) (.ret (!(repR t1.2))))))))))))
def vplnR_vc(p:Pln)(I0:Bool→Prop)(I1:Bool→(Int×(List Int))→Prop)(m1:Bool→(Int×(List Int))→Nat)(I2:Bool→Int×(List Int)→Edg→Bool→Prop)(r0:Bool):Prop:=(vplnR_x p I0 I1 m1 I2).vp vplnR_e r0
def edgN(es:List Edg)(j:Nat)(e:Edg):Prop:=edgR e∧∀e',0<j→es[j-1]?=some e'→e'.id<e.id
theorem plnE_iffN{es:List Edg}:plnE es↔(∀j e,es[j]?=some e→edgN es j e)∧(es.map Edg.router).Nodup:=by
 constructor
 ·exact λh=>⟨λj e he=>⟨(plnE_iff.mp h j e he).1,(plnE_iff.mp h j e he).2.2⟩,h.2.1⟩
 ·intro h
  refine⟨λe he=>?_,h.2,?_⟩
  ·obtain⟨j,hj⟩:=List.getElem?_of_mem he
   exact(h.1 j e hj).1
  ·rw[List.pairwise_map]
   refine ForA.done (l:=es) (R:=λa b=>a.id<b.id) (t:=((es.length+1:Nat):Int)) ⟨es.length+1,rfl,by omega,by omega,λj x y hj hx hy=>?_⟩ (by omega) λx y z q r=>Int.lt_trans q r
   exact(h.1 (j+1) y hy).2 x (by omega) (by simpa using hx)
theorem vplnR_p(p:Pln)(ok:vplnR_a p):∃I0 I1 m1 I2,vplnR_vc p I0 I1 m1 I2 (plnOkB p):=by
 refine⟨λb=>b=decide (¬plnH p),λ_ t=>ForX p.es (λe=>[e.router]) t.1 t.2∧∃k:Nat,t.1=k∧∀j e,j<k→p.es[j]?=some e→edgN p.es j e,λ_ t=>p.es.length-t.1.toNat,λ_ t x b=>b=true↔¬edgN p.es t.1.toNat x,?_⟩
 simp only[vplnR_a,okU,Blk.ok,plainV,List.length_map]at ok
 dsimp only[vplnR_vc,vplnR_x,vplnR_s,Ax.vp,Ax.vc];simp only[vcU,rfU,List.length_map]
 have hes:p.es=[]↔¬0<(p.es.length:Int):=by rw[←List.length_eq_zero_iff];omega
 refine⟨⟨λc=>?_,λc=>⟨λd=>⟨λe=>?_,λe=>⟨λg=>?_,λg=>?_⟩⟩,λd=>?_⟩⟩,?_⟩
 ·have c:¬(0≤p.sub∧p.sub≤7):=inP_t.mp c
  exact(decide_eq_true (show ¬plnH p from λq=>c q.1)).symm
 ·have d:vlenP p.len=false:=by simpa using d
  have e:p.len≠0:=by simpa using e
  exact(decide_eq_true (show ¬plnH p from λq=>by
   rcases q.2.1 with r|r
   ·rw[d]at r;cases r
   ·exact e r.1)).symm
 ·have d:vlenP p.len=false:=by simpa using d
  exact(decide_eq_true (show ¬plnH p from λq=>by
   rcases q.2.1 with r|r
   ·rw[d]at r;cases r
   ·exact hes.mp r.2 g)).symm
 ·have c:0≤p.sub∧p.sub≤7:=inP_f.mp c
  have e:p.len=0:=by simpa using e
  rw[decide_eq_decide]
  unfold plnH
  rw[and_iff_right c,and_iff_right (.inr ⟨e,hes.mpr g⟩)]
  omega
 ·have c:0≤p.sub∧p.sub≤7:=inP_f.mp c
  have d:vlenP p.len=true:=by simpa using d
  rw[decide_eq_decide]
  unfold plnH
  rw[and_iff_right c,and_iff_right (.inl d)]
  omega
 rintro _ rfl
 refine⟨λc=>?_,λc=>⟨⟨ForX.zero,0,rfl,λj e h=>by omega⟩,?_⟩⟩
 ·rw[plnOkB,decide_eq_false (of_decide_eq_true c)];rfl
 have c:=Classical.not_not.mp (of_decide_eq_false c)
 have hl:=c.2.2
 rintro⟨i,out⟩ ⟨hx0,k,hi,h⟩
 simp only at hi hx0 ⊢
 have hlen:=hx0.len (b:=1) (by simp)
 have h0:=hx0.idx
 refine⟨λd=>⟨h0,d,λx hx=>⟨?_,?_⟩⟩,λd=>?_⟩
 ·refine⟨λe1=>?_,λe1=>⟨λe2=>?_,λe2=>⟨λe4=>?_,λe4=>?_⟩⟩⟩
  ·have e1:¬(1≤x.id∧x.id≤256):=inP_t.mp e1
   exact iff_of_true trivial λq=>e1 q.1.1
  ·have e2:¬(1≤x.router∧x.router≤99):=inP_t.mp e2
   exact iff_of_true trivial λq=>e2 q.1.2
  ·have e1:1≤x.id∧x.id≤256:=inP_f.mp e1
   have e2:1≤x.router∧x.router≤99:=inP_f.mp e2
   subst hi
   rw[W_pred (by omega) (by omega)]
   refine⟨by omega,by omega,λy hy=>?_⟩
   rw[Int.toNat_natCast]at hy
   simp only[Int.toNat_natCast,decide_eq_true_eq]
   constructor
   ·exact λq r=>by have:=r.2 y (by omega) hy;omega
   ·intro q
    refine Classical.byContradiction λr=>q ⟨⟨e1,e2⟩,λy' _ hy'=>?_⟩
    rw[hy]at hy';cases hy';omega
  ·have e1:1≤x.id∧x.id≤256:=inP_f.mp e1
   have e2:1≤x.router∧x.router≤99:=inP_f.mp e2
   exact iff_of_false Bool.false_ne_true λq=>q ⟨⟨e1,e2⟩,λy' h0 _=>by omega⟩
 ·intro b hb
  refine⟨λe=>?_,λe=>?_⟩
  ·have:¬plnE p.es:=λq=>hb.mp e ((plnE_iffN.mp q).1 i.toNat x hx)
   rw[plnOkB,decide_eq_false this,Bool.and_false]
  ·have hg:edgN p.es i.toNat x:=Classical.not_not.mp λq=>by rw[hb.mpr q]at e;cases e
   obtain⟨a1,a2⟩:=hx0.step (out':=out++[x.router]) (by omega) hx rfl
   refine⟨by omega,⟨a1,k+1,?_,λj y hj hy=>?_⟩,a2⟩
   ·rw[W_eq (by omega)];omega
   ·by_cases e':j=k
    ·subst e';subst hi
     rw[Int.toNat_natCast]at hx hg
     rw[hx]at hy;cases hy;exact hg
    ·exact h j y (by omega) hy
 ·have hd:=hx0.done d
  rw[flatMap_one]at hd
  have:plnE p.es↔(p.es.map Edg.router).Nodup:=by
   rw[plnE_iffN]
   exact⟨λq=>q.2,λq=>⟨λj e he=>h j e (by have:=lt_of_get he;omega) he,q⟩⟩
  refine⟨pureBLs_one (pureBL_map (λ_=>rfl) _),?_⟩
  rw[plnOkB,decide_eq_true c,decide_eq_decide.mpr this,hd,repR,Bool.not_not];rfl
def vplnR_c(p:Pln):PC Tryz.prog:=⟨41,[(.a [.k,.k,(.s 2)])],[.agg [.int p.sub,.int p.len,.sl 2 (p.es.map Edg.v) false]],vplnR_e (plnOkB p),PSpec.of_ok λok=>(vplnR_p p ok).elim λI0 h=>h.elim λI1 h=>h.elim λm1 h=>h.elim λI2 h=>mxP_of (sh:=.k) (enc:=vplnR_e) (a:=(vplnR_x p I0 I1 m1 I2).an) h (by kernel_rfl) (AV.pureB_ok rfl),fnB_ok (by kernel_rfl)⟩
def edgF(p:Pln)(id:Int):Edg×Bool:=match p.es.find? λe=>e.id==id with
 | some e=>(e,true)
 | none=>(⟨0,0⟩,false)
def edgF_a(p:Pln)(id:Int):Prop:=okL [.agg [.int p.sub,.int p.len,.sl 2 (p.es.map Edg.v) false],.int id]
def edgF_n0(p:Pln)(id:Int)(t0:Int):NF:=⟨[(1,.k,.int id),(2,.k,.ref 0 0),(4,.k,.ref 1 0),(6,.k,.int t0)],[.box (.agg [.int p.sub,.int p.len,.sl 2 (p.es.map Edg.v) false]),.box (.agg [.int 0,.int 0])]⟩
@[reducible] def edgF_s:Nat→Type
 | 0=>Int
 | _=>Unit
def edgF_e(r:Edg×Bool):AV:=.tup [Edg.v r.1,.bool r.2]
def edgF_x(p:Pln)(id:Int)(I0:Int→Prop)(m0:Int→Nat):Ax Tryz.prog edgF_s (Edg×Bool):=
 (.loop 0 (edgF_n0 p id) I0 m0 ((0):Int) [0,16] λ(t0:Int) b0 =>
(.br 82 (decide (t0<((p.es.map Edg.v).length:Int))) (.el 130 Edg.v p.es (λR=>Rf (p.es.map Edg.v) (ck (decide (0≤t0)) (ck (decide (t0<(p.es.length:Int)))
(∀x1,p.es[t0.toNat]?=some x1 →
(R x1))))) λx1 =>
(.br 210 (x1.id==id) (.el 258 Edg.v p.es (λR=>Rf (p.es.map Edg.v) (ck (decide (0≤t0)) (ck (decide (t0<(p.es.length:Int)))
(∀x2,p.es[t0.toNat]?=some x2 →
(R x2))))) λx2 =>
(.ret (x2,true)))
(.bk 0 b0 ((W (t0+1)):Int) [0,1])))
(.ret ((⟨0,0⟩:Edg),false))))
def edgF_vc(p:Pln)(id:Int)(I0:Int→Prop)(m0:Int→Nat)(r0:Edg×Bool):Prop:=(edgF_x p id I0 m0).vp edgF_e r0
theorem edgF_p(p:Pln)(r:Int)(ok:edgF_a p r):∃I m,edgF_vc p r I m (edgF p r):=by
 refine⟨λt=>ForI p.es (λe=>(e.id==r)=false) t,λt=>p.es.length-t.toNat,?_⟩
 simp only[edgF_a,okU,Blk.ok,plainV,List.length_map]at ok
 dsimp only[edgF_vc,edgF_x,edgF_s,Ax.vp,Ax.vc];simp only[vcU,rfU,List.length_map]
 refine⟨ForI.zero,λt h=>⟨λc=>⟨h.idx,c,λx hx=>⟨λq=>?_,λq=>h.step (by omega) hx q⟩⟩,λc=>?_⟩⟩
 ·refine⟨h.idx,c,λy hy=>?_⟩
  rw[hx]at hy;cases hy
  rw[edgF,h.find (p:=λe=>e.id==r) hx q]
 ·rw[edgF,h.nofind (p:=λe=>e.id==r) c]
def edgF_c(p:Pln)(id:Int):PC Tryz.prog:=⟨19,[(.a [.k,.k,(.s 2)]),.k],[.agg [.int p.sub,.int p.len,.sl 2 (p.es.map Edg.v) false],.int id],edgF_e (edgF p id),PSpec.of_ok λok=>(edgF_p p id ok).elim λI0 h=>h.elim λm0 h=>mxP_of (sh:=.k) (enc:=edgF_e) (a:=(edgF_x p id I0 m0).an) h (by kernel_rfl) (AV.pureB_ok rfl),fnB_ok (by kernel_rfl)⟩
def edgQ_a(p:Pln)(id:Int):Prop:=okL [.agg [.int p.sub,.int p.len,.sl 2 (p.es.map Edg.v) false],.int id]
def edgQ_n0(p:Pln)(id:Int)(t0:Int):NF:=⟨[(1,.k,.int id),(9,.k,.sl 2 (p.es.map Edg.v) false),(10,.k,.int ((p.es.map Edg.v).length:Int)),(11,.k,.int t0)],[]⟩
@[reducible] def edgQ_s:Nat→Type
 | 0=>Int
 | _=>Unit
def edgQ_e(r:Int×Bool):AV:=.tup [.int r.1,.bool r.2]
def edgQ_x(p:Pln)(id:Int)(I0:Int→Prop)(m0:Int→Nat):Ax Tryz.prog edgQ_s (Int×Bool):=
 (.loop 0 (edgQ_n0 p id) I0 m0 ((0):Int) [] λ(t0:Int) b0 =>
(.br 16 (decide (t0<((p.es.map Edg.v).length:Int))) (.el 16 Edg.v p.es (λR=>Rf (p.es.map Edg.v) (ck (decide (0≤t0)) (ck (decide (t0<(p.es.length:Int)))
(∀x1,p.es[t0.toNat]?=some x1 →
(R x1))))) λx1 =>
(.br 144 (x1.id==id) (.ret (x1.router,true))
(.bk 0 b0 ((W (t0+1)):Int) [])))
(.ret (0,false))))
def edgQ_vc(p:Pln)(id:Int)(I0:Int→Prop)(m0:Int→Nat)(r0:Int×Bool):Prop:=(edgQ_x p id I0 m0).vp edgQ_e r0
theorem edgQ_p(p:Pln)(r:Int)(ok:edgQ_a p r):∃I m,edgQ_vc p r I m ((edgF p r).1.router,(edgF p r).2):=by
 refine⟨λt=>ForI p.es (λe=>(e.id==r)=false) t,λt=>p.es.length-t.toNat,?_⟩
 simp only[edgQ_a,okU,Blk.ok,plainV,List.length_map]at ok
 dsimp only[edgQ_vc,edgQ_x,edgQ_s,Ax.vp,Ax.vc];simp only[vcU,rfU,List.length_map]
 refine⟨ForI.zero,λt h=>⟨λc=>⟨h.idx,c,λx hx=>⟨λq=>?_,λq=>h.step (by omega) hx q⟩⟩,λc=>?_⟩⟩
 ·rw[edgF,h.find (p:=λe=>e.id==r) hx q]
 ·rw[edgF,h.nofind (p:=λe=>e.id==r) c]
def edgQ_c(p:Pln)(id:Int):PC Tryz.prog:=⟨35,[(.a [.k,.k,(.s 2)]),.k],[.agg [.int p.sub,.int p.len,.sl 2 (p.es.map Edg.v) false],.int id],edgQ_e ((edgF p id).1.router,(edgF p id).2),PSpec.of_ok λok=>(edgQ_p p id ok).elim λI0 h=>h.elim λm0 h=>mxP_of (sh:=.k) (enc:=edgQ_e) (a:=(edgQ_x p id I0 m0).an) h (by kernel_rfl) (AV.pureB_ok rfl),fnB_ok (by kernel_rfl)⟩
def dtC(t:Tpl)(n e x:Int):Bool:=x==e || avo6 t x e n
def dtA(t:Tpl)(r n e:Int):List Int:=rou6 (witT t ⟨[],[n]⟩) r e
def dtB(t:Tpl)(r n:Int):List Int:=rou6 (witT t ⟨[⟨r,n⟩],[]⟩) r n
def dtl(t:Tpl)(r n e:Int):List Int:=if e≠n∧(dtA t r n e).any (dtC t n e)=true then(dtA t r n e).take ((idxF (dtC t n e) (dtA t r n e)).toNat+1)else dtB t r n
theorem dtl_found{t:Tpl}{r n e i x:Int}(hne:e≠n)(h:ForI (dtA t r n e) (λx=>dtC t n e x=false) i)(hx:(dtA t r n e)[i.toNat]?=some x)(hp:dtC t n e x=true) :
  bndB (dtA t r n e).length 0 (W (i+1)) ((dtA t r n e).length:Int)=true∧(dtA t r n e).take (W (i+1)).toNat=dtl t r n e∧0<(dtl t r n e).length:=by
 have e1:=h.found hx hp
 have ha:(dtA t r n e).any (dtC t n e)=true:=List.any_eq_true.mpr ⟨x,at_mem hx,hp⟩
 have hl:(dtA t r n e).length≤25:=rou6_len _ _ _
 have h0:=h.idx
 have hlt:=lt_of_get hx
 have hw:W (i+1)=i+1:=W_eq (by omega)
 unfold dtl
 rw[if_pos ⟨hne,ha⟩,←e1,hw,show(i+1).toNat=i.toNat+1 by omega]
 refine⟨?_,rfl,by rw[List.length_take];omega⟩
 simp[bndB];omega
theorem dtl_lost{t:Tpl}{r n e i:Int}(h:ForI (dtA t r n e) (λx=>dtC t n e x=false) i)(c:¬i<(dtA t r n e).length):dtl t r n e=dtB t r n:=by
 unfold dtl
 rw[if_neg]
 rintro⟨_,q⟩
 obtain⟨x,hx,e⟩:=List.any_eq_true.mp q
 rw[h.done c x hx]at e;cases e
def dtlP_a(t:Tpl)(router:Int)(neighbour:Int)(e:Int):Prop:=okL [.agg [.sl 2 (t.rs.map Rtr.v) false,.sl 5 (t.ls.map Lnk.v) false],.int router,.int neighbour,.int e]
def dtlP_n0(t:Tpl)(router:Int)(neighbour:Int)(e:Int)(t0:Int):NF:=⟨[(1,.k,.int router),(2,.k,.int neighbour),(3,.k,.int e),(4,.k,.ref 0 0),(9,.k,.sl 1 ((rou6 (witT t (⟨[],[neighbour]⟩:Flr)) router e).map AV.int) false),(23,.k,.sl 1 ((rou6 (witT t (⟨[],[neighbour]⟩:Flr)) router e).map AV.int) false),(24,.k,.int (((rou6 (witT t (⟨[],[neighbour]⟩:Flr)) router e).map AV.int).length:Int)),(25,.k,.int t0)],[.box (.agg [.sl 2 (t.rs.map Rtr.v) false,.sl 5 (t.ls.map Lnk.v) false])]⟩
def dtlP_n1(t:Tpl)(router:Int)(neighbour:Int)(e:Int)(t0:Int)(t1:Bool):NF:=⟨[(1,.k,.int router),(2,.k,.int neighbour),(3,.k,.int e),(4,.k,.ref 0 0),(9,.k,.sl 1 ((rou6 (witT t (⟨[],[neighbour]⟩:Flr)) router e).map AV.int) false),(10,.k,.int t0),(23,.k,.sl 1 ((rou6 (witT t (⟨[],[neighbour]⟩:Flr)) router e).map AV.int) false),(24,.k,.int (((rou6 (witT t (⟨[],[neighbour]⟩:Flr)) router e).map AV.int).length:Int)),(25,.k,.int t0),(39,.k,.bool t1)],[.box (.agg [.sl 2 (t.rs.map Rtr.v) false,.sl 5 (t.ls.map Lnk.v) false])]⟩
@[reducible] def dtlP_s:Nat→Type
 | 0=>Int
 | 1=>Bool
 | _=>Unit
def dtlP_e(r:(List Int)):AV:=.sl 1 (r.map AV.int) false
def dtlP_x(t:Tpl)(router:Int)(neighbour:Int)(e:Int)(I0:Int→Prop)(m0:Int→Nat)(I1:Int→Int→Bool→Prop):Ax Tryz.prog dtlP_s ((List Int)):=
 (.br 80 (e != neighbour) (.callP (witP_c t (⟨[],[neighbour]⟩:Flr))
(.callP (rouS_c (witT t (⟨[],[neighbour]⟩:Flr)) router e)
(.loop 0 (dtlP_n0 t router neighbour e) I0 m0 ((0):Int) [0] λ(t0:Int) b0 =>
(.br 17 (decide (t0<(((rou6 (witT t (⟨[],[neighbour]⟩:Flr)) router e).map AV.int).length:Int))) (.el 33 AV.int (rou6 (witT t (⟨[],[neighbour]⟩:Flr)) router e) (λR=>Rf ((rou6 (witT t (⟨[],[neighbour]⟩:Flr)) router e).map AV.int) (ck (decide (0≤t0)) (ck (decide (t0<((rou6 (witT t (⟨[],[neighbour]⟩:Flr)) router e).length:Int)))
(∀x1,(rou6 (witT t (⟨[],[neighbour]⟩:Flr)) router e)[t0.toNat]?=some x1 →
(R x1))))) λx1 =>
(.join 1 (dtlP_n1 t router neighbour e t0) (λ(t1:Bool)=>I1 t0 x1 t1) (λb1=>(.br 161 (x1==e) (.bk 1 b1 ((true):Bool) [0])
(.callP (avoS_c t x1 e neighbour)
(.bk 1 b1 ((avo6 t x1 e neighbour):Bool) [0])))) λ(t1:Bool) =>
(.br 1 t1 (.say (λR=>Rf (α:=List AV) ((rou6 (witT t (⟨[],[neighbour]⟩:Flr)) router e).map AV.int) (ck (bndB (rou6 (witT t (⟨[],[neighbour]⟩:Flr)) router e).length 0 (W (t0+1)) ((rou6 (witT t (⟨[],[neighbour]⟩:Flr)) router e).length:Int))
R)) (.sub 49 AV.int (rou6 (witT t (⟨[],[neighbour]⟩:Flr)) router e) false
(.ret (((rou6 (witT t (⟨[],[neighbour]⟩:Flr)) router e).take ((W (t0+1)).toNat)).drop 0))))
(.bk 0 b0 ((W (t0+1)):Int) [0]))))
(.callP (witP_c t (⟨[(⟨router,neighbour⟩:Hop)],[]⟩:Flr))
(.callP (rouS_c (witT t (⟨[(⟨router,neighbour⟩:Hop)],[]⟩:Flr)) router neighbour)
(.ret (rou6 (witT t (⟨[(⟨router,neighbour⟩:Hop)],[]⟩:Flr)) router neighbour))))))))
(.callP (witP_c t (⟨[(⟨router,neighbour⟩:Hop)],[]⟩:Flr))
(.callP (rouS_c (witT t (⟨[(⟨router,neighbour⟩:Hop)],[]⟩:Flr)) router neighbour)
(.ret (rou6 (witT t (⟨[(⟨router,neighbour⟩:Hop)],[]⟩:Flr)) router neighbour)))))
def dtlP_vc(t:Tpl)(router:Int)(neighbour:Int)(e:Int)(I0:Int→Prop)(m0:Int→Nat)(I1:Int→Int→Bool→Prop)(r0:(List Int)):Prop:=(dtlP_x t router neighbour e I0 m0 I1).vp dtlP_e r0
theorem dtlP_p(t:Tpl)(r n e:Int)(h:chk5 t=0)(ok:dtlP_a t r n e):∃I0 m0 I1,dtlP_vc t r n e I0 m0 I1 (dtl t r n e):=by
 refine⟨λi=>ForI (dtA t r n e) (λx=>dtC t n e x=false) i,λi=>(dtA t r n e).length-i.toNat,λ_ x b=>b=dtC t n e x,?_⟩
 dsimp only[dtlP_vc,dtlP_x,dtlP_s,Ax.vp,Ax.vc];simp only[vcU,rfU,List.length_map]
 refine⟨λc=>⟨ForI.zero,λi hI=>⟨λd=>⟨hI.idx,d,λx hx=>⟨⟨λq=>by rw[dtC,q];rfl,λq=>by rw[dtC,q];rfl⟩,?_⟩⟩,λd=>(dtl_lost hI d).symm⟩⟩,λc=>?_⟩
 ·have c:e≠n:=by simpa using c
  rintro _ rfl
  refine⟨λq=>?_,λq=>?_⟩
  ·obtain⟨a1,a2,_⟩:=dtl_found c hI hx q
   exact⟨a1,by rw[List.drop_zero];exact a2⟩
  ·have hl:(dtA t r n e).length≤25:=rou6_len _ _ _
   exact hI.step (by omega) hx q
 ·have c:e=n:=by simpa using c
  unfold dtl;rw[if_neg (λq=>q.1 c)];rfl
def dtlP_c(t:Tpl)(router:Int)(neighbour:Int)(e:Int)(h:chk5 t=0):PC Tryz.prog:=⟨39,[(.a [(.s 2),(.s 5)]),.k,.k,.k],[.agg [.sl 2 (t.rs.map Rtr.v) false,.sl 5 (t.ls.map Lnk.v) false],.int router,.int neighbour,.int e],dtlP_e (dtl t router neighbour e),PSpec.of_ok λok=>(dtlP_p t router neighbour e h ok).elim λI0 h=>h.elim λm0 h=>h.elim λI1 h=>mxP_of (sh:=(.s 1)) (enc:=dtlP_e) (a:=(dtlP_x t router neighbour e I0 m0 I1).an) h (by kernel_rfl) (AV.pureB_ok rfl),fnB_ok (by kernel_rfl)⟩
def dtoB(t:Tpl)(p:Pln)(r n id:Int):Bool:=decide (chk5 t≠0) || (!plnOkB p || (!capT t || (!(cos5 t r n).2 || (!(edgF p id).2 || (edgF p id).1.router==r))))
def dtoT(t:Tpl)(p:Pln)(r n id:Int):List Int×Bool:=
 if dtoB t p r n id=true then([],false)else(dtl t r n (edgF p id).1.router,decide (0<(dtl t r n (edgF p id).1.router).length))
def dtoP_a(t:Tpl)(p:Pln)(router:Int)(neighbour:Int)(id:Int):Prop:=okL [.agg [.sl 2 (t.rs.map Rtr.v) false,.sl 5 (t.ls.map Lnk.v) false],.agg [.int p.sub,.int p.len,.sl 2 (p.es.map Edg.v) false],.int router,.int neighbour,.int id]
def dtoP_n0(t:Tpl)(p:Pln)(router:Int)(neighbour:Int)(id:Int)(t0:Bool):NF:=⟨[(2,.k,.int router),(3,.k,.int neighbour),(5,.k,.ref 0 0),(14,.k,.int ((edgF p id).1.router)),(55,.k,.bool t0)],[.box (.agg [.sl 2 (t.rs.map Rtr.v) false,.sl 5 (t.ls.map Lnk.v) false])]⟩
@[reducible] def dtoP_s:Nat→Type
 | 0=>Bool
 | _=>Unit
def dtoP_e(r:(List Int)×Bool):AV:=.tup [.sl 1 (r.1.map AV.int) false,.bool r.2]
def dtoP_x(t:Tpl)(p:Pln)(router:Int)(neighbour:Int)(id:Int)(I0:Bool→Prop):Ax Tryz.prog dtoP_s ((List Int)×Bool):=
 (.callP (cosP_c t router neighbour)
(.callP (edgQ_c p id)
(.pass (.join 0 (dtoP_n0 t p router neighbour id) (λ(t0:Bool)=>I0 t0) (λb0=>(.callP (chkP_c t)
(.br 400 ((chk5 t) != 0) (.bk 0 b0 ((true):Bool) [0])
(.callP (vplnP_c p)
(.br 480 (!(plnOkB p)) (.bk 0 b0 ((true):Bool) [0])
(.callP (capP_c t)
(.br 560 (!(capT t)) (.bk 0 b0 ((true):Bool) [0])
(.br 624 (!((cos5 t router neighbour).2)) (.bk 0 b0 ((true):Bool) [0])
(.br 688 (!((edgF p id).2)) (.bk 0 b0 ((true):Bool) [0])
(.bk 0 b0 ((((edgF p id).1.router)==router):Bool) [0])))))))))) λ(t0:Bool) =>
(.br 1 t0 (.ret ([],false))
(.req 65 (chk5 t=0) λh1 =>
(.callP (dtlP_c t router neighbour ((edgF p id).1.router) h1)
(.ret (dtl t router neighbour ((edgF p id).1.router),decide (0<(((dtl t router neighbour ((edgF p id).1.router)).map AV.int).length:Int)))))))))))
def dtoP_vc(t:Tpl)(p:Pln)(router:Int)(neighbour:Int)(id:Int)(I0:Bool→Prop)(r0:(List Int)×Bool):Prop:=(dtoP_x t p router neighbour id I0).vp dtoP_e r0
theorem dtoP_p(t:Tpl)(p:Pln)(r n id:Int)(ok:dtoP_a t p r n id):∃I0,dtoP_vc t p r n id I0 (dtoT t p r n id):=by
 refine⟨λb=>b=dtoB t p r n id,?_⟩
 dsimp only[dtoP_vc,dtoP_x,dtoP_s,Ax.vp,Ax.vc];simp only[vcU,rfU,List.length_map]
 refine⟨⟨λc=>by unfold dtoB;simp at c;simp[c],λc=>⟨λd=>by unfold dtoB;simp at d;simp[d],λd=>⟨λe=>by unfold dtoB;simp at e;simp[e],λe=>⟨λf=>by unfold dtoB;simp at f;simp[f],λf=>⟨λg=>by unfold dtoB;simp at g;simp[g],λg=>?_⟩⟩⟩⟩⟩,?_⟩
 ·unfold dtoB;simp at c d e f g;simp[c,d,e,f,g]
 rintro _ rfl
 refine⟨λc=>by rw[dtoT,if_pos c],λc=>⟨?_,by rw[dtoT,if_neg (by rw[c];simp)];simp⟩⟩
 unfold dtoB at c
 simp at c;exact c.1
def dtoP_c(t:Tpl)(p:Pln)(router:Int)(neighbour:Int)(id:Int):PC Tryz.prog:=⟨10,[(.a [(.s 2),(.s 5)]),(.a [.k,.k,(.s 2)]),.k,.k,.k],[.agg [.sl 2 (t.rs.map Rtr.v) false,.sl 5 (t.ls.map Lnk.v) false],.agg [.int p.sub,.int p.len,.sl 2 (p.es.map Edg.v) false],.int router,.int neighbour,.int id],dtoP_e (dtoT t p router neighbour id),PSpec.of_ok λok=>(dtoP_p t p router neighbour id ok).elim λI0 h=>mxP_of (sh:=(.a [(.s 1),.k])) (enc:=dtoP_e) (a:=(dtoP_x t p router neighbour id I0).an) h (by kernel_rfl) (AV.pureB_ok rfl),fnB_ok (by kernel_rfl)⟩
structure Dto where
  id:Int
  route:List Int
  deriving DecidableEq
def Dto.v(x:Dto):AV:=.agg [.int x.id,.sl 1 (x.route.map AV.int) false]
def dts1(t:Tpl)(p:Pln)(r n:Int)(x:Edg):List Dto:=if n∈nex6 t r x.router∧(dtoT t p r n x.id).2=true then [⟨x.id,(dtoT t p r n x.id).1⟩]else []
def dtsT(t:Tpl)(p:Pln)(r n:Int):List Dto×Int:=
 if chk5 t≠0∨plnOkB p=false then([],1)else if capT t=false then([],26)else if(cos5 t r n).2=false then([],4)else(p.es.flatMap (dts1 t p r n),0)
def dtsP_a(t:Tpl)(p:Pln)(router:Int)(neighbour:Int):Prop:=okL [.agg [.sl 2 (t.rs.map Rtr.v) false,.sl 5 (t.ls.map Lnk.v) false],.agg [.int p.sub,.int p.len,.sl 2 (p.es.map Edg.v) false],.int router,.int neighbour]
def dtsP_n0(t:Tpl)(p:Pln)(router:Int)(neighbour:Int)(t0:Bool):NF:=⟨[(2,.k,.int router),(3,.k,.int neighbour),(4,.k,.ref 0 0),(5,.k,.ref 1 0),(11,.k,.bool ((cos5 t router neighbour).2)),(24,.k,.bool t0)],[.box (.agg [.sl 2 (t.rs.map Rtr.v) false,.sl 5 (t.ls.map Lnk.v) false]),.box (.agg [.int p.sub,.int p.len,.sl 2 (p.es.map Edg.v) false])]⟩
def dtsP_n1(t:Tpl)(p:Pln)(router:Int)(neighbour:Int)(t1:Int×(List Dto)):NF:=⟨[(2,.k,.int router),(3,.k,.int neighbour),(4,.k,.ref 0 0),(5,.k,.ref 1 0),(12,.k,.vec 2),(41,.k,.sl 2 (p.es.map Edg.v) false),(42,.k,.int ((p.es.map Edg.v).length:Int)),(43,.k,.int t1.1)],[.box (.agg [.sl 2 (t.rs.map Rtr.v) false,.sl 5 (t.ls.map Lnk.v) false]),.box (.agg [.int p.sub,.int p.len,.sl 2 (p.es.map Edg.v) false]),.vec 2 (t1.2.map Dto.v) (pureBL_map (λ_=>rfl) t1.2)]⟩
@[reducible] def dtsP_s:Nat→Type
 | 0=>Bool
 | 1=>Int×(List Dto)
 | _=>Unit
def dtsP_e(r:(List Dto)×Int):AV:=.tup [.sl 2 (r.1.map Dto.v) false,.int r.2]
def dtsP_x(t:Tpl)(p:Pln)(router:Int)(neighbour:Int)(I0:Bool→Prop)(I1:Bool→(Int×(List Dto))→Prop)(m1:Bool→(Int×(List Dto))→Nat):Ax Tryz.prog dtsP_s ((List Dto)×Int):=
 (.callP (cosP_c t router neighbour)
(.pass (.join 0 (dtsP_n0 t p router neighbour) (λ(t0:Bool)=>I0 t0) (λb0=>(.callP (chkP_c t)
(.br 272 ((chk5 t) != 0) (.bk 0 b0 ((true):Bool) [0,16])
(.callP (vplnP_c p)
(.bk 0 b0 ((!(plnOkB p)):Bool) [0,16]))))) λ(t0:Bool) =>
(.br 2 t0 (.ret ([],1))
(.callP (capP_c t)
(.br 66 (!(capT t)) (.ret ([],26))
(.br 114 (!((cos5 t router neighbour).2)) (.ret ([],4))
(.cmdL (.nilT 12 2) (.loop 1 (dtsP_n1 t p router neighbour) (I1 t0) (m1 t0) (0,[]) [0,1,194] λ(t1:Int×(List Dto)) b1 =>
(.br 19 (decide (t1.1<((p.es.map Edg.v).length:Int))) (.el 19 Edg.v p.es (λR=>Rf (p.es.map Edg.v) (ck (decide (0≤t1.1)) (ck (decide (t1.1<(p.es.length:Int)))
(∀x1,p.es[t1.1.toNat]?=some x1 →
(R x1))))) λx1 =>
(.callP (nexS_c t router x1.router)
(.callP (contI_c (nex6 t router x1.router) neighbour)
(.br 211 (!(decide (neighbour∈(nex6 t router x1.router)))) (.bk 1 b1 (W (t1.1+1),t1.2) [0,1,2])
(.callP (dtoP_c t p router neighbour x1.id)
(.br 419 ((dtoT t p router neighbour x1.id).2) (.say (λR=>Rf (α:=List AV) (t1.2.map Dto.v) (Rf (α:=List AV) [.agg [.int x1.id,.sl 1 (((dtoT t p router neighbour x1.id).1).map AV.int) false]]
(ck (decide (t1.2.length+1≤1048576))
R))) (.app 515 Dto.v t1.2 [(⟨x1.id,(dtoT t p router neighbour x1.id).1⟩:Dto)]
(.bk 1 b1 (W (t1.1+1),t1.2++[(⟨x1.id,(dtoT t p router neighbour x1.id).1⟩:Dto)]) [0,1,515])))
(.bk 1 b1 (W (t1.1+1),t1.2) [0,1,2])))))))
(.say (Rf (t1.2.map Dto.v)) (.cmdL (.frzE 2 (t1.2.map Dto.v) (pureBL_map (λ_=>rfl) t1.2)) (.ret (t1.2,0))))))))))))))
def dtsP_vc(t:Tpl)(p:Pln)(router:Int)(neighbour:Int)(I0:Bool→Prop)(I1:Bool→(Int×(List Dto))→Prop)(m1:Bool→(Int×(List Dto))→Nat)(r0:(List Dto)×Int):Prop:=(dtsP_x t p router neighbour I0 I1 m1).vp dtsP_e r0
theorem dtsP_p(t:Tpl)(p:Pln)(r n:Int)(ok:dtsP_a t p r n):∃I0 I1 m1,dtsP_vc t p r n I0 I1 m1 (dtsT t p r n):=by
 refine⟨λb=>b=(decide (chk5 t≠0) || !plnOkB p),λ_ s=>ForX p.es (dts1 t p r n) s.1 s.2,λ_ s=>p.es.length-s.1.toNat,?_⟩
 dsimp only[dtsP_vc,dtsP_x,dtsP_s,Ax.vp,Ax.vc];simp only[vcU,rfU,List.length_map]
 refine⟨⟨λc=>by simp at c;simp[c],λc=>by simp at c;simp[c]⟩,?_⟩
 rintro _ rfl
 unfold dtsT
 refine⟨λc=>by rw[if_pos (by simpa using c)],λc=>?_⟩
 have c:¬(chk5 t≠0∨plnOkB p=false):=by simp at c;simp[c]
 have hpl:p.es.length≤24:=by
  have hp:plnOkB p=true:=by
   cases q:plnOkB p
   ·exact absurd (.inr q) c
   ·rfl
  unfold plnOkB at hp
  rw[Bool.and_eq_true,decide_eq_true_iff]at hp
  exact hp.1.2.2
 rw[if_neg c]
 refine⟨λd=>by rw[if_pos (by simpa using d)],λd=>?_⟩
 rw[if_neg (by simpa using d)]
 refine⟨λe=>by rw[if_pos (by simpa using e)],λe=>?_⟩
 rw[if_neg (by simpa using e)]
 refine⟨ForX.zero,?_⟩
 rintro⟨i,out⟩ hX
 simp only at hX ⊢
 have hlen:=hX.len (b:=1) λx _=>by unfold dts1;split<;>simp
 refine⟨λf=>⟨hX.idx,f,λx hx=>⟨λg=>?_,λg=>⟨λk=>⟨by omega,?_⟩,λk=>?_⟩⟩⟩,λf=>by rw[hX.done f]⟩
 ·have g:¬n∈nex6 t r x.router:=by simpa using g
  exact hX.step (by omega) hx (by unfold dts1;rw[if_neg (λq=>g q.1)];simp)
 ·have g:n∈nex6 t r x.router:=by simpa using g
  exact hX.step (by omega) hx (by unfold dts1;rw[if_pos ⟨g,k⟩])
 ·exact hX.step (by omega) hx (by unfold dts1;rw[if_neg (λq=>by rw[q.2]at k;cases k)];simp)
def dtsP_c(t:Tpl)(p:Pln)(router:Int)(neighbour:Int):PC Tryz.prog:=⟨13,[(.a [(.s 2),(.s 5)]),(.a [.k,.k,(.s 2)]),.k,.k],[.agg [.sl 2 (t.rs.map Rtr.v) false,.sl 5 (t.ls.map Lnk.v) false],.agg [.int p.sub,.int p.len,.sl 2 (p.es.map Edg.v) false],.int router,.int neighbour],dtsP_e (dtsT t p router neighbour),PSpec.of_ok λok=>(dtsP_p t p router neighbour ok).elim λI0 h=>h.elim λI1 h=>h.elim λm1 h=>mxP_of (sh:=(.a [(.s 2),.k])) (enc:=dtsP_e) (a:=(dtsP_x t p router neighbour I0 I1 m1).an) h (by kernel_rfl) (AV.pureB_ok rfl),fnB_ok (by kernel_rfl)⟩
def cutM_a(x:Int)(n:Int):Prop:=okL [.int x,.int n]
def cutM_e(r:Int):AV:=.int r
def cutM_x(x:Int)(n:Int):Ax Tryz.prog noS (Int):=
 (.br 48 (decide (n<1)) (.ret (0))
(.say (ck (!(n==0))) (.br 144 (decide ((x.tmod n)<0)) (.ret (W ((x.tmod n)+n)))
(.ret (x.tmod n)))))
def cutM_vc(x:Int)(n:Int)(r0:Int):Prop:=(cutM_x x n).vp cutM_e r0
theorem cutM_p(x n:Int)(ok:cutM_a x n):cutM_vc x n (Mod x n):=by
 simp only[cutM_a,okU,Blk.ok,plainV,List.length_map]at ok
 dsimp only[cutM_vc,cutM_x,noS,Ax.vp,Ax.vc];simp only[vcU,rfU,List.length_map]
 refine⟨λh=>by rw[Mod,if_pos h],λh=>⟨by simp;omega,λh2=>?_,λh2=>by rw[Mod,if_neg h,if_neg h2]⟩⟩
 have hb:=Int.tmod_lt_of_pos x (show 0<n by omega)
 have hb':=Int.lt_tmod_of_pos x (show 0<n by omega)
 rw[Mod,if_neg h,if_pos h2,W_eq (by omega)]
def cutM_c(x:Int)(n:Int):PC Tryz.prog:=⟨50,[.k,.k],[.int x,.int n],cutM_e (Mod x n),PSpec.of_ok λok=>mxP_of (sh:=.k) (enc:=cutM_e) (a:=(cutM_x x n).an) (cutM_p x n ok) (by kernel_rfl) (AV.pureB_ok rfl),fnB_ok (by kernel_rfl)⟩
def rawM_a(L:(List Int))(p:Int):Prop:=okL [.ref 0 0]∧(.box (.agg [.sl 1 (L.map AV.int) false,.int p]):Blk).ok
def rawM_e(r:TapI×Int):AV:=.int r.2
def rawM_b(r:TapI×Int):List (Option Blk):=[some (.box (.agg [.sl 1 (r.1.L.map AV.int) false,.int r.1.p]))]
def rawM_x(L:(List Int))(p:Int):Ax Tryz.prog noS (TapI×Int):=
 (.br 177 (decide (((L.map AV.int).length:Int)≤p)) (.retH ((⟨L,p⟩:TapI),0) ⟨[(2,.k,.int 0)],[.box (.agg [.sl 1 (L.map AV.int) false,.int p])]⟩ [0])
(.el 449 AV.int L (λR=>Rf (L.map AV.int) (ck (decide (0≤(W ((W (p+1))-1)))) (ck (decide ((W ((W (p+1))-1))<(L.length:Int)))
(∀x1,L[(W ((W (p+1))-1)).toNat]?=some x1 →
(R x1))))) λx1 =>
(.retH ((⟨L,W (p+1)⟩:TapI),x1) ⟨[(2,.k,.int x1)],[.box (.agg [.sl 1 (L.map AV.int) false,.int (W (p+1))])]⟩ [0])))
def rawM_vc(L:(List Int))(p:Int)(r0:TapI×Int):Prop:=(rawM_x L p).vc rawM_e rawM_b r0
theorem rawM_ok(L:(List Int))(p:Int)(r0:TapI×Int)(h:rawM_vc L p r0):HSpec Tryz.prog 51 [.ref 0 0] [.box (.agg [.sl 1 (L.map AV.int) false,.int p])] (rawM_e r0) (rawM_b r0):=mxH_of (sh:=.k) (hB:=rawM_b) (a:=(rawM_x L p).an) h (by kernel_rfl)
theorem rawM_p(L:List Int)(p:Nat)(ok:rawM_a L p):rawM_vc L p (⟨L,rawP L p⟩,rawV L p):=by
 simp only[rawM_a,okU,Blk.ok,plainV,List.length_map]at ok
 dsimp only[rawM_vc,rawM_x,noS,Ax.vp,Ax.vc];simp only[vcU,rfU,List.length_map]
 refine⟨λh=>?_,λh=>?_⟩
 ·rw[rawP,if_pos (by omega)];simp[rawV,List.getElem?_eq_none (show L.length≤p by omega)]
 ·have e1:W ((p:Int)+1)=p+1:=W_eq (by omega)
  have e2:W ((p:Int)+1-1)=p:=by rw[W_eq (by omega)];omega
  rw[e1,e2]
  refine⟨by omega,by omega,λx hx=>?_⟩
  rw[Int.toNat_natCast]at hx
  rw[rawP,if_neg (by omega)];simp[rawV,hx]
theorem rawM_spec(L:List Int)(p:Nat):HSpec Tryz.prog 51 [.ref 0 0] [.box (Tap.v ⟨L,p⟩)] (.int (rawV L p)) [some (.box (Tap.v ⟨L,rawP L p⟩))]:=
 HSpec.of_okh λok ok2=>rawM_ok L p _ (rawM_p L p ⟨ok,ok2 _ (List.mem_singleton.mpr rfl)⟩)
def rawM_h(L:List Int)(p:Nat):HC Tryz.prog:=⟨51,[],[.ref 0 0],[.box (Tap.v ⟨L,p⟩)],.int (rawV L p),[some (.box (Tap.v ⟨L,rawP L p⟩))],rawM_spec L p,fnB_ok (by kernel_rfl),HcOk.of rfl⟩
def nxtM_a(L:(List Int))(p:Nat)(n:Int):Prop:=okL [.ref 0 0,.int n]∧(.box (.agg [.sl 1 (L.map AV.int) false,.int ((p:Nat):Int)]):Blk).ok
def nxtM_e(r:Tap×Int):AV:=.int r.2
def nxtM_b(r:Tap×Int):List (Option Blk):=[some (.box (.agg [.sl 1 (r.1.L.map AV.int) false,.int ((r.1.p:Nat):Int)]))]
def nxtM_x(L:(List Int))(p:Nat)(n:Int):Ax Tryz.prog noS (Tap×Int):=
 (.callH [0] (rawM_h L p) 33
(.callP (cutM_c (rawV L p) n)
(.retH ((⟨L,rawP L p⟩:Tap),Mod (rawV L p) n) ⟨[(4,.k,.int (Mod (rawV L p) n))],[.box (.agg [.sl 1 (L.map AV.int) false,.int (((rawP L p):Nat):Int)])]⟩ [0])))
def nxtM_vc(L:(List Int))(p:Nat)(n:Int)(r0:Tap×Int):Prop:=(nxtM_x L p n).vc nxtM_e nxtM_b r0
theorem nxtM_p(L:List Int)(p:Nat)(n:Int)(ok:nxtM_a L p n):nxtM_vc L p n (⟨L,rawP L p⟩,Mod (rawV L p) n):=by
 dsimp only[nxtM_vc,nxtM_x,noS,Ax.vp,Ax.vc];simp only[vcU,rfU,List.length_map]
def nxtM_h(L:(List Int))(p:Nat)(n:Int):HC Tryz.prog:=⟨17,[.k,.k],[.ref 0 0,.int n],[.box (.agg [.sl 1 (L.map AV.int) false,.int ((p:Nat):Int)])],nxtM_e ((⟨L,rawP L p⟩,Mod (rawV L p) n):Tap×Int),nxtM_b ((⟨L,rawP L p⟩,Mod (rawV L p) n):Tap×Int),HSpec.of_okh λok ok2=>have ok:nxtM_a L p n:=⟨ok,ok2 _ (by simp)⟩;mxH_of (sh:=.k) (enc:=nxtM_e) (hB:=nxtM_b) (a:=(nxtM_x L p n).an) (nxtM_p L p n ok) (by kernel_rfl),fnB_ok (by kernel_rfl),HcOk.of (by simp[hcB,belBL,AV.belB,allB,okBk,okBkO,nxtM_e,nxtM_b,pureBL_map (v:=AV.int) (λ_=>rfl)])⟩
def rngM_a(L:(List Int))(p:Nat)(low:Int)(high:Int):Prop:=okL [.ref 0 0,.int low,.int high]∧(.box (.agg [.sl 1 (L.map AV.int) false,.int ((p:Nat):Int)]):Blk).ok
def rngM_e(r:Tap×Int):AV:=.int r.2
def rngM_b(r:Tap×Int):List (Option Blk):=[some (.box (.agg [.sl 1 (r.1.L.map AV.int) false,.int ((r.1.p:Nat):Int)]))]
def rngM_x(L:(List Int))(p:Nat)(low:Int)(high:Int):Ax Tryz.prog noS (Tap×Int):=
 (.callH [0] (nxtM_h L p (W ((W (high-low))+1))) 113
(.retH ((⟨L,rawP L p⟩:Tap),W (low+(Mod (rawV L p) (W ((W (high-low))+1))))) ⟨[(6,.k,.int (W (low+(Mod (rawV L p) (W ((W (high-low))+1))))))],[.box (.agg [.sl 1 (L.map AV.int) false,.int (((rawP L p):Nat):Int)])]⟩ [0]))
def rngM_vc(L:(List Int))(p:Nat)(low:Int)(high:Int)(r0:Tap×Int):Prop:=(rngM_x L p low high).vc rngM_e rngM_b r0
theorem rngM_p(L:List Int)(p:Nat)(lo hi:Int)(ok:rngM_a L p lo hi):rngM_vc L p lo hi (⟨L,rawP L p⟩,rng L p lo hi):=by
 dsimp only[rngM_vc,rngM_x,noS,Ax.vp,Ax.vc];simp only[vcU,rfU,List.length_map]
 rfl
def rngM_h(L:(List Int))(p:Nat)(low:Int)(high:Int):HC Tryz.prog:=⟨9,[.k,.k,.k],[.ref 0 0,.int low,.int high],[.box (.agg [.sl 1 (L.map AV.int) false,.int ((p:Nat):Int)])],rngM_e ((⟨L,rawP L p⟩,rng L p low high):Tap×Int),rngM_b ((⟨L,rawP L p⟩,rng L p low high):Tap×Int),HSpec.of_okh λok ok2=>have ok:rngM_a L p low high:=⟨ok,ok2 _ (by simp)⟩;mxH_of (sh:=.k) (enc:=rngM_e) (hB:=rngM_b) (a:=(rngM_x L p low high).an) (rngM_p L p low high ok) (by kernel_rfl),fnB_ok (by kernel_rfl),HcOk.of (by simp[hcB,belBL,AV.belB,allB,okBk,okBkO,rngM_e,rngM_b,pureBL_map (v:=AV.int) (λ_=>rfl)])⟩
def pckM_a(L:(List Int))(p:Nat)(l:(List Int)):Prop:=okL [.ref 0 0,.sl 1 (l.map AV.int) false]∧(.box (.agg [.sl 1 (L.map AV.int) false,.int ((p:Nat):Int)]):Blk).ok
def pckM_e(r:Tap×Int):AV:=.int r.2
def pckM_b(r:Tap×Int):List (Option Blk):=[some (.box (.agg [.sl 1 (r.1.L.map AV.int) false,.int ((r.1.p:Nat):Int)]))]
def pckM_x(L:(List Int))(p:Nat)(l:(List Int)):Ax Tryz.prog noS (Tap×Int):=
 (.callH [0] (nxtM_h L p ((l.map AV.int).length:Int)) 81
(.el 97 AV.int l (λR=>Rf (l.map AV.int) (ck (decide (0≤(Mod (rawV L p) ((l.map AV.int).length:Int)))) (ck (decide ((Mod (rawV L p) ((l.map AV.int).length:Int))<(l.length:Int)))
(∀x1,l[(Mod (rawV L p) ((l.map AV.int).length:Int)).toNat]?=some x1 →
(R x1))))) λx1 =>
(.retH ((⟨L,rawP L p⟩:Tap),x1) ⟨[(4,.k,.int x1)],[.box (.agg [.sl 1 (L.map AV.int) false,.int (((rawP L p):Nat):Int)])]⟩ [0])))
def pckM_vc(L:(List Int))(p:Nat)(l:(List Int))(r0:Tap×Int):Prop:=(pckM_x L p l).vc pckM_e pckM_b r0
theorem pckM_p(L:List Int)(p:Nat)(l:List Int)(hl:l≠[])(ok:pckM_a L p l):pckM_vc L p l (⟨L,rawP L p⟩,pickI l (rawV L p)):=by
 have hl:0<l.length:=List.length_pos_iff.mpr hl
 have hm:=Mod_range (x:=rawV L p) (show 1≤(l.length:Int) by omega)
 dsimp only[pckM_vc,pckM_x,noS,Ax.vp,Ax.vc];simp only[vcU,rfU,List.length_map]
 refine⟨by omega,by omega,λx hx=>?_⟩
 rw[pickI,List.getD_eq_getElem?_getD,hx];rfl
def pckM_h(L:(List Int))(p:Nat)(l:(List Int))(hl:l≠[]):HC Tryz.prog:=⟨33,[.k,(.s 1)],[.ref 0 0,.sl 1 (l.map AV.int) false],[.box (.agg [.sl 1 (L.map AV.int) false,.int ((p:Nat):Int)])],pckM_e ((⟨L,rawP L p⟩,pickI l (rawV L p)):Tap×Int),pckM_b ((⟨L,rawP L p⟩,pickI l (rawV L p)):Tap×Int),HSpec.of_okh λok ok2=>have ok:pckM_a L p l:=⟨ok,ok2 _ (by simp)⟩;mxH_of (sh:=.k) (enc:=pckM_e) (hB:=pckM_b) (a:=(pckM_x L p l).an) (pckM_p L p l hl ok) (by kernel_rfl),fnB_ok (by kernel_rfl),HcOk.of (by simp[hcB,belBL,AV.belB,allB,okBk,okBkO,pckM_e,pckM_b,pureBL_map (v:=AV.int) (λ_=>rfl)])⟩
def oneT(L:List Int)(p:Nat)(n:Int):Bool:=Mod (rawV L p) n==W (n-1)
def oneM_a(L:(List Int))(p:Nat)(n:Int):Prop:=okL [.ref 0 0,.int n]∧(.box (.agg [.sl 1 (L.map AV.int) false,.int ((p:Nat):Int)]):Blk).ok
def oneM_e(r:Tap×Bool):AV:=.bool r.2
def oneM_b(r:Tap×Bool):List (Option Blk):=[some (.box (.agg [.sl 1 (r.1.L.map AV.int) false,.int ((r.1.p:Nat):Int)]))]
def oneM_x(L:(List Int))(p:Nat)(n:Int):Ax Tryz.prog noS (Tap×Bool):=
 (.callH [0] (nxtM_h L p n) 49
(.retH ((⟨L,rawP L p⟩:Tap),(Mod (rawV L p) n)==(W (n-1))) ⟨[(4,.k,.bool ((Mod (rawV L p) n)==(W (n-1))))],[.box (.agg [.sl 1 (L.map AV.int) false,.int (((rawP L p):Nat):Int)])]⟩ [0]))
def oneM_vc(L:(List Int))(p:Nat)(n:Int)(r0:Tap×Bool):Prop:=(oneM_x L p n).vc oneM_e oneM_b r0
theorem oneM_p(L:List Int)(p:Nat)(n:Int)(ok:oneM_a L p n):oneM_vc L p n (⟨L,rawP L p⟩,oneT L p n):=by
 dsimp only[oneM_vc,oneM_x,noS,Ax.vp,Ax.vc];simp only[vcU,rfU,List.length_map]
 rfl
def oneM_h(L:(List Int))(p:Nat)(n:Int):HC Tryz.prog:=⟨30,[.k,.k],[.ref 0 0,.int n],[.box (.agg [.sl 1 (L.map AV.int) false,.int ((p:Nat):Int)])],oneM_e ((⟨L,rawP L p⟩,oneT L p n):Tap×Bool),oneM_b ((⟨L,rawP L p⟩,oneT L p n):Tap×Bool),HSpec.of_okh λok ok2=>have ok:oneM_a L p n:=⟨ok,ok2 _ (by simp)⟩;mxH_of (sh:=.k) (enc:=oneM_e) (hB:=oneM_b) (a:=(oneM_x L p n).an) (oneM_p L p n ok) (by kernel_rfl),fnB_ok (by kernel_rfl),HcOk.of (by simp[hcB,belBL,AV.belB,allB,okBk,okBkO,oneM_e,oneM_b,pureBL_map (v:=AV.int) (λ_=>rfl)])⟩
def wldL:List Int:=[-1,0,1,7,8,23,24,31,32,63,64,99,100,255,256,257,1000,1001,1023,1024,1000000,1000001,1099511627776,9223372036854775807,-9223372036854775808]
def wldT(L:List Int)(p:Nat):Int:=pickI wldL (rawV L p)
def wldM_a(L:(List Int))(p:Nat):Prop:=okL [.ref 0 0]∧(.box (.agg [.sl 1 (L.map AV.int) false,.int ((p:Nat):Int)]):Blk).ok
def wldM_e(r:Tap×Int):AV:=.int r.2
def wldM_b(r:Tap×Int):List (Option Blk):=[some (.box (.agg [.sl 1 (r.1.L.map AV.int) false,.int ((r.1.p:Nat):Int)]))]
def wldM_x(L:(List Int))(p:Nat):Ax Tryz.prog noS (Tap×Int):=
 (.req 49 ([-1,0,1,7,8,23,24,31,32,63,64,99,100,255,256,257,1000,1001,1023,1024,1000000,1000001,1099511627776,9223372036854775807,-9223372036854775808]≠[]) λh1 =>
(.callH [0] (pckM_h L p [-1,0,1,7,8,23,24,31,32,63,64,99,100,255,256,257,1000,1001,1023,1024,1000000,1000001,1099511627776,9223372036854775807,-9223372036854775808] h1) 49
(.retH ((⟨L,rawP L p⟩:Tap),pickI [-1,0,1,7,8,23,24,31,32,63,64,99,100,255,256,257,1000,1001,1023,1024,1000000,1000001,1099511627776,9223372036854775807,-9223372036854775808] (rawV L p)) ⟨[(2,.k,.int (pickI [-1,0,1,7,8,23,24,31,32,63,64,99,100,255,256,257,1000,1001,1023,1024,1000000,1000001,1099511627776,9223372036854775807,-9223372036854775808] (rawV L p)))],[.box (.agg [.sl 1 (L.map AV.int) false,.int (((rawP L p):Nat):Int)])]⟩ [0])))
def wldM_vc(L:(List Int))(p:Nat)(r0:Tap×Int):Prop:=(wldM_x L p).vc wldM_e wldM_b r0
theorem wldM_p(L:List Int)(p:Nat)(ok:wldM_a L p):wldM_vc L p (⟨L,rawP L p⟩,wldT L p):=by
 dsimp only[wldM_vc,wldM_x,noS,Ax.vp,Ax.vc];simp only[vcU,rfU,List.length_map]
 exact⟨by simp,rfl⟩
def wldM_h(L:(List Int))(p:Nat):HC Tryz.prog:=⟨57,[.k],[.ref 0 0],[.box (.agg [.sl 1 (L.map AV.int) false,.int ((p:Nat):Int)])],wldM_e ((⟨L,rawP L p⟩,wldT L p):Tap×Int),wldM_b ((⟨L,rawP L p⟩,wldT L p):Tap×Int),HSpec.of_okh λok ok2=>have ok:wldM_a L p:=⟨ok,ok2 _ (by simp)⟩;mxH_of (sh:=.k) (enc:=wldM_e) (hB:=wldM_b) (a:=(wldM_x L p).an) (wldM_p L p ok) (by kernel_rfl),fnB_ok (by kernel_rfl),HcOk.of (by simp[hcB,belBL,AV.belB,allB,okBk,okBkO,wldM_e,wldM_b,pureBL_map (v:=AV.int) (λ_=>rfl)])⟩
def lenL:List Int:=[8,8,16,32,64]
def lenT(L:List Int)(p:Nat):Int:=pickI lenL (rawV L p)
def lenM_a(L:(List Int))(p:Nat):Prop:=okL [.ref 0 0]∧(.box (.agg [.sl 1 (L.map AV.int) false,.int ((p:Nat):Int)]):Blk).ok
def lenM_e(r:Tap×Int):AV:=.int r.2
def lenM_b(r:Tap×Int):List (Option Blk):=[some (.box (.agg [.sl 1 (r.1.L.map AV.int) false,.int ((r.1.p:Nat):Int)]))]
def lenM_x(L:(List Int))(p:Nat):Ax Tryz.prog noS (Tap×Int):=
 (.req 49 ([8,8,16,32,64]≠[]) λh1 =>
(.callH [0] (pckM_h L p [8,8,16,32,64] h1) 49
(.retH ((⟨L,rawP L p⟩:Tap),pickI [8,8,16,32,64] (rawV L p)) ⟨[(2,.k,.int (pickI [8,8,16,32,64] (rawV L p)))],[.box (.agg [.sl 1 (L.map AV.int) false,.int (((rawP L p):Nat):Int)])]⟩ [0])))
def lenM_vc(L:(List Int))(p:Nat)(r0:Tap×Int):Prop:=(lenM_x L p).vc lenM_e lenM_b r0
theorem lenM_p(L:List Int)(p:Nat)(ok:lenM_a L p):lenM_vc L p (⟨L,rawP L p⟩,lenT L p):=by
 dsimp only[lenM_vc,lenM_x,noS,Ax.vp,Ax.vc];simp only[vcU,rfU,List.length_map]
 exact⟨by simp,rfl⟩
def lenM_h(L:(List Int))(p:Nat):HC Tryz.prog:=⟨62,[.k],[.ref 0 0],[.box (.agg [.sl 1 (L.map AV.int) false,.int ((p:Nat):Int)])],lenM_e ((⟨L,rawP L p⟩,lenT L p):Tap×Int),lenM_b ((⟨L,rawP L p⟩,lenT L p):Tap×Int),HSpec.of_okh λok ok2=>have ok:lenM_a L p:=⟨ok,ok2 _ (by simp)⟩;mxH_of (sh:=.k) (enc:=lenM_e) (hB:=lenM_b) (a:=(lenM_x L p).an) (lenM_p L p ok) (by kernel_rfl),fnB_ok (by kernel_rfl),HcOk.of (by simp[hcB,belBL,AV.belB,allB,okBk,okBkO,lenM_e,lenM_b,pureBL_map (v:=AV.int) (λ_=>rfl)])⟩
def newM_a(l:(List Int)):Prop:=okL [.sl 1 (l.map AV.int) false]
def newM_e(r:Tap):AV:=.ref 0 0
def newM_b(r:Tap):List (Option Blk):=[some (.box (.agg [.sl 1 (r.L.map AV.int) false,.int ((r.p:Nat):Int)]))]
def newM_x(l:(List Int)):Ax Tryz.prog noS (Tap):=
 (.br 64 (decide (600<((l.map AV.int).length:Int))) (.say (λR=>Rf (α:=List AV) (l.map AV.int) (ck (bndB l.length 0 600 (l.length:Int))
R)) (.sub 80 AV.int l false
(.retH (⟨(l.take 600).drop 0,0⟩:Tap) ⟨[(2,.k,.ref 0 0)],[.box (.agg [.sl 1 (((l.take 600).drop 0).map AV.int) false,.int 0])]⟩ [144])))
(.retH (⟨l,0⟩:Tap) ⟨[(2,.k,.ref 0 0)],[.box (.agg [.sl 1 (l.map AV.int) false,.int 0])]⟩ [96]))
def newM_vc(l:(List Int))(r0:Tap):Prop:=(newM_x l).vc newM_e newM_b r0
theorem newM_p(t:List Int)(ok:newM_a t):newM_vc t ⟨t.take 600,0⟩:=by
 simp only[newM_a,okU,Blk.ok,plainV,List.length_map]at ok
 dsimp only[newM_vc,newM_x,noS,Ax.vp,Ax.vc];simp only[vcU,rfU,List.length_map]
 refine⟨λh=>⟨by simp[bndB];omega,by rw[List.drop_zero]⟩,λh=>by rw[List.take_of_length_le (by omega)]⟩
def newM_h(l:(List Int)):HC Tryz.prog:=⟨6,[(.s 1)],[.sl 1 (l.map AV.int) false],[],newM_e (⟨l.take 600,0⟩:Tap),newM_b (⟨l.take 600,0⟩:Tap),HSpec.of_okh λok _=>mxH_of (sh:=.k) (enc:=newM_e) (hB:=newM_b) (a:=(newM_x l).an) (newM_p l ok) (by kernel_rfl),fnB_ok (by kernel_rfl),HcOk.of (by simp[hcB,belBL,AV.belB,allB,okBk,okBkO,newM_e,newM_b,pureBL_map (v:=AV.int) (λ_=>rfl)])⟩
def ordL(L:List Int):Nat→Int→List Int→Nat→List Int×Nat
 | 0,_,out,p=>(out,p)
 | n+1,i,out,p=>ordL L n (i+1) (insAt out (Mod (rawV L p) (out.length+1)).toNat i) (rawP L p)
def ordT(L:List Int)(n:Int)(p:Nat):List Int×Nat:=ordL L n.toNat 0 [] p
theorem insAt_len{α:Type}(l:List α)(k:Nat)(x:α)(h:k≤l.length):(insAt l k x).length=l.length+1:=by
 unfold insAt;simp;omega
theorem insAt_perm{α:Type}(l:List α)(k:Nat)(x:α):(insAt l k x).Perm (x::l):=by
 unfold insAt
 have:=(List.perm_middle (a:=x) (l₁:=l.take k) (l₂:=l.drop k))
 rw[List.take_append_drop]at this
 simpa[List.append_assoc]using this
theorem ordL_ok{L:List Int}:∀{n:Nat} {i:Int} {out:List Int} {p:Nat},out.Nodup→(∀x∈out,0≤x∧x<i)→0≤i →
  (ordL L n i out p).1.Nodup∧∀x∈(ordL L n i out p).1,0≤x∧x<i+n
 | 0,i,out,p,h1,h2,h0=>⟨h1,λx hx=>by have:=h2 x hx;omega⟩
 | n+1,i,out,p,h1,h2,h0=>by
  rw[ordL]
  have hp:=insAt_perm out (Mod (rawV L p) (out.length+1)).toNat i
  obtain⟨a,b⟩:=ordL_ok (L:=L) (n:=n) (i:=i+1) (out:=insAt out (Mod (rawV L p) (out.length+1)).toNat i) (p:=rawP L p)
   (hp.nodup_iff.mpr (List.nodup_cons.mpr ⟨λhi=>by have:=h2 i hi;omega,h1⟩))
   (λx hx=>by
    rcases List.mem_cons.mp (hp.mem_iff.mp hx)with rfl|hx
    ·omega
    ·have:=h2 x hx;omega) (by omega)
  exact⟨a,λx hx=>by have:=b x hx;omega⟩
theorem ordT_facts{L:List Int}{n:Int}{p:Nat}(h:0≤n):(ordT L n p).1.Nodup∧∀x∈(ordT L n p).1,0≤x∧x<n:=by
 obtain⟨a,b⟩:=ordL_ok (L:=L) (n:=n.toNat) (i:=0) (out:=[]) (p:=p) List.nodup_nil (by simp) (by omega)
 exact⟨a,λx hx=>by have:=b x hx;omega⟩
theorem insAt_eqH{α:Type}{l:List α}{k:Nat}{x:α}:(((l.take k).drop 0)++[x])++((l.take ((l.length:Int).toNat)).drop k)=insAt l k x:=by rw[List.append_assoc,insAt_eqG]
def ordM_a(L:(List Int))(p:Nat)(n:Int):Prop:=okL [.ref 0 0,.int n]∧(.box (.agg [.sl 1 (L.map AV.int) false,.int ((p:Nat):Int)]):Blk).ok
def ordM_n0(L:(List Int))(n:Int)(t0:Int×Nat×(List Int)):NF:=⟨[(0,.k,.ref 0 0),(1,.k,.int n),(5,.k,.vec 1),(6,.k,.int t0.1)],[.box (.agg [.sl 1 (L.map AV.int) false,.int ((t0.2.1:Nat):Int)]),.vec 1 (t0.2.2.map AV.int) (pureBL_map (λ_=>rfl) t0.2.2)]⟩
@[reducible] def ordM_s:Nat→Type
 | 0=>Int×Nat×(List Int)
 | _=>Unit
def ordM_e(r:Tap×(List Int)):AV:=.sl 1 (r.2.map AV.int) false
def ordM_b(r:Tap×(List Int)):List (Option Blk):=[some (.box (.agg [.sl 1 (r.1.L.map AV.int) false,.int ((r.1.p:Nat):Int)]))]
def ordM_x(L:(List Int))(p:Nat)(n:Int)(I0:(Int×Nat×(List Int))→Prop)(m0:(Int×Nat×(List Int))→Nat):Ax Tryz.prog ordM_s (Tap×(List Int)):=
 (.cmdL (.nilT 5 1) (.loop 0 (ordM_n0 L n) I0 m0 (0,p,[]) [0,49] λ(t0:Int×Nat×(List Int)) b0 =>
(.br 50 (decide (t0.1<n)) (.callH [0] (nxtM_h L t0.2.1 (W (t0.1+1))) 98
(.wait (.say (Rf (t0.2.2.map AV.int)) (.cmd (.frzE 1 (t0.2.2.map AV.int) (pureBL_map (λ_=>rfl) t0.2.2)) (.say (λR=>Rf (α:=List AV) (t0.2.2.map AV.int) (ck (bndB t0.2.2.length 0 (Mod (rawV L t0.2.1) (W (t0.1+1))) (t0.2.2.length:Int))
R)) (.sub 194 AV.int t0.2.2 false
(.say (λR=>Rf (α:=List AV) [] (Rf (α:=List AV) (((t0.2.2.take ((Mod (rawV L t0.2.1) (W (t0.1+1))).toNat)).drop 0).map AV.int)
(ck (decide (0+((t0.2.2.take ((Mod (rawV L t0.2.1) (W (t0.1+1))).toNat)).drop 0).length≤1048576))
R))) (.app 210 AV.int [] ((t0.2.2.take ((Mod (rawV L t0.2.1) (W (t0.1+1))).toNat)).drop 0)
(.own 274 (.say (λR=>Rf (α:=List AV) (((t0.2.2.take ((Mod (rawV L t0.2.1) (W (t0.1+1))).toNat)).drop 0).map AV.int) (Rf (α:=List AV) [.int t0.1]
(ck (decide (((t0.2.2.take ((Mod (rawV L t0.2.1) (W (t0.1+1))).toNat)).drop 0).length+1≤1048576))
R))) (.app 290 AV.int ((t0.2.2.take ((Mod (rawV L t0.2.1) (W (t0.1+1))).toNat)).drop 0) [t0.1]
(.say (λR=>Rf (α:=List AV) (t0.2.2.map AV.int) (ck (bndB t0.2.2.length (Mod (rawV L t0.2.1) (W (t0.1+1))) (t0.2.2.length:Int) (t0.2.2.length:Int))
R)) (.sub 370 AV.int t0.2.2 false
(.say (λR=>Rf (α:=List AV) ((((t0.2.2.take ((Mod (rawV L t0.2.1) (W (t0.1+1))).toNat)).drop 0)++[t0.1]).map AV.int) (Rf (α:=List AV) (((t0.2.2.take ((t0.2.2.length:Int).toNat)).drop ((Mod (rawV L t0.2.1) (W (t0.1+1))).toNat)).map AV.int)
(ck (decide ((((t0.2.2.take ((Mod (rawV L t0.2.1) (W (t0.1+1))).toNat)).drop 0)++[t0.1]).length+((t0.2.2.take ((t0.2.2.length:Int).toNat)).drop ((Mod (rawV L t0.2.1) (W (t0.1+1))).toNat)).length≤1048576))
R))) (.app 386 AV.int (((t0.2.2.take ((Mod (rawV L t0.2.1) (W (t0.1+1))).toNat)).drop 0)++[t0.1]) ((t0.2.2.take ((t0.2.2.length:Int).toNat)).drop ((Mod (rawV L t0.2.1) (W (t0.1+1))).toNat))
(.bk 0 b0 (W (t0.1+1),rawP L t0.2.1,(((t0.2.2.take ((Mod (rawV L t0.2.1) (W (t0.1+1))).toNat)).drop 0)++[t0.1])++((t0.2.2.take ((t0.2.2.length:Int).toNat)).drop ((Mod (rawV L t0.2.1) (W (t0.1+1))).toNat))) [0,386]))))))))))))))))
(.say (Rf (t0.2.2.map AV.int)) (.cmdL (.frzE 1 (t0.2.2.map AV.int) (pureBL_map (λ_=>rfl) t0.2.2)) (.retH ((⟨L,t0.2.1⟩:Tap),t0.2.2) ⟨[(4,.k,.sl 1 (t0.2.2.map AV.int) false)],[.box (.agg [.sl 1 (L.map AV.int) false,.int ((t0.2.1:Nat):Int)])]⟩ [0]))))))
def ordM_vc(L:(List Int))(p:Nat)(n:Int)(I0:(Int×Nat×(List Int))→Prop)(m0:(Int×Nat×(List Int))→Nat)(r0:Tap×(List Int)):Prop:=(ordM_x L p n I0 m0).vc ordM_e ordM_b r0
theorem ordM_p(L:List Int)(p:Nat)(n:Int)(h:n≤1000)(ok:ordM_a L p n):∃I m,ordM_vc L p n I m ((⟨L,(ordT L n p).2⟩:Tap),(ordT L n p).1):=by
 have hm:=λ(l:Nat) (q:Nat)=>Mod_range (x:=rawV L q) (show 1≤(l:Int)+1 by omega)
 refine⟨λt=>∃k:Nat,t.1=k∧k≤n.toNat∧t.2.2.length=k∧ordL L (n.toNat-k) t.1 t.2.2 t.2.1=ordT L n p,λt=>n.toNat-t.1.toNat,?_⟩
 dsimp only[ordM_vc,ordM_x,ordM_s,Ax.vp,Ax.vc];simp only[vcU,rfU,List.length_map]
 refine⟨⟨0,rfl,by omega,rfl,rfl⟩,?_⟩
 rintro⟨i,q,out⟩ ⟨k,hi,hk,hl,hr⟩
 simp only at hi hl hr ⊢
 subst hi;subst hl
 have w1:W ((out.length:Int)+1)=(out.length:Int)+1:=W_eq (by omega)
 have hq:=hm out.length q
 rw[w1,insAt_eqH]
 refine⟨λc=>?_,λc=>?_⟩
 ·have c:out.length<n.toNat:=by omega
  refine⟨by simp[bndB];omega,by simp;omega,by simp;omega,by simp[bndB];omega,by simp;omega,⟨out.length+1,by omega,by omega,by rw[insAt_len _ _ _ (by omega)],?_⟩,by omega⟩
  rw[show n.toNat-out.length=(n.toNat-(out.length+1))+1 by omega,ordL]at hr
  exact hr
 ·have:out.length=n.toNat:=by omega
  rw[this,Nat.sub_self,ordL]at hr
  rw[←hr]
def ordM_h(L:(List Int))(p:Nat)(n:Int)(h:n≤1000):HC Tryz.prog:=⟨63,[.k,.k],[.ref 0 0,.int n],[.box (.agg [.sl 1 (L.map AV.int) false,.int ((p:Nat):Int)])],ordM_e ((⟨L,(ordT L n p).2⟩:Tap),(ordT L n p).1),ordM_b ((⟨L,(ordT L n p).2⟩:Tap),(ordT L n p).1),HSpec.of_okh λok ok2=>have ok:ordM_a L p n:=⟨ok,ok2 _ (by simp)⟩;(ordM_p L p n h ok).elim λI0 h=>h.elim λm0 h=>mxH_of (sh:=(.s 1)) (enc:=ordM_e) (hB:=ordM_b) (a:=(ordM_x L p n I0 m0).an) h (by kernel_rfl),fnB_ok (by kernel_rfl),HcOk.of (by simp[hcB,belBL,AV.belB,allB,okBk,okBkO,ordM_e,ordM_b,pureBL_map (v:=AV.int) (λ_=>rfl)])⟩
def posK(out:List Lnk)(x:Lnk):Nat:=out.findIdx λy=>!decide (lnkL y x)
def ordK:List Lnk→List Lnk→List Lnk
 | [],out=>out
 | x::l,out=>ordK l (insAt out (posK out x) x)
def orlM_a(l:(List Lnk)):Prop:=okL [.sl 5 (l.map Lnk.v) false]
def orlM_n0(l:(List Lnk))(t0:Int×(List Lnk)):NF:=⟨[(0,.k,.sl 5 (l.map Lnk.v) false),(3,.k,.vec 0),(4,.k,.int t0.1)],[.vec 5 (t0.2.map Lnk.v) (pureBL_map (λ_=>rfl) t0.2)]⟩
def orlM_n1(l:(List Lnk))(t0:Int×(List Lnk))(t1:Int):NF:=⟨[(0,.k,.sl 5 (l.map Lnk.v) false),(3,.k,.vec 0),(4,.k,.int t0.1),(5,.k,.int t1)],[.vec 5 (t0.2.map Lnk.v) (pureBL_map (λ_=>rfl) t0.2)]⟩
def orlM_n2(l:(List Lnk))(t0:Int×(List Lnk))(t1:Int)(t2:Bool):NF:=⟨[(0,.k,.sl 5 (l.map Lnk.v) false),(3,.k,.vec 0),(4,.k,.int t0.1),(5,.k,.int t1),(55,.k,.bool t2)],[.vec 5 (t0.2.map Lnk.v) (pureBL_map (λ_=>rfl) t0.2)]⟩
@[reducible] def orlM_s:Nat→Type
 | 0=>Int×(List Lnk)
 | 1=>Int
 | 2=>Bool
 | _=>Unit
def orlM_e(r:(List Lnk)):AV:=.vec 0
def orlM_b(r:(List Lnk)):List (Option Blk):=[some (.vec 5 (r.map Lnk.v))]
def orlM_x(l:(List Lnk))(I0:(Int×(List Lnk))→Prop)(m0:(Int×(List Lnk))→Nat)(I1:Int×(List Lnk)→Int→Prop)(m1:Int×(List Lnk)→Int→Nat)(I2:Int×(List Lnk)→Int→Bool→Prop):Ax Tryz.prog orlM_s ((List Lnk)):=
 (.cmdL (.nilT 3 5) (.loop 0 (orlM_n0 l) I0 m0 (0,[]) [48] λ(t0:Int×(List Lnk)) b0 =>
(.br 65 (decide (t0.1<((l.map Lnk.v).length:Int))) (.loop 1 (orlM_n1 l t0) (I1 t0) (m1 t0) ((0):Int) [0] λ(t1:Int) b1 =>
(.pass (.join 2 (orlM_n2 l t0 t1) (λ(t2:Bool)=>I2 t0 t1 t2) (λb2=>(.br 81 (decide (t1<((t0.2.map Lnk.v).length:Int))) (.say (ck (cond (decide (0≤t1)) (decide (t1<((t0.2.map Lnk.v).length:Int))) false)) (.el 145 Lnk.v t0.2 (λR=>Rf (t0.2.map Lnk.v) (ck (decide (t1.toNat<t0.2.length))
(∀x1,t0.2[t1.toNat]?=some x1 →
(R x1)))) λx1 =>
(.el 193 Lnk.v l (λR=>Rf (l.map Lnk.v) (ck (decide (0≤t0.1)) (ck (decide (t0.1<(l.length:Int)))
(∀x2,l[t0.1.toNat]?=some x2 →
(R x2))))) λx2 =>
(.br 273 (decide (x1.a<x2.a)) (.bk 2 b2 ((true):Bool) [0])
(.say (ck (cond (decide (0≤t1)) (decide (t1<((t0.2.map Lnk.v).length:Int))) false)) (.el 337 Lnk.v t0.2 (λR=>Rf (t0.2.map Lnk.v) (ck (decide (t1.toNat<t0.2.length))
(∀x3,t0.2[t1.toNat]?=some x3 →
(R x3)))) λx3 =>
(.el 385 Lnk.v l (λR=>Rf (l.map Lnk.v) (ck (decide (0≤t0.1)) (ck (decide (t0.1<(l.length:Int)))
(∀x4,l[t0.1.toNat]?=some x4 →
(R x4))))) λx4 =>
(.br 465 (x3.a==x4.a) (.say (ck (cond (decide (0≤t1)) (decide (t1<((t0.2.map Lnk.v).length:Int))) false)) (.el 529 Lnk.v t0.2 (λR=>Rf (t0.2.map Lnk.v) (ck (decide (t1.toNat<t0.2.length))
(∀x5,t0.2[t1.toNat]?=some x5 →
(R x5)))) λx5 =>
(.el 577 Lnk.v l (λR=>Rf (l.map Lnk.v) (ck (decide (0≤t0.1)) (ck (decide (t0.1<(l.length:Int)))
(∀x6,l[t0.1.toNat]?=some x6 →
(R x6))))) λx6 =>
(.bk 2 b2 ((decide (x5.b<x6.b)):Bool) [0]))))
(.bk 2 b2 ((false):Bool) [0])))))))))
(.bk 2 b2 ((false):Bool) [0]))) λ(t2:Bool) =>
(.br 1 t2 (.bk 1 b1 ((W (t1+1)):Int) [0])
(.wait (.say (Rf (t0.2.map Lnk.v)) (.cmd (.frzE 0 (t0.2.map Lnk.v) (pureBL_map (λ_=>rfl) t0.2)) (.say (λR=>Rf (α:=List AV) (t0.2.map Lnk.v) (ck (bndB t0.2.length 0 t1 (t0.2.length:Int))
R)) (.sub 65 Lnk.v t0.2 false
(.say (λR=>Rf (α:=List AV) [] (Rf (α:=List AV) (((t0.2.take t1.toNat).drop 0).map Lnk.v)
(ck (decide (0+((t0.2.take t1.toNat).drop 0).length≤1048576))
R))) (.app 81 Lnk.v [] ((t0.2.take t1.toNat).drop 0)
(.el 161 Lnk.v l (λR=>Rf (l.map Lnk.v) (ck (decide (0≤t0.1)) (ck (decide (t0.1<(l.length:Int)))
(∀x7,l[t0.1.toNat]?=some x7 →
(R x7))))) λx7 =>
(.own 193 (.say (λR=>Rf (α:=List AV) (((t0.2.take t1.toNat).drop 0).map Lnk.v) (Rf (α:=List AV) [.agg [.int x7.a,.int x7.b,.int x7.ca,.int x7.cb,.int x7.w]]
(ck (decide (((t0.2.take t1.toNat).drop 0).length+1≤1048576))
R))) (.app 209 Lnk.v ((t0.2.take t1.toNat).drop 0) [x7]
(.say (λR=>Rf (α:=List AV) (t0.2.map Lnk.v) (ck (bndB t0.2.length t1 (t0.2.length:Int) (t0.2.length:Int))
R)) (.sub 289 Lnk.v t0.2 false
(.say (λR=>Rf (α:=List AV) ((((t0.2.take t1.toNat).drop 0)++[x7]).map Lnk.v) (Rf (α:=List AV) (((t0.2.take ((t0.2.length:Int).toNat)).drop t1.toNat).map Lnk.v)
(ck (decide ((((t0.2.take t1.toNat).drop 0)++[x7]).length+((t0.2.take ((t0.2.length:Int).toNat)).drop t1.toNat).length≤1048576))
R))) (.app 305 Lnk.v (((t0.2.take t1.toNat).drop 0)++[x7]) ((t0.2.take ((t0.2.length:Int).toNat)).drop t1.toNat)
(.bk 0 b0 (W (t0.1+1),(((t0.2.take t1.toNat).drop 0)++[x7])++((t0.2.take ((t0.2.length:Int).toNat)).drop t1.toNat)) [305]))))))))))))))))))))
(.retH t0.2 ⟨[(2,.k,.vec 0)],[.vec 5 (t0.2.map Lnk.v) (pureBL_map (λ_=>rfl) t0.2)]⟩ [0]))))
def orlM_vc(l:(List Lnk))(I0:(Int×(List Lnk))→Prop)(m0:(Int×(List Lnk))→Nat)(I1:Int×(List Lnk)→Int→Prop)(m1:Int×(List Lnk)→Int→Nat)(I2:Int×(List Lnk)→Int→Bool→Prop)(r0:(List Lnk)):Prop:=(orlM_x l I0 m0 I1 m1 I2).vc orlM_e orlM_b r0
theorem posK_eq{out:List Lnk}{x:Lnk}{j:Nat}(hj:j≤out.length)(h1:∀y∈out.take j,lnkL y x)(h2:∀y,out[j]?=some y→¬lnkL y x):posK out x=j:=by
 unfold posK
 by_cases e:j=out.length
 ·subst e
  rw[List.take_length]at h1
  rw[List.findIdx_eq_length]
  intro y hy
  simp[h1 y hy]
 ·rw[List.findIdx_eq (by omega)]
  refine⟨?_,λi hi=>?_⟩
  ·have:=h2 _ (List.getElem?_eq_getElem (by omega))
   simp[this]
  ·have:=h1 (out[i]'(by omega)) (List.mem_take_iff_getElem.mpr ⟨i,by omega,rfl⟩)
   simp[this]
theorem orlM_p(l:List Lnk)(h:l.length≤1000)(ok:orlM_a l):∃I0 m0 I1 m1 I2,orlM_vc l I0 m0 I1 m1 I2 (ordK l []):=by
 refine⟨λs=>∃k:Nat,s.1=k∧k≤l.length∧s.2.length=k∧ordK (l.drop k) s.2=ordK l [],λs=>l.length-s.1.toNat,
  λs t=>ForI s.2 (λy=>∀x,l[s.1.toNat]?=some x→lnkL y x) t,λs t=>s.2.length-t.toNat,λs t b=>b=true↔t<s.2.length∧∀x y,l[s.1.toNat]?=some x→s.2[t.toNat]?=some y→lnkL y x,?_⟩
 dsimp only[orlM_vc,orlM_x,orlM_s,Ax.vp,Ax.vc];simp only[vcU,rfU,List.length_map]
 refine⟨⟨0,rfl,by omega,rfl,by simp⟩,?_⟩
 rintro⟨i,out⟩ ⟨k,hi,hk,hl,hr⟩
 simp only at hi hl hr ⊢
 subst hi;subst hl
 simp only[Int.toNat_natCast]
 refine⟨λc=>?_,λc=>?_⟩
 ·have hx:=List.getElem?_eq_getElem (show out.length<l.length by omega)
  generalize l[out.length]=x at hx
  refine⟨ForI.zero,λt hI=>?_⟩
  obtain⟨j,rfl,hj,ha⟩:=hI
  have ha':∀y∈out.take j,lnkL y x:=λy hy=>ha y hy x hx
  have hI:ForI out (λy=>∀x,l[out.length]?=some x→lnkL y x) ((j:Nat):Int):=⟨j,rfl,hj,ha⟩
  simp only[Int.toNat_natCast]
  refine⟨⟨λd=>?_,λd=>⟨nofun,λq=>absurd q.1 d⟩⟩,λb hb=>?_⟩
  ·have hy:=List.getElem?_eq_getElem (show j<out.length by omega)
   generalize out[j]=y at hy
   have rg:(bif decide (0≤((j:Nat):Int))then decide (((j:Nat):Int)<out.length)else false)=true:=range2 (by omega) d
   refine⟨rg,by omega,λx1 h1=>⟨by omega,c,λx2 h2=>?_⟩⟩
   rw[hy]at h1;cases h1;rw[hx]at h2;cases h2
   refine⟨λe=>⟨λ_=>⟨d,λx' y' hx' hy'=>?_⟩,λ_=>trivial⟩,λe=>⟨rg,by omega,λx3 h3=>⟨by omega,c,λx4 h4=>?_⟩⟩⟩
   ·rw[hx]at hx';cases hx';rw[hy]at hy';cases hy';exact .inl e
   rw[hy]at h3;cases h3;rw[hx]at h4;cases h4
   refine⟨λe2=>⟨rg,by omega,λx5 h5=>⟨by omega,c,λx6 h6=>?_⟩⟩,λe2=>⟨nofun,λq=>?_⟩⟩
   ·rw[hy]at h5;cases h5;rw[hx]at h6;cases h6
    have e2:=eq_of_beq e2
    refine⟨λe3=>⟨d,λx' y' hx' hy'=>?_⟩,λq=>?_⟩
    ·rw[hx]at hx';cases hx';rw[hy]at hy';cases hy';exact .inr ⟨e2,e3⟩
    ·have:=q.2 x y hx hy;unfold lnkL at this;omega
   ·have:=q.2 x y hx hy
    have e2:¬y.a=x.a:=by simpa using e2
    unfold lnkL at this;omega
  ·refine⟨λe=>?_,λe=>?_⟩
   ·obtain⟨d,hd⟩:=hb.mp e
    have hy:=List.getElem?_eq_getElem (show j<out.length by omega)
    exact hI.step (by omega) (by rw[Int.toNat_natCast];exact hy) λx' hx'=>hd x' _ hx' hy
   ·have hp:posK out x=j:=posK_eq hj ha' λy hy q=>by
     have:=hb.mpr ⟨by have:=lt_of_get hy;omega,λx' y' hx' hy'=>by rw[hx]at hx';cases hx';rw[hy]at hy';cases hy';exact q⟩
     rw[e]at this;cases this
    refine⟨by simp[bndB];omega,by simp;omega,by omega,c,λx7 h7=>?_⟩
    rw[hx]at h7;cases h7
    have hi:(((out.take j).drop 0)++[x])++((out.take out.length).drop j)=insAt out j x:=by have:=insAt_eqH (l:=out) (k:=j) (x:=x);rwa [Int.toNat_natCast]at this
    rw[hi,W_succ (n:=l.length) (by omega) (by omega)]
    refine⟨by simp;omega,by simp[bndB];omega,by simp;omega,⟨out.length+1,rfl,by omega,insAt_len _ _ _ hj,?_⟩,by omega⟩
    rw[List.drop_eq_getElem_cons (by omega),ordK]at hr
    have:l[out.length]'(by omega)=x:=by rw[List.getElem?_eq_getElem (by omega)]at hx;exact Option.some.inj hx
    rw[this,hp]at hr
    exact hr
 ·have:out.length=l.length:=by omega
  rw[this,List.drop_length,ordK]at hr
  exact hr
def orlM_h(l:(List Lnk))(h:l.length≤1000):HC Tryz.prog:=⟨56,[(.s 5)],[.sl 5 (l.map Lnk.v) false],[],orlM_e (ordK l []),orlM_b (ordK l []),HSpec.of_okh λok _=>(orlM_p l h ok).elim λI0 h=>h.elim λm0 h=>h.elim λI1 h=>h.elim λm1 h=>h.elim λI2 h=>mxH_of (sh:=.k) (enc:=orlM_e) (hB:=orlM_b) (a:=(orlM_x l I0 m0 I1 m1 I2).an) h (by kernel_rfl),fnB_ok (by kernel_rfl),HcOk.of (by simp[hcB,belBL,AV.belB,allB,okBk,okBkO,orlM_e,orlM_b,pureBL_map (v:=Lnk.v) (λ_=>rfl)])⟩
def rtsM(k:Nat):List Rtr:=(List.range k).map λi=>⟨((i+1:Nat):Int),true⟩
def cnM(L:List Int)(a tree:Int)(skip:Bool)(p:Nat):Bool×Nat:=if(a==tree)=true∧skip=false then(true,p)else(oneT L p 3,rawP L p)
def lkM1(L:List Int)(cost a b:Int)(p:Nat):Lnk:=⟨a,b,rng L p 1 cost,rng L (rawP L p) 1 cost,Mod (rawV L (rawP L (rawP L p))) 4⟩
def inM(L:List Int)(cost b tree:Int)(skip:Bool):Nat→Int→List Lnk→Nat→List Lnk×Nat
 | 0,_,ls,p=>(ls,p)
 | f+1,a,ls,p=>if(cnM L a tree skip p).1=true then inM L cost b tree skip f (a+1) (ls++[lkM1 L cost a b (cnM L a tree skip p).2]) (rawP L (rawP L (rawP L (cnM L a tree skip p).2)))
  else inM L cost b tree skip f (a+1) ls (cnM L a tree skip p).2
def inR(L:List Int)(cost b:Int)(ls:List Lnk)(p:Nat):List Lnk×Nat:=inM L cost b (rng L p 1 (W (b-1))) (oneT L (rawP L p) 9) (b-1).toNat 1 ls (rawP L (rawP L p))
def ouM(L:List Int)(cost:Int):Nat→Int→List Lnk→Nat→List Lnk×Nat
 | 0,_,ls,p=>(ls,p)
 | f+1,b,ls,p=>ouM L cost f (b+1) (inR L cost b ls p).1 (inR L cost b ls p).2
def farM(j:Nat):List Rtr:=(List.range j).map λi=>⟨((50+i:Nat):Int),false⟩
def ixM(L:List Int)(p:Nat)(g:Tpl):Nat:=(Mod (rawV L p) g.ls.length).toNat
def spoM(L:List Int)(p:Nat)(g:Tpl):Tpl×Nat:=
 if Mod (rawV L p) 7=0 then(⟨g.rs++[⟨pickI [0,1,99,100,-1] (rawV L (rawP L p)),false⟩],g.ls⟩,rawP L (rawP L p))
 else if Mod (rawV L p) 7=1 then(⟨g.rs,g.ls++[⟨Mod (rawV L (rawP L p)) 4,Mod (rawV L (rawP L (rawP L p))) 4,1,1,0⟩]⟩,rawP L (rawP L (rawP L p)))
 else if Mod (rawV L p) 7=2 then(match g.ls[ixM L (rawP L p) g]? with
  | some y=>(⟨g.rs,g.ls.set (ixM L (rawP L p) g) ⟨y.a,y.b,wldT L (rawP L (rawP L p)),y.cb,y.w⟩⟩,rawP L (rawP L (rawP L p)))
  | none=>(g,rawP L p))
 else if Mod (rawV L p) 7=3 then(match g.ls[ixM L (rawP L p) g]? with
  | some y=>(⟨g.rs,g.ls.set (ixM L (rawP L p) g) ⟨y.a,y.b,y.ca,wldT L (rawP L (rawP L p)),y.w⟩⟩,rawP L (rawP L (rawP L p)))
  | none=>(g,rawP L p))
 else if Mod (rawV L p) 7=4 then(match g.ls[ixM L (rawP L p) g]? with
  | some y=>(⟨g.rs,g.ls.set (ixM L (rawP L p) g) ⟨y.a,y.b,y.ca,y.cb,wldT L (rawP L (rawP L p))⟩⟩,rawP L (rawP L (rawP L p)))
  | none=>(g,rawP L p))
 else if Mod (rawV L p) 7=5 then(match g.ls[ixM L (rawP L p) g]? with
  | some y=>(⟨g.rs,g.ls++[y]⟩,rawP L (rawP L p))
  | none=>(g,rawP L p))
 else(⟨g.rs++farM 25,g.ls⟩,rawP L p)
def cstM(L:List Int)(p:Nat):Int:=pickI [1,2,2,5] (rawV L (rawP L p))
def topO(L:List Int)(p:Nat)(most:Int):List Lnk×Nat:=ouM L (cstM L p) ((rng L p 1 most)-1).toNat 2 [] (rawP L (rawP L p))
def topB(L:List Int)(p:Nat)(most:Int):Tpl:=⟨rtsM (rng L p 1 most).toNat,ordK (topO L p most).1 []⟩
def topM(L:List Int)(p:Nat)(most n:Int):Tpl×Nat:=
 if 0<n∧oneT L (topO L p most).2 n=true then spoM L (rawP L (topO L p most).2) (topB L p most)else(topB L p most,if 0<n then rawP L (topO L p most).2 else(topO L p most).2)
theorem posK_le(out:List Lnk)(x:Lnk):posK out x≤out.length:=List.findIdx_le_length
theorem ordK_len:∀(l out:List Lnk),(ordK l out).length=l.length+out.length
 | [],out=>by simp[ordK]
 | x::l,out=>by rw[ordK,ordK_len l,insAt_len _ _ _ (posK_le _ _),List.length_cons];omega
theorem rtsM_len(k:Nat):(rtsM k).length=k:=by simp[rtsM]
theorem rtsM_succ(k:Nat):rtsM (k+1)=rtsM k++[⟨((k+1:Nat):Int),true⟩]:=by simp[rtsM,List.range_succ]
theorem farM_succ(k:Nat):farM (k+1)=farM k++[⟨((50+k:Nat):Int),false⟩]:=by simp[farM,List.range_succ]
theorem farM_len(k:Nat):(farM k).length=k:=by simp[farM]
theorem rng_1{L:List Int}{p:Nat}{m:Int}(h:1≤m∧m≤1000):1≤rng L p 1 m∧rng L p 1 m≤m:=by
 have hm:=Mod_range (x:=rawV L p) h.1
 unfold rng
 rw[W_eq (n:=m-1) (by omega),W_eq (n:=m-1+1) (by omega),show m-1+1=m by omega,W_eq (by omega)]
 omega
def topM_a(L:(List Int))(p:Nat)(most:Int)(n:Int):Prop:=okL [.ref 0 0,.int most,.int n]∧(.box (.agg [.sl 1 (L.map AV.int) false,.int ((p:Nat):Int)]):Blk).ok
def topM_n0(L:(List Int))(p:Nat)(most:Int)(n:Int)(t0:Int×(List Rtr)):NF:=⟨[(0,.k,.ref 0 0),(2,.k,.int n),(6,.k,.ref 1 0),(7,.k,.ref 2 0),(8,.k,.int (rng L p 1 most)),(9,.k,.int t0.1)],[.box (.agg [.sl 1 (L.map AV.int) false,.int (((rawP L p):Nat):Int)]),.box (.agg [.sl 0 [] true,.sl 0 [] true]),.box (.agg [.vec 3,.sl 0 [] true]),.vec 2 (t0.2.map Rtr.v) (pureBL_map (λ_=>rfl) t0.2)]⟩
def topM_n1(L:(List Int))(p:Nat)(most:Int)(n:Int)(t0:Int×(List Rtr))(t1:Int×Nat×(List Lnk)):NF:=⟨[(0,.k,.ref 0 0),(2,.k,.int n),(6,.k,.ref 1 0),(7,.k,.ref 2 0),(8,.k,.int (rng L p 1 most)),(10,.k,.int (pickI [1,2,2,5] (rawV L (rawP L p)))),(11,.k,.int t1.1)],[.box (.agg [.sl 1 (L.map AV.int) false,.int ((t1.2.1:Nat):Int)]),.box (.agg [.sl 0 [] true,.sl 0 [] true]),.box (.agg [.vec 3,.vec 4]),.vec 2 (t0.2.map Rtr.v) (pureBL_map (λ_=>rfl) t0.2),.vec 5 (t1.2.2.map Lnk.v) (pureBL_map (λ_=>rfl) t1.2.2)]⟩
def topM_n2(L:(List Int))(p:Nat)(most:Int)(n:Int)(t0:Int×(List Rtr))(t1:Int×Nat×(List Lnk))(t2:Int×(List Lnk)×Nat):NF:=⟨[(0,.k,.ref 0 0),(2,.k,.int n),(6,.k,.ref 1 0),(7,.k,.ref 2 0),(8,.k,.int (rng L p 1 most)),(10,.k,.int (pickI [1,2,2,5] (rawV L (rawP L p)))),(11,.k,.int t1.1),(12,.k,.int (rng L t1.2.1 1 (W (t1.1-1)))),(13,.k,.bool (oneT L (rawP L t1.2.1) 9)),(14,.k,.int t2.1)],[.box (.agg [.sl 1 (L.map AV.int) false,.int ((t2.2.2:Nat):Int)]),.box (.agg [.sl 0 [] true,.sl 0 [] true]),.box (.agg [.vec 3,.vec 4]),.vec 2 (t0.2.map Rtr.v) (pureBL_map (λ_=>rfl) t0.2),.vec 5 (t2.2.1.map Lnk.v) (pureBL_map (λ_=>rfl) t2.2.1)]⟩
def topM_n3(L:(List Int))(p:Nat)(most:Int)(n:Int)(t0:Int×(List Rtr))(t1:Int×Nat×(List Lnk))(t2:Int×(List Lnk)×Nat)(t3:Bool×Nat):NF:=⟨[(0,.k,.ref 0 0),(2,.k,.int n),(6,.k,.ref 1 0),(7,.k,.ref 2 0),(8,.k,.int (rng L p 1 most)),(10,.k,.int (pickI [1,2,2,5] (rawV L (rawP L p)))),(11,.k,.int t1.1),(12,.k,.int (rng L t1.2.1 1 (W (t1.1-1)))),(13,.k,.bool (oneT L (rawP L t1.2.1) 9)),(14,.k,.int t2.1),(60,.k,.bool t3.1)],[.box (.agg [.sl 1 (L.map AV.int) false,.int ((t3.2:Nat):Int)]),.box (.agg [.sl 0 [] true,.sl 0 [] true]),.box (.agg [.vec 3,.vec 4]),.vec 2 (t0.2.map Rtr.v) (pureBL_map (λ_=>rfl) t0.2),.vec 5 (t2.2.1.map Lnk.v) (pureBL_map (λ_=>rfl) t2.2.1)]⟩
def topM_n4(L:(List Int))(t0:Int×(List Rtr))(t1:Int×Nat×(List Lnk))(t4:Bool×Nat):NF:=⟨[(0,.k,.ref 0 0),(6,.k,.ref 1 0),(7,.k,.ref 2 0),(87,.k,.bool t4.1)],[.box (.agg [.sl 1 (L.map AV.int) false,.int ((t4.2:Nat):Int)]),.box (.agg [.sl 0 [] true,.sl 0 [] true]),.box (.agg [.vec 3,.vec 4]),.vec 2 (t0.2.map Rtr.v) (pureBL_map (λ_=>rfl) t0.2),.vec 5 ((ordK t1.2.2 []).map Lnk.v) (pureBL_map (λ_=>rfl) (ordK t1.2.2 []))]⟩
def topM_n5(L:(List Int))(t1:Int×Nat×(List Lnk))(t4:Bool×Nat)(t5:Int×(List Rtr)):NF:=⟨[(6,.k,.ref 1 0),(7,.k,.ref 2 0),(15,.k,.int t5.1)],[.box (.agg [.sl 1 (L.map AV.int) false,.int (((rawP L t4.2):Nat):Int)]),.box (.agg [.sl 0 [] true,.sl 0 [] true]),.box (.agg [.vec 3,.vec 4]),.vec 2 (t5.2.map Rtr.v) (pureBL_map (λ_=>rfl) t5.2),.vec 5 ((ordK t1.2.2 []).map Lnk.v) (pureBL_map (λ_=>rfl) (ordK t1.2.2 []))]⟩
@[reducible] def topM_s:Nat→Type
 | 0=>Int×(List Rtr)
 | 1=>Int×Nat×(List Lnk)
 | 2=>Int×(List Lnk)×Nat
 | 3=>Bool×Nat
 | 4=>Bool×Nat
 | 5=>Int×(List Rtr)
 | _=>Unit
def topM_e(r:Tap×Tpl):AV:=.agg [.vec 1,.vec 2]
def topM_b(r:Tap×Tpl):List (Option Blk):=[some (.box (.agg [.sl 1 (r.1.L.map AV.int) false,.int ((r.1.p:Nat):Int)])),some (.vec 2 (r.2.rs.map Rtr.v)),some (.vec 5 (r.2.ls.map Lnk.v))]
def topM_x(L:(List Int))(p:Nat)(most:Int)(n:Int)(I0:(Int×(List Rtr))→Prop)(m0:(Int×(List Rtr))→Nat)(I1:Int×(List Rtr)→(Int×Nat×(List Lnk))→Prop)(m1:Int×(List Rtr)→(Int×Nat×(List Lnk))→Nat)(I2:Int×(List Rtr)→Int×Nat×(List Lnk)→(Int×(List Lnk)×Nat)→Prop)(m2:Int×(List Rtr)→Int×Nat×(List Lnk)→(Int×(List Lnk)×Nat)→Nat)(I3:Int×(List Rtr)→Int×Nat×(List Lnk)→Int×(List Lnk)×Nat→(Bool×Nat)→Prop)(I4:Int×(List Rtr)→Int×Nat×(List Lnk)→(Bool×Nat)→Prop)(I5:Int×(List Rtr)→Int×Nat×(List Lnk)→Bool×Nat→(Int×(List Rtr))→Prop)(m5:Int×(List Rtr)→Int×Nat×(List Lnk)→Bool×Nat→(Int×(List Rtr))→Nat):Ax Tryz.prog topM_s (Tap×Tpl):=
 (.callH [0] (rngM_h L p 1 most) 65
(.cmdL (.nilB 17 0 2) (.loop 0 (topM_n0 L p most n) I0 m0 (1,[]) [0,1,17,113] λ(t0:Int×(List Rtr)) b0 =>
(.br 52 (decide (t0.1≤(rng L p 1 most))) (.say (λR=>Rf (α:=List AV) (t0.2.map Rtr.v) (Rf (α:=List AV) [.agg [.int t0.1,.bool true]]
(ck (decide (t0.2.length+1≤1048576))
R))) (.app 132 Rtr.v t0.2 [(⟨t0.1,true⟩:Rtr)]
(.bk 0 b0 (W (t0.1+1),t0.2++[(⟨t0.1,true⟩:Rtr)]) [0,1,2,132])))
(.req 84 ([1,2,2,5]≠[]) λh1 =>
(.callH [0] (pckM_h L (rawP L p) [1,2,2,5] h1) 84
(.cmdL (.nilB 2 1 5) (.loop 1 (topM_n1 L p most n t0) (I1 t0) (m1 t0) (2,rawP L (rawP L p),[]) [0,1,2,3,132] λ(t1:Int×Nat×(List Lnk)) b1 =>
(.br 53 (decide (t1.1≤(rng L p 1 most))) (.callH [0] (rngM_h L t1.2.1 1 (W (t1.1-1))) 101
(.callH [0] (oneM_h L (rawP L t1.2.1) 9) 149
(.loop 2 (topM_n2 L p most n t0 t1) (I2 t0 t1) (m2 t0 t1) (1,t1.2.2,rawP L (rawP L t1.2.1)) [0,1,2,3,4] λ(t2:Int×(List Lnk)×Nat) b2 =>
(.br 53 (decide (t2.1<t1.1)) (.pass (.join 3 (topM_n3 L p most n t0 t1 t2) (λ(t3:Bool×Nat)=>I3 t0 t1 t2 t3) (λb3=>(.br 117 (t2.1==(rng L t1.2.1 1 (W (t1.1-1)))) (.br 181 (!(oneT L (rawP L t1.2.1) 9)) (.bk 3 b3 (true,t2.2.2) [0,1,2,3,4])
(.callH [0] (oneM_h L t2.2.2 3) 197
(.bk 3 b3 (oneT L t2.2.2 3,rawP L t2.2.2) [0,1,2,3,4])))
(.callH [0] (oneM_h L t2.2.2 3) 197
(.bk 3 b3 (oneT L t2.2.2 3,rawP L t2.2.2) [0,1,2,3,4])))) λ(t3:Bool×Nat) =>
(.br 5 t3.1 (.callH [0] (rngM_h L t3.2 1 (pickI [1,2,2,5] (rawV L (rawP L p)))) 101
(.callH [0] (rngM_h L (rawP L t3.2) 1 (pickI [1,2,2,5] (rawV L (rawP L p)))) 149
(.callH [0] (nxtM_h L (rawP L (rawP L t3.2)) 4) 181
(.say (λR=>Rf (α:=List AV) (t2.2.1.map Lnk.v) (Rf (α:=List AV) [.agg [.int t2.1,.int t1.1,.int (rng L t3.2 1 (pickI [1,2,2,5] (rawV L (rawP L p)))),.int (rng L (rawP L t3.2) 1 (pickI [1,2,2,5] (rawV L (rawP L p)))),.int (Mod (rawV L (rawP L (rawP L t3.2))) 4)]]
(ck (decide (t2.2.1.length+1≤1048576))
R))) (.app 229 Lnk.v t2.2.1 [(⟨t2.1,t1.1,rng L t3.2 1 (pickI [1,2,2,5] (rawV L (rawP L p))),rng L (rawP L t3.2) 1 (pickI [1,2,2,5] (rawV L (rawP L p))),Mod (rawV L (rawP L (rawP L t3.2))) 4⟩:Lnk)]
(.bk 2 b2 (W (t2.1+1),t2.2.1++[(⟨t2.1,t1.1,rng L t3.2 1 (pickI [1,2,2,5] (rawV L (rawP L p))),rng L (rawP L t3.2) 1 (pickI [1,2,2,5] (rawV L (rawP L p))),Mod (rawV L (rawP L (rawP L t3.2))) 4⟩:Lnk)],rawP L (rawP L (rawP L t3.2))) [0,1,2,3,229]))))))
(.bk 2 b2 (W (t2.1+1),t2.2.1,t3.2) [0,1,2,3,4]))))
(.bk 1 b1 (W (t1.1+1),t2.2.2,t2.2.1) [0,1,2,3,4])))))
(.say (Rf (t1.2.2.map Lnk.v)) (.cmd (.frzE 4 (t1.2.2.map Lnk.v) (pureBL_map (λ_=>rfl) t1.2.2)) (.req 85 (t1.2.2.length≤1000) λh2 =>
(.callH [] (orlM_h t1.2.2 h2) 85
(.pass (.join 4 (topM_n4 L t0 t1) (λ(t4:Bool×Nat)=>I4 t0 t1 t4) (λb4=>(.br 181 (decide (0<n)) (.callH [0] (oneM_h L t1.2.1 n) 213
(.bk 4 b4 (oneT L t1.2.1 n,rawP L t1.2.1) [0,1,2,3,85]))
(.bk 4 b4 (false,t1.2.1) [0,1,2,3,85]))) λ(t4:Bool×Nat) =>
(.br 5 t4.1 (.callH [0] (nxtM_h L t4.2 7) 21
(.br 69 ((Mod (rawV L t4.2) 7)==0) (.req 133 ([0,1,99,100,-1]≠[]) λh3 =>
(.callH [0] (pckM_h L (rawP L t4.2) [0,1,99,100,-1] h3) 133
(.say (λR=>Rf (α:=List AV) (t0.2.map Rtr.v) (Rf (α:=List AV) [.agg [.int (pickI [0,1,99,100,-1] (rawV L (rawP L t4.2))),.bool false]]
(ck (decide (t0.2.length+1≤1048576))
R))) (.app 181 Rtr.v t0.2 [(⟨pickI [0,1,99,100,-1] (rawV L (rawP L t4.2)),false⟩:Rtr)]
(.retH ((⟨L,rawP L (rawP L t4.2)⟩:Tap),(⟨t0.2++[(⟨pickI [0,1,99,100,-1] (rawV L (rawP L t4.2)),false⟩:Rtr)],ordK t1.2.2 []⟩:Tpl)) ⟨[(6,.k,.ref 3 0)],[.box (.agg [.sl 1 (L.map AV.int) false,.int (((rawP L (rawP L t4.2)):Nat):Int)]),.vec 2 ((t0.2++[(⟨pickI [0,1,99,100,-1] (rawV L (rawP L t4.2)),false⟩:Rtr)]).map Rtr.v) (pureBL_map (λ_=>rfl) (t0.2++[(⟨pickI [0,1,99,100,-1] (rawV L (rawP L t4.2)),false⟩:Rtr)])),.vec 5 ((ordK t1.2.2 []).map Lnk.v) (pureBL_map (λ_=>rfl) (ordK t1.2.2 [])),.box (.agg [.vec 1,.vec 2])]⟩ [0,181,4,1])))))
(.br 101 ((Mod (rawV L t4.2) 7)==1) (.callH [0] (nxtM_h L (rawP L t4.2) 4) 149
(.callH [0] (nxtM_h L (rawP L (rawP L t4.2)) 4) 181
(.say (λR=>Rf (α:=List AV) ((ordK t1.2.2 []).map Lnk.v) (Rf (α:=List AV) [.agg [.int (Mod (rawV L (rawP L t4.2)) 4),.int (Mod (rawV L (rawP L (rawP L t4.2))) 4),.int 1,.int 1,.int 0]]
(ck (decide ((ordK t1.2.2 []).length+1≤1048576))
R))) (.app 229 Lnk.v (ordK t1.2.2 []) [(⟨Mod (rawV L (rawP L t4.2)) 4,Mod (rawV L (rawP L (rawP L t4.2))) 4,1,1,0⟩:Lnk)]
(.retH ((⟨L,rawP L (rawP L (rawP L t4.2))⟩:Tap),(⟨t0.2,(ordK t1.2.2 [])++[(⟨Mod (rawV L (rawP L t4.2)) 4,Mod (rawV L (rawP L (rawP L t4.2))) 4,1,1,0⟩:Lnk)]⟩:Tpl)) ⟨[(6,.k,.ref 3 0)],[.box (.agg [.sl 1 (L.map AV.int) false,.int (((rawP L (rawP L (rawP L t4.2))):Nat):Int)]),.vec 2 (t0.2.map Rtr.v) (pureBL_map (λ_=>rfl) t0.2),.vec 5 (((ordK t1.2.2 [])++[(⟨Mod (rawV L (rawP L t4.2)) 4,Mod (rawV L (rawP L (rawP L t4.2))) 4,1,1,0⟩:Lnk)]).map Lnk.v) (pureBL_map (λ_=>rfl) ((ordK t1.2.2 [])++[(⟨Mod (rawV L (rawP L t4.2)) 4,Mod (rawV L (rawP L (rawP L t4.2))) 4,1,1,0⟩:Lnk)])),.box (.agg [.vec 1,.vec 2])]⟩ [0,3,229,1])))))
(.br 133 ((Mod (rawV L t4.2) 7)==2) (.br 197 (decide (0<(((ordK t1.2.2 []).map Lnk.v).length:Int))) (.callH [0] (nxtM_h L (rawP L t4.2) (((ordK t1.2.2 []).map Lnk.v).length:Int)) 293
(.callH [0] (wldM_h L (rawP L (rawP L t4.2))) 325
(.say (ck (cond (decide (0≤(Mod (rawV L (rawP L t4.2)) (((ordK t1.2.2 []).map Lnk.v).length:Int)))) (decide ((Mod (rawV L (rawP L t4.2)) (((ordK t1.2.2 []).map Lnk.v).length:Int))<(((ordK t1.2.2 []).map Lnk.v).length:Int))) false)) (.st 373 Lnk.v (ordK t1.2.2 []) (λy4=>(⟨y4.a,y4.b,wldT L (rawP L (rawP L t4.2)),y4.cb,y4.w⟩:Lnk)) (λR=>Rf ((ordK t1.2.2 []).map Lnk.v) (ck (decide ((Mod (rawV L (rawP L t4.2)) (((ordK t1.2.2 []).map Lnk.v).length:Int)).toNat<(ordK t1.2.2 []).length))
(∀y4,(ordK t1.2.2 [])[(Mod (rawV L (rawP L t4.2)) (((ordK t1.2.2 []).map Lnk.v).length:Int)).toNat]?=some y4→Rf (Lnk.v (⟨y4.a,y4.b,wldT L (rawP L (rawP L t4.2)),y4.cb,y4.w⟩:Lnk))
((R y4))))) λy4 =>
(.retH ((⟨L,rawP L (rawP L (rawP L t4.2))⟩:Tap),(⟨t0.2,(ordK t1.2.2 []).set ((Mod (rawV L (rawP L t4.2)) (((ordK t1.2.2 []).map Lnk.v).length:Int)).toNat) (⟨y4.a,y4.b,wldT L (rawP L (rawP L t4.2)),y4.cb,y4.w⟩:Lnk)⟩:Tpl)) ⟨[(6,.k,.ref 3 0)],[.box (.agg [.sl 1 (L.map AV.int) false,.int (((rawP L (rawP L (rawP L t4.2))):Nat):Int)]),.vec 2 (t0.2.map Rtr.v) (pureBL_map (λ_=>rfl) t0.2),.vec 5 (((ordK t1.2.2 []).set ((Mod (rawV L (rawP L t4.2)) (((ordK t1.2.2 []).map Lnk.v).length:Int)).toNat) (⟨y4.a,y4.b,wldT L (rawP L (rawP L t4.2)),y4.cb,y4.w⟩:Lnk)).map Lnk.v) (pureBL_map (λ_=>rfl) ((ordK t1.2.2 []).set ((Mod (rawV L (rawP L t4.2)) (((ordK t1.2.2 []).map Lnk.v).length:Int)).toNat) (⟨y4.a,y4.b,wldT L (rawP L (rawP L t4.2)),y4.cb,y4.w⟩:Lnk))),.box (.agg [.vec 1,.vec 2])]⟩ [0,3,4,1])))))
(.retH ((⟨L,rawP L t4.2⟩:Tap),(⟨t0.2,ordK t1.2.2 []⟩:Tpl)) ⟨[(6,.k,.ref 3 0)],[.box (.agg [.sl 1 (L.map AV.int) false,.int (((rawP L t4.2):Nat):Int)]),.vec 2 (t0.2.map Rtr.v) (pureBL_map (λ_=>rfl) t0.2),.vec 5 ((ordK t1.2.2 []).map Lnk.v) (pureBL_map (λ_=>rfl) (ordK t1.2.2 [])),.box (.agg [.vec 1,.vec 2])]⟩ [0,3,4,1]))
(.br 165 ((Mod (rawV L t4.2) 7)==3) (.br 229 (decide (0<(((ordK t1.2.2 []).map Lnk.v).length:Int))) (.callH [0] (nxtM_h L (rawP L t4.2) (((ordK t1.2.2 []).map Lnk.v).length:Int)) 325
(.callH [0] (wldM_h L (rawP L (rawP L t4.2))) 357
(.say (ck (cond (decide (0≤(Mod (rawV L (rawP L t4.2)) (((ordK t1.2.2 []).map Lnk.v).length:Int)))) (decide ((Mod (rawV L (rawP L t4.2)) (((ordK t1.2.2 []).map Lnk.v).length:Int))<(((ordK t1.2.2 []).map Lnk.v).length:Int))) false)) (.st 405 Lnk.v (ordK t1.2.2 []) (λy5=>(⟨y5.a,y5.b,y5.ca,wldT L (rawP L (rawP L t4.2)),y5.w⟩:Lnk)) (λR=>Rf ((ordK t1.2.2 []).map Lnk.v) (ck (decide ((Mod (rawV L (rawP L t4.2)) (((ordK t1.2.2 []).map Lnk.v).length:Int)).toNat<(ordK t1.2.2 []).length))
(∀y5,(ordK t1.2.2 [])[(Mod (rawV L (rawP L t4.2)) (((ordK t1.2.2 []).map Lnk.v).length:Int)).toNat]?=some y5→Rf (Lnk.v (⟨y5.a,y5.b,y5.ca,wldT L (rawP L (rawP L t4.2)),y5.w⟩:Lnk))
((R y5))))) λy5 =>
(.retH ((⟨L,rawP L (rawP L (rawP L t4.2))⟩:Tap),(⟨t0.2,(ordK t1.2.2 []).set ((Mod (rawV L (rawP L t4.2)) (((ordK t1.2.2 []).map Lnk.v).length:Int)).toNat) (⟨y5.a,y5.b,y5.ca,wldT L (rawP L (rawP L t4.2)),y5.w⟩:Lnk)⟩:Tpl)) ⟨[(6,.k,.ref 3 0)],[.box (.agg [.sl 1 (L.map AV.int) false,.int (((rawP L (rawP L (rawP L t4.2))):Nat):Int)]),.vec 2 (t0.2.map Rtr.v) (pureBL_map (λ_=>rfl) t0.2),.vec 5 (((ordK t1.2.2 []).set ((Mod (rawV L (rawP L t4.2)) (((ordK t1.2.2 []).map Lnk.v).length:Int)).toNat) (⟨y5.a,y5.b,y5.ca,wldT L (rawP L (rawP L t4.2)),y5.w⟩:Lnk)).map Lnk.v) (pureBL_map (λ_=>rfl) ((ordK t1.2.2 []).set ((Mod (rawV L (rawP L t4.2)) (((ordK t1.2.2 []).map Lnk.v).length:Int)).toNat) (⟨y5.a,y5.b,y5.ca,wldT L (rawP L (rawP L t4.2)),y5.w⟩:Lnk))),.box (.agg [.vec 1,.vec 2])]⟩ [0,3,4,1])))))
(.retH ((⟨L,rawP L t4.2⟩:Tap),(⟨t0.2,ordK t1.2.2 []⟩:Tpl)) ⟨[(6,.k,.ref 3 0)],[.box (.agg [.sl 1 (L.map AV.int) false,.int (((rawP L t4.2):Nat):Int)]),.vec 2 (t0.2.map Rtr.v) (pureBL_map (λ_=>rfl) t0.2),.vec 5 ((ordK t1.2.2 []).map Lnk.v) (pureBL_map (λ_=>rfl) (ordK t1.2.2 [])),.box (.agg [.vec 1,.vec 2])]⟩ [0,3,4,1]))
(.br 197 ((Mod (rawV L t4.2) 7)==4) (.br 261 (decide (0<(((ordK t1.2.2 []).map Lnk.v).length:Int))) (.callH [0] (nxtM_h L (rawP L t4.2) (((ordK t1.2.2 []).map Lnk.v).length:Int)) 357
(.callH [0] (wldM_h L (rawP L (rawP L t4.2))) 389
(.say (ck (cond (decide (0≤(Mod (rawV L (rawP L t4.2)) (((ordK t1.2.2 []).map Lnk.v).length:Int)))) (decide ((Mod (rawV L (rawP L t4.2)) (((ordK t1.2.2 []).map Lnk.v).length:Int))<(((ordK t1.2.2 []).map Lnk.v).length:Int))) false)) (.st 437 Lnk.v (ordK t1.2.2 []) (λy6=>(⟨y6.a,y6.b,y6.ca,y6.cb,wldT L (rawP L (rawP L t4.2))⟩:Lnk)) (λR=>Rf ((ordK t1.2.2 []).map Lnk.v) (ck (decide ((Mod (rawV L (rawP L t4.2)) (((ordK t1.2.2 []).map Lnk.v).length:Int)).toNat<(ordK t1.2.2 []).length))
(∀y6,(ordK t1.2.2 [])[(Mod (rawV L (rawP L t4.2)) (((ordK t1.2.2 []).map Lnk.v).length:Int)).toNat]?=some y6→Rf (Lnk.v (⟨y6.a,y6.b,y6.ca,y6.cb,wldT L (rawP L (rawP L t4.2))⟩:Lnk))
((R y6))))) λy6 =>
(.retH ((⟨L,rawP L (rawP L (rawP L t4.2))⟩:Tap),(⟨t0.2,(ordK t1.2.2 []).set ((Mod (rawV L (rawP L t4.2)) (((ordK t1.2.2 []).map Lnk.v).length:Int)).toNat) (⟨y6.a,y6.b,y6.ca,y6.cb,wldT L (rawP L (rawP L t4.2))⟩:Lnk)⟩:Tpl)) ⟨[(6,.k,.ref 3 0)],[.box (.agg [.sl 1 (L.map AV.int) false,.int (((rawP L (rawP L (rawP L t4.2))):Nat):Int)]),.vec 2 (t0.2.map Rtr.v) (pureBL_map (λ_=>rfl) t0.2),.vec 5 (((ordK t1.2.2 []).set ((Mod (rawV L (rawP L t4.2)) (((ordK t1.2.2 []).map Lnk.v).length:Int)).toNat) (⟨y6.a,y6.b,y6.ca,y6.cb,wldT L (rawP L (rawP L t4.2))⟩:Lnk)).map Lnk.v) (pureBL_map (λ_=>rfl) ((ordK t1.2.2 []).set ((Mod (rawV L (rawP L t4.2)) (((ordK t1.2.2 []).map Lnk.v).length:Int)).toNat) (⟨y6.a,y6.b,y6.ca,y6.cb,wldT L (rawP L (rawP L t4.2))⟩:Lnk))),.box (.agg [.vec 1,.vec 2])]⟩ [0,3,4,1])))))
(.retH ((⟨L,rawP L t4.2⟩:Tap),(⟨t0.2,ordK t1.2.2 []⟩:Tpl)) ⟨[(6,.k,.ref 3 0)],[.box (.agg [.sl 1 (L.map AV.int) false,.int (((rawP L t4.2):Nat):Int)]),.vec 2 (t0.2.map Rtr.v) (pureBL_map (λ_=>rfl) t0.2),.vec 5 ((ordK t1.2.2 []).map Lnk.v) (pureBL_map (λ_=>rfl) (ordK t1.2.2 [])),.box (.agg [.vec 1,.vec 2])]⟩ [0,3,4,1]))
(.br 229 ((Mod (rawV L t4.2) 7)==5) (.br 293 (decide (0<(((ordK t1.2.2 []).map Lnk.v).length:Int))) (.callH [0] (nxtM_h L (rawP L t4.2) (((ordK t1.2.2 []).map Lnk.v).length:Int)) 421
(.say (ck (cond (decide (0≤(Mod (rawV L (rawP L t4.2)) (((ordK t1.2.2 []).map Lnk.v).length:Int)))) (decide ((Mod (rawV L (rawP L t4.2)) (((ordK t1.2.2 []).map Lnk.v).length:Int))<(((ordK t1.2.2 []).map Lnk.v).length:Int))) false)) (.el 453 Lnk.v (ordK t1.2.2 []) (λR=>Rf ((ordK t1.2.2 []).map Lnk.v) (ck (decide ((Mod (rawV L (rawP L t4.2)) (((ordK t1.2.2 []).map Lnk.v).length:Int)).toNat<(ordK t1.2.2 []).length))
(∀x7,(ordK t1.2.2 [])[(Mod (rawV L (rawP L t4.2)) (((ordK t1.2.2 []).map Lnk.v).length:Int)).toNat]?=some x7 →
(R x7)))) λx7 =>
(.say (λR=>Rf (α:=List AV) ((ordK t1.2.2 []).map Lnk.v) (Rf (α:=List AV) [.agg [.int x7.a,.int x7.b,.int x7.ca,.int x7.cb,.int x7.w]]
(ck (decide ((ordK t1.2.2 []).length+1≤1048576))
R))) (.app 485 Lnk.v (ordK t1.2.2 []) [x7]
(.retH ((⟨L,rawP L (rawP L t4.2)⟩:Tap),(⟨t0.2,(ordK t1.2.2 [])++[x7]⟩:Tpl)) ⟨[(6,.k,.ref 3 0)],[.box (.agg [.sl 1 (L.map AV.int) false,.int (((rawP L (rawP L t4.2)):Nat):Int)]),.vec 2 (t0.2.map Rtr.v) (pureBL_map (λ_=>rfl) t0.2),.vec 5 (((ordK t1.2.2 [])++[x7]).map Lnk.v) (pureBL_map (λ_=>rfl) ((ordK t1.2.2 [])++[x7])),.box (.agg [.vec 1,.vec 2])]⟩ [0,3,485,1]))))))
(.retH ((⟨L,rawP L t4.2⟩:Tap),(⟨t0.2,ordK t1.2.2 []⟩:Tpl)) ⟨[(6,.k,.ref 3 0)],[.box (.agg [.sl 1 (L.map AV.int) false,.int (((rawP L t4.2):Nat):Int)]),.vec 2 (t0.2.map Rtr.v) (pureBL_map (λ_=>rfl) t0.2),.vec 5 ((ordK t1.2.2 []).map Lnk.v) (pureBL_map (λ_=>rfl) (ordK t1.2.2 [])),.box (.agg [.vec 1,.vec 2])]⟩ [0,3,4,1]))
(.loop 5 (topM_n5 L t1 t4) (I5 t0 t1 t4) (m5 t0 t1 t4) (50,t0.2) [0,1,2,3,4] λ(t5:Int×(List Rtr)) b5 =>
(.br 37 (decide (t5.1<75)) (.say (λR=>Rf (α:=List AV) (t5.2.map Rtr.v) (Rf (α:=List AV) [.agg [.int t5.1,.bool false]]
(ck (decide (t5.2.length+1≤1048576))
R))) (.app 117 Rtr.v t5.2 [(⟨t5.1,false⟩:Rtr)]
(.bk 5 b5 (W (t5.1+1),t5.2++[(⟨t5.1,false⟩:Rtr)]) [0,1,2,117,4])))
(.retH ((⟨L,rawP L t4.2⟩:Tap),(⟨t5.2,ordK t1.2.2 []⟩:Tpl)) ⟨[(6,.k,.ref 3 0)],[.box (.agg [.sl 1 (L.map AV.int) false,.int (((rawP L t4.2):Nat):Int)]),.vec 2 (t5.2.map Rtr.v) (pureBL_map (λ_=>rfl) t5.2),.vec 5 ((ordK t1.2.2 []).map Lnk.v) (pureBL_map (λ_=>rfl) (ordK t1.2.2 [])),.box (.agg [.vec 1,.vec 2])]⟩ [0,3,4,1]))))))))))
(.retH ((⟨L,t4.2⟩:Tap),(⟨t0.2,ordK t1.2.2 []⟩:Tpl)) ⟨[(6,.k,.ref 3 0)],[.box (.agg [.sl 1 (L.map AV.int) false,.int ((t4.2:Nat):Int)]),.vec 2 (t0.2.map Rtr.v) (pureBL_map (λ_=>rfl) t0.2),.vec 5 ((ordK t1.2.2 []).map Lnk.v) (pureBL_map (λ_=>rfl) (ordK t1.2.2 [])),.box (.agg [.vec 1,.vec 2])]⟩ [0,3,4,1])))))))))))))))))
def topM_vc(L:(List Int))(p:Nat)(most:Int)(n:Int)(I0:(Int×(List Rtr))→Prop)(m0:(Int×(List Rtr))→Nat)(I1:Int×(List Rtr)→(Int×Nat×(List Lnk))→Prop)(m1:Int×(List Rtr)→(Int×Nat×(List Lnk))→Nat)(I2:Int×(List Rtr)→Int×Nat×(List Lnk)→(Int×(List Lnk)×Nat)→Prop)(m2:Int×(List Rtr)→Int×Nat×(List Lnk)→(Int×(List Lnk)×Nat)→Nat)(I3:Int×(List Rtr)→Int×Nat×(List Lnk)→Int×(List Lnk)×Nat→(Bool×Nat)→Prop)(I4:Int×(List Rtr)→Int×Nat×(List Lnk)→(Bool×Nat)→Prop)(I5:Int×(List Rtr)→Int×Nat×(List Lnk)→Bool×Nat→(Int×(List Rtr))→Prop)(m5:Int×(List Rtr)→Int×Nat×(List Lnk)→Bool×Nat→(Int×(List Rtr))→Nat)(r0:Tap×Tpl):Prop:=(topM_x L p most n I0 m0 I1 m1 I2 m2 I3 I4 I5 m5).vc topM_e topM_b r0
theorem topM_p(L:List Int)(p:Nat)(most n:Int)(h:1≤most∧most≤20)(ok:topM_a L p most n):∃I0 m0 I1 m1 I2 m2 I3 I4 I5 m5,topM_vc L p most n I0 m0 I1 m1 I2 m2 I3 I4 I5 m5 ((⟨L,(topM L p most n).2⟩:Tap),(topM L p most n).1):=by
 have hk:=rng_1 (L:=L) (p:=p) (m:=most) (by omega)
 refine⟨λs=>∃j:Nat,s.1=((j+1:Nat):Int)∧j≤(rng L p 1 most).toNat∧s.2=rtsM j,λs=>(rng L p 1 most).toNat+1-s.1.toNat,
  λ_ s=>∃j:Nat,s.1=((j+2:Nat):Int)∧j≤(rng L p 1 most-1).toNat∧s.2.2.length≤20 * j∧ouM L (cstM L p) ((rng L p 1 most-1).toNat-j) s.1 s.2.2 s.2.1=topO L p most,λ_ s=>(rng L p 1 most).toNat+1-s.1.toNat,
  λ_ s1 s=>∃j:Nat,s.1=((j+1:Nat):Int)∧j≤(s1.1-1).toNat∧s.2.1.length≤s1.2.2.length+j∧inM L (cstM L p) s1.1 (rng L s1.2.1 1 (W (s1.1-1))) (oneT L (rawP L s1.2.1) 9) ((s1.1-1).toNat-j) s.1 s.2.1 s.2.2=inR L (cstM L p) s1.1 s1.2.2 s1.2.1,λ_ s1 s=>s1.1.toNat-s.1.toNat,
  λ_ s1 s2 s=>s=cnM L s2.1 (rng L s1.2.1 1 (W (s1.1-1))) (oneT L (rawP L s1.2.1) 9) s2.2.2,
  λ_ s1 s=>s=(decide (0<n∧oneT L s1.2.1 n=true),if 0<n then rawP L s1.2.1 else s1.2.1),
  λ_ _ _ s=>∃j:Nat,s.1=((50+j:Nat):Int)∧j≤25∧s.2=rtsM (rng L p 1 most).toNat++farM j,λ_ _ _ s=>75-s.1.toNat,?_⟩
 dsimp only[topM_vc,topM_x,topM_s,Ax.vp,Ax.vc];simp only[vcU,rfU,List.length_map]
 generalize hK:rng L p 1 most=K at hk ⊢
 have hK0:topB L p most=⟨rtsM K.toNat,ordK (topO L p most).1 []⟩:=by unfold topB;rw[hK]
 refine⟨⟨0,rfl,Nat.zero_le _,rfl⟩,?_⟩
 rintro⟨i,rs⟩ ⟨j,hi,hj,hr⟩
 simp only at hi hr ⊢
 subst hi;subst hr
 rw[rtsM_len]
 refine⟨λc=>⟨by omega,⟨j+1,by rw[W_eq (by omega)];omega,by omega,(rtsM_succ j).symm⟩,by rw[W_eq (by omega)];omega⟩,λc=>⟨by simp,?_⟩⟩
 obtain rfl:j=K.toNat:=by omega
 refine⟨⟨0,rfl,Nat.zero_le _,by simp,by rw[topO,hK];rfl⟩,?_⟩
 rintro⟨b,q,ls⟩ ⟨jb,hb,hjb,hlb,hob⟩
 simp only at hb hlb hob ⊢
 refine⟨λc1=>?_,λc1=>?_⟩
 ·refine⟨⟨0,rfl,Nat.zero_le _,by simp,by rw[Nat.sub_zero];rfl⟩,?_⟩
  rintro⟨a,l2,p2⟩ ⟨ja,ha,hja,hla,hoa⟩
  simp only at ha hla hoa ⊢
  refine⟨λc2=>⟨⟨λe=>⟨λe2=>?_,λe2=>?_⟩,λe=>?_⟩,?_⟩,λc2=>?_⟩
  ·rw[cnM,if_pos ⟨e,by simpa using e2⟩]
  ·rw[cnM,if_neg (λq=>by rw[q.2]at e2;cases e2)]
  ·rw[cnM,if_neg (λq=>by rw[q.1]at e;cases e)]
  ·rintro _ rfl
   have hst:(b-1).toNat-ja=((b-1).toNat-(ja+1))+1:=by omega
   rw[hst,inM]at hoa
   have hw:W (a+1)=((ja+1+1:Nat):Int):=by rw[W_eq (by omega)];omega
   refine⟨λe=>?_,λe=>?_⟩
   ·rw[if_pos e]at hoa
    refine⟨by omega,⟨ja+1,hw,by omega,by simp;omega,?_⟩,by rw[hw];omega⟩
    rw[hw,show((ja+1+1:Nat):Int)=a+1 by omega]
    exact hoa
   ·rw[if_neg (by rw[e];simp)]at hoa
    refine⟨⟨ja+1,hw,by omega,by omega,?_⟩,by rw[hw];omega⟩
    rw[hw,show((ja+1+1:Nat):Int)=a+1 by omega]
    exact hoa
  ·have e1:(b-1).toNat-ja=0:=by omega
   rw[e1,inM]at hoa
   have e2:(K-1).toNat-jb=((K-1).toNat-(jb+1))+1:=by omega
   rw[e2,ouM,←hoa]at hob
   have hw:W (b+1)=((jb+1+2:Nat):Int):=by rw[W_eq (by omega)];omega
   refine⟨⟨jb+1,hw,by omega,by omega,?_⟩,by rw[hw];omega⟩
   rw[hw,show((jb+1+2:Nat):Int)=b+1 by omega]
   exact hob
 ·have e1:(K-1).toNat-jb=0:=by omega
  rw[e1,ouM]at hob
  have hT:topM L p most n=if 0<n∧oneT L q n=true then spoM L (rawP L q) ⟨rtsM K.toNat,ordK ls []⟩else(⟨rtsM K.toNat,ordK ls []⟩,if 0<n then rawP L q else q):=by
   unfold topM;rw[hK0,←hob]
  have hol:(ordK ls []).length≤400:=by rw[ordK_len];simp;omega
  generalize ordK ls []=ol at hT hol ⊢
  refine⟨by omega,⟨λc2=>?_,λc2=>?_⟩,?_⟩
  ·rw[if_pos c2]
   refine Prod.ext ?_ rfl
   rw[Bool.eq_iff_iff];simp[c2]
  ·rw[if_neg c2]
   refine Prod.ext ?_ rfl
   rw[Bool.eq_iff_iff];simp[c2]
  rintro _ rfl
  simp only
  refine⟨λe=>?_,λe=>by rw[hT,if_neg (of_decide_eq_false e)]⟩
  have e:=of_decide_eq_true e
  rw[hT,if_pos e,if_pos e.1]
  generalize rawP L q=q1
  have hix:∀{m:Nat},0<(m:Int)→(bif decide (0≤Mod (rawV L (rawP L q1)) m)then decide (Mod (rawV L (rawP L q1)) m<m)else false)=true∧(Mod (rawV L (rawP L q1)) m).toNat<m:=λ{m} hm=>by
   have:=Mod_range (x:=rawV L (rawP L q1)) (show 1≤(m:Int) by omega)
   exact⟨range2 this.1 this.2,by omega⟩
  have hno:¬0<(ol.length:Int)→∀i:Nat,ol[i]?=none:=λh i=>List.getElem?_eq_none (by omega)
  unfold spoM ixM
  simp only
  refine⟨λs0=>?_,λs0=>⟨λs1=>?_,λs1=>⟨λs2=>?_,λs2=>⟨λs3=>?_,λs3=>⟨λs4=>?_,λs4=>⟨λs5=>?_,λs5=>?_⟩⟩⟩⟩⟩⟩
  ·rw[if_pos (eq_of_beq s0)]
   exact⟨by simp,by omega,rfl⟩
  all_goals
   have s0:¬Mod (rawV L q1) 7=0:=by simpa using s0
   rw[if_neg s0]
  ·rw[if_pos (eq_of_beq s1)]
   exact⟨by omega,rfl⟩
  all_goals
   have s1:¬Mod (rawV L q1) 7=1:=by simpa using s1
   rw[if_neg s1]
  ·rw[if_pos (eq_of_beq s2)]
   exact⟨λh=>⟨(hix h).1,(hix h).2,λy hy=>by rw[hy]⟩,λh=>by rw[hno h]⟩
  all_goals
   have s2:¬Mod (rawV L q1) 7=2:=by simpa using s2
   rw[if_neg s2]
  ·rw[if_pos (eq_of_beq s3)]
   exact⟨λh=>⟨(hix h).1,(hix h).2,λy hy=>by rw[hy]⟩,λh=>by rw[hno h]⟩
  all_goals
   have s3:¬Mod (rawV L q1) 7=3:=by simpa using s3
   rw[if_neg s3]
  ·rw[if_pos (eq_of_beq s4)]
   exact⟨λh=>⟨(hix h).1,(hix h).2,λy hy=>by rw[hy]⟩,λh=>by rw[hno h]⟩
  all_goals
   have s4:¬Mod (rawV L q1) 7=4:=by simpa using s4
   rw[if_neg s4]
  ·rw[if_pos (eq_of_beq s5)]
   exact⟨λh=>⟨(hix h).1,(hix h).2,λy hy=>by rw[hy];exact⟨by omega,rfl⟩⟩,λh=>by rw[hno h]⟩
  have s5:¬Mod (rawV L q1) 7=5:=by simpa using s5
  rw[if_neg s5]
  refine⟨⟨0,rfl,by omega,by simp[farM]⟩,?_⟩
  rintro⟨i,rs⟩ ⟨j,hi,hj,hr⟩
  simp only at hi hr ⊢
  subst hi;subst hr
  refine⟨λf=>⟨by rw[List.length_append,rtsM_len,farM_len];omega,⟨j+1,by rw[W_eq (by omega)];omega,by omega,by rw[farM_succ,List.append_assoc]⟩,by rw[W_eq (by omega)];omega⟩,λf=>?_⟩
  obtain rfl:j=25:=by omega
  rfl
def topM_h(L:(List Int))(p:Nat)(most:Int)(n:Int)(h:1≤most∧most≤20):HC Tryz.prog:=⟨23,[.k,.k,.k],[.ref 0 0,.int most,.int n],[.box (.agg [.sl 1 (L.map AV.int) false,.int ((p:Nat):Int)])],topM_e ((⟨L,(topM L p most n).2⟩:Tap),(topM L p most n).1),topM_b ((⟨L,(topM L p most n).2⟩:Tap),(topM L p most n).1),HSpec.of_okh λok ok2=>have ok:topM_a L p most n:=⟨ok,ok2 _ (by simp)⟩;(topM_p L p most n h ok).elim λI0 h=>h.elim λm0 h=>h.elim λI1 h=>h.elim λm1 h=>h.elim λI2 h=>h.elim λm2 h=>h.elim λI3 h=>h.elim λI4 h=>h.elim λI5 h=>h.elim λm5 h=>mxH_of (sh:=.k) (enc:=topM_e) (hB:=topM_b) (a:=(topM_x L p most n I0 m0 I1 m1 I2 m2 I3 I4 I5 m5).an) h (by kernel_rfl),fnB_ok (by kernel_rfl),HcOk.of (by simp[hcB,belBL,AV.belB,allB,okBk,okBkO,topM_e,topM_b,pureBL_map (v:=AV.int) (λ_=>rfl),pureBL_map (v:=Lnk.v) (λ_=>rfl),pureBL_map (v:=Rtr.v) (λ_=>rfl)])⟩
theorem ordL_len{L:List Int}:∀{n:Nat} {i:Int} {out:List Int} {p:Nat},(ordL L n i out p).1.length=out.length+n
 | 0,i,out,p=>rfl
 | n+1,i,out,p=>by
  have hm:=Mod_range (x:=rawV L p) (show 1≤(out.length:Int)+1 by omega)
  rw[ordL,ordL_len,insAt_len _ _ _ (by omega)];omega
def plaL(L:List Int)(c:Int)(rs:List Rtr):List Int→Int→List Edg→Nat→(Int×List Edg)×Nat
 | [],id,es,p=>((id,es),p)
 | o::l,id,es,p =>
  if Mod (rawV L p) 4=0 then plaL L c rs l id es (rawP L p)
  else if W (id+pickI [1,1,1,2,c] (rawV L (rawP L p)))≤256 then(match rs[o.toNat]? with
   | some r=>plaL L c rs l (W (id+pickI [1,1,1,2,c] (rawV L (rawP L p)))) (es++[⟨r.id,W (id+pickI [1,1,1,2,c] (rawV L (rawP L p)))⟩]) (rawP L (rawP L p))
   | none=>((id,es),p))
  else plaL L c rs l (W (id+pickI [1,1,1,2,c] (rawV L (rawP L p)))) es (rawP L (rawP L p))
def plaR(L:List Int)(p:Nat)(g:Tpl):(Int×List Edg)×Nat:=plaL L (W (lenT L (rawP L p)-1)) g.rs (ordT L g.rs.length (rawP L (rawP L p))).1 0 [] (ordT L g.rs.length (rawP L (rawP L p))).2
def plaS(L:List Int)(p:Nat)(sub len:Int)(q:Int×List Edg):Pln×Nat:=
 if Mod (rawV L p) 5=0 then(⟨wldT L (rawP L p),len,q.2⟩,rawP L (rawP L p))
 else if Mod (rawV L p) 5=1 then(⟨sub,pickI [0,8,24,64,128] (rawV L (rawP L p)),q.2⟩,rawP L (rawP L p))
 else if Mod (rawV L p) 5=2 then(⟨sub,len,q.2++[⟨pickI [0,1,99,100] (rawV L (rawP L p)),pickI [0,1,256,257] (rawV L (rawP L (rawP L p)))⟩]⟩,rawP L (rawP L (rawP L p)))
 else if Mod (rawV L p) 5=3 then(match q.2[0]? with
  | some y=>(⟨sub,len,q.2.set 0 ⟨y.router,wldT L (rawP L p)⟩⟩,rawP L (rawP L p))
  | none=>(⟨sub,len,q.2⟩,rawP L p))
 else(⟨sub,len,q.2++[⟨50,W (q.1+1)⟩]⟩,rawP L p)
def plaM(L:List Int)(p:Nat)(g:Tpl)(n:Int):Pln×Nat:=
 if 0<n∧oneT L (plaR L p g).2 n=true then plaS L (rawP L (plaR L p g).2) (Mod (rawV L p) 3) (lenT L (rawP L p)) (plaR L p g).1
 else(⟨Mod (rawV L p) 3,lenT L (rawP L p),(plaR L p g).1.2⟩,if 0<n then rawP L (plaR L p g).2 else(plaR L p g).2)
def plaM_a(L:(List Int))(p:Nat)(g:Tpl)(n:Int):Prop:=okL [.ref 0 0,.agg [.sl 2 (g.rs.map Rtr.v) false,.sl 5 (g.ls.map Lnk.v) false],.int n]∧(.box (.agg [.sl 1 (L.map AV.int) false,.int ((p:Nat):Int)]):Blk).ok
abbrev plaM_v0(L:(List Int))(p:Nat)(g:Tpl):=(ordT L ((g.rs.map Rtr.v).length:Int) (rawP L (rawP L p)))
def plaM_n0(L:(List Int))(p:Nat)(g:Tpl)(n:Int)(t0:Int×Nat×Int×(List Edg)):NF:=⟨[(0,.k,.ref 0 0),(2,.k,.int n),(4,.k,.ref 1 0),(6,.k,.ref 2 0),(7,.k,.ref 3 0),(8,.k,.int t0.2.2.1),(9,.k,.sl 1 (((plaM_v0 L p g).1).map AV.int) false),(10,.k,.int t0.1)],[.box (.agg [.sl 1 (L.map AV.int) false,.int ((t0.2.1:Nat):Int)]),.box (.agg [.sl 2 (g.rs.map Rtr.v) false,.sl 5 (g.ls.map Lnk.v) false]),.box (.agg [.int 0,.int 0,.sl 0 [] true]),.box (.agg [.int (Mod (rawV L p) 3),.int (lenT L (rawP L p)),.vec 4]),.vec 2 (t0.2.2.2.map Edg.v) (pureBL_map (λ_=>rfl) t0.2.2.2)]⟩
def plaM_n1(L:(List Int))(p:Nat)(t0:Int×Nat×Int×(List Edg))(t1:Bool×Nat):NF:=⟨[(0,.k,.ref 0 0),(6,.k,.ref 1 0),(7,.k,.ref 2 0),(8,.k,.int t0.2.2.1),(62,.k,.bool t1.1)],[.box (.agg [.sl 1 (L.map AV.int) false,.int ((t1.2:Nat):Int)]),.box (.agg [.int 0,.int 0,.sl 0 [] true]),.box (.agg [.int (Mod (rawV L p) 3),.int (lenT L (rawP L p)),.vec 3]),.vec 2 (t0.2.2.2.map Edg.v) (pureBL_map (λ_=>rfl) t0.2.2.2)]⟩
@[reducible] def plaM_s:Nat→Type
 | 0=>Int×Nat×Int×(List Edg)
 | 1=>Bool×Nat
 | _=>Unit
def plaM_e(r:Tap×Pln):AV:=.agg [.int r.2.sub,.int r.2.len,.sl 2 (r.2.es.map Edg.v) false]
def plaM_b(r:Tap×Pln):List (Option Blk):=[some (.box (.agg [.sl 1 (r.1.L.map AV.int) false,.int ((r.1.p:Nat):Int)]))]
def plaM_x(L:(List Int))(p:Nat)(g:Tpl)(n:Int)(I0:(Int×Nat×Int×(List Edg))→Prop)(m0:(Int×Nat×Int×(List Edg))→Nat)(I1:Int×Nat×Int×(List Edg)→(Bool×Nat)→Prop):Ax Tryz.prog plaM_s (Tap×Pln):=
 (.callH [0] (nxtM_h L p 3) 49
(.callH [0] (lenM_h L (rawP L p)) 81
(.req 225 (((g.rs.map Rtr.v).length:Int)≤1000) λh1 =>
(.callH [0] (ordM_h L (rawP L (rawP L p)) ((g.rs.map Rtr.v).length:Int) h1) 225
(.cmdL (.nilB 113 2 2) (.loop 0 (plaM_n0 L p g n) I0 m0 (0,(plaM_v0 L p g).2,0,[]) [0,1,17,113,273] λ(t0:Int×Nat×Int×(List Edg)) b0 =>
(.br 69 (decide (t0.1<((((plaM_v0 L p g).1).map AV.int).length:Int))) (.callH [0] (nxtM_h L t0.2.1 4) 85
(.br 117 ((Mod (rawV L t0.2.1) 4)==0) (.bk 0 b0 (W (t0.1+1),rawP L t0.2.1,t0.2.2.1,t0.2.2.2) [0,1,2,3,4])
(.req 213 ([1,1,1,2,W ((lenT L (rawP L p))-1)]≠[]) λh2 =>
(.callH [0] (pckM_h L (rawP L t0.2.1) [1,1,1,2,W ((lenT L (rawP L p))-1)] h2) 213
(.br 293 (decide ((W (t0.2.2.1+(pickI [1,1,1,2,W ((lenT L (rawP L p))-1)] (rawV L (rawP L t0.2.1)))))≤256)) (.el 389 AV.int ((plaM_v0 L p g).1) (λR=>Rf (((plaM_v0 L p g).1).map AV.int) (ck (decide (0≤t0.1)) (ck (decide (t0.1<(((plaM_v0 L p g).1).length:Int)))
(∀x3,((plaM_v0 L p g).1)[t0.1.toNat]?=some x3 →
(R x3))))) λx3 =>
(.el 421 Rtr.v g.rs (λR=>Rf (g.rs.map Rtr.v) (ck (decide (0≤x3)) (ck (decide (x3<(g.rs.length:Int)))
(∀x4,g.rs[x3.toNat]?=some x4 →
(R x4))))) λx4 =>
(.say (λR=>Rf (α:=List AV) (t0.2.2.2.map Edg.v) (Rf (α:=List AV) [.agg [.int x4.id,.int (W (t0.2.2.1+(pickI [1,1,1,2,W ((lenT L (rawP L p))-1)] (rawV L (rawP L t0.2.1)))))]]
(ck (decide (t0.2.2.2.length+1≤1048576))
R))) (.app 517 Edg.v t0.2.2.2 [(⟨x4.id,W (t0.2.2.1+(pickI [1,1,1,2,W ((lenT L (rawP L p))-1)] (rawV L (rawP L t0.2.1))))⟩:Edg)]
(.bk 0 b0 (W (t0.1+1),rawP L (rawP L t0.2.1),W (t0.2.2.1+(pickI [1,1,1,2,W ((lenT L (rawP L p))-1)] (rawV L (rawP L t0.2.1)))),t0.2.2.2++[(⟨x4.id,W (t0.2.2.1+(pickI [1,1,1,2,W ((lenT L (rawP L p))-1)] (rawV L (rawP L t0.2.1))))⟩:Edg)]) [0,1,2,3,517])))))
(.bk 0 b0 (W (t0.1+1),rawP L (rawP L t0.2.1),W (t0.2.2.1+(pickI [1,1,1,2,W ((lenT L (rawP L p))-1)] (rawV L (rawP L t0.2.1)))),t0.2.2.2) [0,1,2,3,4]))))))
(.pass (.join 1 (plaM_n1 L p t0) (λ(t1:Bool×Nat)=>I1 t0 t1) (λb1=>(.br 117 (decide (0<n)) (.callH [0] (oneM_h L t0.2.1 n) 149
(.bk 1 b1 (oneT L t0.2.1 n,rawP L t0.2.1) [0,2,3,4]))
(.bk 1 b1 (false,t0.2.1) [0,2,3,4]))) λ(t1:Bool×Nat) =>
(.br 4 t1.1 (.callH [0] (nxtM_h L t1.2 5) 20
(.br 68 ((Mod (rawV L t1.2) 5)==0) (.callH [0] (wldM_h L (rawP L t1.2)) 84
(.say (Rf (t0.2.2.2.map Edg.v)) (.cmdL (.frzE 3 (t0.2.2.2.map Edg.v) (pureBL_map (λ_=>rfl) t0.2.2.2)) (.retH ((⟨L,rawP L (rawP L t1.2)⟩:Tap),(⟨wldT L (rawP L t1.2),lenT L (rawP L p),t0.2.2.2⟩:Pln)) ⟨[(6,.k,.ref 1 0)],[.box (.agg [.sl 1 (L.map AV.int) false,.int (((rawP L (rawP L t1.2)):Nat):Int)]),.box (.agg [.int (wldT L (rawP L t1.2)),.int (lenT L (rawP L p)),.sl 2 (t0.2.2.2.map Edg.v) false])]⟩ [0,1]))))
(.br 100 ((Mod (rawV L t1.2) 5)==1) (.req 132 ([0,8,24,64,128]≠[]) λh5 =>
(.callH [0] (pckM_h L (rawP L t1.2) [0,8,24,64,128] h5) 132
(.say (Rf (t0.2.2.2.map Edg.v)) (.cmdL (.frzE 3 (t0.2.2.2.map Edg.v) (pureBL_map (λ_=>rfl) t0.2.2.2)) (.retH ((⟨L,rawP L (rawP L t1.2)⟩:Tap),(⟨Mod (rawV L p) 3,pickI [0,8,24,64,128] (rawV L (rawP L t1.2)),t0.2.2.2⟩:Pln)) ⟨[(6,.k,.ref 1 0)],[.box (.agg [.sl 1 (L.map AV.int) false,.int (((rawP L (rawP L t1.2)):Nat):Int)]),.box (.agg [.int (Mod (rawV L p) 3),.int (pickI [0,8,24,64,128] (rawV L (rawP L t1.2))),.sl 2 (t0.2.2.2.map Edg.v) false])]⟩ [0,1])))))
(.br 132 ((Mod (rawV L t1.2) 5)==2) (.req 196 ([0,1,99,100]≠[]) λh6 =>
(.callH [0] (pckM_h L (rawP L t1.2) [0,1,99,100] h6) 196
(.req 244 ([0,1,256,257]≠[]) λh7 =>
(.callH [0] (pckM_h L (rawP L (rawP L t1.2)) [0,1,256,257] h7) 244
(.say (λR=>Rf (α:=List AV) (t0.2.2.2.map Edg.v) (Rf (α:=List AV) [.agg [.int (pickI [0,1,99,100] (rawV L (rawP L t1.2))),.int (pickI [0,1,256,257] (rawV L (rawP L (rawP L t1.2))))]]
(ck (decide (t0.2.2.2.length+1≤1048576))
R))) (.app 292 Edg.v t0.2.2.2 [(⟨pickI [0,1,99,100] (rawV L (rawP L t1.2)),pickI [0,1,256,257] (rawV L (rawP L (rawP L t1.2)))⟩:Edg)]
(.say (Rf ((t0.2.2.2++[(⟨pickI [0,1,99,100] (rawV L (rawP L t1.2)),pickI [0,1,256,257] (rawV L (rawP L (rawP L t1.2)))⟩:Edg)]).map Edg.v)) (.cmdL (.frzE 292 ((t0.2.2.2++[(⟨pickI [0,1,99,100] (rawV L (rawP L t1.2)),pickI [0,1,256,257] (rawV L (rawP L (rawP L t1.2)))⟩:Edg)]).map Edg.v) (pureBL_map (λ_=>rfl) (t0.2.2.2++[(⟨pickI [0,1,99,100] (rawV L (rawP L t1.2)),pickI [0,1,256,257] (rawV L (rawP L (rawP L t1.2)))⟩:Edg)]))) (.retH ((⟨L,rawP L (rawP L (rawP L t1.2))⟩:Tap),(⟨Mod (rawV L p) 3,lenT L (rawP L p),t0.2.2.2++[(⟨pickI [0,1,99,100] (rawV L (rawP L t1.2)),pickI [0,1,256,257] (rawV L (rawP L (rawP L t1.2)))⟩:Edg)]⟩:Pln)) ⟨[(6,.k,.ref 1 0)],[.box (.agg [.sl 1 (L.map AV.int) false,.int (((rawP L (rawP L (rawP L t1.2))):Nat):Int)]),.box (.agg [.int (Mod (rawV L p) 3),.int (lenT L (rawP L p)),.sl 2 ((t0.2.2.2++[(⟨pickI [0,1,99,100] (rawV L (rawP L t1.2)),pickI [0,1,256,257] (rawV L (rawP L (rawP L t1.2)))⟩:Edg)]).map Edg.v) false])]⟩ [0,1])))))))))
(.br 164 ((Mod (rawV L t1.2) 5)==3) (.br 228 (decide (0<((t0.2.2.2.map Edg.v).length:Int))) (.callH [0] (wldM_h L (rawP L t1.2)) 276
(.say (ck (decide (0<((t0.2.2.2.map Edg.v).length:Int)))) (.st 324 Edg.v t0.2.2.2 (λy8=>(⟨y8.router,wldT L (rawP L t1.2)⟩:Edg)) (λR=>Rf (t0.2.2.2.map Edg.v) (ck (decide (0<t0.2.2.2.length))
(∀y8,t0.2.2.2[0]?=some y8→Rf (Edg.v (⟨y8.router,wldT L (rawP L t1.2)⟩:Edg))
((R y8))))) λy8 =>
(.say (Rf ((t0.2.2.2.set 0 (⟨y8.router,wldT L (rawP L t1.2)⟩:Edg)).map Edg.v)) (.cmdL (.frzE 3 ((t0.2.2.2.set 0 (⟨y8.router,wldT L (rawP L t1.2)⟩:Edg)).map Edg.v) (pureBL_map (λ_=>rfl) (t0.2.2.2.set 0 (⟨y8.router,wldT L (rawP L t1.2)⟩:Edg)))) (.retH ((⟨L,rawP L (rawP L t1.2)⟩:Tap),(⟨Mod (rawV L p) 3,lenT L (rawP L p),t0.2.2.2.set 0 (⟨y8.router,wldT L (rawP L t1.2)⟩:Edg)⟩:Pln)) ⟨[(6,.k,.ref 1 0)],[.box (.agg [.sl 1 (L.map AV.int) false,.int (((rawP L (rawP L t1.2)):Nat):Int)]),.box (.agg [.int (Mod (rawV L p) 3),.int (lenT L (rawP L p)),.sl 2 ((t0.2.2.2.set 0 (⟨y8.router,wldT L (rawP L t1.2)⟩:Edg)).map Edg.v) false])]⟩ [0,1]))))))
(.say (Rf (t0.2.2.2.map Edg.v)) (.cmdL (.frzE 3 (t0.2.2.2.map Edg.v) (pureBL_map (λ_=>rfl) t0.2.2.2)) (.retH ((⟨L,rawP L t1.2⟩:Tap),(⟨Mod (rawV L p) 3,lenT L (rawP L p),t0.2.2.2⟩:Pln)) ⟨[(6,.k,.ref 1 0)],[.box (.agg [.sl 1 (L.map AV.int) false,.int (((rawP L t1.2):Nat):Int)]),.box (.agg [.int (Mod (rawV L p) 3),.int (lenT L (rawP L p)),.sl 2 (t0.2.2.2.map Edg.v) false])]⟩ [0,1]))))
(.say (λR=>Rf (α:=List AV) (t0.2.2.2.map Edg.v) (Rf (α:=List AV) [.agg [.int 50,.int (W (t0.2.2.1+1))]]
(ck (decide (t0.2.2.2.length+1≤1048576))
R))) (.app 260 Edg.v t0.2.2.2 [(⟨50,W (t0.2.2.1+1)⟩:Edg)]
(.say (Rf ((t0.2.2.2++[(⟨50,W (t0.2.2.1+1)⟩:Edg)]).map Edg.v)) (.cmdL (.frzE 260 ((t0.2.2.2++[(⟨50,W (t0.2.2.1+1)⟩:Edg)]).map Edg.v) (pureBL_map (λ_=>rfl) (t0.2.2.2++[(⟨50,W (t0.2.2.1+1)⟩:Edg)]))) (.retH ((⟨L,rawP L t1.2⟩:Tap),(⟨Mod (rawV L p) 3,lenT L (rawP L p),t0.2.2.2++[(⟨50,W (t0.2.2.1+1)⟩:Edg)]⟩:Pln)) ⟨[(6,.k,.ref 1 0)],[.box (.agg [.sl 1 (L.map AV.int) false,.int (((rawP L t1.2):Nat):Int)]),.box (.agg [.int (Mod (rawV L p) 3),.int (lenT L (rawP L p)),.sl 2 ((t0.2.2.2++[(⟨50,W (t0.2.2.1+1)⟩:Edg)]).map Edg.v) false])]⟩ [0,1]))))))))))
(.say (Rf (t0.2.2.2.map Edg.v)) (.cmdL (.frzE 3 (t0.2.2.2.map Edg.v) (pureBL_map (λ_=>rfl) t0.2.2.2)) (.retH ((⟨L,t1.2⟩:Tap),(⟨Mod (rawV L p) 3,lenT L (rawP L p),t0.2.2.2⟩:Pln)) ⟨[(6,.k,.ref 1 0)],[.box (.agg [.sl 1 (L.map AV.int) false,.int ((t1.2:Nat):Int)]),.box (.agg [.int (Mod (rawV L p) 3),.int (lenT L (rawP L p)),.sl 2 (t0.2.2.2.map Edg.v) false])]⟩ [0,1])))))))))))))
def plaM_vc(L:(List Int))(p:Nat)(g:Tpl)(n:Int)(I0:(Int×Nat×Int×(List Edg))→Prop)(m0:(Int×Nat×Int×(List Edg))→Nat)(I1:Int×Nat×Int×(List Edg)→(Bool×Nat)→Prop)(r0:Tap×Pln):Prop:=(plaM_x L p g n I0 m0 I1).vc plaM_e plaM_b r0
theorem plaM_p(L:List Int)(p:Nat)(g:Tpl)(n:Int)(h:g.rs.length≤100)(ok:plaM_a L p g n):∃I0 m0 I1,plaM_vc L p g n I0 m0 I1 ((⟨L,(plaM L p g n).2⟩:Tap),(plaM L p g n).1):=by
 refine⟨λs=>∃j:Nat,s.1=j∧j≤(ordT L g.rs.length (rawP L (rawP L p))).1.length∧s.2.2.2.length≤j∧plaL L (W (lenT L (rawP L p)-1)) g.rs ((ordT L g.rs.length (rawP L (rawP L p))).1.drop j) s.2.2.1 s.2.2.2 s.2.1=plaR L p g,
  λs=>(ordT L g.rs.length (rawP L (rawP L p))).1.length-s.1.toNat,λs b=>b=(decide (0<n∧oneT L s.2.1 n=true),if 0<n then rawP L s.2.1 else s.2.1),?_⟩
 dsimp only[plaM_vc,plaM_x,plaM_s,plaM_v0,Ax.vp,Ax.vc];simp only[vcU,rfU,List.length_map]
 obtain⟨f1,f2⟩:=ordT_facts (L:=L) (n:=(g.rs.length:Int)) (p:=rawP L (rawP L p)) (by omega)
 have f3:(ordT L (g.rs.length:Int) (rawP L (rawP L p))).1.length=g.rs.length:=by
  unfold ordT
  rw[ordL_len];simp
 refine⟨by omega,⟨0,rfl,Nat.zero_le _,by simp,rfl⟩,?_⟩
 unfold plaM
 generalize plaR L p g=R
 generalize (ordT L (g.rs.length:Int) (rawP L (rawP L p))).1=o at f1 f2 f3 ⊢
 rintro⟨i,q,id,es⟩ ⟨j,hi,hj,hle,hr⟩
 simp only at hi hle hr ⊢
 subst hi
 refine⟨λc=>?_,λc=>?_⟩
 ·have hx:=List.getElem?_eq_getElem (show j<o.length by omega)
  have hd:o.drop j=o[j]'(by omega)::o.drop (j+1):=List.drop_eq_getElem_cons (by omega)
  have hm:=f2 (o[j]'(by omega)) (List.getElem_mem _)
  generalize o[j]'(by omega)=x at hx hd hm
  rw[hd,plaL]at hr
  rw[W_succ (n:=o.length) (by omega) (by omega)]
  refine⟨λe=>?_,λe=>⟨by simp,λe2=>?_,λe2=>?_⟩⟩
  ·rw[if_pos (eq_of_beq e)]at hr
   exact⟨⟨j+1,rfl,by omega,by omega,hr⟩,by omega⟩
  ·rw[if_neg (by simpa using e),if_pos e2]at hr
   refine⟨by omega,c,λx3 h3=>?_⟩
   rw[Int.toNat_natCast,hx]at h3;cases h3
   refine⟨hm.1,hm.2,λr h4=>?_⟩
   rw[h4]at hr
   exact⟨by omega,⟨j+1,rfl,by omega,by simp;omega,hr⟩,by omega⟩
  ·rw[if_neg (by simpa using e),if_neg e2]at hr
   exact⟨⟨j+1,rfl,by omega,by omega,hr⟩,by omega⟩
 ·have e1:o.drop j=[]:=List.drop_eq_nil_of_le (by omega)
  rw[e1,plaL]at hr
  rw[←hr]
  have hle2:es.length≤1000:=by omega
  refine⟨⟨λc2=>?_,λc2=>?_⟩,?_⟩
  ·rw[if_pos c2]
   refine Prod.ext ?_ rfl
   rw[Bool.eq_iff_iff];simp[c2]
  ·rw[if_neg c2]
   refine Prod.ext ?_ rfl
   rw[Bool.eq_iff_iff];simp[c2]
  rintro _ rfl
  simp only
  refine⟨λe=>?_,λe=>by rw[if_neg (of_decide_eq_false e)]⟩
  have e:=of_decide_eq_true e
  rw[if_pos e,if_pos e.1]
  generalize rawP L q=q1
  unfold plaS
  simp only
  refine⟨λs0=>by rw[if_pos (eq_of_beq s0)],λs0=>?_⟩
  rw[if_neg (by simpa using s0)]
  refine⟨λs1=>by rw[if_pos (eq_of_beq s1)];exact⟨by simp,rfl⟩,λs1=>?_⟩
  rw[if_neg (by simpa using s1)]
  refine⟨λs2=>by rw[if_pos (eq_of_beq s2)];exact⟨by simp,by simp,by omega,rfl⟩,λs2=>?_⟩
  rw[if_neg (by simpa using s2)]
  refine⟨λs3=>?_,λs3=>?_⟩
  ·rw[if_pos (eq_of_beq s3)]
   refine⟨λh=>⟨h,by omega,λy hy=>by rw[hy]⟩,λh=>by rw[List.getElem?_eq_none (by omega)]⟩
  ·rw[if_neg (by simpa using s3)]
   exact⟨by omega,rfl⟩
def plaM_h(L:(List Int))(p:Nat)(g:Tpl)(n:Int)(h:g.rs.length≤100):HC Tryz.prog:=⟨32,[.k,(.a [(.s 2),(.s 5)]),.k],[.ref 0 0,.agg [.sl 2 (g.rs.map Rtr.v) false,.sl 5 (g.ls.map Lnk.v) false],.int n],[.box (.agg [.sl 1 (L.map AV.int) false,.int ((p:Nat):Int)])],plaM_e ((⟨L,(plaM L p g n).2⟩:Tap),(plaM L p g n).1),plaM_b ((⟨L,(plaM L p g n).2⟩:Tap),(plaM L p g n).1),HSpec.of_okh λok ok2=>have ok:plaM_a L p g n:=⟨ok,ok2 _ (by simp)⟩;(plaM_p L p g n h ok).elim λI0 h=>h.elim λm0 h=>h.elim λI1 h=>mxH_of (sh:=(.a [.k,.k,(.s 2)])) (enc:=plaM_e) (hB:=plaM_b) (a:=(plaM_x L p g n I0 m0 I1).an) h (by kernel_rfl),fnB_ok (by kernel_rfl),HcOk.of (by simp[hcB,belBL,AV.belB,allB,okBk,okBkO,plaM_e,plaM_b,pureBL_map (v:=AV.int) (λ_=>rfl),pureBL_map (v:=Lnk.v) (λ_=>rfl),pureBL_map (v:=Rtr.v) (λ_=>rfl)])⟩
def ring20:Tpl:=⟨[⟨1,true⟩,⟨2,true⟩,⟨3,true⟩,⟨4,true⟩],[⟨1,2,1,1,0⟩,⟨1,4,1,1,0⟩,⟨2,3,1,1,0⟩,⟨3,4,1,1,0⟩]⟩
def ring20_a:Prop:=okL []
def ring20_e(r:Tpl):AV:=Tpl.v r
def ring20_x:Ax Tryz.prog noS (Tpl):=
 (.ret ((⟨[(⟨1,true⟩:Rtr),(⟨2,true⟩:Rtr),(⟨3,true⟩:Rtr),(⟨4,true⟩:Rtr)],[(⟨1,2,1,1,0⟩:Lnk),(⟨1,4,1,1,0⟩:Lnk),(⟨2,3,1,1,0⟩:Lnk),(⟨3,4,1,1,0⟩:Lnk)]⟩:Tpl)))
def ring20_vc(r0:Tpl):Prop:=(ring20_x).vp ring20_e r0
theorem ring20_p(ok:ring20_a):ring20_vc ring20:=by
 dsimp only[ring20_vc,ring20_x,noS,Ax.vp,Ax.vc];simp only[vcU,rfU,List.length_map]
 rfl
def ring20_c:PC Tryz.prog:=⟨48,[],[],ring20_e ring20,PSpec.of_ok λok=>mxP_of (sh:=(.a [(.s 2),(.s 5)])) (enc:=ring20_e) (a:=(ring20_x).an) (ring20_p ok) (by kernel_rfl) (AV.pureB_ok rfl),fnB_ok (by kernel_rfl)⟩
def awk20_a:Prop:=okL []
def awk20_e(r:Bool):AV:=.bool r
def awk20_x:Ax Tryz.prog noS (Bool):=
 (.callP (ring20_c )
(.callP (dtoP_c ring20 (⟨0,8,[(⟨2,1⟩:Edg),(⟨3,2⟩:Edg)]⟩:Pln) 1 2 1)
(.callP (ring20_c )
(.callP (dtoP_c ring20 (⟨0,8,[(⟨2,1⟩:Edg),(⟨3,2⟩:Edg)]⟩:Pln) 1 2 2)
(.br 400 ((dtoT ring20 (⟨0,8,[(⟨2,1⟩:Edg),(⟨3,2⟩:Edg)]⟩:Pln) 1 2 1).2) (.br 448 ((dtoT ring20 (⟨0,8,[(⟨2,1⟩:Edg),(⟨3,2⟩:Edg)]⟩:Pln) 1 2 2).2) (.callP (intE_c ((dtoT ring20 (⟨0,8,[(⟨2,1⟩:Edg),(⟨3,2⟩:Edg)]⟩:Pln) 1 2 1).1) [4,3,2])
(.br 528 (decide (((dtoT ring20 (⟨0,8,[(⟨2,1⟩:Edg),(⟨3,2⟩:Edg)]⟩:Pln) 1 2 1).1)=[4,3,2])) (.callP (intE_c ((dtoT ring20 (⟨0,8,[(⟨2,1⟩:Edg),(⟨3,2⟩:Edg)]⟩:Pln) 1 2 2).1) [4])
(.ret (decide (((dtoT ring20 (⟨0,8,[(⟨2,1⟩:Edg),(⟨3,2⟩:Edg)]⟩:Pln) 1 2 2).1)=[4]))))
(.ret (false))))
(.ret (false)))
(.ret (false)))))))
def awk20_vc(r0:Bool):Prop:=(awk20_x).vp awk20_e r0
theorem awk20_p(ok:awk20_a):awk20_vc true:=by
 dsimp only[awk20_vc,awk20_x,noS,Ax.vp,Ax.vc];simp only[vcU,rfU,List.length_map]
 have h1:dtoT ring20 ⟨0,8,[⟨2,1⟩,⟨3,2⟩]⟩ 1 2 1=([4,3,2],true):=by kernel_rfl
 have h2:dtoT ring20 ⟨0,8,[⟨2,1⟩,⟨3,2⟩]⟩ 1 2 2=([4],true):=by kernel_rfl
 rw[h1,h2]
 simp
def awk20_c:PC Tryz.prog:=⟨15,[],[],awk20_e true,PSpec.of_ok λok=>mxP_of (sh:=.k) (enc:=awk20_e) (a:=(awk20_x).an) (awk20_p ok) (by kernel_rfl) (AV.pureB_ok rfl),fnB_ok (by kernel_rfl)⟩
theorem dts_len(t:Tpl)(p:Pln)(r n:Int):(dtsT t p r n).1.length≤24:=by
 unfold dtsT
 split
 ·simp
 ·rename_i c
  have hp:plnOkB p=true:=by
   cases q:plnOkB p
   ·exact absurd (.inr q) c
   ·rfl
  unfold plnOkB at hp
  rw[Bool.and_eq_true,decide_eq_true_iff]at hp
  have hpl:=hp.1.2.2
  split
  ·simp
  ·split
   ·simp
   ·have:∀l:List Edg,(l.flatMap (dts1 t p r n)).length≤l.length:=λl=>by
     induction l with
     | nil=>simp
     | cons e l ih =>
      have:(dts1 t p r n e).length≤1:=by unfold dts1;split<;>simp
      rw[List.flatMap_cons,List.length_append,List.length_cons];omega
    exact Nat.le_trans (this _) hpl
def cpbT(t:Tpl)(r:Int):Bool:=(chk5 t==0) && (match t.rs.find? (isR r)with
 | some x=>x.cap
 | none=>false)
def cpbR_a(t:Tpl)(r:Int):Prop:=okL [.agg [.sl 2 (t.rs.map Rtr.v) false,.sl 5 (t.ls.map Lnk.v) false],.int r]
def cpbR_n0(t:Tpl)(r:Int)(t0:Int):NF:=⟨[(1,.k,.int r),(2,.k,.ref 0 0),(5,.k,.int t0)],[.box (.agg [.sl 2 (t.rs.map Rtr.v) false,.sl 5 (t.ls.map Lnk.v) false])]⟩
@[reducible] def cpbR_s:Nat→Type
 | 0=>Int
 | _=>Unit
def cpbR_e(r:Bool):AV:=.bool r
def cpbR_x(t:Tpl)(r:Int)(I0:Int→Prop)(m0:Int→Nat):Ax Tryz.prog cpbR_s (Bool):=
 (.callP (chk5_c t)
(.br 80 ((chk5 t) != 0) (.ret (false))
(.loop 0 (cpbR_n0 t r) I0 m0 ((0):Int) [0] λ(t0:Int) b0 =>
(.br 81 (decide (t0<((t.rs.map Rtr.v).length:Int))) (.el 129 Rtr.v t.rs (λR=>Rf (t.rs.map Rtr.v) (ck (decide (0≤t0)) (ck (decide (t0<(t.rs.length:Int)))
(∀x1,t.rs[t0.toNat]?=some x1 →
(R x1))))) λx1 =>
(.br 209 (x1.id==r) (.el 257 Rtr.v t.rs (λR=>Rf (t.rs.map Rtr.v) (ck (decide (0≤t0)) (ck (decide (t0<(t.rs.length:Int)))
(∀x2,t.rs[t0.toNat]?=some x2 →
(R x2))))) λx2 =>
(.ret (x2.cap)))
(.bk 0 b0 ((W (t0+1)):Int) [0])))
(.ret (false))))))
def cpbR_vc(t:Tpl)(r:Int)(I0:Int→Prop)(m0:Int→Nat)(r0:Bool):Prop:=(cpbR_x t r I0 m0).vp cpbR_e r0
theorem cpbR_p(t:Tpl)(r:Int)(ok:cpbR_a t r):∃I0 m0,cpbR_vc t r I0 m0 (cpbT t r):=by
 refine⟨λi=>ForI t.rs (λx=>isR r x=false) i,λi=>t.rs.length-i.toNat,?_⟩
 simp only[cpbR_a,okU,Blk.ok,plainV,List.length_map]at ok
 dsimp only[cpbR_vc,cpbR_x,cpbR_s,Ax.vp,Ax.vc];simp only[vcU,rfU,List.length_map]
 unfold cpbT
 by_cases hc:chk5 t=0
 case neg=>exact⟨λ_=>by rw[beq_eq_false_iff_ne.mpr hc];rfl,λh=>by simp[hc]at h⟩
 refine⟨λh=>by simp[hc]at h,λ_=>⟨ForI.zero,λi h=>⟨λc=>⟨h.idx,c,λx hx=>⟨λq=>⟨h.idx,c,λy hy=>?_⟩,λq=>h.step (by omega) hx q⟩⟩,λc=>?_⟩⟩⟩
 ·rw[hx]at hy;cases hy
  rw[fi_find h hx q,hc];simp
 ·rw[fi_none h c,hc];rfl
def cpbR_c(t:Tpl)(r:Int):PC Tryz.prog:=⟨111,[(.a [(.s 2),(.s 5)]),.k],[.agg [.sl 2 (t.rs.map Rtr.v) false,.sl 5 (t.ls.map Lnk.v) false],.int r],cpbR_e (cpbT t r),PSpec.of_ok λok=>(cpbR_p t r ok).elim λI0 h=>h.elim λm0 h=>mxP_of (sh:=.k) (enc:=cpbR_e) (a:=(cpbR_x t r I0 m0).an) h (by kernel_rfl) (AV.pureB_ok rfl),fnB_ok (by kernel_rfl)⟩
def posI(l:List Int)(n:Int):Nat:=l.findIdx λx=>!decide (x<n)
def insT(l:List Int)(n:Int):List Int:=if l[posI l n]?=some n then l else insAt l (posI l n) n
def insQ_a(l:(List Int))(n:Int):Prop:=okL [.sl 1 (l.map AV.int) false,.int n]
def insQ_n0(l:(List Int))(n:Int)(t0:Int):NF:=⟨[(0,.k,.sl 1 (l.map AV.int) false),(1,.k,.int n),(5,.k,.int t0)],[]⟩
def insQ_n1(l:(List Int))(n:Int)(t0:Int)(t1:Bool):NF:=⟨[(0,.k,.sl 1 (l.map AV.int) false),(1,.k,.int n),(5,.k,.int t0),(18,.k,.bool t1)],[]⟩
def insQ_n2(l:(List Int))(n:Int)(t0:Int)(t2:Bool):NF:=⟨[(0,.k,.sl 1 (l.map AV.int) false),(1,.k,.int n),(5,.k,.int t0),(32,.k,.bool t2)],[]⟩
@[reducible] def insQ_s:Nat→Type
 | 0=>Int
 | 1=>Bool
 | 2=>Bool
 | _=>Unit
def insQ_e(r:(List Int)):AV:=.sl 1 (r.map AV.int) false
def insQ_x(l:(List Int))(n:Int)(I0:Int→Prop)(m0:Int→Nat)(I1:Int→Bool→Prop)(I2:Int→Bool→Bool→Prop):Ax Tryz.prog insQ_s ((List Int)):=
 (.loop 0 (insQ_n0 l n) I0 m0 ((0):Int) [] λ(t0:Int) b0 =>
(.pass (.join 1 (insQ_n1 l n t0) (λ(t1:Bool)=>I1 t0 t1) (λb1=>(.br 80 (decide (t0<((l.map AV.int).length:Int))) (.el 112 AV.int l (λR=>Rf (l.map AV.int) (ck (decide (0≤t0)) (ck (decide (t0<(l.length:Int)))
(∀x1,l[t0.toNat]?=some x1 →
(R x1))))) λx1 =>
(.bk 1 b1 ((decide (x1<n)):Bool) []))
(.bk 1 b1 ((false):Bool) []))) λ(t1:Bool) =>
(.br 0 t1 (.bk 0 b0 ((W (t0+1)):Int) [])
(.pass (.join 2 (insQ_n2 l n t0) (λ(t2:Bool)=>I2 t0 t1 t2) (λb2=>(.br 80 (decide (t0<((l.map AV.int).length:Int))) (.el 112 AV.int l (λR=>Rf (l.map AV.int) (ck (decide (0≤t0)) (ck (decide (t0<(l.length:Int)))
(∀x2,l[t0.toNat]?=some x2 →
(R x2))))) λx2 =>
(.bk 2 b2 ((x2==n):Bool) []))
(.bk 2 b2 ((false):Bool) []))) λ(t2:Bool) =>
(.br 0 t2 (.ret (l))
(.say (λR=>Rf (α:=List AV) (l.map AV.int) (ck (bndB l.length 0 t0 (l.length:Int))
R)) (.sub 64 AV.int l false
(.say (λR=>Rf (α:=List AV) [] (Rf (α:=List AV) (((l.take t0.toNat).drop 0).map AV.int)
(ck (decide (0+((l.take t0.toNat).drop 0).length≤1048576))
R))) (.app 80 AV.int [] ((l.take t0.toNat).drop 0)
(.say (λR=>Rf (α:=List AV) (((l.take t0.toNat).drop 0).map AV.int) (Rf (α:=List AV) [.int n]
(ck (decide (((l.take t0.toNat).drop 0).length+1≤1048576))
R))) (.app 160 AV.int ((l.take t0.toNat).drop 0) [n]
(.say (λR=>Rf (α:=List AV) (l.map AV.int) (ck (bndB l.length t0 (l.length:Int) (l.length:Int))
R)) (.sub 240 AV.int l false
(.say (λR=>Rf (α:=List AV) ((((l.take t0.toNat).drop 0)++[n]).map AV.int) (Rf (α:=List AV) (((l.take ((l.length:Int).toNat)).drop t0.toNat).map AV.int)
(ck (decide ((((l.take t0.toNat).drop 0)++[n]).length+((l.take ((l.length:Int).toNat)).drop t0.toNat).length≤1048576))
R))) (.app 256 AV.int (((l.take t0.toNat).drop 0)++[n]) ((l.take ((l.length:Int).toNat)).drop t0.toNat)
(.say (Rf (((((l.take t0.toNat).drop 0)++[n])++((l.take ((l.length:Int).toNat)).drop t0.toNat)).map AV.int)) (.cmdL (.frzE 256 (((((l.take t0.toNat).drop 0)++[n])++((l.take ((l.length:Int).toNat)).drop t0.toNat)).map AV.int) (pureBL_map (λ_=>rfl) ((((l.take t0.toNat).drop 0)++[n])++((l.take ((l.length:Int).toNat)).drop t0.toNat)))) (.ret ((((l.take t0.toNat).drop 0)++[n])++((l.take ((l.length:Int).toNat)).drop t0.toNat))))))))))))))))))))))
def insQ_vc(l:(List Int))(n:Int)(I0:Int→Prop)(m0:Int→Nat)(I1:Int→Bool→Prop)(I2:Int→Bool→Bool→Prop)(r0:(List Int)):Prop:=(insQ_x l n I0 m0 I1 I2).vp insQ_e r0
theorem insQ_p(l:List Int)(n:Int)(h:l.length≤100000)(ok:insQ_a l n):∃I0 m0 I1 I2,insQ_vc l n I0 m0 I1 I2 (insT l n):=by
 refine⟨λi=>ForI l (λx=>x<n) i,λi=>l.length-i.toNat,λi b=>b=true↔∃x,l[i.toNat]?=some x∧x<n,λi _ b=>b=true↔l[i.toNat]?=some n,?_⟩
 dsimp only[insQ_vc,insQ_x,insQ_s,Ax.vp,Ax.vc];simp only[vcU,rfU,List.length_map]
 refine⟨ForI.zero,λt hI=>?_⟩
 obtain⟨j,rfl,hj,ha⟩:=hI
 have hI:ForI l (λx=>x<n) ((j:Nat):Int):=⟨j,rfl,hj,ha⟩
 simp only[Int.toNat_natCast]
 refine⟨⟨λc=>⟨by omega,c,λx hx=>⟨λq=>⟨x,hx,q⟩,λ⟨y,hy,q⟩=>by rw[hx]at hy;cases hy;exact q⟩⟩,λc=>⟨nofun,λ⟨y,hy,_⟩=>by have:=lt_of_get hy;omega⟩⟩,λb hb=>⟨λe=>?_,λe=>?_⟩⟩
 ·obtain⟨x,hx,q⟩:=hb.mp e
  exact hI.step (by omega) (by rw[Int.toNat_natCast];exact hx) q
 ·have hp:posI l n=j:=by
   unfold posI
   by_cases ee:j=l.length
   ·subst ee
    rw[List.take_length]at ha
    rw[List.findIdx_eq_length]
    intro y hy
    simp[ha y hy]
   ·rw[List.findIdx_eq (by omega)]
    refine⟨?_,λi hi=>?_⟩
    ·have:¬l[j]'(by omega)<n:=λq=>by
      have:=hb.mpr ⟨_,List.getElem?_eq_getElem (by omega),q⟩
      rw[e]at this;cases this
     simpa using this
    ·have:=ha (l[i]'(by omega)) (List.mem_take_iff_getElem.mpr ⟨i,by omega,rfl⟩)
     simp[this]
  refine⟨⟨λc=>⟨by omega,c,λx hx=>?_⟩,λc=>⟨nofun,λq=>by have:=lt_of_get q;omega⟩⟩,λb2 hb2=>⟨λe2=>?_,λe2=>?_⟩⟩
  ·rw[hx,beq_iff_eq];exact⟨λq=>by rw[q],λq=>Option.some.inj q⟩
  ·rw[insT,hp,if_pos (hb2.mp e2)]
  ·have h2:¬l[j]?=some n:=λq=>by rw[hb2.mpr q]at e2;cases e2
   have hi:(((l.take j).drop 0)++[n])++((l.take l.length).drop j)=insAt l j n:=by have:=insAt_eqH (l:=l) (k:=j) (x:=n);rwa [Int.toNat_natCast]at this
   rw[hi,insT,hp,if_neg h2]
   exact⟨by simp[bndB];omega,by simp;omega,by simp;omega,by simp[bndB];omega,by simp;omega,rfl⟩
def insQ_c(l:(List Int))(n:Int)(h:l.length≤100000):PC Tryz.prog:=⟨98,[(.s 1),.k],[.sl 1 (l.map AV.int) false,.int n],insQ_e (insT l n),PSpec.of_ok λok=>(insQ_p l n h ok).elim λI0 h=>h.elim λm0 h=>h.elim λI1 h=>h.elim λI2 h=>mxP_of (sh:=(.s 1)) (enc:=insQ_e) (a:=(insQ_x l n I0 m0 I1 I2).an) h (by kernel_rfl) (AV.pureB_ok rfl),fnB_ok (by kernel_rfl)⟩
theorem insT_len(l:List Int)(n:Int):(insT l n).length≤l.length+1:=by
 unfold insT
 split
 ·omega
 ·rw[insAt_len _ _ _ (show posI l n≤l.length from List.findIdx_le_length)];exact Nat.le_refl _
def hop1(t:Tpl)(s:List Int×List Int)(q:Int):List Int×List Int:=if cpbT t q=true then(s.1,insT s.2 q)else if q∈s.1 then s else(s.1++[q],s.2)
def hopO(t:Tpl)(d:List Int):Nat→Nat→List Int→List Int→List Int
 | 0,_,_,out=>out
 | f+1,i,seen,out=>match seen[i]? with
  | some x=>hopO t d f (i+1) ((stp6 t d x).foldl (hop1 t) (seen,out)).1 ((stp6 t d x).foldl (hop1 t) (seen,out)).2
  | none=>out
def hopsT(t:Tpl)(f g:Int):List Int:=if hs5 t f=false∨hs5 t g=false∨f=g then []else hopO t (to6 t g) 25 0 [f] []
def hopR_a(t:Tpl)(from_:Int)(to_:Int):Prop:=okL [.agg [.sl 2 (t.rs.map Rtr.v) false,.sl 5 (t.ls.map Lnk.v) false],.int from_,.int to_]
def hopR_n0(t:Tpl)(from_:Int)(to_:Int)(t0:Bool):NF:=⟨[(1,.k,.int from_),(2,.k,.int to_),(3,.k,.ref 0 0),(27,.k,.bool t0)],[.box (.agg [.sl 2 (t.rs.map Rtr.v) false,.sl 5 (t.ls.map Lnk.v) false])]⟩
def hopR_n1(t:Tpl)(to_:Int)(t1:(List Int)×Int×(List Int)):NF:=⟨[(3,.k,.ref 0 0),(7,.k,.sl 1 ((to6 t to_).map AV.int) false),(8,.k,.vec 1),(9,(.s 1),.sl 1 (t1.1.map AV.int) false),(10,.k,.int t1.2.1)],[.box (.agg [.sl 2 (t.rs.map Rtr.v) false,.sl 5 (t.ls.map Lnk.v) false]),.vec 1 (t1.2.2.map AV.int) (pureBL_map (λ_=>rfl) t1.2.2)]⟩
def hopR_n2(t:Tpl)(to_:Int)(t1:(List Int)×Int×(List Int))(x2:Int)(t2:(List Int)×Int×(List Int)):NF:=⟨[(3,.k,.ref 0 0),(7,.k,.sl 1 ((to6 t to_).map AV.int) false),(8,.k,.vec 1),(9,(.s 1),.sl 1 (t2.1.map AV.int) false),(10,.k,.int t1.2.1),(11,.k,.sl 1 ((stp6 t (to6 t to_) x2).map AV.int) false),(12,.k,.int t2.2.1)],[.box (.agg [.sl 2 (t.rs.map Rtr.v) false,.sl 5 (t.ls.map Lnk.v) false]),.vec 1 (t2.2.2.map AV.int) (pureBL_map (λ_=>rfl) t2.2.2)]⟩
@[reducible] def hopR_s:Nat→Type
 | 0=>Bool
 | 1=>(List Int)×Int×(List Int)
 | 2=>(List Int)×Int×(List Int)
 | _=>Unit
def hopR_e(r:(List Int)):AV:=.sl 1 (r.map AV.int) false
def hopR_x(t:Tpl)(from_:Int)(to_:Int)(I0:Bool→Prop)(I1:Bool→((List Int)×Int×(List Int))→Prop)(m1:Bool→((List Int)×Int×(List Int))→Nat)(I2:Bool→(List Int)×Int×(List Int)→Int→((List Int)×Int×(List Int))→Prop)(m2:Bool→(List Int)×Int×(List Int)→Int→((List Int)×Int×(List Int))→Nat):Ax Tryz.prog hopR_s ((List Int)):=
 (.pass (.pass (.join 0 (hopR_n0 t from_ to_) (λ(t0:Bool)=>I0 t0) (λb0=>(.callP (hs5_c t from_)
(.br 112 (!(hs5 t from_)) (.bk 0 b0 ((true):Bool) [0])
(.callP (hs5_c t to_)
(.br 208 (!(hs5 t to_)) (.bk 0 b0 ((true):Bool) [0])
(.bk 0 b0 ((from_==to_):Bool) [0])))))) λ(t0:Bool) =>
(.br 1 t0 (.ret ([]))
(.req 33 (chk5 t=0) λh1 =>
(.callP (to6_c t to_ h1)
(.own 81 (.loop 1 (hopR_n1 t to_) (I1 t0) (m1 t0) ([],0,[from_]) [0,81] λ(t1:(List Int)×Int×(List Int)) b1 =>
(.br 66 (decide (t1.2.1<((t1.2.2.map AV.int).length:Int))) (.say (ck (cond (decide (0≤t1.2.1)) (decide (t1.2.1<((t1.2.2.map AV.int).length:Int))) false)) (.el 146 AV.int t1.2.2 (λR=>Rf (t1.2.2.map AV.int) (ck (decide (t1.2.1.toNat<t1.2.2.length))
(∀x2,t1.2.2[t1.2.1.toNat]?=some x2 →
(R x2)))) λx2 =>
(.req 162 (okD t (to6 t to_)) λh3 =>
(.callP (stp6_c t (to6 t to_) x2 h3)
(.loop 2 (hopR_n2 t to_ t1 x2) (I2 t0 t1 x2) (m2 t0 t1 x2) (t1.1,0,t1.2.2) [0,1] λ(t2:(List Int)×Int×(List Int)) b2 =>
(.br 66 (decide (t2.2.1<(((stp6 t (to6 t to_) x2).map AV.int).length:Int))) (.el 114 AV.int (stp6 t (to6 t to_) x2) (λR=>Rf ((stp6 t (to6 t to_) x2).map AV.int) (ck (decide (0≤t2.2.1)) (ck (decide (t2.2.1<((stp6 t (to6 t to_) x2).length:Int)))
(∀x4,(stp6 t (to6 t to_) x2)[t2.2.1.toNat]?=some x4 →
(R x4))))) λx4 =>
(.callP (cpbR_c t x4)
(.br 162 (cpbT t x4) (.el 210 AV.int (stp6 t (to6 t to_) x2) (λR=>Rf ((stp6 t (to6 t to_) x2).map AV.int) (ck (decide (0≤t2.2.1)) (ck (decide (t2.2.1<((stp6 t (to6 t to_) x2).length:Int)))
(∀x5,(stp6 t (to6 t to_) x2)[t2.2.1.toNat]?=some x5 →
(R x5))))) λx5 =>
(.req 242 (t2.1.length≤100000) λh6 =>
(.callP (insQ_c t2.1 x5 h6)
(.bk 2 b2 (insT t2.1 x5,W (t2.2.1+1),t2.2.2) [0,1]))))
(.el 210 AV.int (stp6 t (to6 t to_) x2) (λR=>Rf ((stp6 t (to6 t to_) x2).map AV.int) (ck (decide (0≤t2.2.1)) (ck (decide (t2.2.1<((stp6 t (to6 t to_) x2).length:Int)))
(∀x7,(stp6 t (to6 t to_) x2)[t2.2.1.toNat]?=some x7 →
(R x7))))) λx7 =>
(.callP (hasI_c t2.2.2 x7)
(.say (ck (pureBLs [(t2.2.2.map AV.int)])) (.br 274 (!(decide (x7∈t2.2.2))) (.el 322 AV.int (stp6 t (to6 t to_) x2) (λR=>Rf ((stp6 t (to6 t to_) x2).map AV.int) (ck (decide (0≤t2.2.1)) (ck (decide (t2.2.1<((stp6 t (to6 t to_) x2).length:Int)))
(∀x8,(stp6 t (to6 t to_) x2)[t2.2.1.toNat]?=some x8 →
(R x8))))) λx8 =>
(.own 354 (.say (λR=>Rf (α:=List AV) (t2.2.2.map AV.int) (Rf (α:=List AV) [.int x8]
(ck (decide (t2.2.2.length+1≤1048576))
R))) (.app 370 AV.int t2.2.2 [x8]
(.bk 2 b2 (t2.1,W (t2.2.1+1),t2.2.2++[x8]) [0,370])))))
(.bk 2 b2 (t2.1,W (t2.2.1+1),t2.2.2) [0,1]))))))))
(.bk 1 b1 (t2.1,W (t1.2.1+1),t2.2.2) [0,1])))))))
(.ret (t1.1)))))))))))
def hopR_vc(t:Tpl)(from_:Int)(to_:Int)(I0:Bool→Prop)(I1:Bool→((List Int)×Int×(List Int))→Prop)(m1:Bool→((List Int)×Int×(List Int))→Nat)(I2:Bool→(List Int)×Int×(List Int)→Int→((List Int)×Int×(List Int))→Prop)(m2:Bool→(List Int)×Int×(List Int)→Int→((List Int)×Int×(List Int))→Nat)(r0:(List Int)):Prop:=(hopR_x t from_ to_ I0 I1 m1 I2 m2).vp hopR_e r0
structure HopI (t:Tpl) (b:Nat) (s:List Int×List Int):Prop where
  nd:s.1.Nodup
  ha:∀x∈s.1,has5 t x=true
  le:s.2.length≤b
theorem HopI.len{t:Tpl}{b:Nat}{s:List Int×List Int}(h:HopI t b s):s.1.length≤t.rs.length:=by
 have:=List.Nodup.length_le_of_subset h.nd (l₂:=t.rs.map (·.id)) λx hx=>keys_has.mpr (h.ha x hx)
 rwa [List.length_map]at this
theorem HopI.one{t:Tpl}{b:Nat}{s:List Int×List Int}(h:HopI t b s){q:Int}(hq:has5 t q=true):HopI t (b+1) (hop1 t s q):=by
 unfold hop1
 split
 ·exact⟨h.nd,h.ha,Nat.le_trans (insT_len _ _) (by have:=h.le;omega)⟩
 ·split
  ·exact⟨h.nd,h.ha,by have:=h.le;omega⟩
  ·rename_i hn
   refine⟨List.nodup_append.mpr ⟨h.nd,by simp,λa ha b hb=>by rw[List.mem_singleton.mp hb];rintro rfl;exact hn ha⟩,λx hx=>?_,by have:=h.le;simp only;omega⟩
   rcases List.mem_append.mp hx with hx|hx
   ·exact h.ha x hx
   ·rw[List.mem_singleton.mp hx];exact hq
theorem HopI.fold{t:Tpl}:∀{l:List Int} {b:Nat} {s:List Int×List Int},HopI t b s→(∀q∈l,has5 t q=true)→HopI t (b+l.length) (l.foldl (hop1 t) s)
 | [],b,s,h,_=>h
 | q::l,b,s,h,hs=>by
  have:=HopI.fold (l:=l) (h.one (hs q (by simp))) λx hx=>hs x (by simp[hx])
  rw[List.foldl_cons,List.length_cons,show b+(l.length+1)=b+1+l.length by omega]
  exact this
theorem stp6_has{t:Tpl}(hc:chk5 t=0){g f q:Int}(h:q∈stp6 t (to6 t g) f):has5 t q=true:=by
 obtain⟨_,x,hx,e⟩:=stp6_lt hc (to6_nn hc) h
 exact has5_iff.mpr ⟨x,hx,e⟩
theorem stp6_len(t:Tpl)(d:List Int)(f:Int):(stp6 t d f).length≤t.rs.length:=by
 unfold stp6;split
 ·simp
 ·exact Nat.le_trans (List.length_filter_le _ _) nea5_len
theorem hopR_p(t:Tpl)(f g:Int)(ok:hopR_a t f g):∃I0 I1 m1 I2 m2,hopR_vc t f g I0 I1 m1 I2 m2 (hopsT t f g):=by
  refine⟨λb=>b=decide (hs5 t f=false∨hs5 t g=false∨f=g),λ_ s=>∃k:Nat,s.2.1=k∧k≤s.2.2.length∧HopI t (30 * k) (s.2.2,s.1)∧hopO t (to6 t g) (25-k) k s.2.2 s.1=hopsT t f g,λ_ s=>25-s.2.1.toNat,
    λ_ s0 x s=>∃j:Nat,s.2.1=j∧j≤(stp6 t (to6 t g) x).length∧(s.2.2,s.1)=((stp6 t (to6 t g) x).take j).foldl (hop1 t) (s0.2.2,s0.1),λ_ _ x s=>(stp6 t (to6 t g) x).length-s.2.1.toNat,?_⟩
  dsimp only[hopR_vc,hopR_x,hopR_s,Ax.vp,Ax.vc];simp only[vcU,rfU,List.length_map]
  refine ⟨⟨fun c => by have c : hs5 t f = false := by simpa using c
                       simp [c], fun c => ⟨fun d => by have d : hs5 t g = false := by simpa using d
                                                       simp[d],λd=>?_⟩⟩,?_⟩
  · have c:hs5 t f=true:=by simpa using c
    have d:hs5 t g=true:=by simpa using d
    rw[Bool.eq_iff_iff];simp[c,d]
  rintro _ rfl
  refine⟨λc=>by rw[hopsT,if_pos (of_decide_eq_true c)],λc=>?_⟩
  have c:=of_decide_eq_false c
  have hf:hs5 t f=true:=by
    cases q:hs5 t f
    · exact absurd (.inl q) c
    · rfl
  have hc:=(hs5_iff.mp hf).1
  have hR:=(chk5_ok hc).nr
  have hD:okD t (to6 t g):=⟨to6_len,by omega⟩
  refine⟨hc,⟨0,rfl,by simp,⟨by simp,by simp;exact(hs5_iff.mp hf).2,by simp⟩,by rw[hopsT,if_neg c]⟩,?_⟩
  rintro⟨out,i,seen⟩ ⟨k,hi,hk,hI,hO⟩
  simp only at hi hk hO ⊢
  subst hi
  have hsl:=hI.len
  simp only at hsl
  refine⟨λd=>?_,λd=>?_⟩
  · rw[Int.toNat_natCast]
    refine⟨range2 (by omega) d,by omega,λx hx=>⟨hD,⟨0,rfl,by omega,rfl⟩,?_⟩⟩
    have hnl:=stp6_len t (to6 t g) x
    have hnh:=λq (h:q∈stp6 t (to6 t g) x)=>stp6_has hc h
    have e:25-k=(25-(k+1))+1:=by omega
    rw[e,hopO,hx]at hO
    simp only at hO
    generalize stp6 t (to6 t g) x=n at hnl hnh hO ⊢
    rintro⟨o2,j0,s2⟩ ⟨j,hj0,hj,hs⟩
    simp only at hj0 hs ⊢
    subst hj0
    have hI2:HopI t (30 * k+j) (s2,o2):=by
      have:=hI.fold (l:=n.take j) λq hq=>hnh q (List.mem_of_mem_take hq)
      rw[←hs,List.length_take,Nat.min_eq_left hj]at this
      exact this
    have hle:=hI2.le
    have hsl2:=hI2.len
    simp only at hle hsl2
    refine⟨λd2=>⟨by omega,d2,λy hy=>?_⟩,λd2=>?_⟩
    · have hw:W ((j:Int)+1)=((j+1:Nat):Int):=W_succ (n:=n.length) (by omega) (by omega)
      rw[hw]
      rw[Int.toNat_natCast]at hy
      have hst:(n.take (j+1)).foldl (hop1 t) (seen,out)=hop1 t (s2,o2) y:=by rw[take_succ hy,List.foldl_append,←hs];rfl
      refine⟨λe1=>⟨by omega,d2,λz hz=>?_⟩,λe1=>⟨by omega,d2,λz hz=>⟨pureBLs_one (pureBL_map (λ_=>rfl) _),λe2=>⟨by omega,d2,λu hu=>?_⟩,λe2=>?_⟩⟩⟩
      · rw[Int.toNat_natCast,hy]at hz;cases hz
        refine⟨by omega,⟨j+1,rfl,by omega,?_⟩,by omega⟩
        rw[hst,hop1,if_pos e1]
      · rw[Int.toNat_natCast,hy]at hz hu;cases hz;cases hu
        refine⟨by omega,⟨j+1,rfl,by omega,?_⟩,by omega⟩
        have e2:¬y∈s2:=by simpa using e2
        rw[hst,hop1,if_neg (by rw[e1];simp),if_neg e2]
      · rw[Int.toNat_natCast,hy]at hz;cases hz
        refine⟨⟨j+1,rfl,by omega,?_⟩,by omega⟩
        have e2:y∈s2:=by simpa using e2
        rw[hst,hop1,if_neg (by rw[e1];simp),if_pos e2]
    · have hjn:j=n.length:=by omega
      rw[hjn,List.take_length]at hs
      rw[←hs]at hO
      have hw:W ((k:Int)+1)=((k+1:Nat):Int):=W_succ (n:=25) (by omega) (by omega)
      rw[hw]
      have hpre:seen.length≤s2.length:=by
        have key:∀(l:List Int) (s:List Int×List Int),s.1.length≤(l.foldl (hop1 t) s).1.length:=λl=>by
          induction l with
          | nil=>intro s;exact Nat.le_refl _
          | cons q l ih =>
            intro s
            refine Nat.le_trans ?_ (ih (hop1 t s q))
            unfold hop1
            split
            · exact Nat.le_refl _
            · split
              · exact Nat.le_refl _
              · simp
        have:=key n (seen,out)
        rw[←hs]at this;exact this
      refine⟨⟨k+1,rfl,by omega,⟨hI2.nd,hI2.ha,by simp only;omega⟩,hO⟩,by omega⟩
  · have e:seen[k]?=none:=List.getElem?_eq_none (by omega)
    have e2:25-k=(25-(k+1))+1:=by omega
    rw[e2,hopO,e]at hO
    exact hO
def hopR_c(t:Tpl)(from_:Int)(to_:Int):PC Tryz.prog:=⟨112,[(.a [(.s 2),(.s 5)]),.k,.k],[.agg [.sl 2 (t.rs.map Rtr.v) false,.sl 5 (t.ls.map Lnk.v) false],.int from_,.int to_],hopR_e (hopsT t from_ to_),PSpec.of_ok λok=>(hopR_p t from_ to_ ok).elim λI0 h=>h.elim λI1 h=>h.elim λm1 h=>h.elim λI2 h=>h.elim λm2 h=>mxP_of (sh:=(.s 1)) (enc:=hopR_e) (a:=(hopR_x t from_ to_ I0 I1 m1 I2 m2).an) h (by kernel_rfl) (AV.pureB_ok rfl),fnB_ok (by kernel_rfl)⟩
structure Rw where
  id:Int
  nx:List Int
def Rw.v(x:Rw):AV:=.agg [.int x.id,.sl 1 (x.nx.map AV.int) false]
structure Tbl where
  router:Int
  sub:Int
  len:Int
  rows:List Rw
def Tbl.v(x:Tbl):AV:=.agg [.int x.router,.int x.sub,.int x.len,.sl 2 (x.rows.map Rw.v) false]
def bld1(t:Tpl)(r:Int)(e:Edg):Rw:=⟨e.id,if e.router=r then [r]else if cpbT t e.router=true then hopsT t r e.router else []⟩
def bldT(t:Tpl)(p:Pln)(r:Int):Tbl:=⟨r,p.sub,p.len,p.es.map (bld1 t r)⟩
def bldR_a(t:Tpl)(p:Pln)(router:Int):Prop:=okL [.agg [.sl 2 (t.rs.map Rtr.v) false,.sl 5 (t.ls.map Lnk.v) false],.agg [.int p.sub,.int p.len,.sl 2 (p.es.map Edg.v) false],.int router]
def bldR_n0(t:Tpl)(p:Pln)(router:Int)(t0:Int×(List Rw)):NF:=⟨[(2,.k,.int router),(3,.k,.ref 0 0),(4,.k,.ref 1 0),(6,.k,.ref 2 0),(7,.k,.ref 3 0),(8,.k,.int t0.1)],[.box (.agg [.sl 2 (t.rs.map Rtr.v) false,.sl 5 (t.ls.map Lnk.v) false]),.box (.agg [.int p.sub,.int p.len,.sl 2 (p.es.map Edg.v) false]),.box (.agg [.int 0,.int 0,.int 0,.sl 0 [] true]),.box (.agg [.int router,.int p.sub,.int p.len,.vec 4]),.vec 2 (t0.2.map Rw.v) (pureBL_map (λ_=>rfl) t0.2)]⟩
@[reducible] def bldR_s:Nat→Type
 | 0=>Int×(List Rw)
 | _=>Unit
def bldR_e(r:Tbl):AV:=Tbl.v r
def bldR_x(t:Tpl)(p:Pln)(router:Int)(I0:(Int×(List Rw))→Prop)(m0:(Int×(List Rw))→Nat):Ax Tryz.prog bldR_s (Tbl):=
 (.cmdL (.nilB 144 3 2) (.loop 0 (bldR_n0 t p router) I0 m0 (0,[]) [0,16,32,144,192] λ(t0:Int×(List Rw)) b0 =>
(.br 85 (decide (t0.1<((p.es.map Edg.v).length:Int))) (.el 133 Edg.v p.es (λR=>Rf (p.es.map Edg.v) (ck (decide (0≤t0.1)) (ck (decide (t0.1<(p.es.length:Int)))
(∀x1,p.es[t0.1.toNat]?=some x1 →
(R x1))))) λx1 =>
(.el 277 Edg.v p.es (λR=>Rf (p.es.map Edg.v) (ck (decide (0≤t0.1)) (ck (decide (t0.1<(p.es.length:Int)))
(∀x2,p.es[t0.1.toNat]?=some x2 →
(R x2))))) λx2 =>
(.br 357 (x2.router==router) (.say (λR=>Idt (t0.2.map Rw.v) (Rf (α:=List AV) [.agg [.int x1.id,.sl 1 [.int router] true]]
(ck (decide ((t0.2.map Rw.v).length+1≤1048576))
R))) (.app 485 (λy:AV=>y) (t0.2.map Rw.v) [.agg [.int x1.id,.sl 1 [.int router] true]]
(.say (λR=>FitE (.a [.k,(.s 1)]) Rw.v t0.2 [(⟨x1.id,[router]⟩:Rw)] [.agg [.int x1.id,.sl 1 [.int router] true]] ∧
R) (.cmd (.wkV 485 (.a [.k,(.s 1)]) Rw.v (t0.2++[(⟨x1.id,[router]⟩:Rw)])) (.bk 0 b0 (W (t0.1+1),t0.2++[(⟨x1.id,[router]⟩:Rw)]) [0,1,2,3,485])))))
(.el 421 Edg.v p.es (λR=>Rf (p.es.map Edg.v) (ck (decide (0≤t0.1)) (ck (decide (t0.1<(p.es.length:Int)))
(∀x3,p.es[t0.1.toNat]?=some x3 →
(R x3))))) λx3 =>
(.callP (cpbR_c t x3.router)
(.br 485 (cpbT t x3.router) (.el 565 Edg.v p.es (λR=>Rf (p.es.map Edg.v) (ck (decide (0≤t0.1)) (ck (decide (t0.1<(p.es.length:Int)))
(∀x4,p.es[t0.1.toNat]?=some x4 →
(R x4))))) λx4 =>
(.callP (hopR_c t router x4.router)
(.say (λR=>Rf (α:=List AV) (t0.2.map Rw.v) (Rf (α:=List AV) [.agg [.int x1.id,.sl 1 ((hopsT t router x4.router).map AV.int) false]]
(ck (decide (t0.2.length+1≤1048576))
R))) (.app 725 Rw.v t0.2 [(⟨x1.id,hopsT t router x4.router⟩:Rw)]
(.bk 0 b0 (W (t0.1+1),t0.2++[(⟨x1.id,hopsT t router x4.router⟩:Rw)]) [0,1,2,3,725])))))
(.say (λR=>Idt (t0.2.map Rw.v) (Rf (α:=List AV) [.agg [.int x1.id,.sl 0 [] true]]
(ck (decide ((t0.2.map Rw.v).length+1≤1048576))
R))) (.app 549 (λy:AV=>y) (t0.2.map Rw.v) [.agg [.int x1.id,.sl 0 [] true]]
(.say (λR=>FitE (.a [.k,(.s 1)]) Rw.v t0.2 [(⟨x1.id,[]⟩:Rw)] [.agg [.int x1.id,.sl 0 [] true]] ∧
R) (.cmd (.wkV 549 (.a [.k,(.s 1)]) Rw.v (t0.2++[(⟨x1.id,[]⟩:Rw)])) (.bk 0 b0 (W (t0.1+1),t0.2++[(⟨x1.id,[]⟩:Rw)]) [0,1,2,3,549])))))))))))
(.say (Rf (t0.2.map Rw.v)) (.cmdL (.frzE 4 (t0.2.map Rw.v) (pureBL_map (λ_=>rfl) t0.2)) (.ret ((⟨router,p.sub,p.len,t0.2⟩:Tbl))))))))
def bldR_vc(t:Tpl)(p:Pln)(router:Int)(I0:(Int×(List Rw))→Prop)(m0:(Int×(List Rw))→Nat)(r0:Tbl):Prop:=(bldR_x t p router I0 m0).vp bldR_e r0
theorem bldR_p(t:Tpl)(p:Pln)(r:Int)(hc:chk5 t=0)(h:p.es.length≤100)(ok:bldR_a t p r):∃I0 m0,bldR_vc t p r I0 m0 (bldT t p r):=by
 refine⟨λs=>ForX p.es (λe=>[bld1 t r e]) s.1 s.2,λs=>p.es.length-s.1.toNat,?_⟩
 dsimp only[bldR_vc,bldR_x,bldR_s,Ax.vp,Ax.vc];simp only[vcU,rfU,List.length_map]
 refine⟨ForX.zero,?_⟩
 rintro⟨i,out⟩ hX
 simp only at hX ⊢
 have hlen:=hX.len (b:=1) λx _=>by simp
 refine⟨λc=>⟨hX.idx,c,λx hx=>⟨hX.idx,c,λx2 h2=>?_⟩⟩,λc=>?_⟩
 ·rw[hx]at h2;cases h2
  refine⟨λe=>⟨by omega,fitE_one (λ_=>rfl) rfl,hX.step (by omega) hx ?_⟩,λe=>⟨hX.idx,c,λx3 h3=>?_⟩⟩
  ·rw[bld1,if_pos (eq_of_beq e)]
  rw[hx]at h3;cases h3
  refine⟨λe2=>⟨hX.idx,c,λx4 h4=>?_⟩,λe2=>⟨by omega,fitE_one (λ_=>rfl) rfl,hX.step (by omega) hx ?_⟩⟩
  ·rw[hx]at h4;cases h4
   exact⟨by omega,hX.step (by omega) hx (by rw[bld1,if_neg (by simpa using e),if_pos e2])⟩
  ·rw[bld1,if_neg (by simpa using e),if_neg (by rw[e2];simp)]
 ·have:(p.es.flatMap λe=>[bld1 t r e])=p.es.map (bld1 t r):=List.map_eq_flatMap.symm
  rw[hX.done c,this];rfl
def bldR_c(t:Tpl)(p:Pln)(router:Int)(hc:chk5 t=0)(h:p.es.length≤100):PC Tryz.prog:=⟨97,[(.a [(.s 2),(.s 5)]),(.a [.k,.k,(.s 2)]),.k],[.agg [.sl 2 (t.rs.map Rtr.v) false,.sl 5 (t.ls.map Lnk.v) false],.agg [.int p.sub,.int p.len,.sl 2 (p.es.map Edg.v) false],.int router],bldR_e (bldT t p router),PSpec.of_ok λok=>(bldR_p t p router hc h ok).elim λI0 h=>h.elim λm0 h=>mxP_of (sh:=(.a [.k,.k,.k,(.s 2)])) (enc:=bldR_e) (a:=(bldR_x t p router I0 m0).an) h (by kernel_rfl) (AV.pureB_ok rfl),fnB_ok (by kernel_rfl)⟩
def allT(t:Tpl)(p:Pln):List Tbl×Int:=if chk5 t≠0∨plnOkB p=false then([],1)else(t.rs.flatMap λx=>if x.cap=true then [bldT t p x.id]else [],0)
def allR_a(t:Tpl)(p:Pln):Prop:=okL [.agg [.sl 2 (t.rs.map Rtr.v) false,.sl 5 (t.ls.map Lnk.v) false],.agg [.int p.sub,.int p.len,.sl 2 (p.es.map Edg.v) false]]
def allR_n0(t:Tpl)(p:Pln)(t0:Bool):NF:=⟨[(2,.k,.ref 0 0),(3,.k,.ref 1 0),(15,.k,.bool t0)],[.box (.agg [.sl 2 (t.rs.map Rtr.v) false,.sl 5 (t.ls.map Lnk.v) false]),.box (.agg [.int p.sub,.int p.len,.sl 2 (p.es.map Edg.v) false])]⟩
def allR_n1(t:Tpl)(p:Pln)(t1:Int×(List Tbl)):NF:=⟨[(2,.k,.ref 0 0),(3,.k,.ref 1 0),(6,.k,.vec 2),(7,.k,.int t1.1)],[.box (.agg [.sl 2 (t.rs.map Rtr.v) false,.sl 5 (t.ls.map Lnk.v) false]),.box (.agg [.int p.sub,.int p.len,.sl 2 (p.es.map Edg.v) false]),.vec 4 (t1.2.map Tbl.v) (pureBL_map (λ_=>rfl) t1.2)]⟩
@[reducible] def allR_s:Nat→Type
 | 0=>Bool
 | 1=>Int×(List Tbl)
 | _=>Unit
def allR_e(r:(List Tbl)×Int):AV:=.tup [.sl 4 (r.1.map Tbl.v) false,.int r.2]
def allR_x(t:Tpl)(p:Pln)(I0:Bool→Prop)(I1:Bool→(Int×(List Tbl))→Prop)(m1:Bool→(Int×(List Tbl))→Nat):Ax Tryz.prog allR_s ((List Tbl)×Int):=
 (.pass (.pass (.join 0 (allR_n0 t p) (λ(t0:Bool)=>I0 t0) (λb0=>(.callP (chk5_c t)
(.br 128 ((chk5 t) != 0) (.bk 0 b0 ((true):Bool) [0,16])
(.callP (vplnR_c p)
(.bk 0 b0 ((!(plnOkB p)):Bool) [0,16]))))) λ(t0:Bool) =>
(.br 2 t0 (.ret ([],1))
(.cmdL (.nilT 6 4) (.loop 1 (allR_n1 t p) (I1 t0) (m1 t0) (0,[]) [0,1,34] λ(t1:Int×(List Tbl)) b1 =>
(.br 83 (decide (t1.1<((t.rs.map Rtr.v).length:Int))) (.el 131 Rtr.v t.rs (λR=>Rf (t.rs.map Rtr.v) (ck (decide (0≤t1.1)) (ck (decide (t1.1<(t.rs.length:Int)))
(∀x1,t.rs[t1.1.toNat]?=some x1 →
(R x1))))) λx1 =>
(.br 179 x1.cap (.el 275 Rtr.v t.rs (λR=>Rf (t.rs.map Rtr.v) (ck (decide (0≤t1.1)) (ck (decide (t1.1<(t.rs.length:Int)))
(∀x2,t.rs[t1.1.toNat]?=some x2 →
(R x2))))) λx2 =>
(.req 323 (chk5 t=0) λh3 =>
(.req 323 (p.es.length≤100) λh4 =>
(.callP (bldR_c t p x2.id h3 h4)
(.say (λR=>Rf (α:=List AV) (t1.2.map Tbl.v) (Rf (α:=List AV) [(Tbl.v (bldT t p x2.id))]
(ck (decide (t1.2.length+1≤1048576))
R))) (.app 355 Tbl.v t1.2 [bldT t p x2.id]
(.bk 1 b1 (W (t1.1+1),t1.2++[bldT t p x2.id]) [0,1,355])))))))
(.bk 1 b1 (W (t1.1+1),t1.2) [0,1,2])))
(.say (Rf (t1.2.map Tbl.v)) (.cmdL (.frzE 2 (t1.2.map Tbl.v) (pureBL_map (λ_=>rfl) t1.2)) (.ret (t1.2,0)))))))))))
def allR_vc(t:Tpl)(p:Pln)(I0:Bool→Prop)(I1:Bool→(Int×(List Tbl))→Prop)(m1:Bool→(Int×(List Tbl))→Nat)(r0:(List Tbl)×Int):Prop:=(allR_x t p I0 I1 m1).vp allR_e r0
theorem allR_p(t:Tpl)(p:Pln)(ok:allR_a t p):∃I0 I1 m1,allR_vc t p I0 I1 m1 (allT t p):=by
 refine⟨λb=>b=(decide (chk5 t≠0) || !plnOkB p),λ_ s=>ForX t.rs (λx=>if x.cap=true then [bldT t p x.id]else []) s.1 s.2,λ_ s=>t.rs.length-s.1.toNat,?_⟩
 dsimp only[allR_vc,allR_x,allR_s,Ax.vp,Ax.vc];simp only[vcU,rfU,List.length_map]
 refine⟨⟨λc=>by simp at c;simp[c],λc=>by simp at c;simp[c]⟩,?_⟩
 rintro _ rfl
 unfold allT
 refine⟨λc=>by rw[if_pos (by simpa using c)],λc=>?_⟩
 have c:¬(chk5 t≠0∨plnOkB p=false):=by simp at c;simp[c]
 have hc:chk5 t=0:=by simp at c;exact c.1
 have hn:=(chk5_ok hc).nr
 have hpl:p.es.length≤24:=by
  have hp:plnOkB p=true:=by
   cases q:plnOkB p
   ·exact absurd (.inr q) c
   ·rfl
  unfold plnOkB at hp
  rw[Bool.and_eq_true,decide_eq_true_iff]at hp
  exact hp.1.2.2
 rw[if_neg c]
 refine⟨ForX.zero,?_⟩
 rintro⟨i,out⟩ hX
 simp only at hX ⊢
 have hlen:=hX.len (b:=1) λx _=>by split<;>simp
 refine⟨λd=>⟨hX.idx,d,λx hx=>⟨λe=>⟨hX.idx,d,λy hy=>?_⟩,λe=>hX.step (by omega) hx (by rw[if_neg (by rw[e];simp)];simp)⟩⟩,λd=>by rw[hX.done d]⟩
 rw[hx]at hy;cases hy
 exact⟨hc,by omega,by omega,hX.step (by omega) hx (by rw[if_pos e])⟩
def allR_c(t:Tpl)(p:Pln):PC Tryz.prog:=⟨49,[(.a [(.s 2),(.s 5)]),(.a [.k,.k,(.s 2)])],[.agg [.sl 2 (t.rs.map Rtr.v) false,.sl 5 (t.ls.map Lnk.v) false],.agg [.int p.sub,.int p.len,.sl 2 (p.es.map Edg.v) false]],allR_e (allT t p),PSpec.of_ok λok=>(allR_p t p ok).elim λI0 h=>h.elim λI1 h=>h.elim λm1 h=>mxP_of (sh:=(.a [(.s 4),.k])) (enc:=allR_e) (a:=(allR_x t p I0 I1 m1).an) h (by kernel_rfl) (AV.pureB_ok rfl),fnB_ok (by kernel_rfl)⟩
def dmnM(L:List Int)(p:Nat)(most:Int):(Tpl×Pln×List Tbl)×Nat:=
 (((topM L p most 0).1,(plaM L (topM L p most 0).2 (topM L p most 0).1 0).1,(allT (topM L p most 0).1 (plaM L (topM L p most 0).2 (topM L p most 0).1 0).1).1),(plaM L (topM L p most 0).2 (topM L p most 0).1 0).2)
def dmnM_a(L:(List Int))(p:Nat)(most:Int):Prop:=okL [.ref 0 0,.int most]∧(.box (.agg [.sl 1 (L.map AV.int) false,.int ((p:Nat):Int)]):Blk).ok
def dmnM_e(r:Tap×Tpl×Pln×(List Tbl)):AV:=.tup [.agg [.sl 2 (r.2.1.rs.map Rtr.v) false,.sl 5 (r.2.1.ls.map Lnk.v) false],.agg [.int r.2.2.1.sub,.int r.2.2.1.len,.sl 2 (r.2.2.1.es.map Edg.v) false],.sl 4 (r.2.2.2.map Tbl.v) false]
def dmnM_b(r:Tap×Tpl×Pln×(List Tbl)):List (Option Blk):=[some (.box (.agg [.sl 1 (r.1.L.map AV.int) false,.int ((r.1.p:Nat):Int)]))]
def dmnM_x(L:(List Int))(p:Nat)(most:Int):Ax Tryz.prog noS (Tap×Tpl×Pln×(List Tbl)):=
 (.req 81 (1≤most∧most≤20) λh1 =>
(.callH [0] (topM_h L p most 0 h1) 81
(.say (Rf ((((topM L p most 0).1).rs).map Rtr.v)) (.cmd (.frzE 81 ((((topM L p most 0).1).rs).map Rtr.v) (pureBL_map (λ_=>rfl) (((topM L p most 0).1).rs))) (.say (Rf ((((topM L p most 0).1).ls).map Lnk.v)) (.cmd (.frzE 82 ((((topM L p most 0).1).ls).map Lnk.v) (pureBL_map (λ_=>rfl) (((topM L p most 0).1).ls))) (.req 161 ((⟨((topM L p most 0).1).rs,((topM L p most 0).1).ls⟩:Tpl).rs.length≤100) λh2 =>
(.callH [0] (plaM_h L ((topM L p most 0).2) (⟨((topM L p most 0).1).rs,((topM L p most 0).1).ls⟩:Tpl) 0 h2) 161
(.callP (allR_c (⟨((topM L p most 0).1).rs,((topM L p most 0).1).ls⟩:Tpl) ((plaM L ((topM L p most 0).2) (⟨((topM L p most 0).1).rs,((topM L p most 0).1).ls⟩:Tpl) 0).1))
(.retH ((⟨L,(plaM L ((topM L p most 0).2) (⟨((topM L p most 0).1).rs,((topM L p most 0).1).ls⟩:Tpl) 0).2⟩:Tap),(⟨((topM L p most 0).1).rs,((topM L p most 0).1).ls⟩:Tpl),(plaM L ((topM L p most 0).2) (⟨((topM L p most 0).1).rs,((topM L p most 0).1).ls⟩:Tpl) 0).1,(allT (⟨((topM L p most 0).1).rs,((topM L p most 0).1).ls⟩:Tpl) ((plaM L ((topM L p most 0).2) (⟨((topM L p most 0).1).rs,((topM L p most 0).1).ls⟩:Tpl) 0).1)).1) ⟨[(4,.k,.ref 1 0),(5,.k,.ref 2 0),(6,.k,.sl 4 (((allT (⟨((topM L p most 0).1).rs,((topM L p most 0).1).ls⟩:Tpl) ((plaM L ((topM L p most 0).2) (⟨((topM L p most 0).1).rs,((topM L p most 0).1).ls⟩:Tpl) 0).1)).1).map Tbl.v) false)],[.box (.agg [.sl 1 (L.map AV.int) false,.int ((((plaM L ((topM L p most 0).2) (⟨((topM L p most 0).1).rs,((topM L p most 0).1).ls⟩:Tpl) 0).2):Nat):Int)]),.box (.agg [.sl 2 ((((topM L p most 0).1).rs).map Rtr.v) false,.sl 5 ((((topM L p most 0).1).ls).map Lnk.v) false]),.box (.agg [.int (((plaM L ((topM L p most 0).2) (⟨((topM L p most 0).1).rs,((topM L p most 0).1).ls⟩:Tpl) 0).1).sub),.int (((plaM L ((topM L p most 0).2) (⟨((topM L p most 0).1).rs,((topM L p most 0).1).ls⟩:Tpl) 0).1).len),.sl 2 ((((plaM L ((topM L p most 0).2) (⟨((topM L p most 0).1).rs,((topM L p most 0).1).ls⟩:Tpl) 0).1).es).map Edg.v) false])]⟩ [0,1,17]))))))))))
def dmnM_vc(L:(List Int))(p:Nat)(most:Int)(r0:Tap×Tpl×Pln×(List Tbl)):Prop:=(dmnM_x L p most).vc dmnM_e dmnM_b r0
theorem dmnM_p(L:List Int)(p:Nat)(most:Int)(h:1≤most∧most≤20)(ok:dmnM_a L p most):dmnM_vc L p most ((⟨L,(dmnM L p most).2⟩:Tap),(dmnM L p most).1):=by
 dsimp only[dmnM_vc,dmnM_x,noS,Ax.vp,Ax.vc];simp only[vcU,rfU,List.length_map]
 have hl:(topM L p most 0).1.rs.length≤20:=by
  have hk:=rng_1 (L:=L) (p:=p) (m:=most) (by omega)
  unfold topM
  rw[if_neg (λq=>by have:=q.1;omega)]
  unfold topB
  simp only[rtsM_len];omega
 exact⟨h,by omega,rfl⟩
def dmnM_h(L:(List Int))(p:Nat)(most:Int)(h:1≤most∧most≤20):HC Tryz.prog:=⟨16,[.k,.k],[.ref 0 0,.int most],[.box (.agg [.sl 1 (L.map AV.int) false,.int ((p:Nat):Int)])],dmnM_e ((⟨L,(dmnM L p most).2⟩:Tap),(dmnM L p most).1),dmnM_b ((⟨L,(dmnM L p most).2⟩:Tap),(dmnM L p most).1),HSpec.of_okh λok ok2=>have ok:dmnM_a L p most:=⟨ok,ok2 _ (by simp)⟩;mxH_of (sh:=(.a [(.a [(.s 2),(.s 5)]),(.a [.k,.k,(.s 2)]),(.s 4)])) (enc:=dmnM_e) (hB:=dmnM_b) (a:=(dmnM_x L p most).an) (dmnM_p L p most h ok) (by kernel_rfl),fnB_ok (by kernel_rfl),HcOk.of (by simp[hcB,belBL,AV.belB,allB,okBk,okBkO,dmnM_e,dmnM_b,pureBL_map (v:=AV.int) (λ_=>rfl)])⟩
end Go.Proofs.YteooglpnechplaaGreat
