/- Texts joined: PL PR1 KM1 KM2 KM3 KM4 AL1 AL2 BT. -/
import Derived.Test.YtdbdndmdbbihbaaGreatDoorQP6
set_option linter.unusedVariables false
set_option linter.unusedSimpArgs false
set_option linter.unusedSectionVars false
namespace Go.Proofs.YtdbdndmdbbihbaaGreatDoor
open Go Go.Am
structure Edg where
  router:Int
  id:Int
  deriving DecidableEq
structure Pln where
  sub:Int
  len:Int
  es:List Edg
  deriving DecidableEq
def Edg.v(x:Edg):AV:=.agg [.int x.router,.int x.id]
theorem kw{es:List AV}(h:bR es=true):dj [es]=true:=by rw[dj,h];rfl
theorem aG.find{α:Type}{l:List α}{t:Int}{x:α}{p:α→Bool}(h:aG l (λy=>p y=false) t)(hx:l[t.toNat]?=some x)(hp:p x=true):l.find? p=some x:=by
 obtain⟨k,rfl,hk,ha⟩:=h
 rw[Int.toNat_natCast]at hx
 rw[List.find?_eq_some_iff_getElem]
 have hlt:=ap hx
 refine⟨hp,k,hlt,by rw[List.getElem?_eq_getElem hlt]at hx;exact Option.some.inj hx,λj hj=>?_⟩
 rw[ha _ (List.mem_take_iff_getElem.mpr ⟨j,by omega,rfl⟩)];rfl
theorem aG.nofind{α:Type}{l:List α}{t:Int}{p:α→Bool}(h:aG l (λy=>p y=false) t)(c:¬t<l.length):l.find? p=none:=by
 rw[List.find?_eq_none]
 exact λx hx=>by rw[h.done c x hx];simp
def inP(n a b:Int):Bool:=decide (a≤n) && decide (n≤b)
def inP_a(n:Int)(least:Int)(most:Int):=okL [.int n,.int least,.int most]
def H4(r:Bool):AV:=.bool r
def Hz(n:Int)(least:Int)(most:Int):Ax Tryz.prog noS (Bool):=
 (.br 80 (decide (least≤n)) (.ret (decide (n≤most)))
(.ret (false)))
def H3(n:Int)(least:Int)(most:Int)(r0:Bool):=(Hz n least most).vp H4 r0
theorem inP_p(n a b:Int)(ok:inP_a n a b):H3 n a b (inP n a b):=by
 dsimp only[H3,Hz,noS,Ax.vp,Ax.vc];simp only[vcU,rfU,List.length_map]
 refine⟨λc=>?_,λc=>?_⟩<;>simp[inP,c]
def nE(n:Int)(least:Int)(most:Int):PC Tryz.prog:=⟨105,[.k,.k,.k],[.int n,.int least,.int most],H4 (inP n least most),ao.of_ok λok=>aj (sh:=.k) (enc:=H4) (a:=(Hz n least most).an) (inP_p n least most ok) (by kernel_rfl) (AV.pureB_ok rfl),ah (by kernel_rfl)⟩
theorem gB{n a b:Int}:(!inP n a b)=true↔¬(a≤n∧n≤b):=by
 unfold inP
 by_cases h1:a≤n<;>by_cases h2:n≤b<;>simp[h1,h2]
theorem fh{n a b:Int}:(!inP n a b)=false↔a≤n∧n≤b:=by
 unfold inP
 by_cases h1:a≤n<;>by_cases h2:n≤b<;>simp[h1,h2]
def aJ(n:Int):Bool:=decide (n=8∨n=16∨n=32∨n=64)
def Kw(n:Int):=okL [.int n]
def ow(r:Bool):AV:=.bool r
def ov(n:Int):Ax Tryz.prog noS (Bool):=
 (.br 64 (n==8) (.ret (true))
(.br 128 (n==16) (.ret (true))
(.br 192 (n==32) (.ret (true))
(.ret (n==64)))))
def rP(n:Int)(r0:Bool):=(ov n).vp ow r0
theorem Kv(n:Int)(ok:Kw n):rP n (aJ n):=by
 dsimp only[rP,ov,noS,Ax.vp,Ax.vc];simp only[vcU,rfU,List.length_map]
 refine⟨λc=>?_,λc=>⟨λd=>?_,λd=>⟨λe=>?_,λe=>?_⟩⟩⟩
 ·rw[aJ,decide_eq_true (.inl (eq_of_beq c))]
 ·rw[aJ,decide_eq_true (.inr (.inl (eq_of_beq d)))]
 ·rw[aJ,decide_eq_true (.inr (.inr (.inl (eq_of_beq e))))]
 ·have c:¬n=8:=by simpa using c
  have d:¬n=16:=by simpa using d
  have e:¬n=32:=by simpa using e
  rw[aJ,Bool.eq_iff_iff,beq_iff_eq,decide_eq_true_eq]
  simp[c,d,e]
def gb(n:Int):PC Tryz.prog:=⟨106,[.k],[.int n],ow (aJ n),ao.of_ok λok=>aj (sh:=.k) (enc:=ow) (a:=(ov n).an) (Kv n ok) (by kernel_rfl) (AV.pureB_ok rfl),ah (by kernel_rfl)⟩
def ka(y x:Edg):Bool:=y.router==x.router
def TC(y:Edg)(x:Edg):=okL [.agg [.int y.router,.int y.id],.rptr (.agg [.int x.router,.int x.id]) 0]
def ym(r:Bool):AV:=.bool r
def yl(y:Edg)(x:Edg):Ax Tryz.prog noS (Bool):=
 (.ret (y.router==x.router))
def Cv(y:Edg)(x:Edg)(r0:Bool):=(yl y x).vp ym r0
theorem TA(y x:Edg)(ok:TC y x):Cv y x (ka y x):=by
 dsimp only[Cv,yl,noS,Ax.vp,Ax.vc];simp only[vcU,rfU,List.length_map]
 rfl
def TB(y:Edg)(x:Edg):PC Tryz.prog:=⟨108,[.k,.k],[.agg [.int y.router,.int y.id],.rptr (.agg [.int x.router,.int x.id]) 0],ym (ka y x),ao.of_ok λok=>aj (sh:=.k) (enc:=ym) (a:=(yl y x).an) (TA y x ok) (by kernel_rfl) (AV.pureB_ok rfl),ah (by kernel_rfl)⟩
def Cx(s:List Edg)(f:Edg):=okL [.sl 2 (s.map Edg.v) false,.func 108 [.rptr (.agg [.int f.router,.int f.id]) 0]]
def It(s:List Edg)(f:Edg)(t0:Int):NF:=⟨[(0,.k,.sl 2 (s.map Edg.v) false),(1,.k,.func 108 [.rptr (.agg [.int f.router,.int f.id]) 0]),(7,.k,.int ((s.map Edg.v).length:Int)),(8,.k,.int t0)],[]⟩
@[reducible] def Cw:Nat→Type
 | 0=>Int
 | _=>Unit
def qD(r:Int):AV:=.int r
def qC(s:List Edg)(f:Edg)(I0:Int→Prop)(m0:Int→Nat):Ax Tryz.prog Cw (Int):=
 (.loop 0 (It s f) I0 m0 ((0):Int) [] λ(t0:Int) b0 =>
(.br 16 (decide (t0<((s.map Edg.v).length:Int))) (.el 96 Edg.v s (λR=>Rf (s.map Edg.v) (ck (decide (0≤t0)) (ck (decide (t0<(s.length:Int)))
(∀x1,s[t0.toNat]?=some x1 →
(R x1))))) λx1 =>
(.callP (TB x1 f)
(.br 144 (ka x1 f) (.ret (t0))
(.bk 0 b0 ((W (t0+1)):Int) []))))
(.ret (-1))))
def tR(s:List Edg)(f:Edg)(I0:Int→Prop)(m0:Int→Nat)(r0:Int):=(qC s f I0 m0).vp qD r0
theorem Nv(s:List Edg)(f:Edg)(ok:Cx s f):∃I m,tR s f I m (ci (λy=>ka y f) s):=by
 refine⟨λt=>aG s (λy=>ka y f=false) t,λt=>s.length-t.toNat,?_⟩
 simp only[Cx,okU,Blk.ok,az,List.length_map]at ok
 dsimp only[tR,qC,Cw,Ax.vp,Ax.vc];simp only[vcU,rfU,List.length_map]
 exact⟨aG.zero,λt h=>⟨λc=>⟨h.idx,c,λx hx=>⟨λq=>h.found hx q,λq=>h.step (by omega) hx q⟩⟩,λc=>h.lost c⟩⟩
def Nw(s:List Edg)(f:Edg):PC Tryz.prog:=⟨157,[(.s 2),.k],[.sl 2 (s.map Edg.v) false,.func 108 [.rptr (.agg [.int f.router,.int f.id]) 0]],qD (ci (λy=>ka y f) s),ao.of_ok λok=>(Nv s f ok).elim λI0 h=>h.elim λm0 h=>aj (sh:=.k) (enc:=qD) (a:=(qC s f I0 m0).an) h (by kernel_rfl) (AV.pureB_ok rfl),ah (by kernel_rfl)⟩
def Nz(s:List Edg)(f:Edg):=okL [.sl 2 (s.map Edg.v) false,.func 108 [.rptr (.agg [.int f.router,.int f.id]) 0]]
def qF(r:Bool):AV:=.bool r
def qE(s:List Edg)(f:Edg):Ax Tryz.prog noS (Bool):=
 (.callP (Nw s f)
(.ret (decide (0≤(ci (λy=>ka y f) s)))))
def tS(s:List Edg)(f:Edg)(r0:Bool):=(qE s f).vp qF r0
theorem Nx(s:List Edg)(f:Edg)(ok:Nz s f):tS s f (s.any λy=>ka y f):=by
 dsimp only[tS,qE,noS,Ax.vp,Ax.vc];simp only[vcU,rfU,List.length_map]
 exact dc _ _
def Ny(s:List Edg)(f:Edg):PC Tryz.prog:=⟨107,[(.s 2),.k],[.sl 2 (s.map Edg.v) false,.func 108 [.rptr (.agg [.int f.router,.int f.id]) 0]],qF (s.any λy=>ka y f),ao.of_ok λok=>aj (sh:=.k) (enc:=qF) (a:=(qE s f).an) (Nx s f ok) (by kernel_rfl) (AV.pureB_ok rfl),ah (by kernel_rfl)⟩
def Iv(e:Edg):Prop:=(1≤e.id∧e.id≤256)∧1≤e.router∧e.router≤99
instance (e:Edg):Decidable (Iv e):=by unfold Iv;infer_instance
def iO(p:Pln):Prop:=(0≤p.sub∧p.sub≤7)∧(aJ p.len=true∨p.len=0∧p.es=[])∧p.es.length≤24
instance (p:Pln):Decidable (iO p):=by unfold iO;infer_instance
def oV(es:List Edg):Prop:=(∀e∈es,Iv e)∧(es.map Edg.router).Nodup∧(es.map Edg.id).Pairwise (·<·)
instance (es:List Edg):Decidable (oV es):=by unfold oV;infer_instance
def bd(p:Pln):Bool:=decide (iO p) && decide (oV p.es)
def N3(es:List Edg)(j:Nat)(e:Edg):Prop:=Iv e∧((es.take j).any λy=>ka y e)=false∧∀e',0<j→es[j-1]?=some e'→e'.id<e.id
theorem jm{es:List Edg}:oV es↔∀j e,es[j]?=some e→N3 es j e:=by
 constructor
 ·rintro⟨h1,h2,h3⟩ j e he
  have hj:=ap he
  rw[List.getElem?_eq_getElem hj]at he
  have he:=Option.some.inj he
  rw[List.nodup_iff_pairwise_ne,List.pairwise_map,List.pairwise_iff_getElem]at h2
  rw[List.pairwise_map,List.pairwise_iff_getElem]at h3
  refine⟨h1 e (he ▸ List.getElem_mem hj),?_,λe' h0 he'=>?_⟩
  ·rw[List.any_eq_false]
   intro y hy
   obtain⟨i,hi,rfl⟩:=List.getElem_of_mem hy
   have hi':i<j:=by simp at hi;omega
   rw[List.getElem_take]
   have:=h2 i j (by omega) hj hi'
   rw[he]at this
   simpa[ka]using this
  ·rw[List.getElem?_eq_getElem (by omega)]at he'
   have:=h3 (j-1) j (by omega) hj (by omega)
   rw[he,Option.some.inj he']at this
   exact this
 ·intro h
  refine⟨λe he=>?_,?_,?_⟩
  ·obtain⟨j,hj⟩:=List.getElem?_of_mem he
   exact(h j e hj).1
  ·rw[List.nodup_iff_pairwise_ne,List.pairwise_map,List.pairwise_iff_getElem]
   intro i j hi hj hij
   have:=(h j _ (List.getElem?_eq_getElem hj)).2.1
   rw[List.any_eq_false]at this
   have:=this es[i] (List.mem_take_iff_getElem.mpr ⟨i,by omega,rfl⟩)
   simpa[ka]using this
  ·rw[List.pairwise_map]
   refine g9.done (l:=es) (R:=λa b=>a.id<b.id) (t:=((es.length+1:Nat):Int)) ⟨es.length+1,rfl,by omega,by omega,λj x y hj hx hy=>?_⟩ (by omega) λx y z q r=>Int.lt_trans q r
   exact(h (j+1) y hy).2.2 x (by omega) (by simpa using hx)
def Ae(p:Pln):=okL [.agg [.int p.sub,.int p.len,.sl 2 (p.es.map Edg.v) false]]
def ED(p:Pln)(t0:Bool):NF:=⟨[(1,.k,.ref 0 0),(32,.k,.bool t0)],[.box (.agg [.int p.sub,.int p.len,.sl 2 (p.es.map Edg.v) false])]⟩
def EC(p:Pln)(t1:Int):NF:=⟨[(1,.k,.ref 0 0),(34,.k,.sl 2 (p.es.map Edg.v) false),(35,.k,.int ((p.es.map Edg.v).length:Int)),(36,.k,.int t1)],[.box (.agg [.int p.sub,.int p.len,.sl 2 (p.es.map Edg.v) false])]⟩
def EB(p:Pln)(t1:Int)(t2:Bool):NF:=⟨[(1,.k,.ref 0 0),(34,.k,.sl 2 (p.es.map Edg.v) false),(35,.k,.int ((p.es.map Edg.v).length:Int)),(36,.k,.int t1),(75,.k,.bool t2)],[.box (.agg [.int p.sub,.int p.len,.sl 2 (p.es.map Edg.v) false])]⟩
@[reducible] def Ac:Nat→Type
 | 0=>Bool
 | 1=>Int
 | 2=>Bool
 | _=>Unit
def om(r:Bool):AV:=.bool r
def oj(p:Pln)(I0:Bool→Prop)(I1:Bool→Int→Prop)(m1:Bool→Int→Nat)(I2:Bool→Int→Edg→Bool→Prop):Ax Tryz.prog Ac (Bool):=
 (.pass (.pass (.join 0 (ED p) (λ(t0:Bool)=>I0 t0) (λb0=>(.callP (nE p.sub 0 7)
(.br 112 (!(inP p.sub 0 7)) (.bk 0 b0 ((true):Bool) [0])
(.callP (gb p.len)
(.br 192 (!(aJ p.len)) (.br 256 (p.len != 0) (.bk 0 b0 ((true):Bool) [0])
(.br 384 (decide (0<((p.es.map Edg.v).length:Int))) (.bk 0 b0 ((true):Bool) [0])
(.bk 0 b0 ((decide (24<((p.es.map Edg.v).length:Int))):Bool) [0])))
(.bk 0 b0 ((decide (24<((p.es.map Edg.v).length:Int))):Bool) [0])))))) λ(t0:Bool) =>
(.br 1 t0 (.ret (false))
(.loop 1 (EC p) (I1 t0) (m1 t0) ((0):Int) [0] λ(t1:Int) b1 =>
(.br 17 (decide (t1<((p.es.map Edg.v).length:Int))) (.el 33 Edg.v p.es (λR=>Rf (p.es.map Edg.v) (ck (decide (0≤t1)) (ck (decide (t1<(p.es.length:Int)))
(∀x1,p.es[t1.toNat]?=some x1 →
(R x1))))) λx1 =>
(.say (λR=>Rf (α:=List AV) (p.es.map Edg.v) (ck (dD p.es.length 0 t1 (p.es.length:Int))
R)) (.sub 161 Edg.v p.es false
(.callP (Ny ((p.es.take t1.toNat).drop 0) x1)
(.say (ck (dj [[.agg [.int x1.router,.int x1.id]]])) (.join 2 (EB p t1) (λ(t2:Bool)=>I2 t0 t1 x1 t2) (λb2=>(.callP (nE x1.id 1 256)
(.br 305 (!(inP x1.id 1 256)) (.bk 2 b2 ((true):Bool) [0])
(.callP (nE x1.router 1 99)
(.br 401 (!(inP x1.router 1 99)) (.bk 2 b2 ((true):Bool) [0])
(.br 449 ((((p.es.take t1.toNat).drop 0)).any λy=>ka y x1) (.bk 2 b2 ((true):Bool) [0])
(.br 497 (decide (0<t1)) (.el 561 Edg.v p.es (λR=>Rf (p.es.map Edg.v) (ck (decide (0≤(W (t1-1)))) (ck (decide ((W (t1-1))<(p.es.length:Int)))
(∀x2,p.es[(W (t1-1)).toNat]?=some x2 →
(R x2))))) λx2 =>
(.bk 2 b2 ((decide (x1.id≤x2.id)):Bool) [0]))
(.bk 2 b2 ((false):Bool) [0])))))))) λ(t2:Bool) =>
(.br 1 t2 (.ret (false))
(.bk 1 b1 ((W (t1+1)):Int) [0]))))))))
(.ret (true))))))))
def rM(p:Pln)(I0:Bool→Prop)(I1:Bool→Int→Prop)(m1:Bool→Int→Nat)(I2:Bool→Int→Edg→Bool→Prop)(r0:Bool):=(oj p I0 I1 m1 I2).vp om r0
theorem Ks(p:Pln)(ok:Ae p):∃I0 I1 m1 I2,rM p I0 I1 m1 I2 (bd p):=by
 refine⟨λb=>b=decide (¬iO p),λ_ t=>∃k:Nat,t=k∧k≤p.es.length∧∀j e,j<k→p.es[j]?=some e→N3 p.es j e,λ_ t=>p.es.length-t.toNat,λ_ t x b=>b=true↔¬N3 p.es t.toNat x,?_⟩
 simp only[Ae,okU,Blk.ok,az,List.length_map]at ok
 dsimp only[rM,oj,Ac,Ax.vp,Ax.vc];simp only[vcU,rfU,List.length_map]
 have hes:p.es=[]↔¬0<(p.es.length:Int):=by rw[←List.length_eq_zero_iff];omega
 refine⟨⟨λc=>?_,λc=>⟨λd=>⟨λe=>?_,λe=>⟨λg=>?_,λg=>?_⟩⟩,λd=>?_⟩⟩,?_⟩
 ·have c:¬(0≤p.sub∧p.sub≤7):=gB.mp c
  exact(decide_eq_true (show ¬iO p from λq=>c q.1)).symm
 ·have d:aJ p.len=false:=by simpa using d
  have e:p.len≠0:=by simpa using e
  exact(decide_eq_true (show ¬iO p from λq=>by
   rcases q.2.1 with r|r
   ·rw[d]at r;cases r
   ·exact e r.1)).symm
 ·have d:aJ p.len=false:=by simpa using d
  exact(decide_eq_true (show ¬iO p from λq=>by
   rcases q.2.1 with r|r
   ·rw[d]at r;cases r
   ·exact hes.mp r.2 g)).symm
 ·have c:0≤p.sub∧p.sub≤7:=fh.mp c
  have e:p.len=0:=by simpa using e
  rw[decide_eq_decide]
  unfold iO
  rw[and_iff_right c,and_iff_right (.inr ⟨e,hes.mpr g⟩)]
  omega
 ·have c:0≤p.sub∧p.sub≤7:=fh.mp c
  have d:aJ p.len=true:=by simpa using d
  rw[decide_eq_decide]
  unfold iO
  rw[and_iff_right c,and_iff_right (.inl d)]
  omega
 rintro _ rfl
 refine⟨λc=>?_,λc=>⟨⟨0,rfl,by omega,λj e h=>by omega⟩,?_⟩⟩
 ·rw[bd,decide_eq_false (of_decide_eq_true c)];rfl
 have c:=Classical.not_not.mp (of_decide_eq_false c)
 have hl:=c.2.2
 rintro _ ⟨k,rfl,hk,h⟩
 simp only[Int.toNat_natCast]
 refine⟨λd=>⟨by omega,d,λx hx=>⟨by simp[dD];omega,rfl,?_,?_⟩⟩,λd=>?_⟩
 ·rw[List.drop_zero]
  refine⟨λe1=>?_,λe1=>⟨λe2=>?_,λe2=>⟨λe3=>?_,λe3=>⟨λe4=>?_,λe4=>?_⟩⟩⟩⟩
  ·have e1:¬(1≤x.id∧x.id≤256):=gB.mp e1
   exact iff_of_true trivial λq=>e1 q.1.1
  ·have e2:¬(1≤x.router∧x.router≤99):=gB.mp e2
   exact iff_of_true trivial λq=>e2 q.1.2
  ·exact iff_of_true trivial λq=>by rw[q.2.1]at e3;cases e3
  ·have e1:1≤x.id∧x.id≤256:=fh.mp e1
   have e2:1≤x.router∧x.router≤99:=fh.mp e2
   rw[ix (by omega) (by omega)]
   refine⟨by omega,by omega,λy hy=>?_⟩
   rw[Int.toNat_natCast]at hy
   constructor
   ·exact λq r=>by have:=r.2.2 y (by omega) hy;omega
   ·intro q
    refine Classical.byContradiction λr=>q ⟨⟨e1,e2⟩,e3,λy' _ hy'=>?_⟩
    rw[hy]at hy';cases hy';omega
  ·have e1:1≤x.id∧x.id≤256:=fh.mp e1
   have e2:1≤x.router∧x.router≤99:=fh.mp e2
   exact iff_of_false Bool.false_ne_true λq=>q ⟨⟨e1,e2⟩,e3,λy' h0 _=>by omega⟩
 ·intro b hb
  refine⟨λe=>?_,λe=>?_⟩
  ·have:¬oV p.es:=λq=>hb.mp e (jm.mp q k x hx)
   rw[bd,decide_eq_false this,Bool.and_false]
  ·have hg:N3 p.es k x:=Classical.not_not.mp λq=>by rw[hb.mpr q]at e;cases e
   rw[aU (n:=p.es.length) (by omega) (by omega)]
   refine⟨⟨k+1,rfl,by omega,λj y hj hy=>?_⟩,by omega⟩
   by_cases e':j=k
   ·subst e';rw[hx]at hy;cases hy;exact hg
   ·exact h j y (by omega) hy
 ·have:oV p.es:=jm.mpr λj e he=>h j e (by have:=ap he;omega) he
  rw[bd,decide_eq_true c,decide_eq_true this];rfl
def Ad(p:Pln):PC Tryz.prog:=⟨41,[(.a [.k,.k,(.s 2)])],[.agg [.int p.sub,.int p.len,.sl 2 (p.es.map Edg.v) false]],om (bd p),ao.of_ok λok=>(Ks p ok).elim λI0 h=>h.elim λI1 h=>h.elim λm1 h=>h.elim λI2 h=>aj (sh:=.k) (enc:=om) (a:=(oj p I0 I1 m1 I2).an) h (by kernel_rfl) (AV.pureB_ok rfl),ah (by kernel_rfl)⟩
abbrev rO:=aJ
def Ku(n:Int):=okL [.int n]
def ou(r:Bool):AV:=.bool r
def ot(n:Int):Ax Tryz.prog noS (Bool):=
 (.br 64 (n==8) (.ret (true))
(.br 128 (n==16) (.ret (true))
(.br 192 (n==32) (.ret (true))
(.ret (n==64)))))
def rN(n:Int)(r0:Bool):=(ot n).vp ou r0
theorem Kt(n:Int)(ok:Ku n):rN n (rO n):=by
 dsimp only[rN,ot,noS,Ax.vp,Ax.vc];simp only[vcU,rfU,List.length_map]
 refine⟨λc=>?_,λc=>⟨λd=>?_,λd=>⟨λe=>?_,λe=>?_⟩⟩⟩
 ·rw[rO,aJ,decide_eq_true (.inl (eq_of_beq c))]
 ·rw[rO,aJ,decide_eq_true (.inr (.inl (eq_of_beq d)))]
 ·rw[rO,aJ,decide_eq_true (.inr (.inr (.inl (eq_of_beq e))))]
 ·have c:¬n=8:=by simpa using c
  have d:¬n=16:=by simpa using d
  have e:¬n=32:=by simpa using e
  rw[rO,aJ,Bool.eq_iff_iff,beq_iff_eq,decide_eq_true_eq]
  simp[c,d,e]
def iz(n:Int):PC Tryz.prog:=⟨80,[.k],[.int n],ou (aJ n),ao.of_ok λok=>aj (sh:=.k) (enc:=ou) (a:=(ot n).an) (Kt n ok) (by kernel_rfl) (AV.pureB_ok rfl),ah (by kernel_rfl)⟩
abbrev insR:=inP
def S9(n:Int)(low:Int)(high:Int):=okL [.int n,.int low,.int high]
def xo(r:Bool):AV:=.bool r
def xn(n:Int)(low:Int)(high:Int):Ax Tryz.prog noS (Bool):=
 (.br 80 (decide (low≤n)) (.ret (decide (n≤high)))
(.ret (false)))
def BJ(n:Int)(low:Int)(high:Int)(r0:Bool):=(xn n low high).vp xo r0
theorem S8(n a b:Int)(ok:S9 n a b):BJ n a b (insR n a b):=by
 dsimp only[BJ,xn,noS,Ax.vp,Ax.vc];simp only[vcU,rfU,List.length_map]
 refine⟨λc=>?_,λc=>?_⟩<;>simp[insR,inP,c]
def jQ(n:Int)(low:Int)(high:Int):PC Tryz.prog:=⟨79,[.k,.k,.k],[.int n,.int low,.int high],xo (inP n low high),ao.of_ok λok=>aj (sh:=.k) (enc:=xo) (a:=(xn n low high).an) (S8 n low high ok) (by kernel_rfl) (AV.pureB_ok rfl),ah (by kernel_rfl)⟩
def repR(l:List Int):Bool:=!decide l.Nodup
theorem Av{α:Type}{l:List α}{k:Nat}{y:α}(hy:l[k]?=some y):(l.take (k+1)).Nodup↔(l.take k).Nodup∧∀x∈l.take k,x≠y:=by
 rw[aO hy,List.nodup_append]
 simp
def F3(l:List Int):=okL [.sl 1 (l.map AV.int) false]
def Lp(l:List Int)(t0:Int):NF:=⟨[(0,.k,.sl 1 (l.map AV.int) false),(3,.k,.int t0)],[]⟩
def Lo(l:List Int)(t0:Int)(t1:Int):NF:=⟨[(0,.k,.sl 1 (l.map AV.int) false),(3,.k,.int t0),(4,.k,.int t1)],[]⟩
@[reducible] def F2:Nat→Type
 | 0=>Int
 | 1=>Int
 | _=>Unit
def vL(r:Bool):AV:=.bool r
def vK(l:List Int)(I0:Int→Prop)(m0:Int→Nat)(I1:Int→Int→Prop)(m1:Int→Int→Nat):Ax Tryz.prog F2 (Bool):=
 (.loop 0 (Lp l) I0 m0 ((0):Int) [] λ(t0:Int) b0 =>
(.br 64 (decide (t0<((l.map AV.int).length:Int))) (.loop 1 (Lo l t0) (I1 t0) (m1 t0) ((0):Int) [] λ(t1:Int) b1 =>
(.br 48 (decide (t1<t0)) (.el 80 AV.int l (λR=>Rf (l.map AV.int) (ck (decide (0≤t0)) (ck (decide (t0<(l.length:Int)))
(∀x1,l[t0.toNat]?=some x1 →
(R x1))))) λx1 =>
(.el 144 AV.int l (λR=>Rf (l.map AV.int) (ck (decide (0≤t1)) (ck (decide (t1<(l.length:Int)))
(∀x2,l[t1.toNat]?=some x2 →
(R x2))))) λx2 =>
(.br 192 (x1==x2) (.ret (true))
(.bk 1 b1 ((W (t1+1)):Int) []))))
(.bk 0 b0 ((W (t0+1)):Int) [])))
(.ret (false))))
def AL(l:List Int)(I0:Int→Prop)(m0:Int→Nat)(I1:Int→Int→Prop)(m1:Int→Int→Nat)(r0:Bool):=(vK l I0 m0 I1 m1).vp vL r0
theorem QM(l:List Int)(ok:F3 l):∃I0 m0 I1 m1,AL l I0 m0 I1 m1 (repR l):=by
 refine⟨λt=>∃k:Nat,t=k∧k≤l.length∧(l.take k).Nodup,λt=>l.length-t.toNat,λs t=>∃j:Nat,t=j∧t≤s∧∀y,l[s.toNat]?=some y→∀x∈l.take j,x≠y,λs t=>s.toNat-t.toNat,?_⟩
 simp only[F3,okU,Blk.ok,az,List.length_map]at ok
 dsimp only[AL,vK,F2,Ax.vp,Ax.vc];simp only[vcU,rfU,List.length_map]
 refine⟨⟨0,rfl,by omega,by simp⟩,?_⟩
 rintro _ ⟨k,rfl,hk,h⟩
 refine⟨λc=>⟨⟨0,rfl,by omega,by simp⟩,?_⟩,λc=>?_⟩
 ·rintro _ ⟨j,rfl,hj,g⟩
  have hy:=List.getElem?_eq_getElem (show k<l.length by omega)
  simp only[Int.toNat_natCast]at g ⊢
  refine⟨λd=>⟨by omega,by omega,λy hy'=>⟨by omega,by omega,λx hx=>⟨λe=>?_,λe=>?_⟩⟩⟩,λd=>?_⟩
  ·have e:=eq_of_beq e
   have:¬l.Nodup:=λq=>by
    have:=(Av hy').mp (q.sublist (List.take_sublist _ _))
    exact this.2 x (List.mem_take_iff_getElem.mpr ⟨j,by omega,by rw[List.getElem?_eq_getElem (by omega)]at hx;exact Option.some.inj hx⟩) e.symm
   rw[repR,decide_eq_false this];rfl
  ·rw[aU (n:=l.length) (by omega) (by omega)]
   refine⟨⟨j+1,rfl,by omega,λz hz w hw=>?_⟩,by omega⟩
   rw[aO hx]at hw
   rcases List.mem_append.mp hw with hw|hw
   ·exact g z hz w hw
   ·rw[List.mem_singleton]at hw
    rw[hy']at hz;cases hz;subst hw
    exact λq=>by rw[q]at e;simp at e
  ·have:j=k:=by omega
   subst this
   rw[aU (n:=l.length) (by omega) (by omega)]
   exact⟨⟨j+1,rfl,by omega,(Av hy).mpr ⟨h,g _ hy⟩⟩,by omega⟩
 ·rw[List.take_of_length_le (by omega)]at h
  rw[repR,decide_eq_true h];rfl
def QN(l:List Int):PC Tryz.prog:=⟨81,[(.s 1)],[.sl 1 (l.map AV.int) false],vL (repR l),ao.of_ok λok=>(QM l ok).elim λI0 h=>h.elim λm0 h=>h.elim λI1 h=>h.elim λm1 h=>aj (sh:=.k) (enc:=vL) (a:=(vK l I0 m0 I1 m1).an) h (by kernel_rfl) (AV.pureB_ok rfl),ah (by kernel_rfl)⟩
def Ab(p:Pln):=okL [.agg [.int p.sub,.int p.len,.sl 2 (p.es.map Edg.v) false]]
def EA(p:Pln)(t0:Bool):NF:=⟨[(1,.k,.ref 0 0),(32,.k,.bool t0)],[.box (.agg [.int p.sub,.int p.len,.sl 2 (p.es.map Edg.v) false])]⟩
def E9(p:Pln)(t1:Int×List Int):NF:=⟨[(1,.k,.ref 0 0),(3,.k,.vec 1),(4,.k,.int t1.1)],[.box (.agg [.int p.sub,.int p.len,.sl 2 (p.es.map Edg.v) false]),.vec 1 (t1.2.map AV.int) (ab (λ_=>rfl) t1.2)]⟩
def E8(p:Pln)(t1:Int×List Int)(x1:Edg)(t2:Bool):NF:=⟨[(1,.k,.ref 0 0),(3,.k,.vec 1),(4,.k,.int t1.1),(5,.k,.ref 2 0),(70,.k,.bool t2)],[.box (.agg [.int p.sub,.int p.len,.sl 2 (p.es.map Edg.v) false]),.vec 1 (t1.2.map AV.int) (ab (λ_=>rfl) t1.2),.box (.agg [.int x1.router,.int x1.id])]⟩
@[reducible] def Aa:Nat→Type
 | 0=>Bool
 | 1=>Int×List Int
 | 2=>Bool
 | _=>Unit
def oh(r:Bool):AV:=.bool r
def og(p:Pln)(I0:Bool→Prop)(I1:Bool→(Int×List Int)→Prop)(m1:Bool→(Int×List Int)→Nat)(I2:Bool→Int×List Int→Edg→Bool→Prop):Ax Tryz.prog Aa (Bool):=
 (.pass (.pass (.join 0 (EA p) (λ(t0:Bool)=>I0 t0) (λb0=>(.callP (jQ p.sub 0 7)
(.br 112 (!(inP p.sub 0 7)) (.bk 0 b0 ((true):Bool) [0])
(.callP (iz p.len)
(.br 192 (!(aJ p.len)) (.br 256 (p.len != 0) (.bk 0 b0 ((true):Bool) [0])
(.br 384 (decide (0<((p.es.map Edg.v).length:Int))) (.bk 0 b0 ((true):Bool) [0])
(.bk 0 b0 ((decide (24<((p.es.map Edg.v).length:Int))):Bool) [0])))
(.bk 0 b0 ((decide (24<((p.es.map Edg.v).length:Int))):Bool) [0])))))) λ(t0:Bool) =>
(.br 1 t0 (.ret (false))
(.cmdL (.nilT 3 1) (.loop 1 (E9 p) (I1 t0) (m1 t0) (0,[]) [0,33] λ(t1:Int×List Int) b1 =>
(.br 82 (decide (t1.1<((p.es.map Edg.v).length:Int))) (.el 130 Edg.v p.es (λR=>Rf (p.es.map Edg.v) (ck (decide (0≤t1.1)) (ck (decide (t1.1<(p.es.length:Int)))
(∀x1,p.es[t1.1.toNat]?=some x1 →
(R x1))))) λx1 =>
(.pass (.join 2 (E8 p t1 x1) (λ(t2:Bool)=>I2 t0 t1 x1 t2) (λb2=>(.callP (jQ x1.id 1 256)
(.br 274 (!(inP x1.id 1 256)) (.bk 2 b2 ((true):Bool) [0,1,162])
(.callP (jQ x1.router 1 99)
(.br 370 (!(inP x1.router 1 99)) (.bk 2 b2 ((true):Bool) [0,1,162])
(.br 418 (decide (0<t1.1)) (.el 482 Edg.v p.es (λR=>Rf (p.es.map Edg.v) (ck (decide (0≤(W (t1.1-1)))) (ck (decide ((W (t1.1-1))<(p.es.length:Int)))
(∀x2,p.es[(W (t1.1-1)).toNat]?=some x2 →
(R x2))))) λx2 =>
(.bk 2 b2 ((decide (x1.id≤x2.id)):Bool) [0,1,162]))
(.bk 2 b2 ((false):Bool) [0,1,162]))))))) λ(t2:Bool) =>
(.br 3 t2 (.ret (false))
(.say (λR=>Rf (α:=List AV) (t1.2.map AV.int) (Rf (α:=List AV) [.int x1.router]
(ck (decide (t1.2.length+1≤1048576))
R))) (.app 67 AV.int t1.2 [x1.router]
(.bk 1 b1 (W (t1.1+1),t1.2++[x1.router]) [0,67])))))))
(.callP (QN t1.2)
(.say (ck (dj [(t1.2.map AV.int)])) (.ret (!(repR t1.2))))))))))))
def rL(p:Pln)(I0:Bool→Prop)(I1:Bool→(Int×List Int)→Prop)(m1:Bool→(Int×List Int)→Nat)(I2:Bool→Int×List Int→Edg→Bool→Prop)(r0:Bool):=(og p I0 I1 m1 I2).vp oh r0
def N2(es:List Edg)(j:Nat)(e:Edg):Prop:=Iv e∧∀e',0<j→es[j-1]?=some e'→e'.id<e.id
theorem nv{es:List Edg}:oV es↔(∀j e,es[j]?=some e→N2 es j e)∧(es.map Edg.router).Nodup:=by
 constructor
 ·exact λh=>⟨λj e he=>⟨(jm.mp h j e he).1,(jm.mp h j e he).2.2⟩,h.2.1⟩
 ·intro h
  refine⟨λe he=>?_,h.2,?_⟩
  ·obtain⟨j,hj⟩:=List.getElem?_of_mem he
   exact(h.1 j e hj).1
  ·rw[List.pairwise_map]
   refine g9.done (l:=es) (R:=λa b=>a.id<b.id) (t:=((es.length+1:Nat):Int)) ⟨es.length+1,rfl,by omega,by omega,λj x y hj hx hy=>?_⟩ (by omega) λx y z q r=>Int.lt_trans q r
   exact(h.1 (j+1) y hy).2 x (by omega) (by simpa using hx)
theorem Kr(p:Pln)(ok:Ab p):∃I0 I1 m1 I2,rL p I0 I1 m1 I2 (bd p):=by
 refine⟨λb=>b=decide (¬iO p),λ_ t=>fI p.es (λe=>[e.router]) t.1 t.2∧∃k:Nat,t.1=k∧∀j e,j<k→p.es[j]?=some e→N2 p.es j e,λ_ t=>p.es.length-t.1.toNat,λ_ t x b=>b=true↔¬N2 p.es t.1.toNat x,?_⟩
 simp only[Ab,okU,Blk.ok,az,List.length_map]at ok
 dsimp only[rL,og,Aa,Ax.vp,Ax.vc];simp only[vcU,rfU,List.length_map]
 have hes:p.es=[]↔¬0<(p.es.length:Int):=by rw[←List.length_eq_zero_iff];omega
 refine⟨⟨λc=>?_,λc=>⟨λd=>⟨λe=>?_,λe=>⟨λg=>?_,λg=>?_⟩⟩,λd=>?_⟩⟩,?_⟩
 ·have c:¬(0≤p.sub∧p.sub≤7):=gB.mp c
  exact(decide_eq_true (show ¬iO p from λq=>c q.1)).symm
 ·have d:aJ p.len=false:=by simpa using d
  have e:p.len≠0:=by simpa using e
  exact(decide_eq_true (show ¬iO p from λq=>by
   rcases q.2.1 with r|r
   ·rw[d]at r;cases r
   ·exact e r.1)).symm
 ·have d:aJ p.len=false:=by simpa using d
  exact(decide_eq_true (show ¬iO p from λq=>by
   rcases q.2.1 with r|r
   ·rw[d]at r;cases r
   ·exact hes.mp r.2 g)).symm
 ·have c:0≤p.sub∧p.sub≤7:=fh.mp c
  have e:p.len=0:=by simpa using e
  rw[decide_eq_decide]
  unfold iO
  rw[and_iff_right c,and_iff_right (.inr ⟨e,hes.mpr g⟩)]
  omega
 ·have c:0≤p.sub∧p.sub≤7:=fh.mp c
  have d:aJ p.len=true:=by simpa using d
  rw[decide_eq_decide]
  unfold iO
  rw[and_iff_right c,and_iff_right (.inl d)]
  omega
 rintro _ rfl
 refine⟨λc=>?_,λc=>⟨⟨fI.zero,0,rfl,λj e h=>by omega⟩,?_⟩⟩
 ·rw[bd,decide_eq_false (of_decide_eq_true c)];rfl
 have c:=Classical.not_not.mp (of_decide_eq_false c)
 have hl:=c.2.2
 rintro⟨i,out⟩ ⟨hx0,k,hi,h⟩
 simp only at hi hx0 ⊢
 have hlen:=hx0.len (b:=1) (by simp)
 have h0:=hx0.idx
 refine⟨λd=>⟨h0,d,λx hx=>⟨?_,?_⟩⟩,λd=>?_⟩
 ·refine⟨λe1=>?_,λe1=>⟨λe2=>?_,λe2=>⟨λe4=>?_,λe4=>?_⟩⟩⟩
  ·have e1:¬(1≤x.id∧x.id≤256):=gB.mp e1
   exact iff_of_true trivial λq=>e1 q.1.1
  ·have e2:¬(1≤x.router∧x.router≤99):=gB.mp e2
   exact iff_of_true trivial λq=>e2 q.1.2
  ·have e1:1≤x.id∧x.id≤256:=fh.mp e1
   have e2:1≤x.router∧x.router≤99:=fh.mp e2
   subst hi
   rw[ix (by omega) (by omega)]
   refine⟨by omega,by omega,λy hy=>?_⟩
   rw[Int.toNat_natCast]at hy
   simp only[Int.toNat_natCast,decide_eq_true_eq]
   constructor
   ·exact λq r=>by have:=r.2 y (by omega) hy;omega
   ·intro q
    refine Classical.byContradiction λr=>q ⟨⟨e1,e2⟩,λy' _ hy'=>?_⟩
    rw[hy]at hy';cases hy';omega
  ·have e1:1≤x.id∧x.id≤256:=fh.mp e1
   have e2:1≤x.router∧x.router≤99:=fh.mp e2
   exact iff_of_false Bool.false_ne_true λq=>q ⟨⟨e1,e2⟩,λy' h0 _=>by omega⟩
 ·intro b hb
  refine⟨λe=>?_,λe=>?_⟩
  ·have:¬oV p.es:=λq=>hb.mp e ((nv.mp q).1 i.toNat x hx)
   rw[bd,decide_eq_false this,Bool.and_false]
  ·have hg:N2 p.es i.toNat x:=Classical.not_not.mp λq=>by rw[hb.mpr q]at e;cases e
   obtain⟨a1,a2⟩:=hx0.step (out':=out++[x.router]) (by omega) hx rfl
   refine⟨by omega,⟨a1,k+1,?_,λj y hj hy=>?_⟩,a2⟩
   ·rw[cn (by omega)];omega
   ·by_cases e':j=k
    ·subst e';subst hi
     rw[Int.toNat_natCast]at hx hg
     rw[hx]at hy;cases hy;exact hg
    ·exact h j y (by omega) hy
 ·have hd:=hx0.done d
  rw[tJ]at hd
  have:oV p.es↔(p.es.map Edg.router).Nodup:=by
   rw[nv]
   exact⟨λq=>q.2,λq=>⟨λj e he=>h j e (by have:=ap he;omega) he,q⟩⟩
  refine⟨kw (ab (λ_=>rfl) _),?_⟩
  rw[bd,decide_eq_true c,decide_eq_decide.mpr this,hd,repR,Bool.not_not];rfl
def oi(p:Pln):PC Tryz.prog:=⟨26,[(.a [.k,.k,(.s 2)])],[.agg [.int p.sub,.int p.len,.sl 2 (p.es.map Edg.v) false]],oh (bd p),ao.of_ok λok=>(Kr p ok).elim λI0 h=>h.elim λI1 h=>h.elim λm1 h=>h.elim λI2 h=>aj (sh:=.k) (enc:=oh) (a:=(og p I0 I1 m1 I2).an) h (by kernel_rfl) (AV.pureB_ok rfl),ah (by kernel_rfl)⟩
def bf(p:Pln)(id:Int):Edg×Bool:=match p.es.find? λe=>e.id==id with
 | some e=>(e,true)
 | none=>(⟨0,0⟩,false)
def Iz(p:Pln)(id:Int):=okL [.agg [.int p.sub,.int p.len,.sl 2 (p.es.map Edg.v) false],.int id]
def N4(p:Pln)(id:Int)(t0:Int):NF:=⟨[(1,.k,.int id),(2,.k,.ref 0 0),(4,.k,.ref 1 0),(6,.k,.int t0)],[.box (.agg [.int p.sub,.int p.len,.sl 2 (p.es.map Edg.v) false]),.box (.agg [.int 0,.int 0])]⟩
@[reducible] def Iy:Nat→Type
 | 0=>Int
 | _=>Unit
def yq(r:Edg×Bool):AV:=.tup [Edg.v r.1,.bool r.2]
def yp(p:Pln)(id:Int)(I0:Int→Prop)(m0:Int→Nat):Ax Tryz.prog Iy (Edg×Bool):=
 (.loop 0 (N4 p id) I0 m0 ((0):Int) [0,16] λ(t0:Int) b0 =>
(.br 82 (decide (t0<((p.es.map Edg.v).length:Int))) (.el 130 Edg.v p.es (λR=>Rf (p.es.map Edg.v) (ck (decide (0≤t0)) (ck (decide (t0<(p.es.length:Int)))
(∀x1,p.es[t0.toNat]?=some x1 →
(R x1))))) λx1 =>
(.br 210 (x1.id==id) (.el 258 Edg.v p.es (λR=>Rf (p.es.map Edg.v) (ck (decide (0≤t0)) (ck (decide (t0<(p.es.length:Int)))
(∀x2,p.es[t0.toNat]?=some x2 →
(R x2))))) λx2 =>
(.ret (x2,true)))
(.bk 0 b0 ((W (t0+1)):Int) [0,1])))
(.ret ((⟨0,0⟩:Edg),false))))
def C0(p:Pln)(id:Int)(I0:Int→Prop)(m0:Int→Nat)(r0:Edg×Bool):=(yp p id I0 m0).vp yq r0
theorem TH(p:Pln)(r:Int)(ok:Iz p r):∃I m,C0 p r I m (bf p r):=by
 refine⟨λt=>aG p.es (λe=>(e.id==r)=false) t,λt=>p.es.length-t.toNat,?_⟩
 simp only[Iz,okU,Blk.ok,az,List.length_map]at ok
 dsimp only[C0,yp,Iy,Ax.vp,Ax.vc];simp only[vcU,rfU,List.length_map]
 refine⟨aG.zero,λt h=>⟨λc=>⟨h.idx,c,λx hx=>⟨λq=>?_,λq=>h.step (by omega) hx q⟩⟩,λc=>?_⟩⟩
 ·refine⟨h.idx,c,λy hy=>?_⟩
  rw[hx]at hy;cases hy
  rw[bf,h.find (p:=λe=>e.id==r) hx q]
 ·rw[bf,h.nofind (p:=λe=>e.id==r) c]
def TI(p:Pln)(id:Int):PC Tryz.prog:=⟨165,[(.a [.k,.k,(.s 2)]),.k],[.agg [.int p.sub,.int p.len,.sl 2 (p.es.map Edg.v) false],.int id],yq (bf p id),ao.of_ok λok=>(TH p id ok).elim λI0 h=>h.elim λm0 h=>aj (sh:=.k) (enc:=yq) (a:=(yp p id I0 m0).an) h (by kernel_rfl) (AV.pureB_ok rfl),ah (by kernel_rfl)⟩
def Ix(p:Pln)(id:Int):=okL [.agg [.int p.sub,.int p.len,.sl 2 (p.es.map Edg.v) false],.int id]
def N1(p:Pln)(id:Int)(t0:Int):NF:=⟨[(1,.k,.int id),(9,.k,.sl 2 (p.es.map Edg.v) false),(10,.k,.int ((p.es.map Edg.v).length:Int)),(11,.k,.int t0)],[]⟩
@[reducible] def Iw:Nat→Type
 | 0=>Int
 | _=>Unit
def yo(r:Int×Bool):AV:=.tup [.int r.1,.bool r.2]
def yn(p:Pln)(id:Int)(I0:Int→Prop)(m0:Int→Nat):Ax Tryz.prog Iw (Int×Bool):=
 (.loop 0 (N1 p id) I0 m0 ((0):Int) [] λ(t0:Int) b0 =>
(.br 16 (decide (t0<((p.es.map Edg.v).length:Int))) (.el 16 Edg.v p.es (λR=>Rf (p.es.map Edg.v) (ck (decide (0≤t0)) (ck (decide (t0<(p.es.length:Int)))
(∀x1,p.es[t0.toNat]?=some x1 →
(R x1))))) λx1 =>
(.br 144 (x1.id==id) (.ret (x1.router,true))
(.bk 0 b0 ((W (t0+1)):Int) [])))
(.ret (0,false))))
def Cz(p:Pln)(id:Int)(I0:Int→Prop)(m0:Int→Nat)(r0:Int×Bool):=(yn p id I0 m0).vp yo r0
theorem TF(p:Pln)(r:Int)(ok:Ix p r):∃I m,Cz p r I m ((bf p r).1.router,(bf p r).2):=by
 refine⟨λt=>aG p.es (λe=>(e.id==r)=false) t,λt=>p.es.length-t.toNat,?_⟩
 simp only[Ix,okU,Blk.ok,az,List.length_map]at ok
 dsimp only[Cz,yn,Iw,Ax.vp,Ax.vc];simp only[vcU,rfU,List.length_map]
 refine⟨aG.zero,λt h=>⟨λc=>⟨h.idx,c,λx hx=>⟨λq=>?_,λq=>h.step (by omega) hx q⟩⟩,λc=>?_⟩⟩
 ·rw[bf,h.find (p:=λe=>e.id==r) hx q]
 ·rw[bf,h.nofind (p:=λe=>e.id==r) c]
def TG(p:Pln)(id:Int):PC Tryz.prog:=⟨84,[(.a [.k,.k,(.s 2)]),.k],[.agg [.int p.sub,.int p.len,.sl 2 (p.es.map Edg.v) false],.int id],yo ((bf p id).1.router,(bf p id).2),ao.of_ok λok=>(TF p id ok).elim λI0 h=>h.elim λm0 h=>aj (sh:=.k) (enc:=yo) (a:=(yn p id I0 m0).an) h (by kernel_rfl) (AV.pureB_ok rfl),ah (by kernel_rfl)⟩
def dtC(t:Tpl)(n e x:Int):Bool:=x==e || ni t x e n
def dtA(t:Tpl)(r n e:Int):List Int:=bz (bI t ⟨[],[n]⟩) r e
def dtB(t:Tpl)(r n:Int):List Int:=bz (bI t ⟨[⟨r,n⟩],[]⟩) r n
def dtl(t:Tpl)(r n e:Int):List Int:=if e≠n∧(dtA t r n e).any (dtC t n e)=true then(dtA t r n e).take ((ci (dtC t n e) (dtA t r n e)).toNat+1)else dtB t r n
theorem nP{t:Tpl}{r n e i x:Int}(hne:e≠n)(h:aG (dtA t r n e) (λx=>dtC t n e x=false) i)(hx:(dtA t r n e)[i.toNat]?=some x)(hp:dtC t n e x=true) :
  dD (dtA t r n e).length 0 (W (i+1)) ((dtA t r n e).length:Int)=true∧(dtA t r n e).take (W (i+1)).toNat=dtl t r n e∧0<(dtl t r n e).length:=by
 have e1:=h.found hx hp
 have ha:(dtA t r n e).any (dtC t n e)=true:=List.any_eq_true.mpr ⟨x,bq hx,hp⟩
 have hl:(dtA t r n e).length≤25:=hU _ _ _
 have h0:=h.idx
 have hlt:=ap hx
 have hw:W (i+1)=i+1:=cn (by omega)
 unfold dtl
 rw[if_pos ⟨hne,ha⟩,←e1,hw,show(i+1).toNat=i.toNat+1 by omega]
 refine⟨?_,rfl,by rw[List.length_take];omega⟩
 simp[dD];omega
theorem tT{t:Tpl}{r n e i:Int}(h:aG (dtA t r n e) (λx=>dtC t n e x=false) i)(c:¬i<(dtA t r n e).length):dtl t r n e=dtB t r n:=by
 unfold dtl
 rw[if_neg]
 rintro⟨_,q⟩
 obtain⟨x,hx,e⟩:=List.any_eq_true.mp q
 rw[h.done c x hx]at e;cases e
def TQ(t:Tpl)(router:Int)(neighbour:Int)(e:Int):=okL [.agg [.sl 2 (t.rs.map Rtr.v) false,.sl 5 (t.ls.map Lnk.v) false],.int router,.int neighbour,.int e]
def NC(t:Tpl)(router:Int)(neighbour:Int)(e:Int)(t0:Int):NF:=⟨[(1,.k,.int router),(2,.k,.int neighbour),(3,.k,.int e),(4,.k,.ref 0 0),(9,.k,.sl 1 ((bz (bI t (⟨[],[neighbour]⟩:Flr)) router e).map AV.int) false),(23,.k,.sl 1 ((bz (bI t (⟨[],[neighbour]⟩:Flr)) router e).map AV.int) false),(24,.k,.int (((bz (bI t (⟨[],[neighbour]⟩:Flr)) router e).map AV.int).length:Int)),(25,.k,.int t0)],[.box (.agg [.sl 2 (t.rs.map Rtr.v) false,.sl 5 (t.ls.map Lnk.v) false])]⟩
def NB(t:Tpl)(router:Int)(neighbour:Int)(e:Int)(t0:Int)(t1:Bool):NF:=⟨[(1,.k,.int router),(2,.k,.int neighbour),(3,.k,.int e),(4,.k,.ref 0 0),(9,.k,.sl 1 ((bz (bI t (⟨[],[neighbour]⟩:Flr)) router e).map AV.int) false),(10,.k,.int t0),(23,.k,.sl 1 ((bz (bI t (⟨[],[neighbour]⟩:Flr)) router e).map AV.int) false),(24,.k,.int (((bz (bI t (⟨[],[neighbour]⟩:Flr)) router e).map AV.int).length:Int)),(25,.k,.int t0),(39,.k,.bool t1)],[.box (.agg [.sl 2 (t.rs.map Rtr.v) false,.sl 5 (t.ls.map Lnk.v) false])]⟩
@[reducible] def IC:Nat→Type
 | 0=>Int
 | 1=>Bool
 | _=>Unit
def y9(r:List Int):AV:=.sl 1 (r.map AV.int) false
def y0(t:Tpl)(router:Int)(neighbour:Int)(e:Int)(I0:Int→Prop)(m0:Int→Nat)(I1:Int→Int→Bool→Prop):Ax Tryz.prog IC ((List Int)):=
 (.br 80 (e != neighbour) (.callP (uP t (⟨[],[neighbour]⟩:Flr))
(.callP (vC (bI t (⟨[],[neighbour]⟩:Flr)) router e)
(.loop 0 (NC t router neighbour e) I0 m0 ((0):Int) [0] λ(t0:Int) b0 =>
(.br 17 (decide (t0<(((bz (bI t (⟨[],[neighbour]⟩:Flr)) router e).map AV.int).length:Int))) (.el 33 AV.int (bz (bI t (⟨[],[neighbour]⟩:Flr)) router e) (λR=>Rf ((bz (bI t (⟨[],[neighbour]⟩:Flr)) router e).map AV.int) (ck (decide (0≤t0)) (ck (decide (t0<((bz (bI t (⟨[],[neighbour]⟩:Flr)) router e).length:Int)))
(∀x1,(bz (bI t (⟨[],[neighbour]⟩:Flr)) router e)[t0.toNat]?=some x1 →
(R x1))))) λx1 =>
(.join 1 (NB t router neighbour e t0) (λ(t1:Bool)=>I1 t0 x1 t1) (λb1=>(.br 161 (x1==e) (.bk 1 b1 ((true):Bool) [0])
(.callP (UO t x1 e neighbour)
(.bk 1 b1 ((ni t x1 e neighbour):Bool) [0])))) λ(t1:Bool) =>
(.br 1 t1 (.say (λR=>Rf (α:=List AV) ((bz (bI t (⟨[],[neighbour]⟩:Flr)) router e).map AV.int) (ck (dD (bz (bI t (⟨[],[neighbour]⟩:Flr)) router e).length 0 (W (t0+1)) ((bz (bI t (⟨[],[neighbour]⟩:Flr)) router e).length:Int))
R)) (.sub 49 AV.int (bz (bI t (⟨[],[neighbour]⟩:Flr)) router e) false
(.ret (((bz (bI t (⟨[],[neighbour]⟩:Flr)) router e).take ((W (t0+1)).toNat)).drop 0))))
(.bk 0 b0 ((W (t0+1)):Int) [0]))))
(.callP (uP t (⟨[(⟨router,neighbour⟩:Hop)],[]⟩:Flr))
(.callP (vC (bI t (⟨[(⟨router,neighbour⟩:Hop)],[]⟩:Flr)) router neighbour)
(.ret (bz (bI t (⟨[(⟨router,neighbour⟩:Hop)],[]⟩:Flr)) router neighbour))))))))
(.callP (uP t (⟨[(⟨router,neighbour⟩:Hop)],[]⟩:Flr))
(.callP (vC (bI t (⟨[(⟨router,neighbour⟩:Hop)],[]⟩:Flr)) router neighbour)
(.ret (bz (bI t (⟨[(⟨router,neighbour⟩:Hop)],[]⟩:Flr)) router neighbour)))))
def C3(t:Tpl)(router:Int)(neighbour:Int)(e:Int)(I0:Int→Prop)(m0:Int→Nat)(I1:Int→Int→Bool→Prop)(r0:List Int):=(y0 t router neighbour e I0 m0 I1).vp y9 r0
theorem TO(t:Tpl)(r n e:Int)(h:aB t=0)(ok:TQ t r n e):∃I0 m0 I1,C3 t r n e I0 m0 I1 (dtl t r n e):=by
 refine⟨λi=>aG (dtA t r n e) (λx=>dtC t n e x=false) i,λi=>(dtA t r n e).length-i.toNat,λ_ x b=>b=dtC t n e x,?_⟩
 dsimp only[C3,y0,IC,Ax.vp,Ax.vc];simp only[vcU,rfU,List.length_map]
 refine⟨λc=>⟨aG.zero,λi hI=>⟨λd=>⟨hI.idx,d,λx hx=>⟨⟨λq=>by rw[dtC,q];rfl,λq=>by rw[dtC,q];rfl⟩,?_⟩⟩,λd=>(tT hI d).symm⟩⟩,λc=>?_⟩
 ·have c:e≠n:=by simpa using c
  rintro _ rfl
  refine⟨λq=>?_,λq=>?_⟩
  ·obtain⟨a1,a2,_⟩:=nP c hI hx q
   exact⟨a1,by rw[List.drop_zero];exact a2⟩
  ·have hl:(dtA t r n e).length≤25:=hU _ _ _
   exact hI.step (by omega) hx q
 ·have c:e=n:=by simpa using c
  unfold dtl;rw[if_neg (λq=>q.1 c)];rfl
def TP(t:Tpl)(router:Int)(neighbour:Int)(e:Int)(h:aB t=0):PC Tryz.prog:=⟨85,[(.a [(.s 2),(.s 5)]),.k,.k,.k],[.agg [.sl 2 (t.rs.map Rtr.v) false,.sl 5 (t.ls.map Lnk.v) false],.int router,.int neighbour,.int e],y9 (dtl t router neighbour e),ao.of_ok λok=>(TO t router neighbour e h ok).elim λI0 h=>h.elim λm0 h=>h.elim λI1 h=>aj (sh:=(.s 1)) (enc:=y9) (a:=(y0 t router neighbour e I0 m0 I1).an) h (by kernel_rfl) (AV.pureB_ok rfl),ah (by kernel_rfl)⟩
def kK(t:Tpl)(p:Pln)(r n id:Int):Bool:=decide (aB t≠0) || (!bd p || (!kM t || (!(qS t r n).2 || (!(bf p id).2 || (bf p id).1.router==r))))
def cQ(t:Tpl)(p:Pln)(r n id:Int):List Int×Bool:=
 if kK t p r n id=true then([],false)else(dtl t r n (bf p id).1.router,decide (0<(dtl t r n (bf p id).1.router).length))
def TN(t:Tpl)(p:Pln)(router:Int)(neighbour:Int)(id:Int):=okL [.agg [.sl 2 (t.rs.map Rtr.v) false,.sl 5 (t.ls.map Lnk.v) false],.agg [.int p.sub,.int p.len,.sl 2 (p.es.map Edg.v) false],.int router,.int neighbour,.int id]
def NA(t:Tpl)(p:Pln)(router:Int)(neighbour:Int)(id:Int)(t0:Bool):NF:=⟨[(2,.k,.int router),(3,.k,.int neighbour),(5,.k,.ref 0 0),(14,.k,.int ((bf p id).1.router)),(55,.k,.bool t0)],[.box (.agg [.sl 2 (t.rs.map Rtr.v) false,.sl 5 (t.ls.map Lnk.v) false])]⟩
@[reducible] def IB:Nat→Type
 | 0=>Bool
 | _=>Unit
def yx(r:List Int×Bool):AV:=.tup [.sl 1 (r.1.map AV.int) false,.bool r.2]
def yw(t:Tpl)(p:Pln)(router:Int)(neighbour:Int)(id:Int)(I0:Bool→Prop):Ax Tryz.prog IB (List Int×Bool):=
 (.callP (Uj t router neighbour)
(.callP (TG p id)
(.pass (.join 0 (NA t p router neighbour id) (λ(t0:Bool)=>I0 t0) (λb0=>(.callP (rh t)
(.br 400 ((aB t) != 0) (.bk 0 b0 ((true):Bool) [0])
(.callP (Ad p)
(.br 480 (!(bd p)) (.bk 0 b0 ((true):Bool) [0])
(.callP (Ju t)
(.br 560 (!(kM t)) (.bk 0 b0 ((true):Bool) [0])
(.br 624 (!((qS t router neighbour).2)) (.bk 0 b0 ((true):Bool) [0])
(.br 688 (!((bf p id).2)) (.bk 0 b0 ((true):Bool) [0])
(.bk 0 b0 ((((bf p id).1.router)==router):Bool) [0])))))))))) λ(t0:Bool) =>
(.br 1 t0 (.ret ([],false))
(.req 65 (aB t=0) λh1 =>
(.callP (TP t router neighbour ((bf p id).1.router) h1)
(.ret (dtl t router neighbour ((bf p id).1.router),decide (0<(((dtl t router neighbour ((bf p id).1.router)).map AV.int).length:Int)))))))))))
def C2(t:Tpl)(p:Pln)(router:Int)(neighbour:Int)(id:Int)(I0:Bool→Prop)(r0:List Int×Bool):=(yw t p router neighbour id I0).vp yx r0
theorem TM(t:Tpl)(p:Pln)(r n id:Int)(ok:TN t p r n id):∃I0,C2 t p r n id I0 (cQ t p r n id):=by
 refine⟨λb=>b=kK t p r n id,?_⟩
 dsimp only[C2,yw,IB,Ax.vp,Ax.vc];simp only[vcU,rfU,List.length_map]
 refine⟨⟨λc=>by unfold kK;simp at c;simp[c],λc=>⟨λd=>by unfold kK;simp at d;simp[d],λd=>⟨λe=>by unfold kK;simp at e;simp[e],λe=>⟨λf=>by unfold kK;simp at f;simp[f],λf=>⟨λg=>by unfold kK;simp at g;simp[g],λg=>?_⟩⟩⟩⟩⟩,?_⟩
 ·unfold kK;simp at c d e f g;simp[c,d,e,f,g]
 rintro _ rfl
 refine⟨λc=>by rw[cQ,if_pos c],λc=>⟨?_,by rw[cQ,if_neg (by rw[c];simp)];simp⟩⟩
 unfold kK at c
 simp at c;exact c.1
def yz(t:Tpl)(p:Pln)(router:Int)(neighbour:Int)(id:Int):PC Tryz.prog:=⟨28,[(.a [(.s 2),(.s 5)]),(.a [.k,.k,(.s 2)]),.k,.k,.k],[.agg [.sl 2 (t.rs.map Rtr.v) false,.sl 5 (t.ls.map Lnk.v) false],.agg [.int p.sub,.int p.len,.sl 2 (p.es.map Edg.v) false],.int router,.int neighbour,.int id],yx (cQ t p router neighbour id),ao.of_ok λok=>(TM t p router neighbour id ok).elim λI0 h=>aj (sh:=(.a [(.s 1),.k])) (enc:=yx) (a:=(yw t p router neighbour id I0).an) h (by kernel_rfl) (AV.pureB_ok rfl),ah (by kernel_rfl)⟩
def TL(t:Tpl)(p:Pln)(router:Int)(neighbour:Int)(id:Int):=okL [.agg [.sl 2 (t.rs.map Rtr.v) false,.sl 5 (t.ls.map Lnk.v) false],.agg [.int p.sub,.int p.len,.sl 2 (p.es.map Edg.v) false],.int router,.int neighbour,.int id]
def N9(t:Tpl)(p:Pln)(router:Int)(neighbour:Int)(id:Int)(t0:Bool):NF:=⟨[(2,.k,.int router),(3,.k,.int neighbour),(4,.k,.int id),(5,.k,.ref 0 0),(6,.k,.ref 1 0),(31,.k,.bool t0)],[.box (.agg [.sl 2 (t.rs.map Rtr.v) false,.sl 5 (t.ls.map Lnk.v) false]),.box (.agg [.int p.sub,.int p.len,.sl 2 (p.es.map Edg.v) false])]⟩
def N8(t:Tpl)(p:Pln)(router:Int)(neighbour:Int)(id:Int)(t1:Bool):NF:=⟨[(2,.k,.int router),(3,.k,.int neighbour),(5,.k,.ref 0 0),(14,.k,.ref 1 0),(56,.k,.bool t1)],[.box (.agg [.sl 2 (t.rs.map Rtr.v) false,.sl 5 (t.ls.map Lnk.v) false]),.box (.agg [.int (((bf p id).1).router),.int (((bf p id).1).id)])]⟩
def N7(t:Tpl)(p:Pln)(router:Int)(neighbour:Int)(id:Int)(t2:Int):NF:=⟨[(2,.k,.int router),(3,.k,.int neighbour),(5,.k,.ref 0 0),(14,.k,.ref 1 0),(16,.k,.sl 1 ((bz (bI t (⟨[],[neighbour]⟩:Flr)) router (((bf p id).1).router)).map AV.int) false),(17,.k,.int t2)],[.box (.agg [.sl 2 (t.rs.map Rtr.v) false,.sl 5 (t.ls.map Lnk.v) false]),.box (.agg [.int (((bf p id).1).router),.int (((bf p id).1).id)])]⟩
def N6(t:Tpl)(p:Pln)(router:Int)(neighbour:Int)(id:Int)(t2:Int)(t3:Bool):NF:=⟨[(2,.k,.int router),(3,.k,.int neighbour),(5,.k,.ref 0 0),(14,.k,.ref 1 0),(16,.k,.sl 1 ((bz (bI t (⟨[],[neighbour]⟩:Flr)) router (((bf p id).1).router)).map AV.int) false),(17,.k,.int t2),(93,.k,.bool t3)],[.box (.agg [.sl 2 (t.rs.map Rtr.v) false,.sl 5 (t.ls.map Lnk.v) false]),.box (.agg [.int (((bf p id).1).router),.int (((bf p id).1).id)])]⟩
@[reducible] def IA:Nat→Type
 | 0=>Bool
 | 1=>Bool
 | 2=>Int
 | 3=>Bool
 | _=>Unit
def yu(r:List Int×Bool):AV:=.tup [.sl 1 (r.1.map AV.int) false,.bool r.2]
def yr(t:Tpl)(p:Pln)(router:Int)(neighbour:Int)(id:Int)(I0:Bool→Prop)(I1:Bool→Bool→Prop)(I2:Bool→Bool→Int→Prop)(m2:Bool→Bool→Int→Nat)(I3:Bool→Bool→Int→Bool→Prop):Ax Tryz.prog IA (List Int×Bool):=
 (.pass (.pass (.join 0 (N9 t p router neighbour id) (λ(t0:Bool)=>I0 t0) (λb0=>(.callP (kg t)
(.br 128 ((aB t) != 0) (.bk 0 b0 ((true):Bool) [0,16])
(.callP (oi p)
(.br 208 (!(bd p)) (.bk 0 b0 ((true):Bool) [0,16])
(.callP (Js t)
(.bk 0 b0 ((!(kM t)):Bool) [0,16]))))))) λ(t0:Bool) =>
(.br 2 t0 (.ret ([],false))
(.callP (vS t router neighbour)
(.callP (TI p id)
(.pass (.join 1 (N8 t p router neighbour id) (λ(t1:Bool)=>I1 t0 t1) (λb1=>(.br 338 (!((cM t router neighbour).2)) (.bk 1 b1 ((true):Bool) [0,242])
(.br 402 (!((bf p id).2)) (.bk 1 b1 ((true):Bool) [0,242])
(.bk 1 b1 ((((bf p id).1).router==router):Bool) [0,242])))) λ(t1:Bool) =>
(.br 2 t1 (.ret ([],false))
(.br 66 (((bf p id).1).router != neighbour) (.callP (uM t (⟨[],[neighbour]⟩:Flr))
(.callP (vF (bI t (⟨[],[neighbour]⟩:Flr)) router (((bf p id).1).router))
(.loop 2 (N7 t p router neighbour id) (I2 t0 t1) (m2 t0 t1) ((0):Int) [0,1] λ(t2:Int) b2 =>
(.br 66 (decide (t2<(((bz (bI t (⟨[],[neighbour]⟩:Flr)) router (((bf p id).1).router)).map AV.int).length:Int))) (.pass (.join 3 (N6 t p router neighbour id t2) (λ(t3:Bool)=>I3 t0 t1 t2 t3) (λb3=>(.el 98 AV.int (bz (bI t (⟨[],[neighbour]⟩:Flr)) router (((bf p id).1).router)) (λR=>Rf ((bz (bI t (⟨[],[neighbour]⟩:Flr)) router (((bf p id).1).router)).map AV.int) (ck (decide (0≤t2)) (ck (decide (t2<((bz (bI t (⟨[],[neighbour]⟩:Flr)) router (((bf p id).1).router)).length:Int)))
(∀x1,(bz (bI t (⟨[],[neighbour]⟩:Flr)) router (((bf p id).1).router))[t2.toNat]?=some x1 →
(R x1))))) λx1 =>
(.br 194 (x1==((bf p id).1).router) (.bk 3 b3 ((true):Bool) [0,1])
(.el 242 AV.int (bz (bI t (⟨[],[neighbour]⟩:Flr)) router (((bf p id).1).router)) (λR=>Rf ((bz (bI t (⟨[],[neighbour]⟩:Flr)) router (((bf p id).1).router)).map AV.int) (ck (decide (0≤t2)) (ck (decide (t2<((bz (bI t (⟨[],[neighbour]⟩:Flr)) router (((bf p id).1).router)).length:Int)))
(∀x2,(bz (bI t (⟨[],[neighbour]⟩:Flr)) router (((bf p id).1).router))[t2.toNat]?=some x2 →
(R x2))))) λx2 =>
(.callP (UR t x2 (((bf p id).1).router) neighbour)
(.bk 3 b3 ((ni t x2 (((bf p id).1).router) neighbour):Bool) [0,1])))))) λ(t3:Bool) =>
(.br 2 t3 (.say (λR=>Rf (α:=List AV) ((bz (bI t (⟨[],[neighbour]⟩:Flr)) router (((bf p id).1).router)).map AV.int) (ck (dD (bz (bI t (⟨[],[neighbour]⟩:Flr)) router (((bf p id).1).router)).length 0 (W (t2+1)) ((bz (bI t (⟨[],[neighbour]⟩:Flr)) router (((bf p id).1).router)).length:Int))
R)) (.sub 50 AV.int (bz (bI t (⟨[],[neighbour]⟩:Flr)) router (((bf p id).1).router)) false
(.ret (((bz (bI t (⟨[],[neighbour]⟩:Flr)) router (((bf p id).1).router)).take ((W (t2+1)).toNat)).drop 0,true))))
(.bk 2 b2 ((W (t2+1)):Int) [0,1]))))
(.callP (uM t (⟨[(⟨router,neighbour⟩:Hop)],[]⟩:Flr))
(.callP (vF (bI t (⟨[(⟨router,neighbour⟩:Hop)],[]⟩:Flr)) router neighbour)
(.ret (bz (bI t (⟨[(⟨router,neighbour⟩:Hop)],[]⟩:Flr)) router neighbour,decide (0<(((bz (bI t (⟨[(⟨router,neighbour⟩:Hop)],[]⟩:Flr)) router neighbour).map AV.int).length:Int))))))))))
(.callP (uM t (⟨[(⟨router,neighbour⟩:Hop)],[]⟩:Flr))
(.callP (vF (bI t (⟨[(⟨router,neighbour⟩:Hop)],[]⟩:Flr)) router neighbour)
(.ret (bz (bI t (⟨[(⟨router,neighbour⟩:Hop)],[]⟩:Flr)) router neighbour,decide (0<(((bz (bI t (⟨[(⟨router,neighbour⟩:Hop)],[]⟩:Flr)) router neighbour).map AV.int).length:Int))))))))))))))))
def C1(t:Tpl)(p:Pln)(router:Int)(neighbour:Int)(id:Int)(I0:Bool→Prop)(I1:Bool→Bool→Prop)(I2:Bool→Bool→Int→Prop)(m2:Bool→Bool→Int→Nat)(I3:Bool→Bool→Int→Bool→Prop)(r0:List Int×Bool):=(yr t p router neighbour id I0 I1 I2 m2 I3).vp yu r0
theorem TJ(t:Tpl)(p:Pln)(r n id:Int)(ok:TL t p r n id):∃I0 I1 I2 m2 I3,C1 t p r n id I0 I1 I2 m2 I3 (cQ t p r n id):=by
 refine⟨λb=>b=(decide (aB t≠0) || (!bd p || !kM t)),λ_ b=>b=(!(qS t r n).2 || (!(bf p id).2 || (bf p id).1.router==r)),λ_ _ i=>aG (dtA t r n (bf p id).1.router) (λx=>dtC t n (bf p id).1.router x=false) i,λ_ _ i=>(dtA t r n (bf p id).1.router).length-i.toNat,λ_ _ i b=>∀x,(dtA t r n (bf p id).1.router)[i.toNat]?=some x→b=dtC t n (bf p id).1.router x,?_⟩
 dsimp only[C1,yr,IA,Ax.vp,Ax.vc];simp only[vcU,rfU,List.length_map]
 refine⟨⟨λc=>by simp at c;simp[c],λc=>⟨λd=>by simp at d;simp[d],λd=>by simp at c d;simp[c,d]⟩⟩,?_⟩
 rintro _ rfl
 refine⟨λc=>?_,λc=>⟨⟨λd=>?_,λd=>⟨λe=>?_,λe=>?_⟩⟩,?_⟩⟩
 ·rw[cQ,if_pos]
  unfold kK
  simp at c ⊢
  rcases c with c|c|c<;>simp[c]
 all_goals
  have hc:aB t=0:=by simp at c;exact c.1
  have e0:qS t r n=cM t r n:=by unfold qS;rw[if_neg (by simpa using hc)]
 ·rw[e0];simp at d;simp[d]
 ·simp at e;simp[e]
 ·rw[e0];simp at d e;simp[d,e]
 rintro _ rfl
 have hB:kK t p r n id=(!(qS t r n).2 || (!(bf p id).2 || (bf p id).1.router==r)):=by
  unfold kK;simp at c;simp[c]
 refine⟨λd=>by rw[cQ,hB,if_pos d],λd=>?_⟩
 have hT:cQ t p r n id=(dtl t r n (bf p id).1.router,decide (0<(dtl t r n (bf p id).1.router).length)):=by rw[cQ,hB,if_neg (by rw[d];simp)]
 rw[hT]
 generalize (bf p id).1.router=e
 have hB2:(dtB t r n,decide (0<((dtB t r n).length:Int)))=(dtB t r n,decide (0<(dtB t r n).length)):=by
  exact Prod.ext rfl (decide_eq_decide.mpr (by show(0:Int)<((dtB t r n).length:Int)↔0<(dtB t r n).length;omega))
 refine⟨λc=>⟨aG.zero,λi hI=>⟨λf=>⟨⟨hI.idx,f,λx hx=>⟨λq y hy=>?_,λq=>⟨hI.idx,f,λy hy z hz=>?_⟩⟩⟩,λb hb=>?_⟩,λf=>?_⟩⟩,λc=>?_⟩
 ·change (dtA t r n e)[i.toNat]?=some x at hx
  rw[hx]at hy;cases hy;rw[dtC,q];rfl
 ·change (dtA t r n e)[i.toNat]?=some x at hx
  change (dtA t r n e)[i.toNat]?=some y at hy
  rw[hx]at hy hz;cases hy;cases hz;rw[dtC,q];rfl
 ·have c:e≠n:=by simpa using c
  have f:LT.lt (α:=Int) i ((dtA t r n e).length:Int):=f
  have hx:=List.getElem?_eq_getElem (show i.toNat<(dtA t r n e).length by have:=hI.idx;omega)
  have hb:=hb _ hx
  subst hb
  refine⟨λq=>?_,λq=>?_⟩
  ·obtain⟨a1,a2,a3⟩:=nP c hI hx q
   refine⟨a1,?_⟩
   rw[List.drop_zero,decide_eq_true a3,←a2];rfl
  ·have hl:(dtA t r n e).length≤25:=hU _ _ _
   exact hI.step (by omega) hx q
 ·rw[tT hI f];exact hB2
 ·have c:e=n:=by simpa using c
  have:dtl t r n e=dtB t r n:=by unfold dtl;rw[if_neg (λq=>q.1 c)]
  rw[this];exact hB2
def TK(t:Tpl)(p:Pln)(router:Int)(neighbour:Int)(id:Int):PC Tryz.prog:=⟨116,[(.a [(.s 2),(.s 5)]),(.a [.k,.k,(.s 2)]),.k,.k,.k],[.agg [.sl 2 (t.rs.map Rtr.v) false,.sl 5 (t.ls.map Lnk.v) false],.agg [.int p.sub,.int p.len,.sl 2 (p.es.map Edg.v) false],.int router,.int neighbour,.int id],yu (cQ t p router neighbour id),ao.of_ok λok=>(TJ t p router neighbour id ok).elim λI0 h=>h.elim λI1 h=>h.elim λI2 h=>h.elim λm2 h=>h.elim λI3 h=>aj (sh:=(.a [(.s 1),.k])) (enc:=yu) (a:=(yr t p router neighbour id I0 I1 I2 m2 I3).an) h (by kernel_rfl) (AV.pureB_ok rfl),ah (by kernel_rfl)⟩
def IS(x:Int)(n:Int):=okL [.int x,.int n]
def yM(r:Int):AV:=.int r
def yL(x:Int)(n:Int):Ax Tryz.prog noS (Int):=
 (.br 48 (decide (n<1)) (.ret (0))
(.say (ck (!(n==0))) (.br 144 (decide ((x.tmod n)<0)) (.ret (W ((x.tmod n)+n)))
(.ret (x.tmod n)))))
def C9(x:Int)(n:Int)(r0:Int):=(yL x n).vp yM r0
theorem TW(x n:Int)(ok:IS x n):C9 x n (Mod x n):=by
 simp only[IS,okU,Blk.ok,az,List.length_map]at ok
 dsimp only[C9,yL,noS,Ax.vp,Ax.vc];simp only[vcU,rfU,List.length_map]
 refine⟨λh=>by rw[Mod,if_pos h],λh=>⟨by simp;omega,λh2=>?_,λh2=>by rw[Mod,if_neg h,if_neg h2]⟩⟩
 have hb:=Int.tmod_lt_of_pos x (show 0<n by omega)
 have hb':=Int.lt_tmod_of_pos x (show 0<n by omega)
 rw[Mod,if_neg h,if_pos h2,cn (by omega)]
def TX(x:Int)(n:Int):PC Tryz.prog:=⟨32,[.k,.k],[.int x,.int n],yM (Mod x n),ao.of_ok λok=>aj (sh:=.k) (enc:=yM) (a:=(yL x n).an) (TW x n ok) (by kernel_rfl) (AV.pureB_ok rfl),ah (by kernel_rfl)⟩
def FD(L:List Int)(p:Int):=okL [.ref 0 0]∧(.box (.agg [.sl 1 (L.map AV.int) false,.int p]):Blk).ok
def FC(r:zV×Int):AV:=.int r.2
def vO(r:zV×Int):List (Option Blk):=[some (.box (.agg [.sl 1 (r.1.L.map AV.int) false,.int r.1.p]))]
def vM(L:List Int)(p:Int):Ax Tryz.prog noS (zV×Int):=
 (.br 177 (decide (((L.map AV.int).length:Int)≤p)) (.retH ((⟨L,p⟩:zV),0) ⟨[(2,.k,.int 0)],[.box (.agg [.sl 1 (L.map AV.int) false,.int p])]⟩ [0])
(.el 449 AV.int L (λR=>Rf (L.map AV.int) (ck (decide (0≤(W ((W (p+1))-1)))) (ck (decide ((W ((W (p+1))-1))<(L.length:Int)))
(∀x1,L[(W ((W (p+1))-1)).toNat]?=some x1 →
(R x1))))) λx1 =>
(.retH ((⟨L,W (p+1)⟩:zV),x1) ⟨[(2,.k,.int x1)],[.box (.agg [.sl 1 (L.map AV.int) false,.int (W (p+1))])]⟩ [0])))
def oS(L:List Int)(p:Int)(r0:zV×Int):=(vM L p).vc FC vO r0
theorem Lq(L:List Int)(p:Int)(r0:zV×Int)(h:oS L p r0):bc Tryz.prog 33 [.ref 0 0] [.box (.agg [.sl 1 (L.map AV.int) false,.int p])] (FC r0) (vO r0):=cq (sh:=.k) (hB:=vO) (a:=(vM L p).an) h (by kernel_rfl)
theorem QQ(L:List Int)(p:Nat)(ok:FD L p):oS L p (⟨L,ae L p⟩,ak L p):=by
 simp only[FD,okU,Blk.ok,az,List.length_map]at ok
 dsimp only[oS,vM,noS,Ax.vp,Ax.vc];simp only[vcU,rfU,List.length_map]
 refine⟨λh=>?_,λh=>?_⟩
 ·rw[ae,if_pos (by omega)];simp[ak,List.getElem?_eq_none (show L.length≤p by omega)]
 ·have e1:W ((p:Int)+1)=p+1:=cn (by omega)
  have e2:W ((p:Int)+1-1)=p:=by rw[cn (by omega)];omega
  rw[e1,e2]
  refine⟨by omega,by omega,λx hx=>?_⟩
  rw[Int.toNat_natCast]at hx
  rw[ae,if_neg (by omega)];simp[ak,hx]
theorem Dx(L:List Int)(p:Nat):bc Tryz.prog 33 [.ref 0 0] [.box (Tap.v ⟨L,p⟩)] (.int (ak L p)) [some (.box (Tap.v ⟨L,ae L p⟩))]:=
 bc.of_okh λok ok2=>Lq L p _ (QQ L p ⟨ok,ok2 _ (List.mem_singleton.mpr rfl)⟩)
def vN(L:List Int)(p:Nat):HC Tryz.prog:=⟨33,[],[.ref 0 0],[.box (Tap.v ⟨L,p⟩)],.int (ak L p),[some (.box (Tap.v ⟨L,ae L p⟩))],Dx L p,ah (by kernel_rfl),eT.of rfl⟩
def Gz(L:List Int)(p:Nat)(n:Int):=okL [.ref 0 0,.int n]∧(.box (.agg [.sl 1 (L.map AV.int) false,.int p]):Blk).ok
def pC(r:Tap×Int):AV:=.int r.2
def pD(r:Tap×Int):List (Option Blk):=[some (.box (.agg [.sl 1 (r.1.L.map AV.int) false,.int r.1.p]))]
def wH(L:List Int)(p:Nat)(n:Int):Ax Tryz.prog noS (Tap×Int):=
 (.callH [0] (vN L p) 33
(.callP (TX (ak L p) n)
(.retH ((⟨L,ae L p⟩:Tap),Mod (ak L p) n) ⟨[(4,.k,.int (Mod (ak L p) n))],[.box (.agg [.sl 1 (L.map AV.int) false,.int (ae L p)])]⟩ [0])))
def Bt(L:List Int)(p:Nat)(n:Int)(r0:Tap×Int):=(wH L p n).vc pC pD r0
theorem RT(L:List Int)(p:Nat)(n:Int)(ok:Gz L p n):Bt L p n (⟨L,ae L p⟩,Mod (ak L p) n):=by
 dsimp only[Bt,wH,noS,Ax.vp,Ax.vc];simp only[vcU,rfU,List.length_map]
def bv(L:List Int)(p:Nat)(n:Int):HC Tryz.prog:=⟨11,[.k,.k],[.ref 0 0,.int n],[.box (.agg [.sl 1 (L.map AV.int) false,.int p])],pC ((⟨L,ae L p⟩,Mod (ak L p) n):Tap×Int),pD ((⟨L,ae L p⟩,Mod (ak L p) n):Tap×Int),bc.of_okh λok ok2=>have ok:Gz L p n:=⟨ok,ok2 _ (by simp)⟩;cq (sh:=.k) (enc:=pC) (hB:=pD) (a:=(wH L p n).an) (RT L p n ok) (by kernel_rfl),ah (by kernel_rfl),eT.of (by simp[hcB,cC,AV.belB,allB,ew,dH,pC,pD,ab (v:=AV.int) (λ_=>rfl)])⟩
def Fu(L:List Int)(p:Nat)(low:Int)(high:Int):=okL [.ref 0 0,.int low,.int high]∧(.box (.agg [.sl 1 (L.map AV.int) false,.int p]):Blk).ok
def oK(r:Tap×Int):AV:=.int r.2
def oM(r:Tap×Int):List (Option Blk):=[some (.box (.agg [.sl 1 (r.1.L.map AV.int) false,.int r.1.p]))]
def vG(L:List Int)(p:Nat)(low:Int)(high:Int):Ax Tryz.prog noS (Tap×Int):=
 (.callH [0] (bv L p (W ((W (high-low))+1))) 113
(.retH ((⟨L,ae L p⟩:Tap),W (low+(Mod (ak L p) (W ((W (high-low))+1))))) ⟨[(6,.k,.int (W (low+(Mod (ak L p) (W ((W (high-low))+1))))))],[.box (.agg [.sl 1 (L.map AV.int) false,.int (ae L p)])]⟩ [0]))
def AE(L:List Int)(p:Nat)(low:Int)(high:Int)(r0:Tap×Int):=(vG L p low high).vc oK oM r0
theorem QI(L:List Int)(p:Nat)(lo hi:Int)(ok:Fu L p lo hi):AE L p lo hi (⟨L,ae L p⟩,rng L p lo hi):=by
 dsimp only[AE,vG,noS,Ax.vp,Ax.vc];simp only[vcU,rfU,List.length_map]
 rfl
def iL(L:List Int)(p:Nat)(low:Int)(high:Int):HC Tryz.prog:=⟨72,[.k,.k,.k],[.ref 0 0,.int low,.int high],[.box (.agg [.sl 1 (L.map AV.int) false,.int p])],oK ((⟨L,ae L p⟩,rng L p low high):Tap×Int),oM ((⟨L,ae L p⟩,rng L p low high):Tap×Int),bc.of_okh λok ok2=>have ok:Fu L p low high:=⟨ok,ok2 _ (by simp)⟩;cq (sh:=.k) (enc:=oK) (hB:=oM) (a:=(vG L p low high).an) (QI L p low high ok) (by kernel_rfl),ah (by kernel_rfl),eT.of (by simp[hcB,cC,AV.belB,allB,ew,dH,oK,oM,ab (v:=AV.int) (λ_=>rfl)])⟩
def Gc(L:List Int)(p:Nat)(l:List Int):=okL [.ref 0 0,.sl 1 (l.map AV.int) false]∧(.box (.agg [.sl 1 (L.map AV.int) false,.int p]):Blk).ok
def pd(r:Tap×Int):AV:=.int r.2
def pe(r:Tap×Int):List (Option Blk):=[some (.box (.agg [.sl 1 (r.1.L.map AV.int) false,.int r.1.p]))]
def wl(L:List Int)(p:Nat)(l:List Int):Ax Tryz.prog noS (Tap×Int):=
 (.callH [0] (bv L p ((l.map AV.int).length:Int)) 81
(.el 97 AV.int l (λR=>Rf (l.map AV.int) (ck (decide (0≤(Mod (ak L p) ((l.map AV.int).length:Int)))) (ck (decide ((Mod (ak L p) ((l.map AV.int).length:Int))<(l.length:Int)))
(∀x1,l[(Mod (ak L p) ((l.map AV.int).length:Int)).toNat]?=some x1 →
(R x1))))) λx1 =>
(.retH ((⟨L,ae L p⟩:Tap),x1) ⟨[(4,.k,.int x1)],[.box (.agg [.sl 1 (L.map AV.int) false,.int (ae L p)])]⟩ [0])))
def AZ(L:List Int)(p:Nat)(l:List Int)(r0:Tap×Int):=(wl L p l).vc pd pe r0
theorem Rx(L:List Int)(p:Nat)(l:List Int)(hl:l≠[])(ok:Gc L p l):AZ L p l (⟨L,ae L p⟩,aI l (ak L p)):=by
 have hl:0<l.length:=List.length_pos_iff.mpr hl
 have hm:=dr (x:=ak L p) (show 1≤(l.length:Int) by omega)
 dsimp only[AZ,wl,noS,Ax.vp,Ax.vc];simp only[vcU,rfU,List.length_map]
 refine⟨by omega,by omega,λx hx=>?_⟩
 rw[aI,List.getD_eq_getElem?_getD,hx];rfl
def fb(L:List Int)(p:Nat)(l:List Int)(hl:l≠[]):HC Tryz.prog:=⟨53,[.k,(.s 1)],[.ref 0 0,.sl 1 (l.map AV.int) false],[.box (.agg [.sl 1 (L.map AV.int) false,.int p])],pd ((⟨L,ae L p⟩,aI l (ak L p)):Tap×Int),pe ((⟨L,ae L p⟩,aI l (ak L p)):Tap×Int),bc.of_okh λok ok2=>have ok:Gc L p l:=⟨ok,ok2 _ (by simp)⟩;cq (sh:=.k) (enc:=pd) (hB:=pe) (a:=(wl L p l).an) (Rx L p l hl ok) (by kernel_rfl),ah (by kernel_rfl),eT.of (by simp[hcB,cC,AV.belB,allB,ew,dH,pd,pe,ab (v:=AV.int) (λ_=>rfl)])⟩
def cA(L:List Int)(p:Nat)(n:Int):Bool:=Mod (ak L p) n==W (n-1)
def Gu(L:List Int)(p:Nat)(n:Int):=okL [.ref 0 0,.int n]∧(.box (.agg [.sl 1 (L.map AV.int) false,.int p]):Blk).ok
def p8(r:Tap×Bool):AV:=.bool r.2
def p9(r:Tap×Bool):List (Option Blk):=[some (.box (.agg [.sl 1 (r.1.L.map AV.int) false,.int r.1.p]))]
def wB(L:List Int)(p:Nat)(n:Int):Ax Tryz.prog noS (Tap×Bool):=
 (.callH [0] (bv L p n) 49
(.retH ((⟨L,ae L p⟩:Tap),(Mod (ak L p) n)==(W (n-1))) ⟨[(4,.k,.bool ((Mod (ak L p) n)==(W (n-1))))],[.box (.agg [.sl 1 (L.map AV.int) false,.int (ae L p)])]⟩ [0]))
def Bo(L:List Int)(p:Nat)(n:Int)(r0:Tap×Bool):=(wB L p n).vc p8 p9 r0
theorem RK(L:List Int)(p:Nat)(n:Int)(ok:Gu L p n):Bo L p n (⟨L,ae L p⟩,cA L p n):=by
 dsimp only[Bo,wB,noS,Ax.vp,Ax.vc];simp only[vcU,rfU,List.length_map]
 rfl
def dY(L:List Int)(p:Nat)(n:Int):HC Tryz.prog:=⟨9,[.k,.k],[.ref 0 0,.int n],[.box (.agg [.sl 1 (L.map AV.int) false,.int p])],p8 ((⟨L,ae L p⟩,cA L p n):Tap×Bool),p9 ((⟨L,ae L p⟩,cA L p n):Tap×Bool),bc.of_okh λok ok2=>have ok:Gu L p n:=⟨ok,ok2 _ (by simp)⟩;cq (sh:=.k) (enc:=p8) (hB:=p9) (a:=(wB L p n).an) (RK L p n ok) (by kernel_rfl),ah (by kernel_rfl),eT.of (by simp[hcB,cC,AV.belB,allB,ew,dH,p8,p9,ab (v:=AV.int) (λ_=>rfl)])⟩
def wldL:List Int:=[-1,0,1,7,8,23,24,31,32,63,64,99,100,255,256,257,1000,1001,1023,1024,1000000,1000001,1099511627776,9223372036854775807,-9223372036854775808]
def dz(L:List Int)(p:Nat):Int:=aI wldL (ak L p)
def E0(L:List Int)(p:Nat):=okL [.ref 0 0]∧(.box (.agg [.sl 1 (L.map AV.int) false,.int p]):Blk).ok
def od(r:Tap×Int):AV:=.int r.2
def oe(r:Tap×Int):List (Option Blk):=[some (.box (.agg [.sl 1 (r.1.L.map AV.int) false,.int r.1.p]))]
def uJ(L:List Int)(p:Nat):Ax Tryz.prog noS (Tap×Int):=
 (.req 49 ([-1,0,1,7,8,23,24,31,32,63,64,99,100,255,256,257,1000,1001,1023,1024,1000000,1000001,1099511627776,9223372036854775807,-9223372036854775808]≠[]) λh1 =>
(.callH [0] (fb L p [-1,0,1,7,8,23,24,31,32,63,64,99,100,255,256,257,1000,1001,1023,1024,1000000,1000001,1099511627776,9223372036854775807,-9223372036854775808] h1) 49
(.retH ((⟨L,ae L p⟩:Tap),aI [-1,0,1,7,8,23,24,31,32,63,64,99,100,255,256,257,1000,1001,1023,1024,1000000,1000001,1099511627776,9223372036854775807,-9223372036854775808] (ak L p)) ⟨[(2,.k,.int (aI [-1,0,1,7,8,23,24,31,32,63,64,99,100,255,256,257,1000,1001,1023,1024,1000000,1000001,1099511627776,9223372036854775807,-9223372036854775808] (ak L p)))],[.box (.agg [.sl 1 (L.map AV.int) false,.int (ae L p)])]⟩ [0])))
def zX(L:List Int)(p:Nat)(r0:Tap×Int):=(uJ L p).vc od oe r0
theorem PS(L:List Int)(p:Nat)(ok:E0 L p):zX L p (⟨L,ae L p⟩,dz L p):=by
 dsimp only[zX,uJ,noS,Ax.vp,Ax.vc];simp only[vcU,rfU,List.length_map]
 exact⟨by simp,rfl⟩
def lm(L:List Int)(p:Nat):HC Tryz.prog:=⟨74,[.k],[.ref 0 0],[.box (.agg [.sl 1 (L.map AV.int) false,.int p])],od ((⟨L,ae L p⟩,dz L p):Tap×Int),oe ((⟨L,ae L p⟩,dz L p):Tap×Int),bc.of_okh λok ok2=>have ok:E0 L p:=⟨ok,ok2 _ (by simp)⟩;cq (sh:=.k) (enc:=od) (hB:=oe) (a:=(uJ L p).an) (PS L p ok) (by kernel_rfl),ah (by kernel_rfl),eT.of (by simp[hcB,cC,AV.belB,allB,ew,dH,od,oe,ab (v:=AV.int) (λ_=>rfl)])⟩
def lenL:List Int:=[8,8,16,32,64]
def db(L:List Int)(p:Nat):Int:=aI lenL (ak L p)
def Hh(L:List Int)(p:Nat):=okL [.ref 0 0]∧(.box (.agg [.sl 1 (L.map AV.int) false,.int p]):Blk).ok
def qd(r:Tap×Int):AV:=.int r.2
def qe(r:Tap×Int):List (Option Blk):=[some (.box (.agg [.sl 1 (r.1.L.map AV.int) false,.int r.1.p]))]
def xh(L:List Int)(p:Nat):Ax Tryz.prog noS (Tap×Int):=
 (.req 49 ([8,8,16,32,64]≠[]) λh1 =>
(.callH [0] (fb L p [8,8,16,32,64] h1) 49
(.retH ((⟨L,ae L p⟩:Tap),aI [8,8,16,32,64] (ak L p)) ⟨[(2,.k,.int (aI [8,8,16,32,64] (ak L p)))],[.box (.agg [.sl 1 (L.map AV.int) false,.int (ae L p)])]⟩ [0])))
def BE(L:List Int)(p:Nat)(r0:Tap×Int):=(xh L p).vc qd qe r0
theorem S6(L:List Int)(p:Nat)(ok:Hh L p):BE L p (⟨L,ae L p⟩,db L p):=by
 dsimp only[BE,xh,noS,Ax.vp,Ax.vc];simp only[vcU,rfU,List.length_map]
 exact⟨by simp,rfl⟩
def Hg(L:List Int)(p:Nat):HC Tryz.prog:=⟨75,[.k],[.ref 0 0],[.box (.agg [.sl 1 (L.map AV.int) false,.int p])],qd ((⟨L,ae L p⟩,db L p):Tap×Int),qe ((⟨L,ae L p⟩,db L p):Tap×Int),bc.of_okh λok ok2=>have ok:Hh L p:=⟨ok,ok2 _ (by simp)⟩;cq (sh:=.k) (enc:=qd) (hB:=qe) (a:=(xh L p).an) (S6 L p ok) (by kernel_rfl),ah (by kernel_rfl),eT.of (by simp[hcB,cC,AV.belB,allB,ew,dH,qd,qe,ab (v:=AV.int) (λ_=>rfl)])⟩
def G8(l:List Int):=okL [.sl 1 (l.map AV.int) false]
def pF(r:Tap):AV:=.ref 0 0
def pG(r:Tap):List (Option Blk):=[some (.box (.agg [.sl 1 (r.L.map AV.int) false,.int r.p]))]
def wO(l:List Int):Ax Tryz.prog noS (Tap):=
 (.br 64 (decide (600<((l.map AV.int).length:Int))) (.say (λR=>Rf (α:=List AV) (l.map AV.int) (ck (dD l.length 0 600 (l.length:Int))
R)) (.sub 80 AV.int l false
(.retH (⟨(l.take 600).drop 0,0⟩:Tap) ⟨[(2,.k,.ref 0 0)],[.box (.agg [.sl 1 (((l.take 600).drop 0).map AV.int) false,.int 0])]⟩ [144])))
(.retH (⟨l,0⟩:Tap) ⟨[(2,.k,.ref 0 0)],[.box (.agg [.sl 1 (l.map AV.int) false,.int 0])]⟩ [96]))
def Bx(l:List Int)(r0:Tap):=(wO l).vc pF pG r0
theorem Sd(t:List Int)(ok:G8 t):Bx t ⟨t.take 600,0⟩:=by
 simp only[G8,okU,Blk.ok,az,List.length_map]at ok
 dsimp only[Bx,wO,noS,Ax.vp,Ax.vc];simp only[vcU,rfU,List.length_map]
 refine⟨λh=>⟨by simp[dD];omega,by rw[List.drop_zero]⟩,λh=>by rw[List.take_of_length_le (by omega)]⟩
def Se(l:List Int):HC Tryz.prog:=⟨5,[(.s 1)],[.sl 1 (l.map AV.int) false],[],pF (⟨l.take 600,0⟩:Tap),pG (⟨l.take 600,0⟩:Tap),bc.of_okh λok _=>cq (sh:=.k) (enc:=pF) (hB:=pG) (a:=(wO l).an) (Sd l ok) (by kernel_rfl),ah (by kernel_rfl),eT.of (by simp[hcB,cC,AV.belB,allB,ew,dH,pF,pG,ab (v:=AV.int) (λ_=>rfl)])⟩
def mY(L:List Int):Nat→Int→List Int→Nat→List Int×Nat
 | 0,_,out,p=>(out,p)
 | n+1,i,out,p=>mY L n (i+1) (f8 out (Mod (ak L p) (out.length+1)).toNat i) (ae L p)
def gN(L:List Int)(n:Int)(p:Nat):List Int×Nat:=mY L n.toNat 0 [] p
theorem fP{α:Type}(l:List α)(k:Nat)(x:α)(h:k≤l.length):(f8 l k x).length=l.length+1:=by
 unfold f8;simp;omega
theorem xu{α:Type}(l:List α)(k:Nat)(x:α):(f8 l k x).Perm (x::l):=by
 unfold f8
 have:=(List.perm_middle (a:=x) (l₁:=l.take k) (l₂:=l.drop k))
 rw[List.take_append_drop]at this
 simpa[List.append_assoc]using this
theorem Bm{L:List Int}:∀{n:Nat} {i:Int} {out:List Int} {p:Nat},out.Nodup→(∀x∈out,0≤x∧x<i)→0≤i →
  (mY L n i out p).1.Nodup∧∀x∈(mY L n i out p).1,0≤x∧x<i+n
 | 0,i,out,p,h1,h2,h0=>⟨h1,λx hx=>by have:=h2 x hx;omega⟩
 | n+1,i,out,p,h1,h2,h0=>by
  rw[mY]
  have hp:=xu out (Mod (ak L p) (out.length+1)).toNat i
  obtain⟨a,b⟩:=Bm (L:=L) (n:=n) (i:=i+1) (out:=f8 out (Mod (ak L p) (out.length+1)).toNat i) (p:=ae L p)
   (hp.nodup_iff.mpr (List.nodup_cons.mpr ⟨λhi=>by have:=h2 i hi;omega,h1⟩))
   (λx hx=>by
    rcases List.mem_cons.mp (hp.mem_iff.mp hx)with rfl|hx
    ·omega
    ·have:=h2 x hx;omega) (by omega)
  exact⟨a,λx hx=>by have:=b x hx;omega⟩
theorem wz{L:List Int}{n:Int}{p:Nat}(h:0≤n):(gN L n p).1.Nodup∧∀x∈(gN L n p).1,0≤x∧x<n:=by
 obtain⟨a,b⟩:=Bm (L:=L) (n:=n.toNat) (i:=0) (out:=[]) (p:=p) List.nodup_nil (by simp) (by omega)
 exact⟨a,λx hx=>by have:=b x hx;omega⟩
theorem jS{α:Type}{l:List α}{k:Nat}{x:α}:(((l.take k).drop 0)++[x])++((l.take ((l.length:Int).toNat)).drop k)=f8 l k x:=by rw[List.append_assoc,DA]
def Gp(L:List Int)(p:Nat)(n:Int):=okL [.ref 0 0,.int n]∧(.box (.agg [.sl 1 (L.map AV.int) false,.int p]):Blk).ok
def LU(L:List Int)(n:Int)(t0:Int×Nat×List Int):NF:=⟨[(0,.k,.ref 0 0),(1,.k,.int n),(5,.k,.vec 1),(6,.k,.int t0.1)],[.box (.agg [.sl 1 (L.map AV.int) false,.int t0.2.1]),.vec 1 (t0.2.2.map AV.int) (ab (λ_=>rfl) t0.2.2)]⟩
@[reducible] def Gn:Nat→Type
 | 0=>Int×Nat×List Int
 | _=>Unit
def pw(r:Tap×List Int):AV:=.sl 1 (r.2.map AV.int) false
def px(r:Tap×List Int):List (Option Blk):=[some (.box (.agg [.sl 1 (r.1.L.map AV.int) false,.int r.1.p]))]
def w5(L:List Int)(p:Nat)(n:Int)(I0:(Int×Nat×List Int)→Prop)(m0:(Int×Nat×List Int)→Nat):Ax Tryz.prog Gn (Tap×List Int):=
 (.cmdL (.nilT 5 1) (.loop 0 (LU L n) I0 m0 (0,p,[]) [0,49] λ(t0:Int×Nat×List Int) b0 =>
(.br 50 (decide (t0.1<n)) (.callH [0] (bv L t0.2.1 (W (t0.1+1))) 98
(.wait (.say (Rf (t0.2.2.map AV.int)) (.cmd (.frzE 1 (t0.2.2.map AV.int) (ab (λ_=>rfl) t0.2.2)) (.say (λR=>Rf (α:=List AV) (t0.2.2.map AV.int) (ck (dD t0.2.2.length 0 (Mod (ak L t0.2.1) (W (t0.1+1))) (t0.2.2.length:Int))
R)) (.sub 194 AV.int t0.2.2 false
(.say (λR=>Rf (α:=List AV) [] (Rf (α:=List AV) (((t0.2.2.take ((Mod (ak L t0.2.1) (W (t0.1+1))).toNat)).drop 0).map AV.int)
(ck (decide (0+((t0.2.2.take ((Mod (ak L t0.2.1) (W (t0.1+1))).toNat)).drop 0).length≤1048576))
R))) (.app 210 AV.int [] ((t0.2.2.take ((Mod (ak L t0.2.1) (W (t0.1+1))).toNat)).drop 0)
(.own 274 (.say (λR=>Rf (α:=List AV) (((t0.2.2.take ((Mod (ak L t0.2.1) (W (t0.1+1))).toNat)).drop 0).map AV.int) (Rf (α:=List AV) [.int t0.1]
(ck (decide (((t0.2.2.take ((Mod (ak L t0.2.1) (W (t0.1+1))).toNat)).drop 0).length+1≤1048576))
R))) (.app 290 AV.int ((t0.2.2.take ((Mod (ak L t0.2.1) (W (t0.1+1))).toNat)).drop 0) [t0.1]
(.say (λR=>Rf (α:=List AV) (t0.2.2.map AV.int) (ck (dD t0.2.2.length (Mod (ak L t0.2.1) (W (t0.1+1))) (t0.2.2.length:Int) (t0.2.2.length:Int))
R)) (.sub 370 AV.int t0.2.2 false
(.say (λR=>Rf (α:=List AV) ((((t0.2.2.take ((Mod (ak L t0.2.1) (W (t0.1+1))).toNat)).drop 0)++[t0.1]).map AV.int) (Rf (α:=List AV) (((t0.2.2.take ((t0.2.2.length:Int).toNat)).drop ((Mod (ak L t0.2.1) (W (t0.1+1))).toNat)).map AV.int)
(ck (decide ((((t0.2.2.take ((Mod (ak L t0.2.1) (W (t0.1+1))).toNat)).drop 0)++[t0.1]).length+((t0.2.2.take ((t0.2.2.length:Int).toNat)).drop ((Mod (ak L t0.2.1) (W (t0.1+1))).toNat)).length≤1048576))
R))) (.app 386 AV.int (((t0.2.2.take ((Mod (ak L t0.2.1) (W (t0.1+1))).toNat)).drop 0)++[t0.1]) ((t0.2.2.take ((t0.2.2.length:Int).toNat)).drop ((Mod (ak L t0.2.1) (W (t0.1+1))).toNat))
(.bk 0 b0 (W (t0.1+1),ae L t0.2.1,(((t0.2.2.take ((Mod (ak L t0.2.1) (W (t0.1+1))).toNat)).drop 0)++[t0.1])++((t0.2.2.take ((t0.2.2.length:Int).toNat)).drop ((Mod (ak L t0.2.1) (W (t0.1+1))).toNat))) [0,386]))))))))))))))))
(.say (Rf (t0.2.2.map AV.int)) (.cmdL (.frzE 1 (t0.2.2.map AV.int) (ab (λ_=>rfl) t0.2.2)) (.retH ((⟨L,t0.2.1⟩:Tap),t0.2.2) ⟨[(4,.k,.sl 1 (t0.2.2.map AV.int) false)],[.box (.agg [.sl 1 (L.map AV.int) false,.int t0.2.1])]⟩ [0]))))))
def Bl(L:List Int)(p:Nat)(n:Int)(I0:(Int×Nat×List Int)→Prop)(m0:(Int×Nat×List Int)→Nat)(r0:Tap×List Int):=(w5 L p n I0 m0).vc pw px r0
theorem RA(L:List Int)(p:Nat)(n:Int)(h:n≤1000)(ok:Gp L p n):∃I m,Bl L p n I m ((⟨L,(gN L n p).2⟩:Tap),(gN L n p).1):=by
 have hm:=λ(l:Nat) (q:Nat)=>dr (x:=ak L q) (show 1≤(l:Int)+1 by omega)
 refine⟨λt=>∃k:Nat,t.1=k∧k≤n.toNat∧t.2.2.length=k∧mY L (n.toNat-k) t.1 t.2.2 t.2.1=gN L n p,λt=>n.toNat-t.1.toNat,?_⟩
 dsimp only[Bl,w5,Gn,Ax.vp,Ax.vc];simp only[vcU,rfU,List.length_map]
 refine⟨⟨0,rfl,by omega,rfl,rfl⟩,?_⟩
 rintro⟨i,q,out⟩ ⟨k,hi,hk,hl,hr⟩
 simp only at hi hl hr ⊢
 subst hi;subst hl
 have w1:W ((out.length:Int)+1)=(out.length:Int)+1:=cn (by omega)
 have hq:=hm out.length q
 rw[w1,jS]
 refine⟨λc=>?_,λc=>?_⟩
 ·have c:out.length<n.toNat:=by omega
  refine⟨by simp[dD];omega,by simp;omega,by simp;omega,by simp[dD];omega,by simp;omega,⟨out.length+1,by omega,by omega,by rw[fP _ _ _ (by omega)],?_⟩,by omega⟩
  rw[show n.toNat-out.length=(n.toNat-(out.length+1))+1 by omega,mY]at hr
  exact hr
 ·have:out.length=n.toNat:=by omega
  rw[this,Nat.sub_self,mY]at hr
  rw[←hr]
def RB(L:List Int)(p:Nat)(n:Int)(h:n≤1000):HC Tryz.prog:=⟨76,[.k,.k],[.ref 0 0,.int n],[.box (.agg [.sl 1 (L.map AV.int) false,.int p])],pw ((⟨L,(gN L n p).2⟩:Tap),(gN L n p).1),px ((⟨L,(gN L n p).2⟩:Tap),(gN L n p).1),bc.of_okh λok ok2=>have ok:Gp L p n:=⟨ok,ok2 _ (by simp)⟩;(RA L p n h ok).elim λI0 h=>h.elim λm0 h=>cq (sh:=(.s 1)) (enc:=pw) (hB:=px) (a:=(w5 L p n I0 m0).an) h (by kernel_rfl),ah (by kernel_rfl),eT.of (by simp[hcB,cC,AV.belB,allB,ew,dH,pw,px,ab (v:=AV.int) (λ_=>rfl)])⟩
def FP(out:List Lnk)(x:Lnk):Nat:=out.findIdx λy=>!decide (cP y x)
def aA:List Lnk→List Lnk→List Lnk
 | [],out=>out
 | x::l,out=>aA l (f8 out (FP out x) x)
def R9(l:List Lnk):=okL [.sl 5 (l.map Lnk.v) false]
def LS(l:List Lnk)(t0:Int×List Lnk):NF:=⟨[(0,.k,.sl 5 (l.map Lnk.v) false),(3,.k,.vec 0),(4,.k,.int t0.1)],[.vec 5 (t0.2.map Lnk.v) (ab (λ_=>rfl) t0.2)]⟩
def LR(l:List Lnk)(t0:Int×List Lnk)(t1:Int):NF:=⟨[(0,.k,.sl 5 (l.map Lnk.v) false),(3,.k,.vec 0),(4,.k,.int t0.1),(5,.k,.int t1)],[.vec 5 (t0.2.map Lnk.v) (ab (λ_=>rfl) t0.2)]⟩
def LQ(l:List Lnk)(t0:Int×List Lnk)(t1:Int)(t2:Bool):NF:=⟨[(0,.k,.sl 5 (l.map Lnk.v) false),(3,.k,.vec 0),(4,.k,.int t0.1),(5,.k,.int t1),(55,.k,.bool t2)],[.vec 5 (t0.2.map Lnk.v) (ab (λ_=>rfl) t0.2)]⟩
@[reducible] def Gm:Nat→Type
 | 0=>Int×List Lnk
 | 1=>Int
 | 2=>Bool
 | _=>Unit
def pu(r:List Lnk):AV:=.vec 0
def pv(r:List Lnk):List (Option Blk):=[some (.vec 5 (r.map Lnk.v))]
def wv(l:List Lnk)(I0:(Int×List Lnk)→Prop)(m0:(Int×List Lnk)→Nat)(I1:Int×List Lnk→Int→Prop)(m1:Int×List Lnk→Int→Nat)(I2:Int×List Lnk→Int→Bool→Prop):Ax Tryz.prog Gm ((List Lnk)):=
 (.cmdL (.nilT 3 5) (.loop 0 (LS l) I0 m0 (0,[]) [48] λ(t0:Int×List Lnk) b0 =>
(.br 65 (decide (t0.1<((l.map Lnk.v).length:Int))) (.loop 1 (LR l t0) (I1 t0) (m1 t0) ((0):Int) [0] λ(t1:Int) b1 =>
(.pass (.join 2 (LQ l t0 t1) (λ(t2:Bool)=>I2 t0 t1 t2) (λb2=>(.br 81 (decide (t1<((t0.2.map Lnk.v).length:Int))) (.say (ck (cond (decide (0≤t1)) (decide (t1<((t0.2.map Lnk.v).length:Int))) false)) (.el 145 Lnk.v t0.2 (λR=>Rf (t0.2.map Lnk.v) (ck (decide (t1.toNat<t0.2.length))
(∀x1,t0.2[t1.toNat]?=some x1 →
(R x1)))) λx1 =>
(.el 193 Lnk.v l (λR=>Rf (l.map Lnk.v) (ck (decide (0≤t0.1)) (ck (decide (t0.1<(l.length:Int)))
(∀x2,l[t0.1.toNat]?=some x2 →
(R x2))))) λx2 =>
(.br 273 (decide (x1.a<x2.a)) (.bk 2 b2 ((true):Bool) [0])
(.say (ck (cond (decide (0≤t1)) (decide (t1<((t0.2.map Lnk.v).length:Int))) false)) (.el 337 Lnk.v t0.2 (λR=>Rf (t0.2.map Lnk.v) (ck (decide (t1.toNat<t0.2.length))
(∀x3,t0.2[t1.toNat]?=some x3 →
(R x3)))) λx3 =>
(.el 385 Lnk.v l (λR=>Rf (l.map Lnk.v) (ck (decide (0≤t0.1)) (ck (decide (t0.1<(l.length:Int)))
(∀x4,l[t0.1.toNat]?=some x4 →
(R x4))))) λx4 =>
(.br 465 (x3.a==x4.a) (.say (ck (cond (decide (0≤t1)) (decide (t1<((t0.2.map Lnk.v).length:Int))) false)) (.el 529 Lnk.v t0.2 (λR=>Rf (t0.2.map Lnk.v) (ck (decide (t1.toNat<t0.2.length))
(∀x5,t0.2[t1.toNat]?=some x5 →
(R x5)))) λx5 =>
(.el 577 Lnk.v l (λR=>Rf (l.map Lnk.v) (ck (decide (0≤t0.1)) (ck (decide (t0.1<(l.length:Int)))
(∀x6,l[t0.1.toNat]?=some x6 →
(R x6))))) λx6 =>
(.bk 2 b2 ((decide (x5.b<x6.b)):Bool) [0]))))
(.bk 2 b2 ((false):Bool) [0])))))))))
(.bk 2 b2 ((false):Bool) [0]))) λ(t2:Bool) =>
(.br 1 t2 (.bk 1 b1 ((W (t1+1)):Int) [0])
(.wait (.say (Rf (t0.2.map Lnk.v)) (.cmd (.frzE 0 (t0.2.map Lnk.v) (ab (λ_=>rfl) t0.2)) (.say (λR=>Rf (α:=List AV) (t0.2.map Lnk.v) (ck (dD t0.2.length 0 t1 (t0.2.length:Int))
R)) (.sub 65 Lnk.v t0.2 false
(.say (λR=>Rf (α:=List AV) [] (Rf (α:=List AV) (((t0.2.take t1.toNat).drop 0).map Lnk.v)
(ck (decide (0+((t0.2.take t1.toNat).drop 0).length≤1048576))
R))) (.app 81 Lnk.v [] ((t0.2.take t1.toNat).drop 0)
(.el 161 Lnk.v l (λR=>Rf (l.map Lnk.v) (ck (decide (0≤t0.1)) (ck (decide (t0.1<(l.length:Int)))
(∀x7,l[t0.1.toNat]?=some x7 →
(R x7))))) λx7 =>
(.own 193 (.say (λR=>Rf (α:=List AV) (((t0.2.take t1.toNat).drop 0).map Lnk.v) (Rf (α:=List AV) [.agg [.int x7.a,.int x7.b,.int x7.ca,.int x7.cb,.int x7.w]]
(ck (decide (((t0.2.take t1.toNat).drop 0).length+1≤1048576))
R))) (.app 209 Lnk.v ((t0.2.take t1.toNat).drop 0) [x7]
(.say (λR=>Rf (α:=List AV) (t0.2.map Lnk.v) (ck (dD t0.2.length t1 (t0.2.length:Int) (t0.2.length:Int))
R)) (.sub 289 Lnk.v t0.2 false
(.say (λR=>Rf (α:=List AV) ((((t0.2.take t1.toNat).drop 0)++[x7]).map Lnk.v) (Rf (α:=List AV) (((t0.2.take ((t0.2.length:Int).toNat)).drop t1.toNat).map Lnk.v)
(ck (decide ((((t0.2.take t1.toNat).drop 0)++[x7]).length+((t0.2.take ((t0.2.length:Int).toNat)).drop t1.toNat).length≤1048576))
R))) (.app 305 Lnk.v (((t0.2.take t1.toNat).drop 0)++[x7]) ((t0.2.take ((t0.2.length:Int).toNat)).drop t1.toNat)
(.bk 0 b0 (W (t0.1+1),(((t0.2.take t1.toNat).drop 0)++[x7])++((t0.2.take ((t0.2.length:Int).toNat)).drop t1.toNat)) [305]))))))))))))))))))))
(.retH t0.2 ⟨[(2,.k,.vec 0)],[.vec 5 (t0.2.map Lnk.v) (ab (λ_=>rfl) t0.2)]⟩ [0]))))
def Bi(l:List Lnk)(I0:(Int×List Lnk)→Prop)(m0:(Int×List Lnk)→Nat)(I1:Int×List Lnk→Int→Prop)(m1:Int×List Lnk→Int→Nat)(I2:Int×List Lnk→Int→Bool→Prop)(r0:List Lnk):=(wv l I0 m0 I1 m1 I2).vc pu pv r0
theorem Lw{out:List Lnk}{x:Lnk}{j:Nat}(hj:j≤out.length)(h1:∀y∈out.take j,cP y x)(h2:∀y,out[j]?=some y→¬cP y x):FP out x=j:=by
 unfold FP
 by_cases e:j=out.length
 ·subst e
  rw[List.take_length]at h1
  rw[List.findIdx_eq_length]
  intro y hy
  simp[h1 y hy]
 ·rw[List.findIdx_eq (by omega)]
  refine⟨?_,λi hi=>?_⟩
  ·have:=h2 _ (List.getElem?_eq_getElem (by omega))
   simp[this]
  ·have:=h1 (out[i]'(by omega)) (List.mem_take_iff_getElem.mpr ⟨i,by omega,rfl⟩)
   simp[this]
theorem R7(l:List Lnk)(h:l.length≤1000)(ok:R9 l):∃I0 m0 I1 m1 I2,Bi l I0 m0 I1 m1 I2 (aA l []):=by
 refine⟨λs=>∃k:Nat,s.1=k∧k≤l.length∧s.2.length=k∧aA (l.drop k) s.2=aA l [],λs=>l.length-s.1.toNat,
  λs t=>aG s.2 (λy=>∀x,l[s.1.toNat]?=some x→cP y x) t,λs t=>s.2.length-t.toNat,λs t b=>b=true↔t<s.2.length∧∀x y,l[s.1.toNat]?=some x→s.2[t.toNat]?=some y→cP y x,?_⟩
 dsimp only[Bi,wv,Gm,Ax.vp,Ax.vc];simp only[vcU,rfU,List.length_map]
 refine⟨⟨0,rfl,by omega,rfl,by simp⟩,?_⟩
 rintro⟨i,out⟩ ⟨k,hi,hk,hl,hr⟩
 simp only at hi hl hr ⊢
 subst hi;subst hl
 simp only[Int.toNat_natCast]
 refine⟨λc=>?_,λc=>?_⟩
 ·have hx:=List.getElem?_eq_getElem (show out.length<l.length by omega)
  generalize l[out.length]=x at hx
  refine⟨aG.zero,λt hI=>?_⟩
  obtain⟨j,rfl,hj,ha⟩:=hI
  have ha':∀y∈out.take j,cP y x:=λy hy=>ha y hy x hx
  have hI:aG out (λy=>∀x,l[out.length]?=some x→cP y x) ((j:Nat):Int):=⟨j,rfl,hj,ha⟩
  simp only[Int.toNat_natCast]
  refine⟨⟨λd=>?_,λd=>⟨nofun,λq=>absurd q.1 d⟩⟩,λb hb=>?_⟩
  ·have hy:=List.getElem?_eq_getElem (show j<out.length by omega)
   generalize out[j]=y at hy
   have rg:(bif decide (0≤((j:Nat):Int))then decide (((j:Nat):Int)<out.length)else false)=true:=bA (by omega) d
   refine⟨rg,by omega,λx1 h1=>⟨by omega,c,λx2 h2=>?_⟩⟩
   rw[hy]at h1;cases h1;rw[hx]at h2;cases h2
   refine⟨λe=>⟨λ_=>⟨d,λx' y' hx' hy'=>?_⟩,λ_=>trivial⟩,λe=>⟨rg,by omega,λx3 h3=>⟨by omega,c,λx4 h4=>?_⟩⟩⟩
   ·rw[hx]at hx';cases hx';rw[hy]at hy';cases hy';exact .inl e
   rw[hy]at h3;cases h3;rw[hx]at h4;cases h4
   refine⟨λe2=>⟨rg,by omega,λx5 h5=>⟨by omega,c,λx6 h6=>?_⟩⟩,λe2=>⟨nofun,λq=>?_⟩⟩
   ·rw[hy]at h5;cases h5;rw[hx]at h6;cases h6
    have e2:=eq_of_beq e2
    refine⟨λe3=>⟨d,λx' y' hx' hy'=>?_⟩,λq=>?_⟩
    ·rw[hx]at hx';cases hx';rw[hy]at hy';cases hy';exact .inr ⟨e2,e3⟩
    ·have:=q.2 x y hx hy;unfold cP at this;omega
   ·have:=q.2 x y hx hy
    have e2:¬y.a=x.a:=by simpa using e2
    unfold cP at this;omega
  ·refine⟨λe=>?_,λe=>?_⟩
   ·obtain⟨d,hd⟩:=hb.mp e
    have hy:=List.getElem?_eq_getElem (show j<out.length by omega)
    exact hI.step (by omega) (by rw[Int.toNat_natCast];exact hy) λx' hx'=>hd x' _ hx' hy
   ·have hp:FP out x=j:=Lw hj ha' λy hy q=>by
     have:=hb.mpr ⟨by have:=ap hy;omega,λx' y' hx' hy'=>by rw[hx]at hx';cases hx';rw[hy]at hy';cases hy';exact q⟩
     rw[e]at this;cases this
    refine⟨by simp[dD];omega,by simp;omega,by omega,c,λx7 h7=>?_⟩
    rw[hx]at h7;cases h7
    have hi:(((out.take j).drop 0)++[x])++((out.take out.length).drop j)=f8 out j x:=by have:=jS (l:=out) (k:=j) (x:=x);rwa [Int.toNat_natCast]at this
    rw[hi,aU (n:=l.length) (by omega) (by omega)]
    refine⟨by simp;omega,by simp[dD];omega,by simp;omega,⟨out.length+1,rfl,by omega,fP _ _ _ hj,?_⟩,by omega⟩
    rw[List.drop_eq_getElem_cons (by omega),aA]at hr
    have:l[out.length]'(by omega)=x:=by rw[List.getElem?_eq_getElem (by omega)]at hx;exact Option.some.inj hx
    rw[this,hp]at hr
    exact hr
 ·have:out.length=l.length:=by omega
  rw[this,List.drop_length,aA]at hr
  exact hr
def R8(l:List Lnk)(h:l.length≤1000):HC Tryz.prog:=⟨73,[(.s 5)],[.sl 5 (l.map Lnk.v) false],[],pu (aA l []),pv (aA l []),bc.of_okh λok _=>(R7 l h ok).elim λI0 h=>h.elim λm0 h=>h.elim λI1 h=>h.elim λm1 h=>h.elim λI2 h=>cq (sh:=.k) (enc:=pu) (hB:=pv) (a:=(wv l I0 m0 I1 m1 I2).an) h (by kernel_rfl),ah (by kernel_rfl),eT.of (by simp[hcB,cC,AV.belB,allB,ew,dH,pu,pv,ab (v:=Lnk.v) (λ_=>rfl)])⟩
def l5(k:Nat):List Rtr:=(List.range k).map λi=>⟨((i+1:Nat):Int),true⟩
def cnM(L:List Int)(a tree:Int)(skip:Bool)(p:Nat):Bool×Nat:=if(a==tree)=true∧skip=false then(true,p)else(cA L p 3,ae L p)
def lkM1(L:List Int)(cost a b:Int)(p:Nat):Lnk:=⟨a,b,rng L p 1 cost,rng L (ae L p) 1 cost,Mod (ak L (ae L (ae L p))) 4⟩
def inM(L:List Int)(cost b tree:Int)(skip:Bool):Nat→Int→List Lnk→Nat→List Lnk×Nat
 | 0,_,ls,p=>(ls,p)
 | f+1,a,ls,p=>if(cnM L a tree skip p).1=true then inM L cost b tree skip f (a+1) (ls++[lkM1 L cost a b (cnM L a tree skip p).2]) (ae L (ae L (ae L (cnM L a tree skip p).2)))
  else inM L cost b tree skip f (a+1) ls (cnM L a tree skip p).2
def inR(L:List Int)(cost b:Int)(ls:List Lnk)(p:Nat):List Lnk×Nat:=inM L cost b (rng L p 1 (W (b-1))) (cA L (ae L p) 9) (b-1).toNat 1 ls (ae L (ae L p))
def ouM(L:List Int)(cost:Int):Nat→Int→List Lnk→Nat→List Lnk×Nat
 | 0,_,ls,p=>(ls,p)
 | f+1,b,ls,p=>ouM L cost f (b+1) (inR L cost b ls p).1 (inR L cost b ls p).2
def nc(j:Nat):List Rtr:=(List.range j).map λi=>⟨((50+i:Nat):Int),false⟩
def ixM(L:List Int)(p:Nat)(g:Tpl):Nat:=(Mod (ak L p) g.ls.length).toNat
def Fd(L:List Int)(p:Nat)(g:Tpl):Tpl×Nat:=
 if Mod (ak L p) 7=0 then(⟨g.rs++[⟨aI [0,1,99,100,-1] (ak L (ae L p)),false⟩],g.ls⟩,ae L (ae L p))
 else if Mod (ak L p) 7=1 then(⟨g.rs,g.ls++[⟨Mod (ak L (ae L p)) 4,Mod (ak L (ae L (ae L p))) 4,1,1,0⟩]⟩,ae L (ae L (ae L p)))
 else if Mod (ak L p) 7=2 then(match g.ls[ixM L (ae L p) g]? with
  | some y=>(⟨g.rs,g.ls.set (ixM L (ae L p) g) ⟨y.a,y.b,dz L (ae L (ae L p)),y.cb,y.w⟩⟩,ae L (ae L (ae L p)))
  | none=>(g,ae L p))
 else if Mod (ak L p) 7=3 then(match g.ls[ixM L (ae L p) g]? with
  | some y=>(⟨g.rs,g.ls.set (ixM L (ae L p) g) ⟨y.a,y.b,y.ca,dz L (ae L (ae L p)),y.w⟩⟩,ae L (ae L (ae L p)))
  | none=>(g,ae L p))
 else if Mod (ak L p) 7=4 then(match g.ls[ixM L (ae L p) g]? with
  | some y=>(⟨g.rs,g.ls.set (ixM L (ae L p) g) ⟨y.a,y.b,y.ca,y.cb,dz L (ae L (ae L p))⟩⟩,ae L (ae L (ae L p)))
  | none=>(g,ae L p))
 else if Mod (ak L p) 7=5 then(match g.ls[ixM L (ae L p) g]? with
  | some y=>(⟨g.rs,g.ls++[y]⟩,ae L (ae L p))
  | none=>(g,ae L p))
 else(⟨g.rs++nc 25,g.ls⟩,ae L p)
def NK(L:List Int)(p:Nat):Int:=aI [1,2,2,5] (ak L (ae L p))
def rU(L:List Int)(p:Nat)(most:Int):List Lnk×Nat:=ouM L (NK L p) ((rng L p 1 most)-1).toNat 2 [] (ae L (ae L p))
def lu(L:List Int)(p:Nat)(most:Int):Tpl:=⟨l5 (rng L p 1 most).toNat,aA (rU L p most).1 []⟩
def bP(L:List Int)(p:Nat)(most n:Int):Tpl×Nat:=
 if 0<n∧cA L (rU L p most).2 n=true then Fd L (ae L (rU L p most).2) (lu L p most)else(lu L p most,if 0<n then ae L (rU L p most).2 else(rU L p most).2)
theorem Lv(out:List Lnk)(x:Lnk):FP out x≤out.length:=List.findIdx_le_length
theorem sJ:∀(l out:List Lnk),(aA l out).length=l.length+out.length
 | [],out=>by simp[aA]
 | x::l,out=>by rw[aA,sJ l,fP _ _ _ (Lv _ _),List.length_cons];omega
theorem gZ(k:Nat):(l5 k).length=k:=by simp[l5]
theorem Dw(k:Nat):l5 (k+1)=l5 k++[⟨((k+1:Nat):Int),true⟩]:=by simp[l5,List.range_succ]
theorem DT(k:Nat):nc (k+1)=nc k++[⟨((50+k:Nat):Int),false⟩]:=by simp[nc,List.range_succ]
theorem In(k:Nat):(nc k).length=k:=by simp[nc]
theorem AD{L:List Int}{p:Nat}{m:Int}(h:1≤m∧m≤1000):1≤rng L p 1 m∧rng L p 1 m≤m:=by
 have hm:=dr (x:=ak L p) h.1
 unfold rng
 rw[cn (n:=m-1) (by omega),cn (n:=m-1+1) (by omega),show m-1+1=m by omega,cn (by omega)]
 omega
def EP(L:List Int)(p:Nat)(most:Int)(n:Int):=okL [.ref 0 0,.int most,.int n]∧(.box (.agg [.sl 1 (L.map AV.int) false,.int p]):Blk).ok
def KD(L:List Int)(p:Nat)(most:Int)(n:Int)(t0:Int×List Rtr):NF:=⟨[(0,.k,.ref 0 0),(2,.k,.int n),(6,.k,.ref 1 0),(7,.k,.ref 2 0),(8,.k,.int (rng L p 1 most)),(9,.k,.int t0.1)],[.box (.agg [.sl 1 (L.map AV.int) false,.int (ae L p)]),.box (.agg [.sl 0 [] true,.sl 0 [] true]),.box (.agg [.vec 3,.sl 0 [] true]),.vec 2 (t0.2.map Rtr.v) (ab (λ_=>rfl) t0.2)]⟩
def KC(L:List Int)(p:Nat)(most:Int)(n:Int)(t0:Int×List Rtr)(t1:Int×Nat×List Lnk):NF:=⟨[(0,.k,.ref 0 0),(2,.k,.int n),(6,.k,.ref 1 0),(7,.k,.ref 2 0),(8,.k,.int (rng L p 1 most)),(10,.k,.int (aI [1,2,2,5] (ak L (ae L p)))),(11,.k,.int t1.1)],[.box (.agg [.sl 1 (L.map AV.int) false,.int t1.2.1]),.box (.agg [.sl 0 [] true,.sl 0 [] true]),.box (.agg [.vec 3,.vec 4]),.vec 2 (t0.2.map Rtr.v) (ab (λ_=>rfl) t0.2),.vec 5 (t1.2.2.map Lnk.v) (ab (λ_=>rfl) t1.2.2)]⟩
def KB(L:List Int)(p:Nat)(most:Int)(n:Int)(t0:Int×List Rtr)(t1:Int×Nat×List Lnk)(t2:Int×List Lnk×Nat):NF:=⟨[(0,.k,.ref 0 0),(2,.k,.int n),(6,.k,.ref 1 0),(7,.k,.ref 2 0),(8,.k,.int (rng L p 1 most)),(10,.k,.int (aI [1,2,2,5] (ak L (ae L p)))),(11,.k,.int t1.1),(12,.k,.int (rng L t1.2.1 1 (W (t1.1-1)))),(13,.k,.bool (cA L (ae L t1.2.1) 9)),(14,.k,.int t2.1)],[.box (.agg [.sl 1 (L.map AV.int) false,.int t2.2.2]),.box (.agg [.sl 0 [] true,.sl 0 [] true]),.box (.agg [.vec 3,.vec 4]),.vec 2 (t0.2.map Rtr.v) (ab (λ_=>rfl) t0.2),.vec 5 (t2.2.1.map Lnk.v) (ab (λ_=>rfl) t2.2.1)]⟩
def KA(L:List Int)(p:Nat)(most:Int)(n:Int)(t0:Int×List Rtr)(t1:Int×Nat×List Lnk)(t2:Int×List Lnk×Nat)(t3:Bool×Nat):NF:=⟨[(0,.k,.ref 0 0),(2,.k,.int n),(6,.k,.ref 1 0),(7,.k,.ref 2 0),(8,.k,.int (rng L p 1 most)),(10,.k,.int (aI [1,2,2,5] (ak L (ae L p)))),(11,.k,.int t1.1),(12,.k,.int (rng L t1.2.1 1 (W (t1.1-1)))),(13,.k,.bool (cA L (ae L t1.2.1) 9)),(14,.k,.int t2.1),(60,.k,.bool t3.1)],[.box (.agg [.sl 1 (L.map AV.int) false,.int t3.2]),.box (.agg [.sl 0 [] true,.sl 0 [] true]),.box (.agg [.vec 3,.vec 4]),.vec 2 (t0.2.map Rtr.v) (ab (λ_=>rfl) t0.2),.vec 5 (t2.2.1.map Lnk.v) (ab (λ_=>rfl) t2.2.1)]⟩
def K9(L:List Int)(t0:Int×List Rtr)(t1:Int×Nat×List Lnk)(t4:Bool×Nat):NF:=⟨[(0,.k,.ref 0 0),(6,.k,.ref 1 0),(7,.k,.ref 2 0),(87,.k,.bool t4.1)],[.box (.agg [.sl 1 (L.map AV.int) false,.int t4.2]),.box (.agg [.sl 0 [] true,.sl 0 [] true]),.box (.agg [.vec 3,.vec 4]),.vec 2 (t0.2.map Rtr.v) (ab (λ_=>rfl) t0.2),.vec 5 ((aA t1.2.2 []).map Lnk.v) (ab (λ_=>rfl) (aA t1.2.2 []))]⟩
def K8(L:List Int)(t1:Int×Nat×List Lnk)(t4:Bool×Nat)(t5:Int×List Rtr):NF:=⟨[(6,.k,.ref 1 0),(7,.k,.ref 2 0),(15,.k,.int t5.1)],[.box (.agg [.sl 1 (L.map AV.int) false,.int (ae L t4.2)]),.box (.agg [.sl 0 [] true,.sl 0 [] true]),.box (.agg [.vec 3,.vec 4]),.vec 2 (t5.2.map Rtr.v) (ab (λ_=>rfl) t5.2),.vec 5 ((aA t1.2.2 []).map Lnk.v) (ab (λ_=>rfl) (aA t1.2.2 []))]⟩
@[reducible] def EO:Nat→Type
 | 0=>Int×List Rtr
 | 1=>Int×Nat×List Lnk
 | 2=>Int×List Lnk×Nat
 | 3=>Bool×Nat
 | 4=>Bool×Nat
 | 5=>Int×List Rtr
 | _=>Unit
def oA(r:Tap×Tpl):AV:=.agg [.vec 1,.vec 2]
def oB(r:Tap×Tpl):List (Option Blk):=[some (.box (.agg [.sl 1 (r.1.L.map AV.int) false,.int r.1.p])),some (.vec 2 (r.2.rs.map Rtr.v)),some (.vec 5 (r.2.ls.map Lnk.v))]
def vl(L:List Int)(p:Nat)(most:Int)(n:Int)(I0:(Int×List Rtr)→Prop)(m0:(Int×List Rtr)→Nat)(I1:Int×List Rtr→(Int×Nat×List Lnk)→Prop)(m1:Int×List Rtr→(Int×Nat×List Lnk)→Nat)(I2:Int×List Rtr→Int×Nat×List Lnk→(Int×List Lnk×Nat)→Prop)(m2:Int×List Rtr→Int×Nat×List Lnk→(Int×List Lnk×Nat)→Nat)(I3:Int×List Rtr→Int×Nat×List Lnk→Int×List Lnk×Nat→(Bool×Nat)→Prop)(I4:Int×List Rtr→Int×Nat×List Lnk→(Bool×Nat)→Prop)(I5:Int×List Rtr→Int×Nat×List Lnk→Bool×Nat→(Int×List Rtr)→Prop)(m5:Int×List Rtr→Int×Nat×List Lnk→Bool×Nat→(Int×List Rtr)→Nat):Ax Tryz.prog EO (Tap×Tpl):=
 (.callH [0] (iL L p 1 most) 65
(.cmdL (.nilB 17 0 2) (.loop 0 (KD L p most n) I0 m0 (1,[]) [0,1,17,113] λ(t0:Int×List Rtr) b0 =>
(.br 52 (decide (t0.1≤(rng L p 1 most))) (.say (λR=>Rf (α:=List AV) (t0.2.map Rtr.v) (Rf (α:=List AV) [.agg [.int t0.1,.bool true]]
(ck (decide (t0.2.length+1≤1048576))
R))) (.app 132 Rtr.v t0.2 [(⟨t0.1,true⟩:Rtr)]
(.bk 0 b0 (W (t0.1+1),t0.2++[(⟨t0.1,true⟩:Rtr)]) [0,1,2,132])))
(.req 84 ([1,2,2,5]≠[]) λh1 =>
(.callH [0] (fb L (ae L p) [1,2,2,5] h1) 84
(.cmdL (.nilB 2 1 5) (.loop 1 (KC L p most n t0) (I1 t0) (m1 t0) (2,ae L (ae L p),[]) [0,1,2,3,132] λ(t1:Int×Nat×List Lnk) b1 =>
(.br 53 (decide (t1.1≤(rng L p 1 most))) (.callH [0] (iL L t1.2.1 1 (W (t1.1-1))) 101
(.callH [0] (dY L (ae L t1.2.1) 9) 149
(.loop 2 (KB L p most n t0 t1) (I2 t0 t1) (m2 t0 t1) (1,t1.2.2,ae L (ae L t1.2.1)) [0,1,2,3,4] λ(t2:Int×List Lnk×Nat) b2 =>
(.br 53 (decide (t2.1<t1.1)) (.pass (.join 3 (KA L p most n t0 t1 t2) (λ(t3:Bool×Nat)=>I3 t0 t1 t2 t3) (λb3=>(.br 117 (t2.1==(rng L t1.2.1 1 (W (t1.1-1)))) (.br 181 (!(cA L (ae L t1.2.1) 9)) (.bk 3 b3 (true,t2.2.2) [0,1,2,3,4])
(.callH [0] (dY L t2.2.2 3) 197
(.bk 3 b3 (cA L t2.2.2 3,ae L t2.2.2) [0,1,2,3,4])))
(.callH [0] (dY L t2.2.2 3) 197
(.bk 3 b3 (cA L t2.2.2 3,ae L t2.2.2) [0,1,2,3,4])))) λ(t3:Bool×Nat) =>
(.br 5 t3.1 (.callH [0] (iL L t3.2 1 (aI [1,2,2,5] (ak L (ae L p)))) 101
(.callH [0] (iL L (ae L t3.2) 1 (aI [1,2,2,5] (ak L (ae L p)))) 149
(.callH [0] (bv L (ae L (ae L t3.2)) 4) 181
(.say (λR=>Rf (α:=List AV) (t2.2.1.map Lnk.v) (Rf (α:=List AV) [.agg [.int t2.1,.int t1.1,.int (rng L t3.2 1 (aI [1,2,2,5] (ak L (ae L p)))),.int (rng L (ae L t3.2) 1 (aI [1,2,2,5] (ak L (ae L p)))),.int (Mod (ak L (ae L (ae L t3.2))) 4)]]
(ck (decide (t2.2.1.length+1≤1048576))
R))) (.app 229 Lnk.v t2.2.1 [(⟨t2.1,t1.1,rng L t3.2 1 (aI [1,2,2,5] (ak L (ae L p))),rng L (ae L t3.2) 1 (aI [1,2,2,5] (ak L (ae L p))),Mod (ak L (ae L (ae L t3.2))) 4⟩:Lnk)]
(.bk 2 b2 (W (t2.1+1),t2.2.1++[(⟨t2.1,t1.1,rng L t3.2 1 (aI [1,2,2,5] (ak L (ae L p))),rng L (ae L t3.2) 1 (aI [1,2,2,5] (ak L (ae L p))),Mod (ak L (ae L (ae L t3.2))) 4⟩:Lnk)],ae L (ae L (ae L t3.2))) [0,1,2,3,229]))))))
(.bk 2 b2 (W (t2.1+1),t2.2.1,t3.2) [0,1,2,3,4]))))
(.bk 1 b1 (W (t1.1+1),t2.2.2,t2.2.1) [0,1,2,3,4])))))
(.say (Rf (t1.2.2.map Lnk.v)) (.cmd (.frzE 4 (t1.2.2.map Lnk.v) (ab (λ_=>rfl) t1.2.2)) (.req 85 (t1.2.2.length≤1000) λh2 =>
(.callH [] (R8 t1.2.2 h2) 85
(.pass (.join 4 (K9 L t0 t1) (λ(t4:Bool×Nat)=>I4 t0 t1 t4) (λb4=>(.br 181 (decide (0<n)) (.callH [0] (dY L t1.2.1 n) 213
(.bk 4 b4 (cA L t1.2.1 n,ae L t1.2.1) [0,1,2,3,85]))
(.bk 4 b4 (false,t1.2.1) [0,1,2,3,85]))) λ(t4:Bool×Nat) =>
(.br 5 t4.1 (.callH [0] (bv L t4.2 7) 21
(.br 69 ((Mod (ak L t4.2) 7)==0) (.req 133 ([0,1,99,100,-1]≠[]) λh3 =>
(.callH [0] (fb L (ae L t4.2) [0,1,99,100,-1] h3) 133
(.say (λR=>Rf (α:=List AV) (t0.2.map Rtr.v) (Rf (α:=List AV) [.agg [.int (aI [0,1,99,100,-1] (ak L (ae L t4.2))),.bool false]]
(ck (decide (t0.2.length+1≤1048576))
R))) (.app 181 Rtr.v t0.2 [(⟨aI [0,1,99,100,-1] (ak L (ae L t4.2)),false⟩:Rtr)]
(.retH ((⟨L,ae L (ae L t4.2)⟩:Tap),(⟨t0.2++[(⟨aI [0,1,99,100,-1] (ak L (ae L t4.2)),false⟩:Rtr)],aA t1.2.2 []⟩:Tpl)) ⟨[(6,.k,.ref 3 0)],[.box (.agg [.sl 1 (L.map AV.int) false,.int (((ae L (ae L t4.2)):Nat):Int)]),.vec 2 ((t0.2++[(⟨aI [0,1,99,100,-1] (ak L (ae L t4.2)),false⟩:Rtr)]).map Rtr.v) (ab (λ_=>rfl) (t0.2++[(⟨aI [0,1,99,100,-1] (ak L (ae L t4.2)),false⟩:Rtr)])),.vec 5 ((aA t1.2.2 []).map Lnk.v) (ab (λ_=>rfl) (aA t1.2.2 [])),.box (.agg [.vec 1,.vec 2])]⟩ [0,181,4,1])))))
(.br 101 ((Mod (ak L t4.2) 7)==1) (.callH [0] (bv L (ae L t4.2) 4) 149
(.callH [0] (bv L (ae L (ae L t4.2)) 4) 181
(.say (λR=>Rf (α:=List AV) ((aA t1.2.2 []).map Lnk.v) (Rf (α:=List AV) [.agg [.int (Mod (ak L (ae L t4.2)) 4),.int (Mod (ak L (ae L (ae L t4.2))) 4),.int 1,.int 1,.int 0]]
(ck (decide ((aA t1.2.2 []).length+1≤1048576))
R))) (.app 229 Lnk.v (aA t1.2.2 []) [(⟨Mod (ak L (ae L t4.2)) 4,Mod (ak L (ae L (ae L t4.2))) 4,1,1,0⟩:Lnk)]
(.retH ((⟨L,ae L (ae L (ae L t4.2))⟩:Tap),(⟨t0.2,(aA t1.2.2 [])++[(⟨Mod (ak L (ae L t4.2)) 4,Mod (ak L (ae L (ae L t4.2))) 4,1,1,0⟩:Lnk)]⟩:Tpl)) ⟨[(6,.k,.ref 3 0)],[.box (.agg [.sl 1 (L.map AV.int) false,.int (((ae L (ae L (ae L t4.2))):Nat):Int)]),.vec 2 (t0.2.map Rtr.v) (ab (λ_=>rfl) t0.2),.vec 5 (((aA t1.2.2 [])++[(⟨Mod (ak L (ae L t4.2)) 4,Mod (ak L (ae L (ae L t4.2))) 4,1,1,0⟩:Lnk)]).map Lnk.v) (ab (λ_=>rfl) ((aA t1.2.2 [])++[(⟨Mod (ak L (ae L t4.2)) 4,Mod (ak L (ae L (ae L t4.2))) 4,1,1,0⟩:Lnk)])),.box (.agg [.vec 1,.vec 2])]⟩ [0,3,229,1])))))
(.br 133 ((Mod (ak L t4.2) 7)==2) (.br 197 (decide (0<(((aA t1.2.2 []).map Lnk.v).length:Int))) (.callH [0] (bv L (ae L t4.2) (((aA t1.2.2 []).map Lnk.v).length:Int)) 293
(.callH [0] (lm L (ae L (ae L t4.2))) 325
(.say (ck (cond (decide (0≤(Mod (ak L (ae L t4.2)) (((aA t1.2.2 []).map Lnk.v).length:Int)))) (decide ((Mod (ak L (ae L t4.2)) (((aA t1.2.2 []).map Lnk.v).length:Int))<(((aA t1.2.2 []).map Lnk.v).length:Int))) false)) (.st 373 Lnk.v (aA t1.2.2 []) (λy4=>(⟨y4.a,y4.b,dz L (ae L (ae L t4.2)),y4.cb,y4.w⟩:Lnk)) (λR=>Rf ((aA t1.2.2 []).map Lnk.v) (ck (decide ((Mod (ak L (ae L t4.2)) (((aA t1.2.2 []).map Lnk.v).length:Int)).toNat<(aA t1.2.2 []).length))
(∀y4,(aA t1.2.2 [])[(Mod (ak L (ae L t4.2)) (((aA t1.2.2 []).map Lnk.v).length:Int)).toNat]?=some y4→Rf (Lnk.v (⟨y4.a,y4.b,dz L (ae L (ae L t4.2)),y4.cb,y4.w⟩:Lnk))
((R y4))))) λy4 =>
(.retH ((⟨L,ae L (ae L (ae L t4.2))⟩:Tap),(⟨t0.2,(aA t1.2.2 []).set ((Mod (ak L (ae L t4.2)) (((aA t1.2.2 []).map Lnk.v).length:Int)).toNat) (⟨y4.a,y4.b,dz L (ae L (ae L t4.2)),y4.cb,y4.w⟩:Lnk)⟩:Tpl)) ⟨[(6,.k,.ref 3 0)],[.box (.agg [.sl 1 (L.map AV.int) false,.int (((ae L (ae L (ae L t4.2))):Nat):Int)]),.vec 2 (t0.2.map Rtr.v) (ab (λ_=>rfl) t0.2),.vec 5 (((aA t1.2.2 []).set ((Mod (ak L (ae L t4.2)) (((aA t1.2.2 []).map Lnk.v).length:Int)).toNat) (⟨y4.a,y4.b,dz L (ae L (ae L t4.2)),y4.cb,y4.w⟩:Lnk)).map Lnk.v) (ab (λ_=>rfl) ((aA t1.2.2 []).set ((Mod (ak L (ae L t4.2)) (((aA t1.2.2 []).map Lnk.v).length:Int)).toNat) (⟨y4.a,y4.b,dz L (ae L (ae L t4.2)),y4.cb,y4.w⟩:Lnk))),.box (.agg [.vec 1,.vec 2])]⟩ [0,3,4,1])))))
(.retH ((⟨L,ae L t4.2⟩:Tap),(⟨t0.2,aA t1.2.2 []⟩:Tpl)) ⟨[(6,.k,.ref 3 0)],[.box (.agg [.sl 1 (L.map AV.int) false,.int (ae L t4.2)]),.vec 2 (t0.2.map Rtr.v) (ab (λ_=>rfl) t0.2),.vec 5 ((aA t1.2.2 []).map Lnk.v) (ab (λ_=>rfl) (aA t1.2.2 [])),.box (.agg [.vec 1,.vec 2])]⟩ [0,3,4,1]))
(.br 165 ((Mod (ak L t4.2) 7)==3) (.br 229 (decide (0<(((aA t1.2.2 []).map Lnk.v).length:Int))) (.callH [0] (bv L (ae L t4.2) (((aA t1.2.2 []).map Lnk.v).length:Int)) 325
(.callH [0] (lm L (ae L (ae L t4.2))) 357
(.say (ck (cond (decide (0≤(Mod (ak L (ae L t4.2)) (((aA t1.2.2 []).map Lnk.v).length:Int)))) (decide ((Mod (ak L (ae L t4.2)) (((aA t1.2.2 []).map Lnk.v).length:Int))<(((aA t1.2.2 []).map Lnk.v).length:Int))) false)) (.st 405 Lnk.v (aA t1.2.2 []) (λy5=>(⟨y5.a,y5.b,y5.ca,dz L (ae L (ae L t4.2)),y5.w⟩:Lnk)) (λR=>Rf ((aA t1.2.2 []).map Lnk.v) (ck (decide ((Mod (ak L (ae L t4.2)) (((aA t1.2.2 []).map Lnk.v).length:Int)).toNat<(aA t1.2.2 []).length))
(∀y5,(aA t1.2.2 [])[(Mod (ak L (ae L t4.2)) (((aA t1.2.2 []).map Lnk.v).length:Int)).toNat]?=some y5→Rf (Lnk.v (⟨y5.a,y5.b,y5.ca,dz L (ae L (ae L t4.2)),y5.w⟩:Lnk))
((R y5))))) λy5 =>
(.retH ((⟨L,ae L (ae L (ae L t4.2))⟩:Tap),(⟨t0.2,(aA t1.2.2 []).set ((Mod (ak L (ae L t4.2)) (((aA t1.2.2 []).map Lnk.v).length:Int)).toNat) (⟨y5.a,y5.b,y5.ca,dz L (ae L (ae L t4.2)),y5.w⟩:Lnk)⟩:Tpl)) ⟨[(6,.k,.ref 3 0)],[.box (.agg [.sl 1 (L.map AV.int) false,.int (((ae L (ae L (ae L t4.2))):Nat):Int)]),.vec 2 (t0.2.map Rtr.v) (ab (λ_=>rfl) t0.2),.vec 5 (((aA t1.2.2 []).set ((Mod (ak L (ae L t4.2)) (((aA t1.2.2 []).map Lnk.v).length:Int)).toNat) (⟨y5.a,y5.b,y5.ca,dz L (ae L (ae L t4.2)),y5.w⟩:Lnk)).map Lnk.v) (ab (λ_=>rfl) ((aA t1.2.2 []).set ((Mod (ak L (ae L t4.2)) (((aA t1.2.2 []).map Lnk.v).length:Int)).toNat) (⟨y5.a,y5.b,y5.ca,dz L (ae L (ae L t4.2)),y5.w⟩:Lnk))),.box (.agg [.vec 1,.vec 2])]⟩ [0,3,4,1])))))
(.retH ((⟨L,ae L t4.2⟩:Tap),(⟨t0.2,aA t1.2.2 []⟩:Tpl)) ⟨[(6,.k,.ref 3 0)],[.box (.agg [.sl 1 (L.map AV.int) false,.int (ae L t4.2)]),.vec 2 (t0.2.map Rtr.v) (ab (λ_=>rfl) t0.2),.vec 5 ((aA t1.2.2 []).map Lnk.v) (ab (λ_=>rfl) (aA t1.2.2 [])),.box (.agg [.vec 1,.vec 2])]⟩ [0,3,4,1]))
(.br 197 ((Mod (ak L t4.2) 7)==4) (.br 261 (decide (0<(((aA t1.2.2 []).map Lnk.v).length:Int))) (.callH [0] (bv L (ae L t4.2) (((aA t1.2.2 []).map Lnk.v).length:Int)) 357
(.callH [0] (lm L (ae L (ae L t4.2))) 389
(.say (ck (cond (decide (0≤(Mod (ak L (ae L t4.2)) (((aA t1.2.2 []).map Lnk.v).length:Int)))) (decide ((Mod (ak L (ae L t4.2)) (((aA t1.2.2 []).map Lnk.v).length:Int))<(((aA t1.2.2 []).map Lnk.v).length:Int))) false)) (.st 437 Lnk.v (aA t1.2.2 []) (λy6=>(⟨y6.a,y6.b,y6.ca,y6.cb,dz L (ae L (ae L t4.2))⟩:Lnk)) (λR=>Rf ((aA t1.2.2 []).map Lnk.v) (ck (decide ((Mod (ak L (ae L t4.2)) (((aA t1.2.2 []).map Lnk.v).length:Int)).toNat<(aA t1.2.2 []).length))
(∀y6,(aA t1.2.2 [])[(Mod (ak L (ae L t4.2)) (((aA t1.2.2 []).map Lnk.v).length:Int)).toNat]?=some y6→Rf (Lnk.v (⟨y6.a,y6.b,y6.ca,y6.cb,dz L (ae L (ae L t4.2))⟩:Lnk))
((R y6))))) λy6 =>
(.retH ((⟨L,ae L (ae L (ae L t4.2))⟩:Tap),(⟨t0.2,(aA t1.2.2 []).set ((Mod (ak L (ae L t4.2)) (((aA t1.2.2 []).map Lnk.v).length:Int)).toNat) (⟨y6.a,y6.b,y6.ca,y6.cb,dz L (ae L (ae L t4.2))⟩:Lnk)⟩:Tpl)) ⟨[(6,.k,.ref 3 0)],[.box (.agg [.sl 1 (L.map AV.int) false,.int (((ae L (ae L (ae L t4.2))):Nat):Int)]),.vec 2 (t0.2.map Rtr.v) (ab (λ_=>rfl) t0.2),.vec 5 (((aA t1.2.2 []).set ((Mod (ak L (ae L t4.2)) (((aA t1.2.2 []).map Lnk.v).length:Int)).toNat) (⟨y6.a,y6.b,y6.ca,y6.cb,dz L (ae L (ae L t4.2))⟩:Lnk)).map Lnk.v) (ab (λ_=>rfl) ((aA t1.2.2 []).set ((Mod (ak L (ae L t4.2)) (((aA t1.2.2 []).map Lnk.v).length:Int)).toNat) (⟨y6.a,y6.b,y6.ca,y6.cb,dz L (ae L (ae L t4.2))⟩:Lnk))),.box (.agg [.vec 1,.vec 2])]⟩ [0,3,4,1])))))
(.retH ((⟨L,ae L t4.2⟩:Tap),(⟨t0.2,aA t1.2.2 []⟩:Tpl)) ⟨[(6,.k,.ref 3 0)],[.box (.agg [.sl 1 (L.map AV.int) false,.int (ae L t4.2)]),.vec 2 (t0.2.map Rtr.v) (ab (λ_=>rfl) t0.2),.vec 5 ((aA t1.2.2 []).map Lnk.v) (ab (λ_=>rfl) (aA t1.2.2 [])),.box (.agg [.vec 1,.vec 2])]⟩ [0,3,4,1]))
(.br 229 ((Mod (ak L t4.2) 7)==5) (.br 293 (decide (0<(((aA t1.2.2 []).map Lnk.v).length:Int))) (.callH [0] (bv L (ae L t4.2) (((aA t1.2.2 []).map Lnk.v).length:Int)) 421
(.say (ck (cond (decide (0≤(Mod (ak L (ae L t4.2)) (((aA t1.2.2 []).map Lnk.v).length:Int)))) (decide ((Mod (ak L (ae L t4.2)) (((aA t1.2.2 []).map Lnk.v).length:Int))<(((aA t1.2.2 []).map Lnk.v).length:Int))) false)) (.el 453 Lnk.v (aA t1.2.2 []) (λR=>Rf ((aA t1.2.2 []).map Lnk.v) (ck (decide ((Mod (ak L (ae L t4.2)) (((aA t1.2.2 []).map Lnk.v).length:Int)).toNat<(aA t1.2.2 []).length))
(∀x7,(aA t1.2.2 [])[(Mod (ak L (ae L t4.2)) (((aA t1.2.2 []).map Lnk.v).length:Int)).toNat]?=some x7 →
(R x7)))) λx7 =>
(.say (λR=>Rf (α:=List AV) ((aA t1.2.2 []).map Lnk.v) (Rf (α:=List AV) [.agg [.int x7.a,.int x7.b,.int x7.ca,.int x7.cb,.int x7.w]]
(ck (decide ((aA t1.2.2 []).length+1≤1048576))
R))) (.app 485 Lnk.v (aA t1.2.2 []) [x7]
(.retH ((⟨L,ae L (ae L t4.2)⟩:Tap),(⟨t0.2,(aA t1.2.2 [])++[x7]⟩:Tpl)) ⟨[(6,.k,.ref 3 0)],[.box (.agg [.sl 1 (L.map AV.int) false,.int (((ae L (ae L t4.2)):Nat):Int)]),.vec 2 (t0.2.map Rtr.v) (ab (λ_=>rfl) t0.2),.vec 5 (((aA t1.2.2 [])++[x7]).map Lnk.v) (ab (λ_=>rfl) ((aA t1.2.2 [])++[x7])),.box (.agg [.vec 1,.vec 2])]⟩ [0,3,485,1]))))))
(.retH ((⟨L,ae L t4.2⟩:Tap),(⟨t0.2,aA t1.2.2 []⟩:Tpl)) ⟨[(6,.k,.ref 3 0)],[.box (.agg [.sl 1 (L.map AV.int) false,.int (ae L t4.2)]),.vec 2 (t0.2.map Rtr.v) (ab (λ_=>rfl) t0.2),.vec 5 ((aA t1.2.2 []).map Lnk.v) (ab (λ_=>rfl) (aA t1.2.2 [])),.box (.agg [.vec 1,.vec 2])]⟩ [0,3,4,1]))
(.loop 5 (K8 L t1 t4) (I5 t0 t1 t4) (m5 t0 t1 t4) (50,t0.2) [0,1,2,3,4] λ(t5:Int×List Rtr) b5 =>
(.br 37 (decide (t5.1<75)) (.say (λR=>Rf (α:=List AV) (t5.2.map Rtr.v) (Rf (α:=List AV) [.agg [.int t5.1,.bool false]]
(ck (decide (t5.2.length+1≤1048576))
R))) (.app 117 Rtr.v t5.2 [(⟨t5.1,false⟩:Rtr)]
(.bk 5 b5 (W (t5.1+1),t5.2++[(⟨t5.1,false⟩:Rtr)]) [0,1,2,117,4])))
(.retH ((⟨L,ae L t4.2⟩:Tap),(⟨t5.2,aA t1.2.2 []⟩:Tpl)) ⟨[(6,.k,.ref 3 0)],[.box (.agg [.sl 1 (L.map AV.int) false,.int (ae L t4.2)]),.vec 2 (t5.2.map Rtr.v) (ab (λ_=>rfl) t5.2),.vec 5 ((aA t1.2.2 []).map Lnk.v) (ab (λ_=>rfl) (aA t1.2.2 [])),.box (.agg [.vec 1,.vec 2])]⟩ [0,3,4,1]))))))))))
(.retH ((⟨L,t4.2⟩:Tap),(⟨t0.2,aA t1.2.2 []⟩:Tpl)) ⟨[(6,.k,.ref 3 0)],[.box (.agg [.sl 1 (L.map AV.int) false,.int t4.2]),.vec 2 (t0.2.map Rtr.v) (ab (λ_=>rfl) t0.2),.vec 5 ((aA t1.2.2 []).map Lnk.v) (ab (λ_=>rfl) (aA t1.2.2 [])),.box (.agg [.vec 1,.vec 2])]⟩ [0,3,4,1])))))))))))))))))
def At(L:List Int)(p:Nat)(most:Int)(n:Int)(I0:(Int×List Rtr)→Prop)(m0:(Int×List Rtr)→Nat)(I1:Int×List Rtr→(Int×Nat×List Lnk)→Prop)(m1:Int×List Rtr→(Int×Nat×List Lnk)→Nat)(I2:Int×List Rtr→Int×Nat×List Lnk→(Int×List Lnk×Nat)→Prop)(m2:Int×List Rtr→Int×Nat×List Lnk→(Int×List Lnk×Nat)→Nat)(I3:Int×List Rtr→Int×Nat×List Lnk→Int×List Lnk×Nat→(Bool×Nat)→Prop)(I4:Int×List Rtr→Int×Nat×List Lnk→(Bool×Nat)→Prop)(I5:Int×List Rtr→Int×Nat×List Lnk→Bool×Nat→(Int×List Rtr)→Prop)(m5:Int×List Rtr→Int×Nat×List Lnk→Bool×Nat→(Int×List Rtr)→Nat)(r0:Tap×Tpl):=(vl L p most n I0 m0 I1 m1 I2 m2 I3 I4 I5 m5).vc oA oB r0
theorem Qu(L:List Int)(p:Nat)(most n:Int)(h:1≤most∧most≤20)(ok:EP L p most n):∃I0 m0 I1 m1 I2 m2 I3 I4 I5 m5,At L p most n I0 m0 I1 m1 I2 m2 I3 I4 I5 m5 ((⟨L,(bP L p most n).2⟩:Tap),(bP L p most n).1):=by
 have hk:=AD (L:=L) (p:=p) (m:=most) (by omega)
 refine⟨λs=>∃j:Nat,s.1=((j+1:Nat):Int)∧j≤(rng L p 1 most).toNat∧s.2=l5 j,λs=>(rng L p 1 most).toNat+1-s.1.toNat,
  λ_ s=>∃j:Nat,s.1=((j+2:Nat):Int)∧j≤(rng L p 1 most-1).toNat∧s.2.2.length≤20 * j∧ouM L (NK L p) ((rng L p 1 most-1).toNat-j) s.1 s.2.2 s.2.1=rU L p most,λ_ s=>(rng L p 1 most).toNat+1-s.1.toNat,
  λ_ s1 s=>∃j:Nat,s.1=((j+1:Nat):Int)∧j≤(s1.1-1).toNat∧s.2.1.length≤s1.2.2.length+j∧inM L (NK L p) s1.1 (rng L s1.2.1 1 (W (s1.1-1))) (cA L (ae L s1.2.1) 9) ((s1.1-1).toNat-j) s.1 s.2.1 s.2.2=inR L (NK L p) s1.1 s1.2.2 s1.2.1,λ_ s1 s=>s1.1.toNat-s.1.toNat,
  λ_ s1 s2 s=>s=cnM L s2.1 (rng L s1.2.1 1 (W (s1.1-1))) (cA L (ae L s1.2.1) 9) s2.2.2,
  λ_ s1 s=>s=(decide (0<n∧cA L s1.2.1 n=true),if 0<n then ae L s1.2.1 else s1.2.1),
  λ_ _ _ s=>∃j:Nat,s.1=((50+j:Nat):Int)∧j≤25∧s.2=l5 (rng L p 1 most).toNat++nc j,λ_ _ _ s=>75-s.1.toNat,?_⟩
 dsimp only[At,vl,EO,Ax.vp,Ax.vc];simp only[vcU,rfU,List.length_map]
 generalize hK:rng L p 1 most=K at hk ⊢
 have hK0:lu L p most=⟨l5 K.toNat,aA (rU L p most).1 []⟩:=by unfold lu;rw[hK]
 refine⟨⟨0,rfl,Nat.zero_le _,rfl⟩,?_⟩
 rintro⟨i,rs⟩ ⟨j,hi,hj,hr⟩
 simp only at hi hr ⊢
 subst hi;subst hr
 rw[gZ]
 refine⟨λc=>⟨by omega,⟨j+1,by rw[cn (by omega)];omega,by omega,(Dw j).symm⟩,by rw[cn (by omega)];omega⟩,λc=>⟨by simp,?_⟩⟩
 obtain rfl:j=K.toNat:=by omega
 refine⟨⟨0,rfl,Nat.zero_le _,by simp,by rw[rU,hK];rfl⟩,?_⟩
 rintro⟨b,q,ls⟩ ⟨jb,hb,hjb,hlb,hob⟩
 simp only at hb hlb hob ⊢
 refine⟨λc1=>?_,λc1=>?_⟩
 ·refine⟨⟨0,rfl,Nat.zero_le _,by simp,by rw[Nat.sub_zero];rfl⟩,?_⟩
  rintro⟨a,l2,p2⟩ ⟨ja,ha,hja,hla,hoa⟩
  simp only at ha hla hoa ⊢
  refine⟨λc2=>⟨⟨λe=>⟨λe2=>?_,λe2=>?_⟩,λe=>?_⟩,?_⟩,λc2=>?_⟩
  ·rw[cnM,if_pos ⟨e,by simpa using e2⟩]
  ·rw[cnM,if_neg (λq=>by rw[q.2]at e2;cases e2)]
  ·rw[cnM,if_neg (λq=>by rw[q.1]at e;cases e)]
  ·rintro _ rfl
   have hst:(b-1).toNat-ja=((b-1).toNat-(ja+1))+1:=by omega
   rw[hst,inM]at hoa
   have hw:W (a+1)=((ja+1+1:Nat):Int):=by rw[cn (by omega)];omega
   refine⟨λe=>?_,λe=>?_⟩
   ·rw[if_pos e]at hoa
    refine⟨by omega,⟨ja+1,hw,by omega,by simp;omega,?_⟩,by rw[hw];omega⟩
    rw[hw,show((ja+1+1:Nat):Int)=a+1 by omega]
    exact hoa
   ·rw[if_neg (by rw[e];simp)]at hoa
    refine⟨⟨ja+1,hw,by omega,by omega,?_⟩,by rw[hw];omega⟩
    rw[hw,show((ja+1+1:Nat):Int)=a+1 by omega]
    exact hoa
  ·have e1:(b-1).toNat-ja=0:=by omega
   rw[e1,inM]at hoa
   have e2:(K-1).toNat-jb=((K-1).toNat-(jb+1))+1:=by omega
   rw[e2,ouM,←hoa]at hob
   have hw:W (b+1)=((jb+1+2:Nat):Int):=by rw[cn (by omega)];omega
   refine⟨⟨jb+1,hw,by omega,by omega,?_⟩,by rw[hw];omega⟩
   rw[hw,show((jb+1+2:Nat):Int)=b+1 by omega]
   exact hob
 ·have e1:(K-1).toNat-jb=0:=by omega
  rw[e1,ouM]at hob
  have hT:bP L p most n=if 0<n∧cA L q n=true then Fd L (ae L q) ⟨l5 K.toNat,aA ls []⟩else(⟨l5 K.toNat,aA ls []⟩,if 0<n then ae L q else q):=by
   unfold bP;rw[hK0,←hob]
  have hol:(aA ls []).length≤400:=by rw[sJ];simp;omega
  generalize aA ls []=ol at hT hol ⊢
  refine⟨by omega,⟨λc2=>?_,λc2=>?_⟩,?_⟩
  ·rw[if_pos c2]
   refine Prod.ext ?_ rfl
   rw[Bool.eq_iff_iff];simp[c2]
  ·rw[if_neg c2]
   refine Prod.ext ?_ rfl
   rw[Bool.eq_iff_iff];simp[c2]
  rintro _ rfl
  simp only
  refine⟨λe=>?_,λe=>by rw[hT,if_neg (of_decide_eq_false e)]⟩
  have e:=of_decide_eq_true e
  rw[hT,if_pos e,if_pos e.1]
  generalize ae L q=q1
  have hix:∀{m:Nat},0<(m:Int)→(bif decide (0≤Mod (ak L (ae L q1)) m)then decide (Mod (ak L (ae L q1)) m<m)else false)=true∧(Mod (ak L (ae L q1)) m).toNat<m:=λ{m} hm=>by
   have:=dr (x:=ak L (ae L q1)) (show 1≤(m:Int) by omega)
   exact⟨bA this.1 this.2,by omega⟩
  have hno:¬0<(ol.length:Int)→∀i:Nat,ol[i]?=none:=λh i=>List.getElem?_eq_none (by omega)
  unfold Fd ixM
  simp only
  refine⟨λs0=>?_,λs0=>⟨λs1=>?_,λs1=>⟨λs2=>?_,λs2=>⟨λs3=>?_,λs3=>⟨λs4=>?_,λs4=>⟨λs5=>?_,λs5=>?_⟩⟩⟩⟩⟩⟩
  ·rw[if_pos (eq_of_beq s0)]
   exact⟨by simp,by omega,rfl⟩
  all_goals
   have s0:¬Mod (ak L q1) 7=0:=by simpa using s0
   rw[if_neg s0]
  ·rw[if_pos (eq_of_beq s1)]
   exact⟨by omega,rfl⟩
  all_goals
   have s1:¬Mod (ak L q1) 7=1:=by simpa using s1
   rw[if_neg s1]
  ·rw[if_pos (eq_of_beq s2)]
   exact⟨λh=>⟨(hix h).1,(hix h).2,λy hy=>by rw[hy]⟩,λh=>by rw[hno h]⟩
  all_goals
   have s2:¬Mod (ak L q1) 7=2:=by simpa using s2
   rw[if_neg s2]
  ·rw[if_pos (eq_of_beq s3)]
   exact⟨λh=>⟨(hix h).1,(hix h).2,λy hy=>by rw[hy]⟩,λh=>by rw[hno h]⟩
  all_goals
   have s3:¬Mod (ak L q1) 7=3:=by simpa using s3
   rw[if_neg s3]
  ·rw[if_pos (eq_of_beq s4)]
   exact⟨λh=>⟨(hix h).1,(hix h).2,λy hy=>by rw[hy]⟩,λh=>by rw[hno h]⟩
  all_goals
   have s4:¬Mod (ak L q1) 7=4:=by simpa using s4
   rw[if_neg s4]
  ·rw[if_pos (eq_of_beq s5)]
   exact⟨λh=>⟨(hix h).1,(hix h).2,λy hy=>by rw[hy];exact⟨by omega,rfl⟩⟩,λh=>by rw[hno h]⟩
  have s5:¬Mod (ak L q1) 7=5:=by simpa using s5
  rw[if_neg s5]
  refine⟨⟨0,rfl,by omega,by simp[nc]⟩,?_⟩
  rintro⟨i,rs⟩ ⟨j,hi,hj,hr⟩
  simp only at hi hr ⊢
  subst hi;subst hr
  refine⟨λf=>⟨by rw[List.length_append,gZ,In];omega,⟨j+1,by rw[cn (by omega)];omega,by omega,by rw[DT,List.append_assoc]⟩,by rw[cn (by omega)];omega⟩,λf=>?_⟩
  obtain rfl:j=25:=by omega
  rfl
def vm(L:List Int)(p:Nat)(most:Int)(n:Int)(h:1≤most∧most≤20):HC Tryz.prog:=⟨22,[.k,.k,.k],[.ref 0 0,.int most,.int n],[.box (.agg [.sl 1 (L.map AV.int) false,.int p])],oA ((⟨L,(bP L p most n).2⟩:Tap),(bP L p most n).1),oB ((⟨L,(bP L p most n).2⟩:Tap),(bP L p most n).1),bc.of_okh λok ok2=>have ok:EP L p most n:=⟨ok,ok2 _ (by simp)⟩;(Qu L p most n h ok).elim λI0 h=>h.elim λm0 h=>h.elim λI1 h=>h.elim λm1 h=>h.elim λI2 h=>h.elim λm2 h=>h.elim λI3 h=>h.elim λI4 h=>h.elim λI5 h=>h.elim λm5 h=>cq (sh:=.k) (enc:=oA) (hB:=oB) (a:=(vl L p most n I0 m0 I1 m1 I2 m2 I3 I4 I5 m5).an) h (by kernel_rfl),ah (by kernel_rfl),eT.of (by simp[hcB,cC,AV.belB,allB,ew,dH,oA,oB,ab (v:=AV.int) (λ_=>rfl),ab (v:=Lnk.v) (λ_=>rfl),ab (v:=Rtr.v) (λ_=>rfl)])⟩
def pQ(L:List Int):Nat→Nat→List Rtr→Nat→List Rtr×Nat
 | 0,_,rs,p=>(rs,p)
 | f+1,i,rs,p=>match rs[i]? with
  | some y=>pQ L f (i+1) (rs.set i ⟨y.id,!cA L p 3⟩) (ae L p)
  | none=>(rs,p)
def GM(L:List Int)(g:Tpl×Nat):List Rtr×Nat:=pQ L g.1.rs.length 0 g.1.rs g.2
def jO(L:List Int)(p:Nat)(most:Int):Tpl×Nat:=(⟨(GM L (bP L p most 0)).1,(bP L p most 0).1.ls⟩,(GM L (bP L p most 0)).2)
def GO(L:List Int)(p:Nat)(most:Int):=okL [.ref 0 0,.int most]∧(.box (.agg [.sl 1 (L.map AV.int) false,.int p]):Blk).ok
def Ms(L:List Int)(p:Nat)(most:Int)(t0:Int×List Rtr×Nat):NF:=⟨[(0,.k,.ref 0 0),(4,.k,.ref 1 0),(5,.k,.ref 2 0),(6,.k,.int t0.1)],[.box (.agg [.sl 1 (L.map AV.int) false,.int t0.2.2]),.box (.agg [.sl 0 [] true,.sl 0 [] true]),.box (.agg [.vec 3,.vec 4]),.vec 2 (t0.2.1.map Rtr.v) (ab (λ_=>rfl) t0.2.1),.vec 5 ((((bP L p most 0).1).ls).map Lnk.v) (ab (λ_=>rfl) (((bP L p most 0).1).ls))]⟩
@[reducible] def GN:Nat→Type
 | 0=>Int×List Rtr×Nat
 | _=>Unit
def pO(r:Tap×Tpl):AV:=.agg [.vec 1,.vec 2]
def pP(r:Tap×Tpl):List (Option Blk):=[some (.box (.agg [.sl 1 (r.1.L.map AV.int) false,.int r.1.p])),some (.vec 2 (r.2.rs.map Rtr.v)),some (.vec 5 (r.2.ls.map Lnk.v))]
def wX(L:List Int)(p:Nat)(most:Int)(I0:(Int×List Rtr×Nat)→Prop)(m0:(Int×List Rtr×Nat)→Nat):Ax Tryz.prog GN (Tap×Tpl):=
 (.req 49 (1≤most∧most≤20) λh1 =>
(.callH [0] (vm L p most 0 h1) 49
(.loop 0 (Ms L p most) I0 m0 (0,((bP L p most 0).1).rs,(bP L p most 0).2) [0,1,65,49,50] λ(t0:Int×List Rtr×Nat) b0 =>
(.br 85 (decide (t0.1<((t0.2.1.map Rtr.v).length:Int))) (.callH [0] (dY L t0.2.2 3) 149
(.say (ck (cond (decide (0≤t0.1)) (decide (t0.1<((t0.2.1.map Rtr.v).length:Int))) false)) (.st 213 Rtr.v t0.2.1 (λy2=>(⟨y2.id,!(cA L t0.2.2 3)⟩:Rtr)) (λR=>Rf (t0.2.1.map Rtr.v) (ck (decide (t0.1.toNat<t0.2.1.length))
(∀y2,t0.2.1[t0.1.toNat]?=some y2→Rf (Rtr.v (⟨y2.id,!(cA L t0.2.2 3)⟩:Rtr))
((R y2))))) λy2 =>
(.bk 0 b0 (W (t0.1+1),t0.2.1.set t0.1.toNat (⟨y2.id,!(cA L t0.2.2 3)⟩:Rtr),ae L t0.2.2) [0,1,2,3,4]))))
(.retH ((⟨L,t0.2.2⟩:Tap),(⟨t0.2.1,((bP L p most 0).1).ls⟩:Tpl)) ⟨[(4,.k,.ref 3 0)],[.box (.agg [.sl 1 (L.map AV.int) false,.int t0.2.2]),.vec 2 (t0.2.1.map Rtr.v) (ab (λ_=>rfl) t0.2.1),.vec 5 ((((bP L p most 0).1).ls).map Lnk.v) (ab (λ_=>rfl) (((bP L p most 0).1).ls)),.box (.agg [.vec 1,.vec 2])]⟩ [0,3,4,1])))))
def B3(L:List Int)(p:Nat)(most:Int)(I0:(Int×List Rtr×Nat)→Prop)(m0:(Int×List Rtr×Nat)→Nat)(r0:Tap×Tpl):=(wX L p most I0 m0).vc pO pP r0
theorem Sv(L:List Int)(p:Nat)(most:Int)(h:1≤most∧most≤20)(ok:GO L p most):∃I0 m0,B3 L p most I0 m0 ((⟨L,(jO L p most).2⟩:Tap),(jO L p most).1):=by
 refine⟨λs=>∃j:Nat,s.1=j∧j≤(bP L p most 0).1.rs.length∧s.2.1.length=(bP L p most 0).1.rs.length∧pQ L ((bP L p most 0).1.rs.length-j) j s.2.1 s.2.2=GM L (bP L p most 0),λs=>(bP L p most 0).1.rs.length-s.1.toNat,?_⟩
 dsimp only[B3,wX,GN,Ax.vp,Ax.vc];simp only[vcU,rfU,List.length_map]
 have hl:(bP L p most 0).1.rs.length≤20:=by
  have hk:=AD (L:=L) (p:=p) (m:=most) (by omega)
  unfold bP
  rw[if_neg (λq=>by have:=q.1;omega)]
  unfold lu
  simp only[gZ];omega
 unfold jO
 generalize bP L p most 0=G at hl ⊢
 refine⟨by omega,⟨0,rfl,Nat.zero_le _,trivial,rfl⟩,?_⟩
 rintro⟨i,rs,q⟩ ⟨j,hi,hj,hr,hm⟩
 simp only at hi hr hm ⊢
 subst hi
 refine⟨λc=>⟨bA (by omega) c,by rw[Int.toNat_natCast];omega,λy hy=>?_⟩,λc=>?_⟩
 ·rw[Int.toNat_natCast]at hy ⊢
  have e:G.1.rs.length-j=(G.1.rs.length-(j+1))+1:=by omega
  rw[e,pQ,hy]at hm
  rw[aU (n:=rs.length) (by omega) (by omega)]
  exact⟨⟨j+1,rfl,by omega,by rw[List.length_set];exact hr,hm⟩,by omega⟩
 ·have e:G.1.rs.length-j=0:=by omega
  rw[e,pQ]at hm
  rw[←hm]
def Sw(L:List Int)(p:Nat)(most:Int)(h:1≤most∧most≤20):HC Tryz.prog:=⟨23,[.k,.k],[.ref 0 0,.int most],[.box (.agg [.sl 1 (L.map AV.int) false,.int p])],pO ((⟨L,(jO L p most).2⟩:Tap),(jO L p most).1),pP ((⟨L,(jO L p most).2⟩:Tap),(jO L p most).1),bc.of_okh λok ok2=>have ok:GO L p most:=⟨ok,ok2 _ (by simp)⟩;(Sv L p most h ok).elim λI0 h=>h.elim λm0 h=>cq (sh:=.k) (enc:=pO) (hB:=pP) (a:=(wX L p most I0 m0).an) h (by kernel_rfl),ah (by kernel_rfl),eT.of (by simp[hcB,cC,AV.belB,allB,ew,dH,pO,pP,ab (v:=AV.int) (λ_=>rfl),ab (v:=Lnk.v) (λ_=>rfl),ab (v:=Rtr.v) (λ_=>rfl)])⟩
theorem sI{L:List Int}:∀{n:Nat} {i:Int} {out:List Int} {p:Nat},(mY L n i out p).1.length=out.length+n
 | 0,i,out,p=>rfl
 | n+1,i,out,p=>by
  have hm:=dr (x:=ak L p) (show 1≤(out.length:Int)+1 by omega)
  rw[mY,sI,fP _ _ _ (by omega)];omega
def wi(L:List Int)(c:Int)(rs:List Rtr):List Int→Int→List Edg→Nat→(Int×List Edg)×Nat
 | [],id,es,p=>((id,es),p)
 | o::l,id,es,p =>
  if Mod (ak L p) 4=0 then wi L c rs l id es (ae L p)
  else if W (id+aI [1,1,1,2,c] (ak L (ae L p)))≤256 then(match rs[o.toNat]? with
   | some r=>wi L c rs l (W (id+aI [1,1,1,2,c] (ak L (ae L p)))) (es++[⟨r.id,W (id+aI [1,1,1,2,c] (ak L (ae L p)))⟩]) (ae L (ae L p))
   | none=>((id,es),p))
  else wi L c rs l (W (id+aI [1,1,1,2,c] (ak L (ae L p)))) es (ae L (ae L p))
def s6(L:List Int)(p:Nat)(g:Tpl):(Int×List Edg)×Nat:=wi L (W (db L (ae L p)-1)) g.rs (gN L g.rs.length (ae L (ae L p))).1 0 [] (gN L g.rs.length (ae L (ae L p))).2
def plaS(L:List Int)(p:Nat)(sub len:Int)(q:Int×List Edg):Pln×Nat:=
 if Mod (ak L p) 5=0 then(⟨dz L (ae L p),len,q.2⟩,ae L (ae L p))
 else if Mod (ak L p) 5=1 then(⟨sub,aI [0,8,24,64,128] (ak L (ae L p)),q.2⟩,ae L (ae L p))
 else if Mod (ak L p) 5=2 then(⟨sub,len,q.2++[⟨aI [0,1,99,100] (ak L (ae L p)),aI [0,1,256,257] (ak L (ae L (ae L p)))⟩]⟩,ae L (ae L (ae L p)))
 else if Mod (ak L p) 5=3 then(match q.2[0]? with
  | some y=>(⟨sub,len,q.2.set 0 ⟨y.router,dz L (ae L p)⟩⟩,ae L (ae L p))
  | none=>(⟨sub,len,q.2⟩,ae L p))
 else(⟨sub,len,q.2++[⟨50,W (q.1+1)⟩]⟩,ae L p)
def iP(L:List Int)(p:Nat)(g:Tpl)(n:Int):Pln×Nat:=
 if 0<n∧cA L (s6 L p g).2 n=true then plaS L (ae L (s6 L p g).2) (Mod (ak L p) 3) (db L (ae L p)) (s6 L p g).1
 else(⟨Mod (ak L p) 3,db L (ae L p),(s6 L p g).1.2⟩,if 0<n then ae L (s6 L p g).2 else(s6 L p g).2)
def Ga(L:List Int)(p:Nat)(g:Tpl)(n:Int):=okL [.ref 0 0,.agg [.sl 2 (g.rs.map Rtr.v) false,.sl 5 (g.ls.map Lnk.v) false],.int n]∧(.box (.agg [.sl 1 (L.map AV.int) false,.int p]):Blk).ok
abbrev fw(L:List Int)(p:Nat)(g:Tpl):=(gN L ((g.rs.map Rtr.v).length:Int) (ae L (ae L p)))
def L1(L:List Int)(p:Nat)(g:Tpl)(n:Int)(t0:Int×Nat×Int×List Edg):NF:=⟨[(0,.k,.ref 0 0),(2,.k,.int n),(4,.k,.ref 1 0),(6,.k,.ref 2 0),(7,.k,.ref 3 0),(8,.k,.int t0.2.2.1),(9,.k,.sl 1 (((fw L p g).1).map AV.int) false),(10,.k,.int t0.1)],[.box (.agg [.sl 1 (L.map AV.int) false,.int t0.2.1]),.box (.agg [.sl 2 (g.rs.map Rtr.v) false,.sl 5 (g.ls.map Lnk.v) false]),.box (.agg [.int 0,.int 0,.sl 0 [] true]),.box (.agg [.int (Mod (ak L p) 3),.int (db L (ae L p)),.vec 4]),.vec 2 (t0.2.2.2.map Edg.v) (ab (λ_=>rfl) t0.2.2.2)]⟩
def L0(L:List Int)(p:Nat)(t0:Int×Nat×Int×List Edg)(t1:Bool×Nat):NF:=⟨[(0,.k,.ref 0 0),(6,.k,.ref 1 0),(7,.k,.ref 2 0),(8,.k,.int t0.2.2.1),(62,.k,.bool t1.1)],[.box (.agg [.sl 1 (L.map AV.int) false,.int t1.2]),.box (.agg [.int 0,.int 0,.sl 0 [] true]),.box (.agg [.int (Mod (ak L p) 3),.int (db L (ae L p)),.vec 3]),.vec 2 (t0.2.2.2.map Edg.v) (ab (λ_=>rfl) t0.2.2.2)]⟩
@[reducible] def FZ:Nat→Type
 | 0=>Int×Nat×Int×List Edg
 | 1=>Bool×Nat
 | _=>Unit
def oX(r:Tap×Pln):AV:=.agg [.int r.2.sub,.int r.2.len,.sl 2 (r.2.es.map Edg.v) false]
def oY(r:Tap×Pln):List (Option Blk):=[some (.box (.agg [.sl 1 (r.1.L.map AV.int) false,.int r.1.p]))]
def wh(L:List Int)(p:Nat)(g:Tpl)(n:Int)(I0:(Int×Nat×Int×List Edg)→Prop)(m0:(Int×Nat×Int×List Edg)→Nat)(I1:Int×Nat×Int×List Edg→(Bool×Nat)→Prop):Ax Tryz.prog FZ (Tap×Pln):=
 (.callH [0] (bv L p 3) 49
(.callH [0] (Hg L (ae L p)) 81
(.req 225 (((g.rs.map Rtr.v).length:Int)≤1000) λh1 =>
(.callH [0] (RB L (ae L (ae L p)) ((g.rs.map Rtr.v).length:Int) h1) 225
(.cmdL (.nilB 113 2 2) (.loop 0 (L1 L p g n) I0 m0 (0,(fw L p g).2,0,[]) [0,1,17,113,273] λ(t0:Int×Nat×Int×List Edg) b0 =>
(.br 69 (decide (t0.1<((((fw L p g).1).map AV.int).length:Int))) (.callH [0] (bv L t0.2.1 4) 85
(.br 117 ((Mod (ak L t0.2.1) 4)==0) (.bk 0 b0 (W (t0.1+1),ae L t0.2.1,t0.2.2.1,t0.2.2.2) [0,1,2,3,4])
(.req 213 ([1,1,1,2,W ((db L (ae L p))-1)]≠[]) λh2 =>
(.callH [0] (fb L (ae L t0.2.1) [1,1,1,2,W ((db L (ae L p))-1)] h2) 213
(.br 293 (decide ((W (t0.2.2.1+(aI [1,1,1,2,W ((db L (ae L p))-1)] (ak L (ae L t0.2.1)))))≤256)) (.el 389 AV.int ((fw L p g).1) (λR=>Rf (((fw L p g).1).map AV.int) (ck (decide (0≤t0.1)) (ck (decide (t0.1<(((fw L p g).1).length:Int)))
(∀x3,((fw L p g).1)[t0.1.toNat]?=some x3 →
(R x3))))) λx3 =>
(.el 421 Rtr.v g.rs (λR=>Rf (g.rs.map Rtr.v) (ck (decide (0≤x3)) (ck (decide (x3<(g.rs.length:Int)))
(∀x4,g.rs[x3.toNat]?=some x4 →
(R x4))))) λx4 =>
(.say (λR=>Rf (α:=List AV) (t0.2.2.2.map Edg.v) (Rf (α:=List AV) [.agg [.int x4.id,.int (W (t0.2.2.1+(aI [1,1,1,2,W ((db L (ae L p))-1)] (ak L (ae L t0.2.1)))))]]
(ck (decide (t0.2.2.2.length+1≤1048576))
R))) (.app 517 Edg.v t0.2.2.2 [(⟨x4.id,W (t0.2.2.1+(aI [1,1,1,2,W ((db L (ae L p))-1)] (ak L (ae L t0.2.1))))⟩:Edg)]
(.bk 0 b0 (W (t0.1+1),ae L (ae L t0.2.1),W (t0.2.2.1+(aI [1,1,1,2,W ((db L (ae L p))-1)] (ak L (ae L t0.2.1)))),t0.2.2.2++[(⟨x4.id,W (t0.2.2.1+(aI [1,1,1,2,W ((db L (ae L p))-1)] (ak L (ae L t0.2.1))))⟩:Edg)]) [0,1,2,3,517])))))
(.bk 0 b0 (W (t0.1+1),ae L (ae L t0.2.1),W (t0.2.2.1+(aI [1,1,1,2,W ((db L (ae L p))-1)] (ak L (ae L t0.2.1)))),t0.2.2.2) [0,1,2,3,4]))))))
(.pass (.join 1 (L0 L p t0) (λ(t1:Bool×Nat)=>I1 t0 t1) (λb1=>(.br 117 (decide (0<n)) (.callH [0] (dY L t0.2.1 n) 149
(.bk 1 b1 (cA L t0.2.1 n,ae L t0.2.1) [0,2,3,4]))
(.bk 1 b1 (false,t0.2.1) [0,2,3,4]))) λ(t1:Bool×Nat) =>
(.br 4 t1.1 (.callH [0] (bv L t1.2 5) 20
(.br 68 ((Mod (ak L t1.2) 5)==0) (.callH [0] (lm L (ae L t1.2)) 84
(.say (Rf (t0.2.2.2.map Edg.v)) (.cmdL (.frzE 3 (t0.2.2.2.map Edg.v) (ab (λ_=>rfl) t0.2.2.2)) (.retH ((⟨L,ae L (ae L t1.2)⟩:Tap),(⟨dz L (ae L t1.2),db L (ae L p),t0.2.2.2⟩:Pln)) ⟨[(6,.k,.ref 1 0)],[.box (.agg [.sl 1 (L.map AV.int) false,.int (((ae L (ae L t1.2)):Nat):Int)]),.box (.agg [.int (dz L (ae L t1.2)),.int (db L (ae L p)),.sl 2 (t0.2.2.2.map Edg.v) false])]⟩ [0,1]))))
(.br 100 ((Mod (ak L t1.2) 5)==1) (.req 132 ([0,8,24,64,128]≠[]) λh5 =>
(.callH [0] (fb L (ae L t1.2) [0,8,24,64,128] h5) 132
(.say (Rf (t0.2.2.2.map Edg.v)) (.cmdL (.frzE 3 (t0.2.2.2.map Edg.v) (ab (λ_=>rfl) t0.2.2.2)) (.retH ((⟨L,ae L (ae L t1.2)⟩:Tap),(⟨Mod (ak L p) 3,aI [0,8,24,64,128] (ak L (ae L t1.2)),t0.2.2.2⟩:Pln)) ⟨[(6,.k,.ref 1 0)],[.box (.agg [.sl 1 (L.map AV.int) false,.int (((ae L (ae L t1.2)):Nat):Int)]),.box (.agg [.int (Mod (ak L p) 3),.int (aI [0,8,24,64,128] (ak L (ae L t1.2))),.sl 2 (t0.2.2.2.map Edg.v) false])]⟩ [0,1])))))
(.br 132 ((Mod (ak L t1.2) 5)==2) (.req 196 ([0,1,99,100]≠[]) λh6 =>
(.callH [0] (fb L (ae L t1.2) [0,1,99,100] h6) 196
(.req 244 ([0,1,256,257]≠[]) λh7 =>
(.callH [0] (fb L (ae L (ae L t1.2)) [0,1,256,257] h7) 244
(.say (λR=>Rf (α:=List AV) (t0.2.2.2.map Edg.v) (Rf (α:=List AV) [.agg [.int (aI [0,1,99,100] (ak L (ae L t1.2))),.int (aI [0,1,256,257] (ak L (ae L (ae L t1.2))))]]
(ck (decide (t0.2.2.2.length+1≤1048576))
R))) (.app 292 Edg.v t0.2.2.2 [(⟨aI [0,1,99,100] (ak L (ae L t1.2)),aI [0,1,256,257] (ak L (ae L (ae L t1.2)))⟩:Edg)]
(.say (Rf ((t0.2.2.2++[(⟨aI [0,1,99,100] (ak L (ae L t1.2)),aI [0,1,256,257] (ak L (ae L (ae L t1.2)))⟩:Edg)]).map Edg.v)) (.cmdL (.frzE 292 ((t0.2.2.2++[(⟨aI [0,1,99,100] (ak L (ae L t1.2)),aI [0,1,256,257] (ak L (ae L (ae L t1.2)))⟩:Edg)]).map Edg.v) (ab (λ_=>rfl) (t0.2.2.2++[(⟨aI [0,1,99,100] (ak L (ae L t1.2)),aI [0,1,256,257] (ak L (ae L (ae L t1.2)))⟩:Edg)]))) (.retH ((⟨L,ae L (ae L (ae L t1.2))⟩:Tap),(⟨Mod (ak L p) 3,db L (ae L p),t0.2.2.2++[(⟨aI [0,1,99,100] (ak L (ae L t1.2)),aI [0,1,256,257] (ak L (ae L (ae L t1.2)))⟩:Edg)]⟩:Pln)) ⟨[(6,.k,.ref 1 0)],[.box (.agg [.sl 1 (L.map AV.int) false,.int (((ae L (ae L (ae L t1.2))):Nat):Int)]),.box (.agg [.int (Mod (ak L p) 3),.int (db L (ae L p)),.sl 2 ((t0.2.2.2++[(⟨aI [0,1,99,100] (ak L (ae L t1.2)),aI [0,1,256,257] (ak L (ae L (ae L t1.2)))⟩:Edg)]).map Edg.v) false])]⟩ [0,1])))))))))
(.br 164 ((Mod (ak L t1.2) 5)==3) (.br 228 (decide (0<((t0.2.2.2.map Edg.v).length:Int))) (.callH [0] (lm L (ae L t1.2)) 276
(.say (ck (decide (0<((t0.2.2.2.map Edg.v).length:Int)))) (.st 324 Edg.v t0.2.2.2 (λy8=>(⟨y8.router,dz L (ae L t1.2)⟩:Edg)) (λR=>Rf (t0.2.2.2.map Edg.v) (ck (decide (0<t0.2.2.2.length))
(∀y8,t0.2.2.2[0]?=some y8→Rf (Edg.v (⟨y8.router,dz L (ae L t1.2)⟩:Edg))
((R y8))))) λy8 =>
(.say (Rf ((t0.2.2.2.set 0 (⟨y8.router,dz L (ae L t1.2)⟩:Edg)).map Edg.v)) (.cmdL (.frzE 3 ((t0.2.2.2.set 0 (⟨y8.router,dz L (ae L t1.2)⟩:Edg)).map Edg.v) (ab (λ_=>rfl) (t0.2.2.2.set 0 (⟨y8.router,dz L (ae L t1.2)⟩:Edg)))) (.retH ((⟨L,ae L (ae L t1.2)⟩:Tap),(⟨Mod (ak L p) 3,db L (ae L p),t0.2.2.2.set 0 (⟨y8.router,dz L (ae L t1.2)⟩:Edg)⟩:Pln)) ⟨[(6,.k,.ref 1 0)],[.box (.agg [.sl 1 (L.map AV.int) false,.int (((ae L (ae L t1.2)):Nat):Int)]),.box (.agg [.int (Mod (ak L p) 3),.int (db L (ae L p)),.sl 2 ((t0.2.2.2.set 0 (⟨y8.router,dz L (ae L t1.2)⟩:Edg)).map Edg.v) false])]⟩ [0,1]))))))
(.say (Rf (t0.2.2.2.map Edg.v)) (.cmdL (.frzE 3 (t0.2.2.2.map Edg.v) (ab (λ_=>rfl) t0.2.2.2)) (.retH ((⟨L,ae L t1.2⟩:Tap),(⟨Mod (ak L p) 3,db L (ae L p),t0.2.2.2⟩:Pln)) ⟨[(6,.k,.ref 1 0)],[.box (.agg [.sl 1 (L.map AV.int) false,.int (ae L t1.2)]),.box (.agg [.int (Mod (ak L p) 3),.int (db L (ae L p)),.sl 2 (t0.2.2.2.map Edg.v) false])]⟩ [0,1]))))
(.say (λR=>Rf (α:=List AV) (t0.2.2.2.map Edg.v) (Rf (α:=List AV) [.agg [.int 50,.int (W (t0.2.2.1+1))]]
(ck (decide (t0.2.2.2.length+1≤1048576))
R))) (.app 260 Edg.v t0.2.2.2 [(⟨50,W (t0.2.2.1+1)⟩:Edg)]
(.say (Rf ((t0.2.2.2++[(⟨50,W (t0.2.2.1+1)⟩:Edg)]).map Edg.v)) (.cmdL (.frzE 260 ((t0.2.2.2++[(⟨50,W (t0.2.2.1+1)⟩:Edg)]).map Edg.v) (ab (λ_=>rfl) (t0.2.2.2++[(⟨50,W (t0.2.2.1+1)⟩:Edg)]))) (.retH ((⟨L,ae L t1.2⟩:Tap),(⟨Mod (ak L p) 3,db L (ae L p),t0.2.2.2++[(⟨50,W (t0.2.2.1+1)⟩:Edg)]⟩:Pln)) ⟨[(6,.k,.ref 1 0)],[.box (.agg [.sl 1 (L.map AV.int) false,.int (ae L t1.2)]),.box (.agg [.int (Mod (ak L p) 3),.int (db L (ae L p)),.sl 2 ((t0.2.2.2++[(⟨50,W (t0.2.2.1+1)⟩:Edg)]).map Edg.v) false])]⟩ [0,1]))))))))))
(.say (Rf (t0.2.2.2.map Edg.v)) (.cmdL (.frzE 3 (t0.2.2.2.map Edg.v) (ab (λ_=>rfl) t0.2.2.2)) (.retH ((⟨L,t1.2⟩:Tap),(⟨Mod (ak L p) 3,db L (ae L p),t0.2.2.2⟩:Pln)) ⟨[(6,.k,.ref 1 0)],[.box (.agg [.sl 1 (L.map AV.int) false,.int t1.2]),.box (.agg [.int (Mod (ak L p) 3),.int (db L (ae L p)),.sl 2 (t0.2.2.2.map Edg.v) false])]⟩ [0,1])))))))))))))
def AW(L:List Int)(p:Nat)(g:Tpl)(n:Int)(I0:(Int×Nat×Int×List Edg)→Prop)(m0:(Int×Nat×Int×List Edg)→Nat)(I1:Int×Nat×Int×List Edg→(Bool×Nat)→Prop)(r0:Tap×Pln):=(wh L p g n I0 m0 I1).vc oX oY r0
theorem Rs(L:List Int)(p:Nat)(g:Tpl)(n:Int)(h:g.rs.length≤100)(ok:Ga L p g n):∃I0 m0 I1,AW L p g n I0 m0 I1 ((⟨L,(iP L p g n).2⟩:Tap),(iP L p g n).1):=by
 refine⟨λs=>∃j:Nat,s.1=j∧j≤(gN L g.rs.length (ae L (ae L p))).1.length∧s.2.2.2.length≤j∧wi L (W (db L (ae L p)-1)) g.rs ((gN L g.rs.length (ae L (ae L p))).1.drop j) s.2.2.1 s.2.2.2 s.2.1=s6 L p g,
  λs=>(gN L g.rs.length (ae L (ae L p))).1.length-s.1.toNat,λs b=>b=(decide (0<n∧cA L s.2.1 n=true),if 0<n then ae L s.2.1 else s.2.1),?_⟩
 dsimp only[AW,wh,FZ,fw,Ax.vp,Ax.vc];simp only[vcU,rfU,List.length_map]
 obtain⟨f1,f2⟩:=wz (L:=L) (n:=(g.rs.length:Int)) (p:=ae L (ae L p)) (by omega)
 have f3:(gN L (g.rs.length:Int) (ae L (ae L p))).1.length=g.rs.length:=by
  unfold gN
  rw[sI];simp
 refine⟨by omega,⟨0,rfl,Nat.zero_le _,by simp,rfl⟩,?_⟩
 unfold iP
 generalize s6 L p g=R
 generalize (gN L (g.rs.length:Int) (ae L (ae L p))).1=o at f1 f2 f3 ⊢
 rintro⟨i,q,id,es⟩ ⟨j,hi,hj,hle,hr⟩
 simp only at hi hle hr ⊢
 subst hi
 refine⟨λc=>?_,λc=>?_⟩
 ·have hx:=List.getElem?_eq_getElem (show j<o.length by omega)
  have hd:o.drop j=o[j]'(by omega)::o.drop (j+1):=List.drop_eq_getElem_cons (by omega)
  have hm:=f2 (o[j]'(by omega)) (List.getElem_mem _)
  generalize o[j]'(by omega)=x at hx hd hm
  rw[hd,wi]at hr
  rw[aU (n:=o.length) (by omega) (by omega)]
  refine⟨λe=>?_,λe=>⟨by simp,λe2=>?_,λe2=>?_⟩⟩
  ·rw[if_pos (eq_of_beq e)]at hr
   exact⟨⟨j+1,rfl,by omega,by omega,hr⟩,by omega⟩
  ·rw[if_neg (by simpa using e),if_pos e2]at hr
   refine⟨by omega,c,λx3 h3=>?_⟩
   rw[Int.toNat_natCast,hx]at h3;cases h3
   refine⟨hm.1,hm.2,λr h4=>?_⟩
   rw[h4]at hr
   exact⟨by omega,⟨j+1,rfl,by omega,by simp;omega,hr⟩,by omega⟩
  ·rw[if_neg (by simpa using e),if_neg e2]at hr
   exact⟨⟨j+1,rfl,by omega,by omega,hr⟩,by omega⟩
 ·have e1:o.drop j=[]:=List.drop_eq_nil_of_le (by omega)
  rw[e1,wi]at hr
  rw[←hr]
  have hle2:es.length≤1000:=by omega
  refine⟨⟨λc2=>?_,λc2=>?_⟩,?_⟩
  ·rw[if_pos c2]
   refine Prod.ext ?_ rfl
   rw[Bool.eq_iff_iff];simp[c2]
  ·rw[if_neg c2]
   refine Prod.ext ?_ rfl
   rw[Bool.eq_iff_iff];simp[c2]
  rintro _ rfl
  simp only
  refine⟨λe=>?_,λe=>by rw[if_neg (of_decide_eq_false e)]⟩
  have e:=of_decide_eq_true e
  rw[if_pos e,if_pos e.1]
  generalize ae L q=q1
  unfold plaS
  simp only
  refine⟨λs0=>by rw[if_pos (eq_of_beq s0)],λs0=>?_⟩
  rw[if_neg (by simpa using s0)]
  refine⟨λs1=>by rw[if_pos (eq_of_beq s1)];exact⟨by simp,rfl⟩,λs1=>?_⟩
  rw[if_neg (by simpa using s1)]
  refine⟨λs2=>by rw[if_pos (eq_of_beq s2)];exact⟨by simp,by simp,by omega,rfl⟩,λs2=>?_⟩
  rw[if_neg (by simpa using s2)]
  refine⟨λs3=>?_,λs3=>?_⟩
  ·rw[if_pos (eq_of_beq s3)]
   refine⟨λh=>⟨h,by omega,λy hy=>by rw[hy]⟩,λh=>by rw[List.getElem?_eq_none (by omega)]⟩
  ·rw[if_neg (by simpa using s3)]
   exact⟨by omega,rfl⟩
def Rt(L:List Int)(p:Nat)(g:Tpl)(n:Int)(h:g.rs.length≤100):HC Tryz.prog:=⟨24,[.k,(.a [(.s 2),(.s 5)]),.k],[.ref 0 0,.agg [.sl 2 (g.rs.map Rtr.v) false,.sl 5 (g.ls.map Lnk.v) false],.int n],[.box (.agg [.sl 1 (L.map AV.int) false,.int p])],oX ((⟨L,(iP L p g n).2⟩:Tap),(iP L p g n).1),oY ((⟨L,(iP L p g n).2⟩:Tap),(iP L p g n).1),bc.of_okh λok ok2=>have ok:Ga L p g n:=⟨ok,ok2 _ (by simp)⟩;(Rs L p g n h ok).elim λI0 h=>h.elim λm0 h=>h.elim λI1 h=>cq (sh:=(.a [.k,.k,(.s 2)])) (enc:=oX) (hB:=oY) (a:=(wh L p g n I0 m0 I1).an) h (by kernel_rfl),ah (by kernel_rfl),eT.of (by simp[hcB,cC,AV.belB,allB,ew,dH,oX,oY,ab (v:=AV.int) (λ_=>rfl),ab (v:=Lnk.v) (λ_=>rfl),ab (v:=Rtr.v) (λ_=>rfl)])⟩
def yS(t:Tpl)(r:Int):Bool:=(aB t==0) && (match t.rs.find? (isR r)with
 | some x=>x.cap
 | none=>false)
def IZ(t:Tpl)(r:Int):=okL [.agg [.sl 2 (t.rs.map Rtr.v) false,.sl 5 (t.ls.map Lnk.v) false],.int r]
def NR(t:Tpl)(r:Int)(t0:Int):NF:=⟨[(1,.k,.int r),(2,.k,.ref 0 0),(5,.k,.int t0)],[.box (.agg [.sl 2 (t.rs.map Rtr.v) false,.sl 5 (t.ls.map Lnk.v) false])]⟩
@[reducible] def IX:Nat→Type
 | 0=>Int
 | _=>Unit
def yU(r:Bool):AV:=.bool r
def yT(t:Tpl)(r:Int)(I0:Int→Prop)(m0:Int→Nat):Ax Tryz.prog IX (Bool):=
 (.callP (kg t)
(.br 80 ((aB t) != 0) (.ret (false))
(.loop 0 (NR t r) I0 m0 ((0):Int) [0] λ(t0:Int) b0 =>
(.br 81 (decide (t0<((t.rs.map Rtr.v).length:Int))) (.el 129 Rtr.v t.rs (λR=>Rf (t.rs.map Rtr.v) (ck (decide (0≤t0)) (ck (decide (t0<(t.rs.length:Int)))
(∀x1,t.rs[t0.toNat]?=some x1 →
(R x1))))) λx1 =>
(.br 209 (x1.id==r) (.el 257 Rtr.v t.rs (λR=>Rf (t.rs.map Rtr.v) (ck (decide (0≤t0)) (ck (decide (t0<(t.rs.length:Int)))
(∀x2,t.rs[t0.toNat]?=some x2 →
(R x2))))) λx2 =>
(.ret (x2.cap)))
(.bk 0 b0 ((W (t0+1)):Int) [0])))
(.ret (false))))))
def CF(t:Tpl)(r:Int)(I0:Int→Prop)(m0:Int→Nat)(r0:Bool):=(yT t r I0 m0).vp yU r0
theorem Uh(t:Tpl)(r:Int)(ok:IZ t r):∃I0 m0,CF t r I0 m0 (yS t r):=by
 refine⟨λi=>aG t.rs (λx=>isR r x=false) i,λi=>t.rs.length-i.toNat,?_⟩
 simp only[IZ,okU,Blk.ok,az,List.length_map]at ok
 dsimp only[CF,yT,IX,Ax.vp,Ax.vc];simp only[vcU,rfU,List.length_map]
 unfold yS
 by_cases hc:aB t=0
 case neg=>exact⟨λ_=>by rw[beq_eq_false_iff_ne.mpr hc];rfl,λh=>by simp[hc]at h⟩
 refine⟨λh=>by simp[hc]at h,λ_=>⟨aG.zero,λi h=>⟨λc=>⟨h.idx,c,λx hx=>⟨λq=>⟨h.idx,c,λy hy=>?_⟩,λq=>h.step (by omega) hx q⟩⟩,λc=>?_⟩⟩⟩
 ·rw[hx]at hy;cases hy
  rw[qy h hx q,hc];simp
 ·rw[Cr h c,hc];rfl
def IY(t:Tpl)(r:Int):PC Tryz.prog:=⟨82,[(.a [(.s 2),(.s 5)]),.k],[.agg [.sl 2 (t.rs.map Rtr.v) false,.sl 5 (t.ls.map Lnk.v) false],.int r],yU (yS t r),ao.of_ok λok=>(Uh t r ok).elim λI0 h=>h.elim λm0 h=>aj (sh:=.k) (enc:=yU) (a:=(yT t r I0 m0).an) h (by kernel_rfl) (AV.pureB_ok rfl),ah (by kernel_rfl)⟩
def FQ(l:List Int)(n:Int):Nat:=l.findIdx λx=>!decide (x<n)
def tc(l:List Int)(n:Int):List Int:=if l[FQ l n]?=some n then l else f8 l (FQ l n) n
def SC(l:List Int)(n:Int):=okL [.sl 1 (l.map AV.int) false,.int n]
def MA(l:List Int)(n:Int)(t0:Int):NF:=⟨[(0,.k,.sl 1 (l.map AV.int) false),(1,.k,.int n),(5,.k,.int t0)],[]⟩
def M9(l:List Int)(n:Int)(t0:Int)(t1:Bool):NF:=⟨[(0,.k,.sl 1 (l.map AV.int) false),(1,.k,.int n),(5,.k,.int t0),(18,.k,.bool t1)],[]⟩
def M8(l:List Int)(n:Int)(t0:Int)(t2:Bool):NF:=⟨[(0,.k,.sl 1 (l.map AV.int) false),(1,.k,.int n),(5,.k,.int t0),(32,.k,.bool t2)],[]⟩
@[reducible] def Ho:Nat→Type
 | 0=>Int
 | 1=>Bool
 | 2=>Bool
 | _=>Unit
def xq(r:List Int):AV:=.sl 1 (r.map AV.int) false
def xp(l:List Int)(n:Int)(I0:Int→Prop)(m0:Int→Nat)(I1:Int→Bool→Prop)(I2:Int→Bool→Bool→Prop):Ax Tryz.prog Ho ((List Int)):=
 (.loop 0 (MA l n) I0 m0 ((0):Int) [] λ(t0:Int) b0 =>
(.pass (.join 1 (M9 l n t0) (λ(t1:Bool)=>I1 t0 t1) (λb1=>(.br 80 (decide (t0<((l.map AV.int).length:Int))) (.el 112 AV.int l (λR=>Rf (l.map AV.int) (ck (decide (0≤t0)) (ck (decide (t0<(l.length:Int)))
(∀x1,l[t0.toNat]?=some x1 →
(R x1))))) λx1 =>
(.bk 1 b1 ((decide (x1<n)):Bool) []))
(.bk 1 b1 ((false):Bool) []))) λ(t1:Bool) =>
(.br 0 t1 (.bk 0 b0 ((W (t0+1)):Int) [])
(.pass (.join 2 (M8 l n t0) (λ(t2:Bool)=>I2 t0 t1 t2) (λb2=>(.br 80 (decide (t0<((l.map AV.int).length:Int))) (.el 112 AV.int l (λR=>Rf (l.map AV.int) (ck (decide (0≤t0)) (ck (decide (t0<(l.length:Int)))
(∀x2,l[t0.toNat]?=some x2 →
(R x2))))) λx2 =>
(.bk 2 b2 ((x2==n):Bool) []))
(.bk 2 b2 ((false):Bool) []))) λ(t2:Bool) =>
(.br 0 t2 (.ret (l))
(.say (λR=>Rf (α:=List AV) (l.map AV.int) (ck (dD l.length 0 t0 (l.length:Int))
R)) (.sub 64 AV.int l false
(.say (λR=>Rf (α:=List AV) [] (Rf (α:=List AV) (((l.take t0.toNat).drop 0).map AV.int)
(ck (decide (0+((l.take t0.toNat).drop 0).length≤1048576))
R))) (.app 80 AV.int [] ((l.take t0.toNat).drop 0)
(.say (λR=>Rf (α:=List AV) (((l.take t0.toNat).drop 0).map AV.int) (Rf (α:=List AV) [.int n]
(ck (decide (((l.take t0.toNat).drop 0).length+1≤1048576))
R))) (.app 160 AV.int ((l.take t0.toNat).drop 0) [n]
(.say (λR=>Rf (α:=List AV) (l.map AV.int) (ck (dD l.length t0 (l.length:Int) (l.length:Int))
R)) (.sub 240 AV.int l false
(.say (λR=>Rf (α:=List AV) ((((l.take t0.toNat).drop 0)++[n]).map AV.int) (Rf (α:=List AV) (((l.take ((l.length:Int).toNat)).drop t0.toNat).map AV.int)
(ck (decide ((((l.take t0.toNat).drop 0)++[n]).length+((l.take ((l.length:Int).toNat)).drop t0.toNat).length≤1048576))
R))) (.app 256 AV.int (((l.take t0.toNat).drop 0)++[n]) ((l.take ((l.length:Int).toNat)).drop t0.toNat)
(.say (Rf (((((l.take t0.toNat).drop 0)++[n])++((l.take ((l.length:Int).toNat)).drop t0.toNat)).map AV.int)) (.cmdL (.frzE 256 (((((l.take t0.toNat).drop 0)++[n])++((l.take ((l.length:Int).toNat)).drop t0.toNat)).map AV.int) (ab (λ_=>rfl) ((((l.take t0.toNat).drop 0)++[n])++((l.take ((l.length:Int).toNat)).drop t0.toNat)))) (.ret ((((l.take t0.toNat).drop 0)++[n])++((l.take ((l.length:Int).toNat)).drop t0.toNat))))))))))))))))))))))
def BK(l:List Int)(n:Int)(I0:Int→Prop)(m0:Int→Nat)(I1:Int→Bool→Prop)(I2:Int→Bool→Bool→Prop)(r0:List Int):=(xp l n I0 m0 I1 I2).vp xq r0
theorem SA(l:List Int)(n:Int)(h:l.length≤100000)(ok:SC l n):∃I0 m0 I1 I2,BK l n I0 m0 I1 I2 (tc l n):=by
 refine⟨λi=>aG l (λx=>x<n) i,λi=>l.length-i.toNat,λi b=>b=true↔∃x,l[i.toNat]?=some x∧x<n,λi _ b=>b=true↔l[i.toNat]?=some n,?_⟩
 dsimp only[BK,xp,Ho,Ax.vp,Ax.vc];simp only[vcU,rfU,List.length_map]
 refine⟨aG.zero,λt hI=>?_⟩
 obtain⟨j,rfl,hj,ha⟩:=hI
 have hI:aG l (λx=>x<n) ((j:Nat):Int):=⟨j,rfl,hj,ha⟩
 simp only[Int.toNat_natCast]
 refine⟨⟨λc=>⟨by omega,c,λx hx=>⟨λq=>⟨x,hx,q⟩,λ⟨y,hy,q⟩=>by rw[hx]at hy;cases hy;exact q⟩⟩,λc=>⟨nofun,λ⟨y,hy,_⟩=>by have:=ap hy;omega⟩⟩,λb hb=>⟨λe=>?_,λe=>?_⟩⟩
 ·obtain⟨x,hx,q⟩:=hb.mp e
  exact hI.step (by omega) (by rw[Int.toNat_natCast];exact hx) q
 ·have hp:FQ l n=j:=by
   unfold FQ
   by_cases ee:j=l.length
   ·subst ee
    rw[List.take_length]at ha
    rw[List.findIdx_eq_length]
    intro y hy
    simp[ha y hy]
   ·rw[List.findIdx_eq (by omega)]
    refine⟨?_,λi hi=>?_⟩
    ·have:¬l[j]'(by omega)<n:=λq=>by
      have:=hb.mpr ⟨_,List.getElem?_eq_getElem (by omega),q⟩
      rw[e]at this;cases this
     simpa using this
    ·have:=ha (l[i]'(by omega)) (List.mem_take_iff_getElem.mpr ⟨i,by omega,rfl⟩)
     simp[this]
  refine⟨⟨λc=>⟨by omega,c,λx hx=>?_⟩,λc=>⟨nofun,λq=>by have:=ap q;omega⟩⟩,λb2 hb2=>⟨λe2=>?_,λe2=>?_⟩⟩
  ·rw[hx,beq_iff_eq];exact⟨λq=>by rw[q],λq=>Option.some.inj q⟩
  ·rw[tc,hp,if_pos (hb2.mp e2)]
  ·have h2:¬l[j]?=some n:=λq=>by rw[hb2.mpr q]at e2;cases e2
   have hi:(((l.take j).drop 0)++[n])++((l.take l.length).drop j)=f8 l j n:=by have:=jS (l:=l) (k:=j) (x:=n);rwa [Int.toNat_natCast]at this
   rw[hi,tc,hp,if_neg h2]
   exact⟨by simp[dD];omega,by simp;omega,by simp;omega,by simp[dD];omega,by simp;omega,rfl⟩
def SB(l:List Int)(n:Int)(h:l.length≤100000):PC Tryz.prog:=⟨139,[(.s 1),.k],[.sl 1 (l.map AV.int) false,.int n],xq (tc l n),ao.of_ok λok=>(SA l n h ok).elim λI0 h=>h.elim λm0 h=>h.elim λI1 h=>h.elim λI2 h=>aj (sh:=(.s 1)) (enc:=xq) (a:=(xp l n I0 m0 I1 I2).an) h (by kernel_rfl) (AV.pureB_ok rfl),ah (by kernel_rfl)⟩
theorem tb(l:List Int)(n:Int):(tc l n).length≤l.length+1:=by
 unfold tc
 split
 ·omega
 ·rw[fP _ _ _ (show FQ l n≤l.length from List.findIdx_le_length)];exact Nat.le_refl _
def fS(t:Tpl)(s:List Int×List Int)(q:Int):List Int×List Int:=if yS t q=true then(s.1,tc s.2 q)else if q∈s.1 then s else(s.1++[q],s.2)
def tw(t:Tpl)(d:List Int):Nat→Nat→List Int→List Int→List Int
 | 0,_,_,out=>out
 | f+1,i,seen,out=>match seen[i]? with
  | some x=>tw t d f (i+1) ((bD t d x).foldl (fS t) (seen,out)).1 ((bD t d x).foldl (fS t) (seen,out)).2
  | none=>out
def ik(t:Tpl)(f g:Int):List Int:=if hs5 t f=false∨hs5 t g=false∨f=g then []else tw t (to6 t g) 25 0 [f] []
def SN(t:Tpl)(from_:Int)(to_:Int):=okL [.agg [.sl 2 (t.rs.map Rtr.v) false,.sl 5 (t.ls.map Lnk.v) false],.int from_,.int to_]
def MG(t:Tpl)(from_:Int)(to_:Int)(t0:Bool):NF:=⟨[(1,.k,.int from_),(2,.k,.int to_),(3,.k,.ref 0 0),(27,.k,.bool t0)],[.box (.agg [.sl 2 (t.rs.map Rtr.v) false,.sl 5 (t.ls.map Lnk.v) false])]⟩
def MF(t:Tpl)(to_:Int)(t1:List Int×Int×List Int):NF:=⟨[(3,.k,.ref 0 0),(7,.k,.sl 1 ((to6 t to_).map AV.int) false),(8,.k,.vec 1),(9,(.s 1),.sl 1 (t1.1.map AV.int) false),(10,.k,.int t1.2.1)],[.box (.agg [.sl 2 (t.rs.map Rtr.v) false,.sl 5 (t.ls.map Lnk.v) false]),.vec 1 (t1.2.2.map AV.int) (ab (λ_=>rfl) t1.2.2)]⟩
def ME(t:Tpl)(to_:Int)(t1:List Int×Int×List Int)(x2:Int)(t2:List Int×Int×List Int):NF:=⟨[(3,.k,.ref 0 0),(7,.k,.sl 1 ((to6 t to_).map AV.int) false),(8,.k,.vec 1),(9,(.s 1),.sl 1 (t2.1.map AV.int) false),(10,.k,.int t1.2.1),(11,.k,.sl 1 ((bD t (to6 t to_) x2).map AV.int) false),(12,.k,.int t2.2.1)],[.box (.agg [.sl 2 (t.rs.map Rtr.v) false,.sl 5 (t.ls.map Lnk.v) false]),.vec 1 (t2.2.2.map AV.int) (ab (λ_=>rfl) t2.2.2)]⟩
@[reducible] def HF:Nat→Type
 | 0=>Bool
 | 1=>(List Int)×Int×List Int
 | 2=>(List Int)×Int×List Int
 | _=>Unit
def xC(r:List Int):AV:=.sl 1 (r.map AV.int) false
def xB(t:Tpl)(from_:Int)(to_:Int)(I0:Bool→Prop)(I1:Bool→(List Int×Int×List Int)→Prop)(m1:Bool→(List Int×Int×List Int)→Nat)(I2:Bool→(List Int)×Int×List Int→Int→(List Int×Int×List Int)→Prop)(m2:Bool→(List Int)×Int×List Int→Int→(List Int×Int×List Int)→Nat):Ax Tryz.prog HF ((List Int)):=
 (.pass (.pass (.join 0 (MG t from_ to_) (λ(t0:Bool)=>I0 t0) (λb0=>(.callP (nG t from_)
(.br 112 (!(hs5 t from_)) (.bk 0 b0 ((true):Bool) [0])
(.callP (nG t to_)
(.br 208 (!(hs5 t to_)) (.bk 0 b0 ((true):Bool) [0])
(.bk 0 b0 ((from_==to_):Bool) [0])))))) λ(t0:Bool) =>
(.br 1 t0 (.ret ([]))
(.req 33 (aB t=0) λh1 =>
(.callP (ET t to_ h1)
(.own 81 (.loop 1 (MF t to_) (I1 t0) (m1 t0) ([],0,[from_]) [0,81] λ(t1:List Int×Int×List Int) b1 =>
(.br 66 (decide (t1.2.1<((t1.2.2.map AV.int).length:Int))) (.say (ck (cond (decide (0≤t1.2.1)) (decide (t1.2.1<((t1.2.2.map AV.int).length:Int))) false)) (.el 146 AV.int t1.2.2 (λR=>Rf (t1.2.2.map AV.int) (ck (decide (t1.2.1.toNat<t1.2.2.length))
(∀x2,t1.2.2[t1.2.1.toNat]?=some x2 →
(R x2)))) λx2 =>
(.req 162 (okD t (to6 t to_)) λh3 =>
(.callP (EX t (to6 t to_) x2 h3)
(.loop 2 (ME t to_ t1 x2) (I2 t0 t1 x2) (m2 t0 t1 x2) (t1.1,0,t1.2.2) [0,1] λ(t2:List Int×Int×List Int) b2 =>
(.br 66 (decide (t2.2.1<(((bD t (to6 t to_) x2).map AV.int).length:Int))) (.el 114 AV.int (bD t (to6 t to_) x2) (λR=>Rf ((bD t (to6 t to_) x2).map AV.int) (ck (decide (0≤t2.2.1)) (ck (decide (t2.2.1<((bD t (to6 t to_) x2).length:Int)))
(∀x4,(bD t (to6 t to_) x2)[t2.2.1.toNat]?=some x4 →
(R x4))))) λx4 =>
(.callP (IY t x4)
(.br 162 (yS t x4) (.el 210 AV.int (bD t (to6 t to_) x2) (λR=>Rf ((bD t (to6 t to_) x2).map AV.int) (ck (decide (0≤t2.2.1)) (ck (decide (t2.2.1<((bD t (to6 t to_) x2).length:Int)))
(∀x5,(bD t (to6 t to_) x2)[t2.2.1.toNat]?=some x5 →
(R x5))))) λx5 =>
(.req 242 (t2.1.length≤100000) λh6 =>
(.callP (SB t2.1 x5 h6)
(.bk 2 b2 (tc t2.1 x5,W (t2.2.1+1),t2.2.2) [0,1]))))
(.el 210 AV.int (bD t (to6 t to_) x2) (λR=>Rf ((bD t (to6 t to_) x2).map AV.int) (ck (decide (0≤t2.2.1)) (ck (decide (t2.2.1<((bD t (to6 t to_) x2).length:Int)))
(∀x7,(bD t (to6 t to_) x2)[t2.2.1.toNat]?=some x7 →
(R x7))))) λx7 =>
(.callP (jW t2.2.2 x7)
(.say (ck (dj [(t2.2.2.map AV.int)])) (.br 274 (!(decide (x7∈t2.2.2))) (.el 322 AV.int (bD t (to6 t to_) x2) (λR=>Rf ((bD t (to6 t to_) x2).map AV.int) (ck (decide (0≤t2.2.1)) (ck (decide (t2.2.1<((bD t (to6 t to_) x2).length:Int)))
(∀x8,(bD t (to6 t to_) x2)[t2.2.1.toNat]?=some x8 →
(R x8))))) λx8 =>
(.own 354 (.say (λR=>Rf (α:=List AV) (t2.2.2.map AV.int) (Rf (α:=List AV) [.int x8]
(ck (decide (t2.2.2.length+1≤1048576))
R))) (.app 370 AV.int t2.2.2 [x8]
(.bk 2 b2 (t2.1,W (t2.2.1+1),t2.2.2++[x8]) [0,370])))))
(.bk 2 b2 (t2.1,W (t2.2.1+1),t2.2.2) [0,1]))))))))
(.bk 1 b1 (t2.1,W (t1.2.1+1),t2.2.2) [0,1])))))))
(.ret (t1.1)))))))))))
def BR(t:Tpl)(from_:Int)(to_:Int)(I0:Bool→Prop)(I1:Bool→(List Int×Int×List Int)→Prop)(m1:Bool→(List Int×Int×List Int)→Nat)(I2:Bool→(List Int)×Int×List Int→Int→(List Int×Int×List Int)→Prop)(m2:Bool→(List Int)×Int×List Int→Int→(List Int×Int×List Int)→Nat)(r0:List Int):=(xB t from_ to_ I0 I1 m1 I2 m2).vp xC r0
structure mT (t:Tpl) (b:Nat) (s:List Int×List Int):Prop where
  nd:s.1.Nodup
  ha:∀x∈s.1,aK t x=true
  le:s.2.length≤b
theorem mT.len{t:Tpl}{b:Nat}{s:List Int×List Int}(h:mT t b s):s.1.length≤t.rs.length:=by
 have:=List.Nodup.length_le_of_subset h.nd (l₂:=t.rs.map (·.id)) λx hx=>bo.mpr (h.ha x hx)
 rwa [List.length_map]at this
theorem mT.one{t:Tpl}{b:Nat}{s:List Int×List Int}(h:mT t b s){q:Int}(hq:aK t q=true):mT t (b+1) (fS t s q):=by
 unfold fS
 split
 ·exact⟨h.nd,h.ha,Nat.le_trans (tb _ _) (by have:=h.le;omega)⟩
 ·split
  ·exact⟨h.nd,h.ha,by have:=h.le;omega⟩
  ·rename_i hn
   refine⟨List.nodup_append.mpr ⟨h.nd,by simp,λa ha b hb=>by rw[List.mem_singleton.mp hb];rintro rfl;exact hn ha⟩,λx hx=>?_,by have:=h.le;simp only;omega⟩
   rcases List.mem_append.mp hx with hx|hx
   ·exact h.ha x hx
   ·rw[List.mem_singleton.mp hx];exact hq
theorem mT.fold{t:Tpl}:∀{l:List Int} {b:Nat} {s:List Int×List Int},mT t b s→(∀q∈l,aK t q=true)→mT t (b+l.length) (l.foldl (fS t) s)
 | [],b,s,h,_=>h
 | q::l,b,s,h,hs=>by
  have:=mT.fold (l:=l) (h.one (hs q (by simp))) λx hx=>hs x (by simp[hx])
  rw[List.foldl_cons,List.length_cons,show b+(l.length+1)=b+1+l.length by omega]
  exact this
theorem EW{t:Tpl}(hc:aB t=0){g f q:Int}(h:q∈bD t (to6 t g) f):aK t q=true:=by
 obtain⟨_,x,hx,e⟩:=Ay hc (vn hc) h
 exact eB.mpr ⟨x,hx,e⟩
theorem rW(t:Tpl)(d:List Int)(f:Int):(bD t d f).length≤t.rs.length:=by
 unfold bD;split
 ·simp
 ·exact Nat.le_trans (List.length_filter_le _ _) sM
theorem SL(t:Tpl)(f g:Int)(ok:SN t f g):∃I0 I1 m1 I2 m2,BR t f g I0 I1 m1 I2 m2 (ik t f g):=by
  refine⟨λb=>b=decide (hs5 t f=false∨hs5 t g=false∨f=g),λ_ s=>∃k:Nat,s.2.1=k∧k≤s.2.2.length∧mT t (30 * k) (s.2.2,s.1)∧tw t (to6 t g) (25-k) k s.2.2 s.1=ik t f g,λ_ s=>25-s.2.1.toNat,
    λ_ s0 x s=>∃j:Nat,s.2.1=j∧j≤(bD t (to6 t g) x).length∧(s.2.2,s.1)=((bD t (to6 t g) x).take j).foldl (fS t) (s0.2.2,s0.1),λ_ _ x s=>(bD t (to6 t g) x).length-s.2.1.toNat,?_⟩
  dsimp only[BR,xB,HF,Ax.vp,Ax.vc];simp only[vcU,rfU,List.length_map]
  refine ⟨⟨fun c => by have c : hs5 t f = false := by simpa using c
                       simp [c], fun c => ⟨fun d => by have d : hs5 t g = false := by simpa using d
                                                       simp[d],λd=>?_⟩⟩,?_⟩
  · have c:hs5 t f=true:=by simpa using c
    have d:hs5 t g=true:=by simpa using d
    rw[Bool.eq_iff_iff];simp[c,d]
  rintro _ rfl
  refine⟨λc=>by rw[ik,if_pos (of_decide_eq_true c)],λc=>?_⟩
  have c:=of_decide_eq_false c
  have hf:hs5 t f=true:=by
    cases q:hs5 t f
    · exact absurd (.inl q) c
    · rfl
  have hc:=(eS.mp hf).1
  have hR:=(aw hc).nr
  have hD:okD t (to6 t g):=⟨oC,by omega⟩
  refine⟨hc,⟨0,rfl,by simp,⟨by simp,by simp;exact(eS.mp hf).2,by simp⟩,by rw[ik,if_neg c]⟩,?_⟩
  rintro⟨out,i,seen⟩ ⟨k,hi,hk,hI,hO⟩
  simp only at hi hk hO ⊢
  subst hi
  have hsl:=hI.len
  simp only at hsl
  refine⟨λd=>?_,λd=>?_⟩
  · rw[Int.toNat_natCast]
    refine⟨bA (by omega) d,by omega,λx hx=>⟨hD,⟨0,rfl,by omega,rfl⟩,?_⟩⟩
    have hnl:=rW t (to6 t g) x
    have hnh:=λq (h:q∈bD t (to6 t g) x)=>EW hc h
    have e:25-k=(25-(k+1))+1:=by omega
    rw[e,tw,hx]at hO
    simp only at hO
    generalize bD t (to6 t g) x=n at hnl hnh hO ⊢
    rintro⟨o2,j0,s2⟩ ⟨j,hj0,hj,hs⟩
    simp only at hj0 hs ⊢
    subst hj0
    have hI2:mT t (30 * k+j) (s2,o2):=by
      have:=hI.fold (l:=n.take j) λq hq=>hnh q (List.mem_of_mem_take hq)
      rw[←hs,List.length_take,Nat.min_eq_left hj]at this
      exact this
    have hle:=hI2.le
    have hsl2:=hI2.len
    simp only at hle hsl2
    refine⟨λd2=>⟨by omega,d2,λy hy=>?_⟩,λd2=>?_⟩
    · have hw:W ((j:Int)+1)=((j+1:Nat):Int):=aU (n:=n.length) (by omega) (by omega)
      rw[hw]
      rw[Int.toNat_natCast]at hy
      have hst:(n.take (j+1)).foldl (fS t) (seen,out)=fS t (s2,o2) y:=by rw[aO hy,List.foldl_append,←hs];rfl
      refine⟨λe1=>⟨by omega,d2,λz hz=>?_⟩,λe1=>⟨by omega,d2,λz hz=>⟨kw (ab (λ_=>rfl) _),λe2=>⟨by omega,d2,λu hu=>?_⟩,λe2=>?_⟩⟩⟩
      · rw[Int.toNat_natCast,hy]at hz;cases hz
        refine⟨by omega,⟨j+1,rfl,by omega,?_⟩,by omega⟩
        rw[hst,fS,if_pos e1]
      · rw[Int.toNat_natCast,hy]at hz hu;cases hz;cases hu
        refine⟨by omega,⟨j+1,rfl,by omega,?_⟩,by omega⟩
        have e2:¬y∈s2:=by simpa using e2
        rw[hst,fS,if_neg (by rw[e1];simp),if_neg e2]
      · rw[Int.toNat_natCast,hy]at hz;cases hz
        refine⟨⟨j+1,rfl,by omega,?_⟩,by omega⟩
        have e2:y∈s2:=by simpa using e2
        rw[hst,fS,if_neg (by rw[e1];simp),if_pos e2]
    · have hjn:j=n.length:=by omega
      rw[hjn,List.take_length]at hs
      rw[←hs]at hO
      have hw:W ((k:Int)+1)=((k+1:Nat):Int):=aU (n:=25) (by omega) (by omega)
      rw[hw]
      have hpre:seen.length≤s2.length:=by
        have key:∀(l:List Int) (s:List Int×List Int),s.1.length≤(l.foldl (fS t) s).1.length:=λl=>by
          induction l with
          | nil=>intro s;exact Nat.le_refl _
          | cons q l ih =>
            intro s
            refine Nat.le_trans ?_ (ih (fS t s q))
            unfold fS
            split
            · exact Nat.le_refl _
            · split
              · exact Nat.le_refl _
              · simp
        have:=key n (seen,out)
        rw[←hs]at this;exact this
      refine⟨⟨k+1,rfl,by omega,⟨hI2.nd,hI2.ha,by simp only;omega⟩,hO⟩,by omega⟩
  · have e:seen[k]?=none:=List.getElem?_eq_none (by omega)
    have e2:25-k=(25-(k+1))+1:=by omega
    rw[e2,tw,e]at hO
    exact hO
def SM(t:Tpl)(from_:Int)(to_:Int):PC Tryz.prog:=⟨83,[(.a [(.s 2),(.s 5)]),.k,.k],[.agg [.sl 2 (t.rs.map Rtr.v) false,.sl 5 (t.ls.map Lnk.v) false],.int from_,.int to_],xC (ik t from_ to_),ao.of_ok λok=>(SL t from_ to_ ok).elim λI0 h=>h.elim λI1 h=>h.elim λm1 h=>h.elim λI2 h=>h.elim λm2 h=>aj (sh:=(.s 1)) (enc:=xC) (a:=(xB t from_ to_ I0 I1 m1 I2 m2).an) h (by kernel_rfl) (AV.pureB_ok rfl),ah (by kernel_rfl)⟩
structure Rw where
  id:Int
  nx:List Int
def Rw.v(x:Rw):AV:=.agg [.int x.id,.sl 1 (x.nx.map AV.int) false]
structure Tbl where
  router:Int
  sub:Int
  len:Int
  rows:List Rw
def Tbl.v(x:Tbl):AV:=.agg [.int x.router,.int x.sub,.int x.len,.sl 2 (x.rows.map Rw.v) false]
def uy(t:Tpl)(r:Int)(e:Edg):Rw:=⟨e.id,if e.router=r then [r]else if yS t e.router=true then ik t r e.router else []⟩
def mN(t:Tpl)(p:Pln)(r:Int):Tbl:=⟨r,p.sub,p.len,p.es.map (uy t r)⟩
def UJ(t:Tpl)(p:Pln)(router:Int):=okL [.agg [.sl 2 (t.rs.map Rtr.v) false,.sl 5 (t.ls.map Lnk.v) false],.agg [.int p.sub,.int p.len,.sl 2 (p.es.map Edg.v) false],.int router]
def OV(t:Tpl)(p:Pln)(router:Int)(t0:Int×List Rw):NF:=⟨[(2,.k,.int router),(3,.k,.ref 0 0),(4,.k,.ref 1 0),(6,.k,.ref 2 0),(7,.k,.ref 3 0),(8,.k,.int t0.1)],[.box (.agg [.sl 2 (t.rs.map Rtr.v) false,.sl 5 (t.ls.map Lnk.v) false]),.box (.agg [.int p.sub,.int p.len,.sl 2 (p.es.map Edg.v) false]),.box (.agg [.int 0,.int 0,.int 0,.sl 0 [] true]),.box (.agg [.int router,.int p.sub,.int p.len,.vec 4]),.vec 2 (t0.2.map Rw.v) (ab (λ_=>rfl) t0.2)]⟩
@[reducible] def JC:Nat→Type
 | 0=>Int×List Rw
 | _=>Unit
def zG(r:Tbl):AV:=Tbl.v r
def zF(t:Tpl)(p:Pln)(router:Int)(I0:(Int×List Rw)→Prop)(m0:(Int×List Rw)→Nat):Ax Tryz.prog JC (Tbl):=
 (.cmdL (.nilB 144 3 2) (.loop 0 (OV t p router) I0 m0 (0,[]) [0,16,32,144,192] λ(t0:Int×List Rw) b0 =>
(.br 85 (decide (t0.1<((p.es.map Edg.v).length:Int))) (.el 133 Edg.v p.es (λR=>Rf (p.es.map Edg.v) (ck (decide (0≤t0.1)) (ck (decide (t0.1<(p.es.length:Int)))
(∀x1,p.es[t0.1.toNat]?=some x1 →
(R x1))))) λx1 =>
(.el 277 Edg.v p.es (λR=>Rf (p.es.map Edg.v) (ck (decide (0≤t0.1)) (ck (decide (t0.1<(p.es.length:Int)))
(∀x2,p.es[t0.1.toNat]?=some x2 →
(R x2))))) λx2 =>
(.br 357 (x2.router==router) (.say (λR=>Idt (t0.2.map Rw.v) (Rf (α:=List AV) [.agg [.int x1.id,.sl 1 [.int router] true]]
(ck (decide ((t0.2.map Rw.v).length+1≤1048576))
R))) (.app 485 (λy:AV=>y) (t0.2.map Rw.v) [.agg [.int x1.id,.sl 1 [.int router] true]]
(.say (λR=>Eu (.a [.k,(.s 1)]) Rw.v t0.2 [(⟨x1.id,[router]⟩:Rw)] [.agg [.int x1.id,.sl 1 [.int router] true]] ∧
R) (.cmd (.wkV 485 (.a [.k,(.s 1)]) Rw.v (t0.2++[(⟨x1.id,[router]⟩:Rw)])) (.bk 0 b0 (W (t0.1+1),t0.2++[(⟨x1.id,[router]⟩:Rw)]) [0,1,2,3,485])))))
(.el 421 Edg.v p.es (λR=>Rf (p.es.map Edg.v) (ck (decide (0≤t0.1)) (ck (decide (t0.1<(p.es.length:Int)))
(∀x3,p.es[t0.1.toNat]?=some x3 →
(R x3))))) λx3 =>
(.callP (IY t x3.router)
(.br 485 (yS t x3.router) (.el 565 Edg.v p.es (λR=>Rf (p.es.map Edg.v) (ck (decide (0≤t0.1)) (ck (decide (t0.1<(p.es.length:Int)))
(∀x4,p.es[t0.1.toNat]?=some x4 →
(R x4))))) λx4 =>
(.callP (SM t router x4.router)
(.say (λR=>Rf (α:=List AV) (t0.2.map Rw.v) (Rf (α:=List AV) [.agg [.int x1.id,.sl 1 ((ik t router x4.router).map AV.int) false]]
(ck (decide (t0.2.length+1≤1048576))
R))) (.app 725 Rw.v t0.2 [(⟨x1.id,ik t router x4.router⟩:Rw)]
(.bk 0 b0 (W (t0.1+1),t0.2++[(⟨x1.id,ik t router x4.router⟩:Rw)]) [0,1,2,3,725])))))
(.say (λR=>Idt (t0.2.map Rw.v) (Rf (α:=List AV) [.agg [.int x1.id,.sl 0 [] true]]
(ck (decide ((t0.2.map Rw.v).length+1≤1048576))
R))) (.app 549 (λy:AV=>y) (t0.2.map Rw.v) [.agg [.int x1.id,.sl 0 [] true]]
(.say (λR=>Eu (.a [.k,(.s 1)]) Rw.v t0.2 [(⟨x1.id,[]⟩:Rw)] [.agg [.int x1.id,.sl 0 [] true]] ∧
R) (.cmd (.wkV 549 (.a [.k,(.s 1)]) Rw.v (t0.2++[(⟨x1.id,[]⟩:Rw)])) (.bk 0 b0 (W (t0.1+1),t0.2++[(⟨x1.id,[]⟩:Rw)]) [0,1,2,3,549])))))))))))
(.say (Rf (t0.2.map Rw.v)) (.cmdL (.frzE 4 (t0.2.map Rw.v) (ab (λ_=>rfl) t0.2)) (.ret ((⟨router,p.sub,p.len,t0.2⟩:Tbl))))))))
def Dd(t:Tpl)(p:Pln)(router:Int)(I0:(Int×List Rw)→Prop)(m0:(Int×List Rw)→Nat)(r0:Tbl):=(zF t p router I0 m0).vp zG r0
theorem UH(t:Tpl)(p:Pln)(r:Int)(hc:aB t=0)(h:p.es.length≤100)(ok:UJ t p r):∃I0 m0,Dd t p r I0 m0 (mN t p r):=by
 refine⟨λs=>fI p.es (λe=>[uy t r e]) s.1 s.2,λs=>p.es.length-s.1.toNat,?_⟩
 dsimp only[Dd,zF,JC,Ax.vp,Ax.vc];simp only[vcU,rfU,List.length_map]
 refine⟨fI.zero,?_⟩
 rintro⟨i,out⟩ hX
 simp only at hX ⊢
 have hlen:=hX.len (b:=1) λx _=>by simp
 refine⟨λc=>⟨hX.idx,c,λx hx=>⟨hX.idx,c,λx2 h2=>?_⟩⟩,λc=>?_⟩
 ·rw[hx]at h2;cases h2
  refine⟨λe=>⟨by omega,j4 (λ_=>rfl) rfl,hX.step (by omega) hx ?_⟩,λe=>⟨hX.idx,c,λx3 h3=>?_⟩⟩
  ·rw[uy,if_pos (eq_of_beq e)]
  rw[hx]at h3;cases h3
  refine⟨λe2=>⟨hX.idx,c,λx4 h4=>?_⟩,λe2=>⟨by omega,j4 (λ_=>rfl) rfl,hX.step (by omega) hx ?_⟩⟩
  ·rw[hx]at h4;cases h4
   exact⟨by omega,hX.step (by omega) hx (by rw[uy,if_neg (by simpa using e),if_pos e2])⟩
  ·rw[uy,if_neg (by simpa using e),if_neg (by rw[e2];simp)]
 ·have:(p.es.flatMap λe=>[uy t r e])=p.es.map (uy t r):=List.map_eq_flatMap.symm
  rw[hX.done c,this];rfl
def UI(t:Tpl)(p:Pln)(router:Int)(hc:aB t=0)(h:p.es.length≤100):PC Tryz.prog:=⟨27,[(.a [(.s 2),(.s 5)]),(.a [.k,.k,(.s 2)]),.k],[.agg [.sl 2 (t.rs.map Rtr.v) false,.sl 5 (t.ls.map Lnk.v) false],.agg [.int p.sub,.int p.len,.sl 2 (p.es.map Edg.v) false],.int router],zG (mN t p router),ao.of_ok λok=>(UH t p router hc h ok).elim λI0 h=>h.elim λm0 h=>aj (sh:=(.a [.k,.k,.k,(.s 2)])) (enc:=zG) (a:=(zF t p router I0 m0).an) h (by kernel_rfl) (AV.pureB_ok rfl),ah (by kernel_rfl)⟩
def uC(t:Tpl)(p:Pln):List Tbl×Int:=if aB t≠0∨bd p=false then([],1)else(t.rs.flatMap λx=>if x.cap=true then [mN t p x.id]else [],0)
def Vc(t:Tpl)(p:Pln):=okL [.agg [.sl 2 (t.rs.map Rtr.v) false,.sl 5 (t.ls.map Lnk.v) false],.agg [.int p.sub,.int p.len,.sl 2 (p.es.map Edg.v) false]]
def Pi(t:Tpl)(p:Pln)(t0:Bool):NF:=⟨[(2,.k,.ref 0 0),(3,.k,.ref 1 0),(15,.k,.bool t0)],[.box (.agg [.sl 2 (t.rs.map Rtr.v) false,.sl 5 (t.ls.map Lnk.v) false]),.box (.agg [.int p.sub,.int p.len,.sl 2 (p.es.map Edg.v) false])]⟩
def Ph(t:Tpl)(p:Pln)(t1:Int×List Tbl):NF:=⟨[(2,.k,.ref 0 0),(3,.k,.ref 1 0),(6,.k,.vec 2),(7,.k,.int t1.1)],[.box (.agg [.sl 2 (t.rs.map Rtr.v) false,.sl 5 (t.ls.map Lnk.v) false]),.box (.agg [.int p.sub,.int p.len,.sl 2 (p.es.map Edg.v) false]),.vec 4 (t1.2.map Tbl.v) (ab (λ_=>rfl) t1.2)]⟩
@[reducible] def JY:Nat→Type
 | 0=>Bool
 | 1=>Int×List Tbl
 | _=>Unit
def zS(r:List Tbl×Int):AV:=.tup [.sl 4 (r.1.map Tbl.v) false,.int r.2]
def zR(t:Tpl)(p:Pln)(I0:Bool→Prop)(I1:Bool→(Int×List Tbl)→Prop)(m1:Bool→(Int×List Tbl)→Nat):Ax Tryz.prog JY (List Tbl×Int):=
 (.pass (.pass (.join 0 (Pi t p) (λ(t0:Bool)=>I0 t0) (λb0=>(.callP (kg t)
(.br 128 ((aB t) != 0) (.bk 0 b0 ((true):Bool) [0,16])
(.callP (oi p)
(.bk 0 b0 ((!(bd p)):Bool) [0,16]))))) λ(t0:Bool) =>
(.br 2 t0 (.ret ([],1))
(.cmdL (.nilT 6 4) (.loop 1 (Ph t p) (I1 t0) (m1 t0) (0,[]) [0,1,34] λ(t1:Int×List Tbl) b1 =>
(.br 83 (decide (t1.1<((t.rs.map Rtr.v).length:Int))) (.el 131 Rtr.v t.rs (λR=>Rf (t.rs.map Rtr.v) (ck (decide (0≤t1.1)) (ck (decide (t1.1<(t.rs.length:Int)))
(∀x1,t.rs[t1.1.toNat]?=some x1 →
(R x1))))) λx1 =>
(.br 179 x1.cap (.el 275 Rtr.v t.rs (λR=>Rf (t.rs.map Rtr.v) (ck (decide (0≤t1.1)) (ck (decide (t1.1<(t.rs.length:Int)))
(∀x2,t.rs[t1.1.toNat]?=some x2 →
(R x2))))) λx2 =>
(.req 323 (aB t=0) λh3 =>
(.req 323 (p.es.length≤100) λh4 =>
(.callP (UI t p x2.id h3 h4)
(.say (λR=>Rf (α:=List AV) (t1.2.map Tbl.v) (Rf (α:=List AV) [(Tbl.v (mN t p x2.id))]
(ck (decide (t1.2.length+1≤1048576))
R))) (.app 355 Tbl.v t1.2 [mN t p x2.id]
(.bk 1 b1 (W (t1.1+1),t1.2++[mN t p x2.id]) [0,1,355])))))))
(.bk 1 b1 (W (t1.1+1),t1.2) [0,1,2])))
(.say (Rf (t1.2.map Tbl.v)) (.cmdL (.frzE 2 (t1.2.map Tbl.v) (ab (λ_=>rfl) t1.2)) (.ret (t1.2,0)))))))))))
def Dk(t:Tpl)(p:Pln)(I0:Bool→Prop)(I1:Bool→(Int×List Tbl)→Prop)(m1:Bool→(Int×List Tbl)→Nat)(r0:List Tbl×Int):=(zR t p I0 I1 m1).vp zS r0
theorem Va(t:Tpl)(p:Pln)(ok:Vc t p):∃I0 I1 m1,Dk t p I0 I1 m1 (uC t p):=by
 refine⟨λb=>b=(decide (aB t≠0) || !bd p),λ_ s=>fI t.rs (λx=>if x.cap=true then [mN t p x.id]else []) s.1 s.2,λ_ s=>t.rs.length-s.1.toNat,?_⟩
 dsimp only[Dk,zR,JY,Ax.vp,Ax.vc];simp only[vcU,rfU,List.length_map]
 refine⟨⟨λc=>by simp at c;simp[c],λc=>by simp at c;simp[c]⟩,?_⟩
 rintro _ rfl
 unfold uC
 refine⟨λc=>by rw[if_pos (by simpa using c)],λc=>?_⟩
 have c:¬(aB t≠0∨bd p=false):=by simp at c;simp[c]
 have hc:aB t=0:=by simp at c;exact c.1
 have hn:=(aw hc).nr
 have hpl:p.es.length≤24:=by
  have hp:bd p=true:=by
   cases q:bd p
   ·exact absurd (.inr q) c
   ·rfl
  unfold bd at hp
  rw[Bool.and_eq_true,decide_eq_true_iff]at hp
  exact hp.1.2.2
 rw[if_neg c]
 refine⟨fI.zero,?_⟩
 rintro⟨i,out⟩ hX
 simp only at hX ⊢
 have hlen:=hX.len (b:=1) λx _=>by split<;>simp
 refine⟨λd=>⟨hX.idx,d,λx hx=>⟨λe=>⟨hX.idx,d,λy hy=>?_⟩,λe=>hX.step (by omega) hx (by rw[if_neg (by rw[e];simp)];simp)⟩⟩,λd=>by rw[hX.done d]⟩
 rw[hx]at hy;cases hy
 exact⟨hc,by omega,by omega,hX.step (by omega) hx (by rw[if_pos e])⟩
def Vb(t:Tpl)(p:Pln):PC Tryz.prog:=⟨7,[(.a [(.s 2),(.s 5)]),(.a [.k,.k,(.s 2)])],[.agg [.sl 2 (t.rs.map Rtr.v) false,.sl 5 (t.ls.map Lnk.v) false],.agg [.int p.sub,.int p.len,.sl 2 (p.es.map Edg.v) false]],zS (uC t p),ao.of_ok λok=>(Va t p ok).elim λI0 h=>h.elim λI1 h=>h.elim λm1 h=>aj (sh:=(.a [(.s 4),.k])) (enc:=zS) (a:=(zR t p I0 I1 m1).an) h (by kernel_rfl) (AV.pureB_ok rfl),ah (by kernel_rfl)⟩
theorem dO{n:Nat}(h:n<18446744073709551616):IntKind.u64.wrap (n:Int)=n:=by
 unfold IntKind.wrap
 simp[IntKind.bits,IntKind.signed]
 omega
theorem rp{n:Nat}(h:n<18446744073709551616):(BitVec.ofInt 64 (n:Int)).toNat=n:=by
 rw[BitVec.ofInt_natCast,BitVec.toNat_ofNat];exact Nat.mod_eq_of_lt h
theorem ga{a b:Nat}(ha:a<18446744073709551616)(hb:b<18446744073709551616):dF .u64 (a:Int) (b:Int)=((a &&& b:Nat):Int):=by
 have e:((BitVec.ofInt 64 (a:Int)) &&& (BitVec.ofInt 64 (b:Int))).toNat=a &&& b:=by rw[BitVec.toNat_and,rp ha,rp hb]
 unfold dF
 rw[show IntKind.u64.bits=64 from rfl,e]
 exact dO (Nat.lt_of_le_of_lt Nat.and_le_left ha)
theorem li{a b:Nat}(ha:a<18446744073709551616)(hb:b<18446744073709551616):bOr .u64 (a:Int) (b:Int)=((a ||| b:Nat):Int):=by
 have e:((BitVec.ofInt 64 (a:Int)) ||| (BitVec.ofInt 64 (b:Int))).toNat=a ||| b:=by rw[BitVec.toNat_or,rp ha,rp hb]
 unfold bOr
 rw[show IntKind.u64.bits=64 from rfl,e]
 exact dO (Nat.or_lt_two_pow (n:=64) ha hb)
theorem Ep{a b:Nat}(ha:a<18446744073709551616)(hb:b<18446744073709551616)(h:∀i,a.testBit i=true→b.testBit i=true):co .u64 (a:Int) (b:Int)=0:=by
 have e:((BitVec.ofInt 64 (a:Int)) &&& ~~~(BitVec.ofInt 64 (b:Int)))=0#64:=by
  refine BitVec.eq_of_getLsbD_eq λi hi=>?_
  rw[BitVec.getLsbD_and,BitVec.getLsbD_not,BitVec.getLsbD,BitVec.getLsbD,rp ha,rp hb]
  cases q:a.testBit i with
  | false=>simp
  | true=>simp[h i q]
 unfold co
 rw[show IntKind.u64.bits=64 from rfl,e]
 rfl
theorem lw{b:Nat}(h:b<64):gX .u64 1 (b:Int)=((2 ^ b:Nat):Int):=by
 unfold gX
 rw[Int.toNat_natCast,show Nat.min b IntKind.u64.bits=b from Nat.min_eq_left (Nat.le_of_lt h),Int.one_mul,←dO (n:=2 ^ b) (Nat.pow_lt_pow_right (by omega) h)]
 congr 1
theorem rZ{a b:Nat}(h:b<64):mW .u64 (a:Int) (b:Int)=((a / 2 ^ b:Nat):Int):=by
 unfold mW
 rw[Int.toNat_natCast,show Nat.min b IntKind.u64.bits=b from Nat.min_eq_left (Nat.le_of_lt h),Int.fdiv_eq_ediv_of_nonneg _ (by exact Int.pow_nonneg (by decide)),Int.natCast_ediv,Int.natCast_pow]
 rfl
theorem JD{a b:Nat}(ha:a<18446744073709551616)(h:b<64):(dF .u64 (mW .u64 (a:Int) (b:Int)) 1==1)=a.testBit b:=by
 rw[rZ h,show(1:Int)=((1:Nat):Int)from rfl,ga (Nat.lt_of_le_of_lt (Nat.div_le_self _ _) ha) (by decide),Nat.and_one_is_mod,Nat.testBit_eq_decide_div_mod_eq]
 rw[Bool.eq_iff_iff,beq_iff_eq,decide_eq_true_eq]
 omega
end Go.Proofs.YtdbdndmdbbihbaaGreatDoor
