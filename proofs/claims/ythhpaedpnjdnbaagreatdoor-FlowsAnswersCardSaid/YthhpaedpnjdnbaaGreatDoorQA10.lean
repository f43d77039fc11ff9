/- Texts joined: H8 HT G50 G51 G53 H9. -/
import Derived.Test.YthhpaedpnjdnbaaGreatDoorQA9
set_option linter.unusedVariables false
set_option linter.unusedSimpArgs false
namespace Go.Proofs.YthhpaedpnjdnbaaGreatDoor
open Go Go.Am
theorem szL(s:ByteArray):s.data.toList.length=s.size:=by rw[Array.length_toList];rfl
theorem Sz(b:ByteArray):∀(n i:Nat) (r:List UInt8),b.size-i=n→ByteArray.toList.loop b i r=r.reverse++b.data.toList.drop i:=by
 intro n
 induction n with
 | zero =>
  intro i r h
  rw[ByteArray.toList.loop,if_neg (by omega),List.drop_of_length_le (by rw[szL];omega),List.append_nil]
 | succ n ih =>
  intro i r h
  have hi:i<b.data.toList.length:=by rw[szL];omega
  rw[ByteArray.toList.loop,if_pos (by omega),ih _ _ (by omega),List.drop_eq_getElem_cons hi]
  have:b.get! i=b.data.toList[i]:=by
   show(b.data[i]!)=_
   rw[getElem!_pos b.data i (by rw[szL]at hi;exact hi)];simp
  rw[this];simp
theorem bEq(a b:ByteArray):(a.toList==b.toList)=decide (a=b):=by
 have key:∀x:ByteArray,x.toList=x.data.toList:=λx=>by rw[ByteArray.toList,Sz x _ 0 [] rfl];simp
 rw[key,key,Bool.eq_iff_iff,beq_iff_eq,decide_eq_true_eq,Array.toList_inj]
 exact⟨λh=>by cases a;cases b;simp_all,λh=>by rw[h]⟩
theorem bP.same{α:Type}{a b:List α}{t:Int}(hl:a.length=b.length)(h:∃k:Nat,t=k∧k≤a.length∧a.take k=b.take k)(c:¬t<a.length):a=b:=by
 obtain⟨k,rfl,hk,e⟩:=h
 rw[List.take_of_length_le (by omega),List.take_of_length_le (by omega)]at e
 exact e
def ta(a b:List Pkt):Bool:=decide (a=b)
def w6(a:List Pkt)(b:List Pkt):=okL [.sl 10 (a.map Pkt.v) false,.sl 10 (b.map Pkt.v) false]
def GZ(a:List Pkt)(b:List Pkt)(t0:Int):NF:=⟨[(0,.k,.sl 10 (a.map Pkt.v) false),(1,.k,.sl 10 (b.map Pkt.v) false),(12,.k,.int ((a.map Pkt.v).length:Int)),(13,.k,.int t0)],[]⟩
@[reducible] def wz:Nat→Type
 | 0=>Int
 | _=>Unit
def nZ(r:Bool):AV:=.bool r
def nY(a:List Pkt)(b:List Pkt)(I0:Int→Prop)(m0:Int→Nat):Ax Tryz.prog wz (Bool):=
 (.br 96 (((a.map Pkt.v).length:Int) != ((b.map Pkt.v).length:Int)) (.ret (false))
(.loop 0 (GZ a b) I0 m0 ((0):Int) [] λ(t0:Int) b0 =>
(.br 16 (decide (t0<((a.map Pkt.v).length:Int))) (.el 80 Pkt.v a (λR=>Rf (a.map Pkt.v) (ck (decide (0≤t0)) (ck (decide (t0<(a.length:Int)))
(∀x1,a[t0.toNat]?=some x1 →
(R x1))))) λx1 =>
(.el 144 Pkt.v b (λR=>Rf (b.map Pkt.v) (ck (decide (0≤t0)) (ck (decide (t0<(b.length:Int)))
(∀x2,b[t0.toNat]?=some x2 →
(R x2))))) λx2 =>
(.br 192 (!((x1.mode==x2.mode) && ((x1.sub==x2.sub) && ((x1.set==x2.set) && ((x1.len==x2.len) && ((x1.ttl==x2.ttl) && ((x1.ent==x2.ent) && ((x1.ing==x2.ing) && ((x1.proto==x2.proto) && ((x1.bits==x2.bits) && ((x1.pay.toList==x2.pay.toList) && true))))))))))) (.ret (false))
(.bk 0 b0 ((W (t0+1)):Int) []))))
(.ret (true)))))
def qK(a:List Pkt)(b:List Pkt)(I0:Int→Prop)(m0:Int→Nat)(r0:Bool):=(nY a b I0 m0).vp nZ r0
def Q1(x1 x2:Pkt):Bool:=(x1.mode==x2.mode && (x1.sub==x2.sub && (x1.set==x2.set && (x1.len==x2.len && (x1.ttl==x2.ttl && (x1.ent==x2.ent && (x1.ing==x2.ing && (x1.proto==x2.proto && (x1.bits==x2.bits && (x1.pay.toList==x2.pay.toList && true))))))))))
theorem wP{x y:Pkt}:Q1 x y=true↔x=y:=by
 unfold Q1
 rw[bEq]
 cases x;cases y
 simp only[Bool.and_eq_true,beq_iff_eq,decide_eq_true_eq,Pkt.mk.injEq,and_true]
theorem Kp(a b:List Pkt)(ok:w6 a b):∃I m,qK a b I m (ta a b):=by
 refine⟨λt=>∃k:Nat,t=k∧k≤a.length∧a.take k=b.take k,λt=>a.length-t.toNat,?_⟩
 simp only[w6,okU,Blk.ok,aK,List.length_map]at ok
 dsimp only[qK,nY,wz,Ax.vp,Ax.vc];simp only[vcU,rfU,List.length_map]
 refine⟨λc=>?_,λc=>⟨⟨0,rfl,by omega,by simp⟩,?_⟩⟩
 ·have c:¬a=b:=λe=>by subst e;simp at c
  exact(decide_eq_false c).symm
 have hl:a.length=b.length:=by have:=(bne_eq_false_iff_eq.mp c);omega
 rintro _ ⟨k,rfl,hk,h⟩
 refine⟨λd=>⟨by omega,d,λx hx=>⟨by omega,by omega,λy hy=>?_⟩⟩,λd=>?_⟩
 ·rw[Int.toNat_natCast]at hx hy
  refine⟨λe=>?_,λe=>?_⟩
  ·have e:Q1 x y=false:=Bool.not_eq_true' _ |>.mp e
   have:¬a=b:=λq=>by
    subst q
    rw[hx]at hy;cases hy
    rw[wP.mpr rfl]at e;cases e
   exact(decide_eq_false this).symm
  ·have e:Q1 x y=true:=Bool.not_eq_false' _ |>.mp e
   rw[av (n:=a.length) (by omega) (by omega)]
   exact⟨⟨k+1,rfl,by omega,by rw[ax hx,ax hy,h,wP.mp e]⟩,by omega⟩
 ·exact(decide_eq_true (bP.same hl ⟨k,rfl,hk,h⟩ d)).symm
def Kq(a:List Pkt)(b:List Pkt):PC Tryz.prog:=⟨29,[(.s 10),(.s 10)],[.sl 10 (a.map Pkt.v) false,.sl 10 (b.map Pkt.v) false],nZ (ta a b),ao.of_ok λok=>(Kp a b ok).elim λI0 h=>h.elim λm0 h=>aj (sh:=.k) (enc:=nZ) (a:=(nY a b I0 m0).an) h (by kernel_rfl) (AV.pureB_ok rfl),ai (by kernel_rfl)⟩
def lk(a b:List Flw):Bool:=decide (a=b)
def RC(x1 x2:Flw):Bool:=(x1.src==x2.src && (x1.grp==x2.grp && true))
theorem yn{x y:Flw}:RC x y=true↔x=y:=by
 unfold RC
 cases x;cases y
 simp only[Bool.and_eq_true,beq_iff_eq,Flw.mk.injEq,and_true]
def w9(a:List Flw)(b:List Flw):=okL [.sl 2 (a.map Flw.v) false,.sl 2 (b.map Flw.v) false]
def Ha(a:List Flw)(b:List Flw)(t0:Int):NF:=⟨[(0,.k,.sl 2 (a.map Flw.v) false),(1,.k,.sl 2 (b.map Flw.v) false),(12,.k,.int ((a.map Flw.v).length:Int)),(13,.k,.int t0)],[]⟩
@[reducible] def w7:Nat→Type
 | 0=>Int
 | _=>Unit
def ob(r:Bool):AV:=.bool r
def oa(a:List Flw)(b:List Flw)(I0:Int→Prop)(m0:Int→Nat):Ax Tryz.prog w7 (Bool):=
 (.br 96 (((a.map Flw.v).length:Int) != ((b.map Flw.v).length:Int)) (.ret (false))
(.loop 0 (Ha a b) I0 m0 ((0):Int) [] λ(t0:Int) b0 =>
(.br 16 (decide (t0<((a.map Flw.v).length:Int))) (.el 80 Flw.v a (λR=>Rf (a.map Flw.v) (ck (decide (0≤t0)) (ck (decide (t0<(a.length:Int)))
(∀x1,a[t0.toNat]?=some x1 →
(R x1))))) λx1 =>
(.el 144 Flw.v b (λR=>Rf (b.map Flw.v) (ck (decide (0≤t0)) (ck (decide (t0<(b.length:Int)))
(∀x2,b[t0.toNat]?=some x2 →
(R x2))))) λx2 =>
(.br 192 (!((x1.src==x2.src) && ((x1.grp==x2.grp) && true))) (.ret (false))
(.bk 0 b0 ((W (t0+1)):Int) []))))
(.ret (true)))))
def qL(a:List Flw)(b:List Flw)(I0:Int→Prop)(m0:Int→Nat)(r0:Bool):=(oa a b I0 m0).vp ob r0
theorem Kr(a b:List Flw)(ok:w9 a b):∃I m,qL a b I m (lk a b):=by
 refine⟨λt=>∃k:Nat,t=k∧k≤a.length∧a.take k=b.take k,λt=>a.length-t.toNat,?_⟩
 simp only[w9,okU,Blk.ok,aK,List.length_map]at ok
 dsimp only[qL,oa,w7,Ax.vp,Ax.vc];simp only[vcU,rfU,List.length_map]
 refine⟨λc=>?_,λc=>⟨⟨0,rfl,by omega,by simp⟩,?_⟩⟩
 ·have c:¬a=b:=λe=>by subst e;simp at c
  exact(decide_eq_false c).symm
 have hl:a.length=b.length:=by have:=(bne_eq_false_iff_eq.mp c);omega
 rintro _ ⟨k,rfl,hk,h⟩
 refine⟨λd=>⟨by omega,d,λx hx=>⟨by omega,by omega,λy hy=>?_⟩⟩,λd=>?_⟩
 ·rw[Int.toNat_natCast]at hx hy
  refine⟨λe=>?_,λe=>?_⟩
  ·have e:RC x y=false:=Bool.not_eq_true' _ |>.mp e
   have:¬a=b:=λq=>by
    subst q
    rw[hx]at hy;cases hy
    rw[yn.mpr rfl]at e;cases e
   exact(decide_eq_false this).symm
  ·have e:RC x y=true:=Bool.not_eq_false' _ |>.mp e
   rw[av (n:=a.length) (by omega) (by omega)]
   exact⟨⟨k+1,rfl,by omega,by rw[ax hx,ax hy,h,yn.mp e]⟩,by omega⟩
 ·exact(decide_eq_true (bP.same hl ⟨k,rfl,hk,h⟩ d)).symm
def w8(a:List Flw)(b:List Flw):PC Tryz.prog:=⟨32,[(.s 2),(.s 2)],[.sl 2 (a.map Flw.v) false,.sl 2 (b.map Flw.v) false],ob (lk a b),ao.of_ok λok=>(Kr a b ok).elim λI0 h=>h.elim λm0 h=>aj (sh:=.k) (enc:=ob) (a:=(oa a b I0 m0).an) h (by kernel_rfl) (AV.pureB_ok rfl),ai (by kernel_rfl)⟩
def mK(L:List Int)(p:Nat):Flw×Nat:=
 if Mod (al L (ag L (ag L (ag L (ag L (ag L p)))))) 30=29 then
  (⟨au [0,1,100] (al L (ag L (ag L (ag L (ag L (ag L (ag L p))))))),au [0,1,100] (al L (ag L (ag L (ag L (ag L (ag L (ag L (ag L p))))))))⟩,ag L (ag L (ag L (ag L (ag L (ag L (ag L (ag L p))))))))
 else(⟨au [rng L p 1 6,rng L (ag L p) 1 20,rng L (ag L (ag L p)) 1 99] (al L (ag L (ag L (ag L p)))),rng L (ag L (ag L (ag L (ag L p)))) 1 4⟩,ag L (ag L (ag L (ag L (ag L (ag L p))))))
def ML(L:List Int)(p:Nat):=okL [.ref 0 0]∧(.box (.agg [.sl 1 (L.map AV.int) false,.int p]):Blk).ok
abbrev d8(L:List Int)(p:Nat):=(ag L (ag L (ag L (ag L (ag L p)))))
def uz(r:Tap×Flw):AV:=.agg [.int r.2.src,.int r.2.grp]
def u9(r:Tap×Flw):List (Option Blk):=[some (.box (.agg [.sl 1 (r.1.L.map AV.int) false,.int r.1.p]))]
def BZ(L:List Int)(p:Nat):Ax Tryz.prog noS (Tap×Flw):=
 (.callH [0] (da L p 1 6) 49
(.callH [0] (da L (ag L p) 1 20) 81
(.callH [0] (da L (ag L (ag L p)) 1 99) 113
(.req 145 ([rng L p 1 6,rng L (ag L p) 1 20,rng L (ag L (ag L p)) 1 99]≠[]) λh1 =>
(.callH [0] (dH L (ag L (ag L (ag L p))) [rng L p 1 6,rng L (ag L p) 1 20,rng L (ag L (ag L p)) 1 99] h1) 145
(.callH [0] (da L (ag L (ag L (ag L (ag L p)))) 1 4) 177
(.callH [0] (N_h L (d8 L p) 30) 257
(.br 289 ((Mod (al L (d8 L p)) 30)==29) (.req 321 ([0,1,100]≠[]) λh2 =>
(.callH [0] (dH L (ag L (d8 L p)) [0,1,100] h2) 321
(.req 369 ([0,1,100]≠[]) λh3 =>
(.callH [0] (dH L (ag L (ag L (d8 L p))) [0,1,100] h3) 369
(.retH ((⟨L,ag L (ag L (ag L (d8 L p)))⟩:Tap),(⟨au [0,1,100] (al L (ag L (d8 L p))),au [0,1,100] (al L (ag L (ag L (d8 L p))))⟩:Flw)) ⟨[(2,.k,.ref 1 0)],[.box (.agg [.sl 1 (L.map AV.int) false,.int (((ag L (ag L (ag L (d8 L p)))):Nat):Int)]),.box (.agg [.int (au [0,1,100] (al L (ag L (d8 L p)))),.int (au [0,1,100] (al L (ag L (ag L (d8 L p)))))])]⟩ [0,1])))))
(.retH ((⟨L,ag L (d8 L p)⟩:Tap),(⟨au [rng L p 1 6,rng L (ag L p) 1 20,rng L (ag L (ag L p)) 1 99] (al L (ag L (ag L (ag L p)))),rng L (ag L (ag L (ag L (ag L p)))) 1 4⟩:Flw)) ⟨[(2,.k,.ref 1 0)],[.box (.agg [.sl 1 (L.map AV.int) false,.int (((ag L (d8 L p)):Nat):Int)]),.box (.agg [.int (au [rng L p 1 6,rng L (ag L p) 1 20,rng L (ag L (ag L p)) 1 99] (al L (ag L (ag L (ag L p))))),.int (rng L (ag L (ag L (ag L (ag L p)))) 1 4)])]⟩ [0,1])))))))))
def F3(L:List Int)(p:Nat)(r0:Tap×Flw):=(BZ L p).vc uz u9 r0
theorem Wn(L:List Int)(p:Nat)(ok:ML L p):F3 L p ((⟨L,(mK L p).2⟩:Tap),(mK L p).1):=by
 dsimp only[F3,BZ,noS,d8,Ax.vp,Ax.vc];simp only[vcU,rfU,List.length_map]
 refine⟨by simp,λc=>⟨by simp,by simp,?_⟩,λc=>?_⟩
 ·rw[mK,if_pos (eq_of_beq c)]
 ·rw[mK,if_neg (by simpa using c)]
def MJ(L:List Int)(p:Nat):HC Tryz.prog:=⟨21,[.k],[.ref 0 0],[.box (.agg [.sl 1 (L.map AV.int) false,.int p])],uz ((⟨L,(mK L p).2⟩:Tap),(mK L p).1),u9 ((⟨L,(mK L p).2⟩:Tap),(mK L p).1),bl.of_okh λok ok2=>have ok:ML L p:=⟨ok,ok2 _ (by simp)⟩;cC (sh:=.k) (enc:=uz) (hB:=u9) (a:=(BZ L p).an) (Wn L p ok) (by kernel_rfl),ai (by kernel_rfl),fk.of (by simp[hcB,cJ,AV.belB,allB,eI,dQ,uz,u9,ab (v:=AV.int) (λ_=>rfl)])⟩
def ek(L:List Int)(p:Nat)(s:List Sit):Int×Nat:=
 if s.length=0 then(au [0,1,2,99] (al L p),ag L p)
 else if Mod (al L p) 30=29 then(au [0,1,2,99] (al L (ag L p)),ag L (ag L p))
 else match s[(Mod (al L (ag L p)) s.length).toNat]? with
  | some x=>(x.router,ag L (ag L p))
  | none=>(0,0)
def KQ(L:List Int)(p:Nat)(s:Scn):=okL [.ref 0 0,.agg [.sl 2 (s.rs.map Rtr.v) false,.sl 5 (s.ls.map Lnk.v) false,.int s.sub,.int s.len,.sl 2 (s.es.map Edg.v) false,.sl 3 (s.sites.map Sit.v) false,.sl 5 (s.sp.map Spk.v) false,.sl 3 (s.lsn.map Lsn.v) false,.sl 10 (s.fl.map Sig.v) false]]∧(.box (.agg [.sl 1 (L.map AV.int) false,.int p]):Blk).ok
def Qz(L:List Int)(s:Scn)(t0:Bool×Nat):NF:=⟨[(0,.k,.ref 0 0),(3,.k,.ref 1 0),(13,.k,.bool t0.1)],[.box (.agg [.sl 1 (L.map AV.int) false,.int t0.2]),.box (.agg [.sl 2 (s.rs.map Rtr.v) false,.sl 5 (s.ls.map Lnk.v) false,.int s.sub,.int s.len,.sl 2 (s.es.map Edg.v) false,.sl 3 (s.sites.map Sit.v) false,.sl 5 (s.sp.map Spk.v) false,.sl 3 (s.lsn.map Lsn.v) false,.sl 10 (s.fl.map Sig.v) false])]⟩
@[reducible] def KN:Nat→Type
 | 0=>Bool×Nat
 | _=>Unit
def tv(r:Tap×Int):AV:=.int r.2
def tw(r:Tap×Int):List (Option Blk):=[some (.box (.agg [.sl 1 (r.1.L.map AV.int) false,.int r.1.p]))]
def AS(L:List Int)(p:Nat)(s:Scn)(I0:(Bool×Nat)→Prop):Ax Tryz.prog KN (Tap×Int):=
 (.pass (.pass (.join 0 (Qz L s) (λ(t0:Bool×Nat)=>I0 t0) (λb0=>(.br 113 (((s.sites.map Sit.v).length:Int)==0) (.bk 0 b0 (true,p) [0,1])
(.callH [0] (N_h L p 30) 129
(.bk 0 b0 ((Mod (al L p) 30)==29,ag L p) [0,1])))) λ(t0:Bool×Nat) =>
(.br 2 t0.1 (.req 34 ([0,1,2,99]≠[]) λh1 =>
(.callH [0] (dH L t0.2 [0,1,2,99] h1) 34
(.retH ((⟨L,ag L t0.2⟩:Tap),au [0,1,2,99] (al L t0.2)) ⟨[(4,.k,.int (au [0,1,2,99] (al L t0.2)))],[.box (.agg [.sl 1 (L.map AV.int) false,.int (ag L t0.2)])]⟩ [0])))
(.callH [0] (N_h L t0.2 ((s.sites.map Sit.v).length:Int)) 98
(.el 114 Sit.v s.sites (λR=>Rf (s.sites.map Sit.v) (ck (decide (0≤(Mod (al L t0.2) ((s.sites.map Sit.v).length:Int)))) (ck (decide ((Mod (al L t0.2) ((s.sites.map Sit.v).length:Int))<(s.sites.length:Int)))
(∀x2,s.sites[(Mod (al L t0.2) ((s.sites.map Sit.v).length:Int)).toNat]?=some x2 →
(R x2))))) λx2 =>
(.retH ((⟨L,ag L t0.2⟩:Tap),x2.router) ⟨[(4,.k,.int x2.router)],[.box (.agg [.sl 1 (L.map AV.int) false,.int (ag L t0.2)])]⟩ [0])))))))
def E8(L:List Int)(p:Nat)(s:Scn)(I0:(Bool×Nat)→Prop)(r0:Tap×Int):=(AS L p s I0).vc tv tw r0
theorem UX(L:List Int)(p:Nat)(s:Scn)(ok:KQ L p s):∃I,E8 L p s I ((⟨L,(ek L p s.sites).2⟩:Tap),(ek L p s.sites).1):=by
 refine⟨λt=>(t.1=true→(⟨L,ag L t.2⟩ ,au [0,1,2,99] (al L t.2))=((⟨L,(ek L p s.sites).2⟩:Tap),(ek L p s.sites).1))∧(t.1=false→0<s.sites.length∧t.2=ag L p∧Mod (al L p) 30≠29),?_⟩
 dsimp only[E8,AS,KN,Ax.vp,Ax.vc];simp only[vcU,rfU,List.length_map]
 refine⟨⟨λc=>⟨λ_=>?_,λe=>by cases e⟩,λc=>⟨λe=>?_,λe=>?_⟩⟩,?_⟩
 ·have c:s.sites.length=0:=by have:=eq_of_beq c;omega
  rw[ek,if_pos c]
 ·have c:¬s.sites.length=0:=λq=>by rw[q]at c;simp at c
  rw[ek,if_neg c,if_pos (eq_of_beq e)]
 ·have c:¬s.sites.length=0:=λq=>by rw[q]at c;simp at c
  exact⟨by omega,trivial,by simpa using e⟩
 rintro⟨b,q⟩ ⟨h1,h2⟩
 refine⟨λc=>⟨by simp,h1 c⟩,λc=>?_⟩
 obtain⟨h0,rfl,h3⟩:=h2 c
 have hm:=bg (x:=al L (ag L p)) (show 1≤(s.sites.length:Int) by omega)
 simp only
 refine⟨by omega,by omega,λx hx=>?_⟩
 rw[ek,if_neg (by omega),if_neg h3,hx]
def KP(L:List Int)(p:Nat)(s:Scn):HC Tryz.prog:=⟨26,[.k,(.a [(.s 2),(.s 5),.k,.k,(.s 2),(.s 3),(.s 5),(.s 3),(.s 10)])],[.ref 0 0,.agg [.sl 2 (s.rs.map Rtr.v) false,.sl 5 (s.ls.map Lnk.v) false,.int s.sub,.int s.len,.sl 2 (s.es.map Edg.v) false,.sl 3 (s.sites.map Sit.v) false,.sl 5 (s.sp.map Spk.v) false,.sl 3 (s.lsn.map Lsn.v) false,.sl 10 (s.fl.map Sig.v) false]],[.box (.agg [.sl 1 (L.map AV.int) false,.int p])],tv ((⟨L,(ek L p s.sites).2⟩:Tap),(ek L p s.sites).1),tw ((⟨L,(ek L p s.sites).2⟩:Tap),(ek L p s.sites).1),bl.of_okh λok ok2=>have ok:KQ L p s:=⟨ok,ok2 _ (by simp)⟩;(UX L p s ok).elim λI0 h=>cC (sh:=.k) (enc:=tv) (hB:=tw) (a:=(AS L p s I0).an) h (by kernel_rfl),ai (by kernel_rfl),fk.of (by simp[hcB,cJ,AV.belB,allB,eI,dQ,tv,tw,ab (v:=AV.int) (λ_=>rfl),ab (v:=Edg.v) (λ_=>rfl),ab (v:=Lnk.v) (λ_=>rfl),ab (v:=Lsn.v) (λ_=>rfl),ab (v:=Rtr.v) (λ_=>rfl),ab (v:=Sig.v) (λ_=>rfl),ab (v:=Sit.v) (λ_=>rfl),ab (v:=Spk.v) (λ_=>rfl)])⟩
def rnE(o:Ovl)(p:Pln)(at_:Int)(l:List Flw):Int:=orI (l.map λf=>(aP o p at_ f).2)
def fW(old new:Ovl)(p:Pln)(at_:Int)(l:List Flw):List Flw×Int:=
 if rnE old p at_ l≠0 then([],rnE old p at_ l)else if rnE new p at_ l≠0 then([],rnE new p at_ l)
 else(l.filter λf=>!fj (aP old p at_ f).1 (aP new p at_ f).1,0)
theorem uo{α β:Type}{l:List α}{f:α→β}{k:Nat}{x:α}{y:β}(hx:l[k]?=some x)(hy:(l.map f)[k]?=some y):y=f x:=by
 rw[List.getElem?_map,hx]at hy;exact(Option.some.inj hy).symm
def UA(old:Ovl)(new:Ovl)(p:Pln)(at_:Int)(l:List Flw):=okL [.agg [.sl 5 (old.sp.map Spk.v) false,.sl 3 (old.ls.map Lsn.v) false,.sl 10 (old.fl.map Sig.v) false],.agg [.sl 5 (new.sp.map Spk.v) false,.sl 3 (new.ls.map Lsn.v) false,.sl 10 (new.fl.map Sig.v) false],.agg [.int p.sub,.int p.len,.sl 2 (p.es.map Edg.v) false],.int at_,.sl 2 (l.map Flw.v) false]
def PZ(old:Ovl)(new:Ovl)(p:Pln)(at_:Int)(l:List Flw)(t0:Int×(List (List Int))):NF:=⟨[(3,.k,.int at_),(4,.k,.sl 2 (l.map Flw.v) false),(5,.k,.ref 0 0),(6,.k,.ref 1 0),(7,.k,.ref 2 0),(12,.k,.vec 3),(22,.k,.sl 2 (l.map Flw.v) false),(23,.k,.int ((l.map Flw.v).length:Int)),(24,.k,.int t0.1)],[.box (.agg [.sl 5 (old.sp.map Spk.v) false,.sl 3 (old.ls.map Lsn.v) false,.sl 10 (old.fl.map Sig.v) false]),.box (.agg [.sl 5 (new.sp.map Spk.v) false,.sl 3 (new.ls.map Lsn.v) false,.sl 10 (new.fl.map Sig.v) false]),.box (.agg [.int p.sub,.int p.len,.sl 2 (p.es.map Edg.v) false]),.vec 1 (t0.2.map (λl=>AV.sl 1 (l.map AV.int) false)) (ab (λ_=>rfl) t0.2)]⟩
def PY(new:Ovl)(p:Pln)(at_:Int)(l:List Flw)(t0:Int×(List (List Int)))(t1:Int×List Flw):NF:=⟨[(3,.k,.int at_),(6,.k,.ref 0 0),(7,.k,.ref 1 0),(12,.k,.vec 2),(17,.k,.vec 3),(44,.k,.sl 2 (l.map Flw.v) false),(45,.k,.int ((l.map Flw.v).length:Int)),(46,.k,.int t1.1)],[.box (.agg [.sl 5 (new.sp.map Spk.v) false,.sl 3 (new.ls.map Lsn.v) false,.sl 10 (new.fl.map Sig.v) false]),.box (.agg [.int p.sub,.int p.len,.sl 2 (p.es.map Edg.v) false]),.vec 1 (t0.2.map (λl=>AV.sl 1 (l.map AV.int) false)) (ab (λ_=>rfl) t0.2),.vec 2 (t1.2.map Flw.v) (ab (λ_=>rfl) t1.2)]⟩
@[reducible] def Kw:Nat→Type
 | 0=>Int×(List (List Int))
 | 1=>Int×List Flw
 | _=>Unit
def A3(r:List Flw×Int):AV:=.tup [.sl 2 (r.1.map Flw.v) false,.int r.2]
def A2(old:Ovl)(new:Ovl)(p:Pln)(at_:Int)(l:List Flw)(I0:(Int×(List (List Int)))→Prop)(m0:(Int×(List (List Int)))→Nat)(I1:Int×(List (List Int))→(Int×List Flw)→Prop)(m1:Int×(List (List Int))→(Int×List Flw)→Nat):Ax Tryz.prog Kw (List Flw×Int):=
 (.cmdL (.nilT 12 1) (.loop 0 (PZ old new p at_ l) I0 m0 (0,[]) [0,16,32,144] λ(t0:Int×(List (List Int))) b0 =>
(.br 20 (decide (t0.1<((l.map Flw.v).length:Int))) (.el 20 Flw.v l (λR=>Rf (l.map Flw.v) (ck (decide (0≤t0.1)) (ck (decide (t0.1<(l.length:Int)))
(∀x1,l[t0.1.toNat]?=some x1 →
(R x1))))) λx1 =>
(.callP (tj old p at_ x1)
(.br 276 (((aP old p at_ x1).2) != 0) (.ret ([],(aP old p at_ x1).2))
(.say (λR=>Rf (α:=List AV) (t0.2.map (λl=>AV.sl 1 (l.map AV.int) false)) (Rf (α:=List AV) [.sl 1 (((aP old p at_ x1).1).map AV.int) false]
(ck (decide (t0.2.length+1≤1048576))
R))) (.app 324 (λl=>AV.sl 1 (l.map AV.int) false) t0.2 [(aP old p at_ x1).1]
(.bk 0 b0 (W (t0.1+1),t0.2++[(aP old p at_ x1).1]) [0,1,2,324]))))))
(.cmdL (.nilT 17 2) (.loop 1 (PY new p at_ l t0) (I1 t0) (m1 t0) (0,[]) [1,2,3,84] λ(t1:Int×List Flw) b1 =>
(.br 20 (decide (t1.1<((l.map Flw.v).length:Int))) (.el 36 Flw.v l (λR=>Rf (l.map Flw.v) (ck (decide (0≤t1.1)) (ck (decide (t1.1<(l.length:Int)))
(∀x2,l[t1.1.toNat]?=some x2 →
(R x2))))) λx2 =>
(.callP (tj new p at_ x2)
(.br 308 (((aP new p at_ x2).2) != 0) (.ret ([],(aP new p at_ x2).2))
(.say (ck (cond (decide (0≤t1.1)) (decide (t1.1<((t0.2.map (λl=>AV.sl 1 (l.map AV.int) false)).length:Int))) false)) (.el 356 (λl=>AV.sl 1 (l.map AV.int) false) t0.2 (λR=>Rf (t0.2.map (λl=>AV.sl 1 (l.map AV.int) false)) (ck (decide (t1.1.toNat<t0.2.length))
(∀x3,t0.2[t1.1.toNat]?=some x3 →
(R x3)))) λx3 =>
(.callP (qc x3 ((aP new p at_ x2).1))
(.br 420 (!(fj x3 ((aP new p at_ x2).1))) (.say (λR=>Rf (α:=List AV) (t1.2.map Flw.v) (Rf (α:=List AV) [.agg [.int x2.src,.int x2.grp]]
(ck (decide (t1.2.length+1≤1048576))
R))) (.app 468 Flw.v t1.2 [x2]
(.bk 1 b1 (W (t1.1+1),t1.2++[x2]) [0,1,2,468])))
(.bk 1 b1 (W (t1.1+1),t1.2) [0,1,2,3]))))))))
(.say (Rf (t1.2.map Flw.v)) (.cmdL (.frzE 3 (t1.2.map Flw.v) (ab (λ_=>rfl) t1.2)) (.ret (t1.2,0))))))))))
def Er(old:Ovl)(new:Ovl)(p:Pln)(at_:Int)(l:List Flw)(I0:(Int×(List (List Int)))→Prop)(m0:(Int×(List (List Int)))→Nat)(I1:Int×(List (List Int))→(Int×List Flw)→Prop)(m1:Int×(List (List Int))→(Int×List Flw)→Nat)(r0:List Flw×Int):=(A2 old new p at_ l I0 m0 I1 m1).vp A3 r0
theorem U7(old new:Ovl)(p:Pln)(at_:Int)(l:List Flw)(h:l.length≤1000)(ok:UA old new p at_ l):∃I0 m0 I1 m1,Er old new p at_ l I0 m0 I1 m1 (fW old new p at_ l):=by
 refine⟨λt=>bP l (λf=>(aP old p at_ f).2=0) t.1∧dI l (λf=>[(aP old p at_ f).1]) t.1 t.2,λt=>l.length-t.1.toNat,
  λ_ t=>bP l (λf=>(aP new p at_ f).2=0) t.1∧dI l (λf=>if(!fj (aP old p at_ f).1 (aP new p at_ f).1)=true then [f]else []) t.1 t.2,λ_ t=>l.length-t.1.toNat,?_⟩
 dsimp only[Er,A2,Kw,Ax.vp,Ax.vc];simp only[vcU,rfU,List.length_map]
 refine⟨⟨bP.zero,dI.zero⟩,?_⟩
 rintro⟨i,B0⟩ ⟨h1,h2⟩
 simp only at h1 h2 ⊢
 have hlen:=h2.len (b:=1) (by simp)
 refine⟨λc=>⟨h1.idx,c,λx hx=>⟨λd=>?_,λd=>⟨by omega,?_⟩⟩⟩,λc=>⟨⟨bP.zero,dI.zero⟩,?_⟩⟩
 ·have d:(aP old p at_ x).2≠0:=by simpa using d
  have e:rnE old p at_ l=(aP old p at_ x).2:=gJ (f:=λf=>(aP old p at_ f).2) h1 hx d
  rw[fW,if_pos (by rw[e];exact d),e]
 ·have d:(aP old p at_ x).2=0:=by simpa using d
  exact⟨⟨(h1.step (by omega) hx d).1,(h2.step (by omega) hx rfl).1⟩,(h1.step (by omega) hx d).2⟩
 have e1:¬rnE old p at_ l≠0:=not_not_intro (gI (h1.done c))
 have hB:=h2.done c
 rw[dv]at hB
 subst hB
 rintro⟨j,out⟩ ⟨g1,g2⟩
 simp only at g1 g2 ⊢
 have hlen2:=g2.len (b:=1) (by intro x _;split<;>simp)
 refine⟨λd=>⟨g1.idx,d,λx hx=>⟨λe=>?_,λe=>⟨eG g1.idx (by rw[List.length_map];exact d),by rw[List.length_map];have:=g1.idx;omega,λy hy=>?_⟩⟩⟩,λd=>?_⟩
 ·have e:(aP new p at_ x).2≠0:=by simpa using e
  have q:rnE new p at_ l=(aP new p at_ x).2:=gJ (f:=λf=>(aP new p at_ f).2) g1 hx e
  rw[fW,if_neg e1,if_pos (by rw[q];exact e),q]
 ·have e:(aP new p at_ x).2=0:=by simpa using e
  have q:=uo hx hy
  subst q
  have b1:=g1.step (by omega) hx e
  exact⟨λr=>⟨by omega,⟨b1.1,(g2.step (by omega) hx (by rw[if_pos r])).1⟩,b1.2⟩,λr=>⟨⟨b1.1,(g2.step (by omega) hx (by rw[if_neg (by rw[r];simp)];simp)).1⟩,b1.2⟩⟩
 ·have e2:¬rnE new p at_ l≠0:=not_not_intro (gI (g1.done d))
  rw[fW,if_neg e1,if_neg e2,g2.done d,pq]
def Kx(old:Ovl)(new:Ovl)(p:Pln)(at_:Int)(l:List Flw)(h:l.length≤1000):PC Tryz.prog:=⟨31,[(.a [(.s 5),(.s 3),(.s 10)]),(.a [(.s 5),(.s 3),(.s 10)]),(.a [.k,.k,(.s 2)]),.k,(.s 2)],[.agg [.sl 5 (old.sp.map Spk.v) false,.sl 3 (old.ls.map Lsn.v) false,.sl 10 (old.fl.map Sig.v) false],.agg [.sl 5 (new.sp.map Spk.v) false,.sl 3 (new.ls.map Lsn.v) false,.sl 10 (new.fl.map Sig.v) false],.agg [.int p.sub,.int p.len,.sl 2 (p.es.map Edg.v) false],.int at_,.sl 2 (l.map Flw.v) false],A3 (fW old new p at_ l),ao.of_ok λok=>(U7 old new p at_ l h ok).elim λI0 h=>h.elim λm0 h=>h.elim λI1 h=>h.elim λm1 h=>aj (sh:=(.a [(.s 2),.k])) (enc:=A3) (a:=(A2 old new p at_ l I0 m0 I1 m1).an) h (by kernel_rfl) (AV.pureB_ok rfl),ai (by kernel_rfl)⟩
def UC(old:Ovl)(new:Ovl)(p:Pln)(at_:Int)(l:List Flw):=okL [.agg [.sl 5 (old.sp.map Spk.v) false,.sl 3 (old.ls.map Lsn.v) false,.sl 10 (old.fl.map Sig.v) false],.agg [.sl 5 (new.sp.map Spk.v) false,.sl 3 (new.ls.map Lsn.v) false,.sl 10 (new.fl.map Sig.v) false],.agg [.int p.sub,.int p.len,.sl 2 (p.es.map Edg.v) false],.int at_,.sl 2 (l.map Flw.v) false]
def Qc(old:Ovl)(new:Ovl)(p:Pln)(at_:Int)(l:List Flw)(x1:Ovl)(t0:Int×(List (List Int))):NF:=⟨[(3,.k,.int at_),(4,.k,.sl 2 (l.map Flw.v) false),(7,.k,.ref 0 0),(12,.k,.ref 1 0),(13,.k,.int 0),(14,.k,.ref 3 0),(24,.k,.sl 3 [.agg [.sl 5 (old.sp.map Spk.v) false,.sl 3 (old.ls.map Lsn.v) false,.sl 10 (old.fl.map Sig.v) false],.agg [.sl 5 (new.sp.map Spk.v) false,.sl 3 (new.ls.map Lsn.v) false,.sl 10 (new.fl.map Sig.v) false]] true),(25,.k,.int 2),(26,.k,.int 0),(31,.k,.sl 2 (l.map Flw.v) false),(32,.k,.int ((l.map Flw.v).length:Int)),(33,.k,.int t0.1)],[.box (.agg [.int p.sub,.int p.len,.sl 2 (p.es.map Edg.v) false]),.box (.agg [.vec 2,.sl 0 [] true]),.vec 1 (t0.2.map (λl=>AV.sl 1 (l.map AV.int) false)) (ab (λ_=>rfl) t0.2),.box (.agg [.sl 5 (x1.sp.map Spk.v) false,.sl 3 (x1.ls.map Lsn.v) false,.sl 10 (x1.fl.map Sig.v) false])]⟩
def Qb(old:Ovl)(new:Ovl)(p:Pln)(at_:Int)(l:List Flw)(t0:Int×(List (List Int)))(x3:Ovl)(t1:Int×(List (List Int))):NF:=⟨[(3,.k,.int at_),(4,.k,.sl 2 (l.map Flw.v) false),(7,.k,.ref 0 0),(12,.k,.ref 1 0),(13,.k,.int 1),(14,.k,.ref 4 0),(24,.k,.sl 3 [.agg [.sl 5 (old.sp.map Spk.v) false,.sl 3 (old.ls.map Lsn.v) false,.sl 10 (old.fl.map Sig.v) false],.agg [.sl 5 (new.sp.map Spk.v) false,.sl 3 (new.ls.map Lsn.v) false,.sl 10 (new.fl.map Sig.v) false]] true),(25,.k,.int 2),(26,.k,.int 1),(31,.k,.sl 2 (l.map Flw.v) false),(32,.k,.int ((l.map Flw.v).length:Int)),(33,.k,.int t1.1)],[.box (.agg [.int p.sub,.int p.len,.sl 2 (p.es.map Edg.v) false]),.box (.agg [.vec 2,.vec 3]),.vec 1 (t0.2.map (λl=>AV.sl 1 (l.map AV.int) false)) (ab (λ_=>rfl) t0.2),.vec 1 (t1.2.map (λl=>AV.sl 1 (l.map AV.int) false)) (ab (λ_=>rfl) t1.2),.box (.agg [.sl 5 (x3.sp.map Spk.v) false,.sl 3 (x3.ls.map Lsn.v) false,.sl 10 (x3.fl.map Sig.v) false])]⟩
def Qa(l:List Flw)(t0:Int×(List (List Int)))(t1:Int×(List (List Int)))(t2:Int×List Flw):NF:=⟨[(12,.k,.ref 0 0),(19,.k,.vec 3),(58,.k,.sl 2 (l.map Flw.v) false),(59,.k,.int ((l.map Flw.v).length:Int)),(60,.k,.int t2.1)],[.box (.agg [.vec 1,.vec 2]),.vec 1 (t0.2.map (λl=>AV.sl 1 (l.map AV.int) false)) (ab (λ_=>rfl) t0.2),.vec 1 (t1.2.map (λl=>AV.sl 1 (l.map AV.int) false)) (ab (λ_=>rfl) t1.2),.vec 2 (t2.2.map Flw.v) (ab (λ_=>rfl) t2.2)]⟩
@[reducible] def Ky:Nat→Type
 | 0=>Int×(List (List Int))
 | 1=>Int×(List (List Int))
 | 2=>Int×List Flw
 | _=>Unit
def A5(r:List Flw×Int):AV:=.tup [.sl 2 (r.1.map Flw.v) false,.int r.2]
def A4(old:Ovl)(new:Ovl)(p:Pln)(at_:Int)(l:List Flw)(I0:Ovl→(Int×(List (List Int)))→Prop)(m0:Ovl→(Int×(List (List Int)))→Nat)(I1:Ovl→Int×(List (List Int))→Ovl→(Int×(List (List Int)))→Prop)(m1:Ovl→Int×(List (List Int))→Ovl→(Int×(List (List Int)))→Nat)(I2:Ovl→Int×(List (List Int))→Ovl→Int×(List (List Int))→(Int×List Flw)→Prop)(m2:Ovl→Int×(List (List Int))→Ovl→Int×(List (List Int))→(Int×List Flw)→Nat):Ax Tryz.prog Ky (List Flw×Int):=
 (.unr 3 (.el 208 Ovl.v [old,new] (λR=>Rf (α:=List AV) [.agg [.sl 5 (old.sp.map Spk.v) false,.sl 3 (old.ls.map Lsn.v) false,.sl 10 (old.fl.map Sig.v) false],.agg [.sl 5 (new.sp.map Spk.v) false,.sl 3 (new.ls.map Lsn.v) false,.sl 10 (new.fl.map Sig.v) false]] (ck (decide (0<([old,new].length:Int)))
(∀x1,[old,new][0]?=some x1 →
(R x1)))) λx1 =>
(.cmdL (.nilB 80 0 1) (.loop 0 (Qc old new p at_ l x1) (I0 x1) (m0 x1) (0,[]) [32,80,336,240] λ(t0:Int×(List (List Int))) b0 =>
(.br 20 (decide (t0.1<((l.map Flw.v).length:Int))) (.el 20 Flw.v l (λR=>Rf (l.map Flw.v) (ck (decide (0≤t0.1)) (ck (decide (t0.1<(l.length:Int)))
(∀x2,l[t0.1.toNat]?=some x2 →
(R x2))))) λx2 =>
(.callP (tk x1 p at_ x2)
(.br 276 (((aP x1 p at_ x2).2) != 0) (.ret ([],(aP x1 p at_ x2).2))
(.say (λR=>Rf (α:=List AV) (t0.2.map (λl=>AV.sl 1 (l.map AV.int) false)) (Rf (α:=List AV) [.sl 1 (((aP x1 p at_ x2).1).map AV.int) false]
(ck (decide (t0.2.length+1≤1048576))
R))) (.app 372 (λl=>AV.sl 1 (l.map AV.int) false) t0.2 [(aP x1 p at_ x2).1]
(.bk 0 b0 (W (t0.1+1),t0.2++[(aP x1 p at_ x2).1]) [0,1,372,3]))))))
(.el 84 Ovl.v [old,new] (λR=>Rf (α:=List AV) [.agg [.sl 5 (old.sp.map Spk.v) false,.sl 3 (old.ls.map Lsn.v) false,.sl 10 (old.fl.map Sig.v) false],.agg [.sl 5 (new.sp.map Spk.v) false,.sl 3 (new.ls.map Lsn.v) false,.sl 10 (new.fl.map Sig.v) false]] (ck (decide (1<([old,new].length:Int)))
(∀x3,[old,new][1]?=some x3 →
(R x3)))) λx3 =>
(.cmdL (.nilB 1 1 1) (.loop 1 (Qb old new p at_ l t0 x3) (I1 x1 t0 x3) (m1 x1 t0 x3) (0,[]) [0,1,2,212,116] λ(t1:Int×(List (List Int))) b1 =>
(.br 21 (decide (t1.1<((l.map Flw.v).length:Int))) (.el 21 Flw.v l (λR=>Rf (l.map Flw.v) (ck (decide (0≤t1.1)) (ck (decide (t1.1<(l.length:Int)))
(∀x4,l[t1.1.toNat]?=some x4 →
(R x4))))) λx4 =>
(.callP (tk x3 p at_ x4)
(.br 277 (((aP x3 p at_ x4).2) != 0) (.ret ([],(aP x3 p at_ x4).2))
(.say (λR=>Rf (α:=List AV) (t1.2.map (λl=>AV.sl 1 (l.map AV.int) false)) (Rf (α:=List AV) [.sl 1 (((aP x3 p at_ x4).1).map AV.int) false]
(ck (decide (t1.2.length+1≤1048576))
R))) (.app 373 (λl=>AV.sl 1 (l.map AV.int) false) t1.2 [(aP x3 p at_ x4).1]
(.bk 1 b1 (W (t1.1+1),t1.2++[(aP x3 p at_ x4).1]) [0,1,2,373,4]))))))
(.cmdL (.nilT 19 2) (.loop 2 (Qa l t0 t1) (I2 x1 t0 x3 t1) (m2 x1 t0 x3 t1) (0,[]) [1,2,3,133] λ(t2:Int×List Flw) b2 =>
(.br 20 (decide (t2.1<((l.map Flw.v).length:Int))) (.el 36 Flw.v l (λR=>Rf (l.map Flw.v) (ck (decide (0≤t2.1)) (ck (decide (t2.1<(l.length:Int)))
(∀x5,l[t2.1.toNat]?=some x5 →
(R x5))))) λx5 =>
(.say (ck (cond (decide (0≤t2.1)) (decide (t2.1<((t0.2.map (λl=>AV.sl 1 (l.map AV.int) false)).length:Int))) false)) (.el 180 (λl=>AV.sl 1 (l.map AV.int) false) t0.2 (λR=>Rf (t0.2.map (λl=>AV.sl 1 (l.map AV.int) false)) (ck (decide (t2.1.toNat<t0.2.length))
(∀x6,t0.2[t2.1.toNat]?=some x6 →
(R x6)))) λx6 =>
(.say (ck (cond (decide (0≤t2.1)) (decide (t2.1<((t1.2.map (λl=>AV.sl 1 (l.map AV.int) false)).length:Int))) false)) (.el 260 (λl=>AV.sl 1 (l.map AV.int) false) t1.2 (λR=>Rf (t1.2.map (λl=>AV.sl 1 (l.map AV.int) false)) (ck (decide (t2.1.toNat<t1.2.length))
(∀x7,t1.2[t2.1.toNat]?=some x7 →
(R x7)))) λx7 =>
(.callP (EqI_c x6 x7)
(.br 308 (!(EqI x6 x7)) (.say (λR=>Rf (α:=List AV) (t2.2.map Flw.v) (Rf (α:=List AV) [.agg [.int x5.src,.int x5.grp]]
(ck (decide (t2.2.length+1≤1048576))
R))) (.app 356 Flw.v t2.2 [x5]
(.bk 2 b2 (W (t2.1+1),t2.2++[x5]) [0,1,2,356])))
(.bk 2 b2 (W (t2.1+1),t2.2) [0,1,2,3]))))))))
(.say (Rf (t2.2.map Flw.v)) (.cmdL (.frzE 3 (t2.2.map Flw.v) (ab (λ_=>rfl) t2.2)) (.ret (t2.2,0))))))))))))))))
def Es(old:Ovl)(new:Ovl)(p:Pln)(at_:Int)(l:List Flw)(I0:Ovl→(Int×(List (List Int)))→Prop)(m0:Ovl→(Int×(List (List Int)))→Nat)(I1:Ovl→Int×(List (List Int))→Ovl→(Int×(List (List Int)))→Prop)(m1:Ovl→Int×(List (List Int))→Ovl→(Int×(List (List Int)))→Nat)(I2:Ovl→Int×(List (List Int))→Ovl→Int×(List (List Int))→(Int×List Flw)→Prop)(m2:Ovl→Int×(List (List Int))→Ovl→Int×(List (List Int))→(Int×List Flw)→Nat)(r0:List Flw×Int):=(A4 old new p at_ l I0 m0 I1 m1 I2 m2).vp A5 r0
theorem UB(old new:Ovl)(p:Pln)(at_:Int)(l:List Flw)(h:l.length≤1000)(ok:UC old new p at_ l):∃I0 m0 I1 m1 I2 m2,Es old new p at_ l I0 m0 I1 m1 I2 m2 (fW old new p at_ l):=by
 refine⟨λo t=>bP l (λf=>(aP o p at_ f).2=0) t.1∧dI l (λf=>[(aP o p at_ f).1]) t.1 t.2,λ_ t=>l.length-t.1.toNat,
  λ_ _ o t=>bP l (λf=>(aP o p at_ f).2=0) t.1∧dI l (λf=>[(aP o p at_ f).1]) t.1 t.2,λ_ _ _ t=>l.length-t.1.toNat,
  λ_ _ _ _ t=>dI l (λf=>if(!fj (aP old p at_ f).1 (aP new p at_ f).1)=true then [f]else []) t.1 t.2,λ_ _ _ _ t=>l.length-t.1.toNat,?_⟩
 dsimp only[Es,A4,Ky,Ax.vp,Ax.vc];simp only[vcU,rfU,List.length_map]
 refine⟨by simp,λo ho=>?_⟩
 cases ho
 refine⟨⟨bP.zero,dI.zero⟩,?_⟩
 rintro⟨i,B0⟩ ⟨h1,h2⟩
 simp only at h1 h2 ⊢
 have hlen:=h2.len (b:=1) (by simp)
 refine⟨λc=>⟨h1.idx,c,λx hx=>⟨λd=>?_,λd=>⟨by omega,?_⟩⟩⟩,λc=>⟨by simp,λo ho=>?_⟩⟩
 ·have d:(aP old p at_ x).2≠0:=by simpa using d
  have e:rnE old p at_ l=(aP old p at_ x).2:=gJ (f:=λf=>(aP old p at_ f).2) h1 hx d
  rw[fW,if_pos (by rw[e];exact d),e]
 ·have d:(aP old p at_ x).2=0:=by simpa using d
  exact⟨⟨(h1.step (by omega) hx d).1,(h2.step (by omega) hx rfl).1⟩,(h1.step (by omega) hx d).2⟩
 cases ho
 have e1:¬rnE old p at_ l≠0:=not_not_intro (gI (h1.done c))
 have hB:=h2.done c
 rw[dv]at hB
 subst hB
 refine⟨⟨bP.zero,dI.zero⟩,?_⟩
 rintro⟨j,B1⟩ ⟨g1,g2⟩
 simp only at g1 g2 ⊢
 have hlen2:=g2.len (b:=1) (by simp)
 refine⟨λd=>⟨g1.idx,d,λx hx=>⟨λe=>?_,λe=>⟨by omega,?_⟩⟩⟩,λd=>⟨dI.zero,?_⟩⟩
 ·have e:(aP new p at_ x).2≠0:=by simpa using e
  have q:rnE new p at_ l=(aP new p at_ x).2:=gJ (f:=λf=>(aP new p at_ f).2) g1 hx e
  rw[fW,if_neg e1,if_pos (by rw[q];exact e),q]
 ·have e:(aP new p at_ x).2=0:=by simpa using e
  exact⟨⟨(g1.step (by omega) hx e).1,(g2.step (by omega) hx rfl).1⟩,(g1.step (by omega) hx e).2⟩
 have e2:¬rnE new p at_ l≠0:=not_not_intro (gI (g1.done d))
 have hB:=g2.done d
 rw[dv]at hB
 subst hB
 rintro⟨k,out⟩ f1
 simp only at f1 ⊢
 have hlen3:=f1.len (b:=1) (by intro x _;split<;>simp)
 have f0:=f1.idx
 refine⟨λd=>⟨f0,d,λx hx=>⟨eG f0 (by rw[List.length_map];exact d),by rw[List.length_map];omega,λy hy=>⟨eG f0 (by rw[List.length_map];exact d),by rw[List.length_map];omega,λz hz=>?_⟩⟩⟩,λd=>?_⟩
 ·have q:=uo hx hy
  have q2:=uo hx hz
  subst q;subst q2
  exact⟨λr=>⟨by omega,f1.step (by omega) hx (by rw[if_pos r])⟩,λr=>f1.step (by omega) hx (by rw[if_neg (by rw[show fj (aP old p at_ x).1 (aP new p at_ x).1=EqI (aP old p at_ x).1 (aP new p at_ x).1 from rfl,r];simp)];simp)⟩
 ·rw[fW,if_neg e1,if_neg e2,f1.done d,pq]
def Kz(old:Ovl)(new:Ovl)(p:Pln)(at_:Int)(l:List Flw)(h:l.length≤1000):PC Tryz.prog:=⟨30,[(.a [(.s 5),(.s 3),(.s 10)]),(.a [(.s 5),(.s 3),(.s 10)]),(.a [.k,.k,(.s 2)]),.k,(.s 2)],[.agg [.sl 5 (old.sp.map Spk.v) false,.sl 3 (old.ls.map Lsn.v) false,.sl 10 (old.fl.map Sig.v) false],.agg [.sl 5 (new.sp.map Spk.v) false,.sl 3 (new.ls.map Lsn.v) false,.sl 10 (new.fl.map Sig.v) false],.agg [.int p.sub,.int p.len,.sl 2 (p.es.map Edg.v) false],.int at_,.sl 2 (l.map Flw.v) false],A5 (fW old new p at_ l),ao.of_ok λok=>(UB old new p at_ l h ok).elim λI0 h=>h.elim λm0 h=>h.elim λI1 h=>h.elim λm1 h=>h.elim λI2 h=>h.elim λm2 h=>aj (sh:=(.a [(.s 2),.k])) (enc:=A5) (a:=(A4 old new p at_ l I0 m0 I1 m1 I2 m2).an) h (by kernel_rfl) (AV.pureB_ok rfl),ai (by kernel_rfl)⟩
def tC(s:Scn):Ovl:=⟨s.sp,s.lsn,s.fl⟩
def Ux(s:Scn)(o:Ovl):Scn:=⟨s.rs,s.ls,s.sub,s.len,s.es,s.sites,o.sp,o.ls,o.fl⟩
def qr(o:Ovl)(x:Sit):Ovl:=(bT o x.router (ofW ⟨x.now,x.list⟩).1).1
def wE(o:Ovl):Nat→Ovl
 | 0=>o
 | n+1=>(bH (wE o n) []).1
def aX(s:Scn):Scn:=Ux s (wE (s.sites.foldl qr (tC s)) 5)
theorem Kv(o:Ovl):(bH o []).1.fl.length≤o.fl.length+14400:=by
 by_cases h:bQ o
 ·have:=(NI.round ⟨h.1,h.2⟩ []).2.2
  simpa using this
 ·simp[bH,h,iz]
theorem WQ(o:Ovl)(r:Int)(w:List Wnt):(bT o r w).1.fl.length≤o.fl.length:=by
 unfold bT
 repeat' split
 all_goals simp[iz]
theorem Et(o:Ovl):∀n,(wE o n).fl.length≤o.fl.length+n * 14400
 | 0=>by simp[wE]
 | n+1=>by
  have h1:=Et o n
  have h2:=Kv (wE o n)
  show(bH (wE o n) []).1.fl.length≤_
  omega
def Ki(s:Scn):=okL [.agg [.sl 2 (s.rs.map Rtr.v) false,.sl 5 (s.ls.map Lnk.v) false,.int s.sub,.int s.len,.sl 2 (s.es.map Edg.v) false,.sl 3 (s.sites.map Sit.v) false,.sl 5 (s.sp.map Spk.v) false,.sl 3 (s.lsn.map Lsn.v) false,.sl 10 (s.fl.map Sig.v) false]]
def PA(s:Scn)(t0:Int×Scn):NF:=⟨[(1,.k,.ref 0 0),(2,.k,.ref 1 0),(9,.k,.sl 3 (s.sites.map Sit.v) false),(10,.k,.int ((s.sites.map Sit.v).length:Int)),(11,.k,.int t0.1)],[.box (.agg [.sl 2 (t0.2.rs.map Rtr.v) false,.sl 5 (t0.2.ls.map Lnk.v) false,.int t0.2.sub,.int t0.2.len,.sl 2 (t0.2.es.map Edg.v) false,.sl 3 (t0.2.sites.map Sit.v) false,.sl 5 (t0.2.sp.map Spk.v) false,.sl 3 (t0.2.lsn.map Lsn.v) false,.sl 10 (t0.2.fl.map Sig.v) false]),.box (.agg [.sl 0 [] true,.sl 0 [] true,.int 0,.int 0,.sl 0 [] true,.sl 0 [] true,.sl 0 [] true,.sl 0 [] true,.sl 0 [] true])]⟩
def P9(t1:Int×Scn):NF:=⟨[(1,.k,.ref 0 0),(2,.k,.ref 1 0),(7,.k,.int t1.1)],[.box (.agg [.sl 2 (t1.2.rs.map Rtr.v) false,.sl 5 (t1.2.ls.map Lnk.v) false,.int t1.2.sub,.int t1.2.len,.sl 2 (t1.2.es.map Edg.v) false,.sl 3 (t1.2.sites.map Sit.v) false,.sl 5 (t1.2.sp.map Spk.v) false,.sl 3 (t1.2.lsn.map Lsn.v) false,.sl 10 (t1.2.fl.map Sig.v) false]),.box (.agg [.sl 0 [] true,.sl 0 [] true,.int 0,.int 0,.sl 0 [] true,.sl 0 [] true,.sl 0 [] true,.sl 0 [] true,.sl 0 [] true])]⟩
@[reducible] def Kh:Nat→Type
 | 0=>Int×Scn
 | 1=>Int×Scn
 | _=>Unit
def Au(r:Scn):AV:=Scn.v r
def At(s:Scn)(I0:(Int×Scn)→Prop)(m0:(Int×Scn)→Nat)(I1:Int×Scn→(Int×Scn)→Prop)(m1:Int×Scn→(Int×Scn)→Nat):Ax Tryz.prog Kh (Scn):=
 (.loop 0 (PA s) I0 m0 (0,s) [0,16] λ(t0:Int×Scn) b0 =>
(.br 18 (decide (t0.1<((s.sites.map Sit.v).length:Int))) (.el 18 Sit.v s.sites (λR=>Rf (s.sites.map Sit.v) (ck (decide (0≤t0.1)) (ck (decide (t0.1<(s.sites.length:Int)))
(∀x1,s.sites[t0.1.toNat]?=some x1 →
(R x1))))) λx1 =>
(.callP (Tm (⟨x1.now,x1.list⟩:bW))
(.req 290 ((⟨t0.2.sp,t0.2.lsn,t0.2.fl⟩:Ovl).fl.length≤1000000) λh2 =>
(.callP (vl (⟨t0.2.sp,t0.2.lsn,t0.2.fl⟩:Ovl) x1.router ((ofW (⟨x1.now,x1.list⟩:bW)).1) h2)
(.bk 0 b0 (W (t0.1+1),(⟨t0.2.rs,t0.2.ls,t0.2.sub,t0.2.len,t0.2.es,t0.2.sites,((bT (⟨t0.2.sp,t0.2.lsn,t0.2.fl⟩:Ovl) x1.router ((ofW (⟨x1.now,x1.list⟩:bW)).1)).1).sp,((bT (⟨t0.2.sp,t0.2.lsn,t0.2.fl⟩:Ovl) x1.router ((ofW (⟨x1.now,x1.list⟩:bW)).1)).1).ls,((bT (⟨t0.2.sp,t0.2.lsn,t0.2.fl⟩:Ovl) x1.router ((ofW (⟨x1.now,x1.list⟩:bW)).1)).1).fl⟩:Scn)) [0,1])))))
(.loop 1 (P9) (I1 t0) (m1 t0) (0,t0.2) [0,1] λ(t1:Int×Scn) b1 =>
(.br 34 (decide (t1.1<5)) (.req 66 (qU (⟨t1.2.sp,t1.2.lsn,t1.2.fl⟩:Ovl) []) λh3 =>
(.callP (mV (⟨t1.2.sp,t1.2.lsn,t1.2.fl⟩:Ovl) [] h3)
(.bk 1 b1 (W (t1.1+1),(⟨t1.2.rs,t1.2.ls,t1.2.sub,t1.2.len,t1.2.es,t1.2.sites,((bH (⟨t1.2.sp,t1.2.lsn,t1.2.fl⟩:Ovl) []).1).sp,((bH (⟨t1.2.sp,t1.2.lsn,t1.2.fl⟩:Ovl) []).1).ls,((bH (⟨t1.2.sp,t1.2.lsn,t1.2.fl⟩:Ovl) []).1).fl⟩:Scn)) [0,1])))
(.ret (t1.2))))))
def Ed(s:Scn)(I0:(Int×Scn)→Prop)(m0:(Int×Scn)→Nat)(I1:Int×Scn→(Int×Scn)→Prop)(m1:Int×Scn→(Int×Scn)→Nat)(r0:Scn):=(At s I0 m0 I1 m1).vp Au r0
theorem Uy(s:Scn)(h:s.fl.length≤200000)(ok:Ki s):∃I0 m0 I1 m1,Ed s I0 m0 I1 m1 (aX s):=by
 refine⟨λt=>∃k:Nat,t.1=k∧k≤s.sites.length∧t.2=Ux s ((s.sites.take k).foldl qr (tC s))∧((s.sites.take k).foldl qr (tC s)).fl.length≤200000,λt=>s.sites.length-t.1.toNat,
  λ_ t=>∃k:Nat,t.1=k∧k≤5∧t.2=Ux s (wE (s.sites.foldl qr (tC s)) k),λ_ t=>5-t.1.toNat,?_⟩
 simp only[Ki,okU,Blk.ok,aK,List.length_map]at ok
 dsimp only[Ed,At,Kh,Ax.vp,Ax.vc];simp only[vcU,rfU,List.length_map]
 refine⟨⟨0,rfl,by omega,rfl,h⟩,?_⟩
 rintro⟨i,z⟩ ⟨k,hi,hk,rfl,hfl⟩
 simp only at hi ⊢
 subst hi
 simp only[Int.toNat_natCast]
 refine⟨λc=>⟨by omega,c,λx hx=>⟨by show((s.sites.take k).foldl qr (tC s)).fl.length≤1000000;omega,?_⟩⟩,λc=>?_⟩
 ·have hk':=ay hx
  rw[av (n:=s.sites.length) hk' (by omega)]
  have e:(s.sites.take (k+1)).foldl qr (tC s)=qr ((s.sites.take k).foldl qr (tC s)) x:=by rw[ax hx,List.foldl_append];rfl
  refine⟨⟨k+1,rfl,by omega,?_,?_⟩,by omega⟩
  ·rw[e];rfl
  ·rw[e]
   exact Nat.le_trans (WQ _ _ _) hfl
 have:k=s.sites.length:=by omega
 subst this
 rw[List.take_of_length_le (Nat.le_refl _)]at hfl ⊢
 refine⟨⟨0,rfl,by omega,rfl⟩,?_⟩
 rintro⟨j,z⟩ ⟨k2,hj,hk2,rfl⟩
 simp only at hj ⊢
 subst hj
 simp only[Int.toNat_natCast]
 refine⟨λc=>⟨⟨?_,by simp⟩,?_⟩,λc=>?_⟩
 ·show(wE (s.sites.foldl qr (tC s)) k2).fl.length≤400000
  have:=Et (s.sites.foldl qr (tC s)) k2
  have:k2 * 14400≤5 * 14400:=Nat.mul_le_mul_right _ hk2
  omega
 ·rw[av (n:=5) (by omega) (by omega)]
  exact⟨⟨k2+1,rfl,by omega,rfl⟩,by omega⟩
 ·have:k2=5:=by omega
  subst this
  rfl
def Uz(s:Scn)(h:s.fl.length≤200000):PC Tryz.prog:=⟨7,[(.a [(.s 2),(.s 5),.k,.k,(.s 2),(.s 3),(.s 5),(.s 3),(.s 10)])],[.agg [.sl 2 (s.rs.map Rtr.v) false,.sl 5 (s.ls.map Lnk.v) false,.int s.sub,.int s.len,.sl 2 (s.es.map Edg.v) false,.sl 3 (s.sites.map Sit.v) false,.sl 5 (s.sp.map Spk.v) false,.sl 3 (s.lsn.map Lsn.v) false,.sl 10 (s.fl.map Sig.v) false]],Au (aX s),ao.of_ok λok=>(Uy s h ok).elim λI0 h=>h.elim λm0 h=>h.elim λI1 h=>h.elim λm1 h=>aj (sh:=(.a [(.s 2),(.s 5),.k,.k,(.s 2),(.s 3),(.s 5),(.s 3),(.s 10)])) (enc:=Au) (a:=(At s I0 m0 I1 m1).an) h (by kernel_rfl) (AV.pureB_ok rfl),ai (by kernel_rfl)⟩
theorem JN{l:List Itm}{n:Int}{k:Nat}(h:¬((k:Int)<l.length∧n<900)):smN (l.drop k) n=n:=by
 by_cases hk:k<l.length
 ·rw[List.drop_eq_getElem_cons hk,smN,if_neg (by omega)]
 ·rw[List.drop_eq_nil_iff.mpr (by omega),smN]
def wm(l:List Itm):=okL [.sl 4 (l.map Itm.v) false]
def GV(l:List Itm)(t0:Int×Int):NF:=⟨[(0,.k,.sl 4 (l.map Itm.v) false),(3,.k,.int t0.1),(4,.k,.int t0.2)],[]⟩
def GU(l:List Itm)(t0:Int×Int)(t1:Bool):NF:=⟨[(0,.k,.sl 4 (l.map Itm.v) false),(3,.k,.int t0.1),(4,.k,.int t0.2),(14,.k,.bool t1)],[]⟩
@[reducible] def wj:Nat→Type
 | 0=>Int×Int
 | 1=>Bool
 | _=>Unit
def nT(r:Bool):AV:=.bool r
def nS(l:List Itm)(I0:(Int×Int)→Prop)(m0:(Int×Int)→Nat)(I1:Int×Int→Bool→Prop):Ax Tryz.prog wj (Bool):=
 (.loop 0 (GV l) I0 m0 (((l.map Itm.v).length:Int),0) [] λ(t0:Int×Int) b0 =>
(.pass (.join 1 (GU l t0) (λ(t1:Bool)=>I1 t0 t1) (λb1=>(.br 80 (decide (t0.2<((l.map Itm.v).length:Int))) (.bk 1 b1 ((decide (t0.1<900)):Bool) [])
(.bk 1 b1 ((false):Bool) []))) λ(t1:Bool) =>
(.br 0 t1 (.el 48 Itm.v l (λR=>Rf (l.map Itm.v) (ck (decide (0≤t0.2)) (ck (decide (t0.2<(l.length:Int)))
(∀x1,l[t0.2.toNat]?=some x1 →
(R x1))))) λx1 =>
(.bk 0 b0 (W (t0.1+((x1.srcs.map AV.int).length:Int)),W (t0.2+1)) []))
(.ret (decide (t0.1≤800)))))))
def qI(l:List Itm)(I0:(Int×Int)→Prop)(m0:(Int×Int)→Nat)(I1:Int×Int→Bool→Prop)(r0:Bool):=(nS l I0 m0 I1).vp nT r0
theorem JM(l:List Itm)(ok:wm l):∃I0 m0 I1,qI l I0 m0 I1 (gZ l):=by
 refine⟨λt=>∃k:Nat,t.2=k∧k≤l.length∧smN (l.drop k) t.1=smN l l.length,λt=>l.length-t.2.toNat,λt x=>x=decide (t.2<l.length∧t.1<900),?_⟩
 have hle:l.length≤9223372036854775807:=by
  have h:=ok
  simp only[wm,AV.ok,okL,List.length_map,cT]at h
  omega
 dsimp only[qI,nS,wj,Ax.vp,Ax.vc];simp only[vcU,rfU,List.length_map]
 refine⟨⟨0,rfl,by omega,rfl⟩,?_⟩
 rintro⟨n,i⟩ ⟨k,hi,hk,hs⟩
 simp only at hi hs
 subst hi
 simp only
 refine⟨⟨λc=>by simp[c],λc=>by simp[c]⟩,?_⟩
 rintro _ rfl
 refine⟨λc=>?_,λc=>?_⟩
 ·have c:(k:Int)<l.length∧n<900:=of_decide_eq_true c
  refine⟨by omega,by omega,λx hx=>?_⟩
  rw[av (n:=l.length) (by omega) (by omega)]
  simp only[Int.toNat_natCast]at hx
  refine⟨⟨k+1,by omega,by omega,?_⟩,by omega⟩
  obtain⟨hk',rfl⟩:=List.getElem?_eq_some_iff.mp hx
  rw[List.drop_eq_getElem_cons hk',smN,if_pos c.2]at hs
  exact hs
 ·have c:¬((k:Int)<l.length∧n<900):=of_decide_eq_false c
  rw[JN c]at hs
  rw[hs];rfl
def wl(l:List Itm):PC Tryz.prog:=⟨110,[(.s 4)],[.sl 4 (l.map Itm.v) false],nT (gZ l),ao.of_ok λok=>(JM l ok).elim λI0 h=>h.elim λm0 h=>h.elim λI1 h=>aj (sh:=.k) (enc:=nT) (a:=(nS l I0 m0 I1).an) h (by kernel_rfl) (AV.pureB_ok rfl),ai (by kernel_rfl)⟩
def JF(s:Spk):=okL [.agg [.int s.router,.int s.epoch,.int s.last,.sl 4 (s.items.map Itm.v) false,.sl 3 (s.peers.map Per.v) false]]
def nN(r:Bool):AV:=.bool r
def nM(s:Spk):Ax Tryz.prog noS (Bool):=
 (.callP (wl s.items)
(.br 96 (gZ s.items) (.ret (decide (((s.peers.map Per.v).length:Int)≤40)))
(.ret (false))))
def qF(s:Spk)(r0:Bool):=(nM s).vp nN r0
theorem JD(s:Spk)(ok:JF s):qF s (gY s):=by
 unfold gY
 dsimp only[qF,nM,noS,Ax.vp,Ax.vc];simp only[vcU,rfU,List.length_map]
 exact⟨λh=>by simp[h],λh=>by simp[h]⟩
def JE(s:Spk):PC Tryz.prog:=⟨67,[(.a [.k,.k,.k,(.s 4),(.s 3)])],[.agg [.int s.router,.int s.epoch,.int s.last,.sl 4 (s.items.map Itm.v) false,.sl 3 (s.peers.map Per.v) false]],nN (gY s),ao.of_ok λok=>aj (sh:=.k) (enc:=nN) (a:=(nM s).an) (JD s ok) (by kernel_rfl) (AV.pureB_ok rfl),ai (by kernel_rfl)⟩
def JL(l:Lsn):=okL [.agg [.int l.router,.int l.epoch,.sl 4 (l.heard.map Hrd.v) false]]
def GT(l:Lsn)(t0:Int):NF:=⟨[(1,.k,.ref 0 0),(10,.k,.int ((l.heard.map Hrd.v).length:Int)),(11,.k,.int t0)],[.box (.agg [.int l.router,.int l.epoch,.sl 4 (l.heard.map Hrd.v) false])]⟩
@[reducible] def wi:Nat→Type
 | 0=>Int
 | _=>Unit
def nR(r:Bool):AV:=.bool r
def nQ(l:Lsn)(I0:Int→Prop)(m0:Int→Nat):Ax Tryz.prog wi (Bool):=
 (.br 96 (decide (30<((l.heard.map Hrd.v).length:Int))) (.ret (false))
(.loop 0 (GT l) I0 m0 ((0):Int) [0] λ(t0:Int) b0 =>
(.br 17 (decide (t0<((l.heard.map Hrd.v).length:Int))) (.el 97 Hrd.v l.heard (λR=>Rf (l.heard.map Hrd.v) (ck (decide (0≤t0)) (ck (decide (t0<(l.heard.length:Int)))
(∀x1,l.heard[t0.toNat]?=some x1 →
(R x1))))) λx1 =>
(.callP (wl x1.items)
(.br 177 (!(gZ x1.items)) (.ret (false))
(.bk 0 b0 ((W (t0+1)):Int) [0]))))
(.ret (true)))))
def qH(l:Lsn)(I0:Int→Prop)(m0:Int→Nat)(r0:Bool):=(nQ l I0 m0).vp nR r0
theorem JJ(l:Lsn)(ok:JL l):∃I m,qH l I m (gp l):=by
 refine⟨λt=>∃k:Nat,t=k∧k≤l.heard.length∧(l.heard.take k).all (λh=>gZ h.items)=true,λt=>l.heard.length-t.toNat,?_⟩
 dsimp only[qH,nQ,wi,Ax.vp,Ax.vc];simp only[vcU,rfU,List.length_map]
 refine⟨λc=>?_,λc=>⟨⟨0,rfl,by omega,rfl⟩,?_⟩⟩
 ·unfold gp
  rw[decide_eq_false (by omega)];rfl
 rintro _ ⟨k,rfl,hk,h⟩
 simp only[Int.toNat_natCast]
 refine⟨λh1=>⟨by omega,by omega,λx hx=>⟨λd=>?_,λd=>?_⟩⟩,λh1=>?_⟩
 ·have d:gZ x.items=false:=by simpa using d
  unfold gp
  rw[decide_eq_true (by omega)]
  refine(Bool.eq_false_iff.mpr λq=>?_).symm
  rw[Bool.and_eq_true,List.all_eq_true]at q
  have:=q.2 x (aB hx)
  rw[d]at this
  exact Bool.noConfusion this
 ·have d:gZ x.items=true:=by simpa using d
  rw[av (n:=l.heard.length) (by omega) (by omega)]
  refine⟨⟨k+1,rfl,by omega,?_⟩,by omega⟩
  obtain⟨hk',rfl⟩:=List.getElem?_eq_some_iff.mp hx
  rw[List.take_succ_eq_append_getElem hk',List.all_append,h]
  simp[d]
 ·rw[List.take_of_length_le (by omega)]at h
  unfold gp
  rw[decide_eq_true (by omega),h];rfl
def JK(l:Lsn):PC Tryz.prog:=⟨68,[(.a [.k,.k,(.s 4)])],[.agg [.int l.router,.int l.epoch,.sl 4 (l.heard.map Hrd.v) false]],nR (gp l),ao.of_ok λok=>(JJ l ok).elim λI0 h=>h.elim λm0 h=>aj (sh:=.k) (enc:=nR) (a:=(nQ l I0 m0).an) h (by kernel_rfl) (AV.pureB_ok rfl),ai (by kernel_rfl)⟩
def JI(o:Ovl):=okL [.agg [.sl 5 (o.sp.map Spk.v) false,.sl 3 (o.ls.map Lsn.v) false,.sl 10 (o.fl.map Sig.v) false]]
def GS(o:Ovl)(t0:Bool):NF:=⟨[(1,.k,.ref 0 0),(21,.k,.bool t0)],[.box (.agg [.sl 5 (o.sp.map Spk.v) false,.sl 3 (o.ls.map Lsn.v) false,.sl 10 (o.fl.map Sig.v) false])]⟩
def GR(o:Ovl)(t1:Int):NF:=⟨[(1,.k,.ref 0 0),(24,.k,.int ((o.sp.map Spk.v).length:Int)),(25,.k,.int t1)],[.box (.agg [.sl 5 (o.sp.map Spk.v) false,.sl 3 (o.ls.map Lsn.v) false,.sl 10 (o.fl.map Sig.v) false])]⟩
def GQ(o:Ovl)(t2:Int):NF:=⟨[(1,.k,.ref 0 0),(38,.k,.int ((o.ls.map Lsn.v).length:Int)),(39,.k,.int t2)],[.box (.agg [.sl 5 (o.sp.map Spk.v) false,.sl 3 (o.ls.map Lsn.v) false,.sl 10 (o.fl.map Sig.v) false])]⟩
def GP(o:Ovl)(t3:Int):NF:=⟨[(1,.k,.ref 0 0),(52,.k,.int ((o.fl.map Sig.v).length:Int)),(53,.k,.int t3)],[.box (.agg [.sl 5 (o.sp.map Spk.v) false,.sl 3 (o.ls.map Lsn.v) false,.sl 10 (o.fl.map Sig.v) false])]⟩
@[reducible] def wh:Nat→Type
 | 0=>Bool
 | 1=>Int
 | 2=>Int
 | 3=>Int
 | _=>Unit
def nP(r:Bool):AV:=.bool r
def nO(o:Ovl)(I0:Bool→Prop)(I1:Bool→Int→Prop)(m1:Bool→Int→Nat)(I2:Bool→Int→Int→Prop)(m2:Bool→Int→Int→Nat)(I3:Bool→Int→Int→Int→Prop)(m3:Bool→Int→Int→Int→Nat):Ax Tryz.prog wh (Bool):=
 (.pass (.pass (.join 0 (GS o) (λ(t0:Bool)=>I0 t0) (λb0=>(.br 112 (decide (14<((o.sp.map Spk.v).length:Int))) (.bk 0 b0 ((true):Bool) [0])
(.br 208 (decide (14<((o.ls.map Lsn.v).length:Int))) (.bk 0 b0 ((true):Bool) [0])
(.bk 0 b0 ((decide (200<((o.fl.map Sig.v).length:Int))):Bool) [0])))) λ(t0:Bool) =>
(.br 1 t0 (.ret (false))
(.loop 1 (GR o) (I1 t0) (m1 t0) ((0):Int) [0] λ(t1:Int) b1 =>
(.br 17 (decide (t1<((o.sp.map Spk.v).length:Int))) (.el 97 Spk.v o.sp (λR=>Rf (o.sp.map Spk.v) (ck (decide (0≤t1)) (ck (decide (t1<(o.sp.length:Int)))
(∀x1,o.sp[t1.toNat]?=some x1 →
(R x1))))) λx1 =>
(.callP (JE x1)
(.br 161 (!(gY x1)) (.ret (false))
(.bk 1 b1 ((W (t1+1)):Int) [0]))))
(.loop 2 (GQ o) (I2 t0 t1) (m2 t0 t1) ((0):Int) [0] λ(t2:Int) b2 =>
(.br 17 (decide (t2<((o.ls.map Lsn.v).length:Int))) (.el 97 Lsn.v o.ls (λR=>Rf (o.ls.map Lsn.v) (ck (decide (0≤t2)) (ck (decide (t2<(o.ls.length:Int)))
(∀x2,o.ls[t2.toNat]?=some x2 →
(R x2))))) λx2 =>
(.callP (JK x2)
(.br 161 (!(gp x2)) (.ret (false))
(.bk 2 b2 ((W (t2+1)):Int) [0]))))
(.loop 3 (GP o) (I3 t0 t1 t2) (m3 t0 t1 t2) ((0):Int) [0] λ(t3:Int) b3 =>
(.br 17 (decide (t3<((o.fl.map Sig.v).length:Int))) (.el 97 Sig.v o.fl (λR=>Rf (o.fl.map Sig.v) (ck (decide (0≤t3)) (ck (decide (t3<(o.fl.length:Int)))
(∀x3,o.fl[t3.toNat]?=some x3 →
(R x3))))) λx3 =>
(.br 193 (decide (110<((x3.srcs.map AV.int).length:Int))) (.ret (false))
(.bk 3 b3 ((W (t3+1)):Int) [0])))
(.ret (true))))))))))))
def qG(o:Ovl)(I0:Bool→Prop)(I1:Bool→Int→Prop)(m1:Bool→Int→Nat)(I2:Bool→Int→Int→Prop)(m2:Bool→Int→Int→Nat)(I3:Bool→Int→Int→Int→Prop)(m3:Bool→Int→Int→Int→Nat)(r0:Bool):=(nO o I0 I1 m1 I2 m2 I3 m3).vp nP r0
theorem JG(o:Ovl)(ok:JI o):∃I0 I1 m1 I2 m2 I3 m3,qG o I0 I1 m1 I2 m2 I3 m3 (lj o):=by
 refine⟨λx=>x=decide (14<o.sp.length∨14<o.ls.length∨200<o.fl.length),
  λ_ t=>∃k:Nat,t=k∧k≤o.sp.length∧(o.sp.take k).all gY=true,λ_ t=>o.sp.length-t.toNat,
  λ_ _ t=>∃k:Nat,t=k∧k≤o.ls.length∧(o.ls.take k).all gp=true∧o.sp.all gY=true,λ_ _ t=>o.ls.length-t.toNat,
  λ_ _ _ t=>∃k:Nat,t=k∧k≤o.fl.length∧(o.fl.take k).all (λx=>decide (x.srcs.length≤110))=true∧o.sp.all gY=true∧o.ls.all gp=true,λ_ _ _ t=>o.fl.length-t.toNat,?_⟩
 dsimp only[qG,nO,wh,Ax.vp,Ax.vc];simp only[vcU,rfU,List.length_map]
 refine⟨⟨λc=>(decide_eq_true (by omega)).symm,λc=>⟨λd=>(decide_eq_true (by omega)).symm,λd=>decide_eq_decide.mpr (by omega)⟩⟩,?_⟩
 rintro _ rfl
 refine⟨λc=>?_,λc=>⟨⟨0,rfl,by omega,rfl⟩,?_⟩⟩
 ·have c:=of_decide_eq_true c
  symm;refine Bool.eq_false_iff.mpr λq=>?_
  unfold lj at q
  simp only[Bool.and_eq_true,decide_eq_true_eq]at q
  omega
 have c:=of_decide_eq_false c
 have e:lj o=(o.sp.all gY && (o.ls.all gp && o.fl.all λx=>decide (x.srcs.length≤110))):=by
  unfold lj
  rw[decide_eq_true (by omega:o.sp.length≤14),decide_eq_true (by omega:o.ls.length≤14),decide_eq_true (by omega:o.fl.length≤200)];rfl
 rw[e]
 rintro _ ⟨k,rfl,hk,h⟩
 simp only[Int.toNat_natCast]
 refine⟨λc1=>⟨by omega,by omega,λx hx=>⟨λd=>?_,λd=>?_⟩⟩,λc1=>?_⟩
 ·rw[vu (aB hx) (by simpa using d)];rfl
 ·rw[av (n:=o.sp.length) (by omega) (by omega)]
  exact⟨⟨k+1,rfl,by omega,pV hx h (by simpa using d)⟩,by omega⟩
 rw[List.take_of_length_le (by omega)]at h
 refine⟨⟨0,rfl,by omega,rfl,h⟩,?_⟩
 rintro _ ⟨j,rfl,hj,g,_⟩
 simp only[Int.toNat_natCast]
 refine⟨λc2=>⟨by omega,by omega,λx hx=>⟨λd=>?_,λd=>?_⟩⟩,λc2=>?_⟩
 ·rw[vu (aB hx) (by simpa using d)];simp
 ·rw[av (n:=o.ls.length) (by omega) (by omega)]
  exact⟨⟨j+1,rfl,by omega,pV hx g (by simpa using d),h⟩,by omega⟩
 rw[List.take_of_length_le (by omega)]at g
 refine⟨⟨0,rfl,by omega,rfl,h,g⟩,?_⟩
 rintro _ ⟨i,rfl,hi,f,_⟩
 simp only[Int.toNat_natCast]
 refine⟨λc3=>⟨by omega,by omega,λx hx=>⟨λd=>?_,λd=>?_⟩⟩,λc3=>?_⟩
 ·rw[vu (p:=λx:Sig=>decide (x.srcs.length≤110)) (aB hx) (decide_eq_false (by omega))];simp
 ·rw[av (n:=o.fl.length) (by omega) (by omega)]
  exact⟨⟨i+1,rfl,by omega,pV hx f (decide_eq_true (by omega)),h,g⟩,by omega⟩
 rw[List.take_of_length_le (by omega)]at f
 rw[h,g,f];rfl
def JH(o:Ovl):PC Tryz.prog:=⟨20,[(.a [(.s 5),(.s 3),(.s 10)])],[.agg [.sl 5 (o.sp.map Spk.v) false,.sl 3 (o.ls.map Lsn.v) false,.sl 10 (o.fl.map Sig.v) false]],nP (lj o),ao.of_ok λok=>(JG o ok).elim λI0 h=>h.elim λI1 h=>h.elim λm1 h=>h.elim λI2 h=>h.elim λm2 h=>h.elim λI3 h=>h.elim λm3 h=>aj (sh:=.k) (enc:=nP) (a:=(nO o I0 I1 m1 I2 m2 I3 m3).an) h (by kernel_rfl) (AV.pureB_ok rfl),ai (by kernel_rfl)⟩
def LE(n:Nat)(t:Int):Prop:=0≤t∧t≤n
theorem LE.zero{n:Nat}:LE n 0:=⟨by omega,by omega⟩
theorem LE.step{n:Nat}{t:Int}(h:LE n t)(hn:n≤1000)(c:t<n):LE n (W (t+1))∧n-(W (t+1)).toNat<n-t.toNat:=by
 obtain⟨a,b⟩:=h
 rw[bB (by omega)]
 exact⟨⟨by omega,by omega⟩,by omega⟩
theorem L2{L:List Int}{p:Nat}{most:Int}(h:1≤most∧most≤8):(qg L p most).1.fl.length≤86529:=by
 have z:=(PH (L:=L) (p:=p) h).2
 exact z
def Xm(t:List Int)(raw:Ovl)(plan:Pln)(f:Flw)(data:ByteArray)(at_:Int):=okL [.sl 1 (t.map AV.int) false,.agg [.sl 5 (raw.sp.map Spk.v) false,.sl 3 (raw.ls.map Lsn.v) false,.sl 10 (raw.fl.map Sig.v) false],.agg [.int plan.sub,.int plan.len,.sl 2 (plan.es.map Edg.v) false],.agg [.int f.src,.int f.grp],.str data,.int at_]
abbrev ae(t:List Int):=(qg (t.take 2000) 0 5)
abbrev aA(t:List Int):=(mK (t.take 2000) ((ae t).2))
abbrev aC(t:List Int):=(mK (t.take 2000) ((aA t).2))
def SN(t:List Int)(raw:Ovl)(plan:Pln)(f:Flw)(data:ByteArray)(at_:Int)(t0:Bool):NF:=⟨[(0,.k,.sl 1 (t.map AV.int) false),(4,.k,.str data),(5,.k,.int at_),(7,.k,.ref 0 0),(8,.k,.ref 1 0),(9,.k,.ref 2 0),(70,.k,.bool t0)],[.box (.agg [.sl 5 (raw.sp.map Spk.v) false,.sl 3 (raw.ls.map Lsn.v) false,.sl 10 (raw.fl.map Sig.v) false]),.box (.agg [.int plan.sub,.int plan.len,.sl 2 (plan.es.map Edg.v) false]),.box (.agg [.int f.src,.int f.grp])]⟩
def SM(t:List Int)(raw:Ovl)(plan:Pln)(f:Flw)(data:ByteArray)(at_:Int)(t1:Int×Nat):NF:=⟨[(4,.k,.str data),(5,.k,.int at_),(7,.k,.ref 0 0),(8,.k,.ref 1 0),(13,.k,.ref 2 0),(14,.k,.ref 3 0),(15,.k,.ref 4 0),(16,.k,.sl 2 [.agg [.int (((aA t).1).src),.int (((aA t).1).grp)],.agg [.int (((aC t).1).src),.int (((aC t).1).grp)],.agg [.int f.src,.int f.grp]] true),(84,.k,.sl 2 [.agg [.int (((aA t).1).src),.int (((aA t).1).grp)],.agg [.int (((aC t).1).src),.int (((aC t).1).grp)],.agg [.int f.src,.int f.grp]] true),(85,.k,.int 3),(86,.k,.int t1.1)],[.box (.agg [.sl 5 (raw.sp.map Spk.v) false,.sl 3 (raw.ls.map Lsn.v) false,.sl 10 (raw.fl.map Sig.v) false]),.box (.agg [.int plan.sub,.int plan.len,.sl 2 (plan.es.map Edg.v) false]),.box (.agg [.sl 1 ((t.take 2000).map AV.int) false,.int t1.2]),.box ((Scn.v ((ae t).1))),.box (.agg [.sl 2 (((aX ((ae t).1)).rs).map Rtr.v) false,.sl 5 (((aX ((ae t).1)).ls).map Lnk.v) false,.int ((aX ((ae t).1)).sub),.int ((aX ((ae t).1)).len),.sl 2 (((aX ((ae t).1)).es).map Edg.v) false,.sl 3 (((aX ((ae t).1)).sites).map Sit.v) false,.sl 5 (((aX ((ae t).1)).sp).map Spk.v) false,.sl 3 (((aX ((ae t).1)).lsn).map Lsn.v) false,.sl 10 (((aX ((ae t).1)).fl).map Sig.v) false])]⟩
def SL(t:List Int)(raw:Ovl)(plan:Pln)(f:Flw)(data:ByteArray)(at_:Int)(t1:Int×Nat)(x3:Flw)(t2:Int):NF:=⟨[(4,.k,.str data),(5,.k,.int at_),(7,.k,.ref 0 0),(8,.k,.ref 1 0),(13,.k,.ref 2 0),(14,.k,.ref 3 0),(15,.k,.ref 4 0),(16,.k,.sl 2 [.agg [.int (((aA t).1).src),.int (((aA t).1).grp)],.agg [.int (((aC t).1).src),.int (((aC t).1).grp)],.agg [.int f.src,.int f.grp]] true),(18,.k,.ref 5 0),(84,.k,.sl 2 [.agg [.int (((aA t).1).src),.int (((aA t).1).grp)],.agg [.int (((aC t).1).src),.int (((aC t).1).grp)],.agg [.int f.src,.int f.grp]] true),(85,.k,.int 3),(86,.k,.int t1.1),(96,.k,.sl 1 [.str data,.str (B [100,97,116,97]),.str (data.extract 0 ((dR (data.size:Int) 62).toNat))] true),(97,.k,.int 3),(98,.k,.int t2)],[.box (.agg [.sl 5 (raw.sp.map Spk.v) false,.sl 3 (raw.ls.map Lsn.v) false,.sl 10 (raw.fl.map Sig.v) false]),.box (.agg [.int plan.sub,.int plan.len,.sl 2 (plan.es.map Edg.v) false]),.box (.agg [.sl 1 ((t.take 2000).map AV.int) false,.int t1.2]),.box ((Scn.v ((ae t).1))),.box (.agg [.sl 2 (((aX ((ae t).1)).rs).map Rtr.v) false,.sl 5 (((aX ((ae t).1)).ls).map Lnk.v) false,.int ((aX ((ae t).1)).sub),.int ((aX ((ae t).1)).len),.sl 2 (((aX ((ae t).1)).es).map Edg.v) false,.sl 3 (((aX ((ae t).1)).sites).map Sit.v) false,.sl 5 (((aX ((ae t).1)).sp).map Spk.v) false,.sl 3 (((aX ((ae t).1)).lsn).map Lsn.v) false,.sl 10 (((aX ((ae t).1)).fl).map Sig.v) false]),.box (.agg [.int x3.src,.int x3.grp])]⟩
def SK(t:List Int)(raw:Ovl)(plan:Pln)(f:Flw)(data:ByteArray)(at_:Int)(t1:Int×Nat)(x3:Flw)(t2:Int)(t3:Bool):NF:=⟨[(4,.k,.str data),(5,.k,.int at_),(7,.k,.ref 0 0),(8,.k,.ref 1 0),(13,.k,.ref 2 0),(14,.k,.ref 3 0),(15,.k,.ref 4 0),(16,.k,.sl 2 [.agg [.int (((aA t).1).src),.int (((aA t).1).grp)],.agg [.int (((aC t).1).src),.int (((aC t).1).grp)],.agg [.int f.src,.int f.grp]] true),(18,.k,.ref 5 0),(84,.k,.sl 2 [.agg [.int (((aA t).1).src),.int (((aA t).1).grp)],.agg [.int (((aC t).1).src),.int (((aC t).1).grp)],.agg [.int f.src,.int f.grp]] true),(85,.k,.int 3),(86,.k,.int t1.1),(96,.k,.sl 1 [.str data,.str (B [100,97,116,97]),.str (data.extract 0 ((dR (data.size:Int) 62).toNat))] true),(97,.k,.int 3),(98,.k,.int t2),(148,.k,.bool t3)],[.box (.agg [.sl 5 (raw.sp.map Spk.v) false,.sl 3 (raw.ls.map Lsn.v) false,.sl 10 (raw.fl.map Sig.v) false]),.box (.agg [.int plan.sub,.int plan.len,.sl 2 (plan.es.map Edg.v) false]),.box (.agg [.sl 1 ((t.take 2000).map AV.int) false,.int t1.2]),.box ((Scn.v ((ae t).1))),.box (.agg [.sl 2 (((aX ((ae t).1)).rs).map Rtr.v) false,.sl 5 (((aX ((ae t).1)).ls).map Lnk.v) false,.int ((aX ((ae t).1)).sub),.int ((aX ((ae t).1)).len),.sl 2 (((aX ((ae t).1)).es).map Edg.v) false,.sl 3 (((aX ((ae t).1)).sites).map Sit.v) false,.sl 5 (((aX ((ae t).1)).sp).map Spk.v) false,.sl 3 (((aX ((ae t).1)).lsn).map Lsn.v) false,.sl 10 (((aX ((ae t).1)).fl).map Sig.v) false]),.box (.agg [.int x3.src,.int x3.grp])]⟩
def SJ(t:List Int)(raw:Ovl)(plan:Pln)(f:Flw)(data:ByteArray)(at_:Int)(t1:Int×Nat)(x3:Flw)(t4:Int×Nat):NF:=⟨[(4,.k,.str data),(5,.k,.int at_),(7,.k,.ref 0 0),(8,.k,.ref 1 0),(13,.k,.ref 2 0),(14,.k,.ref 3 0),(15,.k,.ref 4 0),(16,.k,.sl 2 [.agg [.int (((aA t).1).src),.int (((aA t).1).grp)],.agg [.int (((aC t).1).src),.int (((aC t).1).grp)],.agg [.int f.src,.int f.grp]] true),(18,.k,.ref 5 0),(84,.k,.sl 2 [.agg [.int (((aA t).1).src),.int (((aA t).1).grp)],.agg [.int (((aC t).1).src),.int (((aC t).1).grp)],.agg [.int f.src,.int f.grp]] true),(85,.k,.int 3),(86,.k,.int t1.1),(153,.k,.sl 3 [.agg [.sl 5 (raw.sp.map Spk.v) false,.sl 3 (raw.ls.map Lsn.v) false,.sl 10 (raw.fl.map Sig.v) false],.agg [.sl 5 ((((ae t).1).sp).map Spk.v) false,.sl 3 ((((ae t).1).lsn).map Lsn.v) false,.sl 10 ((((ae t).1).fl).map Sig.v) false]] true),(154,.k,.int 2),(155,.k,.int t4.1)],[.box (.agg [.sl 5 (raw.sp.map Spk.v) false,.sl 3 (raw.ls.map Lsn.v) false,.sl 10 (raw.fl.map Sig.v) false]),.box (.agg [.int plan.sub,.int plan.len,.sl 2 (plan.es.map Edg.v) false]),.box (.agg [.sl 1 ((t.take 2000).map AV.int) false,.int t4.2]),.box ((Scn.v ((ae t).1))),.box (.agg [.sl 2 (((aX ((ae t).1)).rs).map Rtr.v) false,.sl 5 (((aX ((ae t).1)).ls).map Lnk.v) false,.int ((aX ((ae t).1)).sub),.int ((aX ((ae t).1)).len),.sl 2 (((aX ((ae t).1)).es).map Edg.v) false,.sl 3 (((aX ((ae t).1)).sites).map Sit.v) false,.sl 5 (((aX ((ae t).1)).sp).map Spk.v) false,.sl 3 (((aX ((ae t).1)).lsn).map Lsn.v) false,.sl 10 (((aX ((ae t).1)).fl).map Sig.v) false]),.box (.agg [.int x3.src,.int x3.grp])]⟩
def SH(t:List Int)(raw:Ovl)(plan:Pln)(f:Flw)(data:ByteArray)(at_:Int)(t1:Int×Nat)(x3:Flw)(t4:Int×Nat)(x7:Ovl)(t5:Int×Nat):NF:=⟨[(4,.k,.str data),(5,.k,.int at_),(7,.k,.ref 0 0),(8,.k,.ref 1 0),(13,.k,.ref 2 0),(14,.k,.ref 3 0),(15,.k,.ref 4 0),(16,.k,.sl 2 [.agg [.int (((aA t).1).src),.int (((aA t).1).grp)],.agg [.int (((aC t).1).src),.int (((aC t).1).grp)],.agg [.int f.src,.int f.grp]] true),(18,.k,.ref 5 0),(32,.k,.ref 6 0),(84,.k,.sl 2 [.agg [.int (((aA t).1).src),.int (((aA t).1).grp)],.agg [.int (((aC t).1).src),.int (((aC t).1).grp)],.agg [.int f.src,.int f.grp]] true),(85,.k,.int 3),(86,.k,.int t1.1),(153,.k,.sl 3 [.agg [.sl 5 (raw.sp.map Spk.v) false,.sl 3 (raw.ls.map Lsn.v) false,.sl 10 (raw.fl.map Sig.v) false],.agg [.sl 5 ((((ae t).1).sp).map Spk.v) false,.sl 3 ((((ae t).1).lsn).map Lsn.v) false,.sl 10 ((((ae t).1).fl).map Sig.v) false]] true),(154,.k,.int 2),(155,.k,.int t4.1),(162,.k,.sl 3 [.agg [.int plan.sub,.int plan.len,.sl 2 (plan.es.map Edg.v) false],.agg [.int (((ae t).1).sub),.int (((ae t).1).len),.sl 2 ((((ae t).1).es).map Edg.v) false]] true),(163,.k,.int 2),(164,.k,.int t5.1)],[.box (.agg [.sl 5 (raw.sp.map Spk.v) false,.sl 3 (raw.ls.map Lsn.v) false,.sl 10 (raw.fl.map Sig.v) false]),.box (.agg [.int plan.sub,.int plan.len,.sl 2 (plan.es.map Edg.v) false]),.box (.agg [.sl 1 ((t.take 2000).map AV.int) false,.int t5.2]),.box ((Scn.v ((ae t).1))),.box (.agg [.sl 2 (((aX ((ae t).1)).rs).map Rtr.v) false,.sl 5 (((aX ((ae t).1)).ls).map Lnk.v) false,.int ((aX ((ae t).1)).sub),.int ((aX ((ae t).1)).len),.sl 2 (((aX ((ae t).1)).es).map Edg.v) false,.sl 3 (((aX ((ae t).1)).sites).map Sit.v) false,.sl 5 (((aX ((ae t).1)).sp).map Spk.v) false,.sl 3 (((aX ((ae t).1)).lsn).map Lsn.v) false,.sl 10 (((aX ((ae t).1)).fl).map Sig.v) false]),.box (.agg [.int x3.src,.int x3.grp]),.box (.agg [.sl 5 (x7.sp.map Spk.v) false,.sl 3 (x7.ls.map Lsn.v) false,.sl 10 (x7.fl.map Sig.v) false])]⟩
def SG(t:List Int)(raw:Ovl)(plan:Pln)(f:Flw)(data:ByteArray)(at_:Int)(t1:Int×Nat)(x3:Flw)(t4:Int×Nat)(x7:Ovl)(t5:Int×Nat)(x8:Pln)(t6:Int):NF:=⟨[(4,.k,.str data),(5,.k,.int at_),(7,.k,.ref 0 0),(8,.k,.ref 1 0),(13,.k,.ref 2 0),(14,.k,.ref 3 0),(15,.k,.ref 4 0),(16,.k,.sl 2 [.agg [.int (((aA t).1).src),.int (((aA t).1).grp)],.agg [.int (((aC t).1).src),.int (((aC t).1).grp)],.agg [.int f.src,.int f.grp]] true),(18,.k,.ref 5 0),(32,.k,.ref 6 0),(34,.k,.ref 7 0),(84,.k,.sl 2 [.agg [.int (((aA t).1).src),.int (((aA t).1).grp)],.agg [.int (((aC t).1).src),.int (((aC t).1).grp)],.agg [.int f.src,.int f.grp]] true),(85,.k,.int 3),(86,.k,.int t1.1),(153,.k,.sl 3 [.agg [.sl 5 (raw.sp.map Spk.v) false,.sl 3 (raw.ls.map Lsn.v) false,.sl 10 (raw.fl.map Sig.v) false],.agg [.sl 5 ((((ae t).1).sp).map Spk.v) false,.sl 3 ((((ae t).1).lsn).map Lsn.v) false,.sl 10 ((((ae t).1).fl).map Sig.v) false]] true),(154,.k,.int 2),(155,.k,.int t4.1),(162,.k,.sl 3 [.agg [.int plan.sub,.int plan.len,.sl 2 (plan.es.map Edg.v) false],.agg [.int (((ae t).1).sub),.int (((ae t).1).len),.sl 2 ((((ae t).1).es).map Edg.v) false]] true),(163,.k,.int 2),(164,.k,.int t5.1),(172,.k,.sl 1 [.int at_,.int ((ek (t.take 2000) t5.2 ((ae t).1).sites).1)] true),(173,.k,.int 2),(174,.k,.int t6)],[.box (.agg [.sl 5 (raw.sp.map Spk.v) false,.sl 3 (raw.ls.map Lsn.v) false,.sl 10 (raw.fl.map Sig.v) false]),.box (.agg [.int plan.sub,.int plan.len,.sl 2 (plan.es.map Edg.v) false]),.box (.agg [.sl 1 ((t.take 2000).map AV.int) false,.int ((((ek (t.take 2000) t5.2 ((ae t).1).sites).2):Nat):Int)]),.box ((Scn.v ((ae t).1))),.box (.agg [.sl 2 (((aX ((ae t).1)).rs).map Rtr.v) false,.sl 5 (((aX ((ae t).1)).ls).map Lnk.v) false,.int ((aX ((ae t).1)).sub),.int ((aX ((ae t).1)).len),.sl 2 (((aX ((ae t).1)).es).map Edg.v) false,.sl 3 (((aX ((ae t).1)).sites).map Sit.v) false,.sl 5 (((aX ((ae t).1)).sp).map Spk.v) false,.sl 3 (((aX ((ae t).1)).lsn).map Lsn.v) false,.sl 10 (((aX ((ae t).1)).fl).map Sig.v) false]),.box (.agg [.int x3.src,.int x3.grp]),.box (.agg [.sl 5 (x7.sp.map Spk.v) false,.sl 3 (x7.ls.map Lsn.v) false,.sl 10 (x7.fl.map Sig.v) false]),.box (.agg [.int x8.sub,.int x8.len,.sl 2 (x8.es.map Edg.v) false])]⟩
def SF(t:List Int)(raw:Ovl)(plan:Pln)(f:Flw)(data:ByteArray)(at_:Int)(t1:Int×Nat)(x3:Flw)(t4:Int×Nat)(x7:Ovl)(t5:Int×Nat)(x8:Pln)(t6:Int)(t7:Bool):NF:=⟨[(4,.k,.str data),(5,.k,.int at_),(7,.k,.ref 0 0),(8,.k,.ref 1 0),(13,.k,.ref 2 0),(14,.k,.ref 3 0),(15,.k,.ref 4 0),(16,.k,.sl 2 [.agg [.int (((aA t).1).src),.int (((aA t).1).grp)],.agg [.int (((aC t).1).src),.int (((aC t).1).grp)],.agg [.int f.src,.int f.grp]] true),(18,.k,.ref 5 0),(32,.k,.ref 6 0),(34,.k,.ref 7 0),(84,.k,.sl 2 [.agg [.int (((aA t).1).src),.int (((aA t).1).grp)],.agg [.int (((aC t).1).src),.int (((aC t).1).grp)],.agg [.int f.src,.int f.grp]] true),(85,.k,.int 3),(86,.k,.int t1.1),(153,.k,.sl 3 [.agg [.sl 5 (raw.sp.map Spk.v) false,.sl 3 (raw.ls.map Lsn.v) false,.sl 10 (raw.fl.map Sig.v) false],.agg [.sl 5 ((((ae t).1).sp).map Spk.v) false,.sl 3 ((((ae t).1).lsn).map Lsn.v) false,.sl 10 ((((ae t).1).fl).map Sig.v) false]] true),(154,.k,.int 2),(155,.k,.int t4.1),(162,.k,.sl 3 [.agg [.int plan.sub,.int plan.len,.sl 2 (plan.es.map Edg.v) false],.agg [.int (((ae t).1).sub),.int (((ae t).1).len),.sl 2 ((((ae t).1).es).map Edg.v) false]] true),(163,.k,.int 2),(164,.k,.int t5.1),(172,.k,.sl 1 [.int at_,.int ((ek (t.take 2000) t5.2 ((ae t).1).sites).1)] true),(173,.k,.int 2),(174,.k,.int t6),(231,.k,.bool t7)],[.box (.agg [.sl 5 (raw.sp.map Spk.v) false,.sl 3 (raw.ls.map Lsn.v) false,.sl 10 (raw.fl.map Sig.v) false]),.box (.agg [.int plan.sub,.int plan.len,.sl 2 (plan.es.map Edg.v) false]),.box (.agg [.sl 1 ((t.take 2000).map AV.int) false,.int ((((ek (t.take 2000) t5.2 ((ae t).1).sites).2):Nat):Int)]),.box ((Scn.v ((ae t).1))),.box (.agg [.sl 2 (((aX ((ae t).1)).rs).map Rtr.v) false,.sl 5 (((aX ((ae t).1)).ls).map Lnk.v) false,.int ((aX ((ae t).1)).sub),.int ((aX ((ae t).1)).len),.sl 2 (((aX ((ae t).1)).es).map Edg.v) false,.sl 3 (((aX ((ae t).1)).sites).map Sit.v) false,.sl 5 (((aX ((ae t).1)).sp).map Spk.v) false,.sl 3 (((aX ((ae t).1)).lsn).map Lsn.v) false,.sl 10 (((aX ((ae t).1)).fl).map Sig.v) false]),.box (.agg [.int x3.src,.int x3.grp]),.box (.agg [.sl 5 (x7.sp.map Spk.v) false,.sl 3 (x7.ls.map Lsn.v) false,.sl 10 (x7.fl.map Sig.v) false]),.box (.agg [.int x8.sub,.int x8.len,.sl 2 (x8.es.map Edg.v) false])]⟩
def SD(t:List Int)(raw:Ovl)(f:Flw)(at_:Int)(t8:Int×Nat):NF:=⟨[(5,.k,.int at_),(13,.k,.ref 0 0),(14,.k,.ref 1 0),(16,.k,.sl 2 [.agg [.int (((aA t).1).src),.int (((aA t).1).grp)],.agg [.int (((aC t).1).src),.int (((aC t).1).grp)],.agg [.int f.src,.int f.grp]] true),(239,.k,.sl 3 [.agg [.sl 5 (raw.sp.map Spk.v) false,.sl 3 (raw.ls.map Lsn.v) false,.sl 10 (raw.fl.map Sig.v) false],.agg [.sl 5 (((aX ((ae t).1)).sp).map Spk.v) false,.sl 3 (((aX ((ae t).1)).lsn).map Lsn.v) false,.sl 10 (((aX ((ae t).1)).fl).map Sig.v) false]] true),(240,.k,.int 2),(241,.k,.int t8.1)],[.box (.agg [.sl 1 ((t.take 2000).map AV.int) false,.int t8.2]),.box ((Scn.v ((ae t).1)))]⟩
def SC(t:List Int)(raw:Ovl)(f:Flw)(at_:Int)(t8:Int×Nat)(x12:Ovl)(t9:Int):NF:=⟨[(5,.k,.int at_),(13,.k,.ref 0 0),(14,.k,.ref 1 0),(16,.k,.sl 2 [.agg [.int (((aA t).1).src),.int (((aA t).1).grp)],.agg [.int (((aC t).1).src),.int (((aC t).1).grp)],.agg [.int f.src,.int f.grp]] true),(46,.k,.ref 2 0),(239,.k,.sl 3 [.agg [.sl 5 (raw.sp.map Spk.v) false,.sl 3 (raw.ls.map Lsn.v) false,.sl 10 (raw.fl.map Sig.v) false],.agg [.sl 5 (((aX ((ae t).1)).sp).map Spk.v) false,.sl 3 (((aX ((ae t).1)).lsn).map Lsn.v) false,.sl 10 (((aX ((ae t).1)).fl).map Sig.v) false]] true),(240,.k,.int 2),(241,.k,.int t8.1),(249,.k,.sl 1 [.int at_,.int ((ek (t.take 2000) t8.2 ((ae t).1).sites).1)] true),(250,.k,.int 2),(251,.k,.int t9)],[.box (.agg [.sl 1 ((t.take 2000).map AV.int) false,.int ((((ek (t.take 2000) t8.2 ((ae t).1).sites).2):Nat):Int)]),.box ((Scn.v ((ae t).1))),.box (.agg [.sl 5 (x12.sp.map Spk.v) false,.sl 3 (x12.ls.map Lsn.v) false,.sl 10 (x12.fl.map Sig.v) false])]⟩
def On(t:List Int)(raw:Ovl)(f:Flw)(at_:Int)(t8:Int×Nat)(x12:Ovl)(t9:Int)(t10:Bool):NF:=⟨[(5,.k,.int at_),(13,.k,.ref 0 0),(14,.k,.ref 1 0),(16,.k,.sl 2 [.agg [.int (((aA t).1).src),.int (((aA t).1).grp)],.agg [.int (((aC t).1).src),.int (((aC t).1).grp)],.agg [.int f.src,.int f.grp]] true),(46,.k,.ref 2 0),(239,.k,.sl 3 [.agg [.sl 5 (raw.sp.map Spk.v) false,.sl 3 (raw.ls.map Lsn.v) false,.sl 10 (raw.fl.map Sig.v) false],.agg [.sl 5 (((aX ((ae t).1)).sp).map Spk.v) false,.sl 3 (((aX ((ae t).1)).lsn).map Lsn.v) false,.sl 10 (((aX ((ae t).1)).fl).map Sig.v) false]] true),(240,.k,.int 2),(241,.k,.int t8.1),(249,.k,.sl 1 [.int at_,.int ((ek (t.take 2000) t8.2 ((ae t).1).sites).1)] true),(250,.k,.int 2),(251,.k,.int t9),(320,.k,.bool t10)],[.box (.agg [.sl 1 ((t.take 2000).map AV.int) false,.int ((((ek (t.take 2000) t8.2 ((ae t).1).sites).2):Nat):Int)]),.box ((Scn.v ((ae t).1))),.box (.agg [.sl 5 (x12.sp.map Spk.v) false,.sl 3 (x12.ls.map Lsn.v) false,.sl 10 (x12.fl.map Sig.v) false])]⟩
@[reducible] def Om:Nat→Type
 | 0=>Bool
 | 1=>Int×Nat
 | 2=>Int
 | 3=>Bool
 | 4=>Int×Nat
 | 5=>Int×Nat
 | 6=>Int
 | 7=>Bool
 | 8=>Int×Nat
 | 9=>Int
 | 10=>Bool
 | _=>Unit
def Dc(r:Bool):AV:=.bool r
def Db(t:List Int)(raw:Ovl)(plan:Pln)(f:Flw)(data:ByteArray)(at_:Int)(I0:Bool→Prop)(I1:Bool→(Int×Nat)→Prop)(m1:Bool→(Int×Nat)→Nat)(I2:Bool→Int×Nat→Flw→Int→Prop)(m2:Bool→Int×Nat→Flw→Int→Nat)(I3:Bool→Int×Nat→Flw→Int→ByteArray→Bool→Prop)(I4:Bool→Int×Nat→Flw→Int→(Int×Nat)→Prop)(m4:Bool→Int×Nat→Flw→Int→(Int×Nat)→Nat)(I5:Bool→Int×Nat→Flw→Int→Int×Nat→Ovl→(Int×Nat)→Prop)(m5:Bool→Int×Nat→Flw→Int→Int×Nat→Ovl→(Int×Nat)→Nat)(I6:Bool→Int×Nat→Flw→Int→Int×Nat→Ovl→Int×Nat→Pln→Int→Prop)(m6:Bool→Int×Nat→Flw→Int→Int×Nat→Ovl→Int×Nat→Pln→Int→Nat)(I7:Bool→Int×Nat→Flw→Int→Int×Nat→Ovl→Int×Nat→Pln→Int→Int→Bool→Prop)(I8:Bool→Int×Nat→(Int×Nat)→Prop)(m8:Bool→Int×Nat→(Int×Nat)→Nat)(I9:Bool→Int×Nat→Int×Nat→Ovl→Int→Prop)(m9:Bool→Int×Nat→Int×Nat→Ovl→Int→Nat)(I10:Bool→Int×Nat→Int×Nat→Ovl→Int→Int→Bool→Prop):Ax Tryz.prog Om (Bool):=
 (.pass (.pass (.join 0 (SN t raw plan f data at_) (λ(t0:Bool)=>I0 t0) (λb0=>(.callP (JH raw)
(.br 128 (!(lj raw)) (.bk 0 b0 ((true):Bool) [0,16,32])
(.br 224 (decide (40<((plan.es.map Edg.v).length:Int))) (.bk 0 b0 ((true):Bool) [0,16,32])
(.bk 0 b0 ((decide (200<(data.size:Int))):Bool) [0,16,32]))))) λ(t0:Bool) =>
(.br 3 t0 (.callP (Gb )
(.ret (true)))
(.callH [] (New_h t) 19
(.req 67 (1≤5∧5≤8) λh1 =>
(.callH [19] (U6 (t.take 2000) 0 5 h1) 67
(.req 131 (((ae t).1).fl.length≤200000) λh2 =>
(.callP (Uz ((ae t).1) h2)
(.callH [19] (MJ (t.take 2000) ((ae t).2)) 195
(.callH [19] (MJ (t.take 2000) ((aA t).2)) 227
(.loop 1 (SM t raw plan f data at_) (I1 t0) (m1 t0) (0,(aC t).2) [0,1,19,83,147] λ(t1:Int×Nat) b1 =>
(.br 21 (decide (t1.1<3)) (.el 21 Flw.v [(aA t).1,(aC t).1,f] (λR=>Rf (α:=List AV) [.agg [.int (((aA t).1).src),.int (((aA t).1).grp)],.agg [.int (((aC t).1).src),.int (((aC t).1).grp)],.agg [.int f.src,.int f.grp]] (ck (decide (0≤t1.1)) (ck (decide (t1.1<([(aA t).1,(aC t).1,f].length:Int)))
(∀x3,[(aA t).1,(aC t).1,f][t1.1.toNat]?=some x3 →
(R x3))))) λx3 =>
(.say (ck (cond (decide (0≤(dR (data.size:Int) 62))) (decide ((dR (data.size:Int) 62)≤(data.size:Int))) false)) (.loop 2 (SL t raw plan f data at_ t1 x3) (I2 t0 t1 x3) (m2 t0 t1 x3) ((0):Int) [0,1,2,3,4,53] λ(t2:Int) b2 =>
(.br 22 (decide (t2<3)) (.el 22 AV.str [data,B [100,97,116,97],data.extract 0 ((dR (data.size:Int) 62).toNat)] (λR=>Rf (α:=List AV) [.str data,.str (B [100,97,116,97]),.str (data.extract 0 ((dR (data.size:Int) 62).toNat))] (ck (decide (0≤t2)) (ck (decide (t2<([data,B [100,97,116,97],data.extract 0 ((dR (data.size:Int) 62).toNat)].length:Int)))
(∀x4,[data,B [100,97,116,97],data.extract 0 ((dR (data.size:Int) 62).toNat)][t2.toNat]?=some x4 →
(R x4))))) λx4 =>
(.req 102 (x4.size≤1000000) λh5 =>
(.callP (z8 x3 x4 h5)
(.req 230 (x4.size≤1000000) λh6 =>
(.callP (IG x3 x4 h6)
(.callP (Jx x4)
(.callP (Uk x4)
(.join 3 (SK t raw plan f data at_ t1 x3 t2) (λ(t3:Bool)=>I3 t0 t1 x3 t2 x4 t3) (λb3=>(.br 710 (((dx x3 x4).2) != ((dx x3 x4).2)) (.bk 3 b3 ((true):Bool) [0,1,2,3,4,5])
(.br 790 (!(((dx x3 x4).1).toList==((dx x3 x4).1).toList)) (.bk 3 b3 ((true):Bool) [0,1,2,3,4,5])
(.br 870 (((fV x4).2.2) != ((fV x4).2.2)) (.bk 3 b3 ((true):Bool) [0,1,2,3,4,5])
(.br 950 (!((((fV x4).1).src==((fV x4).1).src) && ((((fV x4).1).grp==((fV x4).1).grp) && true))) (.bk 3 b3 ((true):Bool) [0,1,2,3,4,5])
(.bk 3 b3 ((!(((fV x4).2.1).toList==((fV x4).2.1).toList)):Bool) [0,1,2,3,4,5])))))) λ(t3:Bool) =>
(.br 6 t3 (.ret (false))
(.bk 2 b2 ((W (t2+1)):Int) [0,1,2,3,4,5]))))))))))
(.loop 4 (SJ t raw plan f data at_ t1 x3) (I4 t0 t1 x3 t2) (m4 t0 t1 x3 t2) (0,t1.2) [0,1,2,3,4,5] λ(t4:Int×Nat) b4 =>
(.br 22 (decide (t4.1<2)) (.el 22 Ovl.v [raw,(⟨((ae t).1).sp,((ae t).1).lsn,((ae t).1).fl⟩:Ovl)] (λR=>Rf (α:=List AV) [.agg [.sl 5 (raw.sp.map Spk.v) false,.sl 3 (raw.ls.map Lsn.v) false,.sl 10 (raw.fl.map Sig.v) false],.agg [.sl 5 ((((ae t).1).sp).map Spk.v) false,.sl 3 ((((ae t).1).lsn).map Lsn.v) false,.sl 10 ((((ae t).1).fl).map Sig.v) false]] (ck (decide (0≤t4.1)) (ck (decide (t4.1<([raw,(⟨((ae t).1).sp,((ae t).1).lsn,((ae t).1).fl⟩:Ovl)].length:Int)))
(∀x7,[raw,(⟨((ae t).1).sp,((ae t).1).lsn,((ae t).1).fl⟩:Ovl)][t4.1.toNat]?=some x7 →
(R x7))))) λx7 =>
(.loop 5 (SH t raw plan f data at_ t1 x3 t4 x7) (I5 t0 t1 x3 t2 t4 x7) (m5 t0 t1 x3 t2 t4 x7) (0,t4.2) [0,1,2,3,4,5,54] λ(t5:Int×Nat) b5 =>
(.br 23 (decide (t5.1<2)) (.el 23 Pln.v [plan,(⟨((ae t).1).sub,((ae t).1).len,((ae t).1).es⟩:Pln)] (λR=>Rf (α:=List AV) [.agg [.int plan.sub,.int plan.len,.sl 2 (plan.es.map Edg.v) false],.agg [.int (((ae t).1).sub),.int (((ae t).1).len),.sl 2 ((((ae t).1).es).map Edg.v) false]] (ck (decide (0≤t5.1)) (ck (decide (t5.1<([plan,(⟨((ae t).1).sub,((ae t).1).len,((ae t).1).es⟩:Pln)].length:Int)))
(∀x8,[plan,(⟨((ae t).1).sub,((ae t).1).len,((ae t).1).es⟩:Pln)][t5.1.toNat]?=some x8 →
(R x8))))) λx8 =>
(.callH [2] (KP (t.take 2000) t5.2 ((ae t).1)) 135
(.loop 6 (SG t raw plan f data at_ t1 x3 t4 x7 t5 x8) (I6 t0 t1 x3 t2 t4 x7 t5 x8) (m6 t0 t1 x3 t2 t4 x7 t5 x8) ((0):Int) [0,1,2,3,4,5,6,55] λ(t6:Int) b6 =>
(.br 24 (decide (t6<2)) (.el 24 AV.int [at_,(ek (t.take 2000) t5.2 ((ae t).1).sites).1] (λR=>Rf (α:=List AV) [.int at_,.int ((ek (t.take 2000) t5.2 ((ae t).1).sites).1)] (ck (decide (0≤t6)) (ck (decide (t6<([at_,(ek (t.take 2000) t5.2 ((ae t).1).sites).1].length:Int)))
(∀x9,[at_,(ek (t.take 2000) t5.2 ((ae t).1).sites).1][t6.toNat]?=some x9 →
(R x9))))) λx9 =>
(.callP (tk x7 x8 x9 x3)
(.callP (tj x7 x8 x9 x3)
(.req 472 (data.size≤1000000) λh10 =>
(.callP (Vc x7 x8 x9 x3 data h10)
(.req 648 (data.size≤1000000) λh11 =>
(.callP (UZ x7 x8 x9 x3 data h11)
(.join 7 (SF t raw plan f data at_ t1 x3 t4 x7 t5 x8 t6) (λ(t7:Bool)=>I7 t0 t1 x3 t2 t4 x7 t5 x8 t6 x9 t7) (λb7=>(.br 808 (((aP x7 x8 x9 x3).2) != ((aP x7 x8 x9 x3).2)) (.bk 7 b7 ((true):Bool) [0,1,2,3,4,5,6,7])
(.br 888 (((j6 x7 x8 x9 x3 data).2) != ((j6 x7 x8 x9 x3 data).2)) (.bk 7 b7 ((true):Bool) [0,1,2,3,4,5,6,7])
(.callP (qc ((aP x7 x8 x9 x3).1) ((aP x7 x8 x9 x3).1))
(.br 984 (!(fj ((aP x7 x8 x9 x3).1) ((aP x7 x8 x9 x3).1))) (.bk 7 b7 ((true):Bool) [0,1,2,3,4,5,6,7])
(.callP (Kq ((j6 x7 x8 x9 x3 data).1) ((j6 x7 x8 x9 x3 data).1))
(.bk 7 b7 ((!(ta ((j6 x7 x8 x9 x3 data).1) ((j6 x7 x8 x9 x3 data).1))):Bool) [0,1,2,3,4,5,6,7]))))))) λ(t7:Bool) =>
(.br 8 t7 (.ret (false))
(.bk 6 b6 ((W (t6+1)):Int) [0,1,2,3,4,5,6,7]))))))))))
(.bk 5 b5 (W (t5.1+1),(ek (t.take 2000) t5.2 ((ae t).1).sites).2) [0,1,2,3,4,5,6])))))
(.bk 4 b4 (W (t4.1+1),t5.2) [0,1,2,3,4,5]))))
(.bk 1 b1 (W (t1.1+1),t4.2) [0,1,2,3,4])))))))
(.loop 8 (SD t raw f at_) (I8 t0 t1) (m8 t0 t1) (0,t1.2) [2,3] λ(t8:Int×Nat) b8 =>
(.br 18 (decide (t8.1<2)) (.el 18 Ovl.v [raw,(⟨(aX ((ae t).1)).sp,(aX ((ae t).1)).lsn,(aX ((ae t).1)).fl⟩:Ovl)] (λR=>Rf (α:=List AV) [.agg [.sl 5 (raw.sp.map Spk.v) false,.sl 3 (raw.ls.map Lsn.v) false,.sl 10 (raw.fl.map Sig.v) false],.agg [.sl 5 (((aX ((ae t).1)).sp).map Spk.v) false,.sl 3 (((aX ((ae t).1)).lsn).map Lsn.v) false,.sl 10 (((aX ((ae t).1)).fl).map Sig.v) false]] (ck (decide (0≤t8.1)) (ck (decide (t8.1<([raw,(⟨(aX ((ae t).1)).sp,(aX ((ae t).1)).lsn,(aX ((ae t).1)).fl⟩:Ovl)].length:Int)))
(∀x12,[raw,(⟨(aX ((ae t).1)).sp,(aX ((ae t).1)).lsn,(aX ((ae t).1)).fl⟩:Ovl)][t8.1.toNat]?=some x12 →
(R x12))))) λx12 =>
(.callH [0] (KP (t.take 2000) t8.2 ((ae t).1)) 130
(.loop 9 (SC t raw f at_ t8 x12) (I9 t0 t1 t8 x12) (m9 t0 t1 t8 x12) ((0):Int) [0,1,50] λ(t9:Int) b9 =>
(.br 19 (decide (t9<2)) (.el 19 AV.int [at_,(ek (t.take 2000) t8.2 ((ae t).1).sites).1] (λR=>Rf (α:=List AV) [.int at_,.int ((ek (t.take 2000) t8.2 ((ae t).1).sites).1)] (ck (decide (0≤t9)) (ck (decide (t9<([at_,(ek (t.take 2000) t8.2 ((ae t).1).sites).1].length:Int)))
(∀x13,[at_,(ek (t.take 2000) t8.2 ((ae t).1).sites).1][t9.toNat]?=some x13 →
(R x13))))) λx13 =>
(.req 179 ([(aA t).1,(aC t).1,f].length≤1000) λh14 =>
(.callP (Kz (⟨((ae t).1).sp,((ae t).1).lsn,((ae t).1).fl⟩:Ovl) x12 (⟨((ae t).1).sub,((ae t).1).len,((ae t).1).es⟩:Pln) x13 [(aA t).1,(aC t).1,f] h14)
(.req 387 ([(aA t).1,(aC t).1,f].length≤1000) λh15 =>
(.callP (Kx (⟨((ae t).1).sp,((ae t).1).lsn,((ae t).1).fl⟩:Ovl) x12 (⟨((ae t).1).sub,((ae t).1).len,((ae t).1).es⟩:Pln) x13 [(aA t).1,(aC t).1,f] h15)
(.req 611 ([(aA t).1,(aC t).1].length≤1000) λh16 =>
(.callP (Kz x12 (⟨((ae t).1).sp,((ae t).1).lsn,((ae t).1).fl⟩:Ovl) (⟨((ae t).1).sub,((ae t).1).len,((ae t).1).es⟩:Pln) x13 [(aA t).1,(aC t).1] h16)
(.req 835 ([(aA t).1,(aC t).1].length≤1000) λh17 =>
(.callP (Kx x12 (⟨((ae t).1).sp,((ae t).1).lsn,((ae t).1).fl⟩:Ovl) (⟨((ae t).1).sub,((ae t).1).len,((ae t).1).es⟩:Pln) x13 [(aA t).1,(aC t).1] h17)
(.join 10 (On t raw f at_ t8 x12 t9) (λ(t10:Bool)=>I10 t0 t1 t8 x12 t9 x13 t10) (λb10=>(.br 995 (((fW (⟨((ae t).1).sp,((ae t).1).lsn,((ae t).1).fl⟩:Ovl) x12 (⟨((ae t).1).sub,((ae t).1).len,((ae t).1).es⟩:Pln) x13 [(aA t).1,(aC t).1,f]).2) != ((fW (⟨((ae t).1).sp,((ae t).1).lsn,((ae t).1).fl⟩:Ovl) x12 (⟨((ae t).1).sub,((ae t).1).len,((ae t).1).es⟩:Pln) x13 [(aA t).1,(aC t).1,f]).2)) (.bk 10 b10 ((true):Bool) [0,1,2])
(.br 1075 (((fW x12 (⟨((ae t).1).sp,((ae t).1).lsn,((ae t).1).fl⟩:Ovl) (⟨((ae t).1).sub,((ae t).1).len,((ae t).1).es⟩:Pln) x13 [(aA t).1,(aC t).1]).2) != ((fW x12 (⟨((ae t).1).sp,((ae t).1).lsn,((ae t).1).fl⟩:Ovl) (⟨((ae t).1).sub,((ae t).1).len,((ae t).1).es⟩:Pln) x13 [(aA t).1,(aC t).1]).2)) (.bk 10 b10 ((true):Bool) [0,1,2])
(.callP (w8 ((fW (⟨((ae t).1).sp,((ae t).1).lsn,((ae t).1).fl⟩:Ovl) x12 (⟨((ae t).1).sub,((ae t).1).len,((ae t).1).es⟩:Pln) x13 [(aA t).1,(aC t).1,f]).1) ((fW (⟨((ae t).1).sp,((ae t).1).lsn,((ae t).1).fl⟩:Ovl) x12 (⟨((ae t).1).sub,((ae t).1).len,((ae t).1).es⟩:Pln) x13 [(aA t).1,(aC t).1,f]).1))
(.br 1171 (!(lk ((fW (⟨((ae t).1).sp,((ae t).1).lsn,((ae t).1).fl⟩:Ovl) x12 (⟨((ae t).1).sub,((ae t).1).len,((ae t).1).es⟩:Pln) x13 [(aA t).1,(aC t).1,f]).1) ((fW (⟨((ae t).1).sp,((ae t).1).lsn,((ae t).1).fl⟩:Ovl) x12 (⟨((ae t).1).sub,((ae t).1).len,((ae t).1).es⟩:Pln) x13 [(aA t).1,(aC t).1,f]).1))) (.bk 10 b10 ((true):Bool) [0,1,2])
(.callP (w8 ((fW x12 (⟨((ae t).1).sp,((ae t).1).lsn,((ae t).1).fl⟩:Ovl) (⟨((ae t).1).sub,((ae t).1).len,((ae t).1).es⟩:Pln) x13 [(aA t).1,(aC t).1]).1) ((fW x12 (⟨((ae t).1).sp,((ae t).1).lsn,((ae t).1).fl⟩:Ovl) (⟨((ae t).1).sub,((ae t).1).len,((ae t).1).es⟩:Pln) x13 [(aA t).1,(aC t).1]).1))
(.bk 10 b10 ((!(lk ((fW x12 (⟨((ae t).1).sp,((ae t).1).lsn,((ae t).1).fl⟩:Ovl) (⟨((ae t).1).sub,((ae t).1).len,((ae t).1).es⟩:Pln) x13 [(aA t).1,(aC t).1]).1) ((fW x12 (⟨((ae t).1).sp,((ae t).1).lsn,((ae t).1).fl⟩:Ovl) (⟨((ae t).1).sub,((ae t).1).len,((ae t).1).es⟩:Pln) x13 [(aA t).1,(aC t).1]).1))):Bool) [0,1,2]))))))) λ(t10:Bool) =>
(.br 3 t10 (.ret (false))
(.bk 9 b9 ((W (t9+1)):Int) [0,1,2]))))))))))))
(.bk 8 b8 (W (t8.1+1),(ek (t.take 2000) t8.2 ((ae t).1).sites).2) [0,1])))))
(.callP (Gb )
(.ret (true))))))))))))))))))
def Gi(t:List Int)(raw:Ovl)(plan:Pln)(f:Flw)(data:ByteArray)(at_:Int)(I0:Bool→Prop)(I1:Bool→(Int×Nat)→Prop)(m1:Bool→(Int×Nat)→Nat)(I2:Bool→Int×Nat→Flw→Int→Prop)(m2:Bool→Int×Nat→Flw→Int→Nat)(I3:Bool→Int×Nat→Flw→Int→ByteArray→Bool→Prop)(I4:Bool→Int×Nat→Flw→Int→(Int×Nat)→Prop)(m4:Bool→Int×Nat→Flw→Int→(Int×Nat)→Nat)(I5:Bool→Int×Nat→Flw→Int→Int×Nat→Ovl→(Int×Nat)→Prop)(m5:Bool→Int×Nat→Flw→Int→Int×Nat→Ovl→(Int×Nat)→Nat)(I6:Bool→Int×Nat→Flw→Int→Int×Nat→Ovl→Int×Nat→Pln→Int→Prop)(m6:Bool→Int×Nat→Flw→Int→Int×Nat→Ovl→Int×Nat→Pln→Int→Nat)(I7:Bool→Int×Nat→Flw→Int→Int×Nat→Ovl→Int×Nat→Pln→Int→Int→Bool→Prop)(I8:Bool→Int×Nat→(Int×Nat)→Prop)(m8:Bool→Int×Nat→(Int×Nat)→Nat)(I9:Bool→Int×Nat→Int×Nat→Ovl→Int→Prop)(m9:Bool→Int×Nat→Int×Nat→Ovl→Int→Nat)(I10:Bool→Int×Nat→Int×Nat→Ovl→Int→Int→Bool→Prop)(r0:Bool):=(Db t raw plan f data at_ I0 I1 m1 I2 m2 I3 I4 m4 I5 m5 I6 m6 I7 I8 m8 I9 m9 I10).vp Dc r0
theorem Xk(t:List Int)(raw:Ovl)(plan:Pln)(f:Flw)(data:ByteArray)(at_:Int)(ok:Xm t raw plan f data at_):∃I0 I1 m1 I2 m2 I3 I4 m4 I5 m5 I6 m6 I7 I8 m8 I9 m9 I10,Gi t raw plan f data at_ I0 I1 m1 I2 m2 I3 I4 m4 I5 m5 I6 m6 I7 I8 m8 I9 m9 I10 true:=by
 refine⟨λb=>b=false→data.size≤200,λ_ t=>LE 3 t.1,λ_ t=>3-t.1.toNat,λ_ _ _ t=>LE 3 t,λ_ _ _ t=>3-t.toNat,λ_ _ _ _ _ b=>b=false,
  λ_ _ _ _ t=>LE 2 t.1,λ_ _ _ _ t=>2-t.1.toNat,λ_ _ _ _ _ _ t=>LE 2 t.1,λ_ _ _ _ _ _ t=>2-t.1.toNat,λ_ _ _ _ _ _ _ _ t=>LE 2 t,λ_ _ _ _ _ _ _ _ t=>2-t.toNat,λ_ _ _ _ _ _ _ _ _ _ b=>b=false,
  λ_ _ t=>LE 2 t.1,λ_ _ t=>2-t.1.toNat,λ_ _ _ _ t=>LE 2 t,λ_ _ _ _ t=>2-t.toNat,λ_ _ _ _ _ _ b=>b=false,?_⟩
 have hx:=L2 (L:=t.take 2000) (p:=0) (most:=5) (by omega)
 dsimp only[Gi,Db,Om,ae,aA,aC,Ax.vp,Ax.vc];simp only[vcU,rfU,List.length_map]
 generalize (qg (t.take 2000) 0 5)=X at hx ⊢
 generalize (mK (t.take 2000) X.2)=F1
 generalize (mK (t.take 2000) F1.2)=F2
 refine⟨⟨λc e=>(by cases e),λc=>⟨λd e=>(by cases e),λd e=>(by omega)⟩⟩,?_⟩
 intro b0 hb
 refine⟨λc=>trivial,λc=>?_⟩
 have hd:=hb c
 refine⟨by omega,by omega,LE.zero,?_⟩
 rintro⟨i,p⟩ h1
 refine⟨λq1=>⟨h1.1,q1,λg hg=>⟨?_,LE.zero,λj h2=>⟨λq2=>⟨h2.1,q2,λd hdd=>?_⟩,λq2=>⟨LE.zero,?_⟩⟩⟩⟩,λq1=>⟨LE.zero,?_⟩⟩
 ·have:dR (data.size:Int) 62=min (data.size:Int) 62:=by unfold dR;split<;>omega
  rw[this,decide_eq_true (by omega),decide_eq_true (by omega)];rfl
 ·have hs:d.size≤1000000:=by
   have:=aB hdd
   simp only[List.mem_cons,List.not_mem_nil,or_false]at this
   rcases this with rfl|rfl|rfl
   ·omega
   ·decide
   ·rw[ByteArray.size_extract];omega
  refine⟨hs,hs,⟨λa=>by simp at a,λ_=>⟨λa=>by simp at a,λ_=>⟨λa=>by simp at a,λ_=>⟨λa=>by simp at a,λ_=>by simp⟩⟩⟩⟩,?_⟩
  rintro _ rfl
  exact⟨λa=>(by cases a),λ_=>h2.step (by omega) q2⟩
 ·rintro⟨k,p2⟩ h3
  refine⟨λq3=>⟨h3.1,q3,λo ho=>⟨LE.zero,?_⟩⟩,λq3=>h1.step (by omega) q1⟩
  rintro⟨k2,p3⟩ h4
  refine⟨λq4=>⟨h4.1,q4,λpl hpl=>⟨LE.zero,?_⟩⟩,λq4=>h3.step (by omega) q3⟩
  intro k3 h5
  refine⟨λq5=>⟨h5.1,q5,λr hr=>⟨by omega,by omega,⟨λa=>by simp at a,λ_=>⟨λa=>by simp at a,λ_=>⟨λa=>by simp[fj]at a,λ_=>by simp[ta]⟩⟩⟩,?_⟩⟩,λq5=>h4.step (by omega) q4⟩
  rintro _ rfl
  exact⟨λa=>(by cases a),λ_=>h5.step (by omega) q5⟩
 ·rintro⟨k,p2⟩ h3
  refine⟨λq3=>⟨h3.1,q3,λo ho=>⟨LE.zero,?_⟩⟩,λq3=>trivial⟩
  intro k2 h4
  refine⟨λq4=>⟨h4.1,q4,λr hr=>⟨by simp,by simp,by simp,by simp,⟨λa=>by simp at a,λ_=>⟨λa=>by simp at a,λ_=>⟨λa=>by simp[lk]at a,λ_=>by simp[lk]⟩⟩⟩,?_⟩⟩,λq4=>h3.step (by omega) q3⟩
  rintro _ rfl
  exact⟨λa=>(by cases a),λ_=>h4.step (by omega) q4⟩
def Xl(t:List Int)(raw:Ovl)(plan:Pln)(f:Flw)(data:ByteArray)(at_:Int):PC Tryz.prog:=⟨5,[(.s 1),(.a [(.s 5),(.s 3),(.s 10)]),(.a [.k,.k,(.s 2)]),.k,.k,.k],[.sl 1 (t.map AV.int) false,.agg [.sl 5 (raw.sp.map Spk.v) false,.sl 3 (raw.ls.map Lsn.v) false,.sl 10 (raw.fl.map Sig.v) false],.agg [.int plan.sub,.int plan.len,.sl 2 (plan.es.map Edg.v) false],.agg [.int f.src,.int f.grp],.str data,.int at_],Dc true,ao.of_ok λok=>(Xk t raw plan f data at_ ok).elim λI0 h=>h.elim λI1 h=>h.elim λm1 h=>h.elim λI2 h=>h.elim λm2 h=>h.elim λI3 h=>h.elim λI4 h=>h.elim λm4 h=>h.elim λI5 h=>h.elim λm5 h=>h.elim λI6 h=>h.elim λm6 h=>h.elim λI7 h=>h.elim λI8 h=>h.elim λm8 h=>h.elim λI9 h=>h.elim λm9 h=>h.elim λI10 h=>aj (sh:=.k) (enc:=Dc) (a:=(Db t raw plan f data at_ I0 I1 m1 I2 m2 I3 I4 m4 I5 m5 I6 m6 I7 I8 m8 I9 m9 I10).an) h (by kernel_rfl) (AV.pureB_ok rfl),ai (by kernel_rfl)⟩
end Go.Proofs.YthhpaedpnjdnbaaGreatDoor
