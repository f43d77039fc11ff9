/- Texts joined: G22 G30 G31 G32 U16 G33 G34 G35 G36 G41 G37 G38 G39 G42 G43. -/
import Derived.Test.YthhpaedpnjdnbaaGreatDoorQA7
set_option linter.unusedVariables false
set_option linter.unusedSimpArgs false
namespace Go.Proofs.YthhpaedpnjdnbaaGreatDoor
open Go Go.Am
def PG(s:Spk)(router:Int):=okL [.agg [.int s.router,.int s.epoch,.int s.last,.sl 4 (s.items.map Itm.v) false,.sl 3 (s.peers.map Per.v) false],.int router]
def Kj(s:Spk)(router:Int)(t0:Int×Int×List Sig):NF:=⟨[(1,.k,.int router),(2,.k,.ref 0 0),(7,.k,.int (cu s.peers router)),(8,.k,.vec 1),(9,.k,.int t0.1),(32,.k,.sl 4 (s.items.map Itm.v) false),(33,.k,.int ((s.items.map Itm.v).length:Int)),(34,.k,.int t0.2.1)],[.box (.agg [.int s.router,.int s.epoch,.int s.last,.sl 4 (s.items.map Itm.v) false,.sl 3 (s.peers.map Per.v) false]),.vec 10 (t0.2.2.map Sig.v) (ab (λ_=>rfl) t0.2.2)]⟩
@[reducible] def Ef:Nat→Type
 | 0=>Int×Int×List Sig
 | _=>Unit
def sW(r:List Sig×Int):AV:=.tup [.sl 10 (r.1.map Sig.v) false,.int r.2]
def sV(s:Spk)(router:Int)(I0:(Int×Int×List Sig)→Prop)(m0:(Int×Int×List Sig)→Nat):Ax Tryz.prog Ef (List Sig×Int):=
 (.callP (jk s)
(.br 128 ((dK s) != 0) (.ret ([],dK s))
(.callP (EC s router)
(.br 224 (decide ((cu s.peers router)<0)) (.ret ([],4))
(.own 352 (.cmdL (.wkB 352 (.a [.k,.k,.k,.k,.k,.k,.k,.k,.k,(.s 1)])) (.loop 0 (Kj s router) I0 m0 (0,0,[(⟨1,s.router,router,s.epoch,s.last,0,0,0,0,[]⟩:Sig)]) [0,352] λ(t0:Int×Int×List Sig) b0 =>
(.br 18 (decide (t0.2.1<((s.items.map Itm.v).length:Int))) (.el 18 Itm.v s.items (λR=>Rf (s.items.map Itm.v) (ck (decide (0≤t0.2.1)) (ck (decide (t0.2.1<(s.items.length:Int)))
(∀x1,s.items[t0.2.1.toNat]?=some x1 →
(R x1))))) λx1 =>
(.el 162 Per.v s.peers (λR=>Rf (s.peers.map Per.v) (ck (decide (0≤(cu s.peers router))) (ck (decide ((cu s.peers router)<(s.peers.length:Int)))
(∀x2,s.peers[(cu s.peers router).toNat]?=some x2 →
(R x2))))) λx2 =>
(.br 226 (decide (x2.acked<x1.ver)) (.own 450 (.say (λR=>Rf (α:=List AV) (t0.2.2.map Sig.v) (Rf (α:=List AV) [.agg [.int 2,.int s.router,.int router,.int s.epoch,.int x1.ver,.int t0.1,.int 0,.int x1.grp,.int x1.mode,.sl 1 (x1.srcs.map AV.int) false]]
(ck (decide (t0.2.2.length+1≤1048576))
R))) (.app 466 Sig.v t0.2.2 [(⟨2,s.router,router,s.epoch,x1.ver,t0.1,0,x1.grp,x1.mode,x1.srcs⟩:Sig)]
(.bk 0 b0 (x1.ver,W (t0.2.1+1),t0.2.2++[(⟨2,s.router,router,s.epoch,x1.ver,t0.1,0,x1.grp,x1.mode,x1.srcs⟩:Sig)]) [0,466]))))
(.bk 0 b0 (x1.ver,W (t0.2.1+1),t0.2.2) [0,1]))))
(.say (Rf (t0.2.2.map Sig.v)) (.cmdL (.frzE 1 (t0.2.2.map Sig.v) (ab (λ_=>rfl) t0.2.2)) (.ret (t0.2.2,0))))))))))))
def wv(s:Spk)(router:Int)(I0:(Int×Int×List Sig)→Prop)(m0:(Int×Int×List Sig)→Nat)(r0:List Sig×Int):=(sV s router I0 m0).vp sW r0
theorem PE(s:Spk)(r:Int)(ok:PG s r):∃I0 m0,wv s r I0 m0 (send s r):=by
 let ak:=(s.peers.getD (ib s.peers r) ⟨0,0,0⟩).acked
 refine⟨λt=>∃k:Nat,t.2.1=k∧k≤s.items.length∧t.2.2.length≤k+1∧gi s r::bU s r ak 0 s.items=t.2.2++bU s r ak t.1 (s.items.drop k),λt=>s.items.length-t.2.1.toNat,?_⟩
 dsimp only[wv,sV,Ef,Ax.vp,Ax.vc];simp only[vcU,rfU,List.length_map]
 have hv:dK s=if bc s then 0 else 1:=rfl
 rw[hv]
 by_cases hs:bc s
 case neg=>simp[send,hs]
 rw[if_pos hs,xT hs.2.2.2.2.2.2]
 refine⟨λe=>by simp at e,λ_=>⟨λe=>?_,λe=>?_⟩⟩
 ·rw[send,if_neg (not_not_intro hs),if_pos]
  intro q;rw[if_pos q]at e;omega
 have e:uh s.peers r:=by
  refine Classical.byContradiction λq=>e ?_
  rw[if_neg q];omega
 rw[if_pos e,Int.toNat_natCast]
 have fin:send s r=(gi s r::bU s r ak 0 s.items,0):=by rw[send,if_neg (not_not_intro hs),if_neg (not_not_intro e)]
 have hil:=gM hs.2.2.2.1
 refine⟨⟨0,rfl,by omega,by simp,rfl⟩,?_⟩
 rintro⟨prev,_,acc⟩ ⟨k,rfl,hk,hal,h⟩
 simp only[Int.toNat_natCast]at *
 refine⟨λh1=>⟨by omega,by omega,λx hx=>⟨by omega,by have:=e.1;omega,λy hy=>?_⟩⟩,λh1=>?_⟩
 ·have hy:ak=y.acked:=by show(s.peers.getD (ib s.peers r) ⟨0,0,0⟩).acked=_;rw[getD_some hy]
  have hd:s.items.drop k=x::s.items.drop (k+1):=by
   have hkl:=ay hx
   rw[List.drop_eq_getElem_cons hkl]
   rw[List.getElem?_eq_getElem hkl]at hx;rw[Option.some.inj hx]
  rw[hd,bU]at h
  rw[av (n:=s.items.length) (by omega) (by omega)]
  refine⟨λe3=>⟨by omega,⟨k+1,rfl,by omega,by simp;omega,?_⟩,by omega⟩,λe3=>⟨⟨k+1,rfl,by omega,by omega,?_⟩,by omega⟩⟩
  ·rw[h,if_pos (by omega)];simp[Pi]
  ·rw[h,if_neg (by omega)];simp
 ·rw[List.drop_eq_nil_of_le (by omega),bU,List.append_nil]at h
  rw[fin,h]
def PF(s:Spk)(router:Int):PC Tryz.prog:=⟨64,[(.a [.k,.k,.k,(.s 4),(.s 3)]),.k],[.agg [.int s.router,.int s.epoch,.int s.last,.sl 4 (s.items.map Itm.v) false,.sl 3 (s.peers.map Per.v) false],.int router],sW (send s router),ao.of_ok λok=>(PE s router ok).elim λI0 h=>h.elim λm0 h=>aj (sh:=(.a [(.s 10),.k])) (enc:=sW) (a:=(sV s router I0 m0).an) h (by kernel_rfl) (AV.pureB_ok rfl),ai (by kernel_rfl)⟩
def Xr(s:Spk)(x:Sig):=okL [.agg [.int s.router,.int s.epoch,.int s.last,.sl 4 (s.items.map Itm.v) false,.sl 3 (s.peers.map Per.v) false],.agg [.int x.kind,.int x.src,.int x.dst,.int x.epoch,.int x.ver,.int x.prev,.int x.pep,.int x.grp,.int x.mode,.sl 1 (x.srcs.map AV.int) false]]
def SU(s:Spk)(x:Sig)(t0:Bool):NF:=⟨[(2,.k,.ref 0 0),(3,.k,.ref 1 0),(4,.k,.ref 2 0),(33,.k,.bool t0)],[.box (.agg [.int s.router,.int s.epoch,.int s.last,.sl 4 (s.items.map Itm.v) false,.sl 3 (s.peers.map Per.v) false]),.box (.agg [.int x.kind,.int x.src,.int x.dst,.int x.epoch,.int x.ver,.int x.prev,.int x.pep,.int x.grp,.int x.mode,.sl 1 (x.srcs.map AV.int) false]),.box (.agg [.int 0,.int 0,.int 0,.sl 0 [] true,.sl 0 [] true])]⟩
def ST(s:Spk)(x:Sig)(t1:Int):NF:=⟨[(2,.k,.ref 0 0),(3,.k,.ref 1 0),(4,.k,.ref 2 0),(8,.k,.int (cu s.peers x.src)),(9,.k,.int t1)],[.box (.agg [.int s.router,.int s.epoch,.int s.last,.sl 4 (s.items.map Itm.v) false,.sl 3 (s.peers.map Per.v) false]),.box (.agg [.int x.kind,.int x.src,.int x.dst,.int x.epoch,.int x.ver,.int x.prev,.int x.pep,.int x.grp,.int x.mode,.sl 1 (x.srcs.map AV.int) false]),.box (.agg [.int 0,.int 0,.int 0,.sl 0 [] true,.sl 0 [] true])]⟩
def SS(s:Spk)(x:Sig)(t2:Bool):NF:=⟨[(2,.k,.ref 0 0),(3,.k,.ref 1 0),(4,.k,.ref 2 0),(8,.k,.int (cu s.peers x.src)),(9,.k,.int 0),(53,.k,.bool t2)],[.box (.agg [.int s.router,.int s.epoch,.int s.last,.sl 4 (s.items.map Itm.v) false,.sl 3 (s.peers.map Per.v) false]),.box (.agg [.int x.kind,.int x.src,.int x.dst,.int x.epoch,.int x.ver,.int x.prev,.int x.pep,.int x.grp,.int x.mode,.sl 1 (x.srcs.map AV.int) false]),.box (.agg [.int 0,.int 0,.int 0,.sl 0 [] true,.sl 0 [] true])]⟩
@[reducible] def Ou:Nat→Type
 | 0=>Bool
 | 1=>Int
 | 2=>Bool
 | _=>Unit
def Dg(r:Spk×Int):AV:=.tup [Spk.v r.1,.int r.2]
def Df(s:Spk)(x:Sig)(I0:Bool→Prop)(I1:Bool→Int→Prop)(I2:Bool→Bool→Prop):Ax Tryz.prog Ou (Spk×Int):=
 (.callP (jk s)
(.br 144 ((dK s) != 0) (.ret ((⟨0,0,0,[],[]⟩:Spk),dK s))
(.callP (sO x)
(.br 224 ((aL x) != 0) (.ret ((⟨0,0,0,[],[]⟩:Spk),aL x))
(.pass (.join 0 (SU s x) (λ(t0:Bool)=>I0 t0) (λb0=>(.br 288 (x.kind != 3) (.bk 0 b0 ((true):Bool) [0,16,32])
(.bk 0 b0 ((x.dst != s.router):Bool) [0,16,32]))) λ(t0:Bool) =>
(.br 3 t0 (.ret ((⟨0,0,0,[],[]⟩:Spk),1))
(.callP (EC s x.src)
(.br 115 (decide ((cu s.peers x.src)<0)) (.ret ((⟨0,0,0,[],[]⟩:Spk),4))
(.pass (.join 1 (ST s x) (λ(t1:Int)=>I1 t0 t1) (λb1=>(.join 2 (SS s x) (λ(t2:Bool)=>I2 t0 t2) (λb2=>(.br 227 (x.epoch==s.epoch) (.bk 2 b2 ((decide (x.ver≤s.last)):Bool) [0,1,2])
(.bk 2 b2 ((false):Bool) [0,1,2]))) λ(t2:Bool) =>
(.br 3 t2 (.bk 1 b1 ((x.ver):Int) [0,1,2])
(.bk 1 b1 ((0):Int) [0,1,2])))) λ(t1:Int) =>
(.say (λR=>Rf (α:=List AV) [] (Rf (α:=List AV) (s.peers.map Per.v)
(ck (decide (0+s.peers.length≤1048576))
R))) (.app 99 Per.v [] s.peers
(.say (ck (cond (decide (0≤(cu s.peers x.src))) (decide ((cu s.peers x.src)<((s.peers.map Per.v).length:Int))) false)) (.el 307 Per.v s.peers (λR=>Rf (s.peers.map Per.v) (ck (decide ((cu s.peers x.src).toNat<s.peers.length))
(∀x1,s.peers[(cu s.peers x.src).toNat]?=some x1 →
(R x1)))) λx1 =>
(.br 355 (decide (x1.epoch<x.pep)) (.st 467 Per.v s.peers (λy2=>(⟨y2.router,x.pep,y2.acked⟩:Per)) (λR=>Rf (s.peers.map Per.v) (ck (decide ((cu s.peers x.src).toNat<s.peers.length))
(∀y2,s.peers[(cu s.peers x.src).toNat]?=some y2→Rf (Per.v (⟨y2.router,x.pep,y2.acked⟩:Per))
((R y2))))) λy2 =>
(.st 515 Per.v (s.peers.set ((cu s.peers x.src).toNat) (⟨y2.router,x.pep,y2.acked⟩:Per)) (λy3=>(⟨y3.router,y3.epoch,t1⟩:Per)) (λR=>Rf ((s.peers.set ((cu s.peers x.src).toNat) (⟨y2.router,x.pep,y2.acked⟩:Per)).map Per.v) (ck (decide ((cu s.peers x.src).toNat<(s.peers.set ((cu s.peers x.src).toNat) (⟨y2.router,x.pep,y2.acked⟩:Per)).length))
(∀y3,(s.peers.set ((cu s.peers x.src).toNat) (⟨y2.router,x.pep,y2.acked⟩:Per))[(cu s.peers x.src).toNat]?=some y3→Rf (Per.v (⟨y3.router,y3.epoch,t1⟩:Per))
((R y3))))) λy3 =>
(.say (Rf (((s.peers.set ((cu s.peers x.src).toNat) (⟨y2.router,x.pep,y2.acked⟩:Per)).set ((cu s.peers x.src).toNat) (⟨y3.router,y3.epoch,t1⟩:Per)).map Per.v)) (.cmdL (.frzE 99 (((s.peers.set ((cu s.peers x.src).toNat) (⟨y2.router,x.pep,y2.acked⟩:Per)).set ((cu s.peers x.src).toNat) (⟨y3.router,y3.epoch,t1⟩:Per)).map Per.v) (ab (λ_=>rfl) ((s.peers.set ((cu s.peers x.src).toNat) (⟨y2.router,x.pep,y2.acked⟩:Per)).set ((cu s.peers x.src).toNat) (⟨y3.router,y3.epoch,t1⟩:Per)))) (.ret ((⟨s.router,s.epoch,s.last,s.items,(s.peers.set ((cu s.peers x.src).toNat) (⟨y2.router,x.pep,y2.acked⟩:Per)).set ((cu s.peers x.src).toNat) (⟨y3.router,y3.epoch,t1⟩:Per)⟩:Spk),0))))))
(.el 435 Per.v s.peers (λR=>Rf (s.peers.map Per.v) (ck (decide ((cu s.peers x.src).toNat<s.peers.length))
(∀x4,s.peers[(cu s.peers x.src).toNat]?=some x4 →
(R x4)))) λx4 =>
(.br 483 (x.pep==x4.epoch) (.el 547 Per.v s.peers (λR=>Rf (s.peers.map Per.v) (ck (decide ((cu s.peers x.src).toNat<s.peers.length))
(∀x5,s.peers[(cu s.peers x.src).toNat]?=some x5 →
(R x5)))) λx5 =>
(.st 627 Per.v s.peers (λy6=>(⟨y6.router,y6.epoch,gu x5.acked t1⟩:Per)) (λR=>Rf (s.peers.map Per.v) (ck (decide ((cu s.peers x.src).toNat<s.peers.length))
(∀y6,s.peers[(cu s.peers x.src).toNat]?=some y6→Rf (Per.v (⟨y6.router,y6.epoch,gu x5.acked t1⟩:Per))
((R y6))))) λy6 =>
(.say (Rf ((s.peers.set ((cu s.peers x.src).toNat) (⟨y6.router,y6.epoch,gu x5.acked t1⟩:Per)).map Per.v)) (.cmdL (.frzE 99 ((s.peers.set ((cu s.peers x.src).toNat) (⟨y6.router,y6.epoch,gu x5.acked t1⟩:Per)).map Per.v) (ab (λ_=>rfl) (s.peers.set ((cu s.peers x.src).toNat) (⟨y6.router,y6.epoch,gu x5.acked t1⟩:Per)))) (.ret ((⟨s.router,s.epoch,s.last,s.items,s.peers.set ((cu s.peers x.src).toNat) (⟨y6.router,y6.epoch,gu x5.acked t1⟩:Per)⟩:Spk),0))))))
(.say (Rf (s.peers.map Per.v)) (.cmdL (.frzE 99 (s.peers.map Per.v) (ab (λ_=>rfl) s.peers)) (.ret (s,0))))))))))))))))))))))
def Gl(s:Spk)(x:Sig)(I0:Bool→Prop)(I1:Bool→Int→Prop)(I2:Bool→Bool→Prop)(r0:Spk×Int):=(Df s x I0 I1 I2).vp Dg r0
theorem Xp(s:Spk)(x:Sig)(ok:Xr s x):∃I0 I1 I2,Gl s x I0 I1 I2 (ack s x):=by
 refine⟨λb=>b=decide (x.kind≠3∨x.dst≠s.router),λb v=>v=vy s x,λb c=>c=decide (x.epoch=s.epoch∧x.ver≤s.last),?_⟩
 dsimp only[Gl,Df,Ou,Ax.vp,Ax.vc];simp only[vcU,rfU,List.length_map]
 have hv:dK s=if bc s then 0 else 1:=rfl
 rw[hv]
 unfold ack
 by_cases hs:bc s
 case neg=>rw[if_neg hs,if_pos hs];simp[fc]
 rw[if_pos hs,if_neg (not_not_intro hs),xT hs.2.2.2.2.2.2]
 refine⟨λe=>by simp at e,λ_=>⟨λe=>?_,λe=>⟨⟨λk=>?_,λk=>?_⟩,λb hb=>⟨λc=>?_,λc=>?_⟩⟩⟩⟩
 ·rw[if_pos (by simpa using e)];rfl
 ·exact(decide_eq_true (.inl (by simpa using k))).symm
 ·have k:x.kind=3:=by simpa using k
  by_cases q:x.dst=s.router<;>simp[q,k]
 ·subst hb
  have e0:¬aL x≠0:=by simpa using e
  rw[if_neg e0,if_pos (by simpa using c)];rfl
 ·subst hb
  have c:¬(x.kind≠3∨x.dst≠s.router):=by simpa using c
  have e0:¬aL x≠0:=by simpa using e
  rw[if_neg e0,if_neg c]
  by_cases hit:uh s.peers x.src
  case neg =>
   rw[if_neg hit,if_pos hit]
   exact⟨λ_=>rfl,λq=>by omega⟩
  rw[if_pos hit,if_neg (not_not_intro hit),Int.toNat_natCast]
  have hp:=hit.1
  have hpl:=hs.2.2.2.2.1
  refine⟨λq=>by omega,λ_=>⟨⟨⟨λk=>?_,λk=>?_⟩,λb2 hb2=>⟨λq=>?_,λq=>?_⟩⟩,?_⟩⟩
  ·have k:x.epoch=s.epoch:=by simpa using k
   simp[k]
  ·have k:¬x.epoch=s.epoch:=by simpa using k
   simp[k]
  ·subst hb2
   unfold vy;rw[if_pos (by simpa using q)]
  ·subst hb2
   unfold vy;rw[if_neg (by simpa using q)]
  ·rintro _ rfl
   have hat:∀y,s.peers[ib s.peers x.src]?=some y→s.peers.getD (ib s.peers x.src) ⟨0,0,0⟩=y:=λy hy=>by rw[List.getD_eq_getElem?_getD,hy];rfl
   refine⟨by omega,by rw[decide_eq_true (by omega),decide_eq_true (by omega)];rfl,hp,λy hy=>⟨λq=>⟨hp,λy2 hy2=>⟨by simpa using hp,λy3 hy3=>?_⟩⟩,λq=>⟨hp,λy4 hy4=>⟨λq2=>⟨hp,λy5 hy5=>⟨hp,λy6 hy6=>?_⟩⟩,λq2=>?_⟩⟩⟩⟩
   ·rw[hy]at hy2;cases hy2
    rw[List.getElem?_set_self hp]at hy3
    cases hy3
    rw[hat _ hy,List.set_set]
    unfold g9
    rw[if_pos q]
   ·rw[hy]at hy4 hy5 hy6;cases hy4;cases hy5;cases hy6
    rw[hat _ hy]
    unfold g9
    rw[if_neg q,if_pos (by simpa using q2)]
   ·rw[hy]at hy4;cases hy4
    rw[hat _ hy]
    unfold g9
    rw[if_neg q,if_neg (by simpa using q2)]
    have:s.peers.set (ib s.peers x.src) y=s.peers:=by
     refine List.ext_getElem (by simp) λj h1 h2=>?_
     rw[List.getElem_set]
     split
     ·rename_i e';subst e'
      exact((List.getElem?_eq_some_iff.mp hy).2).symm
     ·rfl
    rw[this]
def Xq(s:Spk)(x:Sig):PC Tryz.prog:=⟨62,[(.a [.k,.k,.k,(.s 4),(.s 3)]),(.a [.k,.k,.k,.k,.k,.k,.k,.k,.k,(.s 1)])],[.agg [.int s.router,.int s.epoch,.int s.last,.sl 4 (s.items.map Itm.v) false,.sl 3 (s.peers.map Per.v) false],.agg [.int x.kind,.int x.src,.int x.dst,.int x.epoch,.int x.ver,.int x.prev,.int x.pep,.int x.grp,.int x.mode,.sl 1 (x.srcs.map AV.int) false]],Dg (ack s x),ao.of_ok λok=>(Xp s x ok).elim λI0 h=>h.elim λI1 h=>h.elim λI2 h=>aj (sh:=(.a [(.a [.k,.k,.k,(.s 4),(.s 3)]),.k])) (enc:=Dg) (a:=(Df s x I0 I1 I2).an) h (by kernel_rfl) (AV.pureB_ok rfl),ai (by kernel_rfl)⟩
def bld(l:List Hrd)(r:Int)(h:Hrd)(k:Nat):List Hrd:=l.take (min k (bp l r))++((if bp l r<k then [h]else [])++((l.take k).drop (bp l r)).filter λy=>decide (y.router≠r))
theorem zf{l:List Hrd}{r:Int}{h x:Hrd}{k:Nat}(ho:l.Pairwise λx y=>x.router<y.router)(hx:l[k]?=some x) :
  (bp l r=k↔¬bp l r<k∧r≤x.router)∧bld l r h (k+1)=bld l r h k++((if bp l r=k then [h]else [])++if x.router≠r then [x]else []):=by
 obtain⟨hk,hxk⟩:=List.getElem?_eq_some_iff.mp hx
 have hlt:k<bp l r→x.router<r:=λq=>by have:=kr (key:=Hrd.router) (l:=l) (r:=r) q hk;rw[hxk]at this;exact this
 have hge:bp l r≤k→r≤x.router:=λq=>by have:=tn (key:=Hrd.router) (r:=r) ho hk q;rw[hxk]at this;exact this
 refine⟨⟨λe=>⟨by omega,hge (by omega)⟩,λ⟨e1,e2⟩=>?_⟩,?_⟩
 ·rcases Nat.lt_or_ge k (bp l r)with q|q
  ·have:=hlt q;omega
  ·omega
 unfold bld
 rw[ax hx]
 rcases Nat.lt_trichotomy k (bp l r)with q|q|q
 ·have h1:=hlt q
  rw[if_neg (by omega),if_neg (by omega),if_neg (by omega),if_pos (by omega),Nat.min_eq_left (by omega),Nat.min_eq_left (by omega)]
  rw[List.drop_eq_nil_of_le (by simp;omega),List.drop_eq_nil_of_le (by simp;omega),ax hx]
  simp
 ·rw[if_pos (by omega),if_neg (by omega),if_pos q.symm,Nat.min_eq_right (by omega),Nat.min_eq_left (by omega),←q]
  rw[List.drop_append_of_le_length (by simp;omega),List.drop_eq_nil_of_le (by simp;omega)]
  by_cases e:x.router=r<;>simp[e]
 ·rw[if_pos (by omega),if_pos (by omega),if_neg (by omega),Nat.min_eq_right (by omega),Nat.min_eq_right (by omega)]
  rw[List.drop_append_of_le_length (by simp;omega),List.filter_append]
  by_cases e:x.router=r<;>simp[e]
theorem Sv{l:List Hrd}{r:Int}{h:Hrd}{k:Nat}:(bld l r h k).length≤l.length+l.length+1:=by
 unfold bld
 have:=List.length_filter_le (λy:Hrd=>decide (y.router≠r)) ((l.take k).drop (bp l r))
 simp only[List.length_append,List.length_take,List.length_drop]at *
 split<;>simp only[List.length_cons,List.length_nil]<;>omega
theorem Sw{l:List Hrd}{r:Int}{h:Hrd}(ho:l.Pairwise λx y=>x.router<y.router)(hr:h.router=r):bld l r h l.length++(if bp l r<l.length then []else [h])=(base l r).set (bp l r) h:=by
 have hp:bp l r≤l.length:=List.findIdx_le_length
 unfold bld
 rw[List.take_length,Nat.min_eq_right hp]
 by_cases hh:∃z∈l,z.router=r
 ·have hit:=(dr ho).mpr hh
  have hlt:=hit.1
  rw[if_pos hlt,if_pos hlt,base,if_pos hit,List.append_nil,List.set_eq_take_append_cons_drop,if_pos hlt]
  congr 1
  rw[List.drop_eq_getElem_cons hlt,List.filter_cons]
  have h2:(l[bp l r]'hlt).router=r:=by
   have:=hit.2
   rw[List.getD_eq_getElem?_getD,List.getElem?_eq_getElem hlt]at this
   exact this
  rw[if_neg (by simp[h2]),List.filter_eq_self.mpr]
  ·rfl
  ·intro y hy
   obtain⟨i,hi,rfl⟩:=List.getElem_of_mem hy
   rw[List.getElem_drop]
   simp only[List.length_drop]at hi
   have:=List.pairwise_iff_getElem.mp ho (bp l r) (bp l r+1+i) hlt (by omega) (by omega)
   rw[h2]at this
   simp only[ne_eq,decide_not,Bool.not_eq_true',decide_eq_false_iff_not]
   omega
 ·have hn:¬fX l r:=λq=>hh ((dr ho).mp q)
  have hf:(l.drop (bp l r)).filter (λy=>decide (y.router≠r))=l.drop (bp l r):=List.filter_eq_self.mpr λy hy=>by
   have:=List.mem_of_mem_drop hy
   simpa using λe=>hh ⟨y,this,e⟩
  have hb:base l r=l.take (bp l r)++⟨r,0,0,[]⟩::l.drop (bp l r):=by rw[base,if_neg hn,jK]
  have e:=(xJ (key:=Hrd.router) (z0:=⟨r,0,0,[]⟩) ho hh hr).1
  rw[hf,hb]
  refine Eq.trans ?_ e.symm
  show _=l.take (bp l r)++h::l.drop (bp l r)
  by_cases hlt:bp l r<l.length
  ·rw[if_pos hlt,if_pos hlt];simp
  ·rw[if_neg hlt,if_neg hlt,List.drop_eq_nil_of_le (by omega)];simp
theorem MF{l:List Hrd}{r:Int}{x:Hrd}{k:Nat}(ho:l.Pairwise λx y=>x.router<y.router)(hx:l[k]?=some x):gOf (l.take (k+1)) r=if x.router=r then x else gOf (l.take k) r:=by
 have o1:∀j,(l.take j).Pairwise λx y=>x.router<y.router:=λj=>ho.sublist (List.take_sublist _ _)
 have hm:x∈l.take (k+1):=by rw[ax hx];simp
 split
 ·rename_i e;subst e;exact eP (o1 _) hm
 ·rename_i e
  by_cases hh:∃z∈l.take k,z.router=r
  ·obtain⟨z,hz,rfl⟩:=hh
   rw[eP (o1 _) hz,eP (o1 _) (by rw[ax hx];simp[hz])]
  ·rw[im (o1 _) hh,im (o1 _)]
   rintro⟨z,hz,e2⟩
   rw[ax hx]at hz
   rcases List.mem_append.mp hz with hz|hz
   ·exact hh ⟨z,hz,e2⟩
   ·rw[List.mem_singleton]at hz;subst hz;exact e e2
def Rs(l:Lsn)(x:Sig):=okL [.agg [.int l.router,.int l.epoch,.sl 4 (l.heard.map Hrd.v) false],.agg [.int x.kind,.int x.src,.int x.dst,.int x.epoch,.int x.ver,.int x.prev,.int x.pep,.int x.grp,.int x.mode,.sl 1 (x.srcs.map AV.int) false]]
def M4(l:Lsn)(x:Sig)(t0:Bool):NF:=⟨[(2,.k,.ref 0 0),(3,.k,.ref 1 0),(4,.k,.ref 2 0),(5,.k,.ref 3 0),(39,.k,.bool t0)],[.box (.agg [.int l.router,.int l.epoch,.sl 4 (l.heard.map Hrd.v) false]),.box (.agg [.int x.kind,.int x.src,.int x.dst,.int x.epoch,.int x.ver,.int x.prev,.int x.pep,.int x.grp,.int x.mode,.sl 1 (x.srcs.map AV.int) false]),.box (.agg [.int 0,.int 0,.sl 0 [] true]),.box (.agg [.int 0,.int 0,.int 0,.int 0,.int 0,.int 0,.int 0,.int 0,.int 0,.sl 0 [] true])]⟩
def M3(l:Lsn)(x:Sig)(t1:Int×Hrd):NF:=⟨[(2,.k,.ref 0 0),(3,.k,.ref 1 0),(4,.k,.ref 2 0),(5,.k,.ref 3 0),(9,.k,.ref 4 0),(10,.k,.ref 5 0),(51,.k,.sl 4 (l.heard.map Hrd.v) false),(52,.k,.int ((l.heard.map Hrd.v).length:Int)),(53,.k,.int t1.1)],[.box (.agg [.int l.router,.int l.epoch,.sl 4 (l.heard.map Hrd.v) false]),.box (.agg [.int x.kind,.int x.src,.int x.dst,.int x.epoch,.int x.ver,.int x.prev,.int x.pep,.int x.grp,.int x.mode,.sl 1 (x.srcs.map AV.int) false]),.box (.agg [.int 0,.int 0,.sl 0 [] true]),.box (.agg [.int 0,.int 0,.int 0,.int 0,.int 0,.int 0,.int 0,.int 0,.int 0,.sl 0 [] true]),.box (.agg [.int l.router,.int l.epoch,.sl 0 [] true]),.box (.agg [.int t1.2.router,.int t1.2.epoch,.int t1.2.ver,.sl 4 (t1.2.items.map Itm.v) false])]⟩
def M2(l:Lsn)(x:Sig)(t1:Int×Hrd)(t2:Bool):NF:=⟨[(2,.k,.ref 0 0),(3,.k,.ref 1 0),(4,.k,.ref 2 0),(5,.k,.ref 3 0),(9,.k,.ref 4 0),(10,.k,.ref 5 0),(72,.k,.bool t2)],[.box (.agg [.int l.router,.int l.epoch,.sl 4 (l.heard.map Hrd.v) false]),.box (.agg [.int x.kind,.int x.src,.int x.dst,.int x.epoch,.int x.ver,.int x.prev,.int x.pep,.int x.grp,.int x.mode,.sl 1 (x.srcs.map AV.int) false]),.box (.agg [.int 0,.int 0,.sl 0 [] true]),.box (.agg [.int 0,.int 0,.int 0,.int 0,.int 0,.int 0,.int 0,.int 0,.int 0,.sl 0 [] true]),.box (.agg [.int l.router,.int l.epoch,.sl 0 [] true]),.box (.agg [.int t1.2.router,.int t1.2.epoch,.int t1.2.ver,.sl 4 (t1.2.items.map Itm.v) false])]⟩
def M1(l:Lsn)(x:Sig)(t3:Hrd):NF:=⟨[(2,.k,.ref 0 0),(3,.k,.ref 1 0),(4,.k,.ref 2 0),(5,.k,.ref 3 0),(9,.k,.ref 4 0),(10,.k,.ref 5 0)],[.box (.agg [.int l.router,.int l.epoch,.sl 4 (l.heard.map Hrd.v) false]),.box (.agg [.int x.kind,.int x.src,.int x.dst,.int x.epoch,.int x.ver,.int x.prev,.int x.pep,.int x.grp,.int x.mode,.sl 1 (x.srcs.map AV.int) false]),.box (.agg [.int 0,.int 0,.sl 0 [] true]),.box (.agg [.int 0,.int 0,.int 0,.int 0,.int 0,.int 0,.int 0,.int 0,.int 0,.sl 0 [] true]),.box (.agg [.int l.router,.int l.epoch,.sl 0 [] true]),.box (.agg [.int t3.router,.int t3.epoch,.int t3.ver,.sl 4 (t3.items.map Itm.v) false])]⟩
def M0(l:Lsn)(x:Sig)(t4:Hrd):NF:=⟨[(2,.k,.ref 0 0),(3,.k,.ref 1 0),(4,.k,.ref 2 0),(5,.k,.ref 3 0),(9,.k,.ref 4 0),(10,.k,.ref 5 0)],[.box (.agg [.int l.router,.int l.epoch,.sl 4 (l.heard.map Hrd.v) false]),.box (.agg [.int x.kind,.int x.src,.int x.dst,.int x.epoch,.int x.ver,.int x.prev,.int x.pep,.int x.grp,.int x.mode,.sl 1 (x.srcs.map AV.int) false]),.box (.agg [.int 0,.int 0,.sl 0 [] true]),.box (.agg [.int 0,.int 0,.int 0,.int 0,.int 0,.int 0,.int 0,.int 0,.int 0,.sl 0 [] true]),.box (.agg [.int l.router,.int l.epoch,.sl 0 [] true]),.box (.agg [.int t4.router,.int t4.epoch,.int t4.ver,.sl 4 (t4.items.map Itm.v) false])]⟩
def Mz(l:Lsn)(x:Sig)(t3:Hrd)(t5:Bool):NF:=⟨[(2,.k,.ref 0 0),(3,.k,.ref 1 0),(4,.k,.ref 2 0),(5,.k,.ref 3 0),(9,.k,.ref 4 0),(10,.k,.ref 5 0),(108,.k,.bool t5)],[.box (.agg [.int l.router,.int l.epoch,.sl 4 (l.heard.map Hrd.v) false]),.box (.agg [.int x.kind,.int x.src,.int x.dst,.int x.epoch,.int x.ver,.int x.prev,.int x.pep,.int x.grp,.int x.mode,.sl 1 (x.srcs.map AV.int) false]),.box (.agg [.int 0,.int 0,.sl 0 [] true]),.box (.agg [.int 0,.int 0,.int 0,.int 0,.int 0,.int 0,.int 0,.int 0,.int 0,.sl 0 [] true]),.box (.agg [.int l.router,.int l.epoch,.sl 0 [] true]),.box (.agg [.int t3.router,.int t3.epoch,.int t3.ver,.sl 4 (t3.items.map Itm.v) false])]⟩
def My(l:Lsn)(x:Sig)(t4:Hrd)(t6:Bool×Int×List Hrd):NF:=⟨[(2,.k,.ref 0 0),(3,.k,.ref 1 0),(4,.k,.ref 2 0),(5,.k,.ref 3 0),(9,.k,.ref 4 0),(10,.k,.ref 6 0),(13,.k,.bool t6.1),(124,.k,.sl 4 (l.heard.map Hrd.v) false),(125,.k,.int ((l.heard.map Hrd.v).length:Int)),(126,.k,.int t6.2.1)],[.box (.agg [.int l.router,.int l.epoch,.sl 4 (l.heard.map Hrd.v) false]),.box (.agg [.int x.kind,.int x.src,.int x.dst,.int x.epoch,.int x.ver,.int x.prev,.int x.pep,.int x.grp,.int x.mode,.sl 1 (x.srcs.map AV.int) false]),.box (.agg [.int 0,.int 0,.sl 0 [] true]),.box (.agg [.int 0,.int 0,.int 0,.int 0,.int 0,.int 0,.int 0,.int 0,.int 0,.sl 0 [] true]),.box (.agg [.int l.router,.int l.epoch,.vec 5]),.vec 4 (t6.2.2.map Hrd.v) (ab (λ_=>rfl) t6.2.2),.box (.agg [.int t4.router,.int t4.epoch,.int t4.ver,.sl 4 (t4.items.map Itm.v) false])]⟩
def Mx(l:Lsn)(x:Sig)(t4:Hrd)(t6:Bool×Int×List Hrd)(x3:Hrd)(t7:Bool×List Hrd):NF:=⟨[(2,.k,.ref 0 0),(3,.k,.ref 1 0),(4,.k,.ref 2 0),(5,.k,.ref 3 0),(9,.k,.ref 4 0),(10,.k,.ref 6 0),(13,.k,.bool t7.1),(15,.k,.ref 7 0),(124,.k,.sl 4 (l.heard.map Hrd.v) false),(125,.k,.int ((l.heard.map Hrd.v).length:Int)),(126,.k,.int t6.2.1)],[.box (.agg [.int l.router,.int l.epoch,.sl 4 (l.heard.map Hrd.v) false]),.box (.agg [.int x.kind,.int x.src,.int x.dst,.int x.epoch,.int x.ver,.int x.prev,.int x.pep,.int x.grp,.int x.mode,.sl 1 (x.srcs.map AV.int) false]),.box (.agg [.int 0,.int 0,.sl 0 [] true]),.box (.agg [.int 0,.int 0,.int 0,.int 0,.int 0,.int 0,.int 0,.int 0,.int 0,.sl 0 [] true]),.box (.agg [.int l.router,.int l.epoch,.vec 5]),.vec 4 (t7.2.map Hrd.v) (ab (λ_=>rfl) t7.2),.box (.agg [.int t4.router,.int t4.epoch,.int t4.ver,.sl 4 (t4.items.map Itm.v) false]),.box (.agg [.int x3.router,.int x3.epoch,.int x3.ver,.sl 4 (x3.items.map Itm.v) false])]⟩
def Mw(l:Lsn)(x:Sig)(t4:Hrd)(t6:Bool×Int×List Hrd)(x3:Hrd)(t8:Bool):NF:=⟨[(2,.k,.ref 0 0),(3,.k,.ref 1 0),(4,.k,.ref 2 0),(5,.k,.ref 3 0),(9,.k,.ref 4 0),(10,.k,.ref 6 0),(13,.k,.bool t6.1),(15,.k,.ref 7 0),(124,.k,.sl 4 (l.heard.map Hrd.v) false),(125,.k,.int ((l.heard.map Hrd.v).length:Int)),(126,.k,.int t6.2.1),(138,.k,.bool t8)],[.box (.agg [.int l.router,.int l.epoch,.sl 4 (l.heard.map Hrd.v) false]),.box (.agg [.int x.kind,.int x.src,.int x.dst,.int x.epoch,.int x.ver,.int x.prev,.int x.pep,.int x.grp,.int x.mode,.sl 1 (x.srcs.map AV.int) false]),.box (.agg [.int 0,.int 0,.sl 0 [] true]),.box (.agg [.int 0,.int 0,.int 0,.int 0,.int 0,.int 0,.int 0,.int 0,.int 0,.sl 0 [] true]),.box (.agg [.int l.router,.int l.epoch,.vec 5]),.vec 4 (t6.2.2.map Hrd.v) (ab (λ_=>rfl) t6.2.2),.box (.agg [.int t4.router,.int t4.epoch,.int t4.ver,.sl 4 (t4.items.map Itm.v) false]),.box (.agg [.int x3.router,.int x3.epoch,.int x3.ver,.sl 4 (x3.items.map Itm.v) false])]⟩
def Mv(l:Lsn)(x:Sig)(t4:Hrd)(t9:List Hrd):NF:=⟨[(2,.k,.ref 0 0),(3,.k,.ref 1 0),(4,.k,.ref 2 0),(5,.k,.ref 3 0),(9,.k,.ref 4 0),(10,.k,.ref 6 0)],[.box (.agg [.int l.router,.int l.epoch,.sl 4 (l.heard.map Hrd.v) false]),.box (.agg [.int x.kind,.int x.src,.int x.dst,.int x.epoch,.int x.ver,.int x.prev,.int x.pep,.int x.grp,.int x.mode,.sl 1 (x.srcs.map AV.int) false]),.box (.agg [.int 0,.int 0,.sl 0 [] true]),.box (.agg [.int 0,.int 0,.int 0,.int 0,.int 0,.int 0,.int 0,.int 0,.int 0,.sl 0 [] true]),.box (.agg [.int l.router,.int l.epoch,.vec 5]),.vec 4 (t9.map Hrd.v) (ab (λ_=>rfl) t9),.box (.agg [.int t4.router,.int t4.epoch,.int t4.ver,.sl 4 (t4.items.map Itm.v) false])]⟩
@[reducible] def Fq:Nat→Type
 | 0=>Bool
 | 1=>Int×Hrd
 | 2=>Bool
 | 3=>Hrd
 | 4=>Hrd
 | 5=>Bool
 | 6=>Bool×Int×List Hrd
 | 7=>Bool×List Hrd
 | 8=>Bool
 | 9=>(List Hrd)
 | _=>Unit
def ul(r:Lsn×Sig×Int):AV:=.tup [Lsn.v r.1,Sig.v r.2.1,.int r.2.2]
def uk(l:Lsn)(x:Sig)(I0:Bool→Prop)(I1:Bool→(Int×Hrd)→Prop)(m1:Bool→(Int×Hrd)→Nat)(I2:Bool→Int×Hrd→Bool→Prop)(I3:Bool→Int×Hrd→Bool→Hrd→Prop)(I4:Bool→Int×Hrd→Bool→Hrd→Hrd→Prop)(I5:Bool→Int×Hrd→Bool→Hrd→Bool→Prop)(I6:Bool→Int×Hrd→Bool→Hrd→Hrd→(Bool×Int×List Hrd)→Prop)(m6:Bool→Int×Hrd→Bool→Hrd→Hrd→(Bool×Int×List Hrd)→Nat)(I7:Bool→Int×Hrd→Bool→Hrd→Hrd→Bool×Int×List Hrd→Hrd→(Bool×List Hrd)→Prop)(I8:Bool→Int×Hrd→Bool→Hrd→Hrd→Bool×Int×List Hrd→Hrd→Bool→Prop)(I9:Bool→Int×Hrd→Bool→Hrd→Hrd→Bool×Int×List Hrd→(List Hrd)→Prop):Ax Tryz.prog Fq (Lsn×Sig×Int):=
 (.callP (sD l)
(.br 160 ((fU l) != 0) (.ret ((⟨0,0,[]⟩:Lsn),(⟨0,0,0,0,0,0,0,0,0,[]⟩:Sig),fU l))
(.callP (sO x)
(.br 240 ((aL x) != 0) (.ret ((⟨0,0,[]⟩:Lsn),(⟨0,0,0,0,0,0,0,0,0,[]⟩:Sig),aL x))
(.pass (.join 0 (M4 l x) (λ(t0:Bool)=>I0 t0) (λb0=>(.br 304 (x.kind==3) (.bk 0 b0 ((true):Bool) [0,16,32,48])
(.bk 0 b0 ((x.dst != l.router):Bool) [0,16,32,48]))) λ(t0:Bool) =>
(.br 4 t0 (.ret ((⟨0,0,[]⟩:Lsn),(⟨0,0,0,0,0,0,0,0,0,[]⟩:Sig),1))
(.cmdL (.wkB 164 (.a [.k,.k,.k,.s 4])) (.loop 1 (M3 l x) (I1 t0) (m1 t0) (0,(⟨x.src,0,0,[]⟩:Hrd)) [0,1,2,3,84,164] λ(t1:Int×Hrd) b1 =>
(.br 22 (decide (t1.1<((l.heard.map Hrd.v).length:Int))) (.el 22 Hrd.v l.heard (λR=>Rf (l.heard.map Hrd.v) (ck (decide (0≤t1.1)) (ck (decide (t1.1<(l.heard.length:Int)))
(∀x1,l.heard[t1.1.toNat]?=some x1 →
(R x1))))) λx1 =>
(.br 166 (x1.router==x.src) (.bk 1 b1 (W (t1.1+1),x1) [0,1,2,3,4,5])
(.bk 1 b1 (W (t1.1+1),t1.2) [0,1,2,3,4,5])))
(.pass (.join 2 (M2 l x t1) (λ(t2:Bool)=>I2 t0 t1 t2) (λb2=>(.br 86 (t1.2.epoch==0) (.bk 2 b2 ((decide (12≤((l.heard.map Hrd.v).length:Int))):Bool) [0,1,2,3,4,5])
(.bk 2 b2 ((false):Bool) [0,1,2,3,4,5]))) λ(t2:Bool) =>
(.br 6 t2 (.ret ((⟨0,0,[]⟩:Lsn),(⟨0,0,0,0,0,0,0,0,0,[]⟩:Sig),3))
(.join 3 (M1 l x) (λ(t3:Hrd)=>I3 t0 t1 t2 t3) (λb3=>(.br 86 (decide (t1.2.epoch<x.epoch)) (.cmdL (.wkB 5 (.a [.k,.k,.k,.s 4])) (.bk 3 b3 (((⟨x.src,x.epoch,0,[]⟩:Hrd)):Hrd) [0,1,2,3,4,5]))
(.bk 3 b3 ((t1.2):Hrd) [0,1,2,3,4,5]))) λ(t3:Hrd) =>
(.join 4 (M0 l x) (λ(t4:Hrd)=>I4 t0 t1 t2 t3 t4) (λb4=>(.join 5 (Mz l x t3) (λ(t5:Bool)=>I5 t0 t1 t2 t3 t5) (λb5=>(.br 70 (x.kind==2) (.br 182 (x.epoch==t3.epoch) (.br 294 (decide (x.prev≤t3.ver)) (.bk 5 b5 ((decide (t3.ver<x.ver)):Bool) [0,1,2,3,4,5])
(.bk 5 b5 ((false):Bool) [0,1,2,3,4,5]))
(.bk 5 b5 ((false):Bool) [0,1,2,3,4,5]))
(.bk 5 b5 ((false):Bool) [0,1,2,3,4,5]))) λ(t5:Bool) =>
(.br 6 t5 (.req 150 (t3.items.length≤999999) λh2 =>
(.callP (KH t3.items (⟨x.ver,x.grp,x.mode,x.srcs⟩:Itm) h2)
(.bk 4 b4 (((⟨t3.router,t3.epoch,x.ver,om t3.items (⟨x.ver,x.grp,x.mode,x.srcs⟩:Itm)⟩:Hrd)):Hrd) [0,1,2,3,4,5])))
(.bk 4 b4 ((t3):Hrd) [0,1,2,3,4,5])))) λ(t4:Hrd) =>
(.cmdL (.nilB 4 2 4) (.loop 6 (My l x t4) (I6 t0 t1 t2 t3 t4) (m6 t0 t1 t2 t3 t4) (false,0,[]) [0,1,2,3,4,86,5] λ(t6:Bool×Int×List Hrd) b6 =>
(.br 23 (decide (t6.2.1<((l.heard.map Hrd.v).length:Int))) (.el 23 Hrd.v l.heard (λR=>Rf (l.heard.map Hrd.v) (ck (decide (0≤t6.2.1)) (ck (decide (t6.2.1<(l.heard.length:Int)))
(∀x3,l.heard[t6.2.1.toNat]?=some x3 →
(R x3))))) λx3 =>
(.join 7 (Mx l x t4 t6 x3) (λ(t7:Bool×List Hrd)=>I7 t0 t1 t2 t3 t4 t6 x3 t7) (λb7=>(.join 8 (Mw l x t4 t6 x3) (λ(t8:Bool)=>I8 t0 t1 t2 t3 t4 t6 x3 t8) (λb8=>(.br 135 (!t6.1) (.bk 8 b8 ((decide (x.src≤x3.router)):Bool) [0,1,2,3,4,5,6,55])
(.bk 8 b8 ((false):Bool) [0,1,2,3,4,5,6,55]))) λ(t8:Bool) =>
(.br 8 t8 (.say (λR=>Rf (α:=List AV) (t6.2.2.map Hrd.v) (Rf (α:=List AV) [.agg [.int t4.router,.int t4.epoch,.int t4.ver,.sl 4 (t4.items.map Itm.v) false]]
(ck (decide (t6.2.2.length+1≤1048576))
R))) (.app 72 Hrd.v t6.2.2 [t4]
(.bk 7 b7 (true,t6.2.2++[t4]) [0,1,2,3,4,72,6,7])))
(.bk 7 b7 (t6.1,t6.2.2) [0,1,2,3,4,5,6,7])))) λ(t7:Bool×List Hrd) =>
(.br 88 (x3.router != x.src) (.say (λR=>Rf (α:=List AV) (t7.2.map Hrd.v) (Rf (α:=List AV) [.agg [.int x3.router,.int x3.epoch,.int x3.ver,.sl 4 (x3.items.map Itm.v) false]]
(ck (decide (t7.2.length+1≤1048576))
R))) (.app 152 Hrd.v t7.2 [x3]
(.bk 6 b6 (t7.1,W (t6.2.1+1),t7.2++[x3]) [0,1,2,3,4,152,6])))
(.bk 6 b6 (t7.1,W (t6.2.1+1),t7.2) [0,1,2,3,4,5,6]))))
(.join 9 (Mv l x t4) (λ(t9:List Hrd)=>I9 t0 t1 t2 t3 t4 t6 t9) (λb9=>(.br 55 (!t6.1) (.say (λR=>Rf (α:=List AV) (t6.2.2.map Hrd.v) (Rf (α:=List AV) [.agg [.int t4.router,.int t4.epoch,.int t4.ver,.sl 4 (t4.items.map Itm.v) false]]
(ck (decide (t6.2.2.length+1≤1048576))
R))) (.app 119 Hrd.v t6.2.2 [t4]
(.bk 9 b9 ((t6.2.2++[t4]):(List Hrd)) [0,1,2,3,4,119,6])))
(.bk 9 b9 ((t6.2.2):(List Hrd)) [0,1,2,3,4,5,6]))) λ(t9:List Hrd) =>
(.say (Rf (t9.map Hrd.v)) (.cmdL (.frzE 5 (t9.map Hrd.v) (ab (λ_=>rfl) t9)) (.ret ((⟨l.router,l.epoch,t9⟩:Lsn),(⟨3,l.router,x.src,t4.epoch,t4.ver,0,l.epoch,0,0,[]⟩:Sig),0)))))))))))))))))))))))
def xY(l:Lsn)(x:Sig)(I0:Bool→Prop)(I1:Bool→(Int×Hrd)→Prop)(m1:Bool→(Int×Hrd)→Nat)(I2:Bool→Int×Hrd→Bool→Prop)(I3:Bool→Int×Hrd→Bool→Hrd→Prop)(I4:Bool→Int×Hrd→Bool→Hrd→Hrd→Prop)(I5:Bool→Int×Hrd→Bool→Hrd→Bool→Prop)(I6:Bool→Int×Hrd→Bool→Hrd→Hrd→(Bool×Int×List Hrd)→Prop)(m6:Bool→Int×Hrd→Bool→Hrd→Hrd→(Bool×Int×List Hrd)→Nat)(I7:Bool→Int×Hrd→Bool→Hrd→Hrd→Bool×Int×List Hrd→Hrd→(Bool×List Hrd)→Prop)(I8:Bool→Int×Hrd→Bool→Hrd→Hrd→Bool×Int×List Hrd→Hrd→Bool→Prop)(I9:Bool→Int×Hrd→Bool→Hrd→Hrd→Bool×Int×List Hrd→(List Hrd)→Prop)(r0:Lsn×Sig×Int):=(uk l x I0 I1 m1 I2 I3 I4 I5 I6 m6 I7 I8 I9).vp ul r0
theorem Rq(l:Lsn)(x:Sig)(ok:Rs l x):∃I0 I1 m1 I2 I3 I4 I5 I6 m6 I7 I8 I9,xY l x I0 I1 m1 I2 I3 I4 I5 I6 m6 I7 I8 I9 ((eV l x).1.1,(eV l x).1.2,(eV l x).2):=by
 refine⟨λb=>b=decide (x.kind=3∨x.dst≠l.router),λb t=>∃k:Nat,t.1=k∧k≤l.heard.length∧t.2=gOf (l.heard.take k) x.src,λb t=>l.heard.length-t.1.toNat,
  λb t c=>c=decide (t.2.epoch=0∧12≤l.heard.length),λb t c h=>h=iT t.2 x,λb t c h h'=>h'=fo h x,λb t c h d=>d=decide (x.kind=2∧x.epoch=h.epoch∧x.prev≤h.ver∧h.ver<x.ver),
  λb t c h h' u=>∃k:Nat,u.2.1=k∧k≤l.heard.length∧u.1=decide (bp l.heard x.src<k)∧u.2.2=bld l.heard x.src h' k,λb t c h h' u=>l.heard.length-u.2.1.toNat,
  λb t c h h' u y w=>w=(decide (bp l.heard x.src<u.2.1.toNat+1),bld l.heard x.src h' u.2.1.toNat++if bp l.heard x.src=u.2.1.toNat then [h']else []),λb t c h h' u y d=>d=decide (bp l.heard x.src=u.2.1.toNat),
  λb t c h h' u w=>w=bld l.heard x.src h' l.heard.length++if bp l.heard x.src<l.heard.length then []else [h'],?_⟩
 dsimp only[xY,uk,Fq,Ax.vp,Ax.vc];simp only[vcU,rfU,List.length_map]
 have hv:fU l=if bX l then 0 else 1:=rfl
 rw[hv]
 unfold eV
 by_cases hs:bX l
 case neg=>rw[if_neg hs,if_pos hs];simp[xx,qf]
 have ho:=hs.2.2.2.2
 have hl:=hs.2.2.1
 rw[if_pos hs,if_neg (not_not_intro hs)]
 refine⟨λe=>by simp at e,λ_=>⟨λe=>?_,λe=>⟨⟨λk=>?_,λk=>?_⟩,λb hb=>⟨λc=>?_,λc=>⟨⟨0,rfl,by omega,(im List.Pairwise.nil (by simp)).symm⟩,?_⟩⟩⟩⟩⟩
 ·rw[if_pos (by simpa using e)];rfl
 ·exact(decide_eq_true (.inl (by simpa using k))).symm
 ·have k:¬x.kind=3:=by simpa using k
  by_cases q:x.dst=l.router<;>simp[q,k]
 ·subst hb
  rw[if_neg (by simpa using e),if_pos (by simpa using c)];rfl
 ·subst hb
  have c:¬(x.kind=3∨x.dst≠l.router):=by simpa using c
  rw[if_neg (by simpa using e),if_neg c]
  rintro⟨_,_⟩ ⟨k,rfl,hk,rfl⟩
  simp only[Int.toNat_natCast]
  refine⟨λh1=>⟨by omega,by omega,λy hy=>?_⟩,λh1=>?_⟩
  ·rw[av (n:=l.heard.length) (by omega) (by omega)]
   have:=MF (r:=x.src) ho hy
   refine⟨λq=>⟨⟨k+1,rfl,by omega,?_⟩,by omega⟩,λq=>⟨⟨k+1,rfl,by omega,?_⟩,by omega⟩⟩
   ·rw[this,if_pos (by simpa using q)]
   ·rw[this,if_neg (by simpa using q)]
  rw[List.take_of_length_le (by omega)]
  have hg:=fK (r:=x.src) ho
  have hep:(gOf l.heard x.src).epoch=0↔¬fX l.heard x.src:=by
   rw[dr ho]
   by_cases hh:∃z∈l.heard,z.router=x.src
   ·obtain⟨z,hz,hzr⟩:=hh
    have:gOf l.heard x.src=z:=by rw[←hzr];exact eP ho hz
    rw[this]
    have:=(hs.2.2.2.1 z hz).2.2.1
    exact⟨λq=>by omega,λq=>absurd ⟨z,hz,hzr⟩ q⟩
   ·rw[im ho hh];simp[hh]
  have hH:xZ l.heard x=fo (iT (gOf l.heard x.src) x) x:=rfl
  refine⟨⟨λq=>?_,λq=>?_⟩,λc2 hc2=>⟨λq=>?_,λq=>⟨⟨λq2=>?_,λq2=>?_⟩,?_⟩⟩⟩
  ·have q:(gOf l.heard x.src).epoch=0:=by simpa using q
   simp[q];omega
  ·have q:¬(gOf l.heard x.src).epoch=0:=by simpa using q
   simp[q]
  ·subst hc2
   have q:(gOf l.heard x.src).epoch=0∧12≤l.heard.length:=by simpa using q
   rw[if_pos ⟨hep.mp q.1,by omega⟩];rfl
  ·unfold iT;rw[if_pos q2]
  ·unfold iT;rw[if_neg q2]
  ·subst hc2
   have q:¬((gOf l.heard x.src).epoch=0∧12≤l.heard.length):=by simpa using q
   rw[if_neg λz=>q ⟨hep.mpr z.1,by omega⟩]
   rintro _ rfl
   have hi:(iT (gOf l.heard x.src) x).items.length≤999999:=by
    unfold iT
    split
    ·simp
    ·have:=gM (MG hs x.src).1;omega
   generalize hh0:iT (gOf l.heard x.src) x=h0 at *
   refine⟨⟨⟨λa1=>⟨λa2=>⟨λa3=>?_,λa3=>?_⟩,λa2=>?_⟩,λa1=>?_⟩,λd hd=>⟨λa=>⟨hi,?_⟩,λa=>?_⟩⟩,?_⟩
   ·have a1:x.kind=2:=by simpa using a1
    have a2:x.epoch=h0.epoch:=by simpa using a2
    exact decide_eq_decide.mpr ⟨λz=>⟨a1,a2,a3,z⟩,λz=>z.2.2.2⟩
   ·exact iL λz=>a3 z.2.2.1
   ·exact iL λz=>by simp[z.2.1]at a2
   ·exact iL λz=>by simp[z.1]at a1
   ·subst hd
    unfold fo;rw[if_pos (by simpa using a)];rfl
   ·subst hd
    unfold fo;rw[if_neg (by simpa using a)]
   ·rintro _ rfl
    have hr:(fo h0 x).router=x.src:=by
     have:=ew (g:=gOf l.heard x.src) (x:=x) hg
     unfold co at this
     rw[hh0]at this;exact this
    generalize hh1:fo h0 x=h1' at *
    refine⟨⟨0,rfl,by omega,by simp,by simp[bld]⟩,?_⟩
    rintro⟨_,_,_⟩ ⟨j,rfl,hj,rfl,rfl⟩
    simp only[Int.toNat_natCast]
    have hbl:=Sv (l:=l.heard) (r:=x.src) (h:=h1') (k:=j)
    refine⟨λb1=>⟨by omega,by omega,λy hy=>⟨⟨⟨λb2=>?_,λb2=>?_⟩,λd hd=>⟨λb3=>⟨by omega,?_⟩,λb3=>?_⟩⟩,?_⟩⟩,λb1=>⟨⟨λb2=>⟨by omega,?_⟩,λb2=>?_⟩,?_⟩⟩
    ·obtain⟨s1,s2⟩:=zf (r:=x.src) (h:=h1') ho hy
     have b2:¬bp l.heard x.src<j:=by simpa using b2
     rw[decide_eq_decide,s1]
     exact⟨λz=>⟨b2,z⟩,λz=>z.2⟩
    ·have b2:bp l.heard x.src<j:=by simpa using b2
     exact iL (by omega)
    ·subst hd
     have b3:bp l.heard x.src=j:=by simpa using b3
     rw[if_pos b3,decide_eq_true (show bp l.heard x.src<j+1 by omega)]
    ·subst hd
     have b3:¬bp l.heard x.src=j:=by simpa using b3
     rw[if_neg b3,List.append_nil]
     congr 1
     exact decide_eq_decide.mpr (by omega)
    ·rintro _ rfl
     obtain⟨s1,s2⟩:=zf (r:=x.src) (h:=h1') ho hy
     rw[av (n:=l.heard.length) (by omega) (by omega)]
     refine⟨λz=>⟨?_,⟨j+1,rfl,by omega,rfl,?_⟩,by omega⟩,λz=>⟨⟨j+1,rfl,by omega,rfl,?_⟩,by omega⟩⟩
     ·have:(if bp l.heard x.src=j then [h1']else []).length≤1:=by split<;>simp
      rw[List.length_append];omega
     ·rw[s2,if_pos (c:=y.router≠x.src) (by simpa using z),List.append_assoc]
     ·rw[s2,if_neg (c:=y.router≠x.src) (by simpa using z),List.append_nil]
    ·have b2:¬bp l.heard x.src<j:=by simpa using b2
     have:j=l.heard.length:=by omega
     subst this
     rw[if_neg b2]
    ·have b2:bp l.heard x.src<j:=by simpa using b2
     have:j=l.heard.length:=by omega
     subst this
     rw[if_pos b2,List.append_nil]
    ·rintro _ rfl
     rw[Sw ho hr,hH]
def Rr(l:Lsn)(x:Sig):PC Tryz.prog:=⟨63,[(.a [.k,.k,(.s 4)]),(.a [.k,.k,.k,.k,.k,.k,.k,.k,.k,(.s 1)])],[.agg [.int l.router,.int l.epoch,.sl 4 (l.heard.map Hrd.v) false],.agg [.int x.kind,.int x.src,.int x.dst,.int x.epoch,.int x.ver,.int x.prev,.int x.pep,.int x.grp,.int x.mode,.sl 1 (x.srcs.map AV.int) false]],ul ((eV l x).1.1,(eV l x).1.2,(eV l x).2),ao.of_ok λok=>(Rq l x ok).elim λI0 h=>h.elim λI1 h=>h.elim λm1 h=>h.elim λI2 h=>h.elim λI3 h=>h.elim λI4 h=>h.elim λI5 h=>h.elim λI6 h=>h.elim λm6 h=>h.elim λI7 h=>h.elim λI8 h=>h.elim λI9 h=>aj (sh:=(.a [(.a [.k,.k,(.s 4)]),(.a [.k,.k,.k,.k,.k,.k,.k,.k,.k,(.s 1)]),.k])) (enc:=ul) (a:=(uk l x I0 I1 m1 I2 I3 I4 I5 I6 m6 I7 I8 I9).an) h (by kernel_rfl) (AV.pureB_ok rfl),ai (by kernel_rfl)⟩
def CC(p:Spk)(r:Int):Int:=cmpI p.router r
def WH(s:Spk)(r:Int):=okL [.agg [.int s.router,.int s.epoch,.int s.last,.sl 4 (s.items.map Itm.v) false,.sl 3 (s.peers.map Per.v) false],.int r]
def CB(r:Int):AV:=.int r
def CA(s:Spk)(r:Int):Ax Tryz.prog noS (Int):=
 (.callP (N1 s.router r)
(.ret (cmpI s.router r)))
def FR(s:Spk)(r:Int)(r0:Int):=(CA s r).vp CB r0
theorem WG(p:Spk)(r:Int)(ok:WH p r):FR p r (CC p r):=by
 dsimp only[FR,CA,noS,Ax.vp,Ax.vc];simp only[vcU,rfU,List.length_map]
 rfl
def N0(s:Spk)(r:Int):PC Tryz.prog:=⟨131,[(.a [.k,.k,.k,(.s 4),(.s 3)]),.k],[.agg [.int s.router,.int s.epoch,.int s.last,.sl 4 (s.items.map Itm.v) false,.sl 3 (s.peers.map Per.v) false],.int r],CB (CC s r),ao.of_ok λok=>aj (sh:=.k) (enc:=CB) (a:=(CA s r).an) (WG s r ok) (by kernel_rfl) (AV.pureB_ok rfl),ai (by kernel_rfl)⟩
def kH(l:List Spk)(r:Int):Prop:=bm l r<l.length∧(l.getD (bm l r) fc).router=r
instance (l:List Spk) (r:Int):Decidable (kH l r):=by unfold kH;infer_instance
def Tr(x:List Spk)(target:Int):=okL [.sl 5 (x.map Spk.v) false,.int target,.func 131 []]
def WS(x:List Spk)(target:Int)(t0:Int×Int):NF:=⟨[(0,.k,.sl 5 (x.map Spk.v) false),(1,.k,.int target),(2,.k,.func 131 []),(8,.k,.int ((x.map Spk.v).length:Int)),(9,.k,.int t0.1),(10,.k,.int t0.2)],[]⟩
@[reducible] def Tq:Nat→Type
 | 0=>Int×Int
 | _=>Unit
def NM(r:Int×Bool):AV:=.tup [.int r.1,.bool r.2]
def NK(x:List Spk)(target:Int)(I0:(Int×Int)→Prop)(m0:(Int×Int)→Nat):Ax Tryz.prog Tq (Int×Bool):=
 (.loop 0 (WS x target) I0 m0 (0,((x.map Spk.v).length:Int)) [] λ(t0:Int×Int) b0 =>
(.br 48 (decide (t0.1<t0.2)) (.el 208 Spk.v x (λR=>Rf (x.map Spk.v) (ck (decide (0≤(W (Int.fdiv (IntKind.u64.wrap (W (t0.1+t0.2))) 2)))) (ck (decide ((W (Int.fdiv (IntKind.u64.wrap (W (t0.1+t0.2))) 2))<(x.length:Int)))
(∀x1,x[(W (Int.fdiv (IntKind.u64.wrap (W (t0.1+t0.2))) 2)).toNat]?=some x1 →
(R x1))))) λx1 =>
(.callP (N0 x1 target)
(.br 288 (decide ((CC x1 target)<0)) (.bk 0 b0 (W ((W (Int.fdiv (IntKind.u64.wrap (W (t0.1+t0.2))) 2))+1),t0.2) [])
(.bk 0 b0 (t0.1,W (Int.fdiv (IntKind.u64.wrap (W (t0.1+t0.2))) 2)) []))))
(.br 128 (decide (t0.1<((x.map Spk.v).length:Int))) (.el 176 Spk.v x (λR=>Rf (x.map Spk.v) (ck (decide (0≤t0.1)) (ck (decide (t0.1<(x.length:Int)))
(∀x2,x[t0.1.toNat]?=some x2 →
(R x2))))) λx2 =>
(.callP (N0 x2 target)
(.ret (t0.1,(CC x2 target)==0))))
(.ret (t0.1,false)))))
def NL(x:List Spk)(target:Int)(I0:(Int×Int)→Prop)(m0:(Int×Int)→Nat)(r0:Int×Bool):=(NK x target I0 m0).vp NM r0
theorem bsS_p(l:List Spk)(r:Int)(h:l.Pairwise λx y=>x.router<y.router)(hl:l.length≤1000000)(ok:Tr l r):∃I m,NL l r I m ((bm l r:Int),decide (kH l r)):=by
 simp only[Tr,okU,Blk.ok,aK,List.length_map]at ok
 refine⟨λt=>∃i j:Nat,t=((i:Int),(j:Int))∧i≤j∧j≤l.length∧(∀k x,k<i→l[k]?=some x→x.router<r)∧(∀k x,j≤k→l[k]?=some x→r≤x.router),λt=>(t.2-t.1).toNat,?_⟩
 dsimp only[NL,NK,Tq,Ax.vp,Ax.vc];simp only[vcU,rfU,List.length_map]
 refine⟨⟨0,l.length,rfl,by omega,by omega,λk x hk=>by omega,λk x hk hx=>by have:=ay hx;omega⟩,?_⟩
 rintro _ ⟨i,j,rfl,hij,hj,h1,h2⟩
 refine⟨λh3=>?_,λh3=>?_⟩
 ·have h3:i<j:=by simpa using h3
  simp only[half i j hij (by omega),Int.toNat_natCast]
  refine⟨by omega,by omega,λx hx=>⟨λe=>?_,λe=>?_⟩⟩
  ·rw[CC,vb]at e
   rw[av (n:=l.length) (by omega) (by omega)]
   refine⟨⟨_,_,rfl,by omega,hj,λk y hk hy=>?_,h2⟩,by omega⟩
   by_cases e':k=(i+j) / 2
   ·subst e';rw[hx]at hy;cases hy;exact e
   ·have:=fF h (show k<(i+j) / 2 by omega) hy hx;omega
  ·rw[CC,vb]at e
   refine⟨⟨_,_,rfl,by omega,by omega,h1,λk y hk hy=>?_⟩,by omega⟩
   by_cases e':k=(i+j) / 2
   ·subst e';rw[hx]at hy;cases hy;omega
   ·have:=fF h (show(i+j) / 2<k by omega) hx hy;omega
 ·have h3:i=j:=by simp at h3;omega
  subst h3
  have hp:bm l r=i:=Ml (key:=Spk.router) hj h1 h2
  simp only[Int.toNat_natCast]
  refine⟨λh4=>⟨by omega,by omega,λx hx=>?_⟩,λh4=>?_⟩
  ·have e:kH l r↔x.router=r:=by rw[kH,hp,getD_some hx];exact⟨λh=>h.2,λh=>⟨ay hx,h⟩⟩
   rw[hp]
   refine congrArg _ ?_
   rw[CC,Bool.eq_iff_iff,decide_eq_true_iff,e,beq_iff_eq,Nz]
  ·rw[hp,decide_eq_false]
   rw[kH,hp];intro h;omega
def bsS_c(x:List Spk)(target:Int)(h:x.Pairwise λx y=>x.router<y.router)(hl:x.length≤1000000):PC Tryz.prog:=⟨130,[(.s 5),.k,.k],[.sl 5 (x.map Spk.v) false,.int target,.func 131 []],NM ((bm x target:Int),decide (kH x target)),ao.of_ok λok=>(bsS_p x target h hl ok).elim λI0 h=>h.elim λm0 h=>aj (sh:=.k) (enc:=NM) (a:=(NK x target I0 m0).an) h (by kernel_rfl) (AV.pureB_ok rfl),ai (by kernel_rfl)⟩
def RF(o:Ovl)(router:Int):=okL [.agg [.sl 5 (o.sp.map Spk.v) false,.sl 3 (o.ls.map Lsn.v) false,.sl 10 (o.fl.map Sig.v) false],.int router]
def uE(r:Int×Bool):AV:=.tup [.int r.1,.bool r.2]
def uD(o:Ovl)(router:Int):Ax Tryz.prog noS (Int×Bool):=
 (.req 96 (o.sp.Pairwise λx y=>x.router<y.router) λh1 =>
(.req 96 (o.sp.length≤1000000) λh2 =>
(.callP (bsS_c o.sp router h1 h2)
(.ret ((bm o.sp router:Int),decide (kH o.sp router))))))
def yo(o:Ovl)(router:Int)(r0:Int×Bool):=(uD o router).vp uE r0
theorem RE(o:Ovl)(r:Int)(h:o.sp.Pairwise λx y=>x.router<y.router)(hl:o.sp.length≤1000000)(ok:RF o r):yo o r ((bm o.sp r:Int),decide (kH o.sp r)):=by
 dsimp only[yo,uD,noS,Ax.vp,Ax.vc];simp only[vcU,rfU,List.length_map]
 exact⟨h,hl,trivial⟩
def F9(o:Ovl)(router:Int)(h:o.sp.Pairwise λx y=>x.router<y.router)(hl:o.sp.length≤1000000):PC Tryz.prog:=⟨96,[(.a [(.s 5),(.s 3),(.s 10)]),.k],[.agg [.sl 5 (o.sp.map Spk.v) false,.sl 3 (o.ls.map Lsn.v) false,.sl 10 (o.fl.map Sig.v) false],.int router],uE ((bm o.sp router:Int),decide (kH o.sp router)),ao.of_ok λok=>aj (sh:=.k) (enc:=uE) (a:=(uD o router).an) (RE o router h hl ok) (by kernel_rfl) (AV.pureB_ok rfl),ai (by kernel_rfl)⟩
def PU(o:Ovl):=okL [.agg [.sl 5 (o.sp.map Spk.v) false,.sl 3 (o.ls.map Lsn.v) false,.sl 10 (o.fl.map Sig.v) false]]
def Kt(o:Ovl)(t0:Int×List Int):NF:=⟨[(3,.k,.vec 0),(7,.k,.sl 5 (o.sp.map Spk.v) false),(8,.k,.int ((o.sp.map Spk.v).length:Int)),(9,.k,.int t0.1)],[.vec 1 (t0.2.map AV.int) (ab (λ_=>rfl) t0.2)]⟩
@[reducible] def Ep:Nat→Type
 | 0=>Int×List Int
 | _=>Unit
def te(r:List Int):AV:=.sl 1 (r.map AV.int) false
def td(o:Ovl)(I0:(Int×List Int)→Prop)(m0:(Int×List Int)→Nat):Ax Tryz.prog Ep ((List Int)):=
 (.cmdL (.nilT 3 1) (.loop 0 (Kt o) I0 m0 (0,[]) [112] λ(t0:Int×List Int) b0 =>
(.br 17 (decide (t0.1<((o.sp.map Spk.v).length:Int))) (.el 17 Spk.v o.sp (λR=>Rf (o.sp.map Spk.v) (ck (decide (0≤t0.1)) (ck (decide (t0.1<(o.sp.length:Int)))
(∀x1,o.sp[t0.1.toNat]?=some x1 →
(R x1))))) λx1 =>
(.say (λR=>Rf (α:=List AV) (t0.2.map AV.int) (Rf (α:=List AV) [.int x1.router]
(ck (decide (t0.2.length+1≤1048576))
R))) (.app 145 AV.int t0.2 [x1.router]
(.bk 0 b0 (W (t0.1+1),t0.2++[x1.router]) [145]))))
(.say (Rf (t0.2.map AV.int)) (.cmdL (.frzE 0 (t0.2.map AV.int) (ab (λ_=>rfl) t0.2)) (.ret (t0.2)))))))
def wB(o:Ovl)(I0:(Int×List Int)→Prop)(m0:(Int×List Int)→Nat)(r0:List Int):=(td o I0 m0).vp te r0
theorem PS(o:Ovl)(h:o.sp.length≤1000000)(ok:PU o):∃I m,wB o I m (aJ o.sp):=by
 refine⟨λt=>∃k:Nat,t.1=k∧k≤o.sp.length∧t.2=aJ (o.sp.take k),λt=>o.sp.length-t.1.toNat,?_⟩
 dsimp only[wB,td,Ep,Ax.vp,Ax.vc];simp only[vcU,rfU,List.length_map]
 refine⟨⟨0,rfl,by omega,rfl⟩,?_⟩
 rintro⟨_,_⟩ ⟨k,rfl,hk,rfl⟩
 simp only[Int.toNat_natCast]
 refine⟨λh1=>⟨by omega,by omega,λx hx=>⟨by rw[eT];simp;omega,⟨k+1,?_,by omega,?_⟩,?_⟩⟩,λh1=>?_⟩
 ·rw[av (n:=o.sp.length) (by omega) (by omega)]
 ·rw[ax hx];simp[aJ]
 ·rw[av (n:=o.sp.length) (by omega) (by omega)];omega
 ·rw[List.take_of_length_le (by omega)]
def PT(o:Ovl)(h:o.sp.length≤1000000):PC Tryz.prog:=⟨121,[(.a [(.s 5),(.s 3),(.s 10)])],[.agg [.sl 5 (o.sp.map Spk.v) false,.sl 3 (o.ls.map Lsn.v) false,.sl 10 (o.fl.map Sig.v) false]],te (aJ o.sp),ao.of_ok λok=>(PS o h ok).elim λI0 h=>h.elim λm0 h=>aj (sh:=(.s 1)) (enc:=te) (a:=(td o I0 m0).an) h (by kernel_rfl) (AV.pureB_ok rfl),ai (by kernel_rfl)⟩
def Hl(l:List Int)(n:Int):=okL [.sl 1 (l.map AV.int) false,.int n]
def Bf(l:List Int)(n:Int)(t0:Int×List Int):NF:=⟨[(1,.k,.int n),(5,.k,.vec 0),(8,.k,.sl 1 (l.map AV.int) false),(9,.k,.int ((l.map AV.int).length:Int)),(10,.k,.int t0.1)],[.vec 1 (t0.2.map AV.int) (ab (λ_=>rfl) t0.2)]⟩
@[reducible] def qT:Nat→Type
 | 0=>Int×List Int
 | _=>Unit
def l8(r:List Int):AV:=.sl 1 (r.map AV.int) false
def l7(l:List Int)(n:Int)(I0:(Int×List Int)→Prop)(m0:(Int×List Int)→Nat):Ax Tryz.prog qT ((List Int)):=
 (.cmdL (.nilT 5 1) (.loop 0 (Bf l n) I0 m0 (0,[]) [80] λ(t0:Int×List Int) b0 =>
(.br 17 (decide (t0.1<((l.map AV.int).length:Int))) (.el 17 AV.int l (λR=>Rf (l.map AV.int) (ck (decide (0≤t0.1)) (ck (decide (t0.1<(l.length:Int)))
(∀x1,l[t0.1.toNat]?=some x1 →
(R x1))))) λx1 =>
(.br 113 (x1 != n) (.say (λR=>Rf (α:=List AV) (t0.2.map AV.int) (Rf (α:=List AV) [.int x1]
(ck (decide (t0.2.length+1≤1048576))
R))) (.app 161 AV.int t0.2 [x1]
(.bk 0 b0 (W (t0.1+1),t0.2++[x1]) [161])))
(.bk 0 b0 (W (t0.1+1),t0.2) [0])))
(.say (Rf (t0.2.map AV.int)) (.cmdL (.frzE 0 (t0.2.map AV.int) (ab (λ_=>rfl) t0.2)) (.ret (t0.2)))))))
def o5(l:List Int)(n:Int)(I0:(Int×List Int)→Prop)(m0:(Int×List Int)→Nat)(r0:List Int):=(l7 l n I0 m0).vp l8 r0
theorem Hj(l:List Int)(n:Int)(h:l.length≤1000000)(ok:Hl l n):∃I m,o5 l n I m (cW l n):=by
 refine⟨λt=>∃k:Nat,t.1=k∧k≤l.length∧t.2=cW (l.take k) n∧t.2.length≤k,λt=>l.length-t.1.toNat,?_⟩
 dsimp only[o5,l7,qT,Ax.vp,Ax.vc];simp only[vcU,rfU,List.length_map]
 refine⟨⟨0,rfl,by omega,rfl,by simp⟩,?_⟩
 rintro⟨_,_⟩ ⟨k,rfl,hk,rfl,hk2⟩
 simp only[Int.toNat_natCast]at *
 refine⟨λh1=>⟨by omega,by omega,λx hx=>?_⟩,λh1=>?_⟩
 ·rw[av (n:=l.length) (by omega) (by omega)]
  refine⟨λq=>⟨by omega,⟨k+1,rfl,by omega,?_,by simp;omega⟩,by omega⟩,λq=>⟨⟨k+1,rfl,by omega,?_,by omega⟩,by omega⟩⟩
  ·have q:x≠n:=by simpa using q
   rw[ax hx,cW,cW,List.filter_append];simp[q]
  ·have q:x=n:=by simpa using q
   rw[ax hx,cW,cW,List.filter_append];simp[q]
 ·rw[List.take_of_length_le (by omega)]
def Hk(l:List Int)(n:Int)(h:l.length≤1000000):PC Tryz.prog:=⟨124,[(.s 1),.k],[.sl 1 (l.map AV.int) false,.int n],l8 (cW l n),ao.of_ok λok=>(Hj l n h ok).elim λI0 h=>h.elim λm0 h=>aj (sh:=(.s 1)) (enc:=l8) (a:=(l7 l n I0 m0).an) h (by kernel_rfl) (AV.pureB_ok rfl),ai (by kernel_rfl)⟩
def Vf(p:Per)(r:Int):Bool:=decide (p.router=r)
def KW(p:Per)(r:Int):=okL [.agg [.int p.router,.int p.epoch,.int p.acked],.int r]
def ov(r:Bool):AV:=.bool r
def ou(p:Per)(r:Int):Ax Tryz.prog noS (Bool):=
 (.ret (p.router==r))
def qS(p:Per)(r:Int)(r0:Bool):=(ou p r).vp ov r0
theorem KU(p:Per)(r:Int)(ok:KW p r):qS p r (Vf p r):=by
 dsimp only[qS,ou,noS,Ax.vp,Ax.vc];simp only[vcU,rfU,List.length_map]
 rfl
def KV(p:Per)(r:Int):PC Tryz.prog:=⟨125,[.k,.k],[.agg [.int p.router,.int p.epoch,.int p.acked],.int r],ov (decide (p.router=r)),ao.of_ok λok=>aj (sh:=.k) (enc:=ov) (a:=(ou p r).an) (KU p r ok) (by kernel_rfl) (AV.pureB_ok rfl),ai (by kernel_rfl)⟩
def Ni(s1:List Per)(s2:List Int):=okL [.sl 3 (s1.map Per.v) false,.sl 1 (s2.map AV.int) false,.func 125 []]
def RP(s1:List Per)(s2:List Int)(t0:Int):NF:=⟨[(1,.k,.sl 1 (s2.map AV.int) false),(2,.k,.func 125 []),(15,.k,.sl 3 (s1.map Per.v) false),(16,.k,.int ((s1.map Per.v).length:Int)),(17,.k,.int t0)],[]⟩
@[reducible] def Nh:Nat→Type
 | 0=>Int
 | _=>Unit
def Co(r:Bool):AV:=.bool r
def Cn(s1:List Per)(s2:List Int)(I0:Int→Prop)(m0:Int→Nat):Ax Tryz.prog Nh (Bool):=
 (.br 96 (((s1.map Per.v).length:Int) != ((s2.map AV.int).length:Int)) (.ret (false))
(.loop 0 (RP s1 s2) I0 m0 ((0):Int) [] λ(t0:Int) b0 =>
(.br 16 (decide (t0<((s1.map Per.v).length:Int))) (.el 32 Per.v s1 (λR=>Rf (s1.map Per.v) (ck (decide (0≤t0)) (ck (decide (t0<(s1.length:Int)))
(∀x1,s1[t0.toNat]?=some x1 →
(R x1))))) λx1 =>
(.el 144 AV.int s2 (λR=>Rf (s2.map AV.int) (ck (decide (0≤t0)) (ck (decide (t0<(s2.length:Int)))
(∀x2,s2[t0.toNat]?=some x2 →
(R x2))))) λx2 =>
(.callP (KV x1 x2)
(.br 272 (!(decide (x1.router=x2))) (.ret (false))
(.bk 0 b0 ((W (t0+1)):Int) [])))))
(.ret (true)))))
def FI(s1:List Per)(s2:List Int)(I0:Int→Prop)(m0:Int→Nat)(r0:Bool):=(Cn s1 s2 I0 m0).vp Co r0
theorem Wz(a:List Per)(b:List Int)(ok:Ni a b):∃I m,FI a b I m (decide (a.map Per.router=b)):=by
 simp only[Ni,okU,Blk.ok,aK,List.length_map]at ok
 refine⟨λt=>∃k:Nat,t=k∧k≤a.length∧(a.take k).map Per.router=b.take k,λt=>a.length-t.toNat,?_⟩
 dsimp only[FI,Cn,Nh,Ax.vp,Ax.vc];simp only[vcU,rfU,List.length_map]
 refine⟨λe=>(decide_eq_false λh=>by subst h;simp at e).symm,λe=>⟨⟨0,rfl,by omega,rfl⟩,?_⟩⟩
 have e:a.length=b.length:=by simp at e;omega
 rintro _ ⟨k,rfl,hk,h⟩
 simp only[Int.toNat_natCast]
 refine⟨λh1=>⟨by omega,by omega,λx hx=>⟨by omega,by omega,λy hy=>⟨λe2=>?_,λe2=>?_⟩⟩⟩,λh1=>?_⟩
 ·refine(decide_eq_false λhh=>?_).symm
  subst hh
  rw[List.getElem?_map,hx]at hy
  simp only[Option.map_some,Option.some.injEq]at hy
  subst hy
  simp at e2
 ·have e2:x.router=y:=by simpa using e2
  rw[av (n:=a.length) (by omega) (by omega)]
  exact⟨⟨k+1,rfl,by omega,by rw[ax hx,ax hy,List.map_append,h];simp[e2]⟩,by omega⟩
 ·rw[List.take_of_length_le (by omega),List.take_of_length_le (by omega)]at h
  exact(decide_eq_true h).symm
def W0(s1:List Per)(s2:List Int):PC Tryz.prog:=⟨123,[(.s 3),(.s 1),.k],[.sl 3 (s1.map Per.v) false,.sl 1 (s2.map AV.int) false,.func 125 []],Co (decide (s1.map Per.router=s2)),ao.of_ok λok=>(Wz s1 s2 ok).elim λI0 h=>h.elim λm0 h=>aj (sh:=.k) (enc:=Co) (a:=(Cn s1 s2 I0 m0).an) h (by kernel_rfl) (AV.pureB_ok rfl),ai (by kernel_rfl)⟩
def ig(l:List Int)(v:Int):Int:=match l.findIdx? λx=>decide (v=x)with
 | some i=>i
 | none=>-1
theorem xM{l:List Int}{r:Int}{i:Nat}(hx:l[i]?=some r)(hb:∀y∈l.take i,r≠y):ig l r=i:=by
 obtain⟨hi,hxi⟩:=List.getElem?_eq_some_iff.mp hx
 have:l.findIdx? (λp=>decide (r=p))=some i:=by
  rw[List.findIdx?_eq_some_iff_getElem]
  refine⟨hi,by rw[hxi];simp,λj hj=>?_⟩
  have:=hb l[j] (List.mem_of_getElem? (i:=j) (by rw[List.getElem?_take,if_pos hj,List.getElem?_eq_getElem (by omega)]))
  simpa using this
 unfold ig;rw[this]
theorem xO{l:List Int}{r:Int}(hb:∀y∈l,r≠y):ig l r=-1:=by
 have:l.findIdx? (λp=>decide (r=p))=none:=by
  rw[List.findIdx?_eq_none_iff]
  intro x hx;simpa using hb x hx
 unfold ig;rw[this]
def xP(s:List Int)(v:Int):=okL [.sl 1 (s.map AV.int) false,.int v]
def HB(s:List Int)(v:Int)(t0:Int):NF:=⟨[(0,.k,.sl 1 (s.map AV.int) false),(1,.k,.int v),(7,.k,.int ((s.map AV.int).length:Int)),(8,.k,.int t0)],[]⟩
@[reducible] def xN:Nat→Type
 | 0=>Int
 | _=>Unit
def oX(r:Int):AV:=.int r
def oW(s:List Int)(v:Int)(I0:Int→Prop)(m0:Int→Nat):Ax Tryz.prog xN (Int):=
 (.loop 0 (HB s v) I0 m0 ((0):Int) [] λ(t0:Int) b0 =>
(.br 16 (decide (t0<((s.map AV.int).length:Int))) (.el 96 AV.int s (λR=>Rf (s.map AV.int) (ck (decide (0≤t0)) (ck (decide (t0<(s.length:Int)))
(∀x1,s[t0.toNat]?=some x1 →
(R x1))))) λx1 =>
(.br 144 (v==x1) (.ret (t0))
(.bk 0 b0 ((W (t0+1)):Int) [])))
(.ret (-1))))
def rq(s:List Int)(v:Int)(I0:Int→Prop)(m0:Int→Nat)(r0:Int):=(oW s v I0 m0).vp oX r0
theorem Ma(l:List Int)(v:Int)(ok:xP l v):∃I m,rq l v I m (ig l v):=by
 simp only[xP,okU,Blk.ok,aK,List.length_map]at ok
 refine⟨λt=>∃k:Nat,t=k∧k≤l.length∧∀x∈l.take k,v≠x,λt=>l.length-t.toNat,?_⟩
 dsimp only[rq,oW,xN,Ax.vp,Ax.vc];simp only[vcU,rfU,List.length_map]
 have hle:l.length≤9223372036854775807:=ok.1.1
 refine⟨⟨0,rfl,by omega,by simp⟩,?_⟩
 rintro _ ⟨k,rfl,hk,hI⟩
 simp only[Int.toNat_natCast]
 refine⟨λh1=>⟨by omega,by omega,λx hx=>⟨λe=>?_,λe=>?_⟩⟩,λh1=>?_⟩
 ·have e:v=x:=by simpa using e
  subst e
  rw[xM hx hI]
 ·rw[av (n:=l.length) (by omega) (by omega)]
  exact⟨⟨k+1,rfl,by omega,(bq hx).mpr ⟨hI,by simpa using e⟩⟩,by omega⟩
 ·rw[List.take_of_length_le (by omega)]at hI
  rw[xO hI]
def Mb(s:List Int)(v:Int):PC Tryz.prog:=⟨164,[(.s 1),.k],[.sl 1 (s.map AV.int) false,.int v],oX (ig s v),ao.of_ok λok=>(Ma s v ok).elim λI0 h=>h.elim λm0 h=>aj (sh:=.k) (enc:=oX) (a:=(oW s v I0 m0).an) h (by kernel_rfl) (AV.pureB_ok rfl),ai (by kernel_rfl)⟩
theorem HA{l:List Int}{v:Int}:0≤ig l v↔v∈l:=by
 unfold ig
 cases e:l.findIdx? (λp=>decide (v=p))with
 | none =>
  rw[List.findIdx?_eq_none_iff]at e
  simp only
  refine⟨λh=>by omega,λh=>by have:=e v h;simp at this⟩
 | some i =>
  rw[List.findIdx?_eq_some_iff_getElem]at e
  obtain⟨h1,h2,_⟩:=e
  simp only
  refine⟨λ_=>?_,λ_=>by omega⟩
  have:v=l[i]:=by simpa using h2
  rw[this];exact List.getElem_mem h1
def Sd(s:List Int)(v:Int):=okL [.sl 1 (s.map AV.int) false,.int v]
def uY(r:Bool):AV:=.bool r
def uX(s:List Int)(v:Int):Ax Tryz.prog noS (Bool):=
 (.callP (Mb s v)
(.ret (decide (0≤(ig s v)))))
def yS(s:List Int)(v:Int)(r0:Bool):=(uX s v).vp uY r0
theorem Sc(l:List Int)(v:Int)(ok:Sd l v):yS l v (decide (v∈l)):=by
 dsimp only[yS,uX,noS,Ax.vp,Ax.vc];simp only[vcU,rfU,List.length_map]
 exact decide_eq_decide.mpr HA
def nh(s:List Int)(v:Int):PC Tryz.prog:=⟨127,[(.s 1),.k],[.sl 1 (s.map AV.int) false,.int v],uY (decide (v∈s)),ao.of_ok λok=>aj (sh:=.k) (enc:=uY) (a:=(uX s v).an) (Sc s v ok) (by kernel_rfl) (AV.pureB_ok rfl),ai (by kernel_rfl)⟩
theorem kY{s:Spk}:dK s=0↔bc s:=by
 have hv:dK s=if bc s then 0 else 1:=rfl
 rw[hv];by_cases h:bc s<;>simp[h]
theorem sA{s:Lsn}:fU s=0↔bX s:=by
 have hv:fU s=if bX s then 0 else 1:=rfl
 rw[hv];by_cases h:bX s<;>simp[h]
theorem wU{o:Ovl}(ok:okL [o.v]):o.sp.length≤9223372036854775807∧o.ls.length≤9223372036854775807∧o.fl.length≤9223372036854775807:=by
 have h:=ok
 simp only[Ovl.v,spks,lsns,sigs,AV.ok,okL,List.length_map,cT]at h
 omega
theorem iB{α:Type}{P:α→Prop}{l:List α}{k:Nat}{x:α}(hx:l[k]?=some x)(h:∀y∈l.take k,P y)(hp:P x):∀y∈l.take (k+1),P y:=(bq hx).mpr ⟨h,hp⟩
def vW(o:Ovl):=okL [.agg [.sl 5 (o.sp.map Spk.v) false,.sl 3 (o.ls.map Lsn.v) false,.sl 10 (o.fl.map Sig.v) false]]
def GG(o:Ovl)(t0:Bool):NF:=⟨[(1,.k,.ref 0 0),(23,.k,.bool t0)],[.box (.agg [.sl 5 (o.sp.map Spk.v) false,.sl 3 (o.ls.map Lsn.v) false,.sl 10 (o.fl.map Sig.v) false])]⟩
def GF(o:Ovl)(t1:Int):NF:=⟨[(1,.k,.ref 0 0),(3,.k,.sl 1 ((aJ o.sp).map AV.int) false),(27,.k,.sl 5 (o.sp.map Spk.v) false),(28,.k,.int ((o.sp.map Spk.v).length:Int)),(29,.k,.int t1)],[.box (.agg [.sl 5 (o.sp.map Spk.v) false,.sl 3 (o.ls.map Lsn.v) false,.sl 10 (o.fl.map Sig.v) false])]⟩
def GE(o:Ovl)(t1:Int)(x2:Spk)(t2:Bool):NF:=⟨[(1,.k,.ref 0 0),(3,.k,.sl 1 ((aJ o.sp).map AV.int) false),(4,.k,.int t1),(5,.k,.ref 1 0),(27,.k,.sl 5 (o.sp.map Spk.v) false),(28,.k,.int ((o.sp.map Spk.v).length:Int)),(29,.k,.int t1),(50,.k,.bool t2)],[.box (.agg [.sl 5 (o.sp.map Spk.v) false,.sl 3 (o.ls.map Lsn.v) false,.sl 10 (o.fl.map Sig.v) false]),.box (.agg [.int x2.router,.int x2.epoch,.int x2.last,.sl 4 (x2.items.map Itm.v) false,.sl 3 (x2.peers.map Per.v) false])]⟩
def GD(o:Ovl)(t1:Int)(x5:Lsn)(t3:Bool):NF:=⟨[(1,.k,.ref 0 0),(3,.k,.sl 1 ((aJ o.sp).map AV.int) false),(6,.k,.ref 1 0),(27,.k,.sl 5 (o.sp.map Spk.v) false),(28,.k,.int ((o.sp.map Spk.v).length:Int)),(29,.k,.int t1),(73,.k,.bool t3)],[.box (.agg [.sl 5 (o.sp.map Spk.v) false,.sl 3 (o.ls.map Lsn.v) false,.sl 10 (o.fl.map Sig.v) false]),.box (.agg [.int x5.router,.int x5.epoch,.sl 4 (x5.heard.map Hrd.v) false])]⟩
def GC(o:Ovl)(t1:Int)(x5:Lsn)(t4:Int):NF:=⟨[(1,.k,.ref 0 0),(3,.k,.sl 1 ((aJ o.sp).map AV.int) false),(27,.k,.sl 5 (o.sp.map Spk.v) false),(28,.k,.int ((o.sp.map Spk.v).length:Int)),(29,.k,.int t1),(75,.k,.sl 4 (x5.heard.map Hrd.v) false),(76,.k,.int ((x5.heard.map Hrd.v).length:Int)),(77,.k,.int t4)],[.box (.agg [.sl 5 (o.sp.map Spk.v) false,.sl 3 (o.ls.map Lsn.v) false,.sl 10 (o.fl.map Sig.v) false])]⟩
def GB(o:Ovl)(t5:Int):NF:=⟨[(3,.k,.sl 1 ((aJ o.sp).map AV.int) false),(89,.k,.sl 10 (o.fl.map Sig.v) false),(90,.k,.int ((o.fl.map Sig.v).length:Int)),(91,.k,.int t5)],[]⟩
def GA(o:Ovl)(t5:Int)(t6:Bool):NF:=⟨[(3,.k,.sl 1 ((aJ o.sp).map AV.int) false),(89,.k,.sl 10 (o.fl.map Sig.v) false),(90,.k,.int ((o.fl.map Sig.v).length:Int)),(91,.k,.int t5),(111,.k,.bool t6)],[]⟩
@[reducible] def vU:Nat→Type
 | 0=>Bool
 | 1=>Int
 | 2=>Bool
 | 3=>Bool
 | 4=>Int
 | 5=>Int
 | 6=>Bool
 | _=>Unit
def nC(r:Bool):AV:=.bool r
def nB(o:Ovl)(I0:Bool→Prop)(I1:Bool→Int→Prop)(m1:Bool→Int→Nat)(I2:Bool→Int→Spk→Bool→Prop)(I3:Bool→Int→Spk→Bool→Lsn→Bool→Prop)(I4:Bool→Int→Spk→Bool→Lsn→Bool→Int→Prop)(m4:Bool→Int→Spk→Bool→Lsn→Bool→Int→Nat)(I5:Bool→Int→Int→Prop)(m5:Bool→Int→Int→Nat)(I6:Bool→Int→Int→Sig→Bool→Prop):Ax Tryz.prog vU (Bool):=
 (.pass (.pass (.join 0 (GG o) (λ(t0:Bool)=>I0 t0) (λb0=>(.br 112 (decide (12<((o.sp.map Spk.v).length:Int))) (.bk 0 b0 ((true):Bool) [0])
(.bk 0 b0 ((((o.ls.map Lsn.v).length:Int) != ((o.sp.map Spk.v).length:Int)):Bool) [0]))) λ(t0:Bool) =>
(.br 1 t0 (.ret (false))
(.req 17 (o.sp.length≤1000000) λh1 =>
(.callP (PT o h1)
(.loop 1 (GF o) (I1 t0) (m1 t0) ((0):Int) [0] λ(t1:Int) b1 =>
(.br 17 (decide (t1<((o.sp.map Spk.v).length:Int))) (.el 33 Spk.v o.sp (λR=>Rf (o.sp.map Spk.v) (ck (decide (0≤t1)) (ck (decide (t1<(o.sp.length:Int)))
(∀x2,o.sp[t1.toNat]?=some x2 →
(R x2))))) λx2 =>
(.pass (.join 2 (GE o t1 x2) (λ(t2:Bool)=>I2 t0 t1 x2 t2) (λb2=>(.callP (Ub x2)
(.br 177 ((dK x2) != 0) (.bk 2 b2 ((true):Bool) [0,65])
(.br 225 (decide (0<t1)) (.el 273 AV.int (aJ o.sp) (λR=>Rf ((aJ o.sp).map AV.int) (ck (decide (0≤(W (t1-1)))) (ck (decide ((W (t1-1))<((aJ o.sp).length:Int)))
(∀x3,(aJ o.sp)[(W (t1-1)).toNat]?=some x3 →
(R x3))))) λx3 =>
(.bk 2 b2 ((decide (x2.router≤x3)):Bool) [0,65]))
(.bk 2 b2 ((false):Bool) [0,65]))))) λ(t2:Bool) =>
(.br 2 t2 (.ret (false))
(.req 82 ((aJ o.sp).length≤1000000) λh4 =>
(.callP (Hk (aJ o.sp) x2.router h4)
(.callP (W0 x2.peers (cW (aJ o.sp) x2.router))
(.br 130 (!(decide (x2.peers.map Per.router=(cW (aJ o.sp) x2.router)))) (.ret (false))
(.el 178 Lsn.v o.ls (λR=>Rf (o.ls.map Lsn.v) (ck (decide (0≤t1)) (ck (decide (t1<(o.ls.length:Int)))
(∀x5,o.ls[t1.toNat]?=some x5 →
(R x5))))) λx5 =>
(.pass (.join 3 (GD o t1 x5) (λ(t3:Bool)=>I3 t0 t1 x2 t2 x5 t3) (λb3=>(.callP (Jq x5)
(.br 306 ((fU x5) != 0) (.bk 3 b3 ((true):Bool) [0,210])
(.bk 3 b3 ((x5.router != x2.router):Bool) [0,210])))) λ(t3:Bool) =>
(.br 2 t3 (.ret (false))
(.loop 4 (GC o t1 x5) (I4 t0 t1 x2 t2 x5 t3) (m4 t0 t1 x2 t2 x5 t3) ((0):Int) [0] λ(t4:Int) b4 =>
(.br 17 (decide (t4<((x5.heard.map Hrd.v).length:Int))) (.el 17 Hrd.v x5.heard (λR=>Rf (x5.heard.map Hrd.v) (ck (decide (0≤t4)) (ck (decide (t4<(x5.heard.length:Int)))
(∀x6,x5.heard[t4.toNat]?=some x6 →
(R x6))))) λx6 =>
(.callP (nh (aJ o.sp) x6.router)
(.br 161 (!(decide (x6.router∈(aJ o.sp)))) (.ret (false))
(.bk 4 b4 ((W (t4+1)):Int) [0]))))
(.bk 1 b1 ((W (t1+1)):Int) [0])))))))))))))))
(.loop 5 (GB o) (I5 t0 t1) (m5 t0 t1) ((0):Int) [] λ(t5:Int) b5 =>
(.br 16 (decide (t5<((o.fl.map Sig.v).length:Int))) (.el 16 Sig.v o.fl (λR=>Rf (o.fl.map Sig.v) (ck (decide (0≤t5)) (ck (decide (t5<(o.fl.length:Int)))
(∀x7,o.fl[t5.toNat]?=some x7 →
(R x7))))) λx7 =>
(.join 6 (GA o t5) (λ(t6:Bool)=>I6 t0 t1 t5 x7 t6) (λb6=>(.callP (Uv x7)
(.br 144 ((aL x7) != 0) (.bk 6 b6 ((true):Bool) [])
(.callP (nh (aJ o.sp) x7.src)
(.br 256 (!(decide (x7.src∈(aJ o.sp)))) (.bk 6 b6 ((true):Bool) [])
(.callP (nh (aJ o.sp) x7.dst)
(.bk 6 b6 ((!(decide (x7.dst∈(aJ o.sp)))):Bool) []))))))) λ(t6:Bool) =>
(.br 0 t6 (.ret (false))
(.bk 5 b5 ((W (t5+1)):Int) []))))
(.ret (true))))))))))))
def qA(o:Ovl)(I0:Bool→Prop)(I1:Bool→Int→Prop)(m1:Bool→Int→Nat)(I2:Bool→Int→Spk→Bool→Prop)(I3:Bool→Int→Spk→Bool→Lsn→Bool→Prop)(I4:Bool→Int→Spk→Bool→Lsn→Bool→Int→Prop)(m4:Bool→Int→Spk→Bool→Lsn→Bool→Int→Nat)(I5:Bool→Int→Int→Prop)(m5:Bool→Int→Int→Nat)(I6:Bool→Int→Int→Sig→Bool→Prop)(r0:Bool):=(nB o I0 I1 m1 I2 I3 I4 m4 I5 m5 I6).vp nC r0
theorem Jb(o:Ovl)(ok:vW o):∃I0 I1 m1 I2 I3 I4 m4 I5 m5 I6,qA o I0 I1 m1 I2 I3 I4 m4 I5 m5 I6 (decide (bQ o)):=by
 unfold vW at ok
 obtain⟨l1,l2,l3⟩:=wU ok
 refine⟨λt=>t=false↔(o.sp.length≤12∧o.ls.length=o.sp.length),
  λ_ t=>∃k:Nat,t=k∧k≤o.sp.length∧∀i s l,i<k→o.sp[i]?=some s→o.ls[i]?=some l→AtK (aJ o.sp) i s l,λ_ t=>o.sp.length-t.toNat,
  λ_ t1 x t=>t=false↔(bc x∧(0<t1.toNat→∀y,(aJ o.sp)[t1.toNat-1]?=some y→y<x.router)),
  λ_ _ x _ y t=>t=false↔(bX y∧y.router=x.router),
  λ_ _ _ _ y _ t=>∃k:Nat,t=k∧k≤y.heard.length∧∀h∈y.heard.take k,h.router∈aJ o.sp,λ_ _ _ _ y _ t=>y.heard.length-t.toNat,
  λ_ _ t=>∃k:Nat,t=k∧k≤o.fl.length∧∀x∈o.fl.take k,cP (aJ o.sp) x,λ_ _ t=>o.fl.length-t.toNat,
  λ_ _ _ x t=>t=false↔cP (aJ o.sp) x,?_⟩
 dsimp only[qA,nB,vU,Ax.vp,Ax.vc];simp only[vcU,rfU,List.length_map]
 refine⟨⟨λh1=>by simp;omega,λh1=>?_⟩,?_⟩
 ·simp;omega
 intro t0 h0
 refine⟨λe=>?_,λe=>?_⟩
 ·subst e
  exact iL λq=>by have:=h0.mpr ⟨(eo.mp q).1,(eo.mp q).2.1⟩;simp at this
 obtain⟨n1,n2⟩:=h0.mp e
 have hR:(aJ o.sp).length=o.sp.length:=eT
 refine⟨by omega,⟨0,rfl,by omega,λi s l hi=>by omega⟩,?_⟩
 rintro _ ⟨k,rfl,hk,hI⟩
 simp only[Int.toNat_natCast]
 refine⟨λh1=>⟨by omega,by omega,λx hx=>⟨⟨λa1=>?_,λa1=>⟨λa2=>⟨?_,?_,λy hy=>?_⟩,λa2=>?_⟩⟩,?_⟩⟩,λh1=>⟨⟨0,rfl,by omega,by simp⟩,?_⟩⟩
 ·have a1:¬dK x=0:=by simpa using a1
  rw[kY]at a1
  simp[a1]
 ·rw[bB (by omega)];omega
 ·rw[bB (by omega)];omega
 ·have a1:dK x=0:=by simpa using a1
  have e3:(W ((k:Int)-1)).toNat=k-1:=by rw[bB (by omega)];omega
  rw[e3]at hy
  rw[kY]at a1
  rw[hy]
  simp only[Option.some.injEq,forall_eq']
  exact⟨λq=>⟨a1,λ_=>by omega⟩,λq=>by have:=q.2 (by omega);omega⟩
 ·have a1:dK x=0:=by simpa using a1
  rw[kY]at a1
  simp only[true_iff]
  exact⟨a1,λq=>by omega⟩
 ·intro t2 h2
  refine⟨λe=>?_,λe=>⟨by omega,λa1=>?_,λa1=>⟨by omega,by omega,λy hy=>⟨⟨λb1=>?_,λb1=>?_⟩,?_⟩⟩⟩⟩
  ·subst e
   exact iL λq=>by
    obtain⟨l,hl⟩:∃l,o.ls[k]?=some l:=⟨_,List.getElem?_eq_getElem (by omega)⟩
    have d:=(eo.mp q).2.2.1 k x l hx hl
    have:=h2.mpr ⟨d.fs,d.fasc⟩
    simp at this
  ·have a1:¬x.peers.map Per.router=cW (aJ o.sp) x.router:=by simpa using a1
   exact iL λq=>by
    obtain⟨l,hl⟩:∃l,o.ls[k]?=some l:=⟨_,List.getElem?_eq_getElem (by omega)⟩
    exact a1 ((eo.mp q).2.2.1 k x l hx hl).fp
  ·have b1:¬fU y=0:=by simpa using b1
   rw[sA]at b1
   simp[b1]
  ·have b1:fU y=0:=by simpa using b1
   rw[sA]at b1
   simp[b1]
  ·have a1:x.peers.map Per.router=cW (aJ o.sp) x.router:=by simpa using a1
   intro t3 h3
   refine⟨λe3=>?_,λe3=>⟨⟨0,rfl,by omega,by simp⟩,?_⟩⟩
   ·subst e3
    exact iL λq=>by
     have d:=(eo.mp q).2.2.1 k x y hx hy
     have:=h3.mpr ⟨d.fl,d.fr⟩
     simp at this
   obtain⟨d1,d2⟩:=h2.mp e
   obtain⟨d3,d4⟩:=h3.mp e3
   have hh:=d3.2.2.1
   rintro _ ⟨j,rfl,hj,hJ⟩
   simp only[Int.toNat_natCast]
   refine⟨λc1=>⟨by omega,by omega,λz hz=>⟨λc2=>?_,λc2=>?_⟩⟩,λc1=>?_⟩
   ·have c2:¬z.router∈aJ o.sp:=by simpa using c2
    exact iL λq=>c2 (((eo.mp q).2.2.1 k x y hx hy).fh z (aB hz))
   ·rw[av (n:=y.heard.length) (by omega) (by omega)]
    exact⟨⟨j+1,rfl,by omega,iB hz hJ (by simpa using c2)⟩,by omega⟩
   ·rw[av (n:=o.sp.length) (by omega) (by omega)]
    have hj:j=y.heard.length:=by omega
    rw[hj,List.take_length]at hJ
    refine⟨⟨k+1,rfl,by omega,λi s l hi hs hl=>?_⟩,by omega⟩
    by_cases ei:i=k
    ·subst ei
     rw[hx]at hs;rw[hy]at hl
     cases hs;cases hl
     exact⟨d1,d2,a1,d3,d4,hJ⟩
    ·exact hI i s l (by omega) hs hl
 ·have hk:k=o.sp.length:=by omega
  rintro _ ⟨j,rfl,hj,hJ⟩
  simp only[Int.toNat_natCast]
  refine⟨λc1=>⟨by omega,by omega,λx hx=>⟨⟨λa1=>?_,λa1=>⟨λa2=>?_,λa2=>?_⟩⟩,?_⟩⟩,λc1=>?_⟩
  ·have a1:¬aL x=0:=by simpa using a1
   simp[cP,a1]
  ·have a2:¬x.src∈aJ o.sp:=by simpa using a2
   simp[cP,a2]
  ·have a1:aL x=0:=by simpa using a1
   have a2:x.src∈aJ o.sp:=by simpa using a2
   simp[cP,a1,a2]
  ·intro t6 h6
   refine⟨λe=>?_,λe=>?_⟩
   ·subst e
    exact iL λq=>by have:=h6.mpr ((eo.mp q).2.2.2 x (aB hx));simp at this
   ·rw[av (n:=o.fl.length) (by omega) (by omega)]
    exact⟨⟨j+1,rfl,by omega,iB hx hJ (h6.mp e)⟩,by omega⟩
  ·have hj:j=o.fl.length:=by omega
   rw[hj,List.take_length]at hJ
   refine(decide_eq_true (eo.mpr ⟨n1,n2,λi s l hs hl=>hI i s l (by have:=ay hs;omega) hs hl,hJ⟩)).symm
def vV(o:Ovl):PC Tryz.prog:=⟨91,[(.a [(.s 5),(.s 3),(.s 10)])],[.agg [.sl 5 (o.sp.map Spk.v) false,.sl 3 (o.ls.map Lsn.v) false,.sl 10 (o.fl.map Sig.v) false]],nC (decide (bQ o)),ao.of_ok λok=>(Jb o ok).elim λI0 h=>h.elim λI1 h=>h.elim λm1 h=>h.elim λI2 h=>h.elim λI3 h=>h.elim λI4 h=>h.elim λm4 h=>h.elim λI5 h=>h.elim λm5 h=>h.elim λI6 h=>aj (sh:=.k) (enc:=nC) (a:=(nB o I0 I1 m1 I2 I3 I4 m4 I5 m5 I6).an) h (by kernel_rfl) (AV.pureB_ok rfl),ai (by kernel_rfl)⟩
def dg(o:Ovl):Int:=if bQ o then 0 else 1
def Ug(o:Ovl):=okL [.agg [.sl 5 (o.sp.map Spk.v) false,.sl 3 (o.ls.map Lsn.v) false,.sl 10 (o.fl.map Sig.v) false]]
def Ab(r:Int):AV:=.int r
def Aa(o:Ovl):Ax Tryz.prog noS (Int):=
 (.callP (vV o)
(.br 64 (decide (bQ o)) (.ret (0))
(.ret (1))))
def DE(o:Ovl)(r0:Int):=(Aa o).vp Ab r0
theorem Ue(o:Ovl)(ok:Ug o):DE o (dg o):=by
 dsimp only[DE,Aa,noS,Ax.vp,Ax.vc];simp only[vcU,rfU,List.length_map]
 unfold dg
 refine⟨λh=>?_,λh=>?_⟩
 ·rw[if_pos h]
 ·rw[if_neg h]
def Uf(o:Ovl):PC Tryz.prog:=⟨50,[(.a [(.s 5),(.s 3),(.s 10)])],[.agg [.sl 5 (o.sp.map Spk.v) false,.sl 3 (o.ls.map Lsn.v) false,.sl 10 (o.fl.map Sig.v) false]],Ab (dg o),ao.of_ok λok=>aj (sh:=.k) (enc:=Ab) (a:=(Aa o).an) (Ue o ok) (by kernel_rfl) (AV.pureB_ok rfl),ai (by kernel_rfl)⟩
theorem JP{x:Sig}(h:aL x=0):x.srcs.length≤1000000:=by
 unfold aL at h
 split at h
 ·omega
 split at h
 ·omega
 split at h
 ·have:=we h;omega
 ·split at h
  ·omega
  ·rename_i q
   have:x.srcs=[]:=by
    by_cases e:x.srcs=[]
    ·exact e
    ·exact absurd (.inr e) q
   rw[this];simp
theorem Cb(x:Wnt)(l:List Wnt)(g:Int):bM (x::l) g=if x.grp=g then⟨x.mode,x.srcs⟩else bM l g:=by
 unfold bM
 rw[List.find?_cons]
 by_cases h:x.grp=g
 ·rw[if_pos h];simp[h]
 ·rw[if_neg h];simp[h]
theorem kG{o:Ovl}(h:bQ o)(r:Int):kH o.sp r↔r∈aJ o.sp:=(kI (key:=Spk.router) h.1.asc).trans mem_keys.symm
theorem E3{o:Ovl}(h:bQ o){r:Int}(hr:r∈aJ o.sp):bm o.sp r<o.sp.length∧bm o.sp r<o.ls.length∧o.sp[bm o.sp r]?=some (atS o.sp r)∧o.ls[bm o.sp r]?=some (atL o.sp o.ls r):=by
 have h1:=((kG h r).mpr hr).1
 have h2:=(eo.mp h).2.1
 refine⟨h1,by omega,?_,?_⟩
 ·unfold atS;rw[List.getD_eq_getElem?_getD,List.getElem?_eq_getElem h1];rfl
 ·unfold atL;rw[List.getD_eq_getElem?_getD,List.getElem?_eq_getElem (by omega)];rfl
def EJ(l:List Sig)(f:List Fau):Prop:=l.length≤500000∧f.length≤1000∧∀x∈l,x.srcs.length≤1000000
def qU(o:Ovl)(f:List Fau):Prop:=o.fl.length≤400000∧f.length≤1000
theorem bt.pos{R:List Int}{sp:List Spk}{ls:List Lsn}(h:bt R sp ls){r:Int}(hr:r∈R) :
  bm sp r<sp.length∧bm sp r<ls.length∧sp[bm sp r]?=some (atS sp r)∧ls[bm sp r]?=some (atL sp ls r):=by
 have h1:bm sp r<sp.length:=((kI (key:=Spk.router) (d:=fc) h.asc).mpr (mem_keys.mp (by rw[h.spr];exact hr))).1
 have e1:=congrArg List.length h.spr
 have e2:=congrArg List.length h.lsr
 rw[List.length_map]at e1 e2
 refine⟨h1,by omega,?_,?_⟩
 ·unfold atS;rw[List.getD_eq_getElem?_getD,List.getElem?_eq_getElem h1];rfl
 ·unfold atL;rw[List.getD_eq_getElem?_getD,List.getElem?_eq_getElem (by omega)];rfl
theorem bt.lens{R:List Int}{sp:List Spk}{ls:List Lsn}(h:bt R sp ls):sp.length≤12∧ls.length≤12:=by
 have e1:=congrArg List.length h.spr
 have e2:=congrArg List.length h.lsr
 rw[List.length_map]at e1 e2
 have:=h.len
 omega
theorem flat_take{α β:Type}{f:α→List β}{l:List α}{k:Nat}{x:α}(hx:l[k]?=some x):(l.take (k+1)).flatMap f=(l.take k).flatMap f++f x:=by
 rw[ax hx];simp
theorem E2{o:Ovl}(h:bQ o){a b:Int}(ha:a∈aJ o.sp)(hb:b∈aJ o.sp):bm o.sp a=bm o.sp b↔a=b:=by
 refine⟨λe=>?_,λe=>by rw[e]⟩
 have h1:=(h.1.s ha).2
 have h2:=(h.1.s hb).2
 unfold atS at h1 h2
 rw[e]at h1
 exact h1.symm.trans h2
def QV(o:Ovl)(at_:Int)(of_:Int):=okL [.agg [.sl 5 (o.sp.map Spk.v) false,.sl 3 (o.ls.map Lsn.v) false,.sl 10 (o.fl.map Sig.v) false],.int at_,.int of_]
def LJ(o:Ovl)(at_:Int)(of_:Int)(t0:Bool):NF:=⟨[(2,.k,.int of_),(3,.k,.ref 0 0),(8,.k,.int (bm o.sp at_:Int)),(10,.k,.int (bm o.sp of_:Int)),(27,.k,.bool t0)],[.box (.agg [.sl 5 (o.sp.map Spk.v) false,.sl 3 (o.ls.map Lsn.v) false,.sl 10 (o.fl.map Sig.v) false])]⟩
@[reducible] def EX:Nat→Type
 | 0=>Bool
 | _=>Unit
def tU(r:List Wnt×Int):AV:=.tup [.sl 3 (r.1.map Wnt.v) false,.int r.2]
def tT(o:Ovl)(at_:Int)(of_:Int)(I0:Bool→Prop):Ax Tryz.prog EX (List Wnt×Int):=
 (.callP (vV o)
(.br 96 (!(decide (bQ o))) (.ret ([],1))
(.req 128 (o.sp.Pairwise λx y=>x.router<y.router) λh1 =>
(.req 128 (o.sp.length≤1000000) λh2 =>
(.callP (F9 o at_ h1 h2)
(.req 256 (o.sp.Pairwise λx y=>x.router<y.router) λh3 =>
(.req 256 (o.sp.length≤1000000) λh4 =>
(.callP (F9 o of_ h3 h4)
(.pass (.join 0 (LJ o at_ of_) (λ(t0:Bool)=>I0 t0) (λb0=>(.br 400 (!(decide (kH o.sp at_))) (.bk 0 b0 ((true):Bool) [0])
(.bk 0 b0 ((!(decide (kH o.sp of_))):Bool) [0]))) λ(t0:Bool) =>
(.br 1 t0 (.ret ([],4))
(.br 65 ((bm o.sp at_:Int)==(bm o.sp of_:Int)) (.el 113 Spk.v o.sp (λR=>Rf (o.sp.map Spk.v) (ck (decide (0≤(bm o.sp at_:Int))) (ck (decide ((bm o.sp at_:Int)<(o.sp.length:Int)))
(∀x5,o.sp[(bm o.sp at_:Int).toNat]?=some x5 →
(R x5))))) λx5 =>
(.callP (vN x5.items)
(.ret (aM x5.items,0))))
(.el 113 Lsn.v o.ls (λR=>Rf (o.ls.map Lsn.v) (ck (decide (0≤(bm o.sp at_:Int))) (ck (decide ((bm o.sp at_:Int)<(o.ls.length:Int)))
(∀x6,o.ls[(bm o.sp at_:Int).toNat]?=some x6 →
(R x6))))) λx6 =>
(.callP (LQ x6 of_)
(.ret (dW x6 of_,0))))))))))))))))
def xB(o:Ovl)(at_:Int)(of_:Int)(I0:Bool→Prop)(r0:List Wnt×Int):=(tT o at_ of_ I0).vp tU r0
theorem QU(o:Ovl)(a b:Int)(ok:QV o a b):∃I0,xB o a b I0 (bJ o a b):=by
 refine⟨λt=>t=decide (a ∉ aJ o.sp∨b ∉ aJ o.sp),?_⟩
 dsimp only[xB,tT,EX,Ax.vp,Ax.vc];simp only[vcU,rfU,List.length_map]
 have hV:bJ o a b=if ¬bQ o then([],1)else if a ∉ aJ o.sp∨b ∉ aJ o.sp then([],4)else if a=b then(aM (atS o.sp b).items,0)else(dW (atL o.sp o.ls a) b,0):=rfl
 rw[hV]
 by_cases hv:bQ o
 case neg=>simp[hv]
 have hL:=hv.1.lens
 rw[if_neg (not_not_intro hv)]
 refine⟨λq=>absurd hv (by simpa using q),λ_=>⟨hv.1.asc,by omega,hv.1.asc,by omega,⟨λc=>?_,λc=>?_⟩,?_⟩⟩
 ·have c:a ∉ aJ o.sp:=by rw[←kG hv];simpa using c
  simp[c]
 ·have c:a∈aJ o.sp:=by rw[←kG hv];simpa using c
  have e2:decide (kH o.sp b)=decide (b∈aJ o.sp):=decide_eq_decide.mpr (kG hv b)
  rw[e2];simp[c]
 ·rintro _ rfl
  refine⟨λc=>?_,λc=>?_⟩
  ·rw[if_pos (of_decide_eq_true c)]
  have c:=of_decide_eq_false c
  rw[if_neg c]
  have ha:a∈aJ o.sp:=by simp only[not_or,Classical.not_not]at c;exact c.1
  have hb:b∈aJ o.sp:=by simp only[not_or,Classical.not_not]at c;exact c.2
  obtain⟨p1,p2,p3,p4⟩:=hv.1.pos ha
  simp only[Int.toNat_natCast]
  refine⟨λq=>⟨by omega,by omega,λx hx=>?_⟩,λq=>⟨by omega,by omega,λx hx=>?_⟩⟩
  ·have q:a=b:=(E2 hv ha hb).mp (by have:=eq_of_beq q;omega)
   cases p3.symm.trans hx
   rw[if_pos q,q]
  ·have q:¬a=b:=λe=>by rw[e]at q;simp at q
   cases p4.symm.trans hx
   rw[if_neg q]
def EY(o:Ovl)(at_:Int)(of_:Int):PC Tryz.prog:=⟨53,[(.a [(.s 5),(.s 3),(.s 10)]),.k,.k],[.agg [.sl 5 (o.sp.map Spk.v) false,.sl 3 (o.ls.map Lsn.v) false,.sl 10 (o.fl.map Sig.v) false],.int at_,.int of_],tU (bJ o at_ of_),ao.of_ok λok=>(QU o at_ of_ ok).elim λI0 h=>aj (sh:=(.a [(.s 3),.k])) (enc:=tU) (a:=(tT o at_ of_ I0).an) h (by kernel_rfl) (AV.pureB_ok rfl),ai (by kernel_rfl)⟩
def setAt(o:Ovl)(s:Spk)(p:Per):Prop:=agree s (atL o.sp o.ls p.router)∧p.epoch=(atL o.sp o.ls p.router).epoch∧p.acked=s.last
theorem Hr(l:List Int):bQ (iM l)↔okR l:=by
 have er:aJ (iM l).sp=l:=by
  show(l.map (lf l)).map Spk.router=l
  rw[List.map_map]
  exact List.map_id'' (λx=>rfl) l
 constructor
 ·rintro⟨h,_⟩
  rw[er]at h
  refine⟨h.len,λr hr=>?_,h.ascR⟩
  have:=(h.spo (lf l r) (List.mem_map.mpr ⟨r,hr,rfl⟩)).1.1
  exact this
 ·intro h
  refine⟨?_,by simp[iM]⟩
  rw[er];exact qZ h
def F6(L:List Int)(p:Nat)(n:Int):=okL [.ref 0 0,.int n]∧(.box (.agg [.sl 1 (L.map AV.int) false,.int p]):Blk).ok
def MM(L:List Int)(n:Int)(t0:Int×Nat×List Fau):NF:=⟨[(0,.k,.ref 0 0),(1,.k,.int n),(5,.k,.vec 1),(6,.k,.int t0.1)],[.box (.agg [.sl 1 (L.map AV.int) false,.int t0.2.1]),.vec 2 (t0.2.2.map Fau.v) (ab (λ_=>rfl) t0.2.2)]⟩
@[reducible] def F4:Nat→Type
 | 0=>Int×Nat×List Fau
 | _=>Unit
def nb(r:Tap×List Fau):AV:=.sl 2 (r.2.map Fau.v) false
def nc(r:Tap×List Fau):List (Option Blk):=[some (.box (.agg [.sl 1 (r.1.L.map AV.int) false,.int r.1.p]))]
def uA(L:List Int)(p:Nat)(n:Int)(I0:(Int×Nat×List Fau)→Prop)(m0:(Int×Nat×List Fau)→Nat):Ax Tryz.prog F4 (Tap×List Fau):=
 (.callH [0] (N_h L p 4) 49
(.cmdL (.nilT 5 2) (.loop 0 (MM L n) I0 m0 (Mod (al L p) 4,ag L p,[]) [0,81] λ(t0:Int×Nat×List Fau) b0 =>
(.br 34 (decide (0<t0.1)) (.callH [0] (da L t0.2.1 0 5) 66
(.callH [0] (N_h L (ag L t0.2.1) (W (n+2))) 130
(.say (λR=>Rf (α:=List AV) (t0.2.2.map Fau.v) (Rf (α:=List AV) [.agg [.int (rng L t0.2.1 0 5),.int (Mod (al L (ag L t0.2.1)) (W (n+2)))]]
(ck (decide (t0.2.2.length+1≤1048576))
R))) (.app 178 Fau.v t0.2.2 [(⟨rng L t0.2.1 0 5,Mod (al L (ag L t0.2.1)) (W (n+2))⟩:Fau)]
(.bk 0 b0 (W (t0.1-1),ag L (ag L t0.2.1),t0.2.2++[(⟨rng L t0.2.1 0 5,Mod (al L (ag L t0.2.1)) (W (n+2))⟩:Fau)]) [0,178])))))
(.say (Rf (t0.2.2.map Fau.v)) (.cmdL (.frzE 1 (t0.2.2.map Fau.v) (ab (λ_=>rfl) t0.2.2)) (.retH ((⟨L,t0.2.1⟩:Tap),t0.2.2) ⟨[(4,.k,.sl 2 (t0.2.2.map Fau.v) false)],[.box (.agg [.sl 1 (L.map AV.int) false,.int t0.2.1])]⟩ [0])))))))
def yj(L:List Int)(p:Nat)(n:Int)(I0:(Int×Nat×List Fau)→Prop)(m0:(Int×Nat×List Fau)→Nat)(r0:Tap×List Fau):=(uA L p n I0 m0).vc nb nc r0
theorem RA(L:List Int)(p:Nat)(n:Int)(h:0≤n∧n≤1000000)(ok:F6 L p n):∃I m,yj L p n I m ((⟨L,(bx L n p).2⟩:Tap),(bx L n p).1):=by
 have hm:=bg (x:=al L p) (n:=4) (by omega)
 refine⟨λt=>∃k:Nat,t.1=k∧k≤4∧t.2.2.length+k≤4∧jx L n k t.2.2 t.2.1=bx L n p,λt=>t.1.toNat,?_⟩
 dsimp only[yj,uA,F4,Ax.vp,Ax.vc];simp only[vcU,rfU,List.length_map]
 refine⟨⟨(Mod (al L p) 4).toNat,by omega,by omega,by simp;omega,rfl⟩,?_⟩
 rintro⟨i,q,out⟩ ⟨k,hk,hk4,hl,hf⟩
 simp only at hk hl hf
 subst hk
 simp only[Int.toNat_natCast]
 refine⟨λh1=>⟨by omega,?_,?_⟩,λh1=>?_⟩
 ·obtain⟨j,rfl⟩:∃j,k=j+1:=⟨k-1,by omega⟩
  rw[bB (by omega)]
  refine⟨j,by omega,by omega,by simp;omega,?_⟩
  rw[jx]at hf
  exact hf
 ·rw[bB (by omega)];omega
 ·have:k=0:=by omega
  subst this
  rw[←hf];rfl
def F5(L:List Int)(p:Nat)(n:Int)(h:0≤n∧n≤1000000):HC Tryz.prog:=⟨40,[.k,.k],[.ref 0 0,.int n],[.box (.agg [.sl 1 (L.map AV.int) false,.int p])],nb ((⟨L,(bx L n p).2⟩:Tap),(bx L n p).1),nc ((⟨L,(bx L n p).2⟩:Tap),(bx L n p).1),bl.of_okh λok ok2=>have ok:F6 L p n:=⟨ok,ok2 _ (by simp)⟩;(RA L p n h ok).elim λI0 h=>h.elim λm0 h=>cC (sh:=(.s 2)) (enc:=nb) (hB:=nc) (a:=(uA L p n I0 m0).an) h (by kernel_rfl),ai (by kernel_rfl),fk.of (by simp[hcB,cJ,AV.belB,allB,eI,dQ,nb,nc,ab (v:=AV.int) (λ_=>rfl)])⟩
def Xi(l:List Sig)(faults:List Fau):=okL [.sl 10 (l.map Sig.v) false,.sl 2 (faults.map Fau.v) false]
def S9(faults:List Fau)(t0:Int×List Sig×List Sig):NF:=⟨[(6,.k,.vec 0),(7,.k,.vec 1),(15,.k,.sl 2 (faults.map Fau.v) false),(16,.k,.int ((faults.map Fau.v).length:Int)),(17,.k,.int t0.1)],[.vec 10 (t0.2.1.map Sig.v) (ab (λ_=>rfl) t0.2.1),.vec 10 (t0.2.2.map Sig.v) (ab (λ_=>rfl) t0.2.2)]⟩
def S8(faults:List Fau)(t0:Int×List Sig×List Sig)(x1:Fau)(t1:Bool):NF:=⟨[(6,.k,.vec 0),(7,.k,.vec 1),(9,.k,.ref 2 0),(15,.k,.sl 2 (faults.map Fau.v) false),(16,.k,.int ((faults.map Fau.v).length:Int)),(17,.k,.int t0.1),(30,.k,.bool t1)],[.vec 10 (t0.2.1.map Sig.v) (ab (λ_=>rfl) t0.2.1),.vec 10 (t0.2.2.map Sig.v) (ab (λ_=>rfl) t0.2.2),.box (.agg [.int x1.kind,.int x1.pos])]⟩
@[reducible] def Oc:Nat→Type
 | 0=>Int×List Sig×List Sig
 | 1=>Bool
 | _=>Unit
def vr(r:List Sig×List Sig):AV:=.tup [.vec 0,.vec 1]
def vt(r:List Sig×List Sig):List (Option Blk):=[some (.vec 10 (r.1.map Sig.v)),some (.vec 10 (r.2.map Sig.v))]
def CZ(l:List Sig)(faults:List Fau)(I0:(Int×List Sig×List Sig)→Prop)(m0:(Int×List Sig×List Sig)→Nat)(I1:Int×List Sig×List Sig→Fau→Bool→Prop):Ax Tryz.prog Oc (List Sig×List Sig):=
 (.say (λR=>Rf (α:=List AV) [] (Rf (α:=List AV) (l.map Sig.v)
(ck (decide (0+l.length≤1048576))
R))) (.app 64 Sig.v [] l
(.cmdL (.nilT 7 10) (.loop 0 (S9 faults) I0 m0 (0,l,[]) [64,160] λ(t0:Int×List Sig×List Sig) b0 =>
(.br 18 (decide (t0.1<((faults.map Fau.v).length:Int))) (.el 18 Fau.v faults (λR=>Rf (faults.map Fau.v) (ck (decide (0≤t0.1)) (ck (decide (t0.1<(faults.length:Int)))
(∀x1,faults[t0.1.toNat]?=some x1 →
(R x1))))) λx1 =>
(.pass (.join 1 (S8 faults t0 x1) (λ(t1:Bool)=>I1 t0 x1 t1) (λb1=>(.br 146 (decide (x1.pos<0)) (.bk 1 b1 ((true):Bool) [0,1,50])
(.bk 1 b1 ((decide (((t0.2.1.map Sig.v).length:Int)≤x1.pos)):Bool) [0,1,50]))) λ(t1:Bool) =>
(.br 3 t1 (.bk 0 b0 (W (t0.1+1),t0.2.1,t0.2.2) [0,1])
(.say (ck (cond (decide (0≤x1.pos)) (decide (x1.pos<((t0.2.1.map Sig.v).length:Int))) false)) (.el 67 Sig.v t0.2.1 (λR=>Rf (t0.2.1.map Sig.v) (ck (decide (x1.pos.toNat<t0.2.1.length))
(∀x2,t0.2.1[x1.pos.toNat]?=some x2 →
(R x2)))) λx2 =>
(.say (λR=>Rf (t0.2.1.map Sig.v) (ck (decide (0<t0.2.1.length))
R)) (.sub 195 Sig.v t0.2.1 false
(.say (λR=>ck (c9 t0.2.1.length (W (x1.pos+1)) (t0.2.1.length:Int) (t0.2.1.length:Int))
((ck (decide ((W (x1.pos+1)).toNat+((t0.2.1.length:Int)-(W (x1.pos+1))).toNat≤(t0.2.1.map Sig.v).length))
(Rf (α:=List AV) [] (((((t0.2.1.map Sig.v).drop ((W (x1.pos+1)).toNat)).take (((t0.2.1.length:Int)-(W (x1.pos+1))).toNat))=((t0.2.1.drop ((W (x1.pos+1)).toNat)).take (((t0.2.1.length:Int)-(W (x1.pos+1))).toNat)).map Sig.v) ∧
(ck (decide (0+((t0.2.1.drop ((W (x1.pos+1)).toNat)).take (((t0.2.1.length:Int)-(W (x1.pos+1))).toNat)).length≤1048576))
R)))))) (.app 211 Sig.v [] ((t0.2.1.drop ((W (x1.pos+1)).toNat)).take (((t0.2.1.length:Int)-(W (x1.pos+1))).toNat))
(.br 307 (x1.kind==1) (.say (λR=>Rf (t0.2.1.map Sig.v) (ck (decide (0<t0.2.1.length))
R)) (.sub 387 Sig.v t0.2.1 false
(.say (λR=>ck (decide (x1.pos=x1.pos))
((ck (c9 t0.2.1.length 0 x1.pos x1.pos)
((Rf (α:=List AV) ((t0.2.1.take x1.pos.toNat).map Sig.v) (Rf (α:=List AV) (((t0.2.1.drop ((W (x1.pos+1)).toNat)).take (((t0.2.1.length:Int)-(W (x1.pos+1))).toNat)).map Sig.v)
(ck (decide ((t0.2.1.take x1.pos.toNat).length+((t0.2.1.drop ((W (x1.pos+1)).toNat)).take (((t0.2.1.length:Int)-(W (x1.pos+1))).toNat)).length≤1048576))
R))))))) (.app 419 Sig.v (t0.2.1.take x1.pos.toNat) ((t0.2.1.drop ((W (x1.pos+1)).toNat)).take (((t0.2.1.length:Int)-(W (x1.pos+1))).toNat))
(.bk 0 b0 (W (t0.1+1),(t0.2.1.take x1.pos.toNat)++((t0.2.1.drop ((W (x1.pos+1)).toNat)).take (((t0.2.1.length:Int)-(W (x1.pos+1))).toNat)),t0.2.2) [419,1])))))
(.br 339 (x1.kind==2) (.say (λR=>Rf (t0.2.1.map Sig.v) (ck (decide (0<t0.2.1.length))
R)) (.sub 419 Sig.v t0.2.1 false
(.say (λR=>ck (decide (x1.pos=x1.pos))
((ck (c9 t0.2.1.length 0 x1.pos x1.pos)
((Rf (α:=List AV) ((t0.2.1.take x1.pos.toNat).map Sig.v) (Rf (α:=List AV) [.agg [.int x2.kind,.int x2.src,.int x2.dst,.int x2.epoch,.int x2.ver,.int x2.prev,.int x2.pep,.int x2.grp,.int x2.mode,.sl 1 (x2.srcs.map AV.int) false],.agg [.int x2.kind,.int x2.src,.int x2.dst,.int x2.epoch,.int x2.ver,.int x2.prev,.int x2.pep,.int x2.grp,.int x2.mode,.sl 1 (x2.srcs.map AV.int) false]]
(ck (decide ((t0.2.1.take x1.pos.toNat).length+2≤1048576))
R))))))) (.app 483 Sig.v (t0.2.1.take x1.pos.toNat) [x2,x2]
(.say (λR=>Rf (α:=List AV) (((t0.2.1.take x1.pos.toNat)++[x2,x2]).map Sig.v) (Rf (α:=List AV) (((t0.2.1.drop ((W (x1.pos+1)).toNat)).take (((t0.2.1.length:Int)-(W (x1.pos+1))).toNat)).map Sig.v)
(ck (decide (((t0.2.1.take x1.pos.toNat)++[x2,x2]).length+((t0.2.1.drop ((W (x1.pos+1)).toNat)).take (((t0.2.1.length:Int)-(W (x1.pos+1))).toNat)).length≤1048576))
R))) (.app 515 Sig.v ((t0.2.1.take x1.pos.toNat)++[x2,x2]) ((t0.2.1.drop ((W (x1.pos+1)).toNat)).take (((t0.2.1.length:Int)-(W (x1.pos+1))).toNat))
(.bk 0 b0 (W (t0.1+1),((t0.2.1.take x1.pos.toNat)++[x2,x2])++((t0.2.1.drop ((W (x1.pos+1)).toNat)).take (((t0.2.1.length:Int)-(W (x1.pos+1))).toNat)),t0.2.2) [515,1])))))))
(.br 371 (x1.kind==3) (.say (λR=>Rf (t0.2.1.map Sig.v) (ck (decide (0<t0.2.1.length))
R)) (.sub 451 Sig.v t0.2.1 false
(.say (λR=>ck (decide (x1.pos=x1.pos))
((ck (c9 t0.2.1.length 0 x1.pos x1.pos)
((Rf (α:=List AV) ((t0.2.1.take x1.pos.toNat).map Sig.v) (Rf (α:=List AV) (((t0.2.1.drop ((W (x1.pos+1)).toNat)).take (((t0.2.1.length:Int)-(W (x1.pos+1))).toNat)).map Sig.v)
(ck (decide ((t0.2.1.take x1.pos.toNat).length+((t0.2.1.drop ((W (x1.pos+1)).toNat)).take (((t0.2.1.length:Int)-(W (x1.pos+1))).toNat)).length≤1048576))
R))))))) (.app 483 Sig.v (t0.2.1.take x1.pos.toNat) ((t0.2.1.drop ((W (x1.pos+1)).toNat)).take (((t0.2.1.length:Int)-(W (x1.pos+1))).toNat))
(.say (λR=>Rf (α:=List AV) (t0.2.2.map Sig.v) (Rf (α:=List AV) [.agg [.int x2.kind,.int x2.src,.int x2.dst,.int x2.epoch,.int x2.ver,.int x2.prev,.int x2.pep,.int x2.grp,.int x2.mode,.sl 1 (x2.srcs.map AV.int) false]]
(ck (decide (t0.2.2.length+1≤1048576))
R))) (.app 563 Sig.v t0.2.2 [x2]
(.bk 0 b0 (W (t0.1+1),(t0.2.1.take x1.pos.toNat)++((t0.2.1.drop ((W (x1.pos+1)).toNat)).take (((t0.2.1.length:Int)-(W (x1.pos+1))).toNat)),t0.2.2++[x2]) [483,563])))))))
(.br 403 (x1.kind==4) (.br 499 (decide ((W (x1.pos+1))<((t0.2.1.map Sig.v).length:Int))) (.say (ck (cond (decide (0≤(W (x1.pos+1)))) (decide ((W (x1.pos+1))<((t0.2.1.map Sig.v).length:Int))) false)) (.el 691 Sig.v t0.2.1 (λR=>Rf (t0.2.1.map Sig.v) (ck (decide ((W (x1.pos+1)).toNat<t0.2.1.length))
(∀x3,t0.2.1[(W (x1.pos+1)).toNat]?=some x3 →
(R x3)))) λx3 =>
(.say (ck (cond (decide (0≤x1.pos)) (decide (x1.pos<((t0.2.1.map Sig.v).length:Int))) false)) (.st 739 Sig.v t0.2.1 (λy4=>x3) (λR=>Rf (t0.2.1.map Sig.v) (ck (decide (x1.pos.toNat<t0.2.1.length))
(∀y4,t0.2.1[x1.pos.toNat]?=some y4→Rf (Sig.v x3)
((R y4))))) λy4 =>
(.say (ck (cond (decide (0≤(W (x1.pos+1)))) (decide ((W (x1.pos+1))<(((t0.2.1.set x1.pos.toNat x3).map Sig.v).length:Int))) false)) (.st 771 Sig.v (t0.2.1.set x1.pos.toNat x3) (λy5=>x2) (λR=>Rf ((t0.2.1.set x1.pos.toNat x3).map Sig.v) (ck (decide ((W (x1.pos+1)).toNat<(t0.2.1.set x1.pos.toNat x3).length))
(∀y5,(t0.2.1.set x1.pos.toNat x3)[(W (x1.pos+1)).toNat]?=some y5→Rf (Sig.v x2)
((R y5))))) λy5 =>
(.bk 0 b0 (W (t0.1+1),(t0.2.1.set x1.pos.toNat x3).set ((W (x1.pos+1)).toNat) x2,t0.2.2) [0,1])))))))
(.bk 0 b0 (W (t0.1+1),t0.2.1,t0.2.2) [0,1]))
(.bk 0 b0 (W (t0.1+1),t0.2.1,t0.2.2) [0,1])))))))))))))))
(.retH (t0.2.1,t0.2.2) ⟨[(4,.k,.vec 0),(5,.k,.vec 1)],[.vec 10 (t0.2.1.map Sig.v) (ab (λ_=>rfl) t0.2.1),.vec 10 (t0.2.2.map Sig.v) (ab (λ_=>rfl) t0.2.2)]⟩ [0,1]))))))
def Gh(l:List Sig)(faults:List Fau)(I0:(Int×List Sig×List Sig)→Prop)(m0:(Int×List Sig×List Sig)→Nat)(I1:Int×List Sig×List Sig→Fau→Bool→Prop)(r0:List Sig×List Sig):=(CZ l faults I0 m0 I1).vc vr vt r0
theorem Xg(l:List Sig)(f:List Fau)(h:EJ l f)(ok:Xi l f):∃I0 m0 I1,Gh l f I0 m0 I1 (arr l f):=by
 obtain⟨h1,h2,h3⟩:=h
 refine⟨λt=>∃k:Nat,t=((k:Int),((f.take k).foldl fR (l,[])).1,((f.take k).foldl fR (l,[])).2)∧k≤f.length,λt=>f.length-t.1.toNat,
  λt0 x t=>t=decide (x.pos<0∨(t0.2.1.length:Int)≤x.pos),?_⟩
 dsimp only[Gh,CZ,Oc,Ax.vp,Ax.vc];simp only[vcU,rfU,List.length_map]
 refine⟨by omega,⟨0,rfl,by omega⟩,?_⟩
 rintro _ ⟨k,rfl,hk⟩
 have hlen:=pR (f:=f.take k) (s:=(l,[]))
 have hst:∀x,f[k]?=some x→(f.take (k+1)).foldl fR (l,[])=fR ((f.take k).foldl fR (l,[])) x:=λx hx=>by rw[ax hx,List.foldl_append];rfl
 have hend:k=f.length→(f.take k).foldl fR (l,[])=arr l f:=λe=>by rw[e,List.take_length];rfl
 generalize (f.take k).foldl fR (l,[])=s at *
 obtain⟨now,late⟩:=s
 rw[List.length_take]at hlen
 simp only[Int.toNat_natCast,List.length_nil]at hlen ⊢
 refine⟨λa1=>⟨by omega,by omega,λx hx=>⟨⟨λc=>?_,λc=>?_⟩,?_⟩⟩,λa1=>?_⟩
 ·simp[c]
 ·exact decide_eq_decide.mpr (by omega)
 ·have e1:=hst x hx
  intro t1 ht1
  rw[av (n:=f.length) (by omega) (by omega)]
  have fin:∀a b,fR (now,late) x=(a,b)→(∃k_1:Nat,(((k+1:Nat):Int),a,b)=((k_1:Int),((f.take k_1).foldl fR (l,[])).1,((f.take k_1).foldl fR (l,[])).2)∧k_1≤f.length)∧f.length-((k+1:Nat):Int).toNat<f.length-k:=λa b e =>
   ⟨⟨k+1,by rw[e1,e],by omega⟩,by omega⟩
  refine⟨λe=>fin _ _ (if_pos (of_decide_eq_true (ht1.symm.trans e))),λe=>?_⟩
  have hb:¬(x.pos<0∨(now.length:Int)≤x.pos):=of_decide_eq_false (ht1.symm.trans e)
  have e2:fR (now,late) x=qt now late x.kind x.pos.toNat (now.getD x.pos.toNat qf):=if_neg hb
  obtain⟨n,hn⟩:∃n:Nat,x.pos=n:=⟨x.pos.toNat,by omega⟩
  rw[hn]at e2 hb ⊢
  simp only[Int.toNat_natCast]at e2 ⊢
  have hW:W ((n:Int)+1)=((n+1:Nat):Int):=by rw[bB (by omega)];omega
  rw[hW]
  simp only[Int.toNat_natCast]
  have hr:(now.drop (n+1)).take ((now.length:Int)-((n+1:Nat):Int)).toNat=now.drop (n+1):=List.take_of_length_le (by simp;omega)
  have hdl:(now.drop (n+1)).length=now.length-(n+1):=List.length_drop ..
  have htl:(now.take n).length≤n:=List.length_take_le ..
  rw[hr]
  have hbn:c9 now.length 0 (n:Int) (n:Int)=true:=by simp[c9];omega
  refine⟨by simp;omega,by omega,λy hy=>?_⟩
  rw[getD_some hy]at e2
  refine⟨by omega,by simp[c9];omega,by omega,by rw[←hr,List.map_take,List.map_drop],by omega,?_⟩
  refine⟨λc1=>⟨by omega,trivial,hbn,by omega,fin _ _ ?_⟩,λc1=>⟨λc2=>⟨by omega,trivial,hbn,by omega,by simp;omega,fin _ _ ?_⟩,λc2=>⟨λc3=>⟨by omega,trivial,hbn,by omega,by omega,fin _ _ ?_⟩,λc3=>⟨λc4=>⟨λd=>?_,λd=>fin _ _ ?_⟩,λc4=>fin _ _ ?_⟩⟩⟩⟩
  ·rw[e2,qt,if_pos (by simpa using c1)]
  ·rw[e2,qt,if_neg (by simpa using c1),if_pos (by simpa using c2)]
  ·rw[e2,qt,if_neg (by simpa using c1),if_neg (by simpa using c2),if_pos (by simpa using c3)]
  ·refine⟨by simp;omega,by omega,λz hz=>⟨by simp;omega,by omega,λu hu=>⟨by simp;omega,by simp;omega,λv hv=>fin _ _ ?_⟩⟩⟩
   rw[e2,qt,if_neg (by simpa using c1),if_neg (by simpa using c2),if_neg (by simpa using c3),if_pos (by simpa using c4),if_pos (by omega),getD_some hz]
  ·rw[e2,qt,if_neg (by simpa using c1),if_neg (by simpa using c2),if_neg (by simpa using c3),if_pos (by simpa using c4),if_neg (by omega)]
  ·rw[e2,qt,if_neg (by simpa using c1),if_neg (by simpa using c2),if_neg (by simpa using c3),if_neg (by simpa using c4)]
 ·rw[←hend (by omega)]
def Xh(l:List Sig)(faults:List Fau)(h:EJ l faults):HC Tryz.prog:=⟨60,[(.s 10),(.s 2)],[.sl 10 (l.map Sig.v) false,.sl 2 (faults.map Fau.v) false],[],vr (arr l faults),vt (arr l faults),bl.of_okh λok _=>(Xg l faults h ok).elim λI0 h=>h.elim λm0 h=>h.elim λI1 h=>cC (sh:=.k) (enc:=vr) (hB:=vt) (a:=(CZ l faults I0 m0 I1).an) h (by kernel_rfl),ai (by kernel_rfl),fk.of (by simp[hcB,cJ,AV.belB,allB,eI,dQ,vr,vt,ab (v:=Fau.v) (λ_=>rfl),ab (v:=Sig.v) (λ_=>rfl)])⟩
def ba(l:List Spk)(r:Int):Int:=match l.findIdx? λp=>decide (p.router=r)with
 | some i=>i
 | none=>-1
theorem rt{l:List Spk}{r:Int}{i:Nat}{x:Spk}(hx:l[i]?=some x)(h:x.router=r)(hb:∀y∈l.take i,y.router≠r):ba l r=i:=by
 obtain⟨hi,hxi⟩:=List.getElem?_eq_some_iff.mp hx
 have:l.findIdx? (λp=>decide (p.router=r))=some i:=by
  rw[List.findIdx?_eq_some_iff_getElem]
  refine⟨hi,by rw[hxi];simpa using h,λj hj=>?_⟩
  have:=hb l[j] (List.mem_of_getElem? (i:=j) (by rw[List.getElem?_take,if_pos hj,List.getElem?_eq_getElem (by omega)]))
  simpa using this
 unfold ba;rw[this]
theorem ru{l:List Spk}{r:Int}(hb:∀y∈l,y.router≠r):ba l r=-1:=by
 have:l.findIdx? (λp=>decide (p.router=r))=none:=by
  rw[List.findIdx?_eq_none_iff]
  intro x hx;simpa using hb x hx
 unfold ba;rw[this]
def Fo(o:Ovl)(router:Int):=okL [.agg [.sl 5 (o.sp.map Spk.v) false,.sl 3 (o.ls.map Lsn.v) false,.sl 10 (o.fl.map Sig.v) false],.int router]
def Mm(o:Ovl)(router:Int)(t0:Int):NF:=⟨[(1,.k,.int router),(8,.k,.sl 5 (o.sp.map Spk.v) false),(9,.k,.int ((o.sp.map Spk.v).length:Int)),(10,.k,.int t0)],[]⟩
@[reducible] def Fn:Nat→Type
 | 0=>Int
 | _=>Unit
def ud(r:Int):AV:=.int r
def uc(o:Ovl)(router:Int)(I0:Int→Prop)(m0:Int→Nat):Ax Tryz.prog Fn (Int):=
 (.loop 0 (Mm o router) I0 m0 ((0):Int) [] λ(t0:Int) b0 =>
(.br 16 (decide (t0<((o.sp.map Spk.v).length:Int))) (.el 32 Spk.v o.sp (λR=>Rf (o.sp.map Spk.v) (ck (decide (0≤t0)) (ck (decide (t0<(o.sp.length:Int)))
(∀x1,o.sp[t0.toNat]?=some x1 →
(R x1))))) λx1 =>
(.br 176 (x1.router==router) (.ret (t0))
(.bk 0 b0 ((W (t0+1)):Int) [])))
(.ret (-1))))
def xS(o:Ovl)(router:Int)(I0:Int→Prop)(m0:Int→Nat)(r0:Int):=(uc o router I0 m0).vp ud r0
theorem Ri(o:Ovl)(r:Int)(ok:Fo o r):∃I m,xS o r I m (ba o.sp r):=by
 unfold Fo at ok
 have hle:o.sp.length≤9223372036854775807:=by
  have h:=ok
  simp only[okL,AV.ok,List.length_map,cT]at h
  omega
 refine⟨λt=>∃k:Nat,t=k∧k≤o.sp.length∧∀x∈o.sp.take k,x.router≠r,λt=>o.sp.length-t.toNat,?_⟩
 dsimp only[xS,uc,Fn,Ax.vp,Ax.vc];simp only[vcU,rfU,List.length_map]
 refine⟨⟨0,rfl,by omega,by simp⟩,?_⟩
 rintro _ ⟨k,rfl,hk,hI⟩
 simp only[Int.toNat_natCast]
 refine⟨λh1=>⟨by omega,by omega,λx hx=>⟨λe=>?_,λe=>?_⟩⟩,λh1=>?_⟩
 ·rw[rt hx (by simpa using e) hI]
 ·rw[av (n:=o.sp.length) (by omega) (by omega)]
  exact⟨⟨k+1,rfl,by omega,(bq hx).mpr ⟨hI,by simpa using e⟩⟩,by omega⟩
 ·rw[List.take_of_length_le (by omega)]at hI
  rw[ru hI]
def kD(o:Ovl)(router:Int):PC Tryz.prog:=⟨61,[(.a [(.s 5),(.s 3),(.s 10)]),.k],[.agg [.sl 5 (o.sp.map Spk.v) false,.sl 3 (o.ls.map Lsn.v) false,.sl 10 (o.fl.map Sig.v) false],.int router],ud (ba o.sp router),ao.of_ok λok=>(Ri o router ok).elim λI0 h=>h.elim λm0 h=>aj (sh:=.k) (enc:=ud) (a:=(uc o router I0 m0).an) h (by kernel_rfl) (AV.pureB_ok rfl),ai (by kernel_rfl)⟩
theorem xR{o:Ovl}(h:bQ o)(r:Int):ba o.sp r=if r∈aJ o.sp then(bm o.sp r:Int)else -1:=by
 by_cases hr:r∈aJ o.sp
 ·rw[if_pos hr]
  obtain⟨p1,p2,p3,p4⟩:=h.1.pos hr
  refine rt p3 (h.1.s hr).2 λy hy=>?_
  obtain⟨i,hi,rfl⟩:=List.getElem_of_mem hy
  rw[List.length_take]at hi
  rw[List.getElem_take]
  have:=kr (key:=Spk.router) (l:=o.sp) (r:=r) (i:=i) (show i<bm o.sp r by omega) (by omega)
  omega
 ·rw[if_neg hr]
  exact ru λy hy e=>hr (List.mem_map.mpr ⟨y,hy,e⟩)
def WF(o:Ovl):=okL [.agg [.sl 5 (o.sp.map Spk.v) false,.sl 3 (o.ls.map Lsn.v) false,.sl 10 (o.fl.map Sig.v) false]]
def uV(r:Ovl):AV:=.agg [.vec 0,.vec 1,.vec 2]
def uW(r:Ovl):List (Option Blk):=[some (.vec 5 (r.sp.map Spk.v)),some (.vec 3 (r.ls.map Lsn.v)),some (.vec 10 (r.fl.map Sig.v))]
def C6(o:Ovl):Ax Tryz.prog noS (Ovl):=
 (.say (λR=>Rf (α:=List AV) [] (Rf (α:=List AV) (o.sp.map Spk.v)
(ck (decide (0+o.sp.length≤1048576))
R))) (.app 80 Spk.v [] o.sp
(.say (λR=>Rf (α:=List AV) [] (Rf (α:=List AV) (o.ls.map Lsn.v)
(ck (decide (0+o.ls.length≤1048576))
R))) (.app 144 Lsn.v [] o.ls
(.say (λR=>Rf (α:=List AV) [] (Rf (α:=List AV) (o.fl.map Sig.v)
(ck (decide (0+o.fl.length≤1048576))
R))) (.app 208 Sig.v [] o.fl
(.retH o ⟨[(2,.k,.ref 3 0)],[.vec 5 (o.sp.map Spk.v) (ab (λ_=>rfl) o.sp),.vec 3 (o.ls.map Lsn.v) (ab (λ_=>rfl) o.ls),.vec 10 (o.fl.map Sig.v) (ab (λ_=>rfl) o.fl),.box (.agg [.vec 0,.vec 1,.vec 2])]⟩ [80,144,208,16])))))))
def FP(o:Ovl)(r0:Ovl):=(C6 o).vc uV uW r0
theorem WE(o:Ovl)(h:o.sp.length≤1000000∧o.ls.length≤1000000∧o.fl.length≤1000000)(ok:WF o):FP o o:=by
 dsimp only[FP,C6,noS,Ax.vp,Ax.vc];simp only[vcU,rfU,List.length_map]
 exact⟨by omega,by omega,by omega,trivial⟩
def C7(o:Ovl)(h:o.sp.length≤1000000∧o.ls.length≤1000000∧o.fl.length≤1000000):HC Tryz.prog:=⟨59,[(.a [(.s 5),(.s 3),(.s 10)])],[.agg [.sl 5 (o.sp.map Spk.v) false,.sl 3 (o.ls.map Lsn.v) false,.sl 10 (o.fl.map Sig.v) false]],[],uV o,uW o,bl.of_okh λok _=>cC (sh:=.k) (enc:=uV) (hB:=uW) (a:=(C6 o).an) (WE o h ok) (by kernel_rfl),ai (by kernel_rfl),fk.of (by simp[hcB,cJ,AV.belB,allB,eI,dQ,uV,uW,ab (v:=Lsn.v) (λ_=>rfl),ab (v:=Sig.v) (λ_=>rfl),ab (v:=Spk.v) (λ_=>rfl)])⟩
theorem fD{o:Ovl}(h:¬bQ o):(1:Int)=dg o:=(if_neg h).symm
structure RefK (R:List Int) (s:Spk) (l:Lsn):Prop where
  n:s.peers.length+1=R.length
  p:∀p∈s.peers,p.router∈R
  lo:bX l
  lr:l.router=s.router
  h:∀h∈l.heard,h.router∈R
theorem gb{o:Ovl}:bQ o↔(o.sp.length≤12∧o.ls.length=o.sp.length)∧(∀i s,o.sp[i]?=some s→bc s∧(0<i→∀y,o.sp[i-1]?=some y→y.router<s.router)) ∧
  (∀(i:Nat) s l,o.sp[i]?=some s→o.ls[i]?=some l→RefK (aJ o.sp) s l)∧∀x∈o.fl,cP (aJ o.sp) x:=by
 rw[eo]
 have hmem:∀{i:Nat} {s:Spk},o.sp[i]?=some s→s.router∈aJ o.sp:=λhs=>List.mem_map.mpr ⟨_,aB hs,rfl⟩
 constructor
 ·rintro⟨h1,h2,h3,h4⟩
  have hR:(aJ o.sp).Pairwise (·<·):=(eo.mpr ⟨h1,h2,h3,h4⟩).1.ascR
  refine⟨⟨h1,h2⟩,λi s hs=>?_,λi s l hs hl=>?_,h4⟩
  ·obtain⟨l,hl⟩:∃l,o.ls[i]?=some l:=⟨_,List.getElem?_eq_getElem (by have:=ay hs;omega)⟩
   have d:=h3 i s l hs hl
   exact⟨d.fs,λhi y hy=>d.fasc hi _ (km hy)⟩
  ·have d:=h3 i s l hs hl
   obtain⟨q1,q2⟩:=(qR hR d.fs (hmem hs)).mp d.fp
   exact⟨q1,q2,d.fl,d.fr,d.fh⟩
 ·rintro⟨⟨h1,h2⟩,h3,h4,h5⟩
  have hasc:∀k:Nat,k≤o.sp.length→(o.sp.take k).Pairwise λx y=>x.router<y.router:=by
   intro k
   induction k with
   | zero=>intro _;simp
   | succ k ih =>
    intro hk
    have hs:o.sp[k]?=some o.sp[k]:=List.getElem?_eq_getElem (by omega)
    exact(mW Spk.router hs).mpr ⟨ih (by omega),(h3 k _ hs).2⟩
  have ha:=hasc o.sp.length (Nat.le_refl _)
  rw[List.take_length]at ha
  have hR:(aJ o.sp).Pairwise (·<·):=by unfold aJ;rw[List.pairwise_map];exact ha
  refine⟨h1,h2,λi s l hs hl=>?_,h5⟩
  obtain⟨a1,a2⟩:=h3 i s hs
  have b:=h4 i s l hs hl
  refine⟨a1,λhi y hy=>?_,(qR hR a1 (hmem hs)).mpr ⟨b.n,b.p⟩,b.lo,b.lr,b.h⟩
  unfold aJ at hy
  rw[List.getElem?_map]at hy
  cases hz:o.sp[i-1]? with
  | none=>rw[hz]at hy;simp at hy
  | some z =>
   rw[hz]at hy
   have hy:z.router=y:=by simpa using hy
   rw[←hy];exact a2 hi z hz
def DG(o:Ovl):=okL [.agg [.sl 5 (o.sp.map Spk.v) false,.sl 3 (o.ls.map Lsn.v) false,.sl 10 (o.fl.map Sig.v) false]]
def Jo(o:Ovl)(t0:Bool):NF:=⟨[(1,.k,.ref 0 0),(27,.k,.bool t0)],[.box (.agg [.sl 5 (o.sp.map Spk.v) false,.sl 3 (o.ls.map Lsn.v) false,.sl 10 (o.fl.map Sig.v) false])]⟩
def Jn(o:Ovl)(t1:Int×List Int):NF:=⟨[(1,.k,.ref 0 0),(3,.k,.vec 1),(29,.k,.sl 5 (o.sp.map Spk.v) false),(30,.k,.int ((o.sp.map Spk.v).length:Int)),(31,.k,.int t1.1)],[.box (.agg [.sl 5 (o.sp.map Spk.v) false,.sl 3 (o.ls.map Lsn.v) false,.sl 10 (o.fl.map Sig.v) false]),.vec 1 (t1.2.map AV.int) (ab (λ_=>rfl) t1.2)]⟩
def Jm(o:Ovl)(t1:Int×List Int)(x1:Spk)(t2:Bool):NF:=⟨[(1,.k,.ref 0 0),(3,.k,.vec 1),(5,.k,.ref 2 0),(29,.k,.sl 5 (o.sp.map Spk.v) false),(30,.k,.int ((o.sp.map Spk.v).length:Int)),(31,.k,.int t1.1),(54,.k,.bool t2)],[.box (.agg [.sl 5 (o.sp.map Spk.v) false,.sl 3 (o.ls.map Lsn.v) false,.sl 10 (o.fl.map Sig.v) false]),.vec 1 (t1.2.map AV.int) (ab (λ_=>rfl) t1.2),.box (.agg [.int x1.router,.int x1.epoch,.int x1.last,.sl 4 (x1.items.map Itm.v) false,.sl 3 (x1.peers.map Per.v) false])]⟩
def Jl(o:Ovl)(t1:Int×List Int)(t3:Int):NF:=⟨[(1,.k,.ref 0 0),(3,.k,.vec 1),(62,.k,.sl 5 (o.sp.map Spk.v) false),(63,.k,.int ((o.sp.map Spk.v).length:Int)),(64,.k,.int t3)],[.box (.agg [.sl 5 (o.sp.map Spk.v) false,.sl 3 (o.ls.map Lsn.v) false,.sl 10 (o.fl.map Sig.v) false]),.vec 1 (t1.2.map AV.int) (ab (λ_=>rfl) t1.2)]⟩
def Jk(o:Ovl)(t1:Int×List Int)(t3:Int)(x3:Spk)(t4:Int):NF:=⟨[(1,.k,.ref 0 0),(3,.k,.vec 1),(6,.k,.int t3),(7,.k,.ref 2 0),(62,.k,.sl 5 (o.sp.map Spk.v) false),(63,.k,.int ((o.sp.map Spk.v).length:Int)),(64,.k,.int t3),(77,.k,.sl 3 (x3.peers.map Per.v) false),(78,.k,.int ((x3.peers.map Per.v).length:Int)),(79,.k,.int t4)],[.box (.agg [.sl 5 (o.sp.map Spk.v) false,.sl 3 (o.ls.map Lsn.v) false,.sl 10 (o.fl.map Sig.v) false]),.vec 1 (t1.2.map AV.int) (ab (λ_=>rfl) t1.2),.box (.agg [.int x3.router,.int x3.epoch,.int x3.last,.sl 4 (x3.items.map Itm.v) false,.sl 3 (x3.peers.map Per.v) false])]⟩
def Jj(o:Ovl)(t1:Int×List Int)(t3:Int)(x5:Lsn)(t5:Bool):NF:=⟨[(1,.k,.ref 0 0),(3,.k,.vec 1),(10,.k,.ref 2 0),(62,.k,.sl 5 (o.sp.map Spk.v) false),(63,.k,.int ((o.sp.map Spk.v).length:Int)),(64,.k,.int t3),(103,.k,.bool t5)],[.box (.agg [.sl 5 (o.sp.map Spk.v) false,.sl 3 (o.ls.map Lsn.v) false,.sl 10 (o.fl.map Sig.v) false]),.vec 1 (t1.2.map AV.int) (ab (λ_=>rfl) t1.2),.box (.agg [.int x5.router,.int x5.epoch,.sl 4 (x5.heard.map Hrd.v) false])]⟩
def Ji(o:Ovl)(t1:Int×List Int)(t3:Int)(x5:Lsn)(t6:Int):NF:=⟨[(1,.k,.ref 0 0),(3,.k,.vec 1),(62,.k,.sl 5 (o.sp.map Spk.v) false),(63,.k,.int ((o.sp.map Spk.v).length:Int)),(64,.k,.int t3),(105,.k,.sl 4 (x5.heard.map Hrd.v) false),(106,.k,.int ((x5.heard.map Hrd.v).length:Int)),(107,.k,.int t6)],[.box (.agg [.sl 5 (o.sp.map Spk.v) false,.sl 3 (o.ls.map Lsn.v) false,.sl 10 (o.fl.map Sig.v) false]),.vec 1 (t1.2.map AV.int) (ab (λ_=>rfl) t1.2)]⟩
def Jh(o:Ovl)(t1:Int×List Int)(t7:Int):NF:=⟨[(3,.k,.vec 0),(119,.k,.sl 10 (o.fl.map Sig.v) false),(120,.k,.int ((o.fl.map Sig.v).length:Int)),(121,.k,.int t7)],[.vec 1 (t1.2.map AV.int) (ab (λ_=>rfl) t1.2)]⟩
def Jg(o:Ovl)(t1:Int×List Int)(t7:Int)(t8:Bool):NF:=⟨[(3,.k,.vec 0),(119,.k,.sl 10 (o.fl.map Sig.v) false),(120,.k,.int ((o.fl.map Sig.v).length:Int)),(121,.k,.int t7),(141,.k,.bool t8)],[.vec 1 (t1.2.map AV.int) (ab (λ_=>rfl) t1.2)]⟩
@[reducible] def DF:Nat→Type
 | 0=>Bool
 | 1=>Int×List Int
 | 2=>Bool
 | 3=>Int
 | 4=>Int
 | 5=>Bool
 | 6=>Int
 | 7=>Int
 | 8=>Bool
 | _=>Unit
def s9(r:Int):AV:=.int r
def sy(o:Ovl)(I0:Bool→Prop)(I1:Bool→(Int×List Int)→Prop)(m1:Bool→(Int×List Int)→Nat)(I2:Bool→Int×List Int→Spk→Bool→Prop)(I3:Bool→Int×List Int→Int→Prop)(m3:Bool→Int×List Int→Int→Nat)(I4:Bool→Int×List Int→Int→Spk→Int→Prop)(m4:Bool→Int×List Int→Int→Spk→Int→Nat)(I5:Bool→Int×List Int→Int→Spk→Int→Lsn→Bool→Prop)(I6:Bool→Int×List Int→Int→Spk→Int→Lsn→Bool→Int→Prop)(m6:Bool→Int×List Int→Int→Spk→Int→Lsn→Bool→Int→Nat)(I7:Bool→Int×List Int→Int→Int→Prop)(m7:Bool→Int×List Int→Int→Int→Nat)(I8:Bool→Int×List Int→Int→Int→Sig→Bool→Prop):Ax Tryz.prog DF (Int):=
 (.pass (.pass (.join 0 (Jo o) (λ(t0:Bool)=>I0 t0) (λb0=>(.br 112 (decide (12<((o.sp.map Spk.v).length:Int))) (.bk 0 b0 ((true):Bool) [0])
(.bk 0 b0 ((((o.ls.map Lsn.v).length:Int) != ((o.sp.map Spk.v).length:Int)):Bool) [0]))) λ(t0:Bool) =>
(.br 1 t0 (.ret (1))
(.cmdL (.nilT 3 1) (.loop 1 (Jn o) (I1 t0) (m1 t0) (0,[]) [0,81] λ(t1:Int×List Int) b1 =>
(.br 18 (decide (t1.1<((o.sp.map Spk.v).length:Int))) (.el 34 Spk.v o.sp (λR=>Rf (o.sp.map Spk.v) (ck (decide (0≤t1.1)) (ck (decide (t1.1<(o.sp.length:Int)))
(∀x1,o.sp[t1.1.toNat]?=some x1 →
(R x1))))) λx1 =>
(.pass (.join 2 (Jm o t1 x1) (λ(t2:Bool)=>I2 t0 t1 x1 t2) (λb2=>(.callP (jk x1)
(.br 178 ((dK x1) != 0) (.bk 2 b2 ((true):Bool) [0,1,66])
(.br 226 (decide (0<t1.1)) (.el 290 Spk.v o.sp (λR=>Rf (o.sp.map Spk.v) (ck (decide (0≤(W (t1.1-1)))) (ck (decide ((W (t1.1-1))<(o.sp.length:Int)))
(∀x2,o.sp[(W (t1.1-1)).toNat]?=some x2 →
(R x2))))) λx2 =>
(.bk 2 b2 ((decide (x1.router≤x2.router)):Bool) [0,1,66]))
(.bk 2 b2 ((false):Bool) [0,1,66]))))) λ(t2:Bool) =>
(.br 3 t2 (.ret (1))
(.say (λR=>Rf (α:=List AV) (t1.2.map AV.int) (Rf (α:=List AV) [.int x1.router]
(ck (decide (t1.2.length+1≤1048576))
R))) (.app 67 AV.int t1.2 [x1.router]
(.bk 1 b1 (W (t1.1+1),t1.2++[x1.router]) [0,67])))))))
(.loop 3 (Jl o t1) (I3 t0 t1) (m3 t0 t1) ((0):Int) [0,1] λ(t3:Int) b3 =>
(.br 18 (decide (t3<((o.sp.map Spk.v).length:Int))) (.el 34 Spk.v o.sp (λR=>Rf (o.sp.map Spk.v) (ck (decide (0≤t3)) (ck (decide (t3<(o.sp.length:Int)))
(∀x3,o.sp[t3.toNat]?=some x3 →
(R x3))))) λx3 =>
(.br 226 (((x3.peers.map Per.v).length:Int) != (W (((t1.2.map AV.int).length:Int)-1))) (.ret (1))
(.loop 4 (Jk o t1 t3 x3) (I4 t0 t1 t3 x3) (m4 t0 t1 t3 x3) ((0):Int) [0,1,66] λ(t4:Int) b4 =>
(.br 19 (decide (t4<((x3.peers.map Per.v).length:Int))) (.el 19 Per.v x3.peers (λR=>Rf (x3.peers.map Per.v) (ck (decide (0≤t4)) (ck (decide (t4<(x3.peers.length:Int)))
(∀x4,x3.peers[t4.toNat]?=some x4 →
(R x4))))) λx4 =>
(.callP (zu t1.2 x4.router)
(.say (ck (bK [(t1.2.map AV.int)])) (.br 163 (!(InI t1.2 x4.router)) (.ret (1))
(.bk 4 b4 ((W (t4+1)):Int) [0,1,2])))))
(.el 67 Lsn.v o.ls (λR=>Rf (o.ls.map Lsn.v) (ck (decide (0≤t3)) (ck (decide (t3<(o.ls.length:Int)))
(∀x5,o.ls[t3.toNat]?=some x5 →
(R x5))))) λx5 =>
(.pass (.join 5 (Jj o t1 t3 x5) (λ(t5:Bool)=>I5 t0 t1 t3 x3 t4 x5 t5) (λb5=>(.callP (sD x5)
(.br 195 ((fU x5) != 0) (.bk 5 b5 ((true):Bool) [0,1,99])
(.bk 5 b5 ((x5.router != x3.router):Bool) [0,1,99])))) λ(t5:Bool) =>
(.br 3 t5 (.ret (1))
(.loop 6 (Ji o t1 t3 x5) (I6 t0 t1 t3 x3 t4 x5 t5) (m6 t0 t1 t3 x3 t4 x5 t5) ((0):Int) [0,1] λ(t6:Int) b6 =>
(.br 18 (decide (t6<((x5.heard.map Hrd.v).length:Int))) (.el 18 Hrd.v x5.heard (λR=>Rf (x5.heard.map Hrd.v) (ck (decide (0≤t6)) (ck (decide (t6<(x5.heard.length:Int)))
(∀x6,x5.heard[t6.toNat]?=some x6 →
(R x6))))) λx6 =>
(.callP (zu t1.2 x6.router)
(.say (ck (bK [(t1.2.map AV.int)])) (.br 162 (!(InI t1.2 x6.router)) (.ret (1))
(.bk 6 b6 ((W (t6+1)):Int) [0,1])))))
(.bk 3 b3 ((W (t3+1)):Int) [0,1])))))))))))
(.loop 7 (Jh o t1) (I7 t0 t1 t3) (m7 t0 t1 t3) ((0):Int) [1] λ(t7:Int) b7 =>
(.br 17 (decide (t7<((o.fl.map Sig.v).length:Int))) (.el 17 Sig.v o.fl (λR=>Rf (o.fl.map Sig.v) (ck (decide (0≤t7)) (ck (decide (t7<(o.fl.length:Int)))
(∀x7,o.fl[t7.toNat]?=some x7 →
(R x7))))) λx7 =>
(.join 8 (Jg o t1 t7) (λ(t8:Bool)=>I8 t0 t1 t3 t7 x7 t8) (λb8=>(.callP (sO x7)
(.br 145 ((aL x7) != 0) (.bk 8 b8 ((true):Bool) [0])
(.callP (zu t1.2 x7.src)
(.say (ck (bK [(t1.2.map AV.int)])) (.br 257 (!(InI t1.2 x7.src)) (.bk 8 b8 ((true):Bool) [0])
(.callP (zu t1.2 x7.dst)
(.say (ck (bK [(t1.2.map AV.int)])) (.bk 8 b8 ((!(InI t1.2 x7.dst)):Bool) [0]))))))))) λ(t8:Bool) =>
(.br 1 t8 (.ret (1))
(.bk 7 b7 ((W (t7+1)):Int) [0]))))
(.ret (0)))))))))))))
def vY(o:Ovl)(I0:Bool→Prop)(I1:Bool→(Int×List Int)→Prop)(m1:Bool→(Int×List Int)→Nat)(I2:Bool→Int×List Int→Spk→Bool→Prop)(I3:Bool→Int×List Int→Int→Prop)(m3:Bool→Int×List Int→Int→Nat)(I4:Bool→Int×List Int→Int→Spk→Int→Prop)(m4:Bool→Int×List Int→Int→Spk→Int→Nat)(I5:Bool→Int×List Int→Int→Spk→Int→Lsn→Bool→Prop)(I6:Bool→Int×List Int→Int→Spk→Int→Lsn→Bool→Int→Prop)(m6:Bool→Int×List Int→Int→Spk→Int→Lsn→Bool→Int→Nat)(I7:Bool→Int×List Int→Int→Int→Prop)(m7:Bool→Int×List Int→Int→Int→Nat)(I8:Bool→Int×List Int→Int→Int→Sig→Bool→Prop)(r0:Int):=(sy o I0 I1 m1 I2 I3 m3 I4 m4 I5 I6 m6 I7 m7 I8).vp s9 r0
theorem Pd(o:Ovl)(ok:DG o):∃I0 I1 m1 I2 I3 m3 I4 m4 I5 I6 m6 I7 m7 I8,vY o I0 I1 m1 I2 I3 m3 I4 m4 I5 I6 m6 I7 m7 I8 (dg o):=by
 unfold DG at ok
 obtain⟨l1,l2,l3⟩:=wU ok
 refine⟨λt=>t=false↔(o.sp.length≤12∧o.ls.length=o.sp.length),
  λ_ t=>∃k:Nat,t=((k:Int),aJ (o.sp.take k))∧k≤o.sp.length∧∀i s,i<k→o.sp[i]?=some s→bc s∧(0<i→∀y,o.sp[i-1]?=some y→y.router<s.router),λ_ t=>o.sp.length-t.1.toNat,
  λ_ t1 x t=>t=false↔(bc x∧(0<t1.1.toNat→∀y,o.sp[t1.1.toNat-1]?=some y→y.router<x.router)),
  λ_ _ t=>∃k:Nat,t=k∧k≤o.sp.length∧∀i s l,i<k→o.sp[i]?=some s→o.ls[i]?=some l→RefK (aJ o.sp) s l,λ_ _ t=>o.sp.length-t.toNat,
  λ_ _ _ x t=>∃j:Nat,t=j∧j≤x.peers.length∧∀p∈x.peers.take j,p.router∈aJ o.sp,λ_ _ _ x t=>x.peers.length-t.toNat,
  λ_ _ _ x _ y t=>t=false↔(bX y∧y.router=x.router),
  λ_ _ _ _ _ y _ t=>∃k:Nat,t=k∧k≤y.heard.length∧∀h∈y.heard.take k,h.router∈aJ o.sp,λ_ _ _ _ _ y _ t=>y.heard.length-t.toNat,
  λ_ _ _ t=>∃k:Nat,t=k∧k≤o.fl.length∧∀x∈o.fl.take k,cP (aJ o.sp) x,λ_ _ _ t=>o.fl.length-t.toNat,
  λ_ _ _ _ x t=>t=false↔cP (aJ o.sp) x,?_⟩
 dsimp only[vY,sy,DF,Ax.vp,Ax.vc];simp only[vcU,rfU,List.length_map]
 refine⟨⟨λh1=>by simp;omega,λh1=>by simp;omega⟩,?_⟩
 intro t0 h0
 refine⟨λe=>?_,λe=>?_⟩
 ·subst e
  exact fD λq=>by have:=h0.mpr (gb.mp q).1;simp at this
 obtain⟨n1,n2⟩:=h0.mp e
 have hR:(aJ o.sp).length=o.sp.length:=eT
 refine⟨⟨0,rfl,by omega,λi s hi=>by omega⟩,?_⟩
 rintro _ ⟨k,rfl,hk,hI⟩
 simp only[Int.toNat_natCast]
 refine⟨λh1=>⟨by omega,by omega,λx hx=>⟨⟨λa1=>?_,λa1=>⟨λa2=>⟨?_,?_,λy hy=>?_⟩,λa2=>?_⟩⟩,?_⟩⟩,λh1=>⟨⟨0,rfl,by omega,λi s l hi=>by omega⟩,?_⟩⟩
 ·have a1:¬dK x=0:=by simpa using a1
  rw[kY]at a1
  simp[a1]
 ·rw[bB (by omega)];omega
 ·rw[bB (by omega)];omega
 ·have a1:dK x=0:=by simpa using a1
  have e3:(W ((k:Int)-1)).toNat=k-1:=by rw[bB (by omega)];omega
  rw[e3]at hy
  rw[kY]at a1
  rw[hy]
  simp only[Option.some.injEq,forall_eq',decide_eq_false_iff_not]
  exact⟨λq=>⟨a1,λ_=>by omega⟩,λq=>by have:=q.2 (by omega);omega⟩
 ·have a1:dK x=0:=by simpa using a1
  rw[kY]at a1
  simp only[true_iff]
  exact⟨a1,λq=>by omega⟩
 ·intro t2 h2
  refine⟨λe=>?_,λe=>⟨by rw[eT];simp;omega,⟨k+1,?_,by omega,λi s hi hs=>?_⟩,?_⟩⟩
  ·subst e
   exact fD λq=>by
    have d:=(gb.mp q).2.1 k x hx
    have:=h2.mpr d
    simp at this
  ·rw[av (n:=o.sp.length) (by omega) (by omega),ax hx];simp[aJ]
  ·by_cases ei:i=k
   ·subst ei
    rw[hx]at hs;cases hs
    exact h2.mp e
   ·exact hI i s (by omega) hs
  ·rw[av (n:=o.sp.length) (by omega) (by omega)];omega
 ·have hk:k=o.sp.length:=by omega
  have eR:aJ (o.sp.take k)=aJ o.sp:=by rw[hk,List.take_length]
  rw[eR]
  have hI:∀i s,o.sp[i]?=some s→bc s∧(0<i→∀y,o.sp[i-1]?=some y→y.router<s.router):=λi s hs=>hI i s (by have:=ay hs;omega) hs
  have hL:bK [(aJ o.sp).map AV.int]=true:=iJ (ab (λ_=>rfl) _)
  clear eR
  rintro _ ⟨k,rfl,hk,hK⟩
  simp only[Int.toNat_natCast,InI]
  refine⟨λb1=>⟨by omega,by omega,λx hx=>⟨λc1=>?_,λc1=>⟨⟨0,rfl,by omega,by simp⟩,?_⟩⟩⟩,λb1=>⟨⟨0,rfl,by omega,by simp⟩,?_⟩⟩
  ·obtain⟨l,hl⟩:∃l,o.ls[k]?=some l:=⟨_,List.getElem?_eq_getElem (by omega)⟩
   refine fD λq=>?_
   have d:=((gb.mp q).2.2.1 k x l hx hl).n
   rw[bB (by omega)]at c1
   simp at c1
   omega
  ·have hn:x.peers.length+1=(aJ o.sp).length:=by
    rw[bB (by omega)]at c1
    simp at c1
    omega
   have hs:=hI k x hx
   have hxp:=hs.1.2.2.2.2.1
   rintro _ ⟨j,rfl,hj,hJ⟩
   simp only[Int.toNat_natCast]
   refine⟨λd1=>⟨by omega,by omega,λp hp=>⟨hL,λd2=>?_,λd2=>?_⟩⟩,λd1=>⟨by omega,by omega,λy hy=>⟨⟨λf1=>?_,λf1=>?_⟩,?_⟩⟩⟩
   ·have d2:¬p.router∈aJ o.sp:=by simpa using d2
    obtain⟨l,hl⟩:∃l,o.ls[k]?=some l:=⟨_,List.getElem?_eq_getElem (by omega)⟩
    exact fD λq=>d2 (((gb.mp q).2.2.1 k x l hx hl).p p (aB hp))
   ·rw[av (n:=x.peers.length) (by omega) (by omega)]
    exact⟨⟨j+1,rfl,by omega,iB hp hJ (by simpa using d2)⟩,by omega⟩
   ·have f1:¬fU y=0:=by simpa using f1
    rw[sA]at f1
    simp[f1]
   ·have f1:fU y=0:=by simpa using f1
    rw[sA]at f1
    simp[f1]
   ·intro t5 h5
    have ej:j=x.peers.length:=by omega
    rw[ej,List.take_length]at hJ
    refine⟨λe=>?_,λe=>⟨⟨0,rfl,by omega,by simp⟩,?_⟩⟩
    ·subst e
     exact fD λq=>by
      have d:=(gb.mp q).2.2.1 k x y hx hy
      have:=h5.mpr ⟨d.lo,d.lr⟩
      simp at this
    obtain⟨g1,g2⟩:=h5.mp e
    have hh:=g1.2.2.1
    rintro _ ⟨m,rfl,hm,hM⟩
    simp only[Int.toNat_natCast]
    refine⟨λd1=>⟨by omega,by omega,λz hz=>⟨hL,λd2=>?_,λd2=>?_⟩⟩,λd1=>?_⟩
    ·have d2:¬z.router∈aJ o.sp:=by simpa using d2
     exact fD λq=>d2 (((gb.mp q).2.2.1 k x y hx hy).h z (aB hz))
    ·rw[av (n:=y.heard.length) (by omega) (by omega)]
     exact⟨⟨m+1,rfl,by omega,iB hz hM (by simpa using d2)⟩,by omega⟩
    ·have em:m=y.heard.length:=by omega
     rw[em,List.take_length]at hM
     rw[av (n:=o.sp.length) (by omega) (by omega)]
     refine⟨⟨k+1,rfl,by omega,λi s l hi hs' hl'=>?_⟩,by omega⟩
     by_cases ei:i=k
     ·subst ei
      rw[hx]at hs';rw[hy]at hl'
      cases hs';cases hl'
      exact⟨hn,hJ,g1,g2,hM⟩
     ·exact hK i s l (by omega) hs' hl'
  ·rintro _ ⟨j,rfl,hj,hJ⟩
   simp only[Int.toNat_natCast]
   refine⟨λc1=>⟨by omega,by omega,λx hx=>⟨⟨λa1=>?_,λa1=>⟨hL,λa2=>?_,λa2=>⟨hL,?_⟩⟩⟩,?_⟩⟩,λc1=>?_⟩
   ·have a1:¬aL x=0:=by simpa using a1
    simp[cP,a1]
   ·have a2:¬x.src∈aJ o.sp:=by simpa using a2
    simp[cP,a2]
   ·have a1:aL x=0:=by simpa using a1
    have a2:x.src∈aJ o.sp:=by simpa using a2
    simp[cP,a1,a2]
   ·intro t6 h6
    refine⟨λe=>?_,λe=>?_⟩
    ·subst e
     exact fD λq=>by have:=h6.mpr ((gb.mp q).2.2.2 x (aB hx));simp at this
    ·rw[av (n:=o.fl.length) (by omega) (by omega)]
     exact⟨⟨j+1,rfl,by omega,iB hx hJ (h6.mp e)⟩,by omega⟩
   ·have hj:j=o.fl.length:=by omega
    rw[hj,List.take_length]at hJ
    exact(if_pos (gb.mpr ⟨⟨n1,n2⟩,hI,λi s l hs hl=>hK i s l (by have:=ay hs;omega) hs hl,hJ⟩)).symm
def jl(o:Ovl):PC Tryz.prog:=⟨58,[(.a [(.s 5),(.s 3),(.s 10)])],[.agg [.sl 5 (o.sp.map Spk.v) false,.sl 3 (o.ls.map Lsn.v) false,.sl 10 (o.fl.map Sig.v) false]],s9 (dg o),ao.of_ok λok=>(Pd o ok).elim λI0 h=>h.elim λI1 h=>h.elim λm1 h=>h.elim λI2 h=>h.elim λI3 h=>h.elim λm3 h=>h.elim λI4 h=>h.elim λm4 h=>h.elim λI5 h=>h.elim λI6 h=>h.elim λm6 h=>h.elim λI7 h=>h.elim λm7 h=>h.elim λI8 h=>aj (sh:=.k) (enc:=s9) (a:=(sy o I0 I1 m1 I2 I3 m3 I4 m4 I5 I6 m6 I7 m7 I8).an) h (by kernel_rfl) (AV.pureB_ok rfl),ai (by kernel_rfl)⟩
theorem sw{o:Ovl}:dg o=0↔bQ o:=by
 unfold dg;by_cases h:bQ o<;>simp[h]
theorem oZ{o:Ovl}(h:bQ o){r:Int}(hr:r∈aJ o.sp):ba o.sp r=(bm o.sp r:Int):=by rw[xR h,if_pos hr]
theorem ij{o:Ovl}(h:bQ o){r:Int}:ba o.sp r<0↔r ∉ aJ o.sp:=by
 rw[xR h]
 split
 ·rename_i hr;simp[hr]
 ·rename_i hr;simp[hr]
def So(o:Ovl)(router:Int)(wants:List Wnt):=okL [.agg [.sl 5 (o.sp.map Spk.v) false,.sl 3 (o.ls.map Lsn.v) false,.sl 10 (o.fl.map Sig.v) false],.int router,.sl 3 (wants.map Wnt.v) false]
def vk(r:Ovl×Int):AV:=.tup [Ovl.v r.1,.int r.2]
def vj(o:Ovl)(router:Int)(wants:List Wnt):Ax Tryz.prog noS (Ovl×Int):=
 (.callP (jl o)
(.br 128 ((dg o) != 0) (.ret ((⟨[],[],[]⟩:Ovl),dg o))
(.callP (kD o router)
(.br 224 (decide ((ba o.sp router)<0)) (.ret ((⟨[],[],[]⟩:Ovl),4))
(.callP (kZ wants)
(.br 304 ((bh false wants) != 0) (.ret ((⟨[],[],[]⟩:Ovl),bh false wants))
(.el 352 Spk.v o.sp (λR=>Rf (o.sp.map Spk.v) (ck (decide (0≤(ba o.sp router))) (ck (decide ((ba o.sp router)<(o.sp.length:Int)))
(∀x1,o.sp[(ba o.sp router).toNat]?=some x1 →
(R x1))))) λx1 =>
(.callP (ny x1.items)
(.callP (Sl (aM x1.items) wants)
(.br 560 (((am (aM x1.items) wants).2) != 0) (.ret ((⟨[],[],[]⟩:Ovl),(am (aM x1.items) wants).2))
(.el 608 Spk.v o.sp (λR=>Rf (o.sp.map Spk.v) (ck (decide (0≤(ba o.sp router))) (ck (decide ((ba o.sp router)<(o.sp.length:Int)))
(∀x2,o.sp[(ba o.sp router).toNat]?=some x2 →
(R x2))))) λx2 =>
(.callP (Ir x2 ((am (aM x1.items) wants).1))
(.br 800 (((change x2 ((am (aM x1.items) wants).1)).2) != 0) (.ret ((⟨[],[],[]⟩:Ovl),(change x2 ((am (aM x1.items) wants).1)).2))
(.req 816 (o.sp.length≤1000000∧o.ls.length≤1000000∧o.fl.length≤1000000) λh3 =>
(.callH [] (C7 o h3) 816
(.say (ck (cond (decide (0≤(ba o.sp router))) (decide ((ba o.sp router)<((o.sp.map Spk.v).length:Int))) false)) (.st 944 Spk.v o.sp (λy4=>((change x2 ((am (aM x1.items) wants).1)).1)) (λR=>Rf (o.sp.map Spk.v) (ck (decide ((ba o.sp router).toNat<o.sp.length))
(∀y4,o.sp[(ba o.sp router).toNat]?=some y4→Rf (Spk.v ((change x2 ((am (aM x1.items) wants).1)).1))
((R y4))))) λy4 =>
(.say (Rf (o.fl.map Sig.v)) (.cmdL (.frzE 818 (o.fl.map Sig.v) (ab (λ_=>rfl) o.fl)) (.say (Rf (o.ls.map Lsn.v)) (.cmdL (.frzE 817 (o.ls.map Lsn.v) (ab (λ_=>rfl) o.ls)) (.say (Rf ((o.sp.set ((ba o.sp router).toNat) ((change x2 ((am (aM x1.items) wants).1)).1)).map Spk.v)) (.cmdL (.frzE 816 ((o.sp.set ((ba o.sp router).toNat) ((change x2 ((am (aM x1.items) wants).1)).1)).map Spk.v) (ab (λ_=>rfl) (o.sp.set ((ba o.sp router).toNat) ((change x2 ((am (aM x1.items) wants).1)).1)))) (.ret ((⟨o.sp.set ((ba o.sp router).toNat) ((change x2 ((am (aM x1.items) wants).1)).1),o.ls,o.fl⟩:Ovl),0)))))))))))))))))))))))))
def yZ(o:Ovl)(router:Int)(wants:List Wnt)(r0:Ovl×Int):=(vj o router wants).vp vk r0
theorem Sn(o:Ovl)(r:Int)(w:List Wnt)(h:o.fl.length≤1000000)(ok:So o r w):yZ o r w (bT o r w):=by
 dsimp only[yZ,vj,noS,Ax.vp,Ax.vc];simp only[vcU,rfU,List.length_map]
 unfold bT
 by_cases h1:bQ o
 case neg =>
  have:dg o=1:=if_neg h1
  rw[if_pos h1,this];simp[iz]
 rw[if_neg (not_not_intro h1),sw.mpr h1]
 have hL:=h1.1.lens
 refine⟨λq=>by simp at q,λ_=>⟨λq=>?_,λq=>?_⟩⟩
 ·rw[if_pos ((ij h1).mp q)];rfl
 have h2:r∈aJ o.sp:=Classical.not_not.mp λc=>q ((ij h1).mpr c)
 obtain⟨p1,p2,p3,p4⟩:=E3 h1 h2
 rw[if_neg (not_not_intro h2),oZ h1 h2]
 simp only[Int.toNat_natCast]
 refine⟨λc=>?_,λc=>⟨by omega,by omega,λx hx=>?_⟩⟩
 ·rw[if_pos (by simpa using c)];rfl
 rw[if_neg (by simpa using c)]
 cases p3.symm.trans hx
 refine⟨λc=>?_,λc=>⟨by omega,by omega,λy hy=>?_⟩⟩
 ·rw[if_pos (by simpa using c)];rfl
 rw[if_neg (by simpa using c)]
 cases p3.symm.trans hy
 refine⟨λd=>?_,λd=>?_⟩
 ·rw[if_pos (by simpa using d)];rfl
 rw[if_neg (by simpa using d)]
 exact⟨⟨by omega,by omega,h⟩,by simp;omega,by omega,λz hz=>rfl⟩
def vl(o:Ovl)(router:Int)(wants:List Wnt)(h:o.fl.length≤1000000):PC Tryz.prog:=⟨33,[(.a [(.s 5),(.s 3),(.s 10)]),.k,(.s 3)],[.agg [.sl 5 (o.sp.map Spk.v) false,.sl 3 (o.ls.map Lsn.v) false,.sl 10 (o.fl.map Sig.v) false],.int router,.sl 3 (wants.map Wnt.v) false],vk (bT o router wants),ao.of_ok λok=>aj (sh:=(.a [(.a [(.s 5),(.s 3),(.s 10)]),.k])) (enc:=vk) (a:=(vj o router wants).an) (Sn o router wants h ok) (by kernel_rfl) (AV.pureB_ok rfl),ai (by kernel_rfl)⟩
def PX(o:Ovl)(router:Int)(wants:List Wnt):=okL [.agg [.sl 5 (o.sp.map Spk.v) false,.sl 3 (o.ls.map Lsn.v) false,.sl 10 (o.fl.map Sig.v) false],.int router,.sl 3 (wants.map Wnt.v) false]
def tg(r:Ovl×Int):AV:=.tup [Ovl.v r.1,.int r.2]
def tf(o:Ovl)(router:Int)(wants:List Wnt):Ax Tryz.prog noS (Ovl×Int):=
 (.callP (jl o)
(.br 128 ((dg o) != 0) (.ret ((⟨[],[],[]⟩:Ovl),dg o))
(.callP (kD o router)
(.br 224 (decide ((ba o.sp router)<0)) (.ret ((⟨[],[],[]⟩:Ovl),4))
(.el 272 Spk.v o.sp (λR=>Rf (o.sp.map Spk.v) (ck (decide (0≤(ba o.sp router))) (ck (decide ((ba o.sp router)<(o.sp.length:Int)))
(∀x1,o.sp[(ba o.sp router).toNat]?=some x1 →
(R x1))))) λx1 =>
(.callP (A8 x1 wants)
(.br 464 (((bR x1 wants).2) != 0) (.ret ((⟨[],[],[]⟩:Ovl),(bR x1 wants).2))
(.el 512 Lsn.v o.ls (λR=>Rf (o.ls.map Lsn.v) (ck (decide (0≤(ba o.sp router))) (ck (decide ((ba o.sp router)<(o.ls.length:Int)))
(∀x2,o.ls[(ba o.sp router).toNat]?=some x2 →
(R x2))))) λx2 =>
(.br 576 (decide (1000000≤x2.epoch)) (.ret ((⟨[],[],[]⟩:Ovl),3))
(.req 592 (o.sp.length≤1000000∧o.ls.length≤1000000∧o.fl.length≤1000000) λh3 =>
(.callH [] (C7 o h3) 592
(.say (ck (cond (decide (0≤(ba o.sp router))) (decide ((ba o.sp router)<((o.sp.map Spk.v).length:Int))) false)) (.st 720 Spk.v o.sp (λy4=>((bR x1 wants).1)) (λR=>Rf (o.sp.map Spk.v) (ck (decide ((ba o.sp router).toNat<o.sp.length))
(∀y4,o.sp[(ba o.sp router).toNat]?=some y4→Rf (Spk.v ((bR x1 wants).1))
((R y4))))) λy4 =>
(.el 848 Lsn.v o.ls (λR=>Rf (o.ls.map Lsn.v) (ck (decide (0≤(ba o.sp router))) (ck (decide ((ba o.sp router)<(o.ls.length:Int)))
(∀x5,o.ls[(ba o.sp router).toNat]?=some x5 →
(R x5))))) λx5 =>
(.say (ck (cond (decide (0≤(ba o.sp router))) (decide ((ba o.sp router)<((o.ls.map Lsn.v).length:Int))) false)) (.stI 944 Lsn.v o.ls (λR=>Rf (o.ls.map Lsn.v) (ck (decide ((ba o.sp router).toNat<o.ls.length))
(∀y6,o.ls[(ba o.sp router).toNat]?=some y6 →
((R y6))))) λy6 =>
(.say (λR=>Rf (α:=List AV) ((o.ls.map Lsn.v).set ((ba o.sp router).toNat) (.agg [.int router,.int (W (x5.epoch+1)),.sl 0 [] true])) (Rf (Lsn.v (⟨router,W (x5.epoch+1),[]⟩:Lsn))
R)) (.cmd (.wkS 593 ((ba o.sp router).toNat) (.a [.k,.k,(.s 4)]) Lsn.v o.ls (.agg [.int router,.int (W (x5.epoch+1)),.sl 0 [] true]) (⟨router,W (x5.epoch+1),[]⟩:Lsn)) (.say (Rf (o.fl.map Sig.v)) (.cmdL (.frzE 594 (o.fl.map Sig.v) (ab (λ_=>rfl) o.fl)) (.say (Rf ((o.ls.set ((ba o.sp router).toNat) (⟨router,W (x5.epoch+1),[]⟩:Lsn)).map Lsn.v)) (.cmdL (.frzE 593 ((o.ls.set ((ba o.sp router).toNat) (⟨router,W (x5.epoch+1),[]⟩:Lsn)).map Lsn.v) (ab (λ_=>rfl) (o.ls.set ((ba o.sp router).toNat) (⟨router,W (x5.epoch+1),[]⟩:Lsn)))) (.say (Rf ((o.sp.set ((ba o.sp router).toNat) ((bR x1 wants).1)).map Spk.v)) (.cmdL (.frzE 592 ((o.sp.set ((ba o.sp router).toNat) ((bR x1 wants).1)).map Spk.v) (ab (λ_=>rfl) (o.sp.set ((ba o.sp router).toNat) ((bR x1 wants).1)))) (.ret ((⟨o.sp.set ((ba o.sp router).toNat) ((bR x1 wants).1),o.ls.set ((ba o.sp router).toNat) (⟨router,W (x5.epoch+1),[]⟩:Lsn),o.fl⟩:Ovl),0))))))))))))))))))))))))))
def wC(o:Ovl)(router:Int)(wants:List Wnt)(r0:Ovl×Int):=(tf o router wants).vp tg r0
theorem PV(o:Ovl)(r:Int)(w:List Wnt)(h:o.fl.length≤1000000)(ok:PX o r w):wC o r w (dN o r w):=by
 dsimp only[wC,tf,noS,Ax.vp,Ax.vc];simp only[vcU,rfU,List.length_map]
 unfold dN
 by_cases h1:bQ o
 case neg =>
  have:dg o=1:=if_neg h1
  rw[if_pos h1,this];simp[iz]
 rw[if_neg (not_not_intro h1),sw.mpr h1]
 have hL:=h1.1.lens
 refine⟨λq=>by simp at q,λ_=>⟨λq=>?_,λq=>?_⟩⟩
 ·rw[if_pos ((ij h1).mp q)];rfl
 have h2:r∈aJ o.sp:=Classical.not_not.mp λc=>q ((ij h1).mpr c)
 obtain⟨p1,p2,p3,p4⟩:=E3 h1 h2
 have he:=(h1.1.lso _ (aB p4)).1.2.1
 rw[if_neg (not_not_intro h2),oZ h1 h2]
 simp only[Int.toNat_natCast]
 refine⟨by omega,by omega,λx hx=>?_⟩
 cases p3.symm.trans hx
 refine⟨λc=>?_,λc=>⟨by omega,by omega,λy hy=>?_⟩⟩
 ·rw[if_pos (by simpa using c)];rfl
 rw[if_neg (by simpa using c)]
 cases p4.symm.trans hy
 refine⟨λd=>?_,λd=>?_⟩
 ·rw[if_pos (by omega)];rfl
 rw[if_neg (by omega)]
 refine⟨⟨by omega,by omega,h⟩,by simp;omega,by omega,λz hz=>⟨by omega,by omega,λu hu=>⟨by simp;omega,by omega,λv hv=>?_⟩⟩⟩
 cases p4.symm.trans hu
 rw[bB (by omega)]
def PW(o:Ovl)(router:Int)(wants:List Wnt)(h:o.fl.length≤1000000):PC Tryz.prog:=⟨83,[(.a [(.s 5),(.s 3),(.s 10)]),.k,(.s 3)],[.agg [.sl 5 (o.sp.map Spk.v) false,.sl 3 (o.ls.map Lsn.v) false,.sl 10 (o.fl.map Sig.v) false],.int router,.sl 3 (wants.map Wnt.v) false],tg (dN o router wants),ao.of_ok λok=>aj (sh:=(.a [(.a [(.s 5),(.s 3),(.s 10)]),.k])) (enc:=tg) (a:=(tf o router wants).an) (PV o router wants h ok) (by kernel_rfl) (AV.pureB_ok rfl),ai (by kernel_rfl)⟩
theorem UN{R:List Int}{sp sp':List Spk}{ls ls':List Lsn}(h:bt R sp ls)(h':bt R sp' ls')(r:Int):bm sp r=bm sp' r:=
 eH (key:=Spk.router) (key':=Spk.router) (h.spr.trans h'.spr.symm) r
def Qe(o:Ovl)(faults:List Fau):=okL [.agg [.sl 5 (o.sp.map Spk.v) false,.sl 3 (o.ls.map Lsn.v) false,.sl 10 (o.fl.map Sig.v) false],.sl 2 (faults.map Fau.v) false]
def K2(o:Ovl)(faults:List Fau)(t0:Int×List Spk×List Sig×List Lsn):NF:=⟨[(2,.k,.ref 0 0),(4,.k,.ref 1 0),(7,.k,.ref 2 0),(41,.k,.vec 6),(42,.k,.int ((((arr o.fl faults).1).map Sig.v).length:Int)),(43,.k,.int t0.1)],[.box (.agg [.sl 5 (o.sp.map Spk.v) false,.sl 3 (o.ls.map Lsn.v) false,.sl 10 (o.fl.map Sig.v) false]),.box (.agg [.sl 0 [] true,.sl 0 [] true,.sl 0 [] true]),.box (.agg [.vec 3,.vec 4,.vec 5]),.vec 5 (t0.2.1.map Spk.v) (ab (λ_=>rfl) t0.2.1),.vec 3 (t0.2.2.2.map Lsn.v) (ab (λ_=>rfl) t0.2.2.2),.vec 10 (t0.2.2.1.map Sig.v) (ab (λ_=>rfl) t0.2.2.1),.vec 10 (((arr o.fl faults).1).map Sig.v) (ab (λ_=>rfl) ((arr o.fl faults).1))]⟩
def K1(t0:Int×List Spk×List Sig×List Lsn)(t1:Int×List Sig):NF:=⟨[(4,.k,.ref 0 0),(7,.k,.ref 1 0),(97,.k,.vec 2),(98,.k,.int ((t0.2.1.map Spk.v).length:Int)),(99,.k,.int t1.1)],[.box (.agg [.sl 0 [] true,.sl 0 [] true,.sl 0 [] true]),.box (.agg [.vec 2,.vec 3,.vec 4]),.vec 5 (t0.2.1.map Spk.v) (ab (λ_=>rfl) t0.2.1),.vec 3 (t0.2.2.2.map Lsn.v) (ab (λ_=>rfl) t0.2.2.2),.vec 10 (t1.2.map Sig.v) (ab (λ_=>rfl) t1.2)]⟩
def K0(t0:Int×List Spk×List Sig×List Lsn)(t1:Int×List Sig)(x8:Spk)(t2:Int×List Sig):NF:=⟨[(4,.k,.ref 0 0),(7,.k,.ref 1 0),(19,.k,.ref 5 0),(97,.k,.vec 2),(98,.k,.int ((t0.2.1.map Spk.v).length:Int)),(99,.k,.int t1.1),(104,.k,.sl 3 (x8.peers.map Per.v) false),(105,.k,.int ((x8.peers.map Per.v).length:Int)),(106,.k,.int t2.1)],[.box (.agg [.sl 0 [] true,.sl 0 [] true,.sl 0 [] true]),.box (.agg [.vec 2,.vec 3,.vec 4]),.vec 5 (t0.2.1.map Spk.v) (ab (λ_=>rfl) t0.2.1),.vec 3 (t0.2.2.2.map Lsn.v) (ab (λ_=>rfl) t0.2.2.2),.vec 10 (t2.2.map Sig.v) (ab (λ_=>rfl) t2.2),.box (.agg [.int x8.router,.int x8.epoch,.int x8.last,.sl 4 (x8.items.map Itm.v) false,.sl 3 (x8.peers.map Per.v) false])]⟩
@[reducible] def th:Nat→Type
 | 0=>Int×List Spk×List Sig×List Lsn
 | 1=>Int×List Sig
 | 2=>Int×List Sig
 | _=>Unit
def ti(r:Ovl×Int):AV:=.tup [Ovl.v r.1,.int r.2]
def mU(o:Ovl)(faults:List Fau)(I0:(Int×List Spk×List Sig×List Lsn)→Prop)(m0:(Int×List Spk×List Sig×List Lsn)→Nat)(I1:Int×List Spk×List Sig×List Lsn→(Int×List Sig)→Prop)(m1:Int×List Spk×List Sig×List Lsn→(Int×List Sig)→Nat)(I2:Int×List Spk×List Sig×List Lsn→Int×List Sig→Spk→(Int×List Sig)→Prop)(m2:Int×List Spk×List Sig×List Lsn→Int×List Sig→Spk→(Int×List Sig)→Nat):Ax Tryz.prog th (Ovl×Int):=
 (.callP (jl o)
(.br 128 ((dg o) != 0) (.ret ((⟨[],[],[]⟩:Ovl),dg o))
(.req 144 (o.sp.length≤1000000∧o.ls.length≤1000000∧o.fl.length≤1000000) λh1 =>
(.callH [] (C7 o h1) 144
(.req 240 (EJ o.fl faults) λh2 =>
(.callH [] (Xh o.fl faults h2) 240
(.loop 0 (K2 o faults) I0 m0 (0,o.sp,(arr o.fl faults).2,o.ls) [0,16,160,144,145,241,240] λ(t0:Int×List Spk×List Sig×List Lsn) b0 =>
(.br 23 (decide (t0.1<((((arr o.fl faults).1).map Sig.v).length:Int))) (.say (ck (cond (decide (0≤t0.1)) (decide (t0.1<((((arr o.fl faults).1).map Sig.v).length:Int))) false)) (.el 39 Sig.v ((arr o.fl faults).1) (λR=>Rf (((arr o.fl faults).1).map Sig.v) (ck (decide (t0.1.toNat<((arr o.fl faults).1).length))
(∀x3,((arr o.fl faults).1)[t0.1.toNat]?=some x3 →
(R x3)))) λx3 =>
(.callP (kD o x3.dst)
(.br 215 (x3.kind==3) (.say (ck (cond (decide (0≤(ba o.sp x3.dst))) (decide ((ba o.sp x3.dst)<((t0.2.1.map Spk.v).length:Int))) false)) (.el 279 Spk.v t0.2.1 (λR=>Rf (t0.2.1.map Spk.v) (ck (decide ((ba o.sp x3.dst).toNat<t0.2.1.length))
(∀x4,t0.2.1[(ba o.sp x3.dst).toNat]?=some x4 →
(R x4)))) λx4 =>
(.callP (Xq x4 x3)
(.br 455 (((ack x4 x3).2)==0) (.say (ck (cond (decide (0≤(ba o.sp x3.dst))) (decide ((ba o.sp x3.dst)<((t0.2.1.map Spk.v).length:Int))) false)) (.st 535 Spk.v t0.2.1 (λy5=>((ack x4 x3).1)) (λR=>Rf (t0.2.1.map Spk.v) (ck (decide ((ba o.sp x3.dst).toNat<t0.2.1.length))
(∀y5,t0.2.1[(ba o.sp x3.dst).toNat]?=some y5→Rf (Spk.v ((ack x4 x3).1))
((R y5))))) λy5 =>
(.bk 0 b0 (W (t0.1+1),t0.2.1.set ((ba o.sp x3.dst).toNat) ((ack x4 x3).1),t0.2.2.1,t0.2.2.2) [0,1,2,3,4,5,6])))
(.bk 0 b0 (W (t0.1+1),t0.2.1,t0.2.2.1,t0.2.2.2) [0,1,2,3,4,5,6])))))
(.say (ck (cond (decide (0≤(ba o.sp x3.dst))) (decide ((ba o.sp x3.dst)<((t0.2.2.2.map Lsn.v).length:Int))) false)) (.el 279 Lsn.v t0.2.2.2 (λR=>Rf (t0.2.2.2.map Lsn.v) (ck (decide ((ba o.sp x3.dst).toNat<t0.2.2.2.length))
(∀x6,t0.2.2.2[(ba o.sp x3.dst).toNat]?=some x6 →
(R x6)))) λx6 =>
(.callP (Rr x6 x3)
(.br 503 (((eV x6 x3).2)==0) (.say (ck (cond (decide (0≤(ba o.sp x3.dst))) (decide ((ba o.sp x3.dst)<((t0.2.2.2.map Lsn.v).length:Int))) false)) (.st 583 Lsn.v t0.2.2.2 (λy7=>((eV x6 x3).1.1)) (λR=>Rf (t0.2.2.2.map Lsn.v) (ck (decide ((ba o.sp x3.dst).toNat<t0.2.2.2.length))
(∀y7,t0.2.2.2[(ba o.sp x3.dst).toNat]?=some y7→Rf (Lsn.v ((eV x6 x3).1.1))
((R y7))))) λy7 =>
(.say (λR=>Rf (α:=List AV) (t0.2.2.1.map Sig.v) (Rf (α:=List AV) [(Sig.v ((eV x6 x3).1.2))]
(ck (decide (t0.2.2.1.length+1≤1048576))
R))) (.app 663 Sig.v t0.2.2.1 [(eV x6 x3).1.2]
(.bk 0 b0 (W (t0.1+1),t0.2.1,t0.2.2.1++[(eV x6 x3).1.2],t0.2.2.2.set ((ba o.sp x3.dst).toNat) ((eV x6 x3).1.1)) [0,1,2,3,4,663,6])))))
(.bk 0 b0 (W (t0.1+1),t0.2.1,t0.2.2.1,t0.2.2.2) [0,1,2,3,4,5,6])))))))))
(.loop 1 (K1 t0) (I1 t0) (m1 t0) (0,t0.2.2.1) [1,2,3,4,5] λ(t1:Int×List Sig) b1 =>
(.br 21 (decide (t1.1<((t0.2.1.map Spk.v).length:Int))) (.say (ck (cond (decide (0≤t1.1)) (decide (t1.1<((t0.2.1.map Spk.v).length:Int))) false)) (.el 37 Spk.v t0.2.1 (λR=>Rf (t0.2.1.map Spk.v) (ck (decide (t1.1.toNat<t0.2.1.length))
(∀x8,t0.2.1[t1.1.toNat]?=some x8 →
(R x8)))) λx8 =>
(.loop 2 (K0 t0 t1 x8) (I2 t0 t1 x8) (m2 t0 t1 x8) (0,t1.2) [0,1,2,3,4,53] λ(t2:Int×List Sig) b2 =>
(.br 22 (decide (t2.1<((x8.peers.map Per.v).length:Int))) (.el 22 Per.v x8.peers (λR=>Rf (x8.peers.map Per.v) (ck (decide (0≤t2.1)) (ck (decide (t2.1<(x8.peers.length:Int)))
(∀x9,x8.peers[t2.1.toNat]?=some x9 →
(R x9))))) λx9 =>
(.callP (PF x8 x9.router)
(.say (λR=>Rf (α:=List AV) (t2.2.map Sig.v) (Rf (α:=List AV) (((send x8 x9.router).1).map Sig.v)
(ck (decide (t2.2.length+((send x8 x9.router).1).length≤1048576))
R))) (.app 278 Sig.v t2.2 ((send x8 x9.router).1)
(.bk 2 b2 (W (t2.1+1),t2.2++((send x8 x9.router).1)) [0,1,2,3,278,5])))))
(.bk 1 b1 (W (t1.1+1),t2.2) [0,1,2,3,4])))))
(.say (Rf (t1.2.map Sig.v)) (.cmdL (.frzE 4 (t1.2.map Sig.v) (ab (λ_=>rfl) t1.2)) (.say (Rf (t0.2.2.2.map Lsn.v)) (.cmdL (.frzE 3 (t0.2.2.2.map Lsn.v) (ab (λ_=>rfl) t0.2.2.2)) (.say (Rf (t0.2.1.map Spk.v)) (.cmdL (.frzE 2 (t0.2.1.map Spk.v) (ab (λ_=>rfl) t0.2.1)) (.ret ((⟨t0.2.1,t0.2.2.2,t1.2⟩:Ovl),0))))))))))))))))))
def oh(o:Ovl)(faults:List Fau)(I0:(Int×List Spk×List Sig×List Lsn)→Prop)(m0:(Int×List Spk×List Sig×List Lsn)→Nat)(I1:Int×List Spk×List Sig×List Lsn→(Int×List Sig)→Prop)(m1:Int×List Spk×List Sig×List Lsn→(Int×List Sig)→Nat)(I2:Int×List Spk×List Sig×List Lsn→Int×List Sig→Spk→(Int×List Sig)→Prop)(m2:Int×List Spk×List Sig×List Lsn→Int×List Sig→Spk→(Int×List Sig)→Nat)(r0:Ovl×Int):=(mU o faults I0 m0 I1 m1 I2 m2).vp ti r0
theorem Qd(o:Ovl)(f:List Fau)(h:qU o f)(ok:Qe o f):∃I0 m0 I1 m1 I2 m2,oh o f I0 m0 I1 m1 I2 m2 (bH o f):=by
 obtain⟨h1,h2⟩:=h
 by_cases hv:bQ o
 case neg =>
  refine⟨λ_=>True,λ_=>0,λ_ _=>True,λ_ _=>0,λ_ _ _ _=>True,λ_ _ _ _=>0,?_⟩
  have e:bH o f=(iz,1):=if_pos hv
  have e2:dg o=1:=if_neg hv
  rw[e]
  dsimp only[oh,mU,th,Ax.vp,Ax.vc];simp only[vcU,rfU,List.length_map]
  simp[e2,iz]
 have hn:=hv.1
 obtain⟨hnow,hlate⟩:=Gf (P:=cP (aJ o.sp)) (f:=f) hv.2
 have hlen:=Gg (l:=o.fl) (f:=f)
 have e:bH o f=(lp o (arr o.fl f).1 (arr o.fl f).2,0):=if_neg (not_not_intro hv)
 rw[e]
 have hA:EJ o.fl f:=⟨by omega,h2,λx hx=>JP (hv.2 x hx).1⟩
 refine⟨λt=>∃k:Nat,t=((k:Int),(((arr o.fl f).1.take k).foldl aR ((o.sp,o.ls),(arr o.fl f).2)).1.1,(((arr o.fl f).1.take k).foldl aR ((o.sp,o.ls),(arr o.fl f).2)).2,(((arr o.fl f).1.take k).foldl aR ((o.sp,o.ls),(arr o.fl f).2)).1.2)∧k≤(arr o.fl f).1.length,
  λt=>(arr o.fl f).1.length-t.1.toNat,
  λt0 t=>∃j:Nat,t=((j:Int),t0.2.2.1++(t0.2.1.take j).flatMap iD)∧j≤t0.2.1.length,λt0 t=>t0.2.1.length-t.1.toNat,
  λt0 t1 x t=>∃i:Nat,t=((i:Int),t1.2++(x.peers.take i).flatMap λp=>(send x p.router).1)∧i≤x.peers.length,λt0 t1 x t=>x.peers.length-t.1.toNat,?_⟩
 dsimp only[oh,mU,th,Ax.vp,Ax.vc];simp only[vcU,rfU,List.length_map]
 generalize (arr o.fl f).1=now at *
 generalize (arr o.fl f).2=late at *
 have hLo:=hn.lens
 refine⟨λq=>by rw[sw.mpr hv]at q;simp at q,λ_=>⟨⟨by omega,by omega,by omega⟩,hA,⟨0,rfl,by omega⟩,?_⟩⟩
 rintro _ ⟨k,rfl,hk⟩
 have d:=iZ (l:=now.take k) (s:=((o.sp,o.ls),late)) hn λx hx=>hnow x (List.mem_of_mem_take hx)
 have dl:=ip (l:=now.take k) (s:=((o.sp,o.ls),late))
 have hst:∀x,now[k]?=some x→(now.take (k+1)).foldl aR ((o.sp,o.ls),late)=aR ((now.take k).foldl aR ((o.sp,o.ls),late)) x:=λx hx=>by rw[ax hx,List.foldl_append];rfl
 have hend:k=now.length→lp o now late=⟨((now.take k).foldl aR ((o.sp,o.ls),late)).1.1,((now.take k).foldl aR ((o.sp,o.ls),late)).1.2,((now.take k).foldl aR ((o.sp,o.ls),late)).2++jB ((now.take k).foldl aR ((o.sp,o.ls),late)).1.1⟩:=λe=>by rw[e,List.take_length];rfl
 generalize (now.take k).foldl aR ((o.sp,o.ls),late)=s at *
 obtain⟨⟨sp,ls⟩,out⟩:=s
 have dn:=d.net
 simp only at dn
 obtain⟨n1,n2⟩:=dn.lens
 rw[List.length_take]at dl
 simp only[Int.toNat_natCast]at dl ⊢
 refine⟨λa1=>⟨by simp;omega,by omega,λx hx=>?_⟩,λa1=>⟨⟨0,by simp,by omega⟩,?_⟩⟩
 ·have e1:=hst x hx
  have hxi:=(hnow x (aB hx)).2.2
  obtain⟨p1,p2,p3,p4⟩:=dn.pos hxi
  rw[av (n:=now.length) (by omega) (by omega),oZ hv hxi,UN hn dn]
  simp only[Int.toNat_natCast]
  have fin:∀a b c,aR ((sp,ls),out) x=((a,c),b)→(∃k_1:Nat,(((k+1:Nat):Int),a,b,c)=((k_1:Int),((now.take k_1).foldl aR ((o.sp,o.ls),late)).1.1,((now.take k_1).foldl aR ((o.sp,o.ls),late)).2,((now.take k_1).foldl aR ((o.sp,o.ls),late)).1.2)∧k_1≤now.length)∧now.length-((k+1:Nat):Int).toNat<now.length-k:=λa b c e =>
   ⟨⟨k+1,by rw[e1,e],by omega⟩,by omega⟩
  refine⟨λc1=>⟨by simp;omega,by omega,λy hy=>⟨λc2=>⟨by simp;omega,by omega,λz hz=>fin _ _ _ ?_⟩,λc2=>fin _ _ _ ?_⟩⟩,λc1=>⟨by simp;omega,by omega,λy hy=>⟨λc2=>⟨by simp;omega,by omega,λz hz=>⟨by omega,fin _ _ _ ?_⟩⟩,λc2=>fin _ _ _ ?_⟩⟩⟩
  ·cases p3.symm.trans hy
   unfold aR;rw[if_pos (by simpa using c1),if_pos (by simpa using c2)]
  ·cases p3.symm.trans hy
   unfold aR;rw[if_pos (by simpa using c1),if_neg (by simpa using c2)]
  ·cases p4.symm.trans hy
   unfold aR;rw[if_neg (by simpa using c1),if_pos (by simpa using c2)]
  ·cases p4.symm.trans hy
   unfold aR;rw[if_neg (by simpa using c1),if_neg (by simpa using c2)]
 ·have he:=hend (by omega)
  rintro _ ⟨j,rfl,hj⟩
  have hsj:((sp.take j).flatMap iD).length≤14400:=by
   have:((sp.take j).flatMap iD).length≤(sp.take j).length * 1200:=flat_len λs hs=>by
    have:(iD s).length≤s.peers.length * 100:=flat_len λp _=>mR
    have:=(dn.spo s (List.mem_of_mem_take hs)).1.2.2.2.2.1
    omega
   rw[List.length_take]at this
   omega
  simp only[Int.toNat_natCast]
  refine⟨λb1=>⟨by simp;omega,by omega,λx hx=>⟨⟨0,by simp,by omega⟩,?_⟩⟩,λb1=>?_⟩
  ·have hxp:=(dn.spo x (aB hx)).1.2.2.2.2.1
   rintro _ ⟨i,rfl,hi⟩
   have hpi:((x.peers.take i).flatMap λp=>(send x p.router).1).length≤1200:=by
    have:((x.peers.take i).flatMap λp=>(send x p.router).1).length≤(x.peers.take i).length * 100:=flat_len λp _=>mR
    rw[List.length_take]at this
    omega
   simp only[Int.toNat_natCast]
   refine⟨λc1=>⟨by omega,by omega,λp hp=>⟨?_,⟨i+1,?_,by omega⟩,?_⟩⟩,λc1=>⟨⟨j+1,?_,by omega⟩,?_⟩⟩
   ·have:=mR (s:=x) (to:=p.router)
    simp only[List.length_append];omega
   ·rw[av (n:=x.peers.length) (by omega) (by omega),flat_take hp];simp
   ·rw[av (n:=x.peers.length) (by omega) (by omega)];omega
   ·have ei:i=x.peers.length:=by omega
    rw[av (n:=sp.length) (by omega) (by omega),flat_take hx,ei,List.take_length]
    simp[iD]
   ·rw[av (n:=sp.length) (by omega) (by omega)];omega
  ·have ej:j=sp.length:=by omega
   rw[ej,List.take_length,he]
   rfl
def mV(o:Ovl)(faults:List Fau)(h:qU o faults):PC Tryz.prog:=⟨17,[(.a [(.s 5),(.s 3),(.s 10)]),(.s 2)],[.agg [.sl 5 (o.sp.map Spk.v) false,.sl 3 (o.ls.map Lsn.v) false,.sl 10 (o.fl.map Sig.v) false],.sl 2 (faults.map Fau.v) false],ti (bH o faults),ao.of_ok λok=>(Qd o faults h ok).elim λI0 h=>h.elim λm0 h=>h.elim λI1 h=>h.elim λm1 h=>h.elim λI2 h=>h.elim λm2 h=>aj (sh:=(.a [(.a [(.s 5),(.s 3),(.s 10)]),.k])) (enc:=ti) (a:=(mU o faults I0 m0 I1 m1 I2 m2).an) h (by kernel_rfl) (AV.pureB_ok rfl),ai (by kernel_rfl)⟩
def QY(o:Ovl)(at_:Int)(of_:Int):=okL [.agg [.sl 5 (o.sp.map Spk.v) false,.sl 3 (o.ls.map Lsn.v) false,.sl 10 (o.fl.map Sig.v) false],.int at_,.int of_]
def LK(o:Ovl)(at_:Int)(of_:Int)(t0:Bool):NF:=⟨[(2,.k,.int of_),(3,.k,.ref 0 0),(9,.k,.int (ba o.sp at_)),(10,.k,.int (ba o.sp of_)),(27,.k,.bool t0)],[.box (.agg [.sl 5 (o.sp.map Spk.v) false,.sl 3 (o.ls.map Lsn.v) false,.sl 10 (o.fl.map Sig.v) false])]⟩
@[reducible] def EZ:Nat→Type
 | 0=>Bool
 | _=>Unit
def tW(r:List Wnt×Int):AV:=.tup [.sl 3 (r.1.map Wnt.v) false,.int r.2]
def tV(o:Ovl)(at_:Int)(of_:Int)(I0:Bool→Prop):Ax Tryz.prog EZ (List Wnt×Int):=
 (.callP (jl o)
(.br 128 ((dg o) != 0) (.ret ([],dg o))
(.callP (kD o at_)
(.callP (kD o of_)
(.pass (.join 0 (LK o at_ of_) (λ(t0:Bool)=>I0 t0) (λb0=>(.br 304 (decide ((ba o.sp at_)<0)) (.bk 0 b0 ((true):Bool) [0])
(.bk 0 b0 ((decide ((ba o.sp of_)<0)):Bool) [0]))) λ(t0:Bool) =>
(.br 1 t0 (.ret ([],4))
(.br 49 ((ba o.sp at_)==(ba o.sp of_)) (.el 97 Spk.v o.sp (λR=>Rf (o.sp.map Spk.v) (ck (decide (0≤(ba o.sp of_))) (ck (decide ((ba o.sp of_)<(o.sp.length:Int)))
(∀x1,o.sp[(ba o.sp of_).toNat]?=some x1 →
(R x1))))) λx1 =>
(.callP (ny x1.items)
(.ret (aM x1.items,0))))
(.el 97 Lsn.v o.ls (λR=>Rf (o.ls.map Lsn.v) (ck (decide (0≤(ba o.sp at_))) (ck (decide ((ba o.sp at_)<(o.ls.length:Int)))
(∀x2,o.ls[(ba o.sp at_).toNat]?=some x2 →
(R x2))))) λx2 =>
(.callP (LM x2 of_)
(.ret (dW x2 of_,0))))))))))))
def xC(o:Ovl)(at_:Int)(of_:Int)(I0:Bool→Prop)(r0:List Wnt×Int):=(tV o at_ of_ I0).vp tW r0
theorem QW(o:Ovl)(a b:Int)(ok:QY o a b):∃I0,xC o a b I0 (bJ o a b):=by
 refine⟨λt=>t=decide (a ∉ aJ o.sp∨b ∉ aJ o.sp),?_⟩
 dsimp only[xC,tV,EZ,Ax.vp,Ax.vc];simp only[vcU,rfU,List.length_map]
 have hV:bJ o a b=if ¬bQ o then([],1)else if a ∉ aJ o.sp∨b ∉ aJ o.sp then([],4)else if a=b then(aM (atS o.sp b).items,0)else(dW (atL o.sp o.ls a) b,0):=rfl
 rw[hV]
 by_cases hv:bQ o
 case neg =>
  have e2:dg o=1:=if_neg hv
  simp[hv,e2]
 have hL:=hv.1.lens
 rw[if_neg (not_not_intro hv),sw.mpr hv]
 refine⟨λq=>by simp at q,λ_=>⟨⟨λc=>?_,λc=>?_⟩,?_⟩⟩
 ·have c:=(ij hv).mp c
  simp[c]
 ·have c:a∈aJ o.sp:=Classical.not_not.mp λq=>c ((ij hv).mpr q)
  refine decide_eq_decide.mpr ?_
  rw[ij hv];simp[c]
 ·rintro _ rfl
  refine⟨λc=>?_,λc=>?_⟩
  ·rw[if_pos (of_decide_eq_true c)]
  have c:=of_decide_eq_false c
  rw[if_neg c]
  have ha:a∈aJ o.sp:=by simp only[not_or,Classical.not_not]at c;exact c.1
  have hb:b∈aJ o.sp:=by simp only[not_or,Classical.not_not]at c;exact c.2
  obtain⟨p1,p2,p3,p4⟩:=hv.1.pos ha
  obtain⟨u1,u2,u3,u4⟩:=hv.1.pos hb
  rw[oZ hv ha,oZ hv hb]
  simp only[Int.toNat_natCast]
  refine⟨λq=>⟨by omega,by omega,λx hx=>?_⟩,λq=>⟨by omega,by omega,λx hx=>?_⟩⟩
  ·have q:a=b:=(E2 hv ha hb).mp (by have:=eq_of_beq q;omega)
   cases u3.symm.trans hx
   rw[if_pos q]
  ·have q:¬a=b:=λe=>by rw[e]at q;simp at q
   cases p4.symm.trans hx
   rw[if_neg q]
def QX(o:Ovl)(at_:Int)(of_:Int):PC Tryz.prog:=⟨72,[(.a [(.s 5),(.s 3),(.s 10)]),.k,.k],[.agg [.sl 5 (o.sp.map Spk.v) false,.sl 3 (o.ls.map Lsn.v) false,.sl 10 (o.fl.map Sig.v) false],.int at_,.int of_],tW (bJ o at_ of_),ao.of_ok λok=>(QW o at_ of_ ok).elim λI0 h=>aj (sh:=(.a [(.s 3),.k])) (enc:=tW) (a:=(tV o at_ of_ I0).an) h (by kernel_rfl) (AV.pureB_ok rfl),ai (by kernel_rfl)⟩
def p9(l:List Int)(i:Nat):List Int:=l.take i++l.drop (i+1)
def iy(l:List Int)(i:Nat)(r:Int):Spk:=⟨r,1,0,[],(p9 l i).map λx=>⟨x,0,0⟩⟩
theorem HV{l:List Int}(h:l.Pairwise (·<·)){i:Nat}{r:Int}(hr:l[i]?=some r):p9 l i=cW l r:=by
 obtain⟨hi,e⟩:=List.getElem?_eq_some_iff.mp hr
 have hl:l=l.take i++r::l.drop (i+1):=by
  rw[←e,List.getElem_cons_drop,List.take_append_drop]
 have h1:∀x∈l.take i,x≠r:=λx hx q=>by
  rw[hl,List.pairwise_append]at h
  have:=h.2.2 x hx r (by simp);omega
 have h2:∀x∈l.drop (i+1),x≠r:=λx hx q=>by
  rw[hl,List.pairwise_append,List.pairwise_cons]at h
  have:=h.2.1.1 x hx;omega
 unfold p9 cW
 conv=>rhs;rw[hl]
 rw[List.filter_append,List.filter_cons_of_neg (by simp),List.filter_eq_self.mpr λx hx=>by simpa using h1 x hx,List.filter_eq_self.mpr λx hx=>by simpa using h2 x hx]
theorem DW{l:List Int}(h:okR l){i:Nat}{r:Int}(hr:l[i]?=some r):iy l i r=lf l r:=by
 unfold iy lf
 rw[HV h.2.2 hr];rfl
theorem EP{l:List Int}(h:okR l):(⟨l.mapIdx (iy l),l.map mH,[]⟩:Ovl)=iM l:=by
 have:l.mapIdx (iy l)=l.map (lf l):=by
  refine List.ext_getElem (by simp) λi h1 h2=>?_
  rw[List.getElem_mapIdx,List.getElem_map]
  exact DW h (List.getElem?_eq_getElem (by simpa using h1))
 rw[this];rfl
theorem Ly(l:List Int):bQ ⟨l.mapIdx (iy l),l.map mH,[]⟩↔okR l:=by
 have er:aJ (l.mapIdx (iy l))=l:=by
  unfold aJ
  refine List.ext_getElem (by simp) λi h1 h2=>?_
  simp[iy]
 constructor
 ·rintro⟨h,_⟩
  simp only[er]at h
  refine⟨h.len,λr hr=>?_,h.ascR⟩
  obtain⟨i,hi,rfl⟩:=List.getElem_of_mem hr
  have:=(h.spo (iy l i l[i]) (List.mem_mapIdx.mpr ⟨i,hi,rfl⟩)).1.1
  exact this
 ·intro h
  rw[EP h]
  exact(Hr l).mpr h
theorem new_M(l:List Int)(i:Nat)(r:Int):new r 1 (p9 l i)=if bc (iy l i r)then(iy l i r,0)else(fc,1):=rfl
def QD(routers:List Int):=okL [.sl 1 (routers.map AV.int) false]
abbrev bZ(routers:List Int):=(routers.take ((routers.length:Int).toNat))
def Lx(routers:List Int)(t0:Int×List Lsn×List Spk):NF:=⟨[(0,.k,.sl 1 (routers.map AV.int) false),(2,.k,.ref 0 0),(4,.k,.ref 1 0),(14,.k,.sl 1 (routers.map AV.int) false),(15,.k,.int ((routers.map AV.int).length:Int)),(16,.k,.int t0.1)],[.box (.agg [.sl 0 [] true,.sl 0 [] true,.sl 0 [] true]),.box (.agg [.vec 2,.vec 3,.sl 0 [] true]),.vec 5 (t0.2.2.map Spk.v) (ab (λ_=>rfl) t0.2.2),.vec 3 (t0.2.1.map Lsn.v) (ab (λ_=>rfl) t0.2.1)]⟩
@[reducible] def EO:Nat→Type
 | 0=>Int×List Lsn×List Spk
 | _=>Unit
def tL(r:Ovl×Int):AV:=.tup [Ovl.v r.1,.int r.2]
def tK(routers:List Int)(I0:(Int×List Lsn×List Spk)→Prop)(m0:(Int×List Lsn×List Spk)→Nat):Ax Tryz.prog EO (Ovl×Int):=
 (.br 96 (decide (12<((routers.map AV.int).length:Int))) (.ret ((⟨[],[],[]⟩:Ovl),1))
(.cmdL (.nilB 32 0 5) (.cmdL (.nilB 32 1 3) (.loop 0 (Lx routers) I0 m0 (0,[],[]) [0,32,144,145] λ(t0:Int×List Lsn×List Spk) b0 =>
(.br 20 (decide (t0.1<((routers.map AV.int).length:Int))) (.el 36 AV.int routers (λR=>Rf (routers.map AV.int) (ck (decide (0≤t0.1)) (ck (decide (t0.1<(routers.length:Int)))
(∀x1,routers[t0.1.toNat]?=some x1 →
(R x1))))) λx1 =>
(.say (λR=>Rf (α:=List AV) (routers.map AV.int) (ck (c9 routers.length 0 t0.1 (routers.length:Int))
R)) (.sub 164 AV.int routers false
(.say (λR=>Rf (α:=List AV) [] (Rf (α:=List AV) (((routers.take t0.1.toNat).drop 0).map AV.int)
(ck (decide (0+((routers.take t0.1.toNat).drop 0).length≤1048576))
R))) (.app 180 AV.int [] ((routers.take t0.1.toNat).drop 0)
(.say (λR=>Rf (α:=List AV) (routers.map AV.int) (ck (c9 routers.length (W (t0.1+1)) (routers.length:Int) (routers.length:Int))
R)) (.sub 244 AV.int routers false
(.say (λR=>Rf (α:=List AV) (((routers.take t0.1.toNat).drop 0).map AV.int) (Rf (α:=List AV) (((bZ routers).drop ((W (t0.1+1)).toNat)).map AV.int)
(ck (decide (((routers.take t0.1.toNat).drop 0).length+((bZ routers).drop ((W (t0.1+1)).toNat)).length≤1048576))
R))) (.app 260 AV.int ((routers.take t0.1.toNat).drop 0) ((bZ routers).drop ((W (t0.1+1)).toNat))
(.say (Rf ((((routers.take t0.1.toNat).drop 0)++((bZ routers).drop ((W (t0.1+1)).toNat))).map AV.int)) (.cmd (.frzE 260 ((((routers.take t0.1.toNat).drop 0)++((bZ routers).drop ((W (t0.1+1)).toNat))).map AV.int) (ab (λ_=>rfl) (((routers.take t0.1.toNat).drop 0)++((bZ routers).drop ((W (t0.1+1)).toNat))))) (.callP (Vu x1 1 (((routers.take t0.1.toNat).drop 0)++((bZ routers).drop ((W (t0.1+1)).toNat))))
(.br 468 (((new x1 1 (((routers.take t0.1.toNat).drop 0)++((bZ routers).drop ((W (t0.1+1)).toNat)))).2) != 0) (.ret ((⟨[],[],[]⟩:Ovl),1))
(.say (λR=>Rf (α:=List AV) (t0.2.2.map Spk.v) (Rf (α:=List AV) [.agg [.int (((new x1 1 (((routers.take t0.1.toNat).drop 0)++((bZ routers).drop ((W (t0.1+1)).toNat)))).1).router),.int (((new x1 1 (((routers.take t0.1.toNat).drop 0)++((bZ routers).drop ((W (t0.1+1)).toNat)))).1).epoch),.int (((new x1 1 (((routers.take t0.1.toNat).drop 0)++((bZ routers).drop ((W (t0.1+1)).toNat)))).1).last),.sl 4 ((((new x1 1 (((routers.take t0.1.toNat).drop 0)++((bZ routers).drop ((W (t0.1+1)).toNat)))).1).items).map Itm.v) false,.sl 3 ((((new x1 1 (((routers.take t0.1.toNat).drop 0)++((bZ routers).drop ((W (t0.1+1)).toNat)))).1).peers).map Per.v) false]]
(ck (decide (t0.2.2.length+1≤1048576))
R))) (.app 532 Spk.v t0.2.2 [(new x1 1 (((routers.take t0.1.toNat).drop 0)++((bZ routers).drop ((W (t0.1+1)).toNat)))).1]
(.say (λR=>Idt (t0.2.1.map Lsn.v) (Rf (α:=List AV) [.agg [.int x1,.int 1,.sl 0 [] true]]
(ck (decide ((t0.2.1.map Lsn.v).length+1≤1048576))
R))) (.app 660 (λy:AV=>y) (t0.2.1.map Lsn.v) [.agg [.int x1,.int 1,.sl 0 [] true]]
(.say (λR=>X2 (.a [.k,.k,(.s 4)]) Lsn.v t0.2.1 [(⟨x1,1,[]⟩:Lsn)] [.agg [.int x1,.int 1,.sl 0 [] true]] ∧
R) (.cmd (.wkV 660 (.a [.k,.k,(.s 4)]) Lsn.v (t0.2.1++[(⟨x1,1,[]⟩:Lsn)])) (.bk 0 b0 (W (t0.1+1),t0.2.1++[(⟨x1,1,[]⟩:Lsn)],t0.2.2++[(new x1 1 (((routers.take t0.1.toNat).drop 0)++((bZ routers).drop ((W (t0.1+1)).toNat)))).1]) [0,1,532,660]))))))))))))))))))))
(.callP (jl (⟨t0.2.2,t0.2.1,[]⟩:Ovl))
(.say (ck (bK [(t0.2.2.map Spk.v),(t0.2.1.map Lsn.v)])) (.br 68 ((dg (⟨t0.2.2,t0.2.1,[]⟩:Ovl)) != 0) (.ret ((⟨[],[],[]⟩:Ovl),1))
(.say (Rf (t0.2.1.map Lsn.v)) (.cmdL (.frzE 3 (t0.2.1.map Lsn.v) (ab (λ_=>rfl) t0.2.1)) (.say (Rf (t0.2.2.map Spk.v)) (.cmdL (.frzE 2 (t0.2.2.map Spk.v) (ab (λ_=>rfl) t0.2.2)) (.ret ((⟨t0.2.2,t0.2.1,[]⟩:Ovl),0))))))))))))))
def xh(routers:List Int)(I0:(Int×List Lsn×List Spk)→Prop)(m0:(Int×List Lsn×List Spk)→Nat)(r0:Ovl×Int):=(tK routers I0 m0).vp tL r0
theorem QB(l:List Int)(h:l.length≤1000)(ok:QD l):∃I m,xh l I m (mF l):=by
 refine⟨λt=>∃k:Nat,t=((k:Int),(l.take k).map mH,(l.mapIdx (iy l)).take k)∧k≤l.length,λt=>l.length-t.1.toNat,?_⟩
 dsimp only[xh,tK,EO,bZ,Ax.vp,Ax.vc];simp only[vcU,rfU,List.length_map]
 have hN:mF l=if okR l then(iM l,0)else(iz,1):=rfl
 rw[hN]
 refine⟨λq=>?_,λq=>⟨⟨0,rfl,by omega⟩,?_⟩⟩
 ·have:¬okR l:=λe=>by have:=e.1;omega
  rw[if_neg this];rfl
 rintro _ ⟨k,rfl,hk⟩
 simp only[Int.toNat_natCast]
 refine⟨λa1=>⟨by omega,by omega,λx hx=>?_⟩,λa1=>?_⟩
 ·rw[av (n:=l.length) (by omega) (by omega)]
  simp only[Int.toNat_natCast,List.take_length,List.drop_zero]
  have hdr:l.take k++l.drop (k+1)=p9 l k:=rfl
  have hdl:(l.take k).length+(l.drop (k+1)).length≤1000:=by rw[List.length_take,List.length_drop];omega
  have hb1:c9 l.length 0 (k:Int) (l.length:Int)=true:=by simp[c9];omega
  have hb2:c9 l.length ((k+1:Nat):Int) (l.length:Int) (l.length:Int)=true:=by simp[c9];omega
  rw[hdr,new_M]
  refine⟨hb1,by omega,hb2,by omega,λc=>?_,λc=>?_⟩
  ·have c:¬bc (iy l k x):=λe=>by rw[if_pos e]at c;simp at c
   have:¬okR l:=λe=>c (by rw[DW e hx];exact(DV e (aB hx)).1)
   rw[if_neg this];rfl
  ·have c:bc (iy l k x):=by
    by_cases e:bc (iy l k x)
    ·exact e
    ·rw[if_neg e]at c;simp at c
   rw[if_pos c]
   have hm:(l.mapIdx (iy l))[k]?=some (iy l k x):=by rw[List.getElem?_mapIdx,hx];rfl
   refine⟨by simp;omega,by simp;omega,MR (λ_=>rfl) rfl,⟨k+1,?_,by omega⟩,by omega⟩
   rw[ax hx,ax hm,List.map_append];rfl
 ·rw[List.take_of_length_le (by simp;omega),List.take_of_length_le (by omega)]
  have hz:dg (⟨l.mapIdx (iy l),l.map mH,[]⟩:Ovl)=if okR l then 0 else 1:=by
   unfold dg
   simp only[Ly]
  refine⟨by generalize l.mapIdx (iy l)=A;generalize l.map mH=B;simp[bK,ab (v:=Spk.v) (λ_=>rfl),ab (v:=Lsn.v) (λ_=>rfl)],λq=>?_,λq=>?_⟩
  ·rw[hz]at q
   by_cases e:okR l
   ·rw[if_pos e]at q;simp at q
   ·rw[if_neg e];rfl
  ·rw[hz]at q
   by_cases e:okR l
   ·rw[if_pos e,EP e]
   ·rw[if_neg e]at q;simp at q
def QC(routers:List Int)(h:routers.length≤1000):PC Tryz.prog:=⟨38,[(.s 1)],[.sl 1 (routers.map AV.int) false],tL (mF routers),ao.of_ok λok=>(QB routers h ok).elim λI0 h=>h.elim λm0 h=>aj (sh:=(.a [(.a [(.s 5),(.s 3),(.s 10)]),.k])) (enc:=tL) (a:=(tK routers I0 m0).an) h (by kernel_rfl) (AV.pureB_ok rfl),ai (by kernel_rfl)⟩
theorem QE{a b:Int}:dR a b=min a b:=by unfold dR;split<;>omega
def Mp(L:List Int)(p:Nat)(n:Int):=okL [.ref 0 0,.int n]∧(.box (.agg [.sl 1 (L.map AV.int) false,.int p]):Blk).ok
def Rj(L:List Int)(t0:Int×Nat×List Fau):NF:=⟨[(0,.k,.ref 0 0),(5,.k,.vec 1),(6,.k,.int t0.1)],[.box (.agg [.sl 1 (L.map AV.int) false,.int t0.2.1]),.vec 2 (t0.2.2.map Fau.v) (ab (λ_=>rfl) t0.2.2)]⟩
@[reducible] def Mo:Nat→Type
 | 0=>Int×Nat×List Fau
 | _=>Unit
def ue(r:Tap×List Fau):AV:=.sl 2 (r.2.map Fau.v) false
def uf(r:Tap×List Fau):List (Option Blk):=[some (.box (.agg [.sl 1 (r.1.L.map AV.int) false,.int r.1.p]))]
def BG(L:List Int)(p:Nat)(n:Int)(I0:(Int×Nat×List Fau)→Prop)(m0:(Int×Nat×List Fau)→Nat):Ax Tryz.prog Mo (Tap×List Fau):=
 (.cmdL (.nilT 5 2) (.loop 0 (Rj L) I0 m0 (W (n-1),p,[]) [0,81] λ(t0:Int×Nat×List Fau) b0 =>
(.br 34 (decide (0≤t0.1)) (.callH [0] (N_h L t0.2.1 3) 50
(.br 82 (decide (0<(Mod (al L t0.2.1) 3))) (.req 130 ([1,1,2,3,4]≠[]) λh1 =>
(.callH [0] (dH L (ag L t0.2.1) [1,1,2,3,4] h1) 130
(.say (λR=>Rf (α:=List AV) (t0.2.2.map Fau.v) (Rf (α:=List AV) [.agg [.int (au [1,1,2,3,4] (al L (ag L t0.2.1))),.int t0.1]]
(ck (decide (t0.2.2.length+1≤1048576))
R))) (.app 194 Fau.v t0.2.2 [(⟨au [1,1,2,3,4] (al L (ag L t0.2.1)),t0.1⟩:Fau)]
(.bk 0 b0 (W (t0.1-1),ag L (ag L t0.2.1),t0.2.2++[(⟨au [1,1,2,3,4] (al L (ag L t0.2.1)),t0.1⟩:Fau)]) [0,194])))))
(.bk 0 b0 (W (t0.1-1),ag L t0.2.1,t0.2.2) [0,1])))
(.say (Rf (t0.2.2.map Fau.v)) (.cmdL (.frzE 1 (t0.2.2.map Fau.v) (ab (λ_=>rfl) t0.2.2)) (.retH ((⟨L,t0.2.1⟩:Tap),t0.2.2) ⟨[(4,.k,.sl 2 (t0.2.2.map Fau.v) false)],[.box (.agg [.sl 1 (L.map AV.int) false,.int t0.2.1])]⟩ [0]))))))
def Fp(L:List Int)(p:Nat)(n:Int)(I0:(Int×Nat×List Fau)→Prop)(m0:(Int×Nat×List Fau)→Nat)(r0:Tap×List Fau):=(BG L p n I0 m0).vc ue uf r0
theorem VS(L:List Int)(p:Nat)(n:Int)(h:0≤n∧n≤100000)(ok:Mp L p n):∃I m,Fp L p n I m ((⟨L,(dt L n p).2⟩:Tap),(dt L n p).1):=by
 refine⟨λt=>∃k:Nat,t.1=(k:Int)-1∧k≤100000∧t.2.2.length+k≤100000∧jN L k t.2.2 t.2.1=dt L n p,λt=>(t.1+1).toNat,?_⟩
 dsimp only[Fp,BG,Mo,Ax.vp,Ax.vc];simp only[vcU,rfU,List.length_map]
 refine⟨⟨n.toNat,by rw[bB (by omega)];omega,by omega,by simp;omega,rfl⟩,?_⟩
 rintro⟨i,q,out⟩ ⟨k,hk,hk4,hl,hf⟩
 simp only at hk hl hf
 subst hk
 simp only
 refine⟨λh1=>?_,λh1=>?_⟩
 ·obtain⟨j,rfl⟩:∃j,k=j+1:=⟨k-1,by omega⟩
  have e:((j+1:Nat):Int)-1=j:=by omega
  rw[e,bB (by omega)]
  rw[jN]at hf
  refine⟨λc=>⟨by simp,by omega,⟨j,rfl,by omega,by simp;omega,?_⟩,by omega⟩,λc=>⟨⟨j,rfl,by omega,by omega,?_⟩,by omega⟩⟩
  ·rw[if_pos c]at hf;exact hf
  ·rw[if_neg c]at hf;exact hf
 ·have:k=0:=by omega
  subst this
  rw[←hf];rfl
def VT(L:List Int)(p:Nat)(n:Int)(h:0≤n∧n≤100000):HC Tryz.prog:=⟨84,[.k,.k],[.ref 0 0,.int n],[.box (.agg [.sl 1 (L.map AV.int) false,.int p])],ue ((⟨L,(dt L n p).2⟩:Tap),(dt L n p).1),uf ((⟨L,(dt L n p).2⟩:Tap),(dt L n p).1),bl.of_okh λok ok2=>have ok:Mp L p n:=⟨ok,ok2 _ (by simp)⟩;(VS L p n h ok).elim λI0 h=>h.elim λm0 h=>cC (sh:=(.s 2)) (enc:=ue) (hB:=uf) (a:=(BG L p n I0 m0).an) h (by kernel_rfl),ai (by kernel_rfl),fk.of (by simp[hcB,cJ,AV.belB,allB,eI,dQ,ue,uf,ab (v:=AV.int) (λ_=>rfl)])⟩
def Lf(o:Ovl):Prop:=0<o.sp.length∧o.fl.length≤300000
def Ot(L:List Int)(p:Nat)(o:Ovl):=okL [.ref 0 0,.agg [.sl 5 (o.sp.map Spk.v) false,.sl 3 (o.ls.map Lsn.v) false,.sl 10 (o.fl.map Sig.v) false]]∧(.box (.agg [.sl 1 (L.map AV.int) false,.int p]):Blk).ok
abbrev fw(o:Ovl):=(dR ((o.fl.map Sig.v).length:Int) 40)
abbrev jz(L:List Int)(p:Nat)(o:Ovl):=(bx L ((o.fl.map Sig.v).length:Int) (ag L (ag L p)))
def SP(L:List Int)(o:Ovl)(t0:Int×Ovl×Nat):NF:=⟨[(3,.k,.ref 1 0),(4,.k,.ref 2 0),(6,.k,.ref 3 0),(7,.k,.int t0.1)],[.box (.agg [.sl 1 (L.map AV.int) false,.int t0.2.2]),.box (.agg [.sl 5 (o.sp.map Spk.v) false,.sl 3 (o.ls.map Lsn.v) false,.sl 10 (o.fl.map Sig.v) false]),.box (.agg [.sl 0 [] true,.sl 0 [] true,.sl 0 [] true]),.box (.agg [.sl 5 (t0.2.1.sp.map Spk.v) false,.sl 3 (t0.2.1.ls.map Lsn.v) false,.sl 10 (t0.2.1.fl.map Sig.v) false])]⟩
def SO(L:List Int)(p:Nat)(o:Ovl)(x1:Spk)(t1:Bool):NF:=⟨[(0,.k,.ref 0 0),(3,.k,.ref 1 0),(4,.k,.ref 2 0),(5,.k,.int x1.router),(6,.k,.ref 3 0),(20,.k,.int (Mod (al L (ag L p)) 6)),(31,.k,.bool t1)],[.box (.agg [.sl 1 (L.map AV.int) false,.int (((ag L (ag L p)):Nat):Int)]),.box (.agg [.sl 5 (o.sp.map Spk.v) false,.sl 3 (o.ls.map Lsn.v) false,.sl 10 (o.fl.map Sig.v) false]),.box (.agg [.sl 0 [] true,.sl 0 [] true,.sl 0 [] true]),.box (.agg [.sl 5 (o.sp.map Spk.v) false,.sl 3 (o.ls.map Lsn.v) false,.sl 10 (o.fl.map Sig.v) false])]⟩
@[reducible] def Oq:Nat→Type
 | 0=>Int×Ovl×Nat
 | 1=>Bool
 | _=>Unit
def vw(r:Tap×Ovl):AV:=.agg [.sl 5 (r.2.sp.map Spk.v) false,.sl 3 (r.2.ls.map Lsn.v) false,.sl 10 (r.2.fl.map Sig.v) false]
def vx(r:Tap×Ovl):List (Option Blk):=[some (.box (.agg [.sl 1 (r.1.L.map AV.int) false,.int r.1.p]))]
def De(L:List Int)(p:Nat)(o:Ovl)(I0:Spk→(Int×Ovl×Nat)→Prop)(I1:Spk→Bool→Prop):Ax Tryz.prog Oq (Tap×Ovl):=
 (.callH [0] (N_h L p ((o.sp.map Spk.v).length:Int)) 129
(.el 145 Spk.v o.sp (λR=>Rf (o.sp.map Spk.v) (ck (decide (0≤(Mod (al L p) ((o.sp.map Spk.v).length:Int)))) (ck (decide ((Mod (al L p) ((o.sp.map Spk.v).length:Int))<(o.sp.length:Int)))
(∀x1,o.sp[(Mod (al L p) ((o.sp.map Spk.v).length:Int)).toNat]?=some x1 →
(R x1))))) λx1 =>
(.pass (.join 0 (SP L o) (λ(t0:Int×Ovl×Nat)=>I0 x1 t0) (λb0=>(.callH [0] (N_h L (ag L p) 6) 289
(.join 1 (SO L p o x1) (λ(t1:Bool)=>I1 x1 t1) (λb1=>(.br 337 ((Mod (al L (ag L p)) 6)==0) (.bk 1 b1 ((true):Bool) [0,1,17,225])
(.bk 1 b1 (((Mod (al L (ag L p)) 6)==1):Bool) [0,1,17,225]))) λ(t1:Bool) =>
(.br 4 t1 (.callH [0] (vJ L (ag L (ag L p))) 52
(.req 68 (o.fl.length≤1000000) λh2 =>
(.callP (vl o x1.router ((cK L (ag L (ag L p))).1) h2)
(.bk 0 b0 ((bT o x1.router ((cK L (ag L (ag L p))).1)).2,(bT o x1.router ((cK L (ag L (ag L p))).1)).1,(cK L (ag L (ag L p))).2) [0,1,2,3]))))
(.br 36 ((Mod (al L (ag L p)) 6)==2) (.callH [0] (vJ L (ag L (ag L p))) 84
(.req 100 (o.fl.length≤1000000) λh3 =>
(.callP (PW o x1.router ((cK L (ag L (ag L p))).1) h3)
(.bk 0 b0 ((dN o x1.router ((cK L (ag L (ag L p))).1)).2,(dN o x1.router ((cK L (ag L (ag L p))).1)).1,(cK L (ag L (ag L p))).2) [0,1,2,3]))))
(.br 68 ((Mod (al L (ag L p)) 6)==3) (.req 164 (0≤(fw o)∧(fw o)≤100000) λh4 =>
(.callH [0] (VT L (ag L (ag L p)) (fw o) h4) 164
(.req 180 (qU o ((dt L (fw o) (ag L (ag L p))).1)) λh5 =>
(.callP (mV o ((dt L (fw o) (ag L (ag L p))).1) h5)
(.bk 0 b0 ((bH o ((dt L (fw o) (ag L (ag L p))).1)).2,(bH o ((dt L (fw o) (ag L (ag L p))).1)).1,(dt L (fw o) (ag L (ag L p))).2) [0,1,2,3])))))
(.req 148 (0≤((o.fl.map Sig.v).length:Int)∧((o.fl.map Sig.v).length:Int)≤1000000) λh6 =>
(.callH [0] (F5 L (ag L (ag L p)) ((o.fl.map Sig.v).length:Int) h6) 148
(.req 164 (qU o ((jz L p o).1)) λh7 =>
(.callP (mV o ((jz L p o).1) h7)
(.bk 0 b0 ((bH o ((jz L p o).1)).2,(bH o ((jz L p o).1)).1,(jz L p o).2) [0,1,2,3]))))))))))) λ(t0:Int×Ovl×Nat) =>
(.br 36 (t0.1 != 0) (.retH ((⟨L,t0.2.2⟩:Tap),o) ⟨[(4,.k,.ref 1 0)],[.box (.agg [.sl 1 (L.map AV.int) false,.int t0.2.2]),.box (.agg [.sl 5 (o.sp.map Spk.v) false,.sl 3 (o.ls.map Lsn.v) false,.sl 10 (o.fl.map Sig.v) false])]⟩ [0,2])
(.retH ((⟨L,t0.2.2⟩:Tap),t0.2.1) ⟨[(4,.k,.ref 1 0)],[.box (.agg [.sl 1 (L.map AV.int) false,.int t0.2.2]),.box (.agg [.sl 5 (t0.2.1.sp.map Spk.v) false,.sl 3 (t0.2.1.ls.map Lsn.v) false,.sl 10 (t0.2.1.fl.map Sig.v) false])]⟩ [0,2]))))))
def Gk(L:List Int)(p:Nat)(o:Ovl)(I0:Spk→(Int×Ovl×Nat)→Prop)(I1:Spk→Bool→Prop)(r0:Tap×Ovl):=(De L p o I0 I1).vc vw vx r0
theorem Xn(L:List Int)(p:Nat)(o:Ovl)(h:Lf o)(ok:Ot L p o):∃I0 I1,Gk L p o I0 I1 ((⟨L,(gz L p o).2⟩:Tap),(gz L p o).1):=by
 obtain⟨hs,hf⟩:=h
 refine⟨λ_ t=>(orO o (t.2.1,t.1),t.2.2)=gz L p o,λ_ x=>x=decide (Mod (al L (ag L p)) 6=0∨Mod (al L (ag L p)) 6=1),?_⟩
 have hm:=bg (x:=al L p) (n:=(o.sp.length:Int)) (by omega)
 have hmin:dR (o.fl.length:Int) 40=min (o.fl.length:Int) 40:=QE
 dsimp only[Gk,De,Oq,fw,jz,Ax.vp,Ax.vc];simp only[vcU,rfU,List.length_map]
 simp only[hmin]
 refine⟨by omega,by omega,λx hx=>⟨⟨⟨λc=>by simp[eq_of_beq c],λc=>?_⟩,?_⟩,?_⟩⟩
 ·have c:¬Mod (al L (ag L p)) 6=0:=by simpa using c
  rw[Bool.eq_iff_iff,beq_iff_eq,decide_eq_true_iff];omega
 all_goals have hx:o.sp.getD (Mod (al L p) o.sp.length).toNat fc=x:=by rw[List.getD_eq_getElem?_getD,hx];rfl
 rotate_left
 ·rintro⟨e,o2,q⟩ h2
  simp only at h2 ⊢
  refine⟨λc=>?_,λc=>?_⟩
  ·have c:e≠0:=by simpa using c
   rw[←h2,orO,if_pos c]
  ·have c:¬e≠0:=by simpa using c
   rw[←h2,orO,if_neg c]
 have hF1:=pd (L:=L) (n:=min (o.fl.length:Int) 40) (p:=ag L (ag L p))
 have hF2:=eY (L:=L) (n:=o.fl.length) (p:=ag L (ag L p))
 rintro _ rfl
 refine⟨λc=>⟨by omega,?_⟩,λc=>⟨λd=>⟨by omega,?_⟩,λd=>⟨λe=>⟨by omega,⟨by omega,by omega⟩,?_⟩,λe=>⟨by omega,⟨by omega,by omega⟩,?_⟩⟩⟩⟩
 ·have c:=of_decide_eq_true c
  rw[gz,if_pos c,hx]
 ·have c:=of_decide_eq_false c
  have d:=eq_of_beq d
  rw[gz,if_neg c,if_pos d,hx]
 ·have c:=of_decide_eq_false c
  have d:¬Mod (al L (ag L p)) 6=2:=by simpa using d
  have e:=eq_of_beq e
  rw[gz,if_neg c,if_neg d,if_pos e]
 ·have c:=of_decide_eq_false c
  have d:¬Mod (al L (ag L p)) 6=2:=by simpa using d
  have e:¬Mod (al L (ag L p)) 6=3:=by simpa using e
  rw[gz,if_neg c,if_neg d,if_neg e]
def Xo(L:List Int)(p:Nat)(o:Ovl)(h:Lf o):HC Tryz.prog:=⟨39,[.k,(.a [(.s 5),(.s 3),(.s 10)])],[.ref 0 0,.agg [.sl 5 (o.sp.map Spk.v) false,.sl 3 (o.ls.map Lsn.v) false,.sl 10 (o.fl.map Sig.v) false]],[.box (.agg [.sl 1 (L.map AV.int) false,.int p])],vw ((⟨L,(gz L p o).2⟩:Tap),(gz L p o).1),vx ((⟨L,(gz L p o).2⟩:Tap),(gz L p o).1),bl.of_okh λok ok2=>have ok:Ot L p o:=⟨ok,ok2 _ (by simp)⟩;(Xn L p o h ok).elim λI0 h=>h.elim λI1 h=>cC (sh:=(.a [(.s 5),(.s 3),(.s 10)])) (enc:=vw) (hB:=vx) (a:=(De L p o I0 I1).an) h (by kernel_rfl),ai (by kernel_rfl),fk.of (by simp[hcB,cJ,AV.belB,allB,eI,dQ,vw,vx,ab (v:=AV.int) (λ_=>rfl),ab (v:=Lsn.v) (λ_=>rfl),ab (v:=Sig.v) (λ_=>rfl),ab (v:=Spk.v) (λ_=>rfl)])⟩
end Go.Proofs.YthhpaedpnjdnbaaGreatDoor
