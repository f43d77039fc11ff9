/- Texts joined: G22 G30 G31 G32 U16 G33 G34 G35 G36 G41 G37 G38 G39 G42 G43. -/
import Derived.Test.YthhpaedpnjdnbaaGreatDoorQP7
set_option linter.unusedVariables false
set_option linter.unusedSimpArgs false
namespace Go.Proofs.YthhpaedpnjdnbaaGreatDoor
open Go Go.Am
def sendR_a(s:Spk)(router:Int):Prop:=okL [.agg [.int s.router,.int s.epoch,.int s.last,.sl 4 (s.items.map Itm.v) false,.sl 3 (s.peers.map Per.v) false],.int router]
def sendR_n0(s:Spk)(router:Int)(t0:Int×Int×(List Sig)):NF:=⟨[(1,.k,.int router),(2,.k,.ref 0 0),(7,.k,.int (idxP s.peers router)),(8,.k,.vec 1),(9,.k,.int t0.1),(32,.k,.sl 4 (s.items.map Itm.v) false),(33,.k,.int ((s.items.map Itm.v).length:Int)),(34,.k,.int t0.2.1)],[.box (.agg [.int s.router,.int s.epoch,.int s.last,.sl 4 (s.items.map Itm.v) false,.sl 3 (s.peers.map Per.v) false]),.vec 10 (t0.2.2.map Sig.v) (pureBL_map (fun _=>rfl) t0.2.2)]⟩
@[reducible] def sendR_s:Nat→Type
 | 0=>Int×Int×(List Sig)
 | _=>Unit
def sendR_e(r:(List Sig)×Int):AV:=.tup [.sl 10 (r.1.map Sig.v) false,.int r.2]
def sendR_x(s:Spk)(router:Int)(I0:(Int×Int×(List Sig))→Prop)(m0:(Int×Int×(List Sig))→Nat):Ax Tryz.prog sendR_s ((List Sig)×Int):=
 (.callP (valR6_c s)
(.br 128 ((valS s) != 0) (.ret ([],valS s))
(.callP (peerR_c s router)
(.br 224 (decide ((idxP s.peers router)<0)) (.ret ([],4))
(.own 352 (.cmdL (.wkB 352 (.a [.k,.k,.k,.k,.k,.k,.k,.k,.k,(.s 1)])) (.loop 0 (sendR_n0 s router) I0 m0 (0,0,[(⟨1,s.router,router,s.epoch,s.last,0,0,0,0,[]⟩:Sig)]) [0,352] fun (t0:Int×Int×(List Sig)) b0 =>
(.br 18 (decide (t0.2.1<((s.items.map Itm.v).length:Int))) (.el 18 Itm.v s.items (fun R=>Rf (s.items.map Itm.v) (ck (decide (0≤t0.2.1)) (ck (decide (t0.2.1<(s.items.length:Int)))
(∀x1,s.items[t0.2.1.toNat]?=some x1 →
(R x1))))) fun x1 =>
(.el 162 Per.v s.peers (fun R=>Rf (s.peers.map Per.v) (ck (decide (0≤(idxP s.peers router))) (ck (decide ((idxP s.peers router)<(s.peers.length:Int)))
(∀x2,s.peers[(idxP s.peers router).toNat]?=some x2 →
(R x2))))) fun x2 =>
(.br 226 (decide (x2.acked<x1.ver)) (.own 450 (.say (fun R=>Rf (α:=List AV) (t0.2.2.map Sig.v) (Rf (α:=List AV) [.agg [.int 2,.int s.router,.int router,.int s.epoch,.int x1.ver,.int t0.1,.int 0,.int x1.grp,.int x1.mode,.sl 1 (x1.srcs.map AV.int) false]]
(ck (decide (t0.2.2.length+1≤1048576))
R))) (.app 466 Sig.v t0.2.2 [(⟨2,s.router,router,s.epoch,x1.ver,t0.1,0,x1.grp,x1.mode,x1.srcs⟩:Sig)]
(.bk 0 b0 (x1.ver,W (t0.2.1+1),t0.2.2++[(⟨2,s.router,router,s.epoch,x1.ver,t0.1,0,x1.grp,x1.mode,x1.srcs⟩:Sig)]) [0,466]))))
(.bk 0 b0 (x1.ver,W (t0.2.1+1),t0.2.2) [0,1]))))
(.say (Rf (t0.2.2.map Sig.v)) (.cmdL (.frzE 1 (t0.2.2.map Sig.v) (pureBL_map (fun _=>rfl) t0.2.2)) (.ret (t0.2.2,0))))))))))))
def sendR_vc(s:Spk)(router:Int)(I0:(Int×Int×(List Sig))→Prop)(m0:(Int×Int×(List Sig))→Nat)(r0:(List Sig)×Int):Prop:=(sendR_x s router I0 m0).vp sendR_e r0
theorem sendR_p(s:Spk)(r:Int)(ok:sendR_a s r):∃I0 m0,sendR_vc s r I0 m0 (send s r):=by
 let ak:=(s.peers.getD (posP s.peers r) ⟨0,0,0⟩).acked
 refine ⟨fun t=>∃k:Nat,t.2.1=k∧k≤s.items.length∧t.2.2.length≤k+1∧hello s r::sendFrom s r ak 0 s.items=t.2.2++sendFrom s r ak t.1 (s.items.drop k),fun t=>s.items.length-t.2.1.toNat,?_⟩
 dsimp only [sendR_vc,sendR_x,sendR_s,Ax.vp,Ax.vc];simp only [vcU,rfU,List.length_map]
 have hv:valS s=if spkOk s then 0 else 1:=rfl
 rw [hv]
 by_cases hs:spkOk s
 case neg=>simp [send,hs]
 rw [if_pos hs,idxP_asc hs.2.2.2.2.2.2]
 refine ⟨fun e=>by simp at e,fun _=>⟨fun e=>?_,fun e=>?_⟩⟩
 ·rw [send,if_neg (not_not_intro hs),if_pos]
  intro q;rw [if_pos q] at e;omega
 have e:hitP s.peers r:=by
  refine Classical.byContradiction fun q=>e ?_
  rw [if_neg q];omega
 rw [if_pos e,Int.toNat_natCast]
 have fin:send s r=(hello s r::sendFrom s r ak 0 s.items,0):=by rw [send,if_neg (not_not_intro hs),if_neg (not_not_intro e)]
 have hil:=itms_len hs.2.2.2.1
 refine ⟨⟨0,rfl,by omega,by simp,rfl⟩,?_⟩
 rintro ⟨prev,_,acc⟩ ⟨k,rfl,hk,hal,h⟩
 simp only [Int.toNat_natCast] at *
 refine ⟨fun h1=>⟨by omega,by omega,fun x hx=>⟨by omega,by have:=e.1;omega,fun y hy=>?_⟩⟩,fun h1=>?_⟩
 ·have hy:ak=y.acked:=by show (s.peers.getD (posP s.peers r) ⟨0,0,0⟩).acked=_;rw [getD_some hy]
  have hd:s.items.drop k=x::s.items.drop (k+1):=by
   have hkl:=lt_of_get hx
   rw [List.drop_eq_getElem_cons hkl]
   rw [List.getElem?_eq_getElem hkl] at hx;rw [Option.some.inj hx]
  rw [hd,sendFrom] at h
  rw [W_succ (n:=s.items.length) (by omega) (by omega)]
  refine ⟨fun e3=>⟨by omega,⟨k+1,rfl,by omega,by simp;omega,?_⟩,by omega⟩,fun e3=>⟨⟨k+1,rfl,by omega,by omega,?_⟩,by omega⟩⟩
  ·rw [h,if_pos (by omega)];simp [upd1]
  ·rw [h,if_neg (by omega)];simp
 ·rw [List.drop_eq_nil_of_le (by omega),sendFrom,List.append_nil] at h
  rw [fin,h]
def sendR_c(s:Spk)(router:Int):PC Tryz.prog:=⟨64,[(.a [.k,.k,.k,(.s 4),(.s 3)]),.k],[.agg [.int s.router,.int s.epoch,.int s.last,.sl 4 (s.items.map Itm.v) false,.sl 3 (s.peers.map Per.v) false],.int router],sendR_e (send s router),PSpec.of_ok fun ok=>(sendR_p s router ok).elim fun I0 h=>h.elim fun m0 h=>mxP_of (sh:=(.a [(.s 10),.k])) (enc:=sendR_e) (a:=(sendR_x s router I0 m0).an) h (by kernel_rfl) (AV.pureB_ok rfl),fnB_ok (by kernel_rfl)⟩
def ackR_a(s:Spk)(x:Sig):Prop:=okL [.agg [.int s.router,.int s.epoch,.int s.last,.sl 4 (s.items.map Itm.v) false,.sl 3 (s.peers.map Per.v) false],.agg [.int x.kind,.int x.src,.int x.dst,.int x.epoch,.int x.ver,.int x.prev,.int x.pep,.int x.grp,.int x.mode,.sl 1 (x.srcs.map AV.int) false]]
def ackR_n0(s:Spk)(x:Sig)(t0:Bool):NF:=⟨[(2,.k,.ref 0 0),(3,.k,.ref 1 0),(4,.k,.ref 2 0),(33,.k,.bool t0)],[.box (.agg [.int s.router,.int s.epoch,.int s.last,.sl 4 (s.items.map Itm.v) false,.sl 3 (s.peers.map Per.v) false]),.box (.agg [.int x.kind,.int x.src,.int x.dst,.int x.epoch,.int x.ver,.int x.prev,.int x.pep,.int x.grp,.int x.mode,.sl 1 (x.srcs.map AV.int) false]),.box (.agg [.int 0,.int 0,.int 0,.sl 0 [] true,.sl 0 [] true])]⟩
def ackR_n1(s:Spk)(x:Sig)(t1:Int):NF:=⟨[(2,.k,.ref 0 0),(3,.k,.ref 1 0),(4,.k,.ref 2 0),(8,.k,.int (idxP s.peers x.src)),(9,.k,.int t1)],[.box (.agg [.int s.router,.int s.epoch,.int s.last,.sl 4 (s.items.map Itm.v) false,.sl 3 (s.peers.map Per.v) false]),.box (.agg [.int x.kind,.int x.src,.int x.dst,.int x.epoch,.int x.ver,.int x.prev,.int x.pep,.int x.grp,.int x.mode,.sl 1 (x.srcs.map AV.int) false]),.box (.agg [.int 0,.int 0,.int 0,.sl 0 [] true,.sl 0 [] true])]⟩
def ackR_n2(s:Spk)(x:Sig)(t2:Bool):NF:=⟨[(2,.k,.ref 0 0),(3,.k,.ref 1 0),(4,.k,.ref 2 0),(8,.k,.int (idxP s.peers x.src)),(9,.k,.int 0),(53,.k,.bool t2)],[.box (.agg [.int s.router,.int s.epoch,.int s.last,.sl 4 (s.items.map Itm.v) false,.sl 3 (s.peers.map Per.v) false]),.box (.agg [.int x.kind,.int x.src,.int x.dst,.int x.epoch,.int x.ver,.int x.prev,.int x.pep,.int x.grp,.int x.mode,.sl 1 (x.srcs.map AV.int) false]),.box (.agg [.int 0,.int 0,.int 0,.sl 0 [] true,.sl 0 [] true])]⟩
@[reducible] def ackR_s:Nat→Type
 | 0=>Bool
 | 1=>Int
 | 2=>Bool
 | _=>Unit
def ackR_e(r:Spk×Int):AV:=.tup [Spk.v r.1,.int r.2]
def ackR_x(s:Spk)(x:Sig)(I0:Bool→Prop)(I1:Bool→Int→Prop)(I2:Bool→Bool→Prop):Ax Tryz.prog ackR_s (Spk×Int):=
 (.callP (valR6_c s)
(.br 144 ((valS s) != 0) (.ret ((⟨0,0,0,[],[]⟩:Spk),valS s))
(.callP (sigVR_c x)
(.br 224 ((sigErr x) != 0) (.ret ((⟨0,0,0,[],[]⟩:Spk),sigErr x))
(.pass (.join 0 (ackR_n0 s x) (fun (t0:Bool)=>I0 t0) (fun b0=>(.br 288 (x.kind != 3) (.bk 0 b0 ((true):Bool) [0,16,32])
(.bk 0 b0 ((x.dst != s.router):Bool) [0,16,32]))) fun (t0:Bool) =>
(.br 3 t0 (.ret ((⟨0,0,0,[],[]⟩:Spk),1))
(.callP (peerR_c s x.src)
(.br 115 (decide ((idxP s.peers x.src)<0)) (.ret ((⟨0,0,0,[],[]⟩:Spk),4))
(.pass (.join 1 (ackR_n1 s x) (fun (t1:Int)=>I1 t0 t1) (fun b1=>(.join 2 (ackR_n2 s x) (fun (t2:Bool)=>I2 t0 t2) (fun b2=>(.br 227 (x.epoch==s.epoch) (.bk 2 b2 ((decide (x.ver≤s.last)):Bool) [0,1,2])
(.bk 2 b2 ((false):Bool) [0,1,2]))) fun (t2:Bool) =>
(.br 3 t2 (.bk 1 b1 ((x.ver):Int) [0,1,2])
(.bk 1 b1 ((0):Int) [0,1,2])))) fun (t1:Int) =>
(.say (fun R=>Rf (α:=List AV) [] (Rf (α:=List AV) (s.peers.map Per.v)
(ck (decide (0+s.peers.length≤1048576))
R))) (.app 99 Per.v [] s.peers
(.say (ck (cond (decide (0≤(idxP s.peers x.src))) (decide ((idxP s.peers x.src)<((s.peers.map Per.v).length:Int))) false)) (.el 307 Per.v s.peers (fun R=>Rf (s.peers.map Per.v) (ck (decide ((idxP s.peers x.src).toNat<s.peers.length))
(∀x1,s.peers[(idxP s.peers x.src).toNat]?=some x1 →
(R x1)))) fun x1 =>
(.br 355 (decide (x1.epoch<x.pep)) (.st 467 Per.v s.peers (fun y2=>(⟨y2.router,x.pep,y2.acked⟩:Per)) (fun R=>Rf (s.peers.map Per.v) (ck (decide ((idxP s.peers x.src).toNat<s.peers.length))
(∀y2,s.peers[(idxP s.peers x.src).toNat]?=some y2→Rf (Per.v (⟨y2.router,x.pep,y2.acked⟩:Per))
((R y2))))) fun y2 =>
(.st 515 Per.v (s.peers.set ((idxP s.peers x.src).toNat) (⟨y2.router,x.pep,y2.acked⟩:Per)) (fun y3=>(⟨y3.router,y3.epoch,t1⟩:Per)) (fun R=>Rf ((s.peers.set ((idxP s.peers x.src).toNat) (⟨y2.router,x.pep,y2.acked⟩:Per)).map Per.v) (ck (decide ((idxP s.peers x.src).toNat<(s.peers.set ((idxP s.peers x.src).toNat) (⟨y2.router,x.pep,y2.acked⟩:Per)).length))
(∀y3,(s.peers.set ((idxP s.peers x.src).toNat) (⟨y2.router,x.pep,y2.acked⟩:Per))[(idxP s.peers x.src).toNat]?=some y3→Rf (Per.v (⟨y3.router,y3.epoch,t1⟩:Per))
((R y3))))) fun y3 =>
(.say (Rf (((s.peers.set ((idxP s.peers x.src).toNat) (⟨y2.router,x.pep,y2.acked⟩:Per)).set ((idxP s.peers x.src).toNat) (⟨y3.router,y3.epoch,t1⟩:Per)).map Per.v)) (.cmdL (.frzE 99 (((s.peers.set ((idxP s.peers x.src).toNat) (⟨y2.router,x.pep,y2.acked⟩:Per)).set ((idxP s.peers x.src).toNat) (⟨y3.router,y3.epoch,t1⟩:Per)).map Per.v) (pureBL_map (fun _=>rfl) ((s.peers.set ((idxP s.peers x.src).toNat) (⟨y2.router,x.pep,y2.acked⟩:Per)).set ((idxP s.peers x.src).toNat) (⟨y3.router,y3.epoch,t1⟩:Per)))) (.ret ((⟨s.router,s.epoch,s.last,s.items,(s.peers.set ((idxP s.peers x.src).toNat) (⟨y2.router,x.pep,y2.acked⟩:Per)).set ((idxP s.peers x.src).toNat) (⟨y3.router,y3.epoch,t1⟩:Per)⟩:Spk),0))))))
(.el 435 Per.v s.peers (fun R=>Rf (s.peers.map Per.v) (ck (decide ((idxP s.peers x.src).toNat<s.peers.length))
(∀x4,s.peers[(idxP s.peers x.src).toNat]?=some x4 →
(R x4)))) fun x4 =>
(.br 483 (x.pep==x4.epoch) (.el 547 Per.v s.peers (fun R=>Rf (s.peers.map Per.v) (ck (decide ((idxP s.peers x.src).toNat<s.peers.length))
(∀x5,s.peers[(idxP s.peers x.src).toNat]?=some x5 →
(R x5)))) fun x5 =>
(.st 627 Per.v s.peers (fun y6=>(⟨y6.router,y6.epoch,maxI x5.acked t1⟩:Per)) (fun R=>Rf (s.peers.map Per.v) (ck (decide ((idxP s.peers x.src).toNat<s.peers.length))
(∀y6,s.peers[(idxP s.peers x.src).toNat]?=some y6→Rf (Per.v (⟨y6.router,y6.epoch,maxI x5.acked t1⟩:Per))
((R y6))))) fun y6 =>
(.say (Rf ((s.peers.set ((idxP s.peers x.src).toNat) (⟨y6.router,y6.epoch,maxI x5.acked t1⟩:Per)).map Per.v)) (.cmdL (.frzE 99 ((s.peers.set ((idxP s.peers x.src).toNat) (⟨y6.router,y6.epoch,maxI x5.acked t1⟩:Per)).map Per.v) (pureBL_map (fun _=>rfl) (s.peers.set ((idxP s.peers x.src).toNat) (⟨y6.router,y6.epoch,maxI x5.acked t1⟩:Per)))) (.ret ((⟨s.router,s.epoch,s.last,s.items,s.peers.set ((idxP s.peers x.src).toNat) (⟨y6.router,y6.epoch,maxI x5.acked t1⟩:Per)⟩:Spk),0))))))
(.say (Rf (s.peers.map Per.v)) (.cmdL (.frzE 99 (s.peers.map Per.v) (pureBL_map (fun _=>rfl) s.peers)) (.ret (s,0))))))))))))))))))))))
def ackR_vc(s:Spk)(x:Sig)(I0:Bool→Prop)(I1:Bool→Int→Prop)(I2:Bool→Bool→Prop)(r0:Spk×Int):Prop:=(ackR_x s x I0 I1 I2).vp ackR_e r0
theorem ackR_p(s:Spk)(x:Sig)(ok:ackR_a s x):∃I0 I1 I2,ackR_vc s x I0 I1 I2 (ack s x):=by
 refine ⟨fun b=>b=decide (x.kind≠3∨x.dst≠s.router),fun b v=>v=ackV s x,fun b c=>c=decide (x.epoch=s.epoch∧x.ver≤s.last),?_⟩
 dsimp only [ackR_vc,ackR_x,ackR_s,Ax.vp,Ax.vc];simp only [vcU,rfU,List.length_map]
 have hv:valS s=if spkOk s then 0 else 1:=rfl
 rw [hv]
 unfold ack
 by_cases hs:spkOk s
 case neg=>rw [if_neg hs,if_pos hs];simp [spk0]
 rw [if_pos hs,if_neg (not_not_intro hs),idxP_asc hs.2.2.2.2.2.2]
 refine ⟨fun e=>by simp at e,fun _=>⟨fun e=>?_,fun e=>⟨⟨fun k=>?_,fun k=>?_⟩,fun b hb=>⟨fun c=>?_,fun c=>?_⟩⟩⟩⟩
 ·rw [if_pos (by simpa using e)];rfl
 ·exact (decide_eq_true (.inl (by simpa using k))).symm
 ·have k:x.kind=3:=by simpa using k
  by_cases q:x.dst=s.router<;>simp [q,k]
 ·subst hb
  have e0:¬sigErr x≠0:=by simpa using e
  rw [if_neg e0,if_pos (by simpa using c)];rfl
 ·subst hb
  have c:¬(x.kind≠3∨x.dst≠s.router):=by simpa using c
  have e0:¬sigErr x≠0:=by simpa using e
  rw [if_neg e0,if_neg c]
  by_cases hit:hitP s.peers x.src
  case neg =>
   rw [if_neg hit,if_pos hit]
   exact ⟨fun _=>rfl,fun q=>by omega⟩
  rw [if_pos hit,if_neg (not_not_intro hit),Int.toNat_natCast]
  have hp:=hit.1
  have hpl:=hs.2.2.2.2.1
  refine ⟨fun q=>by omega,fun _=>⟨⟨⟨fun k=>?_,fun k=>?_⟩,fun b2 hb2=>⟨fun q=>?_,fun q=>?_⟩⟩,?_⟩⟩
  ·have k:x.epoch=s.epoch:=by simpa using k
   simp [k]
  ·have k:¬x.epoch=s.epoch:=by simpa using k
   simp [k]
  ·subst hb2
   unfold ackV;rw [if_pos (by simpa using q)]
  ·subst hb2
   unfold ackV;rw [if_neg (by simpa using q)]
  ·rintro _ rfl
   have hat:∀y,s.peers[posP s.peers x.src]?=some y→s.peers.getD (posP s.peers x.src) ⟨0,0,0⟩=y:=fun y hy=>by rw [List.getD_eq_getElem?_getD,hy];rfl
   refine ⟨by omega,by rw [decide_eq_true (by omega),decide_eq_true (by omega)];rfl,hp,fun y hy=>⟨fun q=>⟨hp,fun y2 hy2=>⟨by simpa using hp,fun y3 hy3=>?_⟩⟩,fun q=>⟨hp,fun y4 hy4=>⟨fun q2=>⟨hp,fun y5 hy5=>⟨hp,fun y6 hy6=>?_⟩⟩,fun q2=>?_⟩⟩⟩⟩
   ·rw [hy] at hy2;cases hy2
    rw [List.getElem?_set_self hp] at hy3
    cases hy3
    rw [hat _ hy,List.set_set]
    unfold ackP
    rw [if_pos q]
   ·rw [hy] at hy4 hy5 hy6;cases hy4;cases hy5;cases hy6
    rw [hat _ hy]
    unfold ackP
    rw [if_neg q,if_pos (by simpa using q2)]
   ·rw [hy] at hy4;cases hy4
    rw [hat _ hy]
    unfold ackP
    rw [if_neg q,if_neg (by simpa using q2)]
    have:s.peers.set (posP s.peers x.src) y=s.peers:=by
     refine List.ext_getElem (by simp) fun j h1 h2=>?_
     rw [List.getElem_set]
     split
     ·rename_i e';subst e'
      exact ((List.getElem?_eq_some_iff.mp hy).2).symm
     ·rfl
    rw [this]
def ackR_c(s:Spk)(x:Sig):PC Tryz.prog:=⟨62,[(.a [.k,.k,.k,(.s 4),(.s 3)]),(.a [.k,.k,.k,.k,.k,.k,.k,.k,.k,(.s 1)])],[.agg [.int s.router,.int s.epoch,.int s.last,.sl 4 (s.items.map Itm.v) false,.sl 3 (s.peers.map Per.v) false],.agg [.int x.kind,.int x.src,.int x.dst,.int x.epoch,.int x.ver,.int x.prev,.int x.pep,.int x.grp,.int x.mode,.sl 1 (x.srcs.map AV.int) false]],ackR_e (ack s x),PSpec.of_ok fun ok=>(ackR_p s x ok).elim fun I0 h=>h.elim fun I1 h=>h.elim fun I2 h=>mxP_of (sh:=(.a [(.a [.k,.k,.k,(.s 4),(.s 3)]),.k])) (enc:=ackR_e) (a:=(ackR_x s x I0 I1 I2).an) h (by kernel_rfl) (AV.pureB_ok rfl),fnB_ok (by kernel_rfl)⟩
def bld(l:List Hrd)(r:Int)(h:Hrd)(k:Nat):List Hrd:=l.take (min k (posH l r))++((if posH l r<k then [h] else [])++((l.take k).drop (posH l r)).filter fun y=>decide (y.router≠r))
theorem bld_succ{l:List Hrd}{r:Int}{h x:Hrd}{k:Nat}(ho:l.Pairwise fun x y=>x.router<y.router)(hx:l[k]?=some x) :
  (posH l r=k↔¬posH l r<k∧r≤x.router)∧bld l r h (k+1)=bld l r h k++((if posH l r=k then [h] else [])++if x.router≠r then [x] else []):=by
 obtain ⟨hk,hxk⟩:=List.getElem?_eq_some_iff.mp hx
 have hlt:k<posH l r→x.router<r:=fun q=>by have:=posK_lt (key:=Hrd.router) (l:=l) (r:=r) q hk;rw [hxk] at this;exact this
 have hge:posH l r≤k→r≤x.router:=fun q=>by have:=posK_ge (key:=Hrd.router) (r:=r) ho hk q;rw [hxk] at this;exact this
 refine ⟨⟨fun e=>⟨by omega,hge (by omega)⟩,fun ⟨e1,e2⟩=>?_⟩,?_⟩
 ·rcases Nat.lt_or_ge k (posH l r) with q|q
  ·have:=hlt q;omega
  ·omega
 unfold bld
 rw [take_succ hx]
 rcases Nat.lt_trichotomy k (posH l r) with q|q|q
 ·have h1:=hlt q
  rw [if_neg (by omega),if_neg (by omega),if_neg (by omega),if_pos (by omega),Nat.min_eq_left (by omega),Nat.min_eq_left (by omega)]
  rw [List.drop_eq_nil_of_le (by simp;omega),List.drop_eq_nil_of_le (by simp;omega),take_succ hx]
  simp
 ·rw [if_pos (by omega),if_neg (by omega),if_pos q.symm,Nat.min_eq_right (by omega),Nat.min_eq_left (by omega),←q]
  rw [List.drop_append_of_le_length (by simp;omega),List.drop_eq_nil_of_le (by simp;omega)]
  by_cases e:x.router=r<;>simp [e]
 ·rw [if_pos (by omega),if_pos (by omega),if_neg (by omega),Nat.min_eq_right (by omega),Nat.min_eq_right (by omega)]
  rw [List.drop_append_of_le_length (by simp;omega),List.filter_append]
  by_cases e:x.router=r<;>simp [e]
theorem bld_len{l:List Hrd}{r:Int}{h:Hrd}{k:Nat}:(bld l r h k).length≤l.length+l.length+1:=by
 unfold bld
 have:=List.length_filter_le (fun y:Hrd=>decide (y.router≠r)) ((l.take k).drop (posH l r))
 simp only [List.length_append,List.length_take,List.length_drop] at *
 split<;>simp only [List.length_cons,List.length_nil]<;>omega
theorem bld_fin{l:List Hrd}{r:Int}{h:Hrd}(ho:l.Pairwise fun x y=>x.router<y.router)(hr:h.router=r):bld l r h l.length++(if posH l r<l.length then [] else [h])=(base l r).set (posH l r) h:=by
 have hp:posH l r≤l.length:=List.findIdx_le_length
 unfold bld
 rw [List.take_length,Nat.min_eq_right hp]
 by_cases hh:∃z∈l,z.router=r
 ·have hit:=(hitH_iff ho).mpr hh
  have hlt:=hit.1
  rw [if_pos hlt,if_pos hlt,base,if_pos hit,List.append_nil,List.set_eq_take_append_cons_drop,if_pos hlt]
  congr 1
  rw [List.drop_eq_getElem_cons hlt,List.filter_cons]
  have h2:(l[posH l r]'hlt).router=r:=by
   have:=hit.2
   rw [List.getD_eq_getElem?_getD,List.getElem?_eq_getElem hlt] at this
   exact this
  rw [if_neg (by simp [h2]),List.filter_eq_self.mpr]
  ·rfl
  ·intro y hy
   obtain ⟨i,hi,rfl⟩:=List.getElem_of_mem hy
   rw [List.getElem_drop]
   simp only [List.length_drop] at hi
   have:=List.pairwise_iff_getElem.mp ho (posH l r) (posH l r+1+i) hlt (by omega) (by omega)
   rw [h2] at this
   simp only [ne_eq,decide_not,Bool.not_eq_true',decide_eq_false_iff_not]
   omega
 ·have hn:¬hitH l r:=fun q=>hh ((hitH_iff ho).mp q)
  have hf:(l.drop (posH l r)).filter (fun y=>decide (y.router≠r))=l.drop (posH l r):=List.filter_eq_self.mpr fun y hy=>by
   have:=List.mem_of_mem_drop hy
   simpa using fun e=>hh ⟨y,this,e⟩
  have hb:base l r=l.take (posH l r)++⟨r,0,0,[]⟩::l.drop (posH l r):=by rw [base,if_neg hn,insAt_cons]
  have e:=(ins_setK (key:=Hrd.router) (z0:=⟨r,0,0,[]⟩) ho hh hr).1
  rw [hf,hb]
  refine Eq.trans ?_ e.symm
  show _=l.take (posH l r)++h::l.drop (posH l r)
  by_cases hlt:posH l r<l.length
  ·rw [if_pos hlt,if_pos hlt];simp
  ·rw [if_neg hlt,if_neg hlt,List.drop_eq_nil_of_le (by omega)];simp
theorem gOf_take{l:List Hrd}{r:Int}{x:Hrd}{k:Nat}(ho:l.Pairwise fun x y=>x.router<y.router)(hx:l[k]?=some x):gOf (l.take (k+1)) r=if x.router=r then x else gOf (l.take k) r:=by
 have o1:∀j,(l.take j).Pairwise fun x y=>x.router<y.router:=fun j=>ho.sublist (List.take_sublist _ _)
 have hm:x∈l.take (k+1):=by rw [take_succ hx];simp
 split
 ·rename_i e;subst e;exact gOf_mem (o1 _) hm
 ·rename_i e
  by_cases hh:∃z∈l.take k,z.router=r
  ·obtain ⟨z,hz,rfl⟩:=hh
   rw [gOf_mem (o1 _) hz,gOf_mem (o1 _) (by rw [take_succ hx];simp [hz])]
  ·rw [gOf_no (o1 _) hh,gOf_no (o1 _)]
   rintro ⟨z,hz,e2⟩
   rw [take_succ hx] at hz
   rcases List.mem_append.mp hz with hz|hz
   ·exact hh ⟨z,hz,e2⟩
   ·rw [List.mem_singleton] at hz;subst hz;exact e e2
def hearR_a(l:Lsn)(x:Sig):Prop:=okL [.agg [.int l.router,.int l.epoch,.sl 4 (l.heard.map Hrd.v) false],.agg [.int x.kind,.int x.src,.int x.dst,.int x.epoch,.int x.ver,.int x.prev,.int x.pep,.int x.grp,.int x.mode,.sl 1 (x.srcs.map AV.int) false]]
def hearR_n0(l:Lsn)(x:Sig)(t0:Bool):NF:=⟨[(2,.k,.ref 0 0),(3,.k,.ref 1 0),(4,.k,.ref 2 0),(5,.k,.ref 3 0),(39,.k,.bool t0)],[.box (.agg [.int l.router,.int l.epoch,.sl 4 (l.heard.map Hrd.v) false]),.box (.agg [.int x.kind,.int x.src,.int x.dst,.int x.epoch,.int x.ver,.int x.prev,.int x.pep,.int x.grp,.int x.mode,.sl 1 (x.srcs.map AV.int) false]),.box (.agg [.int 0,.int 0,.sl 0 [] true]),.box (.agg [.int 0,.int 0,.int 0,.int 0,.int 0,.int 0,.int 0,.int 0,.int 0,.sl 0 [] true])]⟩
def hearR_n1(l:Lsn)(x:Sig)(t1:Int×Hrd):NF:=⟨[(2,.k,.ref 0 0),(3,.k,.ref 1 0),(4,.k,.ref 2 0),(5,.k,.ref 3 0),(9,.k,.ref 4 0),(10,.k,.ref 5 0),(51,.k,.sl 4 (l.heard.map Hrd.v) false),(52,.k,.int ((l.heard.map Hrd.v).length:Int)),(53,.k,.int t1.1)],[.box (.agg [.int l.router,.int l.epoch,.sl 4 (l.heard.map Hrd.v) false]),.box (.agg [.int x.kind,.int x.src,.int x.dst,.int x.epoch,.int x.ver,.int x.prev,.int x.pep,.int x.grp,.int x.mode,.sl 1 (x.srcs.map AV.int) false]),.box (.agg [.int 0,.int 0,.sl 0 [] true]),.box (.agg [.int 0,.int 0,.int 0,.int 0,.int 0,.int 0,.int 0,.int 0,.int 0,.sl 0 [] true]),.box (.agg [.int l.router,.int l.epoch,.sl 0 [] true]),.box (.agg [.int t1.2.router,.int t1.2.epoch,.int t1.2.ver,.sl 4 (t1.2.items.map Itm.v) false])]⟩
def hearR_n2(l:Lsn)(x:Sig)(t1:Int×Hrd)(t2:Bool):NF:=⟨[(2,.k,.ref 0 0),(3,.k,.ref 1 0),(4,.k,.ref 2 0),(5,.k,.ref 3 0),(9,.k,.ref 4 0),(10,.k,.ref 5 0),(72,.k,.bool t2)],[.box (.agg [.int l.router,.int l.epoch,.sl 4 (l.heard.map Hrd.v) false]),.box (.agg [.int x.kind,.int x.src,.int x.dst,.int x.epoch,.int x.ver,.int x.prev,.int x.pep,.int x.grp,.int x.mode,.sl 1 (x.srcs.map AV.int) false]),.box (.agg [.int 0,.int 0,.sl 0 [] true]),.box (.agg [.int 0,.int 0,.int 0,.int 0,.int 0,.int 0,.int 0,.int 0,.int 0,.sl 0 [] true]),.box (.agg [.int l.router,.int l.epoch,.sl 0 [] true]),.box (.agg [.int t1.2.router,.int t1.2.epoch,.int t1.2.ver,.sl 4 (t1.2.items.map Itm.v) false])]⟩
def hearR_n3(l:Lsn)(x:Sig)(t3:Hrd):NF:=⟨[(2,.k,.ref 0 0),(3,.k,.ref 1 0),(4,.k,.ref 2 0),(5,.k,.ref 3 0),(9,.k,.ref 4 0),(10,.k,.ref 5 0)],[.box (.agg [.int l.router,.int l.epoch,.sl 4 (l.heard.map Hrd.v) false]),.box (.agg [.int x.kind,.int x.src,.int x.dst,.int x.epoch,.int x.ver,.int x.prev,.int x.pep,.int x.grp,.int x.mode,.sl 1 (x.srcs.map AV.int) false]),.box (.agg [.int 0,.int 0,.sl 0 [] true]),.box (.agg [.int 0,.int 0,.int 0,.int 0,.int 0,.int 0,.int 0,.int 0,.int 0,.sl 0 [] true]),.box (.agg [.int l.router,.int l.epoch,.sl 0 [] true]),.box (.agg [.int t3.router,.int t3.epoch,.int t3.ver,.sl 4 (t3.items.map Itm.v) false])]⟩
def hearR_n4(l:Lsn)(x:Sig)(t4:Hrd):NF:=⟨[(2,.k,.ref 0 0),(3,.k,.ref 1 0),(4,.k,.ref 2 0),(5,.k,.ref 3 0),(9,.k,.ref 4 0),(10,.k,.ref 5 0)],[.box (.agg [.int l.router,.int l.epoch,.sl 4 (l.heard.map Hrd.v) false]),.box (.agg [.int x.kind,.int x.src,.int x.dst,.int x.epoch,.int x.ver,.int x.prev,.int x.pep,.int x.grp,.int x.mode,.sl 1 (x.srcs.map AV.int) false]),.box (.agg [.int 0,.int 0,.sl 0 [] true]),.box (.agg [.int 0,.int 0,.int 0,.int 0,.int 0,.int 0,.int 0,.int 0,.int 0,.sl 0 [] true]),.box (.agg [.int l.router,.int l.epoch,.sl 0 [] true]),.box (.agg [.int t4.router,.int t4.epoch,.int t4.ver,.sl 4 (t4.items.map Itm.v) false])]⟩
def hearR_n5(l:Lsn)(x:Sig)(t3:Hrd)(t5:Bool):NF:=⟨[(2,.k,.ref 0 0),(3,.k,.ref 1 0),(4,.k,.ref 2 0),(5,.k,.ref 3 0),(9,.k,.ref 4 0),(10,.k,.ref 5 0),(108,.k,.bool t5)],[.box (.agg [.int l.router,.int l.epoch,.sl 4 (l.heard.map Hrd.v) false]),.box (.agg [.int x.kind,.int x.src,.int x.dst,.int x.epoch,.int x.ver,.int x.prev,.int x.pep,.int x.grp,.int x.mode,.sl 1 (x.srcs.map AV.int) false]),.box (.agg [.int 0,.int 0,.sl 0 [] true]),.box (.agg [.int 0,.int 0,.int 0,.int 0,.int 0,.int 0,.int 0,.int 0,.int 0,.sl 0 [] true]),.box (.agg [.int l.router,.int l.epoch,.sl 0 [] true]),.box (.agg [.int t3.router,.int t3.epoch,.int t3.ver,.sl 4 (t3.items.map Itm.v) false])]⟩
def hearR_n6(l:Lsn)(x:Sig)(t4:Hrd)(t6:Bool×Int×(List Hrd)):NF:=⟨[(2,.k,.ref 0 0),(3,.k,.ref 1 0),(4,.k,.ref 2 0),(5,.k,.ref 3 0),(9,.k,.ref 4 0),(10,.k,.ref 6 0),(13,.k,.bool t6.1),(124,.k,.sl 4 (l.heard.map Hrd.v) false),(125,.k,.int ((l.heard.map Hrd.v).length:Int)),(126,.k,.int t6.2.1)],[.box (.agg [.int l.router,.int l.epoch,.sl 4 (l.heard.map Hrd.v) false]),.box (.agg [.int x.kind,.int x.src,.int x.dst,.int x.epoch,.int x.ver,.int x.prev,.int x.pep,.int x.grp,.int x.mode,.sl 1 (x.srcs.map AV.int) false]),.box (.agg [.int 0,.int 0,.sl 0 [] true]),.box (.agg [.int 0,.int 0,.int 0,.int 0,.int 0,.int 0,.int 0,.int 0,.int 0,.sl 0 [] true]),.box (.agg [.int l.router,.int l.epoch,.vec 5]),.vec 4 (t6.2.2.map Hrd.v) (pureBL_map (fun _=>rfl) t6.2.2),.box (.agg [.int t4.router,.int t4.epoch,.int t4.ver,.sl 4 (t4.items.map Itm.v) false])]⟩
def hearR_n7(l:Lsn)(x:Sig)(t4:Hrd)(t6:Bool×Int×(List Hrd))(x3:Hrd)(t7:Bool×(List Hrd)):NF:=⟨[(2,.k,.ref 0 0),(3,.k,.ref 1 0),(4,.k,.ref 2 0),(5,.k,.ref 3 0),(9,.k,.ref 4 0),(10,.k,.ref 6 0),(13,.k,.bool t7.1),(15,.k,.ref 7 0),(124,.k,.sl 4 (l.heard.map Hrd.v) false),(125,.k,.int ((l.heard.map Hrd.v).length:Int)),(126,.k,.int t6.2.1)],[.box (.agg [.int l.router,.int l.epoch,.sl 4 (l.heard.map Hrd.v) false]),.box (.agg [.int x.kind,.int x.src,.int x.dst,.int x.epoch,.int x.ver,.int x.prev,.int x.pep,.int x.grp,.int x.mode,.sl 1 (x.srcs.map AV.int) false]),.box (.agg [.int 0,.int 0,.sl 0 [] true]),.box (.agg [.int 0,.int 0,.int 0,.int 0,.int 0,.int 0,.int 0,.int 0,.int 0,.sl 0 [] true]),.box (.agg [.int l.router,.int l.epoch,.vec 5]),.vec 4 (t7.2.map Hrd.v) (pureBL_map (fun _=>rfl) t7.2),.box (.agg [.int t4.router,.int t4.epoch,.int t4.ver,.sl 4 (t4.items.map Itm.v) false]),.box (.agg [.int x3.router,.int x3.epoch,.int x3.ver,.sl 4 (x3.items.map Itm.v) false])]⟩
def hearR_n8(l:Lsn)(x:Sig)(t4:Hrd)(t6:Bool×Int×(List Hrd))(x3:Hrd)(t8:Bool):NF:=⟨[(2,.k,.ref 0 0),(3,.k,.ref 1 0),(4,.k,.ref 2 0),(5,.k,.ref 3 0),(9,.k,.ref 4 0),(10,.k,.ref 6 0),(13,.k,.bool t6.1),(15,.k,.ref 7 0),(124,.k,.sl 4 (l.heard.map Hrd.v) false),(125,.k,.int ((l.heard.map Hrd.v).length:Int)),(126,.k,.int t6.2.1),(138,.k,.bool t8)],[.box (.agg [.int l.router,.int l.epoch,.sl 4 (l.heard.map Hrd.v) false]),.box (.agg [.int x.kind,.int x.src,.int x.dst,.int x.epoch,.int x.ver,.int x.prev,.int x.pep,.int x.grp,.int x.mode,.sl 1 (x.srcs.map AV.int) false]),.box (.agg [.int 0,.int 0,.sl 0 [] true]),.box (.agg [.int 0,.int 0,.int 0,.int 0,.int 0,.int 0,.int 0,.int 0,.int 0,.sl 0 [] true]),.box (.agg [.int l.router,.int l.epoch,.vec 5]),.vec 4 (t6.2.2.map Hrd.v) (pureBL_map (fun _=>rfl) t6.2.2),.box (.agg [.int t4.router,.int t4.epoch,.int t4.ver,.sl 4 (t4.items.map Itm.v) false]),.box (.agg [.int x3.router,.int x3.epoch,.int x3.ver,.sl 4 (x3.items.map Itm.v) false])]⟩
def hearR_n9(l:Lsn)(x:Sig)(t4:Hrd)(t9:(List Hrd)):NF:=⟨[(2,.k,.ref 0 0),(3,.k,.ref 1 0),(4,.k,.ref 2 0),(5,.k,.ref 3 0),(9,.k,.ref 4 0),(10,.k,.ref 6 0)],[.box (.agg [.int l.router,.int l.epoch,.sl 4 (l.heard.map Hrd.v) false]),.box (.agg [.int x.kind,.int x.src,.int x.dst,.int x.epoch,.int x.ver,.int x.prev,.int x.pep,.int x.grp,.int x.mode,.sl 1 (x.srcs.map AV.int) false]),.box (.agg [.int 0,.int 0,.sl 0 [] true]),.box (.agg [.int 0,.int 0,.int 0,.int 0,.int 0,.int 0,.int 0,.int 0,.int 0,.sl 0 [] true]),.box (.agg [.int l.router,.int l.epoch,.vec 5]),.vec 4 (t9.map Hrd.v) (pureBL_map (fun _=>rfl) t9),.box (.agg [.int t4.router,.int t4.epoch,.int t4.ver,.sl 4 (t4.items.map Itm.v) false])]⟩
@[reducible] def hearR_s:Nat→Type
 | 0=>Bool
 | 1=>Int×Hrd
 | 2=>Bool
 | 3=>Hrd
 | 4=>Hrd
 | 5=>Bool
 | 6=>Bool×Int×(List Hrd)
 | 7=>Bool×(List Hrd)
 | 8=>Bool
 | 9=>(List Hrd)
 | _=>Unit
def hearR_e(r:Lsn×Sig×Int):AV:=.tup [Lsn.v r.1,Sig.v r.2.1,.int r.2.2]
def hearR_x(l:Lsn)(x:Sig)(I0:Bool→Prop)(I1:Bool→(Int×Hrd)→Prop)(m1:Bool→(Int×Hrd)→Nat)(I2:Bool→Int×Hrd→Bool→Prop)(I3:Bool→Int×Hrd→Bool→Hrd→Prop)(I4:Bool→Int×Hrd→Bool→Hrd→Hrd→Prop)(I5:Bool→Int×Hrd→Bool→Hrd→Bool→Prop)(I6:Bool→Int×Hrd→Bool→Hrd→Hrd→(Bool×Int×(List Hrd))→Prop)(m6:Bool→Int×Hrd→Bool→Hrd→Hrd→(Bool×Int×(List Hrd))→Nat)(I7:Bool→Int×Hrd→Bool→Hrd→Hrd→Bool×Int×(List Hrd)→Hrd→(Bool×(List Hrd))→Prop)(I8:Bool→Int×Hrd→Bool→Hrd→Hrd→Bool×Int×(List Hrd)→Hrd→Bool→Prop)(I9:Bool→Int×Hrd→Bool→Hrd→Hrd→Bool×Int×(List Hrd)→(List Hrd)→Prop):Ax Tryz.prog hearR_s (Lsn×Sig×Int):=
 (.callP (valLR_c l)
(.br 160 ((valL l) != 0) (.ret ((⟨0,0,[]⟩:Lsn),(⟨0,0,0,0,0,0,0,0,0,[]⟩:Sig),valL l))
(.callP (sigVR_c x)
(.br 240 ((sigErr x) != 0) (.ret ((⟨0,0,[]⟩:Lsn),(⟨0,0,0,0,0,0,0,0,0,[]⟩:Sig),sigErr x))
(.pass (.join 0 (hearR_n0 l x) (fun (t0:Bool)=>I0 t0) (fun b0=>(.br 304 (x.kind==3) (.bk 0 b0 ((true):Bool) [0,16,32,48])
(.bk 0 b0 ((x.dst != l.router):Bool) [0,16,32,48]))) fun (t0:Bool) =>
(.br 4 t0 (.ret ((⟨0,0,[]⟩:Lsn),(⟨0,0,0,0,0,0,0,0,0,[]⟩:Sig),1))
(.cmdL (.wkB 164 (.a [.k,.k,.k,.s 4])) (.loop 1 (hearR_n1 l x) (I1 t0) (m1 t0) (0,(⟨x.src,0,0,[]⟩:Hrd)) [0,1,2,3,84,164] fun (t1:Int×Hrd) b1 =>
(.br 22 (decide (t1.1<((l.heard.map Hrd.v).length:Int))) (.el 22 Hrd.v l.heard (fun R=>Rf (l.heard.map Hrd.v) (ck (decide (0≤t1.1)) (ck (decide (t1.1<(l.heard.length:Int)))
(∀x1,l.heard[t1.1.toNat]?=some x1 →
(R x1))))) fun x1 =>
(.br 166 (x1.router==x.src) (.bk 1 b1 (W (t1.1+1),x1) [0,1,2,3,4,5])
(.bk 1 b1 (W (t1.1+1),t1.2) [0,1,2,3,4,5])))
(.pass (.join 2 (hearR_n2 l x t1) (fun (t2:Bool)=>I2 t0 t1 t2) (fun b2=>(.br 86 (t1.2.epoch==0) (.bk 2 b2 ((decide (12≤((l.heard.map Hrd.v).length:Int))):Bool) [0,1,2,3,4,5])
(.bk 2 b2 ((false):Bool) [0,1,2,3,4,5]))) fun (t2:Bool) =>
(.br 6 t2 (.ret ((⟨0,0,[]⟩:Lsn),(⟨0,0,0,0,0,0,0,0,0,[]⟩:Sig),3))
(.join 3 (hearR_n3 l x) (fun (t3:Hrd)=>I3 t0 t1 t2 t3) (fun b3=>(.br 86 (decide (t1.2.epoch<x.epoch)) (.cmdL (.wkB 5 (.a [.k,.k,.k,.s 4])) (.bk 3 b3 (((⟨x.src,x.epoch,0,[]⟩:Hrd)):Hrd) [0,1,2,3,4,5]))
(.bk 3 b3 ((t1.2):Hrd) [0,1,2,3,4,5]))) fun (t3:Hrd) =>
(.join 4 (hearR_n4 l x) (fun (t4:Hrd)=>I4 t0 t1 t2 t3 t4) (fun b4=>(.join 5 (hearR_n5 l x t3) (fun (t5:Bool)=>I5 t0 t1 t2 t3 t5) (fun b5=>(.br 70 (x.kind==2) (.br 182 (x.epoch==t3.epoch) (.br 294 (decide (x.prev≤t3.ver)) (.bk 5 b5 ((decide (t3.ver<x.ver)):Bool) [0,1,2,3,4,5])
(.bk 5 b5 ((false):Bool) [0,1,2,3,4,5]))
(.bk 5 b5 ((false):Bool) [0,1,2,3,4,5]))
(.bk 5 b5 ((false):Bool) [0,1,2,3,4,5]))) fun (t5:Bool) =>
(.br 6 t5 (.req 150 (t3.items.length≤999999) fun h2 =>
(.callP (putR_c t3.items (⟨x.ver,x.grp,x.mode,x.srcs⟩:Itm) h2)
(.bk 4 b4 (((⟨t3.router,t3.epoch,x.ver,put1 t3.items (⟨x.ver,x.grp,x.mode,x.srcs⟩:Itm)⟩:Hrd)):Hrd) [0,1,2,3,4,5])))
(.bk 4 b4 ((t3):Hrd) [0,1,2,3,4,5])))) fun (t4:Hrd) =>
(.cmdL (.nilB 4 2 4) (.loop 6 (hearR_n6 l x t4) (I6 t0 t1 t2 t3 t4) (m6 t0 t1 t2 t3 t4) (false,0,[]) [0,1,2,3,4,86,5] fun (t6:Bool×Int×(List Hrd)) b6 =>
(.br 23 (decide (t6.2.1<((l.heard.map Hrd.v).length:Int))) (.el 23 Hrd.v l.heard (fun R=>Rf (l.heard.map Hrd.v) (ck (decide (0≤t6.2.1)) (ck (decide (t6.2.1<(l.heard.length:Int)))
(∀x3,l.heard[t6.2.1.toNat]?=some x3 →
(R x3))))) fun x3 =>
(.join 7 (hearR_n7 l x t4 t6 x3) (fun (t7:Bool×(List Hrd))=>I7 t0 t1 t2 t3 t4 t6 x3 t7) (fun b7=>(.join 8 (hearR_n8 l x t4 t6 x3) (fun (t8:Bool)=>I8 t0 t1 t2 t3 t4 t6 x3 t8) (fun b8=>(.br 135 (!t6.1) (.bk 8 b8 ((decide (x.src≤x3.router)):Bool) [0,1,2,3,4,5,6,55])
(.bk 8 b8 ((false):Bool) [0,1,2,3,4,5,6,55]))) fun (t8:Bool) =>
(.br 8 t8 (.say (fun R=>Rf (α:=List AV) (t6.2.2.map Hrd.v) (Rf (α:=List AV) [.agg [.int t4.router,.int t4.epoch,.int t4.ver,.sl 4 (t4.items.map Itm.v) false]]
(ck (decide (t6.2.2.length+1≤1048576))
R))) (.app 72 Hrd.v t6.2.2 [t4]
(.bk 7 b7 (true,t6.2.2++[t4]) [0,1,2,3,4,72,6,7])))
(.bk 7 b7 (t6.1,t6.2.2) [0,1,2,3,4,5,6,7])))) fun (t7:Bool×(List Hrd)) =>
(.br 88 (x3.router != x.src) (.say (fun R=>Rf (α:=List AV) (t7.2.map Hrd.v) (Rf (α:=List AV) [.agg [.int x3.router,.int x3.epoch,.int x3.ver,.sl 4 (x3.items.map Itm.v) false]]
(ck (decide (t7.2.length+1≤1048576))
R))) (.app 152 Hrd.v t7.2 [x3]
(.bk 6 b6 (t7.1,W (t6.2.1+1),t7.2++[x3]) [0,1,2,3,4,152,6])))
(.bk 6 b6 (t7.1,W (t6.2.1+1),t7.2) [0,1,2,3,4,5,6]))))
(.join 9 (hearR_n9 l x t4) (fun (t9:(List Hrd))=>I9 t0 t1 t2 t3 t4 t6 t9) (fun b9=>(.br 55 (!t6.1) (.say (fun R=>Rf (α:=List AV) (t6.2.2.map Hrd.v) (Rf (α:=List AV) [.agg [.int t4.router,.int t4.epoch,.int t4.ver,.sl 4 (t4.items.map Itm.v) false]]
(ck (decide (t6.2.2.length+1≤1048576))
R))) (.app 119 Hrd.v t6.2.2 [t4]
(.bk 9 b9 ((t6.2.2++[t4]):(List Hrd)) [0,1,2,3,4,119,6])))
(.bk 9 b9 ((t6.2.2):(List Hrd)) [0,1,2,3,4,5,6]))) fun (t9:(List Hrd)) =>
(.say (Rf (t9.map Hrd.v)) (.cmdL (.frzE 5 (t9.map Hrd.v) (pureBL_map (fun _=>rfl) t9)) (.ret ((⟨l.router,l.epoch,t9⟩:Lsn),(⟨3,l.router,x.src,t4.epoch,t4.ver,0,l.epoch,0,0,[]⟩:Sig),0)))))))))))))))))))))))
def hearR_vc(l:Lsn)(x:Sig)(I0:Bool→Prop)(I1:Bool→(Int×Hrd)→Prop)(m1:Bool→(Int×Hrd)→Nat)(I2:Bool→Int×Hrd→Bool→Prop)(I3:Bool→Int×Hrd→Bool→Hrd→Prop)(I4:Bool→Int×Hrd→Bool→Hrd→Hrd→Prop)(I5:Bool→Int×Hrd→Bool→Hrd→Bool→Prop)(I6:Bool→Int×Hrd→Bool→Hrd→Hrd→(Bool×Int×(List Hrd))→Prop)(m6:Bool→Int×Hrd→Bool→Hrd→Hrd→(Bool×Int×(List Hrd))→Nat)(I7:Bool→Int×Hrd→Bool→Hrd→Hrd→Bool×Int×(List Hrd)→Hrd→(Bool×(List Hrd))→Prop)(I8:Bool→Int×Hrd→Bool→Hrd→Hrd→Bool×Int×(List Hrd)→Hrd→Bool→Prop)(I9:Bool→Int×Hrd→Bool→Hrd→Hrd→Bool×Int×(List Hrd)→(List Hrd)→Prop)(r0:Lsn×Sig×Int):Prop:=(hearR_x l x I0 I1 m1 I2 I3 I4 I5 I6 m6 I7 I8 I9).vp hearR_e r0
theorem hearR_p(l:Lsn)(x:Sig)(ok:hearR_a l x):∃I0 I1 m1 I2 I3 I4 I5 I6 m6 I7 I8 I9,hearR_vc l x I0 I1 m1 I2 I3 I4 I5 I6 m6 I7 I8 I9 ((hear l x).1.1,(hear l x).1.2,(hear l x).2):=by
 refine ⟨fun b=>b=decide (x.kind=3∨x.dst≠l.router),fun b t=>∃k:Nat,t.1=k∧k≤l.heard.length∧t.2=gOf (l.heard.take k) x.src,fun b t=>l.heard.length-t.1.toNat,
  fun b t c=>c=decide (t.2.epoch=0∧12≤l.heard.length),fun b t c h=>h=hear0 t.2 x,fun b t c h h'=>h'=hear1 h x,fun b t c h d=>d=decide (x.kind=2∧x.epoch=h.epoch∧x.prev≤h.ver∧h.ver<x.ver),
  fun b t c h h' u=>∃k:Nat,u.2.1=k∧k≤l.heard.length∧u.1=decide (posH l.heard x.src<k)∧u.2.2=bld l.heard x.src h' k,fun b t c h h' u=>l.heard.length-u.2.1.toNat,
  fun b t c h h' u y w=>w=(decide (posH l.heard x.src<u.2.1.toNat+1),bld l.heard x.src h' u.2.1.toNat++if posH l.heard x.src=u.2.1.toNat then [h'] else []),fun b t c h h' u y d=>d=decide (posH l.heard x.src=u.2.1.toNat),
  fun b t c h h' u w=>w=bld l.heard x.src h' l.heard.length++if posH l.heard x.src<l.heard.length then [] else [h'],?_⟩
 dsimp only [hearR_vc,hearR_x,hearR_s,Ax.vp,Ax.vc];simp only [vcU,rfU,List.length_map]
 have hv:valL l=if lsnOk l then 0 else 1:=rfl
 rw [hv]
 unfold hear
 by_cases hs:lsnOk l
 case neg=>rw [if_neg hs,if_pos hs];simp [lsn0,sig0]
 have ho:=hs.2.2.2.2
 have hl:=hs.2.2.1
 rw [if_pos hs,if_neg (not_not_intro hs)]
 refine ⟨fun e=>by simp at e,fun _=>⟨fun e=>?_,fun e=>⟨⟨fun k=>?_,fun k=>?_⟩,fun b hb=>⟨fun c=>?_,fun c=>⟨⟨0,rfl,by omega,(gOf_no List.Pairwise.nil (by simp)).symm⟩,?_⟩⟩⟩⟩⟩
 ·rw [if_pos (by simpa using e)];rfl
 ·exact (decide_eq_true (.inl (by simpa using k))).symm
 ·have k:¬x.kind=3:=by simpa using k
  by_cases q:x.dst=l.router<;>simp [q,k]
 ·subst hb
  rw [if_neg (by simpa using e),if_pos (by simpa using c)];rfl
 ·subst hb
  have c:¬(x.kind=3∨x.dst≠l.router):=by simpa using c
  rw [if_neg (by simpa using e),if_neg c]
  rintro ⟨_,_⟩ ⟨k,rfl,hk,rfl⟩
  simp only [Int.toNat_natCast]
  refine ⟨fun h1=>⟨by omega,by omega,fun y hy=>?_⟩,fun h1=>?_⟩
  ·rw [W_succ (n:=l.heard.length) (by omega) (by omega)]
   have:=gOf_take (r:=x.src) ho hy
   refine ⟨fun q=>⟨⟨k+1,rfl,by omega,?_⟩,by omega⟩,fun q=>⟨⟨k+1,rfl,by omega,?_⟩,by omega⟩⟩
   ·rw [this,if_pos (by simpa using q)]
   ·rw [this,if_neg (by simpa using q)]
  rw [List.take_of_length_le (by omega)]
  have hg:=gOf_router (r:=x.src) ho
  have hep:(gOf l.heard x.src).epoch=0↔¬hitH l.heard x.src:=by
   rw [hitH_iff ho]
   by_cases hh:∃z∈l.heard,z.router=x.src
   ·obtain ⟨z,hz,hzr⟩:=hh
    have:gOf l.heard x.src=z:=by rw [←hzr];exact gOf_mem ho hz
    rw [this]
    have:=(hs.2.2.2.1 z hz).2.2.1
    exact ⟨fun q=>by omega,fun q=>absurd ⟨z,hz,hzr⟩ q⟩
   ·rw [gOf_no ho hh];simp [hh]
  have hH:hearH l.heard x=hear1 (hear0 (gOf l.heard x.src) x) x:=rfl
  refine ⟨⟨fun q=>?_,fun q=>?_⟩,fun c2 hc2=>⟨fun q=>?_,fun q=>⟨⟨fun q2=>?_,fun q2=>?_⟩,?_⟩⟩⟩
  ·have q:(gOf l.heard x.src).epoch=0:=by simpa using q
   simp [q];omega
  ·have q:¬(gOf l.heard x.src).epoch=0:=by simpa using q
   simp [q]
  ·subst hc2
   have q:(gOf l.heard x.src).epoch=0∧12≤l.heard.length:=by simpa using q
   rw [if_pos ⟨hep.mp q.1,by omega⟩];rfl
  ·unfold hear0;rw [if_pos q2]
  ·unfold hear0;rw [if_neg q2]
  ·subst hc2
   have q:¬((gOf l.heard x.src).epoch=0∧12≤l.heard.length):=by simpa using q
   rw [if_neg fun z=>q ⟨hep.mpr z.1,by omega⟩]
   rintro _ rfl
   have hi:(hear0 (gOf l.heard x.src) x).items.length≤999999:=by
    unfold hear0
    split
    ·simp
    ·have:=itms_len (gOf_ok hs x.src).1;omega
   generalize hh0:hear0 (gOf l.heard x.src) x=h0 at *
   refine ⟨⟨⟨fun a1=>⟨fun a2=>⟨fun a3=>?_,fun a3=>?_⟩,fun a2=>?_⟩,fun a1=>?_⟩,fun d hd=>⟨fun a=>⟨hi,?_⟩,fun a=>?_⟩⟩,?_⟩
   ·have a1:x.kind=2:=by simpa using a1
    have a2:x.epoch=h0.epoch:=by simpa using a2
    exact decide_eq_decide.mpr ⟨fun z=>⟨a1,a2,a3,z⟩,fun z=>z.2.2.2⟩
   ·exact nodec fun z=>a3 z.2.2.1
   ·exact nodec fun z=>by simp [z.2.1] at a2
   ·exact nodec fun z=>by simp [z.1] at a1
   ·subst hd
    unfold hear1;rw [if_pos (by simpa using a)];rfl
   ·subst hd
    unfold hear1;rw [if_neg (by simpa using a)]
   ·rintro _ rfl
    have hr:(hear1 h0 x).router=x.src:=by
     have:=hearG_router (g:=gOf l.heard x.src) (x:=x) hg
     unfold hearG at this
     rw [hh0] at this;exact this
    generalize hh1:hear1 h0 x=h1' at *
    refine ⟨⟨0,rfl,by omega,by simp,by simp [bld]⟩,?_⟩
    rintro ⟨_,_,_⟩ ⟨j,rfl,hj,rfl,rfl⟩
    simp only [Int.toNat_natCast]
    have hbl:=bld_len (l:=l.heard) (r:=x.src) (h:=h1') (k:=j)
    refine ⟨fun b1=>⟨by omega,by omega,fun y hy=>⟨⟨⟨fun b2=>?_,fun b2=>?_⟩,fun d hd=>⟨fun b3=>⟨by omega,?_⟩,fun b3=>?_⟩⟩,?_⟩⟩,fun b1=>⟨⟨fun b2=>⟨by omega,?_⟩,fun b2=>?_⟩,?_⟩⟩
    ·obtain ⟨s1,s2⟩:=bld_succ (r:=x.src) (h:=h1') ho hy
     have b2:¬posH l.heard x.src<j:=by simpa using b2
     rw [decide_eq_decide,s1]
     exact ⟨fun z=>⟨b2,z⟩,fun z=>z.2⟩
    ·have b2:posH l.heard x.src<j:=by simpa using b2
     exact nodec (by omega)
    ·subst hd
     have b3:posH l.heard x.src=j:=by simpa using b3
     rw [if_pos b3,decide_eq_true (show posH l.heard x.src<j+1 by omega)]
    ·subst hd
     have b3:¬posH l.heard x.src=j:=by simpa using b3
     rw [if_neg b3,List.append_nil]
     congr 1
     exact decide_eq_decide.mpr (by omega)
    ·rintro _ rfl
     obtain ⟨s1,s2⟩:=bld_succ (r:=x.src) (h:=h1') ho hy
     rw [W_succ (n:=l.heard.length) (by omega) (by omega)]
     refine ⟨fun z=>⟨?_,⟨j+1,rfl,by omega,rfl,?_⟩,by omega⟩,fun z=>⟨⟨j+1,rfl,by omega,rfl,?_⟩,by omega⟩⟩
     ·have:(if posH l.heard x.src=j then [h1'] else []).length≤1:=by split<;>simp
      rw [List.length_append];omega
     ·rw [s2,if_pos (c:=y.router≠x.src) (by simpa using z),List.append_assoc]
     ·rw [s2,if_neg (c:=y.router≠x.src) (by simpa using z),List.append_nil]
    ·have b2:¬posH l.heard x.src<j:=by simpa using b2
     have:j=l.heard.length:=by omega
     subst this
     rw [if_neg b2]
    ·have b2:posH l.heard x.src<j:=by simpa using b2
     have:j=l.heard.length:=by omega
     subst this
     rw [if_pos b2,List.append_nil]
    ·rintro _ rfl
     rw [bld_fin ho hr,hH]
def hearR_c(l:Lsn)(x:Sig):PC Tryz.prog:=⟨63,[(.a [.k,.k,(.s 4)]),(.a [.k,.k,.k,.k,.k,.k,.k,.k,.k,(.s 1)])],[.agg [.int l.router,.int l.epoch,.sl 4 (l.heard.map Hrd.v) false],.agg [.int x.kind,.int x.src,.int x.dst,.int x.epoch,.int x.ver,.int x.prev,.int x.pep,.int x.grp,.int x.mode,.sl 1 (x.srcs.map AV.int) false]],hearR_e ((hear l x).1.1,(hear l x).1.2,(hear l x).2),PSpec.of_ok fun ok=>(hearR_p l x ok).elim fun I0 h=>h.elim fun I1 h=>h.elim fun m1 h=>h.elim fun I2 h=>h.elim fun I3 h=>h.elim fun I4 h=>h.elim fun I5 h=>h.elim fun I6 h=>h.elim fun m6 h=>h.elim fun I7 h=>h.elim fun I8 h=>h.elim fun I9 h=>mxP_of (sh:=(.a [(.a [.k,.k,(.s 4)]),(.a [.k,.k,.k,.k,.k,.k,.k,.k,.k,(.s 1)]),.k])) (enc:=hearR_e) (a:=(hearR_x l x I0 I1 m1 I2 I3 I4 I5 I6 m6 I7 I8 I9).an) h (by kernel_rfl) (AV.pureB_ok rfl),fnB_ok (by kernel_rfl)⟩
def cmpS(p:Spk)(r:Int):Int:=cmpI p.router r
def cmpS_a(s:Spk)(r:Int):Prop:=okL [.agg [.int s.router,.int s.epoch,.int s.last,.sl 4 (s.items.map Itm.v) false,.sl 3 (s.peers.map Per.v) false],.int r]
def cmpS_e(r:Int):AV:=.int r
def cmpS_x(s:Spk)(r:Int):Ax Tryz.prog noS (Int):=
 (.callP (cmpI_c s.router r)
(.ret (cmpI s.router r)))
def cmpS_vc(s:Spk)(r:Int)(r0:Int):Prop:=(cmpS_x s r).vp cmpS_e r0
theorem cmpS_p(p:Spk)(r:Int)(ok:cmpS_a p r):cmpS_vc p r (cmpS p r):=by
 dsimp only [cmpS_vc,cmpS_x,noS,Ax.vp,Ax.vc];simp only [vcU,rfU,List.length_map]
 rfl
def cmpS_c(s:Spk)(r:Int):PC Tryz.prog:=⟨131,[(.a [.k,.k,.k,(.s 4),(.s 3)]),.k],[.agg [.int s.router,.int s.epoch,.int s.last,.sl 4 (s.items.map Itm.v) false,.sl 3 (s.peers.map Per.v) false],.int r],cmpS_e (cmpS s r),PSpec.of_ok fun ok=>mxP_of (sh:=.k) (enc:=cmpS_e) (a:=(cmpS_x s r).an) (cmpS_p s r ok) (by kernel_rfl) (AV.pureB_ok rfl),fnB_ok (by kernel_rfl)⟩
def hitS(l:List Spk)(r:Int):Prop:=posS l r<l.length∧(l.getD (posS l r) spk0).router=r
instance (l:List Spk) (r:Int):Decidable (hitS l r):=by unfold hitS;infer_instance
def bsS_a(x:(List Spk))(target:Int):Prop:=okL [.sl 5 (x.map Spk.v) false,.int target,.func 131 []]
def bsS_n0(x:(List Spk))(target:Int)(t0:Int×Int):NF:=⟨[(0,.k,.sl 5 (x.map Spk.v) false),(1,.k,.int target),(2,.k,.func 131 []),(8,.k,.int ((x.map Spk.v).length:Int)),(9,.k,.int t0.1),(10,.k,.int t0.2)],[]⟩
@[reducible] def bsS_s:Nat→Type
 | 0=>Int×Int
 | _=>Unit
def bsS_e(r:Int×Bool):AV:=.tup [.int r.1,.bool r.2]
def bsS_x(x:(List Spk))(target:Int)(I0:(Int×Int)→Prop)(m0:(Int×Int)→Nat):Ax Tryz.prog bsS_s (Int×Bool):=
 (.loop 0 (bsS_n0 x target) I0 m0 (0,((x.map Spk.v).length:Int)) [] fun (t0:Int×Int) b0 =>
(.br 48 (decide (t0.1<t0.2)) (.el 208 Spk.v x (fun R=>Rf (x.map Spk.v) (ck (decide (0≤(W (Int.fdiv (IntKind.u64.wrap (W (t0.1+t0.2))) 2)))) (ck (decide ((W (Int.fdiv (IntKind.u64.wrap (W (t0.1+t0.2))) 2))<(x.length:Int)))
(∀x1,x[(W (Int.fdiv (IntKind.u64.wrap (W (t0.1+t0.2))) 2)).toNat]?=some x1 →
(R x1))))) fun x1 =>
(.callP (cmpS_c x1 target)
(.br 288 (decide ((cmpS x1 target)<0)) (.bk 0 b0 (W ((W (Int.fdiv (IntKind.u64.wrap (W (t0.1+t0.2))) 2))+1),t0.2) [])
(.bk 0 b0 (t0.1,W (Int.fdiv (IntKind.u64.wrap (W (t0.1+t0.2))) 2)) []))))
(.br 128 (decide (t0.1<((x.map Spk.v).length:Int))) (.el 176 Spk.v x (fun R=>Rf (x.map Spk.v) (ck (decide (0≤t0.1)) (ck (decide (t0.1<(x.length:Int)))
(∀x2,x[t0.1.toNat]?=some x2 →
(R x2))))) fun x2 =>
(.callP (cmpS_c x2 target)
(.ret (t0.1,(cmpS x2 target)==0))))
(.ret (t0.1,false)))))
def bsS_vc(x:(List Spk))(target:Int)(I0:(Int×Int)→Prop)(m0:(Int×Int)→Nat)(r0:Int×Bool):Prop:=(bsS_x x target I0 m0).vp bsS_e r0
theorem bsS_p(l:List Spk)(r:Int)(h:l.Pairwise fun x y=>x.router<y.router)(hl:l.length≤1000000)(ok:bsS_a l r):∃I m,bsS_vc l r I m ((posS l r:Int),decide (hitS l r)):=by
 simp only [bsS_a,okU,Blk.ok,plainV,List.length_map] at ok
 refine ⟨fun t=>∃i j:Nat,t=((i:Int),(j:Int))∧i≤j∧j≤l.length∧(∀k x,k<i→l[k]?=some x→x.router<r)∧(∀k x,j≤k→l[k]?=some x→r≤x.router),fun t=>(t.2-t.1).toNat,?_⟩
 dsimp only [bsS_vc,bsS_x,bsS_s,Ax.vp,Ax.vc];simp only [vcU,rfU,List.length_map]
 refine ⟨⟨0,l.length,rfl,by omega,by omega,fun k x hk=>by omega,fun k x hk hx=>by have:=lt_of_get hx;omega⟩,?_⟩
 rintro _ ⟨i,j,rfl,hij,hj,h1,h2⟩
 refine ⟨fun h3=>?_,fun h3=>?_⟩
 ·have h3:i<j:=by simpa using h3
  simp only [half i j hij (by omega),Int.toNat_natCast]
  refine ⟨by omega,by omega,fun x hx=>⟨fun e=>?_,fun e=>?_⟩⟩
  ·rw [cmpS,cmp_lt] at e
   rw [W_succ (n:=l.length) (by omega) (by omega)]
   refine ⟨⟨_,_,rfl,by omega,hj,fun k y hk hy=>?_,h2⟩,by omega⟩
   by_cases e':k=(i+j) / 2
   ·subst e';rw [hx] at hy;cases hy;exact e
   ·have:=pw_get h (show k<(i+j) / 2 by omega) hy hx;omega
  ·rw [cmpS,cmp_lt] at e
   refine ⟨⟨_,_,rfl,by omega,by omega,h1,fun k y hk hy=>?_⟩,by omega⟩
   by_cases e':k=(i+j) / 2
   ·subst e';rw [hx] at hy;cases hy;omega
   ·have:=pw_get h (show (i+j) / 2<k by omega) hx hy;omega
 ·have h3:i=j:=by simp at h3;omega
  subst h3
  have hp:posS l r=i:=idx_eq (key:=Spk.router) hj h1 h2
  simp only [Int.toNat_natCast]
  refine ⟨fun h4=>⟨by omega,by omega,fun x hx=>?_⟩,fun h4=>?_⟩
  ·have e:hitS l r↔x.router=r:=by rw [hitS,hp,getD_some hx];exact ⟨fun h=>h.2,fun h=>⟨lt_of_get hx,h⟩⟩
   rw [hp]
   refine congrArg _ ?_
   rw [cmpS,Bool.eq_iff_iff,decide_eq_true_iff,e,beq_iff_eq,cmp_eq]
  ·rw [hp,decide_eq_false]
   rw [hitS,hp];intro h;omega
def bsS_c(x:(List Spk))(target:Int)(h:x.Pairwise fun x y=>x.router<y.router)(hl:x.length≤1000000):PC Tryz.prog:=⟨130,[(.s 5),.k,.k],[.sl 5 (x.map Spk.v) false,.int target,.func 131 []],bsS_e ((posS x target:Int),decide (hitS x target)),PSpec.of_ok fun ok=>(bsS_p x target h hl ok).elim fun I0 h=>h.elim fun m0 h=>mxP_of (sh:=.k) (enc:=bsS_e) (a:=(bsS_x x target I0 m0).an) h (by kernel_rfl) (AV.pureB_ok rfl),fnB_ok (by kernel_rfl)⟩
def findS_a(o:Ovl)(router:Int):Prop:=okL [.agg [.sl 5 (o.sp.map Spk.v) false,.sl 3 (o.ls.map Lsn.v) false,.sl 10 (o.fl.map Sig.v) false],.int router]
def findS_e(r:Int×Bool):AV:=.tup [.int r.1,.bool r.2]
def findS_x(o:Ovl)(router:Int):Ax Tryz.prog noS (Int×Bool):=
 (.req 96 (o.sp.Pairwise fun x y=>x.router<y.router) fun h1 =>
(.req 96 (o.sp.length≤1000000) fun h2 =>
(.callP (bsS_c o.sp router h1 h2)
(.ret ((posS o.sp router:Int),decide (hitS o.sp router))))))
def findS_vc(o:Ovl)(router:Int)(r0:Int×Bool):Prop:=(findS_x o router).vp findS_e r0
theorem findS_p(o:Ovl)(r:Int)(h:o.sp.Pairwise fun x y=>x.router<y.router)(hl:o.sp.length≤1000000)(ok:findS_a o r):findS_vc o r ((posS o.sp r:Int),decide (hitS o.sp r)):=by
 dsimp only [findS_vc,findS_x,noS,Ax.vp,Ax.vc];simp only [vcU,rfU,List.length_map]
 exact ⟨h,hl,trivial⟩
def findS_c(o:Ovl)(router:Int)(h:o.sp.Pairwise fun x y=>x.router<y.router)(hl:o.sp.length≤1000000):PC Tryz.prog:=⟨96,[(.a [(.s 5),(.s 3),(.s 10)]),.k],[.agg [.sl 5 (o.sp.map Spk.v) false,.sl 3 (o.ls.map Lsn.v) false,.sl 10 (o.fl.map Sig.v) false],.int router],findS_e ((posS o.sp router:Int),decide (hitS o.sp router)),PSpec.of_ok fun ok=>mxP_of (sh:=.k) (enc:=findS_e) (a:=(findS_x o router).an) (findS_p o router h hl ok) (by kernel_rfl) (AV.pureB_ok rfl),fnB_ok (by kernel_rfl)⟩
def rtrsF_a(o:Ovl):Prop:=okL [.agg [.sl 5 (o.sp.map Spk.v) false,.sl 3 (o.ls.map Lsn.v) false,.sl 10 (o.fl.map Sig.v) false]]
def rtrsF_n0(o:Ovl)(t0:Int×(List Int)):NF:=⟨[(3,.k,.vec 0),(7,.k,.sl 5 (o.sp.map Spk.v) false),(8,.k,.int ((o.sp.map Spk.v).length:Int)),(9,.k,.int t0.1)],[.vec 1 (t0.2.map AV.int) (pureBL_map (fun _=>rfl) t0.2)]⟩
@[reducible] def rtrsF_s:Nat→Type
 | 0=>Int×(List Int)
 | _=>Unit
def rtrsF_e(r:(List Int)):AV:=.sl 1 (r.map AV.int) false
def rtrsF_x(o:Ovl)(I0:(Int×(List Int))→Prop)(m0:(Int×(List Int))→Nat):Ax Tryz.prog rtrsF_s ((List Int)):=
 (.cmdL (.nilT 3 1) (.loop 0 (rtrsF_n0 o) I0 m0 (0,[]) [112] fun (t0:Int×(List Int)) b0 =>
(.br 17 (decide (t0.1<((o.sp.map Spk.v).length:Int))) (.el 17 Spk.v o.sp (fun R=>Rf (o.sp.map Spk.v) (ck (decide (0≤t0.1)) (ck (decide (t0.1<(o.sp.length:Int)))
(∀x1,o.sp[t0.1.toNat]?=some x1 →
(R x1))))) fun x1 =>
(.say (fun R=>Rf (α:=List AV) (t0.2.map AV.int) (Rf (α:=List AV) [.int x1.router]
(ck (decide (t0.2.length+1≤1048576))
R))) (.app 145 AV.int t0.2 [x1.router]
(.bk 0 b0 (W (t0.1+1),t0.2++[x1.router]) [145]))))
(.say (Rf (t0.2.map AV.int)) (.cmdL (.frzE 0 (t0.2.map AV.int) (pureBL_map (fun _=>rfl) t0.2)) (.ret (t0.2)))))))
def rtrsF_vc(o:Ovl)(I0:(Int×(List Int))→Prop)(m0:(Int×(List Int))→Nat)(r0:(List Int)):Prop:=(rtrsF_x o I0 m0).vp rtrsF_e r0
theorem rtrsF_p(o:Ovl)(h:o.sp.length≤1000000)(ok:rtrsF_a o):∃I m,rtrsF_vc o I m (rtrs o.sp):=by
 refine ⟨fun t=>∃k:Nat,t.1=k∧k≤o.sp.length∧t.2=rtrs (o.sp.take k),fun t=>o.sp.length-t.1.toNat,?_⟩
 dsimp only [rtrsF_vc,rtrsF_x,rtrsF_s,Ax.vp,Ax.vc];simp only [vcU,rfU,List.length_map]
 refine ⟨⟨0,rfl,by omega,rfl⟩,?_⟩
 rintro ⟨_,_⟩ ⟨k,rfl,hk,rfl⟩
 simp only [Int.toNat_natCast]
 refine ⟨fun h1=>⟨by omega,by omega,fun x hx=>⟨by rw [rtrs_len];simp;omega,⟨k+1,?_,by omega,?_⟩,?_⟩⟩,fun h1=>?_⟩
 ·rw [W_succ (n:=o.sp.length) (by omega) (by omega)]
 ·rw [take_succ hx];simp [rtrs]
 ·rw [W_succ (n:=o.sp.length) (by omega) (by omega)];omega
 ·rw [List.take_of_length_le (by omega)]
def rtrsF_c(o:Ovl)(h:o.sp.length≤1000000):PC Tryz.prog:=⟨121,[(.a [(.s 5),(.s 3),(.s 10)])],[.agg [.sl 5 (o.sp.map Spk.v) false,.sl 3 (o.ls.map Lsn.v) false,.sl 10 (o.fl.map Sig.v) false]],rtrsF_e (rtrs o.sp),PSpec.of_ok fun ok=>(rtrsF_p o h ok).elim fun I0 h=>h.elim fun m0 h=>mxP_of (sh:=(.s 1)) (enc:=rtrsF_e) (a:=(rtrsF_x o I0 m0).an) h (by kernel_rfl) (AV.pureB_ok rfl),fnB_ok (by kernel_rfl)⟩
def othersF_a(l:(List Int))(n:Int):Prop:=okL [.sl 1 (l.map AV.int) false,.int n]
def othersF_n0(l:(List Int))(n:Int)(t0:Int×(List Int)):NF:=⟨[(1,.k,.int n),(5,.k,.vec 0),(8,.k,.sl 1 (l.map AV.int) false),(9,.k,.int ((l.map AV.int).length:Int)),(10,.k,.int t0.1)],[.vec 1 (t0.2.map AV.int) (pureBL_map (fun _=>rfl) t0.2)]⟩
@[reducible] def othersF_s:Nat→Type
 | 0=>Int×(List Int)
 | _=>Unit
def othersF_e(r:(List Int)):AV:=.sl 1 (r.map AV.int) false
def othersF_x(l:(List Int))(n:Int)(I0:(Int×(List Int))→Prop)(m0:(Int×(List Int))→Nat):Ax Tryz.prog othersF_s ((List Int)):=
 (.cmdL (.nilT 5 1) (.loop 0 (othersF_n0 l n) I0 m0 (0,[]) [80] fun (t0:Int×(List Int)) b0 =>
(.br 17 (decide (t0.1<((l.map AV.int).length:Int))) (.el 17 AV.int l (fun R=>Rf (l.map AV.int) (ck (decide (0≤t0.1)) (ck (decide (t0.1<(l.length:Int)))
(∀x1,l[t0.1.toNat]?=some x1 →
(R x1))))) fun x1 =>
(.br 113 (x1 != n) (.say (fun R=>Rf (α:=List AV) (t0.2.map AV.int) (Rf (α:=List AV) [.int x1]
(ck (decide (t0.2.length+1≤1048576))
R))) (.app 161 AV.int t0.2 [x1]
(.bk 0 b0 (W (t0.1+1),t0.2++[x1]) [161])))
(.bk 0 b0 (W (t0.1+1),t0.2) [0])))
(.say (Rf (t0.2.map AV.int)) (.cmdL (.frzE 0 (t0.2.map AV.int) (pureBL_map (fun _=>rfl) t0.2)) (.ret (t0.2)))))))
def othersF_vc(l:(List Int))(n:Int)(I0:(Int×(List Int))→Prop)(m0:(Int×(List Int))→Nat)(r0:(List Int)):Prop:=(othersF_x l n I0 m0).vp othersF_e r0
theorem othersF_p(l:List Int)(n:Int)(h:l.length≤1000000)(ok:othersF_a l n):∃I m,othersF_vc l n I m (others l n):=by
 refine ⟨fun t=>∃k:Nat,t.1=k∧k≤l.length∧t.2=others (l.take k) n∧t.2.length≤k,fun t=>l.length-t.1.toNat,?_⟩
 dsimp only [othersF_vc,othersF_x,othersF_s,Ax.vp,Ax.vc];simp only [vcU,rfU,List.length_map]
 refine ⟨⟨0,rfl,by omega,rfl,by simp⟩,?_⟩
 rintro ⟨_,_⟩ ⟨k,rfl,hk,rfl,hk2⟩
 simp only [Int.toNat_natCast] at *
 refine ⟨fun h1=>⟨by omega,by omega,fun x hx=>?_⟩,fun h1=>?_⟩
 ·rw [W_succ (n:=l.length) (by omega) (by omega)]
  refine ⟨fun q=>⟨by omega,⟨k+1,rfl,by omega,?_,by simp;omega⟩,by omega⟩,fun q=>⟨⟨k+1,rfl,by omega,?_,by omega⟩,by omega⟩⟩
  ·have q:x≠n:=by simpa using q
   rw [take_succ hx,others,others,List.filter_append];simp [q]
  ·have q:x=n:=by simpa using q
   rw [take_succ hx,others,others,List.filter_append];simp [q]
 ·rw [List.take_of_length_le (by omega)]
def othersF_c(l:(List Int))(n:Int)(h:l.length≤1000000):PC Tryz.prog:=⟨124,[(.s 1),.k],[.sl 1 (l.map AV.int) false,.int n],othersF_e (others l n),PSpec.of_ok fun ok=>(othersF_p l n h ok).elim fun I0 h=>h.elim fun m0 h=>mxP_of (sh:=(.s 1)) (enc:=othersF_e) (a:=(othersF_x l n I0 m0).an) h (by kernel_rfl) (AV.pureB_ok rfl),fnB_ok (by kernel_rfl)⟩
def peerIs(p:Per)(r:Int):Bool:=decide (p.router=r)
def peerIs_a(p:Per)(r:Int):Prop:=okL [.agg [.int p.router,.int p.epoch,.int p.acked],.int r]
def peerIs_e(r:Bool):AV:=.bool r
def peerIs_x(p:Per)(r:Int):Ax Tryz.prog noS (Bool):=
 (.ret (p.router==r))
def peerIs_vc(p:Per)(r:Int)(r0:Bool):Prop:=(peerIs_x p r).vp peerIs_e r0
theorem peerIs_p(p:Per)(r:Int)(ok:peerIs_a p r):peerIs_vc p r (peerIs p r):=by
 dsimp only [peerIs_vc,peerIs_x,noS,Ax.vp,Ax.vc];simp only [vcU,rfU,List.length_map]
 rfl
def peerIs_c(p:Per)(r:Int):PC Tryz.prog:=⟨125,[.k,.k],[.agg [.int p.router,.int p.epoch,.int p.acked],.int r],peerIs_e (decide (p.router=r)),PSpec.of_ok fun ok=>mxP_of (sh:=.k) (enc:=peerIs_e) (a:=(peerIs_x p r).an) (peerIs_p p r ok) (by kernel_rfl) (AV.pureB_ok rfl),fnB_ok (by kernel_rfl)⟩
def eqPI_a(s1:(List Per))(s2:(List Int)):Prop:=okL [.sl 3 (s1.map Per.v) false,.sl 1 (s2.map AV.int) false,.func 125 []]
def eqPI_n0(s1:(List Per))(s2:(List Int))(t0:Int):NF:=⟨[(1,.k,.sl 1 (s2.map AV.int) false),(2,.k,.func 125 []),(15,.k,.sl 3 (s1.map Per.v) false),(16,.k,.int ((s1.map Per.v).length:Int)),(17,.k,.int t0)],[]⟩
@[reducible] def eqPI_s:Nat→Type
 | 0=>Int
 | _=>Unit
def eqPI_e(r:Bool):AV:=.bool r
def eqPI_x(s1:(List Per))(s2:(List Int))(I0:Int→Prop)(m0:Int→Nat):Ax Tryz.prog eqPI_s (Bool):=
 (.br 96 (((s1.map Per.v).length:Int) != ((s2.map AV.int).length:Int)) (.ret (false))
(.loop 0 (eqPI_n0 s1 s2) I0 m0 ((0):Int) [] fun (t0:Int) b0 =>
(.br 16 (decide (t0<((s1.map Per.v).length:Int))) (.el 32 Per.v s1 (fun R=>Rf (s1.map Per.v) (ck (decide (0≤t0)) (ck (decide (t0<(s1.length:Int)))
(∀x1,s1[t0.toNat]?=some x1 →
(R x1))))) fun x1 =>
(.el 144 AV.int s2 (fun R=>Rf (s2.map AV.int) (ck (decide (0≤t0)) (ck (decide (t0<(s2.length:Int)))
(∀x2,s2[t0.toNat]?=some x2 →
(R x2))))) fun x2 =>
(.callP (peerIs_c x1 x2)
(.br 272 (!(decide (x1.router=x2))) (.ret (false))
(.bk 0 b0 ((W (t0+1)):Int) [])))))
(.ret (true)))))
def eqPI_vc(s1:(List Per))(s2:(List Int))(I0:Int→Prop)(m0:Int→Nat)(r0:Bool):Prop:=(eqPI_x s1 s2 I0 m0).vp eqPI_e r0
theorem eqPI_p(a:List Per)(b:List Int)(ok:eqPI_a a b):∃I m,eqPI_vc a b I m (decide (a.map Per.router=b)):=by
 simp only [eqPI_a,okU,Blk.ok,plainV,List.length_map] at ok
 refine ⟨fun t=>∃k:Nat,t=k∧k≤a.length∧(a.take k).map Per.router=b.take k,fun t=>a.length-t.toNat,?_⟩
 dsimp only [eqPI_vc,eqPI_x,eqPI_s,Ax.vp,Ax.vc];simp only [vcU,rfU,List.length_map]
 refine ⟨fun e=>(decide_eq_false fun h=>by subst h;simp at e).symm,fun e=>⟨⟨0,rfl,by omega,rfl⟩,?_⟩⟩
 have e:a.length=b.length:=by simp at e;omega
 rintro _ ⟨k,rfl,hk,h⟩
 simp only [Int.toNat_natCast]
 refine ⟨fun h1=>⟨by omega,by omega,fun x hx=>⟨by omega,by omega,fun y hy=>⟨fun e2=>?_,fun e2=>?_⟩⟩⟩,fun h1=>?_⟩
 ·refine (decide_eq_false fun hh=>?_).symm
  subst hh
  rw [List.getElem?_map,hx] at hy
  simp only [Option.map_some,Option.some.injEq] at hy
  subst hy
  simp at e2
 ·have e2:x.router=y:=by simpa using e2
  rw [W_succ (n:=a.length) (by omega) (by omega)]
  exact ⟨⟨k+1,rfl,by omega,by rw [take_succ hx,take_succ hy,List.map_append,h];simp [e2]⟩,by omega⟩
 ·rw [List.take_of_length_le (by omega),List.take_of_length_le (by omega)] at h
  exact (decide_eq_true h).symm
def eqPI_c(s1:(List Per))(s2:(List Int)):PC Tryz.prog:=⟨123,[(.s 3),(.s 1),.k],[.sl 3 (s1.map Per.v) false,.sl 1 (s2.map AV.int) false,.func 125 []],eqPI_e (decide (s1.map Per.router=s2)),PSpec.of_ok fun ok=>(eqPI_p s1 s2 ok).elim fun I0 h=>h.elim fun m0 h=>mxP_of (sh:=.k) (enc:=eqPI_e) (a:=(eqPI_x s1 s2 I0 m0).an) h (by kernel_rfl) (AV.pureB_ok rfl),fnB_ok (by kernel_rfl)⟩
def indexI(l:List Int)(v:Int):Int:=match l.findIdx? fun x=>decide (v=x) with
 | some i=>i
 | none=>-1
theorem indexI_some{l:List Int}{r:Int}{i:Nat}(hx:l[i]?=some r)(hb:∀y∈l.take i,r≠y):indexI l r=i:=by
 obtain ⟨hi,hxi⟩:=List.getElem?_eq_some_iff.mp hx
 have:l.findIdx? (fun p=>decide (r=p))=some i:=by
  rw [List.findIdx?_eq_some_iff_getElem]
  refine ⟨hi,by rw [hxi];simp,fun j hj=>?_⟩
  have:=hb l[j] (List.mem_of_getElem? (i:=j) (by rw [List.getElem?_take,if_pos hj,List.getElem?_eq_getElem (by omega)]))
  simpa using this
 unfold indexI;rw [this]
theorem indexI_none{l:List Int}{r:Int}(hb:∀y∈l,r≠y):indexI l r=-1:=by
 have:l.findIdx? (fun p=>decide (r=p))=none:=by
  rw [List.findIdx?_eq_none_iff]
  intro x hx;simpa using hb x hx
 unfold indexI;rw [this]
def indexI_a(s:(List Int))(v:Int):Prop:=okL [.sl 1 (s.map AV.int) false,.int v]
def indexI_n0(s:(List Int))(v:Int)(t0:Int):NF:=⟨[(0,.k,.sl 1 (s.map AV.int) false),(1,.k,.int v),(7,.k,.int ((s.map AV.int).length:Int)),(8,.k,.int t0)],[]⟩
@[reducible] def indexI_s:Nat→Type
 | 0=>Int
 | _=>Unit
def indexI_e(r:Int):AV:=.int r
def indexI_x(s:(List Int))(v:Int)(I0:Int→Prop)(m0:Int→Nat):Ax Tryz.prog indexI_s (Int):=
 (.loop 0 (indexI_n0 s v) I0 m0 ((0):Int) [] fun (t0:Int) b0 =>
(.br 16 (decide (t0<((s.map AV.int).length:Int))) (.el 96 AV.int s (fun R=>Rf (s.map AV.int) (ck (decide (0≤t0)) (ck (decide (t0<(s.length:Int)))
(∀x1,s[t0.toNat]?=some x1 →
(R x1))))) fun x1 =>
(.br 144 (v==x1) (.ret (t0))
(.bk 0 b0 ((W (t0+1)):Int) [])))
(.ret (-1))))
def indexI_vc(s:(List Int))(v:Int)(I0:Int→Prop)(m0:Int→Nat)(r0:Int):Prop:=(indexI_x s v I0 m0).vp indexI_e r0
theorem indexI_p(l:List Int)(v:Int)(ok:indexI_a l v):∃I m,indexI_vc l v I m (indexI l v):=by
 simp only [indexI_a,okU,Blk.ok,plainV,List.length_map] at ok
 refine ⟨fun t=>∃k:Nat,t=k∧k≤l.length∧∀x∈l.take k,v≠x,fun t=>l.length-t.toNat,?_⟩
 dsimp only [indexI_vc,indexI_x,indexI_s,Ax.vp,Ax.vc];simp only [vcU,rfU,List.length_map]
 have hle:l.length≤9223372036854775807:=ok.1.1
 refine ⟨⟨0,rfl,by omega,by simp⟩,?_⟩
 rintro _ ⟨k,rfl,hk,hI⟩
 simp only [Int.toNat_natCast]
 refine ⟨fun h1=>⟨by omega,by omega,fun x hx=>⟨fun e=>?_,fun e=>?_⟩⟩,fun h1=>?_⟩
 ·have e:v=x:=by simpa using e
  subst e
  rw [indexI_some hx hI]
 ·rw [W_succ (n:=l.length) (by omega) (by omega)]
  exact ⟨⟨k+1,rfl,by omega,(mem_take_succ hx).mpr ⟨hI,by simpa using e⟩⟩,by omega⟩
 ·rw [List.take_of_length_le (by omega)] at hI
  rw [indexI_none hI]
def indexI_c(s:(List Int))(v:Int):PC Tryz.prog:=⟨164,[(.s 1),.k],[.sl 1 (s.map AV.int) false,.int v],indexI_e (indexI s v),PSpec.of_ok fun ok=>(indexI_p s v ok).elim fun I0 h=>h.elim fun m0 h=>mxP_of (sh:=.k) (enc:=indexI_e) (a:=(indexI_x s v I0 m0).an) h (by kernel_rfl) (AV.pureB_ok rfl),fnB_ok (by kernel_rfl)⟩
theorem indexI_nn{l:List Int}{v:Int}:0≤indexI l v↔v∈l:=by
 unfold indexI
 cases e:l.findIdx? (fun p=>decide (v=p)) with
 | none =>
  rw [List.findIdx?_eq_none_iff] at e
  simp only
  refine ⟨fun h=>by omega,fun h=>by have:=e v h;simp at this⟩
 | some i =>
  rw [List.findIdx?_eq_some_iff_getElem] at e
  obtain ⟨h1,h2,_⟩:=e
  simp only
  refine ⟨fun _=>?_,fun _=>by omega⟩
  have:v=l[i]:=by simpa using h2
  rw [this];exact List.getElem_mem h1
def contI_a(s:(List Int))(v:Int):Prop:=okL [.sl 1 (s.map AV.int) false,.int v]
def contI_e(r:Bool):AV:=.bool r
def contI_x(s:(List Int))(v:Int):Ax Tryz.prog noS (Bool):=
 (.callP (indexI_c s v)
(.ret (decide (0≤(indexI s v)))))
def contI_vc(s:(List Int))(v:Int)(r0:Bool):Prop:=(contI_x s v).vp contI_e r0
theorem contI_p(l:List Int)(v:Int)(ok:contI_a l v):contI_vc l v (decide (v∈l)):=by
 dsimp only [contI_vc,contI_x,noS,Ax.vp,Ax.vc];simp only [vcU,rfU,List.length_map]
 exact decide_eq_decide.mpr indexI_nn
def contI_c(s:(List Int))(v:Int):PC Tryz.prog:=⟨127,[(.s 1),.k],[.sl 1 (s.map AV.int) false,.int v],contI_e (decide (v∈s)),PSpec.of_ok fun ok=>mxP_of (sh:=.k) (enc:=contI_e) (a:=(contI_x s v).an) (contI_p s v ok) (by kernel_rfl) (AV.pureB_ok rfl),fnB_ok (by kernel_rfl)⟩
theorem valS_z{s:Spk}:valS s=0↔spkOk s:=by
 have hv:valS s=if spkOk s then 0 else 1:=rfl
 rw [hv];by_cases h:spkOk s<;>simp [h]
theorem valL_z{s:Lsn}:valL s=0↔lsnOk s:=by
 have hv:valL s=if lsnOk s then 0 else 1:=rfl
 rw [hv];by_cases h:lsnOk s<;>simp [h]
theorem ovl_lens{o:Ovl}(ok:okL [o.v]):o.sp.length≤9223372036854775807∧o.ls.length≤9223372036854775807∧o.fl.length≤9223372036854775807:=by
 have h:=ok
 simp only [Ovl.v,spks,lsns,sigs,AV.ok,okL,List.length_map,maxLen_eq] at h
 omega
theorem take_all{α:Type}{P:α→Prop}{l:List α}{k:Nat}{x:α}(hx:l[k]?=some x)(h:∀y∈l.take k,P y)(hp:P x):∀y∈l.take (k+1),P y:=(mem_take_succ hx).mpr ⟨h,hp⟩
def validO_a(o:Ovl):Prop:=okL [.agg [.sl 5 (o.sp.map Spk.v) false,.sl 3 (o.ls.map Lsn.v) false,.sl 10 (o.fl.map Sig.v) false]]
def validO_n0(o:Ovl)(t0:Bool):NF:=⟨[(1,.k,.ref 0 0),(23,.k,.bool t0)],[.box (.agg [.sl 5 (o.sp.map Spk.v) false,.sl 3 (o.ls.map Lsn.v) false,.sl 10 (o.fl.map Sig.v) false])]⟩
def validO_n1(o:Ovl)(t1:Int):NF:=⟨[(1,.k,.ref 0 0),(3,.k,.sl 1 ((rtrs o.sp).map AV.int) false),(27,.k,.sl 5 (o.sp.map Spk.v) false),(28,.k,.int ((o.sp.map Spk.v).length:Int)),(29,.k,.int t1)],[.box (.agg [.sl 5 (o.sp.map Spk.v) false,.sl 3 (o.ls.map Lsn.v) false,.sl 10 (o.fl.map Sig.v) false])]⟩
def validO_n2(o:Ovl)(t1:Int)(x2:Spk)(t2:Bool):NF:=⟨[(1,.k,.ref 0 0),(3,.k,.sl 1 ((rtrs o.sp).map AV.int) false),(4,.k,.int t1),(5,.k,.ref 1 0),(27,.k,.sl 5 (o.sp.map Spk.v) false),(28,.k,.int ((o.sp.map Spk.v).length:Int)),(29,.k,.int t1),(50,.k,.bool t2)],[.box (.agg [.sl 5 (o.sp.map Spk.v) false,.sl 3 (o.ls.map Lsn.v) false,.sl 10 (o.fl.map Sig.v) false]),.box (.agg [.int x2.router,.int x2.epoch,.int x2.last,.sl 4 (x2.items.map Itm.v) false,.sl 3 (x2.peers.map Per.v) false])]⟩
def validO_n3(o:Ovl)(t1:Int)(x5:Lsn)(t3:Bool):NF:=⟨[(1,.k,.ref 0 0),(3,.k,.sl 1 ((rtrs o.sp).map AV.int) false),(6,.k,.ref 1 0),(27,.k,.sl 5 (o.sp.map Spk.v) false),(28,.k,.int ((o.sp.map Spk.v).length:Int)),(29,.k,.int t1),(73,.k,.bool t3)],[.box (.agg [.sl 5 (o.sp.map Spk.v) false,.sl 3 (o.ls.map Lsn.v) false,.sl 10 (o.fl.map Sig.v) false]),.box (.agg [.int x5.router,.int x5.epoch,.sl 4 (x5.heard.map Hrd.v) false])]⟩
def validO_n4(o:Ovl)(t1:Int)(x5:Lsn)(t4:Int):NF:=⟨[(1,.k,.ref 0 0),(3,.k,.sl 1 ((rtrs o.sp).map AV.int) false),(27,.k,.sl 5 (o.sp.map Spk.v) false),(28,.k,.int ((o.sp.map Spk.v).length:Int)),(29,.k,.int t1),(75,.k,.sl 4 (x5.heard.map Hrd.v) false),(76,.k,.int ((x5.heard.map Hrd.v).length:Int)),(77,.k,.int t4)],[.box (.agg [.sl 5 (o.sp.map Spk.v) false,.sl 3 (o.ls.map Lsn.v) false,.sl 10 (o.fl.map Sig.v) false])]⟩
def validO_n5(o:Ovl)(t5:Int):NF:=⟨[(3,.k,.sl 1 ((rtrs o.sp).map AV.int) false),(89,.k,.sl 10 (o.fl.map Sig.v) false),(90,.k,.int ((o.fl.map Sig.v).length:Int)),(91,.k,.int t5)],[]⟩
def validO_n6(o:Ovl)(t5:Int)(t6:Bool):NF:=⟨[(3,.k,.sl 1 ((rtrs o.sp).map AV.int) false),(89,.k,.sl 10 (o.fl.map Sig.v) false),(90,.k,.int ((o.fl.map Sig.v).length:Int)),(91,.k,.int t5),(111,.k,.bool t6)],[]⟩
@[reducible] def validO_s:Nat→Type
 | 0=>Bool
 | 1=>Int
 | 2=>Bool
 | 3=>Bool
 | 4=>Int
 | 5=>Int
 | 6=>Bool
 | _=>Unit
def validO_e(r:Bool):AV:=.bool r
def validO_x(o:Ovl)(I0:Bool→Prop)(I1:Bool→Int→Prop)(m1:Bool→Int→Nat)(I2:Bool→Int→Spk→Bool→Prop)(I3:Bool→Int→Spk→Bool→Lsn→Bool→Prop)(I4:Bool→Int→Spk→Bool→Lsn→Bool→Int→Prop)(m4:Bool→Int→Spk→Bool→Lsn→Bool→Int→Nat)(I5:Bool→Int→Int→Prop)(m5:Bool→Int→Int→Nat)(I6:Bool→Int→Int→Sig→Bool→Prop):Ax Tryz.prog validO_s (Bool):=
 (.pass (.pass (.join 0 (validO_n0 o) (fun (t0:Bool)=>I0 t0) (fun b0=>(.br 112 (decide (12<((o.sp.map Spk.v).length:Int))) (.bk 0 b0 ((true):Bool) [0])
(.bk 0 b0 ((((o.ls.map Lsn.v).length:Int) != ((o.sp.map Spk.v).length:Int)):Bool) [0]))) fun (t0:Bool) =>
(.br 1 t0 (.ret (false))
(.req 17 (o.sp.length≤1000000) fun h1 =>
(.callP (rtrsF_c o h1)
(.loop 1 (validO_n1 o) (I1 t0) (m1 t0) ((0):Int) [0] fun (t1:Int) b1 =>
(.br 17 (decide (t1<((o.sp.map Spk.v).length:Int))) (.el 33 Spk.v o.sp (fun R=>Rf (o.sp.map Spk.v) (ck (decide (0≤t1)) (ck (decide (t1<(o.sp.length:Int)))
(∀x2,o.sp[t1.toNat]?=some x2 →
(R x2))))) fun x2 =>
(.pass (.join 2 (validO_n2 o t1 x2) (fun (t2:Bool)=>I2 t0 t1 x2 t2) (fun b2=>(.callP (valS_c x2)
(.br 177 ((valS x2) != 0) (.bk 2 b2 ((true):Bool) [0,65])
(.br 225 (decide (0<t1)) (.el 273 AV.int (rtrs o.sp) (fun R=>Rf ((rtrs o.sp).map AV.int) (ck (decide (0≤(W (t1-1)))) (ck (decide ((W (t1-1))<((rtrs o.sp).length:Int)))
(∀x3,(rtrs o.sp)[(W (t1-1)).toNat]?=some x3 →
(R x3))))) fun x3 =>
(.bk 2 b2 ((decide (x2.router≤x3)):Bool) [0,65]))
(.bk 2 b2 ((false):Bool) [0,65]))))) fun (t2:Bool) =>
(.br 2 t2 (.ret (false))
(.req 82 ((rtrs o.sp).length≤1000000) fun h4 =>
(.callP (othersF_c (rtrs o.sp) x2.router h4)
(.callP (eqPI_c x2.peers (others (rtrs o.sp) x2.router))
(.br 130 (!(decide (x2.peers.map Per.router=(others (rtrs o.sp) x2.router)))) (.ret (false))
(.el 178 Lsn.v o.ls (fun R=>Rf (o.ls.map Lsn.v) (ck (decide (0≤t1)) (ck (decide (t1<(o.ls.length:Int)))
(∀x5,o.ls[t1.toNat]?=some x5 →
(R x5))))) fun x5 =>
(.pass (.join 3 (validO_n3 o t1 x5) (fun (t3:Bool)=>I3 t0 t1 x2 t2 x5 t3) (fun b3=>(.callP (valL_c x5)
(.br 306 ((valL x5) != 0) (.bk 3 b3 ((true):Bool) [0,210])
(.bk 3 b3 ((x5.router != x2.router):Bool) [0,210])))) fun (t3:Bool) =>
(.br 2 t3 (.ret (false))
(.loop 4 (validO_n4 o t1 x5) (I4 t0 t1 x2 t2 x5 t3) (m4 t0 t1 x2 t2 x5 t3) ((0):Int) [0] fun (t4:Int) b4 =>
(.br 17 (decide (t4<((x5.heard.map Hrd.v).length:Int))) (.el 17 Hrd.v x5.heard (fun R=>Rf (x5.heard.map Hrd.v) (ck (decide (0≤t4)) (ck (decide (t4<(x5.heard.length:Int)))
(∀x6,x5.heard[t4.toNat]?=some x6 →
(R x6))))) fun x6 =>
(.callP (contI_c (rtrs o.sp) x6.router)
(.br 161 (!(decide (x6.router∈(rtrs o.sp)))) (.ret (false))
(.bk 4 b4 ((W (t4+1)):Int) [0]))))
(.bk 1 b1 ((W (t1+1)):Int) [0])))))))))))))))
(.loop 5 (validO_n5 o) (I5 t0 t1) (m5 t0 t1) ((0):Int) [] fun (t5:Int) b5 =>
(.br 16 (decide (t5<((o.fl.map Sig.v).length:Int))) (.el 16 Sig.v o.fl (fun R=>Rf (o.fl.map Sig.v) (ck (decide (0≤t5)) (ck (decide (t5<(o.fl.length:Int)))
(∀x7,o.fl[t5.toNat]?=some x7 →
(R x7))))) fun x7 =>
(.join 6 (validO_n6 o t5) (fun (t6:Bool)=>I6 t0 t1 t5 x7 t6) (fun b6=>(.callP (sigV_c x7)
(.br 144 ((sigErr x7) != 0) (.bk 6 b6 ((true):Bool) [])
(.callP (contI_c (rtrs o.sp) x7.src)
(.br 256 (!(decide (x7.src∈(rtrs o.sp)))) (.bk 6 b6 ((true):Bool) [])
(.callP (contI_c (rtrs o.sp) x7.dst)
(.bk 6 b6 ((!(decide (x7.dst∈(rtrs o.sp)))):Bool) []))))))) fun (t6:Bool) =>
(.br 0 t6 (.ret (false))
(.bk 5 b5 ((W (t5+1)):Int) []))))
(.ret (true))))))))))))
def validO_vc(o:Ovl)(I0:Bool→Prop)(I1:Bool→Int→Prop)(m1:Bool→Int→Nat)(I2:Bool→Int→Spk→Bool→Prop)(I3:Bool→Int→Spk→Bool→Lsn→Bool→Prop)(I4:Bool→Int→Spk→Bool→Lsn→Bool→Int→Prop)(m4:Bool→Int→Spk→Bool→Lsn→Bool→Int→Nat)(I5:Bool→Int→Int→Prop)(m5:Bool→Int→Int→Nat)(I6:Bool→Int→Int→Sig→Bool→Prop)(r0:Bool):Prop:=(validO_x o I0 I1 m1 I2 I3 I4 m4 I5 m5 I6).vp validO_e r0
theorem validO_p(o:Ovl)(ok:validO_a o):∃I0 I1 m1 I2 I3 I4 m4 I5 m5 I6,validO_vc o I0 I1 m1 I2 I3 I4 m4 I5 m5 I6 (decide (ovlOk o)):=by
 unfold validO_a at ok
 obtain ⟨l1,l2,l3⟩:=ovl_lens ok
 refine ⟨fun t=>t=false↔(o.sp.length≤12∧o.ls.length=o.sp.length),
  fun _ t=>∃k:Nat,t=k∧k≤o.sp.length∧∀i s l,i<k→o.sp[i]?=some s→o.ls[i]?=some l→AtK (rtrs o.sp) i s l,fun _ t=>o.sp.length-t.toNat,
  fun _ t1 x t=>t=false↔(spkOk x∧(0<t1.toNat→∀y,(rtrs o.sp)[t1.toNat-1]?=some y→y<x.router)),
  fun _ _ x _ y t=>t=false↔(lsnOk y∧y.router=x.router),
  fun _ _ _ _ y _ t=>∃k:Nat,t=k∧k≤y.heard.length∧∀h∈y.heard.take k,h.router∈rtrs o.sp,fun _ _ _ _ y _ t=>y.heard.length-t.toNat,
  fun _ _ t=>∃k:Nat,t=k∧k≤o.fl.length∧∀x∈o.fl.take k,sigIn (rtrs o.sp) x,fun _ _ t=>o.fl.length-t.toNat,
  fun _ _ _ x t=>t=false↔sigIn (rtrs o.sp) x,?_⟩
 dsimp only [validO_vc,validO_x,validO_s,Ax.vp,Ax.vc];simp only [vcU,rfU,List.length_map]
 refine ⟨⟨fun h1=>by simp;omega,fun h1=>?_⟩,?_⟩
 ·simp;omega
 intro t0 h0
 refine ⟨fun e=>?_,fun e=>?_⟩
 ·subst e
  exact nodec fun q=>by have:=h0.mpr ⟨(ovl_iff.mp q).1,(ovl_iff.mp q).2.1⟩;simp at this
 obtain ⟨n1,n2⟩:=h0.mp e
 have hR:(rtrs o.sp).length=o.sp.length:=rtrs_len
 refine ⟨by omega,⟨0,rfl,by omega,fun i s l hi=>by omega⟩,?_⟩
 rintro _ ⟨k,rfl,hk,hI⟩
 simp only [Int.toNat_natCast]
 refine ⟨fun h1=>⟨by omega,by omega,fun x hx=>⟨⟨fun a1=>?_,fun a1=>⟨fun a2=>⟨?_,?_,fun y hy=>?_⟩,fun a2=>?_⟩⟩,?_⟩⟩,fun h1=>⟨⟨0,rfl,by omega,by simp⟩,?_⟩⟩
 ·have a1:¬valS x=0:=by simpa using a1
  rw [valS_z] at a1
  simp [a1]
 ·rw [W_eq (by omega)];omega
 ·rw [W_eq (by omega)];omega
 ·have a1:valS x=0:=by simpa using a1
  have e3:(W ((k:Int)-1)).toNat=k-1:=by rw [W_eq (by omega)];omega
  rw [e3] at hy
  rw [valS_z] at a1
  rw [hy]
  simp only [Option.some.injEq,forall_eq']
  exact ⟨fun q=>⟨a1,fun _=>by omega⟩,fun q=>by have:=q.2 (by omega);omega⟩
 ·have a1:valS x=0:=by simpa using a1
  rw [valS_z] at a1
  simp only [true_iff]
  exact ⟨a1,fun q=>by omega⟩
 ·intro t2 h2
  refine ⟨fun e=>?_,fun e=>⟨by omega,fun a1=>?_,fun a1=>⟨by omega,by omega,fun y hy=>⟨⟨fun b1=>?_,fun b1=>?_⟩,?_⟩⟩⟩⟩
  ·subst e
   exact nodec fun q=>by
    obtain ⟨l,hl⟩:∃l,o.ls[k]?=some l:=⟨_,List.getElem?_eq_getElem (by omega)⟩
    have d:=(ovl_iff.mp q).2.2.1 k x l hx hl
    have:=h2.mpr ⟨d.fs,d.fasc⟩
    simp at this
  ·have a1:¬x.peers.map Per.router=others (rtrs o.sp) x.router:=by simpa using a1
   exact nodec fun q=>by
    obtain ⟨l,hl⟩:∃l,o.ls[k]?=some l:=⟨_,List.getElem?_eq_getElem (by omega)⟩
    exact a1 ((ovl_iff.mp q).2.2.1 k x l hx hl).fp
  ·have b1:¬valL y=0:=by simpa using b1
   rw [valL_z] at b1
   simp [b1]
  ·have b1:valL y=0:=by simpa using b1
   rw [valL_z] at b1
   simp [b1]
  ·have a1:x.peers.map Per.router=others (rtrs o.sp) x.router:=by simpa using a1
   intro t3 h3
   refine ⟨fun e3=>?_,fun e3=>⟨⟨0,rfl,by omega,by simp⟩,?_⟩⟩
   ·subst e3
    exact nodec fun q=>by
     have d:=(ovl_iff.mp q).2.2.1 k x y hx hy
     have:=h3.mpr ⟨d.fl,d.fr⟩
     simp at this
   obtain ⟨d1,d2⟩:=h2.mp e
   obtain ⟨d3,d4⟩:=h3.mp e3
   have hh:=d3.2.2.1
   rintro _ ⟨j,rfl,hj,hJ⟩
   simp only [Int.toNat_natCast]
   refine ⟨fun c1=>⟨by omega,by omega,fun z hz=>⟨fun c2=>?_,fun c2=>?_⟩⟩,fun c1=>?_⟩
   ·have c2:¬z.router∈rtrs o.sp:=by simpa using c2
    exact nodec fun q=>c2 (((ovl_iff.mp q).2.2.1 k x y hx hy).fh z (mem_of_get hz))
   ·rw [W_succ (n:=y.heard.length) (by omega) (by omega)]
    exact ⟨⟨j+1,rfl,by omega,take_all hz hJ (by simpa using c2)⟩,by omega⟩
   ·rw [W_succ (n:=o.sp.length) (by omega) (by omega)]
    have hj:j=y.heard.length:=by omega
    rw [hj,List.take_length] at hJ
    refine ⟨⟨k+1,rfl,by omega,fun i s l hi hs hl=>?_⟩,by omega⟩
    by_cases ei:i=k
    ·subst ei
     rw [hx] at hs;rw [hy] at hl
     cases hs;cases hl
     exact ⟨d1,d2,a1,d3,d4,hJ⟩
    ·exact hI i s l (by omega) hs hl
 ·have hk:k=o.sp.length:=by omega
  rintro _ ⟨j,rfl,hj,hJ⟩
  simp only [Int.toNat_natCast]
  refine ⟨fun c1=>⟨by omega,by omega,fun x hx=>⟨⟨fun a1=>?_,fun a1=>⟨fun a2=>?_,fun a2=>?_⟩⟩,?_⟩⟩,fun c1=>?_⟩
  ·have a1:¬sigErr x=0:=by simpa using a1
   simp [sigIn,a1]
  ·have a2:¬x.src∈rtrs o.sp:=by simpa using a2
   simp [sigIn,a2]
  ·have a1:sigErr x=0:=by simpa using a1
   have a2:x.src∈rtrs o.sp:=by simpa using a2
   simp [sigIn,a1,a2]
  ·intro t6 h6
   refine ⟨fun e=>?_,fun e=>?_⟩
   ·subst e
    exact nodec fun q=>by have:=h6.mpr ((ovl_iff.mp q).2.2.2 x (mem_of_get hx));simp at this
   ·rw [W_succ (n:=o.fl.length) (by omega) (by omega)]
    exact ⟨⟨j+1,rfl,by omega,take_all hx hJ (h6.mp e)⟩,by omega⟩
  ·have hj:j=o.fl.length:=by omega
   rw [hj,List.take_length] at hJ
   refine (decide_eq_true (ovl_iff.mpr ⟨n1,n2,fun i s l hs hl=>hI i s l (by have:=lt_of_get hs;omega) hs hl,hJ⟩)).symm
def validO_c(o:Ovl):PC Tryz.prog:=⟨91,[(.a [(.s 5),(.s 3),(.s 10)])],[.agg [.sl 5 (o.sp.map Spk.v) false,.sl 3 (o.ls.map Lsn.v) false,.sl 10 (o.fl.map Sig.v) false]],validO_e (decide (ovlOk o)),PSpec.of_ok fun ok=>(validO_p o ok).elim fun I0 h=>h.elim fun I1 h=>h.elim fun m1 h=>h.elim fun I2 h=>h.elim fun I3 h=>h.elim fun I4 h=>h.elim fun m4 h=>h.elim fun I5 h=>h.elim fun m5 h=>h.elim fun I6 h=>mxP_of (sh:=.k) (enc:=validO_e) (a:=(validO_x o I0 I1 m1 I2 I3 I4 m4 I5 m5 I6).an) h (by kernel_rfl) (AV.pureB_ok rfl),fnB_ok (by kernel_rfl)⟩
def valO(o:Ovl):Int:=if ovlOk o then 0 else 1
def valO_a(o:Ovl):Prop:=okL [.agg [.sl 5 (o.sp.map Spk.v) false,.sl 3 (o.ls.map Lsn.v) false,.sl 10 (o.fl.map Sig.v) false]]
def valO_e(r:Int):AV:=.int r
def valO_x(o:Ovl):Ax Tryz.prog noS (Int):=
 (.callP (validO_c o)
(.br 64 (decide (ovlOk o)) (.ret (0))
(.ret (1))))
def valO_vc(o:Ovl)(r0:Int):Prop:=(valO_x o).vp valO_e r0
theorem valO_p(o:Ovl)(ok:valO_a o):valO_vc o (valO o):=by
 dsimp only [valO_vc,valO_x,noS,Ax.vp,Ax.vc];simp only [vcU,rfU,List.length_map]
 unfold valO
 refine ⟨fun h=>?_,fun h=>?_⟩
 ·rw [if_pos h]
 ·rw [if_neg h]
def valO_c(o:Ovl):PC Tryz.prog:=⟨50,[(.a [(.s 5),(.s 3),(.s 10)])],[.agg [.sl 5 (o.sp.map Spk.v) false,.sl 3 (o.ls.map Lsn.v) false,.sl 10 (o.fl.map Sig.v) false]],valO_e (valO o),PSpec.of_ok fun ok=>mxP_of (sh:=.k) (enc:=valO_e) (a:=(valO_x o).an) (valO_p o ok) (by kernel_rfl) (AV.pureB_ok rfl),fnB_ok (by kernel_rfl)⟩
theorem sig_srcs{x:Sig}(h:sigErr x=0):x.srcs.length≤1000000:=by
 unfold sigErr at h
 split at h
 ·omega
 split at h
 ·omega
 split at h
 ·have:=srcs_len h;omega
 ·split at h
  ·omega
  ·rename_i q
   have:x.srcs=[]:=by
    by_cases e:x.srcs=[]
    ·exact e
    ·exact absurd (.inr e) q
   rw [this];simp
theorem findW_cons(x:Wnt)(l:List Wnt)(g:Int):findW (x::l) g=if x.grp=g then ⟨x.mode,x.srcs⟩ else findW l g:=by
 unfold findW
 rw [List.find?_cons]
 by_cases h:x.grp=g
 ·rw [if_pos h];simp [h]
 ·rw [if_neg h];simp [h]
theorem hitS_iff{o:Ovl}(h:ovlOk o)(r:Int):hitS o.sp r↔r∈rtrs o.sp:=(hitK_iff (key:=Spk.router) h.1.asc).trans mem_keys.symm
theorem pos_get{o:Ovl}(h:ovlOk o){r:Int}(hr:r∈rtrs o.sp):posS o.sp r<o.sp.length∧posS o.sp r<o.ls.length∧o.sp[posS o.sp r]?=some (atS o.sp r)∧o.ls[posS o.sp r]?=some (atL o.sp o.ls r):=by
 have h1:=((hitS_iff h r).mpr hr).1
 have h2:=(ovl_iff.mp h).2.1
 refine ⟨h1,by omega,?_,?_⟩
 ·unfold atS;rw [List.getD_eq_getElem?_getD,List.getElem?_eq_getElem h1];rfl
 ·unfold atL;rw [List.getD_eq_getElem?_getD,List.getElem?_eq_getElem (by omega)];rfl
def okArr(l:List Sig)(f:List Fau):Prop:=l.length≤500000∧f.length≤1000∧∀x∈l,x.srcs.length≤1000000
def okRnd(o:Ovl)(f:List Fau):Prop:=o.fl.length≤400000∧f.length≤1000
theorem NetOk.pos{R:List Int}{sp:List Spk}{ls:List Lsn}(h:NetOk R sp ls){r:Int}(hr:r∈R) :
  posS sp r<sp.length∧posS sp r<ls.length∧sp[posS sp r]?=some (atS sp r)∧ls[posS sp r]?=some (atL sp ls r):=by
 have h1:posS sp r<sp.length:=((hitK_iff (key:=Spk.router) (d:=spk0) h.asc).mpr (mem_keys.mp (by rw [h.spr];exact hr))).1
 have e1:=congrArg List.length h.spr
 have e2:=congrArg List.length h.lsr
 rw [List.length_map] at e1 e2
 refine ⟨h1,by omega,?_,?_⟩
 ·unfold atS;rw [List.getD_eq_getElem?_getD,List.getElem?_eq_getElem h1];rfl
 ·unfold atL;rw [List.getD_eq_getElem?_getD,List.getElem?_eq_getElem (by omega)];rfl
theorem NetOk.lens{R:List Int}{sp:List Spk}{ls:List Lsn}(h:NetOk R sp ls):sp.length≤12∧ls.length≤12:=by
 have e1:=congrArg List.length h.spr
 have e2:=congrArg List.length h.lsr
 rw [List.length_map] at e1 e2
 have:=h.len
 omega
theorem flat_take{α β:Type}{f:α→List β}{l:List α}{k:Nat}{x:α}(hx:l[k]?=some x):(l.take (k+1)).flatMap f=(l.take k).flatMap f++f x:=by
 rw [take_succ hx];simp
theorem pos_inj{o:Ovl}(h:ovlOk o){a b:Int}(ha:a∈rtrs o.sp)(hb:b∈rtrs o.sp):posS o.sp a=posS o.sp b↔a=b:=by
 refine ⟨fun e=>?_,fun e=>by rw [e]⟩
 have h1:=(h.1.s ha).2
 have h2:=(h.1.s hb).2
 unfold atS at h1 h2
 rw [e] at h1
 exact h1.symm.trans h2
def knwOv_a(o:Ovl)(at_:Int)(of_:Int):Prop:=okL [.agg [.sl 5 (o.sp.map Spk.v) false,.sl 3 (o.ls.map Lsn.v) false,.sl 10 (o.fl.map Sig.v) false],.int at_,.int of_]
def knwOv_n0(o:Ovl)(at_:Int)(of_:Int)(t0:Bool):NF:=⟨[(2,.k,.int of_),(3,.k,.ref 0 0),(8,.k,.int (posS o.sp at_:Int)),(10,.k,.int (posS o.sp of_:Int)),(27,.k,.bool t0)],[.box (.agg [.sl 5 (o.sp.map Spk.v) false,.sl 3 (o.ls.map Lsn.v) false,.sl 10 (o.fl.map Sig.v) false])]⟩
@[reducible] def knwOv_s:Nat→Type
 | 0=>Bool
 | _=>Unit
def knwOv_e(r:(List Wnt)×Int):AV:=.tup [.sl 3 (r.1.map Wnt.v) false,.int r.2]
def knwOv_x(o:Ovl)(at_:Int)(of_:Int)(I0:Bool→Prop):Ax Tryz.prog knwOv_s ((List Wnt)×Int):=
 (.callP (validO_c o)
(.br 96 (!(decide (ovlOk o))) (.ret ([],1))
(.req 128 (o.sp.Pairwise fun x y=>x.router<y.router) fun h1 =>
(.req 128 (o.sp.length≤1000000) fun h2 =>
(.callP (findS_c o at_ h1 h2)
(.req 256 (o.sp.Pairwise fun x y=>x.router<y.router) fun h3 =>
(.req 256 (o.sp.length≤1000000) fun h4 =>
(.callP (findS_c o of_ h3 h4)
(.pass (.join 0 (knwOv_n0 o at_ of_) (fun (t0:Bool)=>I0 t0) (fun b0=>(.br 400 (!(decide (hitS o.sp at_))) (.bk 0 b0 ((true):Bool) [0])
(.bk 0 b0 ((!(decide (hitS o.sp of_))):Bool) [0]))) fun (t0:Bool) =>
(.br 1 t0 (.ret ([],4))
(.br 65 ((posS o.sp at_:Int)==(posS o.sp of_:Int)) (.el 113 Spk.v o.sp (fun R=>Rf (o.sp.map Spk.v) (ck (decide (0≤(posS o.sp at_:Int))) (ck (decide ((posS o.sp at_:Int)<(o.sp.length:Int)))
(∀x5,o.sp[(posS o.sp at_:Int).toNat]?=some x5 →
(R x5))))) fun x5 =>
(.callP (wantsF_c x5.items)
(.ret (wantsOf x5.items,0))))
(.el 113 Lsn.v o.ls (fun R=>Rf (o.ls.map Lsn.v) (ck (decide (0≤(posS o.sp at_:Int))) (ck (decide ((posS o.sp at_:Int)<(o.ls.length:Int)))
(∀x6,o.ls[(posS o.sp at_:Int).toNat]?=some x6 →
(R x6))))) fun x6 =>
(.callP (knownF_c x6 of_)
(.ret (knownW x6 of_,0))))))))))))))))
def knwOv_vc(o:Ovl)(at_:Int)(of_:Int)(I0:Bool→Prop)(r0:(List Wnt)×Int):Prop:=(knwOv_x o at_ of_ I0).vp knwOv_e r0
theorem knwOv_p(o:Ovl)(a b:Int)(ok:knwOv_a o a b):∃I0,knwOv_vc o a b I0 (knownV o a b):=by
 refine ⟨fun t=>t=decide (a ∉ rtrs o.sp∨b ∉ rtrs o.sp),?_⟩
 dsimp only [knwOv_vc,knwOv_x,knwOv_s,Ax.vp,Ax.vc];simp only [vcU,rfU,List.length_map]
 have hV:knownV o a b=if ¬ovlOk o then ([],1) else if a ∉ rtrs o.sp∨b ∉ rtrs o.sp then ([],4) else if a=b then (wantsOf (atS o.sp b).items,0) else (knownW (atL o.sp o.ls a) b,0):=rfl
 rw [hV]
 by_cases hv:ovlOk o
 case neg=>simp [hv]
 have hL:=hv.1.lens
 rw [if_neg (not_not_intro hv)]
 refine ⟨fun q=>absurd hv (by simpa using q),fun _=>⟨hv.1.asc,by omega,hv.1.asc,by omega,⟨fun c=>?_,fun c=>?_⟩,?_⟩⟩
 ·have c:a ∉ rtrs o.sp:=by rw [←hitS_iff hv];simpa using c
  simp [c]
 ·have c:a∈rtrs o.sp:=by rw [←hitS_iff hv];simpa using c
  have e2:decide (hitS o.sp b)=decide (b∈rtrs o.sp):=decide_eq_decide.mpr (hitS_iff hv b)
  rw [e2];simp [c]
 ·rintro _ rfl
  refine ⟨fun c=>?_,fun c=>?_⟩
  ·rw [if_pos (of_decide_eq_true c)]
  have c:=of_decide_eq_false c
  rw [if_neg c]
  have ha:a∈rtrs o.sp:=by simp only [not_or,Classical.not_not] at c;exact c.1
  have hb:b∈rtrs o.sp:=by simp only [not_or,Classical.not_not] at c;exact c.2
  obtain ⟨p1,p2,p3,p4⟩:=hv.1.pos ha
  simp only [Int.toNat_natCast]
  refine ⟨fun q=>⟨by omega,by omega,fun x hx=>?_⟩,fun q=>⟨by omega,by omega,fun x hx=>?_⟩⟩
  ·have q:a=b:=(pos_inj hv ha hb).mp (by have:=eq_of_beq q;omega)
   cases p3.symm.trans hx
   rw [if_pos q,q]
  ·have q:¬a=b:=fun e=>by rw [e] at q;simp at q
   cases p4.symm.trans hx
   rw [if_neg q]
def knwOv_c(o:Ovl)(at_:Int)(of_:Int):PC Tryz.prog:=⟨53,[(.a [(.s 5),(.s 3),(.s 10)]),.k,.k],[.agg [.sl 5 (o.sp.map Spk.v) false,.sl 3 (o.ls.map Lsn.v) false,.sl 10 (o.fl.map Sig.v) false],.int at_,.int of_],knwOv_e (knownV o at_ of_),PSpec.of_ok fun ok=>(knwOv_p o at_ of_ ok).elim fun I0 h=>mxP_of (sh:=(.a [(.s 3),.k])) (enc:=knwOv_e) (a:=(knwOv_x o at_ of_ I0).an) h (by kernel_rfl) (AV.pureB_ok rfl),fnB_ok (by kernel_rfl)⟩
def setAt(o:Ovl)(s:Spk)(p:Per):Prop:=agree s (atL o.sp o.ls p.router)∧p.epoch=(atL o.sp o.ls p.router).epoch∧p.acked=s.last
theorem netOf_iff(l:List Int):ovlOk (netOf l)↔okR l:=by
 have er:rtrs (netOf l).sp=l:=by
  show (l.map (spkN l)).map Spk.router=l
  rw [List.map_map]
  exact List.map_id'' (fun x=>rfl) l
 constructor
 ·rintro ⟨h,_⟩
  rw [er] at h
  refine ⟨h.len,fun r hr=>?_,h.ascR⟩
  have:=(h.spo (spkN l r) (List.mem_map.mpr ⟨r,hr,rfl⟩)).1.1
  exact this
 ·intro h
  refine ⟨?_,by simp [netOf]⟩
  rw [er];exact netOf_net h
def fltsT_a(L:(List Int))(p:Nat)(n:Int):Prop:=okL [.ref 0 0,.int n]∧(.box (.agg [.sl 1 (L.map AV.int) false,.int ((p:Nat):Int)]):Blk).ok
def fltsT_n0(L:(List Int))(n:Int)(t0:Int×Nat×(List Fau)):NF:=⟨[(0,.k,.ref 0 0),(1,.k,.int n),(5,.k,.vec 1),(6,.k,.int t0.1)],[.box (.agg [.sl 1 (L.map AV.int) false,.int ((t0.2.1:Nat):Int)]),.vec 2 (t0.2.2.map Fau.v) (pureBL_map (fun _=>rfl) t0.2.2)]⟩
@[reducible] def fltsT_s:Nat→Type
 | 0=>Int×Nat×(List Fau)
 | _=>Unit
def fltsT_e(r:Tap×(List Fau)):AV:=.sl 2 (r.2.map Fau.v) false
def fltsT_b(r:Tap×(List Fau)):List (Option Blk):=[some (.box (.agg [.sl 1 (r.1.L.map AV.int) false,.int ((r.1.p:Nat):Int)]))]
def fltsT_x(L:(List Int))(p:Nat)(n:Int)(I0:(Int×Nat×(List Fau))→Prop)(m0:(Int×Nat×(List Fau))→Nat):Ax Tryz.prog fltsT_s (Tap×(List Fau)):=
 (.callH [0] (N_h L p 4) 49
(.cmdL (.nilT 5 2) (.loop 0 (fltsT_n0 L n) I0 m0 (Mod (rawV L p) 4,rawP L p,[]) [0,81] fun (t0:Int×Nat×(List Fau)) b0 =>
(.br 34 (decide (0<t0.1)) (.callH [0] (Range_h L t0.2.1 0 5) 66
(.callH [0] (N_h L (rawP L t0.2.1) (W (n+2))) 130
(.say (fun R=>Rf (α:=List AV) (t0.2.2.map Fau.v) (Rf (α:=List AV) [.agg [.int (rng L t0.2.1 0 5),.int (Mod (rawV L (rawP L t0.2.1)) (W (n+2)))]]
(ck (decide (t0.2.2.length+1≤1048576))
R))) (.app 178 Fau.v t0.2.2 [(⟨rng L t0.2.1 0 5,Mod (rawV L (rawP L t0.2.1)) (W (n+2))⟩:Fau)]
(.bk 0 b0 (W (t0.1-1),rawP L (rawP L t0.2.1),t0.2.2++[(⟨rng L t0.2.1 0 5,Mod (rawV L (rawP L t0.2.1)) (W (n+2))⟩:Fau)]) [0,178])))))
(.say (Rf (t0.2.2.map Fau.v)) (.cmdL (.frzE 1 (t0.2.2.map Fau.v) (pureBL_map (fun _=>rfl) t0.2.2)) (.retH ((⟨L,t0.2.1⟩:Tap),t0.2.2) ⟨[(4,.k,.sl 2 (t0.2.2.map Fau.v) false)],[.box (.agg [.sl 1 (L.map AV.int) false,.int ((t0.2.1:Nat):Int)])]⟩ [0])))))))
def fltsT_vc(L:(List Int))(p:Nat)(n:Int)(I0:(Int×Nat×(List Fau))→Prop)(m0:(Int×Nat×(List Fau))→Nat)(r0:Tap×(List Fau)):Prop:=(fltsT_x L p n I0 m0).vc fltsT_e fltsT_b r0
theorem fltsT_p(L:List Int)(p:Nat)(n:Int)(h:0≤n∧n≤1000000)(ok:fltsT_a L p n):∃I m,fltsT_vc L p n I m ((⟨L,(faultsT L n p).2⟩:Tap),(faultsT L n p).1):=by
 have hm:=Mod_range (x:=rawV L p) (n:=4) (by omega)
 refine ⟨fun t=>∃k:Nat,t.1=k∧k≤4∧t.2.2.length+k≤4∧faultsL L n k t.2.2 t.2.1=faultsT L n p,fun t=>t.1.toNat,?_⟩
 dsimp only [fltsT_vc,fltsT_x,fltsT_s,Ax.vp,Ax.vc];simp only [vcU,rfU,List.length_map]
 refine ⟨⟨(Mod (rawV L p) 4).toNat,by omega,by omega,by simp;omega,rfl⟩,?_⟩
 rintro ⟨i,q,out⟩ ⟨k,hk,hk4,hl,hf⟩
 simp only at hk hl hf
 subst hk
 simp only [Int.toNat_natCast]
 refine ⟨fun h1=>⟨by omega,?_,?_⟩,fun h1=>?_⟩
 ·obtain ⟨j,rfl⟩:∃j,k=j+1:=⟨k-1,by omega⟩
  rw [W_eq (by omega)]
  refine ⟨j,by omega,by omega,by simp;omega,?_⟩
  rw [faultsL] at hf
  exact hf
 ·rw [W_eq (by omega)];omega
 ·have:k=0:=by omega
  subst this
  rw [←hf];rfl
def fltsT_h(L:(List Int))(p:Nat)(n:Int)(h:0≤n∧n≤1000000):HC Tryz.prog:=⟨40,[.k,.k],[.ref 0 0,.int n],[.box (.agg [.sl 1 (L.map AV.int) false,.int ((p:Nat):Int)])],fltsT_e ((⟨L,(faultsT L n p).2⟩:Tap),(faultsT L n p).1),fltsT_b ((⟨L,(faultsT L n p).2⟩:Tap),(faultsT L n p).1),HSpec.of_okh fun ok ok2=>have ok:fltsT_a L p n:=⟨ok,ok2 _ (by simp)⟩;(fltsT_p L p n h ok).elim fun I0 h=>h.elim fun m0 h=>mxH_of (sh:=(.s 2)) (enc:=fltsT_e) (hB:=fltsT_b) (a:=(fltsT_x L p n I0 m0).an) h (by kernel_rfl),fnB_ok (by kernel_rfl),HcOk.of (by simp [hcB,belBL,AV.belB,allB,okBk,okBkO,fltsT_e,fltsT_b,pureBL_map (v:=AV.int) (fun _=>rfl)])⟩
def arrR_a(l:(List Sig))(faults:(List Fau)):Prop:=okL [.sl 10 (l.map Sig.v) false,.sl 2 (faults.map Fau.v) false]
def arrR_n0(faults:(List Fau))(t0:Int×(List Sig)×(List Sig)):NF:=⟨[(6,.k,.vec 0),(7,.k,.vec 1),(15,.k,.sl 2 (faults.map Fau.v) false),(16,.k,.int ((faults.map Fau.v).length:Int)),(17,.k,.int t0.1)],[.vec 10 (t0.2.1.map Sig.v) (pureBL_map (fun _=>rfl) t0.2.1),.vec 10 (t0.2.2.map Sig.v) (pureBL_map (fun _=>rfl) t0.2.2)]⟩
def arrR_n1(faults:(List Fau))(t0:Int×(List Sig)×(List Sig))(x1:Fau)(t1:Bool):NF:=⟨[(6,.k,.vec 0),(7,.k,.vec 1),(9,.k,.ref 2 0),(15,.k,.sl 2 (faults.map Fau.v) false),(16,.k,.int ((faults.map Fau.v).length:Int)),(17,.k,.int t0.1),(30,.k,.bool t1)],[.vec 10 (t0.2.1.map Sig.v) (pureBL_map (fun _=>rfl) t0.2.1),.vec 10 (t0.2.2.map Sig.v) (pureBL_map (fun _=>rfl) t0.2.2),.box (.agg [.int x1.kind,.int x1.pos])]⟩
@[reducible] def arrR_s:Nat→Type
 | 0=>Int×(List Sig)×(List Sig)
 | 1=>Bool
 | _=>Unit
def arrR_e(r:(List Sig)×(List Sig)):AV:=.tup [.vec 0,.vec 1]
def arrR_b(r:(List Sig)×(List Sig)):List (Option Blk):=[some (.vec 10 (r.1.map Sig.v)),some (.vec 10 (r.2.map Sig.v))]
def arrR_x(l:(List Sig))(faults:(List Fau))(I0:(Int×(List Sig)×(List Sig))→Prop)(m0:(Int×(List Sig)×(List Sig))→Nat)(I1:Int×(List Sig)×(List Sig)→Fau→Bool→Prop):Ax Tryz.prog arrR_s ((List Sig)×(List Sig)):=
 (.say (fun R=>Rf (α:=List AV) [] (Rf (α:=List AV) (l.map Sig.v)
(ck (decide (0+l.length≤1048576))
R))) (.app 64 Sig.v [] l
(.cmdL (.nilT 7 10) (.loop 0 (arrR_n0 faults) I0 m0 (0,l,[]) [64,160] fun (t0:Int×(List Sig)×(List Sig)) b0 =>
(.br 18 (decide (t0.1<((faults.map Fau.v).length:Int))) (.el 18 Fau.v faults (fun R=>Rf (faults.map Fau.v) (ck (decide (0≤t0.1)) (ck (decide (t0.1<(faults.length:Int)))
(∀x1,faults[t0.1.toNat]?=some x1 →
(R x1))))) fun x1 =>
(.pass (.join 1 (arrR_n1 faults t0 x1) (fun (t1:Bool)=>I1 t0 x1 t1) (fun b1=>(.br 146 (decide (x1.pos<0)) (.bk 1 b1 ((true):Bool) [0,1,50])
(.bk 1 b1 ((decide (((t0.2.1.map Sig.v).length:Int)≤x1.pos)):Bool) [0,1,50]))) fun (t1:Bool) =>
(.br 3 t1 (.bk 0 b0 (W (t0.1+1),t0.2.1,t0.2.2) [0,1])
(.say (ck (cond (decide (0≤x1.pos)) (decide (x1.pos<((t0.2.1.map Sig.v).length:Int))) false)) (.el 67 Sig.v t0.2.1 (fun R=>Rf (t0.2.1.map Sig.v) (ck (decide (x1.pos.toNat<t0.2.1.length))
(∀x2,t0.2.1[x1.pos.toNat]?=some x2 →
(R x2)))) fun x2 =>
(.say (fun R=>Rf (t0.2.1.map Sig.v) (ck (decide (0<t0.2.1.length))
R)) (.sub 195 Sig.v t0.2.1 false
(.say (fun R=>ck (bndB t0.2.1.length (W (x1.pos+1)) (t0.2.1.length:Int) (t0.2.1.length:Int))
((ck (decide ((W (x1.pos+1)).toNat+((t0.2.1.length:Int)-(W (x1.pos+1))).toNat≤(t0.2.1.map Sig.v).length))
(Rf (α:=List AV) [] (((((t0.2.1.map Sig.v).drop ((W (x1.pos+1)).toNat)).take (((t0.2.1.length:Int)-(W (x1.pos+1))).toNat))=((t0.2.1.drop ((W (x1.pos+1)).toNat)).take (((t0.2.1.length:Int)-(W (x1.pos+1))).toNat)).map Sig.v) ∧
(ck (decide (0+((t0.2.1.drop ((W (x1.pos+1)).toNat)).take (((t0.2.1.length:Int)-(W (x1.pos+1))).toNat)).length≤1048576))
R)))))) (.app 211 Sig.v [] ((t0.2.1.drop ((W (x1.pos+1)).toNat)).take (((t0.2.1.length:Int)-(W (x1.pos+1))).toNat))
(.br 307 (x1.kind==1) (.say (fun R=>Rf (t0.2.1.map Sig.v) (ck (decide (0<t0.2.1.length))
R)) (.sub 387 Sig.v t0.2.1 false
(.say (fun R=>ck (decide (x1.pos=x1.pos))
((ck (bndB t0.2.1.length 0 x1.pos x1.pos)
((Rf (α:=List AV) ((t0.2.1.take x1.pos.toNat).map Sig.v) (Rf (α:=List AV) (((t0.2.1.drop ((W (x1.pos+1)).toNat)).take (((t0.2.1.length:Int)-(W (x1.pos+1))).toNat)).map Sig.v)
(ck (decide ((t0.2.1.take x1.pos.toNat).length+((t0.2.1.drop ((W (x1.pos+1)).toNat)).take (((t0.2.1.length:Int)-(W (x1.pos+1))).toNat)).length≤1048576))
R))))))) (.app 419 Sig.v (t0.2.1.take x1.pos.toNat) ((t0.2.1.drop ((W (x1.pos+1)).toNat)).take (((t0.2.1.length:Int)-(W (x1.pos+1))).toNat))
(.bk 0 b0 (W (t0.1+1),(t0.2.1.take x1.pos.toNat)++((t0.2.1.drop ((W (x1.pos+1)).toNat)).take (((t0.2.1.length:Int)-(W (x1.pos+1))).toNat)),t0.2.2) [419,1])))))
(.br 339 (x1.kind==2) (.say (fun R=>Rf (t0.2.1.map Sig.v) (ck (decide (0<t0.2.1.length))
R)) (.sub 419 Sig.v t0.2.1 false
(.say (fun R=>ck (decide (x1.pos=x1.pos))
((ck (bndB t0.2.1.length 0 x1.pos x1.pos)
((Rf (α:=List AV) ((t0.2.1.take x1.pos.toNat).map Sig.v) (Rf (α:=List AV) [.agg [.int x2.kind,.int x2.src,.int x2.dst,.int x2.epoch,.int x2.ver,.int x2.prev,.int x2.pep,.int x2.grp,.int x2.mode,.sl 1 (x2.srcs.map AV.int) false],.agg [.int x2.kind,.int x2.src,.int x2.dst,.int x2.epoch,.int x2.ver,.int x2.prev,.int x2.pep,.int x2.grp,.int x2.mode,.sl 1 (x2.srcs.map AV.int) false]]
(ck (decide ((t0.2.1.take x1.pos.toNat).length+2≤1048576))
R))))))) (.app 483 Sig.v (t0.2.1.take x1.pos.toNat) [x2,x2]
(.say (fun R=>Rf (α:=List AV) (((t0.2.1.take x1.pos.toNat)++[x2,x2]).map Sig.v) (Rf (α:=List AV) (((t0.2.1.drop ((W (x1.pos+1)).toNat)).take (((t0.2.1.length:Int)-(W (x1.pos+1))).toNat)).map Sig.v)
(ck (decide (((t0.2.1.take x1.pos.toNat)++[x2,x2]).length+((t0.2.1.drop ((W (x1.pos+1)).toNat)).take (((t0.2.1.length:Int)-(W (x1.pos+1))).toNat)).length≤1048576))
R))) (.app 515 Sig.v ((t0.2.1.take x1.pos.toNat)++[x2,x2]) ((t0.2.1.drop ((W (x1.pos+1)).toNat)).take (((t0.2.1.length:Int)-(W (x1.pos+1))).toNat))
(.bk 0 b0 (W (t0.1+1),((t0.2.1.take x1.pos.toNat)++[x2,x2])++((t0.2.1.drop ((W (x1.pos+1)).toNat)).take (((t0.2.1.length:Int)-(W (x1.pos+1))).toNat)),t0.2.2) [515,1])))))))
(.br 371 (x1.kind==3) (.say (fun R=>Rf (t0.2.1.map Sig.v) (ck (decide (0<t0.2.1.length))
R)) (.sub 451 Sig.v t0.2.1 false
(.say (fun R=>ck (decide (x1.pos=x1.pos))
((ck (bndB t0.2.1.length 0 x1.pos x1.pos)
((Rf (α:=List AV) ((t0.2.1.take x1.pos.toNat).map Sig.v) (Rf (α:=List AV) (((t0.2.1.drop ((W (x1.pos+1)).toNat)).take (((t0.2.1.length:Int)-(W (x1.pos+1))).toNat)).map Sig.v)
(ck (decide ((t0.2.1.take x1.pos.toNat).length+((t0.2.1.drop ((W (x1.pos+1)).toNat)).take (((t0.2.1.length:Int)-(W (x1.pos+1))).toNat)).length≤1048576))
R))))))) (.app 483 Sig.v (t0.2.1.take x1.pos.toNat) ((t0.2.1.drop ((W (x1.pos+1)).toNat)).take (((t0.2.1.length:Int)-(W (x1.pos+1))).toNat))
(.say (fun R=>Rf (α:=List AV) (t0.2.2.map Sig.v) (Rf (α:=List AV) [.agg [.int x2.kind,.int x2.src,.int x2.dst,.int x2.epoch,.int x2.ver,.int x2.prev,.int x2.pep,.int x2.grp,.int x2.mode,.sl 1 (x2.srcs.map AV.int) false]]
(ck (decide (t0.2.2.length+1≤1048576))
R))) (.app 563 Sig.v t0.2.2 [x2]
(.bk 0 b0 (W (t0.1+1),(t0.2.1.take x1.pos.toNat)++((t0.2.1.drop ((W (x1.pos+1)).toNat)).take (((t0.2.1.length:Int)-(W (x1.pos+1))).toNat)),t0.2.2++[x2]) [483,563])))))))
(.br 403 (x1.kind==4) (.br 499 (decide ((W (x1.pos+1))<((t0.2.1.map Sig.v).length:Int))) (.say (ck (cond (decide (0≤(W (x1.pos+1)))) (decide ((W (x1.pos+1))<((t0.2.1.map Sig.v).length:Int))) false)) (.el 691 Sig.v t0.2.1 (fun R=>Rf (t0.2.1.map Sig.v) (ck (decide ((W (x1.pos+1)).toNat<t0.2.1.length))
(∀x3,t0.2.1[(W (x1.pos+1)).toNat]?=some x3 →
(R x3)))) fun x3 =>
(.say (ck (cond (decide (0≤x1.pos)) (decide (x1.pos<((t0.2.1.map Sig.v).length:Int))) false)) (.st 739 Sig.v t0.2.1 (fun y4=>x3) (fun R=>Rf (t0.2.1.map Sig.v) (ck (decide (x1.pos.toNat<t0.2.1.length))
(∀y4,t0.2.1[x1.pos.toNat]?=some y4→Rf (Sig.v x3)
((R y4))))) fun y4 =>
(.say (ck (cond (decide (0≤(W (x1.pos+1)))) (decide ((W (x1.pos+1))<(((t0.2.1.set x1.pos.toNat x3).map Sig.v).length:Int))) false)) (.st 771 Sig.v (t0.2.1.set x1.pos.toNat x3) (fun y5=>x2) (fun R=>Rf ((t0.2.1.set x1.pos.toNat x3).map Sig.v) (ck (decide ((W (x1.pos+1)).toNat<(t0.2.1.set x1.pos.toNat x3).length))
(∀y5,(t0.2.1.set x1.pos.toNat x3)[(W (x1.pos+1)).toNat]?=some y5→Rf (Sig.v x2)
((R y5))))) fun y5 =>
(.bk 0 b0 (W (t0.1+1),(t0.2.1.set x1.pos.toNat x3).set ((W (x1.pos+1)).toNat) x2,t0.2.2) [0,1])))))))
(.bk 0 b0 (W (t0.1+1),t0.2.1,t0.2.2) [0,1]))
(.bk 0 b0 (W (t0.1+1),t0.2.1,t0.2.2) [0,1])))))))))))))))
(.retH (t0.2.1,t0.2.2) ⟨[(4,.k,.vec 0),(5,.k,.vec 1)],[.vec 10 (t0.2.1.map Sig.v) (pureBL_map (fun _=>rfl) t0.2.1),.vec 10 (t0.2.2.map Sig.v) (pureBL_map (fun _=>rfl) t0.2.2)]⟩ [0,1]))))))
def arrR_vc(l:(List Sig))(faults:(List Fau))(I0:(Int×(List Sig)×(List Sig))→Prop)(m0:(Int×(List Sig)×(List Sig))→Nat)(I1:Int×(List Sig)×(List Sig)→Fau→Bool→Prop)(r0:(List Sig)×(List Sig)):Prop:=(arrR_x l faults I0 m0 I1).vc arrR_e arrR_b r0
theorem arrR_p(l:List Sig)(f:List Fau)(h:okArr l f)(ok:arrR_a l f):∃I0 m0 I1,arrR_vc l f I0 m0 I1 (arr l f):=by
 obtain ⟨h1,h2,h3⟩:=h
 refine ⟨fun t=>∃k:Nat,t=((k:Int),((f.take k).foldl arr1 (l,[])).1,((f.take k).foldl arr1 (l,[])).2)∧k≤f.length,fun t=>f.length-t.1.toNat,
  fun t0 x t=>t=decide (x.pos<0∨(t0.2.1.length:Int)≤x.pos),?_⟩
 dsimp only [arrR_vc,arrR_x,arrR_s,Ax.vp,Ax.vc];simp only [vcU,rfU,List.length_map]
 refine ⟨by omega,⟨0,rfl,by omega⟩,?_⟩
 rintro _ ⟨k,rfl,hk⟩
 have hlen:=arrs_len (f:=f.take k) (s:=(l,[]))
 have hst:∀x,f[k]?=some x→(f.take (k+1)).foldl arr1 (l,[])=arr1 ((f.take k).foldl arr1 (l,[])) x:=fun x hx=>by rw [take_succ hx,List.foldl_append];rfl
 have hend:k=f.length→(f.take k).foldl arr1 (l,[])=arr l f:=fun e=>by rw [e,List.take_length];rfl
 generalize (f.take k).foldl arr1 (l,[])=s at *
 obtain ⟨now,late⟩:=s
 rw [List.length_take] at hlen
 simp only [Int.toNat_natCast,List.length_nil] at hlen ⊢
 refine ⟨fun a1=>⟨by omega,by omega,fun x hx=>⟨⟨fun c=>?_,fun c=>?_⟩,?_⟩⟩,fun a1=>?_⟩
 ·simp [c]
 ·exact decide_eq_decide.mpr (by omega)
 ·have e1:=hst x hx
  intro t1 ht1
  rw [W_succ (n:=f.length) (by omega) (by omega)]
  have fin:∀a b,arr1 (now,late) x=(a,b)→(∃k_1:Nat,(((k+1:Nat):Int),a,b)=((k_1:Int),((f.take k_1).foldl arr1 (l,[])).1,((f.take k_1).foldl arr1 (l,[])).2)∧k_1≤f.length)∧f.length-((k+1:Nat):Int).toNat<f.length-k:=fun a b e =>
   ⟨⟨k+1,by rw [e1,e],by omega⟩,by omega⟩
  refine ⟨fun e=>fin _ _ (if_pos (of_decide_eq_true (ht1.symm.trans e))),fun e=>?_⟩
  have hb:¬(x.pos<0∨(now.length:Int)≤x.pos):=of_decide_eq_false (ht1.symm.trans e)
  have e2:arr1 (now,late) x=arrK now late x.kind x.pos.toNat (now.getD x.pos.toNat sig0):=if_neg hb
  obtain ⟨n,hn⟩:∃n:Nat,x.pos=n:=⟨x.pos.toNat,by omega⟩
  rw [hn] at e2 hb ⊢
  simp only [Int.toNat_natCast] at e2 ⊢
  have hW:W ((n:Int)+1)=((n+1:Nat):Int):=by rw [W_eq (by omega)];omega
  rw [hW]
  simp only [Int.toNat_natCast]
  have hr:(now.drop (n+1)).take ((now.length:Int)-((n+1:Nat):Int)).toNat=now.drop (n+1):=List.take_of_length_le (by simp;omega)
  have hdl:(now.drop (n+1)).length=now.length-(n+1):=List.length_drop ..
  have htl:(now.take n).length≤n:=List.length_take_le ..
  rw [hr]
  have hbn:bndB now.length 0 (n:Int) (n:Int)=true:=by simp [bndB];omega
  refine ⟨by simp;omega,by omega,fun y hy=>?_⟩
  rw [getD_some hy] at e2
  refine ⟨by omega,by simp [bndB];omega,by omega,by rw [←hr,List.map_take,List.map_drop],by omega,?_⟩
  refine ⟨fun c1=>⟨by omega,trivial,hbn,by omega,fin _ _ ?_⟩,fun c1=>⟨fun c2=>⟨by omega,trivial,hbn,by omega,by simp;omega,fin _ _ ?_⟩,fun c2=>⟨fun c3=>⟨by omega,trivial,hbn,by omega,by omega,fin _ _ ?_⟩,fun c3=>⟨fun c4=>⟨fun d=>?_,fun d=>fin _ _ ?_⟩,fun c4=>fin _ _ ?_⟩⟩⟩⟩
  ·rw [e2,arrK,if_pos (by simpa using c1)]
  ·rw [e2,arrK,if_neg (by simpa using c1),if_pos (by simpa using c2)]
  ·rw [e2,arrK,if_neg (by simpa using c1),if_neg (by simpa using c2),if_pos (by simpa using c3)]
  ·refine ⟨by simp;omega,by omega,fun z hz=>⟨by simp;omega,by omega,fun u hu=>⟨by simp;omega,by simp;omega,fun v hv=>fin _ _ ?_⟩⟩⟩
   rw [e2,arrK,if_neg (by simpa using c1),if_neg (by simpa using c2),if_neg (by simpa using c3),if_pos (by simpa using c4),if_pos (by omega),getD_some hz]
  ·rw [e2,arrK,if_neg (by simpa using c1),if_neg (by simpa using c2),if_neg (by simpa using c3),if_pos (by simpa using c4),if_neg (by omega)]
  ·rw [e2,arrK,if_neg (by simpa using c1),if_neg (by simpa using c2),if_neg (by simpa using c3),if_neg (by simpa using c4)]
 ·rw [←hend (by omega)]
def arrR_h(l:(List Sig))(faults:(List Fau))(h:okArr l faults):HC Tryz.prog:=⟨60,[(.s 10),(.s 2)],[.sl 10 (l.map Sig.v) false,.sl 2 (faults.map Fau.v) false],[],arrR_e (arr l faults),arrR_b (arr l faults),HSpec.of_okh fun ok _=>(arrR_p l faults h ok).elim fun I0 h=>h.elim fun m0 h=>h.elim fun I1 h=>mxH_of (sh:=.k) (enc:=arrR_e) (hB:=arrR_b) (a:=(arrR_x l faults I0 m0 I1).an) h (by kernel_rfl),fnB_ok (by kernel_rfl),HcOk.of (by simp [hcB,belBL,AV.belB,allB,okBk,okBkO,arrR_e,arrR_b,pureBL_map (v:=Fau.v) (fun _=>rfl),pureBL_map (v:=Sig.v) (fun _=>rfl)])⟩
def idxS(l:List Spk)(r:Int):Int:=match l.findIdx? fun p=>decide (p.router=r) with
 | some i=>i
 | none=>-1
theorem idxS_some{l:List Spk}{r:Int}{i:Nat}{x:Spk}(hx:l[i]?=some x)(h:x.router=r)(hb:∀y∈l.take i,y.router≠r):idxS l r=i:=by
 obtain ⟨hi,hxi⟩:=List.getElem?_eq_some_iff.mp hx
 have:l.findIdx? (fun p=>decide (p.router=r))=some i:=by
  rw [List.findIdx?_eq_some_iff_getElem]
  refine ⟨hi,by rw [hxi];simpa using h,fun j hj=>?_⟩
  have:=hb l[j] (List.mem_of_getElem? (i:=j) (by rw [List.getElem?_take,if_pos hj,List.getElem?_eq_getElem (by omega)]))
  simpa using this
 unfold idxS;rw [this]
theorem idxS_none{l:List Spk}{r:Int}(hb:∀y∈l,y.router≠r):idxS l r=-1:=by
 have:l.findIdx? (fun p=>decide (p.router=r))=none:=by
  rw [List.findIdx?_eq_none_iff]
  intro x hx;simpa using hb x hx
 unfold idxS;rw [this]
def idxSF_a(o:Ovl)(router:Int):Prop:=okL [.agg [.sl 5 (o.sp.map Spk.v) false,.sl 3 (o.ls.map Lsn.v) false,.sl 10 (o.fl.map Sig.v) false],.int router]
def idxSF_n0(o:Ovl)(router:Int)(t0:Int):NF:=⟨[(1,.k,.int router),(8,.k,.sl 5 (o.sp.map Spk.v) false),(9,.k,.int ((o.sp.map Spk.v).length:Int)),(10,.k,.int t0)],[]⟩
@[reducible] def idxSF_s:Nat→Type
 | 0=>Int
 | _=>Unit
def idxSF_e(r:Int):AV:=.int r
def idxSF_x(o:Ovl)(router:Int)(I0:Int→Prop)(m0:Int→Nat):Ax Tryz.prog idxSF_s (Int):=
 (.loop 0 (idxSF_n0 o router) I0 m0 ((0):Int) [] fun (t0:Int) b0 =>
(.br 16 (decide (t0<((o.sp.map Spk.v).length:Int))) (.el 32 Spk.v o.sp (fun R=>Rf (o.sp.map Spk.v) (ck (decide (0≤t0)) (ck (decide (t0<(o.sp.length:Int)))
(∀x1,o.sp[t0.toNat]?=some x1 →
(R x1))))) fun x1 =>
(.br 176 (x1.router==router) (.ret (t0))
(.bk 0 b0 ((W (t0+1)):Int) [])))
(.ret (-1))))
def idxSF_vc(o:Ovl)(router:Int)(I0:Int→Prop)(m0:Int→Nat)(r0:Int):Prop:=(idxSF_x o router I0 m0).vp idxSF_e r0
theorem idxSF_p(o:Ovl)(r:Int)(ok:idxSF_a o r):∃I m,idxSF_vc o r I m (idxS o.sp r):=by
 unfold idxSF_a at ok
 have hle:o.sp.length≤9223372036854775807:=by
  have h:=ok
  simp only [okL,AV.ok,List.length_map,maxLen_eq] at h
  omega
 refine ⟨fun t=>∃k:Nat,t=k∧k≤o.sp.length∧∀x∈o.sp.take k,x.router≠r,fun t=>o.sp.length-t.toNat,?_⟩
 dsimp only [idxSF_vc,idxSF_x,idxSF_s,Ax.vp,Ax.vc];simp only [vcU,rfU,List.length_map]
 refine ⟨⟨0,rfl,by omega,by simp⟩,?_⟩
 rintro _ ⟨k,rfl,hk,hI⟩
 simp only [Int.toNat_natCast]
 refine ⟨fun h1=>⟨by omega,by omega,fun x hx=>⟨fun e=>?_,fun e=>?_⟩⟩,fun h1=>?_⟩
 ·rw [idxS_some hx (by simpa using e) hI]
 ·rw [W_succ (n:=o.sp.length) (by omega) (by omega)]
  exact ⟨⟨k+1,rfl,by omega,(mem_take_succ hx).mpr ⟨hI,by simpa using e⟩⟩,by omega⟩
 ·rw [List.take_of_length_le (by omega)] at hI
  rw [idxS_none hI]
def idxSF_c(o:Ovl)(router:Int):PC Tryz.prog:=⟨61,[(.a [(.s 5),(.s 3),(.s 10)]),.k],[.agg [.sl 5 (o.sp.map Spk.v) false,.sl 3 (o.ls.map Lsn.v) false,.sl 10 (o.fl.map Sig.v) false],.int router],idxSF_e (idxS o.sp router),PSpec.of_ok fun ok=>(idxSF_p o router ok).elim fun I0 h=>h.elim fun m0 h=>mxP_of (sh:=.k) (enc:=idxSF_e) (a:=(idxSF_x o router I0 m0).an) h (by kernel_rfl) (AV.pureB_ok rfl),fnB_ok (by kernel_rfl)⟩
theorem idxS_asc{o:Ovl}(h:ovlOk o)(r:Int):idxS o.sp r=if r∈rtrs o.sp then (posS o.sp r:Int) else -1:=by
 by_cases hr:r∈rtrs o.sp
 ·rw [if_pos hr]
  obtain ⟨p1,p2,p3,p4⟩:=h.1.pos hr
  refine idxS_some p3 (h.1.s hr).2 fun y hy=>?_
  obtain ⟨i,hi,rfl⟩:=List.getElem_of_mem hy
  rw [List.length_take] at hi
  rw [List.getElem_take]
  have:=posK_lt (key:=Spk.router) (l:=o.sp) (r:=r) (i:=i) (show i<posS o.sp r by omega) (by omega)
  omega
 ·rw [if_neg hr]
  exact idxS_none fun y hy e=>hr (List.mem_map.mpr ⟨y,hy,e⟩)
def copR_a(o:Ovl):Prop:=okL [.agg [.sl 5 (o.sp.map Spk.v) false,.sl 3 (o.ls.map Lsn.v) false,.sl 10 (o.fl.map Sig.v) false]]
def copR_e(r:Ovl):AV:=.agg [.vec 0,.vec 1,.vec 2]
def copR_b(r:Ovl):List (Option Blk):=[some (.vec 5 (r.sp.map Spk.v)),some (.vec 3 (r.ls.map Lsn.v)),some (.vec 10 (r.fl.map Sig.v))]
def copR_x(o:Ovl):Ax Tryz.prog noS (Ovl):=
 (.say (fun R=>Rf (α:=List AV) [] (Rf (α:=List AV) (o.sp.map Spk.v)
(ck (decide (0+o.sp.length≤1048576))
R))) (.app 80 Spk.v [] o.sp
(.say (fun R=>Rf (α:=List AV) [] (Rf (α:=List AV) (o.ls.map Lsn.v)
(ck (decide (0+o.ls.length≤1048576))
R))) (.app 144 Lsn.v [] o.ls
(.say (fun R=>Rf (α:=List AV) [] (Rf (α:=List AV) (o.fl.map Sig.v)
(ck (decide (0+o.fl.length≤1048576))
R))) (.app 208 Sig.v [] o.fl
(.retH o ⟨[(2,.k,.ref 3 0)],[.vec 5 (o.sp.map Spk.v) (pureBL_map (fun _=>rfl) o.sp),.vec 3 (o.ls.map Lsn.v) (pureBL_map (fun _=>rfl) o.ls),.vec 10 (o.fl.map Sig.v) (pureBL_map (fun _=>rfl) o.fl),.box (.agg [.vec 0,.vec 1,.vec 2])]⟩ [80,144,208,16])))))))
def copR_vc(o:Ovl)(r0:Ovl):Prop:=(copR_x o).vc copR_e copR_b r0
theorem copR_p(o:Ovl)(h:o.sp.length≤1000000∧o.ls.length≤1000000∧o.fl.length≤1000000)(ok:copR_a o):copR_vc o o:=by
 dsimp only [copR_vc,copR_x,noS,Ax.vp,Ax.vc];simp only [vcU,rfU,List.length_map]
 exact ⟨by omega,by omega,by omega,trivial⟩
def copR_h(o:Ovl)(h:o.sp.length≤1000000∧o.ls.length≤1000000∧o.fl.length≤1000000):HC Tryz.prog:=⟨59,[(.a [(.s 5),(.s 3),(.s 10)])],[.agg [.sl 5 (o.sp.map Spk.v) false,.sl 3 (o.ls.map Lsn.v) false,.sl 10 (o.fl.map Sig.v) false]],[],copR_e o,copR_b o,HSpec.of_okh fun ok _=>mxH_of (sh:=.k) (enc:=copR_e) (hB:=copR_b) (a:=(copR_x o).an) (copR_p o h ok) (by kernel_rfl),fnB_ok (by kernel_rfl),HcOk.of (by simp [hcB,belBL,AV.belB,allB,okBk,okBkO,copR_e,copR_b,pureBL_map (v:=Lsn.v) (fun _=>rfl),pureBL_map (v:=Sig.v) (fun _=>rfl),pureBL_map (v:=Spk.v) (fun _=>rfl)])⟩
theorem valO_pos{o:Ovl}(h:¬ovlOk o):(1:Int)=valO o:=(if_neg h).symm
structure RefK (R:List Int) (s:Spk) (l:Lsn):Prop where
  n:s.peers.length+1=R.length
  p:∀p∈s.peers,p.router∈R
  lo:lsnOk l
  lr:l.router=s.router
  h:∀h∈l.heard,h.router∈R
theorem ref_iff{o:Ovl}:ovlOk o↔(o.sp.length≤12∧o.ls.length=o.sp.length)∧(∀i s,o.sp[i]?=some s→spkOk s∧(0<i→∀y,o.sp[i-1]?=some y→y.router<s.router)) ∧
  (∀(i:Nat) s l,o.sp[i]?=some s→o.ls[i]?=some l→RefK (rtrs o.sp) s l)∧∀x∈o.fl,sigIn (rtrs o.sp) x:=by
 rw [ovl_iff]
 have hmem:∀{i:Nat} {s:Spk},o.sp[i]?=some s→s.router∈rtrs o.sp:=fun hs=>List.mem_map.mpr ⟨_,mem_of_get hs,rfl⟩
 constructor
 ·rintro ⟨h1,h2,h3,h4⟩
  have hR:(rtrs o.sp).Pairwise (·<·):=(ovl_iff.mpr ⟨h1,h2,h3,h4⟩).1.ascR
  refine ⟨⟨h1,h2⟩,fun i s hs=>?_,fun i s l hs hl=>?_,h4⟩
  ·obtain ⟨l,hl⟩:∃l,o.ls[i]?=some l:=⟨_,List.getElem?_eq_getElem (by have:=lt_of_get hs;omega)⟩
   have d:=h3 i s l hs hl
   exact ⟨d.fs,fun hi y hy=>d.fasc hi _ (rtrs_get hy)⟩
  ·have d:=h3 i s l hs hl
   obtain ⟨q1,q2⟩:=(peers_iff hR d.fs (hmem hs)).mp d.fp
   exact ⟨q1,q2,d.fl,d.fr,d.fh⟩
 ·rintro ⟨⟨h1,h2⟩,h3,h4,h5⟩
  have hasc:∀k:Nat,k≤o.sp.length→(o.sp.take k).Pairwise fun x y=>x.router<y.router:=by
   intro k
   induction k with
   | zero=>intro _;simp
   | succ k ih =>
    intro hk
    have hs:o.sp[k]?=some o.sp[k]:=List.getElem?_eq_getElem (by omega)
    exact (pw_succ Spk.router hs).mpr ⟨ih (by omega),(h3 k _ hs).2⟩
  have ha:=hasc o.sp.length (Nat.le_refl _)
  rw [List.take_length] at ha
  have hR:(rtrs o.sp).Pairwise (·<·):=by unfold rtrs;rw [List.pairwise_map];exact ha
  refine ⟨h1,h2,fun i s l hs hl=>?_,h5⟩
  obtain ⟨a1,a2⟩:=h3 i s hs
  have b:=h4 i s l hs hl
  refine ⟨a1,fun hi y hy=>?_,(peers_iff hR a1 (hmem hs)).mpr ⟨b.n,b.p⟩,b.lo,b.lr,b.h⟩
  unfold rtrs at hy
  rw [List.getElem?_map] at hy
  cases hz:o.sp[i-1]? with
  | none=>rw [hz] at hy;simp at hy
  | some z =>
   rw [hz] at hy
   have hy:z.router=y:=by simpa using hy
   rw [←hy];exact a2 hi z hz
def valOR_a(o:Ovl):Prop:=okL [.agg [.sl 5 (o.sp.map Spk.v) false,.sl 3 (o.ls.map Lsn.v) false,.sl 10 (o.fl.map Sig.v) false]]
def valOR_n0(o:Ovl)(t0:Bool):NF:=⟨[(1,.k,.ref 0 0),(27,.k,.bool t0)],[.box (.agg [.sl 5 (o.sp.map Spk.v) false,.sl 3 (o.ls.map Lsn.v) false,.sl 10 (o.fl.map Sig.v) false])]⟩
def valOR_n1(o:Ovl)(t1:Int×(List Int)):NF:=⟨[(1,.k,.ref 0 0),(3,.k,.vec 1),(29,.k,.sl 5 (o.sp.map Spk.v) false),(30,.k,.int ((o.sp.map Spk.v).length:Int)),(31,.k,.int t1.1)],[.box (.agg [.sl 5 (o.sp.map Spk.v) false,.sl 3 (o.ls.map Lsn.v) false,.sl 10 (o.fl.map Sig.v) false]),.vec 1 (t1.2.map AV.int) (pureBL_map (fun _=>rfl) t1.2)]⟩
def valOR_n2(o:Ovl)(t1:Int×(List Int))(x1:Spk)(t2:Bool):NF:=⟨[(1,.k,.ref 0 0),(3,.k,.vec 1),(5,.k,.ref 2 0),(29,.k,.sl 5 (o.sp.map Spk.v) false),(30,.k,.int ((o.sp.map Spk.v).length:Int)),(31,.k,.int t1.1),(54,.k,.bool t2)],[.box (.agg [.sl 5 (o.sp.map Spk.v) false,.sl 3 (o.ls.map Lsn.v) false,.sl 10 (o.fl.map Sig.v) false]),.vec 1 (t1.2.map AV.int) (pureBL_map (fun _=>rfl) t1.2),.box (.agg [.int x1.router,.int x1.epoch,.int x1.last,.sl 4 (x1.items.map Itm.v) false,.sl 3 (x1.peers.map Per.v) false])]⟩
def valOR_n3(o:Ovl)(t1:Int×(List Int))(t3:Int):NF:=⟨[(1,.k,.ref 0 0),(3,.k,.vec 1),(62,.k,.sl 5 (o.sp.map Spk.v) false),(63,.k,.int ((o.sp.map Spk.v).length:Int)),(64,.k,.int t3)],[.box (.agg [.sl 5 (o.sp.map Spk.v) false,.sl 3 (o.ls.map Lsn.v) false,.sl 10 (o.fl.map Sig.v) false]),.vec 1 (t1.2.map AV.int) (pureBL_map (fun _=>rfl) t1.2)]⟩
def valOR_n4(o:Ovl)(t1:Int×(List Int))(t3:Int)(x3:Spk)(t4:Int):NF:=⟨[(1,.k,.ref 0 0),(3,.k,.vec 1),(6,.k,.int t3),(7,.k,.ref 2 0),(62,.k,.sl 5 (o.sp.map Spk.v) false),(63,.k,.int ((o.sp.map Spk.v).length:Int)),(64,.k,.int t3),(77,.k,.sl 3 (x3.peers.map Per.v) false),(78,.k,.int ((x3.peers.map Per.v).length:Int)),(79,.k,.int t4)],[.box (.agg [.sl 5 (o.sp.map Spk.v) false,.sl 3 (o.ls.map Lsn.v) false,.sl 10 (o.fl.map Sig.v) false]),.vec 1 (t1.2.map AV.int) (pureBL_map (fun _=>rfl) t1.2),.box (.agg [.int x3.router,.int x3.epoch,.int x3.last,.sl 4 (x3.items.map Itm.v) false,.sl 3 (x3.peers.map Per.v) false])]⟩
def valOR_n5(o:Ovl)(t1:Int×(List Int))(t3:Int)(x5:Lsn)(t5:Bool):NF:=⟨[(1,.k,.ref 0 0),(3,.k,.vec 1),(10,.k,.ref 2 0),(62,.k,.sl 5 (o.sp.map Spk.v) false),(63,.k,.int ((o.sp.map Spk.v).length:Int)),(64,.k,.int t3),(103,.k,.bool t5)],[.box (.agg [.sl 5 (o.sp.map Spk.v) false,.sl 3 (o.ls.map Lsn.v) false,.sl 10 (o.fl.map Sig.v) false]),.vec 1 (t1.2.map AV.int) (pureBL_map (fun _=>rfl) t1.2),.box (.agg [.int x5.router,.int x5.epoch,.sl 4 (x5.heard.map Hrd.v) false])]⟩
def valOR_n6(o:Ovl)(t1:Int×(List Int))(t3:Int)(x5:Lsn)(t6:Int):NF:=⟨[(1,.k,.ref 0 0),(3,.k,.vec 1),(62,.k,.sl 5 (o.sp.map Spk.v) false),(63,.k,.int ((o.sp.map Spk.v).length:Int)),(64,.k,.int t3),(105,.k,.sl 4 (x5.heard.map Hrd.v) false),(106,.k,.int ((x5.heard.map Hrd.v).length:Int)),(107,.k,.int t6)],[.box (.agg [.sl 5 (o.sp.map Spk.v) false,.sl 3 (o.ls.map Lsn.v) false,.sl 10 (o.fl.map Sig.v) false]),.vec 1 (t1.2.map AV.int) (pureBL_map (fun _=>rfl) t1.2)]⟩
def valOR_n7(o:Ovl)(t1:Int×(List Int))(t7:Int):NF:=⟨[(3,.k,.vec 0),(119,.k,.sl 10 (o.fl.map Sig.v) false),(120,.k,.int ((o.fl.map Sig.v).length:Int)),(121,.k,.int t7)],[.vec 1 (t1.2.map AV.int) (pureBL_map (fun _=>rfl) t1.2)]⟩
def valOR_n8(o:Ovl)(t1:Int×(List Int))(t7:Int)(t8:Bool):NF:=⟨[(3,.k,.vec 0),(119,.k,.sl 10 (o.fl.map Sig.v) false),(120,.k,.int ((o.fl.map Sig.v).length:Int)),(121,.k,.int t7),(141,.k,.bool t8)],[.vec 1 (t1.2.map AV.int) (pureBL_map (fun _=>rfl) t1.2)]⟩
@[reducible] def valOR_s:Nat→Type
 | 0=>Bool
 | 1=>Int×(List Int)
 | 2=>Bool
 | 3=>Int
 | 4=>Int
 | 5=>Bool
 | 6=>Int
 | 7=>Int
 | 8=>Bool
 | _=>Unit
def valOR_e(r:Int):AV:=.int r
def valOR_x(o:Ovl)(I0:Bool→Prop)(I1:Bool→(Int×(List Int))→Prop)(m1:Bool→(Int×(List Int))→Nat)(I2:Bool→Int×(List Int)→Spk→Bool→Prop)(I3:Bool→Int×(List Int)→Int→Prop)(m3:Bool→Int×(List Int)→Int→Nat)(I4:Bool→Int×(List Int)→Int→Spk→Int→Prop)(m4:Bool→Int×(List Int)→Int→Spk→Int→Nat)(I5:Bool→Int×(List Int)→Int→Spk→Int→Lsn→Bool→Prop)(I6:Bool→Int×(List Int)→Int→Spk→Int→Lsn→Bool→Int→Prop)(m6:Bool→Int×(List Int)→Int→Spk→Int→Lsn→Bool→Int→Nat)(I7:Bool→Int×(List Int)→Int→Int→Prop)(m7:Bool→Int×(List Int)→Int→Int→Nat)(I8:Bool→Int×(List Int)→Int→Int→Sig→Bool→Prop):Ax Tryz.prog valOR_s (Int):=
 (.pass (.pass (.join 0 (valOR_n0 o) (fun (t0:Bool)=>I0 t0) (fun b0=>(.br 112 (decide (12<((o.sp.map Spk.v).length:Int))) (.bk 0 b0 ((true):Bool) [0])
(.bk 0 b0 ((((o.ls.map Lsn.v).length:Int) != ((o.sp.map Spk.v).length:Int)):Bool) [0]))) fun (t0:Bool) =>
(.br 1 t0 (.ret (1))
(.cmdL (.nilT 3 1) (.loop 1 (valOR_n1 o) (I1 t0) (m1 t0) (0,[]) [0,81] fun (t1:Int×(List Int)) b1 =>
(.br 18 (decide (t1.1<((o.sp.map Spk.v).length:Int))) (.el 34 Spk.v o.sp (fun R=>Rf (o.sp.map Spk.v) (ck (decide (0≤t1.1)) (ck (decide (t1.1<(o.sp.length:Int)))
(∀x1,o.sp[t1.1.toNat]?=some x1 →
(R x1))))) fun x1 =>
(.pass (.join 2 (valOR_n2 o t1 x1) (fun (t2:Bool)=>I2 t0 t1 x1 t2) (fun b2=>(.callP (valR6_c x1)
(.br 178 ((valS x1) != 0) (.bk 2 b2 ((true):Bool) [0,1,66])
(.br 226 (decide (0<t1.1)) (.el 290 Spk.v o.sp (fun R=>Rf (o.sp.map Spk.v) (ck (decide (0≤(W (t1.1-1)))) (ck (decide ((W (t1.1-1))<(o.sp.length:Int)))
(∀x2,o.sp[(W (t1.1-1)).toNat]?=some x2 →
(R x2))))) fun x2 =>
(.bk 2 b2 ((decide (x1.router≤x2.router)):Bool) [0,1,66]))
(.bk 2 b2 ((false):Bool) [0,1,66]))))) fun (t2:Bool) =>
(.br 3 t2 (.ret (1))
(.say (fun R=>Rf (α:=List AV) (t1.2.map AV.int) (Rf (α:=List AV) [.int x1.router]
(ck (decide (t1.2.length+1≤1048576))
R))) (.app 67 AV.int t1.2 [x1.router]
(.bk 1 b1 (W (t1.1+1),t1.2++[x1.router]) [0,67])))))))
(.loop 3 (valOR_n3 o t1) (I3 t0 t1) (m3 t0 t1) ((0):Int) [0,1] fun (t3:Int) b3 =>
(.br 18 (decide (t3<((o.sp.map Spk.v).length:Int))) (.el 34 Spk.v o.sp (fun R=>Rf (o.sp.map Spk.v) (ck (decide (0≤t3)) (ck (decide (t3<(o.sp.length:Int)))
(∀x3,o.sp[t3.toNat]?=some x3 →
(R x3))))) fun x3 =>
(.br 226 (((x3.peers.map Per.v).length:Int) != (W (((t1.2.map AV.int).length:Int)-1))) (.ret (1))
(.loop 4 (valOR_n4 o t1 t3 x3) (I4 t0 t1 t3 x3) (m4 t0 t1 t3 x3) ((0):Int) [0,1,66] fun (t4:Int) b4 =>
(.br 19 (decide (t4<((x3.peers.map Per.v).length:Int))) (.el 19 Per.v x3.peers (fun R=>Rf (x3.peers.map Per.v) (ck (decide (0≤t4)) (ck (decide (t4<(x3.peers.length:Int)))
(∀x4,x3.peers[t4.toNat]?=some x4 →
(R x4))))) fun x4 =>
(.callP (InI_c t1.2 x4.router)
(.say (ck (pureBLs [(t1.2.map AV.int)])) (.br 163 (!(InI t1.2 x4.router)) (.ret (1))
(.bk 4 b4 ((W (t4+1)):Int) [0,1,2])))))
(.el 67 Lsn.v o.ls (fun R=>Rf (o.ls.map Lsn.v) (ck (decide (0≤t3)) (ck (decide (t3<(o.ls.length:Int)))
(∀x5,o.ls[t3.toNat]?=some x5 →
(R x5))))) fun x5 =>
(.pass (.join 5 (valOR_n5 o t1 t3 x5) (fun (t5:Bool)=>I5 t0 t1 t3 x3 t4 x5 t5) (fun b5=>(.callP (valLR_c x5)
(.br 195 ((valL x5) != 0) (.bk 5 b5 ((true):Bool) [0,1,99])
(.bk 5 b5 ((x5.router != x3.router):Bool) [0,1,99])))) fun (t5:Bool) =>
(.br 3 t5 (.ret (1))
(.loop 6 (valOR_n6 o t1 t3 x5) (I6 t0 t1 t3 x3 t4 x5 t5) (m6 t0 t1 t3 x3 t4 x5 t5) ((0):Int) [0,1] fun (t6:Int) b6 =>
(.br 18 (decide (t6<((x5.heard.map Hrd.v).length:Int))) (.el 18 Hrd.v x5.heard (fun R=>Rf (x5.heard.map Hrd.v) (ck (decide (0≤t6)) (ck (decide (t6<(x5.heard.length:Int)))
(∀x6,x5.heard[t6.toNat]?=some x6 →
(R x6))))) fun x6 =>
(.callP (InI_c t1.2 x6.router)
(.say (ck (pureBLs [(t1.2.map AV.int)])) (.br 162 (!(InI t1.2 x6.router)) (.ret (1))
(.bk 6 b6 ((W (t6+1)):Int) [0,1])))))
(.bk 3 b3 ((W (t3+1)):Int) [0,1])))))))))))
(.loop 7 (valOR_n7 o t1) (I7 t0 t1 t3) (m7 t0 t1 t3) ((0):Int) [1] fun (t7:Int) b7 =>
(.br 17 (decide (t7<((o.fl.map Sig.v).length:Int))) (.el 17 Sig.v o.fl (fun R=>Rf (o.fl.map Sig.v) (ck (decide (0≤t7)) (ck (decide (t7<(o.fl.length:Int)))
(∀x7,o.fl[t7.toNat]?=some x7 →
(R x7))))) fun x7 =>
(.join 8 (valOR_n8 o t1 t7) (fun (t8:Bool)=>I8 t0 t1 t3 t7 x7 t8) (fun b8=>(.callP (sigVR_c x7)
(.br 145 ((sigErr x7) != 0) (.bk 8 b8 ((true):Bool) [0])
(.callP (InI_c t1.2 x7.src)
(.say (ck (pureBLs [(t1.2.map AV.int)])) (.br 257 (!(InI t1.2 x7.src)) (.bk 8 b8 ((true):Bool) [0])
(.callP (InI_c t1.2 x7.dst)
(.say (ck (pureBLs [(t1.2.map AV.int)])) (.bk 8 b8 ((!(InI t1.2 x7.dst)):Bool) [0]))))))))) fun (t8:Bool) =>
(.br 1 t8 (.ret (1))
(.bk 7 b7 ((W (t7+1)):Int) [0]))))
(.ret (0)))))))))))))
def valOR_vc(o:Ovl)(I0:Bool→Prop)(I1:Bool→(Int×(List Int))→Prop)(m1:Bool→(Int×(List Int))→Nat)(I2:Bool→Int×(List Int)→Spk→Bool→Prop)(I3:Bool→Int×(List Int)→Int→Prop)(m3:Bool→Int×(List Int)→Int→Nat)(I4:Bool→Int×(List Int)→Int→Spk→Int→Prop)(m4:Bool→Int×(List Int)→Int→Spk→Int→Nat)(I5:Bool→Int×(List Int)→Int→Spk→Int→Lsn→Bool→Prop)(I6:Bool→Int×(List Int)→Int→Spk→Int→Lsn→Bool→Int→Prop)(m6:Bool→Int×(List Int)→Int→Spk→Int→Lsn→Bool→Int→Nat)(I7:Bool→Int×(List Int)→Int→Int→Prop)(m7:Bool→Int×(List Int)→Int→Int→Nat)(I8:Bool→Int×(List Int)→Int→Int→Sig→Bool→Prop)(r0:Int):Prop:=(valOR_x o I0 I1 m1 I2 I3 m3 I4 m4 I5 I6 m6 I7 m7 I8).vp valOR_e r0
theorem valOR_p(o:Ovl)(ok:valOR_a o):∃I0 I1 m1 I2 I3 m3 I4 m4 I5 I6 m6 I7 m7 I8,valOR_vc o I0 I1 m1 I2 I3 m3 I4 m4 I5 I6 m6 I7 m7 I8 (valO o):=by
 unfold valOR_a at ok
 obtain ⟨l1,l2,l3⟩:=ovl_lens ok
 refine ⟨fun t=>t=false↔(o.sp.length≤12∧o.ls.length=o.sp.length),
  fun _ t=>∃k:Nat,t=((k:Int),rtrs (o.sp.take k))∧k≤o.sp.length∧∀i s,i<k→o.sp[i]?=some s→spkOk s∧(0<i→∀y,o.sp[i-1]?=some y→y.router<s.router),fun _ t=>o.sp.length-t.1.toNat,
  fun _ t1 x t=>t=false↔(spkOk x∧(0<t1.1.toNat→∀y,o.sp[t1.1.toNat-1]?=some y→y.router<x.router)),
  fun _ _ t=>∃k:Nat,t=k∧k≤o.sp.length∧∀i s l,i<k→o.sp[i]?=some s→o.ls[i]?=some l→RefK (rtrs o.sp) s l,fun _ _ t=>o.sp.length-t.toNat,
  fun _ _ _ x t=>∃j:Nat,t=j∧j≤x.peers.length∧∀p∈x.peers.take j,p.router∈rtrs o.sp,fun _ _ _ x t=>x.peers.length-t.toNat,
  fun _ _ _ x _ y t=>t=false↔(lsnOk y∧y.router=x.router),
  fun _ _ _ _ _ y _ t=>∃k:Nat,t=k∧k≤y.heard.length∧∀h∈y.heard.take k,h.router∈rtrs o.sp,fun _ _ _ _ _ y _ t=>y.heard.length-t.toNat,
  fun _ _ _ t=>∃k:Nat,t=k∧k≤o.fl.length∧∀x∈o.fl.take k,sigIn (rtrs o.sp) x,fun _ _ _ t=>o.fl.length-t.toNat,
  fun _ _ _ _ x t=>t=false↔sigIn (rtrs o.sp) x,?_⟩
 dsimp only [valOR_vc,valOR_x,valOR_s,Ax.vp,Ax.vc];simp only [vcU,rfU,List.length_map]
 refine ⟨⟨fun h1=>by simp;omega,fun h1=>by simp;omega⟩,?_⟩
 intro t0 h0
 refine ⟨fun e=>?_,fun e=>?_⟩
 ·subst e
  exact valO_pos fun q=>by have:=h0.mpr (ref_iff.mp q).1;simp at this
 obtain ⟨n1,n2⟩:=h0.mp e
 have hR:(rtrs o.sp).length=o.sp.length:=rtrs_len
 refine ⟨⟨0,rfl,by omega,fun i s hi=>by omega⟩,?_⟩
 rintro _ ⟨k,rfl,hk,hI⟩
 simp only [Int.toNat_natCast]
 refine ⟨fun h1=>⟨by omega,by omega,fun x hx=>⟨⟨fun a1=>?_,fun a1=>⟨fun a2=>⟨?_,?_,fun y hy=>?_⟩,fun a2=>?_⟩⟩,?_⟩⟩,fun h1=>⟨⟨0,rfl,by omega,fun i s l hi=>by omega⟩,?_⟩⟩
 ·have a1:¬valS x=0:=by simpa using a1
  rw [valS_z] at a1
  simp [a1]
 ·rw [W_eq (by omega)];omega
 ·rw [W_eq (by omega)];omega
 ·have a1:valS x=0:=by simpa using a1
  have e3:(W ((k:Int)-1)).toNat=k-1:=by rw [W_eq (by omega)];omega
  rw [e3] at hy
  rw [valS_z] at a1
  rw [hy]
  simp only [Option.some.injEq,forall_eq',decide_eq_false_iff_not]
  exact ⟨fun q=>⟨a1,fun _=>by omega⟩,fun q=>by have:=q.2 (by omega);omega⟩
 ·have a1:valS x=0:=by simpa using a1
  rw [valS_z] at a1
  simp only [true_iff]
  exact ⟨a1,fun q=>by omega⟩
 ·intro t2 h2
  refine ⟨fun e=>?_,fun e=>⟨by rw [rtrs_len];simp;omega,⟨k+1,?_,by omega,fun i s hi hs=>?_⟩,?_⟩⟩
  ·subst e
   exact valO_pos fun q=>by
    have d:=(ref_iff.mp q).2.1 k x hx
    have:=h2.mpr d
    simp at this
  ·rw [W_succ (n:=o.sp.length) (by omega) (by omega),take_succ hx];simp [rtrs]
  ·by_cases ei:i=k
   ·subst ei
    rw [hx] at hs;cases hs
    exact h2.mp e
   ·exact hI i s (by omega) hs
  ·rw [W_succ (n:=o.sp.length) (by omega) (by omega)];omega
 ·have hk:k=o.sp.length:=by omega
  have eR:rtrs (o.sp.take k)=rtrs o.sp:=by rw [hk,List.take_length]
  rw [eR]
  have hI:∀i s,o.sp[i]?=some s→spkOk s∧(0<i→∀y,o.sp[i-1]?=some y→y.router<s.router):=fun i s hs=>hI i s (by have:=lt_of_get hs;omega) hs
  have hL:pureBLs [(rtrs o.sp).map AV.int]=true:=pureBLs_one (pureBL_map (fun _=>rfl) _)
  clear eR
  rintro _ ⟨k,rfl,hk,hK⟩
  simp only [Int.toNat_natCast,InI]
  refine ⟨fun b1=>⟨by omega,by omega,fun x hx=>⟨fun c1=>?_,fun c1=>⟨⟨0,rfl,by omega,by simp⟩,?_⟩⟩⟩,fun b1=>⟨⟨0,rfl,by omega,by simp⟩,?_⟩⟩
  ·obtain ⟨l,hl⟩:∃l,o.ls[k]?=some l:=⟨_,List.getElem?_eq_getElem (by omega)⟩
   refine valO_pos fun q=>?_
   have d:=((ref_iff.mp q).2.2.1 k x l hx hl).n
   rw [W_eq (by omega)] at c1
   simp at c1
   omega
  ·have hn:x.peers.length+1=(rtrs o.sp).length:=by
    rw [W_eq (by omega)] at c1
    simp at c1
    omega
   have hs:=hI k x hx
   have hxp:=hs.1.2.2.2.2.1
   rintro _ ⟨j,rfl,hj,hJ⟩
   simp only [Int.toNat_natCast]
   refine ⟨fun d1=>⟨by omega,by omega,fun p hp=>⟨hL,fun d2=>?_,fun d2=>?_⟩⟩,fun d1=>⟨by omega,by omega,fun y hy=>⟨⟨fun f1=>?_,fun f1=>?_⟩,?_⟩⟩⟩
   ·have d2:¬p.router∈rtrs o.sp:=by simpa using d2
    obtain ⟨l,hl⟩:∃l,o.ls[k]?=some l:=⟨_,List.getElem?_eq_getElem (by omega)⟩
    exact valO_pos fun q=>d2 (((ref_iff.mp q).2.2.1 k x l hx hl).p p (mem_of_get hp))
   ·rw [W_succ (n:=x.peers.length) (by omega) (by omega)]
    exact ⟨⟨j+1,rfl,by omega,take_all hp hJ (by simpa using d2)⟩,by omega⟩
   ·have f1:¬valL y=0:=by simpa using f1
    rw [valL_z] at f1
    simp [f1]
   ·have f1:valL y=0:=by simpa using f1
    rw [valL_z] at f1
    simp [f1]
   ·intro t5 h5
    have ej:j=x.peers.length:=by omega
    rw [ej,List.take_length] at hJ
    refine ⟨fun e=>?_,fun e=>⟨⟨0,rfl,by omega,by simp⟩,?_⟩⟩
    ·subst e
     exact valO_pos fun q=>by
      have d:=(ref_iff.mp q).2.2.1 k x y hx hy
      have:=h5.mpr ⟨d.lo,d.lr⟩
      simp at this
    obtain ⟨g1,g2⟩:=h5.mp e
    have hh:=g1.2.2.1
    rintro _ ⟨m,rfl,hm,hM⟩
    simp only [Int.toNat_natCast]
    refine ⟨fun d1=>⟨by omega,by omega,fun z hz=>⟨hL,fun d2=>?_,fun d2=>?_⟩⟩,fun d1=>?_⟩
    ·have d2:¬z.router∈rtrs o.sp:=by simpa using d2
     exact valO_pos fun q=>d2 (((ref_iff.mp q).2.2.1 k x y hx hy).h z (mem_of_get hz))
    ·rw [W_succ (n:=y.heard.length) (by omega) (by omega)]
     exact ⟨⟨m+1,rfl,by omega,take_all hz hM (by simpa using d2)⟩,by omega⟩
    ·have em:m=y.heard.length:=by omega
     rw [em,List.take_length] at hM
     rw [W_succ (n:=o.sp.length) (by omega) (by omega)]
     refine ⟨⟨k+1,rfl,by omega,fun i s l hi hs' hl'=>?_⟩,by omega⟩
     by_cases ei:i=k
     ·subst ei
      rw [hx] at hs';rw [hy] at hl'
      cases hs';cases hl'
      exact ⟨hn,hJ,g1,g2,hM⟩
     ·exact hK i s l (by omega) hs' hl'
  ·rintro _ ⟨j,rfl,hj,hJ⟩
   simp only [Int.toNat_natCast]
   refine ⟨fun c1=>⟨by omega,by omega,fun x hx=>⟨⟨fun a1=>?_,fun a1=>⟨hL,fun a2=>?_,fun a2=>⟨hL,?_⟩⟩⟩,?_⟩⟩,fun c1=>?_⟩
   ·have a1:¬sigErr x=0:=by simpa using a1
    simp [sigIn,a1]
   ·have a2:¬x.src∈rtrs o.sp:=by simpa using a2
    simp [sigIn,a2]
   ·have a1:sigErr x=0:=by simpa using a1
    have a2:x.src∈rtrs o.sp:=by simpa using a2
    simp [sigIn,a1,a2]
   ·intro t6 h6
    refine ⟨fun e=>?_,fun e=>?_⟩
    ·subst e
     exact valO_pos fun q=>by have:=h6.mpr ((ref_iff.mp q).2.2.2 x (mem_of_get hx));simp at this
    ·rw [W_succ (n:=o.fl.length) (by omega) (by omega)]
     exact ⟨⟨j+1,rfl,by omega,take_all hx hJ (h6.mp e)⟩,by omega⟩
   ·have hj:j=o.fl.length:=by omega
    rw [hj,List.take_length] at hJ
    exact (if_pos (ref_iff.mpr ⟨⟨n1,n2⟩,hI,fun i s l hs hl=>hK i s l (by have:=lt_of_get hs;omega) hs hl,hJ⟩)).symm
def valOR_c(o:Ovl):PC Tryz.prog:=⟨58,[(.a [(.s 5),(.s 3),(.s 10)])],[.agg [.sl 5 (o.sp.map Spk.v) false,.sl 3 (o.ls.map Lsn.v) false,.sl 10 (o.fl.map Sig.v) false]],valOR_e (valO o),PSpec.of_ok fun ok=>(valOR_p o ok).elim fun I0 h=>h.elim fun I1 h=>h.elim fun m1 h=>h.elim fun I2 h=>h.elim fun I3 h=>h.elim fun m3 h=>h.elim fun I4 h=>h.elim fun m4 h=>h.elim fun I5 h=>h.elim fun I6 h=>h.elim fun m6 h=>h.elim fun I7 h=>h.elim fun m7 h=>h.elim fun I8 h=>mxP_of (sh:=.k) (enc:=valOR_e) (a:=(valOR_x o I0 I1 m1 I2 I3 m3 I4 m4 I5 I6 m6 I7 m7 I8).an) h (by kernel_rfl) (AV.pureB_ok rfl),fnB_ok (by kernel_rfl)⟩
theorem valO_z{o:Ovl}:valO o=0↔ovlOk o:=by
 unfold valO;by_cases h:ovlOk o<;>simp [h]
theorem idx_in{o:Ovl}(h:ovlOk o){r:Int}(hr:r∈rtrs o.sp):idxS o.sp r=(posS o.sp r:Int):=by rw [idxS_asc h,if_pos hr]
theorem idx_neg{o:Ovl}(h:ovlOk o){r:Int}:idxS o.sp r<0↔r ∉ rtrs o.sp:=by
 rw [idxS_asc h]
 split
 ·rename_i hr;simp [hr]
 ·rename_i hr;simp [hr]
def chgOR_a(o:Ovl)(router:Int)(wants:(List Wnt)):Prop:=okL [.agg [.sl 5 (o.sp.map Spk.v) false,.sl 3 (o.ls.map Lsn.v) false,.sl 10 (o.fl.map Sig.v) false],.int router,.sl 3 (wants.map Wnt.v) false]
def chgOR_e(r:Ovl×Int):AV:=.tup [Ovl.v r.1,.int r.2]
def chgOR_x(o:Ovl)(router:Int)(wants:(List Wnt)):Ax Tryz.prog noS (Ovl×Int):=
 (.callP (valOR_c o)
(.br 128 ((valO o) != 0) (.ret ((⟨[],[],[]⟩:Ovl),valO o))
(.callP (idxSF_c o router)
(.br 224 (decide ((idxS o.sp router)<0)) (.ret ((⟨[],[],[]⟩:Ovl),4))
(.callP (valR_c wants)
(.br 304 ((wErr false wants) != 0) (.ret ((⟨[],[],[]⟩:Ovl),wErr false wants))
(.el 352 Spk.v o.sp (fun R=>Rf (o.sp.map Spk.v) (ck (decide (0≤(idxS o.sp router))) (ck (decide ((idxS o.sp router)<(o.sp.length:Int)))
(∀x1,o.sp[(idxS o.sp router).toNat]?=some x1 →
(R x1))))) fun x1 =>
(.callP (wantsR_c x1.items)
(.callP (chgsR_c (wantsOf x1.items) wants)
(.br 560 (((changes (wantsOf x1.items) wants).2) != 0) (.ret ((⟨[],[],[]⟩:Ovl),(changes (wantsOf x1.items) wants).2))
(.el 608 Spk.v o.sp (fun R=>Rf (o.sp.map Spk.v) (ck (decide (0≤(idxS o.sp router))) (ck (decide ((idxS o.sp router)<(o.sp.length:Int)))
(∀x2,o.sp[(idxS o.sp router).toNat]?=some x2 →
(R x2))))) fun x2 =>
(.callP (changeR_c x2 ((changes (wantsOf x1.items) wants).1))
(.br 800 (((change x2 ((changes (wantsOf x1.items) wants).1)).2) != 0) (.ret ((⟨[],[],[]⟩:Ovl),(change x2 ((changes (wantsOf x1.items) wants).1)).2))
(.req 816 (o.sp.length≤1000000∧o.ls.length≤1000000∧o.fl.length≤1000000) fun h3 =>
(.callH [] (copR_h o h3) 816
(.say (ck (cond (decide (0≤(idxS o.sp router))) (decide ((idxS o.sp router)<((o.sp.map Spk.v).length:Int))) false)) (.st 944 Spk.v o.sp (fun y4=>((change x2 ((changes (wantsOf x1.items) wants).1)).1)) (fun R=>Rf (o.sp.map Spk.v) (ck (decide ((idxS o.sp router).toNat<o.sp.length))
(∀y4,o.sp[(idxS o.sp router).toNat]?=some y4→Rf (Spk.v ((change x2 ((changes (wantsOf x1.items) wants).1)).1))
((R y4))))) fun y4 =>
(.say (Rf (o.fl.map Sig.v)) (.cmdL (.frzE 818 (o.fl.map Sig.v) (pureBL_map (fun _=>rfl) o.fl)) (.say (Rf (o.ls.map Lsn.v)) (.cmdL (.frzE 817 (o.ls.map Lsn.v) (pureBL_map (fun _=>rfl) o.ls)) (.say (Rf ((o.sp.set ((idxS o.sp router).toNat) ((change x2 ((changes (wantsOf x1.items) wants).1)).1)).map Spk.v)) (.cmdL (.frzE 816 ((o.sp.set ((idxS o.sp router).toNat) ((change x2 ((changes (wantsOf x1.items) wants).1)).1)).map Spk.v) (pureBL_map (fun _=>rfl) (o.sp.set ((idxS o.sp router).toNat) ((change x2 ((changes (wantsOf x1.items) wants).1)).1)))) (.ret ((⟨o.sp.set ((idxS o.sp router).toNat) ((change x2 ((changes (wantsOf x1.items) wants).1)).1),o.ls,o.fl⟩:Ovl),0)))))))))))))))))))))))))
def chgOR_vc(o:Ovl)(router:Int)(wants:(List Wnt))(r0:Ovl×Int):Prop:=(chgOR_x o router wants).vp chgOR_e r0
theorem chgOR_p(o:Ovl)(r:Int)(w:List Wnt)(h:o.fl.length≤1000000)(ok:chgOR_a o r w):chgOR_vc o r w (changeV o r w):=by
 dsimp only [chgOR_vc,chgOR_x,noS,Ax.vp,Ax.vc];simp only [vcU,rfU,List.length_map]
 unfold changeV
 by_cases h1:ovlOk o
 case neg =>
  have:valO o=1:=if_neg h1
  rw [if_pos h1,this];simp [ovl0]
 rw [if_neg (not_not_intro h1),valO_z.mpr h1]
 have hL:=h1.1.lens
 refine ⟨fun q=>by simp at q,fun _=>⟨fun q=>?_,fun q=>?_⟩⟩
 ·rw [if_pos ((idx_neg h1).mp q)];rfl
 have h2:r∈rtrs o.sp:=Classical.not_not.mp fun c=>q ((idx_neg h1).mpr c)
 obtain ⟨p1,p2,p3,p4⟩:=pos_get h1 h2
 rw [if_neg (not_not_intro h2),idx_in h1 h2]
 simp only [Int.toNat_natCast]
 refine ⟨fun c=>?_,fun c=>⟨by omega,by omega,fun x hx=>?_⟩⟩
 ·rw [if_pos (by simpa using c)];rfl
 rw [if_neg (by simpa using c)]
 cases p3.symm.trans hx
 refine ⟨fun c=>?_,fun c=>⟨by omega,by omega,fun y hy=>?_⟩⟩
 ·rw [if_pos (by simpa using c)];rfl
 rw [if_neg (by simpa using c)]
 cases p3.symm.trans hy
 refine ⟨fun d=>?_,fun d=>?_⟩
 ·rw [if_pos (by simpa using d)];rfl
 rw [if_neg (by simpa using d)]
 exact ⟨⟨by omega,by omega,h⟩,by simp;omega,by omega,fun z hz=>rfl⟩
def chgOR_c(o:Ovl)(router:Int)(wants:(List Wnt))(h:o.fl.length≤1000000):PC Tryz.prog:=⟨33,[(.a [(.s 5),(.s 3),(.s 10)]),.k,(.s 3)],[.agg [.sl 5 (o.sp.map Spk.v) false,.sl 3 (o.ls.map Lsn.v) false,.sl 10 (o.fl.map Sig.v) false],.int router,.sl 3 (wants.map Wnt.v) false],chgOR_e (changeV o router wants),PSpec.of_ok fun ok=>mxP_of (sh:=(.a [(.a [(.s 5),(.s 3),(.s 10)]),.k])) (enc:=chgOR_e) (a:=(chgOR_x o router wants).an) (chgOR_p o router wants h ok) (by kernel_rfl) (AV.pureB_ok rfl),fnB_ok (by kernel_rfl)⟩
def rstOR_a(o:Ovl)(router:Int)(wants:(List Wnt)):Prop:=okL [.agg [.sl 5 (o.sp.map Spk.v) false,.sl 3 (o.ls.map Lsn.v) false,.sl 10 (o.fl.map Sig.v) false],.int router,.sl 3 (wants.map Wnt.v) false]
def rstOR_e(r:Ovl×Int):AV:=.tup [Ovl.v r.1,.int r.2]
def rstOR_x(o:Ovl)(router:Int)(wants:(List Wnt)):Ax Tryz.prog noS (Ovl×Int):=
 (.callP (valOR_c o)
(.br 128 ((valO o) != 0) (.ret ((⟨[],[],[]⟩:Ovl),valO o))
(.callP (idxSF_c o router)
(.br 224 (decide ((idxS o.sp router)<0)) (.ret ((⟨[],[],[]⟩:Ovl),4))
(.el 272 Spk.v o.sp (fun R=>Rf (o.sp.map Spk.v) (ck (decide (0≤(idxS o.sp router))) (ck (decide ((idxS o.sp router)<(o.sp.length:Int)))
(∀x1,o.sp[(idxS o.sp router).toNat]?=some x1 →
(R x1))))) fun x1 =>
(.callP (restartR_c x1 wants)
(.br 464 (((restart x1 wants).2) != 0) (.ret ((⟨[],[],[]⟩:Ovl),(restart x1 wants).2))
(.el 512 Lsn.v o.ls (fun R=>Rf (o.ls.map Lsn.v) (ck (decide (0≤(idxS o.sp router))) (ck (decide ((idxS o.sp router)<(o.ls.length:Int)))
(∀x2,o.ls[(idxS o.sp router).toNat]?=some x2 →
(R x2))))) fun x2 =>
(.br 576 (decide (1000000≤x2.epoch)) (.ret ((⟨[],[],[]⟩:Ovl),3))
(.req 592 (o.sp.length≤1000000∧o.ls.length≤1000000∧o.fl.length≤1000000) fun h3 =>
(.callH [] (copR_h o h3) 592
(.say (ck (cond (decide (0≤(idxS o.sp router))) (decide ((idxS o.sp router)<((o.sp.map Spk.v).length:Int))) false)) (.st 720 Spk.v o.sp (fun y4=>((restart x1 wants).1)) (fun R=>Rf (o.sp.map Spk.v) (ck (decide ((idxS o.sp router).toNat<o.sp.length))
(∀y4,o.sp[(idxS o.sp router).toNat]?=some y4→Rf (Spk.v ((restart x1 wants).1))
((R y4))))) fun y4 =>
(.el 848 Lsn.v o.ls (fun R=>Rf (o.ls.map Lsn.v) (ck (decide (0≤(idxS o.sp router))) (ck (decide ((idxS o.sp router)<(o.ls.length:Int)))
(∀x5,o.ls[(idxS o.sp router).toNat]?=some x5 →
(R x5))))) fun x5 =>
(.say (ck (cond (decide (0≤(idxS o.sp router))) (decide ((idxS o.sp router)<((o.ls.map Lsn.v).length:Int))) false)) (.stI 944 Lsn.v o.ls (fun R=>Rf (o.ls.map Lsn.v) (ck (decide ((idxS o.sp router).toNat<o.ls.length))
(∀y6,o.ls[(idxS o.sp router).toNat]?=some y6 →
((R y6))))) fun y6 =>
(.say (fun R=>Rf (α:=List AV) ((o.ls.map Lsn.v).set ((idxS o.sp router).toNat) (.agg [.int router,.int (W (x5.epoch+1)),.sl 0 [] true])) (Rf (Lsn.v (⟨router,W (x5.epoch+1),[]⟩:Lsn))
R)) (.cmd (.wkS 593 ((idxS o.sp router).toNat) (.a [.k,.k,(.s 4)]) Lsn.v o.ls (.agg [.int router,.int (W (x5.epoch+1)),.sl 0 [] true]) (⟨router,W (x5.epoch+1),[]⟩:Lsn)) (.say (Rf (o.fl.map Sig.v)) (.cmdL (.frzE 594 (o.fl.map Sig.v) (pureBL_map (fun _=>rfl) o.fl)) (.say (Rf ((o.ls.set ((idxS o.sp router).toNat) (⟨router,W (x5.epoch+1),[]⟩:Lsn)).map Lsn.v)) (.cmdL (.frzE 593 ((o.ls.set ((idxS o.sp router).toNat) (⟨router,W (x5.epoch+1),[]⟩:Lsn)).map Lsn.v) (pureBL_map (fun _=>rfl) (o.ls.set ((idxS o.sp router).toNat) (⟨router,W (x5.epoch+1),[]⟩:Lsn)))) (.say (Rf ((o.sp.set ((idxS o.sp router).toNat) ((restart x1 wants).1)).map Spk.v)) (.cmdL (.frzE 592 ((o.sp.set ((idxS o.sp router).toNat) ((restart x1 wants).1)).map Spk.v) (pureBL_map (fun _=>rfl) (o.sp.set ((idxS o.sp router).toNat) ((restart x1 wants).1)))) (.ret ((⟨o.sp.set ((idxS o.sp router).toNat) ((restart x1 wants).1),o.ls.set ((idxS o.sp router).toNat) (⟨router,W (x5.epoch+1),[]⟩:Lsn),o.fl⟩:Ovl),0))))))))))))))))))))))))))
def rstOR_vc(o:Ovl)(router:Int)(wants:(List Wnt))(r0:Ovl×Int):Prop:=(rstOR_x o router wants).vp rstOR_e r0
theorem rstOR_p(o:Ovl)(r:Int)(w:List Wnt)(h:o.fl.length≤1000000)(ok:rstOR_a o r w):rstOR_vc o r w (restartV o r w):=by
 dsimp only [rstOR_vc,rstOR_x,noS,Ax.vp,Ax.vc];simp only [vcU,rfU,List.length_map]
 unfold restartV
 by_cases h1:ovlOk o
 case neg =>
  have:valO o=1:=if_neg h1
  rw [if_pos h1,this];simp [ovl0]
 rw [if_neg (not_not_intro h1),valO_z.mpr h1]
 have hL:=h1.1.lens
 refine ⟨fun q=>by simp at q,fun _=>⟨fun q=>?_,fun q=>?_⟩⟩
 ·rw [if_pos ((idx_neg h1).mp q)];rfl
 have h2:r∈rtrs o.sp:=Classical.not_not.mp fun c=>q ((idx_neg h1).mpr c)
 obtain ⟨p1,p2,p3,p4⟩:=pos_get h1 h2
 have he:=(h1.1.lso _ (mem_of_get p4)).1.2.1
 rw [if_neg (not_not_intro h2),idx_in h1 h2]
 simp only [Int.toNat_natCast]
 refine ⟨by omega,by omega,fun x hx=>?_⟩
 cases p3.symm.trans hx
 refine ⟨fun c=>?_,fun c=>⟨by omega,by omega,fun y hy=>?_⟩⟩
 ·rw [if_pos (by simpa using c)];rfl
 rw [if_neg (by simpa using c)]
 cases p4.symm.trans hy
 refine ⟨fun d=>?_,fun d=>?_⟩
 ·rw [if_pos (by omega)];rfl
 rw [if_neg (by omega)]
 refine ⟨⟨by omega,by omega,h⟩,by simp;omega,by omega,fun z hz=>⟨by omega,by omega,fun u hu=>⟨by simp;omega,by omega,fun v hv=>?_⟩⟩⟩
 cases p4.symm.trans hu
 rw [W_eq (by omega)]
def rstOR_c(o:Ovl)(router:Int)(wants:(List Wnt))(h:o.fl.length≤1000000):PC Tryz.prog:=⟨83,[(.a [(.s 5),(.s 3),(.s 10)]),.k,(.s 3)],[.agg [.sl 5 (o.sp.map Spk.v) false,.sl 3 (o.ls.map Lsn.v) false,.sl 10 (o.fl.map Sig.v) false],.int router,.sl 3 (wants.map Wnt.v) false],rstOR_e (restartV o router wants),PSpec.of_ok fun ok=>mxP_of (sh:=(.a [(.a [(.s 5),(.s 3),(.s 10)]),.k])) (enc:=rstOR_e) (a:=(rstOR_x o router wants).an) (rstOR_p o router wants h ok) (by kernel_rfl) (AV.pureB_ok rfl),fnB_ok (by kernel_rfl)⟩
theorem posS_R{R:List Int}{sp sp':List Spk}{ls ls':List Lsn}(h:NetOk R sp ls)(h':NetOk R sp' ls')(r:Int):posS sp r=posS sp' r:=
 posK_keys (key:=Spk.router) (key':=Spk.router) (h.spr.trans h'.spr.symm) r
def rndOR_a(o:Ovl)(faults:(List Fau)):Prop:=okL [.agg [.sl 5 (o.sp.map Spk.v) false,.sl 3 (o.ls.map Lsn.v) false,.sl 10 (o.fl.map Sig.v) false],.sl 2 (faults.map Fau.v) false]
def rndOR_n0(o:Ovl)(faults:(List Fau))(t0:Int×(List Spk)×(List Sig)×(List Lsn)):NF:=⟨[(2,.k,.ref 0 0),(4,.k,.ref 1 0),(7,.k,.ref 2 0),(41,.k,.vec 6),(42,.k,.int ((((arr o.fl faults).1).map Sig.v).length:Int)),(43,.k,.int t0.1)],[.box (.agg [.sl 5 (o.sp.map Spk.v) false,.sl 3 (o.ls.map Lsn.v) false,.sl 10 (o.fl.map Sig.v) false]),.box (.agg [.sl 0 [] true,.sl 0 [] true,.sl 0 [] true]),.box (.agg [.vec 3,.vec 4,.vec 5]),.vec 5 (t0.2.1.map Spk.v) (pureBL_map (fun _=>rfl) t0.2.1),.vec 3 (t0.2.2.2.map Lsn.v) (pureBL_map (fun _=>rfl) t0.2.2.2),.vec 10 (t0.2.2.1.map Sig.v) (pureBL_map (fun _=>rfl) t0.2.2.1),.vec 10 (((arr o.fl faults).1).map Sig.v) (pureBL_map (fun _=>rfl) ((arr o.fl faults).1))]⟩
def rndOR_n1(t0:Int×(List Spk)×(List Sig)×(List Lsn))(t1:Int×(List Sig)):NF:=⟨[(4,.k,.ref 0 0),(7,.k,.ref 1 0),(97,.k,.vec 2),(98,.k,.int ((t0.2.1.map Spk.v).length:Int)),(99,.k,.int t1.1)],[.box (.agg [.sl 0 [] true,.sl 0 [] true,.sl 0 [] true]),.box (.agg [.vec 2,.vec 3,.vec 4]),.vec 5 (t0.2.1.map Spk.v) (pureBL_map (fun _=>rfl) t0.2.1),.vec 3 (t0.2.2.2.map Lsn.v) (pureBL_map (fun _=>rfl) t0.2.2.2),.vec 10 (t1.2.map Sig.v) (pureBL_map (fun _=>rfl) t1.2)]⟩
def rndOR_n2(t0:Int×(List Spk)×(List Sig)×(List Lsn))(t1:Int×(List Sig))(x8:Spk)(t2:Int×(List Sig)):NF:=⟨[(4,.k,.ref 0 0),(7,.k,.ref 1 0),(19,.k,.ref 5 0),(97,.k,.vec 2),(98,.k,.int ((t0.2.1.map Spk.v).length:Int)),(99,.k,.int t1.1),(104,.k,.sl 3 (x8.peers.map Per.v) false),(105,.k,.int ((x8.peers.map Per.v).length:Int)),(106,.k,.int t2.1)],[.box (.agg [.sl 0 [] true,.sl 0 [] true,.sl 0 [] true]),.box (.agg [.vec 2,.vec 3,.vec 4]),.vec 5 (t0.2.1.map Spk.v) (pureBL_map (fun _=>rfl) t0.2.1),.vec 3 (t0.2.2.2.map Lsn.v) (pureBL_map (fun _=>rfl) t0.2.2.2),.vec 10 (t2.2.map Sig.v) (pureBL_map (fun _=>rfl) t2.2),.box (.agg [.int x8.router,.int x8.epoch,.int x8.last,.sl 4 (x8.items.map Itm.v) false,.sl 3 (x8.peers.map Per.v) false])]⟩
@[reducible] def rndOR_s:Nat→Type
 | 0=>Int×(List Spk)×(List Sig)×(List Lsn)
 | 1=>Int×(List Sig)
 | 2=>Int×(List Sig)
 | _=>Unit
def rndOR_e(r:Ovl×Int):AV:=.tup [Ovl.v r.1,.int r.2]
def rndOR_x(o:Ovl)(faults:(List Fau))(I0:(Int×(List Spk)×(List Sig)×(List Lsn))→Prop)(m0:(Int×(List Spk)×(List Sig)×(List Lsn))→Nat)(I1:Int×(List Spk)×(List Sig)×(List Lsn)→(Int×(List Sig))→Prop)(m1:Int×(List Spk)×(List Sig)×(List Lsn)→(Int×(List Sig))→Nat)(I2:Int×(List Spk)×(List Sig)×(List Lsn)→Int×(List Sig)→Spk→(Int×(List Sig))→Prop)(m2:Int×(List Spk)×(List Sig)×(List Lsn)→Int×(List Sig)→Spk→(Int×(List Sig))→Nat):Ax Tryz.prog rndOR_s (Ovl×Int):=
 (.callP (valOR_c o)
(.br 128 ((valO o) != 0) (.ret ((⟨[],[],[]⟩:Ovl),valO o))
(.req 144 (o.sp.length≤1000000∧o.ls.length≤1000000∧o.fl.length≤1000000) fun h1 =>
(.callH [] (copR_h o h1) 144
(.req 240 (okArr o.fl faults) fun h2 =>
(.callH [] (arrR_h o.fl faults h2) 240
(.loop 0 (rndOR_n0 o faults) I0 m0 (0,o.sp,(arr o.fl faults).2,o.ls) [0,16,160,144,145,241,240] fun (t0:Int×(List Spk)×(List Sig)×(List Lsn)) b0 =>
(.br 23 (decide (t0.1<((((arr o.fl faults).1).map Sig.v).length:Int))) (.say (ck (cond (decide (0≤t0.1)) (decide (t0.1<((((arr o.fl faults).1).map Sig.v).length:Int))) false)) (.el 39 Sig.v ((arr o.fl faults).1) (fun R=>Rf (((arr o.fl faults).1).map Sig.v) (ck (decide (t0.1.toNat<((arr o.fl faults).1).length))
(∀x3,((arr o.fl faults).1)[t0.1.toNat]?=some x3 →
(R x3)))) fun x3 =>
(.callP (idxSF_c o x3.dst)
(.br 215 (x3.kind==3) (.say (ck (cond (decide (0≤(idxS o.sp x3.dst))) (decide ((idxS o.sp x3.dst)<((t0.2.1.map Spk.v).length:Int))) false)) (.el 279 Spk.v t0.2.1 (fun R=>Rf (t0.2.1.map Spk.v) (ck (decide ((idxS o.sp x3.dst).toNat<t0.2.1.length))
(∀x4,t0.2.1[(idxS o.sp x3.dst).toNat]?=some x4 →
(R x4)))) fun x4 =>
(.callP (ackR_c x4 x3)
(.br 455 (((ack x4 x3).2)==0) (.say (ck (cond (decide (0≤(idxS o.sp x3.dst))) (decide ((idxS o.sp x3.dst)<((t0.2.1.map Spk.v).length:Int))) false)) (.st 535 Spk.v t0.2.1 (fun y5=>((ack x4 x3).1)) (fun R=>Rf (t0.2.1.map Spk.v) (ck (decide ((idxS o.sp x3.dst).toNat<t0.2.1.length))
(∀y5,t0.2.1[(idxS o.sp x3.dst).toNat]?=some y5→Rf (Spk.v ((ack x4 x3).1))
((R y5))))) fun y5 =>
(.bk 0 b0 (W (t0.1+1),t0.2.1.set ((idxS o.sp x3.dst).toNat) ((ack x4 x3).1),t0.2.2.1,t0.2.2.2) [0,1,2,3,4,5,6])))
(.bk 0 b0 (W (t0.1+1),t0.2.1,t0.2.2.1,t0.2.2.2) [0,1,2,3,4,5,6])))))
(.say (ck (cond (decide (0≤(idxS o.sp x3.dst))) (decide ((idxS o.sp x3.dst)<((t0.2.2.2.map Lsn.v).length:Int))) false)) (.el 279 Lsn.v t0.2.2.2 (fun R=>Rf (t0.2.2.2.map Lsn.v) (ck (decide ((idxS o.sp x3.dst).toNat<t0.2.2.2.length))
(∀x6,t0.2.2.2[(idxS o.sp x3.dst).toNat]?=some x6 →
(R x6)))) fun x6 =>
(.callP (hearR_c x6 x3)
(.br 503 (((hear x6 x3).2)==0) (.say (ck (cond (decide (0≤(idxS o.sp x3.dst))) (decide ((idxS o.sp x3.dst)<((t0.2.2.2.map Lsn.v).length:Int))) false)) (.st 583 Lsn.v t0.2.2.2 (fun y7=>((hear x6 x3).1.1)) (fun R=>Rf (t0.2.2.2.map Lsn.v) (ck (decide ((idxS o.sp x3.dst).toNat<t0.2.2.2.length))
(∀y7,t0.2.2.2[(idxS o.sp x3.dst).toNat]?=some y7→Rf (Lsn.v ((hear x6 x3).1.1))
((R y7))))) fun y7 =>
(.say (fun R=>Rf (α:=List AV) (t0.2.2.1.map Sig.v) (Rf (α:=List AV) [(Sig.v ((hear x6 x3).1.2))]
(ck (decide (t0.2.2.1.length+1≤1048576))
R))) (.app 663 Sig.v t0.2.2.1 [(hear x6 x3).1.2]
(.bk 0 b0 (W (t0.1+1),t0.2.1,t0.2.2.1++[(hear x6 x3).1.2],t0.2.2.2.set ((idxS o.sp x3.dst).toNat) ((hear x6 x3).1.1)) [0,1,2,3,4,663,6])))))
(.bk 0 b0 (W (t0.1+1),t0.2.1,t0.2.2.1,t0.2.2.2) [0,1,2,3,4,5,6])))))))))
(.loop 1 (rndOR_n1 t0) (I1 t0) (m1 t0) (0,t0.2.2.1) [1,2,3,4,5] fun (t1:Int×(List Sig)) b1 =>
(.br 21 (decide (t1.1<((t0.2.1.map Spk.v).length:Int))) (.say (ck (cond (decide (0≤t1.1)) (decide (t1.1<((t0.2.1.map Spk.v).length:Int))) false)) (.el 37 Spk.v t0.2.1 (fun R=>Rf (t0.2.1.map Spk.v) (ck (decide (t1.1.toNat<t0.2.1.length))
(∀x8,t0.2.1[t1.1.toNat]?=some x8 →
(R x8)))) fun x8 =>
(.loop 2 (rndOR_n2 t0 t1 x8) (I2 t0 t1 x8) (m2 t0 t1 x8) (0,t1.2) [0,1,2,3,4,53] fun (t2:Int×(List Sig)) b2 =>
(.br 22 (decide (t2.1<((x8.peers.map Per.v).length:Int))) (.el 22 Per.v x8.peers (fun R=>Rf (x8.peers.map Per.v) (ck (decide (0≤t2.1)) (ck (decide (t2.1<(x8.peers.length:Int)))
(∀x9,x8.peers[t2.1.toNat]?=some x9 →
(R x9))))) fun x9 =>
(.callP (sendR_c x8 x9.router)
(.say (fun R=>Rf (α:=List AV) (t2.2.map Sig.v) (Rf (α:=List AV) (((send x8 x9.router).1).map Sig.v)
(ck (decide (t2.2.length+((send x8 x9.router).1).length≤1048576))
R))) (.app 278 Sig.v t2.2 ((send x8 x9.router).1)
(.bk 2 b2 (W (t2.1+1),t2.2++((send x8 x9.router).1)) [0,1,2,3,278,5])))))
(.bk 1 b1 (W (t1.1+1),t2.2) [0,1,2,3,4])))))
(.say (Rf (t1.2.map Sig.v)) (.cmdL (.frzE 4 (t1.2.map Sig.v) (pureBL_map (fun _=>rfl) t1.2)) (.say (Rf (t0.2.2.2.map Lsn.v)) (.cmdL (.frzE 3 (t0.2.2.2.map Lsn.v) (pureBL_map (fun _=>rfl) t0.2.2.2)) (.say (Rf (t0.2.1.map Spk.v)) (.cmdL (.frzE 2 (t0.2.1.map Spk.v) (pureBL_map (fun _=>rfl) t0.2.1)) (.ret ((⟨t0.2.1,t0.2.2.2,t1.2⟩:Ovl),0))))))))))))))))))
def rndOR_vc(o:Ovl)(faults:(List Fau))(I0:(Int×(List Spk)×(List Sig)×(List Lsn))→Prop)(m0:(Int×(List Spk)×(List Sig)×(List Lsn))→Nat)(I1:Int×(List Spk)×(List Sig)×(List Lsn)→(Int×(List Sig))→Prop)(m1:Int×(List Spk)×(List Sig)×(List Lsn)→(Int×(List Sig))→Nat)(I2:Int×(List Spk)×(List Sig)×(List Lsn)→Int×(List Sig)→Spk→(Int×(List Sig))→Prop)(m2:Int×(List Spk)×(List Sig)×(List Lsn)→Int×(List Sig)→Spk→(Int×(List Sig))→Nat)(r0:Ovl×Int):Prop:=(rndOR_x o faults I0 m0 I1 m1 I2 m2).vp rndOR_e r0
theorem rndOR_p(o:Ovl)(f:List Fau)(h:okRnd o f)(ok:rndOR_a o f):∃I0 m0 I1 m1 I2 m2,rndOR_vc o f I0 m0 I1 m1 I2 m2 (roundO o f):=by
 obtain ⟨h1,h2⟩:=h
 by_cases hv:ovlOk o
 case neg =>
  refine ⟨fun _=>True,fun _=>0,fun _ _=>True,fun _ _=>0,fun _ _ _ _=>True,fun _ _ _ _=>0,?_⟩
  have e:roundO o f=(ovl0,1):=if_pos hv
  have e2:valO o=1:=if_neg hv
  rw [e]
  dsimp only [rndOR_vc,rndOR_x,rndOR_s,Ax.vp,Ax.vc];simp only [vcU,rfU,List.length_map]
  simp [e2,ovl0]
 have hn:=hv.1
 obtain ⟨hnow,hlate⟩:=arr_mem (P:=sigIn (rtrs o.sp)) (f:=f) hv.2
 have hlen:=arr_len (l:=o.fl) (f:=f)
 have e:roundO o f=(roundN o (arr o.fl f).1 (arr o.fl f).2,0):=if_neg (not_not_intro hv)
 rw [e]
 have hA:okArr o.fl f:=⟨by omega,h2,fun x hx=>sig_srcs (hv.2 x hx).1⟩
 refine ⟨fun t=>∃k:Nat,t=((k:Int),(((arr o.fl f).1.take k).foldl deliver ((o.sp,o.ls),(arr o.fl f).2)).1.1,(((arr o.fl f).1.take k).foldl deliver ((o.sp,o.ls),(arr o.fl f).2)).2,(((arr o.fl f).1.take k).foldl deliver ((o.sp,o.ls),(arr o.fl f).2)).1.2)∧k≤(arr o.fl f).1.length,
  fun t=>(arr o.fl f).1.length-t.1.toNat,
  fun t0 t=>∃j:Nat,t=((j:Int),t0.2.2.1++(t0.2.1.take j).flatMap sends1)∧j≤t0.2.1.length,fun t0 t=>t0.2.1.length-t.1.toNat,
  fun t0 t1 x t=>∃i:Nat,t=((i:Int),t1.2++(x.peers.take i).flatMap fun p=>(send x p.router).1)∧i≤x.peers.length,fun t0 t1 x t=>x.peers.length-t.1.toNat,?_⟩
 dsimp only [rndOR_vc,rndOR_x,rndOR_s,Ax.vp,Ax.vc];simp only [vcU,rfU,List.length_map]
 generalize (arr o.fl f).1=now at *
 generalize (arr o.fl f).2=late at *
 have hLo:=hn.lens
 refine ⟨fun q=>by rw [valO_z.mpr hv] at q;simp at q,fun _=>⟨⟨by omega,by omega,by omega⟩,hA,⟨0,rfl,by omega⟩,?_⟩⟩
 rintro _ ⟨k,rfl,hk⟩
 have d:=delivers_ok (l:=now.take k) (s:=((o.sp,o.ls),late)) hn fun x hx=>hnow x (List.mem_of_mem_take hx)
 have dl:=delivers_len (l:=now.take k) (s:=((o.sp,o.ls),late))
 have hst:∀x,now[k]?=some x→(now.take (k+1)).foldl deliver ((o.sp,o.ls),late)=deliver ((now.take k).foldl deliver ((o.sp,o.ls),late)) x:=fun x hx=>by rw [take_succ hx,List.foldl_append];rfl
 have hend:k=now.length→roundN o now late=⟨((now.take k).foldl deliver ((o.sp,o.ls),late)).1.1,((now.take k).foldl deliver ((o.sp,o.ls),late)).1.2,((now.take k).foldl deliver ((o.sp,o.ls),late)).2++sends ((now.take k).foldl deliver ((o.sp,o.ls),late)).1.1⟩:=fun e=>by rw [e,List.take_length];rfl
 generalize (now.take k).foldl deliver ((o.sp,o.ls),late)=s at *
 obtain ⟨⟨sp,ls⟩,out⟩:=s
 have dn:=d.net
 simp only at dn
 obtain ⟨n1,n2⟩:=dn.lens
 rw [List.length_take] at dl
 simp only [Int.toNat_natCast] at dl ⊢
 refine ⟨fun a1=>⟨by simp;omega,by omega,fun x hx=>?_⟩,fun a1=>⟨⟨0,by simp,by omega⟩,?_⟩⟩
 ·have e1:=hst x hx
  have hxi:=(hnow x (mem_of_get hx)).2.2
  obtain ⟨p1,p2,p3,p4⟩:=dn.pos hxi
  rw [W_succ (n:=now.length) (by omega) (by omega),idx_in hv hxi,posS_R hn dn]
  simp only [Int.toNat_natCast]
  have fin:∀a b c,deliver ((sp,ls),out) x=((a,c),b)→(∃k_1:Nat,(((k+1:Nat):Int),a,b,c)=((k_1:Int),((now.take k_1).foldl deliver ((o.sp,o.ls),late)).1.1,((now.take k_1).foldl deliver ((o.sp,o.ls),late)).2,((now.take k_1).foldl deliver ((o.sp,o.ls),late)).1.2)∧k_1≤now.length)∧now.length-((k+1:Nat):Int).toNat<now.length-k:=fun a b c e =>
   ⟨⟨k+1,by rw [e1,e],by omega⟩,by omega⟩
  refine ⟨fun c1=>⟨by simp;omega,by omega,fun y hy=>⟨fun c2=>⟨by simp;omega,by omega,fun z hz=>fin _ _ _ ?_⟩,fun c2=>fin _ _ _ ?_⟩⟩,fun c1=>⟨by simp;omega,by omega,fun y hy=>⟨fun c2=>⟨by simp;omega,by omega,fun z hz=>⟨by omega,fin _ _ _ ?_⟩⟩,fun c2=>fin _ _ _ ?_⟩⟩⟩
  ·cases p3.symm.trans hy
   unfold deliver;rw [if_pos (by simpa using c1),if_pos (by simpa using c2)]
  ·cases p3.symm.trans hy
   unfold deliver;rw [if_pos (by simpa using c1),if_neg (by simpa using c2)]
  ·cases p4.symm.trans hy
   unfold deliver;rw [if_neg (by simpa using c1),if_pos (by simpa using c2)]
  ·cases p4.symm.trans hy
   unfold deliver;rw [if_neg (by simpa using c1),if_neg (by simpa using c2)]
 ·have he:=hend (by omega)
  rintro _ ⟨j,rfl,hj⟩
  have hsj:((sp.take j).flatMap sends1).length≤14400:=by
   have:((sp.take j).flatMap sends1).length≤(sp.take j).length * 1200:=flat_len fun s hs=>by
    have:(sends1 s).length≤s.peers.length * 100:=flat_len fun p _=>send_le
    have:=(dn.spo s (List.mem_of_mem_take hs)).1.2.2.2.2.1
    omega
   rw [List.length_take] at this
   omega
  simp only [Int.toNat_natCast]
  refine ⟨fun b1=>⟨by simp;omega,by omega,fun x hx=>⟨⟨0,by simp,by omega⟩,?_⟩⟩,fun b1=>?_⟩
  ·have hxp:=(dn.spo x (mem_of_get hx)).1.2.2.2.2.1
   rintro _ ⟨i,rfl,hi⟩
   have hpi:((x.peers.take i).flatMap fun p=>(send x p.router).1).length≤1200:=by
    have:((x.peers.take i).flatMap fun p=>(send x p.router).1).length≤(x.peers.take i).length * 100:=flat_len fun p _=>send_le
    rw [List.length_take] at this
    omega
   simp only [Int.toNat_natCast]
   refine ⟨fun c1=>⟨by omega,by omega,fun p hp=>⟨?_,⟨i+1,?_,by omega⟩,?_⟩⟩,fun c1=>⟨⟨j+1,?_,by omega⟩,?_⟩⟩
   ·have:=send_le (s:=x) (to:=p.router)
    simp only [List.length_append];omega
   ·rw [W_succ (n:=x.peers.length) (by omega) (by omega),flat_take hp];simp
   ·rw [W_succ (n:=x.peers.length) (by omega) (by omega)];omega
   ·have ei:i=x.peers.length:=by omega
    rw [W_succ (n:=sp.length) (by omega) (by omega),flat_take hx,ei,List.take_length]
    simp [sends1]
   ·rw [W_succ (n:=sp.length) (by omega) (by omega)];omega
  ·have ej:j=sp.length:=by omega
   rw [ej,List.take_length,he]
   rfl
def rndOR_c(o:Ovl)(faults:(List Fau))(h:okRnd o faults):PC Tryz.prog:=⟨17,[(.a [(.s 5),(.s 3),(.s 10)]),(.s 2)],[.agg [.sl 5 (o.sp.map Spk.v) false,.sl 3 (o.ls.map Lsn.v) false,.sl 10 (o.fl.map Sig.v) false],.sl 2 (faults.map Fau.v) false],rndOR_e (roundO o faults),PSpec.of_ok fun ok=>(rndOR_p o faults h ok).elim fun I0 h=>h.elim fun m0 h=>h.elim fun I1 h=>h.elim fun m1 h=>h.elim fun I2 h=>h.elim fun m2 h=>mxP_of (sh:=(.a [(.a [(.s 5),(.s 3),(.s 10)]),.k])) (enc:=rndOR_e) (a:=(rndOR_x o faults I0 m0 I1 m1 I2 m2).an) h (by kernel_rfl) (AV.pureB_ok rfl),fnB_ok (by kernel_rfl)⟩
def dropAt(l:List Int)(i:Nat):List Int:=l.take i++l.drop (i+1)
def spkM(l:List Int)(i:Nat)(r:Int):Spk:=⟨r,1,0,[],(dropAt l i).map fun x=>⟨x,0,0⟩⟩
theorem dropAt_ok{l:List Int}(h:l.Pairwise (·<·)){i:Nat}{r:Int}(hr:l[i]?=some r):dropAt l i=others l r:=by
 obtain ⟨hi,e⟩:=List.getElem?_eq_some_iff.mp hr
 have hl:l=l.take i++r::l.drop (i+1):=by
  rw [←e,List.getElem_cons_drop,List.take_append_drop]
 have h1:∀x∈l.take i,x≠r:=fun x hx q=>by
  rw [hl,List.pairwise_append] at h
  have:=h.2.2 x hx r (by simp);omega
 have h2:∀x∈l.drop (i+1),x≠r:=fun x hx q=>by
  rw [hl,List.pairwise_append,List.pairwise_cons] at h
  have:=h.2.1.1 x hx;omega
 unfold dropAt others
 conv=>rhs;rw [hl]
 rw [List.filter_append,List.filter_cons_of_neg (by simp),List.filter_eq_self.mpr fun x hx=>by simpa using h1 x hx,List.filter_eq_self.mpr fun x hx=>by simpa using h2 x hx]
theorem spkM_ok{l:List Int}(h:okR l){i:Nat}{r:Int}(hr:l[i]?=some r):spkM l i r=spkN l r:=by
 unfold spkM spkN
 rw [dropAt_ok h.2.2 hr];rfl
theorem netM_eq{l:List Int}(h:okR l):(⟨l.mapIdx (spkM l),l.map lsnN,[]⟩:Ovl)=netOf l:=by
 have:l.mapIdx (spkM l)=l.map (spkN l):=by
  refine List.ext_getElem (by simp) fun i h1 h2=>?_
  rw [List.getElem_mapIdx,List.getElem_map]
  exact spkM_ok h (List.getElem?_eq_getElem (by simpa using h1))
 rw [this];rfl
theorem netM_iff(l:List Int):ovlOk ⟨l.mapIdx (spkM l),l.map lsnN,[]⟩↔okR l:=by
 have er:rtrs (l.mapIdx (spkM l))=l:=by
  unfold rtrs
  refine List.ext_getElem (by simp) fun i h1 h2=>?_
  simp [spkM]
 constructor
 ·rintro ⟨h,_⟩
  simp only [er] at h
  refine ⟨h.len,fun r hr=>?_,h.ascR⟩
  obtain ⟨i,hi,rfl⟩:=List.getElem_of_mem hr
  have:=(h.spo (spkM l i l[i]) (List.mem_mapIdx.mpr ⟨i,hi,rfl⟩)).1.1
  exact this
 ·intro h
  rw [netM_eq h]
  exact (netOf_iff l).mpr h
theorem new_M(l:List Int)(i:Nat)(r:Int):new r 1 (dropAt l i)=if spkOk (spkM l i r) then (spkM l i r,0) else (spk0,1):=rfl
def newOR_a(routers:(List Int)):Prop:=okL [.sl 1 (routers.map AV.int) false]
abbrev newOR_v0(routers:(List Int)):=(routers.take ((routers.length:Int).toNat))
def newOR_n0(routers:(List Int))(t0:Int×(List Lsn)×(List Spk)):NF:=⟨[(0,.k,.sl 1 (routers.map AV.int) false),(2,.k,.ref 0 0),(4,.k,.ref 1 0),(14,.k,.sl 1 (routers.map AV.int) false),(15,.k,.int ((routers.map AV.int).length:Int)),(16,.k,.int t0.1)],[.box (.agg [.sl 0 [] true,.sl 0 [] true,.sl 0 [] true]),.box (.agg [.vec 2,.vec 3,.sl 0 [] true]),.vec 5 (t0.2.2.map Spk.v) (pureBL_map (fun _=>rfl) t0.2.2),.vec 3 (t0.2.1.map Lsn.v) (pureBL_map (fun _=>rfl) t0.2.1)]⟩
@[reducible] def newOR_s:Nat→Type
 | 0=>Int×(List Lsn)×(List Spk)
 | _=>Unit
def newOR_e(r:Ovl×Int):AV:=.tup [Ovl.v r.1,.int r.2]
def newOR_x(routers:(List Int))(I0:(Int×(List Lsn)×(List Spk))→Prop)(m0:(Int×(List Lsn)×(List Spk))→Nat):Ax Tryz.prog newOR_s (Ovl×Int):=
 (.br 96 (decide (12<((routers.map AV.int).length:Int))) (.ret ((⟨[],[],[]⟩:Ovl),1))
(.cmdL (.nilB 32 0 5) (.cmdL (.nilB 32 1 3) (.loop 0 (newOR_n0 routers) I0 m0 (0,[],[]) [0,32,144,145] fun (t0:Int×(List Lsn)×(List Spk)) b0 =>
(.br 20 (decide (t0.1<((routers.map AV.int).length:Int))) (.el 36 AV.int routers (fun R=>Rf (routers.map AV.int) (ck (decide (0≤t0.1)) (ck (decide (t0.1<(routers.length:Int)))
(∀x1,routers[t0.1.toNat]?=some x1 →
(R x1))))) fun x1 =>
(.say (fun R=>Rf (α:=List AV) (routers.map AV.int) (ck (bndB routers.length 0 t0.1 (routers.length:Int))
R)) (.sub 164 AV.int routers false
(.say (fun R=>Rf (α:=List AV) [] (Rf (α:=List AV) (((routers.take t0.1.toNat).drop 0).map AV.int)
(ck (decide (0+((routers.take t0.1.toNat).drop 0).length≤1048576))
R))) (.app 180 AV.int [] ((routers.take t0.1.toNat).drop 0)
(.say (fun R=>Rf (α:=List AV) (routers.map AV.int) (ck (bndB routers.length (W (t0.1+1)) (routers.length:Int) (routers.length:Int))
R)) (.sub 244 AV.int routers false
(.say (fun R=>Rf (α:=List AV) (((routers.take t0.1.toNat).drop 0).map AV.int) (Rf (α:=List AV) (((newOR_v0 routers).drop ((W (t0.1+1)).toNat)).map AV.int)
(ck (decide (((routers.take t0.1.toNat).drop 0).length+((newOR_v0 routers).drop ((W (t0.1+1)).toNat)).length≤1048576))
R))) (.app 260 AV.int ((routers.take t0.1.toNat).drop 0) ((newOR_v0 routers).drop ((W (t0.1+1)).toNat))
(.say (Rf ((((routers.take t0.1.toNat).drop 0)++((newOR_v0 routers).drop ((W (t0.1+1)).toNat))).map AV.int)) (.cmd (.frzE 260 ((((routers.take t0.1.toNat).drop 0)++((newOR_v0 routers).drop ((W (t0.1+1)).toNat))).map AV.int) (pureBL_map (fun _=>rfl) (((routers.take t0.1.toNat).drop 0)++((newOR_v0 routers).drop ((W (t0.1+1)).toNat))))) (.callP (newR_c x1 1 (((routers.take t0.1.toNat).drop 0)++((newOR_v0 routers).drop ((W (t0.1+1)).toNat))))
(.br 468 (((new x1 1 (((routers.take t0.1.toNat).drop 0)++((newOR_v0 routers).drop ((W (t0.1+1)).toNat)))).2) != 0) (.ret ((⟨[],[],[]⟩:Ovl),1))
(.say (fun R=>Rf (α:=List AV) (t0.2.2.map Spk.v) (Rf (α:=List AV) [.agg [.int (((new x1 1 (((routers.take t0.1.toNat).drop 0)++((newOR_v0 routers).drop ((W (t0.1+1)).toNat)))).1).router),.int (((new x1 1 (((routers.take t0.1.toNat).drop 0)++((newOR_v0 routers).drop ((W (t0.1+1)).toNat)))).1).epoch),.int (((new x1 1 (((routers.take t0.1.toNat).drop 0)++((newOR_v0 routers).drop ((W (t0.1+1)).toNat)))).1).last),.sl 4 ((((new x1 1 (((routers.take t0.1.toNat).drop 0)++((newOR_v0 routers).drop ((W (t0.1+1)).toNat)))).1).items).map Itm.v) false,.sl 3 ((((new x1 1 (((routers.take t0.1.toNat).drop 0)++((newOR_v0 routers).drop ((W (t0.1+1)).toNat)))).1).peers).map Per.v) false]]
(ck (decide (t0.2.2.length+1≤1048576))
R))) (.app 532 Spk.v t0.2.2 [(new x1 1 (((routers.take t0.1.toNat).drop 0)++((newOR_v0 routers).drop ((W (t0.1+1)).toNat)))).1]
(.say (fun R=>Idt (t0.2.1.map Lsn.v) (Rf (α:=List AV) [.agg [.int x1,.int 1,.sl 0 [] true]]
(ck (decide ((t0.2.1.map Lsn.v).length+1≤1048576))
R))) (.app 660 (fun y:AV=>y) (t0.2.1.map Lsn.v) [.agg [.int x1,.int 1,.sl 0 [] true]]
(.say (fun R=>FitE (.a [.k,.k,(.s 4)]) Lsn.v t0.2.1 [(⟨x1,1,[]⟩:Lsn)] [.agg [.int x1,.int 1,.sl 0 [] true]] ∧
R) (.cmd (.wkV 660 (.a [.k,.k,(.s 4)]) Lsn.v (t0.2.1++[(⟨x1,1,[]⟩:Lsn)])) (.bk 0 b0 (W (t0.1+1),t0.2.1++[(⟨x1,1,[]⟩:Lsn)],t0.2.2++[(new x1 1 (((routers.take t0.1.toNat).drop 0)++((newOR_v0 routers).drop ((W (t0.1+1)).toNat)))).1]) [0,1,532,660]))))))))))))))))))))
(.callP (valOR_c (⟨t0.2.2,t0.2.1,[]⟩:Ovl))
(.say (ck (pureBLs [(t0.2.2.map Spk.v),(t0.2.1.map Lsn.v)])) (.br 68 ((valO (⟨t0.2.2,t0.2.1,[]⟩:Ovl)) != 0) (.ret ((⟨[],[],[]⟩:Ovl),1))
(.say (Rf (t0.2.1.map Lsn.v)) (.cmdL (.frzE 3 (t0.2.1.map Lsn.v) (pureBL_map (fun _=>rfl) t0.2.1)) (.say (Rf (t0.2.2.map Spk.v)) (.cmdL (.frzE 2 (t0.2.2.map Spk.v) (pureBL_map (fun _=>rfl) t0.2.2)) (.ret ((⟨t0.2.2,t0.2.1,[]⟩:Ovl),0))))))))))))))
def newOR_vc(routers:(List Int))(I0:(Int×(List Lsn)×(List Spk))→Prop)(m0:(Int×(List Lsn)×(List Spk))→Nat)(r0:Ovl×Int):Prop:=(newOR_x routers I0 m0).vp newOR_e r0
theorem newOR_p(l:List Int)(h:l.length≤1000)(ok:newOR_a l):∃I m,newOR_vc l I m (newN l):=by
 refine ⟨fun t=>∃k:Nat,t=((k:Int),(l.take k).map lsnN,(l.mapIdx (spkM l)).take k)∧k≤l.length,fun t=>l.length-t.1.toNat,?_⟩
 dsimp only [newOR_vc,newOR_x,newOR_s,newOR_v0,Ax.vp,Ax.vc];simp only [vcU,rfU,List.length_map]
 have hN:newN l=if okR l then (netOf l,0) else (ovl0,1):=rfl
 rw [hN]
 refine ⟨fun q=>?_,fun q=>⟨⟨0,rfl,by omega⟩,?_⟩⟩
 ·have:¬okR l:=fun e=>by have:=e.1;omega
  rw [if_neg this];rfl
 rintro _ ⟨k,rfl,hk⟩
 simp only [Int.toNat_natCast]
 refine ⟨fun a1=>⟨by omega,by omega,fun x hx=>?_⟩,fun a1=>?_⟩
 ·rw [W_succ (n:=l.length) (by omega) (by omega)]
  simp only [Int.toNat_natCast,List.take_length,List.drop_zero]
  have hdr:l.take k++l.drop (k+1)=dropAt l k:=rfl
  have hdl:(l.take k).length+(l.drop (k+1)).length≤1000:=by rw [List.length_take,List.length_drop];omega
  have hb1:bndB l.length 0 (k:Int) (l.length:Int)=true:=by simp [bndB];omega
  have hb2:bndB l.length ((k+1:Nat):Int) (l.length:Int) (l.length:Int)=true:=by simp [bndB];omega
  rw [hdr,new_M]
  refine ⟨hb1,by omega,hb2,by omega,fun c=>?_,fun c=>?_⟩
  ·have c:¬spkOk (spkM l k x):=fun e=>by rw [if_pos e] at c;simp at c
   have:¬okR l:=fun e=>c (by rw [spkM_ok e hx];exact (spkN_ok e (mem_of_get hx)).1)
   rw [if_neg this];rfl
  ·have c:spkOk (spkM l k x):=by
    by_cases e:spkOk (spkM l k x)
    ·exact e
    ·rw [if_neg e] at c;simp at c
   rw [if_pos c]
   have hm:(l.mapIdx (spkM l))[k]?=some (spkM l k x):=by rw [List.getElem?_mapIdx,hx];rfl
   refine ⟨by simp;omega,by simp;omega,fitE_one (fun _=>rfl) rfl,⟨k+1,?_,by omega⟩,by omega⟩
   rw [take_succ hx,take_succ hm,List.map_append];rfl
 ·rw [List.take_of_length_le (by simp;omega),List.take_of_length_le (by omega)]
  have hz:valO (⟨l.mapIdx (spkM l),l.map lsnN,[]⟩:Ovl)=if okR l then 0 else 1:=by
   unfold valO
   simp only [netM_iff]
  refine ⟨by generalize l.mapIdx (spkM l)=A;generalize l.map lsnN=B;simp [pureBLs,pureBL_map (v:=Spk.v) (fun _=>rfl),pureBL_map (v:=Lsn.v) (fun _=>rfl)],fun q=>?_,fun q=>?_⟩
  ·rw [hz] at q
   by_cases e:okR l
   ·rw [if_pos e] at q;simp at q
   ·rw [if_neg e];rfl
  ·rw [hz] at q
   by_cases e:okR l
   ·rw [if_pos e,netM_eq e]
   ·rw [if_neg e] at q;simp at q
def newOR_c(routers:(List Int))(h:routers.length≤1000):PC Tryz.prog:=⟨38,[(.s 1)],[.sl 1 (routers.map AV.int) false],newOR_e (newN routers),PSpec.of_ok fun ok=>(newOR_p routers h ok).elim fun I0 h=>h.elim fun m0 h=>mxP_of (sh:=(.a [(.a [(.s 5),(.s 3),(.s 10)]),.k])) (enc:=newOR_e) (a:=(newOR_x routers I0 m0).an) h (by kernel_rfl) (AV.pureB_ok rfl),fnB_ok (by kernel_rfl)⟩
theorem minI_eq{a b:Int}:minI a b=min a b:=by unfold minI;split<;>omega
def hvyT_a(L:(List Int))(p:Nat)(n:Int):Prop:=okL [.ref 0 0,.int n]∧(.box (.agg [.sl 1 (L.map AV.int) false,.int ((p:Nat):Int)]):Blk).ok
def hvyT_n0(L:(List Int))(t0:Int×Nat×(List Fau)):NF:=⟨[(0,.k,.ref 0 0),(5,.k,.vec 1),(6,.k,.int t0.1)],[.box (.agg [.sl 1 (L.map AV.int) false,.int ((t0.2.1:Nat):Int)]),.vec 2 (t0.2.2.map Fau.v) (pureBL_map (fun _=>rfl) t0.2.2)]⟩
@[reducible] def hvyT_s:Nat→Type
 | 0=>Int×Nat×(List Fau)
 | _=>Unit
def hvyT_e(r:Tap×(List Fau)):AV:=.sl 2 (r.2.map Fau.v) false
def hvyT_b(r:Tap×(List Fau)):List (Option Blk):=[some (.box (.agg [.sl 1 (r.1.L.map AV.int) false,.int ((r.1.p:Nat):Int)]))]
def hvyT_x(L:(List Int))(p:Nat)(n:Int)(I0:(Int×Nat×(List Fau))→Prop)(m0:(Int×Nat×(List Fau))→Nat):Ax Tryz.prog hvyT_s (Tap×(List Fau)):=
 (.cmdL (.nilT 5 2) (.loop 0 (hvyT_n0 L) I0 m0 (W (n-1),p,[]) [0,81] fun (t0:Int×Nat×(List Fau)) b0 =>
(.br 34 (decide (0≤t0.1)) (.callH [0] (N_h L t0.2.1 3) 50
(.br 82 (decide (0<(Mod (rawV L t0.2.1) 3))) (.req 130 ([1,1,2,3,4]≠[]) fun h1 =>
(.callH [0] (Pick_h L (rawP L t0.2.1) [1,1,2,3,4] h1) 130
(.say (fun R=>Rf (α:=List AV) (t0.2.2.map Fau.v) (Rf (α:=List AV) [.agg [.int (pickI [1,1,2,3,4] (rawV L (rawP L t0.2.1))),.int t0.1]]
(ck (decide (t0.2.2.length+1≤1048576))
R))) (.app 194 Fau.v t0.2.2 [(⟨pickI [1,1,2,3,4] (rawV L (rawP L t0.2.1)),t0.1⟩:Fau)]
(.bk 0 b0 (W (t0.1-1),rawP L (rawP L t0.2.1),t0.2.2++[(⟨pickI [1,1,2,3,4] (rawV L (rawP L t0.2.1)),t0.1⟩:Fau)]) [0,194])))))
(.bk 0 b0 (W (t0.1-1),rawP L t0.2.1,t0.2.2) [0,1])))
(.say (Rf (t0.2.2.map Fau.v)) (.cmdL (.frzE 1 (t0.2.2.map Fau.v) (pureBL_map (fun _=>rfl) t0.2.2)) (.retH ((⟨L,t0.2.1⟩:Tap),t0.2.2) ⟨[(4,.k,.sl 2 (t0.2.2.map Fau.v) false)],[.box (.agg [.sl 1 (L.map AV.int) false,.int ((t0.2.1:Nat):Int)])]⟩ [0]))))))
def hvyT_vc(L:(List Int))(p:Nat)(n:Int)(I0:(Int×Nat×(List Fau))→Prop)(m0:(Int×Nat×(List Fau))→Nat)(r0:Tap×(List Fau)):Prop:=(hvyT_x L p n I0 m0).vc hvyT_e hvyT_b r0
theorem hvyT_p(L:List Int)(p:Nat)(n:Int)(h:0≤n∧n≤100000)(ok:hvyT_a L p n):∃I m,hvyT_vc L p n I m ((⟨L,(heavyT L n p).2⟩:Tap),(heavyT L n p).1):=by
 refine ⟨fun t=>∃k:Nat,t.1=(k:Int)-1∧k≤100000∧t.2.2.length+k≤100000∧heavyL L k t.2.2 t.2.1=heavyT L n p,fun t=>(t.1+1).toNat,?_⟩
 dsimp only [hvyT_vc,hvyT_x,hvyT_s,Ax.vp,Ax.vc];simp only [vcU,rfU,List.length_map]
 refine ⟨⟨n.toNat,by rw [W_eq (by omega)];omega,by omega,by simp;omega,rfl⟩,?_⟩
 rintro ⟨i,q,out⟩ ⟨k,hk,hk4,hl,hf⟩
 simp only at hk hl hf
 subst hk
 simp only
 refine ⟨fun h1=>?_,fun h1=>?_⟩
 ·obtain ⟨j,rfl⟩:∃j,k=j+1:=⟨k-1,by omega⟩
  have e:((j+1:Nat):Int)-1=j:=by omega
  rw [e,W_eq (by omega)]
  rw [heavyL] at hf
  refine ⟨fun c=>⟨by simp,by omega,⟨j,rfl,by omega,by simp;omega,?_⟩,by omega⟩,fun c=>⟨⟨j,rfl,by omega,by omega,?_⟩,by omega⟩⟩
  ·rw [if_pos c] at hf;exact hf
  ·rw [if_neg c] at hf;exact hf
 ·have:k=0:=by omega
  subst this
  rw [←hf];rfl
def hvyT_h(L:(List Int))(p:Nat)(n:Int)(h:0≤n∧n≤100000):HC Tryz.prog:=⟨84,[.k,.k],[.ref 0 0,.int n],[.box (.agg [.sl 1 (L.map AV.int) false,.int ((p:Nat):Int)])],hvyT_e ((⟨L,(heavyT L n p).2⟩:Tap),(heavyT L n p).1),hvyT_b ((⟨L,(heavyT L n p).2⟩:Tap),(heavyT L n p).1),HSpec.of_okh fun ok ok2=>have ok:hvyT_a L p n:=⟨ok,ok2 _ (by simp)⟩;(hvyT_p L p n h ok).elim fun I0 h=>h.elim fun m0 h=>mxH_of (sh:=(.s 2)) (enc:=hvyT_e) (hB:=hvyT_b) (a:=(hvyT_x L p n I0 m0).an) h (by kernel_rfl),fnB_ok (by kernel_rfl),HcOk.of (by simp [hcB,belBL,AV.belB,allB,okBk,okBkO,hvyT_e,hvyT_b,pureBL_map (v:=AV.int) (fun _=>rfl)])⟩
def okAct(o:Ovl):Prop:=0<o.sp.length∧o.fl.length≤300000
def actT_a(L:(List Int))(p:Nat)(o:Ovl):Prop:=okL [.ref 0 0,.agg [.sl 5 (o.sp.map Spk.v) false,.sl 3 (o.ls.map Lsn.v) false,.sl 10 (o.fl.map Sig.v) false]]∧(.box (.agg [.sl 1 (L.map AV.int) false,.int ((p:Nat):Int)]):Blk).ok
abbrev actT_v0(o:Ovl):=(minI ((o.fl.map Sig.v).length:Int) 40)
abbrev actT_v1(L:(List Int))(p:Nat)(o:Ovl):=(faultsT L ((o.fl.map Sig.v).length:Int) (rawP L (rawP L p)))
def actT_n0(L:(List Int))(o:Ovl)(t0:Int×Ovl×Nat):NF:=⟨[(3,.k,.ref 1 0),(4,.k,.ref 2 0),(6,.k,.ref 3 0),(7,.k,.int t0.1)],[.box (.agg [.sl 1 (L.map AV.int) false,.int ((t0.2.2:Nat):Int)]),.box (.agg [.sl 5 (o.sp.map Spk.v) false,.sl 3 (o.ls.map Lsn.v) false,.sl 10 (o.fl.map Sig.v) false]),.box (.agg [.sl 0 [] true,.sl 0 [] true,.sl 0 [] true]),.box (.agg [.sl 5 (t0.2.1.sp.map Spk.v) false,.sl 3 (t0.2.1.ls.map Lsn.v) false,.sl 10 (t0.2.1.fl.map Sig.v) false])]⟩
def actT_n1(L:(List Int))(p:Nat)(o:Ovl)(x1:Spk)(t1:Bool):NF:=⟨[(0,.k,.ref 0 0),(3,.k,.ref 1 0),(4,.k,.ref 2 0),(5,.k,.int x1.router),(6,.k,.ref 3 0),(20,.k,.int (Mod (rawV L (rawP L p)) 6)),(31,.k,.bool t1)],[.box (.agg [.sl 1 (L.map AV.int) false,.int (((rawP L (rawP L p)):Nat):Int)]),.box (.agg [.sl 5 (o.sp.map Spk.v) false,.sl 3 (o.ls.map Lsn.v) false,.sl 10 (o.fl.map Sig.v) false]),.box (.agg [.sl 0 [] true,.sl 0 [] true,.sl 0 [] true]),.box (.agg [.sl 5 (o.sp.map Spk.v) false,.sl 3 (o.ls.map Lsn.v) false,.sl 10 (o.fl.map Sig.v) false])]⟩
@[reducible] def actT_s:Nat→Type
 | 0=>Int×Ovl×Nat
 | 1=>Bool
 | _=>Unit
def actT_e(r:Tap×Ovl):AV:=.agg [.sl 5 (r.2.sp.map Spk.v) false,.sl 3 (r.2.ls.map Lsn.v) false,.sl 10 (r.2.fl.map Sig.v) false]
def actT_b(r:Tap×Ovl):List (Option Blk):=[some (.box (.agg [.sl 1 (r.1.L.map AV.int) false,.int ((r.1.p:Nat):Int)]))]
def actT_x(L:(List Int))(p:Nat)(o:Ovl)(I0:Spk→(Int×Ovl×Nat)→Prop)(I1:Spk→Bool→Prop):Ax Tryz.prog actT_s (Tap×Ovl):=
 (.callH [0] (N_h L p ((o.sp.map Spk.v).length:Int)) 129
(.el 145 Spk.v o.sp (fun R=>Rf (o.sp.map Spk.v) (ck (decide (0≤(Mod (rawV L p) ((o.sp.map Spk.v).length:Int)))) (ck (decide ((Mod (rawV L p) ((o.sp.map Spk.v).length:Int))<(o.sp.length:Int)))
(∀x1,o.sp[(Mod (rawV L p) ((o.sp.map Spk.v).length:Int)).toNat]?=some x1 →
(R x1))))) fun x1 =>
(.pass (.join 0 (actT_n0 L o) (fun (t0:Int×Ovl×Nat)=>I0 x1 t0) (fun b0=>(.callH [0] (N_h L (rawP L p) 6) 289
(.join 1 (actT_n1 L p o x1) (fun (t1:Bool)=>I1 x1 t1) (fun b1=>(.br 337 ((Mod (rawV L (rawP L p)) 6)==0) (.bk 1 b1 ((true):Bool) [0,1,17,225])
(.bk 1 b1 (((Mod (rawV L (rawP L p)) 6)==1):Bool) [0,1,17,225]))) fun (t1:Bool) =>
(.br 4 t1 (.callH [0] (wantsT_h L (rawP L (rawP L p))) 52
(.req 68 (o.fl.length≤1000000) fun h2 =>
(.callP (chgOR_c o x1.router ((wantsT L (rawP L (rawP L p))).1) h2)
(.bk 0 b0 ((changeV o x1.router ((wantsT L (rawP L (rawP L p))).1)).2,(changeV o x1.router ((wantsT L (rawP L (rawP L p))).1)).1,(wantsT L (rawP L (rawP L p))).2) [0,1,2,3]))))
(.br 36 ((Mod (rawV L (rawP L p)) 6)==2) (.callH [0] (wantsT_h L (rawP L (rawP L p))) 84
(.req 100 (o.fl.length≤1000000) fun h3 =>
(.callP (rstOR_c o x1.router ((wantsT L (rawP L (rawP L p))).1) h3)
(.bk 0 b0 ((restartV o x1.router ((wantsT L (rawP L (rawP L p))).1)).2,(restartV o x1.router ((wantsT L (rawP L (rawP L p))).1)).1,(wantsT L (rawP L (rawP L p))).2) [0,1,2,3]))))
(.br 68 ((Mod (rawV L (rawP L p)) 6)==3) (.req 164 (0≤(actT_v0 o)∧(actT_v0 o)≤100000) fun h4 =>
(.callH [0] (hvyT_h L (rawP L (rawP L p)) (actT_v0 o) h4) 164
(.req 180 (okRnd o ((heavyT L (actT_v0 o) (rawP L (rawP L p))).1)) fun h5 =>
(.callP (rndOR_c o ((heavyT L (actT_v0 o) (rawP L (rawP L p))).1) h5)
(.bk 0 b0 ((roundO o ((heavyT L (actT_v0 o) (rawP L (rawP L p))).1)).2,(roundO o ((heavyT L (actT_v0 o) (rawP L (rawP L p))).1)).1,(heavyT L (actT_v0 o) (rawP L (rawP L p))).2) [0,1,2,3])))))
(.req 148 (0≤((o.fl.map Sig.v).length:Int)∧((o.fl.map Sig.v).length:Int)≤1000000) fun h6 =>
(.callH [0] (fltsT_h L (rawP L (rawP L p)) ((o.fl.map Sig.v).length:Int) h6) 148
(.req 164 (okRnd o ((actT_v1 L p o).1)) fun h7 =>
(.callP (rndOR_c o ((actT_v1 L p o).1) h7)
(.bk 0 b0 ((roundO o ((actT_v1 L p o).1)).2,(roundO o ((actT_v1 L p o).1)).1,(actT_v1 L p o).2) [0,1,2,3]))))))))))) fun (t0:Int×Ovl×Nat) =>
(.br 36 (t0.1 != 0) (.retH ((⟨L,t0.2.2⟩:Tap),o) ⟨[(4,.k,.ref 1 0)],[.box (.agg [.sl 1 (L.map AV.int) false,.int ((t0.2.2:Nat):Int)]),.box (.agg [.sl 5 (o.sp.map Spk.v) false,.sl 3 (o.ls.map Lsn.v) false,.sl 10 (o.fl.map Sig.v) false])]⟩ [0,2])
(.retH ((⟨L,t0.2.2⟩:Tap),t0.2.1) ⟨[(4,.k,.ref 1 0)],[.box (.agg [.sl 1 (L.map AV.int) false,.int ((t0.2.2:Nat):Int)]),.box (.agg [.sl 5 (t0.2.1.sp.map Spk.v) false,.sl 3 (t0.2.1.ls.map Lsn.v) false,.sl 10 (t0.2.1.fl.map Sig.v) false])]⟩ [0,2]))))))
def actT_vc(L:(List Int))(p:Nat)(o:Ovl)(I0:Spk→(Int×Ovl×Nat)→Prop)(I1:Spk→Bool→Prop)(r0:Tap×Ovl):Prop:=(actT_x L p o I0 I1).vc actT_e actT_b r0
theorem actT_p(L:List Int)(p:Nat)(o:Ovl)(h:okAct o)(ok:actT_a L p o):∃I0 I1,actT_vc L p o I0 I1 ((⟨L,(actT L p o).2⟩:Tap),(actT L p o).1):=by
 obtain ⟨hs,hf⟩:=h
 refine ⟨fun _ t=>(orO o (t.2.1,t.1),t.2.2)=actT L p o,fun _ x=>x=decide (Mod (rawV L (rawP L p)) 6=0∨Mod (rawV L (rawP L p)) 6=1),?_⟩
 have hm:=Mod_range (x:=rawV L p) (n:=(o.sp.length:Int)) (by omega)
 have hmin:minI (o.fl.length:Int) 40=min (o.fl.length:Int) 40:=minI_eq
 dsimp only [actT_vc,actT_x,actT_s,actT_v0,actT_v1,Ax.vp,Ax.vc];simp only [vcU,rfU,List.length_map]
 simp only [hmin]
 refine ⟨by omega,by omega,fun x hx=>⟨⟨⟨fun c=>by simp [eq_of_beq c],fun c=>?_⟩,?_⟩,?_⟩⟩
 ·have c:¬Mod (rawV L (rawP L p)) 6=0:=by simpa using c
  rw [Bool.eq_iff_iff,beq_iff_eq,decide_eq_true_iff];omega
 all_goals have hx:o.sp.getD (Mod (rawV L p) o.sp.length).toNat spk0=x:=by rw [List.getD_eq_getElem?_getD,hx];rfl
 rotate_left
 ·rintro ⟨e,o2,q⟩ h2
  simp only at h2 ⊢
  refine ⟨fun c=>?_,fun c=>?_⟩
  ·have c:e≠0:=by simpa using c
   rw [←h2,orO,if_pos c]
  ·have c:¬e≠0:=by simpa using c
   rw [←h2,orO,if_neg c]
 have hF1:=heavyT_len (L:=L) (n:=min (o.fl.length:Int) 40) (p:=rawP L (rawP L p))
 have hF2:=faultsT_len (L:=L) (n:=o.fl.length) (p:=rawP L (rawP L p))
 rintro _ rfl
 refine ⟨fun c=>⟨by omega,?_⟩,fun c=>⟨fun d=>⟨by omega,?_⟩,fun d=>⟨fun e=>⟨by omega,⟨by omega,by omega⟩,?_⟩,fun e=>⟨by omega,⟨by omega,by omega⟩,?_⟩⟩⟩⟩
 ·have c:=of_decide_eq_true c
  rw [actT,if_pos c,hx]
 ·have c:=of_decide_eq_false c
  have d:=eq_of_beq d
  rw [actT,if_neg c,if_pos d,hx]
 ·have c:=of_decide_eq_false c
  have d:¬Mod (rawV L (rawP L p)) 6=2:=by simpa using d
  have e:=eq_of_beq e
  rw [actT,if_neg c,if_neg d,if_pos e]
 ·have c:=of_decide_eq_false c
  have d:¬Mod (rawV L (rawP L p)) 6=2:=by simpa using d
  have e:¬Mod (rawV L (rawP L p)) 6=3:=by simpa using e
  rw [actT,if_neg c,if_neg d,if_neg e]
def actT_h(L:(List Int))(p:Nat)(o:Ovl)(h:okAct o):HC Tryz.prog:=⟨39,[.k,(.a [(.s 5),(.s 3),(.s 10)])],[.ref 0 0,.agg [.sl 5 (o.sp.map Spk.v) false,.sl 3 (o.ls.map Lsn.v) false,.sl 10 (o.fl.map Sig.v) false]],[.box (.agg [.sl 1 (L.map AV.int) false,.int ((p:Nat):Int)])],actT_e ((⟨L,(actT L p o).2⟩:Tap),(actT L p o).1),actT_b ((⟨L,(actT L p o).2⟩:Tap),(actT L p o).1),HSpec.of_okh fun ok ok2=>have ok:actT_a L p o:=⟨ok,ok2 _ (by simp)⟩;(actT_p L p o h ok).elim fun I0 h=>h.elim fun I1 h=>mxH_of (sh:=(.a [(.s 5),(.s 3),(.s 10)])) (enc:=actT_e) (hB:=actT_b) (a:=(actT_x L p o I0 I1).an) h (by kernel_rfl),fnB_ok (by kernel_rfl),HcOk.of (by simp [hcB,belBL,AV.belB,allB,okBk,okBkO,actT_e,actT_b,pureBL_map (v:=AV.int) (fun _=>rfl),pureBL_map (v:=Lsn.v) (fun _=>rfl),pureBL_map (v:=Sig.v) (fun _=>rfl),pureBL_map (v:=Spk.v) (fun _=>rfl)])⟩
end Go.Proofs.YthhpaedpnjdnbaaGreatDoor
