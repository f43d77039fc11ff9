/- Texts joined: G22 G30 G31 G32 U16 G33 DG IG. -/
import Derived.Test.YtkanhopflelmdaaGreatDoorQA6
set_option linter.unusedVariables false
set_option linter.unusedSimpArgs false
namespace Go.Proofs.YtkanhopflelmdaaGreatDoor
open Go Go.Am
def sendR_a(s:Spk)(router:Int):Prop:=okL [.agg [.int s.router,.int s.epoch,.int s.last,.sl 4 (s.items.map Itm.v) false,.sl 3 (s.peers.map Per.v) false],.int router]
def sendR_n0(s:Spk)(router:Int)(t0:Int×Int×(List Sig)):NF:=⟨[(1,.k,.int router),(2,.k,.ref 0 0),(7,.k,.int (idxP s.peers router)),(8,.k,.vec 1),(9,.k,.int t0.1),(32,.k,.sl 4 (s.items.map Itm.v) false),(33,.k,.int ((s.items.map Itm.v).length:Int)),(34,.k,.int t0.2.1)],[.box (.agg [.int s.router,.int s.epoch,.int s.last,.sl 4 (s.items.map Itm.v) false,.sl 3 (s.peers.map Per.v) false]),.vec 10 (t0.2.2.map Sig.v) (pureBL_map (fun _=>rfl) t0.2.2)]⟩
@[reducible] def sendR_s:Nat→Type
 | 0=>Int×Int×(List Sig)
 | _=>Unit
def sendR_e(r:(List Sig)×Int):AV:=.tup [.sl 10 (r.1.map Sig.v) false,.int r.2]
def sendR_x(s:Spk)(router:Int)(I0:(Int×Int×(List Sig))→Prop)(m0:(Int×Int×(List Sig))→Nat):Ax Tryz.prog sendR_s ((List Sig)×Int):=
 (.callP (valR6_c s)
(.br 128 ((valS s) != 0) (.ret ([],valS s))
(.callP (peerR_c s router)
(.br 224 (decide ((idxP s.peers router)<0)) (.ret ([],4))
(.own 352 (.cmdL (.wkB 352 (.a [.k,.k,.k,.k,.k,.k,.k,.k,.k,(.s 1)])) (.loop 0 (sendR_n0 s router) I0 m0 (0,0,[(⟨1,s.router,router,s.epoch,s.last,0,0,0,0,[]⟩:Sig)]) [0,352] fun (t0:Int×Int×(List Sig)) b0 =>
(.br 18 (decide (t0.2.1<((s.items.map Itm.v).length:Int))) (.el 18 Itm.v s.items (fun R=>Rf (s.items.map Itm.v) (ck (decide (0≤t0.2.1)) (ck (decide (t0.2.1<(s.items.length:Int)))
(∀x1,s.items[t0.2.1.toNat]?=some x1 →
(R x1))))) fun x1 =>
(.el 162 Per.v s.peers (fun R=>Rf (s.peers.map Per.v) (ck (decide (0≤(idxP s.peers router))) (ck (decide ((idxP s.peers router)<(s.peers.length:Int)))
(∀x2,s.peers[(idxP s.peers router).toNat]?=some x2 →
(R x2))))) fun x2 =>
(.br 226 (decide (x2.acked<x1.ver)) (.own 450 (.say (fun R=>Rf (α:=List AV) (t0.2.2.map Sig.v) (Rf (α:=List AV) [.agg [.int 2,.int s.router,.int router,.int s.epoch,.int x1.ver,.int t0.1,.int 0,.int x1.grp,.int x1.mode,.sl 1 (x1.srcs.map AV.int) false]]
(ck (decide (t0.2.2.length+1≤1000000))
R))) (.app 466 Sig.v t0.2.2 [(⟨2,s.router,router,s.epoch,x1.ver,t0.1,0,x1.grp,x1.mode,x1.srcs⟩:Sig)]
(.bk 0 b0 (x1.ver,W (t0.2.1+1),t0.2.2++[(⟨2,s.router,router,s.epoch,x1.ver,t0.1,0,x1.grp,x1.mode,x1.srcs⟩:Sig)]) [0,466]))))
(.bk 0 b0 (x1.ver,W (t0.2.1+1),t0.2.2) [0,1]))))
(.say (Rf (t0.2.2.map Sig.v)) (.cmdL (.frzE 1 (t0.2.2.map Sig.v) (pureBL_map (fun _=>rfl) t0.2.2)) (.ret (t0.2.2,0))))))))))))
def sendR_vc(s:Spk)(router:Int)(I0:(Int×Int×(List Sig))→Prop)(m0:(Int×Int×(List Sig))→Nat)(r0:(List Sig)×Int):Prop:=(sendR_x s router I0 m0).vp sendR_e r0
theorem sendR_p(s:Spk)(r:Int)(ok:sendR_a s r):∃I0 m0,sendR_vc s r I0 m0 (send s r):=by
 let ak:=(s.peers.getD (posP s.peers r) ⟨0,0,0⟩).acked
 refine ⟨fun t=>∃k:Nat,t.2.1=k∧k≤s.items.length∧t.2.2.length≤k+1∧hello s r::sendFrom s r ak 0 s.items=t.2.2++sendFrom s r ak t.1 (s.items.drop k),fun t=>s.items.length-t.2.1.toNat,?_⟩
 dsimp only [sendR_vc,sendR_x,sendR_s,Ax.vp,Ax.vc];simp only [vcU,rfU,List.length_map]
 have hv:valS s=if spkOk s then 0 else 1:=rfl
 rw [hv]
 by_cases hs:spkOk s
 case neg=>simp [send,hs]
 rw [if_pos hs,idxP_asc hs.2.2.2.2.2.2]
 refine ⟨fun e=>by simp at e,fun _=>⟨fun e=>?_,fun e=>?_⟩⟩
 ·rw [send,if_neg (not_not_intro hs),if_pos]
  intro q;rw [if_pos q] at e;omega
 have e:hitP s.peers r:=by
  refine Classical.byContradiction fun q=>e ?_
  rw [if_neg q];omega
 rw [if_pos e,Int.toNat_natCast]
 have fin:send s r=(hello s r::sendFrom s r ak 0 s.items,0):=by rw [send,if_neg (not_not_intro hs),if_neg (not_not_intro e)]
 have hil:=itms_len hs.2.2.2.1
 refine ⟨⟨0,rfl,by omega,by simp,rfl⟩,?_⟩
 rintro ⟨prev,_,acc⟩ ⟨k,rfl,hk,hal,h⟩
 simp only [Int.toNat_natCast] at *
 refine ⟨fun h1=>⟨by omega,by omega,fun x hx=>⟨by omega,by have:=e.1;omega,fun y hy=>?_⟩⟩,fun h1=>?_⟩
 ·have hy:ak=y.acked:=by show (s.peers.getD (posP s.peers r) ⟨0,0,0⟩).acked=_;rw [getD_some hy]
  have hd:s.items.drop k=x::s.items.drop (k+1):=by
   have hkl:=lt_of_get hx
   rw [List.drop_eq_getElem_cons hkl]
   rw [List.getElem?_eq_getElem hkl] at hx;rw [Option.some.inj hx]
  rw [hd,sendFrom] at h
  rw [W_succ (n:=s.items.length) (by omega) (by omega)]
  refine ⟨fun e3=>⟨by omega,⟨k+1,rfl,by omega,by simp;omega,?_⟩,by omega⟩,fun e3=>⟨⟨k+1,rfl,by omega,by omega,?_⟩,by omega⟩⟩
  ·rw [h,if_pos (by omega)];simp [upd1]
  ·rw [h,if_neg (by omega)];simp
 ·rw [List.drop_eq_nil_of_le (by omega),sendFrom,List.append_nil] at h
  rw [fin,h]
def sendR_c(s:Spk)(router:Int):PC Tryz.prog:=⟨67,[(.a [.k,.k,.k,(.s 4),(.s 3)]),.k],[.agg [.int s.router,.int s.epoch,.int s.last,.sl 4 (s.items.map Itm.v) false,.sl 3 (s.peers.map Per.v) false],.int router],sendR_e (send s router),PSpec.of_ok fun ok=>(sendR_p s router ok).elim fun I0 h=>h.elim fun m0 h=>mxP_of (sh:=(.a [(.s 10),.k])) (enc:=sendR_e) (a:=(sendR_x s router I0 m0).an) h (by kernel_rfl) (AV.pureB_ok rfl),fnB_ok (by kernel_rfl)⟩
def ackR_a(s:Spk)(x:Sig):Prop:=okL [.agg [.int s.router,.int s.epoch,.int s.last,.sl 4 (s.items.map Itm.v) false,.sl 3 (s.peers.map Per.v) false],.agg [.int x.kind,.int x.src,.int x.dst,.int x.epoch,.int x.ver,.int x.prev,.int x.pep,.int x.grp,.int x.mode,.sl 1 (x.srcs.map AV.int) false]]
def ackR_n0(s:Spk)(x:Sig)(t0:Bool):NF:=⟨[(2,.k,.ref 0 0),(3,.k,.ref 1 0),(4,.k,.ref 2 0),(33,.k,.bool t0)],[.box (.agg [.int s.router,.int s.epoch,.int s.last,.sl 4 (s.items.map Itm.v) false,.sl 3 (s.peers.map Per.v) false]),.box (.agg [.int x.kind,.int x.src,.int x.dst,.int x.epoch,.int x.ver,.int x.prev,.int x.pep,.int x.grp,.int x.mode,.sl 1 (x.srcs.map AV.int) false]),.box (.agg [.int 0,.int 0,.int 0,.sl 0 [] true,.sl 0 [] true])]⟩
def ackR_n1(s:Spk)(x:Sig)(t1:Int):NF:=⟨[(2,.k,.ref 0 0),(3,.k,.ref 1 0),(4,.k,.ref 2 0),(8,.k,.int (idxP s.peers x.src)),(9,.k,.int t1)],[.box (.agg [.int s.router,.int s.epoch,.int s.last,.sl 4 (s.items.map Itm.v) false,.sl 3 (s.peers.map Per.v) false]),.box (.agg [.int x.kind,.int x.src,.int x.dst,.int x.epoch,.int x.ver,.int x.prev,.int x.pep,.int x.grp,.int x.mode,.sl 1 (x.srcs.map AV.int) false]),.box (.agg [.int 0,.int 0,.int 0,.sl 0 [] true,.sl 0 [] true])]⟩
def ackR_n2(s:Spk)(x:Sig)(t2:Bool):NF:=⟨[(2,.k,.ref 0 0),(3,.k,.ref 1 0),(4,.k,.ref 2 0),(8,.k,.int (idxP s.peers x.src)),(9,.k,.int 0),(53,.k,.bool t2)],[.box (.agg [.int s.router,.int s.epoch,.int s.last,.sl 4 (s.items.map Itm.v) false,.sl 3 (s.peers.map Per.v) false]),.box (.agg [.int x.kind,.int x.src,.int x.dst,.int x.epoch,.int x.ver,.int x.prev,.int x.pep,.int x.grp,.int x.mode,.sl 1 (x.srcs.map AV.int) false]),.box (.agg [.int 0,.int 0,.int 0,.sl 0 [] true,.sl 0 [] true])]⟩
@[reducible] def ackR_s:Nat→Type
 | 0=>Bool
 | 1=>Int
 | 2=>Bool
 | _=>Unit
def ackR_e(r:Spk×Int):AV:=.tup [Spk.v r.1,.int r.2]
def ackR_x(s:Spk)(x:Sig)(I0:Bool→Prop)(I1:Bool→Int→Prop)(I2:Bool→Bool→Prop):Ax Tryz.prog ackR_s (Spk×Int):=
 (.callP (valR6_c s)
(.br 144 ((valS s) != 0) (.ret ((⟨0,0,0,[],[]⟩:Spk),valS s))
(.callP (sigVR_c x)
(.br 224 ((sigErr x) != 0) (.ret ((⟨0,0,0,[],[]⟩:Spk),sigErr x))
(.pass (.join 0 (ackR_n0 s x) (fun (t0:Bool)=>I0 t0) (fun b0=>(.br 288 (x.kind != 3) (.bk 0 b0 ((true):Bool) [0,16,32])
(.bk 0 b0 ((x.dst != s.router):Bool) [0,16,32]))) fun (t0:Bool) =>
(.br 3 t0 (.ret ((⟨0,0,0,[],[]⟩:Spk),1))
(.callP (peerR_c s x.src)
(.br 115 (decide ((idxP s.peers x.src)<0)) (.ret ((⟨0,0,0,[],[]⟩:Spk),4))
(.pass (.join 1 (ackR_n1 s x) (fun (t1:Int)=>I1 t0 t1) (fun b1=>(.join 2 (ackR_n2 s x) (fun (t2:Bool)=>I2 t0 t2) (fun b2=>(.br 227 (x.epoch==s.epoch) (.bk 2 b2 ((decide (x.ver≤s.last)):Bool) [0,1,2])
(.bk 2 b2 ((false):Bool) [0,1,2]))) fun (t2:Bool) =>
(.br 3 t2 (.bk 1 b1 ((x.ver):Int) [0,1,2])
(.bk 1 b1 ((0):Int) [0,1,2])))) fun (t1:Int) =>
(.say (fun R=>Rf (α:=List AV) [] (Rf (α:=List AV) (s.peers.map Per.v)
(ck (decide (0+s.peers.length≤1000000))
R))) (.app 99 Per.v [] s.peers
(.say (ck (cond (decide (0≤(idxP s.peers x.src))) (decide ((idxP s.peers x.src)<((s.peers.map Per.v).length:Int))) false)) (.el 307 Per.v s.peers (fun R=>Rf (s.peers.map Per.v) (ck (decide ((idxP s.peers x.src).toNat<s.peers.length))
(∀x1,s.peers[(idxP s.peers x.src).toNat]?=some x1 →
(R x1)))) fun x1 =>
(.br 355 (decide (x1.epoch<x.pep)) (.st 467 Per.v s.peers (fun y2=>(⟨y2.router,x.pep,y2.acked⟩:Per)) (fun R=>Rf (s.peers.map Per.v) (ck (decide ((idxP s.peers x.src).toNat<s.peers.length))
(∀y2,s.peers[(idxP s.peers x.src).toNat]?=some y2→Rf (Per.v (⟨y2.router,x.pep,y2.acked⟩:Per))
((R y2))))) fun y2 =>
(.st 515 Per.v (s.peers.set ((idxP s.peers x.src).toNat) (⟨y2.router,x.pep,y2.acked⟩:Per)) (fun y3=>(⟨y3.router,y3.epoch,t1⟩:Per)) (fun R=>Rf ((s.peers.set ((idxP s.peers x.src).toNat) (⟨y2.router,x.pep,y2.acked⟩:Per)).map Per.v) (ck (decide ((idxP s.peers x.src).toNat<(s.peers.set ((idxP s.peers x.src).toNat) (⟨y2.router,x.pep,y2.acked⟩:Per)).length))
(∀y3,(s.peers.set ((idxP s.peers x.src).toNat) (⟨y2.router,x.pep,y2.acked⟩:Per))[(idxP s.peers x.src).toNat]?=some y3→Rf (Per.v (⟨y3.router,y3.epoch,t1⟩:Per))
((R y3))))) fun y3 =>
(.say (Rf (((s.peers.set ((idxP s.peers x.src).toNat) (⟨y2.router,x.pep,y2.acked⟩:Per)).set ((idxP s.peers x.src).toNat) (⟨y3.router,y3.epoch,t1⟩:Per)).map Per.v)) (.cmdL (.frzE 99 (((s.peers.set ((idxP s.peers x.src).toNat) (⟨y2.router,x.pep,y2.acked⟩:Per)).set ((idxP s.peers x.src).toNat) (⟨y3.router,y3.epoch,t1⟩:Per)).map Per.v) (pureBL_map (fun _=>rfl) ((s.peers.set ((idxP s.peers x.src).toNat) (⟨y2.router,x.pep,y2.acked⟩:Per)).set ((idxP s.peers x.src).toNat) (⟨y3.router,y3.epoch,t1⟩:Per)))) (.ret ((⟨s.router,s.epoch,s.last,s.items,(s.peers.set ((idxP s.peers x.src).toNat) (⟨y2.router,x.pep,y2.acked⟩:Per)).set ((idxP s.peers x.src).toNat) (⟨y3.router,y3.epoch,t1⟩:Per)⟩:Spk),0))))))
(.el 435 Per.v s.peers (fun R=>Rf (s.peers.map Per.v) (ck (decide ((idxP s.peers x.src).toNat<s.peers.length))
(∀x4,s.peers[(idxP s.peers x.src).toNat]?=some x4 →
(R x4)))) fun x4 =>
(.br 483 (x.pep==x4.epoch) (.el 547 Per.v s.peers (fun R=>Rf (s.peers.map Per.v) (ck (decide ((idxP s.peers x.src).toNat<s.peers.length))
(∀x5,s.peers[(idxP s.peers x.src).toNat]?=some x5 →
(R x5)))) fun x5 =>
(.st 627 Per.v s.peers (fun y6=>(⟨y6.router,y6.epoch,maxI x5.acked t1⟩:Per)) (fun R=>Rf (s.peers.map Per.v) (ck (decide ((idxP s.peers x.src).toNat<s.peers.length))
(∀y6,s.peers[(idxP s.peers x.src).toNat]?=some y6→Rf (Per.v (⟨y6.router,y6.epoch,maxI x5.acked t1⟩:Per))
((R y6))))) fun y6 =>
(.say (Rf ((s.peers.set ((idxP s.peers x.src).toNat) (⟨y6.router,y6.epoch,maxI x5.acked t1⟩:Per)).map Per.v)) (.cmdL (.frzE 99 ((s.peers.set ((idxP s.peers x.src).toNat) (⟨y6.router,y6.epoch,maxI x5.acked t1⟩:Per)).map Per.v) (pureBL_map (fun _=>rfl) (s.peers.set ((idxP s.peers x.src).toNat) (⟨y6.router,y6.epoch,maxI x5.acked t1⟩:Per)))) (.ret ((⟨s.router,s.epoch,s.last,s.items,s.peers.set ((idxP s.peers x.src).toNat) (⟨y6.router,y6.epoch,maxI x5.acked t1⟩:Per)⟩:Spk),0))))))
(.say (Rf (s.peers.map Per.v)) (.cmdL (.frzE 99 (s.peers.map Per.v) (pureBL_map (fun _=>rfl) s.peers)) (.ret (s,0))))))))))))))))))))))
def ackR_vc(s:Spk)(x:Sig)(I0:Bool→Prop)(I1:Bool→Int→Prop)(I2:Bool→Bool→Prop)(r0:Spk×Int):Prop:=(ackR_x s x I0 I1 I2).vp ackR_e r0
theorem ackR_p(s:Spk)(x:Sig)(ok:ackR_a s x):∃I0 I1 I2,ackR_vc s x I0 I1 I2 (ack s x):=by
 refine ⟨fun b=>b=decide (x.kind≠3∨x.dst≠s.router),fun b v=>v=ackV s x,fun b c=>c=decide (x.epoch=s.epoch∧x.ver≤s.last),?_⟩
 dsimp only [ackR_vc,ackR_x,ackR_s,Ax.vp,Ax.vc];simp only [vcU,rfU,List.length_map]
 have hv:valS s=if spkOk s then 0 else 1:=rfl
 rw [hv]
 unfold ack
 by_cases hs:spkOk s
 case neg=>rw [if_neg hs,if_pos hs];simp [spk0]
 rw [if_pos hs,if_neg (not_not_intro hs),idxP_asc hs.2.2.2.2.2.2]
 refine ⟨fun e=>by simp at e,fun _=>⟨fun e=>?_,fun e=>⟨⟨fun k=>?_,fun k=>?_⟩,fun b hb=>⟨fun c=>?_,fun c=>?_⟩⟩⟩⟩
 ·rw [if_pos (by simpa using e)];rfl
 ·exact (decide_eq_true (.inl (by simpa using k))).symm
 ·have k:x.kind=3:=by simpa using k
  by_cases q:x.dst=s.router<;>simp [q,k]
 ·subst hb
  have e0:¬sigErr x≠0:=by simpa using e
  rw [if_neg e0,if_pos (by simpa using c)];rfl
 ·subst hb
  have c:¬(x.kind≠3∨x.dst≠s.router):=by simpa using c
  have e0:¬sigErr x≠0:=by simpa using e
  rw [if_neg e0,if_neg c]
  by_cases hit:hitP s.peers x.src
  case neg =>
   rw [if_neg hit,if_pos hit]
   exact ⟨fun _=>rfl,fun q=>by omega⟩
  rw [if_pos hit,if_neg (not_not_intro hit),Int.toNat_natCast]
  have hp:=hit.1
  have hpl:=hs.2.2.2.2.1
  refine ⟨fun q=>by omega,fun _=>⟨⟨⟨fun k=>?_,fun k=>?_⟩,fun b2 hb2=>⟨fun q=>?_,fun q=>?_⟩⟩,?_⟩⟩
  ·have k:x.epoch=s.epoch:=by simpa using k
   simp [k]
  ·have k:¬x.epoch=s.epoch:=by simpa using k
   simp [k]
  ·subst hb2
   unfold ackV;rw [if_pos (by simpa using q)]
  ·subst hb2
   unfold ackV;rw [if_neg (by simpa using q)]
  ·rintro _ rfl
   have hat:∀y,s.peers[posP s.peers x.src]?=some y→s.peers.getD (posP s.peers x.src) ⟨0,0,0⟩=y:=fun y hy=>by rw [List.getD_eq_getElem?_getD,hy];rfl
   refine ⟨by omega,by rw [decide_eq_true (by omega),decide_eq_true (by omega)];rfl,hp,fun y hy=>⟨fun q=>⟨hp,fun y2 hy2=>⟨by simpa using hp,fun y3 hy3=>?_⟩⟩,fun q=>⟨hp,fun y4 hy4=>⟨fun q2=>⟨hp,fun y5 hy5=>⟨hp,fun y6 hy6=>?_⟩⟩,fun q2=>?_⟩⟩⟩⟩
   ·rw [hy] at hy2;cases hy2
    rw [List.getElem?_set_self hp] at hy3
    cases hy3
    rw [hat _ hy,List.set_set]
    unfold ackP
    rw [if_pos q]
   ·rw [hy] at hy4 hy5 hy6;cases hy4;cases hy5;cases hy6
    rw [hat _ hy]
    unfold ackP
    rw [if_neg q,if_pos (by simpa using q2)]
   ·rw [hy] at hy4;cases hy4
    rw [hat _ hy]
    unfold ackP
    rw [if_neg q,if_neg (by simpa using q2)]
    have:s.peers.set (posP s.peers x.src) y=s.peers:=by
     refine List.ext_getElem (by simp) fun j h1 h2=>?_
     rw [List.getElem_set]
     split
     ·rename_i e';subst e'
      exact ((List.getElem?_eq_some_iff.mp hy).2).symm
     ·rfl
    rw [this]
def ackR_c(s:Spk)(x:Sig):PC Tryz.prog:=⟨65,[(.a [.k,.k,.k,(.s 4),(.s 3)]),(.a [.k,.k,.k,.k,.k,.k,.k,.k,.k,(.s 1)])],[.agg [.int s.router,.int s.epoch,.int s.last,.sl 4 (s.items.map Itm.v) false,.sl 3 (s.peers.map Per.v) false],.agg [.int x.kind,.int x.src,.int x.dst,.int x.epoch,.int x.ver,.int x.prev,.int x.pep,.int x.grp,.int x.mode,.sl 1 (x.srcs.map AV.int) false]],ackR_e (ack s x),PSpec.of_ok fun ok=>(ackR_p s x ok).elim fun I0 h=>h.elim fun I1 h=>h.elim fun I2 h=>mxP_of (sh:=(.a [(.a [.k,.k,.k,(.s 4),(.s 3)]),.k])) (enc:=ackR_e) (a:=(ackR_x s x I0 I1 I2).an) h (by kernel_rfl) (AV.pureB_ok rfl),fnB_ok (by kernel_rfl)⟩
def bld(l:List Hrd)(r:Int)(h:Hrd)(k:Nat):List Hrd:=l.take (min k (posH l r))++((if posH l r<k then [h] else [])++((l.take k).drop (posH l r)).filter fun y=>decide (y.router≠r))
theorem bld_succ{l:List Hrd}{r:Int}{h x:Hrd}{k:Nat}(ho:l.Pairwise fun x y=>x.router<y.router)(hx:l[k]?=some x) :
  (posH l r=k↔¬posH l r<k∧r≤x.router)∧bld l r h (k+1)=bld l r h k++((if posH l r=k then [h] else [])++if x.router≠r then [x] else []):=by
 obtain ⟨hk,hxk⟩:=List.getElem?_eq_some_iff.mp hx
 have hlt:k<posH l r→x.router<r:=fun q=>by have:=posK_lt (key:=Hrd.router) (l:=l) (r:=r) q hk;rw [hxk] at this;exact this
 have hge:posH l r≤k→r≤x.router:=fun q=>by have:=posK_ge (key:=Hrd.router) (r:=r) ho hk q;rw [hxk] at this;exact this
 refine ⟨⟨fun e=>⟨by omega,hge (by omega)⟩,fun ⟨e1,e2⟩=>?_⟩,?_⟩
 ·rcases Nat.lt_or_ge k (posH l r) with q|q
  ·have:=hlt q;omega
  ·omega
 unfold bld
 rw [take_succ hx]
 rcases Nat.lt_trichotomy k (posH l r) with q|q|q
 ·have h1:=hlt q
  rw [if_neg (by omega),if_neg (by omega),if_neg (by omega),if_pos (by omega),Nat.min_eq_left (by omega),Nat.min_eq_left (by omega)]
  rw [List.drop_eq_nil_of_le (by simp;omega),List.drop_eq_nil_of_le (by simp;omega),take_succ hx]
  simp
 ·rw [if_pos (by omega),if_neg (by omega),if_pos q.symm,Nat.min_eq_right (by omega),Nat.min_eq_left (by omega),←q]
  rw [List.drop_append_of_le_length (by simp;omega),List.drop_eq_nil_of_le (by simp;omega)]
  by_cases e:x.router=r<;>simp [e]
 ·rw [if_pos (by omega),if_pos (by omega),if_neg (by omega),Nat.min_eq_right (by omega),Nat.min_eq_right (by omega)]
  rw [List.drop_append_of_le_length (by simp;omega),List.filter_append]
  by_cases e:x.router=r<;>simp [e]
theorem bld_len{l:List Hrd}{r:Int}{h:Hrd}{k:Nat}:(bld l r h k).length≤l.length+l.length+1:=by
 unfold bld
 have:=List.length_filter_le (fun y:Hrd=>decide (y.router≠r)) ((l.take k).drop (posH l r))
 simp only [List.length_append,List.length_take,List.length_drop] at *
 split<;>simp only [List.length_cons,List.length_nil]<;>omega
theorem bld_fin{l:List Hrd}{r:Int}{h:Hrd}(ho:l.Pairwise fun x y=>x.router<y.router)(hr:h.router=r):bld l r h l.length++(if posH l r<l.length then [] else [h])=(base l r).set (posH l r) h:=by
 have hp:posH l r≤l.length:=List.findIdx_le_length
 unfold bld
 rw [List.take_length,Nat.min_eq_right hp]
 by_cases hh:∃z∈l,z.router=r
 ·have hit:=(hitH_iff ho).mpr hh
  have hlt:=hit.1
  rw [if_pos hlt,if_pos hlt,base,if_pos hit,List.append_nil,List.set_eq_take_append_cons_drop,if_pos hlt]
  congr 1
  rw [List.drop_eq_getElem_cons hlt,List.filter_cons]
  have h2:(l[posH l r]'hlt).router=r:=by
   have:=hit.2
   rw [List.getD_eq_getElem?_getD,List.getElem?_eq_getElem hlt] at this
   exact this
  rw [if_neg (by simp [h2]),List.filter_eq_self.mpr]
  ·rfl
  ·intro y hy
   obtain ⟨i,hi,rfl⟩:=List.getElem_of_mem hy
   rw [List.getElem_drop]
   simp only [List.length_drop] at hi
   have:=List.pairwise_iff_getElem.mp ho (posH l r) (posH l r+1+i) hlt (by omega) (by omega)
   rw [h2] at this
   simp only [ne_eq,decide_not,Bool.not_eq_true',decide_eq_false_iff_not]
   omega
 ·have hn:¬hitH l r:=fun q=>hh ((hitH_iff ho).mp q)
  have hf:(l.drop (posH l r)).filter (fun y=>decide (y.router≠r))=l.drop (posH l r):=List.filter_eq_self.mpr fun y hy=>by
   have:=List.mem_of_mem_drop hy
   simpa using fun e=>hh ⟨y,this,e⟩
  have hb:base l r=l.take (posH l r)++⟨r,0,0,[]⟩::l.drop (posH l r):=by rw [base,if_neg hn,insAt_cons]
  have e:=(ins_setK (key:=Hrd.router) (z0:=⟨r,0,0,[]⟩) ho hh hr).1
  rw [hf,hb]
  refine Eq.trans ?_ e.symm
  show _=l.take (posH l r)++h::l.drop (posH l r)
  by_cases hlt:posH l r<l.length
  ·rw [if_pos hlt,if_pos hlt];simp
  ·rw [if_neg hlt,if_neg hlt,List.drop_eq_nil_of_le (by omega)];simp
theorem gOf_take{l:List Hrd}{r:Int}{x:Hrd}{k:Nat}(ho:l.Pairwise fun x y=>x.router<y.router)(hx:l[k]?=some x):gOf (l.take (k+1)) r=if x.router=r then x else gOf (l.take k) r:=by
 have o1:∀j,(l.take j).Pairwise fun x y=>x.router<y.router:=fun j=>ho.sublist (List.take_sublist _ _)
 have hm:x∈l.take (k+1):=by rw [take_succ hx];simp
 split
 ·rename_i e;subst e;exact gOf_mem (o1 _) hm
 ·rename_i e
  by_cases hh:∃z∈l.take k,z.router=r
  ·obtain ⟨z,hz,rfl⟩:=hh
   rw [gOf_mem (o1 _) hz,gOf_mem (o1 _) (by rw [take_succ hx];simp [hz])]
  ·rw [gOf_no (o1 _) hh,gOf_no (o1 _)]
   rintro ⟨z,hz,e2⟩
   rw [take_succ hx] at hz
   rcases List.mem_append.mp hz with hz|hz
   ·exact hh ⟨z,hz,e2⟩
   ·rw [List.mem_singleton] at hz;subst hz;exact e e2
def hearR_a(l:Lsn)(x:Sig):Prop:=okL [.agg [.int l.router,.int l.epoch,.sl 4 (l.heard.map Hrd.v) false],.agg [.int x.kind,.int x.src,.int x.dst,.int x.epoch,.int x.ver,.int x.prev,.int x.pep,.int x.grp,.int x.mode,.sl 1 (x.srcs.map AV.int) false]]
def hearR_n0(l:Lsn)(x:Sig)(t0:Bool):NF:=⟨[(2,.k,.ref 0 0),(3,.k,.ref 1 0),(4,.k,.ref 2 0),(5,.k,.ref 3 0),(39,.k,.bool t0)],[.box (.agg [.int l.router,.int l.epoch,.sl 4 (l.heard.map Hrd.v) false]),.box (.agg [.int x.kind,.int x.src,.int x.dst,.int x.epoch,.int x.ver,.int x.prev,.int x.pep,.int x.grp,.int x.mode,.sl 1 (x.srcs.map AV.int) false]),.box (.agg [.int 0,.int 0,.sl 0 [] true]),.box (.agg [.int 0,.int 0,.int 0,.int 0,.int 0,.int 0,.int 0,.int 0,.int 0,.sl 0 [] true])]⟩
def hearR_n1(l:Lsn)(x:Sig)(t1:Int×Hrd):NF:=⟨[(2,.k,.ref 0 0),(3,.k,.ref 1 0),(4,.k,.ref 2 0),(5,.k,.ref 3 0),(9,.k,.ref 4 0),(10,.k,.ref 5 0),(51,.k,.sl 4 (l.heard.map Hrd.v) false),(52,.k,.int ((l.heard.map Hrd.v).length:Int)),(53,.k,.int t1.1)],[.box (.agg [.int l.router,.int l.epoch,.sl 4 (l.heard.map Hrd.v) false]),.box (.agg [.int x.kind,.int x.src,.int x.dst,.int x.epoch,.int x.ver,.int x.prev,.int x.pep,.int x.grp,.int x.mode,.sl 1 (x.srcs.map AV.int) false]),.box (.agg [.int 0,.int 0,.sl 0 [] true]),.box (.agg [.int 0,.int 0,.int 0,.int 0,.int 0,.int 0,.int 0,.int 0,.int 0,.sl 0 [] true]),.box (.agg [.int l.router,.int l.epoch,.sl 0 [] true]),.box (.agg [.int t1.2.router,.int t1.2.epoch,.int t1.2.ver,.sl 4 (t1.2.items.map Itm.v) false])]⟩
def hearR_n2(l:Lsn)(x:Sig)(t1:Int×Hrd)(t2:Bool):NF:=⟨[(2,.k,.ref 0 0),(3,.k,.ref 1 0),(4,.k,.ref 2 0),(5,.k,.ref 3 0),(9,.k,.ref 4 0),(10,.k,.ref 5 0),(72,.k,.bool t2)],[.box (.agg [.int l.router,.int l.epoch,.sl 4 (l.heard.map Hrd.v) false]),.box (.agg [.int x.kind,.int x.src,.int x.dst,.int x.epoch,.int x.ver,.int x.prev,.int x.pep,.int x.grp,.int x.mode,.sl 1 (x.srcs.map AV.int) false]),.box (.agg [.int 0,.int 0,.sl 0 [] true]),.box (.agg [.int 0,.int 0,.int 0,.int 0,.int 0,.int 0,.int 0,.int 0,.int 0,.sl 0 [] true]),.box (.agg [.int l.router,.int l.epoch,.sl 0 [] true]),.box (.agg [.int t1.2.router,.int t1.2.epoch,.int t1.2.ver,.sl 4 (t1.2.items.map Itm.v) false])]⟩
def hearR_n3(l:Lsn)(x:Sig)(t3:Hrd):NF:=⟨[(2,.k,.ref 0 0),(3,.k,.ref 1 0),(4,.k,.ref 2 0),(5,.k,.ref 3 0),(9,.k,.ref 4 0),(10,.k,.ref 5 0)],[.box (.agg [.int l.router,.int l.epoch,.sl 4 (l.heard.map Hrd.v) false]),.box (.agg [.int x.kind,.int x.src,.int x.dst,.int x.epoch,.int x.ver,.int x.prev,.int x.pep,.int x.grp,.int x.mode,.sl 1 (x.srcs.map AV.int) false]),.box (.agg [.int 0,.int 0,.sl 0 [] true]),.box (.agg [.int 0,.int 0,.int 0,.int 0,.int 0,.int 0,.int 0,.int 0,.int 0,.sl 0 [] true]),.box (.agg [.int l.router,.int l.epoch,.sl 0 [] true]),.box (.agg [.int t3.router,.int t3.epoch,.int t3.ver,.sl 4 (t3.items.map Itm.v) false])]⟩
def hearR_n4(l:Lsn)(x:Sig)(t4:Hrd):NF:=⟨[(2,.k,.ref 0 0),(3,.k,.ref 1 0),(4,.k,.ref 2 0),(5,.k,.ref 3 0),(9,.k,.ref 4 0),(10,.k,.ref 5 0)],[.box (.agg [.int l.router,.int l.epoch,.sl 4 (l.heard.map Hrd.v) false]),.box (.agg [.int x.kind,.int x.src,.int x.dst,.int x.epoch,.int x.ver,.int x.prev,.int x.pep,.int x.grp,.int x.mode,.sl 1 (x.srcs.map AV.int) false]),.box (.agg [.int 0,.int 0,.sl 0 [] true]),.box (.agg [.int 0,.int 0,.int 0,.int 0,.int 0,.int 0,.int 0,.int 0,.int 0,.sl 0 [] true]),.box (.agg [.int l.router,.int l.epoch,.sl 0 [] true]),.box (.agg [.int t4.router,.int t4.epoch,.int t4.ver,.sl 4 (t4.items.map Itm.v) false])]⟩
def hearR_n5(l:Lsn)(x:Sig)(t3:Hrd)(t5:Bool):NF:=⟨[(2,.k,.ref 0 0),(3,.k,.ref 1 0),(4,.k,.ref 2 0),(5,.k,.ref 3 0),(9,.k,.ref 4 0),(10,.k,.ref 5 0),(108,.k,.bool t5)],[.box (.agg [.int l.router,.int l.epoch,.sl 4 (l.heard.map Hrd.v) false]),.box (.agg [.int x.kind,.int x.src,.int x.dst,.int x.epoch,.int x.ver,.int x.prev,.int x.pep,.int x.grp,.int x.mode,.sl 1 (x.srcs.map AV.int) false]),.box (.agg [.int 0,.int 0,.sl 0 [] true]),.box (.agg [.int 0,.int 0,.int 0,.int 0,.int 0,.int 0,.int 0,.int 0,.int 0,.sl 0 [] true]),.box (.agg [.int l.router,.int l.epoch,.sl 0 [] true]),.box (.agg [.int t3.router,.int t3.epoch,.int t3.ver,.sl 4 (t3.items.map Itm.v) false])]⟩
def hearR_n6(l:Lsn)(x:Sig)(t4:Hrd)(t6:Bool×Int×(List Hrd)):NF:=⟨[(2,.k,.ref 0 0),(3,.k,.ref 1 0),(4,.k,.ref 2 0),(5,.k,.ref 3 0),(9,.k,.ref 4 0),(10,.k,.ref 6 0),(13,.k,.bool t6.1),(124,.k,.sl 4 (l.heard.map Hrd.v) false),(125,.k,.int ((l.heard.map Hrd.v).length:Int)),(126,.k,.int t6.2.1)],[.box (.agg [.int l.router,.int l.epoch,.sl 4 (l.heard.map Hrd.v) false]),.box (.agg [.int x.kind,.int x.src,.int x.dst,.int x.epoch,.int x.ver,.int x.prev,.int x.pep,.int x.grp,.int x.mode,.sl 1 (x.srcs.map AV.int) false]),.box (.agg [.int 0,.int 0,.sl 0 [] true]),.box (.agg [.int 0,.int 0,.int 0,.int 0,.int 0,.int 0,.int 0,.int 0,.int 0,.sl 0 [] true]),.box (.agg [.int l.router,.int l.epoch,.vec 5]),.vec 4 (t6.2.2.map Hrd.v) (pureBL_map (fun _=>rfl) t6.2.2),.box (.agg [.int t4.router,.int t4.epoch,.int t4.ver,.sl 4 (t4.items.map Itm.v) false])]⟩
def hearR_n7(l:Lsn)(x:Sig)(t4:Hrd)(t6:Bool×Int×(List Hrd))(x3:Hrd)(t7:Bool×(List Hrd)):NF:=⟨[(2,.k,.ref 0 0),(3,.k,.ref 1 0),(4,.k,.ref 2 0),(5,.k,.ref 3 0),(9,.k,.ref 4 0),(10,.k,.ref 6 0),(13,.k,.bool t7.1),(15,.k,.ref 7 0),(124,.k,.sl 4 (l.heard.map Hrd.v) false),(125,.k,.int ((l.heard.map Hrd.v).length:Int)),(126,.k,.int t6.2.1)],[.box (.agg [.int l.router,.int l.epoch,.sl 4 (l.heard.map Hrd.v) false]),.box (.agg [.int x.kind,.int x.src,.int x.dst,.int x.epoch,.int x.ver,.int x.prev,.int x.pep,.int x.grp,.int x.mode,.sl 1 (x.srcs.map AV.int) false]),.box (.agg [.int 0,.int 0,.sl 0 [] true]),.box (.agg [.int 0,.int 0,.int 0,.int 0,.int 0,.int 0,.int 0,.int 0,.int 0,.sl 0 [] true]),.box (.agg [.int l.router,.int l.epoch,.vec 5]),.vec 4 (t7.2.map Hrd.v) (pureBL_map (fun _=>rfl) t7.2),.box (.agg [.int t4.router,.int t4.epoch,.int t4.ver,.sl 4 (t4.items.map Itm.v) false]),.box (.agg [.int x3.router,.int x3.epoch,.int x3.ver,.sl 4 (x3.items.map Itm.v) false])]⟩
def hearR_n8(l:Lsn)(x:Sig)(t4:Hrd)(t6:Bool×Int×(List Hrd))(x3:Hrd)(t8:Bool):NF:=⟨[(2,.k,.ref 0 0),(3,.k,.ref 1 0),(4,.k,.ref 2 0),(5,.k,.ref 3 0),(9,.k,.ref 4 0),(10,.k,.ref 6 0),(13,.k,.bool t6.1),(15,.k,.ref 7 0),(124,.k,.sl 4 (l.heard.map Hrd.v) false),(125,.k,.int ((l.heard.map Hrd.v).length:Int)),(126,.k,.int t6.2.1),(138,.k,.bool t8)],[.box (.agg [.int l.router,.int l.epoch,.sl 4 (l.heard.map Hrd.v) false]),.box (.agg [.int x.kind,.int x.src,.int x.dst,.int x.epoch,.int x.ver,.int x.prev,.int x.pep,.int x.grp,.int x.mode,.sl 1 (x.srcs.map AV.int) false]),.box (.agg [.int 0,.int 0,.sl 0 [] true]),.box (.agg [.int 0,.int 0,.int 0,.int 0,.int 0,.int 0,.int 0,.int 0,.int 0,.sl 0 [] true]),.box (.agg [.int l.router,.int l.epoch,.vec 5]),.vec 4 (t6.2.2.map Hrd.v) (pureBL_map (fun _=>rfl) t6.2.2),.box (.agg [.int t4.router,.int t4.epoch,.int t4.ver,.sl 4 (t4.items.map Itm.v) false]),.box (.agg [.int x3.router,.int x3.epoch,.int x3.ver,.sl 4 (x3.items.map Itm.v) false])]⟩
def hearR_n9(l:Lsn)(x:Sig)(t4:Hrd)(t9:(List Hrd)):NF:=⟨[(2,.k,.ref 0 0),(3,.k,.ref 1 0),(4,.k,.ref 2 0),(5,.k,.ref 3 0),(9,.k,.ref 4 0),(10,.k,.ref 6 0)],[.box (.agg [.int l.router,.int l.epoch,.sl 4 (l.heard.map Hrd.v) false]),.box (.agg [.int x.kind,.int x.src,.int x.dst,.int x.epoch,.int x.ver,.int x.prev,.int x.pep,.int x.grp,.int x.mode,.sl 1 (x.srcs.map AV.int) false]),.box (.agg [.int 0,.int 0,.sl 0 [] true]),.box (.agg [.int 0,.int 0,.int 0,.int 0,.int 0,.int 0,.int 0,.int 0,.int 0,.sl 0 [] true]),.box (.agg [.int l.router,.int l.epoch,.vec 5]),.vec 4 (t9.map Hrd.v) (pureBL_map (fun _=>rfl) t9),.box (.agg [.int t4.router,.int t4.epoch,.int t4.ver,.sl 4 (t4.items.map Itm.v) false])]⟩
@[reducible] def hearR_s:Nat→Type
 | 0=>Bool
 | 1=>Int×Hrd
 | 2=>Bool
 | 3=>Hrd
 | 4=>Hrd
 | 5=>Bool
 | 6=>Bool×Int×(List Hrd)
 | 7=>Bool×(List Hrd)
 | 8=>Bool
 | 9=>(List Hrd)
 | _=>Unit
def hearR_e(r:Lsn×Sig×Int):AV:=.tup [Lsn.v r.1,Sig.v r.2.1,.int r.2.2]
def hearR_x(l:Lsn)(x:Sig)(I0:Bool→Prop)(I1:Bool→(Int×Hrd)→Prop)(m1:Bool→(Int×Hrd)→Nat)(I2:Bool→Int×Hrd→Bool→Prop)(I3:Bool→Int×Hrd→Bool→Hrd→Prop)(I4:Bool→Int×Hrd→Bool→Hrd→Hrd→Prop)(I5:Bool→Int×Hrd→Bool→Hrd→Bool→Prop)(I6:Bool→Int×Hrd→Bool→Hrd→Hrd→(Bool×Int×(List Hrd))→Prop)(m6:Bool→Int×Hrd→Bool→Hrd→Hrd→(Bool×Int×(List Hrd))→Nat)(I7:Bool→Int×Hrd→Bool→Hrd→Hrd→Bool×Int×(List Hrd)→Hrd→(Bool×(List Hrd))→Prop)(I8:Bool→Int×Hrd→Bool→Hrd→Hrd→Bool×Int×(List Hrd)→Hrd→Bool→Prop)(I9:Bool→Int×Hrd→Bool→Hrd→Hrd→Bool×Int×(List Hrd)→(List Hrd)→Prop):Ax Tryz.prog hearR_s (Lsn×Sig×Int):=
 (.callP (valLR_c l)
(.br 160 ((valL l) != 0) (.ret ((⟨0,0,[]⟩:Lsn),(⟨0,0,0,0,0,0,0,0,0,[]⟩:Sig),valL l))
(.callP (sigVR_c x)
(.br 240 ((sigErr x) != 0) (.ret ((⟨0,0,[]⟩:Lsn),(⟨0,0,0,0,0,0,0,0,0,[]⟩:Sig),sigErr x))
(.pass (.join 0 (hearR_n0 l x) (fun (t0:Bool)=>I0 t0) (fun b0=>(.br 304 (x.kind==3) (.bk 0 b0 ((true):Bool) [0,16,32,48])
(.bk 0 b0 ((x.dst != l.router):Bool) [0,16,32,48]))) fun (t0:Bool) =>
(.br 4 t0 (.ret ((⟨0,0,[]⟩:Lsn),(⟨0,0,0,0,0,0,0,0,0,[]⟩:Sig),1))
(.cmdL (.wkB 164 (.a [.k,.k,.k,.s 4])) (.loop 1 (hearR_n1 l x) (I1 t0) (m1 t0) (0,(⟨x.src,0,0,[]⟩:Hrd)) [0,1,2,3,84,164] fun (t1:Int×Hrd) b1 =>
(.br 22 (decide (t1.1<((l.heard.map Hrd.v).length:Int))) (.el 22 Hrd.v l.heard (fun R=>Rf (l.heard.map Hrd.v) (ck (decide (0≤t1.1)) (ck (decide (t1.1<(l.heard.length:Int)))
(∀x1,l.heard[t1.1.toNat]?=some x1 →
(R x1))))) fun x1 =>
(.br 166 (x1.router==x.src) (.bk 1 b1 (W (t1.1+1),x1) [0,1,2,3,4,5])
(.bk 1 b1 (W (t1.1+1),t1.2) [0,1,2,3,4,5])))
(.pass (.join 2 (hearR_n2 l x t1) (fun (t2:Bool)=>I2 t0 t1 t2) (fun b2=>(.br 86 (t1.2.epoch==0) (.bk 2 b2 ((decide (12≤((l.heard.map Hrd.v).length:Int))):Bool) [0,1,2,3,4,5])
(.bk 2 b2 ((false):Bool) [0,1,2,3,4,5]))) fun (t2:Bool) =>
(.br 6 t2 (.ret ((⟨0,0,[]⟩:Lsn),(⟨0,0,0,0,0,0,0,0,0,[]⟩:Sig),3))
(.join 3 (hearR_n3 l x) (fun (t3:Hrd)=>I3 t0 t1 t2 t3) (fun b3=>(.br 86 (decide (t1.2.epoch<x.epoch)) (.cmdL (.wkB 5 (.a [.k,.k,.k,.s 4])) (.bk 3 b3 (((⟨x.src,x.epoch,0,[]⟩:Hrd)):Hrd) [0,1,2,3,4,5]))
(.bk 3 b3 ((t1.2):Hrd) [0,1,2,3,4,5]))) fun (t3:Hrd) =>
(.join 4 (hearR_n4 l x) (fun (t4:Hrd)=>I4 t0 t1 t2 t3 t4) (fun b4=>(.join 5 (hearR_n5 l x t3) (fun (t5:Bool)=>I5 t0 t1 t2 t3 t5) (fun b5=>(.br 70 (x.kind==2) (.br 182 (x.epoch==t3.epoch) (.br 294 (decide (x.prev≤t3.ver)) (.bk 5 b5 ((decide (t3.ver<x.ver)):Bool) [0,1,2,3,4,5])
(.bk 5 b5 ((false):Bool) [0,1,2,3,4,5]))
(.bk 5 b5 ((false):Bool) [0,1,2,3,4,5]))
(.bk 5 b5 ((false):Bool) [0,1,2,3,4,5]))) fun (t5:Bool) =>
(.br 6 t5 (.req 150 (t3.items.length≤999999) fun h2 =>
(.callP (putR_c t3.items (⟨x.ver,x.grp,x.mode,x.srcs⟩:Itm) h2)
(.bk 4 b4 (((⟨t3.router,t3.epoch,x.ver,put1 t3.items (⟨x.ver,x.grp,x.mode,x.srcs⟩:Itm)⟩:Hrd)):Hrd) [0,1,2,3,4,5])))
(.bk 4 b4 ((t3):Hrd) [0,1,2,3,4,5])))) fun (t4:Hrd) =>
(.cmdL (.nilB 4 2 4) (.loop 6 (hearR_n6 l x t4) (I6 t0 t1 t2 t3 t4) (m6 t0 t1 t2 t3 t4) (false,0,[]) [0,1,2,3,4,86,5] fun (t6:Bool×Int×(List Hrd)) b6 =>
(.br 23 (decide (t6.2.1<((l.heard.map Hrd.v).length:Int))) (.el 23 Hrd.v l.heard (fun R=>Rf (l.heard.map Hrd.v) (ck (decide (0≤t6.2.1)) (ck (decide (t6.2.1<(l.heard.length:Int)))
(∀x3,l.heard[t6.2.1.toNat]?=some x3 →
(R x3))))) fun x3 =>
(.join 7 (hearR_n7 l x t4 t6 x3) (fun (t7:Bool×(List Hrd))=>I7 t0 t1 t2 t3 t4 t6 x3 t7) (fun b7=>(.join 8 (hearR_n8 l x t4 t6 x3) (fun (t8:Bool)=>I8 t0 t1 t2 t3 t4 t6 x3 t8) (fun b8=>(.br 135 (!t6.1) (.bk 8 b8 ((decide (x.src≤x3.router)):Bool) [0,1,2,3,4,5,6,55])
(.bk 8 b8 ((false):Bool) [0,1,2,3,4,5,6,55]))) fun (t8:Bool) =>
(.br 8 t8 (.say (fun R=>Rf (α:=List AV) (t6.2.2.map Hrd.v) (Rf (α:=List AV) [.agg [.int t4.router,.int t4.epoch,.int t4.ver,.sl 4 (t4.items.map Itm.v) false]]
(ck (decide (t6.2.2.length+1≤1000000))
R))) (.app 72 Hrd.v t6.2.2 [t4]
(.bk 7 b7 (true,t6.2.2++[t4]) [0,1,2,3,4,72,6,7])))
(.bk 7 b7 (t6.1,t6.2.2) [0,1,2,3,4,5,6,7])))) fun (t7:Bool×(List Hrd)) =>
(.br 88 (x3.router != x.src) (.say (fun R=>Rf (α:=List AV) (t7.2.map Hrd.v) (Rf (α:=List AV) [.agg [.int x3.router,.int x3.epoch,.int x3.ver,.sl 4 (x3.items.map Itm.v) false]]
(ck (decide (t7.2.length+1≤1000000))
R))) (.app 152 Hrd.v t7.2 [x3]
(.bk 6 b6 (t7.1,W (t6.2.1+1),t7.2++[x3]) [0,1,2,3,4,152,6])))
(.bk 6 b6 (t7.1,W (t6.2.1+1),t7.2) [0,1,2,3,4,5,6]))))
(.join 9 (hearR_n9 l x t4) (fun (t9:(List Hrd))=>I9 t0 t1 t2 t3 t4 t6 t9) (fun b9=>(.br 55 (!t6.1) (.say (fun R=>Rf (α:=List AV) (t6.2.2.map Hrd.v) (Rf (α:=List AV) [.agg [.int t4.router,.int t4.epoch,.int t4.ver,.sl 4 (t4.items.map Itm.v) false]]
(ck (decide (t6.2.2.length+1≤1000000))
R))) (.app 119 Hrd.v t6.2.2 [t4]
(.bk 9 b9 ((t6.2.2++[t4]):(List Hrd)) [0,1,2,3,4,119,6])))
(.bk 9 b9 ((t6.2.2):(List Hrd)) [0,1,2,3,4,5,6]))) fun (t9:(List Hrd)) =>
(.say (Rf (t9.map Hrd.v)) (.cmdL (.frzE 5 (t9.map Hrd.v) (pureBL_map (fun _=>rfl) t9)) (.ret ((⟨l.router,l.epoch,t9⟩:Lsn),(⟨3,l.router,x.src,t4.epoch,t4.ver,0,l.epoch,0,0,[]⟩:Sig),0)))))))))))))))))))))))
def hearR_vc(l:Lsn)(x:Sig)(I0:Bool→Prop)(I1:Bool→(Int×Hrd)→Prop)(m1:Bool→(Int×Hrd)→Nat)(I2:Bool→Int×Hrd→Bool→Prop)(I3:Bool→Int×Hrd→Bool→Hrd→Prop)(I4:Bool→Int×Hrd→Bool→Hrd→Hrd→Prop)(I5:Bool→Int×Hrd→Bool→Hrd→Bool→Prop)(I6:Bool→Int×Hrd→Bool→Hrd→Hrd→(Bool×Int×(List Hrd))→Prop)(m6:Bool→Int×Hrd→Bool→Hrd→Hrd→(Bool×Int×(List Hrd))→Nat)(I7:Bool→Int×Hrd→Bool→Hrd→Hrd→Bool×Int×(List Hrd)→Hrd→(Bool×(List Hrd))→Prop)(I8:Bool→Int×Hrd→Bool→Hrd→Hrd→Bool×Int×(List Hrd)→Hrd→Bool→Prop)(I9:Bool→Int×Hrd→Bool→Hrd→Hrd→Bool×Int×(List Hrd)→(List Hrd)→Prop)(r0:Lsn×Sig×Int):Prop:=(hearR_x l x I0 I1 m1 I2 I3 I4 I5 I6 m6 I7 I8 I9).vp hearR_e r0
theorem hearR_p(l:Lsn)(x:Sig)(ok:hearR_a l x):∃I0 I1 m1 I2 I3 I4 I5 I6 m6 I7 I8 I9,hearR_vc l x I0 I1 m1 I2 I3 I4 I5 I6 m6 I7 I8 I9 ((hear l x).1.1,(hear l x).1.2,(hear l x).2):=by
 refine ⟨fun b=>b=decide (x.kind=3∨x.dst≠l.router),fun b t=>∃k:Nat,t.1=k∧k≤l.heard.length∧t.2=gOf (l.heard.take k) x.src,fun b t=>l.heard.length-t.1.toNat,
  fun b t c=>c=decide (t.2.epoch=0∧12≤l.heard.length),fun b t c h=>h=hear0 t.2 x,fun b t c h h'=>h'=hear1 h x,fun b t c h d=>d=decide (x.kind=2∧x.epoch=h.epoch∧x.prev≤h.ver∧h.ver<x.ver),
  fun b t c h h' u=>∃k:Nat,u.2.1=k∧k≤l.heard.length∧u.1=decide (posH l.heard x.src<k)∧u.2.2=bld l.heard x.src h' k,fun b t c h h' u=>l.heard.length-u.2.1.toNat,
  fun b t c h h' u y w=>w=(decide (posH l.heard x.src<u.2.1.toNat+1),bld l.heard x.src h' u.2.1.toNat++if posH l.heard x.src=u.2.1.toNat then [h'] else []),fun b t c h h' u y d=>d=decide (posH l.heard x.src=u.2.1.toNat),
  fun b t c h h' u w=>w=bld l.heard x.src h' l.heard.length++if posH l.heard x.src<l.heard.length then [] else [h'],?_⟩
 dsimp only [hearR_vc,hearR_x,hearR_s,Ax.vp,Ax.vc];simp only [vcU,rfU,List.length_map]
 have hv:valL l=if lsnOk l then 0 else 1:=rfl
 rw [hv]
 unfold hear
 by_cases hs:lsnOk l
 case neg=>rw [if_neg hs,if_pos hs];simp [lsn0,sig0]
 have ho:=hs.2.2.2.2
 have hl:=hs.2.2.1
 rw [if_pos hs,if_neg (not_not_intro hs)]
 refine ⟨fun e=>by simp at e,fun _=>⟨fun e=>?_,fun e=>⟨⟨fun k=>?_,fun k=>?_⟩,fun b hb=>⟨fun c=>?_,fun c=>⟨⟨0,rfl,by omega,(gOf_no List.Pairwise.nil (by simp)).symm⟩,?_⟩⟩⟩⟩⟩
 ·rw [if_pos (by simpa using e)];rfl
 ·exact (decide_eq_true (.inl (by simpa using k))).symm
 ·have k:¬x.kind=3:=by simpa using k
  by_cases q:x.dst=l.router<;>simp [q,k]
 ·subst hb
  rw [if_neg (by simpa using e),if_pos (by simpa using c)];rfl
 ·subst hb
  have c:¬(x.kind=3∨x.dst≠l.router):=by simpa using c
  rw [if_neg (by simpa using e),if_neg c]
  rintro ⟨_,_⟩ ⟨k,rfl,hk,rfl⟩
  simp only [Int.toNat_natCast]
  refine ⟨fun h1=>⟨by omega,by omega,fun y hy=>?_⟩,fun h1=>?_⟩
  ·rw [W_succ (n:=l.heard.length) (by omega) (by omega)]
   have:=gOf_take (r:=x.src) ho hy
   refine ⟨fun q=>⟨⟨k+1,rfl,by omega,?_⟩,by omega⟩,fun q=>⟨⟨k+1,rfl,by omega,?_⟩,by omega⟩⟩
   ·rw [this,if_pos (by simpa using q)]
   ·rw [this,if_neg (by simpa using q)]
  rw [List.take_of_length_le (by omega)]
  have hg:=gOf_router (r:=x.src) ho
  have hep:(gOf l.heard x.src).epoch=0↔¬hitH l.heard x.src:=by
   rw [hitH_iff ho]
   by_cases hh:∃z∈l.heard,z.router=x.src
   ·obtain ⟨z,hz,hzr⟩:=hh
    have:gOf l.heard x.src=z:=by rw [←hzr];exact gOf_mem ho hz
    rw [this]
    have:=(hs.2.2.2.1 z hz).2.2.1
    exact ⟨fun q=>by omega,fun q=>absurd ⟨z,hz,hzr⟩ q⟩
   ·rw [gOf_no ho hh];simp [hh]
  have hH:hearH l.heard x=hear1 (hear0 (gOf l.heard x.src) x) x:=rfl
  refine ⟨⟨fun q=>?_,fun q=>?_⟩,fun c2 hc2=>⟨fun q=>?_,fun q=>⟨⟨fun q2=>?_,fun q2=>?_⟩,?_⟩⟩⟩
  ·have q:(gOf l.heard x.src).epoch=0:=by simpa using q
   simp [q];omega
  ·have q:¬(gOf l.heard x.src).epoch=0:=by simpa using q
   simp [q]
  ·subst hc2
   have q:(gOf l.heard x.src).epoch=0∧12≤l.heard.length:=by simpa using q
   rw [if_pos ⟨hep.mp q.1,by omega⟩];rfl
  ·unfold hear0;rw [if_pos q2]
  ·unfold hear0;rw [if_neg q2]
  ·subst hc2
   have q:¬((gOf l.heard x.src).epoch=0∧12≤l.heard.length):=by simpa using q
   rw [if_neg fun z=>q ⟨hep.mpr z.1,by omega⟩]
   rintro _ rfl
   have hi:(hear0 (gOf l.heard x.src) x).items.length≤999999:=by
    unfold hear0
    split
    ·simp
    ·have:=itms_len (gOf_ok hs x.src).1;omega
   generalize hh0:hear0 (gOf l.heard x.src) x=h0 at *
   refine ⟨⟨⟨fun a1=>⟨fun a2=>⟨fun a3=>?_,fun a3=>?_⟩,fun a2=>?_⟩,fun a1=>?_⟩,fun d hd=>⟨fun a=>⟨hi,?_⟩,fun a=>?_⟩⟩,?_⟩
   ·have a1:x.kind=2:=by simpa using a1
    have a2:x.epoch=h0.epoch:=by simpa using a2
    exact decide_eq_decide.mpr ⟨fun z=>⟨a1,a2,a3,z⟩,fun z=>z.2.2.2⟩
   ·exact nodec fun z=>a3 z.2.2.1
   ·exact nodec fun z=>by simp [z.2.1] at a2
   ·exact nodec fun z=>by simp [z.1] at a1
   ·subst hd
    unfold hear1;rw [if_pos (by simpa using a)];rfl
   ·subst hd
    unfold hear1;rw [if_neg (by simpa using a)]
   ·rintro _ rfl
    have hr:(hear1 h0 x).router=x.src:=by
     have:=hearG_router (g:=gOf l.heard x.src) (x:=x) hg
     unfold hearG at this
     rw [hh0] at this;exact this
    generalize hh1:hear1 h0 x=h1' at *
    refine ⟨⟨0,rfl,by omega,by simp,by simp [bld]⟩,?_⟩
    rintro ⟨_,_,_⟩ ⟨j,rfl,hj,rfl,rfl⟩
    simp only [Int.toNat_natCast]
    have hbl:=bld_len (l:=l.heard) (r:=x.src) (h:=h1') (k:=j)
    refine ⟨fun b1=>⟨by omega,by omega,fun y hy=>⟨⟨⟨fun b2=>?_,fun b2=>?_⟩,fun d hd=>⟨fun b3=>⟨by omega,?_⟩,fun b3=>?_⟩⟩,?_⟩⟩,fun b1=>⟨⟨fun b2=>⟨by omega,?_⟩,fun b2=>?_⟩,?_⟩⟩
    ·obtain ⟨s1,s2⟩:=bld_succ (r:=x.src) (h:=h1') ho hy
     have b2:¬posH l.heard x.src<j:=by simpa using b2
     rw [decide_eq_decide,s1]
     exact ⟨fun z=>⟨b2,z⟩,fun z=>z.2⟩
    ·have b2:posH l.heard x.src<j:=by simpa using b2
     exact nodec (by omega)
    ·subst hd
     have b3:posH l.heard x.src=j:=by simpa using b3
     rw [if_pos b3,decide_eq_true (show posH l.heard x.src<j+1 by omega)]
    ·subst hd
     have b3:¬posH l.heard x.src=j:=by simpa using b3
     rw [if_neg b3,List.append_nil]
     congr 1
     exact decide_eq_decide.mpr (by omega)
    ·rintro _ rfl
     obtain ⟨s1,s2⟩:=bld_succ (r:=x.src) (h:=h1') ho hy
     rw [W_succ (n:=l.heard.length) (by omega) (by omega)]
     refine ⟨fun z=>⟨?_,⟨j+1,rfl,by omega,rfl,?_⟩,by omega⟩,fun z=>⟨⟨j+1,rfl,by omega,rfl,?_⟩,by omega⟩⟩
     ·have:(if posH l.heard x.src=j then [h1'] else []).length≤1:=by split<;>simp
      rw [List.length_append];omega
     ·rw [s2,if_pos (c:=y.router≠x.src) (by simpa using z),List.append_assoc]
     ·rw [s2,if_neg (c:=y.router≠x.src) (by simpa using z),List.append_nil]
    ·have b2:¬posH l.heard x.src<j:=by simpa using b2
     have:j=l.heard.length:=by omega
     subst this
     rw [if_neg b2]
    ·have b2:posH l.heard x.src<j:=by simpa using b2
     have:j=l.heard.length:=by omega
     subst this
     rw [if_pos b2,List.append_nil]
    ·rintro _ rfl
     rw [bld_fin ho hr,hH]
def hearR_c(l:Lsn)(x:Sig):PC Tryz.prog:=⟨66,[(.a [.k,.k,(.s 4)]),(.a [.k,.k,.k,.k,.k,.k,.k,.k,.k,(.s 1)])],[.agg [.int l.router,.int l.epoch,.sl 4 (l.heard.map Hrd.v) false],.agg [.int x.kind,.int x.src,.int x.dst,.int x.epoch,.int x.ver,.int x.prev,.int x.pep,.int x.grp,.int x.mode,.sl 1 (x.srcs.map AV.int) false]],hearR_e ((hear l x).1.1,(hear l x).1.2,(hear l x).2),PSpec.of_ok fun ok=>(hearR_p l x ok).elim fun I0 h=>h.elim fun I1 h=>h.elim fun m1 h=>h.elim fun I2 h=>h.elim fun I3 h=>h.elim fun I4 h=>h.elim fun I5 h=>h.elim fun I6 h=>h.elim fun m6 h=>h.elim fun I7 h=>h.elim fun I8 h=>h.elim fun I9 h=>mxP_of (sh:=(.a [(.a [.k,.k,(.s 4)]),(.a [.k,.k,.k,.k,.k,.k,.k,.k,.k,(.s 1)]),.k])) (enc:=hearR_e) (a:=(hearR_x l x I0 I1 m1 I2 I3 I4 I5 I6 m6 I7 I8 I9).an) h (by kernel_rfl) (AV.pureB_ok rfl),fnB_ok (by kernel_rfl)⟩
def cmpS(p:Spk)(r:Int):Int:=cmpI p.router r
def cmpS_a(s:Spk)(r:Int):Prop:=okL [.agg [.int s.router,.int s.epoch,.int s.last,.sl 4 (s.items.map Itm.v) false,.sl 3 (s.peers.map Per.v) false],.int r]
def cmpS_e(r:Int):AV:=.int r
def cmpS_x(s:Spk)(r:Int):Ax Tryz.prog noS (Int):=
 (.callP (cmpI_c s.router r)
(.ret (cmpI s.router r)))
def cmpS_vc(s:Spk)(r:Int)(r0:Int):Prop:=(cmpS_x s r).vp cmpS_e r0
theorem cmpS_p(p:Spk)(r:Int)(ok:cmpS_a p r):cmpS_vc p r (cmpS p r):=by
 dsimp only [cmpS_vc,cmpS_x,noS,Ax.vp,Ax.vc];simp only [vcU,rfU,List.length_map]
 rfl
def cmpS_c(s:Spk)(r:Int):PC Tryz.prog:=⟨94,[(.a [.k,.k,.k,(.s 4),(.s 3)]),.k],[.agg [.int s.router,.int s.epoch,.int s.last,.sl 4 (s.items.map Itm.v) false,.sl 3 (s.peers.map Per.v) false],.int r],cmpS_e (cmpS s r),PSpec.of_ok fun ok=>mxP_of (sh:=.k) (enc:=cmpS_e) (a:=(cmpS_x s r).an) (cmpS_p s r ok) (by kernel_rfl) (AV.pureB_ok rfl),fnB_ok (by kernel_rfl)⟩
def hitS(l:List Spk)(r:Int):Prop:=posS l r<l.length∧(l.getD (posS l r) spk0).router=r
instance (l:List Spk) (r:Int):Decidable (hitS l r):=by unfold hitS;infer_instance
def bsS_a(x:(List Spk))(target:Int):Prop:=okL [.sl 5 (x.map Spk.v) false,.int target,.func 94 []]
def bsS_n0(x:(List Spk))(target:Int)(t0:Int×Int):NF:=⟨[(0,.k,.sl 5 (x.map Spk.v) false),(1,.k,.int target),(2,.k,.func 94 []),(8,.k,.int ((x.map Spk.v).length:Int)),(9,.k,.int t0.1),(10,.k,.int t0.2)],[]⟩
@[reducible] def bsS_s:Nat→Type
 | 0=>Int×Int
 | _=>Unit
def bsS_e(r:Int×Bool):AV:=.tup [.int r.1,.bool r.2]
def bsS_x(x:(List Spk))(target:Int)(I0:(Int×Int)→Prop)(m0:(Int×Int)→Nat):Ax Tryz.prog bsS_s (Int×Bool):=
 (.loop 0 (bsS_n0 x target) I0 m0 (0,((x.map Spk.v).length:Int)) [] fun (t0:Int×Int) b0 =>
(.br 48 (decide (t0.1<t0.2)) (.el 208 Spk.v x (fun R=>Rf (x.map Spk.v) (ck (decide (0≤(W (Int.fdiv (IntKind.u64.wrap (W (t0.1+t0.2))) 2)))) (ck (decide ((W (Int.fdiv (IntKind.u64.wrap (W (t0.1+t0.2))) 2))<(x.length:Int)))
(∀x1,x[(W (Int.fdiv (IntKind.u64.wrap (W (t0.1+t0.2))) 2)).toNat]?=some x1 →
(R x1))))) fun x1 =>
(.callP (cmpS_c x1 target)
(.br 288 (decide ((cmpS x1 target)<0)) (.bk 0 b0 (W ((W (Int.fdiv (IntKind.u64.wrap (W (t0.1+t0.2))) 2))+1),t0.2) [])
(.bk 0 b0 (t0.1,W (Int.fdiv (IntKind.u64.wrap (W (t0.1+t0.2))) 2)) []))))
(.br 128 (decide (t0.1<((x.map Spk.v).length:Int))) (.el 176 Spk.v x (fun R=>Rf (x.map Spk.v) (ck (decide (0≤t0.1)) (ck (decide (t0.1<(x.length:Int)))
(∀x2,x[t0.1.toNat]?=some x2 →
(R x2))))) fun x2 =>
(.callP (cmpS_c x2 target)
(.ret (t0.1,(cmpS x2 target)==0))))
(.ret (t0.1,false)))))
def bsS_vc(x:(List Spk))(target:Int)(I0:(Int×Int)→Prop)(m0:(Int×Int)→Nat)(r0:Int×Bool):Prop:=(bsS_x x target I0 m0).vp bsS_e r0
theorem bsS_p(l:List Spk)(r:Int)(h:l.Pairwise fun x y=>x.router<y.router)(hl:l.length≤1000000)(ok:bsS_a l r):∃I m,bsS_vc l r I m ((posS l r:Int),decide (hitS l r)):=by
 simp only [bsS_a,okU,Blk.ok,plainV,List.length_map] at ok
 refine ⟨fun t=>∃i j:Nat,t=((i:Int),(j:Int))∧i≤j∧j≤l.length∧(∀k x,k<i→l[k]?=some x→x.router<r)∧(∀k x,j≤k→l[k]?=some x→r≤x.router),fun t=>(t.2-t.1).toNat,?_⟩
 dsimp only [bsS_vc,bsS_x,bsS_s,Ax.vp,Ax.vc];simp only [vcU,rfU,List.length_map]
 refine ⟨⟨0,l.length,rfl,by omega,by omega,fun k x hk=>by omega,fun k x hk hx=>by have:=lt_of_get hx;omega⟩,?_⟩
 rintro _ ⟨i,j,rfl,hij,hj,h1,h2⟩
 refine ⟨fun h3=>?_,fun h3=>?_⟩
 ·have h3:i<j:=by simpa using h3
  simp only [half i j hij (by omega),Int.toNat_natCast]
  refine ⟨by omega,by omega,fun x hx=>⟨fun e=>?_,fun e=>?_⟩⟩
  ·rw [cmpS,cmp_lt] at e
   rw [W_succ (n:=l.length) (by omega) (by omega)]
   refine ⟨⟨_,_,rfl,by omega,hj,fun k y hk hy=>?_,h2⟩,by omega⟩
   by_cases e':k=(i+j) / 2
   ·subst e';rw [hx] at hy;cases hy;exact e
   ·have:=pw_get h (show k<(i+j) / 2 by omega) hy hx;omega
  ·rw [cmpS,cmp_lt] at e
   refine ⟨⟨_,_,rfl,by omega,by omega,h1,fun k y hk hy=>?_⟩,by omega⟩
   by_cases e':k=(i+j) / 2
   ·subst e';rw [hx] at hy;cases hy;omega
   ·have:=pw_get h (show (i+j) / 2<k by omega) hx hy;omega
 ·have h3:i=j:=by simp at h3;omega
  subst h3
  have hp:posS l r=i:=idx_eq (key:=Spk.router) hj h1 h2
  simp only [Int.toNat_natCast]
  refine ⟨fun h4=>⟨by omega,by omega,fun x hx=>?_⟩,fun h4=>?_⟩
  ·have e:hitS l r↔x.router=r:=by rw [hitS,hp,getD_some hx];exact ⟨fun h=>h.2,fun h=>⟨lt_of_get hx,h⟩⟩
   rw [hp]
   refine congrArg _ ?_
   rw [cmpS,Bool.eq_iff_iff,decide_eq_true_iff,e,beq_iff_eq,cmp_eq]
  ·rw [hp,decide_eq_false]
   rw [hitS,hp];intro h;omega
def bsS_c(x:(List Spk))(target:Int)(h:x.Pairwise fun x y=>x.router<y.router)(hl:x.length≤1000000):PC Tryz.prog:=⟨93,[(.s 5),.k,.k],[.sl 5 (x.map Spk.v) false,.int target,.func 94 []],bsS_e ((posS x target:Int),decide (hitS x target)),PSpec.of_ok fun ok=>(bsS_p x target h hl ok).elim fun I0 h=>h.elim fun m0 h=>mxP_of (sh:=.k) (enc:=bsS_e) (a:=(bsS_x x target I0 m0).an) h (by kernel_rfl) (AV.pureB_ok rfl),fnB_ok (by kernel_rfl)⟩
def findS_a(o:Ovl)(router:Int):Prop:=okL [.agg [.sl 5 (o.sp.map Spk.v) false,.sl 3 (o.ls.map Lsn.v) false,.sl 10 (o.fl.map Sig.v) false],.int router]
def findS_e(r:Int×Bool):AV:=.tup [.int r.1,.bool r.2]
def findS_x(o:Ovl)(router:Int):Ax Tryz.prog noS (Int×Bool):=
 (.req 96 (o.sp.Pairwise fun x y=>x.router<y.router) fun h1 =>
(.req 96 (o.sp.length≤1000000) fun h2 =>
(.callP (bsS_c o.sp router h1 h2)
(.ret ((posS o.sp router:Int),decide (hitS o.sp router))))))
def findS_vc(o:Ovl)(router:Int)(r0:Int×Bool):Prop:=(findS_x o router).vp findS_e r0
theorem findS_p(o:Ovl)(r:Int)(h:o.sp.Pairwise fun x y=>x.router<y.router)(hl:o.sp.length≤1000000)(ok:findS_a o r):findS_vc o r ((posS o.sp r:Int),decide (hitS o.sp r)):=by
 dsimp only [findS_vc,findS_x,noS,Ax.vp,Ax.vc];simp only [vcU,rfU,List.length_map]
 exact ⟨h,hl,trivial⟩
def findS_c(o:Ovl)(router:Int)(h:o.sp.Pairwise fun x y=>x.router<y.router)(hl:o.sp.length≤1000000):PC Tryz.prog:=⟨42,[(.a [(.s 5),(.s 3),(.s 10)]),.k],[.agg [.sl 5 (o.sp.map Spk.v) false,.sl 3 (o.ls.map Lsn.v) false,.sl 10 (o.fl.map Sig.v) false],.int router],findS_e ((posS o.sp router:Int),decide (hitS o.sp router)),PSpec.of_ok fun ok=>mxP_of (sh:=.k) (enc:=findS_e) (a:=(findS_x o router).an) (findS_p o router h hl ok) (by kernel_rfl) (AV.pureB_ok rfl),fnB_ok (by kernel_rfl)⟩
def rtrsF_a(o:Ovl):Prop:=okL [.agg [.sl 5 (o.sp.map Spk.v) false,.sl 3 (o.ls.map Lsn.v) false,.sl 10 (o.fl.map Sig.v) false]]
def rtrsF_n0(o:Ovl)(t0:Int×(List Int)):NF:=⟨[(3,.k,.vec 0),(7,.k,.sl 5 (o.sp.map Spk.v) false),(8,.k,.int ((o.sp.map Spk.v).length:Int)),(9,.k,.int t0.1)],[.vec 1 (t0.2.map AV.int) (pureBL_map (fun _=>rfl) t0.2)]⟩
@[reducible] def rtrsF_s:Nat→Type
 | 0=>Int×(List Int)
 | _=>Unit
def rtrsF_e(r:(List Int)):AV:=.sl 1 (r.map AV.int) false
def rtrsF_x(o:Ovl)(I0:(Int×(List Int))→Prop)(m0:(Int×(List Int))→Nat):Ax Tryz.prog rtrsF_s ((List Int)):=
 (.cmdL (.nilT 3 1) (.loop 0 (rtrsF_n0 o) I0 m0 (0,[]) [112] fun (t0:Int×(List Int)) b0 =>
(.br 17 (decide (t0.1<((o.sp.map Spk.v).length:Int))) (.el 17 Spk.v o.sp (fun R=>Rf (o.sp.map Spk.v) (ck (decide (0≤t0.1)) (ck (decide (t0.1<(o.sp.length:Int)))
(∀x1,o.sp[t0.1.toNat]?=some x1 →
(R x1))))) fun x1 =>
(.say (fun R=>Rf (α:=List AV) (t0.2.map AV.int) (Rf (α:=List AV) [.int x1.router]
(ck (decide (t0.2.length+1≤1000000))
R))) (.app 145 AV.int t0.2 [x1.router]
(.bk 0 b0 (W (t0.1+1),t0.2++[x1.router]) [145]))))
(.say (Rf (t0.2.map AV.int)) (.cmdL (.frzE 0 (t0.2.map AV.int) (pureBL_map (fun _=>rfl) t0.2)) (.ret (t0.2)))))))
def rtrsF_vc(o:Ovl)(I0:(Int×(List Int))→Prop)(m0:(Int×(List Int))→Nat)(r0:(List Int)):Prop:=(rtrsF_x o I0 m0).vp rtrsF_e r0
theorem rtrsF_p(o:Ovl)(h:o.sp.length≤1000000)(ok:rtrsF_a o):∃I m,rtrsF_vc o I m (rtrs o.sp):=by
 refine ⟨fun t=>∃k:Nat,t.1=k∧k≤o.sp.length∧t.2=rtrs (o.sp.take k),fun t=>o.sp.length-t.1.toNat,?_⟩
 dsimp only [rtrsF_vc,rtrsF_x,rtrsF_s,Ax.vp,Ax.vc];simp only [vcU,rfU,List.length_map]
 refine ⟨⟨0,rfl,by omega,rfl⟩,?_⟩
 rintro ⟨_,_⟩ ⟨k,rfl,hk,rfl⟩
 simp only [Int.toNat_natCast]
 refine ⟨fun h1=>⟨by omega,by omega,fun x hx=>⟨by rw [rtrs_len];simp;omega,⟨k+1,?_,by omega,?_⟩,?_⟩⟩,fun h1=>?_⟩
 ·rw [W_succ (n:=o.sp.length) (by omega) (by omega)]
 ·rw [take_succ hx];simp [rtrs]
 ·rw [W_succ (n:=o.sp.length) (by omega) (by omega)];omega
 ·rw [List.take_of_length_le (by omega)]
def rtrsF_c(o:Ovl)(h:o.sp.length≤1000000):PC Tryz.prog:=⟨82,[(.a [(.s 5),(.s 3),(.s 10)])],[.agg [.sl 5 (o.sp.map Spk.v) false,.sl 3 (o.ls.map Lsn.v) false,.sl 10 (o.fl.map Sig.v) false]],rtrsF_e (rtrs o.sp),PSpec.of_ok fun ok=>(rtrsF_p o h ok).elim fun I0 h=>h.elim fun m0 h=>mxP_of (sh:=(.s 1)) (enc:=rtrsF_e) (a:=(rtrsF_x o I0 m0).an) h (by kernel_rfl) (AV.pureB_ok rfl),fnB_ok (by kernel_rfl)⟩
def othersF_a(l:(List Int))(n:Int):Prop:=okL [.sl 1 (l.map AV.int) false,.int n]
def othersF_n0(l:(List Int))(n:Int)(t0:Int×(List Int)):NF:=⟨[(1,.k,.int n),(5,.k,.vec 0),(8,.k,.sl 1 (l.map AV.int) false),(9,.k,.int ((l.map AV.int).length:Int)),(10,.k,.int t0.1)],[.vec 1 (t0.2.map AV.int) (pureBL_map (fun _=>rfl) t0.2)]⟩
@[reducible] def othersF_s:Nat→Type
 | 0=>Int×(List Int)
 | _=>Unit
def othersF_e(r:(List Int)):AV:=.sl 1 (r.map AV.int) false
def othersF_x(l:(List Int))(n:Int)(I0:(Int×(List Int))→Prop)(m0:(Int×(List Int))→Nat):Ax Tryz.prog othersF_s ((List Int)):=
 (.cmdL (.nilT 5 1) (.loop 0 (othersF_n0 l n) I0 m0 (0,[]) [80] fun (t0:Int×(List Int)) b0 =>
(.br 17 (decide (t0.1<((l.map AV.int).length:Int))) (.el 17 AV.int l (fun R=>Rf (l.map AV.int) (ck (decide (0≤t0.1)) (ck (decide (t0.1<(l.length:Int)))
(∀x1,l[t0.1.toNat]?=some x1 →
(R x1))))) fun x1 =>
(.br 113 (x1 != n) (.say (fun R=>Rf (α:=List AV) (t0.2.map AV.int) (Rf (α:=List AV) [.int x1]
(ck (decide (t0.2.length+1≤1000000))
R))) (.app 161 AV.int t0.2 [x1]
(.bk 0 b0 (W (t0.1+1),t0.2++[x1]) [161])))
(.bk 0 b0 (W (t0.1+1),t0.2) [0])))
(.say (Rf (t0.2.map AV.int)) (.cmdL (.frzE 0 (t0.2.map AV.int) (pureBL_map (fun _=>rfl) t0.2)) (.ret (t0.2)))))))
def othersF_vc(l:(List Int))(n:Int)(I0:(Int×(List Int))→Prop)(m0:(Int×(List Int))→Nat)(r0:(List Int)):Prop:=(othersF_x l n I0 m0).vp othersF_e r0
theorem othersF_p(l:List Int)(n:Int)(h:l.length≤1000000)(ok:othersF_a l n):∃I m,othersF_vc l n I m (others l n):=by
 refine ⟨fun t=>∃k:Nat,t.1=k∧k≤l.length∧t.2=others (l.take k) n∧t.2.length≤k,fun t=>l.length-t.1.toNat,?_⟩
 dsimp only [othersF_vc,othersF_x,othersF_s,Ax.vp,Ax.vc];simp only [vcU,rfU,List.length_map]
 refine ⟨⟨0,rfl,by omega,rfl,by simp⟩,?_⟩
 rintro ⟨_,_⟩ ⟨k,rfl,hk,rfl,hk2⟩
 simp only [Int.toNat_natCast] at *
 refine ⟨fun h1=>⟨by omega,by omega,fun x hx=>?_⟩,fun h1=>?_⟩
 ·rw [W_succ (n:=l.length) (by omega) (by omega)]
  refine ⟨fun q=>⟨by omega,⟨k+1,rfl,by omega,?_,by simp;omega⟩,by omega⟩,fun q=>⟨⟨k+1,rfl,by omega,?_,by omega⟩,by omega⟩⟩
  ·have q:x≠n:=by simpa using q
   rw [take_succ hx,others,others,List.filter_append];simp [q]
  ·have q:x=n:=by simpa using q
   rw [take_succ hx,others,others,List.filter_append];simp [q]
 ·rw [List.take_of_length_le (by omega)]
def othersF_c(l:(List Int))(n:Int)(h:l.length≤1000000):PC Tryz.prog:=⟨75,[(.s 1),.k],[.sl 1 (l.map AV.int) false,.int n],othersF_e (others l n),PSpec.of_ok fun ok=>(othersF_p l n h ok).elim fun I0 h=>h.elim fun m0 h=>mxP_of (sh:=(.s 1)) (enc:=othersF_e) (a:=(othersF_x l n I0 m0).an) h (by kernel_rfl) (AV.pureB_ok rfl),fnB_ok (by kernel_rfl)⟩
def peerIs(p:Per)(r:Int):Bool:=decide (p.router=r)
def peerIs_a(p:Per)(r:Int):Prop:=okL [.agg [.int p.router,.int p.epoch,.int p.acked],.int r]
def peerIs_e(r:Bool):AV:=.bool r
def peerIs_x(p:Per)(r:Int):Ax Tryz.prog noS (Bool):=
 (.ret (p.router==r))
def peerIs_vc(p:Per)(r:Int)(r0:Bool):Prop:=(peerIs_x p r).vp peerIs_e r0
theorem peerIs_p(p:Per)(r:Int)(ok:peerIs_a p r):peerIs_vc p r (peerIs p r):=by
 dsimp only [peerIs_vc,peerIs_x,noS,Ax.vp,Ax.vc];simp only [vcU,rfU,List.length_map]
 rfl
def peerIs_c(p:Per)(r:Int):PC Tryz.prog:=⟨85,[.k,.k],[.agg [.int p.router,.int p.epoch,.int p.acked],.int r],peerIs_e (decide (p.router=r)),PSpec.of_ok fun ok=>mxP_of (sh:=.k) (enc:=peerIs_e) (a:=(peerIs_x p r).an) (peerIs_p p r ok) (by kernel_rfl) (AV.pureB_ok rfl),fnB_ok (by kernel_rfl)⟩
def eqPI_a(s1:(List Per))(s2:(List Int)):Prop:=okL [.sl 3 (s1.map Per.v) false,.sl 1 (s2.map AV.int) false,.func 85 []]
def eqPI_n0(s1:(List Per))(s2:(List Int))(t0:Int):NF:=⟨[(1,.k,.sl 1 (s2.map AV.int) false),(2,.k,.func 85 []),(15,.k,.sl 3 (s1.map Per.v) false),(16,.k,.int ((s1.map Per.v).length:Int)),(17,.k,.int t0)],[]⟩
@[reducible] def eqPI_s:Nat→Type
 | 0=>Int
 | _=>Unit
def eqPI_e(r:Bool):AV:=.bool r
def eqPI_x(s1:(List Per))(s2:(List Int))(I0:Int→Prop)(m0:Int→Nat):Ax Tryz.prog eqPI_s (Bool):=
 (.br 96 (((s1.map Per.v).length:Int) != ((s2.map AV.int).length:Int)) (.ret (false))
(.loop 0 (eqPI_n0 s1 s2) I0 m0 ((0):Int) [] fun (t0:Int) b0 =>
(.br 16 (decide (t0<((s1.map Per.v).length:Int))) (.el 32 Per.v s1 (fun R=>Rf (s1.map Per.v) (ck (decide (0≤t0)) (ck (decide (t0<(s1.length:Int)))
(∀x1,s1[t0.toNat]?=some x1 →
(R x1))))) fun x1 =>
(.el 144 AV.int s2 (fun R=>Rf (s2.map AV.int) (ck (decide (0≤t0)) (ck (decide (t0<(s2.length:Int)))
(∀x2,s2[t0.toNat]?=some x2 →
(R x2))))) fun x2 =>
(.callP (peerIs_c x1 x2)
(.br 272 (!(decide (x1.router=x2))) (.ret (false))
(.bk 0 b0 ((W (t0+1)):Int) [])))))
(.ret (true)))))
def eqPI_vc(s1:(List Per))(s2:(List Int))(I0:Int→Prop)(m0:Int→Nat)(r0:Bool):Prop:=(eqPI_x s1 s2 I0 m0).vp eqPI_e r0
theorem eqPI_p(a:List Per)(b:List Int)(ok:eqPI_a a b):∃I m,eqPI_vc a b I m (decide (a.map Per.router=b)):=by
 simp only [eqPI_a,okU,Blk.ok,plainV,List.length_map] at ok
 refine ⟨fun t=>∃k:Nat,t=k∧k≤a.length∧(a.take k).map Per.router=b.take k,fun t=>a.length-t.toNat,?_⟩
 dsimp only [eqPI_vc,eqPI_x,eqPI_s,Ax.vp,Ax.vc];simp only [vcU,rfU,List.length_map]
 refine ⟨fun e=>(decide_eq_false fun h=>by subst h;simp at e).symm,fun e=>⟨⟨0,rfl,by omega,rfl⟩,?_⟩⟩
 have e:a.length=b.length:=by simp at e;omega
 rintro _ ⟨k,rfl,hk,h⟩
 simp only [Int.toNat_natCast]
 refine ⟨fun h1=>⟨by omega,by omega,fun x hx=>⟨by omega,by omega,fun y hy=>⟨fun e2=>?_,fun e2=>?_⟩⟩⟩,fun h1=>?_⟩
 ·refine (decide_eq_false fun hh=>?_).symm
  subst hh
  rw [List.getElem?_map,hx] at hy
  simp only [Option.map_some,Option.some.injEq] at hy
  subst hy
  simp at e2
 ·have e2:x.router=y:=by simpa using e2
  rw [W_succ (n:=a.length) (by omega) (by omega)]
  exact ⟨⟨k+1,rfl,by omega,by rw [take_succ hx,take_succ hy,List.map_append,h];simp [e2]⟩,by omega⟩
 ·rw [List.take_of_length_le (by omega),List.take_of_length_le (by omega)] at h
  exact (decide_eq_true h).symm
def eqPI_c(s1:(List Per))(s2:(List Int)):PC Tryz.prog:=⟨84,[(.s 3),(.s 1),.k],[.sl 3 (s1.map Per.v) false,.sl 1 (s2.map AV.int) false,.func 85 []],eqPI_e (decide (s1.map Per.router=s2)),PSpec.of_ok fun ok=>(eqPI_p s1 s2 ok).elim fun I0 h=>h.elim fun m0 h=>mxP_of (sh:=.k) (enc:=eqPI_e) (a:=(eqPI_x s1 s2 I0 m0).an) h (by kernel_rfl) (AV.pureB_ok rfl),fnB_ok (by kernel_rfl)⟩
def indexI(l:List Int)(v:Int):Int:=match l.findIdx? fun x=>decide (v=x) with
 | some i=>i
 | none=>-1
theorem indexI_some{l:List Int}{r:Int}{i:Nat}(hx:l[i]?=some r)(hb:∀y∈l.take i,r≠y):indexI l r=i:=by
 obtain ⟨hi,hxi⟩:=List.getElem?_eq_some_iff.mp hx
 have:l.findIdx? (fun p=>decide (r=p))=some i:=by
  rw [List.findIdx?_eq_some_iff_getElem]
  refine ⟨hi,by rw [hxi];simp,fun j hj=>?_⟩
  have:=hb l[j] (List.mem_of_getElem? (i:=j) (by rw [List.getElem?_take,if_pos hj,List.getElem?_eq_getElem (by omega)]))
  simpa using this
 unfold indexI;rw [this]
theorem indexI_none{l:List Int}{r:Int}(hb:∀y∈l,r≠y):indexI l r=-1:=by
 have:l.findIdx? (fun p=>decide (r=p))=none:=by
  rw [List.findIdx?_eq_none_iff]
  intro x hx;simpa using hb x hx
 unfold indexI;rw [this]
def indexI_a(s:(List Int))(v:Int):Prop:=okL [.sl 1 (s.map AV.int) false,.int v]
def indexI_n0(s:(List Int))(v:Int)(t0:Int):NF:=⟨[(0,.k,.sl 1 (s.map AV.int) false),(1,.k,.int v),(7,.k,.int ((s.map AV.int).length:Int)),(8,.k,.int t0)],[]⟩
@[reducible] def indexI_s:Nat→Type
 | 0=>Int
 | _=>Unit
def indexI_e(r:Int):AV:=.int r
def indexI_x(s:(List Int))(v:Int)(I0:Int→Prop)(m0:Int→Nat):Ax Tryz.prog indexI_s (Int):=
 (.loop 0 (indexI_n0 s v) I0 m0 ((0):Int) [] fun (t0:Int) b0 =>
(.br 16 (decide (t0<((s.map AV.int).length:Int))) (.el 96 AV.int s (fun R=>Rf (s.map AV.int) (ck (decide (0≤t0)) (ck (decide (t0<(s.length:Int)))
(∀x1,s[t0.toNat]?=some x1 →
(R x1))))) fun x1 =>
(.br 144 (v==x1) (.ret (t0))
(.bk 0 b0 ((W (t0+1)):Int) [])))
(.ret (-1))))
def indexI_vc(s:(List Int))(v:Int)(I0:Int→Prop)(m0:Int→Nat)(r0:Int):Prop:=(indexI_x s v I0 m0).vp indexI_e r0
theorem indexI_p(l:List Int)(v:Int)(ok:indexI_a l v):∃I m,indexI_vc l v I m (indexI l v):=by
 simp only [indexI_a,okU,Blk.ok,plainV,List.length_map] at ok
 refine ⟨fun t=>∃k:Nat,t=k∧k≤l.length∧∀x∈l.take k,v≠x,fun t=>l.length-t.toNat,?_⟩
 dsimp only [indexI_vc,indexI_x,indexI_s,Ax.vp,Ax.vc];simp only [vcU,rfU,List.length_map]
 have hle:l.length≤9223372036854775807:=ok.1.1
 refine ⟨⟨0,rfl,by omega,by simp⟩,?_⟩
 rintro _ ⟨k,rfl,hk,hI⟩
 simp only [Int.toNat_natCast]
 refine ⟨fun h1=>⟨by omega,by omega,fun x hx=>⟨fun e=>?_,fun e=>?_⟩⟩,fun h1=>?_⟩
 ·have e:v=x:=by simpa using e
  subst e
  rw [indexI_some hx hI]
 ·rw [W_succ (n:=l.length) (by omega) (by omega)]
  exact ⟨⟨k+1,rfl,by omega,(mem_take_succ hx).mpr ⟨hI,by simpa using e⟩⟩,by omega⟩
 ·rw [List.take_of_length_le (by omega)] at hI
  rw [indexI_none hI]
def indexI_c(s:(List Int))(v:Int):PC Tryz.prog:=⟨143,[(.s 1),.k],[.sl 1 (s.map AV.int) false,.int v],indexI_e (indexI s v),PSpec.of_ok fun ok=>(indexI_p s v ok).elim fun I0 h=>h.elim fun m0 h=>mxP_of (sh:=.k) (enc:=indexI_e) (a:=(indexI_x s v I0 m0).an) h (by kernel_rfl) (AV.pureB_ok rfl),fnB_ok (by kernel_rfl)⟩
theorem indexI_nn{l:List Int}{v:Int}:0≤indexI l v↔v∈l:=by
 unfold indexI
 cases e:l.findIdx? (fun p=>decide (v=p)) with
 | none =>
  rw [List.findIdx?_eq_none_iff] at e
  simp only
  refine ⟨fun h=>by omega,fun h=>by have:=e v h;simp at this⟩
 | some i =>
  rw [List.findIdx?_eq_some_iff_getElem] at e
  obtain ⟨h1,h2,_⟩:=e
  simp only
  refine ⟨fun _=>?_,fun _=>by omega⟩
  have:v=l[i]:=by simpa using h2
  rw [this];exact List.getElem_mem h1
def contI_a(s:(List Int))(v:Int):Prop:=okL [.sl 1 (s.map AV.int) false,.int v]
def contI_e(r:Bool):AV:=.bool r
def contI_x(s:(List Int))(v:Int):Ax Tryz.prog noS (Bool):=
 (.callP (indexI_c s v)
(.ret (decide (0≤(indexI s v)))))
def contI_vc(s:(List Int))(v:Int)(r0:Bool):Prop:=(contI_x s v).vp contI_e r0
theorem contI_p(l:List Int)(v:Int)(ok:contI_a l v):contI_vc l v (decide (v∈l)):=by
 dsimp only [contI_vc,contI_x,noS,Ax.vp,Ax.vc];simp only [vcU,rfU,List.length_map]
 exact decide_eq_decide.mpr indexI_nn
def contI_c(s:(List Int))(v:Int):PC Tryz.prog:=⟨87,[(.s 1),.k],[.sl 1 (s.map AV.int) false,.int v],contI_e (decide (v∈s)),PSpec.of_ok fun ok=>mxP_of (sh:=.k) (enc:=contI_e) (a:=(contI_x s v).an) (contI_p s v ok) (by kernel_rfl) (AV.pureB_ok rfl),fnB_ok (by kernel_rfl)⟩
theorem valS_z{s:Spk}:valS s=0↔spkOk s:=by
 have hv:valS s=if spkOk s then 0 else 1:=rfl
 rw [hv];by_cases h:spkOk s<;>simp [h]
theorem valL_z{s:Lsn}:valL s=0↔lsnOk s:=by
 have hv:valL s=if lsnOk s then 0 else 1:=rfl
 rw [hv];by_cases h:lsnOk s<;>simp [h]
theorem ovl_lens{o:Ovl}(ok:okL [o.v]):o.sp.length≤9223372036854775807∧o.ls.length≤9223372036854775807∧o.fl.length≤9223372036854775807:=by
 have h:=ok
 simp only [Ovl.v,spks,lsns,sigs,AV.ok,okL,List.length_map,maxLen_eq] at h
 omega
theorem take_all{α:Type}{P:α→Prop}{l:List α}{k:Nat}{x:α}(hx:l[k]?=some x)(h:∀y∈l.take k,P y)(hp:P x):∀y∈l.take (k+1),P y:=(mem_take_succ hx).mpr ⟨h,hp⟩
def validO_a(o:Ovl):Prop:=okL [.agg [.sl 5 (o.sp.map Spk.v) false,.sl 3 (o.ls.map Lsn.v) false,.sl 10 (o.fl.map Sig.v) false]]
def validO_n0(o:Ovl)(t0:Bool):NF:=⟨[(1,.k,.ref 0 0),(23,.k,.bool t0)],[.box (.agg [.sl 5 (o.sp.map Spk.v) false,.sl 3 (o.ls.map Lsn.v) false,.sl 10 (o.fl.map Sig.v) false])]⟩
def validO_n1(o:Ovl)(t1:Int):NF:=⟨[(1,.k,.ref 0 0),(3,.k,.sl 1 ((rtrs o.sp).map AV.int) false),(27,.k,.sl 5 (o.sp.map Spk.v) false),(28,.k,.int ((o.sp.map Spk.v).length:Int)),(29,.k,.int t1)],[.box (.agg [.sl 5 (o.sp.map Spk.v) false,.sl 3 (o.ls.map Lsn.v) false,.sl 10 (o.fl.map Sig.v) false])]⟩
def validO_n2(o:Ovl)(t1:Int)(x2:Spk)(t2:Bool):NF:=⟨[(1,.k,.ref 0 0),(3,.k,.sl 1 ((rtrs o.sp).map AV.int) false),(4,.k,.int t1),(5,.k,.ref 1 0),(27,.k,.sl 5 (o.sp.map Spk.v) false),(28,.k,.int ((o.sp.map Spk.v).length:Int)),(29,.k,.int t1),(50,.k,.bool t2)],[.box (.agg [.sl 5 (o.sp.map Spk.v) false,.sl 3 (o.ls.map Lsn.v) false,.sl 10 (o.fl.map Sig.v) false]),.box (.agg [.int x2.router,.int x2.epoch,.int x2.last,.sl 4 (x2.items.map Itm.v) false,.sl 3 (x2.peers.map Per.v) false])]⟩
def validO_n3(o:Ovl)(t1:Int)(x5:Lsn)(t3:Bool):NF:=⟨[(1,.k,.ref 0 0),(3,.k,.sl 1 ((rtrs o.sp).map AV.int) false),(6,.k,.ref 1 0),(27,.k,.sl 5 (o.sp.map Spk.v) false),(28,.k,.int ((o.sp.map Spk.v).length:Int)),(29,.k,.int t1),(73,.k,.bool t3)],[.box (.agg [.sl 5 (o.sp.map Spk.v) false,.sl 3 (o.ls.map Lsn.v) false,.sl 10 (o.fl.map Sig.v) false]),.box (.agg [.int x5.router,.int x5.epoch,.sl 4 (x5.heard.map Hrd.v) false])]⟩
def validO_n4(o:Ovl)(t1:Int)(x5:Lsn)(t4:Int):NF:=⟨[(1,.k,.ref 0 0),(3,.k,.sl 1 ((rtrs o.sp).map AV.int) false),(27,.k,.sl 5 (o.sp.map Spk.v) false),(28,.k,.int ((o.sp.map Spk.v).length:Int)),(29,.k,.int t1),(75,.k,.sl 4 (x5.heard.map Hrd.v) false),(76,.k,.int ((x5.heard.map Hrd.v).length:Int)),(77,.k,.int t4)],[.box (.agg [.sl 5 (o.sp.map Spk.v) false,.sl 3 (o.ls.map Lsn.v) false,.sl 10 (o.fl.map Sig.v) false])]⟩
def validO_n5(o:Ovl)(t5:Int):NF:=⟨[(3,.k,.sl 1 ((rtrs o.sp).map AV.int) false),(89,.k,.sl 10 (o.fl.map Sig.v) false),(90,.k,.int ((o.fl.map Sig.v).length:Int)),(91,.k,.int t5)],[]⟩
def validO_n6(o:Ovl)(t5:Int)(t6:Bool):NF:=⟨[(3,.k,.sl 1 ((rtrs o.sp).map AV.int) false),(89,.k,.sl 10 (o.fl.map Sig.v) false),(90,.k,.int ((o.fl.map Sig.v).length:Int)),(91,.k,.int t5),(111,.k,.bool t6)],[]⟩
@[reducible] def validO_s:Nat→Type
 | 0=>Bool
 | 1=>Int
 | 2=>Bool
 | 3=>Bool
 | 4=>Int
 | 5=>Int
 | 6=>Bool
 | _=>Unit
def validO_e(r:Bool):AV:=.bool r
def validO_x(o:Ovl)(I0:Bool→Prop)(I1:Bool→Int→Prop)(m1:Bool→Int→Nat)(I2:Bool→Int→Spk→Bool→Prop)(I3:Bool→Int→Spk→Bool→Lsn→Bool→Prop)(I4:Bool→Int→Spk→Bool→Lsn→Bool→Int→Prop)(m4:Bool→Int→Spk→Bool→Lsn→Bool→Int→Nat)(I5:Bool→Int→Int→Prop)(m5:Bool→Int→Int→Nat)(I6:Bool→Int→Int→Sig→Bool→Prop):Ax Tryz.prog validO_s (Bool):=
 (.pass (.pass (.join 0 (validO_n0 o) (fun (t0:Bool)=>I0 t0) (fun b0=>(.br 112 (decide (12<((o.sp.map Spk.v).length:Int))) (.bk 0 b0 ((true):Bool) [0])
(.bk 0 b0 ((((o.ls.map Lsn.v).length:Int) != ((o.sp.map Spk.v).length:Int)):Bool) [0]))) fun (t0:Bool) =>
(.br 1 t0 (.ret (false))
(.req 17 (o.sp.length≤1000000) fun h1 =>
(.callP (rtrsF_c o h1)
(.loop 1 (validO_n1 o) (I1 t0) (m1 t0) ((0):Int) [0] fun (t1:Int) b1 =>
(.br 17 (decide (t1<((o.sp.map Spk.v).length:Int))) (.el 33 Spk.v o.sp (fun R=>Rf (o.sp.map Spk.v) (ck (decide (0≤t1)) (ck (decide (t1<(o.sp.length:Int)))
(∀x2,o.sp[t1.toNat]?=some x2 →
(R x2))))) fun x2 =>
(.pass (.join 2 (validO_n2 o t1 x2) (fun (t2:Bool)=>I2 t0 t1 x2 t2) (fun b2=>(.callP (valS_c x2)
(.br 177 ((valS x2) != 0) (.bk 2 b2 ((true):Bool) [0,65])
(.br 225 (decide (0<t1)) (.el 273 AV.int (rtrs o.sp) (fun R=>Rf ((rtrs o.sp).map AV.int) (ck (decide (0≤(W (t1-1)))) (ck (decide ((W (t1-1))<((rtrs o.sp).length:Int)))
(∀x3,(rtrs o.sp)[(W (t1-1)).toNat]?=some x3 →
(R x3))))) fun x3 =>
(.bk 2 b2 ((decide (x2.router≤x3)):Bool) [0,65]))
(.bk 2 b2 ((false):Bool) [0,65]))))) fun (t2:Bool) =>
(.br 2 t2 (.ret (false))
(.req 82 ((rtrs o.sp).length≤1000000) fun h4 =>
(.callP (othersF_c (rtrs o.sp) x2.router h4)
(.callP (eqPI_c x2.peers (others (rtrs o.sp) x2.router))
(.br 130 (!(decide (x2.peers.map Per.router=(others (rtrs o.sp) x2.router)))) (.ret (false))
(.el 178 Lsn.v o.ls (fun R=>Rf (o.ls.map Lsn.v) (ck (decide (0≤t1)) (ck (decide (t1<(o.ls.length:Int)))
(∀x5,o.ls[t1.toNat]?=some x5 →
(R x5))))) fun x5 =>
(.pass (.join 3 (validO_n3 o t1 x5) (fun (t3:Bool)=>I3 t0 t1 x2 t2 x5 t3) (fun b3=>(.callP (valL_c x5)
(.br 306 ((valL x5) != 0) (.bk 3 b3 ((true):Bool) [0,210])
(.bk 3 b3 ((x5.router != x2.router):Bool) [0,210])))) fun (t3:Bool) =>
(.br 2 t3 (.ret (false))
(.loop 4 (validO_n4 o t1 x5) (I4 t0 t1 x2 t2 x5 t3) (m4 t0 t1 x2 t2 x5 t3) ((0):Int) [0] fun (t4:Int) b4 =>
(.br 17 (decide (t4<((x5.heard.map Hrd.v).length:Int))) (.el 17 Hrd.v x5.heard (fun R=>Rf (x5.heard.map Hrd.v) (ck (decide (0≤t4)) (ck (decide (t4<(x5.heard.length:Int)))
(∀x6,x5.heard[t4.toNat]?=some x6 →
(R x6))))) fun x6 =>
(.callP (contI_c (rtrs o.sp) x6.router)
(.br 161 (!(decide (x6.router∈(rtrs o.sp)))) (.ret (false))
(.bk 4 b4 ((W (t4+1)):Int) [0]))))
(.bk 1 b1 ((W (t1+1)):Int) [0])))))))))))))))
(.loop 5 (validO_n5 o) (I5 t0 t1) (m5 t0 t1) ((0):Int) [] fun (t5:Int) b5 =>
(.br 16 (decide (t5<((o.fl.map Sig.v).length:Int))) (.el 16 Sig.v o.fl (fun R=>Rf (o.fl.map Sig.v) (ck (decide (0≤t5)) (ck (decide (t5<(o.fl.length:Int)))
(∀x7,o.fl[t5.toNat]?=some x7 →
(R x7))))) fun x7 =>
(.join 6 (validO_n6 o t5) (fun (t6:Bool)=>I6 t0 t1 t5 x7 t6) (fun b6=>(.callP (sigV_c x7)
(.br 144 ((sigErr x7) != 0) (.bk 6 b6 ((true):Bool) [])
(.callP (contI_c (rtrs o.sp) x7.src)
(.br 256 (!(decide (x7.src∈(rtrs o.sp)))) (.bk 6 b6 ((true):Bool) [])
(.callP (contI_c (rtrs o.sp) x7.dst)
(.bk 6 b6 ((!(decide (x7.dst∈(rtrs o.sp)))):Bool) []))))))) fun (t6:Bool) =>
(.br 0 t6 (.ret (false))
(.bk 5 b5 ((W (t5+1)):Int) []))))
(.ret (true))))))))))))
def validO_vc(o:Ovl)(I0:Bool→Prop)(I1:Bool→Int→Prop)(m1:Bool→Int→Nat)(I2:Bool→Int→Spk→Bool→Prop)(I3:Bool→Int→Spk→Bool→Lsn→Bool→Prop)(I4:Bool→Int→Spk→Bool→Lsn→Bool→Int→Prop)(m4:Bool→Int→Spk→Bool→Lsn→Bool→Int→Nat)(I5:Bool→Int→Int→Prop)(m5:Bool→Int→Int→Nat)(I6:Bool→Int→Int→Sig→Bool→Prop)(r0:Bool):Prop:=(validO_x o I0 I1 m1 I2 I3 I4 m4 I5 m5 I6).vp validO_e r0
theorem validO_p(o:Ovl)(ok:validO_a o):∃I0 I1 m1 I2 I3 I4 m4 I5 m5 I6,validO_vc o I0 I1 m1 I2 I3 I4 m4 I5 m5 I6 (decide (ovlOk o)):=by
 unfold validO_a at ok
 obtain ⟨l1,l2,l3⟩:=ovl_lens ok
 refine ⟨fun t=>t=false↔(o.sp.length≤12∧o.ls.length=o.sp.length),
  fun _ t=>∃k:Nat,t=k∧k≤o.sp.length∧∀i s l,i<k→o.sp[i]?=some s→o.ls[i]?=some l→AtK (rtrs o.sp) i s l,fun _ t=>o.sp.length-t.toNat,
  fun _ t1 x t=>t=false↔(spkOk x∧(0<t1.toNat→∀y,(rtrs o.sp)[t1.toNat-1]?=some y→y<x.router)),
  fun _ _ x _ y t=>t=false↔(lsnOk y∧y.router=x.router),
  fun _ _ _ _ y _ t=>∃k:Nat,t=k∧k≤y.heard.length∧∀h∈y.heard.take k,h.router∈rtrs o.sp,fun _ _ _ _ y _ t=>y.heard.length-t.toNat,
  fun _ _ t=>∃k:Nat,t=k∧k≤o.fl.length∧∀x∈o.fl.take k,sigIn (rtrs o.sp) x,fun _ _ t=>o.fl.length-t.toNat,
  fun _ _ _ x t=>t=false↔sigIn (rtrs o.sp) x,?_⟩
 dsimp only [validO_vc,validO_x,validO_s,Ax.vp,Ax.vc];simp only [vcU,rfU,List.length_map]
 refine ⟨⟨fun h1=>by simp;omega,fun h1=>?_⟩,?_⟩
 ·simp;omega
 intro t0 h0
 refine ⟨fun e=>?_,fun e=>?_⟩
 ·subst e
  exact nodec fun q=>by have:=h0.mpr ⟨(ovl_iff.mp q).1,(ovl_iff.mp q).2.1⟩;simp at this
 obtain ⟨n1,n2⟩:=h0.mp e
 have hR:(rtrs o.sp).length=o.sp.length:=rtrs_len
 refine ⟨by omega,⟨0,rfl,by omega,fun i s l hi=>by omega⟩,?_⟩
 rintro _ ⟨k,rfl,hk,hI⟩
 simp only [Int.toNat_natCast]
 refine ⟨fun h1=>⟨by omega,by omega,fun x hx=>⟨⟨fun a1=>?_,fun a1=>⟨fun a2=>⟨?_,?_,fun y hy=>?_⟩,fun a2=>?_⟩⟩,?_⟩⟩,fun h1=>⟨⟨0,rfl,by omega,by simp⟩,?_⟩⟩
 ·have a1:¬valS x=0:=by simpa using a1
  rw [valS_z] at a1
  simp [a1]
 ·rw [W_eq (by omega)];omega
 ·rw [W_eq (by omega)];omega
 ·have a1:valS x=0:=by simpa using a1
  have e3:(W ((k:Int)-1)).toNat=k-1:=by rw [W_eq (by omega)];omega
  rw [e3] at hy
  rw [valS_z] at a1
  rw [hy]
  simp only [Option.some.injEq,forall_eq']
  exact ⟨fun q=>⟨a1,fun _=>by omega⟩,fun q=>by have:=q.2 (by omega);omega⟩
 ·have a1:valS x=0:=by simpa using a1
  rw [valS_z] at a1
  simp only [true_iff]
  exact ⟨a1,fun q=>by omega⟩
 ·intro t2 h2
  refine ⟨fun e=>?_,fun e=>⟨by omega,fun a1=>?_,fun a1=>⟨by omega,by omega,fun y hy=>⟨⟨fun b1=>?_,fun b1=>?_⟩,?_⟩⟩⟩⟩
  ·subst e
   exact nodec fun q=>by
    obtain ⟨l,hl⟩:∃l,o.ls[k]?=some l:=⟨_,List.getElem?_eq_getElem (by omega)⟩
    have d:=(ovl_iff.mp q).2.2.1 k x l hx hl
    have:=h2.mpr ⟨d.fs,d.fasc⟩
    simp at this
  ·have a1:¬x.peers.map Per.router=others (rtrs o.sp) x.router:=by simpa using a1
   exact nodec fun q=>by
    obtain ⟨l,hl⟩:∃l,o.ls[k]?=some l:=⟨_,List.getElem?_eq_getElem (by omega)⟩
    exact a1 ((ovl_iff.mp q).2.2.1 k x l hx hl).fp
  ·have b1:¬valL y=0:=by simpa using b1
   rw [valL_z] at b1
   simp [b1]
  ·have b1:valL y=0:=by simpa using b1
   rw [valL_z] at b1
   simp [b1]
  ·have a1:x.peers.map Per.router=others (rtrs o.sp) x.router:=by simpa using a1
   intro t3 h3
   refine ⟨fun e3=>?_,fun e3=>⟨⟨0,rfl,by omega,by simp⟩,?_⟩⟩
   ·subst e3
    exact nodec fun q=>by
     have d:=(ovl_iff.mp q).2.2.1 k x y hx hy
     have:=h3.mpr ⟨d.fl,d.fr⟩
     simp at this
   obtain ⟨d1,d2⟩:=h2.mp e
   obtain ⟨d3,d4⟩:=h3.mp e3
   have hh:=d3.2.2.1
   rintro _ ⟨j,rfl,hj,hJ⟩
   simp only [Int.toNat_natCast]
   refine ⟨fun c1=>⟨by omega,by omega,fun z hz=>⟨fun c2=>?_,fun c2=>?_⟩⟩,fun c1=>?_⟩
   ·have c2:¬z.router∈rtrs o.sp:=by simpa using c2
    exact nodec fun q=>c2 (((ovl_iff.mp q).2.2.1 k x y hx hy).fh z (mem_of_get hz))
   ·rw [W_succ (n:=y.heard.length) (by omega) (by omega)]
    exact ⟨⟨j+1,rfl,by omega,take_all hz hJ (by simpa using c2)⟩,by omega⟩
   ·rw [W_succ (n:=o.sp.length) (by omega) (by omega)]
    have hj:j=y.heard.length:=by omega
    rw [hj,List.take_length] at hJ
    refine ⟨⟨k+1,rfl,by omega,fun i s l hi hs hl=>?_⟩,by omega⟩
    by_cases ei:i=k
    ·subst ei
     rw [hx] at hs;rw [hy] at hl
     cases hs;cases hl
     exact ⟨d1,d2,a1,d3,d4,hJ⟩
    ·exact hI i s l (by omega) hs hl
 ·have hk:k=o.sp.length:=by omega
  rintro _ ⟨j,rfl,hj,hJ⟩
  simp only [Int.toNat_natCast]
  refine ⟨fun c1=>⟨by omega,by omega,fun x hx=>⟨⟨fun a1=>?_,fun a1=>⟨fun a2=>?_,fun a2=>?_⟩⟩,?_⟩⟩,fun c1=>?_⟩
  ·have a1:¬sigErr x=0:=by simpa using a1
   simp [sigIn,a1]
  ·have a2:¬x.src∈rtrs o.sp:=by simpa using a2
   simp [sigIn,a2]
  ·have a1:sigErr x=0:=by simpa using a1
   have a2:x.src∈rtrs o.sp:=by simpa using a2
   simp [sigIn,a1,a2]
  ·intro t6 h6
   refine ⟨fun e=>?_,fun e=>?_⟩
   ·subst e
    exact nodec fun q=>by have:=h6.mpr ((ovl_iff.mp q).2.2.2 x (mem_of_get hx));simp at this
   ·rw [W_succ (n:=o.fl.length) (by omega) (by omega)]
    exact ⟨⟨j+1,rfl,by omega,take_all hx hJ (h6.mp e)⟩,by omega⟩
  ·have hj:j=o.fl.length:=by omega
   rw [hj,List.take_length] at hJ
   refine (decide_eq_true (ovl_iff.mpr ⟨n1,n2,fun i s l hs hl=>hI i s l (by have:=lt_of_get hs;omega) hs hl,hJ⟩)).symm
def validO_c(o:Ovl):PC Tryz.prog:=⟨37,[(.a [(.s 5),(.s 3),(.s 10)])],[.agg [.sl 5 (o.sp.map Spk.v) false,.sl 3 (o.ls.map Lsn.v) false,.sl 10 (o.fl.map Sig.v) false]],validO_e (decide (ovlOk o)),PSpec.of_ok fun ok=>(validO_p o ok).elim fun I0 h=>h.elim fun I1 h=>h.elim fun m1 h=>h.elim fun I2 h=>h.elim fun I3 h=>h.elim fun I4 h=>h.elim fun m4 h=>h.elim fun I5 h=>h.elim fun m5 h=>h.elim fun I6 h=>mxP_of (sh:=.k) (enc:=validO_e) (a:=(validO_x o I0 I1 m1 I2 I3 I4 m4 I5 m5 I6).an) h (by kernel_rfl) (AV.pureB_ok rfl),fnB_ok (by kernel_rfl)⟩
def valO(o:Ovl):Int:=if ovlOk o then 0 else 1
def valO_a(o:Ovl):Prop:=okL [.agg [.sl 5 (o.sp.map Spk.v) false,.sl 3 (o.ls.map Lsn.v) false,.sl 10 (o.fl.map Sig.v) false]]
def valO_e(r:Int):AV:=.int r
def valO_x(o:Ovl):Ax Tryz.prog noS (Int):=
 (.callP (validO_c o)
(.br 64 (decide (ovlOk o)) (.ret (0))
(.ret (1))))
def valO_vc(o:Ovl)(r0:Int):Prop:=(valO_x o).vp valO_e r0
theorem valO_p(o:Ovl)(ok:valO_a o):valO_vc o (valO o):=by
 dsimp only [valO_vc,valO_x,noS,Ax.vp,Ax.vc];simp only [vcU,rfU,List.length_map]
 unfold valO
 refine ⟨fun h=>?_,fun h=>?_⟩
 ·rw [if_pos h]
 ·rw [if_neg h]
def valO_c(o:Ovl):PC Tryz.prog:=⟨9,[(.a [(.s 5),(.s 3),(.s 10)])],[.agg [.sl 5 (o.sp.map Spk.v) false,.sl 3 (o.ls.map Lsn.v) false,.sl 10 (o.fl.map Sig.v) false]],valO_e (valO o),PSpec.of_ok fun ok=>mxP_of (sh:=.k) (enc:=valO_e) (a:=(valO_x o).an) (valO_p o ok) (by kernel_rfl) (AV.pureB_ok rfl),fnB_ok (by kernel_rfl)⟩
def quietO:Int:=5
def quietO_a:Prop:=okL []
def quietO_e(r:Int):AV:=.int r
def quietO_x:Ax Tryz.prog noS (Int):=
 (.ret (5))
def quietO_vc(r0:Int):Prop:=(quietO_x).vp quietO_e r0
theorem quietO_p(ok:quietO_a):quietO_vc quietO:=by
 dsimp only [quietO_vc,quietO_x,noS,Ax.vp,Ax.vc];simp only [vcU,rfU,List.length_map]
 rfl
def quietO_c:PC Tryz.prog:=⟨30,[],[],quietO_e quietO,PSpec.of_ok fun ok=>mxP_of (sh:=.k) (enc:=quietO_e) (a:=(quietO_x).an) (quietO_p ok) (by kernel_rfl) (AV.pureB_ok rfl),fnB_ok (by kernel_rfl)⟩
def okSpk(s:Spk):Prop:=okItms s.items∧s.peers.length≤1000000
def okLsn(l:Lsn):Prop:=l.heard.length≤1000000∧∀h∈l.heard,okItms h.items
def okSigs(l:List Sig):Prop:=l.length≤1000000∧∀x∈l,x.srcs.length≤1000000
theorem itms_ok{n:Int}{l:List Itm}(h:itmsOk n l):okItms l:=
 ⟨by have:=ver_len h;omega,fun x hx=>by have:=srcs_len (h.1 x hx).2.2;omega⟩
theorem spk_ok{s:Spk}(h:spkOk s):okSpk s:=⟨itms_ok h.2.2.2.1,by have:=h.2.2.2.2.1;omega⟩
theorem lsn_ok{l:Lsn}(h:lsnOk l):okLsn l:=⟨by have:=h.2.2.1;omega,fun x hx=>itms_ok (h.2.2.2.1 x hx).2.2.2.2⟩
theorem sig_srcs{x:Sig}(h:sigErr x=0):x.srcs.length≤1000000:=by
 unfold sigErr at h
 split at h
 ·omega
 split at h
 ·omega
 split at h
 ·have:=srcs_len h;omega
 ·split at h
  ·omega
  ·rename_i q
   have:x.srcs=[]:=by
    by_cases e:x.srcs=[]
    ·exact e
    ·exact absurd (.inr e) q
   rw [this];simp
theorem set_self{α:Type}{l:List α}{k:Nat}{x:α}(h:l[k]?=some x):l.set k x=l:=by
 obtain ⟨hk,e⟩:=List.getElem?_eq_some_iff.mp h
 rw [←e];exact List.set_getElem_self hk
def cloneT_a(s:(List Itm)):Prop:=okL [.sl 4 (s.map Itm.v) false]
def cloneT_e(r:(List Itm)):AV:=.vec 0
def cloneT_b(r:(List Itm)):List (Option Blk):=[some (.vec 4 (r.map Itm.v))]
def cloneT_x(s:(List Itm)):Ax Tryz.prog noS ((List Itm)):=
 (.allB (fun b1=>((s.map Itm.v)≠[]→b1=false)) fun b1 =>
(.br 48 (b1 != false) (.cmdL (.nilT 2 4) (.retH [] ⟨[(2,.k,.vec 0)],[.vec 4 [] rfl]⟩ [64]))
(.say (fun R=>Rf (α:=List AV) [] (Rf (α:=List AV) (s.map Itm.v)
(ck (decide (0+s.length≤1000000))
R))) (.app 80 Itm.v [] s
(.retH s ⟨[(2,.k,.vec 0)],[.vec 4 (s.map Itm.v) (pureBL_map (fun _=>rfl) s)]⟩ [80])))))
def cloneT_vc(s:(List Itm))(r0:(List Itm)):Prop:=(cloneT_x s).vc cloneT_e cloneT_b r0
theorem cloneT_p(s:List Itm)(h:s.length≤1000000)(ok:cloneT_a s):cloneT_vc s s:=by
 dsimp only [cloneT_vc,cloneT_x,noS,Ax.vp,Ax.vc];simp only [vcU,rfU,List.length_map]
 intro b hb
 refine ⟨fun h1=>?_,fun _=>by first|omega|exact ⟨by omega,trivial⟩|simpa using h⟩
 cases s with
 | nil=>rfl
 | cons x s=>simp at hb;simp [hb] at h1
def cloneT_h(s:(List Itm))(h:s.length≤1000000):HC Tryz.prog:=⟨178,[(.s 4)],[.sl 4 (s.map Itm.v) false],[],cloneT_e s,cloneT_b s,HSpec.of_okh fun ok _=>mxH_of (sh:=.k) (enc:=cloneT_e) (hB:=cloneT_b) (a:=(cloneT_x s).an) (cloneT_p s h ok) (by kernel_rfl),fnB_ok (by kernel_rfl),HcOk.of (by simp [hcB,belBL,AV.belB,allB,okBk,okBkO,cloneT_e,cloneT_b,pureBL_map (v:=Itm.v) (fun _=>rfl)])⟩
def cloneH_a(s:(List Hrd)):Prop:=okL [.sl 4 (s.map Hrd.v) false]
def cloneH_e(r:(List Hrd)):AV:=.vec 0
def cloneH_b(r:(List Hrd)):List (Option Blk):=[some (.vec 4 (r.map Hrd.v))]
def cloneH_x(s:(List Hrd)):Ax Tryz.prog noS ((List Hrd)):=
 (.allB (fun b1=>((s.map Hrd.v)≠[]→b1=false)) fun b1 =>
(.br 48 (b1 != false) (.cmdL (.nilT 2 4) (.retH [] ⟨[(2,.k,.vec 0)],[.vec 4 [] rfl]⟩ [64]))
(.say (fun R=>Rf (α:=List AV) [] (Rf (α:=List AV) (s.map Hrd.v)
(ck (decide (0+s.length≤1000000))
R))) (.app 80 Hrd.v [] s
(.retH s ⟨[(2,.k,.vec 0)],[.vec 4 (s.map Hrd.v) (pureBL_map (fun _=>rfl) s)]⟩ [80])))))
def cloneH_vc(s:(List Hrd))(r0:(List Hrd)):Prop:=(cloneH_x s).vc cloneH_e cloneH_b r0
theorem cloneH_p(s:List Hrd)(h:s.length≤1000000)(ok:cloneH_a s):cloneH_vc s s:=by
 dsimp only [cloneH_vc,cloneH_x,noS,Ax.vp,Ax.vc];simp only [vcU,rfU,List.length_map]
 intro b hb
 refine ⟨fun h1=>?_,fun _=>by first|omega|exact ⟨by omega,trivial⟩|simpa using h⟩
 cases s with
 | nil=>rfl
 | cons x s=>simp at hb;simp [hb] at h1
def cloneH_h(s:(List Hrd))(h:s.length≤1000000):HC Tryz.prog:=⟨160,[(.s 4)],[.sl 4 (s.map Hrd.v) false],[],cloneH_e s,cloneH_b s,HSpec.of_okh fun ok _=>mxH_of (sh:=.k) (enc:=cloneH_e) (hB:=cloneH_b) (a:=(cloneH_x s).an) (cloneH_p s h ok) (by kernel_rfl),fnB_ok (by kernel_rfl),HcOk.of (by simp [hcB,belBL,AV.belB,allB,okBk,okBkO,cloneH_e,cloneH_b,pureBL_map (v:=Hrd.v) (fun _=>rfl)])⟩
def cloneG_a(s:(List Sig)):Prop:=okL [.sl 10 (s.map Sig.v) false]
def cloneG_e(r:(List Sig)):AV:=.vec 0
def cloneG_b(r:(List Sig)):List (Option Blk):=[some (.vec 10 (r.map Sig.v))]
def cloneG_x(s:(List Sig)):Ax Tryz.prog noS ((List Sig)):=
 (.allB (fun b1=>((s.map Sig.v)≠[]→b1=false)) fun b1 =>
(.br 48 (b1 != false) (.cmdL (.nilT 2 10) (.retH [] ⟨[(2,.k,.vec 0)],[.vec 10 [] rfl]⟩ [64]))
(.say (fun R=>Rf (α:=List AV) [] (Rf (α:=List AV) (s.map Sig.v)
(ck (decide (0+s.length≤1000000))
R))) (.app 80 Sig.v [] s
(.retH s ⟨[(2,.k,.vec 0)],[.vec 10 (s.map Sig.v) (pureBL_map (fun _=>rfl) s)]⟩ [80])))))
def cloneG_vc(s:(List Sig))(r0:(List Sig)):Prop:=(cloneG_x s).vc cloneG_e cloneG_b r0
theorem cloneG_p(s:List Sig)(h:s.length≤1000000)(ok:cloneG_a s):cloneG_vc s s:=by
 dsimp only [cloneG_vc,cloneG_x,noS,Ax.vp,Ax.vc];simp only [vcU,rfU,List.length_map]
 intro b hb
 refine ⟨fun h1=>?_,fun _=>by first|omega|exact ⟨by omega,trivial⟩|simpa using h⟩
 cases s with
 | nil=>rfl
 | cons x s=>simp at hb;simp [hb] at h1
def cloneG_h(s:(List Sig))(h:s.length≤1000000):HC Tryz.prog:=⟨129,[(.s 10)],[.sl 10 (s.map Sig.v) false],[],cloneG_e s,cloneG_b s,HSpec.of_okh fun ok _=>mxH_of (sh:=.k) (enc:=cloneG_e) (hB:=cloneG_b) (a:=(cloneG_x s).an) (cloneG_p s h ok) (by kernel_rfl),fnB_ok (by kernel_rfl),HcOk.of (by simp [hcB,belBL,AV.belB,allB,okBk,okBkO,cloneG_e,cloneG_b,pureBL_map (v:=Sig.v) (fun _=>rfl)])⟩
def itemsC_a(l:(List Itm)):Prop:=okL [.sl 4 (l.map Itm.v) false]
def itemsC_n0(l:(List Itm))(t0:Int×(List Itm)):NF:=⟨[(0,.k,.vec 0),(7,.k,.int ((l.map Itm.v).length:Int)),(8,.k,.int t0.1)],[.vec 4 (t0.2.map Itm.v) (pureBL_map (fun _=>rfl) t0.2)]⟩
@[reducible] def itemsC_s:Nat→Type
 | 0=>Int×(List Itm)
 | _=>Unit
def itemsC_e(r:(List Itm)):AV:=.sl 4 (r.map Itm.v) false
def itemsC_x(l:(List Itm))(I0:(Int×(List Itm))→Prop)(m0:(Int×(List Itm))→Nat):Ax Tryz.prog itemsC_s ((List Itm)):=
 (.req 32 (l.length≤1000000) fun h1 =>
(.callH [] (cloneT_h l h1) 32
(.loop 0 (itemsC_n0 l) I0 m0 (0,l) [32] fun (t0:Int×(List Itm)) b0 =>
(.br 17 (decide (t0.1<((l.map Itm.v).length:Int))) (.say (ck (cond (decide (0≤t0.1)) (decide (t0.1<((t0.2.map Itm.v).length:Int))) false)) (.el 161 Itm.v t0.2 (fun R=>Rf (t0.2.map Itm.v) (ck (decide (t0.1.toNat<t0.2.length))
(∀x2,t0.2[t0.1.toNat]?=some x2 →
(R x2)))) fun x2 =>
(.req 177 (x2.srcs.length≤1000000) fun h3 =>
(.callP (cloneI_c x2.srcs h3)
(.say (ck (cond (decide (0≤t0.1)) (decide (t0.1<((t0.2.map Itm.v).length:Int))) false)) (.st 241 Itm.v t0.2 (fun y4=>(⟨y4.ver,y4.grp,y4.mode,x2.srcs⟩:Itm)) (fun R=>Rf (t0.2.map Itm.v) (ck (decide (t0.1.toNat<t0.2.length))
(∀y4,t0.2[t0.1.toNat]?=some y4→Rf (Itm.v (⟨y4.ver,y4.grp,y4.mode,x2.srcs⟩:Itm))
((R y4))))) fun y4 =>
(.bk 0 b0 (W (t0.1+1),t0.2.set t0.1.toNat (⟨y4.ver,y4.grp,y4.mode,x2.srcs⟩:Itm)) [0])))))))
(.say (Rf (t0.2.map Itm.v)) (.cmdL (.frzE 0 (t0.2.map Itm.v) (pureBL_map (fun _=>rfl) t0.2)) (.ret (t0.2))))))))
def itemsC_vc(l:(List Itm))(I0:(Int×(List Itm))→Prop)(m0:(Int×(List Itm))→Nat)(r0:(List Itm)):Prop:=(itemsC_x l I0 m0).vp itemsC_e r0
theorem itemsC_p(l:List Itm)(h:okItms l)(ok:itemsC_a l):∃I m,itemsC_vc l I m l:=by
 obtain ⟨h1,h2⟩:=h
 refine ⟨fun t=>∃k:Nat,t=((k:Int),l)∧k≤l.length,fun t=>l.length-t.1.toNat,?_⟩
 dsimp only [itemsC_vc,itemsC_x,itemsC_s,Ax.vp,Ax.vc];simp only [vcU,rfU,List.length_map]
 refine ⟨by omega,⟨0,rfl,by omega⟩,?_⟩
 rintro _ ⟨k,rfl,hk⟩
 simp only [Int.toNat_natCast]
 refine ⟨fun h3=>⟨by simp;omega,by omega,fun x hx=>⟨h2 x (mem_of_get hx),by simp;omega,by omega,fun y hy=>?_⟩⟩,fun _=>trivial⟩
 cases hx.symm.trans hy
 rw [W_succ (n:=l.length) (by omega) (by omega)]
 refine ⟨⟨k+1,?_,by omega⟩,by omega⟩
 exact congrArg _ (set_self hx)
def itemsC_c(l:(List Itm))(h:okItms l):PC Tryz.prog:=⟨159,[(.s 4)],[.sl 4 (l.map Itm.v) false],itemsC_e l,PSpec.of_ok fun ok=>(itemsC_p l h ok).elim fun I0 h=>h.elim fun m0 h=>mxP_of (sh:=(.s 4)) (enc:=itemsC_e) (a:=(itemsC_x l I0 m0).an) h (by kernel_rfl) (AV.pureB_ok rfl),fnB_ok (by kernel_rfl)⟩
def lsnrC_a(l:Lsn):Prop:=okL [.agg [.int l.router,.int l.epoch,.sl 4 (l.heard.map Hrd.v) false]]
def lsnrC_n0(l:Lsn)(t0:Int×(List Hrd)):NF:=⟨[(1,.k,.ref 0 0),(2,.k,.ref 2 0),(10,.k,.int ((l.heard.map Hrd.v).length:Int)),(11,.k,.int t0.1)],[.box (.agg [.int l.router,.int l.epoch,.vec 1]),.vec 4 (t0.2.map Hrd.v) (pureBL_map (fun _=>rfl) t0.2),.box (.agg [.int 0,.int 0,.sl 0 [] true])]⟩
@[reducible] def lsnrC_s:Nat→Type
 | 0=>Int×(List Hrd)
 | _=>Unit
def lsnrC_e(r:Lsn):AV:=Lsn.v r
def lsnrC_x(l:Lsn)(I0:(Int×(List Hrd))→Prop)(m0:(Int×(List Hrd))→Nat):Ax Tryz.prog lsnrC_s (Lsn):=
 (.req 64 (l.heard.length≤1000000) fun h1 =>
(.callH [] (cloneH_h l.heard h1) 64
(.loop 0 (lsnrC_n0 l) I0 m0 (0,l.heard) [0,64,16] fun (t0:Int×(List Hrd)) b0 =>
(.br 19 (decide (t0.1<((l.heard.map Hrd.v).length:Int))) (.say (ck (cond (decide (0≤t0.1)) (decide (t0.1<((t0.2.map Hrd.v).length:Int))) false)) (.el 179 Hrd.v t0.2 (fun R=>Rf (t0.2.map Hrd.v) (ck (decide (t0.1.toNat<t0.2.length))
(∀x2,t0.2[t0.1.toNat]?=some x2 →
(R x2)))) fun x2 =>
(.req 195 (okItms x2.items) fun h3 =>
(.callP (itemsC_c x2.items h3)
(.say (ck (cond (decide (0≤t0.1)) (decide (t0.1<((t0.2.map Hrd.v).length:Int))) false)) (.st 243 Hrd.v t0.2 (fun y4=>(⟨y4.router,y4.epoch,y4.ver,x2.items⟩:Hrd)) (fun R=>Rf (t0.2.map Hrd.v) (ck (decide (t0.1.toNat<t0.2.length))
(∀y4,t0.2[t0.1.toNat]?=some y4→Rf (Hrd.v (⟨y4.router,y4.epoch,y4.ver,x2.items⟩:Hrd))
((R y4))))) fun y4 =>
(.bk 0 b0 (W (t0.1+1),t0.2.set t0.1.toNat (⟨y4.router,y4.epoch,y4.ver,x2.items⟩:Hrd)) [0,1,2])))))))
(.say (Rf (t0.2.map Hrd.v)) (.cmdL (.frzE 1 (t0.2.map Hrd.v) (pureBL_map (fun _=>rfl) t0.2)) (.ret ((⟨l.router,l.epoch,t0.2⟩:Lsn)))))))))
def lsnrC_vc(l:Lsn)(I0:(Int×(List Hrd))→Prop)(m0:(Int×(List Hrd))→Nat)(r0:Lsn):Prop:=(lsnrC_x l I0 m0).vp lsnrC_e r0
theorem lsnrC_p(l:Lsn)(h:okLsn l)(ok:lsnrC_a l):∃I m,lsnrC_vc l I m l:=by
 obtain ⟨h1,h2⟩:=h
 refine ⟨fun t=>∃k:Nat,t=((k:Int),l.heard)∧k≤l.heard.length,fun t=>l.heard.length-t.1.toNat,?_⟩
 dsimp only [lsnrC_vc,lsnrC_x,lsnrC_s,Ax.vp,Ax.vc];simp only [vcU,rfU,List.length_map]
 refine ⟨by omega,⟨0,rfl,by omega⟩,?_⟩
 rintro _ ⟨k,rfl,hk⟩
 simp only [Int.toNat_natCast]
 refine ⟨fun h3=>⟨by simp;omega,by omega,fun x hx=>⟨h2 x (mem_of_get hx),by simp;omega,by omega,fun y hy=>?_⟩⟩,fun _=>trivial⟩
 cases hx.symm.trans hy
 rw [W_succ (n:=l.heard.length) (by omega) (by omega)]
 refine ⟨⟨k+1,?_,by omega⟩,by omega⟩
 exact congrArg _ (set_self hx)
def lsnrC_c(l:Lsn)(h:okLsn l):PC Tryz.prog:=⟨118,[(.a [.k,.k,(.s 4)])],[.agg [.int l.router,.int l.epoch,.sl 4 (l.heard.map Hrd.v) false]],lsnrC_e l,PSpec.of_ok fun ok=>(lsnrC_p l h ok).elim fun I0 h=>h.elim fun m0 h=>mxP_of (sh:=(.a [.k,.k,(.s 4)])) (enc:=lsnrC_e) (a:=(lsnrC_x l I0 m0).an) h (by kernel_rfl) (AV.pureB_ok rfl),fnB_ok (by kernel_rfl)⟩
def sigsC_a(l:(List Sig)):Prop:=okL [.sl 10 (l.map Sig.v) false]
def sigsC_n0(l:(List Sig))(t0:Int×(List Sig)):NF:=⟨[(0,.k,.vec 0),(7,.k,.int ((l.map Sig.v).length:Int)),(8,.k,.int t0.1)],[.vec 10 (t0.2.map Sig.v) (pureBL_map (fun _=>rfl) t0.2)]⟩
@[reducible] def sigsC_s:Nat→Type
 | 0=>Int×(List Sig)
 | _=>Unit
def sigsC_e(r:(List Sig)):AV:=.vec 0
def sigsC_b(r:(List Sig)):List (Option Blk):=[some (.vec 10 (r.map Sig.v))]
def sigsC_x(l:(List Sig))(I0:(Int×(List Sig))→Prop)(m0:(Int×(List Sig))→Nat):Ax Tryz.prog sigsC_s ((List Sig)):=
 (.req 32 (l.length≤1000000) fun h1 =>
(.callH [] (cloneG_h l h1) 32
(.loop 0 (sigsC_n0 l) I0 m0 (0,l) [32] fun (t0:Int×(List Sig)) b0 =>
(.br 17 (decide (t0.1<((l.map Sig.v).length:Int))) (.say (ck (cond (decide (0≤t0.1)) (decide (t0.1<((t0.2.map Sig.v).length:Int))) false)) (.el 161 Sig.v t0.2 (fun R=>Rf (t0.2.map Sig.v) (ck (decide (t0.1.toNat<t0.2.length))
(∀x2,t0.2[t0.1.toNat]?=some x2 →
(R x2)))) fun x2 =>
(.req 177 (x2.srcs.length≤1000000) fun h3 =>
(.callP (cloneI_c x2.srcs h3)
(.say (ck (cond (decide (0≤t0.1)) (decide (t0.1<((t0.2.map Sig.v).length:Int))) false)) (.st 241 Sig.v t0.2 (fun y4=>(⟨y4.kind,y4.src,y4.dst,y4.epoch,y4.ver,y4.prev,y4.pep,y4.grp,y4.mode,x2.srcs⟩:Sig)) (fun R=>Rf (t0.2.map Sig.v) (ck (decide (t0.1.toNat<t0.2.length))
(∀y4,t0.2[t0.1.toNat]?=some y4→Rf (Sig.v (⟨y4.kind,y4.src,y4.dst,y4.epoch,y4.ver,y4.prev,y4.pep,y4.grp,y4.mode,x2.srcs⟩:Sig))
((R y4))))) fun y4 =>
(.bk 0 b0 (W (t0.1+1),t0.2.set t0.1.toNat (⟨y4.kind,y4.src,y4.dst,y4.epoch,y4.ver,y4.prev,y4.pep,y4.grp,y4.mode,x2.srcs⟩:Sig)) [0])))))))
(.retH t0.2 ⟨[(2,.k,.vec 0)],[.vec 10 (t0.2.map Sig.v) (pureBL_map (fun _=>rfl) t0.2)]⟩ [0])))))
def sigsC_vc(l:(List Sig))(I0:(Int×(List Sig))→Prop)(m0:(Int×(List Sig))→Nat)(r0:(List Sig)):Prop:=(sigsC_x l I0 m0).vc sigsC_e sigsC_b r0
theorem sigsC_p(l:List Sig)(h:okSigs l)(ok:sigsC_a l):∃I m,sigsC_vc l I m l:=by
 obtain ⟨h1,h2⟩:=h
 refine ⟨fun t=>∃k:Nat,t=((k:Int),l)∧k≤l.length,fun t=>l.length-t.1.toNat,?_⟩
 dsimp only [sigsC_vc,sigsC_x,sigsC_s,Ax.vp,Ax.vc];simp only [vcU,rfU,List.length_map]
 refine ⟨by omega,⟨0,rfl,by omega⟩,?_⟩
 rintro _ ⟨k,rfl,hk⟩
 simp only [Int.toNat_natCast]
 refine ⟨fun h3=>⟨by simp;omega,by omega,fun x hx=>⟨h2 x (mem_of_get hx),by simp;omega,by omega,fun y hy=>?_⟩⟩,fun _=>trivial⟩
 cases hx.symm.trans hy
 rw [W_succ (n:=l.length) (by omega) (by omega)]
 refine ⟨⟨k+1,?_,by omega⟩,by omega⟩
 exact congrArg _ (set_self hx)
def sigsC_h(l:(List Sig))(h:okSigs l):HC Tryz.prog:=⟨63,[(.s 10)],[.sl 10 (l.map Sig.v) false],[],sigsC_e l,sigsC_b l,HSpec.of_okh fun ok _=>(sigsC_p l h ok).elim fun I0 h=>h.elim fun m0 h=>mxH_of (sh:=.k) (enc:=sigsC_e) (hB:=sigsC_b) (a:=(sigsC_x l I0 m0).an) h (by kernel_rfl),fnB_ok (by kernel_rfl),HcOk.of (by simp [hcB,belBL,AV.belB,allB,okBk,okBkO,sigsC_e,sigsC_b,pureBL_map (v:=Sig.v) (fun _=>rfl)])⟩
def spkrC_a(s:Spk):Prop:=okL [.agg [.int s.router,.int s.epoch,.int s.last,.sl 4 (s.items.map Itm.v) false,.sl 3 (s.peers.map Per.v) false]]
def spkrC_e(r:Spk):AV:=Spk.v r
def spkrC_x(s:Spk):Ax Tryz.prog noS (Spk):=
 (.req 64 (okItms s.items) fun h1 =>
(.callP (itemsC_c s.items h1)
(.req 112 (s.peers.length≤1000000) fun h2 =>
(.callH [] (cloneP_h s.peers h2) 112
(.say (Rf (s.peers.map Per.v)) (.cmdL (.frzE 112 (s.peers.map Per.v) (pureBL_map (fun _=>rfl) s.peers)) (.ret (s))))))))
def spkrC_vc(s:Spk)(r0:Spk):Prop:=(spkrC_x s).vp spkrC_e r0
theorem spkrC_p(s:Spk)(h:okSpk s)(ok:spkrC_a s):spkrC_vc s s:=by
 dsimp only [spkrC_vc,spkrC_x,noS,Ax.vp,Ax.vc];simp only [vcU,rfU,List.length_map]
 exact ⟨h.1,h.2,trivial⟩
def spkrC_c(s:Spk)(h:okSpk s):PC Tryz.prog:=⟨117,[(.a [.k,.k,.k,(.s 4),(.s 3)])],[.agg [.int s.router,.int s.epoch,.int s.last,.sl 4 (s.items.map Itm.v) false,.sl 3 (s.peers.map Per.v) false]],spkrC_e s,PSpec.of_ok fun ok=>mxP_of (sh:=(.a [.k,.k,.k,(.s 4),(.s 3)])) (enc:=spkrC_e) (a:=(spkrC_x s).an) (spkrC_p s h ok) (by kernel_rfl) (AV.pureB_ok rfl),fnB_ok (by kernel_rfl)⟩
theorem ovl_sigs{o:Ovl}(h:ovlOk o)(hl:o.fl.length≤1000000):okSigs o.fl:=⟨hl,fun x hx=>sig_srcs (h.2 x hx).1⟩
def copO_a(o:Ovl):Prop:=okL [.agg [.sl 5 (o.sp.map Spk.v) false,.sl 3 (o.ls.map Lsn.v) false,.sl 10 (o.fl.map Sig.v) false]]
def copO_n0(o:Ovl)(t0:Int×(List Lsn)×(List Spk)):NF:=⟨[(1,.k,.ref 0 0),(2,.k,.ref 1 0),(3,.k,.ref 2 0),(11,.k,.int ((o.sp.map Spk.v).length:Int)),(12,.k,.int t0.1)],[.box (.agg [.sl 5 (o.sp.map Spk.v) false,.sl 3 (o.ls.map Lsn.v) false,.sl 10 (o.fl.map Sig.v) false]),.box (.agg [.sl 0 [] true,.sl 0 [] true,.sl 0 [] true]),.box (.agg [.vec 3,.vec 4,.vec 5]),.vec 5 (t0.2.2.map Spk.v) (pureBL_map (fun _=>rfl) t0.2.2),.vec 3 (t0.2.1.map Lsn.v) (pureBL_map (fun _=>rfl) t0.2.1),.vec 10 (o.fl.map Sig.v) (pureBL_map (fun _=>rfl) o.fl)]⟩
@[reducible] def copO_s:Nat→Type
 | 0=>Int×(List Lsn)×(List Spk)
 | _=>Unit
def copO_e(r:Ovl):AV:=.agg [.vec 0,.vec 1,.vec 2]
def copO_b(r:Ovl):List (Option Blk):=[some (.vec 5 (r.sp.map Spk.v)),some (.vec 3 (r.ls.map Lsn.v)),some (.vec 10 (r.fl.map Sig.v))]
def copO_x(o:Ovl)(I0:(Int×(List Lsn)×(List Spk))→Prop)(m0:(Int×(List Lsn)×(List Spk))→Nat):Ax Tryz.prog copO_s (Ovl):=
 (.req 64 (okSigs o.fl) fun h1 =>
(.callH [] (sigsC_h o.fl h1) 64
(.cmdL (.nilB 96 0 5) (.cmdL (.nilB 96 1 3) (.loop 0 (copO_n0 o) I0 m0 (0,[],[]) [0,16,96,192,193,64] fun (t0:Int×(List Lsn)×(List Spk)) b0 =>
(.br 22 (decide (t0.1<((o.sp.map Spk.v).length:Int))) (.el 134 Spk.v o.sp (fun R=>Rf (o.sp.map Spk.v) (ck (decide (0≤t0.1)) (ck (decide (t0.1<(o.sp.length:Int)))
(∀x2,o.sp[t0.1.toNat]?=some x2 →
(R x2))))) fun x2 =>
(.req 166 (okSpk x2) fun h3 =>
(.callP (spkrC_c x2 h3)
(.say (fun R=>Rf (α:=List AV) (t0.2.2.map Spk.v) (Rf (α:=List AV) [.agg [.int x2.router,.int x2.epoch,.int x2.last,.sl 4 (x2.items.map Itm.v) false,.sl 3 (x2.peers.map Per.v) false]]
(ck (decide (t0.2.2.length+1≤1000000))
R))) (.app 198 Spk.v t0.2.2 [x2]
(.el 294 Lsn.v o.ls (fun R=>Rf (o.ls.map Lsn.v) (ck (decide (0≤t0.1)) (ck (decide (t0.1<(o.ls.length:Int)))
(∀x4,o.ls[t0.1.toNat]?=some x4 →
(R x4))))) fun x4 =>
(.req 326 (okLsn x4) fun h5 =>
(.callP (lsnrC_c x4 h5)
(.say (fun R=>Rf (α:=List AV) (t0.2.1.map Lsn.v) (Rf (α:=List AV) [.agg [.int x4.router,.int x4.epoch,.sl 4 (x4.heard.map Hrd.v) false]]
(ck (decide (t0.2.1.length+1≤1000000))
R))) (.app 358 Lsn.v t0.2.1 [x4]
(.bk 0 b0 (W (t0.1+1),t0.2.1++[x4],t0.2.2++[x2]) [0,1,2,198,358,5])))))))))))
(.retH (⟨t0.2.2,t0.2.1,o.fl⟩:Ovl) ⟨[(2,.k,.ref 3 0)],[.vec 5 (t0.2.2.map Spk.v) (pureBL_map (fun _=>rfl) t0.2.2),.vec 3 (t0.2.1.map Lsn.v) (pureBL_map (fun _=>rfl) t0.2.1),.vec 10 (o.fl.map Sig.v) (pureBL_map (fun _=>rfl) o.fl),.box (.agg [.vec 0,.vec 1,.vec 2])]⟩ [3,4,5,1])))))))
def copO_vc(o:Ovl)(I0:(Int×(List Lsn)×(List Spk))→Prop)(m0:(Int×(List Lsn)×(List Spk))→Nat)(r0:Ovl):Prop:=(copO_x o I0 m0).vc copO_e copO_b r0
theorem copO_p(o:Ovl)(h:ovlOk o∧o.fl.length≤1000000)(ok:copO_a o):∃I m,copO_vc o I m o:=by
 obtain ⟨h1,h2⟩:=h
 obtain ⟨n1,n2,n3,n4⟩:=ovl_iff.mp h1
 refine ⟨fun t=>∃k:Nat,t=((k:Int),o.ls.take k,o.sp.take k)∧k≤o.sp.length,fun t=>o.sp.length-t.1.toNat,?_⟩
 dsimp only [copO_vc,copO_x,copO_s,Ax.vp,Ax.vc];simp only [vcU,rfU,List.length_map]
 refine ⟨ovl_sigs h1 h2,⟨0,rfl,by omega⟩,?_⟩
 rintro _ ⟨k,rfl,hk⟩
 simp only [Int.toNat_natCast]
 refine ⟨fun h3=>⟨by omega,by omega,fun x hx=>⟨spk_ok (h1.1.spo x (mem_of_get hx)).1,by simp;omega,by omega,by omega,fun y hy=>⟨lsn_ok (h1.1.lso y (mem_of_get hy)).1,by simp;omega,?_⟩⟩⟩,fun h3=>?_⟩
 ·rw [W_succ (n:=o.sp.length) (by omega) (by omega)]
  exact ⟨⟨k+1,by rw [take_succ hx,take_succ hy],by omega⟩,by omega⟩
 ·rw [List.take_of_length_le (by omega),List.take_of_length_le (by omega)]
def copO_h(o:Ovl)(h:ovlOk o∧o.fl.length≤1000000):HC Tryz.prog:=⟨51,[(.a [(.s 5),(.s 3),(.s 10)])],[.agg [.sl 5 (o.sp.map Spk.v) false,.sl 3 (o.ls.map Lsn.v) false,.sl 10 (o.fl.map Sig.v) false]],[],copO_e o,copO_b o,HSpec.of_okh fun ok _=>(copO_p o h ok).elim fun I0 h=>h.elim fun m0 h=>mxH_of (sh:=.k) (enc:=copO_e) (hB:=copO_b) (a:=(copO_x o I0 m0).an) h (by kernel_rfl),fnB_ok (by kernel_rfl),HcOk.of (by simp [hcB,belBL,AV.belB,allB,okBk,okBkO,copO_e,copO_b,pureBL_map (v:=Lsn.v) (fun _=>rfl),pureBL_map (v:=Sig.v) (fun _=>rfl),pureBL_map (v:=Spk.v) (fun _=>rfl)])⟩
def chgA(x:Wnt)(l:List Wnt):List Wnt:=l++[⟨x.grp,1,[]⟩]
def chgB(y:Wnt)(l:List Wnt):List Wnt:=l++[y]
def chgC(x y:Wnt)(l:List Wnt):List Wnt:=if x.mode=y.mode∧x.srcs=y.srcs then l else l++[y]
def mergC:List Wnt→List Wnt→List Wnt→List Wnt
 | [],[],l=>l
 | x::a,[],l=>mergC a [] (chgA x l)
 | [],y::b,l=>mergC [] b (chgB y l)
 | x::a,y::b,l=>if x.grp<y.grp then mergC a (y::b) (chgA x l) else if y.grp<x.grp then mergC (x::a) b (chgB y l) else mergC a b (chgC x y l)
termination_by a b=>a.length+b.length
def ascW(l:List Wnt):Prop:=l.Pairwise fun x y=>x.grp<y.grp
theorem findW_cons(x:Wnt)(l:List Wnt)(g:Int):findW (x::l) g=if x.grp=g then ⟨x.mode,x.srcs⟩ else findW l g:=by
 unfold findW
 rw [List.find?_cons]
 by_cases h:x.grp=g
 ·rw [if_pos h];simp [h]
 ·rw [if_neg h];simp [h]
theorem findW_lt{l:List Wnt}{g:Int}(h:∀w∈l,g<w.grp):findW l g=⟨1,[]⟩:=findW_none fun w hw=>by have:=h w hw;omega
structure Mrg (a b l r:List Wnt):Prop where
  mem:∀w,w∈r↔w∈l∨(findW b w.grp=⟨w.mode,w.srcs⟩∧findW b w.grp≠findW a w.grp)
  asc:(∀w∈l,(∀x∈a,w.grp<x.grp)∧∀y∈b,w.grp<y.grp)→ascW l→ascW r
theorem ascW_add{l:List Wnt}{x:Wnt}(h:ascW l)(hx:∀w∈l,w.grp<x.grp):ascW (l++[x]):=
 List.pairwise_append.mpr ⟨h,List.pairwise_singleton _ _,fun a ha b hb=>by rw [List.mem_singleton] at hb;subst hb;exact hx a ha⟩
theorem Wnt.ext'{x y:Wnt}(h1:x.grp=y.grp)(h2:(⟨x.mode,x.srcs⟩:Flt)=⟨y.mode,y.srcs⟩):x=y:=by
 rw [flt_eq] at h2
 obtain ⟨h3,h4⟩:=h2
 cases x;cases y
 simp only at h1 h3 h4
 rw [h1,h3,h4]
theorem notNo{x:Wnt}(h:¬isNoW x):(⟨1,[]⟩:Flt)≠⟨x.mode,x.srcs⟩:=fun e=>by
 rw [flt_eq] at e;exact h ⟨e.1.symm,e.2.symm⟩
theorem mrg_ok:∀{a b l:List Wnt},ascW a→ascW b→(∀w∈a,¬isNoW w)→(∀w∈b,¬isNoW w)→Mrg a b l (mergC a b l)
 | [],[],l,_,_,_,_=>by
  rw [mergC]
  exact ⟨fun w=>⟨.inl,fun h=>h.elim id fun h=>absurd rfl h.2⟩,fun _ h=>h⟩
 | x::a,[],l,ha,hb,na,nb=>by
  rw [mergC]
  obtain ⟨a1,a2⟩:=List.pairwise_cons.mp ha
  have r:=mrg_ok (a:=a) (b:=[]) (l:=chgA x l) a2 hb (fun w hw=>na w (by simp [hw])) nb
  refine ⟨fun w=>?_,fun h1 h2=>r.asc (fun w hw=>?_) (ascW_add h2 fun w hw=>(h1 w hw).1 x (by simp))⟩
  ·rw [r.mem,findW_cons,chgA,List.mem_append,List.mem_singleton,show findW [] w.grp=⟨1,[]⟩ from rfl]
   by_cases e:x.grp=w.grp
   ·rw [if_pos e,findW_lt fun z hz=>by have:=a1 z hz;omega]
    constructor
    ·rintro ((h|h)|h)
     ·exact .inl h
     ·right;subst h;exact ⟨rfl,notNo (na x (by simp))⟩
     ·exact absurd rfl h.2
    ·rintro (h|⟨h,_⟩)
     ·exact .inl (.inl h)
     ·exact .inl (.inr (Wnt.ext' e.symm h.symm))
   ·rw [if_neg e]
    constructor
    ·rintro ((h|h)|h)
     ·exact .inl h
     ·subst h;exact absurd rfl e
     ·exact .inr h
    ·rintro (h|h)
     ·exact .inl (.inl h)
     ·exact .inr h
  ·rcases List.mem_append.mp hw with hw|hw
   ·exact ⟨fun z hz=>(h1 w hw).1 z (by simp [hz]),(h1 w hw).2⟩
   ·rw [List.mem_singleton] at hw;subst hw;exact ⟨a1,by simp⟩
 | [],y::b,l,ha,hb,na,nb=>by
  rw [mergC]
  obtain ⟨b1,b2⟩:=List.pairwise_cons.mp hb
  have r:=mrg_ok (a:=[]) (b:=b) (l:=chgB y l) ha b2 na fun w hw=>nb w (by simp [hw])
  refine ⟨fun w=>?_,fun h1 h2=>r.asc (fun w hw=>?_) (ascW_add h2 fun w hw=>(h1 w hw).2 y (by simp))⟩
  ·rw [r.mem,findW_cons,chgB,List.mem_append,List.mem_singleton,show findW [] w.grp=⟨1,[]⟩ from rfl]
   by_cases e:y.grp=w.grp
   ·rw [if_pos e,findW_lt fun z hz=>by have:=b1 z hz;omega]
    constructor
    ·rintro ((h|h)|h)
     ·exact .inl h
     ·right;subst h;exact ⟨rfl,(notNo (nb w (by simp))).symm⟩
     ·exact absurd rfl h.2
    ·rintro (h|⟨h,_⟩)
     ·exact .inl (.inl h)
     ·exact .inl (.inr (Wnt.ext' e.symm h.symm))
   ·rw [if_neg e]
    constructor
    ·rintro ((h|h)|h)
     ·exact .inl h
     ·subst h;exact absurd rfl e
     ·exact .inr h
    ·rintro (h|h)
     ·exact .inl (.inl h)
     ·exact .inr h
  ·rcases List.mem_append.mp hw with hw|hw
   ·exact ⟨(h1 w hw).1,fun z hz=>(h1 w hw).2 z (by simp [hz])⟩
   ·rw [List.mem_singleton] at hw;subst hw;exact ⟨by simp,b1⟩
 | x::a,y::b,l,ha,hb,na,nb=>by
  rw [mergC]
  obtain ⟨a1,a2⟩:=List.pairwise_cons.mp ha
  obtain ⟨b1,b2⟩:=List.pairwise_cons.mp hb
  by_cases c1:x.grp<y.grp
  ·rw [if_pos c1]
   have r:=mrg_ok (a:=a) (b:=y::b) (l:=chgA x l) a2 hb (fun w hw=>na w (by simp [hw])) nb
   refine ⟨fun w=>?_,fun h1 h2=>r.asc (fun w hw=>?_) (ascW_add h2 fun w hw=>(h1 w hw).1 x (by simp))⟩
   ·rw [r.mem,findW_cons x,chgA,List.mem_append,List.mem_singleton]
    by_cases e:x.grp=w.grp
    ·have eb:findW (y::b) w.grp=⟨1,[]⟩:=findW_lt fun z hz=>by
      rcases List.mem_cons.mp hz with rfl|hz
      ·omega
      ·have:=b1 z hz;omega
     rw [if_pos e,findW_lt (l:=a) fun z hz=>by have:=a1 z hz;omega,eb]
     constructor
     ·rintro ((h|h)|h)
      ·exact .inl h
      ·right;subst h;exact ⟨rfl,notNo (na x (by simp))⟩
      ·exact absurd rfl h.2
     ·rintro (h|⟨h,_⟩)
      ·exact .inl (.inl h)
      ·exact .inl (.inr (Wnt.ext' e.symm h.symm))
    ·rw [if_neg e]
     constructor
     ·rintro ((h|h)|h)
      ·exact .inl h
      ·subst h;exact absurd rfl e
      ·exact .inr h
     ·rintro (h|h)
      ·exact .inl (.inl h)
      ·exact .inr h
   ·rcases List.mem_append.mp hw with hw|hw
    ·exact ⟨fun z hz=>(h1 w hw).1 z (by simp [hz]),(h1 w hw).2⟩
    ·rw [List.mem_singleton] at hw;subst hw
     refine ⟨a1,fun z hz=>?_⟩
     rcases List.mem_cons.mp hz with rfl|hz
     ·exact c1
     ·have:=b1 z hz;simp only;omega
  rw [if_neg c1]
  by_cases c2:y.grp<x.grp
  ·rw [if_pos c2]
   have r:=mrg_ok (a:=x::a) (b:=b) (l:=chgB y l) ha b2 na fun w hw=>nb w (by simp [hw])
   refine ⟨fun w=>?_,fun h1 h2=>r.asc (fun w hw=>?_) (ascW_add h2 fun w hw=>(h1 w hw).2 y (by simp))⟩
   ·rw [r.mem,findW_cons y,chgB,List.mem_append,List.mem_singleton]
    by_cases e:y.grp=w.grp
    ·have ea:findW (x::a) w.grp=⟨1,[]⟩:=findW_lt fun z hz=>by
      rcases List.mem_cons.mp hz with rfl|hz
      ·omega
      ·have:=a1 z hz;omega
     rw [if_pos e,findW_lt (l:=b) fun z hz=>by have:=b1 z hz;omega,ea]
     constructor
     ·rintro ((h|h)|h)
      ·exact .inl h
      ·right;subst h;exact ⟨rfl,(notNo (nb w (by simp))).symm⟩
      ·exact absurd rfl h.2
     ·rintro (h|⟨h,_⟩)
      ·exact .inl (.inl h)
      ·exact .inl (.inr (Wnt.ext' e.symm h.symm))
    ·rw [if_neg e]
     constructor
     ·rintro ((h|h)|h)
      ·exact .inl h
      ·subst h;exact absurd rfl e
      ·exact .inr h
     ·rintro (h|h)
      ·exact .inl (.inl h)
      ·exact .inr h
   ·rcases List.mem_append.mp hw with hw|hw
    ·exact ⟨(h1 w hw).1,fun z hz=>(h1 w hw).2 z (by simp [hz])⟩
    ·rw [List.mem_singleton] at hw;subst hw
     refine ⟨fun z hz=>?_,b1⟩
     rcases List.mem_cons.mp hz with rfl|hz
     ·exact c2
     ·have:=a1 z hz;omega
  rw [if_neg c2]
  have c3:x.grp=y.grp:=by omega
  have r:=mrg_ok (a:=a) (b:=b) (l:=chgC x y l) a2 b2 (fun w hw=>na w (by simp [hw])) fun w hw=>nb w (by simp [hw])
  by_cases c4:x.mode=y.mode∧x.srcs=y.srcs
  ·have ec:chgC x y l=l:=if_pos c4
   have ef:(⟨x.mode,x.srcs⟩:Flt)=⟨y.mode,y.srcs⟩:=by rw [c4.1,c4.2]
   rw [ec] at r ⊢
   refine ⟨fun w=>?_,fun h1 h2=>r.asc (fun w hw=>⟨fun z hz=>(h1 w hw).1 z (by simp [hz]),fun z hz=>(h1 w hw).2 z (by simp [hz])⟩) h2⟩
   rw [r.mem,findW_cons x,findW_cons y]
   by_cases e:y.grp=w.grp
   ·rw [if_pos e,if_pos (c3.trans e),findW_lt (l:=a) fun z hz=>by have:=a1 z hz;omega,findW_lt (l:=b) fun z hz=>by have:=b1 z hz;omega]
    constructor
    ·rintro (h|h)
     ·exact .inl h
     ·exact absurd rfl h.2
    ·rintro (h|h)
     ·exact .inl h
     ·exact absurd ef.symm h.2
   ·rw [if_neg e,if_neg (by omega)]
  ·have ec:chgC x y l=l++[y]:=if_neg c4
   have ef:(⟨y.mode,y.srcs⟩:Flt)≠⟨x.mode,x.srcs⟩:=fun e=>c4 (by rw [flt_eq] at e;exact ⟨e.1.symm,e.2.symm⟩)
   rw [ec] at r ⊢
   refine ⟨fun w=>?_,fun h1 h2=>r.asc (fun w hw=>?_) (ascW_add h2 fun w hw=>(h1 w hw).2 y (by simp))⟩
   ·rw [r.mem,findW_cons x,findW_cons y,List.mem_append,List.mem_singleton]
    by_cases e:y.grp=w.grp
    ·rw [if_pos e,if_pos (c3.trans e),findW_lt (l:=a) fun z hz=>by have:=a1 z hz;omega,findW_lt (l:=b) fun z hz=>by have:=b1 z hz;omega]
     constructor
     ·rintro ((h|h)|h)
      ·exact .inl h
      ·right;subst h;exact ⟨rfl,ef⟩
      ·exact absurd rfl h.2
     ·rintro (h|⟨h,_⟩)
      ·exact .inl (.inl h)
      ·exact .inl (.inr (Wnt.ext' e.symm h.symm))
    ·rw [if_neg e,if_neg (by omega)]
     constructor
     ·rintro ((h|h)|h)
      ·exact .inl h
      ·subst h;exact absurd rfl e
      ·exact .inr h
     ·rintro (h|h)
      ·exact .inl (.inl h)
      ·exact .inr h
   ·rcases List.mem_append.mp hw with hw|hw
    ·exact ⟨fun z hz=>(h1 w hw).1 z (by simp [hz]),fun z hz=>(h1 w hw).2 z (by simp [hz])⟩
    ·rw [List.mem_singleton] at hw;subst hw
     exact ⟨fun z hz=>by have:=a1 z hz;omega,b1⟩
termination_by a b=>a.length+b.length
theorem mergC_to{a b:List Wnt}(h1:wErr false a=0)(h2:wErr false b=0):mergC a b []=chgsTo a b 99:=by
 have w1:=wErr_zero.mp h1
 have w2:=wErr_zero.mp h2
 have r:=mrg_ok (l:=[]) w1.2.2.2.2 w2.2.2.2.2 (w1.2.2.2.1 rfl) (w2.2.2.2.1 rfl)
 refine ascW_ext (r.asc (by simp) List.Pairwise.nil) (chgsTo_ok w2.2.2.1 99).asc fun w=>?_
 rw [r.mem,mem_chgsTo]
 simp only [List.not_mem_nil,false_or]
 refine ⟨fun h=>⟨?_,h.1,h.2⟩,fun h=>⟨h.2.1,h.2.2⟩⟩
 by_cases q:findW b w.grp=⟨1,[]⟩
 ·have:findW a w.grp≠⟨1,[]⟩:=fun e=>h.2 (by rw [q,e])
  obtain ⟨x,hx,e,_⟩:=findW_some this
  rw [←e];exact w1.2.1 x hx
 ·obtain ⟨x,hx,e,_⟩:=findW_some q
  rw [←e];exact w2.2.1 x hx
theorem HSpec.supH{P:Program}{f:FuncId}{args:List AV}{hs:List Blk}{r:AV}{h1 h2:List (Option Blk)}(hl:h1.length=h2.length)
  (hn:∀(i:Nat) (x:Blk),h2[i]?=some (some x)→∃y,h1[i]?=some (some y)∧∀w A μ hd,BlkOk w A μ hd y→BlkOk w A μ hd x)
  (hm:∀(i:Nat) (y:Blk),h1[i]?=some (some y)→∃x,h2[i]?=some (some x)) (h:HSpec P f args hs r h1):HSpec P f args hs r h2:=by
 intro w A μ cargs g1 g2 g3
 refine (h w A μ cargs g1 g2 g3).mono ?_
 rintro e w' ⟨v,A',μ',e1,e2,e3,e4,e5,e6,e7,e8⟩
 have own':ownOf μ' (hpOf h2)=ownOf μ' (hpOf h1):=by
  funext b
  refine propext ⟨?_,?_⟩
  ·rintro ⟨i,x,hd,a1,a2,a3,a4⟩
   obtain ⟨y,b1,_⟩:=hn i x (hpOf_opt.mp a1)
   exact ⟨i,y,hd,hpOf_opt.mpr b1,a2,a3,a4⟩
  ·rintro ⟨i,y,hd,a1,a2,a3,a4⟩
   obtain ⟨x,b1⟩:=hm i y (hpOf_opt.mp a1)
   exact ⟨i,x,hd,hpOf_opt.mpr b1,a2,a3,a4⟩
 refine ⟨v,A',μ',e1,e2,⟨fun b x hx=>?_,fun b b' x x' hd hd' hx hx'=>?_,e3.lt⟩,e4,e5,e6,e7,by rw [own'];exact e8⟩
 ·obtain ⟨y,b1,b2⟩:=hn b x (hpOf_opt.mp hx)
  obtain ⟨hd,c1,c2,c3⟩:=e3.blk b y (hpOf_opt.mpr b1)
  exact ⟨hd,c1,b2 w' A' μ' hd c2,c3⟩
 ·obtain ⟨y,b1,_⟩:=hn b x (hpOf_opt.mp hx)
  obtain ⟨y',b1',_⟩:=hn b' x' (hpOf_opt.mp hx')
  exact e3.inj b b' y y' hd hd' (hpOf_opt.mpr b1) (hpOf_opt.mpr b1')
def nilW(x:Wnt):AV:=.agg [.int x.grp,.int 1,.sl 0 [] true]
def rawA(x:Wnt)(out:List Wnt):List AV:=out.map Wnt.v++[nilW x]
theorem map_idV(l:List AV):l.map (fun y=>y)=l:=List.map_id'' (fun _=>rfl) l
theorem rawA_pure(x:Wnt):∀out:List Wnt,pureBL (rawA x out)=true
 | []=>rfl
 | y::l=>by
  have:=rawA_pure x l
  unfold rawA at this ⊢
  rw [List.map_cons,List.cons_append,pureBL,this];rfl
theorem rawA_pure'(x:Wnt)(out:List Wnt):pureBL ((rawA x out).map fun y=>y)=true:=by rw [map_idV];exact rawA_pure x out
def rawA_e(r:List AV):AV:=.tup []
def rawA_b(r:List AV):List (Option Blk):=[some (.box (.vec 2)),none,some (.vec 3 (r.map fun y=>y))]
def rawA_s:Nat→Type
 | _=>Unit
theorem rawA_eq(x:Wnt)(out:List Wnt):mxH Tryz.prog 105 [.rptr (.agg [.int x.grp,.int x.mode,.sl 1 (x.srcs.map AV.int) false]) 0,.val (.pointer none),.ref 0 0] [.box (.vec 1),.vec 3 (out.map Wnt.v)] .k rawA_e rawA_b ((.app 178 (fun y=>y) (out.map Wnt.v) [nilW x]
  (.retH (rawA x out) ⟨[],[.box (.vec 2),.gone,.vec 3 ((rawA x out).map fun y=>y) (rawA_pure' x out)]⟩ [0,1,178])):An Tryz.prog rawA_s (List AV)) (rawA x out) =
  (out.map Wnt.v=(out.map Wnt.v).map (fun y=>y)∧[nilW x]=[nilW x].map (fun y=>y)∧ck (decide ((out.map Wnt.v).length+1≤1000000))
   (Nf ⟨[],[.box (.vec 2),.gone,.vec 3 ((rawA x out).map fun y=>y) (rawA_pure' x out)]⟩ [0,1,178] (Rf (rawA_e (rawA x out)) (Rf (rawA_b (rawA x out)) (rawA x out=rawA x out))))):=by kernel_rfl
theorem rawA_ok(x:Wnt)(out:List Wnt)(hl:out.length≤900000):HSpec Tryz.prog 105 [.rptr (.agg [.int x.grp,.int x.mode,.sl 1 (x.srcs.map AV.int) false]) 0,.val (.pointer none),.ref 0 0] [.box (.vec 1),.vec 3 (out.map Wnt.v)] (rawA_e (rawA x out)) (rawA_b (rawA x out)):=by
 have e:=rawA_eq x out
 refine mxH_ok (enc:=rawA_e) (hB:=rawA_b) (e.mpr ⟨(map_idV _).symm,rfl,?_⟩)
 simp only [vcU,rfU,List.length_map]
 exact ⟨by omega,trivial⟩
def chgA_e(r:List Wnt):AV:=.tup []
def chgA_b(r:List Wnt):List (Option Blk):=[some (.box (.vec 2)),none,some (.vec 3 (r.map Wnt.v))]
theorem rawA_sub(x:Wnt)(out:List Wnt):((rawA x out).map fun y=>y).map (fitA (.a [.k,.k,.s 1]))=(chgA x out).map Wnt.v:=by
 rw [map_idV,rawA,chgA,List.map_append,List.map_append,List.map_map]
 exact congr (congrArg _ (List.map_congr_left fun y _=>rfl)) rfl
def chgA_h(x:Wnt)(out:List Wnt)(h:x.srcs.length≤1000000)(hl:out.length≤900000):HC Tryz.prog:=
 ⟨105,[.k,.k,.k],[.rptr (.agg [.int x.grp,.int x.mode,.sl 1 (x.srcs.map AV.int) false]) 0,.val (.pointer none),.ref 0 0],[.box (.vec 1),.vec 3 (out.map Wnt.v)],chgA_e (chgA x out),chgA_b (chgA x out),
  HSpec.supH (h1:=rawA_b (rawA x out)) rfl (fun i y hy=>by
   rcases i with _|_|_|i
   ·cases hy;exact ⟨_,rfl,fun _ _ _ _ q=>q⟩
   ·cases hy
   ·cases hy
    refine ⟨_,rfl,fun w A μ hd q=>?_⟩
    rw [←rawA_sub]
    refine BlkOk.mapSub (fitA_sub _) (fun z hz=>?_) q
    rw [rawA_sub] at hz
    obtain ⟨u,_,rfl⟩:=List.mem_map.mp hz
    rfl
   ·simp [chgA_b] at hy) (fun i y hy=>by
   rcases i with _|_|_|i
   ·exact ⟨_,rfl⟩
   ·cases hy
   ·exact ⟨_,rfl⟩
   ·simp [rawA_b] at hy) (rawA_ok x out hl),
  fnB_ok (by kernel_rfl),HcOk.of (by simp [hcB,belBL,AV.belB,allB,okBk,okBkO,chgA_e,chgA_b,pureBL_map (v:=AV.int) (fun _=>rfl),pureBL_map (v:=Wnt.v) (fun _=>rfl)])⟩
def chgB_a(y:Wnt)(out:(List Wnt)):Prop:=okL [.val (.pointer none),.rptr (.agg [.int y.grp,.int y.mode,.sl 1 (y.srcs.map AV.int) false]) 0,.ref 0 0]∧(.box (.vec 1):Blk).ok∧(.vec 3 (out.map Wnt.v):Blk).ok
def chgB_e(r:(List Wnt)):AV:=.tup []
def chgB_b(r:(List Wnt)):List (Option Blk):=[some (.box (.vec 2)),none,some (.vec 3 (r.map Wnt.v))]
def chgB_x(y:Wnt)(out:(List Wnt)):Ax Tryz.prog noS ((List Wnt)):=
 (.req 354 (y.srcs.length≤1000000) fun h1 =>
(.callP (copiedW_c y h1)
(.say (fun R=>Rf (α:=List AV) (out.map Wnt.v) (Rf (α:=List AV) [.agg [.int y.grp,.int y.mode,.sl 1 (y.srcs.map AV.int) false]]
(ck (decide (out.length+1≤1000000))
R))) (.app 386 Wnt.v out [y]
(.retH (out++[y]) ⟨[],[.box (.vec 2),.gone,.vec 3 ((out++[y]).map Wnt.v) (pureBL_map (fun _=>rfl) (out++[y]))]⟩ [0,1,386])))))
def chgB_vc(y:Wnt)(out:(List Wnt))(r0:(List Wnt)):Prop:=(chgB_x y out).vc chgB_e chgB_b r0
theorem chgB_p(y:Wnt)(l:List Wnt)(h:y.srcs.length≤1000000)(hl:l.length≤900000)(ok:chgB_a y l):chgB_vc y l (chgB y l):=by
 dsimp only [chgB_vc,chgB_x,noS,Ax.vp,Ax.vc];simp only [vcU,rfU,List.length_map]
 exact ⟨h,by omega,rfl⟩
def chgB_h(y:Wnt)(out:(List Wnt))(h:y.srcs.length≤1000000)(hl:out.length≤900000):HC Tryz.prog:=⟨105,[.k,.k,.k],[.val (.pointer none),.rptr (.agg [.int y.grp,.int y.mode,.sl 1 (y.srcs.map AV.int) false]) 0,.ref 0 0],[.box (.vec 1),.vec 3 (out.map Wnt.v)],chgB_e (chgB y out),chgB_b (chgB y out),HSpec.of_okh fun ok ok2=>have ok:chgB_a y out:=⟨ok,ok2 _ (by simp),ok2 _ (by simp)⟩;mxH_of (sh:=.k) (enc:=chgB_e) (hB:=chgB_b) (a:=(chgB_x y out).an) (chgB_p y out h hl ok) (by kernel_rfl),fnB_ok (by kernel_rfl),HcOk.of (by simp [hcB,belBL,AV.belB,allB,okBk,okBkO,chgB_e,chgB_b,pureBL_map (v:=AV.int) (fun _=>rfl),pureBL_map (v:=Wnt.v) (fun _=>rfl)])⟩
def chgC_a(x:Wnt)(y:Wnt)(out:(List Wnt)):Prop:=okL [.rptr (.agg [.int x.grp,.int x.mode,.sl 1 (x.srcs.map AV.int) false]) 0,.rptr (.agg [.int y.grp,.int y.mode,.sl 1 (y.srcs.map AV.int) false]) 0,.ref 0 0]∧(.box (.vec 1):Blk).ok∧(.vec 3 (out.map Wnt.v):Blk).ok
def chgC_e(r:(List Wnt)):AV:=.tup []
def chgC_b(r:(List Wnt)):List (Option Blk):=[some (.box (.vec 2)),none,some (.vec 3 (r.map Wnt.v))]
def chgC_x(x:Wnt)(y:Wnt)(out:(List Wnt)):Ax Tryz.prog noS ((List Wnt)):=
 (.callP (PSame_c (⟨x.mode,x.srcs⟩:Flt) (⟨y.mode,y.srcs⟩:Flt))
(.br 290 (!(PSame (⟨x.mode,x.srcs⟩:Flt) (⟨y.mode,y.srcs⟩:Flt))) (.req 354 (y.srcs.length≤1000000) fun h1 =>
(.callP (copiedW_c y h1)
(.say (fun R=>Rf (α:=List AV) (out.map Wnt.v) (Rf (α:=List AV) [.agg [.int y.grp,.int y.mode,.sl 1 (y.srcs.map AV.int) false]]
(ck (decide (out.length+1≤1000000))
R))) (.app 386 Wnt.v out [y]
(.retH (out++[y]) ⟨[],[.box (.vec 2),.gone,.vec 3 ((out++[y]).map Wnt.v) (pureBL_map (fun _=>rfl) (out++[y]))]⟩ [0,1,386])))))
(.retH out ⟨[],[.box (.vec 2),.gone,.vec 3 (out.map Wnt.v) (pureBL_map (fun _=>rfl) out)]⟩ [0,1,1])))
def chgC_vc(x:Wnt)(y:Wnt)(out:(List Wnt))(r0:(List Wnt)):Prop:=(chgC_x x y out).vc chgC_e chgC_b r0
theorem chgC_p(x y:Wnt)(l:List Wnt)(h:y.srcs.length≤1000000)(hl:l.length≤900000)(ok:chgC_a x y l):chgC_vc x y l (chgC x y l):=by
 dsimp only [chgC_vc,chgC_x,noS,Ax.vp,Ax.vc];simp only [vcU,rfU,List.length_map]
 unfold chgC
 refine ⟨fun e=>⟨h,by omega,?_⟩,fun e=>?_⟩
 ·rw [if_neg]
  intro q
  simp [PSame,FSame,flt_eq,q.1,q.2] at e
 ·rw [if_pos]
  simpa [PSame,FSame,flt_eq] using e
def chgC_h(x:Wnt)(y:Wnt)(out:(List Wnt))(h:y.srcs.length≤1000000)(hl:out.length≤900000):HC Tryz.prog:=⟨105,[.k,.k,.k],[.rptr (.agg [.int x.grp,.int x.mode,.sl 1 (x.srcs.map AV.int) false]) 0,.rptr (.agg [.int y.grp,.int y.mode,.sl 1 (y.srcs.map AV.int) false]) 0,.ref 0 0],[.box (.vec 1),.vec 3 (out.map Wnt.v)],chgC_e (chgC x y out),chgC_b (chgC x y out),HSpec.of_okh fun ok ok2=>have ok:chgC_a x y out:=⟨ok,ok2 _ (by simp),ok2 _ (by simp)⟩;mxH_of (sh:=.k) (enc:=chgC_e) (hB:=chgC_b) (a:=(chgC_x x y out).an) (chgC_p x y out h hl ok) (by kernel_rfl),fnB_ok (by kernel_rfl),HcOk.of (by simp [hcB,belBL,AV.belB,allB,okBk,okBkO,chgC_e,chgC_b,pureBL_map (v:=AV.int) (fun _=>rfl),pureBL_map (v:=Wnt.v) (fun _=>rfl)])⟩
def mergC_a(a:(List Wnt))(b:(List Wnt))(out:(List Wnt)):Prop:=okL [.sl 3 (a.map Wnt.v) false,.sl 3 (b.map Wnt.v) false,.func 105 [.ref 0 0]]∧(.box (.vec 1):Blk).ok∧(.vec 3 (out.map Wnt.v):Blk).ok
def mergC_n0(t0:(List Wnt)×(List Wnt)×(List Wnt)):NF:=⟨[(0,(.s 3),.sl 3 (t0.1.map Wnt.v) false),(1,(.s 3),.sl 3 (t0.2.1.map Wnt.v) false),(2,.k,.func 105 [.ref 0 0])],[.box (.vec 2),.gone,.vec 3 (t0.2.2.map Wnt.v) (pureBL_map (fun _=>rfl) t0.2.2)]⟩
def mergC_n1(t0:(List Wnt)×(List Wnt)×(List Wnt))(t1:Unit):NF:=⟨[(0,.k,.sl 3 (t0.1.map Wnt.v) false),(1,.k,.sl 3 (t0.2.1.map Wnt.v) false),(2,.k,.func 105 [.ref 0 0])],[.box (.vec 2),.gone,.vec 3 (t0.2.2.map Wnt.v) (pureBL_map (fun _=>rfl) t0.2.2)]⟩
def mergC_n2(t0:(List Wnt)×(List Wnt)×(List Wnt))(t2:Int):NF:=⟨[(0,.k,.sl 3 (t0.1.map Wnt.v) false),(1,.k,.sl 3 (t0.2.1.map Wnt.v) false),(2,.k,.func 105 [.ref 0 0]),(6,.k,.int t2)],[.box (.vec 2),.gone,.vec 3 (t0.2.2.map Wnt.v) (pureBL_map (fun _=>rfl) t0.2.2)]⟩
@[reducible] def mergC_s:Nat→Type
 | 0=>(List Wnt)×(List Wnt)×(List Wnt)
 | 1=>Unit
 | 2=>Int
 | _=>Unit
def mergC_e(r:(List Wnt)):AV:=.tup []
def mergC_b(r:(List Wnt)):List (Option Blk):=[some (.box (.vec 2)),none,some (.vec 3 (r.map Wnt.v))]
def mergC_x(a:(List Wnt))(b:(List Wnt))(out:(List Wnt))(I0:((List Wnt)×(List Wnt)×(List Wnt))→Prop)(m0:((List Wnt)×(List Wnt)×(List Wnt))→Nat):Ax Tryz.prog mergC_s ((List Wnt)):=
 (.loop 0 (mergC_n0) I0 m0 (a,b,out) [0,1,1] fun (t0:(List Wnt)×(List Wnt)×(List Wnt)) b0 =>
(.join 1 (mergC_n1 t0) (fun (t1:Unit)=>(bif (decide (0<((t0.1.map Wnt.v).length:Int))) then true else (bif (decide (0<((t0.2.1.map Wnt.v).length:Int))) then true else false))=true) (fun b1=>(.br 67 (decide (0<((t0.1.map Wnt.v).length:Int))) (.bk 1 b1 ((()):Unit) [0,1,2])
(.br 131 (decide (0<((t0.2.1.map Wnt.v).length:Int))) (.bk 1 b1 ((()):Unit) [0,1,2])
(.retH t0.2.2 ⟨[],[.box (.vec 2),.gone,.vec 3 (t0.2.2.map Wnt.v) (pureBL_map (fun _=>rfl) t0.2.2)]⟩ [0,1,2])))) fun (t1:Unit) =>
(.pass (.join 2 (mergC_n2 t0) (fun (t2:Int)=>((((t0.1.map Wnt.v).length:Int)==0)=true∧t2=((1):Int))∨((((t0.1.map Wnt.v).length:Int)==0)=false∧(((t0.2.1.map Wnt.v).length:Int)==0)=true∧t2=((-1):Int))∨((((t0.1.map Wnt.v).length:Int)==0)=false∧(((t0.2.1.map Wnt.v).length:Int)==0)=false∧∃x1':Wnt,t0.1[0]?=some x1'∧∃x2':Wnt,t0.2.1[0]?=some x2'∧t2=((cmpI x1'.grp x2'.grp):Int))) (fun b2=>(.br 83 (((t0.1.map Wnt.v).length:Int)==0) (.bk 2 b2 ((1):Int) [0,1,2])
(.br 147 (((t0.2.1.map Wnt.v).length:Int)==0) (.bk 2 b2 ((-1):Int) [0,1,2])
(.el 163 Wnt.v t0.1 (fun R=>Rf (t0.1.map Wnt.v) (ck (decide (0<(t0.1.length:Int)))
(∀x1,t0.1[0]?=some x1 →
(R x1)))) fun x1 =>
(.el 227 Wnt.v t0.2.1 (fun R=>Rf (t0.2.1.map Wnt.v) (ck (decide (0<(t0.2.1.length:Int)))
(∀x2,t0.2.1[0]?=some x2 →
(R x2)))) fun x2 =>
(.callP (cmpI_c x1.grp x2.grp)
(.bk 2 b2 ((cmpI x1.grp x2.grp):Int) [0,1,2]))))))) fun (t2:Int) =>
(.br 67 (decide (t2≤0)) (.el 83 Wnt.v t0.1 (fun R=>Rf (t0.1.map Wnt.v) (ck (decide (0<(t0.1.length:Int)))
(∀x3,t0.1[0]?=some x3 →
(R x3)))) fun x3 =>
(.say (fun R=>Rf (α:=List AV) (t0.1.map Wnt.v) (ck (bndB t0.1.length 1 (t0.1.length:Int) (t0.1.length:Int))
R)) (.sub 115 Wnt.v t0.1 false
(.br 195 (decide (0≤t2)) (.el 211 Wnt.v t0.2.1 (fun R=>Rf (t0.2.1.map Wnt.v) (ck (decide (0<(t0.2.1.length:Int)))
(∀x4,t0.2.1[0]?=some x4 →
(R x4)))) fun x4 =>
(.say (fun R=>Rf (α:=List AV) (t0.2.1.map Wnt.v) (ck (bndB t0.2.1.length 1 (t0.2.1.length:Int) (t0.2.1.length:Int))
R)) (.sub 243 Wnt.v t0.2.1 false
(.req 339 (x4.srcs.length≤1000000) fun h5 =>
(.req 339 (t0.2.2.length≤900000) fun h6 =>
(.callH [0,2] (chgC_h x3 x4 t0.2.2 h5 h6) 339
(.bk 0 b0 ((t0.1.take ((t0.1.length:Int).toNat)).drop 1,(t0.2.1.take ((t0.2.1.length:Int).toNat)).drop 1,chgC x3 x4 t0.2.2) [0,1,339])))))))
(.req 243 (x3.srcs.length≤1000000) fun h7 =>
(.req 243 (t0.2.2.length≤900000) fun h8 =>
(.callH [0,2] (chgA_h x3 t0.2.2 h7 h8) 243
(.bk 0 b0 ((t0.1.take ((t0.1.length:Int).toNat)).drop 1,t0.2.1,chgA x3 t0.2.2) [0,1,243]))))))))
(.br 99 (decide (0≤t2)) (.el 115 Wnt.v t0.2.1 (fun R=>Rf (t0.2.1.map Wnt.v) (ck (decide (0<(t0.2.1.length:Int)))
(∀x9,t0.2.1[0]?=some x9 →
(R x9)))) fun x9 =>
(.say (fun R=>Rf (α:=List AV) (t0.2.1.map Wnt.v) (ck (bndB t0.2.1.length 1 (t0.2.1.length:Int) (t0.2.1.length:Int))
R)) (.sub 147 Wnt.v t0.2.1 false
(.req 243 (x9.srcs.length≤1000000) fun h10 =>
(.req 243 (t0.2.2.length≤900000) fun h11 =>
(.callH [0,2] (chgB_h x9 t0.2.2 h10 h11) 243
(.bk 0 b0 (t0.1,(t0.2.1.take ((t0.2.1.length:Int).toNat)).drop 1,chgB x9 t0.2.2) [0,1,243])))))))
(.say (fun _=>False) .nil)))))))
def mergC_vc(a:(List Wnt))(b:(List Wnt))(out:(List Wnt))(I0:((List Wnt)×(List Wnt)×(List Wnt))→Prop)(m0:((List Wnt)×(List Wnt)×(List Wnt))→Nat)(r0:(List Wnt)):Prop:=(mergC_x a b out I0 m0).vc mergC_e mergC_b r0
theorem chgB_len(y:Wnt)(o:List Wnt):(chgB y o).length≤o.length+1:=by simp [chgB]
theorem chgC_len(x y:Wnt)(o:List Wnt):(chgC x y o).length≤o.length+1:=by unfold chgC;split<;>simp
theorem mergC_p(a b l:List Wnt)(h:okMrg a b l)(ok:mergC_a a b l):∃I m,mergC_vc a b l I m (mergC a b l):=by
 obtain ⟨h1,h2,h3,h4,h5⟩:=h
 refine ⟨fun t=>mergC t.1 t.2.1 t.2.2=mergC a b l∧t.1.length+t.2.1.length+t.2.2.length≤102000∧(∀x∈t.1,x.srcs.length≤1000000)∧∀x∈t.2.1,x.srcs.length≤1000000,fun t=>t.1.length+t.2.1.length,?_⟩
 dsimp only [mergC_vc,mergC_x,mergC_s,Ax.vp,Ax.vc];simp only [vcU,rfU,List.length_map]
 refine ⟨⟨trivial,by omega,h4,h5⟩,?_⟩
 rintro ⟨A,B,o⟩ ⟨hm,hl,hA,hB⟩
 clear ok
 simp only at hm hl hA hB
 cases A with
 | nil=>cases B with
  | nil =>
   simp
   rw [←hm,mergC]
  | cons y B =>
   simp [bnd1]
   have hb:=chgB_len y o
   rw [mergC] at hm
   simp only [List.length_cons,List.length_nil] at hl
   exact ⟨hm,by omega,by omega,hB y (by simp),fun z hz=>hB z (by simp [hz])⟩
 | cons x A =>
  have ea:¬((A.length:Int)+1=0):=by omega
  cases B with
  | nil =>
   simp [bnd1,ea]
   rw [mergC] at hm
   simp only [List.length_cons,List.length_nil] at hl
   exact ⟨hm,by simp [chgA];omega,by omega,hA x (by simp),fun z hz=>hA z (by simp [hz])⟩
  | cons y B =>
   have eb:¬((B.length:Int)+1=0):=by omega
   have hc:=chgC_len x y o
   simp [bnd1,ea,eb]
   have hb:=chgB_len y o
   rw [mergC] at hm
   simp only [List.length_cons] at hl
   have hx:=hA x (by simp)
   have hy:=hB y (by simp)
   have hA':∀z∈A,z.srcs.length≤1000000:=fun z hz=>hA z (by simp [hz])
   have hB':∀z∈B,z.srcs.length≤1000000:=fun z hz=>hB z (by simp [hz])
   have hgt:0<cmpI x.grp y.grp↔y.grp<x.grp:=by
    have:=cmp_lt x.grp y.grp;have:=cmp_eq x.grp y.grp;omega
   have hlt:=cmp_lt x.grp y.grp
   have heq:=cmp_eq x.grp y.grp
   refine ⟨fun c=>⟨fun d=>⟨⟨?_,?_,hA',hB'⟩,by omega,hy,by omega⟩,fun d=>⟨?_,by simp [chgA];omega,hA',hy,by omega,hx,hB'⟩⟩,fun c=>⟨fun d=>⟨?_,by omega,⟨hx,hA'⟩,by omega,hy,hB'⟩,by omega⟩⟩
   ·rw [if_neg (by omega),if_neg (by omega)] at hm;exact hm
   ·show A.length+B.length+(chgC x y o).length≤_;omega
   ·rw [if_pos (by omega)] at hm;exact hm
   ·rw [if_neg (by omega),if_pos (by omega)] at hm;exact hm
def mergC_h(a:(List Wnt))(b:(List Wnt))(out:(List Wnt))(h:okMrg a b out):HC Tryz.prog:=⟨104,[(.s 3),(.s 3),.k],[.sl 3 (a.map Wnt.v) false,.sl 3 (b.map Wnt.v) false,.func 105 [.ref 0 0]],[.box (.vec 1),.vec 3 (out.map Wnt.v)],mergC_e (mergC a b out),mergC_b (mergC a b out),HSpec.of_okh fun ok ok2=>have ok:mergC_a a b out:=⟨ok,ok2 _ (by simp),ok2 _ (by simp)⟩;(mergC_p a b out h ok).elim fun I0 h=>h.elim fun m0 h=>mxH_of (sh:=.k) (enc:=mergC_e) (hB:=mergC_b) (a:=(mergC_x a b out I0 m0).an) h (by kernel_rfl),fnB_ok (by kernel_rfl),HcOk.of (by simp [hcB,belBL,AV.belB,allB,okBk,okBkO,mergC_e,mergC_b,pureBL_map (v:=Wnt.v) (fun _=>rfl)])⟩
def chgsF_a(old:(List Wnt))(new:(List Wnt)):Prop:=okL [.sl 3 (old.map Wnt.v) false,.sl 3 (new.map Wnt.v) false]
def chgsF_e(r:(List Wnt)×Int):AV:=.tup [.sl 3 (r.1.map Wnt.v) false,.int r.2]
def chgsF_x(old:(List Wnt))(new:(List Wnt)):Ax Tryz.prog noS ((List Wnt)×Int):=
 (.callP (valW_c old)
(.callP (valW_c new)
(.callP (orI_c [wErr false old,wErr false new])
(.br 176 ((orI [wErr false old,wErr false new]) != 0) (.ret ([],orI [wErr false old,wErr false new]))
(.wait (.cmd (.nilC 176 3) (.req 241 (okMrg old new []) fun h1 =>
(.callH [176,192] (mergC_h old new [] h1) 241
(.say (Rf ((mergC old new []).map Wnt.v)) (.cmd (.frzE 241 ((mergC old new []).map Wnt.v) (pureBL_map (fun _=>rfl) (mergC old new []))) (.callP (limited_c (mergC old new []))
(.ret ((limitW (mergC old new [])).1,(limitW (mergC old new [])).2)))))))))))))
def chgsF_vc(old:(List Wnt))(new:(List Wnt))(r0:(List Wnt)×Int):Prop:=(chgsF_x old new).vp chgsF_e r0
theorem chgsF_p(a c:List Wnt)(ok:chgsF_a a c):chgsF_vc a c (changes a c):=by
 dsimp only [chgsF_vc,chgsF_x,noS,Ax.vp,Ax.vc];simp only [vcU,rfU,List.length_map]
 rw [orI_two]
 by_cases h1:wErr false a=0
 case neg=>simp [changes,h1]
 by_cases h2:wErr false c=0
 case neg=>simp [changes,h1,h2]
 have b1:=wErr_srcs h1
 have b2:=wErr_srcs h2
 refine ⟨fun e=>by simp [h1,h2] at e,fun _=>?_⟩
 refine ⟨⟨by omega,by omega,by simp,b1.2,b2.2⟩,?_⟩
 rw [mergC_to h1 h2,changes,if_neg (not_not_intro h1),if_neg (not_not_intro h2)]
 generalize chgsTo a c 99=l
 rfl
def chgsF_c(old:(List Wnt))(new:(List Wnt)):PC Tryz.prog:=⟨48,[(.s 3),(.s 3)],[.sl 3 (old.map Wnt.v) false,.sl 3 (new.map Wnt.v) false],chgsF_e (changes old new),PSpec.of_ok fun ok=>mxP_of (sh:=(.a [(.s 3),.k])) (enc:=chgsF_e) (a:=(chgsF_x old new).an) (chgsF_p old new ok) (by kernel_rfl) (AV.pureB_ok rfl),fnB_ok (by kernel_rfl)⟩
def beginO(o:Ovl)(r:Int)(w:List Wnt):Int×Int:=if ¬ovlOk o then (0,1) else if r ∉ rtrs o.sp then (0,4) else (posS o.sp r,wErr false w)
theorem hitS_iff{o:Ovl}(h:ovlOk o)(r:Int):hitS o.sp r↔r∈rtrs o.sp:=(hitK_iff (key:=Spk.router) h.1.asc).trans mem_keys.symm
def beginO_a(o:Ovl)(router:Int)(wants:(List Wnt)):Prop:=okL [.agg [.sl 5 (o.sp.map Spk.v) false,.sl 3 (o.ls.map Lsn.v) false,.sl 10 (o.fl.map Sig.v) false],.int router,.sl 3 (wants.map Wnt.v) false]
def beginO_e(r:Int×Int):AV:=.tup [.int r.1,.int r.2]
def beginO_x(o:Ovl)(router:Int)(wants:(List Wnt)):Ax Tryz.prog noS (Int×Int):=
 (.callP (validO_c o)
(.br 96 (!(decide (ovlOk o))) (.ret (0,1))
(.req 128 (o.sp.Pairwise fun x y=>x.router<y.router) fun h1 =>
(.req 128 (o.sp.length≤1000000) fun h2 =>
(.callP (findS_c o router h1 h2)
(.br 256 (!(decide (hitS o.sp router))) (.ret (0,4))
(.callP (valW_c wants)
(.ret ((posS o.sp router:Int),wErr false wants)))))))))
def beginO_vc(o:Ovl)(router:Int)(wants:(List Wnt))(r0:Int×Int):Prop:=(beginO_x o router wants).vp beginO_e r0
theorem beginO_p(o:Ovl)(r:Int)(w:List Wnt)(ok:beginO_a o r w):beginO_vc o r w (beginO o r w):=by
 dsimp only [beginO_vc,beginO_x,noS,Ax.vp,Ax.vc];simp only [vcU,rfU,List.length_map]
 unfold beginO
 refine ⟨fun h=>?_,fun h=>?_⟩
 ·rw [if_pos (by simpa using h)]
 have h:ovlOk o:=by simpa using h
 rw [if_neg (not_not_intro h)]
 refine ⟨h.1.asc,by have:=(ovl_iff.mp h).1;omega,?_⟩
 refine ⟨fun q=>?_,fun q=>?_⟩
 ·have q:r ∉ rtrs o.sp:=by rw [←hitS_iff h];simpa using q
  rw [if_pos q]
 ·have q:r∈rtrs o.sp:=by rw [←hitS_iff h];simpa using q
  rw [if_neg (not_not_intro q)]
def beginO_c(o:Ovl)(router:Int)(wants:(List Wnt)):PC Tryz.prog:=⟨47,[(.a [(.s 5),(.s 3),(.s 10)]),.k,(.s 3)],[.agg [.sl 5 (o.sp.map Spk.v) false,.sl 3 (o.ls.map Lsn.v) false,.sl 10 (o.fl.map Sig.v) false],.int router,.sl 3 (wants.map Wnt.v) false],beginO_e (beginO o router wants),PSpec.of_ok fun ok=>mxP_of (sh:=.k) (enc:=beginO_e) (a:=(beginO_x o router wants).an) (beginO_p o router wants ok) (by kernel_rfl) (AV.pureB_ok rfl),fnB_ok (by kernel_rfl)⟩
theorem begin_z{o:Ovl}{r:Int}{w:List Wnt}(h:(beginO o r w).2=0):ovlOk o∧r∈rtrs o.sp∧wErr false w=0∧(beginO o r w).1=posS o.sp r:=by
 unfold beginO at h ⊢
 by_cases h1:ovlOk o
 case neg=>rw [if_pos h1] at h;simp at h
 by_cases h2:r∈rtrs o.sp
 case neg=>rw [if_neg (not_not_intro h1),if_pos h2] at h;simp at h
 rw [if_neg (not_not_intro h1),if_neg (not_not_intro h2)] at h ⊢
 exact ⟨h1,h2,h,rfl⟩
theorem begin_ne{o:Ovl}{r:Int}{w:List Wnt}(h:(beginO o r w).2≠0):changeV o r w=(ovl0,(beginO o r w).2)∧restartV o r w=(ovl0,(beginO o r w).2):=by
 unfold beginO changeV restartV at *
 by_cases h1:ovlOk o
 case neg=>rw [if_pos h1,if_pos h1,if_pos h1];exact ⟨rfl,rfl⟩
 rw [if_neg (not_not_intro h1)] at h ⊢
 rw [if_neg (not_not_intro h1),if_neg (not_not_intro h1)]
 by_cases h2:r∈rtrs o.sp
 case neg=>rw [if_pos h2,if_pos h2,if_pos h2];exact ⟨rfl,rfl⟩
 rw [if_neg (not_not_intro h2)] at h ⊢
 rw [if_neg (not_not_intro h2),if_neg (not_not_intro h2),if_pos h]
 refine ⟨rfl,?_⟩
 have hs:=(h1.1.spo _ (h1.1.s h2).1).1
 have e:(restart (atS o.sp r) w).2=wErr false w:=by
  unfold restart
  rw [if_neg (not_not_intro hs),if_pos h]
 rw [e,if_pos h]
theorem pos_get{o:Ovl}(h:ovlOk o){r:Int}(hr:r∈rtrs o.sp):posS o.sp r<o.sp.length∧posS o.sp r<o.ls.length∧o.sp[posS o.sp r]?=some (atS o.sp r)∧o.ls[posS o.sp r]?=some (atL o.sp o.ls r):=by
 have h1:=((hitS_iff h r).mpr hr).1
 have h2:=(ovl_iff.mp h).2.1
 refine ⟨h1,by omega,?_,?_⟩
 ·unfold atS;rw [List.getD_eq_getElem?_getD,List.getElem?_eq_getElem h1];rfl
 ·unfold atL;rw [List.getD_eq_getElem?_getD,List.getElem?_eq_getElem (by omega)];rfl
def chgOv_a(o:Ovl)(router:Int)(wants:(List Wnt)):Prop:=okL [.agg [.sl 5 (o.sp.map Spk.v) false,.sl 3 (o.ls.map Lsn.v) false,.sl 10 (o.fl.map Sig.v) false],.int router,.sl 3 (wants.map Wnt.v) false]
def chgOv_e(r:Ovl×Int):AV:=.tup [Ovl.v r.1,.int r.2]
def chgOv_x(o:Ovl)(router:Int)(wants:(List Wnt)):Ax Tryz.prog noS (Ovl×Int):=
 (.callP (beginO_c o router wants)
(.br 224 (((beginO o router wants).2) != 0) (.ret ((⟨[],[],[]⟩:Ovl),(beginO o router wants).2))
(.el 272 Spk.v o.sp (fun R=>Rf (o.sp.map Spk.v) (ck (decide (0≤((beginO o router wants).1))) (ck (decide (((beginO o router wants).1)<(o.sp.length:Int)))
(∀x1,o.sp[((beginO o router wants).1).toNat]?=some x1 →
(R x1))))) fun x1 =>
(.callP (wantsF_c x1.items)
(.callP (chgsF_c (wantsOf x1.items) wants)
(.br 480 (((changes (wantsOf x1.items) wants).2) != 0) (.ret ((⟨[],[],[]⟩:Ovl),(changes (wantsOf x1.items) wants).2))
(.el 528 Spk.v o.sp (fun R=>Rf (o.sp.map Spk.v) (ck (decide (0≤((beginO o router wants).1))) (ck (decide (((beginO o router wants).1)<(o.sp.length:Int)))
(∀x2,o.sp[((beginO o router wants).1).toNat]?=some x2 →
(R x2))))) fun x2 =>
(.callP (change_c x2 ((changes (wantsOf x1.items) wants).1))
(.br 720 (((change x2 ((changes (wantsOf x1.items) wants).1)).2) != 0) (.ret ((⟨[],[],[]⟩:Ovl),(change x2 ((changes (wantsOf x1.items) wants).1)).2))
(.req 736 (ovlOk o∧o.fl.length≤1000000) fun h3 =>
(.callH [] (copO_h o h3) 736
(.say (ck (cond (decide (0≤((beginO o router wants).1))) (decide (((beginO o router wants).1)<((o.sp.map Spk.v).length:Int))) false)) (.st 864 Spk.v o.sp (fun y4=>((change x2 ((changes (wantsOf x1.items) wants).1)).1)) (fun R=>Rf (o.sp.map Spk.v) (ck (decide (((beginO o router wants).1).toNat<o.sp.length))
(∀y4,o.sp[((beginO o router wants).1).toNat]?=some y4→Rf (Spk.v ((change x2 ((changes (wantsOf x1.items) wants).1)).1))
((R y4))))) fun y4 =>
(.say (Rf (o.fl.map Sig.v)) (.cmdL (.frzE 738 (o.fl.map Sig.v) (pureBL_map (fun _=>rfl) o.fl)) (.say (Rf (o.ls.map Lsn.v)) (.cmdL (.frzE 737 (o.ls.map Lsn.v) (pureBL_map (fun _=>rfl) o.ls)) (.say (Rf ((o.sp.set (((beginO o router wants).1).toNat) ((change x2 ((changes (wantsOf x1.items) wants).1)).1)).map Spk.v)) (.cmdL (.frzE 736 ((o.sp.set (((beginO o router wants).1).toNat) ((change x2 ((changes (wantsOf x1.items) wants).1)).1)).map Spk.v) (pureBL_map (fun _=>rfl) (o.sp.set (((beginO o router wants).1).toNat) ((change x2 ((changes (wantsOf x1.items) wants).1)).1)))) (.ret ((⟨o.sp.set (((beginO o router wants).1).toNat) ((change x2 ((changes (wantsOf x1.items) wants).1)).1),o.ls,o.fl⟩:Ovl),0)))))))))))))))))))))
def chgOv_vc(o:Ovl)(router:Int)(wants:(List Wnt))(r0:Ovl×Int):Prop:=(chgOv_x o router wants).vp chgOv_e r0
theorem chgOv_p(o:Ovl)(r:Int)(w:List Wnt)(h:o.fl.length≤1000000)(ok:chgOv_a o r w):chgOv_vc o r w (changeV o r w):=by
 dsimp only [chgOv_vc,chgOv_x,noS,Ax.vp,Ax.vc];simp only [vcU,rfU,List.length_map]
 refine ⟨fun q=>?_,fun q=>?_⟩
 ·have q:(beginO o r w).2≠0:=by simpa using q
  rw [(begin_ne q).1];rfl
 obtain ⟨h1,h2,h3,h4⟩:=begin_z (by simpa using q)
 obtain ⟨p1,p2,p3,p4⟩:=pos_get h1 h2
 rw [h4]
 simp only [Int.toNat_natCast]
 unfold changeV
 rw [if_neg (not_not_intro h1),if_neg (not_not_intro h2),if_neg (not_not_intro h3)]
 refine ⟨by omega,by omega,fun x hx=>?_⟩
 cases p3.symm.trans hx
 refine ⟨fun c=>?_,fun c=>⟨by omega,by omega,fun y hy=>?_⟩⟩
 ·rw [if_pos (by simpa using c)];rfl
 rw [if_neg (by simpa using c)]
 cases p3.symm.trans hy
 refine ⟨fun d=>?_,fun d=>?_⟩
 ·rw [if_pos (by simpa using d)];rfl
 rw [if_neg (by simpa using d)]
 exact ⟨⟨h1,h⟩,by simp;omega,by omega,fun z hz=>rfl⟩
def chgOv_c(o:Ovl)(router:Int)(wants:(List Wnt))(h:o.fl.length≤1000000):PC Tryz.prog:=⟨16,[(.a [(.s 5),(.s 3),(.s 10)]),.k,(.s 3)],[.agg [.sl 5 (o.sp.map Spk.v) false,.sl 3 (o.ls.map Lsn.v) false,.sl 10 (o.fl.map Sig.v) false],.int router,.sl 3 (wants.map Wnt.v) false],chgOv_e (changeV o router wants),PSpec.of_ok fun ok=>mxP_of (sh:=(.a [(.a [(.s 5),(.s 3),(.s 10)]),.k])) (enc:=chgOv_e) (a:=(chgOv_x o router wants).an) (chgOv_p o router wants h ok) (by kernel_rfl) (AV.pureB_ok rfl),fnB_ok (by kernel_rfl)⟩
def rstOv_a(o:Ovl)(router:Int)(wants:(List Wnt)):Prop:=okL [.agg [.sl 5 (o.sp.map Spk.v) false,.sl 3 (o.ls.map Lsn.v) false,.sl 10 (o.fl.map Sig.v) false],.int router,.sl 3 (wants.map Wnt.v) false]
def rstOv_e(r:Ovl×Int):AV:=.tup [Ovl.v r.1,.int r.2]
def rstOv_x(o:Ovl)(router:Int)(wants:(List Wnt)):Ax Tryz.prog noS (Ovl×Int):=
 (.callP (beginO_c o router wants)
(.br 224 (((beginO o router wants).2) != 0) (.ret ((⟨[],[],[]⟩:Ovl),(beginO o router wants).2))
(.el 272 Spk.v o.sp (fun R=>Rf (o.sp.map Spk.v) (ck (decide (0≤((beginO o router wants).1))) (ck (decide (((beginO o router wants).1)<(o.sp.length:Int)))
(∀x1,o.sp[((beginO o router wants).1).toNat]?=some x1 →
(R x1))))) fun x1 =>
(.callP (restart_c x1 wants)
(.br 464 (((restart x1 wants).2) != 0) (.ret ((⟨[],[],[]⟩:Ovl),(restart x1 wants).2))
(.el 512 Lsn.v o.ls (fun R=>Rf (o.ls.map Lsn.v) (ck (decide (0≤((beginO o router wants).1))) (ck (decide (((beginO o router wants).1)<(o.ls.length:Int)))
(∀x2,o.ls[((beginO o router wants).1).toNat]?=some x2 →
(R x2))))) fun x2 =>
(.br 608 (x2.epoch==1000000) (.ret ((⟨[],[],[]⟩:Ovl),3))
(.req 624 (ovlOk o∧o.fl.length≤1000000) fun h3 =>
(.callH [] (copO_h o h3) 624
(.say (ck (cond (decide (0≤((beginO o router wants).1))) (decide (((beginO o router wants).1)<((o.sp.map Spk.v).length:Int))) false)) (.st 864 Spk.v o.sp (fun y4=>((restart x1 wants).1)) (fun R=>Rf (o.sp.map Spk.v) (ck (decide (((beginO o router wants).1).toNat<o.sp.length))
(∀y4,o.sp[((beginO o router wants).1).toNat]?=some y4→Rf (Spk.v ((restart x1 wants).1))
((R y4))))) fun y4 =>
(.say (ck (cond (decide (0≤((beginO o router wants).1))) (decide (((beginO o router wants).1)<((o.ls.map Lsn.v).length:Int))) false)) (.stI 896 Lsn.v o.ls (fun R=>Rf (o.ls.map Lsn.v) (ck (decide (((beginO o router wants).1).toNat<o.ls.length))
(∀y5,o.ls[((beginO o router wants).1).toNat]?=some y5 →
((R y5))))) fun y5 =>
(.say (fun R=>Rf (α:=List AV) ((o.ls.map Lsn.v).set (((beginO o router wants).1).toNat) (.agg [.int router,.int (W (x2.epoch+1)),.sl 0 [] true])) (Rf (Lsn.v (⟨router,W (x2.epoch+1),[]⟩:Lsn))
R)) (.cmd (.wkS 625 (((beginO o router wants).1).toNat) (.a [.k,.k,(.s 4)]) Lsn.v o.ls (.agg [.int router,.int (W (x2.epoch+1)),.sl 0 [] true]) (⟨router,W (x2.epoch+1),[]⟩:Lsn)) (.say (Rf (o.fl.map Sig.v)) (.cmdL (.frzE 626 (o.fl.map Sig.v) (pureBL_map (fun _=>rfl) o.fl)) (.say (Rf ((o.ls.set (((beginO o router wants).1).toNat) (⟨router,W (x2.epoch+1),[]⟩:Lsn)).map Lsn.v)) (.cmdL (.frzE 625 ((o.ls.set (((beginO o router wants).1).toNat) (⟨router,W (x2.epoch+1),[]⟩:Lsn)).map Lsn.v) (pureBL_map (fun _=>rfl) (o.ls.set (((beginO o router wants).1).toNat) (⟨router,W (x2.epoch+1),[]⟩:Lsn)))) (.say (Rf ((o.sp.set (((beginO o router wants).1).toNat) ((restart x1 wants).1)).map Spk.v)) (.cmdL (.frzE 624 ((o.sp.set (((beginO o router wants).1).toNat) ((restart x1 wants).1)).map Spk.v) (pureBL_map (fun _=>rfl) (o.sp.set (((beginO o router wants).1).toNat) ((restart x1 wants).1)))) (.ret ((⟨o.sp.set (((beginO o router wants).1).toNat) ((restart x1 wants).1),o.ls.set (((beginO o router wants).1).toNat) (⟨router,W (x2.epoch+1),[]⟩:Lsn),o.fl⟩:Ovl),0)))))))))))))))))))))))
def rstOv_vc(o:Ovl)(router:Int)(wants:(List Wnt))(r0:Ovl×Int):Prop:=(rstOv_x o router wants).vp rstOv_e r0
theorem rstOv_p(o:Ovl)(r:Int)(w:List Wnt)(h:o.fl.length≤1000000)(ok:rstOv_a o r w):rstOv_vc o r w (restartV o r w):=by
 dsimp only [rstOv_vc,rstOv_x,noS,Ax.vp,Ax.vc];simp only [vcU,rfU,List.length_map]
 refine ⟨fun q=>?_,fun q=>?_⟩
 ·have q:(beginO o r w).2≠0:=by simpa using q
  rw [(begin_ne q).2];rfl
 obtain ⟨h1,h2,h3,h4⟩:=begin_z (by simpa using q)
 obtain ⟨p1,p2,p3,p4⟩:=pos_get h1 h2
 rw [h4]
 simp only [Int.toNat_natCast]
 unfold restartV
 rw [if_neg (not_not_intro h1),if_neg (not_not_intro h2)]
 refine ⟨by omega,by omega,fun x hx=>?_⟩
 cases p3.symm.trans hx
 refine ⟨fun c=>?_,fun c=>⟨by omega,by omega,fun y hy=>?_⟩⟩
 ·rw [if_pos (by simpa using c)];rfl
 rw [if_neg (by simpa using c)]
 cases p4.symm.trans hy
 refine ⟨fun d=>?_,fun d=>?_⟩
 ·rw [if_pos (by simpa using d)];rfl
 rw [if_neg (by simpa using d)]
 have he:=(h1.1.lso _ (mem_of_get p4)).1.2.1
 refine ⟨⟨h1,h⟩,by simp;omega,by omega,fun z hz=>⟨by simp;omega,by omega,fun u hu=>?_⟩⟩
 rw [W_eq (by omega)]
def rstOv_c(o:Ovl)(router:Int)(wants:(List Wnt))(h:o.fl.length≤1000000):PC Tryz.prog:=⟨18,[(.a [(.s 5),(.s 3),(.s 10)]),.k,(.s 3)],[.agg [.sl 5 (o.sp.map Spk.v) false,.sl 3 (o.ls.map Lsn.v) false,.sl 10 (o.fl.map Sig.v) false],.int router,.sl 3 (wants.map Wnt.v) false],rstOv_e (restartV o router wants),PSpec.of_ok fun ok=>mxP_of (sh:=(.a [(.a [(.s 5),(.s 3),(.s 10)]),.k])) (enc:=rstOv_e) (a:=(rstOv_x o router wants).an) (rstOv_p o router wants h ok) (by kernel_rfl) (AV.pureB_ok rfl),fnB_ok (by kernel_rfl)⟩
def cf125:AF:=
 ⟨33,3,[.tmp 6],
 .seq (.reg [⟨(some 6),.move (.c (.sl 0 [] true)),none⟩])
 (.seq (.reg [⟨(some 8),.move (.t 0),none⟩,⟨(some 9),.move (.t 1),none⟩,⟨(some 10),.move (.t 2),none⟩,⟨(some 11),.move (.t 0),none⟩,⟨(some 12),.len (.t 11),none⟩,⟨(some 13),.slice 10 (.t 8) (some (.t 9)) (some (.t 10)) (some (.t 12)),none⟩])
 (.seq (.seq (.reg [⟨(some 14),.move (.t 1),none⟩,⟨(some 15),.move (.t 2),none⟩,⟨(some 16),.bin .eql (.t 14) (.t 15),none⟩])
 (.cond (.t 16) (.seq (.reg [⟨(some 17),.move (.t 0),none⟩,⟨(some 6),.move (.t 17),none⟩])
 (.ret)) (.skip)))
 (.seq (.reg [⟨(some 18),.move (.t 0),none⟩,⟨(some 19),.len (.t 18),none⟩,⟨(some 7),.move (.t 19),none⟩])
 (.seq (.dreg [⟨(some 20),.move (.t 0),none⟩,⟨(some 21),.move (.t 1),none⟩,⟨(some 22),.slice 10 (.t 20) none (some (.t 21)) none,none⟩,⟨(some 23),.move (.t 0),none⟩,⟨(some 24),.move (.t 2),none⟩,⟨(some 25),.slice 10 (.t 23) (some (.t 24)) none none,none⟩,⟨(some 26),.append 10 96 (.t 22) (.t 25),none⟩,⟨(some 0),.move (.t 26),none⟩] [(2,5)])
 (.seq (.reg [⟨(some 27),.move (.t 0),none⟩,⟨(some 28),.move (.t 0),none⟩,⟨(some 29),.len (.t 28),none⟩,⟨(some 30),.move (.t 7),none⟩,⟨(some 31),.slice 10 (.t 27) (some (.t 29)) (some (.t 30)) none,none⟩,⟨none,.clear 10 ((.agg [(.val (.int .i64 0)),(.val (.int .i64 0)),(.val (.int .i64 0)),(.val (.int .i64 0)),(.val (.int .i64 0)),(.val (.int .i64 0)),(.val (.int .i64 0)),(.val (.int .i64 0)),(.val (.int .i64 0)),(.sl 0 [] true)])) (.t 31),none⟩])
 (.seq (.reg [⟨(some 32),.move (.t 0),none⟩,⟨(some 6),.move (.t 32),none⟩])
 (.ret)))))))⟩
theorem cf125_ok:cFunc Tryz.prog Tryz.f125=some cf125:=by kernel_rfl
theorem Delete_fnG:FnOk Tryz.prog 125:=fnB_ok (by kernel_rfl)
def delAt{α:Type}(es:List α)(i:Nat):List α:=es.take i++es.drop (i+1)
theorem pureL_delAt{es:List AV}(h:pureL es)(i:Nat):pureL (delAt es i):=pureL_append (pureL_take h i) (pureL_drop h (i+1))
theorem Delete_specG(es:List AV)(i:Nat)(hi:i<es.length)(hs:es.length≤1000000)(hp:pureL es) :
  HSpec Tryz.prog 125 [.vec 0,.int i,.int ((i+1:Nat):Int)] [.vec 10 es] (.vec 1) [none,some (.vec 10 (delAt es i))]:=by
 refine HSpec.of_row (fun cap h1 h2=>?_) (fun h=>by subst h;simp at hi)
 have hml:=maxLen_eq
 refine HSpec.walk Tryz.func125 cf125_ok (by simp [cf125]) ?_
 unfold cf125
 simp only [initT,initH,List.length_cons,List.length_nil]
 have e1:((i:Int)==((i+1:Nat):Int))=false:=by simp;omega
 repeat (first
  | refine AWP.seq' ?_
  | refine AWP.skip ?_
  | (refine AWP.reg' fun K hK=>?_;simp only [stepS,stepD,stepM,eq_self,implies_true,forall_eq_or_imp,forall_eq,Nat.reduceEqDiff,↓reduceIte,Nat.reduceAdd,Nat.reduceLeDiff,Nat.reduceSub,Nat.reduceMul,Nat.reduceLT,Int.reduceBEq,Int.reduceBNe,Int.reduceToNat,Int.reduceLT,Int.reduceLE,Int.reduceAdd,Int.reduceSub,Int.reduceMul,reduceCtorEq,e1];(repeat (refine And.intro (by omega) ?_));refine hK _ _ _ ?_;clear hK K))
 refine AWP.cond (b:=false) rfl (fun h=>by cases h) (fun h=>?_)
 repeat (first
  | refine AWP.seq' ?_
  | refine AWP.skip ?_
  | (refine AWP.reg' fun K hK=>?_;simp only [stepS,stepD,stepM,eq_self,implies_true,forall_eq_or_imp,forall_eq,Nat.reduceEqDiff,↓reduceIte,Nat.reduceAdd,Nat.reduceLeDiff,Nat.reduceSub,Nat.reduceMul,Nat.reduceLT,Int.reduceBEq,Int.reduceBNe,Int.reduceToNat,Int.reduceLT,Int.reduceLE,Int.reduceAdd,Int.reduceSub,Int.reduceMul,reduceCtorEq];(repeat (refine And.intro (by omega) ?_));refine hK _ _ _ ?_;clear hK K))
 have g1:((es.length:Int)-((i+1:Nat):Int)).toNat=es.length-(i+1):=by omega
 have g2:((i:Int)-0).toNat=i:=by omega
 have g3:(es.drop (i+1)).take (es.length-(i+1))=es.drop (i+1):=List.take_of_length_le (by simp)
 have g4:(es.drop (i+1)).length=es.length-(i+1):=List.length_drop ..
 have g5:i+(es.length-(i+1))=es.length-1:=by omega
 have g6:¬((es.length:Int)<(i:Int)):=by omega
 have g7:i+1+(es.length-(i+1))≤es.length:=by omega
 refine AWP.dreg' fun K hK=>?_
 try simp only [stepS,stepD,stepM,eq_self,implies_true,forall_eq_or_imp,forall_eq,Nat.reduceEqDiff,↓reduceIte,Nat.reduceAdd,Nat.reduceLeDiff,Nat.reduceSub,Nat.reduceMul,Nat.reduceLT,Int.reduceBEq,Int.reduceBNe,Int.reduceToNat,Int.reduceLT,Int.reduceLE,Int.reduceAdd,Int.reduceSub,Int.reduceMul,reduceCtorEq,appendA,srcA,g1,g2,g3,g4,g5,g6,g7]
 repeat (refine And.intro (by omega) ?_)
 refine ⟨by rfl,hK _ _ _ ?_⟩
 clear hK K
 have hd:es.take i++es.drop (i+1)=delAt es i:=rfl
 have hdl:(delAt es i).length=es.length-1:=by unfold delAt;simp;omega
 refine AWP.seq' ?_
 have g8:((es.length:Int)-((es.length-1:Nat):Int)).toNat=1:=by omega
 refine AWP.reg' fun K hK=>?_
 try simp only [stepS,stepD,stepM,eq_self,implies_true,forall_eq_or_imp,forall_eq,Nat.reduceEqDiff,↓reduceIte,Nat.reduceAdd,Nat.reduceLeDiff,Nat.reduceSub,Nat.reduceMul,Nat.reduceLT,Int.reduceBEq,Int.reduceBNe,Int.reduceToNat,Int.reduceLT,Int.reduceLE,Int.reduceAdd,Int.reduceSub,Int.reduceMul,reduceCtorEq,hd,hdl,g8,clearA]
 repeat (refine And.intro (by omega) ?_)
 refine hK _ _ _ ?_
 clear hK K
 repeat (first
  | refine AWP.seq' ?_
  | refine AWP.skip ?_
  | (refine AWP.reg' fun K hK=>?_;simp only [stepS,stepD,stepM,eq_self,implies_true,forall_eq_or_imp,forall_eq,Nat.reduceEqDiff,↓reduceIte,Nat.reduceAdd,Nat.reduceLeDiff,Nat.reduceSub,Nat.reduceMul,Nat.reduceLT,Int.reduceBEq,Int.reduceBNe,Int.reduceToNat,Int.reduceLT,Int.reduceLE,Int.reduceAdd,Int.reduceSub,Int.reduceMul,reduceCtorEq];(repeat (refine And.intro (by omega) ?_));refine hK _ _ _ ?_;clear hK K))
 refine AWP.ret (fin_weak (Weak.row (b:=305) (cap:=cap) (k:=10) (es:=delAt es i) (by rw [hdl];rfl)) (fin_ren [0,305] [(6,.vec 1)] rfl rfl ?_ ?_ rfl (by simp) ?_ (by simp)))
 ·simp only [List.mem_singleton,forall_eq]
  exact ⟨rfl,show (1:Nat)<2 by omega⟩
 ·refine ⟨⟨?_,?_⟩,trivial⟩
  ·rw [(vec_ren (m:=0) (pureL_delAt hp i)).1]
   rfl
  ·exact (vec_ren (π:=id) (pureL_delAt hp i)).2
 ·intro b hb
  match b,hb with
  | 0,_=>rfl
theorem delAt_map{α β:Type}(f:α→β)(l:List α)(i:Nat):delAt (l.map f) i=(delAt l i).map f:=by simp [delAt]
def delG_h(l:List Sig)(i j:Int)(hi:(0≤i∧i<l.length)∧j=i+1)(hl:l.length≤1000000):HC Tryz.prog:=
 ⟨125,[.k,.k,.k],[.vec 0,.int i,.int j],[.vec 10 (l.map Sig.v)],.vec 1,[none,some (.vec 10 ((delAt l i.toNat).map Sig.v))],by
  have h:=Delete_specG (l.map Sig.v) i.toNat (by rw [List.length_map];omega) (by simpa using hl) (pureBL_ok (pureBL_map (fun _=>rfl) l))
  rw [delAt_map] at h
  have e1:((i.toNat:Nat):Int)=i:=by omega
  have e2:((i.toNat+1:Nat):Int)=j:=by omega
  rw [e1,e2] at h
  exact h,Delete_fnG,HcOk.of (by simp [hcB,belBL,AV.belB,allB,okBk,okBkO,pureBL_map (v:=Sig.v) (fun _=>rfl),pureBL,AV.pureB])⟩
def cf126:AF:=
 ⟨95,3,[.tmp 6],
 .seq (.reg [⟨(some 6),.move (.c (.sl 0 [] true)),none⟩])
 (.seq (.reg [⟨(some 10),.move (.t 0),none⟩,⟨(some 11),.move (.t 1),none⟩,⟨(some 12),.slice 10 (.t 10) (some (.t 11)) none none,none⟩])
 (.seq (.reg [⟨(some 13),.move (.t 2),none⟩,⟨(some 14),.len (.t 13),none⟩,⟨(some 7),.move (.t 14),none⟩])
 (.seq (.seq (.reg [⟨(some 15),.move (.t 7),none⟩,⟨(some 16),.bin .eql (.t 15) (.c (.val (.int .i64 0))),none⟩])
 (.cond (.t 16) (.seq (.reg [⟨(some 17),.move (.t 0),none⟩,⟨(some 6),.move (.t 17),none⟩])
 (.ret)) (.skip)))
 (.seq (.reg [⟨(some 18),.move (.t 0),none⟩,⟨(some 19),.len (.t 18),none⟩,⟨(some 8),.move (.t 19),none⟩])
 (.seq (.seq (.reg [⟨(some 20),.move (.t 1),none⟩,⟨(some 21),.move (.t 8),none⟩,⟨(some 22),.bin .eql (.t 20) (.t 21),none⟩])
 (.cond (.t 22) (.seq (.reg [⟨(some 23),.move (.t 0),none⟩,⟨(some 24),.move (.t 2),none⟩,⟨(some 25),.append 10 96 (.t 23) (.t 24),none⟩,⟨(some 6),.move (.t 25),none⟩])
 (.ret)) (.skip)))
 (.seq (.seq (.reg [⟨(some 26),.move (.t 8),none⟩,⟨(some 27),.move (.t 7),none⟩,⟨(some 28),.bin .add (.t 26) (.t 27),none⟩,⟨(some 29),.move (.t 0),none⟩,⟨(some 30),.cap (.t 29),none⟩,⟨(some 31),.bin .gtr (.t 28) (.t 30),none⟩])
 (.cond (.t 31) (.seq (.reg [⟨(some 32),.move (.t 0),none⟩,⟨(some 33),.move (.t 1),none⟩,⟨(some 34),.slice 10 (.t 32) none (some (.t 33)) none,none⟩,⟨(some 35),.move (.t 8),none⟩,⟨(some 36),.move (.t 7),none⟩,⟨(some 37),.bin .add (.t 35) (.t 36),none⟩,⟨(some 38),.move (.t 1),none⟩,⟨(some 39),.bin .sub (.t 37) (.t 38),none⟩,⟨(some 40),.appendZ 10 96 ((.agg [(.val (.int .i64 0)),(.val (.int .i64 0)),(.val (.int .i64 0)),(.val (.int .i64 0)),(.val (.int .i64 0)),(.val (.int .i64 0)),(.val (.int .i64 0)),(.val (.int .i64 0)),(.val (.int .i64 0)),(.sl 0 [] true)])) (.t 34) (.t 39),none⟩,⟨(some 9),.move (.t 40),none⟩])
 (.seq (.reg [⟨(some 41),.move (.t 9),none⟩,⟨(some 42),.move (.t 1),none⟩,⟨(some 43),.slice 10 (.t 41) (some (.t 42)) none none,none⟩,⟨(some 44),.move (.t 2),none⟩,⟨(some 45),.copy 10 (.t 43) (.t 44),none⟩])
 (.seq (.dreg [⟨(some 46),.move (.t 9),none⟩,⟨(some 47),.move (.t 1),none⟩,⟨(some 48),.move (.t 7),none⟩,⟨(some 49),.bin .add (.t 47) (.t 48),none⟩,⟨(some 50),.slice 10 (.t 46) (some (.t 49)) none none,none⟩,⟨(some 51),.move (.t 0),none⟩,⟨(some 52),.move (.t 1),none⟩,⟨(some 53),.slice 10 (.t 51) (some (.t 52)) none none,none⟩,⟨(some 54),.copy 10 (.t 50) (.t 53),none⟩] [(4,7)])
 (.seq (.reg [⟨(some 55),.move (.t 9),none⟩,⟨(some 6),.move (.t 55),none⟩])
 (.ret))))) (.skip)))
 (.seq (.reg [⟨(some 56),.move (.t 0),none⟩,⟨(some 57),.move (.t 8),none⟩,⟨(some 58),.move (.t 7),none⟩,⟨(some 59),.bin .add (.t 57) (.t 58),none⟩,⟨(some 60),.slice 10 (.t 56) none (some (.t 59)) none,none⟩,⟨(some 0),.move (.t 60),none⟩])
 (.seq (.seq (.reg [⟨(some 61),.move (.t 2),none⟩,⟨(some 62),.move (.t 0),none⟩,⟨(some 63),.move (.t 1),none⟩,⟨(some 64),.move (.t 7),none⟩,⟨(some 65),.bin .add (.t 63) (.t 64),none⟩,⟨(some 66),.slice 10 (.t 62) (some (.t 65)) none none,none⟩,⟨(some 67),.call (.c (.func 162 [])) [(.t 61),(.t 66)],none⟩,⟨(some 68),.un .not (.t 67),none⟩])
 (.cond (.t 68) (.seq (.dreg [⟨(some 69),.move (.t 0),none⟩,⟨(some 70),.move (.t 1),none⟩,⟨(some 71),.move (.t 7),none⟩,⟨(some 72),.bin .add (.t 70) (.t 71),none⟩,⟨(some 73),.slice 10 (.t 69) (some (.t 72)) none none,none⟩,⟨(some 74),.move (.t 0),none⟩,⟨(some 75),.move (.t 1),none⟩,⟨(some 76),.slice 10 (.t 74) (some (.t 75)) none none,none⟩,⟨(some 77),.copy 10 (.t 73) (.t 76),none⟩] [(4,7)])
 (.seq (.reg [⟨(some 78),.move (.t 0),none⟩,⟨(some 79),.move (.t 1),none⟩,⟨(some 80),.slice 10 (.t 78) (some (.t 79)) none none,none⟩,⟨(some 81),.move (.t 2),none⟩,⟨(some 82),.copy 10 (.t 80) (.t 81),none⟩])
 (.seq (.reg [⟨(some 83),.move (.t 0),none⟩,⟨(some 6),.move (.t 83),none⟩])
 (.ret)))) (.skip)))
 (.seq (.reg [⟨(some 84),.move (.t 0),none⟩,⟨(some 85),.move (.t 8),none⟩,⟨(some 86),.slice 10 (.t 84) (some (.t 85)) none none,none⟩,⟨(some 87),.move (.t 2),none⟩,⟨(some 88),.copy 10 (.t 86) (.t 87),none⟩])
 (.seq (.reg [⟨(some 89),.move (.t 0),none⟩,⟨(some 90),.move (.t 1),none⟩,⟨(some 91),.slice 10 (.t 89) (some (.t 90)) none none,none⟩,⟨(some 92),.move (.t 7),none⟩,⟨(some 93),.call (.c (.func 163 [])) [(.t 91),(.t 92)],none⟩])
 (.seq (.reg [⟨(some 94),.move (.t 0),none⟩,⟨(some 6),.move (.t 94),none⟩])
 (.ret))))))))))))⟩
theorem cf126_ok:cFunc Tryz.prog Tryz.f126=some cf126:=by kernel_rfl
theorem overlaps_noneG : (Tryz.f162.name == "runtime.NumGoroutine") = false ∧ Tryz.f162.body.isNone = true := ⟨by kernel_rfl, by kernel_rfl⟩
theorem overlaps_nextG:Extern.findNext Tryz.f162=none:=by kernel_rfl
theorem overlaps_findG:Extern.find Tryz.f162=some (Extern.SlicesOverlaps.overlaps #[25,25] #[4]):=by kernel_rfl
theorem overlaps_sizeG:sizeOf? Tryz.prog 64=some 10:=by kernel_rfl
theorem overlaps_tyG:Program.underlying Tryz.prog 25=some (.slice 64):=by kernel_rfl
theorem Insert_rowG(es:List AV)(x:AV)(i cap:Nat)(hi:i≤es.length)(hx:x.solid=true)(h1:es.length≤cap)(h2:cap≤maxLen)(hs:es.length≤1000000)(hp:pureL es∧x.pure) :
  HSpec Tryz.prog 126 [.vec 0,.int i,.vec 1] [.row 10 es es.length cap,.vec 10 [x]] (.vec 2) [none,none,some (.vec 10 (insAt es i x))]:=by
 have hml:=maxLen_eq
 refine HSpec.walk Tryz.func126 cf126_ok (by simp [cf126]) ?_
 unfold cf126
 simp only [initT,initH,List.length_cons,List.length_nil]
 refine AWP.seq' ?_
 refine AWP.reg' fun K hK=>?_
 try simp only [stepS,stepD,stepM,eq_self,implies_true,forall_eq_or_imp,forall_eq,Nat.reduceEqDiff,↓reduceIte,Nat.reduceAdd,Nat.reduceLeDiff,Nat.reduceSub,Nat.reduceMul,Nat.reduceLT,Int.reduceBEq,Int.reduceBNe,Int.reduceToNat,Int.reduceLT,Int.reduceLE,Int.reduceAdd,Int.reduceSub,Int.reduceMul,reduceCtorEq]
 refine hK _ _ _ ?_
 clear hK K
 refine AWP.seq' ?_
 refine AWP.reg' fun K hK=>?_
 try simp only [stepS,stepD,stepM,eq_self,implies_true,forall_eq_or_imp,forall_eq,Nat.reduceEqDiff,↓reduceIte,Nat.reduceAdd,Nat.reduceLeDiff,Nat.reduceSub,Nat.reduceMul,Nat.reduceLT,Int.reduceBEq,Int.reduceBNe,Int.reduceToNat,Int.reduceLT,Int.reduceLE,Int.reduceAdd,Int.reduceSub,Int.reduceMul,reduceCtorEq]
 repeat (refine And.intro (by omega) ?_)
 refine hK _ _ _ ?_
 clear hK K
 refine AWP.seq' ?_
 refine AWP.reg' fun K hK=>?_
 try simp only [stepS,stepD,stepM,eq_self,implies_true,forall_eq_or_imp,forall_eq,Nat.reduceEqDiff,↓reduceIte,Nat.reduceAdd,Nat.reduceLeDiff,Nat.reduceSub,Nat.reduceMul,Nat.reduceLT,Int.reduceBEq,Int.reduceBNe,Int.reduceToNat,Int.reduceLT,Int.reduceLE,Int.reduceAdd,Int.reduceSub,Int.reduceMul,reduceCtorEq]
 refine hK _ _ _ ?_
 clear hK K
 refine AWP.seq' (AWP.seq' ?_)
 refine AWP.reg' fun K hK=>?_
 try simp only [stepS,stepD,stepM,eq_self,implies_true,forall_eq_or_imp,forall_eq,Nat.reduceEqDiff,↓reduceIte,Nat.reduceAdd,Nat.reduceLeDiff,Nat.reduceSub,Nat.reduceMul,Nat.reduceLT,Int.reduceBEq,Int.reduceBNe,Int.reduceToNat,Int.reduceLT,Int.reduceLE,Int.reduceAdd,Int.reduceSub,Int.reduceMul,reduceCtorEq]
 refine hK _ _ _ ?_
 clear hK K
 refine AWP.cond (b:=false) rfl (fun h=>by cases h) (fun _=>?_)
 refine AWP.skip ?_
 refine AWP.seq' ?_
 refine AWP.reg' fun K hK=>?_
 try simp only [stepS,stepD,stepM,eq_self,implies_true,forall_eq_or_imp,forall_eq,Nat.reduceEqDiff,↓reduceIte,Nat.reduceAdd,Nat.reduceLeDiff,Nat.reduceSub,Nat.reduceMul,Nat.reduceLT,Int.reduceBEq,Int.reduceBNe,Int.reduceToNat,Int.reduceLT,Int.reduceLE,Int.reduceAdd,Int.reduceSub,Int.reduceMul,reduceCtorEq]
 refine hK _ _ _ ?_
 clear hK K
 refine AWP.seq' (AWP.seq' ?_)
 refine AWP.reg' fun K hK=>?_
 try simp only [stepS,stepD,stepM,eq_self,implies_true,forall_eq_or_imp,forall_eq,Nat.reduceEqDiff,↓reduceIte,Nat.reduceAdd,Nat.reduceLeDiff,Nat.reduceSub,Nat.reduceMul,Nat.reduceLT,Int.reduceBEq,Int.reduceBNe,Int.reduceToNat,Int.reduceLT,Int.reduceLE,Int.reduceAdd,Int.reduceSub,Int.reduceMul,reduceCtorEq]
 refine hK _ _ _ ?_
 clear hK K
 refine AWP.cond (b:=((i:Int)==(es.length:Int))) rfl (fun h=>?_) (fun h=>?_)
 ·have h:i=es.length:=by have:=eq_of_beq h;omega
  refine AWP.seq' ?_
  refine AWP.reg' fun K hK=>?_
  try simp only [stepS,stepD,stepM,eq_self,implies_true,forall_eq_or_imp,forall_eq,Nat.reduceEqDiff,↓reduceIte,Nat.reduceAdd,Nat.reduceLeDiff,Nat.reduceSub,Nat.reduceMul,Nat.reduceLT,Int.reduceBEq,Int.reduceBNe,Int.reduceToNat,Int.reduceLT,Int.reduceLE,Int.reduceAdd,Int.reduceSub,Int.reduceMul,reduceCtorEq,appendA,srcA]
  repeat (refine And.intro (by omega) ?_)
  refine hK _ _ _ ?_
  clear hK K
  refine AWP.ret (fin_ren [0,1,274] [(6,.vec 2)] rfl rfl ?_ ?_ rfl (by simp) ?_ (by simp))
  ·simp only [List.mem_singleton,forall_eq]
   exact ⟨rfl,show (2:Nat)<3 by omega⟩
  ·refine ⟨⟨?_,?_⟩,trivial⟩
   ·rw [(vec_ren (m:=0) (pureL_insAt hp.1 hp.2 i)).1]
    show some (Blk.vec 10 (es++[x]))=_
    rw [insAt,h,List.take_length,List.drop_length,List.append_nil]
   ·exact (vec_ren (π:=id) (pureL_insAt hp.1 hp.2 i)).2
  ·intro b hb
   match b,hb with
   | 0,_=>rfl
   | 1,_=>rfl
 have h:¬i=es.length:=by intro e;subst e;simp at h
 refine AWP.skip ?_
 refine AWP.seq' (AWP.seq' ?_)
 have w1:IntKind.i64.wrap ((es.length:Int)+1)=es.length+1:=wrap64 (by omega)
 refine AWP.reg' fun K hK=>?_
 try simp only [stepS,stepD,stepM,eq_self,implies_true,forall_eq_or_imp,forall_eq,Nat.reduceEqDiff,↓reduceIte,Nat.reduceAdd,Nat.reduceLeDiff,Nat.reduceSub,Nat.reduceMul,Nat.reduceLT,Int.reduceBEq,Int.reduceBNe,Int.reduceToNat,Int.reduceLT,Int.reduceLE,Int.reduceAdd,Int.reduceSub,Int.reduceMul,reduceCtorEq,w1]
 refine hK _ _ _ ?_
 clear hK K
 refine AWP.cond (b:=decide ((cap:Int)<(es.length:Int)+1)) rfl (fun h3=>?_) (fun h3=>?_)
 ·have h3:cap=es.length:=by have:=of_decide_eq_true h3;omega
  refine AWP.seq' ?_
  have w2:IntKind.i64.wrap ((es.length:Int)+1-i)=es.length+1-i:=wrap64 (by omega)
  have hlt:¬((es.length:Int)<(i:Int)):=by omega
  refine AWP.reg' fun K hK=>?_
  try simp only [stepS,stepD,stepM,eq_self,implies_true,forall_eq_or_imp,forall_eq,Nat.reduceEqDiff,↓reduceIte,Nat.reduceAdd,Nat.reduceLeDiff,Nat.reduceSub,Nat.reduceMul,Nat.reduceLT,Int.reduceBEq,Int.reduceBNe,Int.reduceToNat,Int.reduceLT,Int.reduceLE,Int.reduceAdd,Int.reduceSub,Int.reduceMul,reduceCtorEq,w1,w2,appendZA,Int.toNat_natCast,hlt]
  repeat (refine And.intro (by omega) ?_)
  refine hK _ _ _ ?_
  clear hK K
  have hn:((es.length:Int)+1-i).toNat=es.length+1-i:=by omega
  rw [hn]
  generalize hL:es.take i++List.replicate (es.length+1-i) (AV.agg [AV.val (Value.int IntKind.i64 0),AV.val (Value.int IntKind.i64 0),AV.val (Value.int IntKind.i64 0),AV.val (Value.int IntKind.i64 0),AV.val (Value.int IntKind.i64 0),AV.val (Value.int IntKind.i64 0),AV.val (Value.int IntKind.i64 0),AV.val (Value.int IntKind.i64 0),AV.val (Value.int IntKind.i64 0),AV.sl 0 [] true])=L
  have hLl:L.length=es.length+1:=by rw [←hL];simp;omega
  refine AWP.seq' ?_
  have hpos:0<es.length+1:=by omega
  have hsub:(((es.length+1:Nat):Int)-(i:Int)).toNat=es.length+1-i:=by omega
  have hmin:Nat.min 1 (es.length+1-i)=1:=Nat.min_eq_left (by omega)
  refine AWP.reg' fun K hK=>?_
  try simp only [stepS,stepD,stepM,eq_self,implies_true,forall_eq_or_imp,forall_eq,Nat.reduceEqDiff,↓reduceIte,Nat.reduceAdd,Nat.reduceLeDiff,Nat.reduceSub,Nat.reduceMul,Nat.reduceLT,Int.reduceBEq,Int.reduceBNe,Int.reduceToNat,Int.reduceLT,Int.reduceLE,Int.reduceAdd,Int.reduceSub,Int.reduceMul,reduceCtorEq,hLl,copyA,srcP,srcA,Int.toNat_natCast,hpos,hsub,hmin]
  repeat (refine And.intro (by omega) ?_)
  refine hK _ _ _ ?_
  clear hK K
  have ht1:List.take 1 [x]=[x]:=rfl
  have w3:IntKind.i64.wrap ((i:Int)+1)=i+1:=wrap64 (by omega)
  generalize hM:over L i [x]=M
  have hMl:M.length=es.length+1:=by rw [←hM,over_length (by omega),Nat.max_def];split<;>simp at *<;>omega
  refine AWP.seq' ?_
  have ha:((es.length:Int)-(i:Int)).toNat=es.length-i:=by omega
  have hb:(((es.length+1:Nat):Int)-((i:Int)+1)).toNat=es.length-i:=by omega
  have hc:((i:Int)+1).toNat=i+1:=by omega
  have hd:Nat.min (es.length-i) (es.length-i)=es.length-i:=Nat.min_self _
  have he:(es.drop i).take (es.length-i)=es.drop i:=List.take_of_length_le (by simp)
  have hf:(es.drop i).length=es.length-i:=List.length_drop ..
  refine AWP.dreg' fun K hK=>?_
  try simp only [stepS,stepD,stepM,eq_self,implies_true,forall_eq_or_imp,forall_eq,Nat.reduceEqDiff,↓reduceIte,Nat.reduceAdd,Nat.reduceLeDiff,Nat.reduceSub,Nat.reduceMul,Nat.reduceLT,Int.reduceBEq,Int.reduceBNe,Int.reduceToNat,Int.reduceLT,Int.reduceLE,Int.reduceAdd,Int.reduceSub,Int.reduceMul,reduceCtorEq,hMl,copyA,srcP,srcA,Int.toNat_natCast,hpos,w3,ha,hb,hc,hd,he,hf]
  repeat (refine And.intro (by omega) ?_)
  refine ⟨by rfl,hK _ _ _ ?_⟩
  clear hK K
  refine AWP.seq' ?_
  refine AWP.reg' fun K hK=>?_
  try simp only [stepS,stepD,stepM,eq_self,implies_true,forall_eq_or_imp,forall_eq,Nat.reduceEqDiff,↓reduceIte,Nat.reduceAdd,Nat.reduceLeDiff,Nat.reduceSub,Nat.reduceMul,Nat.reduceLT,Int.reduceBEq,Int.reduceBNe,Int.reduceToNat,Int.reduceLT,Int.reduceLE,Int.reduceAdd,Int.reduceSub,Int.reduceMul,reduceCtorEq]
  refine hK _ _ _ ?_
  clear hK K
  have hfin:over M (i+1) (es.drop i)=insAt es i x:=by
   have hLi:L.take i=es.take i:=by
    rw [←hL,List.take_append_of_le_length (by simp;omega),List.take_take,Nat.min_self]
   have hMi:M.take (i+1)=es.take i++[x]:=by
    have e1:(es.take i++[x]).length=i+1:=by simp;omega
    rw [←hM,over,hLi,←e1]
    exact List.take_left
   have hMd:M.drop (i+1+(es.drop i).length)=[]:=List.drop_of_length_le (by rw [hMl,hf];omega)
   unfold over insAt
   rw [hMi,hMd,List.append_nil]
  refine AWP.ret (fin_ren [0,1,466] [(6,.vec 2)] rfl rfl ?_ ?_ rfl (by simp) ?_ (by simp))
  ·simp only [List.mem_singleton,forall_eq]
   exact ⟨rfl,show (2:Nat)<3 by omega⟩
  ·refine ⟨⟨?_,?_⟩,trivial⟩
   ·rw [(vec_ren (m:=0) (pureL_insAt hp.1 hp.2 i)).1,←hfin]
    rfl
   ·exact (vec_ren (π:=id) (pureL_insAt hp.1 hp.2 i)).2
  ·intro b hb
   match b,hb with
   | 0,_=>rfl
   | 1,_=>rfl
 have h3:es.length+1≤cap:=by have:=of_decide_eq_false h3;omega
 refine AWP.skip ?_
 refine AWP.seq' ?_
 have hgt:((es.length:Int)<(es.length:Int)+1):=by omega
 refine AWP.reg' fun K hK=>?_
 try simp only [stepS,stepD,stepM,eq_self,implies_true,forall_eq_or_imp,forall_eq,Nat.reduceEqDiff,↓reduceIte,Nat.reduceAdd,Nat.reduceLeDiff,Nat.reduceSub,Nat.reduceMul,Nat.reduceLT,Int.reduceBEq,Int.reduceBNe,Int.reduceToNat,Int.reduceLT,Int.reduceLE,Int.reduceAdd,Int.reduceSub,Int.reduceMul,reduceCtorEq,w1,hgt]
 repeat (refine And.intro (by omega) ?_)
 refine hK _ _ _ ?_
 clear hK K
 have w3:IntKind.i64.wrap ((i:Int)+1)=i+1:=wrap64 (by omega)
 refine AWP.seq' (AWP.seq' ?_)
 have hn1:((es.length:Int)+1).toNat=es.length+1:=by omega
 refine AWP.reg' fun K hK=>?_
 try simp only [stepS,stepD,stepM,eq_self,implies_true,forall_eq_or_imp,forall_eq,Nat.reduceEqDiff,↓reduceIte,Nat.reduceAdd,Nat.reduceLeDiff,Nat.reduceSub,Nat.reduceMul,Nat.reduceLT,Int.reduceBEq,Int.reduceBNe,Int.reduceToNat,Int.reduceLT,Int.reduceLE,Int.reduceAdd,Int.reduceSub,Int.reduceMul,reduceCtorEq,w3,Int.toNat_natCast,hn1]
 repeat (refine And.intro (by omega) ?_)
 refine evT_ext rfl rfl (ext_overlaps Tryz.func162 overlaps_noneG.1 overlaps_noneG.2 overlaps_nextG overlaps_findG overlaps_tyG overlaps_sizeG (by omega) rfl rfl (by omega) (by simp) (by omega)) ?_
 try simp only [stepS,stepD,stepM,eq_self,implies_true,forall_eq_or_imp,forall_eq,Nat.reduceEqDiff,↓reduceIte,Nat.reduceAdd,Nat.reduceLeDiff,Nat.reduceSub,Nat.reduceMul,Nat.reduceLT,Int.reduceBEq,Int.reduceBNe,Int.reduceToNat,Int.reduceLT,Int.reduceLE,Int.reduceAdd,Int.reduceSub,Int.reduceMul,reduceCtorEq,w3]
 refine hK _ _ _ ?_
 clear hK K
 refine AWP.cond (b:=true) rfl (fun _=>?_) (fun h=>by cases h)
 refine AWP.seq' ?_
 have hb:(((es.length+1:Nat):Int)-((i:Int)+1)).toNat=es.length-i:=by omega
 have hc:((i:Int)+1).toNat=i+1:=by omega
 have hsub:(((es.length+1:Nat):Int)-(i:Int)).toNat=es.length+1-i:=by omega
 have hd:Nat.min (es.length+1-i) (es.length-i)=es.length-i:=Nat.min_eq_right (by omega)
 have he:(es.drop i).take (es.length+1-i)=es.drop i:=List.take_of_length_le (by simp;omega)
 have he2:(es.drop i).take (es.length-i)=es.drop i:=List.take_of_length_le (by simp)
 have hf:(es.drop i).length=es.length-i:=List.length_drop ..
 refine AWP.dreg' fun K hK=>?_
 try simp only [stepS,stepD,stepM,eq_self,implies_true,forall_eq_or_imp,forall_eq,Nat.reduceEqDiff,↓reduceIte,Nat.reduceAdd,Nat.reduceLeDiff,Nat.reduceSub,Nat.reduceMul,Nat.reduceLT,Int.reduceBEq,Int.reduceBNe,Int.reduceToNat,Int.reduceLT,Int.reduceLE,Int.reduceAdd,Int.reduceSub,Int.reduceMul,reduceCtorEq,w3,copyA,srcP,srcA,Int.toNat_natCast,hb,hc,hsub,hd,he,he2,hf]
 repeat (refine And.intro (by omega) ?_)
 refine ⟨by rfl,hK _ _ _ ?_⟩
 clear hK K
 have hMl:(over es (i+1) (es.drop i)).length=es.length+1:=by simp [over];omega
 have hMt:(over es (i+1) (es.drop i)).take i=es.take i:=by
  unfold over
  rw [List.append_assoc,List.take_append_of_le_length (by simp;omega),List.take_take,Nat.min_eq_left (by omega)]
 have hMd:(over es (i+1) (es.drop i)).drop (i+1)=es.drop i:=by
  unfold over
  have e1:(es.take (i+1)).length=i+1:=by simp;omega
  have e2:es.drop (i+1+(es.drop i).length)=[]:=List.drop_of_length_le (by simp;omega)
  rw [e2,List.append_nil]
  have e3:=List.drop_left (l₁:=es.take (i+1)) (l₂:=es.drop i)
  rw [e1] at e3;exact e3
 generalize hM:over es (i+1) (es.drop i)=M at *
 refine AWP.seq' ?_
 have hsub:(((es.length+1:Nat):Int)-(i:Int)).toNat=es.length+1-i:=by omega
 have hmin:Nat.min 1 (es.length+1-i)=1:=Nat.min_eq_left (by omega)
 have ht1:List.take 1 [x]=[x]:=rfl
 refine AWP.reg' fun K hK=>?_
 try simp only [stepS,stepD,stepM,eq_self,implies_true,forall_eq_or_imp,forall_eq,Nat.reduceEqDiff,↓reduceIte,Nat.reduceAdd,Nat.reduceLeDiff,Nat.reduceSub,Nat.reduceMul,Nat.reduceLT,Int.reduceBEq,Int.reduceBNe,Int.reduceToNat,Int.reduceLT,Int.reduceLE,Int.reduceAdd,Int.reduceSub,Int.reduceMul,reduceCtorEq,hMl,copyA,srcP,srcA,Int.toNat_natCast,hsub,hmin]
 repeat (refine And.intro (by omega) ?_)
 refine hK _ _ _ ?_
 clear hK K
 refine AWP.seq' ?_
 refine AWP.reg' fun K hK=>?_
 try simp only [stepS,stepD,stepM,eq_self,implies_true,forall_eq_or_imp,forall_eq,Nat.reduceEqDiff,↓reduceIte,Nat.reduceAdd,Nat.reduceLeDiff,Nat.reduceSub,Nat.reduceMul,Nat.reduceLT,Int.reduceBEq,Int.reduceBNe,Int.reduceToNat,Int.reduceLT,Int.reduceLE,Int.reduceAdd,Int.reduceSub,Int.reduceMul,reduceCtorEq]
 refine hK _ _ _ ?_
 clear hK K
 have hfin:over M i [x]=insAt es i x:=by
  unfold over insAt
  rw [hMt,show i+[x].length=i+1 from rfl,hMd]
 have hfl:(insAt es i x).length=es.length+1:=by unfold insAt;simp;omega
 rw [hfin]
 refine AWP.ret (fin_weak (Weak.row (b:=402) (cap:=cap) (k:=10) (es:=insAt es i x) (by rw [hfl];rfl)) (fin_ren [0,1,402] [(6,.vec 2)] rfl rfl ?_ ?_ rfl (by simp) ?_ (by simp)))
 ·simp only [List.mem_singleton,forall_eq]
  exact ⟨rfl,show (2:Nat)<3 by omega⟩
 ·refine ⟨⟨?_,?_⟩,trivial⟩
  ·rw [(vec_ren (m:=0) (pureL_insAt hp.1 hp.2 i)).1]
   rfl
  ·exact (vec_ren (π:=id) (pureL_insAt hp.1 hp.2 i)).2
 ·intro b hb
  match b,hb with
  | 0,_=>rfl
  | 1,_=>rfl
theorem Insert_nilG(x:AV)(hx:x.solid=true)(hp:x.pure) :
  HSpec Tryz.prog 126 [.vec 0,.int 0,.vec 1] [.vec 10 [],.vec 10 [x]] (.vec 2) [none,none,some (.vec 10 [x])]:=by
 have hml:=maxLen_eq
 refine HSpec.walk Tryz.func126 cf126_ok (by simp [cf126]) ?_
 unfold cf126
 simp only [initT,initH,List.length_cons,List.length_nil]
 refine AWP.seq' ?_
 refine AWP.reg' fun K hK=>?_
 try simp only [stepS,stepD,stepM,eq_self,implies_true,forall_eq_or_imp,forall_eq,Nat.reduceEqDiff,↓reduceIte,Nat.reduceAdd,Nat.reduceLeDiff,Nat.reduceSub,Nat.reduceMul,Nat.reduceLT,Int.reduceBEq,Int.reduceBNe,Int.reduceToNat,Int.reduceLT,Int.reduceLE,Int.reduceAdd,Int.reduceSub,Int.reduceMul,reduceCtorEq]
 refine hK _ _ _ ?_
 clear hK K
 refine AWP.seq' ?_
 refine AWP.reg' fun K hK=>?_
 try simp only [stepS,stepD,stepM,eq_self,implies_true,forall_eq_or_imp,forall_eq,Nat.reduceEqDiff,↓reduceIte,Nat.reduceAdd,Nat.reduceLeDiff,Nat.reduceSub,Nat.reduceMul,Nat.reduceLT,Int.reduceBEq,Int.reduceBNe,Int.reduceToNat,Int.reduceLT,Int.reduceLE,Int.reduceAdd,Int.reduceSub,Int.reduceMul,reduceCtorEq]
 refine hK _ _ _ ?_
 clear hK K
 refine AWP.seq' ?_
 refine AWP.reg' fun K hK=>?_
 try simp only [stepS,stepD,stepM,eq_self,implies_true,forall_eq_or_imp,forall_eq,Nat.reduceEqDiff,↓reduceIte,Nat.reduceAdd,Nat.reduceLeDiff,Nat.reduceSub,Nat.reduceMul,Nat.reduceLT,Int.reduceBEq,Int.reduceBNe,Int.reduceToNat,Int.reduceLT,Int.reduceLE,Int.reduceAdd,Int.reduceSub,Int.reduceMul,reduceCtorEq]
 refine hK _ _ _ ?_
 clear hK K
 refine AWP.seq' (AWP.seq' ?_)
 refine AWP.reg' fun K hK=>?_
 try simp only [stepS,stepD,stepM,eq_self,implies_true,forall_eq_or_imp,forall_eq,Nat.reduceEqDiff,↓reduceIte,Nat.reduceAdd,Nat.reduceLeDiff,Nat.reduceSub,Nat.reduceMul,Nat.reduceLT,Int.reduceBEq,Int.reduceBNe,Int.reduceToNat,Int.reduceLT,Int.reduceLE,Int.reduceAdd,Int.reduceSub,Int.reduceMul,reduceCtorEq]
 refine hK _ _ _ ?_
 clear hK K
 refine AWP.cond (b:=false) rfl (fun h=>by cases h) (fun _=>?_)
 refine AWP.skip ?_
 refine AWP.seq' ?_
 refine AWP.reg' fun K hK=>?_
 try simp only [stepS,stepD,stepM,eq_self,implies_true,forall_eq_or_imp,forall_eq,Nat.reduceEqDiff,↓reduceIte,Nat.reduceAdd,Nat.reduceLeDiff,Nat.reduceSub,Nat.reduceMul,Nat.reduceLT,Int.reduceBEq,Int.reduceBNe,Int.reduceToNat,Int.reduceLT,Int.reduceLE,Int.reduceAdd,Int.reduceSub,Int.reduceMul,reduceCtorEq]
 refine hK _ _ _ ?_
 clear hK K
 refine AWP.seq' (AWP.seq' ?_)
 refine AWP.reg' fun K hK=>?_
 try simp only [stepS,stepD,stepM,eq_self,implies_true,forall_eq_or_imp,forall_eq,Nat.reduceEqDiff,↓reduceIte,Nat.reduceAdd,Nat.reduceLeDiff,Nat.reduceSub,Nat.reduceMul,Nat.reduceLT,Int.reduceBEq,Int.reduceBNe,Int.reduceToNat,Int.reduceLT,Int.reduceLE,Int.reduceAdd,Int.reduceSub,Int.reduceMul,reduceCtorEq]
 refine hK _ _ _ ?_
 clear hK K
 refine AWP.cond (b:=true) rfl (fun h=>?_) (fun h=>by cases h)
 refine AWP.seq' ?_
 refine AWP.reg' fun K hK=>?_
 try simp only [stepS,stepD,stepM,eq_self,implies_true,forall_eq_or_imp,forall_eq,Nat.reduceEqDiff,↓reduceIte,Nat.reduceAdd,Nat.reduceLeDiff,Nat.reduceSub,Nat.reduceMul,Nat.reduceLT,Int.reduceBEq,Int.reduceBNe,Int.reduceToNat,Int.reduceLT,Int.reduceLE,Int.reduceAdd,Int.reduceSub,Int.reduceMul,reduceCtorEq,appendA,srcA]
 repeat (refine And.intro (by omega) ?_)
 refine hK _ _ _ ?_
 clear hK K
 refine AWP.ret (fin_ren [0,1,274] [(6,.vec 2)] rfl rfl ?_ ?_ rfl (by simp) ?_ (by simp))
 ·simp only [List.mem_singleton,forall_eq]
  exact ⟨rfl,show (2:Nat)<3 by omega⟩
 ·have hp':pureL [x]:=⟨hp,trivial⟩
  refine ⟨⟨?_,?_⟩,trivial⟩
  ·rw [(vec_ren (m:=0) hp').1]
   rfl
  ·exact (vec_ren (π:=id) hp').2
 ·intro b hb
  match b,hb with
  | 0,_=>rfl
  | 1,_=>rfl
theorem Insert_specG(es:List AV)(x:AV)(i:Nat)(hi:i≤es.length)(hx:x.solid=true)(hs:es.length≤1000000)(hp:pureL es∧x.pure) :
  HSpec Tryz.prog 126 [.vec 0,.int i,.vec 1] [.vec 10 es,.vec 10 [x]] (.vec 2) [none,none,some (.vec 10 (insAt es i x))]:=by
 refine HSpec.of_row (fun cap h1 h2=>Insert_rowG es x i cap hi hx h1 h2 hs hp) (fun h=>?_)
 subst h
 have:i=0:=by simpa using hi
 subst this
 exact Insert_nilG x hx hp.2
theorem Insert_fnG:FnOk Tryz.prog 126:=fnB_ok (by kernel_rfl)
def insG_h(l:List Sig)(x:Sig)(i:Int)(hi:0≤i∧i≤l.length)(hl:l.length≤1000000):HC Tryz.prog:=
 ⟨126,[.k,.k,.k],[.vec 0,.int i,.vec 1],[.vec 10 (l.map Sig.v),.vec 10 [x.v]],.vec 2,[none,none,some (.vec 10 ((insAt l i.toNat x).map Sig.v))],by
  have h:=Insert_specG (l.map Sig.v) (Sig.v x) i.toNat (by rw [List.length_map];omega) rfl (by simpa using hl) ⟨pureBL_ok (pureBL_map (fun _=>rfl) l),AV.pureB_ok rfl⟩
  rw [insAt_map] at h
  have e1:((i.toNat:Nat):Int)=i:=by omega
  rw [e1] at h
  exact h,Insert_fnG,HcOk.of (by have e:x.v.pureB=true:=rfl;simp [e,hcB,belBL,AV.belB,allB,okBk,okBkO,pureBL_map (v:=Sig.v) (fun _=>rfl),pureBL,AV.pureB])⟩
end Go.Proofs.YtkanhopflelmdaaGreatDoor
