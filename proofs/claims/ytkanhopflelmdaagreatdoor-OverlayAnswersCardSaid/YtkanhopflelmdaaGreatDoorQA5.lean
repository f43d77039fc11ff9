/- Texts joined: G7 G8 IH G9 G10 G11 Mx7. -/
import Derived.KernelRfl
import Derived.Shelf.SlSortCmp.NoneTotal
import Derived.Shelf.SlSortCmp.WholeK
import Derived.Test.YtkanhopflelmdaaGreatDoorQA4
set_option linter.unusedVariables false
set_option linter.unusedSimpArgs false
namespace Go.Proofs.YtkanhopflelmdaaGreatDoor
open Go Go.Am
theorem errIf_pos{p:Prop}[Decidable p](h:p):errIf p=0:=if_pos h
theorem valS_t{s:Spk}:(valS s != 0)=true↔¬spkOk s:=by
 by_cases h:spkOk s<;>simp [valS,errIf,h]
theorem valS_f{s:Spk}:(valS s != 0)=false↔spkOk s:=by
 by_cases h:spkOk s<;>simp [valS,errIf,h]
theorem valL_t{s:Lsn}:(valL s != 0)=true↔¬lsnOk s:=by
 by_cases h:lsnOk s<;>simp [valL,errIf,h]
theorem valL_f{s:Lsn}:(valL s != 0)=false↔lsnOk s:=by
 by_cases h:lsnOk s<;>simp [valL,errIf,h]
theorem pureBLs_one{es:List AV}(h:pureBL es=true):pureBLs [es]=true:=by rw [pureBLs,h];rfl
theorem srcs_len{m:Int}{l:List Int}(h:fltErr m l=0):l.length≤99:=by
 unfold fltErr at h
 split at h
 ·cases h
 split at h
 ·cases h
 rename_i hr
 split at h
 ·cases h
 rename_i ha
 have hr:=Classical.not_not.mp hr
 have ha:=Classical.not_not.mp ha
 have hp:l.Pairwise fun x y=>id x<id y:=pw_adj (key:=id) fun j x y hx hy=>ascI_iff.mp ha j x y hx hy
 exact nodup_len 99 l (hp.imp fun h=>Int.ne_of_lt h) fun x hx=>by have:=hr x hx;omega
theorem okItms_of{n:Int}{l:List Itm}(h:itmsOk n l):okItms l:=⟨by have:=itms_len h;omega,fun x hx=>by have:=srcs_len (h.1 x hx).2.2;omega⟩
theorem set_same{α:Type}{l:List α}{i:Nat}{x:α}(h:l[i]?=some x):l.set i x=l:=by
 have hi:=lt_of_get h
 rw [List.getElem?_eq_getElem hi] at h
 rw [←Option.some.inj h];exact List.set_getElem_self hi
theorem orI_two(a b:Int):orI [a,b]=if a≠0 then a else b:=by
 by_cases h:a=0
 ·by_cases h2:b=0<;>simp [orI,h,h2]
 ·simp [orI,h]
theorem without_zero{n:Int}{l:List Itm}(h:itmsOk n l):Go.Proofs.YtkanhopflelmdaaGreatDoor.without 0 l=l:=by
 rw [Go.Proofs.YtkanhopflelmdaaGreatDoor.without,List.filter_eq_self]
 intro x hx
 have:=(h.1 x hx).2.1
 simp;omega
def new_a(router:Int)(epoch:Int)(peers:(List Int)):Prop:=okL [.int router,.int epoch,.sl 1 (peers.map AV.int) false]
def new_e(r:Spk×Int):AV:=.tup [Spk.v r.1,.int r.2]
def new_x(router:Int)(epoch:Int)(peers:(List Int)):Ax Tryz.prog noS (Spk×Int):=
 (.req 80 (peers.length≤1000000) fun h1 =>
(.callH [] (fresh_h peers h1) 80
(.callP (valS_c (⟨router,epoch,0,[],fresh peers⟩:Spk))
(.say (ck (pureBLs [((fresh peers).map Per.v)])) (.br 192 ((valS (⟨router,epoch,0,[],fresh peers⟩:Spk)) != 0) (.ret ((⟨0,0,0,[],[]⟩:Spk),1))
(.say (Rf ((fresh peers).map Per.v)) (.cmdL (.frzE 80 ((fresh peers).map Per.v) (pureBL_map (fun _=>rfl) (fresh peers))) (.ret ((⟨router,epoch,0,[],fresh peers⟩:Spk),0)))))))))
def new_vc(router:Int)(epoch:Int)(peers:(List Int))(r0:Spk×Int):Prop:=(new_x router epoch peers).vp new_e r0
theorem new_p(r k:Int)(p:List Int)(h:p.length≤1000000)(ok:new_a r k p):new_vc r k p (new r k p):=by
 dsimp only [new_vc,new_x,noS,Ax.vp,Ax.vc];simp only [vcU,rfU,List.length_map]
 refine ⟨h,pureBLs_one (pureBL_map (fun _=>rfl) _),fun e=>?_,fun e=>?_⟩
 ·have e:=valS_t.mp e
  exact (if_neg e).symm
 ·have e:=valS_f.mp e
  exact (if_pos e).symm
def new_c(router:Int)(epoch:Int)(peers:(List Int))(h:peers.length≤1000000):PC Tryz.prog:=⟨74,[.k,.k,(.s 1)],[.int router,.int epoch,.sl 1 (peers.map AV.int) false],new_e (Go.Proofs.YtkanhopflelmdaaGreatDoor.new router epoch peers),PSpec.of_ok fun ok=>mxP_of (sh:=(.a [(.a [.k,.k,.k,(.s 4),(.s 3)]),.k])) (enc:=new_e) (a:=(new_x router epoch peers).an) (new_p router epoch peers h ok) (by kernel_rfl) (AV.pureB_ok rfl),fnB_ok (by kernel_rfl)⟩
def restart_a(s:Spk)(wants:(List Wnt)):Prop:=okL [.agg [.int s.router,.int s.epoch,.int s.last,.sl 4 (s.items.map Itm.v) false,.sl 3 (s.peers.map Per.v) false],.sl 3 (wants.map Wnt.v) false]
def restart_n0(s:Spk)(wants:(List Wnt))(t0:Int×(List Itm)):NF:=⟨[(2,.k,.ref 0 0),(4,.k,.ref 1 0),(7,.k,.ref 2 0),(34,.k,.sl 3 (wants.map Wnt.v) false),(35,.k,.int ((wants.map Wnt.v).length:Int)),(36,.k,.int t0.1)],[.box (.agg [.int s.router,.int s.epoch,.int s.last,.sl 4 (s.items.map Itm.v) false,.sl 3 (s.peers.map Per.v) false]),.box (.agg [.int 0,.int 0,.int 0,.sl 0 [] true,.sl 0 [] true]),.box (.agg [.int s.router,.int (W (s.epoch+1)),.int ((wants.map Wnt.v).length:Int),.vec 3,.sl 0 [] true]),.vec 4 (t0.2.map Itm.v) (pureBL_map (fun _=>rfl) t0.2)]⟩
def restart_n1(s:Spk)(wants:(List Wnt))(t0:Int×(List Itm))(t1:Int×(List Per)):NF:=⟨[(4,.k,.ref 0 0),(7,.k,.ref 1 0),(56,.k,.sl 3 (s.peers.map Per.v) false),(57,.k,.int ((s.peers.map Per.v).length:Int)),(58,.k,.int t1.1)],[.box (.agg [.int 0,.int 0,.int 0,.sl 0 [] true,.sl 0 [] true]),.box (.agg [.int s.router,.int (W (s.epoch+1)),.int ((wants.map Wnt.v).length:Int),.vec 2,.vec 3]),.vec 4 (t0.2.map Itm.v) (pureBL_map (fun _=>rfl) t0.2),.vec 3 (t1.2.map Per.v) (pureBL_map (fun _=>rfl) t1.2)]⟩
@[reducible] def restart_s:Nat→Type
 | 0=>Int×(List Itm)
 | 1=>Int×(List Per)
 | _=>Unit
def restart_e(r:Spk×Int):AV:=.tup [Spk.v r.1,.int r.2]
def restart_x(s:Spk)(wants:(List Wnt))(I0:(Int×(List Itm))→Prop)(m0:(Int×(List Itm))→Nat)(I1:Int×(List Itm)→(Int×(List Per))→Prop)(m1:Int×(List Itm)→(Int×(List Per))→Nat):Ax Tryz.prog restart_s (Spk×Int):=
 (.callP (valS_c s)
(.callP (valW_c wants)
(.callP (orI_c [valS s,wErr false wants])
(.br 192 ((orI [valS s,wErr false wants]) != 0) (.ret ((⟨0,0,0,[],[]⟩:Spk),orI [valS s,wErr false wants]))
(.br 240 (s.epoch==1000000) (.ret ((⟨0,0,0,[],[]⟩:Spk),3))
(.cmdL (.nilB 368 3 4) (.loop 0 (restart_n0 s wants) I0 m0 (0,[]) [0,16,368,448] fun (t0:Int×(List Itm)) b0 =>
(.br 20 (decide (t0.1<((wants.map Wnt.v).length:Int))) (.el 36 Wnt.v wants (fun R=>Rf (wants.map Wnt.v) (ck (decide (0≤t0.1)) (ck (decide (t0.1<(wants.length:Int)))
(∀x1,wants[t0.1.toNat]?=some x1 →
(R x1))))) fun x1 =>
(.req 244 ((⟨x1.mode,x1.srcs⟩:Flt).srcs.length≤1000000) fun h2 =>
(.callP (filtered_c (⟨x1.mode,x1.srcs⟩:Flt) h2)
(.say (fun R=>Rf (α:=List AV) (t0.2.map Itm.v) (Rf (α:=List AV) [.agg [.int (W (t0.1+1)),.int x1.grp,.int x1.mode,.sl 1 (x1.srcs.map AV.int) false]]
(ck (decide (t0.2.length+1≤1000000))
R))) (.app 292 Itm.v t0.2 [(⟨W (t0.1+1),x1.grp,x1.mode,x1.srcs⟩:Itm)]
(.bk 0 b0 (W (t0.1+1),t0.2++[(⟨W (t0.1+1),x1.grp,x1.mode,x1.srcs⟩:Itm)]) [0,1,2,292]))))))
(.cmdL (.nilB 2 4 3) (.loop 1 (restart_n1 s wants t0) (I1 t0) (m1 t0) (0,[]) [1,2,3,84] fun (t1:Int×(List Per)) b1 =>
(.br 20 (decide (t1.1<((s.peers.map Per.v).length:Int))) (.el 20 Per.v s.peers (fun R=>Rf (s.peers.map Per.v) (ck (decide (0≤t1.1)) (ck (decide (t1.1<(s.peers.length:Int)))
(∀x3,s.peers[t1.1.toNat]?=some x3 →
(R x3))))) fun x3 =>
(.say (fun R=>Rf (α:=List AV) (t1.2.map Per.v) (Rf (α:=List AV) [.agg [.int x3.router,.int 0,.int 0]]
(ck (decide (t1.2.length+1≤1000000))
R))) (.app 180 Per.v t1.2 [(⟨x3.router,0,0⟩:Per)]
(.bk 1 b1 (W (t1.1+1),t1.2++[(⟨x3.router,0,0⟩:Per)]) [0,1,2,180]))))
(.say (Rf (t1.2.map Per.v)) (.cmdL (.frzE 3 (t1.2.map Per.v) (pureBL_map (fun _=>rfl) t1.2)) (.say (Rf (t0.2.map Itm.v)) (.cmdL (.frzE 2 (t0.2.map Itm.v) (pureBL_map (fun _=>rfl) t0.2)) (.ret ((⟨s.router,W (s.epoch+1),((wants.map Wnt.v).length:Int),t0.2,t1.2⟩:Spk),0)))))))))))))))))
def restart_vc(s:Spk)(wants:(List Wnt))(I0:(Int×(List Itm))→Prop)(m0:(Int×(List Itm))→Nat)(I1:Int×(List Itm)→(Int×(List Per))→Prop)(m1:Int×(List Itm)→(Int×(List Per))→Nat)(r0:Spk×Int):Prop:=(restart_x s wants I0 m0 I1 m1).vp restart_e r0
theorem restart_p(s:Spk)(w:List Wnt)(ok:restart_a s w):∃I0 m0 I1 m1,restart_vc s w I0 m0 I1 m1 (restart s w):=by
 simp only [restart_a,okU,Blk.ok,plainV,List.length_map] at ok
 refine ⟨fun t=>∃k:Nat,t=((k:Int),(w.take k).mapIdx wItm)∧k≤w.length,fun t=>w.length-t.1.toNat,
  fun t0 t=>t0.2=w.mapIdx wItm∧∃k:Nat,t=((k:Int),(s.peers.take k).map fun p=>⟨p.router,0,0⟩)∧k≤s.peers.length,fun _ t=>s.peers.length-t.1.toNat,?_⟩
 dsimp only [restart_vc,restart_x,restart_s,Ax.vp,Ax.vc];simp only [vcU,rfU,List.length_map]
 rw [orI_two]
 by_cases hs:spkOk s
 case neg=>simp [restart,valS,errIf,hs,spk0]
 rw [show valS s=0 from errIf_pos hs,if_neg (by simp)]
 by_cases hw:wErr false w=0
 case neg=>simp [restart,hs,hw,spk0]
 have hw':=wErr_zero.mp hw
 refine ⟨fun e=>by simp [hw] at e,fun _=>⟨fun e=>?_,fun e=>?_⟩⟩
 ·have e:s.epoch=1000000:=by simpa using e
  rw [restart,if_neg (not_not_intro hs),if_neg (not_not_intro hw),if_pos e];rfl
 have e:¬s.epoch=1000000:=by simpa using e
 have hse:=hs.2.1
 have fin:restart s w=(⟨s.router,s.epoch+1,w.length,w.mapIdx wItm,s.peers.map fun p=>⟨p.router,0,0⟩⟩,0):=by
  rw [restart,if_neg (not_not_intro hs),if_neg (not_not_intro hw),if_neg e]
 refine ⟨⟨0,by simp,by omega⟩,?_⟩
 rintro _ ⟨k,rfl,hk⟩
 simp only [Int.toNat_natCast]
 refine ⟨fun h1=>⟨by omega,by omega,fun x hx=>⟨by have:=srcs_len (hw'.2.2.1 x (mem_of_get hx));show x.srcs.length≤_;omega,?_⟩⟩,fun h1=>?_⟩
 ·have hkl:k<w.length:=by omega
  rw [W_succ (n:=w.length) (by omega) (by omega)]
  refine ⟨by simp;omega,⟨k+1,?_,by omega⟩,by omega⟩
  rw [take_succ hx,List.mapIdx_append]
  simp [wItm,Nat.min_eq_left hk]
 ·rw [List.take_of_length_le (by omega)]
  refine ⟨⟨rfl,0,by simp,by omega⟩,?_⟩
  rintro _ ⟨-,k2,rfl,hk2⟩
  simp only [Int.toNat_natCast]
  have hpl:=hs.2.2.2.2.1
  refine ⟨fun h3=>⟨by omega,by omega,fun x hx=>?_⟩,fun h3=>?_⟩
  ·rw [W_succ (n:=s.peers.length) (by omega) (by omega)]
   refine ⟨by simp;omega,⟨trivial,k2+1,?_,by omega⟩,by omega⟩
   rw [take_succ hx];simp
  ·rw [List.take_of_length_le (by omega),fin,W_eq (by omega)]
def restart_c(s:Spk)(wants:(List Wnt)):PC Tryz.prog:=⟨57,[(.a [.k,.k,.k,(.s 4),(.s 3)]),(.s 3)],[.agg [.int s.router,.int s.epoch,.int s.last,.sl 4 (s.items.map Itm.v) false,.sl 3 (s.peers.map Per.v) false],.sl 3 (wants.map Wnt.v) false],restart_e (Go.Proofs.YtkanhopflelmdaaGreatDoor.restart s wants),PSpec.of_ok fun ok=>(restart_p s wants ok).elim fun I0 h=>h.elim fun m0 h=>h.elim fun I1 h=>h.elim fun m1 h=>mxP_of (sh:=(.a [(.a [.k,.k,.k,(.s 4),(.s 3)]),.k])) (enc:=restart_e) (a:=(restart_x s wants I0 m0 I1 m1).an) h (by kernel_rfl) (AV.pureB_ok rfl),fnB_ok (by kernel_rfl)⟩
def sendF_a(s:Spk)(to_:Int):Prop:=okL [.agg [.int s.router,.int s.epoch,.int s.last,.sl 4 (s.items.map Itm.v) false,.sl 3 (s.peers.map Per.v) false],.int to_]
def sendF_n0(s:Spk)(to_:Int)(t0:Int×Int×(List Sig)):NF:=⟨[(1,.k,.int to_),(2,.k,.ref 0 0),(7,.k,.int (posP s.peers to_:Int)),(9,.k,.vec 1),(10,.k,.int t0.1),(36,.k,.sl 4 (s.items.map Itm.v) false),(37,.k,.int ((s.items.map Itm.v).length:Int)),(38,.k,.int t0.2.1)],[.box (.agg [.int s.router,.int s.epoch,.int s.last,.sl 4 (s.items.map Itm.v) false,.sl 3 (s.peers.map Per.v) false]),.vec 10 (t0.2.2.map Sig.v) (pureBL_map (fun _=>rfl) t0.2.2)]⟩
@[reducible] def sendF_s:Nat→Type
 | 0=>Int×Int×(List Sig)
 | _=>Unit
def sendF_e(r:(List Sig)×Int):AV:=.tup [.sl 10 (r.1.map Sig.v) false,.int r.2]
def sendF_x(s:Spk)(to_:Int)(I0:(Int×Int×(List Sig))→Prop)(m0:(Int×Int×(List Sig))→Nat):Ax Tryz.prog sendF_s ((List Sig)×Int):=
 (.callP (valS_c s)
(.br 128 ((valS s) != 0) (.ret ([],valS s))
(.req 160 (s.peers.Pairwise fun x y=>x.router<y.router) fun h1 =>
(.req 160 (s.peers.length≤1000000) fun h2 =>
(.callP (peer_c s to_ h1 h2)
(.br 288 (!(decide (hitP s.peers to_))) (.ret ([],4))
(.own 416 (.cmdL (.wkB 416 (.a [.k,.k,.k,.k,.k,.k,.k,.k,.k,(.s 1)])) (.loop 0 (sendF_n0 s to_) I0 m0 (0,0,[(⟨1,s.router,to_,s.epoch,s.last,0,0,0,0,[]⟩:Sig)]) [0,416] fun (t0:Int×Int×(List Sig)) b0 =>
(.br 18 (decide (t0.2.1<((s.items.map Itm.v).length:Int))) (.el 18 Itm.v s.items (fun R=>Rf (s.items.map Itm.v) (ck (decide (0≤t0.2.1)) (ck (decide (t0.2.1<(s.items.length:Int)))
(∀x3,s.items[t0.2.1.toNat]?=some x3 →
(R x3))))) fun x3 =>
(.el 162 Per.v s.peers (fun R=>Rf (s.peers.map Per.v) (ck (decide (0≤(posP s.peers to_:Int))) (ck (decide ((posP s.peers to_:Int)<(s.peers.length:Int)))
(∀x4,s.peers[(posP s.peers to_:Int).toNat]?=some x4 →
(R x4))))) fun x4 =>
(.br 226 (decide (x4.acked<x3.ver)) (.req 434 ((⟨x3.mode,x3.srcs⟩:Flt).srcs.length≤1000000) fun h5 =>
(.callP (filtered_c (⟨x3.mode,x3.srcs⟩:Flt) h5)
(.say (fun R=>Rf (α:=List AV) (t0.2.2.map Sig.v) (Rf (α:=List AV) [.agg [.int 2,.int s.router,.int to_,.int s.epoch,.int x3.ver,.int t0.1,.int 0,.int x3.grp,.int x3.mode,.sl 1 (x3.srcs.map AV.int) false]]
(ck (decide (t0.2.2.length+1≤1000000))
R))) (.app 482 Sig.v t0.2.2 [(⟨2,s.router,to_,s.epoch,x3.ver,t0.1,0,x3.grp,x3.mode,x3.srcs⟩:Sig)]
(.bk 0 b0 (x3.ver,W (t0.2.1+1),t0.2.2++[(⟨2,s.router,to_,s.epoch,x3.ver,t0.1,0,x3.grp,x3.mode,x3.srcs⟩:Sig)]) [0,482])))))
(.bk 0 b0 (x3.ver,W (t0.2.1+1),t0.2.2) [0,1]))))
(.say (Rf (t0.2.2.map Sig.v)) (.cmdL (.frzE 1 (t0.2.2.map Sig.v) (pureBL_map (fun _=>rfl) t0.2.2)) (.ret (t0.2.2,0))))))))))))))
def sendF_vc(s:Spk)(to_:Int)(I0:(Int×Int×(List Sig))→Prop)(m0:(Int×Int×(List Sig))→Nat)(r0:(List Sig)×Int):Prop:=(sendF_x s to_ I0 m0).vp sendF_e r0
theorem sendF_p(s:Spk)(r:Int)(ok:sendF_a s r):∃I0 m0,sendF_vc s r I0 m0 (send s r):=by
 simp only [sendF_a,okU,Blk.ok,plainV,List.length_map] at ok
 let ak:=(s.peers.getD (posP s.peers r) ⟨0,0,0⟩).acked
 refine ⟨fun t=>∃k:Nat,t.2.1=k∧k≤s.items.length∧t.2.2.length≤k+1∧hello s r::sendFrom s r ak 0 s.items=t.2.2++sendFrom s r ak t.1 (s.items.drop k),fun t=>s.items.length-t.2.1.toNat,?_⟩
 dsimp only [sendF_vc,sendF_x,sendF_s,Ax.vp,Ax.vc];simp only [vcU,rfU,List.length_map]
 by_cases hs:spkOk s
 case neg=>simp [send,valS,errIf,hs]
 refine ⟨fun e=>by simp [valS,errIf,hs] at e,fun _=>⟨hs.2.2.2.2.2.2,by have:=hs.2.2.2.2.1;omega,fun e=>?_,fun e=>?_⟩⟩
 ·have e:¬hitP s.peers r:=by simpa using e
  rw [send,if_neg (not_not_intro hs),if_pos e]
 have e:hitP s.peers r:=by simpa using e
 have fin:send s r=(hello s r::sendFrom s r ak 0 s.items,0):=by rw [send,if_neg (not_not_intro hs),if_neg (not_not_intro e)]
 have hil:=itms_len hs.2.2.2.1
 refine ⟨⟨0,rfl,by omega,by simp,rfl⟩,?_⟩
 rintro ⟨prev,_,acc⟩ ⟨k,rfl,hk,hal,h⟩
 simp only [Int.toNat_natCast] at *
 refine ⟨fun h1=>⟨by omega,by omega,fun x hx=>⟨by omega,by have:=e.1;omega,fun y hy=>?_⟩⟩,fun h1=>?_⟩
 ·have hy:ak=y.acked:=by show (s.peers.getD (posP s.peers r) ⟨0,0,0⟩).acked=_;rw [getD_some hy]
  have hd:s.items.drop k=x::s.items.drop (k+1):=by
   have hkl:=lt_of_get hx
   rw [List.drop_eq_getElem_cons hkl]
   rw [List.getElem?_eq_getElem hkl] at hx;rw [Option.some.inj hx]
  rw [hd,sendFrom] at h
  rw [W_succ (n:=s.items.length) (by omega) (by omega)]
  have hsl:=srcs_len (hs.2.2.2.1.1 x (mem_of_get hx)).2.2
  refine ⟨fun e3=>⟨by show x.srcs.length≤_;omega,by omega,⟨k+1,rfl,by omega,by simp;omega,?_⟩,by omega⟩,fun e3=>⟨⟨k+1,rfl,by omega,by omega,?_⟩,by omega⟩⟩
  ·rw [h,if_pos (by omega)];simp [upd1]
  ·rw [h,if_neg (by omega)];simp
 ·rw [List.drop_eq_nil_of_le (by omega),sendFrom,List.append_nil] at h
  rw [fin,h]
def send_c(s:Spk)(to_:Int):PC Tryz.prog:=⟨62,[(.a [.k,.k,.k,(.s 4),(.s 3)]),.k],[.agg [.int s.router,.int s.epoch,.int s.last,.sl 4 (s.items.map Itm.v) false,.sl 3 (s.peers.map Per.v) false],.int to_],sendF_e (send s to_),PSpec.of_ok fun ok=>(sendF_p s to_ ok).elim fun I0 h=>h.elim fun m0 h=>mxP_of (sh:=(.a [(.s 10),.k])) (enc:=sendF_e) (a:=(sendF_x s to_ I0 m0).an) h (by kernel_rfl) (AV.pureB_ok rfl),fnB_ok (by kernel_rfl)⟩
def ackF_a(s:Spk)(x:Sig):Prop:=okL [.agg [.int s.router,.int s.epoch,.int s.last,.sl 4 (s.items.map Itm.v) false,.sl 3 (s.peers.map Per.v) false],.agg [.int x.kind,.int x.src,.int x.dst,.int x.epoch,.int x.ver,.int x.prev,.int x.pep,.int x.grp,.int x.mode,.sl 1 (x.srcs.map AV.int) false]]
def ackF_n0(s:Spk)(x:Sig)(t0:Int):NF:=⟨[(2,.k,.ref 0 0),(3,.k,.ref 3 0),(4,.k,.ref 4 0),(7,.k,.int (posP s.peers x.src:Int)),(9,.k,.int t0)],[.box (.agg [.int s.router,.int s.epoch,.int s.last,.vec 1,.vec 2]),.vec 4 ((without 0 s.items).map Itm.v) (pureBL_map (fun _=>rfl) (without 0 s.items)),.vec 3 (s.peers.map Per.v) (pureBL_map (fun _=>rfl) s.peers),.box (.agg [.int x.kind,.int x.src,.int x.dst,.int x.epoch,.int x.ver,.int x.prev,.int x.pep,.int x.grp,.int x.mode,.sl 1 (x.srcs.map AV.int) false]),.box (.agg [.int 0,.int 0,.int 0,.sl 0 [] true,.sl 0 [] true])]⟩
@[reducible] def ackF_s:Nat→Type
 | 0=>Int
 | _=>Unit
def ackF_e(r:Spk×Int):AV:=.tup [Spk.v r.1,.int r.2]
def ackF_x(s:Spk)(x:Sig):Ax Tryz.prog ackF_s (Spk×Int):=
 (.callP (valS_c s)
(.callP (sigV_c x)
(.callP (orI_c [valS s,sigErr x])
(.br 208 ((orI [valS s,sigErr x]) != 0) (.ret ((⟨0,0,0,[],[]⟩:Spk),orI [valS s,sigErr x]))
(.br 272 (x.kind != 3) (.ret ((⟨0,0,0,[],[]⟩:Spk),1))
(.br 368 (x.dst != s.router) (.ret ((⟨0,0,0,[],[]⟩:Spk),1))
(.req 416 (s.peers.Pairwise fun x y=>x.router<y.router) fun h1 =>
(.req 416 (s.peers.length≤1000000) fun h2 =>
(.callP (peer_c s x.src h1 h2)
(.br 544 (!(decide (hitP s.peers x.src))) (.ret ((⟨0,0,0,[],[]⟩:Spk),4))
(.req 576 (okItms s.items) fun h3 =>
(.callH [] (copied_h s.items 0 h3) 576
(.req 624 (s.peers.length≤1000000) fun h4 =>
(.callH [] (cloneP_h s.peers h4) 624
(.pass (.join 0 (ackF_n0 s x) (fun (t0:Int)=>t0=((bif (x.epoch==s.epoch) then (bif (decide (x.ver≤s.last)) then (x.ver) else (0)) else (0)):Int)) (fun b0=>(.br 816 (x.epoch==s.epoch) (.br 912 (decide (x.ver≤s.last)) (.bk 0 b0 ((x.ver):Int) [0,576,624,16,32])
(.bk 0 b0 ((0):Int) [0,576,624,16,32]))
(.bk 0 b0 ((0):Int) [0,576,624,16,32]))) fun (t0:Int) =>
(.say (ck (cond (decide (0≤(posP s.peers x.src:Int))) (decide ((posP s.peers x.src:Int)<((s.peers.map Per.v).length:Int))) false)) (.el 165 Per.v s.peers (fun R=>Rf (s.peers.map Per.v) (ck (decide ((posP s.peers x.src:Int).toNat<s.peers.length))
(∀x5,s.peers[(posP s.peers x.src:Int).toNat]?=some x5 →
(R x5)))) fun x5 =>
(.br 213 (decide (x5.epoch<x.pep)) (.st 325 Per.v s.peers (fun y6=>(⟨y6.router,x.pep,y6.acked⟩:Per)) (fun R=>Rf (s.peers.map Per.v) (ck (decide ((posP s.peers x.src:Int).toNat<s.peers.length))
(∀y6,s.peers[(posP s.peers x.src:Int).toNat]?=some y6→Rf (Per.v (⟨y6.router,x.pep,y6.acked⟩:Per))
((R y6))))) fun y6 =>
(.st 373 Per.v (s.peers.set ((posP s.peers x.src:Int).toNat) (⟨y6.router,x.pep,y6.acked⟩:Per)) (fun y7=>(⟨y7.router,y7.epoch,t0⟩:Per)) (fun R=>Rf ((s.peers.set ((posP s.peers x.src:Int).toNat) (⟨y6.router,x.pep,y6.acked⟩:Per)).map Per.v) (ck (decide ((posP s.peers x.src:Int).toNat<(s.peers.set ((posP s.peers x.src:Int).toNat) (⟨y6.router,x.pep,y6.acked⟩:Per)).length))
(∀y7,(s.peers.set ((posP s.peers x.src:Int).toNat) (⟨y6.router,x.pep,y6.acked⟩:Per))[(posP s.peers x.src:Int).toNat]?=some y7→Rf (Per.v (⟨y7.router,y7.epoch,t0⟩:Per))
((R y7))))) fun y7 =>
(.say (Rf (((s.peers.set ((posP s.peers x.src:Int).toNat) (⟨y6.router,x.pep,y6.acked⟩:Per)).set ((posP s.peers x.src:Int).toNat) (⟨y7.router,y7.epoch,t0⟩:Per)).map Per.v)) (.cmdL (.frzE 2 (((s.peers.set ((posP s.peers x.src:Int).toNat) (⟨y6.router,x.pep,y6.acked⟩:Per)).set ((posP s.peers x.src:Int).toNat) (⟨y7.router,y7.epoch,t0⟩:Per)).map Per.v) (pureBL_map (fun _=>rfl) ((s.peers.set ((posP s.peers x.src:Int).toNat) (⟨y6.router,x.pep,y6.acked⟩:Per)).set ((posP s.peers x.src:Int).toNat) (⟨y7.router,y7.epoch,t0⟩:Per)))) (.say (Rf ((without 0 s.items).map Itm.v)) (.cmdL (.frzE 1 ((without 0 s.items).map Itm.v) (pureBL_map (fun _=>rfl) (without 0 s.items))) (.ret ((⟨s.router,s.epoch,s.last,without 0 s.items,(s.peers.set ((posP s.peers x.src:Int).toNat) (⟨y6.router,x.pep,y6.acked⟩:Per)).set ((posP s.peers x.src:Int).toNat) (⟨y7.router,y7.epoch,t0⟩:Per)⟩:Spk),0))))))))
(.el 293 Per.v s.peers (fun R=>Rf (s.peers.map Per.v) (ck (decide ((posP s.peers x.src:Int).toNat<s.peers.length))
(∀x8,s.peers[(posP s.peers x.src:Int).toNat]?=some x8 →
(R x8)))) fun x8 =>
(.br 341 (x.pep==x8.epoch) (.el 405 Per.v s.peers (fun R=>Rf (s.peers.map Per.v) (ck (decide ((posP s.peers x.src:Int).toNat<s.peers.length))
(∀x9,s.peers[(posP s.peers x.src:Int).toNat]?=some x9 →
(R x9)))) fun x9 =>
(.st 485 Per.v s.peers (fun y10=>(⟨y10.router,y10.epoch,maxI x9.acked t0⟩:Per)) (fun R=>Rf (s.peers.map Per.v) (ck (decide ((posP s.peers x.src:Int).toNat<s.peers.length))
(∀y10,s.peers[(posP s.peers x.src:Int).toNat]?=some y10→Rf (Per.v (⟨y10.router,y10.epoch,maxI x9.acked t0⟩:Per))
((R y10))))) fun y10 =>
(.say (Rf ((s.peers.set ((posP s.peers x.src:Int).toNat) (⟨y10.router,y10.epoch,maxI x9.acked t0⟩:Per)).map Per.v)) (.cmdL (.frzE 2 ((s.peers.set ((posP s.peers x.src:Int).toNat) (⟨y10.router,y10.epoch,maxI x9.acked t0⟩:Per)).map Per.v) (pureBL_map (fun _=>rfl) (s.peers.set ((posP s.peers x.src:Int).toNat) (⟨y10.router,y10.epoch,maxI x9.acked t0⟩:Per)))) (.say (Rf ((without 0 s.items).map Itm.v)) (.cmdL (.frzE 1 ((without 0 s.items).map Itm.v) (pureBL_map (fun _=>rfl) (without 0 s.items))) (.ret ((⟨s.router,s.epoch,s.last,without 0 s.items,s.peers.set ((posP s.peers x.src:Int).toNat) (⟨y10.router,y10.epoch,maxI x9.acked t0⟩:Per)⟩:Spk),0))))))))
(.say (Rf (s.peers.map Per.v)) (.cmdL (.frzE 2 (s.peers.map Per.v) (pureBL_map (fun _=>rfl) s.peers)) (.say (Rf ((without 0 s.items).map Itm.v)) (.cmdL (.frzE 1 ((without 0 s.items).map Itm.v) (pureBL_map (fun _=>rfl) (without 0 s.items))) (.ret ((⟨s.router,s.epoch,s.last,without 0 s.items,s.peers⟩:Spk),0)))))))))))))))))))))))))))
def ackF_vc(s:Spk)(x:Sig)(r0:Spk×Int):Prop:=(ackF_x s x).vp ackF_e r0
theorem ackF_p(s:Spk)(x:Sig)(ok:ackF_a s x):ackF_vc s x (ack s x):=by
 simp only [ackF_a,okU,Blk.ok,plainV,List.length_map] at ok
 dsimp only [ackF_vc,ackF_x,ackF_s,Ax.vp,Ax.vc];simp only [vcU,rfU,List.length_map]
 rw [orI_two]
 by_cases hs:spkOk s
 case neg=>simp [ack,valS,errIf,hs,spk0]
 rw [show valS s=0 from errIf_pos hs,if_neg (by simp)]
 by_cases hx:sigErr x=0
 case neg=>simp [ack,hs,hx,spk0]
 refine ⟨fun e=>by simp [hx] at e,fun _=>⟨fun e=>?_,fun e1=>⟨fun e=>?_,fun e2=>?_⟩⟩⟩
 ·have e:x.kind≠3:=by simpa using e
  rw [ack,if_neg (not_not_intro hs),if_neg (not_not_intro hx),if_pos (.inl e)];rfl
 ·have e:x.dst≠s.router:=by simpa using e
  rw [ack,if_neg (not_not_intro hs),if_neg (not_not_intro hx),if_pos (.inr e)];rfl
 have e1:x.kind=3:=by simpa using e1
 have e2:x.dst=s.router:=by simpa using e2
 refine ⟨hs.2.2.2.2.2.2,by have:=hs.2.2.2.2.1;omega,fun e=>?_,fun e=>?_⟩
 ·have e:¬hitP s.peers x.src:=by simpa using e
  rw [ack,if_neg (not_not_intro hs),if_neg (not_not_intro hx),if_neg (by simp [e1,e2]),if_pos e];rfl
 have e:hitP s.peers x.src:=by simpa using e
 have fin:ack s x=(⟨s.router,s.epoch,s.last,s.items,s.peers.set (posP s.peers x.src) (ackP s x (s.peers.getD (posP s.peers x.src) ⟨0,0,0⟩))⟩,0):=by
  rw [ack,if_neg (not_not_intro hs),if_neg (not_not_intro hx),if_neg (by simp [e1,e2]),if_neg (not_not_intro e)]
 refine ⟨okItms_of hs.2.2.2.1,by have:=hs.2.2.2.2.1;omega,⟨fun a=>⟨fun b=>by simp [a,b],fun b=>by simp [a,b]⟩,fun a=>by simp [a]⟩,?_⟩
 rintro _ rfl
 have hv:(bif x.epoch==s.epoch then bif decide (x.ver≤s.last) then x.ver else 0 else 0)=ackV s x:=by
  cases a:x.epoch==s.epoch with
  | true=>cases b:decide (x.ver≤s.last) with
   | true=>rw [ackV,if_pos ⟨by simpa using a,by simpa using b⟩];rfl
   | false=>rw [ackV,if_neg (fun h=>by simp [h.2] at b)];rfl
  | false=>rw [ackV,if_neg (fun h=>by simp [h.1] at a)];rfl
 rw [hv,without_zero hs.2.2.2.1]
 have hi:=e.1
 simp only [Int.toNat_natCast]
 refine ⟨by simp;omega,hi,fun p hp=>?_⟩
 rw [getD_some hp] at fin
 refine ⟨fun a=>⟨hi,fun p2 hp2=>?_⟩,fun a=>⟨hi,fun p2 hp2=>⟨fun b=>⟨hi,fun p3 hp3=>⟨hi,fun p4 hp4=>?_⟩⟩,fun b=>?_⟩⟩⟩
 ·cases hp.symm.trans hp2
  refine ⟨by simpa using hi,fun q hq=>?_⟩
  rw [List.getElem?_set_self hi] at hq
  cases hq
  rw [fin,ackP,if_pos a,List.set_set]
 ·cases hp.symm.trans hp2
  cases hp.symm.trans hp3
  cases hp.symm.trans hp4
  rw [fin,ackP,if_neg a,if_pos (by simpa using b)]
 ·cases hp.symm.trans hp2
  rw [fin,ackP,if_neg a,if_neg (by simpa using b)]
  rw [set_same hp]
def ack_c(s:Spk)(x:Sig):PC Tryz.prog:=⟨60,[(.a [.k,.k,.k,(.s 4),(.s 3)]),(.a [.k,.k,.k,.k,.k,.k,.k,.k,.k,(.s 1)])],[.agg [.int s.router,.int s.epoch,.int s.last,.sl 4 (s.items.map Itm.v) false,.sl 3 (s.peers.map Per.v) false],.agg [.int x.kind,.int x.src,.int x.dst,.int x.epoch,.int x.ver,.int x.prev,.int x.pep,.int x.grp,.int x.mode,.sl 1 (x.srcs.map AV.int) false]],ackF_e (ack s x),PSpec.of_ok fun ok=>mxP_of (sh:=(.a [(.a [.k,.k,.k,(.s 4),(.s 3)]),.k])) (enc:=ackF_e) (a:=(ackF_x s x).an) (ackF_p s x ok) (by kernel_rfl) (AV.pureB_ok rfl),fnB_ok (by kernel_rfl)⟩
theorem Itm.eq_iff{x y:Itm}:x=y↔x.ver=y.ver∧x.grp=y.grp∧x.mode=y.mode∧x.srcs=y.srcs:=by
 cases x;cases y;simp
def agreeI_a(x:Itm)(y:Itm):Prop:=okL [.agg [.int x.ver,.int x.grp,.int x.mode,.sl 1 (x.srcs.map AV.int) false],.agg [.int y.ver,.int y.grp,.int y.mode,.sl 1 (y.srcs.map AV.int) false]]
def agreeI_e(r:Bool):AV:=.bool r
def agreeI_x(x:Itm)(y:Itm):Ax Tryz.prog noS (Bool):=
 (.br 144 (x.ver==y.ver) (.br 256 (x.grp==y.grp) (.callP (PSame_c (⟨x.mode,x.srcs⟩:Flt) (⟨y.mode,y.srcs⟩:Flt))
(.ret (PSame (⟨x.mode,x.srcs⟩:Flt) (⟨y.mode,y.srcs⟩:Flt))))
(.ret (false)))
(.ret (false)))
def agreeI_vc(x:Itm)(y:Itm)(r0:Bool):Prop:=(agreeI_x x y).vp agreeI_e r0
theorem agreeI_p(x y:Itm)(ok:agreeI_a x y):agreeI_vc x y (decide (x=y)):=by
 dsimp only [agreeI_vc,agreeI_x,noS,Ax.vp,Ax.vc];simp only [vcU,rfU,List.length_map]
 refine ⟨fun e=>⟨fun e2=>?_,fun e2=>(decide_eq_false fun h=>?_).symm⟩,fun e=>(decide_eq_false fun h=>?_).symm⟩
 ·have e:x.ver=y.ver:=by simpa using e
  have e2:x.grp=y.grp:=by simpa using e2
  show decide ((⟨x.mode,x.srcs⟩:Flt)=⟨y.mode,y.srcs⟩)=_
  exact decide_eq_decide.mpr (by rw [flt_eq,Itm.eq_iff];exact ⟨fun h=>⟨e,e2,h⟩,fun h=>h.2.2⟩)
 ·subst h;simp at e2
 ·subst h;simp at e
def agreeI_c(x:Itm)(y:Itm):PC Tryz.prog:=⟨98,[(.a [.k,.k,.k,(.s 1)]),(.a [.k,.k,.k,(.s 1)])],[.agg [.int x.ver,.int x.grp,.int x.mode,.sl 1 (x.srcs.map AV.int) false],.agg [.int y.ver,.int y.grp,.int y.mode,.sl 1 (y.srcs.map AV.int) false]],agreeI_e (decide (x=y)),PSpec.of_ok fun ok=>mxP_of (sh:=.k) (enc:=agreeI_e) (a:=(agreeI_x x y).an) (agreeI_p x y ok) (by kernel_rfl) (AV.pureB_ok rfl),fnB_ok (by kernel_rfl)⟩
def eqF_a(s1:(List Itm))(s2:(List Itm)):Prop:=okL [.sl 4 (s1.map Itm.v) false,.sl 4 (s2.map Itm.v) false,.func 98 []]
def eqF_n0(s1:(List Itm))(s2:(List Itm))(t0:Int):NF:=⟨[(1,.k,.sl 4 (s2.map Itm.v) false),(2,.k,.func 98 []),(15,.k,.sl 4 (s1.map Itm.v) false),(16,.k,.int ((s1.map Itm.v).length:Int)),(17,.k,.int t0)],[]⟩
@[reducible] def eqF_s:Nat→Type
 | 0=>Int
 | _=>Unit
def eqF_e(r:Bool):AV:=.bool r
def eqF_x(s1:(List Itm))(s2:(List Itm))(I0:Int→Prop)(m0:Int→Nat):Ax Tryz.prog eqF_s (Bool):=
 (.br 96 (((s1.map Itm.v).length:Int) != ((s2.map Itm.v).length:Int)) (.ret (false))
(.loop 0 (eqF_n0 s1 s2) I0 m0 ((0):Int) [] fun (t0:Int) b0 =>
(.br 16 (decide (t0<((s1.map Itm.v).length:Int))) (.el 32 Itm.v s1 (fun R=>Rf (s1.map Itm.v) (ck (decide (0≤t0)) (ck (decide (t0<(s1.length:Int)))
(∀x1,s1[t0.toNat]?=some x1 →
(R x1))))) fun x1 =>
(.el 144 Itm.v s2 (fun R=>Rf (s2.map Itm.v) (ck (decide (0≤t0)) (ck (decide (t0<(s2.length:Int)))
(∀x2,s2[t0.toNat]?=some x2 →
(R x2))))) fun x2 =>
(.callP (agreeI_c x1 x2)
(.br 288 (!(decide (x1=x2))) (.ret (false))
(.bk 0 b0 ((W (t0+1)):Int) [])))))
(.ret (true)))))
def eqF_vc(s1:(List Itm))(s2:(List Itm))(I0:Int→Prop)(m0:Int→Nat)(r0:Bool):Prop:=(eqF_x s1 s2 I0 m0).vp eqF_e r0
theorem eqF_p(a b:List Itm)(ok:eqF_a a b):∃I m,eqF_vc a b I m (decide (a=b)):=by
 simp only [eqF_a,okU,Blk.ok,plainV,List.length_map] at ok
 refine ⟨fun t=>∃k:Nat,t=k∧k≤a.length∧a.take k=b.take k,fun t=>a.length-t.toNat,?_⟩
 dsimp only [eqF_vc,eqF_x,eqF_s,Ax.vp,Ax.vc];simp only [vcU,rfU,List.length_map]
 refine ⟨fun e=>(decide_eq_false fun h=>by subst h;simp at e).symm,fun e=>⟨⟨0,rfl,by omega,rfl⟩,?_⟩⟩
 have e:a.length=b.length:=by simp at e;omega
 rintro _ ⟨k,rfl,hk,h⟩
 simp only [Int.toNat_natCast]
 refine ⟨fun h1=>⟨by omega,by omega,fun x hx=>⟨by omega,by omega,fun y hy=>⟨fun e2=>?_,fun e2=>?_⟩⟩⟩,fun h1=>?_⟩
 ·refine (decide_eq_false fun hh=>?_).symm
  subst hh
  cases hx.symm.trans hy
  simp at e2
 ·have e2:x=y:=by simpa using e2
  subst e2
  rw [W_succ (n:=a.length) (by omega) (by omega)]
  exact ⟨⟨k+1,rfl,by omega,by rw [take_succ hx,take_succ hy,h]⟩,by omega⟩
 ·rw [List.take_of_length_le (by omega),List.take_of_length_le (by omega)] at h
  exact (decide_eq_true h).symm
def eqF_c(s1:(List Itm))(s2:(List Itm)):PC Tryz.prog:=⟨97,[(.s 4),(.s 4),.k],[.sl 4 (s1.map Itm.v) false,.sl 4 (s2.map Itm.v) false,.func 98 []],eqF_e (decide (s1=s2)),PSpec.of_ok fun ok=>(eqF_p s1 s2 ok).elim fun I0 h=>h.elim fun m0 h=>mxP_of (sh:=.k) (enc:=eqF_e) (a:=(eqF_x s1 s2 I0 m0).an) h (by kernel_rfl) (AV.pureB_ok rfl),fnB_ok (by kernel_rfl)⟩
def agreeF_a(s:Spk)(l:Lsn):Prop:=okL [.agg [.int s.router,.int s.epoch,.int s.last,.sl 4 (s.items.map Itm.v) false,.sl 3 (s.peers.map Per.v) false],.agg [.int l.router,.int l.epoch,.sl 4 (l.heard.map Hrd.v) false]]
def agreeF_e(r:Bool):AV:=.bool r
def agreeF_x(s:Spk)(l:Lsn):Ax Tryz.prog noS (Bool):=
 (.callP (valS_c s)
(.br 112 ((valS s) != 0) (.ret (false))
(.callP (valL_c l)
(.br 176 ((valL l) != 0) (.ret (false))
(.req 224 (l.heard.Pairwise fun x y=>x.router<y.router) fun h1 =>
(.req 224 (l.heard.length≤1000000) fun h2 =>
(.callP (heard_c l s.router h1 h2)
(.br 352 (decide (hitH l.heard s.router)) (.el 400 Hrd.v l.heard (fun R=>Rf (l.heard.map Hrd.v) (ck (decide (0≤(posH l.heard s.router:Int))) (ck (decide ((posH l.heard s.router:Int)<(l.heard.length:Int)))
(∀x3,l.heard[(posH l.heard s.router:Int).toNat]?=some x3 →
(R x3))))) fun x3 =>
(.br 528 (x3.epoch==s.epoch) (.el 576 Hrd.v l.heard (fun R=>Rf (l.heard.map Hrd.v) (ck (decide (0≤(posH l.heard s.router:Int))) (ck (decide ((posH l.heard s.router:Int)<(l.heard.length:Int)))
(∀x4,l.heard[(posH l.heard s.router:Int).toNat]?=some x4 →
(R x4))))) fun x4 =>
(.br 704 (x4.ver==s.last) (.el 752 Hrd.v l.heard (fun R=>Rf (l.heard.map Hrd.v) (ck (decide (0≤(posH l.heard s.router:Int))) (ck (decide ((posH l.heard s.router:Int)<(l.heard.length:Int)))
(∀x5,l.heard[(posH l.heard s.router:Int).toNat]?=some x5 →
(R x5))))) fun x5 =>
(.callP (eqF_c x5.items s.items)
(.ret (decide (x5.items=s.items)))))
(.ret (false))))
(.ret (false))))
(.ret (false))))))))))
def agreeF_vc(s:Spk)(l:Lsn)(r0:Bool):Prop:=(agreeF_x s l).vp agreeF_e r0
theorem agreeF_p(s:Spk)(l:Lsn)(ok:agreeF_a s l):agreeF_vc s l (decide (agree s l)):=by
 dsimp only [agreeF_vc,agreeF_x,noS,Ax.vp,Ax.vc];simp only [vcU,rfU,List.length_map]
 refine ⟨fun e=>(decide_eq_false fun h=>valS_t.mp e h.1).symm,fun e1=>⟨fun e=>(decide_eq_false fun h=>valL_t.mp e h.2.1).symm,fun e2=>?_⟩⟩
 have e1:=valS_f.mp e1
 have e2:=valL_f.mp e2
 refine ⟨e2.2.2.2.2,by have:=e2.2.2.1;omega,fun h=>?_,fun h=>(decide_eq_false fun h'=>h h'.2.2.1).symm⟩
 have hi:=h.1
 simp only [Int.toNat_natCast]
 refine ⟨by omega,by omega,fun x hx=>?_⟩
 have ha:atH l.heard s.router=x:=getD_some hx
 refine ⟨fun e3=>⟨by omega,by omega,fun y hy=>?_⟩,fun e3=>(decide_eq_false fun h'=>?_).symm⟩
 ·cases hx.symm.trans hy
  refine ⟨fun e4=>⟨by omega,by omega,fun z hz=>?_⟩,fun e4=>(decide_eq_false fun h'=>?_).symm⟩
  ·cases hx.symm.trans hz
   refine decide_eq_decide.mpr ⟨fun q=>⟨e1,e2,h,?_,?_,?_⟩,fun q=>?_⟩
   ·rw [ha];simpa using e3
   ·rw [ha];simpa using e4
   ·rw [ha];exact q
   ·have:=q.2.2.2.2.2;rw [ha] at this;exact this
  ·have:=h'.2.2.2.2.1;rw [ha] at this;simp [this] at e4
 ·have:=h'.2.2.2.1;rw [ha] at this;simp [this] at e3
def agree_c(s:Spk)(l:Lsn):PC Tryz.prog:=⟨43,[(.a [.k,.k,.k,(.s 4),(.s 3)]),(.a [.k,.k,(.s 4)])],[.agg [.int s.router,.int s.epoch,.int s.last,.sl 4 (s.items.map Itm.v) false,.sl 3 (s.peers.map Per.v) false],.agg [.int l.router,.int l.epoch,.sl 4 (l.heard.map Hrd.v) false]],agreeF_e (decide (agree s l)),PSpec.of_ok fun ok=>mxP_of (sh:=.k) (enc:=agreeF_e) (a:=(agreeF_x s l).an) (agreeF_p s l ok) (by kernel_rfl) (AV.pureB_ok rfl),fnB_ok (by kernel_rfl)⟩
theorem fin_weak{k n:Nat}{res:List AR}{r:AV}{h':List (Option Blk)}{s s1:S3}(hw:Weak k n s s1)(h:fin k n res r h' .ret s1):fin k n res r h' .ret s:=by
 obtain ⟨s',g1,g2⟩:=h
 exact ⟨s',hw.trans g1,g2⟩
theorem pureL_append{xs ys:List AV}(h:pureL xs)(h':pureL ys):pureL (xs++ys):=by
 rw [pureL_iff] at *
 intro x hx
 rcases List.mem_append.mp hx with hx|hx
 ·exact h x hx
 ·exact h' x hx
theorem pureL_take{xs:List AV}(h:pureL xs)(n:Nat):pureL (xs.take n):=by
 rw [pureL_iff] at *;exact fun x hx=>h x (List.mem_of_mem_take hx)
theorem pureL_drop{xs:List AV}(h:pureL xs)(n:Nat):pureL (xs.drop n):=by
 rw [pureL_iff] at *;exact fun x hx=>h x (List.mem_of_mem_drop hx)
theorem pureL_insAt{es:List AV}{x:AV}(h:pureL es)(hx:x.pure)(i:Nat):pureL (insAt es i x):=pureL_append (pureL_append (pureL_take h i) ⟨hx,trivial⟩) (pureL_drop h i)
theorem vec_ren{k m:Nat}{es:List AV}{π:Nat→Nat}(h:pureL es):(Blk.vec k es).ren π=.vec k es∧(Blk.vec k es).bel m:=⟨by rw [Blk.ren,renL_pure _ h],belL_pure h⟩
def cf128:AF:=
 ⟨95,3,[.tmp 6],
 .seq (.reg [⟨(some 6),.move (.c (.sl 0 [] true)),none⟩])
 (.seq (.reg [⟨(some 10),.move (.t 0),none⟩,⟨(some 11),.move (.t 1),none⟩,⟨(some 12),.slice 4 (.t 10) (some (.t 11)) none none,none⟩])
 (.seq (.reg [⟨(some 13),.move (.t 2),none⟩,⟨(some 14),.len (.t 13),none⟩,⟨(some 7),.move (.t 14),none⟩])
 (.seq (.seq (.reg [⟨(some 15),.move (.t 7),none⟩,⟨(some 16),.bin .eql (.t 15) (.c (.val (.int .i64 0))),none⟩])
 (.cond (.t 16) (.seq (.reg [⟨(some 17),.move (.t 0),none⟩,⟨(some 6),.move (.t 17),none⟩])
 (.ret)) (.skip)))
 (.seq (.reg [⟨(some 18),.move (.t 0),none⟩,⟨(some 19),.len (.t 18),none⟩,⟨(some 8),.move (.t 19),none⟩])
 (.seq (.seq (.reg [⟨(some 20),.move (.t 1),none⟩,⟨(some 21),.move (.t 8),none⟩,⟨(some 22),.bin .eql (.t 20) (.t 21),none⟩])
 (.cond (.t 22) (.seq (.reg [⟨(some 23),.move (.t 0),none⟩,⟨(some 24),.move (.t 2),none⟩,⟨(some 25),.append 4 48 (.t 23) (.t 24),none⟩,⟨(some 6),.move (.t 25),none⟩])
 (.ret)) (.skip)))
 (.seq (.seq (.reg [⟨(some 26),.move (.t 8),none⟩,⟨(some 27),.move (.t 7),none⟩,⟨(some 28),.bin .add (.t 26) (.t 27),none⟩,⟨(some 29),.move (.t 0),none⟩,⟨(some 30),.cap (.t 29),none⟩,⟨(some 31),.bin .gtr (.t 28) (.t 30),none⟩])
 (.cond (.t 31) (.seq (.reg [⟨(some 32),.move (.t 0),none⟩,⟨(some 33),.move (.t 1),none⟩,⟨(some 34),.slice 4 (.t 32) none (some (.t 33)) none,none⟩,⟨(some 35),.move (.t 8),none⟩,⟨(some 36),.move (.t 7),none⟩,⟨(some 37),.bin .add (.t 35) (.t 36),none⟩,⟨(some 38),.move (.t 1),none⟩,⟨(some 39),.bin .sub (.t 37) (.t 38),none⟩,⟨(some 40),.appendZ 4 48 ((.agg [(.val (.int .i64 0)),(.val (.int .i64 0)),(.val (.int .i64 0)),(.sl 0 [] true)])) (.t 34) (.t 39),none⟩,⟨(some 9),.move (.t 40),none⟩])
 (.seq (.reg [⟨(some 41),.move (.t 9),none⟩,⟨(some 42),.move (.t 1),none⟩,⟨(some 43),.slice 4 (.t 41) (some (.t 42)) none none,none⟩,⟨(some 44),.move (.t 2),none⟩,⟨(some 45),.copy 4 (.t 43) (.t 44),none⟩])
 (.seq (.dreg [⟨(some 46),.move (.t 9),none⟩,⟨(some 47),.move (.t 1),none⟩,⟨(some 48),.move (.t 7),none⟩,⟨(some 49),.bin .add (.t 47) (.t 48),none⟩,⟨(some 50),.slice 4 (.t 46) (some (.t 49)) none none,none⟩,⟨(some 51),.move (.t 0),none⟩,⟨(some 52),.move (.t 1),none⟩,⟨(some 53),.slice 4 (.t 51) (some (.t 52)) none none,none⟩,⟨(some 54),.copy 4 (.t 50) (.t 53),none⟩] [(4,7)])
 (.seq (.reg [⟨(some 55),.move (.t 9),none⟩,⟨(some 6),.move (.t 55),none⟩])
 (.ret))))) (.skip)))
 (.seq (.reg [⟨(some 56),.move (.t 0),none⟩,⟨(some 57),.move (.t 8),none⟩,⟨(some 58),.move (.t 7),none⟩,⟨(some 59),.bin .add (.t 57) (.t 58),none⟩,⟨(some 60),.slice 4 (.t 56) none (some (.t 59)) none,none⟩,⟨(some 0),.move (.t 60),none⟩])
 (.seq (.seq (.reg [⟨(some 61),.move (.t 2),none⟩,⟨(some 62),.move (.t 0),none⟩,⟨(some 63),.move (.t 1),none⟩,⟨(some 64),.move (.t 7),none⟩,⟨(some 65),.bin .add (.t 63) (.t 64),none⟩,⟨(some 66),.slice 4 (.t 62) (some (.t 65)) none none,none⟩,⟨(some 67),.call (.c (.func 166 [])) [(.t 61),(.t 66)],none⟩,⟨(some 68),.un .not (.t 67),none⟩])
 (.cond (.t 68) (.seq (.dreg [⟨(some 69),.move (.t 0),none⟩,⟨(some 70),.move (.t 1),none⟩,⟨(some 71),.move (.t 7),none⟩,⟨(some 72),.bin .add (.t 70) (.t 71),none⟩,⟨(some 73),.slice 4 (.t 69) (some (.t 72)) none none,none⟩,⟨(some 74),.move (.t 0),none⟩,⟨(some 75),.move (.t 1),none⟩,⟨(some 76),.slice 4 (.t 74) (some (.t 75)) none none,none⟩,⟨(some 77),.copy 4 (.t 73) (.t 76),none⟩] [(4,7)])
 (.seq (.reg [⟨(some 78),.move (.t 0),none⟩,⟨(some 79),.move (.t 1),none⟩,⟨(some 80),.slice 4 (.t 78) (some (.t 79)) none none,none⟩,⟨(some 81),.move (.t 2),none⟩,⟨(some 82),.copy 4 (.t 80) (.t 81),none⟩])
 (.seq (.reg [⟨(some 83),.move (.t 0),none⟩,⟨(some 6),.move (.t 83),none⟩])
 (.ret)))) (.skip)))
 (.seq (.reg [⟨(some 84),.move (.t 0),none⟩,⟨(some 85),.move (.t 8),none⟩,⟨(some 86),.slice 4 (.t 84) (some (.t 85)) none none,none⟩,⟨(some 87),.move (.t 2),none⟩,⟨(some 88),.copy 4 (.t 86) (.t 87),none⟩])
 (.seq (.reg [⟨(some 89),.move (.t 0),none⟩,⟨(some 90),.move (.t 1),none⟩,⟨(some 91),.slice 4 (.t 89) (some (.t 90)) none none,none⟩,⟨(some 92),.move (.t 7),none⟩,⟨(some 93),.call (.c (.func 167 [])) [(.t 91),(.t 92)],none⟩])
 (.seq (.reg [⟨(some 94),.move (.t 0),none⟩,⟨(some 6),.move (.t 94),none⟩])
 (.ret))))))))))))⟩
theorem cf128_ok:cFunc Tryz.prog Tryz.f128=some cf128:=by kernel_rfl
theorem overlaps_noneH : (Tryz.f166.name == "runtime.NumGoroutine") = false ∧ Tryz.f166.body.isNone = true := ⟨by kernel_rfl, by kernel_rfl⟩
theorem overlaps_nextH:Extern.findNext Tryz.f166=none:=by kernel_rfl
theorem overlaps_findH:Extern.find Tryz.f166=some (Extern.SlicesOverlaps.overlaps #[58,58] #[4]):=by kernel_rfl
theorem overlaps_sizeH:sizeOf? Tryz.prog 76=some 4:=by kernel_rfl
theorem overlaps_tyH:Program.underlying Tryz.prog 58=some (.slice 76):=by kernel_rfl
theorem Insert_rowH(es:List AV)(x:AV)(i cap:Nat)(hi:i≤es.length)(hx:x.solid=true)(h1:es.length≤cap)(h2:cap≤maxLen)(hs:es.length≤1000000)(hp:pureL es∧x.pure) :
  HSpec Tryz.prog 128 [.vec 0,.int i,.vec 1] [.row 4 es es.length cap,.vec 4 [x]] (.vec 2) [none,none,some (.vec 4 (insAt es i x))]:=by
 have hml:=maxLen_eq
 refine HSpec.walk Tryz.func128 cf128_ok (by simp [cf128]) ?_
 unfold cf128
 simp only [initT,initH,List.length_cons,List.length_nil]
 refine AWP.seq' ?_
 refine AWP.reg' fun K hK=>?_
 try simp only [stepS,stepD,stepM,eq_self,implies_true,forall_eq_or_imp,forall_eq,Nat.reduceEqDiff,↓reduceIte,Nat.reduceAdd,Nat.reduceLeDiff,Nat.reduceSub,Nat.reduceMul,Nat.reduceLT,Int.reduceBEq,Int.reduceBNe,Int.reduceToNat,Int.reduceLT,Int.reduceLE,Int.reduceAdd,Int.reduceSub,Int.reduceMul,reduceCtorEq]
 refine hK _ _ _ ?_
 clear hK K
 refine AWP.seq' ?_
 refine AWP.reg' fun K hK=>?_
 try simp only [stepS,stepD,stepM,eq_self,implies_true,forall_eq_or_imp,forall_eq,Nat.reduceEqDiff,↓reduceIte,Nat.reduceAdd,Nat.reduceLeDiff,Nat.reduceSub,Nat.reduceMul,Nat.reduceLT,Int.reduceBEq,Int.reduceBNe,Int.reduceToNat,Int.reduceLT,Int.reduceLE,Int.reduceAdd,Int.reduceSub,Int.reduceMul,reduceCtorEq]
 repeat (refine And.intro (by omega) ?_)
 refine hK _ _ _ ?_
 clear hK K
 refine AWP.seq' ?_
 refine AWP.reg' fun K hK=>?_
 try simp only [stepS,stepD,stepM,eq_self,implies_true,forall_eq_or_imp,forall_eq,Nat.reduceEqDiff,↓reduceIte,Nat.reduceAdd,Nat.reduceLeDiff,Nat.reduceSub,Nat.reduceMul,Nat.reduceLT,Int.reduceBEq,Int.reduceBNe,Int.reduceToNat,Int.reduceLT,Int.reduceLE,Int.reduceAdd,Int.reduceSub,Int.reduceMul,reduceCtorEq]
 refine hK _ _ _ ?_
 clear hK K
 refine AWP.seq' (AWP.seq' ?_)
 refine AWP.reg' fun K hK=>?_
 try simp only [stepS,stepD,stepM,eq_self,implies_true,forall_eq_or_imp,forall_eq,Nat.reduceEqDiff,↓reduceIte,Nat.reduceAdd,Nat.reduceLeDiff,Nat.reduceSub,Nat.reduceMul,Nat.reduceLT,Int.reduceBEq,Int.reduceBNe,Int.reduceToNat,Int.reduceLT,Int.reduceLE,Int.reduceAdd,Int.reduceSub,Int.reduceMul,reduceCtorEq]
 refine hK _ _ _ ?_
 clear hK K
 refine AWP.cond (b:=false) rfl (fun h=>by cases h) (fun _=>?_)
 refine AWP.skip ?_
 refine AWP.seq' ?_
 refine AWP.reg' fun K hK=>?_
 try simp only [stepS,stepD,stepM,eq_self,implies_true,forall_eq_or_imp,forall_eq,Nat.reduceEqDiff,↓reduceIte,Nat.reduceAdd,Nat.reduceLeDiff,Nat.reduceSub,Nat.reduceMul,Nat.reduceLT,Int.reduceBEq,Int.reduceBNe,Int.reduceToNat,Int.reduceLT,Int.reduceLE,Int.reduceAdd,Int.reduceSub,Int.reduceMul,reduceCtorEq]
 refine hK _ _ _ ?_
 clear hK K
 refine AWP.seq' (AWP.seq' ?_)
 refine AWP.reg' fun K hK=>?_
 try simp only [stepS,stepD,stepM,eq_self,implies_true,forall_eq_or_imp,forall_eq,Nat.reduceEqDiff,↓reduceIte,Nat.reduceAdd,Nat.reduceLeDiff,Nat.reduceSub,Nat.reduceMul,Nat.reduceLT,Int.reduceBEq,Int.reduceBNe,Int.reduceToNat,Int.reduceLT,Int.reduceLE,Int.reduceAdd,Int.reduceSub,Int.reduceMul,reduceCtorEq]
 refine hK _ _ _ ?_
 clear hK K
 refine AWP.cond (b:=((i:Int)==(es.length:Int))) rfl (fun h=>?_) (fun h=>?_)
 ·have h:i=es.length:=by have:=eq_of_beq h;omega
  refine AWP.seq' ?_
  refine AWP.reg' fun K hK=>?_
  try simp only [stepS,stepD,stepM,eq_self,implies_true,forall_eq_or_imp,forall_eq,Nat.reduceEqDiff,↓reduceIte,Nat.reduceAdd,Nat.reduceLeDiff,Nat.reduceSub,Nat.reduceMul,Nat.reduceLT,Int.reduceBEq,Int.reduceBNe,Int.reduceToNat,Int.reduceLT,Int.reduceLE,Int.reduceAdd,Int.reduceSub,Int.reduceMul,reduceCtorEq,appendA,srcA]
  repeat (refine And.intro (by omega) ?_)
  refine hK _ _ _ ?_
  clear hK K
  refine AWP.ret (fin_ren [0,1,274] [(6,.vec 2)] rfl rfl ?_ ?_ rfl (by simp) ?_ (by simp))
  ·simp only [List.mem_singleton,forall_eq]
   exact ⟨rfl,show (2:Nat)<3 by omega⟩
  ·refine ⟨⟨?_,?_⟩,trivial⟩
   ·rw [(vec_ren (m:=0) (pureL_insAt hp.1 hp.2 i)).1]
    show some (Blk.vec 4 (es++[x]))=_
    rw [insAt,h,List.take_length,List.drop_length,List.append_nil]
   ·exact (vec_ren (π:=id) (pureL_insAt hp.1 hp.2 i)).2
  ·intro b hb
   match b,hb with
   | 0,_=>rfl
   | 1,_=>rfl
 have h:¬i=es.length:=by intro e;subst e;simp at h
 refine AWP.skip ?_
 refine AWP.seq' (AWP.seq' ?_)
 have w1:IntKind.i64.wrap ((es.length:Int)+1)=es.length+1:=wrap64 (by omega)
 refine AWP.reg' fun K hK=>?_
 try simp only [stepS,stepD,stepM,eq_self,implies_true,forall_eq_or_imp,forall_eq,Nat.reduceEqDiff,↓reduceIte,Nat.reduceAdd,Nat.reduceLeDiff,Nat.reduceSub,Nat.reduceMul,Nat.reduceLT,Int.reduceBEq,Int.reduceBNe,Int.reduceToNat,Int.reduceLT,Int.reduceLE,Int.reduceAdd,Int.reduceSub,Int.reduceMul,reduceCtorEq,w1]
 refine hK _ _ _ ?_
 clear hK K
 refine AWP.cond (b:=decide ((cap:Int)<(es.length:Int)+1)) rfl (fun h3=>?_) (fun h3=>?_)
 ·have h3:cap=es.length:=by have:=of_decide_eq_true h3;omega
  refine AWP.seq' ?_
  have w2:IntKind.i64.wrap ((es.length:Int)+1-i)=es.length+1-i:=wrap64 (by omega)
  have hlt:¬((es.length:Int)<(i:Int)):=by omega
  refine AWP.reg' fun K hK=>?_
  try simp only [stepS,stepD,stepM,eq_self,implies_true,forall_eq_or_imp,forall_eq,Nat.reduceEqDiff,↓reduceIte,Nat.reduceAdd,Nat.reduceLeDiff,Nat.reduceSub,Nat.reduceMul,Nat.reduceLT,Int.reduceBEq,Int.reduceBNe,Int.reduceToNat,Int.reduceLT,Int.reduceLE,Int.reduceAdd,Int.reduceSub,Int.reduceMul,reduceCtorEq,w1,w2,appendZA,Int.toNat_natCast,hlt]
  repeat (refine And.intro (by omega) ?_)
  refine hK _ _ _ ?_
  clear hK K
  have hn:((es.length:Int)+1-i).toNat=es.length+1-i:=by omega
  rw [hn]
  generalize hL:es.take i++List.replicate (es.length+1-i) (AV.agg [AV.val (Value.int IntKind.i64 0),AV.val (Value.int IntKind.i64 0),AV.val (Value.int IntKind.i64 0),AV.sl 0 [] true])=L
  have hLl:L.length=es.length+1:=by rw [←hL];simp;omega
  refine AWP.seq' ?_
  have hpos:0<es.length+1:=by omega
  have hsub:(((es.length+1:Nat):Int)-(i:Int)).toNat=es.length+1-i:=by omega
  have hmin:Nat.min 1 (es.length+1-i)=1:=Nat.min_eq_left (by omega)
  refine AWP.reg' fun K hK=>?_
  try simp only [stepS,stepD,stepM,eq_self,implies_true,forall_eq_or_imp,forall_eq,Nat.reduceEqDiff,↓reduceIte,Nat.reduceAdd,Nat.reduceLeDiff,Nat.reduceSub,Nat.reduceMul,Nat.reduceLT,Int.reduceBEq,Int.reduceBNe,Int.reduceToNat,Int.reduceLT,Int.reduceLE,Int.reduceAdd,Int.reduceSub,Int.reduceMul,reduceCtorEq,hLl,copyA,srcP,srcA,Int.toNat_natCast,hpos,hsub,hmin]
  repeat (refine And.intro (by omega) ?_)
  refine hK _ _ _ ?_
  clear hK K
  have ht1:List.take 1 [x]=[x]:=rfl
  have w3:IntKind.i64.wrap ((i:Int)+1)=i+1:=wrap64 (by omega)
  generalize hM:over L i [x]=M
  have hMl:M.length=es.length+1:=by rw [←hM,over_length (by omega),Nat.max_def];split<;>simp at *<;>omega
  refine AWP.seq' ?_
  have ha:((es.length:Int)-(i:Int)).toNat=es.length-i:=by omega
  have hb:(((es.length+1:Nat):Int)-((i:Int)+1)).toNat=es.length-i:=by omega
  have hc:((i:Int)+1).toNat=i+1:=by omega
  have hd:Nat.min (es.length-i) (es.length-i)=es.length-i:=Nat.min_self _
  have he:(es.drop i).take (es.length-i)=es.drop i:=List.take_of_length_le (by simp)
  have hf:(es.drop i).length=es.length-i:=List.length_drop ..
  refine AWP.dreg' fun K hK=>?_
  try simp only [stepS,stepD,stepM,eq_self,implies_true,forall_eq_or_imp,forall_eq,Nat.reduceEqDiff,↓reduceIte,Nat.reduceAdd,Nat.reduceLeDiff,Nat.reduceSub,Nat.reduceMul,Nat.reduceLT,Int.reduceBEq,Int.reduceBNe,Int.reduceToNat,Int.reduceLT,Int.reduceLE,Int.reduceAdd,Int.reduceSub,Int.reduceMul,reduceCtorEq,hMl,copyA,srcP,srcA,Int.toNat_natCast,hpos,w3,ha,hb,hc,hd,he,hf]
  repeat (refine And.intro (by omega) ?_)
  refine ⟨by rfl,hK _ _ _ ?_⟩
  clear hK K
  refine AWP.seq' ?_
  refine AWP.reg' fun K hK=>?_
  try simp only [stepS,stepD,stepM,eq_self,implies_true,forall_eq_or_imp,forall_eq,Nat.reduceEqDiff,↓reduceIte,Nat.reduceAdd,Nat.reduceLeDiff,Nat.reduceSub,Nat.reduceMul,Nat.reduceLT,Int.reduceBEq,Int.reduceBNe,Int.reduceToNat,Int.reduceLT,Int.reduceLE,Int.reduceAdd,Int.reduceSub,Int.reduceMul,reduceCtorEq]
  refine hK _ _ _ ?_
  clear hK K
  have hfin:over M (i+1) (es.drop i)=insAt es i x:=by
   have hLi:L.take i=es.take i:=by
    rw [←hL,List.take_append_of_le_length (by simp;omega),List.take_take,Nat.min_self]
   have hMi:M.take (i+1)=es.take i++[x]:=by
    have e1:(es.take i++[x]).length=i+1:=by simp;omega
    rw [←hM,over,hLi,←e1]
    exact List.take_left
   have hMd:M.drop (i+1+(es.drop i).length)=[]:=List.drop_of_length_le (by rw [hMl,hf];omega)
   unfold over insAt
   rw [hMi,hMd,List.append_nil]
  refine AWP.ret (fin_ren [0,1,466] [(6,.vec 2)] rfl rfl ?_ ?_ rfl (by simp) ?_ (by simp))
  ·simp only [List.mem_singleton,forall_eq]
   exact ⟨rfl,show (2:Nat)<3 by omega⟩
  ·refine ⟨⟨?_,?_⟩,trivial⟩
   ·rw [(vec_ren (m:=0) (pureL_insAt hp.1 hp.2 i)).1,←hfin]
    rfl
   ·exact (vec_ren (π:=id) (pureL_insAt hp.1 hp.2 i)).2
  ·intro b hb
   match b,hb with
   | 0,_=>rfl
   | 1,_=>rfl
 have h3:es.length+1≤cap:=by have:=of_decide_eq_false h3;omega
 refine AWP.skip ?_
 refine AWP.seq' ?_
 have hgt:((es.length:Int)<(es.length:Int)+1):=by omega
 refine AWP.reg' fun K hK=>?_
 try simp only [stepS,stepD,stepM,eq_self,implies_true,forall_eq_or_imp,forall_eq,Nat.reduceEqDiff,↓reduceIte,Nat.reduceAdd,Nat.reduceLeDiff,Nat.reduceSub,Nat.reduceMul,Nat.reduceLT,Int.reduceBEq,Int.reduceBNe,Int.reduceToNat,Int.reduceLT,Int.reduceLE,Int.reduceAdd,Int.reduceSub,Int.reduceMul,reduceCtorEq,w1,hgt]
 repeat (refine And.intro (by omega) ?_)
 refine hK _ _ _ ?_
 clear hK K
 have w3:IntKind.i64.wrap ((i:Int)+1)=i+1:=wrap64 (by omega)
 refine AWP.seq' (AWP.seq' ?_)
 have hn1:((es.length:Int)+1).toNat=es.length+1:=by omega
 refine AWP.reg' fun K hK=>?_
 try simp only [stepS,stepD,stepM,eq_self,implies_true,forall_eq_or_imp,forall_eq,Nat.reduceEqDiff,↓reduceIte,Nat.reduceAdd,Nat.reduceLeDiff,Nat.reduceSub,Nat.reduceMul,Nat.reduceLT,Int.reduceBEq,Int.reduceBNe,Int.reduceToNat,Int.reduceLT,Int.reduceLE,Int.reduceAdd,Int.reduceSub,Int.reduceMul,reduceCtorEq,w3,Int.toNat_natCast,hn1]
 repeat (refine And.intro (by omega) ?_)
 refine evT_ext rfl rfl (ext_overlaps Tryz.func166 overlaps_noneH.1 overlaps_noneH.2 overlaps_nextH overlaps_findH overlaps_tyH overlaps_sizeH (by omega) rfl rfl (by omega) (by simp) (by omega)) ?_
 try simp only [stepS,stepD,stepM,eq_self,implies_true,forall_eq_or_imp,forall_eq,Nat.reduceEqDiff,↓reduceIte,Nat.reduceAdd,Nat.reduceLeDiff,Nat.reduceSub,Nat.reduceMul,Nat.reduceLT,Int.reduceBEq,Int.reduceBNe,Int.reduceToNat,Int.reduceLT,Int.reduceLE,Int.reduceAdd,Int.reduceSub,Int.reduceMul,reduceCtorEq,w3]
 refine hK _ _ _ ?_
 clear hK K
 refine AWP.cond (b:=true) rfl (fun _=>?_) (fun h=>by cases h)
 refine AWP.seq' ?_
 have hb:(((es.length+1:Nat):Int)-((i:Int)+1)).toNat=es.length-i:=by omega
 have hc:((i:Int)+1).toNat=i+1:=by omega
 have hsub:(((es.length+1:Nat):Int)-(i:Int)).toNat=es.length+1-i:=by omega
 have hd:Nat.min (es.length+1-i) (es.length-i)=es.length-i:=Nat.min_eq_right (by omega)
 have he:(es.drop i).take (es.length+1-i)=es.drop i:=List.take_of_length_le (by simp;omega)
 have he2:(es.drop i).take (es.length-i)=es.drop i:=List.take_of_length_le (by simp)
 have hf:(es.drop i).length=es.length-i:=List.length_drop ..
 refine AWP.dreg' fun K hK=>?_
 try simp only [stepS,stepD,stepM,eq_self,implies_true,forall_eq_or_imp,forall_eq,Nat.reduceEqDiff,↓reduceIte,Nat.reduceAdd,Nat.reduceLeDiff,Nat.reduceSub,Nat.reduceMul,Nat.reduceLT,Int.reduceBEq,Int.reduceBNe,Int.reduceToNat,Int.reduceLT,Int.reduceLE,Int.reduceAdd,Int.reduceSub,Int.reduceMul,reduceCtorEq,w3,copyA,srcP,srcA,Int.toNat_natCast,hb,hc,hsub,hd,he,he2,hf]
 repeat (refine And.intro (by omega) ?_)
 refine ⟨by rfl,hK _ _ _ ?_⟩
 clear hK K
 have hMl:(over es (i+1) (es.drop i)).length=es.length+1:=by simp [over];omega
 have hMt:(over es (i+1) (es.drop i)).take i=es.take i:=by
  unfold over
  rw [List.append_assoc,List.take_append_of_le_length (by simp;omega),List.take_take,Nat.min_eq_left (by omega)]
 have hMd:(over es (i+1) (es.drop i)).drop (i+1)=es.drop i:=by
  unfold over
  have e1:(es.take (i+1)).length=i+1:=by simp;omega
  have e2:es.drop (i+1+(es.drop i).length)=[]:=List.drop_of_length_le (by simp;omega)
  rw [e2,List.append_nil]
  have e3:=List.drop_left (l₁:=es.take (i+1)) (l₂:=es.drop i)
  rw [e1] at e3;exact e3
 generalize hM:over es (i+1) (es.drop i)=M at *
 refine AWP.seq' ?_
 have hsub:(((es.length+1:Nat):Int)-(i:Int)).toNat=es.length+1-i:=by omega
 have hmin:Nat.min 1 (es.length+1-i)=1:=Nat.min_eq_left (by omega)
 have ht1:List.take 1 [x]=[x]:=rfl
 refine AWP.reg' fun K hK=>?_
 try simp only [stepS,stepD,stepM,eq_self,implies_true,forall_eq_or_imp,forall_eq,Nat.reduceEqDiff,↓reduceIte,Nat.reduceAdd,Nat.reduceLeDiff,Nat.reduceSub,Nat.reduceMul,Nat.reduceLT,Int.reduceBEq,Int.reduceBNe,Int.reduceToNat,Int.reduceLT,Int.reduceLE,Int.reduceAdd,Int.reduceSub,Int.reduceMul,reduceCtorEq,hMl,copyA,srcP,srcA,Int.toNat_natCast,hsub,hmin]
 repeat (refine And.intro (by omega) ?_)
 refine hK _ _ _ ?_
 clear hK K
 refine AWP.seq' ?_
 refine AWP.reg' fun K hK=>?_
 try simp only [stepS,stepD,stepM,eq_self,implies_true,forall_eq_or_imp,forall_eq,Nat.reduceEqDiff,↓reduceIte,Nat.reduceAdd,Nat.reduceLeDiff,Nat.reduceSub,Nat.reduceMul,Nat.reduceLT,Int.reduceBEq,Int.reduceBNe,Int.reduceToNat,Int.reduceLT,Int.reduceLE,Int.reduceAdd,Int.reduceSub,Int.reduceMul,reduceCtorEq]
 refine hK _ _ _ ?_
 clear hK K
 have hfin:over M i [x]=insAt es i x:=by
  unfold over insAt
  rw [hMt,show i+[x].length=i+1 from rfl,hMd]
 have hfl:(insAt es i x).length=es.length+1:=by unfold insAt;simp;omega
 rw [hfin]
 refine AWP.ret (fin_weak (Weak.row (b:=402) (cap:=cap) (k:=4) (es:=insAt es i x) (by rw [hfl];rfl)) (fin_ren [0,1,402] [(6,.vec 2)] rfl rfl ?_ ?_ rfl (by simp) ?_ (by simp)))
 ·simp only [List.mem_singleton,forall_eq]
  exact ⟨rfl,show (2:Nat)<3 by omega⟩
 ·refine ⟨⟨?_,?_⟩,trivial⟩
  ·rw [(vec_ren (m:=0) (pureL_insAt hp.1 hp.2 i)).1]
   rfl
  ·exact (vec_ren (π:=id) (pureL_insAt hp.1 hp.2 i)).2
 ·intro b hb
  match b,hb with
  | 0,_=>rfl
  | 1,_=>rfl
theorem Insert_nilH(x:AV)(hx:x.solid=true)(hp:x.pure) :
  HSpec Tryz.prog 128 [.vec 0,.int 0,.vec 1] [.vec 4 [],.vec 4 [x]] (.vec 2) [none,none,some (.vec 4 [x])]:=by
 have hml:=maxLen_eq
 refine HSpec.walk Tryz.func128 cf128_ok (by simp [cf128]) ?_
 unfold cf128
 simp only [initT,initH,List.length_cons,List.length_nil]
 refine AWP.seq' ?_
 refine AWP.reg' fun K hK=>?_
 try simp only [stepS,stepD,stepM,eq_self,implies_true,forall_eq_or_imp,forall_eq,Nat.reduceEqDiff,↓reduceIte,Nat.reduceAdd,Nat.reduceLeDiff,Nat.reduceSub,Nat.reduceMul,Nat.reduceLT,Int.reduceBEq,Int.reduceBNe,Int.reduceToNat,Int.reduceLT,Int.reduceLE,Int.reduceAdd,Int.reduceSub,Int.reduceMul,reduceCtorEq]
 refine hK _ _ _ ?_
 clear hK K
 refine AWP.seq' ?_
 refine AWP.reg' fun K hK=>?_
 try simp only [stepS,stepD,stepM,eq_self,implies_true,forall_eq_or_imp,forall_eq,Nat.reduceEqDiff,↓reduceIte,Nat.reduceAdd,Nat.reduceLeDiff,Nat.reduceSub,Nat.reduceMul,Nat.reduceLT,Int.reduceBEq,Int.reduceBNe,Int.reduceToNat,Int.reduceLT,Int.reduceLE,Int.reduceAdd,Int.reduceSub,Int.reduceMul,reduceCtorEq]
 refine hK _ _ _ ?_
 clear hK K
 refine AWP.seq' ?_
 refine AWP.reg' fun K hK=>?_
 try simp only [stepS,stepD,stepM,eq_self,implies_true,forall_eq_or_imp,forall_eq,Nat.reduceEqDiff,↓reduceIte,Nat.reduceAdd,Nat.reduceLeDiff,Nat.reduceSub,Nat.reduceMul,Nat.reduceLT,Int.reduceBEq,Int.reduceBNe,Int.reduceToNat,Int.reduceLT,Int.reduceLE,Int.reduceAdd,Int.reduceSub,Int.reduceMul,reduceCtorEq]
 refine hK _ _ _ ?_
 clear hK K
 refine AWP.seq' (AWP.seq' ?_)
 refine AWP.reg' fun K hK=>?_
 try simp only [stepS,stepD,stepM,eq_self,implies_true,forall_eq_or_imp,forall_eq,Nat.reduceEqDiff,↓reduceIte,Nat.reduceAdd,Nat.reduceLeDiff,Nat.reduceSub,Nat.reduceMul,Nat.reduceLT,Int.reduceBEq,Int.reduceBNe,Int.reduceToNat,Int.reduceLT,Int.reduceLE,Int.reduceAdd,Int.reduceSub,Int.reduceMul,reduceCtorEq]
 refine hK _ _ _ ?_
 clear hK K
 refine AWP.cond (b:=false) rfl (fun h=>by cases h) (fun _=>?_)
 refine AWP.skip ?_
 refine AWP.seq' ?_
 refine AWP.reg' fun K hK=>?_
 try simp only [stepS,stepD,stepM,eq_self,implies_true,forall_eq_or_imp,forall_eq,Nat.reduceEqDiff,↓reduceIte,Nat.reduceAdd,Nat.reduceLeDiff,Nat.reduceSub,Nat.reduceMul,Nat.reduceLT,Int.reduceBEq,Int.reduceBNe,Int.reduceToNat,Int.reduceLT,Int.reduceLE,Int.reduceAdd,Int.reduceSub,Int.reduceMul,reduceCtorEq]
 refine hK _ _ _ ?_
 clear hK K
 refine AWP.seq' (AWP.seq' ?_)
 refine AWP.reg' fun K hK=>?_
 try simp only [stepS,stepD,stepM,eq_self,implies_true,forall_eq_or_imp,forall_eq,Nat.reduceEqDiff,↓reduceIte,Nat.reduceAdd,Nat.reduceLeDiff,Nat.reduceSub,Nat.reduceMul,Nat.reduceLT,Int.reduceBEq,Int.reduceBNe,Int.reduceToNat,Int.reduceLT,Int.reduceLE,Int.reduceAdd,Int.reduceSub,Int.reduceMul,reduceCtorEq]
 refine hK _ _ _ ?_
 clear hK K
 refine AWP.cond (b:=true) rfl (fun h=>?_) (fun h=>by cases h)
 refine AWP.seq' ?_
 refine AWP.reg' fun K hK=>?_
 try simp only [stepS,stepD,stepM,eq_self,implies_true,forall_eq_or_imp,forall_eq,Nat.reduceEqDiff,↓reduceIte,Nat.reduceAdd,Nat.reduceLeDiff,Nat.reduceSub,Nat.reduceMul,Nat.reduceLT,Int.reduceBEq,Int.reduceBNe,Int.reduceToNat,Int.reduceLT,Int.reduceLE,Int.reduceAdd,Int.reduceSub,Int.reduceMul,reduceCtorEq,appendA,srcA]
 repeat (refine And.intro (by omega) ?_)
 refine hK _ _ _ ?_
 clear hK K
 refine AWP.ret (fin_ren [0,1,274] [(6,.vec 2)] rfl rfl ?_ ?_ rfl (by simp) ?_ (by simp))
 ·simp only [List.mem_singleton,forall_eq]
  exact ⟨rfl,show (2:Nat)<3 by omega⟩
 ·have hp':pureL [x]:=⟨hp,trivial⟩
  refine ⟨⟨?_,?_⟩,trivial⟩
  ·rw [(vec_ren (m:=0) hp').1]
   rfl
  ·exact (vec_ren (π:=id) hp').2
 ·intro b hb
  match b,hb with
  | 0,_=>rfl
  | 1,_=>rfl
theorem Insert_specH(es:List AV)(x:AV)(i:Nat)(hi:i≤es.length)(hx:x.solid=true)(hs:es.length≤1000000)(hp:pureL es∧x.pure) :
  HSpec Tryz.prog 128 [.vec 0,.int i,.vec 1] [.vec 4 es,.vec 4 [x]] (.vec 2) [none,none,some (.vec 4 (insAt es i x))]:=by
 refine HSpec.of_row (fun cap h1 h2=>Insert_rowH es x i cap hi hx h1 h2 hs hp) (fun h=>?_)
 subst h
 have:i=0:=by simpa using hi
 subst this
 exact Insert_nilH x hx hp.2
theorem Insert_fnH:FnOk Tryz.prog 128:=fnB_ok (by kernel_rfl)
theorem BlkOk.mapSub{w:World}{A:Nat→Prop}{μ:Mu}{hd:Hd}{k:Nat}{es:List AV}{f:AV→AV}(h:∀x,Sub x (f x))(hy:∀x∈es.map f,x.solid=true)(q:BlkOk w A μ hd (.vec k es)):BlkOk w A μ hd (.vec k (es.map f)):=by
 obtain ⟨q2,q3⟩:=q
 refine ⟨q2,?_⟩
 rcases q3 with ⟨rfl,q⟩|⟨a1,a2,a3,a4,C,ty,vs,a5,a6,a7,a8⟩
 ·exact .inl ⟨rfl,q⟩
 ·exact .inr ⟨a1,by rw [List.length_map];exact a2,a3,a4,C,ty,vs,a5,RVL.mapSub h a6,hy,a8⟩
theorem HSpec.subH{P:Program}{f:FuncId}{args:List AV}{hs1 hs2:List Blk}{r:AV}{h':List (Option Blk)}(hl:hs1.length=hs2.length)
  (hsub:∀(i:Nat) x y,hs1[i]?=some x→hs2[i]?=some y→∀w A μ hd,BlkOk w A μ hd x→BlkOk w A μ hd y) (h:HSpec P f args hs2 r h'):HSpec P f args hs1 r h':=by
 intro w A μ cargs g1 g2 g3
 have to:∀b x,hpOf (hs2.map some) b=some x→∃y,hpOf (hs1.map some) b=some y∧∀hd,BlkOk w A μ hd y→BlkOk w A μ hd x:=by
  intro b x hx
  rw [hpOf_some] at hx
  have hb:=lt_of_get hx
  exact ⟨hs1[b],hpOf_some.mpr (List.getElem?_eq_getElem (by omega)),fun hd q=>hsub b _ x (List.getElem?_eq_getElem (by omega)) hx w A μ hd q⟩
 have own':ownOf μ (hpOf (hs2.map some))=ownOf μ (hpOf (hs1.map some)):=by
  funext b
  refine propext ⟨?_,?_⟩
  ·rintro ⟨i,x,hd',a1,a2,a3,a4⟩
   obtain ⟨y,b1,_⟩:=to i x a1
   exact ⟨i,y,hd',b1,a2,a3,a4⟩
  ·rintro ⟨i,x,hd',a1,a2,a3,a4⟩
   rw [hpOf_some] at a1
   have hi:=lt_of_get a1
   exact ⟨i,hs2[i],hd',hpOf_some.mpr (List.getElem?_eq_getElem (by omega)),a2,a3,a4⟩
 have:=h w A μ cargs ⟨fun b x hx=>?_,fun b b' x x' hd1 hd2 hx hx'=>?_,g1.lt⟩ (by rw [←hl];exact g2) g3
 ·rw [own'] at this;exact this
 ·obtain ⟨y,b1,b2⟩:=to b x hx
  obtain ⟨hd',c1,c2,c3⟩:=g1.blk b y b1
  exact ⟨hd',c1,b2 hd' c2,c3⟩
 ·obtain ⟨y,b1,_⟩:=to b x hx
  obtain ⟨y',b1',_⟩:=to b' x' hx'
  exact g1.inj b b' y y' hd1 hd2 b1 b1'
theorem insAt_map{α β:Type}(f:α→β)(l:List α)(i:Nat)(x:α):insAt (l.map f) i (f x)=(insAt l i x).map f:=by
 simp [insAt]
def insH_h(l:List Hrd)(r:Int)(i:Nat)(hi:i≤l.length)(hl:l.length≤1000000):HC Tryz.prog:=
 ⟨128,[.k,.k,.k],[.vec 0,.int i,.vec 1],[.vec 4 (l.map Hrd.v),.vec 4 [.agg [.int r,.int 0,.int 0,.sl 0 [] true]]],.vec 2,[none,none,some (.vec 4 ((insAt l i ⟨r,0,0,[]⟩).map Hrd.v))],by
  have h:=Insert_specH (l.map Hrd.v) (Hrd.v ⟨r,0,0,[]⟩) i (by simpa using hi) rfl (by simpa using hl) ⟨pureBL_ok (pureBL_map (fun _=>rfl) l),AV.pureB_ok rfl⟩
  rw [insAt_map] at h
  refine HSpec.subH (hs2:=[.vec 4 (l.map Hrd.v),.vec 4 [Hrd.v ⟨r,0,0,[]⟩]]) rfl (fun j x y hx hy w A μ hd q=>?_) h
  rcases j with _|_|j
  ·cases hx;cases hy;exact q
  ·cases hx;cases hy;exact BlkOk.mapSub (f:=fitA (.a [.k,.k,.k,.s 4])) (fitA_sub _) (by intro x hx;simp only [List.map_cons,List.map_nil,List.mem_singleton] at hx;subst hx;rfl) q
  ·simp at hx,Insert_fnH,HcOk.of (by simp [hcB,belBL,AV.belB,allB,okBk,okBkO,pureBL_map (v:=Hrd.v) (fun _=>rfl),pureBL,AV.pureB])⟩
def hearF_a(l:Lsn)(x:Sig):Prop:=okL [.agg [.int l.router,.int l.epoch,.sl 4 (l.heard.map Hrd.v) false],.agg [.int x.kind,.int x.src,.int x.dst,.int x.epoch,.int x.ver,.int x.prev,.int x.pep,.int x.grp,.int x.mode,.sl 1 (x.srcs.map AV.int) false]]
def hearF_n0(l:Lsn)(x:Sig)(t0:Unit):NF:=⟨[(2,.k,.ref 0 0),(3,.k,.ref 1 0),(4,.k,.ref 2 0),(5,.k,.ref 3 0),(8,.k,.int (posH l.heard x.src:Int)),(9,.k,.bool (decide (hitH l.heard x.src)))],[.box (.agg [.int l.router,.int l.epoch,.sl 4 (l.heard.map Hrd.v) false]),.box (.agg [.int x.kind,.int x.src,.int x.dst,.int x.epoch,.int x.ver,.int x.prev,.int x.pep,.int x.grp,.int x.mode,.sl 1 (x.srcs.map AV.int) false]),.box (.agg [.int 0,.int 0,.sl 0 [] true]),.box (.agg [.int 0,.int 0,.int 0,.int 0,.int 0,.int 0,.int 0,.int 0,.int 0,.sl 0 [] true])]⟩
def hearF_n1(l:Lsn)(x:Sig)(t1:Int×(List Hrd)):NF:=⟨[(2,.k,.ref 0 0),(3,.k,.ref 1 0),(4,.k,.ref 2 0),(5,.k,.ref 3 0),(8,.k,.int (posH l.heard x.src:Int)),(9,.k,.bool (decide (hitH l.heard x.src))),(10,.k,.ref 4 0),(60,.k,.sl 4 (l.heard.map Hrd.v) false),(61,.k,.int ((l.heard.map Hrd.v).length:Int)),(62,.k,.int t1.1)],[.box (.agg [.int l.router,.int l.epoch,.sl 4 (l.heard.map Hrd.v) false]),.box (.agg [.int x.kind,.int x.src,.int x.dst,.int x.epoch,.int x.ver,.int x.prev,.int x.pep,.int x.grp,.int x.mode,.sl 1 (x.srcs.map AV.int) false]),.box (.agg [.int 0,.int 0,.sl 0 [] true]),.box (.agg [.int 0,.int 0,.int 0,.int 0,.int 0,.int 0,.int 0,.int 0,.int 0,.sl 0 [] true]),.box (.agg [.int l.router,.int l.epoch,.vec 5]),.vec 4 (t1.2.map Hrd.v) (pureBL_map (fun _=>rfl) t1.2)]⟩
def hearF_n2(l:Lsn)(x:Sig)(t2:(List Hrd)):NF:=⟨[(2,.k,.ref 0 0),(3,.k,.ref 1 0),(4,.k,.ref 2 0),(5,.k,.ref 3 0),(8,.k,.int (posH l.heard x.src:Int)),(10,.k,.ref 4 0)],[.box (.agg [.int l.router,.int l.epoch,.sl 4 (l.heard.map Hrd.v) false]),.box (.agg [.int x.kind,.int x.src,.int x.dst,.int x.epoch,.int x.ver,.int x.prev,.int x.pep,.int x.grp,.int x.mode,.sl 1 (x.srcs.map AV.int) false]),.box (.agg [.int 0,.int 0,.sl 0 [] true]),.box (.agg [.int 0,.int 0,.int 0,.int 0,.int 0,.int 0,.int 0,.int 0,.int 0,.sl 0 [] true]),.box (.agg [.int l.router,.int l.epoch,.vec 5]),.vec 4 (t2.map Hrd.v) (pureBL_map (fun _=>rfl) t2)]⟩
def hearF_n3(l:Lsn)(x:Sig)(t3:(List Hrd)):NF:=⟨[(2,.k,.ref 0 0),(3,.k,.ref 1 0),(4,.k,.ref 2 0),(5,.k,.ref 3 0),(10,.k,.ref 4 0),(13,.k,.eref 5 ((posH l.heard x.src:Int).toNat) 0)],[.box (.agg [.int l.router,.int l.epoch,.sl 4 (l.heard.map Hrd.v) false]),.box (.agg [.int x.kind,.int x.src,.int x.dst,.int x.epoch,.int x.ver,.int x.prev,.int x.pep,.int x.grp,.int x.mode,.sl 1 (x.srcs.map AV.int) false]),.box (.agg [.int 0,.int 0,.sl 0 [] true]),.box (.agg [.int 0,.int 0,.int 0,.int 0,.int 0,.int 0,.int 0,.int 0,.int 0,.sl 0 [] true]),.box (.agg [.int l.router,.int l.epoch,.vec 5]),.vec 4 (t3.map Hrd.v) (pureBL_map (fun _=>rfl) t3)]⟩
def hearF_n4(l:Lsn)(x:Sig)(t4:(List Hrd)):NF:=⟨[(2,.k,.ref 0 0),(3,.k,.ref 1 0),(4,.k,.ref 2 0),(5,.k,.ref 3 0),(10,.k,.ref 4 0),(13,.k,.eref 5 ((posH l.heard x.src:Int).toNat) 0)],[.box (.agg [.int l.router,.int l.epoch,.sl 4 (l.heard.map Hrd.v) false]),.box (.agg [.int x.kind,.int x.src,.int x.dst,.int x.epoch,.int x.ver,.int x.prev,.int x.pep,.int x.grp,.int x.mode,.sl 1 (x.srcs.map AV.int) false]),.box (.agg [.int 0,.int 0,.sl 0 [] true]),.box (.agg [.int 0,.int 0,.int 0,.int 0,.int 0,.int 0,.int 0,.int 0,.int 0,.sl 0 [] true]),.box (.agg [.int l.router,.int l.epoch,.vec 5]),.vec 4 (t4.map Hrd.v) (pureBL_map (fun _=>rfl) t4)]⟩
@[reducible] def hearF_s:Nat→Type
 | 0=>Unit
 | 1=>Int×(List Hrd)
 | 2=>(List Hrd)
 | 3=>(List Hrd)
 | 4=>(List Hrd)
 | _=>Unit
def hearF_e(r:Lsn×Sig×Int):AV:=.tup [Lsn.v r.1,Sig.v r.2.1,.int r.2.2]
def hearF_x(l:Lsn)(x:Sig)(I1:Unit→(Int×(List Hrd))→Prop)(m1:Unit→(Int×(List Hrd))→Nat):Ax Tryz.prog hearF_s (Lsn×Sig×Int):=
 (.callP (valL_c l)
(.callP (sigV_c x)
(.callP (orI_c [valL l,sigErr x])
(.br 224 ((orI [valL l,sigErr x]) != 0) (.ret ((⟨0,0,[]⟩:Lsn),(⟨0,0,0,0,0,0,0,0,0,[]⟩:Sig),orI [valL l,sigErr x]))
(.br 288 (x.kind==3) (.ret ((⟨0,0,[]⟩:Lsn),(⟨0,0,0,0,0,0,0,0,0,[]⟩:Sig),1))
(.br 384 (x.dst != l.router) (.ret ((⟨0,0,[]⟩:Lsn),(⟨0,0,0,0,0,0,0,0,0,[]⟩:Sig),1))
(.req 432 (l.heard.Pairwise fun x y=>x.router<y.router) fun h1 =>
(.req 432 (l.heard.length≤1000000) fun h2 =>
(.callP (heard_c l x.src h1 h2)
(.join 0 (hearF_n0 l x) (fun (t0:Unit)=>(bif (!(decide (hitH l.heard x.src))) then (bif (((l.heard.map Hrd.v).length:Int)==12) then false else true) else true)=true) (fun b0=>(.br 576 (!(decide (hitH l.heard x.src))) (.br 656 (((l.heard.map Hrd.v).length:Int)==12) (.ret ((⟨0,0,[]⟩:Lsn),(⟨0,0,0,0,0,0,0,0,0,[]⟩:Sig),3))
(.bk 0 b0 ((()):Unit) [0,16,32,48]))
(.bk 0 b0 ((()):Unit) [0,16,32,48]))) fun (t0:Unit) =>
(.cmdL (.nilB 84 2 4) (.loop 1 (hearF_n1 l x) (I1 t0) (m1 t0) (0,[]) [0,1,2,3,84,180] fun (t1:Int×(List Hrd)) b1 =>
(.br 22 (decide (t1.1<((l.heard.map Hrd.v).length:Int))) (.el 22 Hrd.v l.heard (fun R=>Rf (l.heard.map Hrd.v) (ck (decide (0≤t1.1)) (ck (decide (t1.1<(l.heard.length:Int)))
(∀x3,l.heard[t1.1.toNat]?=some x3 →
(R x3))))) fun x3 =>
(.req 118 (okItms x3.items) fun h4 =>
(.callH [] (copied_h x3.items 0 h4) 118
(.say (Rf ((without 0 x3.items).map Itm.v)) (.cmd (.frzE 118 ((without 0 x3.items).map Itm.v) (pureBL_map (fun _=>rfl) (without 0 x3.items))) (.say (fun R=>Rf (α:=List AV) (t1.2.map Hrd.v) (Rf (α:=List AV) [.agg [.int x3.router,.int x3.epoch,.int x3.ver,.sl 4 ((without 0 x3.items).map Itm.v) false]]
(ck (decide (t1.2.length+1≤1000000))
R))) (.app 230 Hrd.v t1.2 [(⟨x3.router,x3.epoch,x3.ver,without 0 x3.items⟩:Hrd)]
(.bk 1 b1 (W (t1.1+1),t1.2++[(⟨x3.router,x3.epoch,x3.ver,without 0 x3.items⟩:Hrd)]) [0,1,2,3,4,230]))))))))
(.join 2 (hearF_n2 l x) (fun (t2:(List Hrd))=>t2=((bif (!(decide (hitH l.heard x.src))) then (insAt t1.2 (posH l.heard x.src) (⟨x.src,0,0,[]⟩:Hrd)) else (t1.2)):(List Hrd))) (fun b2=>(.br 54 (!(decide (hitH l.heard x.src))) (.own 150 (.req 166 ((posH l.heard x.src)≤t1.2.length) fun h5 =>
(.req 166 (t1.2.length≤1000000) fun h6 =>
(.callH [5,150] (insH_h t1.2 x.src (posH l.heard x.src) h5 h6) 166
(.bk 2 b2 ((insAt t1.2 (posH l.heard x.src) (⟨x.src,0,0,[]⟩:Hrd)):(List Hrd)) [0,1,2,3,4,166])))))
(.bk 2 b2 ((t1.2):(List Hrd)) [0,1,2,3,4,5]))) fun (t2:(List Hrd)) =>
(.pass (.say (ck (cond (decide (0≤(posH l.heard x.src:Int))) (decide ((posH l.heard x.src:Int)<((t2.map Hrd.v).length:Int))) false)) (.join 3 (hearF_n3 l x) (fun (t3:(List Hrd))=>(∃x7':Hrd,t2[(posH l.heard x.src:Int).toNat]?=some x7'∧(decide (x7'.epoch<x.epoch))=true∧∃y8':Hrd,t2[(posH l.heard x.src:Int).toNat]?=some y8'∧t3=((t2.set ((posH l.heard x.src:Int).toNat) (⟨x.src,x.epoch,0,[]⟩:Hrd)):(List Hrd)))∨(∃x7':Hrd,t2[(posH l.heard x.src:Int).toNat]?=some x7'∧(decide (x7'.epoch<x.epoch))=false∧t3=((t2):(List Hrd)))) (fun b3=>(.el 166 Hrd.v t2 (fun R=>Rf (t2.map Hrd.v) (ck (decide ((posH l.heard x.src:Int).toNat<t2.length))
(∀x7,t2[(posH l.heard x.src:Int).toNat]?=some x7 →
(R x7)))) fun x7 =>
(.br 198 (decide (x7.epoch<x.epoch)) (.stI 310 Hrd.v t2 (fun R=>Rf (t2.map Hrd.v) (ck (decide ((posH l.heard x.src:Int).toNat<t2.length))
(∀y8,t2[(posH l.heard x.src:Int).toNat]?=some y8 →
((R y8))))) fun y8 =>
(.say (fun R=>Rf (α:=List AV) ((t2.map Hrd.v).set ((posH l.heard x.src:Int).toNat) (.agg [.int x.src,.int x.epoch,.int 0,.sl 0 [] true])) (Rf (Hrd.v (⟨x.src,x.epoch,0,[]⟩:Hrd))
R)) (.cmd (.wkS 5 ((posH l.heard x.src:Int).toNat) (.a [.k,.k,.k,(.s 4)]) Hrd.v t2 (.agg [.int x.src,.int x.epoch,.int 0,.sl 0 [] true]) (⟨x.src,x.epoch,0,[]⟩:Hrd)) (.bk 3 b3 ((t2.set ((posH l.heard x.src:Int).toNat) (⟨x.src,x.epoch,0,[]⟩:Hrd)):(List Hrd)) [0,1,2,3,4,5]))))
(.bk 3 b3 ((t2):(List Hrd)) [0,1,2,3,4,5])))) fun (t3:(List Hrd)) =>
(.join 4 (hearF_n4 l x) (fun (t4:(List Hrd))=>((x.kind==2)=true∧∃x9':Hrd,t3[(posH l.heard x.src:Int).toNat]?=some x9'∧(x.epoch==x9'.epoch)=true∧∃x10':Hrd,t3[(posH l.heard x.src:Int).toNat]?=some x10'∧(decide (x.prev≤x10'.ver))=true∧∃x11':Hrd,t3[(posH l.heard x.src:Int).toNat]?=some x11'∧(decide (x11'.ver<x.ver))=true∧∃x12':Hrd,t3[(posH l.heard x.src:Int).toNat]?=some x12'∧∃y15':Hrd,t3[(posH l.heard x.src:Int).toNat]?=some y15'∧∃y16':Hrd,(t3.set ((posH l.heard x.src:Int).toNat) (⟨y15'.router,y15'.epoch,y15'.ver,(without x.grp x12'.items)++[(⟨x.ver,x.grp,x.mode,x.srcs⟩:Itm)]⟩:Hrd))[(posH l.heard x.src:Int).toNat]?=some y16'∧t4=(((t3.set ((posH l.heard x.src:Int).toNat) (⟨y15'.router,y15'.epoch,y15'.ver,(without x.grp x12'.items)++[(⟨x.ver,x.grp,x.mode,x.srcs⟩:Itm)]⟩:Hrd)).set ((posH l.heard x.src:Int).toNat) (⟨y16'.router,y16'.epoch,x.ver,y16'.items⟩:Hrd)):(List Hrd)))∨((x.kind==2)=true∧∃x9':Hrd,t3[(posH l.heard x.src:Int).toNat]?=some x9'∧(x.epoch==x9'.epoch)=true∧∃x10':Hrd,t3[(posH l.heard x.src:Int).toNat]?=some x10'∧(decide (x.prev≤x10'.ver))=true∧∃x11':Hrd,t3[(posH l.heard x.src:Int).toNat]?=some x11'∧(decide (x11'.ver<x.ver))=false∧t4=((t3):(List Hrd)))∨((x.kind==2)=true∧∃x9':Hrd,t3[(posH l.heard x.src:Int).toNat]?=some x9'∧(x.epoch==x9'.epoch)=true∧∃x10':Hrd,t3[(posH l.heard x.src:Int).toNat]?=some x10'∧(decide (x.prev≤x10'.ver))=false∧t4=((t3):(List Hrd)))∨((x.kind==2)=true∧∃x9':Hrd,t3[(posH l.heard x.src:Int).toNat]?=some x9'∧(x.epoch==x9'.epoch)=false∧t4=((t3):(List Hrd)))∨((x.kind==2)=false∧t4=((t3):(List Hrd)))) (fun b4=>(.br 70 (x.kind==2) (.el 150 Hrd.v t3 (fun R=>Rf (t3.map Hrd.v) (ck (decide ((posH l.heard x.src:Int).toNat<t3.length))
(∀x9,t3[(posH l.heard x.src:Int).toNat]?=some x9 →
(R x9)))) fun x9 =>
(.br 214 (x.epoch==x9.epoch) (.el 294 Hrd.v t3 (fun R=>Rf (t3.map Hrd.v) (ck (decide ((posH l.heard x.src:Int).toNat<t3.length))
(∀x10,t3[(posH l.heard x.src:Int).toNat]?=some x10 →
(R x10)))) fun x10 =>
(.br 358 (decide (x.prev≤x10.ver)) (.el 406 Hrd.v t3 (fun R=>Rf (t3.map Hrd.v) (ck (decide ((posH l.heard x.src:Int).toNat<t3.length))
(∀x11,t3[(posH l.heard x.src:Int).toNat]?=some x11 →
(R x11)))) fun x11 =>
(.br 486 (decide (x11.ver<x.ver)) (.el 550 Hrd.v t3 (fun R=>Rf (t3.map Hrd.v) (ck (decide ((posH l.heard x.src:Int).toNat<t3.length))
(∀x12,t3[(posH l.heard x.src:Int).toNat]?=some x12 →
(R x12)))) fun x12 =>
(.req 598 (okItms x12.items) fun h13 =>
(.callH [] (copied_h x12.items x.grp h13) 598
(.req 710 ((⟨x.mode,x.srcs⟩:Flt).srcs.length≤1000000) fun h14 =>
(.callP (filtered_c (⟨x.mode,x.srcs⟩:Flt) h14)
(.say (fun R=>Rf (α:=List AV) ((without x.grp x12.items).map Itm.v) (Rf (α:=List AV) [.agg [.int x.ver,.int x.grp,.int x.mode,.sl 1 (x.srcs.map AV.int) false]]
(ck (decide ((without x.grp x12.items).length+1≤1000000))
R))) (.app 758 Itm.v (without x.grp x12.items) [(⟨x.ver,x.grp,x.mode,x.srcs⟩:Itm)]
(.stI 806 Hrd.v t3 (fun R=>Rf (t3.map Hrd.v) (ck (decide ((posH l.heard x.src:Int).toNat<t3.length))
(∀y15,t3[(posH l.heard x.src:Int).toNat]?=some y15 →
((R y15))))) fun y15 =>
(.say (fun R=>Rf (α:=List AV) (((without x.grp x12.items)++[(⟨x.ver,x.grp,x.mode,x.srcs⟩:Itm)]).map Itm.v) (Rf (α:=List AV) ((t3.map Hrd.v).set ((posH l.heard x.src:Int).toNat) (.agg [.int y15.router,.int y15.epoch,.int y15.ver,.vec 758])) (Rf (Hrd.v (⟨y15.router,y15.epoch,y15.ver,(without x.grp x12.items)++[(⟨x.ver,x.grp,x.mode,x.srcs⟩:Itm)]⟩:Hrd))
R))) (.cmd (.frzV 758 5 ((posH l.heard x.src:Int).toNat) Hrd.v t3 (.agg [.int y15.router,.int y15.epoch,.int y15.ver,.vec 758]) (⟨y15.router,y15.epoch,y15.ver,(without x.grp x12.items)++[(⟨x.ver,x.grp,x.mode,x.srcs⟩:Itm)]⟩:Hrd) (((without x.grp x12.items)++[(⟨x.ver,x.grp,x.mode,x.srcs⟩:Itm)]).map Itm.v) (pureBL_map (fun _=>rfl) ((without x.grp x12.items)++[(⟨x.ver,x.grp,x.mode,x.srcs⟩:Itm)]))) (.st 902 Hrd.v (t3.set ((posH l.heard x.src:Int).toNat) (⟨y15.router,y15.epoch,y15.ver,(without x.grp x12.items)++[(⟨x.ver,x.grp,x.mode,x.srcs⟩:Itm)]⟩:Hrd)) (fun y16=>(⟨y16.router,y16.epoch,x.ver,y16.items⟩:Hrd)) (fun R=>Rf ((t3.set ((posH l.heard x.src:Int).toNat) (⟨y15.router,y15.epoch,y15.ver,(without x.grp x12.items)++[(⟨x.ver,x.grp,x.mode,x.srcs⟩:Itm)]⟩:Hrd)).map Hrd.v) (ck (decide ((posH l.heard x.src:Int).toNat<(t3.set ((posH l.heard x.src:Int).toNat) (⟨y15.router,y15.epoch,y15.ver,(without x.grp x12.items)++[(⟨x.ver,x.grp,x.mode,x.srcs⟩:Itm)]⟩:Hrd)).length))
(∀y16,(t3.set ((posH l.heard x.src:Int).toNat) (⟨y15.router,y15.epoch,y15.ver,(without x.grp x12.items)++[(⟨x.ver,x.grp,x.mode,x.srcs⟩:Itm)]⟩:Hrd))[(posH l.heard x.src:Int).toNat]?=some y16→Rf (Hrd.v (⟨y16.router,y16.epoch,x.ver,y16.items⟩:Hrd))
((R y16))))) fun y16 =>
(.bk 4 b4 (((t3.set ((posH l.heard x.src:Int).toNat) (⟨y15.router,y15.epoch,y15.ver,(without x.grp x12.items)++[(⟨x.ver,x.grp,x.mode,x.srcs⟩:Itm)]⟩:Hrd)).set ((posH l.heard x.src:Int).toNat) (⟨y16.router,y16.epoch,x.ver,y16.items⟩:Hrd)):(List Hrd)) [0,1,2,3,4,5]))))))))))))
(.bk 4 b4 ((t3):(List Hrd)) [0,1,2,3,4,5])))
(.bk 4 b4 ((t3):(List Hrd)) [0,1,2,3,4,5])))
(.bk 4 b4 ((t3):(List Hrd)) [0,1,2,3,4,5])))
(.bk 4 b4 ((t3):(List Hrd)) [0,1,2,3,4,5]))) fun (t4:(List Hrd)) =>
(.el 134 Hrd.v t4 (fun R=>Rf (t4.map Hrd.v) (ck (decide ((posH l.heard x.src:Int).toNat<t4.length))
(∀x17,t4[(posH l.heard x.src:Int).toNat]?=some x17 →
(R x17)))) fun x17 =>
(.el 198 Hrd.v t4 (fun R=>Rf (t4.map Hrd.v) (ck (decide ((posH l.heard x.src:Int).toNat<t4.length))
(∀x18,t4[(posH l.heard x.src:Int).toNat]?=some x18 →
(R x18)))) fun x18 =>
(.say (Rf (t4.map Hrd.v)) (.cmdL (.frzE 5 (t4.map Hrd.v) (pureBL_map (fun _=>rfl) t4)) (.ret ((⟨l.router,l.epoch,t4⟩:Lsn),(⟨3,l.router,x.src,x17.epoch,x18.ver,0,l.epoch,0,0,[]⟩:Sig),0))))))))))))))))))))))))
def hearF_vc(l:Lsn)(x:Sig)(I1:Unit→(Int×(List Hrd))→Prop)(m1:Unit→(Int×(List Hrd))→Nat)(r0:Lsn×Sig×Int):Prop:=(hearF_x l x I1 m1).vp hearF_e r0
theorem hearF_p(l:Lsn)(x:Sig)(ok:hearF_a l x):∃I m,hearF_vc l x I m ((hear l x).1.1,(hear l x).1.2,(hear l x).2):=by
 simp only [hearF_a,okU,Blk.ok,plainV,List.length_map] at ok
 refine ⟨fun _ t=>∃k:Nat,t=((k:Int),l.heard.take k)∧k≤l.heard.length,fun _ t=>l.heard.length-t.1.toNat,?_⟩
 dsimp only [hearF_vc,hearF_x,hearF_s,Ax.vp,Ax.vc];simp only [vcU,rfU,List.length_map]
 rw [orI_two]
 by_cases hs:lsnOk l
 case neg=>simp [hear,valL,errIf,hs,lsn0,sig0]
 rw [show valL l=0 from errIf_pos hs,if_neg (by simp)]
 by_cases hx:sigErr x=0
 case neg=>simp [hear,hs,hx,lsn0,sig0]
 refine ⟨fun e=>by simp [hx] at e,fun _=>⟨fun e=>?_,fun e1=>⟨fun e=>?_,fun e2=>?_⟩⟩⟩
 ·have e:x.kind=3:=by simpa using e
  rw [hear,if_neg (not_not_intro hs),if_neg (not_not_intro hx),if_pos (.inl e)];rfl
 ·have e:x.dst≠l.router:=by simpa using e
  rw [hear,if_neg (not_not_intro hs),if_neg (not_not_intro hx),if_pos (.inr e)];rfl
 have e1:x.kind≠3:=by simpa using e1
 have e2:x.dst=l.router:=by simpa using e2
 have hlen:=hs.2.2.1
 have hear1_:hear l x=if ¬hitH l.heard x.src∧l.heard.length=12 then ((lsn0,sig0),3)
   else ((⟨l.router,l.epoch,(base l.heard x.src).set (posH l.heard x.src) (hearH l.heard x)⟩,⟨3,l.router,x.src,(hearH l.heard x).epoch,(hearH l.heard x).ver,0,l.epoch,0,0,[]⟩),0):=by
  rw [hear,if_neg (not_not_intro hs),if_neg (not_not_intro hx),if_neg (by rintro (h|h);exact e1 h;exact h e2)]
 refine ⟨hs.2.2.2.2,by omega,⟨fun a=>⟨fun b=>?_,fun b=>by simp [a,b]⟩,fun a=>by simp [a]⟩,?_⟩
 ·have a:¬hitH l.heard x.src:=by simpa using a
  have b:l.heard.length=12:=by simp at b;omega
  rw [hear1_,if_pos ⟨a,b⟩];rfl
 rintro _ hc
 have hc:¬(¬hitH l.heard x.src∧l.heard.length=12):=by
  rintro ⟨a,b⟩
  simp [a,b] at hc
 refine ⟨⟨0,by simp,by omega⟩,?_⟩
 rintro _ ⟨k,rfl,hk⟩
 refine ⟨fun h1=>⟨by omega,by omega,fun y hy=>?_⟩,fun h1=>?_⟩
 ·simp only [Int.toNat_natCast] at hy ⊢
  have hi:=(hs.2.2.2.1 y (mem_of_get hy)).2.2.2.2
  refine ⟨okItms_of hi,by simp;omega,?_⟩
  rw [W_succ (n:=l.heard.length) (by omega) (by omega),without_zero hi]
  exact ⟨⟨k+1,by rw [take_succ hy],by omega⟩,by simp;omega⟩
 rw [List.take_of_length_le (by omega)]
 have hb:(bif !decide (hitH l.heard x.src) then insAt l.heard (posH l.heard x.src) (⟨x.src,0,0,[]⟩:Hrd) else l.heard)=base l.heard x.src:=by
  by_cases a:hitH l.heard x.src<;>simp [base,a]
 have hpl:posH l.heard x.src≤l.heard.length:=List.findIdx_le_length
 simp only [hb,Int.toNat_natCast]
 refine ⟨⟨fun a=>⟨hpl,by omega,?_⟩,fun a=>?_⟩,?_⟩
 ·have a:¬hitH l.heard x.src:=by simpa using a
  rw [base,if_neg a]
 ·have a:hitH l.heard x.src:=by simpa using a
  rw [base,if_pos a]
 rintro _ rfl
 have hp:posH l.heard x.src<(base l.heard x.src).length:=by
  by_cases a:hitH l.heard x.src
  ·rw [base,if_pos a];exact a.1
  ·rw [base,if_neg a];simp [insAt];omega
 have fin:=hear1_
 rw [if_neg hc] at fin
 clear hear1_
 have hbi:∀h∈base l.heard x.src,okItms h.items:=by
  intro h hh
  by_cases a:hitH l.heard x.src
  ·rw [base,if_pos a] at hh
   exact okItms_of (hs.2.2.2.1 h hh).2.2.2.2
  ·rw [base,if_neg a,insAt] at hh
   simp only [List.append_assoc,List.mem_append,List.mem_singleton] at hh
   rcases hh with hh|rfl|hh
   ·exact okItms_of (hs.2.2.2.1 h (List.mem_of_mem_take hh)).2.2.2.2
   ·exact ⟨by simp,by simp⟩
   ·exact okItms_of (hs.2.2.2.1 h (List.mem_of_mem_drop hh)).2.2.2.2
 rw [hearH] at fin
 generalize base l.heard x.src=B at *
 generalize posH l.heard x.src=p at *
 obtain ⟨g,hg⟩:∃g,B[p]?=some g:=⟨B[p],List.getElem?_eq_getElem hp⟩
 have hgi:=hbi g (mem_of_get hg)
 rw [getD_some hg] at fin
 simp only [hg,Option.some.injEq,forall_eq',exists_eq_left',and_true,exists_const,forall_const]
 refine ⟨by simp;omega,⟨hp,fun a=>⟨hp,?_⟩,fun a=>?_⟩,?_⟩
 ·exact .inl ⟨a,g,rfl⟩
 ·exact .inr a
 intro t3 h3
 have h3:t3=B.set p (hear0 g x):=by
  rcases h3 with ⟨a,_,_,rfl⟩|⟨a,rfl⟩
  ·rw [hear0,if_pos a]
  ·rw [hear0,if_neg a,set_same hg]
 subst h3
 have h0i:okItms (hear0 g x).items:=by
  rw [hear0];split
  ·exact ⟨by simp,by simp⟩
  ·exact hgi
 clear h1 hb hbi hk
 generalize hear0 g x=h0 at *
 have hgS:∀y,(B.set p y)[p]?=some y:=fun y=>List.getElem?_set_self hp
 simp only [hgS,List.set_set,List.length_set,Option.some.injEq,forall_eq',exists_eq_left',and_true,exists_const,forall_const]
 have hln:∀g,(Go.Proofs.YtkanhopflelmdaaGreatDoor.without g h0.items).length≤900000:=fun g=>Nat.le_trans (List.length_filter_le _ _) h0i.1
 have hsl:x.kind=2→x.srcs.length≤1000000:=fun K=>by
  have:=(sig_told hx e1).2.2 K
  have:=srcs_len this.2.2
  omega
 have hd:hear1 h0 x=if (x.kind==2)=true∧(x.epoch==h0.epoch)=true∧x.prev≤h0.ver∧h0.ver<x.ver then ⟨h0.router,h0.epoch,x.ver,put1 h0.items (sigItm x)⟩ else h0:=by
  rw [hear1];simp only [beq_iff_eq]
 rw [hd] at fin
 rw [fin]
 have hw:=hln x.grp
 have hsl:(x.kind==2)=true→x.srcs.length≤1000000:=fun K=>hsl (by simpa using K)
 clear fin hd hg hgi h3 hc hs
 cases kb:x.kind==2
 ·simp [hp]
 cases eb:x.epoch==h0.epoch
 ·simp [hp]
 by_cases P:x.prev≤h0.ver
 ·by_cases V:h0.ver<x.ver
  ·simp [hp,P,V,h0i,hsl kb,put1,sigItm]
   omega
  ·simp [hp,P,V]
 ·simp [hp,P]
def hear_c(l:Lsn)(x:Sig):PC Tryz.prog:=⟨61,[(.a [.k,.k,(.s 4)]),(.a [.k,.k,.k,.k,.k,.k,.k,.k,.k,(.s 1)])],[.agg [.int l.router,.int l.epoch,.sl 4 (l.heard.map Hrd.v) false],.agg [.int x.kind,.int x.src,.int x.dst,.int x.epoch,.int x.ver,.int x.prev,.int x.pep,.int x.grp,.int x.mode,.sl 1 (x.srcs.map AV.int) false]],hearF_e ((hear l x).1.1,(hear l x).1.2,(hear l x).2),PSpec.of_ok fun ok=>(hearF_p l x ok).elim fun I1 h=>h.elim fun m1 h=>mxP_of (sh:=(.a [(.a [.k,.k,(.s 4)]),(.a [.k,.k,.k,.k,.k,.k,.k,.k,.k,(.s 1)]),.k])) (enc:=hearF_e) (a:=(hearF_x l x I1 m1).an) h (by kernel_rfl) (AV.pureB_ok rfl),fnB_ok (by kernel_rfl)⟩
def wantsTF_a(L:(List Int))(p:Nat):Prop:=okL [.ref 0 0]∧(.box (.agg [.sl 1 (L.map AV.int) false,.int ((p:Nat):Int)]):Blk).ok
def wantsTF_n0(L:(List Int))(t0:Int×Nat×(List Wnt)):NF:=⟨[(0,.k,.ref 0 0),(3,.k,.vec 1),(4,.k,.int t0.1)],[.box (.agg [.sl 1 (L.map AV.int) false,.int ((t0.2.1:Nat):Int)]),.vec 3 (t0.2.2.map Wnt.v) (pureBL_map (fun _=>rfl) t0.2.2)]⟩
@[reducible] def wantsTF_s:Nat→Type
 | 0=>Int×Nat×(List Wnt)
 | _=>Unit
def wantsTF_e(r:Tap×(List Wnt)):AV:=.sl 3 (r.2.map Wnt.v) false
def wantsTF_b(r:Tap×(List Wnt)):List (Option Blk):=[some (.box (.agg [.sl 1 (r.1.L.map AV.int) false,.int ((r.1.p:Nat):Int)]))]
def wantsTF_x(L:(List Int))(p:Nat)(I0:(Int×Nat×(List Wnt))→Prop)(m0:(Int×Nat×(List Wnt))→Nat):Ax Tryz.prog wantsTF_s (Tap×(List Wnt)):=
 (.cmdL (.nilT 3 3) (.loop 0 (wantsTF_n0 L) I0 m0 (1,p,[]) [0,49] fun (t0:Int×Nat×(List Wnt)) b0 =>
(.br 34 (decide (t0.1≤6)) (.callH [0] (filterT_h L t0.2.1) 50
(.callH [0] (N_h L ((filterT L t0.2.1).2) 2) 114
(.br 162 ((Mod (rawV L ((filterT L t0.2.1).2)) 2)==0) (.br 226 (((filterT L t0.2.1).1).mode==2) (.say (fun R=>Rf (α:=List AV) (t0.2.2.map Wnt.v) (Rf (α:=List AV) [.agg [.int t0.1,.int (((filterT L t0.2.1).1).mode),.sl 1 ((((filterT L t0.2.1).1).srcs).map AV.int) false]]
(ck (decide (t0.2.2.length+1≤1000000))
R))) (.app 402 Wnt.v t0.2.2 [(⟨t0.1,((filterT L t0.2.1).1).mode,((filterT L t0.2.1).1).srcs⟩:Wnt)]
(.bk 0 b0 (W (t0.1+1),rawP L ((filterT L t0.2.1).2),t0.2.2++[(⟨t0.1,((filterT L t0.2.1).1).mode,((filterT L t0.2.1).1).srcs⟩:Wnt)]) [0,402])))
(.br 322 (decide (0<(((((filterT L t0.2.1).1).srcs).map AV.int).length:Int))) (.say (fun R=>Rf (α:=List AV) (t0.2.2.map Wnt.v) (Rf (α:=List AV) [.agg [.int t0.1,.int (((filterT L t0.2.1).1).mode),.sl 1 ((((filterT L t0.2.1).1).srcs).map AV.int) false]]
(ck (decide (t0.2.2.length+1≤1000000))
R))) (.app 402 Wnt.v t0.2.2 [(⟨t0.1,((filterT L t0.2.1).1).mode,((filterT L t0.2.1).1).srcs⟩:Wnt)]
(.bk 0 b0 (W (t0.1+1),rawP L ((filterT L t0.2.1).2),t0.2.2++[(⟨t0.1,((filterT L t0.2.1).1).mode,((filterT L t0.2.1).1).srcs⟩:Wnt)]) [0,402])))
(.bk 0 b0 (W (t0.1+1),rawP L ((filterT L t0.2.1).2),t0.2.2) [0,1])))
(.bk 0 b0 (W (t0.1+1),rawP L ((filterT L t0.2.1).2),t0.2.2) [0,1]))))
(.say (Rf (t0.2.2.map Wnt.v)) (.cmdL (.frzE 1 (t0.2.2.map Wnt.v) (pureBL_map (fun _=>rfl) t0.2.2)) (.retH ((⟨L,t0.2.1⟩:Tap),t0.2.2) ⟨[(2,.k,.sl 3 (t0.2.2.map Wnt.v) false)],[.box (.agg [.sl 1 (L.map AV.int) false,.int ((t0.2.1:Nat):Int)])]⟩ [0]))))))
def wantsTF_vc(L:(List Int))(p:Nat)(I0:(Int×Nat×(List Wnt))→Prop)(m0:(Int×Nat×(List Wnt))→Nat)(r0:Tap×(List Wnt)):Prop:=(wantsTF_x L p I0 m0).vc wantsTF_e wantsTF_b r0
theorem wantsTF_p(L:List Int)(p:Nat)(ok:wantsTF_a L p):∃I m,wantsTF_vc L p I m (⟨L,(wantsT L p).2⟩,(wantsT L p).1):=by
 refine ⟨fun t=>∃k:Nat,t.1=((k+1:Nat):Int)∧k≤6∧wantsL L (6-k) t.1 t.2.2 t.2.1=wantsT L p∧t.2.2.length≤k,fun t=>7-t.1.toNat,?_⟩
 dsimp only [wantsTF_vc,wantsTF_x,wantsTF_s,Ax.vp,Ax.vc];simp only [vcU,rfU,List.length_map]
 refine ⟨⟨0,rfl,by omega,rfl,by simp⟩,?_⟩
 rintro ⟨_,q,out⟩ ⟨k,rfl,hk,h,hl⟩
 simp only at h hl
 refine ⟨fun h1=>?_,fun h1=>?_⟩
 ·have h1:k<6:=by simp only at h1;omega
  rw [show 6-k=(6-(k+1))+1 by omega,wantsL] at h
  simp only [W_succ (k:=k+1) (n:=7) (by omega) (by omega)]
  have hg:((k+1:Nat):Int)+1=((k+1+1:Nat):Int):=by omega
  rw [hg] at h
  have put:Mod (rawV L (filterT L q).2) 2=0∧((filterT L q).1.mode=2∨(filterT L q).1.srcs≠[]) →
    wNew L q ((k+1:Nat):Int) out=out++[⟨((k+1:Nat):Int),(filterT L q).1.mode,(filterT L q).1.srcs⟩]:=fun c=>by rw [wNew,if_pos c]
  have no:¬(Mod (rawV L (filterT L q).2) 2=0∧((filterT L q).1.mode=2∨(filterT L q).1.srcs≠[]))→wNew L q ((k+1:Nat):Int) out=out:=fun c=>by rw [wNew,if_neg c]
  refine ⟨fun c1=>⟨fun c2=>⟨by omega,⟨k+1,rfl,by omega,?_,by simp;omega⟩,by omega⟩,fun c2=>⟨fun c3=>⟨by omega,⟨k+1,rfl,by omega,?_,by simp;omega⟩,by omega⟩,fun c3=>⟨⟨k+1,rfl,by omega,?_,by omega⟩,by omega⟩⟩⟩,fun c1=>⟨⟨k+1,rfl,by omega,?_,by omega⟩,by omega⟩⟩
  ·rw [put ⟨by simpa using c1,.inl (by simpa using c2)⟩] at h;exact h
  ·rw [put ⟨by simpa using c1,.inr (fun e=>by rw [e] at c3;simp at c3)⟩] at h;exact h
  ·rw [no (fun ⟨_,e⟩=>by
    rcases e with e|e
    ·simp [e] at c2
    ·exact e (List.eq_nil_of_length_eq_zero (by omega)))] at h;exact h
  ·rw [no (fun ⟨e,_⟩=>by simp [e] at c1)] at h;exact h
 ·have h1:k=6:=by simp only at h1;omega
  subst h1
  rw [←h];rfl
def wantsT_h(L:(List Int))(p:Nat):HC Tryz.prog:=⟨14,[.k],[.ref 0 0],[.box (.agg [.sl 1 (L.map AV.int) false,.int ((p:Nat):Int)])],wantsTF_e (⟨L,(wantsT L p).2⟩,(wantsT L p).1),wantsTF_b (⟨L,(wantsT L p).2⟩,(wantsT L p).1),HSpec.of_okh fun ok ok2=>have ok:wantsTF_a L p:=⟨ok,ok2 _ (by simp)⟩;(wantsTF_p L p ok).elim fun I0 h=>h.elim fun m0 h=>mxH_of (sh:=(.s 3)) (enc:=wantsTF_e) (hB:=wantsTF_b) (a:=(wantsTF_x L p I0 m0).an) h (by kernel_rfl),fnB_ok (by kernel_rfl),HcOk.of (by simp [hcB,belBL,AV.belB,allB,okBk,okBkO,wantsTF_e,wantsTF_b,pureBL_map (v:=AV.int) (fun _=>rfl)])⟩
def checkR_a(l:(List Wnt))(changes:Bool):Prop:=okL [.sl 3 (l.map Wnt.v) false,.bool changes]
def checkR_n0(l:(List Wnt))(changes:Bool)(t0:Int):NF:=⟨[(0,.k,.sl 3 (l.map Wnt.v) false),(1,.k,.bool changes),(16,.k,.sl 3 (l.map Wnt.v) false),(17,.k,.int ((l.map Wnt.v).length:Int)),(18,.k,.int t0)],[]⟩
def checkR_n1(l:(List Wnt))(changes:Bool)(t1:Int):NF:=⟨[(0,.k,.sl 3 (l.map Wnt.v) false),(1,.k,.bool changes),(31,.k,.sl 3 (l.map Wnt.v) false),(32,.k,.int ((l.map Wnt.v).length:Int)),(33,.k,.int t1)],[]⟩
def checkR_n2(l:(List Wnt))(changes:Bool)(t2:Int):NF:=⟨[(0,.k,.sl 3 (l.map Wnt.v) false),(1,.k,.bool changes),(44,.k,.sl 3 (l.map Wnt.v) false),(45,.k,.int ((l.map Wnt.v).length:Int)),(46,.k,.int t2)],[]⟩
def checkR_n3(l:(List Wnt))(t3:Int):NF:=⟨[(0,.k,.sl 3 (l.map Wnt.v) false),(12,.k,.int t3)],[]⟩
@[reducible] def checkR_s:Nat→Type
 | 0=>Int
 | 1=>Int
 | 2=>Int
 | 3=>Int
 | _=>Unit
def checkR_e(r:Int):AV:=.int r
def checkR_x(l:(List Wnt))(changes:Bool)(I0:Int→Prop)(m0:Int→Nat)(I1:Int→Int→Prop)(m1:Int→Int→Nat)(I2:Int→Int→Int→Prop)(m2:Int→Int→Int→Nat)(I3:Int→Int→Int→Int→Prop)(m3:Int→Int→Int→Int→Nat):Ax Tryz.prog checkR_s (Int):=
 (.br 64 (decide (32<((l.map Wnt.v).length:Int))) (.ret (3))
(.loop 0 (checkR_n0 l changes) I0 m0 ((0):Int) [] fun (t0:Int) b0 =>
(.br 16 (decide (t0<((l.map Wnt.v).length:Int))) (.el 16 Wnt.v l (fun R=>Rf (l.map Wnt.v) (ck (decide (0≤t0)) (ck (decide (t0<(l.length:Int)))
(∀x1,l[t0.toNat]?=some x1 →
(R x1))))) fun x1 =>
(.br 144 (decide (x1.grp<1)) (.ret (2))
(.br 208 (decide (99<x1.grp)) (.ret (2))
(.bk 0 b0 ((W (t0+1)):Int) []))))
(.loop 1 (checkR_n1 l changes) (I1 t0) (m1 t0) ((0):Int) [] fun (t1:Int) b1 =>
(.br 16 (decide (t1<((l.map Wnt.v).length:Int))) (.el 16 Wnt.v l (fun R=>Rf (l.map Wnt.v) (ck (decide (0≤t1)) (ck (decide (t1<(l.length:Int)))
(∀x2,l[t1.toNat]?=some x2 →
(R x2))))) fun x2 =>
(.callP (FVal_c (⟨x2.mode,x2.srcs⟩:Flt))
(.br 176 ((fltErr (⟨x2.mode,x2.srcs⟩:Flt).mode (⟨x2.mode,x2.srcs⟩:Flt).srcs) != 0) (.ret (fltErr (⟨x2.mode,x2.srcs⟩:Flt).mode (⟨x2.mode,x2.srcs⟩:Flt).srcs))
(.bk 1 b1 ((W (t1+1)):Int) []))))
(.loop 2 (checkR_n2 l changes) (I2 t0 t1) (m2 t0 t1) ((0):Int) [] fun (t2:Int) b2 =>
(.br 16 (decide (t2<((l.map Wnt.v).length:Int))) (.el 16 Wnt.v l (fun R=>Rf (l.map Wnt.v) (ck (decide (0≤t2)) (ck (decide (t2<(l.length:Int)))
(∀x3,l[t2.toNat]?=some x3 →
(R x3))))) fun x3 =>
(.br 128 (!changes) (.callP (Nothing_c )
(.callP (FSame_c (⟨x3.mode,x3.srcs⟩:Flt) (⟨1,[]⟩:Flt))
(.br 208 (FSame (⟨x3.mode,x3.srcs⟩:Flt) (⟨1,[]⟩:Flt)) (.ret (1))
(.bk 2 b2 ((W (t2+1)):Int) []))))
(.bk 2 b2 ((W (t2+1)):Int) [])))
(.loop 3 (checkR_n3 l) (I3 t0 t1 t2) (m3 t0 t1 t2) ((1):Int) [] fun (t3:Int) b3 =>
(.br 64 (decide (t3<((l.map Wnt.v).length:Int))) (.el 112 Wnt.v l (fun R=>Rf (l.map Wnt.v) (ck (decide (0≤(W (t3-1)))) (ck (decide ((W (t3-1))<(l.length:Int)))
(∀x4,l[(W (t3-1)).toNat]?=some x4 →
(R x4))))) fun x4 =>
(.el 192 Wnt.v l (fun R=>Rf (l.map Wnt.v) (ck (decide (0≤t3)) (ck (decide (t3<(l.length:Int)))
(∀x5,l[t3.toNat]?=some x5 →
(R x5))))) fun x5 =>
(.br 256 (decide (x5.grp≤x4.grp)) (.ret (25))
(.bk 3 b3 ((W (t3+1)):Int) []))))
(.ret (0)))))))))))
def checkR_vc(l:(List Wnt))(changes:Bool)(I0:Int→Prop)(m0:Int→Nat)(I1:Int→Int→Prop)(m1:Int→Int→Nat)(I2:Int→Int→Int→Prop)(m2:Int→Int→Int→Nat)(I3:Int→Int→Int→Int→Prop)(m3:Int→Int→Int→Int→Nat)(r0:Int):Prop:=(checkR_x l changes I0 m0 I1 m1 I2 m2 I3 m3).vp checkR_e r0
theorem checkR_p(l:List Wnt)(chg:Bool)(ok:checkR_a l chg):∃I0 m0 I1 m1 I2 m2 I3 m3,checkR_vc l chg I0 m0 I1 m1 I2 m2 I3 m3 (wErr chg l):=by
 let R:Prop:=∀w∈l,1≤w.grp∧w.grp≤99
 let F:Prop:=∀w∈l,fltErr w.mode w.srcs=0
 let N:Prop:=chg=false→∀w∈l,¬isNoW w
 refine ⟨fun t=>∃k:Nat,t=k∧k≤l.length∧∀w∈l.take k,1≤w.grp∧w.grp≤99,fun t=>l.length-t.toNat,
  fun _ t=>R∧∃k:Nat,t=k∧k≤l.length∧∀w∈l.take k,fltErr w.mode w.srcs=0,fun _ t=>l.length-t.toNat,
  fun _ _ t=>R∧F∧∃k:Nat,t=k∧k≤l.length∧∀w∈l.take k,chg=false→¬isNoW w,fun _ _ t=>l.length-t.toNat,
  fun _ _ _ t=>R∧F∧N∧∃k:Nat,t=k∧1≤k∧k≤l.length+1∧∀j x y,j+1<k→l[j]?=some x→l[j+1]?=some y→x.grp<y.grp,fun _ _ _ t=>l.length+1-t.toNat,?_⟩
 dsimp only [checkR_vc,checkR_x,checkR_s,Ax.vp,Ax.vc];simp only [vcU,rfU,List.length_map]
 have hno:∀x:Wnt,FSame ⟨x.mode,x.srcs⟩ ⟨1,[]⟩=true↔isNoW x:=fun x=>by simp [FSame,isNoW]
 refine ⟨fun e=>by rw [wErr,if_pos (by omega)],fun e0=>⟨⟨0,rfl,by omega,by simp⟩,?_⟩⟩
 have e0:¬32<l.length:=by omega
 rintro _ ⟨k,rfl,hk,h⟩
 simp only [Int.toNat_natCast]
 refine ⟨fun h1=>⟨by omega,by omega,fun x hx=>?_⟩,fun h1=>?_⟩
 ·have bad:¬(1≤x.grp∧x.grp≤99)→2=wErr chg l:=fun h=>by
   rw [wErr,if_neg e0,if_pos fun h'=>h (h' x (mem_of_get hx))]
  refine ⟨fun e=>bad (by omega),fun e1=>⟨fun e=>bad (by omega),fun e2=>?_⟩⟩
  rw [W_succ (n:=l.length) (by omega) (by omega)]
  exact ⟨⟨k+1,rfl,by omega,all_take h hx ⟨by omega,by omega⟩⟩,by omega⟩
 rw [List.take_of_length_le (by omega)] at h
 have hR:R:=h
 have w1:wErr chg l=if wFErrs l≠0 then wFErrs l else if chg=false∧∃w∈l,isNoW w then 1 else if ¬(l.Pairwise fun x y=>x.grp<y.grp) then 25 else 0:=by
  rw [wErr,if_neg e0,if_neg (fun h=>h hR)]
 clear h h1 hk k
 refine ⟨⟨hR,0,rfl,by omega,by simp⟩,?_⟩
 rintro _ ⟨-,k,rfl,hk,h⟩
 simp only [Int.toNat_natCast]
 refine ⟨fun h1=>⟨by omega,by omega,fun x hx=>⟨fun e=>?_,fun e=>?_⟩⟩,fun h1=>?_⟩
 ·have e:fltErr x.mode x.srcs≠0:=by simpa using e
  have:wFErrs l=fltErr x.mode x.srcs:=orI_at (f:=fun x:Wnt=>fltErr x.mode x.srcs) h hx e
  rw [w1,this,if_pos e]
 ·rw [W_succ (n:=l.length) (by omega) (by omega)]
  exact ⟨⟨hR,k+1,rfl,by omega,all_take h hx (by simpa using e)⟩,by omega⟩
 rw [List.take_of_length_le (by omega)] at h
 have hF:F:=h
 have w2:wErr chg l=if chg=false∧∃w∈l,isNoW w then 1 else if ¬(l.Pairwise fun x y=>x.grp<y.grp) then 25 else 0:=by
  rw [w1,if_neg (fun hh=>hh (orI_all hF))]
 clear h h1 hk k
 refine ⟨⟨hR,hF,0,rfl,by omega,by simp⟩,?_⟩
 rintro _ ⟨-,-,k,rfl,hk,h⟩
 simp only [Int.toNat_natCast]
 refine ⟨fun h1=>⟨by omega,by omega,fun x hx=>?_⟩,fun h1=>?_⟩
 ·have step:(chg=false→¬isNoW x)→(R∧F∧∃k':Nat,W ((k:Int)+1)=k'∧k'≤l.length∧∀w∈l.take k',chg=false→¬isNoW w)∧l.length-(W ((k:Int)+1)).toNat<l.length-k:=by
   intro hs
   rw [W_succ (n:=l.length) (by omega) (by omega)]
   exact ⟨⟨hR,hF,k+1,rfl,by omega,all_take h hx hs⟩,by omega⟩
  refine ⟨fun e=>⟨fun e2=>?_,fun e2=>step fun _ hn=>?_⟩,fun e=>step fun hc=>?_⟩
  ·rw [w2,if_pos ⟨by simpa using e,x,mem_of_get hx,(hno x).mp e2⟩]
  ·rw [(hno x).mpr hn] at e2;cases e2
  ·simp [hc] at e
 rw [List.take_of_length_le (by omega)] at h
 have hN:N:=fun hc w hw=>h w hw hc
 have w3:wErr chg l=if ¬(l.Pairwise fun x y=>x.grp<y.grp) then 25 else 0:=by
  rw [w2,if_neg (fun ⟨hc,w,hw,hn⟩=>hN hc w hw hn)]
 clear h h1 hk k
 refine ⟨⟨hR,hF,hN,1,rfl,by omega,by omega,fun j x y hj=>by omega⟩,?_⟩
 rintro _ ⟨-,-,-,k,rfl,hk1,hk,h⟩
 refine ⟨fun h1=>?_,fun h1=>?_⟩
 ·rw [W_pred (by omega) hk1]
  simp only [Int.toNat_natCast]
  refine ⟨by omega,by omega,fun x hx=>⟨by omega,by omega,fun y hy=>⟨fun e=>?_,fun e=>?_⟩⟩⟩
  ·rw [w3,if_pos]
   intro hp
   have:x.grp<y.grp:=pw_get hp (show k-1<k by omega) hx hy
   omega
  ·rw [W_succ (n:=l.length) (by omega) (by omega)]
   refine ⟨⟨hR,hF,hN,k+1,rfl,by omega,by omega,fun j x' y' hj hx' hy'=>?_⟩,by omega⟩
   by_cases e':j+1=k
   ·subst e'
    rw [show j+1-1=j by omega,hx'] at hx;cases hx
    rw [hy'] at hy;cases hy;omega
   ·exact h j x' y' (by omega) hx' hy'
 ·rw [w3,if_neg]
  exact fun hh=>hh (pw_adj fun j x y hx hy=>h j x y (by have:=lt_of_get hy;omega) hx hy)
def checkR_c(l:(List Wnt))(changes:Bool):PC Tryz.prog:=⟨119,[(.s 3),.k],[.sl 3 (l.map Wnt.v) false,.bool changes],checkR_e (wErr changes l),PSpec.of_ok fun ok=>(checkR_p l changes ok).elim fun I0 h=>h.elim fun m0 h=>h.elim fun I1 h=>h.elim fun m1 h=>h.elim fun I2 h=>h.elim fun m2 h=>h.elim fun I3 h=>h.elim fun m3 h=>mxP_of (sh:=.k) (enc:=checkR_e) (a:=(checkR_x l changes I0 m0 I1 m1 I2 m2 I3 m3).an) h (by kernel_rfl) (AV.pureB_ok rfl),fnB_ok (by kernel_rfl)⟩
def valR_a(l:(List Wnt)):Prop:=okL [.sl 3 (l.map Wnt.v) false]
def valR_e(r:Int):AV:=.int r
def valR_x(l:(List Wnt)):Ax Tryz.prog noS (Int):=
 (.callP (checkR_c l false)
(.ret (wErr false l)))
def valR_vc(l:(List Wnt))(r0:Int):Prop:=(valR_x l).vp valR_e r0
theorem valR_p(l:List Wnt)(ok:valR_a l):valR_vc l (wErr false l):=by
 dsimp only [valR_vc,valR_x,noS,Ax.vp,Ax.vc];simp only [vcU,rfU,List.length_map]
def valR_c(l:(List Wnt)):PC Tryz.prog:=⟨52,[(.s 3)],[.sl 3 (l.map Wnt.v) false],valR_e (wErr false l),PSpec.of_ok fun ok=>mxP_of (sh:=.k) (enc:=valR_e) (a:=(valR_x l).an) (valR_p l ok) (by kernel_rfl) (AV.pureB_ok rfl),fnB_ok (by kernel_rfl)⟩
def findR_a(l:(List Wnt))(group:Int):Prop:=okL [.sl 3 (l.map Wnt.v) false,.int group]
def findR_n0(l:(List Wnt))(group:Int)(t0:Int):NF:=⟨[(1,.k,.int group),(4,.k,.ref 0 0),(7,.k,.sl 3 (l.map Wnt.v) false),(8,.k,.int ((l.map Wnt.v).length:Int)),(9,.k,.int t0)],[.box (.agg [.int 0,.sl 0 [] true])]⟩
@[reducible] def findR_s:Nat→Type
 | 0=>Int
 | _=>Unit
def findR_e(r:Flt):AV:=Flt.v r
def findR_x(l:(List Wnt))(group:Int)(I0:Int→Prop)(m0:Int→Nat):Ax Tryz.prog findR_s (Flt):=
 (.loop 0 (findR_n0 l group) I0 m0 ((0):Int) [0] fun (t0:Int) b0 =>
(.br 17 (decide (t0<((l.map Wnt.v).length:Int))) (.el 17 Wnt.v l (fun R=>Rf (l.map Wnt.v) (ck (decide (0≤t0)) (ck (decide (t0<(l.length:Int)))
(∀x1,l[t0.toNat]?=some x1 →
(R x1))))) fun x1 =>
(.br 145 (x1.grp==group) (.ret ((⟨x1.mode,x1.srcs⟩:Flt)))
(.bk 0 b0 ((W (t0+1)):Int) [0])))
(.callP (Nothing_c )
(.ret ((⟨1,[]⟩:Flt))))))
def findR_vc(l:(List Wnt))(group:Int)(I0:Int→Prop)(m0:Int→Nat)(r0:Flt):Prop:=(findR_x l group I0 m0).vp findR_e r0
theorem findR_p(l:List Wnt)(g:Int)(ok:findR_a l g):∃I m,findR_vc l g I m (findW l g):=by
 simp only [findR_a,okU,Blk.ok,plainV,List.length_map] at ok
 refine ⟨fun t=>∃k:Nat,t=k∧k≤l.length∧∀x∈l.take k,decide (x.grp=g)=false,fun t=>l.length-t.toNat,?_⟩
 dsimp only [findR_vc,findR_x,findR_s,Ax.vp,Ax.vc];simp only [vcU,rfU,List.length_map]
 refine ⟨⟨0,rfl,by omega,by simp⟩,?_⟩
 rintro _ ⟨k,rfl,hk,h⟩
 simp only [Int.toNat_natCast]
 have h:∀x∈l.take k,decide (x.grp=g)=false:=fun x hx=>decide_eq_false (h x hx)
 refine ⟨fun h1=>⟨by omega,by omega,fun x hx=>⟨fun e=>?_,fun e=>?_⟩⟩,fun h1=>?_⟩
 ·rw [findW,find_at h hx (by simpa using e)]
 ·rw [W_succ (n:=l.length) (by omega) (by omega)]
  refine ⟨⟨k+1,rfl,by omega,?_⟩,by omega⟩
  rw [take_succ hx]
  intro z hz
  rcases List.mem_append.mp hz with hz|hz
  ·simpa using h z hz
  ·rw [List.mem_singleton] at hz;subst hz;simpa using e
 ·rw [List.take_of_length_le (by omega)] at h
  rw [findW,List.find?_eq_none.mpr fun x hx=>by rw [h x hx];simp]
def findR_c(l:(List Wnt))(group:Int):PC Tryz.prog:=⟨120,[(.s 3),.k],[.sl 3 (l.map Wnt.v) false,.int group],findR_e (findW l group),PSpec.of_ok fun ok=>(findR_p l group ok).elim fun I0 h=>h.elim fun m0 h=>mxP_of (sh:=(.a [.k,(.s 1)])) (enc:=findR_e) (a:=(findR_x l group I0 m0).an) h (by kernel_rfl) (AV.pureB_ok rfl),fnB_ok (by kernel_rfl)⟩
def chgsR_a(old:(List Wnt))(new:(List Wnt)):Prop:=okL [.sl 3 (old.map Wnt.v) false,.sl 3 (new.map Wnt.v) false]
def chgsR_n0(old:(List Wnt))(new:(List Wnt))(t0:Int×(List Wnt)):NF:=⟨[(0,.k,.sl 3 (old.map Wnt.v) false),(1,.k,.sl 3 (new.map Wnt.v) false),(8,.k,.vec 0),(9,.k,.int t0.1)],[.vec 3 (t0.2.map Wnt.v) (pureBL_map (fun _=>rfl) t0.2)]⟩
@[reducible] def chgsR_s:Nat→Type
 | 0=>Int×(List Wnt)
 | _=>Unit
def chgsR_e(r:(List Wnt)×Int):AV:=.tup [.sl 3 (r.1.map Wnt.v) false,.int r.2]
def chgsR_x(old:(List Wnt))(new:(List Wnt))(I0:(Int×(List Wnt))→Prop)(m0:(Int×(List Wnt))→Nat):Ax Tryz.prog chgsR_s ((List Wnt)×Int):=
 (.callP (valR_c old)
(.br 112 ((wErr false old) != 0) (.ret ([],wErr false old))
(.callP (valR_c new)
(.br 192 ((wErr false new) != 0) (.ret ([],wErr false new))
(.cmdL (.nilT 8 3) (.loop 0 (chgsR_n0 old new) I0 m0 (1,[]) [224] fun (t0:Int×(List Wnt)) b0 =>
(.br 33 (decide (t0.1≤99)) (.callP (findR_c new t0.1)
(.callP (findR_c old t0.1)
(.callP (FSame_c (findW new t0.1) (findW old t0.1))
(.br 209 (!(FSame (findW new t0.1) (findW old t0.1))) (.say (fun R=>Rf (α:=List AV) (t0.2.map Wnt.v) (Rf (α:=List AV) [.agg [.int t0.1,.int ((findW new t0.1).mode),.sl 1 (((findW new t0.1).srcs).map AV.int) false]]
(ck (decide (t0.2.length+1≤1000000))
R))) (.app 289 Wnt.v t0.2 [(⟨t0.1,(findW new t0.1).mode,(findW new t0.1).srcs⟩:Wnt)]
(.bk 0 b0 (W (t0.1+1),t0.2++[(⟨t0.1,(findW new t0.1).mode,(findW new t0.1).srcs⟩:Wnt)]) [289])))
(.bk 0 b0 (W (t0.1+1),t0.2) [0])))))
(.br 81 (decide (32<((t0.2.map Wnt.v).length:Int))) (.ret ([],3))
(.say (Rf (t0.2.map Wnt.v)) (.cmdL (.frzE 0 (t0.2.map Wnt.v) (pureBL_map (fun _=>rfl) t0.2)) (.ret (t0.2,0))))))))))))
def chgsR_vc(old:(List Wnt))(new:(List Wnt))(I0:(Int×(List Wnt))→Prop)(m0:(Int×(List Wnt))→Nat)(r0:(List Wnt)×Int):Prop:=(chgsR_x old new I0 m0).vp chgsR_e r0
theorem chgsR_p(a b:List Wnt)(ok:chgsR_a a b):∃I m,chgsR_vc a b I m (changes a b):=by
 refine ⟨fun t=>∃k:Nat,t=(((k+1:Nat):Int),chgsTo a b k)∧k≤99,fun t=>100-t.1.toNat,?_⟩
 dsimp only [chgsR_vc,chgsR_x,chgsR_s,Ax.vp,Ax.vc];simp only [vcU,rfU,List.length_map]
 by_cases h1:wErr false a=0
 case neg=>simp [changes,h1]
 by_cases h2:wErr false b=0
 case neg=>simp [changes,h1,h2]
 have e:changes a b=if 32<(chgsTo a b 99).length then ([],3) else (chgsTo a b 99,0):=by
  rw [changes,if_neg (not_not_intro h1),if_neg (not_not_intro h2)]
 refine ⟨fun c=>by simp [h1] at c,fun _=>⟨fun c=>by simp [h2] at c,fun _=>⟨⟨0,rfl,by omega⟩,?_⟩⟩⟩
 rintro _ ⟨k,rfl,hk⟩
 have hl:=chgsTo_len a b k
 refine ⟨fun c=>?_,fun c=>?_⟩
 ·have c:k<99:=by simp only at c;omega
  simp only [W_succ (k:=k+1) (n:=100) (by omega) (by omega)]
  refine ⟨fun d=>⟨by omega,⟨k+1,?_,by omega⟩,by omega⟩,fun d=>⟨⟨k+1,?_,by omega⟩,by omega⟩⟩
  ·rw [chgsTo,chgs1,if_neg (by simpa [FSame] using d)];rfl
  ·rw [chgsTo,chgs1,if_pos (by simpa [FSame] using d),List.append_nil]
 ·have c:k=99:=by simp only at c;omega
  subst c
  rw [e]
  simp only
  refine ⟨fun d=>by rw [if_pos (by omega)],fun d=>by rw [if_neg (by omega)]⟩
def chgsR_c(old:(List Wnt))(new:(List Wnt)):PC Tryz.prog:=⟨53,[(.s 3),(.s 3)],[.sl 3 (old.map Wnt.v) false,.sl 3 (new.map Wnt.v) false],chgsR_e (changes old new),PSpec.of_ok fun ok=>(chgsR_p old new ok).elim fun I0 h=>h.elim fun m0 h=>mxP_of (sh:=(.a [(.s 3),.k])) (enc:=chgsR_e) (a:=(chgsR_x old new I0 m0).an) h (by kernel_rfl) (AV.pureB_ok rfl),fnB_ok (by kernel_rfl)⟩
def sameI_a(a:(List Itm))(b:(List Itm)):Prop:=okL [.sl 4 (a.map Itm.v) false,.sl 4 (b.map Itm.v) false]
def sameI_n0(a:(List Itm))(b:(List Itm))(t0:Int):NF:=⟨[(0,.k,.sl 4 (a.map Itm.v) false),(1,.k,.sl 4 (b.map Itm.v) false),(5,.k,.int t0)],[]⟩
@[reducible] def sameI_s:Nat→Type
 | 0=>Int
 | _=>Unit
def sameI_e(r:Bool):AV:=.bool r
def sameI_x(a:(List Itm))(b:(List Itm))(I0:Int→Prop)(m0:Int→Nat):Ax Tryz.prog sameI_s (Bool):=
 (.br 96 (((a.map Itm.v).length:Int) != ((b.map Itm.v).length:Int)) (.ret (false))
(.loop 0 (sameI_n0 a b) I0 m0 ((0):Int) [] fun (t0:Int) b0 =>
(.br 64 (decide (t0<((a.map Itm.v).length:Int))) (.el 96 Itm.v a (fun R=>Rf (a.map Itm.v) (ck (decide (0≤t0)) (ck (decide (t0<(a.length:Int)))
(∀x1,a[t0.toNat]?=some x1 →
(R x1))))) fun x1 =>
(.el 176 Itm.v b (fun R=>Rf (b.map Itm.v) (ck (decide (0≤t0)) (ck (decide (t0<(b.length:Int)))
(∀x2,b[t0.toNat]?=some x2 →
(R x2))))) fun x2 =>
(.br 256 (x1.ver != x2.ver) (.ret (false))
(.el 288 Itm.v a (fun R=>Rf (a.map Itm.v) (ck (decide (0≤t0)) (ck (decide (t0<(a.length:Int)))
(∀x3,a[t0.toNat]?=some x3 →
(R x3))))) fun x3 =>
(.el 368 Itm.v b (fun R=>Rf (b.map Itm.v) (ck (decide (0≤t0)) (ck (decide (t0<(b.length:Int)))
(∀x4,b[t0.toNat]?=some x4 →
(R x4))))) fun x4 =>
(.br 464 (x3.grp != x4.grp) (.ret (false))
(.el 496 Itm.v a (fun R=>Rf (a.map Itm.v) (ck (decide (0≤t0)) (ck (decide (t0<(a.length:Int)))
(∀x5,a[t0.toNat]?=some x5 →
(R x5))))) fun x5 =>
(.el 576 Itm.v b (fun R=>Rf (b.map Itm.v) (ck (decide (0≤t0)) (ck (decide (t0<(b.length:Int)))
(∀x6,b[t0.toNat]?=some x6 →
(R x6))))) fun x6 =>
(.callP (FSame_c (⟨x5.mode,x5.srcs⟩:Flt) (⟨x6.mode,x6.srcs⟩:Flt))
(.br 672 (!(FSame (⟨x5.mode,x5.srcs⟩:Flt) (⟨x6.mode,x6.srcs⟩:Flt))) (.ret (false))
(.bk 0 b0 ((W (t0+1)):Int) [])))))))))))
(.ret (true)))))
def sameI_vc(a:(List Itm))(b:(List Itm))(I0:Int→Prop)(m0:Int→Nat)(r0:Bool):Prop:=(sameI_x a b I0 m0).vp sameI_e r0
theorem sameI_p(a b:List Itm)(ok:sameI_a a b):∃I m,sameI_vc a b I m (decide (a=b)):=by
 simp only [sameI_a,okU,Blk.ok,plainV,List.length_map] at ok
 refine ⟨fun t=>∃k:Nat,t=k∧k≤a.length∧a.take k=b.take k,fun t=>a.length-t.toNat,?_⟩
 dsimp only [sameI_vc,sameI_x,sameI_s,Ax.vp,Ax.vc];simp only [vcU,rfU,List.length_map]
 refine ⟨fun e=>(decide_eq_false fun h=>by subst h;simp at e).symm,fun e=>⟨⟨0,rfl,by omega,rfl⟩,?_⟩⟩
 have e:a.length=b.length:=by simp at e;omega
 rintro _ ⟨k,rfl,hk,h⟩
 simp only [Int.toNat_natCast]
 refine ⟨fun h1=>⟨by omega,by omega,fun x hx=>⟨by omega,by omega,fun y hy=>?_⟩⟩,fun h1=>?_⟩
 ·have bad:x≠y→false=decide (a=b):=fun hne=>(decide_eq_false fun hh=>by
   subst hh
   cases hx.symm.trans hy
   exact hne rfl).symm
  refine ⟨fun c=>bad fun q=>by subst q;simp at c,fun c=>⟨by omega,by omega,fun x2 hx2=>⟨by omega,by omega,fun y2 hy2=>?_⟩⟩⟩
  cases hx.symm.trans hx2
  cases hy.symm.trans hy2
  refine ⟨fun c2=>bad fun q=>by subst q;simp at c2,fun c2=>⟨by omega,by omega,fun x3 hx3=>⟨by omega,by omega,fun y3 hy3=>?_⟩⟩⟩
  cases hx.symm.trans hx3
  cases hy.symm.trans hy3
  refine ⟨fun c3=>bad fun q=>by subst q;simp [FSame] at c3,fun c3=>?_⟩
  have q:x=y:=by
   rw [Itm.eq_iff]
   have c3:FSame ⟨x.mode,x.srcs⟩ ⟨y.mode,y.srcs⟩=true:=by simpa using c3
   have c3:=flt_eq.mp (of_decide_eq_true c3)
   exact ⟨by simpa using c,by simpa using c2,c3⟩
  subst q
  rw [W_succ (n:=a.length) (by omega) (by omega)]
  exact ⟨⟨k+1,rfl,by omega,by rw [take_succ hx,take_succ hy,h]⟩,by omega⟩
 ·rw [List.take_of_length_le (by omega),List.take_of_length_le (by omega)] at h
  exact (decide_eq_true h).symm
def sameI_c(a:(List Itm))(b:(List Itm)):PC Tryz.prog:=⟨134,[(.s 4),(.s 4)],[.sl 4 (a.map Itm.v) false,.sl 4 (b.map Itm.v) false],sameI_e (decide (a=b)),PSpec.of_ok fun ok=>(sameI_p a b ok).elim fun I0 h=>h.elim fun m0 h=>mxP_of (sh:=.k) (enc:=sameI_e) (a:=(sameI_x a b I0 m0).an) h (by kernel_rfl) (AV.pureB_ok rfl),fnB_ok (by kernel_rfl)⟩
def appA(x:Wnt)(l:List Wnt):List Wnt:=l++[x]
def appB(y:Wnt)(l:List Wnt):List Wnt:=if noF ⟨y.mode,y.srcs⟩=true then l else l++[y]
def appC(x y:Wnt)(l:List Wnt):List Wnt:=appB y l
def appA_a(x:Wnt)(out:(List Wnt)):Prop:=okL [.rptr (.agg [.int x.grp,.int x.mode,.sl 1 (x.srcs.map AV.int) false]) 0,.val (.pointer none),.ref 0 0]∧(.box (.vec 1):Blk).ok∧(.vec 3 (out.map Wnt.v):Blk).ok
def appA_e(r:(List Wnt)):AV:=.tup []
def appA_b(r:(List Wnt)):List (Option Blk):=[some (.box (.vec 2)),none,some (.vec 3 (r.map Wnt.v))]
def appA_x(x:Wnt)(out:(List Wnt)):Ax Tryz.prog noS ((List Wnt)):=
 (.req 114 (x.srcs.length≤1000000) fun h1 =>
(.callP (copiedW_c x h1)
(.say (fun R=>Rf (α:=List AV) (out.map Wnt.v) (Rf (α:=List AV) [.agg [.int x.grp,.int x.mode,.sl 1 (x.srcs.map AV.int) false]]
(ck (decide (out.length+1≤1000000))
R))) (.app 146 Wnt.v out [x]
(.retH (out++[x]) ⟨[],[.box (.vec 2),.gone,.vec 3 ((out++[x]).map Wnt.v) (pureBL_map (fun _=>rfl) (out++[x]))]⟩ [0,1,146])))))
def appA_vc(x:Wnt)(out:(List Wnt))(r0:(List Wnt)):Prop:=(appA_x x out).vc appA_e appA_b r0
theorem appA_p(x:Wnt)(l:List Wnt)(h:x.srcs.length≤1000000)(hl:l.length≤900000)(ok:appA_a x l):appA_vc x l (appA x l):=by
 dsimp only [appA_vc,appA_x,noS,Ax.vp,Ax.vc];simp only [vcU,rfU,List.length_map]
 exact ⟨h,by omega,rfl⟩
def appA_h(x:Wnt)(out:(List Wnt))(h:x.srcs.length≤1000000)(hl:out.length≤900000):HC Tryz.prog:=⟨157,[.k,.k,.k],[.rptr (.agg [.int x.grp,.int x.mode,.sl 1 (x.srcs.map AV.int) false]) 0,.val (.pointer none),.ref 0 0],[.box (.vec 1),.vec 3 (out.map Wnt.v)],appA_e (appA x out),appA_b (appA x out),HSpec.of_okh fun ok ok2=>have ok:appA_a x out:=⟨ok,ok2 _ (by simp),ok2 _ (by simp)⟩;mxH_of (sh:=.k) (enc:=appA_e) (hB:=appA_b) (a:=(appA_x x out).an) (appA_p x out h hl ok) (by kernel_rfl),fnB_ok (by kernel_rfl),HcOk.of (by simp [hcB,belBL,AV.belB,allB,okBk,okBkO,appA_e,appA_b,pureBL_map (v:=AV.int) (fun _=>rfl),pureBL_map (v:=Wnt.v) (fun _=>rfl)])⟩
def appB_a(y:Wnt)(out:(List Wnt)):Prop:=okL [.val (.pointer none),.rptr (.agg [.int y.grp,.int y.mode,.sl 1 (y.srcs.map AV.int) false]) 0,.ref 0 0]∧(.box (.vec 1):Blk).ok∧(.vec 3 (out.map Wnt.v):Blk).ok
def appB_e(r:(List Wnt)):AV:=.tup []
def appB_b(r:(List Wnt)):List (Option Blk):=[some (.box (.vec 2)),none,some (.vec 3 (r.map Wnt.v))]
def appB_x(y:Wnt)(out:(List Wnt)):Ax Tryz.prog noS ((List Wnt)):=
 (.callP (noF_c (⟨y.mode,y.srcs⟩:Flt))
(.br 162 (!(noF (⟨y.mode,y.srcs⟩:Flt))) (.req 226 (y.srcs.length≤1000000) fun h1 =>
(.callP (copiedW_c y h1)
(.say (fun R=>Rf (α:=List AV) (out.map Wnt.v) (Rf (α:=List AV) [.agg [.int y.grp,.int y.mode,.sl 1 (y.srcs.map AV.int) false]]
(ck (decide (out.length+1≤1000000))
R))) (.app 258 Wnt.v out [y]
(.retH (out++[y]) ⟨[],[.box (.vec 2),.gone,.vec 3 ((out++[y]).map Wnt.v) (pureBL_map (fun _=>rfl) (out++[y]))]⟩ [0,1,258])))))
(.retH out ⟨[],[.box (.vec 2),.gone,.vec 3 (out.map Wnt.v) (pureBL_map (fun _=>rfl) out)]⟩ [0,1,1])))
def appB_vc(y:Wnt)(out:(List Wnt))(r0:(List Wnt)):Prop:=(appB_x y out).vc appB_e appB_b r0
theorem appB_p(y:Wnt)(l:List Wnt)(h:y.srcs.length≤1000000)(hl:l.length≤900000)(ok:appB_a y l):appB_vc y l (appB y l):=by
 dsimp only [appB_vc,appB_x,noS,Ax.vp,Ax.vc];simp only [vcU,rfU,List.length_map]
 refine ⟨fun e=>⟨h,by omega,?_⟩,fun e=>?_⟩
 ·rw [appB,if_neg (by simpa using e)]
 ·rw [appB,if_pos (by simpa using e)]
def appB_h(y:Wnt)(out:(List Wnt))(h:y.srcs.length≤1000000)(hl:out.length≤900000):HC Tryz.prog:=⟨157,[.k,.k,.k],[.val (.pointer none),.rptr (.agg [.int y.grp,.int y.mode,.sl 1 (y.srcs.map AV.int) false]) 0,.ref 0 0],[.box (.vec 1),.vec 3 (out.map Wnt.v)],appB_e (appB y out),appB_b (appB y out),HSpec.of_okh fun ok ok2=>have ok:appB_a y out:=⟨ok,ok2 _ (by simp),ok2 _ (by simp)⟩;mxH_of (sh:=.k) (enc:=appB_e) (hB:=appB_b) (a:=(appB_x y out).an) (appB_p y out h hl ok) (by kernel_rfl),fnB_ok (by kernel_rfl),HcOk.of (by simp [hcB,belBL,AV.belB,allB,okBk,okBkO,appB_e,appB_b,pureBL_map (v:=AV.int) (fun _=>rfl),pureBL_map (v:=Wnt.v) (fun _=>rfl)])⟩
def appC_a(x:Wnt)(y:Wnt)(out:(List Wnt)):Prop:=okL [.rptr (.agg [.int x.grp,.int x.mode,.sl 1 (x.srcs.map AV.int) false]) 0,.rptr (.agg [.int y.grp,.int y.mode,.sl 1 (y.srcs.map AV.int) false]) 0,.ref 0 0]∧(.box (.vec 1):Blk).ok∧(.vec 3 (out.map Wnt.v):Blk).ok
def appC_e(r:(List Wnt)):AV:=.tup []
def appC_b(r:(List Wnt)):List (Option Blk):=[some (.box (.vec 2)),none,some (.vec 3 (r.map Wnt.v))]
def appC_x(x:Wnt)(y:Wnt)(out:(List Wnt)):Ax Tryz.prog noS ((List Wnt)):=
 (.callP (noF_c (⟨y.mode,y.srcs⟩:Flt))
(.br 162 (!(noF (⟨y.mode,y.srcs⟩:Flt))) (.req 226 (y.srcs.length≤1000000) fun h1 =>
(.callP (copiedW_c y h1)
(.say (fun R=>Rf (α:=List AV) (out.map Wnt.v) (Rf (α:=List AV) [.agg [.int y.grp,.int y.mode,.sl 1 (y.srcs.map AV.int) false]]
(ck (decide (out.length+1≤1000000))
R))) (.app 258 Wnt.v out [y]
(.retH (out++[y]) ⟨[],[.box (.vec 2),.gone,.vec 3 ((out++[y]).map Wnt.v) (pureBL_map (fun _=>rfl) (out++[y]))]⟩ [0,1,258])))))
(.retH out ⟨[],[.box (.vec 2),.gone,.vec 3 (out.map Wnt.v) (pureBL_map (fun _=>rfl) out)]⟩ [0,1,1])))
def appC_vc(x:Wnt)(y:Wnt)(out:(List Wnt))(r0:(List Wnt)):Prop:=(appC_x x y out).vc appC_e appC_b r0
theorem appC_p(x y:Wnt)(l:List Wnt)(h:y.srcs.length≤1000000)(hl:l.length≤900000)(ok:appC_a x y l):appC_vc x y l (appC x y l):=by
 dsimp only [appC_vc,appC_x,noS,Ax.vp,Ax.vc];simp only [vcU,rfU,List.length_map]
 refine ⟨fun e=>⟨h,by omega,?_⟩,fun e=>?_⟩
 ·rw [appC,appB,if_neg (by simpa using e)]
 ·rw [appC,appB,if_pos (by simpa using e)]
def appC_h(x:Wnt)(y:Wnt)(out:(List Wnt))(h:y.srcs.length≤1000000)(hl:out.length≤900000):HC Tryz.prog:=⟨157,[.k,.k,.k],[.rptr (.agg [.int x.grp,.int x.mode,.sl 1 (x.srcs.map AV.int) false]) 0,.rptr (.agg [.int y.grp,.int y.mode,.sl 1 (y.srcs.map AV.int) false]) 0,.ref 0 0],[.box (.vec 1),.vec 3 (out.map Wnt.v)],appC_e (appC x y out),appC_b (appC x y out),HSpec.of_okh fun ok ok2=>have ok:appC_a x y out:=⟨ok,ok2 _ (by simp),ok2 _ (by simp)⟩;mxH_of (sh:=.k) (enc:=appC_e) (hB:=appC_b) (a:=(appC_x x y out).an) (appC_p x y out h hl ok) (by kernel_rfl),fnB_ok (by kernel_rfl),HcOk.of (by simp [hcB,belBL,AV.belB,allB,okBk,okBkO,appC_e,appC_b,pureBL_map (v:=AV.int) (fun _=>rfl),pureBL_map (v:=Wnt.v) (fun _=>rfl)])⟩
def mergA:List Wnt→List Wnt→List Wnt→List Wnt
 | [],[],l=>l
 | x::a,[],l=>mergA a [] (appA x l)
 | [],y::b,l=>mergA [] b (appB y l)
 | x::a,y::b,l=>if x.grp<y.grp then mergA a (y::b) (appA x l) else if y.grp<x.grp then mergA (x::a) b (appB y l) else mergA a b (appC x y l)
termination_by a b=>a.length+b.length
def okMrg(a b l:List Wnt):Prop:=a.length≤1000∧b.length≤1000∧l.length≤100000∧(∀x∈a,x.srcs.length≤1000000)∧∀x∈b,x.srcs.length≤1000000
def mergA_a(a:(List Wnt))(b:(List Wnt))(out:(List Wnt)):Prop:=okL [.sl 3 (a.map Wnt.v) false,.sl 3 (b.map Wnt.v) false,.func 157 [.ref 0 0]]∧(.box (.vec 1):Blk).ok∧(.vec 3 (out.map Wnt.v):Blk).ok
def mergA_n0(t0:(List Wnt)×(List Wnt)×(List Wnt)):NF:=⟨[(0,(.s 3),.sl 3 (t0.1.map Wnt.v) false),(1,(.s 3),.sl 3 (t0.2.1.map Wnt.v) false),(2,.k,.func 157 [.ref 0 0])],[.box (.vec 2),.gone,.vec 3 (t0.2.2.map Wnt.v) (pureBL_map (fun _=>rfl) t0.2.2)]⟩
def mergA_n1(t0:(List Wnt)×(List Wnt)×(List Wnt))(t1:Unit):NF:=⟨[(0,.k,.sl 3 (t0.1.map Wnt.v) false),(1,.k,.sl 3 (t0.2.1.map Wnt.v) false),(2,.k,.func 157 [.ref 0 0])],[.box (.vec 2),.gone,.vec 3 (t0.2.2.map Wnt.v) (pureBL_map (fun _=>rfl) t0.2.2)]⟩
def mergA_n2(t0:(List Wnt)×(List Wnt)×(List Wnt))(t2:Int):NF:=⟨[(0,.k,.sl 3 (t0.1.map Wnt.v) false),(1,.k,.sl 3 (t0.2.1.map Wnt.v) false),(2,.k,.func 157 [.ref 0 0]),(6,.k,.int t2)],[.box (.vec 2),.gone,.vec 3 (t0.2.2.map Wnt.v) (pureBL_map (fun _=>rfl) t0.2.2)]⟩
@[reducible] def mergA_s:Nat→Type
 | 0=>(List Wnt)×(List Wnt)×(List Wnt)
 | 1=>Unit
 | 2=>Int
 | _=>Unit
def mergA_e(r:(List Wnt)):AV:=.tup []
def mergA_b(r:(List Wnt)):List (Option Blk):=[some (.box (.vec 2)),none,some (.vec 3 (r.map Wnt.v))]
def mergA_x(a:(List Wnt))(b:(List Wnt))(out:(List Wnt))(I0:((List Wnt)×(List Wnt)×(List Wnt))→Prop)(m0:((List Wnt)×(List Wnt)×(List Wnt))→Nat):Ax Tryz.prog mergA_s ((List Wnt)):=
 (.loop 0 (mergA_n0) I0 m0 (a,b,out) [0,1,1] fun (t0:(List Wnt)×(List Wnt)×(List Wnt)) b0 =>
(.join 1 (mergA_n1 t0) (fun (t1:Unit)=>(bif (decide (0<((t0.1.map Wnt.v).length:Int))) then true else (bif (decide (0<((t0.2.1.map Wnt.v).length:Int))) then true else false))=true) (fun b1=>(.br 67 (decide (0<((t0.1.map Wnt.v).length:Int))) (.bk 1 b1 ((()):Unit) [0,1,2])
(.br 131 (decide (0<((t0.2.1.map Wnt.v).length:Int))) (.bk 1 b1 ((()):Unit) [0,1,2])
(.retH t0.2.2 ⟨[],[.box (.vec 2),.gone,.vec 3 (t0.2.2.map Wnt.v) (pureBL_map (fun _=>rfl) t0.2.2)]⟩ [0,1,2])))) fun (t1:Unit) =>
(.pass (.join 2 (mergA_n2 t0) (fun (t2:Int)=>((((t0.1.map Wnt.v).length:Int)==0)=true∧t2=((1):Int))∨((((t0.1.map Wnt.v).length:Int)==0)=false∧(((t0.2.1.map Wnt.v).length:Int)==0)=true∧t2=((-1):Int))∨((((t0.1.map Wnt.v).length:Int)==0)=false∧(((t0.2.1.map Wnt.v).length:Int)==0)=false∧∃x1':Wnt,t0.1[0]?=some x1'∧∃x2':Wnt,t0.2.1[0]?=some x2'∧t2=((cmpI x1'.grp x2'.grp):Int))) (fun b2=>(.br 83 (((t0.1.map Wnt.v).length:Int)==0) (.bk 2 b2 ((1):Int) [0,1,2])
(.br 147 (((t0.2.1.map Wnt.v).length:Int)==0) (.bk 2 b2 ((-1):Int) [0,1,2])
(.el 163 Wnt.v t0.1 (fun R=>Rf (t0.1.map Wnt.v) (ck (decide (0<(t0.1.length:Int)))
(∀x1,t0.1[0]?=some x1 →
(R x1)))) fun x1 =>
(.el 227 Wnt.v t0.2.1 (fun R=>Rf (t0.2.1.map Wnt.v) (ck (decide (0<(t0.2.1.length:Int)))
(∀x2,t0.2.1[0]?=some x2 →
(R x2)))) fun x2 =>
(.callP (cmpI_c x1.grp x2.grp)
(.bk 2 b2 ((cmpI x1.grp x2.grp):Int) [0,1,2]))))))) fun (t2:Int) =>
(.br 67 (decide (t2≤0)) (.el 83 Wnt.v t0.1 (fun R=>Rf (t0.1.map Wnt.v) (ck (decide (0<(t0.1.length:Int)))
(∀x3,t0.1[0]?=some x3 →
(R x3)))) fun x3 =>
(.say (fun R=>Rf (α:=List AV) (t0.1.map Wnt.v) (ck (bndB t0.1.length 1 (t0.1.length:Int) (t0.1.length:Int))
R)) (.sub 115 Wnt.v t0.1 false
(.br 195 (decide (0≤t2)) (.el 211 Wnt.v t0.2.1 (fun R=>Rf (t0.2.1.map Wnt.v) (ck (decide (0<(t0.2.1.length:Int)))
(∀x4,t0.2.1[0]?=some x4 →
(R x4)))) fun x4 =>
(.say (fun R=>Rf (α:=List AV) (t0.2.1.map Wnt.v) (ck (bndB t0.2.1.length 1 (t0.2.1.length:Int) (t0.2.1.length:Int))
R)) (.sub 243 Wnt.v t0.2.1 false
(.req 339 (x4.srcs.length≤1000000) fun h5 =>
(.req 339 (t0.2.2.length≤900000) fun h6 =>
(.callH [0,2] (appC_h x3 x4 t0.2.2 h5 h6) 339
(.bk 0 b0 ((t0.1.take ((t0.1.length:Int).toNat)).drop 1,(t0.2.1.take ((t0.2.1.length:Int).toNat)).drop 1,appC x3 x4 t0.2.2) [0,1,339])))))))
(.req 243 (x3.srcs.length≤1000000) fun h7 =>
(.req 243 (t0.2.2.length≤900000) fun h8 =>
(.callH [0,2] (appA_h x3 t0.2.2 h7 h8) 243
(.bk 0 b0 ((t0.1.take ((t0.1.length:Int).toNat)).drop 1,t0.2.1,appA x3 t0.2.2) [0,1,243]))))))))
(.br 99 (decide (0≤t2)) (.el 115 Wnt.v t0.2.1 (fun R=>Rf (t0.2.1.map Wnt.v) (ck (decide (0<(t0.2.1.length:Int)))
(∀x9,t0.2.1[0]?=some x9 →
(R x9)))) fun x9 =>
(.say (fun R=>Rf (α:=List AV) (t0.2.1.map Wnt.v) (ck (bndB t0.2.1.length 1 (t0.2.1.length:Int) (t0.2.1.length:Int))
R)) (.sub 147 Wnt.v t0.2.1 false
(.req 243 (x9.srcs.length≤1000000) fun h10 =>
(.req 243 (t0.2.2.length≤900000) fun h11 =>
(.callH [0,2] (appB_h x9 t0.2.2 h10 h11) 243
(.bk 0 b0 (t0.1,(t0.2.1.take ((t0.2.1.length:Int).toNat)).drop 1,appB x9 t0.2.2) [0,1,243])))))))
(.say (fun _=>False) .nil)))))))
def mergA_vc(a:(List Wnt))(b:(List Wnt))(out:(List Wnt))(I0:((List Wnt)×(List Wnt)×(List Wnt))→Prop)(m0:((List Wnt)×(List Wnt)×(List Wnt))→Nat)(r0:(List Wnt)):Prop:=(mergA_x a b out I0 m0).vc mergA_e mergA_b r0
theorem appB_len(y:Wnt)(o:List Wnt):(appB y o).length≤o.length+1:=by unfold appB;split<;>simp
theorem bnd1(n:Nat):bndB (n+1) 1 ((n:Int)+1) ((n:Int)+1)=true:=by simp [bndB];omega
theorem mergA_p(a b l:List Wnt)(h:okMrg a b l)(ok:mergA_a a b l):∃I m,mergA_vc a b l I m (mergA a b l):=by
 obtain ⟨h1,h2,h3,h4,h5⟩:=h
 refine ⟨fun t=>mergA t.1 t.2.1 t.2.2=mergA a b l∧t.1.length+t.2.1.length+t.2.2.length≤102000∧(∀x∈t.1,x.srcs.length≤1000000)∧∀x∈t.2.1,x.srcs.length≤1000000,fun t=>t.1.length+t.2.1.length,?_⟩
 dsimp only [mergA_vc,mergA_x,mergA_s,Ax.vp,Ax.vc];simp only [vcU,rfU,List.length_map]
 refine ⟨⟨trivial,by omega,h4,h5⟩,?_⟩
 rintro ⟨A,B,o⟩ ⟨hm,hl,hA,hB⟩
 clear ok
 simp only at hm hl hA hB
 cases A with
 | nil=>cases B with
  | nil =>
   simp
   rw [←hm,mergA]
  | cons y B =>
   simp [bnd1]
   have hb:=appB_len y o
   rw [mergA] at hm
   simp only [List.length_cons,List.length_nil] at hl
   exact ⟨hm,by omega,by omega,hB y (by simp),fun z hz=>hB z (by simp [hz])⟩
 | cons x A =>
  have ea:¬((A.length:Int)+1=0):=by omega
  cases B with
  | nil =>
   simp [bnd1,ea]
   rw [mergA] at hm
   simp only [List.length_cons,List.length_nil] at hl
   exact ⟨hm,by simp [appA];omega,by omega,hA x (by simp),fun z hz=>hA z (by simp [hz])⟩
  | cons y B =>
   have eb:¬((B.length:Int)+1=0):=by omega
   simp [bnd1,ea,eb]
   have hb:=appB_len y o
   rw [mergA] at hm
   simp only [List.length_cons] at hl
   have hx:=hA x (by simp)
   have hy:=hB y (by simp)
   have hA':∀z∈A,z.srcs.length≤1000000:=fun z hz=>hA z (by simp [hz])
   have hB':∀z∈B,z.srcs.length≤1000000:=fun z hz=>hB z (by simp [hz])
   have hgt:0<cmpI x.grp y.grp↔y.grp<x.grp:=by
    have:=cmp_lt x.grp y.grp;have:=cmp_eq x.grp y.grp;omega
   have hlt:=cmp_lt x.grp y.grp
   have heq:=cmp_eq x.grp y.grp
   refine ⟨fun c=>⟨fun d=>⟨⟨?_,?_,hA',hB'⟩,by omega,hy,by omega⟩,fun d=>⟨?_,by simp [appA];omega,hA',hy,by omega,hx,hB'⟩⟩,fun c=>⟨fun d=>⟨?_,by omega,⟨hx,hA'⟩,by omega,hy,hB'⟩,by omega⟩⟩
   ·rw [if_neg (by omega),if_neg (by omega)] at hm;exact hm
   ·show A.length+B.length+(appB y o).length≤_;omega
   ·rw [if_pos (by omega)] at hm;exact hm
   ·rw [if_neg (by omega),if_pos (by omega)] at hm;exact hm
def mergA_h(a:(List Wnt))(b:(List Wnt))(out:(List Wnt))(h:okMrg a b out):HC Tryz.prog:=⟨104,[(.s 3),(.s 3),.k],[.sl 3 (a.map Wnt.v) false,.sl 3 (b.map Wnt.v) false,.func 157 [.ref 0 0]],[.box (.vec 1),.vec 3 (out.map Wnt.v)],mergA_e (mergA a b out),mergA_b (mergA a b out),HSpec.of_okh fun ok ok2=>have ok:mergA_a a b out:=⟨ok,ok2 _ (by simp),ok2 _ (by simp)⟩;(mergA_p a b out h ok).elim fun I0 h=>h.elim fun m0 h=>mxH_of (sh:=.k) (enc:=mergA_e) (hB:=mergA_b) (a:=(mergA_x a b out I0 m0).an) h (by kernel_rfl),fnB_ok (by kernel_rfl),HcOk.of (by simp [hcB,belBL,AV.belB,allB,okBk,okBkO,mergA_e,mergA_b,pureBL_map (v:=Wnt.v) (fun _=>rfl)])⟩
def limitW(l:List Wnt):List Wnt×Int:=if 32<l.length then ([],3) else (l,0)
def limited_a(l:(List Wnt)):Prop:=okL [.sl 3 (l.map Wnt.v) false]
def limited_e(r:(List Wnt)×Int):AV:=.tup [.sl 3 (r.1.map Wnt.v) false,.int r.2]
def limited_x(l:(List Wnt)):Ax Tryz.prog noS ((List Wnt)×Int):=
 (.br 80 (decide (32<((l.map Wnt.v).length:Int))) (.ret ([],3))
(.ret (l,0)))
def limited_vc(l:(List Wnt))(r0:(List Wnt)×Int):Prop:=(limited_x l).vp limited_e r0
theorem limited_p(l:List Wnt)(ok:limited_a l):limited_vc l (limitW l):=by
 dsimp only [limited_vc,limited_x,noS,Ax.vp,Ax.vc];simp only [vcU,rfU,List.length_map]
 refine ⟨fun e=>by rw [limitW,if_pos (by omega)],fun e=>by rw [limitW,if_neg (by omega)]⟩
def limited_c(l:(List Wnt)):PC Tryz.prog:=⟨107,[(.s 3)],[.sl 3 (l.map Wnt.v) false],limited_e (limitW l),PSpec.of_ok fun ok=>mxP_of (sh:=(.a [(.s 3),.k])) (enc:=limited_e) (a:=(limited_x l).an) (limited_p l ok) (by kernel_rfl) (AV.pureB_ok rfl),fnB_ok (by kernel_rfl)⟩
def applyW(old c:List Wnt):List Wnt×Int:=
 if wErr false old≠0 then ([],wErr false old) else if wErr true c≠0 then ([],wErr true c) else limitW (mergA old c [])
theorem wErr_srcs{chg:Bool}{l:List Wnt}(h:wErr chg l=0):l.length≤32∧∀x∈l,x.srcs.length≤1000000:=by
 have h:=wErr_zero.mp h
 exact ⟨h.1,fun x hx=>by have:=srcs_len (h.2.2.1 x hx);omega⟩
def applyW_a(old:(List Wnt))(changes:(List Wnt)):Prop:=okL [.sl 3 (old.map Wnt.v) false,.sl 3 (changes.map Wnt.v) false]
def applyW_e(r:(List Wnt)×Int):AV:=.tup [.sl 3 (r.1.map Wnt.v) false,.int r.2]
def applyW_x(old:(List Wnt))(changes:(List Wnt)):Ax Tryz.prog noS ((List Wnt)×Int):=
 (.callP (valW_c old)
(.callP (checkW_c changes true)
(.callP (orI_c [wErr false old,wErr true changes])
(.br 176 ((orI [wErr false old,wErr true changes]) != 0) (.ret ([],orI [wErr false old,wErr true changes]))
(.wait (.cmd (.nilC 176 3) (.req 241 (okMrg old changes []) fun h1 =>
(.callH [176,192] (mergA_h old changes [] h1) 241
(.say (Rf ((mergA old changes []).map Wnt.v)) (.cmd (.frzE 241 ((mergA old changes []).map Wnt.v) (pureBL_map (fun _=>rfl) (mergA old changes []))) (.callP (limited_c (mergA old changes []))
(.ret ((limitW (mergA old changes [])).1,(limitW (mergA old changes [])).2)))))))))))))
def applyW_vc(old:(List Wnt))(changes:(List Wnt))(r0:(List Wnt)×Int):Prop:=(applyW_x old changes).vp applyW_e r0
theorem applyW_p(a c:List Wnt)(ok:applyW_a a c):applyW_vc a c (applyW a c):=by
 dsimp only [applyW_vc,applyW_x,noS,Ax.vp,Ax.vc];simp only [vcU,rfU,List.length_map]
 rw [orI_two]
 by_cases h1:wErr false a=0
 case neg=>simp [applyW,h1]
 by_cases h2:wErr true c=0
 case neg=>simp [applyW,h1,h2]
 have b1:=wErr_srcs h1
 have b2:=wErr_srcs h2
 refine ⟨fun e=>by simp [h1,h2] at e,fun _=>?_⟩
 refine ⟨⟨by omega,by omega,by simp,b1.2,b2.2⟩,?_⟩
 rw [applyW,if_neg (not_not_intro h1),if_neg (not_not_intro h2)]
def applyW_c(old:(List Wnt))(changes:(List Wnt)):PC Tryz.prog:=⟨113,[(.s 3),(.s 3)],[.sl 3 (old.map Wnt.v) false,.sl 3 (changes.map Wnt.v) false],applyW_e (applyW old changes),PSpec.of_ok fun ok=>mxP_of (sh:=(.a [(.s 3),.k])) (enc:=applyW_e) (a:=(applyW_x old changes).an) (applyW_p old changes ok) (by kernel_rfl) (AV.pureB_ok rfl),fnB_ok (by kernel_rfl)⟩
theorem mergA_len:∀(c l:List Wnt),(mergA [] c l).length≤c.length+l.length
 | [],l=>by rw [mergA];simp
 | y::c,l=>by
  rw [mergA]
  have:=mergA_len c (appB y l)
  have:=appB_len y l
  simp only [List.length_cons];omega
theorem applyW_err(c:List Wnt):(applyW [] c).2=wErr true c:=by
 have h1:wErr false []=0:=wErr_zero.mpr ⟨by simp,by simp,by simp,by simp,List.Pairwise.nil⟩
 rw [applyW,if_neg (not_not_intro h1)]
 by_cases h2:wErr true c=0
 ·have:=wErr_srcs h2
  have:=mergA_len c []
  rw [if_neg (not_not_intro h2),limitW,if_neg (by simp only [List.length_nil] at this;omega)]
  exact h2.symm
 ·rw [if_pos h2]
def changeF_a(s:Spk)(changes:(List Wnt)):Prop:=okL [.agg [.int s.router,.int s.epoch,.int s.last,.sl 4 (s.items.map Itm.v) false,.sl 3 (s.peers.map Per.v) false],.sl 3 (changes.map Wnt.v) false]
def changeF_n0(s:Spk)(changes:(List Wnt))(t0:Int×Int×(List Itm)):NF:=⟨[(2,.k,.ref 0 0),(4,.k,.ref 1 0),(34,.k,.sl 3 (changes.map Wnt.v) false),(35,.k,.int ((changes.map Wnt.v).length:Int)),(36,.k,.int t0.1)],[.box (.agg [.int s.router,.int s.epoch,.int t0.2.1,.sl 4 (t0.2.2.map Itm.v) false,.sl 3 (s.peers.map Per.v) false]),.box (.agg [.int 0,.int 0,.int 0,.sl 0 [] true,.sl 0 [] true])]⟩
@[reducible] def changeF_s:Nat→Type
 | 0=>Int×Int×(List Itm)
 | _=>Unit
def changeF_e(r:Spk×Int):AV:=.tup [Spk.v r.1,.int r.2]
def changeF_x(s:Spk)(changes:(List Wnt))(I0:(Int×Int×(List Itm))→Prop)(m0:(Int×Int×(List Itm))→Nat):Ax Tryz.prog changeF_s (Spk×Int):=
 (.callP (valS_c s)
(.br 128 ((valS s) != 0) (.ret ((⟨0,0,0,[],[]⟩:Spk),valS s))
(.callP (applyW_c [] changes)
(.br 272 (((applyW [] changes).2) != 0) (.ret ((⟨0,0,0,[],[]⟩:Spk),(applyW [] changes).2))
(.req 304 (okItms s.items) fun h1 =>
(.callH [] (copied_h s.items 0 h1) 304
(.req 352 (s.peers.length≤1000000) fun h2 =>
(.callH [] (cloneP_h s.peers h2) 352
(.say (Rf ((without 0 s.items).map Itm.v)) (.cmd (.frzE 304 ((without 0 s.items).map Itm.v) (pureBL_map (fun _=>rfl) (without 0 s.items))) (.say (Rf (s.peers.map Per.v)) (.cmd (.frzE 352 (s.peers.map Per.v) (pureBL_map (fun _=>rfl) s.peers)) (.loop 0 (changeF_n0 s changes) I0 m0 (0,s.last,without 0 s.items) [0,16] fun (t0:Int×Int×(List Itm)) b0 =>
(.br 18 (decide (t0.1<((changes.map Wnt.v).length:Int))) (.el 18 Wnt.v changes (fun R=>Rf (changes.map Wnt.v) (ck (decide (0≤t0.1)) (ck (decide (t0.1<(changes.length:Int)))
(∀x3,changes[t0.1.toNat]?=some x3 →
(R x3))))) fun x3 =>
(.callP (toldF_c t0.2.2 x3.grp)
(.callP (PSame_c (toldF t0.2.2 x3.grp) (⟨x3.mode,x3.srcs⟩:Flt))
(.br 210 (PSame (toldF t0.2.2 x3.grp) (⟨x3.mode,x3.srcs⟩:Flt)) (.bk 0 b0 (W (t0.1+1),t0.2.1,t0.2.2) [0,1])
(.br 258 (t0.2.1==1000000) (.ret ((⟨0,0,0,[],[]⟩:Spk),3))
(.req 402 (okItms t0.2.2) fun h4 =>
(.callH [] (copied_h t0.2.2 x3.grp h4) 402
(.req 514 ((⟨x3.mode,x3.srcs⟩:Flt).srcs.length≤1000000) fun h5 =>
(.callP (filtered_c (⟨x3.mode,x3.srcs⟩:Flt) h5)
(.say (fun R=>Rf (α:=List AV) ((without x3.grp t0.2.2).map Itm.v) (Rf (α:=List AV) [.agg [.int (W (t0.2.1+1)),.int x3.grp,.int x3.mode,.sl 1 (x3.srcs.map AV.int) false]]
(ck (decide ((without x3.grp t0.2.2).length+1≤1000000))
R))) (.app 562 Itm.v (without x3.grp t0.2.2) [(⟨W (t0.2.1+1),x3.grp,x3.mode,x3.srcs⟩:Itm)]
(.say (Rf (((without x3.grp t0.2.2)++[(⟨W (t0.2.1+1),x3.grp,x3.mode,x3.srcs⟩:Itm)]).map Itm.v)) (.cmd (.frzE 562 (((without x3.grp t0.2.2)++[(⟨W (t0.2.1+1),x3.grp,x3.mode,x3.srcs⟩:Itm)]).map Itm.v) (pureBL_map (fun _=>rfl) ((without x3.grp t0.2.2)++[(⟨W (t0.2.1+1),x3.grp,x3.mode,x3.srcs⟩:Itm)]))) (.bk 0 b0 (W (t0.1+1),W (t0.2.1+1),(without x3.grp t0.2.2)++[(⟨W (t0.2.1+1),x3.grp,x3.mode,x3.srcs⟩:Itm)]) [0,1]))))))))))))))
(.ret ((⟨s.router,s.epoch,t0.2.1,t0.2.2,s.peers⟩:Spk),0))))))))))))))))
def changeF_vc(s:Spk)(changes:(List Wnt))(I0:(Int×Int×(List Itm))→Prop)(m0:(Int×Int×(List Itm))→Nat)(r0:Spk×Int):Prop:=(changeF_x s changes I0 m0).vp changeF_e r0
theorem changeF_p(s:Spk)(c:List Wnt)(ok:changeF_a s c):∃I m,changeF_vc s c I m (change s c):=by
 simp only [changeF_a,okU,Blk.ok,plainV,List.length_map] at ok
 refine ⟨fun t=>t.2.1≤1000000∧∃k:Nat,t.1=k∧k≤c.length∧t.2=(c.take k).foldl chg1 (s.last,s.items),fun t=>c.length-t.1.toNat,?_⟩
 dsimp only [changeF_vc,changeF_x,changeF_s,Ax.vp,Ax.vc];simp only [vcU,rfU,List.length_map]
 by_cases hs:spkOk s
 case neg=>simp [change,valS,errIf,hs,spk0]
 rw [applyW_err]
 by_cases hc:wErr true c=0
 case neg=>simp [change,valS,errIf,hs,hc,spk0]
 have fin:change s c=if 1000000<(c.foldl chg1 (s.last,s.items)).1 then (spk0,3)
   else (⟨s.router,s.epoch,(c.foldl chg1 (s.last,s.items)).1,(c.foldl chg1 (s.last,s.items)).2,s.peers⟩,0):=by
  rw [change,if_neg (not_not_intro hs),if_neg (not_not_intro hc)]
 have hco:=chgOk_of hc
 have hl0:=hs.2.2.1
 have hpl:=hs.2.2.2.2.1
 refine ⟨fun e=>by simp [valS,errIf,hs] at e,fun _=>⟨fun e=>by simp [hc] at e,fun _=>⟨okItms_of hs.2.2.2.1,by omega,?_⟩⟩⟩
 rw [without_zero hs.2.2.2.1]
 refine ⟨⟨hl0.2,0,rfl,by omega,rfl⟩,?_⟩
 rintro ⟨_,n,l⟩ ⟨hn,k,rfl,hk,hf⟩
 simp only [Int.toNat_natCast] at *
 have st:=chg_ok (c:=c.take k) hs.2.2.2.1 hl0.1 (fun w hw=>hco w (List.mem_of_mem_take hw))
 rw [←hf] at st
 simp only at st
 refine ⟨fun h1=>⟨by omega,by omega,fun w hw=>?_⟩,fun h1=>?_⟩
 ·have hwo:=hco w (mem_of_get hw)
  have hsl:=srcs_len hwo.2
  have hto:PSame (toldF l w.grp) ⟨w.mode,w.srcs⟩=true↔told l w.grp=(w.mode,w.srcs):=by
   simp only [FSame,toldF,decide_eq_true_eq,flt_eq,Prod.ext_iff]
  have nx:(c.take (k+1)).foldl chg1 (s.last,s.items)=chg1 (n,l) w:=by
   rw [take_succ hw,List.foldl_append,←hf];rfl
  have tl:c.foldl chg1 (s.last,s.items)=(c.drop (k+1)).foldl chg1 (chg1 (n,l) w):=by
   rw [←nx,←List.foldl_append,List.take_append_drop]
  rw [W_succ (n:=c.length) (by omega) (by omega)]
  refine ⟨fun e=>⟨⟨hn,k+1,rfl,by omega,?_⟩,by omega⟩,fun e=>⟨fun e2=>?_,fun e2=>?_⟩⟩
  ·rw [nx,chg1,if_pos (hto.mp e)]
  ·have e2:n=1000000:=by simpa using e2
   have h3:chg1 (n,l) w=(n+1,put1 l ⟨n+1,w.grp,w.mode,w.srcs⟩):=by
    rw [chg1,if_neg (fun h=>by rw [hto.mpr h] at e;cases e)]
   have g:=chg1_ok (n:=n) (l:=l) (w:=w) st.1 st.2.2.2 hwo
   have:=(chg_ok (c:=c.drop (k+1)) g.1 g.2.2.2 (fun w hw=>hco w (List.mem_of_mem_drop hw))).2.1.1
   rw [fin,if_pos]
   ·rfl
   ·rw [tl]
    rw [h3] at this ⊢
    simp only at this
    omega
  ·have e2:¬n=1000000:=by simpa using e2
   have h3:chg1 (n,l) w=(n+1,put1 l ⟨n+1,w.grp,w.mode,w.srcs⟩):=by
    rw [chg1,if_neg (fun h=>by rw [hto.mpr h] at e;cases e)]
   have hok:=okItms_of st.1
   have hwl:(Go.Proofs.YtkanhopflelmdaaGreatDoor.without w.grp l).length≤900000:=Nat.le_trans (List.length_filter_le _ _) hok.1
   rw [W_eq (by omega)]
   refine ⟨hok,by show w.srcs.length≤_;omega,by omega,⟨by omega,k+1,rfl,by omega,?_⟩,by omega⟩
   rw [nx,h3];rfl
 ·have hk:k=c.length:=by omega
  subst hk
  rw [List.take_length] at hf
  rw [fin,←hf,if_neg (by simp only;omega)]
def change_c(s:Spk)(changes:(List Wnt)):PC Tryz.prog:=⟨50,[(.a [.k,.k,.k,(.s 4),(.s 3)]),(.s 3)],[.agg [.int s.router,.int s.epoch,.int s.last,.sl 4 (s.items.map Itm.v) false,.sl 3 (s.peers.map Per.v) false],.sl 3 (changes.map Wnt.v) false],changeF_e (change s changes),PSpec.of_ok fun ok=>(changeF_p s changes ok).elim fun I0 h=>h.elim fun m0 h=>mxP_of (sh:=(.a [(.a [.k,.k,.k,(.s 4),(.s 3)]),.k])) (enc:=changeF_e) (a:=(changeF_x s changes I0 m0).an) h (by kernel_rfl) (AV.pureB_ok rfl),fnB_ok (by kernel_rfl)⟩
end Go.Proofs.YtkanhopflelmdaaGreatDoor
namespace Go.Am
open Go.Proofs Go.Shelf Go.RowKit Go.Lib Go.Sort
theorem flatL_eq{α:Type}[Inhabited α](enc:α→List Value)(k:Nat)(k0:0<k)(hk:∀x,(enc x).length=k):∀l:List α,
  (List.range (l.length * k)).map (fun t=>(enc l[t / k]!)[t % k]!)=l.flatMap enc
 | []=>by simp
 | x::l=>by
  have ih:=flatL_eq enc k k0 hk l
  rw [List.flatMap_cons,←ih,List.length_cons,Nat.succ_mul,Nat.add_comm,List.range_add,List.map_append,List.map_map]
  congr 1
  ·refine List.ext_getElem (by simp [hk]) fun i h1 h2=>?_
   have hi:i<k:=by simpa using h1
   simp [Nat.div_eq_of_lt hi,Nat.mod_eq_of_lt hi,h2]
  ·refine List.map_congr_left fun t _=>?_
   simp [Function.comp,Nat.add_div_left t k0]
theorem flatK_list{α:Type}[Inhabited α](enc:α→List Value)(k:Nat)(k0:0<k)(hk:∀x,(enc x).length=k)(d:Array α):(flatK enc k d).toList=d.toList.flatMap enc:=by
 rw [←flatL_eq enc k k0 hk d.toList]
 unfold flatK
 simp [List.getElem!_eq_getElem?_getD,Array.getElem!_eq_getD,Array.getD_eq_getD_getElem?]
section
variable {T : Type} (key : T → Int) (k : Nat)
structure SE where
  x:T
  cs:List Value
  ok:cs.length=k∧(∀u∈cs,u.oneCell'=true)∧∃r,cs=.int .i64 (key x)::r
variable {key k}
theorem SE.list{w:World}{A:Nat→Prop}{μ:Mu}{v:T→AV}(hv:∀x,∃cs,v x=.agg (.int (key x)::cs)) :
  ∀{l:List T} {vs:List Value},RVL w A (l.map v) μ vs→(∀u∈vs,u.cells.size=k)→∃ds:List (SE key k),ds.map SE.x=l∧vs=ds.map (fun p=>.agg p.cs.toArray)∧∀p∈ds,RV w A (v p.x) μ (.agg p.cs.toArray)
 | [],vs,h,_=>⟨[],rfl,h,by simp⟩
 | x::l,_,⟨u,vs,rfl,h1,h2⟩,hs=>by
  obtain ⟨ds,e1,e2,e3⟩:=SE.list hv h2 fun u hu=>hs u (List.mem_cons_of_mem _ hu)
  obtain ⟨cs,hc⟩:=hv x
  have h1':=h1
  rw [hc] at h1
  obtain ⟨us,rfl,g1,g2⟩:=h1
  obtain ⟨u0,us',rfl,g3,g4⟩:=g1
  obtain ⟨rfl,g5⟩:=g3
  have hl:(Value.int .i64 (key x)::us').length=k:=by
   have:=hs _ (List.mem_cons_self ..)
   simpa [Value.cells] using this
  exact ⟨⟨x,.int .i64 (key x)::us',hl,g2,us',rfl⟩::ds,by rw [List.map_cons,e1],by rw [List.map_cons,e2],fun p hp=>by
   rcases List.mem_cons.mp hp with rfl|hp
   ·exact h1'
   ·exact e3 p hp⟩
theorem SE.rvl{w:World}{A:Nat→Prop}{μ:Mu}{v:T→AV}:∀{ds:List (SE key k)},(∀p∈ds,RV w A (v p.x) μ (.agg p.cs.toArray))→RVL w A ((ds.map SE.x).map v) μ (ds.map fun p=>.agg p.cs.toArray)
 | [],_=>rfl
 | p::ds,h=>⟨_,_,rfl,h p (List.mem_cons_self ..),SE.rvl fun q hq=>h q (List.mem_cons_of_mem _ hq)⟩
end
theorem swo_key{T:Type}(key:T→Int):SWO (ltOf fun x y:T=>Lib.compareInt (key x) (key y)):=by
 have e:∀x y:T,ltOf (fun x y:T=>Lib.compareInt (key x) (key y)) x y=decide (key x<key y):=fun x y=>by
  unfold ltOf Lib.compareInt
  by_cases h1:key x<key y
  ·simp [h1]
  ·by_cases h2:key y<key x<;>simp [h1,h2]
 refine ⟨fun x=>?_,fun x y z h1 h2=>?_,fun x y z h1 h2=>?_⟩
 ·rw [e];simp
 ·rw [e] at *;simp at *;omega
 ·rw [e] at *;simp at *;omega
theorem lt_key{T:Type}(key:T→Int)(x y:T):ltOf (fun x y:T=>Lib.compareInt (key x) (key y)) x y=decide (key x<key y):=by
 unfold ltOf Lib.compareInt
 by_cases h1:key x<key y
 ·simp [h1]
 ·by_cases h2:key y<key x<;>simp [h1,h2]
theorem sorted_unique{T:Type}{key:T→Int}:∀{a b:List T},a.Perm b→a.Pairwise (fun x y=>key x≤key y)→b.Pairwise (fun x y=>key x<key y)→a=b
 | [],b,h,_,_=>(List.nil_perm.mp h).symm
 | x::a,[],h,_,_=>absurd h.length_eq (by simp)
 | x::a,y::b,h,h1,h2=>by
  have hxy:x=y:=by
   have m1:=h.mem_iff.mp (List.mem_cons_self (a:=x) (l:=a))
   have m2:=h.mem_iff.mpr (List.mem_cons_self (a:=y) (l:=b))
   rcases List.mem_cons.mp m1 with e|m1
   ·exact e
   rcases List.mem_cons.mp m2 with e|m2
   ·exact e.symm
   have g1:=(List.pairwise_cons.mp h1).1 y m2
   have g2:=(List.pairwise_cons.mp h2).1 x m1
   omega
  subst hxy
  rw [sorted_unique ((List.perm_cons _).mp h) (List.pairwise_cons.mp h1).2 (List.pairwise_cons.mp h2).2]
theorem heap_sort{α:Type}[Inhabited α]{enc:α→List Value}{k:Nat}{w:World}{blk n:Nat}{d:Array α}{os:Array Obj}{C:Array Value}{ty:TypeId}(h:w.heap[blk]?=some (.cells C ty (0,0))) :
  (sortWorldK enc k w blk 0 n d os).heap[blk]?=some (.cells (putCells id 0 (flatK enc k d) C) ty (0,0))∧(∀b,b<w.heap.size→b≠blk→(sortWorldK enc k w blk 0 n d os).heap[b]?=w.heap[b]?) ∧
  w.heap.size≤(sortWorldK enc k w blk 0 n d os).heap.size:=by
 have hb:blk<w.heap.size:=(Array.getElem?_eq_some_iff.mp h).1
 have e:(sortWorldK enc k w blk 0 n d os).heap=w.heap.modify blk (onCells (putCells id 0 (flatK enc k d)))++os:=rfl
 rw [e]
 refine ⟨?_,fun b h1 h2=>?_,by simp⟩
 ·rw [Array.getElem?_append_left (by simpa using hb),Array.getElem?_modify,if_pos rfl,h];rfl
 ·rw [Array.getElem?_append_left (by simpa using h1),Array.getElem?_modify,if_neg (Ne.symm h2)]
theorem put_take{F C:Array Value}(h:F.size≤C.size):(putCells id 0 F C).toList.take F.size=F.toList∧(putCells id 0 F C).size=C.size:=by
 have hs:(putCells id 0 F C).size=C.size:=by simp [putCells]
 refine ⟨List.ext_getElem (by simp [hs];omega) fun i h1 h2=>?_,hs⟩
 have hi:i<F.size:=by simpa using h2
 simp [putCells,hi]
theorem sort_hspec{P:Program}{ρ:Ren}(L:SlLaysF0.n6 P ρ){T:Type}(v:T→AV)(key:T→Int)(k:Nat)(k0:0<k)
  (aE:∀w,(isAgg (ρ.t 24)).run P w=.ok true w) (zE:∀w,(Go.sizeOf (ρ.t 24)).run P w=.ok k w) (hv:∀x,∃cs,v x=.agg (.int (key x)::cs))
  (g:Nat) (eg:∀args w,(callFunc g args).run P w=.ok (.enter g args) w)
  (hcmp:∀(a b:Int) (xs ys:List Value) (w:World),xs.length+1=k→ys.length+1=k→(∀u∈xs,u.oneCell'=true)→(∀u∈ys,u.oneCell'=true) →
   Calls P g #[.agg (Value.int .i64 a::xs).toArray,.agg (Value.int .i64 b::ys).toArray] w fun e w'=>e=.returned (.int .i64 (Lib.compareInt a b))∧∃q os',w'=grow (w.drewN q) os')
  (l l':List T) (hp:l'.Perm l) (hs:l'.Pairwise fun x y=>key x<key y) (hl:l.length≤1000000) :
  HSpec P (ρ.f 6) [.vec 0,.func g []] [.vec k (l.map v)] (.tup []) [some (.vec k (l'.map v))]:=by
 intro w A μ cargs hH hmu hargs
 obtain ⟨c0,_,rfl,h0,c1,_,rfl,h1,rfl⟩:=hargs
 obtain ⟨hd,hm,rfl⟩:=h0
 obtain ⟨_,rfl,rfl⟩:=h1
 obtain ⟨hd',hm',hb,hA⟩:=hH.blk 0 _ rfl
 rw [hm] at hm';cases hm'
 obtain ⟨hk,hb⟩:=hb
 have none_:∀p cap,hd.val=.slice p 0 cap→l=[]→Calls P (ρ.f 6) [hd.val,Value.func (.func g) #[] ([]:List Value).toArray].toArray w fun e w'=>∃v_1 A' μ',e=.returned v_1∧RV w' A' (.tup []) μ' v_1∧HeapOk P w' A' μ' (hpOf [some (.vec k (l'.map v))])∧MuLe μ μ'∧Ext (ownOf μ (hpOf ([Blk.vec k (l.map v)].map some))) w w' ∧
   (∀b,A b→A' b)∧(∀b,A' b→A b∨ownOf μ (hpOf ([Blk.vec k (l.map v)].map some)) b∨w.heap.size≤b) ∧
   (∀b,ownOf μ' (hpOf [some (.vec k (l'.map v))]) b→ownOf μ (hpOf ([Blk.vec k (l.map v)].map some)) b∨w.heap.size≤b):=by
  intro p cap e0 e1
  subst e1
  obtain rfl:=List.perm_nil.mp hp
  rw [e0]
  refine (AnyF.slices_SortFunc_none L p cap (.func (.func g) #[] #[]) w).mono ?_
  rintro e w' ⟨rfl,rfl⟩
  exact ⟨_,A,μ,rfl,⟨[],rfl,rfl⟩,hH,MuLe.refl _,⟨rfl,rfl,rfl,Nat.le_refl _,fun _ _ _=>rfl⟩,fun b h=>h,fun b h=>.inl h,fun b h=>.inl h⟩
 rcases hb with ⟨he,ha⟩|⟨he,hlen,hle,hcap,C,ty,vs,hheap,hrvl,hsol,hsz,hC,htake⟩
 ·obtain ⟨a,ha⟩:=Option.isSome_iff_exists.mp ha
  exact none_ a 0 (by unfold Hd.val;rw [ha]) (by simpa using he)
 obtain ⟨ds,e1,rfl,e3⟩:=SE.list hv hrvl hsz
 have hval:hd.val=.slice (some ⟨hd.blk,0,none⟩) hd.len hd.cap:=by unfold Hd.val;rw [he]
 have hlen':hd.len=ds.length:=by rw [hlen,←e1];simp
 match hds:ds with
 | []=>exact none_ _ _ (by rw [hval,hlen'];rfl) (by rw [←e1];rfl)
 | p0::ds' =>
  rw [←hds] at e1 e3 htake hlen' hrvl hsz
  haveI:Inhabited (SE key k):=⟨p0⟩
  obtain ⟨nA,hblk⟩:=hA he
  have hk1:∀x:SE key k,x.cs.length=k:=fun x=>x.ok.1
  have hC':C.toList.take (ds.length * k)=(flatK SE.cs k ds.toArray).toList:=by
   rw [flatK_list _ _ k0 hk1,←hlen',htake,List.flatMap_map]
   rfl
  have hsz':ds.length * k≤C.size:=by rw [←hlen'];exact Nat.le_trans (Nat.mul_le_mul_right _ hle) hC
  have hHK:HoldsK SE.cs k w hd.blk 0 ds.toArray:=by
   intro j hj
   have hj':j<ds.length * k:=by simpa using hj
   refine ⟨?_,by simp [World.frozen?,hheap]⟩
   have:(C.toList.take (ds.length * k))[j]?=(flatK SE.cs k ds.toArray).toList[j]?:=by rw [hC']
   rw [List.getElem?_take,if_pos hj'] at this
   simp only [World.cell?,hheap,Nat.zero_add,Option.isSome_none,Bool.false_eq_true,if_false,id]
   rw [getElem!_pos _ j hj,←Array.getElem?_eq_getElem hj]
   simpa using this
  have key_:=AnyQ.slices_SortFunc L k aE zE SE.cs hk1 (fun x=>x.ok.2.1) (fun x y=>Lib.compareInt (key x.x) (key y.x)) (swo_key fun p:SE key k=>key p.x) g #[] hd.blk 0 hd.cap ds.toArray w eg
   (fun m os dk _ x y=>by
    obtain ⟨rx,hx⟩:=x.ok.2.2
    obtain ⟨ry,hy⟩:=y.ok.2.2
    have lx:=x.ok.1;have ly:=y.ok.1
    have ox:=x.ok.2.1;have oy:=y.ok.2.1
    have ex:x.cs=.int .i64 (key x.x)::rx:=hx
    have ey:y.cs=.int .i64 (key y.x)::ry:=hy
    rw [hx] at lx ox;rw [hy] at ly oy
    rw [ex,ey,Array.append_empty]
    exact hcmp _ _ rx ry _ lx ly (fun u hu=>ox u (List.mem_cons_of_mem _ hu)) (fun u hu=>oy u (List.mem_cons_of_mem _ hu))) hHK hblk (by
    have:ds.length=l.length:=by rw [←e1];simp
    show ds.length<_
    omega)
  rw [hval,hlen']
  refine key_.mono ?_
  rintro e w' ⟨rfl,d',n,os,⟨ps,-,pp⟩,hsrt,rfl⟩
  have pp:d'.toList.Perm ds:=by
   have q1:d'.extract 0 ds.toArray.size=d':=by rw [←ps];simp
   have q2:ds.toArray.extract 0 ds.toArray.size=ds.toArray:=by simp
   rw [q1,q2] at pp
   simpa using pp
  have el:d'.toList.map SE.x=l':=by
   refine sorted_unique ((pp.map _).trans ?_) ?_ hs
   ·rw [e1];exact hp.symm
   ·rw [List.pairwise_map,List.pairwise_iff_getElem]
    intro i j hi hj hij
    have hi':i<d'.size:=by simpa using hi
    have hj':j<d'.size:=by simpa using hj
    have:=hsrt i j (Nat.zero_le _) hij (by rw [←ps];exact hj')
    rw [lt_key (fun p:SE key k=>key p.x),getElem!_pos _ j hj',getElem!_pos _ i hi'] at this
    simpa using this
  have len':d'.size=ds.length:=by rw [ps];rfl
  obtain ⟨hp1,hp2,hp3⟩:=heap_sort (enc:=SE.cs) (k:=k) (n:=n) (d:=d') (os:=os) hheap
  have hF:(flatK SE.cs k d').size≤C.size:=by rw [size_flatK,len'];exact hsz'
  obtain ⟨q1,q2⟩:=put_take hF
  have same:Same A w (sortWorldK SE.cs k w hd.blk 0 n d' os):=fun b hb=>hp2 b (hH.lt b hb) (fun e=>nA (e ▸ hb))
  have own:ownOf μ (hpOf ([Blk.vec k (l.map v)].map some)) hd.blk:=⟨0,_,hd,rfl,hm,he,rfl⟩
  refine ⟨_,A,μ,rfl,⟨[],rfl,rfl⟩,⟨fun b x hx=>?_,fun b b' x x' hd1 hd2 hx hx' _ _ _ _ _=>?_,hH.lt.mono same (fun _ h=>h) fun b hb=>Nat.lt_of_lt_of_le (hH.lt b hb) hp3⟩,MuLe.refl _,
   ⟨rfl,rfl,rfl,hp3,fun b h1 h2=>hp2 b h1 fun e=>h2 (e ▸ own)⟩,fun _ h=>h,fun _ h=>.inl h,?_⟩
  ·have hx0:b=0:=by
    cases b with
    | zero=>rfl
    | succ b=>simp [hpOf] at hx
   subst hx0
   have hx:some (Blk.vec k (l'.map v))=some x:=hx
   cases hx
   refine ⟨hd,hm,⟨hk,.inr ⟨he,?_,hle,hcap,_,ty,d'.toList.map (fun p=>.agg p.cs.toArray),hp1,?_,?_,?_,?_,?_⟩⟩,fun _=>⟨nA,Nat.lt_of_lt_of_le hblk hp3⟩⟩
   ·rw [hlen',←el];simp [len']
   ·rw [←el]
    exact RVL.mono same (fun _ h=>h) _ (MuLe.refl _) (SE.rvl fun p hp=>e3 p (pp.mem_iff.mp hp))
   ·intro x hx
    obtain ⟨y,_,rfl⟩:=List.mem_map.mp hx
    obtain ⟨cs,hc⟩:=hv y
    rw [hc];rfl
   ·intro u hu
    obtain ⟨p,_,rfl⟩:=List.mem_map.mp hu
    simpa [Value.cells] using hk1 p
   ·rw [q2];exact hC
   ·have:=flatK_list SE.cs k k0 hk1 d'
    rw [size_flatK,len',←hlen'] at q1
    rw [q1,this,List.flatMap_map]
    rfl
  ·have z:∀{b x},hpOf [some (Blk.vec k (l'.map v))] b=some x→b=0:=fun {b x} h=>by
    cases b with
    | zero=>rfl
    | succ b=>simp [hpOf] at h
   rw [z hx,z hx']
  ·rintro b ⟨b',x,hd1,hx,hm1,he1,rfl⟩
   have hx0:b'=0:=by
    cases b' with
    | zero=>rfl
    | succ b=>simp [hpOf] at hx
   subst hx0
   rw [hm] at hm1;cases hm1
   exact .inl own
end Go.Am
