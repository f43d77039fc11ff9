/- Texts joined: H2 H3 H4 BT H5 U24 H6. -/
import Derived.Test.YthhpaedpnjdnbaaGreatDoorQP8
set_option linter.unusedVariables false
set_option linter.unusedSimpArgs false
namespace Go.Proofs.YthhpaedpnjdnbaaGreatDoor
open Go Go.Am
theorem set_upd{α:Type}{l:List α}{f:α→α}{j:Nat}(h:j<l.length):((l.take j).map f++l.drop j).set j (f l[j])=(l.take (j+1)).map f++l.drop (j+1):=by
 have e:((l.take j).map f).length=j:=by simp;omega
 rw [List.set_append_right _ _ (by omega),e,Nat.sub_self,List.drop_eq_getElem_cons h,List.set_cons_zero,take_succ (List.getElem?_eq_getElem h),List.map_append,List.append_assoc]
 rfl
theorem get_upd{α:Type}{l:List α}{f:α→α}{j:Nat}(h:j<l.length):((l.take j).map f++l.drop j)[j]?=some l[j]:=by
 have e:((l.take j).map f).length=j:=by simp;omega
 rw [List.getElem?_append_right (by omega),e,Nat.sub_self,List.drop_eq_getElem_cons h,List.getElem?_cons_zero]
theorem NI.spl{R:List Int}{o:Ovl}(h:NI R o):o.sp.length=R.length:=by
 have:=congrArg List.length h.net.spr
 simpa [rtrs] using this
def scnT_a(L:(List Int))(p:Nat)(most:Int):Prop:=okL [.ref 0 0,.int most]∧(.box (.agg [.sl 1 (L.map AV.int) false,.int ((p:Nat):Int)]):Blk).ok
abbrev scnT_v0(L:(List Int))(p:Nat)(most:Int):=(plnT L ((topoT L p most).2) ((topoT L p most).1))
abbrev scnT_v1(L:(List Int))(p:Nat)(most:Int):=(rawV L ((scnT_v0 L p most).2))
def scnT_n0(L:(List Int))(p:Nat)(most:Int)(t0:(List Int)×Int):NF:=⟨[(0,.k,.ref 0 0),(4,.k,.ref 1 0),(5,.k,.ref 2 0),(6,(.s 1),.sl 1 (t0.1.map AV.int) false),(33,.k,.sl 2 ((((scnT_v0 L p most).1).es).map Edg.v) false),(34,.k,.int (((((scnT_v0 L p most).1).es).map Edg.v).length:Int)),(35,.k,.int t0.2)],[.box (.agg [.sl 1 (L.map AV.int) false,.int ((((scnT_v0 L p most).2):Nat):Int)]),.box (.agg [.sl 0 [] true,.sl 0 [] true,.int 0,.int 0,.sl 0 [] true,.sl 0 [] true,.sl 0 [] true,.sl 0 [] true,.sl 0 [] true]),.box (.agg [.sl 2 ((((topoT L p most).1).rs).map Rtr.v) false,.sl 5 ((((topoT L p most).1).ls).map Lnk.v) false,.int (((scnT_v0 L p most).1).sub),.int (((scnT_v0 L p most).1).len),.sl 2 ((((scnT_v0 L p most).1).es).map Edg.v) false,.sl 0 [] true,.sl 0 [] true,.sl 0 [] true,.sl 0 [] true])]⟩
def scnT_n1(L:(List Int))(p:Nat)(most:Int)(t0:(List Int)×Int)(t1:Int×Nat×(List Sit)):NF:=⟨[(0,.k,.ref 0 0),(4,.k,.ref 1 0),(5,.k,.ref 2 0),(6,.k,.sl 1 (t0.1.map AV.int) false),(9,.k,.int (pickI [0,100] (scnT_v1 L p most))),(47,.k,.sl 1 (t0.1.map AV.int) false),(48,.k,.int ((t0.1.map AV.int).length:Int)),(49,.k,.int t1.1)],[.box (.agg [.sl 1 (L.map AV.int) false,.int ((t1.2.1:Nat):Int)]),.box (.agg [.sl 0 [] true,.sl 0 [] true,.int 0,.int 0,.sl 0 [] true,.sl 0 [] true,.sl 0 [] true,.sl 0 [] true,.sl 0 [] true]),.box (.agg [.sl 2 ((((topoT L p most).1).rs).map Rtr.v) false,.sl 5 ((((topoT L p most).1).ls).map Lnk.v) false,.int (((scnT_v0 L p most).1).sub),.int (((scnT_v0 L p most).1).len),.sl 2 ((((scnT_v0 L p most).1).es).map Edg.v) false,.vec 3,.sl 0 [] true,.sl 0 [] true,.sl 0 [] true]),.vec 3 (t1.2.2.map Sit.v) (pureBL_map (fun _=>rfl) t1.2.2)]⟩
def scnT_n2(L:(List Int))(p:Nat)(most:Int)(t0:(List Int)×Int)(t1:Int×Nat×(List Sit))(x6:Int)(t2:Int×(List Mem)):NF:=⟨[(0,.k,.ref 0 0),(4,.k,.ref 1 0),(5,.k,.ref 2 0),(6,.k,.sl 1 (t0.1.map AV.int) false),(9,.k,.int (pickI [0,100] (scnT_v1 L p most))),(11,.k,.int x6),(12,.k,.ref 4 0),(47,.k,.sl 1 (t0.1.map AV.int) false),(48,.k,.int ((t0.1.map AV.int).length:Int)),(49,.k,.int t1.1),(57,.k,.int (((((memsT L 4 t1.2.1).1).list).map Mem.v).length:Int)),(58,.k,.int t2.1)],[.box (.agg [.sl 1 (L.map AV.int) false,.int ((((memsT L 4 t1.2.1).2):Nat):Int)]),.box (.agg [.sl 0 [] true,.sl 0 [] true,.int 0,.int 0,.sl 0 [] true,.sl 0 [] true,.sl 0 [] true,.sl 0 [] true,.sl 0 [] true]),.box (.agg [.sl 2 ((((topoT L p most).1).rs).map Rtr.v) false,.sl 5 ((((topoT L p most).1).ls).map Lnk.v) false,.int (((scnT_v0 L p most).1).sub),.int (((scnT_v0 L p most).1).len),.sl 2 ((((scnT_v0 L p most).1).es).map Edg.v) false,.vec 3,.sl 0 [] true,.sl 0 [] true,.sl 0 [] true]),.vec 3 (t1.2.2.map Sit.v) (pureBL_map (fun _=>rfl) t1.2.2),.box (.agg [.int (((memsT L 4 t1.2.1).1).now),.vec 5]),.vec 5 (t2.2.map Mem.v) (pureBL_map (fun _=>rfl) t2.2)]⟩
def scnT_n3(L:(List Int))(p:Nat)(most:Int)(t0:(List Int)×Int)(t1:Int×Nat×(List Sit))(t3:Int×(List Spk)×(List Lsn)×(List Sig)×Nat):NF:=⟨[(0,.k,.ref 0 0),(4,.k,.ref 1 0),(5,.k,.ref 2 0),(6,.k,.sl 1 (t0.1.map AV.int) false),(14,.k,.int t3.1)],[.box (.agg [.sl 1 (L.map AV.int) false,.int ((t3.2.2.2.2:Nat):Int)]),.box (.agg [.sl 0 [] true,.sl 0 [] true,.int 0,.int 0,.sl 0 [] true,.sl 0 [] true,.sl 0 [] true,.sl 0 [] true,.sl 0 [] true]),.box (.agg [.sl 2 ((((topoT L p most).1).rs).map Rtr.v) false,.sl 5 ((((topoT L p most).1).ls).map Lnk.v) false,.int (((scnT_v0 L p most).1).sub),.int (((scnT_v0 L p most).1).len),.sl 2 ((((scnT_v0 L p most).1).es).map Edg.v) false,.vec 3,.sl 5 (t3.2.1.map Spk.v) false,.sl 3 (t3.2.2.1.map Lsn.v) false,.sl 10 (t3.2.2.2.1.map Sig.v) false]),.vec 3 (t1.2.2.map Sit.v) (pureBL_map (fun _=>rfl) t1.2.2)]⟩
def scnT_n4(L:(List Int))(p:Nat)(most:Int)(t1:Int×Nat×(List Sit))(t4:Int×(List Spk)×(List Lsn)×(List Sig)×Nat):NF:=⟨[(0,.k,.ref 0 0),(4,.k,.ref 1 0),(5,.k,.ref 2 0),(123,.k,.vec 3),(124,.k,.int ((t1.2.2.map Sit.v).length:Int)),(125,.k,.int t4.1)],[.box (.agg [.sl 1 (L.map AV.int) false,.int ((t4.2.2.2.2:Nat):Int)]),.box (.agg [.sl 0 [] true,.sl 0 [] true,.int 0,.int 0,.sl 0 [] true,.sl 0 [] true,.sl 0 [] true,.sl 0 [] true,.sl 0 [] true]),.box (.agg [.sl 2 ((((topoT L p most).1).rs).map Rtr.v) false,.sl 5 ((((topoT L p most).1).ls).map Lnk.v) false,.int (((scnT_v0 L p most).1).sub),.int (((scnT_v0 L p most).1).len),.sl 2 ((((scnT_v0 L p most).1).es).map Edg.v) false,.vec 3,.sl 5 (t4.2.1.map Spk.v) false,.sl 3 (t4.2.2.1.map Lsn.v) false,.sl 10 (t4.2.2.2.1.map Sig.v) false]),.vec 3 (t1.2.2.map Sit.v) (pureBL_map (fun _=>rfl) t1.2.2)]⟩
def scnT_n5(L:(List Int))(p:Nat)(most:Int)(t1:Int×Nat×(List Sit))(t4:Int×(List Spk)×(List Lsn)×(List Sig)×Nat)(x14:Sit)(t5:Bool×Nat):NF:=⟨[(0,.k,.ref 0 0),(4,.k,.ref 1 0),(5,.k,.ref 2 0),(16,.k,.ref 4 0),(17,.k,.sl 3 (((ofW (⟨x14.now,x14.list⟩:Mems)).1).map Wnt.v) false),(123,.k,.vec 3),(124,.k,.int ((t1.2.2.map Sit.v).length:Int)),(125,.k,.int t4.1),(141,.k,.bool t5.1)],[.box (.agg [.sl 1 (L.map AV.int) false,.int ((t5.2:Nat):Int)]),.box (.agg [.sl 0 [] true,.sl 0 [] true,.int 0,.int 0,.sl 0 [] true,.sl 0 [] true,.sl 0 [] true,.sl 0 [] true,.sl 0 [] true]),.box (.agg [.sl 2 ((((topoT L p most).1).rs).map Rtr.v) false,.sl 5 ((((topoT L p most).1).ls).map Lnk.v) false,.int (((scnT_v0 L p most).1).sub),.int (((scnT_v0 L p most).1).len),.sl 2 ((((scnT_v0 L p most).1).es).map Edg.v) false,.vec 3,.sl 5 (t4.2.1.map Spk.v) false,.sl 3 (t4.2.2.1.map Lsn.v) false,.sl 10 (t4.2.2.2.1.map Sig.v) false]),.vec 3 (t1.2.2.map Sit.v) (pureBL_map (fun _=>rfl) t1.2.2),.box (.agg [.int x14.router,.int x14.now,.sl 5 (x14.list.map Mem.v) false])]⟩
def scnT_n6(L:(List Int))(p:Nat)(most:Int)(t1:Int×Nat×(List Sit))(t6:Int×(List Spk)×(List Lsn)×(List Sig)×Nat):NF:=⟨[(0,.k,.ref 0 0),(4,.k,.ref 1 0),(5,.k,.ref 2 0),(21,.k,.int t6.1)],[.box (.agg [.sl 1 (L.map AV.int) false,.int ((t6.2.2.2.2:Nat):Int)]),.box (.agg [.sl 0 [] true,.sl 0 [] true,.int 0,.int 0,.sl 0 [] true,.sl 0 [] true,.sl 0 [] true,.sl 0 [] true,.sl 0 [] true]),.box (.agg [.sl 2 ((((topoT L p most).1).rs).map Rtr.v) false,.sl 5 ((((topoT L p most).1).ls).map Lnk.v) false,.int (((scnT_v0 L p most).1).sub),.int (((scnT_v0 L p most).1).len),.sl 2 ((((scnT_v0 L p most).1).es).map Edg.v) false,.vec 3,.sl 5 (t6.2.1.map Spk.v) false,.sl 3 (t6.2.2.1.map Lsn.v) false,.sl 10 (t6.2.2.2.1.map Sig.v) false]),.vec 3 (t1.2.2.map Sit.v) (pureBL_map (fun _=>rfl) t1.2.2)]⟩
@[reducible] def scnT_s:Nat→Type
 | 0=>(List Int)×Int
 | 1=>Int×Nat×(List Sit)
 | 2=>Int×(List Mem)
 | 3=>Int×(List Spk)×(List Lsn)×(List Sig)×Nat
 | 4=>Int×(List Spk)×(List Lsn)×(List Sig)×Nat
 | 5=>Bool×Nat
 | 6=>Int×(List Spk)×(List Lsn)×(List Sig)×Nat
 | _=>Unit
def scnT_e(r:Tap×Scn):AV:=.agg [.sl 2 (r.2.rs.map Rtr.v) false,.sl 5 (r.2.ls.map Lnk.v) false,.int r.2.sub,.int r.2.len,.sl 2 (r.2.es.map Edg.v) false,.sl 3 (r.2.sites.map Sit.v) false,.sl 5 (r.2.sp.map Spk.v) false,.sl 3 (r.2.lsn.map Lsn.v) false,.sl 10 (r.2.fl.map Sig.v) false]
def scnT_b(r:Tap×Scn):List (Option Blk):=[some (.box (.agg [.sl 1 (r.1.L.map AV.int) false,.int ((r.1.p:Nat):Int)]))]
def scnT_x(L:(List Int))(p:Nat)(most:Int)(I0:((List Int)×Int)→Prop)(m0:((List Int)×Int)→Nat)(I1:(List Int)×Int→(Int×Nat×(List Sit))→Prop)(m1:(List Int)×Int→(Int×Nat×(List Sit))→Nat)(I2:(List Int)×Int→Int×Nat×(List Sit)→Int→(Int×(List Mem))→Prop)(m2:(List Int)×Int→Int×Nat×(List Sit)→Int→(Int×(List Mem))→Nat)(I3:(List Int)×Int→Int×Nat×(List Sit)→(Int×(List Spk)×(List Lsn)×(List Sig)×Nat)→Prop)(m3:(List Int)×Int→Int×Nat×(List Sit)→(Int×(List Spk)×(List Lsn)×(List Sig)×Nat)→Nat)(I4:(List Int)×Int→Int×Nat×(List Sit)→Int×(List Spk)×(List Lsn)×(List Sig)×Nat→(Int×(List Spk)×(List Lsn)×(List Sig)×Nat)→Prop)(m4:(List Int)×Int→Int×Nat×(List Sit)→Int×(List Spk)×(List Lsn)×(List Sig)×Nat→(Int×(List Spk)×(List Lsn)×(List Sig)×Nat)→Nat)(I5:(List Int)×Int→Int×Nat×(List Sit)→Int×(List Spk)×(List Lsn)×(List Sig)×Nat→Int×(List Spk)×(List Lsn)×(List Sig)×Nat→Sit→(Bool×Nat)→Prop)(I6:(List Int)×Int→Int×Nat×(List Sit)→Int×(List Spk)×(List Lsn)×(List Sig)×Nat→Int×(List Spk)×(List Lsn)×(List Sig)×Nat→(Int×(List Spk)×(List Lsn)×(List Sig)×Nat)→Prop)(m6:(List Int)×Int→Int×Nat×(List Sit)→Int×(List Spk)×(List Lsn)×(List Sig)×Nat→Int×(List Spk)×(List Lsn)×(List Sig)×Nat→(Int×(List Spk)×(List Lsn)×(List Sig)×Nat)→Nat):Ax Tryz.prog scnT_s (Tap×Scn):=
 (.req 65 (1≤most∧most≤100) fun h1 =>
(.callH [0] (topoT_h L p most h1) 65
(.req 161 (((topoT L p most).1).rs.length≤1000) fun h2 =>
(.callH [0] (plnT_h L ((topoT L p most).2) ((topoT L p most).1) h2) 161
(.loop 0 (scnT_n0 L p most) I0 m0 ([],0) [0,1,17] fun (t0:(List Int)×Int) b0 =>
(.br 19 (decide (t0.2<(((((scnT_v0 L p most).1).es).map Edg.v).length:Int))) (.el 19 Edg.v (((scnT_v0 L p most).1).es) (fun R=>Rf ((((scnT_v0 L p most).1).es).map Edg.v) (ck (decide (0≤t0.2)) (ck (decide (t0.2<((((scnT_v0 L p most).1).es).length:Int)))
(∀x3,(((scnT_v0 L p most).1).es)[t0.2.toNat]?=some x3 →
(R x3))))) fun x3 =>
(.req 131 (t0.1.length≤900000) fun h4 =>
(.callP (put_c t0.1 x3.router h4)
(.bk 0 b0 (put t0.1 x3.router,W (t0.2+1)) [0,1,2]))))
(.req 51 ([0,100]≠[]) fun h5 =>
(.callH [0] (Pick_h L ((scnT_v0 L p most).2) [0,100] h5) 51
(.cmdL (.nilB 2 5 3) (.loop 1 (scnT_n1 L p most t0) (I1 t0) (m1 t0) (0,rawP L ((scnT_v0 L p most).2),[]) [0,1,2,131] fun (t1:Int×Nat×(List Sit)) b1 =>
(.br 20 (decide (t1.1<((t0.1.map AV.int).length:Int))) (.el 20 AV.int t0.1 (fun R=>Rf (t0.1.map AV.int) (ck (decide (0≤t1.1)) (ck (decide (t1.1<(t0.1.length:Int)))
(∀x6,t0.1[t1.1.toNat]?=some x6 →
(R x6))))) fun x6 =>
(.req 84 (0≤4∧4≤1000) fun h7 =>
(.callH [0] (memsT_h L t1.2.1 4 h7) 84
(.loop 2 (scnT_n2 L p most t0 t1 x6) (I2 t0 t1 x6) (m2 t0 t1 x6) (0,((memsT L 4 t1.2.1).1).list) [0,1,2,3,100,84] fun (t2:Int×(List Mem)) b2 =>
(.br 22 (decide (t2.1<(((((memsT L 4 t1.2.1).1).list).map Mem.v).length:Int))) (.say (ck (cond (decide (0≤t2.1)) (decide (t2.1<((t2.2.map Mem.v).length:Int))) false)) (.el 134 Mem.v t2.2 (fun R=>Rf (t2.2.map Mem.v) (ck (decide (t2.1.toNat<t2.2.length))
(∀x8,t2.2[t2.1.toNat]?=some x8 →
(R x8)))) fun x8 =>
(.say (ck (cond (decide (0≤t2.1)) (decide (t2.1<((t2.2.map Mem.v).length:Int))) false)) (.st 262 Mem.v t2.2 (fun y9=>(⟨y9.host,y9.grp,y9.mode,y9.srcs,W (x8.til+(W ((pickI [0,100] (scnT_v1 L p most))-((memsT L 4 t1.2.1).1).now)))⟩:Mem)) (fun R=>Rf (t2.2.map Mem.v) (ck (decide (t2.1.toNat<t2.2.length))
(∀y9,t2.2[t2.1.toNat]?=some y9→Rf (Mem.v (⟨y9.host,y9.grp,y9.mode,y9.srcs,W (x8.til+(W ((pickI [0,100] (scnT_v1 L p most))-((memsT L 4 t1.2.1).1).now)))⟩:Mem))
((R y9))))) fun y9 =>
(.say (ck (cond (decide (0≤t2.1)) (decide (t2.1<(((t2.2.set t2.1.toNat (⟨y9.host,y9.grp,y9.mode,y9.srcs,W (x8.til+(W ((pickI [0,100] (scnT_v1 L p most))-((memsT L 4 t1.2.1).1).now)))⟩:Mem)).map Mem.v).length:Int))) false)) (.el 470 Mem.v (t2.2.set t2.1.toNat (⟨y9.host,y9.grp,y9.mode,y9.srcs,W (x8.til+(W ((pickI [0,100] (scnT_v1 L p most))-((memsT L 4 t1.2.1).1).now)))⟩:Mem)) (fun R=>Rf ((t2.2.set t2.1.toNat (⟨y9.host,y9.grp,y9.mode,y9.srcs,W (x8.til+(W ((pickI [0,100] (scnT_v1 L p most))-((memsT L 4 t1.2.1).1).now)))⟩:Mem)).map Mem.v) (ck (decide (t2.1.toNat<(t2.2.set t2.1.toNat (⟨y9.host,y9.grp,y9.mode,y9.srcs,W (x8.til+(W ((pickI [0,100] (scnT_v1 L p most))-((memsT L 4 t1.2.1).1).now)))⟩:Mem)).length))
(∀x10,(t2.2.set t2.1.toNat (⟨y9.host,y9.grp,y9.mode,y9.srcs,W (x8.til+(W ((pickI [0,100] (scnT_v1 L p most))-((memsT L 4 t1.2.1).1).now)))⟩:Mem))[t2.1.toNat]?=some x10 →
(R x10)))) fun x10 =>
(.say (ck (cond (decide (0≤t2.1)) (decide (t2.1<(((t2.2.set t2.1.toNat (⟨y9.host,y9.grp,y9.mode,y9.srcs,W (x8.til+(W ((pickI [0,100] (scnT_v1 L p most))-((memsT L 4 t1.2.1).1).now)))⟩:Mem)).map Mem.v).length:Int))) false)) (.st 534 Mem.v (t2.2.set t2.1.toNat (⟨y9.host,y9.grp,y9.mode,y9.srcs,W (x8.til+(W ((pickI [0,100] (scnT_v1 L p most))-((memsT L 4 t1.2.1).1).now)))⟩:Mem)) (fun y11=>(⟨W ((W (10 * ((t1.2.2.map Sit.v).length:Int)))+x10.host),y11.grp,y11.mode,y11.srcs,y11.til⟩:Mem)) (fun R=>Rf ((t2.2.set t2.1.toNat (⟨y9.host,y9.grp,y9.mode,y9.srcs,W (x8.til+(W ((pickI [0,100] (scnT_v1 L p most))-((memsT L 4 t1.2.1).1).now)))⟩:Mem)).map Mem.v) (ck (decide (t2.1.toNat<(t2.2.set t2.1.toNat (⟨y9.host,y9.grp,y9.mode,y9.srcs,W (x8.til+(W ((pickI [0,100] (scnT_v1 L p most))-((memsT L 4 t1.2.1).1).now)))⟩:Mem)).length))
(∀y11,(t2.2.set t2.1.toNat (⟨y9.host,y9.grp,y9.mode,y9.srcs,W (x8.til+(W ((pickI [0,100] (scnT_v1 L p most))-((memsT L 4 t1.2.1).1).now)))⟩:Mem))[t2.1.toNat]?=some y11→Rf (Mem.v (⟨W ((W (10 * ((t1.2.2.map Sit.v).length:Int)))+x10.host),y11.grp,y11.mode,y11.srcs,y11.til⟩:Mem))
((R y11))))) fun y11 =>
(.bk 2 b2 (W (t2.1+1),(t2.2.set t2.1.toNat (⟨y9.host,y9.grp,y9.mode,y9.srcs,W (x8.til+(W ((pickI [0,100] (scnT_v1 L p most))-((memsT L 4 t1.2.1).1).now)))⟩:Mem)).set t2.1.toNat (⟨W ((W (10 * ((t1.2.2.map Sit.v).length:Int)))+x10.host),y11.grp,y11.mode,y11.srcs,y11.til⟩:Mem)) [0,1,2,3,4,5])))))))))
(.wait (.say (Rf (t2.2.map Mem.v)) (.cmd (.frzE 5 (t2.2.map Mem.v) (pureBL_map (fun _=>rfl) t2.2)) (.say (fun R=>Rf (α:=List AV) (t1.2.2.map Sit.v) (Rf (α:=List AV) [.agg [.int x6,.int (pickI [0,100] (scnT_v1 L p most)),.sl 5 (t2.2.map Mem.v) false]]
(ck (decide (t1.2.2.length+1≤1048576))
R))) (.app 166 Sit.v t1.2.2 [(⟨x6,pickI [0,100] (scnT_v1 L p most),t2.2⟩:Sit)]
(.bk 1 b1 (W (t1.1+1),(memsT L 4 t1.2.1).2,t1.2.2++[(⟨x6,pickI [0,100] (scnT_v1 L p most),t2.2⟩:Sit)]) [0,1,2,166])))))))))))
(.req 36 (t0.1.length≤1000) fun h12 =>
(.callP (newOR_c t0.1 h12)
(.callH [0] (N_h L t1.2.1 4) 148
(.loop 3 (scnT_n3 L p most t0 t1) (I3 t0 t1) (m3 t0 t1) (Mod (rawV L t1.2.1) 4,((newN t0.1).1).sp,((newN t0.1).1).ls,((newN t0.1).1).fl,rawP L t1.2.1) [0,1,2,3] fun (t3:Int×(List Spk)×(List Lsn)×(List Sig)×Nat) b3 =>
(.br 36 (decide (0<t3.1)) (.br 84 (decide (0<((t0.1.map AV.int).length:Int))) (.req 132 (okAct (⟨t3.2.1,t3.2.2.1,t3.2.2.2.1⟩:Ovl)) fun h13 =>
(.callH [0] (actT_h L t3.2.2.2.2 (⟨t3.2.1,t3.2.2.1,t3.2.2.2.1⟩:Ovl) h13) 132
(.bk 3 b3 (W (t3.1-1),((actT L t3.2.2.2.2 (⟨t3.2.1,t3.2.2.1,t3.2.2.2.1⟩:Ovl)).1).sp,((actT L t3.2.2.2.2 (⟨t3.2.1,t3.2.2.1,t3.2.2.2.1⟩:Ovl)).1).ls,((actT L t3.2.2.2.2 (⟨t3.2.1,t3.2.2.1,t3.2.2.2.1⟩:Ovl)).1).fl,(actT L t3.2.2.2.2 (⟨t3.2.1,t3.2.2.1,t3.2.2.2.1⟩:Ovl)).2) [0,1,2,3])))
(.bk 3 b3 (W (t3.1-1),t3.2.1,t3.2.2.1,t3.2.2.2.1,t3.2.2.2.2) [0,1,2,3]))
(.loop 4 (scnT_n4 L p most t1) (I4 t0 t1 t3) (m4 t0 t1 t3) (0,t3.2.1,t3.2.2.1,t3.2.2.2.1,t3.2.2.2.2) [0,1,2,3] fun (t4:Int×(List Spk)×(List Lsn)×(List Sig)×Nat) b4 =>
(.br 20 (decide (t4.1<((t1.2.2.map Sit.v).length:Int))) (.say (ck (cond (decide (0≤t4.1)) (decide (t4.1<((t1.2.2.map Sit.v).length:Int))) false)) (.el 36 Sit.v t1.2.2 (fun R=>Rf (t1.2.2.map Sit.v) (ck (decide (t4.1.toNat<t1.2.2.length))
(∀x14,t1.2.2[t4.1.toNat]?=some x14 →
(R x14)))) fun x14 =>
(.callP (ofW_c (⟨x14.now,x14.list⟩:Mems))
(.join 5 (scnT_n5 L p most t1 t4 x14) (fun (t5:Bool×Nat)=>I5 t0 t1 t3 t4 x14 t5) (fun b5=>(.br 260 (((ofW (⟨x14.now,x14.list⟩:Mems)).2)==0) (.callH [0] (N_h L t4.2.2.2.2 6) 276
(.bk 5 b5 (decide (0<(Mod (rawV L t4.2.2.2.2) 6)),rawP L t4.2.2.2.2) [0,1,2,3,52]))
(.bk 5 b5 (false,t4.2.2.2.2) [0,1,2,3,52]))) fun (t5:Bool×Nat) =>
(.br 5 t5.1 (.req 85 ((⟨t4.2.1,t4.2.2.1,t4.2.2.2.1⟩:Ovl).fl.length≤1000000) fun h15 =>
(.callP (chgOR_c (⟨t4.2.1,t4.2.2.1,t4.2.2.2.1⟩:Ovl) x14.router ((ofW (⟨x14.now,x14.list⟩:Mems)).1) h15)
(.br 229 (((changeV (⟨t4.2.1,t4.2.2.1,t4.2.2.2.1⟩:Ovl) x14.router ((ofW (⟨x14.now,x14.list⟩:Mems)).1)).2)==0) (.bk 4 b4 (W (t4.1+1),((changeV (⟨t4.2.1,t4.2.2.1,t4.2.2.2.1⟩:Ovl) x14.router ((ofW (⟨x14.now,x14.list⟩:Mems)).1)).1).sp,((changeV (⟨t4.2.1,t4.2.2.1,t4.2.2.2.1⟩:Ovl) x14.router ((ofW (⟨x14.now,x14.list⟩:Mems)).1)).1).ls,((changeV (⟨t4.2.1,t4.2.2.1,t4.2.2.2.1⟩:Ovl) x14.router ((ofW (⟨x14.now,x14.list⟩:Mems)).1)).1).fl,t5.2) [0,1,2,3])
(.bk 4 b4 (W (t4.1+1),t4.2.1,t4.2.2.1,t4.2.2.2.1,t5.2) [0,1,2,3]))))
(.bk 4 b4 (W (t4.1+1),t4.2.1,t4.2.2.1,t4.2.2.2.1,t5.2) [0,1,2,3]))))))
(.callH [0] (N_h L t4.2.2.2.2 4) 36
(.loop 6 (scnT_n6 L p most t1) (I6 t0 t1 t3 t4) (m6 t0 t1 t3 t4) (Mod (rawV L t4.2.2.2.2) 4,t4.2.1,t4.2.2.1,t4.2.2.2.1,rawP L t4.2.2.2.2) [0,1,2,3] fun (t6:Int×(List Spk)×(List Lsn)×(List Sig)×Nat) b6 =>
(.br 36 (decide (0<t6.1)) (.req 148 (0≤((t6.2.2.2.1.map Sig.v).length:Int)∧((t6.2.2.2.1.map Sig.v).length:Int)≤1000000) fun h16 =>
(.callH [0] (fltsT_h L t6.2.2.2.2 ((t6.2.2.2.1.map Sig.v).length:Int) h16) 148
(.req 164 (okRnd (⟨t6.2.1,t6.2.2.1,t6.2.2.2.1⟩:Ovl) ((faultsT L ((t6.2.2.2.1.map Sig.v).length:Int) t6.2.2.2.2).1)) fun h17 =>
(.callP (rndOR_c (⟨t6.2.1,t6.2.2.1,t6.2.2.2.1⟩:Ovl) ((faultsT L ((t6.2.2.2.1.map Sig.v).length:Int) t6.2.2.2.2).1) h17)
(.bk 6 b6 (W (t6.1-1),((roundO (⟨t6.2.1,t6.2.2.1,t6.2.2.2.1⟩:Ovl) ((faultsT L ((t6.2.2.2.1.map Sig.v).length:Int) t6.2.2.2.2).1)).1).sp,((roundO (⟨t6.2.1,t6.2.2.1,t6.2.2.2.1⟩:Ovl) ((faultsT L ((t6.2.2.2.1.map Sig.v).length:Int) t6.2.2.2.2).1)).1).ls,((roundO (⟨t6.2.1,t6.2.2.1,t6.2.2.2.1⟩:Ovl) ((faultsT L ((t6.2.2.2.1.map Sig.v).length:Int) t6.2.2.2.2).1)).1).fl,(faultsT L ((t6.2.2.2.1.map Sig.v).length:Int) t6.2.2.2.2).2) [0,1,2,3])))))
(.say (Rf (t1.2.2.map Sit.v)) (.cmdL (.frzE 3 (t1.2.2.map Sit.v) (pureBL_map (fun _=>rfl) t1.2.2)) (.retH ((⟨L,t6.2.2.2.2⟩:Tap),(⟨((topoT L p most).1).rs,((topoT L p most).1).ls,((scnT_v0 L p most).1).sub,((scnT_v0 L p most).1).len,((scnT_v0 L p most).1).es,t1.2.2,t6.2.1,t6.2.2.1,t6.2.2.2.1⟩:Scn)) ⟨[(4,.k,.ref 1 0)],[.box (.agg [.sl 1 (L.map AV.int) false,.int ((t6.2.2.2.2:Nat):Int)]),.box (.agg [.sl 2 ((((topoT L p most).1).rs).map Rtr.v) false,.sl 5 ((((topoT L p most).1).ls).map Lnk.v) false,.int (((scnT_v0 L p most).1).sub),.int (((scnT_v0 L p most).1).len),.sl 2 ((((scnT_v0 L p most).1).es).map Edg.v) false,.sl 3 (t1.2.2.map Sit.v) false,.sl 5 (t6.2.1.map Spk.v) false,.sl 3 (t6.2.2.1.map Lsn.v) false,.sl 10 (t6.2.2.2.1.map Sig.v) false])]⟩ [0,1]))))))))))))))))))))))))
def scnT_vc(L:(List Int))(p:Nat)(most:Int)(I0:((List Int)×Int)→Prop)(m0:((List Int)×Int)→Nat)(I1:(List Int)×Int→(Int×Nat×(List Sit))→Prop)(m1:(List Int)×Int→(Int×Nat×(List Sit))→Nat)(I2:(List Int)×Int→Int×Nat×(List Sit)→Int→(Int×(List Mem))→Prop)(m2:(List Int)×Int→Int×Nat×(List Sit)→Int→(Int×(List Mem))→Nat)(I3:(List Int)×Int→Int×Nat×(List Sit)→(Int×(List Spk)×(List Lsn)×(List Sig)×Nat)→Prop)(m3:(List Int)×Int→Int×Nat×(List Sit)→(Int×(List Spk)×(List Lsn)×(List Sig)×Nat)→Nat)(I4:(List Int)×Int→Int×Nat×(List Sit)→Int×(List Spk)×(List Lsn)×(List Sig)×Nat→(Int×(List Spk)×(List Lsn)×(List Sig)×Nat)→Prop)(m4:(List Int)×Int→Int×Nat×(List Sit)→Int×(List Spk)×(List Lsn)×(List Sig)×Nat→(Int×(List Spk)×(List Lsn)×(List Sig)×Nat)→Nat)(I5:(List Int)×Int→Int×Nat×(List Sit)→Int×(List Spk)×(List Lsn)×(List Sig)×Nat→Int×(List Spk)×(List Lsn)×(List Sig)×Nat→Sit→(Bool×Nat)→Prop)(I6:(List Int)×Int→Int×Nat×(List Sit)→Int×(List Spk)×(List Lsn)×(List Sig)×Nat→Int×(List Spk)×(List Lsn)×(List Sig)×Nat→(Int×(List Spk)×(List Lsn)×(List Sig)×Nat)→Prop)(m6:(List Int)×Int→Int×Nat×(List Sit)→Int×(List Spk)×(List Lsn)×(List Sig)×Nat→Int×(List Spk)×(List Lsn)×(List Sig)×Nat→(Int×(List Spk)×(List Lsn)×(List Sig)×Nat)→Nat)(r0:Tap×Scn):Prop:=(scnT_x L p most I0 m0 I1 m1 I2 m2 I3 m3 I4 m4 I5 I6 m6).vc scnT_e scnT_b r0
set_option maxHeartbeats 1000000 in
theorem scnT_p(L:List Int)(p:Nat)(most:Int)(h:1≤most∧most≤8)(ok:scnT_a L p most):∃I0 m0 I1 m1 I2 m2 I3 m3 I4 m4 I5 I6 m6,scnT_vc L p most I0 m0 I1 m1 I2 m2 I3 m3 I4 m4 I5 I6 m6 ((⟨L,(scnT L p most).2⟩:Tap),(scnT L p most).1):=by
 refine ⟨fun t=>ForG (scnP L p most).1.es (fun out e=>put out e.router) [] t.2 t.1,fun t=>(scnP L p most).1.es.length-t.2.toNat,
  fun _ t=>∃k:Nat,t.1=k∧k≤(scnR L p most).length∧t.2.2.length=k∧sitsL L (scnN L p most) ((scnR L p most).drop k) t.2.2 t.2.1=scnS L p most,fun _ t=>(scnR L p most).length-t.1.toNat,
  fun _ s _ t=>∃j:Nat,t.1=j∧j≤(memsT L 4 s.2.1).1.list.length∧t.2=((memsT L 4 s.2.1).1.list.take j).map (shM (scnN L p most-(memsT L 4 s.2.1).1.now) (10 * s.2.2.length))++(memsT L 4 s.2.1).1.list.drop j,fun _ s _ t=>(memsT L 4 s.2.1).1.list.length-t.1.toNat,
  fun _ _ t=>∃k:Nat,t.1=k∧k≤3∧NIB (scnR L p most) ⟨t.2.1,t.2.2.1,t.2.2.2.1⟩ (14440 * (3-k))∧actsL L (decide (0<(scnR L p most).length)) k (⟨t.2.1,t.2.2.1,t.2.2.2.1⟩,t.2.2.2.2)=scnA L p most,fun _ _ t=>t.1.toNat,
  fun _ _ _ t=>∃k:Nat,t.1=k∧k≤(scnS L p most).1.length∧NIB (scnR L p most) ⟨t.2.1,t.2.2.1,t.2.2.2.1⟩ 43320∧chgsL L ((scnS L p most).1.drop k) (⟨t.2.1,t.2.2.1,t.2.2.2.1⟩,t.2.2.2.2)=scnC L p most,fun _ _ _ t=>(scnS L p most).1.length-t.1.toNat,
  fun _ _ _ s x b=>b=if (ofW ⟨x.now,x.list⟩).2=0 then (decide (0<Mod (rawV L s.2.2.2.2) 6),rawP L s.2.2.2.2) else (false,s.2.2.2.2),
  fun _ _ _ _ t=>∃k:Nat,t.1=k∧k≤3∧NIB (scnR L p most) ⟨t.2.1,t.2.2.1,t.2.2.2.1⟩ (43320+14403 * (3-k))∧rndsL L k (⟨t.2.1,t.2.2.1,t.2.2.2.1⟩,t.2.2.2.2)=scnZ L p most,fun _ _ _ _ t=>t.1.toNat,?_⟩
 dsimp only [scnT_vc,scnT_x,scnT_s,scnT_v0,scnT_v1,Ax.vp,Ax.vc];simp only [vcU,rfU,List.length_map]
 obtain ⟨t1,t2,t3⟩:=topoT_rs (L:=L) (p:=p) (most:=most) (by omega)
 have hP:plnT L (topoT L p most).2 (topoT L p most).1=scnP L p most:=rfl
 have hN:pickI [0,100] (rawV L (scnP L p most).2)=scnN L p most:=rfl
 have hp:=scnP_ok (L:=L) (p:=p) h
 have hes:=hp.es
 obtain ⟨hR,hR8⟩:=scnR_ok (L:=L) (p:=p) h
 have hnow:=scnN_ok (L:=L) (p:=p) (most:=most)
 obtain ⟨hS,hSr⟩:=scnS_ok (L:=L) (p:=p) h
 have hS8:=scnS_len (L:=L) (p:=p) h
 rw [hP,hN]
 refine ⟨by omega,by omega,ForG.zero,?_⟩
 rintro ⟨rts,i⟩ h0
 simp only at h0 ⊢
 have hlen:=h0.len (f:=List.length) (a:=0) (b:=1) (by simp) fun s x _=>put_length s x.router
 refine ⟨fun c=>⟨h0.idx,c,fun x hx=>⟨?_,h0.step (by omega) hx rfl⟩⟩,fun c=>?_⟩
 ·have:=lt_of_get hx;omega
 have e:rts=scnR L p most:=h0.done c
 subst e
 clear h0 hlen
 refine ⟨by simp,⟨0,rfl,by omega,rfl,rfl⟩,?_⟩
 rintro ⟨i1,q1,sits⟩ ⟨k1,hi1,hk1,hl1,hr1⟩
 simp only at hi1 hl1 hr1 ⊢
 subst hi1
 simp only [Int.toNat_natCast]
 refine ⟨fun c1=>⟨by omega,by omega,fun r hr=>⟨by omega,⟨0,rfl,by omega,by simp⟩,?_⟩⟩,fun c1=>?_⟩
 ·have hk1':k1<(scnR L p most).length:=by omega
  obtain ⟨m1,m2,m3,m4⟩:=memsT_ok L (n:=4) q1 (by omega)
  rintro ⟨j,ml⟩ ⟨k2,hj,hk2,hml⟩
  simp only at hj hml ⊢
  subst hj
  simp only [Int.toNat_natCast]
  generalize hM:memsT L 4 q1=M at *
  have hmll:ml.length=M.1.list.length:=by rw [hml];simp;omega
  refine ⟨fun c2=>?_,fun c2=>?_⟩
  ·have hk2':k2<M.1.list.length:=by omega
   have hb:(bif decide ((0:Int)≤(k2:Int)) then decide ((k2:Int)<ml.length) else false)=true:=range2 (by omega) (by omega)
   have hg:ml[k2]?=some M.1.list[k2]:=by rw [hml];exact get_upd hk2'
   have hmk:=m2 _ (List.getElem_mem hk2')
   have t1:=hmk.til;have t2:=hmk.host
   generalize hx0:M.1.list[k2]=x0 at *
   refine ⟨hb,by omega,fun x8 e8=>⟨hb,by omega,fun x9 e9=>?_⟩⟩
   rw [hg] at e8 e9;cases e8;cases e9
   refine ⟨range2 (by omega) (by rw [List.length_set];omega),by rw [List.length_set];omega,fun x10 e10=>⟨range2 (by omega) (by rw [List.length_set];omega),by rw [List.length_set];omega,fun x11 e11=>?_⟩⟩
   rw [List.getElem?_set_self (by omega)] at e10 e11;cases e10;cases e11
   have w1:W (scnN L p most-M.1.now)=scnN L p most-M.1.now:=W_eq (by omega)
   have w2:W (x0.til+(scnN L p most-M.1.now))=x0.til+(scnN L p most-M.1.now):=W_eq (by omega)
   have w3:W (10 * (sits.length:Int))=10 * (sits.length:Int):=W_eq (by omega)
   have w4:W (10 * (sits.length:Int)+x0.host)=10 * (sits.length:Int)+x0.host:=W_eq (by omega)
   rw [w1,w2,w3,w4,W_succ (n:=M.1.list.length) hk2' (by omega),List.set_set]
   refine ⟨⟨k2+1,rfl,by omega,?_⟩,by omega⟩
   rw [hml,←set_upd hk2',hx0]
   rfl
  ·have:k2=M.1.list.length:=by omega
   subst this
   rw [List.take_of_length_le (Nat.le_refl _),List.drop_of_length_le (Nat.le_refl _),List.append_nil] at hml
   rw [W_succ (n:=(scnR L p most).length) hk1' (by omega)]
   refine ⟨by omega,⟨k1+1,rfl,by omega,by simp [hl1],?_⟩,by omega⟩
   have hd:=List.drop_eq_getElem_cons hk1'
   have hre:(scnR L p most)[k1]=r:=by rw [List.getElem?_eq_getElem hk1'] at hr;exact Option.some.inj hr
   rw [hd,hre,sitsL,hM] at hr1
   rw [hml];exact hr1
 have:k1=(scnR L p most).length:=by omega
 subst this
 rw [List.drop_of_length_le (Nat.le_refl _),sitsL] at hr1
 have hs1:sits=(scnS L p most).1:=congrArg Prod.fst hr1
 have hs2:q1=(scnS L p most).2:=congrArg Prod.snd hr1
 subst hs1;subst hs2
 clear hr1
 have h4:=Mod_range (x:=rawV L (scnS L p most).2) (n:=4) (by decide)
 have z0:=scn0_ni (L:=L) (p:=p) h
 have hA:scnA L p most=actsL L (decide (0<(scnR L p most).length)) (Mod (rawV L (scnS L p most).2) 4).toNat ((newN (scnR L p most)).1,rawP L (scnS L p most).2):=rfl
 generalize (newN (scnR L p most)).1=o0 at hA z0 ⊢
 refine ⟨by omega,⟨(Mod (rawV L (scnS L p most).2) 4).toNat,by omega,by omega,?_,hA.symm⟩,?_⟩
 ·exact z0.more (by omega)
 rintro ⟨c3,sp3,ls3,fl3,q3⟩ ⟨k3,hc3,hk3,hw3,hr3⟩
 simp only at hc3 hw3 hr3 ⊢
 subst hc3
 have hfl3:=hw3.2
 simp only at hfl3
 refine ⟨fun d=>⟨fun e=>⟨⟨?_,by show fl3.length≤300000;omega⟩,?_⟩,fun e=>?_⟩,fun d=>?_⟩
 ·have:=hw3.1.spl;show 0<sp3.length;simp only at this;omega
 ·rw [W_pred (by omega) (by omega)]
  obtain ⟨k',rfl⟩:∃k',k3=k'+1:=⟨k3-1,by omega⟩
  rw [actsL,decide_eq_true (by omega),if_pos rfl] at hr3
  simp only [Nat.add_sub_cancel]
  refine ⟨⟨k',rfl,by omega,?_,?_⟩,by omega⟩
  ·exact (hw3.act (L:=L) (p:=q3)).more (by omega)
  ·rw [decide_eq_true (by omega)];exact hr3
 ·rw [W_pred (by omega) (by omega)]
  obtain ⟨k',rfl⟩:∃k',k3=k'+1:=⟨k3-1,by omega⟩
  rw [actsL,decide_eq_false (by omega),if_neg (by simp)] at hr3
  simp only [Nat.add_sub_cancel]
  refine ⟨⟨k',rfl,by omega,hw3.more (by omega),?_⟩,by omega⟩
  rw [decide_eq_false (by omega)];exact hr3
 have:k3=0:=by omega
 subst this
 rw [actsL] at hr3
 refine ⟨⟨0,rfl,by omega,?_,?_⟩,?_⟩
 ·exact hw3.more (by omega)
 ·rw [List.drop_zero,hr3];rfl
 clear hw3 hr3 hfl3
 rintro ⟨i4,sp4,ls4,fl4,q4⟩ ⟨k4,hi4,hk4,hw4,hr4⟩
 simp only at hi4 hw4 hr4 ⊢
 subst hi4
 simp only [Int.toNat_natCast]
 have hfl4:=hw4.2
 simp only at hfl4
 refine ⟨fun d=>⟨range2 (by omega) d,by omega,fun x hx=>⟨⟨fun e=>?_,fun e=>?_⟩,?_⟩⟩,fun d=>?_⟩
 ·rw [if_pos (eq_of_beq e)]
 ·rw [if_neg (by simpa using e)]
 ·have hk4':=lt_of_get hx
  have hxe:(scnS L p most).1[k4]=x:=by rw [List.getElem?_eq_getElem hk4'] at hx;exact Option.some.inj hx
  have hd:=List.drop_eq_getElem_cons hk4'
  rw [hd,hxe,chgsL] at hr4
  have hw5:=chg1L_ni (L:=L) (x:=x) (s:=(⟨sp4,ls4,fl4⟩,q4)) hw4
  rw [W_succ (n:=(scnS L p most).1.length) hk4' (by omega)]
  have fin:∀{o:Ovl} {q:Nat},chg1L L x (⟨sp4,ls4,fl4⟩,q4)=(o,q)→(∃k:Nat,((k4+1:Nat):Int)=k∧k≤(scnS L p most).1.length∧NIB (scnR L p most) ⟨o.sp,o.ls,o.fl⟩ 43320∧chgsL L ((scnS L p most).1.drop k) (⟨o.sp,o.ls,o.fl⟩,q)=scnC L p most) ∧
    (scnS L p most).1.length-(((k4+1:Nat):Int)).toNat<(scnS L p most).1.length-k4:=by
   intro o q e
   rw [e] at hr4 hw5
   exact ⟨⟨k4+1,rfl,by omega,hw5.more (by omega),hr4⟩,by omega⟩
  rintro ⟨b5,q5⟩ hb5
  simp only at hb5 ⊢
  by_cases e1:(ofW ⟨x.now,x.list⟩).2=0
  ·rw [if_pos e1] at hb5
   simp only [Prod.mk.injEq] at hb5
   obtain ⟨rfl,rfl⟩:=hb5
   refine ⟨fun e2=>⟨by omega,fun e3=>fin ?_,fun e3=>fin (o:=⟨sp4,ls4,fl4⟩) ?_⟩,fun e2=>fin (o:=⟨sp4,ls4,fl4⟩) ?_⟩
   ·rw [chg1L,if_pos e1,if_pos (of_decide_eq_true e2),orO,if_neg (not_not_intro (eq_of_beq e3))]
   ·rw [chg1L,if_pos e1,if_pos (of_decide_eq_true e2),orO,if_pos (by simpa using e3)]
   ·rw [chg1L,if_pos e1,if_neg (of_decide_eq_false e2)]
  ·rw [if_neg e1] at hb5
   simp only [Prod.mk.injEq] at hb5
   obtain ⟨rfl,rfl⟩:=hb5
   refine ⟨fun e2=>by simp at e2,fun e2=>fin (o:=⟨sp4,ls4,fl4⟩) ?_⟩
   rw [chg1L,if_neg e1]
 have:k4=(scnS L p most).1.length:=by omega
 subst this
 rw [List.drop_of_length_le (Nat.le_refl _),chgsL] at hr4
 have hz:(⟨sp4,ls4,fl4⟩:Ovl)=(scnC L p most).1:=congrArg Prod.fst hr4
 have hq:q4=(scnC L p most).2:=congrArg Prod.snd hr4
 have z5:=scnC_ni (L:=L) (p:=p) h
 rw [←hz] at z5
 have h6:=Mod_range (x:=rawV L q4) (n:=4) (by decide)
 refine ⟨⟨(Mod (rawV L q4) 4).toNat,by omega,by omega,z5.more (by omega),?_⟩,?_⟩
 ·rw [hz,hq];rfl
 rintro ⟨c6,sp6,ls6,fl6,q6⟩ ⟨k6,hc6,hk6,hw6,hr6⟩
 simp only at hc6 hw6 hr6 ⊢
 subst hc6
 have hfl6:=hw6.2
 simp only at hfl6
 refine ⟨fun d=>⟨by omega,⟨by show fl6.length≤400000;omega,?_⟩,?_⟩,fun d=>?_⟩
 ·have:=faultsT_len (L:=L) (n:=fl6.length) (p:=q6);omega
 ·rw [W_pred (by omega) (by omega)]
  obtain ⟨k',rfl⟩:∃k',k6=k'+1:=⟨k6-1,by omega⟩
  rw [rndsL] at hr6
  simp only [Nat.add_sub_cancel]
  have hf:=faultsT_len (L:=L) (n:=fl6.length) (p:=q6)
  exact ⟨⟨k',rfl,by omega,((hw6.round _).2).more (by omega),hr6⟩,by omega⟩
 ·have:k6=0:=by omega
  subst this
  rw [rndsL] at hr6
  rw [scnT,←hr6]
def scnT_h(L:(List Int))(p:Nat)(most:Int)(h:1≤most∧most≤8):HC Tryz.prog:=⟨8,[.k,.k],[.ref 0 0,.int most],[.box (.agg [.sl 1 (L.map AV.int) false,.int ((p:Nat):Int)])],scnT_e ((⟨L,(scnT L p most).2⟩:Tap),(scnT L p most).1),scnT_b ((⟨L,(scnT L p most).2⟩:Tap),(scnT L p most).1),HSpec.of_okh fun ok ok2=>have ok:scnT_a L p most:=⟨ok,ok2 _ (by simp)⟩;(scnT_p L p most h ok).elim fun I0 h=>h.elim fun m0 h=>h.elim fun I1 h=>h.elim fun m1 h=>h.elim fun I2 h=>h.elim fun m2 h=>h.elim fun I3 h=>h.elim fun m3 h=>h.elim fun I4 h=>h.elim fun m4 h=>h.elim fun I5 h=>h.elim fun I6 h=>h.elim fun m6 h=>mxH_of (sh:=(.a [(.s 2),(.s 5),.k,.k,(.s 2),(.s 3),(.s 5),(.s 3),(.s 10)])) (enc:=scnT_e) (hB:=scnT_b) (a:=(scnT_x L p most I0 m0 I1 m1 I2 m2 I3 m3 I4 m4 I5 I6 m6).an) h (by kernel_rfl),fnB_ok (by kernel_rfl),HcOk.of (by simp [hcB,belBL,AV.belB,allB,okBk,okBkO,scnT_e,scnT_b,pureBL_map (v:=AV.int) (fun _=>rfl)])⟩
def valFl(f:Flw):Bool:=decide (1≤f.src∧f.src≤99) && decide (1≤f.grp∧f.grp≤99)
def valFl_a(f:Flw):Prop:=okL [.agg [.int f.src,.int f.grp]]
def valFl_e(r:Bool):AV:=.bool r
def valFl_x(f:Flw):Ax Tryz.prog noS (Bool):=
 (.br 96 (decide (1≤f.src)) (.br 176 (decide (f.src≤99)) (.br 256 (decide (1≤f.grp)) (.ret (decide (f.grp≤99)))
(.ret (false)))
(.ret (false)))
(.ret (false)))
def valFl_vc(f:Flw)(r0:Bool):Prop:=(valFl_x f).vp valFl_e r0
theorem valFl_p(f:Flw)(ok:valFl_a f):valFl_vc f (valFl f):=by
 dsimp only [valFl_vc,valFl_x,noS,Ax.vp,Ax.vc];simp only [vcU,rfU,List.length_map]
 refine ⟨fun a=>⟨fun b=>⟨fun c=>?_,fun c=>?_⟩,fun b=>?_⟩,fun a=>?_⟩<;>simp [valFl, *]
def valFl_c(f:Flw):PC Tryz.prog:=⟨52,[.k],[.agg [.int f.src,.int f.grp]],valFl_e (valFl f),PSpec.of_ok fun ok=>mxP_of (sh:=.k) (enc:=valFl_e) (a:=(valFl_x f).an) (valFl_p f ok) (by kernel_rfl) (AV.pureB_ok rfl),fnB_ok (by kernel_rfl)⟩
def inP(n a b:Int):Bool:=decide (a≤n) && decide (n≤b)
def inP_a(n:Int)(least:Int)(most:Int):Prop:=okL [.int n,.int least,.int most]
def inP_e(r:Bool):AV:=.bool r
def inP_x(n:Int)(least:Int)(most:Int):Ax Tryz.prog noS (Bool):=
 (.br 80 (decide (least≤n)) (.ret (decide (n≤most)))
(.ret (false)))
def inP_vc(n:Int)(least:Int)(most:Int)(r0:Bool):Prop:=(inP_x n least most).vp inP_e r0
theorem inP_p(n a b:Int)(ok:inP_a n a b):inP_vc n a b (inP n a b):=by
 dsimp only [inP_vc,inP_x,noS,Ax.vp,Ax.vc];simp only [vcU,rfU,List.length_map]
 refine ⟨fun c=>?_,fun c=>?_⟩<;>simp [inP,c]
def inP_c(n:Int)(least:Int)(most:Int):PC Tryz.prog:=⟨92,[.k,.k,.k],[.int n,.int least,.int most],inP_e (inP n least most),PSpec.of_ok fun ok=>mxP_of (sh:=.k) (enc:=inP_e) (a:=(inP_x n least most).an) (inP_p n least most ok) (by kernel_rfl) (AV.pureB_ok rfl),fnB_ok (by kernel_rfl)⟩
theorem inP_t{n a b:Int}:(!inP n a b)=true↔¬(a≤n∧n≤b):=by
 unfold inP
 by_cases h1:a≤n<;>by_cases h2:n≤b<;>simp [h1,h2]
theorem inP_f{n a b:Int}:(!inP n a b)=false↔a≤n∧n≤b:=by
 unfold inP
 by_cases h1:a≤n<;>by_cases h2:n≤b<;>simp [h1,h2]
def vlenP(n:Int):Bool:=decide (n=8∨n=16∨n=32∨n=64)
def vlenP_a(n:Int):Prop:=okL [.int n]
def vlenP_e(r:Bool):AV:=.bool r
def vlenP_x(n:Int):Ax Tryz.prog noS (Bool):=
 (.br 64 (n==8) (.ret (true))
(.br 128 (n==16) (.ret (true))
(.br 192 (n==32) (.ret (true))
(.ret (n==64)))))
def vlenP_vc(n:Int)(r0:Bool):Prop:=(vlenP_x n).vp vlenP_e r0
theorem vlenP_p(n:Int)(ok:vlenP_a n):vlenP_vc n (vlenP n):=by
 dsimp only [vlenP_vc,vlenP_x,noS,Ax.vp,Ax.vc];simp only [vcU,rfU,List.length_map]
 refine ⟨fun c=>?_,fun c=>⟨fun d=>?_,fun d=>⟨fun e=>?_,fun e=>?_⟩⟩⟩
 ·rw [vlenP,decide_eq_true (.inl (eq_of_beq c))]
 ·rw [vlenP,decide_eq_true (.inr (.inl (eq_of_beq d)))]
 ·rw [vlenP,decide_eq_true (.inr (.inr (.inl (eq_of_beq e))))]
 ·have c:¬n=8:=by simpa using c
  have d:¬n=16:=by simpa using d
  have e:¬n=32:=by simpa using e
  rw [vlenP,Bool.eq_iff_iff,beq_iff_eq,decide_eq_true_eq]
  simp [c,d,e]
def vlenP_c(n:Int):PC Tryz.prog:=⟨93,[.k],[.int n],vlenP_e (vlenP n),PSpec.of_ok fun ok=>mxP_of (sh:=.k) (enc:=vlenP_e) (a:=(vlenP_x n).an) (vlenP_p n ok) (by kernel_rfl) (AV.pureB_ok rfl),fnB_ok (by kernel_rfl)⟩
def eqRt(y x:Edg):Bool:=y.router==x.router
def eqRt_a(y:Edg)(x:Edg):Prop:=okL [.agg [.int y.router,.int y.id],.rptr (.agg [.int x.router,.int x.id]) 0]
def eqRt_e(r:Bool):AV:=.bool r
def eqRt_x(y:Edg)(x:Edg):Ax Tryz.prog noS (Bool):=
 (.ret (y.router==x.router))
def eqRt_vc(y:Edg)(x:Edg)(r0:Bool):Prop:=(eqRt_x y x).vp eqRt_e r0
theorem eqRt_p(y x:Edg)(ok:eqRt_a y x):eqRt_vc y x (eqRt y x):=by
 dsimp only [eqRt_vc,eqRt_x,noS,Ax.vp,Ax.vc];simp only [vcU,rfU,List.length_map]
 rfl
def eqRt_c(y:Edg)(x:Edg):PC Tryz.prog:=⟨95,[.k,.k],[.agg [.int y.router,.int y.id],.rptr (.agg [.int x.router,.int x.id]) 0],eqRt_e (eqRt y x),PSpec.of_ok fun ok=>mxP_of (sh:=.k) (enc:=eqRt_e) (a:=(eqRt_x y x).an) (eqRt_p y x ok) (by kernel_rfl) (AV.pureB_ok rfl),fnB_ok (by kernel_rfl)⟩
def eqRtI_a(s:(List Edg))(f:Edg):Prop:=okL [.sl 2 (s.map Edg.v) false,.func 95 [.rptr (.agg [.int f.router,.int f.id]) 0]]
def eqRtI_n0(s:(List Edg))(f:Edg)(t0:Int):NF:=⟨[(0,.k,.sl 2 (s.map Edg.v) false),(1,.k,.func 95 [.rptr (.agg [.int f.router,.int f.id]) 0]),(7,.k,.int ((s.map Edg.v).length:Int)),(8,.k,.int t0)],[]⟩
@[reducible] def eqRtI_s:Nat→Type
 | 0=>Int
 | _=>Unit
def eqRtI_e(r:Int):AV:=.int r
def eqRtI_x(s:(List Edg))(f:Edg)(I0:Int→Prop)(m0:Int→Nat):Ax Tryz.prog eqRtI_s (Int):=
 (.loop 0 (eqRtI_n0 s f) I0 m0 ((0):Int) [] fun (t0:Int) b0 =>
(.br 16 (decide (t0<((s.map Edg.v).length:Int))) (.el 96 Edg.v s (fun R=>Rf (s.map Edg.v) (ck (decide (0≤t0)) (ck (decide (t0<(s.length:Int)))
(∀x1,s[t0.toNat]?=some x1 →
(R x1))))) fun x1 =>
(.callP (eqRt_c x1 f)
(.br 144 (eqRt x1 f) (.ret (t0))
(.bk 0 b0 ((W (t0+1)):Int) []))))
(.ret (-1))))
def eqRtI_vc(s:(List Edg))(f:Edg)(I0:Int→Prop)(m0:Int→Nat)(r0:Int):Prop:=(eqRtI_x s f I0 m0).vp eqRtI_e r0
theorem eqRtI_p(s:List Edg)(f:Edg)(ok:eqRtI_a s f):∃I m,eqRtI_vc s f I m (idxF (fun y=>eqRt y f) s):=by
 refine ⟨fun t=>ForI s (fun y=>eqRt y f=false) t,fun t=>s.length-t.toNat,?_⟩
 simp only [eqRtI_a,okU,Blk.ok,plainV,List.length_map] at ok
 dsimp only [eqRtI_vc,eqRtI_x,eqRtI_s,Ax.vp,Ax.vc];simp only [vcU,rfU,List.length_map]
 exact ⟨ForI.zero,fun t h=>⟨fun c=>⟨h.idx,c,fun x hx=>⟨fun q=>h.found hx q,fun q=>h.step (by omega) hx q⟩⟩,fun c=>h.lost c⟩⟩
def eqRtI_c(s:(List Edg))(f:Edg):PC Tryz.prog:=⟨129,[(.s 2),.k],[.sl 2 (s.map Edg.v) false,.func 95 [.rptr (.agg [.int f.router,.int f.id]) 0]],eqRtI_e (idxF (fun y=>eqRt y f) s),PSpec.of_ok fun ok=>(eqRtI_p s f ok).elim fun I0 h=>h.elim fun m0 h=>mxP_of (sh:=.k) (enc:=eqRtI_e) (a:=(eqRtI_x s f I0 m0).an) h (by kernel_rfl) (AV.pureB_ok rfl),fnB_ok (by kernel_rfl)⟩
def eqRtA_a(s:(List Edg))(f:Edg):Prop:=okL [.sl 2 (s.map Edg.v) false,.func 95 [.rptr (.agg [.int f.router,.int f.id]) 0]]
def eqRtA_e(r:Bool):AV:=.bool r
def eqRtA_x(s:(List Edg))(f:Edg):Ax Tryz.prog noS (Bool):=
 (.callP (eqRtI_c s f)
(.ret (decide (0≤(idxF (fun y=>eqRt y f) s)))))
def eqRtA_vc(s:(List Edg))(f:Edg)(r0:Bool):Prop:=(eqRtA_x s f).vp eqRtA_e r0
theorem eqRtA_p(s:List Edg)(f:Edg)(ok:eqRtA_a s f):eqRtA_vc s f (s.any fun y=>eqRt y f):=by
 dsimp only [eqRtA_vc,eqRtA_x,noS,Ax.vp,Ax.vc];simp only [vcU,rfU,List.length_map]
 exact idxF_any _ _
def eqRtA_c(s:(List Edg))(f:Edg):PC Tryz.prog:=⟨94,[(.s 2),.k],[.sl 2 (s.map Edg.v) false,.func 95 [.rptr (.agg [.int f.router,.int f.id]) 0]],eqRtA_e (s.any fun y=>eqRt y f),PSpec.of_ok fun ok=>mxP_of (sh:=.k) (enc:=eqRtA_e) (a:=(eqRtA_x s f).an) (eqRtA_p s f ok) (by kernel_rfl) (AV.pureB_ok rfl),fnB_ok (by kernel_rfl)⟩
def edgR(e:Edg):Prop:=(1≤e.id∧e.id≤256)∧1≤e.router∧e.router≤99
instance (e:Edg):Decidable (edgR e):=by unfold edgR;infer_instance
def plnH(p:Pln):Prop:=(0≤p.sub∧p.sub≤7)∧(vlenP p.len=true∨p.len=0∧p.es=[])∧p.es.length≤24
instance (p:Pln):Decidable (plnH p):=by unfold plnH;infer_instance
def plnE(es:List Edg):Prop:=(∀e∈es,edgR e)∧(es.map Edg.router).Nodup∧(es.map Edg.id).Pairwise (·<·)
instance (es:List Edg):Decidable (plnE es):=by unfold plnE;infer_instance
def plnOkB(p:Pln):Bool:=decide (plnH p) && decide (plnE p.es)
def edgG(es:List Edg)(j:Nat)(e:Edg):Prop:=edgR e∧((es.take j).any fun y=>eqRt y e)=false∧∀e',0<j→es[j-1]?=some e'→e'.id<e.id
theorem plnE_iff{es:List Edg}:plnE es↔∀j e,es[j]?=some e→edgG es j e:=by
 constructor
 ·rintro ⟨h1,h2,h3⟩ j e he
  have hj:=lt_of_get he
  rw [List.getElem?_eq_getElem hj] at he
  have he:=Option.some.inj he
  rw [List.nodup_iff_pairwise_ne,List.pairwise_map,List.pairwise_iff_getElem] at h2
  rw [List.pairwise_map,List.pairwise_iff_getElem] at h3
  refine ⟨h1 e (he ▸ List.getElem_mem hj),?_,fun e' h0 he'=>?_⟩
  ·rw [List.any_eq_false]
   intro y hy
   obtain ⟨i,hi,rfl⟩:=List.getElem_of_mem hy
   have hi':i<j:=by simp at hi;omega
   rw [List.getElem_take]
   have:=h2 i j (by omega) hj hi'
   rw [he] at this
   simpa [eqRt] using this
  ·rw [List.getElem?_eq_getElem (by omega)] at he'
   have:=h3 (j-1) j (by omega) hj (by omega)
   rw [he,Option.some.inj he'] at this
   exact this
 ·intro h
  refine ⟨fun e he=>?_,?_,?_⟩
  ·obtain ⟨j,hj⟩:=List.getElem?_of_mem he
   exact (h j e hj).1
  ·rw [List.nodup_iff_pairwise_ne,List.pairwise_map,List.pairwise_iff_getElem]
   intro i j hi hj hij
   have:=(h j _ (List.getElem?_eq_getElem hj)).2.1
   rw [List.any_eq_false] at this
   have:=this es[i] (List.mem_take_iff_getElem.mpr ⟨i,by omega,rfl⟩)
   simpa [eqRt] using this
  ·rw [List.pairwise_map]
   refine ForA.done (l:=es) (R:=fun a b=>a.id<b.id) (t:=((es.length+1:Nat):Int)) ⟨es.length+1,rfl,by omega,by omega,fun j x y hj hx hy=>?_⟩ (by omega) fun x y z q r=>Int.lt_trans q r
   exact (h (j+1) y hy).2.2 x (by omega) (by simpa using hx)
def vplnP_a(p:Pln):Prop:=okL [.agg [.int p.sub,.int p.len,.sl 2 (p.es.map Edg.v) false]]
def vplnP_n0(p:Pln)(t0:Bool):NF:=⟨[(1,.k,.ref 0 0),(32,.k,.bool t0)],[.box (.agg [.int p.sub,.int p.len,.sl 2 (p.es.map Edg.v) false])]⟩
def vplnP_n1(p:Pln)(t1:Int):NF:=⟨[(1,.k,.ref 0 0),(34,.k,.sl 2 (p.es.map Edg.v) false),(35,.k,.int ((p.es.map Edg.v).length:Int)),(36,.k,.int t1)],[.box (.agg [.int p.sub,.int p.len,.sl 2 (p.es.map Edg.v) false])]⟩
def vplnP_n2(p:Pln)(t1:Int)(t2:Bool):NF:=⟨[(1,.k,.ref 0 0),(34,.k,.sl 2 (p.es.map Edg.v) false),(35,.k,.int ((p.es.map Edg.v).length:Int)),(36,.k,.int t1),(75,.k,.bool t2)],[.box (.agg [.int p.sub,.int p.len,.sl 2 (p.es.map Edg.v) false])]⟩
@[reducible] def vplnP_s:Nat→Type
 | 0=>Bool
 | 1=>Int
 | 2=>Bool
 | _=>Unit
def vplnP_e(r:Bool):AV:=.bool r
def vplnP_x(p:Pln)(I0:Bool→Prop)(I1:Bool→Int→Prop)(m1:Bool→Int→Nat)(I2:Bool→Int→Edg→Bool→Prop):Ax Tryz.prog vplnP_s (Bool):=
 (.pass (.pass (.join 0 (vplnP_n0 p) (fun (t0:Bool)=>I0 t0) (fun b0=>(.callP (inP_c p.sub 0 7)
(.br 112 (!(inP p.sub 0 7)) (.bk 0 b0 ((true):Bool) [0])
(.callP (vlenP_c p.len)
(.br 192 (!(vlenP p.len)) (.br 256 (p.len != 0) (.bk 0 b0 ((true):Bool) [0])
(.br 384 (decide (0<((p.es.map Edg.v).length:Int))) (.bk 0 b0 ((true):Bool) [0])
(.bk 0 b0 ((decide (24<((p.es.map Edg.v).length:Int))):Bool) [0])))
(.bk 0 b0 ((decide (24<((p.es.map Edg.v).length:Int))):Bool) [0])))))) fun (t0:Bool) =>
(.br 1 t0 (.ret (false))
(.loop 1 (vplnP_n1 p) (I1 t0) (m1 t0) ((0):Int) [0] fun (t1:Int) b1 =>
(.br 17 (decide (t1<((p.es.map Edg.v).length:Int))) (.el 33 Edg.v p.es (fun R=>Rf (p.es.map Edg.v) (ck (decide (0≤t1)) (ck (decide (t1<(p.es.length:Int)))
(∀x1,p.es[t1.toNat]?=some x1 →
(R x1))))) fun x1 =>
(.say (fun R=>Rf (α:=List AV) (p.es.map Edg.v) (ck (bndB p.es.length 0 t1 (p.es.length:Int))
R)) (.sub 161 Edg.v p.es false
(.callP (eqRtA_c ((p.es.take t1.toNat).drop 0) x1)
(.say (ck (pureBLs [[.agg [.int x1.router,.int x1.id]]])) (.join 2 (vplnP_n2 p t1) (fun (t2:Bool)=>I2 t0 t1 x1 t2) (fun b2=>(.callP (inP_c x1.id 1 256)
(.br 305 (!(inP x1.id 1 256)) (.bk 2 b2 ((true):Bool) [0])
(.callP (inP_c x1.router 1 99)
(.br 401 (!(inP x1.router 1 99)) (.bk 2 b2 ((true):Bool) [0])
(.br 449 ((((p.es.take t1.toNat).drop 0)).any fun y=>eqRt y x1) (.bk 2 b2 ((true):Bool) [0])
(.br 497 (decide (0<t1)) (.el 561 Edg.v p.es (fun R=>Rf (p.es.map Edg.v) (ck (decide (0≤(W (t1-1)))) (ck (decide ((W (t1-1))<(p.es.length:Int)))
(∀x2,p.es[(W (t1-1)).toNat]?=some x2 →
(R x2))))) fun x2 =>
(.bk 2 b2 ((decide (x1.id≤x2.id)):Bool) [0]))
(.bk 2 b2 ((false):Bool) [0])))))))) fun (t2:Bool) =>
(.br 1 t2 (.ret (false))
(.bk 1 b1 ((W (t1+1)):Int) [0]))))))))
(.ret (true))))))))
def vplnP_vc(p:Pln)(I0:Bool→Prop)(I1:Bool→Int→Prop)(m1:Bool→Int→Nat)(I2:Bool→Int→Edg→Bool→Prop)(r0:Bool):Prop:=(vplnP_x p I0 I1 m1 I2).vp vplnP_e r0
theorem vplnP_p(p:Pln)(ok:vplnP_a p):∃I0 I1 m1 I2,vplnP_vc p I0 I1 m1 I2 (plnOkB p):=by
 refine ⟨fun b=>b=decide (¬plnH p),fun _ t=>∃k:Nat,t=k∧k≤p.es.length∧∀j e,j<k→p.es[j]?=some e→edgG p.es j e,fun _ t=>p.es.length-t.toNat,fun _ t x b=>b=true↔¬edgG p.es t.toNat x,?_⟩
 simp only [vplnP_a,okU,Blk.ok,plainV,List.length_map] at ok
 dsimp only [vplnP_vc,vplnP_x,vplnP_s,Ax.vp,Ax.vc];simp only [vcU,rfU,List.length_map]
 have hes:p.es=[]↔¬0<(p.es.length:Int):=by rw [←List.length_eq_zero_iff];omega
 refine ⟨⟨fun c=>?_,fun c=>⟨fun d=>⟨fun e=>?_,fun e=>⟨fun g=>?_,fun g=>?_⟩⟩,fun d=>?_⟩⟩,?_⟩
 ·have c:¬(0≤p.sub∧p.sub≤7):=inP_t.mp c
  exact (decide_eq_true (show ¬plnH p from fun q=>c q.1)).symm
 ·have d:vlenP p.len=false:=by simpa using d
  have e:p.len≠0:=by simpa using e
  exact (decide_eq_true (show ¬plnH p from fun q=>by
   rcases q.2.1 with r|r
   ·rw [d] at r;cases r
   ·exact e r.1)).symm
 ·have d:vlenP p.len=false:=by simpa using d
  exact (decide_eq_true (show ¬plnH p from fun q=>by
   rcases q.2.1 with r|r
   ·rw [d] at r;cases r
   ·exact hes.mp r.2 g)).symm
 ·have c:0≤p.sub∧p.sub≤7:=inP_f.mp c
  have e:p.len=0:=by simpa using e
  rw [decide_eq_decide]
  unfold plnH
  rw [and_iff_right c,and_iff_right (.inr ⟨e,hes.mpr g⟩)]
  omega
 ·have c:0≤p.sub∧p.sub≤7:=inP_f.mp c
  have d:vlenP p.len=true:=by simpa using d
  rw [decide_eq_decide]
  unfold plnH
  rw [and_iff_right c,and_iff_right (.inl d)]
  omega
 rintro _ rfl
 refine ⟨fun c=>?_,fun c=>⟨⟨0,rfl,by omega,fun j e h=>by omega⟩,?_⟩⟩
 ·rw [plnOkB,decide_eq_false (of_decide_eq_true c)];rfl
 have c:=Classical.not_not.mp (of_decide_eq_false c)
 have hl:=c.2.2
 rintro _ ⟨k,rfl,hk,h⟩
 simp only [Int.toNat_natCast]
 refine ⟨fun d=>⟨by omega,d,fun x hx=>⟨by simp [bndB];omega,rfl,?_,?_⟩⟩,fun d=>?_⟩
 ·rw [List.drop_zero]
  refine ⟨fun e1=>?_,fun e1=>⟨fun e2=>?_,fun e2=>⟨fun e3=>?_,fun e3=>⟨fun e4=>?_,fun e4=>?_⟩⟩⟩⟩
  ·have e1:¬(1≤x.id∧x.id≤256):=inP_t.mp e1
   exact iff_of_true trivial fun q=>e1 q.1.1
  ·have e2:¬(1≤x.router∧x.router≤99):=inP_t.mp e2
   exact iff_of_true trivial fun q=>e2 q.1.2
  ·exact iff_of_true trivial fun q=>by rw [q.2.1] at e3;cases e3
  ·have e1:1≤x.id∧x.id≤256:=inP_f.mp e1
   have e2:1≤x.router∧x.router≤99:=inP_f.mp e2
   rw [W_pred (by omega) (by omega)]
   refine ⟨by omega,by omega,fun y hy=>?_⟩
   rw [Int.toNat_natCast] at hy
   constructor
   ·exact fun q r=>by have:=r.2.2 y (by omega) hy;omega
   ·intro q
    refine Classical.byContradiction fun r=>q ⟨⟨e1,e2⟩,e3,fun y' _ hy'=>?_⟩
    rw [hy] at hy';cases hy';omega
  ·have e1:1≤x.id∧x.id≤256:=inP_f.mp e1
   have e2:1≤x.router∧x.router≤99:=inP_f.mp e2
   exact iff_of_false Bool.false_ne_true fun q=>q ⟨⟨e1,e2⟩,e3,fun y' h0 _=>by omega⟩
 ·intro b hb
  refine ⟨fun e=>?_,fun e=>?_⟩
  ·have:¬plnE p.es:=fun q=>hb.mp e (plnE_iff.mp q k x hx)
   rw [plnOkB,decide_eq_false this,Bool.and_false]
  ·have hg:edgG p.es k x:=Classical.not_not.mp fun q=>by rw [hb.mpr q] at e;cases e
   rw [W_succ (n:=p.es.length) (by omega) (by omega)]
   refine ⟨⟨k+1,rfl,by omega,fun j y hj hy=>?_⟩,by omega⟩
   by_cases e':j=k
   ·subst e';rw [hx] at hy;cases hy;exact hg
   ·exact h j y (by omega) hy
 ·have:plnE p.es:=plnE_iff.mpr fun j e he=>h j e (by have:=lt_of_get he;omega) he
  rw [plnOkB,decide_eq_true c,decide_eq_true this];rfl
def vplnP_c(p:Pln):PC Tryz.prog:=⟨51,[(.a [.k,.k,(.s 2)])],[.agg [.int p.sub,.int p.len,.sl 2 (p.es.map Edg.v) false]],vplnP_e (plnOkB p),PSpec.of_ok fun ok=>(vplnP_p p ok).elim fun I0 h=>h.elim fun I1 h=>h.elim fun m1 h=>h.elim fun I2 h=>mxP_of (sh:=.k) (enc:=vplnP_e) (a:=(vplnP_x p I0 I1 m1 I2).an) h (by kernel_rfl) (AV.pureB_ok rfl),fnB_ok (by kernel_rfl)⟩
def fwnt(f:Flt)(s:Int):Bool:=decide (s∈f.srcs)==decide (f.mode=1)
def fwnt_a(f:Flt)(source:Int):Prop:=okL [.agg [.int f.mode,.sl 1 (f.srcs.map AV.int) false],.int source]
def fwnt_e(r:Bool):AV:=.bool r
def fwnt_x(f:Flt)(source:Int):Ax Tryz.prog noS (Bool):=
 (.callP (contI_c f.srcs source)
(.ret ((decide (source∈f.srcs))==(f.mode==1))))
def fwnt_vc(f:Flt)(source:Int)(r0:Bool):Prop:=(fwnt_x f source).vp fwnt_e r0
theorem fwnt_p(f:Flt)(s:Int)(ok:fwnt_a f s):fwnt_vc f s (fwnt f s):=by
 dsimp only [fwnt_vc,fwnt_x,noS,Ax.vp,Ax.vc];simp only [vcU,rfU,List.length_map]
 rfl
def fwnt_c(f:Flt)(source:Int):PC Tryz.prog:=⟨142,[(.a [.k,(.s 1)]),.k],[.agg [.int f.mode,.sl 1 (f.srcs.map AV.int) false],.int source],fwnt_e (fwnt f source),PSpec.of_ok fun ok=>mxP_of (sh:=.k) (enc:=fwnt_e) (a:=(fwnt_x f source).an) (fwnt_p f source ok) (by kernel_rfl) (AV.pureB_ok rfl),fnB_ok (by kernel_rfl)⟩
abbrev fwntP:=wntF
def fwntP_a(f:Flt)(source:Int):Prop:=okL [.agg [.int f.mode,.sl 1 (f.srcs.map AV.int) false],.int source]
def fwntP_e(r:Bool):AV:=.bool r
def fwntP_x(f:Flt)(source:Int):Ax Tryz.prog noS (Bool):=
 (.callP (PVal_c f)
(.br 96 ((fltErr f.mode f.srcs)==0) (.br 160 (decide (0<source)) (.callP (fwnt_c f source)
(.ret (fwnt f source)))
(.ret (false)))
(.ret (false))))
def fwntP_vc(f:Flt)(source:Int)(r0:Bool):Prop:=(fwntP_x f source).vp fwntP_e r0
theorem fwntP_p(f:Flt)(s:Int)(ok:fwntP_a f s):fwntP_vc f s (fwntP f s):=by
 dsimp only [fwntP_vc,fwntP_x,noS,Ax.vp,Ax.vc];simp only [vcU,rfU,List.length_map]
 refine ⟨fun c=>?_,fun c=>?_⟩
 ·have c:fltErr f.mode f.srcs=0:=eq_of_beq c
  refine ⟨fun d=>?_,fun d=>?_⟩
  ·rw [fwntP,wntF,decide_eq_true c,decide_eq_true (show 1≤s by omega)];rfl
  ·rw [fwntP,wntF,decide_eq_false (show ¬1≤s by omega)];simp
 ·rw [fwntP,wntF,decide_eq_false (by simpa using c)];rfl
def fwntP_c(f:Flt)(source:Int):PC Tryz.prog:=⟨102,[(.a [.k,(.s 1)]),.k],[.agg [.int f.mode,.sl 1 (f.srcs.map AV.int) false],.int source],fwntP_e (fwntP f source),PSpec.of_ok fun ok=>mxP_of (sh:=.k) (enc:=fwntP_e) (a:=(fwntP_x f source).an) (fwntP_p f source ok) (by kernel_rfl) (AV.pureB_ok rfl),fnB_ok (by kernel_rfl)⟩
def wntC(w:Wnt)(f:Flw):Bool:=w.grp==f.grp && wntF ⟨w.mode,w.srcs⟩ f.src
def wntC_a(w:Wnt)(f:Flw):Prop:=okL [.agg [.int w.grp,.int w.mode,.sl 1 (w.srcs.map AV.int) false],.rptr (.agg [.int f.src,.int f.grp]) 0]
def wntC_e(r:Bool):AV:=.bool r
def wntC_x(w:Wnt)(f:Flw):Ax Tryz.prog noS (Bool):=
 (.br 128 (w.grp==f.grp) (.callP (fwntP_c (⟨w.mode,w.srcs⟩:Flt) f.src)
(.ret (wntF (⟨w.mode,w.srcs⟩:Flt) f.src)))
(.ret (false)))
def wntC_vc(w:Wnt)(f:Flw)(r0:Bool):Prop:=(wntC_x w f).vp wntC_e r0
theorem wntC_p(w:Wnt)(f:Flw)(ok:wntC_a w f):wntC_vc w f (wntC w f):=by
 dsimp only [wntC_vc,wntC_x,noS,Ax.vp,Ax.vc];simp only [vcU,rfU,List.length_map]
 refine ⟨fun c=>?_,fun c=>?_⟩<;>rw [wntC,c]<;>rfl
def wntC_c(w:Wnt)(f:Flw):PC Tryz.prog:=⟨101,[(.a [.k,.k,(.s 1)]),.k],[.agg [.int w.grp,.int w.mode,.sl 1 (w.srcs.map AV.int) false],.rptr (.agg [.int f.src,.int f.grp]) 0],wntC_e (wntC w f),PSpec.of_ok fun ok=>mxP_of (sh:=.k) (enc:=wntC_e) (a:=(wntC_x w f).an) (wntC_p w f ok) (by kernel_rfl) (AV.pureB_ok rfl),fnB_ok (by kernel_rfl)⟩
def wntCI_a(s:(List Wnt))(f:Flw):Prop:=okL [.sl 3 (s.map Wnt.v) false,.func 101 [.rptr (.agg [.int f.src,.int f.grp]) 0]]
def wntCI_n0(s:(List Wnt))(f:Flw)(t0:Int):NF:=⟨[(0,.k,.sl 3 (s.map Wnt.v) false),(1,.k,.func 101 [.rptr (.agg [.int f.src,.int f.grp]) 0]),(7,.k,.int ((s.map Wnt.v).length:Int)),(8,.k,.int t0)],[]⟩
@[reducible] def wntCI_s:Nat→Type
 | 0=>Int
 | _=>Unit
def wntCI_e(r:Int):AV:=.int r
def wntCI_x(s:(List Wnt))(f:Flw)(I0:Int→Prop)(m0:Int→Nat):Ax Tryz.prog wntCI_s (Int):=
 (.loop 0 (wntCI_n0 s f) I0 m0 ((0):Int) [] fun (t0:Int) b0 =>
(.br 16 (decide (t0<((s.map Wnt.v).length:Int))) (.el 96 Wnt.v s (fun R=>Rf (s.map Wnt.v) (ck (decide (0≤t0)) (ck (decide (t0<(s.length:Int)))
(∀x1,s[t0.toNat]?=some x1 →
(R x1))))) fun x1 =>
(.callP (wntC_c x1 f)
(.br 144 (wntC x1 f) (.ret (t0))
(.bk 0 b0 ((W (t0+1)):Int) []))))
(.ret (-1))))
def wntCI_vc(s:(List Wnt))(f:Flw)(I0:Int→Prop)(m0:Int→Nat)(r0:Int):Prop:=(wntCI_x s f I0 m0).vp wntCI_e r0
theorem wntCI_p(s:List Wnt)(f:Flw)(ok:wntCI_a s f):∃I m,wntCI_vc s f I m (idxF (fun y=>wntC y f) s):=by
 refine ⟨fun t=>ForI s (fun y=>wntC y f=false) t,fun t=>s.length-t.toNat,?_⟩
 simp only [wntCI_a,okU,Blk.ok,plainV,List.length_map] at ok
 dsimp only [wntCI_vc,wntCI_x,wntCI_s,Ax.vp,Ax.vc];simp only [vcU,rfU,List.length_map]
 exact ⟨ForI.zero,fun t h=>⟨fun c=>⟨h.idx,c,fun x hx=>⟨fun q=>h.found hx q,fun q=>h.step (by omega) hx q⟩⟩,fun c=>h.lost c⟩⟩
def wntCI_c(s:(List Wnt))(f:Flw):PC Tryz.prog:=⟨140,[(.s 3),.k],[.sl 3 (s.map Wnt.v) false,.func 101 [.rptr (.agg [.int f.src,.int f.grp]) 0]],wntCI_e (idxF (fun y=>wntC y f) s),PSpec.of_ok fun ok=>(wntCI_p s f ok).elim fun I0 h=>h.elim fun m0 h=>mxP_of (sh:=.k) (enc:=wntCI_e) (a:=(wntCI_x s f I0 m0).an) h (by kernel_rfl) (AV.pureB_ok rfl),fnB_ok (by kernel_rfl)⟩
def wntCA_a(s:(List Wnt))(f:Flw):Prop:=okL [.sl 3 (s.map Wnt.v) false,.func 101 [.rptr (.agg [.int f.src,.int f.grp]) 0]]
def wntCA_e(r:Bool):AV:=.bool r
def wntCA_x(s:(List Wnt))(f:Flw):Ax Tryz.prog noS (Bool):=
 (.callP (wntCI_c s f)
(.ret (decide (0≤(idxF (fun y=>wntC y f) s)))))
def wntCA_vc(s:(List Wnt))(f:Flw)(r0:Bool):Prop:=(wntCA_x s f).vp wntCA_e r0
theorem wntCA_p(s:List Wnt)(f:Flw)(ok:wntCA_a s f):wntCA_vc s f (s.any fun y=>wntC y f):=by
 dsimp only [wntCA_vc,wntCA_x,noS,Ax.vp,Ax.vc];simp only [vcU,rfU,List.length_map]
 exact idxF_any _ _
def wntCA_c(s:(List Wnt))(f:Flw):PC Tryz.prog:=⟨100,[(.s 3),.k],[.sl 3 (s.map Wnt.v) false,.func 101 [.rptr (.agg [.int f.src,.int f.grp]) 0]],wntCA_e (s.any fun y=>wntC y f),PSpec.of_ok fun ok=>mxP_of (sh:=.k) (enc:=wntCA_e) (a:=(wntCA_x s f).an) (wntCA_p s f ok) (by kernel_rfl) (AV.pureB_ok rfl),fnB_ok (by kernel_rfl)⟩
theorem any_find{l:List Wnt}{f:Flw}(h:wErr false l=0):(l.any fun y=>wntC y f)=wntF (findW l f.grp) f.src:=by
 have hp:=(wErr_zero.mp h).2.2.2.2
 clear h
 induction l with
 | nil=>rw [findW];exact (Bool.eq_false_iff.mpr fun h=>wnt_not h ⟨rfl,rfl⟩).symm
 | cons w l ih =>
  rw [List.pairwise_cons] at hp
  rw [List.any_cons,findW_cons]
  by_cases e:w.grp=f.grp
  ·rw [if_pos e]
   have:(l.any fun y=>wntC y f)=false:=by
    rw [List.any_eq_false]
    intro y hy hc
    have:=hp.1 y hy
    have hc:y.grp=f.grp:=by
     unfold wntC at hc
     rw [Bool.and_eq_true] at hc
     exact eq_of_beq hc.1
    omega
   rw [this,Bool.or_false,wntC,beq_iff_eq.mpr e,Bool.true_and]
  ·rw [if_neg e,←ih hp.2]
   have:wntC w f=false:=by rw [wntC,beq_eq_false_iff_ne.mpr e];rfl
   rw [this,Bool.false_or]
abbrev wntI:=wntW
def wntI_a(l:(List Wnt))(f:Flw):Prop:=okL [.sl 3 (l.map Wnt.v) false,.agg [.int f.src,.int f.grp]]
def wntI_e(r:Bool):AV:=.bool r
def wntI_x(l:(List Wnt))(f:Flw):Ax Tryz.prog noS (Bool):=
 (.callP (valW_c l)
(.br 96 ((wErr false l)==0) (.callP (wntCA_c l f)
(.say (ck (pureBLs [[.agg [.int f.src,.int f.grp]]])) (.ret ((l).any fun y=>wntC y f))))
(.ret (false))))
def wntI_vc(l:(List Wnt))(f:Flw)(r0:Bool):Prop:=(wntI_x l f).vp wntI_e r0
theorem wntI_p(l:List Wnt)(f:Flw)(ok:wntI_a l f):wntI_vc l f (wntI l f):=by
 dsimp only [wntI_vc,wntI_x,noS,Ax.vp,Ax.vc];simp only [vcU,rfU,List.length_map]
 refine ⟨fun c=>⟨rfl,?_⟩,fun c=>?_⟩
 ·have c:wErr false l=0:=eq_of_beq c
  rw [any_find c,wntI,wntW,decide_eq_true c];rfl
 ·rw [wntI,wntW,decide_eq_false (by simpa using c)];rfl
def wntI_c(l:(List Wnt))(f:Flw):PC Tryz.prog:=⟨54,[(.s 3),.k],[.sl 3 (l.map Wnt.v) false,.agg [.int f.src,.int f.grp]],wntI_e (wntW l f),PSpec.of_ok fun ok=>mxP_of (sh:=.k) (enc:=wntI_e) (a:=(wntI_x l f).an) (wntI_p l f ok) (by kernel_rfl) (AV.pureB_ok rfl),fnB_ok (by kernel_rfl)⟩
def rcv1(o:Ovl)(at_:Int)(f:Flw)(x:Edg):List Int:=
 if x.router=at_ then [] else if (knownV o at_ x.router).2=0∧wntW (knownV o at_ x.router).1 f=true then [x.id] else []
def rcvT(o:Ovl)(p:Pln)(at_:Int)(f:Flw):List Int×Int:=
 if valO o≠0 then ([],valO o) else if plnOkB p=false then ([],1) else if valFl f=false then ([],2) else if (knownV o at_ at_).2≠0 then ([],(knownV o at_ at_).2)
 else (p.es.flatMap (rcv1 o at_ f),0)
def rcvF_a(o:Ovl)(p:Pln)(at_:Int)(f:Flw):Prop:=okL [.agg [.sl 5 (o.sp.map Spk.v) false,.sl 3 (o.ls.map Lsn.v) false,.sl 10 (o.fl.map Sig.v) false],.agg [.int p.sub,.int p.len,.sl 2 (p.es.map Edg.v) false],.int at_,.agg [.int f.src,.int f.grp]]
def rcvF_n0(o:Ovl)(p:Pln)(at_:Int)(f:Flw)(t0:Int×(List Int)):NF:=⟨[(2,.k,.int at_),(4,.k,.ref 0 0),(7,.k,.ref 1 0),(13,.k,.vec 2),(40,.k,.sl 2 (p.es.map Edg.v) false),(41,.k,.int ((p.es.map Edg.v).length:Int)),(42,.k,.int t0.1)],[.box (.agg [.sl 5 (o.sp.map Spk.v) false,.sl 3 (o.ls.map Lsn.v) false,.sl 10 (o.fl.map Sig.v) false]),.box (.agg [.int f.src,.int f.grp]),.vec 1 (t0.2.map AV.int) (pureBL_map (fun _=>rfl) t0.2)]⟩
def rcvF_n1(o:Ovl)(p:Pln)(at_:Int)(f:Flw)(t0:Int×(List Int))(x1:Edg)(t1:Bool):NF:=⟨[(2,.k,.int at_),(4,.k,.ref 0 0),(7,.k,.ref 1 0),(13,.k,.vec 2),(15,.k,.ref 3 0),(40,.k,.sl 2 (p.es.map Edg.v) false),(41,.k,.int ((p.es.map Edg.v).length:Int)),(42,.k,.int t0.1),(64,.k,.bool t1)],[.box (.agg [.sl 5 (o.sp.map Spk.v) false,.sl 3 (o.ls.map Lsn.v) false,.sl 10 (o.fl.map Sig.v) false]),.box (.agg [.int f.src,.int f.grp]),.vec 1 (t0.2.map AV.int) (pureBL_map (fun _=>rfl) t0.2),.box (.agg [.int x1.router,.int x1.id])]⟩
@[reducible] def rcvF_s:Nat→Type
 | 0=>Int×(List Int)
 | 1=>Bool
 | _=>Unit
def rcvF_e(r:(List Int)×Int):AV:=.tup [.sl 1 (r.1.map AV.int) false,.int r.2]
def rcvF_x(o:Ovl)(p:Pln)(at_:Int)(f:Flw)(I0:(Int×(List Int))→Prop)(m0:(Int×(List Int))→Nat)(I1:Int×(List Int)→Edg→Bool→Prop):Ax Tryz.prog rcvF_s ((List Int)×Int):=
 (.callP (valO_c o)
(.br 160 ((valO o) != 0) (.ret ([],valO o))
(.callP (vplnP_c p)
(.br 208 (!(plnOkB p)) (.ret ([],1))
(.callP (valFl_c f)
(.br 256 (!(valFl f)) (.ret ([],2))
(.callP (knwOv_c o at_ at_)
(.br 432 (((knownV o at_ at_).2) != 0) (.ret ([],(knownV o at_ at_).2))
(.cmdL (.nilT 13 1) (.loop 0 (rcvF_n0 o p at_ f) I0 m0 (0,[]) [0,32,512] fun (t0:Int×(List Int)) b0 =>
(.br 19 (decide (t0.1<((p.es.map Edg.v).length:Int))) (.el 19 Edg.v p.es (fun R=>Rf (p.es.map Edg.v) (ck (decide (0≤t0.1)) (ck (decide (t0.1<(p.es.length:Int)))
(∀x1,p.es[t0.1.toNat]?=some x1 →
(R x1))))) fun x1 =>
(.br 147 (x1.router==at_) (.bk 0 b0 (W (t0.1+1),t0.2) [0,1,2])
(.callP (knwOv_c o at_ x1.router)
(.join 1 (rcvF_n1 o p at_ f t0 x1) (fun (t1:Bool)=>I1 t0 x1 t1) (fun b1=>(.br 355 (((knownV o at_ x1.router).2)==0) (.callP (wntI_c ((knownV o at_ x1.router).1) f)
(.bk 1 b1 ((wntW ((knownV o at_ x1.router).1) f):Bool) [0,1,2,51]))
(.bk 1 b1 ((false):Bool) [0,1,2,51]))) fun (t1:Bool) =>
(.br 4 t1 (.say (fun R=>Rf (α:=List AV) (t0.2.map AV.int) (Rf (α:=List AV) [.int x1.id]
(ck (decide (t0.2.length+1≤1048576))
R))) (.app 68 AV.int t0.2 [x1.id]
(.bk 0 b0 (W (t0.1+1),t0.2++[x1.id]) [0,1,68])))
(.bk 0 b0 (W (t0.1+1),t0.2) [0,1,2]))))))
(.say (Rf (t0.2.map AV.int)) (.cmdL (.frzE 2 (t0.2.map AV.int) (pureBL_map (fun _=>rfl) t0.2)) (.ret (t0.2,0)))))))))))))))
def rcvF_vc(o:Ovl)(p:Pln)(at_:Int)(f:Flw)(I0:(Int×(List Int))→Prop)(m0:(Int×(List Int))→Nat)(I1:Int×(List Int)→Edg→Bool→Prop)(r0:(List Int)×Int):Prop:=(rcvF_x o p at_ f I0 m0 I1).vp rcvF_e r0
theorem rcvF_p(o:Ovl)(p:Pln)(at_:Int)(f:Flw)(ok:rcvF_a o p at_ f):∃I0 m0 I1,rcvF_vc o p at_ f I0 m0 I1 (rcvT o p at_ f):=by
  refine ⟨fun t=>ForX p.es (rcv1 o at_ f) t.1 t.2,fun t=>p.es.length-t.1.toNat,fun _ x b=>b=decide ((knownV o at_ x.router).2=0∧wntW (knownV o at_ x.router).1 f=true),?_⟩
  dsimp only [rcvF_vc,rcvF_x,rcvF_s,Ax.vp,Ax.vc];simp only [vcU,rfU,List.length_map]
  refine ⟨fun c=>?_,fun c=>⟨fun d=>?_,fun d=>⟨fun e=>?_,fun e=>⟨fun g=>?_,fun g=>⟨ForX.zero,?_⟩⟩⟩⟩⟩
  · rw [rcvT,if_pos (by simpa using c)]
  · rw [rcvT,if_neg (by simpa using c),if_pos (by simpa using d)]
  · rw [rcvT,if_neg (by simpa using c),if_neg (by simpa using d),if_pos (by simpa using e)]
  · rw [rcvT,if_neg (by simpa using c),if_neg (by simpa using d),if_neg (by simpa using e),if_pos (by simpa using g)]
  have d':plnOkB p=true:=by simpa using d
  have hl:p.es.length≤24:=by
    unfold plnOkB at d'
    rw [Bool.and_eq_true,decide_eq_true_eq] at d'
    exact d'.1.2.2
  rintro ⟨i,out⟩ h
  simp only at h ⊢
  have hlen := h.len (b := 1) fun x _ => by unfold rcv1; repeat' split
                                            all_goals simp
  refine ⟨fun q=>⟨h.idx,q,fun x hx=>⟨fun r=>h.step (by omega) hx ?_,fun r=>⟨⟨fun s=>?_,fun s=>?_⟩,?_⟩⟩⟩,fun q=>?_⟩
  · rw [rcv1,if_pos (eq_of_beq r)];simp
  · have s:=eq_of_beq s
    simp [s]
  · have s:¬(knownV o at_ x.router).2=0:=by simpa using s
    simp [s]
  · have r:¬x.router=at_:=by simpa using r
    rintro _ rfl
    refine ⟨fun s=>⟨by omega,h.step (by omega) hx ?_⟩,fun s=>h.step (by omega) hx ?_⟩
    · rw [rcv1,if_neg r,if_pos (of_decide_eq_true s)]
    · rw [rcv1,if_neg r,if_neg (of_decide_eq_false s)];simp
  · rw [rcvT,if_neg (by simpa using c),if_neg (by simpa using d),if_neg (by simpa using e),if_neg (by simpa using g),←h.done q]
def rcvF_c(o:Ovl)(p:Pln)(at_:Int)(f:Flw):PC Tryz.prog:=⟨14,[(.a [(.s 5),(.s 3),(.s 10)]),(.a [.k,.k,(.s 2)]),.k,.k],[.agg [.sl 5 (o.sp.map Spk.v) false,.sl 3 (o.ls.map Lsn.v) false,.sl 10 (o.fl.map Sig.v) false],.agg [.int p.sub,.int p.len,.sl 2 (p.es.map Edg.v) false],.int at_,.agg [.int f.src,.int f.grp]],rcvF_e (rcvT o p at_ f),PSpec.of_ok fun ok=>(rcvF_p o p at_ f ok).elim fun I0 h=>h.elim fun m0 h=>h.elim fun I1 h=>mxP_of (sh:=(.a [(.s 1),.k])) (enc:=rcvF_e) (a:=(rcvF_x o p at_ f I0 m0 I1).an) h (by kernel_rfl) (AV.pureB_ok rfl),fnB_ok (by kernel_rfl)⟩
def u8B(n:Int):UInt8:=UInt8.ofNat (IntKind.u8.wrap n).toNat
def wrpT(f:Flw)(d:ByteArray):ByteArray×Int:=
 if valFl f=false then (B [],2) else if 62<d.size then (B [],3) else (B [u8B f.src,u8B f.grp]++d,0)
def wrpF_a(f:Flw)(data:ByteArray):Prop:=okL [.agg [.int f.src,.int f.grp],.str data]
def wrpF_e(r:ByteArray×Int):AV:=.tup [.str r.1,.int r.2]
def wrpF_x(f:Flw)(data:ByteArray):Ax Tryz.prog noS (ByteArray×Int):=
 (.callP (valFl_c f)
(.br 96 (!(valFl f)) (.ret (B [],2))
(.br 304 (decide (64<(W (2+(data.size:Int))))) (.ret (B [],3))
(.say (ck (decide ((B [UInt8.ofNat ((IntKind.u8.wrap f.src)).toNat,UInt8.ofNat ((IntKind.u8.wrap f.grp)).toNat]).size+data.size≤maxLen))) (.ret ((B [UInt8.ofNat ((IntKind.u8.wrap f.src)).toNat,UInt8.ofNat ((IntKind.u8.wrap f.grp)).toNat])++data,0))))))
def wrpF_vc(f:Flw)(data:ByteArray)(r0:ByteArray×Int):Prop:=(wrpF_x f data).vp wrpF_e r0
theorem wrpF_p(f:Flw)(d:ByteArray)(h:d.size≤1000000)(ok:wrpF_a f d):wrpF_vc f d (wrpT f d):=by
 dsimp only [wrpF_vc,wrpF_x,noS,Ax.vp,Ax.vc];simp only [vcU,rfU,List.length_map]
 have w:W (2+(d.size:Int))=2+(d.size:Int):=W_eq (by omega)
 have hB:(B [UInt8.ofNat (IntKind.u8.wrap f.src).toNat,UInt8.ofNat (IntKind.u8.wrap f.grp).toNat]).size=2:=rfl
 rw [w,hB]
 refine ⟨fun c=>?_,fun c=>⟨fun e=>?_,fun e=>⟨by rw [maxLen_eq];omega,?_⟩⟩⟩
 ·rw [wrpT,if_pos (by simpa using c)]
 ·rw [wrpT,if_neg (by simpa using c),if_pos (by omega)]
 ·rw [wrpT,if_neg (by simpa using c),if_neg (by omega)];rfl
def wrpF_c(f:Flw)(data:ByteArray)(h:data.size≤1000000):PC Tryz.prog:=⟨22,[.k,.k],[.agg [.int f.src,.int f.grp],.str data],wrpF_e (wrpT f data),PSpec.of_ok fun ok=>mxP_of (sh:=.k) (enc:=wrpF_e) (a:=(wrpF_x f data).an) (wrpF_p f data h ok) (by kernel_rfl) (AV.pureB_ok rfl),fnB_ok (by kernel_rfl)⟩
def unwH(p:ByteArray):Flw:=⟨((p.data.getD 0 0).toNat:Int),((p.data.getD 1 0).toNat:Int)⟩
def unwT(p:ByteArray):Flw×ByteArray×Int:=
 if p.size<2 then (⟨0,0⟩,B [],20) else if valFl (unwH p)=false then (⟨0,0⟩,B [],2) else (unwH p,p.extract 2 p.size,0)
theorem W_u8(b:UInt8):W ((b.toNat:Nat):Int)=(b.toNat:Nat):=W_eq (by have:=b.toNat_lt;omega)
def unwF_a(payload:ByteArray):Prop:=okL [.str payload]
def unwF_e(r:Flw×ByteArray×Int):AV:=.tup [Flw.v r.1,.str r.2.1,.int r.2.2]
def unwF_x(payload:ByteArray):Ax Tryz.prog noS (Flw×ByteArray×Int):=
 (.br 96 (decide ((payload.size:Int)<2)) (.ret ((⟨0,0⟩:Flw),B [],20))
(.say (fun R=>ck (decide (0<(payload.size:Int)))
((ck (decide (1<(payload.size:Int)))
R))) (.callP (valFl_c (⟨W ((payload.data.getD 0 0).toNat:Int),W ((payload.data.getD 1 0).toNat:Int)⟩:Flw))
(.br 288 (!(valFl (⟨W ((payload.data.getD 0 0).toNat:Int),W ((payload.data.getD 1 0).toNat:Int)⟩:Flw))) (.ret ((⟨0,0⟩:Flw),B [],2))
(.say (ck (cond (decide (2≤(payload.size:Int))) (decide ((payload.size:Int)≤(payload.size:Int))) false)) (.ret ((⟨W ((payload.data.getD 0 0).toNat:Int),W ((payload.data.getD 1 0).toNat:Int)⟩:Flw),payload.extract 2 ((payload.size:Int).toNat),0)))))))
def unwF_vc(payload:ByteArray)(r0:Flw×ByteArray×Int):Prop:=(unwF_x payload).vp unwF_e r0
theorem unwF_p(p:ByteArray)(ok:unwF_a p):unwF_vc p (unwT p):=by
 dsimp only [unwF_vc,unwF_x,noS,Ax.vp,Ax.vc];simp only [vcU,rfU,List.length_map]
 rw [W_u8,W_u8]
 refine ⟨fun c=>?_,fun c=>⟨by omega,by omega,fun d=>?_,fun d=>⟨?_,?_⟩⟩⟩
 ·rw [unwT,if_pos (by omega)]
 ·rw [Bool.not_eq_true'] at d
  have d:valFl (unwH p)=false:=d
  rw [unwT,if_neg (by omega),if_pos d]
 ·rw [decide_eq_true (by omega),decide_eq_true (Int.le_refl _)];rfl
 ·rw [Bool.not_eq_false'] at d
  have d:¬valFl (unwH p)=false:=fun e=>Bool.false_ne_true (e.symm.trans d)
  rw [unwT,if_neg (by omega),if_neg d,Int.toNat_natCast];rfl
def unwF_c(payload:ByteArray):PC Tryz.prog:=⟨24,[.k],[.str payload],unwF_e (unwT payload),PSpec.of_ok fun ok=>mxP_of (sh:=.k) (enc:=unwF_e) (a:=(unwF_x payload).an) (unwF_p payload ok) (by kernel_rfl) (AV.pureB_ok rfl),fnB_ok (by kernel_rfl)⟩
def awk28_a:Prop:=okL []
def awk28_e(r:Bool):AV:=.bool r
def awk28_x:Ax Tryz.prog noS (Bool):=
 (.req 32 ((B [120]).size≤1000000) fun h1 =>
(.callP (wrpF_c (⟨1,4⟩:Flw) (B [120]) h1)
(.callP (unwF_c ((wrpT (⟨1,4⟩:Flw) (B [120])).1))
(.br 336 (((wrpT (⟨1,4⟩:Flw) (B [120])).2)==0) (.br 400 (((unwT ((wrpT (⟨1,4⟩:Flw) (B [120])).1)).2.2)==0) (.br 464 (((wrpT (⟨1,4⟩:Flw) (B [120])).1).toList==(B [1,4,120]).toList) (.br 544 ((((unwT ((wrpT (⟨1,4⟩:Flw) (B [120])).1)).1).src==1) && ((((unwT ((wrpT (⟨1,4⟩:Flw) (B [120])).1)).1).grp==4) && true)) (.ret (((unwT ((wrpT (⟨1,4⟩:Flw) (B [120])).1)).2.1).toList==(B [120]).toList))
(.ret (false)))
(.ret (false)))
(.ret (false)))
(.ret (false))))))
def awk28_vc(r0:Bool):Prop:=(awk28_x).vp awk28_e r0
theorem awk28_p(ok:awk28_a):awk28_vc true:=by
 dsimp only [awk28_vc,awk28_x,noS,Ax.vp,Ax.vc];simp only [vcU,rfU,List.length_map]
 exact ⟨by decide,by decide +kernel⟩
def awk28_c:PC Tryz.prog:=⟨9,[],[],awk28_e true,PSpec.of_ok fun ok=>mxP_of (sh:=.k) (enc:=awk28_e) (a:=(awk28_x).an) (awk28_p ok) (by kernel_rfl) (AV.pureB_ok rfl),fnB_ok (by kernel_rfl)⟩
theorem scn_es{L:List Int}{p:Nat}{most:Int}(h:1≤most∧most≤8):(∀e∈(scnT L p most).1.es,∃y∈(scnT L p most).1.sites,y.router=e.router)∧plnOkB ⟨(scnT L p most).1.sub,(scnT L p most).1.len,(scnT L p most).1.es⟩=true:=by
 have hp:=scnP_ok (L:=L) (p:=p) h
 obtain ⟨t1,t2,t3⟩:=topoT_rs (L:=L) (p:=p) (most:=most) (by omega)
 refine ⟨fun e he=>?_,?_⟩
 ·have he:e∈(scnP L p most).1.es:=he
  have h1:e.router∈scnR L p most:=((rtsP_ok (scnP L p most).1.es).2.1 e.router).mpr ⟨e,he,rfl⟩
  rw [←(scnS_ok (L:=L) (p:=p) h).2] at h1
  obtain ⟨y,hy,q⟩:=List.mem_map.mp h1
  exact ⟨y,hy,q⟩
 ·have hs:=hp.sub;have hl:=hp.len;have he:=hp.es
  have h1:plnH (scnP L p most).1:=by
   refine ⟨by omega,?_,by omega⟩
   rcases hl with q|q|q|q|q
   ·exact .inl (by rw [q];decide)
   ·exact .inl (by rw [q];decide)
   ·exact .inl (by rw [q];decide)
   ·exact .inl (by rw [q];decide)
   ·exact .inr q
  have h2:plnE (scnP L p most).1.es:=⟨fun e he=>by
   have:=hp.ids e he
   obtain ⟨r,hr,q⟩:=hp.at_ e he
   have:=t3 r hr
   refine ⟨?_,?_⟩<;>omega,hp.nd,hp.asc⟩
  show plnOkB (scnP L p most).1=true
  rw [plnOkB,decide_eq_true h1,decide_eq_true h2];rfl
theorem wrap_u64{n:Nat}(h:n<18446744073709551616):IntKind.u64.wrap (n:Int)=n:=by
 unfold IntKind.wrap
 simp [IntKind.bits,IntKind.signed]
 omega
theorem bv64{n:Nat}(h:n<18446744073709551616):(BitVec.ofInt 64 (n:Int)).toNat=n:=by
 rw [BitVec.ofInt_natCast,BitVec.toNat_ofNat];exact Nat.mod_eq_of_lt h
theorem bAnd_nat{a b:Nat}(ha:a<18446744073709551616)(hb:b<18446744073709551616):bAnd .u64 (a:Int) (b:Int)=((a &&& b:Nat):Int):=by
 have e:((BitVec.ofInt 64 (a:Int)) &&& (BitVec.ofInt 64 (b:Int))).toNat=a &&& b:=by rw [BitVec.toNat_and,bv64 ha,bv64 hb]
 unfold bAnd
 rw [show IntKind.u64.bits=64 from rfl,e]
 exact wrap_u64 (Nat.lt_of_le_of_lt Nat.and_le_left ha)
theorem bOr_nat{a b:Nat}(ha:a<18446744073709551616)(hb:b<18446744073709551616):bOr .u64 (a:Int) (b:Int)=((a ||| b:Nat):Int):=by
 have e:((BitVec.ofInt 64 (a:Int)) ||| (BitVec.ofInt 64 (b:Int))).toNat=a ||| b:=by rw [BitVec.toNat_or,bv64 ha,bv64 hb]
 unfold bOr
 rw [show IntKind.u64.bits=64 from rfl,e]
 exact wrap_u64 (Nat.or_lt_two_pow (n:=64) ha hb)
theorem bAndn_nat{a b:Nat}(ha:a<18446744073709551616)(hb:b<18446744073709551616)(h:∀i,a.testBit i=true→b.testBit i=true):bAndn .u64 (a:Int) (b:Int)=0:=by
 have e:((BitVec.ofInt 64 (a:Int)) &&& ~~~(BitVec.ofInt 64 (b:Int)))=0#64:=by
  refine BitVec.eq_of_getLsbD_eq fun i hi=>?_
  rw [BitVec.getLsbD_and,BitVec.getLsbD_not,BitVec.getLsbD,BitVec.getLsbD,bv64 ha,bv64 hb]
  cases q:a.testBit i with
  | false=>simp
  | true=>simp [h i q]
 unfold bAndn
 rw [show IntKind.u64.bits=64 from rfl,e]
 rfl
theorem shlI_one{b:Nat}(h:b<64):shlI .u64 1 (b:Int)=((2 ^ b:Nat):Int):=by
 unfold shlI
 rw [Int.toNat_natCast,show Nat.min b IntKind.u64.bits=b from Nat.min_eq_left (Nat.le_of_lt h),Int.one_mul,←wrap_u64 (n:=2 ^ b) (Nat.pow_lt_pow_right (by omega) h)]
 congr 1
theorem shrI_nat{a b:Nat}(h:b<64):shrI .u64 (a:Int) (b:Int)=((a / 2 ^ b:Nat):Int):=by
 unfold shrI
 rw [Int.toNat_natCast,show Nat.min b IntKind.u64.bits=b from Nat.min_eq_left (Nat.le_of_lt h),Int.fdiv_eq_ediv_of_nonneg _ (by exact Int.pow_nonneg (by decide)),Int.natCast_ediv,Int.natCast_pow]
 rfl
theorem bit_eq{a b:Nat}(ha:a<18446744073709551616)(h:b<64):(bAnd .u64 (shrI .u64 (a:Int) (b:Int)) 1==1)=a.testBit b:=by
 rw [shrI_nat h,show (1:Int)=((1:Nat):Int) from rfl,bAnd_nat (Nat.lt_of_le_of_lt (Nat.div_le_self _ _) ha) (by decide),Nat.and_one_is_mod,Nat.testBit_eq_decide_div_mod_eq]
 rw [Bool.eq_iff_iff,beq_iff_eq,decide_eq_true_eq]
 omega
structure Stb where
  set:Int
  bits:Int
  deriving DecidableEq
structure Pkt where
  mode:Int
  sub:Int
  set:Int
  len:Int
  ttl:Int
  ent:Int
  ing:Int
  proto:Int
  bits:Int
  pay:ByteArray
  deriving DecidableEq
def Stb.v(x:Stb):AV:=.agg [.int x.set,.val (.int .u64 x.bits)]
def Pkt.v(x:Pkt):AV:=.agg [.int x.mode,.int x.sub,.int x.set,.int x.len,.int x.ttl,.int x.ent,.int x.ing,.int x.proto,.val (.int .u64 x.bits),.str x.pay]
def eqId(y:Edg)(id:Int):Bool:=y.id==id
def eqId_a(x:Edg)(id:Int):Prop:=okL [.agg [.int x.router,.int x.id],.rptr (.int id) 0]
def eqId_e(r:Bool):AV:=.bool r
def eqId_x(x:Edg)(id:Int):Ax Tryz.prog noS (Bool):=
 (.ret (x.id==id))
def eqId_vc(x:Edg)(id:Int)(r0:Bool):Prop:=(eqId_x x id).vp eqId_e r0
theorem eqId_p(y:Edg)(id:Int)(ok:eqId_a y id):eqId_vc y id (eqId y id):=by
 dsimp only [eqId_vc,eqId_x,noS,Ax.vp,Ax.vc];simp only [vcU,rfU,List.length_map]
 rfl
def eqId_c(x:Edg)(id:Int):PC Tryz.prog:=⟨177,[.k,.k],[.agg [.int x.router,.int x.id],.rptr (.int id) 0],eqId_e (eqId x id),PSpec.of_ok fun ok=>mxP_of (sh:=.k) (enc:=eqId_e) (a:=(eqId_x x id).an) (eqId_p x id ok) (by kernel_rfl) (AV.pureB_ok rfl),fnB_ok (by kernel_rfl)⟩
def eqIdI_a(s:(List Edg))(f:Int):Prop:=okL [.sl 2 (s.map Edg.v) false,.func 177 [.rptr (.int f) 0]]
def eqIdI_n0(s:(List Edg))(f:Int)(t0:Int):NF:=⟨[(0,.k,.sl 2 (s.map Edg.v) false),(1,.k,.func 177 [.rptr (.int f) 0]),(7,.k,.int ((s.map Edg.v).length:Int)),(8,.k,.int t0)],[]⟩
@[reducible] def eqIdI_s:Nat→Type
 | 0=>Int
 | _=>Unit
def eqIdI_e(r:Int):AV:=.int r
def eqIdI_x(s:(List Edg))(f:Int)(I0:Int→Prop)(m0:Int→Nat):Ax Tryz.prog eqIdI_s (Int):=
 (.loop 0 (eqIdI_n0 s f) I0 m0 ((0):Int) [] fun (t0:Int) b0 =>
(.br 16 (decide (t0<((s.map Edg.v).length:Int))) (.el 96 Edg.v s (fun R=>Rf (s.map Edg.v) (ck (decide (0≤t0)) (ck (decide (t0<(s.length:Int)))
(∀x1,s[t0.toNat]?=some x1 →
(R x1))))) fun x1 =>
(.callP (eqId_c x1 f)
(.br 144 (eqId x1 f) (.ret (t0))
(.bk 0 b0 ((W (t0+1)):Int) []))))
(.ret (-1))))
def eqIdI_vc(s:(List Edg))(f:Int)(I0:Int→Prop)(m0:Int→Nat)(r0:Int):Prop:=(eqIdI_x s f I0 m0).vp eqIdI_e r0
theorem eqIdI_p(s:List Edg)(f:Int)(ok:eqIdI_a s f):∃I m,eqIdI_vc s f I m (idxF (fun y=>eqId y f) s):=by
 refine ⟨fun t=>ForI s (fun y=>eqId y f=false) t,fun t=>s.length-t.toNat,?_⟩
 simp only [eqIdI_a,okU,Blk.ok,plainV,List.length_map] at ok
 dsimp only [eqIdI_vc,eqIdI_x,eqIdI_s,Ax.vp,Ax.vc];simp only [vcU,rfU,List.length_map]
 exact ⟨ForI.zero,fun t h=>⟨fun c=>⟨h.idx,c,fun x hx=>⟨fun q=>h.found hx q,fun q=>h.step (by omega) hx q⟩⟩,fun c=>h.lost c⟩⟩
def eqIdI_c(s:(List Edg))(f:Int):PC Tryz.prog:=⟨129,[(.s 2),.k],[.sl 2 (s.map Edg.v) false,.func 177 [.rptr (.int f) 0]],eqIdI_e (idxF (fun y=>eqId y f) s),PSpec.of_ok fun ok=>(eqIdI_p s f ok).elim fun I0 h=>h.elim fun m0 h=>mxP_of (sh:=.k) (enc:=eqIdI_e) (a:=(eqIdI_x s f I0 m0).an) h (by kernel_rfl) (AV.pureB_ok rfl),fnB_ok (by kernel_rfl)⟩
def eqIdA_a(s:(List Edg))(f:Int):Prop:=okL [.sl 2 (s.map Edg.v) false,.func 177 [.rptr (.int f) 0]]
def eqIdA_e(r:Bool):AV:=.bool r
def eqIdA_x(s:(List Edg))(f:Int):Ax Tryz.prog noS (Bool):=
 (.callP (eqIdI_c s f)
(.ret (decide (0≤(idxF (fun y=>eqId y f) s)))))
def eqIdA_vc(s:(List Edg))(f:Int)(r0:Bool):Prop:=(eqIdA_x s f).vp eqIdA_e r0
theorem eqIdA_p(s:List Edg)(f:Int)(ok:eqIdA_a s f):eqIdA_vc s f (s.any fun y=>eqId y f):=by
 dsimp only [eqIdA_vc,eqIdA_x,noS,Ax.vp,Ax.vc];simp only [vcU,rfU,List.length_map]
 exact idxF_any _ _
def eqIdA_c(s:(List Edg))(f:Int):PC Tryz.prog:=⟨94,[(.s 2),.k],[.sl 2 (s.map Edg.v) false,.func 177 [.rptr (.int f) 0]],eqIdA_e (s.any fun y=>eqId y f),PSpec.of_ok fun ok=>mxP_of (sh:=.k) (enc:=eqIdA_e) (a:=(eqIdA_x s f).an) (eqIdA_p s f ok) (by kernel_rfl) (AV.pureB_ok rfl),fnB_ok (by kernel_rfl)⟩
def hasP(p:Pln)(id:Int):Bool:=p.es.any fun y=>eqId y id
def hasP_a(p:Pln)(id:Int):Prop:=okL [.agg [.int p.sub,.int p.len,.sl 2 (p.es.map Edg.v) false],.int id]
def hasP_e(r:Bool):AV:=.bool r
def hasP_x(p:Pln)(id:Int):Ax Tryz.prog noS (Bool):=
 (.callP (eqIdA_c p.es id)
(.say (ck (pureBLs [[.int id]])) (.ret ((p.es).any fun y=>eqId y id))))
def hasP_vc(p:Pln)(id:Int)(r0:Bool):Prop:=(hasP_x p id).vp hasP_e r0
theorem hasP_p(p:Pln)(id:Int)(ok:hasP_a p id):hasP_vc p id (hasP p id):=by
 dsimp only [hasP_vc,hasP_x,noS,Ax.vp,Ax.vc];simp only [vcU,rfU,List.length_map]
 exact ⟨rfl,rfl⟩
def hasP_c(p:Pln)(id:Int):PC Tryz.prog:=⟨145,[(.a [.k,.k,(.s 2)]),.k],[.agg [.int p.sub,.int p.len,.sl 2 (p.es.map Edg.v) false],.int id],hasP_e (hasP p id),PSpec.of_ok fun ok=>mxP_of (sh:=.k) (enc:=hasP_e) (a:=(hasP_x p id).an) (hasP_p p id ok) (by kernel_rfl) (AV.pureB_ok rfl),fnB_ok (by kernel_rfl)⟩
def notIn(id:Int)(p:Pln):Bool:=!hasP p id
def notIn_a(id:Int)(p:Pln):Prop:=okL [.int id,.rptr (.agg [.int p.sub,.int p.len,.sl 2 (p.es.map Edg.v) false]) 0]
def notIn_e(r:Bool):AV:=.bool r
def notIn_x(id:Int)(p:Pln):Ax Tryz.prog noS (Bool):=
 (.callP (hasP_c p id)
(.ret (!(hasP p id))))
def notIn_vc(id:Int)(p:Pln)(r0:Bool):Prop:=(notIn_x id p).vp notIn_e r0
theorem notIn_p(id:Int)(p:Pln)(ok:notIn_a id p):notIn_vc id p (notIn id p):=by
 dsimp only [notIn_vc,notIn_x,noS,Ax.vp,Ax.vc];simp only [vcU,rfU,List.length_map]
 rfl
def notIn_c(id:Int)(p:Pln):PC Tryz.prog:=⟨144,[.k,.k],[.int id,.rptr (.agg [.int p.sub,.int p.len,.sl 2 (p.es.map Edg.v) false]) 0],notIn_e (notIn id p),PSpec.of_ok fun ok=>mxP_of (sh:=.k) (enc:=notIn_e) (a:=(notIn_x id p).an) (notIn_p id p ok) (by kernel_rfl) (AV.pureB_ok rfl),fnB_ok (by kernel_rfl)⟩
def notInI_a(s:(List Int))(f:Pln):Prop:=okL [.sl 1 (s.map AV.int) false,.func 144 [.rptr (.agg [.int f.sub,.int f.len,.sl 2 (f.es.map Edg.v) false]) 0]]
def notInI_n0(s:(List Int))(f:Pln)(t0:Int):NF:=⟨[(0,.k,.sl 1 (s.map AV.int) false),(1,.k,.func 144 [.rptr (.agg [.int f.sub,.int f.len,.sl 2 (f.es.map Edg.v) false]) 0]),(7,.k,.int ((s.map AV.int).length:Int)),(8,.k,.int t0)],[]⟩
@[reducible] def notInI_s:Nat→Type
 | 0=>Int
 | _=>Unit
def notInI_e(r:Int):AV:=.int r
def notInI_x(s:(List Int))(f:Pln)(I0:Int→Prop)(m0:Int→Nat):Ax Tryz.prog notInI_s (Int):=
 (.loop 0 (notInI_n0 s f) I0 m0 ((0):Int) [] fun (t0:Int) b0 =>
(.br 16 (decide (t0<((s.map AV.int).length:Int))) (.el 96 AV.int s (fun R=>Rf (s.map AV.int) (ck (decide (0≤t0)) (ck (decide (t0<(s.length:Int)))
(∀x1,s[t0.toNat]?=some x1 →
(R x1))))) fun x1 =>
(.callP (notIn_c x1 f)
(.br 144 (notIn x1 f) (.ret (t0))
(.bk 0 b0 ((W (t0+1)):Int) []))))
(.ret (-1))))
def notInI_vc(s:(List Int))(f:Pln)(I0:Int→Prop)(m0:Int→Nat)(r0:Int):Prop:=(notInI_x s f I0 m0).vp notInI_e r0
theorem notInI_p(s:List Int)(f:Pln)(ok:notInI_a s f):∃I m,notInI_vc s f I m (idxF (fun y=>notIn y f) s):=by
 refine ⟨fun t=>ForI s (fun y=>notIn y f=false) t,fun t=>s.length-t.toNat,?_⟩
 simp only [notInI_a,okU,Blk.ok,plainV,List.length_map] at ok
 dsimp only [notInI_vc,notInI_x,notInI_s,Ax.vp,Ax.vc];simp only [vcU,rfU,List.length_map]
 exact ⟨ForI.zero,fun t h=>⟨fun c=>⟨h.idx,c,fun x hx=>⟨fun q=>h.found hx q,fun q=>h.step (by omega) hx q⟩⟩,fun c=>h.lost c⟩⟩
def notInI_c(s:(List Int))(f:Pln):PC Tryz.prog:=⟨176,[(.s 1),.k],[.sl 1 (s.map AV.int) false,.func 144 [.rptr (.agg [.int f.sub,.int f.len,.sl 2 (f.es.map Edg.v) false]) 0]],notInI_e (idxF (fun y=>notIn y f) s),PSpec.of_ok fun ok=>(notInI_p s f ok).elim fun I0 h=>h.elim fun m0 h=>mxP_of (sh:=.k) (enc:=notInI_e) (a:=(notInI_x s f I0 m0).an) h (by kernel_rfl) (AV.pureB_ok rfl),fnB_ok (by kernel_rfl)⟩
def notInA_a(s:(List Int))(f:Pln):Prop:=okL [.sl 1 (s.map AV.int) false,.func 144 [.rptr (.agg [.int f.sub,.int f.len,.sl 2 (f.es.map Edg.v) false]) 0]]
def notInA_e(r:Bool):AV:=.bool r
def notInA_x(s:(List Int))(f:Pln):Ax Tryz.prog noS (Bool):=
 (.callP (notInI_c s f)
(.ret (decide (0≤(idxF (fun y=>notIn y f) s)))))
def notInA_vc(s:(List Int))(f:Pln)(r0:Bool):Prop:=(notInA_x s f).vp notInA_e r0
theorem notInA_p(s:List Int)(f:Pln)(ok:notInA_a s f):notInA_vc s f (s.any fun y=>notIn y f):=by
 dsimp only [notInA_vc,notInA_x,noS,Ax.vp,Ax.vc];simp only [vcU,rfU,List.length_map]
 exact idxF_any _ _
def notInA_c(s:(List Int))(f:Pln):PC Tryz.prog:=⟨143,[(.s 1),.k],[.sl 1 (s.map AV.int) false,.func 144 [.rptr (.agg [.int f.sub,.int f.len,.sl 2 (f.es.map Edg.v) false]) 0]],notInA_e (s.any fun y=>notIn y f),PSpec.of_ok fun ok=>mxP_of (sh:=.k) (enc:=notInA_e) (a:=(notInA_x s f).an) (notInA_p s f ok) (by kernel_rfl) (AV.pureB_ok rfl),fnB_ok (by kernel_rfl)⟩
def plcT(id len:Int):Int×Int×Bool:=if vlenP len=true∧1≤id∧id≤256 then ((id-1).tdiv len,(id-1).tmod len,true) else (0,0,false)
theorem vlenP_iff{n:Int}:vlenP n=true↔n=8∨n=16∨n=32∨n=64:=decide_eq_true_iff
def plcP_a(id:Int)(length:Int):Prop:=okL [.int id,.int length]
def plcP_n0(id:Int)(length:Int)(t0:Bool):NF:=⟨[(0,.k,.int id),(1,.k,.int length),(14,.k,.bool t0)],[]⟩
@[reducible] def plcP_s:Nat→Type
 | 0=>Bool
 | _=>Unit
def plcP_e(r:Int×Int×Bool):AV:=.tup [.int r.1,.int r.2.1,.bool r.2.2]
def plcP_x(id:Int)(length:Int)(I0:Bool→Prop):Ax Tryz.prog plcP_s (Int×Int×Bool):=
 (.pass (.pass (.join 0 (plcP_n0 id length) (fun (t0:Bool)=>I0 t0) (fun b0=>(.callP (vlenP_c length)
(.br 112 (!(vlenP length)) (.bk 0 b0 ((true):Bool) [])
(.callP (inP_c id 1 256)
(.bk 0 b0 ((!(inP id 1 256)):Bool) []))))) fun (t0:Bool) =>
(.br 0 t0 (.ret (0,0,false))
(.say (fun R=>ck (!(length==0))
((ck (!(length==0))
R))) (.ret (W ((W (id-1)).tdiv length),(W (id-1)).tmod length,true)))))))
def plcP_vc(id:Int)(length:Int)(I0:Bool→Prop)(r0:Int×Int×Bool):Prop:=(plcP_x id length I0).vp plcP_e r0
theorem plcP_p(id len:Int)(ok:plcP_a id len):∃I,plcP_vc id len I (plcT id len):=by
 refine ⟨fun b=>b=decide (¬(vlenP len=true∧1≤id∧id≤256)),?_⟩
 dsimp only [plcP_vc,plcP_x,plcP_s,Ax.vp,Ax.vc];simp only [vcU,rfU,List.length_map]
 refine ⟨⟨fun c=>?_,fun c=>?_⟩,?_⟩
 ·have c:vlenP len=false:=by simpa using c
  simp [c]
 ·have c:vlenP len=true:=by simpa using c
  rw [Bool.eq_iff_iff,inP_t,decide_eq_true_iff]
  simp [c]
 ·rintro _ rfl
  refine ⟨fun c=>?_,fun c=>?_⟩
  ·rw [plcT,if_neg (of_decide_eq_true c)]
  ·have c:=Classical.not_not.mp (of_decide_eq_false c)
   have hl:=vlenP_iff.mp c.1
   have h0:(!(len==0))=true:=by simp;omega
   have w1:W (id-1)=id-1:=W_eq (by omega)
   have hd:0≤(id-1).tdiv len∧(id-1).tdiv len≤id-1:=⟨Int.tdiv_nonneg (by omega) (by omega),Int.tdiv_le_self _ (by omega)⟩
   rw [w1,W_eq (n:=(id-1).tdiv len) (by omega),plcT,if_pos c]
   exact ⟨h0,h0,rfl⟩
def plcP_c(id:Int)(length:Int):PC Tryz.prog:=⟨146,[.k,.k],[.int id,.int length],plcP_e (plcT id length),PSpec.of_ok fun ok=>(plcP_p id length ok).elim fun I0 h=>mxP_of (sh:=.k) (enc:=plcP_e) (a:=(plcP_x id length I0).an) h (by kernel_rfl) (AV.pureB_ok rfl),fnB_ok (by kernel_rfl)⟩
theorem plc_rng{id len:Int}:0≤(plcT id len).2.1∧(plcT id len).2.1<64∧0≤(plcT id len).1∧(plcT id len).1≤255:=by
 unfold plcT
 split
 ·rename_i c
  have hl:=vlenP_iff.mp c.1
  have h1:=Int.tmod_nonneg len (show 0≤id-1 by omega)
  have h2:=Int.tmod_lt_of_pos (id-1) (show 0<len by omega)
  have h3:0≤(id-1).tdiv len:=Int.tdiv_nonneg (by omega) (by omega)
  have h4:=Int.tdiv_le_self (b:=len) (show 0≤id-1 by omega)
  simp only;omega
 ·simp
def addB(s:Stb)(b:Int):Stb:=⟨s.set,bOr .u64 s.bits (shlI .u64 1 b)⟩
def addS(len:Int)(out:List Stb)(id:Int):List Stb:=match out.getLast? with
 | some s=>if s.set=(plcT id len).1 then out.dropLast++[addB s (plcT id len).2.1] else out++[addB ⟨(plcT id len).1,0⟩ (plcT id len).2.1]
 | none=>[addB ⟨(plcT id len).1,0⟩ (plcT id len).2.1]
def setsT(p:Pln)(ids:List Int):List Stb×Int:=
 if plnOkB p=false then ([],1) else if ¬ids.Pairwise (·<·) then ([],25) else if (ids.any fun y=>notIn y p)=true then ([],4) else (ids.foldl (addS p.len) [],0)
theorem take_pw{l:List Int}{k:Nat}{x y:Int}(h:(l.take k).Pairwise (·<·))(h0:0<k)(h1:l[k-1]?=some x)(h2:l[k]?=some y):(l.take (k+1)).Pairwise (·<·)↔x<y:=by
 rw [take_succ h2,List.pairwise_append]
 constructor
 ·rintro ⟨_,_,q⟩
  exact q x (List.mem_take_iff_getElem.mpr ⟨k-1,by have:=lt_of_get h1;omega,by rw [List.getElem?_eq_getElem (lt_of_get h1)] at h1;exact Option.some.inj h1⟩) y (by simp)
 ·intro q
  refine ⟨h,List.pairwise_singleton _ _,fun a ha b hb=>?_⟩
  rw [List.mem_singleton] at hb;subst hb
  obtain ⟨i,hi,rfl⟩:=List.mem_take_iff_getElem.mp ha
  have hk:=lt_of_get h2
  rw [List.getElem?_eq_getElem (by omega)] at h1
  have h1:=Option.some.inj h1
  by_cases e:i=k-1
  ·subst e;rw [h1];exact q
  ·rw [List.pairwise_iff_getElem] at h
   have:=h i (k-1) (by simp;omega) (by simp;omega) (by omega)
   rw [List.getElem_take,List.getElem_take,h1] at this
   omega
theorem addS_len{len id:Int}{out:List Stb}:(addS len out id).length≤out.length+1:=by
 unfold addS
 split
 ·split
  ·simp
  ·simp
 ·simp
theorem last_cases{α:Type}(l:List α):l=[]∨∃i x,l=i++[x]:=by
 rcases List.eq_nil_or_concat l with h|⟨i,x,h⟩
 ·exact .inl h
 ·exact .inr ⟨i,x,by rw [h,List.concat_eq_append]⟩
def setsP_a(p:Pln)(ids:(List Int)):Prop:=okL [.agg [.int p.sub,.int p.len,.sl 2 (p.es.map Edg.v) false],.sl 1 (ids.map AV.int) false]
def setsP_n0(p:Pln)(ids:(List Int))(t0:Int):NF:=⟨[(1,.k,.sl 1 (ids.map AV.int) false),(2,.k,.ref 0 0),(18,.k,.int ((ids.map AV.int).length:Int)),(19,.k,.int t0)],[.box (.agg [.int p.sub,.int p.len,.sl 2 (p.es.map Edg.v) false])]⟩
def setsP_n1(p:Pln)(ids:(List Int))(t0:Int)(t1:Bool):NF:=⟨[(1,.k,.sl 1 (ids.map AV.int) false),(2,.k,.ref 0 0),(18,.k,.int ((ids.map AV.int).length:Int)),(19,.k,.int t0),(35,.k,.bool t1)],[.box (.agg [.int p.sub,.int p.len,.sl 2 (p.es.map Edg.v) false])]⟩
def setsP_n2(p:Pln)(ids:(List Int))(t2:Int×(List Stb)):NF:=⟨[(2,.k,.ref 0 0),(7,.k,.vec 1),(40,.k,.sl 1 (ids.map AV.int) false),(41,.k,.int ((ids.map AV.int).length:Int)),(42,.k,.int t2.1)],[.box (.agg [.int p.sub,.int p.len,.sl 2 (p.es.map Edg.v) false]),.vec 2 (t2.2.map Stb.v) (pureBL_map (fun _=>rfl) t2.2)]⟩
def setsP_n3(p:Pln)(ids:(List Int))(t2:Int×(List Stb))(x3:Int)(t3:(List Stb)):NF:=⟨[(2,.k,.ref 0 0),(7,.k,.vec 1),(11,.k,.int ((plcT x3 p.len).2.1)),(40,.k,.sl 1 (ids.map AV.int) false),(41,.k,.int ((ids.map AV.int).length:Int)),(42,.k,.int t2.1)],[.box (.agg [.int p.sub,.int p.len,.sl 2 (p.es.map Edg.v) false]),.vec 2 (t3.map Stb.v) (pureBL_map (fun _=>rfl) t3)]⟩
def setsP_n4(p:Pln)(ids:(List Int))(t2:Int×(List Stb))(x3:Int)(t4:Bool):NF:=⟨[(2,.k,.ref 0 0),(7,.k,.vec 1),(10,.k,.int ((plcT x3 p.len).1)),(11,.k,.int ((plcT x3 p.len).2.1)),(40,.k,.sl 1 (ids.map AV.int) false),(41,.k,.int ((ids.map AV.int).length:Int)),(42,.k,.int t2.1),(67,.k,.bool t4)],[.box (.agg [.int p.sub,.int p.len,.sl 2 (p.es.map Edg.v) false]),.vec 2 (t2.2.map Stb.v) (pureBL_map (fun _=>rfl) t2.2)]⟩
@[reducible] def setsP_s:Nat→Type
 | 0=>Int
 | 1=>Bool
 | 2=>Int×(List Stb)
 | 3=>(List Stb)
 | 4=>Bool
 | _=>Unit
def setsP_e(r:(List Stb)×Int):AV:=.tup [.sl 2 (r.1.map Stb.v) false,.int r.2]
def setsP_x(p:Pln)(ids:(List Int))(I0:Int→Prop)(m0:Int→Nat)(I1:Int→Bool→Prop)(I2:Int→(Int×(List Stb))→Prop)(m2:Int→(Int×(List Stb))→Nat)(I3:Int→Int×(List Stb)→Int→(List Stb)→Prop)(I4:Int→Int×(List Stb)→Int→Bool→Prop):Ax Tryz.prog setsP_s ((List Stb)×Int):=
 (.callP (vplnP_c p)
(.br 96 (!(plnOkB p)) (.ret ([],1))
(.loop 0 (setsP_n0 p ids) I0 m0 ((0):Int) [0] fun (t0:Int) b0 =>
(.br 17 (decide (t0<((ids.map AV.int).length:Int))) (.pass (.pass (.join 1 (setsP_n1 p ids t0) (fun (t1:Bool)=>I1 t0 t1) (fun b1=>(.br 97 (decide (0<t0)) (.el 145 AV.int ids (fun R=>Rf (ids.map AV.int) (ck (decide (0≤(W (t0-1)))) (ck (decide ((W (t0-1))<(ids.length:Int)))
(∀x1,ids[(W (t0-1)).toNat]?=some x1 →
(R x1))))) fun x1 =>
(.el 209 AV.int ids (fun R=>Rf (ids.map AV.int) (ck (decide (0≤t0)) (ck (decide (t0<(ids.length:Int)))
(∀x2,ids[t0.toNat]?=some x2 →
(R x2))))) fun x2 =>
(.bk 1 b1 ((decide (x2≤x1)):Bool) [0])))
(.bk 1 b1 ((false):Bool) [0]))) fun (t1:Bool) =>
(.br 1 t1 (.ret ([],25))
(.bk 0 b0 ((W (t0+1)):Int) [0])))))
(.callP (notInA_c ids p)
(.say (ck (pureBLs [[.agg [.int p.sub,.int p.len,.sl 2 (p.es.map Edg.v) false]]])) (.br 65 ((ids).any fun y=>notIn y p) (.ret ([],4))
(.cmdL (.nilT 7 2) (.loop 2 (setsP_n2 p ids) (I2 t0) (m2 t0) (0,[]) [0,129] fun (t2:Int×(List Stb)) b2 =>
(.br 18 (decide (t2.1<((ids.map AV.int).length:Int))) (.el 18 AV.int ids (fun R=>Rf (ids.map AV.int) (ck (decide (0≤t2.1)) (ck (decide (t2.1<(ids.length:Int)))
(∀x3,ids[t2.1.toNat]?=some x3 →
(R x3))))) fun x3 =>
(.callP (plcP_c x3 p.len)
(.join 3 (setsP_n3 p ids t2 x3) (fun (t3:(List Stb))=>I3 t0 t2 x3 t3) (fun b3=>(.pass (.join 4 (setsP_n4 p ids t2 x3) (fun (t4:Bool)=>I4 t0 t2 x3 t4) (fun b4=>(.br 338 (((t2.2.map Stb.v).length:Int)==0) (.bk 4 b4 ((true):Bool) [0,1])
(.say (ck (cond (decide (0≤(W (((t2.2.map Stb.v).length:Int)-1)))) (decide ((W (((t2.2.map Stb.v).length:Int)-1))<((t2.2.map Stb.v).length:Int))) false)) (.el 418 Stb.v t2.2 (fun R=>Rf (t2.2.map Stb.v) (ck (decide ((W (((t2.2.map Stb.v).length:Int)-1)).toNat<t2.2.length))
(∀x4,t2.2[(W (((t2.2.map Stb.v).length:Int)-1)).toNat]?=some x4 →
(R x4)))) fun x4 =>
(.bk 4 b4 ((x4.set != ((plcT x3 p.len).1)):Bool) [0,1]))))) fun (t4:Bool) =>
(.br 2 t4 (.say (fun R=>Rf (α:=List AV) (t2.2.map Stb.v) (Rf (α:=List AV) [.agg [.int ((plcT x3 p.len).1),.val (.int .u64 0)]]
(ck (decide (t2.2.length+1≤1048576))
R))) (.app 66 Stb.v t2.2 [(⟨(plcT x3 p.len).1,0⟩:Stb)]
(.bk 3 b3 ((t2.2++[(⟨(plcT x3 p.len).1,0⟩:Stb)]):(List Stb)) [0,66])))
(.bk 3 b3 ((t2.2):(List Stb)) [0,1]))))) fun (t3:(List Stb)) =>
(.say (ck (cond (decide (0≤(W (((t3.map Stb.v).length:Int)-1)))) (decide ((W (((t3.map Stb.v).length:Int)-1))<((t3.map Stb.v).length:Int))) false)) (.el 98 Stb.v t3 (fun R=>Rf (t3.map Stb.v) (ck (decide ((W (((t3.map Stb.v).length:Int)-1)).toNat<t3.length))
(∀x5,t3[(W (((t3.map Stb.v).length:Int)-1)).toNat]?=some x5 →
(R x5)))) fun x5 =>
(.say (fun R=>ck (decide (0≤((plcT x3 p.len).2.1)))
((ck (cond (decide (0≤(W (((t3.map Stb.v).length:Int)-1)))) (decide ((W (((t3.map Stb.v).length:Int)-1))<((t3.map Stb.v).length:Int))) false)
R))) (.st 194 Stb.v t3 (fun y6=>(⟨y6.set,bOr .u64 x5.bits (shlI .u64 1 ((plcT x3 p.len).2.1))⟩:Stb)) (fun R=>Rf (t3.map Stb.v) (ck (decide ((W (((t3.map Stb.v).length:Int)-1)).toNat<t3.length))
(∀y6,t3[(W (((t3.map Stb.v).length:Int)-1)).toNat]?=some y6→Rf (Stb.v (⟨y6.set,bOr .u64 x5.bits (shlI .u64 1 ((plcT x3 p.len).2.1))⟩:Stb))
((R y6))))) fun y6 =>
(.bk 2 b2 (W (t2.1+1),t3.set ((W (((t3.map Stb.v).length:Int)-1)).toNat) (⟨y6.set,bOr .u64 x5.bits (shlI .u64 1 ((plcT x3 p.len).2.1))⟩:Stb)) [0,1]))))))))
(.say (Rf (t2.2.map Stb.v)) (.cmdL (.frzE 1 (t2.2.map Stb.v) (pureBL_map (fun _=>rfl) t2.2)) (.ret (t2.2,0))))))))))))))
def setsP_vc(p:Pln)(ids:(List Int))(I0:Int→Prop)(m0:Int→Nat)(I1:Int→Bool→Prop)(I2:Int→(Int×(List Stb))→Prop)(m2:Int→(Int×(List Stb))→Nat)(I3:Int→Int×(List Stb)→Int→(List Stb)→Prop)(I4:Int→Int×(List Stb)→Int→Bool→Prop)(r0:(List Stb)×Int):Prop:=(setsP_x p ids I0 m0 I1 I2 m2 I3 I4).vp setsP_e r0
theorem setsP_p(p:Pln)(ids:List Int)(ok:setsP_a p ids):∃I0 m0 I1 I2 m2 I3 I4,setsP_vc p ids I0 m0 I1 I2 m2 I3 I4 (setsT p ids):=by
 refine ⟨fun t=>∃k:Nat,t=k∧k≤ids.length∧(ids.take k).Pairwise (·<·),fun t=>ids.length-t.toNat,fun t b=>b=decide (¬(ids.take (t.toNat+1)).Pairwise (·<·)),
  fun _ t=>ForG ids (addS p.len) [] t.1 t.2,fun _ t=>ids.length-t.1.toNat,
  fun _ s x out=>out≠[]∧∃i y,out=i++[y]∧i++[addB y (plcT x p.len).2.1]=addS p.len s.2 x,fun _ s x b=>b=true↔¬∃i y,s.2=i++[y]∧y.set=(plcT x p.len).1,?_⟩
 simp only [setsP_a,okU,Blk.ok,plainV,List.length_map] at ok
 dsimp only [setsP_vc,setsP_x,setsP_s,Ax.vp,Ax.vc];simp only [vcU,rfU,List.length_map]
 refine ⟨fun c=>?_,fun c=>⟨⟨0,rfl,by omega,by simp⟩,?_⟩⟩
 ·rw [setsT,if_pos (by simpa using c)]
 have c:¬plnOkB p=false:=by simpa using c
 have hB:p.es.length≤24:=by
  have:=(Bool.and_eq_true _ _).mp (Bool.not_eq_false _ ▸ c:plnOkB p=true)
  exact (of_decide_eq_true this.1).2.2
 have hE:plnE p.es:=by
  have:=(Bool.and_eq_true _ _).mp (Bool.not_eq_false _ ▸ c:plnOkB p=true)
  exact of_decide_eq_true this.2
 rintro _ ⟨k,rfl,hk,h⟩
 simp only [Int.toNat_natCast]
 refine ⟨fun d=>⟨⟨fun e=>?_,fun e=>?_⟩,?_⟩,fun d=>⟨rfl,fun e=>?_,fun e=>⟨ForG.zero,?_⟩⟩⟩
 ·rw [W_pred (by omega) (by omega)]
  simp only [Int.toNat_natCast]
  refine ⟨by omega,by omega,fun x hx=>⟨by omega,by omega,fun y hy=>?_⟩⟩
  rw [decide_eq_decide,take_pw h (by omega) hx hy];omega
 ·have:k=0:=by omega
  subst this
  have hy:=List.getElem?_eq_getElem (show 0<ids.length by omega)
  refine (decide_eq_false (not_not_intro ?_)).symm
  rw [take_succ hy];simp
 ·rintro _ rfl
  refine ⟨fun e=>?_,fun e=>?_⟩
  ·have e:=of_decide_eq_true e
   rw [setsT,if_neg c,if_pos fun q=>e (q.sublist (List.take_sublist _ _))]
  ·have e:=Classical.not_not.mp (of_decide_eq_false e)
   rw [W_succ (n:=ids.length) (by omega) (by omega)]
   exact ⟨⟨k+1,rfl,by omega,e⟩,by omega⟩
 all_goals have hk':k=ids.length:=by omega
 all_goals subst hk'
 all_goals rw [List.take_of_length_le (Nat.le_refl _)] at h
 ·rw [setsT,if_neg c,if_neg (not_not_intro h),if_pos e]
 have hl:ids.length≤256:=by
  have hm:∀x∈ids,x∈p.es.map Edg.id:=by
   intro x hx
   rw [List.any_eq_false] at e
   have:=e x hx
   simp only [notIn,hasP,Bool.not_eq_true',Bool.not_eq_false,List.any_eq_true,eqId,beq_iff_eq] at this
   obtain ⟨y,hy,q⟩:=this
   exact List.mem_map.mpr ⟨y,hy,q⟩
  have:=nodup_sub (h.imp fun q=>by omega) hm
  rw [List.length_map] at this
  omega
 rintro ⟨j,out⟩ g
 simp only at g ⊢
 have hlen:=g.len (f:=List.length) (a:=0) (b:=1) (by simp) fun s x _=>addS_len
 refine ⟨fun d2=>⟨g.idx,d2,fun x hx=>⟨⟨⟨fun q=>?_,fun q=>?_⟩,?_⟩,?_⟩⟩,fun d2=>?_⟩
 ·have:out=[]:=List.eq_nil_of_length_eq_zero (by have:=eq_of_beq q;omega)
  subst this
  exact iff_of_true trivial (by rintro ⟨i,y,r,_⟩;simp at r)
 ·rcases last_cases out with rfl|⟨i,y,rfl⟩
  ·simp at q
  ·have hil:((i++[y]).length:Int)=((i.length+1:Nat):Int):=by simp
   have w:W (((i++[y]).length:Int)-1)=(i.length:Int):=by rw [hil,W_eq (by simp at hlen;omega)];omega
   rw [w]
   simp only [Int.toNat_natCast]
   refine ⟨range2 (by omega) (by rw [hil];omega),by simp,fun z hz=>?_⟩
   rw [List.getElem?_append_right (Nat.le_refl _),Nat.sub_self,List.getElem?_cons_zero] at hz
   cases hz
   rw [bne_iff_ne]
   refine not_congr ⟨fun r=>⟨i,y,rfl,r⟩,?_⟩
   rintro ⟨i',y',r,r2⟩
   have:=(List.append_inj' r rfl).2
   simp only [List.cons.injEq,and_true] at this
   rw [this];exact r2
 ·intro b hb
  refine ⟨fun q=>?_,fun q=>?_⟩
  ·have q:=hb.mp q
   refine ⟨by omega,by simp,out,⟨(plcT x p.len).1,0⟩,rfl,?_⟩
   rcases last_cases out with rfl|⟨i,y,rfl⟩
   ·rfl
   ·rw [addS,List.getLast?_concat]
    simp only
    rw [if_neg fun r=>q ⟨i,y,rfl,r⟩]
  ·have q:=Classical.not_not.mp fun r=>by rw [hb.mpr r] at q;cases q
   obtain ⟨i,y,rfl,r⟩:=q
   refine ⟨by simp,i,y,rfl,?_⟩
   rw [addS,List.getLast?_concat]
   simp only
   rw [if_pos r,List.dropLast_concat]
 ·rintro out2 ⟨_,i,y,rfl,hadd⟩
  have h2:=addS_len (len:=p.len) (out:=out) (id:=x)
  rw [←hadd,List.length_append,List.length_singleton] at h2
  have hil:((i++[y]).length:Int)=((i.length+1:Nat):Int):=by simp
  have w:W (((i++[y]).length:Int)-1)=(i.length:Int):=by rw [hil,W_eq (by omega)];omega
  have hp:=plc_rng (id:=x) (len:=p.len)
  rw [w]
  simp only [Int.toNat_natCast]
  refine ⟨range2 (by omega) (by rw [hil];omega),by simp,fun z hz=>⟨hp.1,range2 (by omega) (by rw [hil];omega),by simp,fun z2 hz2=>?_⟩⟩
  rw [List.getElem?_append_right (Nat.le_refl _),Nat.sub_self,List.getElem?_cons_zero] at hz hz2
  cases hz;cases hz2
  rw [List.set_append_right _ _ (Nat.le_refl _),Nat.sub_self,List.set_cons_zero]
  exact g.step (by omega) hx hadd
 ·rw [setsT,if_neg c,if_neg (not_not_intro h),if_neg (by rw [e];simp),←g.done d2]
def setsP_c(p:Pln)(ids:(List Int)):PC Tryz.prog:=⟨103,[(.a [.k,.k,(.s 2)]),(.s 1)],[.agg [.int p.sub,.int p.len,.sl 2 (p.es.map Edg.v) false],.sl 1 (ids.map AV.int) false],setsP_e (setsT p ids),PSpec.of_ok fun ok=>(setsP_p p ids ok).elim fun I0 h=>h.elim fun m0 h=>h.elim fun I1 h=>h.elim fun I2 h=>h.elim fun m2 h=>h.elim fun I3 h=>h.elim fun I4 h=>mxP_of (sh:=(.a [(.s 2),.k])) (enc:=setsP_e) (a:=(setsP_x p ids I0 m0 I1 I2 m2 I3 I4).an) h (by kernel_rfl) (AV.pureB_ok rfl),fnB_ok (by kernel_rfl)⟩
def inK(n most:Int):Bool:=decide (0≤n) && decide (n≤most)
def inK_a(n:Int)(most:Int):Prop:=okL [.int n,.int most]
def inK_e(r:Bool):AV:=.bool r
def inK_x(n:Int)(most:Int):Ax Tryz.prog noS (Bool):=
 (.br 64 (decide (0≤n)) (.ret (decide (n≤most)))
(.ret (false)))
def inK_vc(n:Int)(most:Int)(r0:Bool):Prop:=(inK_x n most).vp inK_e r0
theorem inK_p(n m:Int)(ok:inK_a n m):inK_vc n m (inK n m):=by
 dsimp only [inK_vc,inK_x,noS,Ax.vp,Ax.vc];simp only [vcU,rfU,List.length_map]
 refine ⟨fun c=>?_,fun c=>?_⟩<;>simp [inK,c]
def inK_c(n:Int)(most:Int):PC Tryz.prog:=⟨147,[.k,.k],[.int n,.int most],inK_e (inK n most),PSpec.of_ok fun ok=>mxP_of (sh:=.k) (enc:=inK_e) (a:=(inK_x n most).an) (inK_p n most ok) (by kernel_rfl) (AV.pureB_ok rfl),fnB_ok (by kernel_rfl)⟩
def fullP(len:Int):Int:=if vlenP len=true then shrI .u64 18446744073709551615 (64-len) else 0
def fullP_a(length:Int):Prop:=okL [.int length]
def fullP_e(r:Int):AV:=.val (.int .u64 r)
def fullP_x(length:Int):Ax Tryz.prog noS (Int):=
 (.callP (vlenP_c length)
(.br 64 (!(vlenP length)) (.ret (0))
(.say (ck (decide (0≤(W (64-length))))) (.ret (shrI .u64 18446744073709551615 (W (64-length)))))))
def fullP_vc(length:Int)(r0:Int):Prop:=(fullP_x length).vp fullP_e r0
theorem fullP_p(len:Int)(ok:fullP_a len):fullP_vc len (fullP len):=by
 dsimp only [fullP_vc,fullP_x,noS,Ax.vp,Ax.vc];simp only [vcU,rfU,List.length_map]
 refine ⟨fun c=>?_,fun c=>?_⟩
 ·have c:vlenP len=false:=by simpa using c
  rw [fullP,if_neg (by rw [c];simp)]
 ·have c:vlenP len=true:=by simpa using c
  have:=vlenP_iff.mp c
  rw [W_eq (by omega),fullP,if_pos c]
  exact ⟨by omega,rfl⟩
def fullP_c(length:Int):PC Tryz.prog:=⟨178,[.k],[.int length],fullP_e (fullP length),PSpec.of_ok fun ok=>mxP_of (sh:=.k) (enc:=fullP_e) (a:=(fullP_x length).an) (fullP_p length ok) (by kernel_rfl) (AV.pureB_ok rfl),fnB_ok (by kernel_rfl)⟩
def vbtP(b len:Int):Bool:=vlenP len && (bAndn .u64 b (fullP len)==0)
def vbtP_a(b:Int)(length:Int):Prop:=okL [.val (.int .u64 b),.int length]
def vbtP_e(r:Bool):AV:=.bool r
def vbtP_x(b:Int)(length:Int):Ax Tryz.prog noS (Bool):=
 (.callP (vlenP_c length)
(.br 64 (vlenP length) (.callP (fullP_c length)
(.ret ((bAndn .u64 b (fullP length))==0)))
(.ret (false))))
def vbtP_vc(b:Int)(length:Int)(r0:Bool):Prop:=(vbtP_x b length).vp vbtP_e r0
theorem vbtP_p(b len:Int)(ok:vbtP_a b len):vbtP_vc b len (vbtP b len):=by
 dsimp only [vbtP_vc,vbtP_x,noS,Ax.vp,Ax.vc];simp only [vcU,rfU,List.length_map]
 refine ⟨fun c=>?_,fun c=>?_⟩<;>rw [vbtP,c]<;>rfl
def vbtP_c(b:Int)(length:Int):PC Tryz.prog:=⟨148,[.k,.k],[.val (.int .u64 b),.int length],vbtP_e (vbtP b length),PSpec.of_ok fun ok=>mxP_of (sh:=.k) (enc:=vbtP_e) (a:=(vbtP_x b length).an) (vbtP_p b length ok) (by kernel_rfl) (AV.pureB_ok rfl),fnB_ok (by kernel_rfl)⟩
def pktB(p:Pkt):Bool:=decide (1≤p.mode) && (decide (p.mode≤3) && (inK p.sub 7 && (inK p.set 31 && (vbtP p.bits p.len && (inK p.ttl 63 && (inK p.ent 1023 && (inK p.ing 256 && (inK p.proto 7 && decide ((p.pay.size:Int)≤64)))))))))
def vpkP_a(p:Pkt):Prop:=okL [.agg [.int p.mode,.int p.sub,.int p.set,.int p.len,.int p.ttl,.int p.ent,.int p.ing,.int p.proto,.val (.int .u64 p.bits),.str p.pay]]
def vpkP_e(r:Bool):AV:=.bool r
def vpkP_x(p:Pkt):Ax Tryz.prog noS (Bool):=
 (.br 96 (decide (1≤p.mode)) (.br 176 (decide (p.mode≤3)) (.callP (inK_c p.sub 7)
(.br 256 (inK p.sub 7) (.callP (inK_c p.set 31)
(.br 336 (inK p.set 31) (.callP (vbtP_c p.bits p.len)
(.br 448 (vbtP p.bits p.len) (.callP (inK_c p.ttl 63)
(.br 528 (inK p.ttl 63) (.callP (inK_c p.ent 1023)
(.br 608 (inK p.ent 1023) (.callP (inK_c p.ing 256)
(.br 688 (inK p.ing 256) (.callP (inK_c p.proto 7)
(.br 768 (inK p.proto 7) (.ret (decide ((p.pay.size:Int)≤64)))
(.ret (false))))
(.ret (false))))
(.ret (false))))
(.ret (false))))
(.ret (false))))
(.ret (false))))
(.ret (false))))
(.ret (false)))
(.ret (false)))
def vpkP_vc(p:Pkt)(r0:Bool):Prop:=(vpkP_x p).vp vpkP_e r0
theorem vpkP_p(p:Pkt)(ok:vpkP_a p):vpkP_vc p (pktB p):=by
 dsimp only [vpkP_vc,vpkP_x,noS,Ax.vp,Ax.vc];simp only [vcU,rfU,List.length_map]
 unfold pktB
 by_cases h1:1≤p.mode<;>by_cases h2:p.mode≤3<;>cases inK p.sub 7<;>cases inK p.set 31<;>cases vbtP p.bits p.len<;>cases inK p.ttl 63<;>cases inK p.ent 1023<;>cases inK p.ing 256<;>cases inK p.proto 7<;>simp [h1,h2]
def vpkP_c(p:Pkt):PC Tryz.prog:=⟨104,[.k],[.agg [.int p.mode,.int p.sub,.int p.set,.int p.len,.int p.ttl,.int p.ent,.int p.ing,.int p.proto,.val (.int .u64 p.bits),.str p.pay]],vpkP_e (pktB p),PSpec.of_ok fun ok=>mxP_of (sh:=.k) (enc:=vpkP_e) (a:=(vpkP_x p).an) (vpkP_p p ok) (by kernel_rfl) (AV.pureB_ok rfl),fnB_ok (by kernel_rfl)⟩
def mkQ(p:Pln)(q:Pkt)(s:Stb):Pkt:=⟨q.mode,p.sub,s.set,p.len,q.ttl,q.ent,q.ing,q.proto,s.bits,q.pay⟩
def ingT(p:Pln)(ids:List Int)(q:Pkt):List Pkt×Int:=
 if (setsT p ids).2≠0 then ([],(setsT p ids).2) else if ¬∀s∈(setsT p ids).1,pktB (mkQ p q s)=true then ([],1) else ((setsT p ids).1.map (mkQ p q),0)
theorem foldS_len{len:Int}:∀{ids:List Int} {out:List Stb},(ids.foldl (addS len) out).length≤out.length+ids.length
 | [],out=>by simp
 | x::ids,out=>by
  have h1:=foldS_len (len:=len) (ids:=ids) (out:=addS len out x)
  have h2:=addS_len (len:=len) (out:=out) (id:=x)
  simp only [List.foldl_cons,List.length_cons];omega
theorem setsT_len(p:Pln)(ids:List Int):(setsT p ids).1.length≤ids.length:=by
 unfold setsT
 repeat' split
 all_goals simp
 exact Nat.le_trans foldS_len (by simp)
def ingP_a(p:Pln)(ids:(List Int))(q:Pkt):Prop:=okL [.agg [.int p.sub,.int p.len,.sl 2 (p.es.map Edg.v) false],.sl 1 (ids.map AV.int) false,.agg [.int q.mode,.int q.sub,.int q.set,.int q.len,.int q.ttl,.int q.ent,.int q.ing,.int q.proto,.val (.int .u64 q.bits),.str q.pay]]
def ingP_n0(p:Pln)(ids:(List Int))(t0:Int×Pkt×(List Pkt)):NF:=⟨[(3,.k,.ref 0 0),(5,.k,.ref 1 0),(10,.k,.vec 2),(22,.k,.sl 2 (((setsT p ids).1).map Stb.v) false),(23,.k,.int ((((setsT p ids).1).map Stb.v).length:Int)),(24,.k,.int t0.1)],[.box (.agg [.int p.sub,.int p.len,.sl 2 (p.es.map Edg.v) false]),.box (.agg [.int t0.2.1.mode,.int t0.2.1.sub,.int t0.2.1.set,.int t0.2.1.len,.int t0.2.1.ttl,.int t0.2.1.ent,.int t0.2.1.ing,.int t0.2.1.proto,.val (.int .u64 t0.2.1.bits),.str t0.2.1.pay]),.vec 10 (t0.2.2.map Pkt.v) (pureBL_map (fun _=>rfl) t0.2.2)]⟩
@[reducible] def ingP_s:Nat→Type
 | 0=>Int×Pkt×(List Pkt)
 | _=>Unit
def ingP_e(r:(List Pkt)×Int):AV:=.tup [.sl 10 (r.1.map Pkt.v) false,.int r.2]
def ingP_x(p:Pln)(ids:(List Int))(q:Pkt)(I0:(Int×Pkt×(List Pkt))→Prop)(m0:(Int×Pkt×(List Pkt))→Nat):Ax Tryz.prog ingP_s ((List Pkt)×Int):=
 (.callP (setsP_c p ids)
(.br 224 (((setsT p ids).2) != 0) (.ret ([],(setsT p ids).2))
(.cmdL (.nilT 10 10) (.loop 0 (ingP_n0 p ids) I0 m0 (0,q,[]) [0,16,288] fun (t0:Int×Pkt×(List Pkt)) b0 =>
(.br 19 (decide (t0.1<((((setsT p ids).1).map Stb.v).length:Int))) (.el 19 Stb.v ((setsT p ids).1) (fun R=>Rf (((setsT p ids).1).map Stb.v) (ck (decide (0≤t0.1)) (ck (decide (t0.1<(((setsT p ids).1).length:Int)))
(∀x1,((setsT p ids).1)[t0.1.toNat]?=some x1 →
(R x1))))) fun x1 =>
(.callP (vpkP_c (⟨t0.2.1.mode,p.sub,x1.set,p.len,t0.2.1.ttl,t0.2.1.ent,t0.2.1.ing,t0.2.1.proto,x1.bits,t0.2.1.pay⟩:Pkt))
(.br 387 (!(pktB (⟨t0.2.1.mode,p.sub,x1.set,p.len,t0.2.1.ttl,t0.2.1.ent,t0.2.1.ing,t0.2.1.proto,x1.bits,t0.2.1.pay⟩:Pkt))) (.ret ([],1))
(.say (fun R=>Rf (α:=List AV) (t0.2.2.map Pkt.v) (Rf (α:=List AV) [.agg [.int t0.2.1.mode,.int p.sub,.int x1.set,.int p.len,.int t0.2.1.ttl,.int t0.2.1.ent,.int t0.2.1.ing,.int t0.2.1.proto,.val (.int .u64 x1.bits),.str t0.2.1.pay]]
(ck (decide (t0.2.2.length+1≤1048576))
R))) (.app 435 Pkt.v t0.2.2 [(⟨t0.2.1.mode,p.sub,x1.set,p.len,t0.2.1.ttl,t0.2.1.ent,t0.2.1.ing,t0.2.1.proto,x1.bits,t0.2.1.pay⟩:Pkt)]
(.bk 0 b0 (W (t0.1+1),(⟨t0.2.1.mode,p.sub,x1.set,p.len,t0.2.1.ttl,t0.2.1.ent,t0.2.1.ing,t0.2.1.proto,x1.bits,t0.2.1.pay⟩:Pkt),t0.2.2++[(⟨t0.2.1.mode,p.sub,x1.set,p.len,t0.2.1.ttl,t0.2.1.ent,t0.2.1.ing,t0.2.1.proto,x1.bits,t0.2.1.pay⟩:Pkt)]) [0,1,435]))))))
(.say (Rf (t0.2.2.map Pkt.v)) (.cmdL (.frzE 2 (t0.2.2.map Pkt.v) (pureBL_map (fun _=>rfl) t0.2.2)) (.ret (t0.2.2,0)))))))))
def ingP_vc(p:Pln)(ids:(List Int))(q:Pkt)(I0:(Int×Pkt×(List Pkt))→Prop)(m0:(Int×Pkt×(List Pkt))→Nat)(r0:(List Pkt)×Int):Prop:=(ingP_x p ids q I0 m0).vp ingP_e r0
theorem ingP_p(p:Pln)(ids:List Int)(q:Pkt)(h:ids.length≤1000)(ok:ingP_a p ids q):∃I0 m0,ingP_vc p ids q I0 m0 (ingT p ids q):=by
 refine ⟨fun t=>ForX (setsT p ids).1 (fun s=>[mkQ p q s]) t.1 t.2.2∧ForI (setsT p ids).1 (fun s=>pktB (mkQ p q s)=true) t.1∧∀s,mkQ p t.2.1 s=mkQ p q s,fun t=>(setsT p ids).1.length-t.1.toNat,?_⟩
 dsimp only [ingP_vc,ingP_x,ingP_s,Ax.vp,Ax.vc];simp only [vcU,rfU,List.length_map]
 have hl:=setsT_len p ids
 refine ⟨fun c=>?_,fun c=>⟨⟨ForX.zero,ForI.zero,fun _=>trivial⟩,?_⟩⟩
 ·rw [ingT,if_pos (by simpa using c)]
 have c:¬(setsT p ids).2≠0:=by simpa using c
 rintro ⟨i,q2,out⟩ ⟨h1,h2,h3⟩
 simp only at h1 h2 h3 ⊢
 have hlen:=h1.len (b:=1) (by simp)
 refine ⟨fun d=>⟨h1.idx,d,fun s hs=>⟨fun e=>?_,fun e=>⟨by omega,?_⟩⟩⟩,fun d=>?_⟩
 ·have e:pktB (mkQ p q s)=false:=by rw [←h3 s];exact Bool.not_eq_true' _ |>.mp e
  rw [ingT,if_neg c,if_pos fun r=>by rw [r s (at_mem hs)] at e;cases e]
 ·have e:pktB (mkQ p q s)=true:=by rw [←h3 s];exact Bool.not_eq_false' _ |>.mp e
  obtain ⟨a,b⟩:=h1.step (out':=out++[mkQ p q2 s]) (by omega) hs (by rw [h3 s])
  obtain ⟨a2,_⟩:=h2.step (by omega) hs e
  exact ⟨⟨a,a2,fun z=>by rw [←h3 z];rfl⟩,b⟩
 ·rw [ingT,if_neg c,if_neg (not_not_intro (h2.done d)),h1.done d,flatMap_one]
def ingP_c(p:Pln)(ids:(List Int))(q:Pkt)(h:ids.length≤1000):PC Tryz.prog:=⟨55,[(.a [.k,.k,(.s 2)]),(.s 1),.k],[.agg [.int p.sub,.int p.len,.sl 2 (p.es.map Edg.v) false],.sl 1 (ids.map AV.int) false,.agg [.int q.mode,.int q.sub,.int q.set,.int q.len,.int q.ttl,.int q.ent,.int q.ing,.int q.proto,.val (.int .u64 q.bits),.str q.pay]],ingP_e (ingT p ids q),PSpec.of_ok fun ok=>(ingP_p p ids q h ok).elim fun I0 h=>h.elim fun m0 h=>mxP_of (sh:=(.a [(.s 10),.k])) (enc:=ingP_e) (a:=(ingP_x p ids q I0 m0).an) h (by kernel_rfl) (AV.pureB_ok rfl),fnB_ok (by kernel_rfl)⟩
def entT(s g:Int):Int:=W ((IntKind.u32.wrap (IntKind.u32.wrap (IntKind.u32.wrap (IntKind.u32.wrap s * 31)+IntKind.u32.wrap g) * 2654435761)).fdiv 4194304)
def entP_a(source:Int)(group:Int):Prop:=okL [.int source,.int group]
def entP_e(r:Int):AV:=.int r
def entP_x(source:Int)(group:Int):Ax Tryz.prog noS (Int):=
 (.ret (W (Int.fdiv (IntKind.u32.wrap ((IntKind.u32.wrap ((IntKind.u32.wrap ((IntKind.u32.wrap source) * 31))+(IntKind.u32.wrap group))) * 2654435761)) 4194304)))
def entP_vc(source:Int)(group:Int)(r0:Int):Prop:=(entP_x source group).vp entP_e r0
theorem entP_p(s g:Int)(ok:entP_a s g):entP_vc s g (entT s g):=by
 dsimp only [entP_vc,entP_x,noS,Ax.vp,Ax.vc];simp only [vcU,rfU,List.length_map]
 rfl
def entP_c(source:Int)(group:Int):PC Tryz.prog:=⟨56,[.k,.k],[.int source,.int group],entP_e (entT source group),PSpec.of_ok fun ok=>mxP_of (sh:=.k) (enc:=entP_e) (a:=(entP_x source group).an) (entP_p source group ok) (by kernel_rfl) (AV.pureB_ok rfl),fnB_ok (by kernel_rfl)⟩
def ownP(p:Pln)(r:Int):Int:=match p.es.find? fun e=>e.router==r with
 | some e=>e.id
 | none=>0
theorem ForI.find{α:Type}{l:List α}{t:Int}{x:α}{p:α→Bool}(h:ForI l (fun y=>p y=false) t)(hx:l[t.toNat]?=some x)(hp:p x=true):l.find? p=some x:=by
 obtain ⟨k,rfl,hk,ha⟩:=h
 rw [Int.toNat_natCast] at hx
 rw [List.find?_eq_some_iff_getElem]
 have hlt:=lt_of_get hx
 refine ⟨hp,k,hlt,by rw [List.getElem?_eq_getElem hlt] at hx;exact Option.some.inj hx,fun j hj=>?_⟩
 rw [ha _ (List.mem_take_iff_getElem.mpr ⟨j,by omega,rfl⟩)];rfl
theorem ForI.nofind{α:Type}{l:List α}{t:Int}{p:α→Bool}(h:ForI l (fun y=>p y=false) t)(c:¬t<l.length):l.find? p=none:=by
 rw [List.find?_eq_none]
 exact fun x hx=>by rw [h.done c x hx];simp
def ownP_a(p:Pln)(router:Int):Prop:=okL [.agg [.int p.sub,.int p.len,.sl 2 (p.es.map Edg.v) false],.int router]
def ownP_n0(p:Pln)(router:Int)(t0:Int):NF:=⟨[(1,.k,.int router),(8,.k,.sl 2 (p.es.map Edg.v) false),(9,.k,.int ((p.es.map Edg.v).length:Int)),(10,.k,.int t0)],[]⟩
@[reducible] def ownP_s:Nat→Type
 | 0=>Int
 | _=>Unit
def ownP_e(r:Int):AV:=.int r
def ownP_x(p:Pln)(router:Int)(I0:Int→Prop)(m0:Int→Nat):Ax Tryz.prog ownP_s (Int):=
 (.loop 0 (ownP_n0 p router) I0 m0 ((0):Int) [] fun (t0:Int) b0 =>
(.br 16 (decide (t0<((p.es.map Edg.v).length:Int))) (.el 16 Edg.v p.es (fun R=>Rf (p.es.map Edg.v) (ck (decide (0≤t0)) (ck (decide (t0<(p.es.length:Int)))
(∀x1,p.es[t0.toNat]?=some x1 →
(R x1))))) fun x1 =>
(.br 144 (x1.router==router) (.ret (x1.id))
(.bk 0 b0 ((W (t0+1)):Int) [])))
(.ret (0))))
def ownP_vc(p:Pln)(router:Int)(I0:Int→Prop)(m0:Int→Nat)(r0:Int):Prop:=(ownP_x p router I0 m0).vp ownP_e r0
theorem ownP_p(p:Pln)(r:Int)(ok:ownP_a p r):∃I m,ownP_vc p r I m (ownP p r):=by
 refine ⟨fun t=>ForI p.es (fun e=>(e.router==r)=false) t,fun t=>p.es.length-t.toNat,?_⟩
 simp only [ownP_a,okU,Blk.ok,plainV,List.length_map] at ok
 dsimp only [ownP_vc,ownP_x,ownP_s,Ax.vp,Ax.vc];simp only [vcU,rfU,List.length_map]
 refine ⟨ForI.zero,fun t h=>⟨fun c=>⟨h.idx,c,fun x hx=>⟨fun q=>?_,fun q=>h.step (by omega) hx q⟩⟩,fun c=>?_⟩⟩
 ·rw [ownP,h.find (p:=fun e=>e.router==r) hx q]
 ·rw [ownP,h.nofind (p:=fun e=>e.router==r) c]
def ownP_c(p:Pln)(router:Int):PC Tryz.prog:=⟨57,[(.a [.k,.k,(.s 2)]),.k],[.agg [.int p.sub,.int p.len,.sl 2 (p.es.map Edg.v) false],.int router],ownP_e (ownP p router),PSpec.of_ok fun ok=>(ownP_p p router ok).elim fun I0 h=>h.elim fun m0 h=>mxP_of (sh:=.k) (enc:=ownP_e) (a:=(ownP_x p router I0 m0).an) h (by kernel_rfl) (AV.pureB_ok rfl),fnB_ok (by kernel_rfl)⟩
def pksT(o:Ovl)(p:Pln)(at_:Int)(f:Flw)(d:ByteArray):List Pkt×Int:=
 if (rcvT o p at_ f).2≠0 then ([],(rcvT o p at_ f).2) else if (wrpT f d).2≠0 then ([],(wrpT f d).2)
 else ingT p (rcvT o p at_ f).1 ⟨1,0,0,0,63,entT f.src f.grp,ownP p at_,1,0,(wrpT f d).1⟩
theorem rcvT_len(o:Ovl)(p:Pln)(at_:Int)(f:Flw):(rcvT o p at_ f).1.length≤24:=by
  unfold rcvT
  split
  · simp
  split
  · simp
  rename_i c
  have hB:p.es.length≤24:=by
    have:=(Bool.and_eq_true _ _).mp (Bool.not_eq_false _ ▸ c:plnOkB p=true)
    exact (of_decide_eq_true this.1).2.2
  split
  · simp
  split
  · simp
  have key:∀l:List Edg,(l.flatMap (rcv1 o at_ f)).length≤l.length:=by
    intro l
    induction l with
    | nil=>simp
    | cons e l ih =>
      rw [List.flatMap_cons,List.length_append,List.length_cons]
      have : (rcv1 o at_ f e).length ≤ 1 := by unfold rcv1; repeat' split
                                               all_goals simp
      omega
  exact Nat.le_trans (key _) hB
def pksF_a(o:Ovl)(p:Pln)(at_:Int)(f:Flw)(data:ByteArray):Prop:=okL [.agg [.sl 5 (o.sp.map Spk.v) false,.sl 3 (o.ls.map Lsn.v) false,.sl 10 (o.fl.map Sig.v) false],.agg [.int p.sub,.int p.len,.sl 2 (p.es.map Edg.v) false],.int at_,.agg [.int f.src,.int f.grp],.str data]
def pksF_e(r:(List Pkt)×Int):AV:=.tup [.sl 10 (r.1.map Pkt.v) false,.int r.2]
def pksF_x(o:Ovl)(p:Pln)(at_:Int)(f:Flw)(data:ByteArray):Ax Tryz.prog noS ((List Pkt)×Int):=
 (.callP (rcvF_c o p at_ f)
(.br 272 (((rcvT o p at_ f).2) != 0) (.ret ([],(rcvT o p at_ f).2))
(.req 304 (data.size≤1000000) fun h1 =>
(.callP (wrpF_c f data h1)
(.br 432 (((wrpT f data).2) != 0) (.ret ([],(wrpT f data).2))
(.callP (entP_c f.src f.grp)
(.callP (ownP_c p at_)
(.req 624 (((rcvT o p at_ f).1).length≤1000) fun h2 =>
(.callP (ingP_c p ((rcvT o p at_ f).1) (⟨1,0,0,0,63,entT f.src f.grp,ownP p at_,1,0,(wrpT f data).1⟩:Pkt) h2)
(.ret ((ingT p ((rcvT o p at_ f).1) (⟨1,0,0,0,63,entT f.src f.grp,ownP p at_,1,0,(wrpT f data).1⟩:Pkt)).1,(ingT p ((rcvT o p at_ f).1) (⟨1,0,0,0,63,entT f.src f.grp,ownP p at_,1,0,(wrpT f data).1⟩:Pkt)).2)))))))))))
def pksF_vc(o:Ovl)(p:Pln)(at_:Int)(f:Flw)(data:ByteArray)(r0:(List Pkt)×Int):Prop:=(pksF_x o p at_ f data).vp pksF_e r0
theorem pksF_p(o:Ovl)(p:Pln)(at_:Int)(f:Flw)(d:ByteArray)(h:d.size≤1000000)(ok:pksF_a o p at_ f d):pksF_vc o p at_ f d (pksT o p at_ f d):=by
 dsimp only [pksF_vc,pksF_x,noS,Ax.vp,Ax.vc];simp only [vcU,rfU,List.length_map]
 have:=rcvT_len o p at_ f
 refine ⟨fun c=>?_,fun c=>⟨h,fun e=>?_,fun e=>⟨by omega,?_⟩⟩⟩
 ·rw [pksT,if_pos (by simpa using c)]
 ·rw [pksT,if_neg (by simpa using c),if_pos (by simpa using e)]
 ·rw [pksT,if_neg (by simpa using c),if_neg (by simpa using e)]
def pksF_c(o:Ovl)(p:Pln)(at_:Int)(f:Flw)(data:ByteArray)(h:data.size≤1000000):PC Tryz.prog:=⟨16,[(.a [(.s 5),(.s 3),(.s 10)]),(.a [.k,.k,(.s 2)]),.k,.k,.k],[.agg [.sl 5 (o.sp.map Spk.v) false,.sl 3 (o.ls.map Lsn.v) false,.sl 10 (o.fl.map Sig.v) false],.agg [.int p.sub,.int p.len,.sl 2 (p.es.map Edg.v) false],.int at_,.agg [.int f.src,.int f.grp],.str data],pksF_e (pksT o p at_ f data),PSpec.of_ok fun ok=>mxP_of (sh:=(.a [(.s 10),.k])) (enc:=pksF_e) (a:=(pksF_x o p at_ f data).an) (pksF_p o p at_ f data h ok) (by kernel_rfl) (AV.pureB_ok rfl),fnB_ok (by kernel_rfl)⟩
abbrev vlenR:=vlenP
def vlenR_a(n:Int):Prop:=okL [.int n]
def vlenR_e(r:Bool):AV:=.bool r
def vlenR_x(n:Int):Ax Tryz.prog noS (Bool):=
 (.br 64 (n==8) (.ret (true))
(.br 128 (n==16) (.ret (true))
(.br 192 (n==32) (.ret (true))
(.ret (n==64)))))
def vlenR_vc(n:Int)(r0:Bool):Prop:=(vlenR_x n).vp vlenR_e r0
theorem vlenR_p(n:Int)(ok:vlenR_a n):vlenR_vc n (vlenR n):=by
 dsimp only [vlenR_vc,vlenR_x,noS,Ax.vp,Ax.vc];simp only [vcU,rfU,List.length_map]
 refine ⟨fun c=>?_,fun c=>⟨fun d=>?_,fun d=>⟨fun e=>?_,fun e=>?_⟩⟩⟩
 ·rw [vlenR,vlenP,decide_eq_true (.inl (eq_of_beq c))]
 ·rw [vlenR,vlenP,decide_eq_true (.inr (.inl (eq_of_beq d)))]
 ·rw [vlenR,vlenP,decide_eq_true (.inr (.inr (.inl (eq_of_beq e))))]
 ·have c:¬n=8:=by simpa using c
  have d:¬n=16:=by simpa using d
  have e:¬n=32:=by simpa using e
  rw [vlenR,vlenP,Bool.eq_iff_iff,beq_iff_eq,decide_eq_true_eq]
  simp [c,d,e]
def vlenR_c(n:Int):PC Tryz.prog:=⟨65,[.k],[.int n],vlenR_e (vlenP n),PSpec.of_ok fun ok=>mxP_of (sh:=.k) (enc:=vlenR_e) (a:=(vlenR_x n).an) (vlenR_p n ok) (by kernel_rfl) (AV.pureB_ok rfl),fnB_ok (by kernel_rfl)⟩
abbrev insR:=inP
def insR_a(n:Int)(low:Int)(high:Int):Prop:=okL [.int n,.int low,.int high]
def insR_e(r:Bool):AV:=.bool r
def insR_x(n:Int)(low:Int)(high:Int):Ax Tryz.prog noS (Bool):=
 (.br 80 (decide (low≤n)) (.ret (decide (n≤high)))
(.ret (false)))
def insR_vc(n:Int)(low:Int)(high:Int)(r0:Bool):Prop:=(insR_x n low high).vp insR_e r0
theorem insR_p(n a b:Int)(ok:insR_a n a b):insR_vc n a b (insR n a b):=by
 dsimp only [insR_vc,insR_x,noS,Ax.vp,Ax.vc];simp only [vcU,rfU,List.length_map]
 refine ⟨fun c=>?_,fun c=>?_⟩<;>simp [insR,inP,c]
def insR_c(n:Int)(low:Int)(high:Int):PC Tryz.prog:=⟨66,[.k,.k,.k],[.int n,.int low,.int high],insR_e (inP n low high),PSpec.of_ok fun ok=>mxP_of (sh:=.k) (enc:=insR_e) (a:=(insR_x n low high).an) (insR_p n low high ok) (by kernel_rfl) (AV.pureB_ok rfl),fnB_ok (by kernel_rfl)⟩
def atT(st b len:Int):Int×Bool:=if (vlenP len=true∧(0≤b∧b≤len-1)∧0≤st∧st≤31)∧st * len+b+1≤256 then (st * len+b+1,true) else (0,false)
def atR_a(set_:Int)(bit:Int)(length:Int):Prop:=okL [.int set_,.int bit,.int length]
def atR_n0(set_:Int)(bit:Int)(length:Int)(t0:Bool):NF:=⟨[(0,.k,.int set_),(1,.k,.int bit),(2,.k,.int length),(23,.k,.bool t0)],[]⟩
@[reducible] def atR_s:Nat→Type
 | 0=>Bool
 | _=>Unit
def atR_e(r:Int×Bool):AV:=.tup [.int r.1,.bool r.2]
def atR_x(set_:Int)(bit:Int)(length:Int)(I0:Bool→Prop):Ax Tryz.prog atR_s (Int×Bool):=
 (.pass (.pass (.join 0 (atR_n0 set_ bit length) (fun (t0:Bool)=>I0 t0) (fun b0=>(.callP (vlenR_c length)
(.br 96 (!(vlenP length)) (.bk 0 b0 ((true):Bool) [])
(.callP (insR_c bit 0 (W (length-1)))
(.br 208 (!(inP bit 0 (W (length-1)))) (.bk 0 b0 ((true):Bool) [])
(.callP (insR_c set_ 0 31)
(.bk 0 b0 ((!(inP set_ 0 31)):Bool) []))))))) fun (t0:Bool) =>
(.br 0 t0 (.ret (0,false))
(.br 144 (decide (256<(W ((W ((W (set_ * length))+bit))+1)))) (.ret (0,false))
(.ret (W ((W ((W (set_ * length))+bit))+1),true)))))))
def atR_vc(set_:Int)(bit:Int)(length:Int)(I0:Bool→Prop)(r0:Int×Bool):Prop:=(atR_x set_ bit length I0).vp atR_e r0
theorem atR_p(st b len:Int)(ok:atR_a st b len):∃I,atR_vc st b len I (atT st b len):=by
 refine ⟨fun c=>c=decide (¬(vlenP len=true∧(0≤b∧b≤len-1)∧0≤st∧st≤31)),?_⟩
 dsimp only [atR_vc,atR_x,atR_s,Ax.vp,Ax.vc];simp only [vcU,rfU,List.length_map]
 refine ⟨⟨fun c=>?_,fun c=>?_⟩,?_⟩
 ·have c:vlenP len=false:=by simpa using c
  simp [c]
 ·have c:vlenP len=true:=by simpa using c
  have:=vlenP_iff.mp c
  rw [W_eq (n:=len-1) (by omega)]
  refine ⟨fun d=>?_,fun d=>?_⟩
  ·have d:=inP_t.mp d
   exact (decide_eq_true (show ¬(vlenP len=true∧(0≤b∧b≤len-1)∧0≤st∧st≤31) from fun q=>d q.2.1)).symm
  ·have d:=inP_f.mp d
   rw [Bool.eq_iff_iff,inP_t,decide_eq_true_iff]
   exact not_congr ⟨fun q=>⟨c,d,q⟩,fun q=>q.2.2⟩
 ·rintro _ rfl
  refine ⟨fun c=>?_,fun c=>?_⟩
  ·rw [atT,if_neg fun q=>of_decide_eq_true c q.1]
  ·have c:=Classical.not_not.mp (of_decide_eq_false c)
   have hl:=vlenP_iff.mp c.1
   have hm:0≤st * len∧st * len≤31 * 64:=⟨Int.mul_nonneg (by omega) (by omega),Int.mul_le_mul (by omega) (by omega) (by omega) (by omega)⟩
   have w1:W (st * len)=st * len:=W_eq (by omega)
   have w2:W (st * len+b)=st * len+b:=W_eq (by omega)
   have w3:W (st * len+b+1)=st * len+b+1:=W_eq (by omega)
   rw [w1,w2,w3]
   refine ⟨fun d=>?_,fun d=>?_⟩
   ·rw [atT,if_neg fun q=>by have:=q.2;omega]
   ·rw [atT,if_pos ⟨c,by omega⟩]
def atR_c(set_:Int)(bit:Int)(length:Int):PC Tryz.prog:=⟨18,[.k,.k,.k],[.int set_,.int bit,.int length],atR_e (atT set_ bit length),PSpec.of_ok fun ok=>(atR_p set_ bit length ok).elim fun I0 h=>mxP_of (sh:=.k) (enc:=atR_e) (a:=(atR_x set_ bit length I0).an) h (by kernel_rfl) (AV.pureB_ok rfl),fnB_ok (by kernel_rfl)⟩
def bitsN(n m:Nat):List Nat:=(List.range m).filter fun b=>n.testBit b
def idsS(len:Nat)(s:Stb):List Int:=(bitsN s.bits.toNat len).map fun (b:Nat)=>s.set * (len:Int)+(b:Int)+1
def flatS(len:Nat)(S:List Stb):List Int:=S.flatMap (idsS len)
theorem bits_add{n r:Nat}(h:∀b,n.testBit b=true→b<r):∀{len:Nat},r<len→bitsN (n ||| 2 ^ r) len=bitsN n len++[r]
 | 0,hr=>by omega
 | m+1,hr=>by
  have hm:n.testBit m=true→m<r:=h m
  have e:∀(n:Nat),bitsN n (m+1)=bitsN n m++(if n.testBit m=true then [m] else []):=by
   intro n
   unfold bitsN
   rw [List.range_succ,List.filter_append,List.filter_cons,List.filter_nil]
  rw [e,e,Nat.testBit_or,Nat.testBit_two_pow]
  by_cases hc:r=m
  ·subst hc
   have h1:n.testBit r=false:=Bool.eq_false_iff.mpr fun q=>by have:=h r q;omega
   have h2:bitsN (n ||| 2 ^ r) r=bitsN n r:=by
    unfold bitsN
    refine List.filter_congr fun b hb=>?_
    have:b<r:=List.mem_range.mp hb
    rw [Nat.testBit_or,Nat.testBit_two_pow,decide_eq_false (by omega),Bool.or_false]
   rw [h2,h1];simp
  ·have h1:n.testBit m=false:=Bool.eq_false_iff.mpr fun q=>by have:=h m q;omega
   rw [bits_add h (show r<m by omega),h1,decide_eq_false hc];simp
theorem lt_of_bit{n k b:Nat}(h:n<2 ^ k)(hb:n.testBit b=true):b<k:=by
 refine Classical.byContradiction fun q=>?_
 rw [Nat.testBit_lt_two_pow (Nat.lt_of_lt_of_le h (Nat.pow_le_pow_right (by omega) (by omega)))] at hb
 cases hb
structure Good (len:Nat) (d:List Int) (out:List Stb):Prop where
  flat:flatS len out=d
  bits:∀s∈out,∃n:Nat,s.bits=n∧n<2 ^ len∧0≤s.set∧s.set * len≤255
  last:∀i y,out=i++[y]→∃m:Int,d.getLast?=some m∧1≤m∧y.set=(((m-1).toNat / len:Nat):Int)∧∀b,y.bits.toNat.testBit b=true→b≤(m-1).toNat % len
theorem plcT_nat{id:Int}{len:Nat}(hl:len=8∨len=16∨len=32∨len=64)(h:1≤id∧id≤256):plcT id len=((((id-1).toNat / len:Nat):Int),(((id-1).toNat % len:Nat):Int),true):=by
 have hv:vlenP (len:Int)=true:=vlenP_iff.mpr (by omega)
 have e:id-1=(((id-1).toNat:Nat):Int):=by omega
 rw [plcT,if_pos ⟨hv,h⟩]
 generalize (id-1).toNat=j at e ⊢
 rw [e]
 rfl
theorem Good.step{len:Nat}{d:List Int}{out:List Stb}{id:Int}(hl:len=8∨len=16∨len=32∨len=64)(g:Good len d out)(h:1≤id∧id≤256)(hd:∀x∈d,x<id):Good len (d++[id]) (addS len out id):=by
 have hp:=plcT_nat hl h
 generalize hj:(id-1).toNat=j at hp
 have hjid:id=(j:Int)+1:=by omega
 have hlen:0<len:=by omega
 have hr:j % len<len:=Nat.mod_lt _ hlen
 have hdm:=Nat.div_add_mod j len
 have h64:j % len<64:=by omega
 have hpow:2 ^ (j % len)<18446744073709551616:=Nat.lt_of_lt_of_le (Nat.pow_lt_pow_right (show 1<2 by decide) h64) (show 2 ^ 64≤18446744073709551616 by decide)
 have hpl:2 ^ (j % len)<2 ^ len:=Nat.pow_lt_pow_right (by omega) hr
 have h2l:2 ^ len≤18446744073709551616:=Nat.le_trans (Nat.pow_le_pow_right (show 0<2 by decide) (show len≤64 by omega)) (show 2 ^ 64≤18446744073709551616 by decide)
 have hq:(((j / len:Nat):Int)) * len+((j % len:Nat):Int)+1=id:=by
  rw [hjid]
  have:((len * (j / len)+j % len:Nat):Int)=(j:Int):=by rw [hdm]
  rw [Int.natCast_add,Int.natCast_mul,Int.mul_comm] at this
  omega
 have hql:(((j / len:Nat):Int)) * len≤255:=by omega
 -- a new set
 have fresh:Good len (d++[id]) (out++[addB ⟨((j / len:Nat):Int),0⟩ ((j % len:Nat):Int)]):=by
  have hb:(addB ⟨((j / len:Nat):Int),0⟩ ((j % len:Nat):Int)).bits=((0 ||| 2 ^ (j % len):Nat):Int):=by
   show bOr .u64 0 (shlI .u64 1 ((j % len:Nat):Int))=_
   rw [shlI_one h64,show (0:Int)=((0:Nat):Int) from rfl,bOr_nat (by decide) hpow]
  refine ⟨?_,fun s hs=>?_,fun i y e=>?_⟩
  ·unfold flatS
   rw [List.flatMap_append,List.flatMap_cons,List.flatMap_nil,List.append_nil]
   congr 1
   ·exact g.flat
   ·unfold idsS
    rw [hb,Int.toNat_natCast,bits_add (n:=0) (by simp) hr]
    have:bitsN 0 len=[]:=by unfold bitsN;simp
    rw [this]
    show [((j / len:Nat):Int) * (len:Int)+((j % len:Nat):Int)+1]=[id]
    rw [hq]
  ·rcases List.mem_append.mp hs with hs|hs
   ·exact g.bits s hs
   ·rw [List.mem_singleton] at hs
    subst hs
    exact ⟨_,hb,by rw [Nat.zero_or];exact hpl,Int.natCast_nonneg _,hql⟩
  ·obtain ⟨-,e⟩:=List.append_inj' e rfl
   simp only [List.cons.injEq,and_true] at e
   subst e
   refine ⟨id,by simp,h.1,by rw [hj];rfl,fun b q=>?_⟩
   rw [hb,Int.toNat_natCast,Nat.zero_or,Nat.testBit_two_pow,decide_eq_true_eq] at q
   rw [hj];omega
 unfold addS
 rcases last_cases out with rfl|⟨i,y,rfl⟩
 ·simp only [List.getLast?_nil]
  rw [hp];exact fresh
 ·rw [List.getLast?_concat]
  simp only
  rw [hp]
  split
  ·rename_i e
   simp only at e
   rw [List.dropLast_concat]
   obtain ⟨m,m1,m2,m3,m4⟩:=g.last i y rfl
   obtain ⟨n,n1,n2,n3,n4⟩:=g.bits y (by simp)
   have hm:m<id:=hd m (List.mem_of_getLast? m1)
   have hmj:(m-1).toNat<j:=by omega
   have hdiv:(m-1).toNat / len=j / len:=by have:=m3.symm.trans e;omega
   have hlt:(m-1).toNat % len<j % len:=by
    have:=Nat.div_add_mod (m-1).toNat len
    rw [hdiv] at this;omega
   have n2':n<18446744073709551616:=Nat.lt_of_lt_of_le n2 h2l
   have hb:(addB y ((j % len:Nat):Int)).bits=((n ||| 2 ^ (j % len):Nat):Int):=by
    show bOr .u64 y.bits (shlI .u64 1 ((j % len:Nat):Int))=_
    rw [shlI_one h64,n1,bOr_nat n2' hpow]
   have hall:∀b,n.testBit b=true→b<j % len:=fun b q=>by
    have:=m4 b (by rw [n1,Int.toNat_natCast];exact q);omega
   refine ⟨?_,fun s hs=>?_,fun i' y' e'=>?_⟩
   ·have hf:=g.flat
    unfold flatS at hf ⊢
    rw [List.flatMap_append,List.flatMap_cons,List.flatMap_nil,List.append_nil] at hf ⊢
    rw [←hf,List.append_assoc]
    congr 1
    unfold idsS
    rw [hb,Int.toNat_natCast,bits_add hall hr,List.map_append,n1,Int.toNat_natCast]
    congr 1
    show [y.set * (len:Int)+((j % len:Nat):Int)+1]=[id]
    rw [e,hq]
   ·rcases List.mem_append.mp hs with hs|hs
    ·exact g.bits s (by simp [hs])
    ·rw [List.mem_singleton] at hs
     subst hs
     exact ⟨_,hb,Nat.or_lt_two_pow n2 hpl,n3,n4⟩
   ·obtain ⟨-,e'⟩:=List.append_inj' e' rfl
    simp only [List.cons.injEq,and_true] at e'
    subst e'
    refine ⟨id,by simp,h.1,by rw [hj];exact e,fun b q=>?_⟩
    rw [hb,Int.toNat_natCast,Nat.testBit_or,Nat.testBit_two_pow,Bool.or_eq_true,decide_eq_true_eq] at q
    rw [hj]
    rcases q with q|q
    ·have:=hall b q;omega
    ·omega
  ·exact fresh
theorem Good.fold{len:Nat}(hl:len=8∨len=16∨len=32∨len=64):∀{ids d:List Int} {out:List Stb},Good len d out→(d++ids).Pairwise (·<·)→(∀x∈ids,1≤x∧x≤256)→Good len (d++ids) (ids.foldl (addS len) out)
 | [],d,out,g,_,_=>by simpa using g
 | x::ids,d,out,g,hp,hr=>by
  have h1:=hp
  rw [List.pairwise_append] at h1
  have:=Good.fold hl (ids:=ids) (d:=d++[x]) (g.step hl (hr x (by simp)) fun y hy=>h1.2.2 y hy x (by simp)) (by simpa using hp) fun y hy=>hr y (by simp [hy])
  simpa using this
theorem setsT_good{p:Pln}{ids:List Int}(hp:plnOkB p=true)(hi:ids.Pairwise (·<·))(hs:∀x∈ids,x∈p.es.map Edg.id)(hn:ids≠[]∨vlenP p.len=true):(setsT p ids).2=0∧Good p.len.toNat ids (setsT p ids).1∧(ids≠[]→vlenP p.len=true):=by
 have hb:=(Bool.and_eq_true _ _).mp hp
 have hH:=of_decide_eq_true hb.1
 have hE:=of_decide_eq_true hb.2
 have hv:ids≠[]→vlenP p.len=true:=by
  intro hne
  rcases hH.2.1 with q|q
  ·exact q
  ·cases ids with
   | nil=>exact absurd rfl hne
   | cons x l=>have:=hs x (by simp);rw [q.2] at this;simp at this
 have hv':vlenP p.len=true:=by rcases hn with q|q;exact hv q;exact q
 have hl:=vlenP_iff.mp hv'
 have ha:(ids.any fun y=>notIn y p)=false:=by
  rw [List.any_eq_false]
  intro x hx
  obtain ⟨e,he,q⟩:=List.mem_map.mp (hs x hx)
  have:hasP p x=true:=List.any_eq_true.mpr ⟨e,he,by rw [eqId,beq_iff_eq];exact q⟩
  simp [notIn,this]
 have e:setsT p ids=(ids.foldl (addS p.len) [],0):=by rw [setsT,if_neg (by rw [hp];simp),if_neg (not_not_intro hi),if_neg (by rw [ha];simp)]
 rw [e]
 have hln:((p.len.toNat:Nat):Int)=p.len:=by omega
 refine ⟨rfl,?_,hv⟩
 have:=Good.fold (len:=p.len.toNat) (by omega) (ids:=ids) (d:=[]) (out:=[]) ⟨rfl,by simp,by simp⟩ (by simpa using hi) fun x hx=>by
  obtain ⟨e,he,q⟩:=List.mem_map.mp (hs x hx)
  have:=(hE.1 e he).1
  omega
 rw [hln] at this
 simpa using this
theorem rcv_sub{o:Ovl}{at_:Int}{f:Flw}:∀(l:List Edg),List.Sublist (l.flatMap (rcv1 o at_ f)) (l.map Edg.id)
 | []=>List.Sublist.refl _
 | e::l=>by
  rw [List.flatMap_cons,List.map_cons]
  have:List.Sublist (rcv1 o at_ f e) [e.id]:=by
   unfold rcv1
   repeat' split
   all_goals simp
  exact List.Sublist.append this (rcv_sub l)
theorem rcvT_ids{o:Ovl}{p:Pln}{at_:Int}{f:Flw}(hp:plnOkB p=true):(rcvT o p at_ f).1.Pairwise (·<·)∧∀x∈(rcvT o p at_ f).1,x∈p.es.map Edg.id:=by
 have hE:=of_decide_eq_true ((Bool.and_eq_true _ _).mp hp).2
 unfold rcvT
 split
 ·simp
 split
 ·simp
 split
 ·simp
 split
 ·simp
 exact ⟨hE.2.2.sublist (rcv_sub _),fun x hx=>(rcv_sub _).subset hx⟩
theorem full_ok{len:Int}(h:vlenP len=true):∃n:Nat,fullP len=n∧n<18446744073709551616∧∀i,i<len.toNat→n.testBit i=true:=by
 have e:∀k:Nat,k≤64→∀i,i<k→(2 ^ k-1).testBit i=true:=fun k _ i hi=>by rw [Nat.testBit_two_pow_sub_one];exact decide_eq_true hi
 rcases vlenP_iff.mp h with q|q|q|q
 ·subst q;exact ⟨2 ^ 8-1,by decide +kernel,by decide,fun i hi=>e 8 (by omega) i hi⟩
 ·subst q;exact ⟨2 ^ 16-1,by decide +kernel,by decide,fun i hi=>e 16 (by omega) i hi⟩
 ·subst q;exact ⟨2 ^ 32-1,by decide +kernel,by decide,fun i hi=>e 32 (by omega) i hi⟩
 ·subst q;exact ⟨2 ^ 64-1,by decide +kernel,by decide,fun i hi=>e 64 (by omega) i hi⟩
theorem vbt_ok{len:Int}{n:Nat}(h:vlenP len=true)(hn:n<2 ^ len.toNat):vbtP (n:Int) len=true:=by
 obtain ⟨m,m1,m2,m3⟩:=full_ok h
 have hl:=vlenP_iff.mp h
 have h2:2 ^ len.toNat≤18446744073709551616:=Nat.le_trans (Nat.pow_le_pow_right (show 0<2 by decide) (show len.toNat≤64 by omega)) (show 2 ^ 64≤18446744073709551616 by decide)
 rw [vbtP,h,m1,bAndn_nat (Nat.lt_of_lt_of_le hn h2) m2 fun i q=>m3 i (lt_of_bit hn q)];rfl
theorem ent_rng(s g:Int):0≤entT s g∧entT s g≤1023:=by
 unfold entT
 have hk:=wrap_inK .u32 (IntKind.u32.wrap (IntKind.u32.wrap (IntKind.u32.wrap s * 31)+IntKind.u32.wrap g) * 2654435761)
 generalize IntKind.u32.wrap (IntKind.u32.wrap (IntKind.u32.wrap (IntKind.u32.wrap s * 31)+IntKind.u32.wrap g) * 2654435761)=z at hk
 have hk:0≤z∧z≤4294967295:=hk
 rw [Int.fdiv_eq_ediv_of_nonneg _ (by decide)]
 have:z / 4194304≤1023∧0≤z / 4194304:=by omega
 rw [W_eq (by omega)];omega
theorem own_rng{p:Pln}(hp:plnOkB p=true)(r:Int):0≤ownP p r∧ownP p r≤256:=by
 have hE:=of_decide_eq_true ((Bool.and_eq_true _ _).mp hp).2
 unfold ownP
 split
 ·rename_i e he
  have:=(hE.1 e (List.mem_of_find?_eq_some he)).1
  omega
 ·omega
theorem pks_ok{o:Ovl}{p:Pln}{at_:Int}{f:Flw}{d:ByteArray}(hp:plnOkB p=true)(hr:(rcvT o p at_ f).2=0)(hf:valFl f=true)(hd:d.size≤62) :
  pksT o p at_ f d=((setsT p (rcvT o p at_ f).1).1.map (mkQ p ⟨1,0,0,0,63,entT f.src f.grp,ownP p at_,1,0,B [u8B f.src,u8B f.grp]++d⟩),0):=by
 obtain ⟨i1,i2⟩:=rcvT_ids (o:=o) (at_:=at_) (f:=f) hp
 have hw:wrpT f d=(B [u8B f.src,u8B f.grp]++d,0):=by rw [wrpT,if_neg (by rw [hf];simp),if_neg (by omega)]
 rw [pksT,if_neg (not_not_intro hr),hw,if_neg (by simp)]
 generalize (rcvT o p at_ f).1=ids at i1 i2 ⊢
 have hH:=of_decide_eq_true ((Bool.and_eq_true _ _).mp hp).1
 by_cases hne:ids=[]
 ·subst hne
  have e:setsT p []=([],0):=by rw [setsT,if_neg (by rw [hp];simp),if_neg (not_not_intro List.Pairwise.nil),if_neg (by simp)];rfl
  rw [ingT,e,if_neg (by simp),if_neg (not_not_intro (by simp))]
 ·obtain ⟨s1,s2,s3⟩:=setsT_good hp i1 i2 (.inl hne)
  have hv:=s3 hne
  have hl:=vlenP_iff.mp hv
  rw [ingT,if_neg (not_not_intro s1),if_neg]
  refine not_not_intro fun s hs=>?_
  obtain ⟨n,n1,n2,n3,n4⟩:=s2.bits s hs
  have e1:=ent_rng f.src f.grp
  have e2:=own_rng hp at_
  have hset:s.set≤31:=by
   refine Classical.byContradiction fun q=>?_
   have:(32:Int) * 8≤s.set * (p.len.toNat:Int):=Int.mul_le_mul (by omega) (by omega) (by omega) (by omega)
   omega
  have k1:inK p.sub 7=true:=by rw [inK,decide_eq_true hH.1.1,decide_eq_true hH.1.2];rfl
  have k2:inK s.set 31=true:=by rw [inK,decide_eq_true n3,decide_eq_true hset];rfl
  have k3:vbtP s.bits p.len=true:=by rw [n1];exact vbt_ok hv n2
  have k4:inK (entT f.src f.grp) 1023=true:=by rw [inK,decide_eq_true e1.1,decide_eq_true e1.2];rfl
  have k5:inK (ownP p at_) 256=true:=by rw [inK,decide_eq_true e2.1,decide_eq_true e2.2];rfl
  have k6:(((B [u8B f.src,u8B f.grp]++d).size:Nat):Int)≤64:=by
   rw [ByteArray.size_append]
   have:(B [u8B f.src,u8B f.grp]).size=2:=rfl
   omega
  rw [pktB,mkQ]
  simp only
  rw [k1,k2,k3,k4,k5,decide_eq_true k6]
  rfl
theorem mkScn_ni{L:List Int}{p:Nat}{most:Int}(h:1≤most∧most≤8):NIB ((scnT L p most).1.sites.map Sit.router) ⟨(scnT L p most).1.sp,(scnT L p most).1.lsn,(scnT L p most).1.fl⟩ 86529:=by
 have z:=scnZ_ni (L:=L) (p:=p) h
 rw [←(scnS_ok (L:=L) (p:=p) h).2] at z
 exact z
theorem kn_self{R:List Int}{o:Ovl}(h:NI R o){a:Int}(ha:a∈R):(knownV o a a).2=0:=by
 have e:rtrs o.sp=R:=h.net.spr
 unfold knownV
 simp [h.ok,e,ha]
theorem rcv_zero{R:List Int}{o:Ovl}(h:NI R o){a:Int}(ha:a∈R){p:Pln}(hp:plnOkB p=true){f:Flw}(hf:valFl f=true):(rcvT o p a f).2=0:=by
 have hv:valO o=0:=by rw [valO,if_pos h.ok]
 rw [rcvT,if_neg (not_not_intro hv),if_neg (by rw [hp];simp),if_neg (by rw [hf];simp),if_neg (not_not_intro (kn_self h ha))]
theorem sz_len(s:ByteArray):s.data.toList.length=s.size:=by rw [Array.length_toList];rfl
theorem bl_loop(b:ByteArray):∀(n i:Nat) (r:List UInt8),b.size-i=n→ByteArray.toList.loop b i r=r.reverse++b.data.toList.drop i:=by
 intro n
 induction n with
 | zero =>
  intro i r h
  rw [ByteArray.toList.loop,if_neg (by omega),List.drop_of_length_le (by rw [sz_len];omega),List.append_nil]
 | succ n ih =>
  intro i r h
  have hi:i<b.data.toList.length:=by rw [sz_len];omega
  rw [ByteArray.toList.loop,if_pos (by omega),ih _ _ (by omega),List.drop_eq_getElem_cons hi]
  have:b.get! i=b.data.toList[i]:=by
   show (b.data[i]!)=_
   rw [getElem!_pos b.data i (by rw [sz_len] at hi;exact hi)];simp
  rw [this];simp
theorem pay_ne(x y:UInt8):((B [x,y]++B [116,119,111]).toList==(B [x,y]++B [111,110,101]).toList)=false:=by
 rw [beq_eq_false_iff_ne]
 intro e
 rw [ByteArray.toList,ByteArray.toList,bl_loop _ _ 0 [] rfl,bl_loop _ _ 0 [] rfl] at e
 simp [B] at e
theorem put_last{l:List Int}{y:Int}(h:∀x∈l,x<y):put l y=l++[y]:=by
 have e:putP l y=l.length:=by
  refine findIdx_at (g:=fun x=>decide (x<y)) (fun j x _ hx=>decide_eq_true (h x (mem_of_get hx))) (Nat.le_refl _) (.inl rfl)
 rw [put,e,List.getElem?_eq_none (Nat.le_refl _),if_neg (by simp),insAt,List.take_of_length_le (Nat.le_refl _),List.drop_of_length_le (Nat.le_refl _),List.append_nil]
theorem flatS_take{len:Nat}{S:List Stb}{k b:Nat}{s:Stb}(hs:S[k]?=some s)(hb:b≤len):List.Sublist (flatS len (S.take k)++(bitsN s.bits.toNat b).map fun (b:Nat)=>s.set * (len:Int)+(b:Int)+1) (flatS len S):=by
 have h1:List.Sublist (flatS len (S.take (k+1))) (flatS len S):=by
  have e:flatS len S=flatS len (S.take (k+1))++flatS len (S.drop (k+1)):=by
   unfold flatS
   rw [←List.flatMap_append,List.take_append_drop]
  rw [e];exact List.sublist_append_left _ _
 refine List.Sublist.trans ?_ h1
 unfold flatS
 rw [take_succ hs,List.flatMap_append,List.flatMap_cons,List.flatMap_nil,List.append_nil]
 refine List.Sublist.append (List.Sublist.refl _) (List.Sublist.map _ ?_)
 unfold bitsN
 exact List.Sublist.filter _ (List.range_sublist.mpr hb)
theorem bitsN_succ(n m:Nat):bitsN n (m+1)=bitsN n m++(if n.testBit m=true then [m] else []):=by
 unfold bitsN
 rw [List.range_succ,List.filter_append,List.filter_cons,List.filter_nil]
def pktsL_a(t:(List Int)):Prop:=okL [.sl 1 (t.map AV.int) false]
abbrev pktsL_v0(t:(List Int)):=(scnT (t.take 2000) 0 6)
abbrev pktsL_v1(t:(List Int)):=(rawP (t.take 2000) ((pktsL_v0 t).2))
abbrev pktsL_v2(t:(List Int)):=(rawP (t.take 2000) (pktsL_v1 t))
abbrev pktsL_v3(t:(List Int)):=(Mod (rawV (t.take 2000) ((pktsL_v0 t).2)) (((((pktsL_v0 t).1).sites).map Sit.v).length:Int))
def pktsL_n0(t:(List Int))(x2:Sit)(t0:Bool):NF:=⟨[(7,.k,.sl 1 (((rcvT (⟨((pktsL_v0 t).1).sp,((pktsL_v0 t).1).lsn,((pktsL_v0 t).1).fl⟩:Ovl) (⟨((pktsL_v0 t).1).sub,((pktsL_v0 t).1).len,((pktsL_v0 t).1).es⟩:Pln) x2.router (⟨rng (t.take 2000) (pktsL_v1 t) 1 9,rng (t.take 2000) (pktsL_v2 t) 1 4⟩:Flw)).1).map AV.int) false),(9,.k,.sl 10 (((pksT (⟨((pktsL_v0 t).1).sp,((pktsL_v0 t).1).lsn,((pktsL_v0 t).1).fl⟩:Ovl) (⟨((pktsL_v0 t).1).sub,((pktsL_v0 t).1).len,((pktsL_v0 t).1).es⟩:Pln) x2.router (⟨rng (t.take 2000) (pktsL_v1 t) 1 9,rng (t.take 2000) (pktsL_v2 t) 1 4⟩:Flw) (B [111,110,101])).1).map Pkt.v) false),(13,.k,.sl 10 (((pksT ((roundO (⟨((pktsL_v0 t).1).sp,((pktsL_v0 t).1).lsn,((pktsL_v0 t).1).fl⟩:Ovl) []).1) (⟨((pktsL_v0 t).1).sub,((pktsL_v0 t).1).len,((pktsL_v0 t).1).es⟩:Pln) x2.router (⟨rng (t.take 2000) (pktsL_v1 t) 1 9,rng (t.take 2000) (pktsL_v2 t) 1 4⟩:Flw) (B [116,119,111])).1).map Pkt.v) false),(90,.k,.bool t0)],[]⟩
def pktsL_n1(t:(List Int))(x2:Sit)(t1:(List Int)×Int×Int):NF:=⟨[(7,.k,.sl 1 (((rcvT (⟨((pktsL_v0 t).1).sp,((pktsL_v0 t).1).lsn,((pktsL_v0 t).1).fl⟩:Ovl) (⟨((pktsL_v0 t).1).sub,((pktsL_v0 t).1).len,((pktsL_v0 t).1).es⟩:Pln) x2.router (⟨rng (t.take 2000) (pktsL_v1 t) 1 9,rng (t.take 2000) (pktsL_v2 t) 1 4⟩:Flw)).1).map AV.int) false),(9,.k,.sl 10 (((pksT (⟨((pktsL_v0 t).1).sp,((pktsL_v0 t).1).lsn,((pktsL_v0 t).1).fl⟩:Ovl) (⟨((pktsL_v0 t).1).sub,((pktsL_v0 t).1).len,((pktsL_v0 t).1).es⟩:Pln) x2.router (⟨rng (t.take 2000) (pktsL_v1 t) 1 9,rng (t.take 2000) (pktsL_v2 t) 1 4⟩:Flw) (B [111,110,101])).1).map Pkt.v) false),(13,.k,.sl 10 (((pksT ((roundO (⟨((pktsL_v0 t).1).sp,((pktsL_v0 t).1).lsn,((pktsL_v0 t).1).fl⟩:Ovl) []).1) (⟨((pktsL_v0 t).1).sub,((pktsL_v0 t).1).len,((pktsL_v0 t).1).es⟩:Pln) x2.router (⟨rng (t.take 2000) (pktsL_v1 t) 1 9,rng (t.take 2000) (pktsL_v2 t) 1 4⟩:Flw) (B [116,119,111])).1).map Pkt.v) false),(15,(.s 1),.sl 1 (t1.1.map AV.int) false),(16,.k,.int t1.2.1),(91,.k,.sl 10 (((pksT (⟨((pktsL_v0 t).1).sp,((pktsL_v0 t).1).lsn,((pktsL_v0 t).1).fl⟩:Ovl) (⟨((pktsL_v0 t).1).sub,((pktsL_v0 t).1).len,((pktsL_v0 t).1).es⟩:Pln) x2.router (⟨rng (t.take 2000) (pktsL_v1 t) 1 9,rng (t.take 2000) (pktsL_v2 t) 1 4⟩:Flw) (B [111,110,101])).1).map Pkt.v) false),(92,.k,.int ((((pksT (⟨((pktsL_v0 t).1).sp,((pktsL_v0 t).1).lsn,((pktsL_v0 t).1).fl⟩:Ovl) (⟨((pktsL_v0 t).1).sub,((pktsL_v0 t).1).len,((pktsL_v0 t).1).es⟩:Pln) x2.router (⟨rng (t.take 2000) (pktsL_v1 t) 1 9,rng (t.take 2000) (pktsL_v2 t) 1 4⟩:Flw) (B [111,110,101])).1).map Pkt.v).length:Int)),(93,.k,.int t1.2.2)],[]⟩
def pktsL_n2(t:(List Int))(x2:Sit)(t1:(List Int)×Int×Int)(x6:Pkt)(t2:(List Int)×Int×Int):NF:=⟨[(7,.k,.sl 1 (((rcvT (⟨((pktsL_v0 t).1).sp,((pktsL_v0 t).1).lsn,((pktsL_v0 t).1).fl⟩:Ovl) (⟨((pktsL_v0 t).1).sub,((pktsL_v0 t).1).len,((pktsL_v0 t).1).es⟩:Pln) x2.router (⟨rng (t.take 2000) (pktsL_v1 t) 1 9,rng (t.take 2000) (pktsL_v2 t) 1 4⟩:Flw)).1).map AV.int) false),(9,.k,.sl 10 (((pksT (⟨((pktsL_v0 t).1).sp,((pktsL_v0 t).1).lsn,((pktsL_v0 t).1).fl⟩:Ovl) (⟨((pktsL_v0 t).1).sub,((pktsL_v0 t).1).len,((pktsL_v0 t).1).es⟩:Pln) x2.router (⟨rng (t.take 2000) (pktsL_v1 t) 1 9,rng (t.take 2000) (pktsL_v2 t) 1 4⟩:Flw) (B [111,110,101])).1).map Pkt.v) false),(13,.k,.sl 10 (((pksT ((roundO (⟨((pktsL_v0 t).1).sp,((pktsL_v0 t).1).lsn,((pktsL_v0 t).1).fl⟩:Ovl) []).1) (⟨((pktsL_v0 t).1).sub,((pktsL_v0 t).1).len,((pktsL_v0 t).1).es⟩:Pln) x2.router (⟨rng (t.take 2000) (pktsL_v1 t) 1 9,rng (t.take 2000) (pktsL_v2 t) 1 4⟩:Flw) (B [116,119,111])).1).map Pkt.v) false),(15,(.s 1),.sl 1 (t2.1.map AV.int) false),(16,.k,.int t2.2.1),(18,.k,.ref 0 0),(19,.k,.int t2.2.2),(91,.k,.sl 10 (((pksT (⟨((pktsL_v0 t).1).sp,((pktsL_v0 t).1).lsn,((pktsL_v0 t).1).fl⟩:Ovl) (⟨((pktsL_v0 t).1).sub,((pktsL_v0 t).1).len,((pktsL_v0 t).1).es⟩:Pln) x2.router (⟨rng (t.take 2000) (pktsL_v1 t) 1 9,rng (t.take 2000) (pktsL_v2 t) 1 4⟩:Flw) (B [111,110,101])).1).map Pkt.v) false),(92,.k,.int ((((pksT (⟨((pktsL_v0 t).1).sp,((pktsL_v0 t).1).lsn,((pktsL_v0 t).1).fl⟩:Ovl) (⟨((pktsL_v0 t).1).sub,((pktsL_v0 t).1).len,((pktsL_v0 t).1).es⟩:Pln) x2.router (⟨rng (t.take 2000) (pktsL_v1 t) 1 9,rng (t.take 2000) (pktsL_v2 t) 1 4⟩:Flw) (B [111,110,101])).1).map Pkt.v).length:Int)),(93,.k,.int t1.2.2)],[.box (.agg [.int x6.mode,.int x6.sub,.int x6.set,.int x6.len,.int x6.ttl,.int x6.ent,.int x6.ing,.int x6.proto,.val (.int .u64 x6.bits),.str x6.pay])]⟩
def pktsL_n3(t:(List Int))(x2:Sit)(t1:(List Int)×Int×Int)(t2:(List Int)×Int×Int)(t3:Bool):NF:=⟨[(7,.k,.sl 1 (((rcvT (⟨((pktsL_v0 t).1).sp,((pktsL_v0 t).1).lsn,((pktsL_v0 t).1).fl⟩:Ovl) (⟨((pktsL_v0 t).1).sub,((pktsL_v0 t).1).len,((pktsL_v0 t).1).es⟩:Pln) x2.router (⟨rng (t.take 2000) (pktsL_v1 t) 1 9,rng (t.take 2000) (pktsL_v2 t) 1 4⟩:Flw)).1).map AV.int) false),(9,.k,.sl 10 (((pksT (⟨((pktsL_v0 t).1).sp,((pktsL_v0 t).1).lsn,((pktsL_v0 t).1).fl⟩:Ovl) (⟨((pktsL_v0 t).1).sub,((pktsL_v0 t).1).len,((pktsL_v0 t).1).es⟩:Pln) x2.router (⟨rng (t.take 2000) (pktsL_v1 t) 1 9,rng (t.take 2000) (pktsL_v2 t) 1 4⟩:Flw) (B [111,110,101])).1).map Pkt.v) false),(13,.k,.sl 10 (((pksT ((roundO (⟨((pktsL_v0 t).1).sp,((pktsL_v0 t).1).lsn,((pktsL_v0 t).1).fl⟩:Ovl) []).1) (⟨((pktsL_v0 t).1).sub,((pktsL_v0 t).1).len,((pktsL_v0 t).1).es⟩:Pln) x2.router (⟨rng (t.take 2000) (pktsL_v1 t) 1 9,rng (t.take 2000) (pktsL_v2 t) 1 4⟩:Flw) (B [116,119,111])).1).map Pkt.v) false),(15,.k,.sl 1 (t2.1.map AV.int) false),(16,.k,.int t2.2.1),(91,.k,.sl 10 (((pksT (⟨((pktsL_v0 t).1).sp,((pktsL_v0 t).1).lsn,((pktsL_v0 t).1).fl⟩:Ovl) (⟨((pktsL_v0 t).1).sub,((pktsL_v0 t).1).len,((pktsL_v0 t).1).es⟩:Pln) x2.router (⟨rng (t.take 2000) (pktsL_v1 t) 1 9,rng (t.take 2000) (pktsL_v2 t) 1 4⟩:Flw) (B [111,110,101])).1).map Pkt.v) false),(92,.k,.int ((((pksT (⟨((pktsL_v0 t).1).sp,((pktsL_v0 t).1).lsn,((pktsL_v0 t).1).fl⟩:Ovl) (⟨((pktsL_v0 t).1).sub,((pktsL_v0 t).1).len,((pktsL_v0 t).1).es⟩:Pln) x2.router (⟨rng (t.take 2000) (pktsL_v1 t) 1 9,rng (t.take 2000) (pktsL_v2 t) 1 4⟩:Flw) (B [111,110,101])).1).map Pkt.v).length:Int)),(93,.k,.int t1.2.2),(164,.k,.bool t3)],[]⟩
@[reducible] def pktsL_s:Nat→Type
 | 0=>Bool
 | 1=>(List Int)×Int×Int
 | 2=>(List Int)×Int×Int
 | 3=>Bool
 | _=>Unit
def pktsL_e(r:Bool):AV:=.bool r
def pktsL_x(t:(List Int))(I0:Sit→Bool→Prop)(I1:Sit→Bool→((List Int)×Int×Int)→Prop)(m1:Sit→Bool→((List Int)×Int×Int)→Nat)(I2:Sit→Bool→(List Int)×Int×Int→Pkt→((List Int)×Int×Int)→Prop)(m2:Sit→Bool→(List Int)×Int×Int→Pkt→((List Int)×Int×Int)→Nat)(I3:Sit→Bool→(List Int)×Int×Int→Pkt→(List Int)×Int×Int→Bool→Prop):Ax Tryz.prog pktsL_s (Bool):=
 (.callH [] (New_h t) 32
(.req 80 (1≤6∧6≤8) fun h1 =>
(.callH [32] (scnT_h (t.take 2000) 0 6 h1) 80
(.br 192 ((((((pktsL_v0 t).1).sites).map Sit.v).length:Int)==0) (.callP (awk28_c )
(.ret (true)))
(.callH [32] (N_h (t.take 2000) ((pktsL_v0 t).2) (((((pktsL_v0 t).1).sites).map Sit.v).length:Int)) 288
(.el 304 Sit.v (((pktsL_v0 t).1).sites) (fun R=>Rf ((((pktsL_v0 t).1).sites).map Sit.v) (ck (decide (0≤(pktsL_v3 t))) (ck (decide ((pktsL_v3 t)<((((pktsL_v0 t).1).sites).length:Int)))
(∀x2,(((pktsL_v0 t).1).sites)[(pktsL_v3 t).toNat]?=some x2 →
(R x2))))) fun x2 =>
(.callH [32] (Range_h (t.take 2000) (pktsL_v1 t) 1 9) 384
(.callH [32] (Range_h (t.take 2000) (pktsL_v2 t) 1 4) 416
(.callP (rcvF_c (⟨((pktsL_v0 t).1).sp,((pktsL_v0 t).1).lsn,((pktsL_v0 t).1).fl⟩:Ovl) (⟨((pktsL_v0 t).1).sub,((pktsL_v0 t).1).len,((pktsL_v0 t).1).es⟩:Pln) x2.router (⟨rng (t.take 2000) (pktsL_v1 t) 1 9,rng (t.take 2000) (pktsL_v2 t) 1 4⟩:Flw))
(.req 768 ((B [111,110,101]).size≤1000000) fun h3 =>
(.callP (pksF_c (⟨((pktsL_v0 t).1).sp,((pktsL_v0 t).1).lsn,((pktsL_v0 t).1).fl⟩:Ovl) (⟨((pktsL_v0 t).1).sub,((pktsL_v0 t).1).len,((pktsL_v0 t).1).es⟩:Pln) x2.router (⟨rng (t.take 2000) (pktsL_v1 t) 1 9,rng (t.take 2000) (pktsL_v2 t) 1 4⟩:Flw) (B [111,110,101]) h3)
(.req 896 (okRnd (⟨((pktsL_v0 t).1).sp,((pktsL_v0 t).1).lsn,((pktsL_v0 t).1).fl⟩:Ovl) []) fun h4 =>
(.callP (rndOR_c (⟨((pktsL_v0 t).1).sp,((pktsL_v0 t).1).lsn,((pktsL_v0 t).1).fl⟩:Ovl) [] h4)
(.req 1088 ((B [116,119,111]).size≤1000000) fun h5 =>
(.callP (pksF_c ((roundO (⟨((pktsL_v0 t).1).sp,((pktsL_v0 t).1).lsn,((pktsL_v0 t).1).fl⟩:Ovl) []).1) (⟨((pktsL_v0 t).1).sub,((pktsL_v0 t).1).len,((pktsL_v0 t).1).es⟩:Pln) x2.router (⟨rng (t.take 2000) (pktsL_v1 t) 1 9,rng (t.take 2000) (pktsL_v2 t) 1 4⟩:Flw) (B [116,119,111]) h5)
(.pass (.join 0 (pktsL_n0 t x2) (fun (t0:Bool)=>I0 x2 t0) (fun b0=>(.br 1232 (((rcvT (⟨((pktsL_v0 t).1).sp,((pktsL_v0 t).1).lsn,((pktsL_v0 t).1).fl⟩:Ovl) (⟨((pktsL_v0 t).1).sub,((pktsL_v0 t).1).len,((pktsL_v0 t).1).es⟩:Pln) x2.router (⟨rng (t.take 2000) (pktsL_v1 t) 1 9,rng (t.take 2000) (pktsL_v2 t) 1 4⟩:Flw)).2) != 0) (.bk 0 b0 ((true):Bool) [])
(.br 1296 (((pksT (⟨((pktsL_v0 t).1).sp,((pktsL_v0 t).1).lsn,((pktsL_v0 t).1).fl⟩:Ovl) (⟨((pktsL_v0 t).1).sub,((pktsL_v0 t).1).len,((pktsL_v0 t).1).es⟩:Pln) x2.router (⟨rng (t.take 2000) (pktsL_v1 t) 1 9,rng (t.take 2000) (pktsL_v2 t) 1 4⟩:Flw) (B [111,110,101])).2) != 0) (.bk 0 b0 ((true):Bool) [])
(.bk 0 b0 ((((pksT ((roundO (⟨((pktsL_v0 t).1).sp,((pktsL_v0 t).1).lsn,((pktsL_v0 t).1).fl⟩:Ovl) []).1) (⟨((pktsL_v0 t).1).sub,((pktsL_v0 t).1).len,((pktsL_v0 t).1).es⟩:Pln) x2.router (⟨rng (t.take 2000) (pktsL_v1 t) 1 9,rng (t.take 2000) (pktsL_v2 t) 1 4⟩:Flw) (B [116,119,111])).2) != 0):Bool) [])))) fun (t0:Bool) =>
(.br 0 t0 (.ret (false))
(.loop 1 (pktsL_n1 t x2) (I1 x2 t0) (m1 x2 t0) ([],0,0) [] fun (t1:(List Int)×Int×Int) b1 =>
(.br 16 (decide (t1.2.2<((((pksT (⟨((pktsL_v0 t).1).sp,((pktsL_v0 t).1).lsn,((pktsL_v0 t).1).fl⟩:Ovl) (⟨((pktsL_v0 t).1).sub,((pktsL_v0 t).1).len,((pktsL_v0 t).1).es⟩:Pln) x2.router (⟨rng (t.take 2000) (pktsL_v1 t) 1 9,rng (t.take 2000) (pktsL_v2 t) 1 4⟩:Flw) (B [111,110,101])).1).map Pkt.v).length:Int))) (.el 16 Pkt.v ((pksT (⟨((pktsL_v0 t).1).sp,((pktsL_v0 t).1).lsn,((pktsL_v0 t).1).fl⟩:Ovl) (⟨((pktsL_v0 t).1).sub,((pktsL_v0 t).1).len,((pktsL_v0 t).1).es⟩:Pln) x2.router (⟨rng (t.take 2000) (pktsL_v1 t) 1 9,rng (t.take 2000) (pktsL_v2 t) 1 4⟩:Flw) (B [111,110,101])).1) (fun R=>Rf (((pksT (⟨((pktsL_v0 t).1).sp,((pktsL_v0 t).1).lsn,((pktsL_v0 t).1).fl⟩:Ovl) (⟨((pktsL_v0 t).1).sub,((pktsL_v0 t).1).len,((pktsL_v0 t).1).es⟩:Pln) x2.router (⟨rng (t.take 2000) (pktsL_v1 t) 1 9,rng (t.take 2000) (pktsL_v2 t) 1 4⟩:Flw) (B [111,110,101])).1).map Pkt.v) (ck (decide (0≤t1.2.2)) (ck (decide (t1.2.2<(((pksT (⟨((pktsL_v0 t).1).sp,((pktsL_v0 t).1).lsn,((pktsL_v0 t).1).fl⟩:Ovl) (⟨((pktsL_v0 t).1).sub,((pktsL_v0 t).1).len,((pktsL_v0 t).1).es⟩:Pln) x2.router (⟨rng (t.take 2000) (pktsL_v1 t) 1 9,rng (t.take 2000) (pktsL_v2 t) 1 4⟩:Flw) (B [111,110,101])).1).length:Int)))
(∀x6,((pksT (⟨((pktsL_v0 t).1).sp,((pktsL_v0 t).1).lsn,((pktsL_v0 t).1).fl⟩:Ovl) (⟨((pktsL_v0 t).1).sub,((pktsL_v0 t).1).len,((pktsL_v0 t).1).es⟩:Pln) x2.router (⟨rng (t.take 2000) (pktsL_v1 t) 1 9,rng (t.take 2000) (pktsL_v2 t) 1 4⟩:Flw) (B [111,110,101])).1)[t1.2.2.toNat]?=some x6 →
(R x6))))) fun x6 =>
(.loop 2 (pktsL_n2 t x2 t1 x6) (I2 x2 t0 t1 x6) (m2 x2 t0 t1 x6) (t1.1,t1.2.1,0) [48] fun (t2:(List Int)×Int×Int) b2 =>
(.br 65 (decide (t2.2.2<x6.len)) (.say (ck (decide (0≤(IntKind.u64.wrap t2.2.2)))) (.br 177 ((bAnd .u64 (shrI .u64 x6.bits (IntKind.u64.wrap t2.2.2)) 1)==1) (.callP (atR_c x6.set t2.2.2 x6.len)
(.br 385 (!((atT x6.set t2.2.2 x6.len).2)) (.ret (false))
(.req 417 (t2.1.length≤900000) fun h7 =>
(.callP (put_c t2.1 ((atT x6.set t2.2.2 x6.len).1) h7)
(.bk 2 b2 (put t2.1 ((atT x6.set t2.2.2 x6.len).1),W (t2.2.1+1),W (t2.2.2+1)) [0])))))
(.bk 2 b2 (t2.1,t2.2.1,W (t2.2.2+1)) [0])))
(.join 3 (pktsL_n3 t x2 t1 t2) (fun (t3:Bool)=>I3 x2 t0 t1 x6 t2 t3) (fun b3=>(.el 113 Pkt.v ((pksT (⟨((pktsL_v0 t).1).sp,((pktsL_v0 t).1).lsn,((pktsL_v0 t).1).fl⟩:Ovl) (⟨((pktsL_v0 t).1).sub,((pktsL_v0 t).1).len,((pktsL_v0 t).1).es⟩:Pln) x2.router (⟨rng (t.take 2000) (pktsL_v1 t) 1 9,rng (t.take 2000) (pktsL_v2 t) 1 4⟩:Flw) (B [111,110,101])).1) (fun R=>Rf (((pksT (⟨((pktsL_v0 t).1).sp,((pktsL_v0 t).1).lsn,((pktsL_v0 t).1).fl⟩:Ovl) (⟨((pktsL_v0 t).1).sub,((pktsL_v0 t).1).len,((pktsL_v0 t).1).es⟩:Pln) x2.router (⟨rng (t.take 2000) (pktsL_v1 t) 1 9,rng (t.take 2000) (pktsL_v2 t) 1 4⟩:Flw) (B [111,110,101])).1).map Pkt.v) (ck (decide (0<(((pksT (⟨((pktsL_v0 t).1).sp,((pktsL_v0 t).1).lsn,((pktsL_v0 t).1).fl⟩:Ovl) (⟨((pktsL_v0 t).1).sub,((pktsL_v0 t).1).len,((pktsL_v0 t).1).es⟩:Pln) x2.router (⟨rng (t.take 2000) (pktsL_v1 t) 1 9,rng (t.take 2000) (pktsL_v2 t) 1 4⟩:Flw) (B [111,110,101])).1).length:Int)))
(∀x8,((pksT (⟨((pktsL_v0 t).1).sp,((pktsL_v0 t).1).lsn,((pktsL_v0 t).1).fl⟩:Ovl) (⟨((pktsL_v0 t).1).sub,((pktsL_v0 t).1).len,((pktsL_v0 t).1).es⟩:Pln) x2.router (⟨rng (t.take 2000) (pktsL_v1 t) 1 9,rng (t.take 2000) (pktsL_v2 t) 1 4⟩:Flw) (B [111,110,101])).1)[0]?=some x8 →
(R x8)))) fun x8 =>
(.br 193 (!(x6.pay.toList==x8.pay.toList)) (.bk 3 b3 ((true):Bool) [])
(.el 241 Pkt.v ((pksT (⟨((pktsL_v0 t).1).sp,((pktsL_v0 t).1).lsn,((pktsL_v0 t).1).fl⟩:Ovl) (⟨((pktsL_v0 t).1).sub,((pktsL_v0 t).1).len,((pktsL_v0 t).1).es⟩:Pln) x2.router (⟨rng (t.take 2000) (pktsL_v1 t) 1 9,rng (t.take 2000) (pktsL_v2 t) 1 4⟩:Flw) (B [111,110,101])).1) (fun R=>Rf (((pksT (⟨((pktsL_v0 t).1).sp,((pktsL_v0 t).1).lsn,((pktsL_v0 t).1).fl⟩:Ovl) (⟨((pktsL_v0 t).1).sub,((pktsL_v0 t).1).len,((pktsL_v0 t).1).es⟩:Pln) x2.router (⟨rng (t.take 2000) (pktsL_v1 t) 1 9,rng (t.take 2000) (pktsL_v2 t) 1 4⟩:Flw) (B [111,110,101])).1).map Pkt.v) (ck (decide (0<(((pksT (⟨((pktsL_v0 t).1).sp,((pktsL_v0 t).1).lsn,((pktsL_v0 t).1).fl⟩:Ovl) (⟨((pktsL_v0 t).1).sub,((pktsL_v0 t).1).len,((pktsL_v0 t).1).es⟩:Pln) x2.router (⟨rng (t.take 2000) (pktsL_v1 t) 1 9,rng (t.take 2000) (pktsL_v2 t) 1 4⟩:Flw) (B [111,110,101])).1).length:Int)))
(∀x9,((pksT (⟨((pktsL_v0 t).1).sp,((pktsL_v0 t).1).lsn,((pktsL_v0 t).1).fl⟩:Ovl) (⟨((pktsL_v0 t).1).sub,((pktsL_v0 t).1).len,((pktsL_v0 t).1).es⟩:Pln) x2.router (⟨rng (t.take 2000) (pktsL_v1 t) 1 9,rng (t.take 2000) (pktsL_v2 t) 1 4⟩:Flw) (B [111,110,101])).1)[0]?=some x9 →
(R x9)))) fun x9 =>
(.br 337 (x6.ent != x9.ent) (.bk 3 b3 ((true):Bool) [])
(.br 401 (decide (0<((((pksT ((roundO (⟨((pktsL_v0 t).1).sp,((pktsL_v0 t).1).lsn,((pktsL_v0 t).1).fl⟩:Ovl) []).1) (⟨((pktsL_v0 t).1).sub,((pktsL_v0 t).1).len,((pktsL_v0 t).1).es⟩:Pln) x2.router (⟨rng (t.take 2000) (pktsL_v1 t) 1 9,rng (t.take 2000) (pktsL_v2 t) 1 4⟩:Flw) (B [116,119,111])).1).map Pkt.v).length:Int))) (.el 417 Pkt.v ((pksT ((roundO (⟨((pktsL_v0 t).1).sp,((pktsL_v0 t).1).lsn,((pktsL_v0 t).1).fl⟩:Ovl) []).1) (⟨((pktsL_v0 t).1).sub,((pktsL_v0 t).1).len,((pktsL_v0 t).1).es⟩:Pln) x2.router (⟨rng (t.take 2000) (pktsL_v1 t) 1 9,rng (t.take 2000) (pktsL_v2 t) 1 4⟩:Flw) (B [116,119,111])).1) (fun R=>Rf (((pksT ((roundO (⟨((pktsL_v0 t).1).sp,((pktsL_v0 t).1).lsn,((pktsL_v0 t).1).fl⟩:Ovl) []).1) (⟨((pktsL_v0 t).1).sub,((pktsL_v0 t).1).len,((pktsL_v0 t).1).es⟩:Pln) x2.router (⟨rng (t.take 2000) (pktsL_v1 t) 1 9,rng (t.take 2000) (pktsL_v2 t) 1 4⟩:Flw) (B [116,119,111])).1).map Pkt.v) (ck (decide (0<(((pksT ((roundO (⟨((pktsL_v0 t).1).sp,((pktsL_v0 t).1).lsn,((pktsL_v0 t).1).fl⟩:Ovl) []).1) (⟨((pktsL_v0 t).1).sub,((pktsL_v0 t).1).len,((pktsL_v0 t).1).es⟩:Pln) x2.router (⟨rng (t.take 2000) (pktsL_v1 t) 1 9,rng (t.take 2000) (pktsL_v2 t) 1 4⟩:Flw) (B [116,119,111])).1).length:Int)))
(∀x10,((pksT ((roundO (⟨((pktsL_v0 t).1).sp,((pktsL_v0 t).1).lsn,((pktsL_v0 t).1).fl⟩:Ovl) []).1) (⟨((pktsL_v0 t).1).sub,((pktsL_v0 t).1).len,((pktsL_v0 t).1).es⟩:Pln) x2.router (⟨rng (t.take 2000) (pktsL_v1 t) 1 9,rng (t.take 2000) (pktsL_v2 t) 1 4⟩:Flw) (B [116,119,111])).1)[0]?=some x10 →
(R x10)))) fun x10 =>
(.br 529 (x10.ent != x6.ent) (.bk 3 b3 ((true):Bool) [])
(.el 545 Pkt.v ((pksT ((roundO (⟨((pktsL_v0 t).1).sp,((pktsL_v0 t).1).lsn,((pktsL_v0 t).1).fl⟩:Ovl) []).1) (⟨((pktsL_v0 t).1).sub,((pktsL_v0 t).1).len,((pktsL_v0 t).1).es⟩:Pln) x2.router (⟨rng (t.take 2000) (pktsL_v1 t) 1 9,rng (t.take 2000) (pktsL_v2 t) 1 4⟩:Flw) (B [116,119,111])).1) (fun R=>Rf (((pksT ((roundO (⟨((pktsL_v0 t).1).sp,((pktsL_v0 t).1).lsn,((pktsL_v0 t).1).fl⟩:Ovl) []).1) (⟨((pktsL_v0 t).1).sub,((pktsL_v0 t).1).len,((pktsL_v0 t).1).es⟩:Pln) x2.router (⟨rng (t.take 2000) (pktsL_v1 t) 1 9,rng (t.take 2000) (pktsL_v2 t) 1 4⟩:Flw) (B [116,119,111])).1).map Pkt.v) (ck (decide (0<(((pksT ((roundO (⟨((pktsL_v0 t).1).sp,((pktsL_v0 t).1).lsn,((pktsL_v0 t).1).fl⟩:Ovl) []).1) (⟨((pktsL_v0 t).1).sub,((pktsL_v0 t).1).len,((pktsL_v0 t).1).es⟩:Pln) x2.router (⟨rng (t.take 2000) (pktsL_v1 t) 1 9,rng (t.take 2000) (pktsL_v2 t) 1 4⟩:Flw) (B [116,119,111])).1).length:Int)))
(∀x11,((pksT ((roundO (⟨((pktsL_v0 t).1).sp,((pktsL_v0 t).1).lsn,((pktsL_v0 t).1).fl⟩:Ovl) []).1) (⟨((pktsL_v0 t).1).sub,((pktsL_v0 t).1).len,((pktsL_v0 t).1).es⟩:Pln) x2.router (⟨rng (t.take 2000) (pktsL_v1 t) 1 9,rng (t.take 2000) (pktsL_v2 t) 1 4⟩:Flw) (B [116,119,111])).1)[0]?=some x11 →
(R x11)))) fun x11 =>
(.bk 3 b3 ((x11.pay.toList==x6.pay.toList):Bool) []))))
(.bk 3 b3 ((false):Bool) []))))))) fun (t3:Bool) =>
(.br 0 t3 (.ret (false))
(.bk 1 b1 (t2.1,t2.2.1,W (t1.2.2+1)) []))))))
(.callP (IntsEq_c t1.1 ((rcvT (⟨((pktsL_v0 t).1).sp,((pktsL_v0 t).1).lsn,((pktsL_v0 t).1).fl⟩:Ovl) (⟨((pktsL_v0 t).1).sub,((pktsL_v0 t).1).len,((pktsL_v0 t).1).es⟩:Pln) x2.router (⟨rng (t.take 2000) (pktsL_v1 t) 1 9,rng (t.take 2000) (pktsL_v2 t) 1 4⟩:Flw)).1))
(.br 80 (IntsEq t1.1 ((rcvT (⟨((pktsL_v0 t).1).sp,((pktsL_v0 t).1).lsn,((pktsL_v0 t).1).fl⟩:Ovl) (⟨((pktsL_v0 t).1).sub,((pktsL_v0 t).1).len,((pktsL_v0 t).1).es⟩:Pln) x2.router (⟨rng (t.take 2000) (pktsL_v1 t) 1 9,rng (t.take 2000) (pktsL_v2 t) 1 4⟩:Flw)).1)) (.br 176 (t1.2.1==((((rcvT (⟨((pktsL_v0 t).1).sp,((pktsL_v0 t).1).lsn,((pktsL_v0 t).1).fl⟩:Ovl) (⟨((pktsL_v0 t).1).sub,((pktsL_v0 t).1).len,((pktsL_v0 t).1).es⟩:Pln) x2.router (⟨rng (t.take 2000) (pktsL_v1 t) 1 9,rng (t.take 2000) (pktsL_v2 t) 1 4⟩:Flw)).1).map AV.int).length:Int)) (.callP (awk28_c )
(.ret (true)))
(.ret (false)))
(.ret (false))))))))))))))))))))))))
def pktsL_vc(t:(List Int))(I0:Sit→Bool→Prop)(I1:Sit→Bool→((List Int)×Int×Int)→Prop)(m1:Sit→Bool→((List Int)×Int×Int)→Nat)(I2:Sit→Bool→(List Int)×Int×Int→Pkt→((List Int)×Int×Int)→Prop)(m2:Sit→Bool→(List Int)×Int×Int→Pkt→((List Int)×Int×Int)→Nat)(I3:Sit→Bool→(List Int)×Int×Int→Pkt→(List Int)×Int×Int→Bool→Prop)(r0:Bool):Prop:=(pktsL_x t I0 I1 m1 I2 m2 I3).vp pktsL_e r0
theorem pktsL_p(t:List Int)(ok:pktsL_a t):∃I0 I1 m1 I2 m2 I3,pktsL_vc t I0 I1 m1 I2 m2 I3 true:=by
 have hs:=mkScn_ni (L:=t.take 2000) (p:=0) (most:=6) (by omega)
 obtain ⟨he,hp⟩:=scn_es (L:=t.take 2000) (p:=0) (most:=6) (by omega)
 have hl8:(scnT (t.take 2000) 0 6).1.sites.length≤8:=scnS_len (L:=t.take 2000) (p:=0) (most:=6) (by omega)
 refine ⟨fun _ b=>b=false,
  fun x _ s=>∃k:Nat,s.2.2=k∧k≤24∧s.1=flatS (scnT (t.take 2000) 0 6).1.len.toNat ((setsT ⟨(scnT (t.take 2000) 0 6).1.sub,(scnT (t.take 2000) 0 6).1.len,(scnT (t.take 2000) 0 6).1.es⟩ (rcvT ⟨(scnT (t.take 2000) 0 6).1.sp,(scnT (t.take 2000) 0 6).1.lsn,(scnT (t.take 2000) 0 6).1.fl⟩ ⟨(scnT (t.take 2000) 0 6).1.sub,(scnT (t.take 2000) 0 6).1.len,(scnT (t.take 2000) 0 6).1.es⟩ x.router ⟨rng (t.take 2000) (rawP (t.take 2000) (scnT (t.take 2000) 0 6).2) 1 9,rng (t.take 2000) (rawP (t.take 2000) (rawP (t.take 2000) (scnT (t.take 2000) 0 6).2)) 1 4⟩).1).1.take k)∧s.2.1=s.1.length,fun _ _ s=>25-s.2.2.toNat,
  fun _ _ s p u=>∃b:Nat,u.2.2=b∧b≤p.len.toNat∧u.1=s.1++((bitsN p.bits.toNat b).map fun (b:Nat)=>p.set * (p.len.toNat:Int)+(b:Int)+1)∧u.2.1=u.1.length,fun _ _ _ p u=>p.len.toNat-u.2.2.toNat,fun _ _ _ _ _ b=>b=false,?_⟩
 dsimp only [pktsL_vc,pktsL_x,pktsL_s,pktsL_v0,pktsL_v1,pktsL_v2,pktsL_v3,Ax.vp,Ax.vc];simp only [vcU,rfU,List.length_map]
 generalize t.take 2000=L at *
 refine ⟨by omega,?_⟩
 generalize hZ:scnT L 0 6=Z at *
 refine ⟨fun _=>trivial,fun c=>?_⟩
 have hpos:1≤(Z.1.sites.length:Int):=by
  have:¬(Z.1.sites.length:Int)=0:=by simpa using c
  omega
 have hm:=Mod_range (x:=rawV L Z.2) hpos
 refine ⟨hm.1,hm.2,fun x hx=>?_⟩
 have hxm:x∈Z.1.sites:=mem_of_get hx
 have hg1:=rng_in (L:=L) (p:=rawP L Z.2) (lo:=1) (hi:=9) (by omega)
 have hg2:=rng_in (L:=L) (p:=rawP L (rawP L Z.2)) (lo:=1) (hi:=4) (by omega)
 have hfv:valFl ⟨rng L (rawP L Z.2) 1 9,rng L (rawP L (rawP L Z.2)) 1 4⟩=true:=by
  have a:1≤rng L (rawP L Z.2) 1 9∧rng L (rawP L Z.2) 1 9≤99:=by omega
  have b:1≤rng L (rawP L (rawP L Z.2)) 1 4∧rng L (rawP L (rawP L Z.2)) 1 4≤99:=by omega
  rw [valFl,decide_eq_true a,decide_eq_true b];rfl
 have hlenP:Z.1.len=(⟨Z.1.sub,Z.1.len,Z.1.es⟩:Pln).len:=rfl
 rw [hlenP]
 generalize hf:(⟨rng L (rawP L Z.2) 1 9,rng L (rawP L (rawP L Z.2)) 1 4⟩:Flw)=f at *
 generalize hP:(⟨Z.1.sub,Z.1.len,Z.1.es⟩:Pln)=P at *
 generalize hO:(⟨Z.1.sp,Z.1.lsn,Z.1.fl⟩:Ovl)=O at *
 have hxR:x.router∈Z.1.sites.map Sit.router:=List.mem_map_of_mem hxm
 have hO2:=hs.round []
 have r1:=rcv_zero hs.1 hxR hp hfv
 have r2:=rcv_zero hO2.2.1 hxR hp hfv
 have k1:=pks_ok (d:=B [111,110,101]) hp r1 hfv (by decide)
 have k2:=pks_ok (d:=B [116,119,111]) hp r2 hfv (by decide)
 obtain ⟨i1,i2⟩:=rcvT_ids (o:=O) (at_:=x.router) (f:=f) hp
 have hl24:=rcvT_len O P x.router f
 rw [k1,k2]
 generalize hq1:(⟨1,0,0,0,63,entT f.src f.grp,ownP P x.router,1,0,B [u8B f.src,u8B f.grp]++B [111,110,101]⟩:Pkt)=q1
 generalize hq2:(⟨1,0,0,0,63,entT f.src f.grp,ownP P x.router,1,0,B [u8B f.src,u8B f.grp]++B [116,119,111]⟩:Pkt)=q2
 generalize (rcvT O P x.router f).1=ids at *
 generalize (setsT P (rcvT (roundO O []).1 P x.router f).1).1=S2
 have hSl:=setsT_len P ids
 have e3:(B [111,110,101]).size=3:=rfl
 refine ⟨by rw [e3];omega,⟨by have:=hs.2;omega,by simp⟩,by decide,⟨fun e=>by rw [r1] at e;simp at e,fun _=>⟨fun e=>by simp at e,fun _=>by simp⟩⟩,?_⟩
 rintro _ rfl
 refine ⟨fun e=>by simp at e,fun _=>⟨⟨0,rfl,by omega,rfl,rfl⟩,?_⟩⟩
 have hfl:flatS P.len.toNat (setsT P ids).1=ids∧(ids≠[]→vlenP P.len=true)∧((setsT P ids).1≠[]→ids≠[]):=by
  by_cases hne:ids=[]
  ·subst hne
   have e:setsT P []=([],0):=by rw [setsT,if_neg (by rw [hp];simp),if_neg (not_not_intro List.Pairwise.nil),if_neg (by simp)];rfl
   rw [e];exact ⟨rfl,fun h=>absurd rfl h,fun h=>absurd rfl h⟩
  ·obtain ⟨_,s2,s3⟩:=setsT_good hp i1 i2 (.inl hne)
   exact ⟨s2.flat,s3,fun _=>hne⟩
 have hgood:(setsT P ids).1≠[]→Good P.len.toNat ids (setsT P ids).1:=fun hne=>(setsT_good hp i1 i2 (.inl (hfl.2.2 hne))).2.1
 generalize (setsT P ids).1=S at *
 have hids:∀x∈ids,1≤x∧x≤256:=fun x hx=>by
  obtain ⟨e,he,q⟩:=List.mem_map.mp (i2 x hx)
  have:=(((of_decide_eq_true ((Bool.and_eq_true _ _).mp hp).2:plnE P.es).1 e he)).1
  omega
 rintro ⟨got,n,i⟩ ⟨k,hi,hk,rfl,hn⟩
 simp only at hi hn ⊢
 subst hi;subst hn
 rw [List.length_map]
 simp only [Int.toNat_natCast]
 refine ⟨fun d=>⟨by omega,d,fun p hpk=>⟨⟨0,rfl,by omega,by simp [bitsN],trivial⟩,?_⟩⟩,fun d=>?_⟩
 ·rw [List.getElem?_map] at hpk
  have hkS:k<S.length:=by omega
  have hSk:S[k]?=some S[k]:=List.getElem?_eq_getElem hkS
  generalize hsk:S[k]=s at hSk
  rw [hSk] at hpk
  have hpk:mkQ P q1 s=p:=by simpa using hpk
  have hne:S≠[]:=fun e=>by subst e;simp at hkS
  have hv:=hfl.2.1 (hfl.2.2 hne)
  have hvl:=vlenP_iff.mp hv
  obtain ⟨m,m1,m2,m3,m4⟩:=(hgood hne).bits s (mem_of_get hSk)
  have hm64:m<18446744073709551616:=Nat.lt_of_lt_of_le m2 (Nat.le_trans (Nat.pow_le_pow_right (show 0<2 by decide) (show P.len.toNat≤64 by omega)) (show 2 ^ 64≤18446744073709551616 by decide))
  have p1:p.bits=m:=by rw [←hpk];exact m1
  have p2:p.set=s.set:=by rw [←hpk];rfl
  have p3:p.len=P.len:=by rw [←hpk];rfl
  rintro ⟨g2,n2,bit⟩ ⟨b,hb,hbl,hg2,hn2⟩
  simp only at hb hg2 hn2 ⊢
  subst hb;subst hn2
  rw [p1,p2,p3]
  rw [p3] at hbl
  rw [p1,p2,p3,Int.toNat_natCast] at hg2
  refine ⟨fun d2=>?_,fun d2=>⟨?_,?_⟩⟩
  ·have hb':b<P.len.toNat:=by omega
   have hb64:b<64:=by omega
   have wb:IntKind.u64.wrap (b:Int)=(b:Int):=wrap_u64 (by omega)
   rw [wb,bit_eq hm64 hb64]
   have hsub:=flatS_take (len:=P.len.toNat) hSk (show b+1≤P.len.toNat by omega)
   rw [hfl.1,m1,Int.toNat_natCast,bitsN_succ] at hsub
   have hbs:=bitsN_succ m b
   refine ⟨by omega,fun e=>?_,fun e=>?_⟩
   ·rw [e,if_pos rfl,List.map_append,←List.append_assoc,←hg2] at hsub
    have hpw:=i1.sublist hsub
    rw [List.pairwise_append] at hpw
    have hidm:=hids _ (hsub.subset (List.mem_append_right _ (List.mem_map_of_mem (List.mem_singleton.mpr rfl))))
    have hA:atT s.set (b:Int) P.len=(s.set * P.len+b+1,true):=by
     have hPl:((P.len.toNat:Nat):Int)=P.len:=by omega
     rw [hPl] at hidm m4
     have hset:s.set≤31:=by
      refine Classical.byContradiction fun q=>?_
      have:(32:Int) * 8≤s.set * P.len:=Int.mul_le_mul (by omega) (by omega) (by omega) (by omega)
      omega
     rw [atT,if_pos ⟨⟨hv,⟨by omega,by omega⟩,m3,hset⟩,hidm.2⟩]
    rw [hA]
    have hPl:((P.len.toNat:Nat):Int)=P.len:=by omega
    have hput:put g2 (s.set * P.len+b+1)=g2++[s.set * P.len+b+1]:=put_last fun y hy=>by
     have:=hpw.2.2 y hy _ (List.mem_map_of_mem (List.mem_singleton.mpr rfl))
     rw [hPl] at this;exact this
    have hglen:g2.length≤24:=by
     have:=hsub.length_le
     simp only [List.length_append] at this;omega
    refine ⟨fun q=>by simp at q,fun _=>⟨by omega,?_⟩⟩
    simp only
    rw [hput,W_succ (n:=100) (by omega) (by omega),W_succ (n:=100) (k:=g2.length) (by omega) (by omega)]
    refine ⟨⟨b+1,rfl,by omega,?_,by simp⟩,by omega⟩
    rw [Int.toNat_natCast,hbs,e,if_pos rfl,List.map_append,←List.append_assoc,←hg2,hPl];rfl
   ·rw [W_succ (n:=100) (by omega) (by omega)]
    refine ⟨⟨b+1,rfl,by omega,?_,rfl⟩,by omega⟩
    rw [Int.toNat_natCast,hbs,e,if_neg (by simp),List.append_nil,hg2]
  ·have h0:(S.map (mkQ P q1))[0]?=some (mkQ P q1 (S[0]'(by omega))):=by rw [List.getElem?_map,List.getElem?_eq_getElem (show 0<S.length by omega)];rfl
   have z1:(mkQ P q1 (S[0]'(by omega))).pay=p.pay:=by rw [←hpk];rfl
   have z2:(mkQ P q1 (S[0]'(by omega))).ent=p.ent:=by rw [←hpk];rfl
   refine ⟨by omega,fun x8 hx8=>?_⟩
   rw [h0] at hx8;cases hx8
   refine ⟨fun e=>by rw [z1] at e;simp at e,fun _=>⟨by omega,fun x9 hx9=>?_⟩⟩
   rw [h0] at hx9;cases hx9
   rw [z2]
   refine ⟨fun e=>by simp at e,fun _=>⟨fun e2=>⟨e2,fun x10 hx10=>?_⟩,fun _=>trivial⟩⟩
   rw [List.length_map] at e2
   have h1:(S2.map (mkQ P q2))[0]?=some (mkQ P q2 (S2[0]'(by omega))):=by rw [List.getElem?_map,List.getElem?_eq_getElem (show 0<S2.length by omega)];rfl
   rw [h1] at hx10;cases hx10
   have y2:(mkQ P q2 (S2[0]'(by omega))).ent=p.ent:=by rw [←hpk,←hq2,←hq1];rfl
   rw [y2]
   refine ⟨fun e=>by simp at e,fun _=>⟨by rw [List.length_map];exact e2,fun x11 hx11=>?_⟩⟩
   rw [h1] at hx11;cases hx11
   have y1:(mkQ P q2 (S2[0]'(by omega))).pay=B [u8B f.src,u8B f.grp]++B [116,119,111]:=by rw [←hq2];rfl
   have y3:p.pay=B [u8B f.src,u8B f.grp]++B [111,110,101]:=by rw [←hpk,←hq1];rfl
   rw [y1,y3,pay_ne]
   all_goals (try rfl)
  ·rintro _ rfl
   refine ⟨fun e=>by simp at e,fun _=>?_⟩
   rw [W_succ (n:=30) (by omega) (by omega)]
   refine ⟨⟨k+1,rfl,by omega,?_,rfl⟩,by omega⟩
   have:b=P.len.toNat:=by omega
   subst this
   rw [hg2]
   unfold flatS
   rw [take_succ hSk,List.flatMap_append,List.flatMap_cons,List.flatMap_nil,List.append_nil]
   unfold idsS
   rw [m1,Int.toNat_natCast]
 ·have:S.length≤k:=by omega
  rw [List.take_of_length_le this,hfl.1]
  exact ⟨fun _=>⟨fun _=>trivial,fun e=>by simp at e⟩,fun e=>by simp [IntsEq] at e⟩
def pktsL_c(t:(List Int)):PC Tryz.prog:=⟨4,[(.s 1)],[.sl 1 (t.map AV.int) false],pktsL_e true,PSpec.of_ok fun ok=>(pktsL_p t ok).elim fun I0 h=>h.elim fun I1 h=>h.elim fun m1 h=>h.elim fun I2 h=>h.elim fun m2 h=>h.elim fun I3 h=>mxP_of (sh:=.k) (enc:=pktsL_e) (a:=(pktsL_x t I0 I1 m1 I2 m2 I3).an) h (by kernel_rfl) (AV.pureB_ok rfl),fnB_ok (by kernel_rfl)⟩
end Go.Proofs.YthhpaedpnjdnbaaGreatDoor
