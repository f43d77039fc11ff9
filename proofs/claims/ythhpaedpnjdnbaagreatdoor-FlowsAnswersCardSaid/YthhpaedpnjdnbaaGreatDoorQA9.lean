/- Texts joined: H2 H3 H4 BT H5 U24 H7. -/
import Derived.Test.YthhpaedpnjdnbaaGreatDoorQA8
set_option linter.unusedVariables false
set_option linter.unusedSimpArgs false
namespace Go.Proofs.YthhpaedpnjdnbaaGreatDoor
open Go Go.Am
theorem P8{α:Type}{l:List α}{f:α→α}{j:Nat}(h:j<l.length):((l.take j).map f++l.drop j).set j (f l[j])=(l.take (j+1)).map f++l.drop (j+1):=by
 have e:((l.take j).map f).length=j:=by simp;omega
 rw[List.set_append_right _ _ (by omega),e,Nat.sub_self,List.drop_eq_getElem_cons h,List.set_cons_zero,ax (List.getElem?_eq_getElem h),List.map_append,List.append_assoc]
 rfl
theorem Rw{α:Type}{l:List α}{f:α→α}{j:Nat}(h:j<l.length):((l.take j).map f++l.drop j)[j]?=some l[j]:=by
 have e:((l.take j).map f).length=j:=by simp;omega
 rw[List.getElem?_append_right (by omega),e,Nat.sub_self,List.drop_eq_getElem_cons h,List.getElem?_cons_zero]
theorem NI.spl{R:List Int}{o:Ovl}(h:NI R o):o.sp.length=R.length:=by
 have:=congrArg List.length h.net.spr
 simpa[aJ]using this
def Kn(L:List Int)(p:Nat)(most:Int):=okL [.ref 0 0,.int most]∧(.box (.agg [.sl 1 (L.map AV.int) false,.int p]):Blk).ok
abbrev aN(L:List Int)(p:Nat)(most:Int):=(j3 L ((bu L p most).2) ((bu L p most).1))
abbrev cd(L:List Int)(p:Nat)(most:Int):=(al L ((aN L p most).2))
def PP(L:List Int)(p:Nat)(most:Int)(t0:List Int×Int):NF:=⟨[(0,.k,.ref 0 0),(4,.k,.ref 1 0),(5,.k,.ref 2 0),(6,(.s 1),.sl 1 (t0.1.map AV.int) false),(33,.k,.sl 2 ((((aN L p most).1).es).map Edg.v) false),(34,.k,.int (((((aN L p most).1).es).map Edg.v).length:Int)),(35,.k,.int t0.2)],[.box (.agg [.sl 1 (L.map AV.int) false,.int ((((aN L p most).2):Nat):Int)]),.box (.agg [.sl 0 [] true,.sl 0 [] true,.int 0,.int 0,.sl 0 [] true,.sl 0 [] true,.sl 0 [] true,.sl 0 [] true,.sl 0 [] true]),.box (.agg [.sl 2 ((((bu L p most).1).rs).map Rtr.v) false,.sl 5 ((((bu L p most).1).ls).map Lnk.v) false,.int (((aN L p most).1).sub),.int (((aN L p most).1).len),.sl 2 ((((aN L p most).1).es).map Edg.v) false,.sl 0 [] true,.sl 0 [] true,.sl 0 [] true,.sl 0 [] true])]⟩
def PO(L:List Int)(p:Nat)(most:Int)(t0:List Int×Int)(t1:Int×Nat×List Sit):NF:=⟨[(0,.k,.ref 0 0),(4,.k,.ref 1 0),(5,.k,.ref 2 0),(6,.k,.sl 1 (t0.1.map AV.int) false),(9,.k,.int (au [0,100] (cd L p most))),(47,.k,.sl 1 (t0.1.map AV.int) false),(48,.k,.int ((t0.1.map AV.int).length:Int)),(49,.k,.int t1.1)],[.box (.agg [.sl 1 (L.map AV.int) false,.int t1.2.1]),.box (.agg [.sl 0 [] true,.sl 0 [] true,.int 0,.int 0,.sl 0 [] true,.sl 0 [] true,.sl 0 [] true,.sl 0 [] true,.sl 0 [] true]),.box (.agg [.sl 2 ((((bu L p most).1).rs).map Rtr.v) false,.sl 5 ((((bu L p most).1).ls).map Lnk.v) false,.int (((aN L p most).1).sub),.int (((aN L p most).1).len),.sl 2 ((((aN L p most).1).es).map Edg.v) false,.vec 3,.sl 0 [] true,.sl 0 [] true,.sl 0 [] true]),.vec 3 (t1.2.2.map Sit.v) (ab (λ_=>rfl) t1.2.2)]⟩
def PN(L:List Int)(p:Nat)(most:Int)(t0:List Int×Int)(t1:Int×Nat×List Sit)(x6:Int)(t2:Int×List Mem):NF:=⟨[(0,.k,.ref 0 0),(4,.k,.ref 1 0),(5,.k,.ref 2 0),(6,.k,.sl 1 (t0.1.map AV.int) false),(9,.k,.int (au [0,100] (cd L p most))),(11,.k,.int x6),(12,.k,.ref 4 0),(47,.k,.sl 1 (t0.1.map AV.int) false),(48,.k,.int ((t0.1.map AV.int).length:Int)),(49,.k,.int t1.1),(57,.k,.int (((((aZ L 4 t1.2.1).1).list).map Mem.v).length:Int)),(58,.k,.int t2.1)],[.box (.agg [.sl 1 (L.map AV.int) false,.int ((((aZ L 4 t1.2.1).2):Nat):Int)]),.box (.agg [.sl 0 [] true,.sl 0 [] true,.int 0,.int 0,.sl 0 [] true,.sl 0 [] true,.sl 0 [] true,.sl 0 [] true,.sl 0 [] true]),.box (.agg [.sl 2 ((((bu L p most).1).rs).map Rtr.v) false,.sl 5 ((((bu L p most).1).ls).map Lnk.v) false,.int (((aN L p most).1).sub),.int (((aN L p most).1).len),.sl 2 ((((aN L p most).1).es).map Edg.v) false,.vec 3,.sl 0 [] true,.sl 0 [] true,.sl 0 [] true]),.vec 3 (t1.2.2.map Sit.v) (ab (λ_=>rfl) t1.2.2),.box (.agg [.int (((aZ L 4 t1.2.1).1).now),.vec 5]),.vec 5 (t2.2.map Mem.v) (ab (λ_=>rfl) t2.2)]⟩
def PM(L:List Int)(p:Nat)(most:Int)(t0:List Int×Int)(t1:Int×Nat×List Sit)(t3:Int×List Spk×List Lsn×List Sig×Nat):NF:=⟨[(0,.k,.ref 0 0),(4,.k,.ref 1 0),(5,.k,.ref 2 0),(6,.k,.sl 1 (t0.1.map AV.int) false),(14,.k,.int t3.1)],[.box (.agg [.sl 1 (L.map AV.int) false,.int t3.2.2.2.2]),.box (.agg [.sl 0 [] true,.sl 0 [] true,.int 0,.int 0,.sl 0 [] true,.sl 0 [] true,.sl 0 [] true,.sl 0 [] true,.sl 0 [] true]),.box (.agg [.sl 2 ((((bu L p most).1).rs).map Rtr.v) false,.sl 5 ((((bu L p most).1).ls).map Lnk.v) false,.int (((aN L p most).1).sub),.int (((aN L p most).1).len),.sl 2 ((((aN L p most).1).es).map Edg.v) false,.vec 3,.sl 5 (t3.2.1.map Spk.v) false,.sl 3 (t3.2.2.1.map Lsn.v) false,.sl 10 (t3.2.2.2.1.map Sig.v) false]),.vec 3 (t1.2.2.map Sit.v) (ab (λ_=>rfl) t1.2.2)]⟩
def PL(L:List Int)(p:Nat)(most:Int)(t1:Int×Nat×List Sit)(t4:Int×List Spk×List Lsn×List Sig×Nat):NF:=⟨[(0,.k,.ref 0 0),(4,.k,.ref 1 0),(5,.k,.ref 2 0),(123,.k,.vec 3),(124,.k,.int ((t1.2.2.map Sit.v).length:Int)),(125,.k,.int t4.1)],[.box (.agg [.sl 1 (L.map AV.int) false,.int t4.2.2.2.2]),.box (.agg [.sl 0 [] true,.sl 0 [] true,.int 0,.int 0,.sl 0 [] true,.sl 0 [] true,.sl 0 [] true,.sl 0 [] true,.sl 0 [] true]),.box (.agg [.sl 2 ((((bu L p most).1).rs).map Rtr.v) false,.sl 5 ((((bu L p most).1).ls).map Lnk.v) false,.int (((aN L p most).1).sub),.int (((aN L p most).1).len),.sl 2 ((((aN L p most).1).es).map Edg.v) false,.vec 3,.sl 5 (t4.2.1.map Spk.v) false,.sl 3 (t4.2.2.1.map Lsn.v) false,.sl 10 (t4.2.2.2.1.map Sig.v) false]),.vec 3 (t1.2.2.map Sit.v) (ab (λ_=>rfl) t1.2.2)]⟩
def PK(L:List Int)(p:Nat)(most:Int)(t1:Int×Nat×List Sit)(t4:Int×List Spk×List Lsn×List Sig×Nat)(x14:Sit)(t5:Bool×Nat):NF:=⟨[(0,.k,.ref 0 0),(4,.k,.ref 1 0),(5,.k,.ref 2 0),(16,.k,.ref 4 0),(17,.k,.sl 3 (((ofW (⟨x14.now,x14.list⟩:bW)).1).map Wnt.v) false),(123,.k,.vec 3),(124,.k,.int ((t1.2.2.map Sit.v).length:Int)),(125,.k,.int t4.1),(141,.k,.bool t5.1)],[.box (.agg [.sl 1 (L.map AV.int) false,.int t5.2]),.box (.agg [.sl 0 [] true,.sl 0 [] true,.int 0,.int 0,.sl 0 [] true,.sl 0 [] true,.sl 0 [] true,.sl 0 [] true,.sl 0 [] true]),.box (.agg [.sl 2 ((((bu L p most).1).rs).map Rtr.v) false,.sl 5 ((((bu L p most).1).ls).map Lnk.v) false,.int (((aN L p most).1).sub),.int (((aN L p most).1).len),.sl 2 ((((aN L p most).1).es).map Edg.v) false,.vec 3,.sl 5 (t4.2.1.map Spk.v) false,.sl 3 (t4.2.2.1.map Lsn.v) false,.sl 10 (t4.2.2.2.1.map Sig.v) false]),.vec 3 (t1.2.2.map Sit.v) (ab (λ_=>rfl) t1.2.2),.box (.agg [.int x14.router,.int x14.now,.sl 5 (x14.list.map Mem.v) false])]⟩
def PJ(L:List Int)(p:Nat)(most:Int)(t1:Int×Nat×List Sit)(t6:Int×List Spk×List Lsn×List Sig×Nat):NF:=⟨[(0,.k,.ref 0 0),(4,.k,.ref 1 0),(5,.k,.ref 2 0),(21,.k,.int t6.1)],[.box (.agg [.sl 1 (L.map AV.int) false,.int t6.2.2.2.2]),.box (.agg [.sl 0 [] true,.sl 0 [] true,.int 0,.int 0,.sl 0 [] true,.sl 0 [] true,.sl 0 [] true,.sl 0 [] true,.sl 0 [] true]),.box (.agg [.sl 2 ((((bu L p most).1).rs).map Rtr.v) false,.sl 5 ((((bu L p most).1).ls).map Lnk.v) false,.int (((aN L p most).1).sub),.int (((aN L p most).1).len),.sl 2 ((((aN L p most).1).es).map Edg.v) false,.vec 3,.sl 5 (t6.2.1.map Spk.v) false,.sl 3 (t6.2.2.1.map Lsn.v) false,.sl 10 (t6.2.2.2.1.map Sig.v) false]),.vec 3 (t1.2.2.map Sit.v) (ab (λ_=>rfl) t1.2.2)]⟩
@[reducible] def Km:Nat→Type
 | 0=>(List Int)×Int
 | 1=>Int×Nat×List Sit
 | 2=>Int×List Mem
 | 3=>Int×List Spk×List Lsn×List Sig×Nat
 | 4=>Int×List Spk×List Lsn×List Sig×Nat
 | 5=>Bool×Nat
 | 6=>Int×List Spk×List Lsn×List Sig×Nat
 | _=>Unit
def sY(r:Tap×Scn):AV:=.agg [.sl 2 (r.2.rs.map Rtr.v) false,.sl 5 (r.2.ls.map Lnk.v) false,.int r.2.sub,.int r.2.len,.sl 2 (r.2.es.map Edg.v) false,.sl 3 (r.2.sites.map Sit.v) false,.sl 5 (r.2.sp.map Spk.v) false,.sl 3 (r.2.lsn.map Lsn.v) false,.sl 10 (r.2.fl.map Sig.v) false]
def sZ(r:Tap×Scn):List (Option Blk):=[some (.box (.agg [.sl 1 (r.1.L.map AV.int) false,.int r.1.p]))]
def Ay(L:List Int)(p:Nat)(most:Int)(I0:(List Int×Int)→Prop)(m0:(List Int×Int)→Nat)(I1:List Int×Int→(Int×Nat×List Sit)→Prop)(m1:List Int×Int→(Int×Nat×List Sit)→Nat)(I2:List Int×Int→Int×Nat×List Sit→Int→(Int×List Mem)→Prop)(m2:List Int×Int→Int×Nat×List Sit→Int→(Int×List Mem)→Nat)(I3:List Int×Int→Int×Nat×List Sit→(Int×List Spk×List Lsn×List Sig×Nat)→Prop)(m3:List Int×Int→Int×Nat×List Sit→(Int×List Spk×List Lsn×List Sig×Nat)→Nat)(I4:List Int×Int→Int×Nat×List Sit→Int×List Spk×List Lsn×List Sig×Nat→(Int×List Spk×List Lsn×List Sig×Nat)→Prop)(m4:List Int×Int→Int×Nat×List Sit→Int×List Spk×List Lsn×List Sig×Nat→(Int×List Spk×List Lsn×List Sig×Nat)→Nat)(I5:List Int×Int→Int×Nat×List Sit→Int×List Spk×List Lsn×List Sig×Nat→Int×List Spk×List Lsn×List Sig×Nat→Sit→(Bool×Nat)→Prop)(I6:List Int×Int→Int×Nat×List Sit→Int×List Spk×List Lsn×List Sig×Nat→Int×List Spk×List Lsn×List Sig×Nat→(Int×List Spk×List Lsn×List Sig×Nat)→Prop)(m6:List Int×Int→Int×Nat×List Sit→Int×List Spk×List Lsn×List Sig×Nat→Int×List Spk×List Lsn×List Sig×Nat→(Int×List Spk×List Lsn×List Sig×Nat)→Nat):Ax Tryz.prog Km (Tap×Scn):=
 (.req 65 (1≤most∧most≤100) λh1 =>
(.callH [0] (Pn L p most h1) 65
(.req 161 (((bu L p most).1).rs.length≤1000) λh2 =>
(.callH [0] (UP L ((bu L p most).2) ((bu L p most).1) h2) 161
(.loop 0 (PP L p most) I0 m0 ([],0) [0,1,17] λ(t0:List Int×Int) b0 =>
(.br 19 (decide (t0.2<(((((aN L p most).1).es).map Edg.v).length:Int))) (.el 19 Edg.v (((aN L p most).1).es) (λR=>Rf ((((aN L p most).1).es).map Edg.v) (ck (decide (0≤t0.2)) (ck (decide (t0.2<((((aN L p most).1).es).length:Int)))
(∀x3,(((aN L p most).1).es)[t0.2.toNat]?=some x3 →
(R x3))))) λx3 =>
(.req 131 (t0.1.length≤900000) λh4 =>
(.callP (KF t0.1 x3.router h4)
(.bk 0 b0 (put t0.1 x3.router,W (t0.2+1)) [0,1,2]))))
(.req 51 ([0,100]≠[]) λh5 =>
(.callH [0] (dH L ((aN L p most).2) [0,100] h5) 51
(.cmdL (.nilB 2 5 3) (.loop 1 (PO L p most t0) (I1 t0) (m1 t0) (0,ag L ((aN L p most).2),[]) [0,1,2,131] λ(t1:Int×Nat×List Sit) b1 =>
(.br 20 (decide (t1.1<((t0.1.map AV.int).length:Int))) (.el 20 AV.int t0.1 (λR=>Rf (t0.1.map AV.int) (ck (decide (0≤t1.1)) (ck (decide (t1.1<(t0.1.length:Int)))
(∀x6,t0.1[t1.1.toNat]?=some x6 →
(R x6))))) λx6 =>
(.req 84 (0≤4∧4≤1000) λh7 =>
(.callH [0] (QG L t1.2.1 4 h7) 84
(.loop 2 (PN L p most t0 t1 x6) (I2 t0 t1 x6) (m2 t0 t1 x6) (0,((aZ L 4 t1.2.1).1).list) [0,1,2,3,100,84] λ(t2:Int×List Mem) b2 =>
(.br 22 (decide (t2.1<(((((aZ L 4 t1.2.1).1).list).map Mem.v).length:Int))) (.say (ck (cond (decide (0≤t2.1)) (decide (t2.1<((t2.2.map Mem.v).length:Int))) false)) (.el 134 Mem.v t2.2 (λR=>Rf (t2.2.map Mem.v) (ck (decide (t2.1.toNat<t2.2.length))
(∀x8,t2.2[t2.1.toNat]?=some x8 →
(R x8)))) λx8 =>
(.say (ck (cond (decide (0≤t2.1)) (decide (t2.1<((t2.2.map Mem.v).length:Int))) false)) (.st 262 Mem.v t2.2 (λy9=>(⟨y9.host,y9.grp,y9.mode,y9.srcs,W (x8.til+(W ((au [0,100] (cd L p most))-((aZ L 4 t1.2.1).1).now)))⟩:Mem)) (λR=>Rf (t2.2.map Mem.v) (ck (decide (t2.1.toNat<t2.2.length))
(∀y9,t2.2[t2.1.toNat]?=some y9→Rf (Mem.v (⟨y9.host,y9.grp,y9.mode,y9.srcs,W (x8.til+(W ((au [0,100] (cd L p most))-((aZ L 4 t1.2.1).1).now)))⟩:Mem))
((R y9))))) λy9 =>
(.say (ck (cond (decide (0≤t2.1)) (decide (t2.1<(((t2.2.set t2.1.toNat (⟨y9.host,y9.grp,y9.mode,y9.srcs,W (x8.til+(W ((au [0,100] (cd L p most))-((aZ L 4 t1.2.1).1).now)))⟩:Mem)).map Mem.v).length:Int))) false)) (.el 470 Mem.v (t2.2.set t2.1.toNat (⟨y9.host,y9.grp,y9.mode,y9.srcs,W (x8.til+(W ((au [0,100] (cd L p most))-((aZ L 4 t1.2.1).1).now)))⟩:Mem)) (λR=>Rf ((t2.2.set t2.1.toNat (⟨y9.host,y9.grp,y9.mode,y9.srcs,W (x8.til+(W ((au [0,100] (cd L p most))-((aZ L 4 t1.2.1).1).now)))⟩:Mem)).map Mem.v) (ck (decide (t2.1.toNat<(t2.2.set t2.1.toNat (⟨y9.host,y9.grp,y9.mode,y9.srcs,W (x8.til+(W ((au [0,100] (cd L p most))-((aZ L 4 t1.2.1).1).now)))⟩:Mem)).length))
(∀x10,(t2.2.set t2.1.toNat (⟨y9.host,y9.grp,y9.mode,y9.srcs,W (x8.til+(W ((au [0,100] (cd L p most))-((aZ L 4 t1.2.1).1).now)))⟩:Mem))[t2.1.toNat]?=some x10 →
(R x10)))) λx10 =>
(.say (ck (cond (decide (0≤t2.1)) (decide (t2.1<(((t2.2.set t2.1.toNat (⟨y9.host,y9.grp,y9.mode,y9.srcs,W (x8.til+(W ((au [0,100] (cd L p most))-((aZ L 4 t1.2.1).1).now)))⟩:Mem)).map Mem.v).length:Int))) false)) (.st 534 Mem.v (t2.2.set t2.1.toNat (⟨y9.host,y9.grp,y9.mode,y9.srcs,W (x8.til+(W ((au [0,100] (cd L p most))-((aZ L 4 t1.2.1).1).now)))⟩:Mem)) (λy11=>(⟨W ((W (10 * ((t1.2.2.map Sit.v).length:Int)))+x10.host),y11.grp,y11.mode,y11.srcs,y11.til⟩:Mem)) (λR=>Rf ((t2.2.set t2.1.toNat (⟨y9.host,y9.grp,y9.mode,y9.srcs,W (x8.til+(W ((au [0,100] (cd L p most))-((aZ L 4 t1.2.1).1).now)))⟩:Mem)).map Mem.v) (ck (decide (t2.1.toNat<(t2.2.set t2.1.toNat (⟨y9.host,y9.grp,y9.mode,y9.srcs,W (x8.til+(W ((au [0,100] (cd L p most))-((aZ L 4 t1.2.1).1).now)))⟩:Mem)).length))
(∀y11,(t2.2.set t2.1.toNat (⟨y9.host,y9.grp,y9.mode,y9.srcs,W (x8.til+(W ((au [0,100] (cd L p most))-((aZ L 4 t1.2.1).1).now)))⟩:Mem))[t2.1.toNat]?=some y11→Rf (Mem.v (⟨W ((W (10 * ((t1.2.2.map Sit.v).length:Int)))+x10.host),y11.grp,y11.mode,y11.srcs,y11.til⟩:Mem))
((R y11))))) λy11 =>
(.bk 2 b2 (W (t2.1+1),(t2.2.set t2.1.toNat (⟨y9.host,y9.grp,y9.mode,y9.srcs,W (x8.til+(W ((au [0,100] (cd L p most))-((aZ L 4 t1.2.1).1).now)))⟩:Mem)).set t2.1.toNat (⟨W ((W (10 * ((t1.2.2.map Sit.v).length:Int)))+x10.host),y11.grp,y11.mode,y11.srcs,y11.til⟩:Mem)) [0,1,2,3,4,5])))))))))
(.wait (.say (Rf (t2.2.map Mem.v)) (.cmd (.frzE 5 (t2.2.map Mem.v) (ab (λ_=>rfl) t2.2)) (.say (λR=>Rf (α:=List AV) (t1.2.2.map Sit.v) (Rf (α:=List AV) [.agg [.int x6,.int (au [0,100] (cd L p most)),.sl 5 (t2.2.map Mem.v) false]]
(ck (decide (t1.2.2.length+1≤1048576))
R))) (.app 166 Sit.v t1.2.2 [(⟨x6,au [0,100] (cd L p most),t2.2⟩:Sit)]
(.bk 1 b1 (W (t1.1+1),(aZ L 4 t1.2.1).2,t1.2.2++[(⟨x6,au [0,100] (cd L p most),t2.2⟩:Sit)]) [0,1,2,166])))))))))))
(.req 36 (t0.1.length≤1000) λh12 =>
(.callP (QC t0.1 h12)
(.callH [0] (N_h L t1.2.1 4) 148
(.loop 3 (PM L p most t0 t1) (I3 t0 t1) (m3 t0 t1) (Mod (al L t1.2.1) 4,((mF t0.1).1).sp,((mF t0.1).1).ls,((mF t0.1).1).fl,ag L t1.2.1) [0,1,2,3] λ(t3:Int×List Spk×List Lsn×List Sig×Nat) b3 =>
(.br 36 (decide (0<t3.1)) (.br 84 (decide (0<((t0.1.map AV.int).length:Int))) (.req 132 (Lf (⟨t3.2.1,t3.2.2.1,t3.2.2.2.1⟩:Ovl)) λh13 =>
(.callH [0] (Xo L t3.2.2.2.2 (⟨t3.2.1,t3.2.2.1,t3.2.2.2.1⟩:Ovl) h13) 132
(.bk 3 b3 (W (t3.1-1),((gz L t3.2.2.2.2 (⟨t3.2.1,t3.2.2.1,t3.2.2.2.1⟩:Ovl)).1).sp,((gz L t3.2.2.2.2 (⟨t3.2.1,t3.2.2.1,t3.2.2.2.1⟩:Ovl)).1).ls,((gz L t3.2.2.2.2 (⟨t3.2.1,t3.2.2.1,t3.2.2.2.1⟩:Ovl)).1).fl,(gz L t3.2.2.2.2 (⟨t3.2.1,t3.2.2.1,t3.2.2.2.1⟩:Ovl)).2) [0,1,2,3])))
(.bk 3 b3 (W (t3.1-1),t3.2.1,t3.2.2.1,t3.2.2.2.1,t3.2.2.2.2) [0,1,2,3]))
(.loop 4 (PL L p most t1) (I4 t0 t1 t3) (m4 t0 t1 t3) (0,t3.2.1,t3.2.2.1,t3.2.2.2.1,t3.2.2.2.2) [0,1,2,3] λ(t4:Int×List Spk×List Lsn×List Sig×Nat) b4 =>
(.br 20 (decide (t4.1<((t1.2.2.map Sit.v).length:Int))) (.say (ck (cond (decide (0≤t4.1)) (decide (t4.1<((t1.2.2.map Sit.v).length:Int))) false)) (.el 36 Sit.v t1.2.2 (λR=>Rf (t1.2.2.map Sit.v) (ck (decide (t4.1.toNat<t1.2.2.length))
(∀x14,t1.2.2[t4.1.toNat]?=some x14 →
(R x14)))) λx14 =>
(.callP (Tm (⟨x14.now,x14.list⟩:bW))
(.join 5 (PK L p most t1 t4 x14) (λ(t5:Bool×Nat)=>I5 t0 t1 t3 t4 x14 t5) (λb5=>(.br 260 (((ofW (⟨x14.now,x14.list⟩:bW)).2)==0) (.callH [0] (N_h L t4.2.2.2.2 6) 276
(.bk 5 b5 (decide (0<(Mod (al L t4.2.2.2.2) 6)),ag L t4.2.2.2.2) [0,1,2,3,52]))
(.bk 5 b5 (false,t4.2.2.2.2) [0,1,2,3,52]))) λ(t5:Bool×Nat) =>
(.br 5 t5.1 (.req 85 ((⟨t4.2.1,t4.2.2.1,t4.2.2.2.1⟩:Ovl).fl.length≤1000000) λh15 =>
(.callP (vl (⟨t4.2.1,t4.2.2.1,t4.2.2.2.1⟩:Ovl) x14.router ((ofW (⟨x14.now,x14.list⟩:bW)).1) h15)
(.br 229 (((bT (⟨t4.2.1,t4.2.2.1,t4.2.2.2.1⟩:Ovl) x14.router ((ofW (⟨x14.now,x14.list⟩:bW)).1)).2)==0) (.bk 4 b4 (W (t4.1+1),((bT (⟨t4.2.1,t4.2.2.1,t4.2.2.2.1⟩:Ovl) x14.router ((ofW (⟨x14.now,x14.list⟩:bW)).1)).1).sp,((bT (⟨t4.2.1,t4.2.2.1,t4.2.2.2.1⟩:Ovl) x14.router ((ofW (⟨x14.now,x14.list⟩:bW)).1)).1).ls,((bT (⟨t4.2.1,t4.2.2.1,t4.2.2.2.1⟩:Ovl) x14.router ((ofW (⟨x14.now,x14.list⟩:bW)).1)).1).fl,t5.2) [0,1,2,3])
(.bk 4 b4 (W (t4.1+1),t4.2.1,t4.2.2.1,t4.2.2.2.1,t5.2) [0,1,2,3]))))
(.bk 4 b4 (W (t4.1+1),t4.2.1,t4.2.2.1,t4.2.2.2.1,t5.2) [0,1,2,3]))))))
(.callH [0] (N_h L t4.2.2.2.2 4) 36
(.loop 6 (PJ L p most t1) (I6 t0 t1 t3 t4) (m6 t0 t1 t3 t4) (Mod (al L t4.2.2.2.2) 4,t4.2.1,t4.2.2.1,t4.2.2.2.1,ag L t4.2.2.2.2) [0,1,2,3] λ(t6:Int×List Spk×List Lsn×List Sig×Nat) b6 =>
(.br 36 (decide (0<t6.1)) (.req 148 (0≤((t6.2.2.2.1.map Sig.v).length:Int)∧((t6.2.2.2.1.map Sig.v).length:Int)≤1000000) λh16 =>
(.callH [0] (F5 L t6.2.2.2.2 ((t6.2.2.2.1.map Sig.v).length:Int) h16) 148
(.req 164 (qU (⟨t6.2.1,t6.2.2.1,t6.2.2.2.1⟩:Ovl) ((bx L ((t6.2.2.2.1.map Sig.v).length:Int) t6.2.2.2.2).1)) λh17 =>
(.callP (mV (⟨t6.2.1,t6.2.2.1,t6.2.2.2.1⟩:Ovl) ((bx L ((t6.2.2.2.1.map Sig.v).length:Int) t6.2.2.2.2).1) h17)
(.bk 6 b6 (W (t6.1-1),((bH (⟨t6.2.1,t6.2.2.1,t6.2.2.2.1⟩:Ovl) ((bx L ((t6.2.2.2.1.map Sig.v).length:Int) t6.2.2.2.2).1)).1).sp,((bH (⟨t6.2.1,t6.2.2.1,t6.2.2.2.1⟩:Ovl) ((bx L ((t6.2.2.2.1.map Sig.v).length:Int) t6.2.2.2.2).1)).1).ls,((bH (⟨t6.2.1,t6.2.2.1,t6.2.2.2.1⟩:Ovl) ((bx L ((t6.2.2.2.1.map Sig.v).length:Int) t6.2.2.2.2).1)).1).fl,(bx L ((t6.2.2.2.1.map Sig.v).length:Int) t6.2.2.2.2).2) [0,1,2,3])))))
(.say (Rf (t1.2.2.map Sit.v)) (.cmdL (.frzE 3 (t1.2.2.map Sit.v) (ab (λ_=>rfl) t1.2.2)) (.retH ((⟨L,t6.2.2.2.2⟩:Tap),(⟨((bu L p most).1).rs,((bu L p most).1).ls,((aN L p most).1).sub,((aN L p most).1).len,((aN L p most).1).es,t1.2.2,t6.2.1,t6.2.2.1,t6.2.2.2.1⟩:Scn)) ⟨[(4,.k,.ref 1 0)],[.box (.agg [.sl 1 (L.map AV.int) false,.int t6.2.2.2.2]),.box (.agg [.sl 2 ((((bu L p most).1).rs).map Rtr.v) false,.sl 5 ((((bu L p most).1).ls).map Lnk.v) false,.int (((aN L p most).1).sub),.int (((aN L p most).1).len),.sl 2 ((((aN L p most).1).es).map Edg.v) false,.sl 3 (t1.2.2.map Sit.v) false,.sl 5 (t6.2.1.map Spk.v) false,.sl 3 (t6.2.2.1.map Lsn.v) false,.sl 10 (t6.2.2.2.1.map Sig.v) false])]⟩ [0,1]))))))))))))))))))))))))
def Eg(L:List Int)(p:Nat)(most:Int)(I0:(List Int×Int)→Prop)(m0:(List Int×Int)→Nat)(I1:List Int×Int→(Int×Nat×List Sit)→Prop)(m1:List Int×Int→(Int×Nat×List Sit)→Nat)(I2:List Int×Int→Int×Nat×List Sit→Int→(Int×List Mem)→Prop)(m2:List Int×Int→Int×Nat×List Sit→Int→(Int×List Mem)→Nat)(I3:List Int×Int→Int×Nat×List Sit→(Int×List Spk×List Lsn×List Sig×Nat)→Prop)(m3:List Int×Int→Int×Nat×List Sit→(Int×List Spk×List Lsn×List Sig×Nat)→Nat)(I4:List Int×Int→Int×Nat×List Sit→Int×List Spk×List Lsn×List Sig×Nat→(Int×List Spk×List Lsn×List Sig×Nat)→Prop)(m4:List Int×Int→Int×Nat×List Sit→Int×List Spk×List Lsn×List Sig×Nat→(Int×List Spk×List Lsn×List Sig×Nat)→Nat)(I5:List Int×Int→Int×Nat×List Sit→Int×List Spk×List Lsn×List Sig×Nat→Int×List Spk×List Lsn×List Sig×Nat→Sit→(Bool×Nat)→Prop)(I6:List Int×Int→Int×Nat×List Sit→Int×List Spk×List Lsn×List Sig×Nat→Int×List Spk×List Lsn×List Sig×Nat→(Int×List Spk×List Lsn×List Sig×Nat)→Prop)(m6:List Int×Int→Int×Nat×List Sit→Int×List Spk×List Lsn×List Sig×Nat→Int×List Spk×List Lsn×List Sig×Nat→(Int×List Spk×List Lsn×List Sig×Nat)→Nat)(r0:Tap×Scn):=(Ay L p most I0 m0 I1 m1 I2 m2 I3 m3 I4 m4 I5 I6 m6).vc sY sZ r0
set_option maxHeartbeats 1000000 in
theorem U0(L:List Int)(p:Nat)(most:Int)(h:1≤most∧most≤8)(ok:Kn L p most):∃I0 m0 I1 m1 I2 m2 I3 m3 I4 m4 I5 I6 m6,Eg L p most I0 m0 I1 m1 I2 m2 I3 m3 I4 m4 I5 I6 m6 ((⟨L,(qg L p most).2⟩:Tap),(qg L p most).1):=by
 refine⟨λt=>fT (kh L p most).1.es (λout e=>put out e.router) [] t.2 t.1,λt=>(kh L p most).1.es.length-t.2.toNat,
  λ_ t=>∃k:Nat,t.1=k∧k≤(dM L p most).length∧t.2.2.length=k∧kg L (mC L p most) ((dM L p most).drop k) t.2.2 t.2.1=eA L p most,λ_ t=>(dM L p most).length-t.1.toNat,
  λ_ s _ t=>∃j:Nat,t.1=j∧j≤(aZ L 4 s.2.1).1.list.length∧t.2=((aZ L 4 s.2.1).1.list.take j).map (shM (mC L p most-(aZ L 4 s.2.1).1.now) (10 * s.2.2.length))++(aZ L 4 s.2.1).1.list.drop j,λ_ s _ t=>(aZ L 4 s.2.1).1.list.length-t.1.toNat,
  λ_ _ t=>∃k:Nat,t.1=k∧k≤3∧NIB (dM L p most) ⟨t.2.1,t.2.2.1,t.2.2.2.1⟩ (14440 * (3-k))∧kU L (decide (0<(dM L p most).length)) k (⟨t.2.1,t.2.2.1,t.2.2.2.1⟩,t.2.2.2.2)=GY L p most,λ_ _ t=>t.1.toNat,
  λ_ _ _ t=>∃k:Nat,t.1=k∧k≤(eA L p most).1.length∧NIB (dM L p most) ⟨t.2.1,t.2.2.1,t.2.2.2.1⟩ 43320∧mq L ((eA L p most).1.drop k) (⟨t.2.1,t.2.2.1,t.2.2.2.1⟩,t.2.2.2.2)=nX L p most,λ_ _ _ t=>(eA L p most).1.length-t.1.toNat,
  λ_ _ _ s x b=>b=if(ofW ⟨x.now,x.list⟩).2=0 then(decide (0<Mod (al L s.2.2.2.2) 6),ag L s.2.2.2.2)else(false,s.2.2.2.2),
  λ_ _ _ _ t=>∃k:Nat,t.1=k∧k≤3∧NIB (dM L p most) ⟨t.2.1,t.2.2.1,t.2.2.2.1⟩ (43320+14403 * (3-k))∧og L k (⟨t.2.1,t.2.2.1,t.2.2.2.1⟩,t.2.2.2.2)=Aw L p most,λ_ _ _ _ t=>t.1.toNat,?_⟩
 dsimp only[Eg,Ay,Km,aN,cd,Ax.vp,Ax.vc];simp only[vcU,rfU,List.length_map]
 obtain⟨t1,t2,t3⟩:=nH (L:=L) (p:=p) (most:=most) (by omega)
 have hP:j3 L (bu L p most).2 (bu L p most).1=kh L p most:=rfl
 have hN:au [0,100] (al L (kh L p most).2)=mC L p most:=rfl
 have hp:=Ei (L:=L) (p:=p) h
 have hes:=hp.es
 obtain⟨hR,hR8⟩:=mS (L:=L) (p:=p) h
 have hnow:=Ej (L:=L) (p:=p) (most:=most)
 obtain⟨hS,hSr⟩:=Eh (L:=L) (p:=p) h
 have hS8:=Ko (L:=L) (p:=p) h
 rw[hP,hN]
 refine⟨by omega,by omega,fT.zero,?_⟩
 rintro⟨rts,i⟩ h0
 simp only at h0 ⊢
 have hlen:=h0.len (f:=List.length) (a:=0) (b:=1) (by simp) λs x _=>fG s x.router
 refine⟨λc=>⟨h0.idx,c,λx hx=>⟨?_,h0.step (by omega) hx rfl⟩⟩,λc=>?_⟩
 ·have:=ay hx;omega
 have e:rts=dM L p most:=h0.done c
 subst e
 clear h0 hlen
 refine⟨by simp,⟨0,rfl,by omega,rfl,rfl⟩,?_⟩
 rintro⟨i1,q1,sits⟩ ⟨k1,hi1,hk1,hl1,hr1⟩
 simp only at hi1 hl1 hr1 ⊢
 subst hi1
 simp only[Int.toNat_natCast]
 refine⟨λc1=>⟨by omega,by omega,λr hr=>⟨by omega,⟨0,rfl,by omega,by simp⟩,?_⟩⟩,λc1=>?_⟩
 ·have hk1':k1<(dM L p most).length:=by omega
  obtain⟨m1,m2,m3,m4⟩:=xn L (n:=4) q1 (by omega)
  rintro⟨j,ml⟩ ⟨k2,hj,hk2,hml⟩
  simp only at hj hml ⊢
  subst hj
  simp only[Int.toNat_natCast]
  generalize hM:aZ L 4 q1=M at *
  have hmll:ml.length=M.1.list.length:=by rw[hml];simp;omega
  refine⟨λc2=>?_,λc2=>?_⟩
  ·have hk2':k2<M.1.list.length:=by omega
   have hb:(bif decide ((0:Int)≤(k2:Int))then decide ((k2:Int)<ml.length)else false)=true:=eG (by omega) (by omega)
   have hg:ml[k2]?=some M.1.list[k2]:=by rw[hml];exact Rw hk2'
   have hmk:=m2 _ (List.getElem_mem hk2')
   have t1:=hmk.til;have t2:=hmk.host
   generalize hx0:M.1.list[k2]=x0 at *
   refine⟨hb,by omega,λx8 e8=>⟨hb,by omega,λx9 e9=>?_⟩⟩
   rw[hg]at e8 e9;cases e8;cases e9
   refine⟨eG (by omega) (by rw[List.length_set];omega),by rw[List.length_set];omega,λx10 e10=>⟨eG (by omega) (by rw[List.length_set];omega),by rw[List.length_set];omega,λx11 e11=>?_⟩⟩
   rw[List.getElem?_set_self (by omega)]at e10 e11;cases e10;cases e11
   have w1:W (mC L p most-M.1.now)=mC L p most-M.1.now:=bB (by omega)
   have w2:W (x0.til+(mC L p most-M.1.now))=x0.til+(mC L p most-M.1.now):=bB (by omega)
   have w3:W (10 * (sits.length:Int))=10 * (sits.length:Int):=bB (by omega)
   have w4:W (10 * (sits.length:Int)+x0.host)=10 * (sits.length:Int)+x0.host:=bB (by omega)
   rw[w1,w2,w3,w4,av (n:=M.1.list.length) hk2' (by omega),List.set_set]
   refine⟨⟨k2+1,rfl,by omega,?_⟩,by omega⟩
   rw[hml,←P8 hk2',hx0]
   rfl
  ·have:k2=M.1.list.length:=by omega
   subst this
   rw[List.take_of_length_le (Nat.le_refl _),List.drop_of_length_le (Nat.le_refl _),List.append_nil]at hml
   rw[av (n:=(dM L p most).length) hk1' (by omega)]
   refine⟨by omega,⟨k1+1,rfl,by omega,by simp[hl1],?_⟩,by omega⟩
   have hd:=List.drop_eq_getElem_cons hk1'
   have hre:(dM L p most)[k1]=r:=by rw[List.getElem?_eq_getElem hk1']at hr;exact Option.some.inj hr
   rw[hd,hre,kg,hM]at hr1
   rw[hml];exact hr1
 have:k1=(dM L p most).length:=by omega
 subst this
 rw[List.drop_of_length_le (Nat.le_refl _),kg]at hr1
 have hs1:sits=(eA L p most).1:=congrArg Prod.fst hr1
 have hs2:q1=(eA L p most).2:=congrArg Prod.snd hr1
 subst hs1;subst hs2
 clear hr1
 have h4:=bg (x:=al L (eA L p most).2) (n:=4) (by decide)
 have z0:=El (L:=L) (p:=p) h
 have hA:GY L p most=kU L (decide (0<(dM L p most).length)) (Mod (al L (eA L p most).2) 4).toNat ((mF (dM L p most)).1,ag L (eA L p most).2):=rfl
 generalize (mF (dM L p most)).1=o0 at hA z0 ⊢
 refine⟨by omega,⟨(Mod (al L (eA L p most).2) 4).toNat,by omega,by omega,?_,hA.symm⟩,?_⟩
 ·exact z0.more (by omega)
 rintro⟨c3,sp3,ls3,fl3,q3⟩ ⟨k3,hc3,hk3,hw3,hr3⟩
 simp only at hc3 hw3 hr3 ⊢
 subst hc3
 have hfl3:=hw3.2
 simp only at hfl3
 refine⟨λd=>⟨λe=>⟨⟨?_,by show fl3.length≤300000;omega⟩,?_⟩,λe=>?_⟩,λd=>?_⟩
 ·have:=hw3.1.spl;show 0<sp3.length;simp only at this;omega
 ·rw[dw (by omega) (by omega)]
  obtain⟨k',rfl⟩:∃k',k3=k'+1:=⟨k3-1,by omega⟩
  rw[kU,decide_eq_true (by omega),if_pos rfl]at hr3
  simp only[Nat.add_sub_cancel]
  refine⟨⟨k',rfl,by omega,?_,?_⟩,by omega⟩
  ·exact(hw3.act (L:=L) (p:=q3)).more (by omega)
  ·rw[decide_eq_true (by omega)];exact hr3
 ·rw[dw (by omega) (by omega)]
  obtain⟨k',rfl⟩:∃k',k3=k'+1:=⟨k3-1,by omega⟩
  rw[kU,decide_eq_false (by omega),if_neg (by simp)]at hr3
  simp only[Nat.add_sub_cancel]
  refine⟨⟨k',rfl,by omega,hw3.more (by omega),?_⟩,by omega⟩
  rw[decide_eq_false (by omega)];exact hr3
 have:k3=0:=by omega
 subst this
 rw[kU]at hr3
 refine⟨⟨0,rfl,by omega,?_,?_⟩,?_⟩
 ·exact hw3.more (by omega)
 ·rw[List.drop_zero,hr3];rfl
 clear hw3 hr3 hfl3
 rintro⟨i4,sp4,ls4,fl4,q4⟩ ⟨k4,hi4,hk4,hw4,hr4⟩
 simp only at hi4 hw4 hr4 ⊢
 subst hi4
 simp only[Int.toNat_natCast]
 have hfl4:=hw4.2
 simp only at hfl4
 refine⟨λd=>⟨eG (by omega) d,by omega,λx hx=>⟨⟨λe=>?_,λe=>?_⟩,?_⟩⟩,λd=>?_⟩
 ·rw[if_pos (eq_of_beq e)]
 ·rw[if_neg (by simpa using e)]
 ·have hk4':=ay hx
  have hxe:(eA L p most).1[k4]=x:=by rw[List.getElem?_eq_getElem hk4']at hx;exact Option.some.inj hx
  have hd:=List.drop_eq_getElem_cons hk4'
  rw[hd,hxe,mq]at hr4
  have hw5:=za (L:=L) (x:=x) (s:=(⟨sp4,ls4,fl4⟩,q4)) hw4
  rw[av (n:=(eA L p most).1.length) hk4' (by omega)]
  have fin:∀{o:Ovl} {q:Nat},mr L x (⟨sp4,ls4,fl4⟩,q4)=(o,q)→(∃k:Nat,((k4+1:Nat):Int)=k∧k≤(eA L p most).1.length∧NIB (dM L p most) ⟨o.sp,o.ls,o.fl⟩ 43320∧mq L ((eA L p most).1.drop k) (⟨o.sp,o.ls,o.fl⟩,q)=nX L p most) ∧
    (eA L p most).1.length-(((k4+1:Nat):Int)).toNat<(eA L p most).1.length-k4:=by
   intro o q e
   rw[e]at hr4 hw5
   exact⟨⟨k4+1,rfl,by omega,hw5.more (by omega),hr4⟩,by omega⟩
  rintro⟨b5,q5⟩ hb5
  simp only at hb5 ⊢
  by_cases e1:(ofW ⟨x.now,x.list⟩).2=0
  ·rw[if_pos e1]at hb5
   simp only[Prod.mk.injEq]at hb5
   obtain⟨rfl,rfl⟩:=hb5
   refine⟨λe2=>⟨by omega,λe3=>fin ?_,λe3=>fin (o:=⟨sp4,ls4,fl4⟩) ?_⟩,λe2=>fin (o:=⟨sp4,ls4,fl4⟩) ?_⟩
   ·rw[mr,if_pos e1,if_pos (of_decide_eq_true e2),orO,if_neg (not_not_intro (eq_of_beq e3))]
   ·rw[mr,if_pos e1,if_pos (of_decide_eq_true e2),orO,if_pos (by simpa using e3)]
   ·rw[mr,if_pos e1,if_neg (of_decide_eq_false e2)]
  ·rw[if_neg e1]at hb5
   simp only[Prod.mk.injEq]at hb5
   obtain⟨rfl,rfl⟩:=hb5
   refine⟨λe2=>by simp at e2,λe2=>fin (o:=⟨sp4,ls4,fl4⟩) ?_⟩
   rw[mr,if_neg e1]
 have:k4=(eA L p most).1.length:=by omega
 subst this
 rw[List.drop_of_length_le (Nat.le_refl _),mq]at hr4
 have hz:(⟨sp4,ls4,fl4⟩:Ovl)=(nX L p most).1:=congrArg Prod.fst hr4
 have hq:q4=(nX L p most).2:=congrArg Prod.snd hr4
 have z5:=Ek (L:=L) (p:=p) h
 rw[←hz]at z5
 have h6:=bg (x:=al L q4) (n:=4) (by decide)
 refine⟨⟨(Mod (al L q4) 4).toNat,by omega,by omega,z5.more (by omega),?_⟩,?_⟩
 ·rw[hz,hq];rfl
 rintro⟨c6,sp6,ls6,fl6,q6⟩ ⟨k6,hc6,hk6,hw6,hr6⟩
 simp only at hc6 hw6 hr6 ⊢
 subst hc6
 have hfl6:=hw6.2
 simp only at hfl6
 refine⟨λd=>⟨by omega,⟨by show fl6.length≤400000;omega,?_⟩,?_⟩,λd=>?_⟩
 ·have:=eY (L:=L) (n:=fl6.length) (p:=q6);omega
 ·rw[dw (by omega) (by omega)]
  obtain⟨k',rfl⟩:∃k',k6=k'+1:=⟨k6-1,by omega⟩
  rw[og]at hr6
  simp only[Nat.add_sub_cancel]
  have hf:=eY (L:=L) (n:=fl6.length) (p:=q6)
  exact⟨⟨k',rfl,by omega,((hw6.round _).2).more (by omega),hr6⟩,by omega⟩
 ·have:k6=0:=by omega
  subst this
  rw[og]at hr6
  rw[qg,←hr6]
def U6(L:List Int)(p:Nat)(most:Int)(h:1≤most∧most≤8):HC Tryz.prog:=⟨8,[.k,.k],[.ref 0 0,.int most],[.box (.agg [.sl 1 (L.map AV.int) false,.int p])],sY ((⟨L,(qg L p most).2⟩:Tap),(qg L p most).1),sZ ((⟨L,(qg L p most).2⟩:Tap),(qg L p most).1),bl.of_okh λok ok2=>have ok:Kn L p most:=⟨ok,ok2 _ (by simp)⟩;(U0 L p most h ok).elim λI0 h=>h.elim λm0 h=>h.elim λI1 h=>h.elim λm1 h=>h.elim λI2 h=>h.elim λm2 h=>h.elim λI3 h=>h.elim λm3 h=>h.elim λI4 h=>h.elim λm4 h=>h.elim λI5 h=>h.elim λI6 h=>h.elim λm6 h=>cC (sh:=(.a [(.s 2),(.s 5),.k,.k,(.s 2),(.s 3),(.s 5),(.s 3),(.s 10)])) (enc:=sY) (hB:=sZ) (a:=(Ay L p most I0 m0 I1 m1 I2 m2 I3 m3 I4 m4 I5 I6 m6).an) h (by kernel_rfl),ai (by kernel_rfl),fk.of (by simp[hcB,cJ,AV.belB,allB,eI,dQ,sY,sZ,ab (v:=AV.int) (λ_=>rfl)])⟩
def ed(f:Flw):Bool:=decide (1≤f.src∧f.src≤99) && decide (1≤f.grp∧f.grp≤99)
def Ph(f:Flw):=okL [.agg [.int f.src,.int f.grp]]
def sF(r:Bool):AV:=.bool r
def sE(f:Flw):Ax Tryz.prog noS (Bool):=
 (.br 96 (decide (1≤f.src)) (.br 176 (decide (f.src≤99)) (.br 256 (decide (1≤f.grp)) (.ret (decide (f.grp≤99)))
(.ret (false)))
(.ret (false)))
(.ret (false)))
def wa(f:Flw)(r0:Bool):=(sE f).vp sF r0
theorem Pg(f:Flw)(ok:Ph f):wa f (ed f):=by
 dsimp only[wa,sE,noS,Ax.vp,Ax.vc];simp only[vcU,rfU,List.length_map]
 refine⟨λa=>⟨λb=>⟨λc=>?_,λc=>?_⟩,λb=>?_⟩,λa=>?_⟩<;>simp[ed, *]
def sG(f:Flw):PC Tryz.prog:=⟨52,[.k],[.agg [.int f.src,.int f.grp]],sF (ed f),ao.of_ok λok=>aj (sh:=.k) (enc:=sF) (a:=(sE f).an) (Pg f ok) (by kernel_rfl) (AV.pureB_ok rfl),ai (by kernel_rfl)⟩
def inP(n a b:Int):Bool:=decide (a≤n) && decide (n≤b)
def inP_a(n:Int)(least:Int)(most:Int):=okL [.int n,.int least,.int most]
def Mh(r:Bool):AV:=.bool r
def Mf(n:Int)(least:Int)(most:Int):Ax Tryz.prog noS (Bool):=
 (.br 80 (decide (least≤n)) (.ret (decide (n≤most)))
(.ret (false)))
def Mg(n:Int)(least:Int)(most:Int)(r0:Bool):=(Mf n least most).vp Mh r0
theorem inP_p(n a b:Int)(ok:inP_a n a b):Mg n a b (inP n a b):=by
 dsimp only[Mg,Mf,noS,Ax.vp,Ax.vc];simp only[vcU,rfU,List.length_map]
 refine⟨λc=>?_,λc=>?_⟩<;>simp[inP,c]
def Fm(n:Int)(least:Int)(most:Int):PC Tryz.prog:=⟨92,[.k,.k,.k],[.int n,.int least,.int most],Mh (inP n least most),ao.of_ok λok=>aj (sh:=.k) (enc:=Mh) (a:=(Mf n least most).an) (inP_p n least most ok) (by kernel_rfl) (AV.pureB_ok rfl),ai (by kernel_rfl)⟩
theorem md{n a b:Int}:(!inP n a b)=true↔¬(a≤n∧n≤b):=by
 unfold inP
 by_cases h1:a≤n<;>by_cases h2:n≤b<;>simp[h1,h2]
theorem iw{n a b:Int}:(!inP n a b)=false↔a≤n∧n≤b:=by
 unfold inP
 by_cases h1:a≤n<;>by_cases h2:n≤b<;>simp[h1,h2]
def bw(n:Int):Bool:=decide (n=8∨n=16∨n=32∨n=64)
def OZ(n:Int):=okL [.int n]
def sr(r:Bool):AV:=.bool r
def sq(n:Int):Ax Tryz.prog noS (Bool):=
 (.br 64 (n==8) (.ret (true))
(.br 128 (n==16) (.ret (true))
(.br 192 (n==32) (.ret (true))
(.ret (n==64)))))
def vT(n:Int)(r0:Bool):=(sq n).vp sr r0
theorem OY(n:Int)(ok:OZ n):vT n (bw n):=by
 dsimp only[vT,sq,noS,Ax.vp,Ax.vc];simp only[vcU,rfU,List.length_map]
 refine⟨λc=>?_,λc=>⟨λd=>?_,λd=>⟨λe=>?_,λe=>?_⟩⟩⟩
 ·rw[bw,decide_eq_true (.inl (eq_of_beq c))]
 ·rw[bw,decide_eq_true (.inr (.inl (eq_of_beq d)))]
 ·rw[bw,decide_eq_true (.inr (.inr (.inl (eq_of_beq e))))]
 ·have c:¬n=8:=by simpa using c
  have d:¬n=16:=by simpa using d
  have e:¬n=32:=by simpa using e
  rw[bw,Bool.eq_iff_iff,beq_iff_eq,decide_eq_true_eq]
  simp[c,d,e]
def mO(n:Int):PC Tryz.prog:=⟨93,[.k],[.int n],sr (bw n),ao.of_ok λok=>aj (sh:=.k) (enc:=sr) (a:=(sq n).an) (OY n ok) (by kernel_rfl) (AV.pureB_ok rfl),ai (by kernel_rfl)⟩
def lM(y x:Edg):Bool:=y.router==x.router
def Wy(y:Edg)(x:Edg):=okL [.agg [.int y.router,.int y.id],.rptr (.agg [.int x.router,.int x.id]) 0]
def Cm(r:Bool):AV:=.bool r
def Ck(y:Edg)(x:Edg):Ax Tryz.prog noS (Bool):=
 (.ret (y.router==x.router))
def FF(y:Edg)(x:Edg)(r0:Bool):=(Ck y x).vp Cm r0
theorem Ww(y x:Edg)(ok:Wy y x):FF y x (lM y x):=by
 dsimp only[FF,Ck,noS,Ax.vp,Ax.vc];simp only[vcU,rfU,List.length_map]
 rfl
def Wx(y:Edg)(x:Edg):PC Tryz.prog:=⟨95,[.k,.k],[.agg [.int y.router,.int y.id],.rptr (.agg [.int x.router,.int x.id]) 0],Cm (lM y x),ao.of_ok λok=>aj (sh:=.k) (enc:=Cm) (a:=(Ck y x).an) (Ww y x ok) (by kernel_rfl) (AV.pureB_ok rfl),ai (by kernel_rfl)⟩
def FH(s:List Edg)(f:Edg):=okL [.sl 2 (s.map Edg.v) false,.func 95 [.rptr (.agg [.int f.router,.int f.id]) 0]]
def Ng(s:List Edg)(f:Edg)(t0:Int):NF:=⟨[(0,.k,.sl 2 (s.map Edg.v) false),(1,.k,.func 95 [.rptr (.agg [.int f.router,.int f.id]) 0]),(7,.k,.int ((s.map Edg.v).length:Int)),(8,.k,.int t0)],[]⟩
@[reducible] def FG:Nat→Type
 | 0=>Int
 | _=>Unit
def uM(r:Int):AV:=.int r
def uL(s:List Edg)(f:Edg)(I0:Int→Prop)(m0:Int→Nat):Ax Tryz.prog FG (Int):=
 (.loop 0 (Ng s f) I0 m0 ((0):Int) [] λ(t0:Int) b0 =>
(.br 16 (decide (t0<((s.map Edg.v).length:Int))) (.el 96 Edg.v s (λR=>Rf (s.map Edg.v) (ck (decide (0≤t0)) (ck (decide (t0<(s.length:Int)))
(∀x1,s[t0.toNat]?=some x1 →
(R x1))))) λx1 =>
(.callP (Wx x1 f)
(.br 144 (lM x1 f) (.ret (t0))
(.bk 0 b0 ((W (t0+1)):Int) []))))
(.ret (-1))))
def yA(s:List Edg)(f:Edg)(I0:Int→Prop)(m0:Int→Nat)(r0:Int):=(uL s f I0 m0).vp uM r0
theorem RK(s:List Edg)(f:Edg)(ok:FH s f):∃I m,yA s f I m (i7 (λy=>lM y f) s):=by
 refine⟨λt=>bP s (λy=>lM y f=false) t,λt=>s.length-t.toNat,?_⟩
 simp only[FH,okU,Blk.ok,aK,List.length_map]at ok
 dsimp only[yA,uL,FG,Ax.vp,Ax.vc];simp only[vcU,rfU,List.length_map]
 exact⟨bP.zero,λt h=>⟨λc=>⟨h.idx,c,λx hx=>⟨λq=>h.found hx q,λq=>h.step (by omega) hx q⟩⟩,λc=>h.lost c⟩⟩
def RL(s:List Edg)(f:Edg):PC Tryz.prog:=⟨129,[(.s 2),.k],[.sl 2 (s.map Edg.v) false,.func 95 [.rptr (.agg [.int f.router,.int f.id]) 0]],uM (i7 (λy=>lM y f) s),ao.of_ok λok=>(RK s f ok).elim λI0 h=>h.elim λm0 h=>aj (sh:=.k) (enc:=uM) (a:=(uL s f I0 m0).an) h (by kernel_rfl) (AV.pureB_ok rfl),ai (by kernel_rfl)⟩
def RO(s:List Edg)(f:Edg):=okL [.sl 2 (s.map Edg.v) false,.func 95 [.rptr (.agg [.int f.router,.int f.id]) 0]]
def uO(r:Bool):AV:=.bool r
def uN(s:List Edg)(f:Edg):Ax Tryz.prog noS (Bool):=
 (.callP (RL s f)
(.ret (decide (0≤(i7 (λy=>lM y f) s)))))
def yB(s:List Edg)(f:Edg)(r0:Bool):=(uN s f).vp uO r0
theorem RM(s:List Edg)(f:Edg)(ok:RO s f):yB s f (s.any λy=>lM y f):=by
 dsimp only[yB,uN,noS,Ax.vp,Ax.vc];simp only[vcU,rfU,List.length_map]
 exact kE _ _
def RN(s:List Edg)(f:Edg):PC Tryz.prog:=⟨94,[(.s 2),.k],[.sl 2 (s.map Edg.v) false,.func 95 [.rptr (.agg [.int f.router,.int f.id]) 0]],uO (s.any λy=>lM y f),ao.of_ok λok=>aj (sh:=.k) (enc:=uO) (a:=(uN s f).an) (RM s f ok) (by kernel_rfl) (AV.pureB_ok rfl),ai (by kernel_rfl)⟩
def Nl(e:Edg):Prop:=(1≤e.id∧e.id≤256)∧1≤e.router∧e.router≤99
instance (e:Edg):Decidable (Nl e):=by unfold Nl;infer_instance
def j5(p:Pln):Prop:=(0≤p.sub∧p.sub≤7)∧(bw p.len=true∨p.len=0∧p.es=[])∧p.es.length≤24
instance (p:Pln):Decidable (j5 p):=by unfold j5;infer_instance
def oq(es:List Edg):Prop:=(∀e∈es,Nl e)∧(es.map Edg.router).Nodup∧(es.map Edg.id).Pairwise (·<·)
instance (es:List Edg):Decidable (oq es):=by unfold oq;infer_instance
def bI(p:Pln):Bool:=decide (j5 p) && decide (oq p.es)
def RY(es:List Edg)(j:Nat)(e:Edg):Prop:=Nl e∧((es.take j).any λy=>lM y e)=false∧∀e',0<j→es[j-1]?=some e'→e'.id<e.id
theorem ku{es:List Edg}:oq es↔∀j e,es[j]?=some e→RY es j e:=by
 constructor
 ·rintro⟨h1,h2,h3⟩ j e he
  have hj:=ay he
  rw[List.getElem?_eq_getElem hj]at he
  have he:=Option.some.inj he
  rw[List.nodup_iff_pairwise_ne,List.pairwise_map,List.pairwise_iff_getElem]at h2
  rw[List.pairwise_map,List.pairwise_iff_getElem]at h3
  refine⟨h1 e (he ▸ List.getElem_mem hj),?_,λe' h0 he'=>?_⟩
  ·rw[List.any_eq_false]
   intro y hy
   obtain⟨i,hi,rfl⟩:=List.getElem_of_mem hy
   have hi':i<j:=by simp at hi;omega
   rw[List.getElem_take]
   have:=h2 i j (by omega) hj hi'
   rw[he]at this
   simpa[lM]using this
  ·rw[List.getElem?_eq_getElem (by omega)]at he'
   have:=h3 (j-1) j (by omega) hj (by omega)
   rw[he,Option.some.inj he']at this
   exact this
 ·intro h
  refine⟨λe he=>?_,?_,?_⟩
  ·obtain⟨j,hj⟩:=List.getElem?_of_mem he
   exact(h j e hj).1
  ·rw[List.nodup_iff_pairwise_ne,List.pairwise_map,List.pairwise_iff_getElem]
   intro i j hi hj hij
   have:=(h j _ (List.getElem?_eq_getElem hj)).2.1
   rw[List.any_eq_false]at this
   have:=this es[i] (List.mem_take_iff_getElem.mpr ⟨i,by omega,rfl⟩)
   simpa[lM]using this
  ·rw[List.pairwise_map]
   refine jh.done (l:=es) (R:=λa b=>a.id<b.id) (t:=((es.length+1:Nat):Int)) ⟨es.length+1,rfl,by omega,by omega,λj x y hj hx hy=>?_⟩ (by omega) λx y z q r=>Int.lt_trans q r
   exact(h (j+1) y hy).2.2 x (by omega) (by simpa using hx)
def D4(p:Pln):=okL [.agg [.int p.sub,.int p.len,.sl 2 (p.es.map Edg.v) false]]
def IZ(p:Pln)(t0:Bool):NF:=⟨[(1,.k,.ref 0 0),(32,.k,.bool t0)],[.box (.agg [.int p.sub,.int p.len,.sl 2 (p.es.map Edg.v) false])]⟩
def IY(p:Pln)(t1:Int):NF:=⟨[(1,.k,.ref 0 0),(34,.k,.sl 2 (p.es.map Edg.v) false),(35,.k,.int ((p.es.map Edg.v).length:Int)),(36,.k,.int t1)],[.box (.agg [.int p.sub,.int p.len,.sl 2 (p.es.map Edg.v) false])]⟩
def IX(p:Pln)(t1:Int)(t2:Bool):NF:=⟨[(1,.k,.ref 0 0),(34,.k,.sl 2 (p.es.map Edg.v) false),(35,.k,.int ((p.es.map Edg.v).length:Int)),(36,.k,.int t1),(75,.k,.bool t2)],[.box (.agg [.int p.sub,.int p.len,.sl 2 (p.es.map Edg.v) false])]⟩
@[reducible] def D2:Nat→Type
 | 0=>Bool
 | 1=>Int
 | 2=>Bool
 | _=>Unit
def sj(r:Bool):AV:=.bool r
def si(p:Pln)(I0:Bool→Prop)(I1:Bool→Int→Prop)(m1:Bool→Int→Nat)(I2:Bool→Int→Edg→Bool→Prop):Ax Tryz.prog D2 (Bool):=
 (.pass (.pass (.join 0 (IZ p) (λ(t0:Bool)=>I0 t0) (λb0=>(.callP (Fm p.sub 0 7)
(.br 112 (!(inP p.sub 0 7)) (.bk 0 b0 ((true):Bool) [0])
(.callP (mO p.len)
(.br 192 (!(bw p.len)) (.br 256 (p.len != 0) (.bk 0 b0 ((true):Bool) [0])
(.br 384 (decide (0<((p.es.map Edg.v).length:Int))) (.bk 0 b0 ((true):Bool) [0])
(.bk 0 b0 ((decide (24<((p.es.map Edg.v).length:Int))):Bool) [0])))
(.bk 0 b0 ((decide (24<((p.es.map Edg.v).length:Int))):Bool) [0])))))) λ(t0:Bool) =>
(.br 1 t0 (.ret (false))
(.loop 1 (IY p) (I1 t0) (m1 t0) ((0):Int) [0] λ(t1:Int) b1 =>
(.br 17 (decide (t1<((p.es.map Edg.v).length:Int))) (.el 33 Edg.v p.es (λR=>Rf (p.es.map Edg.v) (ck (decide (0≤t1)) (ck (decide (t1<(p.es.length:Int)))
(∀x1,p.es[t1.toNat]?=some x1 →
(R x1))))) λx1 =>
(.say (λR=>Rf (α:=List AV) (p.es.map Edg.v) (ck (c9 p.es.length 0 t1 (p.es.length:Int))
R)) (.sub 161 Edg.v p.es false
(.callP (RN ((p.es.take t1.toNat).drop 0) x1)
(.say (ck (bK [[.agg [.int x1.router,.int x1.id]]])) (.join 2 (IX p t1) (λ(t2:Bool)=>I2 t0 t1 x1 t2) (λb2=>(.callP (Fm x1.id 1 256)
(.br 305 (!(inP x1.id 1 256)) (.bk 2 b2 ((true):Bool) [0])
(.callP (Fm x1.router 1 99)
(.br 401 (!(inP x1.router 1 99)) (.bk 2 b2 ((true):Bool) [0])
(.br 449 ((((p.es.take t1.toNat).drop 0)).any λy=>lM y x1) (.bk 2 b2 ((true):Bool) [0])
(.br 497 (decide (0<t1)) (.el 561 Edg.v p.es (λR=>Rf (p.es.map Edg.v) (ck (decide (0≤(W (t1-1)))) (ck (decide ((W (t1-1))<(p.es.length:Int)))
(∀x2,p.es[(W (t1-1)).toNat]?=some x2 →
(R x2))))) λx2 =>
(.bk 2 b2 ((decide (x1.id≤x2.id)):Bool) [0]))
(.bk 2 b2 ((false):Bool) [0])))))))) λ(t2:Bool) =>
(.br 1 t2 (.ret (false))
(.bk 1 b1 ((W (t1+1)):Int) [0]))))))))
(.ret (true))))))))
def vQ(p:Pln)(I0:Bool→Prop)(I1:Bool→Int→Prop)(m1:Bool→Int→Nat)(I2:Bool→Int→Edg→Bool→Prop)(r0:Bool):=(si p I0 I1 m1 I2).vp sj r0
theorem OV(p:Pln)(ok:D4 p):∃I0 I1 m1 I2,vQ p I0 I1 m1 I2 (bI p):=by
 refine⟨λb=>b=decide (¬j5 p),λ_ t=>∃k:Nat,t=k∧k≤p.es.length∧∀j e,j<k→p.es[j]?=some e→RY p.es j e,λ_ t=>p.es.length-t.toNat,λ_ t x b=>b=true↔¬RY p.es t.toNat x,?_⟩
 simp only[D4,okU,Blk.ok,aK,List.length_map]at ok
 dsimp only[vQ,si,D2,Ax.vp,Ax.vc];simp only[vcU,rfU,List.length_map]
 have hes:p.es=[]↔¬0<(p.es.length:Int):=by rw[←List.length_eq_zero_iff];omega
 refine⟨⟨λc=>?_,λc=>⟨λd=>⟨λe=>?_,λe=>⟨λg=>?_,λg=>?_⟩⟩,λd=>?_⟩⟩,?_⟩
 ·have c:¬(0≤p.sub∧p.sub≤7):=md.mp c
  exact(decide_eq_true (show ¬j5 p from λq=>c q.1)).symm
 ·have d:bw p.len=false:=by simpa using d
  have e:p.len≠0:=by simpa using e
  exact(decide_eq_true (show ¬j5 p from λq=>by
   rcases q.2.1 with r|r
   ·rw[d]at r;cases r
   ·exact e r.1)).symm
 ·have d:bw p.len=false:=by simpa using d
  exact(decide_eq_true (show ¬j5 p from λq=>by
   rcases q.2.1 with r|r
   ·rw[d]at r;cases r
   ·exact hes.mp r.2 g)).symm
 ·have c:0≤p.sub∧p.sub≤7:=iw.mp c
  have e:p.len=0:=by simpa using e
  rw[decide_eq_decide]
  unfold j5
  rw[and_iff_right c,and_iff_right (.inr ⟨e,hes.mpr g⟩)]
  omega
 ·have c:0≤p.sub∧p.sub≤7:=iw.mp c
  have d:bw p.len=true:=by simpa using d
  rw[decide_eq_decide]
  unfold j5
  rw[and_iff_right c,and_iff_right (.inl d)]
  omega
 rintro _ rfl
 refine⟨λc=>?_,λc=>⟨⟨0,rfl,by omega,λj e h=>by omega⟩,?_⟩⟩
 ·rw[bI,decide_eq_false (of_decide_eq_true c)];rfl
 have c:=Classical.not_not.mp (of_decide_eq_false c)
 have hl:=c.2.2
 rintro _ ⟨k,rfl,hk,h⟩
 simp only[Int.toNat_natCast]
 refine⟨λd=>⟨by omega,d,λx hx=>⟨by simp[c9];omega,rfl,?_,?_⟩⟩,λd=>?_⟩
 ·rw[List.drop_zero]
  refine⟨λe1=>?_,λe1=>⟨λe2=>?_,λe2=>⟨λe3=>?_,λe3=>⟨λe4=>?_,λe4=>?_⟩⟩⟩⟩
  ·have e1:¬(1≤x.id∧x.id≤256):=md.mp e1
   exact iff_of_true trivial λq=>e1 q.1.1
  ·have e2:¬(1≤x.router∧x.router≤99):=md.mp e2
   exact iff_of_true trivial λq=>e2 q.1.2
  ·exact iff_of_true trivial λq=>by rw[q.2.1]at e3;cases e3
  ·have e1:1≤x.id∧x.id≤256:=iw.mp e1
   have e2:1≤x.router∧x.router≤99:=iw.mp e2
   rw[dw (by omega) (by omega)]
   refine⟨by omega,by omega,λy hy=>?_⟩
   rw[Int.toNat_natCast]at hy
   constructor
   ·exact λq r=>by have:=r.2.2 y (by omega) hy;omega
   ·intro q
    refine Classical.byContradiction λr=>q ⟨⟨e1,e2⟩,e3,λy' _ hy'=>?_⟩
    rw[hy]at hy';cases hy';omega
  ·have e1:1≤x.id∧x.id≤256:=iw.mp e1
   have e2:1≤x.router∧x.router≤99:=iw.mp e2
   exact iff_of_false Bool.false_ne_true λq=>q ⟨⟨e1,e2⟩,e3,λy' h0 _=>by omega⟩
 ·intro b hb
  refine⟨λe=>?_,λe=>?_⟩
  ·have:¬oq p.es:=λq=>hb.mp e (ku.mp q k x hx)
   rw[bI,decide_eq_false this,Bool.and_false]
  ·have hg:RY p.es k x:=Classical.not_not.mp λq=>by rw[hb.mpr q]at e;cases e
   rw[av (n:=p.es.length) (by omega) (by omega)]
   refine⟨⟨k+1,rfl,by omega,λj y hj hy=>?_⟩,by omega⟩
   by_cases e':j=k
   ·subst e';rw[hx]at hy;cases hy;exact hg
   ·exact h j y (by omega) hy
 ·have:oq p.es:=ku.mpr λj e he=>h j e (by have:=ay he;omega) he
  rw[bI,decide_eq_true c,decide_eq_true this];rfl
def D3(p:Pln):PC Tryz.prog:=⟨51,[(.a [.k,.k,(.s 2)])],[.agg [.int p.sub,.int p.len,.sl 2 (p.es.map Edg.v) false]],sj (bI p),ao.of_ok λok=>(OV p ok).elim λI0 h=>h.elim λI1 h=>h.elim λm1 h=>h.elim λI2 h=>aj (sh:=.k) (enc:=sj) (a:=(si p I0 I1 m1 I2).an) h (by kernel_rfl) (AV.pureB_ok rfl),ai (by kernel_rfl)⟩
def Wm(f:Flt)(s:Int):Bool:=decide (s∈f.srcs)==decide (f.mode=1)
def Wl(f:Flt)(source:Int):=okL [.agg [.int f.mode,.sl 1 (f.srcs.map AV.int) false],.int source]
def BX(r:Bool):AV:=.bool r
def BW(f:Flt)(source:Int):Ax Tryz.prog noS (Bool):=
 (.callP (nh f.srcs source)
(.ret ((decide (source∈f.srcs))==(f.mode==1))))
def Fy(f:Flt)(source:Int)(r0:Bool):=(BW f source).vp BX r0
theorem Wj(f:Flt)(s:Int)(ok:Wl f s):Fy f s (Wm f s):=by
 dsimp only[Fy,BW,noS,Ax.vp,Ax.vc];simp only[vcU,rfU,List.length_map]
 rfl
def Wk(f:Flt)(source:Int):PC Tryz.prog:=⟨142,[(.a [.k,(.s 1)]),.k],[.agg [.int f.mode,.sl 1 (f.srcs.map AV.int) false],.int source],BX (Wm f source),ao.of_ok λok=>aj (sh:=.k) (enc:=BX) (a:=(BW f source).an) (Wj f source ok) (by kernel_rfl) (AV.pureB_ok rfl),ai (by kernel_rfl)⟩
abbrev ye:=eQ
def Rz(f:Flt)(source:Int):=okL [.agg [.int f.mode,.sl 1 (f.srcs.map AV.int) false],.int source]
def ur(r:Bool):AV:=.bool r
def uq(f:Flt)(source:Int):Ax Tryz.prog noS (Bool):=
 (.callP (vC f)
(.br 96 ((aF f.mode f.srcs)==0) (.br 160 (decide (0<source)) (.callP (Wk f source)
(.ret (Wm f source)))
(.ret (false)))
(.ret (false))))
def yd(f:Flt)(source:Int)(r0:Bool):=(uq f source).vp ur r0
theorem Rx(f:Flt)(s:Int)(ok:Rz f s):yd f s (ye f s):=by
 dsimp only[yd,uq,noS,Ax.vp,Ax.vc];simp only[vcU,rfU,List.length_map]
 refine⟨λc=>?_,λc=>?_⟩
 ·have c:aF f.mode f.srcs=0:=eq_of_beq c
  refine⟨λd=>?_,λd=>?_⟩
  ·rw[ye,eQ,decide_eq_true c,decide_eq_true (show 1≤s by omega)];rfl
  ·rw[ye,eQ,decide_eq_false (show ¬1≤s by omega)];simp
 ·rw[ye,eQ,decide_eq_false (by simpa using c)];rfl
def Ry(f:Flt)(source:Int):PC Tryz.prog:=⟨102,[(.a [.k,(.s 1)]),.k],[.agg [.int f.mode,.sl 1 (f.srcs.map AV.int) false],.int source],ur (ye f source),ao.of_ok λok=>aj (sh:=.k) (enc:=ur) (a:=(uq f source).an) (Rx f source ok) (by kernel_rfl) (AV.pureB_ok rfl),ai (by kernel_rfl)⟩
def i8(w:Wnt)(f:Flw):Bool:=w.grp==f.grp && eQ ⟨w.mode,w.srcs⟩ f.src
def TJ(w:Wnt)(f:Flw):=okL [.agg [.int w.grp,.int w.mode,.sl 1 (w.srcs.map AV.int) false],.rptr (.agg [.int f.src,.int f.grp]) 0]
def zJ(r:Bool):AV:=.bool r
def zI(w:Wnt)(f:Flw):Ax Tryz.prog noS (Bool):=
 (.br 128 (w.grp==f.grp) (.callP (Ry (⟨w.mode,w.srcs⟩:Flt) f.src)
(.ret (eQ (⟨w.mode,w.srcs⟩:Flt) f.src)))
(.ret (false)))
def Du(w:Wnt)(f:Flw)(r0:Bool):=(zI w f).vp zJ r0
theorem TH(w:Wnt)(f:Flw)(ok:TJ w f):Du w f (i8 w f):=by
 dsimp only[Du,zI,noS,Ax.vp,Ax.vc];simp only[vcU,rfU,List.length_map]
 refine⟨λc=>?_,λc=>?_⟩<;>rw[i8,c]<;>rfl
def TI(w:Wnt)(f:Flw):PC Tryz.prog:=⟨101,[(.a [.k,.k,(.s 1)]),.k],[.agg [.int w.grp,.int w.mode,.sl 1 (w.srcs.map AV.int) false],.rptr (.agg [.int f.src,.int f.grp]) 0],zJ (i8 w f),ao.of_ok λok=>aj (sh:=.k) (enc:=zJ) (a:=(zI w f).an) (TH w f ok) (by kernel_rfl) (AV.pureB_ok rfl),ai (by kernel_rfl)⟩
def Dw(s:List Wnt)(f:Flw):=okL [.sl 3 (s.map Wnt.v) false,.func 101 [.rptr (.agg [.int f.src,.int f.grp]) 0]]
def IK(s:List Wnt)(f:Flw)(t0:Int):NF:=⟨[(0,.k,.sl 3 (s.map Wnt.v) false),(1,.k,.func 101 [.rptr (.agg [.int f.src,.int f.grp]) 0]),(7,.k,.int ((s.map Wnt.v).length:Int)),(8,.k,.int t0)],[]⟩
@[reducible] def Dv:Nat→Type
 | 0=>Int
 | _=>Unit
def sb(r:Int):AV:=.int r
def sa(s:List Wnt)(f:Flw)(I0:Int→Prop)(m0:Int→Nat):Ax Tryz.prog Dv (Int):=
 (.loop 0 (IK s f) I0 m0 ((0):Int) [] λ(t0:Int) b0 =>
(.br 16 (decide (t0<((s.map Wnt.v).length:Int))) (.el 96 Wnt.v s (λR=>Rf (s.map Wnt.v) (ck (decide (0≤t0)) (ck (decide (t0<(s.length:Int)))
(∀x1,s[t0.toNat]?=some x1 →
(R x1))))) λx1 =>
(.callP (TI x1 f)
(.br 144 (i8 x1 f) (.ret (t0))
(.bk 0 b0 ((W (t0+1)):Int) []))))
(.ret (-1))))
def vH(s:List Wnt)(f:Flw)(I0:Int→Prop)(m0:Int→Nat)(r0:Int):=(sa s f I0 m0).vp sb r0
theorem OO(s:List Wnt)(f:Flw)(ok:Dw s f):∃I m,vH s f I m (i7 (λy=>i8 y f) s):=by
 refine⟨λt=>bP s (λy=>i8 y f=false) t,λt=>s.length-t.toNat,?_⟩
 simp only[Dw,okU,Blk.ok,aK,List.length_map]at ok
 dsimp only[vH,sa,Dv,Ax.vp,Ax.vc];simp only[vcU,rfU,List.length_map]
 exact⟨bP.zero,λt h=>⟨λc=>⟨h.idx,c,λx hx=>⟨λq=>h.found hx q,λq=>h.step (by omega) hx q⟩⟩,λc=>h.lost c⟩⟩
def OP(s:List Wnt)(f:Flw):PC Tryz.prog:=⟨140,[(.s 3),.k],[.sl 3 (s.map Wnt.v) false,.func 101 [.rptr (.agg [.int f.src,.int f.grp]) 0]],sb (i7 (λy=>i8 y f) s),ao.of_ok λok=>(OO s f ok).elim λI0 h=>h.elim λm0 h=>aj (sh:=.k) (enc:=sb) (a:=(sa s f I0 m0).an) h (by kernel_rfl) (AV.pureB_ok rfl),ai (by kernel_rfl)⟩
def OS(s:List Wnt)(f:Flw):=okL [.sl 3 (s.map Wnt.v) false,.func 101 [.rptr (.agg [.int f.src,.int f.grp]) 0]]
def sd(r:Bool):AV:=.bool r
def sc(s:List Wnt)(f:Flw):Ax Tryz.prog noS (Bool):=
 (.callP (OP s f)
(.ret (decide (0≤(i7 (λy=>i8 y f) s)))))
def vI(s:List Wnt)(f:Flw)(r0:Bool):=(sc s f).vp sd r0
theorem OQ(s:List Wnt)(f:Flw)(ok:OS s f):vI s f (s.any λy=>i8 y f):=by
 dsimp only[vI,sc,noS,Ax.vp,Ax.vc];simp only[vcU,rfU,List.length_map]
 exact kE _ _
def OR(s:List Wnt)(f:Flw):PC Tryz.prog:=⟨100,[(.s 3),.k],[.sl 3 (s.map Wnt.v) false,.func 101 [.rptr (.agg [.int f.src,.int f.grp]) 0]],sd (s.any λy=>i8 y f),ao.of_ok λok=>aj (sh:=.k) (enc:=sd) (a:=(sc s f).an) (OQ s f ok) (by kernel_rfl) (AV.pureB_ok rfl),ai (by kernel_rfl)⟩
theorem Ok{l:List Wnt}{f:Flw}(h:bh false l=0):(l.any λy=>i8 y f)=eQ (bM l f.grp) f.src:=by
 have hp:=(eD.mp h).2.2.2.2
 clear h
 induction l with
 | nil=>rw[bM];exact(Bool.eq_false_iff.mpr λh=>ON h ⟨rfl,rfl⟩).symm
 | cons w l ih =>
  rw[List.pairwise_cons]at hp
  rw[List.any_cons,Cb]
  by_cases e:w.grp=f.grp
  ·rw[if_pos e]
   have:(l.any λy=>i8 y f)=false:=by
    rw[List.any_eq_false]
    intro y hy hc
    have:=hp.1 y hy
    have hc:y.grp=f.grp:=by
     unfold i8 at hc
     rw[Bool.and_eq_true]at hc
     exact eq_of_beq hc.1
    omega
   rw[this,Bool.or_false,i8,beq_iff_eq.mpr e,Bool.true_and]
  ·rw[if_neg e,←ih hp.2]
   have:i8 w f=false:=by rw[i8,beq_eq_false_iff_ne.mpr e];rfl
   rw[this,Bool.false_or]
abbrev TE:=kW
def TD(l:List Wnt)(f:Flw):=okL [.sl 3 (l.map Wnt.v) false,.agg [.int f.src,.int f.grp]]
def zD(r:Bool):AV:=.bool r
def zC(l:List Wnt)(f:Flw):Ax Tryz.prog noS (Bool):=
 (.callP (TY l)
(.br 96 ((bh false l)==0) (.callP (OR l f)
(.say (ck (bK [[.agg [.int f.src,.int f.grp]]])) (.ret ((l).any λy=>i8 y f))))
(.ret (false))))
def Ds(l:List Wnt)(f:Flw)(r0:Bool):=(zC l f).vp zD r0
theorem TB(l:List Wnt)(f:Flw)(ok:TD l f):Ds l f (TE l f):=by
 dsimp only[Ds,zC,noS,Ax.vp,Ax.vc];simp only[vcU,rfU,List.length_map]
 refine⟨λc=>⟨rfl,?_⟩,λc=>?_⟩
 ·have c:bh false l=0:=eq_of_beq c
  rw[Ok c,TE,kW,decide_eq_true c];rfl
 ·rw[TE,kW,decide_eq_false (by simpa using c)];rfl
def TC(l:List Wnt)(f:Flw):PC Tryz.prog:=⟨54,[(.s 3),.k],[.sl 3 (l.map Wnt.v) false,.agg [.int f.src,.int f.grp]],zD (kW l f),ao.of_ok λok=>aj (sh:=.k) (enc:=zD) (a:=(zC l f).an) (TB l f ok) (by kernel_rfl) (AV.pureB_ok rfl),ai (by kernel_rfl)⟩
def lv(o:Ovl)(at_:Int)(f:Flw)(x:Edg):List Int:=
 if x.router=at_ then []else if(bJ o at_ x.router).2=0∧kW (bJ o at_ x.router).1 f=true then [x.id]else []
theorem ol{o:Ovl}{a:Int}{f:Flw}{x:Edg}:(lv o a f x).length≤1:=by
 unfold lv
 repeat' split
 all_goals simp
def aP(o:Ovl)(p:Pln)(at_:Int)(f:Flw):List Int×Int:=
 if dg o≠0 then([],dg o)else if bI p=false then([],1)else if ed f=false then([],2)else if(bJ o at_ at_).2≠0 then([],(bJ o at_ at_).2)
 else(p.es.flatMap (lv o at_ f),0)
def UJ(o:Ovl)(p:Pln)(at_:Int)(f:Flw):=okL [.agg [.sl 5 (o.sp.map Spk.v) false,.sl 3 (o.ls.map Lsn.v) false,.sl 10 (o.fl.map Sig.v) false],.agg [.int p.sub,.int p.len,.sl 2 (p.es.map Edg.v) false],.int at_,.agg [.int f.src,.int f.grp]]
def Qo(o:Ovl)(p:Pln)(at_:Int)(f:Flw)(t0:Int×List Int):NF:=⟨[(2,.k,.int at_),(4,.k,.ref 0 0),(7,.k,.ref 1 0),(13,.k,.vec 2),(40,.k,.sl 2 (p.es.map Edg.v) false),(41,.k,.int ((p.es.map Edg.v).length:Int)),(42,.k,.int t0.1)],[.box (.agg [.sl 5 (o.sp.map Spk.v) false,.sl 3 (o.ls.map Lsn.v) false,.sl 10 (o.fl.map Sig.v) false]),.box (.agg [.int f.src,.int f.grp]),.vec 1 (t0.2.map AV.int) (ab (λ_=>rfl) t0.2)]⟩
def Qn(o:Ovl)(p:Pln)(at_:Int)(f:Flw)(t0:Int×List Int)(x1:Edg)(t1:Bool):NF:=⟨[(2,.k,.int at_),(4,.k,.ref 0 0),(7,.k,.ref 1 0),(13,.k,.vec 2),(15,.k,.ref 3 0),(40,.k,.sl 2 (p.es.map Edg.v) false),(41,.k,.int ((p.es.map Edg.v).length:Int)),(42,.k,.int t0.1),(64,.k,.bool t1)],[.box (.agg [.sl 5 (o.sp.map Spk.v) false,.sl 3 (o.ls.map Lsn.v) false,.sl 10 (o.fl.map Sig.v) false]),.box (.agg [.int f.src,.int f.grp]),.vec 1 (t0.2.map AV.int) (ab (λ_=>rfl) t0.2),.box (.agg [.int x1.router,.int x1.id])]⟩
@[reducible] def KA:Nat→Type
 | 0=>Int×List Int
 | 1=>Bool
 | _=>Unit
def AH(r:List Int×Int):AV:=.tup [.sl 1 (r.1.map AV.int) false,.int r.2]
def AG(o:Ovl)(p:Pln)(at_:Int)(f:Flw)(I0:(Int×List Int)→Prop)(m0:(Int×List Int)→Nat)(I1:Int×List Int→Edg→Bool→Prop):Ax Tryz.prog KA (List Int×Int):=
 (.callP (Uf o)
(.br 160 ((dg o) != 0) (.ret ([],dg o))
(.callP (D3 p)
(.br 208 (!(bI p)) (.ret ([],1))
(.callP (sG f)
(.br 256 (!(ed f)) (.ret ([],2))
(.callP (EY o at_ at_)
(.br 432 (((bJ o at_ at_).2) != 0) (.ret ([],(bJ o at_ at_).2))
(.cmdL (.nilT 13 1) (.loop 0 (Qo o p at_ f) I0 m0 (0,[]) [0,32,512] λ(t0:Int×List Int) b0 =>
(.br 19 (decide (t0.1<((p.es.map Edg.v).length:Int))) (.el 19 Edg.v p.es (λR=>Rf (p.es.map Edg.v) (ck (decide (0≤t0.1)) (ck (decide (t0.1<(p.es.length:Int)))
(∀x1,p.es[t0.1.toNat]?=some x1 →
(R x1))))) λx1 =>
(.br 147 (x1.router==at_) (.bk 0 b0 (W (t0.1+1),t0.2) [0,1,2])
(.callP (EY o at_ x1.router)
(.join 1 (Qn o p at_ f t0 x1) (λ(t1:Bool)=>I1 t0 x1 t1) (λb1=>(.br 355 (((bJ o at_ x1.router).2)==0) (.callP (TC ((bJ o at_ x1.router).1) f)
(.bk 1 b1 ((kW ((bJ o at_ x1.router).1) f):Bool) [0,1,2,51]))
(.bk 1 b1 ((false):Bool) [0,1,2,51]))) λ(t1:Bool) =>
(.br 4 t1 (.say (λR=>Rf (α:=List AV) (t0.2.map AV.int) (Rf (α:=List AV) [.int x1.id]
(ck (decide (t0.2.length+1≤1048576))
R))) (.app 68 AV.int t0.2 [x1.id]
(.bk 0 b0 (W (t0.1+1),t0.2++[x1.id]) [0,1,68])))
(.bk 0 b0 (W (t0.1+1),t0.2) [0,1,2]))))))
(.say (Rf (t0.2.map AV.int)) (.cmdL (.frzE 2 (t0.2.map AV.int) (ab (λ_=>rfl) t0.2)) (.ret (t0.2,0)))))))))))))))
def Ew(o:Ovl)(p:Pln)(at_:Int)(f:Flw)(I0:(Int×List Int)→Prop)(m0:(Int×List Int)→Nat)(I1:Int×List Int→Edg→Bool→Prop)(r0:List Int×Int):=(AG o p at_ f I0 m0 I1).vp AH r0
theorem UI(o:Ovl)(p:Pln)(at_:Int)(f:Flw)(ok:UJ o p at_ f):∃I0 m0 I1,Ew o p at_ f I0 m0 I1 (aP o p at_ f):=by
 refine⟨λt=>dI p.es (lv o at_ f) t.1 t.2,λt=>p.es.length-t.1.toNat,λ_ x b=>b=decide ((bJ o at_ x.router).2=0∧kW (bJ o at_ x.router).1 f=true),?_⟩
 dsimp only[Ew,AG,KA,Ax.vp,Ax.vc];simp only[vcU,rfU,List.length_map]
 refine⟨λc=>?_,λc=>⟨λd=>?_,λd=>⟨λe=>?_,λe=>⟨λg=>?_,λg=>⟨dI.zero,?_⟩⟩⟩⟩⟩
 ·rw[aP,if_pos (by simpa using c)]
 ·rw[aP,if_neg (by simpa using c),if_pos (by simpa using d)]
 ·rw[aP,if_neg (by simpa using c),if_neg (by simpa using d),if_pos (by simpa using e)]
 ·rw[aP,if_neg (by simpa using c),if_neg (by simpa using d),if_neg (by simpa using e),if_pos (by simpa using g)]
 have d':bI p=true:=by simpa using d
 have hl:p.es.length≤24:=by
  unfold bI at d'
  rw[Bool.and_eq_true,decide_eq_true_eq]at d'
  exact d'.1.2.2
 rintro⟨i,out⟩ h
 simp only at h ⊢
 have hlen:=h.len (b:=1) λx _=>ol
 refine⟨λq=>⟨h.idx,q,λx hx=>⟨λr=>h.step (by omega) hx ?_,λr=>⟨⟨λs=>?_,λs=>?_⟩,?_⟩⟩⟩,λq=>?_⟩
 ·rw[lv,if_pos (eq_of_beq r)];simp
 ·have s:=eq_of_beq s
  simp[s]
 ·have s:¬(bJ o at_ x.router).2=0:=by simpa using s
  simp[s]
 ·have r:¬x.router=at_:=by simpa using r
  rintro _ rfl
  refine⟨λs=>⟨by omega,h.step (by omega) hx ?_⟩,λs=>h.step (by omega) hx ?_⟩
  ·rw[lv,if_neg r,if_pos (of_decide_eq_true s)]
  ·rw[lv,if_neg r,if_neg (of_decide_eq_false s)];simp
 ·rw[aP,if_neg (by simpa using c),if_neg (by simpa using d),if_neg (by simpa using e),if_neg (by simpa using g),←h.done q]
def tk(o:Ovl)(p:Pln)(at_:Int)(f:Flw):PC Tryz.prog:=⟨14,[(.a [(.s 5),(.s 3),(.s 10)]),(.a [.k,.k,(.s 2)]),.k,.k],[.agg [.sl 5 (o.sp.map Spk.v) false,.sl 3 (o.ls.map Lsn.v) false,.sl 10 (o.fl.map Sig.v) false],.agg [.int p.sub,.int p.len,.sl 2 (p.es.map Edg.v) false],.int at_,.agg [.int f.src,.int f.grp]],AH (aP o p at_ f),ao.of_ok λok=>(UI o p at_ f ok).elim λI0 h=>h.elim λm0 h=>h.elim λI1 h=>aj (sh:=(.a [(.s 1),.k])) (enc:=AH) (a:=(AG o p at_ f I0 m0 I1).an) h (by kernel_rfl) (AV.pureB_ok rfl),ai (by kernel_rfl)⟩
def u8B(n:Int):UInt8:=UInt8.ofNat (IntKind.u8.wrap n).toNat
def dx(f:Flw)(d:ByteArray):ByteArray×Int:=
 if ed f=false then(B [],2)else if 62<d.size then(B [],3)else(B [u8B f.src,u8B f.grp]++d,0)
def T7(f:Flw)(data:ByteArray):=okL [.agg [.int f.src,.int f.grp],.str data]
def z7(r:ByteArray×Int):AV:=.tup [.str r.1,.int r.2]
def z6(f:Flw)(data:ByteArray):Ax Tryz.prog noS (ByteArray×Int):=
 (.callP (sG f)
(.br 96 (!(ed f)) (.ret (B [],2))
(.br 304 (decide (64<(W (2+(data.size:Int))))) (.ret (B [],3))
(.say (ck (decide ((B [UInt8.ofNat ((IntKind.u8.wrap f.src)).toNat,UInt8.ofNat ((IntKind.u8.wrap f.grp)).toNat]).size+data.size≤maxLen))) (.ret ((B [UInt8.ofNat ((IntKind.u8.wrap f.src)).toNat,UInt8.ofNat ((IntKind.u8.wrap f.grp)).toNat])++data,0))))))
def Dq(f:Flw)(data:ByteArray)(r0:ByteArray×Int):=(z6 f data).vp z7 r0
theorem T6(f:Flw)(d:ByteArray)(h:d.size≤1000000)(ok:T7 f d):Dq f d (dx f d):=by
 dsimp only[Dq,z6,noS,Ax.vp,Ax.vc];simp only[vcU,rfU,List.length_map]
 have w:W (2+(d.size:Int))=2+(d.size:Int):=bB (by omega)
 have hB:(B [UInt8.ofNat (IntKind.u8.wrap f.src).toNat,UInt8.ofNat (IntKind.u8.wrap f.grp).toNat]).size=2:=rfl
 rw[w,hB]
 refine⟨λc=>?_,λc=>⟨λe=>?_,λe=>⟨by rw[cT];omega,?_⟩⟩⟩
 ·rw[dx,if_pos (by simpa using c)]
 ·rw[dx,if_neg (by simpa using c),if_pos (by omega)]
 ·rw[dx,if_neg (by simpa using c),if_neg (by omega)];rfl
def z8(f:Flw)(data:ByteArray)(h:data.size≤1000000):PC Tryz.prog:=⟨22,[.k,.k],[.agg [.int f.src,.int f.grp],.str data],z7 (dx f data),ao.of_ok λok=>aj (sh:=.k) (enc:=z7) (a:=(z6 f data).an) (T6 f data h ok) (by kernel_rfl) (AV.pureB_ok rfl),ai (by kernel_rfl)⟩
def GH(p:ByteArray):Flw:=⟨((p.data.getD 0 0).toNat:Int),((p.data.getD 1 0).toNat:Int)⟩
def fV(p:ByteArray):Flw×ByteArray×Int:=
 if p.size<2 then(⟨0,0⟩,B [],20)else if ed (GH p)=false then(⟨0,0⟩,B [],2)else(GH p,p.extract 2 p.size,0)
theorem SW(b:UInt8):W ((b.toNat:Nat):Int)=(b.toNat:Nat):=bB (by have:=b.toNat_lt;omega)
def Un(payload:ByteArray):=okL [.str payload]
def Ah(r:Flw×ByteArray×Int):AV:=.tup [Flw.v r.1,.str r.2.1,.int r.2.2]
def Ag(payload:ByteArray):Ax Tryz.prog noS (Flw×ByteArray×Int):=
 (.br 96 (decide ((payload.size:Int)<2)) (.ret ((⟨0,0⟩:Flw),B [],20))
(.say (λR=>ck (decide (0<(payload.size:Int)))
((ck (decide (1<(payload.size:Int)))
R))) (.callP (sG (⟨W ((payload.data.getD 0 0).toNat:Int),W ((payload.data.getD 1 0).toNat:Int)⟩:Flw))
(.br 288 (!(ed (⟨W ((payload.data.getD 0 0).toNat:Int),W ((payload.data.getD 1 0).toNat:Int)⟩:Flw))) (.ret ((⟨0,0⟩:Flw),B [],2))
(.say (ck (cond (decide (2≤(payload.size:Int))) (decide ((payload.size:Int)≤(payload.size:Int))) false)) (.ret ((⟨W ((payload.data.getD 0 0).toNat:Int),W ((payload.data.getD 1 0).toNat:Int)⟩:Flw),payload.extract 2 ((payload.size:Int).toNat),0)))))))
def DL(payload:ByteArray)(r0:Flw×ByteArray×Int):=(Ag payload).vp Ah r0
theorem Um(p:ByteArray)(ok:Un p):DL p (fV p):=by
 dsimp only[DL,Ag,noS,Ax.vp,Ax.vc];simp only[vcU,rfU,List.length_map]
 rw[SW,SW]
 refine⟨λc=>?_,λc=>⟨by omega,by omega,λd=>?_,λd=>⟨?_,?_⟩⟩⟩
 ·rw[fV,if_pos (by omega)]
 ·rw[Bool.not_eq_true']at d
  have d:ed (GH p)=false:=d
  rw[fV,if_neg (by omega),if_pos d]
 ·rw[decide_eq_true (by omega),decide_eq_true (Int.le_refl _)];rfl
 ·rw[Bool.not_eq_false']at d
  have d:¬ed (GH p)=false:=λe=>Bool.false_ne_true (e.symm.trans d)
  rw[fV,if_neg (by omega),if_neg d,Int.toNat_natCast];rfl
def Jx(payload:ByteArray):PC Tryz.prog:=⟨24,[.k],[.str payload],Ah (fV payload),ao.of_ok λok=>aj (sh:=.k) (enc:=Ah) (a:=(Ag payload).an) (Um payload ok) (by kernel_rfl) (AV.pureB_ok rfl),ai (by kernel_rfl)⟩
def S1:Prop:=okL []
def vq(r:Bool):AV:=.bool r
def vo:Ax Tryz.prog noS (Bool):=
 (.req 32 ((B [120]).size≤1000000) λh1 =>
(.callP (z8 (⟨1,4⟩:Flw) (B [120]) h1)
(.callP (Jx ((dx (⟨1,4⟩:Flw) (B [120])).1))
(.br 336 (((dx (⟨1,4⟩:Flw) (B [120])).2)==0) (.br 400 (((fV ((dx (⟨1,4⟩:Flw) (B [120])).1)).2.2)==0) (.br 464 (((dx (⟨1,4⟩:Flw) (B [120])).1).toList==(B [1,4,120]).toList) (.br 544 ((((fV ((dx (⟨1,4⟩:Flw) (B [120])).1)).1).src==1) && ((((fV ((dx (⟨1,4⟩:Flw) (B [120])).1)).1).grp==4) && true)) (.ret (((fV ((dx (⟨1,4⟩:Flw) (B [120])).1)).2.1).toList==(B [120]).toList))
(.ret (false)))
(.ret (false)))
(.ret (false)))
(.ret (false))))))
def zi(r0:Bool):=(vo).vp vq r0
theorem S0(ok:S1):zi true:=by
 dsimp only[zi,vo,noS,Ax.vp,Ax.vc];simp only[vcU,rfU,List.length_map]
 exact⟨by decide,by decide +kernel⟩
def Gb:PC Tryz.prog:=⟨9,[],[],vq true,ao.of_ok λok=>aj (sh:=.k) (enc:=vq) (a:=(vo).an) (S0 ok) (by kernel_rfl) (AV.pureB_ok rfl),ai (by kernel_rfl)⟩
theorem nq{n:Nat}(h:n<18446744073709551616):IntKind.u64.wrap (n:Int)=n:=by
 unfold IntKind.wrap
 simp[IntKind.bits,IntKind.signed]
 omega
theorem bv64{n:Nat}(h:n<18446744073709551616):(BitVec.ofInt 64 (n:Int)).toNat=n:=by
 rw[BitVec.ofInt_natCast,BitVec.toNat_ofNat];exact Nat.mod_eq_of_lt h
theorem Sy{a b:Nat}(ha:a<18446744073709551616)(hb:b<18446744073709551616):bOr .u64 (a:Int) (b:Int)=((a ||| b:Nat):Int):=by
 have e:((BitVec.ofInt 64 (a:Int)) ||| (BitVec.ofInt 64 (b:Int))).toNat=a ||| b:=by rw[BitVec.toNat_or,bv64 ha,bv64 hb]
 unfold bOr
 rw[show IntKind.u64.bits=64 from rfl,e]
 exact nq (Nat.or_lt_two_pow (n:=64) ha hb)
theorem JU{b:Nat}(h:b<64):sP .u64 1 (b:Int)=((2 ^ b:Nat):Int):=by
 unfold sP
 rw[Int.toNat_natCast,show Nat.min b IntKind.u64.bits=b from Nat.min_eq_left (Nat.le_of_lt h),Int.one_mul,←nq (n:=2 ^ b) (Nat.pow_lt_pow_right (by omega) h)]
 congr 1
structure Stb where
  set:Int
  bits:Int
  deriving DecidableEq
structure Pkt where
  mode:Int
  sub:Int
  set:Int
  len:Int
  ttl:Int
  ent:Int
  ing:Int
  proto:Int
  bits:Int
  pay:ByteArray
  deriving DecidableEq
def Stb.v(x:Stb):AV:=.agg [.int x.set,.val (.int .u64 x.bits)]
def Pkt.v(x:Pkt):AV:=.agg [.int x.mode,.int x.sub,.int x.set,.int x.len,.int x.ttl,.int x.ent,.int x.ing,.int x.proto,.val (.int .u64 x.bits),.str x.pay]
def kO(y:Edg)(id:Int):Bool:=y.id==id
def W3(x:Edg)(id:Int):=okL [.agg [.int x.router,.int x.id],.rptr (.int id) 0]
def Cq(r:Bool):AV:=.bool r
def Cp(x:Edg)(id:Int):Ax Tryz.prog noS (Bool):=
 (.ret (x.id==id))
def FJ(x:Edg)(id:Int)(r0:Bool):=(Cp x id).vp Cq r0
theorem W1(y:Edg)(id:Int)(ok:W3 y id):FJ y id (kO y id):=by
 dsimp only[FJ,Cp,noS,Ax.vp,Ax.vc];simp only[vcU,rfU,List.length_map]
 rfl
def W2(x:Edg)(id:Int):PC Tryz.prog:=⟨177,[.k,.k],[.agg [.int x.router,.int x.id],.rptr (.int id) 0],Cq (kO x id),ao.of_ok λok=>aj (sh:=.k) (enc:=Cq) (a:=(Cp x id).an) (W1 x id ok) (by kernel_rfl) (AV.pureB_ok rfl),ai (by kernel_rfl)⟩
def FL(s:List Edg)(f:Int):=okL [.sl 2 (s.map Edg.v) false,.func 177 [.rptr (.int f) 0]]
def Nj(s:List Edg)(f:Int)(t0:Int):NF:=⟨[(0,.k,.sl 2 (s.map Edg.v) false),(1,.k,.func 177 [.rptr (.int f) 0]),(7,.k,.int ((s.map Edg.v).length:Int)),(8,.k,.int t0)],[]⟩
@[reducible] def FK:Nat→Type
 | 0=>Int
 | _=>Unit
def uQ(r:Int):AV:=.int r
def uP(s:List Edg)(f:Int)(I0:Int→Prop)(m0:Int→Nat):Ax Tryz.prog FK (Int):=
 (.loop 0 (Nj s f) I0 m0 ((0):Int) [] λ(t0:Int) b0 =>
(.br 16 (decide (t0<((s.map Edg.v).length:Int))) (.el 96 Edg.v s (λR=>Rf (s.map Edg.v) (ck (decide (0≤t0)) (ck (decide (t0<(s.length:Int)))
(∀x1,s[t0.toNat]?=some x1 →
(R x1))))) λx1 =>
(.callP (W2 x1 f)
(.br 144 (kO x1 f) (.ret (t0))
(.bk 0 b0 ((W (t0+1)):Int) []))))
(.ret (-1))))
def yC(s:List Edg)(f:Int)(I0:Int→Prop)(m0:Int→Nat)(r0:Int):=(uP s f I0 m0).vp uQ r0
theorem RQ(s:List Edg)(f:Int)(ok:FL s f):∃I m,yC s f I m (i7 (λy=>kO y f) s):=by
 refine⟨λt=>bP s (λy=>kO y f=false) t,λt=>s.length-t.toNat,?_⟩
 simp only[FL,okU,Blk.ok,aK,List.length_map]at ok
 dsimp only[yC,uP,FK,Ax.vp,Ax.vc];simp only[vcU,rfU,List.length_map]
 exact⟨bP.zero,λt h=>⟨λc=>⟨h.idx,c,λx hx=>⟨λq=>h.found hx q,λq=>h.step (by omega) hx q⟩⟩,λc=>h.lost c⟩⟩
def RR(s:List Edg)(f:Int):PC Tryz.prog:=⟨129,[(.s 2),.k],[.sl 2 (s.map Edg.v) false,.func 177 [.rptr (.int f) 0]],uQ (i7 (λy=>kO y f) s),ao.of_ok λok=>(RQ s f ok).elim λI0 h=>h.elim λm0 h=>aj (sh:=.k) (enc:=uQ) (a:=(uP s f I0 m0).an) h (by kernel_rfl) (AV.pureB_ok rfl),ai (by kernel_rfl)⟩
def RU(s:List Edg)(f:Int):=okL [.sl 2 (s.map Edg.v) false,.func 177 [.rptr (.int f) 0]]
def uS(r:Bool):AV:=.bool r
def uR(s:List Edg)(f:Int):Ax Tryz.prog noS (Bool):=
 (.callP (RR s f)
(.ret (decide (0≤(i7 (λy=>kO y f) s)))))
def yD(s:List Edg)(f:Int)(r0:Bool):=(uR s f).vp uS r0
theorem RS(s:List Edg)(f:Int)(ok:RU s f):yD s f (s.any λy=>kO y f):=by
 dsimp only[yD,uR,noS,Ax.vp,Ax.vc];simp only[vcU,rfU,List.length_map]
 exact kE _ _
def RT(s:List Edg)(f:Int):PC Tryz.prog:=⟨94,[(.s 2),.k],[.sl 2 (s.map Edg.v) false,.func 177 [.rptr (.int f) 0]],uS (s.any λy=>kO y f),ao.of_ok λok=>aj (sh:=.k) (enc:=uS) (a:=(uR s f).an) (RS s f ok) (by kernel_rfl) (AV.pureB_ok rfl),ai (by kernel_rfl)⟩
def BM(p:Pln)(id:Int):Bool:=p.es.any λy=>kO y id
def VZ(p:Pln)(id:Int):=okL [.agg [.int p.sub,.int p.len,.sl 2 (p.es.map Edg.v) false],.int id]
def BL(r:Bool):AV:=.bool r
def BK(p:Pln)(id:Int):Ax Tryz.prog noS (Bool):=
 (.callP (RT p.es id)
(.say (ck (bK [[.int id]])) (.ret ((p.es).any λy=>kO y id))))
def Fs(p:Pln)(id:Int)(r0:Bool):=(BK p id).vp BL r0
theorem VX(p:Pln)(id:Int)(ok:VZ p id):Fs p id (BM p id):=by
 dsimp only[Fs,BK,noS,Ax.vp,Ax.vc];simp only[vcU,rfU,List.length_map]
 exact⟨rfl,rfl⟩
def VY(p:Pln)(id:Int):PC Tryz.prog:=⟨145,[(.a [.k,.k,(.s 2)]),.k],[.agg [.int p.sub,.int p.len,.sl 2 (p.es.map Edg.v) false],.int id],BL (BM p id),ao.of_ok λok=>aj (sh:=.k) (enc:=BL) (a:=(BK p id).an) (VX p id ok) (by kernel_rfl) (AV.pureB_ok rfl),ai (by kernel_rfl)⟩
def gf(id:Int)(p:Pln):Bool:=!BM p id
def Q8(id:Int)(p:Pln):=okL [.int id,.rptr (.agg [.int p.sub,.int p.len,.sl 2 (p.es.map Edg.v) false]) 0]
def tH(r:Bool):AV:=.bool r
def tG(id:Int)(p:Pln):Ax Tryz.prog noS (Bool):=
 (.callP (VY p id)
(.ret (!(BM p id))))
def xd(id:Int)(p:Pln)(r0:Bool):=(tG id p).vp tH r0
theorem Q6(id:Int)(p:Pln)(ok:Q8 id p):xd id p (gf id p):=by
 dsimp only[xd,tG,noS,Ax.vp,Ax.vc];simp only[vcU,rfU,List.length_map]
 rfl
def Q7(id:Int)(p:Pln):PC Tryz.prog:=⟨144,[.k,.k],[.int id,.rptr (.agg [.int p.sub,.int p.len,.sl 2 (p.es.map Edg.v) false]) 0],tH (gf id p),ao.of_ok λok=>aj (sh:=.k) (enc:=tH) (a:=(tG id p).an) (Q6 id p ok) (by kernel_rfl) (AV.pureB_ok rfl),ai (by kernel_rfl)⟩
def xf(s:List Int)(f:Pln):=okL [.sl 1 (s.map AV.int) false,.func 144 [.rptr (.agg [.int f.sub,.int f.len,.sl 2 (f.es.map Edg.v) false]) 0]]
def Hn(s:List Int)(f:Pln)(t0:Int):NF:=⟨[(0,.k,.sl 1 (s.map AV.int) false),(1,.k,.func 144 [.rptr (.agg [.int f.sub,.int f.len,.sl 2 (f.es.map Edg.v) false]) 0]),(7,.k,.int ((s.map AV.int).length:Int)),(8,.k,.int t0)],[]⟩
@[reducible] def xe:Nat→Type
 | 0=>Int
 | _=>Unit
def o8(r:Int):AV:=.int r
def o7(s:List Int)(f:Pln)(I0:Int→Prop)(m0:Int→Nat):Ax Tryz.prog xe (Int):=
 (.loop 0 (Hn s f) I0 m0 ((0):Int) [] λ(t0:Int) b0 =>
(.br 16 (decide (t0<((s.map AV.int).length:Int))) (.el 96 AV.int s (λR=>Rf (s.map AV.int) (ck (decide (0≤t0)) (ck (decide (t0<(s.length:Int)))
(∀x1,s[t0.toNat]?=some x1 →
(R x1))))) λx1 =>
(.callP (Q7 x1 f)
(.br 144 (gf x1 f) (.ret (t0))
(.bk 0 b0 ((W (t0+1)):Int) []))))
(.ret (-1))))
def qW(s:List Int)(f:Pln)(I0:Int→Prop)(m0:Int→Nat)(r0:Int):=(o7 s f I0 m0).vp o8 r0
theorem Ln(s:List Int)(f:Pln)(ok:xf s f):∃I m,qW s f I m (i7 (λy=>gf y f) s):=by
 refine⟨λt=>bP s (λy=>gf y f=false) t,λt=>s.length-t.toNat,?_⟩
 simp only[xf,okU,Blk.ok,aK,List.length_map]at ok
 dsimp only[qW,o7,xe,Ax.vp,Ax.vc];simp only[vcU,rfU,List.length_map]
 exact⟨bP.zero,λt h=>⟨λc=>⟨h.idx,c,λx hx=>⟨λq=>h.found hx q,λq=>h.step (by omega) hx q⟩⟩,λc=>h.lost c⟩⟩
def Lo(s:List Int)(f:Pln):PC Tryz.prog:=⟨176,[(.s 1),.k],[.sl 1 (s.map AV.int) false,.func 144 [.rptr (.agg [.int f.sub,.int f.len,.sl 2 (f.es.map Edg.v) false]) 0]],o8 (i7 (λy=>gf y f) s),ao.of_ok λok=>(Ln s f ok).elim λI0 h=>h.elim λm0 h=>aj (sh:=.k) (enc:=o8) (a:=(o7 s f I0 m0).an) h (by kernel_rfl) (AV.pureB_ok rfl),ai (by kernel_rfl)⟩
def Lr(s:List Int)(f:Pln):=okL [.sl 1 (s.map AV.int) false,.func 144 [.rptr (.agg [.int f.sub,.int f.len,.sl 2 (f.es.map Edg.v) false]) 0]]
def oA(r:Bool):AV:=.bool r
def o9(s:List Int)(f:Pln):Ax Tryz.prog noS (Bool):=
 (.callP (Lo s f)
(.ret (decide (0≤(i7 (λy=>gf y f) s)))))
def qX(s:List Int)(f:Pln)(r0:Bool):=(o9 s f).vp oA r0
theorem Lp(s:List Int)(f:Pln)(ok:Lr s f):qX s f (s.any λy=>gf y f):=by
 dsimp only[qX,o9,noS,Ax.vp,Ax.vc];simp only[vcU,rfU,List.length_map]
 exact kE _ _
def Lq(s:List Int)(f:Pln):PC Tryz.prog:=⟨143,[(.s 1),.k],[.sl 1 (s.map AV.int) false,.func 144 [.rptr (.agg [.int f.sub,.int f.len,.sl 2 (f.es.map Edg.v) false]) 0]],oA (s.any λy=>gf y f),ao.of_ok λok=>aj (sh:=.k) (enc:=oA) (a:=(o9 s f).an) (Lp s f ok) (by kernel_rfl) (AV.pureB_ok rfl),ai (by kernel_rfl)⟩
def cg(id len:Int):Int×Int×Bool:=if bw len=true∧1≤id∧id≤256 then((id-1).tdiv len,(id-1).tmod len,true)else(0,0,false)
theorem gB{n:Int}:bw n=true↔n=8∨n=16∨n=32∨n=64:=decide_eq_true_iff
def UW(id:Int)(length:Int):=okL [.int id,.int length]
def Qy(id:Int)(length:Int)(t0:Bool):NF:=⟨[(0,.k,.int id),(1,.k,.int length),(14,.k,.bool t0)],[]⟩
@[reducible] def KM:Nat→Type
 | 0=>Bool
 | _=>Unit
def AQ(r:Int×Int×Bool):AV:=.tup [.int r.1,.int r.2.1,.bool r.2.2]
def AP(id:Int)(length:Int)(I0:Bool→Prop):Ax Tryz.prog KM (Int×Int×Bool):=
 (.pass (.pass (.join 0 (Qy id length) (λ(t0:Bool)=>I0 t0) (λb0=>(.callP (mO length)
(.br 112 (!(bw length)) (.bk 0 b0 ((true):Bool) [])
(.callP (Fm id 1 256)
(.bk 0 b0 ((!(inP id 1 256)):Bool) []))))) λ(t0:Bool) =>
(.br 0 t0 (.ret (0,0,false))
(.say (λR=>ck (!(length==0))
((ck (!(length==0))
R))) (.ret (W ((W (id-1)).tdiv length),(W (id-1)).tmod length,true)))))))
def E7(id:Int)(length:Int)(I0:Bool→Prop)(r0:Int×Int×Bool):=(AP id length I0).vp AQ r0
theorem UU(id len:Int)(ok:UW id len):∃I,E7 id len I (cg id len):=by
 refine⟨λb=>b=decide (¬(bw len=true∧1≤id∧id≤256)),?_⟩
 dsimp only[E7,AP,KM,Ax.vp,Ax.vc];simp only[vcU,rfU,List.length_map]
 refine⟨⟨λc=>?_,λc=>?_⟩,?_⟩
 ·have c:bw len=false:=by simpa using c
  simp[c]
 ·have c:bw len=true:=by simpa using c
  rw[Bool.eq_iff_iff,md,decide_eq_true_iff]
  simp[c]
 ·rintro _ rfl
  refine⟨λc=>?_,λc=>?_⟩
  ·rw[cg,if_neg (of_decide_eq_true c)]
  ·have c:=Classical.not_not.mp (of_decide_eq_false c)
   have hl:=gB.mp c.1
   have h0:(!(len==0))=true:=by simp;omega
   have w1:W (id-1)=id-1:=bB (by omega)
   have hd:0≤(id-1).tdiv len∧(id-1).tdiv len≤id-1:=⟨Int.tdiv_nonneg (by omega) (by omega),Int.tdiv_le_self _ (by omega)⟩
   rw[w1,bB (n:=(id-1).tdiv len) (by omega),cg,if_pos c]
   exact⟨h0,h0,rfl⟩
def UV(id:Int)(length:Int):PC Tryz.prog:=⟨146,[.k,.k],[.int id,.int length],AQ (cg id length),ao.of_ok λok=>(UU id length ok).elim λI0 h=>aj (sh:=.k) (enc:=AQ) (a:=(AP id length I0).an) h (by kernel_rfl) (AV.pureB_ok rfl),ai (by kernel_rfl)⟩
theorem E5{id len:Int}:0≤(cg id len).2.1∧(cg id len).2.1<64∧0≤(cg id len).1∧(cg id len).1≤255:=by
 unfold cg
 split
 ·rename_i c
  have hl:=gB.mp c.1
  have h1:=Int.tmod_nonneg len (show 0≤id-1 by omega)
  have h2:=Int.tmod_lt_of_pos (id-1) (show 0<len by omega)
  have h3:0≤(id-1).tdiv len:=Int.tdiv_nonneg (by omega) (by omega)
  have h4:=Int.tdiv_le_self (b:=len) (show 0≤id-1 by omega)
  simp only;omega
 ·simp
def Oo(s:Stb)(b:Int):Stb:=⟨s.set,bOr .u64 s.bits (sP .u64 1 b)⟩
def lU(len:Int)(out:List Stb)(id:Int):List Stb:=match out.getLast? with
 | some s=>if s.set=(cg id len).1 then out.dropLast++[Oo s (cg id len).2.1]else out++[Oo ⟨(cg id len).1,0⟩ (cg id len).2.1]
 | none=>[Oo ⟨(cg id len).1,0⟩ (cg id len).2.1]
def bj(p:Pln)(ids:List Int):List Stb×Int:=
 if bI p=false then([],1)else if ¬ids.Pairwise (·<·)then([],25)else if(ids.any λy=>gf y p)=true then([],4)else(ids.foldl (lU p.len) [],0)
theorem Pq{l:List Int}{k:Nat}{x y:Int}(h:(l.take k).Pairwise (·<·))(h0:0<k)(h1:l[k-1]?=some x)(h2:l[k]?=some y):(l.take (k+1)).Pairwise (·<·)↔x<y:=by
 rw[ax h2,List.pairwise_append]
 constructor
 ·rintro⟨_,_,q⟩
  exact q x (List.mem_take_iff_getElem.mpr ⟨k-1,by have:=ay h1;omega,by rw[List.getElem?_eq_getElem (ay h1)]at h1;exact Option.some.inj h1⟩) y (by simp)
 ·intro q
  refine⟨h,List.pairwise_singleton _ _,λa ha b hb=>?_⟩
  rw[List.mem_singleton]at hb;subst hb
  obtain⟨i,hi,rfl⟩:=List.mem_take_iff_getElem.mp ha
  have hk:=ay h2
  rw[List.getElem?_eq_getElem (by omega)]at h1
  have h1:=Option.some.inj h1
  by_cases e:i=k-1
  ·subst e;rw[h1];exact q
  ·rw[List.pairwise_iff_getElem]at h
   have:=h i (k-1) (by simp;omega) (by simp;omega) (by omega)
   rw[List.getElem_take,List.getElem_take,h1]at this
   omega
theorem je{len id:Int}{out:List Stb}:(lU len out id).length≤out.length+1:=by
 unfold lU
 split
 ·split
  ·simp
  ·simp
 ·simp
theorem ie{α:Type}(l:List α):l=[]∨∃i x,l=i++[x]:=by
 rcases List.eq_nil_or_concat l with h|⟨i,x,h⟩
 ·exact .inl h
 ·exact .inr ⟨i,x,by rw[h,List.concat_eq_append]⟩
def Ec(p:Pln)(ids:List Int):=okL [.agg [.int p.sub,.int p.len,.sl 2 (p.es.map Edg.v) false],.sl 1 (ids.map AV.int) false]
def Ke(p:Pln)(ids:List Int)(t0:Int):NF:=⟨[(1,.k,.sl 1 (ids.map AV.int) false),(2,.k,.ref 0 0),(18,.k,.int ((ids.map AV.int).length:Int)),(19,.k,.int t0)],[.box (.agg [.int p.sub,.int p.len,.sl 2 (p.es.map Edg.v) false])]⟩
def Kd(p:Pln)(ids:List Int)(t0:Int)(t1:Bool):NF:=⟨[(1,.k,.sl 1 (ids.map AV.int) false),(2,.k,.ref 0 0),(18,.k,.int ((ids.map AV.int).length:Int)),(19,.k,.int t0),(35,.k,.bool t1)],[.box (.agg [.int p.sub,.int p.len,.sl 2 (p.es.map Edg.v) false])]⟩
def Kc(p:Pln)(ids:List Int)(t2:Int×List Stb):NF:=⟨[(2,.k,.ref 0 0),(7,.k,.vec 1),(40,.k,.sl 1 (ids.map AV.int) false),(41,.k,.int ((ids.map AV.int).length:Int)),(42,.k,.int t2.1)],[.box (.agg [.int p.sub,.int p.len,.sl 2 (p.es.map Edg.v) false]),.vec 2 (t2.2.map Stb.v) (ab (λ_=>rfl) t2.2)]⟩
def Kb(p:Pln)(ids:List Int)(t2:Int×List Stb)(x3:Int)(t3:List Stb):NF:=⟨[(2,.k,.ref 0 0),(7,.k,.vec 1),(11,.k,.int ((cg x3 p.len).2.1)),(40,.k,.sl 1 (ids.map AV.int) false),(41,.k,.int ((ids.map AV.int).length:Int)),(42,.k,.int t2.1)],[.box (.agg [.int p.sub,.int p.len,.sl 2 (p.es.map Edg.v) false]),.vec 2 (t3.map Stb.v) (ab (λ_=>rfl) t3)]⟩
def Ka(p:Pln)(ids:List Int)(t2:Int×List Stb)(x3:Int)(t4:Bool):NF:=⟨[(2,.k,.ref 0 0),(7,.k,.vec 1),(10,.k,.int ((cg x3 p.len).1)),(11,.k,.int ((cg x3 p.len).2.1)),(40,.k,.sl 1 (ids.map AV.int) false),(41,.k,.int ((ids.map AV.int).length:Int)),(42,.k,.int t2.1),(67,.k,.bool t4)],[.box (.agg [.int p.sub,.int p.len,.sl 2 (p.es.map Edg.v) false]),.vec 2 (t2.2.map Stb.v) (ab (λ_=>rfl) t2.2)]⟩
@[reducible] def Eb:Nat→Type
 | 0=>Int
 | 1=>Bool
 | 2=>Int×List Stb
 | 3=>(List Stb)
 | 4=>Bool
 | _=>Unit
def sT(r:List Stb×Int):AV:=.tup [.sl 2 (r.1.map Stb.v) false,.int r.2]
def sS(p:Pln)(ids:List Int)(I0:Int→Prop)(m0:Int→Nat)(I1:Int→Bool→Prop)(I2:Int→(Int×List Stb)→Prop)(m2:Int→(Int×List Stb)→Nat)(I3:Int→Int×List Stb→Int→(List Stb)→Prop)(I4:Int→Int×List Stb→Int→Bool→Prop):Ax Tryz.prog Eb (List Stb×Int):=
 (.callP (D3 p)
(.br 96 (!(bI p)) (.ret ([],1))
(.loop 0 (Ke p ids) I0 m0 ((0):Int) [0] λ(t0:Int) b0 =>
(.br 17 (decide (t0<((ids.map AV.int).length:Int))) (.pass (.pass (.join 1 (Kd p ids t0) (λ(t1:Bool)=>I1 t0 t1) (λb1=>(.br 97 (decide (0<t0)) (.el 145 AV.int ids (λR=>Rf (ids.map AV.int) (ck (decide (0≤(W (t0-1)))) (ck (decide ((W (t0-1))<(ids.length:Int)))
(∀x1,ids[(W (t0-1)).toNat]?=some x1 →
(R x1))))) λx1 =>
(.el 209 AV.int ids (λR=>Rf (ids.map AV.int) (ck (decide (0≤t0)) (ck (decide (t0<(ids.length:Int)))
(∀x2,ids[t0.toNat]?=some x2 →
(R x2))))) λx2 =>
(.bk 1 b1 ((decide (x2≤x1)):Bool) [0])))
(.bk 1 b1 ((false):Bool) [0]))) λ(t1:Bool) =>
(.br 1 t1 (.ret ([],25))
(.bk 0 b0 ((W (t0+1)):Int) [0])))))
(.callP (Lq ids p)
(.say (ck (bK [[.agg [.int p.sub,.int p.len,.sl 2 (p.es.map Edg.v) false]]])) (.br 65 ((ids).any λy=>gf y p) (.ret ([],4))
(.cmdL (.nilT 7 2) (.loop 2 (Kc p ids) (I2 t0) (m2 t0) (0,[]) [0,129] λ(t2:Int×List Stb) b2 =>
(.br 18 (decide (t2.1<((ids.map AV.int).length:Int))) (.el 18 AV.int ids (λR=>Rf (ids.map AV.int) (ck (decide (0≤t2.1)) (ck (decide (t2.1<(ids.length:Int)))
(∀x3,ids[t2.1.toNat]?=some x3 →
(R x3))))) λx3 =>
(.callP (UV x3 p.len)
(.join 3 (Kb p ids t2 x3) (λ(t3:List Stb)=>I3 t0 t2 x3 t3) (λb3=>(.pass (.join 4 (Ka p ids t2 x3) (λ(t4:Bool)=>I4 t0 t2 x3 t4) (λb4=>(.br 338 (((t2.2.map Stb.v).length:Int)==0) (.bk 4 b4 ((true):Bool) [0,1])
(.say (ck (cond (decide (0≤(W (((t2.2.map Stb.v).length:Int)-1)))) (decide ((W (((t2.2.map Stb.v).length:Int)-1))<((t2.2.map Stb.v).length:Int))) false)) (.el 418 Stb.v t2.2 (λR=>Rf (t2.2.map Stb.v) (ck (decide ((W (((t2.2.map Stb.v).length:Int)-1)).toNat<t2.2.length))
(∀x4,t2.2[(W (((t2.2.map Stb.v).length:Int)-1)).toNat]?=some x4 →
(R x4)))) λx4 =>
(.bk 4 b4 ((x4.set != ((cg x3 p.len).1)):Bool) [0,1]))))) λ(t4:Bool) =>
(.br 2 t4 (.say (λR=>Rf (α:=List AV) (t2.2.map Stb.v) (Rf (α:=List AV) [.agg [.int ((cg x3 p.len).1),.val (.int .u64 0)]]
(ck (decide (t2.2.length+1≤1048576))
R))) (.app 66 Stb.v t2.2 [(⟨(cg x3 p.len).1,0⟩:Stb)]
(.bk 3 b3 ((t2.2++[(⟨(cg x3 p.len).1,0⟩:Stb)]):(List Stb)) [0,66])))
(.bk 3 b3 ((t2.2):(List Stb)) [0,1]))))) λ(t3:List Stb) =>
(.say (ck (cond (decide (0≤(W (((t3.map Stb.v).length:Int)-1)))) (decide ((W (((t3.map Stb.v).length:Int)-1))<((t3.map Stb.v).length:Int))) false)) (.el 98 Stb.v t3 (λR=>Rf (t3.map Stb.v) (ck (decide ((W (((t3.map Stb.v).length:Int)-1)).toNat<t3.length))
(∀x5,t3[(W (((t3.map Stb.v).length:Int)-1)).toNat]?=some x5 →
(R x5)))) λx5 =>
(.say (λR=>ck (decide (0≤((cg x3 p.len).2.1)))
((ck (cond (decide (0≤(W (((t3.map Stb.v).length:Int)-1)))) (decide ((W (((t3.map Stb.v).length:Int)-1))<((t3.map Stb.v).length:Int))) false)
R))) (.st 194 Stb.v t3 (λy6=>(⟨y6.set,bOr .u64 x5.bits (sP .u64 1 ((cg x3 p.len).2.1))⟩:Stb)) (λR=>Rf (t3.map Stb.v) (ck (decide ((W (((t3.map Stb.v).length:Int)-1)).toNat<t3.length))
(∀y6,t3[(W (((t3.map Stb.v).length:Int)-1)).toNat]?=some y6→Rf (Stb.v (⟨y6.set,bOr .u64 x5.bits (sP .u64 1 ((cg x3 p.len).2.1))⟩:Stb))
((R y6))))) λy6 =>
(.bk 2 b2 (W (t2.1+1),t3.set ((W (((t3.map Stb.v).length:Int)-1)).toNat) (⟨y6.set,bOr .u64 x5.bits (sP .u64 1 ((cg x3 p.len).2.1))⟩:Stb)) [0,1]))))))))
(.say (Rf (t2.2.map Stb.v)) (.cmdL (.frzE 1 (t2.2.map Stb.v) (ab (λ_=>rfl) t2.2)) (.ret (t2.2,0))))))))))))))
def wt(p:Pln)(ids:List Int)(I0:Int→Prop)(m0:Int→Nat)(I1:Int→Bool→Prop)(I2:Int→(Int×List Stb)→Prop)(m2:Int→(Int×List Stb)→Nat)(I3:Int→Int×List Stb→Int→(List Stb)→Prop)(I4:Int→Int×List Stb→Int→Bool→Prop)(r0:List Stb×Int):=(sS p ids I0 m0 I1 I2 m2 I3 I4).vp sT r0
theorem P6(p:Pln)(ids:List Int)(ok:Ec p ids):∃I0 m0 I1 I2 m2 I3 I4,wt p ids I0 m0 I1 I2 m2 I3 I4 (bj p ids):=by
 refine⟨λt=>∃k:Nat,t=k∧k≤ids.length∧(ids.take k).Pairwise (·<·),λt=>ids.length-t.toNat,λt b=>b=decide (¬(ids.take (t.toNat+1)).Pairwise (·<·)),
  λ_ t=>fT ids (lU p.len) [] t.1 t.2,λ_ t=>ids.length-t.1.toNat,
  λ_ s x out=>out≠[]∧∃i y,out=i++[y]∧i++[Oo y (cg x p.len).2.1]=lU p.len s.2 x,λ_ s x b=>b=true↔¬∃i y,s.2=i++[y]∧y.set=(cg x p.len).1,?_⟩
 simp only[Ec,okU,Blk.ok,aK,List.length_map]at ok
 dsimp only[wt,sS,Eb,Ax.vp,Ax.vc];simp only[vcU,rfU,List.length_map]
 refine⟨λc=>?_,λc=>⟨⟨0,rfl,by omega,by simp⟩,?_⟩⟩
 ·rw[bj,if_pos (by simpa using c)]
 have c:¬bI p=false:=by simpa using c
 have hB:p.es.length≤24:=by
  have:=(Bool.and_eq_true _ _).mp (Bool.not_eq_false _ ▸ c:bI p=true)
  exact(of_decide_eq_true this.1).2.2
 have hE:oq p.es:=by
  have:=(Bool.and_eq_true _ _).mp (Bool.not_eq_false _ ▸ c:bI p=true)
  exact of_decide_eq_true this.2
 rintro _ ⟨k,rfl,hk,h⟩
 simp only[Int.toNat_natCast]
 refine⟨λd=>⟨⟨λe=>?_,λe=>?_⟩,?_⟩,λd=>⟨rfl,λe=>?_,λe=>⟨fT.zero,?_⟩⟩⟩
 ·rw[dw (by omega) (by omega)]
  simp only[Int.toNat_natCast]
  refine⟨by omega,by omega,λx hx=>⟨by omega,by omega,λy hy=>?_⟩⟩
  rw[decide_eq_decide,Pq h (by omega) hx hy];omega
 ·have:k=0:=by omega
  subst this
  have hy:=List.getElem?_eq_getElem (show 0<ids.length by omega)
  refine(decide_eq_false (not_not_intro ?_)).symm
  rw[ax hy];simp
 ·rintro _ rfl
  refine⟨λe=>?_,λe=>?_⟩
  ·have e:=of_decide_eq_true e
   rw[bj,if_neg c,if_pos λq=>e (q.sublist (List.take_sublist _ _))]
  ·have e:=Classical.not_not.mp (of_decide_eq_false e)
   rw[av (n:=ids.length) (by omega) (by omega)]
   exact⟨⟨k+1,rfl,by omega,e⟩,by omega⟩
 all_goals have hk':k=ids.length:=by omega
 all_goals subst hk'
 all_goals rw[List.take_of_length_le (Nat.le_refl _)]at h
 ·rw[bj,if_neg c,if_neg (not_not_intro h),if_pos e]
 have hl:ids.length≤256:=by
  have hm:∀x∈ids,x∈p.es.map Edg.id:=by
   intro x hx
   rw[List.any_eq_false]at e
   have:=e x hx
   simp only[gf,BM,Bool.not_eq_true',Bool.not_eq_false,List.any_eq_true,kO,beq_iff_eq]at this
   obtain⟨y,hy,q⟩:=this
   exact List.mem_map.mpr ⟨y,hy,q⟩
  have:=l9 (h.imp λq=>by omega) hm
  rw[List.length_map]at this
  omega
 rintro⟨j,out⟩ g
 simp only at g ⊢
 have hlen:=g.len (f:=List.length) (a:=0) (b:=1) (by simp) λs x _=>je
 refine⟨λd2=>⟨g.idx,d2,λx hx=>⟨⟨⟨λq=>?_,λq=>?_⟩,?_⟩,?_⟩⟩,λd2=>?_⟩
 ·have:out=[]:=List.eq_nil_of_length_eq_zero (by have:=eq_of_beq q;omega)
  subst this
  exact iff_of_true trivial (by rintro⟨i,y,r,_⟩;simp at r)
 ·rcases ie out with rfl|⟨i,y,rfl⟩
  ·simp at q
  ·have hil:((i++[y]).length:Int)=((i.length+1:Nat):Int):=by simp
   have w:W (((i++[y]).length:Int)-1)=(i.length:Int):=by rw[hil,bB (by simp at hlen;omega)];omega
   rw[w]
   simp only[Int.toNat_natCast]
   refine⟨eG (by omega) (by rw[hil];omega),by simp,λz hz=>?_⟩
   rw[List.getElem?_append_right (Nat.le_refl _),Nat.sub_self,List.getElem?_cons_zero]at hz
   cases hz
   rw[bne_iff_ne]
   refine not_congr ⟨λr=>⟨i,y,rfl,r⟩,?_⟩
   rintro⟨i',y',r,r2⟩
   have:=(List.append_inj' r rfl).2
   simp only[List.cons.injEq,and_true]at this
   rw[this];exact r2
 ·intro b hb
  refine⟨λq=>?_,λq=>?_⟩
  ·have q:=hb.mp q
   refine⟨by omega,by simp,out,⟨(cg x p.len).1,0⟩,rfl,?_⟩
   rcases ie out with rfl|⟨i,y,rfl⟩
   ·rfl
   ·rw[lU,List.getLast?_concat]
    simp only
    rw[if_neg λr=>q ⟨i,y,rfl,r⟩]
  ·have q:=Classical.not_not.mp λr=>by rw[hb.mpr r]at q;cases q
   obtain⟨i,y,rfl,r⟩:=q
   refine⟨by simp,i,y,rfl,?_⟩
   rw[lU,List.getLast?_concat]
   simp only
   rw[if_pos r,List.dropLast_concat]
 ·rintro out2 ⟨_,i,y,rfl,hadd⟩
  have h2:=je (len:=p.len) (out:=out) (id:=x)
  rw[←hadd,List.length_append,List.length_singleton]at h2
  have hil:((i++[y]).length:Int)=((i.length+1:Nat):Int):=by simp
  have w:W (((i++[y]).length:Int)-1)=(i.length:Int):=by rw[hil,bB (by omega)];omega
  have hp:=E5 (id:=x) (len:=p.len)
  rw[w]
  simp only[Int.toNat_natCast]
  refine⟨eG (by omega) (by rw[hil];omega),by simp,λz hz=>⟨hp.1,eG (by omega) (by rw[hil];omega),by simp,λz2 hz2=>?_⟩⟩
  rw[List.getElem?_append_right (Nat.le_refl _),Nat.sub_self,List.getElem?_cons_zero]at hz hz2
  cases hz;cases hz2
  rw[List.set_append_right _ _ (Nat.le_refl _),Nat.sub_self,List.set_cons_zero]
  exact g.step (by omega) hx hadd
 ·rw[bj,if_neg c,if_neg (not_not_intro h),if_neg (by rw[e];simp),←g.done d2]
def P7(p:Pln)(ids:List Int):PC Tryz.prog:=⟨103,[(.a [.k,.k,(.s 2)]),(.s 1)],[.agg [.int p.sub,.int p.len,.sl 2 (p.es.map Edg.v) false],.sl 1 (ids.map AV.int) false],sT (bj p ids),ao.of_ok λok=>(P6 p ids ok).elim λI0 h=>h.elim λm0 h=>h.elim λI1 h=>h.elim λI2 h=>h.elim λm2 h=>h.elim λI3 h=>h.elim λI4 h=>aj (sh:=(.a [(.s 2),.k])) (enc:=sT) (a:=(sS p ids I0 m0 I1 I2 m2 I3 I4).an) h (by kernel_rfl) (AV.pureB_ok rfl),ai (by kernel_rfl)⟩
def inK(n most:Int):Bool:=decide (0≤n) && decide (n≤most)
def inK_a(n:Int)(most:Int):=okL [.int n,.int most]
def Mk(r:Bool):AV:=.bool r
def Mi(n:Int)(most:Int):Ax Tryz.prog noS (Bool):=
 (.br 64 (decide (0≤n)) (.ret (decide (n≤most)))
(.ret (false)))
def Mj(n:Int)(most:Int)(r0:Bool):=(Mi n most).vp Mk r0
theorem inK_p(n m:Int)(ok:inK_a n m):Mj n m (inK n m):=by
 dsimp only[Mj,Mi,noS,Ax.vp,Ax.vc];simp only[vcU,rfU,List.length_map]
 refine⟨λc=>?_,λc=>?_⟩<;>simp[inK,c]
def rr(n:Int)(most:Int):PC Tryz.prog:=⟨147,[.k,.k],[.int n,.int most],Mk (inK n most),ao.of_ok λok=>aj (sh:=.k) (enc:=Mk) (a:=(Mi n most).an) (inK_p n most ok) (by kernel_rfl) (AV.pureB_ok rfl),ai (by kernel_rfl)⟩
def iW(len:Int):Int:=if bw len=true then shrI .u64 18446744073709551615 (64-len)else 0
def R5(length:Int):=okL [.int length]
def uw(r:Int):AV:=.val (.int .u64 r)
def uv(length:Int):Ax Tryz.prog noS (Int):=
 (.callP (mO length)
(.br 64 (!(bw length)) (.ret (0))
(.say (ck (decide (0≤(W (64-length))))) (.ret (shrI .u64 18446744073709551615 (W (64-length)))))))
def yg(length:Int)(r0:Int):=(uv length).vp uw r0
theorem R3(len:Int)(ok:R5 len):yg len (iW len):=by
 dsimp only[yg,uv,noS,Ax.vp,Ax.vc];simp only[vcU,rfU,List.length_map]
 refine⟨λc=>?_,λc=>?_⟩
 ·have c:bw len=false:=by simpa using c
  rw[iW,if_neg (by rw[c];simp)]
 ·have c:bw len=true:=by simpa using c
  have:=gB.mp c
  rw[bB (by omega),iW,if_pos c]
  exact⟨by omega,rfl⟩
def R4(length:Int):PC Tryz.prog:=⟨178,[.k],[.int length],uw (iW length),ao.of_ok λok=>aj (sh:=.k) (enc:=uw) (a:=(uv length).an) (R3 length ok) (by kernel_rfl) (AV.pureB_ok rfl),ai (by kernel_rfl)⟩
def n9(b len:Int):Bool:=bw len && (NV .u64 b (iW len)==0)
def TW(b:Int)(length:Int):=okL [.val (.int .u64 b),.int length]
def zT(r:Bool):AV:=.bool r
def zS(b:Int)(length:Int):Ax Tryz.prog noS (Bool):=
 (.callP (mO length)
(.br 64 (bw length) (.callP (R4 length)
(.ret ((NV .u64 b (iW length))==0)))
(.ret (false))))
def D8(b:Int)(length:Int)(r0:Bool):=(zS b length).vp zT r0
theorem TU(b len:Int)(ok:TW b len):D8 b len (n9 b len):=by
 dsimp only[D8,zS,noS,Ax.vp,Ax.vc];simp only[vcU,rfU,List.length_map]
 refine⟨λc=>?_,λc=>?_⟩<;>rw[n9,c]<;>rfl
def TV(b:Int)(length:Int):PC Tryz.prog:=⟨148,[.k,.k],[.val (.int .u64 b),.int length],zT (n9 b length),ao.of_ok λok=>aj (sh:=.k) (enc:=zT) (a:=(zS b length).an) (TU b length ok) (by kernel_rfl) (AV.pureB_ok rfl),ai (by kernel_rfl)⟩
def jI(p:Pkt):Bool:=decide (1≤p.mode) && (decide (p.mode≤3) && (inK p.sub 7 && (inK p.set 31 && (n9 p.bits p.len && (inK p.ttl 63 && (inK p.ent 1023 && (inK p.ing 256 && (inK p.proto 7 && decide ((p.pay.size:Int)≤64)))))))))
def TQ(p:Pkt):=okL [.agg [.int p.mode,.int p.sub,.int p.set,.int p.len,.int p.ttl,.int p.ent,.int p.ing,.int p.proto,.val (.int .u64 p.bits),.str p.pay]]
def zO(r:Bool):AV:=.bool r
def zN(p:Pkt):Ax Tryz.prog noS (Bool):=
 (.br 96 (decide (1≤p.mode)) (.br 176 (decide (p.mode≤3)) (.callP (rr p.sub 7)
(.br 256 (inK p.sub 7) (.callP (rr p.set 31)
(.br 336 (inK p.set 31) (.callP (TV p.bits p.len)
(.br 448 (n9 p.bits p.len) (.callP (rr p.ttl 63)
(.br 528 (inK p.ttl 63) (.callP (rr p.ent 1023)
(.br 608 (inK p.ent 1023) (.callP (rr p.ing 256)
(.br 688 (inK p.ing 256) (.callP (rr p.proto 7)
(.br 768 (inK p.proto 7) (.ret (decide ((p.pay.size:Int)≤64)))
(.ret (false))))
(.ret (false))))
(.ret (false))))
(.ret (false))))
(.ret (false))))
(.ret (false))))
(.ret (false))))
(.ret (false)))
(.ret (false)))
def D6(p:Pkt)(r0:Bool):=(zN p).vp zO r0
theorem TO(p:Pkt)(ok:TQ p):D6 p (jI p):=by
 dsimp only[D6,zN,noS,Ax.vp,Ax.vc];simp only[vcU,rfU,List.length_map]
 unfold jI
 by_cases h1:1≤p.mode<;>by_cases h2:p.mode≤3<;>cases inK p.sub 7<;>cases inK p.set 31<;>cases n9 p.bits p.len<;>cases inK p.ttl 63<;>cases inK p.ent 1023<;>cases inK p.ing 256<;>cases inK p.proto 7<;>simp[h1,h2]
def TP(p:Pkt):PC Tryz.prog:=⟨104,[.k],[.agg [.int p.mode,.int p.sub,.int p.set,.int p.len,.int p.ttl,.int p.ent,.int p.ing,.int p.proto,.val (.int .u64 p.bits),.str p.pay]],zO (jI p),ao.of_ok λok=>aj (sh:=.k) (enc:=zO) (a:=(zN p).an) (TO p ok) (by kernel_rfl) (AV.pureB_ok rfl),ai (by kernel_rfl)⟩
def mkQ(p:Pln)(q:Pkt)(s:Stb):Pkt:=⟨q.mode,p.sub,s.set,p.len,q.ttl,q.ent,q.ing,q.proto,s.bits,q.pay⟩
def jL(p:Pln)(ids:List Int)(q:Pkt):List Pkt×Int:=
 if(bj p ids).2≠0 then([],(bj p ids).2)else if ¬∀s∈(bj p ids).1,jI (mkQ p q s)=true then([],1)else((bj p ids).1.map (mkQ p q),0)
theorem rE{len:Int}:∀{ids:List Int} {out:List Stb},(ids.foldl (lU len) out).length≤out.length+ids.length
 | [],out=>by simp
 | x::ids,out=>by
  have h1:=rE (len:=len) (ids:=ids) (out:=lU len out x)
  have h2:=je (len:=len) (out:=out) (id:=x)
  simp only[List.foldl_cons,List.length_cons];omega
theorem qJ(p:Pln)(ids:List Int):(bj p ids).1.length≤ids.length:=by
 unfold bj
 repeat' split
 all_goals simp
 exact Nat.le_trans rE (by simp)
def VO(p:Pln)(ids:List Int)(q:Pkt):=okL [.agg [.int p.sub,.int p.len,.sl 2 (p.es.map Edg.v) false],.sl 1 (ids.map AV.int) false,.agg [.int q.mode,.int q.sub,.int q.set,.int q.len,.int q.ttl,.int q.ent,.int q.ing,.int q.proto,.val (.int .u64 q.bits),.str q.pay]]
def Rh(p:Pln)(ids:List Int)(t0:Int×Pkt×List Pkt):NF:=⟨[(3,.k,.ref 0 0),(5,.k,.ref 1 0),(10,.k,.vec 2),(22,.k,.sl 2 (((bj p ids).1).map Stb.v) false),(23,.k,.int ((((bj p ids).1).map Stb.v).length:Int)),(24,.k,.int t0.1)],[.box (.agg [.int p.sub,.int p.len,.sl 2 (p.es.map Edg.v) false]),.box (.agg [.int t0.2.1.mode,.int t0.2.1.sub,.int t0.2.1.set,.int t0.2.1.len,.int t0.2.1.ttl,.int t0.2.1.ent,.int t0.2.1.ing,.int t0.2.1.proto,.val (.int .u64 t0.2.1.bits),.str t0.2.1.pay]),.vec 10 (t0.2.2.map Pkt.v) (ab (λ_=>rfl) t0.2.2)]⟩
@[reducible] def LZ:Nat→Type
 | 0=>Int×Pkt×List Pkt
 | _=>Unit
def BC(r:List Pkt×Int):AV:=.tup [.sl 10 (r.1.map Pkt.v) false,.int r.2]
def BB(p:Pln)(ids:List Int)(q:Pkt)(I0:(Int×Pkt×List Pkt)→Prop)(m0:(Int×Pkt×List Pkt)→Nat):Ax Tryz.prog LZ (List Pkt×Int):=
 (.callP (P7 p ids)
(.br 224 (((bj p ids).2) != 0) (.ret ([],(bj p ids).2))
(.cmdL (.nilT 10 10) (.loop 0 (Rh p ids) I0 m0 (0,q,[]) [0,16,288] λ(t0:Int×Pkt×List Pkt) b0 =>
(.br 19 (decide (t0.1<((((bj p ids).1).map Stb.v).length:Int))) (.el 19 Stb.v ((bj p ids).1) (λR=>Rf (((bj p ids).1).map Stb.v) (ck (decide (0≤t0.1)) (ck (decide (t0.1<(((bj p ids).1).length:Int)))
(∀x1,((bj p ids).1)[t0.1.toNat]?=some x1 →
(R x1))))) λx1 =>
(.callP (TP (⟨t0.2.1.mode,p.sub,x1.set,p.len,t0.2.1.ttl,t0.2.1.ent,t0.2.1.ing,t0.2.1.proto,x1.bits,t0.2.1.pay⟩:Pkt))
(.br 387 (!(jI (⟨t0.2.1.mode,p.sub,x1.set,p.len,t0.2.1.ttl,t0.2.1.ent,t0.2.1.ing,t0.2.1.proto,x1.bits,t0.2.1.pay⟩:Pkt))) (.ret ([],1))
(.say (λR=>Rf (α:=List AV) (t0.2.2.map Pkt.v) (Rf (α:=List AV) [.agg [.int t0.2.1.mode,.int p.sub,.int x1.set,.int p.len,.int t0.2.1.ttl,.int t0.2.1.ent,.int t0.2.1.ing,.int t0.2.1.proto,.val (.int .u64 x1.bits),.str t0.2.1.pay]]
(ck (decide (t0.2.2.length+1≤1048576))
R))) (.app 435 Pkt.v t0.2.2 [(⟨t0.2.1.mode,p.sub,x1.set,p.len,t0.2.1.ttl,t0.2.1.ent,t0.2.1.ing,t0.2.1.proto,x1.bits,t0.2.1.pay⟩:Pkt)]
(.bk 0 b0 (W (t0.1+1),(⟨t0.2.1.mode,p.sub,x1.set,p.len,t0.2.1.ttl,t0.2.1.ent,t0.2.1.ing,t0.2.1.proto,x1.bits,t0.2.1.pay⟩:Pkt),t0.2.2++[(⟨t0.2.1.mode,p.sub,x1.set,p.len,t0.2.1.ttl,t0.2.1.ent,t0.2.1.ing,t0.2.1.proto,x1.bits,t0.2.1.pay⟩:Pkt)]) [0,1,435]))))))
(.say (Rf (t0.2.2.map Pkt.v)) (.cmdL (.frzE 2 (t0.2.2.map Pkt.v) (ab (λ_=>rfl) t0.2.2)) (.ret (t0.2.2,0)))))))))
def Fk(p:Pln)(ids:List Int)(q:Pkt)(I0:(Int×Pkt×List Pkt)→Prop)(m0:(Int×Pkt×List Pkt)→Nat)(r0:List Pkt×Int):=(BB p ids q I0 m0).vp BC r0
theorem VM(p:Pln)(ids:List Int)(q:Pkt)(h:ids.length≤1000)(ok:VO p ids q):∃I0 m0,Fk p ids q I0 m0 (jL p ids q):=by
 refine⟨λt=>dI (bj p ids).1 (λs=>[mkQ p q s]) t.1 t.2.2∧bP (bj p ids).1 (λs=>jI (mkQ p q s)=true) t.1∧∀s,mkQ p t.2.1 s=mkQ p q s,λt=>(bj p ids).1.length-t.1.toNat,?_⟩
 dsimp only[Fk,BB,LZ,Ax.vp,Ax.vc];simp only[vcU,rfU,List.length_map]
 have hl:=qJ p ids
 refine⟨λc=>?_,λc=>⟨⟨dI.zero,bP.zero,λ_=>trivial⟩,?_⟩⟩
 ·rw[jL,if_pos (by simpa using c)]
 have c:¬(bj p ids).2≠0:=by simpa using c
 rintro⟨i,q2,out⟩ ⟨h1,h2,h3⟩
 simp only at h1 h2 h3 ⊢
 have hlen:=h1.len (b:=1) (by simp)
 refine⟨λd=>⟨h1.idx,d,λs hs=>⟨λe=>?_,λe=>⟨by omega,?_⟩⟩⟩,λd=>?_⟩
 ·have e:jI (mkQ p q s)=false:=by rw[←h3 s];exact Bool.not_eq_true' _ |>.mp e
  rw[jL,if_neg c,if_pos λr=>by rw[r s (lT hs)]at e;cases e]
 ·have e:jI (mkQ p q s)=true:=by rw[←h3 s];exact Bool.not_eq_false' _ |>.mp e
  obtain⟨a,b⟩:=h1.step (out':=out++[mkQ p q2 s]) (by omega) hs (by rw[h3 s])
  obtain⟨a2,_⟩:=h2.step (by omega) hs e
  exact⟨⟨a,a2,λz=>by rw[←h3 z];rfl⟩,b⟩
 ·rw[jL,if_neg c,if_neg (not_not_intro (h2.done d)),h1.done d,dv]
def VN(p:Pln)(ids:List Int)(q:Pkt)(h:ids.length≤1000):PC Tryz.prog:=⟨55,[(.a [.k,.k,(.s 2)]),(.s 1),.k],[.agg [.int p.sub,.int p.len,.sl 2 (p.es.map Edg.v) false],.sl 1 (ids.map AV.int) false,.agg [.int q.mode,.int q.sub,.int q.set,.int q.len,.int q.ttl,.int q.ent,.int q.ing,.int q.proto,.val (.int .u64 q.bits),.str q.pay]],BC (jL p ids q),ao.of_ok λok=>(VM p ids q h ok).elim λI0 h=>h.elim λm0 h=>aj (sh:=(.a [(.s 10),.k])) (enc:=BC) (a:=(BB p ids q I0 m0).an) h (by kernel_rfl) (AV.pureB_ok rfl),ai (by kernel_rfl)⟩
def pz(s g:Int):Int:=W ((IntKind.u32.wrap (IntKind.u32.wrap (IntKind.u32.wrap (IntKind.u32.wrap s * 31)+IntKind.u32.wrap g) * 2654435761)).fdiv 4194304)
def W9(source:Int)(group:Int):=okL [.int source,.int group]
def Cu(r:Int):AV:=.int r
def Ct(source:Int)(group:Int):Ax Tryz.prog noS (Int):=
 (.ret (W (Int.fdiv (IntKind.u32.wrap ((IntKind.u32.wrap ((IntKind.u32.wrap ((IntKind.u32.wrap source) * 31))+(IntKind.u32.wrap group))) * 2654435761)) 4194304)))
def FN(source:Int)(group:Int)(r0:Int):=(Ct source group).vp Cu r0
theorem W7(s g:Int)(ok:W9 s g):FN s g (pz s g):=by
 dsimp only[FN,Ct,noS,Ax.vp,Ax.vc];simp only[vcU,rfU,List.length_map]
 rfl
def W8(source:Int)(group:Int):PC Tryz.prog:=⟨56,[.k,.k],[.int source,.int group],Cu (pz source group),ao.of_ok λok=>aj (sh:=.k) (enc:=Cu) (a:=(Ct source group).an) (W7 source group ok) (by kernel_rfl) (AV.pureB_ok rfl),ai (by kernel_rfl)⟩
def ql(p:Pln)(r:Int):Int:=match p.es.find? λe=>e.router==r with
 | some e=>e.id
 | none=>0
theorem bP.find{α:Type}{l:List α}{t:Int}{x:α}{p:α→Bool}(h:bP l (λy=>p y=false) t)(hx:l[t.toNat]?=some x)(hp:p x=true):l.find? p=some x:=by
 obtain⟨k,rfl,hk,ha⟩:=h
 rw[Int.toNat_natCast]at hx
 rw[List.find?_eq_some_iff_getElem]
 have hlt:=ay hx
 refine⟨hp,k,hlt,by rw[List.getElem?_eq_getElem hlt]at hx;exact Option.some.inj hx,λj hj=>?_⟩
 rw[ha _ (List.mem_take_iff_getElem.mpr ⟨j,by omega,rfl⟩)];rfl
theorem bP.nofind{α:Type}{l:List α}{t:Int}{p:α→Bool}(h:bP l (λy=>p y=false) t)(c:¬t<l.length):l.find? p=none:=by
 rw[List.find?_eq_none]
 exact λx hx=>by rw[h.done c x hx];simp
def KZ(p:Pln)(router:Int):=okL [.agg [.int p.sub,.int p.len,.sl 2 (p.es.map Edg.v) false],.int router]
def Q4(p:Pln)(router:Int)(t0:Int):NF:=⟨[(1,.k,.int router),(8,.k,.sl 2 (p.es.map Edg.v) false),(9,.k,.int ((p.es.map Edg.v).length:Int)),(10,.k,.int t0)],[]⟩
@[reducible] def KY:Nat→Type
 | 0=>Int
 | _=>Unit
def Bc(r:Int):AV:=.int r
def Bb(p:Pln)(router:Int)(I0:Int→Prop)(m0:Int→Nat):Ax Tryz.prog KY (Int):=
 (.loop 0 (Q4 p router) I0 m0 ((0):Int) [] λ(t0:Int) b0 =>
(.br 16 (decide (t0<((p.es.map Edg.v).length:Int))) (.el 16 Edg.v p.es (λR=>Rf (p.es.map Edg.v) (ck (decide (0≤t0)) (ck (decide (t0<(p.es.length:Int)))
(∀x1,p.es[t0.toNat]?=some x1 →
(R x1))))) λx1 =>
(.br 144 (x1.router==router) (.ret (x1.id))
(.bk 0 b0 ((W (t0+1)):Int) [])))
(.ret (0))))
def EF(p:Pln)(router:Int)(I0:Int→Prop)(m0:Int→Nat)(r0:Int):=(Bb p router I0 m0).vp Bc r0
theorem Vg(p:Pln)(r:Int)(ok:KZ p r):∃I m,EF p r I m (ql p r):=by
 refine⟨λt=>bP p.es (λe=>(e.router==r)=false) t,λt=>p.es.length-t.toNat,?_⟩
 simp only[KZ,okU,Blk.ok,aK,List.length_map]at ok
 dsimp only[EF,Bb,KY,Ax.vp,Ax.vc];simp only[vcU,rfU,List.length_map]
 refine⟨bP.zero,λt h=>⟨λc=>⟨h.idx,c,λx hx=>⟨λq=>?_,λq=>h.step (by omega) hx q⟩⟩,λc=>?_⟩⟩
 ·rw[ql,h.find (p:=λe=>e.router==r) hx q]
 ·rw[ql,h.nofind (p:=λe=>e.router==r) c]
def Vh(p:Pln)(router:Int):PC Tryz.prog:=⟨57,[(.a [.k,.k,(.s 2)]),.k],[.agg [.int p.sub,.int p.len,.sl 2 (p.es.map Edg.v) false],.int router],Bc (ql p router),ao.of_ok λok=>(Vg p router ok).elim λI0 h=>h.elim λm0 h=>aj (sh:=.k) (enc:=Bc) (a:=(Bb p router I0 m0).an) h (by kernel_rfl) (AV.pureB_ok rfl),ai (by kernel_rfl)⟩
def j6(o:Ovl)(p:Pln)(at_:Int)(f:Flw)(d:ByteArray):List Pkt×Int:=
 if(aP o p at_ f).2≠0 then([],(aP o p at_ f).2)else if(dx f d).2≠0 then([],(dx f d).2)
 else jL p (aP o p at_ f).1 ⟨1,0,0,0,63,pz f.src f.grp,ql p at_,1,0,(dx f d).1⟩
theorem wN(o:Ovl)(p:Pln)(at_:Int)(f:Flw):(aP o p at_ f).1.length≤24:=by
 unfold aP
 split
 ·simp
 split
 ·simp
 rename_i c
 have hB:p.es.length≤24:=by
  have:=(Bool.and_eq_true _ _).mp (Bool.not_eq_false _ ▸ c:bI p=true)
  exact(of_decide_eq_true this.1).2.2
 split
 ·simp
 split
 ·simp
 have key:∀l:List Edg,(l.flatMap (lv o at_ f)).length≤l.length:=by
  intro l
  induction l with
  | nil=>simp
  | cons e l ih =>
   rw[List.flatMap_cons,List.length_append,List.length_cons]
   have:(lv o at_ f e).length≤1:=ol
   omega
 exact Nat.le_trans (key _) hB
def Vd(o:Ovl)(p:Pln)(at_:Int)(f:Flw)(data:ByteArray):=okL [.agg [.sl 5 (o.sp.map Spk.v) false,.sl 3 (o.ls.map Lsn.v) false,.sl 10 (o.fl.map Sig.v) false],.agg [.int p.sub,.int p.len,.sl 2 (p.es.map Edg.v) false],.int at_,.agg [.int f.src,.int f.grp],.str data]
def AZ(r:List Pkt×Int):AV:=.tup [.sl 10 (r.1.map Pkt.v) false,.int r.2]
def AY(o:Ovl)(p:Pln)(at_:Int)(f:Flw)(data:ByteArray):Ax Tryz.prog noS (List Pkt×Int):=
 (.callP (tk o p at_ f)
(.br 272 (((aP o p at_ f).2) != 0) (.ret ([],(aP o p at_ f).2))
(.req 304 (data.size≤1000000) λh1 =>
(.callP (z8 f data h1)
(.br 432 (((dx f data).2) != 0) (.ret ([],(dx f data).2))
(.callP (W8 f.src f.grp)
(.callP (Vh p at_)
(.req 624 (((aP o p at_ f).1).length≤1000) λh2 =>
(.callP (VN p ((aP o p at_ f).1) (⟨1,0,0,0,63,pz f.src f.grp,ql p at_,1,0,(dx f data).1⟩:Pkt) h2)
(.ret ((jL p ((aP o p at_ f).1) (⟨1,0,0,0,63,pz f.src f.grp,ql p at_,1,0,(dx f data).1⟩:Pkt)).1,(jL p ((aP o p at_ f).1) (⟨1,0,0,0,63,pz f.src f.grp,ql p at_,1,0,(dx f data).1⟩:Pkt)).2)))))))))))
def EA(o:Ovl)(p:Pln)(at_:Int)(f:Flw)(data:ByteArray)(r0:List Pkt×Int):=(AY o p at_ f data).vp AZ r0
theorem Vb(o:Ovl)(p:Pln)(at_:Int)(f:Flw)(d:ByteArray)(h:d.size≤1000000)(ok:Vd o p at_ f d):EA o p at_ f d (j6 o p at_ f d):=by
 dsimp only[EA,AY,noS,Ax.vp,Ax.vc];simp only[vcU,rfU,List.length_map]
 have:=wN o p at_ f
 refine⟨λc=>?_,λc=>⟨h,λe=>?_,λe=>⟨by omega,?_⟩⟩⟩
 ·rw[j6,if_pos (by simpa using c)]
 ·rw[j6,if_neg (by simpa using c),if_pos (by simpa using e)]
 ·rw[j6,if_neg (by simpa using c),if_neg (by simpa using e)]
def Vc(o:Ovl)(p:Pln)(at_:Int)(f:Flw)(data:ByteArray)(h:data.size≤1000000):PC Tryz.prog:=⟨16,[(.a [(.s 5),(.s 3),(.s 10)]),(.a [.k,.k,(.s 2)]),.k,.k,.k],[.agg [.sl 5 (o.sp.map Spk.v) false,.sl 3 (o.ls.map Lsn.v) false,.sl 10 (o.fl.map Sig.v) false],.agg [.int p.sub,.int p.len,.sl 2 (p.es.map Edg.v) false],.int at_,.agg [.int f.src,.int f.grp],.str data],AZ (j6 o p at_ f data),ao.of_ok λok=>aj (sh:=(.a [(.s 10),.k])) (enc:=AZ) (a:=(AY o p at_ f data).an) (Vb o p at_ f data h ok) (by kernel_rfl) (AV.pureB_ok rfl),ai (by kernel_rfl)⟩
abbrev vS:=bw
def OX(n:Int):=okL [.int n]
def sm(r:Bool):AV:=.bool r
def sk(n:Int):Ax Tryz.prog noS (Bool):=
 (.br 64 (n==8) (.ret (true))
(.br 128 (n==16) (.ret (true))
(.br 192 (n==32) (.ret (true))
(.ret (n==64)))))
def vR(n:Int)(r0:Bool):=(sk n).vp sm r0
theorem OW(n:Int)(ok:OX n):vR n (vS n):=by
 dsimp only[vR,sk,noS,Ax.vp,Ax.vc];simp only[vcU,rfU,List.length_map]
 refine⟨λc=>?_,λc=>⟨λd=>?_,λd=>⟨λe=>?_,λe=>?_⟩⟩⟩
 ·rw[vS,bw,decide_eq_true (.inl (eq_of_beq c))]
 ·rw[vS,bw,decide_eq_true (.inr (.inl (eq_of_beq d)))]
 ·rw[vS,bw,decide_eq_true (.inr (.inr (.inl (eq_of_beq e))))]
 ·have c:¬n=8:=by simpa using c
  have d:¬n=16:=by simpa using d
  have e:¬n=32:=by simpa using e
  rw[vS,bw,Bool.eq_iff_iff,beq_iff_eq,decide_eq_true_eq]
  simp[c,d,e]
def mN(n:Int):PC Tryz.prog:=⟨65,[.k],[.int n],sm (bw n),ao.of_ok λok=>aj (sh:=.k) (enc:=sm) (a:=(sk n).an) (OW n ok) (by kernel_rfl) (AV.pureB_ok rfl),ai (by kernel_rfl)⟩
abbrev insR:=inP
def VG(n:Int)(low:Int)(high:Int):=okL [.int n,.int low,.int high]
def B6(r:Bool):AV:=.bool r
def B5(n:Int)(low:Int)(high:Int):Ax Tryz.prog noS (Bool):=
 (.br 80 (decide (low≤n)) (.ret (decide (n≤high)))
(.ret (false)))
def Ff(n:Int)(low:Int)(high:Int)(r0:Bool):=(B5 n low high).vp B6 r0
theorem VF(n a b:Int)(ok:VG n a b):Ff n a b (insR n a b):=by
 dsimp only[Ff,B5,noS,Ax.vp,Ax.vc];simp only[vcU,rfU,List.length_map]
 refine⟨λc=>?_,λc=>?_⟩<;>simp[insR,inP,c]
def ua(n:Int)(low:Int)(high:Int):PC Tryz.prog:=⟨66,[.k,.k,.k],[.int n,.int low,.int high],B6 (inP n low high),ao.of_ok λok=>aj (sh:=.k) (enc:=B6) (a:=(B5 n low high).an) (VF n low high ok) (by kernel_rfl) (AV.pureB_ok rfl),ai (by kernel_rfl)⟩
def bitsN(n m:Nat):List Nat:=(List.range m).filter λb=>n.testBit b
def idsS(len:Nat)(s:Stb):List Int:=(bitsN s.bits.toNat len).map λ(b:Nat)=>s.set * (len:Int)+(b:Int)+1
def flatS(len:Nat)(S:List Stb):List Int:=S.flatMap (idsS len)
structure Good (len:Nat) (d:List Int) (out:List Stb):Prop where
  flat:flatS len out=d
  bits:∀s∈out,∃n:Nat,s.bits=n∧n<2 ^ len∧0≤s.set∧s.set * len≤255
  last:∀i y,out=i++[y]→∃m:Int,d.getLast?=some m∧1≤m∧y.set=(((m-1).toNat / len:Nat):Int)∧∀b,y.bits.toNat.testBit b=true→b≤(m-1).toNat % len
abbrev Jw:=ed
def Jv(f:Flw):=okL [.agg [.int f.src,.int f.grp]]
def nE(r:Bool):AV:=.bool r
def nD(f:Flw):Ax Tryz.prog noS (Bool):=
 (.br 96 (decide (1≤f.src)) (.br 176 (decide (f.src≤99)) (.br 256 (decide (1≤f.grp)) (.ret (decide (f.grp≤99)))
(.ret (false)))
(.ret (false)))
(.ret (false)))
def qB(f:Flw)(r0:Bool):=(nD f).vp nE r0
theorem Ju(f:Flw)(ok:Jv f):qB f (Jw f):=by
 dsimp only[qB,nD,noS,Ax.vp,Ax.vc];simp only[vcU,rfU,List.length_map]
 refine⟨λa=>⟨λb=>⟨λc=>?_,λc=>?_⟩,λb=>?_⟩,λa=>?_⟩<;>simp[Jw,ed, *]
def nF(f:Flw):PC Tryz.prog:=⟨69,[.k],[.agg [.int f.src,.int f.grp]],nE (ed f),ao.of_ok λok=>aj (sh:=.k) (enc:=nE) (a:=(nD f).an) (Ju f ok) (by kernel_rfl) (AV.pureB_ok rfl),ai (by kernel_rfl)⟩
def T5(f:Flw)(data:ByteArray):=okL [.agg [.int f.src,.int f.grp],.str data]
def zy(r:ByteArray×Int):AV:=.tup [.str r.1,.int r.2]
def zx(f:Flw)(data:ByteArray):Ax Tryz.prog noS (ByteArray×Int):=
 (.callP (nF f)
(.br 96 (!(ed f)) (.ret (B [],2))
(.br 160 (decide (64<(W ((data.size:Int)+2)))) (.ret (B [],3))
(.say (ck (decide ((B [UInt8.ofNat ((IntKind.u8.wrap f.src)).toNat,UInt8.ofNat ((IntKind.u8.wrap f.grp)).toNat]).size+data.size≤maxLen))) (.ret ((B [UInt8.ofNat ((IntKind.u8.wrap f.src)).toNat,UInt8.ofNat ((IntKind.u8.wrap f.grp)).toNat])++data,0))))))
def Dp(f:Flw)(data:ByteArray)(r0:ByteArray×Int):=(zx f data).vp zy r0
theorem T4(f:Flw)(d:ByteArray)(h:d.size≤1000000)(ok:T5 f d):Dp f d (dx f d):=by
 dsimp only[Dp,zx,noS,Ax.vp,Ax.vc];simp only[vcU,rfU,List.length_map]
 have w:W ((d.size:Int)+2)=(d.size:Int)+2:=bB (by omega)
 have hB:(B [UInt8.ofNat (IntKind.u8.wrap f.src).toNat,UInt8.ofNat (IntKind.u8.wrap f.grp).toNat]).size=2:=rfl
 rw[w,hB]
 refine⟨λc=>?_,λc=>⟨λe=>?_,λe=>⟨by rw[cT];omega,?_⟩⟩⟩
 ·rw[dx,if_pos (by simpa using c)]
 ·rw[dx,if_neg (by simpa using c),if_pos (by omega)]
 ·rw[dx,if_neg (by simpa using c),if_neg (by omega)];rfl
def IG(f:Flw)(data:ByteArray)(h:data.size≤1000000):PC Tryz.prog:=⟨23,[.k,.k],[.agg [.int f.src,.int f.grp],.str data],zy (dx f data),ao.of_ok λok=>aj (sh:=.k) (enc:=zy) (a:=(zx f data).an) (T4 f data h ok) (by kernel_rfl) (AV.pureB_ok rfl),ai (by kernel_rfl)⟩
def Ul(payload:ByteArray):=okL [.str payload]
def Af(r:Flw×ByteArray×Int):AV:=.tup [Flw.v r.1,.str r.2.1,.int r.2.2]
def Ae(payload:ByteArray):Ax Tryz.prog noS (Flw×ByteArray×Int):=
 (.br 96 (decide ((payload.size:Int)<2)) (.ret ((⟨0,0⟩:Flw),B [],20))
(.say (λR=>ck (decide (0<(payload.size:Int)))
((ck (decide (1<(payload.size:Int)))
R))) (.callP (nF (⟨W ((payload.data.getD 0 0).toNat:Int),W ((payload.data.getD 1 0).toNat:Int)⟩:Flw))
(.br 288 (!(ed (⟨W ((payload.data.getD 0 0).toNat:Int),W ((payload.data.getD 1 0).toNat:Int)⟩:Flw))) (.ret ((⟨0,0⟩:Flw),B [],2))
(.say (ck (cond (decide (2≤(payload.size:Int))) (decide ((payload.size:Int)≤(payload.size:Int))) false)) (.ret ((⟨W ((payload.data.getD 0 0).toNat:Int),W ((payload.data.getD 1 0).toNat:Int)⟩:Flw),payload.extract 2 ((payload.size:Int).toNat),0)))))))
def DK(payload:ByteArray)(r0:Flw×ByteArray×Int):=(Ae payload).vp Af r0
theorem Uj(p:ByteArray)(ok:Ul p):DK p (fV p):=by
 dsimp only[DK,Ae,noS,Ax.vp,Ax.vc];simp only[vcU,rfU,List.length_map]
 rw[SW,SW]
 refine⟨λc=>?_,λc=>⟨by omega,by omega,λd=>?_,λd=>⟨?_,?_⟩⟩⟩
 ·rw[fV,if_pos (by omega)]
 ·rw[Bool.not_eq_true']at d
  have d:ed (GH p)=false:=d
  rw[fV,if_neg (by omega),if_pos d]
 ·rw[decide_eq_true (by omega),decide_eq_true (Int.le_refl _)];rfl
 ·rw[Bool.not_eq_false']at d
  have d:¬ed (GH p)=false:=λe=>Bool.false_ne_true (e.symm.trans d)
  rw[fV,if_neg (by omega),if_neg d,Int.toNat_natCast];rfl
def Uk(payload:ByteArray):PC Tryz.prog:=⟨25,[.k],[.str payload],Af (fV payload),ao.of_ok λok=>aj (sh:=.k) (enc:=Af) (a:=(Ae payload).an) (Uj payload ok) (by kernel_rfl) (AV.pureB_ok rfl),ai (by kernel_rfl)⟩
def mJ(o:Ovl)(r:Int):Bool:=o.sp.any λs=>s.router==r
def MB(o:Ovl)(router:Int):=okL [.agg [.sl 5 (o.sp.map Spk.v) false,.sl 3 (o.ls.map Lsn.v) false,.sl 10 (o.fl.map Sig.v) false],.int router]
def Ru(o:Ovl)(router:Int)(t0:Int):NF:=⟨[(1,.k,.int router),(8,.k,.sl 5 (o.sp.map Spk.v) false),(9,.k,.int ((o.sp.map Spk.v).length:Int)),(10,.k,.int t0)],[]⟩
@[reducible] def M9:Nat→Type
 | 0=>Int
 | _=>Unit
def BO(r:Bool):AV:=.bool r
def BN(o:Ovl)(router:Int)(I0:Int→Prop)(m0:Int→Nat):Ax Tryz.prog M9 (Bool):=
 (.loop 0 (Ru o router) I0 m0 ((0):Int) [] λ(t0:Int) b0 =>
(.br 16 (decide (t0<((o.sp.map Spk.v).length:Int))) (.el 16 Spk.v o.sp (λR=>Rf (o.sp.map Spk.v) (ck (decide (0≤t0)) (ck (decide (t0<(o.sp.length:Int)))
(∀x1,o.sp[t0.toNat]?=some x1 →
(R x1))))) λx1 =>
(.br 144 (x1.router==router) (.ret (true))
(.bk 0 b0 ((W (t0+1)):Int) [])))
(.ret (false))))
def Ft(o:Ovl)(router:Int)(I0:Int→Prop)(m0:Int→Nat)(r0:Bool):=(BN o router I0 m0).vp BO r0
theorem Wa(o:Ovl)(r:Int)(ok:MB o r):∃I m,Ft o r I m (mJ o r):=by
 refine⟨λt=>bP o.sp (λs=>(s.router==r)=false) t,λt=>o.sp.length-t.toNat,?_⟩
 simp only[MB,okU,Blk.ok,aK,List.length_map]at ok
 dsimp only[Ft,BN,M9,Ax.vp,Ax.vc];simp only[vcU,rfU,List.length_map]
 refine⟨bP.zero,λt h=>⟨λc=>⟨h.idx,c,λx hx=>⟨λq=>?_,λq=>h.step (by omega) hx q⟩⟩,λc=>?_⟩⟩
 ·exact(List.any_eq_true.mpr ⟨x,lT hx,q⟩).symm
 ·exact(List.any_eq_false.mpr λx hx=>by rw[h.done c x hx];simp).symm
def MA(o:Ovl)(router:Int):PC Tryz.prog:=⟨71,[(.a [(.s 5),(.s 3),(.s 10)]),.k],[.agg [.sl 5 (o.sp.map Spk.v) false,.sl 3 (o.ls.map Lsn.v) false,.sl 10 (o.fl.map Sig.v) false],.int router],BO (mJ o router),ao.of_ok λok=>(Wa o router ok).elim λI0 h=>h.elim λm0 h=>aj (sh:=.k) (enc:=BO) (a:=(BN o router I0 m0).an) h (by kernel_rfl) (AV.pureB_ok rfl),ai (by kernel_rfl)⟩
theorem ya{o:Ovl}{r:Int}:mJ o r=true↔r∈aJ o.sp:=by
 unfold mJ aJ
 rw[List.any_eq_true,List.mem_map]
 exact⟨λ⟨x,h,e⟩=>⟨x,h,eq_of_beq e⟩,λ⟨x,h,e⟩=>⟨x,h,beq_iff_eq.mpr e⟩⟩
def repR(l:List Int):Bool:=!decide l.Nodup
theorem DQ{α:Type}{l:List α}{k:Nat}{y:α}(hy:l[k]?=some y):(l.take (k+1)).Nodup↔(l.take k).Nodup∧∀x∈l.take k,x≠y:=by
 rw[ax hy,List.nodup_append]
 simp
def K7(l:List Int):=okL [.sl 1 (l.map AV.int) false]
def Qj(l:List Int)(t0:Int):NF:=⟨[(0,.k,.sl 1 (l.map AV.int) false),(3,.k,.int t0)],[]⟩
def Qi(l:List Int)(t0:Int)(t1:Int):NF:=⟨[(0,.k,.sl 1 (l.map AV.int) false),(3,.k,.int t0),(4,.k,.int t1)],[]⟩
@[reducible] def K6:Nat→Type
 | 0=>Int
 | 1=>Int
 | _=>Unit
def AB(r:Bool):AV:=.bool r
def AA(l:List Int)(I0:Int→Prop)(m0:Int→Nat)(I1:Int→Int→Prop)(m1:Int→Int→Nat):Ax Tryz.prog K6 (Bool):=
 (.loop 0 (Qj l) I0 m0 ((0):Int) [] λ(t0:Int) b0 =>
(.br 64 (decide (t0<((l.map AV.int).length:Int))) (.loop 1 (Qi l t0) (I1 t0) (m1 t0) ((0):Int) [] λ(t1:Int) b1 =>
(.br 48 (decide (t1<t0)) (.el 80 AV.int l (λR=>Rf (l.map AV.int) (ck (decide (0≤t0)) (ck (decide (t0<(l.length:Int)))
(∀x1,l[t0.toNat]?=some x1 →
(R x1))))) λx1 =>
(.el 144 AV.int l (λR=>Rf (l.map AV.int) (ck (decide (0≤t1)) (ck (decide (t1<(l.length:Int)))
(∀x2,l[t1.toNat]?=some x2 →
(R x2))))) λx2 =>
(.br 192 (x1==x2) (.ret (true))
(.bk 1 b1 ((W (t1+1)):Int) []))))
(.bk 0 b0 ((W (t0+1)):Int) [])))
(.ret (false))))
def Eu(l:List Int)(I0:Int→Prop)(m0:Int→Nat)(I1:Int→Int→Prop)(m1:Int→Int→Nat)(r0:Bool):=(AA l I0 m0 I1 m1).vp AB r0
theorem UD(l:List Int)(ok:K7 l):∃I0 m0 I1 m1,Eu l I0 m0 I1 m1 (repR l):=by
 refine⟨λt=>∃k:Nat,t=k∧k≤l.length∧(l.take k).Nodup,λt=>l.length-t.toNat,λs t=>∃j:Nat,t=j∧t≤s∧∀y,l[s.toNat]?=some y→∀x∈l.take j,x≠y,λs t=>s.toNat-t.toNat,?_⟩
 simp only[K7,okU,Blk.ok,aK,List.length_map]at ok
 dsimp only[Eu,AA,K6,Ax.vp,Ax.vc];simp only[vcU,rfU,List.length_map]
 refine⟨⟨0,rfl,by omega,by simp⟩,?_⟩
 rintro _ ⟨k,rfl,hk,h⟩
 refine⟨λc=>⟨⟨0,rfl,by omega,by simp⟩,?_⟩,λc=>?_⟩
 ·rintro _ ⟨j,rfl,hj,g⟩
  have hy:=List.getElem?_eq_getElem (show k<l.length by omega)
  simp only[Int.toNat_natCast]at g ⊢
  refine⟨λd=>⟨by omega,by omega,λy hy'=>⟨by omega,by omega,λx hx=>⟨λe=>?_,λe=>?_⟩⟩⟩,λd=>?_⟩
  ·have e:=eq_of_beq e
   have:¬l.Nodup:=λq=>by
    have:=(DQ hy').mp (q.sublist (List.take_sublist _ _))
    exact this.2 x (List.mem_take_iff_getElem.mpr ⟨j,by omega,by rw[List.getElem?_eq_getElem (by omega)]at hx;exact Option.some.inj hx⟩) e.symm
   rw[repR,decide_eq_false this];rfl
  ·rw[av (n:=l.length) (by omega) (by omega)]
   refine⟨⟨j+1,rfl,by omega,λz hz w hw=>?_⟩,by omega⟩
   rw[ax hx]at hw
   rcases List.mem_append.mp hw with hw|hw
   ·exact g z hz w hw
   ·rw[List.mem_singleton]at hw
    rw[hy']at hz;cases hz;subst hw
    exact λq=>by rw[q]at e;simp at e
  ·have:j=k:=by omega
   subst this
   rw[av (n:=l.length) (by omega) (by omega)]
   exact⟨⟨j+1,rfl,by omega,(DQ hy).mpr ⟨h,g _ hy⟩⟩,by omega⟩
 ·rw[List.take_of_length_le (by omega)]at h
  rw[repR,decide_eq_true h];rfl
def UE(l:List Int):PC Tryz.prog:=⟨111,[(.s 1)],[.sl 1 (l.map AV.int) false],AB (repR l),ao.of_ok λok=>(UD l ok).elim λI0 h=>h.elim λm0 h=>h.elim λI1 h=>h.elim λm1 h=>aj (sh:=.k) (enc:=AB) (a:=(AA l I0 m0 I1 m1).an) h (by kernel_rfl) (AV.pureB_ok rfl),ai (by kernel_rfl)⟩
def D1(p:Pln):=okL [.agg [.int p.sub,.int p.len,.sl 2 (p.es.map Edg.v) false]]
def IW(p:Pln)(t0:Bool):NF:=⟨[(1,.k,.ref 0 0),(32,.k,.bool t0)],[.box (.agg [.int p.sub,.int p.len,.sl 2 (p.es.map Edg.v) false])]⟩
def IV(p:Pln)(t1:Int×List Int):NF:=⟨[(1,.k,.ref 0 0),(3,.k,.vec 1),(4,.k,.int t1.1)],[.box (.agg [.int p.sub,.int p.len,.sl 2 (p.es.map Edg.v) false]),.vec 1 (t1.2.map AV.int) (ab (λ_=>rfl) t1.2)]⟩
def IU(p:Pln)(t1:Int×List Int)(x1:Edg)(t2:Bool):NF:=⟨[(1,.k,.ref 0 0),(3,.k,.vec 1),(4,.k,.int t1.1),(5,.k,.ref 2 0),(70,.k,.bool t2)],[.box (.agg [.int p.sub,.int p.len,.sl 2 (p.es.map Edg.v) false]),.vec 1 (t1.2.map AV.int) (ab (λ_=>rfl) t1.2),.box (.agg [.int x1.router,.int x1.id])]⟩
@[reducible] def Dz:Nat→Type
 | 0=>Bool
 | 1=>Int×List Int
 | 2=>Bool
 | _=>Unit
def sg(r:Bool):AV:=.bool r
def sf(p:Pln)(I0:Bool→Prop)(I1:Bool→(Int×List Int)→Prop)(m1:Bool→(Int×List Int)→Nat)(I2:Bool→Int×List Int→Edg→Bool→Prop):Ax Tryz.prog Dz (Bool):=
 (.pass (.pass (.join 0 (IW p) (λ(t0:Bool)=>I0 t0) (λb0=>(.callP (ua p.sub 0 7)
(.br 112 (!(inP p.sub 0 7)) (.bk 0 b0 ((true):Bool) [0])
(.callP (mN p.len)
(.br 192 (!(bw p.len)) (.br 256 (p.len != 0) (.bk 0 b0 ((true):Bool) [0])
(.br 384 (decide (0<((p.es.map Edg.v).length:Int))) (.bk 0 b0 ((true):Bool) [0])
(.bk 0 b0 ((decide (24<((p.es.map Edg.v).length:Int))):Bool) [0])))
(.bk 0 b0 ((decide (24<((p.es.map Edg.v).length:Int))):Bool) [0])))))) λ(t0:Bool) =>
(.br 1 t0 (.ret (false))
(.cmdL (.nilT 3 1) (.loop 1 (IV p) (I1 t0) (m1 t0) (0,[]) [0,33] λ(t1:Int×List Int) b1 =>
(.br 82 (decide (t1.1<((p.es.map Edg.v).length:Int))) (.el 130 Edg.v p.es (λR=>Rf (p.es.map Edg.v) (ck (decide (0≤t1.1)) (ck (decide (t1.1<(p.es.length:Int)))
(∀x1,p.es[t1.1.toNat]?=some x1 →
(R x1))))) λx1 =>
(.pass (.join 2 (IU p t1 x1) (λ(t2:Bool)=>I2 t0 t1 x1 t2) (λb2=>(.callP (ua x1.id 1 256)
(.br 274 (!(inP x1.id 1 256)) (.bk 2 b2 ((true):Bool) [0,1,162])
(.callP (ua x1.router 1 99)
(.br 370 (!(inP x1.router 1 99)) (.bk 2 b2 ((true):Bool) [0,1,162])
(.br 418 (decide (0<t1.1)) (.el 482 Edg.v p.es (λR=>Rf (p.es.map Edg.v) (ck (decide (0≤(W (t1.1-1)))) (ck (decide ((W (t1.1-1))<(p.es.length:Int)))
(∀x2,p.es[(W (t1.1-1)).toNat]?=some x2 →
(R x2))))) λx2 =>
(.bk 2 b2 ((decide (x1.id≤x2.id)):Bool) [0,1,162]))
(.bk 2 b2 ((false):Bool) [0,1,162]))))))) λ(t2:Bool) =>
(.br 3 t2 (.ret (false))
(.say (λR=>Rf (α:=List AV) (t1.2.map AV.int) (Rf (α:=List AV) [.int x1.router]
(ck (decide (t1.2.length+1≤1048576))
R))) (.app 67 AV.int t1.2 [x1.router]
(.bk 1 b1 (W (t1.1+1),t1.2++[x1.router]) [0,67])))))))
(.callP (UE t1.2)
(.say (ck (bK [(t1.2.map AV.int)])) (.ret (!(repR t1.2))))))))))))
def vP(p:Pln)(I0:Bool→Prop)(I1:Bool→(Int×List Int)→Prop)(m1:Bool→(Int×List Int)→Nat)(I2:Bool→Int×List Int→Edg→Bool→Prop)(r0:Bool):=(sf p I0 I1 m1 I2).vp sg r0
def RX(es:List Edg)(j:Nat)(e:Edg):Prop:=Nl e∧∀e',0<j→es[j-1]?=some e'→e'.id<e.id
theorem qQ{es:List Edg}:oq es↔(∀j e,es[j]?=some e→RX es j e)∧(es.map Edg.router).Nodup:=by
 constructor
 ·exact λh=>⟨λj e he=>⟨(ku.mp h j e he).1,(ku.mp h j e he).2.2⟩,h.2.1⟩
 ·intro h
  refine⟨λe he=>?_,h.2,?_⟩
  ·obtain⟨j,hj⟩:=List.getElem?_of_mem he
   exact(h.1 j e hj).1
  ·rw[List.pairwise_map]
   refine jh.done (l:=es) (R:=λa b=>a.id<b.id) (t:=((es.length+1:Nat):Int)) ⟨es.length+1,rfl,by omega,by omega,λj x y hj hx hy=>?_⟩ (by omega) λx y z q r=>Int.lt_trans q r
   exact(h.1 (j+1) y hy).2 x (by omega) (by simpa using hx)
theorem OU(p:Pln)(ok:D1 p):∃I0 I1 m1 I2,vP p I0 I1 m1 I2 (bI p):=by
 refine⟨λb=>b=decide (¬j5 p),λ_ t=>dI p.es (λe=>[e.router]) t.1 t.2∧∃k:Nat,t.1=k∧∀j e,j<k→p.es[j]?=some e→RX p.es j e,λ_ t=>p.es.length-t.1.toNat,λ_ t x b=>b=true↔¬RX p.es t.1.toNat x,?_⟩
 simp only[D1,okU,Blk.ok,aK,List.length_map]at ok
 dsimp only[vP,sf,Dz,Ax.vp,Ax.vc];simp only[vcU,rfU,List.length_map]
 have hes:p.es=[]↔¬0<(p.es.length:Int):=by rw[←List.length_eq_zero_iff];omega
 refine⟨⟨λc=>?_,λc=>⟨λd=>⟨λe=>?_,λe=>⟨λg=>?_,λg=>?_⟩⟩,λd=>?_⟩⟩,?_⟩
 ·have c:¬(0≤p.sub∧p.sub≤7):=md.mp c
  exact(decide_eq_true (show ¬j5 p from λq=>c q.1)).symm
 ·have d:bw p.len=false:=by simpa using d
  have e:p.len≠0:=by simpa using e
  exact(decide_eq_true (show ¬j5 p from λq=>by
   rcases q.2.1 with r|r
   ·rw[d]at r;cases r
   ·exact e r.1)).symm
 ·have d:bw p.len=false:=by simpa using d
  exact(decide_eq_true (show ¬j5 p from λq=>by
   rcases q.2.1 with r|r
   ·rw[d]at r;cases r
   ·exact hes.mp r.2 g)).symm
 ·have c:0≤p.sub∧p.sub≤7:=iw.mp c
  have e:p.len=0:=by simpa using e
  rw[decide_eq_decide]
  unfold j5
  rw[and_iff_right c,and_iff_right (.inr ⟨e,hes.mpr g⟩)]
  omega
 ·have c:0≤p.sub∧p.sub≤7:=iw.mp c
  have d:bw p.len=true:=by simpa using d
  rw[decide_eq_decide]
  unfold j5
  rw[and_iff_right c,and_iff_right (.inl d)]
  omega
 rintro _ rfl
 refine⟨λc=>?_,λc=>⟨⟨dI.zero,0,rfl,λj e h=>by omega⟩,?_⟩⟩
 ·rw[bI,decide_eq_false (of_decide_eq_true c)];rfl
 have c:=Classical.not_not.mp (of_decide_eq_false c)
 have hl:=c.2.2
 rintro⟨i,out⟩ ⟨hx0,k,hi,h⟩
 simp only at hi hx0 ⊢
 have hlen:=hx0.len (b:=1) (by simp)
 have h0:=hx0.idx
 refine⟨λd=>⟨h0,d,λx hx=>⟨?_,?_⟩⟩,λd=>?_⟩
 ·refine⟨λe1=>?_,λe1=>⟨λe2=>?_,λe2=>⟨λe4=>?_,λe4=>?_⟩⟩⟩
  ·have e1:¬(1≤x.id∧x.id≤256):=md.mp e1
   exact iff_of_true trivial λq=>e1 q.1.1
  ·have e2:¬(1≤x.router∧x.router≤99):=md.mp e2
   exact iff_of_true trivial λq=>e2 q.1.2
  ·have e1:1≤x.id∧x.id≤256:=iw.mp e1
   have e2:1≤x.router∧x.router≤99:=iw.mp e2
   subst hi
   rw[dw (by omega) (by omega)]
   refine⟨by omega,by omega,λy hy=>?_⟩
   rw[Int.toNat_natCast]at hy
   simp only[Int.toNat_natCast,decide_eq_true_eq]
   constructor
   ·exact λq r=>by have:=r.2 y (by omega) hy;omega
   ·intro q
    refine Classical.byContradiction λr=>q ⟨⟨e1,e2⟩,λy' _ hy'=>?_⟩
    rw[hy]at hy';cases hy';omega
  ·have e1:1≤x.id∧x.id≤256:=iw.mp e1
   have e2:1≤x.router∧x.router≤99:=iw.mp e2
   exact iff_of_false Bool.false_ne_true λq=>q ⟨⟨e1,e2⟩,λy' h0 _=>by omega⟩
 ·intro b hb
  refine⟨λe=>?_,λe=>?_⟩
  ·have:¬oq p.es:=λq=>hb.mp e ((qQ.mp q).1 i.toNat x hx)
   rw[bI,decide_eq_false this,Bool.and_false]
  ·have hg:RX p.es i.toNat x:=Classical.not_not.mp λq=>by rw[hb.mpr q]at e;cases e
   obtain⟨a1,a2⟩:=hx0.step (out':=out++[x.router]) (by omega) hx rfl
   refine⟨by omega,⟨a1,k+1,?_,λj y hj hy=>?_⟩,a2⟩
   ·rw[bB (by omega)];omega
   ·by_cases e':j=k
    ·subst e';subst hi
     rw[Int.toNat_natCast]at hx hg
     rw[hx]at hy;cases hy;exact hg
    ·exact h j y (by omega) hy
 ·have hd:=hx0.done d
  rw[dv]at hd
  have:oq p.es↔(p.es.map Edg.router).Nodup:=by
   rw[qQ]
   exact⟨λq=>q.2,λq=>⟨λj e he=>h j e (by have:=ay he;omega) he,q⟩⟩
  refine⟨iJ (ab (λ_=>rfl) _),?_⟩
  rw[bI,decide_eq_true c,decide_eq_decide.mpr this,hd,repR,Bool.not_not];rfl
def D0(p:Pln):PC Tryz.prog:=⟨70,[(.a [.k,.k,(.s 2)])],[.agg [.int p.sub,.int p.len,.sl 2 (p.es.map Edg.v) false]],sg (bI p),ao.of_ok λok=>(OU p ok).elim λI0 h=>h.elim λI1 h=>h.elim λm1 h=>h.elim λI2 h=>aj (sh:=.k) (enc:=sg) (a:=(sf p I0 I1 m1 I2).an) h (by kernel_rfl) (AV.pureB_ok rfl),ai (by kernel_rfl)⟩
abbrev entR:=pz
def W6(source:Int)(group:Int):=okL [.int source,.int group]
def Cs(r:Int):AV:=.int r
def Cr(source:Int)(group:Int):Ax Tryz.prog noS (Int):=
 (.ret (W (Int.fdiv (IntKind.u32.wrap ((IntKind.u32.wrap ((IntKind.u32.wrap ((IntKind.u32.wrap source) * 31))+(IntKind.u32.wrap group))) * 2654435761)) 4194304)))
def FM(source:Int)(group:Int)(r0:Int):=(Cr source group).vp Cs r0
theorem W4(s g:Int)(ok:W6 s g):FM s g (entR s g):=by
 dsimp only[FM,Cr,noS,Ax.vp,Ax.vc];simp only[vcU,rfU,List.length_map]
 rfl
def W5(source:Int)(group:Int):PC Tryz.prog:=⟨73,[.k,.k],[.int source,.int group],Cs (pz source group),ao.of_ok λok=>aj (sh:=.k) (enc:=Cs) (a:=(Cr source group).an) (W4 source group ok) (by kernel_rfl) (AV.pureB_ok rfl),ai (by kernel_rfl)⟩
def pP(k:Int):Int:=if k<0∨63<k then 0 else sP .u64 1 k
def WW(k:Int):=okL [.int k]
def Sx(k:Int)(t0:Bool):NF:=⟨[(0,.k,.int k),(8,.k,.bool t0)],[]⟩
@[reducible] def NS:Nat→Type
 | 0=>Bool
 | _=>Unit
def CO(r:Int):AV:=.val (.int .u64 r)
def CN(k:Int)(I0:Bool→Prop):Ax Tryz.prog NS (Int):=
 (.pass (.pass (.join 0 (Sx k) (λ(t0:Bool)=>I0 t0) (λb0=>(.br 64 (decide (k<0)) (.bk 0 b0 ((true):Bool) [])
(.bk 0 b0 ((decide (63<k)):Bool) []))) λ(t0:Bool) =>
(.br 0 t0 (.ret (0))
(.say (ck (decide (0≤(IntKind.u64.wrap k)))) (.ret (sP .u64 1 (IntKind.u64.wrap k))))))))
def FZ(k:Int)(I0:Bool→Prop)(r0:Int):=(CN k I0).vp CO r0
theorem WV(k:Int)(ok:WW k):∃I,FZ k I (pP k):=by
 refine⟨λb=>b=decide (k<0∨63<k),?_⟩
 dsimp only[FZ,CN,NS,Ax.vp,Ax.vc];simp only[vcU,rfU,List.length_map]
 refine⟨⟨λc=>by simp[c],λc=>by simp[c]⟩,?_⟩
 rintro _ rfl
 refine⟨λc=>?_,λc=>?_⟩
 ·rw[pP,if_pos (of_decide_eq_true c)]
 ·have c:=of_decide_eq_false c
  have:=nq (n:=k.toNat) (by omega)
  rw[Int.toNat_of_nonneg (by omega)]at this
  rw[this,pP,if_neg c]
  exact⟨by omega,rfl⟩
def NT(k:Int):PC Tryz.prog:=⟨154,[.k],[.int k],CO (pP k),ao.of_ok λok=>(WV k ok).elim λI0 h=>aj (sh:=.k) (enc:=CO) (a:=(CN k I0).an) h (by kernel_rfl) (AV.pureB_ok rfl),ai (by kernel_rfl)⟩
def Cx(p:Pln)(id:Int):Edg×Bool:=match p.es.find? λe=>e.id==id with
 | some e=>(e,true)
 | none=>(⟨0,0⟩,false)
def Nn(p:Pln)(id:Int):=okL [.agg [.int p.sub,.int p.len,.sl 2 (p.es.map Edg.v) false],.int id]
def RZ(p:Pln)(id:Int)(t0:Int):NF:=⟨[(1,.k,.int id),(2,.k,.ref 0 0),(4,.k,.ref 1 0),(6,.k,.int t0)],[.box (.agg [.int p.sub,.int p.len,.sl 2 (p.es.map Edg.v) false]),.box (.agg [.int 0,.int 0])]⟩
@[reducible] def Nm:Nat→Type
 | 0=>Int
 | _=>Unit
def Cw(r:Edg×Bool):AV:=.tup [Edg.v r.1,.bool r.2]
def Cv(p:Pln)(id:Int)(I0:Int→Prop)(m0:Int→Nat):Ax Tryz.prog Nm (Edg×Bool):=
 (.loop 0 (RZ p id) I0 m0 ((0):Int) [0,16] λ(t0:Int) b0 =>
(.br 82 (decide (t0<((p.es.map Edg.v).length:Int))) (.el 130 Edg.v p.es (λR=>Rf (p.es.map Edg.v) (ck (decide (0≤t0)) (ck (decide (t0<(p.es.length:Int)))
(∀x1,p.es[t0.toNat]?=some x1 →
(R x1))))) λx1 =>
(.br 210 (x1.id==id) (.el 258 Edg.v p.es (λR=>Rf (p.es.map Edg.v) (ck (decide (0≤t0)) (ck (decide (t0<(p.es.length:Int)))
(∀x2,p.es[t0.toNat]?=some x2 →
(R x2))))) λx2 =>
(.ret (x2,true)))
(.bk 0 b0 ((W (t0+1)):Int) [0,1])))
(.ret ((⟨0,0⟩:Edg),false))))
def FO(p:Pln)(id:Int)(I0:Int→Prop)(m0:Int→Nat)(r0:Edg×Bool):=(Cv p id I0 m0).vp Cw r0
theorem WC(p:Pln)(r:Int)(ok:Nn p r):∃I m,FO p r I m (Cx p r):=by
 refine⟨λt=>bP p.es (λe=>(e.id==r)=false) t,λt=>p.es.length-t.toNat,?_⟩
 simp only[Nn,okU,Blk.ok,aK,List.length_map]at ok
 dsimp only[FO,Cv,Nm,Ax.vp,Ax.vc];simp only[vcU,rfU,List.length_map]
 refine⟨bP.zero,λt h=>⟨λc=>⟨h.idx,c,λx hx=>⟨λq=>?_,λq=>h.step (by omega) hx q⟩⟩,λc=>?_⟩⟩
 ·refine⟨h.idx,c,λy hy=>?_⟩
  rw[hx]at hy;cases hy
  rw[Cx,h.find (p:=λe=>e.id==r) hx q]
 ·rw[Cx,h.nofind (p:=λe=>e.id==r) c]
def WD(p:Pln)(id:Int):PC Tryz.prog:=⟨152,[(.a [.k,.k,(.s 2)]),.k],[.agg [.int p.sub,.int p.len,.sl 2 (p.es.map Edg.v) false],.int id],Cw (Cx p id),ao.of_ok λok=>(WC p id ok).elim λI0 h=>h.elim λm0 h=>aj (sh:=.k) (enc:=Cw) (a:=(Cv p id I0 m0).an) h (by kernel_rfl) (AV.pureB_ok rfl),ai (by kernel_rfl)⟩
def UH(o:Ovl)(p:Pln)(at_:Int)(f:Flw):=okL [.agg [.sl 5 (o.sp.map Spk.v) false,.sl 3 (o.ls.map Lsn.v) false,.sl 10 (o.fl.map Sig.v) false],.agg [.int p.sub,.int p.len,.sl 2 (p.es.map Edg.v) false],.int at_,.agg [.int f.src,.int f.grp]]
def Qm(o:Ovl)(p:Pln)(at_:Int)(f:Flw)(t0:Int×List Int):NF:=⟨[(2,.k,.int at_),(4,.k,.ref 0 0),(7,.k,.ref 1 0),(11,.k,.vec 2),(32,.k,.sl 2 (p.es.map Edg.v) false),(33,.k,.int ((p.es.map Edg.v).length:Int)),(34,.k,.int t0.1)],[.box (.agg [.sl 5 (o.sp.map Spk.v) false,.sl 3 (o.ls.map Lsn.v) false,.sl 10 (o.fl.map Sig.v) false]),.box (.agg [.int f.src,.int f.grp]),.vec 1 (t0.2.map AV.int) (ab (λ_=>rfl) t0.2)]⟩
def Ql(o:Ovl)(p:Pln)(at_:Int)(f:Flw)(t0:Int×List Int)(x1:Edg)(t1:Bool):NF:=⟨[(2,.k,.int at_),(4,.k,.ref 0 0),(7,.k,.ref 1 0),(11,.k,.vec 2),(13,.k,.ref 3 0),(32,.k,.sl 2 (p.es.map Edg.v) false),(33,.k,.int ((p.es.map Edg.v).length:Int)),(34,.k,.int t0.1),(48,.k,.bool t1)],[.box (.agg [.sl 5 (o.sp.map Spk.v) false,.sl 3 (o.ls.map Lsn.v) false,.sl 10 (o.fl.map Sig.v) false]),.box (.agg [.int f.src,.int f.grp]),.vec 1 (t0.2.map AV.int) (ab (λ_=>rfl) t0.2),.box (.agg [.int x1.router,.int x1.id])]⟩
def Qk(o:Ovl)(p:Pln)(at_:Int)(f:Flw)(t0:Int×List Int)(x1:Edg)(t2:Bool):NF:=⟨[(2,.k,.int at_),(4,.k,.ref 0 0),(7,.k,.ref 1 0),(11,.k,.vec 2),(13,.k,.ref 3 0),(32,.k,.sl 2 (p.es.map Edg.v) false),(33,.k,.int ((p.es.map Edg.v).length:Int)),(34,.k,.int t0.1),(63,.k,.bool t2)],[.box (.agg [.sl 5 (o.sp.map Spk.v) false,.sl 3 (o.ls.map Lsn.v) false,.sl 10 (o.fl.map Sig.v) false]),.box (.agg [.int f.src,.int f.grp]),.vec 1 (t0.2.map AV.int) (ab (λ_=>rfl) t0.2),.box (.agg [.int x1.router,.int x1.id])]⟩
@[reducible] def K9:Nat→Type
 | 0=>Int×List Int
 | 1=>Bool
 | 2=>Bool
 | _=>Unit
def AE(r:List Int×Int):AV:=.tup [.sl 1 (r.1.map AV.int) false,.int r.2]
def AD(o:Ovl)(p:Pln)(at_:Int)(f:Flw)(I0:(Int×List Int)→Prop)(m0:(Int×List Int)→Nat)(I1:Int×List Int→Edg→Bool→Prop)(I2:Int×List Int→Edg→Bool→Bool→Prop):Ax Tryz.prog K9 (List Int×Int):=
 (.callP (jl o)
(.br 160 ((dg o) != 0) (.ret ([],dg o))
(.callP (D0 p)
(.br 208 (!(bI p)) (.ret ([],1))
(.callP (nF f)
(.br 256 (!(ed f)) (.ret ([],2))
(.callP (MA o at_)
(.br 320 (!(mJ o at_)) (.ret ([],4))
(.cmdL (.nilT 11 1) (.loop 0 (Qm o p at_ f) I0 m0 (0,[]) [0,32,400] λ(t0:Int×List Int) b0 =>
(.br 19 (decide (t0.1<((p.es.map Edg.v).length:Int))) (.el 19 Edg.v p.es (λR=>Rf (p.es.map Edg.v) (ck (decide (0≤t0.1)) (ck (decide (t0.1<(p.es.length:Int)))
(∀x1,p.es[t0.1.toNat]?=some x1 →
(R x1))))) λx1 =>
(.pass (.join 1 (Ql o p at_ f t0 x1) (λ(t1:Bool)=>I1 t0 x1 t1) (λb1=>(.br 163 (x1.router==at_) (.bk 1 b1 ((true):Bool) [0,1,2,51])
(.callP (MA o x1.router)
(.bk 1 b1 ((!(mJ o x1.router)):Bool) [0,1,2,51])))) λ(t1:Bool) =>
(.br 4 t1 (.bk 0 b0 (W (t0.1+1),t0.2) [0,1,2])
(.callP (QX o at_ x1.router)
(.join 2 (Qk o p at_ f t0 x1) (λ(t2:Bool)=>I2 t0 x1 t1 t2) (λb2=>(.br 212 (((bJ o at_ x1.router).2)==0) (.callP (T9 ((bJ o at_ x1.router).1) f)
(.bk 2 b2 ((kW ((bJ o at_ x1.router).1) f):Bool) [0,1,2,3]))
(.bk 2 b2 ((false):Bool) [0,1,2,3]))) λ(t2:Bool) =>
(.br 4 t2 (.say (λR=>Rf (α:=List AV) (t0.2.map AV.int) (Rf (α:=List AV) [.int x1.id]
(ck (decide (t0.2.length+1≤1048576))
R))) (.app 68 AV.int t0.2 [x1.id]
(.bk 0 b0 (W (t0.1+1),t0.2++[x1.id]) [0,1,68])))
(.bk 0 b0 (W (t0.1+1),t0.2) [0,1,2]))))))))
(.say (Rf (t0.2.map AV.int)) (.cmdL (.frzE 2 (t0.2.map AV.int) (ab (λ_=>rfl) t0.2)) (.ret (t0.2,0)))))))))))))))
def Ev(o:Ovl)(p:Pln)(at_:Int)(f:Flw)(I0:(Int×List Int)→Prop)(m0:(Int×List Int)→Nat)(I1:Int×List Int→Edg→Bool→Prop)(I2:Int×List Int→Edg→Bool→Bool→Prop)(r0:List Int×Int):=(AD o p at_ f I0 m0 I1 I2).vp AE r0
theorem rB{o:Ovl}{a b:Int}(hv:dg o=0)(ha:mJ o a=true):(bJ o a b).2=0↔mJ o b=true:=by
 have ho:bQ o:=Classical.byContradiction λq=>by rw[dg,if_neg q]at hv;simp at hv
 rw[ya]at ha ⊢
 unfold bJ
 by_cases hb:b∈aJ o.sp
 ·by_cases e:a=b<;>simp[ho,ha,hb,e]
 ·simp[ho,ha,hb]
theorem M6{o:Ovl}{a:Int}(hv:dg o=0)(ha:mJ o a=false):(bJ o a a).2=4:=by
 have ho:bQ o:=Classical.byContradiction λq=>by rw[dg,if_neg q]at hv;simp at hv
 have ha:a ∉ aJ o.sp:=λq=>by rw[ya.mpr q]at ha;cases ha
 unfold bJ
 simp[ho,ha]
theorem UG(o:Ovl)(p:Pln)(at_:Int)(f:Flw)(ok:UH o p at_ f):∃I0 m0 I1 I2,Ev o p at_ f I0 m0 I1 I2 (aP o p at_ f):=by
 refine⟨λt=>dI p.es (lv o at_ f) t.1 t.2,λt=>p.es.length-t.1.toNat,λ_ x b=>b=true↔x.router=at_∨mJ o x.router=false,λ_ x _ b=>b=decide ((bJ o at_ x.router).2=0∧kW (bJ o at_ x.router).1 f=true),?_⟩
 dsimp only[Ev,AD,K9,Ax.vp,Ax.vc];simp only[vcU,rfU,List.length_map]
 refine⟨λc=>?_,λc=>⟨λd=>?_,λd=>⟨λe=>?_,λe=>⟨λg=>?_,λg=>⟨dI.zero,?_⟩⟩⟩⟩⟩
 ·rw[aP,if_pos (by simpa using c)]
 ·rw[aP,if_neg (by simpa using c),if_pos (by simpa using d)]
 ·rw[aP,if_neg (by simpa using c),if_neg (by simpa using d),if_pos (by simpa using e)]
 ·have k:=M6 (by simpa using c) (by simpa using g)
  rw[aP,if_neg (by simpa using c),if_neg (by simpa using d),if_neg (by simpa using e),if_pos (by rw[k];decide),k]
 have hv:dg o=0:=by simpa using c
 have g:mJ o at_=true:=by simpa using g
 have d':bI p=true:=by simpa using d
 have hl:p.es.length≤24:=by
  unfold bI at d'
  rw[Bool.and_eq_true,decide_eq_true_eq]at d'
  exact d'.1.2.2
 rintro⟨i,out⟩ h
 simp only at h ⊢
 have hlen:=h.len (b:=1) λx _=>ol
 refine⟨λq=>⟨h.idx,q,λx hx=>⟨⟨λr=>?_,λr=>?_⟩,λb hb=>⟨λr=>?_,λr=>⟨⟨λs=>?_,λs=>?_⟩,?_⟩⟩⟩⟩,λq=>?_⟩
 ·exact iff_of_true trivial (.inl (eq_of_beq r))
 ·have r:¬x.router=at_:=by simpa using r
  simp[r]
 ·refine h.step (by omega) hx ?_
  have r:=hb.mp r
  rw[lv]
  split
  ·simp
  rename_i r1
  have r2:mJ o x.router=false:=r.resolve_left r1
  rw[if_neg λq=>by rw[(rB hv g).mp q.1]at r2;cases r2];simp
 ·have s:=eq_of_beq s
  simp[s]
 ·have s:¬(bJ o at_ x.router).2=0:=by simpa using s
  simp[s]
 ·have r:¬x.router=at_:=λq=>by rw[hb.mpr (.inl q)]at r;cases r
  rintro _ rfl
  refine⟨λs=>⟨by omega,h.step (by omega) hx ?_⟩,λs=>h.step (by omega) hx ?_⟩
  ·rw[lv,if_neg r,if_pos (of_decide_eq_true s)]
  ·rw[lv,if_neg r,if_neg (of_decide_eq_false s)];simp
 ·have k:=(rB (b:=at_) hv g).mpr g
  rw[aP,if_neg (by simpa using c),if_neg (by simpa using d),if_neg (by simpa using e),if_neg (not_not_intro k),←h.done q]
def tj(o:Ovl)(p:Pln)(at_:Int)(f:Flw):PC Tryz.prog:=⟨27,[(.a [(.s 5),(.s 3),(.s 10)]),(.a [.k,.k,(.s 2)]),.k,.k],[.agg [.sl 5 (o.sp.map Spk.v) false,.sl 3 (o.ls.map Lsn.v) false,.sl 10 (o.fl.map Sig.v) false],.agg [.int p.sub,.int p.len,.sl 2 (p.es.map Edg.v) false],.int at_,.agg [.int f.src,.int f.grp]],AE (aP o p at_ f),ao.of_ok λok=>(UG o p at_ f ok).elim λI0 h=>h.elim λm0 h=>h.elim λI1 h=>h.elim λI2 h=>aj (sh:=(.a [(.s 1),.k])) (enc:=AE) (a:=(AD o p at_ f I0 m0 I1 I2).an) h (by kernel_rfl) (AV.pureB_ok rfl),ai (by kernel_rfl)⟩
abbrev UT:=cg
def US(id:Int)(length:Int):=okL [.int id,.int length]
def Qx(id:Int)(length:Int)(t0:Bool):NF:=⟨[(0,.k,.int id),(1,.k,.int length),(14,.k,.bool t0)],[]⟩
@[reducible] def KL:Nat→Type
 | 0=>Bool
 | _=>Unit
def AN(r:Int×Int×Bool):AV:=.tup [.int r.1,.int r.2.1,.bool r.2.2]
def AM(id:Int)(length:Int)(I0:Bool→Prop):Ax Tryz.prog KL (Int×Int×Bool):=
 (.pass (.pass (.join 0 (Qx id length) (λ(t0:Bool)=>I0 t0) (λb0=>(.callP (mN length)
(.br 112 (!(bw length)) (.bk 0 b0 ((true):Bool) [])
(.callP (ua id 1 256)
(.bk 0 b0 ((!(inP id 1 256)):Bool) []))))) λ(t0:Bool) =>
(.br 0 t0 (.ret (0,0,false))
(.say (λR=>ck (!(length==0))
((ck (!(length==0))
R))) (.ret (W ((W (id-1)).tdiv length),(W (id-1)).tmod length,true)))))))
def E6(id:Int)(length:Int)(I0:Bool→Prop)(r0:Int×Int×Bool):=(AM id length I0).vp AN r0
theorem UQ(id len:Int)(ok:US id len):∃I,E6 id len I (UT id len):=by
 refine⟨λb=>b=decide (¬(bw len=true∧1≤id∧id≤256)),?_⟩
 dsimp only[E6,AM,KL,Ax.vp,Ax.vc];simp only[vcU,rfU,List.length_map]
 refine⟨⟨λc=>?_,λc=>?_⟩,?_⟩
 ·have c:bw len=false:=by simpa using c
  simp[c]
 ·have c:bw len=true:=by simpa using c
  rw[Bool.eq_iff_iff,md,decide_eq_true_iff]
  simp[c]
 ·rintro _ rfl
  refine⟨λc=>?_,λc=>?_⟩
  ·rw[UT,cg,if_neg (of_decide_eq_true c)]
  ·have c:=Classical.not_not.mp (of_decide_eq_false c)
   have hl:=gB.mp c.1
   have h0:(!(len==0))=true:=by simp;omega
   have w1:W (id-1)=id-1:=bB (by omega)
   have hd:0≤(id-1).tdiv len∧(id-1).tdiv len≤id-1:=⟨Int.tdiv_nonneg (by omega) (by omega),Int.tdiv_le_self _ (by omega)⟩
   rw[w1,bB (n:=(id-1).tdiv len) (by omega),UT,cg,if_pos c]
   exact⟨h0,h0,rfl⟩
def UR(id:Int)(length:Int):PC Tryz.prog:=⟨153,[.k,.k],[.int id,.int length],AN (cg id length),ao.of_ok λok=>(UQ id length ok).elim λI0 h=>aj (sh:=.k) (enc:=AN) (a:=(AM id length I0).an) h (by kernel_rfl) (AV.pureB_ok rfl),ai (by kernel_rfl)⟩
def P5(p:Pln)(ids:List Int):=okL [.agg [.int p.sub,.int p.len,.sl 2 (p.es.map Edg.v) false],.sl 1 (ids.map AV.int) false]
def JZ(p:Pln)(ids:List Int)(t0:Int):NF:=⟨[(1,.k,.sl 1 (ids.map AV.int) false),(2,.k,.ref 0 0),(6,.k,.int t0)],[.box (.agg [.int p.sub,.int p.len,.sl 2 (p.es.map Edg.v) false])]⟩
def JY(p:Pln)(ids:List Int)(t1:Int):NF:=⟨[(1,.k,.sl 1 (ids.map AV.int) false),(2,.k,.ref 0 0),(7,.k,.int t1)],[.box (.agg [.int p.sub,.int p.len,.sl 2 (p.es.map Edg.v) false])]⟩
def JX(p:Pln)(ids:List Int)(t2:Int×List Stb):NF:=⟨[(1,.k,.sl 1 (ids.map AV.int) false),(2,.k,.ref 0 0),(10,.k,.vec 1),(11,.k,.int t2.1)],[.box (.agg [.int p.sub,.int p.len,.sl 2 (p.es.map Edg.v) false]),.vec 2 (t2.2.map Stb.v) (ab (λ_=>rfl) t2.2)]⟩
def JW(p:Pln)(ids:List Int)(t2:Int×List Stb)(x4:Int)(t3:List Stb):NF:=⟨[(1,.k,.sl 1 (ids.map AV.int) false),(2,.k,.ref 0 0),(10,.k,.vec 1),(11,.k,.int t2.1),(13,.k,.int ((cg x4 p.len).2.1))],[.box (.agg [.int p.sub,.int p.len,.sl 2 (p.es.map Edg.v) false]),.vec 2 (t3.map Stb.v) (ab (λ_=>rfl) t3)]⟩
def JV(p:Pln)(ids:List Int)(t2:Int×List Stb)(x4:Int)(t4:Bool):NF:=⟨[(1,.k,.sl 1 (ids.map AV.int) false),(2,.k,.ref 0 0),(10,.k,.vec 1),(11,.k,.int t2.1),(12,.k,.int ((cg x4 p.len).1)),(13,.k,.int ((cg x4 p.len).2.1)),(81,.k,.bool t4)],[.box (.agg [.int p.sub,.int p.len,.sl 2 (p.es.map Edg.v) false]),.vec 2 (t2.2.map Stb.v) (ab (λ_=>rfl) t2.2)]⟩
@[reducible] def Ea:Nat→Type
 | 0=>Int
 | 1=>Int
 | 2=>Int×List Stb
 | 3=>(List Stb)
 | 4=>Bool
 | _=>Unit
def sR(r:List Stb×Int):AV:=.tup [.sl 2 (r.1.map Stb.v) false,.int r.2]
def sQ(p:Pln)(ids:List Int)(I0:Int→Prop)(m0:Int→Nat)(I1:Int→Int→Prop)(m1:Int→Int→Nat)(I2:Int→Int→(Int×List Stb)→Prop)(m2:Int→Int→(Int×List Stb)→Nat)(I3:Int→Int→Int×List Stb→Int→(List Stb)→Prop)(I4:Int→Int→Int×List Stb→Int→Bool→Prop):Ax Tryz.prog Ea (List Stb×Int):=
 (.callP (D0 p)
(.br 96 (!(bI p)) (.ret ([],1))
(.loop 0 (JZ p ids) I0 m0 ((1):Int) [0] λ(t0:Int) b0 =>
(.br 65 (decide (t0<((ids.map AV.int).length:Int))) (.el 113 AV.int ids (λR=>Rf (ids.map AV.int) (ck (decide (0≤(W (t0-1)))) (ck (decide ((W (t0-1))<(ids.length:Int)))
(∀x1,ids[(W (t0-1)).toNat]?=some x1 →
(R x1))))) λx1 =>
(.el 177 AV.int ids (λR=>Rf (ids.map AV.int) (ck (decide (0≤t0)) (ck (decide (t0<(ids.length:Int)))
(∀x2,ids[t0.toNat]?=some x2 →
(R x2))))) λx2 =>
(.br 225 (decide (x2≤x1)) (.ret ([],25))
(.bk 0 b0 ((W (t0+1)):Int) [0]))))
(.loop 1 (JY p ids) (I1 t0) (m1 t0) ((0):Int) [0] λ(t1:Int) b1 =>
(.br 65 (decide (t1<((ids.map AV.int).length:Int))) (.el 113 AV.int ids (λR=>Rf (ids.map AV.int) (ck (decide (0≤t1)) (ck (decide (t1<(ids.length:Int)))
(∀x3,ids[t1.toNat]?=some x3 →
(R x3))))) λx3 =>
(.callP (WD p x3)
(.br 289 (!((Cx p x3).2)) (.ret ([],4))
(.bk 1 b1 ((W (t1+1)):Int) [0]))))
(.cmdL (.nilT 10 2) (.loop 2 (JX p ids) (I2 t0 t1) (m2 t0 t1) (0,[]) [0,97] λ(t2:Int×List Stb) b2 =>
(.br 66 (decide (t2.1<((ids.map AV.int).length:Int))) (.el 98 AV.int ids (λR=>Rf (ids.map AV.int) (ck (decide (0≤t2.1)) (ck (decide (t2.1<(ids.length:Int)))
(∀x4,ids[t2.1.toNat]?=some x4 →
(R x4))))) λx4 =>
(.callP (UR x4 p.len)
(.join 3 (JW p ids t2 x4) (λ(t3:List Stb)=>I3 t0 t1 t2 x4 t3) (λb3=>(.join 4 (JV p ids t2 x4) (λ(t4:Bool)=>I4 t0 t1 t2 x4 t4) (λb4=>(.br 354 (((t2.2.map Stb.v).length:Int)==0) (.bk 4 b4 ((true):Bool) [0,1])
(.say (ck (cond (decide (0≤(W (((t2.2.map Stb.v).length:Int)-1)))) (decide ((W (((t2.2.map Stb.v).length:Int)-1))<((t2.2.map Stb.v).length:Int))) false)) (.el 450 Stb.v t2.2 (λR=>Rf (t2.2.map Stb.v) (ck (decide ((W (((t2.2.map Stb.v).length:Int)-1)).toNat<t2.2.length))
(∀x5,t2.2[(W (((t2.2.map Stb.v).length:Int)-1)).toNat]?=some x5 →
(R x5)))) λx5 =>
(.bk 4 b4 ((x5.set != ((cg x4 p.len).1)):Bool) [0,1]))))) λ(t4:Bool) =>
(.br 2 t4 (.say (λR=>Rf (α:=List AV) (t2.2.map Stb.v) (Rf (α:=List AV) [.agg [.int ((cg x4 p.len).1),.val (.int .u64 0)]]
(ck (decide (t2.2.length+1≤1048576))
R))) (.app 66 Stb.v t2.2 [(⟨(cg x4 p.len).1,0⟩:Stb)]
(.bk 3 b3 ((t2.2++[(⟨(cg x4 p.len).1,0⟩:Stb)]):(List Stb)) [0,66])))
(.bk 3 b3 ((t2.2):(List Stb)) [0,1])))) λ(t3:List Stb) =>
(.say (ck (cond (decide (0≤(W (((t3.map Stb.v).length:Int)-1)))) (decide ((W (((t3.map Stb.v).length:Int)-1))<((t3.map Stb.v).length:Int))) false)) (.el 98 Stb.v t3 (λR=>Rf (t3.map Stb.v) (ck (decide ((W (((t3.map Stb.v).length:Int)-1)).toNat<t3.length))
(∀x6,t3[(W (((t3.map Stb.v).length:Int)-1)).toNat]?=some x6 →
(R x6)))) λx6 =>
(.callP (NT ((cg x4 p.len).2.1))
(.say (ck (cond (decide (0≤(W (((t3.map Stb.v).length:Int)-1)))) (decide ((W (((t3.map Stb.v).length:Int)-1))<((t3.map Stb.v).length:Int))) false)) (.st 194 Stb.v t3 (λy7=>(⟨y7.set,bOr .u64 x6.bits (pP ((cg x4 p.len).2.1))⟩:Stb)) (λR=>Rf (t3.map Stb.v) (ck (decide ((W (((t3.map Stb.v).length:Int)-1)).toNat<t3.length))
(∀y7,t3[(W (((t3.map Stb.v).length:Int)-1)).toNat]?=some y7→Rf (Stb.v (⟨y7.set,bOr .u64 x6.bits (pP ((cg x4 p.len).2.1))⟩:Stb))
((R y7))))) λy7 =>
(.bk 2 b2 (W (t2.1+1),t3.set ((W (((t3.map Stb.v).length:Int)-1)).toNat) (⟨y7.set,bOr .u64 x6.bits (pP ((cg x4 p.len).2.1))⟩:Stb)) [0,1])))))))))
(.say (Rf (t2.2.map Stb.v)) (.cmdL (.frzE 1 (t2.2.map Stb.v) (ab (λ_=>rfl) t2.2)) (.ret (t2.2,0)))))))))))))
def wq(p:Pln)(ids:List Int)(I0:Int→Prop)(m0:Int→Nat)(I1:Int→Int→Prop)(m1:Int→Int→Nat)(I2:Int→Int→(Int×List Stb)→Prop)(m2:Int→Int→(Int×List Stb)→Nat)(I3:Int→Int→Int×List Stb→Int→(List Stb)→Prop)(I4:Int→Int→Int×List Stb→Int→Bool→Prop)(r0:List Stb×Int):=(sQ p ids I0 m0 I1 m1 I2 m2 I3 I4).vp sR r0
theorem yE(p:Pln)(id:Int):(Cx p id).2=BM p id:=by
 unfold Cx BM
 cases e:p.es.find? λe=>e.id==id with
 | some x=>exact(List.any_eq_true.mpr ⟨x,List.mem_of_find?_eq_some e,by simpa[kO]using List.find?_some e⟩).symm
 | none=>exact(List.any_eq_false.mpr λx hx=>by simpa[kO]using List.find?_eq_none.mp e x hx).symm
theorem P3(p:Pln)(ids:List Int)(hid:ids.length≤1000)(ok:P5 p ids):∃I0 m0 I1 m1 I2 m2 I3 I4,wq p ids I0 m0 I1 m1 I2 m2 I3 I4 (bj p ids):=by
 refine⟨λt=>jh ids (·<·) t,λt=>ids.length+1-t.toNat,λ_ t=>bP ids (λy=>gf y p=false) t,λ_ t=>ids.length-t.toNat,
  λ_ _ t=>fT ids (lU p.len) [] t.1 t.2,λ_ _ t=>ids.length-t.1.toNat,
  λ_ _ s x out=>out≠[]∧∃i y,out=i++[y]∧i++[Oo y (cg x p.len).2.1]=lU p.len s.2 x,λ_ _ s x b=>b=true↔¬∃i y,s.2=i++[y]∧y.set=(cg x p.len).1,?_⟩
 dsimp only[wq,sQ,Ea,Ax.vp,Ax.vc];simp only[vcU,rfU,List.length_map]
 refine⟨λc=>?_,λc=>⟨jh.one,λt h=>⟨λd=>?_,λd=>⟨bP.zero,λt1 h1=>⟨λe=>?_,λe=>⟨fT.zero,?_⟩⟩⟩⟩⟩⟩
 ·rw[bj,if_pos (by simpa using c)]
 ·have c:¬bI p=false:=by simpa using c
  obtain⟨i1,i2⟩:=h.idx (by omega) d
  refine⟨i1.1,i1.2,λx hx=>⟨i2,d,λy hy=>⟨λe=>?_,λe=>h.step (by omega) hx hy (by omega)⟩⟩⟩
  rw[bj,if_neg c,if_pos (h.bad (by omega) hx hy (by omega))]
 ·have c:¬bI p=false:=by simpa using c
  refine⟨h1.idx,e,λx hx=>⟨λg=>?_,λg=>h1.step (by omega) hx ?_⟩⟩
  ·rw[yE]at g
   rw[bj,if_neg c,if_neg (not_not_intro (h.done d λ_ _ _ q r=>Int.lt_trans q r)),if_pos (List.any_eq_true.mpr ⟨x,lT hx,g⟩)]
  ·rw[yE]at g
   exact g
 have c:¬bI p=false:=by simpa using c
 have hpw:=h.done d λ_ _ _ q r=>Int.lt_trans q r
 have hno:(ids.any λy=>gf y p)=false:=List.any_eq_false.mpr λx hx=>by rw[h1.done e x hx];simp
 rintro⟨j,out⟩ g
 simp only at g ⊢
 have hlen:=g.len (f:=List.length) (a:=0) (b:=1) (by simp) λs x _=>je
 refine⟨λd2=>⟨g.idx,d2,λx hx=>⟨⟨⟨λq=>?_,λq=>?_⟩,?_⟩,?_⟩⟩,λd2=>?_⟩
 ·have:out=[]:=List.eq_nil_of_length_eq_zero (by have:=eq_of_beq q;omega)
  subst this
  exact iff_of_true trivial (by rintro⟨i,y,r,_⟩;simp at r)
 ·rcases ie out with rfl|⟨i,y,rfl⟩
  ·simp at q
  ·have hil:((i++[y]).length:Int)=((i.length+1:Nat):Int):=by simp
   have w:W (((i++[y]).length:Int)-1)=(i.length:Int):=by rw[hil,bB (by simp at hlen;omega)];omega
   rw[w]
   simp only[Int.toNat_natCast]
   refine⟨eG (by omega) (by rw[hil];omega),by simp,λz hz=>?_⟩
   rw[List.getElem?_append_right (Nat.le_refl _),Nat.sub_self,List.getElem?_cons_zero]at hz
   cases hz
   rw[bne_iff_ne]
   refine not_congr ⟨λr=>⟨i,y,rfl,r⟩,?_⟩
   rintro⟨i',y',r,r2⟩
   have:=(List.append_inj' r rfl).2
   simp only[List.cons.injEq,and_true]at this
   rw[this];exact r2
 ·intro b hb
  refine⟨λq=>?_,λq=>?_⟩
  ·have q:=hb.mp q
   refine⟨by omega,by simp,out,⟨(cg x p.len).1,0⟩,rfl,?_⟩
   rcases ie out with rfl|⟨i,y,rfl⟩
   ·rfl
   ·rw[lU,List.getLast?_concat]
    simp only
    rw[if_neg λr=>q ⟨i,y,rfl,r⟩]
  ·have q:=Classical.not_not.mp λr=>by rw[hb.mpr r]at q;cases q
   obtain⟨i,y,rfl,r⟩:=q
   refine⟨by simp,i,y,rfl,?_⟩
   rw[lU,List.getLast?_concat]
   simp only
   rw[if_pos r,List.dropLast_concat]
 ·rintro out2 ⟨_,i,y,rfl,hadd⟩
  have h2:=je (len:=p.len) (out:=out) (id:=x)
  rw[←hadd,List.length_append,List.length_singleton]at h2
  have hil:((i++[y]).length:Int)=((i.length+1:Nat):Int):=by simp
  have w:W (((i++[y]).length:Int)-1)=(i.length:Int):=by rw[hil,bB (by omega)];omega
  have hp:=E5 (id:=x) (len:=p.len)
  have hbit:pP (cg x p.len).2.1=sP .u64 1 (cg x p.len).2.1:=by rw[pP,if_neg (by omega)]
  rw[w,hbit]
  simp only[Int.toNat_natCast]
  refine⟨eG (by omega) (by rw[hil];omega),by simp,λz hz=>⟨eG (by omega) (by rw[hil];omega),by simp,λz2 hz2=>?_⟩⟩
  rw[List.getElem?_append_right (Nat.le_refl _),Nat.sub_self,List.getElem?_cons_zero]at hz hz2
  cases hz;cases hz2
  rw[List.set_append_right _ _ (Nat.le_refl _),Nat.sub_self,List.set_cons_zero]
  exact g.step (by omega) hx hadd
 ·rw[bj,if_neg c,if_neg (not_not_intro hpw),if_neg (by rw[hno];simp),←g.done d2]
def P4(p:Pln)(ids:List Int)(hid:ids.length≤1000):PC Tryz.prog:=⟨113,[(.a [.k,.k,(.s 2)]),(.s 1)],[.agg [.int p.sub,.int p.len,.sl 2 (p.es.map Edg.v) false],.sl 1 (ids.map AV.int) false],sR (bj p ids),ao.of_ok λok=>(P3 p ids hid ok).elim λI0 h=>h.elim λm0 h=>h.elim λI1 h=>h.elim λm1 h=>h.elim λI2 h=>h.elim λm2 h=>h.elim λI3 h=>h.elim λI4 h=>aj (sh:=(.a [(.s 2),.k])) (enc:=sR) (a:=(sQ p ids I0 m0 I1 m1 I2 m2 I3 I4).an) h (by kernel_rfl) (AV.pureB_ok rfl),ai (by kernel_rfl)⟩
abbrev insK:=inK
def VI(n:Int)(most:Int):=okL [.int n,.int most]
def B8(r:Bool):AV:=.bool r
def B7(n:Int)(most:Int):Ax Tryz.prog noS (Bool):=
 (.br 64 (decide (0≤n)) (.ret (decide (n≤most)))
(.ret (false)))
def Fg(n:Int)(most:Int)(r0:Bool):=(B7 n most).vp B8 r0
theorem VH(n m:Int)(ok:VI n m):Fg n m (insK n m):=by
 dsimp only[Fg,B7,noS,Ax.vp,Ax.vc];simp only[vcU,rfU,List.length_map]
 refine⟨λc=>?_,λc=>?_⟩<;>simp[insK,inK,c]
def lC(n:Int)(most:Int):PC Tryz.prog:=⟨155,[.k,.k],[.int n,.int most],B8 (inK n most),ao.of_ok λok=>aj (sh:=.k) (enc:=B8) (a:=(B7 n most).an) (VH n most ok) (by kernel_rfl) (AV.pureB_ok rfl),ai (by kernel_rfl)⟩
def R2(length:Int):=okL [.int length]
def MH(length:Int)(t0:Int×Int):NF:=⟨[(0,.k,.int length),(3,.k,.val (.int .u64 t0.1)),(4,.k,.int t0.2)],[]⟩
@[reducible] def Fz:Nat→Type
 | 0=>Int×Int
 | _=>Unit
def uu(r:Int):AV:=.val (.int .u64 r)
def ut(length:Int)(I0:(Int×Int)→Prop)(m0:(Int×Int)→Nat):Ax Tryz.prog Fz (Int):=
 (.callP (mN length)
(.br 64 (!(bw length)) (.ret (0))
(.loop 0 (MH length) I0 m0 (0,0) [] λ(t0:Int×Int) b0 =>
(.br 48 (decide (t0.2<length)) (.callP (NT t0.2)
(.bk 0 b0 (bOr .u64 t0.1 (pP t0.2),W (t0.2+1)) []))
(.ret (t0.1))))))
def yf(length:Int)(I0:(Int×Int)→Prop)(m0:(Int×Int)→Nat)(r0:Int):=(ut length I0 m0).vp uu r0
theorem Vk:∀k<64,(2 ^ k-1) ||| 2 ^ k=2 ^ (k+1)-1:=by decide +kernel
theorem R0(len:Int)(ok:R2 len):∃I m,yf len I m (iW len):=by
 refine⟨λt=>∃k:Nat,t.2=k∧k≤len.toNat∧t.1=((2 ^ k-1:Nat):Int),λt=>len.toNat-t.2.toNat,?_⟩
 dsimp only[yf,ut,Fz,Ax.vp,Ax.vc];simp only[vcU,rfU,List.length_map]
 refine⟨λc=>?_,λc=>⟨⟨0,rfl,by omega,rfl⟩,?_⟩⟩
 ·have c:bw len=false:=by simpa using c
  rw[iW,if_neg (by rw[c];simp)]
 have c:bw len=true:=by simpa using c
 have hv:=gB.mp c
 rintro⟨b,_⟩ ⟨k,rfl,hk,rfl⟩
 simp only at hk ⊢
 refine⟨λd=>?_,λd=>?_⟩
 ·have h2:2 ^ k-1<18446744073709551616:=Nat.lt_of_le_of_lt (Nat.sub_le _ _) (Nat.pow_lt_pow_right (n:=64) (by omega) (by omega))
  have h3:2 ^ k<18446744073709551616:=Nat.pow_lt_pow_right (n:=64) (by omega) (by omega)
  rw[av (n:=len.toNat) (by omega) (by omega),pP,if_neg (by omega),JU (by omega),Sy h2 h3,Vk k (by omega)]
  exact⟨⟨k+1,rfl,by omega,rfl⟩,by omega⟩
 ·have:(k:Int)=len:=by omega
  subst this
  rw[iW,if_pos c]
  have hk:k=8∨k=16∨k=32∨k=64:=by omega
  rcases hk with rfl|rfl|rfl|rfl<;>decide +kernel
def R1(length:Int):PC Tryz.prog:=⟨179,[.k],[.int length],uu (iW length),ao.of_ok λok=>(R0 length ok).elim λI0 h=>h.elim λm0 h=>aj (sh:=.k) (enc:=uu) (a:=(ut length I0 m0).an) h (by kernel_rfl) (AV.pureB_ok rfl),ai (by kernel_rfl)⟩
abbrev vbtR:=n9
def TT(b:Int)(length:Int):=okL [.val (.int .u64 b),.int length]
def zR(r:Bool):AV:=.bool r
def zQ(b:Int)(length:Int):Ax Tryz.prog noS (Bool):=
 (.callP (mN length)
(.br 64 (bw length) (.callP (R1 length)
(.ret ((NV .u64 b (iW length))==0)))
(.ret (false))))
def D7(b:Int)(length:Int)(r0:Bool):=(zQ b length).vp zR r0
theorem TR(b len:Int)(ok:TT b len):D7 b len (vbtR b len):=by
 dsimp only[D7,zQ,noS,Ax.vp,Ax.vc];simp only[vcU,rfU,List.length_map]
 refine⟨λc=>?_,λc=>?_⟩<;>rw[vbtR,n9,c]<;>rfl
def TS(b:Int)(length:Int):PC Tryz.prog:=⟨156,[.k,.k],[.val (.int .u64 b),.int length],zR (n9 b length),ao.of_ok λok=>aj (sh:=.k) (enc:=zR) (a:=(zQ b length).an) (TR b length ok) (by kernel_rfl) (AV.pureB_ok rfl),ai (by kernel_rfl)⟩
def TN(p:Pkt):=okL [.agg [.int p.mode,.int p.sub,.int p.set,.int p.len,.int p.ttl,.int p.ent,.int p.ing,.int p.proto,.val (.int .u64 p.bits),.str p.pay]]
def zM(r:Bool):AV:=.bool r
def zL(p:Pkt):Ax Tryz.prog noS (Bool):=
 (.br 96 (decide (1≤p.mode)) (.br 176 (decide (p.mode≤3)) (.callP (lC p.sub 7)
(.br 256 (inK p.sub 7) (.callP (lC p.set 31)
(.br 336 (inK p.set 31) (.callP (TS p.bits p.len)
(.br 448 (n9 p.bits p.len) (.callP (lC p.ttl 63)
(.br 528 (inK p.ttl 63) (.callP (lC p.ent 1023)
(.br 608 (inK p.ent 1023) (.callP (lC p.ing 256)
(.br 688 (inK p.ing 256) (.callP (lC p.proto 7)
(.br 768 (inK p.proto 7) (.ret (decide ((p.pay.size:Int)≤64)))
(.ret (false))))
(.ret (false))))
(.ret (false))))
(.ret (false))))
(.ret (false))))
(.ret (false))))
(.ret (false))))
(.ret (false)))
(.ret (false)))
def D5(p:Pkt)(r0:Bool):=(zL p).vp zM r0
theorem TL(p:Pkt)(ok:TN p):D5 p (jI p):=by
 dsimp only[D5,zL,noS,Ax.vp,Ax.vc];simp only[vcU,rfU,List.length_map]
 unfold jI
 by_cases h1:1≤p.mode<;>by_cases h2:p.mode≤3<;>cases inK p.sub 7<;>cases inK p.set 31<;>cases n9 p.bits p.len<;>cases inK p.ttl 63<;>cases inK p.ent 1023<;>cases inK p.ing 256<;>cases inK p.proto 7<;>simp[h1,h2]
def TM(p:Pkt):PC Tryz.prog:=⟨114,[.k],[.agg [.int p.mode,.int p.sub,.int p.set,.int p.len,.int p.ttl,.int p.ent,.int p.ing,.int p.proto,.val (.int .u64 p.bits),.str p.pay]],zM (jI p),ao.of_ok λok=>aj (sh:=.k) (enc:=zM) (a:=(zL p).an) (TL p ok) (by kernel_rfl) (AV.pureB_ok rfl),ai (by kernel_rfl)⟩
def VL(p:Pln)(ids:List Int)(q:Pkt):=okL [.agg [.int p.sub,.int p.len,.sl 2 (p.es.map Edg.v) false],.sl 1 (ids.map AV.int) false,.agg [.int q.mode,.int q.sub,.int q.set,.int q.len,.int q.ttl,.int q.ent,.int q.ing,.int q.proto,.val (.int .u64 q.bits),.str q.pay]]
def Rg(p:Pln)(ids:List Int)(t0:Int×Pkt×List Pkt):NF:=⟨[(3,.k,.ref 0 0),(5,.k,.ref 1 0),(8,.k,.sl 2 (((bj p ids).1).map Stb.v) false),(10,.k,.vec 2),(11,.k,.int t0.1)],[.box (.agg [.int p.sub,.int p.len,.sl 2 (p.es.map Edg.v) false]),.box (.agg [.int t0.2.1.mode,.int t0.2.1.sub,.int t0.2.1.set,.int t0.2.1.len,.int t0.2.1.ttl,.int t0.2.1.ent,.int t0.2.1.ing,.int t0.2.1.proto,.val (.int .u64 t0.2.1.bits),.str t0.2.1.pay]),.vec 10 (t0.2.2.map Pkt.v) (ab (λ_=>rfl) t0.2.2)]⟩
@[reducible] def LY:Nat→Type
 | 0=>Int×Pkt×List Pkt
 | _=>Unit
def BA(r:List Pkt×Int):AV:=.tup [.sl 10 (r.1.map Pkt.v) false,.int r.2]
def B9(p:Pln)(ids:List Int)(q:Pkt)(I0:(Int×Pkt×List Pkt)→Prop)(m0:(Int×Pkt×List Pkt)→Nat):Ax Tryz.prog LY (List Pkt×Int):=
 (.req 96 (ids.length≤1000) λh1 =>
(.callP (P4 p ids h1)
(.br 224 (((bj p ids).2) != 0) (.ret ([],(bj p ids).2))
(.cmdL (.nilT 10 10) (.loop 0 (Rg p ids) I0 m0 (0,q,[]) [0,16,256] λ(t0:Int×Pkt×List Pkt) b0 =>
(.br 67 (decide (t0.1<((((bj p ids).1).map Stb.v).length:Int))) (.el 163 Stb.v ((bj p ids).1) (λR=>Rf (((bj p ids).1).map Stb.v) (ck (decide (0≤t0.1)) (ck (decide (t0.1<(((bj p ids).1).length:Int)))
(∀x2,((bj p ids).1)[t0.1.toNat]?=some x2 →
(R x2))))) λx2 =>
(.el 243 Stb.v ((bj p ids).1) (λR=>Rf (((bj p ids).1).map Stb.v) (ck (decide (0≤t0.1)) (ck (decide (t0.1<(((bj p ids).1).length:Int)))
(∀x3,((bj p ids).1)[t0.1.toNat]?=some x3 →
(R x3))))) λx3 =>
(.callP (TM (⟨t0.2.1.mode,p.sub,x2.set,p.len,t0.2.1.ttl,t0.2.1.ent,t0.2.1.ing,t0.2.1.proto,x3.bits,t0.2.1.pay⟩:Pkt))
(.br 467 (!(jI (⟨t0.2.1.mode,p.sub,x2.set,p.len,t0.2.1.ttl,t0.2.1.ent,t0.2.1.ing,t0.2.1.proto,x3.bits,t0.2.1.pay⟩:Pkt))) (.ret ([],1))
(.say (λR=>Rf (α:=List AV) (t0.2.2.map Pkt.v) (Rf (α:=List AV) [.agg [.int t0.2.1.mode,.int p.sub,.int x2.set,.int p.len,.int t0.2.1.ttl,.int t0.2.1.ent,.int t0.2.1.ing,.int t0.2.1.proto,.val (.int .u64 x3.bits),.str t0.2.1.pay]]
(ck (decide (t0.2.2.length+1≤1048576))
R))) (.app 515 Pkt.v t0.2.2 [(⟨t0.2.1.mode,p.sub,x2.set,p.len,t0.2.1.ttl,t0.2.1.ent,t0.2.1.ing,t0.2.1.proto,x3.bits,t0.2.1.pay⟩:Pkt)]
(.bk 0 b0 (W (t0.1+1),(⟨t0.2.1.mode,p.sub,x2.set,p.len,t0.2.1.ttl,t0.2.1.ent,t0.2.1.ing,t0.2.1.proto,x3.bits,t0.2.1.pay⟩:Pkt),t0.2.2++[(⟨t0.2.1.mode,p.sub,x2.set,p.len,t0.2.1.ttl,t0.2.1.ent,t0.2.1.ing,t0.2.1.proto,x3.bits,t0.2.1.pay⟩:Pkt)]) [0,1,515])))))))
(.say (Rf (t0.2.2.map Pkt.v)) (.cmdL (.frzE 2 (t0.2.2.map Pkt.v) (ab (λ_=>rfl) t0.2.2)) (.ret (t0.2.2,0))))))))))
def Fj(p:Pln)(ids:List Int)(q:Pkt)(I0:(Int×Pkt×List Pkt)→Prop)(m0:(Int×Pkt×List Pkt)→Nat)(r0:List Pkt×Int):=(B9 p ids q I0 m0).vp BA r0
theorem VJ(p:Pln)(ids:List Int)(q:Pkt)(h:ids.length≤1000)(ok:VL p ids q):∃I0 m0,Fj p ids q I0 m0 (jL p ids q):=by
 refine⟨λt=>dI (bj p ids).1 (λs=>[mkQ p q s]) t.1 t.2.2∧bP (bj p ids).1 (λs=>jI (mkQ p q s)=true) t.1∧∀s,mkQ p t.2.1 s=mkQ p q s,λt=>(bj p ids).1.length-t.1.toNat,?_⟩
 dsimp only[Fj,B9,LY,Ax.vp,Ax.vc];simp only[vcU,rfU,List.length_map]
 have hl:=qJ p ids
 refine⟨h,λc=>?_,λc=>⟨⟨dI.zero,bP.zero,λ_=>trivial⟩,?_⟩⟩
 ·rw[jL,if_pos (by simpa using c)]
 have c:¬(bj p ids).2≠0:=by simpa using c
 rintro⟨i,q2,out⟩ ⟨h1,h2,h3⟩
 simp only at h1 h2 h3 ⊢
 have hlen:=h1.len (b:=1) (by simp)
 refine⟨λd=>⟨h1.idx,d,λs hs=>⟨h1.idx,d,λs' hs'=>?_⟩⟩,λd=>?_⟩
 ·rw[hs]at hs';cases hs'
  refine⟨λe=>?_,λe=>⟨by omega,?_⟩⟩
  ·have e:jI (mkQ p q s)=false:=by rw[←h3 s];exact Bool.not_eq_true' _ |>.mp e
   rw[jL,if_neg c,if_pos λr=>by rw[r s (lT hs)]at e;cases e]
  ·have e:jI (mkQ p q s)=true:=by rw[←h3 s];exact Bool.not_eq_false' _ |>.mp e
   obtain⟨a,b⟩:=h1.step (out':=out++[mkQ p q2 s]) (by omega) hs (by rw[h3 s])
   obtain⟨a2,_⟩:=h2.step (by omega) hs e
   exact⟨⟨a,a2,λz=>by rw[←h3 z];rfl⟩,b⟩
 ·rw[jL,if_neg c,if_neg (not_not_intro (h2.done d)),h1.done d,dv]
def VK(p:Pln)(ids:List Int)(q:Pkt)(h:ids.length≤1000):PC Tryz.prog:=⟨74,[(.a [.k,.k,(.s 2)]),(.s 1),.k],[.agg [.int p.sub,.int p.len,.sl 2 (p.es.map Edg.v) false],.sl 1 (ids.map AV.int) false,.agg [.int q.mode,.int q.sub,.int q.set,.int q.len,.int q.ttl,.int q.ent,.int q.ing,.int q.proto,.val (.int .u64 q.bits),.str q.pay]],BA (jL p ids q),ao.of_ok λok=>(VJ p ids q h ok).elim λI0 h=>h.elim λm0 h=>aj (sh:=(.a [(.s 10),.k])) (enc:=BA) (a:=(B9 p ids q I0 m0).an) h (by kernel_rfl) (AV.pureB_ok rfl),ai (by kernel_rfl)⟩
def Kg(q:Pkt)(i:Int):Pkt:=⟨q.mode,q.sub,q.set,q.len,q.ttl,q.ent,i,q.proto,q.bits,q.pay⟩
def H6(at_:Int)(q:Pkt)(e:Edg):Pkt:=if e.router=at_ then Kg q e.id else q
theorem rp{at_:Int}:∀{es:List Edg} {q:Pkt},(es.map Edg.router).Nodup→es.foldl (H6 at_) q=match es.find? λe=>e.router==at_ with|some e=>Kg q e.id|none=>q
 | [],q,_=>rfl
 | e::es,q,h=>by
  rw[List.map_cons,List.nodup_cons]at h
  rw[List.foldl_cons,rp h.2,List.find?_cons]
  by_cases c:e.router=at_
  ·have:(es.find? λe=>e.router==at_)=none:=by
    rw[List.find?_eq_none]
    intro x hx q
    exact h.1 (c ▸ eq_of_beq q ▸ List.mem_map_of_mem hx)
   rw[this,H6,if_pos c,beq_iff_eq.mpr c]
  ·rw[H6,if_neg c,beq_eq_false_iff_ne.mpr c]
def Va(o:Ovl)(p:Pln)(at_:Int)(f:Flw)(data:ByteArray):=okL [.agg [.sl 5 (o.sp.map Spk.v) false,.sl 3 (o.ls.map Lsn.v) false,.sl 10 (o.fl.map Sig.v) false],.agg [.int p.sub,.int p.len,.sl 2 (p.es.map Edg.v) false],.int at_,.agg [.int f.src,.int f.grp],.str data]
def Q0(o:Ovl)(p:Pln)(at_:Int)(f:Flw)(t0:Int×Pkt):NF:=⟨[(2,.k,.int at_),(6,.k,.ref 0 0),(12,.k,.sl 1 (((aP o p at_ f).1).map AV.int) false),(15,.k,.ref 1 0),(46,.k,.sl 2 (p.es.map Edg.v) false),(47,.k,.int ((p.es.map Edg.v).length:Int)),(48,.k,.int t0.1)],[.box (.agg [.int p.sub,.int p.len,.sl 2 (p.es.map Edg.v) false]),.box (.agg [.int t0.2.mode,.int t0.2.sub,.int t0.2.set,.int t0.2.len,.int t0.2.ttl,.int t0.2.ent,.int t0.2.ing,.int t0.2.proto,.val (.int .u64 t0.2.bits),.str t0.2.pay])]⟩
@[reducible] def KS:Nat→Type
 | 0=>Int×Pkt
 | _=>Unit
def AX(r:List Pkt×Int):AV:=.tup [.sl 10 (r.1.map Pkt.v) false,.int r.2]
def AW(o:Ovl)(p:Pln)(at_:Int)(f:Flw)(data:ByteArray)(I0:(Int×Pkt)→Prop)(m0:(Int×Pkt)→Nat):Ax Tryz.prog KS (List Pkt×Int):=
 (.callP (tj o p at_ f)
(.br 272 (((aP o p at_ f).2) != 0) (.ret ([],(aP o p at_ f).2))
(.req 304 (data.size≤1000000) λh1 =>
(.callP (IG f data h1)
(.br 432 (((dx f data).2) != 0) (.ret ([],(dx f data).2))
(.callP (W5 f.src f.grp)
(.loop 0 (Q0 o p at_ f) I0 m0 (0,(⟨1,0,0,0,63,pz f.src f.grp,0,1,0,(dx f data).1⟩:Pkt)) [16,544] λ(t0:Int×Pkt) b0 =>
(.br 18 (decide (t0.1<((p.es.map Edg.v).length:Int))) (.el 18 Edg.v p.es (λR=>Rf (p.es.map Edg.v) (ck (decide (0≤t0.1)) (ck (decide (t0.1<(p.es.length:Int)))
(∀x2,p.es[t0.1.toNat]?=some x2 →
(R x2))))) λx2 =>
(.br 146 (x2.router==at_) (.bk 0 b0 (W (t0.1+1),(⟨t0.2.mode,t0.2.sub,t0.2.set,t0.2.len,t0.2.ttl,t0.2.ent,x2.id,t0.2.proto,t0.2.bits,t0.2.pay⟩:Pkt)) [0,1])
(.bk 0 b0 (W (t0.1+1),t0.2) [0,1])))
(.req 66 (((aP o p at_ f).1).length≤1000) λh3 =>
(.callP (VK p ((aP o p at_ f).1) t0.2 h3)
(.ret ((jL p ((aP o p at_ f).1) t0.2).1,(jL p ((aP o p at_ f).1) t0.2).2))))))))))))
def E9(o:Ovl)(p:Pln)(at_:Int)(f:Flw)(data:ByteArray)(I0:(Int×Pkt)→Prop)(m0:(Int×Pkt)→Nat)(r0:List Pkt×Int):=(AW o p at_ f data I0 m0).vp AX r0
theorem UY(o:Ovl)(p:Pln)(at_:Int)(f:Flw)(d:ByteArray)(h:d.size≤1000000)(ok:Va o p at_ f d):∃I m,E9 o p at_ f d I m (j6 o p at_ f d):=by
 refine⟨λt=>fT p.es (H6 at_) ⟨1,0,0,0,63,pz f.src f.grp,0,1,0,(dx f d).1⟩ t.1 t.2,λt=>p.es.length-t.1.toNat,?_⟩
 dsimp only[E9,AW,KS,Ax.vp,Ax.vc];simp only[vcU,rfU,List.length_map]
 have hr:=wN o p at_ f
 refine⟨λc=>?_,λc=>⟨h,λe=>?_,λe=>⟨fT.zero,?_⟩⟩⟩
 ·rw[j6,if_pos (by simpa using c)]
 ·rw[j6,if_neg (by simpa using c),if_pos (by simpa using e)]
 have hp:bI p=true:=by
  refine Classical.byContradiction λq=>?_
  rw[aP]at c
  by_cases hv:dg o≠0
  ·rw[if_pos hv]at c;simp[hv]at c
  ·rw[if_neg hv,if_pos (by simpa using q)]at c;simp at c
 have hn:(p.es.map Edg.router).Nodup:=by
  have:=(Bool.and_eq_true _ _).mp hp
  exact(of_decide_eq_true this.2:oq p.es).2.1
 have hB:p.es.length≤24:=by
  have:=(Bool.and_eq_true _ _).mp hp
  exact(of_decide_eq_true this.1:j5 p).2.2
 rintro⟨i,q⟩ g
 simp only at g ⊢
 refine⟨λc2=>⟨g.idx,c2,λx hx=>⟨λr=>g.step (by omega) hx (by rw[H6,if_pos (eq_of_beq r)];rfl),λr=>g.step (by omega) hx (by rw[H6,if_neg (by simpa using r)])⟩⟩,λc2=>⟨by omega,?_⟩⟩
 have e1:q=⟨1,0,0,0,63,pz f.src f.grp,ql p at_,1,0,(dx f d).1⟩:=by
  rw[g.done c2,rp hn,ql]
  cases p.es.find? λe=>e.router==at_<;>rfl
 rw[j6,if_neg (by simpa using c),if_neg (by simpa using e),e1]
def UZ(o:Ovl)(p:Pln)(at_:Int)(f:Flw)(data:ByteArray)(h:data.size≤1000000):PC Tryz.prog:=⟨28,[(.a [(.s 5),(.s 3),(.s 10)]),(.a [.k,.k,(.s 2)]),.k,.k,.k],[.agg [.sl 5 (o.sp.map Spk.v) false,.sl 3 (o.ls.map Lsn.v) false,.sl 10 (o.fl.map Sig.v) false],.agg [.int p.sub,.int p.len,.sl 2 (p.es.map Edg.v) false],.int at_,.agg [.int f.src,.int f.grp],.str data],AX (j6 o p at_ f data),ao.of_ok λok=>(UY o p at_ f data h ok).elim λI0 h=>h.elim λm0 h=>aj (sh:=(.a [(.s 10),.k])) (enc:=AX) (a:=(AW o p at_ f data I0 m0).an) h (by kernel_rfl) (AV.pureB_ok rfl),ai (by kernel_rfl)⟩
end Go.Proofs.YthhpaedpnjdnbaaGreatDoor
