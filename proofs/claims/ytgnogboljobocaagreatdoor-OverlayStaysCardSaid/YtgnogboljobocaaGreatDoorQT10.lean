/- Texts joined: G42 G43 G44. -/
import Derived.Test.YtgnogboljobocaaGreatDoorQT9
set_option linter.unusedVariables false
set_option linter.unusedSimpArgs false
namespace Go.Proofs.YtgnogboljobocaaGreatDoor
open Go Go.Am
theorem NetOk.atl{R:List Int}{sp:List Spk}{ls:List Lsn}(h:NetOk R sp ls){l:Lsn}(hl:l∈ls):atL sp ls l.router=l:=by
 unfold atL;rw [h.posL];exact atK_eq (key:=Lsn.router) h.ascL hl
theorem NetOk.posn{R:List Int}{sp:List Spk}{ls:List Lsn}(h:NetOk R sp ls){i:Nat}{s:Spk}(hs:sp[i]?=some s):posS sp s.router=i:=by
 obtain ⟨hi,e⟩:=List.getElem?_eq_some_iff.mp hs
 exact posK_eq (key:=Spk.router) h.asc hi (by rw [e])
theorem NetOk.posnl{R:List Int}{sp:List Spk}{ls:List Lsn}(h:NetOk R sp ls){i:Nat}{l:Lsn}(hl:ls[i]?=some l):posS sp l.router=i:=by
 obtain ⟨hi,e⟩:=List.getElem?_eq_some_iff.mp hl
 rw [h.posL]
 exact posK_eq (key:=Lsn.router) h.ascL hi (by rw [e])
theorem agreed_iff{o:Ovl}(h:ovlOk o):agreedP o↔∀(i:Nat) s (j:Nat) l,o.sp[i]?=some s→o.ls[j]?=some l→i≠j→agree s l:=by
 constructor
 ·rintro ⟨_,h2⟩ i s j l hs hl hij
  have hr:s.router∈rtrs o.sp:=List.mem_map.mpr ⟨s,mem_of_get hs,rfl⟩
  have hq:l.router∈rtrs o.sp:=by
   have:l.router∈o.ls.map Lsn.router:=List.mem_map.mpr ⟨l,mem_of_get hl,rfl⟩
   rw [h.1.lsr] at this;exact this
  have:=h2 _ hr _ hq fun e=>hij (by rw [←h.1.posn hs,←h.1.posnl hl,e])
  rw [h.1.at (mem_of_get hs),h.1.atl (mem_of_get hl)] at this
  exact this
 ·intro hs
  refine ⟨h,fun a ha b hb hab=>?_⟩
  obtain ⟨_,_,p3,_⟩:=h.1.pos ha
  obtain ⟨_,_,_,p4⟩:=h.1.pos hb
  exact hs _ _ _ _ p3 p4 fun e=>hab ((pos_inj h ha hb).mp e)
def agrOR_a(o:Ovl):Prop:=okL [.agg [.sl 5 (o.sp.map Spk.v) false,.sl 3 (o.ls.map Lsn.v) false,.sl 10 (o.fl.map Sig.v) false]]
def agrOR_n0(o:Ovl)(t0:Int):NF:=⟨[(1,.k,.ref 0 0),(11,.k,.sl 5 (o.sp.map Spk.v) false),(12,.k,.int ((o.sp.map Spk.v).length:Int)),(13,.k,.int t0)],[.box (.agg [.sl 5 (o.sp.map Spk.v) false,.sl 3 (o.ls.map Lsn.v) false,.sl 10 (o.fl.map Sig.v) false])]⟩
def agrOR_n1(o:Ovl)(t0:Int)(x1:Spk)(t1:Int):NF:=⟨[(1,.k,.ref 0 0),(3,.k,.int t0),(4,.k,.ref 1 0),(11,.k,.sl 5 (o.sp.map Spk.v) false),(12,.k,.int ((o.sp.map Spk.v).length:Int)),(13,.k,.int t0),(19,.k,.sl 3 (o.ls.map Lsn.v) false),(20,.k,.int ((o.ls.map Lsn.v).length:Int)),(21,.k,.int t1)],[.box (.agg [.sl 5 (o.sp.map Spk.v) false,.sl 3 (o.ls.map Lsn.v) false,.sl 10 (o.fl.map Sig.v) false]),.box (.agg [.int x1.router,.int x1.epoch,.int x1.last,.sl 4 (x1.items.map Itm.v) false,.sl 3 (x1.peers.map Per.v) false])]⟩
def agrOR_n2(o:Ovl)(t0:Int)(x1:Spk)(t1:Int)(x2:Lsn)(t2:Bool):NF:=⟨[(1,.k,.ref 0 0),(3,.k,.int t0),(4,.k,.ref 1 0),(11,.k,.sl 5 (o.sp.map Spk.v) false),(12,.k,.int ((o.sp.map Spk.v).length:Int)),(13,.k,.int t0),(19,.k,.sl 3 (o.ls.map Lsn.v) false),(20,.k,.int ((o.ls.map Lsn.v).length:Int)),(21,.k,.int t1),(34,.k,.bool t2)],[.box (.agg [.sl 5 (o.sp.map Spk.v) false,.sl 3 (o.ls.map Lsn.v) false,.sl 10 (o.fl.map Sig.v) false]),.box (.agg [.int x1.router,.int x1.epoch,.int x1.last,.sl 4 (x1.items.map Itm.v) false,.sl 3 (x1.peers.map Per.v) false])]⟩
def agrOR_s:Nat→Type
 | 0=>Int
 | 1=>Int
 | 2=>Bool
 | _=>Unit
def agrOR_e(r:Bool):AV:=.bool r
def agrOR_vc(o:Ovl)(I0:Int→Prop)(m0:Int→Nat)(I1:Int→Spk→Int→Prop)(m1:Int→Spk→Int→Nat)(I2:Int→Spk→Int→Lsn→Bool→Prop)(r0:Bool):Prop:=
 Cl (valOR_c o)
 (br ((valO o) != 0)
 (Rp agrOR_e (false) r0)
 (Be (agrOR_n0 o) [0] I0 (0)∧∀t0,I0 t0 →
 br (decide (t0<((o.sp.map Spk.v).length:Int)))
 (Rf (o.sp.map Spk.v) (ck (decide (0≤t0)) (ck (decide (t0<(o.sp.length:Int)))
 (∀x1,o.sp[t0.toNat]?=some x1 →
 Be (agrOR_n1 o t0 x1) [0,65] (I1 t0 x1) (0)∧∀t1,I1 t0 x1 t1 →
 br (decide (t1<((o.ls.map Lsn.v).length:Int)))
 (Rf (o.ls.map Lsn.v) (ck (decide (0≤t1)) (ck (decide (t1<(o.ls.length:Int)))
 (∀x2,o.ls[t1.toNat]?=some x2 →
 (br (t0 != t1)
 (Cl (agreeR_c x1 x2)
 (Be (agrOR_n2 o t0 x1 t1 x2) [0,1] (I2 t0 x1 t1 x2) (!(decide (agree x1 x2)))))
 (Be (agrOR_n2 o t0 x1 t1 x2) [0,1] (I2 t0 x1 t1 x2) (false)))∧∀t2:Bool,I2 t0 x1 t1 x2 t2 →
 br t2
 (Rp agrOR_e (false) r0)
 (Bk (agrOR_n1 o t0 x1) [0,1] (I1 t0 x1) (m1 t0 x1) (W (t1+1)) t1)))))
 (Bk (agrOR_n0 o) [0] I0 m0 (W (t0+1)) t0)))))
 (Rp agrOR_e (true) r0)))
theorem agrOR_p(o:Ovl)(ok:agrOR_a o):∃I0 m0 I1 m1 I2,agrOR_vc o I0 m0 I1 m1 I2 (decide (agreedP o)):=by
 refine ⟨fun t=>∃k:Nat,t=k∧k≤o.sp.length∧∀(i:Nat) s (j:Nat) l,i<k→o.sp[i]?=some s→o.ls[j]?=some l→i≠j→agree s l,fun t=>o.sp.length-t.toNat,
  fun t0 x t=>∃m:Nat,t=m∧m≤o.ls.length∧∀(j:Nat) l,j<m→o.ls[j]?=some l→t0.toNat≠j→agree x l,fun _ _ t=>o.ls.length-t.toNat,
  fun t0 x t1 l t=>t=false↔(t0≠t1→agree x l),?_⟩
 simp only [agrOR_vc,vcU,rfU,List.length_map]
 by_cases hv:ovlOk o
 case neg =>
  have e2:valO o=1:=if_neg hv
  have:¬agreedP o:=fun q=>hv q.1
  simp [e2,this]
 have hL:=hv.1.lens
 rw [valO_z.mpr hv]
 refine ⟨fun q=>by simp at q,fun _=>⟨⟨0,rfl,by omega,fun i s j l hi=>by omega⟩,?_⟩⟩
 rintro _ ⟨k,rfl,hk,hI⟩
 simp only [Int.toNat_natCast]
 refine ⟨fun a1=>⟨by omega,by omega,fun x hx=>⟨⟨0,rfl,by omega,fun j l hj=>by omega⟩,?_⟩⟩,fun a1=>?_⟩
 ·rintro _ ⟨m,rfl,hm,hM⟩
  simp only [Int.toNat_natCast]
  refine ⟨fun b1=>⟨by omega,by omega,fun l hl=>⟨⟨fun c1=>?_,fun c1=>?_⟩,?_⟩⟩,fun b1=>?_⟩
  ·have c1:(k:Int)≠m:=by simpa using c1
   by_cases q:agree x l
   ·simp [q]
   ·simp [q];omega
  ·have c1:(k:Int)=m:=by simpa using c1
   simp [c1]
  ·intro t2 h2
   refine ⟨fun e=>?_,fun e=>?_⟩
   ·subst e
    exact nodec fun q=>by
     have:=h2.mpr fun hne=>(agreed_iff hv).mp q k x m l hx hl (by omega)
     simp at this
   ·rw [W_succ (n:=o.ls.length) (by omega) (by omega)]
    refine ⟨⟨m+1,rfl,by omega,fun j u hj hu hne=>?_⟩,by omega⟩
    by_cases ej:j=m
    ·subst ej
     rw [hl] at hu;cases hu
     exact h2.mp e (by omega)
    ·exact hM j u (by omega) hu hne
  ·rw [W_succ (n:=o.sp.length) (by omega) (by omega)]
   refine ⟨⟨k+1,rfl,by omega,fun i s j l hi hs hl hij=>?_⟩,by omega⟩
   by_cases ei:i=k
   ·subst ei
    rw [hx] at hs;cases hs
    exact hM j l (by have:=lt_of_get hl;omega) hl hij
   ·exact hI i s j l (by omega) hs hl hij
 ·exact (decide_eq_true ((agreed_iff hv).mpr fun i s j l hs hl hij=>hI i s j l (by have:=lt_of_get hs;omega) hs hl hij)).symm
def agrOR_c(o:Ovl):PC Tryz.prog:=⟨66,[(.a [(.s 5),(.s 3),(.s 10)])],[.agg [.sl 5 (o.sp.map Spk.v) false,.sl 3 (o.ls.map Lsn.v) false,.sl 10 (o.fl.map Sig.v) false]],agrOR_e (decide (agreedP o)),PSpec.of_ok fun ok=>(agrOR_p o ok).elim fun I0 h=>h.elim fun m0 h=>h.elim fun I1 h=>h.elim fun m1 h=>h.elim fun I2 h=>mxP_of (sh:=.k) (enc:=agrOR_e) (a:=((.callP (valOR_c o)
 (.br 80 (.ret (false))
 (.loop 0 (agrOR_n0 o) (I0) (m0) ((0):Int) [0] fun (t0:Int) =>
 (.br 17 (.el 33 Spk.v o.sp fun x1 =>
 (.loop 1 (agrOR_n1 o t0 x1) (I1 t0 x1) (m1 t0 x1) ((0):Int) [0,65] fun (t1:Int) =>
 (.br 18 (.el 34 Lsn.v o.ls fun x2 =>
 (.join 2 (agrOR_n2 o t0 x1 t1 x2) (fun t2=>I2 t0 x1 t1 x2 t2) (.br 178 (.callP (agreeR_c x1 x2)
 (.back 2 ((!(decide (agree x1 x2))):Bool) [0,1]))
 (.back 2 ((false):Bool) [0,1])) fun (t2:Bool) =>
 (.br 2 (.ret (false))
 (.back 1 ((W (t1+1)):Int) [0,1]))))
 (.back 0 ((W (t0+1)):Int) [0]))))
 (.ret (true)))))):An Tryz.prog agrOR_s (Bool))) h (by kernel_rfl) (AV.pureB_ok rfl),fnB_ok (by kernel_rfl)⟩
def setA(o:Ovl)(s:Spk)(p:Per):Prop:=p.acked=s.last∧p.epoch=(atL o.sp o.ls p.router).epoch
theorem settled_of{o:Ovl}(ha:agreedP o):settledP o↔∀s∈o.sp,∀p∈s.peers,setA o s p:=by
 rw [settled_iff ha.1]
 constructor
 ·intro h s hs p hp
  obtain ⟨_,h2,h3⟩:=h s hs p hp
  exact ⟨h3,h2⟩
 ·intro h s hs p hp
  obtain ⟨h2,h3⟩:=h s hs p hp
  obtain ⟨q1,q2,q3⟩:=peer_in ha.1.1 hs hp
  have:=ha.2 s.router (List.mem_map.mpr ⟨s,hs,rfl⟩) p.router q1 (Ne.symm q2)
  rw [ha.1.1.at hs] at this
  exact ⟨this,h3,h2⟩
def setOR_a(o:Ovl):Prop:=okL [.agg [.sl 5 (o.sp.map Spk.v) false,.sl 3 (o.ls.map Lsn.v) false,.sl 10 (o.fl.map Sig.v) false]]
def setOR_n0(o:Ovl)(t0:Int):NF:=⟨[(1,.k,.ref 0 0),(11,.k,.sl 5 (o.sp.map Spk.v) false),(12,.k,.int ((o.sp.map Spk.v).length:Int)),(13,.k,.int t0)],[.box (.agg [.sl 5 (o.sp.map Spk.v) false,.sl 3 (o.ls.map Lsn.v) false,.sl 10 (o.fl.map Sig.v) false])]⟩
def setOR_n1(o:Ovl)(t0:Int)(x1:Spk)(t1:Int):NF:=⟨[(1,.k,.ref 0 0),(4,.k,.ref 1 0),(11,.k,.sl 5 (o.sp.map Spk.v) false),(12,.k,.int ((o.sp.map Spk.v).length:Int)),(13,.k,.int t0),(18,.k,.sl 3 (x1.peers.map Per.v) false),(19,.k,.int ((x1.peers.map Per.v).length:Int)),(20,.k,.int t1)],[.box (.agg [.sl 5 (o.sp.map Spk.v) false,.sl 3 (o.ls.map Lsn.v) false,.sl 10 (o.fl.map Sig.v) false]),.box (.agg [.int x1.router,.int x1.epoch,.int x1.last,.sl 4 (x1.items.map Itm.v) false,.sl 3 (x1.peers.map Per.v) false])]⟩
def setOR_n2(o:Ovl)(t0:Int)(x1:Spk)(t1:Int)(x2:Per)(t2:Bool):NF:=⟨[(1,.k,.ref 0 0),(4,.k,.ref 1 0),(11,.k,.sl 5 (o.sp.map Spk.v) false),(12,.k,.int ((o.sp.map Spk.v).length:Int)),(13,.k,.int t0),(18,.k,.sl 3 (x1.peers.map Per.v) false),(19,.k,.int ((x1.peers.map Per.v).length:Int)),(20,.k,.int t1),(42,.k,.bool t2)],[.box (.agg [.sl 5 (o.sp.map Spk.v) false,.sl 3 (o.ls.map Lsn.v) false,.sl 10 (o.fl.map Sig.v) false]),.box (.agg [.int x1.router,.int x1.epoch,.int x1.last,.sl 4 (x1.items.map Itm.v) false,.sl 3 (x1.peers.map Per.v) false])]⟩
def setOR_s:Nat→Type
 | 0=>Int
 | 1=>Int
 | 2=>Bool
 | _=>Unit
def setOR_e(r:Bool):AV:=.bool r
def setOR_vc(o:Ovl)(I0:Int→Prop)(m0:Int→Nat)(I1:Int→Spk→Int→Prop)(m1:Int→Spk→Int→Nat)(I2:Int→Spk→Int→Per→Bool→Prop)(r0:Bool):Prop:=
 Cl (agrOR_c o)
 (br (!(decide (agreedP o)))
 (Rp setOR_e (false) r0)
 (Be (setOR_n0 o) [0] I0 (0)∧∀t0,I0 t0 →
 br (decide (t0<((o.sp.map Spk.v).length:Int)))
 (Rf (o.sp.map Spk.v) (ck (decide (0≤t0)) (ck (decide (t0<(o.sp.length:Int)))
 (∀x1,o.sp[t0.toNat]?=some x1 →
 Be (setOR_n1 o t0 x1) [0,49] (I1 t0 x1) (0)∧∀t1,I1 t0 x1 t1 →
 br (decide (t1<((x1.peers.map Per.v).length:Int)))
 (Rf (x1.peers.map Per.v) (ck (decide (0≤t1)) (ck (decide (t1<(x1.peers.length:Int)))
 (∀x2,x1.peers[t1.toNat]?=some x2 →
 (br (x2.acked != x1.last)
 (Be (setOR_n2 o t0 x1 t1 x2) [0,1] (I2 t0 x1 t1 x2) (true))
 (Cl (idxSF_c o x2.router)
 (Rf (o.ls.map Lsn.v) (ck (decide (0≤(idxS o.sp x2.router))) (ck (decide ((idxS o.sp x2.router)<(o.ls.length:Int)))
 (∀x3,o.ls[(idxS o.sp x2.router).toNat]?=some x3 →
 Be (setOR_n2 o t0 x1 t1 x2) [0,1] (I2 t0 x1 t1 x2) (x2.epoch != x3.epoch)))))))∧∀t2:Bool,I2 t0 x1 t1 x2 t2 →
 br t2
 (Rp setOR_e (false) r0)
 (Bk (setOR_n1 o t0 x1) [0,1] (I1 t0 x1) (m1 t0 x1) (W (t1+1)) t1)))))
 (Bk (setOR_n0 o) [0] I0 m0 (W (t0+1)) t0)))))
 (Rp setOR_e (true) r0)))
theorem setOR_p(o:Ovl)(ok:setOR_a o):∃I0 m0 I1 m1 I2,setOR_vc o I0 m0 I1 m1 I2 (decide (settledP o)):=by
 refine ⟨fun t=>∃k:Nat,t=k∧k≤o.sp.length∧∀s∈o.sp.take k,∀p∈s.peers,setA o s p,fun t=>o.sp.length-t.toNat,
  fun _ x t=>∃j:Nat,t=j∧j≤x.peers.length∧∀p∈x.peers.take j,setA o x p,fun _ x t=>x.peers.length-t.toNat,
  fun _ x _ p t=>t=false↔setA o x p,?_⟩
 simp only [setOR_vc,vcU,rfU,List.length_map]
 by_cases ha:agreedP o
 case neg =>
  have:¬settledP o:=fun q=>ha q.1
  simp [ha,this]
 have hv:=ha.1
 have hL:=hv.1.lens
 refine ⟨fun q=>absurd ha (by simpa using q),fun _=>⟨⟨0,rfl,by omega,by simp⟩,?_⟩⟩
 rintro _ ⟨k,rfl,hk,hI⟩
 simp only [Int.toNat_natCast]
 refine ⟨fun a1=>⟨by omega,by omega,fun x hx=>⟨⟨0,rfl,by omega,by simp⟩,?_⟩⟩,fun a1=>?_⟩
 ·have hxm:=mem_of_get hx
  have hxp:=(hv.1.spo x hxm).1.2.2.2.2.1
  rintro _ ⟨j,rfl,hj,hJ⟩
  simp only [Int.toNat_natCast]
  refine ⟨fun b1=>⟨by omega,by omega,fun p hp=>?_⟩,fun b1=>?_⟩
  ·obtain ⟨q1,q2,q3⟩:=peer_in hv.1 hxm (mem_of_get hp)
   obtain ⟨p1,p2,p3,p4⟩:=hv.1.pos q1
   rw [idx_in hv q1]
   simp only [Int.toNat_natCast]
   refine ⟨⟨fun c1=>?_,fun c1=>⟨by omega,by omega,fun l hl=>?_⟩⟩,?_⟩
   ·have c1:¬p.acked=x.last:=by simpa using c1
    simp [setA,c1]
   ·have c1:p.acked=x.last:=by simpa using c1
    cases p4.symm.trans hl
    simp [setA,c1]
   ·intro t2 h2
    refine ⟨fun e=>?_,fun e=>?_⟩
    ·subst e
     exact nodec fun q=>by
      have:=h2.mpr ((settled_of ha).mp q x hxm p (mem_of_get hp))
      simp at this
    ·rw [W_succ (n:=x.peers.length) (by omega) (by omega)]
     exact ⟨⟨j+1,rfl,by omega,take_all hp hJ (h2.mp e)⟩,by omega⟩
  ·have ej:j=x.peers.length:=by omega
   rw [ej,List.take_length] at hJ
   rw [W_succ (n:=o.sp.length) (by omega) (by omega)]
   exact ⟨⟨k+1,rfl,by omega,take_all hx hI hJ⟩,by omega⟩
 ·have ek:k=o.sp.length:=by omega
  rw [ek,List.take_length] at hI
  exact (decide_eq_true ((settled_of ha).mpr hI)).symm
def setOR_c(o:Ovl):PC Tryz.prog:=⟨68,[(.a [(.s 5),(.s 3),(.s 10)])],[.agg [.sl 5 (o.sp.map Spk.v) false,.sl 3 (o.ls.map Lsn.v) false,.sl 10 (o.fl.map Sig.v) false]],setOR_e (decide (settledP o)),PSpec.of_ok fun ok=>(setOR_p o ok).elim fun I0 h=>h.elim fun m0 h=>h.elim fun I1 h=>h.elim fun m1 h=>h.elim fun I2 h=>mxP_of (sh:=.k) (enc:=setOR_e) (a:=((.callP (agrOR_c o)
 (.br 80 (.ret (false))
 (.loop 0 (setOR_n0 o) (I0) (m0) ((0):Int) [0] fun (t0:Int) =>
 (.br 17 (.el 17 Spk.v o.sp fun x1 =>
 (.loop 1 (setOR_n1 o t0 x1) (I1 t0 x1) (m1 t0 x1) ((0):Int) [0,49] fun (t1:Int) =>
 (.br 18 (.el 18 Per.v x1.peers fun x2 =>
 (.join 2 (setOR_n2 o t0 x1 t1 x2) (fun t2=>I2 t0 x1 t1 x2 t2) (.br 178 (.back 2 ((true):Bool) [0,1])
 (.callP (idxSF_c o x2.router)
 (.el 306 Lsn.v o.ls fun x3 =>
 (.back 2 ((x2.epoch != x3.epoch):Bool) [0,1])))) fun (t2:Bool) =>
 (.br 2 (.ret (false))
 (.back 1 ((W (t1+1)):Int) [0,1]))))
 (.back 0 ((W (t0+1)):Int) [0]))))
 (.ret (true)))))):An Tryz.prog setOR_s (Bool))) h (by kernel_rfl) (AV.pureB_ok rfl),fnB_ok (by kernel_rfl)⟩
def dropAt(l:List Int)(i:Nat):List Int:=l.take i++l.drop (i+1)
def spkM(l:List Int)(i:Nat)(r:Int):Spk:=⟨r,1,0,[],(dropAt l i).map fun x=>⟨x,0,0⟩⟩
theorem dropAt_ok{l:List Int}(h:l.Pairwise (·<·)){i:Nat}{r:Int}(hr:l[i]?=some r):dropAt l i=others l r:=by
 obtain ⟨hi,e⟩:=List.getElem?_eq_some_iff.mp hr
 have hl:l=l.take i++r::l.drop (i+1):=by
  rw [←e,List.getElem_cons_drop,List.take_append_drop]
 have h1:∀x∈l.take i,x≠r:=fun x hx q=>by
  rw [hl,List.pairwise_append] at h
  have:=h.2.2 x hx r (by simp);omega
 have h2:∀x∈l.drop (i+1),x≠r:=fun x hx q=>by
  rw [hl,List.pairwise_append,List.pairwise_cons] at h
  have:=h.2.1.1 x hx;omega
 unfold dropAt others
 conv=>rhs;rw [hl]
 rw [List.filter_append,List.filter_cons_of_neg (by simp),List.filter_eq_self.mpr fun x hx=>by simpa using h1 x hx,List.filter_eq_self.mpr fun x hx=>by simpa using h2 x hx]
theorem spkM_ok{l:List Int}(h:okR l){i:Nat}{r:Int}(hr:l[i]?=some r):spkM l i r=spkN l r:=by
 unfold spkM spkN
 rw [dropAt_ok h.2.2 hr];rfl
theorem netM_eq{l:List Int}(h:okR l):(⟨l.mapIdx (spkM l),l.map lsnN,[]⟩:Ovl)=netOf l:=by
 have:l.mapIdx (spkM l)=l.map (spkN l):=by
  refine List.ext_getElem (by simp) fun i h1 h2=>?_
  rw [List.getElem_mapIdx,List.getElem_map]
  exact spkM_ok h (List.getElem?_eq_getElem (by simpa using h1))
 rw [this];rfl
theorem netM_iff(l:List Int):ovlOk ⟨l.mapIdx (spkM l),l.map lsnN,[]⟩↔okR l:=by
 have er:rtrs (l.mapIdx (spkM l))=l:=by
  unfold rtrs
  refine List.ext_getElem (by simp) fun i h1 h2=>?_
  simp [spkM]
 constructor
 ·rintro ⟨h,_⟩
  simp only [er] at h
  refine ⟨h.len,fun r hr=>?_,h.ascR⟩
  obtain ⟨i,hi,rfl⟩:=List.getElem_of_mem hr
  have:=(h.spo (spkM l i l[i]) (List.mem_mapIdx.mpr ⟨i,hi,rfl⟩)).1.1
  exact this
 ·intro h
  rw [netM_eq h]
  exact (netOf_iff l).mpr h
theorem new_M(l:List Int)(i:Nat)(r:Int):new r 1 (dropAt l i)=if spkOk (spkM l i r) then (spkM l i r,0) else (spk0,1):=rfl
def newOR_a(routers:(List Int)):Prop:=okL [.sl 1 (routers.map AV.int) false]
def newOR_n0(routers:(List Int))(t0:Int×(List Lsn)×(List Spk)):NF:=⟨[(0,.k,.sl 1 (routers.map AV.int) false),(2,.k,.ref 0 0),(4,.k,.ref 1 0),(14,.k,.sl 1 (routers.map AV.int) false),(15,.k,.int ((routers.map AV.int).length:Int)),(16,.k,.int t0.1)],[.box (.agg [.sl 0 [] true,.sl 0 [] true,.sl 0 [] true]),.box (.agg [.vec 2,.vec 3,.sl 0 [] true]),.vec 5 (t0.2.2.map Spk.v) (pureBL_map (fun _=>rfl) t0.2.2),.vec 3 (t0.2.1.map Lsn.v) (pureBL_map (fun _=>rfl) t0.2.1)]⟩
def newOR_s:Nat→Type
 | 0=>Int×(List Lsn)×(List Spk)
 | _=>Unit
def newOR_e(r:Ovl×Int):AV:=.tup [Ovl.v r.1,.int r.2]
def newOR_vc(routers:(List Int))(I0:(Int×(List Lsn)×(List Spk))→Prop)(m0:(Int×(List Lsn)×(List Spk))→Nat)(r0:Ovl×Int):Prop:=
 br (decide (12<((routers.map AV.int).length:Int)))
 (Rp newOR_e ((⟨[],[],[]⟩:Ovl),1) r0)
 (Be (newOR_n0 routers) [0,32,144,145] I0 (0,[],[])∧∀t0,I0 t0 →
 br (decide (t0.1<((routers.map AV.int).length:Int)))
 (Rf (routers.map AV.int) (ck (decide (0≤t0.1)) (ck (decide (t0.1<(routers.length:Int)))
 (∀x1,routers[t0.1.toNat]?=some x1 →
 Rf (α:=List AV) (routers.map AV.int) (ck (bndB routers.length 0 t0.1 (routers.length:Int))
 (Rf (α:=List AV) [] (Rf (α:=List AV) (((routers.take t0.1.toNat).drop 0).map AV.int)
 (ck (decide (0+((routers.take t0.1.toNat).drop 0).length≤1000000))
 (Rf (α:=List AV) (routers.map AV.int) (ck (bndB routers.length (W (t0.1+1)) (routers.length:Int) (routers.length:Int))
 (Rf (α:=List AV) (((routers.take t0.1.toNat).drop 0).map AV.int) (Rf (α:=List AV) (((routers.take ((routers.length:Int).toNat)).drop ((W (t0.1+1)).toNat)).map AV.int)
 (ck (decide (((routers.take t0.1.toNat).drop 0).length+((routers.take ((routers.length:Int).toNat)).drop ((W (t0.1+1)).toNat)).length≤1000000))
 (Rf ((((routers.take t0.1.toNat).drop 0)++((routers.take ((routers.length:Int).toNat)).drop ((W (t0.1+1)).toNat))).map AV.int) (Cl (newR_c x1 1 (((routers.take t0.1.toNat).drop 0)++((routers.take ((routers.length:Int).toNat)).drop ((W (t0.1+1)).toNat))))
 (br (((new x1 1 (((routers.take t0.1.toNat).drop 0)++((routers.take ((routers.length:Int).toNat)).drop ((W (t0.1+1)).toNat)))).2) != 0)
 (Rp newOR_e ((⟨[],[],[]⟩:Ovl),1) r0)
 (Rf (α:=List AV) (t0.2.2.map Spk.v) (Rf (α:=List AV) [.agg [.int (((new x1 1 (((routers.take t0.1.toNat).drop 0)++((routers.take ((routers.length:Int).toNat)).drop ((W (t0.1+1)).toNat)))).1).router),.int (((new x1 1 (((routers.take t0.1.toNat).drop 0)++((routers.take ((routers.length:Int).toNat)).drop ((W (t0.1+1)).toNat)))).1).epoch),.int (((new x1 1 (((routers.take t0.1.toNat).drop 0)++((routers.take ((routers.length:Int).toNat)).drop ((W (t0.1+1)).toNat)))).1).last),.sl 4 ((((new x1 1 (((routers.take t0.1.toNat).drop 0)++((routers.take ((routers.length:Int).toNat)).drop ((W (t0.1+1)).toNat)))).1).items).map Itm.v) false,.sl 3 ((((new x1 1 (((routers.take t0.1.toNat).drop 0)++((routers.take ((routers.length:Int).toNat)).drop ((W (t0.1+1)).toNat)))).1).peers).map Per.v) false]]
 (ck (decide (t0.2.2.length+1≤1000000))
 (Idt (t0.2.1.map Lsn.v) (Rf (α:=List AV) [.agg [.int x1,.int 1,.sl 0 [] true]]
 (ck (decide ((t0.2.1.map Lsn.v).length+1≤1000000))
 ((FitE (.a [.k,.k,(.s 4)]) Lsn.v t0.2.1 [(⟨x1,1,[]⟩:Lsn)] [.agg [.int x1,.int 1,.sl 0 [] true]] ∧
 (Bk (newOR_n0 routers) [0,1,532,660] I0 m0 (W (t0.1+1),t0.2.1++[(⟨x1,1,[]⟩:Lsn)],t0.2.2++[(new x1 1 (((routers.take t0.1.toNat).drop 0)++((routers.take ((routers.length:Int).toNat)).drop ((W (t0.1+1)).toNat)))).1]) t0)))))))))))))))))))))))))
 (Cl (valOR_c (⟨t0.2.2,t0.2.1,[]⟩:Ovl))
 (ck (pureBLs [(t0.2.2.map Spk.v),(t0.2.1.map Lsn.v)])
 (br ((valO (⟨t0.2.2,t0.2.1,[]⟩:Ovl)) != 0)
 (Rp newOR_e ((⟨[],[],[]⟩:Ovl),1) r0)
 (Rf (t0.2.1.map Lsn.v) (Rf (t0.2.2.map Spk.v) (Rp newOR_e ((⟨t0.2.2,t0.2.1,[]⟩:Ovl),0) r0)))))))
theorem newOR_p(l:List Int)(h:l.length≤1000)(ok:newOR_a l):∃I m,newOR_vc l I m (newN l):=by
 refine ⟨fun t=>∃k:Nat,t=((k:Int),(l.take k).map lsnN,(l.mapIdx (spkM l)).take k)∧k≤l.length,fun t=>l.length-t.1.toNat,?_⟩
 simp only [newOR_vc,vcU,rfU,List.length_map]
 have hN:newN l=if okR l then (netOf l,0) else (ovl0,1):=rfl
 rw [hN]
 refine ⟨fun q=>?_,fun q=>⟨⟨0,rfl,by omega⟩,?_⟩⟩
 ·have:¬okR l:=fun e=>by have:=e.1;omega
  rw [if_neg this];rfl
 rintro _ ⟨k,rfl,hk⟩
 simp only [Int.toNat_natCast]
 refine ⟨fun a1=>⟨by omega,by omega,fun x hx=>?_⟩,fun a1=>?_⟩
 ·rw [W_succ (n:=l.length) (by omega) (by omega)]
  simp only [Int.toNat_natCast,List.take_length,List.drop_zero]
  have hdr:l.take k++l.drop (k+1)=dropAt l k:=rfl
  have hdl:(l.take k).length+(l.drop (k+1)).length≤1000:=by rw [List.length_take,List.length_drop];omega
  have hb1:bndB l.length 0 (k:Int) (l.length:Int)=true:=by simp [bndB];omega
  have hb2:bndB l.length ((k+1:Nat):Int) (l.length:Int) (l.length:Int)=true:=by simp [bndB];omega
  rw [hdr,new_M]
  refine ⟨hb1,by omega,hb2,by omega,fun c=>?_,fun c=>?_⟩
  ·have c:¬spkOk (spkM l k x):=fun e=>by rw [if_pos e] at c;simp at c
   have:¬okR l:=fun e=>c (by rw [spkM_ok e hx];exact (spkN_ok e (mem_of_get hx)).1)
   rw [if_neg this];rfl
  ·have c:spkOk (spkM l k x):=by
    by_cases e:spkOk (spkM l k x)
    ·exact e
    ·rw [if_neg e] at c;simp at c
   rw [if_pos c]
   have hm:(l.mapIdx (spkM l))[k]?=some (spkM l k x):=by rw [List.getElem?_mapIdx,hx];rfl
   refine ⟨by simp;omega,by simp;omega,fitE_one (fun _=>rfl) rfl,⟨k+1,?_,by omega⟩,by omega⟩
   rw [take_succ hx,take_succ hm,List.map_append];rfl
 ·rw [List.take_of_length_le (by simp;omega),List.take_of_length_le (by omega)]
  have hz:valO (⟨l.mapIdx (spkM l),l.map lsnN,[]⟩:Ovl)=if okR l then 0 else 1:=by
   unfold valO
   simp only [netM_iff]
  refine ⟨by generalize l.mapIdx (spkM l)=A;generalize l.map lsnN=B;simp [pureBLs,pureBL_map (v:=Spk.v) (fun _=>rfl),pureBL_map (v:=Lsn.v) (fun _=>rfl)],fun q=>?_,fun q=>?_⟩
  ·rw [hz] at q
   by_cases e:okR l
   ·rw [if_pos e] at q;simp at q
   ·rw [if_neg e];rfl
  ·rw [hz] at q
   by_cases e:okR l
   ·rw [if_pos e,netM_eq e]
   ·rw [if_neg e] at q;simp at q
def newOR_c(routers:(List Int))(h:routers.length≤1000):PC Tryz.prog:=⟨85,[(.s 1)],[.sl 1 (routers.map AV.int) false],newOR_e (newN routers),PSpec.of_ok fun ok=>(newOR_p routers h ok).elim fun I0 h=>h.elim fun m0 h=>mxP_of (sh:=(.a [(.a [(.s 5),(.s 3),(.s 10)]),.k])) (enc:=newOR_e) (a:=((.br 96 (.ret ((⟨[],[],[]⟩:Ovl),1))
 (.cmdL (.nilB 32 0 5) (.cmdL (.nilB 32 1 3) (.loop 0 (newOR_n0 routers) (I0) (m0) ((0,[],[]):Int×(List Lsn)×(List Spk)) [0,32,144,145] fun (t0:Int×(List Lsn)×(List Spk)) =>
 (.br 20 (.el 36 AV.int routers fun x1 =>
 (.sub 164 AV.int routers false
 (.app 180 AV.int [] ((routers.take t0.1.toNat).drop 0)
 (.sub 244 AV.int routers false
 (.app 260 AV.int ((routers.take t0.1.toNat).drop 0) ((routers.take ((routers.length:Int).toNat)).drop ((W (t0.1+1)).toNat))
 (.cmd (.frzE 260 ((((routers.take t0.1.toNat).drop 0)++((routers.take ((routers.length:Int).toNat)).drop ((W (t0.1+1)).toNat))).map AV.int) (pureBL_map (fun _=>rfl) (((routers.take t0.1.toNat).drop 0)++((routers.take ((routers.length:Int).toNat)).drop ((W (t0.1+1)).toNat))))) (.callP (newR_c x1 1 (((routers.take t0.1.toNat).drop 0)++((routers.take ((routers.length:Int).toNat)).drop ((W (t0.1+1)).toNat))))
 (.br 468 (.ret ((⟨[],[],[]⟩:Ovl),1))
 (.app 532 Spk.v t0.2.2 [(new x1 1 (((routers.take t0.1.toNat).drop 0)++((routers.take ((routers.length:Int).toNat)).drop ((W (t0.1+1)).toNat)))).1]
 (.app 660 (fun y:AV=>y) (t0.2.1.map Lsn.v) [.agg [.int x1,.int 1,.sl 0 [] true]]
 (.cmd (.wkV 660 (.a [.k,.k,(.s 4)]) Lsn.v (t0.2.1++[(⟨x1,1,[]⟩:Lsn)])) (.back 0 ((W (t0.1+1),t0.2.1++[(⟨x1,1,[]⟩:Lsn)],t0.2.2++[(new x1 1 (((routers.take t0.1.toNat).drop 0)++((routers.take ((routers.length:Int).toNat)).drop ((W (t0.1+1)).toNat)))).1]):Int×(List Lsn)×(List Spk)) [0,1,532,660]))))))))))))
 (.callP (valOR_c (⟨t0.2.2,t0.2.1,[]⟩:Ovl))
 (.br 68 (.ret ((⟨[],[],[]⟩:Ovl),1))
 (.cmdL (.frzE 3 (t0.2.1.map Lsn.v) (pureBL_map (fun _=>rfl) t0.2.1)) (.cmdL (.frzE 2 (t0.2.2.map Spk.v) (pureBL_map (fun _=>rfl) t0.2.2)) (.ret ((⟨t0.2.2,t0.2.1,[]⟩:Ovl),0))))))))))):An Tryz.prog newOR_s (Ovl×Int))) h (by kernel_rfl) (AV.pureB_ok rfl),fnB_ok (by kernel_rfl)⟩
theorem minI_eq{a b:Int}:minI a b=min a b:=by unfold minI;split<;>omega
def hvyT_a(L:(List Int))(p:Nat)(n:Int):Prop:=okL [.ref 0 0,.int n]∧(.box (.agg [.sl 1 (L.map AV.int) false,.int ((p:Nat):Int)]):Blk).ok
def hvyT_n0(L:(List Int))(p:Nat)(n:Int)(t0:Int×Nat×(List Fau)):NF:=⟨[(0,.k,.ref 0 0),(5,.k,.vec 1),(6,.k,.int t0.1)],[.box (.agg [.sl 1 (L.map AV.int) false,.int ((t0.2.1:Nat):Int)]),.vec 2 (t0.2.2.map Fau.v) (pureBL_map (fun _=>rfl) t0.2.2)]⟩
def hvyT_s:Nat→Type
 | 0=>Int×Nat×(List Fau)
 | _=>Unit
def hvyT_e(r:Tap×(List Fau)):AV:=.sl 2 (r.2.map Fau.v) false
def hvyT_b(r:Tap×(List Fau)):List (Option Blk):=[some (.box (.agg [.sl 1 (r.1.L.map AV.int) false,.int ((r.1.p:Nat):Int)]))]
def hvyT_vc(L:(List Int))(p:Nat)(n:Int)(I0:(Int×Nat×(List Fau))→Prop)(m0:(Int×Nat×(List Fau))→Nat)(r0:Tap×(List Fau)):Prop:=
 Be (hvyT_n0 L p n) [0,81] I0 (W (n-1),p,[])∧∀t0,I0 t0 →
 br (decide (0≤t0.1))
 (Ch (N_h L t0.2.1 3) [0] 50
 (br (decide (0<(Mod (rawV L t0.2.1) 3)))
 (∃h1:[1,1,2,3,4]≠[],
 Ch (Pick_h L (rawP L t0.2.1) [1,1,2,3,4] h1) [0] 130
 (Rf (α:=List AV) (t0.2.2.map Fau.v) (Rf (α:=List AV) [.agg [.int (pickI [1,1,2,3,4] (rawV L (rawP L t0.2.1))),.int t0.1]]
 (ck (decide (t0.2.2.length+1≤1000000))
 (Bk (hvyT_n0 L p n) [0,194] I0 m0 (W (t0.1-1),rawP L (rawP L t0.2.1),t0.2.2++[(⟨pickI [1,1,2,3,4] (rawV L (rawP L t0.2.1)),t0.1⟩:Fau)]) t0)))))
 (Bk (hvyT_n0 L p n) [0,1] I0 m0 (W (t0.1-1),rawP L t0.2.1,t0.2.2) t0)))
 (Rf (t0.2.2.map Fau.v) (Qt ⟨[(4,.k,.sl 2 (t0.2.2.map Fau.v) false)],[.box (.agg [.sl 1 (L.map AV.int) false,.int ((t0.2.1:Nat):Int)])]⟩ [0] hvyT_e hvyT_b ((⟨L,t0.2.1⟩:Tap),t0.2.2) r0))
theorem hvyT_p(L:List Int)(p:Nat)(n:Int)(h:0≤n∧n≤100000)(ok:hvyT_a L p n):∃I m,hvyT_vc L p n I m ((⟨L,(heavyT L n p).2⟩:Tap),(heavyT L n p).1):=by
 refine ⟨fun t=>∃k:Nat,t.1=(k:Int)-1∧k≤100000∧t.2.2.length+k≤100000∧heavyL L k t.2.2 t.2.1=heavyT L n p,fun t=>(t.1+1).toNat,?_⟩
 simp only [hvyT_vc,vcU,rfU,List.length_map]
 refine ⟨⟨n.toNat,by rw [W_eq (by omega)];omega,by omega,by simp;omega,rfl⟩,?_⟩
 rintro ⟨i,q,out⟩ ⟨k,hk,hk4,hl,hf⟩
 simp only at hk hl hf
 subst hk
 simp only
 refine ⟨fun h1=>?_,fun h1=>?_⟩
 ·obtain ⟨j,rfl⟩:∃j,k=j+1:=⟨k-1,by omega⟩
  have e:((j+1:Nat):Int)-1=j:=by omega
  rw [e,W_eq (by omega)]
  rw [heavyL] at hf
  refine ⟨fun c=>⟨by simp,by omega,⟨j,rfl,by omega,by simp;omega,?_⟩,by omega⟩,fun c=>⟨⟨j,rfl,by omega,by omega,?_⟩,by omega⟩⟩
  ·rw [if_pos c] at hf;exact hf
  ·rw [if_neg c] at hf;exact hf
 ·have:k=0:=by omega
  subst this
  rw [←hf];rfl
def hvyT_h(L:(List Int))(p:Nat)(n:Int)(h:0≤n∧n≤100000):HC Tryz.prog:=⟨72,[.k,.k],[.ref 0 0,.int n],[.box (.agg [.sl 1 (L.map AV.int) false,.int ((p:Nat):Int)])],hvyT_e ((⟨L,(heavyT L n p).2⟩:Tap),(heavyT L n p).1),hvyT_b ((⟨L,(heavyT L n p).2⟩:Tap),(heavyT L n p).1),HSpec.of_okh fun ok ok2=>have ok:hvyT_a L p n:=⟨ok,ok2 _ (by simp)⟩;(hvyT_p L p n h ok).elim fun I0 h=>h.elim fun m0 h=>mxH_of (sh:=(.s 2)) (enc:=hvyT_e) (hB:=hvyT_b) (a:=((.cmdL (.nilT 5 2) (.loop 0 (hvyT_n0 L p n) (I0) (m0) ((W (n-1),p,[]):Int×Nat×(List Fau)) [0,81] fun (t0:Int×Nat×(List Fau)) =>
 (.br 34 (.callH [0] (N_h L t0.2.1 3)
 (.br 82 (.req 130 ([1,1,2,3,4]≠[]) fun h1 =>
 (.callH [0] (Pick_h L (rawP L t0.2.1) [1,1,2,3,4] h1)
 (.app 194 Fau.v t0.2.2 [(⟨pickI [1,1,2,3,4] (rawV L (rawP L t0.2.1)),t0.1⟩:Fau)]
 (.back 0 ((W (t0.1-1),rawP L (rawP L t0.2.1),t0.2.2++[(⟨pickI [1,1,2,3,4] (rawV L (rawP L t0.2.1)),t0.1⟩:Fau)]):Int×Nat×(List Fau)) [0,194]))))
 (.back 0 ((W (t0.1-1),rawP L t0.2.1,t0.2.2):Int×Nat×(List Fau)) [0,1])))
 (.cmdL (.frzE 1 (t0.2.2.map Fau.v) (pureBL_map (fun _=>rfl) t0.2.2)) (.retH ((⟨L,t0.2.1⟩:Tap),t0.2.2) ⟨[(4,.k,.sl 2 (t0.2.2.map Fau.v) false)],[.box (.agg [.sl 1 (L.map AV.int) false,.int ((t0.2.1:Nat):Int)])]⟩ [0]))))):An Tryz.prog hvyT_s (Tap×(List Fau)))) h (by kernel_rfl),fnB_ok (by kernel_rfl),HcOk.of (by simp [hcB,belBL,AV.belB,allB,okBk,okBkO,hvyT_e,hvyT_b,pureBL_map (v:=AV.int) (fun _=>rfl)])⟩
def okAct(o:Ovl):Prop:=0<o.sp.length∧o.fl.length≤300000
def actT_a(L:(List Int))(p:Nat)(o:Ovl):Prop:=okL [.ref 0 0,.agg [.sl 5 (o.sp.map Spk.v) false,.sl 3 (o.ls.map Lsn.v) false,.sl 10 (o.fl.map Sig.v) false]]∧(.box (.agg [.sl 1 (L.map AV.int) false,.int ((p:Nat):Int)]):Blk).ok
def actT_n0(L:(List Int))(p:Nat)(o:Ovl)(x1:Spk)(t0:Int×Ovl×Nat):NF:=⟨[(3,.k,.ref 1 0),(4,.k,.ref 2 0),(6,.k,.ref 3 0),(7,.k,.int t0.1)],[.box (.agg [.sl 1 (L.map AV.int) false,.int ((t0.2.2:Nat):Int)]),.box (.agg [.sl 5 (o.sp.map Spk.v) false,.sl 3 (o.ls.map Lsn.v) false,.sl 10 (o.fl.map Sig.v) false]),.box (.agg [.sl 0 [] true,.sl 0 [] true,.sl 0 [] true]),.box (.agg [.sl 5 (t0.2.1.sp.map Spk.v) false,.sl 3 (t0.2.1.ls.map Lsn.v) false,.sl 10 (t0.2.1.fl.map Sig.v) false])]⟩
def actT_n1(L:(List Int))(p:Nat)(o:Ovl)(x1:Spk)(t1:Bool):NF:=⟨[(0,.k,.ref 0 0),(3,.k,.ref 1 0),(4,.k,.ref 2 0),(5,.k,.int x1.router),(6,.k,.ref 3 0),(20,.k,.int (Mod (rawV L (rawP L p)) 6)),(31,.k,.bool t1)],[.box (.agg [.sl 1 (L.map AV.int) false,.int (((rawP L (rawP L p)):Nat):Int)]),.box (.agg [.sl 5 (o.sp.map Spk.v) false,.sl 3 (o.ls.map Lsn.v) false,.sl 10 (o.fl.map Sig.v) false]),.box (.agg [.sl 0 [] true,.sl 0 [] true,.sl 0 [] true]),.box (.agg [.sl 5 (o.sp.map Spk.v) false,.sl 3 (o.ls.map Lsn.v) false,.sl 10 (o.fl.map Sig.v) false])]⟩
def actT_s:Nat→Type
 | 0=>Int×Ovl×Nat
 | 1=>Bool
 | _=>Unit
def actT_e(r:Tap×Ovl):AV:=.agg [.sl 5 (r.2.sp.map Spk.v) false,.sl 3 (r.2.ls.map Lsn.v) false,.sl 10 (r.2.fl.map Sig.v) false]
def actT_b(r:Tap×Ovl):List (Option Blk):=[some (.box (.agg [.sl 1 (r.1.L.map AV.int) false,.int ((r.1.p:Nat):Int)]))]
def actT_vc(L:(List Int))(p:Nat)(o:Ovl)(I0:Spk→(Int×Ovl×Nat)→Prop)(I1:Spk→Bool→Prop)(r0:Tap×Ovl):Prop:=
 Ch (N_h L p ((o.sp.map Spk.v).length:Int)) [0] 129
 (Rf (o.sp.map Spk.v) (ck (decide (0≤(Mod (rawV L p) ((o.sp.map Spk.v).length:Int)))) (ck (decide ((Mod (rawV L p) ((o.sp.map Spk.v).length:Int))<(o.sp.length:Int)))
 (∀x1,o.sp[(Mod (rawV L p) ((o.sp.map Spk.v).length:Int)).toNat]?=some x1 →
 (Ch (N_h L (rawP L p) 6) [0] 289
 ((br ((Mod (rawV L (rawP L p)) 6)==0)
 (Be (actT_n1 L p o x1) [0,1,17,225] (I1 x1) (true))
 (Be (actT_n1 L p o x1) [0,1,17,225] (I1 x1) ((Mod (rawV L (rawP L p)) 6)==1)))∧∀t1:Bool,I1 x1 t1 →
 br t1
 (Ch (wantsT_h L (rawP L (rawP L p))) [0] 52
 (∃h2:o.fl.length≤1000000,
 Cl (chgOR_c o x1.router ((wantsT L (rawP L (rawP L p))).1) h2)
 (Be (actT_n0 L p o x1) [0,1,2,3] (I0 x1) ((changeV o x1.router ((wantsT L (rawP L (rawP L p))).1)).2,(changeV o x1.router ((wantsT L (rawP L (rawP L p))).1)).1,(wantsT L (rawP L (rawP L p))).2))))
 (br ((Mod (rawV L (rawP L p)) 6)==2)
 (Ch (wantsT_h L (rawP L (rawP L p))) [0] 84
 (∃h3:o.fl.length≤1000000,
 Cl (rstOR_c o x1.router ((wantsT L (rawP L (rawP L p))).1) h3)
 (Be (actT_n0 L p o x1) [0,1,2,3] (I0 x1) ((restartV o x1.router ((wantsT L (rawP L (rawP L p))).1)).2,(restartV o x1.router ((wantsT L (rawP L (rawP L p))).1)).1,(wantsT L (rawP L (rawP L p))).2))))
 (br ((Mod (rawV L (rawP L p)) 6)==3)
 (∃h4:0≤(minI ((o.fl.map Sig.v).length:Int) 40)∧(minI ((o.fl.map Sig.v).length:Int) 40)≤100000,
 Ch (hvyT_h L (rawP L (rawP L p)) (minI ((o.fl.map Sig.v).length:Int) 40) h4) [0] 164
 (∃h5:okRnd o ((heavyT L (minI ((o.fl.map Sig.v).length:Int) 40) (rawP L (rawP L p))).1),
 Cl (rndOR_c o ((heavyT L (minI ((o.fl.map Sig.v).length:Int) 40) (rawP L (rawP L p))).1) h5)
 (Be (actT_n0 L p o x1) [0,1,2,3] (I0 x1) ((roundO o ((heavyT L (minI ((o.fl.map Sig.v).length:Int) 40) (rawP L (rawP L p))).1)).2,(roundO o ((heavyT L (minI ((o.fl.map Sig.v).length:Int) 40) (rawP L (rawP L p))).1)).1,(heavyT L (minI ((o.fl.map Sig.v).length:Int) 40) (rawP L (rawP L p))).2))))
 (∃h6:0≤((o.fl.map Sig.v).length:Int)∧((o.fl.map Sig.v).length:Int)≤1000000,
 Ch (fltsT_h L (rawP L (rawP L p)) ((o.fl.map Sig.v).length:Int) h6) [0] 148
 (∃h7:okRnd o ((faultsT L ((o.fl.map Sig.v).length:Int) (rawP L (rawP L p))).1),
 Cl (rndOR_c o ((faultsT L ((o.fl.map Sig.v).length:Int) (rawP L (rawP L p))).1) h7)
 (Be (actT_n0 L p o x1) [0,1,2,3] (I0 x1) ((roundO o ((faultsT L ((o.fl.map Sig.v).length:Int) (rawP L (rawP L p))).1)).2,(roundO o ((faultsT L ((o.fl.map Sig.v).length:Int) (rawP L (rawP L p))).1)).1,(faultsT L ((o.fl.map Sig.v).length:Int) (rawP L (rawP L p))).2))))))))∧∀t0:Int×Ovl×Nat,I0 x1 t0 →
 br (t0.1 != 0)
 (Qt ⟨[(4,.k,.ref 1 0)],[.box (.agg [.sl 1 (L.map AV.int) false,.int ((t0.2.2:Nat):Int)]),.box (.agg [.sl 5 (o.sp.map Spk.v) false,.sl 3 (o.ls.map Lsn.v) false,.sl 10 (o.fl.map Sig.v) false])]⟩ [0,2] actT_e actT_b ((⟨L,t0.2.2⟩:Tap),o) r0)
 (Qt ⟨[(4,.k,.ref 1 0)],[.box (.agg [.sl 1 (L.map AV.int) false,.int ((t0.2.2:Nat):Int)]),.box (.agg [.sl 5 (t0.2.1.sp.map Spk.v) false,.sl 3 (t0.2.1.ls.map Lsn.v) false,.sl 10 (t0.2.1.fl.map Sig.v) false])]⟩ [0,2] actT_e actT_b ((⟨L,t0.2.2⟩:Tap),t0.2.1) r0)))))
theorem actT_p(L:List Int)(p:Nat)(o:Ovl)(h:okAct o)(ok:actT_a L p o):∃I0 I1,actT_vc L p o I0 I1 ((⟨L,(actT L p o).2⟩:Tap),(actT L p o).1):=by
 obtain ⟨hs,hf⟩:=h
 refine ⟨fun _ t=>(orO o (t.2.1,t.1),t.2.2)=actT L p o,fun _ x=>x=decide (Mod (rawV L (rawP L p)) 6=0∨Mod (rawV L (rawP L p)) 6=1),?_⟩
 have hm:=Mod_range (x:=rawV L p) (n:=(o.sp.length:Int)) (by omega)
 have hmin:minI (o.fl.length:Int) 40=min (o.fl.length:Int) 40:=minI_eq
 simp only [actT_vc,vcU,rfU,List.length_map]
 simp only [hmin]
 refine ⟨by omega,by omega,fun x hx=>⟨⟨⟨fun c=>by simp [eq_of_beq c],fun c=>?_⟩,?_⟩,?_⟩⟩
 ·have c:¬Mod (rawV L (rawP L p)) 6=0:=by simpa using c
  rw [Bool.eq_iff_iff,beq_iff_eq,decide_eq_true_iff];omega
 all_goals have hx:o.sp.getD (Mod (rawV L p) o.sp.length).toNat spk0=x:=by rw [List.getD_eq_getElem?_getD,hx];rfl
 rotate_left
 ·rintro ⟨e,o2,q⟩ h2
  simp only at h2 ⊢
  refine ⟨fun c=>?_,fun c=>?_⟩
  ·have c:e≠0:=by simpa using c
   rw [←h2,orO,if_pos c]
  ·have c:¬e≠0:=by simpa using c
   rw [←h2,orO,if_neg c]
 have hF1:=heavyT_len (L:=L) (n:=min (o.fl.length:Int) 40) (p:=rawP L (rawP L p))
 have hF2:=faultsT_len (L:=L) (n:=o.fl.length) (p:=rawP L (rawP L p))
 rintro _ rfl
 refine ⟨fun c=>⟨by omega,?_⟩,fun c=>⟨fun d=>⟨by omega,?_⟩,fun d=>⟨fun e=>⟨by omega,⟨by omega,by omega⟩,?_⟩,fun e=>⟨by omega,⟨by omega,by omega⟩,?_⟩⟩⟩⟩
 ·have c:=of_decide_eq_true c
  rw [actT,if_pos c,hx]
 ·have c:=of_decide_eq_false c
  have d:=eq_of_beq d
  rw [actT,if_neg c,if_pos d,hx]
 ·have c:=of_decide_eq_false c
  have d:¬Mod (rawV L (rawP L p)) 6=2:=by simpa using d
  have e:=eq_of_beq e
  rw [actT,if_neg c,if_neg d,if_pos e]
 ·have c:=of_decide_eq_false c
  have d:¬Mod (rawV L (rawP L p)) 6=2:=by simpa using d
  have e:¬Mod (rawV L (rawP L p)) 6=3:=by simpa using e
  rw [actT,if_neg c,if_neg d,if_neg e]
def actT_h(L:(List Int))(p:Nat)(o:Ovl)(h:okAct o):HC Tryz.prog:=⟨89,[.k,(.a [(.s 5),(.s 3),(.s 10)])],[.ref 0 0,.agg [.sl 5 (o.sp.map Spk.v) false,.sl 3 (o.ls.map Lsn.v) false,.sl 10 (o.fl.map Sig.v) false]],[.box (.agg [.sl 1 (L.map AV.int) false,.int ((p:Nat):Int)])],actT_e ((⟨L,(actT L p o).2⟩:Tap),(actT L p o).1),actT_b ((⟨L,(actT L p o).2⟩:Tap),(actT L p o).1),HSpec.of_okh fun ok ok2=>have ok:actT_a L p o:=⟨ok,ok2 _ (by simp)⟩;(actT_p L p o h ok).elim fun I0 h=>h.elim fun I1 h=>mxH_of (sh:=(.a [(.s 5),(.s 3),(.s 10)])) (enc:=actT_e) (hB:=actT_b) (a:=((.callH [0] (N_h L p ((o.sp.map Spk.v).length:Int))
 (.el 145 Spk.v o.sp fun x1 =>
 (.pass (.join 0 (actT_n0 L p o x1) (fun t0=>I0 x1 t0) (.callH [0] (N_h L (rawP L p) 6)
 (.join 1 (actT_n1 L p o x1) (fun t1=>I1 x1 t1) (.br 337 (.back 1 ((true):Bool) [0,1,17,225])
 (.back 1 (((Mod (rawV L (rawP L p)) 6)==1):Bool) [0,1,17,225])) fun (t1:Bool) =>
 (.br 4 (.callH [0] (wantsT_h L (rawP L (rawP L p)))
 (.req 68 (o.fl.length≤1000000) fun h2 =>
 (.callP (chgOR_c o x1.router ((wantsT L (rawP L (rawP L p))).1) h2)
 (.back 0 (((changeV o x1.router ((wantsT L (rawP L (rawP L p))).1)).2,(changeV o x1.router ((wantsT L (rawP L (rawP L p))).1)).1,(wantsT L (rawP L (rawP L p))).2):Int×Ovl×Nat) [0,1,2,3]))))
 (.br 36 (.callH [0] (wantsT_h L (rawP L (rawP L p)))
 (.req 100 (o.fl.length≤1000000) fun h3 =>
 (.callP (rstOR_c o x1.router ((wantsT L (rawP L (rawP L p))).1) h3)
 (.back 0 (((restartV o x1.router ((wantsT L (rawP L (rawP L p))).1)).2,(restartV o x1.router ((wantsT L (rawP L (rawP L p))).1)).1,(wantsT L (rawP L (rawP L p))).2):Int×Ovl×Nat) [0,1,2,3]))))
 (.br 68 (.req 164 (0≤(minI ((o.fl.map Sig.v).length:Int) 40)∧(minI ((o.fl.map Sig.v).length:Int) 40)≤100000) fun h4 =>
 (.callH [0] (hvyT_h L (rawP L (rawP L p)) (minI ((o.fl.map Sig.v).length:Int) 40) h4)
 (.req 180 (okRnd o ((heavyT L (minI ((o.fl.map Sig.v).length:Int) 40) (rawP L (rawP L p))).1)) fun h5 =>
 (.callP (rndOR_c o ((heavyT L (minI ((o.fl.map Sig.v).length:Int) 40) (rawP L (rawP L p))).1) h5)
 (.back 0 (((roundO o ((heavyT L (minI ((o.fl.map Sig.v).length:Int) 40) (rawP L (rawP L p))).1)).2,(roundO o ((heavyT L (minI ((o.fl.map Sig.v).length:Int) 40) (rawP L (rawP L p))).1)).1,(heavyT L (minI ((o.fl.map Sig.v).length:Int) 40) (rawP L (rawP L p))).2):Int×Ovl×Nat) [0,1,2,3])))))
 (.req 148 (0≤((o.fl.map Sig.v).length:Int)∧((o.fl.map Sig.v).length:Int)≤1000000) fun h6 =>
 (.callH [0] (fltsT_h L (rawP L (rawP L p)) ((o.fl.map Sig.v).length:Int) h6)
 (.req 164 (okRnd o ((faultsT L ((o.fl.map Sig.v).length:Int) (rawP L (rawP L p))).1)) fun h7 =>
 (.callP (rndOR_c o ((faultsT L ((o.fl.map Sig.v).length:Int) (rawP L (rawP L p))).1) h7)
 (.back 0 (((roundO o ((faultsT L ((o.fl.map Sig.v).length:Int) (rawP L (rawP L p))).1)).2,(roundO o ((faultsT L ((o.fl.map Sig.v).length:Int) (rawP L (rawP L p))).1)).1,(faultsT L ((o.fl.map Sig.v).length:Int) (rawP L (rawP L p))).2):Int×Ovl×Nat) [0,1,2,3])))))))))) fun (t0:Int×Ovl×Nat) =>
 (.br 36 (.retH ((⟨L,t0.2.2⟩:Tap),o) ⟨[(4,.k,.ref 1 0)],[.box (.agg [.sl 1 (L.map AV.int) false,.int ((t0.2.2:Nat):Int)]),.box (.agg [.sl 5 (o.sp.map Spk.v) false,.sl 3 (o.ls.map Lsn.v) false,.sl 10 (o.fl.map Sig.v) false])]⟩ [0,2])
 (.retH ((⟨L,t0.2.2⟩:Tap),t0.2.1) ⟨[(4,.k,.ref 1 0)],[.box (.agg [.sl 1 (L.map AV.int) false,.int ((t0.2.2:Nat):Int)]),.box (.agg [.sl 5 (t0.2.1.sp.map Spk.v) false,.sl 3 (t0.2.1.ls.map Lsn.v) false,.sl 10 (t0.2.1.fl.map Sig.v) false])]⟩ [0,2])))))):An Tryz.prog actT_s (Tap×Ovl))) h (by kernel_rfl),fnB_ok (by kernel_rfl),HcOk.of (by simp [hcB,belBL,AV.belB,allB,okBk,okBkO,actT_e,actT_b,pureBL_map (v:=AV.int) (fun _=>rfl),pureBL_map (v:=Lsn.v) (fun _=>rfl),pureBL_map (v:=Sig.v) (fun _=>rfl),pureBL_map (v:=Spk.v) (fun _=>rfl)])⟩
def ovlT_a(L:(List Int))(p:Nat)(most:Int)(steps:Int):Prop:=okL [.ref 0 0,.int most,.int steps]∧(.box (.agg [.sl 1 (L.map AV.int) false,.int ((p:Nat):Int)]):Blk).ok
def ovlT_n0(L:(List Int))(p:Nat)(most:Int)(steps:Int)(t0:Int×Ovl×Nat):NF:=⟨[(0,.k,.ref 0 0),(6,.k,.ref 1 0),(7,.k,.ref 2 0),(9,.k,.int t0.1)],[.box (.agg [.sl 1 (L.map AV.int) false,.int ((t0.2.2:Nat):Int)]),.box (.agg [.sl 0 [] true,.sl 0 [] true,.sl 0 [] true]),.box (.agg [.sl 5 (t0.2.1.sp.map Spk.v) false,.sl 3 (t0.2.1.ls.map Lsn.v) false,.sl 10 (t0.2.1.fl.map Sig.v) false])]⟩
def ovlT_s:Nat→Type
 | 0=>Int×Ovl×Nat
 | _=>Unit
def ovlT_e(r:Tap×Ovl):AV:=.agg [.sl 5 (r.2.sp.map Spk.v) false,.sl 3 (r.2.ls.map Lsn.v) false,.sl 10 (r.2.fl.map Sig.v) false]
def ovlT_b(r:Tap×Ovl):List (Option Blk):=[some (.box (.agg [.sl 1 (r.1.L.map AV.int) false,.int ((r.1.p:Nat):Int)]))]
def ovlT_vc(L:(List Int))(p:Nat)(most:Int)(steps:Int)(I0:(Int×Ovl×Nat)→Prop)(m0:(Int×Ovl×Nat)→Nat)(r0:Tap×Ovl):Prop:=
 Ch (Range_h L p 1 most) [0] 65
 (Rf (α:=List AV) [.int 2,.int 3,.int 5,.int 8,.int 11] (ck (bndB [2,3,5,8,11].length 0 (rng L p 1 most) ([2,3,5,8,11].length:Int))
 (∃h1:(([2,3,5,8,11].take ((rng L p 1 most).toNat)).drop 0).length≤1000,
 Cl (newOR_c (([2,3,5,8,11].take ((rng L p 1 most).toNat)).drop 0) h1)
 (Ch (N_h L (rawP L p) (W (steps+1))) [0] 257
 (Be (ovlT_n0 L p most steps) [0,1,161] I0 (Mod (rawV L (rawP L p)) (W (steps+1)),(newN (([2,3,5,8,11].take ((rng L p 1 most).toNat)).drop 0)).1,rawP L (rawP L p))∧∀t0,I0 t0 →
 br (decide (0<t0.1))
 (∃h2:okAct t0.2.1,
 Ch (actT_h L t0.2.2 t0.2.1 h2) [0] 67
 (Bk (ovlT_n0 L p most steps) [0,1,2] I0 m0 (W (t0.1-1),(actT L t0.2.2 t0.2.1).1,(actT L t0.2.2 t0.2.1).2) t0))
 (Qt ⟨[(6,.k,.ref 1 0)],[.box (.agg [.sl 1 (L.map AV.int) false,.int ((t0.2.2:Nat):Int)]),.box (.agg [.sl 5 (t0.2.1.sp.map Spk.v) false,.sl 3 (t0.2.1.ls.map Lsn.v) false,.sl 10 (t0.2.1.fl.map Sig.v) false])]⟩ [0,1] ovlT_e ovlT_b ((⟨L,t0.2.2⟩:Tap),t0.2.1) r0))))))
theorem ovlT_p(L:List Int)(p:Nat)(most steps:Int)(h:(1≤most∧most≤5)∧0≤steps∧steps≤20)(ok:ovlT_a L p most steps):∃I m,ovlT_vc L p most steps I m ((⟨L,(ovlT L most steps p).2⟩:Tap),(ovlT L most steps p).1):=by
 obtain ⟨hm,hs⟩:=h
 have hk:=rng_in (L:=L) (p:=p) (lo:=1) (hi:=most) (by omega)
 have hr:=okR_take (rng L p 1 most).toNat
 have e:newN (([2,3,5,8,11]:List Int).take (rng L p 1 most).toNat)=(netOf (([2,3,5,8,11]:List Int).take (rng L p 1 most).toNat),0):=if_pos hr
 have hn:=Mod_range (x:=rawV L (rawP L p)) (n:=W (steps+1)) (by rw [W_eq (by omega)];omega)
 have hW:W (steps+1)=steps+1:=W_eq (by omega)
 have hRl:0<(([2,3,5,8,11]:List Int).take (rng L p 1 most).toNat).length:=by simp only [List.length_take,List.length_cons,List.length_nil];omega
 refine ⟨fun t=>∃n:Nat,t.1=n∧n≤20∧OI (([2,3,5,8,11]:List Int).take (rng L p 1 most).toNat) t.2.1∧t.2.1.fl.length+n * 14440≤288800∧actN L n t.2=ovlT L most steps p,fun t=>t.1.toNat,?_⟩
 simp only [ovlT_vc,vcU,rfU,List.length_map]
 simp only [List.drop_zero,e]
 generalize hR:([2,3,5,8,11]:List Int).take (rng L p 1 most).toNat=R at *
 refine ⟨by simp [bndB];omega,by rw [←hR];simp;omega,⟨(Mod (rawV L (rawP L p)) (W (steps+1))).toNat,by omega,by omega,OI.new hr,?_,?_⟩,?_⟩
 ·simp only [netOf,List.length_nil];omega
 ·unfold ovlT
  rw [hR,e]
 rintro ⟨i,o,q⟩ ⟨k,hi,hk,hO,hl,hE⟩
 simp only at hi hO hl hE
 subst hi
 simp only
 refine ⟨fun c=>⟨⟨?_,?_⟩,?_,?_⟩,fun c=>?_⟩
 ·have:=congrArg List.length hO.net.spr
  rw [List.length_map] at this;omega
 ·omega
 ·obtain ⟨j,rfl⟩:∃j,k=j+1:=⟨k-1,by omega⟩
  obtain ⟨a1,a2⟩:=actT_oi (L:=L) hO (p:=q)
  rw [W_eq (by omega)]
  refine ⟨j,by omega,by omega,a1,?_,?_⟩
  ·have:(j+1) * 14440=j * 14440+14440:=by omega
   omega
  ·rw [actN] at hE;exact hE
 ·rw [W_eq (by omega)];omega
 ·have:k=0:=by omega
  subst this
  rw [←hE];rfl
def ovlT_h(L:(List Int))(p:Nat)(most:Int)(steps:Int)(h:(1≤most∧most≤5)∧0≤steps∧steps≤20):HC Tryz.prog:=⟨63,[.k,.k,.k],[.ref 0 0,.int most,.int steps],[.box (.agg [.sl 1 (L.map AV.int) false,.int ((p:Nat):Int)])],ovlT_e ((⟨L,(ovlT L most steps p).2⟩:Tap),(ovlT L most steps p).1),ovlT_b ((⟨L,(ovlT L most steps p).2⟩:Tap),(ovlT L most steps p).1),HSpec.of_okh fun ok ok2=>have ok:ovlT_a L p most steps:=⟨ok,ok2 _ (by simp)⟩;(ovlT_p L p most steps h ok).elim fun I0 h=>h.elim fun m0 h=>mxH_of (sh:=(.a [(.s 5),(.s 3),(.s 10)])) (enc:=ovlT_e) (hB:=ovlT_b) (a:=((.callH [0] (Range_h L p 1 most)
 (.sub 81 AV.int [2,3,5,8,11] false
 (.req 97 ((([2,3,5,8,11].take ((rng L p 1 most).toNat)).drop 0).length≤1000) fun h1 =>
 (.callP (newOR_c (([2,3,5,8,11].take ((rng L p 1 most).toNat)).drop 0) h1)
 (.callH [0] (N_h L (rawP L p) (W (steps+1)))
 (.loop 0 (ovlT_n0 L p most steps) (I0) (m0) ((Mod (rawV L (rawP L p)) (W (steps+1)),(newN (([2,3,5,8,11].take ((rng L p 1 most).toNat)).drop 0)).1,rawP L (rawP L p)):Int×Ovl×Nat) [0,1,161] fun (t0:Int×Ovl×Nat) =>
 (.br 35 (.req 67 (okAct t0.2.1) fun h2 =>
 (.callH [0] (actT_h L t0.2.2 t0.2.1 h2)
 (.back 0 ((W (t0.1-1),(actT L t0.2.2 t0.2.1).1,(actT L t0.2.2 t0.2.1).2):Int×Ovl×Nat) [0,1,2])))
 (.retH ((⟨L,t0.2.2⟩:Tap),t0.2.1) ⟨[(6,.k,.ref 1 0)],[.box (.agg [.sl 1 (L.map AV.int) false,.int ((t0.2.2:Nat):Int)]),.box (.agg [.sl 5 (t0.2.1.sp.map Spk.v) false,.sl 3 (t0.2.1.ls.map Lsn.v) false,.sl 10 (t0.2.1.fl.map Sig.v) false])]⟩ [0,1])))))))):An Tryz.prog ovlT_s (Tap×Ovl))) h (by kernel_rfl),fnB_ok (by kernel_rfl),HcOk.of (by simp [hcB,belBL,AV.belB,allB,okBk,okBkO,ovlT_e,ovlT_b,pureBL_map (v:=AV.int) (fun _=>rfl)])⟩
theorem ovlT_8{L:List Int}{p:Nat}:∃R:List Int,(1≤R.length∧R.length≤5)∧OI R (ovlT L 4 8 p).1∧(ovlT L 4 8 p).1.fl.length≤115520:=by
 have hk:=rng_in (L:=L) (p:=p) (lo:=1) (hi:=4) (by omega)
 refine ⟨([2,3,5,8,11]:List Int).take (rng L p 1 4).toNat,?_,?_⟩
 ·simp only [List.length_take,List.length_cons,List.length_nil];omega
 have hr:=okR_take (rng L p 1 4).toNat
 have e:newN (([2,3,5,8,11]:List Int).take (rng L p 1 4).toNat)=(netOf (([2,3,5,8,11]:List Int).take (rng L p 1 4).toNat),0):=if_pos hr
 unfold ovlT
 rw [e]
 have hn:=Mod_range (x:=rawV L (rawP L p)) (n:=W (8+1)) (by rw [W_eq (by omega)];omega)
 rw [W_eq (by omega)] at hn ⊢
 obtain ⟨h1,h2⟩:=actN_ok (L:=L) (n:=(Mod (rawV L (rawP L p)) (8+1)).toNat) (s:=(netOf (([2,3,5,8,11]:List Int).take (rng L p 1 4).toNat),rawP L (rawP L p))) (OI.new hr)
 refine ⟨h1,?_⟩
 have h3:(Mod (rawV L (rawP L p)) (8+1)).toNat≤8:=by omega
 exact Nat.le_trans h2 (Nat.le_trans (Nat.add_le_add (Nat.le_refl _) (Nat.mul_le_mul_right 14440 h3)) (by simp [netOf]))
theorem settled_keep{R:List Int}{o:Ovl}(h:OI R o)(f:List Fau)(hs:settledP o):settledP (roundO o f).1:=by
 have r:=(h.roundO f).2
 rw [r.oi.settled]
 intro a ha b hb hab
 rw [r.val]
 exact h.stay r.now r.late ha hb hab (h.settled.mp hs a ha b hb hab)
def stays_a(t:(List Int)):Prop:=okL [.sl 1 (t.map AV.int) false]
def stays_n0(t:(List Int))(t0:Tap):NF:=⟨[(3,.k,.ref 0 0)],[.box (.agg [.sl 1 (t0.L.map AV.int) false,.int ((t0.p:Nat):Int)])]⟩
def stays_n1(t:(List Int))(t0:Tap)(t1:Ovl):NF:=⟨[(3,.k,.ref 0 0),(4,.k,.ref 1 0)],[.box (.agg [.sl 1 (t0.L.map AV.int) false,.int ((((ovlT t0.L 4 8 t0.p).2):Nat):Int)]),.box (.agg [.sl 5 (t1.sp.map Spk.v) false,.sl 3 (t1.ls.map Lsn.v) false,.sl 10 (t1.fl.map Sig.v) false])]⟩
def stays_n2(t:(List Int))(t0:Tap)(t1:Ovl)(t2:Int×Ovl):NF:=⟨[(3,.k,.ref 0 0),(4,.k,.ref 1 0),(5,.k,.int t2.1)],[.box (.agg [.sl 1 (t0.L.map AV.int) false,.int ((((ovlT t0.L 4 8 t0.p).2):Nat):Int)]),.box (.agg [.sl 5 (t2.2.sp.map Spk.v) false,.sl 3 (t2.2.ls.map Lsn.v) false,.sl 10 (t2.2.fl.map Sig.v) false])]⟩
def stays_n3(t:(List Int))(t0:Tap)(t1:Ovl)(t2:Int×Ovl)(t3:Bool):NF:=⟨[(3,.k,.ref 0 0),(4,.k,.ref 1 0),(5,.k,.int t2.1),(19,.k,.bool t3)],[.box (.agg [.sl 1 (t0.L.map AV.int) false,.int ((((ovlT t0.L 4 8 t0.p).2):Nat):Int)]),.box (.agg [.sl 5 (t2.2.sp.map Spk.v) false,.sl 3 (t2.2.ls.map Lsn.v) false,.sl 10 (t2.2.fl.map Sig.v) false])]⟩
def stays_n4(t:(List Int))(t0:Tap)(t1:Ovl)(t2:Int×Ovl)(t3:Bool)(t4:Int×Ovl×Nat):NF:=⟨[(3,.k,.ref 0 0),(4,.k,.ref 1 0),(6,.k,.int t4.1)],[.box (.agg [.sl 1 (t0.L.map AV.int) false,.int ((t4.2.2:Nat):Int)]),.box (.agg [.sl 5 (t4.2.1.sp.map Spk.v) false,.sl 3 (t4.2.1.ls.map Lsn.v) false,.sl 10 (t4.2.1.fl.map Sig.v) false])]⟩
def stays_n5(t:(List Int))(t0:Tap)(t1:Ovl)(t2:Int×Ovl)(t3:Bool)(t4:Int×Ovl×Nat)(t5:Bool):NF:=⟨[(3,.k,.ref 0 0),(4,.k,.ref 1 0),(6,.k,.int t4.1),(33,.k,.bool t5)],[.box (.agg [.sl 1 (t0.L.map AV.int) false,.int ((t4.2.2:Nat):Int)]),.box (.agg [.sl 5 (t4.2.1.sp.map Spk.v) false,.sl 3 (t4.2.1.ls.map Lsn.v) false,.sl 10 (t4.2.1.fl.map Sig.v) false])]⟩
def stays_n6(t:(List Int))(t0:Tap)(t1:Ovl)(t2:Int×Ovl)(t3:Bool)(t4:Int×Ovl×Nat)(t5:Bool)(t6:Int×Ovl):NF:=⟨[(3,.k,.ref 0 0),(4,.k,.ref 1 0),(6,.k,.int t4.1),(7,.k,.ref 2 0),(8,.k,.int t6.1)],[.box (.agg [.sl 1 (t0.L.map AV.int) false,.int ((((heavyT t0.L (minI ((t4.2.1.fl.map Sig.v).length:Int) 60) t4.2.2).2):Nat):Int)]),.box (.agg [.sl 5 (t4.2.1.sp.map Spk.v) false,.sl 3 (t4.2.1.ls.map Lsn.v) false,.sl 10 (t4.2.1.fl.map Sig.v) false]),.box (.agg [.sl 5 (t6.2.sp.map Spk.v) false,.sl 3 (t6.2.ls.map Lsn.v) false,.sl 10 (t6.2.fl.map Sig.v) false])]⟩
def stays_s:Nat→Type
 | 0=>Tap
 | 1=>Ovl
 | 2=>Int×Ovl
 | 3=>Bool
 | 4=>Int×Ovl×Nat
 | 5=>Bool
 | 6=>Int×Ovl
 | _=>Unit
def stays_e(r:Bool):AV:=.bool r
def stays_vc(t:(List Int))(I2:Tap→Ovl→(Int×Ovl)→Prop)(m2:Tap→Ovl→(Int×Ovl)→Nat)(I3:Tap→Ovl→Int×Ovl→Bool→Prop)(I4:Tap→Ovl→Int×Ovl→Bool→(Int×Ovl×Nat)→Prop)(m4:Tap→Ovl→Int×Ovl→Bool→(Int×Ovl×Nat)→Nat)(r0:Bool):Prop:=
 (Ch (New_h t) [] 32
 (Bj (stays_n0 t) [32] ((⟨t.take 2000,0⟩:Tap))))∧∀t0:Tap,t0=(((⟨t.take 2000,0⟩:Tap)):Tap) →
 (∃h1:(1≤4∧4≤5)∧0≤8∧8≤20,
 Ch (ovlT_h t0.L t0.p 4 8 h1) [0] 17
 (Bj (stays_n1 t t0) [0,33] ((ovlT t0.L 4 8 t0.p).1)))∧∀t1:Ovl,t1=(((ovlT t0.L 4 8 t0.p).1):Ovl) →
 Be (stays_n2 t t0 t1) [0,1] (I2 t0 t1) (0,t1)∧∀t2,I2 t0 t1 t2 →
 (br (decide (t2.1<5))
 (Cl (setOR_c t2.2)
 (Be (stays_n3 t t0 t1 t2) [0,1] (I3 t0 t1 t2) (!(decide (settledP t2.2)))))
 (Be (stays_n3 t t0 t1 t2) [0,1] (I3 t0 t1 t2) (false)))∧∀t3:Bool,I3 t0 t1 t2 t3 →
 br t3
 (∃h2:okRnd t2.2 [],
 Cl (rndOR_c t2.2 [] h2)
 (Bk (stays_n2 t t0 t1) [0,1] (I2 t0 t1) (m2 t0 t1) (W (t2.1+1),(roundO t2.2 []).1) t2))
 (Be (stays_n4 t t0 t1 t2 t3) [0,1] (I4 t0 t1 t2 t3) (0,t2.2,(ovlT t0.L 4 8 t0.p).2)∧∀t4,I4 t0 t1 t2 t3 t4 →
 br (decide (t4.1<6))
 ((Cl (setOv_c t4.2.1)
 (Bj (stays_n5 t t0 t1 t2 t3 t4) [0,1] (!(decide (settledP t4.2.1)))))∧∀t5:Bool,t5=((!(decide (settledP t4.2.1))):Bool) →
 br t5
 (Rp stays_e (false) r0)
 ((∃h3:0≤(minI ((t4.2.1.fl.map Sig.v).length:Int) 60)∧(minI ((t4.2.1.fl.map Sig.v).length:Int) 60)≤100000,
 Ch (hvyT_h t0.L t4.2.2 (minI ((t4.2.1.fl.map Sig.v).length:Int) 60) h3) [0] 98
 (∃h4:okRnd t4.2.1 ((heavyT t0.L (minI ((t4.2.1.fl.map Sig.v).length:Int) 60) t4.2.2).1),
 Cl (rndOv_c t4.2.1 ((heavyT t0.L (minI ((t4.2.1.fl.map Sig.v).length:Int) 60) t4.2.2).1) h4)
 (Bj (stays_n6 t t0 t1 t2 t3 t4 t5) [0,1,178] ((roundO t4.2.1 ((heavyT t0.L (minI ((t4.2.1.fl.map Sig.v).length:Int) 60) t4.2.2).1)).2,(roundO t4.2.1 ((heavyT t0.L (minI ((t4.2.1.fl.map Sig.v).length:Int) 60) t4.2.2).1)).1))))∧∀t6:Int×Ovl,t6=(((roundO t4.2.1 ((heavyT t0.L (minI ((t4.2.1.fl.map Sig.v).length:Int) 60) t4.2.2).1)).2,(roundO t4.2.1 ((heavyT t0.L (minI ((t4.2.1.fl.map Sig.v).length:Int) 60) t4.2.2).1)).1):Int×Ovl) →
 br (t6.1 != 0)
 (Rp stays_e (false) r0)
 (Bk (stays_n4 t t0 t1 t2 t3) [0,1] (I4 t0 t1 t2 t3) (m4 t0 t1 t2 t3) (W (t4.1+1),t6.2,(heavyT t0.L (minI ((t4.2.1.fl.map Sig.v).length:Int) 60) t4.2.2).2) t4)))
 (Cl (setOv_c t4.2.1)
 (br (decide (settledP t4.2.1))
 (Cl (awakeO_c )
 (Rp stays_e (true) r0))
 (Rp stays_e (false) r0))))
theorem stays_p(t:List Int)(ok:stays_a t):∃I2 m2 I3 I4 m4,stays_vc t I2 m2 I3 I4 m4 true:=by
 refine ⟨fun _ t1 u=>∃k:Nat,u=((k:Int),rds t1 k)∧k≤5,fun _ _ u=>5-u.1.toNat,
  fun _ _ u x=>x=decide (u.1<5∧¬settledP u.2),
  fun _ t1 _ _ v=>∃k:Nat,v.1=k∧k≤6∧(∃R,OI R v.2.1)∧settledP v.2.1∧v.2.1.fl.length≤115520+5 * 14400+k * 14460,fun _ _ _ _ v=>6-v.1.toNat,?_⟩
 simp only [stays_vc,vcU,rfU,List.length_map]
 refine ⟨trivial,?_⟩
 intro t0 h0
 refine ⟨by decide,?_⟩
 intro t1 h1
 obtain ⟨R,hR,hO,hfl⟩:=ovlT_8 (L:=t0.L) (p:=t0.p)
 rw [←h1] at hO hfl
 clear h1
 refine ⟨⟨0,rfl,by omega⟩,?_⟩
 rintro _ ⟨k,rfl,hk⟩
 obtain ⟨r1,r2⟩:=rds_ok hO k
 simp only
 refine ⟨⟨fun c=>?_,fun c=>?_⟩,?_⟩
 ·rw [←decide_not]
  exact decide_eq_decide.mpr ⟨fun q=>⟨c,q⟩,fun q=>q.2⟩
 ·exact (decide_eq_false fun q=>c q.1).symm
 rintro _ rfl
 refine ⟨fun c=>?_,fun c=>⟨?_,?_⟩⟩
 ·have c:=of_decide_eq_true c
  rw [r1.roundO_nil,W_succ (n:=5) (by omega) (by omega)]
  exact ⟨⟨by omega,by simp⟩,⟨k+1,rfl,by omega⟩,by omega⟩
 ·have c:=of_decide_eq_false c
  refine ⟨0,rfl,by omega,⟨R,r1⟩,?_,by omega⟩
  by_cases hk5:k=5
  ·subst hk5;exact (rds_quiet hO).2
  ·exact Classical.not_not.mp fun q=>c ⟨by omega,q⟩
 rintro ⟨i,o,p⟩ ⟨j,hi,hj,⟨S,hS⟩,hs,hl⟩
 simp only at hi hS hs hl
 subst hi
 simp only [hs,decide_true,Bool.not_true]
 refine ⟨fun d=>⟨trivial,?_⟩,fun d=>by simp⟩
 rintro _ rfl
 refine ⟨fun q=>by simp at q,fun _=>?_⟩
 have hm:minI (o.fl.length:Int) 60=min (o.fl.length:Int) 60:=minI_eq
 rw [hm]
 have hF:=heavyT_len (L:=t0.L) (n:=min (o.fl.length:Int) 60) (p:=p)
 have hst:=settled_keep hS (heavyT t0.L (min (o.fl.length:Int) 60) p).1 hs
 obtain ⟨e1,e2⟩:=hS.roundO (heavyT t0.L (min (o.fl.length:Int) 60) p).1
 have e3:=e2.len
 refine ⟨⟨⟨by omega,by omega⟩,⟨by omega,by omega⟩,trivial⟩,?_⟩
 rintro _ rfl
 simp only
 rw [W_succ (n:=6) (by omega) (by omega)]
 refine ⟨fun q=>by simp [e1] at q,fun _=>⟨⟨j+1,rfl,by omega,⟨S,e2.oi⟩,hst,by omega⟩,by omega⟩⟩
def stays_c(t:(List Int)):PC Tryz.prog:=⟨9,[(.s 1)],[.sl 1 (t.map AV.int) false],stays_e true,PSpec.of_ok fun ok=>(stays_p t ok).elim fun I2 h=>h.elim fun m2 h=>h.elim fun I3 h=>h.elim fun I4 h=>h.elim fun m4 h=>mxP_of (sh:=.k) (enc:=stays_e) (a:=((.pass (.join 0 (stays_n0 t) (fun t0=>t0=(((⟨t.take 2000,0⟩:Tap)):Tap)) (.callH [] (New_h t)
 (.back 0 (((⟨t.take 2000,0⟩:Tap)):Tap) [32])) fun (t0:Tap) =>
 (.join 1 (stays_n1 t t0) (fun t1=>t1=(((ovlT t0.L 4 8 t0.p).1):Ovl)) (.req 17 ((1≤4∧4≤5)∧0≤8∧8≤20) fun h1 =>
 (.callH [0] (ovlT_h t0.L t0.p 4 8 h1)
 (.back 1 (((ovlT t0.L 4 8 t0.p).1):Ovl) [0,33]))) fun (t1:Ovl) =>
 (.loop 2 (stays_n2 t t0 t1) (I2 t0 t1) (m2 t0 t1) ((0,t1):Int×Ovl) [0,1] fun (t2:Int×Ovl) =>
 (.pass (.join 3 (stays_n3 t t0 t1 t2) (fun t3=>I3 t0 t1 t2 t3) (.br 50 (.callP (setOR_c t2.2)
 (.back 3 ((!(decide (settledP t2.2))):Bool) [0,1]))
 (.back 3 ((false):Bool) [0,1])) fun (t3:Bool) =>
 (.br 2 (.req 18 (okRnd t2.2 []) fun h2 =>
 (.callP (rndOR_c t2.2 [] h2)
 (.back 2 ((W (t2.1+1),(roundO t2.2 []).1):Int×Ovl) [0,1])))
 (.loop 4 (stays_n4 t t0 t1 t2 t3) (I4 t0 t1 t2 t3) (m4 t0 t1 t2 t3) ((0,t2.2,(ovlT t0.L 4 8 t0.p).2):Int×Ovl×Nat) [0,1] fun (t4:Int×Ovl×Nat) =>
 (.br 34 (.pass (.pass (.join 5 (stays_n5 t t0 t1 t2 t3 t4) (fun t5=>t5=((!(decide (settledP t4.2.1))):Bool)) (.callP (setOv_c t4.2.1)
 (.back 5 ((!(decide (settledP t4.2.1))):Bool) [0,1])) fun (t5:Bool) =>
 (.br 2 (.ret (false))
 (.join 6 (stays_n6 t t0 t1 t2 t3 t4 t5) (fun t6=>t6=(((roundO t4.2.1 ((heavyT t0.L (minI ((t4.2.1.fl.map Sig.v).length:Int) 60) t4.2.2).1)).2,(roundO t4.2.1 ((heavyT t0.L (minI ((t4.2.1.fl.map Sig.v).length:Int) 60) t4.2.2).1)).1):Int×Ovl)) (.req 98 (0≤(minI ((t4.2.1.fl.map Sig.v).length:Int) 60)∧(minI ((t4.2.1.fl.map Sig.v).length:Int) 60)≤100000) fun h3 =>
 (.callH [0] (hvyT_h t0.L t4.2.2 (minI ((t4.2.1.fl.map Sig.v).length:Int) 60) h3)
 (.req 114 (okRnd t4.2.1 ((heavyT t0.L (minI ((t4.2.1.fl.map Sig.v).length:Int) 60) t4.2.2).1)) fun h4 =>
 (.callP (rndOv_c t4.2.1 ((heavyT t0.L (minI ((t4.2.1.fl.map Sig.v).length:Int) 60) t4.2.2).1) h4)
 (.back 6 (((roundO t4.2.1 ((heavyT t0.L (minI ((t4.2.1.fl.map Sig.v).length:Int) 60) t4.2.2).1)).2,(roundO t4.2.1 ((heavyT t0.L (minI ((t4.2.1.fl.map Sig.v).length:Int) 60) t4.2.2).1)).1):Int×Ovl) [0,1,178]))))) fun (t6:Int×Ovl) =>
 (.br 35 (.ret (false))
 (.back 4 ((W (t4.1+1),t6.2,(heavyT t0.L (minI ((t4.2.1.fl.map Sig.v).length:Int) 60) t4.2.2).2):Int×Ovl×Nat) [0,1])))))))
 (.callP (setOv_c t4.2.1)
 (.br 82 (.callP (awakeO_c )
 (.ret (true)))
 (.ret (false))))))))))))):An Tryz.prog stays_s (Bool))) h (by kernel_rfl) (AV.pureB_ok rfl),fnB_ok (by kernel_rfl)⟩
end Go.Proofs.YtgnogboljobocaaGreatDoor
