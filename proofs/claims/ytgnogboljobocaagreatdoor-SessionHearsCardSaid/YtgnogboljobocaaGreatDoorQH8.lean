/- Texts joined: G23 U14 G50 U8 U9 U10 U11 G51 G52. -/
import Derived.Test.YtgnogboljobocaaGreatDoorQH7
namespace Go.Proofs.YtgnogboljobocaaGreatDoor
open Go Go.Am
set_option linter.unusedVariables false
set_option linter.unusedSimpArgs false
def newO_a(router:Int)(epoch:Int)(peers:(List Int)):Prop:=okL [.int router,.int epoch,.sl 1 (peers.map AV.int) false]
def newO_n0(router:Int)(epoch:Int)(peers:(List Int))(t0:Int×(List Per)):NF:=⟨[(6,.k,.ref 0 0),(8,.k,.ref 1 0),(19,.k,.sl 1 (peers.map AV.int) false),(20,.k,.int ((peers.map AV.int).length:Int)),(21,.k,.int t0.1)],[.box (.agg [.int 0,.int 0,.int 0,.sl 0 [] true,.sl 0 [] true]),.box (.agg [.int router,.int epoch,.int 0,.sl 0 [] true,.vec 2]),.vec 3 (t0.2.map Per.v) (pureBL_map (fun _=>rfl) t0.2)]⟩
def newO_s:Nat→Type
  | 0=>Int×(List Per)
  | _=>Unit
def newO_e(r:Spk×Int):AV:=.tup [.agg [.int r.1.router,.int r.1.epoch,.int r.1.last,.sl 4 (r.1.items.map Itm.v) false,.vec 0],.int r.2]
def newO_b(r:Spk×Int):List (Option Blk):=[some (.vec 3 (r.1.peers.map Per.v))]
def newO_vc(router:Int)(epoch:Int)(peers:(List Int))(I0:(Int×(List Per))→Prop)(m0:(Int×(List Per))→Nat)(r0:Spk×Int):Prop:=
 br (decide (12<((peers.map AV.int).length:Int)))
 (Qt ⟨[(6,.k,.ref 1 0),(7,.k,.int 1)],[.vec 3 [] rfl,.box (.agg [.int 0,.int 0,.int 0,.sl 0 [] true,.vec 0])]⟩ [208,0] newO_e newO_b ((⟨0,0,0,[],[]⟩:Spk),1) r0)
 (Be (newO_n0 router epoch peers) [0,80,208] I0 (0,[])∧∀t0,I0 t0 →
 br (decide (t0.1<((peers.map AV.int).length:Int)))
 (Rf (peers.map AV.int) (ck (decide (0≤t0.1)) (ck (decide (t0.1<(peers.length:Int)))
 (∀x1,peers[t0.1.toNat]?=some x1 →
 Rf (α:=List AV) (t0.2.map Per.v) (Rf (α:=List AV) [.agg [.int x1,.int 0,.int 0]]
 (ck (decide (t0.2.length+1≤1000000))
 (Bk (newO_n0 router epoch peers) [0,1,147] I0 m0 (W (t0.1+1),t0.2++[(⟨x1,0,0⟩:Per)]) t0)))))))
 (Cl (valR6_c (⟨router,epoch,0,[],t0.2⟩:Spk))
 (ck (pureBLs [(t0.2.map Per.v)])
 (br ((valS (⟨router,epoch,0,[],t0.2⟩:Spk)) != 0)
 (Qt ⟨[(6,.k,.ref 1 0),(7,.k,.int (valS (⟨router,epoch,0,[],t0.2⟩:Spk)))],[.vec 3 [] rfl,.box (.agg [.int 0,.int 0,.int 0,.sl 0 [] true,.vec 0])]⟩ [163,0] newO_e newO_b ((⟨0,0,0,[],[]⟩:Spk),valS (⟨router,epoch,0,[],t0.2⟩:Spk)) r0)
 (Qt ⟨[(6,.k,.ref 1 0),(7,.k,.int 0)],[.vec 3 (t0.2.map Per.v) (pureBL_map (fun _=>rfl) t0.2),.box (.agg [.int router,.int epoch,.int 0,.sl 0 [] true,.vec 0])]⟩ [2,0] newO_e newO_b ((⟨router,epoch,0,[],t0.2⟩:Spk),0) r0)))))
theorem newO_ok(router:Int)(epoch:Int)(peers:(List Int))(I0:(Int×(List Per))→Prop)(m0:(Int×(List Per))→Nat)(r0:Spk×Int)(h:newO_vc router epoch peers I0 m0 r0):HSpec Tryz.prog 120 [.int router,.int epoch,.sl 1 (peers.map AV.int) false] [] (newO_e r0) (newO_b r0):=mxH_of (sh:=(.a [(.a [.k,.k,.k,(.s 4),.k]),.k])) (hB:=newO_b) (a:=((.br 160 (.cmdL (.nilB 0 4 3) (.retH ((⟨0,0,0,[],[]⟩:Spk),1) ⟨[(6,.k,.ref 1 0),(7,.k,.int 1)],[.vec 3 [] rfl,.box (.agg [.int 0,.int 0,.int 0,.sl 0 [] true,.vec 0])]⟩ [208,0]))
 (.cmdL (.nilB 80 4 3) (.loop 0 (newO_n0 router epoch peers) (I0) (m0) ((0,[]):Int×(List Per)) [0,80,208] fun (t0:Int×(List Per)) =>
 (.br 19 (.el 19 AV.int peers fun x1 =>
 (.app 147 Per.v t0.2 [(⟨x1,0,0⟩:Per)]
 (.back 0 ((W (t0.1+1),t0.2++[(⟨x1,0,0⟩:Per)]):Int×(List Per)) [0,1,147])))
 (.callP (valR6_c (⟨router,epoch,0,[],t0.2⟩:Spk))
 (.br 99 (.cmdL (.nilB 0 4 3) (.retH ((⟨0,0,0,[],[]⟩:Spk),valS (⟨router,epoch,0,[],t0.2⟩:Spk)) ⟨[(6,.k,.ref 1 0),(7,.k,.int (valS (⟨router,epoch,0,[],t0.2⟩:Spk)))],[.vec 3 [] rfl,.box (.agg [.int 0,.int 0,.int 0,.sl 0 [] true,.vec 0])]⟩ [163,0]))
 (.retH ((⟨router,epoch,0,[],t0.2⟩:Spk),0) ⟨[(6,.k,.ref 1 0),(7,.k,.int 0)],[.vec 3 (t0.2.map Per.v) (pureBL_map (fun _=>rfl) t0.2),.box (.agg [.int router,.int epoch,.int 0,.sl 0 [] true,.vec 0])]⟩ [2,0]))))))):An Tryz.prog newO_s (Spk×Int))) h (by kernel_rfl)
theorem newO_p(r k:Int)(p:List Int)(ok:newO_a r k p):∃I m,newO_vc r k p I m (new r k p):=by
  refine ⟨fun t=>∃j:Nat,t.1=j∧j≤p.length∧t.2=(p.take j).map fun x=>⟨x,0,0⟩,fun t=>p.length-t.1.toNat,?_⟩
  simp only [newO_vc,vcU,rfU,List.length_map]
  have hn:new r k p=if spkOk ⟨r,k,0,[],p.map fun x=>⟨x,0,0⟩⟩ then (⟨r,k,0,[],p.map fun x=>⟨x,0,0⟩⟩,0) else (spk0,1):=rfl
  refine ⟨fun h=>?_,fun h=>⟨⟨0,rfl,by omega,rfl⟩,?_⟩⟩
  · rw [hn,if_neg]
    · rfl
    · intro q
      have:=q.2.2.2.2.1
      simp only [List.length_map] at this;omega
  · rintro ⟨_,_⟩ ⟨j,rfl,hj,rfl⟩
    simp only [Int.toNat_natCast]
    refine ⟨fun h1=>⟨by omega,by omega,fun x hx=>⟨by simp;omega,⟨j+1,?_,by omega,?_⟩,?_⟩⟩,fun h1=>⟨pureBLs_one (pureBL_map (fun _=>rfl) _),?_⟩⟩
    · rw [W_succ (n:=p.length) (by omega) (by omega)]
    · rw [take_succ hx,List.map_append];rfl
    · rw [W_succ (n:=p.length) (by omega) (by omega)];omega
    · rw [List.take_of_length_le (by omega),hn]
      have hv:valS ⟨r,k,0,[],p.map fun x=>⟨x,0,0⟩⟩=if spkOk ⟨r,k,0,[],p.map fun x=>⟨x,0,0⟩⟩ then 0 else 1:=rfl
      rw [hv]
      by_cases q:spkOk ⟨r,k,0,[],p.map fun x=>⟨x,0,0⟩⟩
      · rw [if_pos q,if_pos q];simp
      · rw [if_neg q,if_neg q];simp [spk0]
def newO_h(router:Int)(epoch:Int)(peers:(List Int)):HC Tryz.prog:=⟨120,[.k,.k,(.s 1)],[.int router,.int epoch,.sl 1 (peers.map AV.int) false],[],newO_e (new router epoch peers),newO_b (new router epoch peers),HSpec.of_okh fun ok _=>(newO_p router epoch peers ok).elim fun I0 h=>h.elim fun m0 h=>newO_ok router epoch peers I0 m0 _ h,fnB_ok (by kernel_rfl),HcOk.of (by simp [hcB,belBL,AV.belB,allB,okBk,okBkO,newO_e,newO_b,pureBL_map (v:=AV.int) (fun _=>rfl),pureBL_map (v:=Per.v) (fun _=>rfl)])⟩
def restartO_a(s:Spk)(wants:(List Wnt)):Prop:=okL [.agg [.int s.router,.int s.epoch,.int s.last,.sl 4 (s.items.map Itm.v) false,.vec 0],.sl 3 (wants.map Wnt.v) false]∧(.vec 3 (s.peers.map Per.v):Blk).ok
def restartO_n0(s:Spk)(wants:(List Wnt))(t0:Int×(List Itm)):NF:=⟨[(2,.k,.ref 1 0),(4,.k,.ref 2 0),(8,.k,.ref 3 0),(37,.k,.sl 3 (wants.map Wnt.v) false),(38,.k,.int ((wants.map Wnt.v).length:Int)),(39,.k,.int t0.1)],[.vec 3 (s.peers.map Per.v) (pureBL_map (fun _=>rfl) s.peers),.box (.agg [.int s.router,.int s.epoch,.int s.last,.sl 4 (s.items.map Itm.v) false,.vec 0]),.box (.agg [.int 0,.int 0,.int 0,.sl 0 [] true,.sl 0 [] true]),.box (.agg [.int s.router,.int (W (s.epoch+1)),.int ((wants.map Wnt.v).length:Int),.vec 4,.sl 0 [] true]),.vec 4 (t0.2.map Itm.v) (pureBL_map (fun _=>rfl) t0.2)]⟩
def restartO_n1(s:Spk)(wants:(List Wnt))(t0:Int×(List Itm))(t1:Int×(List Per)):NF:=⟨[(4,.k,.ref 1 0),(8,.k,.ref 2 0),(58,.k,.vec 0),(59,.k,.int ((s.peers.map Per.v).length:Int)),(60,.k,.int t1.1)],[.vec 3 (s.peers.map Per.v) (pureBL_map (fun _=>rfl) s.peers),.box (.agg [.int 0,.int 0,.int 0,.sl 0 [] true,.sl 0 [] true]),.box (.agg [.int s.router,.int (W (s.epoch+1)),.int ((wants.map Wnt.v).length:Int),.vec 3,.vec 4]),.vec 4 (t0.2.map Itm.v) (pureBL_map (fun _=>rfl) t0.2),.vec 3 (t1.2.map Per.v) (pureBL_map (fun _=>rfl) t1.2)]⟩
def restartO_s:Nat→Type
  | 0=>Int×(List Itm)
  | 1=>Int×(List Per)
  | _=>Unit
def restartO_e(r:(List Per)×Spk×Int):AV:=.tup [.agg [.int r.2.1.router,.int r.2.1.epoch,.int r.2.1.last,.sl 4 (r.2.1.items.map Itm.v) false,.vec 1],.int r.2.2]
def restartO_b(r:(List Per)×Spk×Int):List (Option Blk):=[some (.vec 3 (r.1.map Per.v)),some (.vec 3 (r.2.1.peers.map Per.v))]
def restartO_vc(s:Spk)(wants:(List Wnt))(I0:(Int×(List Itm))→Prop)(m0:(Int×(List Itm))→Nat)(I1:Int×(List Itm)→(Int×(List Per))→Prop)(m1:Int×(List Itm)→(Int×(List Per))→Nat)(r0:(List Per)×Spk×Int):Prop:=
 Cl (valR6_c s)
 (ck (pureBLs [(s.peers.map Per.v)])
 (br ((valS s) != 0)
 (Qt ⟨[(4,.k,.ref 2 0),(5,.k,.int (valS s))],[.vec 3 (s.peers.map Per.v) (pureBL_map (fun _=>rfl) s.peers),.vec 3 [] rfl,.box (.agg [.int 0,.int 0,.int 0,.sl 0 [] true,.vec 1])]⟩ [0,193,17] restartO_e restartO_b (s.peers,(⟨0,0,0,[],[]⟩:Spk),valS s) r0)
 (Cl (valR_c wants)
 (br ((wErr false wants) != 0)
 (Qt ⟨[(4,.k,.ref 2 0),(5,.k,.int (wErr false wants))],[.vec 3 (s.peers.map Per.v) (pureBL_map (fun _=>rfl) s.peers),.vec 3 [] rfl,.box (.agg [.int 0,.int 0,.int 0,.sl 0 [] true,.vec 1])]⟩ [0,273,17] restartO_e restartO_b (s.peers,(⟨0,0,0,[],[]⟩:Spk),wErr false wants) r0)
 (br (decide (1000000≤s.epoch))
 (Qt ⟨[(4,.k,.ref 2 0),(5,.k,.int 3)],[.vec 3 (s.peers.map Per.v) (pureBL_map (fun _=>rfl) s.peers),.vec 3 [] rfl,.box (.agg [.int 0,.int 0,.int 0,.sl 0 [] true,.vec 1])]⟩ [0,305,17] restartO_e restartO_b (s.peers,(⟨0,0,0,[],[]⟩:Spk),3) r0)
 (Be (restartO_n0 s wants) [0,1,17,385,465] I0 (0,[])∧∀t0,I0 t0 →
 br (decide (t0.1<((wants.map Wnt.v).length:Int)))
 (Rf (wants.map Wnt.v) (ck (decide (0≤t0.1)) (ck (decide (t0.1<(wants.length:Int)))
 (∀x1,wants[t0.1.toNat]?=some x1 →
 Rf (α:=List AV) (t0.2.map Itm.v) (Rf (α:=List AV) [.agg [.int (W (t0.1+1)),.int x1.grp,.int x1.mode,.sl 1 (x1.srcs.map AV.int) false]]
 (ck (decide (t0.2.length+1≤1000000))
 (Bk (restartO_n0 s wants) [0,1,2,3,277] I0 m0 (W (t0.1+1),t0.2++[(⟨W (t0.1+1),x1.grp,x1.mode,x1.srcs⟩:Itm)]) t0)))))))
 (Be (restartO_n1 s wants t0) [0,2,3,4,85] (I1 t0) (0,[])∧∀t1,I1 t0 t1 →
 br (decide (t1.1<((s.peers.map Per.v).length:Int)))
 (ck (cond (decide (0≤t1.1)) (decide (t1.1<((s.peers.map Per.v).length:Int))) false)
 (Rf (s.peers.map Per.v) (ck (decide (t1.1.toNat<s.peers.length))
 (∀x2,s.peers[t1.1.toNat]?=some x2 →
 Rf (α:=List AV) (t1.2.map Per.v) (Rf (α:=List AV) [.agg [.int x2.router,.int 0,.int 0]]
 (ck (decide (t1.2.length+1≤1000000))
 (Bk (restartO_n1 s wants t0) [0,1,2,3,181] (I1 t0) (m1 t0) (W (t1.1+1),t1.2++[(⟨x2.router,0,0⟩:Per)]) t1)))))))
 (Rf (t0.2.map Itm.v) (Qt ⟨[(4,.k,.ref 2 0),(5,.k,.int 0)],[.vec 3 (s.peers.map Per.v) (pureBL_map (fun _=>rfl) s.peers),.vec 3 (t1.2.map Per.v) (pureBL_map (fun _=>rfl) t1.2),.box (.agg [.int s.router,.int (W (s.epoch+1)),.int ((wants.map Wnt.v).length:Int),.sl 4 (t0.2.map Itm.v) false,.vec 1])]⟩ [0,4,1] restartO_e restartO_b (s.peers,(⟨s.router,W (s.epoch+1),((wants.map Wnt.v).length:Int),t0.2,t1.2⟩:Spk),0) r0)))))))))
theorem restartO_ok(s:Spk)(wants:(List Wnt))(I0:(Int×(List Itm))→Prop)(m0:(Int×(List Itm))→Nat)(I1:Int×(List Itm)→(Int×(List Per))→Prop)(m1:Int×(List Itm)→(Int×(List Per))→Nat)(r0:(List Per)×Spk×Int)(h:restartO_vc s wants I0 m0 I1 m1 r0):HSpec Tryz.prog 169 [.agg [.int s.router,.int s.epoch,.int s.last,.sl 4 (s.items.map Itm.v) false,.vec 0],.sl 3 (wants.map Wnt.v) false] [.vec 3 (s.peers.map Per.v)] (restartO_e r0) (restartO_b r0):=mxH_of (sh:=(.a [(.a [.k,.k,.k,(.s 4),.k]),.k])) (hB:=restartO_b) (a:=((.callP (valR6_c s)
 (.br 129 (.cmdL (.nilB 17 4 3) (.retH (s.peers,(⟨0,0,0,[],[]⟩:Spk),valS s) ⟨[(4,.k,.ref 2 0),(5,.k,.int (valS s))],[.vec 3 (s.peers.map Per.v) (pureBL_map (fun _=>rfl) s.peers),.vec 3 [] rfl,.box (.agg [.int 0,.int 0,.int 0,.sl 0 [] true,.vec 1])]⟩ [0,193,17]))
 (.callP (valR_c wants)
 (.br 209 (.cmdL (.nilB 17 4 3) (.retH (s.peers,(⟨0,0,0,[],[]⟩:Spk),wErr false wants) ⟨[(4,.k,.ref 2 0),(5,.k,.int (wErr false wants))],[.vec 3 (s.peers.map Per.v) (pureBL_map (fun _=>rfl) s.peers),.vec 3 [] rfl,.box (.agg [.int 0,.int 0,.int 0,.sl 0 [] true,.vec 1])]⟩ [0,273,17]))
 (.br 257 (.cmdL (.nilB 17 4 3) (.retH (s.peers,(⟨0,0,0,[],[]⟩:Spk),3) ⟨[(4,.k,.ref 2 0),(5,.k,.int 3)],[.vec 3 (s.peers.map Per.v) (pureBL_map (fun _=>rfl) s.peers),.vec 3 [] rfl,.box (.agg [.int 0,.int 0,.int 0,.sl 0 [] true,.vec 1])]⟩ [0,305,17]))
 (.cmdL (.nilB 385 3 4) (.loop 0 (restartO_n0 s wants) (I0) (m0) ((0,[]):Int×(List Itm)) [0,1,17,385,465] fun (t0:Int×(List Itm)) =>
 (.br 21 (.el 37 Wnt.v wants fun x1 =>
 (.app 277 Itm.v t0.2 [(⟨W (t0.1+1),x1.grp,x1.mode,x1.srcs⟩:Itm)]
 (.back 0 ((W (t0.1+1),t0.2++[(⟨W (t0.1+1),x1.grp,x1.mode,x1.srcs⟩:Itm)]):Int×(List Itm)) [0,1,2,3,277])))
 (.cmdL (.nilB 3 4 3) (.loop 1 (restartO_n1 s wants t0) (I1 t0) (m1 t0) ((0,[]):Int×(List Per)) [0,2,3,4,85] fun (t1:Int×(List Per)) =>
 (.br 21 (.el 37 Per.v s.peers fun x2 =>
 (.app 181 Per.v t1.2 [(⟨x2.router,0,0⟩:Per)]
 (.back 1 ((W (t1.1+1),t1.2++[(⟨x2.router,0,0⟩:Per)]):Int×(List Per)) [0,1,2,3,181])))
 (.cmdL (.frzE 3 (t0.2.map Itm.v) (pureBL_map (fun _=>rfl) t0.2)) (.retH (s.peers,(⟨s.router,W (s.epoch+1),((wants.map Wnt.v).length:Int),t0.2,t1.2⟩:Spk),0) ⟨[(4,.k,.ref 2 0),(5,.k,.int 0)],[.vec 3 (s.peers.map Per.v) (pureBL_map (fun _=>rfl) s.peers),.vec 3 (t1.2.map Per.v) (pureBL_map (fun _=>rfl) t1.2),.box (.agg [.int s.router,.int (W (s.epoch+1)),.int ((wants.map Wnt.v).length:Int),.sl 4 (t0.2.map Itm.v) false,.vec 1])]⟩ [0,4,1]))))))))))))):An Tryz.prog restartO_s ((List Per)×Spk×Int))) h (by kernel_rfl)
theorem restartO_p(s:Spk)(w:List Wnt)(ok:restartO_a s w):∃I0 m0 I1 m1,restartO_vc s w I0 m0 I1 m1 (s.peers,restart s w):=by
  refine ⟨fun t=>∃j:Nat,t.1=j∧j≤w.length∧t.2=(w.mapIdx wItm).take j,fun t=>w.length-t.1.toNat,
    fun t0 t=>∃j:Nat,t.1=j∧j≤s.peers.length∧t.2=(s.peers.take j).map fun p=>⟨p.router,0,0⟩,fun t0 t=>s.peers.length-t.1.toNat,?_⟩
  simp only [restartO_vc,vcU,rfU,List.length_map]
  have hv:valS s=if spkOk s then 0 else 1:=rfl
  rw [hv]
  refine ⟨pureBLs_one (pureBL_map (fun _=>rfl) _),?_⟩
  unfold restart
  by_cases h1:spkOk s
  case neg=>rw [if_neg h1,if_pos h1];simp [spk0]
  rw [if_pos h1,if_neg (not_not_intro h1)]
  refine ⟨fun q=>by simp at q,fun _=>⟨fun h2=>?_,fun h2=>?_⟩⟩
  · have h2:wErr false w≠0:=by simpa using h2
    rw [if_pos h2];rfl
  have h2:wErr false w=0:=by simpa using h2
  rw [if_neg (not_not_intro h2)]
  have he:=h1.2.1
  refine ⟨fun h3=>?_,fun h3=>⟨⟨0,rfl,by omega,by simp⟩,?_⟩⟩
  · rw [if_pos (by omega)];rfl
  rw [if_neg (by omega)]
  obtain ⟨w1,_⟩:=wErr_zero.mp h2
  rintro ⟨_,_⟩ ⟨j,rfl,hj,rfl⟩
  simp only [Int.toNat_natCast]
  refine ⟨fun h4=>⟨by omega,by omega,fun x hx=>?_⟩,fun h4=>⟨⟨0,rfl,by omega,rfl⟩,?_⟩⟩
  · rw [W_succ (n:=w.length) (by omega) (by omega)]
    refine ⟨by simp;omega,⟨j+1,rfl,by omega,?_⟩,by omega⟩
    have:(w.mapIdx wItm)[j]?=some (wItm j x):=by rw [List.getElem?_mapIdx,hx];rfl
    rw [take_succ this]
    rfl
  · rintro ⟨_,_⟩ ⟨i,rfl,hi,rfl⟩
    have hp:=h1.2.2.2.2.1
    simp only [Int.toNat_natCast]
    refine ⟨fun h5=>⟨by simp;omega,by omega,fun x hx=>?_⟩,fun h5=>?_⟩
    · rw [W_succ (n:=s.peers.length) (by omega) (by omega)]
      refine ⟨by simp;omega,⟨i+1,rfl,by omega,?_⟩,by omega⟩
      rw [take_succ hx,List.map_append];rfl
    · rw [List.take_of_length_le (by simp;omega),List.take_of_length_le (l:=s.peers) (by omega),W_eq (by omega)]
def restartO_h(s:Spk)(wants:(List Wnt)):HC Tryz.prog:=⟨169,[(.a [.k,.k,.k,(.s 4),(.s 3)]),(.s 3)],[.agg [.int s.router,.int s.epoch,.int s.last,.sl 4 (s.items.map Itm.v) false,.vec 0],.sl 3 (wants.map Wnt.v) false],[.vec 3 (s.peers.map Per.v)],restartO_e (s.peers,restart s wants),restartO_b (s.peers,restart s wants),HSpec.of_okh fun ok ok2=>have ok:restartO_a s wants:=⟨ok,ok2 _ (by simp)⟩;(restartO_p s wants ok).elim fun I0 h=>h.elim fun m0 h=>h.elim fun I1 h=>h.elim fun m1 h=>restartO_ok s wants I0 m0 I1 m1 _ h,fnB_ok (by kernel_rfl),HcOk.of (by simp [hcB,belBL,AV.belB,allB,okBk,okBkO,restartO_e,restartO_b,pureBL_map (v:=Itm.v) (fun _=>rfl),pureBL_map (v:=Per.v) (fun _=>rfl),pureBL_map (v:=Wnt.v) (fun _=>rfl)])⟩
def changeO_a(s:Spk)(changes:(List Wnt)):Prop:=okL [.agg [.int s.router,.int s.epoch,.int s.last,.sl 4 (s.items.map Itm.v) false,.vec 0],.sl 3 (changes.map Wnt.v) false]∧(.vec 3 (s.peers.map Per.v):Blk).ok
def changeO_n0(s:Spk)(changes:(List Wnt))(t0:Int×Int×(List Itm)):NF:=⟨[(4,.k,.ref 1 0),(9,.k,.ref 2 0),(38,.k,.sl 3 (changes.map Wnt.v) false),(39,.k,.int ((changes.map Wnt.v).length:Int)),(40,.k,.int t0.1)],[.vec 3 (s.peers.map Per.v) (pureBL_map (fun _=>rfl) s.peers),.box (.agg [.int 0,.int 0,.int 0,.sl 0 [] true,.sl 0 [] true]),.box (.agg [.int s.router,.int s.epoch,.int t0.2.1,.sl 4 (t0.2.2.map Itm.v) false,.vec 3]),.vec 3 (s.peers.map Per.v) (pureBL_map (fun _=>rfl) s.peers)]⟩
def changeO_s:Nat→Type
  | 0=>Int×Int×(List Itm)
  | _=>Unit
def changeO_e(r:(List Per)×Spk×Int):AV:=.tup [.agg [.int r.2.1.router,.int r.2.1.epoch,.int r.2.1.last,.sl 4 (r.2.1.items.map Itm.v) false,.vec 1],.int r.2.2]
def changeO_b(r:(List Per)×Spk×Int):List (Option Blk):=[some (.vec 3 (r.1.map Per.v)),some (.vec 3 (r.2.1.peers.map Per.v))]
def changeO_vc(s:Spk)(changes:(List Wnt))(I0:(Int×Int×(List Itm))→Prop)(m0:(Int×Int×(List Itm))→Nat)(r0:(List Per)×Spk×Int):Prop:=
 Cl (valR6_c s)
 (ck (pureBLs [(s.peers.map Per.v)])
 (br ((valS s) != 0)
 (Qt ⟨[(4,.k,.ref 2 0),(5,.k,.int (valS s))],[.vec 3 (s.peers.map Per.v) (pureBL_map (fun _=>rfl) s.peers),.vec 3 [] rfl,.box (.agg [.int 0,.int 0,.int 0,.sl 0 [] true,.vec 1])]⟩ [0,193,17] changeO_e changeO_b (s.peers,(⟨0,0,0,[],[]⟩:Spk),valS s) r0)
 (Cl (applyR_c [] changes)
 (br (((applyG [] changes).2) != 0)
 (Qt ⟨[(4,.k,.ref 2 0),(5,.k,.int ((applyG [] changes).2))],[.vec 3 (s.peers.map Per.v) (pureBL_map (fun _=>rfl) s.peers),.vec 3 [] rfl,.box (.agg [.int 0,.int 0,.int 0,.sl 0 [] true,.vec 1])]⟩ [0,337,17] changeO_e changeO_b (s.peers,(⟨0,0,0,[],[]⟩:Spk),(applyG [] changes).2) r0)
 (Rf (α:=List AV) [] (Rf (α:=List AV) (s.peers.map Per.v)
 (ck (decide (0+s.peers.length≤1000000))
 (Rf (α:=List AV) [] (Rf (α:=List AV) (s.items.map Itm.v)
 (ck (decide (0+s.items.length≤1000000))
 (Rf (s.items.map Itm.v) (Be (changeO_n0 s changes) [0,17,289,369] I0 (0,s.last,s.items)∧∀t0,I0 t0 →
 br (decide (t0.1<((changes.map Wnt.v).length:Int)))
 (Rf (changes.map Wnt.v) (ck (decide (0≤t0.1)) (ck (decide (t0.1<(changes.length:Int)))
 (∀x1,changes[t0.1.toNat]?=some x1 →
 Cl (findI_c t0.2.2 x1.grp)
 (Cl (FSame_c (⟨(told t0.2.2 x1.grp).1,(told t0.2.2 x1.grp).2⟩:Flt) (⟨x1.mode,x1.srcs⟩:Flt))
 (br (FSame (⟨(told t0.2.2 x1.grp).1,(told t0.2.2 x1.grp).2⟩:Flt) (⟨x1.mode,x1.srcs⟩:Flt))
 (Bk (changeO_n0 s changes) [0,1,2,3] I0 m0 (W (t0.1+1),t0.2.1,t0.2.2) t0)
 (∃h2:t0.2.2.length≤999999,
 Cl (putR_c t0.2.2 (⟨W (t0.2.1+1),x1.grp,x1.mode,x1.srcs⟩:Itm) h2)
 (Bk (changeO_n0 s changes) [0,1,2,3] I0 m0 (W (t0.1+1),W (t0.2.1+1),put1 t0.2.2 (⟨W (t0.2.1+1),x1.grp,x1.mode,x1.srcs⟩:Itm)) t0))))))))
 (br (decide (1000000<t0.2.1))
 (Qt ⟨[(4,.k,.ref 2 0),(5,.k,.int 3)],[.vec 3 (s.peers.map Per.v) (pureBL_map (fun _=>rfl) s.peers),.vec 3 [] rfl,.box (.agg [.int 0,.int 0,.int 0,.sl 0 [] true,.vec 1])]⟩ [0,116,1] changeO_e changeO_b (s.peers,(⟨0,0,0,[],[]⟩:Spk),3) r0)
 (Qt ⟨[(4,.k,.ref 2 0),(5,.k,.int 0)],[.vec 3 (s.peers.map Per.v) (pureBL_map (fun _=>rfl) s.peers),.vec 3 (s.peers.map Per.v) (pureBL_map (fun _=>rfl) s.peers),.box (.agg [.int s.router,.int s.epoch,.int t0.2.1,.sl 4 (t0.2.2.map Itm.v) false,.vec 1])]⟩ [0,3,1] changeO_e changeO_b (s.peers,(⟨s.router,s.epoch,t0.2.1,t0.2.2,s.peers⟩:Spk),0) r0))))))))))))))
theorem changeO_ok(s:Spk)(changes:(List Wnt))(I0:(Int×Int×(List Itm))→Prop)(m0:(Int×Int×(List Itm))→Nat)(r0:(List Per)×Spk×Int)(h:changeO_vc s changes I0 m0 r0):HSpec Tryz.prog 168 [.agg [.int s.router,.int s.epoch,.int s.last,.sl 4 (s.items.map Itm.v) false,.vec 0],.sl 3 (changes.map Wnt.v) false] [.vec 3 (s.peers.map Per.v)] (changeO_e r0) (changeO_b r0):=mxH_of (sh:=(.a [(.a [.k,.k,.k,(.s 4),.k]),.k])) (hB:=changeO_b) (a:=((.callP (valR6_c s)
 (.br 129 (.cmdL (.nilB 17 4 3) (.retH (s.peers,(⟨0,0,0,[],[]⟩:Spk),valS s) ⟨[(4,.k,.ref 2 0),(5,.k,.int (valS s))],[.vec 3 (s.peers.map Per.v) (pureBL_map (fun _=>rfl) s.peers),.vec 3 [] rfl,.box (.agg [.int 0,.int 0,.int 0,.sl 0 [] true,.vec 1])]⟩ [0,193,17]))
 (.callP (applyR_c [] changes)
 (.br 273 (.cmdL (.nilB 17 4 3) (.retH (s.peers,(⟨0,0,0,[],[]⟩:Spk),(applyG [] changes).2) ⟨[(4,.k,.ref 2 0),(5,.k,.int ((applyG [] changes).2))],[.vec 3 (s.peers.map Per.v) (pureBL_map (fun _=>rfl) s.peers),.vec 3 [] rfl,.box (.agg [.int 0,.int 0,.int 0,.sl 0 [] true,.vec 1])]⟩ [0,337,17]))
 (.app 369 Per.v [] s.peers
 (.app 465 Itm.v [] s.items
 (.cmd (.frzE 465 (s.items.map Itm.v) (pureBL_map (fun _=>rfl) s.items)) (.loop 0 (changeO_n0 s changes) (I0) (m0) ((0,s.last,s.items):Int×Int×(List Itm)) [0,17,289,369] fun (t0:Int×Int×(List Itm)) =>
 (.br 20 (.el 20 Wnt.v changes fun x1 =>
 (.callP (findI_c t0.2.2 x1.grp)
 (.callP (FSame_c (⟨(told t0.2.2 x1.grp).1,(told t0.2.2 x1.grp).2⟩:Flt) (⟨x1.mode,x1.srcs⟩:Flt))
 (.br 212 (.back 0 ((W (t0.1+1),t0.2.1,t0.2.2):Int×Int×(List Itm)) [0,1,2,3])
 (.req 436 (t0.2.2.length≤999999) fun h2 =>
 (.callP (putR_c t0.2.2 (⟨W (t0.2.1+1),x1.grp,x1.mode,x1.srcs⟩:Itm) h2)
 (.back 0 ((W (t0.1+1),W (t0.2.1+1),put1 t0.2.2 (⟨W (t0.2.1+1),x1.grp,x1.mode,x1.srcs⟩:Itm)):Int×Int×(List Itm)) [0,1,2,3])))))))
 (.br 68 (.cmdL (.nilB 1 4 3) (.retH (s.peers,(⟨0,0,0,[],[]⟩:Spk),3) ⟨[(4,.k,.ref 2 0),(5,.k,.int 3)],[.vec 3 (s.peers.map Per.v) (pureBL_map (fun _=>rfl) s.peers),.vec 3 [] rfl,.box (.agg [.int 0,.int 0,.int 0,.sl 0 [] true,.vec 1])]⟩ [0,116,1]))
 (.retH (s.peers,(⟨s.router,s.epoch,t0.2.1,t0.2.2,s.peers⟩:Spk),0) ⟨[(4,.k,.ref 2 0),(5,.k,.int 0)],[.vec 3 (s.peers.map Per.v) (pureBL_map (fun _=>rfl) s.peers),.vec 3 (s.peers.map Per.v) (pureBL_map (fun _=>rfl) s.peers),.box (.agg [.int s.router,.int s.epoch,.int t0.2.1,.sl 4 (t0.2.2.map Itm.v) false,.vec 1])]⟩ [0,3,1]))))))))))):An Tryz.prog changeO_s ((List Per)×Spk×Int))) h (by kernel_rfl)
theorem changeO_p(s:Spk)(c:List Wnt)(ok:changeO_a s c):∃I m,changeO_vc s c I m (s.peers,change s c):=by
  refine ⟨fun t=>∃j:Nat,t.1=j∧j≤c.length∧t.2=(((c.take j).foldl chg1 (s.last,s.items)).1,((c.take j).foldl chg1 (s.last,s.items)).2),fun t=>c.length-t.1.toNat,?_⟩
  simp only [changeO_vc,vcU,rfU,List.length_map]
  have hv:valS s=if spkOk s then 0 else 1:=rfl
  rw [hv,applyG_err]
  refine ⟨pureBLs_one (pureBL_map (fun _=>rfl) _),?_⟩
  unfold change
  by_cases h1:spkOk s
  case neg=>rw [if_neg h1,if_pos h1];simp [spk0]
  rw [if_pos h1,if_neg (not_not_intro h1)]
  refine ⟨fun q=>by simp at q,fun _=>⟨fun h2=>?_,fun h2=>?_⟩⟩
  · have h2:wErr true c≠0:=by simpa using h2
    rw [if_pos h2];rfl
  have h2:wErr true c=0:=by simpa using h2
  rw [if_neg (not_not_intro h2)]
  have hp:=h1.2.2.2.2.1
  have hi:=itms_len h1.2.2.2.1
  have hl:=h1.2.2.1
  have hcl:=(wErr_zero.mp h2).1
  refine ⟨by omega,by omega,⟨0,rfl,by omega,rfl⟩,?_⟩
  rintro ⟨_,_⟩ ⟨j,rfl,hj,rfl⟩
  obtain ⟨b1,b2,b3⟩:=chg_take_len h1 h2 j
  simp only [Int.toNat_natCast]
  refine ⟨fun h3=>⟨by omega,by omega,fun x hx=>?_⟩,fun h3=>?_⟩
  · rw [W_succ (n:=c.length) (by omega) (by omega)]
    have e:(c.take (j+1)).foldl chg1 (s.last,s.items)=chg1 ((c.take j).foldl chg1 (s.last,s.items)) x:=by rw [take_succ hx,List.foldl_append];rfl
    generalize (c.take j).foldl chg1 (s.last,s.items)=u at *
    refine ⟨fun q=>⟨⟨j+1,rfl,by omega,?_⟩,by omega⟩,fun q=>⟨by omega,⟨j+1,rfl,by omega,?_⟩,by omega⟩⟩
    · rw [e,chg1,if_pos]
      have q:(told u.2 x.grp).1=x.mode∧(told u.2 x.grp).2=x.srcs:=by simpa [FSame,flt_eq] using q
      rw [←q.1,←q.2]
    · rw [e,chg1,if_neg,W_eq (by omega)]
      intro z
      have z1:=congrArg Prod.fst z
      have z2:=congrArg Prod.snd z
      simp [FSame,flt_eq] at q z1 z2
      exact q z1 z2
  · rw [List.take_of_length_le (by omega)]
    refine ⟨fun q=>?_,fun q=>?_⟩
    · rw [if_pos q];rfl
    · rw [if_neg q]
def changeO_h(s:Spk)(changes:(List Wnt)):HC Tryz.prog:=⟨168,[(.a [.k,.k,.k,(.s 4),(.s 3)]),(.s 3)],[.agg [.int s.router,.int s.epoch,.int s.last,.sl 4 (s.items.map Itm.v) false,.vec 0],.sl 3 (changes.map Wnt.v) false],[.vec 3 (s.peers.map Per.v)],changeO_e (s.peers,change s changes),changeO_b (s.peers,change s changes),HSpec.of_okh fun ok ok2=>have ok:changeO_a s changes:=⟨ok,ok2 _ (by simp)⟩;(changeO_p s changes ok).elim fun I0 h=>h.elim fun m0 h=>changeO_ok s changes I0 m0 _ h,fnB_ok (by kernel_rfl),HcOk.of (by simp [hcB,belBL,AV.belB,allB,okBk,okBkO,changeO_e,changeO_b,pureBL_map (v:=Itm.v) (fun _=>rfl),pureBL_map (v:=Per.v) (fun _=>rfl),pureBL_map (v:=Wnt.v) (fun _=>rfl)])⟩
def stepJ(L:List Int)(p:Nat)(s:Spk):Int×Nat×Spk:=
  if Mod (rawV L (chgT L p).2) 8=7 then ((restart s (wantsT L (rawP L (chgT L p).2)).1).2,(wantsT L (rawP L (chgT L p).2)).2,(restart s (wantsT L (rawP L (chgT L p).2)).1).1)
  else ((change s (chgT L p).1).2,rawP L (chgT L p).2,(change s (chgT L p).1).1)
theorem stepT_J{L:List Int}{p:Nat}{s:Spk}:stepT L p s=(if (stepJ L p s).1≠0 then s else (stepJ L p s).2.2,(stepJ L p s).2.1):=by
  unfold stepT stepJ
  split<;>rfl
def stepT_a(L:(List Int))(p:Nat)(s:Spk):Prop:=okL [.ref 0 0,.agg [.int s.router,.int s.epoch,.int s.last,.sl 4 (s.items.map Itm.v) false,.vec 1]]∧(.box (.agg [.sl 1 (L.map AV.int) false,.int ((p:Nat):Int)]):Blk).ok∧(.vec 3 (s.peers.map Per.v):Blk).ok
def stepT_n0(L:(List Int))(p:Nat)(s:Spk)(t0:Int×Nat×Int×Int×Int×(List Itm)×(List Per)):NF:=⟨[(3,.k,.ref 2 0),(4,.k,.ref 4 0),(5,.k,.ref 5 0),(6,.k,.int t0.1)],[.box (.agg [.sl 1 (L.map AV.int) false,.int ((t0.2.1:Nat):Int)]),.gone,.box (.agg [.int s.router,.int s.epoch,.int s.last,.sl 4 (s.items.map Itm.v) false,.vec 3]),.vec 3 (s.peers.map Per.v) (pureBL_map (fun _=>rfl) s.peers),.box (.agg [.int 0,.int 0,.int 0,.sl 0 [] true,.sl 0 [] true]),.box (.agg [.int t0.2.2.1,.int t0.2.2.2.1,.int t0.2.2.2.2.1,.sl 4 (t0.2.2.2.2.2.1.map Itm.v) false,.vec 6]),.vec 3 (t0.2.2.2.2.2.2.map Per.v) (pureBL_map (fun _=>rfl) t0.2.2.2.2.2.2)]⟩
def stepT_s:Nat→Type
  | 0=>Int×Nat×Int×Int×Int×(List Itm)×(List Per)
  | _=>Unit
def stepT_e(r:Tap×Spk):AV:=.agg [.int r.2.router,.int r.2.epoch,.int r.2.last,.sl 4 (r.2.items.map Itm.v) false,.vec 2]
def stepT_b(r:Tap×Spk):List (Option Blk):=[some (.box (.agg [.sl 1 (r.1.L.map AV.int) false,.int ((r.1.p:Nat):Int)])),none,some (.vec 3 (r.2.peers.map Per.v))]
def stepT_vc(L:(List Int))(p:Nat)(s:Spk)(I0:(Int×Nat×Int×Int×Int×(List Itm)×(List Per))→Prop)(r0:Tap×Spk):Prop:=
 Ch (chgT_h L p) [0] 66
 (Ch (changeO_h s ((chgT L p).1)) [1] 82
 ((Ch (N_h L ((chgT L p).2) 8) [0] 210
 (br ((Mod (rawV L ((chgT L p).2)) 8)==7)
 (Ch (wantsT_h L (rawP L ((chgT L p).2))) [0] 274
 (Ch (restartO_h s ((wantsT L (rawP L ((chgT L p).2))).1)) [1] 290
 (Be (stepT_n0 L p s) [0,1,2,1,18,146,290] I0 ((restart s ((wantsT L (rawP L ((chgT L p).2))).1)).2,(wantsT L (rawP L ((chgT L p).2))).2,((restart s ((wantsT L (rawP L ((chgT L p).2))).1)).1).router,((restart s ((wantsT L (rawP L ((chgT L p).2))).1)).1).epoch,((restart s ((wantsT L (rawP L ((chgT L p).2))).1)).1).last,((restart s ((wantsT L (rawP L ((chgT L p).2))).1)).1).items,((restart s ((wantsT L (rawP L ((chgT L p).2))).1)).1).peers))))
 (Be (stepT_n0 L p s) [0,1,2,1,18,146,82] I0 ((change s ((chgT L p).1)).2,rawP L ((chgT L p).2),((change s ((chgT L p).1)).1).router,((change s ((chgT L p).1)).1).epoch,((change s ((chgT L p).1)).1).last,((change s ((chgT L p).1)).1).items,((change s ((chgT L p).1)).1).peers))))∧∀t0:Int×Nat×Int×Int×Int×(List Itm)×(List Per),I0 t0 →
 br (t0.1 != 0)
 (Qt ⟨[(4,.k,.ref 3 0)],[.box (.agg [.sl 1 (L.map AV.int) false,.int ((t0.2.1:Nat):Int)]),.gone,.vec 3 (s.peers.map Per.v) (pureBL_map (fun _=>rfl) s.peers),.box (.agg [.int s.router,.int s.epoch,.int s.last,.sl 4 (s.items.map Itm.v) false,.vec 2])]⟩ [0,1,3,4] stepT_e stepT_b ((⟨L,t0.2.1⟩:Tap),s) r0)
 (Qt ⟨[(4,.k,.ref 3 0)],[.box (.agg [.sl 1 (L.map AV.int) false,.int ((t0.2.1:Nat):Int)]),.gone,.vec 3 (t0.2.2.2.2.2.2.map Per.v) (pureBL_map (fun _=>rfl) t0.2.2.2.2.2.2),.box (.agg [.int t0.2.2.1,.int t0.2.2.2.1,.int t0.2.2.2.2.1,.sl 4 (t0.2.2.2.2.2.1.map Itm.v) false,.vec 2])]⟩ [0,1,6,4] stepT_e stepT_b ((⟨L,t0.2.1⟩:Tap),(⟨t0.2.2.1,t0.2.2.2.1,t0.2.2.2.2.1,t0.2.2.2.2.2.1,t0.2.2.2.2.2.2⟩:Spk)) r0)))
theorem stepT_ok(L:(List Int))(p:Nat)(s:Spk)(I0:(Int×Nat×Int×Int×Int×(List Itm)×(List Per))→Prop)(r0:Tap×Spk)(h:stepT_vc L p s I0 r0):HSpec Tryz.prog 121 [.ref 0 0,.agg [.int s.router,.int s.epoch,.int s.last,.sl 4 (s.items.map Itm.v) false,.vec 1]] [.box (.agg [.sl 1 (L.map AV.int) false,.int ((p:Nat):Int)]),.vec 3 (s.peers.map Per.v)] (stepT_e r0) (stepT_b r0):=mxH_of (sh:=(.a [.k,.k,.k,(.s 4),.k])) (hB:=stepT_b) (a:=((.callH [0] (chgT_h L p)
 (.callH [1] (changeO_h s ((chgT L p).1))
 (.join 0 (stepT_n0 L p s) (fun t0=>I0 t0) (.callH [0] (N_h L ((chgT L p).2) 8)
 (.br 242 (.callH [0] (wantsT_h L (rawP L ((chgT L p).2)))
 (.callH [1] (restartO_h s ((wantsT L (rawP L ((chgT L p).2))).1))
 (.back 0 (((restart s ((wantsT L (rawP L ((chgT L p).2))).1)).2,(wantsT L (rawP L ((chgT L p).2))).2,((restart s ((wantsT L (rawP L ((chgT L p).2))).1)).1).router,((restart s ((wantsT L (rawP L ((chgT L p).2))).1)).1).epoch,((restart s ((wantsT L (rawP L ((chgT L p).2))).1)).1).last,((restart s ((wantsT L (rawP L ((chgT L p).2))).1)).1).items,((restart s ((wantsT L (rawP L ((chgT L p).2))).1)).1).peers):Int×Nat×Int×Int×Int×(List Itm)×(List Per)) [0,1,2,1,18,146,290])))
 (.back 0 (((change s ((chgT L p).1)).2,rawP L ((chgT L p).2),((change s ((chgT L p).1)).1).router,((change s ((chgT L p).1)).1).epoch,((change s ((chgT L p).1)).1).last,((change s ((chgT L p).1)).1).items,((change s ((chgT L p).1)).1).peers):Int×Nat×Int×Int×Int×(List Itm)×(List Per)) [0,1,2,1,18,146,82]))) fun (t0:Int×Nat×Int×Int×Int×(List Itm)×(List Per)) =>
 (.br 39 (.retH ((⟨L,t0.2.1⟩:Tap),s) ⟨[(4,.k,.ref 3 0)],[.box (.agg [.sl 1 (L.map AV.int) false,.int ((t0.2.1:Nat):Int)]),.gone,.vec 3 (s.peers.map Per.v) (pureBL_map (fun _=>rfl) s.peers),.box (.agg [.int s.router,.int s.epoch,.int s.last,.sl 4 (s.items.map Itm.v) false,.vec 2])]⟩ [0,1,3,4])
 (.retH ((⟨L,t0.2.1⟩:Tap),(⟨t0.2.2.1,t0.2.2.2.1,t0.2.2.2.2.1,t0.2.2.2.2.2.1,t0.2.2.2.2.2.2⟩:Spk)) ⟨[(4,.k,.ref 3 0)],[.box (.agg [.sl 1 (L.map AV.int) false,.int ((t0.2.1:Nat):Int)]),.gone,.vec 3 (t0.2.2.2.2.2.2.map Per.v) (pureBL_map (fun _=>rfl) t0.2.2.2.2.2.2),.box (.agg [.int t0.2.2.1,.int t0.2.2.2.1,.int t0.2.2.2.2.1,.sl 4 (t0.2.2.2.2.2.1.map Itm.v) false,.vec 2])]⟩ [0,1,6,4]))))):An Tryz.prog stepT_s (Tap×Spk))) h (by kernel_rfl)
theorem stepT_p(L:List Int)(p:Nat)(s:Spk)(ok:stepT_a L p s):∃I,stepT_vc L p s I ((⟨L,(stepT L p s).2⟩:Tap),(stepT L p s).1):=by
  refine ⟨fun t=>t=((stepJ L p s).1,(stepJ L p s).2.1,(stepJ L p s).2.2.router,(stepJ L p s).2.2.epoch,(stepJ L p s).2.2.last,(stepJ L p s).2.2.items,(stepJ L p s).2.2.peers),?_⟩
  simp only [stepT_vc,vcU,rfU,List.length_map]
  refine ⟨⟨fun h=>?_,fun h=>?_⟩,?_⟩
  · have h:Mod (rawV L (chgT L p).2) 8=7:=by simpa using h
    unfold stepJ;rw [if_pos h]
  · have h:¬Mod (rawV L (chgT L p).2) 8=7:=by simpa using h
    unfold stepJ;rw [if_neg h]
  · rintro _ rfl
    rw [stepT_J]
    refine ⟨fun h=>?_,fun h=>?_⟩
    · have h:(stepJ L p s).1≠0:=by simpa using h
      rw [if_pos h]
    · have h:¬(stepJ L p s).1≠0:=by simpa using h
      rw [if_neg h]
def stepT_h(L:(List Int))(p:Nat)(s:Spk):HC Tryz.prog:=⟨121,[.k,(.a [.k,.k,.k,(.s 4),(.s 3)])],[.ref 0 0,.agg [.int s.router,.int s.epoch,.int s.last,.sl 4 (s.items.map Itm.v) false,.vec 1]],[.box (.agg [.sl 1 (L.map AV.int) false,.int ((p:Nat):Int)]),.vec 3 (s.peers.map Per.v)],stepT_e ((⟨L,(Go.Proofs.YtgnogboljobocaaGreatDoor.stepT L p s).2⟩:Tap),(Go.Proofs.YtgnogboljobocaaGreatDoor.stepT L p s).1),stepT_b ((⟨L,(Go.Proofs.YtgnogboljobocaaGreatDoor.stepT L p s).2⟩:Tap),(Go.Proofs.YtgnogboljobocaaGreatDoor.stepT L p s).1),HSpec.of_okh fun ok ok2=>have ok:stepT_a L p s:=⟨ok,ok2 _ (by simp),ok2 _ (by simp)⟩;(stepT_p L p s ok).elim fun I0 h=>stepT_ok L p s I0 _ h,fnB_ok (by kernel_rfl),HcOk.of (by simp [hcB,belBL,AV.belB,allB,okBk,okBkO,stepT_e,stepT_b,pureBL_map (v:=AV.int) (fun _=>rfl),pureBL_map (v:=Itm.v) (fun _=>rfl),pureBL_map (v:=Per.v) (fun _=>rfl)])⟩
theorem set_mid{α:Type}{l1 l2:List α}{x y:α}{k:Nat}(h:l1.length=k):(l1++x::l2).set k y=l1++y::l2:=by
  subst h
  rw [List.set_append,if_neg (by omega)];simp
theorem get_mid{α:Type}{l1 l2:List α}{x:α}{k:Nat}(h:l1.length=k):(l1++x::l2)[k]?=some x:=by
  subst h
  rw [List.getElem?_append_right (by omega)];simp
def spkT_a(L:(List Int))(p:Nat):Prop:=okL [.ref 0 0]∧(.box (.agg [.sl 1 (L.map AV.int) false,.int ((p:Nat):Int)]):Blk).ok
def spkT_n0(L:(List Int))(p:Nat)(t0:Int×Int×Int×Int×(List Itm)×(List Per)×Tap):NF:=⟨[(0,.k,.ref 0 0),(2,.k,.ref 1 0),(3,.k,.ref 2 0),(5,.k,.int t0.1)],[.box (.agg [.sl 1 (t0.2.2.2.2.2.2.L.map AV.int) false,.int ((t0.2.2.2.2.2.2.p:Nat):Int)]),.box (.agg [.int 0,.int 0,.int 0,.sl 0 [] true,.sl 0 [] true]),.box (.agg [.int t0.2.1,.int t0.2.2.1,.int t0.2.2.2.1,.sl 4 (t0.2.2.2.2.1.map Itm.v) false,.vec 3]),.vec 3 (t0.2.2.2.2.2.1.map Per.v) (pureBL_map (fun _=>rfl) t0.2.2.2.2.2.1)]⟩
def spkT_n1(L:(List Int))(p:Nat)(t0:Int×Int×Int×Int×(List Itm)×(List Per)×Tap)(t1:Int×(List Per)×Tap):NF:=⟨[(0,.k,.ref 0 0),(2,.k,.ref 1 0),(3,.k,.ref 2 0),(31,.k,.int ((t0.2.2.2.2.2.1.map Per.v).length:Int)),(32,.k,.int t1.1)],[.box (.agg [.sl 1 (t1.2.2.L.map AV.int) false,.int ((t1.2.2.p:Nat):Int)]),.box (.agg [.int 0,.int 0,.int 0,.sl 0 [] true,.sl 0 [] true]),.box (.agg [.int t0.2.1,.int t0.2.2.1,.int t0.2.2.2.1,.sl 4 (t0.2.2.2.2.1.map Itm.v) false,.vec 3]),.vec 3 (t1.2.1.map Per.v) (pureBL_map (fun _=>rfl) t1.2.1)]⟩
def spkT_s:Nat→Type
  | 0=>Int×Int×Int×Int×(List Itm)×(List Per)×Tap
  | 1=>Int×(List Per)×Tap
  | _=>Unit
def spkT_e(r:Tap×Spk):AV:=.agg [.int r.2.router,.int r.2.epoch,.int r.2.last,.sl 4 (r.2.items.map Itm.v) false,.sl 3 (r.2.peers.map Per.v) false]
def spkT_b(r:Tap×Spk):List (Option Blk):=[some (.box (.agg [.sl 1 (r.1.L.map AV.int) false,.int ((r.1.p:Nat):Int)]))]
def spkT_vc(L:(List Int))(p:Nat)(I0:(Int×Int×Int×Int×(List Itm)×(List Per)×Tap)→Prop)(m0:(Int×Int×Int×Int×(List Itm)×(List Per)×Tap)→Nat)(I1:Int×Int×Int×Int×(List Itm)×(List Per)×Tap→(Int×(List Per)×Tap)→Prop)(m1:Int×Int×Int×Int×(List Itm)×(List Per)×Tap→(Int×(List Per)×Tap)→Nat)(r0:Tap×Spk):Prop:=
 Ch (Range_h L p 1 4) [0] 33
 (∃h1:[1,1,5,999999]≠[],
 Ch (Pick_h L (rawP L p) [1,1,5,999999] h1) [0] 81
 (Ch (Range_h L (rawP L (rawP L p)) 0 3) [0] 129
 (Rf (α:=List AV) [.int 7,.int 8,.int 9] (ck (bndB [7,8,9].length 0 (rng L (rawP L (rawP L p)) 0 3) ([7,8,9].length:Int))
 (Ch (newO_h (rng L p 1 4) (pickI [1,1,5,999999] (rawV L (rawP L p))) (([7,8,9].take ((rng L (rawP L (rawP L p)) 0 3).toNat)).drop 0)) [] 161
 (Ch (N_h L (rawP L (rawP L (rawP L p))) 6) [0] 289
 (Be (spkT_n0 L p) [0,1,225,161] I0 (Mod (rawV L (rawP L (rawP L (rawP L p)))) 6,((new (rng L p 1 4) (pickI [1,1,5,999999] (rawV L (rawP L p))) (([7,8,9].take ((rng L (rawP L (rawP L p)) 0 3).toNat)).drop 0)).1).router,((new (rng L p 1 4) (pickI [1,1,5,999999] (rawV L (rawP L p))) (([7,8,9].take ((rng L (rawP L (rawP L p)) 0 3).toNat)).drop 0)).1).epoch,((new (rng L p 1 4) (pickI [1,1,5,999999] (rawV L (rawP L p))) (([7,8,9].take ((rng L (rawP L (rawP L p)) 0 3).toNat)).drop 0)).1).last,((new (rng L p 1 4) (pickI [1,1,5,999999] (rawV L (rawP L p))) (([7,8,9].take ((rng L (rawP L (rawP L p)) 0 3).toNat)).drop 0)).1).items,((new (rng L p 1 4) (pickI [1,1,5,999999] (rawV L (rawP L p))) (([7,8,9].take ((rng L (rawP L (rawP L p)) 0 3).toNat)).drop 0)).1).peers,(⟨L,rawP L (rawP L (rawP L (rawP L p)))⟩:Tap))∧∀t0,I0 t0 →
 br (decide (0<t0.1))
 (Ch (stepT_h t0.2.2.2.2.2.2.L t0.2.2.2.2.2.2.p (⟨t0.2.1,t0.2.2.1,t0.2.2.2.1,t0.2.2.2.2.1,t0.2.2.2.2.2.1⟩:Spk)) [0,3] 68
 (Bk (spkT_n0 L p) [0,1,2,68] I0 m0 (W (t0.1-1),((stepT t0.2.2.2.2.2.2.L t0.2.2.2.2.2.2.p (⟨t0.2.1,t0.2.2.1,t0.2.2.2.1,t0.2.2.2.2.1,t0.2.2.2.2.2.1⟩:Spk)).1).router,((stepT t0.2.2.2.2.2.2.L t0.2.2.2.2.2.2.p (⟨t0.2.1,t0.2.2.1,t0.2.2.2.1,t0.2.2.2.2.1,t0.2.2.2.2.2.1⟩:Spk)).1).epoch,((stepT t0.2.2.2.2.2.2.L t0.2.2.2.2.2.2.p (⟨t0.2.1,t0.2.2.1,t0.2.2.2.1,t0.2.2.2.2.1,t0.2.2.2.2.2.1⟩:Spk)).1).last,((stepT t0.2.2.2.2.2.2.L t0.2.2.2.2.2.2.p (⟨t0.2.1,t0.2.2.1,t0.2.2.2.1,t0.2.2.2.2.1,t0.2.2.2.2.2.1⟩:Spk)).1).items,((stepT t0.2.2.2.2.2.2.L t0.2.2.2.2.2.2.p (⟨t0.2.1,t0.2.2.1,t0.2.2.2.1,t0.2.2.2.2.1,t0.2.2.2.2.2.1⟩:Spk)).1).peers,(⟨t0.2.2.2.2.2.2.L,(stepT t0.2.2.2.2.2.2.L t0.2.2.2.2.2.2.p (⟨t0.2.1,t0.2.2.1,t0.2.2.2.1,t0.2.2.2.2.1,t0.2.2.2.2.2.1⟩:Spk)).2⟩:Tap)) t0))
 (Be (spkT_n1 L p t0) [0,1,2,3] (I1 t0) (0,t0.2.2.2.2.2.1,t0.2.2.2.2.2.2)∧∀t1,I1 t0 t1 →
 br (decide (t1.1<((t0.2.2.2.2.2.1.map Per.v).length:Int)))
 (Ch (N_h t1.2.2.L t1.2.2.p 2) [0] 68
 (br ((Mod (rawV t1.2.2.L t1.2.2.p) 2)==0)
 (Ch (Range_h t1.2.2.L (rawP t1.2.2.L t1.2.2.p) 0 3) [0] 212
 (Ch (N_h t1.2.2.L (rawP t1.2.2.L (rawP t1.2.2.L t1.2.2.p)) (W (t0.2.2.2.1+1))) [0] 292
 (ck (cond (decide (0≤t1.1)) (decide (t1.1<((t1.2.1.map Per.v).length:Int))) false)
 (Rf (t1.2.1.map Per.v) (ck (decide (t1.1.toNat<t1.2.1.length))
 (∀y2,t1.2.1[t1.1.toNat]?=some y2→Rf (Per.v (⟨y2.router,rng t1.2.2.L (rawP t1.2.2.L t1.2.2.p) 0 3,y2.acked⟩:Per))
 (ck (cond (decide (0≤t1.1)) (decide (t1.1<(((t1.2.1.set t1.1.toNat (⟨y2.router,rng t1.2.2.L (rawP t1.2.2.L t1.2.2.p) 0 3,y2.acked⟩:Per)).map Per.v).length:Int))) false)
 (Rf ((t1.2.1.set t1.1.toNat (⟨y2.router,rng t1.2.2.L (rawP t1.2.2.L t1.2.2.p) 0 3,y2.acked⟩:Per)).map Per.v) (ck (decide (t1.1.toNat<(t1.2.1.set t1.1.toNat (⟨y2.router,rng t1.2.2.L (rawP t1.2.2.L t1.2.2.p) 0 3,y2.acked⟩:Per)).length))
 (∀y3,(t1.2.1.set t1.1.toNat (⟨y2.router,rng t1.2.2.L (rawP t1.2.2.L t1.2.2.p) 0 3,y2.acked⟩:Per))[t1.1.toNat]?=some y3→Rf (Per.v (⟨y3.router,y3.epoch,Mod (rawV t1.2.2.L (rawP t1.2.2.L (rawP t1.2.2.L t1.2.2.p))) (W (t0.2.2.2.1+1))⟩:Per))
 (Bk (spkT_n1 L p t0) [0,1,2,3] (I1 t0) (m1 t0) (W (t1.1+1),(t1.2.1.set t1.1.toNat (⟨y2.router,rng t1.2.2.L (rawP t1.2.2.L t1.2.2.p) 0 3,y2.acked⟩:Per)).set t1.1.toNat (⟨y3.router,y3.epoch,Mod (rawV t1.2.2.L (rawP t1.2.2.L (rawP t1.2.2.L t1.2.2.p))) (W (t0.2.2.2.1+1))⟩:Per),(⟨t1.2.2.L,rawP t1.2.2.L (rawP t1.2.2.L (rawP t1.2.2.L t1.2.2.p))⟩:Tap)) t1)))))))))))
 (Bk (spkT_n1 L p t0) [0,1,2,3] (I1 t0) (m1 t0) (W (t1.1+1),t1.2.1,(⟨t1.2.2.L,rawP t1.2.2.L t1.2.2.p⟩:Tap)) t1)))
 (Rf (t1.2.1.map Per.v) (Qt ⟨[(2,.k,.ref 1 0)],[.box (.agg [.sl 1 (t1.2.2.L.map AV.int) false,.int ((t1.2.2.p:Nat):Int)]),.box (.agg [.int t0.2.1,.int t0.2.2.1,.int t0.2.2.2.1,.sl 4 (t0.2.2.2.2.1.map Itm.v) false,.sl 3 (t1.2.1.map Per.v) false])]⟩ [0,1] spkT_e spkT_b (t1.2.2,(⟨t0.2.1,t0.2.2.1,t0.2.2.2.1,t0.2.2.2.2.1,t1.2.1⟩:Spk)) r0))))))))))
theorem spkT_ok(L:(List Int))(p:Nat)(I0:(Int×Int×Int×Int×(List Itm)×(List Per)×Tap)→Prop)(m0:(Int×Int×Int×Int×(List Itm)×(List Per)×Tap)→Nat)(I1:Int×Int×Int×Int×(List Itm)×(List Per)×Tap→(Int×(List Per)×Tap)→Prop)(m1:Int×Int×Int×Int×(List Itm)×(List Per)×Tap→(Int×(List Per)×Tap)→Nat)(r0:Tap×Spk)(h:spkT_vc L p I0 m0 I1 m1 r0):HSpec Tryz.prog 40 [.ref 0 0] [.box (.agg [.sl 1 (L.map AV.int) false,.int ((p:Nat):Int)])] (spkT_e r0) (spkT_b r0):=mxH_of (sh:=(.a [.k,.k,.k,(.s 4),(.s 3)])) (hB:=spkT_b) (a:=((.callH [0] (Range_h L p 1 4)
 (.req 81 ([1,1,5,999999]≠[]) fun h1 =>
 (.callH [0] (Pick_h L (rawP L p) [1,1,5,999999] h1)
 (.callH [0] (Range_h L (rawP L (rawP L p)) 0 3)
 (.sub 145 AV.int [7,8,9] false
 (.callH [] (newO_h (rng L p 1 4) (pickI [1,1,5,999999] (rawV L (rawP L p))) (([7,8,9].take ((rng L (rawP L (rawP L p)) 0 3).toNat)).drop 0))
 (.callH [0] (N_h L (rawP L (rawP L (rawP L p))) 6)
 (.loop 0 (spkT_n0 L p) (I0) (m0) ((Mod (rawV L (rawP L (rawP L (rawP L p)))) 6,((new (rng L p 1 4) (pickI [1,1,5,999999] (rawV L (rawP L p))) (([7,8,9].take ((rng L (rawP L (rawP L p)) 0 3).toNat)).drop 0)).1).router,((new (rng L p 1 4) (pickI [1,1,5,999999] (rawV L (rawP L p))) (([7,8,9].take ((rng L (rawP L (rawP L p)) 0 3).toNat)).drop 0)).1).epoch,((new (rng L p 1 4) (pickI [1,1,5,999999] (rawV L (rawP L p))) (([7,8,9].take ((rng L (rawP L (rawP L p)) 0 3).toNat)).drop 0)).1).last,((new (rng L p 1 4) (pickI [1,1,5,999999] (rawV L (rawP L p))) (([7,8,9].take ((rng L (rawP L (rawP L p)) 0 3).toNat)).drop 0)).1).items,((new (rng L p 1 4) (pickI [1,1,5,999999] (rawV L (rawP L p))) (([7,8,9].take ((rng L (rawP L (rawP L p)) 0 3).toNat)).drop 0)).1).peers,(⟨L,rawP L (rawP L (rawP L (rawP L p)))⟩:Tap)):Int×Int×Int×Int×(List Itm)×(List Per)×Tap) [0,1,225,161] fun (t0:Int×Int×Int×Int×(List Itm)×(List Per)×Tap) =>
 (.br 36 (.callH [0,3] (stepT_h t0.2.2.2.2.2.2.L t0.2.2.2.2.2.2.p (⟨t0.2.1,t0.2.2.1,t0.2.2.2.1,t0.2.2.2.2.1,t0.2.2.2.2.2.1⟩:Spk))
 (.back 0 ((W (t0.1-1),((stepT t0.2.2.2.2.2.2.L t0.2.2.2.2.2.2.p (⟨t0.2.1,t0.2.2.1,t0.2.2.2.1,t0.2.2.2.2.1,t0.2.2.2.2.2.1⟩:Spk)).1).router,((stepT t0.2.2.2.2.2.2.L t0.2.2.2.2.2.2.p (⟨t0.2.1,t0.2.2.1,t0.2.2.2.1,t0.2.2.2.2.1,t0.2.2.2.2.2.1⟩:Spk)).1).epoch,((stepT t0.2.2.2.2.2.2.L t0.2.2.2.2.2.2.p (⟨t0.2.1,t0.2.2.1,t0.2.2.2.1,t0.2.2.2.2.1,t0.2.2.2.2.2.1⟩:Spk)).1).last,((stepT t0.2.2.2.2.2.2.L t0.2.2.2.2.2.2.p (⟨t0.2.1,t0.2.2.1,t0.2.2.2.1,t0.2.2.2.2.1,t0.2.2.2.2.2.1⟩:Spk)).1).items,((stepT t0.2.2.2.2.2.2.L t0.2.2.2.2.2.2.p (⟨t0.2.1,t0.2.2.1,t0.2.2.2.1,t0.2.2.2.2.1,t0.2.2.2.2.2.1⟩:Spk)).1).peers,(⟨t0.2.2.2.2.2.2.L,(stepT t0.2.2.2.2.2.2.L t0.2.2.2.2.2.2.p (⟨t0.2.1,t0.2.2.1,t0.2.2.2.1,t0.2.2.2.2.1,t0.2.2.2.2.2.1⟩:Spk)).2⟩:Tap)):Int×Int×Int×Int×(List Itm)×(List Per)×Tap) [0,1,2,68]))
 (.loop 1 (spkT_n1 L p t0) (I1 t0) (m1 t0) ((0,t0.2.2.2.2.2.1,t0.2.2.2.2.2.2):Int×(List Per)×Tap) [0,1,2,3] fun (t1:Int×(List Per)×Tap) =>
 (.br 20 (.callH [0] (N_h t1.2.2.L t1.2.2.p 2)
 (.br 100 (.callH [0] (Range_h t1.2.2.L (rawP t1.2.2.L t1.2.2.p) 0 3)
 (.callH [0] (N_h t1.2.2.L (rawP t1.2.2.L (rawP t1.2.2.L t1.2.2.p)) (W (t0.2.2.2.1+1)))
 (.st 340 Per.v t1.2.1 (fun y2=>(⟨y2.router,rng t1.2.2.L (rawP t1.2.2.L t1.2.2.p) 0 3,y2.acked⟩:Per)) fun y2 =>
 (.st 388 Per.v (t1.2.1.set t1.1.toNat (⟨y2.router,rng t1.2.2.L (rawP t1.2.2.L t1.2.2.p) 0 3,y2.acked⟩:Per)) (fun y3=>(⟨y3.router,y3.epoch,Mod (rawV t1.2.2.L (rawP t1.2.2.L (rawP t1.2.2.L t1.2.2.p))) (W (t0.2.2.2.1+1))⟩:Per)) fun y3 =>
 (.back 1 ((W (t1.1+1),(t1.2.1.set t1.1.toNat (⟨y2.router,rng t1.2.2.L (rawP t1.2.2.L t1.2.2.p) 0 3,y2.acked⟩:Per)).set t1.1.toNat (⟨y3.router,y3.epoch,Mod (rawV t1.2.2.L (rawP t1.2.2.L (rawP t1.2.2.L t1.2.2.p))) (W (t0.2.2.2.1+1))⟩:Per),(⟨t1.2.2.L,rawP t1.2.2.L (rawP t1.2.2.L (rawP t1.2.2.L t1.2.2.p))⟩:Tap)):Int×(List Per)×Tap) [0,1,2,3])))))
 (.back 1 ((W (t1.1+1),t1.2.1,(⟨t1.2.2.L,rawP t1.2.2.L t1.2.2.p⟩:Tap)):Int×(List Per)×Tap) [0,1,2,3])))
 (.cmdL (.frzE 3 (t1.2.1.map Per.v) (pureBL_map (fun _=>rfl) t1.2.1)) (.retH (t1.2.2,(⟨t0.2.1,t0.2.2.1,t0.2.2.2.1,t0.2.2.2.2.1,t1.2.1⟩:Spk)) ⟨[(2,.k,.ref 1 0)],[.box (.agg [.sl 1 (t1.2.2.L.map AV.int) false,.int ((t1.2.2.p:Nat):Int)]),.box (.agg [.int t0.2.1,.int t0.2.2.1,.int t0.2.2.2.1,.sl 4 (t0.2.2.2.2.1.map Itm.v) false,.sl 3 (t1.2.1.map Per.v) false])]⟩ [0,1]))))))))))))):An Tryz.prog spkT_s (Tap×Spk))) h (by kernel_rfl)
theorem spkT_p(L:List Int)(p:Nat)(ok:spkT_a L p):∃I0 m0 I1 m1,spkT_vc L p I0 m0 I1 m1 ((⟨L,(spkT L p).2⟩:Tap),(spkT L p).1):=by
  refine ⟨fun t=>∃(k:Nat) (s:Spk) (q:Nat),k≤6∧t=((k:Int),s.router,s.epoch,s.last,s.items,s.peers,(⟨L,q⟩:Tap))∧stepN L k (s,q)=spk2 L p,fun t=>t.1.toNat,
    fun t0 t=>∃k:Nat,k≤(spk2 L p).1.peers.length∧t=((k:Int),(perN L (spk2 L p).1.last ((spk2 L p).1.peers.take k) (spk2 L p).2).1++(spk2 L p).1.peers.drop k,(⟨L,(perN L (spk2 L p).1.last ((spk2 L p).1.peers.take k) (spk2 L p).2).2⟩:Tap)),
    fun t0 t=>(spk2 L p).1.peers.length-t.1.toNat,?_⟩
  simp only [spkT_vc,vcU,rfU,List.length_map]
  have h1:=rng_in (L:=L) (p:=rawP L (rawP L p)) (lo:=0) (hi:=3) (by omega)
  have h2:=Mod_range (x:=rawV L (rawP L (rawP L (rawP L p)))) (n:=6) (by omega)
  refine ⟨by simp,?_,?_,?_⟩
  · simp only [bndB]
    simp
    omega
  · exact ⟨(Mod (rawV L (rawP L (rawP L (rawP L p)))) 6).toNat,spk1 L p,rawP L (rawP L (rawP L (rawP L p))),by omega,by rw [Int.toNat_of_nonneg h2.1];rfl,rfl⟩
  · rintro _ ⟨k,s,q,hk,rfl,hN⟩
    simp only [Int.toNat_natCast]
    refine ⟨fun h3=>?_,fun h3=>?_⟩
    · obtain ⟨k,rfl⟩:∃j,k=j+1:=⟨k-1,by omega⟩
      rw [W_eq (by omega)]
      exact ⟨⟨k,(stepT L q s).1,(stepT L q s).2,by omega,by simp,hN⟩,by omega⟩
    · have:k=0:=by omega
      subst this
      have hN:(s,q)=spk2 L p:=hN
      have hok:=spk2_ok (L:=L) (p:=p)
      have hT:spkT L p=(⟨(spk2 L p).1.router,(spk2 L p).1.epoch,(spk2 L p).1.last,(spk2 L p).1.items,(perN L (spk2 L p).1.last (spk2 L p).1.peers (spk2 L p).2).1⟩,(perN L (spk2 L p).1.last (spk2 L p).1.peers (spk2 L p).2).2):=rfl
      rw [hT]
      rw [←hN] at hok ⊢
      simp only
      have hlen:=hok.2.2.2.2.1
      have hl:=hok.2.2.1
      simp only at hlen hl
      refine ⟨⟨0,by omega,rfl⟩,?_⟩
      rintro _ ⟨j,hj,rfl⟩
      have hpl:(perN L s.last (s.peers.take j) q).1.length=j:=by rw [perN_len,List.length_take];omega
      simp only [Int.toNat_natCast]
      refine ⟨fun h4=>?_,fun h4=>?_⟩
      · have hj2:j<s.peers.length:=by omega
        have hx:s.peers[j]?=some s.peers[j]:=List.getElem?_eq_getElem hj2
        have hd:s.peers.drop j=s.peers[j]::s.peers.drop (j+1):=List.drop_eq_getElem_cons hj2
        generalize s.peers[j]=x at *
        have ht:perN L s.last (s.peers.take (j+1)) q=((perN L s.last (s.peers.take j) q).1++[(per1 L s.last x (perN L s.last (s.peers.take j) q).2).1],(per1 L s.last x (perN L s.last (s.peers.take j) q).2).2):=by
          rw [take_succ hx,perN_append];rfl
        rw [hd]
        generalize perN L s.last (s.peers.take j) q=z at *
        rw [W_succ (n:=s.peers.length) (by omega) (by omega)]
        have b1:∀y:Per,(z.1++y::s.peers.drop (j+1)).length=s.peers.length:=fun y=>by simp [hpl];omega
        refine ⟨fun h5=>?_,fun h5=>?_⟩
        · have h5:Mod (rawV L z.2) 2=0:=by simpa using h5
          refine ⟨by rw [b1];simp;omega,by rw [b1];omega,fun y2 hy2=>?_⟩
          rw [get_mid hpl] at hy2
          cases hy2
          simp only [set_mid hpl]
          refine ⟨by rw [b1];simp;omega,by rw [b1];omega,fun y3 hy3=>?_⟩
          rw [get_mid hpl] at hy3
          cases hy3
          simp only [set_mid hpl]
          refine ⟨⟨j+1,by omega,?_⟩,by omega⟩
          rw [ht,per1,if_pos h5]
          simp
        · have h5:¬Mod (rawV L z.2) 2=0:=by simpa using h5
          refine ⟨⟨j+1,by omega,?_⟩,by omega⟩
          rw [ht,per1,if_neg h5]
          simp
      · have e:j=s.peers.length:=by omega
        rw [e,List.take_length,List.drop_length,List.append_nil]
def spkT_h(L:(List Int))(p:Nat):HC Tryz.prog:=⟨40,[.k],[.ref 0 0],[.box (.agg [.sl 1 (L.map AV.int) false,.int ((p:Nat):Int)])],spkT_e ((⟨L,(Go.Proofs.YtgnogboljobocaaGreatDoor.spkT L p).2⟩:Tap),(Go.Proofs.YtgnogboljobocaaGreatDoor.spkT L p).1),spkT_b ((⟨L,(Go.Proofs.YtgnogboljobocaaGreatDoor.spkT L p).2⟩:Tap),(Go.Proofs.YtgnogboljobocaaGreatDoor.spkT L p).1),HSpec.of_okh fun ok ok2=>have ok:spkT_a L p:=⟨ok,ok2 _ (by simp)⟩;(spkT_p L p ok).elim fun I0 h=>h.elim fun m0 h=>h.elim fun I1 h=>h.elim fun m1 h=>spkT_ok L p I0 m0 I1 m1 _ h,fnB_ok (by kernel_rfl),HcOk.of (by simp [hcB,belBL,AV.belB,allB,okBk,okBkO,spkT_e,spkT_b,pureBL_map (v:=AV.int) (fun _=>rfl)])⟩
end Go.Proofs.YtgnogboljobocaaGreatDoor

namespace Go.Proofs.YtgnogboljobocaaGreatDoor
open Go Go.Am
set_option linter.unusedVariables false
set_option linter.unusedSimpArgs false
def sigA(L:List Int)(p:Nat):Sig×Nat:=
  let k:=rng L p 1 3
  let p1:=rawP L p
  let s:=rng L p1 1 6
  let p2:=rawP L p1
  let e:=pickI [1,2,3,rng L p2 1 1000000] (rawV L (rawP L p2))
  let p4:=rawP L (rawP L p2)
  let d0:=W (1+Int.tmod (W (s+Mod (rawV L p4) 5)) 6)
  let d:=if d0=s then 99 else d0
  let p5:=rawP L p4
  let v:=pickI [0,1,2,5,rng L p5 0 1000000,1000000] (rawV L (rawP L p5))
  (⟨k,s,d,e,v,0,0,0,0,[]⟩,rawP L (rawP L p5))
def sigB(L:List Int)(x:Sig)(p:Nat):Sig×Nat:=
  if x.kind=2 then
    (⟨x.kind,x.src,x.dst,x.epoch,max 1 x.ver,pickI [0,W (max 1 x.ver-1),Mod (rawV L p) (max 1 x.ver)] (rawV L (rawP L p)),x.pep,rng L (rawP L (rawP L p)) 1 6,
      (filterT L (rawP L (rawP L (rawP L p)))).1.mode,(filterT L (rawP L (rawP L (rawP L p)))).1.srcs⟩,(filterT L (rawP L (rawP L (rawP L p)))).2)
  else if x.kind=3 then (⟨x.kind,x.src,x.dst,pickI [0,x.epoch] (rawV L p),x.ver,x.prev,pickI [1,2,1000000] (rawV L (rawP L p)),x.grp,x.mode,x.srcs⟩,rawP L (rawP L p))
  else (x,p)
def sigT(L:List Int)(p:Nat):Sig×Nat:=sigB L (sigA L p).1 (sigA L p).2
def bentF(L:List Int)(p:Nat)(f:Flt):Flt×Nat:=
  if Mod (rawV L p) 4=0 then (⟨rng L (rawP L p) 0 3,f.srcs⟩,rawP L (rawP L p))
  else if Mod (rawV L p) 4=1 then (⟨f.mode,f.srcs++[pickI [0,1,99,100] (rawV L (rawP L p))]⟩,rawP L (rawP L p))
  else if Mod (rawV L p) 4=2 then (if 0<(f.srcs.length:Int) then ⟨f.mode,f.srcs++[f.srcs.getD 0 0]⟩ else f,rawP L p)
  else if 0<(f.srcs.length:Int) then (⟨f.mode,f.srcs.set 0 (pickI [-1,0,100] (rawV L (rawP L p)))⟩,rawP L (rawP L p)) else (f,rawP L p)
def bentG(L:List Int)(p:Nat)(x:Sig):Sig×Nat:=
  if Mod (rawV L p) 9=0 then ({ x with kind:=rng L (rawP L p) 0 4 },rawP L (rawP L p))
  else if Mod (rawV L p) 9=1 then ({ x with src:=pickI [0,1,99,100,x.dst] (rawV L (rawP L p)) },rawP L (rawP L p))
  else if Mod (rawV L p) 9=2 then ({ x with dst:=pickI [0,99,100] (rawV L (rawP L p)) },rawP L (rawP L p))
  else if Mod (rawV L p) 9=3 then ({ x with epoch:=pickI [-1,0,1000000,1000001] (rawV L (rawP L p)) },rawP L (rawP L p))
  else if Mod (rawV L p) 9=4 then ({ x with ver:=pickI [-1,0,1000000,1000001] (rawV L (rawP L p)) },rawP L (rawP L p))
  else if Mod (rawV L p) 9=5 then ({ x with prev:=pickI [-1,x.ver,W (x.ver-1),1] (rawV L (rawP L p)) },rawP L (rawP L p))
  else if Mod (rawV L p) 9=6 then ({ x with pep:=pickI [0,1,1000001] (rawV L (rawP L p)) },rawP L (rawP L p))
  else if Mod (rawV L p) 9=7 then ({ x with grp:=pickI [0,1,99,100] (rawV L (rawP L p)) },rawP L (rawP L p))
  else ({ x with mode:=(bentF L (rawP L p) ⟨x.mode,x.srcs⟩).1.mode,srcs:=(bentF L (rawP L p) ⟨x.mode,x.srcs⟩).1.srcs },(bentF L (rawP L p) ⟨x.mode,x.srcs⟩).2)
def lsn1(L:List Int):List Sig→Lsn→Nat→Lsn×Nat
  | [],l,p=>(l,p)
  | x::r,l,p=>if Mod (rawV L p) 4=3 then lsn1 L r l (rawP L p) else lsn1 L r (if (hear l x).2=0 then (hear l x).1.1 else l) (rawP L p)
def lsn2(L:List Int)(l:Lsn)(s:Spk)(p:Nat):Lsn×Nat:=
  if s.peers=[] then (l,p) else
    lsn1 L (send s (s.peers.getD (Mod (rawV L p) s.peers.length).toNat ⟨0,0,0⟩).router).1 ⟨(s.peers.getD (Mod (rawV L p) s.peers.length).toNat ⟨0,0,0⟩).router,l.epoch,[]⟩ (rawP L p)
def lsnL(L:List Int):Nat→Lsn→Nat→Lsn×Nat
  | 0,l,p=>(l,p)
  | n+1,l,p=>lsnL L n (lsn2 L l (spkT L p).1 (spkT L p).2).1 (lsn2 L l (spkT L p).1 (spkT L p).2).2
def lsnT(L:List Int)(p:Nat):Lsn×Nat:=
  lsnL L (Mod (rawV L (rawP L (rawP L p))) 3).toNat ⟨rng L p 7 9,pickI [1,2,1000000] (rawV L (rawP L p)),[]⟩ (rawP L (rawP L (rawP L p)))
def smN:List Itm→Int→Int
  | [],n=>n
  | x::r,n=>if n<900 then smN r (W (n+x.srcs.length)) else n
def smallI(l:List Itm):Bool:=decide (smN l l.length≤800)
def smallL(l:Lsn):Bool:=decide ((l.heard.length:Int)≤30) && l.heard.all fun h=>smallI h.items
end Go.Proofs.YtgnogboljobocaaGreatDoor

namespace Go.Proofs.YtgnogboljobocaaGreatDoor
open Go Go.Am
set_option linter.unusedVariables false
set_option linter.unusedSimpArgs false
theorem smN_done{l:List Itm}{n:Int}{k:Nat}(h:¬((k:Int)<l.length∧n<900)):smN (l.drop k) n=n:=by
  by_cases hk:k<l.length
  · rw [List.drop_eq_getElem_cons hk,smN,if_neg (by omega)]
  · rw [List.drop_eq_nil_iff.mpr (by omega),smN]
def smallI_a(l:(List Itm)):Prop:=okL [.sl 4 (l.map Itm.v) false]
def smallI_n0(l:(List Itm))(t0:Int×Int):NF:=⟨[(0,.k,.sl 4 (l.map Itm.v) false),(3,.k,.int t0.1),(4,.k,.int t0.2)],[]⟩
def smallI_n1(l:(List Itm))(t0:Int×Int)(t1:Bool):NF:=⟨[(0,.k,.sl 4 (l.map Itm.v) false),(3,.k,.int t0.1),(4,.k,.int t0.2),(14,.k,.bool t1)],[]⟩
def smallI_s:Nat→Type
  | 0=>Int×Int
  | 1=>Bool
  | _=>Unit
def smallI_e(r:Bool):AV:=.bool r
def smallI_vc(l:(List Itm))(I0:(Int×Int)→Prop)(m0:(Int×Int)→Nat)(I1:Int×Int→Bool→Prop)(r0:Bool):Prop:=
 Be (smallI_n0 l) [] I0 (((l.map Itm.v).length:Int),0)∧∀t0,I0 t0 →
 (br (decide (t0.2<((l.map Itm.v).length:Int)))
 (Be (smallI_n1 l t0) [] (I1 t0) (decide (t0.1<900)))
 (Be (smallI_n1 l t0) [] (I1 t0) (false)))∧∀t1:Bool,I1 t0 t1 →
 br t1
 (Rf (l.map Itm.v) (ck (decide (0≤t0.2)) (ck (decide (t0.2<(l.length:Int)))
 (∀x1,l[t0.2.toNat]?=some x1 →
 Bk (smallI_n0 l) [] I0 m0 (W (t0.1+((x1.srcs.map AV.int).length:Int)),W (t0.2+1)) t0))))
 (Rp smallI_e (decide (t0.1≤800)) r0)
theorem smallI_ok(l:(List Itm))(I0:(Int×Int)→Prop)(m0:(Int×Int)→Nat)(I1:Int×Int→Bool→Prop)(r0:Bool)(h:smallI_vc l I0 m0 I1 r0):PSpec Tryz.prog 117 [.sl 4 (l.map Itm.v) false] (smallI_e r0):=mxP_of (sh:=.k) (a:=((.loop 0 (smallI_n0 l) (I0) (m0) ((((l.map Itm.v).length:Int),0):Int×Int) [] fun (t0:Int×Int) =>
 (.pass (.join 1 (smallI_n1 l t0) (fun t1=>I1 t0 t1) (.br 80 (.back 1 ((decide (t0.1<900)):Bool) [])
 (.back 1 ((false):Bool) [])) fun (t1:Bool) =>
 (.br 0 (.el 48 Itm.v l fun x1 =>
 (.back 0 ((W (t0.1+((x1.srcs.map AV.int).length:Int)),W (t0.2+1)):Int×Int) []))
 (.ret (decide (t0.1≤800))))))):An Tryz.prog smallI_s (Bool))) h (by kernel_rfl) (AV.pureB_ok rfl)
theorem smallI_p(l:List Itm)(ok:smallI_a l):∃I0 m0 I1,smallI_vc l I0 m0 I1 (smallI l):=by
  refine ⟨fun t=>∃k:Nat,t.2=k∧k≤l.length∧smN (l.drop k) t.1=smN l l.length,fun t=>l.length-t.2.toNat,fun t x=>x=decide (t.2<l.length∧t.1<900),?_⟩
  have hle:l.length≤9223372036854775807:=by
    have h:=ok
    simp only [smallI_a,AV.ok,okL,List.length_map,maxLen_eq] at h
    omega
  simp only [smallI_vc,vcU,rfU,List.length_map]
  refine ⟨⟨0,rfl,by omega,rfl⟩,?_⟩
  rintro ⟨n,i⟩ ⟨k,hi,hk,hs⟩
  simp only at hi hs
  subst hi
  simp only
  refine ⟨⟨fun c=>by simp [c],fun c=>by simp [c]⟩,?_⟩
  rintro _ rfl
  refine ⟨fun c=>?_,fun c=>?_⟩
  · have c:(k:Int)<l.length∧n<900:=of_decide_eq_true c
    refine ⟨by omega,by omega,fun x hx=>?_⟩
    rw [W_succ (n:=l.length) (by omega) (by omega)]
    simp only [Int.toNat_natCast] at hx
    refine ⟨⟨k+1,by omega,by omega,?_⟩,by omega⟩
    obtain ⟨hk',rfl⟩:=List.getElem?_eq_some_iff.mp hx
    rw [List.drop_eq_getElem_cons hk',smN,if_pos c.2] at hs
    exact hs
  · have c:¬((k:Int)<l.length∧n<900):=of_decide_eq_false c
    rw [smN_done c] at hs
    rw [hs];rfl
def smallI_c(l:(List Itm)):PC Tryz.prog:=⟨117,[(.s 4)],[.sl 4 (l.map Itm.v) false],smallI_e (smallI l),PSpec.of_ok fun ok=>(smallI_p l ok).elim fun I0 h=>h.elim fun m0 h=>h.elim fun I1 h=>smallI_ok l I0 m0 I1 _ h,fnB_ok (by kernel_rfl)⟩
def bentF_a(L:(List Int))(p:Nat)(f:Flt):Prop:=okL [.ref 0 0,.agg [.int f.mode,.sl 1 (f.srcs.map AV.int) false]]∧(.box (.agg [.sl 1 (L.map AV.int) false,.int ((p:Nat):Int)]):Blk).ok
def bentF_s:Nat→Type
  | _=>Unit
def bentF_e(r:Tap×Flt):AV:=.agg [.int r.2.mode,.sl 1 (r.2.srcs.map AV.int) false]
def bentF_b(r:Tap×Flt):List (Option Blk):=[some (.box (.agg [.sl 1 (r.1.L.map AV.int) false,.int ((r.1.p:Nat):Int)]))]
def bentF_vc(L:(List Int))(p:Nat)(f:Flt)(r0:Tap×Flt):Prop:=
 Rf (α:=List AV) [] (Rf (α:=List AV) (f.srcs.map AV.int)
 (ck (decide (0+f.srcs.length≤1000000))
 (Ch (N_h L p 4) [0] 193
 (br ((Mod (rawV L p) 4)==0)
 (Ch (Range_h L (rawP L p) 0 3) [0] 257
 (Rf (f.srcs.map AV.int) (Qt ⟨[(4,.k,.ref 1 0)],[.box (.agg [.sl 1 (L.map AV.int) false,.int (((rawP L (rawP L p)):Nat):Int)]),.box (.agg [.int (rng L (rawP L p) 0 3),.sl 1 (f.srcs.map AV.int) false])]⟩ [0,17] bentF_e bentF_b ((⟨L,rawP L (rawP L p)⟩:Tap),(⟨rng L (rawP L p) 0 3,f.srcs⟩:Flt)) r0)))
 (br ((Mod (rawV L p) 4)==1)
 (∃h1:[0,1,99,100]≠[],
 Ch (Pick_h L (rawP L p) [0,1,99,100] h1) [0] 337
 (Rf (α:=List AV) (f.srcs.map AV.int) (Rf (α:=List AV) [.int (pickI [0,1,99,100] (rawV L (rawP L p)))]
 (ck (decide (f.srcs.length+1≤1000000))
 (Rf ((f.srcs++[pickI [0,1,99,100] (rawV L (rawP L p))]).map AV.int) (Qt ⟨[(4,.k,.ref 1 0)],[.box (.agg [.sl 1 (L.map AV.int) false,.int (((rawP L (rawP L p)):Nat):Int)]),.box (.agg [.int f.mode,.sl 1 ((f.srcs++[pickI [0,1,99,100] (rawV L (rawP L p))]).map AV.int) false])]⟩ [0,17] bentF_e bentF_b ((⟨L,rawP L (rawP L p)⟩:Tap),(⟨f.mode,f.srcs++[pickI [0,1,99,100] (rawV L (rawP L p))]⟩:Flt)) r0))))))
 (br ((Mod (rawV L p) 4)==2)
 (br (decide (0<((f.srcs.map AV.int).length:Int)))
 (ck (decide (0<((f.srcs.map AV.int).length:Int)))
 (Rf (f.srcs.map AV.int) (ck (decide (0<f.srcs.length))
 (∀x2,f.srcs[0]?=some x2 →
 Rf (α:=List AV) (f.srcs.map AV.int) (Rf (α:=List AV) [.int x2]
 (ck (decide (f.srcs.length+1≤1000000))
 (Rf ((f.srcs++[x2]).map AV.int) (Qt ⟨[(4,.k,.ref 1 0)],[.box (.agg [.sl 1 (L.map AV.int) false,.int (((rawP L p):Nat):Int)]),.box (.agg [.int f.mode,.sl 1 ((f.srcs++[x2]).map AV.int) false])]⟩ [0,17] bentF_e bentF_b ((⟨L,rawP L p⟩:Tap),(⟨f.mode,f.srcs++[x2]⟩:Flt)) r0))))))))
 (Rf (f.srcs.map AV.int) (Qt ⟨[(4,.k,.ref 1 0)],[.box (.agg [.sl 1 (L.map AV.int) false,.int (((rawP L p):Nat):Int)]),.box (.agg [.int f.mode,.sl 1 (f.srcs.map AV.int) false])]⟩ [0,17] bentF_e bentF_b ((⟨L,rawP L p⟩:Tap),f) r0)))
 (br (decide (0<((f.srcs.map AV.int).length:Int)))
 (∃h3:[-1,0,100]≠[],
 Ch (Pick_h L (rawP L p) [-1,0,100] h3) [0] 433
 (ck (decide (0<((f.srcs.map AV.int).length:Int)))
 (Rf (f.srcs.map AV.int) (ck (decide (0<f.srcs.length))
 (∀y4,f.srcs[0]?=some y4→Rf (AV.int (pickI [-1,0,100] (rawV L (rawP L p))))
 (Rf ((f.srcs.set 0 (pickI [-1,0,100] (rawV L (rawP L p)))).map AV.int) (Qt ⟨[(4,.k,.ref 1 0)],[.box (.agg [.sl 1 (L.map AV.int) false,.int (((rawP L (rawP L p)):Nat):Int)]),.box (.agg [.int f.mode,.sl 1 ((f.srcs.set 0 (pickI [-1,0,100] (rawV L (rawP L p)))).map AV.int) false])]⟩ [0,17] bentF_e bentF_b ((⟨L,rawP L (rawP L p)⟩:Tap),(⟨f.mode,f.srcs.set 0 (pickI [-1,0,100] (rawV L (rawP L p)))⟩:Flt)) r0)))))))
 (Rf (f.srcs.map AV.int) (Qt ⟨[(4,.k,.ref 1 0)],[.box (.agg [.sl 1 (L.map AV.int) false,.int (((rawP L p):Nat):Int)]),.box (.agg [.int f.mode,.sl 1 (f.srcs.map AV.int) false])]⟩ [0,17] bentF_e bentF_b ((⟨L,rawP L p⟩:Tap),f) r0)))))))))
theorem bentF_ok(L:(List Int))(p:Nat)(f:Flt)(r0:Tap×Flt)(h:bentF_vc L p f r0):HSpec Tryz.prog 123 [.ref 0 0,.agg [.int f.mode,.sl 1 (f.srcs.map AV.int) false]] [.box (.agg [.sl 1 (L.map AV.int) false,.int ((p:Nat):Int)])] (bentF_e r0) (bentF_b r0):=mxH_of (sh:=(.a [.k,(.s 1)])) (hB:=bentF_b) (a:=((.app 113 AV.int [] f.srcs
 (.callH [0] (N_h L p 4)
 (.br 241 (.callH [0] (Range_h L (rawP L p) 0 3)
 (.cmdL (.frzE 113 (f.srcs.map AV.int) (pureBL_map (fun _=>rfl) f.srcs)) (.retH ((⟨L,rawP L (rawP L p)⟩:Tap),(⟨rng L (rawP L p) 0 3,f.srcs⟩:Flt)) ⟨[(4,.k,.ref 1 0)],[.box (.agg [.sl 1 (L.map AV.int) false,.int (((rawP L (rawP L p)):Nat):Int)]),.box (.agg [.int (rng L (rawP L p) 0 3),.sl 1 (f.srcs.map AV.int) false])]⟩ [0,17])))
 (.br 273 (.req 337 ([0,1,99,100]≠[]) fun h1 =>
 (.callH [0] (Pick_h L (rawP L p) [0,1,99,100] h1)
 (.app 369 AV.int f.srcs [pickI [0,1,99,100] (rawV L (rawP L p))]
 (.cmdL (.frzE 369 ((f.srcs++[pickI [0,1,99,100] (rawV L (rawP L p))]).map AV.int) (pureBL_map (fun _=>rfl) (f.srcs++[pickI [0,1,99,100] (rawV L (rawP L p))]))) (.retH ((⟨L,rawP L (rawP L p)⟩:Tap),(⟨f.mode,f.srcs++[pickI [0,1,99,100] (rawV L (rawP L p))]⟩:Flt)) ⟨[(4,.k,.ref 1 0)],[.box (.agg [.sl 1 (L.map AV.int) false,.int (((rawP L (rawP L p)):Nat):Int)]),.box (.agg [.int f.mode,.sl 1 ((f.srcs++[pickI [0,1,99,100] (rawV L (rawP L p))]).map AV.int) false])]⟩ [0,17])))))
 (.br 305 (.br 369 (.el 449 AV.int f.srcs fun x2 =>
 (.app 481 AV.int f.srcs [x2]
 (.cmdL (.frzE 481 ((f.srcs++[x2]).map AV.int) (pureBL_map (fun _=>rfl) (f.srcs++[x2]))) (.retH ((⟨L,rawP L p⟩:Tap),(⟨f.mode,f.srcs++[x2]⟩:Flt)) ⟨[(4,.k,.ref 1 0)],[.box (.agg [.sl 1 (L.map AV.int) false,.int (((rawP L p):Nat):Int)]),.box (.agg [.int f.mode,.sl 1 ((f.srcs++[x2]).map AV.int) false])]⟩ [0,17]))))
 (.cmdL (.frzE 113 (f.srcs.map AV.int) (pureBL_map (fun _=>rfl) f.srcs)) (.retH ((⟨L,rawP L p⟩:Tap),f) ⟨[(4,.k,.ref 1 0)],[.box (.agg [.sl 1 (L.map AV.int) false,.int (((rawP L p):Nat):Int)]),.box (.agg [.int f.mode,.sl 1 (f.srcs.map AV.int) false])]⟩ [0,17])))
 (.br 369 (.req 433 ([-1,0,100]≠[]) fun h3 =>
 (.callH [0] (Pick_h L (rawP L p) [-1,0,100] h3)
 (.st 465 AV.int f.srcs (fun y4=>(pickI [-1,0,100] (rawV L (rawP L p)))) fun y4 =>
 (.cmdL (.frzE 113 ((f.srcs.set 0 (pickI [-1,0,100] (rawV L (rawP L p)))).map AV.int) (pureBL_map (fun _=>rfl) (f.srcs.set 0 (pickI [-1,0,100] (rawV L (rawP L p)))))) (.retH ((⟨L,rawP L (rawP L p)⟩:Tap),(⟨f.mode,f.srcs.set 0 (pickI [-1,0,100] (rawV L (rawP L p)))⟩:Flt)) ⟨[(4,.k,.ref 1 0)],[.box (.agg [.sl 1 (L.map AV.int) false,.int (((rawP L (rawP L p)):Nat):Int)]),.box (.agg [.int f.mode,.sl 1 ((f.srcs.set 0 (pickI [-1,0,100] (rawV L (rawP L p)))).map AV.int) false])]⟩ [0,17])))))
 (.cmdL (.frzE 113 (f.srcs.map AV.int) (pureBL_map (fun _=>rfl) f.srcs)) (.retH ((⟨L,rawP L p⟩:Tap),f) ⟨[(4,.k,.ref 1 0)],[.box (.agg [.sl 1 (L.map AV.int) false,.int (((rawP L p):Nat):Int)]),.box (.agg [.int f.mode,.sl 1 (f.srcs.map AV.int) false])]⟩ [0,17])))))))):An Tryz.prog bentF_s (Tap×Flt))) h (by kernel_rfl)
theorem bentF_p(L:List Int)(p:Nat)(f:Flt)(h:f.srcs.length≤900000)(ok:bentF_a L p f):bentF_vc L p f ((⟨L,(bentF L p f).2⟩:Tap),(bentF L p f).1):=by
  simp only [bentF_vc,vcU,rfU,List.length_map]
  refine ⟨by omega,fun c=>by simp [bentF,eq_of_beq c],fun c0=>?_⟩
  have c0:¬Mod (rawV L p) 4=0:=by simpa using c0
  refine ⟨fun c=>⟨by simp,by omega,by simp [bentF,eq_of_beq c]⟩,fun c1=>?_⟩
  have c1:¬Mod (rawV L p) 4=1:=by simpa using c1
  refine ⟨fun c=>⟨fun q=>⟨q,by omega,fun x hx=>⟨by omega,?_⟩⟩,fun q=>?_⟩,fun c2=>?_⟩
  · have c:=eq_of_beq c
    have hx:f.srcs.getD 0 0=x:=by rw [List.getD_eq_getElem?_getD,hx];rfl
    rw [bentF,if_neg c0,if_neg c1,if_pos c,if_pos q,hx]
  · have c:=eq_of_beq c
    rw [bentF,if_neg c0,if_neg c1,if_pos c,if_neg q]
  have c2:¬Mod (rawV L p) 4=2:=by simpa using c2
  refine ⟨fun q=>⟨by simp,q,by omega,fun x hx=>?_⟩,fun q=>?_⟩
  · rw [bentF,if_neg c0,if_neg c1,if_neg c2,if_pos q]
  · rw [bentF,if_neg c0,if_neg c1,if_neg c2,if_neg q]
def bentF_h(L:(List Int))(p:Nat)(f:Flt)(h:f.srcs.length≤900000):HC Tryz.prog:=⟨123,[.k,(.a [.k,(.s 1)])],[.ref 0 0,.agg [.int f.mode,.sl 1 (f.srcs.map AV.int) false]],[.box (.agg [.sl 1 (L.map AV.int) false,.int ((p:Nat):Int)])],bentF_e ((⟨L,(bentF L p f).2⟩:Tap),(bentF L p f).1),bentF_b ((⟨L,(bentF L p f).2⟩:Tap),(bentF L p f).1),HSpec.of_okh fun ok ok2=>have ok:bentF_a L p f:=⟨ok,ok2 _ (by simp)⟩;bentF_ok L p f _ (bentF_p L p f h ok),fnB_ok (by kernel_rfl),HcOk.of (by simp [hcB,belBL,AV.belB,allB,okBk,okBkO,bentF_e,bentF_b,pureBL_map (v:=AV.int) (fun _=>rfl)])⟩
end Go.Proofs.YtgnogboljobocaaGreatDoor

namespace Go.Proofs.YtgnogboljobocaaGreatDoor
open Go Go.Am
set_option linter.unusedVariables false
set_option linter.unusedSimpArgs false
section
variable {α : Type} {key : α → Int}
theorem posK_keys{β:Type}{key':β→Int}{l:List α}{m:List β}(h:l.map key=m.map key')(r:Int):posK key l r=posK key' m r:=by
  have e1:∀{γ:Type} (k:γ→Int) (l:List γ),posK k l r=(l.map k).findIdx fun y=>!decide (y<r):=fun k l=>by
    unfold posK;rw [List.findIdx_map];rfl
  rw [e1,e1,h]
theorem mem_keys{l:List α}{r:Int}:r∈l.map key↔∃z∈l,key z=r:=by rw [List.mem_map]
theorem getK_mem{l:List α}{r:Int}{d:α}(ho:l.Pairwise fun x y=>key x<key y)(h:r∈l.map key):l.getD (posK key l r) d∈l∧key (l.getD (posK key l r) d)=r:=by
  obtain ⟨z,hz,rfl⟩:=mem_keys.mp h
  rw [atK_eq ho hz]
  exact ⟨hz,rfl⟩
end
theorem nodup_sub{l R:List Int}(h:l.Nodup)(hs:∀x∈l,x∈R):l.length≤R.length:=by
  induction l generalizing R with
  | nil=>simp
  | cons x l ih =>
    rw [List.nodup_cons] at h
    have hx:=hs x (by simp)
    have:=ih (R:=R.erase x) h.2 fun y hy=>by
      have hne:y≠x:=fun e=>h.1 (e ▸ hy)
      exact (List.mem_erase_of_ne hne).mpr (hs y (by simp [hy]))
    rw [List.length_erase_of_mem hx] at this
    have:=List.length_pos_of_mem hx
    simp only [List.length_cons];omega
structure Ovl where
  sp:List Spk
  ls:List Lsn
  fl:List Sig
  deriving DecidableEq
def rtrs(sp:List Spk):List Int:=sp.map Spk.router
def posS(l:List Spk)(r:Int):Nat:=l.findIdx fun p=>!decide (p.router<r)
def atS(sp:List Spk)(r:Int):Spk:=sp.getD (posS sp r) spk0
def atL(sp:List Spk)(ls:List Lsn)(r:Int):Lsn:=ls.getD (posS sp r) lsn0
def spOk(R:List Int)(s:Spk):Prop:=spkOk s∧s.peers.map Per.router=R.filter fun r=>decide (r≠s.router)
def lnOk(R:List Int)(l:Lsn):Prop:=lsnOk l∧∀h∈l.heard,h.router∈R
structure NetOk (R:List Int) (sp:List Spk) (ls:List Lsn):Prop where
  len:R.length≤12
  spr:sp.map Spk.router=R
  lsr:ls.map Lsn.router=R
  asc:sp.Pairwise fun x y=>x.router<y.router
  spo:∀s∈sp,spOk R s
  lso:∀l∈ls,lnOk R l
def sigIn(R:List Int)(x:Sig):Prop:=sigErr x=0∧x.src∈R∧x.dst∈R
def ovlOk(o:Ovl):Prop:=NetOk (rtrs o.sp) o.sp o.ls∧∀x∈o.fl,sigIn (rtrs o.sp) x
section
variable {R : List Int} {sp : List Spk} {ls : List Lsn}
theorem NetOk.ascR(h:NetOk R sp ls):R.Pairwise (·<·):=by rw [←h.spr,List.pairwise_map];exact h.asc
theorem NetOk.ascL(h:NetOk R sp ls):ls.Pairwise fun x y=>x.router<y.router:=by
  have:=h.ascR;rw [←h.lsr,List.pairwise_map] at this;exact this
theorem NetOk.posL(h:NetOk R sp ls)(r:Int):posS sp r=posK Lsn.router ls r:=posK_keys (key:=Spk.router) (key':=Lsn.router) (h.spr.trans h.lsr.symm) r
theorem NetOk.s(h:NetOk R sp ls){r:Int}(hr:r∈R):atS sp r∈sp∧(atS sp r).router=r:=getK_mem (key:=Spk.router) h.asc (by rw [h.spr];exact hr)
theorem NetOk.l(h:NetOk R sp ls){r:Int}(hr:r∈R):atL sp ls r∈ls∧(atL sp ls r).router=r:=by
  unfold atL;rw [h.posL]
  exact getK_mem (key:=Lsn.router) h.ascL (by rw [h.lsr];exact hr)
end
def isTell(a b:Int)(x:Sig):Bool:=decide (x.kind≠3∧x.src=a∧x.dst=b)
def isAck(a b:Int)(x:Sig):Bool:=decide (x.kind=3∧x.dst=a∧x.src=b)
def sends1(s:Spk):List Sig:=s.peers.flatMap fun p=>(send s p.router).1
def sends(sp:List Spk):List Sig:=sp.flatMap sends1
end Go.Proofs.YtgnogboljobocaaGreatDoor

namespace Go.Proofs.YtgnogboljobocaaGreatDoor
open Go Go.Am
set_option linter.unusedVariables false
set_option linter.unusedSimpArgs false
structure Fau where
  kind:Int
  pos:Int
def arrK(l late:List Sig)(k:Int)(n:Nat)(x:Sig):List Sig×List Sig:=
  if k=1 then (l.take n++l.drop (n+1),late)
  else if k=2 then (l.take n++[x,x]++l.drop (n+1),late)
  else if k=3 then (l.take n++l.drop (n+1),late++[x])
  else if k=4 then (if n+1<l.length then ((l.set n (l.getD (n+1) sig0)).set (n+1) x,late) else (l,late))
  else (l,late)
def arr1(s:List Sig×List Sig)(f:Fau):List Sig×List Sig:=
  if f.pos<0∨(s.1.length:Int)≤f.pos then s else arrK s.1 s.2 f.kind f.pos.toNat (s.1.getD f.pos.toNat sig0)
def arr(l:List Sig)(f:List Fau):List Sig×List Sig:=f.foldl arr1 (l,[])
instance (R:List Int) (s:Spk):Decidable (spOk R s):=by unfold spOk;exact inferInstance
instance (R:List Int) (l:Lsn):Decidable (lnOk R l):=by unfold lnOk;exact inferInstance
instance (R:List Int) (x:Sig):Decidable (sigIn R x):=by unfold sigIn;exact inferInstance
instance (R:List Int) (sp:List Spk) (ls:List Lsn):Decidable (NetOk R sp ls):=
  decidable_of_iff (R.length≤12∧sp.map Spk.router=R∧ls.map Lsn.router=R∧(sp.Pairwise fun x y=>x.router<y.router)∧(∀s∈sp,spOk R s)∧∀l∈ls,lnOk R l)
    ⟨fun ⟨a,b,c,d,e,f⟩=>⟨a,b,c,d,e,f⟩,fun ⟨a,b,c,d,e,f⟩=>⟨a,b,c,d,e,f⟩⟩
instance (o:Ovl):Decidable (ovlOk o):=by unfold ovlOk;exact inferInstance
def ep(o:Ovl)(a:Int):Int:=(atS o.sp a).epoch
def la(o:Ovl)(a:Int):Int:=(atS o.sp a).last
def it(o:Ovl)(a:Int):List Itm:=(atS o.sp a).items
def pe(o:Ovl)(a b:Int):Per:=pOf (atS o.sp a).peers b
def le(o:Ovl)(b:Int):Int:=(atL o.sp o.ls b).epoch
def he(o:Ovl)(a b:Int):Hrd:=gOf (atL o.sp o.ls b).heard a
def tells(o:Ovl)(a b:Int):List Sig:=o.fl.filter (isTell a b)
def acks(o:Ovl)(a b:Int):List Sig:=o.fl.filter (isAck a b)
section
variable {e n : Int} {its : List Itm} {p : Per} {le : Int} {g : Hrd}
def Tells(e n:Int)(its:List Itm)(l:List Sig):Prop:=∀x∈l,sigErr x=0∧x.kind≠3∧TellOk e n its x
def AcksOk(e le:Int)(g:Hrd)(l:List Sig):Prop:=∀x∈l,sigErr x=0∧AckOk e le g x
end
structure OI (R:List Int) (o:Ovl):Prop where
  net:NetOk R o.sp o.ls
  fl:∀x∈o.fl,sigIn R x
  pi:∀a∈R,∀b∈R,a≠b→PI (ep o a) (la o a) (it o a) (pe o a b) (le o b) (he o a b)
  tell:∀a∈R,∀b∈R,a≠b→Tells (ep o a) (la o a) (it o a) (tells o a b)
  ack:∀a∈R,∀b∈R,a≠b→AcksOk (ep o a) (le o b) (he o a b) (acks o a b)
theorem OI.ok{R:List Int}{o:Ovl}(h:OI R o):ovlOk o:=by
  have e:rtrs o.sp=R:=h.net.spr
  exact ⟨by rw [e];exact h.net,by rw [e];exact h.fl⟩
section
variable {R : List Int} {o : Ovl}
variable {a b : Int}
end
end Go.Proofs.YtgnogboljobocaaGreatDoor

namespace Go.Proofs.YtgnogboljobocaaGreatDoor
open Go Go.Am
set_option linter.unusedVariables false
set_option linter.unusedSimpArgs false
section
variable {R : List Int} {sp : List Spk} {ls : List Lsn}
end
instance (s:Spk) (l:Lsn):Decidable (agree s l):=by unfold agree;exact inferInstance
theorem OI.agree{R:List Int}{o:Ovl}(h:OI R o){a b:Int}(ha:a∈R)(hb:b∈R)(hab:a≠b)(hg:(he o a b).epoch=ep o a∧(he o a b).ver=la o a) :
    Go.Proofs.YtgnogboljobocaaGreatDoor.agree (atS o.sp a) (atL o.sp o.ls b):=by
  obtain ⟨q1,q2⟩:=h.net.s ha
  obtain ⟨m1,m2⟩:=h.net.l hb
  have hp:=h.pi a ha b hb hab
  unfold he ep la it pe le at *
  exact (Done.agree (q:=b) (h.net.spo _ q1).1 (h.net.lso _ m1).1 (by rw [q2];exact hp) (by rw [q2];exact hg)).1
end Go.Proofs.YtgnogboljobocaaGreatDoor

namespace Go.Proofs.YtgnogboljobocaaGreatDoor
open Go Go.Am
set_option linter.unusedVariables false
set_option linter.unusedSimpArgs false
section
variable {l : List Int}
end
theorem flat_len{α β:Type}{f:α→List β}{k:Nat}:∀{l:List α},(∀x∈l,(f x).length≤k)→(l.flatMap f).length≤l.length * k
  | [],_=>by simp
  | x::l,h=>by
    have h1:=h x (by simp)
    have h2:=flat_len (l:=l) fun y hy=>h y (by simp [hy])
    rw [List.flatMap_cons,List.length_append,List.length_cons,Nat.succ_mul];omega
theorem sendFrom_le{s:Spk}{to acked:Int}:∀{r:List Itm} {prev:Int},(sendFrom s to acked prev r).length≤r.length
  | [],_=>by simp [sendFrom]
  | y::r,prev=>by
    have:=sendFrom_le (s:=s) (to:=to) (acked:=acked) (r:=r) (prev:=y.ver)
    rw [sendFrom]
    split<;>simp only [List.length_append,List.length_cons,List.length_nil]<;>omega
theorem ver_len{l:List Itm}{n:Int}(h:itmsOk n l):l.length≤99:=by
  have hn:(l.map Itm.grp).Nodup:=h.2.1
  have:=nodup_sub hn (R:=(List.range 99).map fun i:Nat=>(i:Int)+1) fun x hx=>by
    obtain ⟨y,hy,rfl⟩:=List.mem_map.mp hx
    have:=(h.1 y hy).2.1
    rw [List.mem_map]
    exact ⟨(y.grp-1).toNat,by rw [List.mem_range];omega,by omega⟩
  simpa using this
theorem send_le{s:Spk}{to:Int}:(send s to).1.length≤100:=by
  unfold send
  split
  · simp
  split
  · simp
  rename_i h _
  have:=ver_len (Classical.not_not.mp h).2.2.2.1
  simp only [List.length_cons]
  have h2:=sendFrom_le (s:=s) (to:=to) (acked:=(pOf s.peers to).acked) (r:=s.items) (prev:=0)
  have h3:∀ak,(sendFrom s to ak 0 s.items).length≤s.items.length:=fun _=>sendFrom_le
  have:=h3 (s.peers.getD (posP s.peers to) ⟨0,0,0⟩).acked
  omega
section
variable {R : List Int} {o : Ovl}
end
section
variable {R : List Int} {o : Ovl} {L : List Int}
end
end Go.Proofs.YtgnogboljobocaaGreatDoor

namespace Go.Proofs.YtgnogboljobocaaGreatDoor
open Go Go.Am
set_option linter.unusedVariables false
set_option linter.unusedSimpArgs false
theorem maxI_eq{a b:Int}:maxI a b=max a b:=by unfold maxI;split<;>omega
def smallL_a(l:Lsn):Prop:=okL [.agg [.int l.router,.int l.epoch,.sl 4 (l.heard.map Hrd.v) false]]
def smallL_n0(l:Lsn)(t0:Int):NF:=⟨[(1,.k,.ref 0 0),(10,.k,.int ((l.heard.map Hrd.v).length:Int)),(11,.k,.int t0)],[.box (.agg [.int l.router,.int l.epoch,.sl 4 (l.heard.map Hrd.v) false])]⟩
def smallL_s:Nat→Type
  | 0=>Int
  | _=>Unit
def smallL_e(r:Bool):AV:=.bool r
def smallL_vc(l:Lsn)(I0:Int→Prop)(m0:Int→Nat)(r0:Bool):Prop:=
 br (decide (30<((l.heard.map Hrd.v).length:Int)))
 (Rp smallL_e (false) r0)
 (Be (smallL_n0 l) [0] I0 (0)∧∀t0,I0 t0 →
 br (decide (t0<((l.heard.map Hrd.v).length:Int)))
 (Rf (l.heard.map Hrd.v) (ck (decide (0≤t0)) (ck (decide (t0<(l.heard.length:Int)))
 (∀x1,l.heard[t0.toNat]?=some x1 →
 Cl (smallI_c x1.items)
 (br (!(smallI x1.items))
 (Rp smallL_e (false) r0)
 (Bk (smallL_n0 l) [0] I0 m0 (W (t0+1)) t0))))))
 (Rp smallL_e (true) r0))
theorem smallL_ok(l:Lsn)(I0:Int→Prop)(m0:Int→Nat)(r0:Bool)(h:smallL_vc l I0 m0 r0):PSpec Tryz.prog 38 [.agg [.int l.router,.int l.epoch,.sl 4 (l.heard.map Hrd.v) false]] (smallL_e r0):=mxP_of (sh:=.k) (a:=((.br 96 (.ret (false))
 (.loop 0 (smallL_n0 l) (I0) (m0) ((0):Int) [0] fun (t0:Int) =>
 (.br 17 (.el 97 Hrd.v l.heard fun x1 =>
 (.callP (smallI_c x1.items)
 (.br 177 (.ret (false))
 (.back 0 ((W (t0+1)):Int) [0]))))
 (.ret (true))))):An Tryz.prog smallL_s (Bool))) h (by kernel_rfl) (AV.pureB_ok rfl)
theorem smallL_p(l:Lsn)(ok:smallL_a l):∃I m,smallL_vc l I m (smallL l):=by
  refine ⟨fun t=>∃k:Nat,t=k∧k≤l.heard.length∧(l.heard.take k).all (fun h=>smallI h.items)=true,fun t=>l.heard.length-t.toNat,?_⟩
  simp only [smallL_vc,vcU,rfU,List.length_map]
  refine ⟨fun c=>?_,fun c=>⟨⟨0,rfl,by omega,rfl⟩,?_⟩⟩
  · unfold smallL
    rw [decide_eq_false (by omega)];rfl
  rintro _ ⟨k,rfl,hk,h⟩
  simp only [Int.toNat_natCast]
  refine ⟨fun h1=>⟨by omega,by omega,fun x hx=>⟨fun d=>?_,fun d=>?_⟩⟩,fun h1=>?_⟩
  · have d:smallI x.items=false:=by simpa using d
    unfold smallL
    rw [decide_eq_true (by omega)]
    refine (Bool.eq_false_iff.mpr fun q=>?_).symm
    rw [Bool.and_eq_true,List.all_eq_true] at q
    have:=q.2 x (mem_of_get hx)
    rw [d] at this
    exact Bool.noConfusion this
  · have d:smallI x.items=true:=by simpa using d
    rw [W_succ (n:=l.heard.length) (by omega) (by omega)]
    refine ⟨⟨k+1,rfl,by omega,?_⟩,by omega⟩
    obtain ⟨hk',rfl⟩:=List.getElem?_eq_some_iff.mp hx
    rw [List.take_succ_eq_append_getElem hk',List.all_append,h]
    simp [d]
  · rw [List.take_of_length_le (by omega)] at h
    unfold smallL
    rw [decide_eq_true (by omega),h];rfl
def smallL_c(l:Lsn):PC Tryz.prog:=⟨38,[(.a [.k,.k,(.s 4)])],[.agg [.int l.router,.int l.epoch,.sl 4 (l.heard.map Hrd.v) false]],smallL_e (smallL l),PSpec.of_ok fun ok=>(smallL_p l ok).elim fun I0 h=>h.elim fun m0 h=>smallL_ok l I0 m0 _ h,fnB_ok (by kernel_rfl)⟩
def sigT_a(L:(List Int))(p:Nat):Prop:=okL [.ref 0 0]∧(.box (.agg [.sl 1 (L.map AV.int) false,.int ((p:Nat):Int)]):Blk).ok
def sigT_n0(L:(List Int))(p:Nat)(t0:Sig):NF:=⟨[(0,.k,.ref 0 0),(2,.k,.ref 1 0),(3,.k,.ref 2 0)],[.box (.agg [.sl 1 (L.map AV.int) false,.int (((rawP L (rawP L (rawP L (rawP L (rawP L p))))):Nat):Int)]),.box (.agg [.int 0,.int 0,.int 0,.int 0,.int 0,.int 0,.int 0,.int 0,.int 0,.sl 0 [] true]),.box (.agg [.int t0.kind,.int t0.src,.int t0.dst,.int t0.epoch,.int t0.ver,.int t0.prev,.int t0.pep,.int t0.grp,.int t0.mode,.sl 1 (t0.srcs.map AV.int) false])]⟩
def sigT_s:Nat→Type
  | 0=>Sig
  | _=>Unit
def sigT_e(r:Tap×Sig):AV:=.agg [.int r.2.kind,.int r.2.src,.int r.2.dst,.int r.2.epoch,.int r.2.ver,.int r.2.prev,.int r.2.pep,.int r.2.grp,.int r.2.mode,.sl 1 (r.2.srcs.map AV.int) false]
def sigT_b(r:Tap×Sig):List (Option Blk):=[some (.box (.agg [.sl 1 (r.1.L.map AV.int) false,.int ((r.1.p:Nat):Int)]))]
def sigT_vc(L:(List Int))(p:Nat)(I0:Sig→Prop)(r0:Tap×Sig):Prop:=
 Ch (Range_h L p 1 3) [0] 33
 (Ch (Range_h L (rawP L p) 1 6) [0] 65
 (Ch (Range_h L (rawP L (rawP L p)) 1 1000000) [0] 113
 (∃h1:[1,2,3,rng L (rawP L (rawP L p)) 1 1000000]≠[],
 Ch (Pick_h L (rawP L (rawP L (rawP L p))) [1,2,3,rng L (rawP L (rawP L p)) 1 1000000] h1) [0] 145
 (Ch (N_h L (rawP L (rawP L (rawP L (rawP L p)))) 5) [0] 257
 ((br ((W (1+((W ((rng L (rawP L p) 1 6)+(Mod (rawV L (rawP L (rawP L (rawP L (rawP L p))))) 5))).tmod 6)))==(rng L (rawP L p) 1 6))
 (Be (sigT_n0 L p) [0,1,177] I0 ((⟨rng L p 1 3,rng L (rawP L p) 1 6,99,pickI [1,2,3,rng L (rawP L (rawP L p)) 1 1000000] (rawV L (rawP L (rawP L (rawP L p)))),0,0,0,0,0,[]⟩:Sig)))
 (Be (sigT_n0 L p) [0,1,177] I0 ((⟨rng L p 1 3,rng L (rawP L p) 1 6,W (1+((W ((rng L (rawP L p) 1 6)+(Mod (rawV L (rawP L (rawP L (rawP L (rawP L p))))) 5))).tmod 6)),pickI [1,2,3,rng L (rawP L (rawP L p)) 1 1000000] (rawV L (rawP L (rawP L (rawP L p)))),0,0,0,0,0,[]⟩:Sig))))∧∀t0:Sig,I0 t0 →
 Ch (Range_h L (rawP L (rawP L (rawP L (rawP L (rawP L p))))) 0 1000000) [0] 35
 (∃h2:[0,1,2,5,rng L (rawP L (rawP L (rawP L (rawP L (rawP L p))))) 0 1000000,1000000]≠[],
 Ch (Pick_h L (rawP L (rawP L (rawP L (rawP L (rawP L (rawP L p)))))) [0,1,2,5,rng L (rawP L (rawP L (rawP L (rawP L (rawP L p))))) 0 1000000,1000000] h2) [0] 67
 (br (t0.kind==2)
 (Ch (N_h L (rawP L (rawP L (rawP L (rawP L (rawP L (rawP L (rawP L p))))))) (maxI 1 (pickI [0,1,2,5,rng L (rawP L (rawP L (rawP L (rawP L (rawP L p))))) 0 1000000,1000000] (rawV L (rawP L (rawP L (rawP L (rawP L (rawP L (rawP L p)))))))))) [0] 371
 (∃h3:[0,W ((maxI 1 (pickI [0,1,2,5,rng L (rawP L (rawP L (rawP L (rawP L (rawP L p))))) 0 1000000,1000000] (rawV L (rawP L (rawP L (rawP L (rawP L (rawP L (rawP L p)))))))))-1),Mod (rawV L (rawP L (rawP L (rawP L (rawP L (rawP L (rawP L (rawP L p)))))))) (maxI 1 (pickI [0,1,2,5,rng L (rawP L (rawP L (rawP L (rawP L (rawP L p))))) 0 1000000,1000000] (rawV L (rawP L (rawP L (rawP L (rawP L (rawP L (rawP L p)))))))))]≠[],
 Ch (Pick_h L (rawP L (rawP L (rawP L (rawP L (rawP L (rawP L (rawP L (rawP L p)))))))) [0,W ((maxI 1 (pickI [0,1,2,5,rng L (rawP L (rawP L (rawP L (rawP L (rawP L p))))) 0 1000000,1000000] (rawV L (rawP L (rawP L (rawP L (rawP L (rawP L (rawP L p)))))))))-1),Mod (rawV L (rawP L (rawP L (rawP L (rawP L (rawP L (rawP L (rawP L p)))))))) (maxI 1 (pickI [0,1,2,5,rng L (rawP L (rawP L (rawP L (rawP L (rawP L p))))) 0 1000000,1000000] (rawV L (rawP L (rawP L (rawP L (rawP L (rawP L (rawP L p)))))))))] h3) [0] 403
 (Ch (Range_h L (rawP L (rawP L (rawP L (rawP L (rawP L (rawP L (rawP L (rawP L (rawP L p))))))))) 1 6) [0] 467
 (Ch (filterT_h L (rawP L (rawP L (rawP L (rawP L (rawP L (rawP L (rawP L (rawP L (rawP L (rawP L p))))))))))) [0] 531
 (Qt ⟨[(2,.k,.ref 1 0)],[.box (.agg [.sl 1 (L.map AV.int) false,.int ((((filterT L (rawP L (rawP L (rawP L (rawP L (rawP L (rawP L (rawP L (rawP L (rawP L (rawP L p))))))))))).2):Nat):Int)]),.box (.agg [.int t0.kind,.int t0.src,.int t0.dst,.int t0.epoch,.int (maxI 1 (pickI [0,1,2,5,rng L (rawP L (rawP L (rawP L (rawP L (rawP L p))))) 0 1000000,1000000] (rawV L (rawP L (rawP L (rawP L (rawP L (rawP L (rawP L p))))))))),.int (pickI [0,W ((maxI 1 (pickI [0,1,2,5,rng L (rawP L (rawP L (rawP L (rawP L (rawP L p))))) 0 1000000,1000000] (rawV L (rawP L (rawP L (rawP L (rawP L (rawP L (rawP L p)))))))))-1),Mod (rawV L (rawP L (rawP L (rawP L (rawP L (rawP L (rawP L (rawP L p)))))))) (maxI 1 (pickI [0,1,2,5,rng L (rawP L (rawP L (rawP L (rawP L (rawP L p))))) 0 1000000,1000000] (rawV L (rawP L (rawP L (rawP L (rawP L (rawP L (rawP L p)))))))))] (rawV L (rawP L (rawP L (rawP L (rawP L (rawP L (rawP L (rawP L (rawP L p)))))))))),.int t0.pep,.int (rng L (rawP L (rawP L (rawP L (rawP L (rawP L (rawP L (rawP L (rawP L (rawP L p))))))))) 1 6),.int (((filterT L (rawP L (rawP L (rawP L (rawP L (rawP L (rawP L (rawP L (rawP L (rawP L (rawP L p))))))))))).1).mode),.sl 1 ((((filterT L (rawP L (rawP L (rawP L (rawP L (rawP L (rawP L (rawP L (rawP L (rawP L (rawP L p))))))))))).1).srcs).map AV.int) false])]⟩ [0,1] sigT_e sigT_b ((⟨L,(filterT L (rawP L (rawP L (rawP L (rawP L (rawP L (rawP L (rawP L (rawP L (rawP L (rawP L p))))))))))).2⟩:Tap),(⟨t0.kind,t0.src,t0.dst,t0.epoch,maxI 1 (pickI [0,1,2,5,rng L (rawP L (rawP L (rawP L (rawP L (rawP L p))))) 0 1000000,1000000] (rawV L (rawP L (rawP L (rawP L (rawP L (rawP L (rawP L p)))))))),pickI [0,W ((maxI 1 (pickI [0,1,2,5,rng L (rawP L (rawP L (rawP L (rawP L (rawP L p))))) 0 1000000,1000000] (rawV L (rawP L (rawP L (rawP L (rawP L (rawP L (rawP L p)))))))))-1),Mod (rawV L (rawP L (rawP L (rawP L (rawP L (rawP L (rawP L (rawP L p)))))))) (maxI 1 (pickI [0,1,2,5,rng L (rawP L (rawP L (rawP L (rawP L (rawP L p))))) 0 1000000,1000000] (rawV L (rawP L (rawP L (rawP L (rawP L (rawP L (rawP L p)))))))))] (rawV L (rawP L (rawP L (rawP L (rawP L (rawP L (rawP L (rawP L (rawP L p))))))))),t0.pep,rng L (rawP L (rawP L (rawP L (rawP L (rawP L (rawP L (rawP L (rawP L (rawP L p))))))))) 1 6,((filterT L (rawP L (rawP L (rawP L (rawP L (rawP L (rawP L (rawP L (rawP L (rawP L (rawP L p))))))))))).1).mode,((filterT L (rawP L (rawP L (rawP L (rawP L (rawP L (rawP L (rawP L (rawP L (rawP L (rawP L p))))))))))).1).srcs⟩:Sig)) r0)))))
 (br (t0.kind==3)
 (∃h4:[0,t0.epoch]≠[],
 Ch (Pick_h L (rawP L (rawP L (rawP L (rawP L (rawP L (rawP L (rawP L p))))))) [0,t0.epoch] h4) [0] 275
 (∃h5:[1,2,1000000]≠[],
 Ch (Pick_h L (rawP L (rawP L (rawP L (rawP L (rawP L (rawP L (rawP L (rawP L p)))))))) [1,2,1000000] h5) [0] 355
 (Qt ⟨[(2,.k,.ref 1 0)],[.box (.agg [.sl 1 (L.map AV.int) false,.int (((rawP L (rawP L (rawP L (rawP L (rawP L (rawP L (rawP L (rawP L (rawP L p))))))))):Nat):Int)]),.box (.agg [.int t0.kind,.int t0.src,.int t0.dst,.int (pickI [0,t0.epoch] (rawV L (rawP L (rawP L (rawP L (rawP L (rawP L (rawP L (rawP L p))))))))),.int (pickI [0,1,2,5,rng L (rawP L (rawP L (rawP L (rawP L (rawP L p))))) 0 1000000,1000000] (rawV L (rawP L (rawP L (rawP L (rawP L (rawP L (rawP L p)))))))),.int t0.prev,.int (pickI [1,2,1000000] (rawV L (rawP L (rawP L (rawP L (rawP L (rawP L (rawP L (rawP L (rawP L p)))))))))),.int t0.grp,.int t0.mode,.sl 1 (t0.srcs.map AV.int) false])]⟩ [0,1] sigT_e sigT_b ((⟨L,rawP L (rawP L (rawP L (rawP L (rawP L (rawP L (rawP L (rawP L (rawP L p))))))))⟩:Tap),(⟨t0.kind,t0.src,t0.dst,pickI [0,t0.epoch] (rawV L (rawP L (rawP L (rawP L (rawP L (rawP L (rawP L (rawP L p)))))))),pickI [0,1,2,5,rng L (rawP L (rawP L (rawP L (rawP L (rawP L p))))) 0 1000000,1000000] (rawV L (rawP L (rawP L (rawP L (rawP L (rawP L (rawP L p))))))),t0.prev,pickI [1,2,1000000] (rawV L (rawP L (rawP L (rawP L (rawP L (rawP L (rawP L (rawP L (rawP L p))))))))),t0.grp,t0.mode,t0.srcs⟩:Sig)) r0)))
 (Qt ⟨[(2,.k,.ref 1 0)],[.box (.agg [.sl 1 (L.map AV.int) false,.int (((rawP L (rawP L (rawP L (rawP L (rawP L (rawP L (rawP L p))))))):Nat):Int)]),.box (.agg [.int t0.kind,.int t0.src,.int t0.dst,.int t0.epoch,.int (pickI [0,1,2,5,rng L (rawP L (rawP L (rawP L (rawP L (rawP L p))))) 0 1000000,1000000] (rawV L (rawP L (rawP L (rawP L (rawP L (rawP L (rawP L p)))))))),.int t0.prev,.int t0.pep,.int t0.grp,.int t0.mode,.sl 1 (t0.srcs.map AV.int) false])]⟩ [0,1] sigT_e sigT_b ((⟨L,rawP L (rawP L (rawP L (rawP L (rawP L (rawP L (rawP L p))))))⟩:Tap),(⟨t0.kind,t0.src,t0.dst,t0.epoch,pickI [0,1,2,5,rng L (rawP L (rawP L (rawP L (rawP L (rawP L p))))) 0 1000000,1000000] (rawV L (rawP L (rawP L (rawP L (rawP L (rawP L (rawP L p))))))),t0.prev,t0.pep,t0.grp,t0.mode,t0.srcs⟩:Sig)) r0)))))))))
theorem sigT_ok(L:(List Int))(p:Nat)(I0:Sig→Prop)(r0:Tap×Sig)(h:sigT_vc L p I0 r0):HSpec Tryz.prog 42 [.ref 0 0] [.box (.agg [.sl 1 (L.map AV.int) false,.int ((p:Nat):Int)])] (sigT_e r0) (sigT_b r0):=mxH_of (sh:=(.a [.k,.k,.k,.k,.k,.k,.k,.k,.k,(.s 1)])) (hB:=sigT_b) (a:=((.callH [0] (Range_h L p 1 3)
 (.callH [0] (Range_h L (rawP L p) 1 6)
 (.callH [0] (Range_h L (rawP L (rawP L p)) 1 1000000)
 (.req 145 ([1,2,3,rng L (rawP L (rawP L p)) 1 1000000]≠[]) fun h1 =>
 (.callH [0] (Pick_h L (rawP L (rawP L (rawP L p))) [1,2,3,rng L (rawP L (rawP L p)) 1 1000000] h1)
 (.callH [0] (N_h L (rawP L (rawP L (rawP L (rawP L p)))) 5)
 (.join 0 (sigT_n0 L p) (fun t0=>I0 t0) (.br 433 (.cmdL (.wkB 177 (.a [.k,.k,.k,.k,.k,.k,.k,.k,.k,.s 1])) (.back 0 (((⟨rng L p 1 3,rng L (rawP L p) 1 6,99,pickI [1,2,3,rng L (rawP L (rawP L p)) 1 1000000] (rawV L (rawP L (rawP L (rawP L p)))),0,0,0,0,0,[]⟩:Sig)):Sig) [0,1,177]))
 (.cmdL (.wkB 177 (.a [.k,.k,.k,.k,.k,.k,.k,.k,.k,.s 1])) (.back 0 (((⟨rng L p 1 3,rng L (rawP L p) 1 6,W (1+((W ((rng L (rawP L p) 1 6)+(Mod (rawV L (rawP L (rawP L (rawP L (rawP L p))))) 5))).tmod 6)),pickI [1,2,3,rng L (rawP L (rawP L p)) 1 1000000] (rawV L (rawP L (rawP L (rawP L p)))),0,0,0,0,0,[]⟩:Sig)):Sig) [0,1,177]))) fun (t0:Sig) =>
 (.callH [0] (Range_h L (rawP L (rawP L (rawP L (rawP L (rawP L p))))) 0 1000000)
 (.req 67 ([0,1,2,5,rng L (rawP L (rawP L (rawP L (rawP L (rawP L p))))) 0 1000000,1000000]≠[]) fun h2 =>
 (.callH [0] (Pick_h L (rawP L (rawP L (rawP L (rawP L (rawP L (rawP L p)))))) [0,1,2,5,rng L (rawP L (rawP L (rawP L (rawP L (rawP L p))))) 0 1000000,1000000] h2)
 (.br 179 (.callH [0] (N_h L (rawP L (rawP L (rawP L (rawP L (rawP L (rawP L (rawP L p))))))) (maxI 1 (pickI [0,1,2,5,rng L (rawP L (rawP L (rawP L (rawP L (rawP L p))))) 0 1000000,1000000] (rawV L (rawP L (rawP L (rawP L (rawP L (rawP L (rawP L p))))))))))
 (.req 403 ([0,W ((maxI 1 (pickI [0,1,2,5,rng L (rawP L (rawP L (rawP L (rawP L (rawP L p))))) 0 1000000,1000000] (rawV L (rawP L (rawP L (rawP L (rawP L (rawP L (rawP L p)))))))))-1),Mod (rawV L (rawP L (rawP L (rawP L (rawP L (rawP L (rawP L (rawP L p)))))))) (maxI 1 (pickI [0,1,2,5,rng L (rawP L (rawP L (rawP L (rawP L (rawP L p))))) 0 1000000,1000000] (rawV L (rawP L (rawP L (rawP L (rawP L (rawP L (rawP L p)))))))))]≠[]) fun h3 =>
 (.callH [0] (Pick_h L (rawP L (rawP L (rawP L (rawP L (rawP L (rawP L (rawP L (rawP L p)))))))) [0,W ((maxI 1 (pickI [0,1,2,5,rng L (rawP L (rawP L (rawP L (rawP L (rawP L p))))) 0 1000000,1000000] (rawV L (rawP L (rawP L (rawP L (rawP L (rawP L (rawP L p)))))))))-1),Mod (rawV L (rawP L (rawP L (rawP L (rawP L (rawP L (rawP L (rawP L p)))))))) (maxI 1 (pickI [0,1,2,5,rng L (rawP L (rawP L (rawP L (rawP L (rawP L p))))) 0 1000000,1000000] (rawV L (rawP L (rawP L (rawP L (rawP L (rawP L (rawP L p)))))))))] h3)
 (.callH [0] (Range_h L (rawP L (rawP L (rawP L (rawP L (rawP L (rawP L (rawP L (rawP L (rawP L p))))))))) 1 6)
 (.callH [0] (filterT_h L (rawP L (rawP L (rawP L (rawP L (rawP L (rawP L (rawP L (rawP L (rawP L (rawP L p)))))))))))
 (.retH ((⟨L,(filterT L (rawP L (rawP L (rawP L (rawP L (rawP L (rawP L (rawP L (rawP L (rawP L (rawP L p))))))))))).2⟩:Tap),(⟨t0.kind,t0.src,t0.dst,t0.epoch,maxI 1 (pickI [0,1,2,5,rng L (rawP L (rawP L (rawP L (rawP L (rawP L p))))) 0 1000000,1000000] (rawV L (rawP L (rawP L (rawP L (rawP L (rawP L (rawP L p)))))))),pickI [0,W ((maxI 1 (pickI [0,1,2,5,rng L (rawP L (rawP L (rawP L (rawP L (rawP L p))))) 0 1000000,1000000] (rawV L (rawP L (rawP L (rawP L (rawP L (rawP L (rawP L p)))))))))-1),Mod (rawV L (rawP L (rawP L (rawP L (rawP L (rawP L (rawP L (rawP L p)))))))) (maxI 1 (pickI [0,1,2,5,rng L (rawP L (rawP L (rawP L (rawP L (rawP L p))))) 0 1000000,1000000] (rawV L (rawP L (rawP L (rawP L (rawP L (rawP L (rawP L p)))))))))] (rawV L (rawP L (rawP L (rawP L (rawP L (rawP L (rawP L (rawP L (rawP L p))))))))),t0.pep,rng L (rawP L (rawP L (rawP L (rawP L (rawP L (rawP L (rawP L (rawP L (rawP L p))))))))) 1 6,((filterT L (rawP L (rawP L (rawP L (rawP L (rawP L (rawP L (rawP L (rawP L (rawP L (rawP L p))))))))))).1).mode,((filterT L (rawP L (rawP L (rawP L (rawP L (rawP L (rawP L (rawP L (rawP L (rawP L (rawP L p))))))))))).1).srcs⟩:Sig)) ⟨[(2,.k,.ref 1 0)],[.box (.agg [.sl 1 (L.map AV.int) false,.int ((((filterT L (rawP L (rawP L (rawP L (rawP L (rawP L (rawP L (rawP L (rawP L (rawP L (rawP L p))))))))))).2):Nat):Int)]),.box (.agg [.int t0.kind,.int t0.src,.int t0.dst,.int t0.epoch,.int (maxI 1 (pickI [0,1,2,5,rng L (rawP L (rawP L (rawP L (rawP L (rawP L p))))) 0 1000000,1000000] (rawV L (rawP L (rawP L (rawP L (rawP L (rawP L (rawP L p))))))))),.int (pickI [0,W ((maxI 1 (pickI [0,1,2,5,rng L (rawP L (rawP L (rawP L (rawP L (rawP L p))))) 0 1000000,1000000] (rawV L (rawP L (rawP L (rawP L (rawP L (rawP L (rawP L p)))))))))-1),Mod (rawV L (rawP L (rawP L (rawP L (rawP L (rawP L (rawP L (rawP L p)))))))) (maxI 1 (pickI [0,1,2,5,rng L (rawP L (rawP L (rawP L (rawP L (rawP L p))))) 0 1000000,1000000] (rawV L (rawP L (rawP L (rawP L (rawP L (rawP L (rawP L p)))))))))] (rawV L (rawP L (rawP L (rawP L (rawP L (rawP L (rawP L (rawP L (rawP L p)))))))))),.int t0.pep,.int (rng L (rawP L (rawP L (rawP L (rawP L (rawP L (rawP L (rawP L (rawP L (rawP L p))))))))) 1 6),.int (((filterT L (rawP L (rawP L (rawP L (rawP L (rawP L (rawP L (rawP L (rawP L (rawP L (rawP L p))))))))))).1).mode),.sl 1 ((((filterT L (rawP L (rawP L (rawP L (rawP L (rawP L (rawP L (rawP L (rawP L (rawP L (rawP L p))))))))))).1).srcs).map AV.int) false])]⟩ [0,1]))))))
 (.br 211 (.req 275 ([0,t0.epoch]≠[]) fun h4 =>
 (.callH [0] (Pick_h L (rawP L (rawP L (rawP L (rawP L (rawP L (rawP L (rawP L p))))))) [0,t0.epoch] h4)
 (.req 355 ([1,2,1000000]≠[]) fun h5 =>
 (.callH [0] (Pick_h L (rawP L (rawP L (rawP L (rawP L (rawP L (rawP L (rawP L (rawP L p)))))))) [1,2,1000000] h5)
 (.retH ((⟨L,rawP L (rawP L (rawP L (rawP L (rawP L (rawP L (rawP L (rawP L (rawP L p))))))))⟩:Tap),(⟨t0.kind,t0.src,t0.dst,pickI [0,t0.epoch] (rawV L (rawP L (rawP L (rawP L (rawP L (rawP L (rawP L (rawP L p)))))))),pickI [0,1,2,5,rng L (rawP L (rawP L (rawP L (rawP L (rawP L p))))) 0 1000000,1000000] (rawV L (rawP L (rawP L (rawP L (rawP L (rawP L (rawP L p))))))),t0.prev,pickI [1,2,1000000] (rawV L (rawP L (rawP L (rawP L (rawP L (rawP L (rawP L (rawP L (rawP L p))))))))),t0.grp,t0.mode,t0.srcs⟩:Sig)) ⟨[(2,.k,.ref 1 0)],[.box (.agg [.sl 1 (L.map AV.int) false,.int (((rawP L (rawP L (rawP L (rawP L (rawP L (rawP L (rawP L (rawP L (rawP L p))))))))):Nat):Int)]),.box (.agg [.int t0.kind,.int t0.src,.int t0.dst,.int (pickI [0,t0.epoch] (rawV L (rawP L (rawP L (rawP L (rawP L (rawP L (rawP L (rawP L p))))))))),.int (pickI [0,1,2,5,rng L (rawP L (rawP L (rawP L (rawP L (rawP L p))))) 0 1000000,1000000] (rawV L (rawP L (rawP L (rawP L (rawP L (rawP L (rawP L p)))))))),.int t0.prev,.int (pickI [1,2,1000000] (rawV L (rawP L (rawP L (rawP L (rawP L (rawP L (rawP L (rawP L (rawP L p)))))))))),.int t0.grp,.int t0.mode,.sl 1 (t0.srcs.map AV.int) false])]⟩ [0,1])))))
 (.retH ((⟨L,rawP L (rawP L (rawP L (rawP L (rawP L (rawP L (rawP L p))))))⟩:Tap),(⟨t0.kind,t0.src,t0.dst,t0.epoch,pickI [0,1,2,5,rng L (rawP L (rawP L (rawP L (rawP L (rawP L p))))) 0 1000000,1000000] (rawV L (rawP L (rawP L (rawP L (rawP L (rawP L (rawP L p))))))),t0.prev,t0.pep,t0.grp,t0.mode,t0.srcs⟩:Sig)) ⟨[(2,.k,.ref 1 0)],[.box (.agg [.sl 1 (L.map AV.int) false,.int (((rawP L (rawP L (rawP L (rawP L (rawP L (rawP L (rawP L p))))))):Nat):Int)]),.box (.agg [.int t0.kind,.int t0.src,.int t0.dst,.int t0.epoch,.int (pickI [0,1,2,5,rng L (rawP L (rawP L (rawP L (rawP L (rawP L p))))) 0 1000000,1000000] (rawV L (rawP L (rawP L (rawP L (rawP L (rawP L (rawP L p)))))))),.int t0.prev,.int t0.pep,.int t0.grp,.int t0.mode,.sl 1 (t0.srcs.map AV.int) false])]⟩ [0,1]))))))))))))):An Tryz.prog sigT_s (Tap×Sig))) h (by kernel_rfl)
theorem sigT_p(L:List Int)(p:Nat)(ok:sigT_a L p):∃I0,sigT_vc L p I0 ((⟨L,(sigT L p).2⟩:Tap),(sigT L p).1):=by
  have h1:=rng_in (L:=L) (p:=rawP L p) (lo:=1) (hi:=6) (by omega)
  have h2:=Mod_range (x:=rawV L (rawP L (rawP L (rawP L (rawP L p))))) (n:=5) (by omega)
  refine ⟨fun x=>x={ (sigA L p).1 with ver:=0 },?_⟩
  simp only [sigT_vc,vcU,rfU,List.length_map]
  simp only [maxI_eq]
  refine ⟨by simp,⟨fun c=>?_,fun c=>?_⟩,?_⟩
  · have c:=eq_of_beq c
    simp [sigA,c]
  · have c:=beq_eq_false_iff_ne.mp c
    simp [sigA,c]
  rintro _ rfl
  refine ⟨by simp,fun c=>⟨by simp,?_⟩,fun c=>⟨fun d=>⟨by simp,by simp,?_⟩,fun d=>?_⟩⟩
  · have c:(sigA L p).1.kind=2:=eq_of_beq c
    unfold sigT sigB;rw [if_pos c];rfl
  · have c:¬(sigA L p).1.kind=2:=beq_eq_false_iff_ne.mp c
    have d:(sigA L p).1.kind=3:=eq_of_beq d
    unfold sigT sigB;rw [if_neg c,if_pos d];rfl
  · have c:¬(sigA L p).1.kind=2:=beq_eq_false_iff_ne.mp c
    have d:¬(sigA L p).1.kind=3:=beq_eq_false_iff_ne.mp d
    unfold sigT sigB;rw [if_neg c,if_neg d];rfl
def sigT_h(L:(List Int))(p:Nat):HC Tryz.prog:=⟨42,[.k],[.ref 0 0],[.box (.agg [.sl 1 (L.map AV.int) false,.int ((p:Nat):Int)])],sigT_e ((⟨L,(sigT L p).2⟩:Tap),(sigT L p).1),sigT_b ((⟨L,(sigT L p).2⟩:Tap),(sigT L p).1),HSpec.of_okh fun ok ok2=>have ok:sigT_a L p:=⟨ok,ok2 _ (by simp)⟩;(sigT_p L p ok).elim fun I0 h=>sigT_ok L p I0 _ h,fnB_ok (by kernel_rfl),HcOk.of (by simp [hcB,belBL,AV.belB,allB,okBk,okBkO,sigT_e,sigT_b,pureBL_map (v:=AV.int) (fun _=>rfl)])⟩
theorem sigT_len{L:List Int}{p:Nat}:(sigT L p).1.srcs.length≤99:=by
  unfold sigT sigB
  have e:(sigA L p).1.srcs=[]:=rfl
  split
  · exact srcs_len (filterT_in L _)
  · split
    · simp [e]
    · simp [e]
def bentG_a(L:(List Int))(p:Nat)(s:Sig):Prop:=okL [.ref 0 0,.agg [.int s.kind,.int s.src,.int s.dst,.int s.epoch,.int s.ver,.int s.prev,.int s.pep,.int s.grp,.int s.mode,.sl 1 (s.srcs.map AV.int) false]]∧(.box (.agg [.sl 1 (L.map AV.int) false,.int ((p:Nat):Int)]):Blk).ok
def bentG_s:Nat→Type
  | _=>Unit
def bentG_e(r:Tap×Sig):AV:=.agg [.int r.2.kind,.int r.2.src,.int r.2.dst,.int r.2.epoch,.int r.2.ver,.int r.2.prev,.int r.2.pep,.int r.2.grp,.int r.2.mode,.sl 1 (r.2.srcs.map AV.int) false]
def bentG_b(r:Tap×Sig):List (Option Blk):=[some (.box (.agg [.sl 1 (r.1.L.map AV.int) false,.int ((r.1.p:Nat):Int)]))]
def bentG_vc(L:(List Int))(p:Nat)(s:Sig)(r0:Tap×Sig):Prop:=
 Rf (α:=List AV) [] (Rf (α:=List AV) (s.srcs.map AV.int)
 (ck (decide (0+s.srcs.length≤1000000))
 (Rf (s.srcs.map AV.int) (Ch (N_h L p 9) [0] 177
 (br ((Mod (rawV L p) 9)==0)
 (Ch (Range_h L (rawP L p) 0 4) [0] 241
 (Qt ⟨[(4,.k,.ref 1 0)],[.box (.agg [.sl 1 (L.map AV.int) false,.int (((rawP L (rawP L p)):Nat):Int)]),.box (.agg [.int (rng L (rawP L p) 0 4),.int s.src,.int s.dst,.int s.epoch,.int s.ver,.int s.prev,.int s.pep,.int s.grp,.int s.mode,.sl 1 (s.srcs.map AV.int) false])]⟩ [0,17] bentG_e bentG_b ((⟨L,rawP L (rawP L p)⟩:Tap),(⟨rng L (rawP L p) 0 4,s.src,s.dst,s.epoch,s.ver,s.prev,s.pep,s.grp,s.mode,s.srcs⟩:Sig)) r0))
 (br ((Mod (rawV L p) 9)==1)
 (∃h1:[0,1,99,100,s.dst]≠[],
 Ch (Pick_h L (rawP L p) [0,1,99,100,s.dst] h1) [0] 321
 (Qt ⟨[(4,.k,.ref 1 0)],[.box (.agg [.sl 1 (L.map AV.int) false,.int (((rawP L (rawP L p)):Nat):Int)]),.box (.agg [.int s.kind,.int (pickI [0,1,99,100,s.dst] (rawV L (rawP L p))),.int s.dst,.int s.epoch,.int s.ver,.int s.prev,.int s.pep,.int s.grp,.int s.mode,.sl 1 (s.srcs.map AV.int) false])]⟩ [0,17] bentG_e bentG_b ((⟨L,rawP L (rawP L p)⟩:Tap),(⟨s.kind,pickI [0,1,99,100,s.dst] (rawV L (rawP L p)),s.dst,s.epoch,s.ver,s.prev,s.pep,s.grp,s.mode,s.srcs⟩:Sig)) r0))
 (br ((Mod (rawV L p) 9)==2)
 (∃h2:[0,99,100]≠[],
 Ch (Pick_h L (rawP L p) [0,99,100] h2) [0] 321
 (Qt ⟨[(4,.k,.ref 1 0)],[.box (.agg [.sl 1 (L.map AV.int) false,.int (((rawP L (rawP L p)):Nat):Int)]),.box (.agg [.int s.kind,.int s.src,.int (pickI [0,99,100] (rawV L (rawP L p))),.int s.epoch,.int s.ver,.int s.prev,.int s.pep,.int s.grp,.int s.mode,.sl 1 (s.srcs.map AV.int) false])]⟩ [0,17] bentG_e bentG_b ((⟨L,rawP L (rawP L p)⟩:Tap),(⟨s.kind,s.src,pickI [0,99,100] (rawV L (rawP L p)),s.epoch,s.ver,s.prev,s.pep,s.grp,s.mode,s.srcs⟩:Sig)) r0))
 (br ((Mod (rawV L p) 9)==3)
 (∃h3:[-1,0,1000000,1000001]≠[],
 Ch (Pick_h L (rawP L p) [-1,0,1000000,1000001] h3) [0] 353
 (Qt ⟨[(4,.k,.ref 1 0)],[.box (.agg [.sl 1 (L.map AV.int) false,.int (((rawP L (rawP L p)):Nat):Int)]),.box (.agg [.int s.kind,.int s.src,.int s.dst,.int (pickI [-1,0,1000000,1000001] (rawV L (rawP L p))),.int s.ver,.int s.prev,.int s.pep,.int s.grp,.int s.mode,.sl 1 (s.srcs.map AV.int) false])]⟩ [0,17] bentG_e bentG_b ((⟨L,rawP L (rawP L p)⟩:Tap),(⟨s.kind,s.src,s.dst,pickI [-1,0,1000000,1000001] (rawV L (rawP L p)),s.ver,s.prev,s.pep,s.grp,s.mode,s.srcs⟩:Sig)) r0))
 (br ((Mod (rawV L p) 9)==4)
 (∃h4:[-1,0,1000000,1000001]≠[],
 Ch (Pick_h L (rawP L p) [-1,0,1000000,1000001] h4) [0] 385
 (Qt ⟨[(4,.k,.ref 1 0)],[.box (.agg [.sl 1 (L.map AV.int) false,.int (((rawP L (rawP L p)):Nat):Int)]),.box (.agg [.int s.kind,.int s.src,.int s.dst,.int s.epoch,.int (pickI [-1,0,1000000,1000001] (rawV L (rawP L p))),.int s.prev,.int s.pep,.int s.grp,.int s.mode,.sl 1 (s.srcs.map AV.int) false])]⟩ [0,17] bentG_e bentG_b ((⟨L,rawP L (rawP L p)⟩:Tap),(⟨s.kind,s.src,s.dst,s.epoch,pickI [-1,0,1000000,1000001] (rawV L (rawP L p)),s.prev,s.pep,s.grp,s.mode,s.srcs⟩:Sig)) r0))
 (br ((Mod (rawV L p) 9)==5)
 (∃h5:[-1,s.ver,W (s.ver-1),1]≠[],
 Ch (Pick_h L (rawP L p) [-1,s.ver,W (s.ver-1),1] h5) [0] 497
 (Qt ⟨[(4,.k,.ref 1 0)],[.box (.agg [.sl 1 (L.map AV.int) false,.int (((rawP L (rawP L p)):Nat):Int)]),.box (.agg [.int s.kind,.int s.src,.int s.dst,.int s.epoch,.int s.ver,.int (pickI [-1,s.ver,W (s.ver-1),1] (rawV L (rawP L p))),.int s.pep,.int s.grp,.int s.mode,.sl 1 (s.srcs.map AV.int) false])]⟩ [0,17] bentG_e bentG_b ((⟨L,rawP L (rawP L p)⟩:Tap),(⟨s.kind,s.src,s.dst,s.epoch,s.ver,pickI [-1,s.ver,W (s.ver-1),1] (rawV L (rawP L p)),s.pep,s.grp,s.mode,s.srcs⟩:Sig)) r0))
 (br ((Mod (rawV L p) 9)==6)
 (∃h6:[0,1,1000001]≠[],
 Ch (Pick_h L (rawP L p) [0,1,1000001] h6) [0] 449
 (Qt ⟨[(4,.k,.ref 1 0)],[.box (.agg [.sl 1 (L.map AV.int) false,.int (((rawP L (rawP L p)):Nat):Int)]),.box (.agg [.int s.kind,.int s.src,.int s.dst,.int s.epoch,.int s.ver,.int s.prev,.int (pickI [0,1,1000001] (rawV L (rawP L p))),.int s.grp,.int s.mode,.sl 1 (s.srcs.map AV.int) false])]⟩ [0,17] bentG_e bentG_b ((⟨L,rawP L (rawP L p)⟩:Tap),(⟨s.kind,s.src,s.dst,s.epoch,s.ver,s.prev,pickI [0,1,1000001] (rawV L (rawP L p)),s.grp,s.mode,s.srcs⟩:Sig)) r0))
 (br ((Mod (rawV L p) 9)==7)
 (∃h7:[0,1,99,100]≠[],
 Ch (Pick_h L (rawP L p) [0,1,99,100] h7) [0] 481
 (Qt ⟨[(4,.k,.ref 1 0)],[.box (.agg [.sl 1 (L.map AV.int) false,.int (((rawP L (rawP L p)):Nat):Int)]),.box (.agg [.int s.kind,.int s.src,.int s.dst,.int s.epoch,.int s.ver,.int s.prev,.int s.pep,.int (pickI [0,1,99,100] (rawV L (rawP L p))),.int s.mode,.sl 1 (s.srcs.map AV.int) false])]⟩ [0,17] bentG_e bentG_b ((⟨L,rawP L (rawP L p)⟩:Tap),(⟨s.kind,s.src,s.dst,s.epoch,s.ver,s.prev,s.pep,pickI [0,1,99,100] (rawV L (rawP L p)),s.mode,s.srcs⟩:Sig)) r0))
 (∃h8:(⟨s.mode,s.srcs⟩:Flt).srcs.length≤900000,
 Ch (bentF_h L (rawP L p) (⟨s.mode,s.srcs⟩:Flt) h8) [0] 497
 (Qt ⟨[(4,.k,.ref 1 0)],[.box (.agg [.sl 1 (L.map AV.int) false,.int ((((bentF L (rawP L p) (⟨s.mode,s.srcs⟩:Flt)).2):Nat):Int)]),.box (.agg [.int s.kind,.int s.src,.int s.dst,.int s.epoch,.int s.ver,.int s.prev,.int s.pep,.int s.grp,.int (((bentF L (rawP L p) (⟨s.mode,s.srcs⟩:Flt)).1).mode),.sl 1 ((((bentF L (rawP L p) (⟨s.mode,s.srcs⟩:Flt)).1).srcs).map AV.int) false])]⟩ [0,17] bentG_e bentG_b ((⟨L,(bentF L (rawP L p) (⟨s.mode,s.srcs⟩:Flt)).2⟩:Tap),(⟨s.kind,s.src,s.dst,s.epoch,s.ver,s.prev,s.pep,s.grp,((bentF L (rawP L p) (⟨s.mode,s.srcs⟩:Flt)).1).mode,((bentF L (rawP L p) (⟨s.mode,s.srcs⟩:Flt)).1).srcs⟩:Sig)) r0))))))))))))))
theorem bentG_ok(L:(List Int))(p:Nat)(s:Sig)(r0:Tap×Sig)(h:bentG_vc L p s r0):HSpec Tryz.prog 43 [.ref 0 0,.agg [.int s.kind,.int s.src,.int s.dst,.int s.epoch,.int s.ver,.int s.prev,.int s.pep,.int s.grp,.int s.mode,.sl 1 (s.srcs.map AV.int) false]] [.box (.agg [.sl 1 (L.map AV.int) false,.int ((p:Nat):Int)])] (bentG_e r0) (bentG_b r0):=mxH_of (sh:=(.a [.k,.k,.k,.k,.k,.k,.k,.k,.k,(.s 1)])) (hB:=bentG_b) (a:=((.app 97 AV.int [] s.srcs
 (.cmd (.frzE 97 (s.srcs.map AV.int) (pureBL_map (fun _=>rfl) s.srcs)) (.callH [0] (N_h L p 9)
 (.br 225 (.callH [0] (Range_h L (rawP L p) 0 4)
 (.retH ((⟨L,rawP L (rawP L p)⟩:Tap),(⟨rng L (rawP L p) 0 4,s.src,s.dst,s.epoch,s.ver,s.prev,s.pep,s.grp,s.mode,s.srcs⟩:Sig)) ⟨[(4,.k,.ref 1 0)],[.box (.agg [.sl 1 (L.map AV.int) false,.int (((rawP L (rawP L p)):Nat):Int)]),.box (.agg [.int (rng L (rawP L p) 0 4),.int s.src,.int s.dst,.int s.epoch,.int s.ver,.int s.prev,.int s.pep,.int s.grp,.int s.mode,.sl 1 (s.srcs.map AV.int) false])]⟩ [0,17]))
 (.br 257 (.req 321 ([0,1,99,100,s.dst]≠[]) fun h1 =>
 (.callH [0] (Pick_h L (rawP L p) [0,1,99,100,s.dst] h1)
 (.retH ((⟨L,rawP L (rawP L p)⟩:Tap),(⟨s.kind,pickI [0,1,99,100,s.dst] (rawV L (rawP L p)),s.dst,s.epoch,s.ver,s.prev,s.pep,s.grp,s.mode,s.srcs⟩:Sig)) ⟨[(4,.k,.ref 1 0)],[.box (.agg [.sl 1 (L.map AV.int) false,.int (((rawP L (rawP L p)):Nat):Int)]),.box (.agg [.int s.kind,.int (pickI [0,1,99,100,s.dst] (rawV L (rawP L p))),.int s.dst,.int s.epoch,.int s.ver,.int s.prev,.int s.pep,.int s.grp,.int s.mode,.sl 1 (s.srcs.map AV.int) false])]⟩ [0,17])))
 (.br 289 (.req 321 ([0,99,100]≠[]) fun h2 =>
 (.callH [0] (Pick_h L (rawP L p) [0,99,100] h2)
 (.retH ((⟨L,rawP L (rawP L p)⟩:Tap),(⟨s.kind,s.src,pickI [0,99,100] (rawV L (rawP L p)),s.epoch,s.ver,s.prev,s.pep,s.grp,s.mode,s.srcs⟩:Sig)) ⟨[(4,.k,.ref 1 0)],[.box (.agg [.sl 1 (L.map AV.int) false,.int (((rawP L (rawP L p)):Nat):Int)]),.box (.agg [.int s.kind,.int s.src,.int (pickI [0,99,100] (rawV L (rawP L p))),.int s.epoch,.int s.ver,.int s.prev,.int s.pep,.int s.grp,.int s.mode,.sl 1 (s.srcs.map AV.int) false])]⟩ [0,17])))
 (.br 321 (.req 353 ([-1,0,1000000,1000001]≠[]) fun h3 =>
 (.callH [0] (Pick_h L (rawP L p) [-1,0,1000000,1000001] h3)
 (.retH ((⟨L,rawP L (rawP L p)⟩:Tap),(⟨s.kind,s.src,s.dst,pickI [-1,0,1000000,1000001] (rawV L (rawP L p)),s.ver,s.prev,s.pep,s.grp,s.mode,s.srcs⟩:Sig)) ⟨[(4,.k,.ref 1 0)],[.box (.agg [.sl 1 (L.map AV.int) false,.int (((rawP L (rawP L p)):Nat):Int)]),.box (.agg [.int s.kind,.int s.src,.int s.dst,.int (pickI [-1,0,1000000,1000001] (rawV L (rawP L p))),.int s.ver,.int s.prev,.int s.pep,.int s.grp,.int s.mode,.sl 1 (s.srcs.map AV.int) false])]⟩ [0,17])))
 (.br 353 (.req 385 ([-1,0,1000000,1000001]≠[]) fun h4 =>
 (.callH [0] (Pick_h L (rawP L p) [-1,0,1000000,1000001] h4)
 (.retH ((⟨L,rawP L (rawP L p)⟩:Tap),(⟨s.kind,s.src,s.dst,s.epoch,pickI [-1,0,1000000,1000001] (rawV L (rawP L p)),s.prev,s.pep,s.grp,s.mode,s.srcs⟩:Sig)) ⟨[(4,.k,.ref 1 0)],[.box (.agg [.sl 1 (L.map AV.int) false,.int (((rawP L (rawP L p)):Nat):Int)]),.box (.agg [.int s.kind,.int s.src,.int s.dst,.int s.epoch,.int (pickI [-1,0,1000000,1000001] (rawV L (rawP L p))),.int s.prev,.int s.pep,.int s.grp,.int s.mode,.sl 1 (s.srcs.map AV.int) false])]⟩ [0,17])))
 (.br 385 (.req 497 ([-1,s.ver,W (s.ver-1),1]≠[]) fun h5 =>
 (.callH [0] (Pick_h L (rawP L p) [-1,s.ver,W (s.ver-1),1] h5)
 (.retH ((⟨L,rawP L (rawP L p)⟩:Tap),(⟨s.kind,s.src,s.dst,s.epoch,s.ver,pickI [-1,s.ver,W (s.ver-1),1] (rawV L (rawP L p)),s.pep,s.grp,s.mode,s.srcs⟩:Sig)) ⟨[(4,.k,.ref 1 0)],[.box (.agg [.sl 1 (L.map AV.int) false,.int (((rawP L (rawP L p)):Nat):Int)]),.box (.agg [.int s.kind,.int s.src,.int s.dst,.int s.epoch,.int s.ver,.int (pickI [-1,s.ver,W (s.ver-1),1] (rawV L (rawP L p))),.int s.pep,.int s.grp,.int s.mode,.sl 1 (s.srcs.map AV.int) false])]⟩ [0,17])))
 (.br 417 (.req 449 ([0,1,1000001]≠[]) fun h6 =>
 (.callH [0] (Pick_h L (rawP L p) [0,1,1000001] h6)
 (.retH ((⟨L,rawP L (rawP L p)⟩:Tap),(⟨s.kind,s.src,s.dst,s.epoch,s.ver,s.prev,pickI [0,1,1000001] (rawV L (rawP L p)),s.grp,s.mode,s.srcs⟩:Sig)) ⟨[(4,.k,.ref 1 0)],[.box (.agg [.sl 1 (L.map AV.int) false,.int (((rawP L (rawP L p)):Nat):Int)]),.box (.agg [.int s.kind,.int s.src,.int s.dst,.int s.epoch,.int s.ver,.int s.prev,.int (pickI [0,1,1000001] (rawV L (rawP L p))),.int s.grp,.int s.mode,.sl 1 (s.srcs.map AV.int) false])]⟩ [0,17])))
 (.br 449 (.req 481 ([0,1,99,100]≠[]) fun h7 =>
 (.callH [0] (Pick_h L (rawP L p) [0,1,99,100] h7)
 (.retH ((⟨L,rawP L (rawP L p)⟩:Tap),(⟨s.kind,s.src,s.dst,s.epoch,s.ver,s.prev,s.pep,pickI [0,1,99,100] (rawV L (rawP L p)),s.mode,s.srcs⟩:Sig)) ⟨[(4,.k,.ref 1 0)],[.box (.agg [.sl 1 (L.map AV.int) false,.int (((rawP L (rawP L p)):Nat):Int)]),.box (.agg [.int s.kind,.int s.src,.int s.dst,.int s.epoch,.int s.ver,.int s.prev,.int s.pep,.int (pickI [0,1,99,100] (rawV L (rawP L p))),.int s.mode,.sl 1 (s.srcs.map AV.int) false])]⟩ [0,17])))
 (.req 497 ((⟨s.mode,s.srcs⟩:Flt).srcs.length≤900000) fun h8 =>
 (.callH [0] (bentF_h L (rawP L p) (⟨s.mode,s.srcs⟩:Flt) h8)
 (.retH ((⟨L,(bentF L (rawP L p) (⟨s.mode,s.srcs⟩:Flt)).2⟩:Tap),(⟨s.kind,s.src,s.dst,s.epoch,s.ver,s.prev,s.pep,s.grp,((bentF L (rawP L p) (⟨s.mode,s.srcs⟩:Flt)).1).mode,((bentF L (rawP L p) (⟨s.mode,s.srcs⟩:Flt)).1).srcs⟩:Sig)) ⟨[(4,.k,.ref 1 0)],[.box (.agg [.sl 1 (L.map AV.int) false,.int ((((bentF L (rawP L p) (⟨s.mode,s.srcs⟩:Flt)).2):Nat):Int)]),.box (.agg [.int s.kind,.int s.src,.int s.dst,.int s.epoch,.int s.ver,.int s.prev,.int s.pep,.int s.grp,.int (((bentF L (rawP L p) (⟨s.mode,s.srcs⟩:Flt)).1).mode),.sl 1 ((((bentF L (rawP L p) (⟨s.mode,s.srcs⟩:Flt)).1).srcs).map AV.int) false])]⟩ [0,17])))))))))))))):An Tryz.prog bentG_s (Tap×Sig))) h (by kernel_rfl)
theorem bentG_p(L:List Int)(p:Nat)(s:Sig)(h:s.srcs.length≤900000)(ok:bentG_a L p s):bentG_vc L p s ((⟨L,(bentG L p s).2⟩:Tap),(bentG L p s).1):=by
  simp only [bentG_vc,vcU,rfU,List.length_map]
  refine ⟨by omega,fun c=>by simp [bentG,eq_of_beq c],fun c0=>?_⟩
  have c0:¬Mod (rawV L p) 9=0:=by simpa using c0
  refine ⟨fun c=>⟨by simp,by simp [bentG,eq_of_beq c]⟩,fun c1=>?_⟩
  have c1:¬Mod (rawV L p) 9=1:=by simpa using c1
  refine ⟨fun c=>⟨by simp,by simp [bentG,eq_of_beq c]⟩,fun c2=>?_⟩
  have c2:¬Mod (rawV L p) 9=2:=by simpa using c2
  refine ⟨fun c=>⟨by simp,by simp [bentG,eq_of_beq c]⟩,fun c3=>?_⟩
  have c3:¬Mod (rawV L p) 9=3:=by simpa using c3
  refine ⟨fun c=>⟨by simp,by simp [bentG,eq_of_beq c]⟩,fun c4=>?_⟩
  have c4:¬Mod (rawV L p) 9=4:=by simpa using c4
  refine ⟨fun c=>⟨by simp,by simp [bentG,eq_of_beq c]⟩,fun c5=>?_⟩
  have c5:¬Mod (rawV L p) 9=5:=by simpa using c5
  refine ⟨fun c=>⟨by simp,by simp [bentG,eq_of_beq c]⟩,fun c6=>?_⟩
  have c6:¬Mod (rawV L p) 9=6:=by simpa using c6
  refine ⟨fun c=>⟨by simp,by simp [bentG,eq_of_beq c]⟩,fun c7=>?_⟩
  have c7:¬Mod (rawV L p) 9=7:=by simpa using c7
  exact ⟨h,by simp only [bentG,if_neg c0,if_neg c1,if_neg c2,if_neg c3,if_neg c4,if_neg c5,if_neg c6,if_neg c7]⟩
def bentG_h(L:(List Int))(p:Nat)(s:Sig)(h:s.srcs.length≤900000):HC Tryz.prog:=⟨43,[.k,(.a [.k,.k,.k,.k,.k,.k,.k,.k,.k,(.s 1)])],[.ref 0 0,.agg [.int s.kind,.int s.src,.int s.dst,.int s.epoch,.int s.ver,.int s.prev,.int s.pep,.int s.grp,.int s.mode,.sl 1 (s.srcs.map AV.int) false]],[.box (.agg [.sl 1 (L.map AV.int) false,.int ((p:Nat):Int)])],bentG_e ((⟨L,(bentG L p s).2⟩:Tap),(bentG L p s).1),bentG_b ((⟨L,(bentG L p s).2⟩:Tap),(bentG L p s).1),HSpec.of_okh fun ok ok2=>have ok:bentG_a L p s:=⟨ok,ok2 _ (by simp)⟩;bentG_ok L p s _ (bentG_p L p s h ok),fnB_ok (by kernel_rfl),HcOk.of (by simp [hcB,belBL,AV.belB,allB,okBk,okBkO,bentG_e,bentG_b,pureBL_map (v:=AV.int) (fun _=>rfl)])⟩
theorem hear_len{l:Lsn}{x:Sig}:(hear l x).1.1.heard.length≤12:=by
  unfold hear
  split
  · simp [lsn0]
  rename_i h
  have h:=Classical.not_not.mp h
  have hl:l.heard.length≤12:=h.2.2.1
  split
  · simp [lsn0]
  split
  · simp [lsn0]
  split
  · simp [lsn0]
  rename_i hr
  simp only [List.length_set]
  unfold base
  split
  · exact hl
  · rename_i c
    have:l.heard.length≠12:=fun e=>hr ⟨c,e⟩
    simp only [insAt,List.length_append,List.length_take,List.length_drop,List.length_cons,List.length_nil]
    omega
theorem lsn1_len{L:List Int}:∀{r:List Sig} {l:Lsn} {p:Nat},l.heard.length≤12→(lsn1 L r l p).1.heard.length≤12
  | [],l,p,h=>h
  | x::r,l,p,h=>by
    rw [lsn1]
    split
    · exact lsn1_len h
    · split
      · exact lsn1_len hear_len
      · exact lsn1_len h
theorem lsnL_len{L:List Int}:∀{n:Nat} {l:Lsn} {p:Nat},l.heard.length≤12→(lsnL L n l p).1.heard.length≤12
  | 0,l,p,h=>h
  | n+1,l,p,h=>by
    rw [lsnL]
    refine lsnL_len ?_
    unfold lsn2
    split
    · exact h
    · exact lsn1_len (by simp)
theorem lsnT_len{L:List Int}{p:Nat}:(lsnT L p).1.heard.length≤12:=lsnL_len (by simp)
def lsnT_a(L:(List Int))(p:Nat):Prop:=okL [.ref 0 0]∧(.box (.agg [.sl 1 (L.map AV.int) false,.int ((p:Nat):Int)]):Blk).ok
def lsnT_n0(L:(List Int))(p:Nat)(t0:Int×Nat×Lsn):NF:=⟨[(0,.k,.ref 0 0),(2,.k,.ref 1 0),(3,.k,.ref 2 0),(4,.k,.int t0.1)],[.box (.agg [.sl 1 (L.map AV.int) false,.int ((t0.2.1:Nat):Int)]),.box (.agg [.int 0,.int 0,.sl 0 [] true]),.box (.agg [.int t0.2.2.router,.int t0.2.2.epoch,.sl 4 (t0.2.2.heard.map Hrd.v) false])]⟩
def lsnT_n1(L:(List Int))(p:Nat)(t0:Int×Nat×Lsn)(x2:Per)(t1:Int×Nat×Lsn):NF:=⟨[(0,.k,.ref 0 0),(2,.k,.ref 1 0),(3,.k,.ref 2 0),(4,.k,.int t0.1),(51,.k,.sl 10 (((send ((spkT L t0.2.1).1) x2.router).1).map Sig.v) false),(52,.k,.int ((((send ((spkT L t0.2.1).1) x2.router).1).map Sig.v).length:Int)),(53,.k,.int t1.1)],[.box (.agg [.sl 1 (L.map AV.int) false,.int ((t1.2.1:Nat):Int)]),.box (.agg [.int 0,.int 0,.sl 0 [] true]),.box (.agg [.int t1.2.2.router,.int t1.2.2.epoch,.sl 4 (t1.2.2.heard.map Hrd.v) false])]⟩
def lsnT_s:Nat→Type
  | 0=>Int×Nat×Lsn
  | 1=>Int×Nat×Lsn
  | _=>Unit
def lsnT_e(r:Tap×Lsn):AV:=.agg [.int r.2.router,.int r.2.epoch,.sl 4 (r.2.heard.map Hrd.v) false]
def lsnT_b(r:Tap×Lsn):List (Option Blk):=[some (.box (.agg [.sl 1 (r.1.L.map AV.int) false,.int ((r.1.p:Nat):Int)]))]
def lsnT_vc(L:(List Int))(p:Nat)(I0:(Int×Nat×Lsn)→Prop)(m0:(Int×Nat×Lsn)→Nat)(I1:Int×Nat×Lsn→Per→(Int×Nat×Lsn)→Prop)(m1:Int×Nat×Lsn→Per→(Int×Nat×Lsn)→Nat)(r0:Tap×Lsn):Prop:=
 Ch (Range_h L p 7 9) [0] 33
 (∃h1:[1,2,1000000]≠[],
 Ch (Pick_h L (rawP L p) [1,2,1000000] h1) [0] 81
 (Ch (N_h L (rawP L (rawP L p)) 3) [0] 161
 (Be (lsnT_n0 L p) [0,1,113] I0 (Mod (rawV L (rawP L (rawP L p))) 3,rawP L (rawP L (rawP L p)),(⟨rng L p 7 9,pickI [1,2,1000000] (rawV L (rawP L p)),[]⟩:Lsn))∧∀t0,I0 t0 →
 br (decide (0<t0.1))
 (Ch (spkT_h L t0.2.1) [0] 51
 (br ((((((spkT L t0.2.1).1).peers).map Per.v).length:Int)==0)
 (Bk (lsnT_n0 L p) [0,1,2] I0 m0 (W (t0.1-1),(spkT L t0.2.1).2,t0.2.2) t0)
 (Ch (N_h L ((spkT L t0.2.1).2) (((((spkT L t0.2.1).1).peers).map Per.v).length:Int)) [0] 259
 (Rf ((((spkT L t0.2.1).1).peers).map Per.v) (ck (decide (0≤(Mod (rawV L ((spkT L t0.2.1).2)) (((((spkT L t0.2.1).1).peers).map Per.v).length:Int)))) (ck (decide ((Mod (rawV L ((spkT L t0.2.1).2)) (((((spkT L t0.2.1).1).peers).map Per.v).length:Int))<((((spkT L t0.2.1).1).peers).length:Int)))
 (∀x2,(((spkT L t0.2.1).1).peers)[(Mod (rawV L ((spkT L t0.2.1).2)) (((((spkT L t0.2.1).1).peers).map Per.v).length:Int)).toNat]?=some x2 →
 Cl (sendR_c ((spkT L t0.2.1).1) x2.router)
 (Be (lsnT_n1 L p t0 x2) [0,1,2] (I1 t0 x2) (0,rawP L ((spkT L t0.2.1).2),(⟨x2.router,t0.2.2.epoch,[]⟩:Lsn))∧∀t1,I1 t0 x2 t1 →
 br (decide (t1.1<((((send ((spkT L t0.2.1).1) x2.router).1).map Sig.v).length:Int)))
 (Rf (((send ((spkT L t0.2.1).1) x2.router).1).map Sig.v) (ck (decide (0≤t1.1)) (ck (decide (t1.1<(((send ((spkT L t0.2.1).1) x2.router).1).length:Int)))
 (∀x3,((send ((spkT L t0.2.1).1) x2.router).1)[t1.1.toNat]?=some x3 →
 Ch (N_h L t1.2.1 4) [0] 99
 (br ((Mod (rawV L t1.2.1) 4)==3)
 (Bk (lsnT_n1 L p t0 x2) [0,1,2] (I1 t0 x2) (m1 t0 x2) (W (t1.1+1),rawP L t1.2.1,t1.2.2) t1)
 (Cl (hearR_c t1.2.2 x3)
 (br (((hear t1.2.2 x3).2)==0)
 (Bk (lsnT_n1 L p t0 x2) [0,1,2] (I1 t0 x2) (m1 t0 x2) (W (t1.1+1),rawP L t1.2.1,(hear t1.2.2 x3).1.1) t1)
 (Bk (lsnT_n1 L p t0 x2) [0,1,2] (I1 t0 x2) (m1 t0 x2) (W (t1.1+1),rawP L t1.2.1,t1.2.2) t1))))))))
 (Bk (lsnT_n0 L p) [0,1,2] I0 m0 (W (t0.1-1),t1.2.1,t1.2.2) t0)))))))))
 (Qt ⟨[(2,.k,.ref 1 0)],[.box (.agg [.sl 1 (L.map AV.int) false,.int ((t0.2.1:Nat):Int)]),.box (.agg [.int t0.2.2.router,.int t0.2.2.epoch,.sl 4 (t0.2.2.heard.map Hrd.v) false])]⟩ [0,1] lsnT_e lsnT_b ((⟨L,t0.2.1⟩:Tap),t0.2.2) r0))))
theorem lsnT_ok(L:(List Int))(p:Nat)(I0:(Int×Nat×Lsn)→Prop)(m0:(Int×Nat×Lsn)→Nat)(I1:Int×Nat×Lsn→Per→(Int×Nat×Lsn)→Prop)(m1:Int×Nat×Lsn→Per→(Int×Nat×Lsn)→Nat)(r0:Tap×Lsn)(h:lsnT_vc L p I0 m0 I1 m1 r0):HSpec Tryz.prog 41 [.ref 0 0] [.box (.agg [.sl 1 (L.map AV.int) false,.int ((p:Nat):Int)])] (lsnT_e r0) (lsnT_b r0):=mxH_of (sh:=(.a [.k,.k,(.s 4)])) (hB:=lsnT_b) (a:=((.callH [0] (Range_h L p 7 9)
 (.req 81 ([1,2,1000000]≠[]) fun h1 =>
 (.callH [0] (Pick_h L (rawP L p) [1,2,1000000] h1)
 (.callH [0] (N_h L (rawP L (rawP L p)) 3)
 (.cmdL (.wkB 113 (.a [.k,.k,.s 4])) (.loop 0 (lsnT_n0 L p) (I0) (m0) ((Mod (rawV L (rawP L (rawP L p))) 3,rawP L (rawP L (rawP L p)),(⟨rng L p 7 9,pickI [1,2,1000000] (rawV L (rawP L p)),[]⟩:Lsn)):Int×Nat×Lsn) [0,1,113] fun (t0:Int×Nat×Lsn) =>
 (.br 35 (.callH [0] (spkT_h L t0.2.1)
 (.br 163 (.back 0 ((W (t0.1-1),(spkT L t0.2.1).2,t0.2.2):Int×Nat×Lsn) [0,1,2])
 (.callH [0] (N_h L ((spkT L t0.2.1).2) (((((spkT L t0.2.1).1).peers).map Per.v).length:Int))
 (.el 275 Per.v (((spkT L t0.2.1).1).peers) fun x2 =>
 (.callP (sendR_c ((spkT L t0.2.1).1) x2.router)
 (.cmdL (.wkB 2 (.a [.k,.k,.s 4])) (.loop 1 (lsnT_n1 L p t0 x2) (I1 t0 x2) (m1 t0 x2) ((0,rawP L ((spkT L t0.2.1).2),(⟨x2.router,t0.2.2.epoch,[]⟩:Lsn)):Int×Nat×Lsn) [0,1,2] fun (t1:Int×Nat×Lsn) =>
 (.br 19 (.el 19 Sig.v ((send ((spkT L t0.2.1).1) x2.router).1) fun x3 =>
 (.callH [0] (N_h L t1.2.1 4)
 (.br 131 (.back 1 ((W (t1.1+1),rawP L t1.2.1,t1.2.2):Int×Nat×Lsn) [0,1,2])
 (.callP (hearR_c t1.2.2 x3)
 (.br 355 (.back 1 ((W (t1.1+1),rawP L t1.2.1,(hear t1.2.2 x3).1.1):Int×Nat×Lsn) [0,1,2])
 (.back 1 ((W (t1.1+1),rawP L t1.2.1,t1.2.2):Int×Nat×Lsn) [0,1,2]))))))
 (.back 0 ((W (t0.1-1),t1.2.1,t1.2.2):Int×Nat×Lsn) [0,1,2])))))))))
 (.retH ((⟨L,t0.2.1⟩:Tap),t0.2.2) ⟨[(2,.k,.ref 1 0)],[.box (.agg [.sl 1 (L.map AV.int) false,.int ((t0.2.1:Nat):Int)]),.box (.agg [.int t0.2.2.router,.int t0.2.2.epoch,.sl 4 (t0.2.2.heard.map Hrd.v) false])]⟩ [0,1])))))))):An Tryz.prog lsnT_s (Tap×Lsn))) h (by kernel_rfl)
theorem lsnT_p(L:List Int)(p:Nat)(ok:lsnT_a L p):∃I0 m0 I1 m1,lsnT_vc L p I0 m0 I1 m1 ((⟨L,(lsnT L p).2⟩:Tap),(lsnT L p).1):=by
  refine ⟨fun t=>∃k:Nat,t.1=k∧k≤3∧lsnL L k t.2.2 t.2.1=lsnT L p,fun t=>t.1.toNat,
    fun t0 x t=>∃k:Nat,t.1=k∧k≤(send (spkT L t0.2.1).1 x.router).1.length∧lsn1 L ((send (spkT L t0.2.1).1 x.router).1.drop k) t.2.2 t.2.1=lsn1 L (send (spkT L t0.2.1).1 x.router).1 ⟨x.router,t0.2.2.epoch,[]⟩ (rawP L (spkT L t0.2.1).2),
    fun t0 x t=>(send (spkT L t0.2.1).1 x.router).1.length-t.1.toNat,?_⟩
  have hm:=Mod_range (x:=rawV L (rawP L (rawP L p))) (n:=3) (by omega)
  simp only [lsnT_vc,vcU,rfU,List.length_map]
  refine ⟨by simp,⟨(Mod (rawV L (rawP L (rawP L p))) 3).toNat,by omega,by omega,rfl⟩,?_⟩
  rintro ⟨i,q,l⟩ ⟨k,hi,hk,hE⟩
  simp only at hi hE ⊢
  subst hi
  refine ⟨fun c=>⟨fun d=>?_,fun d=>?_⟩,fun c=>?_⟩
  · obtain ⟨j,rfl⟩:∃j,k=j+1:=⟨k-1,by omega⟩
    have d:(spkT L q).1.peers=[]:=List.length_eq_zero_iff.mp (by have:=eq_of_beq d;omega)
    rw [W_eq (by omega)]
    rw [lsnL,lsn2,if_pos d] at hE
    exact ⟨⟨j,by omega,by omega,hE⟩,by omega⟩
  · have d:((spkT L q).1.peers.length:Int)≠0:=beq_eq_false_iff_ne.mp d
    have hp:0<(spkT L q).1.peers.length:=by omega
    have hM:=Mod_range (x:=rawV L (spkT L q).2) (n:=((spkT L q).1.peers.length:Int)) (by omega)
    refine ⟨hM.1,hM.2,fun x hx=>?_⟩
    have hx':(spkT L q).1.peers.getD (Mod (rawV L (spkT L q).2) (spkT L q).1.peers.length).toNat ⟨0,0,0⟩=x:=by rw [List.getD_eq_getElem?_getD,hx];rfl
    have hne:(spkT L q).1.peers≠[]:=by intro e;rw [e] at hp;simp at hp
    have hsl:=send_le (s:=(spkT L q).1) (to:=x.router)
    refine ⟨⟨0,rfl,by omega,rfl⟩,?_⟩
    rintro ⟨i2,q2,l2⟩ ⟨m,hi2,hm2,hF⟩
    simp only at hi2 hF ⊢
    subst hi2
    simp only [Int.toNat_natCast]
    refine ⟨fun c2=>⟨by omega,by omega,fun y hy=>?_⟩,fun c2=>?_⟩
    · rw [W_succ (n:=100) (by omega) (by omega)]
      obtain ⟨hm',rfl⟩:=List.getElem?_eq_some_iff.mp hy
      rw [List.drop_eq_getElem_cons hm',lsn1] at hF
      refine ⟨fun e=>⟨⟨m+1,rfl,by omega,?_⟩,by omega⟩,fun e=>⟨fun g=>⟨⟨m+1,rfl,by omega,?_⟩,by omega⟩,fun g=>⟨⟨m+1,rfl,by omega,?_⟩,by omega⟩⟩⟩
      · rw [if_pos (eq_of_beq e)] at hF;exact hF
      · rw [if_neg (beq_eq_false_iff_ne.mp e),if_pos (eq_of_beq g)] at hF;exact hF
      · rw [if_neg (beq_eq_false_iff_ne.mp e),if_neg (beq_eq_false_iff_ne.mp g)] at hF;exact hF
    · rw [List.drop_eq_nil_iff.mpr (by omega),lsn1] at hF
      obtain ⟨j,rfl⟩:∃j,k=j+1:=⟨k-1,by omega⟩
      rw [W_eq (by omega)]
      rw [lsnL,lsn2,if_neg hne,hx',←hF] at hE
      exact ⟨⟨j,by omega,by omega,hE⟩,by omega⟩
  · have:k=0:=by omega
    subst this
    rw [←hE];rfl
def lsnT_h(L:(List Int))(p:Nat):HC Tryz.prog:=⟨41,[.k],[.ref 0 0],[.box (.agg [.sl 1 (L.map AV.int) false,.int ((p:Nat):Int)])],lsnT_e ((⟨L,(lsnT L p).2⟩:Tap),(lsnT L p).1),lsnT_b ((⟨L,(lsnT L p).2⟩:Tap),(lsnT L p).1),HSpec.of_okh fun ok ok2=>have ok:lsnT_a L p:=⟨ok,ok2 _ (by simp)⟩;(lsnT_p L p ok).elim fun I0 h=>h.elim fun m0 h=>h.elim fun I1 h=>h.elim fun m1 h=>lsnT_ok L p I0 m0 I1 m1 _ h,fnB_ok (by kernel_rfl),HcOk.of (by simp [hcB,belBL,AV.belB,allB,okBk,okBkO,lsnT_e,lsnT_b,pureBL_map (v:=AV.int) (fun _=>rfl)])⟩
end Go.Proofs.YtgnogboljobocaaGreatDoor

namespace Go.Proofs.YtgnogboljobocaaGreatDoor
open Go Go.Am
set_option linter.unusedVariables false
set_option linter.unusedSimpArgs false
def hears_a(t:(List Int))(raw:Lsn)(x:Sig)(router:Int):Prop:=okL [.sl 1 (t.map AV.int) false,.agg [.int raw.router,.int raw.epoch,.sl 4 (raw.heard.map Hrd.v) false],.agg [.int x.kind,.int x.src,.int x.dst,.int x.epoch,.int x.ver,.int x.prev,.int x.pep,.int x.grp,.int x.mode,.sl 1 (x.srcs.map AV.int) false],.int router]
def hears_n0(t:(List Int))(raw:Lsn)(x:Sig)(router:Int)(t0:Bool):NF:=⟨[(0,.k,.sl 1 (t.map AV.int) false),(3,.k,.int router),(5,.k,.ref 0 0),(6,.k,.ref 1 0),(48,.k,.bool t0)],[.box (.agg [.int raw.router,.int raw.epoch,.sl 4 (raw.heard.map Hrd.v) false]),.box (.agg [.int x.kind,.int x.src,.int x.dst,.int x.epoch,.int x.ver,.int x.prev,.int x.pep,.int x.grp,.int x.mode,.sl 1 (x.srcs.map AV.int) false])]⟩
def hears_n1(t:(List Int))(raw:Lsn)(x:Sig)(router:Int)(t0:Bool)(t1:Tap):NF:=⟨[(3,.k,.int router),(5,.k,.ref 0 0),(6,.k,.ref 1 0),(9,.k,.ref 2 0)],[.box (.agg [.int raw.router,.int raw.epoch,.sl 4 (raw.heard.map Hrd.v) false]),.box (.agg [.int x.kind,.int x.src,.int x.dst,.int x.epoch,.int x.ver,.int x.prev,.int x.pep,.int x.grp,.int x.mode,.sl 1 (x.srcs.map AV.int) false]),.box (.agg [.sl 1 (t1.L.map AV.int) false,.int ((t1.p:Nat):Int)])]⟩
def hears_n2(t:(List Int))(raw:Lsn)(x:Sig)(router:Int)(t0:Bool)(t1:Tap)(t2:Spk×Lsn):NF:=⟨[(3,.k,.int router),(5,.k,.ref 0 0),(6,.k,.ref 1 0),(9,.k,.ref 2 0),(10,.k,.ref 3 0),(11,.k,.ref 4 0)],[.box (.agg [.int raw.router,.int raw.epoch,.sl 4 (raw.heard.map Hrd.v) false]),.box (.agg [.int x.kind,.int x.src,.int x.dst,.int x.epoch,.int x.ver,.int x.prev,.int x.pep,.int x.grp,.int x.mode,.sl 1 (x.srcs.map AV.int) false]),.box (.agg [.sl 1 (t1.L.map AV.int) false,.int ((((lsnT t1.L ((spkT t1.L t1.p).2)).2):Nat):Int)]),.box (.agg [.int t2.1.router,.int t2.1.epoch,.int t2.1.last,.sl 4 (t2.1.items.map Itm.v) false,.sl 3 (t2.1.peers.map Per.v) false]),.box (.agg [.int t2.2.router,.int t2.2.epoch,.sl 4 (t2.2.heard.map Hrd.v) false])]⟩
def hears_n3(t:(List Int))(raw:Lsn)(x:Sig)(router:Int)(t0:Bool)(t1:Tap)(t2:Spk×Lsn)(t3:Int×Int×(List Sig)×Nat):NF:=⟨[(3,.k,.int router),(5,.k,.ref 0 0),(9,.k,.ref 1 0),(10,.k,.ref 2 0),(11,.k,.ref 3 0),(12,.k,.vec 4),(65,.k,.sl 3 (t2.1.peers.map Per.v) false),(66,.k,.int t3.1),(67,.k,.int t3.2.1)],[.box (.agg [.int raw.router,.int raw.epoch,.sl 4 (raw.heard.map Hrd.v) false]),.box (.agg [.sl 1 (t1.L.map AV.int) false,.int ((t3.2.2.2:Nat):Int)]),.box (.agg [.int t2.1.router,.int t2.1.epoch,.int t2.1.last,.sl 4 (t2.1.items.map Itm.v) false,.sl 3 (t2.1.peers.map Per.v) false]),.box (.agg [.int t2.2.router,.int t2.2.epoch,.sl 4 (t2.2.heard.map Hrd.v) false]),.vec 10 (t3.2.2.1.map Sig.v) (pureBL_map (fun _=>rfl) t3.2.2.1)]⟩
def hears_n4(t:(List Int))(raw:Lsn)(x:Sig)(router:Int)(t0:Bool)(t1:Tap)(t2:Spk×Lsn)(t3:Int×Int×(List Sig)×Nat)(x2:Per)(t4:(List Sig)):NF:=⟨[(3,.k,.int router),(5,.k,.ref 0 0),(9,.k,.ref 1 0),(10,.k,.ref 2 0),(11,.k,.ref 3 0),(12,.k,.vec 4),(14,.k,.ref 5 0),(15,(.s 10),.sl 10 (t4.map Sig.v) false),(65,.k,.sl 3 (t2.1.peers.map Per.v) false),(66,.k,.int t3.1),(67,.k,.int t3.2.1)],[.box (.agg [.int raw.router,.int raw.epoch,.sl 4 (raw.heard.map Hrd.v) false]),.box (.agg [.sl 1 (t1.L.map AV.int) false,.int ((t3.2.2.2:Nat):Int)]),.box (.agg [.int t2.1.router,.int t2.1.epoch,.int t2.1.last,.sl 4 (t2.1.items.map Itm.v) false,.sl 3 (t2.1.peers.map Per.v) false]),.box (.agg [.int t2.2.router,.int t2.2.epoch,.sl 4 (t2.2.heard.map Hrd.v) false]),.vec 10 (t3.2.2.1.map Sig.v) (pureBL_map (fun _=>rfl) t3.2.2.1),.box (.agg [.int x2.router,.int x2.epoch,.int x2.acked])]⟩
def hears_n5(t:(List Int))(raw:Lsn)(x:Sig)(router:Int)(t0:Bool)(t1:Tap)(t2:Spk×Lsn)(t3:Int×Int×(List Sig)×Nat)(t5:Int×(List Hrd)):NF:=⟨[(3,.k,.int router),(5,.k,.ref 0 0),(10,.k,.ref 1 0),(11,.k,.ref 2 0),(12,.k,.vec 3),(17,.k,.ref 4 0)],[.box (.agg [.int raw.router,.int raw.epoch,.sl 4 (raw.heard.map Hrd.v) false]),.box (.agg [.int t2.1.router,.int t2.1.epoch,.int t2.1.last,.sl 4 (t2.1.items.map Itm.v) false,.sl 3 (t2.1.peers.map Per.v) false]),.box (.agg [.int t2.2.router,.int t2.2.epoch,.sl 4 (t2.2.heard.map Hrd.v) false]),.vec 10 (t3.2.2.1.map Sig.v) (pureBL_map (fun _=>rfl) t3.2.2.1),.box (.agg [.int t5.1,.int t2.2.epoch,.vec 5]),.vec 4 (t5.2.map Hrd.v) (pureBL_map (fun _=>rfl) t5.2)]⟩
def hears_n6(t:(List Int))(raw:Lsn)(x:Sig)(router:Int)(t0:Bool)(t1:Tap)(t2:Spk×Lsn)(t3:Int×Int×(List Sig)×Nat)(t5:Int×(List Hrd))(t6:Int):NF:=⟨[(3,.k,.int router),(10,.k,.ref 0 0),(12,.k,.sl 10 (t3.2.2.1.map Sig.v) false),(126,.k,.sl 3 [.agg [.int raw.router,.int raw.epoch,.sl 4 (raw.heard.map Hrd.v) false],.agg [.int t2.2.router,.int t2.2.epoch,.sl 4 (t2.2.heard.map Hrd.v) false],.agg [.int t5.1,.int t2.2.epoch,.sl 4 (t5.2.map Hrd.v) false]] true),(127,.k,.int 3),(128,.k,.int t6)],[.box (.agg [.int t2.1.router,.int t2.1.epoch,.int t2.1.last,.sl 4 (t2.1.items.map Itm.v) false,.sl 3 (t2.1.peers.map Per.v) false])]⟩
def hears_n7(t:(List Int))(raw:Lsn)(x:Sig)(router:Int)(t0:Bool)(t1:Tap)(t2:Spk×Lsn)(t3:Int×Int×(List Sig)×Nat)(t5:Int×(List Hrd))(t6:Int)(x5:Lsn)(t7:Bool):NF:=⟨[(3,.k,.int router),(10,.k,.ref 0 0),(12,.k,.sl 10 (t3.2.2.1.map Sig.v) false),(19,.k,.ref 1 0),(126,.k,.sl 3 [.agg [.int raw.router,.int raw.epoch,.sl 4 (raw.heard.map Hrd.v) false],.agg [.int t2.2.router,.int t2.2.epoch,.sl 4 (t2.2.heard.map Hrd.v) false],.agg [.int t5.1,.int t2.2.epoch,.sl 4 (t5.2.map Hrd.v) false]] true),(127,.k,.int 3),(128,.k,.int t6),(145,.k,.bool t7)],[.box (.agg [.int t2.1.router,.int t2.1.epoch,.int t2.1.last,.sl 4 (t2.1.items.map Itm.v) false,.sl 3 (t2.1.peers.map Per.v) false]),.box (.agg [.int x5.router,.int x5.epoch,.sl 4 (x5.heard.map Hrd.v) false])]⟩
def hears_n8(t:(List Int))(raw:Lsn)(x:Sig)(router:Int)(t0:Bool)(t1:Tap)(t2:Spk×Lsn)(t3:Int×Int×(List Sig)×Nat)(t5:Int×(List Hrd))(t6:Int)(x5:Lsn)(t7:Bool)(t8:Int):NF:=⟨[(3,.k,.int router),(10,.k,.ref 0 0),(12,.k,.sl 10 (t3.2.2.1.map Sig.v) false),(19,.k,.ref 1 0),(126,.k,.sl 3 [.agg [.int raw.router,.int raw.epoch,.sl 4 (raw.heard.map Hrd.v) false],.agg [.int t2.2.router,.int t2.2.epoch,.sl 4 (t2.2.heard.map Hrd.v) false],.agg [.int t5.1,.int t2.2.epoch,.sl 4 (t5.2.map Hrd.v) false]] true),(127,.k,.int 3),(128,.k,.int t6),(149,.k,.sl 1 [.int router,.int t2.1.router] true),(150,.k,.int 2),(151,.k,.int t8)],[.box (.agg [.int t2.1.router,.int t2.1.epoch,.int t2.1.last,.sl 4 (t2.1.items.map Itm.v) false,.sl 3 (t2.1.peers.map Per.v) false]),.box (.agg [.int x5.router,.int x5.epoch,.sl 4 (x5.heard.map Hrd.v) false])]⟩
def hears_n9(t:(List Int))(raw:Lsn)(x:Sig)(router:Int)(t0:Bool)(t1:Tap)(t2:Spk×Lsn)(t3:Int×Int×(List Sig)×Nat)(t5:Int×(List Hrd))(t6:Int)(x5:Lsn)(t7:Bool)(t8:Int)(x6:Int)(t9:Bool):NF:=⟨[(3,.k,.int router),(10,.k,.ref 0 0),(12,.k,.sl 10 (t3.2.2.1.map Sig.v) false),(19,.k,.ref 1 0),(126,.k,.sl 3 [.agg [.int raw.router,.int raw.epoch,.sl 4 (raw.heard.map Hrd.v) false],.agg [.int t2.2.router,.int t2.2.epoch,.sl 4 (t2.2.heard.map Hrd.v) false],.agg [.int t5.1,.int t2.2.epoch,.sl 4 (t5.2.map Hrd.v) false]] true),(127,.k,.int 3),(128,.k,.int t6),(149,.k,.sl 1 [.int router,.int t2.1.router] true),(150,.k,.int 2),(151,.k,.int t8),(162,.k,.bool t9)],[.box (.agg [.int t2.1.router,.int t2.1.epoch,.int t2.1.last,.sl 4 (t2.1.items.map Itm.v) false,.sl 3 (t2.1.peers.map Per.v) false]),.box (.agg [.int x5.router,.int x5.epoch,.sl 4 (x5.heard.map Hrd.v) false])]⟩
def hears_n10(t:(List Int))(raw:Lsn)(x:Sig)(router:Int)(t0:Bool)(t1:Tap)(t2:Spk×Lsn)(t3:Int×Int×(List Sig)×Nat)(t5:Int×(List Hrd))(t6:Int)(x5:Lsn)(t7:Bool)(t8:Int)(t10:(List Sig)×Int×Int):NF:=⟨[(3,.k,.int router),(10,.k,.ref 0 0),(12,.k,.sl 10 (t3.2.2.1.map Sig.v) false),(19,.k,.ref 1 0),(126,.k,.sl 3 [.agg [.int raw.router,.int raw.epoch,.sl 4 (raw.heard.map Hrd.v) false],.agg [.int t2.2.router,.int t2.2.epoch,.sl 4 (t2.2.heard.map Hrd.v) false],.agg [.int t5.1,.int t2.2.epoch,.sl 4 (t5.2.map Hrd.v) false]] true),(127,.k,.int 3),(128,.k,.int t6),(168,(.s 10),.sl 10 (t10.1.map Sig.v) false),(169,.k,.int t10.2.1),(170,.k,.int t10.2.2)],[.box (.agg [.int t2.1.router,.int t2.1.epoch,.int t2.1.last,.sl 4 (t2.1.items.map Itm.v) false,.sl 3 (t2.1.peers.map Per.v) false]),.box (.agg [.int x5.router,.int x5.epoch,.sl 4 (x5.heard.map Hrd.v) false])]⟩
def hears_n11(t:(List Int))(raw:Lsn)(x:Sig)(router:Int)(t0:Bool)(t1:Tap)(t2:Spk×Lsn)(t3:Int×Int×(List Sig)×Nat)(t5:Int×(List Hrd))(t6:Int)(x5:Lsn)(t7:Bool)(t8:Int)(t10:(List Sig)×Int×Int)(x7:Sig)(t11:Int):NF:=⟨[(3,.k,.int router),(10,.k,.ref 0 0),(12,.k,.sl 10 (t3.2.2.1.map Sig.v) false),(19,.k,.ref 1 0),(126,.k,.sl 3 [.agg [.int raw.router,.int raw.epoch,.sl 4 (raw.heard.map Hrd.v) false],.agg [.int t2.2.router,.int t2.2.epoch,.sl 4 (t2.2.heard.map Hrd.v) false],.agg [.int t5.1,.int t2.2.epoch,.sl 4 (t5.2.map Hrd.v) false]] true),(127,.k,.int 3),(128,.k,.int t6),(168,.k,.sl 10 (t10.1.map Sig.v) false),(169,.k,.int t10.2.1),(170,.k,.int t10.2.2),(180,.k,.sl 10 [.agg [.int x7.kind,.int x7.src,.int x7.dst,.int x7.epoch,.int x7.ver,.int x7.prev,.int x7.pep,.int x7.grp,.int x7.mode,.sl 1 (x7.srcs.map AV.int) false],.agg [.int x7.kind,.int x7.src,.int x5.router,.int x7.epoch,.int x7.ver,.int x7.prev,.int x7.pep,.int x7.grp,.int x7.mode,.sl 1 (x7.srcs.map AV.int) false]] true),(181,.k,.int 2),(182,.k,.int t11)],[.box (.agg [.int t2.1.router,.int t2.1.epoch,.int t2.1.last,.sl 4 (t2.1.items.map Itm.v) false,.sl 3 (t2.1.peers.map Per.v) false]),.box (.agg [.int x5.router,.int x5.epoch,.sl 4 (x5.heard.map Hrd.v) false])]⟩
def hears_n12(t:(List Int))(raw:Lsn)(x:Sig)(router:Int)(t0:Bool)(t1:Tap)(t2:Spk×Lsn)(t3:Int×Int×(List Sig)×Nat)(t5:Int×(List Hrd))(t6:Int)(x5:Lsn)(t7:Bool)(t8:Int)(t10:(List Sig)×Int×Int)(x7:Sig)(t11:Int)(x8:Sig)(t12:Int×Lsn×Sig):NF:=⟨[(3,.k,.int router),(10,.k,.ref 0 0),(12,.k,.sl 10 (t3.2.2.1.map Sig.v) false),(19,.k,.ref 1 0),(26,.k,.ref 2 0),(27,.k,.ref 3 0),(28,.k,.ref 4 0),(29,.k,.int t12.1),(126,.k,.sl 3 [.agg [.int raw.router,.int raw.epoch,.sl 4 (raw.heard.map Hrd.v) false],.agg [.int t2.2.router,.int t2.2.epoch,.sl 4 (t2.2.heard.map Hrd.v) false],.agg [.int t5.1,.int t2.2.epoch,.sl 4 (t5.2.map Hrd.v) false]] true),(127,.k,.int 3),(128,.k,.int t6),(168,.k,.sl 10 (t10.1.map Sig.v) false),(169,.k,.int t10.2.1),(170,.k,.int t10.2.2),(180,.k,.sl 10 [.agg [.int x7.kind,.int x7.src,.int x7.dst,.int x7.epoch,.int x7.ver,.int x7.prev,.int x7.pep,.int x7.grp,.int x7.mode,.sl 1 (x7.srcs.map AV.int) false],.agg [.int x7.kind,.int x7.src,.int x5.router,.int x7.epoch,.int x7.ver,.int x7.prev,.int x7.pep,.int x7.grp,.int x7.mode,.sl 1 (x7.srcs.map AV.int) false]] true),(181,.k,.int 2),(182,.k,.int t11)],[.box (.agg [.int t2.1.router,.int t2.1.epoch,.int t2.1.last,.sl 4 (t2.1.items.map Itm.v) false,.sl 3 (t2.1.peers.map Per.v) false]),.box (.agg [.int x5.router,.int x5.epoch,.sl 4 (x5.heard.map Hrd.v) false]),.box (.agg [.int x8.kind,.int x8.src,.int x8.dst,.int x8.epoch,.int x8.ver,.int x8.prev,.int x8.pep,.int x8.grp,.int x8.mode,.sl 1 (x8.srcs.map AV.int) false]),.box (.agg [.int t12.2.1.router,.int t12.2.1.epoch,.sl 4 (t12.2.1.heard.map Hrd.v) false]),.box (.agg [.int t12.2.2.kind,.int t12.2.2.src,.int t12.2.2.dst,.int t12.2.2.epoch,.int t12.2.2.ver,.int t12.2.2.prev,.int t12.2.2.pep,.int t12.2.2.grp,.int t12.2.2.mode,.sl 1 (t12.2.2.srcs.map AV.int) false])]⟩
def hears_n13(t:(List Int))(raw:Lsn)(x:Sig)(router:Int)(t0:Bool)(t1:Tap)(t2:Spk×Lsn)(t3:Int×Int×(List Sig)×Nat)(t5:Int×(List Hrd))(t6:Int)(x5:Lsn)(t7:Bool)(t8:Int)(t10:(List Sig)×Int×Int)(x7:Sig)(t11:Int)(x8:Sig)(t12:Int×Lsn×Sig)(t13:Int×Lsn×Sig):NF:=⟨[(3,.k,.int router),(10,.k,.ref 0 0),(12,.k,.sl 10 (t3.2.2.1.map Sig.v) false),(19,.k,.ref 1 0),(27,.k,.ref 2 0),(28,.k,.ref 3 0),(29,.k,.int t12.1),(30,.k,.ref 4 0),(31,.k,.ref 5 0),(32,.k,.int t13.1),(126,.k,.sl 3 [.agg [.int raw.router,.int raw.epoch,.sl 4 (raw.heard.map Hrd.v) false],.agg [.int t2.2.router,.int t2.2.epoch,.sl 4 (t2.2.heard.map Hrd.v) false],.agg [.int t5.1,.int t2.2.epoch,.sl 4 (t5.2.map Hrd.v) false]] true),(127,.k,.int 3),(128,.k,.int t6),(168,.k,.sl 10 (t10.1.map Sig.v) false),(169,.k,.int t10.2.1),(170,.k,.int t10.2.2),(180,.k,.sl 10 [.agg [.int x7.kind,.int x7.src,.int x7.dst,.int x7.epoch,.int x7.ver,.int x7.prev,.int x7.pep,.int x7.grp,.int x7.mode,.sl 1 (x7.srcs.map AV.int) false],.agg [.int x7.kind,.int x7.src,.int x5.router,.int x7.epoch,.int x7.ver,.int x7.prev,.int x7.pep,.int x7.grp,.int x7.mode,.sl 1 (x7.srcs.map AV.int) false]] true),(181,.k,.int 2),(182,.k,.int t11)],[.box (.agg [.int t2.1.router,.int t2.1.epoch,.int t2.1.last,.sl 4 (t2.1.items.map Itm.v) false,.sl 3 (t2.1.peers.map Per.v) false]),.box (.agg [.int x5.router,.int x5.epoch,.sl 4 (x5.heard.map Hrd.v) false]),.box (.agg [.int t12.2.1.router,.int t12.2.1.epoch,.sl 4 (t12.2.1.heard.map Hrd.v) false]),.box (.agg [.int t12.2.2.kind,.int t12.2.2.src,.int t12.2.2.dst,.int t12.2.2.epoch,.int t12.2.2.ver,.int t12.2.2.prev,.int t12.2.2.pep,.int t12.2.2.grp,.int t12.2.2.mode,.sl 1 (t12.2.2.srcs.map AV.int) false]),.box (.agg [.int t13.2.1.router,.int t13.2.1.epoch,.sl 4 (t13.2.1.heard.map Hrd.v) false]),.box (.agg [.int t13.2.2.kind,.int t13.2.2.src,.int t13.2.2.dst,.int t13.2.2.epoch,.int t13.2.2.ver,.int t13.2.2.prev,.int t13.2.2.pep,.int t13.2.2.grp,.int t13.2.2.mode,.sl 1 (t13.2.2.srcs.map AV.int) false])]⟩
def hears_n14(t:(List Int))(raw:Lsn)(x:Sig)(router:Int)(t0:Bool)(t1:Tap)(t2:Spk×Lsn)(t3:Int×Int×(List Sig)×Nat)(t5:Int×(List Hrd))(t6:Int)(x5:Lsn)(t7:Bool)(t8:Int)(t10:(List Sig)×Int×Int)(x7:Sig)(t11:Int)(x8:Sig)(t12:Int×Lsn×Sig)(t13:Int×Lsn×Sig)(t14:Bool):NF:=⟨[(3,.k,.int router),(10,.k,.ref 0 0),(12,.k,.sl 10 (t3.2.2.1.map Sig.v) false),(19,.k,.ref 1 0),(126,.k,.sl 3 [.agg [.int raw.router,.int raw.epoch,.sl 4 (raw.heard.map Hrd.v) false],.agg [.int t2.2.router,.int t2.2.epoch,.sl 4 (t2.2.heard.map Hrd.v) false],.agg [.int t5.1,.int t2.2.epoch,.sl 4 (t5.2.map Hrd.v) false]] true),(127,.k,.int 3),(128,.k,.int t6),(168,.k,.sl 10 (t10.1.map Sig.v) false),(169,.k,.int t10.2.1),(170,.k,.int t10.2.2),(180,.k,.sl 10 [.agg [.int x7.kind,.int x7.src,.int x7.dst,.int x7.epoch,.int x7.ver,.int x7.prev,.int x7.pep,.int x7.grp,.int x7.mode,.sl 1 (x7.srcs.map AV.int) false],.agg [.int x7.kind,.int x7.src,.int x5.router,.int x7.epoch,.int x7.ver,.int x7.prev,.int x7.pep,.int x7.grp,.int x7.mode,.sl 1 (x7.srcs.map AV.int) false]] true),(181,.k,.int 2),(182,.k,.int t11),(214,.k,.bool t14)],[.box (.agg [.int t2.1.router,.int t2.1.epoch,.int t2.1.last,.sl 4 (t2.1.items.map Itm.v) false,.sl 3 (t2.1.peers.map Per.v) false]),.box (.agg [.int x5.router,.int x5.epoch,.sl 4 (x5.heard.map Hrd.v) false])]⟩
def hears_n15(t:(List Int))(raw:Lsn)(x:Sig)(router:Int)(t0:Bool)(t1:Tap)(t2:Spk×Lsn)(t3:Int×Int×(List Sig)×Nat)(t5:Int×(List Hrd))(t6:Int)(t15:(List Sig)×Int×Int):NF:=⟨[(10,.k,.ref 0 0),(222,(.s 10),.sl 10 (t15.1.map Sig.v) false),(223,.k,.int t15.2.1),(224,.k,.int t15.2.2)],[.box (.agg [.int t2.1.router,.int t2.1.epoch,.int t2.1.last,.sl 4 (t2.1.items.map Itm.v) false,.sl 3 (t2.1.peers.map Per.v) false])]⟩
def hears_n16(t:(List Int))(raw:Lsn)(x:Sig)(router:Int)(t0:Bool)(t1:Tap)(t2:Spk×Lsn)(t3:Int×Int×(List Sig)×Nat)(t5:Int×(List Hrd))(t6:Int)(t15:(List Sig)×Int×Int)(x9:Sig)(t16:Int×Spk):NF:=⟨[(10,.k,.ref 0 0),(34,.k,.ref 1 0),(35,.k,.ref 2 0),(36,.k,.int t16.1),(222,.k,.sl 10 (t15.1.map Sig.v) false),(223,.k,.int t15.2.1),(224,.k,.int t15.2.2)],[.box (.agg [.int t2.1.router,.int t2.1.epoch,.int t2.1.last,.sl 4 (t2.1.items.map Itm.v) false,.sl 3 (t2.1.peers.map Per.v) false]),.box (.agg [.int x9.kind,.int x9.src,.int x9.dst,.int x9.epoch,.int x9.ver,.int x9.prev,.int x9.pep,.int x9.grp,.int x9.mode,.sl 1 (x9.srcs.map AV.int) false]),.box (.agg [.int t16.2.router,.int t16.2.epoch,.int t16.2.last,.sl 4 (t16.2.items.map Itm.v) false,.sl 3 (t16.2.peers.map Per.v) false])]⟩
def hears_n17(t:(List Int))(raw:Lsn)(x:Sig)(router:Int)(t0:Bool)(t1:Tap)(t2:Spk×Lsn)(t3:Int×Int×(List Sig)×Nat)(t5:Int×(List Hrd))(t6:Int)(t15:(List Sig)×Int×Int)(x9:Sig)(t16:Int×Spk)(t17:Int×Spk):NF:=⟨[(10,.k,.ref 0 0),(35,.k,.ref 1 0),(36,.k,.int t16.1),(37,.k,.ref 2 0),(38,.k,.int t17.1),(222,.k,.sl 10 (t15.1.map Sig.v) false),(223,.k,.int t15.2.1),(224,.k,.int t15.2.2)],[.box (.agg [.int t2.1.router,.int t2.1.epoch,.int t2.1.last,.sl 4 (t2.1.items.map Itm.v) false,.sl 3 (t2.1.peers.map Per.v) false]),.box (.agg [.int t16.2.router,.int t16.2.epoch,.int t16.2.last,.sl 4 (t16.2.items.map Itm.v) false,.sl 3 (t16.2.peers.map Per.v) false]),.box (.agg [.int t17.2.router,.int t17.2.epoch,.int t17.2.last,.sl 4 (t17.2.items.map Itm.v) false,.sl 3 (t17.2.peers.map Per.v) false])]⟩
def hears_n18(t:(List Int))(raw:Lsn)(x:Sig)(router:Int)(t0:Bool)(t1:Tap)(t2:Spk×Lsn)(t3:Int×Int×(List Sig)×Nat)(t5:Int×(List Hrd))(t6:Int)(t15:(List Sig)×Int×Int)(x9:Sig)(t16:Int×Spk)(t17:Int×Spk)(t18:Bool):NF:=⟨[(10,.k,.ref 0 0),(222,.k,.sl 10 (t15.1.map Sig.v) false),(223,.k,.int t15.2.1),(224,.k,.int t15.2.2),(248,.k,.bool t18)],[.box (.agg [.int t2.1.router,.int t2.1.epoch,.int t2.1.last,.sl 4 (t2.1.items.map Itm.v) false,.sl 3 (t2.1.peers.map Per.v) false])]⟩
def hears_s:Nat→Type
  | 0=>Bool
  | 1=>Tap
  | 2=>Spk×Lsn
  | 3=>Int×Int×(List Sig)×Nat
  | 4=>(List Sig)
  | 5=>Int×(List Hrd)
  | 6=>Int
  | 7=>Bool
  | 8=>Int
  | 9=>Bool
  | 10=>(List Sig)×Int×Int
  | 11=>Int
  | 12=>Int×Lsn×Sig
  | 13=>Int×Lsn×Sig
  | 14=>Bool
  | 15=>(List Sig)×Int×Int
  | 16=>Int×Spk
  | 17=>Int×Spk
  | 18=>Bool
  | _=>Unit
def hears_e(r:Bool):AV:=.bool r
def hears_vc(t:(List Int))(raw:Lsn)(x:Sig)(router:Int)(I0:Bool→Prop)(I3:Bool→Tap→Spk×Lsn→(Int×Int×(List Sig)×Nat)→Prop)(m3:Bool→Tap→Spk×Lsn→(Int×Int×(List Sig)×Nat)→Nat)(I5:Bool→Tap→Spk×Lsn→Int×Int×(List Sig)×Nat→(Int×(List Hrd))→Prop)(I6:Bool→Tap→Spk×Lsn→Int×Int×(List Sig)×Nat→Int×(List Hrd)→Int→Prop)(m6:Bool→Tap→Spk×Lsn→Int×Int×(List Sig)×Nat→Int×(List Hrd)→Int→Nat)(I7:Bool→Tap→Spk×Lsn→Int×Int×(List Sig)×Nat→Int×(List Hrd)→Int→Lsn→Bool→Prop)(I8:Bool→Tap→Spk×Lsn→Int×Int×(List Sig)×Nat→Int×(List Hrd)→Int→Lsn→Bool→Int→Prop)(m8:Bool→Tap→Spk×Lsn→Int×Int×(List Sig)×Nat→Int×(List Hrd)→Int→Lsn→Bool→Int→Nat)(I10:Bool→Tap→Spk×Lsn→Int×Int×(List Sig)×Nat→Int×(List Hrd)→Int→Lsn→Bool→Int→((List Sig)×Int×Int)→Prop)(m10:Bool→Tap→Spk×Lsn→Int×Int×(List Sig)×Nat→Int×(List Hrd)→Int→Lsn→Bool→Int→((List Sig)×Int×Int)→Nat)(I11:Bool→Tap→Spk×Lsn→Int×Int×(List Sig)×Nat→Int×(List Hrd)→Int→Lsn→Bool→Int→(List Sig)×Int×Int→Sig→Int→Prop)(m11:Bool→Tap→Spk×Lsn→Int×Int×(List Sig)×Nat→Int×(List Hrd)→Int→Lsn→Bool→Int→(List Sig)×Int×Int→Sig→Int→Nat)(I14:Bool→Tap→Spk×Lsn→Int×Int×(List Sig)×Nat→Int×(List Hrd)→Int→Lsn→Bool→Int→(List Sig)×Int×Int→Sig→Int→Sig→Int×Lsn×Sig→Int×Lsn×Sig→Bool→Prop)(I15:Bool→Tap→Spk×Lsn→Int×Int×(List Sig)×Nat→Int×(List Hrd)→Int→((List Sig)×Int×Int)→Prop)(m15:Bool→Tap→Spk×Lsn→Int×Int×(List Sig)×Nat→Int×(List Hrd)→Int→((List Sig)×Int×Int)→Nat)(I18:Bool→Tap→Spk×Lsn→Int×Int×(List Sig)×Nat→Int×(List Hrd)→Int→(List Sig)×Int×Int→Sig→Int×Spk→Int×Spk→Bool→Prop)(r0:Bool):Prop:=
 (Cl (smallL_c raw)
 (br (!(smallL raw))
 (Be (hears_n0 t raw x router) [0,16] I0 (true))
 (Be (hears_n0 t raw x router) [0,16] I0 (decide (110<((x.srcs.map AV.int).length:Int))))))∧∀t0:Bool,I0 t0 →
 br t0
 (Cl (awake_c )
 (Rp hears_e (true) r0))
 ((Ch (New_h t) [] 18
 (Bj (hears_n1 t raw x router t0) [0,1,18] ((⟨t.take 2000,0⟩:Tap))))∧∀t1:Tap,t1=(((⟨t.take 2000,0⟩:Tap)):Tap) →
 (Ch (spkT_h t1.L t1.p) [2] 19
 (Ch (lsnT_h t1.L ((spkT t1.L t1.p).2)) [2] 51
 (Bj (hears_n2 t raw x router t0 t1) [0,1,2,67,83] ((spkT t1.L t1.p).1,(lsnT t1.L ((spkT t1.L t1.p).2)).1))))∧∀t2:Spk×Lsn,t2=(((spkT t1.L t1.p).1,(lsnT t1.L ((spkT t1.L t1.p).2)).1):Spk×Lsn) →
 Ch (sigT_h t1.L ((lsnT t1.L ((spkT t1.L t1.p).2)).2)) [2] 37
 (Ch (sigT_h t1.L ((sigT t1.L ((lsnT t1.L ((spkT t1.L t1.p).2)).2)).2)) [2] 85
 (∃h1:((sigT t1.L ((sigT t1.L ((lsnT t1.L ((spkT t1.L t1.p).2)).2)).2)).1).srcs.length≤900000,
 Ch (bentG_h t1.L ((sigT t1.L ((sigT t1.L ((lsnT t1.L ((spkT t1.L t1.p).2)).2)).2)).2) ((sigT t1.L ((sigT t1.L ((lsnT t1.L ((spkT t1.L t1.p).2)).2)).2)).1) h1) [2] 101
 (Be (hears_n3 t raw x router t0 t1 t2) [0,2,3,4,117] (I3 t0 t1 t2) (((t2.1.peers.map Per.v).length:Int),0,[x,(sigT t1.L ((lsnT t1.L ((spkT t1.L t1.p).2)).2)).1,(bentG t1.L ((sigT t1.L ((sigT t1.L ((lsnT t1.L ((spkT t1.L t1.p).2)).2)).2)).2) ((sigT t1.L ((sigT t1.L ((lsnT t1.L ((spkT t1.L t1.p).2)).2)).2)).1)).1],(bentG t1.L ((sigT t1.L ((sigT t1.L ((lsnT t1.L ((spkT t1.L t1.p).2)).2)).2)).2) ((sigT t1.L ((sigT t1.L ((lsnT t1.L ((spkT t1.L t1.p).2)).2)).2)).1)).2)∧∀t3,I3 t0 t1 t2 t3 →
 br (decide (t3.2.1<t3.1))
 (Rf (t2.1.peers.map Per.v) (ck (decide (0≤t3.2.1)) (ck (decide (t3.2.1<(t2.1.peers.length:Int)))
 (∀x2,t2.1.peers[t3.2.1.toNat]?=some x2 →
 (Cl (sendR_c t2.1 x2.router)
 (Bj (hears_n4 t raw x router t0 t1 t2 t3 x2) [0,1,2,3,4,53] ((send t2.1 x2.router).1)))∧∀t4:(List Sig),t4=(((send t2.1 x2.router).1):(List Sig)) →
 Rf (α:=List AV) (t3.2.2.1.map Sig.v) (Rf (α:=List AV) (t4.map Sig.v)
 (ck (decide (t3.2.2.1.length+t4.length≤1000000))
 (Ch (N_h t1.L t3.2.2.2 2) [1] 198
 (Ch (N_h t1.L (rawP t1.L t3.2.2.2) (W (t2.1.last+2))) [1] 310
 (Ch (Range_h t1.L (rawP t1.L (rawP t1.L t3.2.2.2)) 1 4) [1] 342
 (Idt ((t3.2.2.1++t4).map Sig.v) (Rf (α:=List AV) [.agg [.int 3,.int x2.router,.int t2.1.router,.int (maxI 0 (W (t2.1.epoch-(Mod (rawV t1.L t3.2.2.2) 2)))),.int (Mod (rawV t1.L (rawP t1.L t3.2.2.2)) (W (t2.1.last+2))),.int 0,.int (rng t1.L (rawP t1.L (rawP t1.L t3.2.2.2)) 1 4),.int 0,.int 0,.sl 0 [] true]]
 (ck (decide (((t3.2.2.1++t4).map Sig.v).length+1≤1000000))
 ((FitE (.a [.k,.k,.k,.k,.k,.k,.k,.k,.k,(.s 1)]) Sig.v (t3.2.2.1++t4) [(⟨3,x2.router,t2.1.router,maxI 0 (W (t2.1.epoch-(Mod (rawV t1.L t3.2.2.2) 2))),Mod (rawV t1.L (rawP t1.L t3.2.2.2)) (W (t2.1.last+2)),0,rng t1.L (rawP t1.L (rawP t1.L t3.2.2.2)) 1 4,0,0,[]⟩:Sig)] [.agg [.int 3,.int x2.router,.int t2.1.router,.int (maxI 0 (W (t2.1.epoch-(Mod (rawV t1.L t3.2.2.2) 2)))),.int (Mod (rawV t1.L (rawP t1.L t3.2.2.2)) (W (t2.1.last+2))),.int 0,.int (rng t1.L (rawP t1.L (rawP t1.L t3.2.2.2)) 1 4),.int 0,.int 0,.sl 0 [] true]] ∧
 (Bk (hears_n3 t raw x router t0 t1 t2) [0,1,2,3,390] (I3 t0 t1 t2) (m3 t0 t1 t2) (t3.1,W (t3.2.1+1),(t3.2.2.1++t4)++[(⟨3,x2.router,t2.1.router,maxI 0 (W (t2.1.epoch-(Mod (rawV t1.L t3.2.2.2) 2))),Mod (rawV t1.L (rawP t1.L t3.2.2.2)) (W (t2.1.last+2)),0,rng t1.L (rawP t1.L (rawP t1.L t3.2.2.2)) 1 4,0,0,[]⟩:Sig)],rawP t1.L (rawP t1.L (rawP t1.L t3.2.2.2))) t3)))))))))))))))
 (Rf (α:=List AV) [] (Rf (α:=List AV) (t2.2.heard.map Hrd.v)
 (ck (decide (0+t2.2.heard.length≤1000000))
 ((br (decide (0<((t2.2.heard.map Hrd.v).length:Int)))
 (Ch (Range_h t1.L t3.2.2.2 (-1) 3) [1] 277
 (ck (decide (0<((t2.2.heard.map Hrd.v).length:Int)))
 (Rf (t2.2.heard.map Hrd.v) (ck (decide (0<t2.2.heard.length))
 (∀y3,t2.2.heard[0]?=some y3→Rf (Hrd.v (⟨y3.router,y3.epoch,rng t1.L t3.2.2.2 (-1) 3,y3.items⟩:Hrd))
 (Be (hears_n5 t raw x router t0 t1 t2 t3) [0,2,3,4,37,117] (I5 t0 t1 t2 t3) (t2.2.router,t2.2.heard.set 0 (⟨y3.router,y3.epoch,rng t1.L t3.2.2.2 (-1) 3,y3.items⟩:Hrd))))))))
 (∃h4:[0,100]≠[],
 Ch (Pick_h t1.L t3.2.2.2 [0,100] h4) [1] 261
 (Be (hears_n5 t raw x router t0 t1 t2 t3) [0,2,3,4,37,117] (I5 t0 t1 t2 t3) (pickI [0,100] (rawV t1.L t3.2.2.2),t2.2.heard))))∧∀t5:Int×(List Hrd),I5 t0 t1 t2 t3 t5 →
 Rf (t5.2.map Hrd.v) (Rf (t3.2.2.1.map Sig.v) (Be (hears_n6 t raw x router t0 t1 t2 t3 t5) [1] (I6 t0 t1 t2 t3 t5) (0)∧∀t6,I6 t0 t1 t2 t3 t5 t6 →
 br (decide (t6<3))
 (Rf (α:=List AV) [.agg [.int raw.router,.int raw.epoch,.sl 4 (raw.heard.map Hrd.v) false],.agg [.int t2.2.router,.int t2.2.epoch,.sl 4 (t2.2.heard.map Hrd.v) false],.agg [.int t5.1,.int t2.2.epoch,.sl 4 (t5.2.map Hrd.v) false]] (ck (decide (0≤t6)) (ck (decide (t6<([raw,t2.2,(⟨t5.1,t2.2.epoch,t5.2⟩:Lsn)].length:Int)))
 (∀x5,[raw,t2.2,(⟨t5.1,t2.2.epoch,t5.2⟩:Lsn)][t6.toNat]?=some x5 →
 (Cl (valL_c x5)
 (Cl (valLR_c x5)
 (br ((valL x5) != (valL x5))
 (Be (hears_n7 t raw x router t0 t1 t2 t3 t5 t6 x5) [0,49] (I7 t0 t1 t2 t3 t5 t6 x5) (true))
 (Cl (agree_c t2.1 x5)
 (Cl (agreeR_c t2.1 x5)
 (Be (hears_n7 t raw x router t0 t1 t2 t3 t5 t6 x5) [0,49] (I7 t0 t1 t2 t3 t5 t6 x5) (!((decide (agree t2.1 x5))==(decide (agree t2.1 x5))))))))))∧∀t7:Bool,I7 t0 t1 t2 t3 t5 t6 x5 t7 →
 br t7
 (Rp hears_e (false) r0)
 (Be (hears_n8 t raw x router t0 t1 t2 t3 t5 t6 x5 t7) [0,1] (I8 t0 t1 t2 t3 t5 t6 x5 t7) (0)∧∀t8,I8 t0 t1 t2 t3 t5 t6 x5 t7 t8 →
 br (decide (t8<2))
 (Rf (α:=List AV) [.int router,.int t2.1.router] (ck (decide (0≤t8)) (ck (decide (t8<([router,t2.1.router].length:Int)))
 (∀x6,[router,t2.1.router][t8.toNat]?=some x6 →
 (Cl (knownF_c x5 x6)
 (Cl (knownR_c x5 x6)
 (Cl (sameW_c (knownW x5 x6) (knownW x5 x6))
 (Bj (hears_n9 t raw x router t0 t1 t2 t3 t5 t6 x5 t7 t8 x6) [0,1] (!(decide ((knownW x5 x6)=(knownW x5 x6))))))))∧∀t9:Bool,t9=((!(decide ((knownW x5 x6)=(knownW x5 x6)))):Bool) →
 br t9
 (Rp hears_e (false) r0)
 (Bk (hears_n8 t raw x router t0 t1 t2 t3 t5 t6 x5 t7) [0,1] (I8 t0 t1 t2 t3 t5 t6 x5 t7) (m8 t0 t1 t2 t3 t5 t6 x5 t7) (W (t8+1)) t8)))))
 (Rf (α:=List AV) (t3.2.2.1.map Sig.v) (ck (bndB t3.2.2.1.length 0 (minI ((t3.2.2.1.map Sig.v).length:Int) 12) (t3.2.2.1.length:Int))
 (Be (hears_n10 t raw x router t0 t1 t2 t3 t5 t6 x5 t7 t8) [0,1] (I10 t0 t1 t2 t3 t5 t6 x5 t7 t8) ((t3.2.2.1.take ((minI ((t3.2.2.1.map Sig.v).length:Int) 12).toNat)).drop 0,((((t3.2.2.1.take ((minI ((t3.2.2.1.map Sig.v).length:Int) 12).toNat)).drop 0).map Sig.v).length:Int),0)∧∀t10,I10 t0 t1 t2 t3 t5 t6 x5 t7 t8 t10 →
 br (decide (t10.2.2<t10.2.1))
 (Rf (t10.1.map Sig.v) (ck (decide (0≤t10.2.2)) (ck (decide (t10.2.2<(t10.1.length:Int)))
 (∀x7,t10.1[t10.2.2.toNat]?=some x7 →
 Be (hears_n11 t raw x router t0 t1 t2 t3 t5 t6 x5 t7 t8 t10 x7) [0,1] (I11 t0 t1 t2 t3 t5 t6 x5 t7 t8 t10 x7) (0)∧∀t11,I11 t0 t1 t2 t3 t5 t6 x5 t7 t8 t10 x7 t11 →
 br (decide (t11<2))
 (Rf (α:=List AV) [.agg [.int x7.kind,.int x7.src,.int x7.dst,.int x7.epoch,.int x7.ver,.int x7.prev,.int x7.pep,.int x7.grp,.int x7.mode,.sl 1 (x7.srcs.map AV.int) false],.agg [.int x7.kind,.int x7.src,.int x5.router,.int x7.epoch,.int x7.ver,.int x7.prev,.int x7.pep,.int x7.grp,.int x7.mode,.sl 1 (x7.srcs.map AV.int) false]] (ck (decide (0≤t11)) (ck (decide (t11<([x7,(⟨x7.kind,x7.src,x5.router,x7.epoch,x7.ver,x7.prev,x7.pep,x7.grp,x7.mode,x7.srcs⟩:Sig)].length:Int)))
 (∀x8,[x7,(⟨x7.kind,x7.src,x5.router,x7.epoch,x7.ver,x7.prev,x7.pep,x7.grp,x7.mode,x7.srcs⟩:Sig)][t11.toNat]?=some x8 →
 (Cl (hear_c x5 x8)
 (Bj (hears_n12 t raw x router t0 t1 t2 t3 t5 t6 x5 t7 t8 t10 x7 t11 x8) [0,1,50,194,210] ((hear x5 x8).2,(hear x5 x8).1.1,(hear x5 x8).1.2)))∧∀t12:Int×Lsn×Sig,t12=(((hear x5 x8).2,(hear x5 x8).1.1,(hear x5 x8).1.2):Int×Lsn×Sig) →
 (Cl (hearR_c x5 x8)
 (Bj (hears_n13 t raw x router t0 t1 t2 t3 t5 t6 x5 t7 t8 t10 x7 t11 x8 t12) [0,1,3,4,117,133] ((hear x5 x8).2,(hear x5 x8).1.1,(hear x5 x8).1.2)))∧∀t13:Int×Lsn×Sig,t13=(((hear x5 x8).2,(hear x5 x8).1.1,(hear x5 x8).1.2):Int×Lsn×Sig) →
 (br (t12.1 != t13.1)
 (Be (hears_n14 t raw x router t0 t1 t2 t3 t5 t6 x5 t7 t8 t10 x7 t11 x8 t12 t13) [0,1] (I14 t0 t1 t2 t3 t5 t6 x5 t7 t8 t10 x7 t11 x8 t12 t13) (true))
 (Cl (sameL_c t12.2.1 t13.2.1)
 (br (!(decide (t12.2.1=t13.2.1)))
 (Be (hears_n14 t raw x router t0 t1 t2 t3 t5 t6 x5 t7 t8 t10 x7 t11 x8 t12 t13) [0,1] (I14 t0 t1 t2 t3 t5 t6 x5 t7 t8 t10 x7 t11 x8 t12 t13) (true))
 (Cl (sameG_c t12.2.2 t13.2.2)
 (Be (hears_n14 t raw x router t0 t1 t2 t3 t5 t6 x5 t7 t8 t10 x7 t11 x8 t12 t13) [0,1] (I14 t0 t1 t2 t3 t5 t6 x5 t7 t8 t10 x7 t11 x8 t12 t13) (!(decide (t12.2.2=t13.2.2))))))))∧∀t14:Bool,I14 t0 t1 t2 t3 t5 t6 x5 t7 t8 t10 x7 t11 x8 t12 t13 t14 →
 br t14
 (Rp hears_e (false) r0)
 (Bk (hears_n11 t raw x router t0 t1 t2 t3 t5 t6 x5 t7 t8 t10 x7) [0,1] (I11 t0 t1 t2 t3 t5 t6 x5 t7 t8 t10 x7) (m11 t0 t1 t2 t3 t5 t6 x5 t7 t8 t10 x7) (W (t11+1)) t11)))))
 (Bk (hears_n10 t raw x router t0 t1 t2 t3 t5 t6 x5 t7 t8) [0,1] (I10 t0 t1 t2 t3 t5 t6 x5 t7 t8) (m10 t0 t1 t2 t3 t5 t6 x5 t7 t8) (t10.1,t10.2.1,W (t10.2.2+1)) t10)))))
 (Bk (hears_n6 t raw x router t0 t1 t2 t3 t5) [0] (I6 t0 t1 t2 t3 t5) (m6 t0 t1 t2 t3 t5) (W (t6+1)) t6)))))))))
 (Rf (α:=List AV) (t3.2.2.1.map Sig.v) (ck (bndB t3.2.2.1.length 0 (minI ((t3.2.2.1.map Sig.v).length:Int) 20) (t3.2.2.1.length:Int))
 (Be (hears_n15 t raw x router t0 t1 t2 t3 t5 t6) [0] (I15 t0 t1 t2 t3 t5 t6) ((t3.2.2.1.take ((minI ((t3.2.2.1.map Sig.v).length:Int) 20).toNat)).drop 0,((((t3.2.2.1.take ((minI ((t3.2.2.1.map Sig.v).length:Int) 20).toNat)).drop 0).map Sig.v).length:Int),0)∧∀t15,I15 t0 t1 t2 t3 t5 t6 t15 →
 br (decide (t15.2.2<t15.2.1))
 (Rf (t15.1.map Sig.v) (ck (decide (0≤t15.2.2)) (ck (decide (t15.2.2<(t15.1.length:Int)))
 (∀x9,t15.1[t15.2.2.toNat]?=some x9 →
 (Cl (ack_c t2.1 x9)
 (Bj (hears_n16 t raw x router t0 t1 t2 t3 t5 t6 t15 x9) [0,49,177] ((ack t2.1 x9).2,(ack t2.1 x9).1)))∧∀t16:Int×Spk,t16=(((ack t2.1 x9).2,(ack t2.1 x9).1):Int×Spk) →
 (Cl (ackR_c t2.1 x9)
 (Bj (hears_n17 t raw x router t0 t1 t2 t3 t5 t6 t15 x9 t16) [0,2,99] ((ack t2.1 x9).2,(ack t2.1 x9).1)))∧∀t17:Int×Spk,t17=(((ack t2.1 x9).2,(ack t2.1 x9).1):Int×Spk) →
 (br (t16.1 != t17.1)
 (Be (hears_n18 t raw x router t0 t1 t2 t3 t5 t6 t15 x9 t16 t17) [0] (I18 t0 t1 t2 t3 t5 t6 t15 x9 t16 t17) (true))
 (Cl (sameS_c t16.2 t17.2)
 (Be (hears_n18 t raw x router t0 t1 t2 t3 t5 t6 t15 x9 t16 t17) [0] (I18 t0 t1 t2 t3 t5 t6 t15 x9 t16 t17) (!(decide (t16.2=t17.2))))))∧∀t18:Bool,I18 t0 t1 t2 t3 t5 t6 t15 x9 t16 t17 t18 →
 br t18
 (Rp hears_e (false) r0)
 (Bk (hears_n15 t raw x router t0 t1 t2 t3 t5 t6) [0] (I15 t0 t1 t2 t3 t5 t6) (m15 t0 t1 t2 t3 t5 t6) (t15.1,t15.2.1,W (t15.2.2+1)) t15)))))
 (Cl (awake_c )
 (Rp hears_e (true) r0)))))))))))))))
theorem hears_ok(t:(List Int))(raw:Lsn)(x:Sig)(router:Int)(I0:Bool→Prop)(I3:Bool→Tap→Spk×Lsn→(Int×Int×(List Sig)×Nat)→Prop)(m3:Bool→Tap→Spk×Lsn→(Int×Int×(List Sig)×Nat)→Nat)(I5:Bool→Tap→Spk×Lsn→Int×Int×(List Sig)×Nat→(Int×(List Hrd))→Prop)(I6:Bool→Tap→Spk×Lsn→Int×Int×(List Sig)×Nat→Int×(List Hrd)→Int→Prop)(m6:Bool→Tap→Spk×Lsn→Int×Int×(List Sig)×Nat→Int×(List Hrd)→Int→Nat)(I7:Bool→Tap→Spk×Lsn→Int×Int×(List Sig)×Nat→Int×(List Hrd)→Int→Lsn→Bool→Prop)(I8:Bool→Tap→Spk×Lsn→Int×Int×(List Sig)×Nat→Int×(List Hrd)→Int→Lsn→Bool→Int→Prop)(m8:Bool→Tap→Spk×Lsn→Int×Int×(List Sig)×Nat→Int×(List Hrd)→Int→Lsn→Bool→Int→Nat)(I10:Bool→Tap→Spk×Lsn→Int×Int×(List Sig)×Nat→Int×(List Hrd)→Int→Lsn→Bool→Int→((List Sig)×Int×Int)→Prop)(m10:Bool→Tap→Spk×Lsn→Int×Int×(List Sig)×Nat→Int×(List Hrd)→Int→Lsn→Bool→Int→((List Sig)×Int×Int)→Nat)(I11:Bool→Tap→Spk×Lsn→Int×Int×(List Sig)×Nat→Int×(List Hrd)→Int→Lsn→Bool→Int→(List Sig)×Int×Int→Sig→Int→Prop)(m11:Bool→Tap→Spk×Lsn→Int×Int×(List Sig)×Nat→Int×(List Hrd)→Int→Lsn→Bool→Int→(List Sig)×Int×Int→Sig→Int→Nat)(I14:Bool→Tap→Spk×Lsn→Int×Int×(List Sig)×Nat→Int×(List Hrd)→Int→Lsn→Bool→Int→(List Sig)×Int×Int→Sig→Int→Sig→Int×Lsn×Sig→Int×Lsn×Sig→Bool→Prop)(I15:Bool→Tap→Spk×Lsn→Int×Int×(List Sig)×Nat→Int×(List Hrd)→Int→((List Sig)×Int×Int)→Prop)(m15:Bool→Tap→Spk×Lsn→Int×Int×(List Sig)×Nat→Int×(List Hrd)→Int→((List Sig)×Int×Int)→Nat)(I18:Bool→Tap→Spk×Lsn→Int×Int×(List Sig)×Nat→Int×(List Hrd)→Int→(List Sig)×Int×Int→Sig→Int×Spk→Int×Spk→Bool→Prop)(r0:Bool)(h:hears_vc t raw x router I0 I3 m3 I5 I6 m6 I7 I8 m8 I10 m10 I11 m11 I14 I15 m15 I18 r0):PSpec Tryz.prog 6 [.sl 1 (t.map AV.int) false,.agg [.int raw.router,.int raw.epoch,.sl 4 (raw.heard.map Hrd.v) false],.agg [.int x.kind,.int x.src,.int x.dst,.int x.epoch,.int x.ver,.int x.prev,.int x.pep,.int x.grp,.int x.mode,.sl 1 (x.srcs.map AV.int) false],.int router] (hears_e r0):=mxP_of (sh:=.k) (a:=((.pass (.pass (.join 0 (hears_n0 t raw x router) (fun t0=>I0 t0) (.callP (smallL_c raw)
 (.br 112 (.back 0 ((true):Bool) [0,16])
 (.back 0 ((decide (110<((x.srcs.map AV.int).length:Int))):Bool) [0,16]))) fun (t0:Bool) =>
 (.br 2 (.callP (awake_c )
 (.ret (true)))
 (.join 1 (hears_n1 t raw x router t0) (fun t1=>t1=(((⟨t.take 2000,0⟩:Tap)):Tap)) (.callH [] (New_h t)
 (.back 1 (((⟨t.take 2000,0⟩:Tap)):Tap) [0,1,18])) fun (t1:Tap) =>
 (.join 2 (hears_n2 t raw x router t0 t1) (fun t2=>t2=(((spkT t1.L t1.p).1,(lsnT t1.L ((spkT t1.L t1.p).2)).1):Spk×Lsn)) (.callH [2] (spkT_h t1.L t1.p)
 (.callH [2] (lsnT_h t1.L ((spkT t1.L t1.p).2))
 (.back 2 (((spkT t1.L t1.p).1,(lsnT t1.L ((spkT t1.L t1.p).2)).1):Spk×Lsn) [0,1,2,67,83]))) fun (t2:Spk×Lsn) =>
 (.callH [2] (sigT_h t1.L ((lsnT t1.L ((spkT t1.L t1.p).2)).2))
 (.callH [2] (sigT_h t1.L ((sigT t1.L ((lsnT t1.L ((spkT t1.L t1.p).2)).2)).2))
 (.req 101 (((sigT t1.L ((sigT t1.L ((lsnT t1.L ((spkT t1.L t1.p).2)).2)).2)).1).srcs.length≤900000) fun h1 =>
 (.callH [2] (bentG_h t1.L ((sigT t1.L ((sigT t1.L ((lsnT t1.L ((spkT t1.L t1.p).2)).2)).2)).2) ((sigT t1.L ((sigT t1.L ((lsnT t1.L ((spkT t1.L t1.p).2)).2)).2)).1) h1)
 (.own 117 (.loop 3 (hears_n3 t raw x router t0 t1 t2) (I3 t0 t1 t2) (m3 t0 t1 t2) ((((t2.1.peers.map Per.v).length:Int),0,[x,(sigT t1.L ((lsnT t1.L ((spkT t1.L t1.p).2)).2)).1,(bentG t1.L ((sigT t1.L ((sigT t1.L ((lsnT t1.L ((spkT t1.L t1.p).2)).2)).2)).2) ((sigT t1.L ((sigT t1.L ((lsnT t1.L ((spkT t1.L t1.p).2)).2)).2)).1)).1],(bentG t1.L ((sigT t1.L ((sigT t1.L ((lsnT t1.L ((spkT t1.L t1.p).2)).2)).2)).2) ((sigT t1.L ((sigT t1.L ((lsnT t1.L ((spkT t1.L t1.p).2)).2)).2)).1)).2):Int×Int×(List Sig)×Nat) [0,2,3,4,117] fun (t3:Int×Int×(List Sig)×Nat) =>
 (.br 21 (.el 21 Per.v t2.1.peers fun x2 =>
 (.join 4 (hears_n4 t raw x router t0 t1 t2 t3 x2) (fun t4=>t4=(((send t2.1 x2.router).1):(List Sig))) (.callP (sendR_c t2.1 x2.router)
 (.back 4 (((send t2.1 x2.router).1):(List Sig)) [0,1,2,3,4,53])) fun (t4:(List Sig)) =>
 (.app 38 Sig.v t3.2.2.1 t4
 (.callH [1] (N_h t1.L t3.2.2.2 2)
 (.callH [1] (N_h t1.L (rawP t1.L t3.2.2.2) (W (t2.1.last+2)))
 (.callH [1] (Range_h t1.L (rawP t1.L (rawP t1.L t3.2.2.2)) 1 4)
 (.app 390 (fun y:AV=>y) ((t3.2.2.1++t4).map Sig.v) [.agg [.int 3,.int x2.router,.int t2.1.router,.int (maxI 0 (W (t2.1.epoch-(Mod (rawV t1.L t3.2.2.2) 2)))),.int (Mod (rawV t1.L (rawP t1.L t3.2.2.2)) (W (t2.1.last+2))),.int 0,.int (rng t1.L (rawP t1.L (rawP t1.L t3.2.2.2)) 1 4),.int 0,.int 0,.sl 0 [] true]]
 (.cmd (.wkV 390 (.a [.k,.k,.k,.k,.k,.k,.k,.k,.k,(.s 1)]) Sig.v ((t3.2.2.1++t4)++[(⟨3,x2.router,t2.1.router,maxI 0 (W (t2.1.epoch-(Mod (rawV t1.L t3.2.2.2) 2))),Mod (rawV t1.L (rawP t1.L t3.2.2.2)) (W (t2.1.last+2)),0,rng t1.L (rawP t1.L (rawP t1.L t3.2.2.2)) 1 4,0,0,[]⟩:Sig)])) (.back 3 ((t3.1,W (t3.2.1+1),(t3.2.2.1++t4)++[(⟨3,x2.router,t2.1.router,maxI 0 (W (t2.1.epoch-(Mod (rawV t1.L t3.2.2.2) 2))),Mod (rawV t1.L (rawP t1.L t3.2.2.2)) (W (t2.1.last+2)),0,rng t1.L (rawP t1.L (rawP t1.L t3.2.2.2)) 1 4,0,0,[]⟩:Sig)],rawP t1.L (rawP t1.L (rawP t1.L t3.2.2.2))):Int×Int×(List Sig)×Nat) [0,1,2,3,390])))))))))
 (.app 117 Hrd.v [] t2.2.heard
 (.join 5 (hears_n5 t raw x router t0 t1 t2 t3) (fun t5=>I5 t0 t1 t2 t3 t5) (.br 229 (.callH [1] (Range_h t1.L t3.2.2.2 (-1) 3)
 (.st 325 Hrd.v t2.2.heard (fun y3=>(⟨y3.router,y3.epoch,rng t1.L t3.2.2.2 (-1) 3,y3.items⟩:Hrd)) fun y3 =>
 (.back 5 ((t2.2.router,t2.2.heard.set 0 (⟨y3.router,y3.epoch,rng t1.L t3.2.2.2 (-1) 3,y3.items⟩:Hrd)):Int×(List Hrd)) [0,2,3,4,37,117])))
 (.req 261 ([0,100]≠[]) fun h4 =>
 (.callH [1] (Pick_h t1.L t3.2.2.2 [0,100] h4)
 (.back 5 ((pickI [0,100] (rawV t1.L t3.2.2.2),t2.2.heard):Int×(List Hrd)) [0,2,3,4,37,117])))) fun (t5:Int×(List Hrd)) =>
 (.cmd (.frzE 5 (t5.2.map Hrd.v) (pureBL_map (fun _=>rfl) t5.2)) (.cmd (.frzE 3 (t3.2.2.1.map Sig.v) (pureBL_map (fun _=>rfl) t3.2.2.1)) (.loop 6 (hears_n6 t raw x router t0 t1 t2 t3 t5) (I6 t0 t1 t2 t3 t5) (m6 t0 t1 t2 t3 t5) ((0):Int) [1] fun (t6:Int) =>
 (.br 17 (.el 17 Lsn.v [raw,t2.2,(⟨t5.1,t2.2.epoch,t5.2⟩:Lsn)] fun x5 =>
 (.pass (.join 7 (hears_n7 t raw x router t0 t1 t2 t3 t5 t6 x5) (fun t7=>I7 t0 t1 t2 t3 t5 t6 x5 t7) (.callP (valL_c x5)
 (.callP (valLR_c x5)
 (.br 177 (.back 7 ((true):Bool) [0,49])
 (.callP (agree_c t2.1 x5)
 (.callP (agreeR_c t2.1 x5)
 (.back 7 ((!((decide (agree t2.1 x5))==(decide (agree t2.1 x5)))):Bool) [0,49])))))) fun (t7:Bool) =>
 (.br 2 (.ret (false))
 (.loop 8 (hears_n8 t raw x router t0 t1 t2 t3 t5 t6 x5 t7) (I8 t0 t1 t2 t3 t5 t6 x5 t7) (m8 t0 t1 t2 t3 t5 t6 x5 t7) ((0):Int) [0,1] fun (t8:Int) =>
 (.br 18 (.el 18 AV.int [router,t2.1.router] fun x6 =>
 (.join 9 (hears_n9 t raw x router t0 t1 t2 t3 t5 t6 x5 t7 t8 x6) (fun t9=>t9=((!(decide ((knownW x5 x6)=(knownW x5 x6)))):Bool)) (.callP (knownF_c x5 x6)
 (.callP (knownR_c x5 x6)
 (.callP (sameW_c (knownW x5 x6) (knownW x5 x6))
 (.back 9 ((!(decide ((knownW x5 x6)=(knownW x5 x6)))):Bool) [0,1])))) fun (t9:Bool) =>
 (.br 2 (.ret (false))
 (.back 8 ((W (t8+1)):Int) [0,1]))))
 (.sub 82 Sig.v t3.2.2.1 false
 (.loop 10 (hears_n10 t raw x router t0 t1 t2 t3 t5 t6 x5 t7 t8) (I10 t0 t1 t2 t3 t5 t6 x5 t7 t8) (m10 t0 t1 t2 t3 t5 t6 x5 t7 t8) (((t3.2.2.1.take ((minI ((t3.2.2.1.map Sig.v).length:Int) 12).toNat)).drop 0,((((t3.2.2.1.take ((minI ((t3.2.2.1.map Sig.v).length:Int) 12).toNat)).drop 0).map Sig.v).length:Int),0):(List Sig)×Int×Int) [0,1] fun (t10:(List Sig)×Int×Int) =>
 (.br 18 (.el 18 Sig.v t10.1 fun x7 =>
 (.loop 11 (hears_n11 t raw x router t0 t1 t2 t3 t5 t6 x5 t7 t8 t10 x7) (I11 t0 t1 t2 t3 t5 t6 x5 t7 t8 t10 x7) (m11 t0 t1 t2 t3 t5 t6 x5 t7 t8 t10 x7) ((0):Int) [0,1] fun (t11:Int) =>
 (.br 18 (.el 18 Sig.v [x7,(⟨x7.kind,x7.src,x5.router,x7.epoch,x7.ver,x7.prev,x7.pep,x7.grp,x7.mode,x7.srcs⟩:Sig)] fun x8 =>
 (.join 12 (hears_n12 t raw x router t0 t1 t2 t3 t5 t6 x5 t7 t8 t10 x7 t11 x8) (fun t12=>t12=(((hear x5 x8).2,(hear x5 x8).1.1,(hear x5 x8).1.2):Int×Lsn×Sig)) (.callP (hear_c x5 x8)
 (.back 12 (((hear x5 x8).2,(hear x5 x8).1.1,(hear x5 x8).1.2):Int×Lsn×Sig) [0,1,50,194,210])) fun (t12:Int×Lsn×Sig) =>
 (.join 13 (hears_n13 t raw x router t0 t1 t2 t3 t5 t6 x5 t7 t8 t10 x7 t11 x8 t12) (fun t13=>t13=(((hear x5 x8).2,(hear x5 x8).1.1,(hear x5 x8).1.2):Int×Lsn×Sig)) (.callP (hearR_c x5 x8)
 (.back 13 (((hear x5 x8).2,(hear x5 x8).1.1,(hear x5 x8).1.2):Int×Lsn×Sig) [0,1,3,4,117,133])) fun (t13:Int×Lsn×Sig) =>
 (.join 14 (hears_n14 t raw x router t0 t1 t2 t3 t5 t6 x5 t7 t8 t10 x7 t11 x8 t12 t13) (fun t14=>I14 t0 t1 t2 t3 t5 t6 x5 t7 t8 t10 x7 t11 x8 t12 t13 t14) (.br 70 (.back 14 ((true):Bool) [0,1])
 (.callP (sameL_c t12.2.1 t13.2.1)
 (.br 166 (.back 14 ((true):Bool) [0,1])
 (.callP (sameG_c t12.2.2 t13.2.2)
 (.back 14 ((!(decide (t12.2.2=t13.2.2))):Bool) [0,1]))))) fun (t14:Bool) =>
 (.br 2 (.ret (false))
 (.back 11 ((W (t11+1)):Int) [0,1]))))))
 (.back 10 ((t10.1,t10.2.1,W (t10.2.2+1)):(List Sig)×Int×Int) [0,1]))))
 (.back 6 ((W (t6+1)):Int) [0]))))))))))
 (.sub 81 Sig.v t3.2.2.1 false
 (.loop 15 (hears_n15 t raw x router t0 t1 t2 t3 t5 t6) (I15 t0 t1 t2 t3 t5 t6) (m15 t0 t1 t2 t3 t5 t6) (((t3.2.2.1.take ((minI ((t3.2.2.1.map Sig.v).length:Int) 20).toNat)).drop 0,((((t3.2.2.1.take ((minI ((t3.2.2.1.map Sig.v).length:Int) 20).toNat)).drop 0).map Sig.v).length:Int),0):(List Sig)×Int×Int) [0] fun (t15:(List Sig)×Int×Int) =>
 (.br 17 (.el 17 Sig.v t15.1 fun x9 =>
 (.join 16 (hears_n16 t raw x router t0 t1 t2 t3 t5 t6 t15 x9) (fun t16=>t16=(((ack t2.1 x9).2,(ack t2.1 x9).1):Int×Spk)) (.callP (ack_c t2.1 x9)
 (.back 16 (((ack t2.1 x9).2,(ack t2.1 x9).1):Int×Spk) [0,49,177])) fun (t16:Int×Spk) =>
 (.join 17 (hears_n17 t raw x router t0 t1 t2 t3 t5 t6 t15 x9 t16) (fun t17=>t17=(((ack t2.1 x9).2,(ack t2.1 x9).1):Int×Spk)) (.callP (ackR_c t2.1 x9)
 (.back 17 (((ack t2.1 x9).2,(ack t2.1 x9).1):Int×Spk) [0,2,99])) fun (t17:Int×Spk) =>
 (.join 18 (hears_n18 t raw x router t0 t1 t2 t3 t5 t6 t15 x9 t16 t17) (fun t18=>I18 t0 t1 t2 t3 t5 t6 t15 x9 t16 t17 t18) (.br 67 (.back 18 ((true):Bool) [0])
 (.callP (sameS_c t16.2 t17.2)
 (.back 18 ((!(decide (t16.2=t17.2))):Bool) [0]))) fun (t18:Bool) =>
 (.br 1 (.ret (false))
 (.back 15 ((t15.1,t15.2.1,W (t15.2.2+1)):(List Sig)×Int×Int) [0]))))))
 (.callP (awake_c )
 (.ret (true))))))))))))))))))))))))):An Tryz.prog hears_s (Bool))) h (by kernel_rfl) (AV.pureB_ok rfl)
theorem hears_p(t:List Int)(raw:Lsn)(x:Sig)(router:Int)(ok:hears_a t raw x router) :
    ∃I0 I3 m3 I5 I6 m6 I7 I8 m8 I10 m10 I11 m11 I14 I15 m15 I18,hears_vc t raw x router I0 I3 m3 I5 I6 m6 I7 I8 m8 I10 m10 I11 m11 I14 I15 m15 I18 true:=by
  refine ⟨fun _=>True,
    fun _ _ t2 u=>u.1=(t2.1.peers.length:Int)∧∃k:Nat,u.2.1=k∧k≤t2.1.peers.length∧u.2.2.1.length≤3+k * 101,fun _ _ t2 u=>t2.1.peers.length-u.2.1.toNat,
    fun _ _ _ _ _=>True,
    fun _ _ _ _ _ x=>∃k:Nat,x=k∧k≤3,fun _ _ _ _ _ x=>3-x.toNat,
    fun _ _ _ _ _ _ _ x=>x=false,
    fun _ _ _ _ _ _ _ _ x=>∃k:Nat,x=k∧k≤2,fun _ _ _ _ _ _ _ _ x=>2-x.toNat,
    fun _ _ _ _ _ _ _ _ _ u=>u.2.1=(u.1.length:Int)∧u.1.length≤12∧∃k:Nat,u.2.2=k∧k≤u.1.length,fun _ _ _ _ _ _ _ _ _ u=>u.1.length-u.2.2.toNat,
    fun _ _ _ _ _ _ _ _ _ _ _ x=>∃k:Nat,x=k∧k≤2,fun _ _ _ _ _ _ _ _ _ _ _ x=>2-x.toNat,
    fun _ _ _ _ _ _ _ _ _ _ _ _ _ _ _ x=>x=false,
    fun _ _ _ _ _ _ u=>u.2.1=(u.1.length:Int)∧u.1.length≤20∧∃k:Nat,u.2.2=k∧k≤u.1.length,fun _ _ _ _ _ _ u=>u.1.length-u.2.2.toNat,
    fun _ _ _ _ _ _ _ _ _ _ x=>x=false,?_⟩
  simp only [hears_vc,vcU,rfU,List.length_map]
  refine ⟨⟨fun _=>trivial,fun _=>trivial⟩,?_⟩
  rintro t0 -
  refine ⟨fun _=>trivial,fun _=>⟨trivial,?_⟩⟩
  intro t1 h1
  refine ⟨trivial,?_⟩
  intro t2 h2
  have ha:spkOk t2.1:=by rw [h2];exact spkT_k
  have hpl:t2.1.peers.length≤12:=ha.2.2.2.2.1
  have hhl:t2.2.heard.length≤12:=by rw [h2];exact lsnT_len
  have hsl:=sigT_len (L:=t1.L) (p:=(sigT t1.L (lsnT t1.L (spkT t1.L t1.p).2).2).2)
  clear h1 h2
  refine ⟨by omega,⟨trivial,0,rfl,by omega,by simp⟩,?_⟩
  rintro ⟨n,i,sg,q⟩ ⟨hn,k,hi,hk,hl⟩
  simp only at hn hi hl ⊢
  subst hn hi
  refine ⟨fun c1=>⟨by omega,by omega,fun z hz=>⟨trivial,?_⟩⟩,fun c1=>⟨by omega,⟨fun c2=>⟨c2,by omega,fun _ _=>trivial⟩,fun _=>⟨by simp,trivial⟩⟩,?_⟩⟩
  · intro t4 h4
    have hl4:t4.length≤100:=by rw [h4];exact send_le
    rw [W_succ (n:=t2.1.peers.length) (by omega) (by omega)]
    refine ⟨by omega,by simp;omega,fitE_one (fun _=>rfl) rfl,⟨rfl,k+1,rfl,by omega,by simp;omega⟩,by omega⟩
  rintro t5 -
  refine ⟨⟨0,rfl,by omega⟩,?_⟩
  rintro _ ⟨a,rfl,ha3⟩
  simp only [Int.toNat_natCast]
  refine ⟨fun c2=>⟨by omega,by simp;omega,fun y hy=>⟨by simp,?_⟩⟩,fun c2=>?_⟩
  · rintro _ rfl
    refine ⟨fun e=>by simp at e,fun _=>⟨⟨0,rfl,by omega⟩,?_⟩⟩
    rintro _ ⟨b,rfl,hb⟩
    simp only [Int.toNat_natCast]
    refine ⟨fun c3=>⟨by omega,by simp;omega,fun z hz=>⟨trivial,?_⟩⟩,fun c3=>?_⟩
    · rintro _ rfl
      rw [W_succ (n:=2) (by omega) (by omega)]
      exact ⟨by simp,fun _=>⟨⟨b+1,rfl,by omega⟩,by omega⟩⟩
    have hm:minI (sg.length:Int) 12=((min sg.length 12:Nat):Int):=by unfold minI;split<;>omega
    rw [hm,Int.toNat_natCast,List.drop_zero]
    refine ⟨by simp [bndB];omega,⟨trivial,by simp;omega,0,rfl,by omega⟩,?_⟩
    rintro ⟨S,n2,j⟩ ⟨hn2,hS,d,hj,hd⟩
    simp only at hn2 hS hj hd ⊢
    subst hn2 hj
    simp only [Int.toNat_natCast]
    refine ⟨fun c4=>⟨by omega,by omega,fun w hw=>⟨⟨0,rfl,by omega⟩,?_⟩⟩,fun c4=>?_⟩
    · rintro _ ⟨f,rfl,hf⟩
      simp only [Int.toNat_natCast]
      refine ⟨fun c5=>⟨by omega,by simp;omega,fun v hv=>⟨trivial,?_⟩⟩,fun c5=>?_⟩
      · rintro _ rfl
        refine ⟨trivial,?_⟩
        rintro _ rfl
        refine ⟨by simp,?_⟩
        rintro _ rfl
        rw [W_succ (n:=2) (by omega) (by omega)]
        exact ⟨fun e=>by simp at e,fun _=>⟨⟨f+1,rfl,by omega⟩,by omega⟩⟩
      · rw [W_succ (n:=S.length) (by omega) (by omega)]
        exact ⟨⟨trivial,hS,d+1,rfl,by omega⟩,by omega⟩
    · rw [W_succ (n:=3) (by omega) (by omega)]
      exact ⟨⟨a+1,rfl,by omega⟩,by omega⟩
  · have hm:minI (sg.length:Int) 20=((min sg.length 20:Nat):Int):=by unfold minI;split<;>omega
    rw [hm,Int.toNat_natCast,List.drop_zero]
    refine ⟨by simp [bndB];omega,⟨trivial,by simp;omega,0,rfl,by omega⟩,?_⟩
    rintro ⟨S,n2,j⟩ ⟨hn2,hS,d,hj,hd⟩
    simp only at hn2 hS hj hd ⊢
    subst hn2 hj
    simp only [Int.toNat_natCast]
    refine ⟨fun c4=>⟨by omega,by omega,fun w hw=>⟨trivial,?_⟩⟩,fun _=>trivial⟩
    rintro _ rfl
    refine ⟨trivial,?_⟩
    rintro _ rfl
    refine ⟨by simp,?_⟩
    rintro _ rfl
    rw [W_succ (n:=S.length) (by omega) (by omega)]
    exact ⟨fun e=>by simp at e,fun _=>⟨⟨trivial,hS,d+1,rfl,by omega⟩,by omega⟩⟩
def hears_c(t:(List Int))(raw:Lsn)(x:Sig)(router:Int):PC Tryz.prog:=⟨6,[(.s 1),(.a [.k,.k,(.s 4)]),(.a [.k,.k,.k,.k,.k,.k,.k,.k,.k,(.s 1)]),.k],[.sl 1 (t.map AV.int) false,.agg [.int raw.router,.int raw.epoch,.sl 4 (raw.heard.map Hrd.v) false],.agg [.int x.kind,.int x.src,.int x.dst,.int x.epoch,.int x.ver,.int x.prev,.int x.pep,.int x.grp,.int x.mode,.sl 1 (x.srcs.map AV.int) false],.int router],hears_e true,PSpec.of_ok fun ok=>(hears_p t raw x router ok).elim fun I0 h=>h.elim fun I3 h=>h.elim fun m3 h=>h.elim fun I5 h=>h.elim fun I6 h=>h.elim fun m6 h=>h.elim fun I7 h=>h.elim fun I8 h=>h.elim fun m8 h=>h.elim fun I10 h=>h.elim fun m10 h=>h.elim fun I11 h=>h.elim fun m11 h=>h.elim fun I14 h=>h.elim fun I15 h=>h.elim fun m15 h=>h.elim fun I18 h=>hears_ok t raw x router I0 I3 m3 I5 I6 m6 I7 I8 m8 I10 m10 I11 m11 I14 I15 m15 I18 _ h,fnB_ok (by kernel_rfl)⟩
end Go.Proofs.YtgnogboljobocaaGreatDoor
