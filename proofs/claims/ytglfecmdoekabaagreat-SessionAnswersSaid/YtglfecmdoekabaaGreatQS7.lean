/- Texts joined: G23 U14 G50. -/
import Derived.Test.YtglfecmdoekabaaGreatQS6
namespace Go.Proofs.YtglfecmdoekabaaGreat
open Go Go.Am
set_option linter.unusedVariables false
set_option linter.unusedSimpArgs false
def newO_a (router:Int) (epoch:Int) (peers:(List Int)):Prop:=okL [.int router,.int epoch,.sl 1 (peers.map AV.int) false]
def newO_n0 (router:Int) (epoch:Int) (peers:(List Int)) (t0:Int × (List Per)):NF:=⟨[(6,.k,.ref 0 0),(8,.k,.ref 1 0),(19,.k,.sl 1 (peers.map AV.int) false),(20,.k,.int ((peers.map AV.int).length:Int)),(21,.k,.int t0.1)],[.box (.agg [.int 0,.int 0,.int 0,.sl 0 [] true,.sl 0 [] true]),.box (.agg [.int router,.int epoch,.int 0,.sl 0 [] true,.vec 2]),.vec 3 (t0.2.map Per.v) (pureBL_map (fun _=>rfl) t0.2)]⟩
def newO_s:Nat → Type
  | 0=>Int × (List Per)
  | _=>Unit
def newO_e (r:Spk × Int):AV:=.tup [.agg [.int r.1.router,.int r.1.epoch,.int r.1.last,.sl 4 (r.1.items.map Itm.v) false,.vec 0],.int r.2]
def newO_b (r:Spk × Int):List (Option Blk):=[some (.vec 3 (r.1.peers.map Per.v))]
def newO_vc (router:Int) (epoch:Int) (peers:(List Int)) (I0:(Int × (List Per)) → Prop) (m0:(Int × (List Per)) → Nat) (r0:Spk × Int):Prop:=
 br (decide (12 < ((peers.map AV.int).length:Int)))
 (Nf ⟨[(6,.k,.ref 1 0),(7,.k,.int 1)],[.vec 3 [] rfl,.box (.agg [.int 0,.int 0,.int 0,.sl 0 [] true,.vec 0])]⟩ [208,0] (Rf (newO_e ((⟨0,0,0,[],[]⟩:Spk),1)) (Rf (newO_b ((⟨0,0,0,[],[]⟩:Spk),1)) (((⟨0,0,0,[],[]⟩:Spk),1) = r0))))
 (Nf (newO_n0 router epoch peers (0,[])) [0,80,208] (I0 (0,[])) ∧ ∀ t0:Int × (List Per),I0 t0 →
 br (decide (t0.1 < ((peers.map AV.int).length:Int)))
 (Rf (peers.map AV.int) (ck (decide (0 ≤ t0.1)) (ck (decide (t0.1 < (peers.length:Int)))
 (∀ x1,peers[t0.1.toNat]? = some x1 →
 Rf (α:=List AV) (t0.2.map Per.v) (Rf (α:=List AV) [.agg [.int x1,.int 0,.int 0]]
 (ck (decide (t0.2.length + 1 ≤ 1000000))
 (Nf (newO_n0 router epoch peers (W (t0.1 + 1),t0.2 ++ [(⟨x1,0,0⟩:Per)])) [0,1,147] (I0 (W (t0.1 + 1),t0.2 ++ [(⟨x1,0,0⟩:Per)]) ∧ m0 (W (t0.1 + 1),t0.2 ++ [(⟨x1,0,0⟩:Per)]) < m0 t0))))))))
 (Cl (valR6_c (⟨router,epoch,0,[],t0.2⟩:Spk))
 (ck (pureBLs [(t0.2.map Per.v)])
 (br ((valS (⟨router,epoch,0,[],t0.2⟩:Spk)) != 0)
 (Nf ⟨[(6,.k,.ref 1 0),(7,.k,.int (valS (⟨router,epoch,0,[],t0.2⟩:Spk)))],[.vec 3 [] rfl,.box (.agg [.int 0,.int 0,.int 0,.sl 0 [] true,.vec 0])]⟩ [163,0] (Rf (newO_e ((⟨0,0,0,[],[]⟩:Spk),valS (⟨router,epoch,0,[],t0.2⟩:Spk))) (Rf (newO_b ((⟨0,0,0,[],[]⟩:Spk),valS (⟨router,epoch,0,[],t0.2⟩:Spk))) (((⟨0,0,0,[],[]⟩:Spk),valS (⟨router,epoch,0,[],t0.2⟩:Spk)) = r0))))
 (Nf ⟨[(6,.k,.ref 1 0),(7,.k,.int 0)],[.vec 3 (t0.2.map Per.v) (pureBL_map (fun _=>rfl) t0.2),.box (.agg [.int router,.int epoch,.int 0,.sl 0 [] true,.vec 0])]⟩ [2,0] (Rf (newO_e ((⟨router,epoch,0,[],t0.2⟩:Spk),0)) (Rf (newO_b ((⟨router,epoch,0,[],t0.2⟩:Spk),0)) (((⟨router,epoch,0,[],t0.2⟩:Spk),0) = r0))))))))
theorem newO_eq (router:Int) (epoch:Int) (peers:(List Int)) (I0:(Int × (List Per)) → Prop) (m0:(Int × (List Per)) → Nat) (r0:Spk × Int):mxH Tryz.prog 26 [.int router,.int epoch,.sl 1 (peers.map AV.int) false] [] (.a [(.a [.k,.k,.k,(.s 4),.k]),.k]) newO_e newO_b ((.br 160 (.cmdL (.nilB 0 4 3) (.retH ((⟨0,0,0,[],[]⟩:Spk),1) ⟨[(6,.k,.ref 1 0),(7,.k,.int 1)],[.vec 3 [] rfl,.box (.agg [.int 0,.int 0,.int 0,.sl 0 [] true,.vec 0])]⟩ [208,0]))
 (.cmdL (.nilB 80 4 3) (.loop 0 (newO_n0 router epoch peers) (I0) (m0) ((0,[]):Int × (List Per)) [0,80,208] fun (t0:Int × (List Per)) =>
 (.br 19 (.el 19 AV.int peers fun x1 =>
 (.app 147 Per.v t0.2 [(⟨x1,0,0⟩:Per)]
 (.back 0 ((W (t0.1 + 1),t0.2 ++ [(⟨x1,0,0⟩:Per)]):Int × (List Per)) [0,1,147])))
 (.callP (valR6_c (⟨router,epoch,0,[],t0.2⟩:Spk))
 (.br 99 (.cmdL (.nilB 0 4 3) (.retH ((⟨0,0,0,[],[]⟩:Spk),valS (⟨router,epoch,0,[],t0.2⟩:Spk)) ⟨[(6,.k,.ref 1 0),(7,.k,.int (valS (⟨router,epoch,0,[],t0.2⟩:Spk)))],[.vec 3 [] rfl,.box (.agg [.int 0,.int 0,.int 0,.sl 0 [] true,.vec 0])]⟩ [163,0]))
 (.retH ((⟨router,epoch,0,[],t0.2⟩:Spk),0) ⟨[(6,.k,.ref 1 0),(7,.k,.int 0)],[.vec 3 (t0.2.map Per.v) (pureBL_map (fun _=>rfl) t0.2),.box (.agg [.int router,.int epoch,.int 0,.sl 0 [] true,.vec 0])]⟩ [2,0]))))))):An Tryz.prog newO_s (Spk × Int)) r0 = newO_vc router epoch peers I0 m0 r0:=by kernel_rfl
theorem newO_ok (router:Int) (epoch:Int) (peers:(List Int)) (I0:(Int × (List Per)) → Prop) (m0:(Int × (List Per)) → Nat) (r0:Spk × Int) (h:newO_vc router epoch peers I0 m0 r0):HSpec Tryz.prog 26 [.int router,.int epoch,.sl 1 (peers.map AV.int) false] [] (newO_e r0) (newO_b r0):=by
  have e:=newO_eq router epoch peers I0 m0 r0
  rw [← e] at h
  exact mxH_ok (enc:=newO_e) (hB:=newO_b) h
theorem newO_p (r k:Int) (p:List Int) (ok:newO_a r k p):∃ I m,newO_vc r k p I m (new r k p):=by
  refine ⟨fun t=>∃ j:Nat,t.1 = j ∧ j ≤ p.length ∧ t.2 = (p.take j).map fun x=>⟨x,0,0⟩,fun t=>p.length - t.1.toNat,?_⟩
  simp only [newO_vc,vcU,rfU,List.length_map]
  have hn:new r k p = if spkOk ⟨r,k,0,[],p.map fun x=>⟨x,0,0⟩⟩ then (⟨r,k,0,[],p.map fun x=>⟨x,0,0⟩⟩,0) else (spk0,1):=rfl
  refine ⟨fun h=>?_,fun h=>⟨⟨0,rfl,by omega,rfl⟩,?_⟩⟩
  · rw [hn,if_neg]
    · rfl
    · intro q
      have:=q.2.2.2.2.1
      simp only [List.length_map] at this; omega
  · rintro ⟨_,_⟩ ⟨j,rfl,hj,rfl⟩
    simp only [Int.toNat_natCast]
    refine ⟨fun h1=>⟨by omega,by omega,fun x hx=>⟨by simp; omega,⟨j + 1,?_,by omega,?_⟩,?_⟩⟩,fun h1=>⟨pureBLs_one (pureBL_map (fun _=>rfl) _),?_⟩⟩
    · rw [W_succ (n:=p.length) (by omega) (by omega)]
    · rw [take_succ hx,List.map_append]; rfl
    · rw [W_succ (n:=p.length) (by omega) (by omega)]; omega
    · rw [List.take_of_length_le (by omega),hn]
      have hv:valS ⟨r,k,0,[],p.map fun x=>⟨x,0,0⟩⟩ = if spkOk ⟨r,k,0,[],p.map fun x=>⟨x,0,0⟩⟩ then 0 else 1:=rfl
      rw [hv]
      by_cases q:spkOk ⟨r,k,0,[],p.map fun x=>⟨x,0,0⟩⟩
      · rw [if_pos q,if_pos q]; simp
      · rw [if_neg q,if_neg q]; simp [spk0]
def newO_h (router:Int) (epoch:Int) (peers:(List Int)):HC Tryz.prog:=⟨26,[.k,.k,(.s 1)],[.int router,.int epoch,.sl 1 (peers.map AV.int) false],[],newO_e (new router epoch peers),newO_b (new router epoch peers),HSpec.of_okh fun ok _=>(newO_p router epoch peers ok).elim fun I0 h=>h.elim fun m0 h=>newO_ok router epoch peers I0 m0 _ h,fnB_ok (by kernel_rfl),HcOk.of (by simp [hcB,belBL,AV.belB,allB,okBk,okBkO,newO_e,newO_b,pureBL_map (v:=AV.int) (fun _=>rfl),pureBL_map (v:=Per.v) (fun _=>rfl)])⟩
def restartO_a (s:Spk) (wants:(List Wnt)):Prop:=okL [.agg [.int s.router,.int s.epoch,.int s.last,.sl 4 (s.items.map Itm.v) false,.vec 0],.sl 3 (wants.map Wnt.v) false] ∧ (.vec 3 (s.peers.map Per.v):Blk).ok
def restartO_n0 (s:Spk) (wants:(List Wnt)) (t0:Int × (List Itm)):NF:=⟨[(2,.k,.ref 1 0),(4,.k,.ref 2 0),(8,.k,.ref 3 0),(37,.k,.sl 3 (wants.map Wnt.v) false),(38,.k,.int ((wants.map Wnt.v).length:Int)),(39,.k,.int t0.1)],[.vec 3 (s.peers.map Per.v) (pureBL_map (fun _=>rfl) s.peers),.box (.agg [.int s.router,.int s.epoch,.int s.last,.sl 4 (s.items.map Itm.v) false,.vec 0]),.box (.agg [.int 0,.int 0,.int 0,.sl 0 [] true,.sl 0 [] true]),.box (.agg [.int s.router,.int (W (s.epoch + 1)),.int ((wants.map Wnt.v).length:Int),.vec 4,.sl 0 [] true]),.vec 4 (t0.2.map Itm.v) (pureBL_map (fun _=>rfl) t0.2)]⟩
def restartO_n1 (s:Spk) (wants:(List Wnt)) (t0:Int × (List Itm)) (t1:Int × (List Per)):NF:=⟨[(4,.k,.ref 1 0),(8,.k,.ref 2 0),(58,.k,.vec 0),(59,.k,.int ((s.peers.map Per.v).length:Int)),(60,.k,.int t1.1)],[.vec 3 (s.peers.map Per.v) (pureBL_map (fun _=>rfl) s.peers),.box (.agg [.int 0,.int 0,.int 0,.sl 0 [] true,.sl 0 [] true]),.box (.agg [.int s.router,.int (W (s.epoch + 1)),.int ((wants.map Wnt.v).length:Int),.vec 3,.vec 4]),.vec 4 (t0.2.map Itm.v) (pureBL_map (fun _=>rfl) t0.2),.vec 3 (t1.2.map Per.v) (pureBL_map (fun _=>rfl) t1.2)]⟩
def restartO_s:Nat → Type
  | 0=>Int × (List Itm)
  | 1=>Int × (List Per)
  | _=>Unit
def restartO_e (r:(List Per) × Spk × Int):AV:=.tup [.agg [.int r.2.1.router,.int r.2.1.epoch,.int r.2.1.last,.sl 4 (r.2.1.items.map Itm.v) false,.vec 1],.int r.2.2]
def restartO_b (r:(List Per) × Spk × Int):List (Option Blk):=[some (.vec 3 (r.1.map Per.v)),some (.vec 3 (r.2.1.peers.map Per.v))]
def restartO_vc (s:Spk) (wants:(List Wnt)) (I0:(Int × (List Itm)) → Prop) (m0:(Int × (List Itm)) → Nat) (I1:Int × (List Itm) → (Int × (List Per)) → Prop) (m1:Int × (List Itm) → (Int × (List Per)) → Nat) (r0:(List Per) × Spk × Int):Prop:=
 Cl (valR6_c s)
 (ck (pureBLs [(s.peers.map Per.v)])
 (br ((valS s) != 0)
 (Nf ⟨[(4,.k,.ref 2 0),(5,.k,.int (valS s))],[.vec 3 (s.peers.map Per.v) (pureBL_map (fun _=>rfl) s.peers),.vec 3 [] rfl,.box (.agg [.int 0,.int 0,.int 0,.sl 0 [] true,.vec 1])]⟩ [0,193,17] (Rf (restartO_e (s.peers,(⟨0,0,0,[],[]⟩:Spk),valS s)) (Rf (restartO_b (s.peers,(⟨0,0,0,[],[]⟩:Spk),valS s)) ((s.peers,(⟨0,0,0,[],[]⟩:Spk),valS s) = r0))))
 (Cl (valR_c wants)
 (br ((wErr false wants) != 0)
 (Nf ⟨[(4,.k,.ref 2 0),(5,.k,.int (wErr false wants))],[.vec 3 (s.peers.map Per.v) (pureBL_map (fun _=>rfl) s.peers),.vec 3 [] rfl,.box (.agg [.int 0,.int 0,.int 0,.sl 0 [] true,.vec 1])]⟩ [0,273,17] (Rf (restartO_e (s.peers,(⟨0,0,0,[],[]⟩:Spk),wErr false wants)) (Rf (restartO_b (s.peers,(⟨0,0,0,[],[]⟩:Spk),wErr false wants)) ((s.peers,(⟨0,0,0,[],[]⟩:Spk),wErr false wants) = r0))))
 (br (decide (1000000 ≤ s.epoch))
 (Nf ⟨[(4,.k,.ref 2 0),(5,.k,.int 3)],[.vec 3 (s.peers.map Per.v) (pureBL_map (fun _=>rfl) s.peers),.vec 3 [] rfl,.box (.agg [.int 0,.int 0,.int 0,.sl 0 [] true,.vec 1])]⟩ [0,305,17] (Rf (restartO_e (s.peers,(⟨0,0,0,[],[]⟩:Spk),3)) (Rf (restartO_b (s.peers,(⟨0,0,0,[],[]⟩:Spk),3)) ((s.peers,(⟨0,0,0,[],[]⟩:Spk),3) = r0))))
 (Nf (restartO_n0 s wants (0,[])) [0,1,17,385,465] (I0 (0,[])) ∧ ∀ t0:Int × (List Itm),I0 t0 →
 br (decide (t0.1 < ((wants.map Wnt.v).length:Int)))
 (Rf (wants.map Wnt.v) (ck (decide (0 ≤ t0.1)) (ck (decide (t0.1 < (wants.length:Int)))
 (∀ x1,wants[t0.1.toNat]? = some x1 →
 Rf (α:=List AV) (t0.2.map Itm.v) (Rf (α:=List AV) [.agg [.int (W (t0.1 + 1)),.int x1.grp,.int x1.mode,.sl 1 (x1.srcs.map AV.int) false]]
 (ck (decide (t0.2.length + 1 ≤ 1000000))
 (Nf (restartO_n0 s wants (W (t0.1 + 1),t0.2 ++ [(⟨W (t0.1 + 1),x1.grp,x1.mode,x1.srcs⟩:Itm)])) [0,1,2,3,277] (I0 (W (t0.1 + 1),t0.2 ++ [(⟨W (t0.1 + 1),x1.grp,x1.mode,x1.srcs⟩:Itm)]) ∧ m0 (W (t0.1 + 1),t0.2 ++ [(⟨W (t0.1 + 1),x1.grp,x1.mode,x1.srcs⟩:Itm)]) < m0 t0))))))))
 (Nf (restartO_n1 s wants t0 (0,[])) [0,2,3,4,85] (I1 t0 (0,[])) ∧ ∀ t1:Int × (List Per),I1 t0 t1 →
 br (decide (t1.1 < ((s.peers.map Per.v).length:Int)))
 (ck (cond (decide (0 ≤ t1.1)) (decide (t1.1 < ((s.peers.map Per.v).length:Int))) false)
 (Rf (s.peers.map Per.v) (ck (decide (t1.1.toNat < s.peers.length))
 (∀ x2,s.peers[t1.1.toNat]? = some x2 →
 Rf (α:=List AV) (t1.2.map Per.v) (Rf (α:=List AV) [.agg [.int x2.router,.int 0,.int 0]]
 (ck (decide (t1.2.length + 1 ≤ 1000000))
 (Nf (restartO_n1 s wants t0 (W (t1.1 + 1),t1.2 ++ [(⟨x2.router,0,0⟩:Per)])) [0,1,2,3,181] (I1 t0 (W (t1.1 + 1),t1.2 ++ [(⟨x2.router,0,0⟩:Per)]) ∧ m1 t0 (W (t1.1 + 1),t1.2 ++ [(⟨x2.router,0,0⟩:Per)]) < m1 t0 t1))))))))
 (Rf (t0.2.map Itm.v) (Nf ⟨[(4,.k,.ref 2 0),(5,.k,.int 0)],[.vec 3 (s.peers.map Per.v) (pureBL_map (fun _=>rfl) s.peers),.vec 3 (t1.2.map Per.v) (pureBL_map (fun _=>rfl) t1.2),.box (.agg [.int s.router,.int (W (s.epoch + 1)),.int ((wants.map Wnt.v).length:Int),.sl 4 (t0.2.map Itm.v) false,.vec 1])]⟩ [0,4,1] (Rf (restartO_e (s.peers,(⟨s.router,W (s.epoch + 1),((wants.map Wnt.v).length:Int),t0.2,t1.2⟩:Spk),0)) (Rf (restartO_b (s.peers,(⟨s.router,W (s.epoch + 1),((wants.map Wnt.v).length:Int),t0.2,t1.2⟩:Spk),0)) ((s.peers,(⟨s.router,W (s.epoch + 1),((wants.map Wnt.v).length:Int),t0.2,t1.2⟩:Spk),0) = r0))))))))))))
theorem restartO_eq (s:Spk) (wants:(List Wnt)) (I0:(Int × (List Itm)) → Prop) (m0:(Int × (List Itm)) → Nat) (I1:Int × (List Itm) → (Int × (List Per)) → Prop) (m1:Int × (List Itm) → (Int × (List Per)) → Nat) (r0:(List Per) × Spk × Int):mxH Tryz.prog 19 [.agg [.int s.router,.int s.epoch,.int s.last,.sl 4 (s.items.map Itm.v) false,.vec 0],.sl 3 (wants.map Wnt.v) false] [.vec 3 (s.peers.map Per.v)] (.a [(.a [.k,.k,.k,(.s 4),.k]),.k]) restartO_e restartO_b ((.callP (valR6_c s)
 (.br 129 (.cmdL (.nilB 17 4 3) (.retH (s.peers,(⟨0,0,0,[],[]⟩:Spk),valS s) ⟨[(4,.k,.ref 2 0),(5,.k,.int (valS s))],[.vec 3 (s.peers.map Per.v) (pureBL_map (fun _=>rfl) s.peers),.vec 3 [] rfl,.box (.agg [.int 0,.int 0,.int 0,.sl 0 [] true,.vec 1])]⟩ [0,193,17]))
 (.callP (valR_c wants)
 (.br 209 (.cmdL (.nilB 17 4 3) (.retH (s.peers,(⟨0,0,0,[],[]⟩:Spk),wErr false wants) ⟨[(4,.k,.ref 2 0),(5,.k,.int (wErr false wants))],[.vec 3 (s.peers.map Per.v) (pureBL_map (fun _=>rfl) s.peers),.vec 3 [] rfl,.box (.agg [.int 0,.int 0,.int 0,.sl 0 [] true,.vec 1])]⟩ [0,273,17]))
 (.br 257 (.cmdL (.nilB 17 4 3) (.retH (s.peers,(⟨0,0,0,[],[]⟩:Spk),3) ⟨[(4,.k,.ref 2 0),(5,.k,.int 3)],[.vec 3 (s.peers.map Per.v) (pureBL_map (fun _=>rfl) s.peers),.vec 3 [] rfl,.box (.agg [.int 0,.int 0,.int 0,.sl 0 [] true,.vec 1])]⟩ [0,305,17]))
 (.cmdL (.nilB 385 3 4) (.loop 0 (restartO_n0 s wants) (I0) (m0) ((0,[]):Int × (List Itm)) [0,1,17,385,465] fun (t0:Int × (List Itm)) =>
 (.br 21 (.el 37 Wnt.v wants fun x1 =>
 (.app 277 Itm.v t0.2 [(⟨W (t0.1 + 1),x1.grp,x1.mode,x1.srcs⟩:Itm)]
 (.back 0 ((W (t0.1 + 1),t0.2 ++ [(⟨W (t0.1 + 1),x1.grp,x1.mode,x1.srcs⟩:Itm)]):Int × (List Itm)) [0,1,2,3,277])))
 (.cmdL (.nilB 3 4 3) (.loop 1 (restartO_n1 s wants t0) (I1 t0) (m1 t0) ((0,[]):Int × (List Per)) [0,2,3,4,85] fun (t1:Int × (List Per)) =>
 (.br 21 (.el 37 Per.v s.peers fun x2 =>
 (.app 181 Per.v t1.2 [(⟨x2.router,0,0⟩:Per)]
 (.back 1 ((W (t1.1 + 1),t1.2 ++ [(⟨x2.router,0,0⟩:Per)]):Int × (List Per)) [0,1,2,3,181])))
 (.cmdL (.frzE 3 (t0.2.map Itm.v) (pureBL_map (fun _=>rfl) t0.2)) (.retH (s.peers,(⟨s.router,W (s.epoch + 1),((wants.map Wnt.v).length:Int),t0.2,t1.2⟩:Spk),0) ⟨[(4,.k,.ref 2 0),(5,.k,.int 0)],[.vec 3 (s.peers.map Per.v) (pureBL_map (fun _=>rfl) s.peers),.vec 3 (t1.2.map Per.v) (pureBL_map (fun _=>rfl) t1.2),.box (.agg [.int s.router,.int (W (s.epoch + 1)),.int ((wants.map Wnt.v).length:Int),.sl 4 (t0.2.map Itm.v) false,.vec 1])]⟩ [0,4,1]))))))))))))):An Tryz.prog restartO_s ((List Per) × Spk × Int)) r0 = restartO_vc s wants I0 m0 I1 m1 r0:=by kernel_rfl
theorem restartO_ok (s:Spk) (wants:(List Wnt)) (I0:(Int × (List Itm)) → Prop) (m0:(Int × (List Itm)) → Nat) (I1:Int × (List Itm) → (Int × (List Per)) → Prop) (m1:Int × (List Itm) → (Int × (List Per)) → Nat) (r0:(List Per) × Spk × Int) (h:restartO_vc s wants I0 m0 I1 m1 r0):HSpec Tryz.prog 19 [.agg [.int s.router,.int s.epoch,.int s.last,.sl 4 (s.items.map Itm.v) false,.vec 0],.sl 3 (wants.map Wnt.v) false] [.vec 3 (s.peers.map Per.v)] (restartO_e r0) (restartO_b r0):=by
  have e:=restartO_eq s wants I0 m0 I1 m1 r0
  rw [← e] at h
  exact mxH_ok (enc:=restartO_e) (hB:=restartO_b) h
theorem restartO_p (s:Spk) (w:List Wnt) (ok:restartO_a s w):∃ I0 m0 I1 m1,restartO_vc s w I0 m0 I1 m1 (s.peers,restart s w):=by
  refine ⟨fun t=>∃ j:Nat,t.1 = j ∧ j ≤ w.length ∧ t.2 = (w.mapIdx wItm).take j,fun t=>w.length - t.1.toNat,
    fun t0 t=>∃ j:Nat,t.1 = j ∧ j ≤ s.peers.length ∧ t.2 = (s.peers.take j).map fun p=>⟨p.router,0,0⟩,fun t0 t=>s.peers.length - t.1.toNat,?_⟩
  simp only [restartO_vc,vcU,rfU,List.length_map]
  have hv:valS s = if spkOk s then 0 else 1:=rfl
  rw [hv]
  refine ⟨pureBLs_one (pureBL_map (fun _=>rfl) _),?_⟩
  unfold restart
  by_cases h1:spkOk s
  case neg=>rw [if_neg h1,if_pos h1]; simp [spk0]
  rw [if_pos h1,if_neg (not_not_intro h1)]
  refine ⟨fun q=>by simp at q,fun _=>⟨fun h2=>?_,fun h2=>?_⟩⟩
  · have h2:wErr false w ≠ 0:=by simpa using h2
    rw [if_pos h2]; rfl
  have h2:wErr false w = 0:=by simpa using h2
  rw [if_neg (not_not_intro h2)]
  have he:=h1.2.1
  refine ⟨fun h3=>?_,fun h3=>⟨⟨0,rfl,by omega,by simp⟩,?_⟩⟩
  · rw [if_pos (by omega)]; rfl
  rw [if_neg (by omega)]
  obtain ⟨w1,_⟩:=wErr_zero.mp h2
  rintro ⟨_,_⟩ ⟨j,rfl,hj,rfl⟩
  simp only [Int.toNat_natCast]
  refine ⟨fun h4=>⟨by omega,by omega,fun x hx=>?_⟩,fun h4=>⟨⟨0,rfl,by omega,rfl⟩,?_⟩⟩
  · rw [W_succ (n:=w.length) (by omega) (by omega)]
    refine ⟨by simp; omega,⟨j + 1,rfl,by omega,?_⟩,by omega⟩
    have:(w.mapIdx wItm)[j]? = some (wItm j x):=by rw [List.getElem?_mapIdx,hx]; rfl
    rw [take_succ this]
    rfl
  · rintro ⟨_,_⟩ ⟨i,rfl,hi,rfl⟩
    have hp:=h1.2.2.2.2.1
    simp only [Int.toNat_natCast]
    refine ⟨fun h5=>⟨by simp; omega,by omega,fun x hx=>?_⟩,fun h5=>?_⟩
    · rw [W_succ (n:=s.peers.length) (by omega) (by omega)]
      refine ⟨by simp; omega,⟨i + 1,rfl,by omega,?_⟩,by omega⟩
      rw [take_succ hx,List.map_append]; rfl
    · rw [List.take_of_length_le (by simp; omega),List.take_of_length_le (l:=s.peers) (by omega),W_eq (by omega)]
def restartO_h (s:Spk) (wants:(List Wnt)):HC Tryz.prog:=⟨19,[(.a [.k,.k,.k,(.s 4),(.s 3)]),(.s 3)],[.agg [.int s.router,.int s.epoch,.int s.last,.sl 4 (s.items.map Itm.v) false,.vec 0],.sl 3 (wants.map Wnt.v) false],[.vec 3 (s.peers.map Per.v)],restartO_e (s.peers,restart s wants),restartO_b (s.peers,restart s wants),HSpec.of_okh fun ok ok2=>have ok:restartO_a s wants:=⟨ok,ok2 _ (by simp)⟩; (restartO_p s wants ok).elim fun I0 h=>h.elim fun m0 h=>h.elim fun I1 h=>h.elim fun m1 h=>restartO_ok s wants I0 m0 I1 m1 _ h,fnB_ok (by kernel_rfl),HcOk.of (by simp [hcB,belBL,AV.belB,allB,okBk,okBkO,restartO_e,restartO_b,pureBL_map (v:=Itm.v) (fun _=>rfl),pureBL_map (v:=Per.v) (fun _=>rfl),pureBL_map (v:=Wnt.v) (fun _=>rfl)])⟩
def changeO_a (s:Spk) (changes:(List Wnt)):Prop:=okL [.agg [.int s.router,.int s.epoch,.int s.last,.sl 4 (s.items.map Itm.v) false,.vec 0],.sl 3 (changes.map Wnt.v) false] ∧ (.vec 3 (s.peers.map Per.v):Blk).ok
def changeO_n0 (s:Spk) (changes:(List Wnt)) (t0:Int × Int × (List Itm)):NF:=⟨[(4,.k,.ref 1 0),(9,.k,.ref 2 0),(38,.k,.sl 3 (changes.map Wnt.v) false),(39,.k,.int ((changes.map Wnt.v).length:Int)),(40,.k,.int t0.1)],[.vec 3 (s.peers.map Per.v) (pureBL_map (fun _=>rfl) s.peers),.box (.agg [.int 0,.int 0,.int 0,.sl 0 [] true,.sl 0 [] true]),.box (.agg [.int s.router,.int s.epoch,.int t0.2.1,.sl 4 (t0.2.2.map Itm.v) false,.vec 3]),.vec 3 (s.peers.map Per.v) (pureBL_map (fun _=>rfl) s.peers)]⟩
def changeO_s:Nat → Type
  | 0=>Int × Int × (List Itm)
  | _=>Unit
def changeO_e (r:(List Per) × Spk × Int):AV:=.tup [.agg [.int r.2.1.router,.int r.2.1.epoch,.int r.2.1.last,.sl 4 (r.2.1.items.map Itm.v) false,.vec 1],.int r.2.2]
def changeO_b (r:(List Per) × Spk × Int):List (Option Blk):=[some (.vec 3 (r.1.map Per.v)),some (.vec 3 (r.2.1.peers.map Per.v))]
def changeO_vc (s:Spk) (changes:(List Wnt)) (I0:(Int × Int × (List Itm)) → Prop) (m0:(Int × Int × (List Itm)) → Nat) (r0:(List Per) × Spk × Int):Prop:=
 Cl (valR6_c s)
 (ck (pureBLs [(s.peers.map Per.v)])
 (br ((valS s) != 0)
 (Nf ⟨[(4,.k,.ref 2 0),(5,.k,.int (valS s))],[.vec 3 (s.peers.map Per.v) (pureBL_map (fun _=>rfl) s.peers),.vec 3 [] rfl,.box (.agg [.int 0,.int 0,.int 0,.sl 0 [] true,.vec 1])]⟩ [0,193,17] (Rf (changeO_e (s.peers,(⟨0,0,0,[],[]⟩:Spk),valS s)) (Rf (changeO_b (s.peers,(⟨0,0,0,[],[]⟩:Spk),valS s)) ((s.peers,(⟨0,0,0,[],[]⟩:Spk),valS s) = r0))))
 (Cl (applyR_c [] changes)
 (br (((applyG [] changes).2) != 0)
 (Nf ⟨[(4,.k,.ref 2 0),(5,.k,.int ((applyG [] changes).2))],[.vec 3 (s.peers.map Per.v) (pureBL_map (fun _=>rfl) s.peers),.vec 3 [] rfl,.box (.agg [.int 0,.int 0,.int 0,.sl 0 [] true,.vec 1])]⟩ [0,337,17] (Rf (changeO_e (s.peers,(⟨0,0,0,[],[]⟩:Spk),(applyG [] changes).2)) (Rf (changeO_b (s.peers,(⟨0,0,0,[],[]⟩:Spk),(applyG [] changes).2)) ((s.peers,(⟨0,0,0,[],[]⟩:Spk),(applyG [] changes).2) = r0))))
 (Rf (α:=List AV) [] (Rf (α:=List AV) (s.peers.map Per.v)
 (ck (decide (0 + s.peers.length ≤ 1000000))
 (Rf (α:=List AV) [] (Rf (α:=List AV) (s.items.map Itm.v)
 (ck (decide (0 + s.items.length ≤ 1000000))
 (Rf (s.items.map Itm.v) (Nf (changeO_n0 s changes (0,s.last,s.items)) [0,17,289,369] (I0 (0,s.last,s.items)) ∧ ∀ t0:Int × Int × (List Itm),I0 t0 →
 br (decide (t0.1 < ((changes.map Wnt.v).length:Int)))
 (Rf (changes.map Wnt.v) (ck (decide (0 ≤ t0.1)) (ck (decide (t0.1 < (changes.length:Int)))
 (∀ x1,changes[t0.1.toNat]? = some x1 →
 Cl (findI_c t0.2.2 x1.grp)
 (Cl (FSame_c (⟨(told t0.2.2 x1.grp).1,(told t0.2.2 x1.grp).2⟩:Flt) (⟨x1.mode,x1.srcs⟩:Flt))
 (br (FSame (⟨(told t0.2.2 x1.grp).1,(told t0.2.2 x1.grp).2⟩:Flt) (⟨x1.mode,x1.srcs⟩:Flt))
 (Nf (changeO_n0 s changes (W (t0.1 + 1),t0.2.1,t0.2.2)) [0,1,2,3] (I0 (W (t0.1 + 1),t0.2.1,t0.2.2) ∧ m0 (W (t0.1 + 1),t0.2.1,t0.2.2) < m0 t0))
 (∃ h2:t0.2.2.length ≤ 999999,
 Cl (putR_c t0.2.2 (⟨W (t0.2.1 + 1),x1.grp,x1.mode,x1.srcs⟩:Itm) h2)
 (Nf (changeO_n0 s changes (W (t0.1 + 1),W (t0.2.1 + 1),put1 t0.2.2 (⟨W (t0.2.1 + 1),x1.grp,x1.mode,x1.srcs⟩:Itm))) [0,1,2,3] (I0 (W (t0.1 + 1),W (t0.2.1 + 1),put1 t0.2.2 (⟨W (t0.2.1 + 1),x1.grp,x1.mode,x1.srcs⟩:Itm)) ∧ m0 (W (t0.1 + 1),W (t0.2.1 + 1),put1 t0.2.2 (⟨W (t0.2.1 + 1),x1.grp,x1.mode,x1.srcs⟩:Itm)) < m0 t0)))))))))
 (br (decide (1000000 < t0.2.1))
 (Nf ⟨[(4,.k,.ref 2 0),(5,.k,.int 3)],[.vec 3 (s.peers.map Per.v) (pureBL_map (fun _=>rfl) s.peers),.vec 3 [] rfl,.box (.agg [.int 0,.int 0,.int 0,.sl 0 [] true,.vec 1])]⟩ [0,116,1] (Rf (changeO_e (s.peers,(⟨0,0,0,[],[]⟩:Spk),3)) (Rf (changeO_b (s.peers,(⟨0,0,0,[],[]⟩:Spk),3)) ((s.peers,(⟨0,0,0,[],[]⟩:Spk),3) = r0))))
 (Nf ⟨[(4,.k,.ref 2 0),(5,.k,.int 0)],[.vec 3 (s.peers.map Per.v) (pureBL_map (fun _=>rfl) s.peers),.vec 3 (s.peers.map Per.v) (pureBL_map (fun _=>rfl) s.peers),.box (.agg [.int s.router,.int s.epoch,.int t0.2.1,.sl 4 (t0.2.2.map Itm.v) false,.vec 1])]⟩ [0,3,1] (Rf (changeO_e (s.peers,(⟨s.router,s.epoch,t0.2.1,t0.2.2,s.peers⟩:Spk),0)) (Rf (changeO_b (s.peers,(⟨s.router,s.epoch,t0.2.1,t0.2.2,s.peers⟩:Spk),0)) ((s.peers,(⟨s.router,s.epoch,t0.2.1,t0.2.2,s.peers⟩:Spk),0) = r0)))))))))))))))))
theorem changeO_eq (s:Spk) (changes:(List Wnt)) (I0:(Int × Int × (List Itm)) → Prop) (m0:(Int × Int × (List Itm)) → Nat) (r0:(List Per) × Spk × Int):mxH Tryz.prog 17 [.agg [.int s.router,.int s.epoch,.int s.last,.sl 4 (s.items.map Itm.v) false,.vec 0],.sl 3 (changes.map Wnt.v) false] [.vec 3 (s.peers.map Per.v)] (.a [(.a [.k,.k,.k,(.s 4),.k]),.k]) changeO_e changeO_b ((.callP (valR6_c s)
 (.br 129 (.cmdL (.nilB 17 4 3) (.retH (s.peers,(⟨0,0,0,[],[]⟩:Spk),valS s) ⟨[(4,.k,.ref 2 0),(5,.k,.int (valS s))],[.vec 3 (s.peers.map Per.v) (pureBL_map (fun _=>rfl) s.peers),.vec 3 [] rfl,.box (.agg [.int 0,.int 0,.int 0,.sl 0 [] true,.vec 1])]⟩ [0,193,17]))
 (.callP (applyR_c [] changes)
 (.br 273 (.cmdL (.nilB 17 4 3) (.retH (s.peers,(⟨0,0,0,[],[]⟩:Spk),(applyG [] changes).2) ⟨[(4,.k,.ref 2 0),(5,.k,.int ((applyG [] changes).2))],[.vec 3 (s.peers.map Per.v) (pureBL_map (fun _=>rfl) s.peers),.vec 3 [] rfl,.box (.agg [.int 0,.int 0,.int 0,.sl 0 [] true,.vec 1])]⟩ [0,337,17]))
 (.app 369 Per.v [] s.peers
 (.app 465 Itm.v [] s.items
 (.cmd (.frzE 465 (s.items.map Itm.v) (pureBL_map (fun _=>rfl) s.items)) (.loop 0 (changeO_n0 s changes) (I0) (m0) ((0,s.last,s.items):Int × Int × (List Itm)) [0,17,289,369] fun (t0:Int × Int × (List Itm)) =>
 (.br 20 (.el 20 Wnt.v changes fun x1 =>
 (.callP (findI_c t0.2.2 x1.grp)
 (.callP (FSame_c (⟨(told t0.2.2 x1.grp).1,(told t0.2.2 x1.grp).2⟩:Flt) (⟨x1.mode,x1.srcs⟩:Flt))
 (.br 212 (.back 0 ((W (t0.1 + 1),t0.2.1,t0.2.2):Int × Int × (List Itm)) [0,1,2,3])
 (.req 436 (t0.2.2.length ≤ 999999) fun h2 =>
 (.callP (putR_c t0.2.2 (⟨W (t0.2.1 + 1),x1.grp,x1.mode,x1.srcs⟩:Itm) h2)
 (.back 0 ((W (t0.1 + 1),W (t0.2.1 + 1),put1 t0.2.2 (⟨W (t0.2.1 + 1),x1.grp,x1.mode,x1.srcs⟩:Itm)):Int × Int × (List Itm)) [0,1,2,3])))))))
 (.br 68 (.cmdL (.nilB 1 4 3) (.retH (s.peers,(⟨0,0,0,[],[]⟩:Spk),3) ⟨[(4,.k,.ref 2 0),(5,.k,.int 3)],[.vec 3 (s.peers.map Per.v) (pureBL_map (fun _=>rfl) s.peers),.vec 3 [] rfl,.box (.agg [.int 0,.int 0,.int 0,.sl 0 [] true,.vec 1])]⟩ [0,116,1]))
 (.retH (s.peers,(⟨s.router,s.epoch,t0.2.1,t0.2.2,s.peers⟩:Spk),0) ⟨[(4,.k,.ref 2 0),(5,.k,.int 0)],[.vec 3 (s.peers.map Per.v) (pureBL_map (fun _=>rfl) s.peers),.vec 3 (s.peers.map Per.v) (pureBL_map (fun _=>rfl) s.peers),.box (.agg [.int s.router,.int s.epoch,.int t0.2.1,.sl 4 (t0.2.2.map Itm.v) false,.vec 1])]⟩ [0,3,1]))))))))))):An Tryz.prog changeO_s ((List Per) × Spk × Int)) r0 = changeO_vc s changes I0 m0 r0:=by kernel_rfl
theorem changeO_ok (s:Spk) (changes:(List Wnt)) (I0:(Int × Int × (List Itm)) → Prop) (m0:(Int × Int × (List Itm)) → Nat) (r0:(List Per) × Spk × Int) (h:changeO_vc s changes I0 m0 r0):HSpec Tryz.prog 17 [.agg [.int s.router,.int s.epoch,.int s.last,.sl 4 (s.items.map Itm.v) false,.vec 0],.sl 3 (changes.map Wnt.v) false] [.vec 3 (s.peers.map Per.v)] (changeO_e r0) (changeO_b r0):=by
  have e:=changeO_eq s changes I0 m0 r0
  rw [← e] at h
  exact mxH_ok (enc:=changeO_e) (hB:=changeO_b) h
theorem changeO_p (s:Spk) (c:List Wnt) (ok:changeO_a s c):∃ I m,changeO_vc s c I m (s.peers,change s c):=by
  refine ⟨fun t=>∃ j:Nat,t.1 = j ∧ j ≤ c.length ∧ t.2 = (((c.take j).foldl chg1 (s.last,s.items)).1,((c.take j).foldl chg1 (s.last,s.items)).2),fun t=>c.length - t.1.toNat,?_⟩
  simp only [changeO_vc,vcU,rfU,List.length_map]
  have hv:valS s = if spkOk s then 0 else 1:=rfl
  rw [hv,applyG_err]
  refine ⟨pureBLs_one (pureBL_map (fun _=>rfl) _),?_⟩
  unfold change
  by_cases h1:spkOk s
  case neg=>rw [if_neg h1,if_pos h1]; simp [spk0]
  rw [if_pos h1,if_neg (not_not_intro h1)]
  refine ⟨fun q=>by simp at q,fun _=>⟨fun h2=>?_,fun h2=>?_⟩⟩
  · have h2:wErr true c ≠ 0:=by simpa using h2
    rw [if_pos h2]; rfl
  have h2:wErr true c = 0:=by simpa using h2
  rw [if_neg (not_not_intro h2)]
  have hp:=h1.2.2.2.2.1
  have hi:=itms_len h1.2.2.2.1
  have hl:=h1.2.2.1
  have hcl:=(wErr_zero.mp h2).1
  refine ⟨by omega,by omega,⟨0,rfl,by omega,rfl⟩,?_⟩
  rintro ⟨_,_⟩ ⟨j,rfl,hj,rfl⟩
  obtain ⟨b1,b2,b3⟩:=chg_take_len h1 h2 j
  simp only [Int.toNat_natCast]
  refine ⟨fun h3=>⟨by omega,by omega,fun x hx=>?_⟩,fun h3=>?_⟩
  · rw [W_succ (n:=c.length) (by omega) (by omega)]
    have e:(c.take (j + 1)).foldl chg1 (s.last,s.items) = chg1 ((c.take j).foldl chg1 (s.last,s.items)) x:=by rw [take_succ hx,List.foldl_append]; rfl
    generalize (c.take j).foldl chg1 (s.last,s.items) = u at *
    refine ⟨fun q=>⟨⟨j + 1,rfl,by omega,?_⟩,by omega⟩,fun q=>⟨by omega,⟨j + 1,rfl,by omega,?_⟩,by omega⟩⟩
    · rw [e,chg1,if_pos]
      have q:(told u.2 x.grp).1 = x.mode ∧ (told u.2 x.grp).2 = x.srcs:=by simpa [FSame,flt_eq] using q
      rw [← q.1,← q.2]
    · rw [e,chg1,if_neg,W_eq (by omega)]
      intro z
      have z1:=congrArg Prod.fst z
      have z2:=congrArg Prod.snd z
      simp [FSame,flt_eq] at q z1 z2
      exact q z1 z2
  · rw [List.take_of_length_le (by omega)]
    refine ⟨fun q=>?_,fun q=>?_⟩
    · rw [if_pos q]; rfl
    · rw [if_neg q]
def changeO_h (s:Spk) (changes:(List Wnt)):HC Tryz.prog:=⟨17,[(.a [.k,.k,.k,(.s 4),(.s 3)]),(.s 3)],[.agg [.int s.router,.int s.epoch,.int s.last,.sl 4 (s.items.map Itm.v) false,.vec 0],.sl 3 (changes.map Wnt.v) false],[.vec 3 (s.peers.map Per.v)],changeO_e (s.peers,change s changes),changeO_b (s.peers,change s changes),HSpec.of_okh fun ok ok2=>have ok:changeO_a s changes:=⟨ok,ok2 _ (by simp)⟩; (changeO_p s changes ok).elim fun I0 h=>h.elim fun m0 h=>changeO_ok s changes I0 m0 _ h,fnB_ok (by kernel_rfl),HcOk.of (by simp [hcB,belBL,AV.belB,allB,okBk,okBkO,changeO_e,changeO_b,pureBL_map (v:=Itm.v) (fun _=>rfl),pureBL_map (v:=Per.v) (fun _=>rfl),pureBL_map (v:=Wnt.v) (fun _=>rfl)])⟩
def stepJ (L:List Int) (p:Nat) (s:Spk):Int × Nat × Spk:=
  if Mod (rawV L (chgT L p).2) 8 = 7 then ((restart s (wantsT L (rawP L (chgT L p).2)).1).2,(wantsT L (rawP L (chgT L p).2)).2,(restart s (wantsT L (rawP L (chgT L p).2)).1).1)
  else ((change s (chgT L p).1).2,rawP L (chgT L p).2,(change s (chgT L p).1).1)
theorem stepT_J {L:List Int} {p:Nat} {s:Spk}:stepT L p s = (if (stepJ L p s).1 ≠ 0 then s else (stepJ L p s).2.2,(stepJ L p s).2.1):=by
  unfold stepT stepJ
  split <;> rfl
def stepT_a (L:(List Int)) (p:Nat) (s:Spk):Prop:=okL [.ref 0 0,.agg [.int s.router,.int s.epoch,.int s.last,.sl 4 (s.items.map Itm.v) false,.vec 1]] ∧ (.box (.agg [.sl 1 (L.map AV.int) false,.int ((p:Nat):Int)]):Blk).ok ∧ (.vec 3 (s.peers.map Per.v):Blk).ok
def stepT_n0 (L:(List Int)) (p:Nat) (s:Spk) (t0:Int × Nat × Int × Int × Int × (List Itm) × (List Per)):NF:=⟨[(3,.k,.ref 2 0),(4,.k,.ref 4 0),(5,.k,.ref 5 0),(6,.k,.int t0.1)],[.box (.agg [.sl 1 (L.map AV.int) false,.int ((t0.2.1:Nat):Int)]),.gone,.box (.agg [.int s.router,.int s.epoch,.int s.last,.sl 4 (s.items.map Itm.v) false,.vec 3]),.vec 3 (s.peers.map Per.v) (pureBL_map (fun _=>rfl) s.peers),.box (.agg [.int 0,.int 0,.int 0,.sl 0 [] true,.sl 0 [] true]),.box (.agg [.int t0.2.2.1,.int t0.2.2.2.1,.int t0.2.2.2.2.1,.sl 4 (t0.2.2.2.2.2.1.map Itm.v) false,.vec 6]),.vec 3 (t0.2.2.2.2.2.2.map Per.v) (pureBL_map (fun _=>rfl) t0.2.2.2.2.2.2)]⟩
def stepT_s:Nat → Type
  | 0=>Int × Nat × Int × Int × Int × (List Itm) × (List Per)
  | _=>Unit
def stepT_e (r:Tap × Spk):AV:=.agg [.int r.2.router,.int r.2.epoch,.int r.2.last,.sl 4 (r.2.items.map Itm.v) false,.vec 2]
def stepT_b (r:Tap × Spk):List (Option Blk):=[some (.box (.agg [.sl 1 (r.1.L.map AV.int) false,.int ((r.1.p:Nat):Int)])),none,some (.vec 3 (r.2.peers.map Per.v))]
def stepT_vc (L:(List Int)) (p:Nat) (s:Spk) (I0:(Int × Nat × Int × Int × Int × (List Itm) × (List Per)) → Prop) (r0:Tap × Spk):Prop:=
 Ch (chgT_h L p) [0] 66
 (Ch (changeO_h s ((chgT L p).1)) [1] 82
 ((Ch (N_h L ((chgT L p).2) 8) [0] 210
 (br ((Mod (rawV L ((chgT L p).2)) 8) == 7)
 (Ch (wantsT_h L (rawP L ((chgT L p).2))) [0] 274
 (Ch (restartO_h s ((wantsT L (rawP L ((chgT L p).2))).1)) [1] 290
 (Nf (stepT_n0 L p s ((restart s ((wantsT L (rawP L ((chgT L p).2))).1)).2,(wantsT L (rawP L ((chgT L p).2))).2,((restart s ((wantsT L (rawP L ((chgT L p).2))).1)).1).router,((restart s ((wantsT L (rawP L ((chgT L p).2))).1)).1).epoch,((restart s ((wantsT L (rawP L ((chgT L p).2))).1)).1).last,((restart s ((wantsT L (rawP L ((chgT L p).2))).1)).1).items,((restart s ((wantsT L (rawP L ((chgT L p).2))).1)).1).peers)) [0,1,2,1,18,146,290] (I0 (((restart s ((wantsT L (rawP L ((chgT L p).2))).1)).2,(wantsT L (rawP L ((chgT L p).2))).2,((restart s ((wantsT L (rawP L ((chgT L p).2))).1)).1).router,((restart s ((wantsT L (rawP L ((chgT L p).2))).1)).1).epoch,((restart s ((wantsT L (rawP L ((chgT L p).2))).1)).1).last,((restart s ((wantsT L (rawP L ((chgT L p).2))).1)).1).items,((restart s ((wantsT L (rawP L ((chgT L p).2))).1)).1).peers):Int × Nat × Int × Int × Int × (List Itm) × (List Per))))))
 (Nf (stepT_n0 L p s ((change s ((chgT L p).1)).2,rawP L ((chgT L p).2),((change s ((chgT L p).1)).1).router,((change s ((chgT L p).1)).1).epoch,((change s ((chgT L p).1)).1).last,((change s ((chgT L p).1)).1).items,((change s ((chgT L p).1)).1).peers)) [0,1,2,1,18,146,82] (I0 (((change s ((chgT L p).1)).2,rawP L ((chgT L p).2),((change s ((chgT L p).1)).1).router,((change s ((chgT L p).1)).1).epoch,((change s ((chgT L p).1)).1).last,((change s ((chgT L p).1)).1).items,((change s ((chgT L p).1)).1).peers):Int × Nat × Int × Int × Int × (List Itm) × (List Per)))))) ∧ ∀ t0:Int × Nat × Int × Int × Int × (List Itm) × (List Per),I0 t0 →
 br (t0.1 != 0)
 (Nf ⟨[(4,.k,.ref 3 0)],[.box (.agg [.sl 1 (L.map AV.int) false,.int ((t0.2.1:Nat):Int)]),.gone,.vec 3 (s.peers.map Per.v) (pureBL_map (fun _=>rfl) s.peers),.box (.agg [.int s.router,.int s.epoch,.int s.last,.sl 4 (s.items.map Itm.v) false,.vec 2])]⟩ [0,1,3,4] (Rf (stepT_e ((⟨L,t0.2.1⟩:Tap),s)) (Rf (stepT_b ((⟨L,t0.2.1⟩:Tap),s)) (((⟨L,t0.2.1⟩:Tap),s) = r0))))
 (Nf ⟨[(4,.k,.ref 3 0)],[.box (.agg [.sl 1 (L.map AV.int) false,.int ((t0.2.1:Nat):Int)]),.gone,.vec 3 (t0.2.2.2.2.2.2.map Per.v) (pureBL_map (fun _=>rfl) t0.2.2.2.2.2.2),.box (.agg [.int t0.2.2.1,.int t0.2.2.2.1,.int t0.2.2.2.2.1,.sl 4 (t0.2.2.2.2.2.1.map Itm.v) false,.vec 2])]⟩ [0,1,6,4] (Rf (stepT_e ((⟨L,t0.2.1⟩:Tap),(⟨t0.2.2.1,t0.2.2.2.1,t0.2.2.2.2.1,t0.2.2.2.2.2.1,t0.2.2.2.2.2.2⟩:Spk))) (Rf (stepT_b ((⟨L,t0.2.1⟩:Tap),(⟨t0.2.2.1,t0.2.2.2.1,t0.2.2.2.2.1,t0.2.2.2.2.2.1,t0.2.2.2.2.2.2⟩:Spk))) (((⟨L,t0.2.1⟩:Tap),(⟨t0.2.2.1,t0.2.2.2.1,t0.2.2.2.2.1,t0.2.2.2.2.2.1,t0.2.2.2.2.2.2⟩:Spk)) = r0))))))
theorem stepT_eq (L:(List Int)) (p:Nat) (s:Spk) (I0:(Int × Nat × Int × Int × Int × (List Itm) × (List Per)) → Prop) (r0:Tap × Spk):mxH Tryz.prog 30 [.ref 0 0,.agg [.int s.router,.int s.epoch,.int s.last,.sl 4 (s.items.map Itm.v) false,.vec 1]] [.box (.agg [.sl 1 (L.map AV.int) false,.int ((p:Nat):Int)]),.vec 3 (s.peers.map Per.v)] (.a [.k,.k,.k,(.s 4),.k]) stepT_e stepT_b ((.callH [0] (chgT_h L p)
 (.callH [1] (changeO_h s ((chgT L p).1))
 (.join 0 (stepT_n0 L p s) (fun t0=>I0 t0) (.callH [0] (N_h L ((chgT L p).2) 8)
 (.br 242 (.callH [0] (wantsT_h L (rawP L ((chgT L p).2)))
 (.callH [1] (restartO_h s ((wantsT L (rawP L ((chgT L p).2))).1))
 (.back 0 (((restart s ((wantsT L (rawP L ((chgT L p).2))).1)).2,(wantsT L (rawP L ((chgT L p).2))).2,((restart s ((wantsT L (rawP L ((chgT L p).2))).1)).1).router,((restart s ((wantsT L (rawP L ((chgT L p).2))).1)).1).epoch,((restart s ((wantsT L (rawP L ((chgT L p).2))).1)).1).last,((restart s ((wantsT L (rawP L ((chgT L p).2))).1)).1).items,((restart s ((wantsT L (rawP L ((chgT L p).2))).1)).1).peers):Int × Nat × Int × Int × Int × (List Itm) × (List Per)) [0,1,2,1,18,146,290])))
 (.back 0 (((change s ((chgT L p).1)).2,rawP L ((chgT L p).2),((change s ((chgT L p).1)).1).router,((change s ((chgT L p).1)).1).epoch,((change s ((chgT L p).1)).1).last,((change s ((chgT L p).1)).1).items,((change s ((chgT L p).1)).1).peers):Int × Nat × Int × Int × Int × (List Itm) × (List Per)) [0,1,2,1,18,146,82]))) fun (t0:Int × Nat × Int × Int × Int × (List Itm) × (List Per)) =>
 (.br 39 (.retH ((⟨L,t0.2.1⟩:Tap),s) ⟨[(4,.k,.ref 3 0)],[.box (.agg [.sl 1 (L.map AV.int) false,.int ((t0.2.1:Nat):Int)]),.gone,.vec 3 (s.peers.map Per.v) (pureBL_map (fun _=>rfl) s.peers),.box (.agg [.int s.router,.int s.epoch,.int s.last,.sl 4 (s.items.map Itm.v) false,.vec 2])]⟩ [0,1,3,4])
 (.retH ((⟨L,t0.2.1⟩:Tap),(⟨t0.2.2.1,t0.2.2.2.1,t0.2.2.2.2.1,t0.2.2.2.2.2.1,t0.2.2.2.2.2.2⟩:Spk)) ⟨[(4,.k,.ref 3 0)],[.box (.agg [.sl 1 (L.map AV.int) false,.int ((t0.2.1:Nat):Int)]),.gone,.vec 3 (t0.2.2.2.2.2.2.map Per.v) (pureBL_map (fun _=>rfl) t0.2.2.2.2.2.2),.box (.agg [.int t0.2.2.1,.int t0.2.2.2.1,.int t0.2.2.2.2.1,.sl 4 (t0.2.2.2.2.2.1.map Itm.v) false,.vec 2])]⟩ [0,1,6,4]))))):An Tryz.prog stepT_s (Tap × Spk)) r0 = stepT_vc L p s I0 r0:=by kernel_rfl
theorem stepT_ok (L:(List Int)) (p:Nat) (s:Spk) (I0:(Int × Nat × Int × Int × Int × (List Itm) × (List Per)) → Prop) (r0:Tap × Spk) (h:stepT_vc L p s I0 r0):HSpec Tryz.prog 30 [.ref 0 0,.agg [.int s.router,.int s.epoch,.int s.last,.sl 4 (s.items.map Itm.v) false,.vec 1]] [.box (.agg [.sl 1 (L.map AV.int) false,.int ((p:Nat):Int)]),.vec 3 (s.peers.map Per.v)] (stepT_e r0) (stepT_b r0):=by
  have e:=stepT_eq L p s I0 r0
  rw [← e] at h
  exact mxH_ok (enc:=stepT_e) (hB:=stepT_b) h
theorem stepT_p (L:List Int) (p:Nat) (s:Spk) (ok:stepT_a L p s):∃ I,stepT_vc L p s I ((⟨L,(stepT L p s).2⟩:Tap),(stepT L p s).1):=by
  refine ⟨fun t=>t = ((stepJ L p s).1,(stepJ L p s).2.1,(stepJ L p s).2.2.router,(stepJ L p s).2.2.epoch,(stepJ L p s).2.2.last,(stepJ L p s).2.2.items,(stepJ L p s).2.2.peers),?_⟩
  simp only [stepT_vc,vcU,rfU,List.length_map]
  refine ⟨⟨fun h=>?_,fun h=>?_⟩,?_⟩
  · have h:Mod (rawV L (chgT L p).2) 8 = 7:=by simpa using h
    unfold stepJ; rw [if_pos h]
  · have h:¬ Mod (rawV L (chgT L p).2) 8 = 7:=by simpa using h
    unfold stepJ; rw [if_neg h]
  · rintro _ rfl
    rw [stepT_J]
    refine ⟨fun h=>?_,fun h=>?_⟩
    · have h:(stepJ L p s).1 ≠ 0:=by simpa using h
      rw [if_pos h]
    · have h:¬ (stepJ L p s).1 ≠ 0:=by simpa using h
      rw [if_neg h]
def stepT_h (L:(List Int)) (p:Nat) (s:Spk):HC Tryz.prog:=⟨30,[.k,(.a [.k,.k,.k,(.s 4),(.s 3)])],[.ref 0 0,.agg [.int s.router,.int s.epoch,.int s.last,.sl 4 (s.items.map Itm.v) false,.vec 1]],[.box (.agg [.sl 1 (L.map AV.int) false,.int ((p:Nat):Int)]),.vec 3 (s.peers.map Per.v)],stepT_e ((⟨L,(Go.Proofs.YtglfecmdoekabaaGreat.stepT L p s).2⟩:Tap),(Go.Proofs.YtglfecmdoekabaaGreat.stepT L p s).1),stepT_b ((⟨L,(Go.Proofs.YtglfecmdoekabaaGreat.stepT L p s).2⟩:Tap),(Go.Proofs.YtglfecmdoekabaaGreat.stepT L p s).1),HSpec.of_okh fun ok ok2=>have ok:stepT_a L p s:=⟨ok,ok2 _ (by simp),ok2 _ (by simp)⟩; (stepT_p L p s ok).elim fun I0 h=>stepT_ok L p s I0 _ h,fnB_ok (by kernel_rfl),HcOk.of (by simp [hcB,belBL,AV.belB,allB,okBk,okBkO,stepT_e,stepT_b,pureBL_map (v:=AV.int) (fun _=>rfl),pureBL_map (v:=Itm.v) (fun _=>rfl),pureBL_map (v:=Per.v) (fun _=>rfl)])⟩
theorem set_mid {α:Type} {l1 l2:List α} {x y:α} {k:Nat} (h:l1.length = k):(l1 ++ x :: l2).set k y = l1 ++ y :: l2:=by
  subst h
  rw [List.set_append,if_neg (by omega)]; simp
theorem get_mid {α:Type} {l1 l2:List α} {x:α} {k:Nat} (h:l1.length = k):(l1 ++ x :: l2)[k]? = some x:=by
  subst h
  rw [List.getElem?_append_right (by omega)]; simp
def spkT_a (L:(List Int)) (p:Nat):Prop:=okL [.ref 0 0] ∧ (.box (.agg [.sl 1 (L.map AV.int) false,.int ((p:Nat):Int)]):Blk).ok
def spkT_n0 (L:(List Int)) (p:Nat) (t0:Int × Int × Int × Int × (List Itm) × (List Per) × Tap):NF:=⟨[(0,.k,.ref 0 0),(2,.k,.ref 1 0),(3,.k,.ref 2 0),(5,.k,.int t0.1)],[.box (.agg [.sl 1 (t0.2.2.2.2.2.2.L.map AV.int) false,.int ((t0.2.2.2.2.2.2.p:Nat):Int)]),.box (.agg [.int 0,.int 0,.int 0,.sl 0 [] true,.sl 0 [] true]),.box (.agg [.int t0.2.1,.int t0.2.2.1,.int t0.2.2.2.1,.sl 4 (t0.2.2.2.2.1.map Itm.v) false,.vec 3]),.vec 3 (t0.2.2.2.2.2.1.map Per.v) (pureBL_map (fun _=>rfl) t0.2.2.2.2.2.1)]⟩
def spkT_n1 (L:(List Int)) (p:Nat) (t0:Int × Int × Int × Int × (List Itm) × (List Per) × Tap) (t1:Int × (List Per) × Tap):NF:=⟨[(0,.k,.ref 0 0),(2,.k,.ref 1 0),(3,.k,.ref 2 0),(31,.k,.int ((t0.2.2.2.2.2.1.map Per.v).length:Int)),(32,.k,.int t1.1)],[.box (.agg [.sl 1 (t1.2.2.L.map AV.int) false,.int ((t1.2.2.p:Nat):Int)]),.box (.agg [.int 0,.int 0,.int 0,.sl 0 [] true,.sl 0 [] true]),.box (.agg [.int t0.2.1,.int t0.2.2.1,.int t0.2.2.2.1,.sl 4 (t0.2.2.2.2.1.map Itm.v) false,.vec 3]),.vec 3 (t1.2.1.map Per.v) (pureBL_map (fun _=>rfl) t1.2.1)]⟩
def spkT_s:Nat → Type
  | 0=>Int × Int × Int × Int × (List Itm) × (List Per) × Tap
  | 1=>Int × (List Per) × Tap
  | _=>Unit
def spkT_e (r:Tap × Spk):AV:=.agg [.int r.2.router,.int r.2.epoch,.int r.2.last,.sl 4 (r.2.items.map Itm.v) false,.sl 3 (r.2.peers.map Per.v) false]
def spkT_b (r:Tap × Spk):List (Option Blk):=[some (.box (.agg [.sl 1 (r.1.L.map AV.int) false,.int ((r.1.p:Nat):Int)]))]
def spkT_vc (L:(List Int)) (p:Nat) (I0:(Int × Int × Int × Int × (List Itm) × (List Per) × Tap) → Prop) (m0:(Int × Int × Int × Int × (List Itm) × (List Per) × Tap) → Nat) (I1:Int × Int × Int × Int × (List Itm) × (List Per) × Tap → (Int × (List Per) × Tap) → Prop) (m1:Int × Int × Int × Int × (List Itm) × (List Per) × Tap → (Int × (List Per) × Tap) → Nat) (r0:Tap × Spk):Prop:=
 Ch (Range_h L p 1 4) [0] 33
 (∃ h1:[1,1,5,999999] ≠ [],
 Ch (Pick_h L (rawP L p) [1,1,5,999999] h1) [0] 81
 (Ch (Range_h L (rawP L (rawP L p)) 0 3) [0] 129
 (Rf (α:=List AV) [.int 7,.int 8,.int 9] (ck (bndB [7,8,9].length 0 (rng L (rawP L (rawP L p)) 0 3) ([7,8,9].length:Int))
 (Ch (newO_h (rng L p 1 4) (pickI [1,1,5,999999] (rawV L (rawP L p))) (([7,8,9].take ((rng L (rawP L (rawP L p)) 0 3).toNat)).drop 0)) [] 161
 (Ch (N_h L (rawP L (rawP L (rawP L p))) 6) [0] 289
 (Nf (spkT_n0 L p (Mod (rawV L (rawP L (rawP L (rawP L p)))) 6,((new (rng L p 1 4) (pickI [1,1,5,999999] (rawV L (rawP L p))) (([7,8,9].take ((rng L (rawP L (rawP L p)) 0 3).toNat)).drop 0)).1).router,((new (rng L p 1 4) (pickI [1,1,5,999999] (rawV L (rawP L p))) (([7,8,9].take ((rng L (rawP L (rawP L p)) 0 3).toNat)).drop 0)).1).epoch,((new (rng L p 1 4) (pickI [1,1,5,999999] (rawV L (rawP L p))) (([7,8,9].take ((rng L (rawP L (rawP L p)) 0 3).toNat)).drop 0)).1).last,((new (rng L p 1 4) (pickI [1,1,5,999999] (rawV L (rawP L p))) (([7,8,9].take ((rng L (rawP L (rawP L p)) 0 3).toNat)).drop 0)).1).items,((new (rng L p 1 4) (pickI [1,1,5,999999] (rawV L (rawP L p))) (([7,8,9].take ((rng L (rawP L (rawP L p)) 0 3).toNat)).drop 0)).1).peers,(⟨L,rawP L (rawP L (rawP L (rawP L p)))⟩:Tap))) [0,1,225,161] (I0 (Mod (rawV L (rawP L (rawP L (rawP L p)))) 6,((new (rng L p 1 4) (pickI [1,1,5,999999] (rawV L (rawP L p))) (([7,8,9].take ((rng L (rawP L (rawP L p)) 0 3).toNat)).drop 0)).1).router,((new (rng L p 1 4) (pickI [1,1,5,999999] (rawV L (rawP L p))) (([7,8,9].take ((rng L (rawP L (rawP L p)) 0 3).toNat)).drop 0)).1).epoch,((new (rng L p 1 4) (pickI [1,1,5,999999] (rawV L (rawP L p))) (([7,8,9].take ((rng L (rawP L (rawP L p)) 0 3).toNat)).drop 0)).1).last,((new (rng L p 1 4) (pickI [1,1,5,999999] (rawV L (rawP L p))) (([7,8,9].take ((rng L (rawP L (rawP L p)) 0 3).toNat)).drop 0)).1).items,((new (rng L p 1 4) (pickI [1,1,5,999999] (rawV L (rawP L p))) (([7,8,9].take ((rng L (rawP L (rawP L p)) 0 3).toNat)).drop 0)).1).peers,(⟨L,rawP L (rawP L (rawP L (rawP L p)))⟩:Tap))) ∧ ∀ t0:Int × Int × Int × Int × (List Itm) × (List Per) × Tap,I0 t0 →
 br (decide (0 < t0.1))
 (Ch (stepT_h t0.2.2.2.2.2.2.L t0.2.2.2.2.2.2.p (⟨t0.2.1,t0.2.2.1,t0.2.2.2.1,t0.2.2.2.2.1,t0.2.2.2.2.2.1⟩:Spk)) [0,3] 68
 (Nf (spkT_n0 L p (W (t0.1 - 1),((stepT t0.2.2.2.2.2.2.L t0.2.2.2.2.2.2.p (⟨t0.2.1,t0.2.2.1,t0.2.2.2.1,t0.2.2.2.2.1,t0.2.2.2.2.2.1⟩:Spk)).1).router,((stepT t0.2.2.2.2.2.2.L t0.2.2.2.2.2.2.p (⟨t0.2.1,t0.2.2.1,t0.2.2.2.1,t0.2.2.2.2.1,t0.2.2.2.2.2.1⟩:Spk)).1).epoch,((stepT t0.2.2.2.2.2.2.L t0.2.2.2.2.2.2.p (⟨t0.2.1,t0.2.2.1,t0.2.2.2.1,t0.2.2.2.2.1,t0.2.2.2.2.2.1⟩:Spk)).1).last,((stepT t0.2.2.2.2.2.2.L t0.2.2.2.2.2.2.p (⟨t0.2.1,t0.2.2.1,t0.2.2.2.1,t0.2.2.2.2.1,t0.2.2.2.2.2.1⟩:Spk)).1).items,((stepT t0.2.2.2.2.2.2.L t0.2.2.2.2.2.2.p (⟨t0.2.1,t0.2.2.1,t0.2.2.2.1,t0.2.2.2.2.1,t0.2.2.2.2.2.1⟩:Spk)).1).peers,(⟨t0.2.2.2.2.2.2.L,(stepT t0.2.2.2.2.2.2.L t0.2.2.2.2.2.2.p (⟨t0.2.1,t0.2.2.1,t0.2.2.2.1,t0.2.2.2.2.1,t0.2.2.2.2.2.1⟩:Spk)).2⟩:Tap))) [0,1,2,68] (I0 (W (t0.1 - 1),((stepT t0.2.2.2.2.2.2.L t0.2.2.2.2.2.2.p (⟨t0.2.1,t0.2.2.1,t0.2.2.2.1,t0.2.2.2.2.1,t0.2.2.2.2.2.1⟩:Spk)).1).router,((stepT t0.2.2.2.2.2.2.L t0.2.2.2.2.2.2.p (⟨t0.2.1,t0.2.2.1,t0.2.2.2.1,t0.2.2.2.2.1,t0.2.2.2.2.2.1⟩:Spk)).1).epoch,((stepT t0.2.2.2.2.2.2.L t0.2.2.2.2.2.2.p (⟨t0.2.1,t0.2.2.1,t0.2.2.2.1,t0.2.2.2.2.1,t0.2.2.2.2.2.1⟩:Spk)).1).last,((stepT t0.2.2.2.2.2.2.L t0.2.2.2.2.2.2.p (⟨t0.2.1,t0.2.2.1,t0.2.2.2.1,t0.2.2.2.2.1,t0.2.2.2.2.2.1⟩:Spk)).1).items,((stepT t0.2.2.2.2.2.2.L t0.2.2.2.2.2.2.p (⟨t0.2.1,t0.2.2.1,t0.2.2.2.1,t0.2.2.2.2.1,t0.2.2.2.2.2.1⟩:Spk)).1).peers,(⟨t0.2.2.2.2.2.2.L,(stepT t0.2.2.2.2.2.2.L t0.2.2.2.2.2.2.p (⟨t0.2.1,t0.2.2.1,t0.2.2.2.1,t0.2.2.2.2.1,t0.2.2.2.2.2.1⟩:Spk)).2⟩:Tap)) ∧ m0 (W (t0.1 - 1),((stepT t0.2.2.2.2.2.2.L t0.2.2.2.2.2.2.p (⟨t0.2.1,t0.2.2.1,t0.2.2.2.1,t0.2.2.2.2.1,t0.2.2.2.2.2.1⟩:Spk)).1).router,((stepT t0.2.2.2.2.2.2.L t0.2.2.2.2.2.2.p (⟨t0.2.1,t0.2.2.1,t0.2.2.2.1,t0.2.2.2.2.1,t0.2.2.2.2.2.1⟩:Spk)).1).epoch,((stepT t0.2.2.2.2.2.2.L t0.2.2.2.2.2.2.p (⟨t0.2.1,t0.2.2.1,t0.2.2.2.1,t0.2.2.2.2.1,t0.2.2.2.2.2.1⟩:Spk)).1).last,((stepT t0.2.2.2.2.2.2.L t0.2.2.2.2.2.2.p (⟨t0.2.1,t0.2.2.1,t0.2.2.2.1,t0.2.2.2.2.1,t0.2.2.2.2.2.1⟩:Spk)).1).items,((stepT t0.2.2.2.2.2.2.L t0.2.2.2.2.2.2.p (⟨t0.2.1,t0.2.2.1,t0.2.2.2.1,t0.2.2.2.2.1,t0.2.2.2.2.2.1⟩:Spk)).1).peers,(⟨t0.2.2.2.2.2.2.L,(stepT t0.2.2.2.2.2.2.L t0.2.2.2.2.2.2.p (⟨t0.2.1,t0.2.2.1,t0.2.2.2.1,t0.2.2.2.2.1,t0.2.2.2.2.2.1⟩:Spk)).2⟩:Tap)) < m0 t0)))
 (Nf (spkT_n1 L p t0 (0,t0.2.2.2.2.2.1,t0.2.2.2.2.2.2)) [0,1,2,3] (I1 t0 (0,t0.2.2.2.2.2.1,t0.2.2.2.2.2.2)) ∧ ∀ t1:Int × (List Per) × Tap,I1 t0 t1 →
 br (decide (t1.1 < ((t0.2.2.2.2.2.1.map Per.v).length:Int)))
 (Ch (N_h t1.2.2.L t1.2.2.p 2) [0] 68
 (br ((Mod (rawV t1.2.2.L t1.2.2.p) 2) == 0)
 (Ch (Range_h t1.2.2.L (rawP t1.2.2.L t1.2.2.p) 0 3) [0] 212
 (Ch (N_h t1.2.2.L (rawP t1.2.2.L (rawP t1.2.2.L t1.2.2.p)) (W (t0.2.2.2.1 + 1))) [0] 292
 (ck (cond (decide (0 ≤ t1.1)) (decide (t1.1 < ((t1.2.1.map Per.v).length:Int))) false)
 (Rf (t1.2.1.map Per.v) (ck (decide (t1.1.toNat < t1.2.1.length))
 (∀ y2,t1.2.1[t1.1.toNat]? = some y2 → Rf (Per.v (⟨y2.router,rng t1.2.2.L (rawP t1.2.2.L t1.2.2.p) 0 3,y2.acked⟩:Per))
 (ck (cond (decide (0 ≤ t1.1)) (decide (t1.1 < (((t1.2.1.set t1.1.toNat (⟨y2.router,rng t1.2.2.L (rawP t1.2.2.L t1.2.2.p) 0 3,y2.acked⟩:Per)).map Per.v).length:Int))) false)
 (Rf ((t1.2.1.set t1.1.toNat (⟨y2.router,rng t1.2.2.L (rawP t1.2.2.L t1.2.2.p) 0 3,y2.acked⟩:Per)).map Per.v) (ck (decide (t1.1.toNat < (t1.2.1.set t1.1.toNat (⟨y2.router,rng t1.2.2.L (rawP t1.2.2.L t1.2.2.p) 0 3,y2.acked⟩:Per)).length))
 (∀ y3,(t1.2.1.set t1.1.toNat (⟨y2.router,rng t1.2.2.L (rawP t1.2.2.L t1.2.2.p) 0 3,y2.acked⟩:Per))[t1.1.toNat]? = some y3 → Rf (Per.v (⟨y3.router,y3.epoch,Mod (rawV t1.2.2.L (rawP t1.2.2.L (rawP t1.2.2.L t1.2.2.p))) (W (t0.2.2.2.1 + 1))⟩:Per))
 (Nf (spkT_n1 L p t0 (W (t1.1 + 1),(t1.2.1.set t1.1.toNat (⟨y2.router,rng t1.2.2.L (rawP t1.2.2.L t1.2.2.p) 0 3,y2.acked⟩:Per)).set t1.1.toNat (⟨y3.router,y3.epoch,Mod (rawV t1.2.2.L (rawP t1.2.2.L (rawP t1.2.2.L t1.2.2.p))) (W (t0.2.2.2.1 + 1))⟩:Per),(⟨t1.2.2.L,rawP t1.2.2.L (rawP t1.2.2.L (rawP t1.2.2.L t1.2.2.p))⟩:Tap))) [0,1,2,3] (I1 t0 (W (t1.1 + 1),(t1.2.1.set t1.1.toNat (⟨y2.router,rng t1.2.2.L (rawP t1.2.2.L t1.2.2.p) 0 3,y2.acked⟩:Per)).set t1.1.toNat (⟨y3.router,y3.epoch,Mod (rawV t1.2.2.L (rawP t1.2.2.L (rawP t1.2.2.L t1.2.2.p))) (W (t0.2.2.2.1 + 1))⟩:Per),(⟨t1.2.2.L,rawP t1.2.2.L (rawP t1.2.2.L (rawP t1.2.2.L t1.2.2.p))⟩:Tap)) ∧ m1 t0 (W (t1.1 + 1),(t1.2.1.set t1.1.toNat (⟨y2.router,rng t1.2.2.L (rawP t1.2.2.L t1.2.2.p) 0 3,y2.acked⟩:Per)).set t1.1.toNat (⟨y3.router,y3.epoch,Mod (rawV t1.2.2.L (rawP t1.2.2.L (rawP t1.2.2.L t1.2.2.p))) (W (t0.2.2.2.1 + 1))⟩:Per),(⟨t1.2.2.L,rawP t1.2.2.L (rawP t1.2.2.L (rawP t1.2.2.L t1.2.2.p))⟩:Tap)) < m1 t0 t1))))))))))))
 (Nf (spkT_n1 L p t0 (W (t1.1 + 1),t1.2.1,(⟨t1.2.2.L,rawP t1.2.2.L t1.2.2.p⟩:Tap))) [0,1,2,3] (I1 t0 (W (t1.1 + 1),t1.2.1,(⟨t1.2.2.L,rawP t1.2.2.L t1.2.2.p⟩:Tap)) ∧ m1 t0 (W (t1.1 + 1),t1.2.1,(⟨t1.2.2.L,rawP t1.2.2.L t1.2.2.p⟩:Tap)) < m1 t0 t1))))
 (Rf (t1.2.1.map Per.v) (Nf ⟨[(2,.k,.ref 1 0)],[.box (.agg [.sl 1 (t1.2.2.L.map AV.int) false,.int ((t1.2.2.p:Nat):Int)]),.box (.agg [.int t0.2.1,.int t0.2.2.1,.int t0.2.2.2.1,.sl 4 (t0.2.2.2.2.1.map Itm.v) false,.sl 3 (t1.2.1.map Per.v) false])]⟩ [0,1] (Rf (spkT_e (t1.2.2,(⟨t0.2.1,t0.2.2.1,t0.2.2.2.1,t0.2.2.2.2.1,t1.2.1⟩:Spk))) (Rf (spkT_b (t1.2.2,(⟨t0.2.1,t0.2.2.1,t0.2.2.2.1,t0.2.2.2.2.1,t1.2.1⟩:Spk))) ((t1.2.2,(⟨t0.2.1,t0.2.2.1,t0.2.2.2.1,t0.2.2.2.2.1,t1.2.1⟩:Spk)) = r0)))))))))))))
theorem spkT_eq (L:(List Int)) (p:Nat) (I0:(Int × Int × Int × Int × (List Itm) × (List Per) × Tap) → Prop) (m0:(Int × Int × Int × Int × (List Itm) × (List Per) × Tap) → Nat) (I1:Int × Int × Int × Int × (List Itm) × (List Per) × Tap → (Int × (List Per) × Tap) → Prop) (m1:Int × Int × Int × Int × (List Itm) × (List Per) × Tap → (Int × (List Per) × Tap) → Nat) (r0:Tap × Spk):mxH Tryz.prog 7 [.ref 0 0] [.box (.agg [.sl 1 (L.map AV.int) false,.int ((p:Nat):Int)])] (.a [.k,.k,.k,(.s 4),(.s 3)]) spkT_e spkT_b ((.callH [0] (Range_h L p 1 4)
 (.req 81 ([1,1,5,999999] ≠ []) fun h1 =>
 (.callH [0] (Pick_h L (rawP L p) [1,1,5,999999] h1)
 (.callH [0] (Range_h L (rawP L (rawP L p)) 0 3)
 (.sub 145 AV.int [7,8,9] false
 (.callH [] (newO_h (rng L p 1 4) (pickI [1,1,5,999999] (rawV L (rawP L p))) (([7,8,9].take ((rng L (rawP L (rawP L p)) 0 3).toNat)).drop 0))
 (.callH [0] (N_h L (rawP L (rawP L (rawP L p))) 6)
 (.loop 0 (spkT_n0 L p) (I0) (m0) ((Mod (rawV L (rawP L (rawP L (rawP L p)))) 6,((new (rng L p 1 4) (pickI [1,1,5,999999] (rawV L (rawP L p))) (([7,8,9].take ((rng L (rawP L (rawP L p)) 0 3).toNat)).drop 0)).1).router,((new (rng L p 1 4) (pickI [1,1,5,999999] (rawV L (rawP L p))) (([7,8,9].take ((rng L (rawP L (rawP L p)) 0 3).toNat)).drop 0)).1).epoch,((new (rng L p 1 4) (pickI [1,1,5,999999] (rawV L (rawP L p))) (([7,8,9].take ((rng L (rawP L (rawP L p)) 0 3).toNat)).drop 0)).1).last,((new (rng L p 1 4) (pickI [1,1,5,999999] (rawV L (rawP L p))) (([7,8,9].take ((rng L (rawP L (rawP L p)) 0 3).toNat)).drop 0)).1).items,((new (rng L p 1 4) (pickI [1,1,5,999999] (rawV L (rawP L p))) (([7,8,9].take ((rng L (rawP L (rawP L p)) 0 3).toNat)).drop 0)).1).peers,(⟨L,rawP L (rawP L (rawP L (rawP L p)))⟩:Tap)):Int × Int × Int × Int × (List Itm) × (List Per) × Tap) [0,1,225,161] fun (t0:Int × Int × Int × Int × (List Itm) × (List Per) × Tap) =>
 (.br 36 (.callH [0,3] (stepT_h t0.2.2.2.2.2.2.L t0.2.2.2.2.2.2.p (⟨t0.2.1,t0.2.2.1,t0.2.2.2.1,t0.2.2.2.2.1,t0.2.2.2.2.2.1⟩:Spk))
 (.back 0 ((W (t0.1 - 1),((stepT t0.2.2.2.2.2.2.L t0.2.2.2.2.2.2.p (⟨t0.2.1,t0.2.2.1,t0.2.2.2.1,t0.2.2.2.2.1,t0.2.2.2.2.2.1⟩:Spk)).1).router,((stepT t0.2.2.2.2.2.2.L t0.2.2.2.2.2.2.p (⟨t0.2.1,t0.2.2.1,t0.2.2.2.1,t0.2.2.2.2.1,t0.2.2.2.2.2.1⟩:Spk)).1).epoch,((stepT t0.2.2.2.2.2.2.L t0.2.2.2.2.2.2.p (⟨t0.2.1,t0.2.2.1,t0.2.2.2.1,t0.2.2.2.2.1,t0.2.2.2.2.2.1⟩:Spk)).1).last,((stepT t0.2.2.2.2.2.2.L t0.2.2.2.2.2.2.p (⟨t0.2.1,t0.2.2.1,t0.2.2.2.1,t0.2.2.2.2.1,t0.2.2.2.2.2.1⟩:Spk)).1).items,((stepT t0.2.2.2.2.2.2.L t0.2.2.2.2.2.2.p (⟨t0.2.1,t0.2.2.1,t0.2.2.2.1,t0.2.2.2.2.1,t0.2.2.2.2.2.1⟩:Spk)).1).peers,(⟨t0.2.2.2.2.2.2.L,(stepT t0.2.2.2.2.2.2.L t0.2.2.2.2.2.2.p (⟨t0.2.1,t0.2.2.1,t0.2.2.2.1,t0.2.2.2.2.1,t0.2.2.2.2.2.1⟩:Spk)).2⟩:Tap)):Int × Int × Int × Int × (List Itm) × (List Per) × Tap) [0,1,2,68]))
 (.loop 1 (spkT_n1 L p t0) (I1 t0) (m1 t0) ((0,t0.2.2.2.2.2.1,t0.2.2.2.2.2.2):Int × (List Per) × Tap) [0,1,2,3] fun (t1:Int × (List Per) × Tap) =>
 (.br 20 (.callH [0] (N_h t1.2.2.L t1.2.2.p 2)
 (.br 100 (.callH [0] (Range_h t1.2.2.L (rawP t1.2.2.L t1.2.2.p) 0 3)
 (.callH [0] (N_h t1.2.2.L (rawP t1.2.2.L (rawP t1.2.2.L t1.2.2.p)) (W (t0.2.2.2.1 + 1)))
 (.st 340 Per.v t1.2.1 (fun y2=>(⟨y2.router,rng t1.2.2.L (rawP t1.2.2.L t1.2.2.p) 0 3,y2.acked⟩:Per)) fun y2 =>
 (.st 388 Per.v (t1.2.1.set t1.1.toNat (⟨y2.router,rng t1.2.2.L (rawP t1.2.2.L t1.2.2.p) 0 3,y2.acked⟩:Per)) (fun y3=>(⟨y3.router,y3.epoch,Mod (rawV t1.2.2.L (rawP t1.2.2.L (rawP t1.2.2.L t1.2.2.p))) (W (t0.2.2.2.1 + 1))⟩:Per)) fun y3 =>
 (.back 1 ((W (t1.1 + 1),(t1.2.1.set t1.1.toNat (⟨y2.router,rng t1.2.2.L (rawP t1.2.2.L t1.2.2.p) 0 3,y2.acked⟩:Per)).set t1.1.toNat (⟨y3.router,y3.epoch,Mod (rawV t1.2.2.L (rawP t1.2.2.L (rawP t1.2.2.L t1.2.2.p))) (W (t0.2.2.2.1 + 1))⟩:Per),(⟨t1.2.2.L,rawP t1.2.2.L (rawP t1.2.2.L (rawP t1.2.2.L t1.2.2.p))⟩:Tap)):Int × (List Per) × Tap) [0,1,2,3])))))
 (.back 1 ((W (t1.1 + 1),t1.2.1,(⟨t1.2.2.L,rawP t1.2.2.L t1.2.2.p⟩:Tap)):Int × (List Per) × Tap) [0,1,2,3])))
 (.cmdL (.frzE 3 (t1.2.1.map Per.v) (pureBL_map (fun _=>rfl) t1.2.1)) (.retH (t1.2.2,(⟨t0.2.1,t0.2.2.1,t0.2.2.2.1,t0.2.2.2.2.1,t1.2.1⟩:Spk)) ⟨[(2,.k,.ref 1 0)],[.box (.agg [.sl 1 (t1.2.2.L.map AV.int) false,.int ((t1.2.2.p:Nat):Int)]),.box (.agg [.int t0.2.1,.int t0.2.2.1,.int t0.2.2.2.1,.sl 4 (t0.2.2.2.2.1.map Itm.v) false,.sl 3 (t1.2.1.map Per.v) false])]⟩ [0,1]))))))))))))):An Tryz.prog spkT_s (Tap × Spk)) r0 = spkT_vc L p I0 m0 I1 m1 r0:=by kernel_rfl
theorem spkT_ok (L:(List Int)) (p:Nat) (I0:(Int × Int × Int × Int × (List Itm) × (List Per) × Tap) → Prop) (m0:(Int × Int × Int × Int × (List Itm) × (List Per) × Tap) → Nat) (I1:Int × Int × Int × Int × (List Itm) × (List Per) × Tap → (Int × (List Per) × Tap) → Prop) (m1:Int × Int × Int × Int × (List Itm) × (List Per) × Tap → (Int × (List Per) × Tap) → Nat) (r0:Tap × Spk) (h:spkT_vc L p I0 m0 I1 m1 r0):HSpec Tryz.prog 7 [.ref 0 0] [.box (.agg [.sl 1 (L.map AV.int) false,.int ((p:Nat):Int)])] (spkT_e r0) (spkT_b r0):=by
  have e:=spkT_eq L p I0 m0 I1 m1 r0
  rw [← e] at h
  exact mxH_ok (enc:=spkT_e) (hB:=spkT_b) h
theorem spkT_p (L:List Int) (p:Nat) (ok:spkT_a L p):∃ I0 m0 I1 m1,spkT_vc L p I0 m0 I1 m1 ((⟨L,(spkT L p).2⟩:Tap),(spkT L p).1):=by
  refine ⟨fun t=>∃ (k:Nat) (s:Spk) (q:Nat),k ≤ 6 ∧ t = ((k:Int),s.router,s.epoch,s.last,s.items,s.peers,(⟨L,q⟩:Tap)) ∧ stepN L k (s,q) = spk2 L p,fun t=>t.1.toNat,
    fun t0 t=>∃ k:Nat,k ≤ (spk2 L p).1.peers.length ∧ t = ((k:Int),(perN L (spk2 L p).1.last ((spk2 L p).1.peers.take k) (spk2 L p).2).1 ++ (spk2 L p).1.peers.drop k,(⟨L,(perN L (spk2 L p).1.last ((spk2 L p).1.peers.take k) (spk2 L p).2).2⟩:Tap)),
    fun t0 t=>(spk2 L p).1.peers.length - t.1.toNat,?_⟩
  simp only [spkT_vc,vcU,rfU,List.length_map]
  have h1:=rng_in (L:=L) (p:=rawP L (rawP L p)) (lo:=0) (hi:=3) (by omega)
  have h2:=Mod_range (x:=rawV L (rawP L (rawP L (rawP L p)))) (n:=6) (by omega)
  refine ⟨by simp,?_,?_,?_⟩
  · simp only [bndB]
    simp
    omega
  · exact ⟨(Mod (rawV L (rawP L (rawP L (rawP L p)))) 6).toNat,spk1 L p,rawP L (rawP L (rawP L (rawP L p))),by omega,by rw [Int.toNat_of_nonneg h2.1]; rfl,rfl⟩
  · rintro _ ⟨k,s,q,hk,rfl,hN⟩
    simp only [Int.toNat_natCast]
    refine ⟨fun h3=>?_,fun h3=>?_⟩
    · obtain ⟨k,rfl⟩:∃ j,k = j + 1:=⟨k - 1,by omega⟩
      rw [W_eq (by omega)]
      exact ⟨⟨k,(stepT L q s).1,(stepT L q s).2,by omega,by simp,hN⟩,by omega⟩
    · have:k = 0:=by omega
      subst this
      have hN:(s,q) = spk2 L p:=hN
      have hok:=spk2_ok (L:=L) (p:=p)
      have hT:spkT L p = (⟨(spk2 L p).1.router,(spk2 L p).1.epoch,(spk2 L p).1.last,(spk2 L p).1.items,(perN L (spk2 L p).1.last (spk2 L p).1.peers (spk2 L p).2).1⟩,(perN L (spk2 L p).1.last (spk2 L p).1.peers (spk2 L p).2).2):=rfl
      rw [hT]
      rw [← hN] at hok ⊢
      simp only
      have hlen:=hok.2.2.2.2.1
      have hl:=hok.2.2.1
      simp only at hlen hl
      refine ⟨⟨0,by omega,rfl⟩,?_⟩
      rintro _ ⟨j,hj,rfl⟩
      have hpl:(perN L s.last (s.peers.take j) q).1.length = j:=by rw [perN_len,List.length_take]; omega
      simp only [Int.toNat_natCast]
      refine ⟨fun h4=>?_,fun h4=>?_⟩
      · have hj2:j < s.peers.length:=by omega
        have hx:s.peers[j]? = some s.peers[j]:=List.getElem?_eq_getElem hj2
        have hd:s.peers.drop j = s.peers[j] :: s.peers.drop (j + 1):=List.drop_eq_getElem_cons hj2
        generalize s.peers[j] = x at *
        have ht:perN L s.last (s.peers.take (j + 1)) q = ((perN L s.last (s.peers.take j) q).1 ++ [(per1 L s.last x (perN L s.last (s.peers.take j) q).2).1],(per1 L s.last x (perN L s.last (s.peers.take j) q).2).2):=by
          rw [take_succ hx,perN_append]; rfl
        rw [hd]
        generalize perN L s.last (s.peers.take j) q = z at *
        rw [W_succ (n:=s.peers.length) (by omega) (by omega)]
        have b1:∀ y:Per,(z.1 ++ y :: s.peers.drop (j + 1)).length = s.peers.length:=fun y=>by simp [hpl]; omega
        refine ⟨fun h5=>?_,fun h5=>?_⟩
        · have h5:Mod (rawV L z.2) 2 = 0:=by simpa using h5
          refine ⟨by rw [b1]; simp; omega,by rw [b1]; omega,fun y2 hy2=>?_⟩
          rw [get_mid hpl] at hy2
          cases hy2
          simp only [set_mid hpl]
          refine ⟨by rw [b1]; simp; omega,by rw [b1]; omega,fun y3 hy3=>?_⟩
          rw [get_mid hpl] at hy3
          cases hy3
          simp only [set_mid hpl]
          refine ⟨⟨j + 1,by omega,?_⟩,by omega⟩
          rw [ht,per1,if_pos h5]
          simp
        · have h5:¬ Mod (rawV L z.2) 2 = 0:=by simpa using h5
          refine ⟨⟨j + 1,by omega,?_⟩,by omega⟩
          rw [ht,per1,if_neg h5]
          simp
      · have e:j = s.peers.length:=by omega
        rw [e,List.take_length,List.drop_length,List.append_nil]
def spkT_h (L:(List Int)) (p:Nat):HC Tryz.prog:=⟨7,[.k],[.ref 0 0],[.box (.agg [.sl 1 (L.map AV.int) false,.int ((p:Nat):Int)])],spkT_e ((⟨L,(Go.Proofs.YtglfecmdoekabaaGreat.spkT L p).2⟩:Tap),(Go.Proofs.YtglfecmdoekabaaGreat.spkT L p).1),spkT_b ((⟨L,(Go.Proofs.YtglfecmdoekabaaGreat.spkT L p).2⟩:Tap),(Go.Proofs.YtglfecmdoekabaaGreat.spkT L p).1),HSpec.of_okh fun ok ok2=>have ok:spkT_a L p:=⟨ok,ok2 _ (by simp)⟩; (spkT_p L p ok).elim fun I0 h=>h.elim fun m0 h=>h.elim fun I1 h=>h.elim fun m1 h=>spkT_ok L p I0 m0 I1 m1 _ h,fnB_ok (by kernel_rfl),HcOk.of (by simp [hcB,belBL,AV.belB,allB,okBk,okBkO,spkT_e,spkT_b,pureBL_map (v:=AV.int) (fun _=>rfl)])⟩
end Go.Proofs.YtglfecmdoekabaaGreat

namespace Go.Proofs.YtglfecmdoekabaaGreat
open Go Go.Am
set_option linter.unusedVariables false
set_option linter.unusedSimpArgs false
def bentF (L:List Int) (p:Nat) (f:Flt):Flt × Nat:=
  if Mod (rawV L p) 4 = 0 then (⟨rng L (rawP L p) 0 3,f.srcs⟩,rawP L (rawP L p))
  else if Mod (rawV L p) 4 = 1 then (⟨f.mode,f.srcs ++ [pickI [0,1,99,100] (rawV L (rawP L p))]⟩,rawP L (rawP L p))
  else if Mod (rawV L p) 4 = 2 then (if 0 < (f.srcs.length:Int) then ⟨f.mode,f.srcs ++ [f.srcs.getD 0 0]⟩ else f,rawP L p)
  else if 0 < (f.srcs.length:Int) then (⟨f.mode,f.srcs.set 0 (pickI [-1,0,100] (rawV L (rawP L p)))⟩,rawP L (rawP L p)) else (f,rawP L p)
def smN:List Itm → Int → Int
  | [],n=>n
  | x :: r,n=>if n < 900 then smN r (W (n + x.srcs.length)) else n
def smallI (l:List Itm):Bool:=decide (smN l l.length ≤ 800)
def smallS (s:Spk):Bool:=smallI s.items && decide ((s.peers.length:Int) ≤ 40)
def itmAt (l:List Itm) (i:Nat):Itm:=l.getD i ⟨0,0,0,[]⟩
def perAt (l:List Per) (i:Nat):Per:=l.getD i ⟨0,0,0⟩
def bentS (L:List Int) (p:Nat) (s:Spk):Spk × Nat:=
  let k:=Mod (rawV L p) 8
  let q:=rawP L p
  let i:=(Mod (rawV L q) s.items.length).toNat
  let j:=(Mod (rawV L q) s.peers.length).toNat
  if k = 0 then ({ s with router:=pickI [0,99,100,7] (rawV L q) },rawP L q)
  else if k = 1 then ({ s with epoch:=pickI [0,1000000,1000001] (rawV L q) },rawP L q)
  else if k = 2 then ({ s with last:=pickI [-1,0,1000000,1000001] (rawV L q) },rawP L q)
  else if k = 3 then ({ s with items:=s.items ++ [⟨s.last,rng L q 0 7,(filterT L (rawP L q)).1.mode,(filterT L (rawP L q)).1.srcs⟩] },(filterT L (rawP L q)).2)
  else if k = 4 then (if 0 < (s.items.length:Int) then
    ({ s with items:=s.items.set i ⟨(itmAt s.items i).ver,(itmAt s.items i).grp,(bentF L (filterT L (rawP L q)).2 (filterT L (rawP L q)).1).1.mode,(bentF L (filterT L (rawP L q)).2 (filterT L (rawP L q)).1).1.srcs⟩ },(bentF L (filterT L (rawP L q)).2 (filterT L (rawP L q)).1).2) else (s,q))
  else if k = 5 then (if 0 < (s.items.length:Int) then ({ s with items:=s.items.set i { itmAt s.items i with ver:=rng L (rawP L q) (-1) (W (s.last + 1)) } },rawP L (rawP L q)) else (s,q))
  else if k = 6 then (if 0 < (s.peers.length:Int) then ({ s with peers:=s.peers.set j { perAt s.peers j with acked:=pickI [-1,s.last,W (s.last + 1)] (rawV L (rawP L q)) } },rawP L (rawP L q)) else (s,q))
  else (if 0 < (s.peers.length:Int) then ({ s with peers:=s.peers.set j { perAt s.peers j with router:=pickI [0,s.router,7,100] (rawV L (rawP L q)) } },rawP L (rawP L q)) else (s,q))
end Go.Proofs.YtglfecmdoekabaaGreat

namespace Go.Proofs.YtglfecmdoekabaaGreat
open Go Go.Am
set_option linter.unusedVariables false
set_option linter.unusedSimpArgs false
theorem smN_done {l:List Itm} {n:Int} {k:Nat} (h:¬ ((k:Int) < l.length ∧ n < 900)):smN (l.drop k) n = n:=by
  by_cases hk:k < l.length
  · rw [List.drop_eq_getElem_cons hk,smN,if_neg (by omega)]
  · rw [List.drop_eq_nil_iff.mpr (by omega),smN]
def smallI_a (l:(List Itm)):Prop:=okL [.sl 4 (l.map Itm.v) false]
def smallI_n0 (l:(List Itm)) (t0:Int × Int):NF:=⟨[(0,.k,.sl 4 (l.map Itm.v) false),(3,.k,.int t0.1),(4,.k,.int t0.2)],[]⟩
def smallI_n1 (l:(List Itm)) (t0:Int × Int) (t1:Bool):NF:=⟨[(0,.k,.sl 4 (l.map Itm.v) false),(3,.k,.int t0.1),(4,.k,.int t0.2),(14,.k,.bool t1)],[]⟩
def smallI_s:Nat → Type
  | 0=>Int × Int
  | 1=>Bool
  | _=>Unit
def smallI_e (r:Bool):AV:=.bool r
def smallI_vc (l:(List Itm)) (I0:(Int × Int) → Prop) (m0:(Int × Int) → Nat) (I1:Int × Int → Bool → Prop) (r0:Bool):Prop:=
 Nf (smallI_n0 l (((l.map Itm.v).length:Int),0)) [] (I0 (((l.map Itm.v).length:Int),0)) ∧ ∀ t0:Int × Int,I0 t0 →
 (br (decide (t0.2 < ((l.map Itm.v).length:Int)))
 (Nf (smallI_n1 l t0 (decide (t0.1 < 900))) [] (I1 t0 ((decide (t0.1 < 900)):Bool)))
 (Nf (smallI_n1 l t0 (false)) [] (I1 t0 ((false):Bool)))) ∧ ∀ t1:Bool,I1 t0 t1 →
 br t1
 (Rf (l.map Itm.v) (ck (decide (0 ≤ t0.2)) (ck (decide (t0.2 < (l.length:Int)))
 (∀ x1,l[t0.2.toNat]? = some x1 →
 Nf (smallI_n0 l (W (t0.1 + ((x1.srcs.map AV.int).length:Int)),W (t0.2 + 1))) [] (I0 (W (t0.1 + ((x1.srcs.map AV.int).length:Int)),W (t0.2 + 1)) ∧ m0 (W (t0.1 + ((x1.srcs.map AV.int).length:Int)),W (t0.2 + 1)) < m0 t0)))))
 (Rf (smallI_e (decide (t0.1 ≤ 800))) ((decide (t0.1 ≤ 800)) = r0))
theorem smallI_eq (l:(List Itm)) (I0:(Int × Int) → Prop) (m0:(Int × Int) → Nat) (I1:Int × Int → Bool → Prop) (r0:Bool):mxP Tryz.prog 27 [.sl 4 (l.map Itm.v) false] .k smallI_e ((.loop 0 (smallI_n0 l) (I0) (m0) ((((l.map Itm.v).length:Int),0):Int × Int) [] fun (t0:Int × Int) =>
 (.pass (.join 1 (smallI_n1 l t0) (fun t1=>I1 t0 t1) (.br 80 (.back 1 ((decide (t0.1 < 900)):Bool) [])
 (.back 1 ((false):Bool) [])) fun (t1:Bool) =>
 (.br 0 (.el 48 Itm.v l fun x1 =>
 (.back 0 ((W (t0.1 + ((x1.srcs.map AV.int).length:Int)),W (t0.2 + 1)):Int × Int) []))
 (.ret (decide (t0.1 ≤ 800))))))):An Tryz.prog smallI_s (Bool)) r0 = smallI_vc l I0 m0 I1 r0:=by kernel_rfl
theorem smallI_ok (l:(List Itm)) (I0:(Int × Int) → Prop) (m0:(Int × Int) → Nat) (I1:Int × Int → Bool → Prop) (r0:Bool) (h:smallI_vc l I0 m0 I1 r0):PSpec Tryz.prog 27 [.sl 4 (l.map Itm.v) false] (smallI_e r0):=by
  have e:=smallI_eq l I0 m0 I1 r0
  rw [← e] at h
  exact mxP_ok (enc:=smallI_e) h (AV.pureB_ok rfl)
theorem smallI_p (l:List Itm) (ok:smallI_a l):∃ I0 m0 I1,smallI_vc l I0 m0 I1 (smallI l):=by
  refine ⟨fun t=>∃ k:Nat,t.2 = k ∧ k ≤ l.length ∧ smN (l.drop k) t.1 = smN l l.length,fun t=>l.length - t.2.toNat,fun t x=>x = decide (t.2 < l.length ∧ t.1 < 900),?_⟩
  have hle:l.length ≤ 9223372036854775807:=by
    have h:=ok
    simp only [smallI_a,AV.ok,okL,List.length_map,maxLen_eq] at h
    omega
  simp only [smallI_vc,vcU,rfU,List.length_map]
  refine ⟨⟨0,rfl,by omega,rfl⟩,?_⟩
  rintro ⟨n,i⟩ ⟨k,hi,hk,hs⟩
  simp only at hi hs
  subst hi
  simp only
  refine ⟨⟨fun c=>by simp [c],fun c=>by simp [c]⟩,?_⟩
  rintro _ rfl
  refine ⟨fun c=>?_,fun c=>?_⟩
  · have c:(k:Int) < l.length ∧ n < 900:=of_decide_eq_true c
    refine ⟨by omega,by omega,fun x hx=>?_⟩
    rw [W_succ (n:=l.length) (by omega) (by omega)]
    simp only [Int.toNat_natCast] at hx
    refine ⟨⟨k + 1,by omega,by omega,?_⟩,by omega⟩
    obtain ⟨hk',rfl⟩:=List.getElem?_eq_some_iff.mp hx
    rw [List.drop_eq_getElem_cons hk',smN,if_pos c.2] at hs
    exact hs
  · have c:¬ ((k:Int) < l.length ∧ n < 900):=of_decide_eq_false c
    rw [smN_done c] at hs
    rw [hs]; rfl
def smallI_c (l:(List Itm)):PC Tryz.prog:=⟨27,[(.s 4)],[.sl 4 (l.map Itm.v) false],smallI_e (smallI l),PSpec.of_ok fun ok=>(smallI_p l ok).elim fun I0 h=>h.elim fun m0 h=>h.elim fun I1 h=>smallI_ok l I0 m0 I1 _ h,fnB_ok (by kernel_rfl)⟩
def smallS_a (s:Spk):Prop:=okL [.agg [.int s.router,.int s.epoch,.int s.last,.sl 4 (s.items.map Itm.v) false,.sl 3 (s.peers.map Per.v) false]]
def smallS_s:Nat → Type
  | _=>Unit
def smallS_e (r:Bool):AV:=.bool r
def smallS_vc (s:Spk) (r0:Bool):Prop:=
 Cl (smallI_c s.items)
 (br (smallI s.items)
 (Rf (smallS_e (decide (((s.peers.map Per.v).length:Int) ≤ 40))) ((decide (((s.peers.map Per.v).length:Int) ≤ 40)) = r0))
 (Rf (smallS_e (false)) ((false) = r0)))
theorem smallS_eq (s:Spk) (r0:Bool):mxP Tryz.prog 4 [.agg [.int s.router,.int s.epoch,.int s.last,.sl 4 (s.items.map Itm.v) false,.sl 3 (s.peers.map Per.v) false]] .k smallS_e ((.callP (smallI_c s.items)
 (.br 96 (.ret (decide (((s.peers.map Per.v).length:Int) ≤ 40)))
 (.ret (false)))):An Tryz.prog smallS_s (Bool)) r0 = smallS_vc s r0:=by kernel_rfl
theorem smallS_ok (s:Spk) (r0:Bool) (h:smallS_vc s r0):PSpec Tryz.prog 4 [.agg [.int s.router,.int s.epoch,.int s.last,.sl 4 (s.items.map Itm.v) false,.sl 3 (s.peers.map Per.v) false]] (smallS_e r0):=by
  have e:=smallS_eq s r0
  rw [← e] at h
  exact mxP_ok (enc:=smallS_e) h (AV.pureB_ok rfl)
theorem smallS_p (s:Spk) (ok:smallS_a s):smallS_vc s (smallS s):=by
  unfold smallS
  simp only [smallS_vc,vcU,rfU,List.length_map]
  exact ⟨fun h=>by simp [h],fun h=>by simp [h]⟩
def smallS_c (s:Spk):PC Tryz.prog:=⟨4,[(.a [.k,.k,.k,(.s 4),(.s 3)])],[.agg [.int s.router,.int s.epoch,.int s.last,.sl 4 (s.items.map Itm.v) false,.sl 3 (s.peers.map Per.v) false]],smallS_e (smallS s),PSpec.of_ok fun ok=>smallS_ok s _ (smallS_p s ok),fnB_ok (by kernel_rfl)⟩
def bentF_a (L:(List Int)) (p:Nat) (f:Flt):Prop:=okL [.ref 0 0,.agg [.int f.mode,.sl 1 (f.srcs.map AV.int) false]] ∧ (.box (.agg [.sl 1 (L.map AV.int) false,.int ((p:Nat):Int)]):Blk).ok
def bentF_s:Nat → Type
  | _=>Unit
def bentF_e (r:Tap × Flt):AV:=.agg [.int r.2.mode,.sl 1 (r.2.srcs.map AV.int) false]
def bentF_b (r:Tap × Flt):List (Option Blk):=[some (.box (.agg [.sl 1 (r.1.L.map AV.int) false,.int ((r.1.p:Nat):Int)]))]
def bentF_vc (L:(List Int)) (p:Nat) (f:Flt) (r0:Tap × Flt):Prop:=
 Rf (α:=List AV) [] (Rf (α:=List AV) (f.srcs.map AV.int)
 (ck (decide (0 + f.srcs.length ≤ 1000000))
 (Ch (N_h L p 4) [0] 193
 (br ((Mod (rawV L p) 4) == 0)
 (Ch (Range_h L (rawP L p) 0 3) [0] 257
 (Rf (f.srcs.map AV.int) (Nf ⟨[(4,.k,.ref 1 0)],[.box (.agg [.sl 1 (L.map AV.int) false,.int (((rawP L (rawP L p)):Nat):Int)]),.box (.agg [.int (rng L (rawP L p) 0 3),.sl 1 (f.srcs.map AV.int) false])]⟩ [0,17] (Rf (bentF_e ((⟨L,rawP L (rawP L p)⟩:Tap),(⟨rng L (rawP L p) 0 3,f.srcs⟩:Flt))) (Rf (bentF_b ((⟨L,rawP L (rawP L p)⟩:Tap),(⟨rng L (rawP L p) 0 3,f.srcs⟩:Flt))) (((⟨L,rawP L (rawP L p)⟩:Tap),(⟨rng L (rawP L p) 0 3,f.srcs⟩:Flt)) = r0))))))
 (br ((Mod (rawV L p) 4) == 1)
 (∃ h1:[0,1,99,100] ≠ [],
 Ch (Pick_h L (rawP L p) [0,1,99,100] h1) [0] 337
 (Rf (α:=List AV) (f.srcs.map AV.int) (Rf (α:=List AV) [.int (pickI [0,1,99,100] (rawV L (rawP L p)))]
 (ck (decide (f.srcs.length + 1 ≤ 1000000))
 (Rf ((f.srcs ++ [pickI [0,1,99,100] (rawV L (rawP L p))]).map AV.int) (Nf ⟨[(4,.k,.ref 1 0)],[.box (.agg [.sl 1 (L.map AV.int) false,.int (((rawP L (rawP L p)):Nat):Int)]),.box (.agg [.int f.mode,.sl 1 ((f.srcs ++ [pickI [0,1,99,100] (rawV L (rawP L p))]).map AV.int) false])]⟩ [0,17] (Rf (bentF_e ((⟨L,rawP L (rawP L p)⟩:Tap),(⟨f.mode,f.srcs ++ [pickI [0,1,99,100] (rawV L (rawP L p))]⟩:Flt))) (Rf (bentF_b ((⟨L,rawP L (rawP L p)⟩:Tap),(⟨f.mode,f.srcs ++ [pickI [0,1,99,100] (rawV L (rawP L p))]⟩:Flt))) (((⟨L,rawP L (rawP L p)⟩:Tap),(⟨f.mode,f.srcs ++ [pickI [0,1,99,100] (rawV L (rawP L p))]⟩:Flt)) = r0)))))))))
 (br ((Mod (rawV L p) 4) == 2)
 (br (decide (0 < ((f.srcs.map AV.int).length:Int)))
 (ck (decide (0 < ((f.srcs.map AV.int).length:Int)))
 (Rf (f.srcs.map AV.int) (ck (decide (0 < f.srcs.length))
 (∀ x2,f.srcs[0]? = some x2 →
 Rf (α:=List AV) (f.srcs.map AV.int) (Rf (α:=List AV) [.int x2]
 (ck (decide (f.srcs.length + 1 ≤ 1000000))
 (Rf ((f.srcs ++ [x2]).map AV.int) (Nf ⟨[(4,.k,.ref 1 0)],[.box (.agg [.sl 1 (L.map AV.int) false,.int (((rawP L p):Nat):Int)]),.box (.agg [.int f.mode,.sl 1 ((f.srcs ++ [x2]).map AV.int) false])]⟩ [0,17] (Rf (bentF_e ((⟨L,rawP L p⟩:Tap),(⟨f.mode,f.srcs ++ [x2]⟩:Flt))) (Rf (bentF_b ((⟨L,rawP L p⟩:Tap),(⟨f.mode,f.srcs ++ [x2]⟩:Flt))) (((⟨L,rawP L p⟩:Tap),(⟨f.mode,f.srcs ++ [x2]⟩:Flt)) = r0)))))))))))
 (Rf (f.srcs.map AV.int) (Nf ⟨[(4,.k,.ref 1 0)],[.box (.agg [.sl 1 (L.map AV.int) false,.int (((rawP L p):Nat):Int)]),.box (.agg [.int f.mode,.sl 1 (f.srcs.map AV.int) false])]⟩ [0,17] (Rf (bentF_e ((⟨L,rawP L p⟩:Tap),f)) (Rf (bentF_b ((⟨L,rawP L p⟩:Tap),f)) (((⟨L,rawP L p⟩:Tap),f) = r0))))))
 (br (decide (0 < ((f.srcs.map AV.int).length:Int)))
 (∃ h3:[-1,0,100] ≠ [],
 Ch (Pick_h L (rawP L p) [-1,0,100] h3) [0] 433
 (ck (decide (0 < ((f.srcs.map AV.int).length:Int)))
 (Rf (f.srcs.map AV.int) (ck (decide (0 < f.srcs.length))
 (∀ y4,f.srcs[0]? = some y4 → Rf (AV.int (pickI [-1,0,100] (rawV L (rawP L p))))
 (Rf ((f.srcs.set 0 (pickI [-1,0,100] (rawV L (rawP L p)))).map AV.int) (Nf ⟨[(4,.k,.ref 1 0)],[.box (.agg [.sl 1 (L.map AV.int) false,.int (((rawP L (rawP L p)):Nat):Int)]),.box (.agg [.int f.mode,.sl 1 ((f.srcs.set 0 (pickI [-1,0,100] (rawV L (rawP L p)))).map AV.int) false])]⟩ [0,17] (Rf (bentF_e ((⟨L,rawP L (rawP L p)⟩:Tap),(⟨f.mode,f.srcs.set 0 (pickI [-1,0,100] (rawV L (rawP L p)))⟩:Flt))) (Rf (bentF_b ((⟨L,rawP L (rawP L p)⟩:Tap),(⟨f.mode,f.srcs.set 0 (pickI [-1,0,100] (rawV L (rawP L p)))⟩:Flt))) (((⟨L,rawP L (rawP L p)⟩:Tap),(⟨f.mode,f.srcs.set 0 (pickI [-1,0,100] (rawV L (rawP L p)))⟩:Flt)) = r0))))))))))
 (Rf (f.srcs.map AV.int) (Nf ⟨[(4,.k,.ref 1 0)],[.box (.agg [.sl 1 (L.map AV.int) false,.int (((rawP L p):Nat):Int)]),.box (.agg [.int f.mode,.sl 1 (f.srcs.map AV.int) false])]⟩ [0,17] (Rf (bentF_e ((⟨L,rawP L p⟩:Tap),f)) (Rf (bentF_b ((⟨L,rawP L p⟩:Tap),f)) (((⟨L,rawP L p⟩:Tap),f) = r0))))))))))))
theorem bentF_eq (L:(List Int)) (p:Nat) (f:Flt) (r0:Tap × Flt):mxH Tryz.prog 32 [.ref 0 0,.agg [.int f.mode,.sl 1 (f.srcs.map AV.int) false]] [.box (.agg [.sl 1 (L.map AV.int) false,.int ((p:Nat):Int)])] (.a [.k,(.s 1)]) bentF_e bentF_b ((.app 113 AV.int [] f.srcs
 (.callH [0] (N_h L p 4)
 (.br 241 (.callH [0] (Range_h L (rawP L p) 0 3)
 (.cmdL (.frzE 113 (f.srcs.map AV.int) (pureBL_map (fun _=>rfl) f.srcs)) (.retH ((⟨L,rawP L (rawP L p)⟩:Tap),(⟨rng L (rawP L p) 0 3,f.srcs⟩:Flt)) ⟨[(4,.k,.ref 1 0)],[.box (.agg [.sl 1 (L.map AV.int) false,.int (((rawP L (rawP L p)):Nat):Int)]),.box (.agg [.int (rng L (rawP L p) 0 3),.sl 1 (f.srcs.map AV.int) false])]⟩ [0,17])))
 (.br 273 (.req 337 ([0,1,99,100] ≠ []) fun h1 =>
 (.callH [0] (Pick_h L (rawP L p) [0,1,99,100] h1)
 (.app 369 AV.int f.srcs [pickI [0,1,99,100] (rawV L (rawP L p))]
 (.cmdL (.frzE 369 ((f.srcs ++ [pickI [0,1,99,100] (rawV L (rawP L p))]).map AV.int) (pureBL_map (fun _=>rfl) (f.srcs ++ [pickI [0,1,99,100] (rawV L (rawP L p))]))) (.retH ((⟨L,rawP L (rawP L p)⟩:Tap),(⟨f.mode,f.srcs ++ [pickI [0,1,99,100] (rawV L (rawP L p))]⟩:Flt)) ⟨[(4,.k,.ref 1 0)],[.box (.agg [.sl 1 (L.map AV.int) false,.int (((rawP L (rawP L p)):Nat):Int)]),.box (.agg [.int f.mode,.sl 1 ((f.srcs ++ [pickI [0,1,99,100] (rawV L (rawP L p))]).map AV.int) false])]⟩ [0,17])))))
 (.br 305 (.br 369 (.el 449 AV.int f.srcs fun x2 =>
 (.app 481 AV.int f.srcs [x2]
 (.cmdL (.frzE 481 ((f.srcs ++ [x2]).map AV.int) (pureBL_map (fun _=>rfl) (f.srcs ++ [x2]))) (.retH ((⟨L,rawP L p⟩:Tap),(⟨f.mode,f.srcs ++ [x2]⟩:Flt)) ⟨[(4,.k,.ref 1 0)],[.box (.agg [.sl 1 (L.map AV.int) false,.int (((rawP L p):Nat):Int)]),.box (.agg [.int f.mode,.sl 1 ((f.srcs ++ [x2]).map AV.int) false])]⟩ [0,17]))))
 (.cmdL (.frzE 113 (f.srcs.map AV.int) (pureBL_map (fun _=>rfl) f.srcs)) (.retH ((⟨L,rawP L p⟩:Tap),f) ⟨[(4,.k,.ref 1 0)],[.box (.agg [.sl 1 (L.map AV.int) false,.int (((rawP L p):Nat):Int)]),.box (.agg [.int f.mode,.sl 1 (f.srcs.map AV.int) false])]⟩ [0,17])))
 (.br 369 (.req 433 ([-1,0,100] ≠ []) fun h3 =>
 (.callH [0] (Pick_h L (rawP L p) [-1,0,100] h3)
 (.st 465 AV.int f.srcs (fun y4=>(pickI [-1,0,100] (rawV L (rawP L p)))) fun y4 =>
 (.cmdL (.frzE 113 ((f.srcs.set 0 (pickI [-1,0,100] (rawV L (rawP L p)))).map AV.int) (pureBL_map (fun _=>rfl) (f.srcs.set 0 (pickI [-1,0,100] (rawV L (rawP L p)))))) (.retH ((⟨L,rawP L (rawP L p)⟩:Tap),(⟨f.mode,f.srcs.set 0 (pickI [-1,0,100] (rawV L (rawP L p)))⟩:Flt)) ⟨[(4,.k,.ref 1 0)],[.box (.agg [.sl 1 (L.map AV.int) false,.int (((rawP L (rawP L p)):Nat):Int)]),.box (.agg [.int f.mode,.sl 1 ((f.srcs.set 0 (pickI [-1,0,100] (rawV L (rawP L p)))).map AV.int) false])]⟩ [0,17])))))
 (.cmdL (.frzE 113 (f.srcs.map AV.int) (pureBL_map (fun _=>rfl) f.srcs)) (.retH ((⟨L,rawP L p⟩:Tap),f) ⟨[(4,.k,.ref 1 0)],[.box (.agg [.sl 1 (L.map AV.int) false,.int (((rawP L p):Nat):Int)]),.box (.agg [.int f.mode,.sl 1 (f.srcs.map AV.int) false])]⟩ [0,17])))))))):An Tryz.prog bentF_s (Tap × Flt)) r0 = bentF_vc L p f r0:=by kernel_rfl
theorem bentF_ok (L:(List Int)) (p:Nat) (f:Flt) (r0:Tap × Flt) (h:bentF_vc L p f r0):HSpec Tryz.prog 32 [.ref 0 0,.agg [.int f.mode,.sl 1 (f.srcs.map AV.int) false]] [.box (.agg [.sl 1 (L.map AV.int) false,.int ((p:Nat):Int)])] (bentF_e r0) (bentF_b r0):=by
  have e:=bentF_eq L p f r0
  rw [← e] at h
  exact mxH_ok (enc:=bentF_e) (hB:=bentF_b) h
theorem bentF_p (L:List Int) (p:Nat) (f:Flt) (h:f.srcs.length ≤ 900000) (ok:bentF_a L p f):bentF_vc L p f ((⟨L,(bentF L p f).2⟩:Tap),(bentF L p f).1):=by
  simp only [bentF_vc,vcU,rfU,List.length_map]
  refine ⟨by omega,fun c=>by simp [bentF,eq_of_beq c],fun c0=>?_⟩
  have c0:¬ Mod (rawV L p) 4 = 0:=by simpa using c0
  refine ⟨fun c=>⟨by simp,by omega,by simp [bentF,eq_of_beq c]⟩,fun c1=>?_⟩
  have c1:¬ Mod (rawV L p) 4 = 1:=by simpa using c1
  refine ⟨fun c=>⟨fun q=>⟨q,by omega,fun x hx=>⟨by omega,?_⟩⟩,fun q=>?_⟩,fun c2=>?_⟩
  · have c:=eq_of_beq c
    have hx:f.srcs.getD 0 0 = x:=by rw [List.getD_eq_getElem?_getD,hx]; rfl
    rw [bentF,if_neg c0,if_neg c1,if_pos c,if_pos q,hx]
  · have c:=eq_of_beq c
    rw [bentF,if_neg c0,if_neg c1,if_pos c,if_neg q]
  have c2:¬ Mod (rawV L p) 4 = 2:=by simpa using c2
  refine ⟨fun q=>⟨by simp,q,by omega,fun x hx=>?_⟩,fun q=>?_⟩
  · rw [bentF,if_neg c0,if_neg c1,if_neg c2,if_pos q]
  · rw [bentF,if_neg c0,if_neg c1,if_neg c2,if_neg q]
def bentF_h (L:(List Int)) (p:Nat) (f:Flt) (h:f.srcs.length ≤ 900000):HC Tryz.prog:=⟨32,[.k,(.a [.k,(.s 1)])],[.ref 0 0,.agg [.int f.mode,.sl 1 (f.srcs.map AV.int) false]],[.box (.agg [.sl 1 (L.map AV.int) false,.int ((p:Nat):Int)])],bentF_e ((⟨L,(bentF L p f).2⟩:Tap),(bentF L p f).1),bentF_b ((⟨L,(bentF L p f).2⟩:Tap),(bentF L p f).1),HSpec.of_okh fun ok ok2=>have ok:bentF_a L p f:=⟨ok,ok2 _ (by simp)⟩; bentF_ok L p f _ (bentF_p L p f h ok),fnB_ok (by kernel_rfl),HcOk.of (by simp [hcB,belBL,AV.belB,allB,okBk,okBkO,bentF_e,bentF_b,pureBL_map (v:=AV.int) (fun _=>rfl)])⟩
def bentS_a (L:(List Int)) (p:Nat) (s:Spk):Prop:=okL [.ref 0 0,.agg [.int s.router,.int s.epoch,.int s.last,.sl 4 (s.items.map Itm.v) false,.sl 3 (s.peers.map Per.v) false]] ∧ (.box (.agg [.sl 1 (L.map AV.int) false,.int ((p:Nat):Int)]):Blk).ok
def bentS_s:Nat → Type
  | _=>Unit
def bentS_e (r:Tap × Spk):AV:=.agg [.int r.2.router,.int r.2.epoch,.int r.2.last,.sl 4 (r.2.items.map Itm.v) false,.sl 3 (r.2.peers.map Per.v) false]
def bentS_b (r:Tap × Spk):List (Option Blk):=[some (.box (.agg [.sl 1 (r.1.L.map AV.int) false,.int ((r.1.p:Nat):Int)]))]
def bentS_vc (L:(List Int)) (p:Nat) (s:Spk) (r0:Tap × Spk):Prop:=
 Rf (α:=List AV) [] (Rf (α:=List AV) (s.items.map Itm.v)
 (ck (decide (0 + s.items.length ≤ 1000000))
 (Rf (α:=List AV) [] (Rf (α:=List AV) (s.peers.map Per.v)
 (ck (decide (0 + s.peers.length ≤ 1000000))
 (Ch (N_h L p 8) [0] 241
 (br ((Mod (rawV L p) 8) == 0)
 (∃ h1:[0,99,100,7] ≠ [],
 Ch (Pick_h L (rawP L p) [0,99,100,7] h1) [0] 321
 (Rf (s.peers.map Per.v) (Rf (s.items.map Itm.v) (Nf ⟨[(4,.k,.ref 1 0)],[.box (.agg [.sl 1 (L.map AV.int) false,.int (((rawP L (rawP L p)):Nat):Int)]),.box (.agg [.int (pickI [0,99,100,7] (rawV L (rawP L p))),.int s.epoch,.int s.last,.sl 4 (s.items.map Itm.v) false,.sl 3 (s.peers.map Per.v) false])]⟩ [0,17] (Rf (bentS_e ((⟨L,rawP L (rawP L p)⟩:Tap),(⟨pickI [0,99,100,7] (rawV L (rawP L p)),s.epoch,s.last,s.items,s.peers⟩:Spk))) (Rf (bentS_b ((⟨L,rawP L (rawP L p)⟩:Tap),(⟨pickI [0,99,100,7] (rawV L (rawP L p)),s.epoch,s.last,s.items,s.peers⟩:Spk))) (((⟨L,rawP L (rawP L p)⟩:Tap),(⟨pickI [0,99,100,7] (rawV L (rawP L p)),s.epoch,s.last,s.items,s.peers⟩:Spk)) = r0)))))))
 (br ((Mod (rawV L p) 8) == 1)
 (∃ h2:[0,1000000,1000001] ≠ [],
 Ch (Pick_h L (rawP L p) [0,1000000,1000001] h2) [0] 353
 (Rf (s.peers.map Per.v) (Rf (s.items.map Itm.v) (Nf ⟨[(4,.k,.ref 1 0)],[.box (.agg [.sl 1 (L.map AV.int) false,.int (((rawP L (rawP L p)):Nat):Int)]),.box (.agg [.int s.router,.int (pickI [0,1000000,1000001] (rawV L (rawP L p))),.int s.last,.sl 4 (s.items.map Itm.v) false,.sl 3 (s.peers.map Per.v) false])]⟩ [0,17] (Rf (bentS_e ((⟨L,rawP L (rawP L p)⟩:Tap),(⟨s.router,pickI [0,1000000,1000001] (rawV L (rawP L p)),s.last,s.items,s.peers⟩:Spk))) (Rf (bentS_b ((⟨L,rawP L (rawP L p)⟩:Tap),(⟨s.router,pickI [0,1000000,1000001] (rawV L (rawP L p)),s.last,s.items,s.peers⟩:Spk))) (((⟨L,rawP L (rawP L p)⟩:Tap),(⟨s.router,pickI [0,1000000,1000001] (rawV L (rawP L p)),s.last,s.items,s.peers⟩:Spk)) = r0)))))))
 (br ((Mod (rawV L p) 8) == 2)
 (∃ h3:[-1,0,1000000,1000001] ≠ [],
 Ch (Pick_h L (rawP L p) [-1,0,1000000,1000001] h3) [0] 385
 (Rf (s.peers.map Per.v) (Rf (s.items.map Itm.v) (Nf ⟨[(4,.k,.ref 1 0)],[.box (.agg [.sl 1 (L.map AV.int) false,.int (((rawP L (rawP L p)):Nat):Int)]),.box (.agg [.int s.router,.int s.epoch,.int (pickI [-1,0,1000000,1000001] (rawV L (rawP L p))),.sl 4 (s.items.map Itm.v) false,.sl 3 (s.peers.map Per.v) false])]⟩ [0,17] (Rf (bentS_e ((⟨L,rawP L (rawP L p)⟩:Tap),(⟨s.router,s.epoch,pickI [-1,0,1000000,1000001] (rawV L (rawP L p)),s.items,s.peers⟩:Spk))) (Rf (bentS_b ((⟨L,rawP L (rawP L p)⟩:Tap),(⟨s.router,s.epoch,pickI [-1,0,1000000,1000001] (rawV L (rawP L p)),s.items,s.peers⟩:Spk))) (((⟨L,rawP L (rawP L p)⟩:Tap),(⟨s.router,s.epoch,pickI [-1,0,1000000,1000001] (rawV L (rawP L p)),s.items,s.peers⟩:Spk)) = r0)))))))
 (br ((Mod (rawV L p) 8) == 3)
 (Ch (Range_h L (rawP L p) 0 7) [0] 465
 (Ch (filterT_h L (rawP L (rawP L p))) [0] 497
 (Rf (α:=List AV) (s.items.map Itm.v) (Rf (α:=List AV) [.agg [.int s.last,.int (rng L (rawP L p) 0 7),.int (((filterT L (rawP L (rawP L p))).1).mode),.sl 1 ((((filterT L (rawP L (rawP L p))).1).srcs).map AV.int) false]]
 (ck (decide (s.items.length + 1 ≤ 1000000))
 (Rf (s.peers.map Per.v) (Rf ((s.items ++ [(⟨s.last,rng L (rawP L p) 0 7,((filterT L (rawP L (rawP L p))).1).mode,((filterT L (rawP L (rawP L p))).1).srcs⟩:Itm)]).map Itm.v) (Nf ⟨[(4,.k,.ref 1 0)],[.box (.agg [.sl 1 (L.map AV.int) false,.int ((((filterT L (rawP L (rawP L p))).2):Nat):Int)]),.box (.agg [.int s.router,.int s.epoch,.int s.last,.sl 4 ((s.items ++ [(⟨s.last,rng L (rawP L p) 0 7,((filterT L (rawP L (rawP L p))).1).mode,((filterT L (rawP L (rawP L p))).1).srcs⟩:Itm)]).map Itm.v) false,.sl 3 (s.peers.map Per.v) false])]⟩ [0,17] (Rf (bentS_e ((⟨L,(filterT L (rawP L (rawP L p))).2⟩:Tap),(⟨s.router,s.epoch,s.last,s.items ++ [(⟨s.last,rng L (rawP L p) 0 7,((filterT L (rawP L (rawP L p))).1).mode,((filterT L (rawP L (rawP L p))).1).srcs⟩:Itm)],s.peers⟩:Spk))) (Rf (bentS_b ((⟨L,(filterT L (rawP L (rawP L p))).2⟩:Tap),(⟨s.router,s.epoch,s.last,s.items ++ [(⟨s.last,rng L (rawP L p) 0 7,((filterT L (rawP L (rawP L p))).1).mode,((filterT L (rawP L (rawP L p))).1).srcs⟩:Itm)],s.peers⟩:Spk))) (((⟨L,(filterT L (rawP L (rawP L p))).2⟩:Tap),(⟨s.router,s.epoch,s.last,s.items ++ [(⟨s.last,rng L (rawP L p) 0 7,((filterT L (rawP L (rawP L p))).1).mode,((filterT L (rawP L (rawP L p))).1).srcs⟩:Itm)],s.peers⟩:Spk)) = r0)))))))))))
 (br ((Mod (rawV L p) 8) == 4)
 (br (decide (0 < ((s.items.map Itm.v).length:Int)))
 (Ch (N_h L (rawP L p) ((s.items.map Itm.v).length:Int)) [0] 577
 (Ch (filterT_h L (rawP L (rawP L p))) [0] 625
 (∃ h4:((filterT L (rawP L (rawP L p))).1).srcs.length ≤ 900000,
 Ch (bentF_h L ((filterT L (rawP L (rawP L p))).2) ((filterT L (rawP L (rawP L p))).1) h4) [0] 641
 (ck (cond (decide (0 ≤ (Mod (rawV L (rawP L p)) ((s.items.map Itm.v).length:Int)))) (decide ((Mod (rawV L (rawP L p)) ((s.items.map Itm.v).length:Int)) < ((s.items.map Itm.v).length:Int))) false)
 (Rf (s.items.map Itm.v) (ck (decide ((Mod (rawV L (rawP L p)) ((s.items.map Itm.v).length:Int)).toNat < s.items.length))
 (∀ y5,s.items[(Mod (rawV L (rawP L p)) ((s.items.map Itm.v).length:Int)).toNat]? = some y5 → Rf (Itm.v (⟨y5.ver,y5.grp,((bentF L ((filterT L (rawP L (rawP L p))).2) ((filterT L (rawP L (rawP L p))).1)).1).mode,((bentF L ((filterT L (rawP L (rawP L p))).2) ((filterT L (rawP L (rawP L p))).1)).1).srcs⟩:Itm))
 (Rf (s.peers.map Per.v) (Rf ((s.items.set ((Mod (rawV L (rawP L p)) ((s.items.map Itm.v).length:Int)).toNat) (⟨y5.ver,y5.grp,((bentF L ((filterT L (rawP L (rawP L p))).2) ((filterT L (rawP L (rawP L p))).1)).1).mode,((bentF L ((filterT L (rawP L (rawP L p))).2) ((filterT L (rawP L (rawP L p))).1)).1).srcs⟩:Itm)).map Itm.v) (Nf ⟨[(4,.k,.ref 1 0)],[.box (.agg [.sl 1 (L.map AV.int) false,.int ((((bentF L ((filterT L (rawP L (rawP L p))).2) ((filterT L (rawP L (rawP L p))).1)).2):Nat):Int)]),.box (.agg [.int s.router,.int s.epoch,.int s.last,.sl 4 ((s.items.set ((Mod (rawV L (rawP L p)) ((s.items.map Itm.v).length:Int)).toNat) (⟨y5.ver,y5.grp,((bentF L ((filterT L (rawP L (rawP L p))).2) ((filterT L (rawP L (rawP L p))).1)).1).mode,((bentF L ((filterT L (rawP L (rawP L p))).2) ((filterT L (rawP L (rawP L p))).1)).1).srcs⟩:Itm)).map Itm.v) false,.sl 3 (s.peers.map Per.v) false])]⟩ [0,17] (Rf (bentS_e ((⟨L,(bentF L ((filterT L (rawP L (rawP L p))).2) ((filterT L (rawP L (rawP L p))).1)).2⟩:Tap),(⟨s.router,s.epoch,s.last,s.items.set ((Mod (rawV L (rawP L p)) ((s.items.map Itm.v).length:Int)).toNat) (⟨y5.ver,y5.grp,((bentF L ((filterT L (rawP L (rawP L p))).2) ((filterT L (rawP L (rawP L p))).1)).1).mode,((bentF L ((filterT L (rawP L (rawP L p))).2) ((filterT L (rawP L (rawP L p))).1)).1).srcs⟩:Itm),s.peers⟩:Spk))) (Rf (bentS_b ((⟨L,(bentF L ((filterT L (rawP L (rawP L p))).2) ((filterT L (rawP L (rawP L p))).1)).2⟩:Tap),(⟨s.router,s.epoch,s.last,s.items.set ((Mod (rawV L (rawP L p)) ((s.items.map Itm.v).length:Int)).toNat) (⟨y5.ver,y5.grp,((bentF L ((filterT L (rawP L (rawP L p))).2) ((filterT L (rawP L (rawP L p))).1)).1).mode,((bentF L ((filterT L (rawP L (rawP L p))).2) ((filterT L (rawP L (rawP L p))).1)).1).srcs⟩:Itm),s.peers⟩:Spk))) (((⟨L,(bentF L ((filterT L (rawP L (rawP L p))).2) ((filterT L (rawP L (rawP L p))).1)).2⟩:Tap),(⟨s.router,s.epoch,s.last,s.items.set ((Mod (rawV L (rawP L p)) ((s.items.map Itm.v).length:Int)).toNat) (⟨y5.ver,y5.grp,((bentF L ((filterT L (rawP L (rawP L p))).2) ((filterT L (rawP L (rawP L p))).1)).1).mode,((bentF L ((filterT L (rawP L (rawP L p))).2) ((filterT L (rawP L (rawP L p))).1)).1).srcs⟩:Itm),s.peers⟩:Spk)) = r0)))))))))))))
 (Rf (s.peers.map Per.v) (Rf (s.items.map Itm.v) (Nf ⟨[(4,.k,.ref 1 0)],[.box (.agg [.sl 1 (L.map AV.int) false,.int (((rawP L p):Nat):Int)]),.box (.agg [.int s.router,.int s.epoch,.int s.last,.sl 4 (s.items.map Itm.v) false,.sl 3 (s.peers.map Per.v) false])]⟩ [0,17] (Rf (bentS_e ((⟨L,rawP L p⟩:Tap),s)) (Rf (bentS_b ((⟨L,rawP L p⟩:Tap),s)) (((⟨L,rawP L p⟩:Tap),s) = r0)))))))
 (br ((Mod (rawV L p) 8) == 5)
 (br (decide (0 < ((s.items.map Itm.v).length:Int)))
 (Ch (N_h L (rawP L p) ((s.items.map Itm.v).length:Int)) [0] 609
 (Ch (Range_h L (rawP L (rawP L p)) (-1) (W (s.last + 1))) [0] 689
 (ck (cond (decide (0 ≤ (Mod (rawV L (rawP L p)) ((s.items.map Itm.v).length:Int)))) (decide ((Mod (rawV L (rawP L p)) ((s.items.map Itm.v).length:Int)) < ((s.items.map Itm.v).length:Int))) false)
 (Rf (s.items.map Itm.v) (ck (decide ((Mod (rawV L (rawP L p)) ((s.items.map Itm.v).length:Int)).toNat < s.items.length))
 (∀ y6,s.items[(Mod (rawV L (rawP L p)) ((s.items.map Itm.v).length:Int)).toNat]? = some y6 → Rf (Itm.v (⟨rng L (rawP L (rawP L p)) (-1) (W (s.last + 1)),y6.grp,y6.mode,y6.srcs⟩:Itm))
 (Rf (s.peers.map Per.v) (Rf ((s.items.set ((Mod (rawV L (rawP L p)) ((s.items.map Itm.v).length:Int)).toNat) (⟨rng L (rawP L (rawP L p)) (-1) (W (s.last + 1)),y6.grp,y6.mode,y6.srcs⟩:Itm)).map Itm.v) (Nf ⟨[(4,.k,.ref 1 0)],[.box (.agg [.sl 1 (L.map AV.int) false,.int (((rawP L (rawP L (rawP L p))):Nat):Int)]),.box (.agg [.int s.router,.int s.epoch,.int s.last,.sl 4 ((s.items.set ((Mod (rawV L (rawP L p)) ((s.items.map Itm.v).length:Int)).toNat) (⟨rng L (rawP L (rawP L p)) (-1) (W (s.last + 1)),y6.grp,y6.mode,y6.srcs⟩:Itm)).map Itm.v) false,.sl 3 (s.peers.map Per.v) false])]⟩ [0,17] (Rf (bentS_e ((⟨L,rawP L (rawP L (rawP L p))⟩:Tap),(⟨s.router,s.epoch,s.last,s.items.set ((Mod (rawV L (rawP L p)) ((s.items.map Itm.v).length:Int)).toNat) (⟨rng L (rawP L (rawP L p)) (-1) (W (s.last + 1)),y6.grp,y6.mode,y6.srcs⟩:Itm),s.peers⟩:Spk))) (Rf (bentS_b ((⟨L,rawP L (rawP L (rawP L p))⟩:Tap),(⟨s.router,s.epoch,s.last,s.items.set ((Mod (rawV L (rawP L p)) ((s.items.map Itm.v).length:Int)).toNat) (⟨rng L (rawP L (rawP L p)) (-1) (W (s.last + 1)),y6.grp,y6.mode,y6.srcs⟩:Itm),s.peers⟩:Spk))) (((⟨L,rawP L (rawP L (rawP L p))⟩:Tap),(⟨s.router,s.epoch,s.last,s.items.set ((Mod (rawV L (rawP L p)) ((s.items.map Itm.v).length:Int)).toNat) (⟨rng L (rawP L (rawP L p)) (-1) (W (s.last + 1)),y6.grp,y6.mode,y6.srcs⟩:Itm),s.peers⟩:Spk)) = r0))))))))))))
 (Rf (s.peers.map Per.v) (Rf (s.items.map Itm.v) (Nf ⟨[(4,.k,.ref 1 0)],[.box (.agg [.sl 1 (L.map AV.int) false,.int (((rawP L p):Nat):Int)]),.box (.agg [.int s.router,.int s.epoch,.int s.last,.sl 4 (s.items.map Itm.v) false,.sl 3 (s.peers.map Per.v) false])]⟩ [0,17] (Rf (bentS_e ((⟨L,rawP L p⟩:Tap),s)) (Rf (bentS_b ((⟨L,rawP L p⟩:Tap),s)) (((⟨L,rawP L p⟩:Tap),s) = r0)))))))
 (br ((Mod (rawV L p) 8) == 6)
 (br (decide (0 < ((s.peers.map Per.v).length:Int)))
 (Ch (N_h L (rawP L p) ((s.peers.map Per.v).length:Int)) [0] 641
 (∃ h7:[-1,s.last,W (s.last + 1)] ≠ [],
 Ch (Pick_h L (rawP L (rawP L p)) [-1,s.last,W (s.last + 1)] h7) [0] 769
 (ck (cond (decide (0 ≤ (Mod (rawV L (rawP L p)) ((s.peers.map Per.v).length:Int)))) (decide ((Mod (rawV L (rawP L p)) ((s.peers.map Per.v).length:Int)) < ((s.peers.map Per.v).length:Int))) false)
 (Rf (s.peers.map Per.v) (ck (decide ((Mod (rawV L (rawP L p)) ((s.peers.map Per.v).length:Int)).toNat < s.peers.length))
 (∀ y8,s.peers[(Mod (rawV L (rawP L p)) ((s.peers.map Per.v).length:Int)).toNat]? = some y8 → Rf (Per.v (⟨y8.router,y8.epoch,pickI [-1,s.last,W (s.last + 1)] (rawV L (rawP L (rawP L p)))⟩:Per))
 (Rf ((s.peers.set ((Mod (rawV L (rawP L p)) ((s.peers.map Per.v).length:Int)).toNat) (⟨y8.router,y8.epoch,pickI [-1,s.last,W (s.last + 1)] (rawV L (rawP L (rawP L p)))⟩:Per)).map Per.v) (Rf (s.items.map Itm.v) (Nf ⟨[(4,.k,.ref 1 0)],[.box (.agg [.sl 1 (L.map AV.int) false,.int (((rawP L (rawP L (rawP L p))):Nat):Int)]),.box (.agg [.int s.router,.int s.epoch,.int s.last,.sl 4 (s.items.map Itm.v) false,.sl 3 ((s.peers.set ((Mod (rawV L (rawP L p)) ((s.peers.map Per.v).length:Int)).toNat) (⟨y8.router,y8.epoch,pickI [-1,s.last,W (s.last + 1)] (rawV L (rawP L (rawP L p)))⟩:Per)).map Per.v) false])]⟩ [0,17] (Rf (bentS_e ((⟨L,rawP L (rawP L (rawP L p))⟩:Tap),(⟨s.router,s.epoch,s.last,s.items,s.peers.set ((Mod (rawV L (rawP L p)) ((s.peers.map Per.v).length:Int)).toNat) (⟨y8.router,y8.epoch,pickI [-1,s.last,W (s.last + 1)] (rawV L (rawP L (rawP L p)))⟩:Per)⟩:Spk))) (Rf (bentS_b ((⟨L,rawP L (rawP L (rawP L p))⟩:Tap),(⟨s.router,s.epoch,s.last,s.items,s.peers.set ((Mod (rawV L (rawP L p)) ((s.peers.map Per.v).length:Int)).toNat) (⟨y8.router,y8.epoch,pickI [-1,s.last,W (s.last + 1)] (rawV L (rawP L (rawP L p)))⟩:Per)⟩:Spk))) (((⟨L,rawP L (rawP L (rawP L p))⟩:Tap),(⟨s.router,s.epoch,s.last,s.items,s.peers.set ((Mod (rawV L (rawP L p)) ((s.peers.map Per.v).length:Int)).toNat) (⟨y8.router,y8.epoch,pickI [-1,s.last,W (s.last + 1)] (rawV L (rawP L (rawP L p)))⟩:Per)⟩:Spk)) = r0))))))))))))
 (Rf (s.peers.map Per.v) (Rf (s.items.map Itm.v) (Nf ⟨[(4,.k,.ref 1 0)],[.box (.agg [.sl 1 (L.map AV.int) false,.int (((rawP L p):Nat):Int)]),.box (.agg [.int s.router,.int s.epoch,.int s.last,.sl 4 (s.items.map Itm.v) false,.sl 3 (s.peers.map Per.v) false])]⟩ [0,17] (Rf (bentS_e ((⟨L,rawP L p⟩:Tap),s)) (Rf (bentS_b ((⟨L,rawP L p⟩:Tap),s)) (((⟨L,rawP L p⟩:Tap),s) = r0)))))))
 (br (decide (0 < ((s.peers.map Per.v).length:Int)))
 (Ch (N_h L (rawP L p) ((s.peers.map Per.v).length:Int)) [0] 641
 (∃ h9:[0,s.router,7,100] ≠ [],
 Ch (Pick_h L (rawP L (rawP L p)) [0,s.router,7,100] h9) [0] 721
 (ck (cond (decide (0 ≤ (Mod (rawV L (rawP L p)) ((s.peers.map Per.v).length:Int)))) (decide ((Mod (rawV L (rawP L p)) ((s.peers.map Per.v).length:Int)) < ((s.peers.map Per.v).length:Int))) false)
 (Rf (s.peers.map Per.v) (ck (decide ((Mod (rawV L (rawP L p)) ((s.peers.map Per.v).length:Int)).toNat < s.peers.length))
 (∀ y10,s.peers[(Mod (rawV L (rawP L p)) ((s.peers.map Per.v).length:Int)).toNat]? = some y10 → Rf (Per.v (⟨pickI [0,s.router,7,100] (rawV L (rawP L (rawP L p))),y10.epoch,y10.acked⟩:Per))
 (Rf ((s.peers.set ((Mod (rawV L (rawP L p)) ((s.peers.map Per.v).length:Int)).toNat) (⟨pickI [0,s.router,7,100] (rawV L (rawP L (rawP L p))),y10.epoch,y10.acked⟩:Per)).map Per.v) (Rf (s.items.map Itm.v) (Nf ⟨[(4,.k,.ref 1 0)],[.box (.agg [.sl 1 (L.map AV.int) false,.int (((rawP L (rawP L (rawP L p))):Nat):Int)]),.box (.agg [.int s.router,.int s.epoch,.int s.last,.sl 4 (s.items.map Itm.v) false,.sl 3 ((s.peers.set ((Mod (rawV L (rawP L p)) ((s.peers.map Per.v).length:Int)).toNat) (⟨pickI [0,s.router,7,100] (rawV L (rawP L (rawP L p))),y10.epoch,y10.acked⟩:Per)).map Per.v) false])]⟩ [0,17] (Rf (bentS_e ((⟨L,rawP L (rawP L (rawP L p))⟩:Tap),(⟨s.router,s.epoch,s.last,s.items,s.peers.set ((Mod (rawV L (rawP L p)) ((s.peers.map Per.v).length:Int)).toNat) (⟨pickI [0,s.router,7,100] (rawV L (rawP L (rawP L p))),y10.epoch,y10.acked⟩:Per)⟩:Spk))) (Rf (bentS_b ((⟨L,rawP L (rawP L (rawP L p))⟩:Tap),(⟨s.router,s.epoch,s.last,s.items,s.peers.set ((Mod (rawV L (rawP L p)) ((s.peers.map Per.v).length:Int)).toNat) (⟨pickI [0,s.router,7,100] (rawV L (rawP L (rawP L p))),y10.epoch,y10.acked⟩:Per)⟩:Spk))) (((⟨L,rawP L (rawP L (rawP L p))⟩:Tap),(⟨s.router,s.epoch,s.last,s.items,s.peers.set ((Mod (rawV L (rawP L p)) ((s.peers.map Per.v).length:Int)).toNat) (⟨pickI [0,s.router,7,100] (rawV L (rawP L (rawP L p))),y10.epoch,y10.acked⟩:Per)⟩:Spk)) = r0))))))))))))
 (Rf (s.peers.map Per.v) (Rf (s.items.map Itm.v) (Nf ⟨[(4,.k,.ref 1 0)],[.box (.agg [.sl 1 (L.map AV.int) false,.int (((rawP L p):Nat):Int)]),.box (.agg [.int s.router,.int s.epoch,.int s.last,.sl 4 (s.items.map Itm.v) false,.sl 3 (s.peers.map Per.v) false])]⟩ [0,17] (Rf (bentS_e ((⟨L,rawP L p⟩:Tap),s)) (Rf (bentS_b ((⟨L,rawP L p⟩:Tap),s)) (((⟨L,rawP L p⟩:Tap),s) = r0))))))))))))))))))))
theorem bentS_eq (L:(List Int)) (p:Nat) (s:Spk) (r0:Tap × Spk):mxH Tryz.prog 8 [.ref 0 0,.agg [.int s.router,.int s.epoch,.int s.last,.sl 4 (s.items.map Itm.v) false,.sl 3 (s.peers.map Per.v) false]] [.box (.agg [.sl 1 (L.map AV.int) false,.int ((p:Nat):Int)])] (.a [.k,.k,.k,(.s 4),(.s 3)]) bentS_e bentS_b ((.app 81 Itm.v [] s.items
 (.app 145 Per.v [] s.peers
 (.callH [0] (N_h L p 8)
 (.br 289 (.req 321 ([0,99,100,7] ≠ []) fun h1 =>
 (.callH [0] (Pick_h L (rawP L p) [0,99,100,7] h1)
 (.cmdL (.frzE 145 (s.peers.map Per.v) (pureBL_map (fun _=>rfl) s.peers)) (.cmdL (.frzE 81 (s.items.map Itm.v) (pureBL_map (fun _=>rfl) s.items)) (.retH ((⟨L,rawP L (rawP L p)⟩:Tap),(⟨pickI [0,99,100,7] (rawV L (rawP L p)),s.epoch,s.last,s.items,s.peers⟩:Spk)) ⟨[(4,.k,.ref 1 0)],[.box (.agg [.sl 1 (L.map AV.int) false,.int (((rawP L (rawP L p)):Nat):Int)]),.box (.agg [.int (pickI [0,99,100,7] (rawV L (rawP L p))),.int s.epoch,.int s.last,.sl 4 (s.items.map Itm.v) false,.sl 3 (s.peers.map Per.v) false])]⟩ [0,17])))))
 (.br 321 (.req 353 ([0,1000000,1000001] ≠ []) fun h2 =>
 (.callH [0] (Pick_h L (rawP L p) [0,1000000,1000001] h2)
 (.cmdL (.frzE 145 (s.peers.map Per.v) (pureBL_map (fun _=>rfl) s.peers)) (.cmdL (.frzE 81 (s.items.map Itm.v) (pureBL_map (fun _=>rfl) s.items)) (.retH ((⟨L,rawP L (rawP L p)⟩:Tap),(⟨s.router,pickI [0,1000000,1000001] (rawV L (rawP L p)),s.last,s.items,s.peers⟩:Spk)) ⟨[(4,.k,.ref 1 0)],[.box (.agg [.sl 1 (L.map AV.int) false,.int (((rawP L (rawP L p)):Nat):Int)]),.box (.agg [.int s.router,.int (pickI [0,1000000,1000001] (rawV L (rawP L p))),.int s.last,.sl 4 (s.items.map Itm.v) false,.sl 3 (s.peers.map Per.v) false])]⟩ [0,17])))))
 (.br 353 (.req 385 ([-1,0,1000000,1000001] ≠ []) fun h3 =>
 (.callH [0] (Pick_h L (rawP L p) [-1,0,1000000,1000001] h3)
 (.cmdL (.frzE 145 (s.peers.map Per.v) (pureBL_map (fun _=>rfl) s.peers)) (.cmdL (.frzE 81 (s.items.map Itm.v) (pureBL_map (fun _=>rfl) s.items)) (.retH ((⟨L,rawP L (rawP L p)⟩:Tap),(⟨s.router,s.epoch,pickI [-1,0,1000000,1000001] (rawV L (rawP L p)),s.items,s.peers⟩:Spk)) ⟨[(4,.k,.ref 1 0)],[.box (.agg [.sl 1 (L.map AV.int) false,.int (((rawP L (rawP L p)):Nat):Int)]),.box (.agg [.int s.router,.int s.epoch,.int (pickI [-1,0,1000000,1000001] (rawV L (rawP L p))),.sl 4 (s.items.map Itm.v) false,.sl 3 (s.peers.map Per.v) false])]⟩ [0,17])))))
 (.br 385 (.callH [0] (Range_h L (rawP L p) 0 7)
 (.callH [0] (filterT_h L (rawP L (rawP L p)))
 (.app 545 Itm.v s.items [(⟨s.last,rng L (rawP L p) 0 7,((filterT L (rawP L (rawP L p))).1).mode,((filterT L (rawP L (rawP L p))).1).srcs⟩:Itm)]
 (.cmdL (.frzE 145 (s.peers.map Per.v) (pureBL_map (fun _=>rfl) s.peers)) (.cmdL (.frzE 545 ((s.items ++ [(⟨s.last,rng L (rawP L p) 0 7,((filterT L (rawP L (rawP L p))).1).mode,((filterT L (rawP L (rawP L p))).1).srcs⟩:Itm)]).map Itm.v) (pureBL_map (fun _=>rfl) (s.items ++ [(⟨s.last,rng L (rawP L p) 0 7,((filterT L (rawP L (rawP L p))).1).mode,((filterT L (rawP L (rawP L p))).1).srcs⟩:Itm)]))) (.retH ((⟨L,(filterT L (rawP L (rawP L p))).2⟩:Tap),(⟨s.router,s.epoch,s.last,s.items ++ [(⟨s.last,rng L (rawP L p) 0 7,((filterT L (rawP L (rawP L p))).1).mode,((filterT L (rawP L (rawP L p))).1).srcs⟩:Itm)],s.peers⟩:Spk)) ⟨[(4,.k,.ref 1 0)],[.box (.agg [.sl 1 (L.map AV.int) false,.int ((((filterT L (rawP L (rawP L p))).2):Nat):Int)]),.box (.agg [.int s.router,.int s.epoch,.int s.last,.sl 4 ((s.items ++ [(⟨s.last,rng L (rawP L p) 0 7,((filterT L (rawP L (rawP L p))).1).mode,((filterT L (rawP L (rawP L p))).1).srcs⟩:Itm)]).map Itm.v) false,.sl 3 (s.peers.map Per.v) false])]⟩ [0,17]))))))
 (.br 417 (.br 481 (.callH [0] (N_h L (rawP L p) ((s.items.map Itm.v).length:Int))
 (.callH [0] (filterT_h L (rawP L (rawP L p)))
 (.req 641 (((filterT L (rawP L (rawP L p))).1).srcs.length ≤ 900000) fun h4 =>
 (.callH [0] (bentF_h L ((filterT L (rawP L (rawP L p))).2) ((filterT L (rawP L (rawP L p))).1) h4)
 (.st 689 Itm.v s.items (fun y5=>(⟨y5.ver,y5.grp,((bentF L ((filterT L (rawP L (rawP L p))).2) ((filterT L (rawP L (rawP L p))).1)).1).mode,((bentF L ((filterT L (rawP L (rawP L p))).2) ((filterT L (rawP L (rawP L p))).1)).1).srcs⟩:Itm)) fun y5 =>
 (.cmdL (.frzE 145 (s.peers.map Per.v) (pureBL_map (fun _=>rfl) s.peers)) (.cmdL (.frzE 81 ((s.items.set ((Mod (rawV L (rawP L p)) ((s.items.map Itm.v).length:Int)).toNat) (⟨y5.ver,y5.grp,((bentF L ((filterT L (rawP L (rawP L p))).2) ((filterT L (rawP L (rawP L p))).1)).1).mode,((bentF L ((filterT L (rawP L (rawP L p))).2) ((filterT L (rawP L (rawP L p))).1)).1).srcs⟩:Itm)).map Itm.v) (pureBL_map (fun _=>rfl) (s.items.set ((Mod (rawV L (rawP L p)) ((s.items.map Itm.v).length:Int)).toNat) (⟨y5.ver,y5.grp,((bentF L ((filterT L (rawP L (rawP L p))).2) ((filterT L (rawP L (rawP L p))).1)).1).mode,((bentF L ((filterT L (rawP L (rawP L p))).2) ((filterT L (rawP L (rawP L p))).1)).1).srcs⟩:Itm)))) (.retH ((⟨L,(bentF L ((filterT L (rawP L (rawP L p))).2) ((filterT L (rawP L (rawP L p))).1)).2⟩:Tap),(⟨s.router,s.epoch,s.last,s.items.set ((Mod (rawV L (rawP L p)) ((s.items.map Itm.v).length:Int)).toNat) (⟨y5.ver,y5.grp,((bentF L ((filterT L (rawP L (rawP L p))).2) ((filterT L (rawP L (rawP L p))).1)).1).mode,((bentF L ((filterT L (rawP L (rawP L p))).2) ((filterT L (rawP L (rawP L p))).1)).1).srcs⟩:Itm),s.peers⟩:Spk)) ⟨[(4,.k,.ref 1 0)],[.box (.agg [.sl 1 (L.map AV.int) false,.int ((((bentF L ((filterT L (rawP L (rawP L p))).2) ((filterT L (rawP L (rawP L p))).1)).2):Nat):Int)]),.box (.agg [.int s.router,.int s.epoch,.int s.last,.sl 4 ((s.items.set ((Mod (rawV L (rawP L p)) ((s.items.map Itm.v).length:Int)).toNat) (⟨y5.ver,y5.grp,((bentF L ((filterT L (rawP L (rawP L p))).2) ((filterT L (rawP L (rawP L p))).1)).1).mode,((bentF L ((filterT L (rawP L (rawP L p))).2) ((filterT L (rawP L (rawP L p))).1)).1).srcs⟩:Itm)).map Itm.v) false,.sl 3 (s.peers.map Per.v) false])]⟩ [0,17]))))))))
 (.cmdL (.frzE 145 (s.peers.map Per.v) (pureBL_map (fun _=>rfl) s.peers)) (.cmdL (.frzE 81 (s.items.map Itm.v) (pureBL_map (fun _=>rfl) s.items)) (.retH ((⟨L,rawP L p⟩:Tap),s) ⟨[(4,.k,.ref 1 0)],[.box (.agg [.sl 1 (L.map AV.int) false,.int (((rawP L p):Nat):Int)]),.box (.agg [.int s.router,.int s.epoch,.int s.last,.sl 4 (s.items.map Itm.v) false,.sl 3 (s.peers.map Per.v) false])]⟩ [0,17]))))
 (.br 449 (.br 513 (.callH [0] (N_h L (rawP L p) ((s.items.map Itm.v).length:Int))
 (.callH [0] (Range_h L (rawP L (rawP L p)) (-1) (W (s.last + 1)))
 (.st 737 Itm.v s.items (fun y6=>(⟨rng L (rawP L (rawP L p)) (-1) (W (s.last + 1)),y6.grp,y6.mode,y6.srcs⟩:Itm)) fun y6 =>
 (.cmdL (.frzE 145 (s.peers.map Per.v) (pureBL_map (fun _=>rfl) s.peers)) (.cmdL (.frzE 81 ((s.items.set ((Mod (rawV L (rawP L p)) ((s.items.map Itm.v).length:Int)).toNat) (⟨rng L (rawP L (rawP L p)) (-1) (W (s.last + 1)),y6.grp,y6.mode,y6.srcs⟩:Itm)).map Itm.v) (pureBL_map (fun _=>rfl) (s.items.set ((Mod (rawV L (rawP L p)) ((s.items.map Itm.v).length:Int)).toNat) (⟨rng L (rawP L (rawP L p)) (-1) (W (s.last + 1)),y6.grp,y6.mode,y6.srcs⟩:Itm)))) (.retH ((⟨L,rawP L (rawP L (rawP L p))⟩:Tap),(⟨s.router,s.epoch,s.last,s.items.set ((Mod (rawV L (rawP L p)) ((s.items.map Itm.v).length:Int)).toNat) (⟨rng L (rawP L (rawP L p)) (-1) (W (s.last + 1)),y6.grp,y6.mode,y6.srcs⟩:Itm),s.peers⟩:Spk)) ⟨[(4,.k,.ref 1 0)],[.box (.agg [.sl 1 (L.map AV.int) false,.int (((rawP L (rawP L (rawP L p))):Nat):Int)]),.box (.agg [.int s.router,.int s.epoch,.int s.last,.sl 4 ((s.items.set ((Mod (rawV L (rawP L p)) ((s.items.map Itm.v).length:Int)).toNat) (⟨rng L (rawP L (rawP L p)) (-1) (W (s.last + 1)),y6.grp,y6.mode,y6.srcs⟩:Itm)).map Itm.v) false,.sl 3 (s.peers.map Per.v) false])]⟩ [0,17]))))))
 (.cmdL (.frzE 145 (s.peers.map Per.v) (pureBL_map (fun _=>rfl) s.peers)) (.cmdL (.frzE 81 (s.items.map Itm.v) (pureBL_map (fun _=>rfl) s.items)) (.retH ((⟨L,rawP L p⟩:Tap),s) ⟨[(4,.k,.ref 1 0)],[.box (.agg [.sl 1 (L.map AV.int) false,.int (((rawP L p):Nat):Int)]),.box (.agg [.int s.router,.int s.epoch,.int s.last,.sl 4 (s.items.map Itm.v) false,.sl 3 (s.peers.map Per.v) false])]⟩ [0,17]))))
 (.br 481 (.br 545 (.callH [0] (N_h L (rawP L p) ((s.peers.map Per.v).length:Int))
 (.req 769 ([-1,s.last,W (s.last + 1)] ≠ []) fun h7 =>
 (.callH [0] (Pick_h L (rawP L (rawP L p)) [-1,s.last,W (s.last + 1)] h7)
 (.st 817 Per.v s.peers (fun y8=>(⟨y8.router,y8.epoch,pickI [-1,s.last,W (s.last + 1)] (rawV L (rawP L (rawP L p)))⟩:Per)) fun y8 =>
 (.cmdL (.frzE 145 ((s.peers.set ((Mod (rawV L (rawP L p)) ((s.peers.map Per.v).length:Int)).toNat) (⟨y8.router,y8.epoch,pickI [-1,s.last,W (s.last + 1)] (rawV L (rawP L (rawP L p)))⟩:Per)).map Per.v) (pureBL_map (fun _=>rfl) (s.peers.set ((Mod (rawV L (rawP L p)) ((s.peers.map Per.v).length:Int)).toNat) (⟨y8.router,y8.epoch,pickI [-1,s.last,W (s.last + 1)] (rawV L (rawP L (rawP L p)))⟩:Per)))) (.cmdL (.frzE 81 (s.items.map Itm.v) (pureBL_map (fun _=>rfl) s.items)) (.retH ((⟨L,rawP L (rawP L (rawP L p))⟩:Tap),(⟨s.router,s.epoch,s.last,s.items,s.peers.set ((Mod (rawV L (rawP L p)) ((s.peers.map Per.v).length:Int)).toNat) (⟨y8.router,y8.epoch,pickI [-1,s.last,W (s.last + 1)] (rawV L (rawP L (rawP L p)))⟩:Per)⟩:Spk)) ⟨[(4,.k,.ref 1 0)],[.box (.agg [.sl 1 (L.map AV.int) false,.int (((rawP L (rawP L (rawP L p))):Nat):Int)]),.box (.agg [.int s.router,.int s.epoch,.int s.last,.sl 4 (s.items.map Itm.v) false,.sl 3 ((s.peers.set ((Mod (rawV L (rawP L p)) ((s.peers.map Per.v).length:Int)).toNat) (⟨y8.router,y8.epoch,pickI [-1,s.last,W (s.last + 1)] (rawV L (rawP L (rawP L p)))⟩:Per)).map Per.v) false])]⟩ [0,17])))))))
 (.cmdL (.frzE 145 (s.peers.map Per.v) (pureBL_map (fun _=>rfl) s.peers)) (.cmdL (.frzE 81 (s.items.map Itm.v) (pureBL_map (fun _=>rfl) s.items)) (.retH ((⟨L,rawP L p⟩:Tap),s) ⟨[(4,.k,.ref 1 0)],[.box (.agg [.sl 1 (L.map AV.int) false,.int (((rawP L p):Nat):Int)]),.box (.agg [.int s.router,.int s.epoch,.int s.last,.sl 4 (s.items.map Itm.v) false,.sl 3 (s.peers.map Per.v) false])]⟩ [0,17]))))
 (.br 545 (.callH [0] (N_h L (rawP L p) ((s.peers.map Per.v).length:Int))
 (.req 721 ([0,s.router,7,100] ≠ []) fun h9 =>
 (.callH [0] (Pick_h L (rawP L (rawP L p)) [0,s.router,7,100] h9)
 (.st 769 Per.v s.peers (fun y10=>(⟨pickI [0,s.router,7,100] (rawV L (rawP L (rawP L p))),y10.epoch,y10.acked⟩:Per)) fun y10 =>
 (.cmdL (.frzE 145 ((s.peers.set ((Mod (rawV L (rawP L p)) ((s.peers.map Per.v).length:Int)).toNat) (⟨pickI [0,s.router,7,100] (rawV L (rawP L (rawP L p))),y10.epoch,y10.acked⟩:Per)).map Per.v) (pureBL_map (fun _=>rfl) (s.peers.set ((Mod (rawV L (rawP L p)) ((s.peers.map Per.v).length:Int)).toNat) (⟨pickI [0,s.router,7,100] (rawV L (rawP L (rawP L p))),y10.epoch,y10.acked⟩:Per)))) (.cmdL (.frzE 81 (s.items.map Itm.v) (pureBL_map (fun _=>rfl) s.items)) (.retH ((⟨L,rawP L (rawP L (rawP L p))⟩:Tap),(⟨s.router,s.epoch,s.last,s.items,s.peers.set ((Mod (rawV L (rawP L p)) ((s.peers.map Per.v).length:Int)).toNat) (⟨pickI [0,s.router,7,100] (rawV L (rawP L (rawP L p))),y10.epoch,y10.acked⟩:Per)⟩:Spk)) ⟨[(4,.k,.ref 1 0)],[.box (.agg [.sl 1 (L.map AV.int) false,.int (((rawP L (rawP L (rawP L p))):Nat):Int)]),.box (.agg [.int s.router,.int s.epoch,.int s.last,.sl 4 (s.items.map Itm.v) false,.sl 3 ((s.peers.set ((Mod (rawV L (rawP L p)) ((s.peers.map Per.v).length:Int)).toNat) (⟨pickI [0,s.router,7,100] (rawV L (rawP L (rawP L p))),y10.epoch,y10.acked⟩:Per)).map Per.v) false])]⟩ [0,17])))))))
 (.cmdL (.frzE 145 (s.peers.map Per.v) (pureBL_map (fun _=>rfl) s.peers)) (.cmdL (.frzE 81 (s.items.map Itm.v) (pureBL_map (fun _=>rfl) s.items)) (.retH ((⟨L,rawP L p⟩:Tap),s) ⟨[(4,.k,.ref 1 0)],[.box (.agg [.sl 1 (L.map AV.int) false,.int (((rawP L p):Nat):Int)]),.box (.agg [.int s.router,.int s.epoch,.int s.last,.sl 4 (s.items.map Itm.v) false,.sl 3 (s.peers.map Per.v) false])]⟩ [0,17])))))))))))))):An Tryz.prog bentS_s (Tap × Spk)) r0 = bentS_vc L p s r0:=by kernel_rfl
theorem bentS_ok (L:(List Int)) (p:Nat) (s:Spk) (r0:Tap × Spk) (h:bentS_vc L p s r0):HSpec Tryz.prog 8 [.ref 0 0,.agg [.int s.router,.int s.epoch,.int s.last,.sl 4 (s.items.map Itm.v) false,.sl 3 (s.peers.map Per.v) false]] [.box (.agg [.sl 1 (L.map AV.int) false,.int ((p:Nat):Int)])] (bentS_e r0) (bentS_b r0):=by
  have e:=bentS_eq L p s r0
  rw [← e] at h
  exact mxH_ok (enc:=bentS_e) (hB:=bentS_b) h
theorem bentS_p (L:List Int) (p:Nat) (s:Spk) (h:s.items.length ≤ 900000 ∧ s.peers.length ≤ 900000) (ok:bentS_a L p s):bentS_vc L p s ((⟨L,(bentS L p s).2⟩:Tap),(bentS L p s).1):=by
  have hf:(filterT L (rawP L (rawP L p))).1.srcs.length ≤ 900000:=by have:=srcs_len (filterT_in L (rawP L (rawP L p))); omega
  have cnd:∀ {n:Nat},(0:Int) < n → (cond (decide (0 ≤ Mod (rawV L (rawP L p)) (n:Int))) (decide (Mod (rawV L (rawP L p)) (n:Int) < (n:Int))) false) = true ∧ (Mod (rawV L (rawP L p)) (n:Int)).toNat < n:=fun {n} q=>by
    have hi:=Mod_range (x:=rawV L (rawP L p)) (n:=(n:Int)) (by omega)
    exact ⟨by rw [decide_eq_true hi.1,decide_eq_true hi.2]; rfl,by omega⟩
  have itm:∀ {x:Itm},s.items[(Mod (rawV L (rawP L p)) (s.items.length:Int)).toNat]? = some x → itmAt s.items (Mod (rawV L (rawP L p)) (s.items.length:Int)).toNat = x:=fun hx=>by rw [itmAt,List.getD_eq_getElem?_getD,hx]; rfl
  have per:∀ {x:Per},s.peers[(Mod (rawV L (rawP L p)) (s.peers.length:Int)).toNat]? = some x → perAt s.peers (Mod (rawV L (rawP L p)) (s.peers.length:Int)).toNat = x:=fun hx=>by rw [perAt,List.getD_eq_getElem?_getD,hx]; rfl
  simp only [bentS_vc,vcU,rfU,List.length_map]
  refine ⟨by omega,by omega,fun c=>⟨by simp,by simp [bentS,eq_of_beq c]⟩,fun c0=>?_⟩
  have c0:¬ Mod (rawV L p) 8 = 0:=by simpa using c0
  refine ⟨fun c=>⟨by simp,by simp [bentS,eq_of_beq c]⟩,fun c1=>?_⟩
  have c1:¬ Mod (rawV L p) 8 = 1:=by simpa using c1
  refine ⟨fun c=>⟨by simp,by simp [bentS,eq_of_beq c]⟩,fun c2=>?_⟩
  have c2:¬ Mod (rawV L p) 8 = 2:=by simpa using c2
  refine ⟨fun c=>⟨by omega,by simp [bentS,eq_of_beq c]⟩,fun c3=>?_⟩
  have c3:¬ Mod (rawV L p) 8 = 3:=by simpa using c3
  refine ⟨fun c=>⟨fun q=>⟨hf,(cnd q).1,(cnd q).2,fun x hx=>?_⟩,fun q=>?_⟩,fun c4=>?_⟩
  · have c:=eq_of_beq c
    simp only [bentS,c,if_pos q,itm hx]; rfl
  · have c:=eq_of_beq c
    simp only [bentS,c,if_neg q]; rfl
  have c4:¬ Mod (rawV L p) 8 = 4:=by simpa using c4
  refine ⟨fun c=>⟨fun q=>⟨(cnd q).1,(cnd q).2,fun x hx=>?_⟩,fun q=>?_⟩,fun c5=>?_⟩
  · have c:=eq_of_beq c
    simp only [bentS,c,if_pos q,itm hx]; rfl
  · have c:=eq_of_beq c
    simp only [bentS,c,if_neg q]; rfl
  have c5:¬ Mod (rawV L p) 8 = 5:=by simpa using c5
  refine ⟨fun c=>⟨fun q=>⟨by simp,(cnd q).1,(cnd q).2,fun x hx=>?_⟩,fun q=>?_⟩,fun c6=>?_⟩
  · have c:=eq_of_beq c
    simp only [bentS,c,if_pos q,per hx]; rfl
  · have c:=eq_of_beq c
    simp only [bentS,c,if_neg q]; rfl
  have c6:¬ Mod (rawV L p) 8 = 6:=by simpa using c6
  refine ⟨fun q=>⟨by simp,(cnd q).1,(cnd q).2,fun x hx=>?_⟩,fun q=>?_⟩
  · simp only [bentS,if_neg c0,if_neg c1,if_neg c2,if_neg c3,if_neg c4,if_neg c5,if_neg c6,if_pos q,per hx]
  · simp only [bentS,if_neg c0,if_neg c1,if_neg c2,if_neg c3,if_neg c4,if_neg c5,if_neg c6,if_neg q]
def bentS_h (L:(List Int)) (p:Nat) (s:Spk) (h:s.items.length ≤ 900000 ∧ s.peers.length ≤ 900000):HC Tryz.prog:=⟨8,[.k,(.a [.k,.k,.k,(.s 4),(.s 3)])],[.ref 0 0,.agg [.int s.router,.int s.epoch,.int s.last,.sl 4 (s.items.map Itm.v) false,.sl 3 (s.peers.map Per.v) false]],[.box (.agg [.sl 1 (L.map AV.int) false,.int ((p:Nat):Int)])],bentS_e ((⟨L,(bentS L p s).2⟩:Tap),(bentS L p s).1),bentS_b ((⟨L,(bentS L p s).2⟩:Tap),(bentS L p s).1),HSpec.of_okh fun ok ok2=>have ok:bentS_a L p s:=⟨ok,ok2 _ (by simp)⟩; bentS_ok L p s _ (bentS_p L p s h ok),fnB_ok (by kernel_rfl),HcOk.of (by simp [hcB,belBL,AV.belB,allB,okBk,okBkO,bentS_e,bentS_b,pureBL_map (v:=AV.int) (fun _=>rfl),pureBL_map (v:=Itm.v) (fun _=>rfl),pureBL_map (v:=Per.v) (fun _=>rfl)])⟩
def answ_a (t:(List Int)) (raw:Spk) (wants:(List Wnt)) (peer:Int) (epoch:Int):Prop:=okL [.sl 1 (t.map AV.int) false,.agg [.int raw.router,.int raw.epoch,.int raw.last,.sl 4 (raw.items.map Itm.v) false,.sl 3 (raw.peers.map Per.v) false],.sl 3 (wants.map Wnt.v) false,.int peer,.int epoch]
def answ_n0 (t:(List Int)) (raw:Spk) (wants:(List Wnt)) (peer:Int) (epoch:Int) (t0:Bool):NF:=⟨[(0,.k,.sl 1 (t.map AV.int) false),(2,.k,.sl 3 (wants.map Wnt.v) false),(3,.k,.int peer),(4,.k,.int epoch),(6,.k,.ref 0 0),(47,.k,.bool t0)],[.box (.agg [.int raw.router,.int raw.epoch,.int raw.last,.sl 4 (raw.items.map Itm.v) false,.sl 3 (raw.peers.map Per.v) false])]⟩
def answ_n1 (t:(List Int)) (raw:Spk) (wants:(List Wnt)) (peer:Int) (epoch:Int) (t0:Bool) (t1:Tap):NF:=⟨[(0,.k,.sl 1 (t.map AV.int) false),(2,.k,.sl 3 (wants.map Wnt.v) false),(3,.k,.int peer),(4,.k,.int epoch),(6,.k,.ref 0 0),(11,.k,.ref 1 0)],[.box (.agg [.int raw.router,.int raw.epoch,.int raw.last,.sl 4 (raw.items.map Itm.v) false,.sl 3 (raw.peers.map Per.v) false]),.box (.agg [.sl 1 (t1.L.map AV.int) false,.int ((t1.p:Nat):Int)])]⟩
def answ_n2 (t:(List Int)) (raw:Spk) (wants:(List Wnt)) (peer:Int) (epoch:Int) (t0:Bool) (t1:Tap) (t2:Spk):NF:=⟨[(0,.k,.sl 1 (t.map AV.int) false),(2,.k,.sl 3 (wants.map Wnt.v) false),(3,.k,.int peer),(4,.k,.int epoch),(6,.k,.ref 0 0),(11,.k,.ref 1 0),(12,.k,.ref 2 0)],[.box (.agg [.int raw.router,.int raw.epoch,.int raw.last,.sl 4 (raw.items.map Itm.v) false,.sl 3 (raw.peers.map Per.v) false]),.box (.agg [.sl 1 (t1.L.map AV.int) false,.int ((((spkT t1.L t1.p).2):Nat):Int)]),.box (.agg [.int t2.router,.int t2.epoch,.int t2.last,.sl 4 (t2.items.map Itm.v) false,.sl 3 (t2.peers.map Per.v) false])]⟩
def answ_n3 (t:(List Int)) (raw:Spk) (wants:(List Wnt)) (peer:Int) (epoch:Int) (t0:Bool) (t1:Tap) (t2:Spk) (t3:Int × Nat):NF:=⟨[(0,.k,.sl 1 (t.map AV.int) false),(2,.k,.sl 3 (wants.map Wnt.v) false),(3,.k,.int peer),(4,.k,.int epoch),(11,.k,.ref 0 0),(58,.k,.sl 5 [.agg [.int raw.router,.int raw.epoch,.int raw.last,.sl 4 (raw.items.map Itm.v) false,.sl 3 (raw.peers.map Per.v) false],.agg [.int t2.router,.int t2.epoch,.int t2.last,.sl 4 (t2.items.map Itm.v) false,.sl 3 (t2.peers.map Per.v) false],.agg [.int (((bentS t1.L ((spkT t1.L t1.p).2) t2).1).router),.int (((bentS t1.L ((spkT t1.L t1.p).2) t2).1).epoch),.int (((bentS t1.L ((spkT t1.L t1.p).2) t2).1).last),.sl 4 ((((bentS t1.L ((spkT t1.L t1.p).2) t2).1).items).map Itm.v) false,.sl 3 ((((bentS t1.L ((spkT t1.L t1.p).2) t2).1).peers).map Per.v) false]] true),(59,.k,.int 3),(60,.k,.int t3.1)],[.box (.agg [.sl 1 (t1.L.map AV.int) false,.int ((t3.2:Nat):Int)])]⟩
def answ_n4 (t:(List Int)) (raw:Spk) (wants:(List Wnt)) (peer:Int) (epoch:Int) (t0:Bool) (t1:Tap) (t2:Spk) (t3:Int × Nat) (x2:Spk) (t4:Bool):NF:=⟨[(0,.k,.sl 1 (t.map AV.int) false),(2,.k,.sl 3 (wants.map Wnt.v) false),(3,.k,.int peer),(4,.k,.int epoch),(11,.k,.ref 0 0),(14,.k,.ref 1 0),(58,.k,.sl 5 [.agg [.int raw.router,.int raw.epoch,.int raw.last,.sl 4 (raw.items.map Itm.v) false,.sl 3 (raw.peers.map Per.v) false],.agg [.int t2.router,.int t2.epoch,.int t2.last,.sl 4 (t2.items.map Itm.v) false,.sl 3 (t2.peers.map Per.v) false],.agg [.int (((bentS t1.L ((spkT t1.L t1.p).2) t2).1).router),.int (((bentS t1.L ((spkT t1.L t1.p).2) t2).1).epoch),.int (((bentS t1.L ((spkT t1.L t1.p).2) t2).1).last),.sl 4 ((((bentS t1.L ((spkT t1.L t1.p).2) t2).1).items).map Itm.v) false,.sl 3 ((((bentS t1.L ((spkT t1.L t1.p).2) t2).1).peers).map Per.v) false]] true),(59,.k,.int 3),(60,.k,.int t3.1),(78,.k,.bool t4)],[.box (.agg [.sl 1 (t1.L.map AV.int) false,.int ((t3.2:Nat):Int)]),.box (.agg [.int x2.router,.int x2.epoch,.int x2.last,.sl 4 (x2.items.map Itm.v) false,.sl 3 (x2.peers.map Per.v) false])]⟩
def answ_n5 (t:(List Int)) (raw:Spk) (wants:(List Wnt)) (peer:Int) (epoch:Int) (t0:Bool) (t1:Tap) (t2:Spk) (t3:Int × Nat) (x2:Spk) (t4:Bool) (t5:Int):NF:=⟨[(0,.k,.sl 1 (t.map AV.int) false),(2,.k,.sl 3 (wants.map Wnt.v) false),(3,.k,.int peer),(4,.k,.int epoch),(11,.k,.ref 0 0),(14,.k,.ref 1 0),(58,.k,.sl 5 [.agg [.int raw.router,.int raw.epoch,.int raw.last,.sl 4 (raw.items.map Itm.v) false,.sl 3 (raw.peers.map Per.v) false],.agg [.int t2.router,.int t2.epoch,.int t2.last,.sl 4 (t2.items.map Itm.v) false,.sl 3 (t2.peers.map Per.v) false],.agg [.int (((bentS t1.L ((spkT t1.L t1.p).2) t2).1).router),.int (((bentS t1.L ((spkT t1.L t1.p).2) t2).1).epoch),.int (((bentS t1.L ((spkT t1.L t1.p).2) t2).1).last),.sl 4 ((((bentS t1.L ((spkT t1.L t1.p).2) t2).1).items).map Itm.v) false,.sl 3 ((((bentS t1.L ((spkT t1.L t1.p).2) t2).1).peers).map Per.v) false]] true),(59,.k,.int 3),(60,.k,.int t3.1),(84,.k,.sl 1 [.sl 3 (wants.map Wnt.v) false,.sl 3 (((wantsT t1.L t3.2).1).map Wnt.v) false,.sl 3 (((chgT t1.L ((wantsT t1.L t3.2).2)).1).map Wnt.v) false] true),(85,.k,.int 3),(86,.k,.int t5)],[.box (.agg [.sl 1 (t1.L.map AV.int) false,.int ((((chgT t1.L ((wantsT t1.L t3.2).2)).2):Nat):Int)]),.box (.agg [.int x2.router,.int x2.epoch,.int x2.last,.sl 4 (x2.items.map Itm.v) false,.sl 3 (x2.peers.map Per.v) false])]⟩
def answ_n6 (t:(List Int)) (raw:Spk) (wants:(List Wnt)) (peer:Int) (epoch:Int) (t0:Bool) (t1:Tap) (t2:Spk) (t3:Int × Nat) (x2:Spk) (t4:Bool) (t5:Int) (x3:(List Wnt)) (t6:Int × Spk):NF:=⟨[(0,.k,.sl 1 (t.map AV.int) false),(2,.k,.sl 3 (wants.map Wnt.v) false),(3,.k,.int peer),(4,.k,.int epoch),(11,.k,.ref 0 0),(14,.k,.ref 1 0),(16,.k,.sl 3 (x3.map Wnt.v) false),(17,.k,.ref 2 0),(18,.k,.int t6.1),(58,.k,.sl 5 [.agg [.int raw.router,.int raw.epoch,.int raw.last,.sl 4 (raw.items.map Itm.v) false,.sl 3 (raw.peers.map Per.v) false],.agg [.int t2.router,.int t2.epoch,.int t2.last,.sl 4 (t2.items.map Itm.v) false,.sl 3 (t2.peers.map Per.v) false],.agg [.int (((bentS t1.L ((spkT t1.L t1.p).2) t2).1).router),.int (((bentS t1.L ((spkT t1.L t1.p).2) t2).1).epoch),.int (((bentS t1.L ((spkT t1.L t1.p).2) t2).1).last),.sl 4 ((((bentS t1.L ((spkT t1.L t1.p).2) t2).1).items).map Itm.v) false,.sl 3 ((((bentS t1.L ((spkT t1.L t1.p).2) t2).1).peers).map Per.v) false]] true),(59,.k,.int 3),(60,.k,.int t3.1),(84,.k,.sl 1 [.sl 3 (wants.map Wnt.v) false,.sl 3 (((wantsT t1.L t3.2).1).map Wnt.v) false,.sl 3 (((chgT t1.L ((wantsT t1.L t3.2).2)).1).map Wnt.v) false] true),(85,.k,.int 3),(86,.k,.int t5)],[.box (.agg [.sl 1 (t1.L.map AV.int) false,.int ((((chgT t1.L ((wantsT t1.L t3.2).2)).2):Nat):Int)]),.box (.agg [.int x2.router,.int x2.epoch,.int x2.last,.sl 4 (x2.items.map Itm.v) false,.sl 3 (x2.peers.map Per.v) false]),.box (.agg [.int t6.2.router,.int t6.2.epoch,.int t6.2.last,.sl 4 (t6.2.items.map Itm.v) false,.sl 3 (t6.2.peers.map Per.v) false])]⟩
def answ_n7 (t:(List Int)) (raw:Spk) (wants:(List Wnt)) (peer:Int) (epoch:Int) (t0:Bool) (t1:Tap) (t2:Spk) (t3:Int × Nat) (x2:Spk) (t4:Bool) (t5:Int) (x3:(List Wnt)) (t6:Int × Spk) (t7:Int × Spk):NF:=⟨[(0,.k,.sl 1 (t.map AV.int) false),(2,.k,.sl 3 (wants.map Wnt.v) false),(3,.k,.int peer),(4,.k,.int epoch),(11,.k,.ref 0 0),(14,.k,.ref 1 0),(16,.k,.sl 3 (x3.map Wnt.v) false),(17,.k,.ref 2 0),(18,.k,.int t6.1),(19,.k,.ref 3 0),(20,.k,.int t7.1),(58,.k,.sl 5 [.agg [.int raw.router,.int raw.epoch,.int raw.last,.sl 4 (raw.items.map Itm.v) false,.sl 3 (raw.peers.map Per.v) false],.agg [.int t2.router,.int t2.epoch,.int t2.last,.sl 4 (t2.items.map Itm.v) false,.sl 3 (t2.peers.map Per.v) false],.agg [.int (((bentS t1.L ((spkT t1.L t1.p).2) t2).1).router),.int (((bentS t1.L ((spkT t1.L t1.p).2) t2).1).epoch),.int (((bentS t1.L ((spkT t1.L t1.p).2) t2).1).last),.sl 4 ((((bentS t1.L ((spkT t1.L t1.p).2) t2).1).items).map Itm.v) false,.sl 3 ((((bentS t1.L ((spkT t1.L t1.p).2) t2).1).peers).map Per.v) false]] true),(59,.k,.int 3),(60,.k,.int t3.1),(84,.k,.sl 1 [.sl 3 (wants.map Wnt.v) false,.sl 3 (((wantsT t1.L t3.2).1).map Wnt.v) false,.sl 3 (((chgT t1.L ((wantsT t1.L t3.2).2)).1).map Wnt.v) false] true),(85,.k,.int 3),(86,.k,.int t5)],[.box (.agg [.sl 1 (t1.L.map AV.int) false,.int ((((chgT t1.L ((wantsT t1.L t3.2).2)).2):Nat):Int)]),.box (.agg [.int x2.router,.int x2.epoch,.int x2.last,.sl 4 (x2.items.map Itm.v) false,.sl 3 (x2.peers.map Per.v) false]),.box (.agg [.int t6.2.router,.int t6.2.epoch,.int t6.2.last,.sl 4 (t6.2.items.map Itm.v) false,.sl 3 (t6.2.peers.map Per.v) false]),.box (.agg [.int t7.2.router,.int t7.2.epoch,.int t7.2.last,.sl 4 (t7.2.items.map Itm.v) false,.sl 3 (t7.2.peers.map Per.v) false])]⟩
def answ_n8 (t:(List Int)) (raw:Spk) (wants:(List Wnt)) (peer:Int) (epoch:Int) (t0:Bool) (t1:Tap) (t2:Spk) (t3:Int × Nat) (x2:Spk) (t4:Bool) (t5:Int) (x3:(List Wnt)) (t6:Int × Spk) (t7:Int × Spk) (t8:Int × Spk):NF:=⟨[(0,.k,.sl 1 (t.map AV.int) false),(2,.k,.sl 3 (wants.map Wnt.v) false),(3,.k,.int peer),(4,.k,.int epoch),(11,.k,.ref 0 0),(14,.k,.ref 1 0),(16,.k,.sl 3 (x3.map Wnt.v) false),(17,.k,.ref 2 0),(18,.k,.int t6.1),(19,.k,.ref 3 0),(20,.k,.int t7.1),(21,.k,.ref 4 0),(22,.k,.int t8.1),(58,.k,.sl 5 [.agg [.int raw.router,.int raw.epoch,.int raw.last,.sl 4 (raw.items.map Itm.v) false,.sl 3 (raw.peers.map Per.v) false],.agg [.int t2.router,.int t2.epoch,.int t2.last,.sl 4 (t2.items.map Itm.v) false,.sl 3 (t2.peers.map Per.v) false],.agg [.int (((bentS t1.L ((spkT t1.L t1.p).2) t2).1).router),.int (((bentS t1.L ((spkT t1.L t1.p).2) t2).1).epoch),.int (((bentS t1.L ((spkT t1.L t1.p).2) t2).1).last),.sl 4 ((((bentS t1.L ((spkT t1.L t1.p).2) t2).1).items).map Itm.v) false,.sl 3 ((((bentS t1.L ((spkT t1.L t1.p).2) t2).1).peers).map Per.v) false]] true),(59,.k,.int 3),(60,.k,.int t3.1),(84,.k,.sl 1 [.sl 3 (wants.map Wnt.v) false,.sl 3 (((wantsT t1.L t3.2).1).map Wnt.v) false,.sl 3 (((chgT t1.L ((wantsT t1.L t3.2).2)).1).map Wnt.v) false] true),(85,.k,.int 3),(86,.k,.int t5)],[.box (.agg [.sl 1 (t1.L.map AV.int) false,.int ((((chgT t1.L ((wantsT t1.L t3.2).2)).2):Nat):Int)]),.box (.agg [.int x2.router,.int x2.epoch,.int x2.last,.sl 4 (x2.items.map Itm.v) false,.sl 3 (x2.peers.map Per.v) false]),.box (.agg [.int t6.2.router,.int t6.2.epoch,.int t6.2.last,.sl 4 (t6.2.items.map Itm.v) false,.sl 3 (t6.2.peers.map Per.v) false]),.box (.agg [.int t7.2.router,.int t7.2.epoch,.int t7.2.last,.sl 4 (t7.2.items.map Itm.v) false,.sl 3 (t7.2.peers.map Per.v) false]),.box (.agg [.int t8.2.router,.int t8.2.epoch,.int t8.2.last,.sl 4 (t8.2.items.map Itm.v) false,.sl 3 (t8.2.peers.map Per.v) false])]⟩
def answ_n9 (t:(List Int)) (raw:Spk) (wants:(List Wnt)) (peer:Int) (epoch:Int) (t0:Bool) (t1:Tap) (t2:Spk) (t3:Int × Nat) (x2:Spk) (t4:Bool) (t5:Int) (x3:(List Wnt)) (t6:Int × Spk) (t7:Int × Spk) (t8:Int × Spk) (t9:Int × Spk):NF:=⟨[(0,.k,.sl 1 (t.map AV.int) false),(2,.k,.sl 3 (wants.map Wnt.v) false),(3,.k,.int peer),(4,.k,.int epoch),(11,.k,.ref 0 0),(14,.k,.ref 1 0),(17,.k,.ref 2 0),(18,.k,.int t6.1),(19,.k,.ref 3 0),(20,.k,.int t7.1),(21,.k,.ref 4 0),(22,.k,.int t8.1),(23,.k,.ref 5 0),(24,.k,.int t9.1),(58,.k,.sl 5 [.agg [.int raw.router,.int raw.epoch,.int raw.last,.sl 4 (raw.items.map Itm.v) false,.sl 3 (raw.peers.map Per.v) false],.agg [.int t2.router,.int t2.epoch,.int t2.last,.sl 4 (t2.items.map Itm.v) false,.sl 3 (t2.peers.map Per.v) false],.agg [.int (((bentS t1.L ((spkT t1.L t1.p).2) t2).1).router),.int (((bentS t1.L ((spkT t1.L t1.p).2) t2).1).epoch),.int (((bentS t1.L ((spkT t1.L t1.p).2) t2).1).last),.sl 4 ((((bentS t1.L ((spkT t1.L t1.p).2) t2).1).items).map Itm.v) false,.sl 3 ((((bentS t1.L ((spkT t1.L t1.p).2) t2).1).peers).map Per.v) false]] true),(59,.k,.int 3),(60,.k,.int t3.1),(84,.k,.sl 1 [.sl 3 (wants.map Wnt.v) false,.sl 3 (((wantsT t1.L t3.2).1).map Wnt.v) false,.sl 3 (((chgT t1.L ((wantsT t1.L t3.2).2)).1).map Wnt.v) false] true),(85,.k,.int 3),(86,.k,.int t5)],[.box (.agg [.sl 1 (t1.L.map AV.int) false,.int ((((chgT t1.L ((wantsT t1.L t3.2).2)).2):Nat):Int)]),.box (.agg [.int x2.router,.int x2.epoch,.int x2.last,.sl 4 (x2.items.map Itm.v) false,.sl 3 (x2.peers.map Per.v) false]),.box (.agg [.int t6.2.router,.int t6.2.epoch,.int t6.2.last,.sl 4 (t6.2.items.map Itm.v) false,.sl 3 (t6.2.peers.map Per.v) false]),.box (.agg [.int t7.2.router,.int t7.2.epoch,.int t7.2.last,.sl 4 (t7.2.items.map Itm.v) false,.sl 3 (t7.2.peers.map Per.v) false]),.box (.agg [.int t8.2.router,.int t8.2.epoch,.int t8.2.last,.sl 4 (t8.2.items.map Itm.v) false,.sl 3 (t8.2.peers.map Per.v) false]),.box (.agg [.int t9.2.router,.int t9.2.epoch,.int t9.2.last,.sl 4 (t9.2.items.map Itm.v) false,.sl 3 (t9.2.peers.map Per.v) false])]⟩
def answ_n10 (t:(List Int)) (raw:Spk) (wants:(List Wnt)) (peer:Int) (epoch:Int) (t0:Bool) (t1:Tap) (t2:Spk) (t3:Int × Nat) (x2:Spk) (t4:Bool) (t5:Int) (x3:(List Wnt)) (t6:Int × Spk) (t7:Int × Spk) (t8:Int × Spk) (t9:Int × Spk) (t10:Bool):NF:=⟨[(0,.k,.sl 1 (t.map AV.int) false),(2,.k,.sl 3 (wants.map Wnt.v) false),(3,.k,.int peer),(4,.k,.int epoch),(11,.k,.ref 0 0),(14,.k,.ref 1 0),(58,.k,.sl 5 [.agg [.int raw.router,.int raw.epoch,.int raw.last,.sl 4 (raw.items.map Itm.v) false,.sl 3 (raw.peers.map Per.v) false],.agg [.int t2.router,.int t2.epoch,.int t2.last,.sl 4 (t2.items.map Itm.v) false,.sl 3 (t2.peers.map Per.v) false],.agg [.int (((bentS t1.L ((spkT t1.L t1.p).2) t2).1).router),.int (((bentS t1.L ((spkT t1.L t1.p).2) t2).1).epoch),.int (((bentS t1.L ((spkT t1.L t1.p).2) t2).1).last),.sl 4 ((((bentS t1.L ((spkT t1.L t1.p).2) t2).1).items).map Itm.v) false,.sl 3 ((((bentS t1.L ((spkT t1.L t1.p).2) t2).1).peers).map Per.v) false]] true),(59,.k,.int 3),(60,.k,.int t3.1),(84,.k,.sl 1 [.sl 3 (wants.map Wnt.v) false,.sl 3 (((wantsT t1.L t3.2).1).map Wnt.v) false,.sl 3 (((chgT t1.L ((wantsT t1.L t3.2).2)).1).map Wnt.v) false] true),(85,.k,.int 3),(86,.k,.int t5),(133,.k,.bool t10)],[.box (.agg [.sl 1 (t1.L.map AV.int) false,.int ((((chgT t1.L ((wantsT t1.L t3.2).2)).2):Nat):Int)]),.box (.agg [.int x2.router,.int x2.epoch,.int x2.last,.sl 4 (x2.items.map Itm.v) false,.sl 3 (x2.peers.map Per.v) false])]⟩
def answ_n11 (t:(List Int)) (raw:Spk) (wants:(List Wnt)) (peer:Int) (epoch:Int) (t0:Bool) (t1:Tap) (t2:Spk) (t3:Int × Nat) (x2:Spk) (t4:Bool) (t5:Int) (t11:Int):NF:=⟨[(0,.k,.sl 1 (t.map AV.int) false),(2,.k,.sl 3 (wants.map Wnt.v) false),(3,.k,.int peer),(4,.k,.int epoch),(11,.k,.ref 0 0),(14,.k,.ref 1 0),(58,.k,.sl 5 [.agg [.int raw.router,.int raw.epoch,.int raw.last,.sl 4 (raw.items.map Itm.v) false,.sl 3 (raw.peers.map Per.v) false],.agg [.int t2.router,.int t2.epoch,.int t2.last,.sl 4 (t2.items.map Itm.v) false,.sl 3 (t2.peers.map Per.v) false],.agg [.int (((bentS t1.L ((spkT t1.L t1.p).2) t2).1).router),.int (((bentS t1.L ((spkT t1.L t1.p).2) t2).1).epoch),.int (((bentS t1.L ((spkT t1.L t1.p).2) t2).1).last),.sl 4 ((((bentS t1.L ((spkT t1.L t1.p).2) t2).1).items).map Itm.v) false,.sl 3 ((((bentS t1.L ((spkT t1.L t1.p).2) t2).1).peers).map Per.v) false]] true),(59,.k,.int 3),(60,.k,.int t3.1),(138,.k,.sl 1 [.int peer,.int (rng t1.L ((chgT t1.L ((wantsT t1.L t3.2).2)).2) 6 9)] true),(139,.k,.int 2),(140,.k,.int t11)],[.box (.agg [.sl 1 (t1.L.map AV.int) false,.int (((rawP t1.L ((chgT t1.L ((wantsT t1.L t3.2).2)).2)):Nat):Int)]),.box (.agg [.int x2.router,.int x2.epoch,.int x2.last,.sl 4 (x2.items.map Itm.v) false,.sl 3 (x2.peers.map Per.v) false])]⟩
def answ_n12 (t:(List Int)) (raw:Spk) (wants:(List Wnt)) (peer:Int) (epoch:Int) (t0:Bool) (t1:Tap) (t2:Spk) (t3:Int × Nat) (x2:Spk) (t4:Bool) (t5:Int) (t11:Int) (x4:Int) (t12:(List Sig) × Int):NF:=⟨[(0,.k,.sl 1 (t.map AV.int) false),(2,.k,.sl 3 (wants.map Wnt.v) false),(3,.k,.int peer),(4,.k,.int epoch),(11,.k,.ref 0 0),(14,.k,.ref 1 0),(26,.k,.int x4),(27,(.s 10),.sl 10 (t12.1.map Sig.v) false),(28,.k,.int t12.2),(58,.k,.sl 5 [.agg [.int raw.router,.int raw.epoch,.int raw.last,.sl 4 (raw.items.map Itm.v) false,.sl 3 (raw.peers.map Per.v) false],.agg [.int t2.router,.int t2.epoch,.int t2.last,.sl 4 (t2.items.map Itm.v) false,.sl 3 (t2.peers.map Per.v) false],.agg [.int (((bentS t1.L ((spkT t1.L t1.p).2) t2).1).router),.int (((bentS t1.L ((spkT t1.L t1.p).2) t2).1).epoch),.int (((bentS t1.L ((spkT t1.L t1.p).2) t2).1).last),.sl 4 ((((bentS t1.L ((spkT t1.L t1.p).2) t2).1).items).map Itm.v) false,.sl 3 ((((bentS t1.L ((spkT t1.L t1.p).2) t2).1).peers).map Per.v) false]] true),(59,.k,.int 3),(60,.k,.int t3.1),(138,.k,.sl 1 [.int peer,.int (rng t1.L ((chgT t1.L ((wantsT t1.L t3.2).2)).2) 6 9)] true),(139,.k,.int 2),(140,.k,.int t11)],[.box (.agg [.sl 1 (t1.L.map AV.int) false,.int (((rawP t1.L ((chgT t1.L ((wantsT t1.L t3.2).2)).2)):Nat):Int)]),.box (.agg [.int x2.router,.int x2.epoch,.int x2.last,.sl 4 (x2.items.map Itm.v) false,.sl 3 (x2.peers.map Per.v) false])]⟩
def answ_n13 (t:(List Int)) (raw:Spk) (wants:(List Wnt)) (peer:Int) (epoch:Int) (t0:Bool) (t1:Tap) (t2:Spk) (t3:Int × Nat) (x2:Spk) (t4:Bool) (t5:Int) (t11:Int) (x4:Int) (t12:(List Sig) × Int) (t13:(List Sig) × Int):NF:=⟨[(0,.k,.sl 1 (t.map AV.int) false),(2,.k,.sl 3 (wants.map Wnt.v) false),(3,.k,.int peer),(4,.k,.int epoch),(11,.k,.ref 0 0),(14,.k,.ref 1 0),(27,.k,.sl 10 (t12.1.map Sig.v) false),(28,.k,.int t12.2),(29,(.s 10),.sl 10 (t13.1.map Sig.v) false),(30,.k,.int t13.2),(58,.k,.sl 5 [.agg [.int raw.router,.int raw.epoch,.int raw.last,.sl 4 (raw.items.map Itm.v) false,.sl 3 (raw.peers.map Per.v) false],.agg [.int t2.router,.int t2.epoch,.int t2.last,.sl 4 (t2.items.map Itm.v) false,.sl 3 (t2.peers.map Per.v) false],.agg [.int (((bentS t1.L ((spkT t1.L t1.p).2) t2).1).router),.int (((bentS t1.L ((spkT t1.L t1.p).2) t2).1).epoch),.int (((bentS t1.L ((spkT t1.L t1.p).2) t2).1).last),.sl 4 ((((bentS t1.L ((spkT t1.L t1.p).2) t2).1).items).map Itm.v) false,.sl 3 ((((bentS t1.L ((spkT t1.L t1.p).2) t2).1).peers).map Per.v) false]] true),(59,.k,.int 3),(60,.k,.int t3.1),(138,.k,.sl 1 [.int peer,.int (rng t1.L ((chgT t1.L ((wantsT t1.L t3.2).2)).2) 6 9)] true),(139,.k,.int 2),(140,.k,.int t11)],[.box (.agg [.sl 1 (t1.L.map AV.int) false,.int (((rawP t1.L ((chgT t1.L ((wantsT t1.L t3.2).2)).2)):Nat):Int)]),.box (.agg [.int x2.router,.int x2.epoch,.int x2.last,.sl 4 (x2.items.map Itm.v) false,.sl 3 (x2.peers.map Per.v) false])]⟩
def answ_n14 (t:(List Int)) (raw:Spk) (wants:(List Wnt)) (peer:Int) (epoch:Int) (t0:Bool) (t1:Tap) (t2:Spk) (t3:Int × Nat) (x2:Spk) (t4:Bool) (t5:Int) (t11:Int) (x4:Int) (t12:(List Sig) × Int) (t13:(List Sig) × Int) (t14:Bool):NF:=⟨[(0,.k,.sl 1 (t.map AV.int) false),(2,.k,.sl 3 (wants.map Wnt.v) false),(3,.k,.int peer),(4,.k,.int epoch),(11,.k,.ref 0 0),(14,.k,.ref 1 0),(58,.k,.sl 5 [.agg [.int raw.router,.int raw.epoch,.int raw.last,.sl 4 (raw.items.map Itm.v) false,.sl 3 (raw.peers.map Per.v) false],.agg [.int t2.router,.int t2.epoch,.int t2.last,.sl 4 (t2.items.map Itm.v) false,.sl 3 (t2.peers.map Per.v) false],.agg [.int (((bentS t1.L ((spkT t1.L t1.p).2) t2).1).router),.int (((bentS t1.L ((spkT t1.L t1.p).2) t2).1).epoch),.int (((bentS t1.L ((spkT t1.L t1.p).2) t2).1).last),.sl 4 ((((bentS t1.L ((spkT t1.L t1.p).2) t2).1).items).map Itm.v) false,.sl 3 ((((bentS t1.L ((spkT t1.L t1.p).2) t2).1).peers).map Per.v) false]] true),(59,.k,.int 3),(60,.k,.int t3.1),(138,.k,.sl 1 [.int peer,.int (rng t1.L ((chgT t1.L ((wantsT t1.L t3.2).2)).2) 6 9)] true),(139,.k,.int 2),(140,.k,.int t11),(164,.k,.bool t14)],[.box (.agg [.sl 1 (t1.L.map AV.int) false,.int (((rawP t1.L ((chgT t1.L ((wantsT t1.L t3.2).2)).2)):Nat):Int)]),.box (.agg [.int x2.router,.int x2.epoch,.int x2.last,.sl 4 (x2.items.map Itm.v) false,.sl 3 (x2.peers.map Per.v) false])]⟩
def answ_n15 (t:(List Int)) (raw:Spk) (wants:(List Wnt)) (peer:Int) (epoch:Int) (t0:Bool) (t1:Tap) (t2:Spk) (t3:Int × Nat) (t15:Int × Nat):NF:=⟨[(4,.k,.int epoch),(11,.k,.ref 0 0),(177,.k,.sl 1 [.sl 1 ([7,8].map AV.int) false,.sl 1 ([peer].map AV.int) false,.sl 1 ([8,7].map AV.int) false,.sl 1 ([1,1].map AV.int) false,.sl 1 ([].map AV.int) false,.sl 1 (((t.take ((minI ((t.map AV.int).length:Int) 14).toNat)).drop 0).map AV.int) false] false),(178,.k,.int 6),(179,.k,.int t15.1)],[.box (.agg [.sl 1 (t1.L.map AV.int) false,.int ((t15.2:Nat):Int)])]⟩
def answ_n16 (t:(List Int)) (raw:Spk) (wants:(List Wnt)) (peer:Int) (epoch:Int) (t0:Bool) (t1:Tap) (t2:Spk) (t3:Int × Nat) (t15:Int × Nat) (x5:(List Int)) (t16:Int × Nat):NF:=⟨[(4,.k,.int epoch),(11,.k,.ref 0 0),(32,.k,.sl 1 (x5.map AV.int) false),(177,.k,.sl 1 [.sl 1 ([7,8].map AV.int) false,.sl 1 ([peer].map AV.int) false,.sl 1 ([8,7].map AV.int) false,.sl 1 ([1,1].map AV.int) false,.sl 1 ([].map AV.int) false,.sl 1 (((t.take ((minI ((t.map AV.int).length:Int) 14).toNat)).drop 0).map AV.int) false] false),(178,.k,.int 6),(179,.k,.int t15.1),(184,.k,.sl 1 [.int epoch,.int 1] true),(185,.k,.int 2),(186,.k,.int t16.1)],[.box (.agg [.sl 1 (t1.L.map AV.int) false,.int ((t16.2:Nat):Int)])]⟩
def answ_n17 (t:(List Int)) (raw:Spk) (wants:(List Wnt)) (peer:Int) (epoch:Int) (t0:Bool) (t1:Tap) (t2:Spk) (t3:Int × Nat) (t15:Int × Nat) (x5:(List Int)) (t16:Int × Nat) (x6:Int) (t17:Int):NF:=⟨[(4,.k,.int epoch),(11,.k,.ref 0 0),(32,.k,.sl 1 (x5.map AV.int) false),(34,.k,.int x6),(35,.k,.int t17),(177,.k,.sl 1 [.sl 1 ([7,8].map AV.int) false,.sl 1 ([peer].map AV.int) false,.sl 1 ([8,7].map AV.int) false,.sl 1 ([1,1].map AV.int) false,.sl 1 ([].map AV.int) false,.sl 1 (((t.take ((minI ((t.map AV.int).length:Int) 14).toNat)).drop 0).map AV.int) false] false),(178,.k,.int 6),(179,.k,.int t15.1),(184,.k,.sl 1 [.int epoch,.int 1] true),(185,.k,.int 2),(186,.k,.int t16.1)],[.box (.agg [.sl 1 (t1.L.map AV.int) false,.int (((rawP t1.L t16.2):Nat):Int)])]⟩
def answ_n18 (t:(List Int)) (raw:Spk) (wants:(List Wnt)) (peer:Int) (epoch:Int) (t0:Bool) (t1:Tap) (t2:Spk) (t3:Int × Nat) (t15:Int × Nat) (x5:(List Int)) (t16:Int × Nat) (x6:Int) (t17:Int) (t18:Int × Spk):NF:=⟨[(4,.k,.int epoch),(11,.k,.ref 0 0),(32,.k,.sl 1 (x5.map AV.int) false),(34,.k,.int x6),(35,.k,.int t17),(36,.k,.ref 1 0),(37,.k,.int t18.1),(177,.k,.sl 1 [.sl 1 ([7,8].map AV.int) false,.sl 1 ([peer].map AV.int) false,.sl 1 ([8,7].map AV.int) false,.sl 1 ([1,1].map AV.int) false,.sl 1 ([].map AV.int) false,.sl 1 (((t.take ((minI ((t.map AV.int).length:Int) 14).toNat)).drop 0).map AV.int) false] false),(178,.k,.int 6),(179,.k,.int t15.1),(184,.k,.sl 1 [.int epoch,.int 1] true),(185,.k,.int 2),(186,.k,.int t16.1)],[.box (.agg [.sl 1 (t1.L.map AV.int) false,.int (((rawP t1.L t16.2):Nat):Int)]),.box (.agg [.int t18.2.router,.int t18.2.epoch,.int t18.2.last,.sl 4 (t18.2.items.map Itm.v) false,.sl 3 (t18.2.peers.map Per.v) false])]⟩
def answ_n19 (t:(List Int)) (raw:Spk) (wants:(List Wnt)) (peer:Int) (epoch:Int) (t0:Bool) (t1:Tap) (t2:Spk) (t3:Int × Nat) (t15:Int × Nat) (x5:(List Int)) (t16:Int × Nat) (x6:Int) (t17:Int) (t18:Int × Spk) (t19:Int × Spk):NF:=⟨[(4,.k,.int epoch),(11,.k,.ref 0 0),(32,.k,.sl 1 (x5.map AV.int) false),(36,.k,.ref 1 0),(37,.k,.int t18.1),(38,.k,.ref 2 0),(39,.k,.int t19.1),(177,.k,.sl 1 [.sl 1 ([7,8].map AV.int) false,.sl 1 ([peer].map AV.int) false,.sl 1 ([8,7].map AV.int) false,.sl 1 ([1,1].map AV.int) false,.sl 1 ([].map AV.int) false,.sl 1 (((t.take ((minI ((t.map AV.int).length:Int) 14).toNat)).drop 0).map AV.int) false] false),(178,.k,.int 6),(179,.k,.int t15.1),(184,.k,.sl 1 [.int epoch,.int 1] true),(185,.k,.int 2),(186,.k,.int t16.1)],[.box (.agg [.sl 1 (t1.L.map AV.int) false,.int (((rawP t1.L t16.2):Nat):Int)]),.box (.agg [.int t18.2.router,.int t18.2.epoch,.int t18.2.last,.sl 4 (t18.2.items.map Itm.v) false,.sl 3 (t18.2.peers.map Per.v) false]),.box (.agg [.int t19.2.router,.int t19.2.epoch,.int t19.2.last,.sl 4 (t19.2.items.map Itm.v) false,.sl 3 (t19.2.peers.map Per.v) false])]⟩
def answ_n20 (t:(List Int)) (raw:Spk) (wants:(List Wnt)) (peer:Int) (epoch:Int) (t0:Bool) (t1:Tap) (t2:Spk) (t3:Int × Nat) (t15:Int × Nat) (x5:(List Int)) (t16:Int × Nat) (x6:Int) (t17:Int) (t18:Int × Spk) (t19:Int × Spk) (t20:Bool):NF:=⟨[(4,.k,.int epoch),(11,.k,.ref 0 0),(32,.k,.sl 1 (x5.map AV.int) false),(177,.k,.sl 1 [.sl 1 ([7,8].map AV.int) false,.sl 1 ([peer].map AV.int) false,.sl 1 ([8,7].map AV.int) false,.sl 1 ([1,1].map AV.int) false,.sl 1 ([].map AV.int) false,.sl 1 (((t.take ((minI ((t.map AV.int).length:Int) 14).toNat)).drop 0).map AV.int) false] false),(178,.k,.int 6),(179,.k,.int t15.1),(184,.k,.sl 1 [.int epoch,.int 1] true),(185,.k,.int 2),(186,.k,.int t16.1),(214,.k,.bool t20)],[.box (.agg [.sl 1 (t1.L.map AV.int) false,.int (((rawP t1.L t16.2):Nat):Int)])]⟩
def answ_s:Nat → Type
  | 0=>Bool
  | 1=>Tap
  | 2=>Spk
  | 3=>Int × Nat
  | 4=>Bool
  | 5=>Int
  | 6=>Int × Spk
  | 7=>Int × Spk
  | 8=>Int × Spk
  | 9=>Int × Spk
  | 10=>Bool
  | 11=>Int
  | 12=>(List Sig) × Int
  | 13=>(List Sig) × Int
  | 14=>Bool
  | 15=>Int × Nat
  | 16=>Int × Nat
  | 17=>Int
  | 18=>Int × Spk
  | 19=>Int × Spk
  | 20=>Bool
  | _=>Unit
def answ_e (r:Bool):AV:=.bool r
def answ_vc (t:(List Int)) (raw:Spk) (wants:(List Wnt)) (peer:Int) (epoch:Int) (I0:Bool → Prop) (I3:Bool → Tap → Spk → (Int × Nat) → Prop) (m3:Bool → Tap → Spk → (Int × Nat) → Nat) (I4:Bool → Tap → Spk → Int × Nat → Spk → Bool → Prop) (I5:Bool → Tap → Spk → Int × Nat → Spk → Bool → Int → Prop) (m5:Bool → Tap → Spk → Int × Nat → Spk → Bool → Int → Nat) (I10:Bool → Tap → Spk → Int × Nat → Spk → Bool → Int → (List Wnt) → Int × Spk → Int × Spk → Int × Spk → Int × Spk → Bool → Prop) (I11:Bool → Tap → Spk → Int × Nat → Spk → Bool → Int → Int → Prop) (m11:Bool → Tap → Spk → Int × Nat → Spk → Bool → Int → Int → Nat) (I14:Bool → Tap → Spk → Int × Nat → Spk → Bool → Int → Int → Int → (List Sig) × Int → (List Sig) × Int → Bool → Prop) (I15:Bool → Tap → Spk → Int × Nat → (Int × Nat) → Prop) (m15:Bool → Tap → Spk → Int × Nat → (Int × Nat) → Nat) (I16:Bool → Tap → Spk → Int × Nat → Int × Nat → (List Int) → (Int × Nat) → Prop) (m16:Bool → Tap → Spk → Int × Nat → Int × Nat → (List Int) → (Int × Nat) → Nat) (I20:Bool → Tap → Spk → Int × Nat → Int × Nat → (List Int) → Int × Nat → Int → Int → Int × Spk → Int × Spk → Bool → Prop) (r0:Bool):Prop:=
 (Cl (smallS_c raw)
 (br (!(smallS raw))
 (Nf (answ_n0 t raw wants peer epoch (true)) [0] (I0 ((true):Bool)))
 (Nf (answ_n0 t raw wants peer epoch (decide (60 < ((wants.map Wnt.v).length:Int)))) [0] (I0 ((decide (60 < ((wants.map Wnt.v).length:Int))):Bool))))) ∧ ∀ t0:Bool,I0 t0 →
 br t0
 (Cl (awake_c )
 (Rf (answ_e (true)) ((true) = r0)))
 ((Ch (New_h t) [] 17
 (Nf (answ_n1 t raw wants peer epoch t0 ((⟨t.take 2000,0⟩:Tap))) [0,17] ((((⟨t.take 2000,0⟩:Tap)):Tap) = (((⟨t.take 2000,0⟩:Tap)):Tap)))) ∧ ∀ t1:Tap,t1 = (((⟨t.take 2000,0⟩:Tap)):Tap) →
 (Ch (spkT_h t1.L t1.p) [1] 18
 (Nf (answ_n2 t raw wants peer epoch t0 t1 ((spkT t1.L t1.p).1)) [0,1,34] ((((spkT t1.L t1.p).1):Spk) = (((spkT t1.L t1.p).1):Spk)))) ∧ ∀ t2:Spk,t2 = (((spkT t1.L t1.p).1):Spk) →
 ∃ h1:t2.items.length ≤ 900000 ∧ t2.peers.length ≤ 900000,
 Ch (bentS_h t1.L ((spkT t1.L t1.p).2) t2 h1) [1] 67
 (Nf (answ_n3 t raw wants peer epoch t0 t1 t2 (0,(bentS t1.L ((spkT t1.L t1.p).2) t2).2)) [1] (I3 t0 t1 t2 (0,(bentS t1.L ((spkT t1.L t1.p).2) t2).2)) ∧ ∀ t3:Int × Nat,I3 t0 t1 t2 t3 →
 br (decide (t3.1 < 3))
 (Rf (α:=List AV) [.agg [.int raw.router,.int raw.epoch,.int raw.last,.sl 4 (raw.items.map Itm.v) false,.sl 3 (raw.peers.map Per.v) false],.agg [.int t2.router,.int t2.epoch,.int t2.last,.sl 4 (t2.items.map Itm.v) false,.sl 3 (t2.peers.map Per.v) false],.agg [.int (((bentS t1.L ((spkT t1.L t1.p).2) t2).1).router),.int (((bentS t1.L ((spkT t1.L t1.p).2) t2).1).epoch),.int (((bentS t1.L ((spkT t1.L t1.p).2) t2).1).last),.sl 4 ((((bentS t1.L ((spkT t1.L t1.p).2) t2).1).items).map Itm.v) false,.sl 3 ((((bentS t1.L ((spkT t1.L t1.p).2) t2).1).peers).map Per.v) false]] (ck (decide (0 ≤ t3.1)) (ck (decide (t3.1 < ([raw,t2,(bentS t1.L ((spkT t1.L t1.p).2) t2).1].length:Int)))
 (∀ x2,[raw,t2,(bentS t1.L ((spkT t1.L t1.p).2) t2).1][t3.1.toNat]? = some x2 →
 (Cl (valS_c x2)
 (Cl (valR6_c x2)
 (br ((valS x2) != (valS x2))
 (Nf (answ_n4 t raw wants peer epoch t0 t1 t2 t3 x2 (true)) [0,49] (I4 t0 t1 t2 t3 x2 ((true):Bool)))
 (Cl (wantsF_c x2.items)
 (Cl (wantsR_c x2.items)
 (Cl (sameW_c (wantsOf x2.items) (wantsOf x2.items))
 (Nf (answ_n4 t raw wants peer epoch t0 t1 t2 t3 x2 (!(decide ((wantsOf x2.items) = (wantsOf x2.items))))) [0,49] (I4 t0 t1 t2 t3 x2 ((!(decide ((wantsOf x2.items) = (wantsOf x2.items)))):Bool))))))))) ∧ ∀ t4:Bool,I4 t0 t1 t2 t3 x2 t4 →
 br t4
 (Rf (answ_e (false)) ((false) = r0))
 (Ch (wantsT_h t1.L t3.2) [0] 34
 (Ch (chgT_h t1.L ((wantsT t1.L t3.2).2)) [0] 66
 (Nf (answ_n5 t raw wants peer epoch t0 t1 t2 t3 x2 t4 (0)) [0,1] (I5 t0 t1 t2 t3 x2 t4 (0)) ∧ ∀ t5:Int,I5 t0 t1 t2 t3 x2 t4 t5 →
 br (decide (t5 < 3))
 (Rf (α:=List AV) [.sl 3 (wants.map Wnt.v) false,.sl 3 (((wantsT t1.L t3.2).1).map Wnt.v) false,.sl 3 (((chgT t1.L ((wantsT t1.L t3.2).2)).1).map Wnt.v) false] (ck (decide (0 ≤ t5)) (ck (decide (t5 < ([wants,(wantsT t1.L t3.2).1,(chgT t1.L ((wantsT t1.L t3.2).2)).1].length:Int)))
 (∀ x3,[wants,(wantsT t1.L t3.2).1,(chgT t1.L ((wantsT t1.L t3.2).2)).1][t5.toNat]? = some x3 →
 (Cl (change_c x2 x3)
 (Nf (answ_n6 t raw wants peer epoch t0 t1 t2 t3 x2 t4 t5 x3 ((change x2 x3).2,(change x2 x3).1)) [0,1,162] ((((change x2 x3).2,(change x2 x3).1):Int × Spk) = (((change x2 x3).2,(change x2 x3).1):Int × Spk)))) ∧ ∀ t6:Int × Spk,t6 = (((change x2 x3).2,(change x2 x3).1):Int × Spk) →
 (Cl (changeR_c x2 x3)
 (Nf (answ_n7 t raw wants peer epoch t0 t1 t2 t3 x2 t4 t5 x3 t6 ((change x2 x3).2,(change x2 x3).1)) [0,1,2,99] ((((change x2 x3).2,(change x2 x3).1):Int × Spk) = (((change x2 x3).2,(change x2 x3).1):Int × Spk)))) ∧ ∀ t7:Int × Spk,t7 = (((change x2 x3).2,(change x2 x3).1):Int × Spk) →
 (Cl (restart_c x2 x3)
 (Nf (answ_n8 t raw wants peer epoch t0 t1 t2 t3 x2 t4 t5 x3 t6 t7 ((restart x2 x3).2,(restart x2 x3).1)) [0,1,2,3,100] ((((restart x2 x3).2,(restart x2 x3).1):Int × Spk) = (((restart x2 x3).2,(restart x2 x3).1):Int × Spk)))) ∧ ∀ t8:Int × Spk,t8 = (((restart x2 x3).2,(restart x2 x3).1):Int × Spk) →
 (Cl (restartR_c x2 x3)
 (Nf (answ_n9 t raw wants peer epoch t0 t1 t2 t3 x2 t4 t5 x3 t6 t7 t8 ((restart x2 x3).2,(restart x2 x3).1)) [0,1,2,3,4,101] ((((restart x2 x3).2,(restart x2 x3).1):Int × Spk) = (((restart x2 x3).2,(restart x2 x3).1):Int × Spk)))) ∧ ∀ t9:Int × Spk,t9 = (((restart x2 x3).2,(restart x2 x3).1):Int × Spk) →
 (br (t6.1 != t7.1)
 (Nf (answ_n10 t raw wants peer epoch t0 t1 t2 t3 x2 t4 t5 x3 t6 t7 t8 t9 (true)) [0,1] (I10 t0 t1 t2 t3 x2 t4 t5 x3 t6 t7 t8 t9 ((true):Bool)))
 (br (t8.1 != t9.1)
 (Nf (answ_n10 t raw wants peer epoch t0 t1 t2 t3 x2 t4 t5 x3 t6 t7 t8 t9 (true)) [0,1] (I10 t0 t1 t2 t3 x2 t4 t5 x3 t6 t7 t8 t9 ((true):Bool)))
 (Cl (sameS_c t6.2 t7.2)
 (br (!(decide (t6.2 = t7.2)))
 (Nf (answ_n10 t raw wants peer epoch t0 t1 t2 t3 x2 t4 t5 x3 t6 t7 t8 t9 (true)) [0,1] (I10 t0 t1 t2 t3 x2 t4 t5 x3 t6 t7 t8 t9 ((true):Bool)))
 (Cl (sameS_c t8.2 t9.2)
 (Nf (answ_n10 t raw wants peer epoch t0 t1 t2 t3 x2 t4 t5 x3 t6 t7 t8 t9 (!(decide (t8.2 = t9.2)))) [0,1] (I10 t0 t1 t2 t3 x2 t4 t5 x3 t6 t7 t8 t9 ((!(decide (t8.2 = t9.2))):Bool)))))))) ∧ ∀ t10:Bool,I10 t0 t1 t2 t3 x2 t4 t5 x3 t6 t7 t8 t9 t10 →
 br t10
 (Rf (answ_e (false)) ((false) = r0))
 (Nf (answ_n5 t raw wants peer epoch t0 t1 t2 t3 x2 t4 (W (t5 + 1))) [0,1] (I5 t0 t1 t2 t3 x2 t4 (W (t5 + 1)) ∧ m5 t0 t1 t2 t3 x2 t4 (W (t5 + 1)) < m5 t0 t1 t2 t3 x2 t4 t5))))))
 (Ch (Range_h t1.L ((chgT t1.L ((wantsT t1.L t3.2).2)).2) 6 9) [0] 50
 (Nf (answ_n11 t raw wants peer epoch t0 t1 t2 t3 x2 t4 t5 (0)) [0,1] (I11 t0 t1 t2 t3 x2 t4 t5 (0)) ∧ ∀ t11:Int,I11 t0 t1 t2 t3 x2 t4 t5 t11 →
 br (decide (t11 < 2))
 (Rf (α:=List AV) [.int peer,.int (rng t1.L ((chgT t1.L ((wantsT t1.L t3.2).2)).2) 6 9)] (ck (decide (0 ≤ t11)) (ck (decide (t11 < ([peer,rng t1.L ((chgT t1.L ((wantsT t1.L t3.2).2)).2) 6 9].length:Int)))
 (∀ x4,[peer,rng t1.L ((chgT t1.L ((wantsT t1.L t3.2).2)).2) 6 9][t11.toNat]? = some x4 →
 (Cl (send_c x2 x4)
 (Nf (answ_n12 t raw wants peer epoch t0 t1 t2 t3 x2 t4 t5 t11 x4 ((send x2 x4).1,(send x2 x4).2)) [0,1] ((((send x2 x4).1,(send x2 x4).2):(List Sig) × Int) = (((send x2 x4).1,(send x2 x4).2):(List Sig) × Int)))) ∧ ∀ t12:(List Sig) × Int,t12 = (((send x2 x4).1,(send x2 x4).2):(List Sig) × Int) →
 (Cl (sendR_c x2 x4)
 (Nf (answ_n13 t raw wants peer epoch t0 t1 t2 t3 x2 t4 t5 t11 x4 t12 ((send x2 x4).1,(send x2 x4).2)) [0,1] ((((send x2 x4).1,(send x2 x4).2):(List Sig) × Int) = (((send x2 x4).1,(send x2 x4).2):(List Sig) × Int)))) ∧ ∀ t13:(List Sig) × Int,t13 = (((send x2 x4).1,(send x2 x4).2):(List Sig) × Int) →
 (br (t12.2 != t13.2)
 (Nf (answ_n14 t raw wants peer epoch t0 t1 t2 t3 x2 t4 t5 t11 x4 t12 t13 (true)) [0,1] (I14 t0 t1 t2 t3 x2 t4 t5 t11 x4 t12 t13 ((true):Bool)))
 (Cl (sameGA_c t12.1 t13.1)
 (Nf (answ_n14 t raw wants peer epoch t0 t1 t2 t3 x2 t4 t5 t11 x4 t12 t13 (!(decide (t12.1 = t13.1)))) [0,1] (I14 t0 t1 t2 t3 x2 t4 t5 t11 x4 t12 t13 ((!(decide (t12.1 = t13.1))):Bool))))) ∧ ∀ t14:Bool,I14 t0 t1 t2 t3 x2 t4 t5 t11 x4 t12 t13 t14 →
 br t14
 (Rf (answ_e (false)) ((false) = r0))
 (Nf (answ_n11 t raw wants peer epoch t0 t1 t2 t3 x2 t4 t5 (W (t11 + 1))) [0,1] (I11 t0 t1 t2 t3 x2 t4 t5 (W (t11 + 1)) ∧ m11 t0 t1 t2 t3 x2 t4 t5 (W (t11 + 1)) < m11 t0 t1 t2 t3 x2 t4 t5 t11))))))
 (Nf (answ_n3 t raw wants peer epoch t0 t1 t2 (W (t3.1 + 1),rawP t1.L ((chgT t1.L ((wantsT t1.L t3.2).2)).2))) [0] (I3 t0 t1 t2 (W (t3.1 + 1),rawP t1.L ((chgT t1.L ((wantsT t1.L t3.2).2)).2)) ∧ m3 t0 t1 t2 (W (t3.1 + 1),rawP t1.L ((chgT t1.L ((wantsT t1.L t3.2).2)).2)) < m3 t0 t1 t2 t3)))))))))))
 (Rf (α:=List AV) (t.map AV.int) (ck (bndB t.length 0 (minI ((t.map AV.int).length:Int) 14) (t.length:Int))
 (Nf (answ_n15 t raw wants peer epoch t0 t1 t2 t3 (0,t3.2)) [0] (I15 t0 t1 t2 t3 (0,t3.2)) ∧ ∀ t15:Int × Nat,I15 t0 t1 t2 t3 t15 →
 br (decide (t15.1 < 6))
 (Rf (α:=List AV) [.sl 1 ([7,8].map AV.int) false,.sl 1 ([peer].map AV.int) false,.sl 1 ([8,7].map AV.int) false,.sl 1 ([1,1].map AV.int) false,.sl 1 ([].map AV.int) false,.sl 1 (((t.take ((minI ((t.map AV.int).length:Int) 14).toNat)).drop 0).map AV.int) false] (ck (decide (0 ≤ t15.1)) (ck (decide (t15.1 < ([[7,8],[peer],[8,7],[1,1],[],(t.take ((minI ((t.map AV.int).length:Int) 14).toNat)).drop 0].length:Int)))
 (∀ x5,[[7,8],[peer],[8,7],[1,1],[],(t.take ((minI ((t.map AV.int).length:Int) 14).toNat)).drop 0][t15.1.toNat]? = some x5 →
 Nf (answ_n16 t raw wants peer epoch t0 t1 t2 t3 t15 x5 (0,t15.2)) [0] (I16 t0 t1 t2 t3 t15 x5 (0,t15.2)) ∧ ∀ t16:Int × Nat,I16 t0 t1 t2 t3 t15 x5 t16 →
 br (decide (t16.1 < 2))
 (Rf (α:=List AV) [.int epoch,.int 1] (ck (decide (0 ≤ t16.1)) (ck (decide (t16.1 < ([epoch,1].length:Int)))
 (∀ x6,[epoch,1][t16.1.toNat]? = some x6 →
 (Ch (Range_h t1.L t16.2 0 2) [0] 81
 (Nf (answ_n17 t raw wants peer epoch t0 t1 t2 t3 t15 x5 t16 x6 (rng t1.L t16.2 0 2)) [0] (((rng t1.L t16.2 0 2):Int) = ((rng t1.L t16.2 0 2):Int)))) ∧ ∀ t17:Int,t17 = ((rng t1.L t16.2 0 2):Int) →
 (∃ h7:x5.length ≤ 1000000,
 Cl (new_c t17 x6 x5 h7)
 (Nf (answ_n18 t raw wants peer epoch t0 t1 t2 t3 t15 x5 t16 x6 t17 ((new t17 x6 x5).2,(new t17 x6 x5).1)) [0,113] ((((new t17 x6 x5).2,(new t17 x6 x5).1):Int × Spk) = (((new t17 x6 x5).2,(new t17 x6 x5).1):Int × Spk)))) ∧ ∀ t18:Int × Spk,t18 = (((new t17 x6 x5).2,(new t17 x6 x5).1):Int × Spk) →
 (Cl (newR_c t17 x6 x5)
 (Nf (answ_n19 t raw wants peer epoch t0 t1 t2 t3 t15 x5 t16 x6 t17 t18 ((new t17 x6 x5).2,(new t17 x6 x5).1)) [0,1,114] ((((new t17 x6 x5).2,(new t17 x6 x5).1):Int × Spk) = (((new t17 x6 x5).2,(new t17 x6 x5).1):Int × Spk)))) ∧ ∀ t19:Int × Spk,t19 = (((new t17 x6 x5).2,(new t17 x6 x5).1):Int × Spk) →
 (br (t18.1 != t19.1)
 (Nf (answ_n20 t raw wants peer epoch t0 t1 t2 t3 t15 x5 t16 x6 t17 t18 t19 (true)) [0] (I20 t0 t1 t2 t3 t15 x5 t16 x6 t17 t18 t19 ((true):Bool)))
 (Cl (sameS_c t18.2 t19.2)
 (Nf (answ_n20 t raw wants peer epoch t0 t1 t2 t3 t15 x5 t16 x6 t17 t18 t19 (!(decide (t18.2 = t19.2)))) [0] (I20 t0 t1 t2 t3 t15 x5 t16 x6 t17 t18 t19 ((!(decide (t18.2 = t19.2))):Bool))))) ∧ ∀ t20:Bool,I20 t0 t1 t2 t3 t15 x5 t16 x6 t17 t18 t19 t20 →
 br t20
 (Rf (answ_e (false)) ((false) = r0))
 (Nf (answ_n16 t raw wants peer epoch t0 t1 t2 t3 t15 x5 (W (t16.1 + 1),rawP t1.L t16.2)) [0] (I16 t0 t1 t2 t3 t15 x5 (W (t16.1 + 1),rawP t1.L t16.2) ∧ m16 t0 t1 t2 t3 t15 x5 (W (t16.1 + 1),rawP t1.L t16.2) < m16 t0 t1 t2 t3 t15 x5 t16))))))
 (Nf (answ_n15 t raw wants peer epoch t0 t1 t2 t3 (W (t15.1 + 1),t16.2)) [0] (I15 t0 t1 t2 t3 (W (t15.1 + 1),t16.2) ∧ m15 t0 t1 t2 t3 (W (t15.1 + 1),t16.2) < m15 t0 t1 t2 t3 t15))))))
 (Cl (awake_c )
 (Rf (answ_e (true)) ((true) = r0))))))))
theorem answ_eq (t:(List Int)) (raw:Spk) (wants:(List Wnt)) (peer:Int) (epoch:Int) (I0:Bool → Prop) (I3:Bool → Tap → Spk → (Int × Nat) → Prop) (m3:Bool → Tap → Spk → (Int × Nat) → Nat) (I4:Bool → Tap → Spk → Int × Nat → Spk → Bool → Prop) (I5:Bool → Tap → Spk → Int × Nat → Spk → Bool → Int → Prop) (m5:Bool → Tap → Spk → Int × Nat → Spk → Bool → Int → Nat) (I10:Bool → Tap → Spk → Int × Nat → Spk → Bool → Int → (List Wnt) → Int × Spk → Int × Spk → Int × Spk → Int × Spk → Bool → Prop) (I11:Bool → Tap → Spk → Int × Nat → Spk → Bool → Int → Int → Prop) (m11:Bool → Tap → Spk → Int × Nat → Spk → Bool → Int → Int → Nat) (I14:Bool → Tap → Spk → Int × Nat → Spk → Bool → Int → Int → Int → (List Sig) × Int → (List Sig) × Int → Bool → Prop) (I15:Bool → Tap → Spk → Int × Nat → (Int × Nat) → Prop) (m15:Bool → Tap → Spk → Int × Nat → (Int × Nat) → Nat) (I16:Bool → Tap → Spk → Int × Nat → Int × Nat → (List Int) → (Int × Nat) → Prop) (m16:Bool → Tap → Spk → Int × Nat → Int × Nat → (List Int) → (Int × Nat) → Nat) (I20:Bool → Tap → Spk → Int × Nat → Int × Nat → (List Int) → Int × Nat → Int → Int → Int × Spk → Int × Spk → Bool → Prop) (r0:Bool):mxP Tryz.prog 3 [.sl 1 (t.map AV.int) false,.agg [.int raw.router,.int raw.epoch,.int raw.last,.sl 4 (raw.items.map Itm.v) false,.sl 3 (raw.peers.map Per.v) false],.sl 3 (wants.map Wnt.v) false,.int peer,.int epoch] .k answ_e ((.pass (.pass (.join 0 (answ_n0 t raw wants peer epoch) (fun t0=>I0 t0) (.callP (smallS_c raw)
 (.br 96 (.back 0 ((true):Bool) [0])
 (.back 0 ((decide (60 < ((wants.map Wnt.v).length:Int))):Bool) [0]))) fun (t0:Bool) =>
 (.br 1 (.callP (awake_c )
 (.ret (true)))
 (.join 1 (answ_n1 t raw wants peer epoch t0) (fun t1=>t1 = (((⟨t.take 2000,0⟩:Tap)):Tap)) (.callH [] (New_h t)
 (.back 1 (((⟨t.take 2000,0⟩:Tap)):Tap) [0,17])) fun (t1:Tap) =>
 (.join 2 (answ_n2 t raw wants peer epoch t0 t1) (fun t2=>t2 = (((spkT t1.L t1.p).1):Spk)) (.callH [1] (spkT_h t1.L t1.p)
 (.back 2 (((spkT t1.L t1.p).1):Spk) [0,1,34])) fun (t2:Spk) =>
 (.req 67 (t2.items.length ≤ 900000 ∧ t2.peers.length ≤ 900000) fun h1 =>
 (.callH [1] (bentS_h t1.L ((spkT t1.L t1.p).2) t2 h1)
 (.loop 3 (answ_n3 t raw wants peer epoch t0 t1 t2) (I3 t0 t1 t2) (m3 t0 t1 t2) ((0,(bentS t1.L ((spkT t1.L t1.p).2) t2).2):Int × Nat) [1] fun (t3:Int × Nat) =>
 (.br 17 (.el 17 Spk.v [raw,t2,(bentS t1.L ((spkT t1.L t1.p).2) t2).1] fun x2 =>
 (.pass (.join 4 (answ_n4 t raw wants peer epoch t0 t1 t2 t3 x2) (fun t4=>I4 t0 t1 t2 t3 x2 t4) (.callP (valS_c x2)
 (.callP (valR6_c x2)
 (.br 177 (.back 4 ((true):Bool) [0,49])
 (.callP (wantsF_c x2.items)
 (.callP (wantsR_c x2.items)
 (.callP (sameW_c (wantsOf x2.items) (wantsOf x2.items))
 (.back 4 ((!(decide ((wantsOf x2.items) = (wantsOf x2.items)))):Bool) [0,49]))))))) fun (t4:Bool) =>
 (.br 2 (.ret (false))
 (.callH [0] (wantsT_h t1.L t3.2)
 (.callH [0] (chgT_h t1.L ((wantsT t1.L t3.2).2))
 (.loop 5 (answ_n5 t raw wants peer epoch t0 t1 t2 t3 x2 t4) (I5 t0 t1 t2 t3 x2 t4) (m5 t0 t1 t2 t3 x2 t4) ((0):Int) [0,1] fun (t5:Int) =>
 (.br 18 (.el 18 (fun l=>AV.sl 3 (l.map Wnt.v) false) [wants,(wantsT t1.L t3.2).1,(chgT t1.L ((wantsT t1.L t3.2).2)).1] fun x3 =>
 (.join 6 (answ_n6 t raw wants peer epoch t0 t1 t2 t3 x2 t4 t5 x3) (fun t6=>t6 = (((change x2 x3).2,(change x2 x3).1):Int × Spk)) (.callP (change_c x2 x3)
 (.back 6 (((change x2 x3).2,(change x2 x3).1):Int × Spk) [0,1,162])) fun (t6:Int × Spk) =>
 (.join 7 (answ_n7 t raw wants peer epoch t0 t1 t2 t3 x2 t4 t5 x3 t6) (fun t7=>t7 = (((change x2 x3).2,(change x2 x3).1):Int × Spk)) (.callP (changeR_c x2 x3)
 (.back 7 (((change x2 x3).2,(change x2 x3).1):Int × Spk) [0,1,2,99])) fun (t7:Int × Spk) =>
 (.join 8 (answ_n8 t raw wants peer epoch t0 t1 t2 t3 x2 t4 t5 x3 t6 t7) (fun t8=>t8 = (((restart x2 x3).2,(restart x2 x3).1):Int × Spk)) (.callP (restart_c x2 x3)
 (.back 8 (((restart x2 x3).2,(restart x2 x3).1):Int × Spk) [0,1,2,3,100])) fun (t8:Int × Spk) =>
 (.join 9 (answ_n9 t raw wants peer epoch t0 t1 t2 t3 x2 t4 t5 x3 t6 t7 t8) (fun t9=>t9 = (((restart x2 x3).2,(restart x2 x3).1):Int × Spk)) (.callP (restartR_c x2 x3)
 (.back 9 (((restart x2 x3).2,(restart x2 x3).1):Int × Spk) [0,1,2,3,4,101])) fun (t9:Int × Spk) =>
 (.join 10 (answ_n10 t raw wants peer epoch t0 t1 t2 t3 x2 t4 t5 x3 t6 t7 t8 t9) (fun t10=>I10 t0 t1 t2 t3 x2 t4 t5 x3 t6 t7 t8 t9 t10) (.br 70 (.back 10 ((true):Bool) [0,1])
 (.br 150 (.back 10 ((true):Bool) [0,1])
 (.callP (sameS_c t6.2 t7.2)
 (.br 246 (.back 10 ((true):Bool) [0,1])
 (.callP (sameS_c t8.2 t9.2)
 (.back 10 ((!(decide (t8.2 = t9.2))):Bool) [0,1])))))) fun (t10:Bool) =>
 (.br 2 (.ret (false))
 (.back 5 ((W (t5 + 1)):Int) [0,1]))))))))
 (.callH [0] (Range_h t1.L ((chgT t1.L ((wantsT t1.L t3.2).2)).2) 6 9)
 (.loop 11 (answ_n11 t raw wants peer epoch t0 t1 t2 t3 x2 t4 t5) (I11 t0 t1 t2 t3 x2 t4 t5) (m11 t0 t1 t2 t3 x2 t4 t5) ((0):Int) [0,1] fun (t11:Int) =>
 (.br 18 (.el 18 AV.int [peer,rng t1.L ((chgT t1.L ((wantsT t1.L t3.2).2)).2) 6 9] fun x4 =>
 (.join 12 (answ_n12 t raw wants peer epoch t0 t1 t2 t3 x2 t4 t5 t11 x4) (fun t12=>t12 = (((send x2 x4).1,(send x2 x4).2):(List Sig) × Int)) (.callP (send_c x2 x4)
 (.back 12 (((send x2 x4).1,(send x2 x4).2):(List Sig) × Int) [0,1])) fun (t12:(List Sig) × Int) =>
 (.join 13 (answ_n13 t raw wants peer epoch t0 t1 t2 t3 x2 t4 t5 t11 x4 t12) (fun t13=>t13 = (((send x2 x4).1,(send x2 x4).2):(List Sig) × Int)) (.callP (sendR_c x2 x4)
 (.back 13 (((send x2 x4).1,(send x2 x4).2):(List Sig) × Int) [0,1])) fun (t13:(List Sig) × Int) =>
 (.join 14 (answ_n14 t raw wants peer epoch t0 t1 t2 t3 x2 t4 t5 t11 x4 t12 t13) (fun t14=>I14 t0 t1 t2 t3 x2 t4 t5 t11 x4 t12 t13 t14) (.br 66 (.back 14 ((true):Bool) [0,1])
 (.callP (sameGA_c t12.1 t13.1)
 (.back 14 ((!(decide (t12.1 = t13.1))):Bool) [0,1]))) fun (t14:Bool) =>
 (.br 2 (.ret (false))
 (.back 11 ((W (t11 + 1)):Int) [0,1]))))))
 (.back 3 ((W (t3.1 + 1),rawP t1.L ((chgT t1.L ((wantsT t1.L t3.2).2)).2)):Int × Nat) [0]))))))))))))
 (.sub 161 AV.int t false
 (.cmdL (.wkT 177 (.v (.s 1))) (.loop 15 (answ_n15 t raw wants peer epoch t0 t1 t2 t3) (I15 t0 t1 t2 t3) (m15 t0 t1 t2 t3) ((0,t3.2):Int × Nat) [0] fun (t15:Int × Nat) =>
 (.br 17 (.el 17 (fun l=>AV.sl 1 (l.map AV.int) false) [[7,8],[peer],[8,7],[1,1],[],(t.take ((minI ((t.map AV.int).length:Int) 14).toNat)).drop 0] fun x5 =>
 (.loop 16 (answ_n16 t raw wants peer epoch t0 t1 t2 t3 t15 x5) (I16 t0 t1 t2 t3 t15 x5) (m16 t0 t1 t2 t3 t15 x5) ((0,t15.2):Int × Nat) [0] fun (t16:Int × Nat) =>
 (.br 17 (.el 17 AV.int [epoch,1] fun x6 =>
 (.join 17 (answ_n17 t raw wants peer epoch t0 t1 t2 t3 t15 x5 t16 x6) (fun t17=>t17 = ((rng t1.L t16.2 0 2):Int)) (.callH [0] (Range_h t1.L t16.2 0 2)
 (.back 17 ((rng t1.L t16.2 0 2):Int) [0])) fun (t17:Int) =>
 (.join 18 (answ_n18 t raw wants peer epoch t0 t1 t2 t3 t15 x5 t16 x6 t17) (fun t18=>t18 = (((new t17 x6 x5).2,(new t17 x6 x5).1):Int × Spk)) (.req 49 (x5.length ≤ 1000000) fun h7 =>
 (.callP (new_c t17 x6 x5 h7)
 (.back 18 (((new t17 x6 x5).2,(new t17 x6 x5).1):Int × Spk) [0,113]))) fun (t18:Int × Spk) =>
 (.join 19 (answ_n19 t raw wants peer epoch t0 t1 t2 t3 t15 x5 t16 x6 t17 t18) (fun t19=>t19 = (((new t17 x6 x5).2,(new t17 x6 x5).1):Int × Spk)) (.callP (newR_c t17 x6 x5)
 (.back 19 (((new t17 x6 x5).2,(new t17 x6 x5).1):Int × Spk) [0,1,114])) fun (t19:Int × Spk) =>
 (.join 20 (answ_n20 t raw wants peer epoch t0 t1 t2 t3 t15 x5 t16 x6 t17 t18 t19) (fun t20=>I20 t0 t1 t2 t3 t15 x5 t16 x6 t17 t18 t19 t20) (.br 67 (.back 20 ((true):Bool) [0])
 (.callP (sameS_c t18.2 t19.2)
 (.back 20 ((!(decide (t18.2 = t19.2))):Bool) [0]))) fun (t20:Bool) =>
 (.br 1 (.ret (false))
 (.back 16 ((W (t16.1 + 1),rawP t1.L t16.2):Int × Nat) [0])))))))
 (.back 15 ((W (t15.1 + 1),t16.2):Int × Nat) [0]))))
 (.callP (awake_c )
 (.ret (true))))))))))))))))):An Tryz.prog answ_s (Bool)) r0 = answ_vc t raw wants peer epoch I0 I3 m3 I4 I5 m5 I10 I11 m11 I14 I15 m15 I16 m16 I20 r0:=by kernel_rfl
theorem answ_ok (t:(List Int)) (raw:Spk) (wants:(List Wnt)) (peer:Int) (epoch:Int) (I0:Bool → Prop) (I3:Bool → Tap → Spk → (Int × Nat) → Prop) (m3:Bool → Tap → Spk → (Int × Nat) → Nat) (I4:Bool → Tap → Spk → Int × Nat → Spk → Bool → Prop) (I5:Bool → Tap → Spk → Int × Nat → Spk → Bool → Int → Prop) (m5:Bool → Tap → Spk → Int × Nat → Spk → Bool → Int → Nat) (I10:Bool → Tap → Spk → Int × Nat → Spk → Bool → Int → (List Wnt) → Int × Spk → Int × Spk → Int × Spk → Int × Spk → Bool → Prop) (I11:Bool → Tap → Spk → Int × Nat → Spk → Bool → Int → Int → Prop) (m11:Bool → Tap → Spk → Int × Nat → Spk → Bool → Int → Int → Nat) (I14:Bool → Tap → Spk → Int × Nat → Spk → Bool → Int → Int → Int → (List Sig) × Int → (List Sig) × Int → Bool → Prop) (I15:Bool → Tap → Spk → Int × Nat → (Int × Nat) → Prop) (m15:Bool → Tap → Spk → Int × Nat → (Int × Nat) → Nat) (I16:Bool → Tap → Spk → Int × Nat → Int × Nat → (List Int) → (Int × Nat) → Prop) (m16:Bool → Tap → Spk → Int × Nat → Int × Nat → (List Int) → (Int × Nat) → Nat) (I20:Bool → Tap → Spk → Int × Nat → Int × Nat → (List Int) → Int × Nat → Int → Int → Int × Spk → Int × Spk → Bool → Prop) (r0:Bool) (h:answ_vc t raw wants peer epoch I0 I3 m3 I4 I5 m5 I10 I11 m11 I14 I15 m15 I16 m16 I20 r0):PSpec Tryz.prog 3 [.sl 1 (t.map AV.int) false,.agg [.int raw.router,.int raw.epoch,.int raw.last,.sl 4 (raw.items.map Itm.v) false,.sl 3 (raw.peers.map Per.v) false],.sl 3 (wants.map Wnt.v) false,.int peer,.int epoch] (answ_e r0):=by
  have e:=answ_eq t raw wants peer epoch I0 I3 m3 I4 I5 m5 I10 I11 m11 I14 I15 m15 I16 m16 I20 r0
  rw [← e] at h
  exact mxP_ok (enc:=answ_e) h (AV.pureB_ok rfl)
theorem answ_p (t:List Int) (raw:Spk) (wants:List Wnt) (peer epoch:Int) (ok:answ_a t raw wants peer epoch) :
    ∃ I0 I3 m3 I4 I5 m5 I10 I11 m11 I14 I15 m15 I16 m16 I20,answ_vc t raw wants peer epoch I0 I3 m3 I4 I5 m5 I10 I11 m11 I14 I15 m15 I16 m16 I20 true:=by
  refine ⟨fun _=>True,fun _ _ _ t=>∃ k:Nat,t.1 = k ∧ k ≤ 3,fun _ _ _ t=>3 - t.1.toNat,fun _ _ _ _ _ x=>x = false,
    fun _ _ _ _ _ _ t=>∃ k:Nat,t = k ∧ k ≤ 3,fun _ _ _ _ _ _ t=>3 - t.toNat,fun _ _ _ _ _ _ _ _ _ _ _ _ x=>x = false,
    fun _ _ _ _ _ _ _ t=>∃ k:Nat,t = k ∧ k ≤ 2,fun _ _ _ _ _ _ _ t=>2 - t.toNat,fun _ _ _ _ _ _ _ _ _ _ _ x=>x = false,
    fun _ _ _ _ t=>∃ k:Nat,t.1 = k ∧ k ≤ 6,fun _ _ _ _ t=>6 - t.1.toNat,
    fun _ _ _ _ _ _ t=>∃ k:Nat,t.1 = k ∧ k ≤ 2,fun _ _ _ _ _ _ t=>2 - t.1.toNat,fun _ _ _ _ _ _ _ _ _ _ _ x=>x = false,?_⟩
  have ha:=spkT_k (L:=t.take 2000) (p:=0)
  simp only [answ_vc,vcU,rfU,List.length_map]
  refine ⟨⟨fun _=>trivial,fun _=>trivial⟩,?_⟩
  rintro t0 -
  refine ⟨fun _=>trivial,fun _=>⟨trivial,?_⟩⟩
  intro t1 h1
  refine ⟨trivial,?_⟩
  intro t2 h2
  have ha:spkOk t2:=by rw [h2,h1]; exact ha
  have hal:=itms_len ha.2.2.2.1
  have hpl:t2.peers.length ≤ 12:=ha.2.2.2.2.1
  generalize bentS t1.L (spkT t1.L t1.p).2 t2 = B at *
  clear h1 h2
  refine ⟨⟨by omega,by omega⟩,⟨0,rfl,by omega⟩,?_⟩
  rintro ⟨i,q⟩ ⟨k,hi,hk⟩
  simp only at hi
  subst hi
  simp only [Int.toNat_natCast]
  refine ⟨fun c1=>⟨by omega,by simp; omega,fun x _=>⟨⟨fun e=>by simp at e,fun _=>by simp⟩,?_⟩⟩,fun c1=>?_⟩
  · rintro _ rfl
    refine ⟨fun e=>by simp at e,fun _=>⟨⟨0,rfl,by omega⟩,?_⟩⟩
    rintro _ ⟨m,rfl,hm⟩
    simp only [Int.toNat_natCast]
    refine ⟨fun c2=>⟨by omega,by simp; omega,fun w _=>⟨trivial,?_⟩⟩,fun c2=>⟨⟨0,rfl,by omega⟩,?_⟩⟩
    · rintro _ rfl
      refine ⟨trivial,?_⟩
      rintro _ rfl
      refine ⟨trivial,?_⟩
      rintro _ rfl
      refine ⟨trivial,?_⟩
      rintro _ rfl
      refine ⟨by simp,?_⟩
      rintro _ rfl
      refine ⟨fun e=>by simp at e,fun _=>?_⟩
      rw [W_succ (n:=3) (by omega) (by omega)]
      exact ⟨⟨m + 1,rfl,by omega⟩,by omega⟩
    · rintro _ ⟨n,rfl,hn⟩
      simp only [Int.toNat_natCast]
      refine ⟨fun c3=>⟨by omega,by simp; omega,fun z _=>⟨trivial,?_⟩⟩,fun c3=>?_⟩
      · rintro _ rfl
        refine ⟨trivial,?_⟩
        rintro _ rfl
        refine ⟨by simp,?_⟩
        rintro _ rfl
        refine ⟨fun e=>by simp at e,fun _=>?_⟩
        rw [W_succ (n:=2) (by omega) (by omega)]
        exact ⟨⟨n + 1,rfl,by omega⟩,by omega⟩
      · rw [W_succ (n:=3) (by omega) (by omega)]
        exact ⟨⟨k + 1,rfl,by omega⟩,by omega⟩
  · have hm:minI (t.length:Int) 14 = ((min t.length 14:Nat):Int):=by unfold minI; split <;> omega
    rw [hm,Int.toNat_natCast]
    refine ⟨by simp [bndB]; omega,⟨0,rfl,by omega⟩,?_⟩
    rintro ⟨j,q2⟩ ⟨m,hj,hm⟩
    simp only at hj
    subst hj
    simp only [Int.toNat_natCast]
    refine ⟨fun c2=>⟨by omega,by simp; omega,fun x hx=>⟨⟨0,rfl,by omega⟩,?_⟩⟩,fun _=>trivial⟩
    have hxl:x.length ≤ 1000000:=by
      have:=mem_of_get hx
      simp only [List.mem_cons,List.not_mem_nil,or_false] at this
      rcases this with rfl | rfl | rfl | rfl | rfl | rfl <;> simp <;> omega
    rintro ⟨j,q3⟩ ⟨n,hj,hn⟩
    simp only at hj
    subst hj
    simp only [Int.toNat_natCast]
    refine ⟨fun c3=>⟨by omega,by simp; omega,fun y _=>⟨trivial,?_⟩⟩,fun c3=>?_⟩
    · rintro r _
      refine ⟨⟨hxl,trivial⟩,?_⟩
      rintro _ rfl
      refine ⟨trivial,?_⟩
      rintro _ rfl
      refine ⟨by simp,?_⟩
      rintro _ rfl
      refine ⟨fun e=>by simp at e,fun _=>?_⟩
      rw [W_succ (n:=2) (by omega) (by omega)]
      exact ⟨⟨n + 1,rfl,by omega⟩,by omega⟩
    · rw [W_succ (n:=6) (by omega) (by omega)]
      exact ⟨⟨m + 1,rfl,by omega⟩,by omega⟩
def answ_c (t:(List Int)) (raw:Spk) (wants:(List Wnt)) (peer:Int) (epoch:Int):PC Tryz.prog:=⟨3,[(.s 1),(.a [.k,.k,.k,(.s 4),(.s 3)]),(.s 3),.k,.k],[.sl 1 (t.map AV.int) false,.agg [.int raw.router,.int raw.epoch,.int raw.last,.sl 4 (raw.items.map Itm.v) false,.sl 3 (raw.peers.map Per.v) false],.sl 3 (wants.map Wnt.v) false,.int peer,.int epoch],answ_e true,PSpec.of_ok fun ok=>(answ_p t raw wants peer epoch ok).elim fun I0 h=>h.elim fun I3 h=>h.elim fun m3 h=>h.elim fun I4 h=>h.elim fun I5 h=>h.elim fun m5 h=>h.elim fun I10 h=>h.elim fun I11 h=>h.elim fun m11 h=>h.elim fun I14 h=>h.elim fun I15 h=>h.elim fun m15 h=>h.elim fun I16 h=>h.elim fun m16 h=>h.elim fun I20 h=>answ_ok t raw wants peer epoch I0 I3 m3 I4 I5 m5 I10 I11 m11 I14 I15 m15 I16 m16 I20 _ h,fnB_ok (by kernel_rfl)⟩
end Go.Proofs.YtglfecmdoekabaaGreat
