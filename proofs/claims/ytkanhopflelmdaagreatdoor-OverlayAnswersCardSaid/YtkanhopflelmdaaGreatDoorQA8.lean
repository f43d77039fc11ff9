/- Texts joined: G34 G35 G36 G40 G41 G37 G38 G39 G42 U14 U18 U19. -/
import Derived.Test.YtkanhopflelmdaaGreatDoorQA7
set_option linter.unusedVariables false
set_option linter.unusedSimpArgs false
namespace Go.Proofs.YtkanhopflelmdaaGreatDoor
open Go Go.Am
def okArr(l:List Sig)(f:List Fau):Prop:=l.length≤500000∧f.length≤1000∧∀x∈l,x.srcs.length≤1000000
theorem ins_twice{l:List Sig}{n:Nat}{y:Sig}(hy:l[n]?=some y):insAt l (n+1) y=l.take n++[y,y]++l.drop (n+1):=by
 rw [insAt_cons,take_succ hy];simp
def arrO_a(flight:(List Sig))(faults:(List Fau)):Prop:=okL [.sl 10 (flight.map Sig.v) false,.sl 2 (faults.map Fau.v) false]
def arrO_n0(faults:(List Fau))(t0:Int×(List Sig)×(List Sig)):NF:=⟨[(4,.k,.vec 0),(5,.k,.vec 1),(11,.k,.sl 2 (faults.map Fau.v) false),(12,.k,.int ((faults.map Fau.v).length:Int)),(13,.k,.int t0.1)],[.vec 10 (t0.2.1.map Sig.v) (pureBL_map (fun _=>rfl) t0.2.1),.vec 10 (t0.2.2.map Sig.v) (pureBL_map (fun _=>rfl) t0.2.2)]⟩
def arrO_n1(faults:(List Fau))(t0:Int×(List Sig)×(List Sig))(x2:Fau)(t1:Bool):NF:=⟨[(4,.k,.vec 0),(5,.k,.vec 1),(7,.k,.ref 2 0),(11,.k,.sl 2 (faults.map Fau.v) false),(12,.k,.int ((faults.map Fau.v).length:Int)),(13,.k,.int t0.1),(26,.k,.bool t1)],[.vec 10 (t0.2.1.map Sig.v) (pureBL_map (fun _=>rfl) t0.2.1),.vec 10 (t0.2.2.map Sig.v) (pureBL_map (fun _=>rfl) t0.2.2),.box (.agg [.int x2.kind,.int x2.pos])]⟩
@[reducible] def arrO_s:Nat→Type
 | 0=>Int×(List Sig)×(List Sig)
 | 1=>Bool
 | _=>Unit
def arrO_e(r:(List Sig)×(List Sig)):AV:=.tup [.vec 0,.vec 1]
def arrO_b(r:(List Sig)×(List Sig)):List (Option Blk):=[some (.vec 10 (r.1.map Sig.v)),some (.vec 10 (r.2.map Sig.v))]
def arrO_x(flight:(List Sig))(faults:(List Fau))(I0:(Int×(List Sig)×(List Sig))→Prop)(m0:(Int×(List Sig)×(List Sig))→Nat)(I1:Int×(List Sig)×(List Sig)→Fau→Bool→Prop):Ax Tryz.prog arrO_s ((List Sig)×(List Sig)):=
 (.req 48 (okSigs flight) fun h1 =>
(.callH [] (sigsC_h flight h1) 48
(.cmdL (.nilT 5 10) (.loop 0 (arrO_n0 faults) I0 m0 (0,flight,[]) [48,128] fun (t0:Int×(List Sig)×(List Sig)) b0 =>
(.br 18 (decide (t0.1<((faults.map Fau.v).length:Int))) (.el 18 Fau.v faults (fun R=>Rf (faults.map Fau.v) (ck (decide (0≤t0.1)) (ck (decide (t0.1<(faults.length:Int)))
(∀x2,faults[t0.1.toNat]?=some x2 →
(R x2))))) fun x2 =>
(.pass (.join 1 (arrO_n1 faults t0 x2) (fun (t1:Bool)=>I1 t0 x2 t1) (fun b1=>(.br 146 (decide (x2.pos<0)) (.bk 1 b1 ((true):Bool) [0,1,50])
(.bk 1 b1 ((decide (((t0.2.1.map Sig.v).length:Int)≤x2.pos)):Bool) [0,1,50]))) fun (t1:Bool) =>
(.br 3 t1 (.bk 0 b0 (W (t0.1+1),t0.2.1,t0.2.2) [0,1])
(.say (ck (cond (decide (0≤x2.pos)) (decide (x2.pos<((t0.2.1.map Sig.v).length:Int))) false)) (.el 67 Sig.v t0.2.1 (fun R=>Rf (t0.2.1.map Sig.v) (ck (decide (x2.pos.toNat<t0.2.1.length))
(∀x3,t0.2.1[x2.pos.toNat]?=some x3 →
(R x3)))) fun x3 =>
(.br 179 (x2.kind==1) (.req 275 ((0≤x2.pos∧x2.pos<t0.2.1.length)∧(W (x2.pos+1))=x2.pos+1) fun h4 =>
(.req 275 (t0.2.1.length≤1000000) fun h5 =>
(.callH [0] (delG_h t0.2.1 x2.pos (W (x2.pos+1)) h4 h5) 275
(.bk 0 b0 (W (t0.1+1),delAt t0.2.1 (Int.toNat x2.pos),t0.2.2) [275,1]))))
(.br 211 (x2.kind==2) (.own 291 (.req 307 (0≤(W (x2.pos+1))∧(W (x2.pos+1))≤t0.2.1.length) fun h6 =>
(.req 307 (t0.2.1.length≤1000000) fun h7 =>
(.callH [0,291] (insG_h t0.2.1 x3 (W (x2.pos+1)) h6 h7) 307
(.bk 0 b0 (W (t0.1+1),insAt t0.2.1 (Int.toNat (W (x2.pos+1))) x3,t0.2.2) [307,1])))))
(.br 243 (x2.kind==3) (.req 339 ((0≤x2.pos∧x2.pos<t0.2.1.length)∧(W (x2.pos+1))=x2.pos+1) fun h8 =>
(.req 339 (t0.2.1.length≤1000000) fun h9 =>
(.callH [0] (delG_h t0.2.1 x2.pos (W (x2.pos+1)) h8 h9) 339
(.say (fun R=>Rf (α:=List AV) (t0.2.2.map Sig.v) (Rf (α:=List AV) [.agg [.int x3.kind,.int x3.src,.int x3.dst,.int x3.epoch,.int x3.ver,.int x3.prev,.int x3.pep,.int x3.grp,.int x3.mode,.sl 1 (x3.srcs.map AV.int) false]]
(ck (decide (t0.2.2.length+1≤1000000))
R))) (.app 403 Sig.v t0.2.2 [x3]
(.bk 0 b0 (W (t0.1+1),delAt t0.2.1 (Int.toNat x2.pos),t0.2.2++[x3]) [339,403]))))))
(.br 275 (x2.kind==4) (.br 371 (decide ((W (x2.pos+1))<((t0.2.1.map Sig.v).length:Int))) (.say (ck (cond (decide (0≤(W (x2.pos+1)))) (decide ((W (x2.pos+1))<((t0.2.1.map Sig.v).length:Int))) false)) (.el 563 Sig.v t0.2.1 (fun R=>Rf (t0.2.1.map Sig.v) (ck (decide ((W (x2.pos+1)).toNat<t0.2.1.length))
(∀x10,t0.2.1[(W (x2.pos+1)).toNat]?=some x10 →
(R x10)))) fun x10 =>
(.say (ck (cond (decide (0≤x2.pos)) (decide (x2.pos<((t0.2.1.map Sig.v).length:Int))) false)) (.st 611 Sig.v t0.2.1 (fun y11=>x10) (fun R=>Rf (t0.2.1.map Sig.v) (ck (decide (x2.pos.toNat<t0.2.1.length))
(∀y11,t0.2.1[x2.pos.toNat]?=some y11→Rf (Sig.v x10)
((R y11))))) fun y11 =>
(.say (ck (cond (decide (0≤(W (x2.pos+1)))) (decide ((W (x2.pos+1))<(((t0.2.1.set x2.pos.toNat x10).map Sig.v).length:Int))) false)) (.st 643 Sig.v (t0.2.1.set x2.pos.toNat x10) (fun y12=>x3) (fun R=>Rf ((t0.2.1.set x2.pos.toNat x10).map Sig.v) (ck (decide ((W (x2.pos+1)).toNat<(t0.2.1.set x2.pos.toNat x10).length))
(∀y12,(t0.2.1.set x2.pos.toNat x10)[(W (x2.pos+1)).toNat]?=some y12→Rf (Sig.v x3)
((R y12))))) fun y12 =>
(.bk 0 b0 (W (t0.1+1),(t0.2.1.set x2.pos.toNat x10).set ((W (x2.pos+1)).toNat) x3,t0.2.2) [0,1])))))))
(.bk 0 b0 (W (t0.1+1),t0.2.1,t0.2.2) [0,1]))
(.bk 0 b0 (W (t0.1+1),t0.2.1,t0.2.2) [0,1])))))))))))
(.retH (t0.2.1,t0.2.2) ⟨[(4,.k,.vec 0),(5,.k,.vec 1)],[.vec 10 (t0.2.1.map Sig.v) (pureBL_map (fun _=>rfl) t0.2.1),.vec 10 (t0.2.2.map Sig.v) (pureBL_map (fun _=>rfl) t0.2.2)]⟩ [0,1]))))))
def arrO_vc(flight:(List Sig))(faults:(List Fau))(I0:(Int×(List Sig)×(List Sig))→Prop)(m0:(Int×(List Sig)×(List Sig))→Nat)(I1:Int×(List Sig)×(List Sig)→Fau→Bool→Prop)(r0:(List Sig)×(List Sig)):Prop:=(arrO_x flight faults I0 m0 I1).vc arrO_e arrO_b r0
theorem arrO_p(l:List Sig)(f:List Fau)(h:okArr l f)(ok:arrO_a l f):∃I0 m0 I1,arrO_vc l f I0 m0 I1 (arr l f):=by
 obtain ⟨h1,h2,h3⟩:=h
 refine ⟨fun t=>∃k:Nat,t=((k:Int),((f.take k).foldl arr1 (l,[])).1,((f.take k).foldl arr1 (l,[])).2)∧k≤f.length,fun t=>f.length-t.1.toNat,
  fun t0 x t=>t=decide (x.pos<0∨(t0.2.1.length:Int)≤x.pos),?_⟩
 dsimp only [arrO_vc,arrO_x,arrO_s,Ax.vp,Ax.vc];simp only [vcU,rfU,List.length_map]
 refine ⟨⟨by omega,h3⟩,⟨0,rfl,by omega⟩,?_⟩
 rintro _ ⟨k,rfl,hk⟩
 have hlen:=arrs_len (f:=f.take k) (s:=(l,[]))
 have hst:∀x,f[k]?=some x→(f.take (k+1)).foldl arr1 (l,[])=arr1 ((f.take k).foldl arr1 (l,[])) x:=fun x hx=>by rw [take_succ hx,List.foldl_append];rfl
 have hend:k=f.length→(f.take k).foldl arr1 (l,[])=arr l f:=fun e=>by rw [e,List.take_length];rfl
 generalize (f.take k).foldl arr1 (l,[])=s at *
 obtain ⟨now,late⟩:=s
 rw [List.length_take] at hlen
 simp only [Int.toNat_natCast,List.length_nil] at hlen ⊢
 refine ⟨fun a1=>⟨by omega,by omega,fun x hx=>⟨⟨fun c=>?_,fun c=>?_⟩,?_⟩⟩,fun a1=>?_⟩
 ·simp [c]
 ·exact decide_eq_decide.mpr (by omega)
 ·have e1:=hst x hx
  intro t1 ht1
  rw [W_succ (n:=f.length) (by omega) (by omega)]
  have fin:∀a b,arr1 (now,late) x=(a,b)→(∃k_1:Nat,(((k+1:Nat):Int),a,b)=((k_1:Int),((f.take k_1).foldl arr1 (l,[])).1,((f.take k_1).foldl arr1 (l,[])).2)∧k_1≤f.length)∧f.length-((k+1:Nat):Int).toNat<f.length-k:=fun a b e =>
   ⟨⟨k+1,by rw [e1,e],by omega⟩,by omega⟩
  refine ⟨fun e=>fin _ _ (if_pos (of_decide_eq_true (ht1.symm.trans e))),fun e=>?_⟩
  have hb:¬(x.pos<0∨(now.length:Int)≤x.pos):=of_decide_eq_false (ht1.symm.trans e)
  have e2:arr1 (now,late) x=arrK now late x.kind x.pos.toNat (now.getD x.pos.toNat sig0):=if_neg hb
  obtain ⟨n,hn⟩:∃n:Nat,x.pos=n:=⟨x.pos.toNat,by omega⟩
  rw [hn] at e2 hb ⊢
  simp only [Int.toNat_natCast] at e2 ⊢
  have hW:W ((n:Int)+1)=((n+1:Nat):Int):=by rw [W_eq (by omega)];omega
  rw [hW]
  simp only [Int.toNat_natCast]
  refine ⟨by simp;omega,by omega,fun y hy=>?_⟩
  rw [getD_some hy] at e2
  refine ⟨fun c1=>⟨⟨⟨by omega,by omega⟩,by omega⟩,by omega,fin _ _ ?_⟩,fun c1=>⟨fun c2=>⟨⟨by omega,by omega⟩,by omega,fin _ _ ?_⟩,fun c2=>⟨fun c3=>⟨⟨⟨by omega,by omega⟩,by omega⟩,by omega,by omega,fin _ _ ?_⟩,fun c3=>⟨fun c4=>⟨fun d=>?_,fun d=>fin _ _ ?_⟩,fun c4=>fin _ _ ?_⟩⟩⟩⟩
  ·rw [e2,arrK,if_pos (by simpa using c1)];rfl
  ·rw [e2,arrK,if_neg (by simpa using c1),if_pos (by simpa using c2),ins_twice hy]
  ·rw [e2,arrK,if_neg (by simpa using c1),if_neg (by simpa using c2),if_pos (by simpa using c3)];rfl
  ·refine ⟨by simp;omega,by omega,fun z hz=>⟨by simp;omega,by omega,fun u hu=>⟨by simp;omega,by simp;omega,fun v hv=>fin _ _ ?_⟩⟩⟩
   rw [e2,arrK,if_neg (by simpa using c1),if_neg (by simpa using c2),if_neg (by simpa using c3),if_pos (by simpa using c4),if_pos (by omega),getD_some hz]
  ·rw [e2,arrK,if_neg (by simpa using c1),if_neg (by simpa using c2),if_neg (by simpa using c3),if_pos (by simpa using c4),if_neg (by omega)]
  ·rw [e2,arrK,if_neg (by simpa using c1),if_neg (by simpa using c2),if_neg (by simpa using c3),if_neg (by simpa using c4)]
 ·rw [←hend (by omega)]
def arrO_h(flight:(List Sig))(faults:(List Fau))(h:okArr flight faults):HC Tryz.prog:=⟨59,[(.s 10),(.s 2)],[.sl 10 (flight.map Sig.v) false,.sl 2 (faults.map Fau.v) false],[],arrO_e (arr flight faults),arrO_b (arr flight faults),HSpec.of_okh fun ok _=>(arrO_p flight faults h ok).elim fun I0 h=>h.elim fun m0 h=>h.elim fun I1 h=>mxH_of (sh:=.k) (enc:=arrO_e) (hB:=arrO_b) (a:=(arrO_x flight faults I0 m0 I1).an) h (by kernel_rfl),fnB_ok (by kernel_rfl),HcOk.of (by simp [hcB,belBL,AV.belB,allB,okBk,okBkO,arrO_e,arrO_b,pureBL_map (v:=Fau.v) (fun _=>rfl),pureBL_map (v:=Sig.v) (fun _=>rfl)])⟩
def okRnd(o:Ovl)(f:List Fau):Prop:=o.fl.length≤400000∧f.length≤1000
theorem NetOk.pos{R:List Int}{sp:List Spk}{ls:List Lsn}(h:NetOk R sp ls){r:Int}(hr:r∈R) :
  posS sp r<sp.length∧posS sp r<ls.length∧sp[posS sp r]?=some (atS sp r)∧ls[posS sp r]?=some (atL sp ls r):=by
 have h1:posS sp r<sp.length:=((hitK_iff (key:=Spk.router) (d:=spk0) h.asc).mpr (mem_keys.mp (by rw [h.spr];exact hr))).1
 have e1:=congrArg List.length h.spr
 have e2:=congrArg List.length h.lsr
 rw [List.length_map] at e1 e2
 refine ⟨h1,by omega,?_,?_⟩
 ·unfold atS;rw [List.getD_eq_getElem?_getD,List.getElem?_eq_getElem h1];rfl
 ·unfold atL;rw [List.getD_eq_getElem?_getD,List.getElem?_eq_getElem (by omega)];rfl
theorem NetOk.lens{R:List Int}{sp:List Spk}{ls:List Lsn}(h:NetOk R sp ls):sp.length≤12∧ls.length≤12:=by
 have e1:=congrArg List.length h.spr
 have e2:=congrArg List.length h.lsr
 rw [List.length_map] at e1 e2
 have:=h.len
 omega
theorem flat_take{α β:Type}{f:α→List β}{l:List α}{k:Nat}{x:α}(hx:l[k]?=some x):(l.take (k+1)).flatMap f=(l.take k).flatMap f++f x:=by
 rw [take_succ hx];simp
def rndOv_a(o:Ovl)(faults:(List Fau)):Prop:=okL [.agg [.sl 5 (o.sp.map Spk.v) false,.sl 3 (o.ls.map Lsn.v) false,.sl 10 (o.fl.map Sig.v) false],.sl 2 (faults.map Fau.v) false]
def rndOv_n0(o:Ovl)(faults:(List Fau))(t0:Int×(List Spk)×(List Sig)×(List Lsn)):NF:=⟨[(4,.k,.ref 0 0),(6,.k,.ref 1 0),(8,.k,.vec 5),(37,.k,.vec 6),(38,.k,.int ((((arr o.fl faults).1).map Sig.v).length:Int)),(39,.k,.int t0.1)],[.box (.agg [.sl 0 [] true,.sl 0 [] true,.sl 0 [] true]),.box (.agg [.vec 2,.vec 3,.vec 4]),.vec 5 (t0.2.1.map Spk.v) (pureBL_map (fun _=>rfl) t0.2.1),.vec 3 (t0.2.2.2.map Lsn.v) (pureBL_map (fun _=>rfl) t0.2.2.2),.vec 10 (o.fl.map Sig.v) (pureBL_map (fun _=>rfl) o.fl),.vec 10 (t0.2.2.1.map Sig.v) (pureBL_map (fun _=>rfl) t0.2.2.1),.vec 10 (((arr o.fl faults).1).map Sig.v) (pureBL_map (fun _=>rfl) ((arr o.fl faults).1))]⟩
def rndOv_n1(o:Ovl)(t0:Int×(List Spk)×(List Sig)×(List Lsn))(t1:Int×(List Sig)):NF:=⟨[(4,.k,.ref 0 0),(6,.k,.ref 1 0),(8,.k,.vec 5),(94,.k,.vec 2),(95,.k,.int ((t0.2.1.map Spk.v).length:Int)),(96,.k,.int t1.1)],[.box (.agg [.sl 0 [] true,.sl 0 [] true,.sl 0 [] true]),.box (.agg [.vec 2,.vec 3,.vec 4]),.vec 5 (t0.2.1.map Spk.v) (pureBL_map (fun _=>rfl) t0.2.1),.vec 3 (t0.2.2.2.map Lsn.v) (pureBL_map (fun _=>rfl) t0.2.2.2),.vec 10 (o.fl.map Sig.v) (pureBL_map (fun _=>rfl) o.fl),.vec 10 (t1.2.map Sig.v) (pureBL_map (fun _=>rfl) t1.2)]⟩
def rndOv_n2(o:Ovl)(t0:Int×(List Spk)×(List Sig)×(List Lsn))(t1:Int×(List Sig))(x10:Spk)(t2:Int×(List Sig)):NF:=⟨[(4,.k,.ref 0 0),(6,.k,.ref 1 0),(8,.k,.vec 5),(19,.k,.ref 6 0),(94,.k,.vec 2),(95,.k,.int ((t0.2.1.map Spk.v).length:Int)),(96,.k,.int t1.1),(101,.k,.sl 3 (x10.peers.map Per.v) false),(102,.k,.int ((x10.peers.map Per.v).length:Int)),(103,.k,.int t2.1)],[.box (.agg [.sl 0 [] true,.sl 0 [] true,.sl 0 [] true]),.box (.agg [.vec 2,.vec 3,.vec 4]),.vec 5 (t0.2.1.map Spk.v) (pureBL_map (fun _=>rfl) t0.2.1),.vec 3 (t0.2.2.2.map Lsn.v) (pureBL_map (fun _=>rfl) t0.2.2.2),.vec 10 (o.fl.map Sig.v) (pureBL_map (fun _=>rfl) o.fl),.vec 10 (t2.2.map Sig.v) (pureBL_map (fun _=>rfl) t2.2),.box (.agg [.int x10.router,.int x10.epoch,.int x10.last,.sl 4 (x10.items.map Itm.v) false,.sl 3 (x10.peers.map Per.v) false])]⟩
@[reducible] def rndOv_s:Nat→Type
 | 0=>Int×(List Spk)×(List Sig)×(List Lsn)
 | 1=>Int×(List Sig)
 | 2=>Int×(List Sig)
 | _=>Unit
def rndOv_e(r:Ovl×Int):AV:=.tup [Ovl.v r.1,.int r.2]
def rndOv_x(o:Ovl)(faults:(List Fau))(I0:(Int×(List Spk)×(List Sig)×(List Lsn))→Prop)(m0:(Int×(List Spk)×(List Sig)×(List Lsn))→Nat)(I1:Int×(List Spk)×(List Sig)×(List Lsn)→(Int×(List Sig))→Prop)(m1:Int×(List Spk)×(List Sig)×(List Lsn)→(Int×(List Sig))→Nat)(I2:Int×(List Spk)×(List Sig)×(List Lsn)→Int×(List Sig)→Spk→(Int×(List Sig))→Prop)(m2:Int×(List Spk)×(List Sig)×(List Lsn)→Int×(List Sig)→Spk→(Int×(List Sig))→Nat):Ax Tryz.prog rndOv_s (Ovl×Int):=
 (.callP (validO_c o)
(.br 96 (!(decide (ovlOk o))) (.ret ((⟨[],[],[]⟩:Ovl),1))
(.req 112 (ovlOk o∧o.fl.length≤1000000) fun h1 =>
(.callH [] (copO_h o h1) 112
(.req 208 (okArr o.fl faults) fun h2 =>
(.callH [] (arrO_h o.fl faults h2) 208
(.loop 0 (rndOv_n0 o faults) I0 m0 (0,o.sp,(arr o.fl faults).2,o.ls) [16,128,112,113,114,209,208] fun (t0:Int×(List Spk)×(List Sig)×(List Lsn)) b0 =>
(.br 23 (decide (t0.1<((((arr o.fl faults).1).map Sig.v).length:Int))) (.say (ck (cond (decide (0≤t0.1)) (decide (t0.1<((((arr o.fl faults).1).map Sig.v).length:Int))) false)) (.el 39 Sig.v ((arr o.fl faults).1) (fun R=>Rf (((arr o.fl faults).1).map Sig.v) (ck (decide (t0.1.toNat<((arr o.fl faults).1).length))
(∀x3,((arr o.fl faults).1)[t0.1.toNat]?=some x3 →
(R x3)))) fun x3 =>
(.req 135 ((⟨t0.2.1,t0.2.2.2,o.fl⟩:Ovl).sp.Pairwise fun x y=>x.router<y.router) fun h4 =>
(.req 135 ((⟨t0.2.1,t0.2.2.2,o.fl⟩:Ovl).sp.length≤1000000) fun h5 =>
(.callP (findS_c (⟨t0.2.1,t0.2.2.2,o.fl⟩:Ovl) x3.dst h4 h5)
(.say (ck (pureBLs [(t0.2.1.map Spk.v),(t0.2.2.2.map Lsn.v),(o.fl.map Sig.v)])) (.br 279 (x3.kind==3) (.say (ck (cond (decide (0≤(posS (⟨t0.2.1,t0.2.2.2,o.fl⟩:Ovl).sp x3.dst:Int))) (decide ((posS (⟨t0.2.1,t0.2.2.2,o.fl⟩:Ovl).sp x3.dst:Int)<((t0.2.1.map Spk.v).length:Int))) false)) (.el 343 Spk.v t0.2.1 (fun R=>Rf (t0.2.1.map Spk.v) (ck (decide ((posS (⟨t0.2.1,t0.2.2.2,o.fl⟩:Ovl).sp x3.dst:Int).toNat<t0.2.1.length))
(∀x6,t0.2.1[(posS (⟨t0.2.1,t0.2.2.2,o.fl⟩:Ovl).sp x3.dst:Int).toNat]?=some x6 →
(R x6)))) fun x6 =>
(.callP (ack_c x6 x3)
(.br 519 (((ack x6 x3).2)==0) (.say (ck (cond (decide (0≤(posS (⟨t0.2.1,t0.2.2.2,o.fl⟩:Ovl).sp x3.dst:Int))) (decide ((posS (⟨t0.2.1,t0.2.2.2,o.fl⟩:Ovl).sp x3.dst:Int)<((t0.2.1.map Spk.v).length:Int))) false)) (.st 599 Spk.v t0.2.1 (fun y7=>((ack x6 x3).1)) (fun R=>Rf (t0.2.1.map Spk.v) (ck (decide ((posS (⟨t0.2.1,t0.2.2.2,o.fl⟩:Ovl).sp x3.dst:Int).toNat<t0.2.1.length))
(∀y7,t0.2.1[(posS (⟨t0.2.1,t0.2.2.2,o.fl⟩:Ovl).sp x3.dst:Int).toNat]?=some y7→Rf (Spk.v ((ack x6 x3).1))
((R y7))))) fun y7 =>
(.bk 0 b0 (W (t0.1+1),t0.2.1.set ((posS (⟨t0.2.1,t0.2.2.2,o.fl⟩:Ovl).sp x3.dst:Int).toNat) ((ack x6 x3).1),t0.2.2.1,t0.2.2.2) [0,1,2,3,4,5,6])))
(.bk 0 b0 (W (t0.1+1),t0.2.1,t0.2.2.1,t0.2.2.2) [0,1,2,3,4,5,6])))))
(.say (ck (cond (decide (0≤(posS (⟨t0.2.1,t0.2.2.2,o.fl⟩:Ovl).sp x3.dst:Int))) (decide ((posS (⟨t0.2.1,t0.2.2.2,o.fl⟩:Ovl).sp x3.dst:Int)<((t0.2.2.2.map Lsn.v).length:Int))) false)) (.el 343 Lsn.v t0.2.2.2 (fun R=>Rf (t0.2.2.2.map Lsn.v) (ck (decide ((posS (⟨t0.2.1,t0.2.2.2,o.fl⟩:Ovl).sp x3.dst:Int).toNat<t0.2.2.2.length))
(∀x8,t0.2.2.2[(posS (⟨t0.2.1,t0.2.2.2,o.fl⟩:Ovl).sp x3.dst:Int).toNat]?=some x8 →
(R x8)))) fun x8 =>
(.callP (hear_c x8 x3)
(.br 567 (((hear x8 x3).2)==0) (.say (ck (cond (decide (0≤(posS (⟨t0.2.1,t0.2.2.2,o.fl⟩:Ovl).sp x3.dst:Int))) (decide ((posS (⟨t0.2.1,t0.2.2.2,o.fl⟩:Ovl).sp x3.dst:Int)<((t0.2.2.2.map Lsn.v).length:Int))) false)) (.st 647 Lsn.v t0.2.2.2 (fun y9=>((hear x8 x3).1.1)) (fun R=>Rf (t0.2.2.2.map Lsn.v) (ck (decide ((posS (⟨t0.2.1,t0.2.2.2,o.fl⟩:Ovl).sp x3.dst:Int).toNat<t0.2.2.2.length))
(∀y9,t0.2.2.2[(posS (⟨t0.2.1,t0.2.2.2,o.fl⟩:Ovl).sp x3.dst:Int).toNat]?=some y9→Rf (Lsn.v ((hear x8 x3).1.1))
((R y9))))) fun y9 =>
(.say (fun R=>Rf (α:=List AV) (t0.2.2.1.map Sig.v) (Rf (α:=List AV) [(Sig.v ((hear x8 x3).1.2))]
(ck (decide (t0.2.2.1.length+1≤1000000))
R))) (.app 711 Sig.v t0.2.2.1 [(hear x8 x3).1.2]
(.bk 0 b0 (W (t0.1+1),t0.2.1,t0.2.2.1++[(hear x8 x3).1.2],t0.2.2.2.set ((posS (⟨t0.2.1,t0.2.2.2,o.fl⟩:Ovl).sp x3.dst:Int).toNat) ((hear x8 x3).1.1)) [0,1,2,3,4,711,6])))))
(.bk 0 b0 (W (t0.1+1),t0.2.1,t0.2.2.1,t0.2.2.2) [0,1,2,3,4,5,6]))))))))))))
(.loop 1 (rndOv_n1 o t0) (I1 t0) (m1 t0) (0,t0.2.2.1) [0,1,2,3,4,5] fun (t1:Int×(List Sig)) b1 =>
(.br 22 (decide (t1.1<((t0.2.1.map Spk.v).length:Int))) (.say (ck (cond (decide (0≤t1.1)) (decide (t1.1<((t0.2.1.map Spk.v).length:Int))) false)) (.el 38 Spk.v t0.2.1 (fun R=>Rf (t0.2.1.map Spk.v) (ck (decide (t1.1.toNat<t0.2.1.length))
(∀x10,t0.2.1[t1.1.toNat]?=some x10 →
(R x10)))) fun x10 =>
(.loop 2 (rndOv_n2 o t0 t1 x10) (I2 t0 t1 x10) (m2 t0 t1 x10) (0,t1.2) [0,1,2,3,4,5,54] fun (t2:Int×(List Sig)) b2 =>
(.br 23 (decide (t2.1<((x10.peers.map Per.v).length:Int))) (.el 23 Per.v x10.peers (fun R=>Rf (x10.peers.map Per.v) (ck (decide (0≤t2.1)) (ck (decide (t2.1<(x10.peers.length:Int)))
(∀x11,x10.peers[t2.1.toNat]?=some x11 →
(R x11))))) fun x11 =>
(.callP (send_c x10 x11.router)
(.say (fun R=>Rf (α:=List AV) (t2.2.map Sig.v) (Rf (α:=List AV) (((send x10 x11.router).1).map Sig.v)
(ck (decide (t2.2.length+((send x10 x11.router).1).length≤1000000))
R))) (.app 263 Sig.v t2.2 ((send x10 x11.router).1)
(.bk 2 b2 (W (t2.1+1),t2.2++((send x10 x11.router).1)) [0,1,2,3,4,263,6])))))
(.bk 1 b1 (W (t1.1+1),t2.2) [0,1,2,3,4,5])))))
(.say (Rf (t1.2.map Sig.v)) (.cmd (.frzE 5 (t1.2.map Sig.v) (pureBL_map (fun _=>rfl) t1.2)) (.req 38 (okSigs t1.2) fun h12 =>
(.callH [] (sigsC_h t1.2 h12) 38
(.say (Rf (t1.2.map Sig.v)) (.cmdL (.frzE 38 (t1.2.map Sig.v) (pureBL_map (fun _=>rfl) t1.2)) (.say (Rf (t0.2.2.2.map Lsn.v)) (.cmdL (.frzE 3 (t0.2.2.2.map Lsn.v) (pureBL_map (fun _=>rfl) t0.2.2.2)) (.say (Rf (t0.2.1.map Spk.v)) (.cmdL (.frzE 2 (t0.2.1.map Spk.v) (pureBL_map (fun _=>rfl) t0.2.1)) (.ret ((⟨t0.2.1,t0.2.2.2,t1.2⟩:Ovl),0))))))))))))))))))))))
def rndOv_vc(o:Ovl)(faults:(List Fau))(I0:(Int×(List Spk)×(List Sig)×(List Lsn))→Prop)(m0:(Int×(List Spk)×(List Sig)×(List Lsn))→Nat)(I1:Int×(List Spk)×(List Sig)×(List Lsn)→(Int×(List Sig))→Prop)(m1:Int×(List Spk)×(List Sig)×(List Lsn)→(Int×(List Sig))→Nat)(I2:Int×(List Spk)×(List Sig)×(List Lsn)→Int×(List Sig)→Spk→(Int×(List Sig))→Prop)(m2:Int×(List Spk)×(List Sig)×(List Lsn)→Int×(List Sig)→Spk→(Int×(List Sig))→Nat)(r0:Ovl×Int):Prop:=(rndOv_x o faults I0 m0 I1 m1 I2 m2).vp rndOv_e r0
theorem rndOv_p(o:Ovl)(f:List Fau)(h:okRnd o f)(ok:rndOv_a o f):∃I0 m0 I1 m1 I2 m2,rndOv_vc o f I0 m0 I1 m1 I2 m2 (roundO o f):=by
 obtain ⟨h1,h2⟩:=h
 by_cases hv:ovlOk o
 case neg =>
  refine ⟨fun _=>True,fun _=>0,fun _ _=>True,fun _ _=>0,fun _ _ _ _=>True,fun _ _ _ _=>0,?_⟩
  have e:roundO o f=(ovl0,1):=if_pos hv
  rw [e]
  dsimp only [rndOv_vc,rndOv_x,rndOv_s,Ax.vp,Ax.vc];simp only [vcU,rfU,List.length_map]
  simp [hv,ovl0]
 have hn:=hv.1
 obtain ⟨hnow,hlate⟩:=arr_mem (P:=sigIn (rtrs o.sp)) (f:=f) hv.2
 have hlen:=arr_len (l:=o.fl) (f:=f)
 have e:roundO o f=(roundN o (arr o.fl f).1 (arr o.fl f).2,0):=if_neg (not_not_intro hv)
 rw [e]
 have hA:okArr o.fl f:=⟨by omega,h2,fun x hx=>sig_srcs (hv.2 x hx).1⟩
 refine ⟨fun t=>∃k:Nat,t=((k:Int),(((arr o.fl f).1.take k).foldl deliver ((o.sp,o.ls),(arr o.fl f).2)).1.1,(((arr o.fl f).1.take k).foldl deliver ((o.sp,o.ls),(arr o.fl f).2)).2,(((arr o.fl f).1.take k).foldl deliver ((o.sp,o.ls),(arr o.fl f).2)).1.2)∧k≤(arr o.fl f).1.length,
  fun t=>(arr o.fl f).1.length-t.1.toNat,
  fun t0 t=>∃j:Nat,t=((j:Int),t0.2.2.1++(t0.2.1.take j).flatMap sends1)∧j≤t0.2.1.length,fun t0 t=>t0.2.1.length-t.1.toNat,
  fun t0 t1 x t=>∃i:Nat,t=((i:Int),t1.2++(x.peers.take i).flatMap fun p=>(send x p.router).1)∧i≤x.peers.length,fun t0 t1 x t=>x.peers.length-t.1.toNat,?_⟩
 dsimp only [rndOv_vc,rndOv_x,rndOv_s,Ax.vp,Ax.vc];simp only [vcU,rfU,List.length_map]
 generalize (arr o.fl f).1=now at *
 generalize (arr o.fl f).2=late at *
 refine ⟨fun q=>absurd hv (by simpa using q),fun _=>⟨⟨hv,by omega⟩,hA,⟨0,rfl,by omega⟩,?_⟩⟩
 rintro _ ⟨k,rfl,hk⟩
 have d:=delivers_ok (l:=now.take k) (s:=((o.sp,o.ls),late)) hn fun x hx=>hnow x (List.mem_of_mem_take hx)
 have dl:=delivers_len (l:=now.take k) (s:=((o.sp,o.ls),late))
 have hst:∀x,now[k]?=some x→(now.take (k+1)).foldl deliver ((o.sp,o.ls),late)=deliver ((now.take k).foldl deliver ((o.sp,o.ls),late)) x:=fun x hx=>by rw [take_succ hx,List.foldl_append];rfl
 have hend:k=now.length→roundN o now late=⟨((now.take k).foldl deliver ((o.sp,o.ls),late)).1.1,((now.take k).foldl deliver ((o.sp,o.ls),late)).1.2,((now.take k).foldl deliver ((o.sp,o.ls),late)).2++sends ((now.take k).foldl deliver ((o.sp,o.ls),late)).1.1⟩:=fun e=>by rw [e,List.take_length];rfl
 have hfl:=(roundN_ok hn hnow hlate).fl
 generalize (now.take k).foldl deliver ((o.sp,o.ls),late)=s at *
 obtain ⟨⟨sp,ls⟩,out⟩:=s
 have dn:=d.net
 simp only at dn
 obtain ⟨n1,n2⟩:=dn.lens
 rw [List.length_take] at dl
 simp only [Int.toNat_natCast] at dl ⊢
 refine ⟨fun a1=>⟨by simp;omega,by omega,fun x hx=>⟨dn.asc,by omega,?_,?_⟩⟩,fun a1=>⟨⟨0,by simp,by omega⟩,?_⟩⟩
 ·simp [pureBLs,pureBL_map (v:=Spk.v) (fun _=>rfl),pureBL_map (v:=Lsn.v) (fun _=>rfl),pureBL_map (v:=Sig.v) (fun _=>rfl)]
 ·have e1:=hst x hx
  obtain ⟨p1,p2,p3,p4⟩:=dn.pos (hnow x (mem_of_get hx)).2.2
  rw [W_succ (n:=now.length) (by omega) (by omega)]
  have fin:∀a b c,deliver ((sp,ls),out) x=((a,c),b)→(∃k_1:Nat,(((k+1:Nat):Int),a,b,c)=((k_1:Int),((now.take k_1).foldl deliver ((o.sp,o.ls),late)).1.1,((now.take k_1).foldl deliver ((o.sp,o.ls),late)).2,((now.take k_1).foldl deliver ((o.sp,o.ls),late)).1.2)∧k_1≤now.length)∧now.length-((k+1:Nat):Int).toNat<now.length-k:=fun a b c e =>
   ⟨⟨k+1,by rw [e1,e],by omega⟩,by omega⟩
  refine ⟨fun c1=>⟨by simp;omega,by omega,fun y hy=>⟨fun c2=>⟨by simp;omega,by omega,fun z hz=>fin _ _ _ ?_⟩,fun c2=>fin _ _ _ ?_⟩⟩,fun c1=>⟨by simp;omega,by omega,fun y hy=>⟨fun c2=>⟨by simp;omega,by omega,fun z hz=>⟨by omega,fin _ _ _ ?_⟩⟩,fun c2=>fin _ _ _ ?_⟩⟩⟩
  ·cases p3.symm.trans hy
   unfold deliver;rw [if_pos (by simpa using c1),if_pos (by simpa using c2)]
  ·cases p3.symm.trans hy
   unfold deliver;rw [if_pos (by simpa using c1),if_neg (by simpa using c2)]
  ·cases p4.symm.trans hy
   unfold deliver;rw [if_neg (by simpa using c1),if_pos (by simpa using c2)]
  ·cases p4.symm.trans hy
   unfold deliver;rw [if_neg (by simpa using c1),if_neg (by simpa using c2)]
 ·have he:=hend (by omega)
  rintro _ ⟨j,rfl,hj⟩
  have hsj:((sp.take j).flatMap sends1).length≤14400:=by
   have:((sp.take j).flatMap sends1).length≤(sp.take j).length * 1200:=flat_len fun s hs=>by
    have:(sends1 s).length≤s.peers.length * 100:=flat_len fun p _=>send_le
    have:=(dn.spo s (List.mem_of_mem_take hs)).1.2.2.2.2.1
    omega
   rw [List.length_take] at this
   omega
  simp only [Int.toNat_natCast]
  refine ⟨fun b1=>⟨by simp;omega,by omega,fun x hx=>⟨⟨0,by simp,by omega⟩,?_⟩⟩,fun b1=>?_⟩
  ·have hxp:=(dn.spo x (mem_of_get hx)).1.2.2.2.2.1
   rintro _ ⟨i,rfl,hi⟩
   have hpi:((x.peers.take i).flatMap fun p=>(send x p.router).1).length≤1200:=by
    have:((x.peers.take i).flatMap fun p=>(send x p.router).1).length≤(x.peers.take i).length * 100:=flat_len fun p _=>send_le
    rw [List.length_take] at this
    omega
   simp only [Int.toNat_natCast]
   refine ⟨fun c1=>⟨by omega,by omega,fun p hp=>⟨?_,⟨i+1,?_,by omega⟩,?_⟩⟩,fun c1=>⟨⟨j+1,?_,by omega⟩,?_⟩⟩
   ·have:=send_le (s:=x) (to:=p.router)
    simp only [List.length_append];omega
   ·rw [W_succ (n:=x.peers.length) (by omega) (by omega),flat_take hp];simp
   ·rw [W_succ (n:=x.peers.length) (by omega) (by omega)];omega
   ·have ei:i=x.peers.length:=by omega
    rw [W_succ (n:=sp.length) (by omega) (by omega),flat_take hx,ei,List.take_length]
    simp [sends1]
   ·rw [W_succ (n:=sp.length) (by omega) (by omega)];omega
  ·have ej:j=sp.length:=by omega
   rw [ej,List.take_length] at hsj ⊢
   rw [he] at hfl ⊢
   refine ⟨⟨by simp only [List.length_append];omega,fun x hx=>sig_srcs (hfl x hx).1⟩,rfl⟩
def rndOv_c(o:Ovl)(faults:(List Fau))(h:okRnd o faults):PC Tryz.prog:=⟨20,[(.a [(.s 5),(.s 3),(.s 10)]),(.s 2)],[.agg [.sl 5 (o.sp.map Spk.v) false,.sl 3 (o.ls.map Lsn.v) false,.sl 10 (o.fl.map Sig.v) false],.sl 2 (faults.map Fau.v) false],rndOv_e (roundO o faults),PSpec.of_ok fun ok=>(rndOv_p o faults h ok).elim fun I0 h=>h.elim fun m0 h=>h.elim fun I1 h=>h.elim fun m1 h=>h.elim fun I2 h=>h.elim fun m2 h=>mxP_of (sh:=(.a [(.a [(.s 5),(.s 3),(.s 10)]),.k])) (enc:=rndOv_e) (a:=(rndOv_x o faults I0 m0 I1 m1 I2 m2).an) h (by kernel_rfl) (AV.pureB_ok rfl),fnB_ok (by kernel_rfl)⟩
theorem pos_inj{o:Ovl}(h:ovlOk o){a b:Int}(ha:a∈rtrs o.sp)(hb:b∈rtrs o.sp):posS o.sp a=posS o.sp b↔a=b:=by
 refine ⟨fun e=>?_,fun e=>by rw [e]⟩
 have h1:=(h.1.s ha).2
 have h2:=(h.1.s hb).2
 unfold atS at h1 h2
 rw [e] at h1
 exact h1.symm.trans h2
def knwOv_a(o:Ovl)(at_:Int)(of_:Int):Prop:=okL [.agg [.sl 5 (o.sp.map Spk.v) false,.sl 3 (o.ls.map Lsn.v) false,.sl 10 (o.fl.map Sig.v) false],.int at_,.int of_]
def knwOv_n0(o:Ovl)(at_:Int)(of_:Int)(t0:Bool):NF:=⟨[(2,.k,.int of_),(3,.k,.ref 0 0),(8,.k,.int (posS o.sp at_:Int)),(10,.k,.int (posS o.sp of_:Int)),(27,.k,.bool t0)],[.box (.agg [.sl 5 (o.sp.map Spk.v) false,.sl 3 (o.ls.map Lsn.v) false,.sl 10 (o.fl.map Sig.v) false])]⟩
@[reducible] def knwOv_s:Nat→Type
 | 0=>Bool
 | _=>Unit
def knwOv_e(r:(List Wnt)×Int):AV:=.tup [.sl 3 (r.1.map Wnt.v) false,.int r.2]
def knwOv_x(o:Ovl)(at_:Int)(of_:Int)(I0:Bool→Prop):Ax Tryz.prog knwOv_s ((List Wnt)×Int):=
 (.callP (validO_c o)
(.br 96 (!(decide (ovlOk o))) (.ret ([],1))
(.req 128 (o.sp.Pairwise fun x y=>x.router<y.router) fun h1 =>
(.req 128 (o.sp.length≤1000000) fun h2 =>
(.callP (findS_c o at_ h1 h2)
(.req 256 (o.sp.Pairwise fun x y=>x.router<y.router) fun h3 =>
(.req 256 (o.sp.length≤1000000) fun h4 =>
(.callP (findS_c o of_ h3 h4)
(.pass (.join 0 (knwOv_n0 o at_ of_) (fun (t0:Bool)=>I0 t0) (fun b0=>(.br 400 (!(decide (hitS o.sp at_))) (.bk 0 b0 ((true):Bool) [0])
(.bk 0 b0 ((!(decide (hitS o.sp of_))):Bool) [0]))) fun (t0:Bool) =>
(.br 1 t0 (.ret ([],4))
(.br 65 ((posS o.sp at_:Int)==(posS o.sp of_:Int)) (.el 113 Spk.v o.sp (fun R=>Rf (o.sp.map Spk.v) (ck (decide (0≤(posS o.sp at_:Int))) (ck (decide ((posS o.sp at_:Int)<(o.sp.length:Int)))
(∀x5,o.sp[(posS o.sp at_:Int).toNat]?=some x5 →
(R x5))))) fun x5 =>
(.callP (wantsF_c x5.items)
(.ret (wantsOf x5.items,0))))
(.el 113 Lsn.v o.ls (fun R=>Rf (o.ls.map Lsn.v) (ck (decide (0≤(posS o.sp at_:Int))) (ck (decide ((posS o.sp at_:Int)<(o.ls.length:Int)))
(∀x6,o.ls[(posS o.sp at_:Int).toNat]?=some x6 →
(R x6))))) fun x6 =>
(.callP (knownF_c x6 of_)
(.ret (knownW x6 of_,0))))))))))))))))
def knwOv_vc(o:Ovl)(at_:Int)(of_:Int)(I0:Bool→Prop)(r0:(List Wnt)×Int):Prop:=(knwOv_x o at_ of_ I0).vp knwOv_e r0
theorem knwOv_p(o:Ovl)(a b:Int)(ok:knwOv_a o a b):∃I0,knwOv_vc o a b I0 (knownV o a b):=by
 refine ⟨fun t=>t=decide (a ∉ rtrs o.sp∨b ∉ rtrs o.sp),?_⟩
 dsimp only [knwOv_vc,knwOv_x,knwOv_s,Ax.vp,Ax.vc];simp only [vcU,rfU,List.length_map]
 have hV:knownV o a b=if ¬ovlOk o then ([],1) else if a ∉ rtrs o.sp∨b ∉ rtrs o.sp then ([],4) else if a=b then (wantsOf (atS o.sp b).items,0) else (knownW (atL o.sp o.ls a) b,0):=rfl
 rw [hV]
 by_cases hv:ovlOk o
 case neg=>simp [hv]
 have hL:=hv.1.lens
 rw [if_neg (not_not_intro hv)]
 refine ⟨fun q=>absurd hv (by simpa using q),fun _=>⟨hv.1.asc,by omega,hv.1.asc,by omega,⟨fun c=>?_,fun c=>?_⟩,?_⟩⟩
 ·have c:a ∉ rtrs o.sp:=by rw [←hitS_iff hv];simpa using c
  simp [c]
 ·have c:a∈rtrs o.sp:=by rw [←hitS_iff hv];simpa using c
  have e2:decide (hitS o.sp b)=decide (b∈rtrs o.sp):=decide_eq_decide.mpr (hitS_iff hv b)
  rw [e2];simp [c]
 ·rintro _ rfl
  refine ⟨fun c=>?_,fun c=>?_⟩
  ·rw [if_pos (of_decide_eq_true c)]
  have c:=of_decide_eq_false c
  rw [if_neg c]
  have ha:a∈rtrs o.sp:=by simp only [not_or,Classical.not_not] at c;exact c.1
  have hb:b∈rtrs o.sp:=by simp only [not_or,Classical.not_not] at c;exact c.2
  obtain ⟨p1,p2,p3,p4⟩:=hv.1.pos ha
  simp only [Int.toNat_natCast]
  refine ⟨fun q=>⟨by omega,by omega,fun x hx=>?_⟩,fun q=>⟨by omega,by omega,fun x hx=>?_⟩⟩
  ·have q:a=b:=(pos_inj hv ha hb).mp (by have:=eq_of_beq q;omega)
   cases p3.symm.trans hx
   rw [if_pos q,q]
  ·have q:¬a=b:=fun e=>by rw [e] at q;simp at q
   cases p4.symm.trans hx
   rw [if_neg q]
def knwOv_c(o:Ovl)(at_:Int)(of_:Int):PC Tryz.prog:=⟨22,[(.a [(.s 5),(.s 3),(.s 10)]),.k,.k],[.agg [.sl 5 (o.sp.map Spk.v) false,.sl 3 (o.ls.map Lsn.v) false,.sl 10 (o.fl.map Sig.v) false],.int at_,.int of_],knwOv_e (knownV o at_ of_),PSpec.of_ok fun ok=>(knwOv_p o at_ of_ ok).elim fun I0 h=>mxP_of (sh:=(.a [(.s 3),.k])) (enc:=knwOv_e) (a:=(knwOv_x o at_ of_ I0).an) h (by kernel_rfl) (AV.pureB_ok rfl),fnB_ok (by kernel_rfl)⟩
def setAt(o:Ovl)(s:Spk)(p:Per):Prop:=agree s (atL o.sp o.ls p.router)∧p.epoch=(atL o.sp o.ls p.router).epoch∧p.acked=s.last
theorem NetOk.at{R:List Int}{sp:List Spk}{ls:List Lsn}(h:NetOk R sp ls){s:Spk}(hs:s∈sp):atS sp s.router=s:=atK_eq (key:=Spk.router) h.asc hs
theorem peer_in{R:List Int}{sp:List Spk}{ls:List Lsn}(h:NetOk R sp ls){s:Spk}(hs:s∈sp){p:Per}(hp:p∈s.peers):p.router∈R∧p.router≠s.router∧pOf s.peers p.router=p:=by
 obtain ⟨k1,k2⟩:=h.spo s hs
 have:p.router∈s.peers.map Per.router:=List.mem_map.mpr ⟨p,hp,rfl⟩
 rw [k2,List.mem_filter] at this
 exact ⟨this.1,by simpa using this.2,pOf_mem k1.2.2.2.2.2.2 hp⟩
theorem settled_iff{o:Ovl}(h:ovlOk o):settledP o↔∀s∈o.sp,∀p∈s.peers,setAt o s p:=by
 unfold settledP agreedP
 constructor
 ·rintro ⟨⟨_,h1⟩,h2⟩ s hs p hp
  obtain ⟨q1,q2,q3⟩:=peer_in h.1 hs hp
  have hr:s.router∈rtrs o.sp:=List.mem_map.mpr ⟨s,hs,rfl⟩
  have a1:=h1 _ hr _ q1 (Ne.symm q2)
  have a2:=h2 _ hr _ q1 (Ne.symm q2)
  unfold pe le la at a2
  rw [h.1.at hs] at a1 a2
  rw [q3] at a2
  exact ⟨a1,a2⟩
 ·intro hs
  have key:∀a∈rtrs o.sp,∀b∈rtrs o.sp,a≠b→setAt o (atS o.sp a) (pOf (atS o.sp a).peers b)∧(pOf (atS o.sp a).peers b).router=b:=fun a ha b hb hab=>by
   obtain ⟨z,hz,e⟩:=h.1.peer ha hb hab
   obtain ⟨q1,q2⟩:=h.1.s ha
   obtain ⟨_,_,q3⟩:=peer_in h.1 q1 hz
   rw [e] at q3
   rw [q3]
   exact ⟨hs _ q1 _ hz,e⟩
  refine ⟨⟨h,fun a ha b hb hab=>?_⟩,fun a ha b hb hab=>?_⟩
  ·obtain ⟨⟨k1,_,_⟩,k2⟩:=key a ha b hb hab
   rw [k2] at k1;exact k1
  ·obtain ⟨⟨_,k1,k3⟩,k2⟩:=key a ha b hb hab
   rw [k2] at k1;exact ⟨k1,k3⟩
def setOv_a(o:Ovl):Prop:=okL [.agg [.sl 5 (o.sp.map Spk.v) false,.sl 3 (o.ls.map Lsn.v) false,.sl 10 (o.fl.map Sig.v) false]]
def setOv_n0(o:Ovl)(t0:Int):NF:=⟨[(1,.k,.ref 0 0),(14,.k,.sl 5 (o.sp.map Spk.v) false),(15,.k,.int ((o.sp.map Spk.v).length:Int)),(16,.k,.int t0)],[.box (.agg [.sl 5 (o.sp.map Spk.v) false,.sl 3 (o.ls.map Lsn.v) false,.sl 10 (o.fl.map Sig.v) false])]⟩
def setOv_n1(o:Ovl)(t0:Int)(x1:Spk)(t1:Int):NF:=⟨[(1,.k,.ref 0 0),(4,.k,.ref 1 0),(14,.k,.sl 5 (o.sp.map Spk.v) false),(15,.k,.int ((o.sp.map Spk.v).length:Int)),(16,.k,.int t0),(21,.k,.sl 3 (x1.peers.map Per.v) false),(22,.k,.int ((x1.peers.map Per.v).length:Int)),(23,.k,.int t1)],[.box (.agg [.sl 5 (o.sp.map Spk.v) false,.sl 3 (o.ls.map Lsn.v) false,.sl 10 (o.fl.map Sig.v) false]),.box (.agg [.int x1.router,.int x1.epoch,.int x1.last,.sl 4 (x1.items.map Itm.v) false,.sl 3 (x1.peers.map Per.v) false])]⟩
def setOv_n2(o:Ovl)(t0:Int)(x1:Spk)(t1:Int)(t2:Bool):NF:=⟨[(1,.k,.ref 0 0),(4,.k,.ref 1 0),(14,.k,.sl 5 (o.sp.map Spk.v) false),(15,.k,.int ((o.sp.map Spk.v).length:Int)),(16,.k,.int t0),(21,.k,.sl 3 (x1.peers.map Per.v) false),(22,.k,.int ((x1.peers.map Per.v).length:Int)),(23,.k,.int t1),(56,.k,.bool t2)],[.box (.agg [.sl 5 (o.sp.map Spk.v) false,.sl 3 (o.ls.map Lsn.v) false,.sl 10 (o.fl.map Sig.v) false]),.box (.agg [.int x1.router,.int x1.epoch,.int x1.last,.sl 4 (x1.items.map Itm.v) false,.sl 3 (x1.peers.map Per.v) false])]⟩
@[reducible] def setOv_s:Nat→Type
 | 0=>Int
 | 1=>Int
 | 2=>Bool
 | _=>Unit
def setOv_e(r:Bool):AV:=.bool r
def setOv_x(o:Ovl)(I0:Int→Prop)(m0:Int→Nat)(I1:Int→Spk→Int→Prop)(m1:Int→Spk→Int→Nat)(I2:Int→Spk→Int→Per→Lsn→Bool→Prop):Ax Tryz.prog setOv_s (Bool):=
 (.callP (validO_c o)
(.br 80 (!(decide (ovlOk o))) (.ret (false))
(.loop 0 (setOv_n0 o) I0 m0 ((0):Int) [0] fun (t0:Int) b0 =>
(.br 17 (decide (t0<((o.sp.map Spk.v).length:Int))) (.el 17 Spk.v o.sp (fun R=>Rf (o.sp.map Spk.v) (ck (decide (0≤t0)) (ck (decide (t0<(o.sp.length:Int)))
(∀x1,o.sp[t0.toNat]?=some x1 →
(R x1))))) fun x1 =>
(.loop 1 (setOv_n1 o t0 x1) (I1 t0 x1) (m1 t0 x1) ((0):Int) [0,49] fun (t1:Int) b1 =>
(.br 18 (decide (t1<((x1.peers.map Per.v).length:Int))) (.el 18 Per.v x1.peers (fun R=>Rf (x1.peers.map Per.v) (ck (decide (0≤t1)) (ck (decide (t1<(x1.peers.length:Int)))
(∀x2,x1.peers[t1.toNat]?=some x2 →
(R x2))))) fun x2 =>
(.req 130 (o.sp.Pairwise fun x y=>x.router<y.router) fun h3 =>
(.req 130 (o.sp.length≤1000000) fun h4 =>
(.callP (findS_c o x2.router h3 h4)
(.el 274 Lsn.v o.ls (fun R=>Rf (o.ls.map Lsn.v) (ck (decide (0≤(posS o.sp x2.router:Int))) (ck (decide ((posS o.sp x2.router:Int)<(o.ls.length:Int)))
(∀x5,o.ls[(posS o.sp x2.router:Int).toNat]?=some x5 →
(R x5))))) fun x5 =>
(.join 2 (setOv_n2 o t0 x1 t1) (fun (t2:Bool)=>I2 t0 x1 t1 x2 x5 t2) (fun b2=>(.callP (agree_c x1 x5)
(.br 418 (!(decide (agree x1 x5))) (.bk 2 b2 ((true):Bool) [0,1])
(.br 530 (x2.epoch != x5.epoch) (.bk 2 b2 ((true):Bool) [0,1])
(.bk 2 b2 ((x2.acked != x1.last):Bool) [0,1]))))) fun (t2:Bool) =>
(.br 2 t2 (.ret (false))
(.bk 1 b1 ((W (t1+1)):Int) [0,1]))))))))
(.bk 0 b0 ((W (t0+1)):Int) [0]))))
(.ret (true))))))
def setOv_vc(o:Ovl)(I0:Int→Prop)(m0:Int→Nat)(I1:Int→Spk→Int→Prop)(m1:Int→Spk→Int→Nat)(I2:Int→Spk→Int→Per→Lsn→Bool→Prop)(r0:Bool):Prop:=(setOv_x o I0 m0 I1 m1 I2).vp setOv_e r0
theorem setOv_p(o:Ovl)(ok:setOv_a o):∃I0 m0 I1 m1 I2,setOv_vc o I0 m0 I1 m1 I2 (decide (settledP o)):=by
 refine ⟨fun t=>∃k:Nat,t=k∧k≤o.sp.length∧∀s∈o.sp.take k,∀p∈s.peers,setAt o s p,fun t=>o.sp.length-t.toNat,
  fun _ x t=>∃j:Nat,t=j∧j≤x.peers.length∧∀p∈x.peers.take j,setAt o x p,fun _ x t=>x.peers.length-t.toNat,
  fun _ x _ p l t=>t=false↔(agree x l∧p.epoch=l.epoch∧p.acked=x.last),?_⟩
 dsimp only [setOv_vc,setOv_x,setOv_s,Ax.vp,Ax.vc];simp only [vcU,rfU,List.length_map]
 by_cases hv:ovlOk o
 case neg =>
  have:¬settledP o:=fun q=>hv q.1.1
  simp [hv,this]
 have hL:=hv.1.lens
 refine ⟨fun q=>absurd hv (by simpa using q),fun _=>⟨⟨0,rfl,by omega,by simp⟩,?_⟩⟩
 rintro _ ⟨k,rfl,hk,hI⟩
 simp only [Int.toNat_natCast]
 refine ⟨fun a1=>⟨by omega,by omega,fun x hx=>⟨⟨0,rfl,by omega,by simp⟩,?_⟩⟩,fun a1=>?_⟩
 ·have hxm:=mem_of_get hx
  have hxp:=(hv.1.spo x hxm).1.2.2.2.2.1
  rintro _ ⟨j,rfl,hj,hJ⟩
  simp only [Int.toNat_natCast]
  refine ⟨fun b1=>⟨by omega,by omega,fun p hp=>?_⟩,fun b1=>?_⟩
  ·obtain ⟨q1,q2,q3⟩:=peer_in hv.1 hxm (mem_of_get hp)
   obtain ⟨p1,p2,p3,p4⟩:=hv.1.pos q1
   refine ⟨hv.1.asc,by omega,by omega,by omega,fun l hl=>?_⟩
   cases p4.symm.trans hl
   refine ⟨⟨fun c1=>?_,fun c1=>⟨fun c2=>?_,fun c2=>?_⟩⟩,?_⟩
   ·have c1:¬agree x (atL o.sp o.ls p.router):=by simpa using c1
    simp [c1]
   ·have c2:¬p.epoch=(atL o.sp o.ls p.router).epoch:=by simpa using c2
    simp [c2]
   ·have c1:agree x (atL o.sp o.ls p.router):=by simpa using c1
    have c2:p.epoch=(atL o.sp o.ls p.router).epoch:=by simpa using c2
    simp [c1,c2]
   ·intro t2 h2
    refine ⟨fun e=>?_,fun e=>?_⟩
    ·subst e
     exact nodec fun q=>by
      have:=h2.mpr ((settled_iff hv).mp q x hxm p (mem_of_get hp))
      simp at this
    ·rw [W_succ (n:=x.peers.length) (by omega) (by omega)]
     exact ⟨⟨j+1,rfl,by omega,take_all hp hJ (h2.mp e)⟩,by omega⟩
  ·have ej:j=x.peers.length:=by omega
   rw [ej,List.take_length] at hJ
   rw [W_succ (n:=o.sp.length) (by omega) (by omega)]
   exact ⟨⟨k+1,rfl,by omega,take_all hx hI hJ⟩,by omega⟩
 ·have ek:k=o.sp.length:=by omega
  rw [ek,List.take_length] at hI
  exact (decide_eq_true ((settled_iff hv).mpr hI)).symm
def setOv_c(o:Ovl):PC Tryz.prog:=⟨11,[(.a [(.s 5),(.s 3),(.s 10)])],[.agg [.sl 5 (o.sp.map Spk.v) false,.sl 3 (o.ls.map Lsn.v) false,.sl 10 (o.fl.map Sig.v) false]],setOv_e (decide (settledP o)),PSpec.of_ok fun ok=>(setOv_p o ok).elim fun I0 h=>h.elim fun m0 h=>h.elim fun I1 h=>h.elim fun m1 h=>h.elim fun I2 h=>mxP_of (sh:=.k) (enc:=setOv_e) (a:=(setOv_x o I0 m0 I1 m1 I2).an) h (by kernel_rfl) (AV.pureB_ok rfl),fnB_ok (by kernel_rfl)⟩
theorem netOf_iff(l:List Int):ovlOk (netOf l)↔okR l:=by
 have er:rtrs (netOf l).sp=l:=by
  show (l.map (spkN l)).map Spk.router=l
  rw [List.map_map]
  exact List.map_id'' (fun x=>rfl) l
 constructor
 ·rintro ⟨h,_⟩
  rw [er] at h
  refine ⟨h.len,fun r hr=>?_,h.ascR⟩
  have:=(h.spo (spkN l r) (List.mem_map.mpr ⟨r,hr,rfl⟩)).1.1
  exact this
 ·intro h
  refine ⟨?_,by simp [netOf]⟩
  rw [er];exact netOf_net h
theorem new_N(l:List Int)(r:Int):new r 1 (others l r)=if spkOk (spkN l r) then (spkN l r,0) else (spk0,1):=rfl
def newOv_a(list:(List Int)):Prop:=okL [.sl 1 (list.map AV.int) false]
def newOv_n0(list:(List Int))(t0:Int×(List Lsn)×(List Spk)):NF:=⟨[(0,.k,.sl 1 (list.map AV.int) false),(2,.k,.ref 0 0),(4,.k,.ref 1 0),(9,.k,.sl 1 (list.map AV.int) false),(10,.k,.int ((list.map AV.int).length:Int)),(11,.k,.int t0.1)],[.box (.agg [.sl 0 [] true,.sl 0 [] true,.sl 0 [] true]),.box (.agg [.vec 2,.vec 3,.sl 0 [] true]),.vec 5 (t0.2.2.map Spk.v) (pureBL_map (fun _=>rfl) t0.2.2),.vec 3 (t0.2.1.map Lsn.v) (pureBL_map (fun _=>rfl) t0.2.1)]⟩
@[reducible] def newOv_s:Nat→Type
 | 0=>Int×(List Lsn)×(List Spk)
 | _=>Unit
def newOv_e(r:Ovl×Int):AV:=.tup [Ovl.v r.1,.int r.2]
def newOv_x(list:(List Int))(I0:(Int×(List Lsn)×(List Spk))→Prop)(m0:(Int×(List Lsn)×(List Spk))→Nat):Ax Tryz.prog newOv_s (Ovl×Int):=
 (.cmdL (.nilB 32 0 5) (.cmdL (.nilB 32 1 3) (.loop 0 (newOv_n0 list) I0 m0 (0,[],[]) [0,32,96,97] fun (t0:Int×(List Lsn)×(List Spk)) b0 =>
(.br 20 (decide (t0.1<((list.map AV.int).length:Int))) (.el 20 AV.int list (fun R=>Rf (list.map AV.int) (ck (decide (0≤t0.1)) (ck (decide (t0.1<(list.length:Int)))
(∀x1,list[t0.1.toNat]?=some x1 →
(R x1))))) fun x1 =>
(.req 116 (list.length≤1000000) fun h2 =>
(.callP (othersF_c list x1 h2)
(.req 132 ((others list x1).length≤1000000) fun h3 =>
(.callP (new_c x1 1 (others list x1) h3)
(.br 276 (((new x1 1 (others list x1)).2) != 0) (.ret ((⟨[],[],[]⟩:Ovl),1))
(.say (fun R=>Rf (α:=List AV) (t0.2.2.map Spk.v) (Rf (α:=List AV) [(Spk.v ((new x1 1 (others list x1)).1))]
(ck (decide (t0.2.2.length+1≤1000000))
R))) (.app 340 Spk.v t0.2.2 [(new x1 1 (others list x1)).1]
(.say (fun R=>Idt (t0.2.1.map Lsn.v) (Rf (α:=List AV) [.agg [.int x1,.int 1,.sl 0 [] true]]
(ck (decide ((t0.2.1.map Lsn.v).length+1≤1000000))
R))) (.app 436 (fun y:AV=>y) (t0.2.1.map Lsn.v) [.agg [.int x1,.int 1,.sl 0 [] true]]
(.say (fun R=>FitE (.a [.k,.k,(.s 4)]) Lsn.v t0.2.1 [(⟨x1,1,[]⟩:Lsn)] [.agg [.int x1,.int 1,.sl 0 [] true]] ∧
R) (.cmd (.wkV 436 (.a [.k,.k,(.s 4)]) Lsn.v (t0.2.1++[(⟨x1,1,[]⟩:Lsn)])) (.bk 0 b0 (W (t0.1+1),t0.2.1++[(⟨x1,1,[]⟩:Lsn)],t0.2.2++[(new x1 1 (others list x1)).1]) [0,1,340,436])))))))))))))
(.callP (validO_c (⟨t0.2.2,t0.2.1,[]⟩:Ovl))
(.say (ck (pureBLs [(t0.2.2.map Spk.v),(t0.2.1.map Lsn.v)])) (.br 68 (!(decide (ovlOk (⟨t0.2.2,t0.2.1,[]⟩:Ovl)))) (.ret ((⟨[],[],[]⟩:Ovl),1))
(.say (Rf (t0.2.1.map Lsn.v)) (.cmdL (.frzE 3 (t0.2.1.map Lsn.v) (pureBL_map (fun _=>rfl) t0.2.1)) (.say (Rf (t0.2.2.map Spk.v)) (.cmdL (.frzE 2 (t0.2.2.map Spk.v) (pureBL_map (fun _=>rfl) t0.2.2)) (.ret ((⟨t0.2.2,t0.2.1,[]⟩:Ovl),0)))))))))))))
def newOv_vc(list:(List Int))(I0:(Int×(List Lsn)×(List Spk))→Prop)(m0:(Int×(List Lsn)×(List Spk))→Nat)(r0:Ovl×Int):Prop:=(newOv_x list I0 m0).vp newOv_e r0
theorem newOv_p(l:List Int)(h:l.length≤1000)(ok:newOv_a l):∃I m,newOv_vc l I m (newN l):=by
 refine ⟨fun t=>∃k:Nat,t=((k:Int),(l.take k).map lsnN,(l.take k).map (spkN l))∧k≤l.length,fun t=>l.length-t.1.toNat,?_⟩
 dsimp only [newOv_vc,newOv_x,newOv_s,Ax.vp,Ax.vc];simp only [vcU,rfU,List.length_map]
 refine ⟨⟨0,rfl,by omega⟩,?_⟩
 rintro _ ⟨k,rfl,hk⟩
 simp only [Int.toNat_natCast]
 refine ⟨fun a1=>⟨by omega,by omega,fun x hx=>⟨by omega,by have:=List.length_filter_le (fun y=>decide (y≠x)) l;unfold others;omega,?_⟩⟩,fun a1=>?_⟩
 ·rw [new_N]
  refine ⟨fun q=>?_,fun q=>?_⟩
  ·have q:¬spkOk (spkN l x):=fun e=>by rw [if_pos e] at q;simp at q
   have:¬okR l:=fun e=>q (spkN_ok e (mem_of_get hx)).1
   rw [newN,if_neg this]
   simp [q,ovl0]
  ·have q:spkOk (spkN l x):=by
    by_cases e:spkOk (spkN l x)
    ·exact e
    ·rw [if_neg e] at q;simp at q
   rw [if_pos q,W_succ (n:=l.length) (by omega) (by omega)]
   refine ⟨by simp;omega,by simp;omega,fitE_one (fun _=>rfl) rfl,⟨k+1,?_,by omega⟩,by omega⟩
   rw [take_succ hx,List.map_append,List.map_append];rfl
 ·rw [List.take_of_length_le (by omega)]
  have e:(⟨l.map (spkN l),l.map lsnN,[]⟩:Ovl)=netOf l:=rfl
  rw [e]
  have hN:newN l=if okR l then (netOf l,0) else (ovl0,1):=rfl
  rw [hN]
  simp only [netOf_iff]
  refine ⟨by generalize l.map (spkN l)=A;generalize l.map lsnN=B;simp [pureBLs,pureBL_map (v:=Spk.v) (fun _=>rfl),pureBL_map (v:=Lsn.v) (fun _=>rfl)],fun q=>?_,fun q=>?_⟩
  ·rw [if_neg (by simpa using q)];rfl
  ·rw [if_pos (by simpa using q)]
def newOv_c(list:(List Int))(h:list.length≤1000):PC Tryz.prog:=⟨26,[(.s 1)],[.sl 1 (list.map AV.int) false],newOv_e (newN list),PSpec.of_ok fun ok=>(newOv_p list h ok).elim fun I0 h=>h.elim fun m0 h=>mxP_of (sh:=(.a [(.a [(.s 5),(.s 3),(.s 10)]),.k])) (enc:=newOv_e) (a:=(newOv_x list I0 m0).an) h (by kernel_rfl) (AV.pureB_ok rfl),fnB_ok (by kernel_rfl)⟩
def awakeO_a:Prop:=okL []
def awakeO_e(r:Bool):AV:=.bool r
def awakeO_x:Ax Tryz.prog noS (Bool):=
 (.req 96 ([1,2].length≤1000) fun h1 =>
(.callP (newOv_c [1,2] h1)
(.req 240 (((newN [1,2]).1).fl.length≤1000000) fun h2 =>
(.callP ((chgOv_c ((newN [1,2]).1) 2 [(⟨4,2,[]⟩:Wnt)] h2).wsh [.a [(.s 5),(.s 3),(.s 10)],.k,.v (.a [.k,.k,(.s 1)])])
(.req 352 (okRnd ((changeV ((newN [1,2]).1) 2 [(⟨4,2,[]⟩:Wnt)]).1) []) fun h3 =>
(.callP (rndOv_c ((changeV ((newN [1,2]).1) 2 [(⟨4,2,[]⟩:Wnt)]).1) [] h3)
(.callP (knwOv_c ((roundO ((changeV ((newN [1,2]).1) 2 [(⟨4,2,[]⟩:Wnt)]).1) []).1) 1 2)
(.req 576 (okRnd ((roundO ((changeV ((newN [1,2]).1) 2 [(⟨4,2,[]⟩:Wnt)]).1) []).1) []) fun h4 =>
(.callP (rndOv_c ((roundO ((changeV ((newN [1,2]).1) 2 [(⟨4,2,[]⟩:Wnt)]).1) []).1) [] h4)
(.callP (knwOv_c ((roundO ((roundO ((changeV ((newN [1,2]).1) 2 [(⟨4,2,[]⟩:Wnt)]).1) []).1) []).1) 1 2)
(.br 832 (((newN [1,2]).2)==0) (.br 896 (((changeV ((newN [1,2]).1) 2 [(⟨4,2,[]⟩:Wnt)]).2)==0) (.br 960 (((roundO ((changeV ((newN [1,2]).1) 2 [(⟨4,2,[]⟩:Wnt)]).1) []).2)==0) (.br 1024 (((knownV ((roundO ((changeV ((newN [1,2]).1) 2 [(⟨4,2,[]⟩:Wnt)]).1) []).1) 1 2).2)==0) (.br 1088 (((roundO ((roundO ((changeV ((newN [1,2]).1) 2 [(⟨4,2,[]⟩:Wnt)]).1) []).1) []).2)==0) (.br 1152 (((knownV ((roundO ((roundO ((changeV ((newN [1,2]).1) 2 [(⟨4,2,[]⟩:Wnt)]).1) []).1) []).1) 1 2).2)==0) (.br 1232 (((((knownV ((roundO ((changeV ((newN [1,2]).1) 2 [(⟨4,2,[]⟩:Wnt)]).1) []).1) 1 2).1).map Wnt.v).length:Int)==0) (.callP ((sameW_c ((knownV ((roundO ((roundO ((changeV ((newN [1,2]).1) 2 [(⟨4,2,[]⟩:Wnt)]).1) []).1) []).1) 1 2).1) [(⟨4,2,[]⟩:Wnt)]).wsh [.s 3,.v (.a [.k,.k,(.s 1)])])
(.br 1312 (decide (((knownV ((roundO ((roundO ((changeV ((newN [1,2]).1) 2 [(⟨4,2,[]⟩:Wnt)]).1) []).1) []).1) 1 2).1)=[(⟨4,2,[]⟩:Wnt)])) (.callP (quietO_c )
(.ret ((5:Int)==5)))
(.ret (false))))
(.ret (false)))
(.ret (false)))
(.ret (false)))
(.ret (false)))
(.ret (false)))
(.ret (false)))
(.ret (false)))))))))))))
def awakeO_vc(r0:Bool):Prop:=(awakeO_x).vp awakeO_e r0
theorem awakeO_p(ok:awakeO_a):awakeO_vc true:=by
 dsimp only [awakeO_vc,awakeO_x,noS,Ax.vp,Ax.vc];simp only [vcU,rfU,List.length_map]
 have h0:newN [1,2]=(netOf [1,2],0):=by decide +kernel
 have h1:(changeV (netOf [1,2]) 2 [⟨4,2,[]⟩]).2=0:=by decide +kernel
 have r1:okRnd (changeV (netOf [1,2]) 2 [⟨4,2,[]⟩]).1 []:=by unfold okRnd;decide +kernel
 have h2:(roundO (changeV (netOf [1,2]) 2 [⟨4,2,[]⟩]).1 []).2=0:=by decide +kernel
 have r2:okRnd (roundO (changeV (netOf [1,2]) 2 [⟨4,2,[]⟩]).1 []).1 []:=by unfold okRnd;decide +kernel
 have h3:knownV (roundO (changeV (netOf [1,2]) 2 [⟨4,2,[]⟩]).1 []).1 1 2=([],0):=by decide +kernel
 have h4:(roundO (roundO (changeV (netOf [1,2]) 2 [⟨4,2,[]⟩]).1 []).1 []).2=0:=by decide +kernel
 have h5:knownV (roundO (roundO (changeV (netOf [1,2]) 2 [⟨4,2,[]⟩]).1 []).1 []).1 1 2=([⟨4,2,[]⟩],0):=by decide +kernel
 rw [h0]
 simp only [h1,h2,h3,h4,h5]
 refine ⟨by decide,by simp [netOf],r1,r2,?_⟩
 simp
def awakeO_c:PC Tryz.prog:=⟨5,[],[],awakeO_e true,PSpec.of_ok fun ok=>mxP_of (sh:=.k) (enc:=awakeO_e) (a:=(awakeO_x).an) (awakeO_p ok) (by kernel_rfl) (AV.pureB_ok rfl),fnB_ok (by kernel_rfl)⟩
def fltsT_a(L:(List Int))(p:Nat)(n:Int):Prop:=okL [.ref 0 0,.int n]∧(.box (.agg [.sl 1 (L.map AV.int) false,.int ((p:Nat):Int)]):Blk).ok
def fltsT_n0(L:(List Int))(n:Int)(t0:Int×Nat×(List Fau)):NF:=⟨[(0,.k,.ref 0 0),(1,.k,.int n),(5,.k,.vec 1),(6,.k,.int t0.1)],[.box (.agg [.sl 1 (L.map AV.int) false,.int ((t0.2.1:Nat):Int)]),.vec 2 (t0.2.2.map Fau.v) (pureBL_map (fun _=>rfl) t0.2.2)]⟩
@[reducible] def fltsT_s:Nat→Type
 | 0=>Int×Nat×(List Fau)
 | _=>Unit
def fltsT_e(r:Tap×(List Fau)):AV:=.sl 2 (r.2.map Fau.v) false
def fltsT_b(r:Tap×(List Fau)):List (Option Blk):=[some (.box (.agg [.sl 1 (r.1.L.map AV.int) false,.int ((r.1.p:Nat):Int)]))]
def fltsT_x(L:(List Int))(p:Nat)(n:Int)(I0:(Int×Nat×(List Fau))→Prop)(m0:(Int×Nat×(List Fau))→Nat):Ax Tryz.prog fltsT_s (Tap×(List Fau)):=
 (.callH [0] (N_h L p 4) 49
(.cmdL (.nilT 5 2) (.loop 0 (fltsT_n0 L n) I0 m0 (Mod (rawV L p) 4,rawP L p,[]) [0,81] fun (t0:Int×Nat×(List Fau)) b0 =>
(.br 34 (decide (0<t0.1)) (.callH [0] (Range_h L t0.2.1 0 5) 66
(.callH [0] (N_h L (rawP L t0.2.1) (W (n+2))) 130
(.say (fun R=>Rf (α:=List AV) (t0.2.2.map Fau.v) (Rf (α:=List AV) [.agg [.int (rng L t0.2.1 0 5),.int (Mod (rawV L (rawP L t0.2.1)) (W (n+2)))]]
(ck (decide (t0.2.2.length+1≤1000000))
R))) (.app 178 Fau.v t0.2.2 [(⟨rng L t0.2.1 0 5,Mod (rawV L (rawP L t0.2.1)) (W (n+2))⟩:Fau)]
(.bk 0 b0 (W (t0.1-1),rawP L (rawP L t0.2.1),t0.2.2++[(⟨rng L t0.2.1 0 5,Mod (rawV L (rawP L t0.2.1)) (W (n+2))⟩:Fau)]) [0,178])))))
(.say (Rf (t0.2.2.map Fau.v)) (.cmdL (.frzE 1 (t0.2.2.map Fau.v) (pureBL_map (fun _=>rfl) t0.2.2)) (.retH ((⟨L,t0.2.1⟩:Tap),t0.2.2) ⟨[(4,.k,.sl 2 (t0.2.2.map Fau.v) false)],[.box (.agg [.sl 1 (L.map AV.int) false,.int ((t0.2.1:Nat):Int)])]⟩ [0])))))))
def fltsT_vc(L:(List Int))(p:Nat)(n:Int)(I0:(Int×Nat×(List Fau))→Prop)(m0:(Int×Nat×(List Fau))→Nat)(r0:Tap×(List Fau)):Prop:=(fltsT_x L p n I0 m0).vc fltsT_e fltsT_b r0
theorem fltsT_p(L:List Int)(p:Nat)(n:Int)(h:0≤n∧n≤1000000)(ok:fltsT_a L p n):∃I m,fltsT_vc L p n I m ((⟨L,(faultsT L n p).2⟩:Tap),(faultsT L n p).1):=by
 have hm:=Mod_range (x:=rawV L p) (n:=4) (by omega)
 refine ⟨fun t=>∃k:Nat,t.1=k∧k≤4∧t.2.2.length+k≤4∧faultsL L n k t.2.2 t.2.1=faultsT L n p,fun t=>t.1.toNat,?_⟩
 dsimp only [fltsT_vc,fltsT_x,fltsT_s,Ax.vp,Ax.vc];simp only [vcU,rfU,List.length_map]
 refine ⟨⟨(Mod (rawV L p) 4).toNat,by omega,by omega,by simp;omega,rfl⟩,?_⟩
 rintro ⟨i,q,out⟩ ⟨k,hk,hk4,hl,hf⟩
 simp only at hk hl hf
 subst hk
 simp only [Int.toNat_natCast]
 refine ⟨fun h1=>⟨by omega,?_,?_⟩,fun h1=>?_⟩
 ·obtain ⟨j,rfl⟩:∃j,k=j+1:=⟨k-1,by omega⟩
  rw [W_eq (by omega)]
  refine ⟨j,by omega,by omega,by simp;omega,?_⟩
  rw [faultsL] at hf
  exact hf
 ·rw [W_eq (by omega)];omega
 ·have:k=0:=by omega
  subst this
  rw [←hf];rfl
def fltsT_h(L:(List Int))(p:Nat)(n:Int)(h:0≤n∧n≤1000000):HC Tryz.prog:=⟨15,[.k,.k],[.ref 0 0,.int n],[.box (.agg [.sl 1 (L.map AV.int) false,.int ((p:Nat):Int)])],fltsT_e ((⟨L,(faultsT L n p).2⟩:Tap),(faultsT L n p).1),fltsT_b ((⟨L,(faultsT L n p).2⟩:Tap),(faultsT L n p).1),HSpec.of_okh fun ok ok2=>have ok:fltsT_a L p n:=⟨ok,ok2 _ (by simp)⟩;(fltsT_p L p n h ok).elim fun I0 h=>h.elim fun m0 h=>mxH_of (sh:=(.s 2)) (enc:=fltsT_e) (hB:=fltsT_b) (a:=(fltsT_x L p n I0 m0).an) h (by kernel_rfl),fnB_ok (by kernel_rfl),HcOk.of (by simp [hcB,belBL,AV.belB,allB,okBk,okBkO,fltsT_e,fltsT_b,pureBL_map (v:=AV.int) (fun _=>rfl)])⟩
def arrR_a(l:(List Sig))(faults:(List Fau)):Prop:=okL [.sl 10 (l.map Sig.v) false,.sl 2 (faults.map Fau.v) false]
def arrR_n0(faults:(List Fau))(t0:Int×(List Sig)×(List Sig)):NF:=⟨[(6,.k,.vec 0),(7,.k,.vec 1),(15,.k,.sl 2 (faults.map Fau.v) false),(16,.k,.int ((faults.map Fau.v).length:Int)),(17,.k,.int t0.1)],[.vec 10 (t0.2.1.map Sig.v) (pureBL_map (fun _=>rfl) t0.2.1),.vec 10 (t0.2.2.map Sig.v) (pureBL_map (fun _=>rfl) t0.2.2)]⟩
def arrR_n1(faults:(List Fau))(t0:Int×(List Sig)×(List Sig))(x1:Fau)(t1:Bool):NF:=⟨[(6,.k,.vec 0),(7,.k,.vec 1),(9,.k,.ref 2 0),(15,.k,.sl 2 (faults.map Fau.v) false),(16,.k,.int ((faults.map Fau.v).length:Int)),(17,.k,.int t0.1),(30,.k,.bool t1)],[.vec 10 (t0.2.1.map Sig.v) (pureBL_map (fun _=>rfl) t0.2.1),.vec 10 (t0.2.2.map Sig.v) (pureBL_map (fun _=>rfl) t0.2.2),.box (.agg [.int x1.kind,.int x1.pos])]⟩
@[reducible] def arrR_s:Nat→Type
 | 0=>Int×(List Sig)×(List Sig)
 | 1=>Bool
 | _=>Unit
def arrR_e(r:(List Sig)×(List Sig)):AV:=.tup [.vec 0,.vec 1]
def arrR_b(r:(List Sig)×(List Sig)):List (Option Blk):=[some (.vec 10 (r.1.map Sig.v)),some (.vec 10 (r.2.map Sig.v))]
def arrR_x(l:(List Sig))(faults:(List Fau))(I0:(Int×(List Sig)×(List Sig))→Prop)(m0:(Int×(List Sig)×(List Sig))→Nat)(I1:Int×(List Sig)×(List Sig)→Fau→Bool→Prop):Ax Tryz.prog arrR_s ((List Sig)×(List Sig)):=
 (.say (fun R=>Rf (α:=List AV) [] (Rf (α:=List AV) (l.map Sig.v)
(ck (decide (0+l.length≤1000000))
R))) (.app 64 Sig.v [] l
(.cmdL (.nilT 7 10) (.loop 0 (arrR_n0 faults) I0 m0 (0,l,[]) [64,160] fun (t0:Int×(List Sig)×(List Sig)) b0 =>
(.br 18 (decide (t0.1<((faults.map Fau.v).length:Int))) (.el 18 Fau.v faults (fun R=>Rf (faults.map Fau.v) (ck (decide (0≤t0.1)) (ck (decide (t0.1<(faults.length:Int)))
(∀x1,faults[t0.1.toNat]?=some x1 →
(R x1))))) fun x1 =>
(.pass (.join 1 (arrR_n1 faults t0 x1) (fun (t1:Bool)=>I1 t0 x1 t1) (fun b1=>(.br 146 (decide (x1.pos<0)) (.bk 1 b1 ((true):Bool) [0,1,50])
(.bk 1 b1 ((decide (((t0.2.1.map Sig.v).length:Int)≤x1.pos)):Bool) [0,1,50]))) fun (t1:Bool) =>
(.br 3 t1 (.bk 0 b0 (W (t0.1+1),t0.2.1,t0.2.2) [0,1])
(.say (ck (cond (decide (0≤x1.pos)) (decide (x1.pos<((t0.2.1.map Sig.v).length:Int))) false)) (.el 67 Sig.v t0.2.1 (fun R=>Rf (t0.2.1.map Sig.v) (ck (decide (x1.pos.toNat<t0.2.1.length))
(∀x2,t0.2.1[x1.pos.toNat]?=some x2 →
(R x2)))) fun x2 =>
(.say (fun R=>Rf (t0.2.1.map Sig.v) (ck (decide (0<t0.2.1.length))
R)) (.sub 195 Sig.v t0.2.1 false
(.say (fun R=>ck (bndB t0.2.1.length (W (x1.pos+1)) (t0.2.1.length:Int) (t0.2.1.length:Int))
((ck (decide ((W (x1.pos+1)).toNat+((t0.2.1.length:Int)-(W (x1.pos+1))).toNat≤(t0.2.1.map Sig.v).length))
(Rf (α:=List AV) [] (((((t0.2.1.map Sig.v).drop ((W (x1.pos+1)).toNat)).take (((t0.2.1.length:Int)-(W (x1.pos+1))).toNat))=((t0.2.1.drop ((W (x1.pos+1)).toNat)).take (((t0.2.1.length:Int)-(W (x1.pos+1))).toNat)).map Sig.v) ∧
(ck (decide (0+((t0.2.1.drop ((W (x1.pos+1)).toNat)).take (((t0.2.1.length:Int)-(W (x1.pos+1))).toNat)).length≤1000000))
R)))))) (.app 211 Sig.v [] ((t0.2.1.drop ((W (x1.pos+1)).toNat)).take (((t0.2.1.length:Int)-(W (x1.pos+1))).toNat))
(.br 307 (x1.kind==1) (.say (fun R=>Rf (t0.2.1.map Sig.v) (ck (decide (0<t0.2.1.length))
R)) (.sub 387 Sig.v t0.2.1 false
(.say (fun R=>ck (decide (x1.pos=x1.pos))
((ck (bndB t0.2.1.length 0 x1.pos x1.pos)
((Rf (α:=List AV) ((t0.2.1.take x1.pos.toNat).map Sig.v) (Rf (α:=List AV) (((t0.2.1.drop ((W (x1.pos+1)).toNat)).take (((t0.2.1.length:Int)-(W (x1.pos+1))).toNat)).map Sig.v)
(ck (decide ((t0.2.1.take x1.pos.toNat).length+((t0.2.1.drop ((W (x1.pos+1)).toNat)).take (((t0.2.1.length:Int)-(W (x1.pos+1))).toNat)).length≤1000000))
R))))))) (.app 419 Sig.v (t0.2.1.take x1.pos.toNat) ((t0.2.1.drop ((W (x1.pos+1)).toNat)).take (((t0.2.1.length:Int)-(W (x1.pos+1))).toNat))
(.bk 0 b0 (W (t0.1+1),(t0.2.1.take x1.pos.toNat)++((t0.2.1.drop ((W (x1.pos+1)).toNat)).take (((t0.2.1.length:Int)-(W (x1.pos+1))).toNat)),t0.2.2) [419,1])))))
(.br 339 (x1.kind==2) (.say (fun R=>Rf (t0.2.1.map Sig.v) (ck (decide (0<t0.2.1.length))
R)) (.sub 419 Sig.v t0.2.1 false
(.say (fun R=>ck (decide (x1.pos=x1.pos))
((ck (bndB t0.2.1.length 0 x1.pos x1.pos)
((Rf (α:=List AV) ((t0.2.1.take x1.pos.toNat).map Sig.v) (Rf (α:=List AV) [.agg [.int x2.kind,.int x2.src,.int x2.dst,.int x2.epoch,.int x2.ver,.int x2.prev,.int x2.pep,.int x2.grp,.int x2.mode,.sl 1 (x2.srcs.map AV.int) false],.agg [.int x2.kind,.int x2.src,.int x2.dst,.int x2.epoch,.int x2.ver,.int x2.prev,.int x2.pep,.int x2.grp,.int x2.mode,.sl 1 (x2.srcs.map AV.int) false]]
(ck (decide ((t0.2.1.take x1.pos.toNat).length+2≤1000000))
R))))))) (.app 483 Sig.v (t0.2.1.take x1.pos.toNat) [x2,x2]
(.say (fun R=>Rf (α:=List AV) (((t0.2.1.take x1.pos.toNat)++[x2,x2]).map Sig.v) (Rf (α:=List AV) (((t0.2.1.drop ((W (x1.pos+1)).toNat)).take (((t0.2.1.length:Int)-(W (x1.pos+1))).toNat)).map Sig.v)
(ck (decide (((t0.2.1.take x1.pos.toNat)++[x2,x2]).length+((t0.2.1.drop ((W (x1.pos+1)).toNat)).take (((t0.2.1.length:Int)-(W (x1.pos+1))).toNat)).length≤1000000))
R))) (.app 515 Sig.v ((t0.2.1.take x1.pos.toNat)++[x2,x2]) ((t0.2.1.drop ((W (x1.pos+1)).toNat)).take (((t0.2.1.length:Int)-(W (x1.pos+1))).toNat))
(.bk 0 b0 (W (t0.1+1),((t0.2.1.take x1.pos.toNat)++[x2,x2])++((t0.2.1.drop ((W (x1.pos+1)).toNat)).take (((t0.2.1.length:Int)-(W (x1.pos+1))).toNat)),t0.2.2) [515,1])))))))
(.br 371 (x1.kind==3) (.say (fun R=>Rf (t0.2.1.map Sig.v) (ck (decide (0<t0.2.1.length))
R)) (.sub 451 Sig.v t0.2.1 false
(.say (fun R=>ck (decide (x1.pos=x1.pos))
((ck (bndB t0.2.1.length 0 x1.pos x1.pos)
((Rf (α:=List AV) ((t0.2.1.take x1.pos.toNat).map Sig.v) (Rf (α:=List AV) (((t0.2.1.drop ((W (x1.pos+1)).toNat)).take (((t0.2.1.length:Int)-(W (x1.pos+1))).toNat)).map Sig.v)
(ck (decide ((t0.2.1.take x1.pos.toNat).length+((t0.2.1.drop ((W (x1.pos+1)).toNat)).take (((t0.2.1.length:Int)-(W (x1.pos+1))).toNat)).length≤1000000))
R))))))) (.app 483 Sig.v (t0.2.1.take x1.pos.toNat) ((t0.2.1.drop ((W (x1.pos+1)).toNat)).take (((t0.2.1.length:Int)-(W (x1.pos+1))).toNat))
(.say (fun R=>Rf (α:=List AV) (t0.2.2.map Sig.v) (Rf (α:=List AV) [.agg [.int x2.kind,.int x2.src,.int x2.dst,.int x2.epoch,.int x2.ver,.int x2.prev,.int x2.pep,.int x2.grp,.int x2.mode,.sl 1 (x2.srcs.map AV.int) false]]
(ck (decide (t0.2.2.length+1≤1000000))
R))) (.app 563 Sig.v t0.2.2 [x2]
(.bk 0 b0 (W (t0.1+1),(t0.2.1.take x1.pos.toNat)++((t0.2.1.drop ((W (x1.pos+1)).toNat)).take (((t0.2.1.length:Int)-(W (x1.pos+1))).toNat)),t0.2.2++[x2]) [483,563])))))))
(.br 403 (x1.kind==4) (.br 499 (decide ((W (x1.pos+1))<((t0.2.1.map Sig.v).length:Int))) (.say (ck (cond (decide (0≤(W (x1.pos+1)))) (decide ((W (x1.pos+1))<((t0.2.1.map Sig.v).length:Int))) false)) (.el 691 Sig.v t0.2.1 (fun R=>Rf (t0.2.1.map Sig.v) (ck (decide ((W (x1.pos+1)).toNat<t0.2.1.length))
(∀x3,t0.2.1[(W (x1.pos+1)).toNat]?=some x3 →
(R x3)))) fun x3 =>
(.say (ck (cond (decide (0≤x1.pos)) (decide (x1.pos<((t0.2.1.map Sig.v).length:Int))) false)) (.st 739 Sig.v t0.2.1 (fun y4=>x3) (fun R=>Rf (t0.2.1.map Sig.v) (ck (decide (x1.pos.toNat<t0.2.1.length))
(∀y4,t0.2.1[x1.pos.toNat]?=some y4→Rf (Sig.v x3)
((R y4))))) fun y4 =>
(.say (ck (cond (decide (0≤(W (x1.pos+1)))) (decide ((W (x1.pos+1))<(((t0.2.1.set x1.pos.toNat x3).map Sig.v).length:Int))) false)) (.st 771 Sig.v (t0.2.1.set x1.pos.toNat x3) (fun y5=>x2) (fun R=>Rf ((t0.2.1.set x1.pos.toNat x3).map Sig.v) (ck (decide ((W (x1.pos+1)).toNat<(t0.2.1.set x1.pos.toNat x3).length))
(∀y5,(t0.2.1.set x1.pos.toNat x3)[(W (x1.pos+1)).toNat]?=some y5→Rf (Sig.v x2)
((R y5))))) fun y5 =>
(.bk 0 b0 (W (t0.1+1),(t0.2.1.set x1.pos.toNat x3).set ((W (x1.pos+1)).toNat) x2,t0.2.2) [0,1])))))))
(.bk 0 b0 (W (t0.1+1),t0.2.1,t0.2.2) [0,1]))
(.bk 0 b0 (W (t0.1+1),t0.2.1,t0.2.2) [0,1])))))))))))))))
(.retH (t0.2.1,t0.2.2) ⟨[(4,.k,.vec 0),(5,.k,.vec 1)],[.vec 10 (t0.2.1.map Sig.v) (pureBL_map (fun _=>rfl) t0.2.1),.vec 10 (t0.2.2.map Sig.v) (pureBL_map (fun _=>rfl) t0.2.2)]⟩ [0,1]))))))
def arrR_vc(l:(List Sig))(faults:(List Fau))(I0:(Int×(List Sig)×(List Sig))→Prop)(m0:(Int×(List Sig)×(List Sig))→Nat)(I1:Int×(List Sig)×(List Sig)→Fau→Bool→Prop)(r0:(List Sig)×(List Sig)):Prop:=(arrR_x l faults I0 m0 I1).vc arrR_e arrR_b r0
theorem arrR_p(l:List Sig)(f:List Fau)(h:okArr l f)(ok:arrR_a l f):∃I0 m0 I1,arrR_vc l f I0 m0 I1 (arr l f):=by
 obtain ⟨h1,h2,h3⟩:=h
 refine ⟨fun t=>∃k:Nat,t=((k:Int),((f.take k).foldl arr1 (l,[])).1,((f.take k).foldl arr1 (l,[])).2)∧k≤f.length,fun t=>f.length-t.1.toNat,
  fun t0 x t=>t=decide (x.pos<0∨(t0.2.1.length:Int)≤x.pos),?_⟩
 dsimp only [arrR_vc,arrR_x,arrR_s,Ax.vp,Ax.vc];simp only [vcU,rfU,List.length_map]
 refine ⟨by omega,⟨0,rfl,by omega⟩,?_⟩
 rintro _ ⟨k,rfl,hk⟩
 have hlen:=arrs_len (f:=f.take k) (s:=(l,[]))
 have hst:∀x,f[k]?=some x→(f.take (k+1)).foldl arr1 (l,[])=arr1 ((f.take k).foldl arr1 (l,[])) x:=fun x hx=>by rw [take_succ hx,List.foldl_append];rfl
 have hend:k=f.length→(f.take k).foldl arr1 (l,[])=arr l f:=fun e=>by rw [e,List.take_length];rfl
 generalize (f.take k).foldl arr1 (l,[])=s at *
 obtain ⟨now,late⟩:=s
 rw [List.length_take] at hlen
 simp only [Int.toNat_natCast,List.length_nil] at hlen ⊢
 refine ⟨fun a1=>⟨by omega,by omega,fun x hx=>⟨⟨fun c=>?_,fun c=>?_⟩,?_⟩⟩,fun a1=>?_⟩
 ·simp [c]
 ·exact decide_eq_decide.mpr (by omega)
 ·have e1:=hst x hx
  intro t1 ht1
  rw [W_succ (n:=f.length) (by omega) (by omega)]
  have fin:∀a b,arr1 (now,late) x=(a,b)→(∃k_1:Nat,(((k+1:Nat):Int),a,b)=((k_1:Int),((f.take k_1).foldl arr1 (l,[])).1,((f.take k_1).foldl arr1 (l,[])).2)∧k_1≤f.length)∧f.length-((k+1:Nat):Int).toNat<f.length-k:=fun a b e =>
   ⟨⟨k+1,by rw [e1,e],by omega⟩,by omega⟩
  refine ⟨fun e=>fin _ _ (if_pos (of_decide_eq_true (ht1.symm.trans e))),fun e=>?_⟩
  have hb:¬(x.pos<0∨(now.length:Int)≤x.pos):=of_decide_eq_false (ht1.symm.trans e)
  have e2:arr1 (now,late) x=arrK now late x.kind x.pos.toNat (now.getD x.pos.toNat sig0):=if_neg hb
  obtain ⟨n,hn⟩:∃n:Nat,x.pos=n:=⟨x.pos.toNat,by omega⟩
  rw [hn] at e2 hb ⊢
  simp only [Int.toNat_natCast] at e2 ⊢
  have hW:W ((n:Int)+1)=((n+1:Nat):Int):=by rw [W_eq (by omega)];omega
  rw [hW]
  simp only [Int.toNat_natCast]
  have hr:(now.drop (n+1)).take ((now.length:Int)-((n+1:Nat):Int)).toNat=now.drop (n+1):=List.take_of_length_le (by simp;omega)
  have hdl:(now.drop (n+1)).length=now.length-(n+1):=List.length_drop ..
  have htl:(now.take n).length≤n:=List.length_take_le ..
  rw [hr]
  have hbn:bndB now.length 0 (n:Int) (n:Int)=true:=by simp [bndB];omega
  refine ⟨by simp;omega,by omega,fun y hy=>?_⟩
  rw [getD_some hy] at e2
  refine ⟨by omega,by simp [bndB];omega,by omega,by rw [←hr,List.map_take,List.map_drop],by omega,?_⟩
  refine ⟨fun c1=>⟨by omega,trivial,hbn,by omega,fin _ _ ?_⟩,fun c1=>⟨fun c2=>⟨by omega,trivial,hbn,by omega,by simp;omega,fin _ _ ?_⟩,fun c2=>⟨fun c3=>⟨by omega,trivial,hbn,by omega,by omega,fin _ _ ?_⟩,fun c3=>⟨fun c4=>⟨fun d=>?_,fun d=>fin _ _ ?_⟩,fun c4=>fin _ _ ?_⟩⟩⟩⟩
  ·rw [e2,arrK,if_pos (by simpa using c1)]
  ·rw [e2,arrK,if_neg (by simpa using c1),if_pos (by simpa using c2)]
  ·rw [e2,arrK,if_neg (by simpa using c1),if_neg (by simpa using c2),if_pos (by simpa using c3)]
  ·refine ⟨by simp;omega,by omega,fun z hz=>⟨by simp;omega,by omega,fun u hu=>⟨by simp;omega,by simp;omega,fun v hv=>fin _ _ ?_⟩⟩⟩
   rw [e2,arrK,if_neg (by simpa using c1),if_neg (by simpa using c2),if_neg (by simpa using c3),if_pos (by simpa using c4),if_pos (by omega),getD_some hz]
  ·rw [e2,arrK,if_neg (by simpa using c1),if_neg (by simpa using c2),if_neg (by simpa using c3),if_pos (by simpa using c4),if_neg (by omega)]
  ·rw [e2,arrK,if_neg (by simpa using c1),if_neg (by simpa using c2),if_neg (by simpa using c3),if_neg (by simpa using c4)]
 ·rw [←hend (by omega)]
def arrR_h(l:(List Sig))(faults:(List Fau))(h:okArr l faults):HC Tryz.prog:=⟨64,[(.s 10),(.s 2)],[.sl 10 (l.map Sig.v) false,.sl 2 (faults.map Fau.v) false],[],arrR_e (arr l faults),arrR_b (arr l faults),HSpec.of_okh fun ok _=>(arrR_p l faults h ok).elim fun I0 h=>h.elim fun m0 h=>h.elim fun I1 h=>mxH_of (sh:=.k) (enc:=arrR_e) (hB:=arrR_b) (a:=(arrR_x l faults I0 m0 I1).an) h (by kernel_rfl),fnB_ok (by kernel_rfl),HcOk.of (by simp [hcB,belBL,AV.belB,allB,okBk,okBkO,arrR_e,arrR_b,pureBL_map (v:=Fau.v) (fun _=>rfl),pureBL_map (v:=Sig.v) (fun _=>rfl)])⟩
def idxS(l:List Spk)(r:Int):Int:=match l.findIdx? fun p=>decide (p.router=r) with
 | some i=>i
 | none=>-1
theorem idxS_some{l:List Spk}{r:Int}{i:Nat}{x:Spk}(hx:l[i]?=some x)(h:x.router=r)(hb:∀y∈l.take i,y.router≠r):idxS l r=i:=by
 obtain ⟨hi,hxi⟩:=List.getElem?_eq_some_iff.mp hx
 have:l.findIdx? (fun p=>decide (p.router=r))=some i:=by
  rw [List.findIdx?_eq_some_iff_getElem]
  refine ⟨hi,by rw [hxi];simpa using h,fun j hj=>?_⟩
  have:=hb l[j] (List.mem_of_getElem? (i:=j) (by rw [List.getElem?_take,if_pos hj,List.getElem?_eq_getElem (by omega)]))
  simpa using this
 unfold idxS;rw [this]
theorem idxS_none{l:List Spk}{r:Int}(hb:∀y∈l,y.router≠r):idxS l r=-1:=by
 have:l.findIdx? (fun p=>decide (p.router=r))=none:=by
  rw [List.findIdx?_eq_none_iff]
  intro x hx;simpa using hb x hx
 unfold idxS;rw [this]
def idxSF_a(o:Ovl)(router:Int):Prop:=okL [.agg [.sl 5 (o.sp.map Spk.v) false,.sl 3 (o.ls.map Lsn.v) false,.sl 10 (o.fl.map Sig.v) false],.int router]
def idxSF_n0(o:Ovl)(router:Int)(t0:Int):NF:=⟨[(1,.k,.int router),(8,.k,.sl 5 (o.sp.map Spk.v) false),(9,.k,.int ((o.sp.map Spk.v).length:Int)),(10,.k,.int t0)],[]⟩
@[reducible] def idxSF_s:Nat→Type
 | 0=>Int
 | _=>Unit
def idxSF_e(r:Int):AV:=.int r
def idxSF_x(o:Ovl)(router:Int)(I0:Int→Prop)(m0:Int→Nat):Ax Tryz.prog idxSF_s (Int):=
 (.loop 0 (idxSF_n0 o router) I0 m0 ((0):Int) [] fun (t0:Int) b0 =>
(.br 16 (decide (t0<((o.sp.map Spk.v).length:Int))) (.el 32 Spk.v o.sp (fun R=>Rf (o.sp.map Spk.v) (ck (decide (0≤t0)) (ck (decide (t0<(o.sp.length:Int)))
(∀x1,o.sp[t0.toNat]?=some x1 →
(R x1))))) fun x1 =>
(.br 176 (x1.router==router) (.ret (t0))
(.bk 0 b0 ((W (t0+1)):Int) [])))
(.ret (-1))))
def idxSF_vc(o:Ovl)(router:Int)(I0:Int→Prop)(m0:Int→Nat)(r0:Int):Prop:=(idxSF_x o router I0 m0).vp idxSF_e r0
theorem idxSF_p(o:Ovl)(r:Int)(ok:idxSF_a o r):∃I m,idxSF_vc o r I m (idxS o.sp r):=by
 unfold idxSF_a at ok
 have hle:o.sp.length≤9223372036854775807:=by
  have h:=ok
  simp only [okL,AV.ok,List.length_map,maxLen_eq] at h
  omega
 refine ⟨fun t=>∃k:Nat,t=k∧k≤o.sp.length∧∀x∈o.sp.take k,x.router≠r,fun t=>o.sp.length-t.toNat,?_⟩
 dsimp only [idxSF_vc,idxSF_x,idxSF_s,Ax.vp,Ax.vc];simp only [vcU,rfU,List.length_map]
 refine ⟨⟨0,rfl,by omega,by simp⟩,?_⟩
 rintro _ ⟨k,rfl,hk,hI⟩
 simp only [Int.toNat_natCast]
 refine ⟨fun h1=>⟨by omega,by omega,fun x hx=>⟨fun e=>?_,fun e=>?_⟩⟩,fun h1=>?_⟩
 ·rw [idxS_some hx (by simpa using e) hI]
 ·rw [W_succ (n:=o.sp.length) (by omega) (by omega)]
  exact ⟨⟨k+1,rfl,by omega,(mem_take_succ hx).mpr ⟨hI,by simpa using e⟩⟩,by omega⟩
 ·rw [List.take_of_length_le (by omega)] at hI
  rw [idxS_none hI]
def idxSF_c(o:Ovl)(router:Int):PC Tryz.prog:=⟨45,[(.a [(.s 5),(.s 3),(.s 10)]),.k],[.agg [.sl 5 (o.sp.map Spk.v) false,.sl 3 (o.ls.map Lsn.v) false,.sl 10 (o.fl.map Sig.v) false],.int router],idxSF_e (idxS o.sp router),PSpec.of_ok fun ok=>(idxSF_p o router ok).elim fun I0 h=>h.elim fun m0 h=>mxP_of (sh:=.k) (enc:=idxSF_e) (a:=(idxSF_x o router I0 m0).an) h (by kernel_rfl) (AV.pureB_ok rfl),fnB_ok (by kernel_rfl)⟩
theorem idxS_asc{o:Ovl}(h:ovlOk o)(r:Int):idxS o.sp r=if r∈rtrs o.sp then (posS o.sp r:Int) else -1:=by
 by_cases hr:r∈rtrs o.sp
 ·rw [if_pos hr]
  obtain ⟨p1,p2,p3,p4⟩:=h.1.pos hr
  refine idxS_some p3 (h.1.s hr).2 fun y hy=>?_
  obtain ⟨i,hi,rfl⟩:=List.getElem_of_mem hy
  rw [List.length_take] at hi
  rw [List.getElem_take]
  have:=posK_lt (key:=Spk.router) (l:=o.sp) (r:=r) (i:=i) (show i<posS o.sp r by omega) (by omega)
  omega
 ·rw [if_neg hr]
  exact idxS_none fun y hy e=>hr (List.mem_map.mpr ⟨y,hy,e⟩)
def copR_a(o:Ovl):Prop:=okL [.agg [.sl 5 (o.sp.map Spk.v) false,.sl 3 (o.ls.map Lsn.v) false,.sl 10 (o.fl.map Sig.v) false]]
def copR_e(r:Ovl):AV:=.agg [.vec 0,.vec 1,.vec 2]
def copR_b(r:Ovl):List (Option Blk):=[some (.vec 5 (r.sp.map Spk.v)),some (.vec 3 (r.ls.map Lsn.v)),some (.vec 10 (r.fl.map Sig.v))]
def copR_x(o:Ovl):Ax Tryz.prog noS (Ovl):=
 (.say (fun R=>Rf (α:=List AV) [] (Rf (α:=List AV) (o.sp.map Spk.v)
(ck (decide (0+o.sp.length≤1000000))
R))) (.app 80 Spk.v [] o.sp
(.say (fun R=>Rf (α:=List AV) [] (Rf (α:=List AV) (o.ls.map Lsn.v)
(ck (decide (0+o.ls.length≤1000000))
R))) (.app 144 Lsn.v [] o.ls
(.say (fun R=>Rf (α:=List AV) [] (Rf (α:=List AV) (o.fl.map Sig.v)
(ck (decide (0+o.fl.length≤1000000))
R))) (.app 208 Sig.v [] o.fl
(.retH o ⟨[(2,.k,.ref 3 0)],[.vec 5 (o.sp.map Spk.v) (pureBL_map (fun _=>rfl) o.sp),.vec 3 (o.ls.map Lsn.v) (pureBL_map (fun _=>rfl) o.ls),.vec 10 (o.fl.map Sig.v) (pureBL_map (fun _=>rfl) o.fl),.box (.agg [.vec 0,.vec 1,.vec 2])]⟩ [80,144,208,16])))))))
def copR_vc(o:Ovl)(r0:Ovl):Prop:=(copR_x o).vc copR_e copR_b r0
theorem copR_p(o:Ovl)(h:o.sp.length≤1000000∧o.ls.length≤1000000∧o.fl.length≤1000000)(ok:copR_a o):copR_vc o o:=by
 dsimp only [copR_vc,copR_x,noS,Ax.vp,Ax.vc];simp only [vcU,rfU,List.length_map]
 exact ⟨by omega,by omega,by omega,trivial⟩
def copR_h(o:Ovl)(h:o.sp.length≤1000000∧o.ls.length≤1000000∧o.fl.length≤1000000):HC Tryz.prog:=⟨56,[(.a [(.s 5),(.s 3),(.s 10)])],[.agg [.sl 5 (o.sp.map Spk.v) false,.sl 3 (o.ls.map Lsn.v) false,.sl 10 (o.fl.map Sig.v) false]],[],copR_e o,copR_b o,HSpec.of_okh fun ok _=>mxH_of (sh:=.k) (enc:=copR_e) (hB:=copR_b) (a:=(copR_x o).an) (copR_p o h ok) (by kernel_rfl),fnB_ok (by kernel_rfl),HcOk.of (by simp [hcB,belBL,AV.belB,allB,okBk,okBkO,copR_e,copR_b,pureBL_map (v:=Lsn.v) (fun _=>rfl),pureBL_map (v:=Sig.v) (fun _=>rfl),pureBL_map (v:=Spk.v) (fun _=>rfl)])⟩
theorem valO_pos{o:Ovl}(h:¬ovlOk o):(1:Int)=valO o:=(if_neg h).symm
structure RefK (R:List Int) (s:Spk) (l:Lsn):Prop where
  n:s.peers.length+1=R.length
  p:∀p∈s.peers,p.router∈R
  lo:lsnOk l
  lr:l.router=s.router
  h:∀h∈l.heard,h.router∈R
theorem ref_iff{o:Ovl}:ovlOk o↔(o.sp.length≤12∧o.ls.length=o.sp.length)∧(∀i s,o.sp[i]?=some s→spkOk s∧(0<i→∀y,o.sp[i-1]?=some y→y.router<s.router)) ∧
  (∀(i:Nat) s l,o.sp[i]?=some s→o.ls[i]?=some l→RefK (rtrs o.sp) s l)∧∀x∈o.fl,sigIn (rtrs o.sp) x:=by
 rw [ovl_iff]
 have hmem:∀{i:Nat} {s:Spk},o.sp[i]?=some s→s.router∈rtrs o.sp:=fun hs=>List.mem_map.mpr ⟨_,mem_of_get hs,rfl⟩
 constructor
 ·rintro ⟨h1,h2,h3,h4⟩
  have hR:(rtrs o.sp).Pairwise (·<·):=(ovl_iff.mpr ⟨h1,h2,h3,h4⟩).1.ascR
  refine ⟨⟨h1,h2⟩,fun i s hs=>?_,fun i s l hs hl=>?_,h4⟩
  ·obtain ⟨l,hl⟩:∃l,o.ls[i]?=some l:=⟨_,List.getElem?_eq_getElem (by have:=lt_of_get hs;omega)⟩
   have d:=h3 i s l hs hl
   exact ⟨d.fs,fun hi y hy=>d.fasc hi _ (rtrs_get hy)⟩
  ·have d:=h3 i s l hs hl
   obtain ⟨q1,q2⟩:=(peers_iff hR d.fs (hmem hs)).mp d.fp
   exact ⟨q1,q2,d.fl,d.fr,d.fh⟩
 ·rintro ⟨⟨h1,h2⟩,h3,h4,h5⟩
  have hasc:∀k:Nat,k≤o.sp.length→(o.sp.take k).Pairwise fun x y=>x.router<y.router:=by
   intro k
   induction k with
   | zero=>intro _;simp
   | succ k ih =>
    intro hk
    have hs:o.sp[k]?=some o.sp[k]:=List.getElem?_eq_getElem (by omega)
    exact (pw_succ Spk.router hs).mpr ⟨ih (by omega),(h3 k _ hs).2⟩
  have ha:=hasc o.sp.length (Nat.le_refl _)
  rw [List.take_length] at ha
  have hR:(rtrs o.sp).Pairwise (·<·):=by unfold rtrs;rw [List.pairwise_map];exact ha
  refine ⟨h1,h2,fun i s l hs hl=>?_,h5⟩
  obtain ⟨a1,a2⟩:=h3 i s hs
  have b:=h4 i s l hs hl
  refine ⟨a1,fun hi y hy=>?_,(peers_iff hR a1 (hmem hs)).mpr ⟨b.n,b.p⟩,b.lo,b.lr,b.h⟩
  unfold rtrs at hy
  rw [List.getElem?_map] at hy
  cases hz:o.sp[i-1]? with
  | none=>rw [hz] at hy;simp at hy
  | some z =>
   rw [hz] at hy
   have hy:z.router=y:=by simpa using hy
   rw [←hy];exact a2 hi z hz
def valOR_a(o:Ovl):Prop:=okL [.agg [.sl 5 (o.sp.map Spk.v) false,.sl 3 (o.ls.map Lsn.v) false,.sl 10 (o.fl.map Sig.v) false]]
def valOR_n0(o:Ovl)(t0:Bool):NF:=⟨[(1,.k,.ref 0 0),(27,.k,.bool t0)],[.box (.agg [.sl 5 (o.sp.map Spk.v) false,.sl 3 (o.ls.map Lsn.v) false,.sl 10 (o.fl.map Sig.v) false])]⟩
def valOR_n1(o:Ovl)(t1:Int×(List Int)):NF:=⟨[(1,.k,.ref 0 0),(3,.k,.vec 1),(29,.k,.sl 5 (o.sp.map Spk.v) false),(30,.k,.int ((o.sp.map Spk.v).length:Int)),(31,.k,.int t1.1)],[.box (.agg [.sl 5 (o.sp.map Spk.v) false,.sl 3 (o.ls.map Lsn.v) false,.sl 10 (o.fl.map Sig.v) false]),.vec 1 (t1.2.map AV.int) (pureBL_map (fun _=>rfl) t1.2)]⟩
def valOR_n2(o:Ovl)(t1:Int×(List Int))(x1:Spk)(t2:Bool):NF:=⟨[(1,.k,.ref 0 0),(3,.k,.vec 1),(5,.k,.ref 2 0),(29,.k,.sl 5 (o.sp.map Spk.v) false),(30,.k,.int ((o.sp.map Spk.v).length:Int)),(31,.k,.int t1.1),(54,.k,.bool t2)],[.box (.agg [.sl 5 (o.sp.map Spk.v) false,.sl 3 (o.ls.map Lsn.v) false,.sl 10 (o.fl.map Sig.v) false]),.vec 1 (t1.2.map AV.int) (pureBL_map (fun _=>rfl) t1.2),.box (.agg [.int x1.router,.int x1.epoch,.int x1.last,.sl 4 (x1.items.map Itm.v) false,.sl 3 (x1.peers.map Per.v) false])]⟩
def valOR_n3(o:Ovl)(t1:Int×(List Int))(t3:Int):NF:=⟨[(1,.k,.ref 0 0),(3,.k,.vec 1),(62,.k,.sl 5 (o.sp.map Spk.v) false),(63,.k,.int ((o.sp.map Spk.v).length:Int)),(64,.k,.int t3)],[.box (.agg [.sl 5 (o.sp.map Spk.v) false,.sl 3 (o.ls.map Lsn.v) false,.sl 10 (o.fl.map Sig.v) false]),.vec 1 (t1.2.map AV.int) (pureBL_map (fun _=>rfl) t1.2)]⟩
def valOR_n4(o:Ovl)(t1:Int×(List Int))(t3:Int)(x3:Spk)(t4:Int):NF:=⟨[(1,.k,.ref 0 0),(3,.k,.vec 1),(6,.k,.int t3),(7,.k,.ref 2 0),(62,.k,.sl 5 (o.sp.map Spk.v) false),(63,.k,.int ((o.sp.map Spk.v).length:Int)),(64,.k,.int t3),(77,.k,.sl 3 (x3.peers.map Per.v) false),(78,.k,.int ((x3.peers.map Per.v).length:Int)),(79,.k,.int t4)],[.box (.agg [.sl 5 (o.sp.map Spk.v) false,.sl 3 (o.ls.map Lsn.v) false,.sl 10 (o.fl.map Sig.v) false]),.vec 1 (t1.2.map AV.int) (pureBL_map (fun _=>rfl) t1.2),.box (.agg [.int x3.router,.int x3.epoch,.int x3.last,.sl 4 (x3.items.map Itm.v) false,.sl 3 (x3.peers.map Per.v) false])]⟩
def valOR_n5(o:Ovl)(t1:Int×(List Int))(t3:Int)(x5:Lsn)(t5:Bool):NF:=⟨[(1,.k,.ref 0 0),(3,.k,.vec 1),(10,.k,.ref 2 0),(62,.k,.sl 5 (o.sp.map Spk.v) false),(63,.k,.int ((o.sp.map Spk.v).length:Int)),(64,.k,.int t3),(103,.k,.bool t5)],[.box (.agg [.sl 5 (o.sp.map Spk.v) false,.sl 3 (o.ls.map Lsn.v) false,.sl 10 (o.fl.map Sig.v) false]),.vec 1 (t1.2.map AV.int) (pureBL_map (fun _=>rfl) t1.2),.box (.agg [.int x5.router,.int x5.epoch,.sl 4 (x5.heard.map Hrd.v) false])]⟩
def valOR_n6(o:Ovl)(t1:Int×(List Int))(t3:Int)(x5:Lsn)(t6:Int):NF:=⟨[(1,.k,.ref 0 0),(3,.k,.vec 1),(62,.k,.sl 5 (o.sp.map Spk.v) false),(63,.k,.int ((o.sp.map Spk.v).length:Int)),(64,.k,.int t3),(105,.k,.sl 4 (x5.heard.map Hrd.v) false),(106,.k,.int ((x5.heard.map Hrd.v).length:Int)),(107,.k,.int t6)],[.box (.agg [.sl 5 (o.sp.map Spk.v) false,.sl 3 (o.ls.map Lsn.v) false,.sl 10 (o.fl.map Sig.v) false]),.vec 1 (t1.2.map AV.int) (pureBL_map (fun _=>rfl) t1.2)]⟩
def valOR_n7(o:Ovl)(t1:Int×(List Int))(t7:Int):NF:=⟨[(3,.k,.vec 0),(119,.k,.sl 10 (o.fl.map Sig.v) false),(120,.k,.int ((o.fl.map Sig.v).length:Int)),(121,.k,.int t7)],[.vec 1 (t1.2.map AV.int) (pureBL_map (fun _=>rfl) t1.2)]⟩
def valOR_n8(o:Ovl)(t1:Int×(List Int))(t7:Int)(t8:Bool):NF:=⟨[(3,.k,.vec 0),(119,.k,.sl 10 (o.fl.map Sig.v) false),(120,.k,.int ((o.fl.map Sig.v).length:Int)),(121,.k,.int t7),(141,.k,.bool t8)],[.vec 1 (t1.2.map AV.int) (pureBL_map (fun _=>rfl) t1.2)]⟩
@[reducible] def valOR_s:Nat→Type
 | 0=>Bool
 | 1=>Int×(List Int)
 | 2=>Bool
 | 3=>Int
 | 4=>Int
 | 5=>Bool
 | 6=>Int
 | 7=>Int
 | 8=>Bool
 | _=>Unit
def valOR_e(r:Int):AV:=.int r
def valOR_x(o:Ovl)(I0:Bool→Prop)(I1:Bool→(Int×(List Int))→Prop)(m1:Bool→(Int×(List Int))→Nat)(I2:Bool→Int×(List Int)→Spk→Bool→Prop)(I3:Bool→Int×(List Int)→Int→Prop)(m3:Bool→Int×(List Int)→Int→Nat)(I4:Bool→Int×(List Int)→Int→Spk→Int→Prop)(m4:Bool→Int×(List Int)→Int→Spk→Int→Nat)(I5:Bool→Int×(List Int)→Int→Spk→Int→Lsn→Bool→Prop)(I6:Bool→Int×(List Int)→Int→Spk→Int→Lsn→Bool→Int→Prop)(m6:Bool→Int×(List Int)→Int→Spk→Int→Lsn→Bool→Int→Nat)(I7:Bool→Int×(List Int)→Int→Int→Prop)(m7:Bool→Int×(List Int)→Int→Int→Nat)(I8:Bool→Int×(List Int)→Int→Int→Sig→Bool→Prop):Ax Tryz.prog valOR_s (Int):=
 (.pass (.pass (.join 0 (valOR_n0 o) (fun (t0:Bool)=>I0 t0) (fun b0=>(.br 112 (decide (12<((o.sp.map Spk.v).length:Int))) (.bk 0 b0 ((true):Bool) [0])
(.bk 0 b0 ((((o.ls.map Lsn.v).length:Int) != ((o.sp.map Spk.v).length:Int)):Bool) [0]))) fun (t0:Bool) =>
(.br 1 t0 (.ret (1))
(.cmdL (.nilT 3 1) (.loop 1 (valOR_n1 o) (I1 t0) (m1 t0) (0,[]) [0,81] fun (t1:Int×(List Int)) b1 =>
(.br 18 (decide (t1.1<((o.sp.map Spk.v).length:Int))) (.el 34 Spk.v o.sp (fun R=>Rf (o.sp.map Spk.v) (ck (decide (0≤t1.1)) (ck (decide (t1.1<(o.sp.length:Int)))
(∀x1,o.sp[t1.1.toNat]?=some x1 →
(R x1))))) fun x1 =>
(.pass (.join 2 (valOR_n2 o t1 x1) (fun (t2:Bool)=>I2 t0 t1 x1 t2) (fun b2=>(.callP (valR6_c x1)
(.br 178 ((valS x1) != 0) (.bk 2 b2 ((true):Bool) [0,1,66])
(.br 226 (decide (0<t1.1)) (.el 290 Spk.v o.sp (fun R=>Rf (o.sp.map Spk.v) (ck (decide (0≤(W (t1.1-1)))) (ck (decide ((W (t1.1-1))<(o.sp.length:Int)))
(∀x2,o.sp[(W (t1.1-1)).toNat]?=some x2 →
(R x2))))) fun x2 =>
(.bk 2 b2 ((decide (x1.router≤x2.router)):Bool) [0,1,66]))
(.bk 2 b2 ((false):Bool) [0,1,66]))))) fun (t2:Bool) =>
(.br 3 t2 (.ret (1))
(.say (fun R=>Rf (α:=List AV) (t1.2.map AV.int) (Rf (α:=List AV) [.int x1.router]
(ck (decide (t1.2.length+1≤1000000))
R))) (.app 67 AV.int t1.2 [x1.router]
(.bk 1 b1 (W (t1.1+1),t1.2++[x1.router]) [0,67])))))))
(.loop 3 (valOR_n3 o t1) (I3 t0 t1) (m3 t0 t1) ((0):Int) [0,1] fun (t3:Int) b3 =>
(.br 18 (decide (t3<((o.sp.map Spk.v).length:Int))) (.el 34 Spk.v o.sp (fun R=>Rf (o.sp.map Spk.v) (ck (decide (0≤t3)) (ck (decide (t3<(o.sp.length:Int)))
(∀x3,o.sp[t3.toNat]?=some x3 →
(R x3))))) fun x3 =>
(.br 226 (((x3.peers.map Per.v).length:Int) != (W (((t1.2.map AV.int).length:Int)-1))) (.ret (1))
(.loop 4 (valOR_n4 o t1 t3 x3) (I4 t0 t1 t3 x3) (m4 t0 t1 t3 x3) ((0):Int) [0,1,66] fun (t4:Int) b4 =>
(.br 19 (decide (t4<((x3.peers.map Per.v).length:Int))) (.el 19 Per.v x3.peers (fun R=>Rf (x3.peers.map Per.v) (ck (decide (0≤t4)) (ck (decide (t4<(x3.peers.length:Int)))
(∀x4,x3.peers[t4.toNat]?=some x4 →
(R x4))))) fun x4 =>
(.callP (InI_c t1.2 x4.router)
(.say (ck (pureBLs [(t1.2.map AV.int)])) (.br 163 (!(InI t1.2 x4.router)) (.ret (1))
(.bk 4 b4 ((W (t4+1)):Int) [0,1,2])))))
(.el 67 Lsn.v o.ls (fun R=>Rf (o.ls.map Lsn.v) (ck (decide (0≤t3)) (ck (decide (t3<(o.ls.length:Int)))
(∀x5,o.ls[t3.toNat]?=some x5 →
(R x5))))) fun x5 =>
(.pass (.join 5 (valOR_n5 o t1 t3 x5) (fun (t5:Bool)=>I5 t0 t1 t3 x3 t4 x5 t5) (fun b5=>(.callP (valLR_c x5)
(.br 195 ((valL x5) != 0) (.bk 5 b5 ((true):Bool) [0,1,99])
(.bk 5 b5 ((x5.router != x3.router):Bool) [0,1,99])))) fun (t5:Bool) =>
(.br 3 t5 (.ret (1))
(.loop 6 (valOR_n6 o t1 t3 x5) (I6 t0 t1 t3 x3 t4 x5 t5) (m6 t0 t1 t3 x3 t4 x5 t5) ((0):Int) [0,1] fun (t6:Int) b6 =>
(.br 18 (decide (t6<((x5.heard.map Hrd.v).length:Int))) (.el 18 Hrd.v x5.heard (fun R=>Rf (x5.heard.map Hrd.v) (ck (decide (0≤t6)) (ck (decide (t6<(x5.heard.length:Int)))
(∀x6,x5.heard[t6.toNat]?=some x6 →
(R x6))))) fun x6 =>
(.callP (InI_c t1.2 x6.router)
(.say (ck (pureBLs [(t1.2.map AV.int)])) (.br 162 (!(InI t1.2 x6.router)) (.ret (1))
(.bk 6 b6 ((W (t6+1)):Int) [0,1])))))
(.bk 3 b3 ((W (t3+1)):Int) [0,1])))))))))))
(.loop 7 (valOR_n7 o t1) (I7 t0 t1 t3) (m7 t0 t1 t3) ((0):Int) [1] fun (t7:Int) b7 =>
(.br 17 (decide (t7<((o.fl.map Sig.v).length:Int))) (.el 17 Sig.v o.fl (fun R=>Rf (o.fl.map Sig.v) (ck (decide (0≤t7)) (ck (decide (t7<(o.fl.length:Int)))
(∀x7,o.fl[t7.toNat]?=some x7 →
(R x7))))) fun x7 =>
(.join 8 (valOR_n8 o t1 t7) (fun (t8:Bool)=>I8 t0 t1 t3 t7 x7 t8) (fun b8=>(.callP (sigVR_c x7)
(.br 145 ((sigErr x7) != 0) (.bk 8 b8 ((true):Bool) [0])
(.callP (InI_c t1.2 x7.src)
(.say (ck (pureBLs [(t1.2.map AV.int)])) (.br 257 (!(InI t1.2 x7.src)) (.bk 8 b8 ((true):Bool) [0])
(.callP (InI_c t1.2 x7.dst)
(.say (ck (pureBLs [(t1.2.map AV.int)])) (.bk 8 b8 ((!(InI t1.2 x7.dst)):Bool) [0]))))))))) fun (t8:Bool) =>
(.br 1 t8 (.ret (1))
(.bk 7 b7 ((W (t7+1)):Int) [0]))))
(.ret (0)))))))))))))
def valOR_vc(o:Ovl)(I0:Bool→Prop)(I1:Bool→(Int×(List Int))→Prop)(m1:Bool→(Int×(List Int))→Nat)(I2:Bool→Int×(List Int)→Spk→Bool→Prop)(I3:Bool→Int×(List Int)→Int→Prop)(m3:Bool→Int×(List Int)→Int→Nat)(I4:Bool→Int×(List Int)→Int→Spk→Int→Prop)(m4:Bool→Int×(List Int)→Int→Spk→Int→Nat)(I5:Bool→Int×(List Int)→Int→Spk→Int→Lsn→Bool→Prop)(I6:Bool→Int×(List Int)→Int→Spk→Int→Lsn→Bool→Int→Prop)(m6:Bool→Int×(List Int)→Int→Spk→Int→Lsn→Bool→Int→Nat)(I7:Bool→Int×(List Int)→Int→Int→Prop)(m7:Bool→Int×(List Int)→Int→Int→Nat)(I8:Bool→Int×(List Int)→Int→Int→Sig→Bool→Prop)(r0:Int):Prop:=(valOR_x o I0 I1 m1 I2 I3 m3 I4 m4 I5 I6 m6 I7 m7 I8).vp valOR_e r0
theorem valOR_p(o:Ovl)(ok:valOR_a o):∃I0 I1 m1 I2 I3 m3 I4 m4 I5 I6 m6 I7 m7 I8,valOR_vc o I0 I1 m1 I2 I3 m3 I4 m4 I5 I6 m6 I7 m7 I8 (valO o):=by
 unfold valOR_a at ok
 obtain ⟨l1,l2,l3⟩:=ovl_lens ok
 refine ⟨fun t=>t=false↔(o.sp.length≤12∧o.ls.length=o.sp.length),
  fun _ t=>∃k:Nat,t=((k:Int),rtrs (o.sp.take k))∧k≤o.sp.length∧∀i s,i<k→o.sp[i]?=some s→spkOk s∧(0<i→∀y,o.sp[i-1]?=some y→y.router<s.router),fun _ t=>o.sp.length-t.1.toNat,
  fun _ t1 x t=>t=false↔(spkOk x∧(0<t1.1.toNat→∀y,o.sp[t1.1.toNat-1]?=some y→y.router<x.router)),
  fun _ _ t=>∃k:Nat,t=k∧k≤o.sp.length∧∀i s l,i<k→o.sp[i]?=some s→o.ls[i]?=some l→RefK (rtrs o.sp) s l,fun _ _ t=>o.sp.length-t.toNat,
  fun _ _ _ x t=>∃j:Nat,t=j∧j≤x.peers.length∧∀p∈x.peers.take j,p.router∈rtrs o.sp,fun _ _ _ x t=>x.peers.length-t.toNat,
  fun _ _ _ x _ y t=>t=false↔(lsnOk y∧y.router=x.router),
  fun _ _ _ _ _ y _ t=>∃k:Nat,t=k∧k≤y.heard.length∧∀h∈y.heard.take k,h.router∈rtrs o.sp,fun _ _ _ _ _ y _ t=>y.heard.length-t.toNat,
  fun _ _ _ t=>∃k:Nat,t=k∧k≤o.fl.length∧∀x∈o.fl.take k,sigIn (rtrs o.sp) x,fun _ _ _ t=>o.fl.length-t.toNat,
  fun _ _ _ _ x t=>t=false↔sigIn (rtrs o.sp) x,?_⟩
 dsimp only [valOR_vc,valOR_x,valOR_s,Ax.vp,Ax.vc];simp only [vcU,rfU,List.length_map]
 refine ⟨⟨fun h1=>by simp;omega,fun h1=>by simp;omega⟩,?_⟩
 intro t0 h0
 refine ⟨fun e=>?_,fun e=>?_⟩
 ·subst e
  exact valO_pos fun q=>by have:=h0.mpr (ref_iff.mp q).1;simp at this
 obtain ⟨n1,n2⟩:=h0.mp e
 have hR:(rtrs o.sp).length=o.sp.length:=rtrs_len
 refine ⟨⟨0,rfl,by omega,fun i s hi=>by omega⟩,?_⟩
 rintro _ ⟨k,rfl,hk,hI⟩
 simp only [Int.toNat_natCast]
 refine ⟨fun h1=>⟨by omega,by omega,fun x hx=>⟨⟨fun a1=>?_,fun a1=>⟨fun a2=>⟨?_,?_,fun y hy=>?_⟩,fun a2=>?_⟩⟩,?_⟩⟩,fun h1=>⟨⟨0,rfl,by omega,fun i s l hi=>by omega⟩,?_⟩⟩
 ·have a1:¬valS x=0:=by simpa using a1
  rw [valS_z] at a1
  simp [a1]
 ·rw [W_eq (by omega)];omega
 ·rw [W_eq (by omega)];omega
 ·have a1:valS x=0:=by simpa using a1
  have e3:(W ((k:Int)-1)).toNat=k-1:=by rw [W_eq (by omega)];omega
  rw [e3] at hy
  rw [valS_z] at a1
  rw [hy]
  simp only [Option.some.injEq,forall_eq',decide_eq_false_iff_not]
  exact ⟨fun q=>⟨a1,fun _=>by omega⟩,fun q=>by have:=q.2 (by omega);omega⟩
 ·have a1:valS x=0:=by simpa using a1
  rw [valS_z] at a1
  simp only [true_iff]
  exact ⟨a1,fun q=>by omega⟩
 ·intro t2 h2
  refine ⟨fun e=>?_,fun e=>⟨by rw [rtrs_len];simp;omega,⟨k+1,?_,by omega,fun i s hi hs=>?_⟩,?_⟩⟩
  ·subst e
   exact valO_pos fun q=>by
    have d:=(ref_iff.mp q).2.1 k x hx
    have:=h2.mpr d
    simp at this
  ·rw [W_succ (n:=o.sp.length) (by omega) (by omega),take_succ hx];simp [rtrs]
  ·by_cases ei:i=k
   ·subst ei
    rw [hx] at hs;cases hs
    exact h2.mp e
   ·exact hI i s (by omega) hs
  ·rw [W_succ (n:=o.sp.length) (by omega) (by omega)];omega
 ·have hk:k=o.sp.length:=by omega
  have eR:rtrs (o.sp.take k)=rtrs o.sp:=by rw [hk,List.take_length]
  rw [eR]
  have hI:∀i s,o.sp[i]?=some s→spkOk s∧(0<i→∀y,o.sp[i-1]?=some y→y.router<s.router):=fun i s hs=>hI i s (by have:=lt_of_get hs;omega) hs
  have hL:pureBLs [(rtrs o.sp).map AV.int]=true:=pureBLs_one (pureBL_map (fun _=>rfl) _)
  clear eR
  rintro _ ⟨k,rfl,hk,hK⟩
  simp only [Int.toNat_natCast,InI]
  refine ⟨fun b1=>⟨by omega,by omega,fun x hx=>⟨fun c1=>?_,fun c1=>⟨⟨0,rfl,by omega,by simp⟩,?_⟩⟩⟩,fun b1=>⟨⟨0,rfl,by omega,by simp⟩,?_⟩⟩
  ·obtain ⟨l,hl⟩:∃l,o.ls[k]?=some l:=⟨_,List.getElem?_eq_getElem (by omega)⟩
   refine valO_pos fun q=>?_
   have d:=((ref_iff.mp q).2.2.1 k x l hx hl).n
   rw [W_eq (by omega)] at c1
   simp at c1
   omega
  ·have hn:x.peers.length+1=(rtrs o.sp).length:=by
    rw [W_eq (by omega)] at c1
    simp at c1
    omega
   have hs:=hI k x hx
   have hxp:=hs.1.2.2.2.2.1
   rintro _ ⟨j,rfl,hj,hJ⟩
   simp only [Int.toNat_natCast]
   refine ⟨fun d1=>⟨by omega,by omega,fun p hp=>⟨hL,fun d2=>?_,fun d2=>?_⟩⟩,fun d1=>⟨by omega,by omega,fun y hy=>⟨⟨fun f1=>?_,fun f1=>?_⟩,?_⟩⟩⟩
   ·have d2:¬p.router∈rtrs o.sp:=by simpa using d2
    obtain ⟨l,hl⟩:∃l,o.ls[k]?=some l:=⟨_,List.getElem?_eq_getElem (by omega)⟩
    exact valO_pos fun q=>d2 (((ref_iff.mp q).2.2.1 k x l hx hl).p p (mem_of_get hp))
   ·rw [W_succ (n:=x.peers.length) (by omega) (by omega)]
    exact ⟨⟨j+1,rfl,by omega,take_all hp hJ (by simpa using d2)⟩,by omega⟩
   ·have f1:¬valL y=0:=by simpa using f1
    rw [valL_z] at f1
    simp [f1]
   ·have f1:valL y=0:=by simpa using f1
    rw [valL_z] at f1
    simp [f1]
   ·intro t5 h5
    have ej:j=x.peers.length:=by omega
    rw [ej,List.take_length] at hJ
    refine ⟨fun e=>?_,fun e=>⟨⟨0,rfl,by omega,by simp⟩,?_⟩⟩
    ·subst e
     exact valO_pos fun q=>by
      have d:=(ref_iff.mp q).2.2.1 k x y hx hy
      have:=h5.mpr ⟨d.lo,d.lr⟩
      simp at this
    obtain ⟨g1,g2⟩:=h5.mp e
    have hh:=g1.2.2.1
    rintro _ ⟨m,rfl,hm,hM⟩
    simp only [Int.toNat_natCast]
    refine ⟨fun d1=>⟨by omega,by omega,fun z hz=>⟨hL,fun d2=>?_,fun d2=>?_⟩⟩,fun d1=>?_⟩
    ·have d2:¬z.router∈rtrs o.sp:=by simpa using d2
     exact valO_pos fun q=>d2 (((ref_iff.mp q).2.2.1 k x y hx hy).h z (mem_of_get hz))
    ·rw [W_succ (n:=y.heard.length) (by omega) (by omega)]
     exact ⟨⟨m+1,rfl,by omega,take_all hz hM (by simpa using d2)⟩,by omega⟩
    ·have em:m=y.heard.length:=by omega
     rw [em,List.take_length] at hM
     rw [W_succ (n:=o.sp.length) (by omega) (by omega)]
     refine ⟨⟨k+1,rfl,by omega,fun i s l hi hs' hl'=>?_⟩,by omega⟩
     by_cases ei:i=k
     ·subst ei
      rw [hx] at hs';rw [hy] at hl'
      cases hs';cases hl'
      exact ⟨hn,hJ,g1,g2,hM⟩
     ·exact hK i s l (by omega) hs' hl'
  ·rintro _ ⟨j,rfl,hj,hJ⟩
   simp only [Int.toNat_natCast]
   refine ⟨fun c1=>⟨by omega,by omega,fun x hx=>⟨⟨fun a1=>?_,fun a1=>⟨hL,fun a2=>?_,fun a2=>⟨hL,?_⟩⟩⟩,?_⟩⟩,fun c1=>?_⟩
   ·have a1:¬sigErr x=0:=by simpa using a1
    simp [sigIn,a1]
   ·have a2:¬x.src∈rtrs o.sp:=by simpa using a2
    simp [sigIn,a2]
   ·have a1:sigErr x=0:=by simpa using a1
    have a2:x.src∈rtrs o.sp:=by simpa using a2
    simp [sigIn,a1,a2]
   ·intro t6 h6
    refine ⟨fun e=>?_,fun e=>?_⟩
    ·subst e
     exact valO_pos fun q=>by have:=h6.mpr ((ref_iff.mp q).2.2.2 x (mem_of_get hx));simp at this
    ·rw [W_succ (n:=o.fl.length) (by omega) (by omega)]
     exact ⟨⟨j+1,rfl,by omega,take_all hx hJ (h6.mp e)⟩,by omega⟩
   ·have hj:j=o.fl.length:=by omega
    rw [hj,List.take_length] at hJ
    exact (if_pos (ref_iff.mpr ⟨⟨n1,n2⟩,hI,fun i s l hs hl=>hK i s l (by have:=lt_of_get hs;omega) hs hl,hJ⟩)).symm
def valOR_c(o:Ovl):PC Tryz.prog:=⟨10,[(.a [(.s 5),(.s 3),(.s 10)])],[.agg [.sl 5 (o.sp.map Spk.v) false,.sl 3 (o.ls.map Lsn.v) false,.sl 10 (o.fl.map Sig.v) false]],valOR_e (valO o),PSpec.of_ok fun ok=>(valOR_p o ok).elim fun I0 h=>h.elim fun I1 h=>h.elim fun m1 h=>h.elim fun I2 h=>h.elim fun I3 h=>h.elim fun m3 h=>h.elim fun I4 h=>h.elim fun m4 h=>h.elim fun I5 h=>h.elim fun I6 h=>h.elim fun m6 h=>h.elim fun I7 h=>h.elim fun m7 h=>h.elim fun I8 h=>mxP_of (sh:=.k) (enc:=valOR_e) (a:=(valOR_x o I0 I1 m1 I2 I3 m3 I4 m4 I5 I6 m6 I7 m7 I8).an) h (by kernel_rfl) (AV.pureB_ok rfl),fnB_ok (by kernel_rfl)⟩
theorem valO_z{o:Ovl}:valO o=0↔ovlOk o:=by
 unfold valO;by_cases h:ovlOk o<;>simp [h]
theorem idx_in{o:Ovl}(h:ovlOk o){r:Int}(hr:r∈rtrs o.sp):idxS o.sp r=(posS o.sp r:Int):=by rw [idxS_asc h,if_pos hr]
theorem idx_neg{o:Ovl}(h:ovlOk o){r:Int}:idxS o.sp r<0↔r ∉ rtrs o.sp:=by
 rw [idxS_asc h]
 split
 ·rename_i hr;simp [hr]
 ·rename_i hr;simp [hr]
def chgOR_a(o:Ovl)(router:Int)(wants:(List Wnt)):Prop:=okL [.agg [.sl 5 (o.sp.map Spk.v) false,.sl 3 (o.ls.map Lsn.v) false,.sl 10 (o.fl.map Sig.v) false],.int router,.sl 3 (wants.map Wnt.v) false]
def chgOR_e(r:Ovl×Int):AV:=.tup [Ovl.v r.1,.int r.2]
def chgOR_x(o:Ovl)(router:Int)(wants:(List Wnt)):Ax Tryz.prog noS (Ovl×Int):=
 (.callP (valOR_c o)
(.br 128 ((valO o) != 0) (.ret ((⟨[],[],[]⟩:Ovl),valO o))
(.callP (idxSF_c o router)
(.br 224 (decide ((idxS o.sp router)<0)) (.ret ((⟨[],[],[]⟩:Ovl),4))
(.callP (valR_c wants)
(.br 304 ((wErr false wants) != 0) (.ret ((⟨[],[],[]⟩:Ovl),wErr false wants))
(.el 352 Spk.v o.sp (fun R=>Rf (o.sp.map Spk.v) (ck (decide (0≤(idxS o.sp router))) (ck (decide ((idxS o.sp router)<(o.sp.length:Int)))
(∀x1,o.sp[(idxS o.sp router).toNat]?=some x1 →
(R x1))))) fun x1 =>
(.callP (wantsR_c x1.items)
(.callP (chgsR_c (wantsOf x1.items) wants)
(.br 560 (((changes (wantsOf x1.items) wants).2) != 0) (.ret ((⟨[],[],[]⟩:Ovl),(changes (wantsOf x1.items) wants).2))
(.el 608 Spk.v o.sp (fun R=>Rf (o.sp.map Spk.v) (ck (decide (0≤(idxS o.sp router))) (ck (decide ((idxS o.sp router)<(o.sp.length:Int)))
(∀x2,o.sp[(idxS o.sp router).toNat]?=some x2 →
(R x2))))) fun x2 =>
(.callP (changeR_c x2 ((changes (wantsOf x1.items) wants).1))
(.br 800 (((change x2 ((changes (wantsOf x1.items) wants).1)).2) != 0) (.ret ((⟨[],[],[]⟩:Ovl),(change x2 ((changes (wantsOf x1.items) wants).1)).2))
(.req 816 (o.sp.length≤1000000∧o.ls.length≤1000000∧o.fl.length≤1000000) fun h3 =>
(.callH [] (copR_h o h3) 816
(.say (ck (cond (decide (0≤(idxS o.sp router))) (decide ((idxS o.sp router)<((o.sp.map Spk.v).length:Int))) false)) (.st 944 Spk.v o.sp (fun y4=>((change x2 ((changes (wantsOf x1.items) wants).1)).1)) (fun R=>Rf (o.sp.map Spk.v) (ck (decide ((idxS o.sp router).toNat<o.sp.length))
(∀y4,o.sp[(idxS o.sp router).toNat]?=some y4→Rf (Spk.v ((change x2 ((changes (wantsOf x1.items) wants).1)).1))
((R y4))))) fun y4 =>
(.say (Rf (o.fl.map Sig.v)) (.cmdL (.frzE 818 (o.fl.map Sig.v) (pureBL_map (fun _=>rfl) o.fl)) (.say (Rf (o.ls.map Lsn.v)) (.cmdL (.frzE 817 (o.ls.map Lsn.v) (pureBL_map (fun _=>rfl) o.ls)) (.say (Rf ((o.sp.set ((idxS o.sp router).toNat) ((change x2 ((changes (wantsOf x1.items) wants).1)).1)).map Spk.v)) (.cmdL (.frzE 816 ((o.sp.set ((idxS o.sp router).toNat) ((change x2 ((changes (wantsOf x1.items) wants).1)).1)).map Spk.v) (pureBL_map (fun _=>rfl) (o.sp.set ((idxS o.sp router).toNat) ((change x2 ((changes (wantsOf x1.items) wants).1)).1)))) (.ret ((⟨o.sp.set ((idxS o.sp router).toNat) ((change x2 ((changes (wantsOf x1.items) wants).1)).1),o.ls,o.fl⟩:Ovl),0)))))))))))))))))))))))))
def chgOR_vc(o:Ovl)(router:Int)(wants:(List Wnt))(r0:Ovl×Int):Prop:=(chgOR_x o router wants).vp chgOR_e r0
theorem chgOR_p(o:Ovl)(r:Int)(w:List Wnt)(h:o.fl.length≤1000000)(ok:chgOR_a o r w):chgOR_vc o r w (changeV o r w):=by
 dsimp only [chgOR_vc,chgOR_x,noS,Ax.vp,Ax.vc];simp only [vcU,rfU,List.length_map]
 unfold changeV
 by_cases h1:ovlOk o
 case neg =>
  have:valO o=1:=if_neg h1
  rw [if_pos h1,this];simp [ovl0]
 rw [if_neg (not_not_intro h1),valO_z.mpr h1]
 have hL:=h1.1.lens
 refine ⟨fun q=>by simp at q,fun _=>⟨fun q=>?_,fun q=>?_⟩⟩
 ·rw [if_pos ((idx_neg h1).mp q)];rfl
 have h2:r∈rtrs o.sp:=Classical.not_not.mp fun c=>q ((idx_neg h1).mpr c)
 obtain ⟨p1,p2,p3,p4⟩:=pos_get h1 h2
 rw [if_neg (not_not_intro h2),idx_in h1 h2]
 simp only [Int.toNat_natCast]
 refine ⟨fun c=>?_,fun c=>⟨by omega,by omega,fun x hx=>?_⟩⟩
 ·rw [if_pos (by simpa using c)];rfl
 rw [if_neg (by simpa using c)]
 cases p3.symm.trans hx
 refine ⟨fun c=>?_,fun c=>⟨by omega,by omega,fun y hy=>?_⟩⟩
 ·rw [if_pos (by simpa using c)];rfl
 rw [if_neg (by simpa using c)]
 cases p3.symm.trans hy
 refine ⟨fun d=>?_,fun d=>?_⟩
 ·rw [if_pos (by simpa using d)];rfl
 rw [if_neg (by simpa using d)]
 exact ⟨⟨by omega,by omega,h⟩,by simp;omega,by omega,fun z hz=>rfl⟩
def chgOR_c(o:Ovl)(router:Int)(wants:(List Wnt))(h:o.fl.length≤1000000):PC Tryz.prog:=⟨17,[(.a [(.s 5),(.s 3),(.s 10)]),.k,(.s 3)],[.agg [.sl 5 (o.sp.map Spk.v) false,.sl 3 (o.ls.map Lsn.v) false,.sl 10 (o.fl.map Sig.v) false],.int router,.sl 3 (wants.map Wnt.v) false],chgOR_e (changeV o router wants),PSpec.of_ok fun ok=>mxP_of (sh:=(.a [(.a [(.s 5),(.s 3),(.s 10)]),.k])) (enc:=chgOR_e) (a:=(chgOR_x o router wants).an) (chgOR_p o router wants h ok) (by kernel_rfl) (AV.pureB_ok rfl),fnB_ok (by kernel_rfl)⟩
def rstOR_a(o:Ovl)(router:Int)(wants:(List Wnt)):Prop:=okL [.agg [.sl 5 (o.sp.map Spk.v) false,.sl 3 (o.ls.map Lsn.v) false,.sl 10 (o.fl.map Sig.v) false],.int router,.sl 3 (wants.map Wnt.v) false]
def rstOR_e(r:Ovl×Int):AV:=.tup [Ovl.v r.1,.int r.2]
def rstOR_x(o:Ovl)(router:Int)(wants:(List Wnt)):Ax Tryz.prog noS (Ovl×Int):=
 (.callP (valOR_c o)
(.br 128 ((valO o) != 0) (.ret ((⟨[],[],[]⟩:Ovl),valO o))
(.callP (idxSF_c o router)
(.br 224 (decide ((idxS o.sp router)<0)) (.ret ((⟨[],[],[]⟩:Ovl),4))
(.el 272 Spk.v o.sp (fun R=>Rf (o.sp.map Spk.v) (ck (decide (0≤(idxS o.sp router))) (ck (decide ((idxS o.sp router)<(o.sp.length:Int)))
(∀x1,o.sp[(idxS o.sp router).toNat]?=some x1 →
(R x1))))) fun x1 =>
(.callP (restartR_c x1 wants)
(.br 464 (((restart x1 wants).2) != 0) (.ret ((⟨[],[],[]⟩:Ovl),(restart x1 wants).2))
(.el 512 Lsn.v o.ls (fun R=>Rf (o.ls.map Lsn.v) (ck (decide (0≤(idxS o.sp router))) (ck (decide ((idxS o.sp router)<(o.ls.length:Int)))
(∀x2,o.ls[(idxS o.sp router).toNat]?=some x2 →
(R x2))))) fun x2 =>
(.br 576 (decide (1000000≤x2.epoch)) (.ret ((⟨[],[],[]⟩:Ovl),3))
(.req 592 (o.sp.length≤1000000∧o.ls.length≤1000000∧o.fl.length≤1000000) fun h3 =>
(.callH [] (copR_h o h3) 592
(.say (ck (cond (decide (0≤(idxS o.sp router))) (decide ((idxS o.sp router)<((o.sp.map Spk.v).length:Int))) false)) (.st 720 Spk.v o.sp (fun y4=>((restart x1 wants).1)) (fun R=>Rf (o.sp.map Spk.v) (ck (decide ((idxS o.sp router).toNat<o.sp.length))
(∀y4,o.sp[(idxS o.sp router).toNat]?=some y4→Rf (Spk.v ((restart x1 wants).1))
((R y4))))) fun y4 =>
(.el 848 Lsn.v o.ls (fun R=>Rf (o.ls.map Lsn.v) (ck (decide (0≤(idxS o.sp router))) (ck (decide ((idxS o.sp router)<(o.ls.length:Int)))
(∀x5,o.ls[(idxS o.sp router).toNat]?=some x5 →
(R x5))))) fun x5 =>
(.say (ck (cond (decide (0≤(idxS o.sp router))) (decide ((idxS o.sp router)<((o.ls.map Lsn.v).length:Int))) false)) (.stI 944 Lsn.v o.ls (fun R=>Rf (o.ls.map Lsn.v) (ck (decide ((idxS o.sp router).toNat<o.ls.length))
(∀y6,o.ls[(idxS o.sp router).toNat]?=some y6 →
((R y6))))) fun y6 =>
(.say (fun R=>Rf (α:=List AV) ((o.ls.map Lsn.v).set ((idxS o.sp router).toNat) (.agg [.int router,.int (W (x5.epoch+1)),.sl 0 [] true])) (Rf (Lsn.v (⟨router,W (x5.epoch+1),[]⟩:Lsn))
R)) (.cmd (.wkS 593 ((idxS o.sp router).toNat) (.a [.k,.k,(.s 4)]) Lsn.v o.ls (.agg [.int router,.int (W (x5.epoch+1)),.sl 0 [] true]) (⟨router,W (x5.epoch+1),[]⟩:Lsn)) (.say (Rf (o.fl.map Sig.v)) (.cmdL (.frzE 594 (o.fl.map Sig.v) (pureBL_map (fun _=>rfl) o.fl)) (.say (Rf ((o.ls.set ((idxS o.sp router).toNat) (⟨router,W (x5.epoch+1),[]⟩:Lsn)).map Lsn.v)) (.cmdL (.frzE 593 ((o.ls.set ((idxS o.sp router).toNat) (⟨router,W (x5.epoch+1),[]⟩:Lsn)).map Lsn.v) (pureBL_map (fun _=>rfl) (o.ls.set ((idxS o.sp router).toNat) (⟨router,W (x5.epoch+1),[]⟩:Lsn)))) (.say (Rf ((o.sp.set ((idxS o.sp router).toNat) ((restart x1 wants).1)).map Spk.v)) (.cmdL (.frzE 592 ((o.sp.set ((idxS o.sp router).toNat) ((restart x1 wants).1)).map Spk.v) (pureBL_map (fun _=>rfl) (o.sp.set ((idxS o.sp router).toNat) ((restart x1 wants).1)))) (.ret ((⟨o.sp.set ((idxS o.sp router).toNat) ((restart x1 wants).1),o.ls.set ((idxS o.sp router).toNat) (⟨router,W (x5.epoch+1),[]⟩:Lsn),o.fl⟩:Ovl),0))))))))))))))))))))))))))
def rstOR_vc(o:Ovl)(router:Int)(wants:(List Wnt))(r0:Ovl×Int):Prop:=(rstOR_x o router wants).vp rstOR_e r0
theorem rstOR_p(o:Ovl)(r:Int)(w:List Wnt)(h:o.fl.length≤1000000)(ok:rstOR_a o r w):rstOR_vc o r w (restartV o r w):=by
 dsimp only [rstOR_vc,rstOR_x,noS,Ax.vp,Ax.vc];simp only [vcU,rfU,List.length_map]
 unfold restartV
 by_cases h1:ovlOk o
 case neg =>
  have:valO o=1:=if_neg h1
  rw [if_pos h1,this];simp [ovl0]
 rw [if_neg (not_not_intro h1),valO_z.mpr h1]
 have hL:=h1.1.lens
 refine ⟨fun q=>by simp at q,fun _=>⟨fun q=>?_,fun q=>?_⟩⟩
 ·rw [if_pos ((idx_neg h1).mp q)];rfl
 have h2:r∈rtrs o.sp:=Classical.not_not.mp fun c=>q ((idx_neg h1).mpr c)
 obtain ⟨p1,p2,p3,p4⟩:=pos_get h1 h2
 have he:=(h1.1.lso _ (mem_of_get p4)).1.2.1
 rw [if_neg (not_not_intro h2),idx_in h1 h2]
 simp only [Int.toNat_natCast]
 refine ⟨by omega,by omega,fun x hx=>?_⟩
 cases p3.symm.trans hx
 refine ⟨fun c=>?_,fun c=>⟨by omega,by omega,fun y hy=>?_⟩⟩
 ·rw [if_pos (by simpa using c)];rfl
 rw [if_neg (by simpa using c)]
 cases p4.symm.trans hy
 refine ⟨fun d=>?_,fun d=>?_⟩
 ·rw [if_pos (by omega)];rfl
 rw [if_neg (by omega)]
 refine ⟨⟨by omega,by omega,h⟩,by simp;omega,by omega,fun z hz=>⟨by omega,by omega,fun u hu=>⟨by simp;omega,by omega,fun v hv=>?_⟩⟩⟩
 cases p4.symm.trans hu
 rw [W_eq (by omega)]
def rstOR_c(o:Ovl)(router:Int)(wants:(List Wnt))(h:o.fl.length≤1000000):PC Tryz.prog:=⟨19,[(.a [(.s 5),(.s 3),(.s 10)]),.k,(.s 3)],[.agg [.sl 5 (o.sp.map Spk.v) false,.sl 3 (o.ls.map Lsn.v) false,.sl 10 (o.fl.map Sig.v) false],.int router,.sl 3 (wants.map Wnt.v) false],rstOR_e (restartV o router wants),PSpec.of_ok fun ok=>mxP_of (sh:=(.a [(.a [(.s 5),(.s 3),(.s 10)]),.k])) (enc:=rstOR_e) (a:=(rstOR_x o router wants).an) (rstOR_p o router wants h ok) (by kernel_rfl) (AV.pureB_ok rfl),fnB_ok (by kernel_rfl)⟩
theorem posS_R{R:List Int}{sp sp':List Spk}{ls ls':List Lsn}(h:NetOk R sp ls)(h':NetOk R sp' ls')(r:Int):posS sp r=posS sp' r:=
 posK_keys (key:=Spk.router) (key':=Spk.router) (h.spr.trans h'.spr.symm) r
def rndOR_a(o:Ovl)(faults:(List Fau)):Prop:=okL [.agg [.sl 5 (o.sp.map Spk.v) false,.sl 3 (o.ls.map Lsn.v) false,.sl 10 (o.fl.map Sig.v) false],.sl 2 (faults.map Fau.v) false]
def rndOR_n0(o:Ovl)(faults:(List Fau))(t0:Int×(List Spk)×(List Sig)×(List Lsn)):NF:=⟨[(2,.k,.ref 0 0),(4,.k,.ref 1 0),(7,.k,.ref 2 0),(41,.k,.vec 6),(42,.k,.int ((((arr o.fl faults).1).map Sig.v).length:Int)),(43,.k,.int t0.1)],[.box (.agg [.sl 5 (o.sp.map Spk.v) false,.sl 3 (o.ls.map Lsn.v) false,.sl 10 (o.fl.map Sig.v) false]),.box (.agg [.sl 0 [] true,.sl 0 [] true,.sl 0 [] true]),.box (.agg [.vec 3,.vec 4,.vec 5]),.vec 5 (t0.2.1.map Spk.v) (pureBL_map (fun _=>rfl) t0.2.1),.vec 3 (t0.2.2.2.map Lsn.v) (pureBL_map (fun _=>rfl) t0.2.2.2),.vec 10 (t0.2.2.1.map Sig.v) (pureBL_map (fun _=>rfl) t0.2.2.1),.vec 10 (((arr o.fl faults).1).map Sig.v) (pureBL_map (fun _=>rfl) ((arr o.fl faults).1))]⟩
def rndOR_n1(t0:Int×(List Spk)×(List Sig)×(List Lsn))(t1:Int×(List Sig)):NF:=⟨[(4,.k,.ref 0 0),(7,.k,.ref 1 0),(97,.k,.vec 2),(98,.k,.int ((t0.2.1.map Spk.v).length:Int)),(99,.k,.int t1.1)],[.box (.agg [.sl 0 [] true,.sl 0 [] true,.sl 0 [] true]),.box (.agg [.vec 2,.vec 3,.vec 4]),.vec 5 (t0.2.1.map Spk.v) (pureBL_map (fun _=>rfl) t0.2.1),.vec 3 (t0.2.2.2.map Lsn.v) (pureBL_map (fun _=>rfl) t0.2.2.2),.vec 10 (t1.2.map Sig.v) (pureBL_map (fun _=>rfl) t1.2)]⟩
def rndOR_n2(t0:Int×(List Spk)×(List Sig)×(List Lsn))(t1:Int×(List Sig))(x8:Spk)(t2:Int×(List Sig)):NF:=⟨[(4,.k,.ref 0 0),(7,.k,.ref 1 0),(19,.k,.ref 5 0),(97,.k,.vec 2),(98,.k,.int ((t0.2.1.map Spk.v).length:Int)),(99,.k,.int t1.1),(104,.k,.sl 3 (x8.peers.map Per.v) false),(105,.k,.int ((x8.peers.map Per.v).length:Int)),(106,.k,.int t2.1)],[.box (.agg [.sl 0 [] true,.sl 0 [] true,.sl 0 [] true]),.box (.agg [.vec 2,.vec 3,.vec 4]),.vec 5 (t0.2.1.map Spk.v) (pureBL_map (fun _=>rfl) t0.2.1),.vec 3 (t0.2.2.2.map Lsn.v) (pureBL_map (fun _=>rfl) t0.2.2.2),.vec 10 (t2.2.map Sig.v) (pureBL_map (fun _=>rfl) t2.2),.box (.agg [.int x8.router,.int x8.epoch,.int x8.last,.sl 4 (x8.items.map Itm.v) false,.sl 3 (x8.peers.map Per.v) false])]⟩
@[reducible] def rndOR_s:Nat→Type
 | 0=>Int×(List Spk)×(List Sig)×(List Lsn)
 | 1=>Int×(List Sig)
 | 2=>Int×(List Sig)
 | _=>Unit
def rndOR_e(r:Ovl×Int):AV:=.tup [Ovl.v r.1,.int r.2]
def rndOR_x(o:Ovl)(faults:(List Fau))(I0:(Int×(List Spk)×(List Sig)×(List Lsn))→Prop)(m0:(Int×(List Spk)×(List Sig)×(List Lsn))→Nat)(I1:Int×(List Spk)×(List Sig)×(List Lsn)→(Int×(List Sig))→Prop)(m1:Int×(List Spk)×(List Sig)×(List Lsn)→(Int×(List Sig))→Nat)(I2:Int×(List Spk)×(List Sig)×(List Lsn)→Int×(List Sig)→Spk→(Int×(List Sig))→Prop)(m2:Int×(List Spk)×(List Sig)×(List Lsn)→Int×(List Sig)→Spk→(Int×(List Sig))→Nat):Ax Tryz.prog rndOR_s (Ovl×Int):=
 (.callP (valOR_c o)
(.br 128 ((valO o) != 0) (.ret ((⟨[],[],[]⟩:Ovl),valO o))
(.req 144 (o.sp.length≤1000000∧o.ls.length≤1000000∧o.fl.length≤1000000) fun h1 =>
(.callH [] (copR_h o h1) 144
(.req 240 (okArr o.fl faults) fun h2 =>
(.callH [] (arrR_h o.fl faults h2) 240
(.loop 0 (rndOR_n0 o faults) I0 m0 (0,o.sp,(arr o.fl faults).2,o.ls) [0,16,160,144,145,241,240] fun (t0:Int×(List Spk)×(List Sig)×(List Lsn)) b0 =>
(.br 23 (decide (t0.1<((((arr o.fl faults).1).map Sig.v).length:Int))) (.say (ck (cond (decide (0≤t0.1)) (decide (t0.1<((((arr o.fl faults).1).map Sig.v).length:Int))) false)) (.el 39 Sig.v ((arr o.fl faults).1) (fun R=>Rf (((arr o.fl faults).1).map Sig.v) (ck (decide (t0.1.toNat<((arr o.fl faults).1).length))
(∀x3,((arr o.fl faults).1)[t0.1.toNat]?=some x3 →
(R x3)))) fun x3 =>
(.callP (idxSF_c o x3.dst)
(.br 215 (x3.kind==3) (.say (ck (cond (decide (0≤(idxS o.sp x3.dst))) (decide ((idxS o.sp x3.dst)<((t0.2.1.map Spk.v).length:Int))) false)) (.el 279 Spk.v t0.2.1 (fun R=>Rf (t0.2.1.map Spk.v) (ck (decide ((idxS o.sp x3.dst).toNat<t0.2.1.length))
(∀x4,t0.2.1[(idxS o.sp x3.dst).toNat]?=some x4 →
(R x4)))) fun x4 =>
(.callP (ackR_c x4 x3)
(.br 455 (((ack x4 x3).2)==0) (.say (ck (cond (decide (0≤(idxS o.sp x3.dst))) (decide ((idxS o.sp x3.dst)<((t0.2.1.map Spk.v).length:Int))) false)) (.st 535 Spk.v t0.2.1 (fun y5=>((ack x4 x3).1)) (fun R=>Rf (t0.2.1.map Spk.v) (ck (decide ((idxS o.sp x3.dst).toNat<t0.2.1.length))
(∀y5,t0.2.1[(idxS o.sp x3.dst).toNat]?=some y5→Rf (Spk.v ((ack x4 x3).1))
((R y5))))) fun y5 =>
(.bk 0 b0 (W (t0.1+1),t0.2.1.set ((idxS o.sp x3.dst).toNat) ((ack x4 x3).1),t0.2.2.1,t0.2.2.2) [0,1,2,3,4,5,6])))
(.bk 0 b0 (W (t0.1+1),t0.2.1,t0.2.2.1,t0.2.2.2) [0,1,2,3,4,5,6])))))
(.say (ck (cond (decide (0≤(idxS o.sp x3.dst))) (decide ((idxS o.sp x3.dst)<((t0.2.2.2.map Lsn.v).length:Int))) false)) (.el 279 Lsn.v t0.2.2.2 (fun R=>Rf (t0.2.2.2.map Lsn.v) (ck (decide ((idxS o.sp x3.dst).toNat<t0.2.2.2.length))
(∀x6,t0.2.2.2[(idxS o.sp x3.dst).toNat]?=some x6 →
(R x6)))) fun x6 =>
(.callP (hearR_c x6 x3)
(.br 503 (((hear x6 x3).2)==0) (.say (ck (cond (decide (0≤(idxS o.sp x3.dst))) (decide ((idxS o.sp x3.dst)<((t0.2.2.2.map Lsn.v).length:Int))) false)) (.st 583 Lsn.v t0.2.2.2 (fun y7=>((hear x6 x3).1.1)) (fun R=>Rf (t0.2.2.2.map Lsn.v) (ck (decide ((idxS o.sp x3.dst).toNat<t0.2.2.2.length))
(∀y7,t0.2.2.2[(idxS o.sp x3.dst).toNat]?=some y7→Rf (Lsn.v ((hear x6 x3).1.1))
((R y7))))) fun y7 =>
(.say (fun R=>Rf (α:=List AV) (t0.2.2.1.map Sig.v) (Rf (α:=List AV) [(Sig.v ((hear x6 x3).1.2))]
(ck (decide (t0.2.2.1.length+1≤1000000))
R))) (.app 663 Sig.v t0.2.2.1 [(hear x6 x3).1.2]
(.bk 0 b0 (W (t0.1+1),t0.2.1,t0.2.2.1++[(hear x6 x3).1.2],t0.2.2.2.set ((idxS o.sp x3.dst).toNat) ((hear x6 x3).1.1)) [0,1,2,3,4,663,6])))))
(.bk 0 b0 (W (t0.1+1),t0.2.1,t0.2.2.1,t0.2.2.2) [0,1,2,3,4,5,6])))))))))
(.loop 1 (rndOR_n1 t0) (I1 t0) (m1 t0) (0,t0.2.2.1) [1,2,3,4,5] fun (t1:Int×(List Sig)) b1 =>
(.br 21 (decide (t1.1<((t0.2.1.map Spk.v).length:Int))) (.say (ck (cond (decide (0≤t1.1)) (decide (t1.1<((t0.2.1.map Spk.v).length:Int))) false)) (.el 37 Spk.v t0.2.1 (fun R=>Rf (t0.2.1.map Spk.v) (ck (decide (t1.1.toNat<t0.2.1.length))
(∀x8,t0.2.1[t1.1.toNat]?=some x8 →
(R x8)))) fun x8 =>
(.loop 2 (rndOR_n2 t0 t1 x8) (I2 t0 t1 x8) (m2 t0 t1 x8) (0,t1.2) [0,1,2,3,4,53] fun (t2:Int×(List Sig)) b2 =>
(.br 22 (decide (t2.1<((x8.peers.map Per.v).length:Int))) (.el 22 Per.v x8.peers (fun R=>Rf (x8.peers.map Per.v) (ck (decide (0≤t2.1)) (ck (decide (t2.1<(x8.peers.length:Int)))
(∀x9,x8.peers[t2.1.toNat]?=some x9 →
(R x9))))) fun x9 =>
(.callP (sendR_c x8 x9.router)
(.say (fun R=>Rf (α:=List AV) (t2.2.map Sig.v) (Rf (α:=List AV) (((send x8 x9.router).1).map Sig.v)
(ck (decide (t2.2.length+((send x8 x9.router).1).length≤1000000))
R))) (.app 278 Sig.v t2.2 ((send x8 x9.router).1)
(.bk 2 b2 (W (t2.1+1),t2.2++((send x8 x9.router).1)) [0,1,2,3,278,5])))))
(.bk 1 b1 (W (t1.1+1),t2.2) [0,1,2,3,4])))))
(.say (Rf (t1.2.map Sig.v)) (.cmdL (.frzE 4 (t1.2.map Sig.v) (pureBL_map (fun _=>rfl) t1.2)) (.say (Rf (t0.2.2.2.map Lsn.v)) (.cmdL (.frzE 3 (t0.2.2.2.map Lsn.v) (pureBL_map (fun _=>rfl) t0.2.2.2)) (.say (Rf (t0.2.1.map Spk.v)) (.cmdL (.frzE 2 (t0.2.1.map Spk.v) (pureBL_map (fun _=>rfl) t0.2.1)) (.ret ((⟨t0.2.1,t0.2.2.2,t1.2⟩:Ovl),0))))))))))))))))))
def rndOR_vc(o:Ovl)(faults:(List Fau))(I0:(Int×(List Spk)×(List Sig)×(List Lsn))→Prop)(m0:(Int×(List Spk)×(List Sig)×(List Lsn))→Nat)(I1:Int×(List Spk)×(List Sig)×(List Lsn)→(Int×(List Sig))→Prop)(m1:Int×(List Spk)×(List Sig)×(List Lsn)→(Int×(List Sig))→Nat)(I2:Int×(List Spk)×(List Sig)×(List Lsn)→Int×(List Sig)→Spk→(Int×(List Sig))→Prop)(m2:Int×(List Spk)×(List Sig)×(List Lsn)→Int×(List Sig)→Spk→(Int×(List Sig))→Nat)(r0:Ovl×Int):Prop:=(rndOR_x o faults I0 m0 I1 m1 I2 m2).vp rndOR_e r0
theorem rndOR_p(o:Ovl)(f:List Fau)(h:okRnd o f)(ok:rndOR_a o f):∃I0 m0 I1 m1 I2 m2,rndOR_vc o f I0 m0 I1 m1 I2 m2 (roundO o f):=by
 obtain ⟨h1,h2⟩:=h
 by_cases hv:ovlOk o
 case neg =>
  refine ⟨fun _=>True,fun _=>0,fun _ _=>True,fun _ _=>0,fun _ _ _ _=>True,fun _ _ _ _=>0,?_⟩
  have e:roundO o f=(ovl0,1):=if_pos hv
  have e2:valO o=1:=if_neg hv
  rw [e]
  dsimp only [rndOR_vc,rndOR_x,rndOR_s,Ax.vp,Ax.vc];simp only [vcU,rfU,List.length_map]
  simp [e2,ovl0]
 have hn:=hv.1
 obtain ⟨hnow,hlate⟩:=arr_mem (P:=sigIn (rtrs o.sp)) (f:=f) hv.2
 have hlen:=arr_len (l:=o.fl) (f:=f)
 have e:roundO o f=(roundN o (arr o.fl f).1 (arr o.fl f).2,0):=if_neg (not_not_intro hv)
 rw [e]
 have hA:okArr o.fl f:=⟨by omega,h2,fun x hx=>sig_srcs (hv.2 x hx).1⟩
 refine ⟨fun t=>∃k:Nat,t=((k:Int),(((arr o.fl f).1.take k).foldl deliver ((o.sp,o.ls),(arr o.fl f).2)).1.1,(((arr o.fl f).1.take k).foldl deliver ((o.sp,o.ls),(arr o.fl f).2)).2,(((arr o.fl f).1.take k).foldl deliver ((o.sp,o.ls),(arr o.fl f).2)).1.2)∧k≤(arr o.fl f).1.length,
  fun t=>(arr o.fl f).1.length-t.1.toNat,
  fun t0 t=>∃j:Nat,t=((j:Int),t0.2.2.1++(t0.2.1.take j).flatMap sends1)∧j≤t0.2.1.length,fun t0 t=>t0.2.1.length-t.1.toNat,
  fun t0 t1 x t=>∃i:Nat,t=((i:Int),t1.2++(x.peers.take i).flatMap fun p=>(send x p.router).1)∧i≤x.peers.length,fun t0 t1 x t=>x.peers.length-t.1.toNat,?_⟩
 dsimp only [rndOR_vc,rndOR_x,rndOR_s,Ax.vp,Ax.vc];simp only [vcU,rfU,List.length_map]
 generalize (arr o.fl f).1=now at *
 generalize (arr o.fl f).2=late at *
 have hLo:=hn.lens
 refine ⟨fun q=>by rw [valO_z.mpr hv] at q;simp at q,fun _=>⟨⟨by omega,by omega,by omega⟩,hA,⟨0,rfl,by omega⟩,?_⟩⟩
 rintro _ ⟨k,rfl,hk⟩
 have d:=delivers_ok (l:=now.take k) (s:=((o.sp,o.ls),late)) hn fun x hx=>hnow x (List.mem_of_mem_take hx)
 have dl:=delivers_len (l:=now.take k) (s:=((o.sp,o.ls),late))
 have hst:∀x,now[k]?=some x→(now.take (k+1)).foldl deliver ((o.sp,o.ls),late)=deliver ((now.take k).foldl deliver ((o.sp,o.ls),late)) x:=fun x hx=>by rw [take_succ hx,List.foldl_append];rfl
 have hend:k=now.length→roundN o now late=⟨((now.take k).foldl deliver ((o.sp,o.ls),late)).1.1,((now.take k).foldl deliver ((o.sp,o.ls),late)).1.2,((now.take k).foldl deliver ((o.sp,o.ls),late)).2++sends ((now.take k).foldl deliver ((o.sp,o.ls),late)).1.1⟩:=fun e=>by rw [e,List.take_length];rfl
 generalize (now.take k).foldl deliver ((o.sp,o.ls),late)=s at *
 obtain ⟨⟨sp,ls⟩,out⟩:=s
 have dn:=d.net
 simp only at dn
 obtain ⟨n1,n2⟩:=dn.lens
 rw [List.length_take] at dl
 simp only [Int.toNat_natCast] at dl ⊢
 refine ⟨fun a1=>⟨by simp;omega,by omega,fun x hx=>?_⟩,fun a1=>⟨⟨0,by simp,by omega⟩,?_⟩⟩
 ·have e1:=hst x hx
  have hxi:=(hnow x (mem_of_get hx)).2.2
  obtain ⟨p1,p2,p3,p4⟩:=dn.pos hxi
  rw [W_succ (n:=now.length) (by omega) (by omega),idx_in hv hxi,posS_R hn dn]
  simp only [Int.toNat_natCast]
  have fin:∀a b c,deliver ((sp,ls),out) x=((a,c),b)→(∃k_1:Nat,(((k+1:Nat):Int),a,b,c)=((k_1:Int),((now.take k_1).foldl deliver ((o.sp,o.ls),late)).1.1,((now.take k_1).foldl deliver ((o.sp,o.ls),late)).2,((now.take k_1).foldl deliver ((o.sp,o.ls),late)).1.2)∧k_1≤now.length)∧now.length-((k+1:Nat):Int).toNat<now.length-k:=fun a b c e =>
   ⟨⟨k+1,by rw [e1,e],by omega⟩,by omega⟩
  refine ⟨fun c1=>⟨by simp;omega,by omega,fun y hy=>⟨fun c2=>⟨by simp;omega,by omega,fun z hz=>fin _ _ _ ?_⟩,fun c2=>fin _ _ _ ?_⟩⟩,fun c1=>⟨by simp;omega,by omega,fun y hy=>⟨fun c2=>⟨by simp;omega,by omega,fun z hz=>⟨by omega,fin _ _ _ ?_⟩⟩,fun c2=>fin _ _ _ ?_⟩⟩⟩
  ·cases p3.symm.trans hy
   unfold deliver;rw [if_pos (by simpa using c1),if_pos (by simpa using c2)]
  ·cases p3.symm.trans hy
   unfold deliver;rw [if_pos (by simpa using c1),if_neg (by simpa using c2)]
  ·cases p4.symm.trans hy
   unfold deliver;rw [if_neg (by simpa using c1),if_pos (by simpa using c2)]
  ·cases p4.symm.trans hy
   unfold deliver;rw [if_neg (by simpa using c1),if_neg (by simpa using c2)]
 ·have he:=hend (by omega)
  rintro _ ⟨j,rfl,hj⟩
  have hsj:((sp.take j).flatMap sends1).length≤14400:=by
   have:((sp.take j).flatMap sends1).length≤(sp.take j).length * 1200:=flat_len fun s hs=>by
    have:(sends1 s).length≤s.peers.length * 100:=flat_len fun p _=>send_le
    have:=(dn.spo s (List.mem_of_mem_take hs)).1.2.2.2.2.1
    omega
   rw [List.length_take] at this
   omega
  simp only [Int.toNat_natCast]
  refine ⟨fun b1=>⟨by simp;omega,by omega,fun x hx=>⟨⟨0,by simp,by omega⟩,?_⟩⟩,fun b1=>?_⟩
  ·have hxp:=(dn.spo x (mem_of_get hx)).1.2.2.2.2.1
   rintro _ ⟨i,rfl,hi⟩
   have hpi:((x.peers.take i).flatMap fun p=>(send x p.router).1).length≤1200:=by
    have:((x.peers.take i).flatMap fun p=>(send x p.router).1).length≤(x.peers.take i).length * 100:=flat_len fun p _=>send_le
    rw [List.length_take] at this
    omega
   simp only [Int.toNat_natCast]
   refine ⟨fun c1=>⟨by omega,by omega,fun p hp=>⟨?_,⟨i+1,?_,by omega⟩,?_⟩⟩,fun c1=>⟨⟨j+1,?_,by omega⟩,?_⟩⟩
   ·have:=send_le (s:=x) (to:=p.router)
    simp only [List.length_append];omega
   ·rw [W_succ (n:=x.peers.length) (by omega) (by omega),flat_take hp];simp
   ·rw [W_succ (n:=x.peers.length) (by omega) (by omega)];omega
   ·have ei:i=x.peers.length:=by omega
    rw [W_succ (n:=sp.length) (by omega) (by omega),flat_take hx,ei,List.take_length]
    simp [sends1]
   ·rw [W_succ (n:=sp.length) (by omega) (by omega)];omega
  ·have ej:j=sp.length:=by omega
   rw [ej,List.take_length,he]
   rfl
def rndOR_c(o:Ovl)(faults:(List Fau))(h:okRnd o faults):PC Tryz.prog:=⟨21,[(.a [(.s 5),(.s 3),(.s 10)]),(.s 2)],[.agg [.sl 5 (o.sp.map Spk.v) false,.sl 3 (o.ls.map Lsn.v) false,.sl 10 (o.fl.map Sig.v) false],.sl 2 (faults.map Fau.v) false],rndOR_e (roundO o faults),PSpec.of_ok fun ok=>(rndOR_p o faults h ok).elim fun I0 h=>h.elim fun m0 h=>h.elim fun I1 h=>h.elim fun m1 h=>h.elim fun I2 h=>h.elim fun m2 h=>mxP_of (sh:=(.a [(.a [(.s 5),(.s 3),(.s 10)]),.k])) (enc:=rndOR_e) (a:=(rndOR_x o faults I0 m0 I1 m1 I2 m2).an) h (by kernel_rfl) (AV.pureB_ok rfl),fnB_ok (by kernel_rfl)⟩
def knwOR_a(o:Ovl)(at_:Int)(of_:Int):Prop:=okL [.agg [.sl 5 (o.sp.map Spk.v) false,.sl 3 (o.ls.map Lsn.v) false,.sl 10 (o.fl.map Sig.v) false],.int at_,.int of_]
def knwOR_n0(o:Ovl)(at_:Int)(of_:Int)(t0:Bool):NF:=⟨[(2,.k,.int of_),(3,.k,.ref 0 0),(9,.k,.int (idxS o.sp at_)),(10,.k,.int (idxS o.sp of_)),(27,.k,.bool t0)],[.box (.agg [.sl 5 (o.sp.map Spk.v) false,.sl 3 (o.ls.map Lsn.v) false,.sl 10 (o.fl.map Sig.v) false])]⟩
@[reducible] def knwOR_s:Nat→Type
 | 0=>Bool
 | _=>Unit
def knwOR_e(r:(List Wnt)×Int):AV:=.tup [.sl 3 (r.1.map Wnt.v) false,.int r.2]
def knwOR_x(o:Ovl)(at_:Int)(of_:Int)(I0:Bool→Prop):Ax Tryz.prog knwOR_s ((List Wnt)×Int):=
 (.callP (valOR_c o)
(.br 128 ((valO o) != 0) (.ret ([],valO o))
(.callP (idxSF_c o at_)
(.callP (idxSF_c o of_)
(.pass (.join 0 (knwOR_n0 o at_ of_) (fun (t0:Bool)=>I0 t0) (fun b0=>(.br 304 (decide ((idxS o.sp at_)<0)) (.bk 0 b0 ((true):Bool) [0])
(.bk 0 b0 ((decide ((idxS o.sp of_)<0)):Bool) [0]))) fun (t0:Bool) =>
(.br 1 t0 (.ret ([],4))
(.br 49 ((idxS o.sp at_)==(idxS o.sp of_)) (.el 97 Spk.v o.sp (fun R=>Rf (o.sp.map Spk.v) (ck (decide (0≤(idxS o.sp of_))) (ck (decide ((idxS o.sp of_)<(o.sp.length:Int)))
(∀x1,o.sp[(idxS o.sp of_).toNat]?=some x1 →
(R x1))))) fun x1 =>
(.callP (wantsR_c x1.items)
(.ret (wantsOf x1.items,0))))
(.el 97 Lsn.v o.ls (fun R=>Rf (o.ls.map Lsn.v) (ck (decide (0≤(idxS o.sp at_))) (ck (decide ((idxS o.sp at_)<(o.ls.length:Int)))
(∀x2,o.ls[(idxS o.sp at_).toNat]?=some x2 →
(R x2))))) fun x2 =>
(.callP (knownR_c x2 of_)
(.ret (knownW x2 of_,0))))))))))))
def knwOR_vc(o:Ovl)(at_:Int)(of_:Int)(I0:Bool→Prop)(r0:(List Wnt)×Int):Prop:=(knwOR_x o at_ of_ I0).vp knwOR_e r0
theorem knwOR_p(o:Ovl)(a b:Int)(ok:knwOR_a o a b):∃I0,knwOR_vc o a b I0 (knownV o a b):=by
 refine ⟨fun t=>t=decide (a ∉ rtrs o.sp∨b ∉ rtrs o.sp),?_⟩
 dsimp only [knwOR_vc,knwOR_x,knwOR_s,Ax.vp,Ax.vc];simp only [vcU,rfU,List.length_map]
 have hV:knownV o a b=if ¬ovlOk o then ([],1) else if a ∉ rtrs o.sp∨b ∉ rtrs o.sp then ([],4) else if a=b then (wantsOf (atS o.sp b).items,0) else (knownW (atL o.sp o.ls a) b,0):=rfl
 rw [hV]
 by_cases hv:ovlOk o
 case neg =>
  have e2:valO o=1:=if_neg hv
  simp [hv,e2]
 have hL:=hv.1.lens
 rw [if_neg (not_not_intro hv),valO_z.mpr hv]
 refine ⟨fun q=>by simp at q,fun _=>⟨⟨fun c=>?_,fun c=>?_⟩,?_⟩⟩
 ·have c:=(idx_neg hv).mp c
  simp [c]
 ·have c:a∈rtrs o.sp:=Classical.not_not.mp fun q=>c ((idx_neg hv).mpr q)
  refine decide_eq_decide.mpr ?_
  rw [idx_neg hv];simp [c]
 ·rintro _ rfl
  refine ⟨fun c=>?_,fun c=>?_⟩
  ·rw [if_pos (of_decide_eq_true c)]
  have c:=of_decide_eq_false c
  rw [if_neg c]
  have ha:a∈rtrs o.sp:=by simp only [not_or,Classical.not_not] at c;exact c.1
  have hb:b∈rtrs o.sp:=by simp only [not_or,Classical.not_not] at c;exact c.2
  obtain ⟨p1,p2,p3,p4⟩:=hv.1.pos ha
  obtain ⟨u1,u2,u3,u4⟩:=hv.1.pos hb
  rw [idx_in hv ha,idx_in hv hb]
  simp only [Int.toNat_natCast]
  refine ⟨fun q=>⟨by omega,by omega,fun x hx=>?_⟩,fun q=>⟨by omega,by omega,fun x hx=>?_⟩⟩
  ·have q:a=b:=(pos_inj hv ha hb).mp (by have:=eq_of_beq q;omega)
   cases u3.symm.trans hx
   rw [if_pos q]
  ·have q:¬a=b:=fun e=>by rw [e] at q;simp at q
   cases p4.symm.trans hx
   rw [if_neg q]
def knwOR_c(o:Ovl)(at_:Int)(of_:Int):PC Tryz.prog:=⟨23,[(.a [(.s 5),(.s 3),(.s 10)]),.k,.k],[.agg [.sl 5 (o.sp.map Spk.v) false,.sl 3 (o.ls.map Lsn.v) false,.sl 10 (o.fl.map Sig.v) false],.int at_,.int of_],knwOR_e (knownV o at_ of_),PSpec.of_ok fun ok=>(knwOR_p o at_ of_ ok).elim fun I0 h=>mxP_of (sh:=(.a [(.s 3),.k])) (enc:=knwOR_e) (a:=(knwOR_x o at_ of_ I0).an) h (by kernel_rfl) (AV.pureB_ok rfl),fnB_ok (by kernel_rfl)⟩
theorem NetOk.atl{R:List Int}{sp:List Spk}{ls:List Lsn}(h:NetOk R sp ls){l:Lsn}(hl:l∈ls):atL sp ls l.router=l:=by
 unfold atL;rw [h.posL];exact atK_eq (key:=Lsn.router) h.ascL hl
theorem NetOk.posn{R:List Int}{sp:List Spk}{ls:List Lsn}(h:NetOk R sp ls){i:Nat}{s:Spk}(hs:sp[i]?=some s):posS sp s.router=i:=by
 obtain ⟨hi,e⟩:=List.getElem?_eq_some_iff.mp hs
 exact posK_eq (key:=Spk.router) h.asc hi (by rw [e])
theorem NetOk.posnl{R:List Int}{sp:List Spk}{ls:List Lsn}(h:NetOk R sp ls){i:Nat}{l:Lsn}(hl:ls[i]?=some l):posS sp l.router=i:=by
 obtain ⟨hi,e⟩:=List.getElem?_eq_some_iff.mp hl
 rw [h.posL]
 exact posK_eq (key:=Lsn.router) h.ascL hi (by rw [e])
theorem agreed_iff{o:Ovl}(h:ovlOk o):agreedP o↔∀(i:Nat) s (j:Nat) l,o.sp[i]?=some s→o.ls[j]?=some l→i≠j→agree s l:=by
 constructor
 ·rintro ⟨_,h2⟩ i s j l hs hl hij
  have hr:s.router∈rtrs o.sp:=List.mem_map.mpr ⟨s,mem_of_get hs,rfl⟩
  have hq:l.router∈rtrs o.sp:=by
   have:l.router∈o.ls.map Lsn.router:=List.mem_map.mpr ⟨l,mem_of_get hl,rfl⟩
   rw [h.1.lsr] at this;exact this
  have:=h2 _ hr _ hq fun e=>hij (by rw [←h.1.posn hs,←h.1.posnl hl,e])
  rw [h.1.at (mem_of_get hs),h.1.atl (mem_of_get hl)] at this
  exact this
 ·intro hs
  refine ⟨h,fun a ha b hb hab=>?_⟩
  obtain ⟨_,_,p3,_⟩:=h.1.pos ha
  obtain ⟨_,_,_,p4⟩:=h.1.pos hb
  exact hs _ _ _ _ p3 p4 fun e=>hab ((pos_inj h ha hb).mp e)
def agrOR_a(o:Ovl):Prop:=okL [.agg [.sl 5 (o.sp.map Spk.v) false,.sl 3 (o.ls.map Lsn.v) false,.sl 10 (o.fl.map Sig.v) false]]
def agrOR_n0(o:Ovl)(t0:Int):NF:=⟨[(1,.k,.ref 0 0),(11,.k,.sl 5 (o.sp.map Spk.v) false),(12,.k,.int ((o.sp.map Spk.v).length:Int)),(13,.k,.int t0)],[.box (.agg [.sl 5 (o.sp.map Spk.v) false,.sl 3 (o.ls.map Lsn.v) false,.sl 10 (o.fl.map Sig.v) false])]⟩
def agrOR_n1(o:Ovl)(t0:Int)(x1:Spk)(t1:Int):NF:=⟨[(1,.k,.ref 0 0),(3,.k,.int t0),(4,.k,.ref 1 0),(11,.k,.sl 5 (o.sp.map Spk.v) false),(12,.k,.int ((o.sp.map Spk.v).length:Int)),(13,.k,.int t0),(19,.k,.sl 3 (o.ls.map Lsn.v) false),(20,.k,.int ((o.ls.map Lsn.v).length:Int)),(21,.k,.int t1)],[.box (.agg [.sl 5 (o.sp.map Spk.v) false,.sl 3 (o.ls.map Lsn.v) false,.sl 10 (o.fl.map Sig.v) false]),.box (.agg [.int x1.router,.int x1.epoch,.int x1.last,.sl 4 (x1.items.map Itm.v) false,.sl 3 (x1.peers.map Per.v) false])]⟩
def agrOR_n2(o:Ovl)(t0:Int)(x1:Spk)(t1:Int)(t2:Bool):NF:=⟨[(1,.k,.ref 0 0),(3,.k,.int t0),(4,.k,.ref 1 0),(11,.k,.sl 5 (o.sp.map Spk.v) false),(12,.k,.int ((o.sp.map Spk.v).length:Int)),(13,.k,.int t0),(19,.k,.sl 3 (o.ls.map Lsn.v) false),(20,.k,.int ((o.ls.map Lsn.v).length:Int)),(21,.k,.int t1),(34,.k,.bool t2)],[.box (.agg [.sl 5 (o.sp.map Spk.v) false,.sl 3 (o.ls.map Lsn.v) false,.sl 10 (o.fl.map Sig.v) false]),.box (.agg [.int x1.router,.int x1.epoch,.int x1.last,.sl 4 (x1.items.map Itm.v) false,.sl 3 (x1.peers.map Per.v) false])]⟩
@[reducible] def agrOR_s:Nat→Type
 | 0=>Int
 | 1=>Int
 | 2=>Bool
 | _=>Unit
def agrOR_e(r:Bool):AV:=.bool r
def agrOR_x(o:Ovl)(I0:Int→Prop)(m0:Int→Nat)(I1:Int→Spk→Int→Prop)(m1:Int→Spk→Int→Nat)(I2:Int→Spk→Int→Lsn→Bool→Prop):Ax Tryz.prog agrOR_s (Bool):=
 (.callP (valOR_c o)
(.br 80 ((valO o) != 0) (.ret (false))
(.loop 0 (agrOR_n0 o) I0 m0 ((0):Int) [0] fun (t0:Int) b0 =>
(.br 17 (decide (t0<((o.sp.map Spk.v).length:Int))) (.el 33 Spk.v o.sp (fun R=>Rf (o.sp.map Spk.v) (ck (decide (0≤t0)) (ck (decide (t0<(o.sp.length:Int)))
(∀x1,o.sp[t0.toNat]?=some x1 →
(R x1))))) fun x1 =>
(.loop 1 (agrOR_n1 o t0 x1) (I1 t0 x1) (m1 t0 x1) ((0):Int) [0,65] fun (t1:Int) b1 =>
(.br 18 (decide (t1<((o.ls.map Lsn.v).length:Int))) (.el 34 Lsn.v o.ls (fun R=>Rf (o.ls.map Lsn.v) (ck (decide (0≤t1)) (ck (decide (t1<(o.ls.length:Int)))
(∀x2,o.ls[t1.toNat]?=some x2 →
(R x2))))) fun x2 =>
(.join 2 (agrOR_n2 o t0 x1 t1) (fun (t2:Bool)=>I2 t0 x1 t1 x2 t2) (fun b2=>(.br 178 (t0 != t1) (.callP (agreeR_c x1 x2)
(.bk 2 b2 ((!(decide (agree x1 x2))):Bool) [0,1]))
(.bk 2 b2 ((false):Bool) [0,1]))) fun (t2:Bool) =>
(.br 2 t2 (.ret (false))
(.bk 1 b1 ((W (t1+1)):Int) [0,1]))))
(.bk 0 b0 ((W (t0+1)):Int) [0]))))
(.ret (true))))))
def agrOR_vc(o:Ovl)(I0:Int→Prop)(m0:Int→Nat)(I1:Int→Spk→Int→Prop)(m1:Int→Spk→Int→Nat)(I2:Int→Spk→Int→Lsn→Bool→Prop)(r0:Bool):Prop:=(agrOR_x o I0 m0 I1 m1 I2).vp agrOR_e r0
theorem agrOR_p(o:Ovl)(ok:agrOR_a o):∃I0 m0 I1 m1 I2,agrOR_vc o I0 m0 I1 m1 I2 (decide (agreedP o)):=by
 refine ⟨fun t=>∃k:Nat,t=k∧k≤o.sp.length∧∀(i:Nat) s (j:Nat) l,i<k→o.sp[i]?=some s→o.ls[j]?=some l→i≠j→agree s l,fun t=>o.sp.length-t.toNat,
  fun t0 x t=>∃m:Nat,t=m∧m≤o.ls.length∧∀(j:Nat) l,j<m→o.ls[j]?=some l→t0.toNat≠j→agree x l,fun _ _ t=>o.ls.length-t.toNat,
  fun t0 x t1 l t=>t=false↔(t0≠t1→agree x l),?_⟩
 dsimp only [agrOR_vc,agrOR_x,agrOR_s,Ax.vp,Ax.vc];simp only [vcU,rfU,List.length_map]
 by_cases hv:ovlOk o
 case neg =>
  have e2:valO o=1:=if_neg hv
  have:¬agreedP o:=fun q=>hv q.1
  simp [e2,this]
 have hL:=hv.1.lens
 rw [valO_z.mpr hv]
 refine ⟨fun q=>by simp at q,fun _=>⟨⟨0,rfl,by omega,fun i s j l hi=>by omega⟩,?_⟩⟩
 rintro _ ⟨k,rfl,hk,hI⟩
 simp only [Int.toNat_natCast]
 refine ⟨fun a1=>⟨by omega,by omega,fun x hx=>⟨⟨0,rfl,by omega,fun j l hj=>by omega⟩,?_⟩⟩,fun a1=>?_⟩
 ·rintro _ ⟨m,rfl,hm,hM⟩
  simp only [Int.toNat_natCast]
  refine ⟨fun b1=>⟨by omega,by omega,fun l hl=>⟨⟨fun c1=>?_,fun c1=>?_⟩,?_⟩⟩,fun b1=>?_⟩
  ·have c1:(k:Int)≠m:=by simpa using c1
   by_cases q:agree x l
   ·simp [q]
   ·simp [q];omega
  ·have c1:(k:Int)=m:=by simpa using c1
   simp [c1]
  ·intro t2 h2
   refine ⟨fun e=>?_,fun e=>?_⟩
   ·subst e
    exact nodec fun q=>by
     have:=h2.mpr fun hne=>(agreed_iff hv).mp q k x m l hx hl (by omega)
     simp at this
   ·rw [W_succ (n:=o.ls.length) (by omega) (by omega)]
    refine ⟨⟨m+1,rfl,by omega,fun j u hj hu hne=>?_⟩,by omega⟩
    by_cases ej:j=m
    ·subst ej
     rw [hl] at hu;cases hu
     exact h2.mp e (by omega)
    ·exact hM j u (by omega) hu hne
  ·rw [W_succ (n:=o.sp.length) (by omega) (by omega)]
   refine ⟨⟨k+1,rfl,by omega,fun i s j l hi hs hl hij=>?_⟩,by omega⟩
   by_cases ei:i=k
   ·subst ei
    rw [hx] at hs;cases hs
    exact hM j l (by have:=lt_of_get hl;omega) hl hij
   ·exact hI i s j l (by omega) hs hl hij
 ·exact (decide_eq_true ((agreed_iff hv).mpr fun i s j l hs hl hij=>hI i s j l (by have:=lt_of_get hs;omega) hs hl hij)).symm
def agrOR_c(o:Ovl):PC Tryz.prog:=⟨44,[(.a [(.s 5),(.s 3),(.s 10)])],[.agg [.sl 5 (o.sp.map Spk.v) false,.sl 3 (o.ls.map Lsn.v) false,.sl 10 (o.fl.map Sig.v) false]],agrOR_e (decide (agreedP o)),PSpec.of_ok fun ok=>(agrOR_p o ok).elim fun I0 h=>h.elim fun m0 h=>h.elim fun I1 h=>h.elim fun m1 h=>h.elim fun I2 h=>mxP_of (sh:=.k) (enc:=agrOR_e) (a:=(agrOR_x o I0 m0 I1 m1 I2).an) h (by kernel_rfl) (AV.pureB_ok rfl),fnB_ok (by kernel_rfl)⟩
def setA(o:Ovl)(s:Spk)(p:Per):Prop:=p.acked=s.last∧p.epoch=(atL o.sp o.ls p.router).epoch
theorem settled_of{o:Ovl}(ha:agreedP o):settledP o↔∀s∈o.sp,∀p∈s.peers,setA o s p:=by
 rw [settled_iff ha.1]
 constructor
 ·intro h s hs p hp
  obtain ⟨_,h2,h3⟩:=h s hs p hp
  exact ⟨h3,h2⟩
 ·intro h s hs p hp
  obtain ⟨h2,h3⟩:=h s hs p hp
  obtain ⟨q1,q2,q3⟩:=peer_in ha.1.1 hs hp
  have:=ha.2 s.router (List.mem_map.mpr ⟨s,hs,rfl⟩) p.router q1 (Ne.symm q2)
  rw [ha.1.1.at hs] at this
  exact ⟨this,h3,h2⟩
def setOR_a(o:Ovl):Prop:=okL [.agg [.sl 5 (o.sp.map Spk.v) false,.sl 3 (o.ls.map Lsn.v) false,.sl 10 (o.fl.map Sig.v) false]]
def setOR_n0(o:Ovl)(t0:Int):NF:=⟨[(1,.k,.ref 0 0),(11,.k,.sl 5 (o.sp.map Spk.v) false),(12,.k,.int ((o.sp.map Spk.v).length:Int)),(13,.k,.int t0)],[.box (.agg [.sl 5 (o.sp.map Spk.v) false,.sl 3 (o.ls.map Lsn.v) false,.sl 10 (o.fl.map Sig.v) false])]⟩
def setOR_n1(o:Ovl)(t0:Int)(x1:Spk)(t1:Int):NF:=⟨[(1,.k,.ref 0 0),(4,.k,.ref 1 0),(11,.k,.sl 5 (o.sp.map Spk.v) false),(12,.k,.int ((o.sp.map Spk.v).length:Int)),(13,.k,.int t0),(18,.k,.sl 3 (x1.peers.map Per.v) false),(19,.k,.int ((x1.peers.map Per.v).length:Int)),(20,.k,.int t1)],[.box (.agg [.sl 5 (o.sp.map Spk.v) false,.sl 3 (o.ls.map Lsn.v) false,.sl 10 (o.fl.map Sig.v) false]),.box (.agg [.int x1.router,.int x1.epoch,.int x1.last,.sl 4 (x1.items.map Itm.v) false,.sl 3 (x1.peers.map Per.v) false])]⟩
def setOR_n2(o:Ovl)(t0:Int)(x1:Spk)(t1:Int)(t2:Bool):NF:=⟨[(1,.k,.ref 0 0),(4,.k,.ref 1 0),(11,.k,.sl 5 (o.sp.map Spk.v) false),(12,.k,.int ((o.sp.map Spk.v).length:Int)),(13,.k,.int t0),(18,.k,.sl 3 (x1.peers.map Per.v) false),(19,.k,.int ((x1.peers.map Per.v).length:Int)),(20,.k,.int t1),(42,.k,.bool t2)],[.box (.agg [.sl 5 (o.sp.map Spk.v) false,.sl 3 (o.ls.map Lsn.v) false,.sl 10 (o.fl.map Sig.v) false]),.box (.agg [.int x1.router,.int x1.epoch,.int x1.last,.sl 4 (x1.items.map Itm.v) false,.sl 3 (x1.peers.map Per.v) false])]⟩
@[reducible] def setOR_s:Nat→Type
 | 0=>Int
 | 1=>Int
 | 2=>Bool
 | _=>Unit
def setOR_e(r:Bool):AV:=.bool r
def setOR_x(o:Ovl)(I0:Int→Prop)(m0:Int→Nat)(I1:Int→Spk→Int→Prop)(m1:Int→Spk→Int→Nat)(I2:Int→Spk→Int→Per→Bool→Prop):Ax Tryz.prog setOR_s (Bool):=
 (.callP (agrOR_c o)
(.br 80 (!(decide (agreedP o))) (.ret (false))
(.loop 0 (setOR_n0 o) I0 m0 ((0):Int) [0] fun (t0:Int) b0 =>
(.br 17 (decide (t0<((o.sp.map Spk.v).length:Int))) (.el 17 Spk.v o.sp (fun R=>Rf (o.sp.map Spk.v) (ck (decide (0≤t0)) (ck (decide (t0<(o.sp.length:Int)))
(∀x1,o.sp[t0.toNat]?=some x1 →
(R x1))))) fun x1 =>
(.loop 1 (setOR_n1 o t0 x1) (I1 t0 x1) (m1 t0 x1) ((0):Int) [0,49] fun (t1:Int) b1 =>
(.br 18 (decide (t1<((x1.peers.map Per.v).length:Int))) (.el 18 Per.v x1.peers (fun R=>Rf (x1.peers.map Per.v) (ck (decide (0≤t1)) (ck (decide (t1<(x1.peers.length:Int)))
(∀x2,x1.peers[t1.toNat]?=some x2 →
(R x2))))) fun x2 =>
(.join 2 (setOR_n2 o t0 x1 t1) (fun (t2:Bool)=>I2 t0 x1 t1 x2 t2) (fun b2=>(.br 178 (x2.acked != x1.last) (.bk 2 b2 ((true):Bool) [0,1])
(.callP (idxSF_c o x2.router)
(.el 306 Lsn.v o.ls (fun R=>Rf (o.ls.map Lsn.v) (ck (decide (0≤(idxS o.sp x2.router))) (ck (decide ((idxS o.sp x2.router)<(o.ls.length:Int)))
(∀x3,o.ls[(idxS o.sp x2.router).toNat]?=some x3 →
(R x3))))) fun x3 =>
(.bk 2 b2 ((x2.epoch != x3.epoch):Bool) [0,1]))))) fun (t2:Bool) =>
(.br 2 t2 (.ret (false))
(.bk 1 b1 ((W (t1+1)):Int) [0,1]))))
(.bk 0 b0 ((W (t0+1)):Int) [0]))))
(.ret (true))))))
def setOR_vc(o:Ovl)(I0:Int→Prop)(m0:Int→Nat)(I1:Int→Spk→Int→Prop)(m1:Int→Spk→Int→Nat)(I2:Int→Spk→Int→Per→Bool→Prop)(r0:Bool):Prop:=(setOR_x o I0 m0 I1 m1 I2).vp setOR_e r0
theorem setOR_p(o:Ovl)(ok:setOR_a o):∃I0 m0 I1 m1 I2,setOR_vc o I0 m0 I1 m1 I2 (decide (settledP o)):=by
 refine ⟨fun t=>∃k:Nat,t=k∧k≤o.sp.length∧∀s∈o.sp.take k,∀p∈s.peers,setA o s p,fun t=>o.sp.length-t.toNat,
  fun _ x t=>∃j:Nat,t=j∧j≤x.peers.length∧∀p∈x.peers.take j,setA o x p,fun _ x t=>x.peers.length-t.toNat,
  fun _ x _ p t=>t=false↔setA o x p,?_⟩
 dsimp only [setOR_vc,setOR_x,setOR_s,Ax.vp,Ax.vc];simp only [vcU,rfU,List.length_map]
 by_cases ha:agreedP o
 case neg =>
  have:¬settledP o:=fun q=>ha q.1
  simp [ha,this]
 have hv:=ha.1
 have hL:=hv.1.lens
 refine ⟨fun q=>absurd ha (by simpa using q),fun _=>⟨⟨0,rfl,by omega,by simp⟩,?_⟩⟩
 rintro _ ⟨k,rfl,hk,hI⟩
 simp only [Int.toNat_natCast]
 refine ⟨fun a1=>⟨by omega,by omega,fun x hx=>⟨⟨0,rfl,by omega,by simp⟩,?_⟩⟩,fun a1=>?_⟩
 ·have hxm:=mem_of_get hx
  have hxp:=(hv.1.spo x hxm).1.2.2.2.2.1
  rintro _ ⟨j,rfl,hj,hJ⟩
  simp only [Int.toNat_natCast]
  refine ⟨fun b1=>⟨by omega,by omega,fun p hp=>?_⟩,fun b1=>?_⟩
  ·obtain ⟨q1,q2,q3⟩:=peer_in hv.1 hxm (mem_of_get hp)
   obtain ⟨p1,p2,p3,p4⟩:=hv.1.pos q1
   rw [idx_in hv q1]
   simp only [Int.toNat_natCast]
   refine ⟨⟨fun c1=>?_,fun c1=>⟨by omega,by omega,fun l hl=>?_⟩⟩,?_⟩
   ·have c1:¬p.acked=x.last:=by simpa using c1
    simp [setA,c1]
   ·have c1:p.acked=x.last:=by simpa using c1
    cases p4.symm.trans hl
    simp [setA,c1]
   ·intro t2 h2
    refine ⟨fun e=>?_,fun e=>?_⟩
    ·subst e
     exact nodec fun q=>by
      have:=h2.mpr ((settled_of ha).mp q x hxm p (mem_of_get hp))
      simp at this
    ·rw [W_succ (n:=x.peers.length) (by omega) (by omega)]
     exact ⟨⟨j+1,rfl,by omega,take_all hp hJ (h2.mp e)⟩,by omega⟩
  ·have ej:j=x.peers.length:=by omega
   rw [ej,List.take_length] at hJ
   rw [W_succ (n:=o.sp.length) (by omega) (by omega)]
   exact ⟨⟨k+1,rfl,by omega,take_all hx hI hJ⟩,by omega⟩
 ·have ek:k=o.sp.length:=by omega
  rw [ek,List.take_length] at hI
  exact (decide_eq_true ((settled_of ha).mpr hI)).symm
def setOR_c(o:Ovl):PC Tryz.prog:=⟨12,[(.a [(.s 5),(.s 3),(.s 10)])],[.agg [.sl 5 (o.sp.map Spk.v) false,.sl 3 (o.ls.map Lsn.v) false,.sl 10 (o.fl.map Sig.v) false]],setOR_e (decide (settledP o)),PSpec.of_ok fun ok=>(setOR_p o ok).elim fun I0 h=>h.elim fun m0 h=>h.elim fun I1 h=>h.elim fun m1 h=>h.elim fun I2 h=>mxP_of (sh:=.k) (enc:=setOR_e) (a:=(setOR_x o I0 m0 I1 m1 I2).an) h (by kernel_rfl) (AV.pureB_ok rfl),fnB_ok (by kernel_rfl)⟩
def dropAt(l:List Int)(i:Nat):List Int:=l.take i++l.drop (i+1)
def spkM(l:List Int)(i:Nat)(r:Int):Spk:=⟨r,1,0,[],(dropAt l i).map fun x=>⟨x,0,0⟩⟩
theorem dropAt_ok{l:List Int}(h:l.Pairwise (·<·)){i:Nat}{r:Int}(hr:l[i]?=some r):dropAt l i=others l r:=by
 obtain ⟨hi,e⟩:=List.getElem?_eq_some_iff.mp hr
 have hl:l=l.take i++r::l.drop (i+1):=by
  rw [←e,List.getElem_cons_drop,List.take_append_drop]
 have h1:∀x∈l.take i,x≠r:=fun x hx q=>by
  rw [hl,List.pairwise_append] at h
  have:=h.2.2 x hx r (by simp);omega
 have h2:∀x∈l.drop (i+1),x≠r:=fun x hx q=>by
  rw [hl,List.pairwise_append,List.pairwise_cons] at h
  have:=h.2.1.1 x hx;omega
 unfold dropAt others
 conv=>rhs;rw [hl]
 rw [List.filter_append,List.filter_cons_of_neg (by simp),List.filter_eq_self.mpr fun x hx=>by simpa using h1 x hx,List.filter_eq_self.mpr fun x hx=>by simpa using h2 x hx]
theorem spkM_ok{l:List Int}(h:okR l){i:Nat}{r:Int}(hr:l[i]?=some r):spkM l i r=spkN l r:=by
 unfold spkM spkN
 rw [dropAt_ok h.2.2 hr];rfl
theorem netM_eq{l:List Int}(h:okR l):(⟨l.mapIdx (spkM l),l.map lsnN,[]⟩:Ovl)=netOf l:=by
 have:l.mapIdx (spkM l)=l.map (spkN l):=by
  refine List.ext_getElem (by simp) fun i h1 h2=>?_
  rw [List.getElem_mapIdx,List.getElem_map]
  exact spkM_ok h (List.getElem?_eq_getElem (by simpa using h1))
 rw [this];rfl
theorem netM_iff(l:List Int):ovlOk ⟨l.mapIdx (spkM l),l.map lsnN,[]⟩↔okR l:=by
 have er:rtrs (l.mapIdx (spkM l))=l:=by
  unfold rtrs
  refine List.ext_getElem (by simp) fun i h1 h2=>?_
  simp [spkM]
 constructor
 ·rintro ⟨h,_⟩
  simp only [er] at h
  refine ⟨h.len,fun r hr=>?_,h.ascR⟩
  obtain ⟨i,hi,rfl⟩:=List.getElem_of_mem hr
  have:=(h.spo (spkM l i l[i]) (List.mem_mapIdx.mpr ⟨i,hi,rfl⟩)).1.1
  exact this
 ·intro h
  rw [netM_eq h]
  exact (netOf_iff l).mpr h
theorem new_M(l:List Int)(i:Nat)(r:Int):new r 1 (dropAt l i)=if spkOk (spkM l i r) then (spkM l i r,0) else (spk0,1):=rfl
def newOR_a(routers:(List Int)):Prop:=okL [.sl 1 (routers.map AV.int) false]
abbrev newOR_v0(routers:(List Int)):=(routers.take ((routers.length:Int).toNat))
def newOR_n0(routers:(List Int))(t0:Int×(List Lsn)×(List Spk)):NF:=⟨[(0,.k,.sl 1 (routers.map AV.int) false),(2,.k,.ref 0 0),(4,.k,.ref 1 0),(14,.k,.sl 1 (routers.map AV.int) false),(15,.k,.int ((routers.map AV.int).length:Int)),(16,.k,.int t0.1)],[.box (.agg [.sl 0 [] true,.sl 0 [] true,.sl 0 [] true]),.box (.agg [.vec 2,.vec 3,.sl 0 [] true]),.vec 5 (t0.2.2.map Spk.v) (pureBL_map (fun _=>rfl) t0.2.2),.vec 3 (t0.2.1.map Lsn.v) (pureBL_map (fun _=>rfl) t0.2.1)]⟩
@[reducible] def newOR_s:Nat→Type
 | 0=>Int×(List Lsn)×(List Spk)
 | _=>Unit
def newOR_e(r:Ovl×Int):AV:=.tup [Ovl.v r.1,.int r.2]
def newOR_x(routers:(List Int))(I0:(Int×(List Lsn)×(List Spk))→Prop)(m0:(Int×(List Lsn)×(List Spk))→Nat):Ax Tryz.prog newOR_s (Ovl×Int):=
 (.br 96 (decide (12<((routers.map AV.int).length:Int))) (.ret ((⟨[],[],[]⟩:Ovl),1))
(.cmdL (.nilB 32 0 5) (.cmdL (.nilB 32 1 3) (.loop 0 (newOR_n0 routers) I0 m0 (0,[],[]) [0,32,144,145] fun (t0:Int×(List Lsn)×(List Spk)) b0 =>
(.br 20 (decide (t0.1<((routers.map AV.int).length:Int))) (.el 36 AV.int routers (fun R=>Rf (routers.map AV.int) (ck (decide (0≤t0.1)) (ck (decide (t0.1<(routers.length:Int)))
(∀x1,routers[t0.1.toNat]?=some x1 →
(R x1))))) fun x1 =>
(.say (fun R=>Rf (α:=List AV) (routers.map AV.int) (ck (bndB routers.length 0 t0.1 (routers.length:Int))
R)) (.sub 164 AV.int routers false
(.say (fun R=>Rf (α:=List AV) [] (Rf (α:=List AV) (((routers.take t0.1.toNat).drop 0).map AV.int)
(ck (decide (0+((routers.take t0.1.toNat).drop 0).length≤1000000))
R))) (.app 180 AV.int [] ((routers.take t0.1.toNat).drop 0)
(.say (fun R=>Rf (α:=List AV) (routers.map AV.int) (ck (bndB routers.length (W (t0.1+1)) (routers.length:Int) (routers.length:Int))
R)) (.sub 244 AV.int routers false
(.say (fun R=>Rf (α:=List AV) (((routers.take t0.1.toNat).drop 0).map AV.int) (Rf (α:=List AV) (((newOR_v0 routers).drop ((W (t0.1+1)).toNat)).map AV.int)
(ck (decide (((routers.take t0.1.toNat).drop 0).length+((newOR_v0 routers).drop ((W (t0.1+1)).toNat)).length≤1000000))
R))) (.app 260 AV.int ((routers.take t0.1.toNat).drop 0) ((newOR_v0 routers).drop ((W (t0.1+1)).toNat))
(.say (Rf ((((routers.take t0.1.toNat).drop 0)++((newOR_v0 routers).drop ((W (t0.1+1)).toNat))).map AV.int)) (.cmd (.frzE 260 ((((routers.take t0.1.toNat).drop 0)++((newOR_v0 routers).drop ((W (t0.1+1)).toNat))).map AV.int) (pureBL_map (fun _=>rfl) (((routers.take t0.1.toNat).drop 0)++((newOR_v0 routers).drop ((W (t0.1+1)).toNat))))) (.callP (newR_c x1 1 (((routers.take t0.1.toNat).drop 0)++((newOR_v0 routers).drop ((W (t0.1+1)).toNat))))
(.br 468 (((new x1 1 (((routers.take t0.1.toNat).drop 0)++((newOR_v0 routers).drop ((W (t0.1+1)).toNat)))).2) != 0) (.ret ((⟨[],[],[]⟩:Ovl),1))
(.say (fun R=>Rf (α:=List AV) (t0.2.2.map Spk.v) (Rf (α:=List AV) [.agg [.int (((new x1 1 (((routers.take t0.1.toNat).drop 0)++((newOR_v0 routers).drop ((W (t0.1+1)).toNat)))).1).router),.int (((new x1 1 (((routers.take t0.1.toNat).drop 0)++((newOR_v0 routers).drop ((W (t0.1+1)).toNat)))).1).epoch),.int (((new x1 1 (((routers.take t0.1.toNat).drop 0)++((newOR_v0 routers).drop ((W (t0.1+1)).toNat)))).1).last),.sl 4 ((((new x1 1 (((routers.take t0.1.toNat).drop 0)++((newOR_v0 routers).drop ((W (t0.1+1)).toNat)))).1).items).map Itm.v) false,.sl 3 ((((new x1 1 (((routers.take t0.1.toNat).drop 0)++((newOR_v0 routers).drop ((W (t0.1+1)).toNat)))).1).peers).map Per.v) false]]
(ck (decide (t0.2.2.length+1≤1000000))
R))) (.app 532 Spk.v t0.2.2 [(new x1 1 (((routers.take t0.1.toNat).drop 0)++((newOR_v0 routers).drop ((W (t0.1+1)).toNat)))).1]
(.say (fun R=>Idt (t0.2.1.map Lsn.v) (Rf (α:=List AV) [.agg [.int x1,.int 1,.sl 0 [] true]]
(ck (decide ((t0.2.1.map Lsn.v).length+1≤1000000))
R))) (.app 660 (fun y:AV=>y) (t0.2.1.map Lsn.v) [.agg [.int x1,.int 1,.sl 0 [] true]]
(.say (fun R=>FitE (.a [.k,.k,(.s 4)]) Lsn.v t0.2.1 [(⟨x1,1,[]⟩:Lsn)] [.agg [.int x1,.int 1,.sl 0 [] true]] ∧
R) (.cmd (.wkV 660 (.a [.k,.k,(.s 4)]) Lsn.v (t0.2.1++[(⟨x1,1,[]⟩:Lsn)])) (.bk 0 b0 (W (t0.1+1),t0.2.1++[(⟨x1,1,[]⟩:Lsn)],t0.2.2++[(new x1 1 (((routers.take t0.1.toNat).drop 0)++((newOR_v0 routers).drop ((W (t0.1+1)).toNat)))).1]) [0,1,532,660]))))))))))))))))))))
(.callP (valOR_c (⟨t0.2.2,t0.2.1,[]⟩:Ovl))
(.say (ck (pureBLs [(t0.2.2.map Spk.v),(t0.2.1.map Lsn.v)])) (.br 68 ((valO (⟨t0.2.2,t0.2.1,[]⟩:Ovl)) != 0) (.ret ((⟨[],[],[]⟩:Ovl),1))
(.say (Rf (t0.2.1.map Lsn.v)) (.cmdL (.frzE 3 (t0.2.1.map Lsn.v) (pureBL_map (fun _=>rfl) t0.2.1)) (.say (Rf (t0.2.2.map Spk.v)) (.cmdL (.frzE 2 (t0.2.2.map Spk.v) (pureBL_map (fun _=>rfl) t0.2.2)) (.ret ((⟨t0.2.2,t0.2.1,[]⟩:Ovl),0))))))))))))))
def newOR_vc(routers:(List Int))(I0:(Int×(List Lsn)×(List Spk))→Prop)(m0:(Int×(List Lsn)×(List Spk))→Nat)(r0:Ovl×Int):Prop:=(newOR_x routers I0 m0).vp newOR_e r0
theorem newOR_p(l:List Int)(h:l.length≤1000)(ok:newOR_a l):∃I m,newOR_vc l I m (newN l):=by
 refine ⟨fun t=>∃k:Nat,t=((k:Int),(l.take k).map lsnN,(l.mapIdx (spkM l)).take k)∧k≤l.length,fun t=>l.length-t.1.toNat,?_⟩
 dsimp only [newOR_vc,newOR_x,newOR_s,newOR_v0,Ax.vp,Ax.vc];simp only [vcU,rfU,List.length_map]
 have hN:newN l=if okR l then (netOf l,0) else (ovl0,1):=rfl
 rw [hN]
 refine ⟨fun q=>?_,fun q=>⟨⟨0,rfl,by omega⟩,?_⟩⟩
 ·have:¬okR l:=fun e=>by have:=e.1;omega
  rw [if_neg this];rfl
 rintro _ ⟨k,rfl,hk⟩
 simp only [Int.toNat_natCast]
 refine ⟨fun a1=>⟨by omega,by omega,fun x hx=>?_⟩,fun a1=>?_⟩
 ·rw [W_succ (n:=l.length) (by omega) (by omega)]
  simp only [Int.toNat_natCast,List.take_length,List.drop_zero]
  have hdr:l.take k++l.drop (k+1)=dropAt l k:=rfl
  have hdl:(l.take k).length+(l.drop (k+1)).length≤1000:=by rw [List.length_take,List.length_drop];omega
  have hb1:bndB l.length 0 (k:Int) (l.length:Int)=true:=by simp [bndB];omega
  have hb2:bndB l.length ((k+1:Nat):Int) (l.length:Int) (l.length:Int)=true:=by simp [bndB];omega
  rw [hdr,new_M]
  refine ⟨hb1,by omega,hb2,by omega,fun c=>?_,fun c=>?_⟩
  ·have c:¬spkOk (spkM l k x):=fun e=>by rw [if_pos e] at c;simp at c
   have:¬okR l:=fun e=>c (by rw [spkM_ok e hx];exact (spkN_ok e (mem_of_get hx)).1)
   rw [if_neg this];rfl
  ·have c:spkOk (spkM l k x):=by
    by_cases e:spkOk (spkM l k x)
    ·exact e
    ·rw [if_neg e] at c;simp at c
   rw [if_pos c]
   have hm:(l.mapIdx (spkM l))[k]?=some (spkM l k x):=by rw [List.getElem?_mapIdx,hx];rfl
   refine ⟨by simp;omega,by simp;omega,fitE_one (fun _=>rfl) rfl,⟨k+1,?_,by omega⟩,by omega⟩
   rw [take_succ hx,take_succ hm,List.map_append];rfl
 ·rw [List.take_of_length_le (by simp;omega),List.take_of_length_le (by omega)]
  have hz:valO (⟨l.mapIdx (spkM l),l.map lsnN,[]⟩:Ovl)=if okR l then 0 else 1:=by
   unfold valO
   simp only [netM_iff]
  refine ⟨by generalize l.mapIdx (spkM l)=A;generalize l.map lsnN=B;simp [pureBLs,pureBL_map (v:=Spk.v) (fun _=>rfl),pureBL_map (v:=Lsn.v) (fun _=>rfl)],fun q=>?_,fun q=>?_⟩
  ·rw [hz] at q
   by_cases e:okR l
   ·rw [if_pos e] at q;simp at q
   ·rw [if_neg e];rfl
  ·rw [hz] at q
   by_cases e:okR l
   ·rw [if_pos e,netM_eq e]
   ·rw [if_neg e] at q;simp at q
def newOR_c(routers:(List Int))(h:routers.length≤1000):PC Tryz.prog:=⟨27,[(.s 1)],[.sl 1 (routers.map AV.int) false],newOR_e (newN routers),PSpec.of_ok fun ok=>(newOR_p routers h ok).elim fun I0 h=>h.elim fun m0 h=>mxP_of (sh:=(.a [(.a [(.s 5),(.s 3),(.s 10)]),.k])) (enc:=newOR_e) (a:=(newOR_x routers I0 m0).an) h (by kernel_rfl) (AV.pureB_ok rfl),fnB_ok (by kernel_rfl)⟩
def sigA(L:List Int)(p:Nat):Sig×Nat:=
 let k:=rng L p 1 3
 let p1:=rawP L p
 let s:=rng L p1 1 6
 let p2:=rawP L p1
 let e:=pickI [1,2,3,rng L p2 1 1000000] (rawV L (rawP L p2))
 let p4:=rawP L (rawP L p2)
 let d0:=W (1+Int.tmod (W (s+Mod (rawV L p4) 5)) 6)
 let d:=if d0=s then 99 else d0
 let p5:=rawP L p4
 let v:=pickI [0,1,2,5,rng L p5 0 1000000,1000000] (rawV L (rawP L p5))
 (⟨k,s,d,e,v,0,0,0,0,[]⟩,rawP L (rawP L p5))
def sigB(L:List Int)(x:Sig)(p:Nat):Sig×Nat:=
 if x.kind=2 then
  (⟨x.kind,x.src,x.dst,x.epoch,max 1 x.ver,pickI [0,W (max 1 x.ver-1),Mod (rawV L p) (max 1 x.ver)] (rawV L (rawP L p)),x.pep,rng L (rawP L (rawP L p)) 1 6,
   (filterT L (rawP L (rawP L (rawP L p)))).1.mode,(filterT L (rawP L (rawP L (rawP L p)))).1.srcs⟩,(filterT L (rawP L (rawP L (rawP L p)))).2)
 else if x.kind=3 then (⟨x.kind,x.src,x.dst,pickI [0,x.epoch] (rawV L p),x.ver,x.prev,pickI [1,2,1000000] (rawV L (rawP L p)),x.grp,x.mode,x.srcs⟩,rawP L (rawP L p))
 else (x,p)
def sigT(L:List Int)(p:Nat):Sig×Nat:=sigB L (sigA L p).1 (sigA L p).2
def bentF(L:List Int)(p:Nat)(f:Flt):Flt×Nat:=
 if Mod (rawV L p) 4=0 then (⟨rng L (rawP L p) 0 3,f.srcs⟩,rawP L (rawP L p))
 else if Mod (rawV L p) 4=1 then (⟨f.mode,f.srcs++[pickI [0,1,99,100] (rawV L (rawP L p))]⟩,rawP L (rawP L p))
 else if Mod (rawV L p) 4=2 then (if 0<(f.srcs.length:Int) then ⟨f.mode,f.srcs++[f.srcs.getD 0 0]⟩ else f,rawP L p)
 else if 0<(f.srcs.length:Int) then (⟨f.mode,f.srcs.set 0 (pickI [-1,0,100] (rawV L (rawP L p)))⟩,rawP L (rawP L p)) else (f,rawP L p)
def bentG(L:List Int)(p:Nat)(x:Sig):Sig×Nat:=
  if Mod (rawV L p) 9=0 then ({ x with kind:=rng L (rawP L p) 0 4 },rawP L (rawP L p))
  else if Mod (rawV L p) 9=1 then ({ x with src:=pickI [0,1,99,100,x.dst] (rawV L (rawP L p)) },rawP L (rawP L p))
  else if Mod (rawV L p) 9=2 then ({ x with dst:=pickI [0,99,100] (rawV L (rawP L p)) },rawP L (rawP L p))
  else if Mod (rawV L p) 9=3 then ({ x with epoch:=pickI [-1,0,1000000,1000001] (rawV L (rawP L p)) },rawP L (rawP L p))
  else if Mod (rawV L p) 9=4 then ({ x with ver:=pickI [-1,0,1000000,1000001] (rawV L (rawP L p)) },rawP L (rawP L p))
  else if Mod (rawV L p) 9=5 then ({ x with prev:=pickI [-1,x.ver,W (x.ver-1),1] (rawV L (rawP L p)) },rawP L (rawP L p))
  else if Mod (rawV L p) 9=6 then ({ x with pep:=pickI [0,1,1000001] (rawV L (rawP L p)) },rawP L (rawP L p))
  else if Mod (rawV L p) 9=7 then ({ x with grp:=pickI [0,1,99,100] (rawV L (rawP L p)) },rawP L (rawP L p))
  else ({ x with mode:=(bentF L (rawP L p) ⟨x.mode,x.srcs⟩).1.mode,srcs:=(bentF L (rawP L p) ⟨x.mode,x.srcs⟩).1.srcs },(bentF L (rawP L p) ⟨x.mode,x.srcs⟩).2)
def smN:List Itm→Int→Int
 | [],n=>n
 | x::r,n=>if n<900 then smN r (W (n+x.srcs.length)) else n
def smallI(l:List Itm):Bool:=decide (smN l l.length≤800)
def smallS(s:Spk):Bool:=smallI s.items && decide ((s.peers.length:Int)≤40)
def smallL(l:Lsn):Bool:=decide ((l.heard.length:Int)≤30) && l.heard.all fun h=>smallI h.items
def itmAt(l:List Itm)(i:Nat):Itm:=l.getD i ⟨0,0,0,[]⟩
def perAt(l:List Per)(i:Nat):Per:=l.getD i ⟨0,0,0⟩
def bentS(L:List Int)(p:Nat)(s:Spk):Spk×Nat:=
  let k:=Mod (rawV L p) 8
  let q:=rawP L p
  let i:=(Mod (rawV L q) s.items.length).toNat
  let j:=(Mod (rawV L q) s.peers.length).toNat
  if k=0 then ({ s with router:=pickI [0,99,100,7] (rawV L q) },rawP L q)
  else if k=1 then ({ s with epoch:=pickI [0,1000000,1000001] (rawV L q) },rawP L q)
  else if k=2 then ({ s with last:=pickI [-1,0,1000000,1000001] (rawV L q) },rawP L q)
  else if k=3 then ({ s with items:=s.items++[⟨s.last,rng L q 0 7,(filterT L (rawP L q)).1.mode,(filterT L (rawP L q)).1.srcs⟩] },(filterT L (rawP L q)).2)
  else if k=4 then (if 0<(s.items.length:Int) then
    ({ s with items:=s.items.set i ⟨(itmAt s.items i).ver,(itmAt s.items i).grp,(bentF L (filterT L (rawP L q)).2 (filterT L (rawP L q)).1).1.mode,(bentF L (filterT L (rawP L q)).2 (filterT L (rawP L q)).1).1.srcs⟩ },(bentF L (filterT L (rawP L q)).2 (filterT L (rawP L q)).1).2) else (s,q))
  else if k=5 then (if 0<(s.items.length:Int) then ({ s with items:=s.items.set i { itmAt s.items i with ver:=rng L (rawP L q) (-1) (W (s.last+1)) } },rawP L (rawP L q)) else (s,q))
  else if k=6 then (if 0<(s.peers.length:Int) then ({ s with peers:=s.peers.set j { perAt s.peers j with acked:=pickI [-1,s.last,W (s.last+1)] (rawV L (rawP L q)) } },rawP L (rawP L q)) else (s,q))
  else (if 0<(s.peers.length:Int) then ({ s with peers:=s.peers.set j { perAt s.peers j with router:=pickI [0,s.router,7,100] (rawV L (rawP L q)) } },rawP L (rawP L q)) else (s,q))
def bentO(L:List Int)(p:Nat)(o:Ovl):Ovl×Nat:=
 let k:=(Mod (rawV L p) o.sp.length).toNat
 let c:=Mod (rawV L (rawP L p)) 6
 let q:=rawP L (rawP L p)
 let s:=o.sp.getD k spk0
 let l:=o.ls.getD k lsn0
 if c=0 then (⟨o.sp.set k (bentS L q s).1,o.ls,o.fl⟩,(bentS L q s).2)
 else if c=1 then (⟨o.sp,o.ls.take k,o.fl⟩,q)
 else if c=2 then (⟨o.sp,o.ls,o.fl++[(bentG L (sigT L q).2 (sigT L q).1).1]⟩,(bentG L (sigT L q).2 (sigT L q).1).2)
 else if c=3 then (⟨(o.sp.set k (o.sp.getD 0 spk0)).set 0 s,o.ls,o.fl⟩,q)
 else if c=4 then (⟨o.sp,o.ls.set k ⟨l.router,l.epoch,[(⟨1,1,0,[]⟩:Hrd)]++l.heard⟩,o.fl⟩,q)
 else (⟨o.sp.set k ⟨s.router,s.epoch,s.last,s.items,s.peers.take (W ((s.peers.length:Int).tdiv 2)).toNat⟩,o.ls,o.fl⟩,q)
def okBent(o:Ovl):Prop:=(0<o.sp.length∧o.sp.length≤1000∧o.ls.length=o.sp.length)∧o.fl.length≤900000∧(∀s∈o.sp,s.items.length≤900000∧s.peers.length≤900000)∧∀l∈o.ls,l.heard.length≤900000
theorem bentO_fl{L:List Int}{p:Nat}{o:Ovl}:(bentO L p o).1.fl.length≤o.fl.length+1:=by
 unfold bentO
 dsimp only
 split
 ·exact Nat.le_succ _
 split
 ·exact Nat.le_succ _
 split
 ·exact Nat.le_of_eq (List.length_append ..)
 split
 ·exact Nat.le_succ _
 split
 ·exact Nat.le_succ _
 ·exact Nat.le_succ _
def smallO(o:Ovl):Bool:=decide (o.sp.length≤14) && (decide (o.ls.length≤14) && (decide (o.fl.length≤200) && (o.sp.all smallS && (o.ls.all smallL && o.fl.all fun x=>decide (x.srcs.length≤110)))))
theorem smallO_fl{o:Ovl}(h:smallO o=true):o.fl.length≤200:=by
 unfold smallO at h
 simp only [Bool.and_eq_true,decide_eq_true_eq] at h
 exact h.2.2.1
theorem all_succ{α:Type}{l:List α}{k:Nat}{x:α}{p:α→Bool}(hx:l[k]?=some x)(h:(l.take k).all p=true)(d:p x=true):(l.take (k+1)).all p=true:=by
 obtain ⟨hk,rfl⟩:=List.getElem?_eq_some_iff.mp hx
 rw [List.take_succ_eq_append_getElem hk,List.all_append,h]
 simp [d]
theorem all_not{α:Type}{l:List α}{x:α}{p:α→Bool}(hx:x∈l)(d:p x=false):l.all p=false:=by
 refine Bool.eq_false_iff.mpr fun q=>?_
 rw [List.all_eq_true] at q
 have:=q x hx
 rw [d] at this
 exact Bool.noConfusion this
structure NI (R:List Int) (o:Ovl):Prop where
  net:NetOk R o.sp o.ls
  fl:∀x∈o.fl,sigIn R x
section
variable {R : List Int} {o : Ovl} {L : List Int}
theorem NI.ok(h:NI R o):ovlOk o:=by
 have e:rtrs o.sp=R:=h.net.spr
 exact ⟨by rw [e];exact h.net,by rw [e];exact h.fl⟩
theorem NI.chg(h:NI R o){r:Int}{w:List Wnt}(hc:(changeV o r w).2=0):NI R (changeV o r w).1∧(changeV o r w).1.fl=o.fl:=by
 have e0:rtrs o.sp=R:=h.net.spr
 unfold changeV at hc ⊢
 rw [if_neg (not_not_intro h.ok)] at hc ⊢
 by_cases h1:r ∉ rtrs o.sp
 ·rw [if_pos h1] at hc;simp at hc
 rw [if_neg h1] at hc ⊢
 by_cases h2:wErr false w≠0
 ·rw [if_pos h2] at hc;exact absurd hc h2
 rw [if_neg h2] at hc ⊢
 by_cases h3:(changes (wantsOf (atS o.sp r).items) w).2≠0
 ·rw [if_pos h3] at hc;exact absurd hc h3
 rw [if_neg h3] at hc ⊢
 by_cases h4:(change (atS o.sp r) (changes (wantsOf (atS o.sp r).items) w).1).2≠0
 ·rw [if_pos h4] at hc;exact absurd hc h4
 rw [if_neg h4]
 have hr:r∈R:=by rw [←e0];exact Classical.not_not.mp h1
 have h4:=Classical.not_not.mp h4
 obtain ⟨q1,q2⟩:=h.net.s hr
 obtain ⟨k1,k2⟩:=h.net.spo _ q1
 obtain ⟨_,f2,f3,f4⟩:=change_val h4
 have hok:=change_spkOk h4
 generalize hz:(change (atS o.sp r) (changes (wantsOf (atS o.sp r).items) w).1).1=z at *
 have hz1:z.router=(atS o.sp r).router∧z.peers=(atS o.sp r).peers:=by rw [←hz,f4];exact ⟨rfl,rfl⟩
 have s:=h.net.setS hr (z:=z) (by rw [hz1.1];exact q2) ⟨hok,by rw [hz1.1,hz1.2];exact k2⟩
 exact ⟨⟨s.net,h.fl⟩,rfl⟩
theorem NI.rst(h:NI R o){r:Int}{w:List Wnt}(hc:(restartV o r w).2=0):NI R (restartV o r w).1∧(restartV o r w).1.fl=o.fl:=by
 have e0:rtrs o.sp=R:=h.net.spr
 unfold restartV at hc ⊢
 rw [if_neg (not_not_intro h.ok)] at hc ⊢
 by_cases h1:r ∉ rtrs o.sp
 ·rw [if_pos h1] at hc;simp at hc
 rw [if_neg h1] at hc ⊢
 by_cases h3:(restart (atS o.sp r) w).2≠0
 ·rw [if_pos h3] at hc;exact absurd hc h3
 rw [if_neg h3] at hc ⊢
 by_cases h4:(atL o.sp o.ls r).epoch=1000000
 ·rw [if_pos h4] at hc;simp at hc
 rw [if_neg h4]
 have hr:r∈R:=by rw [←e0];exact Classical.not_not.mp h1
 have h3:=Classical.not_not.mp h3
 obtain ⟨q1,q2⟩:=h.net.s hr
 obtain ⟨k1,k2⟩:=h.net.spo _ q1
 obtain ⟨m1,m2⟩:=h.net.l hr
 obtain ⟨n1,n2⟩:=h.net.lso _ m1
 obtain ⟨_,f2,f3,f4⟩:=restart_val h3
 have hok:=restart_spkOk h3
 generalize hz:(restart (atS o.sp r) w).1=z at *
 have hz1:z=⟨r,(atS o.sp r).epoch+1,w.length,w.mapIdx wItm,(atS o.sp r).peers.map fun p=>⟨p.router,0,0⟩⟩:=by
  rw [←hz,f4,q2]
 have s:=h.net.setS hr (z:=z) (by rw [hz1]) ⟨hok,by rw [hz1];rw [q2] at k2;exact (List.map_map ..).trans k2⟩
 have t:=s.net.setL hr (z:=⟨r,(atL o.sp o.ls r).epoch+1,[]⟩) rfl ⟨⟨by have:=n1.1;rw [m2] at this;exact this,⟨by have:=n1.2.1;simp only;omega,by have:=n1.2.1;simp only;omega⟩,by simp,by simp,by simp⟩,by simp⟩
 rw [s.pos r] at t
 exact ⟨⟨t.1,h.fl⟩,rfl⟩
theorem NI.round(h:NI R o)(f:List Fau):(roundO o f).2=0∧NI R (roundO o f).1∧(roundO o f).1.fl.length≤o.fl.length+f.length+14400:=by
 unfold roundO
 rw [if_neg (not_not_intro h.ok)]
 obtain ⟨h1,h2⟩:=arr_mem (P:=fun x=>x∈o.fl) (l:=o.fl) (f:=f) fun x hx=>hx
 have r:=roundN_ok h.net (fun x hx=>h.fl x (h1 x hx)) (fun x hx=>h.fl x (h2 x hx))
 refine ⟨rfl,⟨r.net,r.fl⟩,?_⟩
 have hs:=sends_len r.net
 have hd:=delivers_len (l:=(arr o.fl f).1) (s:=((o.sp,o.ls),(arr o.fl f).2))
 have ha:=arr_len (l:=o.fl) (f:=f)
 unfold roundN at hs ⊢
 simp only [List.length_append] at *
 omega
theorem NI.or{x:Ovl×Int}{B:Nat}(h:NI R o)(hb:o.fl.length≤B)(hx:x.2=0→NI R x.1∧x.1.fl.length≤B):NI R (orO o x)∧(orO o x).fl.length≤B:=by
 unfold orO
 by_cases e:x.2≠0
 ·rw [if_pos e];exact ⟨h,hb⟩
 ·rw [if_neg e];exact hx (Classical.not_not.mp e)
theorem NI.act(h:NI R o){p:Nat}:NI R (actT L p o).1∧(actT L p o).1.fl.length≤o.fl.length+14440:=by
 unfold actT
 split
 ·exact h.or (by omega) fun q=>⟨(h.chg q).1,by rw [(h.chg q).2];omega⟩
 split
 ·exact h.or (by omega) fun q=>⟨(h.rst q).1,by rw [(h.rst q).2];omega⟩
 split
 ·exact h.or (by omega) fun q=>by
   have k:=(h.round (heavyT L (min o.fl.length 40) (rawP L (rawP L p))).1).2
   have:=heavyT_len (L:=L) (n:=min o.fl.length 40) (p:=rawP L (rawP L p))
   exact ⟨k.1,by have:=k.2;omega⟩
 ·exact h.or (by omega) fun q=>by
   have k:=(h.round (faultsT L o.fl.length (rawP L (rawP L p))).1).2
   have:=faultsT_len (L:=L) (n:=o.fl.length) (p:=rawP L (rawP L p))
   exact ⟨k.1,by have:=k.2;omega⟩
theorem NI.acts:∀{n:Nat} {s:Ovl×Nat},NI R s.1→NI R (actN L n s).1∧(actN L n s).1.fl.length≤s.1.fl.length+n * 14440
 | 0,s,h=>⟨h,by simp [actN]⟩
 | n+1,s,h=>by
  obtain ⟨h1,h2⟩:=NI.act (L:=L) h (p:=s.2)
  obtain ⟨h3,h4⟩:=NI.acts (n:=n) (s:=actT L s.2 s.1) h1
  rw [actN]
  exact ⟨h3,by omega⟩
theorem NI.new{l:List Int}(h:okR l):NI l (netOf l):=⟨netOf_net h,by simp [netOf]⟩
theorem NI.bent(h:NI R o)(hR:1≤R.length)(hf:o.fl.length≤900000):okBent o:=by
 have e1:=congrArg List.length h.net.spr
 have e2:=congrArg List.length h.net.lsr
 have e3:=h.net.len
 rw [List.length_map] at e1 e2
 refine ⟨⟨by omega,by omega,by omega⟩,hf,fun s hs=>?_,fun l hl=>?_⟩
 ·have k:spkOk s:=(h.net.spo s hs).1
  have:=itms_len k.2.2.2.1
  have:s.peers.length≤12:=k.2.2.2.2.1
  omega
 ·have k:lsnOk l:=(h.net.lso l hl).1
  have:l.heard.length≤12:=k.2.2.1
  omega
end
theorem ovlT_n8{L:List Int}{p:Nat}:∃R:List Int,(1≤R.length∧R.length≤5)∧NI R (ovlT L 4 8 p).1∧(ovlT L 4 8 p).1.fl.length≤115520:=by
 have hk:=rng_in (L:=L) (p:=p) (lo:=1) (hi:=4) (by omega)
 refine ⟨([2,3,5,8,11]:List Int).take (rng L p 1 4).toNat,?_,?_⟩
 ·simp only [List.length_take,List.length_cons,List.length_nil];omega
 have hr:=okR_take (rng L p 1 4).toNat
 have e:newN (([2,3,5,8,11]:List Int).take (rng L p 1 4).toNat)=(netOf (([2,3,5,8,11]:List Int).take (rng L p 1 4).toNat),0):=if_pos hr
 unfold ovlT
 rw [e]
 have hn:=Mod_range (x:=rawV L (rawP L p)) (n:=W (8+1)) (by rw [W_eq (by omega)];omega)
 rw [W_eq (by omega)] at hn ⊢
 obtain ⟨h1,h2⟩:=NI.acts (L:=L) (n:=(Mod (rawV L (rawP L p)) (8+1)).toNat) (s:=(netOf (([2,3,5,8,11]:List Int).take (rng L p 1 4).toNat),rawP L (rawP L p))) (NI.new hr)
 refine ⟨h1,?_⟩
 have h3:(Mod (rawV L (rawP L p)) (8+1)).toNat≤8:=by omega
 exact Nat.le_trans h2 (Nat.le_trans (Nat.add_le_add (Nat.le_refl _) (Nat.mul_le_mul_right 14440 h3)) (by simp [netOf]))
end Go.Proofs.YtkanhopflelmdaaGreatDoor
