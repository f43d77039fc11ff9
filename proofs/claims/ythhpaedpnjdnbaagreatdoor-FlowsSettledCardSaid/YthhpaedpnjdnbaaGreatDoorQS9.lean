/- Texts joined: G39 G42 U19 G43 H2 H3 H4. -/
import Derived.Test.YthhpaedpnjdnbaaGreatDoorQS8
set_option linter.unusedVariables false
set_option linter.unusedSimpArgs false
namespace Go.Proofs.YthhpaedpnjdnbaaGreatDoor
open Go Go.Am
theorem valO_z{o:Ovl}:valO o=0↔ovlOk o:=by
 unfold valO;by_cases h:ovlOk o<;>simp [h]
theorem idx_in{o:Ovl}(h:ovlOk o){r:Int}(hr:r∈rtrs o.sp):idxS o.sp r=(posS o.sp r:Int):=by rw [idxS_asc h,if_pos hr]
theorem idx_neg{o:Ovl}(h:ovlOk o){r:Int}:idxS o.sp r<0↔r ∉ rtrs o.sp:=by
 rw [idxS_asc h]
 split
 ·rename_i hr;simp [hr]
 ·rename_i hr;simp [hr]
def chgOR_a(o:Ovl)(router:Int)(wants:(List Wnt)):Prop:=okL [.agg [.sl 5 (o.sp.map Spk.v) false,.sl 3 (o.ls.map Lsn.v) false,.sl 10 (o.fl.map Sig.v) false],.int router,.sl 3 (wants.map Wnt.v) false]
def chgOR_e(r:Ovl×Int):AV:=.tup [Ovl.v r.1,.int r.2]
def chgOR_x(o:Ovl)(router:Int)(wants:(List Wnt)):Ax Tryz.prog noS (Ovl×Int):=
 (.callP (valOR_c o)
(.br 128 ((valO o) != 0) (.ret ((⟨[],[],[]⟩:Ovl),valO o))
(.callP (idxSF_c o router)
(.br 224 (decide ((idxS o.sp router)<0)) (.ret ((⟨[],[],[]⟩:Ovl),4))
(.callP (valR_c wants)
(.br 304 ((wErr false wants) != 0) (.ret ((⟨[],[],[]⟩:Ovl),wErr false wants))
(.el 352 Spk.v o.sp (fun R=>Rf (o.sp.map Spk.v) (ck (decide (0≤(idxS o.sp router))) (ck (decide ((idxS o.sp router)<(o.sp.length:Int)))
(∀x1,o.sp[(idxS o.sp router).toNat]?=some x1 →
(R x1))))) fun x1 =>
(.callP (wantsR_c x1.items)
(.callP (chgsR_c (wantsOf x1.items) wants)
(.br 560 (((changes (wantsOf x1.items) wants).2) != 0) (.ret ((⟨[],[],[]⟩:Ovl),(changes (wantsOf x1.items) wants).2))
(.el 608 Spk.v o.sp (fun R=>Rf (o.sp.map Spk.v) (ck (decide (0≤(idxS o.sp router))) (ck (decide ((idxS o.sp router)<(o.sp.length:Int)))
(∀x2,o.sp[(idxS o.sp router).toNat]?=some x2 →
(R x2))))) fun x2 =>
(.callP (changeR_c x2 ((changes (wantsOf x1.items) wants).1))
(.br 800 (((change x2 ((changes (wantsOf x1.items) wants).1)).2) != 0) (.ret ((⟨[],[],[]⟩:Ovl),(change x2 ((changes (wantsOf x1.items) wants).1)).2))
(.req 816 (o.sp.length≤1000000∧o.ls.length≤1000000∧o.fl.length≤1000000) fun h3 =>
(.callH [] (copR_h o h3) 816
(.say (ck (cond (decide (0≤(idxS o.sp router))) (decide ((idxS o.sp router)<((o.sp.map Spk.v).length:Int))) false)) (.st 944 Spk.v o.sp (fun y4=>((change x2 ((changes (wantsOf x1.items) wants).1)).1)) (fun R=>Rf (o.sp.map Spk.v) (ck (decide ((idxS o.sp router).toNat<o.sp.length))
(∀y4,o.sp[(idxS o.sp router).toNat]?=some y4→Rf (Spk.v ((change x2 ((changes (wantsOf x1.items) wants).1)).1))
((R y4))))) fun y4 =>
(.say (Rf (o.fl.map Sig.v)) (.cmdL (.frzE 818 (o.fl.map Sig.v) (pureBL_map (fun _=>rfl) o.fl)) (.say (Rf (o.ls.map Lsn.v)) (.cmdL (.frzE 817 (o.ls.map Lsn.v) (pureBL_map (fun _=>rfl) o.ls)) (.say (Rf ((o.sp.set ((idxS o.sp router).toNat) ((change x2 ((changes (wantsOf x1.items) wants).1)).1)).map Spk.v)) (.cmdL (.frzE 816 ((o.sp.set ((idxS o.sp router).toNat) ((change x2 ((changes (wantsOf x1.items) wants).1)).1)).map Spk.v) (pureBL_map (fun _=>rfl) (o.sp.set ((idxS o.sp router).toNat) ((change x2 ((changes (wantsOf x1.items) wants).1)).1)))) (.ret ((⟨o.sp.set ((idxS o.sp router).toNat) ((change x2 ((changes (wantsOf x1.items) wants).1)).1),o.ls,o.fl⟩:Ovl),0)))))))))))))))))))))))))
def chgOR_vc(o:Ovl)(router:Int)(wants:(List Wnt))(r0:Ovl×Int):Prop:=(chgOR_x o router wants).vp chgOR_e r0
theorem chgOR_p(o:Ovl)(r:Int)(w:List Wnt)(h:o.fl.length≤1000000)(ok:chgOR_a o r w):chgOR_vc o r w (changeV o r w):=by
 dsimp only [chgOR_vc,chgOR_x,noS,Ax.vp,Ax.vc];simp only [vcU,rfU,List.length_map]
 unfold changeV
 by_cases h1:ovlOk o
 case neg =>
  have:valO o=1:=if_neg h1
  rw [if_pos h1,this];simp [ovl0]
 rw [if_neg (not_not_intro h1),valO_z.mpr h1]
 have hL:=h1.1.lens
 refine ⟨fun q=>by simp at q,fun _=>⟨fun q=>?_,fun q=>?_⟩⟩
 ·rw [if_pos ((idx_neg h1).mp q)];rfl
 have h2:r∈rtrs o.sp:=Classical.not_not.mp fun c=>q ((idx_neg h1).mpr c)
 obtain ⟨p1,p2,p3,p4⟩:=pos_get h1 h2
 rw [if_neg (not_not_intro h2),idx_in h1 h2]
 simp only [Int.toNat_natCast]
 refine ⟨fun c=>?_,fun c=>⟨by omega,by omega,fun x hx=>?_⟩⟩
 ·rw [if_pos (by simpa using c)];rfl
 rw [if_neg (by simpa using c)]
 cases p3.symm.trans hx
 refine ⟨fun c=>?_,fun c=>⟨by omega,by omega,fun y hy=>?_⟩⟩
 ·rw [if_pos (by simpa using c)];rfl
 rw [if_neg (by simpa using c)]
 cases p3.symm.trans hy
 refine ⟨fun d=>?_,fun d=>?_⟩
 ·rw [if_pos (by simpa using d)];rfl
 rw [if_neg (by simpa using d)]
 exact ⟨⟨by omega,by omega,h⟩,by simp;omega,by omega,fun z hz=>rfl⟩
def chgOR_c(o:Ovl)(router:Int)(wants:(List Wnt))(h:o.fl.length≤1000000):PC Tryz.prog:=⟨33,[(.a [(.s 5),(.s 3),(.s 10)]),.k,(.s 3)],[.agg [.sl 5 (o.sp.map Spk.v) false,.sl 3 (o.ls.map Lsn.v) false,.sl 10 (o.fl.map Sig.v) false],.int router,.sl 3 (wants.map Wnt.v) false],chgOR_e (changeV o router wants),PSpec.of_ok fun ok=>mxP_of (sh:=(.a [(.a [(.s 5),(.s 3),(.s 10)]),.k])) (enc:=chgOR_e) (a:=(chgOR_x o router wants).an) (chgOR_p o router wants h ok) (by kernel_rfl) (AV.pureB_ok rfl),fnB_ok (by kernel_rfl)⟩
def rstOR_a(o:Ovl)(router:Int)(wants:(List Wnt)):Prop:=okL [.agg [.sl 5 (o.sp.map Spk.v) false,.sl 3 (o.ls.map Lsn.v) false,.sl 10 (o.fl.map Sig.v) false],.int router,.sl 3 (wants.map Wnt.v) false]
def rstOR_e(r:Ovl×Int):AV:=.tup [Ovl.v r.1,.int r.2]
def rstOR_x(o:Ovl)(router:Int)(wants:(List Wnt)):Ax Tryz.prog noS (Ovl×Int):=
 (.callP (valOR_c o)
(.br 128 ((valO o) != 0) (.ret ((⟨[],[],[]⟩:Ovl),valO o))
(.callP (idxSF_c o router)
(.br 224 (decide ((idxS o.sp router)<0)) (.ret ((⟨[],[],[]⟩:Ovl),4))
(.el 272 Spk.v o.sp (fun R=>Rf (o.sp.map Spk.v) (ck (decide (0≤(idxS o.sp router))) (ck (decide ((idxS o.sp router)<(o.sp.length:Int)))
(∀x1,o.sp[(idxS o.sp router).toNat]?=some x1 →
(R x1))))) fun x1 =>
(.callP (restartR_c x1 wants)
(.br 464 (((restart x1 wants).2) != 0) (.ret ((⟨[],[],[]⟩:Ovl),(restart x1 wants).2))
(.el 512 Lsn.v o.ls (fun R=>Rf (o.ls.map Lsn.v) (ck (decide (0≤(idxS o.sp router))) (ck (decide ((idxS o.sp router)<(o.ls.length:Int)))
(∀x2,o.ls[(idxS o.sp router).toNat]?=some x2 →
(R x2))))) fun x2 =>
(.br 576 (decide (1000000≤x2.epoch)) (.ret ((⟨[],[],[]⟩:Ovl),3))
(.req 592 (o.sp.length≤1000000∧o.ls.length≤1000000∧o.fl.length≤1000000) fun h3 =>
(.callH [] (copR_h o h3) 592
(.say (ck (cond (decide (0≤(idxS o.sp router))) (decide ((idxS o.sp router)<((o.sp.map Spk.v).length:Int))) false)) (.st 720 Spk.v o.sp (fun y4=>((restart x1 wants).1)) (fun R=>Rf (o.sp.map Spk.v) (ck (decide ((idxS o.sp router).toNat<o.sp.length))
(∀y4,o.sp[(idxS o.sp router).toNat]?=some y4→Rf (Spk.v ((restart x1 wants).1))
((R y4))))) fun y4 =>
(.el 848 Lsn.v o.ls (fun R=>Rf (o.ls.map Lsn.v) (ck (decide (0≤(idxS o.sp router))) (ck (decide ((idxS o.sp router)<(o.ls.length:Int)))
(∀x5,o.ls[(idxS o.sp router).toNat]?=some x5 →
(R x5))))) fun x5 =>
(.say (ck (cond (decide (0≤(idxS o.sp router))) (decide ((idxS o.sp router)<((o.ls.map Lsn.v).length:Int))) false)) (.stI 944 Lsn.v o.ls (fun R=>Rf (o.ls.map Lsn.v) (ck (decide ((idxS o.sp router).toNat<o.ls.length))
(∀y6,o.ls[(idxS o.sp router).toNat]?=some y6 →
((R y6))))) fun y6 =>
(.say (fun R=>Rf (α:=List AV) ((o.ls.map Lsn.v).set ((idxS o.sp router).toNat) (.agg [.int router,.int (W (x5.epoch+1)),.sl 0 [] true])) (Rf (Lsn.v (⟨router,W (x5.epoch+1),[]⟩:Lsn))
R)) (.cmd (.wkS 593 ((idxS o.sp router).toNat) (.a [.k,.k,(.s 4)]) Lsn.v o.ls (.agg [.int router,.int (W (x5.epoch+1)),.sl 0 [] true]) (⟨router,W (x5.epoch+1),[]⟩:Lsn)) (.say (Rf (o.fl.map Sig.v)) (.cmdL (.frzE 594 (o.fl.map Sig.v) (pureBL_map (fun _=>rfl) o.fl)) (.say (Rf ((o.ls.set ((idxS o.sp router).toNat) (⟨router,W (x5.epoch+1),[]⟩:Lsn)).map Lsn.v)) (.cmdL (.frzE 593 ((o.ls.set ((idxS o.sp router).toNat) (⟨router,W (x5.epoch+1),[]⟩:Lsn)).map Lsn.v) (pureBL_map (fun _=>rfl) (o.ls.set ((idxS o.sp router).toNat) (⟨router,W (x5.epoch+1),[]⟩:Lsn)))) (.say (Rf ((o.sp.set ((idxS o.sp router).toNat) ((restart x1 wants).1)).map Spk.v)) (.cmdL (.frzE 592 ((o.sp.set ((idxS o.sp router).toNat) ((restart x1 wants).1)).map Spk.v) (pureBL_map (fun _=>rfl) (o.sp.set ((idxS o.sp router).toNat) ((restart x1 wants).1)))) (.ret ((⟨o.sp.set ((idxS o.sp router).toNat) ((restart x1 wants).1),o.ls.set ((idxS o.sp router).toNat) (⟨router,W (x5.epoch+1),[]⟩:Lsn),o.fl⟩:Ovl),0))))))))))))))))))))))))))
def rstOR_vc(o:Ovl)(router:Int)(wants:(List Wnt))(r0:Ovl×Int):Prop:=(rstOR_x o router wants).vp rstOR_e r0
theorem rstOR_p(o:Ovl)(r:Int)(w:List Wnt)(h:o.fl.length≤1000000)(ok:rstOR_a o r w):rstOR_vc o r w (restartV o r w):=by
 dsimp only [rstOR_vc,rstOR_x,noS,Ax.vp,Ax.vc];simp only [vcU,rfU,List.length_map]
 unfold restartV
 by_cases h1:ovlOk o
 case neg =>
  have:valO o=1:=if_neg h1
  rw [if_pos h1,this];simp [ovl0]
 rw [if_neg (not_not_intro h1),valO_z.mpr h1]
 have hL:=h1.1.lens
 refine ⟨fun q=>by simp at q,fun _=>⟨fun q=>?_,fun q=>?_⟩⟩
 ·rw [if_pos ((idx_neg h1).mp q)];rfl
 have h2:r∈rtrs o.sp:=Classical.not_not.mp fun c=>q ((idx_neg h1).mpr c)
 obtain ⟨p1,p2,p3,p4⟩:=pos_get h1 h2
 have he:=(h1.1.lso _ (mem_of_get p4)).1.2.1
 rw [if_neg (not_not_intro h2),idx_in h1 h2]
 simp only [Int.toNat_natCast]
 refine ⟨by omega,by omega,fun x hx=>?_⟩
 cases p3.symm.trans hx
 refine ⟨fun c=>?_,fun c=>⟨by omega,by omega,fun y hy=>?_⟩⟩
 ·rw [if_pos (by simpa using c)];rfl
 rw [if_neg (by simpa using c)]
 cases p4.symm.trans hy
 refine ⟨fun d=>?_,fun d=>?_⟩
 ·rw [if_pos (by omega)];rfl
 rw [if_neg (by omega)]
 refine ⟨⟨by omega,by omega,h⟩,by simp;omega,by omega,fun z hz=>⟨by omega,by omega,fun u hu=>⟨by simp;omega,by omega,fun v hv=>?_⟩⟩⟩
 cases p4.symm.trans hu
 rw [W_eq (by omega)]
def rstOR_c(o:Ovl)(router:Int)(wants:(List Wnt))(h:o.fl.length≤1000000):PC Tryz.prog:=⟨83,[(.a [(.s 5),(.s 3),(.s 10)]),.k,(.s 3)],[.agg [.sl 5 (o.sp.map Spk.v) false,.sl 3 (o.ls.map Lsn.v) false,.sl 10 (o.fl.map Sig.v) false],.int router,.sl 3 (wants.map Wnt.v) false],rstOR_e (restartV o router wants),PSpec.of_ok fun ok=>mxP_of (sh:=(.a [(.a [(.s 5),(.s 3),(.s 10)]),.k])) (enc:=rstOR_e) (a:=(rstOR_x o router wants).an) (rstOR_p o router wants h ok) (by kernel_rfl) (AV.pureB_ok rfl),fnB_ok (by kernel_rfl)⟩
theorem posS_R{R:List Int}{sp sp':List Spk}{ls ls':List Lsn}(h:NetOk R sp ls)(h':NetOk R sp' ls')(r:Int):posS sp r=posS sp' r:=
 posK_keys (key:=Spk.router) (key':=Spk.router) (h.spr.trans h'.spr.symm) r
def rndOR_a(o:Ovl)(faults:(List Fau)):Prop:=okL [.agg [.sl 5 (o.sp.map Spk.v) false,.sl 3 (o.ls.map Lsn.v) false,.sl 10 (o.fl.map Sig.v) false],.sl 2 (faults.map Fau.v) false]
def rndOR_n0(o:Ovl)(faults:(List Fau))(t0:Int×(List Spk)×(List Sig)×(List Lsn)):NF:=⟨[(2,.k,.ref 0 0),(4,.k,.ref 1 0),(7,.k,.ref 2 0),(41,.k,.vec 6),(42,.k,.int ((((arr o.fl faults).1).map Sig.v).length:Int)),(43,.k,.int t0.1)],[.box (.agg [.sl 5 (o.sp.map Spk.v) false,.sl 3 (o.ls.map Lsn.v) false,.sl 10 (o.fl.map Sig.v) false]),.box (.agg [.sl 0 [] true,.sl 0 [] true,.sl 0 [] true]),.box (.agg [.vec 3,.vec 4,.vec 5]),.vec 5 (t0.2.1.map Spk.v) (pureBL_map (fun _=>rfl) t0.2.1),.vec 3 (t0.2.2.2.map Lsn.v) (pureBL_map (fun _=>rfl) t0.2.2.2),.vec 10 (t0.2.2.1.map Sig.v) (pureBL_map (fun _=>rfl) t0.2.2.1),.vec 10 (((arr o.fl faults).1).map Sig.v) (pureBL_map (fun _=>rfl) ((arr o.fl faults).1))]⟩
def rndOR_n1(t0:Int×(List Spk)×(List Sig)×(List Lsn))(t1:Int×(List Sig)):NF:=⟨[(4,.k,.ref 0 0),(7,.k,.ref 1 0),(97,.k,.vec 2),(98,.k,.int ((t0.2.1.map Spk.v).length:Int)),(99,.k,.int t1.1)],[.box (.agg [.sl 0 [] true,.sl 0 [] true,.sl 0 [] true]),.box (.agg [.vec 2,.vec 3,.vec 4]),.vec 5 (t0.2.1.map Spk.v) (pureBL_map (fun _=>rfl) t0.2.1),.vec 3 (t0.2.2.2.map Lsn.v) (pureBL_map (fun _=>rfl) t0.2.2.2),.vec 10 (t1.2.map Sig.v) (pureBL_map (fun _=>rfl) t1.2)]⟩
def rndOR_n2(t0:Int×(List Spk)×(List Sig)×(List Lsn))(t1:Int×(List Sig))(x8:Spk)(t2:Int×(List Sig)):NF:=⟨[(4,.k,.ref 0 0),(7,.k,.ref 1 0),(19,.k,.ref 5 0),(97,.k,.vec 2),(98,.k,.int ((t0.2.1.map Spk.v).length:Int)),(99,.k,.int t1.1),(104,.k,.sl 3 (x8.peers.map Per.v) false),(105,.k,.int ((x8.peers.map Per.v).length:Int)),(106,.k,.int t2.1)],[.box (.agg [.sl 0 [] true,.sl 0 [] true,.sl 0 [] true]),.box (.agg [.vec 2,.vec 3,.vec 4]),.vec 5 (t0.2.1.map Spk.v) (pureBL_map (fun _=>rfl) t0.2.1),.vec 3 (t0.2.2.2.map Lsn.v) (pureBL_map (fun _=>rfl) t0.2.2.2),.vec 10 (t2.2.map Sig.v) (pureBL_map (fun _=>rfl) t2.2),.box (.agg [.int x8.router,.int x8.epoch,.int x8.last,.sl 4 (x8.items.map Itm.v) false,.sl 3 (x8.peers.map Per.v) false])]⟩
@[reducible] def rndOR_s:Nat→Type
 | 0=>Int×(List Spk)×(List Sig)×(List Lsn)
 | 1=>Int×(List Sig)
 | 2=>Int×(List Sig)
 | _=>Unit
def rndOR_e(r:Ovl×Int):AV:=.tup [Ovl.v r.1,.int r.2]
def rndOR_x(o:Ovl)(faults:(List Fau))(I0:(Int×(List Spk)×(List Sig)×(List Lsn))→Prop)(m0:(Int×(List Spk)×(List Sig)×(List Lsn))→Nat)(I1:Int×(List Spk)×(List Sig)×(List Lsn)→(Int×(List Sig))→Prop)(m1:Int×(List Spk)×(List Sig)×(List Lsn)→(Int×(List Sig))→Nat)(I2:Int×(List Spk)×(List Sig)×(List Lsn)→Int×(List Sig)→Spk→(Int×(List Sig))→Prop)(m2:Int×(List Spk)×(List Sig)×(List Lsn)→Int×(List Sig)→Spk→(Int×(List Sig))→Nat):Ax Tryz.prog rndOR_s (Ovl×Int):=
 (.callP (valOR_c o)
(.br 128 ((valO o) != 0) (.ret ((⟨[],[],[]⟩:Ovl),valO o))
(.req 144 (o.sp.length≤1000000∧o.ls.length≤1000000∧o.fl.length≤1000000) fun h1 =>
(.callH [] (copR_h o h1) 144
(.req 240 (okArr o.fl faults) fun h2 =>
(.callH [] (arrR_h o.fl faults h2) 240
(.loop 0 (rndOR_n0 o faults) I0 m0 (0,o.sp,(arr o.fl faults).2,o.ls) [0,16,160,144,145,241,240] fun (t0:Int×(List Spk)×(List Sig)×(List Lsn)) b0 =>
(.br 23 (decide (t0.1<((((arr o.fl faults).1).map Sig.v).length:Int))) (.say (ck (cond (decide (0≤t0.1)) (decide (t0.1<((((arr o.fl faults).1).map Sig.v).length:Int))) false)) (.el 39 Sig.v ((arr o.fl faults).1) (fun R=>Rf (((arr o.fl faults).1).map Sig.v) (ck (decide (t0.1.toNat<((arr o.fl faults).1).length))
(∀x3,((arr o.fl faults).1)[t0.1.toNat]?=some x3 →
(R x3)))) fun x3 =>
(.callP (idxSF_c o x3.dst)
(.br 215 (x3.kind==3) (.say (ck (cond (decide (0≤(idxS o.sp x3.dst))) (decide ((idxS o.sp x3.dst)<((t0.2.1.map Spk.v).length:Int))) false)) (.el 279 Spk.v t0.2.1 (fun R=>Rf (t0.2.1.map Spk.v) (ck (decide ((idxS o.sp x3.dst).toNat<t0.2.1.length))
(∀x4,t0.2.1[(idxS o.sp x3.dst).toNat]?=some x4 →
(R x4)))) fun x4 =>
(.callP (ackR_c x4 x3)
(.br 455 (((ack x4 x3).2)==0) (.say (ck (cond (decide (0≤(idxS o.sp x3.dst))) (decide ((idxS o.sp x3.dst)<((t0.2.1.map Spk.v).length:Int))) false)) (.st 535 Spk.v t0.2.1 (fun y5=>((ack x4 x3).1)) (fun R=>Rf (t0.2.1.map Spk.v) (ck (decide ((idxS o.sp x3.dst).toNat<t0.2.1.length))
(∀y5,t0.2.1[(idxS o.sp x3.dst).toNat]?=some y5→Rf (Spk.v ((ack x4 x3).1))
((R y5))))) fun y5 =>
(.bk 0 b0 (W (t0.1+1),t0.2.1.set ((idxS o.sp x3.dst).toNat) ((ack x4 x3).1),t0.2.2.1,t0.2.2.2) [0,1,2,3,4,5,6])))
(.bk 0 b0 (W (t0.1+1),t0.2.1,t0.2.2.1,t0.2.2.2) [0,1,2,3,4,5,6])))))
(.say (ck (cond (decide (0≤(idxS o.sp x3.dst))) (decide ((idxS o.sp x3.dst)<((t0.2.2.2.map Lsn.v).length:Int))) false)) (.el 279 Lsn.v t0.2.2.2 (fun R=>Rf (t0.2.2.2.map Lsn.v) (ck (decide ((idxS o.sp x3.dst).toNat<t0.2.2.2.length))
(∀x6,t0.2.2.2[(idxS o.sp x3.dst).toNat]?=some x6 →
(R x6)))) fun x6 =>
(.callP (hearR_c x6 x3)
(.br 503 (((hear x6 x3).2)==0) (.say (ck (cond (decide (0≤(idxS o.sp x3.dst))) (decide ((idxS o.sp x3.dst)<((t0.2.2.2.map Lsn.v).length:Int))) false)) (.st 583 Lsn.v t0.2.2.2 (fun y7=>((hear x6 x3).1.1)) (fun R=>Rf (t0.2.2.2.map Lsn.v) (ck (decide ((idxS o.sp x3.dst).toNat<t0.2.2.2.length))
(∀y7,t0.2.2.2[(idxS o.sp x3.dst).toNat]?=some y7→Rf (Lsn.v ((hear x6 x3).1.1))
((R y7))))) fun y7 =>
(.say (fun R=>Rf (α:=List AV) (t0.2.2.1.map Sig.v) (Rf (α:=List AV) [(Sig.v ((hear x6 x3).1.2))]
(ck (decide (t0.2.2.1.length+1≤1048576))
R))) (.app 663 Sig.v t0.2.2.1 [(hear x6 x3).1.2]
(.bk 0 b0 (W (t0.1+1),t0.2.1,t0.2.2.1++[(hear x6 x3).1.2],t0.2.2.2.set ((idxS o.sp x3.dst).toNat) ((hear x6 x3).1.1)) [0,1,2,3,4,663,6])))))
(.bk 0 b0 (W (t0.1+1),t0.2.1,t0.2.2.1,t0.2.2.2) [0,1,2,3,4,5,6])))))))))
(.loop 1 (rndOR_n1 t0) (I1 t0) (m1 t0) (0,t0.2.2.1) [1,2,3,4,5] fun (t1:Int×(List Sig)) b1 =>
(.br 21 (decide (t1.1<((t0.2.1.map Spk.v).length:Int))) (.say (ck (cond (decide (0≤t1.1)) (decide (t1.1<((t0.2.1.map Spk.v).length:Int))) false)) (.el 37 Spk.v t0.2.1 (fun R=>Rf (t0.2.1.map Spk.v) (ck (decide (t1.1.toNat<t0.2.1.length))
(∀x8,t0.2.1[t1.1.toNat]?=some x8 →
(R x8)))) fun x8 =>
(.loop 2 (rndOR_n2 t0 t1 x8) (I2 t0 t1 x8) (m2 t0 t1 x8) (0,t1.2) [0,1,2,3,4,53] fun (t2:Int×(List Sig)) b2 =>
(.br 22 (decide (t2.1<((x8.peers.map Per.v).length:Int))) (.el 22 Per.v x8.peers (fun R=>Rf (x8.peers.map Per.v) (ck (decide (0≤t2.1)) (ck (decide (t2.1<(x8.peers.length:Int)))
(∀x9,x8.peers[t2.1.toNat]?=some x9 →
(R x9))))) fun x9 =>
(.callP (sendR_c x8 x9.router)
(.say (fun R=>Rf (α:=List AV) (t2.2.map Sig.v) (Rf (α:=List AV) (((send x8 x9.router).1).map Sig.v)
(ck (decide (t2.2.length+((send x8 x9.router).1).length≤1048576))
R))) (.app 278 Sig.v t2.2 ((send x8 x9.router).1)
(.bk 2 b2 (W (t2.1+1),t2.2++((send x8 x9.router).1)) [0,1,2,3,278,5])))))
(.bk 1 b1 (W (t1.1+1),t2.2) [0,1,2,3,4])))))
(.say (Rf (t1.2.map Sig.v)) (.cmdL (.frzE 4 (t1.2.map Sig.v) (pureBL_map (fun _=>rfl) t1.2)) (.say (Rf (t0.2.2.2.map Lsn.v)) (.cmdL (.frzE 3 (t0.2.2.2.map Lsn.v) (pureBL_map (fun _=>rfl) t0.2.2.2)) (.say (Rf (t0.2.1.map Spk.v)) (.cmdL (.frzE 2 (t0.2.1.map Spk.v) (pureBL_map (fun _=>rfl) t0.2.1)) (.ret ((⟨t0.2.1,t0.2.2.2,t1.2⟩:Ovl),0))))))))))))))))))
def rndOR_vc(o:Ovl)(faults:(List Fau))(I0:(Int×(List Spk)×(List Sig)×(List Lsn))→Prop)(m0:(Int×(List Spk)×(List Sig)×(List Lsn))→Nat)(I1:Int×(List Spk)×(List Sig)×(List Lsn)→(Int×(List Sig))→Prop)(m1:Int×(List Spk)×(List Sig)×(List Lsn)→(Int×(List Sig))→Nat)(I2:Int×(List Spk)×(List Sig)×(List Lsn)→Int×(List Sig)→Spk→(Int×(List Sig))→Prop)(m2:Int×(List Spk)×(List Sig)×(List Lsn)→Int×(List Sig)→Spk→(Int×(List Sig))→Nat)(r0:Ovl×Int):Prop:=(rndOR_x o faults I0 m0 I1 m1 I2 m2).vp rndOR_e r0
theorem rndOR_p(o:Ovl)(f:List Fau)(h:okRnd o f)(ok:rndOR_a o f):∃I0 m0 I1 m1 I2 m2,rndOR_vc o f I0 m0 I1 m1 I2 m2 (roundO o f):=by
 obtain ⟨h1,h2⟩:=h
 by_cases hv:ovlOk o
 case neg =>
  refine ⟨fun _=>True,fun _=>0,fun _ _=>True,fun _ _=>0,fun _ _ _ _=>True,fun _ _ _ _=>0,?_⟩
  have e:roundO o f=(ovl0,1):=if_pos hv
  have e2:valO o=1:=if_neg hv
  rw [e]
  dsimp only [rndOR_vc,rndOR_x,rndOR_s,Ax.vp,Ax.vc];simp only [vcU,rfU,List.length_map]
  simp [e2,ovl0]
 have hn:=hv.1
 obtain ⟨hnow,hlate⟩:=arr_mem (P:=sigIn (rtrs o.sp)) (f:=f) hv.2
 have hlen:=arr_len (l:=o.fl) (f:=f)
 have e:roundO o f=(roundN o (arr o.fl f).1 (arr o.fl f).2,0):=if_neg (not_not_intro hv)
 rw [e]
 have hA:okArr o.fl f:=⟨by omega,h2,fun x hx=>sig_srcs (hv.2 x hx).1⟩
 refine ⟨fun t=>∃k:Nat,t=((k:Int),(((arr o.fl f).1.take k).foldl deliver ((o.sp,o.ls),(arr o.fl f).2)).1.1,(((arr o.fl f).1.take k).foldl deliver ((o.sp,o.ls),(arr o.fl f).2)).2,(((arr o.fl f).1.take k).foldl deliver ((o.sp,o.ls),(arr o.fl f).2)).1.2)∧k≤(arr o.fl f).1.length,
  fun t=>(arr o.fl f).1.length-t.1.toNat,
  fun t0 t=>∃j:Nat,t=((j:Int),t0.2.2.1++(t0.2.1.take j).flatMap sends1)∧j≤t0.2.1.length,fun t0 t=>t0.2.1.length-t.1.toNat,
  fun t0 t1 x t=>∃i:Nat,t=((i:Int),t1.2++(x.peers.take i).flatMap fun p=>(send x p.router).1)∧i≤x.peers.length,fun t0 t1 x t=>x.peers.length-t.1.toNat,?_⟩
 dsimp only [rndOR_vc,rndOR_x,rndOR_s,Ax.vp,Ax.vc];simp only [vcU,rfU,List.length_map]
 generalize (arr o.fl f).1=now at *
 generalize (arr o.fl f).2=late at *
 have hLo:=hn.lens
 refine ⟨fun q=>by rw [valO_z.mpr hv] at q;simp at q,fun _=>⟨⟨by omega,by omega,by omega⟩,hA,⟨0,rfl,by omega⟩,?_⟩⟩
 rintro _ ⟨k,rfl,hk⟩
 have d:=delivers_ok (l:=now.take k) (s:=((o.sp,o.ls),late)) hn fun x hx=>hnow x (List.mem_of_mem_take hx)
 have dl:=delivers_len (l:=now.take k) (s:=((o.sp,o.ls),late))
 have hst:∀x,now[k]?=some x→(now.take (k+1)).foldl deliver ((o.sp,o.ls),late)=deliver ((now.take k).foldl deliver ((o.sp,o.ls),late)) x:=fun x hx=>by rw [take_succ hx,List.foldl_append];rfl
 have hend:k=now.length→roundN o now late=⟨((now.take k).foldl deliver ((o.sp,o.ls),late)).1.1,((now.take k).foldl deliver ((o.sp,o.ls),late)).1.2,((now.take k).foldl deliver ((o.sp,o.ls),late)).2++sends ((now.take k).foldl deliver ((o.sp,o.ls),late)).1.1⟩:=fun e=>by rw [e,List.take_length];rfl
 generalize (now.take k).foldl deliver ((o.sp,o.ls),late)=s at *
 obtain ⟨⟨sp,ls⟩,out⟩:=s
 have dn:=d.net
 simp only at dn
 obtain ⟨n1,n2⟩:=dn.lens
 rw [List.length_take] at dl
 simp only [Int.toNat_natCast] at dl ⊢
 refine ⟨fun a1=>⟨by simp;omega,by omega,fun x hx=>?_⟩,fun a1=>⟨⟨0,by simp,by omega⟩,?_⟩⟩
 ·have e1:=hst x hx
  have hxi:=(hnow x (mem_of_get hx)).2.2
  obtain ⟨p1,p2,p3,p4⟩:=dn.pos hxi
  rw [W_succ (n:=now.length) (by omega) (by omega),idx_in hv hxi,posS_R hn dn]
  simp only [Int.toNat_natCast]
  have fin:∀a b c,deliver ((sp,ls),out) x=((a,c),b)→(∃k_1:Nat,(((k+1:Nat):Int),a,b,c)=((k_1:Int),((now.take k_1).foldl deliver ((o.sp,o.ls),late)).1.1,((now.take k_1).foldl deliver ((o.sp,o.ls),late)).2,((now.take k_1).foldl deliver ((o.sp,o.ls),late)).1.2)∧k_1≤now.length)∧now.length-((k+1:Nat):Int).toNat<now.length-k:=fun a b c e =>
   ⟨⟨k+1,by rw [e1,e],by omega⟩,by omega⟩
  refine ⟨fun c1=>⟨by simp;omega,by omega,fun y hy=>⟨fun c2=>⟨by simp;omega,by omega,fun z hz=>fin _ _ _ ?_⟩,fun c2=>fin _ _ _ ?_⟩⟩,fun c1=>⟨by simp;omega,by omega,fun y hy=>⟨fun c2=>⟨by simp;omega,by omega,fun z hz=>⟨by omega,fin _ _ _ ?_⟩⟩,fun c2=>fin _ _ _ ?_⟩⟩⟩
  ·cases p3.symm.trans hy
   unfold deliver;rw [if_pos (by simpa using c1),if_pos (by simpa using c2)]
  ·cases p3.symm.trans hy
   unfold deliver;rw [if_pos (by simpa using c1),if_neg (by simpa using c2)]
  ·cases p4.symm.trans hy
   unfold deliver;rw [if_neg (by simpa using c1),if_pos (by simpa using c2)]
  ·cases p4.symm.trans hy
   unfold deliver;rw [if_neg (by simpa using c1),if_neg (by simpa using c2)]
 ·have he:=hend (by omega)
  rintro _ ⟨j,rfl,hj⟩
  have hsj:((sp.take j).flatMap sends1).length≤14400:=by
   have:((sp.take j).flatMap sends1).length≤(sp.take j).length * 1200:=flat_len fun s hs=>by
    have:(sends1 s).length≤s.peers.length * 100:=flat_len fun p _=>send_le
    have:=(dn.spo s (List.mem_of_mem_take hs)).1.2.2.2.2.1
    omega
   rw [List.length_take] at this
   omega
  simp only [Int.toNat_natCast]
  refine ⟨fun b1=>⟨by simp;omega,by omega,fun x hx=>⟨⟨0,by simp,by omega⟩,?_⟩⟩,fun b1=>?_⟩
  ·have hxp:=(dn.spo x (mem_of_get hx)).1.2.2.2.2.1
   rintro _ ⟨i,rfl,hi⟩
   have hpi:((x.peers.take i).flatMap fun p=>(send x p.router).1).length≤1200:=by
    have:((x.peers.take i).flatMap fun p=>(send x p.router).1).length≤(x.peers.take i).length * 100:=flat_len fun p _=>send_le
    rw [List.length_take] at this
    omega
   simp only [Int.toNat_natCast]
   refine ⟨fun c1=>⟨by omega,by omega,fun p hp=>⟨?_,⟨i+1,?_,by omega⟩,?_⟩⟩,fun c1=>⟨⟨j+1,?_,by omega⟩,?_⟩⟩
   ·have:=send_le (s:=x) (to:=p.router)
    simp only [List.length_append];omega
   ·rw [W_succ (n:=x.peers.length) (by omega) (by omega),flat_take hp];simp
   ·rw [W_succ (n:=x.peers.length) (by omega) (by omega)];omega
   ·have ei:i=x.peers.length:=by omega
    rw [W_succ (n:=sp.length) (by omega) (by omega),flat_take hx,ei,List.take_length]
    simp [sends1]
   ·rw [W_succ (n:=sp.length) (by omega) (by omega)];omega
  ·have ej:j=sp.length:=by omega
   rw [ej,List.take_length,he]
   rfl
def rndOR_c(o:Ovl)(faults:(List Fau))(h:okRnd o faults):PC Tryz.prog:=⟨17,[(.a [(.s 5),(.s 3),(.s 10)]),(.s 2)],[.agg [.sl 5 (o.sp.map Spk.v) false,.sl 3 (o.ls.map Lsn.v) false,.sl 10 (o.fl.map Sig.v) false],.sl 2 (faults.map Fau.v) false],rndOR_e (roundO o faults),PSpec.of_ok fun ok=>(rndOR_p o faults h ok).elim fun I0 h=>h.elim fun m0 h=>h.elim fun I1 h=>h.elim fun m1 h=>h.elim fun I2 h=>h.elim fun m2 h=>mxP_of (sh:=(.a [(.a [(.s 5),(.s 3),(.s 10)]),.k])) (enc:=rndOR_e) (a:=(rndOR_x o faults I0 m0 I1 m1 I2 m2).an) h (by kernel_rfl) (AV.pureB_ok rfl),fnB_ok (by kernel_rfl)⟩
def dropAt(l:List Int)(i:Nat):List Int:=l.take i++l.drop (i+1)
def spkM(l:List Int)(i:Nat)(r:Int):Spk:=⟨r,1,0,[],(dropAt l i).map fun x=>⟨x,0,0⟩⟩
theorem dropAt_ok{l:List Int}(h:l.Pairwise (·<·)){i:Nat}{r:Int}(hr:l[i]?=some r):dropAt l i=others l r:=by
 obtain ⟨hi,e⟩:=List.getElem?_eq_some_iff.mp hr
 have hl:l=l.take i++r::l.drop (i+1):=by
  rw [←e,List.getElem_cons_drop,List.take_append_drop]
 have h1:∀x∈l.take i,x≠r:=fun x hx q=>by
  rw [hl,List.pairwise_append] at h
  have:=h.2.2 x hx r (by simp);omega
 have h2:∀x∈l.drop (i+1),x≠r:=fun x hx q=>by
  rw [hl,List.pairwise_append,List.pairwise_cons] at h
  have:=h.2.1.1 x hx;omega
 unfold dropAt others
 conv=>rhs;rw [hl]
 rw [List.filter_append,List.filter_cons_of_neg (by simp),List.filter_eq_self.mpr fun x hx=>by simpa using h1 x hx,List.filter_eq_self.mpr fun x hx=>by simpa using h2 x hx]
theorem spkM_ok{l:List Int}(h:okR l){i:Nat}{r:Int}(hr:l[i]?=some r):spkM l i r=spkN l r:=by
 unfold spkM spkN
 rw [dropAt_ok h.2.2 hr];rfl
theorem netM_eq{l:List Int}(h:okR l):(⟨l.mapIdx (spkM l),l.map lsnN,[]⟩:Ovl)=netOf l:=by
 have:l.mapIdx (spkM l)=l.map (spkN l):=by
  refine List.ext_getElem (by simp) fun i h1 h2=>?_
  rw [List.getElem_mapIdx,List.getElem_map]
  exact spkM_ok h (List.getElem?_eq_getElem (by simpa using h1))
 rw [this];rfl
theorem netM_iff(l:List Int):ovlOk ⟨l.mapIdx (spkM l),l.map lsnN,[]⟩↔okR l:=by
 have er:rtrs (l.mapIdx (spkM l))=l:=by
  unfold rtrs
  refine List.ext_getElem (by simp) fun i h1 h2=>?_
  simp [spkM]
 constructor
 ·rintro ⟨h,_⟩
  simp only [er] at h
  refine ⟨h.len,fun r hr=>?_,h.ascR⟩
  obtain ⟨i,hi,rfl⟩:=List.getElem_of_mem hr
  have:=(h.spo (spkM l i l[i]) (List.mem_mapIdx.mpr ⟨i,hi,rfl⟩)).1.1
  exact this
 ·intro h
  rw [netM_eq h]
  exact (netOf_iff l).mpr h
theorem new_M(l:List Int)(i:Nat)(r:Int):new r 1 (dropAt l i)=if spkOk (spkM l i r) then (spkM l i r,0) else (spk0,1):=rfl
def newOR_a(routers:(List Int)):Prop:=okL [.sl 1 (routers.map AV.int) false]
abbrev newOR_v0(routers:(List Int)):=(routers.take ((routers.length:Int).toNat))
def newOR_n0(routers:(List Int))(t0:Int×(List Lsn)×(List Spk)):NF:=⟨[(0,.k,.sl 1 (routers.map AV.int) false),(2,.k,.ref 0 0),(4,.k,.ref 1 0),(14,.k,.sl 1 (routers.map AV.int) false),(15,.k,.int ((routers.map AV.int).length:Int)),(16,.k,.int t0.1)],[.box (.agg [.sl 0 [] true,.sl 0 [] true,.sl 0 [] true]),.box (.agg [.vec 2,.vec 3,.sl 0 [] true]),.vec 5 (t0.2.2.map Spk.v) (pureBL_map (fun _=>rfl) t0.2.2),.vec 3 (t0.2.1.map Lsn.v) (pureBL_map (fun _=>rfl) t0.2.1)]⟩
@[reducible] def newOR_s:Nat→Type
 | 0=>Int×(List Lsn)×(List Spk)
 | _=>Unit
def newOR_e(r:Ovl×Int):AV:=.tup [Ovl.v r.1,.int r.2]
def newOR_x(routers:(List Int))(I0:(Int×(List Lsn)×(List Spk))→Prop)(m0:(Int×(List Lsn)×(List Spk))→Nat):Ax Tryz.prog newOR_s (Ovl×Int):=
 (.br 96 (decide (12<((routers.map AV.int).length:Int))) (.ret ((⟨[],[],[]⟩:Ovl),1))
(.cmdL (.nilB 32 0 5) (.cmdL (.nilB 32 1 3) (.loop 0 (newOR_n0 routers) I0 m0 (0,[],[]) [0,32,144,145] fun (t0:Int×(List Lsn)×(List Spk)) b0 =>
(.br 20 (decide (t0.1<((routers.map AV.int).length:Int))) (.el 36 AV.int routers (fun R=>Rf (routers.map AV.int) (ck (decide (0≤t0.1)) (ck (decide (t0.1<(routers.length:Int)))
(∀x1,routers[t0.1.toNat]?=some x1 →
(R x1))))) fun x1 =>
(.say (fun R=>Rf (α:=List AV) (routers.map AV.int) (ck (bndB routers.length 0 t0.1 (routers.length:Int))
R)) (.sub 164 AV.int routers false
(.say (fun R=>Rf (α:=List AV) [] (Rf (α:=List AV) (((routers.take t0.1.toNat).drop 0).map AV.int)
(ck (decide (0+((routers.take t0.1.toNat).drop 0).length≤1048576))
R))) (.app 180 AV.int [] ((routers.take t0.1.toNat).drop 0)
(.say (fun R=>Rf (α:=List AV) (routers.map AV.int) (ck (bndB routers.length (W (t0.1+1)) (routers.length:Int) (routers.length:Int))
R)) (.sub 244 AV.int routers false
(.say (fun R=>Rf (α:=List AV) (((routers.take t0.1.toNat).drop 0).map AV.int) (Rf (α:=List AV) (((newOR_v0 routers).drop ((W (t0.1+1)).toNat)).map AV.int)
(ck (decide (((routers.take t0.1.toNat).drop 0).length+((newOR_v0 routers).drop ((W (t0.1+1)).toNat)).length≤1048576))
R))) (.app 260 AV.int ((routers.take t0.1.toNat).drop 0) ((newOR_v0 routers).drop ((W (t0.1+1)).toNat))
(.say (Rf ((((routers.take t0.1.toNat).drop 0)++((newOR_v0 routers).drop ((W (t0.1+1)).toNat))).map AV.int)) (.cmd (.frzE 260 ((((routers.take t0.1.toNat).drop 0)++((newOR_v0 routers).drop ((W (t0.1+1)).toNat))).map AV.int) (pureBL_map (fun _=>rfl) (((routers.take t0.1.toNat).drop 0)++((newOR_v0 routers).drop ((W (t0.1+1)).toNat))))) (.callP (newR_c x1 1 (((routers.take t0.1.toNat).drop 0)++((newOR_v0 routers).drop ((W (t0.1+1)).toNat))))
(.br 468 (((new x1 1 (((routers.take t0.1.toNat).drop 0)++((newOR_v0 routers).drop ((W (t0.1+1)).toNat)))).2) != 0) (.ret ((⟨[],[],[]⟩:Ovl),1))
(.say (fun R=>Rf (α:=List AV) (t0.2.2.map Spk.v) (Rf (α:=List AV) [.agg [.int (((new x1 1 (((routers.take t0.1.toNat).drop 0)++((newOR_v0 routers).drop ((W (t0.1+1)).toNat)))).1).router),.int (((new x1 1 (((routers.take t0.1.toNat).drop 0)++((newOR_v0 routers).drop ((W (t0.1+1)).toNat)))).1).epoch),.int (((new x1 1 (((routers.take t0.1.toNat).drop 0)++((newOR_v0 routers).drop ((W (t0.1+1)).toNat)))).1).last),.sl 4 ((((new x1 1 (((routers.take t0.1.toNat).drop 0)++((newOR_v0 routers).drop ((W (t0.1+1)).toNat)))).1).items).map Itm.v) false,.sl 3 ((((new x1 1 (((routers.take t0.1.toNat).drop 0)++((newOR_v0 routers).drop ((W (t0.1+1)).toNat)))).1).peers).map Per.v) false]]
(ck (decide (t0.2.2.length+1≤1048576))
R))) (.app 532 Spk.v t0.2.2 [(new x1 1 (((routers.take t0.1.toNat).drop 0)++((newOR_v0 routers).drop ((W (t0.1+1)).toNat)))).1]
(.say (fun R=>Idt (t0.2.1.map Lsn.v) (Rf (α:=List AV) [.agg [.int x1,.int 1,.sl 0 [] true]]
(ck (decide ((t0.2.1.map Lsn.v).length+1≤1048576))
R))) (.app 660 (fun y:AV=>y) (t0.2.1.map Lsn.v) [.agg [.int x1,.int 1,.sl 0 [] true]]
(.say (fun R=>FitE (.a [.k,.k,(.s 4)]) Lsn.v t0.2.1 [(⟨x1,1,[]⟩:Lsn)] [.agg [.int x1,.int 1,.sl 0 [] true]] ∧
R) (.cmd (.wkV 660 (.a [.k,.k,(.s 4)]) Lsn.v (t0.2.1++[(⟨x1,1,[]⟩:Lsn)])) (.bk 0 b0 (W (t0.1+1),t0.2.1++[(⟨x1,1,[]⟩:Lsn)],t0.2.2++[(new x1 1 (((routers.take t0.1.toNat).drop 0)++((newOR_v0 routers).drop ((W (t0.1+1)).toNat)))).1]) [0,1,532,660]))))))))))))))))))))
(.callP (valOR_c (⟨t0.2.2,t0.2.1,[]⟩:Ovl))
(.say (ck (pureBLs [(t0.2.2.map Spk.v),(t0.2.1.map Lsn.v)])) (.br 68 ((valO (⟨t0.2.2,t0.2.1,[]⟩:Ovl)) != 0) (.ret ((⟨[],[],[]⟩:Ovl),1))
(.say (Rf (t0.2.1.map Lsn.v)) (.cmdL (.frzE 3 (t0.2.1.map Lsn.v) (pureBL_map (fun _=>rfl) t0.2.1)) (.say (Rf (t0.2.2.map Spk.v)) (.cmdL (.frzE 2 (t0.2.2.map Spk.v) (pureBL_map (fun _=>rfl) t0.2.2)) (.ret ((⟨t0.2.2,t0.2.1,[]⟩:Ovl),0))))))))))))))
def newOR_vc(routers:(List Int))(I0:(Int×(List Lsn)×(List Spk))→Prop)(m0:(Int×(List Lsn)×(List Spk))→Nat)(r0:Ovl×Int):Prop:=(newOR_x routers I0 m0).vp newOR_e r0
theorem newOR_p(l:List Int)(h:l.length≤1000)(ok:newOR_a l):∃I m,newOR_vc l I m (newN l):=by
 refine ⟨fun t=>∃k:Nat,t=((k:Int),(l.take k).map lsnN,(l.mapIdx (spkM l)).take k)∧k≤l.length,fun t=>l.length-t.1.toNat,?_⟩
 dsimp only [newOR_vc,newOR_x,newOR_s,newOR_v0,Ax.vp,Ax.vc];simp only [vcU,rfU,List.length_map]
 have hN:newN l=if okR l then (netOf l,0) else (ovl0,1):=rfl
 rw [hN]
 refine ⟨fun q=>?_,fun q=>⟨⟨0,rfl,by omega⟩,?_⟩⟩
 ·have:¬okR l:=fun e=>by have:=e.1;omega
  rw [if_neg this];rfl
 rintro _ ⟨k,rfl,hk⟩
 simp only [Int.toNat_natCast]
 refine ⟨fun a1=>⟨by omega,by omega,fun x hx=>?_⟩,fun a1=>?_⟩
 ·rw [W_succ (n:=l.length) (by omega) (by omega)]
  simp only [Int.toNat_natCast,List.take_length,List.drop_zero]
  have hdr:l.take k++l.drop (k+1)=dropAt l k:=rfl
  have hdl:(l.take k).length+(l.drop (k+1)).length≤1000:=by rw [List.length_take,List.length_drop];omega
  have hb1:bndB l.length 0 (k:Int) (l.length:Int)=true:=by simp [bndB];omega
  have hb2:bndB l.length ((k+1:Nat):Int) (l.length:Int) (l.length:Int)=true:=by simp [bndB];omega
  rw [hdr,new_M]
  refine ⟨hb1,by omega,hb2,by omega,fun c=>?_,fun c=>?_⟩
  ·have c:¬spkOk (spkM l k x):=fun e=>by rw [if_pos e] at c;simp at c
   have:¬okR l:=fun e=>c (by rw [spkM_ok e hx];exact (spkN_ok e (mem_of_get hx)).1)
   rw [if_neg this];rfl
  ·have c:spkOk (spkM l k x):=by
    by_cases e:spkOk (spkM l k x)
    ·exact e
    ·rw [if_neg e] at c;simp at c
   rw [if_pos c]
   have hm:(l.mapIdx (spkM l))[k]?=some (spkM l k x):=by rw [List.getElem?_mapIdx,hx];rfl
   refine ⟨by simp;omega,by simp;omega,fitE_one (fun _=>rfl) rfl,⟨k+1,?_,by omega⟩,by omega⟩
   rw [take_succ hx,take_succ hm,List.map_append];rfl
 ·rw [List.take_of_length_le (by simp;omega),List.take_of_length_le (by omega)]
  have hz:valO (⟨l.mapIdx (spkM l),l.map lsnN,[]⟩:Ovl)=if okR l then 0 else 1:=by
   unfold valO
   simp only [netM_iff]
  refine ⟨by generalize l.mapIdx (spkM l)=A;generalize l.map lsnN=B;simp [pureBLs,pureBL_map (v:=Spk.v) (fun _=>rfl),pureBL_map (v:=Lsn.v) (fun _=>rfl)],fun q=>?_,fun q=>?_⟩
  ·rw [hz] at q
   by_cases e:okR l
   ·rw [if_pos e] at q;simp at q
   ·rw [if_neg e];rfl
  ·rw [hz] at q
   by_cases e:okR l
   ·rw [if_pos e,netM_eq e]
   ·rw [if_neg e] at q;simp at q
def newOR_c(routers:(List Int))(h:routers.length≤1000):PC Tryz.prog:=⟨38,[(.s 1)],[.sl 1 (routers.map AV.int) false],newOR_e (newN routers),PSpec.of_ok fun ok=>(newOR_p routers h ok).elim fun I0 h=>h.elim fun m0 h=>mxP_of (sh:=(.a [(.a [(.s 5),(.s 3),(.s 10)]),.k])) (enc:=newOR_e) (a:=(newOR_x routers I0 m0).an) h (by kernel_rfl) (AV.pureB_ok rfl),fnB_ok (by kernel_rfl)⟩
structure NI (R:List Int) (o:Ovl):Prop where
  net:NetOk R o.sp o.ls
  fl:∀x∈o.fl,sigIn R x
section
variable {R : List Int} {o : Ovl} {L : List Int}
theorem NI.ok(h:NI R o):ovlOk o:=by
 have e:rtrs o.sp=R:=h.net.spr
 exact ⟨by rw [e];exact h.net,by rw [e];exact h.fl⟩
end
theorem minI_eq{a b:Int}:minI a b=min a b:=by unfold minI;split<;>omega
def hvyT_a(L:(List Int))(p:Nat)(n:Int):Prop:=okL [.ref 0 0,.int n]∧(.box (.agg [.sl 1 (L.map AV.int) false,.int ((p:Nat):Int)]):Blk).ok
def hvyT_n0(L:(List Int))(t0:Int×Nat×(List Fau)):NF:=⟨[(0,.k,.ref 0 0),(5,.k,.vec 1),(6,.k,.int t0.1)],[.box (.agg [.sl 1 (L.map AV.int) false,.int ((t0.2.1:Nat):Int)]),.vec 2 (t0.2.2.map Fau.v) (pureBL_map (fun _=>rfl) t0.2.2)]⟩
@[reducible] def hvyT_s:Nat→Type
 | 0=>Int×Nat×(List Fau)
 | _=>Unit
def hvyT_e(r:Tap×(List Fau)):AV:=.sl 2 (r.2.map Fau.v) false
def hvyT_b(r:Tap×(List Fau)):List (Option Blk):=[some (.box (.agg [.sl 1 (r.1.L.map AV.int) false,.int ((r.1.p:Nat):Int)]))]
def hvyT_x(L:(List Int))(p:Nat)(n:Int)(I0:(Int×Nat×(List Fau))→Prop)(m0:(Int×Nat×(List Fau))→Nat):Ax Tryz.prog hvyT_s (Tap×(List Fau)):=
 (.cmdL (.nilT 5 2) (.loop 0 (hvyT_n0 L) I0 m0 (W (n-1),p,[]) [0,81] fun (t0:Int×Nat×(List Fau)) b0 =>
(.br 34 (decide (0≤t0.1)) (.callH [0] (N_h L t0.2.1 3) 50
(.br 82 (decide (0<(Mod (rawV L t0.2.1) 3))) (.req 130 ([1,1,2,3,4]≠[]) fun h1 =>
(.callH [0] (Pick_h L (rawP L t0.2.1) [1,1,2,3,4] h1) 130
(.say (fun R=>Rf (α:=List AV) (t0.2.2.map Fau.v) (Rf (α:=List AV) [.agg [.int (pickI [1,1,2,3,4] (rawV L (rawP L t0.2.1))),.int t0.1]]
(ck (decide (t0.2.2.length+1≤1048576))
R))) (.app 194 Fau.v t0.2.2 [(⟨pickI [1,1,2,3,4] (rawV L (rawP L t0.2.1)),t0.1⟩:Fau)]
(.bk 0 b0 (W (t0.1-1),rawP L (rawP L t0.2.1),t0.2.2++[(⟨pickI [1,1,2,3,4] (rawV L (rawP L t0.2.1)),t0.1⟩:Fau)]) [0,194])))))
(.bk 0 b0 (W (t0.1-1),rawP L t0.2.1,t0.2.2) [0,1])))
(.say (Rf (t0.2.2.map Fau.v)) (.cmdL (.frzE 1 (t0.2.2.map Fau.v) (pureBL_map (fun _=>rfl) t0.2.2)) (.retH ((⟨L,t0.2.1⟩:Tap),t0.2.2) ⟨[(4,.k,.sl 2 (t0.2.2.map Fau.v) false)],[.box (.agg [.sl 1 (L.map AV.int) false,.int ((t0.2.1:Nat):Int)])]⟩ [0]))))))
def hvyT_vc(L:(List Int))(p:Nat)(n:Int)(I0:(Int×Nat×(List Fau))→Prop)(m0:(Int×Nat×(List Fau))→Nat)(r0:Tap×(List Fau)):Prop:=(hvyT_x L p n I0 m0).vc hvyT_e hvyT_b r0
theorem hvyT_p(L:List Int)(p:Nat)(n:Int)(h:0≤n∧n≤100000)(ok:hvyT_a L p n):∃I m,hvyT_vc L p n I m ((⟨L,(heavyT L n p).2⟩:Tap),(heavyT L n p).1):=by
 refine ⟨fun t=>∃k:Nat,t.1=(k:Int)-1∧k≤100000∧t.2.2.length+k≤100000∧heavyL L k t.2.2 t.2.1=heavyT L n p,fun t=>(t.1+1).toNat,?_⟩
 dsimp only [hvyT_vc,hvyT_x,hvyT_s,Ax.vp,Ax.vc];simp only [vcU,rfU,List.length_map]
 refine ⟨⟨n.toNat,by rw [W_eq (by omega)];omega,by omega,by simp;omega,rfl⟩,?_⟩
 rintro ⟨i,q,out⟩ ⟨k,hk,hk4,hl,hf⟩
 simp only at hk hl hf
 subst hk
 simp only
 refine ⟨fun h1=>?_,fun h1=>?_⟩
 ·obtain ⟨j,rfl⟩:∃j,k=j+1:=⟨k-1,by omega⟩
  have e:((j+1:Nat):Int)-1=j:=by omega
  rw [e,W_eq (by omega)]
  rw [heavyL] at hf
  refine ⟨fun c=>⟨by simp,by omega,⟨j,rfl,by omega,by simp;omega,?_⟩,by omega⟩,fun c=>⟨⟨j,rfl,by omega,by omega,?_⟩,by omega⟩⟩
  ·rw [if_pos c] at hf;exact hf
  ·rw [if_neg c] at hf;exact hf
 ·have:k=0:=by omega
  subst this
  rw [←hf];rfl
def hvyT_h(L:(List Int))(p:Nat)(n:Int)(h:0≤n∧n≤100000):HC Tryz.prog:=⟨84,[.k,.k],[.ref 0 0,.int n],[.box (.agg [.sl 1 (L.map AV.int) false,.int ((p:Nat):Int)])],hvyT_e ((⟨L,(heavyT L n p).2⟩:Tap),(heavyT L n p).1),hvyT_b ((⟨L,(heavyT L n p).2⟩:Tap),(heavyT L n p).1),HSpec.of_okh fun ok ok2=>have ok:hvyT_a L p n:=⟨ok,ok2 _ (by simp)⟩;(hvyT_p L p n h ok).elim fun I0 h=>h.elim fun m0 h=>mxH_of (sh:=(.s 2)) (enc:=hvyT_e) (hB:=hvyT_b) (a:=(hvyT_x L p n I0 m0).an) h (by kernel_rfl),fnB_ok (by kernel_rfl),HcOk.of (by simp [hcB,belBL,AV.belB,allB,okBk,okBkO,hvyT_e,hvyT_b,pureBL_map (v:=AV.int) (fun _=>rfl)])⟩
def okAct(o:Ovl):Prop:=0<o.sp.length∧o.fl.length≤300000
def actT_a(L:(List Int))(p:Nat)(o:Ovl):Prop:=okL [.ref 0 0,.agg [.sl 5 (o.sp.map Spk.v) false,.sl 3 (o.ls.map Lsn.v) false,.sl 10 (o.fl.map Sig.v) false]]∧(.box (.agg [.sl 1 (L.map AV.int) false,.int ((p:Nat):Int)]):Blk).ok
abbrev actT_v0(o:Ovl):=(minI ((o.fl.map Sig.v).length:Int) 40)
abbrev actT_v1(L:(List Int))(p:Nat)(o:Ovl):=(faultsT L ((o.fl.map Sig.v).length:Int) (rawP L (rawP L p)))
def actT_n0(L:(List Int))(o:Ovl)(t0:Int×Ovl×Nat):NF:=⟨[(3,.k,.ref 1 0),(4,.k,.ref 2 0),(6,.k,.ref 3 0),(7,.k,.int t0.1)],[.box (.agg [.sl 1 (L.map AV.int) false,.int ((t0.2.2:Nat):Int)]),.box (.agg [.sl 5 (o.sp.map Spk.v) false,.sl 3 (o.ls.map Lsn.v) false,.sl 10 (o.fl.map Sig.v) false]),.box (.agg [.sl 0 [] true,.sl 0 [] true,.sl 0 [] true]),.box (.agg [.sl 5 (t0.2.1.sp.map Spk.v) false,.sl 3 (t0.2.1.ls.map Lsn.v) false,.sl 10 (t0.2.1.fl.map Sig.v) false])]⟩
def actT_n1(L:(List Int))(p:Nat)(o:Ovl)(x1:Spk)(t1:Bool):NF:=⟨[(0,.k,.ref 0 0),(3,.k,.ref 1 0),(4,.k,.ref 2 0),(5,.k,.int x1.router),(6,.k,.ref 3 0),(20,.k,.int (Mod (rawV L (rawP L p)) 6)),(31,.k,.bool t1)],[.box (.agg [.sl 1 (L.map AV.int) false,.int (((rawP L (rawP L p)):Nat):Int)]),.box (.agg [.sl 5 (o.sp.map Spk.v) false,.sl 3 (o.ls.map Lsn.v) false,.sl 10 (o.fl.map Sig.v) false]),.box (.agg [.sl 0 [] true,.sl 0 [] true,.sl 0 [] true]),.box (.agg [.sl 5 (o.sp.map Spk.v) false,.sl 3 (o.ls.map Lsn.v) false,.sl 10 (o.fl.map Sig.v) false])]⟩
@[reducible] def actT_s:Nat→Type
 | 0=>Int×Ovl×Nat
 | 1=>Bool
 | _=>Unit
def actT_e(r:Tap×Ovl):AV:=.agg [.sl 5 (r.2.sp.map Spk.v) false,.sl 3 (r.2.ls.map Lsn.v) false,.sl 10 (r.2.fl.map Sig.v) false]
def actT_b(r:Tap×Ovl):List (Option Blk):=[some (.box (.agg [.sl 1 (r.1.L.map AV.int) false,.int ((r.1.p:Nat):Int)]))]
def actT_x(L:(List Int))(p:Nat)(o:Ovl)(I0:Spk→(Int×Ovl×Nat)→Prop)(I1:Spk→Bool→Prop):Ax Tryz.prog actT_s (Tap×Ovl):=
 (.callH [0] (N_h L p ((o.sp.map Spk.v).length:Int)) 129
(.el 145 Spk.v o.sp (fun R=>Rf (o.sp.map Spk.v) (ck (decide (0≤(Mod (rawV L p) ((o.sp.map Spk.v).length:Int)))) (ck (decide ((Mod (rawV L p) ((o.sp.map Spk.v).length:Int))<(o.sp.length:Int)))
(∀x1,o.sp[(Mod (rawV L p) ((o.sp.map Spk.v).length:Int)).toNat]?=some x1 →
(R x1))))) fun x1 =>
(.pass (.join 0 (actT_n0 L o) (fun (t0:Int×Ovl×Nat)=>I0 x1 t0) (fun b0=>(.callH [0] (N_h L (rawP L p) 6) 289
(.join 1 (actT_n1 L p o x1) (fun (t1:Bool)=>I1 x1 t1) (fun b1=>(.br 337 ((Mod (rawV L (rawP L p)) 6)==0) (.bk 1 b1 ((true):Bool) [0,1,17,225])
(.bk 1 b1 (((Mod (rawV L (rawP L p)) 6)==1):Bool) [0,1,17,225]))) fun (t1:Bool) =>
(.br 4 t1 (.callH [0] (wantsT_h L (rawP L (rawP L p))) 52
(.req 68 (o.fl.length≤1000000) fun h2 =>
(.callP (chgOR_c o x1.router ((wantsT L (rawP L (rawP L p))).1) h2)
(.bk 0 b0 ((changeV o x1.router ((wantsT L (rawP L (rawP L p))).1)).2,(changeV o x1.router ((wantsT L (rawP L (rawP L p))).1)).1,(wantsT L (rawP L (rawP L p))).2) [0,1,2,3]))))
(.br 36 ((Mod (rawV L (rawP L p)) 6)==2) (.callH [0] (wantsT_h L (rawP L (rawP L p))) 84
(.req 100 (o.fl.length≤1000000) fun h3 =>
(.callP (rstOR_c o x1.router ((wantsT L (rawP L (rawP L p))).1) h3)
(.bk 0 b0 ((restartV o x1.router ((wantsT L (rawP L (rawP L p))).1)).2,(restartV o x1.router ((wantsT L (rawP L (rawP L p))).1)).1,(wantsT L (rawP L (rawP L p))).2) [0,1,2,3]))))
(.br 68 ((Mod (rawV L (rawP L p)) 6)==3) (.req 164 (0≤(actT_v0 o)∧(actT_v0 o)≤100000) fun h4 =>
(.callH [0] (hvyT_h L (rawP L (rawP L p)) (actT_v0 o) h4) 164
(.req 180 (okRnd o ((heavyT L (actT_v0 o) (rawP L (rawP L p))).1)) fun h5 =>
(.callP (rndOR_c o ((heavyT L (actT_v0 o) (rawP L (rawP L p))).1) h5)
(.bk 0 b0 ((roundO o ((heavyT L (actT_v0 o) (rawP L (rawP L p))).1)).2,(roundO o ((heavyT L (actT_v0 o) (rawP L (rawP L p))).1)).1,(heavyT L (actT_v0 o) (rawP L (rawP L p))).2) [0,1,2,3])))))
(.req 148 (0≤((o.fl.map Sig.v).length:Int)∧((o.fl.map Sig.v).length:Int)≤1000000) fun h6 =>
(.callH [0] (fltsT_h L (rawP L (rawP L p)) ((o.fl.map Sig.v).length:Int) h6) 148
(.req 164 (okRnd o ((actT_v1 L p o).1)) fun h7 =>
(.callP (rndOR_c o ((actT_v1 L p o).1) h7)
(.bk 0 b0 ((roundO o ((actT_v1 L p o).1)).2,(roundO o ((actT_v1 L p o).1)).1,(actT_v1 L p o).2) [0,1,2,3]))))))))))) fun (t0:Int×Ovl×Nat) =>
(.br 36 (t0.1 != 0) (.retH ((⟨L,t0.2.2⟩:Tap),o) ⟨[(4,.k,.ref 1 0)],[.box (.agg [.sl 1 (L.map AV.int) false,.int ((t0.2.2:Nat):Int)]),.box (.agg [.sl 5 (o.sp.map Spk.v) false,.sl 3 (o.ls.map Lsn.v) false,.sl 10 (o.fl.map Sig.v) false])]⟩ [0,2])
(.retH ((⟨L,t0.2.2⟩:Tap),t0.2.1) ⟨[(4,.k,.ref 1 0)],[.box (.agg [.sl 1 (L.map AV.int) false,.int ((t0.2.2:Nat):Int)]),.box (.agg [.sl 5 (t0.2.1.sp.map Spk.v) false,.sl 3 (t0.2.1.ls.map Lsn.v) false,.sl 10 (t0.2.1.fl.map Sig.v) false])]⟩ [0,2]))))))
def actT_vc(L:(List Int))(p:Nat)(o:Ovl)(I0:Spk→(Int×Ovl×Nat)→Prop)(I1:Spk→Bool→Prop)(r0:Tap×Ovl):Prop:=(actT_x L p o I0 I1).vc actT_e actT_b r0
theorem actT_p(L:List Int)(p:Nat)(o:Ovl)(h:okAct o)(ok:actT_a L p o):∃I0 I1,actT_vc L p o I0 I1 ((⟨L,(actT L p o).2⟩:Tap),(actT L p o).1):=by
 obtain ⟨hs,hf⟩:=h
 refine ⟨fun _ t=>(orO o (t.2.1,t.1),t.2.2)=actT L p o,fun _ x=>x=decide (Mod (rawV L (rawP L p)) 6=0∨Mod (rawV L (rawP L p)) 6=1),?_⟩
 have hm:=Mod_range (x:=rawV L p) (n:=(o.sp.length:Int)) (by omega)
 have hmin:minI (o.fl.length:Int) 40=min (o.fl.length:Int) 40:=minI_eq
 dsimp only [actT_vc,actT_x,actT_s,actT_v0,actT_v1,Ax.vp,Ax.vc];simp only [vcU,rfU,List.length_map]
 simp only [hmin]
 refine ⟨by omega,by omega,fun x hx=>⟨⟨⟨fun c=>by simp [eq_of_beq c],fun c=>?_⟩,?_⟩,?_⟩⟩
 ·have c:¬Mod (rawV L (rawP L p)) 6=0:=by simpa using c
  rw [Bool.eq_iff_iff,beq_iff_eq,decide_eq_true_iff];omega
 all_goals have hx:o.sp.getD (Mod (rawV L p) o.sp.length).toNat spk0=x:=by rw [List.getD_eq_getElem?_getD,hx];rfl
 rotate_left
 ·rintro ⟨e,o2,q⟩ h2
  simp only at h2 ⊢
  refine ⟨fun c=>?_,fun c=>?_⟩
  ·have c:e≠0:=by simpa using c
   rw [←h2,orO,if_pos c]
  ·have c:¬e≠0:=by simpa using c
   rw [←h2,orO,if_neg c]
 have hF1:=heavyT_len (L:=L) (n:=min (o.fl.length:Int) 40) (p:=rawP L (rawP L p))
 have hF2:=faultsT_len (L:=L) (n:=o.fl.length) (p:=rawP L (rawP L p))
 rintro _ rfl
 refine ⟨fun c=>⟨by omega,?_⟩,fun c=>⟨fun d=>⟨by omega,?_⟩,fun d=>⟨fun e=>⟨by omega,⟨by omega,by omega⟩,?_⟩,fun e=>⟨by omega,⟨by omega,by omega⟩,?_⟩⟩⟩⟩
 ·have c:=of_decide_eq_true c
  rw [actT,if_pos c,hx]
 ·have c:=of_decide_eq_false c
  have d:=eq_of_beq d
  rw [actT,if_neg c,if_pos d,hx]
 ·have c:=of_decide_eq_false c
  have d:¬Mod (rawV L (rawP L p)) 6=2:=by simpa using d
  have e:=eq_of_beq e
  rw [actT,if_neg c,if_neg d,if_pos e]
 ·have c:=of_decide_eq_false c
  have d:¬Mod (rawV L (rawP L p)) 6=2:=by simpa using d
  have e:¬Mod (rawV L (rawP L p)) 6=3:=by simpa using e
  rw [actT,if_neg c,if_neg d,if_neg e]
def actT_h(L:(List Int))(p:Nat)(o:Ovl)(h:okAct o):HC Tryz.prog:=⟨39,[.k,(.a [(.s 5),(.s 3),(.s 10)])],[.ref 0 0,.agg [.sl 5 (o.sp.map Spk.v) false,.sl 3 (o.ls.map Lsn.v) false,.sl 10 (o.fl.map Sig.v) false]],[.box (.agg [.sl 1 (L.map AV.int) false,.int ((p:Nat):Int)])],actT_e ((⟨L,(actT L p o).2⟩:Tap),(actT L p o).1),actT_b ((⟨L,(actT L p o).2⟩:Tap),(actT L p o).1),HSpec.of_okh fun ok ok2=>have ok:actT_a L p o:=⟨ok,ok2 _ (by simp)⟩;(actT_p L p o h ok).elim fun I0 h=>h.elim fun I1 h=>mxH_of (sh:=(.a [(.s 5),(.s 3),(.s 10)])) (enc:=actT_e) (hB:=actT_b) (a:=(actT_x L p o I0 I1).an) h (by kernel_rfl),fnB_ok (by kernel_rfl),HcOk.of (by simp [hcB,belBL,AV.belB,allB,okBk,okBkO,actT_e,actT_b,pureBL_map (v:=AV.int) (fun _=>rfl),pureBL_map (v:=Lsn.v) (fun _=>rfl),pureBL_map (v:=Sig.v) (fun _=>rfl),pureBL_map (v:=Spk.v) (fun _=>rfl)])⟩
theorem set_upd{α:Type}{l:List α}{f:α→α}{j:Nat}(h:j<l.length):((l.take j).map f++l.drop j).set j (f l[j])=(l.take (j+1)).map f++l.drop (j+1):=by
 have e:((l.take j).map f).length=j:=by simp;omega
 rw [List.set_append_right _ _ (by omega),e,Nat.sub_self,List.drop_eq_getElem_cons h,List.set_cons_zero,take_succ (List.getElem?_eq_getElem h),List.map_append,List.append_assoc]
 rfl
theorem get_upd{α:Type}{l:List α}{f:α→α}{j:Nat}(h:j<l.length):((l.take j).map f++l.drop j)[j]?=some l[j]:=by
 have e:((l.take j).map f).length=j:=by simp;omega
 rw [List.getElem?_append_right (by omega),e,Nat.sub_self,List.drop_eq_getElem_cons h,List.getElem?_cons_zero]
theorem OI.spl{R:List Int}{o:Ovl}(h:OI R o):o.sp.length=R.length:=by
 have:=congrArg List.length h.net.spr
 simpa [rtrs] using this
def scnT_a(L:(List Int))(p:Nat)(most:Int):Prop:=okL [.ref 0 0,.int most]∧(.box (.agg [.sl 1 (L.map AV.int) false,.int ((p:Nat):Int)]):Blk).ok
abbrev scnT_v0(L:(List Int))(p:Nat)(most:Int):=(plnT L ((topoT L p most).2) ((topoT L p most).1))
abbrev scnT_v1(L:(List Int))(p:Nat)(most:Int):=(rawV L ((scnT_v0 L p most).2))
def scnT_n0(L:(List Int))(p:Nat)(most:Int)(t0:(List Int)×Int):NF:=⟨[(0,.k,.ref 0 0),(4,.k,.ref 1 0),(5,.k,.ref 2 0),(6,(.s 1),.sl 1 (t0.1.map AV.int) false),(33,.k,.sl 2 ((((scnT_v0 L p most).1).es).map Edg.v) false),(34,.k,.int (((((scnT_v0 L p most).1).es).map Edg.v).length:Int)),(35,.k,.int t0.2)],[.box (.agg [.sl 1 (L.map AV.int) false,.int ((((scnT_v0 L p most).2):Nat):Int)]),.box (.agg [.sl 0 [] true,.sl 0 [] true,.int 0,.int 0,.sl 0 [] true,.sl 0 [] true,.sl 0 [] true,.sl 0 [] true,.sl 0 [] true]),.box (.agg [.sl 2 ((((topoT L p most).1).rs).map Rtr.v) false,.sl 5 ((((topoT L p most).1).ls).map Lnk.v) false,.int (((scnT_v0 L p most).1).sub),.int (((scnT_v0 L p most).1).len),.sl 2 ((((scnT_v0 L p most).1).es).map Edg.v) false,.sl 0 [] true,.sl 0 [] true,.sl 0 [] true,.sl 0 [] true])]⟩
def scnT_n1(L:(List Int))(p:Nat)(most:Int)(t0:(List Int)×Int)(t1:Int×Nat×(List Sit)):NF:=⟨[(0,.k,.ref 0 0),(4,.k,.ref 1 0),(5,.k,.ref 2 0),(6,.k,.sl 1 (t0.1.map AV.int) false),(9,.k,.int (pickI [0,100] (scnT_v1 L p most))),(47,.k,.sl 1 (t0.1.map AV.int) false),(48,.k,.int ((t0.1.map AV.int).length:Int)),(49,.k,.int t1.1)],[.box (.agg [.sl 1 (L.map AV.int) false,.int ((t1.2.1:Nat):Int)]),.box (.agg [.sl 0 [] true,.sl 0 [] true,.int 0,.int 0,.sl 0 [] true,.sl 0 [] true,.sl 0 [] true,.sl 0 [] true,.sl 0 [] true]),.box (.agg [.sl 2 ((((topoT L p most).1).rs).map Rtr.v) false,.sl 5 ((((topoT L p most).1).ls).map Lnk.v) false,.int (((scnT_v0 L p most).1).sub),.int (((scnT_v0 L p most).1).len),.sl 2 ((((scnT_v0 L p most).1).es).map Edg.v) false,.vec 3,.sl 0 [] true,.sl 0 [] true,.sl 0 [] true]),.vec 3 (t1.2.2.map Sit.v) (pureBL_map (fun _=>rfl) t1.2.2)]⟩
def scnT_n2(L:(List Int))(p:Nat)(most:Int)(t0:(List Int)×Int)(t1:Int×Nat×(List Sit))(x6:Int)(t2:Int×(List Mem)):NF:=⟨[(0,.k,.ref 0 0),(4,.k,.ref 1 0),(5,.k,.ref 2 0),(6,.k,.sl 1 (t0.1.map AV.int) false),(9,.k,.int (pickI [0,100] (scnT_v1 L p most))),(11,.k,.int x6),(12,.k,.ref 4 0),(47,.k,.sl 1 (t0.1.map AV.int) false),(48,.k,.int ((t0.1.map AV.int).length:Int)),(49,.k,.int t1.1),(57,.k,.int (((((memsT L 4 t1.2.1).1).list).map Mem.v).length:Int)),(58,.k,.int t2.1)],[.box (.agg [.sl 1 (L.map AV.int) false,.int ((((memsT L 4 t1.2.1).2):Nat):Int)]),.box (.agg [.sl 0 [] true,.sl 0 [] true,.int 0,.int 0,.sl 0 [] true,.sl 0 [] true,.sl 0 [] true,.sl 0 [] true,.sl 0 [] true]),.box (.agg [.sl 2 ((((topoT L p most).1).rs).map Rtr.v) false,.sl 5 ((((topoT L p most).1).ls).map Lnk.v) false,.int (((scnT_v0 L p most).1).sub),.int (((scnT_v0 L p most).1).len),.sl 2 ((((scnT_v0 L p most).1).es).map Edg.v) false,.vec 3,.sl 0 [] true,.sl 0 [] true,.sl 0 [] true]),.vec 3 (t1.2.2.map Sit.v) (pureBL_map (fun _=>rfl) t1.2.2),.box (.agg [.int (((memsT L 4 t1.2.1).1).now),.vec 5]),.vec 5 (t2.2.map Mem.v) (pureBL_map (fun _=>rfl) t2.2)]⟩
def scnT_n3(L:(List Int))(p:Nat)(most:Int)(t0:(List Int)×Int)(t1:Int×Nat×(List Sit))(t3:Int×(List Spk)×(List Lsn)×(List Sig)×Nat):NF:=⟨[(0,.k,.ref 0 0),(4,.k,.ref 1 0),(5,.k,.ref 2 0),(6,.k,.sl 1 (t0.1.map AV.int) false),(14,.k,.int t3.1)],[.box (.agg [.sl 1 (L.map AV.int) false,.int ((t3.2.2.2.2:Nat):Int)]),.box (.agg [.sl 0 [] true,.sl 0 [] true,.int 0,.int 0,.sl 0 [] true,.sl 0 [] true,.sl 0 [] true,.sl 0 [] true,.sl 0 [] true]),.box (.agg [.sl 2 ((((topoT L p most).1).rs).map Rtr.v) false,.sl 5 ((((topoT L p most).1).ls).map Lnk.v) false,.int (((scnT_v0 L p most).1).sub),.int (((scnT_v0 L p most).1).len),.sl 2 ((((scnT_v0 L p most).1).es).map Edg.v) false,.vec 3,.sl 5 (t3.2.1.map Spk.v) false,.sl 3 (t3.2.2.1.map Lsn.v) false,.sl 10 (t3.2.2.2.1.map Sig.v) false]),.vec 3 (t1.2.2.map Sit.v) (pureBL_map (fun _=>rfl) t1.2.2)]⟩
def scnT_n4(L:(List Int))(p:Nat)(most:Int)(t1:Int×Nat×(List Sit))(t4:Int×(List Spk)×(List Lsn)×(List Sig)×Nat):NF:=⟨[(0,.k,.ref 0 0),(4,.k,.ref 1 0),(5,.k,.ref 2 0),(123,.k,.vec 3),(124,.k,.int ((t1.2.2.map Sit.v).length:Int)),(125,.k,.int t4.1)],[.box (.agg [.sl 1 (L.map AV.int) false,.int ((t4.2.2.2.2:Nat):Int)]),.box (.agg [.sl 0 [] true,.sl 0 [] true,.int 0,.int 0,.sl 0 [] true,.sl 0 [] true,.sl 0 [] true,.sl 0 [] true,.sl 0 [] true]),.box (.agg [.sl 2 ((((topoT L p most).1).rs).map Rtr.v) false,.sl 5 ((((topoT L p most).1).ls).map Lnk.v) false,.int (((scnT_v0 L p most).1).sub),.int (((scnT_v0 L p most).1).len),.sl 2 ((((scnT_v0 L p most).1).es).map Edg.v) false,.vec 3,.sl 5 (t4.2.1.map Spk.v) false,.sl 3 (t4.2.2.1.map Lsn.v) false,.sl 10 (t4.2.2.2.1.map Sig.v) false]),.vec 3 (t1.2.2.map Sit.v) (pureBL_map (fun _=>rfl) t1.2.2)]⟩
def scnT_n5(L:(List Int))(p:Nat)(most:Int)(t1:Int×Nat×(List Sit))(t4:Int×(List Spk)×(List Lsn)×(List Sig)×Nat)(x14:Sit)(t5:Bool×Nat):NF:=⟨[(0,.k,.ref 0 0),(4,.k,.ref 1 0),(5,.k,.ref 2 0),(16,.k,.ref 4 0),(17,.k,.sl 3 (((ofW (⟨x14.now,x14.list⟩:Mems)).1).map Wnt.v) false),(123,.k,.vec 3),(124,.k,.int ((t1.2.2.map Sit.v).length:Int)),(125,.k,.int t4.1),(141,.k,.bool t5.1)],[.box (.agg [.sl 1 (L.map AV.int) false,.int ((t5.2:Nat):Int)]),.box (.agg [.sl 0 [] true,.sl 0 [] true,.int 0,.int 0,.sl 0 [] true,.sl 0 [] true,.sl 0 [] true,.sl 0 [] true,.sl 0 [] true]),.box (.agg [.sl 2 ((((topoT L p most).1).rs).map Rtr.v) false,.sl 5 ((((topoT L p most).1).ls).map Lnk.v) false,.int (((scnT_v0 L p most).1).sub),.int (((scnT_v0 L p most).1).len),.sl 2 ((((scnT_v0 L p most).1).es).map Edg.v) false,.vec 3,.sl 5 (t4.2.1.map Spk.v) false,.sl 3 (t4.2.2.1.map Lsn.v) false,.sl 10 (t4.2.2.2.1.map Sig.v) false]),.vec 3 (t1.2.2.map Sit.v) (pureBL_map (fun _=>rfl) t1.2.2),.box (.agg [.int x14.router,.int x14.now,.sl 5 (x14.list.map Mem.v) false])]⟩
def scnT_n6(L:(List Int))(p:Nat)(most:Int)(t1:Int×Nat×(List Sit))(t6:Int×(List Spk)×(List Lsn)×(List Sig)×Nat):NF:=⟨[(0,.k,.ref 0 0),(4,.k,.ref 1 0),(5,.k,.ref 2 0),(21,.k,.int t6.1)],[.box (.agg [.sl 1 (L.map AV.int) false,.int ((t6.2.2.2.2:Nat):Int)]),.box (.agg [.sl 0 [] true,.sl 0 [] true,.int 0,.int 0,.sl 0 [] true,.sl 0 [] true,.sl 0 [] true,.sl 0 [] true,.sl 0 [] true]),.box (.agg [.sl 2 ((((topoT L p most).1).rs).map Rtr.v) false,.sl 5 ((((topoT L p most).1).ls).map Lnk.v) false,.int (((scnT_v0 L p most).1).sub),.int (((scnT_v0 L p most).1).len),.sl 2 ((((scnT_v0 L p most).1).es).map Edg.v) false,.vec 3,.sl 5 (t6.2.1.map Spk.v) false,.sl 3 (t6.2.2.1.map Lsn.v) false,.sl 10 (t6.2.2.2.1.map Sig.v) false]),.vec 3 (t1.2.2.map Sit.v) (pureBL_map (fun _=>rfl) t1.2.2)]⟩
@[reducible] def scnT_s:Nat→Type
 | 0=>(List Int)×Int
 | 1=>Int×Nat×(List Sit)
 | 2=>Int×(List Mem)
 | 3=>Int×(List Spk)×(List Lsn)×(List Sig)×Nat
 | 4=>Int×(List Spk)×(List Lsn)×(List Sig)×Nat
 | 5=>Bool×Nat
 | 6=>Int×(List Spk)×(List Lsn)×(List Sig)×Nat
 | _=>Unit
def scnT_e(r:Tap×Scn):AV:=.agg [.sl 2 (r.2.rs.map Rtr.v) false,.sl 5 (r.2.ls.map Lnk.v) false,.int r.2.sub,.int r.2.len,.sl 2 (r.2.es.map Edg.v) false,.sl 3 (r.2.sites.map Sit.v) false,.sl 5 (r.2.sp.map Spk.v) false,.sl 3 (r.2.lsn.map Lsn.v) false,.sl 10 (r.2.fl.map Sig.v) false]
def scnT_b(r:Tap×Scn):List (Option Blk):=[some (.box (.agg [.sl 1 (r.1.L.map AV.int) false,.int ((r.1.p:Nat):Int)]))]
def scnT_x(L:(List Int))(p:Nat)(most:Int)(I0:((List Int)×Int)→Prop)(m0:((List Int)×Int)→Nat)(I1:(List Int)×Int→(Int×Nat×(List Sit))→Prop)(m1:(List Int)×Int→(Int×Nat×(List Sit))→Nat)(I2:(List Int)×Int→Int×Nat×(List Sit)→Int→(Int×(List Mem))→Prop)(m2:(List Int)×Int→Int×Nat×(List Sit)→Int→(Int×(List Mem))→Nat)(I3:(List Int)×Int→Int×Nat×(List Sit)→(Int×(List Spk)×(List Lsn)×(List Sig)×Nat)→Prop)(m3:(List Int)×Int→Int×Nat×(List Sit)→(Int×(List Spk)×(List Lsn)×(List Sig)×Nat)→Nat)(I4:(List Int)×Int→Int×Nat×(List Sit)→Int×(List Spk)×(List Lsn)×(List Sig)×Nat→(Int×(List Spk)×(List Lsn)×(List Sig)×Nat)→Prop)(m4:(List Int)×Int→Int×Nat×(List Sit)→Int×(List Spk)×(List Lsn)×(List Sig)×Nat→(Int×(List Spk)×(List Lsn)×(List Sig)×Nat)→Nat)(I5:(List Int)×Int→Int×Nat×(List Sit)→Int×(List Spk)×(List Lsn)×(List Sig)×Nat→Int×(List Spk)×(List Lsn)×(List Sig)×Nat→Sit→(Bool×Nat)→Prop)(I6:(List Int)×Int→Int×Nat×(List Sit)→Int×(List Spk)×(List Lsn)×(List Sig)×Nat→Int×(List Spk)×(List Lsn)×(List Sig)×Nat→(Int×(List Spk)×(List Lsn)×(List Sig)×Nat)→Prop)(m6:(List Int)×Int→Int×Nat×(List Sit)→Int×(List Spk)×(List Lsn)×(List Sig)×Nat→Int×(List Spk)×(List Lsn)×(List Sig)×Nat→(Int×(List Spk)×(List Lsn)×(List Sig)×Nat)→Nat):Ax Tryz.prog scnT_s (Tap×Scn):=
 (.req 65 (1≤most∧most≤100) fun h1 =>
(.callH [0] (topoT_h L p most h1) 65
(.req 161 (((topoT L p most).1).rs.length≤1000) fun h2 =>
(.callH [0] (plnT_h L ((topoT L p most).2) ((topoT L p most).1) h2) 161
(.loop 0 (scnT_n0 L p most) I0 m0 ([],0) [0,1,17] fun (t0:(List Int)×Int) b0 =>
(.br 19 (decide (t0.2<(((((scnT_v0 L p most).1).es).map Edg.v).length:Int))) (.el 19 Edg.v (((scnT_v0 L p most).1).es) (fun R=>Rf ((((scnT_v0 L p most).1).es).map Edg.v) (ck (decide (0≤t0.2)) (ck (decide (t0.2<((((scnT_v0 L p most).1).es).length:Int)))
(∀x3,(((scnT_v0 L p most).1).es)[t0.2.toNat]?=some x3 →
(R x3))))) fun x3 =>
(.req 131 (t0.1.length≤900000) fun h4 =>
(.callP (put_c t0.1 x3.router h4)
(.bk 0 b0 (put t0.1 x3.router,W (t0.2+1)) [0,1,2]))))
(.req 51 ([0,100]≠[]) fun h5 =>
(.callH [0] (Pick_h L ((scnT_v0 L p most).2) [0,100] h5) 51
(.cmdL (.nilB 2 5 3) (.loop 1 (scnT_n1 L p most t0) (I1 t0) (m1 t0) (0,rawP L ((scnT_v0 L p most).2),[]) [0,1,2,131] fun (t1:Int×Nat×(List Sit)) b1 =>
(.br 20 (decide (t1.1<((t0.1.map AV.int).length:Int))) (.el 20 AV.int t0.1 (fun R=>Rf (t0.1.map AV.int) (ck (decide (0≤t1.1)) (ck (decide (t1.1<(t0.1.length:Int)))
(∀x6,t0.1[t1.1.toNat]?=some x6 →
(R x6))))) fun x6 =>
(.req 84 (0≤4∧4≤1000) fun h7 =>
(.callH [0] (memsT_h L t1.2.1 4 h7) 84
(.loop 2 (scnT_n2 L p most t0 t1 x6) (I2 t0 t1 x6) (m2 t0 t1 x6) (0,((memsT L 4 t1.2.1).1).list) [0,1,2,3,100,84] fun (t2:Int×(List Mem)) b2 =>
(.br 22 (decide (t2.1<(((((memsT L 4 t1.2.1).1).list).map Mem.v).length:Int))) (.say (ck (cond (decide (0≤t2.1)) (decide (t2.1<((t2.2.map Mem.v).length:Int))) false)) (.el 134 Mem.v t2.2 (fun R=>Rf (t2.2.map Mem.v) (ck (decide (t2.1.toNat<t2.2.length))
(∀x8,t2.2[t2.1.toNat]?=some x8 →
(R x8)))) fun x8 =>
(.say (ck (cond (decide (0≤t2.1)) (decide (t2.1<((t2.2.map Mem.v).length:Int))) false)) (.st 262 Mem.v t2.2 (fun y9=>(⟨y9.host,y9.grp,y9.mode,y9.srcs,W (x8.til+(W ((pickI [0,100] (scnT_v1 L p most))-((memsT L 4 t1.2.1).1).now)))⟩:Mem)) (fun R=>Rf (t2.2.map Mem.v) (ck (decide (t2.1.toNat<t2.2.length))
(∀y9,t2.2[t2.1.toNat]?=some y9→Rf (Mem.v (⟨y9.host,y9.grp,y9.mode,y9.srcs,W (x8.til+(W ((pickI [0,100] (scnT_v1 L p most))-((memsT L 4 t1.2.1).1).now)))⟩:Mem))
((R y9))))) fun y9 =>
(.say (ck (cond (decide (0≤t2.1)) (decide (t2.1<(((t2.2.set t2.1.toNat (⟨y9.host,y9.grp,y9.mode,y9.srcs,W (x8.til+(W ((pickI [0,100] (scnT_v1 L p most))-((memsT L 4 t1.2.1).1).now)))⟩:Mem)).map Mem.v).length:Int))) false)) (.el 470 Mem.v (t2.2.set t2.1.toNat (⟨y9.host,y9.grp,y9.mode,y9.srcs,W (x8.til+(W ((pickI [0,100] (scnT_v1 L p most))-((memsT L 4 t1.2.1).1).now)))⟩:Mem)) (fun R=>Rf ((t2.2.set t2.1.toNat (⟨y9.host,y9.grp,y9.mode,y9.srcs,W (x8.til+(W ((pickI [0,100] (scnT_v1 L p most))-((memsT L 4 t1.2.1).1).now)))⟩:Mem)).map Mem.v) (ck (decide (t2.1.toNat<(t2.2.set t2.1.toNat (⟨y9.host,y9.grp,y9.mode,y9.srcs,W (x8.til+(W ((pickI [0,100] (scnT_v1 L p most))-((memsT L 4 t1.2.1).1).now)))⟩:Mem)).length))
(∀x10,(t2.2.set t2.1.toNat (⟨y9.host,y9.grp,y9.mode,y9.srcs,W (x8.til+(W ((pickI [0,100] (scnT_v1 L p most))-((memsT L 4 t1.2.1).1).now)))⟩:Mem))[t2.1.toNat]?=some x10 →
(R x10)))) fun x10 =>
(.say (ck (cond (decide (0≤t2.1)) (decide (t2.1<(((t2.2.set t2.1.toNat (⟨y9.host,y9.grp,y9.mode,y9.srcs,W (x8.til+(W ((pickI [0,100] (scnT_v1 L p most))-((memsT L 4 t1.2.1).1).now)))⟩:Mem)).map Mem.v).length:Int))) false)) (.st 534 Mem.v (t2.2.set t2.1.toNat (⟨y9.host,y9.grp,y9.mode,y9.srcs,W (x8.til+(W ((pickI [0,100] (scnT_v1 L p most))-((memsT L 4 t1.2.1).1).now)))⟩:Mem)) (fun y11=>(⟨W ((W (10 * ((t1.2.2.map Sit.v).length:Int)))+x10.host),y11.grp,y11.mode,y11.srcs,y11.til⟩:Mem)) (fun R=>Rf ((t2.2.set t2.1.toNat (⟨y9.host,y9.grp,y9.mode,y9.srcs,W (x8.til+(W ((pickI [0,100] (scnT_v1 L p most))-((memsT L 4 t1.2.1).1).now)))⟩:Mem)).map Mem.v) (ck (decide (t2.1.toNat<(t2.2.set t2.1.toNat (⟨y9.host,y9.grp,y9.mode,y9.srcs,W (x8.til+(W ((pickI [0,100] (scnT_v1 L p most))-((memsT L 4 t1.2.1).1).now)))⟩:Mem)).length))
(∀y11,(t2.2.set t2.1.toNat (⟨y9.host,y9.grp,y9.mode,y9.srcs,W (x8.til+(W ((pickI [0,100] (scnT_v1 L p most))-((memsT L 4 t1.2.1).1).now)))⟩:Mem))[t2.1.toNat]?=some y11→Rf (Mem.v (⟨W ((W (10 * ((t1.2.2.map Sit.v).length:Int)))+x10.host),y11.grp,y11.mode,y11.srcs,y11.til⟩:Mem))
((R y11))))) fun y11 =>
(.bk 2 b2 (W (t2.1+1),(t2.2.set t2.1.toNat (⟨y9.host,y9.grp,y9.mode,y9.srcs,W (x8.til+(W ((pickI [0,100] (scnT_v1 L p most))-((memsT L 4 t1.2.1).1).now)))⟩:Mem)).set t2.1.toNat (⟨W ((W (10 * ((t1.2.2.map Sit.v).length:Int)))+x10.host),y11.grp,y11.mode,y11.srcs,y11.til⟩:Mem)) [0,1,2,3,4,5])))))))))
(.wait (.say (Rf (t2.2.map Mem.v)) (.cmd (.frzE 5 (t2.2.map Mem.v) (pureBL_map (fun _=>rfl) t2.2)) (.say (fun R=>Rf (α:=List AV) (t1.2.2.map Sit.v) (Rf (α:=List AV) [.agg [.int x6,.int (pickI [0,100] (scnT_v1 L p most)),.sl 5 (t2.2.map Mem.v) false]]
(ck (decide (t1.2.2.length+1≤1048576))
R))) (.app 166 Sit.v t1.2.2 [(⟨x6,pickI [0,100] (scnT_v1 L p most),t2.2⟩:Sit)]
(.bk 1 b1 (W (t1.1+1),(memsT L 4 t1.2.1).2,t1.2.2++[(⟨x6,pickI [0,100] (scnT_v1 L p most),t2.2⟩:Sit)]) [0,1,2,166])))))))))))
(.req 36 (t0.1.length≤1000) fun h12 =>
(.callP (newOR_c t0.1 h12)
(.callH [0] (N_h L t1.2.1 4) 148
(.loop 3 (scnT_n3 L p most t0 t1) (I3 t0 t1) (m3 t0 t1) (Mod (rawV L t1.2.1) 4,((newN t0.1).1).sp,((newN t0.1).1).ls,((newN t0.1).1).fl,rawP L t1.2.1) [0,1,2,3] fun (t3:Int×(List Spk)×(List Lsn)×(List Sig)×Nat) b3 =>
(.br 36 (decide (0<t3.1)) (.br 84 (decide (0<((t0.1.map AV.int).length:Int))) (.req 132 (okAct (⟨t3.2.1,t3.2.2.1,t3.2.2.2.1⟩:Ovl)) fun h13 =>
(.callH [0] (actT_h L t3.2.2.2.2 (⟨t3.2.1,t3.2.2.1,t3.2.2.2.1⟩:Ovl) h13) 132
(.bk 3 b3 (W (t3.1-1),((actT L t3.2.2.2.2 (⟨t3.2.1,t3.2.2.1,t3.2.2.2.1⟩:Ovl)).1).sp,((actT L t3.2.2.2.2 (⟨t3.2.1,t3.2.2.1,t3.2.2.2.1⟩:Ovl)).1).ls,((actT L t3.2.2.2.2 (⟨t3.2.1,t3.2.2.1,t3.2.2.2.1⟩:Ovl)).1).fl,(actT L t3.2.2.2.2 (⟨t3.2.1,t3.2.2.1,t3.2.2.2.1⟩:Ovl)).2) [0,1,2,3])))
(.bk 3 b3 (W (t3.1-1),t3.2.1,t3.2.2.1,t3.2.2.2.1,t3.2.2.2.2) [0,1,2,3]))
(.loop 4 (scnT_n4 L p most t1) (I4 t0 t1 t3) (m4 t0 t1 t3) (0,t3.2.1,t3.2.2.1,t3.2.2.2.1,t3.2.2.2.2) [0,1,2,3] fun (t4:Int×(List Spk)×(List Lsn)×(List Sig)×Nat) b4 =>
(.br 20 (decide (t4.1<((t1.2.2.map Sit.v).length:Int))) (.say (ck (cond (decide (0≤t4.1)) (decide (t4.1<((t1.2.2.map Sit.v).length:Int))) false)) (.el 36 Sit.v t1.2.2 (fun R=>Rf (t1.2.2.map Sit.v) (ck (decide (t4.1.toNat<t1.2.2.length))
(∀x14,t1.2.2[t4.1.toNat]?=some x14 →
(R x14)))) fun x14 =>
(.callP (ofW_c (⟨x14.now,x14.list⟩:Mems))
(.join 5 (scnT_n5 L p most t1 t4 x14) (fun (t5:Bool×Nat)=>I5 t0 t1 t3 t4 x14 t5) (fun b5=>(.br 260 (((ofW (⟨x14.now,x14.list⟩:Mems)).2)==0) (.callH [0] (N_h L t4.2.2.2.2 6) 276
(.bk 5 b5 (decide (0<(Mod (rawV L t4.2.2.2.2) 6)),rawP L t4.2.2.2.2) [0,1,2,3,52]))
(.bk 5 b5 (false,t4.2.2.2.2) [0,1,2,3,52]))) fun (t5:Bool×Nat) =>
(.br 5 t5.1 (.req 85 ((⟨t4.2.1,t4.2.2.1,t4.2.2.2.1⟩:Ovl).fl.length≤1000000) fun h15 =>
(.callP (chgOR_c (⟨t4.2.1,t4.2.2.1,t4.2.2.2.1⟩:Ovl) x14.router ((ofW (⟨x14.now,x14.list⟩:Mems)).1) h15)
(.br 229 (((changeV (⟨t4.2.1,t4.2.2.1,t4.2.2.2.1⟩:Ovl) x14.router ((ofW (⟨x14.now,x14.list⟩:Mems)).1)).2)==0) (.bk 4 b4 (W (t4.1+1),((changeV (⟨t4.2.1,t4.2.2.1,t4.2.2.2.1⟩:Ovl) x14.router ((ofW (⟨x14.now,x14.list⟩:Mems)).1)).1).sp,((changeV (⟨t4.2.1,t4.2.2.1,t4.2.2.2.1⟩:Ovl) x14.router ((ofW (⟨x14.now,x14.list⟩:Mems)).1)).1).ls,((changeV (⟨t4.2.1,t4.2.2.1,t4.2.2.2.1⟩:Ovl) x14.router ((ofW (⟨x14.now,x14.list⟩:Mems)).1)).1).fl,t5.2) [0,1,2,3])
(.bk 4 b4 (W (t4.1+1),t4.2.1,t4.2.2.1,t4.2.2.2.1,t5.2) [0,1,2,3]))))
(.bk 4 b4 (W (t4.1+1),t4.2.1,t4.2.2.1,t4.2.2.2.1,t5.2) [0,1,2,3]))))))
(.callH [0] (N_h L t4.2.2.2.2 4) 36
(.loop 6 (scnT_n6 L p most t1) (I6 t0 t1 t3 t4) (m6 t0 t1 t3 t4) (Mod (rawV L t4.2.2.2.2) 4,t4.2.1,t4.2.2.1,t4.2.2.2.1,rawP L t4.2.2.2.2) [0,1,2,3] fun (t6:Int×(List Spk)×(List Lsn)×(List Sig)×Nat) b6 =>
(.br 36 (decide (0<t6.1)) (.req 148 (0≤((t6.2.2.2.1.map Sig.v).length:Int)∧((t6.2.2.2.1.map Sig.v).length:Int)≤1000000) fun h16 =>
(.callH [0] (fltsT_h L t6.2.2.2.2 ((t6.2.2.2.1.map Sig.v).length:Int) h16) 148
(.req 164 (okRnd (⟨t6.2.1,t6.2.2.1,t6.2.2.2.1⟩:Ovl) ((faultsT L ((t6.2.2.2.1.map Sig.v).length:Int) t6.2.2.2.2).1)) fun h17 =>
(.callP (rndOR_c (⟨t6.2.1,t6.2.2.1,t6.2.2.2.1⟩:Ovl) ((faultsT L ((t6.2.2.2.1.map Sig.v).length:Int) t6.2.2.2.2).1) h17)
(.bk 6 b6 (W (t6.1-1),((roundO (⟨t6.2.1,t6.2.2.1,t6.2.2.2.1⟩:Ovl) ((faultsT L ((t6.2.2.2.1.map Sig.v).length:Int) t6.2.2.2.2).1)).1).sp,((roundO (⟨t6.2.1,t6.2.2.1,t6.2.2.2.1⟩:Ovl) ((faultsT L ((t6.2.2.2.1.map Sig.v).length:Int) t6.2.2.2.2).1)).1).ls,((roundO (⟨t6.2.1,t6.2.2.1,t6.2.2.2.1⟩:Ovl) ((faultsT L ((t6.2.2.2.1.map Sig.v).length:Int) t6.2.2.2.2).1)).1).fl,(faultsT L ((t6.2.2.2.1.map Sig.v).length:Int) t6.2.2.2.2).2) [0,1,2,3])))))
(.say (Rf (t1.2.2.map Sit.v)) (.cmdL (.frzE 3 (t1.2.2.map Sit.v) (pureBL_map (fun _=>rfl) t1.2.2)) (.retH ((⟨L,t6.2.2.2.2⟩:Tap),(⟨((topoT L p most).1).rs,((topoT L p most).1).ls,((scnT_v0 L p most).1).sub,((scnT_v0 L p most).1).len,((scnT_v0 L p most).1).es,t1.2.2,t6.2.1,t6.2.2.1,t6.2.2.2.1⟩:Scn)) ⟨[(4,.k,.ref 1 0)],[.box (.agg [.sl 1 (L.map AV.int) false,.int ((t6.2.2.2.2:Nat):Int)]),.box (.agg [.sl 2 ((((topoT L p most).1).rs).map Rtr.v) false,.sl 5 ((((topoT L p most).1).ls).map Lnk.v) false,.int (((scnT_v0 L p most).1).sub),.int (((scnT_v0 L p most).1).len),.sl 2 ((((scnT_v0 L p most).1).es).map Edg.v) false,.sl 3 (t1.2.2.map Sit.v) false,.sl 5 (t6.2.1.map Spk.v) false,.sl 3 (t6.2.2.1.map Lsn.v) false,.sl 10 (t6.2.2.2.1.map Sig.v) false])]⟩ [0,1]))))))))))))))))))))))))
def scnT_vc(L:(List Int))(p:Nat)(most:Int)(I0:((List Int)×Int)→Prop)(m0:((List Int)×Int)→Nat)(I1:(List Int)×Int→(Int×Nat×(List Sit))→Prop)(m1:(List Int)×Int→(Int×Nat×(List Sit))→Nat)(I2:(List Int)×Int→Int×Nat×(List Sit)→Int→(Int×(List Mem))→Prop)(m2:(List Int)×Int→Int×Nat×(List Sit)→Int→(Int×(List Mem))→Nat)(I3:(List Int)×Int→Int×Nat×(List Sit)→(Int×(List Spk)×(List Lsn)×(List Sig)×Nat)→Prop)(m3:(List Int)×Int→Int×Nat×(List Sit)→(Int×(List Spk)×(List Lsn)×(List Sig)×Nat)→Nat)(I4:(List Int)×Int→Int×Nat×(List Sit)→Int×(List Spk)×(List Lsn)×(List Sig)×Nat→(Int×(List Spk)×(List Lsn)×(List Sig)×Nat)→Prop)(m4:(List Int)×Int→Int×Nat×(List Sit)→Int×(List Spk)×(List Lsn)×(List Sig)×Nat→(Int×(List Spk)×(List Lsn)×(List Sig)×Nat)→Nat)(I5:(List Int)×Int→Int×Nat×(List Sit)→Int×(List Spk)×(List Lsn)×(List Sig)×Nat→Int×(List Spk)×(List Lsn)×(List Sig)×Nat→Sit→(Bool×Nat)→Prop)(I6:(List Int)×Int→Int×Nat×(List Sit)→Int×(List Spk)×(List Lsn)×(List Sig)×Nat→Int×(List Spk)×(List Lsn)×(List Sig)×Nat→(Int×(List Spk)×(List Lsn)×(List Sig)×Nat)→Prop)(m6:(List Int)×Int→Int×Nat×(List Sit)→Int×(List Spk)×(List Lsn)×(List Sig)×Nat→Int×(List Spk)×(List Lsn)×(List Sig)×Nat→(Int×(List Spk)×(List Lsn)×(List Sig)×Nat)→Nat)(r0:Tap×Scn):Prop:=(scnT_x L p most I0 m0 I1 m1 I2 m2 I3 m3 I4 m4 I5 I6 m6).vc scnT_e scnT_b r0
set_option maxHeartbeats 1000000 in
theorem scnT_p(L:List Int)(p:Nat)(most:Int)(h:1≤most∧most≤8)(ok:scnT_a L p most):∃I0 m0 I1 m1 I2 m2 I3 m3 I4 m4 I5 I6 m6,scnT_vc L p most I0 m0 I1 m1 I2 m2 I3 m3 I4 m4 I5 I6 m6 ((⟨L,(scnT L p most).2⟩:Tap),(scnT L p most).1):=by
 refine ⟨fun t=>ForG (scnP L p most).1.es (fun out e=>put out e.router) [] t.2 t.1,fun t=>(scnP L p most).1.es.length-t.2.toNat,
  fun _ t=>∃k:Nat,t.1=k∧k≤(scnR L p most).length∧t.2.2.length=k∧sitsL L (scnN L p most) ((scnR L p most).drop k) t.2.2 t.2.1=scnS L p most,fun _ t=>(scnR L p most).length-t.1.toNat,
  fun _ s _ t=>∃j:Nat,t.1=j∧j≤(memsT L 4 s.2.1).1.list.length∧t.2=((memsT L 4 s.2.1).1.list.take j).map (shM (scnN L p most-(memsT L 4 s.2.1).1.now) (10 * s.2.2.length))++(memsT L 4 s.2.1).1.list.drop j,fun _ s _ t=>(memsT L 4 s.2.1).1.list.length-t.1.toNat,
  fun _ _ t=>∃k:Nat,t.1=k∧k≤3∧LWB (scnR L p most) ⟨t.2.1,t.2.2.1,t.2.2.2.1⟩ (3-k) (14440 * (3-k))∧actsL L (decide (0<(scnR L p most).length)) k (⟨t.2.1,t.2.2.1,t.2.2.2.1⟩,t.2.2.2.2)=scnA L p most,fun _ _ t=>t.1.toNat,
  fun _ _ _ t=>∃k:Nat,t.1=k∧k≤(scnS L p most).1.length∧LWB (scnR L p most) ⟨t.2.1,t.2.2.1,t.2.2.2.1⟩ (3+k) 43320∧chgsL L ((scnS L p most).1.drop k) (⟨t.2.1,t.2.2.1,t.2.2.2.1⟩,t.2.2.2.2)=scnC L p most,fun _ _ _ t=>(scnS L p most).1.length-t.1.toNat,
  fun _ _ _ s x b=>b=if (ofW ⟨x.now,x.list⟩).2=0 then (decide (0<Mod (rawV L s.2.2.2.2) 6),rawP L s.2.2.2.2) else (false,s.2.2.2.2),
  fun _ _ _ _ t=>∃k:Nat,t.1=k∧k≤3∧LWB (scnR L p most) ⟨t.2.1,t.2.2.1,t.2.2.2.1⟩ 11 (43320+14403 * (3-k))∧rndsL L k (⟨t.2.1,t.2.2.1,t.2.2.2.1⟩,t.2.2.2.2)=scnZ L p most,fun _ _ _ _ t=>t.1.toNat,?_⟩
 dsimp only [scnT_vc,scnT_x,scnT_s,scnT_v0,scnT_v1,Ax.vp,Ax.vc];simp only [vcU,rfU,List.length_map]
 obtain ⟨t1,t2,t3⟩:=topoT_rs (L:=L) (p:=p) (most:=most) (by omega)
 have hP:plnT L (topoT L p most).2 (topoT L p most).1=scnP L p most:=rfl
 have hN:pickI [0,100] (rawV L (scnP L p most).2)=scnN L p most:=rfl
 have hp:=scnP_ok (L:=L) (p:=p) h
 have hes:=hp.es
 obtain ⟨hR,hR8⟩:=scnR_ok (L:=L) (p:=p) h
 have hnow:=scnN_ok (L:=L) (p:=p) (most:=most)
 obtain ⟨hS,hSr⟩:=scnS_ok (L:=L) (p:=p) h
 have hS8:=scnS_len (L:=L) (p:=p) h
 rw [hP,hN]
 refine ⟨by omega,by omega,ForG.zero,?_⟩
 rintro ⟨rts,i⟩ h0
 simp only at h0 ⊢
 have hlen:=h0.len (f:=List.length) (a:=0) (b:=1) (by simp) fun s x _=>put_length s x.router
 refine ⟨fun c=>⟨h0.idx,c,fun x hx=>⟨?_,h0.step (by omega) hx rfl⟩⟩,fun c=>?_⟩
 ·have:=lt_of_get hx;omega
 have e:rts=scnR L p most:=h0.done c
 subst e
 clear h0 hlen
 refine ⟨by simp,⟨0,rfl,by omega,rfl,rfl⟩,?_⟩
 rintro ⟨i1,q1,sits⟩ ⟨k1,hi1,hk1,hl1,hr1⟩
 simp only at hi1 hl1 hr1 ⊢
 subst hi1
 simp only [Int.toNat_natCast]
 refine ⟨fun c1=>⟨by omega,by omega,fun r hr=>⟨by omega,⟨0,rfl,by omega,by simp⟩,?_⟩⟩,fun c1=>?_⟩
 ·have hk1':k1<(scnR L p most).length:=by omega
  obtain ⟨m1,m2,m3,m4⟩:=memsT_ok L (n:=4) q1 (by omega)
  rintro ⟨j,ml⟩ ⟨k2,hj,hk2,hml⟩
  simp only at hj hml ⊢
  subst hj
  simp only [Int.toNat_natCast]
  generalize hM:memsT L 4 q1=M at *
  have hmll:ml.length=M.1.list.length:=by rw [hml];simp;omega
  refine ⟨fun c2=>?_,fun c2=>?_⟩
  ·have hk2':k2<M.1.list.length:=by omega
   have hb:(bif decide ((0:Int)≤(k2:Int)) then decide ((k2:Int)<ml.length) else false)=true:=range2 (by omega) (by omega)
   have hg:ml[k2]?=some M.1.list[k2]:=by rw [hml];exact get_upd hk2'
   have hmk:=m2 _ (List.getElem_mem hk2')
   have t1:=hmk.til;have t2:=hmk.host
   generalize hx0:M.1.list[k2]=x0 at *
   refine ⟨hb,by omega,fun x8 e8=>⟨hb,by omega,fun x9 e9=>?_⟩⟩
   rw [hg] at e8 e9;cases e8;cases e9
   refine ⟨range2 (by omega) (by rw [List.length_set];omega),by rw [List.length_set];omega,fun x10 e10=>⟨range2 (by omega) (by rw [List.length_set];omega),by rw [List.length_set];omega,fun x11 e11=>?_⟩⟩
   rw [List.getElem?_set_self (by omega)] at e10 e11;cases e10;cases e11
   have w1:W (scnN L p most-M.1.now)=scnN L p most-M.1.now:=W_eq (by omega)
   have w2:W (x0.til+(scnN L p most-M.1.now))=x0.til+(scnN L p most-M.1.now):=W_eq (by omega)
   have w3:W (10 * (sits.length:Int))=10 * (sits.length:Int):=W_eq (by omega)
   have w4:W (10 * (sits.length:Int)+x0.host)=10 * (sits.length:Int)+x0.host:=W_eq (by omega)
   rw [w1,w2,w3,w4,W_succ (n:=M.1.list.length) hk2' (by omega),List.set_set]
   refine ⟨⟨k2+1,rfl,by omega,?_⟩,by omega⟩
   rw [hml,←set_upd hk2',hx0]
   rfl
  ·have:k2=M.1.list.length:=by omega
   subst this
   rw [List.take_of_length_le (Nat.le_refl _),List.drop_of_length_le (Nat.le_refl _),List.append_nil] at hml
   rw [W_succ (n:=(scnR L p most).length) hk1' (by omega)]
   refine ⟨by omega,⟨k1+1,rfl,by omega,by simp [hl1],?_⟩,by omega⟩
   have hd:=List.drop_eq_getElem_cons hk1'
   have hre:(scnR L p most)[k1]=r:=by rw [List.getElem?_eq_getElem hk1'] at hr;exact Option.some.inj hr
   rw [hd,hre,sitsL,hM] at hr1
   rw [hml];exact hr1
 have:k1=(scnR L p most).length:=by omega
 subst this
 rw [List.drop_of_length_le (Nat.le_refl _),sitsL] at hr1
 have hs1:sits=(scnS L p most).1:=congrArg Prod.fst hr1
 have hs2:q1=(scnS L p most).2:=congrArg Prod.snd hr1
 subst hs1;subst hs2
 clear hr1
 have h4:=Mod_range (x:=rawV L (scnS L p most).2) (n:=4) (by decide)
 have z0:=scn0_ok (L:=L) (p:=p) h
 have hA:scnA L p most=actsL L (decide (0<(scnR L p most).length)) (Mod (rawV L (scnS L p most).2) 4).toNat ((newN (scnR L p most)).1,rawP L (scnS L p most).2):=rfl
 generalize (newN (scnR L p most)).1=o0 at hA z0 ⊢
 refine ⟨by omega,⟨(Mod (rawV L (scnS L p most).2) 4).toNat,by omega,by omega,?_,hA.symm⟩,?_⟩
 ·exact z0.more (by omega) (by omega)
 rintro ⟨c3,sp3,ls3,fl3,q3⟩ ⟨k3,hc3,hk3,hw3,hr3⟩
 simp only at hc3 hw3 hr3 ⊢
 subst hc3
 have hfl3:=hw3.2
 simp only at hfl3
 refine ⟨fun d=>⟨fun e=>⟨⟨?_,by show fl3.length≤300000;omega⟩,?_⟩,fun e=>?_⟩,fun d=>?_⟩
 ·have:=hw3.oi.spl;show 0<sp3.length;simp only at this;omega
 ·rw [W_pred (by omega) (by omega)]
  obtain ⟨k',rfl⟩:∃k',k3=k'+1:=⟨k3-1,by omega⟩
  rw [actsL,decide_eq_true (by omega),if_pos rfl] at hr3
  simp only [Nat.add_sub_cancel]
  refine ⟨⟨k',rfl,by omega,?_,?_⟩,by omega⟩
  ·exact (hw3.act (L:=L) (p:=q3) (by omega)).more (by omega) (by omega)
  ·rw [decide_eq_true (by omega)];exact hr3
 ·rw [W_pred (by omega) (by omega)]
  obtain ⟨k',rfl⟩:∃k',k3=k'+1:=⟨k3-1,by omega⟩
  rw [actsL,decide_eq_false (by omega),if_neg (by simp)] at hr3
  simp only [Nat.add_sub_cancel]
  refine ⟨⟨k',rfl,by omega,hw3.more (by omega) (by omega),?_⟩,by omega⟩
  rw [decide_eq_false (by omega)];exact hr3
 have:k3=0:=by omega
 subst this
 rw [actsL] at hr3
 refine ⟨⟨0,rfl,by omega,?_,?_⟩,?_⟩
 ·exact hw3.more (by omega) (by omega)
 ·rw [List.drop_zero,hr3];rfl
 clear hw3 hr3 hfl3
 rintro ⟨i4,sp4,ls4,fl4,q4⟩ ⟨k4,hi4,hk4,hw4,hr4⟩
 simp only at hi4 hw4 hr4 ⊢
 subst hi4
 simp only [Int.toNat_natCast]
 have hfl4:=hw4.2
 simp only at hfl4
 refine ⟨fun d=>⟨range2 (by omega) d,by omega,fun x hx=>⟨⟨fun e=>?_,fun e=>?_⟩,?_⟩⟩,fun d=>?_⟩
 ·rw [if_pos (eq_of_beq e)]
 ·rw [if_neg (by simpa using e)]
 ·have hk4':=lt_of_get hx
  have hxe:(scnS L p most).1[k4]=x:=by rw [List.getElem?_eq_getElem hk4'] at hx;exact Option.some.inj hx
  have hd:=List.drop_eq_getElem_cons hk4'
  rw [hd,hxe,chgsL] at hr4
  have hw5:=chg1L_ok (L:=L) (s:=(⟨sp4,ls4,fl4⟩,q4)) (hS x (mem_of_get hx)) hw4 (by omega)
  rw [W_succ (n:=(scnS L p most).1.length) hk4' (by omega)]
  have fin:∀{o:Ovl} {q:Nat},chg1L L x (⟨sp4,ls4,fl4⟩,q4)=(o,q)→(∃k:Nat,((k4+1:Nat):Int)=k∧k≤(scnS L p most).1.length∧LWB (scnR L p most) ⟨o.sp,o.ls,o.fl⟩ (3+k) 43320∧chgsL L ((scnS L p most).1.drop k) (⟨o.sp,o.ls,o.fl⟩,q)=scnC L p most) ∧
    (scnS L p most).1.length-(((k4+1:Nat):Int)).toNat<(scnS L p most).1.length-k4:=by
   intro o q e
   rw [e] at hr4 hw5
   exact ⟨⟨k4+1,rfl,by omega,hw5.more (by omega) (by omega),hr4⟩,by omega⟩
  rintro ⟨b5,q5⟩ hb5
  simp only at hb5 ⊢
  by_cases e1:(ofW ⟨x.now,x.list⟩).2=0
  ·rw [if_pos e1] at hb5
   simp only [Prod.mk.injEq] at hb5
   obtain ⟨rfl,rfl⟩:=hb5
   refine ⟨fun e2=>⟨by omega,fun e3=>fin ?_,fun e3=>fin (o:=⟨sp4,ls4,fl4⟩) ?_⟩,fun e2=>fin (o:=⟨sp4,ls4,fl4⟩) ?_⟩
   ·rw [chg1L,if_pos e1,if_pos (of_decide_eq_true e2),orO,if_neg (not_not_intro (eq_of_beq e3))]
   ·rw [chg1L,if_pos e1,if_pos (of_decide_eq_true e2),orO,if_pos (by simpa using e3)]
   ·rw [chg1L,if_pos e1,if_neg (of_decide_eq_false e2)]
  ·rw [if_neg e1] at hb5
   simp only [Prod.mk.injEq] at hb5
   obtain ⟨rfl,rfl⟩:=hb5
   refine ⟨fun e2=>by simp at e2,fun e2=>fin (o:=⟨sp4,ls4,fl4⟩) ?_⟩
   rw [chg1L,if_neg e1]
 have:k4=(scnS L p most).1.length:=by omega
 subst this
 rw [List.drop_of_length_le (Nat.le_refl _),chgsL] at hr4
 have hz:(⟨sp4,ls4,fl4⟩:Ovl)=(scnC L p most).1:=congrArg Prod.fst hr4
 have hq:q4=(scnC L p most).2:=congrArg Prod.snd hr4
 have z5:=scnC_ok (L:=L) (p:=p) h
 rw [←hz] at z5
 have h6:=Mod_range (x:=rawV L q4) (n:=4) (by decide)
 refine ⟨⟨(Mod (rawV L q4) 4).toNat,by omega,by omega,z5.more (by omega) (by omega),?_⟩,?_⟩
 ·rw [hz,hq];rfl
 rintro ⟨c6,sp6,ls6,fl6,q6⟩ ⟨k6,hc6,hk6,hw6,hr6⟩
 simp only at hc6 hw6 hr6 ⊢
 subst hc6
 have hfl6:=hw6.2
 simp only at hfl6
 refine ⟨fun d=>⟨by omega,⟨by show fl6.length≤400000;omega,?_⟩,?_⟩,fun d=>?_⟩
 ·have:=faultsT_len (L:=L) (n:=fl6.length) (p:=q6);omega
 ·rw [W_pred (by omega) (by omega)]
  obtain ⟨k',rfl⟩:∃k',k6=k'+1:=⟨k6-1,by omega⟩
  rw [rndsL] at hr6
  simp only [Nat.add_sub_cancel]
  have hf:=faultsT_len (L:=L) (n:=fl6.length) (p:=q6)
  exact ⟨⟨k',rfl,by omega,((hw6.round _).2).more (by omega) (by omega),hr6⟩,by omega⟩
 ·have:k6=0:=by omega
  subst this
  rw [rndsL] at hr6
  rw [scnT,←hr6]
def scnT_h(L:(List Int))(p:Nat)(most:Int)(h:1≤most∧most≤8):HC Tryz.prog:=⟨8,[.k,.k],[.ref 0 0,.int most],[.box (.agg [.sl 1 (L.map AV.int) false,.int ((p:Nat):Int)])],scnT_e ((⟨L,(scnT L p most).2⟩:Tap),(scnT L p most).1),scnT_b ((⟨L,(scnT L p most).2⟩:Tap),(scnT L p most).1),HSpec.of_okh fun ok ok2=>have ok:scnT_a L p most:=⟨ok,ok2 _ (by simp)⟩;(scnT_p L p most h ok).elim fun I0 h=>h.elim fun m0 h=>h.elim fun I1 h=>h.elim fun m1 h=>h.elim fun I2 h=>h.elim fun m2 h=>h.elim fun I3 h=>h.elim fun m3 h=>h.elim fun I4 h=>h.elim fun m4 h=>h.elim fun I5 h=>h.elim fun I6 h=>h.elim fun m6 h=>mxH_of (sh:=(.a [(.s 2),(.s 5),.k,.k,(.s 2),(.s 3),(.s 5),(.s 3),(.s 10)])) (enc:=scnT_e) (hB:=scnT_b) (a:=(scnT_x L p most I0 m0 I1 m1 I2 m2 I3 m3 I4 m4 I5 I6 m6).an) h (by kernel_rfl),fnB_ok (by kernel_rfl),HcOk.of (by simp [hcB,belBL,AV.belB,allB,okBk,okBkO,scnT_e,scnT_b,pureBL_map (v:=AV.int) (fun _=>rfl)])⟩
def ovlS(s:Scn):Ovl:=⟨s.sp,s.lsn,s.fl⟩
def withO(s:Scn)(o:Ovl):Scn:=⟨s.rs,s.ls,s.sub,s.len,s.es,s.sites,o.sp,o.ls,o.fl⟩
def wntS(x:Sit):List Wnt:=(ofW ⟨x.now,x.list⟩).1
def chgS(o:Ovl)(x:Sit):Ovl:=(changeV o x.router (wntS x)).1
def setlT(s:Scn):Scn:=withO s (rds (s.sites.foldl chgS (ovlS s)) 5)
structure ScnOk (s:Scn):Prop where
  now:∃n,∀x∈s.sites,SitOk n x
  lwb:LWB (s.sites.map Sit.router) (ovlS s) 11 86529
  nd:(s.sites.map Sit.router).Nodup
  len:s.sites.length≤8
def mkScn(T:Tpl)(P:Pln)(S:List Sit)(o:Ovl):Scn:=⟨T.rs,T.ls,P.sub,P.len,P.es,S,o.sp,o.ls,o.fl⟩
theorem mkScn_ok{T:Tpl}{P:Pln}{S:List Sit}{o:Ovl}{n:Int}{R:List Int}(h1:∀x∈S,SitOk n x)(h2:S.map Sit.router=R)(h3:LWB R o 11 86529)(h4:R.Pairwise (·<·))(h5:S.length≤8):ScnOk (mkScn T P S o):=by
 subst h2
 exact ⟨⟨_,h1⟩,h3,h4.imp fun q=>by omega,h5⟩
theorem scnT_facts{L:List Int}{p:Nat}{most:Int}(h:1≤most∧most≤8):ScnOk (scnT L p most).1:=by
 obtain ⟨a,b⟩:=scnS_ok (L:=L) (p:=p) h
 exact mkScn_ok (T:=(topoT L p most).1) (P:=(scnP L p most).1) a b (scnZ_ok (L:=L) (p:=p) h) (scnR_ok (L:=L) (p:=p) h).1.2.2 (scnS_len h)
theorem LWB.chgS{R:List Int}{o:Ovl}{k:Int}{B:Nat}{n:Int}{x:Sit}(h:LWB R o k B)(hx:SitOk n x)(hr:x.router∈R)(hk:0≤k∧k≤1000):LWB R (chgS o x) (k+1) B:=by
 obtain ⟨o1,o2⟩:=ofW_facts hx.err hx.grp
 have hw:WOk 7 (wntS x):=by unfold wntS;rw [o1];exact o2
 refine h.change hw hk ?_
 obtain ⟨⟨lw,h⟩,_⟩:=h
 exact (h.change hr hw hk).1
theorem chgS_lw{R:List Int}{n:Int}:∀{l:List Sit} {o:Ovl} {k:Int} {lw:Int→List Wnt},LW R o k lw→(∀x∈l,SitOk n x∧x.router∈R)→(l.map Sit.router).Nodup→0≤k→k+l.length≤1000 →
  ∃lw',LW R (l.foldl chgS o) (k+l.length) lw'∧(∀x∈l,lw' x.router=wntS x)∧∀r,r ∉ l.map Sit.router→lw' r=lw r
 | [],o,k,lw,h,_,_,_,_=>⟨lw,by simpa using h,by simp,fun _ _=>rfl⟩
 | x::l,o,k,lw,h,hl,hn,h0,h1=>by
  simp only [List.length_cons] at h1 ⊢
  obtain ⟨hx,hr⟩:=hl x (by simp)
  obtain ⟨o1,o2⟩:=ofW_facts hx.err hx.grp
  have hw:WOk 7 (wntS x):=by unfold wntS;rw [o1];exact o2
  rw [List.map_cons,List.nodup_cons] at hn
  obtain ⟨lw',a,b,c⟩:=chgS_lw (l:=l) (h.change hr hw (by omega)).2 (fun y hy=>hl y (by simp [hy])) hn.2 (by omega) (by omega)
  refine ⟨lw',a.more (by omega),fun y hy=>?_,fun r hr'=>?_⟩
  ·rcases List.mem_cons.mp hy with rfl|hy
   ·rw [c _ hn.1];unfold upW;rw [if_pos rfl]
   ·exact b y hy
  ·simp only [List.map_cons,List.mem_cons,not_or] at hr'
   rw [c r hr'.2];unfold upW;rw [if_neg hr'.1]
theorem setl_ok{s:Scn}(h:ScnOk s):OI (s.sites.map Sit.router) (ovlS (setlT s))∧(ovlS (setlT s)).fl.length≤158529∧∀a∈s.sites,∀x∈s.sites,knownV (ovlS (setlT s)) a.router x.router=(wntS x,0):=by
 obtain ⟨n,hn⟩:=h.now
 obtain ⟨lw,h1⟩:=h.lwb.1
 have hm:∀x∈s.sites,x.router∈s.sites.map Sit.router:=fun x hx=>List.mem_map_of_mem hx
 obtain ⟨lw',a,b,c⟩:=chgS_lw (l:=s.sites) h1 (fun x hx=>⟨hn x hx,hm x hx⟩) h.nd (by omega) (by have:=h.len;omega)
 have e:ovlS (setlT s)=rds (s.sites.foldl chgS (ovlS s)) 5:=rfl
 rw [e]
 have r5:=rds_lw a 5
 have q5:=rds_quiet a.oi
 have hb:∀(l:List Sit) (o:Ovl),(∀x∈l,SitOk n x∧x.router∈s.sites.map Sit.router)→∀k:Int,0≤k→k+l.length≤1000→LWB (s.sites.map Sit.router) o k 86529→(l.foldl chgS o).fl.length≤86529:=by
  intro l
  induction l with
  | nil=>intro o _ k _ _ h;exact h.2
  | cons x l ih =>
   intro o hl k h0 h2 h
   simp only [List.length_cons] at h2
   exact ih (chgS o x) (fun y hy=>hl y (by simp [hy])) (k+1) (by omega) (by omega) (h.chgS (hl x (by simp)).1 (hl x (by simp)).2 (by omega))
 have f5:=(rds_ok a.oi 5).2
 have f0:=hb s.sites (ovlS s) (fun x hx=>⟨hn x hx,hm x hx⟩) 11 (by omega) (by have:=h.len;omega) h.lwb
 refine ⟨r5.oi,by omega,fun y hy x hx=>?_⟩
 rw [knownV_agreed r5.oi q5.2.1 (hm x hx) (hm y hy)]
 have:=r5.wa x.router (hm x hx)
 rw [b x hx] at this
 exact congrArg (·,0) this
def setlT_a(s:Scn):Prop:=okL [.agg [.sl 2 (s.rs.map Rtr.v) false,.sl 5 (s.ls.map Lnk.v) false,.int s.sub,.int s.len,.sl 2 (s.es.map Edg.v) false,.sl 3 (s.sites.map Sit.v) false,.sl 5 (s.sp.map Spk.v) false,.sl 3 (s.lsn.map Lsn.v) false,.sl 10 (s.fl.map Sig.v) false]]
def setlT_n0(s:Scn)(t0:Int×Scn):NF:=⟨[(1,.k,.ref 0 0),(2,.k,.ref 1 0),(9,.k,.sl 3 (s.sites.map Sit.v) false),(10,.k,.int ((s.sites.map Sit.v).length:Int)),(11,.k,.int t0.1)],[.box (.agg [.sl 2 (t0.2.rs.map Rtr.v) false,.sl 5 (t0.2.ls.map Lnk.v) false,.int t0.2.sub,.int t0.2.len,.sl 2 (t0.2.es.map Edg.v) false,.sl 3 (t0.2.sites.map Sit.v) false,.sl 5 (t0.2.sp.map Spk.v) false,.sl 3 (t0.2.lsn.map Lsn.v) false,.sl 10 (t0.2.fl.map Sig.v) false]),.box (.agg [.sl 0 [] true,.sl 0 [] true,.int 0,.int 0,.sl 0 [] true,.sl 0 [] true,.sl 0 [] true,.sl 0 [] true,.sl 0 [] true])]⟩
def setlT_n1(t1:Int×Scn):NF:=⟨[(1,.k,.ref 0 0),(2,.k,.ref 1 0),(7,.k,.int t1.1)],[.box (.agg [.sl 2 (t1.2.rs.map Rtr.v) false,.sl 5 (t1.2.ls.map Lnk.v) false,.int t1.2.sub,.int t1.2.len,.sl 2 (t1.2.es.map Edg.v) false,.sl 3 (t1.2.sites.map Sit.v) false,.sl 5 (t1.2.sp.map Spk.v) false,.sl 3 (t1.2.lsn.map Lsn.v) false,.sl 10 (t1.2.fl.map Sig.v) false]),.box (.agg [.sl 0 [] true,.sl 0 [] true,.int 0,.int 0,.sl 0 [] true,.sl 0 [] true,.sl 0 [] true,.sl 0 [] true,.sl 0 [] true])]⟩
@[reducible] def setlT_s:Nat→Type
 | 0=>Int×Scn
 | 1=>Int×Scn
 | _=>Unit
def setlT_e(r:Scn):AV:=Scn.v r
def setlT_x(s:Scn)(I0:(Int×Scn)→Prop)(m0:(Int×Scn)→Nat)(I1:Int×Scn→(Int×Scn)→Prop)(m1:Int×Scn→(Int×Scn)→Nat):Ax Tryz.prog setlT_s (Scn):=
 (.loop 0 (setlT_n0 s) I0 m0 (0,s) [0,16] fun (t0:Int×Scn) b0 =>
(.br 18 (decide (t0.1<((s.sites.map Sit.v).length:Int))) (.el 18 Sit.v s.sites (fun R=>Rf (s.sites.map Sit.v) (ck (decide (0≤t0.1)) (ck (decide (t0.1<(s.sites.length:Int)))
(∀x1,s.sites[t0.1.toNat]?=some x1 →
(R x1))))) fun x1 =>
(.callP (ofW_c (⟨x1.now,x1.list⟩:Mems))
(.req 290 ((⟨t0.2.sp,t0.2.lsn,t0.2.fl⟩:Ovl).fl.length≤1000000) fun h2 =>
(.callP (chgOR_c (⟨t0.2.sp,t0.2.lsn,t0.2.fl⟩:Ovl) x1.router ((ofW (⟨x1.now,x1.list⟩:Mems)).1) h2)
(.bk 0 b0 (W (t0.1+1),(⟨t0.2.rs,t0.2.ls,t0.2.sub,t0.2.len,t0.2.es,t0.2.sites,((changeV (⟨t0.2.sp,t0.2.lsn,t0.2.fl⟩:Ovl) x1.router ((ofW (⟨x1.now,x1.list⟩:Mems)).1)).1).sp,((changeV (⟨t0.2.sp,t0.2.lsn,t0.2.fl⟩:Ovl) x1.router ((ofW (⟨x1.now,x1.list⟩:Mems)).1)).1).ls,((changeV (⟨t0.2.sp,t0.2.lsn,t0.2.fl⟩:Ovl) x1.router ((ofW (⟨x1.now,x1.list⟩:Mems)).1)).1).fl⟩:Scn)) [0,1])))))
(.loop 1 (setlT_n1) (I1 t0) (m1 t0) (0,t0.2) [0,1] fun (t1:Int×Scn) b1 =>
(.br 34 (decide (t1.1<5)) (.req 66 (okRnd (⟨t1.2.sp,t1.2.lsn,t1.2.fl⟩:Ovl) []) fun h3 =>
(.callP (rndOR_c (⟨t1.2.sp,t1.2.lsn,t1.2.fl⟩:Ovl) [] h3)
(.bk 1 b1 (W (t1.1+1),(⟨t1.2.rs,t1.2.ls,t1.2.sub,t1.2.len,t1.2.es,t1.2.sites,((roundO (⟨t1.2.sp,t1.2.lsn,t1.2.fl⟩:Ovl) []).1).sp,((roundO (⟨t1.2.sp,t1.2.lsn,t1.2.fl⟩:Ovl) []).1).ls,((roundO (⟨t1.2.sp,t1.2.lsn,t1.2.fl⟩:Ovl) []).1).fl⟩:Scn)) [0,1])))
(.ret (t1.2))))))
def setlT_vc(s:Scn)(I0:(Int×Scn)→Prop)(m0:(Int×Scn)→Nat)(I1:Int×Scn→(Int×Scn)→Prop)(m1:Int×Scn→(Int×Scn)→Nat)(r0:Scn):Prop:=(setlT_x s I0 m0 I1 m1).vp setlT_e r0
theorem setlT_p(s:Scn)(h:ScnOk s)(ok:setlT_a s):∃I0 m0 I1 m1,setlT_vc s I0 m0 I1 m1 (setlT s):=by
 refine ⟨fun t=>∃k:Nat,t.1=k∧k≤s.sites.length∧t.2=withO s ((s.sites.take k).foldl chgS (ovlS s))∧LWB (s.sites.map Sit.router) ((s.sites.take k).foldl chgS (ovlS s)) (11+k) 86529,fun t=>s.sites.length-t.1.toNat,
  fun _ t=>∃k:Nat,t.1=k∧k≤5∧t.2=withO s (rds (s.sites.foldl chgS (ovlS s)) k),fun _ t=>5-t.1.toNat,?_⟩
 dsimp only [setlT_vc,setlT_x,setlT_s,Ax.vp,Ax.vc];simp only [vcU,rfU,List.length_map]
 obtain ⟨n,hn⟩:=h.now
 have hlen:=h.len
 refine ⟨⟨0,rfl,by omega,rfl,h.lwb.more (by omega) (by omega)⟩,?_⟩
 rintro ⟨i,z⟩ ⟨k,hi,hk,rfl,hw⟩
 simp only at hi ⊢
 subst hi
 simp only [Int.toNat_natCast]
 have hfl:=hw.2
 refine ⟨fun c=>⟨by omega,c,fun x hx=>⟨by show ((s.sites.take k).foldl chgS (ovlS s)).fl.length≤1000000;omega,?_⟩⟩,fun c=>?_⟩
 ·have hk':=lt_of_get hx
  rw [W_succ (n:=s.sites.length) hk' (by omega)]
  have e:(s.sites.take (k+1)).foldl chgS (ovlS s)=chgS ((s.sites.take k).foldl chgS (ovlS s)) x:=by rw [take_succ hx,List.foldl_append];rfl
  refine ⟨⟨k+1,rfl,by omega,?_,?_⟩,by omega⟩
  ·rw [e];rfl
  ·rw [e]
   exact (hw.chgS (hn x (mem_of_get hx)) (List.mem_map_of_mem (mem_of_get hx)) (by omega)).more (by omega) (by omega)
 have:k=s.sites.length:=by omega
 subst this
 rw [List.take_of_length_le (Nat.le_refl _)] at hw hfl ⊢
 refine ⟨⟨0,rfl,by omega,rfl⟩,?_⟩
 rintro ⟨j,z⟩ ⟨k2,hj,hk2,rfl⟩
 simp only at hj ⊢
 subst hj
 simp only [Int.toNat_natCast]
 obtain ⟨o1,o2⟩:=rds_ok hw.oi k2
 refine ⟨fun c=>⟨⟨?_,by simp⟩,?_⟩,fun c=>?_⟩
 ·show (rds (s.sites.foldl chgS (ovlS s)) k2).fl.length≤400000
  have:k2 * 14400≤5 * 14400:=Nat.mul_le_mul_right _ hk2
  omega
 ·rw [W_succ (n:=5) (by omega) (by omega)]
  refine ⟨⟨k2+1,rfl,by omega,?_⟩,by omega⟩
  have e:roundO (rds (s.sites.foldl chgS (ovlS s)) k2) []=(rds (s.sites.foldl chgS (ovlS s)) (k2+1),0):=o1.roundO_nil
  show withO s (roundO (rds (s.sites.foldl chgS (ovlS s)) k2) []).1=_
  rw [e]
 ·have:k2=5:=by omega
  subst this
  rfl
def setlT_c(s:Scn)(h:ScnOk s):PC Tryz.prog:=⟨7,[(.a [(.s 2),(.s 5),.k,.k,(.s 2),(.s 3),(.s 5),(.s 3),(.s 10)])],[.agg [.sl 2 (s.rs.map Rtr.v) false,.sl 5 (s.ls.map Lnk.v) false,.int s.sub,.int s.len,.sl 2 (s.es.map Edg.v) false,.sl 3 (s.sites.map Sit.v) false,.sl 5 (s.sp.map Spk.v) false,.sl 3 (s.lsn.map Lsn.v) false,.sl 10 (s.fl.map Sig.v) false]],setlT_e (setlT s),PSpec.of_ok fun ok=>(setlT_p s h ok).elim fun I0 h=>h.elim fun m0 h=>h.elim fun I1 h=>h.elim fun m1 h=>mxP_of (sh:=(.a [(.s 2),(.s 5),.k,.k,(.s 2),(.s 3),(.s 5),(.s 3),(.s 10)])) (enc:=setlT_e) (a:=(setlT_x s I0 m0 I1 m1).an) h (by kernel_rfl) (AV.pureB_ok rfl),fnB_ok (by kernel_rfl)⟩
def valFl(f:Flw):Bool:=decide (1≤f.src∧f.src≤99) && decide (1≤f.grp∧f.grp≤99)
def valFl_a(f:Flw):Prop:=okL [.agg [.int f.src,.int f.grp]]
def valFl_e(r:Bool):AV:=.bool r
def valFl_x(f:Flw):Ax Tryz.prog noS (Bool):=
 (.br 96 (decide (1≤f.src)) (.br 176 (decide (f.src≤99)) (.br 256 (decide (1≤f.grp)) (.ret (decide (f.grp≤99)))
(.ret (false)))
(.ret (false)))
(.ret (false)))
def valFl_vc(f:Flw)(r0:Bool):Prop:=(valFl_x f).vp valFl_e r0
theorem valFl_p(f:Flw)(ok:valFl_a f):valFl_vc f (valFl f):=by
 dsimp only [valFl_vc,valFl_x,noS,Ax.vp,Ax.vc];simp only [vcU,rfU,List.length_map]
 refine ⟨fun a=>⟨fun b=>⟨fun c=>?_,fun c=>?_⟩,fun b=>?_⟩,fun a=>?_⟩<;>simp [valFl, *]
def valFl_c(f:Flw):PC Tryz.prog:=⟨52,[.k],[.agg [.int f.src,.int f.grp]],valFl_e (valFl f),PSpec.of_ok fun ok=>mxP_of (sh:=.k) (enc:=valFl_e) (a:=(valFl_x f).an) (valFl_p f ok) (by kernel_rfl) (AV.pureB_ok rfl),fnB_ok (by kernel_rfl)⟩
def inP(n a b:Int):Bool:=decide (a≤n) && decide (n≤b)
def inP_a(n:Int)(least:Int)(most:Int):Prop:=okL [.int n,.int least,.int most]
def inP_e(r:Bool):AV:=.bool r
def inP_x(n:Int)(least:Int)(most:Int):Ax Tryz.prog noS (Bool):=
 (.br 80 (decide (least≤n)) (.ret (decide (n≤most)))
(.ret (false)))
def inP_vc(n:Int)(least:Int)(most:Int)(r0:Bool):Prop:=(inP_x n least most).vp inP_e r0
theorem inP_p(n a b:Int)(ok:inP_a n a b):inP_vc n a b (inP n a b):=by
 dsimp only [inP_vc,inP_x,noS,Ax.vp,Ax.vc];simp only [vcU,rfU,List.length_map]
 refine ⟨fun c=>?_,fun c=>?_⟩<;>simp [inP,c]
def inP_c(n:Int)(least:Int)(most:Int):PC Tryz.prog:=⟨92,[.k,.k,.k],[.int n,.int least,.int most],inP_e (inP n least most),PSpec.of_ok fun ok=>mxP_of (sh:=.k) (enc:=inP_e) (a:=(inP_x n least most).an) (inP_p n least most ok) (by kernel_rfl) (AV.pureB_ok rfl),fnB_ok (by kernel_rfl)⟩
theorem inP_t{n a b:Int}:(!inP n a b)=true↔¬(a≤n∧n≤b):=by
 unfold inP
 by_cases h1:a≤n<;>by_cases h2:n≤b<;>simp [h1,h2]
theorem inP_f{n a b:Int}:(!inP n a b)=false↔a≤n∧n≤b:=by
 unfold inP
 by_cases h1:a≤n<;>by_cases h2:n≤b<;>simp [h1,h2]
def vlenP(n:Int):Bool:=decide (n=8∨n=16∨n=32∨n=64)
def vlenP_a(n:Int):Prop:=okL [.int n]
def vlenP_e(r:Bool):AV:=.bool r
def vlenP_x(n:Int):Ax Tryz.prog noS (Bool):=
 (.br 64 (n==8) (.ret (true))
(.br 128 (n==16) (.ret (true))
(.br 192 (n==32) (.ret (true))
(.ret (n==64)))))
def vlenP_vc(n:Int)(r0:Bool):Prop:=(vlenP_x n).vp vlenP_e r0
theorem vlenP_p(n:Int)(ok:vlenP_a n):vlenP_vc n (vlenP n):=by
 dsimp only [vlenP_vc,vlenP_x,noS,Ax.vp,Ax.vc];simp only [vcU,rfU,List.length_map]
 refine ⟨fun c=>?_,fun c=>⟨fun d=>?_,fun d=>⟨fun e=>?_,fun e=>?_⟩⟩⟩
 ·rw [vlenP,decide_eq_true (.inl (eq_of_beq c))]
 ·rw [vlenP,decide_eq_true (.inr (.inl (eq_of_beq d)))]
 ·rw [vlenP,decide_eq_true (.inr (.inr (.inl (eq_of_beq e))))]
 ·have c:¬n=8:=by simpa using c
  have d:¬n=16:=by simpa using d
  have e:¬n=32:=by simpa using e
  rw [vlenP,Bool.eq_iff_iff,beq_iff_eq,decide_eq_true_eq]
  simp [c,d,e]
def vlenP_c(n:Int):PC Tryz.prog:=⟨93,[.k],[.int n],vlenP_e (vlenP n),PSpec.of_ok fun ok=>mxP_of (sh:=.k) (enc:=vlenP_e) (a:=(vlenP_x n).an) (vlenP_p n ok) (by kernel_rfl) (AV.pureB_ok rfl),fnB_ok (by kernel_rfl)⟩
def eqRt(y x:Edg):Bool:=y.router==x.router
def eqRt_a(y:Edg)(x:Edg):Prop:=okL [.agg [.int y.router,.int y.id],.rptr (.agg [.int x.router,.int x.id]) 0]
def eqRt_e(r:Bool):AV:=.bool r
def eqRt_x(y:Edg)(x:Edg):Ax Tryz.prog noS (Bool):=
 (.ret (y.router==x.router))
def eqRt_vc(y:Edg)(x:Edg)(r0:Bool):Prop:=(eqRt_x y x).vp eqRt_e r0
theorem eqRt_p(y x:Edg)(ok:eqRt_a y x):eqRt_vc y x (eqRt y x):=by
 dsimp only [eqRt_vc,eqRt_x,noS,Ax.vp,Ax.vc];simp only [vcU,rfU,List.length_map]
 rfl
def eqRt_c(y:Edg)(x:Edg):PC Tryz.prog:=⟨95,[.k,.k],[.agg [.int y.router,.int y.id],.rptr (.agg [.int x.router,.int x.id]) 0],eqRt_e (eqRt y x),PSpec.of_ok fun ok=>mxP_of (sh:=.k) (enc:=eqRt_e) (a:=(eqRt_x y x).an) (eqRt_p y x ok) (by kernel_rfl) (AV.pureB_ok rfl),fnB_ok (by kernel_rfl)⟩
def eqRtI_a(s:(List Edg))(f:Edg):Prop:=okL [.sl 2 (s.map Edg.v) false,.func 95 [.rptr (.agg [.int f.router,.int f.id]) 0]]
def eqRtI_n0(s:(List Edg))(f:Edg)(t0:Int):NF:=⟨[(0,.k,.sl 2 (s.map Edg.v) false),(1,.k,.func 95 [.rptr (.agg [.int f.router,.int f.id]) 0]),(7,.k,.int ((s.map Edg.v).length:Int)),(8,.k,.int t0)],[]⟩
@[reducible] def eqRtI_s:Nat→Type
 | 0=>Int
 | _=>Unit
def eqRtI_e(r:Int):AV:=.int r
def eqRtI_x(s:(List Edg))(f:Edg)(I0:Int→Prop)(m0:Int→Nat):Ax Tryz.prog eqRtI_s (Int):=
 (.loop 0 (eqRtI_n0 s f) I0 m0 ((0):Int) [] fun (t0:Int) b0 =>
(.br 16 (decide (t0<((s.map Edg.v).length:Int))) (.el 96 Edg.v s (fun R=>Rf (s.map Edg.v) (ck (decide (0≤t0)) (ck (decide (t0<(s.length:Int)))
(∀x1,s[t0.toNat]?=some x1 →
(R x1))))) fun x1 =>
(.callP (eqRt_c x1 f)
(.br 144 (eqRt x1 f) (.ret (t0))
(.bk 0 b0 ((W (t0+1)):Int) []))))
(.ret (-1))))
def eqRtI_vc(s:(List Edg))(f:Edg)(I0:Int→Prop)(m0:Int→Nat)(r0:Int):Prop:=(eqRtI_x s f I0 m0).vp eqRtI_e r0
theorem eqRtI_p(s:List Edg)(f:Edg)(ok:eqRtI_a s f):∃I m,eqRtI_vc s f I m (idxF (fun y=>eqRt y f) s):=by
 refine ⟨fun t=>ForI s (fun y=>eqRt y f=false) t,fun t=>s.length-t.toNat,?_⟩
 simp only [eqRtI_a,okU,Blk.ok,plainV,List.length_map] at ok
 dsimp only [eqRtI_vc,eqRtI_x,eqRtI_s,Ax.vp,Ax.vc];simp only [vcU,rfU,List.length_map]
 exact ⟨ForI.zero,fun t h=>⟨fun c=>⟨h.idx,c,fun x hx=>⟨fun q=>h.found hx q,fun q=>h.step (by omega) hx q⟩⟩,fun c=>h.lost c⟩⟩
def eqRtI_c(s:(List Edg))(f:Edg):PC Tryz.prog:=⟨129,[(.s 2),.k],[.sl 2 (s.map Edg.v) false,.func 95 [.rptr (.agg [.int f.router,.int f.id]) 0]],eqRtI_e (idxF (fun y=>eqRt y f) s),PSpec.of_ok fun ok=>(eqRtI_p s f ok).elim fun I0 h=>h.elim fun m0 h=>mxP_of (sh:=.k) (enc:=eqRtI_e) (a:=(eqRtI_x s f I0 m0).an) h (by kernel_rfl) (AV.pureB_ok rfl),fnB_ok (by kernel_rfl)⟩
def eqRtA_a(s:(List Edg))(f:Edg):Prop:=okL [.sl 2 (s.map Edg.v) false,.func 95 [.rptr (.agg [.int f.router,.int f.id]) 0]]
def eqRtA_e(r:Bool):AV:=.bool r
def eqRtA_x(s:(List Edg))(f:Edg):Ax Tryz.prog noS (Bool):=
 (.callP (eqRtI_c s f)
(.ret (decide (0≤(idxF (fun y=>eqRt y f) s)))))
def eqRtA_vc(s:(List Edg))(f:Edg)(r0:Bool):Prop:=(eqRtA_x s f).vp eqRtA_e r0
theorem eqRtA_p(s:List Edg)(f:Edg)(ok:eqRtA_a s f):eqRtA_vc s f (s.any fun y=>eqRt y f):=by
 dsimp only [eqRtA_vc,eqRtA_x,noS,Ax.vp,Ax.vc];simp only [vcU,rfU,List.length_map]
 exact idxF_any _ _
def eqRtA_c(s:(List Edg))(f:Edg):PC Tryz.prog:=⟨94,[(.s 2),.k],[.sl 2 (s.map Edg.v) false,.func 95 [.rptr (.agg [.int f.router,.int f.id]) 0]],eqRtA_e (s.any fun y=>eqRt y f),PSpec.of_ok fun ok=>mxP_of (sh:=.k) (enc:=eqRtA_e) (a:=(eqRtA_x s f).an) (eqRtA_p s f ok) (by kernel_rfl) (AV.pureB_ok rfl),fnB_ok (by kernel_rfl)⟩
def edgR(e:Edg):Prop:=(1≤e.id∧e.id≤256)∧1≤e.router∧e.router≤99
instance (e:Edg):Decidable (edgR e):=by unfold edgR;infer_instance
def plnH(p:Pln):Prop:=(0≤p.sub∧p.sub≤7)∧(vlenP p.len=true∨p.len=0∧p.es=[])∧p.es.length≤24
instance (p:Pln):Decidable (plnH p):=by unfold plnH;infer_instance
def plnE(es:List Edg):Prop:=(∀e∈es,edgR e)∧(es.map Edg.router).Nodup∧(es.map Edg.id).Pairwise (·<·)
instance (es:List Edg):Decidable (plnE es):=by unfold plnE;infer_instance
def plnOkB(p:Pln):Bool:=decide (plnH p) && decide (plnE p.es)
def edgG(es:List Edg)(j:Nat)(e:Edg):Prop:=edgR e∧((es.take j).any fun y=>eqRt y e)=false∧∀e',0<j→es[j-1]?=some e'→e'.id<e.id
theorem plnE_iff{es:List Edg}:plnE es↔∀j e,es[j]?=some e→edgG es j e:=by
 constructor
 ·rintro ⟨h1,h2,h3⟩ j e he
  have hj:=lt_of_get he
  rw [List.getElem?_eq_getElem hj] at he
  have he:=Option.some.inj he
  rw [List.nodup_iff_pairwise_ne,List.pairwise_map,List.pairwise_iff_getElem] at h2
  rw [List.pairwise_map,List.pairwise_iff_getElem] at h3
  refine ⟨h1 e (he ▸ List.getElem_mem hj),?_,fun e' h0 he'=>?_⟩
  ·rw [List.any_eq_false]
   intro y hy
   obtain ⟨i,hi,rfl⟩:=List.getElem_of_mem hy
   have hi':i<j:=by simp at hi;omega
   rw [List.getElem_take]
   have:=h2 i j (by omega) hj hi'
   rw [he] at this
   simpa [eqRt] using this
  ·rw [List.getElem?_eq_getElem (by omega)] at he'
   have:=h3 (j-1) j (by omega) hj (by omega)
   rw [he,Option.some.inj he'] at this
   exact this
 ·intro h
  refine ⟨fun e he=>?_,?_,?_⟩
  ·obtain ⟨j,hj⟩:=List.getElem?_of_mem he
   exact (h j e hj).1
  ·rw [List.nodup_iff_pairwise_ne,List.pairwise_map,List.pairwise_iff_getElem]
   intro i j hi hj hij
   have:=(h j _ (List.getElem?_eq_getElem hj)).2.1
   rw [List.any_eq_false] at this
   have:=this es[i] (List.mem_take_iff_getElem.mpr ⟨i,by omega,rfl⟩)
   simpa [eqRt] using this
  ·rw [List.pairwise_map]
   refine ForA.done (l:=es) (R:=fun a b=>a.id<b.id) (t:=((es.length+1:Nat):Int)) ⟨es.length+1,rfl,by omega,by omega,fun j x y hj hx hy=>?_⟩ (by omega) fun x y z q r=>Int.lt_trans q r
   exact (h (j+1) y hy).2.2 x (by omega) (by simpa using hx)
def vplnP_a(p:Pln):Prop:=okL [.agg [.int p.sub,.int p.len,.sl 2 (p.es.map Edg.v) false]]
def vplnP_n0(p:Pln)(t0:Bool):NF:=⟨[(1,.k,.ref 0 0),(32,.k,.bool t0)],[.box (.agg [.int p.sub,.int p.len,.sl 2 (p.es.map Edg.v) false])]⟩
def vplnP_n1(p:Pln)(t1:Int):NF:=⟨[(1,.k,.ref 0 0),(34,.k,.sl 2 (p.es.map Edg.v) false),(35,.k,.int ((p.es.map Edg.v).length:Int)),(36,.k,.int t1)],[.box (.agg [.int p.sub,.int p.len,.sl 2 (p.es.map Edg.v) false])]⟩
def vplnP_n2(p:Pln)(t1:Int)(t2:Bool):NF:=⟨[(1,.k,.ref 0 0),(34,.k,.sl 2 (p.es.map Edg.v) false),(35,.k,.int ((p.es.map Edg.v).length:Int)),(36,.k,.int t1),(75,.k,.bool t2)],[.box (.agg [.int p.sub,.int p.len,.sl 2 (p.es.map Edg.v) false])]⟩
@[reducible] def vplnP_s:Nat→Type
 | 0=>Bool
 | 1=>Int
 | 2=>Bool
 | _=>Unit
def vplnP_e(r:Bool):AV:=.bool r
def vplnP_x(p:Pln)(I0:Bool→Prop)(I1:Bool→Int→Prop)(m1:Bool→Int→Nat)(I2:Bool→Int→Edg→Bool→Prop):Ax Tryz.prog vplnP_s (Bool):=
 (.pass (.pass (.join 0 (vplnP_n0 p) (fun (t0:Bool)=>I0 t0) (fun b0=>(.callP (inP_c p.sub 0 7)
(.br 112 (!(inP p.sub 0 7)) (.bk 0 b0 ((true):Bool) [0])
(.callP (vlenP_c p.len)
(.br 192 (!(vlenP p.len)) (.br 256 (p.len != 0) (.bk 0 b0 ((true):Bool) [0])
(.br 384 (decide (0<((p.es.map Edg.v).length:Int))) (.bk 0 b0 ((true):Bool) [0])
(.bk 0 b0 ((decide (24<((p.es.map Edg.v).length:Int))):Bool) [0])))
(.bk 0 b0 ((decide (24<((p.es.map Edg.v).length:Int))):Bool) [0])))))) fun (t0:Bool) =>
(.br 1 t0 (.ret (false))
(.loop 1 (vplnP_n1 p) (I1 t0) (m1 t0) ((0):Int) [0] fun (t1:Int) b1 =>
(.br 17 (decide (t1<((p.es.map Edg.v).length:Int))) (.el 33 Edg.v p.es (fun R=>Rf (p.es.map Edg.v) (ck (decide (0≤t1)) (ck (decide (t1<(p.es.length:Int)))
(∀x1,p.es[t1.toNat]?=some x1 →
(R x1))))) fun x1 =>
(.say (fun R=>Rf (α:=List AV) (p.es.map Edg.v) (ck (bndB p.es.length 0 t1 (p.es.length:Int))
R)) (.sub 161 Edg.v p.es false
(.callP (eqRtA_c ((p.es.take t1.toNat).drop 0) x1)
(.say (ck (pureBLs [[.agg [.int x1.router,.int x1.id]]])) (.join 2 (vplnP_n2 p t1) (fun (t2:Bool)=>I2 t0 t1 x1 t2) (fun b2=>(.callP (inP_c x1.id 1 256)
(.br 305 (!(inP x1.id 1 256)) (.bk 2 b2 ((true):Bool) [0])
(.callP (inP_c x1.router 1 99)
(.br 401 (!(inP x1.router 1 99)) (.bk 2 b2 ((true):Bool) [0])
(.br 449 ((((p.es.take t1.toNat).drop 0)).any fun y=>eqRt y x1) (.bk 2 b2 ((true):Bool) [0])
(.br 497 (decide (0<t1)) (.el 561 Edg.v p.es (fun R=>Rf (p.es.map Edg.v) (ck (decide (0≤(W (t1-1)))) (ck (decide ((W (t1-1))<(p.es.length:Int)))
(∀x2,p.es[(W (t1-1)).toNat]?=some x2 →
(R x2))))) fun x2 =>
(.bk 2 b2 ((decide (x1.id≤x2.id)):Bool) [0]))
(.bk 2 b2 ((false):Bool) [0])))))))) fun (t2:Bool) =>
(.br 1 t2 (.ret (false))
(.bk 1 b1 ((W (t1+1)):Int) [0]))))))))
(.ret (true))))))))
def vplnP_vc(p:Pln)(I0:Bool→Prop)(I1:Bool→Int→Prop)(m1:Bool→Int→Nat)(I2:Bool→Int→Edg→Bool→Prop)(r0:Bool):Prop:=(vplnP_x p I0 I1 m1 I2).vp vplnP_e r0
theorem vplnP_p(p:Pln)(ok:vplnP_a p):∃I0 I1 m1 I2,vplnP_vc p I0 I1 m1 I2 (plnOkB p):=by
 refine ⟨fun b=>b=decide (¬plnH p),fun _ t=>∃k:Nat,t=k∧k≤p.es.length∧∀j e,j<k→p.es[j]?=some e→edgG p.es j e,fun _ t=>p.es.length-t.toNat,fun _ t x b=>b=true↔¬edgG p.es t.toNat x,?_⟩
 simp only [vplnP_a,okU,Blk.ok,plainV,List.length_map] at ok
 dsimp only [vplnP_vc,vplnP_x,vplnP_s,Ax.vp,Ax.vc];simp only [vcU,rfU,List.length_map]
 have hes:p.es=[]↔¬0<(p.es.length:Int):=by rw [←List.length_eq_zero_iff];omega
 refine ⟨⟨fun c=>?_,fun c=>⟨fun d=>⟨fun e=>?_,fun e=>⟨fun g=>?_,fun g=>?_⟩⟩,fun d=>?_⟩⟩,?_⟩
 ·have c:¬(0≤p.sub∧p.sub≤7):=inP_t.mp c
  exact (decide_eq_true (show ¬plnH p from fun q=>c q.1)).symm
 ·have d:vlenP p.len=false:=by simpa using d
  have e:p.len≠0:=by simpa using e
  exact (decide_eq_true (show ¬plnH p from fun q=>by
   rcases q.2.1 with r|r
   ·rw [d] at r;cases r
   ·exact e r.1)).symm
 ·have d:vlenP p.len=false:=by simpa using d
  exact (decide_eq_true (show ¬plnH p from fun q=>by
   rcases q.2.1 with r|r
   ·rw [d] at r;cases r
   ·exact hes.mp r.2 g)).symm
 ·have c:0≤p.sub∧p.sub≤7:=inP_f.mp c
  have e:p.len=0:=by simpa using e
  rw [decide_eq_decide]
  unfold plnH
  rw [and_iff_right c,and_iff_right (.inr ⟨e,hes.mpr g⟩)]
  omega
 ·have c:0≤p.sub∧p.sub≤7:=inP_f.mp c
  have d:vlenP p.len=true:=by simpa using d
  rw [decide_eq_decide]
  unfold plnH
  rw [and_iff_right c,and_iff_right (.inl d)]
  omega
 rintro _ rfl
 refine ⟨fun c=>?_,fun c=>⟨⟨0,rfl,by omega,fun j e h=>by omega⟩,?_⟩⟩
 ·rw [plnOkB,decide_eq_false (of_decide_eq_true c)];rfl
 have c:=Classical.not_not.mp (of_decide_eq_false c)
 have hl:=c.2.2
 rintro _ ⟨k,rfl,hk,h⟩
 simp only [Int.toNat_natCast]
 refine ⟨fun d=>⟨by omega,d,fun x hx=>⟨by simp [bndB];omega,rfl,?_,?_⟩⟩,fun d=>?_⟩
 ·rw [List.drop_zero]
  refine ⟨fun e1=>?_,fun e1=>⟨fun e2=>?_,fun e2=>⟨fun e3=>?_,fun e3=>⟨fun e4=>?_,fun e4=>?_⟩⟩⟩⟩
  ·have e1:¬(1≤x.id∧x.id≤256):=inP_t.mp e1
   exact iff_of_true trivial fun q=>e1 q.1.1
  ·have e2:¬(1≤x.router∧x.router≤99):=inP_t.mp e2
   exact iff_of_true trivial fun q=>e2 q.1.2
  ·exact iff_of_true trivial fun q=>by rw [q.2.1] at e3;cases e3
  ·have e1:1≤x.id∧x.id≤256:=inP_f.mp e1
   have e2:1≤x.router∧x.router≤99:=inP_f.mp e2
   rw [W_pred (by omega) (by omega)]
   refine ⟨by omega,by omega,fun y hy=>?_⟩
   rw [Int.toNat_natCast] at hy
   constructor
   ·exact fun q r=>by have:=r.2.2 y (by omega) hy;omega
   ·intro q
    refine Classical.byContradiction fun r=>q ⟨⟨e1,e2⟩,e3,fun y' _ hy'=>?_⟩
    rw [hy] at hy';cases hy';omega
  ·have e1:1≤x.id∧x.id≤256:=inP_f.mp e1
   have e2:1≤x.router∧x.router≤99:=inP_f.mp e2
   exact iff_of_false Bool.false_ne_true fun q=>q ⟨⟨e1,e2⟩,e3,fun y' h0 _=>by omega⟩
 ·intro b hb
  refine ⟨fun e=>?_,fun e=>?_⟩
  ·have:¬plnE p.es:=fun q=>hb.mp e (plnE_iff.mp q k x hx)
   rw [plnOkB,decide_eq_false this,Bool.and_false]
  ·have hg:edgG p.es k x:=Classical.not_not.mp fun q=>by rw [hb.mpr q] at e;cases e
   rw [W_succ (n:=p.es.length) (by omega) (by omega)]
   refine ⟨⟨k+1,rfl,by omega,fun j y hj hy=>?_⟩,by omega⟩
   by_cases e':j=k
   ·subst e';rw [hx] at hy;cases hy;exact hg
   ·exact h j y (by omega) hy
 ·have:plnE p.es:=plnE_iff.mpr fun j e he=>h j e (by have:=lt_of_get he;omega) he
  rw [plnOkB,decide_eq_true c,decide_eq_true this];rfl
def vplnP_c(p:Pln):PC Tryz.prog:=⟨51,[(.a [.k,.k,(.s 2)])],[.agg [.int p.sub,.int p.len,.sl 2 (p.es.map Edg.v) false]],vplnP_e (plnOkB p),PSpec.of_ok fun ok=>(vplnP_p p ok).elim fun I0 h=>h.elim fun I1 h=>h.elim fun m1 h=>h.elim fun I2 h=>mxP_of (sh:=.k) (enc:=vplnP_e) (a:=(vplnP_x p I0 I1 m1 I2).an) h (by kernel_rfl) (AV.pureB_ok rfl),fnB_ok (by kernel_rfl)⟩
def fwnt(f:Flt)(s:Int):Bool:=decide (s∈f.srcs)==decide (f.mode=1)
def fwnt_a(f:Flt)(source:Int):Prop:=okL [.agg [.int f.mode,.sl 1 (f.srcs.map AV.int) false],.int source]
def fwnt_e(r:Bool):AV:=.bool r
def fwnt_x(f:Flt)(source:Int):Ax Tryz.prog noS (Bool):=
 (.callP (contI_c f.srcs source)
(.ret ((decide (source∈f.srcs))==(f.mode==1))))
def fwnt_vc(f:Flt)(source:Int)(r0:Bool):Prop:=(fwnt_x f source).vp fwnt_e r0
theorem fwnt_p(f:Flt)(s:Int)(ok:fwnt_a f s):fwnt_vc f s (fwnt f s):=by
 dsimp only [fwnt_vc,fwnt_x,noS,Ax.vp,Ax.vc];simp only [vcU,rfU,List.length_map]
 rfl
def fwnt_c(f:Flt)(source:Int):PC Tryz.prog:=⟨142,[(.a [.k,(.s 1)]),.k],[.agg [.int f.mode,.sl 1 (f.srcs.map AV.int) false],.int source],fwnt_e (fwnt f source),PSpec.of_ok fun ok=>mxP_of (sh:=.k) (enc:=fwnt_e) (a:=(fwnt_x f source).an) (fwnt_p f source ok) (by kernel_rfl) (AV.pureB_ok rfl),fnB_ok (by kernel_rfl)⟩
abbrev fwntP:=wntF
def fwntP_a(f:Flt)(source:Int):Prop:=okL [.agg [.int f.mode,.sl 1 (f.srcs.map AV.int) false],.int source]
def fwntP_e(r:Bool):AV:=.bool r
def fwntP_x(f:Flt)(source:Int):Ax Tryz.prog noS (Bool):=
 (.callP (PVal_c f)
(.br 96 ((fltErr f.mode f.srcs)==0) (.br 160 (decide (0<source)) (.callP (fwnt_c f source)
(.ret (fwnt f source)))
(.ret (false)))
(.ret (false))))
def fwntP_vc(f:Flt)(source:Int)(r0:Bool):Prop:=(fwntP_x f source).vp fwntP_e r0
theorem fwntP_p(f:Flt)(s:Int)(ok:fwntP_a f s):fwntP_vc f s (fwntP f s):=by
 dsimp only [fwntP_vc,fwntP_x,noS,Ax.vp,Ax.vc];simp only [vcU,rfU,List.length_map]
 refine ⟨fun c=>?_,fun c=>?_⟩
 ·have c:fltErr f.mode f.srcs=0:=eq_of_beq c
  refine ⟨fun d=>?_,fun d=>?_⟩
  ·rw [fwntP,wntF,decide_eq_true c,decide_eq_true (show 1≤s by omega)];rfl
  ·rw [fwntP,wntF,decide_eq_false (show ¬1≤s by omega)];simp
 ·rw [fwntP,wntF,decide_eq_false (by simpa using c)];rfl
def fwntP_c(f:Flt)(source:Int):PC Tryz.prog:=⟨102,[(.a [.k,(.s 1)]),.k],[.agg [.int f.mode,.sl 1 (f.srcs.map AV.int) false],.int source],fwntP_e (fwntP f source),PSpec.of_ok fun ok=>mxP_of (sh:=.k) (enc:=fwntP_e) (a:=(fwntP_x f source).an) (fwntP_p f source ok) (by kernel_rfl) (AV.pureB_ok rfl),fnB_ok (by kernel_rfl)⟩
def wntC(w:Wnt)(f:Flw):Bool:=w.grp==f.grp && wntF ⟨w.mode,w.srcs⟩ f.src
def wntC_a(w:Wnt)(f:Flw):Prop:=okL [.agg [.int w.grp,.int w.mode,.sl 1 (w.srcs.map AV.int) false],.rptr (.agg [.int f.src,.int f.grp]) 0]
def wntC_e(r:Bool):AV:=.bool r
def wntC_x(w:Wnt)(f:Flw):Ax Tryz.prog noS (Bool):=
 (.br 128 (w.grp==f.grp) (.callP (fwntP_c (⟨w.mode,w.srcs⟩:Flt) f.src)
(.ret (wntF (⟨w.mode,w.srcs⟩:Flt) f.src)))
(.ret (false)))
def wntC_vc(w:Wnt)(f:Flw)(r0:Bool):Prop:=(wntC_x w f).vp wntC_e r0
theorem wntC_p(w:Wnt)(f:Flw)(ok:wntC_a w f):wntC_vc w f (wntC w f):=by
 dsimp only [wntC_vc,wntC_x,noS,Ax.vp,Ax.vc];simp only [vcU,rfU,List.length_map]
 refine ⟨fun c=>?_,fun c=>?_⟩<;>rw [wntC,c]<;>rfl
def wntC_c(w:Wnt)(f:Flw):PC Tryz.prog:=⟨101,[(.a [.k,.k,(.s 1)]),.k],[.agg [.int w.grp,.int w.mode,.sl 1 (w.srcs.map AV.int) false],.rptr (.agg [.int f.src,.int f.grp]) 0],wntC_e (wntC w f),PSpec.of_ok fun ok=>mxP_of (sh:=.k) (enc:=wntC_e) (a:=(wntC_x w f).an) (wntC_p w f ok) (by kernel_rfl) (AV.pureB_ok rfl),fnB_ok (by kernel_rfl)⟩
def wntCI_a(s:(List Wnt))(f:Flw):Prop:=okL [.sl 3 (s.map Wnt.v) false,.func 101 [.rptr (.agg [.int f.src,.int f.grp]) 0]]
def wntCI_n0(s:(List Wnt))(f:Flw)(t0:Int):NF:=⟨[(0,.k,.sl 3 (s.map Wnt.v) false),(1,.k,.func 101 [.rptr (.agg [.int f.src,.int f.grp]) 0]),(7,.k,.int ((s.map Wnt.v).length:Int)),(8,.k,.int t0)],[]⟩
@[reducible] def wntCI_s:Nat→Type
 | 0=>Int
 | _=>Unit
def wntCI_e(r:Int):AV:=.int r
def wntCI_x(s:(List Wnt))(f:Flw)(I0:Int→Prop)(m0:Int→Nat):Ax Tryz.prog wntCI_s (Int):=
 (.loop 0 (wntCI_n0 s f) I0 m0 ((0):Int) [] fun (t0:Int) b0 =>
(.br 16 (decide (t0<((s.map Wnt.v).length:Int))) (.el 96 Wnt.v s (fun R=>Rf (s.map Wnt.v) (ck (decide (0≤t0)) (ck (decide (t0<(s.length:Int)))
(∀x1,s[t0.toNat]?=some x1 →
(R x1))))) fun x1 =>
(.callP (wntC_c x1 f)
(.br 144 (wntC x1 f) (.ret (t0))
(.bk 0 b0 ((W (t0+1)):Int) []))))
(.ret (-1))))
def wntCI_vc(s:(List Wnt))(f:Flw)(I0:Int→Prop)(m0:Int→Nat)(r0:Int):Prop:=(wntCI_x s f I0 m0).vp wntCI_e r0
theorem wntCI_p(s:List Wnt)(f:Flw)(ok:wntCI_a s f):∃I m,wntCI_vc s f I m (idxF (fun y=>wntC y f) s):=by
 refine ⟨fun t=>ForI s (fun y=>wntC y f=false) t,fun t=>s.length-t.toNat,?_⟩
 simp only [wntCI_a,okU,Blk.ok,plainV,List.length_map] at ok
 dsimp only [wntCI_vc,wntCI_x,wntCI_s,Ax.vp,Ax.vc];simp only [vcU,rfU,List.length_map]
 exact ⟨ForI.zero,fun t h=>⟨fun c=>⟨h.idx,c,fun x hx=>⟨fun q=>h.found hx q,fun q=>h.step (by omega) hx q⟩⟩,fun c=>h.lost c⟩⟩
def wntCI_c(s:(List Wnt))(f:Flw):PC Tryz.prog:=⟨140,[(.s 3),.k],[.sl 3 (s.map Wnt.v) false,.func 101 [.rptr (.agg [.int f.src,.int f.grp]) 0]],wntCI_e (idxF (fun y=>wntC y f) s),PSpec.of_ok fun ok=>(wntCI_p s f ok).elim fun I0 h=>h.elim fun m0 h=>mxP_of (sh:=.k) (enc:=wntCI_e) (a:=(wntCI_x s f I0 m0).an) h (by kernel_rfl) (AV.pureB_ok rfl),fnB_ok (by kernel_rfl)⟩
def wntCA_a(s:(List Wnt))(f:Flw):Prop:=okL [.sl 3 (s.map Wnt.v) false,.func 101 [.rptr (.agg [.int f.src,.int f.grp]) 0]]
def wntCA_e(r:Bool):AV:=.bool r
def wntCA_x(s:(List Wnt))(f:Flw):Ax Tryz.prog noS (Bool):=
 (.callP (wntCI_c s f)
(.ret (decide (0≤(idxF (fun y=>wntC y f) s)))))
def wntCA_vc(s:(List Wnt))(f:Flw)(r0:Bool):Prop:=(wntCA_x s f).vp wntCA_e r0
theorem wntCA_p(s:List Wnt)(f:Flw)(ok:wntCA_a s f):wntCA_vc s f (s.any fun y=>wntC y f):=by
 dsimp only [wntCA_vc,wntCA_x,noS,Ax.vp,Ax.vc];simp only [vcU,rfU,List.length_map]
 exact idxF_any _ _
def wntCA_c(s:(List Wnt))(f:Flw):PC Tryz.prog:=⟨100,[(.s 3),.k],[.sl 3 (s.map Wnt.v) false,.func 101 [.rptr (.agg [.int f.src,.int f.grp]) 0]],wntCA_e (s.any fun y=>wntC y f),PSpec.of_ok fun ok=>mxP_of (sh:=.k) (enc:=wntCA_e) (a:=(wntCA_x s f).an) (wntCA_p s f ok) (by kernel_rfl) (AV.pureB_ok rfl),fnB_ok (by kernel_rfl)⟩
theorem any_find{l:List Wnt}{f:Flw}(h:wErr false l=0):(l.any fun y=>wntC y f)=wntF (findW l f.grp) f.src:=by
 have hp:=(wErr_zero.mp h).2.2.2.2
 clear h
 induction l with
 | nil=>rw [findW];exact (Bool.eq_false_iff.mpr fun h=>wnt_not h ⟨rfl,rfl⟩).symm
 | cons w l ih =>
  rw [List.pairwise_cons] at hp
  rw [List.any_cons,findW_cons]
  by_cases e:w.grp=f.grp
  ·rw [if_pos e]
   have:(l.any fun y=>wntC y f)=false:=by
    rw [List.any_eq_false]
    intro y hy hc
    have:=hp.1 y hy
    have hc:y.grp=f.grp:=by
     unfold wntC at hc
     rw [Bool.and_eq_true] at hc
     exact eq_of_beq hc.1
    omega
   rw [this,Bool.or_false,wntC,beq_iff_eq.mpr e,Bool.true_and]
  ·rw [if_neg e,←ih hp.2]
   have:wntC w f=false:=by rw [wntC,beq_eq_false_iff_ne.mpr e];rfl
   rw [this,Bool.false_or]
abbrev wntI:=wntW
def wntI_a(l:(List Wnt))(f:Flw):Prop:=okL [.sl 3 (l.map Wnt.v) false,.agg [.int f.src,.int f.grp]]
def wntI_e(r:Bool):AV:=.bool r
def wntI_x(l:(List Wnt))(f:Flw):Ax Tryz.prog noS (Bool):=
 (.callP (valW_c l)
(.br 96 ((wErr false l)==0) (.callP (wntCA_c l f)
(.say (ck (pureBLs [[.agg [.int f.src,.int f.grp]]])) (.ret ((l).any fun y=>wntC y f))))
(.ret (false))))
def wntI_vc(l:(List Wnt))(f:Flw)(r0:Bool):Prop:=(wntI_x l f).vp wntI_e r0
theorem wntI_p(l:List Wnt)(f:Flw)(ok:wntI_a l f):wntI_vc l f (wntI l f):=by
 dsimp only [wntI_vc,wntI_x,noS,Ax.vp,Ax.vc];simp only [vcU,rfU,List.length_map]
 refine ⟨fun c=>⟨rfl,?_⟩,fun c=>?_⟩
 ·have c:wErr false l=0:=eq_of_beq c
  rw [any_find c,wntI,wntW,decide_eq_true c];rfl
 ·rw [wntI,wntW,decide_eq_false (by simpa using c)];rfl
def wntI_c(l:(List Wnt))(f:Flw):PC Tryz.prog:=⟨54,[(.s 3),.k],[.sl 3 (l.map Wnt.v) false,.agg [.int f.src,.int f.grp]],wntI_e (wntW l f),PSpec.of_ok fun ok=>mxP_of (sh:=.k) (enc:=wntI_e) (a:=(wntI_x l f).an) (wntI_p l f ok) (by kernel_rfl) (AV.pureB_ok rfl),fnB_ok (by kernel_rfl)⟩
def rcv1(o:Ovl)(at_:Int)(f:Flw)(x:Edg):List Int:=
 if x.router=at_ then [] else if (knownV o at_ x.router).2=0∧wntW (knownV o at_ x.router).1 f=true then [x.id] else []
def rcvT(o:Ovl)(p:Pln)(at_:Int)(f:Flw):List Int×Int:=
 if valO o≠0 then ([],valO o) else if plnOkB p=false then ([],1) else if valFl f=false then ([],2) else if (knownV o at_ at_).2≠0 then ([],(knownV o at_ at_).2)
 else (p.es.flatMap (rcv1 o at_ f),0)
def rcvF_a(o:Ovl)(p:Pln)(at_:Int)(f:Flw):Prop:=okL [.agg [.sl 5 (o.sp.map Spk.v) false,.sl 3 (o.ls.map Lsn.v) false,.sl 10 (o.fl.map Sig.v) false],.agg [.int p.sub,.int p.len,.sl 2 (p.es.map Edg.v) false],.int at_,.agg [.int f.src,.int f.grp]]
def rcvF_n0(o:Ovl)(p:Pln)(at_:Int)(f:Flw)(t0:Int×(List Int)):NF:=⟨[(2,.k,.int at_),(4,.k,.ref 0 0),(7,.k,.ref 1 0),(13,.k,.vec 2),(40,.k,.sl 2 (p.es.map Edg.v) false),(41,.k,.int ((p.es.map Edg.v).length:Int)),(42,.k,.int t0.1)],[.box (.agg [.sl 5 (o.sp.map Spk.v) false,.sl 3 (o.ls.map Lsn.v) false,.sl 10 (o.fl.map Sig.v) false]),.box (.agg [.int f.src,.int f.grp]),.vec 1 (t0.2.map AV.int) (pureBL_map (fun _=>rfl) t0.2)]⟩
def rcvF_n1(o:Ovl)(p:Pln)(at_:Int)(f:Flw)(t0:Int×(List Int))(x1:Edg)(t1:Bool):NF:=⟨[(2,.k,.int at_),(4,.k,.ref 0 0),(7,.k,.ref 1 0),(13,.k,.vec 2),(15,.k,.ref 3 0),(40,.k,.sl 2 (p.es.map Edg.v) false),(41,.k,.int ((p.es.map Edg.v).length:Int)),(42,.k,.int t0.1),(64,.k,.bool t1)],[.box (.agg [.sl 5 (o.sp.map Spk.v) false,.sl 3 (o.ls.map Lsn.v) false,.sl 10 (o.fl.map Sig.v) false]),.box (.agg [.int f.src,.int f.grp]),.vec 1 (t0.2.map AV.int) (pureBL_map (fun _=>rfl) t0.2),.box (.agg [.int x1.router,.int x1.id])]⟩
@[reducible] def rcvF_s:Nat→Type
 | 0=>Int×(List Int)
 | 1=>Bool
 | _=>Unit
def rcvF_e(r:(List Int)×Int):AV:=.tup [.sl 1 (r.1.map AV.int) false,.int r.2]
def rcvF_x(o:Ovl)(p:Pln)(at_:Int)(f:Flw)(I0:(Int×(List Int))→Prop)(m0:(Int×(List Int))→Nat)(I1:Int×(List Int)→Edg→Bool→Prop):Ax Tryz.prog rcvF_s ((List Int)×Int):=
 (.callP (valO_c o)
(.br 160 ((valO o) != 0) (.ret ([],valO o))
(.callP (vplnP_c p)
(.br 208 (!(plnOkB p)) (.ret ([],1))
(.callP (valFl_c f)
(.br 256 (!(valFl f)) (.ret ([],2))
(.callP (knwOv_c o at_ at_)
(.br 432 (((knownV o at_ at_).2) != 0) (.ret ([],(knownV o at_ at_).2))
(.cmdL (.nilT 13 1) (.loop 0 (rcvF_n0 o p at_ f) I0 m0 (0,[]) [0,32,512] fun (t0:Int×(List Int)) b0 =>
(.br 19 (decide (t0.1<((p.es.map Edg.v).length:Int))) (.el 19 Edg.v p.es (fun R=>Rf (p.es.map Edg.v) (ck (decide (0≤t0.1)) (ck (decide (t0.1<(p.es.length:Int)))
(∀x1,p.es[t0.1.toNat]?=some x1 →
(R x1))))) fun x1 =>
(.br 147 (x1.router==at_) (.bk 0 b0 (W (t0.1+1),t0.2) [0,1,2])
(.callP (knwOv_c o at_ x1.router)
(.join 1 (rcvF_n1 o p at_ f t0 x1) (fun (t1:Bool)=>I1 t0 x1 t1) (fun b1=>(.br 355 (((knownV o at_ x1.router).2)==0) (.callP (wntI_c ((knownV o at_ x1.router).1) f)
(.bk 1 b1 ((wntW ((knownV o at_ x1.router).1) f):Bool) [0,1,2,51]))
(.bk 1 b1 ((false):Bool) [0,1,2,51]))) fun (t1:Bool) =>
(.br 4 t1 (.say (fun R=>Rf (α:=List AV) (t0.2.map AV.int) (Rf (α:=List AV) [.int x1.id]
(ck (decide (t0.2.length+1≤1048576))
R))) (.app 68 AV.int t0.2 [x1.id]
(.bk 0 b0 (W (t0.1+1),t0.2++[x1.id]) [0,1,68])))
(.bk 0 b0 (W (t0.1+1),t0.2) [0,1,2]))))))
(.say (Rf (t0.2.map AV.int)) (.cmdL (.frzE 2 (t0.2.map AV.int) (pureBL_map (fun _=>rfl) t0.2)) (.ret (t0.2,0)))))))))))))))
def rcvF_vc(o:Ovl)(p:Pln)(at_:Int)(f:Flw)(I0:(Int×(List Int))→Prop)(m0:(Int×(List Int))→Nat)(I1:Int×(List Int)→Edg→Bool→Prop)(r0:(List Int)×Int):Prop:=(rcvF_x o p at_ f I0 m0 I1).vp rcvF_e r0
theorem rcvF_p(o:Ovl)(p:Pln)(at_:Int)(f:Flw)(ok:rcvF_a o p at_ f):∃I0 m0 I1,rcvF_vc o p at_ f I0 m0 I1 (rcvT o p at_ f):=by
  refine ⟨fun t=>ForX p.es (rcv1 o at_ f) t.1 t.2,fun t=>p.es.length-t.1.toNat,fun _ x b=>b=decide ((knownV o at_ x.router).2=0∧wntW (knownV o at_ x.router).1 f=true),?_⟩
  dsimp only [rcvF_vc,rcvF_x,rcvF_s,Ax.vp,Ax.vc];simp only [vcU,rfU,List.length_map]
  refine ⟨fun c=>?_,fun c=>⟨fun d=>?_,fun d=>⟨fun e=>?_,fun e=>⟨fun g=>?_,fun g=>⟨ForX.zero,?_⟩⟩⟩⟩⟩
  · rw [rcvT,if_pos (by simpa using c)]
  · rw [rcvT,if_neg (by simpa using c),if_pos (by simpa using d)]
  · rw [rcvT,if_neg (by simpa using c),if_neg (by simpa using d),if_pos (by simpa using e)]
  · rw [rcvT,if_neg (by simpa using c),if_neg (by simpa using d),if_neg (by simpa using e),if_pos (by simpa using g)]
  have d':plnOkB p=true:=by simpa using d
  have hl:p.es.length≤24:=by
    unfold plnOkB at d'
    rw [Bool.and_eq_true,decide_eq_true_eq] at d'
    exact d'.1.2.2
  rintro ⟨i,out⟩ h
  simp only at h ⊢
  have hlen := h.len (b := 1) fun x _ => by unfold rcv1; repeat' split
                                            all_goals simp
  refine ⟨fun q=>⟨h.idx,q,fun x hx=>⟨fun r=>h.step (by omega) hx ?_,fun r=>⟨⟨fun s=>?_,fun s=>?_⟩,?_⟩⟩⟩,fun q=>?_⟩
  · rw [rcv1,if_pos (eq_of_beq r)];simp
  · have s:=eq_of_beq s
    simp [s]
  · have s:¬(knownV o at_ x.router).2=0:=by simpa using s
    simp [s]
  · have r:¬x.router=at_:=by simpa using r
    rintro _ rfl
    refine ⟨fun s=>⟨by omega,h.step (by omega) hx ?_⟩,fun s=>h.step (by omega) hx ?_⟩
    · rw [rcv1,if_neg r,if_pos (of_decide_eq_true s)]
    · rw [rcv1,if_neg r,if_neg (of_decide_eq_false s)];simp
  · rw [rcvT,if_neg (by simpa using c),if_neg (by simpa using d),if_neg (by simpa using e),if_neg (by simpa using g),←h.done q]
def rcvF_c(o:Ovl)(p:Pln)(at_:Int)(f:Flw):PC Tryz.prog:=⟨14,[(.a [(.s 5),(.s 3),(.s 10)]),(.a [.k,.k,(.s 2)]),.k,.k],[.agg [.sl 5 (o.sp.map Spk.v) false,.sl 3 (o.ls.map Lsn.v) false,.sl 10 (o.fl.map Sig.v) false],.agg [.int p.sub,.int p.len,.sl 2 (p.es.map Edg.v) false],.int at_,.agg [.int f.src,.int f.grp]],rcvF_e (rcvT o p at_ f),PSpec.of_ok fun ok=>(rcvF_p o p at_ f ok).elim fun I0 h=>h.elim fun m0 h=>h.elim fun I1 h=>mxP_of (sh:=(.a [(.s 1),.k])) (enc:=rcvF_e) (a:=(rcvF_x o p at_ f I0 m0 I1).an) h (by kernel_rfl) (AV.pureB_ok rfl),fnB_ok (by kernel_rfl)⟩
def u8B(n:Int):UInt8:=UInt8.ofNat (IntKind.u8.wrap n).toNat
def wrpT(f:Flw)(d:ByteArray):ByteArray×Int:=
 if valFl f=false then (B [],2) else if 62<d.size then (B [],3) else (B [u8B f.src,u8B f.grp]++d,0)
def wrpF_a(f:Flw)(data:ByteArray):Prop:=okL [.agg [.int f.src,.int f.grp],.str data]
def wrpF_e(r:ByteArray×Int):AV:=.tup [.str r.1,.int r.2]
def wrpF_x(f:Flw)(data:ByteArray):Ax Tryz.prog noS (ByteArray×Int):=
 (.callP (valFl_c f)
(.br 96 (!(valFl f)) (.ret (B [],2))
(.br 304 (decide (64<(W (2+(data.size:Int))))) (.ret (B [],3))
(.say (ck (decide ((B [UInt8.ofNat ((IntKind.u8.wrap f.src)).toNat,UInt8.ofNat ((IntKind.u8.wrap f.grp)).toNat]).size+data.size≤maxLen))) (.ret ((B [UInt8.ofNat ((IntKind.u8.wrap f.src)).toNat,UInt8.ofNat ((IntKind.u8.wrap f.grp)).toNat])++data,0))))))
def wrpF_vc(f:Flw)(data:ByteArray)(r0:ByteArray×Int):Prop:=(wrpF_x f data).vp wrpF_e r0
theorem wrpF_p(f:Flw)(d:ByteArray)(h:d.size≤1000000)(ok:wrpF_a f d):wrpF_vc f d (wrpT f d):=by
 dsimp only [wrpF_vc,wrpF_x,noS,Ax.vp,Ax.vc];simp only [vcU,rfU,List.length_map]
 have w:W (2+(d.size:Int))=2+(d.size:Int):=W_eq (by omega)
 have hB:(B [UInt8.ofNat (IntKind.u8.wrap f.src).toNat,UInt8.ofNat (IntKind.u8.wrap f.grp).toNat]).size=2:=rfl
 rw [w,hB]
 refine ⟨fun c=>?_,fun c=>⟨fun e=>?_,fun e=>⟨by rw [maxLen_eq];omega,?_⟩⟩⟩
 ·rw [wrpT,if_pos (by simpa using c)]
 ·rw [wrpT,if_neg (by simpa using c),if_pos (by omega)]
 ·rw [wrpT,if_neg (by simpa using c),if_neg (by omega)];rfl
def wrpF_c(f:Flw)(data:ByteArray)(h:data.size≤1000000):PC Tryz.prog:=⟨22,[.k,.k],[.agg [.int f.src,.int f.grp],.str data],wrpF_e (wrpT f data),PSpec.of_ok fun ok=>mxP_of (sh:=.k) (enc:=wrpF_e) (a:=(wrpF_x f data).an) (wrpF_p f data h ok) (by kernel_rfl) (AV.pureB_ok rfl),fnB_ok (by kernel_rfl)⟩
def unwH(p:ByteArray):Flw:=⟨((p.data.getD 0 0).toNat:Int),((p.data.getD 1 0).toNat:Int)⟩
def unwT(p:ByteArray):Flw×ByteArray×Int:=
 if p.size<2 then (⟨0,0⟩,B [],20) else if valFl (unwH p)=false then (⟨0,0⟩,B [],2) else (unwH p,p.extract 2 p.size,0)
theorem W_u8(b:UInt8):W ((b.toNat:Nat):Int)=(b.toNat:Nat):=W_eq (by have:=b.toNat_lt;omega)
def unwF_a(payload:ByteArray):Prop:=okL [.str payload]
def unwF_e(r:Flw×ByteArray×Int):AV:=.tup [Flw.v r.1,.str r.2.1,.int r.2.2]
def unwF_x(payload:ByteArray):Ax Tryz.prog noS (Flw×ByteArray×Int):=
 (.br 96 (decide ((payload.size:Int)<2)) (.ret ((⟨0,0⟩:Flw),B [],20))
(.say (fun R=>ck (decide (0<(payload.size:Int)))
((ck (decide (1<(payload.size:Int)))
R))) (.callP (valFl_c (⟨W ((payload.data.getD 0 0).toNat:Int),W ((payload.data.getD 1 0).toNat:Int)⟩:Flw))
(.br 288 (!(valFl (⟨W ((payload.data.getD 0 0).toNat:Int),W ((payload.data.getD 1 0).toNat:Int)⟩:Flw))) (.ret ((⟨0,0⟩:Flw),B [],2))
(.say (ck (cond (decide (2≤(payload.size:Int))) (decide ((payload.size:Int)≤(payload.size:Int))) false)) (.ret ((⟨W ((payload.data.getD 0 0).toNat:Int),W ((payload.data.getD 1 0).toNat:Int)⟩:Flw),payload.extract 2 ((payload.size:Int).toNat),0)))))))
def unwF_vc(payload:ByteArray)(r0:Flw×ByteArray×Int):Prop:=(unwF_x payload).vp unwF_e r0
theorem unwF_p(p:ByteArray)(ok:unwF_a p):unwF_vc p (unwT p):=by
 dsimp only [unwF_vc,unwF_x,noS,Ax.vp,Ax.vc];simp only [vcU,rfU,List.length_map]
 rw [W_u8,W_u8]
 refine ⟨fun c=>?_,fun c=>⟨by omega,by omega,fun d=>?_,fun d=>⟨?_,?_⟩⟩⟩
 ·rw [unwT,if_pos (by omega)]
 ·rw [Bool.not_eq_true'] at d
  have d:valFl (unwH p)=false:=d
  rw [unwT,if_neg (by omega),if_pos d]
 ·rw [decide_eq_true (by omega),decide_eq_true (Int.le_refl _)];rfl
 ·rw [Bool.not_eq_false'] at d
  have d:¬valFl (unwH p)=false:=fun e=>Bool.false_ne_true (e.symm.trans d)
  rw [unwT,if_neg (by omega),if_neg d,Int.toNat_natCast];rfl
def unwF_c(payload:ByteArray):PC Tryz.prog:=⟨24,[.k],[.str payload],unwF_e (unwT payload),PSpec.of_ok fun ok=>mxP_of (sh:=.k) (enc:=unwF_e) (a:=(unwF_x payload).an) (unwF_p payload ok) (by kernel_rfl) (AV.pureB_ok rfl),fnB_ok (by kernel_rfl)⟩
def awk28_a:Prop:=okL []
def awk28_e(r:Bool):AV:=.bool r
def awk28_x:Ax Tryz.prog noS (Bool):=
 (.req 32 ((B [120]).size≤1000000) fun h1 =>
(.callP (wrpF_c (⟨1,4⟩:Flw) (B [120]) h1)
(.callP (unwF_c ((wrpT (⟨1,4⟩:Flw) (B [120])).1))
(.br 336 (((wrpT (⟨1,4⟩:Flw) (B [120])).2)==0) (.br 400 (((unwT ((wrpT (⟨1,4⟩:Flw) (B [120])).1)).2.2)==0) (.br 464 (((wrpT (⟨1,4⟩:Flw) (B [120])).1).toList==(B [1,4,120]).toList) (.br 544 ((((unwT ((wrpT (⟨1,4⟩:Flw) (B [120])).1)).1).src==1) && ((((unwT ((wrpT (⟨1,4⟩:Flw) (B [120])).1)).1).grp==4) && true)) (.ret (((unwT ((wrpT (⟨1,4⟩:Flw) (B [120])).1)).2.1).toList==(B [120]).toList))
(.ret (false)))
(.ret (false)))
(.ret (false)))
(.ret (false))))))
def awk28_vc(r0:Bool):Prop:=(awk28_x).vp awk28_e r0
theorem awk28_p(ok:awk28_a):awk28_vc true:=by
 dsimp only [awk28_vc,awk28_x,noS,Ax.vp,Ax.vc];simp only [vcU,rfU,List.length_map]
 exact ⟨by decide,by decide +kernel⟩
def awk28_c:PC Tryz.prog:=⟨9,[],[],awk28_e true,PSpec.of_ok fun ok=>mxP_of (sh:=.k) (enc:=awk28_e) (a:=(awk28_x).an) (awk28_p ok) (by kernel_rfl) (AV.pureB_ok rfl),fnB_ok (by kernel_rfl)⟩
theorem scn_es{L:List Int}{p:Nat}{most:Int}(h:1≤most∧most≤8):(∀e∈(scnT L p most).1.es,∃y∈(scnT L p most).1.sites,y.router=e.router)∧plnOkB ⟨(scnT L p most).1.sub,(scnT L p most).1.len,(scnT L p most).1.es⟩=true:=by
 have hp:=scnP_ok (L:=L) (p:=p) h
 obtain ⟨t1,t2,t3⟩:=topoT_rs (L:=L) (p:=p) (most:=most) (by omega)
 refine ⟨fun e he=>?_,?_⟩
 ·have he:e∈(scnP L p most).1.es:=he
  have h1:e.router∈scnR L p most:=((rtsP_ok (scnP L p most).1.es).2.1 e.router).mpr ⟨e,he,rfl⟩
  rw [←(scnS_ok (L:=L) (p:=p) h).2] at h1
  obtain ⟨y,hy,q⟩:=List.mem_map.mp h1
  exact ⟨y,hy,q⟩
 ·have hs:=hp.sub;have hl:=hp.len;have he:=hp.es
  have h1:plnH (scnP L p most).1:=by
   refine ⟨by omega,?_,by omega⟩
   rcases hl with q|q|q|q|q
   ·exact .inl (by rw [q];decide)
   ·exact .inl (by rw [q];decide)
   ·exact .inl (by rw [q];decide)
   ·exact .inl (by rw [q];decide)
   ·exact .inr q
  have h2:plnE (scnP L p most).1.es:=⟨fun e he=>by
   have:=hp.ids e he
   obtain ⟨r,hr,q⟩:=hp.at_ e he
   have:=t3 r hr
   refine ⟨?_,?_⟩<;>omega,hp.nd,hp.asc⟩
  show plnOkB (scnP L p most).1=true
  rw [plnOkB,decide_eq_true h1,decide_eq_true h2];rfl
theorem flatMap_key{α β:Type}{key:α→Int}{g:α→List β}:∀{l:List α} {y:α},(l.map key).Nodup→y∈l→(∀x∈l,key x≠key y→g x=[])→l.flatMap g=g y
 | x::l,y,hn,hy,h=>by
  rw [List.map_cons,List.nodup_cons] at hn
  rw [List.flatMap_cons]
  rcases List.mem_cons.mp hy with rfl|hy
  ·have:l.flatMap g=[]:=by
    rw [List.flatMap_eq_nil_iff]
    exact fun z hz=>h z (by simp [hz]) fun e=>hn.1 (e ▸ List.mem_map_of_mem hz)
   rw [this,List.append_nil]
  ·have:g x=[]:=h x (by simp) fun e=>hn.1 (e ▸ List.mem_map_of_mem hy)
   rw [this,flatMap_key hn.2 hy fun z hz=>h z (by simp [hz])];rfl
def wnt1(at_:Int)(f:Flw)(e:Edg)(y:Sit):List Int:=if (ofW ⟨y.now,y.list⟩).2=0∧y.router=e.router∧y.router≠at_∧wntW (wntS y) f=true then [e.id] else []
theorem rcv_settled{s:Scn}(h:ScnOk s)(he:∀e∈s.es,∃y∈s.sites,y.router=e.router)(hp:plnOkB ⟨s.sub,s.len,s.es⟩=true){x:Sit}(hx:x∈s.sites){f:Flw}(hf:valFl f=true) :
  rcvT (ovlS (setlT s)) ⟨s.sub,s.len,s.es⟩ x.router f=(s.es.flatMap fun e=>s.sites.flatMap (wnt1 x.router f e),0):=by
 obtain ⟨q1,q2,q3⟩:=setl_ok h
 obtain ⟨n,hn⟩:=h.now
 generalize ovlS (setlT s)=o at *
 have hv:valO o=0:=by rw [valO,if_pos q1.ok]
 rw [rcvT,if_neg (not_not_intro hv),if_neg (by rw [hp];simp),if_neg (by rw [hf];simp),if_neg (by rw [q3 x hx x hx];simp)]
 congr 1
 have key:∀l:List Edg,(∀e∈l,e∈s.es)→l.flatMap (rcv1 o x.router f)=l.flatMap fun e=>s.sites.flatMap (wnt1 x.router f e):=by
  intro l
  induction l with
  | nil=>intro _;rfl
  | cons e l ih =>
   intro hl
   rw [List.flatMap_cons,List.flatMap_cons,ih fun z hz=>hl z (by simp [hz])]
   congr 1
   obtain ⟨y,hy,hye⟩:=he e (hl e (by simp))
   rw [flatMap_key (key:=Sit.router) h.nd hy fun z hz hne=>by rw [wnt1,if_neg fun q=>hne (q.2.1.trans hye.symm)]]
   have ho:(ofW ⟨y.now,y.list⟩).2=0:=by rw [(ofW_facts (hn y hy).err (hn y hy).grp).1]
   rw [rcv1,wnt1,←hye,q3 x hx y hy]
   by_cases e1:y.router=x.router
   ·rw [if_pos e1,if_neg fun q=>q.2.2.1 e1]
   ·rw [if_neg e1]
    by_cases e2:wntW (wntS y) f=true
    ·rw [if_pos ⟨rfl,e2⟩,if_pos ⟨ho,rfl,e1,e2⟩]
    ·rw [if_neg fun q=>e2 q.2,if_neg fun q=>e2 q.2.2.2]
 exact key s.es fun _ h=>h
def setlL_a(t:(List Int)):Prop:=okL [.sl 1 (t.map AV.int) false]
abbrev setlL_v0(t:(List Int)):=(setlT ((scnT (t.take 2000) 0 6).1))
abbrev setlL_v1(t:(List Int)):=(Mod (rawV (t.take 2000) ((scnT (t.take 2000) 0 6).2)) ((((setlL_v0 t).sites).map Sit.v).length:Int))
def setlL_n0(t:(List Int))(x3:Sit)(t0:Int×Nat):NF:=⟨[(3,.k,.ref 0 0),(4,.k,.ref 1 0),(5,.k,.int x3.router),(6,.k,.int t0.1)],[.box (.agg [.sl 1 ((t.take 2000).map AV.int) false,.int ((t0.2:Nat):Int)]),.box (.agg [.sl 2 (((setlL_v0 t).rs).map Rtr.v) false,.sl 5 (((setlL_v0 t).ls).map Lnk.v) false,.int ((setlL_v0 t).sub),.int ((setlL_v0 t).len),.sl 2 (((setlL_v0 t).es).map Edg.v) false,.sl 3 (((setlL_v0 t).sites).map Sit.v) false,.sl 5 (((setlL_v0 t).sp).map Spk.v) false,.sl 3 (((setlL_v0 t).lsn).map Lsn.v) false,.sl 10 (((setlL_v0 t).fl).map Sig.v) false])]⟩
def setlL_n1(t:(List Int))(x3:Sit)(t0:Int×Nat)(t1:Int×(List Int)):NF:=⟨[(3,.k,.ref 0 0),(4,.k,.ref 1 0),(5,.k,.int x3.router),(6,.k,.int t0.1),(7,.k,.ref 2 0),(8,.k,.vec 3),(47,.k,.sl 2 (((setlL_v0 t).es).map Edg.v) false),(48,.k,.int ((((setlL_v0 t).es).map Edg.v).length:Int)),(49,.k,.int t1.1)],[.box (.agg [.sl 1 ((t.take 2000).map AV.int) false,.int (((rawP (t.take 2000) t0.2):Nat):Int)]),.box (.agg [.sl 2 (((setlL_v0 t).rs).map Rtr.v) false,.sl 5 (((setlL_v0 t).ls).map Lnk.v) false,.int ((setlL_v0 t).sub),.int ((setlL_v0 t).len),.sl 2 (((setlL_v0 t).es).map Edg.v) false,.sl 3 (((setlL_v0 t).sites).map Sit.v) false,.sl 5 (((setlL_v0 t).sp).map Spk.v) false,.sl 3 (((setlL_v0 t).lsn).map Lsn.v) false,.sl 10 (((setlL_v0 t).fl).map Sig.v) false]),.box (.agg [.int t0.1,.int (rng (t.take 2000) t0.2 1 4)]),.vec 1 (t1.2.map AV.int) (pureBL_map (fun _=>rfl) t1.2)]⟩
def setlL_n2(t:(List Int))(x3:Sit)(t0:Int×Nat)(t1:Int×(List Int))(x4:Edg)(t2:Int×(List Int)):NF:=⟨[(3,.k,.ref 0 0),(4,.k,.ref 1 0),(5,.k,.int x3.router),(6,.k,.int t0.1),(7,.k,.ref 2 0),(8,.k,.vec 3),(10,.k,.ref 4 0),(47,.k,.sl 2 (((setlL_v0 t).es).map Edg.v) false),(48,.k,.int ((((setlL_v0 t).es).map Edg.v).length:Int)),(49,.k,.int t1.1),(54,.k,.sl 3 (((setlL_v0 t).sites).map Sit.v) false),(55,.k,.int ((((setlL_v0 t).sites).map Sit.v).length:Int)),(56,.k,.int t2.1)],[.box (.agg [.sl 1 ((t.take 2000).map AV.int) false,.int (((rawP (t.take 2000) t0.2):Nat):Int)]),.box (.agg [.sl 2 (((setlL_v0 t).rs).map Rtr.v) false,.sl 5 (((setlL_v0 t).ls).map Lnk.v) false,.int ((setlL_v0 t).sub),.int ((setlL_v0 t).len),.sl 2 (((setlL_v0 t).es).map Edg.v) false,.sl 3 (((setlL_v0 t).sites).map Sit.v) false,.sl 5 (((setlL_v0 t).sp).map Spk.v) false,.sl 3 (((setlL_v0 t).lsn).map Lsn.v) false,.sl 10 (((setlL_v0 t).fl).map Sig.v) false]),.box (.agg [.int t0.1,.int (rng (t.take 2000) t0.2 1 4)]),.vec 1 (t2.2.map AV.int) (pureBL_map (fun _=>rfl) t2.2),.box (.agg [.int x4.router,.int x4.id])]⟩
def setlL_n3(t:(List Int))(x3:Sit)(t0:Int×Nat)(t1:Int×(List Int))(x4:Edg)(t2:Int×(List Int))(t3:Bool):NF:=⟨[(3,.k,.ref 0 0),(4,.k,.ref 1 0),(5,.k,.int x3.router),(6,.k,.int t0.1),(7,.k,.ref 2 0),(8,.k,.vec 3),(10,.k,.ref 4 0),(47,.k,.sl 2 (((setlL_v0 t).es).map Edg.v) false),(48,.k,.int ((((setlL_v0 t).es).map Edg.v).length:Int)),(49,.k,.int t1.1),(54,.k,.sl 3 (((setlL_v0 t).sites).map Sit.v) false),(55,.k,.int ((((setlL_v0 t).sites).map Sit.v).length:Int)),(56,.k,.int t2.1),(85,.k,.bool t3)],[.box (.agg [.sl 1 ((t.take 2000).map AV.int) false,.int (((rawP (t.take 2000) t0.2):Nat):Int)]),.box (.agg [.sl 2 (((setlL_v0 t).rs).map Rtr.v) false,.sl 5 (((setlL_v0 t).ls).map Lnk.v) false,.int ((setlL_v0 t).sub),.int ((setlL_v0 t).len),.sl 2 (((setlL_v0 t).es).map Edg.v) false,.sl 3 (((setlL_v0 t).sites).map Sit.v) false,.sl 5 (((setlL_v0 t).sp).map Spk.v) false,.sl 3 (((setlL_v0 t).lsn).map Lsn.v) false,.sl 10 (((setlL_v0 t).fl).map Sig.v) false]),.box (.agg [.int t0.1,.int (rng (t.take 2000) t0.2 1 4)]),.vec 1 (t2.2.map AV.int) (pureBL_map (fun _=>rfl) t2.2),.box (.agg [.int x4.router,.int x4.id])]⟩
def setlL_n4(t:(List Int))(x3:Sit)(t0:Int×Nat)(t4:Bool):NF:=⟨[(3,.k,.ref 0 0),(4,.k,.ref 1 0),(5,.k,.int x3.router),(6,.k,.int t0.1),(110,.k,.bool t4)],[.box (.agg [.sl 1 ((t.take 2000).map AV.int) false,.int (((rawP (t.take 2000) t0.2):Nat):Int)]),.box (.agg [.sl 2 (((setlL_v0 t).rs).map Rtr.v) false,.sl 5 (((setlL_v0 t).ls).map Lnk.v) false,.int ((setlL_v0 t).sub),.int ((setlL_v0 t).len),.sl 2 (((setlL_v0 t).es).map Edg.v) false,.sl 3 (((setlL_v0 t).sites).map Sit.v) false,.sl 5 (((setlL_v0 t).sp).map Spk.v) false,.sl 3 (((setlL_v0 t).lsn).map Lsn.v) false,.sl 10 (((setlL_v0 t).fl).map Sig.v) false])]⟩
@[reducible] def setlL_s:Nat→Type
 | 0=>Int×Nat
 | 1=>Int×(List Int)
 | 2=>Int×(List Int)
 | 3=>Bool
 | 4=>Bool
 | _=>Unit
def setlL_e(r:Bool):AV:=.bool r
def setlL_x(t:(List Int))(I0:Sit→(Int×Nat)→Prop)(m0:Sit→(Int×Nat)→Nat)(I1:Sit→Int×Nat→(Int×(List Int))→Prop)(m1:Sit→Int×Nat→(Int×(List Int))→Nat)(I2:Sit→Int×Nat→Int×(List Int)→Edg→(Int×(List Int))→Prop)(m2:Sit→Int×Nat→Int×(List Int)→Edg→(Int×(List Int))→Nat)(I3:Sit→Int×Nat→Int×(List Int)→Edg→Int×(List Int)→Sit→Bool→Prop)(I4:Sit→Int×Nat→Int×(List Int)→Bool→Prop):Ax Tryz.prog setlL_s (Bool):=
 (.callH [] (New_h t) 32
(.req 80 (1≤6∧6≤8) fun h1 =>
(.callH [32] (scnT_h (t.take 2000) 0 6 h1) 80
(.req 96 (ScnOk ((scnT (t.take 2000) 0 6).1)) fun h2 =>
(.callP (setlT_c ((scnT (t.take 2000) 0 6).1) h2)
(.br 208 (((((setlL_v0 t).sites).map Sit.v).length:Int)==0) (.callP (awk28_c )
(.ret (true)))
(.callH [32] (N_h (t.take 2000) ((scnT (t.take 2000) 0 6).2) ((((setlL_v0 t).sites).map Sit.v).length:Int)) 304
(.el 320 Sit.v ((setlL_v0 t).sites) (fun R=>Rf (((setlL_v0 t).sites).map Sit.v) (ck (decide (0≤(setlL_v1 t))) (ck (decide ((setlL_v1 t)<(((setlL_v0 t).sites).length:Int)))
(∀x3,((setlL_v0 t).sites)[(setlL_v1 t).toNat]?=some x3 →
(R x3))))) fun x3 =>
(.loop 0 (setlL_n0 t x3) (I0 x3) (m0 x3) (1,rawP (t.take 2000) ((scnT (t.take 2000) 0 6).2)) [32,112] fun (t0:Int×Nat) b0 =>
(.br 34 (decide (t0.1≤8)) (.callH [0] (Range_h (t.take 2000) t0.2 1 4) 66
(.cmdL (.nilT 8 1) (.loop 1 (setlL_n1 t x3 t0) (I1 x3 t0) (m1 x3 t0) (0,[]) [0,1,98,226] fun (t1:Int×(List Int)) b1 =>
(.br 20 (decide (t1.1<((((setlL_v0 t).es).map Edg.v).length:Int))) (.el 20 Edg.v ((setlL_v0 t).es) (fun R=>Rf (((setlL_v0 t).es).map Edg.v) (ck (decide (0≤t1.1)) (ck (decide (t1.1<(((setlL_v0 t).es).length:Int)))
(∀x4,((setlL_v0 t).es)[t1.1.toNat]?=some x4 →
(R x4))))) fun x4 =>
(.loop 2 (setlL_n2 t x3 t0 t1 x4) (I2 x3 t0 t1 x4) (m2 x3 t0 t1 x4) (0,t1.2) [0,1,2,3,52] fun (t2:Int×(List Int)) b2 =>
(.br 21 (decide (t2.1<((((setlL_v0 t).sites).map Sit.v).length:Int))) (.el 21 Sit.v ((setlL_v0 t).sites) (fun R=>Rf (((setlL_v0 t).sites).map Sit.v) (ck (decide (0≤t2.1)) (ck (decide (t2.1<(((setlL_v0 t).sites).length:Int)))
(∀x5,((setlL_v0 t).sites)[t2.1.toNat]?=some x5 →
(R x5))))) fun x5 =>
(.callP (ofW_c (⟨x5.now,x5.list⟩:Mems))
(.join 3 (setlL_n3 t x3 t0 t1 x4 t2) (fun (t3:Bool)=>I3 x3 t0 t1 x4 t2 x5 t3) (fun b3=>(.br 261 (((ofW (⟨x5.now,x5.list⟩:Mems)).2)==0) (.br 373 (x5.router==x4.router) (.br 469 (x5.router != x3.router) (.callP (wntW_c ((ofW (⟨x5.now,x5.list⟩:Mems)).1) (⟨t0.1,rng (t.take 2000) t0.2 1 4⟩:Flw))
(.bk 3 b3 ((wntW ((ofW (⟨x5.now,x5.list⟩:Mems)).1) (⟨t0.1,rng (t.take 2000) t0.2 1 4⟩:Flw)):Bool) [0,1,2,3,4]))
(.bk 3 b3 ((false):Bool) [0,1,2,3,4]))
(.bk 3 b3 ((false):Bool) [0,1,2,3,4]))
(.bk 3 b3 ((false):Bool) [0,1,2,3,4]))) fun (t3:Bool) =>
(.br 5 t3 (.say (fun R=>Rf (α:=List AV) (t2.2.map AV.int) (Rf (α:=List AV) [.int x4.id]
(ck (decide (t2.2.length+1≤1048576))
R))) (.app 69 AV.int t2.2 [x4.id]
(.bk 2 b2 (W (t2.1+1),t2.2++[x4.id]) [0,1,2,69,4])))
(.bk 2 b2 (W (t2.1+1),t2.2) [0,1,2,3,4])))))
(.bk 1 b1 (W (t1.1+1),t2.2) [0,1,2,3]))))
(.callP (rcvF_c (⟨(setlL_v0 t).sp,(setlL_v0 t).lsn,(setlL_v0 t).fl⟩:Ovl) (⟨(setlL_v0 t).sub,(setlL_v0 t).len,(setlL_v0 t).es⟩:Pln) x3.router (⟨t0.1,rng (t.take 2000) t0.2 1 4⟩:Flw))
(.join 4 (setlL_n4 t x3 t0) (fun (t4:Bool)=>I4 x3 t0 t1 t4) (fun b4=>(.br 260 (((rcvT (⟨(setlL_v0 t).sp,(setlL_v0 t).lsn,(setlL_v0 t).fl⟩:Ovl) (⟨(setlL_v0 t).sub,(setlL_v0 t).len,(setlL_v0 t).es⟩:Pln) x3.router (⟨t0.1,rng (t.take 2000) t0.2 1 4⟩:Flw)).2) != 0) (.bk 4 b4 ((true):Bool) [0,1])
(.callP (IntsEq_c ((rcvT (⟨(setlL_v0 t).sp,(setlL_v0 t).lsn,(setlL_v0 t).fl⟩:Ovl) (⟨(setlL_v0 t).sub,(setlL_v0 t).len,(setlL_v0 t).es⟩:Pln) x3.router (⟨t0.1,rng (t.take 2000) t0.2 1 4⟩:Flw)).1) t1.2)
(.say (ck (pureBLs [(t1.2.map AV.int)])) (.bk 4 b4 ((!(IntsEq ((rcvT (⟨(setlL_v0 t).sp,(setlL_v0 t).lsn,(setlL_v0 t).fl⟩:Ovl) (⟨(setlL_v0 t).sub,(setlL_v0 t).len,(setlL_v0 t).es⟩:Pln) x3.router (⟨t0.1,rng (t.take 2000) t0.2 1 4⟩:Flw)).1) t1.2)):Bool) [0,1]))))) fun (t4:Bool) =>
(.br 2 t4 (.ret (false))
(.bk 0 b0 (W (t0.1+1),rawP (t.take 2000) t0.2) [0,1]))))))))
(.callP (awk28_c )
(.ret (true)))))))))))))
def setlL_vc(t:(List Int))(I0:Sit→(Int×Nat)→Prop)(m0:Sit→(Int×Nat)→Nat)(I1:Sit→Int×Nat→(Int×(List Int))→Prop)(m1:Sit→Int×Nat→(Int×(List Int))→Nat)(I2:Sit→Int×Nat→Int×(List Int)→Edg→(Int×(List Int))→Prop)(m2:Sit→Int×Nat→Int×(List Int)→Edg→(Int×(List Int))→Nat)(I3:Sit→Int×Nat→Int×(List Int)→Edg→Int×(List Int)→Sit→Bool→Prop)(I4:Sit→Int×Nat→Int×(List Int)→Bool→Prop)(r0:Bool):Prop:=(setlL_x t I0 m0 I1 m1 I2 m2 I3 I4).vp setlL_e r0
theorem setlL_p(t:List Int)(ok:setlL_a t):∃I0 m0 I1 m1 I2 m2 I3 I4,setlL_vc t I0 m0 I1 m1 I2 m2 I3 I4 true:=by
 refine ⟨fun _ s=>∃k:Nat,s.1=k∧1≤k∧k≤9,fun _ s=>9-s.1.toNat,
  fun x s r=>ForX (setlT (scnT (t.take 2000) 0 6).1).es (fun e=>(setlT (scnT (t.take 2000) 0 6).1).sites.flatMap (wnt1 x.router ⟨s.1,rng (t.take 2000) s.2 1 4⟩ e)) r.1 r.2,fun _ _ r=>(setlT (scnT (t.take 2000) 0 6).1).es.length-r.1.toNat,
  fun x s r e u=>∃out,u.2=r.2++out∧ForX (setlT (scnT (t.take 2000) 0 6).1).sites (wnt1 x.router ⟨s.1,rng (t.take 2000) s.2 1 4⟩ e) u.1 out,fun _ _ _ _ u=>(setlT (scnT (t.take 2000) 0 6).1).sites.length-u.1.toNat,
  fun x s r e u y b=>b=decide ((ofW ⟨y.now,y.list⟩).2=0∧y.router=e.router∧y.router≠x.router∧wntW (wntS y) ⟨s.1,rng (t.take 2000) s.2 1 4⟩=true),
  fun _ _ _ b=>b=false,?_⟩
 dsimp only [setlL_vc,setlL_x,setlL_s,setlL_v0,setlL_v1,Ax.vp,Ax.vc];simp only [vcU,rfU,List.length_map]
 generalize t.take 2000=L
 have hs:=scnT_facts (L:=L) (p:=0) (most:=6) (by omega)
 obtain ⟨he,hp⟩:=scn_es (L:=L) (p:=0) (most:=6) (by omega)
 refine ⟨by omega,hs,?_⟩
 generalize hZ:scnT L 0 6=Z at *
 have hsites:(setlT Z.1).sites=Z.1.sites:=rfl
 have hes:(setlT Z.1).es=Z.1.es:=rfl
 rw [hsites,hes]
 have hl8:=hs.len
 have hpl:Z.1.es.length≤24:=by
  have:=(Bool.and_eq_true _ _).mp hp
  exact (of_decide_eq_true this.1).2.2
 refine ⟨fun _=>trivial,fun c=>?_⟩
 have hpos:1≤(Z.1.sites.length:Int):=by
  have:¬(Z.1.sites.length:Int)=0:=by simpa using c
  omega
 have hm:=Mod_range (x:=rawV L Z.2) hpos
 refine ⟨hm.1,hm.2,fun x hx=>⟨⟨1,rfl,by omega,by omega⟩,?_⟩⟩
 have hxm:x∈Z.1.sites:=mem_of_get hx
 rintro ⟨src,q⟩ ⟨k,hk,hk1,hk9⟩
 simp only at hk ⊢
 subst hk
 refine ⟨fun d=>⟨ForX.zero,?_⟩,fun _=>trivial⟩
 rintro ⟨i,want⟩ h1
 simp only at h1 ⊢
 have hg:=rng_in (L:=L) (p:=q) (lo:=1) (hi:=4) (by omega)
 generalize rng L q 1 4=g at *
 have one:∀(e:Edg),(Z.1.sites.flatMap (wnt1 x.router ⟨(k:Int),g⟩ e)).length≤Z.1.sites.length:=by
  intro e
  have key:∀l:List Sit,(l.flatMap (wnt1 x.router ⟨(k:Int),g⟩ e)).length≤l.length:=by
   intro l
   induction l with
   | nil=>simp
   | cons y l ih =>
    rw [List.flatMap_cons,List.length_append,List.length_cons]
    have:(wnt1 x.router ⟨(k:Int),g⟩ e y).length≤1:=by unfold wnt1;split<;>simp
    omega
  exact key _
 have hlen:=h1.len (b:=8) fun e _=>Nat.le_trans (one e) hl8
 have hlen:want.length≤200:=by omega
 refine ⟨fun d2=>⟨h1.idx,d2,fun e hex=>⟨⟨[],by simp,ForX.zero⟩,?_⟩⟩,fun d2=>?_⟩
 ·rintro ⟨j,w2⟩ ⟨out,hw2,h2⟩
  simp only at hw2 h2 ⊢
  have hlo:=h2.len (b:=1) fun y _=>by unfold wnt1;split<;>simp
  subst hw2
  refine ⟨fun d3=>⟨h2.idx,d3,fun y hy=>⟨⟨fun e1=>⟨fun e2=>⟨fun e3=>?_,fun e3=>?_⟩,fun e2=>?_⟩,fun e1=>?_⟩,?_⟩⟩,fun d3=>?_⟩
  ·have e1:=eq_of_beq e1;have e2:=eq_of_beq e2
   have e3:y.router≠x.router:=by simpa using e3
   rw [Bool.eq_iff_iff,decide_eq_true_eq]
   exact ⟨fun q=>⟨e1,e2,e3,q⟩,fun q=>q.2.2.2⟩
  ·have e3:y.router=x.router:=by simpa using e3
   exact (decide_eq_false fun q=>q.2.2.1 e3).symm
  ·have e2:¬y.router=e.router:=by simpa using e2
   exact (decide_eq_false fun q=>e2 q.2.1).symm
  ·have e1:¬(ofW ⟨y.now,y.list⟩).2=0:=by simpa using e1
   exact (decide_eq_false fun q=>e1 q.1).symm
  ·rintro _ rfl
   refine ⟨fun e1=>⟨by rw [List.length_append];omega,?_⟩,fun e1=>?_⟩
   ·obtain ⟨a,b⟩:=h2.step (out':=out++[e.id]) (by omega) hy (by rw [wnt1,if_pos (of_decide_eq_true e1)])
    exact ⟨⟨out++[e.id],by simp,a⟩,b⟩
   ·obtain ⟨a,b⟩:=h2.step (out':=out) (by omega) hy (by rw [wnt1,if_neg (of_decide_eq_false e1)];simp)
    exact ⟨⟨out,rfl,a⟩,b⟩
  ·exact h1.step (by omega) hex (by rw [h2.done d3])
 ·have hw:=h1.done d2
  have hf:valFl ⟨(k:Int),g⟩=true:=by
   have a:1≤(k:Int)∧(k:Int)≤99:=by omega
   have b:1≤g∧g≤99:=by omega
   rw [valFl,decide_eq_true a,decide_eq_true b];rfl
  have hr:=rcv_settled hs he hp hxm hf
  have hr:rcvT ⟨(setlT Z.1).sp,(setlT Z.1).lsn,(setlT Z.1).fl⟩ ⟨(setlT Z.1).sub,(setlT Z.1).len,Z.1.es⟩ x.router ⟨(k:Int),g⟩=(want,0):=hr.trans (by rw [hw])
  rw [hr]
  refine ⟨⟨fun e=>by simp at e,fun _=>⟨by simp [pureBLs],by simp [IntsEq]⟩⟩,?_⟩
  rintro _ rfl
  refine ⟨fun e=>by simp at e,fun _=>?_⟩
  rw [W_succ (n:=9) (by omega) (by omega)]
  exact ⟨⟨k+1,rfl,by omega,by omega⟩,by omega⟩
def setlL_c(t:(List Int)):PC Tryz.prog:=⟨3,[(.s 1)],[.sl 1 (t.map AV.int) false],setlL_e true,PSpec.of_ok fun ok=>(setlL_p t ok).elim fun I0 h=>h.elim fun m0 h=>h.elim fun I1 h=>h.elim fun m1 h=>h.elim fun I2 h=>h.elim fun m2 h=>h.elim fun I3 h=>h.elim fun I4 h=>mxP_of (sh:=.k) (enc:=setlL_e) (a:=(setlL_x t I0 m0 I1 m1 I2 m2 I3 I4).an) h (by kernel_rfl) (AV.pureB_ok rfl),fnB_ok (by kernel_rfl)⟩
end Go.Proofs.YthhpaedpnjdnbaaGreatDoor
