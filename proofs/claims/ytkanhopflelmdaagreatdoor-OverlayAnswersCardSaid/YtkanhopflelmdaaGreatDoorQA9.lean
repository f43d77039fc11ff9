/- Texts joined: G43 G50 G51 G53 G54. -/
import Derived.Test.YtkanhopflelmdaaGreatDoorQA8
set_option linter.unusedVariables false
set_option linter.unusedSimpArgs false
namespace Go.Proofs.YtkanhopflelmdaaGreatDoor
open Go Go.Am
theorem minI_eq{a b:Int}:minI a b=min a b:=by unfold minI;split<;>omega
def hvyT_a(L:(List Int))(p:Nat)(n:Int):Prop:=okL [.ref 0 0,.int n]∧(.box (.agg [.sl 1 (L.map AV.int) false,.int ((p:Nat):Int)]):Blk).ok
def hvyT_n0(L:(List Int))(t0:Int×Nat×(List Fau)):NF:=⟨[(0,.k,.ref 0 0),(5,.k,.vec 1),(6,.k,.int t0.1)],[.box (.agg [.sl 1 (L.map AV.int) false,.int ((t0.2.1:Nat):Int)]),.vec 2 (t0.2.2.map Fau.v) (pureBL_map (fun _=>rfl) t0.2.2)]⟩
@[reducible] def hvyT_s:Nat→Type
 | 0=>Int×Nat×(List Fau)
 | _=>Unit
def hvyT_e(r:Tap×(List Fau)):AV:=.sl 2 (r.2.map Fau.v) false
def hvyT_b(r:Tap×(List Fau)):List (Option Blk):=[some (.box (.agg [.sl 1 (r.1.L.map AV.int) false,.int ((r.1.p:Nat):Int)]))]
def hvyT_x(L:(List Int))(p:Nat)(n:Int)(I0:(Int×Nat×(List Fau))→Prop)(m0:(Int×Nat×(List Fau))→Nat):Ax Tryz.prog hvyT_s (Tap×(List Fau)):=
 (.cmdL (.nilT 5 2) (.loop 0 (hvyT_n0 L) I0 m0 (W (n-1),p,[]) [0,81] fun (t0:Int×Nat×(List Fau)) b0 =>
(.br 34 (decide (0≤t0.1)) (.callH [0] (N_h L t0.2.1 3) 50
(.br 82 (decide (0<(Mod (rawV L t0.2.1) 3))) (.req 130 ([1,1,2,3,4]≠[]) fun h1 =>
(.callH [0] (Pick_h L (rawP L t0.2.1) [1,1,2,3,4] h1) 130
(.say (fun R=>Rf (α:=List AV) (t0.2.2.map Fau.v) (Rf (α:=List AV) [.agg [.int (pickI [1,1,2,3,4] (rawV L (rawP L t0.2.1))),.int t0.1]]
(ck (decide (t0.2.2.length+1≤1000000))
R))) (.app 194 Fau.v t0.2.2 [(⟨pickI [1,1,2,3,4] (rawV L (rawP L t0.2.1)),t0.1⟩:Fau)]
(.bk 0 b0 (W (t0.1-1),rawP L (rawP L t0.2.1),t0.2.2++[(⟨pickI [1,1,2,3,4] (rawV L (rawP L t0.2.1)),t0.1⟩:Fau)]) [0,194])))))
(.bk 0 b0 (W (t0.1-1),rawP L t0.2.1,t0.2.2) [0,1])))
(.say (Rf (t0.2.2.map Fau.v)) (.cmdL (.frzE 1 (t0.2.2.map Fau.v) (pureBL_map (fun _=>rfl) t0.2.2)) (.retH ((⟨L,t0.2.1⟩:Tap),t0.2.2) ⟨[(4,.k,.sl 2 (t0.2.2.map Fau.v) false)],[.box (.agg [.sl 1 (L.map AV.int) false,.int ((t0.2.1:Nat):Int)])]⟩ [0]))))))
def hvyT_vc(L:(List Int))(p:Nat)(n:Int)(I0:(Int×Nat×(List Fau))→Prop)(m0:(Int×Nat×(List Fau))→Nat)(r0:Tap×(List Fau)):Prop:=(hvyT_x L p n I0 m0).vc hvyT_e hvyT_b r0
theorem hvyT_p(L:List Int)(p:Nat)(n:Int)(h:0≤n∧n≤100000)(ok:hvyT_a L p n):∃I m,hvyT_vc L p n I m ((⟨L,(heavyT L n p).2⟩:Tap),(heavyT L n p).1):=by
 refine ⟨fun t=>∃k:Nat,t.1=(k:Int)-1∧k≤100000∧t.2.2.length+k≤100000∧heavyL L k t.2.2 t.2.1=heavyT L n p,fun t=>(t.1+1).toNat,?_⟩
 dsimp only [hvyT_vc,hvyT_x,hvyT_s,Ax.vp,Ax.vc];simp only [vcU,rfU,List.length_map]
 refine ⟨⟨n.toNat,by rw [W_eq (by omega)];omega,by omega,by simp;omega,rfl⟩,?_⟩
 rintro ⟨i,q,out⟩ ⟨k,hk,hk4,hl,hf⟩
 simp only at hk hl hf
 subst hk
 simp only
 refine ⟨fun h1=>?_,fun h1=>?_⟩
 ·obtain ⟨j,rfl⟩:∃j,k=j+1:=⟨k-1,by omega⟩
  have e:((j+1:Nat):Int)-1=j:=by omega
  rw [e,W_eq (by omega)]
  rw [heavyL] at hf
  refine ⟨fun c=>⟨by simp,by omega,⟨j,rfl,by omega,by simp;omega,?_⟩,by omega⟩,fun c=>⟨⟨j,rfl,by omega,by omega,?_⟩,by omega⟩⟩
  ·rw [if_pos c] at hf;exact hf
  ·rw [if_neg c] at hf;exact hf
 ·have:k=0:=by omega
  subst this
  rw [←hf];rfl
def hvyT_h(L:(List Int))(p:Nat)(n:Int)(h:0≤n∧n≤100000):HC Tryz.prog:=⟨80,[.k,.k],[.ref 0 0,.int n],[.box (.agg [.sl 1 (L.map AV.int) false,.int ((p:Nat):Int)])],hvyT_e ((⟨L,(heavyT L n p).2⟩:Tap),(heavyT L n p).1),hvyT_b ((⟨L,(heavyT L n p).2⟩:Tap),(heavyT L n p).1),HSpec.of_okh fun ok ok2=>have ok:hvyT_a L p n:=⟨ok,ok2 _ (by simp)⟩;(hvyT_p L p n h ok).elim fun I0 h=>h.elim fun m0 h=>mxH_of (sh:=(.s 2)) (enc:=hvyT_e) (hB:=hvyT_b) (a:=(hvyT_x L p n I0 m0).an) h (by kernel_rfl),fnB_ok (by kernel_rfl),HcOk.of (by simp [hcB,belBL,AV.belB,allB,okBk,okBkO,hvyT_e,hvyT_b,pureBL_map (v:=AV.int) (fun _=>rfl)])⟩
def okAct(o:Ovl):Prop:=0<o.sp.length∧o.fl.length≤300000
def actT_a(L:(List Int))(p:Nat)(o:Ovl):Prop:=okL [.ref 0 0,.agg [.sl 5 (o.sp.map Spk.v) false,.sl 3 (o.ls.map Lsn.v) false,.sl 10 (o.fl.map Sig.v) false]]∧(.box (.agg [.sl 1 (L.map AV.int) false,.int ((p:Nat):Int)]):Blk).ok
abbrev actT_v0(o:Ovl):=(minI ((o.fl.map Sig.v).length:Int) 40)
abbrev actT_v1(L:(List Int))(p:Nat)(o:Ovl):=(faultsT L ((o.fl.map Sig.v).length:Int) (rawP L (rawP L p)))
def actT_n0(L:(List Int))(o:Ovl)(t0:Int×Ovl×Nat):NF:=⟨[(3,.k,.ref 1 0),(4,.k,.ref 2 0),(6,.k,.ref 3 0),(7,.k,.int t0.1)],[.box (.agg [.sl 1 (L.map AV.int) false,.int ((t0.2.2:Nat):Int)]),.box (.agg [.sl 5 (o.sp.map Spk.v) false,.sl 3 (o.ls.map Lsn.v) false,.sl 10 (o.fl.map Sig.v) false]),.box (.agg [.sl 0 [] true,.sl 0 [] true,.sl 0 [] true]),.box (.agg [.sl 5 (t0.2.1.sp.map Spk.v) false,.sl 3 (t0.2.1.ls.map Lsn.v) false,.sl 10 (t0.2.1.fl.map Sig.v) false])]⟩
def actT_n1(L:(List Int))(p:Nat)(o:Ovl)(x1:Spk)(t1:Bool):NF:=⟨[(0,.k,.ref 0 0),(3,.k,.ref 1 0),(4,.k,.ref 2 0),(5,.k,.int x1.router),(6,.k,.ref 3 0),(20,.k,.int (Mod (rawV L (rawP L p)) 6)),(31,.k,.bool t1)],[.box (.agg [.sl 1 (L.map AV.int) false,.int (((rawP L (rawP L p)):Nat):Int)]),.box (.agg [.sl 5 (o.sp.map Spk.v) false,.sl 3 (o.ls.map Lsn.v) false,.sl 10 (o.fl.map Sig.v) false]),.box (.agg [.sl 0 [] true,.sl 0 [] true,.sl 0 [] true]),.box (.agg [.sl 5 (o.sp.map Spk.v) false,.sl 3 (o.ls.map Lsn.v) false,.sl 10 (o.fl.map Sig.v) false])]⟩
@[reducible] def actT_s:Nat→Type
 | 0=>Int×Ovl×Nat
 | 1=>Bool
 | _=>Unit
def actT_e(r:Tap×Ovl):AV:=.agg [.sl 5 (r.2.sp.map Spk.v) false,.sl 3 (r.2.ls.map Lsn.v) false,.sl 10 (r.2.fl.map Sig.v) false]
def actT_b(r:Tap×Ovl):List (Option Blk):=[some (.box (.agg [.sl 1 (r.1.L.map AV.int) false,.int ((r.1.p:Nat):Int)]))]
def actT_x(L:(List Int))(p:Nat)(o:Ovl)(I0:Spk→(Int×Ovl×Nat)→Prop)(I1:Spk→Bool→Prop):Ax Tryz.prog actT_s (Tap×Ovl):=
 (.callH [0] (N_h L p ((o.sp.map Spk.v).length:Int)) 129
(.el 145 Spk.v o.sp (fun R=>Rf (o.sp.map Spk.v) (ck (decide (0≤(Mod (rawV L p) ((o.sp.map Spk.v).length:Int)))) (ck (decide ((Mod (rawV L p) ((o.sp.map Spk.v).length:Int))<(o.sp.length:Int)))
(∀x1,o.sp[(Mod (rawV L p) ((o.sp.map Spk.v).length:Int)).toNat]?=some x1 →
(R x1))))) fun x1 =>
(.pass (.join 0 (actT_n0 L o) (fun (t0:Int×Ovl×Nat)=>I0 x1 t0) (fun b0=>(.callH [0] (N_h L (rawP L p) 6) 289
(.join 1 (actT_n1 L p o x1) (fun (t1:Bool)=>I1 x1 t1) (fun b1=>(.br 337 ((Mod (rawV L (rawP L p)) 6)==0) (.bk 1 b1 ((true):Bool) [0,1,17,225])
(.bk 1 b1 (((Mod (rawV L (rawP L p)) 6)==1):Bool) [0,1,17,225]))) fun (t1:Bool) =>
(.br 4 t1 (.callH [0] (wantsT_h L (rawP L (rawP L p))) 52
(.req 68 (o.fl.length≤1000000) fun h2 =>
(.callP (chgOR_c o x1.router ((wantsT L (rawP L (rawP L p))).1) h2)
(.bk 0 b0 ((changeV o x1.router ((wantsT L (rawP L (rawP L p))).1)).2,(changeV o x1.router ((wantsT L (rawP L (rawP L p))).1)).1,(wantsT L (rawP L (rawP L p))).2) [0,1,2,3]))))
(.br 36 ((Mod (rawV L (rawP L p)) 6)==2) (.callH [0] (wantsT_h L (rawP L (rawP L p))) 84
(.req 100 (o.fl.length≤1000000) fun h3 =>
(.callP (rstOR_c o x1.router ((wantsT L (rawP L (rawP L p))).1) h3)
(.bk 0 b0 ((restartV o x1.router ((wantsT L (rawP L (rawP L p))).1)).2,(restartV o x1.router ((wantsT L (rawP L (rawP L p))).1)).1,(wantsT L (rawP L (rawP L p))).2) [0,1,2,3]))))
(.br 68 ((Mod (rawV L (rawP L p)) 6)==3) (.req 164 (0≤(actT_v0 o)∧(actT_v0 o)≤100000) fun h4 =>
(.callH [0] (hvyT_h L (rawP L (rawP L p)) (actT_v0 o) h4) 164
(.req 180 (okRnd o ((heavyT L (actT_v0 o) (rawP L (rawP L p))).1)) fun h5 =>
(.callP (rndOR_c o ((heavyT L (actT_v0 o) (rawP L (rawP L p))).1) h5)
(.bk 0 b0 ((roundO o ((heavyT L (actT_v0 o) (rawP L (rawP L p))).1)).2,(roundO o ((heavyT L (actT_v0 o) (rawP L (rawP L p))).1)).1,(heavyT L (actT_v0 o) (rawP L (rawP L p))).2) [0,1,2,3])))))
(.req 148 (0≤((o.fl.map Sig.v).length:Int)∧((o.fl.map Sig.v).length:Int)≤1000000) fun h6 =>
(.callH [0] (fltsT_h L (rawP L (rawP L p)) ((o.fl.map Sig.v).length:Int) h6) 148
(.req 164 (okRnd o ((actT_v1 L p o).1)) fun h7 =>
(.callP (rndOR_c o ((actT_v1 L p o).1) h7)
(.bk 0 b0 ((roundO o ((actT_v1 L p o).1)).2,(roundO o ((actT_v1 L p o).1)).1,(actT_v1 L p o).2) [0,1,2,3]))))))))))) fun (t0:Int×Ovl×Nat) =>
(.br 36 (t0.1 != 0) (.retH ((⟨L,t0.2.2⟩:Tap),o) ⟨[(4,.k,.ref 1 0)],[.box (.agg [.sl 1 (L.map AV.int) false,.int ((t0.2.2:Nat):Int)]),.box (.agg [.sl 5 (o.sp.map Spk.v) false,.sl 3 (o.ls.map Lsn.v) false,.sl 10 (o.fl.map Sig.v) false])]⟩ [0,2])
(.retH ((⟨L,t0.2.2⟩:Tap),t0.2.1) ⟨[(4,.k,.ref 1 0)],[.box (.agg [.sl 1 (L.map AV.int) false,.int ((t0.2.2:Nat):Int)]),.box (.agg [.sl 5 (t0.2.1.sp.map Spk.v) false,.sl 3 (t0.2.1.ls.map Lsn.v) false,.sl 10 (t0.2.1.fl.map Sig.v) false])]⟩ [0,2]))))))
def actT_vc(L:(List Int))(p:Nat)(o:Ovl)(I0:Spk→(Int×Ovl×Nat)→Prop)(I1:Spk→Bool→Prop)(r0:Tap×Ovl):Prop:=(actT_x L p o I0 I1).vc actT_e actT_b r0
theorem actT_p(L:List Int)(p:Nat)(o:Ovl)(h:okAct o)(ok:actT_a L p o):∃I0 I1,actT_vc L p o I0 I1 ((⟨L,(actT L p o).2⟩:Tap),(actT L p o).1):=by
 obtain ⟨hs,hf⟩:=h
 refine ⟨fun _ t=>(orO o (t.2.1,t.1),t.2.2)=actT L p o,fun _ x=>x=decide (Mod (rawV L (rawP L p)) 6=0∨Mod (rawV L (rawP L p)) 6=1),?_⟩
 have hm:=Mod_range (x:=rawV L p) (n:=(o.sp.length:Int)) (by omega)
 have hmin:minI (o.fl.length:Int) 40=min (o.fl.length:Int) 40:=minI_eq
 dsimp only [actT_vc,actT_x,actT_s,actT_v0,actT_v1,Ax.vp,Ax.vc];simp only [vcU,rfU,List.length_map]
 simp only [hmin]
 refine ⟨by omega,by omega,fun x hx=>⟨⟨⟨fun c=>by simp [eq_of_beq c],fun c=>?_⟩,?_⟩,?_⟩⟩
 ·have c:¬Mod (rawV L (rawP L p)) 6=0:=by simpa using c
  rw [Bool.eq_iff_iff,beq_iff_eq,decide_eq_true_iff];omega
 all_goals have hx:o.sp.getD (Mod (rawV L p) o.sp.length).toNat spk0=x:=by rw [List.getD_eq_getElem?_getD,hx];rfl
 rotate_left
 ·rintro ⟨e,o2,q⟩ h2
  simp only at h2 ⊢
  refine ⟨fun c=>?_,fun c=>?_⟩
  ·have c:e≠0:=by simpa using c
   rw [←h2,orO,if_pos c]
  ·have c:¬e≠0:=by simpa using c
   rw [←h2,orO,if_neg c]
 have hF1:=heavyT_len (L:=L) (n:=min (o.fl.length:Int) 40) (p:=rawP L (rawP L p))
 have hF2:=faultsT_len (L:=L) (n:=o.fl.length) (p:=rawP L (rawP L p))
 rintro _ rfl
 refine ⟨fun c=>⟨by omega,?_⟩,fun c=>⟨fun d=>⟨by omega,?_⟩,fun d=>⟨fun e=>⟨by omega,⟨by omega,by omega⟩,?_⟩,fun e=>⟨by omega,⟨by omega,by omega⟩,?_⟩⟩⟩⟩
 ·have c:=of_decide_eq_true c
  rw [actT,if_pos c,hx]
 ·have c:=of_decide_eq_false c
  have d:=eq_of_beq d
  rw [actT,if_neg c,if_pos d,hx]
 ·have c:=of_decide_eq_false c
  have d:¬Mod (rawV L (rawP L p)) 6=2:=by simpa using d
  have e:=eq_of_beq e
  rw [actT,if_neg c,if_neg d,if_pos e]
 ·have c:=of_decide_eq_false c
  have d:¬Mod (rawV L (rawP L p)) 6=2:=by simpa using d
  have e:¬Mod (rawV L (rawP L p)) 6=3:=by simpa using e
  rw [actT,if_neg c,if_neg d,if_neg e]
def actT_h(L:(List Int))(p:Nat)(o:Ovl)(h:okAct o):HC Tryz.prog:=⟨33,[.k,(.a [(.s 5),(.s 3),(.s 10)])],[.ref 0 0,.agg [.sl 5 (o.sp.map Spk.v) false,.sl 3 (o.ls.map Lsn.v) false,.sl 10 (o.fl.map Sig.v) false]],[.box (.agg [.sl 1 (L.map AV.int) false,.int ((p:Nat):Int)])],actT_e ((⟨L,(actT L p o).2⟩:Tap),(actT L p o).1),actT_b ((⟨L,(actT L p o).2⟩:Tap),(actT L p o).1),HSpec.of_okh fun ok ok2=>have ok:actT_a L p o:=⟨ok,ok2 _ (by simp)⟩;(actT_p L p o h ok).elim fun I0 h=>h.elim fun I1 h=>mxH_of (sh:=(.a [(.s 5),(.s 3),(.s 10)])) (enc:=actT_e) (hB:=actT_b) (a:=(actT_x L p o I0 I1).an) h (by kernel_rfl),fnB_ok (by kernel_rfl),HcOk.of (by simp [hcB,belBL,AV.belB,allB,okBk,okBkO,actT_e,actT_b,pureBL_map (v:=AV.int) (fun _=>rfl),pureBL_map (v:=Lsn.v) (fun _=>rfl),pureBL_map (v:=Sig.v) (fun _=>rfl),pureBL_map (v:=Spk.v) (fun _=>rfl)])⟩
def ovlT_a(L:(List Int))(p:Nat)(most:Int)(steps:Int):Prop:=okL [.ref 0 0,.int most,.int steps]∧(.box (.agg [.sl 1 (L.map AV.int) false,.int ((p:Nat):Int)]):Blk).ok
def ovlT_n0(L:(List Int))(t0:Int×Ovl×Nat):NF:=⟨[(0,.k,.ref 0 0),(6,.k,.ref 1 0),(7,.k,.ref 2 0),(9,.k,.int t0.1)],[.box (.agg [.sl 1 (L.map AV.int) false,.int ((t0.2.2:Nat):Int)]),.box (.agg [.sl 0 [] true,.sl 0 [] true,.sl 0 [] true]),.box (.agg [.sl 5 (t0.2.1.sp.map Spk.v) false,.sl 3 (t0.2.1.ls.map Lsn.v) false,.sl 10 (t0.2.1.fl.map Sig.v) false])]⟩
@[reducible] def ovlT_s:Nat→Type
 | 0=>Int×Ovl×Nat
 | _=>Unit
def ovlT_e(r:Tap×Ovl):AV:=.agg [.sl 5 (r.2.sp.map Spk.v) false,.sl 3 (r.2.ls.map Lsn.v) false,.sl 10 (r.2.fl.map Sig.v) false]
def ovlT_b(r:Tap×Ovl):List (Option Blk):=[some (.box (.agg [.sl 1 (r.1.L.map AV.int) false,.int ((r.1.p:Nat):Int)]))]
def ovlT_x(L:(List Int))(p:Nat)(most:Int)(steps:Int)(I0:(Int×Ovl×Nat)→Prop)(m0:(Int×Ovl×Nat)→Nat):Ax Tryz.prog ovlT_s (Tap×Ovl):=
 (.callH [0] (Range_h L p 1 most) 65
(.say (fun R=>Rf (α:=List AV) [.int 2,.int 3,.int 5,.int 8,.int 11] (ck (bndB [2,3,5,8,11].length 0 (rng L p 1 most) ([2,3,5,8,11].length:Int))
R)) (.sub 81 AV.int [2,3,5,8,11] false
(.req 97 ((([2,3,5,8,11].take ((rng L p 1 most).toNat)).drop 0).length≤1000) fun h1 =>
(.callP (newOR_c (([2,3,5,8,11].take ((rng L p 1 most).toNat)).drop 0) h1)
(.callH [0] (N_h L (rawP L p) (W (steps+1))) 257
(.loop 0 (ovlT_n0 L) I0 m0 (Mod (rawV L (rawP L p)) (W (steps+1)),(newN (([2,3,5,8,11].take ((rng L p 1 most).toNat)).drop 0)).1,rawP L (rawP L p)) [0,1,161] fun (t0:Int×Ovl×Nat) b0 =>
(.br 35 (decide (0<t0.1)) (.req 67 (okAct t0.2.1) fun h2 =>
(.callH [0] (actT_h L t0.2.2 t0.2.1 h2) 67
(.bk 0 b0 (W (t0.1-1),(actT L t0.2.2 t0.2.1).1,(actT L t0.2.2 t0.2.1).2) [0,1,2])))
(.retH ((⟨L,t0.2.2⟩:Tap),t0.2.1) ⟨[(6,.k,.ref 1 0)],[.box (.agg [.sl 1 (L.map AV.int) false,.int ((t0.2.2:Nat):Int)]),.box (.agg [.sl 5 (t0.2.1.sp.map Spk.v) false,.sl 3 (t0.2.1.ls.map Lsn.v) false,.sl 10 (t0.2.1.fl.map Sig.v) false])]⟩ [0,1])))))))))
def ovlT_vc(L:(List Int))(p:Nat)(most:Int)(steps:Int)(I0:(Int×Ovl×Nat)→Prop)(m0:(Int×Ovl×Nat)→Nat)(r0:Tap×Ovl):Prop:=(ovlT_x L p most steps I0 m0).vc ovlT_e ovlT_b r0
theorem ovlT_p(L:List Int)(p:Nat)(most steps:Int)(h:(1≤most∧most≤5)∧0≤steps∧steps≤20)(ok:ovlT_a L p most steps):∃I m,ovlT_vc L p most steps I m ((⟨L,(ovlT L most steps p).2⟩:Tap),(ovlT L most steps p).1):=by
 obtain ⟨hm,hs⟩:=h
 have hk:=rng_in (L:=L) (p:=p) (lo:=1) (hi:=most) (by omega)
 have hr:=okR_take (rng L p 1 most).toNat
 have e:newN (([2,3,5,8,11]:List Int).take (rng L p 1 most).toNat)=(netOf (([2,3,5,8,11]:List Int).take (rng L p 1 most).toNat),0):=if_pos hr
 have hn:=Mod_range (x:=rawV L (rawP L p)) (n:=W (steps+1)) (by rw [W_eq (by omega)];omega)
 have hW:W (steps+1)=steps+1:=W_eq (by omega)
 have hRl:0<(([2,3,5,8,11]:List Int).take (rng L p 1 most).toNat).length:=by simp only [List.length_take,List.length_cons,List.length_nil];omega
 refine ⟨fun t=>∃n:Nat,t.1=n∧n≤20∧NI (([2,3,5,8,11]:List Int).take (rng L p 1 most).toNat) t.2.1∧t.2.1.fl.length+n * 14440≤288800∧actN L n t.2=ovlT L most steps p,fun t=>t.1.toNat,?_⟩
 dsimp only [ovlT_vc,ovlT_x,ovlT_s,Ax.vp,Ax.vc];simp only [vcU,rfU,List.length_map]
 simp only [List.drop_zero,e]
 generalize hR:([2,3,5,8,11]:List Int).take (rng L p 1 most).toNat=R at *
 refine ⟨by simp [bndB];omega,by rw [←hR];simp;omega,⟨(Mod (rawV L (rawP L p)) (W (steps+1))).toNat,by omega,by omega,NI.new hr,?_,?_⟩,?_⟩
 ·simp only [netOf,List.length_nil];omega
 ·unfold ovlT
  rw [hR,e]
 rintro ⟨i,o,q⟩ ⟨k,hi,hk,hO,hl,hE⟩
 simp only at hi hO hl hE
 subst hi
 simp only
 refine ⟨fun c=>⟨⟨?_,?_⟩,?_,?_⟩,fun c=>?_⟩
 ·have:=congrArg List.length hO.net.spr
  rw [List.length_map] at this;omega
 ·omega
 ·obtain ⟨j,rfl⟩:∃j,k=j+1:=⟨k-1,by omega⟩
  obtain ⟨a1,a2⟩:=NI.act (L:=L) hO (p:=q)
  rw [W_eq (by omega)]
  refine ⟨j,by omega,by omega,a1,?_,?_⟩
  ·have:(j+1) * 14440=j * 14440+14440:=by omega
   omega
  ·rw [actN] at hE;exact hE
 ·rw [W_eq (by omega)];omega
 ·have:k=0:=by omega
  subst this
  rw [←hE];rfl
def ovlT_h(L:(List Int))(p:Nat)(most:Int)(steps:Int)(h:(1≤most∧most≤5)∧0≤steps∧steps≤20):HC Tryz.prog:=⟨7,[.k,.k,.k],[.ref 0 0,.int most,.int steps],[.box (.agg [.sl 1 (L.map AV.int) false,.int ((p:Nat):Int)])],ovlT_e ((⟨L,(ovlT L most steps p).2⟩:Tap),(ovlT L most steps p).1),ovlT_b ((⟨L,(ovlT L most steps p).2⟩:Tap),(ovlT L most steps p).1),HSpec.of_okh fun ok ok2=>have ok:ovlT_a L p most steps:=⟨ok,ok2 _ (by simp)⟩;(ovlT_p L p most steps h ok).elim fun I0 h=>h.elim fun m0 h=>mxH_of (sh:=(.a [(.s 5),(.s 3),(.s 10)])) (enc:=ovlT_e) (hB:=ovlT_b) (a:=(ovlT_x L p most steps I0 m0).an) h (by kernel_rfl),fnB_ok (by kernel_rfl),HcOk.of (by simp [hcB,belBL,AV.belB,allB,okBk,okBkO,ovlT_e,ovlT_b,pureBL_map (v:=AV.int) (fun _=>rfl)])⟩
theorem Ovl.eq_iff{x y:Ovl}:x=y↔x.sp=y.sp∧x.ls=y.ls∧x.fl=y.fl:=by cases x;cases y;simp
def sameO_a(a:Ovl)(b:Ovl):Prop:=okL [.agg [.sl 5 (a.sp.map Spk.v) false,.sl 3 (a.ls.map Lsn.v) false,.sl 10 (a.fl.map Sig.v) false],.agg [.sl 5 (b.sp.map Spk.v) false,.sl 3 (b.ls.map Lsn.v) false,.sl 10 (b.fl.map Sig.v) false]]
def sameO_n0(a:Ovl)(b:Ovl)(t0:Bool):NF:=⟨[(2,.k,.ref 0 0),(3,.k,.ref 1 0),(30,.k,.bool t0)],[.box (.agg [.sl 5 (a.sp.map Spk.v) false,.sl 3 (a.ls.map Lsn.v) false,.sl 10 (a.fl.map Sig.v) false]),.box (.agg [.sl 5 (b.sp.map Spk.v) false,.sl 3 (b.ls.map Lsn.v) false,.sl 10 (b.fl.map Sig.v) false])]⟩
def sameO_n1(a:Ovl)(b:Ovl)(t1:Int):NF:=⟨[(2,.k,.ref 0 0),(3,.k,.ref 1 0),(33,.k,.int ((a.sp.map Spk.v).length:Int)),(34,.k,.int t1)],[.box (.agg [.sl 5 (a.sp.map Spk.v) false,.sl 3 (a.ls.map Lsn.v) false,.sl 10 (a.fl.map Sig.v) false]),.box (.agg [.sl 5 (b.sp.map Spk.v) false,.sl 3 (b.ls.map Lsn.v) false,.sl 10 (b.fl.map Sig.v) false])]⟩
def sameO_n2(a:Ovl)(b:Ovl)(t2:Int):NF:=⟨[(2,.k,.ref 0 0),(3,.k,.ref 1 0),(52,.k,.int ((a.ls.map Lsn.v).length:Int)),(53,.k,.int t2)],[.box (.agg [.sl 5 (a.sp.map Spk.v) false,.sl 3 (a.ls.map Lsn.v) false,.sl 10 (a.fl.map Sig.v) false]),.box (.agg [.sl 5 (b.sp.map Spk.v) false,.sl 3 (b.ls.map Lsn.v) false,.sl 10 (b.fl.map Sig.v) false])]⟩
@[reducible] def sameO_s:Nat→Type
 | 0=>Bool
 | 1=>Int
 | 2=>Int
 | _=>Unit
def sameO_e(r:Bool):AV:=.bool r
def sameO_x(a:Ovl)(b:Ovl)(I0:Bool→Prop)(I1:Bool→Int→Prop)(m1:Bool→Int→Nat)(I2:Bool→Int→Int→Prop)(m2:Bool→Int→Int→Nat):Ax Tryz.prog sameO_s (Bool):=
 (.pass (.pass (.join 0 (sameO_n0 a b) (fun (t0:Bool)=>I0 t0) (fun b0=>(.br 176 (((a.sp.map Spk.v).length:Int) != ((b.sp.map Spk.v).length:Int)) (.bk 0 b0 ((true):Bool) [0,16])
(.br 320 (((a.ls.map Lsn.v).length:Int) != ((b.ls.map Lsn.v).length:Int)) (.bk 0 b0 ((true):Bool) [0,16])
(.callP (sameGA_c a.fl b.fl)
(.bk 0 b0 ((!(decide (a.fl=b.fl))):Bool) [0,16]))))) fun (t0:Bool) =>
(.br 2 t0 (.ret (false))
(.loop 1 (sameO_n1 a b) (I1 t0) (m1 t0) ((0):Int) [0,1] fun (t1:Int) b1 =>
(.br 18 (decide (t1<((a.sp.map Spk.v).length:Int))) (.el 98 Spk.v a.sp (fun R=>Rf (a.sp.map Spk.v) (ck (decide (0≤t1)) (ck (decide (t1<(a.sp.length:Int)))
(∀x1,a.sp[t1.toNat]?=some x1 →
(R x1))))) fun x1 =>
(.el 178 Spk.v b.sp (fun R=>Rf (b.sp.map Spk.v) (ck (decide (0≤t1)) (ck (decide (t1<(b.sp.length:Int)))
(∀x2,b.sp[t1.toNat]?=some x2 →
(R x2))))) fun x2 =>
(.callP (sameS_c x1 x2)
(.br 242 (!(decide (x1=x2))) (.ret (false))
(.bk 1 b1 ((W (t1+1)):Int) [0,1])))))
(.loop 2 (sameO_n2 a b) (I2 t0 t1) (m2 t0 t1) ((0):Int) [0,1] fun (t2:Int) b2 =>
(.br 18 (decide (t2<((a.ls.map Lsn.v).length:Int))) (.el 98 Lsn.v a.ls (fun R=>Rf (a.ls.map Lsn.v) (ck (decide (0≤t2)) (ck (decide (t2<(a.ls.length:Int)))
(∀x3,a.ls[t2.toNat]?=some x3 →
(R x3))))) fun x3 =>
(.el 178 Lsn.v b.ls (fun R=>Rf (b.ls.map Lsn.v) (ck (decide (0≤t2)) (ck (decide (t2<(b.ls.length:Int)))
(∀x4,b.ls[t2.toNat]?=some x4 →
(R x4))))) fun x4 =>
(.callP (sameL_c x3 x4)
(.br 242 (!(decide (x3=x4))) (.ret (false))
(.bk 2 b2 ((W (t2+1)):Int) [0,1])))))
(.ret (true))))))))))
def sameO_vc(a:Ovl)(b:Ovl)(I0:Bool→Prop)(I1:Bool→Int→Prop)(m1:Bool→Int→Nat)(I2:Bool→Int→Int→Prop)(m2:Bool→Int→Int→Nat)(r0:Bool):Prop:=(sameO_x a b I0 I1 m1 I2 m2).vp sameO_e r0
theorem sameO_p(a b:Ovl)(ok:sameO_a a b):∃I0 I1 m1 I2 m2,sameO_vc a b I0 I1 m1 I2 m2 (decide (a=b)):=by
 unfold sameO_a at ok
 have hle:a.sp.length≤9223372036854775807∧a.ls.length≤9223372036854775807:=by
  have h:=ok
  simp only [Ovl.v,spks,lsns,sigs,AV.ok,okL,List.length_map,maxLen_eq] at h
  omega
 refine ⟨fun t=>t=false↔a.sp.length=b.sp.length∧a.ls.length=b.ls.length∧a.fl=b.fl,
  fun _ t=>∃k:Nat,t=k∧k≤a.sp.length∧a.sp.take k=b.sp.take k,fun _ t=>a.sp.length-t.toNat,
  fun _ t1 t=>∃k:Nat,t=k∧k≤a.ls.length∧a.ls.take k=b.ls.take k∧a.sp=b.sp,fun _ _ t=>a.ls.length-t.toNat,?_⟩
 dsimp only [sameO_vc,sameO_x,sameO_s,Ax.vp,Ax.vc];simp only [vcU,rfU,List.length_map]
 have t:∀{q:Prop},¬q→(true=false↔q):=fun h=>⟨fun e=>Bool.noConfusion e,fun e=>absurd e h⟩
 refine ⟨⟨fun e1=>t fun q=>?_,fun e1=>⟨fun e2=>t fun q=>?_,fun e2=>?_⟩⟩,fun b0 hb=>⟨fun e=>?_,fun e=>⟨⟨0,rfl,by omega,rfl⟩,?_⟩⟩⟩
 ·simp [q.1] at e1
 ·simp [q.2.1] at e2
 ·simp only [bne_eq_false_iff_eq,Bool.not_eq_false',decide_eq_true_iff] at e1 e2 ⊢
  constructor
  ·intro q;exact ⟨by omega,by omega,q⟩
  ·intro q;exact q.2.2
 ·subst e
  exact nodec fun q=>by subst q;exact Bool.noConfusion (hb.mpr ⟨rfl,rfl,rfl⟩)
 ·obtain ⟨q1,q2,q3⟩:=hb.mp e
  rintro _ ⟨k,rfl,hk,h⟩
  simp only [Int.toNat_natCast]
  refine ⟨fun h1=>⟨by omega,by omega,fun x hx=>⟨by omega,by omega,fun y hy=>⟨fun c=>?_,fun c=>?_⟩⟩⟩,fun h1=>?_⟩
  ·refine nodec fun q=>ne_of_get hx hy (fun w=>?_) (Ovl.eq_iff.mp q).1
   subst w;simp at c
  ·rw [W_succ (n:=a.sp.length) (by omega) (by omega)]
   exact ⟨⟨k+1,rfl,by omega,eq_take hx hy h (by simpa using c)⟩,by omega⟩
  ·rw [List.take_of_length_le (by omega),List.take_of_length_le (by omega)] at h
   refine ⟨⟨0,rfl,by omega,rfl,h⟩,?_⟩
   rintro _ ⟨j,rfl,hj,g,_⟩
   simp only [Int.toNat_natCast]
   refine ⟨fun h1=>⟨by omega,by omega,fun x hx=>⟨by omega,by omega,fun y hy=>⟨fun c=>?_,fun c=>?_⟩⟩⟩,fun h1=>?_⟩
   ·refine nodec fun q=>ne_of_get hx hy (fun w=>?_) (Ovl.eq_iff.mp q).2.1
    subst w;simp at c
   ·rw [W_succ (n:=a.ls.length) (by omega) (by omega)]
    exact ⟨⟨j+1,rfl,by omega,eq_take hx hy g (by simpa using c),h⟩,by omega⟩
   ·rw [List.take_of_length_le (by omega),List.take_of_length_le (by omega)] at g
    exact (decide_eq_true (Ovl.eq_iff.mpr ⟨h,g,q3⟩)).symm
def sameO_c(a:Ovl)(b:Ovl):PC Tryz.prog:=⟨24,[(.a [(.s 5),(.s 3),(.s 10)]),(.a [(.s 5),(.s 3),(.s 10)])],[.agg [.sl 5 (a.sp.map Spk.v) false,.sl 3 (a.ls.map Lsn.v) false,.sl 10 (a.fl.map Sig.v) false],.agg [.sl 5 (b.sp.map Spk.v) false,.sl 3 (b.ls.map Lsn.v) false,.sl 10 (b.fl.map Sig.v) false]],sameO_e (decide (a=b)),PSpec.of_ok fun ok=>(sameO_p a b ok).elim fun I0 h=>h.elim fun I1 h=>h.elim fun m1 h=>h.elim fun I2 h=>h.elim fun m2 h=>mxP_of (sh:=.k) (enc:=sameO_e) (a:=(sameO_x a b I0 I1 m1 I2 m2).an) h (by kernel_rfl) (AV.pureB_ok rfl),fnB_ok (by kernel_rfl)⟩
theorem smN_done{l:List Itm}{n:Int}{k:Nat}(h:¬((k:Int)<l.length∧n<900)):smN (l.drop k) n=n:=by
 by_cases hk:k<l.length
 ·rw [List.drop_eq_getElem_cons hk,smN,if_neg (by omega)]
 ·rw [List.drop_eq_nil_iff.mpr (by omega),smN]
def smallI_a(l:(List Itm)):Prop:=okL [.sl 4 (l.map Itm.v) false]
def smallI_n0(l:(List Itm))(t0:Int×Int):NF:=⟨[(0,.k,.sl 4 (l.map Itm.v) false),(3,.k,.int t0.1),(4,.k,.int t0.2)],[]⟩
def smallI_n1(l:(List Itm))(t0:Int×Int)(t1:Bool):NF:=⟨[(0,.k,.sl 4 (l.map Itm.v) false),(3,.k,.int t0.1),(4,.k,.int t0.2),(14,.k,.bool t1)],[]⟩
@[reducible] def smallI_s:Nat→Type
 | 0=>Int×Int
 | 1=>Bool
 | _=>Unit
def smallI_e(r:Bool):AV:=.bool r
def smallI_x(l:(List Itm))(I0:(Int×Int)→Prop)(m0:(Int×Int)→Nat)(I1:Int×Int→Bool→Prop):Ax Tryz.prog smallI_s (Bool):=
 (.loop 0 (smallI_n0 l) I0 m0 (((l.map Itm.v).length:Int),0) [] fun (t0:Int×Int) b0 =>
(.pass (.join 1 (smallI_n1 l t0) (fun (t1:Bool)=>I1 t0 t1) (fun b1=>(.br 80 (decide (t0.2<((l.map Itm.v).length:Int))) (.bk 1 b1 ((decide (t0.1<900)):Bool) [])
(.bk 1 b1 ((false):Bool) []))) fun (t1:Bool) =>
(.br 0 t1 (.el 48 Itm.v l (fun R=>Rf (l.map Itm.v) (ck (decide (0≤t0.2)) (ck (decide (t0.2<(l.length:Int)))
(∀x1,l[t0.2.toNat]?=some x1 →
(R x1))))) fun x1 =>
(.bk 0 b0 (W (t0.1+((x1.srcs.map AV.int).length:Int)),W (t0.2+1)) []))
(.ret (decide (t0.1≤800)))))))
def smallI_vc(l:(List Itm))(I0:(Int×Int)→Prop)(m0:(Int×Int)→Nat)(I1:Int×Int→Bool→Prop)(r0:Bool):Prop:=(smallI_x l I0 m0 I1).vp smallI_e r0
theorem smallI_p(l:List Itm)(ok:smallI_a l):∃I0 m0 I1,smallI_vc l I0 m0 I1 (smallI l):=by
 refine ⟨fun t=>∃k:Nat,t.2=k∧k≤l.length∧smN (l.drop k) t.1=smN l l.length,fun t=>l.length-t.2.toNat,fun t x=>x=decide (t.2<l.length∧t.1<900),?_⟩
 have hle:l.length≤9223372036854775807:=by
  have h:=ok
  simp only [smallI_a,AV.ok,okL,List.length_map,maxLen_eq] at h
  omega
 dsimp only [smallI_vc,smallI_x,smallI_s,Ax.vp,Ax.vc];simp only [vcU,rfU,List.length_map]
 refine ⟨⟨0,rfl,by omega,rfl⟩,?_⟩
 rintro ⟨n,i⟩ ⟨k,hi,hk,hs⟩
 simp only at hi hs
 subst hi
 simp only
 refine ⟨⟨fun c=>by simp [c],fun c=>by simp [c]⟩,?_⟩
 rintro _ rfl
 refine ⟨fun c=>?_,fun c=>?_⟩
 ·have c:(k:Int)<l.length∧n<900:=of_decide_eq_true c
  refine ⟨by omega,by omega,fun x hx=>?_⟩
  rw [W_succ (n:=l.length) (by omega) (by omega)]
  simp only [Int.toNat_natCast] at hx
  refine ⟨⟨k+1,by omega,by omega,?_⟩,by omega⟩
  obtain ⟨hk',rfl⟩:=List.getElem?_eq_some_iff.mp hx
  rw [List.drop_eq_getElem_cons hk',smN,if_pos c.2] at hs
  exact hs
 ·have c:¬((k:Int)<l.length∧n<900):=of_decide_eq_false c
  rw [smN_done c] at hs
  rw [hs];rfl
def smallI_c(l:(List Itm)):PC Tryz.prog:=⟨77,[(.s 4)],[.sl 4 (l.map Itm.v) false],smallI_e (smallI l),PSpec.of_ok fun ok=>(smallI_p l ok).elim fun I0 h=>h.elim fun m0 h=>h.elim fun I1 h=>mxP_of (sh:=.k) (enc:=smallI_e) (a:=(smallI_x l I0 m0 I1).an) h (by kernel_rfl) (AV.pureB_ok rfl),fnB_ok (by kernel_rfl)⟩
def smallS_a(s:Spk):Prop:=okL [.agg [.int s.router,.int s.epoch,.int s.last,.sl 4 (s.items.map Itm.v) false,.sl 3 (s.peers.map Per.v) false]]
def smallS_e(r:Bool):AV:=.bool r
def smallS_x(s:Spk):Ax Tryz.prog noS (Bool):=
 (.callP (smallI_c s.items)
(.br 96 (smallI s.items) (.ret (decide (((s.peers.map Per.v).length:Int)≤40)))
(.ret (false))))
def smallS_vc(s:Spk)(r0:Bool):Prop:=(smallS_x s).vp smallS_e r0
theorem smallS_p(s:Spk)(ok:smallS_a s):smallS_vc s (smallS s):=by
 unfold smallS
 dsimp only [smallS_vc,smallS_x,noS,Ax.vp,Ax.vc];simp only [vcU,rfU,List.length_map]
 exact ⟨fun h=>by simp [h],fun h=>by simp [h]⟩
def smallS_c(s:Spk):PC Tryz.prog:=⟨28,[(.a [.k,.k,.k,(.s 4),(.s 3)])],[.agg [.int s.router,.int s.epoch,.int s.last,.sl 4 (s.items.map Itm.v) false,.sl 3 (s.peers.map Per.v) false]],smallS_e (smallS s),PSpec.of_ok fun ok=>mxP_of (sh:=.k) (enc:=smallS_e) (a:=(smallS_x s).an) (smallS_p s ok) (by kernel_rfl) (AV.pureB_ok rfl),fnB_ok (by kernel_rfl)⟩
def bentF_a(L:(List Int))(p:Nat)(f:Flt):Prop:=okL [.ref 0 0,.agg [.int f.mode,.sl 1 (f.srcs.map AV.int) false]]∧(.box (.agg [.sl 1 (L.map AV.int) false,.int ((p:Nat):Int)]):Blk).ok
def bentF_e(r:Tap×Flt):AV:=.agg [.int r.2.mode,.sl 1 (r.2.srcs.map AV.int) false]
def bentF_b(r:Tap×Flt):List (Option Blk):=[some (.box (.agg [.sl 1 (r.1.L.map AV.int) false,.int ((r.1.p:Nat):Int)]))]
def bentF_x(L:(List Int))(p:Nat)(f:Flt):Ax Tryz.prog noS (Tap×Flt):=
 (.say (fun R=>Rf (α:=List AV) [] (Rf (α:=List AV) (f.srcs.map AV.int)
(ck (decide (0+f.srcs.length≤1000000))
R))) (.app 113 AV.int [] f.srcs
(.callH [0] (N_h L p 4) 193
(.br 241 ((Mod (rawV L p) 4)==0) (.callH [0] (Range_h L (rawP L p) 0 3) 257
(.say (Rf (f.srcs.map AV.int)) (.cmdL (.frzE 113 (f.srcs.map AV.int) (pureBL_map (fun _=>rfl) f.srcs)) (.retH ((⟨L,rawP L (rawP L p)⟩:Tap),(⟨rng L (rawP L p) 0 3,f.srcs⟩:Flt)) ⟨[(4,.k,.ref 1 0)],[.box (.agg [.sl 1 (L.map AV.int) false,.int (((rawP L (rawP L p)):Nat):Int)]),.box (.agg [.int (rng L (rawP L p) 0 3),.sl 1 (f.srcs.map AV.int) false])]⟩ [0,17]))))
(.br 273 ((Mod (rawV L p) 4)==1) (.req 337 ([0,1,99,100]≠[]) fun h1 =>
(.callH [0] (Pick_h L (rawP L p) [0,1,99,100] h1) 337
(.say (fun R=>Rf (α:=List AV) (f.srcs.map AV.int) (Rf (α:=List AV) [.int (pickI [0,1,99,100] (rawV L (rawP L p)))]
(ck (decide (f.srcs.length+1≤1000000))
R))) (.app 369 AV.int f.srcs [pickI [0,1,99,100] (rawV L (rawP L p))]
(.say (Rf ((f.srcs++[pickI [0,1,99,100] (rawV L (rawP L p))]).map AV.int)) (.cmdL (.frzE 369 ((f.srcs++[pickI [0,1,99,100] (rawV L (rawP L p))]).map AV.int) (pureBL_map (fun _=>rfl) (f.srcs++[pickI [0,1,99,100] (rawV L (rawP L p))]))) (.retH ((⟨L,rawP L (rawP L p)⟩:Tap),(⟨f.mode,f.srcs++[pickI [0,1,99,100] (rawV L (rawP L p))]⟩:Flt)) ⟨[(4,.k,.ref 1 0)],[.box (.agg [.sl 1 (L.map AV.int) false,.int (((rawP L (rawP L p)):Nat):Int)]),.box (.agg [.int f.mode,.sl 1 ((f.srcs++[pickI [0,1,99,100] (rawV L (rawP L p))]).map AV.int) false])]⟩ [0,17])))))))
(.br 305 ((Mod (rawV L p) 4)==2) (.br 369 (decide (0<((f.srcs.map AV.int).length:Int))) (.say (ck (decide (0<((f.srcs.map AV.int).length:Int)))) (.el 449 AV.int f.srcs (fun R=>Rf (f.srcs.map AV.int) (ck (decide (0<f.srcs.length))
(∀x2,f.srcs[0]?=some x2 →
(R x2)))) fun x2 =>
(.say (fun R=>Rf (α:=List AV) (f.srcs.map AV.int) (Rf (α:=List AV) [.int x2]
(ck (decide (f.srcs.length+1≤1000000))
R))) (.app 481 AV.int f.srcs [x2]
(.say (Rf ((f.srcs++[x2]).map AV.int)) (.cmdL (.frzE 481 ((f.srcs++[x2]).map AV.int) (pureBL_map (fun _=>rfl) (f.srcs++[x2]))) (.retH ((⟨L,rawP L p⟩:Tap),(⟨f.mode,f.srcs++[x2]⟩:Flt)) ⟨[(4,.k,.ref 1 0)],[.box (.agg [.sl 1 (L.map AV.int) false,.int (((rawP L p):Nat):Int)]),.box (.agg [.int f.mode,.sl 1 ((f.srcs++[x2]).map AV.int) false])]⟩ [0,17])))))))
(.say (Rf (f.srcs.map AV.int)) (.cmdL (.frzE 113 (f.srcs.map AV.int) (pureBL_map (fun _=>rfl) f.srcs)) (.retH ((⟨L,rawP L p⟩:Tap),f) ⟨[(4,.k,.ref 1 0)],[.box (.agg [.sl 1 (L.map AV.int) false,.int (((rawP L p):Nat):Int)]),.box (.agg [.int f.mode,.sl 1 (f.srcs.map AV.int) false])]⟩ [0,17]))))
(.br 369 (decide (0<((f.srcs.map AV.int).length:Int))) (.req 433 ([-1,0,100]≠[]) fun h3 =>
(.callH [0] (Pick_h L (rawP L p) [-1,0,100] h3) 433
(.say (ck (decide (0<((f.srcs.map AV.int).length:Int)))) (.st 465 AV.int f.srcs (fun y4=>(pickI [-1,0,100] (rawV L (rawP L p)))) (fun R=>Rf (f.srcs.map AV.int) (ck (decide (0<f.srcs.length))
(∀y4,f.srcs[0]?=some y4→Rf (AV.int (pickI [-1,0,100] (rawV L (rawP L p))))
((R y4))))) fun y4 =>
(.say (Rf ((f.srcs.set 0 (pickI [-1,0,100] (rawV L (rawP L p)))).map AV.int)) (.cmdL (.frzE 113 ((f.srcs.set 0 (pickI [-1,0,100] (rawV L (rawP L p)))).map AV.int) (pureBL_map (fun _=>rfl) (f.srcs.set 0 (pickI [-1,0,100] (rawV L (rawP L p)))))) (.retH ((⟨L,rawP L (rawP L p)⟩:Tap),(⟨f.mode,f.srcs.set 0 (pickI [-1,0,100] (rawV L (rawP L p)))⟩:Flt)) ⟨[(4,.k,.ref 1 0)],[.box (.agg [.sl 1 (L.map AV.int) false,.int (((rawP L (rawP L p)):Nat):Int)]),.box (.agg [.int f.mode,.sl 1 ((f.srcs.set 0 (pickI [-1,0,100] (rawV L (rawP L p)))).map AV.int) false])]⟩ [0,17])))))))
(.say (Rf (f.srcs.map AV.int)) (.cmdL (.frzE 113 (f.srcs.map AV.int) (pureBL_map (fun _=>rfl) f.srcs)) (.retH ((⟨L,rawP L p⟩:Tap),f) ⟨[(4,.k,.ref 1 0)],[.box (.agg [.sl 1 (L.map AV.int) false,.int (((rawP L p):Nat):Int)]),.box (.agg [.int f.mode,.sl 1 (f.srcs.map AV.int) false])]⟩ [0,17]))))))))))
def bentF_vc(L:(List Int))(p:Nat)(f:Flt)(r0:Tap×Flt):Prop:=(bentF_x L p f).vc bentF_e bentF_b r0
theorem bentF_p(L:List Int)(p:Nat)(f:Flt)(h:f.srcs.length≤900000)(ok:bentF_a L p f):bentF_vc L p f ((⟨L,(bentF L p f).2⟩:Tap),(bentF L p f).1):=by
 dsimp only [bentF_vc,bentF_x,noS,Ax.vp,Ax.vc];simp only [vcU,rfU,List.length_map]
 refine ⟨by omega,fun c=>by simp [bentF,eq_of_beq c],fun c0=>?_⟩
 have c0:¬Mod (rawV L p) 4=0:=by simpa using c0
 refine ⟨fun c=>⟨by simp,by omega,by simp [bentF,eq_of_beq c]⟩,fun c1=>?_⟩
 have c1:¬Mod (rawV L p) 4=1:=by simpa using c1
 refine ⟨fun c=>⟨fun q=>⟨q,by omega,fun x hx=>⟨by omega,?_⟩⟩,fun q=>?_⟩,fun c2=>?_⟩
 ·have c:=eq_of_beq c
  have hx:f.srcs.getD 0 0=x:=by rw [List.getD_eq_getElem?_getD,hx];rfl
  rw [bentF,if_neg c0,if_neg c1,if_pos c,if_pos q,hx]
 ·have c:=eq_of_beq c
  rw [bentF,if_neg c0,if_neg c1,if_pos c,if_neg q]
 have c2:¬Mod (rawV L p) 4=2:=by simpa using c2
 refine ⟨fun q=>⟨by simp,q,by omega,fun x hx=>?_⟩,fun q=>?_⟩
 ·rw [bentF,if_neg c0,if_neg c1,if_neg c2,if_pos q]
 ·rw [bentF,if_neg c0,if_neg c1,if_neg c2,if_neg q]
def bentF_h(L:(List Int))(p:Nat)(f:Flt)(h:f.srcs.length≤900000):HC Tryz.prog:=⟨81,[.k,(.a [.k,(.s 1)])],[.ref 0 0,.agg [.int f.mode,.sl 1 (f.srcs.map AV.int) false]],[.box (.agg [.sl 1 (L.map AV.int) false,.int ((p:Nat):Int)])],bentF_e ((⟨L,(bentF L p f).2⟩:Tap),(bentF L p f).1),bentF_b ((⟨L,(bentF L p f).2⟩:Tap),(bentF L p f).1),HSpec.of_okh fun ok ok2=>have ok:bentF_a L p f:=⟨ok,ok2 _ (by simp)⟩;mxH_of (sh:=(.a [.k,(.s 1)])) (enc:=bentF_e) (hB:=bentF_b) (a:=(bentF_x L p f).an) (bentF_p L p f h ok) (by kernel_rfl),fnB_ok (by kernel_rfl),HcOk.of (by simp [hcB,belBL,AV.belB,allB,okBk,okBkO,bentF_e,bentF_b,pureBL_map (v:=AV.int) (fun _=>rfl)])⟩
def bentS_a(L:(List Int))(p:Nat)(s:Spk):Prop:=okL [.ref 0 0,.agg [.int s.router,.int s.epoch,.int s.last,.sl 4 (s.items.map Itm.v) false,.sl 3 (s.peers.map Per.v) false]]∧(.box (.agg [.sl 1 (L.map AV.int) false,.int ((p:Nat):Int)]):Blk).ok
abbrev bentS_v1(L:(List Int))(p:Nat)(s:Spk):=(Mod (rawV L (rawP L p)) ((s.items.map Itm.v).length:Int))
abbrev bentS_v2(L:(List Int))(p:Nat)(s:Spk):=(Mod (rawV L (rawP L p)) ((s.peers.map Per.v).length:Int))
abbrev bentS_v3(L:(List Int))(p:Nat):=(filterT L (rawP L (rawP L p)))
abbrev bentS_v4(L:(List Int))(p:Nat):=(rawV L (rawP L (rawP L p)))
abbrev bentS_v0(L:(List Int))(p:Nat):=(bentF L ((bentS_v3 L p).2) ((bentS_v3 L p).1))
def bentS_e(r:Tap×Spk):AV:=.agg [.int r.2.router,.int r.2.epoch,.int r.2.last,.sl 4 (r.2.items.map Itm.v) false,.sl 3 (r.2.peers.map Per.v) false]
def bentS_b(r:Tap×Spk):List (Option Blk):=[some (.box (.agg [.sl 1 (r.1.L.map AV.int) false,.int ((r.1.p:Nat):Int)]))]
def bentS_x(L:(List Int))(p:Nat)(s:Spk):Ax Tryz.prog noS (Tap×Spk):=
 (.say (fun R=>Rf (α:=List AV) [] (Rf (α:=List AV) (s.items.map Itm.v)
(ck (decide (0+s.items.length≤1000000))
R))) (.app 81 Itm.v [] s.items
(.say (fun R=>Rf (α:=List AV) [] (Rf (α:=List AV) (s.peers.map Per.v)
(ck (decide (0+s.peers.length≤1000000))
R))) (.app 145 Per.v [] s.peers
(.callH [0] (N_h L p 8) 241
(.br 289 ((Mod (rawV L p) 8)==0) (.req 321 ([0,99,100,7]≠[]) fun h1 =>
(.callH [0] (Pick_h L (rawP L p) [0,99,100,7] h1) 321
(.say (Rf (s.peers.map Per.v)) (.cmdL (.frzE 145 (s.peers.map Per.v) (pureBL_map (fun _=>rfl) s.peers)) (.say (Rf (s.items.map Itm.v)) (.cmdL (.frzE 81 (s.items.map Itm.v) (pureBL_map (fun _=>rfl) s.items)) (.retH ((⟨L,rawP L (rawP L p)⟩:Tap),(⟨pickI [0,99,100,7] (rawV L (rawP L p)),s.epoch,s.last,s.items,s.peers⟩:Spk)) ⟨[(4,.k,.ref 1 0)],[.box (.agg [.sl 1 (L.map AV.int) false,.int (((rawP L (rawP L p)):Nat):Int)]),.box (.agg [.int (pickI [0,99,100,7] (rawV L (rawP L p))),.int s.epoch,.int s.last,.sl 4 (s.items.map Itm.v) false,.sl 3 (s.peers.map Per.v) false])]⟩ [0,17])))))))
(.br 321 ((Mod (rawV L p) 8)==1) (.req 353 ([0,1000000,1000001]≠[]) fun h2 =>
(.callH [0] (Pick_h L (rawP L p) [0,1000000,1000001] h2) 353
(.say (Rf (s.peers.map Per.v)) (.cmdL (.frzE 145 (s.peers.map Per.v) (pureBL_map (fun _=>rfl) s.peers)) (.say (Rf (s.items.map Itm.v)) (.cmdL (.frzE 81 (s.items.map Itm.v) (pureBL_map (fun _=>rfl) s.items)) (.retH ((⟨L,rawP L (rawP L p)⟩:Tap),(⟨s.router,pickI [0,1000000,1000001] (rawV L (rawP L p)),s.last,s.items,s.peers⟩:Spk)) ⟨[(4,.k,.ref 1 0)],[.box (.agg [.sl 1 (L.map AV.int) false,.int (((rawP L (rawP L p)):Nat):Int)]),.box (.agg [.int s.router,.int (pickI [0,1000000,1000001] (rawV L (rawP L p))),.int s.last,.sl 4 (s.items.map Itm.v) false,.sl 3 (s.peers.map Per.v) false])]⟩ [0,17])))))))
(.br 353 ((Mod (rawV L p) 8)==2) (.req 385 ([-1,0,1000000,1000001]≠[]) fun h3 =>
(.callH [0] (Pick_h L (rawP L p) [-1,0,1000000,1000001] h3) 385
(.say (Rf (s.peers.map Per.v)) (.cmdL (.frzE 145 (s.peers.map Per.v) (pureBL_map (fun _=>rfl) s.peers)) (.say (Rf (s.items.map Itm.v)) (.cmdL (.frzE 81 (s.items.map Itm.v) (pureBL_map (fun _=>rfl) s.items)) (.retH ((⟨L,rawP L (rawP L p)⟩:Tap),(⟨s.router,s.epoch,pickI [-1,0,1000000,1000001] (rawV L (rawP L p)),s.items,s.peers⟩:Spk)) ⟨[(4,.k,.ref 1 0)],[.box (.agg [.sl 1 (L.map AV.int) false,.int (((rawP L (rawP L p)):Nat):Int)]),.box (.agg [.int s.router,.int s.epoch,.int (pickI [-1,0,1000000,1000001] (rawV L (rawP L p))),.sl 4 (s.items.map Itm.v) false,.sl 3 (s.peers.map Per.v) false])]⟩ [0,17])))))))
(.br 385 ((Mod (rawV L p) 8)==3) (.callH [0] (Range_h L (rawP L p) 0 7) 465
(.callH [0] (filterT_h L (rawP L (rawP L p))) 497
(.say (fun R=>Rf (α:=List AV) (s.items.map Itm.v) (Rf (α:=List AV) [.agg [.int s.last,.int (rng L (rawP L p) 0 7),.int (((bentS_v3 L p).1).mode),.sl 1 ((((bentS_v3 L p).1).srcs).map AV.int) false]]
(ck (decide (s.items.length+1≤1000000))
R))) (.app 545 Itm.v s.items [(⟨s.last,rng L (rawP L p) 0 7,((bentS_v3 L p).1).mode,((bentS_v3 L p).1).srcs⟩:Itm)]
(.say (Rf (s.peers.map Per.v)) (.cmdL (.frzE 145 (s.peers.map Per.v) (pureBL_map (fun _=>rfl) s.peers)) (.say (Rf ((s.items++[(⟨s.last,rng L (rawP L p) 0 7,((bentS_v3 L p).1).mode,((bentS_v3 L p).1).srcs⟩:Itm)]).map Itm.v)) (.cmdL (.frzE 545 ((s.items++[(⟨s.last,rng L (rawP L p) 0 7,((bentS_v3 L p).1).mode,((bentS_v3 L p).1).srcs⟩:Itm)]).map Itm.v) (pureBL_map (fun _=>rfl) (s.items++[(⟨s.last,rng L (rawP L p) 0 7,((bentS_v3 L p).1).mode,((bentS_v3 L p).1).srcs⟩:Itm)]))) (.retH ((⟨L,(bentS_v3 L p).2⟩:Tap),(⟨s.router,s.epoch,s.last,s.items++[(⟨s.last,rng L (rawP L p) 0 7,((bentS_v3 L p).1).mode,((bentS_v3 L p).1).srcs⟩:Itm)],s.peers⟩:Spk)) ⟨[(4,.k,.ref 1 0)],[.box (.agg [.sl 1 (L.map AV.int) false,.int ((((bentS_v3 L p).2):Nat):Int)]),.box (.agg [.int s.router,.int s.epoch,.int s.last,.sl 4 ((s.items++[(⟨s.last,rng L (rawP L p) 0 7,((bentS_v3 L p).1).mode,((bentS_v3 L p).1).srcs⟩:Itm)]).map Itm.v) false,.sl 3 (s.peers.map Per.v) false])]⟩ [0,17])))))))))
(.br 417 ((Mod (rawV L p) 8)==4) (.br 481 (decide (0<((s.items.map Itm.v).length:Int))) (.callH [0] (N_h L (rawP L p) ((s.items.map Itm.v).length:Int)) 577
(.callH [0] (filterT_h L (rawP L (rawP L p))) 625
(.req 641 (((bentS_v3 L p).1).srcs.length≤900000) fun h4 =>
(.callH [0] (bentF_h L ((bentS_v3 L p).2) ((bentS_v3 L p).1) h4) 641
(.say (ck (cond (decide (0≤(bentS_v1 L p s))) (decide ((bentS_v1 L p s)<((s.items.map Itm.v).length:Int))) false)) (.st 689 Itm.v s.items (fun y5=>(⟨y5.ver,y5.grp,((bentS_v0 L p).1).mode,((bentS_v0 L p).1).srcs⟩:Itm)) (fun R=>Rf (s.items.map Itm.v) (ck (decide ((bentS_v1 L p s).toNat<s.items.length))
(∀y5,s.items[(bentS_v1 L p s).toNat]?=some y5→Rf (Itm.v (⟨y5.ver,y5.grp,((bentS_v0 L p).1).mode,((bentS_v0 L p).1).srcs⟩:Itm))
((R y5))))) fun y5 =>
(.say (Rf (s.peers.map Per.v)) (.cmdL (.frzE 145 (s.peers.map Per.v) (pureBL_map (fun _=>rfl) s.peers)) (.say (Rf ((s.items.set ((bentS_v1 L p s).toNat) (⟨y5.ver,y5.grp,((bentS_v0 L p).1).mode,((bentS_v0 L p).1).srcs⟩:Itm)).map Itm.v)) (.cmdL (.frzE 81 ((s.items.set ((bentS_v1 L p s).toNat) (⟨y5.ver,y5.grp,((bentS_v0 L p).1).mode,((bentS_v0 L p).1).srcs⟩:Itm)).map Itm.v) (pureBL_map (fun _=>rfl) (s.items.set ((bentS_v1 L p s).toNat) (⟨y5.ver,y5.grp,((bentS_v0 L p).1).mode,((bentS_v0 L p).1).srcs⟩:Itm)))) (.retH ((⟨L,(bentS_v0 L p).2⟩:Tap),(⟨s.router,s.epoch,s.last,s.items.set ((bentS_v1 L p s).toNat) (⟨y5.ver,y5.grp,((bentS_v0 L p).1).mode,((bentS_v0 L p).1).srcs⟩:Itm),s.peers⟩:Spk)) ⟨[(4,.k,.ref 1 0)],[.box (.agg [.sl 1 (L.map AV.int) false,.int ((((bentS_v0 L p).2):Nat):Int)]),.box (.agg [.int s.router,.int s.epoch,.int s.last,.sl 4 ((s.items.set ((bentS_v1 L p s).toNat) (⟨y5.ver,y5.grp,((bentS_v0 L p).1).mode,((bentS_v0 L p).1).srcs⟩:Itm)).map Itm.v) false,.sl 3 (s.peers.map Per.v) false])]⟩ [0,17])))))))))))
(.say (Rf (s.peers.map Per.v)) (.cmdL (.frzE 145 (s.peers.map Per.v) (pureBL_map (fun _=>rfl) s.peers)) (.say (Rf (s.items.map Itm.v)) (.cmdL (.frzE 81 (s.items.map Itm.v) (pureBL_map (fun _=>rfl) s.items)) (.retH ((⟨L,rawP L p⟩:Tap),s) ⟨[(4,.k,.ref 1 0)],[.box (.agg [.sl 1 (L.map AV.int) false,.int (((rawP L p):Nat):Int)]),.box (.agg [.int s.router,.int s.epoch,.int s.last,.sl 4 (s.items.map Itm.v) false,.sl 3 (s.peers.map Per.v) false])]⟩ [0,17]))))))
(.br 449 ((Mod (rawV L p) 8)==5) (.br 513 (decide (0<((s.items.map Itm.v).length:Int))) (.callH [0] (N_h L (rawP L p) ((s.items.map Itm.v).length:Int)) 609
(.callH [0] (Range_h L (rawP L (rawP L p)) (-1) (W (s.last+1))) 689
(.say (ck (cond (decide (0≤(bentS_v1 L p s))) (decide ((bentS_v1 L p s)<((s.items.map Itm.v).length:Int))) false)) (.st 737 Itm.v s.items (fun y6=>(⟨rng L (rawP L (rawP L p)) (-1) (W (s.last+1)),y6.grp,y6.mode,y6.srcs⟩:Itm)) (fun R=>Rf (s.items.map Itm.v) (ck (decide ((bentS_v1 L p s).toNat<s.items.length))
(∀y6,s.items[(bentS_v1 L p s).toNat]?=some y6→Rf (Itm.v (⟨rng L (rawP L (rawP L p)) (-1) (W (s.last+1)),y6.grp,y6.mode,y6.srcs⟩:Itm))
((R y6))))) fun y6 =>
(.say (Rf (s.peers.map Per.v)) (.cmdL (.frzE 145 (s.peers.map Per.v) (pureBL_map (fun _=>rfl) s.peers)) (.say (Rf ((s.items.set ((bentS_v1 L p s).toNat) (⟨rng L (rawP L (rawP L p)) (-1) (W (s.last+1)),y6.grp,y6.mode,y6.srcs⟩:Itm)).map Itm.v)) (.cmdL (.frzE 81 ((s.items.set ((bentS_v1 L p s).toNat) (⟨rng L (rawP L (rawP L p)) (-1) (W (s.last+1)),y6.grp,y6.mode,y6.srcs⟩:Itm)).map Itm.v) (pureBL_map (fun _=>rfl) (s.items.set ((bentS_v1 L p s).toNat) (⟨rng L (rawP L (rawP L p)) (-1) (W (s.last+1)),y6.grp,y6.mode,y6.srcs⟩:Itm)))) (.retH ((⟨L,rawP L (rawP L (rawP L p))⟩:Tap),(⟨s.router,s.epoch,s.last,s.items.set ((bentS_v1 L p s).toNat) (⟨rng L (rawP L (rawP L p)) (-1) (W (s.last+1)),y6.grp,y6.mode,y6.srcs⟩:Itm),s.peers⟩:Spk)) ⟨[(4,.k,.ref 1 0)],[.box (.agg [.sl 1 (L.map AV.int) false,.int (((rawP L (rawP L (rawP L p))):Nat):Int)]),.box (.agg [.int s.router,.int s.epoch,.int s.last,.sl 4 ((s.items.set ((bentS_v1 L p s).toNat) (⟨rng L (rawP L (rawP L p)) (-1) (W (s.last+1)),y6.grp,y6.mode,y6.srcs⟩:Itm)).map Itm.v) false,.sl 3 (s.peers.map Per.v) false])]⟩ [0,17])))))))))
(.say (Rf (s.peers.map Per.v)) (.cmdL (.frzE 145 (s.peers.map Per.v) (pureBL_map (fun _=>rfl) s.peers)) (.say (Rf (s.items.map Itm.v)) (.cmdL (.frzE 81 (s.items.map Itm.v) (pureBL_map (fun _=>rfl) s.items)) (.retH ((⟨L,rawP L p⟩:Tap),s) ⟨[(4,.k,.ref 1 0)],[.box (.agg [.sl 1 (L.map AV.int) false,.int (((rawP L p):Nat):Int)]),.box (.agg [.int s.router,.int s.epoch,.int s.last,.sl 4 (s.items.map Itm.v) false,.sl 3 (s.peers.map Per.v) false])]⟩ [0,17]))))))
(.br 481 ((Mod (rawV L p) 8)==6) (.br 545 (decide (0<((s.peers.map Per.v).length:Int))) (.callH [0] (N_h L (rawP L p) ((s.peers.map Per.v).length:Int)) 641
(.req 769 ([-1,s.last,W (s.last+1)]≠[]) fun h7 =>
(.callH [0] (Pick_h L (rawP L (rawP L p)) [-1,s.last,W (s.last+1)] h7) 769
(.say (ck (cond (decide (0≤(bentS_v2 L p s))) (decide ((bentS_v2 L p s)<((s.peers.map Per.v).length:Int))) false)) (.st 817 Per.v s.peers (fun y8=>(⟨y8.router,y8.epoch,pickI [-1,s.last,W (s.last+1)] (bentS_v4 L p)⟩:Per)) (fun R=>Rf (s.peers.map Per.v) (ck (decide ((bentS_v2 L p s).toNat<s.peers.length))
(∀y8,s.peers[(bentS_v2 L p s).toNat]?=some y8→Rf (Per.v (⟨y8.router,y8.epoch,pickI [-1,s.last,W (s.last+1)] (bentS_v4 L p)⟩:Per))
((R y8))))) fun y8 =>
(.say (Rf ((s.peers.set ((bentS_v2 L p s).toNat) (⟨y8.router,y8.epoch,pickI [-1,s.last,W (s.last+1)] (bentS_v4 L p)⟩:Per)).map Per.v)) (.cmdL (.frzE 145 ((s.peers.set ((bentS_v2 L p s).toNat) (⟨y8.router,y8.epoch,pickI [-1,s.last,W (s.last+1)] (bentS_v4 L p)⟩:Per)).map Per.v) (pureBL_map (fun _=>rfl) (s.peers.set ((bentS_v2 L p s).toNat) (⟨y8.router,y8.epoch,pickI [-1,s.last,W (s.last+1)] (bentS_v4 L p)⟩:Per)))) (.say (Rf (s.items.map Itm.v)) (.cmdL (.frzE 81 (s.items.map Itm.v) (pureBL_map (fun _=>rfl) s.items)) (.retH ((⟨L,rawP L (rawP L (rawP L p))⟩:Tap),(⟨s.router,s.epoch,s.last,s.items,s.peers.set ((bentS_v2 L p s).toNat) (⟨y8.router,y8.epoch,pickI [-1,s.last,W (s.last+1)] (bentS_v4 L p)⟩:Per)⟩:Spk)) ⟨[(4,.k,.ref 1 0)],[.box (.agg [.sl 1 (L.map AV.int) false,.int (((rawP L (rawP L (rawP L p))):Nat):Int)]),.box (.agg [.int s.router,.int s.epoch,.int s.last,.sl 4 (s.items.map Itm.v) false,.sl 3 ((s.peers.set ((bentS_v2 L p s).toNat) (⟨y8.router,y8.epoch,pickI [-1,s.last,W (s.last+1)] (bentS_v4 L p)⟩:Per)).map Per.v) false])]⟩ [0,17]))))))))))
(.say (Rf (s.peers.map Per.v)) (.cmdL (.frzE 145 (s.peers.map Per.v) (pureBL_map (fun _=>rfl) s.peers)) (.say (Rf (s.items.map Itm.v)) (.cmdL (.frzE 81 (s.items.map Itm.v) (pureBL_map (fun _=>rfl) s.items)) (.retH ((⟨L,rawP L p⟩:Tap),s) ⟨[(4,.k,.ref 1 0)],[.box (.agg [.sl 1 (L.map AV.int) false,.int (((rawP L p):Nat):Int)]),.box (.agg [.int s.router,.int s.epoch,.int s.last,.sl 4 (s.items.map Itm.v) false,.sl 3 (s.peers.map Per.v) false])]⟩ [0,17]))))))
(.br 545 (decide (0<((s.peers.map Per.v).length:Int))) (.callH [0] (N_h L (rawP L p) ((s.peers.map Per.v).length:Int)) 641
(.req 721 ([0,s.router,7,100]≠[]) fun h9 =>
(.callH [0] (Pick_h L (rawP L (rawP L p)) [0,s.router,7,100] h9) 721
(.say (ck (cond (decide (0≤(bentS_v2 L p s))) (decide ((bentS_v2 L p s)<((s.peers.map Per.v).length:Int))) false)) (.st 769 Per.v s.peers (fun y10=>(⟨pickI [0,s.router,7,100] (bentS_v4 L p),y10.epoch,y10.acked⟩:Per)) (fun R=>Rf (s.peers.map Per.v) (ck (decide ((bentS_v2 L p s).toNat<s.peers.length))
(∀y10,s.peers[(bentS_v2 L p s).toNat]?=some y10→Rf (Per.v (⟨pickI [0,s.router,7,100] (bentS_v4 L p),y10.epoch,y10.acked⟩:Per))
((R y10))))) fun y10 =>
(.say (Rf ((s.peers.set ((bentS_v2 L p s).toNat) (⟨pickI [0,s.router,7,100] (bentS_v4 L p),y10.epoch,y10.acked⟩:Per)).map Per.v)) (.cmdL (.frzE 145 ((s.peers.set ((bentS_v2 L p s).toNat) (⟨pickI [0,s.router,7,100] (bentS_v4 L p),y10.epoch,y10.acked⟩:Per)).map Per.v) (pureBL_map (fun _=>rfl) (s.peers.set ((bentS_v2 L p s).toNat) (⟨pickI [0,s.router,7,100] (bentS_v4 L p),y10.epoch,y10.acked⟩:Per)))) (.say (Rf (s.items.map Itm.v)) (.cmdL (.frzE 81 (s.items.map Itm.v) (pureBL_map (fun _=>rfl) s.items)) (.retH ((⟨L,rawP L (rawP L (rawP L p))⟩:Tap),(⟨s.router,s.epoch,s.last,s.items,s.peers.set ((bentS_v2 L p s).toNat) (⟨pickI [0,s.router,7,100] (bentS_v4 L p),y10.epoch,y10.acked⟩:Per)⟩:Spk)) ⟨[(4,.k,.ref 1 0)],[.box (.agg [.sl 1 (L.map AV.int) false,.int (((rawP L (rawP L (rawP L p))):Nat):Int)]),.box (.agg [.int s.router,.int s.epoch,.int s.last,.sl 4 (s.items.map Itm.v) false,.sl 3 ((s.peers.set ((bentS_v2 L p s).toNat) (⟨pickI [0,s.router,7,100] (bentS_v4 L p),y10.epoch,y10.acked⟩:Per)).map Per.v) false])]⟩ [0,17]))))))))))
(.say (Rf (s.peers.map Per.v)) (.cmdL (.frzE 145 (s.peers.map Per.v) (pureBL_map (fun _=>rfl) s.peers)) (.say (Rf (s.items.map Itm.v)) (.cmdL (.frzE 81 (s.items.map Itm.v) (pureBL_map (fun _=>rfl) s.items)) (.retH ((⟨L,rawP L p⟩:Tap),s) ⟨[(4,.k,.ref 1 0)],[.box (.agg [.sl 1 (L.map AV.int) false,.int (((rawP L p):Nat):Int)]),.box (.agg [.int s.router,.int s.epoch,.int s.last,.sl 4 (s.items.map Itm.v) false,.sl 3 (s.peers.map Per.v) false])]⟩ [0,17]))))))))))))))))))
def bentS_vc(L:(List Int))(p:Nat)(s:Spk)(r0:Tap×Spk):Prop:=(bentS_x L p s).vc bentS_e bentS_b r0
theorem bentS_p(L:List Int)(p:Nat)(s:Spk)(h:s.items.length≤900000∧s.peers.length≤900000)(ok:bentS_a L p s):bentS_vc L p s ((⟨L,(bentS L p s).2⟩:Tap),(bentS L p s).1):=by
 have hf:(filterT L (rawP L (rawP L p))).1.srcs.length≤900000:=by have:=srcs_len (filterT_in L (rawP L (rawP L p)));omega
 have cnd:∀{n:Nat},(0:Int)<n→(cond (decide (0≤Mod (rawV L (rawP L p)) (n:Int))) (decide (Mod (rawV L (rawP L p)) (n:Int)<(n:Int))) false)=true∧(Mod (rawV L (rawP L p)) (n:Int)).toNat<n:=fun {n} q=>by
  have hi:=Mod_range (x:=rawV L (rawP L p)) (n:=(n:Int)) (by omega)
  exact ⟨by rw [decide_eq_true hi.1,decide_eq_true hi.2];rfl,by omega⟩
 have itm:∀{x:Itm},s.items[(Mod (rawV L (rawP L p)) (s.items.length:Int)).toNat]?=some x→itmAt s.items (Mod (rawV L (rawP L p)) (s.items.length:Int)).toNat=x:=fun hx=>by rw [itmAt,List.getD_eq_getElem?_getD,hx];rfl
 have per:∀{x:Per},s.peers[(Mod (rawV L (rawP L p)) (s.peers.length:Int)).toNat]?=some x→perAt s.peers (Mod (rawV L (rawP L p)) (s.peers.length:Int)).toNat=x:=fun hx=>by rw [perAt,List.getD_eq_getElem?_getD,hx];rfl
 dsimp only [bentS_vc,bentS_x,noS,bentS_v0,bentS_v1,bentS_v2,bentS_v3,bentS_v4,Ax.vp,Ax.vc];simp only [vcU,rfU,List.length_map]
 refine ⟨by omega,by omega,fun c=>⟨by simp,by simp [bentS,eq_of_beq c]⟩,fun c0=>?_⟩
 have c0:¬Mod (rawV L p) 8=0:=by simpa using c0
 refine ⟨fun c=>⟨by simp,by simp [bentS,eq_of_beq c]⟩,fun c1=>?_⟩
 have c1:¬Mod (rawV L p) 8=1:=by simpa using c1
 refine ⟨fun c=>⟨by simp,by simp [bentS,eq_of_beq c]⟩,fun c2=>?_⟩
 have c2:¬Mod (rawV L p) 8=2:=by simpa using c2
 refine ⟨fun c=>⟨by omega,by simp [bentS,eq_of_beq c]⟩,fun c3=>?_⟩
 have c3:¬Mod (rawV L p) 8=3:=by simpa using c3
 refine ⟨fun c=>⟨fun q=>⟨hf,(cnd q).1,(cnd q).2,fun x hx=>?_⟩,fun q=>?_⟩,fun c4=>?_⟩
 ·have c:=eq_of_beq c
  simp only [bentS,c,if_pos q,itm hx];rfl
 ·have c:=eq_of_beq c
  simp only [bentS,c,if_neg q];rfl
 have c4:¬Mod (rawV L p) 8=4:=by simpa using c4
 refine ⟨fun c=>⟨fun q=>⟨(cnd q).1,(cnd q).2,fun x hx=>?_⟩,fun q=>?_⟩,fun c5=>?_⟩
 ·have c:=eq_of_beq c
  simp only [bentS,c,if_pos q,itm hx];rfl
 ·have c:=eq_of_beq c
  simp only [bentS,c,if_neg q];rfl
 have c5:¬Mod (rawV L p) 8=5:=by simpa using c5
 refine ⟨fun c=>⟨fun q=>⟨by simp,(cnd q).1,(cnd q).2,fun x hx=>?_⟩,fun q=>?_⟩,fun c6=>?_⟩
 ·have c:=eq_of_beq c
  simp only [bentS,c,if_pos q,per hx];rfl
 ·have c:=eq_of_beq c
  simp only [bentS,c,if_neg q];rfl
 have c6:¬Mod (rawV L p) 8=6:=by simpa using c6
 refine ⟨fun q=>⟨by simp,(cnd q).1,(cnd q).2,fun x hx=>?_⟩,fun q=>?_⟩
 ·simp only [bentS,if_neg c0,if_neg c1,if_neg c2,if_neg c3,if_neg c4,if_neg c5,if_neg c6,if_pos q,per hx]
 ·simp only [bentS,if_neg c0,if_neg c1,if_neg c2,if_neg c3,if_neg c4,if_neg c5,if_neg c6,if_neg q]
def bentS_h(L:(List Int))(p:Nat)(s:Spk)(h:s.items.length≤900000∧s.peers.length≤900000):HC Tryz.prog:=⟨34,[.k,(.a [.k,.k,.k,(.s 4),(.s 3)])],[.ref 0 0,.agg [.int s.router,.int s.epoch,.int s.last,.sl 4 (s.items.map Itm.v) false,.sl 3 (s.peers.map Per.v) false]],[.box (.agg [.sl 1 (L.map AV.int) false,.int ((p:Nat):Int)])],bentS_e ((⟨L,(bentS L p s).2⟩:Tap),(bentS L p s).1),bentS_b ((⟨L,(bentS L p s).2⟩:Tap),(bentS L p s).1),HSpec.of_okh fun ok ok2=>have ok:bentS_a L p s:=⟨ok,ok2 _ (by simp)⟩;mxH_of (sh:=(.a [.k,.k,.k,(.s 4),(.s 3)])) (enc:=bentS_e) (hB:=bentS_b) (a:=(bentS_x L p s).an) (bentS_p L p s h ok) (by kernel_rfl),fnB_ok (by kernel_rfl),HcOk.of (by simp [hcB,belBL,AV.belB,allB,okBk,okBkO,bentS_e,bentS_b,pureBL_map (v:=AV.int) (fun _=>rfl),pureBL_map (v:=Itm.v) (fun _=>rfl),pureBL_map (v:=Per.v) (fun _=>rfl)])⟩
theorem maxI_eq{a b:Int}:maxI a b=max a b:=by unfold maxI;split<;>omega
def smallL_a(l:Lsn):Prop:=okL [.agg [.int l.router,.int l.epoch,.sl 4 (l.heard.map Hrd.v) false]]
def smallL_n0(l:Lsn)(t0:Int):NF:=⟨[(1,.k,.ref 0 0),(10,.k,.int ((l.heard.map Hrd.v).length:Int)),(11,.k,.int t0)],[.box (.agg [.int l.router,.int l.epoch,.sl 4 (l.heard.map Hrd.v) false])]⟩
@[reducible] def smallL_s:Nat→Type
 | 0=>Int
 | _=>Unit
def smallL_e(r:Bool):AV:=.bool r
def smallL_x(l:Lsn)(I0:Int→Prop)(m0:Int→Nat):Ax Tryz.prog smallL_s (Bool):=
 (.br 96 (decide (30<((l.heard.map Hrd.v).length:Int))) (.ret (false))
(.loop 0 (smallL_n0 l) I0 m0 ((0):Int) [0] fun (t0:Int) b0 =>
(.br 17 (decide (t0<((l.heard.map Hrd.v).length:Int))) (.el 97 Hrd.v l.heard (fun R=>Rf (l.heard.map Hrd.v) (ck (decide (0≤t0)) (ck (decide (t0<(l.heard.length:Int)))
(∀x1,l.heard[t0.toNat]?=some x1 →
(R x1))))) fun x1 =>
(.callP (smallI_c x1.items)
(.br 177 (!(smallI x1.items)) (.ret (false))
(.bk 0 b0 ((W (t0+1)):Int) [0]))))
(.ret (true)))))
def smallL_vc(l:Lsn)(I0:Int→Prop)(m0:Int→Nat)(r0:Bool):Prop:=(smallL_x l I0 m0).vp smallL_e r0
theorem smallL_p(l:Lsn)(ok:smallL_a l):∃I m,smallL_vc l I m (smallL l):=by
 refine ⟨fun t=>∃k:Nat,t=k∧k≤l.heard.length∧(l.heard.take k).all (fun h=>smallI h.items)=true,fun t=>l.heard.length-t.toNat,?_⟩
 dsimp only [smallL_vc,smallL_x,smallL_s,Ax.vp,Ax.vc];simp only [vcU,rfU,List.length_map]
 refine ⟨fun c=>?_,fun c=>⟨⟨0,rfl,by omega,rfl⟩,?_⟩⟩
 ·unfold smallL
  rw [decide_eq_false (by omega)];rfl
 rintro _ ⟨k,rfl,hk,h⟩
 simp only [Int.toNat_natCast]
 refine ⟨fun h1=>⟨by omega,by omega,fun x hx=>⟨fun d=>?_,fun d=>?_⟩⟩,fun h1=>?_⟩
 ·have d:smallI x.items=false:=by simpa using d
  unfold smallL
  rw [decide_eq_true (by omega)]
  refine (Bool.eq_false_iff.mpr fun q=>?_).symm
  rw [Bool.and_eq_true,List.all_eq_true] at q
  have:=q.2 x (mem_of_get hx)
  rw [d] at this
  exact Bool.noConfusion this
 ·have d:smallI x.items=true:=by simpa using d
  rw [W_succ (n:=l.heard.length) (by omega) (by omega)]
  refine ⟨⟨k+1,rfl,by omega,?_⟩,by omega⟩
  obtain ⟨hk',rfl⟩:=List.getElem?_eq_some_iff.mp hx
  rw [List.take_succ_eq_append_getElem hk',List.all_append,h]
  simp [d]
 ·rw [List.take_of_length_le (by omega)] at h
  unfold smallL
  rw [decide_eq_true (by omega),h];rfl
def smallL_c(l:Lsn):PC Tryz.prog:=⟨29,[(.a [.k,.k,(.s 4)])],[.agg [.int l.router,.int l.epoch,.sl 4 (l.heard.map Hrd.v) false]],smallL_e (smallL l),PSpec.of_ok fun ok=>(smallL_p l ok).elim fun I0 h=>h.elim fun m0 h=>mxP_of (sh:=.k) (enc:=smallL_e) (a:=(smallL_x l I0 m0).an) h (by kernel_rfl) (AV.pureB_ok rfl),fnB_ok (by kernel_rfl)⟩
def sigT_a(L:(List Int))(p:Nat):Prop:=okL [.ref 0 0]∧(.box (.agg [.sl 1 (L.map AV.int) false,.int ((p:Nat):Int)]):Blk).ok
abbrev sigT_v0(L:(List Int))(p:Nat):=(rawP L (rawP L (rawP L (rawP L (rawP L p)))))
abbrev sigT_v1(L:(List Int))(p:Nat):=(rawP L (rawP L (sigT_v0 L p)))
abbrev sigT_v2(L:(List Int))(p:Nat):=(rawV L (rawP L (sigT_v0 L p)))
abbrev sigT_v3(L:(List Int))(p:Nat):=(filterT L (rawP L (rawP L (rawP L (sigT_v1 L p)))))
def sigT_n0(L:(List Int))(p:Nat)(t0:Sig):NF:=⟨[(0,.k,.ref 0 0),(2,.k,.ref 1 0),(3,.k,.ref 2 0)],[.box (.agg [.sl 1 (L.map AV.int) false,.int (((sigT_v0 L p):Nat):Int)]),.box (.agg [.int 0,.int 0,.int 0,.int 0,.int 0,.int 0,.int 0,.int 0,.int 0,.sl 0 [] true]),.box (.agg [.int t0.kind,.int t0.src,.int t0.dst,.int t0.epoch,.int t0.ver,.int t0.prev,.int t0.pep,.int t0.grp,.int t0.mode,.sl 1 (t0.srcs.map AV.int) false])]⟩
@[reducible] def sigT_s:Nat→Type
 | 0=>Sig
 | _=>Unit
def sigT_e(r:Tap×Sig):AV:=.agg [.int r.2.kind,.int r.2.src,.int r.2.dst,.int r.2.epoch,.int r.2.ver,.int r.2.prev,.int r.2.pep,.int r.2.grp,.int r.2.mode,.sl 1 (r.2.srcs.map AV.int) false]
def sigT_b(r:Tap×Sig):List (Option Blk):=[some (.box (.agg [.sl 1 (r.1.L.map AV.int) false,.int ((r.1.p:Nat):Int)]))]
def sigT_x(L:(List Int))(p:Nat)(I0:Sig→Prop):Ax Tryz.prog sigT_s (Tap×Sig):=
 (.callH [0] (Range_h L p 1 3) 33
(.callH [0] (Range_h L (rawP L p) 1 6) 65
(.callH [0] (Range_h L (rawP L (rawP L p)) 1 1000000) 113
(.req 145 ([1,2,3,rng L (rawP L (rawP L p)) 1 1000000]≠[]) fun h1 =>
(.callH [0] (Pick_h L (rawP L (rawP L (rawP L p))) [1,2,3,rng L (rawP L (rawP L p)) 1 1000000] h1) 145
(.callH [0] (N_h L (rawP L (rawP L (rawP L (rawP L p)))) 5) 257
(.join 0 (sigT_n0 L p) (fun (t0:Sig)=>I0 t0) (fun b0=>(.br 433 ((W (1+((W ((rng L (rawP L p) 1 6)+(Mod (rawV L (rawP L (rawP L (rawP L (rawP L p))))) 5))).tmod 6)))==(rng L (rawP L p) 1 6)) (.cmdL (.wkB 177 (.a [.k,.k,.k,.k,.k,.k,.k,.k,.k,.s 1])) (.bk 0 b0 (((⟨rng L p 1 3,rng L (rawP L p) 1 6,99,pickI [1,2,3,rng L (rawP L (rawP L p)) 1 1000000] (rawV L (rawP L (rawP L (rawP L p)))),0,0,0,0,0,[]⟩:Sig)):Sig) [0,1,177]))
(.cmdL (.wkB 177 (.a [.k,.k,.k,.k,.k,.k,.k,.k,.k,.s 1])) (.bk 0 b0 (((⟨rng L p 1 3,rng L (rawP L p) 1 6,W (1+((W ((rng L (rawP L p) 1 6)+(Mod (rawV L (rawP L (rawP L (rawP L (rawP L p))))) 5))).tmod 6)),pickI [1,2,3,rng L (rawP L (rawP L p)) 1 1000000] (rawV L (rawP L (rawP L (rawP L p)))),0,0,0,0,0,[]⟩:Sig)):Sig) [0,1,177])))) fun (t0:Sig) =>
(.callH [0] (Range_h L (sigT_v0 L p) 0 1000000) 35
(.req 67 ([0,1,2,5,rng L (sigT_v0 L p) 0 1000000,1000000]≠[]) fun h2 =>
(.callH [0] (Pick_h L (rawP L (sigT_v0 L p)) [0,1,2,5,rng L (sigT_v0 L p) 0 1000000,1000000] h2) 67
(.br 179 (t0.kind==2) (.callH [0] (N_h L (sigT_v1 L p) (maxI 1 (pickI [0,1,2,5,rng L (sigT_v0 L p) 0 1000000,1000000] (sigT_v2 L p)))) 371
(.req 403 ([0,W ((maxI 1 (pickI [0,1,2,5,rng L (sigT_v0 L p) 0 1000000,1000000] (sigT_v2 L p)))-1),Mod (rawV L (sigT_v1 L p)) (maxI 1 (pickI [0,1,2,5,rng L (sigT_v0 L p) 0 1000000,1000000] (sigT_v2 L p)))]≠[]) fun h3 =>
(.callH [0] (Pick_h L (rawP L (sigT_v1 L p)) [0,W ((maxI 1 (pickI [0,1,2,5,rng L (sigT_v0 L p) 0 1000000,1000000] (sigT_v2 L p)))-1),Mod (rawV L (sigT_v1 L p)) (maxI 1 (pickI [0,1,2,5,rng L (sigT_v0 L p) 0 1000000,1000000] (sigT_v2 L p)))] h3) 403
(.callH [0] (Range_h L (rawP L (rawP L (sigT_v1 L p))) 1 6) 467
(.callH [0] (filterT_h L (rawP L (rawP L (rawP L (sigT_v1 L p))))) 531
(.retH ((⟨L,(sigT_v3 L p).2⟩:Tap),(⟨t0.kind,t0.src,t0.dst,t0.epoch,maxI 1 (pickI [0,1,2,5,rng L (sigT_v0 L p) 0 1000000,1000000] (sigT_v2 L p)),pickI [0,W ((maxI 1 (pickI [0,1,2,5,rng L (sigT_v0 L p) 0 1000000,1000000] (sigT_v2 L p)))-1),Mod (rawV L (sigT_v1 L p)) (maxI 1 (pickI [0,1,2,5,rng L (sigT_v0 L p) 0 1000000,1000000] (sigT_v2 L p)))] (rawV L (rawP L (sigT_v1 L p))),t0.pep,rng L (rawP L (rawP L (sigT_v1 L p))) 1 6,((sigT_v3 L p).1).mode,((sigT_v3 L p).1).srcs⟩:Sig)) ⟨[(2,.k,.ref 1 0)],[.box (.agg [.sl 1 (L.map AV.int) false,.int ((((sigT_v3 L p).2):Nat):Int)]),.box (.agg [.int t0.kind,.int t0.src,.int t0.dst,.int t0.epoch,.int (maxI 1 (pickI [0,1,2,5,rng L (sigT_v0 L p) 0 1000000,1000000] (sigT_v2 L p))),.int (pickI [0,W ((maxI 1 (pickI [0,1,2,5,rng L (sigT_v0 L p) 0 1000000,1000000] (sigT_v2 L p)))-1),Mod (rawV L (sigT_v1 L p)) (maxI 1 (pickI [0,1,2,5,rng L (sigT_v0 L p) 0 1000000,1000000] (sigT_v2 L p)))] (rawV L (rawP L (sigT_v1 L p)))),.int t0.pep,.int (rng L (rawP L (rawP L (sigT_v1 L p))) 1 6),.int (((sigT_v3 L p).1).mode),.sl 1 ((((sigT_v3 L p).1).srcs).map AV.int) false])]⟩ [0,1]))))))
(.br 211 (t0.kind==3) (.req 275 ([0,t0.epoch]≠[]) fun h4 =>
(.callH [0] (Pick_h L (sigT_v1 L p) [0,t0.epoch] h4) 275
(.req 355 ([1,2,1000000]≠[]) fun h5 =>
(.callH [0] (Pick_h L (rawP L (sigT_v1 L p)) [1,2,1000000] h5) 355
(.retH ((⟨L,rawP L (rawP L (sigT_v1 L p))⟩:Tap),(⟨t0.kind,t0.src,t0.dst,pickI [0,t0.epoch] (rawV L (sigT_v1 L p)),pickI [0,1,2,5,rng L (sigT_v0 L p) 0 1000000,1000000] (sigT_v2 L p),t0.prev,pickI [1,2,1000000] (rawV L (rawP L (sigT_v1 L p))),t0.grp,t0.mode,t0.srcs⟩:Sig)) ⟨[(2,.k,.ref 1 0)],[.box (.agg [.sl 1 (L.map AV.int) false,.int (((rawP L (rawP L (sigT_v1 L p))):Nat):Int)]),.box (.agg [.int t0.kind,.int t0.src,.int t0.dst,.int (pickI [0,t0.epoch] (rawV L (sigT_v1 L p))),.int (pickI [0,1,2,5,rng L (sigT_v0 L p) 0 1000000,1000000] (sigT_v2 L p)),.int t0.prev,.int (pickI [1,2,1000000] (rawV L (rawP L (sigT_v1 L p)))),.int t0.grp,.int t0.mode,.sl 1 (t0.srcs.map AV.int) false])]⟩ [0,1])))))
(.retH ((⟨L,rawP L (rawP L (sigT_v0 L p))⟩:Tap),(⟨t0.kind,t0.src,t0.dst,t0.epoch,pickI [0,1,2,5,rng L (sigT_v0 L p) 0 1000000,1000000] (sigT_v2 L p),t0.prev,t0.pep,t0.grp,t0.mode,t0.srcs⟩:Sig)) ⟨[(2,.k,.ref 1 0)],[.box (.agg [.sl 1 (L.map AV.int) false,.int (((sigT_v1 L p):Nat):Int)]),.box (.agg [.int t0.kind,.int t0.src,.int t0.dst,.int t0.epoch,.int (pickI [0,1,2,5,rng L (sigT_v0 L p) 0 1000000,1000000] (sigT_v2 L p)),.int t0.prev,.int t0.pep,.int t0.grp,.int t0.mode,.sl 1 (t0.srcs.map AV.int) false])]⟩ [0,1])))))))))))))
def sigT_vc(L:(List Int))(p:Nat)(I0:Sig→Prop)(r0:Tap×Sig):Prop:=(sigT_x L p I0).vc sigT_e sigT_b r0
theorem sigT_p(L:List Int)(p:Nat)(ok:sigT_a L p):∃I0,sigT_vc L p I0 ((⟨L,(sigT L p).2⟩:Tap),(sigT L p).1):=by
 have h1:=rng_in (L:=L) (p:=rawP L p) (lo:=1) (hi:=6) (by omega)
 have h2:=Mod_range (x:=rawV L (rawP L (rawP L (rawP L (rawP L p))))) (n:=5) (by omega)
 refine ⟨fun x=>x={ (sigA L p).1 with ver:=0 },?_⟩
 dsimp only [sigT_vc,sigT_x,sigT_s,sigT_v0,sigT_v1,sigT_v2,sigT_v3,Ax.vp,Ax.vc];simp only [vcU,rfU,List.length_map]
 simp only [maxI_eq]
 refine ⟨by simp,⟨fun c=>?_,fun c=>?_⟩,?_⟩
 ·have c:=eq_of_beq c
  simp [sigA,c]
 ·have c:=beq_eq_false_iff_ne.mp c
  simp [sigA,c]
 rintro _ rfl
 refine ⟨by simp,fun c=>⟨by simp,?_⟩,fun c=>⟨fun d=>⟨by simp,by simp,?_⟩,fun d=>?_⟩⟩
 ·have c:(sigA L p).1.kind=2:=eq_of_beq c
  unfold sigT sigB;rw [if_pos c];rfl
 ·have c:¬(sigA L p).1.kind=2:=beq_eq_false_iff_ne.mp c
  have d:(sigA L p).1.kind=3:=eq_of_beq d
  unfold sigT sigB;rw [if_neg c,if_pos d];rfl
 ·have c:¬(sigA L p).1.kind=2:=beq_eq_false_iff_ne.mp c
  have d:¬(sigA L p).1.kind=3:=beq_eq_false_iff_ne.mp d
  unfold sigT sigB;rw [if_neg c,if_neg d];rfl
def sigT_h(L:(List Int))(p:Nat):HC Tryz.prog:=⟨36,[.k],[.ref 0 0],[.box (.agg [.sl 1 (L.map AV.int) false,.int ((p:Nat):Int)])],sigT_e ((⟨L,(sigT L p).2⟩:Tap),(sigT L p).1),sigT_b ((⟨L,(sigT L p).2⟩:Tap),(sigT L p).1),HSpec.of_okh fun ok ok2=>have ok:sigT_a L p:=⟨ok,ok2 _ (by simp)⟩;(sigT_p L p ok).elim fun I0 h=>mxH_of (sh:=(.a [.k,.k,.k,.k,.k,.k,.k,.k,.k,(.s 1)])) (enc:=sigT_e) (hB:=sigT_b) (a:=(sigT_x L p I0).an) h (by kernel_rfl),fnB_ok (by kernel_rfl),HcOk.of (by simp [hcB,belBL,AV.belB,allB,okBk,okBkO,sigT_e,sigT_b,pureBL_map (v:=AV.int) (fun _=>rfl)])⟩
theorem sigT_len{L:List Int}{p:Nat}:(sigT L p).1.srcs.length≤99:=by
 unfold sigT sigB
 have e:(sigA L p).1.srcs=[]:=rfl
 split
 ·exact srcs_len (filterT_in L _)
 ·split
  ·simp [e]
  ·simp [e]
def bentG_a(L:(List Int))(p:Nat)(s:Sig):Prop:=okL [.ref 0 0,.agg [.int s.kind,.int s.src,.int s.dst,.int s.epoch,.int s.ver,.int s.prev,.int s.pep,.int s.grp,.int s.mode,.sl 1 (s.srcs.map AV.int) false]]∧(.box (.agg [.sl 1 (L.map AV.int) false,.int ((p:Nat):Int)]):Blk).ok
def bentG_e(r:Tap×Sig):AV:=.agg [.int r.2.kind,.int r.2.src,.int r.2.dst,.int r.2.epoch,.int r.2.ver,.int r.2.prev,.int r.2.pep,.int r.2.grp,.int r.2.mode,.sl 1 (r.2.srcs.map AV.int) false]
def bentG_b(r:Tap×Sig):List (Option Blk):=[some (.box (.agg [.sl 1 (r.1.L.map AV.int) false,.int ((r.1.p:Nat):Int)]))]
def bentG_x(L:(List Int))(p:Nat)(s:Sig):Ax Tryz.prog noS (Tap×Sig):=
 (.say (fun R=>Rf (α:=List AV) [] (Rf (α:=List AV) (s.srcs.map AV.int)
(ck (decide (0+s.srcs.length≤1000000))
R))) (.app 97 AV.int [] s.srcs
(.say (Rf (s.srcs.map AV.int)) (.cmd (.frzE 97 (s.srcs.map AV.int) (pureBL_map (fun _=>rfl) s.srcs)) (.callH [0] (N_h L p 9) 177
(.br 225 ((Mod (rawV L p) 9)==0) (.callH [0] (Range_h L (rawP L p) 0 4) 241
(.retH ((⟨L,rawP L (rawP L p)⟩:Tap),(⟨rng L (rawP L p) 0 4,s.src,s.dst,s.epoch,s.ver,s.prev,s.pep,s.grp,s.mode,s.srcs⟩:Sig)) ⟨[(4,.k,.ref 1 0)],[.box (.agg [.sl 1 (L.map AV.int) false,.int (((rawP L (rawP L p)):Nat):Int)]),.box (.agg [.int (rng L (rawP L p) 0 4),.int s.src,.int s.dst,.int s.epoch,.int s.ver,.int s.prev,.int s.pep,.int s.grp,.int s.mode,.sl 1 (s.srcs.map AV.int) false])]⟩ [0,17]))
(.br 257 ((Mod (rawV L p) 9)==1) (.req 321 ([0,1,99,100,s.dst]≠[]) fun h1 =>
(.callH [0] (Pick_h L (rawP L p) [0,1,99,100,s.dst] h1) 321
(.retH ((⟨L,rawP L (rawP L p)⟩:Tap),(⟨s.kind,pickI [0,1,99,100,s.dst] (rawV L (rawP L p)),s.dst,s.epoch,s.ver,s.prev,s.pep,s.grp,s.mode,s.srcs⟩:Sig)) ⟨[(4,.k,.ref 1 0)],[.box (.agg [.sl 1 (L.map AV.int) false,.int (((rawP L (rawP L p)):Nat):Int)]),.box (.agg [.int s.kind,.int (pickI [0,1,99,100,s.dst] (rawV L (rawP L p))),.int s.dst,.int s.epoch,.int s.ver,.int s.prev,.int s.pep,.int s.grp,.int s.mode,.sl 1 (s.srcs.map AV.int) false])]⟩ [0,17])))
(.br 289 ((Mod (rawV L p) 9)==2) (.req 321 ([0,99,100]≠[]) fun h2 =>
(.callH [0] (Pick_h L (rawP L p) [0,99,100] h2) 321
(.retH ((⟨L,rawP L (rawP L p)⟩:Tap),(⟨s.kind,s.src,pickI [0,99,100] (rawV L (rawP L p)),s.epoch,s.ver,s.prev,s.pep,s.grp,s.mode,s.srcs⟩:Sig)) ⟨[(4,.k,.ref 1 0)],[.box (.agg [.sl 1 (L.map AV.int) false,.int (((rawP L (rawP L p)):Nat):Int)]),.box (.agg [.int s.kind,.int s.src,.int (pickI [0,99,100] (rawV L (rawP L p))),.int s.epoch,.int s.ver,.int s.prev,.int s.pep,.int s.grp,.int s.mode,.sl 1 (s.srcs.map AV.int) false])]⟩ [0,17])))
(.br 321 ((Mod (rawV L p) 9)==3) (.req 353 ([-1,0,1000000,1000001]≠[]) fun h3 =>
(.callH [0] (Pick_h L (rawP L p) [-1,0,1000000,1000001] h3) 353
(.retH ((⟨L,rawP L (rawP L p)⟩:Tap),(⟨s.kind,s.src,s.dst,pickI [-1,0,1000000,1000001] (rawV L (rawP L p)),s.ver,s.prev,s.pep,s.grp,s.mode,s.srcs⟩:Sig)) ⟨[(4,.k,.ref 1 0)],[.box (.agg [.sl 1 (L.map AV.int) false,.int (((rawP L (rawP L p)):Nat):Int)]),.box (.agg [.int s.kind,.int s.src,.int s.dst,.int (pickI [-1,0,1000000,1000001] (rawV L (rawP L p))),.int s.ver,.int s.prev,.int s.pep,.int s.grp,.int s.mode,.sl 1 (s.srcs.map AV.int) false])]⟩ [0,17])))
(.br 353 ((Mod (rawV L p) 9)==4) (.req 385 ([-1,0,1000000,1000001]≠[]) fun h4 =>
(.callH [0] (Pick_h L (rawP L p) [-1,0,1000000,1000001] h4) 385
(.retH ((⟨L,rawP L (rawP L p)⟩:Tap),(⟨s.kind,s.src,s.dst,s.epoch,pickI [-1,0,1000000,1000001] (rawV L (rawP L p)),s.prev,s.pep,s.grp,s.mode,s.srcs⟩:Sig)) ⟨[(4,.k,.ref 1 0)],[.box (.agg [.sl 1 (L.map AV.int) false,.int (((rawP L (rawP L p)):Nat):Int)]),.box (.agg [.int s.kind,.int s.src,.int s.dst,.int s.epoch,.int (pickI [-1,0,1000000,1000001] (rawV L (rawP L p))),.int s.prev,.int s.pep,.int s.grp,.int s.mode,.sl 1 (s.srcs.map AV.int) false])]⟩ [0,17])))
(.br 385 ((Mod (rawV L p) 9)==5) (.req 497 ([-1,s.ver,W (s.ver-1),1]≠[]) fun h5 =>
(.callH [0] (Pick_h L (rawP L p) [-1,s.ver,W (s.ver-1),1] h5) 497
(.retH ((⟨L,rawP L (rawP L p)⟩:Tap),(⟨s.kind,s.src,s.dst,s.epoch,s.ver,pickI [-1,s.ver,W (s.ver-1),1] (rawV L (rawP L p)),s.pep,s.grp,s.mode,s.srcs⟩:Sig)) ⟨[(4,.k,.ref 1 0)],[.box (.agg [.sl 1 (L.map AV.int) false,.int (((rawP L (rawP L p)):Nat):Int)]),.box (.agg [.int s.kind,.int s.src,.int s.dst,.int s.epoch,.int s.ver,.int (pickI [-1,s.ver,W (s.ver-1),1] (rawV L (rawP L p))),.int s.pep,.int s.grp,.int s.mode,.sl 1 (s.srcs.map AV.int) false])]⟩ [0,17])))
(.br 417 ((Mod (rawV L p) 9)==6) (.req 449 ([0,1,1000001]≠[]) fun h6 =>
(.callH [0] (Pick_h L (rawP L p) [0,1,1000001] h6) 449
(.retH ((⟨L,rawP L (rawP L p)⟩:Tap),(⟨s.kind,s.src,s.dst,s.epoch,s.ver,s.prev,pickI [0,1,1000001] (rawV L (rawP L p)),s.grp,s.mode,s.srcs⟩:Sig)) ⟨[(4,.k,.ref 1 0)],[.box (.agg [.sl 1 (L.map AV.int) false,.int (((rawP L (rawP L p)):Nat):Int)]),.box (.agg [.int s.kind,.int s.src,.int s.dst,.int s.epoch,.int s.ver,.int s.prev,.int (pickI [0,1,1000001] (rawV L (rawP L p))),.int s.grp,.int s.mode,.sl 1 (s.srcs.map AV.int) false])]⟩ [0,17])))
(.br 449 ((Mod (rawV L p) 9)==7) (.req 481 ([0,1,99,100]≠[]) fun h7 =>
(.callH [0] (Pick_h L (rawP L p) [0,1,99,100] h7) 481
(.retH ((⟨L,rawP L (rawP L p)⟩:Tap),(⟨s.kind,s.src,s.dst,s.epoch,s.ver,s.prev,s.pep,pickI [0,1,99,100] (rawV L (rawP L p)),s.mode,s.srcs⟩:Sig)) ⟨[(4,.k,.ref 1 0)],[.box (.agg [.sl 1 (L.map AV.int) false,.int (((rawP L (rawP L p)):Nat):Int)]),.box (.agg [.int s.kind,.int s.src,.int s.dst,.int s.epoch,.int s.ver,.int s.prev,.int s.pep,.int (pickI [0,1,99,100] (rawV L (rawP L p))),.int s.mode,.sl 1 (s.srcs.map AV.int) false])]⟩ [0,17])))
(.req 497 ((⟨s.mode,s.srcs⟩:Flt).srcs.length≤900000) fun h8 =>
(.callH [0] (bentF_h L (rawP L p) (⟨s.mode,s.srcs⟩:Flt) h8) 497
(.retH ((⟨L,(bentF L (rawP L p) (⟨s.mode,s.srcs⟩:Flt)).2⟩:Tap),(⟨s.kind,s.src,s.dst,s.epoch,s.ver,s.prev,s.pep,s.grp,((bentF L (rawP L p) (⟨s.mode,s.srcs⟩:Flt)).1).mode,((bentF L (rawP L p) (⟨s.mode,s.srcs⟩:Flt)).1).srcs⟩:Sig)) ⟨[(4,.k,.ref 1 0)],[.box (.agg [.sl 1 (L.map AV.int) false,.int ((((bentF L (rawP L p) (⟨s.mode,s.srcs⟩:Flt)).2):Nat):Int)]),.box (.agg [.int s.kind,.int s.src,.int s.dst,.int s.epoch,.int s.ver,.int s.prev,.int s.pep,.int s.grp,.int (((bentF L (rawP L p) (⟨s.mode,s.srcs⟩:Flt)).1).mode),.sl 1 ((((bentF L (rawP L p) (⟨s.mode,s.srcs⟩:Flt)).1).srcs).map AV.int) false])]⟩ [0,17]))))))))))))))))
def bentG_vc(L:(List Int))(p:Nat)(s:Sig)(r0:Tap×Sig):Prop:=(bentG_x L p s).vc bentG_e bentG_b r0
theorem bentG_p(L:List Int)(p:Nat)(s:Sig)(h:s.srcs.length≤900000)(ok:bentG_a L p s):bentG_vc L p s ((⟨L,(bentG L p s).2⟩:Tap),(bentG L p s).1):=by
 dsimp only [bentG_vc,bentG_x,noS,Ax.vp,Ax.vc];simp only [vcU,rfU,List.length_map]
 refine ⟨by omega,fun c=>by simp [bentG,eq_of_beq c],fun c0=>?_⟩
 have c0:¬Mod (rawV L p) 9=0:=by simpa using c0
 refine ⟨fun c=>⟨by simp,by simp [bentG,eq_of_beq c]⟩,fun c1=>?_⟩
 have c1:¬Mod (rawV L p) 9=1:=by simpa using c1
 refine ⟨fun c=>⟨by simp,by simp [bentG,eq_of_beq c]⟩,fun c2=>?_⟩
 have c2:¬Mod (rawV L p) 9=2:=by simpa using c2
 refine ⟨fun c=>⟨by simp,by simp [bentG,eq_of_beq c]⟩,fun c3=>?_⟩
 have c3:¬Mod (rawV L p) 9=3:=by simpa using c3
 refine ⟨fun c=>⟨by simp,by simp [bentG,eq_of_beq c]⟩,fun c4=>?_⟩
 have c4:¬Mod (rawV L p) 9=4:=by simpa using c4
 refine ⟨fun c=>⟨by simp,by simp [bentG,eq_of_beq c]⟩,fun c5=>?_⟩
 have c5:¬Mod (rawV L p) 9=5:=by simpa using c5
 refine ⟨fun c=>⟨by simp,by simp [bentG,eq_of_beq c]⟩,fun c6=>?_⟩
 have c6:¬Mod (rawV L p) 9=6:=by simpa using c6
 refine ⟨fun c=>⟨by simp,by simp [bentG,eq_of_beq c]⟩,fun c7=>?_⟩
 have c7:¬Mod (rawV L p) 9=7:=by simpa using c7
 exact ⟨h,by simp only [bentG,if_neg c0,if_neg c1,if_neg c2,if_neg c3,if_neg c4,if_neg c5,if_neg c6,if_neg c7]⟩
def bentG_h(L:(List Int))(p:Nat)(s:Sig)(h:s.srcs.length≤900000):HC Tryz.prog:=⟨35,[.k,(.a [.k,.k,.k,.k,.k,.k,.k,.k,.k,(.s 1)])],[.ref 0 0,.agg [.int s.kind,.int s.src,.int s.dst,.int s.epoch,.int s.ver,.int s.prev,.int s.pep,.int s.grp,.int s.mode,.sl 1 (s.srcs.map AV.int) false]],[.box (.agg [.sl 1 (L.map AV.int) false,.int ((p:Nat):Int)])],bentG_e ((⟨L,(bentG L p s).2⟩:Tap),(bentG L p s).1),bentG_b ((⟨L,(bentG L p s).2⟩:Tap),(bentG L p s).1),HSpec.of_okh fun ok ok2=>have ok:bentG_a L p s:=⟨ok,ok2 _ (by simp)⟩;mxH_of (sh:=(.a [.k,.k,.k,.k,.k,.k,.k,.k,.k,(.s 1)])) (enc:=bentG_e) (hB:=bentG_b) (a:=(bentG_x L p s).an) (bentG_p L p s h ok) (by kernel_rfl),fnB_ok (by kernel_rfl),HcOk.of (by simp [hcB,belBL,AV.belB,allB,okBk,okBkO,bentG_e,bentG_b,pureBL_map (v:=AV.int) (fun _=>rfl)])⟩
def smallO_a(o:Ovl):Prop:=okL [.agg [.sl 5 (o.sp.map Spk.v) false,.sl 3 (o.ls.map Lsn.v) false,.sl 10 (o.fl.map Sig.v) false]]
def smallO_n0(o:Ovl)(t0:Bool):NF:=⟨[(1,.k,.ref 0 0),(21,.k,.bool t0)],[.box (.agg [.sl 5 (o.sp.map Spk.v) false,.sl 3 (o.ls.map Lsn.v) false,.sl 10 (o.fl.map Sig.v) false])]⟩
def smallO_n1(o:Ovl)(t1:Int):NF:=⟨[(1,.k,.ref 0 0),(24,.k,.int ((o.sp.map Spk.v).length:Int)),(25,.k,.int t1)],[.box (.agg [.sl 5 (o.sp.map Spk.v) false,.sl 3 (o.ls.map Lsn.v) false,.sl 10 (o.fl.map Sig.v) false])]⟩
def smallO_n2(o:Ovl)(t2:Int):NF:=⟨[(1,.k,.ref 0 0),(38,.k,.int ((o.ls.map Lsn.v).length:Int)),(39,.k,.int t2)],[.box (.agg [.sl 5 (o.sp.map Spk.v) false,.sl 3 (o.ls.map Lsn.v) false,.sl 10 (o.fl.map Sig.v) false])]⟩
def smallO_n3(o:Ovl)(t3:Int):NF:=⟨[(1,.k,.ref 0 0),(52,.k,.int ((o.fl.map Sig.v).length:Int)),(53,.k,.int t3)],[.box (.agg [.sl 5 (o.sp.map Spk.v) false,.sl 3 (o.ls.map Lsn.v) false,.sl 10 (o.fl.map Sig.v) false])]⟩
@[reducible] def smallO_s:Nat→Type
 | 0=>Bool
 | 1=>Int
 | 2=>Int
 | 3=>Int
 | _=>Unit
def smallO_e(r:Bool):AV:=.bool r
def smallO_x(o:Ovl)(I0:Bool→Prop)(I1:Bool→Int→Prop)(m1:Bool→Int→Nat)(I2:Bool→Int→Int→Prop)(m2:Bool→Int→Int→Nat)(I3:Bool→Int→Int→Int→Prop)(m3:Bool→Int→Int→Int→Nat):Ax Tryz.prog smallO_s (Bool):=
 (.pass (.pass (.join 0 (smallO_n0 o) (fun (t0:Bool)=>I0 t0) (fun b0=>(.br 112 (decide (14<((o.sp.map Spk.v).length:Int))) (.bk 0 b0 ((true):Bool) [0])
(.br 208 (decide (14<((o.ls.map Lsn.v).length:Int))) (.bk 0 b0 ((true):Bool) [0])
(.bk 0 b0 ((decide (200<((o.fl.map Sig.v).length:Int))):Bool) [0])))) fun (t0:Bool) =>
(.br 1 t0 (.ret (false))
(.loop 1 (smallO_n1 o) (I1 t0) (m1 t0) ((0):Int) [0] fun (t1:Int) b1 =>
(.br 17 (decide (t1<((o.sp.map Spk.v).length:Int))) (.el 97 Spk.v o.sp (fun R=>Rf (o.sp.map Spk.v) (ck (decide (0≤t1)) (ck (decide (t1<(o.sp.length:Int)))
(∀x1,o.sp[t1.toNat]?=some x1 →
(R x1))))) fun x1 =>
(.callP (smallS_c x1)
(.br 161 (!(smallS x1)) (.ret (false))
(.bk 1 b1 ((W (t1+1)):Int) [0]))))
(.loop 2 (smallO_n2 o) (I2 t0 t1) (m2 t0 t1) ((0):Int) [0] fun (t2:Int) b2 =>
(.br 17 (decide (t2<((o.ls.map Lsn.v).length:Int))) (.el 97 Lsn.v o.ls (fun R=>Rf (o.ls.map Lsn.v) (ck (decide (0≤t2)) (ck (decide (t2<(o.ls.length:Int)))
(∀x2,o.ls[t2.toNat]?=some x2 →
(R x2))))) fun x2 =>
(.callP (smallL_c x2)
(.br 161 (!(smallL x2)) (.ret (false))
(.bk 2 b2 ((W (t2+1)):Int) [0]))))
(.loop 3 (smallO_n3 o) (I3 t0 t1 t2) (m3 t0 t1 t2) ((0):Int) [0] fun (t3:Int) b3 =>
(.br 17 (decide (t3<((o.fl.map Sig.v).length:Int))) (.el 97 Sig.v o.fl (fun R=>Rf (o.fl.map Sig.v) (ck (decide (0≤t3)) (ck (decide (t3<(o.fl.length:Int)))
(∀x3,o.fl[t3.toNat]?=some x3 →
(R x3))))) fun x3 =>
(.br 193 (decide (110<((x3.srcs.map AV.int).length:Int))) (.ret (false))
(.bk 3 b3 ((W (t3+1)):Int) [0])))
(.ret (true))))))))))))
def smallO_vc(o:Ovl)(I0:Bool→Prop)(I1:Bool→Int→Prop)(m1:Bool→Int→Nat)(I2:Bool→Int→Int→Prop)(m2:Bool→Int→Int→Nat)(I3:Bool→Int→Int→Int→Prop)(m3:Bool→Int→Int→Int→Nat)(r0:Bool):Prop:=(smallO_x o I0 I1 m1 I2 m2 I3 m3).vp smallO_e r0
theorem smallO_p(o:Ovl)(ok:smallO_a o):∃I0 I1 m1 I2 m2 I3 m3,smallO_vc o I0 I1 m1 I2 m2 I3 m3 (smallO o):=by
 refine ⟨fun x=>x=decide (14<o.sp.length∨14<o.ls.length∨200<o.fl.length),
  fun _ t=>∃k:Nat,t=k∧k≤o.sp.length∧(o.sp.take k).all smallS=true,fun _ t=>o.sp.length-t.toNat,
  fun _ _ t=>∃k:Nat,t=k∧k≤o.ls.length∧(o.ls.take k).all smallL=true∧o.sp.all smallS=true,fun _ _ t=>o.ls.length-t.toNat,
  fun _ _ _ t=>∃k:Nat,t=k∧k≤o.fl.length∧(o.fl.take k).all (fun x=>decide (x.srcs.length≤110))=true∧o.sp.all smallS=true∧o.ls.all smallL=true,fun _ _ _ t=>o.fl.length-t.toNat,?_⟩
 dsimp only [smallO_vc,smallO_x,smallO_s,Ax.vp,Ax.vc];simp only [vcU,rfU,List.length_map]
 refine ⟨⟨fun c=>(decide_eq_true (by omega)).symm,fun c=>⟨fun d=>(decide_eq_true (by omega)).symm,fun d=>decide_eq_decide.mpr (by omega)⟩⟩,?_⟩
 rintro _ rfl
 refine ⟨fun c=>?_,fun c=>⟨⟨0,rfl,by omega,rfl⟩,?_⟩⟩
 ·have c:=of_decide_eq_true c
  symm;refine Bool.eq_false_iff.mpr fun q=>?_
  unfold smallO at q
  simp only [Bool.and_eq_true,decide_eq_true_eq] at q
  omega
 have c:=of_decide_eq_false c
 have e:smallO o=(o.sp.all smallS && (o.ls.all smallL && o.fl.all fun x=>decide (x.srcs.length≤110))):=by
  unfold smallO
  rw [decide_eq_true (by omega:o.sp.length≤14),decide_eq_true (by omega:o.ls.length≤14),decide_eq_true (by omega:o.fl.length≤200)];rfl
 rw [e]
 rintro _ ⟨k,rfl,hk,h⟩
 simp only [Int.toNat_natCast]
 refine ⟨fun c1=>⟨by omega,by omega,fun x hx=>⟨fun d=>?_,fun d=>?_⟩⟩,fun c1=>?_⟩
 ·rw [all_not (mem_of_get hx) (by simpa using d)];rfl
 ·rw [W_succ (n:=o.sp.length) (by omega) (by omega)]
  exact ⟨⟨k+1,rfl,by omega,all_succ hx h (by simpa using d)⟩,by omega⟩
 rw [List.take_of_length_le (by omega)] at h
 refine ⟨⟨0,rfl,by omega,rfl,h⟩,?_⟩
 rintro _ ⟨j,rfl,hj,g,_⟩
 simp only [Int.toNat_natCast]
 refine ⟨fun c2=>⟨by omega,by omega,fun x hx=>⟨fun d=>?_,fun d=>?_⟩⟩,fun c2=>?_⟩
 ·rw [all_not (mem_of_get hx) (by simpa using d)];simp
 ·rw [W_succ (n:=o.ls.length) (by omega) (by omega)]
  exact ⟨⟨j+1,rfl,by omega,all_succ hx g (by simpa using d),h⟩,by omega⟩
 rw [List.take_of_length_le (by omega)] at g
 refine ⟨⟨0,rfl,by omega,rfl,h,g⟩,?_⟩
 rintro _ ⟨i,rfl,hi,f,_⟩
 simp only [Int.toNat_natCast]
 refine ⟨fun c3=>⟨by omega,by omega,fun x hx=>⟨fun d=>?_,fun d=>?_⟩⟩,fun c3=>?_⟩
 ·rw [all_not (p:=fun x:Sig=>decide (x.srcs.length≤110)) (mem_of_get hx) (decide_eq_false (by omega))];simp
 ·rw [W_succ (n:=o.fl.length) (by omega) (by omega)]
  exact ⟨⟨i+1,rfl,by omega,all_succ hx f (decide_eq_true (by omega)),h,g⟩,by omega⟩
 rw [List.take_of_length_le (by omega)] at f
 rw [h,g,f];rfl
def smallO_c(o:Ovl):PC Tryz.prog:=⟨4,[(.a [(.s 5),(.s 3),(.s 10)])],[.agg [.sl 5 (o.sp.map Spk.v) false,.sl 3 (o.ls.map Lsn.v) false,.sl 10 (o.fl.map Sig.v) false]],smallO_e (smallO o),PSpec.of_ok fun ok=>(smallO_p o ok).elim fun I0 h=>h.elim fun I1 h=>h.elim fun m1 h=>h.elim fun I2 h=>h.elim fun m2 h=>h.elim fun I3 h=>h.elim fun m3 h=>mxP_of (sh:=.k) (enc:=smallO_e) (a:=(smallO_x o I0 I1 m1 I2 m2 I3 m3).an) h (by kernel_rfl) (AV.pureB_ok rfl),fnB_ok (by kernel_rfl)⟩
theorem fitE_nil{l:List Hrd}:FitE (.a [.k,.k,.k,(.s 4)]) Hrd.v [] ([(⟨1,1,0,[]⟩:Hrd)]++l) ([.agg [.int 1,.int 1,.int 0,.sl 0 [] true]]++l.map Hrd.v):=by
 unfold FitE
 rw [map_idA,List.map_nil,List.nil_append,List.nil_append,List.map_append,List.map_append,List.map_map]
 have e:List.map (fitA (.a [.k,.k,.k,(.s 4)])) [.agg [.int 1,.int 1,.int 0,.sl 0 [] true]]=List.map Hrd.v [(⟨1,1,0,[]⟩:Hrd)]:=rfl
 rw [e]
 exact congrArg (fun z=>List.map Hrd.v [(⟨1,1,0,[]⟩:Hrd)]++z) (List.map_congr_left fun y _=>rfl)
def bentO_a(L:(List Int))(p:Nat)(o:Ovl):Prop:=okL [.ref 0 0,.agg [.sl 5 (o.sp.map Spk.v) false,.sl 3 (o.ls.map Lsn.v) false,.sl 10 (o.fl.map Sig.v) false]]∧(.box (.agg [.sl 1 (L.map AV.int) false,.int ((p:Nat):Int)]):Blk).ok
abbrev bentO_v0(L:(List Int))(p:Nat)(o:Ovl):=(Mod (rawV L p) ((o.sp.map Spk.v).length:Int))
abbrev bentO_v1(L:(List Int))(p:Nat):=(bentG L ((sigT L (rawP L (rawP L p))).2) ((sigT L (rawP L (rawP L p))).1))
def bentO_e(r:Tap×Ovl):AV:=.agg [.sl 5 (r.2.sp.map Spk.v) false,.sl 3 (r.2.ls.map Lsn.v) false,.sl 10 (r.2.fl.map Sig.v) false]
def bentO_b(r:Tap×Ovl):List (Option Blk):=[some (.box (.agg [.sl 1 (r.1.L.map AV.int) false,.int ((r.1.p:Nat):Int)]))]
def bentO_x(L:(List Int))(p:Nat)(o:Ovl):Ax Tryz.prog noS (Tap×Ovl):=
 (.say (fun R=>Rf (α:=List AV) [] (Rf (α:=List AV) (o.sp.map Spk.v)
(ck (decide (0+o.sp.length≤1000000))
R))) (.app 81 Spk.v [] o.sp
(.say (fun R=>Rf (α:=List AV) [] (Rf (α:=List AV) (o.ls.map Lsn.v)
(ck (decide (0+o.ls.length≤1000000))
R))) (.app 145 Lsn.v [] o.ls
(.say (fun R=>Rf (α:=List AV) [] (Rf (α:=List AV) (o.fl.map Sig.v)
(ck (decide (0+o.fl.length≤1000000))
R))) (.app 209 Sig.v [] o.fl
(.callH [0] (N_h L p ((o.sp.map Spk.v).length:Int)) 337
(.callH [0] (N_h L (rawP L p) 6) 385
(.br 433 ((Mod (rawV L (rawP L p)) 6)==0) (.say (ck (cond (decide (0≤(bentO_v0 L p o))) (decide ((bentO_v0 L p o)<((o.sp.map Spk.v).length:Int))) false)) (.el 561 Spk.v o.sp (fun R=>Rf (o.sp.map Spk.v) (ck (decide ((bentO_v0 L p o).toNat<o.sp.length))
(∀x1,o.sp[(bentO_v0 L p o).toNat]?=some x1 →
(R x1)))) fun x1 =>
(.req 577 (x1.items.length≤900000∧x1.peers.length≤900000) fun h2 =>
(.callH [0] (bentS_h L (rawP L (rawP L p)) x1 h2) 577
(.say (ck (cond (decide (0≤(bentO_v0 L p o))) (decide ((bentO_v0 L p o)<((o.sp.map Spk.v).length:Int))) false)) (.st 609 Spk.v o.sp (fun y3=>((bentS L (rawP L (rawP L p)) x1).1)) (fun R=>Rf (o.sp.map Spk.v) (ck (decide ((bentO_v0 L p o).toNat<o.sp.length))
(∀y3,o.sp[(bentO_v0 L p o).toNat]?=some y3→Rf (Spk.v ((bentS L (rawP L (rawP L p)) x1).1))
((R y3))))) fun y3 =>
(.say (Rf (o.fl.map Sig.v)) (.cmdL (.frzE 209 (o.fl.map Sig.v) (pureBL_map (fun _=>rfl) o.fl)) (.say (Rf (o.ls.map Lsn.v)) (.cmdL (.frzE 145 (o.ls.map Lsn.v) (pureBL_map (fun _=>rfl) o.ls)) (.say (Rf ((o.sp.set ((bentO_v0 L p o).toNat) ((bentS L (rawP L (rawP L p)) x1).1)).map Spk.v)) (.cmdL (.frzE 81 ((o.sp.set ((bentO_v0 L p o).toNat) ((bentS L (rawP L (rawP L p)) x1).1)).map Spk.v) (pureBL_map (fun _=>rfl) (o.sp.set ((bentO_v0 L p o).toNat) ((bentS L (rawP L (rawP L p)) x1).1)))) (.retH ((⟨L,(bentS L (rawP L (rawP L p)) x1).2⟩:Tap),(⟨o.sp.set ((bentO_v0 L p o).toNat) ((bentS L (rawP L (rawP L p)) x1).1),o.ls,o.fl⟩:Ovl)) ⟨[(4,.k,.ref 1 0)],[.box (.agg [.sl 1 (L.map AV.int) false,.int ((((bentS L (rawP L (rawP L p)) x1).2):Nat):Int)]),.box (.agg [.sl 5 ((o.sp.set ((bentO_v0 L p o).toNat) ((bentS L (rawP L (rawP L p)) x1).1)).map Spk.v) false,.sl 3 (o.ls.map Lsn.v) false,.sl 10 (o.fl.map Sig.v) false])]⟩ [0,17])))))))))))))
(.br 465 ((Mod (rawV L (rawP L p)) 6)==1) (.say (Rf (o.ls.map Lsn.v)) (.cmd (.frzE 145 (o.ls.map Lsn.v) (pureBL_map (fun _=>rfl) o.ls)) (.say (fun R=>Rf (α:=List AV) (o.ls.map Lsn.v) (ck (bndB o.ls.length 0 (bentO_v0 L p o) (o.ls.length:Int))
R)) (.sub 513 Lsn.v o.ls false
(.say (Rf (o.fl.map Sig.v)) (.cmdL (.frzE 209 (o.fl.map Sig.v) (pureBL_map (fun _=>rfl) o.fl)) (.say (Rf (o.sp.map Spk.v)) (.cmdL (.frzE 81 (o.sp.map Spk.v) (pureBL_map (fun _=>rfl) o.sp)) (.retH ((⟨L,rawP L (rawP L p)⟩:Tap),(⟨o.sp,(o.ls.take ((bentO_v0 L p o).toNat)).drop 0,o.fl⟩:Ovl)) ⟨[(4,.k,.ref 1 0)],[.box (.agg [.sl 1 (L.map AV.int) false,.int (((rawP L (rawP L p)):Nat):Int)]),.box (.agg [.sl 5 (o.sp.map Spk.v) false,.sl 3 (((o.ls.take ((bentO_v0 L p o).toNat)).drop 0).map Lsn.v) false,.sl 10 (o.fl.map Sig.v) false])]⟩ [0,17])))))))))
(.br 497 ((Mod (rawV L (rawP L p)) 6)==2) (.callH [0] (sigT_h L (rawP L (rawP L p))) 561
(.req 577 (((sigT L (rawP L (rawP L p))).1).srcs.length≤900000) fun h4 =>
(.callH [0] (bentG_h L ((sigT L (rawP L (rawP L p))).2) ((sigT L (rawP L (rawP L p))).1) h4) 577
(.say (fun R=>Rf (α:=List AV) (o.fl.map Sig.v) (Rf (α:=List AV) [.agg [.int (((bentO_v1 L p).1).kind),.int (((bentO_v1 L p).1).src),.int (((bentO_v1 L p).1).dst),.int (((bentO_v1 L p).1).epoch),.int (((bentO_v1 L p).1).ver),.int (((bentO_v1 L p).1).prev),.int (((bentO_v1 L p).1).pep),.int (((bentO_v1 L p).1).grp),.int (((bentO_v1 L p).1).mode),.sl 1 ((((bentO_v1 L p).1).srcs).map AV.int) false]]
(ck (decide (o.fl.length+1≤1000000))
R))) (.app 609 Sig.v o.fl [(bentO_v1 L p).1]
(.say (Rf ((o.fl++[(bentO_v1 L p).1]).map Sig.v)) (.cmdL (.frzE 609 ((o.fl++[(bentO_v1 L p).1]).map Sig.v) (pureBL_map (fun _=>rfl) (o.fl++[(bentO_v1 L p).1]))) (.say (Rf (o.ls.map Lsn.v)) (.cmdL (.frzE 145 (o.ls.map Lsn.v) (pureBL_map (fun _=>rfl) o.ls)) (.say (Rf (o.sp.map Spk.v)) (.cmdL (.frzE 81 (o.sp.map Spk.v) (pureBL_map (fun _=>rfl) o.sp)) (.retH ((⟨L,(bentO_v1 L p).2⟩:Tap),(⟨o.sp,o.ls,o.fl++[(bentO_v1 L p).1]⟩:Ovl)) ⟨[(4,.k,.ref 1 0)],[.box (.agg [.sl 1 (L.map AV.int) false,.int ((((bentO_v1 L p).2):Nat):Int)]),.box (.agg [.sl 5 (o.sp.map Spk.v) false,.sl 3 (o.ls.map Lsn.v) false,.sl 10 ((o.fl++[(bentO_v1 L p).1]).map Sig.v) false])]⟩ [0,17]))))))))))))
(.br 529 ((Mod (rawV L (rawP L p)) 6)==3) (.say (ck (decide (0<((o.sp.map Spk.v).length:Int)))) (.el 657 Spk.v o.sp (fun R=>Rf (o.sp.map Spk.v) (ck (decide (0<o.sp.length))
(∀x5,o.sp[0]?=some x5 →
(R x5)))) fun x5 =>
(.say (ck (cond (decide (0≤(bentO_v0 L p o))) (decide ((bentO_v0 L p o)<((o.sp.map Spk.v).length:Int))) false)) (.el 737 Spk.v o.sp (fun R=>Rf (o.sp.map Spk.v) (ck (decide ((bentO_v0 L p o).toNat<o.sp.length))
(∀x6,o.sp[(bentO_v0 L p o).toNat]?=some x6 →
(R x6)))) fun x6 =>
(.say (ck (cond (decide (0≤(bentO_v0 L p o))) (decide ((bentO_v0 L p o)<((o.sp.map Spk.v).length:Int))) false)) (.st 769 Spk.v o.sp (fun y7=>x5) (fun R=>Rf (o.sp.map Spk.v) (ck (decide ((bentO_v0 L p o).toNat<o.sp.length))
(∀y7,o.sp[(bentO_v0 L p o).toNat]?=some y7→Rf (Spk.v x5)
((R y7))))) fun y7 =>
(.say (ck (decide (0<(((o.sp.set ((bentO_v0 L p o).toNat) x5).map Spk.v).length:Int)))) (.st 801 Spk.v (o.sp.set ((bentO_v0 L p o).toNat) x5) (fun y8=>x6) (fun R=>Rf ((o.sp.set ((bentO_v0 L p o).toNat) x5).map Spk.v) (ck (decide (0<(o.sp.set ((bentO_v0 L p o).toNat) x5).length))
(∀y8,(o.sp.set ((bentO_v0 L p o).toNat) x5)[0]?=some y8→Rf (Spk.v x6)
((R y8))))) fun y8 =>
(.say (Rf (o.fl.map Sig.v)) (.cmdL (.frzE 209 (o.fl.map Sig.v) (pureBL_map (fun _=>rfl) o.fl)) (.say (Rf (o.ls.map Lsn.v)) (.cmdL (.frzE 145 (o.ls.map Lsn.v) (pureBL_map (fun _=>rfl) o.ls)) (.say (Rf (((o.sp.set ((bentO_v0 L p o).toNat) x5).set 0 x6).map Spk.v)) (.cmdL (.frzE 81 (((o.sp.set ((bentO_v0 L p o).toNat) x5).set 0 x6).map Spk.v) (pureBL_map (fun _=>rfl) ((o.sp.set ((bentO_v0 L p o).toNat) x5).set 0 x6))) (.retH ((⟨L,rawP L (rawP L p)⟩:Tap),(⟨(o.sp.set ((bentO_v0 L p o).toNat) x5).set 0 x6,o.ls,o.fl⟩:Ovl)) ⟨[(4,.k,.ref 1 0)],[.box (.agg [.sl 1 (L.map AV.int) false,.int (((rawP L (rawP L p)):Nat):Int)]),.box (.agg [.sl 5 (((o.sp.set ((bentO_v0 L p o).toNat) x5).set 0 x6).map Spk.v) false,.sl 3 (o.ls.map Lsn.v) false,.sl 10 (o.fl.map Sig.v) false])]⟩ [0,17])))))))))))))))
(.br 561 ((Mod (rawV L (rawP L p)) 6)==4) (.own 625 (.say (ck (cond (decide (0≤(bentO_v0 L p o))) (decide ((bentO_v0 L p o)<((o.ls.map Lsn.v).length:Int))) false)) (.el 721 Lsn.v o.ls (fun R=>Rf (o.ls.map Lsn.v) (ck (decide ((bentO_v0 L p o).toNat<o.ls.length))
(∀x9,o.ls[(bentO_v0 L p o).toNat]?=some x9 →
(R x9)))) fun x9 =>
(.say (fun R=>Idt [.agg [.int 1,.int 1,.int 0,.sl 0 [] true]] (Idt (x9.heard.map Hrd.v)
(ck (decide (1+(x9.heard.map Hrd.v).length≤1000000))
R))) (.app 737 (fun y:AV=>y) [.agg [.int 1,.int 1,.int 0,.sl 0 [] true]] (x9.heard.map Hrd.v)
(.say (ck (cond (decide (0≤(bentO_v0 L p o))) (decide ((bentO_v0 L p o)<((o.ls.map Lsn.v).length:Int))) false)) (.stI 785 Lsn.v o.ls (fun R=>Rf (o.ls.map Lsn.v) (ck (decide ((bentO_v0 L p o).toNat<o.ls.length))
(∀y10,o.ls[(bentO_v0 L p o).toNat]?=some y10 →
((R y10))))) fun y10 =>
(.say (fun R=>FitE (.a [.k,.k,.k,(.s 4)]) Hrd.v [] ([(⟨1,1,0,[]⟩:Hrd)]++x9.heard) ([.agg [.int 1,.int 1,.int 0,.sl 0 [] true]]++(x9.heard.map Hrd.v)) ∧
R) (.cmd (.wkV 737 (.a [.k,.k,.k,(.s 4)]) Hrd.v ([]++([(⟨1,1,0,[]⟩:Hrd)]++x9.heard))) (.say (fun R=>Rf (α:=List AV) (([(⟨1,1,0,[]⟩:Hrd)]++x9.heard).map Hrd.v) (Rf (α:=List AV) ((o.ls.map Lsn.v).set ((bentO_v0 L p o).toNat) (.agg [.int y10.router,.int y10.epoch,.vec 737])) (Rf (Lsn.v (⟨y10.router,y10.epoch,[(⟨1,1,0,[]⟩:Hrd)]++x9.heard⟩:Lsn))
R))) (.cmd (.frzV 737 145 ((bentO_v0 L p o).toNat) Lsn.v o.ls (.agg [.int y10.router,.int y10.epoch,.vec 737]) (⟨y10.router,y10.epoch,[(⟨1,1,0,[]⟩:Hrd)]++x9.heard⟩:Lsn) (([(⟨1,1,0,[]⟩:Hrd)]++x9.heard).map Hrd.v) (pureBL_map (fun _=>rfl) ([(⟨1,1,0,[]⟩:Hrd)]++x9.heard))) (.say (Rf (o.fl.map Sig.v)) (.cmdL (.frzE 209 (o.fl.map Sig.v) (pureBL_map (fun _=>rfl) o.fl)) (.say (Rf ((o.ls.set ((bentO_v0 L p o).toNat) (⟨y10.router,y10.epoch,[(⟨1,1,0,[]⟩:Hrd)]++x9.heard⟩:Lsn)).map Lsn.v)) (.cmdL (.frzE 145 ((o.ls.set ((bentO_v0 L p o).toNat) (⟨y10.router,y10.epoch,[(⟨1,1,0,[]⟩:Hrd)]++x9.heard⟩:Lsn)).map Lsn.v) (pureBL_map (fun _=>rfl) (o.ls.set ((bentO_v0 L p o).toNat) (⟨y10.router,y10.epoch,[(⟨1,1,0,[]⟩:Hrd)]++x9.heard⟩:Lsn)))) (.say (Rf (o.sp.map Spk.v)) (.cmdL (.frzE 81 (o.sp.map Spk.v) (pureBL_map (fun _=>rfl) o.sp)) (.retH ((⟨L,rawP L (rawP L p)⟩:Tap),(⟨o.sp,o.ls.set ((bentO_v0 L p o).toNat) (⟨y10.router,y10.epoch,[(⟨1,1,0,[]⟩:Hrd)]++x9.heard⟩:Lsn),o.fl⟩:Ovl)) ⟨[(4,.k,.ref 1 0)],[.box (.agg [.sl 1 (L.map AV.int) false,.int (((rawP L (rawP L p)):Nat):Int)]),.box (.agg [.sl 5 (o.sp.map Spk.v) false,.sl 3 ((o.ls.set ((bentO_v0 L p o).toNat) (⟨y10.router,y10.epoch,[(⟨1,1,0,[]⟩:Hrd)]++x9.heard⟩:Lsn)).map Lsn.v) false,.sl 10 (o.fl.map Sig.v) false])]⟩ [0,17]))))))))))))))))))
(.say (ck (cond (decide (0≤(bentO_v0 L p o))) (decide ((bentO_v0 L p o)<((o.sp.map Spk.v).length:Int))) false)) (.el 689 Spk.v o.sp (fun R=>Rf (o.sp.map Spk.v) (ck (decide ((bentO_v0 L p o).toNat<o.sp.length))
(∀x11,o.sp[(bentO_v0 L p o).toNat]?=some x11 →
(R x11)))) fun x11 =>
(.say (ck (cond (decide (0≤(bentO_v0 L p o))) (decide ((bentO_v0 L p o)<((o.sp.map Spk.v).length:Int))) false)) (.el 785 Spk.v o.sp (fun R=>Rf (o.sp.map Spk.v) (ck (decide ((bentO_v0 L p o).toNat<o.sp.length))
(∀x12,o.sp[(bentO_v0 L p o).toNat]?=some x12 →
(R x12)))) fun x12 =>
(.say (fun R=>Rf (α:=List AV) (x11.peers.map Per.v) (ck (bndB x11.peers.length 0 (W (((x12.peers.map Per.v).length:Int).tdiv 2)) (x11.peers.length:Int))
R)) (.sub 833 Per.v x11.peers false
(.say (ck (cond (decide (0≤(bentO_v0 L p o))) (decide ((bentO_v0 L p o)<((o.sp.map Spk.v).length:Int))) false)) (.st 881 Spk.v o.sp (fun y13=>(⟨y13.router,y13.epoch,y13.last,y13.items,(x11.peers.take ((W (((x12.peers.map Per.v).length:Int).tdiv 2)).toNat)).drop 0⟩:Spk)) (fun R=>Rf (o.sp.map Spk.v) (ck (decide ((bentO_v0 L p o).toNat<o.sp.length))
(∀y13,o.sp[(bentO_v0 L p o).toNat]?=some y13→Rf (Spk.v (⟨y13.router,y13.epoch,y13.last,y13.items,(x11.peers.take ((W (((x12.peers.map Per.v).length:Int).tdiv 2)).toNat)).drop 0⟩:Spk))
((R y13))))) fun y13 =>
(.say (Rf (o.fl.map Sig.v)) (.cmdL (.frzE 209 (o.fl.map Sig.v) (pureBL_map (fun _=>rfl) o.fl)) (.say (Rf (o.ls.map Lsn.v)) (.cmdL (.frzE 145 (o.ls.map Lsn.v) (pureBL_map (fun _=>rfl) o.ls)) (.say (Rf ((o.sp.set ((bentO_v0 L p o).toNat) (⟨y13.router,y13.epoch,y13.last,y13.items,(x11.peers.take ((W (((x12.peers.map Per.v).length:Int).tdiv 2)).toNat)).drop 0⟩:Spk)).map Spk.v)) (.cmdL (.frzE 81 ((o.sp.set ((bentO_v0 L p o).toNat) (⟨y13.router,y13.epoch,y13.last,y13.items,(x11.peers.take ((W (((x12.peers.map Per.v).length:Int).tdiv 2)).toNat)).drop 0⟩:Spk)).map Spk.v) (pureBL_map (fun _=>rfl) (o.sp.set ((bentO_v0 L p o).toNat) (⟨y13.router,y13.epoch,y13.last,y13.items,(x11.peers.take ((W (((x12.peers.map Per.v).length:Int).tdiv 2)).toNat)).drop 0⟩:Spk)))) (.retH ((⟨L,rawP L (rawP L p)⟩:Tap),(⟨o.sp.set ((bentO_v0 L p o).toNat) (⟨y13.router,y13.epoch,y13.last,y13.items,(x11.peers.take ((W (((x12.peers.map Per.v).length:Int).tdiv 2)).toNat)).drop 0⟩:Spk),o.ls,o.fl⟩:Ovl)) ⟨[(4,.k,.ref 1 0)],[.box (.agg [.sl 1 (L.map AV.int) false,.int (((rawP L (rawP L p)):Nat):Int)]),.box (.agg [.sl 5 ((o.sp.set ((bentO_v0 L p o).toNat) (⟨y13.router,y13.epoch,y13.last,y13.items,(x11.peers.take ((W (((x12.peers.map Per.v).length:Int).tdiv 2)).toNat)).drop 0⟩:Spk)).map Spk.v) false,.sl 3 (o.ls.map Lsn.v) false,.sl 10 (o.fl.map Sig.v) false])]⟩ [0,17]))))))))))))))))))))))))))))
def bentO_vc(L:(List Int))(p:Nat)(o:Ovl)(r0:Tap×Ovl):Prop:=(bentO_x L p o).vc bentO_e bentO_b r0
theorem bentO_p(L:List Int)(p:Nat)(o:Ovl)(h:okBent o)(ok:bentO_a L p o):bentO_vc L p o ((⟨L,(bentO L p o).2⟩:Tap),(bentO L p o).1):=by
 obtain ⟨⟨h1,h2,h3⟩,h4,h5,h6⟩:=h
 have hk:=Mod_range (x:=rawV L p) (n:=(o.sp.length:Int)) (by omega)
 have hkn:(Mod (rawV L p) (o.sp.length:Int)).toNat<o.sp.length:=by omega
 have hkl:(Mod (rawV L p) (o.sp.length:Int)).toNat<o.ls.length:=by omega
 have hc:(cond (decide (0≤Mod (rawV L p) (o.sp.length:Int))) (decide (Mod (rawV L p) (o.sp.length:Int)<(o.sp.length:Int))) false)=true:=by
  rw [decide_eq_true hk.1,decide_eq_true hk.2];rfl
 have hc2:(cond (decide (0≤Mod (rawV L p) (o.sp.length:Int))) (decide (Mod (rawV L p) (o.sp.length:Int)<(o.ls.length:Int))) false)=true:=by
  rw [h3];exact hc
 have gs:∀{i:Nat} {x:Spk},o.sp[i]?=some x→o.sp.getD i spk0=x:=fun hx=>by rw [List.getD_eq_getElem?_getD,hx];rfl
 have gl:∀{i:Nat} {x:Lsn},o.ls[i]?=some x→o.ls.getD i lsn0=x:=fun hx=>by rw [List.getD_eq_getElem?_getD,hx];rfl
 have hsg:=sigT_len (L:=L) (p:=rawP L (rawP L p))
 dsimp only [bentO_vc,bentO_x,noS,bentO_v0,bentO_v1,Ax.vp,Ax.vc];simp only [vcU,rfU,List.length_map]
 refine ⟨by omega,by omega,by omega,fun c=>⟨hc,hkn,fun x hx=>⟨h5 x (mem_of_get hx),hc,hkn,fun y hy=>?_⟩⟩,fun c0=>?_⟩
 ·have c:=eq_of_beq c
  simp only [bentO,if_pos c,gs hx]
 have c0:¬Mod (rawV L (rawP L p)) 6=0:=beq_eq_false_iff_ne.mp c0
 refine ⟨fun c=>⟨by simp only [bndB];simp;omega,?_⟩,fun c1=>?_⟩
 ·have c:=eq_of_beq c
  simp only [bentO,if_neg c0,if_pos c,List.drop_zero]
 have c1:¬Mod (rawV L (rawP L p)) 6=1:=beq_eq_false_iff_ne.mp c1
 refine ⟨fun c=>⟨by omega,by omega,?_⟩,fun c2=>?_⟩
 ·have c:=eq_of_beq c
  simp only [bentO,if_neg c0,if_neg c1,if_pos c]
 have c2:¬Mod (rawV L (rawP L p)) 6=2:=beq_eq_false_iff_ne.mp c2
 refine ⟨fun c=>⟨by omega,by omega,fun x hx=>⟨hc,hkn,fun y hy=>⟨hc,hkn,fun z hz=>⟨by simp;omega,by simp;omega,fun w hw=>?_⟩⟩⟩⟩,fun c3=>?_⟩
 ·have c:=eq_of_beq c
  simp only [bentO,if_neg c0,if_neg c1,if_neg c2,if_pos c,gs hx,gs hy]
 have c3:¬Mod (rawV L (rawP L p)) 6=3:=beq_eq_false_iff_ne.mp c3
 refine ⟨fun c=>⟨hc2,hkl,fun x hx=>⟨?_,hc2,hkl,fun y hy=>⟨fitE_nil,?_⟩⟩⟩,fun c4=>⟨hc,hkn,fun x hx=>⟨hc,hkn,fun y hy=>⟨?_,hc,hkn,fun z hz=>?_⟩⟩⟩⟩
 ·have:=h6 x (mem_of_get hx)
  simp;omega
 ·have c:=eq_of_beq c
  have e:x=y:=Option.some.inj (hx.symm.trans hy)
  subst e
  simp only [bentO,if_neg c0,if_neg c1,if_neg c2,if_neg c3,if_pos c,gl hx]
 all_goals have e:x=y:=Option.some.inj (hx.symm.trans hy)
 all_goals subst e
 ·have:=(h5 x (mem_of_get hx)).2
  have e2:((x.peers.length:Int)).tdiv 2=((x.peers.length / 2:Nat):Int):=rfl
  rw [e2,W_eq (by omega)]
  simp only [bndB];simp;omega
 ·have c4:¬Mod (rawV L (rawP L p)) 6=4:=beq_eq_false_iff_ne.mp c4
  have e:x=z:=Option.some.inj (hx.symm.trans hz)
  subst e
  simp only [bentO,if_neg c0,if_neg c1,if_neg c2,if_neg c3,if_neg c4,gs hx,List.drop_zero]
def bentO_h(L:(List Int))(p:Nat)(o:Ovl)(h:okBent o):HC Tryz.prog:=⟨8,[.k,(.a [(.s 5),(.s 3),(.s 10)])],[.ref 0 0,.agg [.sl 5 (o.sp.map Spk.v) false,.sl 3 (o.ls.map Lsn.v) false,.sl 10 (o.fl.map Sig.v) false]],[.box (.agg [.sl 1 (L.map AV.int) false,.int ((p:Nat):Int)])],bentO_e ((⟨L,(bentO L p o).2⟩:Tap),(bentO L p o).1),bentO_b ((⟨L,(bentO L p o).2⟩:Tap),(bentO L p o).1),HSpec.of_okh fun ok ok2=>have ok:bentO_a L p o:=⟨ok,ok2 _ (by simp)⟩;mxH_of (sh:=(.a [(.s 5),(.s 3),(.s 10)])) (enc:=bentO_e) (hB:=bentO_b) (a:=(bentO_x L p o).an) (bentO_p L p o h ok) (by kernel_rfl),fnB_ok (by kernel_rfl),HcOk.of (by simp [hcB,belBL,AV.belB,allB,okBk,okBkO,bentO_e,bentO_b,pureBL_map (v:=AV.int) (fun _=>rfl),pureBL_map (v:=Lsn.v) (fun _=>rfl),pureBL_map (v:=Sig.v) (fun _=>rfl),pureBL_map (v:=Spk.v) (fun _=>rfl)])⟩
def ansO_a(t:(List Int))(raw:Ovl)(faults:(List Fau))(wants:(List Wnt))(at_:Int)(of_:Int):Prop:=okL [.sl 1 (t.map AV.int) false,.agg [.sl 5 (raw.sp.map Spk.v) false,.sl 3 (raw.ls.map Lsn.v) false,.sl 10 (raw.fl.map Sig.v) false],.sl 2 (faults.map Fau.v) false,.sl 3 (wants.map Wnt.v) false,.int at_,.int of_]
abbrev ansO_v1(t:(List Int)):=(t.take ((minI ((t.map AV.int).length:Int) 15).toNat))
abbrev ansO_v2(t:(List Int)):=(ovlT (t.take 2000) 4 8 0)
abbrev ansO_v0(t:(List Int)):=(bentO (t.take 2000) ((ansO_v2 t).2) ((ansO_v2 t).1))
def ansO_n0(t:(List Int))(raw:Ovl)(faults:(List Fau))(wants:(List Wnt))(at_:Int)(of_:Int)(t0:Bool):NF:=⟨[(0,.k,.sl 1 (t.map AV.int) false),(2,.k,.sl 2 (faults.map Fau.v) false),(3,.k,.sl 3 (wants.map Wnt.v) false),(4,.k,.int at_),(5,.k,.int of_),(7,.k,.ref 0 0),(56,.k,.bool t0)],[.box (.agg [.sl 5 (raw.sp.map Spk.v) false,.sl 3 (raw.ls.map Lsn.v) false,.sl 10 (raw.fl.map Sig.v) false])]⟩
def ansO_n1(t:(List Int))(raw:Ovl)(faults:(List Fau))(wants:(List Wnt))(at_:Int)(of_:Int)(t1:Int×Nat):NF:=⟨[(0,.k,.sl 1 (t.map AV.int) false),(2,.k,.sl 2 (faults.map Fau.v) false),(3,.k,.sl 3 (wants.map Wnt.v) false),(4,.k,.int at_),(5,.k,.int of_),(13,.k,.ref 0 0),(67,.k,.sl 3 [.agg [.sl 5 (raw.sp.map Spk.v) false,.sl 3 (raw.ls.map Lsn.v) false,.sl 10 (raw.fl.map Sig.v) false],(Ovl.v ((ansO_v2 t).1)),.agg [.sl 5 ((((ansO_v0 t).1).sp).map Spk.v) false,.sl 3 ((((ansO_v0 t).1).ls).map Lsn.v) false,.sl 10 ((((ansO_v0 t).1).fl).map Sig.v) false]] true),(68,.k,.int 3),(69,.k,.int t1.1)],[.box (.agg [.sl 1 ((t.take 2000).map AV.int) false,.int ((t1.2:Nat):Int)])]⟩
def ansO_n2(t:(List Int))(raw:Ovl)(faults:(List Fau))(wants:(List Wnt))(at_:Int)(of_:Int)(t1:Int×Nat)(x3:Ovl)(t2:Bool):NF:=⟨[(0,.k,.sl 1 (t.map AV.int) false),(2,.k,.sl 2 (faults.map Fau.v) false),(3,.k,.sl 3 (wants.map Wnt.v) false),(4,.k,.int at_),(5,.k,.int of_),(13,.k,.ref 0 0),(16,.k,.ref 1 0),(67,.k,.sl 3 [.agg [.sl 5 (raw.sp.map Spk.v) false,.sl 3 (raw.ls.map Lsn.v) false,.sl 10 (raw.fl.map Sig.v) false],(Ovl.v ((ansO_v2 t).1)),.agg [.sl 5 ((((ansO_v0 t).1).sp).map Spk.v) false,.sl 3 ((((ansO_v0 t).1).ls).map Lsn.v) false,.sl 10 ((((ansO_v0 t).1).fl).map Sig.v) false]] true),(68,.k,.int 3),(69,.k,.int t1.1),(84,.k,.bool t2)],[.box (.agg [.sl 1 ((t.take 2000).map AV.int) false,.int ((t1.2:Nat):Int)]),.box (.agg [.sl 5 (x3.sp.map Spk.v) false,.sl 3 (x3.ls.map Lsn.v) false,.sl 10 (x3.fl.map Sig.v) false])]⟩
def ansO_n3(t:(List Int))(raw:Ovl)(faults:(List Fau))(wants:(List Wnt))(at_:Int)(of_:Int)(t1:Int×Nat)(x3:Ovl)(t3:Int×Nat):NF:=⟨[(0,.k,.sl 1 (t.map AV.int) false),(2,.k,.sl 2 (faults.map Fau.v) false),(3,.k,.sl 3 (wants.map Wnt.v) false),(4,.k,.int at_),(5,.k,.int of_),(13,.k,.ref 0 0),(16,.k,.ref 1 0),(17,.k,.int t3.1),(67,.k,.sl 3 [.agg [.sl 5 (raw.sp.map Spk.v) false,.sl 3 (raw.ls.map Lsn.v) false,.sl 10 (raw.fl.map Sig.v) false],(Ovl.v ((ansO_v2 t).1)),.agg [.sl 5 ((((ansO_v0 t).1).sp).map Spk.v) false,.sl 3 ((((ansO_v0 t).1).ls).map Lsn.v) false,.sl 10 ((((ansO_v0 t).1).fl).map Sig.v) false]] true),(68,.k,.int 3),(69,.k,.int t1.1)],[.box (.agg [.sl 1 ((t.take 2000).map AV.int) false,.int ((t3.2:Nat):Int)]),.box (.agg [.sl 5 (x3.sp.map Spk.v) false,.sl 3 (x3.ls.map Lsn.v) false,.sl 10 (x3.fl.map Sig.v) false])]⟩
def ansO_n4(t:(List Int))(raw:Ovl)(faults:(List Fau))(wants:(List Wnt))(at_:Int)(of_:Int)(t1:Int×Nat)(x3:Ovl)(t3:Int×Nat)(t4:Int×Int×(List Wnt)×(List Fau)×Nat):NF:=⟨[(0,.k,.sl 1 (t.map AV.int) false),(2,.k,.sl 2 (faults.map Fau.v) false),(3,.k,.sl 3 (wants.map Wnt.v) false),(4,.k,.int at_),(5,.k,.int of_),(13,.k,.ref 0 0),(16,.k,.ref 1 0),(17,.k,.int t3.1),(18,.k,.int t4.1),(19,.k,.int t4.2.1),(20,(.s 3),.sl 3 (t4.2.2.1.map Wnt.v) false),(21,(.s 2),.sl 2 (t4.2.2.2.1.map Fau.v) false),(67,.k,.sl 3 [.agg [.sl 5 (raw.sp.map Spk.v) false,.sl 3 (raw.ls.map Lsn.v) false,.sl 10 (raw.fl.map Sig.v) false],(Ovl.v ((ansO_v2 t).1)),.agg [.sl 5 ((((ansO_v0 t).1).sp).map Spk.v) false,.sl 3 ((((ansO_v0 t).1).ls).map Lsn.v) false,.sl 10 ((((ansO_v0 t).1).fl).map Sig.v) false]] true),(68,.k,.int 3),(69,.k,.int t1.1)],[.box (.agg [.sl 1 ((t.take 2000).map AV.int) false,.int ((t4.2.2.2.2:Nat):Int)]),.box (.agg [.sl 5 (x3.sp.map Spk.v) false,.sl 3 (x3.ls.map Lsn.v) false,.sl 10 (x3.fl.map Sig.v) false])]⟩
def ansO_n5(t:(List Int))(raw:Ovl)(faults:(List Fau))(wants:(List Wnt))(at_:Int)(of_:Int)(t1:Int×Nat)(x3:Ovl)(t3:Int×Nat)(t4:Int×Int×(List Wnt)×(List Fau)×Nat)(t5:Bool):NF:=⟨[(0,.k,.sl 1 (t.map AV.int) false),(2,.k,.sl 2 (faults.map Fau.v) false),(3,.k,.sl 3 (wants.map Wnt.v) false),(4,.k,.int at_),(5,.k,.int of_),(13,.k,.ref 0 0),(16,.k,.ref 1 0),(17,.k,.int t3.1),(67,.k,.sl 3 [.agg [.sl 5 (raw.sp.map Spk.v) false,.sl 3 (raw.ls.map Lsn.v) false,.sl 10 (raw.fl.map Sig.v) false],(Ovl.v ((ansO_v2 t).1)),.agg [.sl 5 ((((ansO_v0 t).1).sp).map Spk.v) false,.sl 3 ((((ansO_v0 t).1).ls).map Lsn.v) false,.sl 10 ((((ansO_v0 t).1).fl).map Sig.v) false]] true),(68,.k,.int 3),(69,.k,.int t1.1),(203,.k,.bool t5)],[.box (.agg [.sl 1 ((t.take 2000).map AV.int) false,.int ((t4.2.2.2.2:Nat):Int)]),.box (.agg [.sl 5 (x3.sp.map Spk.v) false,.sl 3 (x3.ls.map Lsn.v) false,.sl 10 (x3.fl.map Sig.v) false])]⟩
def ansO_n6(t:(List Int))(at_:Int)(t6:Int):NF:=⟨[(215,.k,.sl 1 [.sl 1 ([1,4,9].map AV.int) false,.sl 1 ([at_].map AV.int) false,.sl 1 ([4,4].map AV.int) false,.sl 1 ([9,1].map AV.int) false,.sl 1 ([].map AV.int) false,.sl 1 (((ansO_v1 t).drop 0).map AV.int) false] false),(216,.k,.int 6),(217,.k,.int t6)],[]⟩
def ansO_n7(t:(List Int))(at_:Int)(t6:Int)(t7:Bool):NF:=⟨[(215,.k,.sl 1 [.sl 1 ([1,4,9].map AV.int) false,.sl 1 ([at_].map AV.int) false,.sl 1 ([4,4].map AV.int) false,.sl 1 ([9,1].map AV.int) false,.sl 1 ([].map AV.int) false,.sl 1 (((ansO_v1 t).drop 0).map AV.int) false] false),(216,.k,.int 6),(217,.k,.int t6),(239,.k,.bool t7)],[]⟩
@[reducible] def ansO_s:Nat→Type
 | 0=>Bool
 | 1=>Int×Nat
 | 2=>Bool
 | 3=>Int×Nat
 | 4=>Int×Int×(List Wnt)×(List Fau)×Nat
 | 5=>Bool
 | 6=>Int
 | 7=>Bool
 | _=>Unit
def ansO_e(r:Bool):AV:=.bool r
def ansO_x(t:(List Int))(raw:Ovl)(faults:(List Fau))(wants:(List Wnt))(at_:Int)(of_:Int)(I0:Bool→Prop)(I1:Bool→(Int×Nat)→Prop)(m1:Bool→(Int×Nat)→Nat)(I2:Bool→Int×Nat→Ovl→Bool→Prop)(I3:Bool→Int×Nat→Ovl→Bool→(Int×Nat)→Prop)(m3:Bool→Int×Nat→Ovl→Bool→(Int×Nat)→Nat)(I4:Bool→Int×Nat→Ovl→Bool→Int×Nat→(Int×Int×(List Wnt)×(List Fau)×Nat)→Prop)(I5:Bool→Int×Nat→Ovl→Bool→Int×Nat→Int×Int×(List Wnt)×(List Fau)×Nat→Bool→Prop)(I6:Bool→Int×Nat→Int→Prop)(m6:Bool→Int×Nat→Int→Nat)(I7:Bool→Int×Nat→Int→(List Int)→Bool→Prop):Ax Tryz.prog ansO_s (Bool):=
 (.pass (.pass (.join 0 (ansO_n0 t raw faults wants at_ of_) (fun (t0:Bool)=>I0 t0) (fun b0=>(.callP (smallO_c raw)
(.br 96 (!(smallO raw)) (.bk 0 b0 ((true):Bool) [0])
(.br 176 (decide (100<((faults.map Fau.v).length:Int))) (.bk 0 b0 ((true):Bool) [0])
(.bk 0 b0 ((decide (60<((wants.map Wnt.v).length:Int))):Bool) [0]))))) fun (t0:Bool) =>
(.br 1 t0 (.callP (awakeO_c )
(.ret (true)))
(.callH [] (New_h t) 17
(.req 65 ((1≤4∧4≤5)∧0≤8∧8≤20) fun h1 =>
(.callH [17] (ovlT_h (t.take 2000) 0 4 8 h1) 65
(.req 177 (okBent ((ansO_v2 t).1)) fun h2 =>
(.callH [17] (bentO_h (t.take 2000) ((ansO_v2 t).2) ((ansO_v2 t).1) h2) 177
(.loop 1 (ansO_n1 t raw faults wants at_ of_) (I1 t0) (m1 t0) (0,(ansO_v0 t).2) [17] fun (t1:Int×Nat) b1 =>
(.br 17 (decide (t1.1<3)) (.el 17 Ovl.v [raw,(ansO_v2 t).1,(ansO_v0 t).1] (fun R=>Rf (α:=List AV) [.agg [.sl 5 (raw.sp.map Spk.v) false,.sl 3 (raw.ls.map Lsn.v) false,.sl 10 (raw.fl.map Sig.v) false],(Ovl.v ((ansO_v2 t).1)),.agg [.sl 5 ((((ansO_v0 t).1).sp).map Spk.v) false,.sl 3 ((((ansO_v0 t).1).ls).map Lsn.v) false,.sl 10 ((((ansO_v0 t).1).fl).map Sig.v) false]] (ck (decide (0≤t1.1)) (ck (decide (t1.1<([raw,(ansO_v2 t).1,(ansO_v0 t).1].length:Int)))
(∀x3,[raw,(ansO_v2 t).1,(ansO_v0 t).1][t1.1.toNat]?=some x3 →
(R x3))))) fun x3 =>
(.pass (.join 2 (ansO_n2 t raw faults wants at_ of_ t1 x3) (fun (t2:Bool)=>I2 t0 t1 x3 t2) (fun b2=>(.callP (valO_c x3)
(.callP (valOR_c x3)
(.br 177 ((valO x3) != (valO x3)) (.bk 2 b2 ((true):Bool) [0,49])
(.callP (setOv_c x3)
(.callP (setOR_c x3)
(.bk 2 b2 ((!((decide (settledP x3))==(decide (settledP x3)))):Bool) [0,49]))))))) fun (t2:Bool) =>
(.br 2 t2 (.ret (false))
(.loop 3 (ansO_n3 t raw faults wants at_ of_ t1 x3) (I3 t0 t1 x3 t2) (m3 t0 t1 x3 t2) (0,t1.2) [0,1] fun (t3:Int×Nat) b3 =>
(.br 34 (decide (t3.1<2)) (.pass (.pass (.join 4 (ansO_n4 t raw faults wants at_ of_ t1 x3 t3) (fun (t4:Int×Int×(List Wnt)×(List Fau)×Nat)=>I4 t0 t1 x3 t2 t3 t4) (fun b4=>(.br 194 (t3.1==1) (.req 226 ([2,3,5]≠[]) fun h4 =>
(.callH [0] (Pick_h (t.take 2000) t3.2 [2,3,5] h4) 226
(.req 274 ([2,3,5]≠[]) fun h5 =>
(.callH [0] (Pick_h (t.take 2000) (rawP (t.take 2000) t3.2) [2,3,5] h5) 274
(.callH [0] (wantsT_h (t.take 2000) (rawP (t.take 2000) (rawP (t.take 2000) t3.2))) 306
(.req 386 (0≤((x3.fl.map Sig.v).length:Int)∧((x3.fl.map Sig.v).length:Int)≤1000000) fun h6 =>
(.callH [0] (fltsT_h (t.take 2000) ((wantsT (t.take 2000) (rawP (t.take 2000) (rawP (t.take 2000) t3.2))).2) ((x3.fl.map Sig.v).length:Int) h6) 386
(.bk 4 b4 (pickI [2,3,5] (rawV (t.take 2000) t3.2),pickI [2,3,5] (rawV (t.take 2000) (rawP (t.take 2000) t3.2)),(wantsT (t.take 2000) (rawP (t.take 2000) (rawP (t.take 2000) t3.2))).1,(faultsT (t.take 2000) ((x3.fl.map Sig.v).length:Int) ((wantsT (t.take 2000) (rawP (t.take 2000) (rawP (t.take 2000) t3.2))).2)).1,(faultsT (t.take 2000) ((x3.fl.map Sig.v).length:Int) ((wantsT (t.take 2000) (rawP (t.take 2000) (rawP (t.take 2000) t3.2))).2)).2) [0,1]))))))))
(.bk 4 b4 (at_,of_,wants,faults,t3.2) [0,1]))) fun (t4:Int×Int×(List Wnt)×(List Fau)×Nat) =>
(.req 50 (x3.fl.length≤1000000) fun h7 =>
(.callP (chgOv_c x3 t4.1 t4.2.2.1 h7)
(.req 210 (x3.fl.length≤1000000) fun h8 =>
(.callP (chgOR_c x3 t4.1 t4.2.2.1 h8)
(.req 370 (x3.fl.length≤1000000) fun h9 =>
(.callP (rstOv_c x3 t4.1 t4.2.2.1 h9)
(.req 530 (x3.fl.length≤1000000) fun h10 =>
(.callP (rstOR_c x3 t4.1 t4.2.2.1 h10)
(.req 674 (okRnd x3 t4.2.2.2.1) fun h11 =>
(.callP (rndOv_c x3 t4.2.2.2.1 h11)
(.req 818 (okRnd x3 t4.2.2.2.1) fun h12 =>
(.callP (rndOR_c x3 t4.2.2.2.1 h12)
(.callP (knwOv_c x3 t4.1 t4.2.1)
(.callP (knwOR_c x3 t4.1 t4.2.1)
(.join 5 (ansO_n5 t raw faults wants at_ of_ t1 x3 t3 t4) (fun (t5:Bool)=>I5 t0 t1 x3 t2 t3 t4 t5) (fun b5=>(.br 1282 (((changeV x3 t4.1 t4.2.2.1).2) != ((changeV x3 t4.1 t4.2.2.1).2)) (.bk 5 b5 ((true):Bool) [0,1])
(.br 1362 (((restartV x3 t4.1 t4.2.2.1).2) != ((restartV x3 t4.1 t4.2.2.1).2)) (.bk 5 b5 ((true):Bool) [0,1])
(.br 1442 (((roundO x3 t4.2.2.2.1).2) != ((roundO x3 t4.2.2.2.1).2)) (.bk 5 b5 ((true):Bool) [0,1])
(.br 1522 (((knownV x3 t4.1 t4.2.1).2) != ((knownV x3 t4.1 t4.2.1).2)) (.bk 5 b5 ((true):Bool) [0,1])
(.callP (sameO_c ((changeV x3 t4.1 t4.2.2.1).1) ((changeV x3 t4.1 t4.2.2.1).1))
(.br 1618 (!(decide (((changeV x3 t4.1 t4.2.2.1).1)=((changeV x3 t4.1 t4.2.2.1).1)))) (.bk 5 b5 ((true):Bool) [0,1])
(.callP (sameO_c ((restartV x3 t4.1 t4.2.2.1).1) ((restartV x3 t4.1 t4.2.2.1).1))
(.br 1714 (!(decide (((restartV x3 t4.1 t4.2.2.1).1)=((restartV x3 t4.1 t4.2.2.1).1)))) (.bk 5 b5 ((true):Bool) [0,1])
(.callP (sameO_c ((roundO x3 t4.2.2.2.1).1) ((roundO x3 t4.2.2.2.1).1))
(.br 1810 (!(decide (((roundO x3 t4.2.2.2.1).1)=((roundO x3 t4.2.2.2.1).1)))) (.bk 5 b5 ((true):Bool) [0,1])
(.callP (sameW_c ((knownV x3 t4.1 t4.2.1).1) ((knownV x3 t4.1 t4.2.1).1))
(.bk 5 b5 ((!(decide (((knownV x3 t4.1 t4.2.1).1)=((knownV x3 t4.1 t4.2.1).1)))):Bool) [0,1]))))))))))))) fun (t5:Bool) =>
(.br 2 t5 (.ret (false))
(.bk 3 b3 (W (t3.1+1),t4.2.2.2.2) [0,1]))))))))))))))))))))
(.bk 1 b1 (W (t1.1+1),t3.2) [0])))))))
(.say (fun R=>Rf (α:=List AV) (t.map AV.int) (ck (bndB t.length 0 (minI ((t.map AV.int).length:Int) 15) (t.length:Int))
R)) (.sub 161 AV.int t false
(.cmdL (.wkT 215 (.v (.s 1))) (.loop 6 (ansO_n6 t at_) (I6 t0 t1) (m6 t0 t1) ((0):Int) [] fun (t6:Int) b6 =>
(.br 16 (decide (t6<6)) (.el 16 (fun l=>AV.sl 1 (l.map AV.int) false) [[1,4,9],[at_],[4,4],[9,1],[],(ansO_v1 t).drop 0] (fun R=>Rf (α:=List AV) [.sl 1 ([1,4,9].map AV.int) false,.sl 1 ([at_].map AV.int) false,.sl 1 ([4,4].map AV.int) false,.sl 1 ([9,1].map AV.int) false,.sl 1 ([].map AV.int) false,.sl 1 (((ansO_v1 t).drop 0).map AV.int) false] (ck (decide (0≤t6)) (ck (decide (t6<([[1,4,9],[at_],[4,4],[9,1],[],(ansO_v1 t).drop 0].length:Int)))
(∀x13,[[1,4,9],[at_],[4,4],[9,1],[],(ansO_v1 t).drop 0][t6.toNat]?=some x13 →
(R x13))))) fun x13 =>
(.req 80 (x13.length≤1000) fun h14 =>
(.callP (newOv_c x13 h14)
(.req 208 (x13.length≤1000) fun h15 =>
(.callP (newOR_c x13 h15)
(.join 7 (ansO_n7 t at_ t6) (fun (t7:Bool)=>I7 t0 t1 t6 x13 t7) (fun b7=>(.br 384 (((newN x13).2) != ((newN x13).2)) (.bk 7 b7 ((true):Bool) [])
(.callP (sameO_c ((newN x13).1) ((newN x13).1))
(.bk 7 b7 ((!(decide (((newN x13).1)=((newN x13).1)))):Bool) [])))) fun (t7:Bool) =>
(.br 0 t7 (.ret (false))
(.bk 6 b6 ((W (t6+1)):Int) []))))))))
(.callP (awakeO_c )
(.ret (true)))))))))))))))))))
def ansO_vc(t:(List Int))(raw:Ovl)(faults:(List Fau))(wants:(List Wnt))(at_:Int)(of_:Int)(I0:Bool→Prop)(I1:Bool→(Int×Nat)→Prop)(m1:Bool→(Int×Nat)→Nat)(I2:Bool→Int×Nat→Ovl→Bool→Prop)(I3:Bool→Int×Nat→Ovl→Bool→(Int×Nat)→Prop)(m3:Bool→Int×Nat→Ovl→Bool→(Int×Nat)→Nat)(I4:Bool→Int×Nat→Ovl→Bool→Int×Nat→(Int×Int×(List Wnt)×(List Fau)×Nat)→Prop)(I5:Bool→Int×Nat→Ovl→Bool→Int×Nat→Int×Int×(List Wnt)×(List Fau)×Nat→Bool→Prop)(I6:Bool→Int×Nat→Int→Prop)(m6:Bool→Int×Nat→Int→Nat)(I7:Bool→Int×Nat→Int→(List Int)→Bool→Prop)(r0:Bool):Prop:=(ansO_x t raw faults wants at_ of_ I0 I1 m1 I2 I3 m3 I4 I5 I6 m6 I7).vp ansO_e r0
theorem ansO_p(t:List Int)(raw:Ovl)(faults:List Fau)(wants:List Wnt)(at_ of_:Int)(ok:ansO_a t raw faults wants at_ of_) :
  ∃I0 I1 m1 I2 I3 m3 I4 I5 I6 m6 I7,ansO_vc t raw faults wants at_ of_ I0 I1 m1 I2 I3 m3 I4 I5 I6 m6 I7 true:=by
 refine ⟨fun x=>x=false→raw.fl.length≤200∧faults.length≤100,
  fun _ u=>∃k:Nat,u.1=k∧k≤3,fun _ u=>3-u.1.toNat,
  fun _ _ _ x=>x=false,
  fun _ _ _ _ u=>∃k:Nat,u.1=k∧k≤2,fun _ _ _ _ u=>2-u.1.toNat,
  fun _ _ _ _ _ v=>v.2.2.2.1.length≤1000,
  fun _ _ _ _ _ _ x=>x=false,
  fun _ _ x=>∃k:Nat,x=k∧k≤6,fun _ _ x=>6-x.toNat,
  fun _ _ _ _ x=>x=false,?_⟩
 dsimp only [ansO_vc,ansO_x,ansO_s,ansO_v0,ansO_v1,ansO_v2,Ax.vp,Ax.vc];simp only [vcU,rfU,List.length_map]
 refine ⟨⟨fun c e=>by simp at e,fun c=>⟨fun d e=>by simp at e,fun d e=>⟨smallO_fl (by simpa using c),by omega⟩⟩⟩,?_⟩
 intro t0 h0
 refine ⟨fun _=>trivial,fun ht0=>⟨by decide,?_⟩⟩
 obtain ⟨hr1,hr2⟩:=h0 ht0
 obtain ⟨R,hR,hO,hfl⟩:=ovlT_n8 (L:=t.take 2000) (p:=0)
 have hB:=hO.bent hR.1 (by omega)
 have hBf:=bentO_fl (L:=t.take 2000) (p:=(ovlT (t.take 2000) 4 8 0).2) (o:=(ovlT (t.take 2000) 4 8 0).1)
 generalize bentO (t.take 2000) (ovlT (t.take 2000) 4 8 0).2 (ovlT (t.take 2000) 4 8 0).1=B at *
 generalize (ovlT (t.take 2000) 4 8 0).1=t2 at *
 refine ⟨hB,⟨0,rfl,by omega⟩,?_⟩
 rintro ⟨i,q⟩ ⟨k,hi,hk⟩
 simp only at hi ⊢
 subst hi
 simp only [Int.toNat_natCast]
 refine ⟨fun c1=>⟨by omega,by simp;omega,fun x hx=>⟨⟨fun e=>by simp at e,fun _=>by simp⟩,?_⟩⟩,fun c1=>?_⟩
 ·have hxf:x.fl.length≤200000:=by
   have:=mem_of_get hx
   simp only [List.mem_cons,List.not_mem_nil,or_false] at this
   rcases this with rfl|rfl|rfl<;>omega
  rintro _ rfl
  refine ⟨fun e=>by simp at e,fun _=>⟨⟨0,rfl,by omega⟩,?_⟩⟩
  rintro ⟨j,q2⟩ ⟨m,hj,hm⟩
  simp only at hj ⊢
  subst hj
  have hF:=faultsT_len (L:=t.take 2000) (n:=(x.fl.length:Int)) (p:=(wantsT (t.take 2000) (rawP (t.take 2000) (rawP (t.take 2000) q2))).2)
  refine ⟨fun c2=>⟨⟨fun e=>⟨by simp,by simp,⟨by omega,by omega⟩,by omega⟩,fun e=>by omega⟩,?_⟩,fun c2=>?_⟩
  ·rintro ⟨r,g,w,f,q3⟩ hf
   simp only at hf ⊢
   refine ⟨by omega,by omega,by omega,by omega,⟨by omega,by omega⟩,⟨by omega,by omega⟩,by simp,?_⟩
   rintro _ rfl
   rw [W_succ (n:=2) (by omega) (by omega)]
   exact ⟨fun e=>by simp at e,fun _=>⟨⟨m+1,rfl,by omega⟩,by omega⟩⟩
  ·rw [W_succ (n:=3) (by omega) (by omega)]
   exact ⟨⟨k+1,rfl,by omega⟩,by omega⟩
 ·have hm:minI (t.length:Int) 15=((min t.length 15:Nat):Int):=by unfold minI;split<;>omega
  rw [hm,Int.toNat_natCast]
  refine ⟨by simp [bndB];omega,⟨0,rfl,by omega⟩,?_⟩
  rintro _ ⟨m,rfl,hm⟩
  simp only [Int.toNat_natCast]
  refine ⟨fun c2=>⟨by omega,by simp;omega,fun x hx=>?_⟩,fun _=>trivial⟩
  have hxl:x.length≤1000:=by
   have:=mem_of_get hx
   simp only [List.mem_cons,List.not_mem_nil,or_false] at this
   rcases this with rfl|rfl|rfl|rfl|rfl|rfl<;>simp<;>omega
  refine ⟨hxl,hxl,by simp,?_⟩
  rintro _ rfl
  rw [W_succ (n:=6) (by omega) (by omega)]
  exact ⟨fun e=>by simp at e,fun _=>⟨⟨m+1,rfl,by omega⟩,by omega⟩⟩
def ansO_c(t:(List Int))(raw:Ovl)(faults:(List Fau))(wants:(List Wnt))(at_:Int)(of_:Int):PC Tryz.prog:=⟨3,[(.s 1),(.a [(.s 5),(.s 3),(.s 10)]),(.s 2),(.s 3),.k,.k],[.sl 1 (t.map AV.int) false,.agg [.sl 5 (raw.sp.map Spk.v) false,.sl 3 (raw.ls.map Lsn.v) false,.sl 10 (raw.fl.map Sig.v) false],.sl 2 (faults.map Fau.v) false,.sl 3 (wants.map Wnt.v) false,.int at_,.int of_],ansO_e true,PSpec.of_ok fun ok=>(ansO_p t raw faults wants at_ of_ ok).elim fun I0 h=>h.elim fun I1 h=>h.elim fun m1 h=>h.elim fun I2 h=>h.elim fun I3 h=>h.elim fun m3 h=>h.elim fun I4 h=>h.elim fun I5 h=>h.elim fun I6 h=>h.elim fun m6 h=>h.elim fun I7 h=>mxP_of (sh:=.k) (enc:=ansO_e) (a:=(ansO_x t raw faults wants at_ of_ I0 I1 m1 I2 I3 m3 I4 I5 I6 m6 I7).an) h (by kernel_rfl) (AV.pureB_ok rfl),fnB_ok (by kernel_rfl)⟩
end Go.Proofs.YtkanhopflelmdaaGreatDoor
