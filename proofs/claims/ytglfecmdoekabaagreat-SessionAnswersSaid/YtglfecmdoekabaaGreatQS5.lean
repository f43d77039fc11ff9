/- Texts joined: G10 G11 U2 G13 G14 V4 V5 Mx7. -/
import Derived.Shelf.SlSortCmp.NoneTotal
import Derived.Shelf.SlSortCmp.WholeK
import Derived.Test.YtglfecmdoekabaaGreatQS4
namespace Go.Proofs.YtglfecmdoekabaaGreat
open Go Go.Am
set_option linter.unusedVariables false
set_option linter.unusedSimpArgs false
def wantsTF_a (L:(List Int)) (p:Nat):Prop:=okL [.ref 0 0] ∧ (.box (.agg [.sl 1 (L.map AV.int) false,.int ((p:Nat):Int)]):Blk).ok
def wantsTF_n0 (L:(List Int)) (p:Nat) (t0:Int × Nat × (List Wnt)):NF:=⟨[(0,.k,.ref 0 0),(3,.k,.vec 1),(4,.k,.int t0.1)],[.box (.agg [.sl 1 (L.map AV.int) false,.int ((t0.2.1:Nat):Int)]),.vec 3 (t0.2.2.map Wnt.v) (pureBL_map (fun _=>rfl) t0.2.2)]⟩
def wantsTF_s:Nat → Type
  | 0=>Int × Nat × (List Wnt)
  | _=>Unit
def wantsTF_e (r:Tap × (List Wnt)):AV:=.sl 3 (r.2.map Wnt.v) false
def wantsTF_b (r:Tap × (List Wnt)):List (Option Blk):=[some (.box (.agg [.sl 1 (r.1.L.map AV.int) false,.int ((r.1.p:Nat):Int)]))]
def wantsTF_vc (L:(List Int)) (p:Nat) (I0:(Int × Nat × (List Wnt)) → Prop) (m0:(Int × Nat × (List Wnt)) → Nat) (r0:Tap × (List Wnt)):Prop:=
 Nf (wantsTF_n0 L p (1,p,[])) [0,49] (I0 (1,p,[])) ∧ ∀ t0:Int × Nat × (List Wnt),I0 t0 →
 br (decide (t0.1 ≤ 6))
 (Ch (filterT_h L t0.2.1) [0] 50
 (Ch (N_h L ((filterT L t0.2.1).2) 2) [0] 114
 (br ((Mod (rawV L ((filterT L t0.2.1).2)) 2) == 0)
 (br (((filterT L t0.2.1).1).mode == 2)
 (Rf (α:=List AV) (t0.2.2.map Wnt.v) (Rf (α:=List AV) [.agg [.int t0.1,.int (((filterT L t0.2.1).1).mode),.sl 1 ((((filterT L t0.2.1).1).srcs).map AV.int) false]]
 (ck (decide (t0.2.2.length + 1 ≤ 1000000))
 (Nf (wantsTF_n0 L p (W (t0.1 + 1),rawP L ((filterT L t0.2.1).2),t0.2.2 ++ [(⟨t0.1,((filterT L t0.2.1).1).mode,((filterT L t0.2.1).1).srcs⟩:Wnt)])) [0,402] (I0 (W (t0.1 + 1),rawP L ((filterT L t0.2.1).2),t0.2.2 ++ [(⟨t0.1,((filterT L t0.2.1).1).mode,((filterT L t0.2.1).1).srcs⟩:Wnt)]) ∧ m0 (W (t0.1 + 1),rawP L ((filterT L t0.2.1).2),t0.2.2 ++ [(⟨t0.1,((filterT L t0.2.1).1).mode,((filterT L t0.2.1).1).srcs⟩:Wnt)]) < m0 t0)))))
 (br (decide (0 < (((((filterT L t0.2.1).1).srcs).map AV.int).length:Int)))
 (Rf (α:=List AV) (t0.2.2.map Wnt.v) (Rf (α:=List AV) [.agg [.int t0.1,.int (((filterT L t0.2.1).1).mode),.sl 1 ((((filterT L t0.2.1).1).srcs).map AV.int) false]]
 (ck (decide (t0.2.2.length + 1 ≤ 1000000))
 (Nf (wantsTF_n0 L p (W (t0.1 + 1),rawP L ((filterT L t0.2.1).2),t0.2.2 ++ [(⟨t0.1,((filterT L t0.2.1).1).mode,((filterT L t0.2.1).1).srcs⟩:Wnt)])) [0,402] (I0 (W (t0.1 + 1),rawP L ((filterT L t0.2.1).2),t0.2.2 ++ [(⟨t0.1,((filterT L t0.2.1).1).mode,((filterT L t0.2.1).1).srcs⟩:Wnt)]) ∧ m0 (W (t0.1 + 1),rawP L ((filterT L t0.2.1).2),t0.2.2 ++ [(⟨t0.1,((filterT L t0.2.1).1).mode,((filterT L t0.2.1).1).srcs⟩:Wnt)]) < m0 t0)))))
 (Nf (wantsTF_n0 L p (W (t0.1 + 1),rawP L ((filterT L t0.2.1).2),t0.2.2)) [0,1] (I0 (W (t0.1 + 1),rawP L ((filterT L t0.2.1).2),t0.2.2) ∧ m0 (W (t0.1 + 1),rawP L ((filterT L t0.2.1).2),t0.2.2) < m0 t0))))
 (Nf (wantsTF_n0 L p (W (t0.1 + 1),rawP L ((filterT L t0.2.1).2),t0.2.2)) [0,1] (I0 (W (t0.1 + 1),rawP L ((filterT L t0.2.1).2),t0.2.2) ∧ m0 (W (t0.1 + 1),rawP L ((filterT L t0.2.1).2),t0.2.2) < m0 t0)))))
 (Rf (t0.2.2.map Wnt.v) (Nf ⟨[(2,.k,.sl 3 (t0.2.2.map Wnt.v) false)],[.box (.agg [.sl 1 (L.map AV.int) false,.int ((t0.2.1:Nat):Int)])]⟩ [0] (Rf (wantsTF_e ((⟨L,t0.2.1⟩:Tap),t0.2.2)) (Rf (wantsTF_b ((⟨L,t0.2.1⟩:Tap),t0.2.2)) (((⟨L,t0.2.1⟩:Tap),t0.2.2) = r0)))))
theorem wantsTF_eq (L:(List Int)) (p:Nat) (I0:(Int × Nat × (List Wnt)) → Prop) (m0:(Int × Nat × (List Wnt)) → Nat) (r0:Tap × (List Wnt)):mxH Tryz.prog 14 [.ref 0 0] [.box (.agg [.sl 1 (L.map AV.int) false,.int ((p:Nat):Int)])] (.s 3) wantsTF_e wantsTF_b ((.cmdL (.nilT 3 3) (.loop 0 (wantsTF_n0 L p) (I0) (m0) ((1,p,[]):Int × Nat × (List Wnt)) [0,49] fun (t0:Int × Nat × (List Wnt)) =>
 (.br 34 (.callH [0] (filterT_h L t0.2.1)
 (.callH [0] (N_h L ((filterT L t0.2.1).2) 2)
 (.br 162 (.br 226 (.app 402 Wnt.v t0.2.2 [(⟨t0.1,((filterT L t0.2.1).1).mode,((filterT L t0.2.1).1).srcs⟩:Wnt)]
 (.back 0 ((W (t0.1 + 1),rawP L ((filterT L t0.2.1).2),t0.2.2 ++ [(⟨t0.1,((filterT L t0.2.1).1).mode,((filterT L t0.2.1).1).srcs⟩:Wnt)]):Int × Nat × (List Wnt)) [0,402]))
 (.br 322 (.app 402 Wnt.v t0.2.2 [(⟨t0.1,((filterT L t0.2.1).1).mode,((filterT L t0.2.1).1).srcs⟩:Wnt)]
 (.back 0 ((W (t0.1 + 1),rawP L ((filterT L t0.2.1).2),t0.2.2 ++ [(⟨t0.1,((filterT L t0.2.1).1).mode,((filterT L t0.2.1).1).srcs⟩:Wnt)]):Int × Nat × (List Wnt)) [0,402]))
 (.back 0 ((W (t0.1 + 1),rawP L ((filterT L t0.2.1).2),t0.2.2):Int × Nat × (List Wnt)) [0,1])))
 (.back 0 ((W (t0.1 + 1),rawP L ((filterT L t0.2.1).2),t0.2.2):Int × Nat × (List Wnt)) [0,1]))))
 (.cmdL (.frzE 1 (t0.2.2.map Wnt.v) (pureBL_map (fun _=>rfl) t0.2.2)) (.retH ((⟨L,t0.2.1⟩:Tap),t0.2.2) ⟨[(2,.k,.sl 3 (t0.2.2.map Wnt.v) false)],[.box (.agg [.sl 1 (L.map AV.int) false,.int ((t0.2.1:Nat):Int)])]⟩ [0]))))):An Tryz.prog wantsTF_s (Tap × (List Wnt))) r0 = wantsTF_vc L p I0 m0 r0:=by kernel_rfl
theorem wantsTF_ok (L:(List Int)) (p:Nat) (I0:(Int × Nat × (List Wnt)) → Prop) (m0:(Int × Nat × (List Wnt)) → Nat) (r0:Tap × (List Wnt)) (h:wantsTF_vc L p I0 m0 r0):HSpec Tryz.prog 14 [.ref 0 0] [.box (.agg [.sl 1 (L.map AV.int) false,.int ((p:Nat):Int)])] (wantsTF_e r0) (wantsTF_b r0):=by
  have e:=wantsTF_eq L p I0 m0 r0
  rw [← e] at h
  exact mxH_ok (enc:=wantsTF_e) (hB:=wantsTF_b) h
theorem wantsTF_p (L:List Int) (p:Nat) (ok:wantsTF_a L p):∃ I m,wantsTF_vc L p I m (⟨L,(wantsT L p).2⟩,(wantsT L p).1):=by
  refine ⟨fun t=>∃ k:Nat,t.1 = ((k + 1:Nat):Int) ∧ k ≤ 6 ∧ wantsL L (6 - k) t.1 t.2.2 t.2.1 = wantsT L p ∧ t.2.2.length ≤ k,fun t=>7 - t.1.toNat,?_⟩
  simp only [wantsTF_vc,vcU,rfU,List.length_map]
  refine ⟨⟨0,rfl,by omega,rfl,by simp⟩,?_⟩
  rintro ⟨_,q,out⟩ ⟨k,rfl,hk,h,hl⟩
  simp only at h hl
  refine ⟨fun h1=>?_,fun h1=>?_⟩
  · have h1:k < 6:=by simp only at h1; omega
    rw [show 6 - k = (6 - (k + 1)) + 1 by omega,wantsL] at h
    simp only [W_succ (k:=k + 1) (n:=7) (by omega) (by omega)]
    have hg:((k + 1:Nat):Int) + 1 = ((k + 1 + 1:Nat):Int):=by omega
    rw [hg] at h
    have put:Mod (rawV L (filterT L q).2) 2 = 0 ∧ ((filterT L q).1.mode = 2 ∨ (filterT L q).1.srcs ≠ []) →
        wNew L q ((k + 1:Nat):Int) out = out ++ [⟨((k + 1:Nat):Int),(filterT L q).1.mode,(filterT L q).1.srcs⟩]:=fun c=>by rw [wNew,if_pos c]
    have no:¬ (Mod (rawV L (filterT L q).2) 2 = 0 ∧ ((filterT L q).1.mode = 2 ∨ (filterT L q).1.srcs ≠ [])) → wNew L q ((k + 1:Nat):Int) out = out:=fun c=>by rw [wNew,if_neg c]
    refine ⟨fun c1=>⟨fun c2=>⟨by omega,⟨k + 1,rfl,by omega,?_,by simp; omega⟩,by omega⟩,fun c2=>⟨fun c3=>⟨by omega,⟨k + 1,rfl,by omega,?_,by simp; omega⟩,by omega⟩,fun c3=>⟨⟨k + 1,rfl,by omega,?_,by omega⟩,by omega⟩⟩⟩,fun c1=>⟨⟨k + 1,rfl,by omega,?_,by omega⟩,by omega⟩⟩
    · rw [put ⟨by simpa using c1,.inl (by simpa using c2)⟩] at h; exact h
    · rw [put ⟨by simpa using c1,.inr (fun e=>by rw [e] at c3; simp at c3)⟩] at h; exact h
    · rw [no (fun ⟨_,e⟩=>by
        rcases e with e | e
        · simp [e] at c2
        · exact e (List.eq_nil_of_length_eq_zero (by omega)))] at h; exact h
    · rw [no (fun ⟨e,_⟩=>by simp [e] at c1)] at h; exact h
  · have h1:k = 6:=by simp only at h1; omega
    subst h1
    rw [← h]; rfl
def wantsT_h (L:(List Int)) (p:Nat):HC Tryz.prog:=⟨14,[.k],[.ref 0 0],[.box (.agg [.sl 1 (L.map AV.int) false,.int ((p:Nat):Int)])],wantsTF_e (⟨L,(wantsT L p).2⟩,(wantsT L p).1),wantsTF_b (⟨L,(wantsT L p).2⟩,(wantsT L p).1),HSpec.of_okh fun ok ok2=>have ok:wantsTF_a L p:=⟨ok,ok2 _ (by simp)⟩; (wantsTF_p L p ok).elim fun I0 h=>h.elim fun m0 h=>wantsTF_ok L p I0 m0 _ h,fnB_ok (by kernel_rfl),HcOk.of (by simp [hcB,belBL,AV.belB,allB,okBk,okBkO,wantsTF_e,wantsTF_b,pureBL_map (v:=AV.int) (fun _=>rfl)])⟩
def checkR_a (l:(List Wnt)) (changes:Bool):Prop:=okL [.sl 3 (l.map Wnt.v) false,.bool changes]
def checkR_n0 (l:(List Wnt)) (changes:Bool) (t0:Int):NF:=⟨[(0,.k,.sl 3 (l.map Wnt.v) false),(1,.k,.bool changes),(16,.k,.sl 3 (l.map Wnt.v) false),(17,.k,.int ((l.map Wnt.v).length:Int)),(18,.k,.int t0)],[]⟩
def checkR_n1 (l:(List Wnt)) (changes:Bool) (t0:Int) (t1:Int):NF:=⟨[(0,.k,.sl 3 (l.map Wnt.v) false),(1,.k,.bool changes),(31,.k,.sl 3 (l.map Wnt.v) false),(32,.k,.int ((l.map Wnt.v).length:Int)),(33,.k,.int t1)],[]⟩
def checkR_n2 (l:(List Wnt)) (changes:Bool) (t0:Int) (t1:Int) (t2:Int):NF:=⟨[(0,.k,.sl 3 (l.map Wnt.v) false),(1,.k,.bool changes),(44,.k,.sl 3 (l.map Wnt.v) false),(45,.k,.int ((l.map Wnt.v).length:Int)),(46,.k,.int t2)],[]⟩
def checkR_n3 (l:(List Wnt)) (changes:Bool) (t0:Int) (t1:Int) (t2:Int) (t3:Int):NF:=⟨[(0,.k,.sl 3 (l.map Wnt.v) false),(12,.k,.int t3)],[]⟩
def checkR_s:Nat → Type
  | 0=>Int
  | 1=>Int
  | 2=>Int
  | 3=>Int
  | _=>Unit
def checkR_e (r:Int):AV:=.int r
def checkR_vc (l:(List Wnt)) (changes:Bool) (I0:Int → Prop) (m0:Int → Nat) (I1:Int → Int → Prop) (m1:Int → Int → Nat) (I2:Int → Int → Int → Prop) (m2:Int → Int → Int → Nat) (I3:Int → Int → Int → Int → Prop) (m3:Int → Int → Int → Int → Nat) (r0:Int):Prop:=
 br (decide (32 < ((l.map Wnt.v).length:Int)))
 (Rf (checkR_e (3)) ((3) = r0))
 (Nf (checkR_n0 l changes (0)) [] (I0 (0)) ∧ ∀ t0:Int,I0 t0 →
 br (decide (t0 < ((l.map Wnt.v).length:Int)))
 (Rf (l.map Wnt.v) (ck (decide (0 ≤ t0)) (ck (decide (t0 < (l.length:Int)))
 (∀ x1,l[t0.toNat]? = some x1 →
 br (decide (x1.grp < 1))
 (Rf (checkR_e (2)) ((2) = r0))
 (br (decide (99 < x1.grp))
 (Rf (checkR_e (2)) ((2) = r0))
 (Nf (checkR_n0 l changes (W (t0 + 1))) [] (I0 (W (t0 + 1)) ∧ m0 (W (t0 + 1)) < m0 t0)))))))
 (Nf (checkR_n1 l changes t0 (0)) [] (I1 t0 (0)) ∧ ∀ t1:Int,I1 t0 t1 →
 br (decide (t1 < ((l.map Wnt.v).length:Int)))
 (Rf (l.map Wnt.v) (ck (decide (0 ≤ t1)) (ck (decide (t1 < (l.length:Int)))
 (∀ x2,l[t1.toNat]? = some x2 →
 Cl (FVal_c (⟨x2.mode,x2.srcs⟩:Flt))
 (br ((fltErr (⟨x2.mode,x2.srcs⟩:Flt).mode (⟨x2.mode,x2.srcs⟩:Flt).srcs) != 0)
 (Rf (checkR_e (fltErr (⟨x2.mode,x2.srcs⟩:Flt).mode (⟨x2.mode,x2.srcs⟩:Flt).srcs)) ((fltErr (⟨x2.mode,x2.srcs⟩:Flt).mode (⟨x2.mode,x2.srcs⟩:Flt).srcs) = r0))
 (Nf (checkR_n1 l changes t0 (W (t1 + 1))) [] (I1 t0 (W (t1 + 1)) ∧ m1 t0 (W (t1 + 1)) < m1 t0 t1)))))))
 (Nf (checkR_n2 l changes t0 t1 (0)) [] (I2 t0 t1 (0)) ∧ ∀ t2:Int,I2 t0 t1 t2 →
 br (decide (t2 < ((l.map Wnt.v).length:Int)))
 (Rf (l.map Wnt.v) (ck (decide (0 ≤ t2)) (ck (decide (t2 < (l.length:Int)))
 (∀ x3,l[t2.toNat]? = some x3 →
 br (!changes)
 (Cl (Nothing_c )
 (Cl (FSame_c (⟨x3.mode,x3.srcs⟩:Flt) (⟨1,[]⟩:Flt))
 (br (FSame (⟨x3.mode,x3.srcs⟩:Flt) (⟨1,[]⟩:Flt))
 (Rf (checkR_e (1)) ((1) = r0))
 (Nf (checkR_n2 l changes t0 t1 (W (t2 + 1))) [] (I2 t0 t1 (W (t2 + 1)) ∧ m2 t0 t1 (W (t2 + 1)) < m2 t0 t1 t2)))))
 (Nf (checkR_n2 l changes t0 t1 (W (t2 + 1))) [] (I2 t0 t1 (W (t2 + 1)) ∧ m2 t0 t1 (W (t2 + 1)) < m2 t0 t1 t2))))))
 (Nf (checkR_n3 l changes t0 t1 t2 (1)) [] (I3 t0 t1 t2 (1)) ∧ ∀ t3:Int,I3 t0 t1 t2 t3 →
 br (decide (t3 < ((l.map Wnt.v).length:Int)))
 (Rf (l.map Wnt.v) (ck (decide (0 ≤ (W (t3 - 1)))) (ck (decide ((W (t3 - 1)) < (l.length:Int)))
 (∀ x4,l[(W (t3 - 1)).toNat]? = some x4 →
 Rf (l.map Wnt.v) (ck (decide (0 ≤ t3)) (ck (decide (t3 < (l.length:Int)))
 (∀ x5,l[t3.toNat]? = some x5 →
 br (decide (x5.grp ≤ x4.grp))
 (Rf (checkR_e (25)) ((25) = r0))
 (Nf (checkR_n3 l changes t0 t1 t2 (W (t3 + 1))) [] (I3 t0 t1 t2 (W (t3 + 1)) ∧ m3 t0 t1 t2 (W (t3 + 1)) < m3 t0 t1 t2 t3)))))))))
 (Rf (checkR_e (0)) ((0) = r0))))))
theorem checkR_eq (l:(List Wnt)) (changes:Bool) (I0:Int → Prop) (m0:Int → Nat) (I1:Int → Int → Prop) (m1:Int → Int → Nat) (I2:Int → Int → Int → Prop) (m2:Int → Int → Int → Nat) (I3:Int → Int → Int → Int → Prop) (m3:Int → Int → Int → Int → Nat) (r0:Int):mxP Tryz.prog 84 [.sl 3 (l.map Wnt.v) false,.bool changes] .k checkR_e ((.br 64 (.ret (3))
 (.loop 0 (checkR_n0 l changes) (I0) (m0) ((0):Int) [] fun (t0:Int) =>
 (.br 16 (.el 16 Wnt.v l fun x1 =>
 (.br 144 (.ret (2))
 (.br 208 (.ret (2))
 (.back 0 ((W (t0 + 1)):Int) []))))
 (.loop 1 (checkR_n1 l changes t0) (I1 t0) (m1 t0) ((0):Int) [] fun (t1:Int) =>
 (.br 16 (.el 16 Wnt.v l fun x2 =>
 (.callP (FVal_c (⟨x2.mode,x2.srcs⟩:Flt))
 (.br 176 (.ret (fltErr (⟨x2.mode,x2.srcs⟩:Flt).mode (⟨x2.mode,x2.srcs⟩:Flt).srcs))
 (.back 1 ((W (t1 + 1)):Int) []))))
 (.loop 2 (checkR_n2 l changes t0 t1) (I2 t0 t1) (m2 t0 t1) ((0):Int) [] fun (t2:Int) =>
 (.br 16 (.el 16 Wnt.v l fun x3 =>
 (.br 128 (.callP (Nothing_c )
 (.callP (FSame_c (⟨x3.mode,x3.srcs⟩:Flt) (⟨1,[]⟩:Flt))
 (.br 208 (.ret (1))
 (.back 2 ((W (t2 + 1)):Int) []))))
 (.back 2 ((W (t2 + 1)):Int) [])))
 (.loop 3 (checkR_n3 l changes t0 t1 t2) (I3 t0 t1 t2) (m3 t0 t1 t2) ((1):Int) [] fun (t3:Int) =>
 (.br 64 (.el 112 Wnt.v l fun x4 =>
 (.el 192 Wnt.v l fun x5 =>
 (.br 256 (.ret (25))
 (.back 3 ((W (t3 + 1)):Int) []))))
 (.ret (0))))))))))):An Tryz.prog checkR_s (Int)) r0 = checkR_vc l changes I0 m0 I1 m1 I2 m2 I3 m3 r0:=by kernel_rfl
theorem checkR_ok (l:(List Wnt)) (changes:Bool) (I0:Int → Prop) (m0:Int → Nat) (I1:Int → Int → Prop) (m1:Int → Int → Nat) (I2:Int → Int → Int → Prop) (m2:Int → Int → Int → Nat) (I3:Int → Int → Int → Int → Prop) (m3:Int → Int → Int → Int → Nat) (r0:Int) (h:checkR_vc l changes I0 m0 I1 m1 I2 m2 I3 m3 r0):PSpec Tryz.prog 84 [.sl 3 (l.map Wnt.v) false,.bool changes] (checkR_e r0):=by
  have e:=checkR_eq l changes I0 m0 I1 m1 I2 m2 I3 m3 r0
  rw [← e] at h
  exact mxP_ok (enc:=checkR_e) h (AV.pureB_ok rfl)
theorem checkR_p (l:List Wnt) (chg:Bool) (ok:checkR_a l chg):∃ I0 m0 I1 m1 I2 m2 I3 m3,checkR_vc l chg I0 m0 I1 m1 I2 m2 I3 m3 (wErr chg l):=by
  let R:Prop:=∀ w ∈ l,1 ≤ w.grp ∧ w.grp ≤ 99
  let F:Prop:=∀ w ∈ l,fltErr w.mode w.srcs = 0
  let N:Prop:=chg = false → ∀ w ∈ l,¬ isNoW w
  refine ⟨fun t=>∃ k:Nat,t = k ∧ k ≤ l.length ∧ ∀ w ∈ l.take k,1 ≤ w.grp ∧ w.grp ≤ 99,fun t=>l.length - t.toNat,
    fun _ t=>R ∧ ∃ k:Nat,t = k ∧ k ≤ l.length ∧ ∀ w ∈ l.take k,fltErr w.mode w.srcs = 0,fun _ t=>l.length - t.toNat,
    fun _ _ t=>R ∧ F ∧ ∃ k:Nat,t = k ∧ k ≤ l.length ∧ ∀ w ∈ l.take k,chg = false → ¬ isNoW w,fun _ _ t=>l.length - t.toNat,
    fun _ _ _ t=>R ∧ F ∧ N ∧ ∃ k:Nat,t = k ∧ 1 ≤ k ∧ k ≤ l.length + 1 ∧ ∀ j x y,j + 1 < k → l[j]? = some x → l[j + 1]? = some y → x.grp < y.grp,fun _ _ _ t=>l.length + 1 - t.toNat,?_⟩
  simp only [checkR_vc,vcU,rfU,List.length_map]
  have hno:∀ x:Wnt,FSame ⟨x.mode,x.srcs⟩ ⟨1,[]⟩ = true ↔ isNoW x:=fun x=>by simp [FSame,isNoW]
  refine ⟨fun e=>by rw [wErr,if_pos (by omega)],fun e0=>⟨⟨0,rfl,by omega,by simp⟩,?_⟩⟩
  have e0:¬ 32 < l.length:=by omega
  rintro _ ⟨k,rfl,hk,h⟩
  simp only [Int.toNat_natCast]
  refine ⟨fun h1=>⟨by omega,by omega,fun x hx=>?_⟩,fun h1=>?_⟩
  · have bad:¬ (1 ≤ x.grp ∧ x.grp ≤ 99) → 2 = wErr chg l:=fun h=>by
      rw [wErr,if_neg e0,if_pos fun h'=>h (h' x (mem_of_get hx))]
    refine ⟨fun e=>bad (by omega),fun e1=>⟨fun e=>bad (by omega),fun e2=>?_⟩⟩
    rw [W_succ (n:=l.length) (by omega) (by omega)]
    exact ⟨⟨k + 1,rfl,by omega,all_take h hx ⟨by omega,by omega⟩⟩,by omega⟩
  rw [List.take_of_length_le (by omega)] at h
  have hR:R:=h
  have w1:wErr chg l = if wFErrs l ≠ 0 then wFErrs l else if chg = false ∧ ∃ w ∈ l,isNoW w then 1 else if ¬ (l.Pairwise fun x y=>x.grp < y.grp) then 25 else 0:=by
    rw [wErr,if_neg e0,if_neg (fun h=>h hR)]
  clear h h1 hk k
  refine ⟨⟨hR,0,rfl,by omega,by simp⟩,?_⟩
  rintro _ ⟨-,k,rfl,hk,h⟩
  simp only [Int.toNat_natCast]
  refine ⟨fun h1=>⟨by omega,by omega,fun x hx=>⟨fun e=>?_,fun e=>?_⟩⟩,fun h1=>?_⟩
  · have e:fltErr x.mode x.srcs ≠ 0:=by simpa using e
    have:wFErrs l = fltErr x.mode x.srcs:=orI_at (f:=fun x:Wnt=>fltErr x.mode x.srcs) h hx e
    rw [w1,this,if_pos e]
  · rw [W_succ (n:=l.length) (by omega) (by omega)]
    exact ⟨⟨hR,k + 1,rfl,by omega,all_take h hx (by simpa using e)⟩,by omega⟩
  rw [List.take_of_length_le (by omega)] at h
  have hF:F:=h
  have w2:wErr chg l = if chg = false ∧ ∃ w ∈ l,isNoW w then 1 else if ¬ (l.Pairwise fun x y=>x.grp < y.grp) then 25 else 0:=by
    rw [w1,if_neg (fun hh=>hh (orI_all hF))]
  clear h h1 hk k
  refine ⟨⟨hR,hF,0,rfl,by omega,by simp⟩,?_⟩
  rintro _ ⟨-,-,k,rfl,hk,h⟩
  simp only [Int.toNat_natCast]
  refine ⟨fun h1=>⟨by omega,by omega,fun x hx=>?_⟩,fun h1=>?_⟩
  · have step:(chg = false → ¬ isNoW x) → (R ∧ F ∧ ∃ k':Nat,W ((k:Int) + 1) = k' ∧ k' ≤ l.length ∧ ∀ w ∈ l.take k',chg = false → ¬ isNoW w) ∧ l.length - (W ((k:Int) + 1)).toNat < l.length - k:=by
      intro hs
      rw [W_succ (n:=l.length) (by omega) (by omega)]
      exact ⟨⟨hR,hF,k + 1,rfl,by omega,all_take h hx hs⟩,by omega⟩
    refine ⟨fun e=>⟨fun e2=>?_,fun e2=>step fun _ hn=>?_⟩,fun e=>step fun hc=>?_⟩
    · rw [w2,if_pos ⟨by simpa using e,x,mem_of_get hx,(hno x).mp e2⟩]
    · rw [(hno x).mpr hn] at e2; cases e2
    · simp [hc] at e
  rw [List.take_of_length_le (by omega)] at h
  have hN:N:=fun hc w hw=>h w hw hc
  have w3:wErr chg l = if ¬ (l.Pairwise fun x y=>x.grp < y.grp) then 25 else 0:=by
    rw [w2,if_neg (fun ⟨hc,w,hw,hn⟩=>hN hc w hw hn)]
  clear h h1 hk k
  refine ⟨⟨hR,hF,hN,1,rfl,by omega,by omega,fun j x y hj=>by omega⟩,?_⟩
  rintro _ ⟨-,-,-,k,rfl,hk1,hk,h⟩
  refine ⟨fun h1=>?_,fun h1=>?_⟩
  · rw [W_pred (by omega) hk1]
    simp only [Int.toNat_natCast]
    refine ⟨by omega,by omega,fun x hx=>⟨by omega,by omega,fun y hy=>⟨fun e=>?_,fun e=>?_⟩⟩⟩
    · rw [w3,if_pos]
      intro hp
      have:x.grp < y.grp:=pw_get hp (show k - 1 < k by omega) hx hy
      omega
    · rw [W_succ (n:=l.length) (by omega) (by omega)]
      refine ⟨⟨hR,hF,hN,k + 1,rfl,by omega,by omega,fun j x' y' hj hx' hy'=>?_⟩,by omega⟩
      by_cases e':j + 1 = k
      · subst e'
        rw [show j + 1 - 1 = j by omega,hx'] at hx; cases hx
        rw [hy'] at hy; cases hy; omega
      · exact h j x' y' (by omega) hx' hy'
  · rw [w3,if_neg]
    exact fun hh=>hh (pw_adj fun j x y hx hy=>h j x y (by have:=lt_of_get hy; omega) hx hy)
def checkR_c (l:(List Wnt)) (changes:Bool):PC Tryz.prog:=⟨84,[(.s 3),.k],[.sl 3 (l.map Wnt.v) false,.bool changes],checkR_e (wErr changes l),PSpec.of_ok fun ok=>(checkR_p l changes ok).elim fun I0 h=>h.elim fun m0 h=>h.elim fun I1 h=>h.elim fun m1 h=>h.elim fun I2 h=>h.elim fun m2 h=>h.elim fun I3 h=>h.elim fun m3 h=>checkR_ok l changes I0 m0 I1 m1 I2 m2 I3 m3 _ h,fnB_ok (by kernel_rfl)⟩
def valR_a (l:(List Wnt)):Prop:=okL [.sl 3 (l.map Wnt.v) false]
def valR_s:Nat → Type
  | _=>Unit
def valR_e (r:Int):AV:=.int r
def valR_vc (l:(List Wnt)) (r0:Int):Prop:=
 Cl (checkR_c l false)
 (Rf (valR_e (wErr false l)) ((wErr false l) = r0))
theorem valR_eq (l:(List Wnt)) (r0:Int):mxP Tryz.prog 58 [.sl 3 (l.map Wnt.v) false] .k valR_e ((.callP (checkR_c l false)
 (.ret (wErr false l))):An Tryz.prog valR_s (Int)) r0 = valR_vc l r0:=by kernel_rfl
theorem valR_ok (l:(List Wnt)) (r0:Int) (h:valR_vc l r0):PSpec Tryz.prog 58 [.sl 3 (l.map Wnt.v) false] (valR_e r0):=by
  have e:=valR_eq l r0
  rw [← e] at h
  exact mxP_ok (enc:=valR_e) h (AV.pureB_ok rfl)
theorem valR_p (l:List Wnt) (ok:valR_a l):valR_vc l (wErr false l):=by
  simp only [valR_vc,vcU,rfU,List.length_map]
def valR_c (l:(List Wnt)):PC Tryz.prog:=⟨58,[(.s 3)],[.sl 3 (l.map Wnt.v) false],valR_e (wErr false l),PSpec.of_ok fun ok=>valR_ok l _ (valR_p l ok),fnB_ok (by kernel_rfl)⟩
def findR_a (l:(List Wnt)) (group:Int):Prop:=okL [.sl 3 (l.map Wnt.v) false,.int group]
def findR_n0 (l:(List Wnt)) (group:Int) (t0:Int):NF:=⟨[(1,.k,.int group),(4,.k,.ref 0 0),(7,.k,.sl 3 (l.map Wnt.v) false),(8,.k,.int ((l.map Wnt.v).length:Int)),(9,.k,.int t0)],[.box (.agg [.int 0,.sl 0 [] true])]⟩
def findR_s:Nat → Type
  | 0=>Int
  | _=>Unit
def findR_e (r:Flt):AV:=Flt.v r
def findR_vc (l:(List Wnt)) (group:Int) (I0:Int → Prop) (m0:Int → Nat) (r0:Flt):Prop:=
 Nf (findR_n0 l group (0)) [0] (I0 (0)) ∧ ∀ t0:Int,I0 t0 →
 br (decide (t0 < ((l.map Wnt.v).length:Int)))
 (Rf (l.map Wnt.v) (ck (decide (0 ≤ t0)) (ck (decide (t0 < (l.length:Int)))
 (∀ x1,l[t0.toNat]? = some x1 →
 br (x1.grp == group)
 (Rf (findR_e ((⟨x1.mode,x1.srcs⟩:Flt))) (((⟨x1.mode,x1.srcs⟩:Flt)) = r0))
 (Nf (findR_n0 l group (W (t0 + 1))) [0] (I0 (W (t0 + 1)) ∧ m0 (W (t0 + 1)) < m0 t0))))))
 (Cl (Nothing_c )
 (Rf (findR_e ((⟨1,[]⟩:Flt))) (((⟨1,[]⟩:Flt)) = r0)))
theorem findR_eq (l:(List Wnt)) (group:Int) (I0:Int → Prop) (m0:Int → Nat) (r0:Flt):mxP Tryz.prog 76 [.sl 3 (l.map Wnt.v) false,.int group] (.a [.k,(.s 1)]) findR_e ((.loop 0 (findR_n0 l group) (I0) (m0) ((0):Int) [0] fun (t0:Int) =>
 (.br 17 (.el 17 Wnt.v l fun x1 =>
 (.br 145 (.ret ((⟨x1.mode,x1.srcs⟩:Flt)))
 (.back 0 ((W (t0 + 1)):Int) [0])))
 (.callP (Nothing_c )
 (.ret ((⟨1,[]⟩:Flt)))))):An Tryz.prog findR_s (Flt)) r0 = findR_vc l group I0 m0 r0:=by kernel_rfl
theorem findR_ok (l:(List Wnt)) (group:Int) (I0:Int → Prop) (m0:Int → Nat) (r0:Flt) (h:findR_vc l group I0 m0 r0):PSpec Tryz.prog 76 [.sl 3 (l.map Wnt.v) false,.int group] (findR_e r0):=by
  have e:=findR_eq l group I0 m0 r0
  rw [← e] at h
  exact mxP_ok (enc:=findR_e) h (AV.pureB_ok rfl)
theorem findR_p (l:List Wnt) (g:Int) (ok:findR_a l g):∃ I m,findR_vc l g I m (findW l g):=by
  simp only [findR_a,okU,Blk.ok,plainV,List.length_map] at ok
  refine ⟨fun t=>∃ k:Nat,t = k ∧ k ≤ l.length ∧ ∀ x ∈ l.take k,decide (x.grp = g) = false,fun t=>l.length - t.toNat,?_⟩
  simp only [findR_vc,vcU,rfU,List.length_map]
  refine ⟨⟨0,rfl,by omega,by simp⟩,?_⟩
  rintro _ ⟨k,rfl,hk,h⟩
  simp only [Int.toNat_natCast]
  have h:∀ x ∈ l.take k,decide (x.grp = g) = false:=fun x hx=>decide_eq_false (h x hx)
  refine ⟨fun h1=>⟨by omega,by omega,fun x hx=>⟨fun e=>?_,fun e=>?_⟩⟩,fun h1=>?_⟩
  · rw [findW,find_at h hx (by simpa using e)]
  · rw [W_succ (n:=l.length) (by omega) (by omega)]
    refine ⟨⟨k + 1,rfl,by omega,?_⟩,by omega⟩
    rw [take_succ hx]
    intro z hz
    rcases List.mem_append.mp hz with hz | hz
    · simpa using h z hz
    · rw [List.mem_singleton] at hz; subst hz; simpa using e
  · rw [List.take_of_length_le (by omega)] at h
    rw [findW,List.find?_eq_none.mpr fun x hx=>by rw [h x hx]; simp]
def findR_c (l:(List Wnt)) (group:Int):PC Tryz.prog:=⟨76,[(.s 3),.k],[.sl 3 (l.map Wnt.v) false,.int group],findR_e (findW l group),PSpec.of_ok fun ok=>(findR_p l group ok).elim fun I0 h=>h.elim fun m0 h=>findR_ok l group I0 m0 _ h,fnB_ok (by kernel_rfl)⟩
def chgsR_a (old:(List Wnt)) (new:(List Wnt)):Prop:=okL [.sl 3 (old.map Wnt.v) false,.sl 3 (new.map Wnt.v) false]
def chgsR_n0 (old:(List Wnt)) (new:(List Wnt)) (t0:Int × (List Wnt)):NF:=⟨[(0,.k,.sl 3 (old.map Wnt.v) false),(1,.k,.sl 3 (new.map Wnt.v) false),(8,.k,.vec 0),(9,.k,.int t0.1)],[.vec 3 (t0.2.map Wnt.v) (pureBL_map (fun _=>rfl) t0.2)]⟩
def chgsR_s:Nat → Type
  | 0=>Int × (List Wnt)
  | _=>Unit
def chgsR_e (r:(List Wnt) × Int):AV:=.tup [.sl 3 (r.1.map Wnt.v) false,.int r.2]
def chgsR_vc (old:(List Wnt)) (new:(List Wnt)) (I0:(Int × (List Wnt)) → Prop) (m0:(Int × (List Wnt)) → Nat) (r0:(List Wnt) × Int):Prop:=
 Cl (valR_c old)
 (br ((wErr false old) != 0)
 (Rf (chgsR_e ([],wErr false old)) (([],wErr false old) = r0))
 (Cl (valR_c new)
 (br ((wErr false new) != 0)
 (Rf (chgsR_e ([],wErr false new)) (([],wErr false new) = r0))
 (Nf (chgsR_n0 old new (1,[])) [224] (I0 (1,[])) ∧ ∀ t0:Int × (List Wnt),I0 t0 →
 br (decide (t0.1 ≤ 99))
 (Cl (findR_c new t0.1)
 (Cl (findR_c old t0.1)
 (Cl (FSame_c (findW new t0.1) (findW old t0.1))
 (br (!(FSame (findW new t0.1) (findW old t0.1)))
 (Rf (α:=List AV) (t0.2.map Wnt.v) (Rf (α:=List AV) [.agg [.int t0.1,.int ((findW new t0.1).mode),.sl 1 (((findW new t0.1).srcs).map AV.int) false]]
 (ck (decide (t0.2.length + 1 ≤ 1000000))
 (Nf (chgsR_n0 old new (W (t0.1 + 1),t0.2 ++ [(⟨t0.1,(findW new t0.1).mode,(findW new t0.1).srcs⟩:Wnt)])) [289] (I0 (W (t0.1 + 1),t0.2 ++ [(⟨t0.1,(findW new t0.1).mode,(findW new t0.1).srcs⟩:Wnt)]) ∧ m0 (W (t0.1 + 1),t0.2 ++ [(⟨t0.1,(findW new t0.1).mode,(findW new t0.1).srcs⟩:Wnt)]) < m0 t0)))))
 (Nf (chgsR_n0 old new (W (t0.1 + 1),t0.2)) [0] (I0 (W (t0.1 + 1),t0.2) ∧ m0 (W (t0.1 + 1),t0.2) < m0 t0))))))
 (br (decide (32 < ((t0.2.map Wnt.v).length:Int)))
 (Rf (chgsR_e ([],3)) (([],3) = r0))
 (Rf (t0.2.map Wnt.v) (Rf (chgsR_e (t0.2,0)) ((t0.2,0) = r0))))))))
theorem chgsR_eq (old:(List Wnt)) (new:(List Wnt)) (I0:(Int × (List Wnt)) → Prop) (m0:(Int × (List Wnt)) → Nat) (r0:(List Wnt) × Int):mxP Tryz.prog 48 [.sl 3 (old.map Wnt.v) false,.sl 3 (new.map Wnt.v) false] (.a [(.s 3),.k]) chgsR_e ((.callP (valR_c old)
 (.br 112 (.ret ([],wErr false old))
 (.callP (valR_c new)
 (.br 192 (.ret ([],wErr false new))
 (.cmdL (.nilT 8 3) (.loop 0 (chgsR_n0 old new) (I0) (m0) ((1,[]):Int × (List Wnt)) [224] fun (t0:Int × (List Wnt)) =>
 (.br 33 (.callP (findR_c new t0.1)
 (.callP (findR_c old t0.1)
 (.callP (FSame_c (findW new t0.1) (findW old t0.1))
 (.br 209 (.app 289 Wnt.v t0.2 [(⟨t0.1,(findW new t0.1).mode,(findW new t0.1).srcs⟩:Wnt)]
 (.back 0 ((W (t0.1 + 1),t0.2 ++ [(⟨t0.1,(findW new t0.1).mode,(findW new t0.1).srcs⟩:Wnt)]):Int × (List Wnt)) [289]))
 (.back 0 ((W (t0.1 + 1),t0.2):Int × (List Wnt)) [0])))))
 (.br 81 (.ret ([],3))
 (.cmdL (.frzE 0 (t0.2.map Wnt.v) (pureBL_map (fun _=>rfl) t0.2)) (.ret (t0.2,0))))))))))):An Tryz.prog chgsR_s ((List Wnt) × Int)) r0 = chgsR_vc old new I0 m0 r0:=by kernel_rfl
theorem chgsR_ok (old:(List Wnt)) (new:(List Wnt)) (I0:(Int × (List Wnt)) → Prop) (m0:(Int × (List Wnt)) → Nat) (r0:(List Wnt) × Int) (h:chgsR_vc old new I0 m0 r0):PSpec Tryz.prog 48 [.sl 3 (old.map Wnt.v) false,.sl 3 (new.map Wnt.v) false] (chgsR_e r0):=by
  have e:=chgsR_eq old new I0 m0 r0
  rw [← e] at h
  exact mxP_ok (enc:=chgsR_e) h (AV.pureB_ok rfl)
theorem chgsR_p (a b:List Wnt) (ok:chgsR_a a b):∃ I m,chgsR_vc a b I m (changes a b):=by
  refine ⟨fun t=>∃ k:Nat,t = (((k + 1:Nat):Int),chgsTo a b k) ∧ k ≤ 99,fun t=>100 - t.1.toNat,?_⟩
  simp only [chgsR_vc,vcU,rfU,List.length_map]
  by_cases h1:wErr false a = 0
  case neg=>simp [changes,h1]
  by_cases h2:wErr false b = 0
  case neg=>simp [changes,h1,h2]
  have e:changes a b = if 32 < (chgsTo a b 99).length then ([],3) else (chgsTo a b 99,0):=by
    rw [changes,if_neg (not_not_intro h1),if_neg (not_not_intro h2)]
  refine ⟨fun c=>by simp [h1] at c,fun _=>⟨fun c=>by simp [h2] at c,fun _=>⟨⟨0,rfl,by omega⟩,?_⟩⟩⟩
  rintro _ ⟨k,rfl,hk⟩
  have hl:=chgsTo_len a b k
  refine ⟨fun c=>?_,fun c=>?_⟩
  · have c:k < 99:=by simp only at c; omega
    simp only [W_succ (k:=k + 1) (n:=100) (by omega) (by omega)]
    refine ⟨fun d=>⟨by omega,⟨k + 1,?_,by omega⟩,by omega⟩,fun d=>⟨⟨k + 1,?_,by omega⟩,by omega⟩⟩
    · rw [chgsTo,chgs1,if_neg (by simpa [FSame] using d)]; rfl
    · rw [chgsTo,chgs1,if_pos (by simpa [FSame] using d),List.append_nil]
  · have c:k = 99:=by simp only at c; omega
    subst c
    rw [e]
    simp only
    refine ⟨fun d=>by rw [if_pos (by omega)],fun d=>by rw [if_neg (by omega)]⟩
def chgsR_c (old:(List Wnt)) (new:(List Wnt)):PC Tryz.prog:=⟨48,[(.s 3),(.s 3)],[.sl 3 (old.map Wnt.v) false,.sl 3 (new.map Wnt.v) false],chgsR_e (changes old new),PSpec.of_ok fun ok=>(chgsR_p old new ok).elim fun I0 h=>h.elim fun m0 h=>chgsR_ok old new I0 m0 _ h,fnB_ok (by kernel_rfl)⟩
def sameI_a (a:(List Itm)) (b:(List Itm)):Prop:=okL [.sl 4 (a.map Itm.v) false,.sl 4 (b.map Itm.v) false]
def sameI_n0 (a:(List Itm)) (b:(List Itm)) (t0:Int):NF:=⟨[(0,.k,.sl 4 (a.map Itm.v) false),(1,.k,.sl 4 (b.map Itm.v) false),(5,.k,.int t0)],[]⟩
def sameI_s:Nat → Type
  | 0=>Int
  | _=>Unit
def sameI_e (r:Bool):AV:=.bool r
def sameI_vc (a:(List Itm)) (b:(List Itm)) (I0:Int → Prop) (m0:Int → Nat) (r0:Bool):Prop:=
 br (((a.map Itm.v).length:Int) != ((b.map Itm.v).length:Int))
 (Rf (sameI_e (false)) ((false) = r0))
 (Nf (sameI_n0 a b (0)) [] (I0 (0)) ∧ ∀ t0:Int,I0 t0 →
 br (decide (t0 < ((a.map Itm.v).length:Int)))
 (Rf (a.map Itm.v) (ck (decide (0 ≤ t0)) (ck (decide (t0 < (a.length:Int)))
 (∀ x1,a[t0.toNat]? = some x1 →
 Rf (b.map Itm.v) (ck (decide (0 ≤ t0)) (ck (decide (t0 < (b.length:Int)))
 (∀ x2,b[t0.toNat]? = some x2 →
 br (x1.ver != x2.ver)
 (Rf (sameI_e (false)) ((false) = r0))
 (Rf (a.map Itm.v) (ck (decide (0 ≤ t0)) (ck (decide (t0 < (a.length:Int)))
 (∀ x3,a[t0.toNat]? = some x3 →
 Rf (b.map Itm.v) (ck (decide (0 ≤ t0)) (ck (decide (t0 < (b.length:Int)))
 (∀ x4,b[t0.toNat]? = some x4 →
 br (x3.grp != x4.grp)
 (Rf (sameI_e (false)) ((false) = r0))
 (Rf (a.map Itm.v) (ck (decide (0 ≤ t0)) (ck (decide (t0 < (a.length:Int)))
 (∀ x5,a[t0.toNat]? = some x5 →
 Rf (b.map Itm.v) (ck (decide (0 ≤ t0)) (ck (decide (t0 < (b.length:Int)))
 (∀ x6,b[t0.toNat]? = some x6 →
 Cl (FSame_c (⟨x5.mode,x5.srcs⟩:Flt) (⟨x6.mode,x6.srcs⟩:Flt))
 (br (!(FSame (⟨x5.mode,x5.srcs⟩:Flt) (⟨x6.mode,x6.srcs⟩:Flt)))
 (Rf (sameI_e (false)) ((false) = r0))
 (Nf (sameI_n0 a b (W (t0 + 1))) [] (I0 (W (t0 + 1)) ∧ m0 (W (t0 + 1)) < m0 t0))))))))))))))))))))))))
 (Rf (sameI_e (true)) ((true) = r0)))
theorem sameI_eq (a:(List Itm)) (b:(List Itm)) (I0:Int → Prop) (m0:Int → Nat) (r0:Bool):mxP Tryz.prog 59 [.sl 4 (a.map Itm.v) false,.sl 4 (b.map Itm.v) false] .k sameI_e ((.br 96 (.ret (false))
 (.loop 0 (sameI_n0 a b) (I0) (m0) ((0):Int) [] fun (t0:Int) =>
 (.br 64 (.el 96 Itm.v a fun x1 =>
 (.el 176 Itm.v b fun x2 =>
 (.br 256 (.ret (false))
 (.el 288 Itm.v a fun x3 =>
 (.el 368 Itm.v b fun x4 =>
 (.br 464 (.ret (false))
 (.el 496 Itm.v a fun x5 =>
 (.el 576 Itm.v b fun x6 =>
 (.callP (FSame_c (⟨x5.mode,x5.srcs⟩:Flt) (⟨x6.mode,x6.srcs⟩:Flt))
 (.br 672 (.ret (false))
 (.back 0 ((W (t0 + 1)):Int) [])))))))))))
 (.ret (true))))):An Tryz.prog sameI_s (Bool)) r0 = sameI_vc a b I0 m0 r0:=by kernel_rfl
theorem sameI_ok (a:(List Itm)) (b:(List Itm)) (I0:Int → Prop) (m0:Int → Nat) (r0:Bool) (h:sameI_vc a b I0 m0 r0):PSpec Tryz.prog 59 [.sl 4 (a.map Itm.v) false,.sl 4 (b.map Itm.v) false] (sameI_e r0):=by
  have e:=sameI_eq a b I0 m0 r0
  rw [← e] at h
  exact mxP_ok (enc:=sameI_e) h (AV.pureB_ok rfl)
theorem sameI_p (a b:List Itm) (ok:sameI_a a b):∃ I m,sameI_vc a b I m (decide (a = b)):=by
  simp only [sameI_a,okU,Blk.ok,plainV,List.length_map] at ok
  refine ⟨fun t=>∃ k:Nat,t = k ∧ k ≤ a.length ∧ a.take k = b.take k,fun t=>a.length - t.toNat,?_⟩
  simp only [sameI_vc,vcU,rfU,List.length_map]
  refine ⟨fun e=>(decide_eq_false fun h=>by subst h; simp at e).symm,fun e=>⟨⟨0,rfl,by omega,rfl⟩,?_⟩⟩
  have e:a.length = b.length:=by simp at e; omega
  rintro _ ⟨k,rfl,hk,h⟩
  simp only [Int.toNat_natCast]
  refine ⟨fun h1=>⟨by omega,by omega,fun x hx=>⟨by omega,by omega,fun y hy=>?_⟩⟩,fun h1=>?_⟩
  · have bad:x ≠ y → false = decide (a = b):=fun hne=>(decide_eq_false fun hh=>by
      subst hh
      cases hx.symm.trans hy
      exact hne rfl).symm
    refine ⟨fun c=>bad fun q=>by subst q; simp at c,fun c=>⟨by omega,by omega,fun x2 hx2=>⟨by omega,by omega,fun y2 hy2=>?_⟩⟩⟩
    cases hx.symm.trans hx2
    cases hy.symm.trans hy2
    refine ⟨fun c2=>bad fun q=>by subst q; simp at c2,fun c2=>⟨by omega,by omega,fun x3 hx3=>⟨by omega,by omega,fun y3 hy3=>?_⟩⟩⟩
    cases hx.symm.trans hx3
    cases hy.symm.trans hy3
    refine ⟨fun c3=>bad fun q=>by subst q; simp [FSame] at c3,fun c3=>?_⟩
    have q:x = y:=by
      rw [Itm.eq_iff]
      have c3:FSame ⟨x.mode,x.srcs⟩ ⟨y.mode,y.srcs⟩ = true:=by simpa using c3
      have c3:=flt_eq.mp (of_decide_eq_true c3)
      exact ⟨by simpa using c,by simpa using c2,c3⟩
    subst q
    rw [W_succ (n:=a.length) (by omega) (by omega)]
    exact ⟨⟨k + 1,rfl,by omega,by rw [take_succ hx,take_succ hy,h]⟩,by omega⟩
  · rw [List.take_of_length_le (by omega),List.take_of_length_le (by omega)] at h
    exact (decide_eq_true h).symm
def sameI_c (a:(List Itm)) (b:(List Itm)):PC Tryz.prog:=⟨59,[(.s 4),(.s 4)],[.sl 4 (a.map Itm.v) false,.sl 4 (b.map Itm.v) false],sameI_e (decide (a = b)),PSpec.of_ok fun ok=>(sameI_p a b ok).elim fun I0 h=>h.elim fun m0 h=>sameI_ok a b I0 m0 _ h,fnB_ok (by kernel_rfl)⟩
def chgT (L:List Int) (p:Nat):List Wnt × Nat:=((changes (wantsT L p).1 (wantsT L (wantsT L p).2).1).1,(wantsT L (wantsT L p).2).2)
def chgT_a (L:(List Int)) (p:Nat):Prop:=okL [.ref 0 0] ∧ (.box (.agg [.sl 1 (L.map AV.int) false,.int ((p:Nat):Int)]):Blk).ok
def chgT_s:Nat → Type
  | _=>Unit
def chgT_e (r:Tap × (List Wnt)):AV:=.sl 3 (r.2.map Wnt.v) false
def chgT_b (r:Tap × (List Wnt)):List (Option Blk):=[some (.box (.agg [.sl 1 (r.1.L.map AV.int) false,.int ((r.1.p:Nat):Int)]))]
def chgT_vc (L:(List Int)) (p:Nat) (r0:Tap × (List Wnt)):Prop:=
 Ch (wantsT_h L p) [0] 33
 (Ch (wantsT_h L ((wantsT L p).2)) [0] 65
 (Cl (chgsR_c ((wantsT L p).1) ((wantsT L ((wantsT L p).2)).1))
 (Nf ⟨[(2,.k,.sl 3 (((changes ((wantsT L p).1) ((wantsT L ((wantsT L p).2)).1)).1).map Wnt.v) false)],[.box (.agg [.sl 1 (L.map AV.int) false,.int ((((wantsT L ((wantsT L p).2)).2):Nat):Int)])]⟩ [0] (Rf (chgT_e ((⟨L,(wantsT L ((wantsT L p).2)).2⟩:Tap),(changes ((wantsT L p).1) ((wantsT L ((wantsT L p).2)).1)).1)) (Rf (chgT_b ((⟨L,(wantsT L ((wantsT L p).2)).2⟩:Tap),(changes ((wantsT L p).1) ((wantsT L ((wantsT L p).2)).1)).1)) (((⟨L,(wantsT L ((wantsT L p).2)).2⟩:Tap),(changes ((wantsT L p).1) ((wantsT L ((wantsT L p).2)).1)).1) = r0))))))
theorem chgT_eq (L:(List Int)) (p:Nat) (r0:Tap × (List Wnt)):mxH Tryz.prog 15 [.ref 0 0] [.box (.agg [.sl 1 (L.map AV.int) false,.int ((p:Nat):Int)])] (.s 3) chgT_e chgT_b ((.callH [0] (wantsT_h L p)
 (.callH [0] (wantsT_h L ((wantsT L p).2))
 (.callP (chgsR_c ((wantsT L p).1) ((wantsT L ((wantsT L p).2)).1))
 (.retH ((⟨L,(wantsT L ((wantsT L p).2)).2⟩:Tap),(changes ((wantsT L p).1) ((wantsT L ((wantsT L p).2)).1)).1) ⟨[(2,.k,.sl 3 (((changes ((wantsT L p).1) ((wantsT L ((wantsT L p).2)).1)).1).map Wnt.v) false)],[.box (.agg [.sl 1 (L.map AV.int) false,.int ((((wantsT L ((wantsT L p).2)).2):Nat):Int)])]⟩ [0])))):An Tryz.prog chgT_s (Tap × (List Wnt))) r0 = chgT_vc L p r0:=by kernel_rfl
theorem chgT_ok (L:(List Int)) (p:Nat) (r0:Tap × (List Wnt)) (h:chgT_vc L p r0):HSpec Tryz.prog 15 [.ref 0 0] [.box (.agg [.sl 1 (L.map AV.int) false,.int ((p:Nat):Int)])] (chgT_e r0) (chgT_b r0):=by
  have e:=chgT_eq L p r0
  rw [← e] at h
  exact mxH_ok (enc:=chgT_e) (hB:=chgT_b) h
theorem chgT_p (L:List Int) (p:Nat) (ok:chgT_a L p):chgT_vc L p (⟨L,(chgT L p).2⟩,(chgT L p).1):=by
  simp only [chgT_vc,vcU,rfU,List.length_map]
  rfl
def chgT_h (L:(List Int)) (p:Nat):HC Tryz.prog:=⟨15,[.k],[.ref 0 0],[.box (.agg [.sl 1 (L.map AV.int) false,.int ((p:Nat):Int)])],chgT_e (⟨L,(chgT L p).2⟩,(chgT L p).1),chgT_b (⟨L,(chgT L p).2⟩,(chgT L p).1),HSpec.of_okh fun ok ok2=>have ok:chgT_a L p:=⟨ok,ok2 _ (by simp)⟩; chgT_ok L p _ (chgT_p L p ok),fnB_ok (by kernel_rfl),HcOk.of (by simp [hcB,belBL,AV.belB,allB,okBk,okBkO,chgT_e,chgT_b,pureBL_map (v:=AV.int) (fun _=>rfl)])⟩
end Go.Proofs.YtglfecmdoekabaaGreat

namespace Go.Proofs.YtglfecmdoekabaaGreat
open Go Go.Am
set_option linter.unusedVariables false
set_option linter.unusedSimpArgs false
def appA (x:Wnt) (l:List Wnt):List Wnt:=l ++ [x]
def appB (y:Wnt) (l:List Wnt):List Wnt:=if noF ⟨y.mode,y.srcs⟩ = true then l else l ++ [y]
def appC (x y:Wnt) (l:List Wnt):List Wnt:=appB y l
def appA_a (x:Wnt) (out:(List Wnt)):Prop:=okL [.rptr (.agg [.int x.grp,.int x.mode,.sl 1 (x.srcs.map AV.int) false]) 0,.val (.pointer none),.ref 0 0] ∧ (.box (.vec 1):Blk).ok ∧ (.vec 3 (out.map Wnt.v):Blk).ok
def appA_s:Nat → Type
  | _=>Unit
def appA_e (r:(List Wnt)):AV:=.tup []
def appA_b (r:(List Wnt)):List (Option Blk):=[some (.box (.vec 2)),none,some (.vec 3 (r.map Wnt.v))]
def appA_vc (x:Wnt) (out:(List Wnt)) (r0:(List Wnt)):Prop:=
 ∃ h1:x.srcs.length ≤ 1000000,
 Cl (copiedW_c x h1)
 (Rf (α:=List AV) (out.map Wnt.v) (Rf (α:=List AV) [.agg [.int x.grp,.int x.mode,.sl 1 (x.srcs.map AV.int) false]]
 (ck (decide (out.length + 1 ≤ 1000000))
 (Nf ⟨[],[.box (.vec 2),.gone,.vec 3 ((out ++ [x]).map Wnt.v) (pureBL_map (fun _=>rfl) (out ++ [x]))]⟩ [0,1,146] (Rf (appA_e (out ++ [x])) (Rf (appA_b (out ++ [x])) ((out ++ [x]) = r0)))))))
theorem appA_eq (x:Wnt) (out:(List Wnt)) (r0:(List Wnt)):mxH Tryz.prog 79 [.rptr (.agg [.int x.grp,.int x.mode,.sl 1 (x.srcs.map AV.int) false]) 0,.val (.pointer none),.ref 0 0] [.box (.vec 1),.vec 3 (out.map Wnt.v)] .k appA_e appA_b ((.req 114 (x.srcs.length ≤ 1000000) fun h1 =>
 (.callP (copiedW_c x h1)
 (.app 146 Wnt.v out [x]
 (.retH (out ++ [x]) ⟨[],[.box (.vec 2),.gone,.vec 3 ((out ++ [x]).map Wnt.v) (pureBL_map (fun _=>rfl) (out ++ [x]))]⟩ [0,1,146])))):An Tryz.prog appA_s ((List Wnt))) r0 = appA_vc x out r0:=by kernel_rfl
theorem appA_ok (x:Wnt) (out:(List Wnt)) (r0:(List Wnt)) (h:appA_vc x out r0):HSpec Tryz.prog 79 [.rptr (.agg [.int x.grp,.int x.mode,.sl 1 (x.srcs.map AV.int) false]) 0,.val (.pointer none),.ref 0 0] [.box (.vec 1),.vec 3 (out.map Wnt.v)] (appA_e r0) (appA_b r0):=by
  have e:=appA_eq x out r0
  rw [← e] at h
  exact mxH_ok (enc:=appA_e) (hB:=appA_b) h
theorem appA_p (x:Wnt) (l:List Wnt) (h:x.srcs.length ≤ 1000000) (hl:l.length ≤ 900000) (ok:appA_a x l):appA_vc x l (appA x l):=by
  simp only [appA_vc,vcU,rfU,List.length_map]
  exact ⟨h,by omega,rfl⟩
def appA_h (x:Wnt) (out:(List Wnt)) (h:x.srcs.length ≤ 1000000) (hl:out.length ≤ 900000):HC Tryz.prog:=⟨79,[.k,.k,.k],[.rptr (.agg [.int x.grp,.int x.mode,.sl 1 (x.srcs.map AV.int) false]) 0,.val (.pointer none),.ref 0 0],[.box (.vec 1),.vec 3 (out.map Wnt.v)],appA_e (appA x out),appA_b (appA x out),HSpec.of_okh fun ok ok2=>have ok:appA_a x out:=⟨ok,ok2 _ (by simp),ok2 _ (by simp)⟩; appA_ok x out _ (appA_p x out h hl ok),fnB_ok (by kernel_rfl),HcOk.of (by simp [hcB,belBL,AV.belB,allB,okBk,okBkO,appA_e,appA_b,pureBL_map (v:=AV.int) (fun _=>rfl),pureBL_map (v:=Wnt.v) (fun _=>rfl)])⟩
def appB_a (y:Wnt) (out:(List Wnt)):Prop:=okL [.val (.pointer none),.rptr (.agg [.int y.grp,.int y.mode,.sl 1 (y.srcs.map AV.int) false]) 0,.ref 0 0] ∧ (.box (.vec 1):Blk).ok ∧ (.vec 3 (out.map Wnt.v):Blk).ok
def appB_s:Nat → Type
  | _=>Unit
def appB_e (r:(List Wnt)):AV:=.tup []
def appB_b (r:(List Wnt)):List (Option Blk):=[some (.box (.vec 2)),none,some (.vec 3 (r.map Wnt.v))]
def appB_vc (y:Wnt) (out:(List Wnt)) (r0:(List Wnt)):Prop:=
 Cl (noF_c (⟨y.mode,y.srcs⟩:Flt))
 (br (!(noF (⟨y.mode,y.srcs⟩:Flt)))
 (∃ h1:y.srcs.length ≤ 1000000,
 Cl (copiedW_c y h1)
 (Rf (α:=List AV) (out.map Wnt.v) (Rf (α:=List AV) [.agg [.int y.grp,.int y.mode,.sl 1 (y.srcs.map AV.int) false]]
 (ck (decide (out.length + 1 ≤ 1000000))
 (Nf ⟨[],[.box (.vec 2),.gone,.vec 3 ((out ++ [y]).map Wnt.v) (pureBL_map (fun _=>rfl) (out ++ [y]))]⟩ [0,1,258] (Rf (appB_e (out ++ [y])) (Rf (appB_b (out ++ [y])) ((out ++ [y]) = r0))))))))
 (Nf ⟨[],[.box (.vec 2),.gone,.vec 3 (out.map Wnt.v) (pureBL_map (fun _=>rfl) out)]⟩ [0,1,1] (Rf (appB_e out) (Rf (appB_b out) (out = r0)))))
theorem appB_eq (y:Wnt) (out:(List Wnt)) (r0:(List Wnt)):mxH Tryz.prog 79 [.val (.pointer none),.rptr (.agg [.int y.grp,.int y.mode,.sl 1 (y.srcs.map AV.int) false]) 0,.ref 0 0] [.box (.vec 1),.vec 3 (out.map Wnt.v)] .k appB_e appB_b ((.callP (noF_c (⟨y.mode,y.srcs⟩:Flt))
 (.br 162 (.req 226 (y.srcs.length ≤ 1000000) fun h1 =>
 (.callP (copiedW_c y h1)
 (.app 258 Wnt.v out [y]
 (.retH (out ++ [y]) ⟨[],[.box (.vec 2),.gone,.vec 3 ((out ++ [y]).map Wnt.v) (pureBL_map (fun _=>rfl) (out ++ [y]))]⟩ [0,1,258]))))
 (.retH out ⟨[],[.box (.vec 2),.gone,.vec 3 (out.map Wnt.v) (pureBL_map (fun _=>rfl) out)]⟩ [0,1,1]))):An Tryz.prog appB_s ((List Wnt))) r0 = appB_vc y out r0:=by kernel_rfl
theorem appB_ok (y:Wnt) (out:(List Wnt)) (r0:(List Wnt)) (h:appB_vc y out r0):HSpec Tryz.prog 79 [.val (.pointer none),.rptr (.agg [.int y.grp,.int y.mode,.sl 1 (y.srcs.map AV.int) false]) 0,.ref 0 0] [.box (.vec 1),.vec 3 (out.map Wnt.v)] (appB_e r0) (appB_b r0):=by
  have e:=appB_eq y out r0
  rw [← e] at h
  exact mxH_ok (enc:=appB_e) (hB:=appB_b) h
theorem appB_p (y:Wnt) (l:List Wnt) (h:y.srcs.length ≤ 1000000) (hl:l.length ≤ 900000) (ok:appB_a y l):appB_vc y l (appB y l):=by
  simp only [appB_vc,vcU,rfU,List.length_map]
  refine ⟨fun e=>⟨h,by omega,?_⟩,fun e=>?_⟩
  · rw [appB,if_neg (by simpa using e)]
  · rw [appB,if_pos (by simpa using e)]
def appB_h (y:Wnt) (out:(List Wnt)) (h:y.srcs.length ≤ 1000000) (hl:out.length ≤ 900000):HC Tryz.prog:=⟨79,[.k,.k,.k],[.val (.pointer none),.rptr (.agg [.int y.grp,.int y.mode,.sl 1 (y.srcs.map AV.int) false]) 0,.ref 0 0],[.box (.vec 1),.vec 3 (out.map Wnt.v)],appB_e (appB y out),appB_b (appB y out),HSpec.of_okh fun ok ok2=>have ok:appB_a y out:=⟨ok,ok2 _ (by simp),ok2 _ (by simp)⟩; appB_ok y out _ (appB_p y out h hl ok),fnB_ok (by kernel_rfl),HcOk.of (by simp [hcB,belBL,AV.belB,allB,okBk,okBkO,appB_e,appB_b,pureBL_map (v:=AV.int) (fun _=>rfl),pureBL_map (v:=Wnt.v) (fun _=>rfl)])⟩
def appC_a (x:Wnt) (y:Wnt) (out:(List Wnt)):Prop:=okL [.rptr (.agg [.int x.grp,.int x.mode,.sl 1 (x.srcs.map AV.int) false]) 0,.rptr (.agg [.int y.grp,.int y.mode,.sl 1 (y.srcs.map AV.int) false]) 0,.ref 0 0] ∧ (.box (.vec 1):Blk).ok ∧ (.vec 3 (out.map Wnt.v):Blk).ok
def appC_s:Nat → Type
  | _=>Unit
def appC_e (r:(List Wnt)):AV:=.tup []
def appC_b (r:(List Wnt)):List (Option Blk):=[some (.box (.vec 2)),none,some (.vec 3 (r.map Wnt.v))]
def appC_vc (x:Wnt) (y:Wnt) (out:(List Wnt)) (r0:(List Wnt)):Prop:=
 Cl (noF_c (⟨y.mode,y.srcs⟩:Flt))
 (br (!(noF (⟨y.mode,y.srcs⟩:Flt)))
 (∃ h1:y.srcs.length ≤ 1000000,
 Cl (copiedW_c y h1)
 (Rf (α:=List AV) (out.map Wnt.v) (Rf (α:=List AV) [.agg [.int y.grp,.int y.mode,.sl 1 (y.srcs.map AV.int) false]]
 (ck (decide (out.length + 1 ≤ 1000000))
 (Nf ⟨[],[.box (.vec 2),.gone,.vec 3 ((out ++ [y]).map Wnt.v) (pureBL_map (fun _=>rfl) (out ++ [y]))]⟩ [0,1,258] (Rf (appC_e (out ++ [y])) (Rf (appC_b (out ++ [y])) ((out ++ [y]) = r0))))))))
 (Nf ⟨[],[.box (.vec 2),.gone,.vec 3 (out.map Wnt.v) (pureBL_map (fun _=>rfl) out)]⟩ [0,1,1] (Rf (appC_e out) (Rf (appC_b out) (out = r0)))))
theorem appC_eq (x:Wnt) (y:Wnt) (out:(List Wnt)) (r0:(List Wnt)):mxH Tryz.prog 79 [.rptr (.agg [.int x.grp,.int x.mode,.sl 1 (x.srcs.map AV.int) false]) 0,.rptr (.agg [.int y.grp,.int y.mode,.sl 1 (y.srcs.map AV.int) false]) 0,.ref 0 0] [.box (.vec 1),.vec 3 (out.map Wnt.v)] .k appC_e appC_b ((.callP (noF_c (⟨y.mode,y.srcs⟩:Flt))
 (.br 162 (.req 226 (y.srcs.length ≤ 1000000) fun h1 =>
 (.callP (copiedW_c y h1)
 (.app 258 Wnt.v out [y]
 (.retH (out ++ [y]) ⟨[],[.box (.vec 2),.gone,.vec 3 ((out ++ [y]).map Wnt.v) (pureBL_map (fun _=>rfl) (out ++ [y]))]⟩ [0,1,258]))))
 (.retH out ⟨[],[.box (.vec 2),.gone,.vec 3 (out.map Wnt.v) (pureBL_map (fun _=>rfl) out)]⟩ [0,1,1]))):An Tryz.prog appC_s ((List Wnt))) r0 = appC_vc x y out r0:=by kernel_rfl
theorem appC_ok (x:Wnt) (y:Wnt) (out:(List Wnt)) (r0:(List Wnt)) (h:appC_vc x y out r0):HSpec Tryz.prog 79 [.rptr (.agg [.int x.grp,.int x.mode,.sl 1 (x.srcs.map AV.int) false]) 0,.rptr (.agg [.int y.grp,.int y.mode,.sl 1 (y.srcs.map AV.int) false]) 0,.ref 0 0] [.box (.vec 1),.vec 3 (out.map Wnt.v)] (appC_e r0) (appC_b r0):=by
  have e:=appC_eq x y out r0
  rw [← e] at h
  exact mxH_ok (enc:=appC_e) (hB:=appC_b) h
theorem appC_p (x y:Wnt) (l:List Wnt) (h:y.srcs.length ≤ 1000000) (hl:l.length ≤ 900000) (ok:appC_a x y l):appC_vc x y l (appC x y l):=by
  simp only [appC_vc,vcU,rfU,List.length_map]
  refine ⟨fun e=>⟨h,by omega,?_⟩,fun e=>?_⟩
  · rw [appC,appB,if_neg (by simpa using e)]
  · rw [appC,appB,if_pos (by simpa using e)]
def appC_h (x:Wnt) (y:Wnt) (out:(List Wnt)) (h:y.srcs.length ≤ 1000000) (hl:out.length ≤ 900000):HC Tryz.prog:=⟨79,[.k,.k,.k],[.rptr (.agg [.int x.grp,.int x.mode,.sl 1 (x.srcs.map AV.int) false]) 0,.rptr (.agg [.int y.grp,.int y.mode,.sl 1 (y.srcs.map AV.int) false]) 0,.ref 0 0],[.box (.vec 1),.vec 3 (out.map Wnt.v)],appC_e (appC x y out),appC_b (appC x y out),HSpec.of_okh fun ok ok2=>have ok:appC_a x y out:=⟨ok,ok2 _ (by simp),ok2 _ (by simp)⟩; appC_ok x y out _ (appC_p x y out h hl ok),fnB_ok (by kernel_rfl),HcOk.of (by simp [hcB,belBL,AV.belB,allB,okBk,okBkO,appC_e,appC_b,pureBL_map (v:=AV.int) (fun _=>rfl),pureBL_map (v:=Wnt.v) (fun _=>rfl)])⟩
def mergA:List Wnt → List Wnt → List Wnt → List Wnt
  | [],[],l=>l
  | x :: a,[],l=>mergA a [] (appA x l)
  | [],y :: b,l=>mergA [] b (appB y l)
  | x :: a,y :: b,l=>if x.grp < y.grp then mergA a (y :: b) (appA x l) else if y.grp < x.grp then mergA (x :: a) b (appB y l) else mergA a b (appC x y l)
termination_by a b=>a.length + b.length
def okMrg (a b l:List Wnt):Prop:=a.length ≤ 1000 ∧ b.length ≤ 1000 ∧ l.length ≤ 100000 ∧ (∀ x ∈ a,x.srcs.length ≤ 1000000) ∧ ∀ x ∈ b,x.srcs.length ≤ 1000000
def mergA_a (a:(List Wnt)) (b:(List Wnt)) (out:(List Wnt)):Prop:=okL [.sl 3 (a.map Wnt.v) false,.sl 3 (b.map Wnt.v) false,.func 79 [.ref 0 0]] ∧ (.box (.vec 1):Blk).ok ∧ (.vec 3 (out.map Wnt.v):Blk).ok
def mergA_n0 (a:(List Wnt)) (b:(List Wnt)) (out:(List Wnt)) (t0:(List Wnt) × (List Wnt) × (List Wnt)):NF:=⟨[(0,(.s 3),.sl 3 (t0.1.map Wnt.v) false),(1,(.s 3),.sl 3 (t0.2.1.map Wnt.v) false),(2,.k,.func 79 [.ref 0 0])],[.box (.vec 2),.gone,.vec 3 (t0.2.2.map Wnt.v) (pureBL_map (fun _=>rfl) t0.2.2)]⟩
def mergA_n1 (a:(List Wnt)) (b:(List Wnt)) (out:(List Wnt)) (t0:(List Wnt) × (List Wnt) × (List Wnt)) (t1:Unit):NF:=⟨[(0,.k,.sl 3 (t0.1.map Wnt.v) false),(1,.k,.sl 3 (t0.2.1.map Wnt.v) false),(2,.k,.func 79 [.ref 0 0])],[.box (.vec 2),.gone,.vec 3 (t0.2.2.map Wnt.v) (pureBL_map (fun _=>rfl) t0.2.2)]⟩
def mergA_n2 (a:(List Wnt)) (b:(List Wnt)) (out:(List Wnt)) (t0:(List Wnt) × (List Wnt) × (List Wnt)) (t1:Unit) (t2:Int):NF:=⟨[(0,.k,.sl 3 (t0.1.map Wnt.v) false),(1,.k,.sl 3 (t0.2.1.map Wnt.v) false),(2,.k,.func 79 [.ref 0 0]),(6,.k,.int t2)],[.box (.vec 2),.gone,.vec 3 (t0.2.2.map Wnt.v) (pureBL_map (fun _=>rfl) t0.2.2)]⟩
def mergA_s:Nat → Type
  | 0=>(List Wnt) × (List Wnt) × (List Wnt)
  | 1=>Unit
  | 2=>Int
  | _=>Unit
def mergA_e (r:(List Wnt)):AV:=.tup []
def mergA_b (r:(List Wnt)):List (Option Blk):=[some (.box (.vec 2)),none,some (.vec 3 (r.map Wnt.v))]
def mergA_vc (a:(List Wnt)) (b:(List Wnt)) (out:(List Wnt)) (I0:((List Wnt) × (List Wnt) × (List Wnt)) → Prop) (m0:((List Wnt) × (List Wnt) × (List Wnt)) → Nat) (r0:(List Wnt)):Prop:=
 Nf (mergA_n0 a b out (a,b,out)) [0,1,1] (I0 (a,b,out)) ∧ ∀ t0:(List Wnt) × (List Wnt) × (List Wnt),I0 t0 →
 (br (decide (0 < ((t0.1.map Wnt.v).length:Int)))
 (Nf (mergA_n1 a b out t0 (())) [0,1,2] ((bif (decide (0 < ((t0.1.map Wnt.v).length:Int))) then true else (bif (decide (0 < ((t0.2.1.map Wnt.v).length:Int))) then true else false)) = true))
 (br (decide (0 < ((t0.2.1.map Wnt.v).length:Int)))
 (Nf (mergA_n1 a b out t0 (())) [0,1,2] ((bif (decide (0 < ((t0.1.map Wnt.v).length:Int))) then true else (bif (decide (0 < ((t0.2.1.map Wnt.v).length:Int))) then true else false)) = true))
 (Nf ⟨[],[.box (.vec 2),.gone,.vec 3 (t0.2.2.map Wnt.v) (pureBL_map (fun _=>rfl) t0.2.2)]⟩ [0,1,2] (Rf (mergA_e t0.2.2) (Rf (mergA_b t0.2.2) (t0.2.2 = r0)))))) ∧ ∀ t1:Unit,(bif (decide (0 < ((t0.1.map Wnt.v).length:Int))) then true else (bif (decide (0 < ((t0.2.1.map Wnt.v).length:Int))) then true else false)) = true →
 (br (((t0.1.map Wnt.v).length:Int) == 0)
 (Nf (mergA_n2 a b out t0 t1 (1)) [0,1,2] (((((t0.1.map Wnt.v).length:Int) == 0) = true ∧ ((1):Int) = ((1):Int)) ∨ ((((t0.1.map Wnt.v).length:Int) == 0) = false ∧ (((t0.2.1.map Wnt.v).length:Int) == 0) = true ∧ ((1):Int) = ((-1):Int)) ∨ ((((t0.1.map Wnt.v).length:Int) == 0) = false ∧ (((t0.2.1.map Wnt.v).length:Int) == 0) = false ∧ ∃ x1':Wnt,t0.1[0]? = some x1' ∧ ∃ x2':Wnt,t0.2.1[0]? = some x2' ∧ ((1):Int) = ((cmpI x1'.grp x2'.grp):Int))))
 (br (((t0.2.1.map Wnt.v).length:Int) == 0)
 (Nf (mergA_n2 a b out t0 t1 (-1)) [0,1,2] (((((t0.1.map Wnt.v).length:Int) == 0) = true ∧ ((-1):Int) = ((1):Int)) ∨ ((((t0.1.map Wnt.v).length:Int) == 0) = false ∧ (((t0.2.1.map Wnt.v).length:Int) == 0) = true ∧ ((-1):Int) = ((-1):Int)) ∨ ((((t0.1.map Wnt.v).length:Int) == 0) = false ∧ (((t0.2.1.map Wnt.v).length:Int) == 0) = false ∧ ∃ x1':Wnt,t0.1[0]? = some x1' ∧ ∃ x2':Wnt,t0.2.1[0]? = some x2' ∧ ((-1):Int) = ((cmpI x1'.grp x2'.grp):Int))))
 (Rf (t0.1.map Wnt.v) (ck (decide (0 < (t0.1.length:Int)))
 (∀ x1,t0.1[0]? = some x1 →
 Rf (t0.2.1.map Wnt.v) (ck (decide (0 < (t0.2.1.length:Int)))
 (∀ x2,t0.2.1[0]? = some x2 →
 Cl (cmpI_c x1.grp x2.grp)
 (Nf (mergA_n2 a b out t0 t1 (cmpI x1.grp x2.grp)) [0,1,2] (((((t0.1.map Wnt.v).length:Int) == 0) = true ∧ ((cmpI x1.grp x2.grp):Int) = ((1):Int)) ∨ ((((t0.1.map Wnt.v).length:Int) == 0) = false ∧ (((t0.2.1.map Wnt.v).length:Int) == 0) = true ∧ ((cmpI x1.grp x2.grp):Int) = ((-1):Int)) ∨ ((((t0.1.map Wnt.v).length:Int) == 0) = false ∧ (((t0.2.1.map Wnt.v).length:Int) == 0) = false ∧ ∃ x1':Wnt,t0.1[0]? = some x1' ∧ ∃ x2':Wnt,t0.2.1[0]? = some x2' ∧ ((cmpI x1.grp x2.grp):Int) = ((cmpI x1'.grp x2'.grp):Int))))))))))) ∧ ∀ t2:Int,((((t0.1.map Wnt.v).length:Int) == 0) = true ∧ t2 = ((1):Int)) ∨ ((((t0.1.map Wnt.v).length:Int) == 0) = false ∧ (((t0.2.1.map Wnt.v).length:Int) == 0) = true ∧ t2 = ((-1):Int)) ∨ ((((t0.1.map Wnt.v).length:Int) == 0) = false ∧ (((t0.2.1.map Wnt.v).length:Int) == 0) = false ∧ ∃ x1':Wnt,t0.1[0]? = some x1' ∧ ∃ x2':Wnt,t0.2.1[0]? = some x2' ∧ t2 = ((cmpI x1'.grp x2'.grp):Int)) →
 br (decide (t2 ≤ 0))
 (Rf (t0.1.map Wnt.v) (ck (decide (0 < (t0.1.length:Int)))
 (∀ x3,t0.1[0]? = some x3 →
 Rf (α:=List AV) (t0.1.map Wnt.v) (ck (bndB t0.1.length 1 (t0.1.length:Int) (t0.1.length:Int))
 (br (decide (0 ≤ t2))
 (Rf (t0.2.1.map Wnt.v) (ck (decide (0 < (t0.2.1.length:Int)))
 (∀ x4,t0.2.1[0]? = some x4 →
 Rf (α:=List AV) (t0.2.1.map Wnt.v) (ck (bndB t0.2.1.length 1 (t0.2.1.length:Int) (t0.2.1.length:Int))
 (∃ h5:x4.srcs.length ≤ 1000000,
 ∃ h6:t0.2.2.length ≤ 900000,
 Ch (appC_h x3 x4 t0.2.2 h5 h6) [0,2] 339
 (Nf (mergA_n0 a b out ((t0.1.take ((t0.1.length:Int).toNat)).drop 1,(t0.2.1.take ((t0.2.1.length:Int).toNat)).drop 1,appC x3 x4 t0.2.2)) [0,1,339] (I0 ((t0.1.take ((t0.1.length:Int).toNat)).drop 1,(t0.2.1.take ((t0.2.1.length:Int).toNat)).drop 1,appC x3 x4 t0.2.2) ∧ m0 ((t0.1.take ((t0.1.length:Int).toNat)).drop 1,(t0.2.1.take ((t0.2.1.length:Int).toNat)).drop 1,appC x3 x4 t0.2.2) < m0 t0)))))))
 (∃ h7:x3.srcs.length ≤ 1000000,
 ∃ h8:t0.2.2.length ≤ 900000,
 Ch (appA_h x3 t0.2.2 h7 h8) [0,2] 243
 (Nf (mergA_n0 a b out ((t0.1.take ((t0.1.length:Int).toNat)).drop 1,t0.2.1,appA x3 t0.2.2)) [0,1,243] (I0 ((t0.1.take ((t0.1.length:Int).toNat)).drop 1,t0.2.1,appA x3 t0.2.2) ∧ m0 ((t0.1.take ((t0.1.length:Int).toNat)).drop 1,t0.2.1,appA x3 t0.2.2) < m0 t0))))))))
 (br (decide (0 ≤ t2))
 (Rf (t0.2.1.map Wnt.v) (ck (decide (0 < (t0.2.1.length:Int)))
 (∀ x9,t0.2.1[0]? = some x9 →
 Rf (α:=List AV) (t0.2.1.map Wnt.v) (ck (bndB t0.2.1.length 1 (t0.2.1.length:Int) (t0.2.1.length:Int))
 (∃ h10:x9.srcs.length ≤ 1000000,
 ∃ h11:t0.2.2.length ≤ 900000,
 Ch (appB_h x9 t0.2.2 h10 h11) [0,2] 243
 (Nf (mergA_n0 a b out (t0.1,(t0.2.1.take ((t0.2.1.length:Int).toNat)).drop 1,appB x9 t0.2.2)) [0,1,243] (I0 (t0.1,(t0.2.1.take ((t0.2.1.length:Int).toNat)).drop 1,appB x9 t0.2.2) ∧ m0 (t0.1,(t0.2.1.take ((t0.2.1.length:Int).toNat)).drop 1,appB x9 t0.2.2) < m0 t0)))))))
 (False))
theorem mergA_eq (a:(List Wnt)) (b:(List Wnt)) (out:(List Wnt)) (I0:((List Wnt) × (List Wnt) × (List Wnt)) → Prop) (m0:((List Wnt) × (List Wnt) × (List Wnt)) → Nat) (r0:(List Wnt)):mxH Tryz.prog 78 [.sl 3 (a.map Wnt.v) false,.sl 3 (b.map Wnt.v) false,.func 79 [.ref 0 0]] [.box (.vec 1),.vec 3 (out.map Wnt.v)] .k mergA_e mergA_b ((.loop 0 (mergA_n0 a b out) (I0) (m0) ((a,b,out):(List Wnt) × (List Wnt) × (List Wnt)) [0,1,1] fun (t0:(List Wnt) × (List Wnt) × (List Wnt)) =>
 (.join 1 (mergA_n1 a b out t0) (fun t1=>(bif (decide (0 < ((t0.1.map Wnt.v).length:Int))) then true else (bif (decide (0 < ((t0.2.1.map Wnt.v).length:Int))) then true else false)) = true) (.br 67 (.back 1 ((()):Unit) [0,1,2])
 (.br 131 (.back 1 ((()):Unit) [0,1,2])
 (.retH t0.2.2 ⟨[],[.box (.vec 2),.gone,.vec 3 (t0.2.2.map Wnt.v) (pureBL_map (fun _=>rfl) t0.2.2)]⟩ [0,1,2]))) fun (t1:Unit) =>
 (.pass (.join 2 (mergA_n2 a b out t0 t1) (fun t2=>((((t0.1.map Wnt.v).length:Int) == 0) = true ∧ t2 = ((1):Int)) ∨ ((((t0.1.map Wnt.v).length:Int) == 0) = false ∧ (((t0.2.1.map Wnt.v).length:Int) == 0) = true ∧ t2 = ((-1):Int)) ∨ ((((t0.1.map Wnt.v).length:Int) == 0) = false ∧ (((t0.2.1.map Wnt.v).length:Int) == 0) = false ∧ ∃ x1':Wnt,t0.1[0]? = some x1' ∧ ∃ x2':Wnt,t0.2.1[0]? = some x2' ∧ t2 = ((cmpI x1'.grp x2'.grp):Int))) (.br 83 (.back 2 ((1):Int) [0,1,2])
 (.br 147 (.back 2 ((-1):Int) [0,1,2])
 (.el 163 Wnt.v t0.1 fun x1 =>
 (.el 227 Wnt.v t0.2.1 fun x2 =>
 (.callP (cmpI_c x1.grp x2.grp)
 (.back 2 ((cmpI x1.grp x2.grp):Int) [0,1,2])))))) fun (t2:Int) =>
 (.br 67 (.el 83 Wnt.v t0.1 fun x3 =>
 (.sub 115 Wnt.v t0.1 false
 (.br 195 (.el 211 Wnt.v t0.2.1 fun x4 =>
 (.sub 243 Wnt.v t0.2.1 false
 (.req 339 (x4.srcs.length ≤ 1000000) fun h5 =>
 (.req 339 (t0.2.2.length ≤ 900000) fun h6 =>
 (.callH [0,2] (appC_h x3 x4 t0.2.2 h5 h6)
 (.back 0 (((t0.1.take ((t0.1.length:Int).toNat)).drop 1,(t0.2.1.take ((t0.2.1.length:Int).toNat)).drop 1,appC x3 x4 t0.2.2):(List Wnt) × (List Wnt) × (List Wnt)) [0,1,339]))))))
 (.req 243 (x3.srcs.length ≤ 1000000) fun h7 =>
 (.req 243 (t0.2.2.length ≤ 900000) fun h8 =>
 (.callH [0,2] (appA_h x3 t0.2.2 h7 h8)
 (.back 0 (((t0.1.take ((t0.1.length:Int).toNat)).drop 1,t0.2.1,appA x3 t0.2.2):(List Wnt) × (List Wnt) × (List Wnt)) [0,1,243])))))))
 (.br 99 (.el 115 Wnt.v t0.2.1 fun x9 =>
 (.sub 147 Wnt.v t0.2.1 false
 (.req 243 (x9.srcs.length ≤ 1000000) fun h10 =>
 (.req 243 (t0.2.2.length ≤ 900000) fun h11 =>
 (.callH [0,2] (appB_h x9 t0.2.2 h10 h11)
 (.back 0 ((t0.1,(t0.2.1.take ((t0.2.1.length:Int).toNat)).drop 1,appB x9 t0.2.2):(List Wnt) × (List Wnt) × (List Wnt)) [0,1,243]))))))
 .nil)))))):An Tryz.prog mergA_s ((List Wnt))) r0 = mergA_vc a b out I0 m0 r0:=by kernel_rfl
theorem mergA_ok (a:(List Wnt)) (b:(List Wnt)) (out:(List Wnt)) (I0:((List Wnt) × (List Wnt) × (List Wnt)) → Prop) (m0:((List Wnt) × (List Wnt) × (List Wnt)) → Nat) (r0:(List Wnt)) (h:mergA_vc a b out I0 m0 r0):HSpec Tryz.prog 78 [.sl 3 (a.map Wnt.v) false,.sl 3 (b.map Wnt.v) false,.func 79 [.ref 0 0]] [.box (.vec 1),.vec 3 (out.map Wnt.v)] (mergA_e r0) (mergA_b r0):=by
  have e:=mergA_eq a b out I0 m0 r0
  rw [← e] at h
  exact mxH_ok (enc:=mergA_e) (hB:=mergA_b) h
theorem appB_len (y:Wnt) (o:List Wnt):(appB y o).length ≤ o.length + 1:=by unfold appB; split <;> simp
theorem bnd1 (n:Nat):bndB (n + 1) 1 ((n:Int) + 1) ((n:Int) + 1) = true:=by simp [bndB]; omega
theorem mergA_p (a b l:List Wnt) (h:okMrg a b l) (ok:mergA_a a b l):∃ I m,mergA_vc a b l I m (mergA a b l):=by
  obtain ⟨h1,h2,h3,h4,h5⟩:=h
  refine ⟨fun t=>mergA t.1 t.2.1 t.2.2 = mergA a b l ∧ t.1.length + t.2.1.length + t.2.2.length ≤ 102000 ∧ (∀ x ∈ t.1,x.srcs.length ≤ 1000000) ∧ ∀ x ∈ t.2.1,x.srcs.length ≤ 1000000,fun t=>t.1.length + t.2.1.length,?_⟩
  simp only [mergA_vc,vcU,rfU,List.length_map]
  refine ⟨⟨trivial,by omega,h4,h5⟩,?_⟩
  rintro ⟨A,B,o⟩ ⟨hm,hl,hA,hB⟩
  clear ok
  simp only at hm hl hA hB
  cases A with
  | nil=>cases B with
    | nil =>
      simp
      rw [← hm,mergA]
    | cons y B =>
      simp [bnd1]
      have hb:=appB_len y o
      rw [mergA] at hm
      simp only [List.length_cons,List.length_nil] at hl
      exact ⟨hm,by omega,by omega,hB y (by simp),fun z hz=>hB z (by simp [hz])⟩
  | cons x A =>
    have ea:¬ ((A.length:Int) + 1 = 0):=by omega
    cases B with
    | nil =>
      simp [bnd1,ea]
      rw [mergA] at hm
      simp only [List.length_cons,List.length_nil] at hl
      exact ⟨hm,by simp [appA]; omega,by omega,hA x (by simp),fun z hz=>hA z (by simp [hz])⟩
    | cons y B =>
      have eb:¬ ((B.length:Int) + 1 = 0):=by omega
      simp [bnd1,ea,eb]
      have hb:=appB_len y o
      rw [mergA] at hm
      simp only [List.length_cons] at hl
      have hx:=hA x (by simp)
      have hy:=hB y (by simp)
      have hA':∀ z ∈ A,z.srcs.length ≤ 1000000:=fun z hz=>hA z (by simp [hz])
      have hB':∀ z ∈ B,z.srcs.length ≤ 1000000:=fun z hz=>hB z (by simp [hz])
      have hgt:0 < cmpI x.grp y.grp ↔ y.grp < x.grp:=by
        have:=cmp_lt x.grp y.grp; have:=cmp_eq x.grp y.grp; omega
      have hlt:=cmp_lt x.grp y.grp
      have heq:=cmp_eq x.grp y.grp
      refine ⟨fun c=>⟨fun d=>⟨⟨?_,?_,hA',hB'⟩,by omega,hy,by omega⟩,fun d=>⟨?_,by simp [appA]; omega,hA',hy,by omega,hx,hB'⟩⟩,fun c=>⟨fun d=>⟨?_,by omega,⟨hx,hA'⟩,by omega,hy,hB'⟩,by omega⟩⟩
      · rw [if_neg (by omega),if_neg (by omega)] at hm; exact hm
      · show A.length + B.length + (appB y o).length ≤ _; omega
      · rw [if_pos (by omega)] at hm; exact hm
      · rw [if_neg (by omega),if_pos (by omega)] at hm; exact hm
def mergA_h (a:(List Wnt)) (b:(List Wnt)) (out:(List Wnt)) (h:okMrg a b out):HC Tryz.prog:=⟨78,[(.s 3),(.s 3),.k],[.sl 3 (a.map Wnt.v) false,.sl 3 (b.map Wnt.v) false,.func 79 [.ref 0 0]],[.box (.vec 1),.vec 3 (out.map Wnt.v)],mergA_e (mergA a b out),mergA_b (mergA a b out),HSpec.of_okh fun ok ok2=>have ok:mergA_a a b out:=⟨ok,ok2 _ (by simp),ok2 _ (by simp)⟩; (mergA_p a b out h ok).elim fun I0 h=>h.elim fun m0 h=>mergA_ok a b out I0 m0 _ h,fnB_ok (by kernel_rfl),HcOk.of (by simp [hcB,belBL,AV.belB,allB,okBk,okBkO,mergA_e,mergA_b,pureBL_map (v:=Wnt.v) (fun _=>rfl)])⟩
def limitW (l:List Wnt):List Wnt × Int:=if 32 < l.length then ([],3) else (l,0)
def limited_a (l:(List Wnt)):Prop:=okL [.sl 3 (l.map Wnt.v) false]
def limited_s:Nat → Type
  | _=>Unit
def limited_e (r:(List Wnt) × Int):AV:=.tup [.sl 3 (r.1.map Wnt.v) false,.int r.2]
def limited_vc (l:(List Wnt)) (r0:(List Wnt) × Int):Prop:=
 br (decide (32 < ((l.map Wnt.v).length:Int)))
 (Rf (limited_e ([],3)) (([],3) = r0))
 (Rf (limited_e (l,0)) ((l,0) = r0))
theorem limited_eq (l:(List Wnt)) (r0:(List Wnt) × Int):mxP Tryz.prog 82 [.sl 3 (l.map Wnt.v) false] (.a [(.s 3),.k]) limited_e ((.br 80 (.ret ([],3))
 (.ret (l,0))):An Tryz.prog limited_s ((List Wnt) × Int)) r0 = limited_vc l r0:=by kernel_rfl
theorem limited_ok (l:(List Wnt)) (r0:(List Wnt) × Int) (h:limited_vc l r0):PSpec Tryz.prog 82 [.sl 3 (l.map Wnt.v) false] (limited_e r0):=by
  have e:=limited_eq l r0
  rw [← e] at h
  exact mxP_ok (enc:=limited_e) h (AV.pureB_ok rfl)
theorem limited_p (l:List Wnt) (ok:limited_a l):limited_vc l (limitW l):=by
  simp only [limited_vc,vcU,rfU,List.length_map]
  refine ⟨fun e=>by rw [limitW,if_pos (by omega)],fun e=>by rw [limitW,if_neg (by omega)]⟩
def limited_c (l:(List Wnt)):PC Tryz.prog:=⟨82,[(.s 3)],[.sl 3 (l.map Wnt.v) false],limited_e (limitW l),PSpec.of_ok fun ok=>limited_ok l _ (limited_p l ok),fnB_ok (by kernel_rfl)⟩
def applyW (old c:List Wnt):List Wnt × Int:=
  if wErr false old ≠ 0 then ([],wErr false old) else if wErr true c ≠ 0 then ([],wErr true c) else limitW (mergA old c [])
theorem wErr_srcs {chg:Bool} {l:List Wnt} (h:wErr chg l = 0):l.length ≤ 32 ∧ ∀ x ∈ l,x.srcs.length ≤ 1000000:=by
  have h:=wErr_zero.mp h
  exact ⟨h.1,fun x hx=>by have:=srcs_len (h.2.2.1 x hx); omega⟩
def applyW_a (old:(List Wnt)) (changes:(List Wnt)):Prop:=okL [.sl 3 (old.map Wnt.v) false,.sl 3 (changes.map Wnt.v) false]
def applyW_s:Nat → Type
  | _=>Unit
def applyW_e (r:(List Wnt) × Int):AV:=.tup [.sl 3 (r.1.map Wnt.v) false,.int r.2]
def applyW_vc (old:(List Wnt)) (changes:(List Wnt)) (r0:(List Wnt) × Int):Prop:=
 Cl (valW_c old)
 (Cl (checkW_c changes true)
 (Cl (orI_c [wErr false old,wErr true changes])
 (br ((orI [wErr false old,wErr true changes]) != 0)
 (Rf (applyW_e ([],orI [wErr false old,wErr true changes])) (([],orI [wErr false old,wErr true changes]) = r0))
 (∃ h1:okMrg old changes [],
 Ch (mergA_h old changes [] h1) [176,192] 241
 (Rf ((mergA old changes []).map Wnt.v) (Cl (limited_c (mergA old changes []))
 (Rf (applyW_e ((limitW (mergA old changes [])).1,(limitW (mergA old changes [])).2)) (((limitW (mergA old changes [])).1,(limitW (mergA old changes [])).2) = r0))))))))
theorem applyW_eq (old:(List Wnt)) (changes:(List Wnt)) (r0:(List Wnt) × Int):mxP Tryz.prog 49 [.sl 3 (old.map Wnt.v) false,.sl 3 (changes.map Wnt.v) false] (.a [(.s 3),.k]) applyW_e ((.callP (valW_c old)
 (.callP (checkW_c changes true)
 (.callP (orI_c [wErr false old,wErr true changes])
 (.br 176 (.ret ([],orI [wErr false old,wErr true changes]))
 (.wait (.cmd (.nilC 176 3) (.req 241 (okMrg old changes []) fun h1 =>
 (.callH [176,192] (mergA_h old changes [] h1)
 (.cmd (.frzE 241 ((mergA old changes []).map Wnt.v) (pureBL_map (fun _=>rfl) (mergA old changes []))) (.callP (limited_c (mergA old changes []))
 (.ret ((limitW (mergA old changes [])).1,(limitW (mergA old changes [])).2)))))))))))):An Tryz.prog applyW_s ((List Wnt) × Int)) r0 = applyW_vc old changes r0:=by kernel_rfl
theorem applyW_ok (old:(List Wnt)) (changes:(List Wnt)) (r0:(List Wnt) × Int) (h:applyW_vc old changes r0):PSpec Tryz.prog 49 [.sl 3 (old.map Wnt.v) false,.sl 3 (changes.map Wnt.v) false] (applyW_e r0):=by
  have e:=applyW_eq old changes r0
  rw [← e] at h
  exact mxP_ok (enc:=applyW_e) h (AV.pureB_ok rfl)
theorem applyW_p (a c:List Wnt) (ok:applyW_a a c):applyW_vc a c (applyW a c):=by
  simp only [applyW_vc,vcU,rfU,List.length_map]
  rw [orI_two]
  by_cases h1:wErr false a = 0
  case neg=>simp [applyW,h1]
  by_cases h2:wErr true c = 0
  case neg=>simp [applyW,h1,h2]
  have b1:=wErr_srcs h1
  have b2:=wErr_srcs h2
  refine ⟨fun e=>by simp [h1,h2] at e,fun _=>?_⟩
  refine ⟨⟨by omega,by omega,by simp,b1.2,b2.2⟩,?_⟩
  rw [applyW,if_neg (not_not_intro h1),if_neg (not_not_intro h2)]
def applyW_c (old:(List Wnt)) (changes:(List Wnt)):PC Tryz.prog:=⟨49,[(.s 3),(.s 3)],[.sl 3 (old.map Wnt.v) false,.sl 3 (changes.map Wnt.v) false],applyW_e (applyW old changes),PSpec.of_ok fun ok=>applyW_ok old changes _ (applyW_p old changes ok),fnB_ok (by kernel_rfl)⟩
theorem mergA_len:∀ (c l:List Wnt),(mergA [] c l).length ≤ c.length + l.length
  | [],l=>by rw [mergA]; simp
  | y :: c,l=>by
    rw [mergA]
    have:=mergA_len c (appB y l)
    have:=appB_len y l
    simp only [List.length_cons]; omega
theorem applyW_err (c:List Wnt):(applyW [] c).2 = wErr true c:=by
  have h1:wErr false [] = 0:=wErr_zero.mpr ⟨by simp,by simp,by simp,by simp,List.Pairwise.nil⟩
  rw [applyW,if_neg (not_not_intro h1)]
  by_cases h2:wErr true c = 0
  · have:=wErr_srcs h2
    have:=mergA_len c []
    rw [if_neg (not_not_intro h2),limitW,if_neg (by simp only [List.length_nil] at this; omega)]
    exact h2.symm
  · rw [if_pos h2]
def changeF_a (s:Spk) (changes:(List Wnt)):Prop:=okL [.agg [.int s.router,.int s.epoch,.int s.last,.sl 4 (s.items.map Itm.v) false,.sl 3 (s.peers.map Per.v) false],.sl 3 (changes.map Wnt.v) false]
def changeF_n0 (s:Spk) (changes:(List Wnt)) (t0:Int × Int × (List Itm)):NF:=⟨[(2,.k,.ref 0 0),(4,.k,.ref 1 0),(34,.k,.sl 3 (changes.map Wnt.v) false),(35,.k,.int ((changes.map Wnt.v).length:Int)),(36,.k,.int t0.1)],[.box (.agg [.int s.router,.int s.epoch,.int t0.2.1,.sl 4 (t0.2.2.map Itm.v) false,.sl 3 (s.peers.map Per.v) false]),.box (.agg [.int 0,.int 0,.int 0,.sl 0 [] true,.sl 0 [] true])]⟩
def changeF_s:Nat → Type
  | 0=>Int × Int × (List Itm)
  | _=>Unit
def changeF_e (r:Spk × Int):AV:=.tup [Spk.v r.1,.int r.2]
def changeF_vc (s:Spk) (changes:(List Wnt)) (I0:(Int × Int × (List Itm)) → Prop) (m0:(Int × Int × (List Itm)) → Nat) (r0:Spk × Int):Prop:=
 Cl (valS_c s)
 (br ((valS s) != 0)
 (Rf (changeF_e ((⟨0,0,0,[],[]⟩:Spk),valS s)) (((⟨0,0,0,[],[]⟩:Spk),valS s) = r0))
 (Cl (applyW_c [] changes)
 (br (((applyW [] changes).2) != 0)
 (Rf (changeF_e ((⟨0,0,0,[],[]⟩:Spk),(applyW [] changes).2)) (((⟨0,0,0,[],[]⟩:Spk),(applyW [] changes).2) = r0))
 (∃ h1:okItms s.items,
 Ch (copied_h s.items 0 h1) [] 304
 (∃ h2:s.peers.length ≤ 1000000,
 Ch (cloneP_h s.peers h2) [] 352
 (Rf ((without 0 s.items).map Itm.v) (Rf (s.peers.map Per.v) (Nf (changeF_n0 s changes (0,s.last,without 0 s.items)) [0,16] (I0 (0,s.last,without 0 s.items)) ∧ ∀ t0:Int × Int × (List Itm),I0 t0 →
 br (decide (t0.1 < ((changes.map Wnt.v).length:Int)))
 (Rf (changes.map Wnt.v) (ck (decide (0 ≤ t0.1)) (ck (decide (t0.1 < (changes.length:Int)))
 (∀ x3,changes[t0.1.toNat]? = some x3 →
 Cl (toldF_c t0.2.2 x3.grp)
 (Cl (PSame_c (toldF t0.2.2 x3.grp) (⟨x3.mode,x3.srcs⟩:Flt))
 (br (PSame (toldF t0.2.2 x3.grp) (⟨x3.mode,x3.srcs⟩:Flt))
 (Nf (changeF_n0 s changes (W (t0.1 + 1),t0.2.1,t0.2.2)) [0,1] (I0 (W (t0.1 + 1),t0.2.1,t0.2.2) ∧ m0 (W (t0.1 + 1),t0.2.1,t0.2.2) < m0 t0))
 (br (t0.2.1 == 1000000)
 (Rf (changeF_e ((⟨0,0,0,[],[]⟩:Spk),3)) (((⟨0,0,0,[],[]⟩:Spk),3) = r0))
 (∃ h4:okItms t0.2.2,
 Ch (copied_h t0.2.2 x3.grp h4) [] 402
 (∃ h5:(⟨x3.mode,x3.srcs⟩:Flt).srcs.length ≤ 1000000,
 Cl (filtered_c (⟨x3.mode,x3.srcs⟩:Flt) h5)
 (Rf (α:=List AV) ((without x3.grp t0.2.2).map Itm.v) (Rf (α:=List AV) [.agg [.int (W (t0.2.1 + 1)),.int x3.grp,.int x3.mode,.sl 1 (x3.srcs.map AV.int) false]]
 (ck (decide ((without x3.grp t0.2.2).length + 1 ≤ 1000000))
 (Rf (((without x3.grp t0.2.2) ++ [(⟨W (t0.2.1 + 1),x3.grp,x3.mode,x3.srcs⟩:Itm)]).map Itm.v) (Nf (changeF_n0 s changes (W (t0.1 + 1),W (t0.2.1 + 1),(without x3.grp t0.2.2) ++ [(⟨W (t0.2.1 + 1),x3.grp,x3.mode,x3.srcs⟩:Itm)])) [0,1] (I0 (W (t0.1 + 1),W (t0.2.1 + 1),(without x3.grp t0.2.2) ++ [(⟨W (t0.2.1 + 1),x3.grp,x3.mode,x3.srcs⟩:Itm)]) ∧ m0 (W (t0.1 + 1),W (t0.2.1 + 1),(without x3.grp t0.2.2) ++ [(⟨W (t0.2.1 + 1),x3.grp,x3.mode,x3.srcs⟩:Itm)]) < m0 t0)))))))))))))))
 (Rf (changeF_e ((⟨s.router,s.epoch,t0.2.1,t0.2.2,s.peers⟩:Spk),0)) (((⟨s.router,s.epoch,t0.2.1,t0.2.2,s.peers⟩:Spk),0) = r0))))))))))
theorem changeF_eq (s:Spk) (changes:(List Wnt)) (I0:(Int × Int × (List Itm)) → Prop) (m0:(Int × Int × (List Itm)) → Nat) (r0:Spk × Int):mxP Tryz.prog 16 [.agg [.int s.router,.int s.epoch,.int s.last,.sl 4 (s.items.map Itm.v) false,.sl 3 (s.peers.map Per.v) false],.sl 3 (changes.map Wnt.v) false] (.a [(.a [.k,.k,.k,(.s 4),(.s 3)]),.k]) changeF_e ((.callP (valS_c s)
 (.br 128 (.ret ((⟨0,0,0,[],[]⟩:Spk),valS s))
 (.callP (applyW_c [] changes)
 (.br 272 (.ret ((⟨0,0,0,[],[]⟩:Spk),(applyW [] changes).2))
 (.req 304 (okItms s.items) fun h1 =>
 (.callH [] (copied_h s.items 0 h1)
 (.req 352 (s.peers.length ≤ 1000000) fun h2 =>
 (.callH [] (cloneP_h s.peers h2)
 (.cmd (.frzE 304 ((without 0 s.items).map Itm.v) (pureBL_map (fun _=>rfl) (without 0 s.items))) (.cmd (.frzE 352 (s.peers.map Per.v) (pureBL_map (fun _=>rfl) s.peers)) (.loop 0 (changeF_n0 s changes) (I0) (m0) ((0,s.last,without 0 s.items):Int × Int × (List Itm)) [0,16] fun (t0:Int × Int × (List Itm)) =>
 (.br 18 (.el 18 Wnt.v changes fun x3 =>
 (.callP (toldF_c t0.2.2 x3.grp)
 (.callP (PSame_c (toldF t0.2.2 x3.grp) (⟨x3.mode,x3.srcs⟩:Flt))
 (.br 210 (.back 0 ((W (t0.1 + 1),t0.2.1,t0.2.2):Int × Int × (List Itm)) [0,1])
 (.br 258 (.ret ((⟨0,0,0,[],[]⟩:Spk),3))
 (.req 402 (okItms t0.2.2) fun h4 =>
 (.callH [] (copied_h t0.2.2 x3.grp h4)
 (.req 514 ((⟨x3.mode,x3.srcs⟩:Flt).srcs.length ≤ 1000000) fun h5 =>
 (.callP (filtered_c (⟨x3.mode,x3.srcs⟩:Flt) h5)
 (.app 562 Itm.v (without x3.grp t0.2.2) [(⟨W (t0.2.1 + 1),x3.grp,x3.mode,x3.srcs⟩:Itm)]
 (.cmd (.frzE 562 (((without x3.grp t0.2.2) ++ [(⟨W (t0.2.1 + 1),x3.grp,x3.mode,x3.srcs⟩:Itm)]).map Itm.v) (pureBL_map (fun _=>rfl) ((without x3.grp t0.2.2) ++ [(⟨W (t0.2.1 + 1),x3.grp,x3.mode,x3.srcs⟩:Itm)]))) (.back 0 ((W (t0.1 + 1),W (t0.2.1 + 1),(without x3.grp t0.2.2) ++ [(⟨W (t0.2.1 + 1),x3.grp,x3.mode,x3.srcs⟩:Itm)]):Int × Int × (List Itm)) [0,1]))))))))))))
 (.ret ((⟨s.router,s.epoch,t0.2.1,t0.2.2,s.peers⟩:Spk),0)))))))))))))):An Tryz.prog changeF_s (Spk × Int)) r0 = changeF_vc s changes I0 m0 r0:=by kernel_rfl
theorem changeF_ok (s:Spk) (changes:(List Wnt)) (I0:(Int × Int × (List Itm)) → Prop) (m0:(Int × Int × (List Itm)) → Nat) (r0:Spk × Int) (h:changeF_vc s changes I0 m0 r0):PSpec Tryz.prog 16 [.agg [.int s.router,.int s.epoch,.int s.last,.sl 4 (s.items.map Itm.v) false,.sl 3 (s.peers.map Per.v) false],.sl 3 (changes.map Wnt.v) false] (changeF_e r0):=by
  have e:=changeF_eq s changes I0 m0 r0
  rw [← e] at h
  exact mxP_ok (enc:=changeF_e) h (AV.pureB_ok rfl)
theorem changeF_p (s:Spk) (c:List Wnt) (ok:changeF_a s c):∃ I m,changeF_vc s c I m (change s c):=by
  simp only [changeF_a,okU,Blk.ok,plainV,List.length_map] at ok
  refine ⟨fun t=>t.2.1 ≤ 1000000 ∧ ∃ k:Nat,t.1 = k ∧ k ≤ c.length ∧ t.2 = (c.take k).foldl chg1 (s.last,s.items),fun t=>c.length - t.1.toNat,?_⟩
  simp only [changeF_vc,vcU,rfU,List.length_map]
  by_cases hs:spkOk s
  case neg=>simp [change,valS,errIf,hs,spk0]
  rw [applyW_err]
  by_cases hc:wErr true c = 0
  case neg=>simp [change,valS,errIf,hs,hc,spk0]
  have fin:change s c = if 1000000 < (c.foldl chg1 (s.last,s.items)).1 then (spk0,3)
      else (⟨s.router,s.epoch,(c.foldl chg1 (s.last,s.items)).1,(c.foldl chg1 (s.last,s.items)).2,s.peers⟩,0):=by
    rw [change,if_neg (not_not_intro hs),if_neg (not_not_intro hc)]
  have hco:=chgOk_of hc
  have hl0:=hs.2.2.1
  have hpl:=hs.2.2.2.2.1
  refine ⟨fun e=>by simp [valS,errIf,hs] at e,fun _=>⟨fun e=>by simp [hc] at e,fun _=>⟨okItms_of hs.2.2.2.1,by omega,?_⟩⟩⟩
  rw [without_zero hs.2.2.2.1]
  refine ⟨⟨hl0.2,0,rfl,by omega,rfl⟩,?_⟩
  rintro ⟨_,n,l⟩ ⟨hn,k,rfl,hk,hf⟩
  simp only [Int.toNat_natCast] at *
  have st:=chg_ok (c:=c.take k) hs.2.2.2.1 hl0.1 (fun w hw=>hco w (List.mem_of_mem_take hw))
  rw [← hf] at st
  simp only at st
  refine ⟨fun h1=>⟨by omega,by omega,fun w hw=>?_⟩,fun h1=>?_⟩
  · have hwo:=hco w (mem_of_get hw)
    have hsl:=srcs_len hwo.2
    have hto:PSame (toldF l w.grp) ⟨w.mode,w.srcs⟩ = true ↔ told l w.grp = (w.mode,w.srcs):=by
      simp only [FSame,toldF,decide_eq_true_eq,flt_eq,Prod.ext_iff]
    have nx:(c.take (k + 1)).foldl chg1 (s.last,s.items) = chg1 (n,l) w:=by
      rw [take_succ hw,List.foldl_append,← hf]; rfl
    have tl:c.foldl chg1 (s.last,s.items) = (c.drop (k + 1)).foldl chg1 (chg1 (n,l) w):=by
      rw [← nx,← List.foldl_append,List.take_append_drop]
    rw [W_succ (n:=c.length) (by omega) (by omega)]
    refine ⟨fun e=>⟨⟨hn,k + 1,rfl,by omega,?_⟩,by omega⟩,fun e=>⟨fun e2=>?_,fun e2=>?_⟩⟩
    · rw [nx,chg1,if_pos (hto.mp e)]
    · have e2:n = 1000000:=by simpa using e2
      have h3:chg1 (n,l) w = (n + 1,put1 l ⟨n + 1,w.grp,w.mode,w.srcs⟩):=by
        rw [chg1,if_neg (fun h=>by rw [hto.mpr h] at e; cases e)]
      have g:=chg1_ok (n:=n) (l:=l) (w:=w) st.1 st.2.2.2 hwo
      have:=(chg_ok (c:=c.drop (k + 1)) g.1 g.2.2.2 (fun w hw=>hco w (List.mem_of_mem_drop hw))).2.1.1
      rw [fin,if_pos]
      · rfl
      · rw [tl]
        rw [h3] at this ⊢
        simp only at this
        omega
    · have e2:¬ n = 1000000:=by simpa using e2
      have h3:chg1 (n,l) w = (n + 1,put1 l ⟨n + 1,w.grp,w.mode,w.srcs⟩):=by
        rw [chg1,if_neg (fun h=>by rw [hto.mpr h] at e; cases e)]
      have hok:=okItms_of st.1
      have hwl:(Go.Proofs.YtglfecmdoekabaaGreat.without w.grp l).length ≤ 900000:=Nat.le_trans (List.length_filter_le _ _) hok.1
      rw [W_eq (by omega)]
      refine ⟨hok,by show w.srcs.length ≤ _; omega,by omega,⟨by omega,k + 1,rfl,by omega,?_⟩,by omega⟩
      rw [nx,h3]; rfl
  · have hk:k = c.length:=by omega
    subst hk
    rw [List.take_length] at hf
    rw [fin,← hf,if_neg (by simp only; omega)]
def change_c (s:Spk) (changes:(List Wnt)):PC Tryz.prog:=⟨16,[(.a [.k,.k,.k,(.s 4),(.s 3)]),(.s 3)],[.agg [.int s.router,.int s.epoch,.int s.last,.sl 4 (s.items.map Itm.v) false,.sl 3 (s.peers.map Per.v) false],.sl 3 (changes.map Wnt.v) false],changeF_e (change s changes),PSpec.of_ok fun ok=>(changeF_p s changes ok).elim fun I0 h=>h.elim fun m0 h=>changeF_ok s changes I0 m0 _ h,fnB_ok (by kernel_rfl)⟩
end Go.Proofs.YtglfecmdoekabaaGreat

namespace Go.Proofs.YtglfecmdoekabaaGreat
open Go Go.Am
set_option linter.unusedVariables false
set_option linter.unusedSimpArgs false
structure ES where
  e:Int
  a:Spk
  l:Lsn
  air:List Sig
  p:Nat
def es0 (p:Nat):ES:=⟨0,⟨1,1,0,[],[⟨2,0,0⟩]⟩,⟨2,1,[]⟩,[],p⟩
theorem Inv.sub {k:Nat} {a:Spk} {l:Lsn} {air air':List Sig} (h:Inv k a l air) (h1:∀ x ∈ air',x ∈ air) (h2:air'.length ≤ air.length):Inv k a l air':=
  { h with fly:=fun x hx=>h.fly x (h1 x hx),len:=by have:=h.len; omega }
end Go.Proofs.YtglfecmdoekabaaGreat

namespace Go.Proofs.YtglfecmdoekabaaGreat
open Go Go.Am
set_option linter.unusedVariables false
set_option linter.unusedSimpArgs false
def ES.res (L:List Int) (s:ES):Tap × Spk × Lsn × Bool:=(⟨L,s.p⟩,s.a,s.l,s.e == 0)
end Go.Proofs.YtglfecmdoekabaaGreat

namespace Go.Proofs.YtglfecmdoekabaaGreat
open Go Go.Am
set_option linter.unusedVariables false
set_option linter.unusedSimpArgs false
def awake_a:Prop:=okL []
def awake_s:Nat → Type
  | _=>Unit
def awake_e (r:Bool):AV:=.bool r
def awake_vc (r0:Bool):Prop:=
 ∃ h1:[2].length ≤ 1000000,
 Cl (new_c 1 1 [2] h1)
 (Cl ((change_c ((new 1 1 [2]).1) [(⟨4,2,[]⟩:Wnt),(⟨7,2,[]⟩:Wnt)]).wsh [.a [.k,.k,.k,(.s 4),(.s 3)],.v (.a [.k,.k,(.s 1)])])
 (Cl ((change_c ((change ((new 1 1 [2]).1) [(⟨4,2,[]⟩:Wnt),(⟨7,2,[]⟩:Wnt)]).1) [(⟨4,1,[]⟩:Wnt)]).wsh [.a [.k,.k,.k,(.s 4),(.s 3)],.v (.a [.k,.k,(.s 1)])])
 (Cl (send_c ((change ((change ((new 1 1 [2]).1) [(⟨4,2,[]⟩:Wnt),(⟨7,2,[]⟩:Wnt)]).1) [(⟨4,1,[]⟩:Wnt)]).1) 2)
 (br (((new 1 1 [2]).2) == 0)
 (br (((change ((new 1 1 [2]).1) [(⟨4,2,[]⟩:Wnt),(⟨7,2,[]⟩:Wnt)]).2) == 0)
 (br (((change ((change ((new 1 1 [2]).1) [(⟨4,2,[]⟩:Wnt),(⟨7,2,[]⟩:Wnt)]).1) [(⟨4,1,[]⟩:Wnt)]).2) == 0)
 (br (((send ((change ((change ((new 1 1 [2]).1) [(⟨4,2,[]⟩:Wnt),(⟨7,2,[]⟩:Wnt)]).1) [(⟨4,1,[]⟩:Wnt)]).1) 2).2) == 0)
 (br (((((send ((change ((change ((new 1 1 [2]).1) [(⟨4,2,[]⟩:Wnt),(⟨7,2,[]⟩:Wnt)]).1) [(⟨4,1,[]⟩:Wnt)]).1) 2).1).map Sig.v).length:Int) == 3)
 (Rf (((send ((change ((change ((new 1 1 [2]).1) [(⟨4,2,[]⟩:Wnt),(⟨7,2,[]⟩:Wnt)]).1) [(⟨4,1,[]⟩:Wnt)]).1) 2).1).map Sig.v) (ck (decide (0 < (((send ((change ((change ((new 1 1 [2]).1) [(⟨4,2,[]⟩:Wnt),(⟨7,2,[]⟩:Wnt)]).1) [(⟨4,1,[]⟩:Wnt)]).1) 2).1).length:Int)))
 (∀ x2,((send ((change ((change ((new 1 1 [2]).1) [(⟨4,2,[]⟩:Wnt),(⟨7,2,[]⟩:Wnt)]).1) [(⟨4,1,[]⟩:Wnt)]).1) 2).1)[0]? = some x2 →
 br (x2.kind == 1)
 (Rf (((send ((change ((change ((new 1 1 [2]).1) [(⟨4,2,[]⟩:Wnt),(⟨7,2,[]⟩:Wnt)]).1) [(⟨4,1,[]⟩:Wnt)]).1) 2).1).map Sig.v) (ck (decide (0 < (((send ((change ((change ((new 1 1 [2]).1) [(⟨4,2,[]⟩:Wnt),(⟨7,2,[]⟩:Wnt)]).1) [(⟨4,1,[]⟩:Wnt)]).1) 2).1).length:Int)))
 (∀ x3,((send ((change ((change ((new 1 1 [2]).1) [(⟨4,2,[]⟩:Wnt),(⟨7,2,[]⟩:Wnt)]).1) [(⟨4,1,[]⟩:Wnt)]).1) 2).1)[0]? = some x3 →
 br (x3.ver == 3)
 (Rf (((send ((change ((change ((new 1 1 [2]).1) [(⟨4,2,[]⟩:Wnt),(⟨7,2,[]⟩:Wnt)]).1) [(⟨4,1,[]⟩:Wnt)]).1) 2).1).map Sig.v) (ck (decide (1 < (((send ((change ((change ((new 1 1 [2]).1) [(⟨4,2,[]⟩:Wnt),(⟨7,2,[]⟩:Wnt)]).1) [(⟨4,1,[]⟩:Wnt)]).1) 2).1).length:Int)))
 (∀ x4,((send ((change ((change ((new 1 1 [2]).1) [(⟨4,2,[]⟩:Wnt),(⟨7,2,[]⟩:Wnt)]).1) [(⟨4,1,[]⟩:Wnt)]).1) 2).1)[1]? = some x4 →
 br (x4.ver == 2)
 (Rf (((send ((change ((change ((new 1 1 [2]).1) [(⟨4,2,[]⟩:Wnt),(⟨7,2,[]⟩:Wnt)]).1) [(⟨4,1,[]⟩:Wnt)]).1) 2).1).map Sig.v) (ck (decide (1 < (((send ((change ((change ((new 1 1 [2]).1) [(⟨4,2,[]⟩:Wnt),(⟨7,2,[]⟩:Wnt)]).1) [(⟨4,1,[]⟩:Wnt)]).1) 2).1).length:Int)))
 (∀ x5,((send ((change ((change ((new 1 1 [2]).1) [(⟨4,2,[]⟩:Wnt),(⟨7,2,[]⟩:Wnt)]).1) [(⟨4,1,[]⟩:Wnt)]).1) 2).1)[1]? = some x5 →
 br (x5.prev == 0)
 (Rf (((send ((change ((change ((new 1 1 [2]).1) [(⟨4,2,[]⟩:Wnt),(⟨7,2,[]⟩:Wnt)]).1) [(⟨4,1,[]⟩:Wnt)]).1) 2).1).map Sig.v) (ck (decide (2 < (((send ((change ((change ((new 1 1 [2]).1) [(⟨4,2,[]⟩:Wnt),(⟨7,2,[]⟩:Wnt)]).1) [(⟨4,1,[]⟩:Wnt)]).1) 2).1).length:Int)))
 (∀ x6,((send ((change ((change ((new 1 1 [2]).1) [(⟨4,2,[]⟩:Wnt),(⟨7,2,[]⟩:Wnt)]).1) [(⟨4,1,[]⟩:Wnt)]).1) 2).1)[2]? = some x6 →
 br (x6.ver == 3)
 (Rf (((send ((change ((change ((new 1 1 [2]).1) [(⟨4,2,[]⟩:Wnt),(⟨7,2,[]⟩:Wnt)]).1) [(⟨4,1,[]⟩:Wnt)]).1) 2).1).map Sig.v) (ck (decide (2 < (((send ((change ((change ((new 1 1 [2]).1) [(⟨4,2,[]⟩:Wnt),(⟨7,2,[]⟩:Wnt)]).1) [(⟨4,1,[]⟩:Wnt)]).1) 2).1).length:Int)))
 (∀ x7,((send ((change ((change ((new 1 1 [2]).1) [(⟨4,2,[]⟩:Wnt),(⟨7,2,[]⟩:Wnt)]).1) [(⟨4,1,[]⟩:Wnt)]).1) 2).1)[2]? = some x7 →
 Rf (awake_e (x7.prev == 2)) ((x7.prev == 2) = r0))))
 (Rf (awake_e (false)) ((false) = r0)))))
 (Rf (awake_e (false)) ((false) = r0)))))
 (Rf (awake_e (false)) ((false) = r0)))))
 (Rf (awake_e (false)) ((false) = r0)))))
 (Rf (awake_e (false)) ((false) = r0)))))
 (Rf (awake_e (false)) ((false) = r0)))
 (Rf (awake_e (false)) ((false) = r0)))
 (Rf (awake_e (false)) ((false) = r0)))
 (Rf (awake_e (false)) ((false) = r0)))
 (Rf (awake_e (false)) ((false) = r0))))))
theorem awake_eq (r0:Bool):mxP Tryz.prog 5 [] .k awake_e ((.req 80 ([2].length ≤ 1000000) fun h1 =>
 (.callP (new_c 1 1 [2] h1)
 (.callP ((change_c ((new 1 1 [2]).1) [(⟨4,2,[]⟩:Wnt),(⟨7,2,[]⟩:Wnt)]).wsh [.a [.k,.k,.k,(.s 4),(.s 3)],.v (.a [.k,.k,(.s 1)])])
 (.callP ((change_c ((change ((new 1 1 [2]).1) [(⟨4,2,[]⟩:Wnt),(⟨7,2,[]⟩:Wnt)]).1) [(⟨4,1,[]⟩:Wnt)]).wsh [.a [.k,.k,.k,(.s 4),(.s 3)],.v (.a [.k,.k,(.s 1)])])
 (.callP (send_c ((change ((change ((new 1 1 [2]).1) [(⟨4,2,[]⟩:Wnt),(⟨7,2,[]⟩:Wnt)]).1) [(⟨4,1,[]⟩:Wnt)]).1) 2)
 (.br 704 (.br 768 (.br 832 (.br 896 (.br 976 (.el 992 Sig.v ((send ((change ((change ((new 1 1 [2]).1) [(⟨4,2,[]⟩:Wnt),(⟨7,2,[]⟩:Wnt)]).1) [(⟨4,1,[]⟩:Wnt)]).1) 2).1) fun x2 =>
 (.br 1088 (.el 1104 Sig.v ((send ((change ((change ((new 1 1 [2]).1) [(⟨4,2,[]⟩:Wnt),(⟨7,2,[]⟩:Wnt)]).1) [(⟨4,1,[]⟩:Wnt)]).1) 2).1) fun x3 =>
 (.br 1200 (.el 1216 Sig.v ((send ((change ((change ((new 1 1 [2]).1) [(⟨4,2,[]⟩:Wnt),(⟨7,2,[]⟩:Wnt)]).1) [(⟨4,1,[]⟩:Wnt)]).1) 2).1) fun x4 =>
 (.br 1312 (.el 1328 Sig.v ((send ((change ((change ((new 1 1 [2]).1) [(⟨4,2,[]⟩:Wnt),(⟨7,2,[]⟩:Wnt)]).1) [(⟨4,1,[]⟩:Wnt)]).1) 2).1) fun x5 =>
 (.br 1424 (.el 1440 Sig.v ((send ((change ((change ((new 1 1 [2]).1) [(⟨4,2,[]⟩:Wnt),(⟨7,2,[]⟩:Wnt)]).1) [(⟨4,1,[]⟩:Wnt)]).1) 2).1) fun x6 =>
 (.br 1536 (.el 1552 Sig.v ((send ((change ((change ((new 1 1 [2]).1) [(⟨4,2,[]⟩:Wnt),(⟨7,2,[]⟩:Wnt)]).1) [(⟨4,1,[]⟩:Wnt)]).1) 2).1) fun x7 =>
 (.ret (x7.prev == 2)))
 (.ret (false))))
 (.ret (false))))
 (.ret (false))))
 (.ret (false))))
 (.ret (false))))
 (.ret (false)))
 (.ret (false)))
 (.ret (false)))
 (.ret (false)))
 (.ret (false)))))))):An Tryz.prog awake_s (Bool)) r0 = awake_vc r0:=by kernel_rfl
theorem awake_ok (r0:Bool) (h:awake_vc r0):PSpec Tryz.prog 5 [] (awake_e r0):=by
  have e:=awake_eq r0
  rw [← e] at h
  exact mxP_ok (enc:=awake_e) h (AV.pureB_ok rfl)
theorem awake_p (ok:awake_a):awake_vc true:=by
  simp only [awake_vc,vcU,rfU,List.length_map]
  have h0:new 1 1 [2] = (⟨1,1,0,[],[⟨2,0,0⟩]⟩,0):=by decide +kernel
  have h1:change ⟨1,1,0,[],[⟨2,0,0⟩]⟩ [⟨4,2,[]⟩,⟨7,2,[]⟩] = (⟨1,1,2,[⟨1,4,2,[]⟩,⟨2,7,2,[]⟩],[⟨2,0,0⟩]⟩,0):=by decide +kernel
  have h2:change ⟨1,1,2,[⟨1,4,2,[]⟩,⟨2,7,2,[]⟩],[⟨2,0,0⟩]⟩ [⟨4,1,[]⟩] = (⟨1,1,3,[⟨2,7,2,[]⟩,⟨3,4,1,[]⟩],[⟨2,0,0⟩]⟩,0):=by decide +kernel
  have h3:send ⟨1,1,3,[⟨2,7,2,[]⟩,⟨3,4,1,[]⟩],[⟨2,0,0⟩]⟩ 2 = ([⟨1,1,2,1,3,0,0,0,0,[]⟩,⟨2,1,2,1,2,0,0,7,2,[]⟩,⟨2,1,2,1,3,2,0,4,1,[]⟩],0):=by decide +kernel
  rw [h0,h1,h2,h3]
  simp
def awake_c:PC Tryz.prog:=⟨5,[],[],awake_e true,PSpec.of_ok fun ok=>awake_ok _ (awake_p ok),fnB_ok (by kernel_rfl)⟩
end Go.Proofs.YtglfecmdoekabaaGreat

namespace Go.Proofs.YtglfecmdoekabaaGreat
open Go Go.Am
set_option linter.unusedVariables false
set_option linter.unusedSimpArgs false
def from1 (f:Int → Int × List Int) (g:Int):List Wnt:=if f g = (1,[]) then [] else [⟨g,(f g).1,(f g).2⟩]
def fromF (f:Int → Int × List Int):Nat → List Wnt
  | 0=>[]
  | n + 1=>fromF f n ++ from1 f (n + 1)
def wantsOf (l:List Itm):List Wnt:=if itmsOk 1000000 l then fromF (told l) 99 else []
theorem mem_from1 {f:Int → Int × List Int} {g:Int} {w:Wnt}:w ∈ from1 f g ↔ w.grp = g ∧ f w.grp = (w.mode,w.srcs) ∧ f w.grp ≠ (1,[]):=by
  unfold from1
  split
  · rename_i e
    simp only [List.not_mem_nil,false_iff]
    rintro ⟨rfl,_,h⟩; exact h e
  · rename_i e
    rw [List.mem_singleton]
    constructor
    · rintro rfl; exact ⟨rfl,rfl,e⟩
    · rintro ⟨rfl,h1,_⟩
      rw [h1]
theorem mem_fromF {f:Int → Int × List Int} {w:Wnt}:∀ {n:Nat},w ∈ fromF f n ↔ (1 ≤ w.grp ∧ w.grp ≤ n) ∧ f w.grp = (w.mode,w.srcs) ∧ f w.grp ≠ (1,[])
  | 0=>by simp only [fromF,List.not_mem_nil,false_iff]; rintro ⟨h,_⟩; omega
  | n + 1=>by
    rw [fromF,List.mem_append,mem_fromF (n:=n),mem_from1]
    constructor
    · rintro (⟨h1,h2⟩ | ⟨h1,h2⟩)
      · exact ⟨by omega,h2⟩
      · exact ⟨by omega,h2⟩
    · rintro ⟨h1,h2⟩
      by_cases e:w.grp = ((n + 1:Nat):Int)
      · exact .inr ⟨by omega,h2⟩
      · exact .inl ⟨by omega,h2⟩
theorem fromF_asc {f:Int → Int × List Int}:∀ n:Nat,(fromF f n).Pairwise fun x y=>x.grp < y.grp
  | 0=>List.Pairwise.nil
  | n + 1=>by
    refine List.pairwise_append.mpr ⟨fromF_asc n,?_,fun a ha b hb=>?_⟩
    · unfold from1; split
      · exact List.Pairwise.nil
      · exact List.pairwise_singleton _ _
    · have:=(mem_fromF.mp ha).1
      have:=(mem_from1.mp hb).1
      omega
theorem ascW_ext:∀ {a b:List Wnt},a.Pairwise (fun x y=>x.grp < y.grp) → b.Pairwise (fun x y=>x.grp < y.grp) → (∀ x,x ∈ a ↔ x ∈ b) → a = b:=by
  intro a
  induction a with
  | nil =>
    intro b _ _ h
    cases b with
    | nil=>rfl
    | cons y b=>exact absurd ((h y).mpr (by simp)) (by simp)
  | cons x a ih =>
    intro b ha hb h
    cases b with
    | nil=>exact absurd ((h x).mp (by simp)) (by simp)
    | cons y b =>
      rw [List.pairwise_cons] at ha hb
      have hxy:x = y:=by
        refine Classical.byContradiction fun hne=>?_
        have h1:x ∈ b:=(List.mem_cons.mp ((h x).mp (by simp))).resolve_left hne
        have h2:y ∈ a:=(List.mem_cons.mp ((h y).mpr (by simp))).resolve_left (Ne.symm hne)
        have:=ha.1 y h2
        have:=hb.1 x h1
        omega
      subst hxy
      rw [ih ha.2 hb.2 fun z=>?_]
      constructor
      · intro hz
        refine (List.mem_cons.mp ((h z).mp (by simp [hz]))).resolve_left fun e=>?_
        subst e
        have:=ha.1 z hz
        omega
      · intro hz
        refine (List.mem_cons.mp ((h z).mpr (by simp [hz]))).resolve_left fun e=>?_
        subst e
        have:=hb.1 z hz
        omega
theorem told_in {l:List Itm} (h:(l.map Itm.grp).Nodup) {x:Itm} (hx:x ∈ l):told l x.grp = (x.mode,x.srcs):=by
  unfold told
  cases e:l.find? fun y=>decide (y.grp = x.grp) with
  | none=>rw [List.find?_eq_none] at e; exact absurd (e x hx) (by simp)
  | some y =>
    have h1:=List.mem_of_find?_eq_some e
    have h2:=List.find?_some e
    rw [Nodup.grp h h1 hx (by simpa using h2)]
theorem told_no {l:List Itm} {g:Int} (h:∀ x ∈ l,x.grp ≠ g):told l g = (1,[]):=by
  unfold told
  rw [List.find?_eq_none.mpr (fun x hx=>by simpa using h x hx)]
theorem told_some {l:List Itm} {g:Int} (h:told l g ≠ (1,[])):∃ x ∈ l,x.grp = g ∧ told l g = (x.mode,x.srcs):=by
  unfold told at h ⊢
  cases e:l.find? fun y=>decide (y.grp = g) with
  | none=>rw [e] at h; exact absurd rfl h
  | some y=>exact ⟨y,List.mem_of_find?_eq_some e,by simpa using List.find?_some e,rfl⟩
def find2 (l:List Wnt) (g:Int):Int × List Int:=((findW l g).mode,(findW l g).srcs)
theorem findW_in {l:List Wnt} (h:l.Pairwise fun x y=>x.grp < y.grp) {w:Wnt} (hw:w ∈ l):findW l w.grp = ⟨w.mode,w.srcs⟩:=by
  unfold findW
  cases e:l.find? fun y=>decide (y.grp = w.grp) with
  | none=>rw [List.find?_eq_none] at e; exact absurd (e w hw) (by simp)
  | some y =>
    have h1:=List.mem_of_find?_eq_some e
    have h2:y.grp = w.grp:=by simpa using List.find?_some e
    have:y = w:=by
      obtain ⟨i,hi,rfl⟩:=List.mem_iff_getElem.mp h1
      obtain ⟨j,hj,rfl⟩:=List.mem_iff_getElem.mp hw
      rw [List.pairwise_iff_getElem] at h
      rcases Nat.lt_trichotomy i j with g | g | g
      · have:=h i j hi hj g; omega
      · subst g; rfl
      · have:=h j i hj hi g; omega
    rw [this]
theorem findW_some {l:List Wnt} {g:Int} (h:findW l g ≠ ⟨1,[]⟩):∃ w ∈ l,w.grp = g ∧ findW l g = ⟨w.mode,w.srcs⟩:=by
  unfold findW at h ⊢
  cases e:l.find? fun y=>decide (y.grp = g) with
  | none=>rw [e] at h; exact absurd rfl h
  | some y=>exact ⟨y,List.mem_of_find?_eq_some e,by simpa using List.find?_some e,rfl⟩
theorem find2_ne {l:List Wnt} {g:Int}:find2 l g ≠ (1,[]) ↔ findW l g ≠ ⟨1,[]⟩:=by
  unfold find2
  cases findW l g
  simp
end Go.Proofs.YtglfecmdoekabaaGreat

namespace Go.Proofs.YtglfecmdoekabaaGreat
open Go Go.Am
set_option linter.unusedVariables false
set_option linter.unusedSimpArgs false
theorem change_val {s:Spk} {c:List Wnt} (h:(change s c).2 = 0):spkOk s ∧ wErr true c = 0 ∧ ¬ 1000000 < (c.foldl chg1 (s.last,s.items)).1 ∧
    change s c = (⟨s.router,s.epoch,(c.foldl chg1 (s.last,s.items)).1,(c.foldl chg1 (s.last,s.items)).2,s.peers⟩,0):=by
  unfold change at h ⊢
  by_cases h1:spkOk s
  case neg=>rw [if_pos h1] at h; simp at h
  by_cases h2:wErr true c = 0
  case neg=>rw [if_neg (not_not_intro h1),if_pos h2] at h; exact absurd h h2
  by_cases h3:1000000 < (c.foldl chg1 (s.last,s.items)).1
  case pos=>rw [if_neg (not_not_intro h1),if_neg (not_not_intro h2),if_pos h3] at h; simp at h
  rw [if_neg (not_not_intro h1),if_neg (not_not_intro h2),if_neg h3]
  exact ⟨h1,h2,h3,rfl⟩
theorem change_spkOk {s:Spk} {c:List Wnt} (h:(change s c).2 = 0):spkOk (change s c).1:=by
  obtain ⟨h1,h2,h3,e⟩:=change_val h
  rw [e]
  obtain ⟨p1,p2,p3,p4,p5,p6,p7⟩:=h1
  obtain ⟨q1,q2,q3,q4⟩:=chg_ok p4 p3.1 (chgOk_of h2)
  refine ⟨p1,p2,⟨q4,by simp only; omega⟩,q1,p5,fun p hp=>?_,p7⟩
  obtain ⟨r1,r2,r3,r4⟩:=p6 p hp
  exact ⟨r1,r2,r3,r4.1,by have:=q2.le; simp only; omega⟩
theorem restart_val {s:Spk} {w:List Wnt} (h:(restart s w).2 = 0):spkOk s ∧ wErr false w = 0 ∧ s.epoch ≠ 1000000 ∧
    restart s w = (⟨s.router,s.epoch + 1,w.length,w.mapIdx wItm,s.peers.map fun p=>⟨p.router,0,0⟩⟩,0):=by
  unfold restart at h ⊢
  by_cases h1:spkOk s
  case neg=>rw [if_pos h1] at h; simp at h
  by_cases h2:wErr false w = 0
  case neg=>rw [if_neg (not_not_intro h1),if_pos h2] at h; exact absurd h h2
  by_cases h3:s.epoch = 1000000
  case pos=>rw [if_neg (not_not_intro h1),if_neg (not_not_intro h2),if_pos h3] at h; simp at h
  rw [if_neg (not_not_intro h1),if_neg (not_not_intro h2),if_neg h3]
  exact ⟨h1,h2,h3,rfl⟩
theorem restart_spkOk {s:Spk} {w:List Wnt} (h:(restart s w).2 = 0):spkOk (restart s w).1:=by
  obtain ⟨h1,h2,h3,e⟩:=restart_val h
  rw [e]
  obtain ⟨p1,p2,p3,p4,p5,p6,p7⟩:=h1
  obtain ⟨w1,_,_,_,w5⟩:=wErr_zero.mp h2
  refine ⟨p1,⟨by simp only; omega,by simp only; omega⟩,⟨by simp only; omega,by simp only; omega⟩,restart_items (chgOk_of h2) w5,by simpa using p5,fun q hq=>?_,?_⟩
  · obtain ⟨q',hq',rfl⟩:=List.mem_map.mp hq
    obtain ⟨r1,r2,_,_⟩:=p6 q' hq'
    exact ⟨r1,r2,⟨by simp,by simp⟩,by simp,by simp⟩
  · rw [List.pairwise_map]; exact p7
end Go.Proofs.YtglfecmdoekabaaGreat

namespace Go.Am
open Go.Proofs Go.Shelf Go.RowKit Go.Lib Go.Sort
set_option linter.unusedVariables false
set_option linter.unusedSimpArgs false
theorem flatL_eq {α:Type} [Inhabited α] (enc:α → List Value) (k:Nat) (k0:0 < k) (hk:∀ x,(enc x).length = k):∀ l:List α,
    (List.range (l.length * k)).map (fun t=>(enc l[t / k]!)[t % k]!) = l.flatMap enc
  | []=>by simp
  | x :: l=>by
    have ih:=flatL_eq enc k k0 hk l
    rw [List.flatMap_cons,← ih,List.length_cons,Nat.succ_mul,Nat.add_comm,List.range_add,List.map_append,List.map_map]
    congr 1
    · refine List.ext_getElem (by simp [hk]) fun i h1 h2=>?_
      have hi:i < k:=by simpa using h1
      simp [Nat.div_eq_of_lt hi,Nat.mod_eq_of_lt hi,h2]
    · refine List.map_congr_left fun t _=>?_
      simp [Function.comp,Nat.add_div_left t k0]
theorem flatK_list {α:Type} [Inhabited α] (enc:α → List Value) (k:Nat) (k0:0 < k) (hk:∀ x,(enc x).length = k) (d:Array α):(flatK enc k d).toList = d.toList.flatMap enc:=by
  rw [← flatL_eq enc k k0 hk d.toList]
  unfold flatK
  simp [List.getElem!_eq_getElem?_getD,Array.getElem!_eq_getD,Array.getD_eq_getD_getElem?]
section
variable {T : Type} (key : T → Int) (k : Nat)
structure SE where
  x:T
  cs:List Value
  ok:cs.length = k ∧ (∀ u ∈ cs,u.oneCell' = true) ∧ ∃ r,cs = .int .i64 (key x) :: r
variable {key k}
theorem SE.list {w:World} {A:Nat → Prop} {μ:Mu} {v:T → AV} (hv:∀ x,∃ cs,v x = .agg (.int (key x) :: cs)) :
    ∀ {l:List T} {vs:List Value},RVL w A (l.map v) μ vs → (∀ u ∈ vs,u.cells.size = k) → ∃ ds:List (SE key k),ds.map SE.x = l ∧ vs = ds.map (fun p=>.agg p.cs.toArray) ∧ ∀ p ∈ ds,RV w A (v p.x) μ (.agg p.cs.toArray)
  | [],vs,h,_=>⟨[],rfl,h,by simp⟩
  | x :: l,_,⟨u,vs,rfl,h1,h2⟩,hs=>by
    obtain ⟨ds,e1,e2,e3⟩:=SE.list hv h2 fun u hu=>hs u (List.mem_cons_of_mem _ hu)
    obtain ⟨cs,hc⟩:=hv x
    have h1':=h1
    rw [hc] at h1
    obtain ⟨us,rfl,g1,g2⟩:=h1
    obtain ⟨u0,us',rfl,g3,g4⟩:=g1
    obtain ⟨rfl,g5⟩:=g3
    have hl:(Value.int .i64 (key x) :: us').length = k:=by
      have:=hs _ (List.mem_cons_self ..)
      simpa [Value.cells] using this
    exact ⟨⟨x,.int .i64 (key x) :: us',hl,g2,us',rfl⟩ :: ds,by rw [List.map_cons,e1],by rw [List.map_cons,e2],fun p hp=>by
      rcases List.mem_cons.mp hp with rfl | hp
      · exact h1'
      · exact e3 p hp⟩
theorem SE.rvl {w:World} {A:Nat → Prop} {μ:Mu} {v:T → AV}:∀ {ds:List (SE key k)},(∀ p ∈ ds,RV w A (v p.x) μ (.agg p.cs.toArray)) → RVL w A ((ds.map SE.x).map v) μ (ds.map fun p=>.agg p.cs.toArray)
  | [],_=>rfl
  | p :: ds,h=>⟨_,_,rfl,h p (List.mem_cons_self ..),SE.rvl fun q hq=>h q (List.mem_cons_of_mem _ hq)⟩
end
theorem swo_key {T:Type} (key:T → Int):SWO (ltOf fun x y:T=>Lib.compareInt (key x) (key y)):=by
  have e:∀ x y:T,ltOf (fun x y:T=>Lib.compareInt (key x) (key y)) x y = decide (key x < key y):=fun x y=>by
    unfold ltOf Lib.compareInt
    by_cases h1:key x < key y
    · simp [h1]
    · by_cases h2:key y < key x <;> simp [h1,h2]
  refine ⟨fun x=>?_,fun x y z h1 h2=>?_,fun x y z h1 h2=>?_⟩
  · rw [e]; simp
  · rw [e] at *; simp at *; omega
  · rw [e] at *; simp at *; omega
theorem lt_key {T:Type} (key:T → Int) (x y:T):ltOf (fun x y:T=>Lib.compareInt (key x) (key y)) x y = decide (key x < key y):=by
  unfold ltOf Lib.compareInt
  by_cases h1:key x < key y
  · simp [h1]
  · by_cases h2:key y < key x <;> simp [h1,h2]
theorem sorted_unique {T:Type} {key:T → Int}:∀ {a b:List T},a.Perm b → a.Pairwise (fun x y=>key x ≤ key y) → b.Pairwise (fun x y=>key x < key y) → a = b
  | [],b,h,_,_=>(List.nil_perm.mp h).symm
  | x :: a,[],h,_,_=>absurd h.length_eq (by simp)
  | x :: a,y :: b,h,h1,h2=>by
    have hxy:x = y:=by
      have m1:=h.mem_iff.mp (List.mem_cons_self (a:=x) (l:=a))
      have m2:=h.mem_iff.mpr (List.mem_cons_self (a:=y) (l:=b))
      rcases List.mem_cons.mp m1 with e | m1
      · exact e
      rcases List.mem_cons.mp m2 with e | m2
      · exact e.symm
      have g1:=(List.pairwise_cons.mp h1).1 y m2
      have g2:=(List.pairwise_cons.mp h2).1 x m1
      omega
    subst hxy
    rw [sorted_unique ((List.perm_cons _).mp h) (List.pairwise_cons.mp h1).2 (List.pairwise_cons.mp h2).2]
theorem heap_sort {α:Type} [Inhabited α] {enc:α → List Value} {k:Nat} {w:World} {blk n:Nat} {d:Array α} {os:Array Obj} {C:Array Value} {ty:TypeId} (h:w.heap[blk]? = some (.cells C ty (0,0))) :
    (sortWorldK enc k w blk 0 n d os).heap[blk]? = some (.cells (putCells id 0 (flatK enc k d) C) ty (0,0)) ∧ (∀ b,b < w.heap.size → b ≠ blk → (sortWorldK enc k w blk 0 n d os).heap[b]? = w.heap[b]?) ∧
    w.heap.size ≤ (sortWorldK enc k w blk 0 n d os).heap.size:=by
  have hb:blk < w.heap.size:=(Array.getElem?_eq_some_iff.mp h).1
  have e:(sortWorldK enc k w blk 0 n d os).heap = w.heap.modify blk (onCells (putCells id 0 (flatK enc k d))) ++ os:=rfl
  rw [e]
  refine ⟨?_,fun b h1 h2=>?_,by simp⟩
  · rw [Array.getElem?_append_left (by simpa using hb),Array.getElem?_modify,if_pos rfl,h]; rfl
  · rw [Array.getElem?_append_left (by simpa using h1),Array.getElem?_modify,if_neg (Ne.symm h2)]
theorem put_take {F C:Array Value} (h:F.size ≤ C.size):(putCells id 0 F C).toList.take F.size = F.toList ∧ (putCells id 0 F C).size = C.size:=by
  have hs:(putCells id 0 F C).size = C.size:=by simp [putCells]
  refine ⟨List.ext_getElem (by simp [hs]; omega) fun i h1 h2=>?_,hs⟩
  have hi:i < F.size:=by simpa using h2
  simp [putCells,hi]
theorem sort_hspec {P:Program} {ρ:Ren} (L:SlLaysF0.n6 P ρ) {T:Type} (v:T → AV) (key:T → Int) (k:Nat) (k0:0 < k)
    (aE:∀ w,(isAgg (ρ.t 24)).run P w = .ok true w) (zE:∀ w,(Go.sizeOf (ρ.t 24)).run P w = .ok k w) (hv:∀ x,∃ cs,v x = .agg (.int (key x) :: cs))
    (g:Nat) (eg:∀ args w,(callFunc g args).run P w = .ok (.enter g args) w)
    (hcmp:∀ (a b:Int) (xs ys:List Value) (w:World),xs.length + 1 = k → ys.length + 1 = k → (∀ u ∈ xs,u.oneCell' = true) → (∀ u ∈ ys,u.oneCell' = true) →
      Calls P g #[.agg (Value.int .i64 a :: xs).toArray,.agg (Value.int .i64 b :: ys).toArray] w fun e w'=>e = .returned (.int .i64 (Lib.compareInt a b)) ∧ ∃ q os',w' = grow (w.drewN q) os')
    (l l':List T) (hp:l'.Perm l) (hs:l'.Pairwise fun x y=>key x < key y) (hl:l.length ≤ 1000000) :
    HSpec P (ρ.f 6) [.vec 0,.func g []] [.vec k (l.map v)] (.tup []) [some (.vec k (l'.map v))]:=by
  intro w A μ cargs hH hmu hargs
  obtain ⟨c0,_,rfl,h0,c1,_,rfl,h1,rfl⟩:=hargs
  obtain ⟨hd,hm,rfl⟩:=h0
  obtain ⟨_,rfl,rfl⟩:=h1
  obtain ⟨hd',hm',hb,hA⟩:=hH.blk 0 _ rfl
  rw [hm] at hm'; cases hm'
  obtain ⟨hk,hb⟩:=hb
  have none_:∀ p cap,hd.val = .slice p 0 cap → l = [] → Calls P (ρ.f 6) [hd.val,Value.func (.func g) #[] ([]:List Value).toArray].toArray w fun e w'=>∃ v_1 A' μ',e = .returned v_1 ∧ RV w' A' (.tup []) μ' v_1 ∧ HeapOk P w' A' μ' (hpOf [some (.vec k (l'.map v))]) ∧ MuLe μ μ' ∧ Ext (ownOf μ (hpOf ([Blk.vec k (l.map v)].map some))) w w' ∧
      (∀ b,A b → A' b) ∧ (∀ b,A' b → A b ∨ ownOf μ (hpOf ([Blk.vec k (l.map v)].map some)) b ∨ w.heap.size ≤ b) ∧
      (∀ b,ownOf μ' (hpOf [some (.vec k (l'.map v))]) b → ownOf μ (hpOf ([Blk.vec k (l.map v)].map some)) b ∨ w.heap.size ≤ b):=by
    intro p cap e0 e1
    subst e1
    obtain rfl:=List.perm_nil.mp hp
    rw [e0]
    refine (AnyF.slices_SortFunc_none L p cap (.func (.func g) #[] #[]) w).mono ?_
    rintro e w' ⟨rfl,rfl⟩
    exact ⟨_,A,μ,rfl,⟨[],rfl,rfl⟩,hH,MuLe.refl _,⟨rfl,rfl,rfl,Nat.le_refl _,fun _ _ _=>rfl⟩,fun b h=>h,fun b h=>.inl h,fun b h=>.inl h⟩
  rcases hb with ⟨he,ha⟩ | ⟨he,hlen,hle,hcap,C,ty,vs,hheap,hrvl,hsol,hsz,hC,htake⟩
  · obtain ⟨a,ha⟩:=Option.isSome_iff_exists.mp ha
    exact none_ a 0 (by unfold Hd.val; rw [ha]) (by simpa using he)
  obtain ⟨ds,e1,rfl,e3⟩:=SE.list hv hrvl hsz
  have hval:hd.val = .slice (some ⟨hd.blk,0,none⟩) hd.len hd.cap:=by unfold Hd.val; rw [he]
  have hlen':hd.len = ds.length:=by rw [hlen,← e1]; simp
  match hds:ds with
  | []=>exact none_ _ _ (by rw [hval,hlen']; rfl) (by rw [← e1]; rfl)
  | p0 :: ds' =>
    rw [← hds] at e1 e3 htake hlen' hrvl hsz
    haveI:Inhabited (SE key k):=⟨p0⟩
    obtain ⟨nA,hblk⟩:=hA he
    have hk1:∀ x:SE key k,x.cs.length = k:=fun x=>x.ok.1
    have hC':C.toList.take (ds.length * k) = (flatK SE.cs k ds.toArray).toList:=by
      rw [flatK_list _ _ k0 hk1,← hlen',htake,List.flatMap_map]
      rfl
    have hsz':ds.length * k ≤ C.size:=by rw [← hlen']; exact Nat.le_trans (Nat.mul_le_mul_right _ hle) hC
    have hHK:HoldsK SE.cs k w hd.blk 0 ds.toArray:=by
      intro j hj
      have hj':j < ds.length * k:=by simpa using hj
      refine ⟨?_,by simp [World.frozen?,hheap]⟩
      have:(C.toList.take (ds.length * k))[j]? = (flatK SE.cs k ds.toArray).toList[j]?:=by rw [hC']
      rw [List.getElem?_take,if_pos hj'] at this
      simp only [World.cell?,hheap,Nat.zero_add,Option.isSome_none,Bool.false_eq_true,if_false,id]
      rw [getElem!_pos _ j hj,← Array.getElem?_eq_getElem hj]
      simpa using this
    have key_:=AnyQ.slices_SortFunc L k aE zE SE.cs hk1 (fun x=>x.ok.2.1) (fun x y=>Lib.compareInt (key x.x) (key y.x)) (swo_key fun p:SE key k=>key p.x) g #[] hd.blk 0 hd.cap ds.toArray w eg
      (fun m os dk _ x y=>by
        obtain ⟨rx,hx⟩:=x.ok.2.2
        obtain ⟨ry,hy⟩:=y.ok.2.2
        have lx:=x.ok.1; have ly:=y.ok.1
        have ox:=x.ok.2.1; have oy:=y.ok.2.1
        have ex:x.cs = .int .i64 (key x.x) :: rx:=hx
        have ey:y.cs = .int .i64 (key y.x) :: ry:=hy
        rw [hx] at lx ox; rw [hy] at ly oy
        rw [ex,ey,Array.append_empty]
        exact hcmp _ _ rx ry _ lx ly (fun u hu=>ox u (List.mem_cons_of_mem _ hu)) (fun u hu=>oy u (List.mem_cons_of_mem _ hu))) hHK hblk (by
        have:ds.length = l.length:=by rw [← e1]; simp
        show ds.length < _
        omega)
    rw [hval,hlen']
    refine key_.mono ?_
    rintro e w' ⟨rfl,d',n,os,⟨ps,-,pp⟩,hsrt,rfl⟩
    have pp:d'.toList.Perm ds:=by
      have q1:d'.extract 0 ds.toArray.size = d':=by rw [← ps]; simp
      have q2:ds.toArray.extract 0 ds.toArray.size = ds.toArray:=by simp
      rw [q1,q2] at pp
      simpa using pp
    have el:d'.toList.map SE.x = l':=by
      refine sorted_unique ((pp.map _).trans ?_) ?_ hs
      · rw [e1]; exact hp.symm
      · rw [List.pairwise_map,List.pairwise_iff_getElem]
        intro i j hi hj hij
        have hi':i < d'.size:=by simpa using hi
        have hj':j < d'.size:=by simpa using hj
        have:=hsrt i j (Nat.zero_le _) hij (by rw [← ps]; exact hj')
        rw [lt_key (fun p:SE key k=>key p.x),getElem!_pos _ j hj',getElem!_pos _ i hi'] at this
        simpa using this
    have len':d'.size = ds.length:=by rw [ps]; rfl
    obtain ⟨hp1,hp2,hp3⟩:=heap_sort (enc:=SE.cs) (k:=k) (n:=n) (d:=d') (os:=os) hheap
    have hF:(flatK SE.cs k d').size ≤ C.size:=by rw [size_flatK,len']; exact hsz'
    obtain ⟨q1,q2⟩:=put_take hF
    have same:Same A w (sortWorldK SE.cs k w hd.blk 0 n d' os):=fun b hb=>hp2 b (hH.lt b hb) (fun e=>nA (e ▸ hb))
    have own:ownOf μ (hpOf ([Blk.vec k (l.map v)].map some)) hd.blk:=⟨0,_,hd,rfl,hm,he,rfl⟩
    refine ⟨_,A,μ,rfl,⟨[],rfl,rfl⟩,⟨fun b x hx=>?_,fun b b' x x' hd1 hd2 hx hx' _ _ _ _ _=>?_,hH.lt.mono same (fun _ h=>h) fun b hb=>Nat.lt_of_lt_of_le (hH.lt b hb) hp3⟩,MuLe.refl _,
      ⟨rfl,rfl,rfl,hp3,fun b h1 h2=>hp2 b h1 fun e=>h2 (e ▸ own)⟩,fun _ h=>h,fun _ h=>.inl h,?_⟩
    · have hx0:b = 0:=by
        cases b with
        | zero=>rfl
        | succ b=>simp [hpOf] at hx
      subst hx0
      have hx:some (Blk.vec k (l'.map v)) = some x:=hx
      cases hx
      refine ⟨hd,hm,⟨hk,.inr ⟨he,?_,hle,hcap,_,ty,d'.toList.map (fun p=>.agg p.cs.toArray),hp1,?_,?_,?_,?_,?_⟩⟩,fun _=>⟨nA,Nat.lt_of_lt_of_le hblk hp3⟩⟩
      · rw [hlen',← el]; simp [len']
      · rw [← el]
        exact RVL.mono same (fun _ h=>h) _ (MuLe.refl _) (SE.rvl fun p hp=>e3 p (pp.mem_iff.mp hp))
      · intro x hx
        obtain ⟨y,_,rfl⟩:=List.mem_map.mp hx
        obtain ⟨cs,hc⟩:=hv y
        rw [hc]; rfl
      · intro u hu
        obtain ⟨p,_,rfl⟩:=List.mem_map.mp hu
        simpa [Value.cells] using hk1 p
      · rw [q2]; exact hC
      · have:=flatK_list SE.cs k k0 hk1 d'
        rw [size_flatK,len',← hlen'] at q1
        rw [q1,this,List.flatMap_map]
        rfl
    · have z:∀ {b x},hpOf [some (Blk.vec k (l'.map v))] b = some x → b = 0:=fun {b x} h=>by
        cases b with
        | zero=>rfl
        | succ b=>simp [hpOf] at h
      rw [z hx,z hx']
    · rintro b ⟨b',x,hd1,hx,hm1,he1,rfl⟩
      have hx0:b' = 0:=by
        cases b' with
        | zero=>rfl
        | succ b=>simp [hpOf] at hx
      subst hx0
      rw [hm] at hm1; cases hm1
      exact .inl own
end Go.Am
