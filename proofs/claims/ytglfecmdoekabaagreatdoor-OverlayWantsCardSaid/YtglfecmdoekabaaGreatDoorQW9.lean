/- Texts joined: G41. -/
import Derived.Test.YtglfecmdoekabaaGreatDoorQW8
namespace Go.Proofs.YtglfecmdoekabaaGreatDoor
open Go Go.Am
set_option linter.unusedVariables false
set_option linter.unusedSimpArgs false
def fltsT_a (L:(List Int)) (p:Nat) (n:Int):Prop:=okL [.ref 0 0,.int n] ∧ (.box (.agg [.sl 1 (L.map AV.int) false,.int ((p:Nat):Int)]):Blk).ok
def fltsT_n0 (L:(List Int)) (p:Nat) (n:Int) (t0:Int × Nat × (List Fau)):NF:=⟨[(0,.k,.ref 0 0),(1,.k,.int n),(5,.k,.vec 1),(6,.k,.int t0.1)],[.box (.agg [.sl 1 (L.map AV.int) false,.int ((t0.2.1:Nat):Int)]),.vec 2 (t0.2.2.map Fau.v) (pureBL_map (fun _=>rfl) t0.2.2)]⟩
def fltsT_s:Nat → Type
  | 0=>Int × Nat × (List Fau)
  | _=>Unit
def fltsT_e (r:Tap × (List Fau)):AV:=.sl 2 (r.2.map Fau.v) false
def fltsT_b (r:Tap × (List Fau)):List (Option Blk):=[some (.box (.agg [.sl 1 (r.1.L.map AV.int) false,.int ((r.1.p:Nat):Int)]))]
def fltsT_vc (L:(List Int)) (p:Nat) (n:Int) (I0:(Int × Nat × (List Fau)) → Prop) (m0:(Int × Nat × (List Fau)) → Nat) (r0:Tap × (List Fau)):Prop:=
 Ch (N_h L p 4) [0] 49
 (Nf (fltsT_n0 L p n (Mod (rawV L p) 4,rawP L p,[])) [0,81] (I0 (Mod (rawV L p) 4,rawP L p,[])) ∧ ∀ t0:Int × Nat × (List Fau),I0 t0 →
 br (decide (0 < t0.1))
 (Ch (Range_h L t0.2.1 0 5) [0] 66
 (Ch (N_h L (rawP L t0.2.1) (W (n + 2))) [0] 130
 (Rf (α:=List AV) (t0.2.2.map Fau.v) (Rf (α:=List AV) [.agg [.int (rng L t0.2.1 0 5),.int (Mod (rawV L (rawP L t0.2.1)) (W (n + 2)))]]
 (ck (decide (t0.2.2.length + 1 ≤ 1000000))
 (Nf (fltsT_n0 L p n (W (t0.1 - 1),rawP L (rawP L t0.2.1),t0.2.2 ++ [(⟨rng L t0.2.1 0 5,Mod (rawV L (rawP L t0.2.1)) (W (n + 2))⟩:Fau)])) [0,178] (I0 (W (t0.1 - 1),rawP L (rawP L t0.2.1),t0.2.2 ++ [(⟨rng L t0.2.1 0 5,Mod (rawV L (rawP L t0.2.1)) (W (n + 2))⟩:Fau)]) ∧ m0 (W (t0.1 - 1),rawP L (rawP L t0.2.1),t0.2.2 ++ [(⟨rng L t0.2.1 0 5,Mod (rawV L (rawP L t0.2.1)) (W (n + 2))⟩:Fau)]) < m0 t0)))))))
 (Rf (t0.2.2.map Fau.v) (Nf ⟨[(4,.k,.sl 2 (t0.2.2.map Fau.v) false)],[.box (.agg [.sl 1 (L.map AV.int) false,.int ((t0.2.1:Nat):Int)])]⟩ [0] (Rf (fltsT_e ((⟨L,t0.2.1⟩:Tap),t0.2.2)) (Rf (fltsT_b ((⟨L,t0.2.1⟩:Tap),t0.2.2)) (((⟨L,t0.2.1⟩:Tap),t0.2.2) = r0))))))
theorem fltsT_eq (L:(List Int)) (p:Nat) (n:Int) (I0:(Int × Nat × (List Fau)) → Prop) (m0:(Int × Nat × (List Fau)) → Nat) (r0:Tap × (List Fau)):mxH Tryz.prog 53 [.ref 0 0,.int n] [.box (.agg [.sl 1 (L.map AV.int) false,.int ((p:Nat):Int)])] (.s 2) fltsT_e fltsT_b ((.callH [0] (N_h L p 4)
 (.cmdL (.nilT 5 2) (.loop 0 (fltsT_n0 L p n) (I0) (m0) ((Mod (rawV L p) 4,rawP L p,[]):Int × Nat × (List Fau)) [0,81] fun (t0:Int × Nat × (List Fau)) =>
 (.br 34 (.callH [0] (Range_h L t0.2.1 0 5)
 (.callH [0] (N_h L (rawP L t0.2.1) (W (n + 2)))
 (.app 178 Fau.v t0.2.2 [(⟨rng L t0.2.1 0 5,Mod (rawV L (rawP L t0.2.1)) (W (n + 2))⟩:Fau)]
 (.back 0 ((W (t0.1 - 1),rawP L (rawP L t0.2.1),t0.2.2 ++ [(⟨rng L t0.2.1 0 5,Mod (rawV L (rawP L t0.2.1)) (W (n + 2))⟩:Fau)]):Int × Nat × (List Fau)) [0,178]))))
 (.cmdL (.frzE 1 (t0.2.2.map Fau.v) (pureBL_map (fun _=>rfl) t0.2.2)) (.retH ((⟨L,t0.2.1⟩:Tap),t0.2.2) ⟨[(4,.k,.sl 2 (t0.2.2.map Fau.v) false)],[.box (.agg [.sl 1 (L.map AV.int) false,.int ((t0.2.1:Nat):Int)])]⟩ [0])))))):An Tryz.prog fltsT_s (Tap × (List Fau))) r0 = fltsT_vc L p n I0 m0 r0:=by kernel_rfl
theorem fltsT_ok (L:(List Int)) (p:Nat) (n:Int) (I0:(Int × Nat × (List Fau)) → Prop) (m0:(Int × Nat × (List Fau)) → Nat) (r0:Tap × (List Fau)) (h:fltsT_vc L p n I0 m0 r0):HSpec Tryz.prog 53 [.ref 0 0,.int n] [.box (.agg [.sl 1 (L.map AV.int) false,.int ((p:Nat):Int)])] (fltsT_e r0) (fltsT_b r0):=by
  have e:=fltsT_eq L p n I0 m0 r0
  rw [← e] at h
  exact mxH_ok (enc:=fltsT_e) (hB:=fltsT_b) h
theorem fltsT_p (L:List Int) (p:Nat) (n:Int) (h:0 ≤ n ∧ n ≤ 1000000) (ok:fltsT_a L p n):∃ I m,fltsT_vc L p n I m ((⟨L,(faultsT L n p).2⟩:Tap),(faultsT L n p).1):=by
  have hm:=Mod_range (x:=rawV L p) (n:=4) (by omega)
  refine ⟨fun t=>∃ k:Nat,t.1 = k ∧ k ≤ 4 ∧ t.2.2.length + k ≤ 4 ∧ faultsL L n k t.2.2 t.2.1 = faultsT L n p,fun t=>t.1.toNat,?_⟩
  simp only [fltsT_vc,vcU,rfU,List.length_map]
  refine ⟨⟨(Mod (rawV L p) 4).toNat,by omega,by omega,by simp; omega,rfl⟩,?_⟩
  rintro ⟨i,q,out⟩ ⟨k,hk,hk4,hl,hf⟩
  simp only at hk hl hf
  subst hk
  simp only [Int.toNat_natCast]
  refine ⟨fun h1=>⟨by omega,?_,?_⟩,fun h1=>?_⟩
  · obtain ⟨j,rfl⟩:∃ j,k = j + 1:=⟨k - 1,by omega⟩
    rw [W_eq (by omega)]
    refine ⟨j,by omega,by omega,by simp; omega,?_⟩
    rw [faultsL] at hf
    exact hf
  · rw [W_eq (by omega)]; omega
  · have:k = 0:=by omega
    subst this
    rw [← hf]; rfl
def fltsT_h (L:(List Int)) (p:Nat) (n:Int) (h:0 ≤ n ∧ n ≤ 1000000):HC Tryz.prog:=⟨53,[.k,.k],[.ref 0 0,.int n],[.box (.agg [.sl 1 (L.map AV.int) false,.int ((p:Nat):Int)])],fltsT_e ((⟨L,(faultsT L n p).2⟩:Tap),(faultsT L n p).1),fltsT_b ((⟨L,(faultsT L n p).2⟩:Tap),(faultsT L n p).1),HSpec.of_okh fun ok ok2=>have ok:fltsT_a L p n:=⟨ok,ok2 _ (by simp)⟩; (fltsT_p L p n h ok).elim fun I0 h=>h.elim fun m0 h=>fltsT_ok L p n I0 m0 _ h,fnB_ok (by kernel_rfl),HcOk.of (by simp [hcB,belBL,AV.belB,allB,okBk,okBkO,fltsT_e,fltsT_b,pureBL_map (v:=AV.int) (fun _=>rfl)])⟩
def FitR {α:Type} (sh:Sh) (v:α → AV) (n:Nat) (z:AV) (x:α):Prop:=((List.replicate n z).map fun y=>y).map (fitA sh) = (List.replicate n x).map v
theorem fitR_ok {α:Type} {sh:Sh} {v:α → AV} {n:Nat} {z:AV} {x:α} (h:fitA sh z = v x):FitR sh v n z x:=by
  unfold FitR
  rw [map_idA,List.map_replicate,List.map_replicate,h]
def rds (o:Ovl):Nat → Ovl
  | 0=>o
  | n + 1=>round0 (rds o n)
theorem rds_ok {R:List Int} {o:Ovl} (h:OI R o):∀ n:Nat,OI R (rds o n) ∧ (rds o n).fl.length ≤ o.fl.length + n * 14400
  | 0=>⟨h,by simp [rds]⟩
  | n + 1=>by
    obtain ⟨h1,h2⟩:=rds_ok h n
    have e:=(h1.roundO []).2.len
    rw [h1.roundO_nil] at e
    simp only [List.length_nil] at e
    refine ⟨h1.round0,?_⟩
    rw [rds]; omega
theorem rds_lw {R:List Int} {o:Ovl} {k:Int} {lw:Int → List Wnt} (h:LW R o k lw):∀ n:Nat,LW R (rds o n) k lw
  | 0=>h
  | n + 1=>by
    have h1:=rds_lw h n
    have:=(h1.roundO []).2
    rw [h1.oi.roundO_nil] at this
    exact this
theorem rds_quiet {R:List Int} {o:Ovl} (h:OI R o):agreedP (rds o 4) ∧ settledP (rds o 5):=h.quiet
theorem set_lw {lw:Int → List Wnt} {i:Nat} {r:Int} {w:List Wnt} (h:([2,3,5]:List Int)[i]? = some r):(([2,3,5]:List Int).map lw).set i w = ([2,3,5]:List Int).map (upW lw r w):=by
  rcases i with _ | _ | _ | i
  · cases h; simp [upW]
  · cases h; simp [upW]
  · cases h; simp [upW]
  · simp at h
def wantsW_a (t:(List Int)):Prop:=okL [.sl 1 (t.map AV.int) false]
def wantsW_n0 (t:(List Int)) (t0:Tap):NF:=⟨[(3,.k,.ref 0 0)],[.box (.agg [.sl 1 (t0.L.map AV.int) false,.int ((t0.p:Nat):Int)])]⟩
def wantsW_n1 (t:(List Int)) (t0:Tap) (t1:Int × Ovl):NF:=⟨[(3,.k,.ref 0 0),(4,.k,.sl 1 [.int 2,.int 3,.int 5] true),(5,.k,.ref 1 0),(6,.k,.int t1.1)],[.box (.agg [.sl 1 (t0.L.map AV.int) false,.int ((t0.p:Nat):Int)]),.box (.agg [.sl 5 (t1.2.sp.map Spk.v) false,.sl 3 (t1.2.ls.map Lsn.v) false,.sl 10 (t1.2.fl.map Sig.v) false])]⟩
def wantsW_n2 (t:(List Int)) (t0:Tap) (t1:Int × Ovl) (t2:Int × Int × (List (List Wnt)) × Ovl × Tap):NF:=⟨[(3,.k,.ref 0 0),(4,.k,.sl 1 [.int 2,.int 3,.int 5] true),(5,.k,.ref 1 0),(6,.k,.int t2.1),(7,.k,.vec 2),(8,.k,.int t2.2.1)],[.box (.agg [.sl 1 (t2.2.2.2.2.L.map AV.int) false,.int ((t2.2.2.2.2.p:Nat):Int)]),.box (.agg [.sl 5 (t2.2.2.2.1.sp.map Spk.v) false,.sl 3 (t2.2.2.2.1.ls.map Lsn.v) false,.sl 10 (t2.2.2.2.1.fl.map Sig.v) false]),.vec 1 (t2.2.2.1.map (fun l=>AV.sl 3 (l.map Wnt.v) false)) (pureBL_map (fun _=>rfl) t2.2.2.1)]⟩
def wantsW_n3 (t:(List Int)) (t0:Tap) (t1:Int × Ovl) (t2:Int × Int × (List (List Wnt)) × Ovl × Tap) (t3:Bool):NF:=⟨[(3,.k,.ref 0 0),(4,.k,.sl 1 [.int 2,.int 3,.int 5] true),(5,.k,.ref 1 0),(6,.k,.int t2.1),(7,.k,.vec 2),(8,.k,.int t2.2.1),(34,.k,.bool t3)],[.box (.agg [.sl 1 (t2.2.2.2.2.L.map AV.int) false,.int ((t2.2.2.2.2.p:Nat):Int)]),.box (.agg [.sl 5 (t2.2.2.2.1.sp.map Spk.v) false,.sl 3 (t2.2.2.2.1.ls.map Lsn.v) false,.sl 10 (t2.2.2.2.1.fl.map Sig.v) false]),.vec 1 (t2.2.2.1.map (fun l=>AV.sl 3 (l.map Wnt.v) false)) (pureBL_map (fun _=>rfl) t2.2.2.1)]⟩
def wantsW_n4 (t:(List Int)) (t0:Tap) (t1:Int × Ovl) (t2:Int × Int × (List (List Wnt)) × Ovl × Tap) (t3:Bool) (t4:Int):NF:=⟨[(3,.k,.ref 0 0),(4,.k,.sl 1 [.int 2,.int 3,.int 5] true),(5,.k,.ref 1 0),(7,.k,.vec 2),(8,.k,.int t2.2.1),(9,.k,.int t4)],[.box (.agg [.sl 1 (t2.2.2.2.2.L.map AV.int) false,.int (((rawP t2.2.2.2.2.L t2.2.2.2.2.p):Nat):Int)]),.box (.agg [.sl 5 (t2.2.2.2.1.sp.map Spk.v) false,.sl 3 (t2.2.2.2.1.ls.map Lsn.v) false,.sl 10 (t2.2.2.2.1.fl.map Sig.v) false]),.vec 1 (t2.2.2.1.map (fun l=>AV.sl 3 (l.map Wnt.v) false)) (pureBL_map (fun _=>rfl) t2.2.2.1)]⟩
def wantsW_n5 (t:(List Int)) (t0:Tap) (t1:Int × Ovl) (t2:Int × Int × (List (List Wnt)) × Ovl × Tap) (t3:Bool) (t4:Int) (t5:(List Wnt)):NF:=⟨[(3,.k,.ref 0 0),(4,.k,.sl 1 [.int 2,.int 3,.int 5] true),(5,.k,.ref 1 0),(7,.k,.vec 2),(8,.k,.int t2.2.1),(9,.k,.int t4),(10,(.s 3),.sl 3 (t5.map Wnt.v) false)],[.box (.agg [.sl 1 (t2.2.2.2.2.L.map AV.int) false,.int ((((wantsT t2.2.2.2.2.L (rawP t2.2.2.2.2.L t2.2.2.2.2.p)).2):Nat):Int)]),.box (.agg [.sl 5 (t2.2.2.2.1.sp.map Spk.v) false,.sl 3 (t2.2.2.2.1.ls.map Lsn.v) false,.sl 10 (t2.2.2.2.1.fl.map Sig.v) false]),.vec 1 (t2.2.2.1.map (fun l=>AV.sl 3 (l.map Wnt.v) false)) (pureBL_map (fun _=>rfl) t2.2.2.1)]⟩
def wantsW_n6 (t:(List Int)) (t0:Tap) (t1:Int × Ovl) (t2:Int × Int × (List (List Wnt)) × Ovl × Tap) (t3:Bool) (t4:Int) (t5:(List Wnt)) (t6:Int):NF:=⟨[(3,.k,.ref 0 0),(4,.k,.sl 1 [.int 2,.int 3,.int 5] true),(5,.k,.ref 1 0),(7,.k,.vec 2),(8,.k,.int t2.2.1),(9,.k,.int t4),(10,.k,.sl 3 (t5.map Wnt.v) false),(44,.k,.int t6)],[.box (.agg [.sl 1 (t2.2.2.2.2.L.map AV.int) false,.int (((rawP t2.2.2.2.2.L ((wantsT t2.2.2.2.2.L (rawP t2.2.2.2.2.L t2.2.2.2.2.p)).2)):Nat):Int)]),.box (.agg [.sl 5 (t2.2.2.2.1.sp.map Spk.v) false,.sl 3 (t2.2.2.2.1.ls.map Lsn.v) false,.sl 10 (t2.2.2.2.1.fl.map Sig.v) false]),.vec 1 (t2.2.2.1.map (fun l=>AV.sl 3 (l.map Wnt.v) false)) (pureBL_map (fun _=>rfl) t2.2.2.1)]⟩
def wantsW_n7 (t:(List Int)) (t0:Tap) (t1:Int × Ovl) (t2:Int × Int × (List (List Wnt)) × Ovl × Tap) (t3:Bool) (t4:Int) (t5:(List Wnt)) (t6:Int) (t7:Bool):NF:=⟨[(3,.k,.ref 0 0),(4,.k,.sl 1 [.int 2,.int 3,.int 5] true),(5,.k,.ref 1 0),(7,.k,.vec 2),(8,.k,.int t2.2.1),(9,.k,.int t4),(10,.k,.sl 3 (t5.map Wnt.v) false),(44,.k,.int t6),(55,.k,.bool t7)],[.box (.agg [.sl 1 (t2.2.2.2.2.L.map AV.int) false,.int (((rawP t2.2.2.2.2.L ((wantsT t2.2.2.2.2.L (rawP t2.2.2.2.2.L t2.2.2.2.2.p)).2)):Nat):Int)]),.box (.agg [.sl 5 (t2.2.2.2.1.sp.map Spk.v) false,.sl 3 (t2.2.2.2.1.ls.map Lsn.v) false,.sl 10 (t2.2.2.2.1.fl.map Sig.v) false]),.vec 1 (t2.2.2.1.map (fun l=>AV.sl 3 (l.map Wnt.v) false)) (pureBL_map (fun _=>rfl) t2.2.2.1)]⟩
def wantsW_n8 (t:(List Int)) (t0:Tap) (t1:Int × Ovl) (t2:Int × Int × (List (List Wnt)) × Ovl × Tap) (t3:Bool) (t8:Int × Int × Ovl):NF:=⟨[(4,.k,.sl 1 [.int 2,.int 3,.int 5] true),(5,.k,.ref 0 0),(6,.k,.int t8.1),(7,.k,.vec 1),(11,.k,.int t8.2.1)],[.box (.agg [.sl 5 (t8.2.2.sp.map Spk.v) false,.sl 3 (t8.2.2.ls.map Lsn.v) false,.sl 10 (t8.2.2.fl.map Sig.v) false]),.vec 1 (t2.2.2.1.map (fun l=>AV.sl 3 (l.map Wnt.v) false)) (pureBL_map (fun _=>rfl) t2.2.2.1)]⟩
def wantsW_n9 (t:(List Int)) (t0:Tap) (t1:Int × Ovl) (t2:Int × Int × (List (List Wnt)) × Ovl × Tap) (t3:Bool) (t8:Int × Int × Ovl) (t9:Bool):NF:=⟨[(4,.k,.sl 1 [.int 2,.int 3,.int 5] true),(5,.k,.ref 0 0),(6,.k,.int t8.1),(7,.k,.vec 1),(11,.k,.int t8.2.1),(94,.k,.bool t9)],[.box (.agg [.sl 5 (t8.2.2.sp.map Spk.v) false,.sl 3 (t8.2.2.ls.map Lsn.v) false,.sl 10 (t8.2.2.fl.map Sig.v) false]),.vec 1 (t2.2.2.1.map (fun l=>AV.sl 3 (l.map Wnt.v) false)) (pureBL_map (fun _=>rfl) t2.2.2.1)]⟩
def wantsW_n10 (t:(List Int)) (t0:Tap) (t1:Int × Ovl) (t2:Int × Int × (List (List Wnt)) × Ovl × Tap) (t3:Bool) (t8:Int × Int × Ovl) (t9:Bool) (t10:Int):NF:=⟨[(4,.k,.sl 1 [.int 2,.int 3,.int 5] true),(5,.k,.ref 0 0),(7,.k,.vec 1),(104,.k,.sl 1 [.int 2,.int 3,.int 5] true),(105,.k,.int 3),(106,.k,.int t10)],[.box (.agg [.sl 5 (t8.2.2.sp.map Spk.v) false,.sl 3 (t8.2.2.ls.map Lsn.v) false,.sl 10 (t8.2.2.fl.map Sig.v) false]),.vec 1 (t2.2.2.1.map (fun l=>AV.sl 3 (l.map Wnt.v) false)) (pureBL_map (fun _=>rfl) t2.2.2.1)]⟩
def wantsW_n11 (t:(List Int)) (t0:Tap) (t1:Int × Ovl) (t2:Int × Int × (List (List Wnt)) × Ovl × Tap) (t3:Bool) (t8:Int × Int × Ovl) (t9:Bool) (t10:Int) (x11:Int) (t11:Int):NF:=⟨[(4,.k,.sl 1 [.int 2,.int 3,.int 5] true),(5,.k,.ref 0 0),(7,.k,.vec 1),(13,.k,.int x11),(104,.k,.sl 1 [.int 2,.int 3,.int 5] true),(105,.k,.int 3),(106,.k,.int t10),(110,.k,.sl 1 [.int 2,.int 3,.int 5] true),(111,.k,.int 3),(112,.k,.int t11)],[.box (.agg [.sl 5 (t8.2.2.sp.map Spk.v) false,.sl 3 (t8.2.2.ls.map Lsn.v) false,.sl 10 (t8.2.2.fl.map Sig.v) false]),.vec 1 (t2.2.2.1.map (fun l=>AV.sl 3 (l.map Wnt.v) false)) (pureBL_map (fun _=>rfl) t2.2.2.1)]⟩
def wantsW_n12 (t:(List Int)) (t0:Tap) (t1:Int × Ovl) (t2:Int × Int × (List (List Wnt)) × Ovl × Tap) (t3:Bool) (t8:Int × Int × Ovl) (t9:Bool) (t10:Int) (x11:Int) (t11:Int) (x12:Int) (t12:(List Wnt) × Int):NF:=⟨[(4,.k,.sl 1 [.int 2,.int 3,.int 5] true),(5,.k,.ref 0 0),(7,.k,.vec 1),(13,.k,.int x11),(14,.k,.int t11),(16,(.s 3),.sl 3 (t12.1.map Wnt.v) false),(17,.k,.int t12.2),(104,.k,.sl 1 [.int 2,.int 3,.int 5] true),(105,.k,.int 3),(106,.k,.int t10),(110,.k,.sl 1 [.int 2,.int 3,.int 5] true),(111,.k,.int 3),(112,.k,.int t11)],[.box (.agg [.sl 5 (t8.2.2.sp.map Spk.v) false,.sl 3 (t8.2.2.ls.map Lsn.v) false,.sl 10 (t8.2.2.fl.map Sig.v) false]),.vec 1 (t2.2.2.1.map (fun l=>AV.sl 3 (l.map Wnt.v) false)) (pureBL_map (fun _=>rfl) t2.2.2.1)]⟩
def wantsW_n13 (t:(List Int)) (t0:Tap) (t1:Int × Ovl) (t2:Int × Int × (List (List Wnt)) × Ovl × Tap) (t3:Bool) (t8:Int × Int × Ovl) (t9:Bool) (t10:Int) (x11:Int) (t11:Int) (x12:Int) (t12:(List Wnt) × Int) (t13:Bool):NF:=⟨[(4,.k,.sl 1 [.int 2,.int 3,.int 5] true),(5,.k,.ref 0 0),(7,.k,.vec 1),(13,.k,.int x11),(104,.k,.sl 1 [.int 2,.int 3,.int 5] true),(105,.k,.int 3),(106,.k,.int t10),(110,.k,.sl 1 [.int 2,.int 3,.int 5] true),(111,.k,.int 3),(112,.k,.int t11),(134,.k,.bool t13)],[.box (.agg [.sl 5 (t8.2.2.sp.map Spk.v) false,.sl 3 (t8.2.2.ls.map Lsn.v) false,.sl 10 (t8.2.2.fl.map Sig.v) false]),.vec 1 (t2.2.2.1.map (fun l=>AV.sl 3 (l.map Wnt.v) false)) (pureBL_map (fun _=>rfl) t2.2.2.1)]⟩
def wantsW_s:Nat → Type
  | 0=>Tap
  | 1=>Int × Ovl
  | 2=>Int × Int × (List (List Wnt)) × Ovl × Tap
  | 3=>Bool
  | 4=>Int
  | 5=>(List Wnt)
  | 6=>Int
  | 7=>Bool
  | 8=>Int × Int × Ovl
  | 9=>Bool
  | 10=>Int
  | 11=>Int
  | 12=>(List Wnt) × Int
  | 13=>Bool
  | _=>Unit
def wantsW_e (r:Bool):AV:=.bool r
def wantsW_vc (t:(List Int)) (I2:Tap → Int × Ovl → (Int × Int × (List (List Wnt)) × Ovl × Tap) → Prop) (m2:Tap → Int × Ovl → (Int × Int × (List (List Wnt)) × Ovl × Tap) → Nat) (I3:Tap → Int × Ovl → Int × Int × (List (List Wnt)) × Ovl × Tap → Bool → Prop) (I7:Tap → Int × Ovl → Int × Int × (List (List Wnt)) × Ovl × Tap → Bool → Int → (List Wnt) → Int → Bool → Prop) (I8:Tap → Int × Ovl → Int × Int × (List (List Wnt)) × Ovl × Tap → Bool → (Int × Int × Ovl) → Prop) (m8:Tap → Int × Ovl → Int × Int × (List (List Wnt)) × Ovl × Tap → Bool → (Int × Int × Ovl) → Nat) (I9:Tap → Int × Ovl → Int × Int × (List (List Wnt)) × Ovl × Tap → Bool → Int × Int × Ovl → Bool → Prop) (I10:Tap → Int × Ovl → Int × Int × (List (List Wnt)) × Ovl × Tap → Bool → Int × Int × Ovl → Bool → Int → Prop) (m10:Tap → Int × Ovl → Int × Int × (List (List Wnt)) × Ovl × Tap → Bool → Int × Int × Ovl → Bool → Int → Nat) (I11:Tap → Int × Ovl → Int × Int × (List (List Wnt)) × Ovl × Tap → Bool → Int × Int × Ovl → Bool → Int → Int → Int → Prop) (m11:Tap → Int × Ovl → Int × Int × (List (List Wnt)) × Ovl × Tap → Bool → Int × Int × Ovl → Bool → Int → Int → Int → Nat) (I13:Tap → Int × Ovl → Int × Int × (List (List Wnt)) × Ovl × Tap → Bool → Int × Int × Ovl → Bool → Int → Int → Int → Int → (List Wnt) × Int → Bool → Prop) (r0:Bool):Prop:=
 (Ch (New_h t) [] 32
 (Nf (wantsW_n0 t ((⟨t.take 2000,0⟩:Tap))) [32] ((((⟨t.take 2000,0⟩:Tap)):Tap) = (((⟨t.take 2000,0⟩:Tap)):Tap)))) ∧ ∀ t0:Tap,t0 = (((⟨t.take 2000,0⟩:Tap)):Tap) →
 (∃ h1:[2,3,5].length ≤ 1000,
 Cl (newOv_c [2,3,5] h1)
 (Nf (wantsW_n1 t t0 ((newN [2,3,5]).2,(newN [2,3,5]).1)) [0,113] ((((newN [2,3,5]).2,(newN [2,3,5]).1):Int × Ovl) = (((newN [2,3,5]).2,(newN [2,3,5]).1):Int × Ovl)))) ∧ ∀ t1:Int × Ovl,t1 = (((newN [2,3,5]).2,(newN [2,3,5]).1):Int × Ovl) →
 Rf (AV.sl 0 [] true) ((FitR (.s 3) (fun l=>AV.sl 3 (l.map Wnt.v) false) 3 (.sl 0 [] true) [] ∧
 (Nf (wantsW_n2 t t0 t1 (t1.1,0,List.replicate 3 [],t1.2,t0)) [0,1,34] (I2 t0 t1 (t1.1,0,List.replicate 3 [],t1.2,t0)) ∧ ∀ t2:Int × Int × (List (List Wnt)) × Ovl × Tap,I2 t0 t1 t2 →
 (br (decide (t2.2.1 < 12))
 (Nf (wantsW_n3 t t0 t1 t2 (t2.1 == 0)) [0,1,2] (I3 t0 t1 t2 ((t2.1 == 0):Bool)))
 (Nf (wantsW_n3 t t0 t1 t2 (false)) [0,1,2] (I3 t0 t1 t2 ((false):Bool)))) ∧ ∀ t3:Bool,I3 t0 t1 t2 t3 →
 br t3
 ((Ch (N_h t2.2.2.2.2.L t2.2.2.2.2.p 3) [0] 51
 (Nf (wantsW_n4 t t0 t1 t2 t3 (Mod (rawV t2.2.2.2.2.L t2.2.2.2.2.p) 3)) [0,1,2] (((Mod (rawV t2.2.2.2.2.L t2.2.2.2.2.p) 3):Int) = ((Mod (rawV t2.2.2.2.2.L t2.2.2.2.2.p) 3):Int)))) ∧ ∀ t4:Int,t4 = ((Mod (rawV t2.2.2.2.2.L t2.2.2.2.2.p) 3):Int) →
 (Ch (wantsT_h t2.2.2.2.2.L (rawP t2.2.2.2.2.L t2.2.2.2.2.p)) [0] 19
 (Nf (wantsW_n5 t t0 t1 t2 t3 t4 ((wantsT t2.2.2.2.2.L (rawP t2.2.2.2.2.L t2.2.2.2.2.p)).1)) [0,1,2] ((((wantsT t2.2.2.2.2.L (rawP t2.2.2.2.2.L t2.2.2.2.2.p)).1):(List Wnt)) = (((wantsT t2.2.2.2.2.L (rawP t2.2.2.2.2.L t2.2.2.2.2.p)).1):(List Wnt))))) ∧ ∀ t5:(List Wnt),t5 = (((wantsT t2.2.2.2.2.L (rawP t2.2.2.2.2.L t2.2.2.2.2.p)).1):(List Wnt)) →
 (Ch (N_h t2.2.2.2.2.L ((wantsT t2.2.2.2.2.L (rawP t2.2.2.2.2.L t2.2.2.2.2.p)).2) 5) [0] 19
 (Nf (wantsW_n6 t t0 t1 t2 t3 t4 t5 (Mod (rawV t2.2.2.2.2.L ((wantsT t2.2.2.2.2.L (rawP t2.2.2.2.2.L t2.2.2.2.2.p)).2)) 5)) [0,1,2] (((Mod (rawV t2.2.2.2.2.L ((wantsT t2.2.2.2.2.L (rawP t2.2.2.2.2.L t2.2.2.2.2.p)).2)) 5):Int) = ((Mod (rawV t2.2.2.2.2.L ((wantsT t2.2.2.2.2.L (rawP t2.2.2.2.2.L t2.2.2.2.2.p)).2)) 5):Int)))) ∧ ∀ t6:Int,t6 = ((Mod (rawV t2.2.2.2.2.L ((wantsT t2.2.2.2.2.L (rawP t2.2.2.2.2.L t2.2.2.2.2.p)).2)) 5):Int) →
 (br (t6 == 0)
 (Nf (wantsW_n7 t t0 t1 t2 t3 t4 t5 t6 (true)) [0,1,2] (I7 t0 t1 t2 t3 t4 t5 t6 ((true):Bool)))
 (Nf (wantsW_n7 t t0 t1 t2 t3 t4 t5 t6 (t6 == 1)) [0,1,2] (I7 t0 t1 t2 t3 t4 t5 t6 ((t6 == 1):Bool)))) ∧ ∀ t7:Bool,I7 t0 t1 t2 t3 t4 t5 t6 t7 →
 br t7
 (Rf (α:=List AV) [.int 2,.int 3,.int 5] (ck (decide (0 ≤ t4)) (ck (decide (t4 < ([2,3,5].length:Int)))
 (∀ x2,[2,3,5][t4.toNat]? = some x2 →
 ∃ h3:t2.2.2.2.1.fl.length ≤ 1000000,
 Cl (chgOv_c t2.2.2.2.1 x2 t5 h3)
 (ck (cond (decide (0 ≤ t4)) (decide (t4 < ((t2.2.2.1.map (fun l=>AV.sl 3 (l.map Wnt.v) false)).length:Int))) false)
 (Rf (t2.2.2.1.map (fun l=>AV.sl 3 (l.map Wnt.v) false)) (ck (decide (t4.toNat < t2.2.2.1.length))
 (∀ y4,t2.2.2.1[t4.toNat]? = some y4 → Rf ((fun l=>AV.sl 3 (l.map Wnt.v) false) t5)
 (Nf (wantsW_n2 t t0 t1 ((changeV t2.2.2.2.1 x2 t5).2,W (t2.2.1 + 1),t2.2.2.1.set t4.toNat t5,(changeV t2.2.2.2.1 x2 t5).1,(⟨t2.2.2.2.2.L,rawP t2.2.2.2.2.L ((wantsT t2.2.2.2.2.L (rawP t2.2.2.2.2.L t2.2.2.2.2.p)).2)⟩:Tap))) [0,1,2] (I2 t0 t1 ((changeV t2.2.2.2.1 x2 t5).2,W (t2.2.1 + 1),t2.2.2.1.set t4.toNat t5,(changeV t2.2.2.2.1 x2 t5).1,(⟨t2.2.2.2.2.L,rawP t2.2.2.2.2.L ((wantsT t2.2.2.2.2.L (rawP t2.2.2.2.2.L t2.2.2.2.2.p)).2)⟩:Tap)) ∧ m2 t0 t1 ((changeV t2.2.2.2.1 x2 t5).2,W (t2.2.1 + 1),t2.2.2.1.set t4.toNat t5,(changeV t2.2.2.2.1 x2 t5).1,(⟨t2.2.2.2.2.L,rawP t2.2.2.2.2.L ((wantsT t2.2.2.2.2.L (rawP t2.2.2.2.2.L t2.2.2.2.2.p)).2)⟩:Tap)) < m2 t0 t1 t2))))))))))
 (br (t6 == 2)
 (Rf (α:=List AV) [.int 2,.int 3,.int 5] (ck (decide (0 ≤ t4)) (ck (decide (t4 < ([2,3,5].length:Int)))
 (∀ x5,[2,3,5][t4.toNat]? = some x5 →
 ∃ h6:t2.2.2.2.1.fl.length ≤ 1000000,
 Cl (rstOv_c t2.2.2.2.1 x5 t5 h6)
 (ck (cond (decide (0 ≤ t4)) (decide (t4 < ((t2.2.2.1.map (fun l=>AV.sl 3 (l.map Wnt.v) false)).length:Int))) false)
 (Rf (t2.2.2.1.map (fun l=>AV.sl 3 (l.map Wnt.v) false)) (ck (decide (t4.toNat < t2.2.2.1.length))
 (∀ y7,t2.2.2.1[t4.toNat]? = some y7 → Rf ((fun l=>AV.sl 3 (l.map Wnt.v) false) t5)
 (Nf (wantsW_n2 t t0 t1 ((restartV t2.2.2.2.1 x5 t5).2,W (t2.2.1 + 1),t2.2.2.1.set t4.toNat t5,(restartV t2.2.2.2.1 x5 t5).1,(⟨t2.2.2.2.2.L,rawP t2.2.2.2.2.L ((wantsT t2.2.2.2.2.L (rawP t2.2.2.2.2.L t2.2.2.2.2.p)).2)⟩:Tap))) [0,1,2] (I2 t0 t1 ((restartV t2.2.2.2.1 x5 t5).2,W (t2.2.1 + 1),t2.2.2.1.set t4.toNat t5,(restartV t2.2.2.2.1 x5 t5).1,(⟨t2.2.2.2.2.L,rawP t2.2.2.2.2.L ((wantsT t2.2.2.2.2.L (rawP t2.2.2.2.2.L t2.2.2.2.2.p)).2)⟩:Tap)) ∧ m2 t0 t1 ((restartV t2.2.2.2.1 x5 t5).2,W (t2.2.1 + 1),t2.2.2.1.set t4.toNat t5,(restartV t2.2.2.2.1 x5 t5).1,(⟨t2.2.2.2.2.L,rawP t2.2.2.2.2.L ((wantsT t2.2.2.2.2.L (rawP t2.2.2.2.2.L t2.2.2.2.2.p)).2)⟩:Tap)) < m2 t0 t1 t2))))))))))
 (∃ h8:0 ≤ ((t2.2.2.2.1.fl.map Sig.v).length:Int) ∧ ((t2.2.2.2.1.fl.map Sig.v).length:Int) ≤ 1000000,
 Ch (fltsT_h t2.2.2.2.2.L (rawP t2.2.2.2.2.L ((wantsT t2.2.2.2.2.L (rawP t2.2.2.2.2.L t2.2.2.2.2.p)).2)) ((t2.2.2.2.1.fl.map Sig.v).length:Int) h8) [0] 115
 (∃ h9:okRnd t2.2.2.2.1 ((faultsT t2.2.2.2.2.L ((t2.2.2.2.1.fl.map Sig.v).length:Int) (rawP t2.2.2.2.2.L ((wantsT t2.2.2.2.2.L (rawP t2.2.2.2.2.L t2.2.2.2.2.p)).2))).1),
 Cl (rndOv_c t2.2.2.2.1 ((faultsT t2.2.2.2.2.L ((t2.2.2.2.1.fl.map Sig.v).length:Int) (rawP t2.2.2.2.2.L ((wantsT t2.2.2.2.2.L (rawP t2.2.2.2.2.L t2.2.2.2.2.p)).2))).1) h9)
 (Nf (wantsW_n2 t t0 t1 ((roundO t2.2.2.2.1 ((faultsT t2.2.2.2.2.L ((t2.2.2.2.1.fl.map Sig.v).length:Int) (rawP t2.2.2.2.2.L ((wantsT t2.2.2.2.2.L (rawP t2.2.2.2.2.L t2.2.2.2.2.p)).2))).1)).2,W (t2.2.1 + 1),t2.2.2.1,(roundO t2.2.2.2.1 ((faultsT t2.2.2.2.2.L ((t2.2.2.2.1.fl.map Sig.v).length:Int) (rawP t2.2.2.2.2.L ((wantsT t2.2.2.2.2.L (rawP t2.2.2.2.2.L t2.2.2.2.2.p)).2))).1)).1,(⟨t2.2.2.2.2.L,(faultsT t2.2.2.2.2.L ((t2.2.2.2.1.fl.map Sig.v).length:Int) (rawP t2.2.2.2.2.L ((wantsT t2.2.2.2.2.L (rawP t2.2.2.2.2.L t2.2.2.2.2.p)).2))).2⟩:Tap))) [0,1,2] (I2 t0 t1 ((roundO t2.2.2.2.1 ((faultsT t2.2.2.2.2.L ((t2.2.2.2.1.fl.map Sig.v).length:Int) (rawP t2.2.2.2.2.L ((wantsT t2.2.2.2.2.L (rawP t2.2.2.2.2.L t2.2.2.2.2.p)).2))).1)).2,W (t2.2.1 + 1),t2.2.2.1,(roundO t2.2.2.2.1 ((faultsT t2.2.2.2.2.L ((t2.2.2.2.1.fl.map Sig.v).length:Int) (rawP t2.2.2.2.2.L ((wantsT t2.2.2.2.2.L (rawP t2.2.2.2.2.L t2.2.2.2.2.p)).2))).1)).1,(⟨t2.2.2.2.2.L,(faultsT t2.2.2.2.2.L ((t2.2.2.2.1.fl.map Sig.v).length:Int) (rawP t2.2.2.2.2.L ((wantsT t2.2.2.2.2.L (rawP t2.2.2.2.2.L t2.2.2.2.2.p)).2))).2⟩:Tap)) ∧ m2 t0 t1 ((roundO t2.2.2.2.1 ((faultsT t2.2.2.2.2.L ((t2.2.2.2.1.fl.map Sig.v).length:Int) (rawP t2.2.2.2.2.L ((wantsT t2.2.2.2.2.L (rawP t2.2.2.2.2.L t2.2.2.2.2.p)).2))).1)).2,W (t2.2.1 + 1),t2.2.2.1,(roundO t2.2.2.2.1 ((faultsT t2.2.2.2.2.L ((t2.2.2.2.1.fl.map Sig.v).length:Int) (rawP t2.2.2.2.2.L ((wantsT t2.2.2.2.2.L (rawP t2.2.2.2.2.L t2.2.2.2.2.p)).2))).1)).1,(⟨t2.2.2.2.2.L,(faultsT t2.2.2.2.2.L ((t2.2.2.2.1.fl.map Sig.v).length:Int) (rawP t2.2.2.2.2.L ((wantsT t2.2.2.2.2.L (rawP t2.2.2.2.2.L t2.2.2.2.2.p)).2))).2⟩:Tap)) < m2 t0 t1 t2))))))
 (Nf (wantsW_n8 t t0 t1 t2 t3 (t2.1,0,t2.2.2.2.1)) [1,2] (I8 t0 t1 t2 t3 (t2.1,0,t2.2.2.2.1)) ∧ ∀ t8:Int × Int × Ovl,I8 t0 t1 t2 t3 t8 →
 (Cl (quietO_c )
 (br (decide (t8.2.1 < (5:Int)))
 (Nf (wantsW_n9 t t0 t1 t2 t3 t8 (t8.1 == 0)) [0,1] (I9 t0 t1 t2 t3 t8 ((t8.1 == 0):Bool)))
 (Nf (wantsW_n9 t t0 t1 t2 t3 t8 (false)) [0,1] (I9 t0 t1 t2 t3 t8 ((false):Bool))))) ∧ ∀ t9:Bool,I9 t0 t1 t2 t3 t8 t9 →
 br t9
 (∃ h10:okRnd t8.2.2 [],
 Cl (rndOv_c t8.2.2 [] h10)
 (Nf (wantsW_n8 t t0 t1 t2 t3 ((roundO t8.2.2 []).2,W (t8.2.1 + 1),(roundO t8.2.2 []).1)) [0,1] (I8 t0 t1 t2 t3 ((roundO t8.2.2 []).2,W (t8.2.1 + 1),(roundO t8.2.2 []).1) ∧ m8 t0 t1 t2 t3 ((roundO t8.2.2 []).2,W (t8.2.1 + 1),(roundO t8.2.2 []).1) < m8 t0 t1 t2 t3 t8)))
 (br (t8.1 != 0)
 (Rf (wantsW_e (false)) ((false) = r0))
 (Nf (wantsW_n10 t t0 t1 t2 t3 t8 t9 (0)) [0,1] (I10 t0 t1 t2 t3 t8 t9 (0)) ∧ ∀ t10:Int,I10 t0 t1 t2 t3 t8 t9 t10 →
 br (decide (t10 < 3))
 (Rf (α:=List AV) [.int 2,.int 3,.int 5] (ck (decide (0 ≤ t10)) (ck (decide (t10 < ([2,3,5].length:Int)))
 (∀ x11,[2,3,5][t10.toNat]? = some x11 →
 Nf (wantsW_n11 t t0 t1 t2 t3 t8 t9 t10 x11 (0)) [0,1] (I11 t0 t1 t2 t3 t8 t9 t10 x11 (0)) ∧ ∀ t11:Int,I11 t0 t1 t2 t3 t8 t9 t10 x11 t11 →
 br (decide (t11 < 3))
 (Rf (α:=List AV) [.int 2,.int 3,.int 5] (ck (decide (0 ≤ t11)) (ck (decide (t11 < ([2,3,5].length:Int)))
 (∀ x12,[2,3,5][t11.toNat]? = some x12 →
 (Cl (knwOv_c t8.2.2 x11 x12)
 (Nf (wantsW_n12 t t0 t1 t2 t3 t8 t9 t10 x11 t11 x12 ((knownV t8.2.2 x11 x12).1,(knownV t8.2.2 x11 x12).2)) [0,1] ((((knownV t8.2.2 x11 x12).1,(knownV t8.2.2 x11 x12).2):(List Wnt) × Int) = (((knownV t8.2.2 x11 x12).1,(knownV t8.2.2 x11 x12).2):(List Wnt) × Int)))) ∧ ∀ t12:(List Wnt) × Int,t12 = (((knownV t8.2.2 x11 x12).1,(knownV t8.2.2 x11 x12).2):(List Wnt) × Int) →
 (br (t12.2 != 0)
 (Nf (wantsW_n13 t t0 t1 t2 t3 t8 t9 t10 x11 t11 x12 t12 (true)) [0,1] (I13 t0 t1 t2 t3 t8 t9 t10 x11 t11 x12 t12 ((true):Bool)))
 (ck (cond (decide (0 ≤ t11)) (decide (t11 < ((t2.2.2.1.map (fun l=>AV.sl 3 (l.map Wnt.v) false)).length:Int))) false)
 (Rf (t2.2.2.1.map (fun l=>AV.sl 3 (l.map Wnt.v) false)) (ck (decide (t11.toNat < t2.2.2.1.length))
 (∀ x13,t2.2.2.1[t11.toNat]? = some x13 →
 Cl (sameW_c t12.1 x13)
 (Nf (wantsW_n13 t t0 t1 t2 t3 t8 t9 t10 x11 t11 x12 t12 (!(decide (t12.1 = x13)))) [0,1] (I13 t0 t1 t2 t3 t8 t9 t10 x11 t11 x12 t12 ((!(decide (t12.1 = x13))):Bool)))))))) ∧ ∀ t13:Bool,I13 t0 t1 t2 t3 t8 t9 t10 x11 t11 x12 t12 t13 →
 br t13
 (Rf (wantsW_e (false)) ((false) = r0))
 (Nf (wantsW_n11 t t0 t1 t2 t3 t8 t9 t10 x11 (W (t11 + 1))) [0,1] (I11 t0 t1 t2 t3 t8 t9 t10 x11 (W (t11 + 1)) ∧ m11 t0 t1 t2 t3 t8 t9 t10 x11 (W (t11 + 1)) < m11 t0 t1 t2 t3 t8 t9 t10 x11 t11))))))
 (Nf (wantsW_n10 t t0 t1 t2 t3 t8 t9 (W (t10 + 1))) [0,1] (I10 t0 t1 t2 t3 t8 t9 (W (t10 + 1)) ∧ m10 t0 t1 t2 t3 t8 t9 (W (t10 + 1)) < m10 t0 t1 t2 t3 t8 t9 t10))))))
 (Cl (awakeO_c )
 (Rf (wantsW_e (true)) ((true) = r0)))))))))
theorem wantsW_eq (t:(List Int)) (I2:Tap → Int × Ovl → (Int × Int × (List (List Wnt)) × Ovl × Tap) → Prop) (m2:Tap → Int × Ovl → (Int × Int × (List (List Wnt)) × Ovl × Tap) → Nat) (I3:Tap → Int × Ovl → Int × Int × (List (List Wnt)) × Ovl × Tap → Bool → Prop) (I7:Tap → Int × Ovl → Int × Int × (List (List Wnt)) × Ovl × Tap → Bool → Int → (List Wnt) → Int → Bool → Prop) (I8:Tap → Int × Ovl → Int × Int × (List (List Wnt)) × Ovl × Tap → Bool → (Int × Int × Ovl) → Prop) (m8:Tap → Int × Ovl → Int × Int × (List (List Wnt)) × Ovl × Tap → Bool → (Int × Int × Ovl) → Nat) (I9:Tap → Int × Ovl → Int × Int × (List (List Wnt)) × Ovl × Tap → Bool → Int × Int × Ovl → Bool → Prop) (I10:Tap → Int × Ovl → Int × Int × (List (List Wnt)) × Ovl × Tap → Bool → Int × Int × Ovl → Bool → Int → Prop) (m10:Tap → Int × Ovl → Int × Int × (List (List Wnt)) × Ovl × Tap → Bool → Int × Int × Ovl → Bool → Int → Nat) (I11:Tap → Int × Ovl → Int × Int × (List (List Wnt)) × Ovl × Tap → Bool → Int × Int × Ovl → Bool → Int → Int → Int → Prop) (m11:Tap → Int × Ovl → Int × Int × (List (List Wnt)) × Ovl × Tap → Bool → Int × Int × Ovl → Bool → Int → Int → Int → Nat) (I13:Tap → Int × Ovl → Int × Int × (List (List Wnt)) × Ovl × Tap → Bool → Int × Int × Ovl → Bool → Int → Int → Int → Int → (List Wnt) × Int → Bool → Prop) (r0:Bool):mxP Tryz.prog 7 [.sl 1 (t.map AV.int) false] .k wantsW_e ((.pass (.join 0 (wantsW_n0 t) (fun t0=>t0 = (((⟨t.take 2000,0⟩:Tap)):Tap)) (.callH [] (New_h t)
 (.back 0 (((⟨t.take 2000,0⟩:Tap)):Tap) [32])) fun (t0:Tap) =>
 (.pass (.join 1 (wantsW_n1 t t0) (fun t1=>t1 = (((newN [2,3,5]).2,(newN [2,3,5]).1):Int × Ovl)) (.req 49 ([2,3,5].length ≤ 1000) fun h1 =>
 (.callP (newOv_c [2,3,5] h1)
 (.back 1 (((newN [2,3,5]).2,(newN [2,3,5]).1):Int × Ovl) [0,113]))) fun (t1:Int × Ovl) =>
 (.rep 34 (fun y:AV=>y) (.sl 0 [] true)
 (.cmd (.wkV 34 (.s 3) (fun l=>AV.sl 3 (l.map Wnt.v) false) (List.replicate 3 [])) (.loop 2 (wantsW_n2 t t0 t1) (I2 t0 t1) (m2 t0 t1) ((t1.1,0,List.replicate 3 [],t1.2,t0):Int × Int × (List (List Wnt)) × Ovl × Tap) [0,1,34] fun (t2:Int × Int × (List (List Wnt)) × Ovl × Tap) =>
 (.pass (.join 3 (wantsW_n3 t t0 t1 t2) (fun t3=>I3 t0 t1 t2 t3) (.br 51 (.back 3 ((t2.1 == 0):Bool) [0,1,2])
 (.back 3 ((false):Bool) [0,1,2])) fun (t3:Bool) =>
 (.br 3 (.pass (.join 4 (wantsW_n4 t t0 t1 t2 t3) (fun t4=>t4 = ((Mod (rawV t2.2.2.2.2.L t2.2.2.2.2.p) 3):Int)) (.callH [0] (N_h t2.2.2.2.2.L t2.2.2.2.2.p 3)
 (.back 4 ((Mod (rawV t2.2.2.2.2.L t2.2.2.2.2.p) 3):Int) [0,1,2])) fun (t4:Int) =>
 (.join 5 (wantsW_n5 t t0 t1 t2 t3 t4) (fun t5=>t5 = (((wantsT t2.2.2.2.2.L (rawP t2.2.2.2.2.L t2.2.2.2.2.p)).1):(List Wnt))) (.callH [0] (wantsT_h t2.2.2.2.2.L (rawP t2.2.2.2.2.L t2.2.2.2.2.p))
 (.back 5 (((wantsT t2.2.2.2.2.L (rawP t2.2.2.2.2.L t2.2.2.2.2.p)).1):(List Wnt)) [0,1,2])) fun (t5:(List Wnt)) =>
 (.join 6 (wantsW_n6 t t0 t1 t2 t3 t4 t5) (fun t6=>t6 = ((Mod (rawV t2.2.2.2.2.L ((wantsT t2.2.2.2.2.L (rawP t2.2.2.2.2.L t2.2.2.2.2.p)).2)) 5):Int)) (.callH [0] (N_h t2.2.2.2.2.L ((wantsT t2.2.2.2.2.L (rawP t2.2.2.2.2.L t2.2.2.2.2.p)).2) 5)
 (.back 6 ((Mod (rawV t2.2.2.2.2.L ((wantsT t2.2.2.2.2.L (rawP t2.2.2.2.2.L t2.2.2.2.2.p)).2)) 5):Int) [0,1,2])) fun (t6:Int) =>
 (.join 7 (wantsW_n7 t t0 t1 t2 t3 t4 t5 t6) (fun t7=>I7 t0 t1 t2 t3 t4 t5 t6 t7) (.br 35 (.back 7 ((true):Bool) [0,1,2])
 (.back 7 ((t6 == 1):Bool) [0,1,2])) fun (t7:Bool) =>
 (.br 3 (.el 51 AV.int [2,3,5] fun x2 =>
 (.req 99 (t2.2.2.2.1.fl.length ≤ 1000000) fun h3 =>
 (.callP (chgOv_c t2.2.2.2.1 x2 t5 h3)
 (.st 259 (fun l=>AV.sl 3 (l.map Wnt.v) false) t2.2.2.1 (fun y4=>t5) fun y4 =>
 (.back 2 (((changeV t2.2.2.2.1 x2 t5).2,W (t2.2.1 + 1),t2.2.2.1.set t4.toNat t5,(changeV t2.2.2.2.1 x2 t5).1,(⟨t2.2.2.2.2.L,rawP t2.2.2.2.2.L ((wantsT t2.2.2.2.2.L (rawP t2.2.2.2.2.L t2.2.2.2.2.p)).2)⟩:Tap)):Int × Int × (List (List Wnt)) × Ovl × Tap) [0,1,2])))))
 (.br 35 (.el 83 AV.int [2,3,5] fun x5 =>
 (.req 131 (t2.2.2.2.1.fl.length ≤ 1000000) fun h6 =>
 (.callP (rstOv_c t2.2.2.2.1 x5 t5 h6)
 (.st 291 (fun l=>AV.sl 3 (l.map Wnt.v) false) t2.2.2.1 (fun y7=>t5) fun y7 =>
 (.back 2 (((restartV t2.2.2.2.1 x5 t5).2,W (t2.2.1 + 1),t2.2.2.1.set t4.toNat t5,(restartV t2.2.2.2.1 x5 t5).1,(⟨t2.2.2.2.2.L,rawP t2.2.2.2.2.L ((wantsT t2.2.2.2.2.L (rawP t2.2.2.2.2.L t2.2.2.2.2.p)).2)⟩:Tap)):Int × Int × (List (List Wnt)) × Ovl × Tap) [0,1,2])))))
 (.req 115 (0 ≤ ((t2.2.2.2.1.fl.map Sig.v).length:Int) ∧ ((t2.2.2.2.1.fl.map Sig.v).length:Int) ≤ 1000000) fun h8 =>
 (.callH [0] (fltsT_h t2.2.2.2.2.L (rawP t2.2.2.2.2.L ((wantsT t2.2.2.2.2.L (rawP t2.2.2.2.2.L t2.2.2.2.2.p)).2)) ((t2.2.2.2.1.fl.map Sig.v).length:Int) h8)
 (.req 131 (okRnd t2.2.2.2.1 ((faultsT t2.2.2.2.2.L ((t2.2.2.2.1.fl.map Sig.v).length:Int) (rawP t2.2.2.2.2.L ((wantsT t2.2.2.2.2.L (rawP t2.2.2.2.2.L t2.2.2.2.2.p)).2))).1)) fun h9 =>
 (.callP (rndOv_c t2.2.2.2.1 ((faultsT t2.2.2.2.2.L ((t2.2.2.2.1.fl.map Sig.v).length:Int) (rawP t2.2.2.2.2.L ((wantsT t2.2.2.2.2.L (rawP t2.2.2.2.2.L t2.2.2.2.2.p)).2))).1) h9)
 (.back 2 (((roundO t2.2.2.2.1 ((faultsT t2.2.2.2.2.L ((t2.2.2.2.1.fl.map Sig.v).length:Int) (rawP t2.2.2.2.2.L ((wantsT t2.2.2.2.2.L (rawP t2.2.2.2.2.L t2.2.2.2.2.p)).2))).1)).2,W (t2.2.1 + 1),t2.2.2.1,(roundO t2.2.2.2.1 ((faultsT t2.2.2.2.2.L ((t2.2.2.2.1.fl.map Sig.v).length:Int) (rawP t2.2.2.2.2.L ((wantsT t2.2.2.2.2.L (rawP t2.2.2.2.2.L t2.2.2.2.2.p)).2))).1)).1,(⟨t2.2.2.2.2.L,(faultsT t2.2.2.2.2.L ((t2.2.2.2.1.fl.map Sig.v).length:Int) (rawP t2.2.2.2.2.L ((wantsT t2.2.2.2.2.L (rawP t2.2.2.2.2.L t2.2.2.2.2.p)).2))).2⟩:Tap)):Int × Int × (List (List Wnt)) × Ovl × Tap) [0,1,2]))))))))))))
 (.loop 8 (wantsW_n8 t t0 t1 t2 t3) (I8 t0 t1 t2 t3) (m8 t0 t1 t2 t3) ((t2.1,0,t2.2.2.2.1):Int × Int × Ovl) [1,2] fun (t8:Int × Int × Ovl) =>
 (.pass (.join 9 (wantsW_n9 t t0 t1 t2 t3 t8) (fun t9=>I9 t0 t1 t2 t3 t8 t9) (.callP (quietO_c )
 (.br 66 (.back 9 ((t8.1 == 0):Bool) [0,1])
 (.back 9 ((false):Bool) [0,1]))) fun (t9:Bool) =>
 (.br 2 (.req 18 (okRnd t8.2.2 []) fun h10 =>
 (.callP (rndOv_c t8.2.2 [] h10)
 (.back 8 (((roundO t8.2.2 []).2,W (t8.2.1 + 1),(roundO t8.2.2 []).1):Int × Int × Ovl) [0,1])))
 (.br 34 (.ret (false))
 (.loop 10 (wantsW_n10 t t0 t1 t2 t3 t8 t9) (I10 t0 t1 t2 t3 t8 t9) (m10 t0 t1 t2 t3 t8 t9) ((0):Int) [0,1] fun (t10:Int) =>
 (.br 18 (.el 18 AV.int [2,3,5] fun x11 =>
 (.loop 11 (wantsW_n11 t t0 t1 t2 t3 t8 t9 t10 x11) (I11 t0 t1 t2 t3 t8 t9 t10 x11) (m11 t0 t1 t2 t3 t8 t9 t10 x11) ((0):Int) [0,1] fun (t11:Int) =>
 (.br 18 (.el 34 AV.int [2,3,5] fun x12 =>
 (.join 12 (wantsW_n12 t t0 t1 t2 t3 t8 t9 t10 x11 t11 x12) (fun t12=>t12 = (((knownV t8.2.2 x11 x12).1,(knownV t8.2.2 x11 x12).2):(List Wnt) × Int)) (.callP (knwOv_c t8.2.2 x11 x12)
 (.back 12 (((knownV t8.2.2 x11 x12).1,(knownV t8.2.2 x11 x12).2):(List Wnt) × Int) [0,1])) fun (t12:(List Wnt) × Int) =>
 (.join 13 (wantsW_n13 t t0 t1 t2 t3 t8 t9 t10 x11 t11 x12 t12) (fun t13=>I13 t0 t1 t2 t3 t8 t9 t10 x11 t11 x12 t12 t13) (.br 50 (.back 13 ((true):Bool) [0,1])
 (.el 114 (fun l=>AV.sl 3 (l.map Wnt.v) false) t2.2.2.1 fun x13 =>
 (.callP (sameW_c t12.1 x13)
 (.back 13 ((!(decide (t12.1 = x13))):Bool) [0,1])))) fun (t13:Bool) =>
 (.br 2 (.ret (false))
 (.back 11 ((W (t11 + 1)):Int) [0,1])))))
 (.back 10 ((W (t10 + 1)):Int) [0,1]))))
 (.callP (awakeO_c )
 (.ret (true)))))))))))))))))))):An Tryz.prog wantsW_s (Bool)) r0 = wantsW_vc t I2 m2 I3 I7 I8 m8 I9 I10 m10 I11 m11 I13 r0:=by kernel_rfl
theorem wantsW_ok (t:(List Int)) (I2:Tap → Int × Ovl → (Int × Int × (List (List Wnt)) × Ovl × Tap) → Prop) (m2:Tap → Int × Ovl → (Int × Int × (List (List Wnt)) × Ovl × Tap) → Nat) (I3:Tap → Int × Ovl → Int × Int × (List (List Wnt)) × Ovl × Tap → Bool → Prop) (I7:Tap → Int × Ovl → Int × Int × (List (List Wnt)) × Ovl × Tap → Bool → Int → (List Wnt) → Int → Bool → Prop) (I8:Tap → Int × Ovl → Int × Int × (List (List Wnt)) × Ovl × Tap → Bool → (Int × Int × Ovl) → Prop) (m8:Tap → Int × Ovl → Int × Int × (List (List Wnt)) × Ovl × Tap → Bool → (Int × Int × Ovl) → Nat) (I9:Tap → Int × Ovl → Int × Int × (List (List Wnt)) × Ovl × Tap → Bool → Int × Int × Ovl → Bool → Prop) (I10:Tap → Int × Ovl → Int × Int × (List (List Wnt)) × Ovl × Tap → Bool → Int × Int × Ovl → Bool → Int → Prop) (m10:Tap → Int × Ovl → Int × Int × (List (List Wnt)) × Ovl × Tap → Bool → Int × Int × Ovl → Bool → Int → Nat) (I11:Tap → Int × Ovl → Int × Int × (List (List Wnt)) × Ovl × Tap → Bool → Int × Int × Ovl → Bool → Int → Int → Int → Prop) (m11:Tap → Int × Ovl → Int × Int × (List (List Wnt)) × Ovl × Tap → Bool → Int × Int × Ovl → Bool → Int → Int → Int → Nat) (I13:Tap → Int × Ovl → Int × Int × (List (List Wnt)) × Ovl × Tap → Bool → Int × Int × Ovl → Bool → Int → Int → Int → Int → (List Wnt) × Int → Bool → Prop) (r0:Bool) (h:wantsW_vc t I2 m2 I3 I7 I8 m8 I9 I10 m10 I11 m11 I13 r0):PSpec Tryz.prog 7 [.sl 1 (t.map AV.int) false] (wantsW_e r0):=by
  have e:=wantsW_eq t I2 m2 I3 I7 I8 m8 I9 I10 m10 I11 m11 I13 r0
  rw [← e] at h
  exact mxP_ok (enc:=wantsW_e) h (AV.pureB_ok rfl)
theorem wantsW_p (t:List Int) (ok:wantsW_a t):∃ I2 m2 I3 I7 I8 m8 I9 I10 m10 I11 m11 I13,wantsW_vc t I2 m2 I3 I7 I8 m8 I9 I10 m10 I11 m11 I13 true:=by
  refine ⟨fun t0 _ u=>∃ (k p:Nat) (lw:Int → List Wnt),u.1 = 0 ∧ u.2.1 = k ∧ k ≤ 12 ∧ u.2.2.1 = ([2,3,5]:List Int).map lw ∧ u.2.2.2.2 = ⟨t0.L,p⟩ ∧ LW [2,3,5] u.2.2.2.1 k lw ∧ u.2.2.2.1.fl.length ≤ k * 14410,fun _ _ u=>12 - u.2.1.toNat,
    fun _ _ u x=>x = decide (u.2.1 < 12),
    fun _ _ _ _ _ _ t6 x=>x = decide (t6 = 0 ∨ t6 = 1),
    fun _ _ u _ v=>∃ m:Nat,v = (0,(m:Int),rds u.2.2.2.1 m) ∧ m ≤ 5,fun _ _ _ _ v=>5 - v.2.1.toNat,
    fun _ _ _ _ v x=>x = decide (v.2.1 < 5),
    fun _ _ _ _ _ _ x=>∃ a:Nat,x = a ∧ a ≤ 3,fun _ _ _ _ _ _ x=>3 - x.toNat,
    fun _ _ _ _ _ _ _ _ x=>∃ a:Nat,x = a ∧ a ≤ 3,fun _ _ _ _ _ _ _ _ x=>3 - x.toNat,
    fun _ _ _ _ _ _ _ _ _ _ _ x=>x = false,?_⟩
  have e2:newN [2,3,5] = (netOf [2,3,5],0):=if_pos (by decide)
  have o2:okR [2,3,5]:=by decide
  simp only [wantsW_vc,vcU,rfU,List.length_map]
  simp only [e2]
  refine ⟨trivial,?_⟩
  intro t0 h0
  refine ⟨⟨by decide,trivial⟩,?_⟩
  rintro _ rfl
  refine ⟨fitR_ok rfl,⟨0,0,fun _=>[],rfl,rfl,by omega,rfl,by rw [h0],LW.new o2,by simp [netOf]⟩,?_⟩
  rintro ⟨e,i,last,o,tp⟩ ⟨k,p,lw,he,hi,hk,hlast,htp,hL,hfl⟩
  simp only at he hi hlast htp hL hfl
  subst he hi hlast htp
  simp only
  refine ⟨⟨fun c=>by simp [c],fun c=>by simp [c]⟩,?_⟩
  rintro _ rfl
  refine ⟨fun ck=>?_,fun ck=>?_⟩
  · have ck:(k:Int) < 12:=of_decide_eq_true ck
    refine ⟨trivial,?_⟩
    intro t4 h4
    refine ⟨trivial,?_⟩
    intro w hw
    refine ⟨trivial,?_⟩
    intro t6 h6
    have hwk:WOk 7 w:=by rw [hw]; exact wantsT_ok _ _
    have m4:=Mod_range (x:=rawV t0.L p) (n:=3) (by omega)
    rw [← h4] at m4
    obtain ⟨n,hn⟩:∃ n:Nat,t4 = n:=⟨t4.toNat,by omega⟩
    clear h4 h6
    subst hn
    simp only [Int.toNat_natCast]
    rw [W_succ (n:=12) (by omega) (by omega)]
    refine ⟨⟨fun c=>?_,fun c=>?_⟩,?_⟩
    · have c:t6 = 0:=by simpa using c
      simp [c]
    · have c:t6 ≠ 0:=by simpa using c
      rw [Bool.eq_iff_iff]; simp [c]
    rintro _ rfl
    refine ⟨fun c=>⟨by omega,by simp; omega,fun x hx=>⟨by omega,by simp; omega,by simp; omega,fun y hy=>?_⟩⟩,fun c=>⟨fun c2=>⟨by omega,by simp; omega,fun x hx=>⟨by omega,by simp; omega,by simp; omega,fun y hy=>?_⟩⟩,fun c2=>?_⟩⟩
    · obtain ⟨z,nn⟩:=hL.change (mem_of_get hx) hwk ⟨by omega,by omega⟩
      obtain ⟨_,d⟩:=changeV_ok hL.oi z
      have hf:=congrArg List.length d.fl
      rw [set_lw hx]
      exact ⟨⟨k + 1,_,upW lw x w,z,rfl,by omega,rfl,rfl,nn.more (by omega),by omega⟩,by omega⟩
    · obtain ⟨z,nn⟩:=hL.restart (mem_of_get hx) hwk ⟨by omega,by omega⟩
      obtain ⟨_,d⟩:=restartV_ok hL.oi z
      have hf:=congrArg List.length d.fl
      rw [set_lw hx]
      exact ⟨⟨k + 1,_,upW lw x w,z,rfl,by omega,rfl,rfl,nn.more (by omega),by omega⟩,by omega⟩
    · have hF3:=faultsT_len (L:=t0.L) (n:=o.fl.length) (p:=rawP t0.L (wantsT t0.L (rawP t0.L p)).2)
      generalize faultsT t0.L (o.fl.length) (rawP t0.L (wantsT t0.L (rawP t0.L p)).2) = F at *
      obtain ⟨z,nn⟩:=hL.roundO F.1
      have e:=(hL.oi.roundO F.1).2.len
      exact ⟨⟨by omega,by omega⟩,⟨by omega,by omega⟩,⟨k + 1,_,lw,z,rfl,by omega,rfl,rfl,nn.more (by omega),by omega⟩,by omega⟩
  · have ck:¬ (k:Int) < 12:=of_decide_eq_false ck
    refine ⟨⟨0,rfl,by omega⟩,?_⟩
    rintro _ ⟨m,rfl,hm⟩
    obtain ⟨r1,r2⟩:=rds_ok hL.oi m
    simp only
    refine ⟨⟨fun c=>by simp [c],fun c=>(decide_eq_false c).symm⟩,?_⟩
    rintro _ rfl
    refine ⟨fun c=>?_,fun c=>?_⟩
    · have c:=of_decide_eq_true c
      rw [r1.roundO_nil,W_succ (n:=5) (by omega) (by omega)]
      exact ⟨⟨by omega,by simp⟩,⟨m + 1,rfl,by omega⟩,by omega⟩
    · have c:=of_decide_eq_false c
      have hm5:m = 5:=by omega
      subst hm5
      refine ⟨fun q=>by simp at q,fun _=>⟨⟨0,rfl,by omega⟩,?_⟩⟩
      rintro _ ⟨a,rfl,ha⟩
      simp only [Int.toNat_natCast]
      refine ⟨fun a1=>⟨by omega,by simp; omega,fun x hx=>⟨⟨0,rfl,by omega⟩,?_⟩⟩,fun _=>trivial⟩
      rintro _ ⟨b,rfl,hb⟩
      simp only [Int.toNat_natCast]
      refine ⟨fun b1=>⟨by omega,by simp; omega,fun y hy=>⟨trivial,?_⟩⟩,fun b1=>?_⟩
      · rintro _ rfl
        have hs:=(rds_quiet hL.oi).2.1
        have hl:=(rds_lw hL 5).wa y (mem_of_get hy)
        unfold it at hl
        rw [knownV_agreed r1 hs (mem_of_get hy) (mem_of_get hx),hl]
        refine ⟨⟨by simp,fun _=>⟨by simp; omega,by simp; omega,fun z hz=>?_⟩⟩,?_⟩
        · have:z = lw y:=by
            rw [List.getElem?_map,hy] at hz
            simpa using hz.symm
          simp [this]
        · rintro _ rfl
          rw [W_succ (n:=3) (by omega) (by omega)]
          exact ⟨by simp,fun _=>⟨⟨b + 1,rfl,by omega⟩,by omega⟩⟩
      · rw [W_succ (n:=3) (by omega) (by omega)]
        exact ⟨⟨a + 1,rfl,by omega⟩,by omega⟩
def wantsW_c (t:(List Int)):PC Tryz.prog:=⟨7,[(.s 1)],[.sl 1 (t.map AV.int) false],wantsW_e true,PSpec.of_ok fun ok=>(wantsW_p t ok).elim fun I2 h=>h.elim fun m2 h=>h.elim fun I3 h=>h.elim fun I7 h=>h.elim fun I8 h=>h.elim fun m8 h=>h.elim fun I9 h=>h.elim fun I10 h=>h.elim fun m10 h=>h.elim fun I11 h=>h.elim fun m11 h=>h.elim fun I13 h=>wantsW_ok t I2 m2 I3 I7 I8 m8 I9 I10 m10 I11 m11 I13 _ h,fnB_ok (by kernel_rfl)⟩
end Go.Proofs.YtglfecmdoekabaaGreatDoor
