/- Texts joined: G32 U16 G33 DG IG G34 G35 G36 U17 G40. -/
import Derived.Test.YtglfecmdoekabaaGreatDoorQW7
namespace Go.Proofs.YtglfecmdoekabaaGreatDoor
open Go Go.Am
set_option linter.unusedVariables false
set_option linter.unusedSimpArgs false
def okSpk (s:Spk):Prop:=okItms s.items ∧ s.peers.length ≤ 1000000
def okLsn (l:Lsn):Prop:=l.heard.length ≤ 1000000 ∧ ∀ h ∈ l.heard,okItms h.items
def okSigs (l:List Sig):Prop:=l.length ≤ 1000000 ∧ ∀ x ∈ l,x.srcs.length ≤ 1000000
theorem itms_ok {n:Int} {l:List Itm} (h:itmsOk n l):okItms l:=
  ⟨by have:=ver_len h; omega,fun x hx=>by have:=srcs_len (h.1 x hx).2.2; omega⟩
theorem spk_ok {s:Spk} (h:spkOk s):okSpk s:=⟨itms_ok h.2.2.2.1,by have:=h.2.2.2.2.1; omega⟩
theorem lsn_ok {l:Lsn} (h:lsnOk l):okLsn l:=⟨by have:=h.2.2.1; omega,fun x hx=>itms_ok (h.2.2.2.1 x hx).2.2.2.2⟩
theorem sig_srcs {x:Sig} (h:sigErr x = 0):x.srcs.length ≤ 1000000:=by
  unfold sigErr at h
  split at h
  · omega
  split at h
  · omega
  split at h
  · have:=srcs_len h; omega
  · split at h
    · omega
    · rename_i q
      have:x.srcs = []:=by
        by_cases e:x.srcs = []
        · exact e
        · exact absurd (.inr e) q
      rw [this]; simp
theorem set_self {α:Type} {l:List α} {k:Nat} {x:α} (h:l[k]? = some x):l.set k x = l:=by
  obtain ⟨hk,e⟩:=List.getElem?_eq_some_iff.mp h
  rw [← e]; exact List.set_getElem_self hk
def cloneT_a (s:(List Itm)):Prop:=okL [.sl 4 (s.map Itm.v) false]
def cloneT_s:Nat → Type
  | _=>Unit
def cloneT_e (r:(List Itm)):AV:=.vec 0
def cloneT_b (r:(List Itm)):List (Option Blk):=[some (.vec 4 (r.map Itm.v))]
def cloneT_vc (s:(List Itm)) (r0:(List Itm)):Prop:=
 ∀ b1:Bool,((s.map Itm.v) ≠ [] → b1 = false) →
 br (b1 != false)
 (Nf ⟨[(2,.k,.vec 0)],[.vec 4 [] rfl]⟩ [64] (Rf (cloneT_e []) (Rf (cloneT_b []) ([] = r0))))
 (Rf (α:=List AV) [] (Rf (α:=List AV) (s.map Itm.v)
 (ck (decide (0 + s.length ≤ 1000000))
 (Nf ⟨[(2,.k,.vec 0)],[.vec 4 (s.map Itm.v) (pureBL_map (fun _=>rfl) s)]⟩ [80] (Rf (cloneT_e s) (Rf (cloneT_b s) (s = r0)))))))
theorem cloneT_eq (s:(List Itm)) (r0:(List Itm)):mxH Tryz.prog 198 [.sl 4 (s.map Itm.v) false] [] .k cloneT_e cloneT_b ((.br 48 (.cmdL (.nilT 2 4) (.retH [] ⟨[(2,.k,.vec 0)],[.vec 4 [] rfl]⟩ [64]))
 (.app 80 Itm.v [] s
 (.retH s ⟨[(2,.k,.vec 0)],[.vec 4 (s.map Itm.v) (pureBL_map (fun _=>rfl) s)]⟩ [80]))):An Tryz.prog cloneT_s ((List Itm))) r0 = cloneT_vc s r0:=by kernel_rfl
theorem cloneT_ok (s:(List Itm)) (r0:(List Itm)) (h:cloneT_vc s r0):HSpec Tryz.prog 198 [.sl 4 (s.map Itm.v) false] [] (cloneT_e r0) (cloneT_b r0):=by
  have e:=cloneT_eq s r0
  rw [← e] at h
  exact mxH_ok (enc:=cloneT_e) (hB:=cloneT_b) h
theorem cloneT_p (s:List Itm) (h:s.length ≤ 1000000) (ok:cloneT_a s):cloneT_vc s s:=by
  simp only [cloneT_vc,vcU,rfU,List.length_map]
  intro b hb
  refine ⟨fun h1=>?_,fun _=>by first | omega | exact ⟨by omega,trivial⟩ | simpa using h⟩
  cases s with
  | nil=>rfl
  | cons x s=>simp at hb; simp [hb] at h1
def cloneT_h (s:(List Itm)) (h:s.length ≤ 1000000):HC Tryz.prog:=⟨198,[(.s 4)],[.sl 4 (s.map Itm.v) false],[],cloneT_e s,cloneT_b s,HSpec.of_okh fun ok _=>cloneT_ok s _ (cloneT_p s h ok),fnB_ok (by kernel_rfl),HcOk.of (by simp [hcB,belBL,AV.belB,allB,okBk,okBkO,cloneT_e,cloneT_b,pureBL_map (v:=Itm.v) (fun _=>rfl)])⟩
def cloneH_a (s:(List Hrd)):Prop:=okL [.sl 4 (s.map Hrd.v) false]
def cloneH_s:Nat → Type
  | _=>Unit
def cloneH_e (r:(List Hrd)):AV:=.vec 0
def cloneH_b (r:(List Hrd)):List (Option Blk):=[some (.vec 4 (r.map Hrd.v))]
def cloneH_vc (s:(List Hrd)) (r0:(List Hrd)):Prop:=
 ∀ b1:Bool,((s.map Hrd.v) ≠ [] → b1 = false) →
 br (b1 != false)
 (Nf ⟨[(2,.k,.vec 0)],[.vec 4 [] rfl]⟩ [64] (Rf (cloneH_e []) (Rf (cloneH_b []) ([] = r0))))
 (Rf (α:=List AV) [] (Rf (α:=List AV) (s.map Hrd.v)
 (ck (decide (0 + s.length ≤ 1000000))
 (Nf ⟨[(2,.k,.vec 0)],[.vec 4 (s.map Hrd.v) (pureBL_map (fun _=>rfl) s)]⟩ [80] (Rf (cloneH_e s) (Rf (cloneH_b s) (s = r0)))))))
theorem cloneH_eq (s:(List Hrd)) (r0:(List Hrd)):mxH Tryz.prog 188 [.sl 4 (s.map Hrd.v) false] [] .k cloneH_e cloneH_b ((.br 48 (.cmdL (.nilT 2 4) (.retH [] ⟨[(2,.k,.vec 0)],[.vec 4 [] rfl]⟩ [64]))
 (.app 80 Hrd.v [] s
 (.retH s ⟨[(2,.k,.vec 0)],[.vec 4 (s.map Hrd.v) (pureBL_map (fun _=>rfl) s)]⟩ [80]))):An Tryz.prog cloneH_s ((List Hrd))) r0 = cloneH_vc s r0:=by kernel_rfl
theorem cloneH_ok (s:(List Hrd)) (r0:(List Hrd)) (h:cloneH_vc s r0):HSpec Tryz.prog 188 [.sl 4 (s.map Hrd.v) false] [] (cloneH_e r0) (cloneH_b r0):=by
  have e:=cloneH_eq s r0
  rw [← e] at h
  exact mxH_ok (enc:=cloneH_e) (hB:=cloneH_b) h
theorem cloneH_p (s:List Hrd) (h:s.length ≤ 1000000) (ok:cloneH_a s):cloneH_vc s s:=by
  simp only [cloneH_vc,vcU,rfU,List.length_map]
  intro b hb
  refine ⟨fun h1=>?_,fun _=>by first | omega | exact ⟨by omega,trivial⟩ | simpa using h⟩
  cases s with
  | nil=>rfl
  | cons x s=>simp at hb; simp [hb] at h1
def cloneH_h (s:(List Hrd)) (h:s.length ≤ 1000000):HC Tryz.prog:=⟨188,[(.s 4)],[.sl 4 (s.map Hrd.v) false],[],cloneH_e s,cloneH_b s,HSpec.of_okh fun ok _=>cloneH_ok s _ (cloneH_p s h ok),fnB_ok (by kernel_rfl),HcOk.of (by simp [hcB,belBL,AV.belB,allB,okBk,okBkO,cloneH_e,cloneH_b,pureBL_map (v:=Hrd.v) (fun _=>rfl)])⟩
def cloneG_a (s:(List Sig)):Prop:=okL [.sl 10 (s.map Sig.v) false]
def cloneG_s:Nat → Type
  | _=>Unit
def cloneG_e (r:(List Sig)):AV:=.vec 0
def cloneG_b (r:(List Sig)):List (Option Blk):=[some (.vec 10 (r.map Sig.v))]
def cloneG_vc (s:(List Sig)) (r0:(List Sig)):Prop:=
 ∀ b1:Bool,((s.map Sig.v) ≠ [] → b1 = false) →
 br (b1 != false)
 (Nf ⟨[(2,.k,.vec 0)],[.vec 10 [] rfl]⟩ [64] (Rf (cloneG_e []) (Rf (cloneG_b []) ([] = r0))))
 (Rf (α:=List AV) [] (Rf (α:=List AV) (s.map Sig.v)
 (ck (decide (0 + s.length ≤ 1000000))
 (Nf ⟨[(2,.k,.vec 0)],[.vec 10 (s.map Sig.v) (pureBL_map (fun _=>rfl) s)]⟩ [80] (Rf (cloneG_e s) (Rf (cloneG_b s) (s = r0)))))))
theorem cloneG_eq (s:(List Sig)) (r0:(List Sig)):mxH Tryz.prog 163 [.sl 10 (s.map Sig.v) false] [] .k cloneG_e cloneG_b ((.br 48 (.cmdL (.nilT 2 10) (.retH [] ⟨[(2,.k,.vec 0)],[.vec 10 [] rfl]⟩ [64]))
 (.app 80 Sig.v [] s
 (.retH s ⟨[(2,.k,.vec 0)],[.vec 10 (s.map Sig.v) (pureBL_map (fun _=>rfl) s)]⟩ [80]))):An Tryz.prog cloneG_s ((List Sig))) r0 = cloneG_vc s r0:=by kernel_rfl
theorem cloneG_ok (s:(List Sig)) (r0:(List Sig)) (h:cloneG_vc s r0):HSpec Tryz.prog 163 [.sl 10 (s.map Sig.v) false] [] (cloneG_e r0) (cloneG_b r0):=by
  have e:=cloneG_eq s r0
  rw [← e] at h
  exact mxH_ok (enc:=cloneG_e) (hB:=cloneG_b) h
theorem cloneG_p (s:List Sig) (h:s.length ≤ 1000000) (ok:cloneG_a s):cloneG_vc s s:=by
  simp only [cloneG_vc,vcU,rfU,List.length_map]
  intro b hb
  refine ⟨fun h1=>?_,fun _=>by first | omega | exact ⟨by omega,trivial⟩ | simpa using h⟩
  cases s with
  | nil=>rfl
  | cons x s=>simp at hb; simp [hb] at h1
def cloneG_h (s:(List Sig)) (h:s.length ≤ 1000000):HC Tryz.prog:=⟨163,[(.s 10)],[.sl 10 (s.map Sig.v) false],[],cloneG_e s,cloneG_b s,HSpec.of_okh fun ok _=>cloneG_ok s _ (cloneG_p s h ok),fnB_ok (by kernel_rfl),HcOk.of (by simp [hcB,belBL,AV.belB,allB,okBk,okBkO,cloneG_e,cloneG_b,pureBL_map (v:=Sig.v) (fun _=>rfl)])⟩
def itemsC_a (l:(List Itm)):Prop:=okL [.sl 4 (l.map Itm.v) false]
def itemsC_n0 (l:(List Itm)) (t0:Int × (List Itm)):NF:=⟨[(0,.k,.vec 0),(7,.k,.int ((l.map Itm.v).length:Int)),(8,.k,.int t0.1)],[.vec 4 (t0.2.map Itm.v) (pureBL_map (fun _=>rfl) t0.2)]⟩
def itemsC_s:Nat → Type
  | 0=>Int × (List Itm)
  | _=>Unit
def itemsC_e (r:(List Itm)):AV:=.sl 4 (r.map Itm.v) false
def itemsC_vc (l:(List Itm)) (I0:(Int × (List Itm)) → Prop) (m0:(Int × (List Itm)) → Nat) (r0:(List Itm)):Prop:=
 ∃ h1:l.length ≤ 1000000,
 Ch (cloneT_h l h1) [] 32
 (Nf (itemsC_n0 l (0,l)) [32] (I0 (0,l)) ∧ ∀ t0:Int × (List Itm),I0 t0 →
 br (decide (t0.1 < ((l.map Itm.v).length:Int)))
 (ck (cond (decide (0 ≤ t0.1)) (decide (t0.1 < ((t0.2.map Itm.v).length:Int))) false)
 (Rf (t0.2.map Itm.v) (ck (decide (t0.1.toNat < t0.2.length))
 (∀ x2,t0.2[t0.1.toNat]? = some x2 →
 ∃ h3:x2.srcs.length ≤ 1000000,
 Cl (cloneI_c x2.srcs h3)
 (ck (cond (decide (0 ≤ t0.1)) (decide (t0.1 < ((t0.2.map Itm.v).length:Int))) false)
 (Rf (t0.2.map Itm.v) (ck (decide (t0.1.toNat < t0.2.length))
 (∀ y4,t0.2[t0.1.toNat]? = some y4 → Rf (Itm.v (⟨y4.ver,y4.grp,y4.mode,x2.srcs⟩:Itm))
 (Nf (itemsC_n0 l (W (t0.1 + 1),t0.2.set t0.1.toNat (⟨y4.ver,y4.grp,y4.mode,x2.srcs⟩:Itm))) [0] (I0 (W (t0.1 + 1),t0.2.set t0.1.toNat (⟨y4.ver,y4.grp,y4.mode,x2.srcs⟩:Itm)) ∧ m0 (W (t0.1 + 1),t0.2.set t0.1.toNat (⟨y4.ver,y4.grp,y4.mode,x2.srcs⟩:Itm)) < m0 t0))))))))))
 (Rf (t0.2.map Itm.v) (Rf (itemsC_e (t0.2)) ((t0.2) = r0))))
theorem itemsC_eq (l:(List Itm)) (I0:(Int × (List Itm)) → Prop) (m0:(Int × (List Itm)) → Nat) (r0:(List Itm)):mxP Tryz.prog 187 [.sl 4 (l.map Itm.v) false] (.s 4) itemsC_e ((.req 32 (l.length ≤ 1000000) fun h1 =>
 (.callH [] (cloneT_h l h1)
 (.loop 0 (itemsC_n0 l) (I0) (m0) ((0,l):Int × (List Itm)) [32] fun (t0:Int × (List Itm)) =>
 (.br 17 (.el 161 Itm.v t0.2 fun x2 =>
 (.req 177 (x2.srcs.length ≤ 1000000) fun h3 =>
 (.callP (cloneI_c x2.srcs h3)
 (.st 241 Itm.v t0.2 (fun y4=>(⟨y4.ver,y4.grp,y4.mode,x2.srcs⟩:Itm)) fun y4 =>
 (.back 0 ((W (t0.1 + 1),t0.2.set t0.1.toNat (⟨y4.ver,y4.grp,y4.mode,x2.srcs⟩:Itm)):Int × (List Itm)) [0])))))
 (.cmdL (.frzE 0 (t0.2.map Itm.v) (pureBL_map (fun _=>rfl) t0.2)) (.ret (t0.2))))))):An Tryz.prog itemsC_s ((List Itm))) r0 = itemsC_vc l I0 m0 r0:=by kernel_rfl
theorem itemsC_ok (l:(List Itm)) (I0:(Int × (List Itm)) → Prop) (m0:(Int × (List Itm)) → Nat) (r0:(List Itm)) (h:itemsC_vc l I0 m0 r0):PSpec Tryz.prog 187 [.sl 4 (l.map Itm.v) false] (itemsC_e r0):=by
  have e:=itemsC_eq l I0 m0 r0
  rw [← e] at h
  exact mxP_ok (enc:=itemsC_e) h (AV.pureB_ok rfl)
theorem itemsC_p (l:List Itm) (h:okItms l) (ok:itemsC_a l):∃ I m,itemsC_vc l I m l:=by
  obtain ⟨h1,h2⟩:=h
  refine ⟨fun t=>∃ k:Nat,t = ((k:Int),l) ∧ k ≤ l.length,fun t=>l.length - t.1.toNat,?_⟩
  simp only [itemsC_vc,vcU,rfU,List.length_map]
  refine ⟨by omega,⟨0,rfl,by omega⟩,?_⟩
  rintro _ ⟨k,rfl,hk⟩
  simp only [Int.toNat_natCast]
  refine ⟨fun h3=>⟨by simp; omega,by omega,fun x hx=>⟨h2 x (mem_of_get hx),by simp; omega,by omega,fun y hy=>?_⟩⟩,fun _=>trivial⟩
  cases hx.symm.trans hy
  rw [W_succ (n:=l.length) (by omega) (by omega)]
  refine ⟨⟨k + 1,?_,by omega⟩,by omega⟩
  exact congrArg _ (set_self hx)
def itemsC_c (l:(List Itm)) (h:okItms l):PC Tryz.prog:=⟨187,[(.s 4)],[.sl 4 (l.map Itm.v) false],itemsC_e l,PSpec.of_ok fun ok=>(itemsC_p l h ok).elim fun I0 h=>h.elim fun m0 h=>itemsC_ok l I0 m0 _ h,fnB_ok (by kernel_rfl)⟩
def lsnrC_a (l:Lsn):Prop:=okL [.agg [.int l.router,.int l.epoch,.sl 4 (l.heard.map Hrd.v) false]]
def lsnrC_n0 (l:Lsn) (t0:Int × (List Hrd)):NF:=⟨[(1,.k,.ref 0 0),(2,.k,.ref 2 0),(10,.k,.int ((l.heard.map Hrd.v).length:Int)),(11,.k,.int t0.1)],[.box (.agg [.int l.router,.int l.epoch,.vec 1]),.vec 4 (t0.2.map Hrd.v) (pureBL_map (fun _=>rfl) t0.2),.box (.agg [.int 0,.int 0,.sl 0 [] true])]⟩
def lsnrC_s:Nat → Type
  | 0=>Int × (List Hrd)
  | _=>Unit
def lsnrC_e (r:Lsn):AV:=Lsn.v r
def lsnrC_vc (l:Lsn) (I0:(Int × (List Hrd)) → Prop) (m0:(Int × (List Hrd)) → Nat) (r0:Lsn):Prop:=
 ∃ h1:l.heard.length ≤ 1000000,
 Ch (cloneH_h l.heard h1) [] 64
 (Nf (lsnrC_n0 l (0,l.heard)) [0,64,16] (I0 (0,l.heard)) ∧ ∀ t0:Int × (List Hrd),I0 t0 →
 br (decide (t0.1 < ((l.heard.map Hrd.v).length:Int)))
 (ck (cond (decide (0 ≤ t0.1)) (decide (t0.1 < ((t0.2.map Hrd.v).length:Int))) false)
 (Rf (t0.2.map Hrd.v) (ck (decide (t0.1.toNat < t0.2.length))
 (∀ x2,t0.2[t0.1.toNat]? = some x2 →
 ∃ h3:okItms x2.items,
 Cl (itemsC_c x2.items h3)
 (ck (cond (decide (0 ≤ t0.1)) (decide (t0.1 < ((t0.2.map Hrd.v).length:Int))) false)
 (Rf (t0.2.map Hrd.v) (ck (decide (t0.1.toNat < t0.2.length))
 (∀ y4,t0.2[t0.1.toNat]? = some y4 → Rf (Hrd.v (⟨y4.router,y4.epoch,y4.ver,x2.items⟩:Hrd))
 (Nf (lsnrC_n0 l (W (t0.1 + 1),t0.2.set t0.1.toNat (⟨y4.router,y4.epoch,y4.ver,x2.items⟩:Hrd))) [0,1,2] (I0 (W (t0.1 + 1),t0.2.set t0.1.toNat (⟨y4.router,y4.epoch,y4.ver,x2.items⟩:Hrd)) ∧ m0 (W (t0.1 + 1),t0.2.set t0.1.toNat (⟨y4.router,y4.epoch,y4.ver,x2.items⟩:Hrd)) < m0 t0))))))))))
 (Rf (t0.2.map Hrd.v) (Rf (lsnrC_e ((⟨l.router,l.epoch,t0.2⟩:Lsn))) (((⟨l.router,l.epoch,t0.2⟩:Lsn)) = r0))))
theorem lsnrC_eq (l:Lsn) (I0:(Int × (List Hrd)) → Prop) (m0:(Int × (List Hrd)) → Nat) (r0:Lsn):mxP Tryz.prog 158 [.agg [.int l.router,.int l.epoch,.sl 4 (l.heard.map Hrd.v) false]] (.a [.k,.k,(.s 4)]) lsnrC_e ((.req 64 (l.heard.length ≤ 1000000) fun h1 =>
 (.callH [] (cloneH_h l.heard h1)
 (.loop 0 (lsnrC_n0 l) (I0) (m0) ((0,l.heard):Int × (List Hrd)) [0,64,16] fun (t0:Int × (List Hrd)) =>
 (.br 19 (.el 179 Hrd.v t0.2 fun x2 =>
 (.req 195 (okItms x2.items) fun h3 =>
 (.callP (itemsC_c x2.items h3)
 (.st 243 Hrd.v t0.2 (fun y4=>(⟨y4.router,y4.epoch,y4.ver,x2.items⟩:Hrd)) fun y4 =>
 (.back 0 ((W (t0.1 + 1),t0.2.set t0.1.toNat (⟨y4.router,y4.epoch,y4.ver,x2.items⟩:Hrd)):Int × (List Hrd)) [0,1,2])))))
 (.cmdL (.frzE 1 (t0.2.map Hrd.v) (pureBL_map (fun _=>rfl) t0.2)) (.ret ((⟨l.router,l.epoch,t0.2⟩:Lsn)))))))):An Tryz.prog lsnrC_s (Lsn)) r0 = lsnrC_vc l I0 m0 r0:=by kernel_rfl
theorem lsnrC_ok (l:Lsn) (I0:(Int × (List Hrd)) → Prop) (m0:(Int × (List Hrd)) → Nat) (r0:Lsn) (h:lsnrC_vc l I0 m0 r0):PSpec Tryz.prog 158 [.agg [.int l.router,.int l.epoch,.sl 4 (l.heard.map Hrd.v) false]] (lsnrC_e r0):=by
  have e:=lsnrC_eq l I0 m0 r0
  rw [← e] at h
  exact mxP_ok (enc:=lsnrC_e) h (AV.pureB_ok rfl)
theorem lsnrC_p (l:Lsn) (h:okLsn l) (ok:lsnrC_a l):∃ I m,lsnrC_vc l I m l:=by
  obtain ⟨h1,h2⟩:=h
  refine ⟨fun t=>∃ k:Nat,t = ((k:Int),l.heard) ∧ k ≤ l.heard.length,fun t=>l.heard.length - t.1.toNat,?_⟩
  simp only [lsnrC_vc,vcU,rfU,List.length_map]
  refine ⟨by omega,⟨0,rfl,by omega⟩,?_⟩
  rintro _ ⟨k,rfl,hk⟩
  simp only [Int.toNat_natCast]
  refine ⟨fun h3=>⟨by simp; omega,by omega,fun x hx=>⟨h2 x (mem_of_get hx),by simp; omega,by omega,fun y hy=>?_⟩⟩,fun _=>trivial⟩
  cases hx.symm.trans hy
  rw [W_succ (n:=l.heard.length) (by omega) (by omega)]
  refine ⟨⟨k + 1,?_,by omega⟩,by omega⟩
  exact congrArg _ (set_self hx)
def lsnrC_c (l:Lsn) (h:okLsn l):PC Tryz.prog:=⟨158,[(.a [.k,.k,(.s 4)])],[.agg [.int l.router,.int l.epoch,.sl 4 (l.heard.map Hrd.v) false]],lsnrC_e l,PSpec.of_ok fun ok=>(lsnrC_p l h ok).elim fun I0 h=>h.elim fun m0 h=>lsnrC_ok l I0 m0 _ h,fnB_ok (by kernel_rfl)⟩
def sigsC_a (l:(List Sig)):Prop:=okL [.sl 10 (l.map Sig.v) false]
def sigsC_n0 (l:(List Sig)) (t0:Int × (List Sig)):NF:=⟨[(0,.k,.vec 0),(7,.k,.int ((l.map Sig.v).length:Int)),(8,.k,.int t0.1)],[.vec 10 (t0.2.map Sig.v) (pureBL_map (fun _=>rfl) t0.2)]⟩
def sigsC_s:Nat → Type
  | 0=>Int × (List Sig)
  | _=>Unit
def sigsC_e (r:(List Sig)):AV:=.vec 0
def sigsC_b (r:(List Sig)):List (Option Blk):=[some (.vec 10 (r.map Sig.v))]
def sigsC_vc (l:(List Sig)) (I0:(Int × (List Sig)) → Prop) (m0:(Int × (List Sig)) → Nat) (r0:(List Sig)):Prop:=
 ∃ h1:l.length ≤ 1000000,
 Ch (cloneG_h l h1) [] 32
 (Nf (sigsC_n0 l (0,l)) [32] (I0 (0,l)) ∧ ∀ t0:Int × (List Sig),I0 t0 →
 br (decide (t0.1 < ((l.map Sig.v).length:Int)))
 (ck (cond (decide (0 ≤ t0.1)) (decide (t0.1 < ((t0.2.map Sig.v).length:Int))) false)
 (Rf (t0.2.map Sig.v) (ck (decide (t0.1.toNat < t0.2.length))
 (∀ x2,t0.2[t0.1.toNat]? = some x2 →
 ∃ h3:x2.srcs.length ≤ 1000000,
 Cl (cloneI_c x2.srcs h3)
 (ck (cond (decide (0 ≤ t0.1)) (decide (t0.1 < ((t0.2.map Sig.v).length:Int))) false)
 (Rf (t0.2.map Sig.v) (ck (decide (t0.1.toNat < t0.2.length))
 (∀ y4,t0.2[t0.1.toNat]? = some y4 → Rf (Sig.v (⟨y4.kind,y4.src,y4.dst,y4.epoch,y4.ver,y4.prev,y4.pep,y4.grp,y4.mode,x2.srcs⟩:Sig))
 (Nf (sigsC_n0 l (W (t0.1 + 1),t0.2.set t0.1.toNat (⟨y4.kind,y4.src,y4.dst,y4.epoch,y4.ver,y4.prev,y4.pep,y4.grp,y4.mode,x2.srcs⟩:Sig))) [0] (I0 (W (t0.1 + 1),t0.2.set t0.1.toNat (⟨y4.kind,y4.src,y4.dst,y4.epoch,y4.ver,y4.prev,y4.pep,y4.grp,y4.mode,x2.srcs⟩:Sig)) ∧ m0 (W (t0.1 + 1),t0.2.set t0.1.toNat (⟨y4.kind,y4.src,y4.dst,y4.epoch,y4.ver,y4.prev,y4.pep,y4.grp,y4.mode,x2.srcs⟩:Sig)) < m0 t0))))))))))
 (Nf ⟨[(2,.k,.vec 0)],[.vec 10 (t0.2.map Sig.v) (pureBL_map (fun _=>rfl) t0.2)]⟩ [0] (Rf (sigsC_e t0.2) (Rf (sigsC_b t0.2) (t0.2 = r0)))))
theorem sigsC_eq (l:(List Sig)) (I0:(Int × (List Sig)) → Prop) (m0:(Int × (List Sig)) → Nat) (r0:(List Sig)):mxH Tryz.prog 110 [.sl 10 (l.map Sig.v) false] [] .k sigsC_e sigsC_b ((.req 32 (l.length ≤ 1000000) fun h1 =>
 (.callH [] (cloneG_h l h1)
 (.loop 0 (sigsC_n0 l) (I0) (m0) ((0,l):Int × (List Sig)) [32] fun (t0:Int × (List Sig)) =>
 (.br 17 (.el 161 Sig.v t0.2 fun x2 =>
 (.req 177 (x2.srcs.length ≤ 1000000) fun h3 =>
 (.callP (cloneI_c x2.srcs h3)
 (.st 241 Sig.v t0.2 (fun y4=>(⟨y4.kind,y4.src,y4.dst,y4.epoch,y4.ver,y4.prev,y4.pep,y4.grp,y4.mode,x2.srcs⟩:Sig)) fun y4 =>
 (.back 0 ((W (t0.1 + 1),t0.2.set t0.1.toNat (⟨y4.kind,y4.src,y4.dst,y4.epoch,y4.ver,y4.prev,y4.pep,y4.grp,y4.mode,x2.srcs⟩:Sig)):Int × (List Sig)) [0])))))
 (.retH t0.2 ⟨[(2,.k,.vec 0)],[.vec 10 (t0.2.map Sig.v) (pureBL_map (fun _=>rfl) t0.2)]⟩ [0]))))):An Tryz.prog sigsC_s ((List Sig))) r0 = sigsC_vc l I0 m0 r0:=by kernel_rfl
theorem sigsC_ok (l:(List Sig)) (I0:(Int × (List Sig)) → Prop) (m0:(Int × (List Sig)) → Nat) (r0:(List Sig)) (h:sigsC_vc l I0 m0 r0):HSpec Tryz.prog 110 [.sl 10 (l.map Sig.v) false] [] (sigsC_e r0) (sigsC_b r0):=by
  have e:=sigsC_eq l I0 m0 r0
  rw [← e] at h
  exact mxH_ok (enc:=sigsC_e) (hB:=sigsC_b) h
theorem sigsC_p (l:List Sig) (h:okSigs l) (ok:sigsC_a l):∃ I m,sigsC_vc l I m l:=by
  obtain ⟨h1,h2⟩:=h
  refine ⟨fun t=>∃ k:Nat,t = ((k:Int),l) ∧ k ≤ l.length,fun t=>l.length - t.1.toNat,?_⟩
  simp only [sigsC_vc,vcU,rfU,List.length_map]
  refine ⟨by omega,⟨0,rfl,by omega⟩,?_⟩
  rintro _ ⟨k,rfl,hk⟩
  simp only [Int.toNat_natCast]
  refine ⟨fun h3=>⟨by simp; omega,by omega,fun x hx=>⟨h2 x (mem_of_get hx),by simp; omega,by omega,fun y hy=>?_⟩⟩,fun _=>trivial⟩
  cases hx.symm.trans hy
  rw [W_succ (n:=l.length) (by omega) (by omega)]
  refine ⟨⟨k + 1,?_,by omega⟩,by omega⟩
  exact congrArg _ (set_self hx)
def sigsC_h (l:(List Sig)) (h:okSigs l):HC Tryz.prog:=⟨110,[(.s 10)],[.sl 10 (l.map Sig.v) false],[],sigsC_e l,sigsC_b l,HSpec.of_okh fun ok _=>(sigsC_p l h ok).elim fun I0 h=>h.elim fun m0 h=>sigsC_ok l I0 m0 _ h,fnB_ok (by kernel_rfl),HcOk.of (by simp [hcB,belBL,AV.belB,allB,okBk,okBkO,sigsC_e,sigsC_b,pureBL_map (v:=Sig.v) (fun _=>rfl)])⟩
def spkrC_a (s:Spk):Prop:=okL [.agg [.int s.router,.int s.epoch,.int s.last,.sl 4 (s.items.map Itm.v) false,.sl 3 (s.peers.map Per.v) false]]
def spkrC_s:Nat → Type
  | _=>Unit
def spkrC_e (r:Spk):AV:=Spk.v r
def spkrC_vc (s:Spk) (r0:Spk):Prop:=
 ∃ h1:okItms s.items,
 Cl (itemsC_c s.items h1)
 (∃ h2:s.peers.length ≤ 1000000,
 Ch (cloneP_h s.peers h2) [] 112
 (Rf (s.peers.map Per.v) (Rf (spkrC_e (s)) ((s) = r0))))
theorem spkrC_eq (s:Spk) (r0:Spk):mxP Tryz.prog 157 [.agg [.int s.router,.int s.epoch,.int s.last,.sl 4 (s.items.map Itm.v) false,.sl 3 (s.peers.map Per.v) false]] (.a [.k,.k,.k,(.s 4),(.s 3)]) spkrC_e ((.req 64 (okItms s.items) fun h1 =>
 (.callP (itemsC_c s.items h1)
 (.req 112 (s.peers.length ≤ 1000000) fun h2 =>
 (.callH [] (cloneP_h s.peers h2)
 (.cmdL (.frzE 112 (s.peers.map Per.v) (pureBL_map (fun _=>rfl) s.peers)) (.ret (s))))))):An Tryz.prog spkrC_s (Spk)) r0 = spkrC_vc s r0:=by kernel_rfl
theorem spkrC_ok (s:Spk) (r0:Spk) (h:spkrC_vc s r0):PSpec Tryz.prog 157 [.agg [.int s.router,.int s.epoch,.int s.last,.sl 4 (s.items.map Itm.v) false,.sl 3 (s.peers.map Per.v) false]] (spkrC_e r0):=by
  have e:=spkrC_eq s r0
  rw [← e] at h
  exact mxP_ok (enc:=spkrC_e) h (AV.pureB_ok rfl)
theorem spkrC_p (s:Spk) (h:okSpk s) (ok:spkrC_a s):spkrC_vc s s:=by
  simp only [spkrC_vc,vcU,rfU,List.length_map]
  exact ⟨h.1,h.2,trivial⟩
def spkrC_c (s:Spk) (h:okSpk s):PC Tryz.prog:=⟨157,[(.a [.k,.k,.k,(.s 4),(.s 3)])],[.agg [.int s.router,.int s.epoch,.int s.last,.sl 4 (s.items.map Itm.v) false,.sl 3 (s.peers.map Per.v) false]],spkrC_e s,PSpec.of_ok fun ok=>spkrC_ok s _ (spkrC_p s h ok),fnB_ok (by kernel_rfl)⟩
theorem ovl_sigs {o:Ovl} (h:ovlOk o) (hl:o.fl.length ≤ 1000000):okSigs o.fl:=⟨hl,fun x hx=>sig_srcs (h.2 x hx).1⟩
def copO_a (o:Ovl):Prop:=okL [.agg [.sl 5 (o.sp.map Spk.v) false,.sl 3 (o.ls.map Lsn.v) false,.sl 10 (o.fl.map Sig.v) false]]
def copO_n0 (o:Ovl) (t0:Int × (List Lsn) × (List Spk)):NF:=⟨[(1,.k,.ref 0 0),(2,.k,.ref 1 0),(3,.k,.ref 2 0),(11,.k,.int ((o.sp.map Spk.v).length:Int)),(12,.k,.int t0.1)],[.box (.agg [.sl 5 (o.sp.map Spk.v) false,.sl 3 (o.ls.map Lsn.v) false,.sl 10 (o.fl.map Sig.v) false]),.box (.agg [.sl 0 [] true,.sl 0 [] true,.sl 0 [] true]),.box (.agg [.vec 3,.vec 4,.vec 5]),.vec 5 (t0.2.2.map Spk.v) (pureBL_map (fun _=>rfl) t0.2.2),.vec 3 (t0.2.1.map Lsn.v) (pureBL_map (fun _=>rfl) t0.2.1),.vec 10 (o.fl.map Sig.v) (pureBL_map (fun _=>rfl) o.fl)]⟩
def copO_s:Nat → Type
  | 0=>Int × (List Lsn) × (List Spk)
  | _=>Unit
def copO_e (r:Ovl):AV:=.agg [.vec 0,.vec 1,.vec 2]
def copO_b (r:Ovl):List (Option Blk):=[some (.vec 5 (r.sp.map Spk.v)),some (.vec 3 (r.ls.map Lsn.v)),some (.vec 10 (r.fl.map Sig.v))]
def copO_vc (o:Ovl) (I0:(Int × (List Lsn) × (List Spk)) → Prop) (m0:(Int × (List Lsn) × (List Spk)) → Nat) (r0:Ovl):Prop:=
 ∃ h1:okSigs o.fl,
 Ch (sigsC_h o.fl h1) [] 64
 (Nf (copO_n0 o (0,[],[])) [0,16,96,192,193,64] (I0 (0,[],[])) ∧ ∀ t0:Int × (List Lsn) × (List Spk),I0 t0 →
 br (decide (t0.1 < ((o.sp.map Spk.v).length:Int)))
 (Rf (o.sp.map Spk.v) (ck (decide (0 ≤ t0.1)) (ck (decide (t0.1 < (o.sp.length:Int)))
 (∀ x2,o.sp[t0.1.toNat]? = some x2 →
 ∃ h3:okSpk x2,
 Cl (spkrC_c x2 h3)
 (Rf (α:=List AV) (t0.2.2.map Spk.v) (Rf (α:=List AV) [.agg [.int x2.router,.int x2.epoch,.int x2.last,.sl 4 (x2.items.map Itm.v) false,.sl 3 (x2.peers.map Per.v) false]]
 (ck (decide (t0.2.2.length + 1 ≤ 1000000))
 (Rf (o.ls.map Lsn.v) (ck (decide (0 ≤ t0.1)) (ck (decide (t0.1 < (o.ls.length:Int)))
 (∀ x4,o.ls[t0.1.toNat]? = some x4 →
 ∃ h5:okLsn x4,
 Cl (lsnrC_c x4 h5)
 (Rf (α:=List AV) (t0.2.1.map Lsn.v) (Rf (α:=List AV) [.agg [.int x4.router,.int x4.epoch,.sl 4 (x4.heard.map Hrd.v) false]]
 (ck (decide (t0.2.1.length + 1 ≤ 1000000))
 (Nf (copO_n0 o (W (t0.1 + 1),t0.2.1 ++ [x4],t0.2.2 ++ [x2])) [0,1,2,198,358,5] (I0 (W (t0.1 + 1),t0.2.1 ++ [x4],t0.2.2 ++ [x2]) ∧ m0 (W (t0.1 + 1),t0.2.1 ++ [x4],t0.2.2 ++ [x2]) < m0 t0))))))))))))))))
 (Nf ⟨[(2,.k,.ref 3 0)],[.vec 5 (t0.2.2.map Spk.v) (pureBL_map (fun _=>rfl) t0.2.2),.vec 3 (t0.2.1.map Lsn.v) (pureBL_map (fun _=>rfl) t0.2.1),.vec 10 (o.fl.map Sig.v) (pureBL_map (fun _=>rfl) o.fl),.box (.agg [.vec 0,.vec 1,.vec 2])]⟩ [3,4,5,1] (Rf (copO_e (⟨t0.2.2,t0.2.1,o.fl⟩:Ovl)) (Rf (copO_b (⟨t0.2.2,t0.2.1,o.fl⟩:Ovl)) ((⟨t0.2.2,t0.2.1,o.fl⟩:Ovl) = r0)))))
theorem copO_eq (o:Ovl) (I0:(Int × (List Lsn) × (List Spk)) → Prop) (m0:(Int × (List Lsn) × (List Spk)) → Nat) (r0:Ovl):mxH Tryz.prog 107 [.agg [.sl 5 (o.sp.map Spk.v) false,.sl 3 (o.ls.map Lsn.v) false,.sl 10 (o.fl.map Sig.v) false]] [] .k copO_e copO_b ((.req 64 (okSigs o.fl) fun h1 =>
 (.callH [] (sigsC_h o.fl h1)
 (.cmdL (.nilB 96 0 5) (.cmdL (.nilB 96 1 3) (.loop 0 (copO_n0 o) (I0) (m0) ((0,[],[]):Int × (List Lsn) × (List Spk)) [0,16,96,192,193,64] fun (t0:Int × (List Lsn) × (List Spk)) =>
 (.br 22 (.el 134 Spk.v o.sp fun x2 =>
 (.req 166 (okSpk x2) fun h3 =>
 (.callP (spkrC_c x2 h3)
 (.app 198 Spk.v t0.2.2 [x2]
 (.el 294 Lsn.v o.ls fun x4 =>
 (.req 326 (okLsn x4) fun h5 =>
 (.callP (lsnrC_c x4 h5)
 (.app 358 Lsn.v t0.2.1 [x4]
 (.back 0 ((W (t0.1 + 1),t0.2.1 ++ [x4],t0.2.2 ++ [x2]):Int × (List Lsn) × (List Spk)) [0,1,2,198,358,5])))))))))
 (.retH (⟨t0.2.2,t0.2.1,o.fl⟩:Ovl) ⟨[(2,.k,.ref 3 0)],[.vec 5 (t0.2.2.map Spk.v) (pureBL_map (fun _=>rfl) t0.2.2),.vec 3 (t0.2.1.map Lsn.v) (pureBL_map (fun _=>rfl) t0.2.1),.vec 10 (o.fl.map Sig.v) (pureBL_map (fun _=>rfl) o.fl),.box (.agg [.vec 0,.vec 1,.vec 2])]⟩ [3,4,5,1]))))))):An Tryz.prog copO_s (Ovl)) r0 = copO_vc o I0 m0 r0:=by kernel_rfl
theorem copO_ok (o:Ovl) (I0:(Int × (List Lsn) × (List Spk)) → Prop) (m0:(Int × (List Lsn) × (List Spk)) → Nat) (r0:Ovl) (h:copO_vc o I0 m0 r0):HSpec Tryz.prog 107 [.agg [.sl 5 (o.sp.map Spk.v) false,.sl 3 (o.ls.map Lsn.v) false,.sl 10 (o.fl.map Sig.v) false]] [] (copO_e r0) (copO_b r0):=by
  have e:=copO_eq o I0 m0 r0
  rw [← e] at h
  exact mxH_ok (enc:=copO_e) (hB:=copO_b) h
theorem copO_p (o:Ovl) (h:ovlOk o ∧ o.fl.length ≤ 1000000) (ok:copO_a o):∃ I m,copO_vc o I m o:=by
  obtain ⟨h1,h2⟩:=h
  obtain ⟨n1,n2,n3,n4⟩:=ovl_iff.mp h1
  refine ⟨fun t=>∃ k:Nat,t = ((k:Int),o.ls.take k,o.sp.take k) ∧ k ≤ o.sp.length,fun t=>o.sp.length - t.1.toNat,?_⟩
  simp only [copO_vc,vcU,rfU,List.length_map]
  refine ⟨ovl_sigs h1 h2,⟨0,rfl,by omega⟩,?_⟩
  rintro _ ⟨k,rfl,hk⟩
  simp only [Int.toNat_natCast]
  refine ⟨fun h3=>⟨by omega,by omega,fun x hx=>⟨spk_ok (h1.1.spo x (mem_of_get hx)).1,by simp; omega,by omega,by omega,fun y hy=>⟨lsn_ok (h1.1.lso y (mem_of_get hy)).1,by simp; omega,?_⟩⟩⟩,fun h3=>?_⟩
  · rw [W_succ (n:=o.sp.length) (by omega) (by omega)]
    exact ⟨⟨k + 1,by rw [take_succ hx,take_succ hy],by omega⟩,by omega⟩
  · rw [List.take_of_length_le (by omega),List.take_of_length_le (by omega)]
def copO_h (o:Ovl) (h:ovlOk o ∧ o.fl.length ≤ 1000000):HC Tryz.prog:=⟨107,[(.a [(.s 5),(.s 3),(.s 10)])],[.agg [.sl 5 (o.sp.map Spk.v) false,.sl 3 (o.ls.map Lsn.v) false,.sl 10 (o.fl.map Sig.v) false]],[],copO_e o,copO_b o,HSpec.of_okh fun ok _=>(copO_p o h ok).elim fun I0 h=>h.elim fun m0 h=>copO_ok o I0 m0 _ h,fnB_ok (by kernel_rfl),HcOk.of (by simp [hcB,belBL,AV.belB,allB,okBk,okBkO,copO_e,copO_b,pureBL_map (v:=Lsn.v) (fun _=>rfl),pureBL_map (v:=Sig.v) (fun _=>rfl),pureBL_map (v:=Spk.v) (fun _=>rfl)])⟩
end Go.Proofs.YtglfecmdoekabaaGreatDoor

namespace Go.Proofs.YtglfecmdoekabaaGreatDoor
open Go Go.Am
set_option linter.unusedVariables false
set_option linter.unusedSimpArgs false
def chgA (x:Wnt) (l:List Wnt):List Wnt:=l ++ [⟨x.grp,1,[]⟩]
def chgB (y:Wnt) (l:List Wnt):List Wnt:=l ++ [y]
def chgC (x y:Wnt) (l:List Wnt):List Wnt:=if x.mode = y.mode ∧ x.srcs = y.srcs then l else l ++ [y]
def mergC:List Wnt → List Wnt → List Wnt → List Wnt
  | [],[],l=>l
  | x :: a,[],l=>mergC a [] (chgA x l)
  | [],y :: b,l=>mergC [] b (chgB y l)
  | x :: a,y :: b,l=>if x.grp < y.grp then mergC a (y :: b) (chgA x l) else if y.grp < x.grp then mergC (x :: a) b (chgB y l) else mergC a b (chgC x y l)
termination_by a b=>a.length + b.length
def ascW (l:List Wnt):Prop:=l.Pairwise fun x y=>x.grp < y.grp
theorem findW_cons (x:Wnt) (l:List Wnt) (g:Int):findW (x :: l) g = if x.grp = g then ⟨x.mode,x.srcs⟩ else findW l g:=by
  unfold findW
  rw [List.find?_cons]
  by_cases h:x.grp = g
  · rw [if_pos h]; simp [h]
  · rw [if_neg h]; simp [h]
theorem findW_lt {l:List Wnt} {g:Int} (h:∀ w ∈ l,g < w.grp):findW l g = ⟨1,[]⟩:=findW_none fun w hw=>by have:=h w hw; omega
structure Mrg (a b l r:List Wnt):Prop where
  mem:∀ w,w ∈ r ↔ w ∈ l ∨ (findW b w.grp = ⟨w.mode,w.srcs⟩ ∧ findW b w.grp ≠ findW a w.grp)
  asc:(∀ w ∈ l,(∀ x ∈ a,w.grp < x.grp) ∧ ∀ y ∈ b,w.grp < y.grp) → ascW l → ascW r
theorem ascW_add {l:List Wnt} {x:Wnt} (h:ascW l) (hx:∀ w ∈ l,w.grp < x.grp):ascW (l ++ [x]):=
  List.pairwise_append.mpr ⟨h,List.pairwise_singleton _ _,fun a ha b hb=>by rw [List.mem_singleton] at hb; subst hb; exact hx a ha⟩
theorem Wnt.ext' {x y:Wnt} (h1:x.grp = y.grp) (h2:(⟨x.mode,x.srcs⟩:Flt) = ⟨y.mode,y.srcs⟩):x = y:=by
  rw [flt_eq] at h2
  obtain ⟨h3,h4⟩:=h2
  cases x; cases y
  simp only at h1 h3 h4
  rw [h1,h3,h4]
theorem notNo {x:Wnt} (h:¬ isNoW x):(⟨1,[]⟩:Flt) ≠ ⟨x.mode,x.srcs⟩:=fun e=>by
  rw [flt_eq] at e; exact h ⟨e.1.symm,e.2.symm⟩
theorem mrg_ok:∀ {a b l:List Wnt},ascW a → ascW b → (∀ w ∈ a,¬ isNoW w) → (∀ w ∈ b,¬ isNoW w) → Mrg a b l (mergC a b l)
  | [],[],l,_,_,_,_=>by
    rw [mergC]
    exact ⟨fun w=>⟨.inl,fun h=>h.elim id fun h=>absurd rfl h.2⟩,fun _ h=>h⟩
  | x :: a,[],l,ha,hb,na,nb=>by
    rw [mergC]
    obtain ⟨a1,a2⟩:=List.pairwise_cons.mp ha
    have r:=mrg_ok (a:=a) (b:=[]) (l:=chgA x l) a2 hb (fun w hw=>na w (by simp [hw])) nb
    refine ⟨fun w=>?_,fun h1 h2=>r.asc (fun w hw=>?_) (ascW_add h2 fun w hw=>(h1 w hw).1 x (by simp))⟩
    · rw [r.mem,findW_cons,chgA,List.mem_append,List.mem_singleton,show findW [] w.grp = ⟨1,[]⟩ from rfl]
      by_cases e:x.grp = w.grp
      · rw [if_pos e,findW_lt fun z hz=>by have:=a1 z hz; omega]
        constructor
        · rintro ((h | h) | h)
          · exact .inl h
          · right; subst h; exact ⟨rfl,notNo (na x (by simp))⟩
          · exact absurd rfl h.2
        · rintro (h | ⟨h,_⟩)
          · exact .inl (.inl h)
          · exact .inl (.inr (Wnt.ext' e.symm h.symm))
      · rw [if_neg e]
        constructor
        · rintro ((h | h) | h)
          · exact .inl h
          · subst h; exact absurd rfl e
          · exact .inr h
        · rintro (h | h)
          · exact .inl (.inl h)
          · exact .inr h
    · rcases List.mem_append.mp hw with hw | hw
      · exact ⟨fun z hz=>(h1 w hw).1 z (by simp [hz]),(h1 w hw).2⟩
      · rw [List.mem_singleton] at hw; subst hw; exact ⟨a1,by simp⟩
  | [],y :: b,l,ha,hb,na,nb=>by
    rw [mergC]
    obtain ⟨b1,b2⟩:=List.pairwise_cons.mp hb
    have r:=mrg_ok (a:=[]) (b:=b) (l:=chgB y l) ha b2 na fun w hw=>nb w (by simp [hw])
    refine ⟨fun w=>?_,fun h1 h2=>r.asc (fun w hw=>?_) (ascW_add h2 fun w hw=>(h1 w hw).2 y (by simp))⟩
    · rw [r.mem,findW_cons,chgB,List.mem_append,List.mem_singleton,show findW [] w.grp = ⟨1,[]⟩ from rfl]
      by_cases e:y.grp = w.grp
      · rw [if_pos e,findW_lt fun z hz=>by have:=b1 z hz; omega]
        constructor
        · rintro ((h | h) | h)
          · exact .inl h
          · right; subst h; exact ⟨rfl,(notNo (nb w (by simp))).symm⟩
          · exact absurd rfl h.2
        · rintro (h | ⟨h,_⟩)
          · exact .inl (.inl h)
          · exact .inl (.inr (Wnt.ext' e.symm h.symm))
      · rw [if_neg e]
        constructor
        · rintro ((h | h) | h)
          · exact .inl h
          · subst h; exact absurd rfl e
          · exact .inr h
        · rintro (h | h)
          · exact .inl (.inl h)
          · exact .inr h
    · rcases List.mem_append.mp hw with hw | hw
      · exact ⟨(h1 w hw).1,fun z hz=>(h1 w hw).2 z (by simp [hz])⟩
      · rw [List.mem_singleton] at hw; subst hw; exact ⟨by simp,b1⟩
  | x :: a,y :: b,l,ha,hb,na,nb=>by
    rw [mergC]
    obtain ⟨a1,a2⟩:=List.pairwise_cons.mp ha
    obtain ⟨b1,b2⟩:=List.pairwise_cons.mp hb
    by_cases c1:x.grp < y.grp
    · rw [if_pos c1]
      have r:=mrg_ok (a:=a) (b:=y :: b) (l:=chgA x l) a2 hb (fun w hw=>na w (by simp [hw])) nb
      refine ⟨fun w=>?_,fun h1 h2=>r.asc (fun w hw=>?_) (ascW_add h2 fun w hw=>(h1 w hw).1 x (by simp))⟩
      · rw [r.mem,findW_cons x,chgA,List.mem_append,List.mem_singleton]
        by_cases e:x.grp = w.grp
        · have eb:findW (y :: b) w.grp = ⟨1,[]⟩:=findW_lt fun z hz=>by
            rcases List.mem_cons.mp hz with rfl | hz
            · omega
            · have:=b1 z hz; omega
          rw [if_pos e,findW_lt (l:=a) fun z hz=>by have:=a1 z hz; omega,eb]
          constructor
          · rintro ((h | h) | h)
            · exact .inl h
            · right; subst h; exact ⟨rfl,notNo (na x (by simp))⟩
            · exact absurd rfl h.2
          · rintro (h | ⟨h,_⟩)
            · exact .inl (.inl h)
            · exact .inl (.inr (Wnt.ext' e.symm h.symm))
        · rw [if_neg e]
          constructor
          · rintro ((h | h) | h)
            · exact .inl h
            · subst h; exact absurd rfl e
            · exact .inr h
          · rintro (h | h)
            · exact .inl (.inl h)
            · exact .inr h
      · rcases List.mem_append.mp hw with hw | hw
        · exact ⟨fun z hz=>(h1 w hw).1 z (by simp [hz]),(h1 w hw).2⟩
        · rw [List.mem_singleton] at hw; subst hw
          refine ⟨a1,fun z hz=>?_⟩
          rcases List.mem_cons.mp hz with rfl | hz
          · exact c1
          · have:=b1 z hz; simp only; omega
    rw [if_neg c1]
    by_cases c2:y.grp < x.grp
    · rw [if_pos c2]
      have r:=mrg_ok (a:=x :: a) (b:=b) (l:=chgB y l) ha b2 na fun w hw=>nb w (by simp [hw])
      refine ⟨fun w=>?_,fun h1 h2=>r.asc (fun w hw=>?_) (ascW_add h2 fun w hw=>(h1 w hw).2 y (by simp))⟩
      · rw [r.mem,findW_cons y,chgB,List.mem_append,List.mem_singleton]
        by_cases e:y.grp = w.grp
        · have ea:findW (x :: a) w.grp = ⟨1,[]⟩:=findW_lt fun z hz=>by
            rcases List.mem_cons.mp hz with rfl | hz
            · omega
            · have:=a1 z hz; omega
          rw [if_pos e,findW_lt (l:=b) fun z hz=>by have:=b1 z hz; omega,ea]
          constructor
          · rintro ((h | h) | h)
            · exact .inl h
            · right; subst h; exact ⟨rfl,(notNo (nb w (by simp))).symm⟩
            · exact absurd rfl h.2
          · rintro (h | ⟨h,_⟩)
            · exact .inl (.inl h)
            · exact .inl (.inr (Wnt.ext' e.symm h.symm))
        · rw [if_neg e]
          constructor
          · rintro ((h | h) | h)
            · exact .inl h
            · subst h; exact absurd rfl e
            · exact .inr h
          · rintro (h | h)
            · exact .inl (.inl h)
            · exact .inr h
      · rcases List.mem_append.mp hw with hw | hw
        · exact ⟨(h1 w hw).1,fun z hz=>(h1 w hw).2 z (by simp [hz])⟩
        · rw [List.mem_singleton] at hw; subst hw
          refine ⟨fun z hz=>?_,b1⟩
          rcases List.mem_cons.mp hz with rfl | hz
          · exact c2
          · have:=a1 z hz; omega
    rw [if_neg c2]
    have c3:x.grp = y.grp:=by omega
    have r:=mrg_ok (a:=a) (b:=b) (l:=chgC x y l) a2 b2 (fun w hw=>na w (by simp [hw])) fun w hw=>nb w (by simp [hw])
    by_cases c4:x.mode = y.mode ∧ x.srcs = y.srcs
    · have ec:chgC x y l = l:=if_pos c4
      have ef:(⟨x.mode,x.srcs⟩:Flt) = ⟨y.mode,y.srcs⟩:=by rw [c4.1,c4.2]
      rw [ec] at r ⊢
      refine ⟨fun w=>?_,fun h1 h2=>r.asc (fun w hw=>⟨fun z hz=>(h1 w hw).1 z (by simp [hz]),fun z hz=>(h1 w hw).2 z (by simp [hz])⟩) h2⟩
      rw [r.mem,findW_cons x,findW_cons y]
      by_cases e:y.grp = w.grp
      · rw [if_pos e,if_pos (c3.trans e),findW_lt (l:=a) fun z hz=>by have:=a1 z hz; omega,findW_lt (l:=b) fun z hz=>by have:=b1 z hz; omega]
        constructor
        · rintro (h | h)
          · exact .inl h
          · exact absurd rfl h.2
        · rintro (h | h)
          · exact .inl h
          · exact absurd ef.symm h.2
      · rw [if_neg e,if_neg (by omega)]
    · have ec:chgC x y l = l ++ [y]:=if_neg c4
      have ef:(⟨y.mode,y.srcs⟩:Flt) ≠ ⟨x.mode,x.srcs⟩:=fun e=>c4 (by rw [flt_eq] at e; exact ⟨e.1.symm,e.2.symm⟩)
      rw [ec] at r ⊢
      refine ⟨fun w=>?_,fun h1 h2=>r.asc (fun w hw=>?_) (ascW_add h2 fun w hw=>(h1 w hw).2 y (by simp))⟩
      · rw [r.mem,findW_cons x,findW_cons y,List.mem_append,List.mem_singleton]
        by_cases e:y.grp = w.grp
        · rw [if_pos e,if_pos (c3.trans e),findW_lt (l:=a) fun z hz=>by have:=a1 z hz; omega,findW_lt (l:=b) fun z hz=>by have:=b1 z hz; omega]
          constructor
          · rintro ((h | h) | h)
            · exact .inl h
            · right; subst h; exact ⟨rfl,ef⟩
            · exact absurd rfl h.2
          · rintro (h | ⟨h,_⟩)
            · exact .inl (.inl h)
            · exact .inl (.inr (Wnt.ext' e.symm h.symm))
        · rw [if_neg e,if_neg (by omega)]
          constructor
          · rintro ((h | h) | h)
            · exact .inl h
            · subst h; exact absurd rfl e
            · exact .inr h
          · rintro (h | h)
            · exact .inl (.inl h)
            · exact .inr h
      · rcases List.mem_append.mp hw with hw | hw
        · exact ⟨fun z hz=>(h1 w hw).1 z (by simp [hz]),fun z hz=>(h1 w hw).2 z (by simp [hz])⟩
        · rw [List.mem_singleton] at hw; subst hw
          exact ⟨fun z hz=>by have:=a1 z hz; omega,b1⟩
termination_by a b=>a.length + b.length
theorem mergC_to {a b:List Wnt} (h1:wErr false a = 0) (h2:wErr false b = 0):mergC a b [] = chgsTo a b 99:=by
  have w1:=wErr_zero.mp h1
  have w2:=wErr_zero.mp h2
  have r:=mrg_ok (l:=[]) w1.2.2.2.2 w2.2.2.2.2 (w1.2.2.2.1 rfl) (w2.2.2.2.1 rfl)
  refine ascW_ext (r.asc (by simp) List.Pairwise.nil) (chgsTo_ok w2.2.2.1 99).asc fun w=>?_
  rw [r.mem,mem_chgsTo]
  simp only [List.not_mem_nil,false_or]
  refine ⟨fun h=>⟨?_,h.1,h.2⟩,fun h=>⟨h.2.1,h.2.2⟩⟩
  by_cases q:findW b w.grp = ⟨1,[]⟩
  · have:findW a w.grp ≠ ⟨1,[]⟩:=fun e=>h.2 (by rw [q,e])
    obtain ⟨x,hx,e,_⟩:=findW_some this
    rw [← e]; exact w1.2.1 x hx
  · obtain ⟨x,hx,e,_⟩:=findW_some q
    rw [← e]; exact w2.2.1 x hx
end Go.Proofs.YtglfecmdoekabaaGreatDoor

namespace Go.Proofs.YtglfecmdoekabaaGreatDoor
open Go Go.Am
set_option linter.unusedVariables false
set_option linter.unusedSimpArgs false
theorem HSpec.supH {P:Program} {f:FuncId} {args:List AV} {hs:List Blk} {r:AV} {h1 h2:List (Option Blk)} (hl:h1.length = h2.length)
    (hn:∀ (i:Nat) (x:Blk),h2[i]? = some (some x) → ∃ y,h1[i]? = some (some y) ∧ ∀ w A μ hd,BlkOk w A μ hd y → BlkOk w A μ hd x)
    (hm:∀ (i:Nat) (y:Blk),h1[i]? = some (some y) → ∃ x,h2[i]? = some (some x)) (h:HSpec P f args hs r h1):HSpec P f args hs r h2:=by
  intro w A μ cargs g1 g2 g3
  refine (h w A μ cargs g1 g2 g3).mono ?_
  rintro e w' ⟨v,A',μ',e1,e2,e3,e4,e5,e6,e7,e8⟩
  have own':ownOf μ' (hpOf h2) = ownOf μ' (hpOf h1):=by
    funext b
    refine propext ⟨?_,?_⟩
    · rintro ⟨i,x,hd,a1,a2,a3,a4⟩
      obtain ⟨y,b1,_⟩:=hn i x (hpOf_opt.mp a1)
      exact ⟨i,y,hd,hpOf_opt.mpr b1,a2,a3,a4⟩
    · rintro ⟨i,y,hd,a1,a2,a3,a4⟩
      obtain ⟨x,b1⟩:=hm i y (hpOf_opt.mp a1)
      exact ⟨i,x,hd,hpOf_opt.mpr b1,a2,a3,a4⟩
  refine ⟨v,A',μ',e1,e2,⟨fun b x hx=>?_,fun b b' x x' hd hd' hx hx'=>?_,e3.lt⟩,e4,e5,e6,e7,by rw [own']; exact e8⟩
  · obtain ⟨y,b1,b2⟩:=hn b x (hpOf_opt.mp hx)
    obtain ⟨hd,c1,c2,c3⟩:=e3.blk b y (hpOf_opt.mpr b1)
    exact ⟨hd,c1,b2 w' A' μ' hd c2,c3⟩
  · obtain ⟨y,b1,_⟩:=hn b x (hpOf_opt.mp hx)
    obtain ⟨y',b1',_⟩:=hn b' x' (hpOf_opt.mp hx')
    exact e3.inj b b' y y' hd hd' (hpOf_opt.mpr b1) (hpOf_opt.mpr b1')
def nilW (x:Wnt):AV:=.agg [.int x.grp,.int 1,.sl 0 [] true]
def rawA (x:Wnt) (out:List Wnt):List AV:=out.map Wnt.v ++ [nilW x]
theorem map_idV (l:List AV):l.map (fun y=>y) = l:=List.map_id'' (fun _=>rfl) l
theorem rawA_pure (x:Wnt):∀ out:List Wnt,pureBL (rawA x out) = true
  | []=>rfl
  | y :: l=>by
    have:=rawA_pure x l
    unfold rawA at this ⊢
    rw [List.map_cons,List.cons_append,pureBL,this]; rfl
theorem rawA_pure' (x:Wnt) (out:List Wnt):pureBL ((rawA x out).map fun y=>y) = true:=by rw [map_idV]; exact rawA_pure x out
def rawA_e (r:List AV):AV:=.tup []
def rawA_b (r:List AV):List (Option Blk):=[some (.box (.vec 2)),none,some (.vec 3 (r.map fun y=>y))]
def rawA_s:Nat → Type
  | _=>Unit
theorem rawA_eq (x:Wnt) (out:List Wnt):mxH Tryz.prog 165 [.rptr (.agg [.int x.grp,.int x.mode,.sl 1 (x.srcs.map AV.int) false]) 0,.val (.pointer none),.ref 0 0] [.box (.vec 1),.vec 3 (out.map Wnt.v)] .k rawA_e rawA_b ((.app 178 (fun y=>y) (out.map Wnt.v) [nilW x]
    (.retH (rawA x out) ⟨[],[.box (.vec 2),.gone,.vec 3 ((rawA x out).map fun y=>y) (rawA_pure' x out)]⟩ [0,1,178])):An Tryz.prog rawA_s (List AV)) (rawA x out) =
    (out.map Wnt.v = (out.map Wnt.v).map (fun y=>y) ∧ [nilW x] = [nilW x].map (fun y=>y) ∧ ck (decide ((out.map Wnt.v).length + 1 ≤ 1000000))
      (Nf ⟨[],[.box (.vec 2),.gone,.vec 3 ((rawA x out).map fun y=>y) (rawA_pure' x out)]⟩ [0,1,178] (Rf (rawA_e (rawA x out)) (Rf (rawA_b (rawA x out)) (rawA x out = rawA x out))))):=by kernel_rfl
theorem rawA_ok (x:Wnt) (out:List Wnt) (hl:out.length ≤ 900000):HSpec Tryz.prog 165 [.rptr (.agg [.int x.grp,.int x.mode,.sl 1 (x.srcs.map AV.int) false]) 0,.val (.pointer none),.ref 0 0] [.box (.vec 1),.vec 3 (out.map Wnt.v)] (rawA_e (rawA x out)) (rawA_b (rawA x out)):=by
  have e:=rawA_eq x out
  refine mxH_ok (enc:=rawA_e) (hB:=rawA_b) (e.mpr ⟨(map_idV _).symm,rfl,?_⟩)
  simp only [vcU,rfU,List.length_map]
  exact ⟨by omega,trivial⟩
def chgA_e (r:List Wnt):AV:=.tup []
def chgA_b (r:List Wnt):List (Option Blk):=[some (.box (.vec 2)),none,some (.vec 3 (r.map Wnt.v))]
theorem rawA_sub (x:Wnt) (out:List Wnt):((rawA x out).map fun y=>y).map (fitA (.a [.k,.k,.s 1])) = (chgA x out).map Wnt.v:=by
  rw [map_idV,rawA,chgA,List.map_append,List.map_append,List.map_map]
  exact congr (congrArg _ (List.map_congr_left fun y _=>rfl)) rfl
def chgA_h (x:Wnt) (out:List Wnt) (h:x.srcs.length ≤ 1000000) (hl:out.length ≤ 900000):HC Tryz.prog:=
  ⟨165,[.k,.k,.k],[.rptr (.agg [.int x.grp,.int x.mode,.sl 1 (x.srcs.map AV.int) false]) 0,.val (.pointer none),.ref 0 0],[.box (.vec 1),.vec 3 (out.map Wnt.v)],chgA_e (chgA x out),chgA_b (chgA x out),
    HSpec.supH (h1:=rawA_b (rawA x out)) rfl (fun i y hy=>by
      rcases i with _ | _ | _ | i
      · cases hy; exact ⟨_,rfl,fun _ _ _ _ q=>q⟩
      · cases hy
      · cases hy
        refine ⟨_,rfl,fun w A μ hd q=>?_⟩
        rw [← rawA_sub]
        refine BlkOk.mapSub (fitA_sub _) (fun z hz=>?_) q
        rw [rawA_sub] at hz
        obtain ⟨u,_,rfl⟩:=List.mem_map.mp hz
        rfl
      · simp [chgA_b] at hy) (fun i y hy=>by
      rcases i with _ | _ | _ | i
      · exact ⟨_,rfl⟩
      · cases hy
      · exact ⟨_,rfl⟩
      · simp [rawA_b] at hy) (rawA_ok x out hl),
    fnB_ok (by kernel_rfl),HcOk.of (by simp [hcB,belBL,AV.belB,allB,okBk,okBkO,chgA_e,chgA_b,pureBL_map (v:=AV.int) (fun _=>rfl),pureBL_map (v:=Wnt.v) (fun _=>rfl)])⟩
def chgB_a (y:Wnt) (out:(List Wnt)):Prop:=okL [.val (.pointer none),.rptr (.agg [.int y.grp,.int y.mode,.sl 1 (y.srcs.map AV.int) false]) 0,.ref 0 0] ∧ (.box (.vec 1):Blk).ok ∧ (.vec 3 (out.map Wnt.v):Blk).ok
def chgB_s:Nat → Type
  | _=>Unit
def chgB_e (r:(List Wnt)):AV:=.tup []
def chgB_b (r:(List Wnt)):List (Option Blk):=[some (.box (.vec 2)),none,some (.vec 3 (r.map Wnt.v))]
def chgB_vc (y:Wnt) (out:(List Wnt)) (r0:(List Wnt)):Prop:=
 ∃ h1:y.srcs.length ≤ 1000000,
 Cl (copiedW_c y h1)
 (Rf (α:=List AV) (out.map Wnt.v) (Rf (α:=List AV) [.agg [.int y.grp,.int y.mode,.sl 1 (y.srcs.map AV.int) false]]
 (ck (decide (out.length + 1 ≤ 1000000))
 (Nf ⟨[],[.box (.vec 2),.gone,.vec 3 ((out ++ [y]).map Wnt.v) (pureBL_map (fun _=>rfl) (out ++ [y]))]⟩ [0,1,386] (Rf (chgB_e (out ++ [y])) (Rf (chgB_b (out ++ [y])) ((out ++ [y]) = r0)))))))
theorem chgB_eq (y:Wnt) (out:(List Wnt)) (r0:(List Wnt)):mxH Tryz.prog 165 [.val (.pointer none),.rptr (.agg [.int y.grp,.int y.mode,.sl 1 (y.srcs.map AV.int) false]) 0,.ref 0 0] [.box (.vec 1),.vec 3 (out.map Wnt.v)] .k chgB_e chgB_b ((.req 354 (y.srcs.length ≤ 1000000) fun h1 =>
 (.callP (copiedW_c y h1)
 (.app 386 Wnt.v out [y]
 (.retH (out ++ [y]) ⟨[],[.box (.vec 2),.gone,.vec 3 ((out ++ [y]).map Wnt.v) (pureBL_map (fun _=>rfl) (out ++ [y]))]⟩ [0,1,386])))):An Tryz.prog chgB_s ((List Wnt))) r0 = chgB_vc y out r0:=by kernel_rfl
theorem chgB_ok (y:Wnt) (out:(List Wnt)) (r0:(List Wnt)) (h:chgB_vc y out r0):HSpec Tryz.prog 165 [.val (.pointer none),.rptr (.agg [.int y.grp,.int y.mode,.sl 1 (y.srcs.map AV.int) false]) 0,.ref 0 0] [.box (.vec 1),.vec 3 (out.map Wnt.v)] (chgB_e r0) (chgB_b r0):=by
  have e:=chgB_eq y out r0
  rw [← e] at h
  exact mxH_ok (enc:=chgB_e) (hB:=chgB_b) h
theorem chgB_p (y:Wnt) (l:List Wnt) (h:y.srcs.length ≤ 1000000) (hl:l.length ≤ 900000) (ok:chgB_a y l):chgB_vc y l (chgB y l):=by
  simp only [chgB_vc,vcU,rfU,List.length_map]
  exact ⟨h,by omega,rfl⟩
def chgB_h (y:Wnt) (out:(List Wnt)) (h:y.srcs.length ≤ 1000000) (hl:out.length ≤ 900000):HC Tryz.prog:=⟨165,[.k,.k,.k],[.val (.pointer none),.rptr (.agg [.int y.grp,.int y.mode,.sl 1 (y.srcs.map AV.int) false]) 0,.ref 0 0],[.box (.vec 1),.vec 3 (out.map Wnt.v)],chgB_e (chgB y out),chgB_b (chgB y out),HSpec.of_okh fun ok ok2=>have ok:chgB_a y out:=⟨ok,ok2 _ (by simp),ok2 _ (by simp)⟩; chgB_ok y out _ (chgB_p y out h hl ok),fnB_ok (by kernel_rfl),HcOk.of (by simp [hcB,belBL,AV.belB,allB,okBk,okBkO,chgB_e,chgB_b,pureBL_map (v:=AV.int) (fun _=>rfl),pureBL_map (v:=Wnt.v) (fun _=>rfl)])⟩
def chgC_a (x:Wnt) (y:Wnt) (out:(List Wnt)):Prop:=okL [.rptr (.agg [.int x.grp,.int x.mode,.sl 1 (x.srcs.map AV.int) false]) 0,.rptr (.agg [.int y.grp,.int y.mode,.sl 1 (y.srcs.map AV.int) false]) 0,.ref 0 0] ∧ (.box (.vec 1):Blk).ok ∧ (.vec 3 (out.map Wnt.v):Blk).ok
def chgC_s:Nat → Type
  | _=>Unit
def chgC_e (r:(List Wnt)):AV:=.tup []
def chgC_b (r:(List Wnt)):List (Option Blk):=[some (.box (.vec 2)),none,some (.vec 3 (r.map Wnt.v))]
def chgC_vc (x:Wnt) (y:Wnt) (out:(List Wnt)) (r0:(List Wnt)):Prop:=
 Cl (PSame_c (⟨x.mode,x.srcs⟩:Flt) (⟨y.mode,y.srcs⟩:Flt))
 (br (!(PSame (⟨x.mode,x.srcs⟩:Flt) (⟨y.mode,y.srcs⟩:Flt)))
 (∃ h1:y.srcs.length ≤ 1000000,
 Cl (copiedW_c y h1)
 (Rf (α:=List AV) (out.map Wnt.v) (Rf (α:=List AV) [.agg [.int y.grp,.int y.mode,.sl 1 (y.srcs.map AV.int) false]]
 (ck (decide (out.length + 1 ≤ 1000000))
 (Nf ⟨[],[.box (.vec 2),.gone,.vec 3 ((out ++ [y]).map Wnt.v) (pureBL_map (fun _=>rfl) (out ++ [y]))]⟩ [0,1,386] (Rf (chgC_e (out ++ [y])) (Rf (chgC_b (out ++ [y])) ((out ++ [y]) = r0))))))))
 (Nf ⟨[],[.box (.vec 2),.gone,.vec 3 (out.map Wnt.v) (pureBL_map (fun _=>rfl) out)]⟩ [0,1,1] (Rf (chgC_e out) (Rf (chgC_b out) (out = r0)))))
theorem chgC_eq (x:Wnt) (y:Wnt) (out:(List Wnt)) (r0:(List Wnt)):mxH Tryz.prog 165 [.rptr (.agg [.int x.grp,.int x.mode,.sl 1 (x.srcs.map AV.int) false]) 0,.rptr (.agg [.int y.grp,.int y.mode,.sl 1 (y.srcs.map AV.int) false]) 0,.ref 0 0] [.box (.vec 1),.vec 3 (out.map Wnt.v)] .k chgC_e chgC_b ((.callP (PSame_c (⟨x.mode,x.srcs⟩:Flt) (⟨y.mode,y.srcs⟩:Flt))
 (.br 290 (.req 354 (y.srcs.length ≤ 1000000) fun h1 =>
 (.callP (copiedW_c y h1)
 (.app 386 Wnt.v out [y]
 (.retH (out ++ [y]) ⟨[],[.box (.vec 2),.gone,.vec 3 ((out ++ [y]).map Wnt.v) (pureBL_map (fun _=>rfl) (out ++ [y]))]⟩ [0,1,386]))))
 (.retH out ⟨[],[.box (.vec 2),.gone,.vec 3 (out.map Wnt.v) (pureBL_map (fun _=>rfl) out)]⟩ [0,1,1]))):An Tryz.prog chgC_s ((List Wnt))) r0 = chgC_vc x y out r0:=by kernel_rfl
theorem chgC_ok (x:Wnt) (y:Wnt) (out:(List Wnt)) (r0:(List Wnt)) (h:chgC_vc x y out r0):HSpec Tryz.prog 165 [.rptr (.agg [.int x.grp,.int x.mode,.sl 1 (x.srcs.map AV.int) false]) 0,.rptr (.agg [.int y.grp,.int y.mode,.sl 1 (y.srcs.map AV.int) false]) 0,.ref 0 0] [.box (.vec 1),.vec 3 (out.map Wnt.v)] (chgC_e r0) (chgC_b r0):=by
  have e:=chgC_eq x y out r0
  rw [← e] at h
  exact mxH_ok (enc:=chgC_e) (hB:=chgC_b) h
theorem chgC_p (x y:Wnt) (l:List Wnt) (h:y.srcs.length ≤ 1000000) (hl:l.length ≤ 900000) (ok:chgC_a x y l):chgC_vc x y l (chgC x y l):=by
  simp only [chgC_vc,vcU,rfU,List.length_map]
  unfold chgC
  refine ⟨fun e=>⟨h,by omega,?_⟩,fun e=>?_⟩
  · rw [if_neg]
    intro q
    simp [PSame,FSame,flt_eq,q.1,q.2] at e
  · rw [if_pos]
    simpa [PSame,FSame,flt_eq] using e
def chgC_h (x:Wnt) (y:Wnt) (out:(List Wnt)) (h:y.srcs.length ≤ 1000000) (hl:out.length ≤ 900000):HC Tryz.prog:=⟨165,[.k,.k,.k],[.rptr (.agg [.int x.grp,.int x.mode,.sl 1 (x.srcs.map AV.int) false]) 0,.rptr (.agg [.int y.grp,.int y.mode,.sl 1 (y.srcs.map AV.int) false]) 0,.ref 0 0],[.box (.vec 1),.vec 3 (out.map Wnt.v)],chgC_e (chgC x y out),chgC_b (chgC x y out),HSpec.of_okh fun ok ok2=>have ok:chgC_a x y out:=⟨ok,ok2 _ (by simp),ok2 _ (by simp)⟩; chgC_ok x y out _ (chgC_p x y out h hl ok),fnB_ok (by kernel_rfl),HcOk.of (by simp [hcB,belBL,AV.belB,allB,okBk,okBkO,chgC_e,chgC_b,pureBL_map (v:=AV.int) (fun _=>rfl),pureBL_map (v:=Wnt.v) (fun _=>rfl)])⟩
def mergC_a (a:(List Wnt)) (b:(List Wnt)) (out:(List Wnt)):Prop:=okL [.sl 3 (a.map Wnt.v) false,.sl 3 (b.map Wnt.v) false,.func 165 [.ref 0 0]] ∧ (.box (.vec 1):Blk).ok ∧ (.vec 3 (out.map Wnt.v):Blk).ok
def mergC_n0 (a:(List Wnt)) (b:(List Wnt)) (out:(List Wnt)) (t0:(List Wnt) × (List Wnt) × (List Wnt)):NF:=⟨[(0,(.s 3),.sl 3 (t0.1.map Wnt.v) false),(1,(.s 3),.sl 3 (t0.2.1.map Wnt.v) false),(2,.k,.func 165 [.ref 0 0])],[.box (.vec 2),.gone,.vec 3 (t0.2.2.map Wnt.v) (pureBL_map (fun _=>rfl) t0.2.2)]⟩
def mergC_n1 (a:(List Wnt)) (b:(List Wnt)) (out:(List Wnt)) (t0:(List Wnt) × (List Wnt) × (List Wnt)) (t1:Unit):NF:=⟨[(0,.k,.sl 3 (t0.1.map Wnt.v) false),(1,.k,.sl 3 (t0.2.1.map Wnt.v) false),(2,.k,.func 165 [.ref 0 0])],[.box (.vec 2),.gone,.vec 3 (t0.2.2.map Wnt.v) (pureBL_map (fun _=>rfl) t0.2.2)]⟩
def mergC_n2 (a:(List Wnt)) (b:(List Wnt)) (out:(List Wnt)) (t0:(List Wnt) × (List Wnt) × (List Wnt)) (t1:Unit) (t2:Int):NF:=⟨[(0,.k,.sl 3 (t0.1.map Wnt.v) false),(1,.k,.sl 3 (t0.2.1.map Wnt.v) false),(2,.k,.func 165 [.ref 0 0]),(6,.k,.int t2)],[.box (.vec 2),.gone,.vec 3 (t0.2.2.map Wnt.v) (pureBL_map (fun _=>rfl) t0.2.2)]⟩
def mergC_s:Nat → Type
  | 0=>(List Wnt) × (List Wnt) × (List Wnt)
  | 1=>Unit
  | 2=>Int
  | _=>Unit
def mergC_e (r:(List Wnt)):AV:=.tup []
def mergC_b (r:(List Wnt)):List (Option Blk):=[some (.box (.vec 2)),none,some (.vec 3 (r.map Wnt.v))]
def mergC_vc (a:(List Wnt)) (b:(List Wnt)) (out:(List Wnt)) (I0:((List Wnt) × (List Wnt) × (List Wnt)) → Prop) (m0:((List Wnt) × (List Wnt) × (List Wnt)) → Nat) (r0:(List Wnt)):Prop:=
 Nf (mergC_n0 a b out (a,b,out)) [0,1,1] (I0 (a,b,out)) ∧ ∀ t0:(List Wnt) × (List Wnt) × (List Wnt),I0 t0 →
 (br (decide (0 < ((t0.1.map Wnt.v).length:Int)))
 (Nf (mergC_n1 a b out t0 (())) [0,1,2] ((bif (decide (0 < ((t0.1.map Wnt.v).length:Int))) then true else (bif (decide (0 < ((t0.2.1.map Wnt.v).length:Int))) then true else false)) = true))
 (br (decide (0 < ((t0.2.1.map Wnt.v).length:Int)))
 (Nf (mergC_n1 a b out t0 (())) [0,1,2] ((bif (decide (0 < ((t0.1.map Wnt.v).length:Int))) then true else (bif (decide (0 < ((t0.2.1.map Wnt.v).length:Int))) then true else false)) = true))
 (Nf ⟨[],[.box (.vec 2),.gone,.vec 3 (t0.2.2.map Wnt.v) (pureBL_map (fun _=>rfl) t0.2.2)]⟩ [0,1,2] (Rf (mergC_e t0.2.2) (Rf (mergC_b t0.2.2) (t0.2.2 = r0)))))) ∧ ∀ t1:Unit,(bif (decide (0 < ((t0.1.map Wnt.v).length:Int))) then true else (bif (decide (0 < ((t0.2.1.map Wnt.v).length:Int))) then true else false)) = true →
 (br (((t0.1.map Wnt.v).length:Int) == 0)
 (Nf (mergC_n2 a b out t0 t1 (1)) [0,1,2] (((((t0.1.map Wnt.v).length:Int) == 0) = true ∧ ((1):Int) = ((1):Int)) ∨ ((((t0.1.map Wnt.v).length:Int) == 0) = false ∧ (((t0.2.1.map Wnt.v).length:Int) == 0) = true ∧ ((1):Int) = ((-1):Int)) ∨ ((((t0.1.map Wnt.v).length:Int) == 0) = false ∧ (((t0.2.1.map Wnt.v).length:Int) == 0) = false ∧ ∃ x1':Wnt,t0.1[0]? = some x1' ∧ ∃ x2':Wnt,t0.2.1[0]? = some x2' ∧ ((1):Int) = ((cmpI x1'.grp x2'.grp):Int))))
 (br (((t0.2.1.map Wnt.v).length:Int) == 0)
 (Nf (mergC_n2 a b out t0 t1 (-1)) [0,1,2] (((((t0.1.map Wnt.v).length:Int) == 0) = true ∧ ((-1):Int) = ((1):Int)) ∨ ((((t0.1.map Wnt.v).length:Int) == 0) = false ∧ (((t0.2.1.map Wnt.v).length:Int) == 0) = true ∧ ((-1):Int) = ((-1):Int)) ∨ ((((t0.1.map Wnt.v).length:Int) == 0) = false ∧ (((t0.2.1.map Wnt.v).length:Int) == 0) = false ∧ ∃ x1':Wnt,t0.1[0]? = some x1' ∧ ∃ x2':Wnt,t0.2.1[0]? = some x2' ∧ ((-1):Int) = ((cmpI x1'.grp x2'.grp):Int))))
 (Rf (t0.1.map Wnt.v) (ck (decide (0 < (t0.1.length:Int)))
 (∀ x1,t0.1[0]? = some x1 →
 Rf (t0.2.1.map Wnt.v) (ck (decide (0 < (t0.2.1.length:Int)))
 (∀ x2,t0.2.1[0]? = some x2 →
 Cl (cmpI_c x1.grp x2.grp)
 (Nf (mergC_n2 a b out t0 t1 (cmpI x1.grp x2.grp)) [0,1,2] (((((t0.1.map Wnt.v).length:Int) == 0) = true ∧ ((cmpI x1.grp x2.grp):Int) = ((1):Int)) ∨ ((((t0.1.map Wnt.v).length:Int) == 0) = false ∧ (((t0.2.1.map Wnt.v).length:Int) == 0) = true ∧ ((cmpI x1.grp x2.grp):Int) = ((-1):Int)) ∨ ((((t0.1.map Wnt.v).length:Int) == 0) = false ∧ (((t0.2.1.map Wnt.v).length:Int) == 0) = false ∧ ∃ x1':Wnt,t0.1[0]? = some x1' ∧ ∃ x2':Wnt,t0.2.1[0]? = some x2' ∧ ((cmpI x1.grp x2.grp):Int) = ((cmpI x1'.grp x2'.grp):Int))))))))))) ∧ ∀ t2:Int,((((t0.1.map Wnt.v).length:Int) == 0) = true ∧ t2 = ((1):Int)) ∨ ((((t0.1.map Wnt.v).length:Int) == 0) = false ∧ (((t0.2.1.map Wnt.v).length:Int) == 0) = true ∧ t2 = ((-1):Int)) ∨ ((((t0.1.map Wnt.v).length:Int) == 0) = false ∧ (((t0.2.1.map Wnt.v).length:Int) == 0) = false ∧ ∃ x1':Wnt,t0.1[0]? = some x1' ∧ ∃ x2':Wnt,t0.2.1[0]? = some x2' ∧ t2 = ((cmpI x1'.grp x2'.grp):Int)) →
 br (decide (t2 ≤ 0))
 (Rf (t0.1.map Wnt.v) (ck (decide (0 < (t0.1.length:Int)))
 (∀ x3,t0.1[0]? = some x3 →
 Rf (α:=List AV) (t0.1.map Wnt.v) (ck (bndB t0.1.length 1 (t0.1.length:Int) (t0.1.length:Int))
 (br (decide (0 ≤ t2))
 (Rf (t0.2.1.map Wnt.v) (ck (decide (0 < (t0.2.1.length:Int)))
 (∀ x4,t0.2.1[0]? = some x4 →
 Rf (α:=List AV) (t0.2.1.map Wnt.v) (ck (bndB t0.2.1.length 1 (t0.2.1.length:Int) (t0.2.1.length:Int))
 (∃ h5:x4.srcs.length ≤ 1000000,
 ∃ h6:t0.2.2.length ≤ 900000,
 Ch (chgC_h x3 x4 t0.2.2 h5 h6) [0,2] 339
 (Nf (mergC_n0 a b out ((t0.1.take ((t0.1.length:Int).toNat)).drop 1,(t0.2.1.take ((t0.2.1.length:Int).toNat)).drop 1,chgC x3 x4 t0.2.2)) [0,1,339] (I0 ((t0.1.take ((t0.1.length:Int).toNat)).drop 1,(t0.2.1.take ((t0.2.1.length:Int).toNat)).drop 1,chgC x3 x4 t0.2.2) ∧ m0 ((t0.1.take ((t0.1.length:Int).toNat)).drop 1,(t0.2.1.take ((t0.2.1.length:Int).toNat)).drop 1,chgC x3 x4 t0.2.2) < m0 t0)))))))
 (∃ h7:x3.srcs.length ≤ 1000000,
 ∃ h8:t0.2.2.length ≤ 900000,
 Ch (chgA_h x3 t0.2.2 h7 h8) [0,2] 243
 (Nf (mergC_n0 a b out ((t0.1.take ((t0.1.length:Int).toNat)).drop 1,t0.2.1,chgA x3 t0.2.2)) [0,1,243] (I0 ((t0.1.take ((t0.1.length:Int).toNat)).drop 1,t0.2.1,chgA x3 t0.2.2) ∧ m0 ((t0.1.take ((t0.1.length:Int).toNat)).drop 1,t0.2.1,chgA x3 t0.2.2) < m0 t0))))))))
 (br (decide (0 ≤ t2))
 (Rf (t0.2.1.map Wnt.v) (ck (decide (0 < (t0.2.1.length:Int)))
 (∀ x9,t0.2.1[0]? = some x9 →
 Rf (α:=List AV) (t0.2.1.map Wnt.v) (ck (bndB t0.2.1.length 1 (t0.2.1.length:Int) (t0.2.1.length:Int))
 (∃ h10:x9.srcs.length ≤ 1000000,
 ∃ h11:t0.2.2.length ≤ 900000,
 Ch (chgB_h x9 t0.2.2 h10 h11) [0,2] 243
 (Nf (mergC_n0 a b out (t0.1,(t0.2.1.take ((t0.2.1.length:Int).toNat)).drop 1,chgB x9 t0.2.2)) [0,1,243] (I0 (t0.1,(t0.2.1.take ((t0.2.1.length:Int).toNat)).drop 1,chgB x9 t0.2.2) ∧ m0 (t0.1,(t0.2.1.take ((t0.2.1.length:Int).toNat)).drop 1,chgB x9 t0.2.2) < m0 t0)))))))
 (False))
theorem mergC_eq (a:(List Wnt)) (b:(List Wnt)) (out:(List Wnt)) (I0:((List Wnt) × (List Wnt) × (List Wnt)) → Prop) (m0:((List Wnt) × (List Wnt) × (List Wnt)) → Nat) (r0:(List Wnt)):mxH Tryz.prog 164 [.sl 3 (a.map Wnt.v) false,.sl 3 (b.map Wnt.v) false,.func 165 [.ref 0 0]] [.box (.vec 1),.vec 3 (out.map Wnt.v)] .k mergC_e mergC_b ((.loop 0 (mergC_n0 a b out) (I0) (m0) ((a,b,out):(List Wnt) × (List Wnt) × (List Wnt)) [0,1,1] fun (t0:(List Wnt) × (List Wnt) × (List Wnt)) =>
 (.join 1 (mergC_n1 a b out t0) (fun t1=>(bif (decide (0 < ((t0.1.map Wnt.v).length:Int))) then true else (bif (decide (0 < ((t0.2.1.map Wnt.v).length:Int))) then true else false)) = true) (.br 67 (.back 1 ((()):Unit) [0,1,2])
 (.br 131 (.back 1 ((()):Unit) [0,1,2])
 (.retH t0.2.2 ⟨[],[.box (.vec 2),.gone,.vec 3 (t0.2.2.map Wnt.v) (pureBL_map (fun _=>rfl) t0.2.2)]⟩ [0,1,2]))) fun (t1:Unit) =>
 (.pass (.join 2 (mergC_n2 a b out t0 t1) (fun t2=>((((t0.1.map Wnt.v).length:Int) == 0) = true ∧ t2 = ((1):Int)) ∨ ((((t0.1.map Wnt.v).length:Int) == 0) = false ∧ (((t0.2.1.map Wnt.v).length:Int) == 0) = true ∧ t2 = ((-1):Int)) ∨ ((((t0.1.map Wnt.v).length:Int) == 0) = false ∧ (((t0.2.1.map Wnt.v).length:Int) == 0) = false ∧ ∃ x1':Wnt,t0.1[0]? = some x1' ∧ ∃ x2':Wnt,t0.2.1[0]? = some x2' ∧ t2 = ((cmpI x1'.grp x2'.grp):Int))) (.br 83 (.back 2 ((1):Int) [0,1,2])
 (.br 147 (.back 2 ((-1):Int) [0,1,2])
 (.el 163 Wnt.v t0.1 fun x1 =>
 (.el 227 Wnt.v t0.2.1 fun x2 =>
 (.callP (cmpI_c x1.grp x2.grp)
 (.back 2 ((cmpI x1.grp x2.grp):Int) [0,1,2])))))) fun (t2:Int) =>
 (.br 67 (.el 83 Wnt.v t0.1 fun x3 =>
 (.sub 115 Wnt.v t0.1 false
 (.br 195 (.el 211 Wnt.v t0.2.1 fun x4 =>
 (.sub 243 Wnt.v t0.2.1 false
 (.req 339 (x4.srcs.length ≤ 1000000) fun h5 =>
 (.req 339 (t0.2.2.length ≤ 900000) fun h6 =>
 (.callH [0,2] (chgC_h x3 x4 t0.2.2 h5 h6)
 (.back 0 (((t0.1.take ((t0.1.length:Int).toNat)).drop 1,(t0.2.1.take ((t0.2.1.length:Int).toNat)).drop 1,chgC x3 x4 t0.2.2):(List Wnt) × (List Wnt) × (List Wnt)) [0,1,339]))))))
 (.req 243 (x3.srcs.length ≤ 1000000) fun h7 =>
 (.req 243 (t0.2.2.length ≤ 900000) fun h8 =>
 (.callH [0,2] (chgA_h x3 t0.2.2 h7 h8)
 (.back 0 (((t0.1.take ((t0.1.length:Int).toNat)).drop 1,t0.2.1,chgA x3 t0.2.2):(List Wnt) × (List Wnt) × (List Wnt)) [0,1,243])))))))
 (.br 99 (.el 115 Wnt.v t0.2.1 fun x9 =>
 (.sub 147 Wnt.v t0.2.1 false
 (.req 243 (x9.srcs.length ≤ 1000000) fun h10 =>
 (.req 243 (t0.2.2.length ≤ 900000) fun h11 =>
 (.callH [0,2] (chgB_h x9 t0.2.2 h10 h11)
 (.back 0 ((t0.1,(t0.2.1.take ((t0.2.1.length:Int).toNat)).drop 1,chgB x9 t0.2.2):(List Wnt) × (List Wnt) × (List Wnt)) [0,1,243]))))))
 .nil)))))):An Tryz.prog mergC_s ((List Wnt))) r0 = mergC_vc a b out I0 m0 r0:=by kernel_rfl
theorem mergC_ok (a:(List Wnt)) (b:(List Wnt)) (out:(List Wnt)) (I0:((List Wnt) × (List Wnt) × (List Wnt)) → Prop) (m0:((List Wnt) × (List Wnt) × (List Wnt)) → Nat) (r0:(List Wnt)) (h:mergC_vc a b out I0 m0 r0):HSpec Tryz.prog 164 [.sl 3 (a.map Wnt.v) false,.sl 3 (b.map Wnt.v) false,.func 165 [.ref 0 0]] [.box (.vec 1),.vec 3 (out.map Wnt.v)] (mergC_e r0) (mergC_b r0):=by
  have e:=mergC_eq a b out I0 m0 r0
  rw [← e] at h
  exact mxH_ok (enc:=mergC_e) (hB:=mergC_b) h
theorem chgB_len (y:Wnt) (o:List Wnt):(chgB y o).length ≤ o.length + 1:=by simp [chgB]
theorem chgC_len (x y:Wnt) (o:List Wnt):(chgC x y o).length ≤ o.length + 1:=by unfold chgC; split <;> simp
theorem mergC_p (a b l:List Wnt) (h:okMrg a b l) (ok:mergC_a a b l):∃ I m,mergC_vc a b l I m (mergC a b l):=by
  obtain ⟨h1,h2,h3,h4,h5⟩:=h
  refine ⟨fun t=>mergC t.1 t.2.1 t.2.2 = mergC a b l ∧ t.1.length + t.2.1.length + t.2.2.length ≤ 102000 ∧ (∀ x ∈ t.1,x.srcs.length ≤ 1000000) ∧ ∀ x ∈ t.2.1,x.srcs.length ≤ 1000000,fun t=>t.1.length + t.2.1.length,?_⟩
  simp only [mergC_vc,vcU,rfU,List.length_map]
  refine ⟨⟨trivial,by omega,h4,h5⟩,?_⟩
  rintro ⟨A,B,o⟩ ⟨hm,hl,hA,hB⟩
  clear ok
  simp only at hm hl hA hB
  cases A with
  | nil=>cases B with
    | nil =>
      simp
      rw [← hm,mergC]
    | cons y B =>
      simp [bnd1]
      have hb:=chgB_len y o
      rw [mergC] at hm
      simp only [List.length_cons,List.length_nil] at hl
      exact ⟨hm,by omega,by omega,hB y (by simp),fun z hz=>hB z (by simp [hz])⟩
  | cons x A =>
    have ea:¬ ((A.length:Int) + 1 = 0):=by omega
    cases B with
    | nil =>
      simp [bnd1,ea]
      rw [mergC] at hm
      simp only [List.length_cons,List.length_nil] at hl
      exact ⟨hm,by simp [chgA]; omega,by omega,hA x (by simp),fun z hz=>hA z (by simp [hz])⟩
    | cons y B =>
      have eb:¬ ((B.length:Int) + 1 = 0):=by omega
      have hc:=chgC_len x y o
      simp [bnd1,ea,eb]
      have hb:=chgB_len y o
      rw [mergC] at hm
      simp only [List.length_cons] at hl
      have hx:=hA x (by simp)
      have hy:=hB y (by simp)
      have hA':∀ z ∈ A,z.srcs.length ≤ 1000000:=fun z hz=>hA z (by simp [hz])
      have hB':∀ z ∈ B,z.srcs.length ≤ 1000000:=fun z hz=>hB z (by simp [hz])
      have hgt:0 < cmpI x.grp y.grp ↔ y.grp < x.grp:=by
        have:=cmp_lt x.grp y.grp; have:=cmp_eq x.grp y.grp; omega
      have hlt:=cmp_lt x.grp y.grp
      have heq:=cmp_eq x.grp y.grp
      refine ⟨fun c=>⟨fun d=>⟨⟨?_,?_,hA',hB'⟩,by omega,hy,by omega⟩,fun d=>⟨?_,by simp [chgA]; omega,hA',hy,by omega,hx,hB'⟩⟩,fun c=>⟨fun d=>⟨?_,by omega,⟨hx,hA'⟩,by omega,hy,hB'⟩,by omega⟩⟩
      · rw [if_neg (by omega),if_neg (by omega)] at hm; exact hm
      · show A.length + B.length + (chgC x y o).length ≤ _; omega
      · rw [if_pos (by omega)] at hm; exact hm
      · rw [if_neg (by omega),if_pos (by omega)] at hm; exact hm
def mergC_h (a:(List Wnt)) (b:(List Wnt)) (out:(List Wnt)) (h:okMrg a b out):HC Tryz.prog:=⟨164,[(.s 3),(.s 3),.k],[.sl 3 (a.map Wnt.v) false,.sl 3 (b.map Wnt.v) false,.func 165 [.ref 0 0]],[.box (.vec 1),.vec 3 (out.map Wnt.v)],mergC_e (mergC a b out),mergC_b (mergC a b out),HSpec.of_okh fun ok ok2=>have ok:mergC_a a b out:=⟨ok,ok2 _ (by simp),ok2 _ (by simp)⟩; (mergC_p a b out h ok).elim fun I0 h=>h.elim fun m0 h=>mergC_ok a b out I0 m0 _ h,fnB_ok (by kernel_rfl),HcOk.of (by simp [hcB,belBL,AV.belB,allB,okBk,okBkO,mergC_e,mergC_b,pureBL_map (v:=Wnt.v) (fun _=>rfl)])⟩
def chgsF_a (old:(List Wnt)) (new:(List Wnt)):Prop:=okL [.sl 3 (old.map Wnt.v) false,.sl 3 (new.map Wnt.v) false]
def chgsF_s:Nat → Type
  | _=>Unit
def chgsF_e (r:(List Wnt) × Int):AV:=.tup [.sl 3 (r.1.map Wnt.v) false,.int r.2]
def chgsF_vc (old:(List Wnt)) (new:(List Wnt)) (r0:(List Wnt) × Int):Prop:=
 Cl (valW_c old)
 (Cl (valW_c new)
 (Cl (orI_c [wErr false old,wErr false new])
 (br ((orI [wErr false old,wErr false new]) != 0)
 (Rf (chgsF_e ([],orI [wErr false old,wErr false new])) (([],orI [wErr false old,wErr false new]) = r0))
 (∃ h1:okMrg old new [],
 Ch (mergC_h old new [] h1) [176,192] 241
 (Rf ((mergC old new []).map Wnt.v) (Cl (limited_c (mergC old new []))
 (Rf (chgsF_e ((limitW (mergC old new [])).1,(limitW (mergC old new [])).2)) (((limitW (mergC old new [])).1,(limitW (mergC old new [])).2) = r0))))))))
theorem chgsF_eq (old:(List Wnt)) (new:(List Wnt)) (r0:(List Wnt) × Int):mxP Tryz.prog 118 [.sl 3 (old.map Wnt.v) false,.sl 3 (new.map Wnt.v) false] (.a [(.s 3),.k]) chgsF_e ((.callP (valW_c old)
 (.callP (valW_c new)
 (.callP (orI_c [wErr false old,wErr false new])
 (.br 176 (.ret ([],orI [wErr false old,wErr false new]))
 (.wait (.cmd (.nilC 176 3) (.req 241 (okMrg old new []) fun h1 =>
 (.callH [176,192] (mergC_h old new [] h1)
 (.cmd (.frzE 241 ((mergC old new []).map Wnt.v) (pureBL_map (fun _=>rfl) (mergC old new []))) (.callP (limited_c (mergC old new []))
 (.ret ((limitW (mergC old new [])).1,(limitW (mergC old new [])).2)))))))))))):An Tryz.prog chgsF_s ((List Wnt) × Int)) r0 = chgsF_vc old new r0:=by kernel_rfl
theorem chgsF_ok (old:(List Wnt)) (new:(List Wnt)) (r0:(List Wnt) × Int) (h:chgsF_vc old new r0):PSpec Tryz.prog 118 [.sl 3 (old.map Wnt.v) false,.sl 3 (new.map Wnt.v) false] (chgsF_e r0):=by
  have e:=chgsF_eq old new r0
  rw [← e] at h
  exact mxP_ok (enc:=chgsF_e) h (AV.pureB_ok rfl)
theorem chgsF_p (a c:List Wnt) (ok:chgsF_a a c):chgsF_vc a c (changes a c):=by
  simp only [chgsF_vc,vcU,rfU,List.length_map]
  rw [orI_two]
  by_cases h1:wErr false a = 0
  case neg=>simp [changes,h1]
  by_cases h2:wErr false c = 0
  case neg=>simp [changes,h1,h2]
  have b1:=wErr_srcs h1
  have b2:=wErr_srcs h2
  refine ⟨fun e=>by simp [h1,h2] at e,fun _=>?_⟩
  refine ⟨⟨by omega,by omega,by simp,b1.2,b2.2⟩,?_⟩
  rw [mergC_to h1 h2,changes,if_neg (not_not_intro h1),if_neg (not_not_intro h2)]
  generalize chgsTo a c 99 = l
  rfl
def chgsF_c (old:(List Wnt)) (new:(List Wnt)):PC Tryz.prog:=⟨118,[(.s 3),(.s 3)],[.sl 3 (old.map Wnt.v) false,.sl 3 (new.map Wnt.v) false],chgsF_e (changes old new),PSpec.of_ok fun ok=>chgsF_ok old new _ (chgsF_p old new ok),fnB_ok (by kernel_rfl)⟩
def beginO (o:Ovl) (r:Int) (w:List Wnt):Int × Int:=if ¬ ovlOk o then (0,1) else if r ∉ rtrs o.sp then (0,4) else (posS o.sp r,wErr false w)
theorem hitS_iff {o:Ovl} (h:ovlOk o) (r:Int):hitS o.sp r ↔ r ∈ rtrs o.sp:=(hitK_iff (key:=Spk.router) h.1.asc).trans mem_keys.symm
def beginO_a (o:Ovl) (router:Int) (wants:(List Wnt)):Prop:=okL [.agg [.sl 5 (o.sp.map Spk.v) false,.sl 3 (o.ls.map Lsn.v) false,.sl 10 (o.fl.map Sig.v) false],.int router,.sl 3 (wants.map Wnt.v) false]
def beginO_s:Nat → Type
  | _=>Unit
def beginO_e (r:Int × Int):AV:=.tup [.int r.1,.int r.2]
def beginO_vc (o:Ovl) (router:Int) (wants:(List Wnt)) (r0:Int × Int):Prop:=
 Cl (validO_c o)
 (br (!(decide (ovlOk o)))
 (Rf (beginO_e (0,1)) ((0,1) = r0))
 (∃ h1:o.sp.Pairwise fun x y=>x.router < y.router,
 ∃ h2:o.sp.length ≤ 1000000,
 Cl (findS_c o router h1 h2)
 (br (!(decide (hitS o.sp router)))
 (Rf (beginO_e (0,4)) ((0,4) = r0))
 (Cl (valW_c wants)
 (Rf (beginO_e ((posS o.sp router:Int),wErr false wants)) (((posS o.sp router:Int),wErr false wants) = r0))))))
theorem beginO_eq (o:Ovl) (router:Int) (wants:(List Wnt)) (r0:Int × Int):mxP Tryz.prog 117 [.agg [.sl 5 (o.sp.map Spk.v) false,.sl 3 (o.ls.map Lsn.v) false,.sl 10 (o.fl.map Sig.v) false],.int router,.sl 3 (wants.map Wnt.v) false] .k beginO_e ((.callP (validO_c o)
 (.br 96 (.ret (0,1))
 (.req 128 (o.sp.Pairwise fun x y=>x.router < y.router) fun h1 =>
 (.req 128 (o.sp.length ≤ 1000000) fun h2 =>
 (.callP (findS_c o router h1 h2)
 (.br 256 (.ret (0,4))
 (.callP (valW_c wants)
 (.ret ((posS o.sp router:Int),wErr false wants))))))))):An Tryz.prog beginO_s (Int × Int)) r0 = beginO_vc o router wants r0:=by kernel_rfl
theorem beginO_ok (o:Ovl) (router:Int) (wants:(List Wnt)) (r0:Int × Int) (h:beginO_vc o router wants r0):PSpec Tryz.prog 117 [.agg [.sl 5 (o.sp.map Spk.v) false,.sl 3 (o.ls.map Lsn.v) false,.sl 10 (o.fl.map Sig.v) false],.int router,.sl 3 (wants.map Wnt.v) false] (beginO_e r0):=by
  have e:=beginO_eq o router wants r0
  rw [← e] at h
  exact mxP_ok (enc:=beginO_e) h (AV.pureB_ok rfl)
theorem beginO_p (o:Ovl) (r:Int) (w:List Wnt) (ok:beginO_a o r w):beginO_vc o r w (beginO o r w):=by
  simp only [beginO_vc,vcU,rfU,List.length_map]
  unfold beginO
  refine ⟨fun h=>?_,fun h=>?_⟩
  · rw [if_pos (by simpa using h)]
  have h:ovlOk o:=by simpa using h
  rw [if_neg (not_not_intro h)]
  refine ⟨h.1.asc,by have:=(ovl_iff.mp h).1; omega,?_⟩
  refine ⟨fun q=>?_,fun q=>?_⟩
  · have q:r ∉ rtrs o.sp:=by rw [← hitS_iff h]; simpa using q
    rw [if_pos q]
  · have q:r ∈ rtrs o.sp:=by rw [← hitS_iff h]; simpa using q
    rw [if_neg (not_not_intro q)]
def beginO_c (o:Ovl) (router:Int) (wants:(List Wnt)):PC Tryz.prog:=⟨117,[(.a [(.s 5),(.s 3),(.s 10)]),.k,(.s 3)],[.agg [.sl 5 (o.sp.map Spk.v) false,.sl 3 (o.ls.map Lsn.v) false,.sl 10 (o.fl.map Sig.v) false],.int router,.sl 3 (wants.map Wnt.v) false],beginO_e (beginO o router wants),PSpec.of_ok fun ok=>beginO_ok o router wants _ (beginO_p o router wants ok),fnB_ok (by kernel_rfl)⟩
theorem begin_z {o:Ovl} {r:Int} {w:List Wnt} (h:(beginO o r w).2 = 0):ovlOk o ∧ r ∈ rtrs o.sp ∧ wErr false w = 0 ∧ (beginO o r w).1 = posS o.sp r:=by
  unfold beginO at h ⊢
  by_cases h1:ovlOk o
  case neg=>rw [if_pos h1] at h; simp at h
  by_cases h2:r ∈ rtrs o.sp
  case neg=>rw [if_neg (not_not_intro h1),if_pos h2] at h; simp at h
  rw [if_neg (not_not_intro h1),if_neg (not_not_intro h2)] at h ⊢
  exact ⟨h1,h2,h,rfl⟩
theorem begin_ne {o:Ovl} {r:Int} {w:List Wnt} (h:(beginO o r w).2 ≠ 0):changeV o r w = (ovl0,(beginO o r w).2) ∧ restartV o r w = (ovl0,(beginO o r w).2):=by
  unfold beginO changeV restartV at *
  by_cases h1:ovlOk o
  case neg=>rw [if_pos h1,if_pos h1,if_pos h1]; exact ⟨rfl,rfl⟩
  rw [if_neg (not_not_intro h1)] at h ⊢
  rw [if_neg (not_not_intro h1),if_neg (not_not_intro h1)]
  by_cases h2:r ∈ rtrs o.sp
  case neg=>rw [if_pos h2,if_pos h2,if_pos h2]; exact ⟨rfl,rfl⟩
  rw [if_neg (not_not_intro h2)] at h ⊢
  rw [if_neg (not_not_intro h2),if_neg (not_not_intro h2),if_pos h]
  refine ⟨rfl,?_⟩
  have hs:=(h1.1.spo _ (h1.1.s h2).1).1
  have e:(restart (atS o.sp r) w).2 = wErr false w:=by
    unfold restart
    rw [if_neg (not_not_intro hs),if_pos h]
  rw [e,if_pos h]
theorem pos_get {o:Ovl} (h:ovlOk o) {r:Int} (hr:r ∈ rtrs o.sp):posS o.sp r < o.sp.length ∧ posS o.sp r < o.ls.length ∧ o.sp[posS o.sp r]? = some (atS o.sp r) ∧ o.ls[posS o.sp r]? = some (atL o.sp o.ls r):=by
  have h1:=((hitS_iff h r).mpr hr).1
  have h2:=(ovl_iff.mp h).2.1
  refine ⟨h1,by omega,?_,?_⟩
  · unfold atS; rw [List.getD_eq_getElem?_getD,List.getElem?_eq_getElem h1]; rfl
  · unfold atL; rw [List.getD_eq_getElem?_getD,List.getElem?_eq_getElem (by omega)]; rfl
def chgOv_a (o:Ovl) (router:Int) (wants:(List Wnt)):Prop:=okL [.agg [.sl 5 (o.sp.map Spk.v) false,.sl 3 (o.ls.map Lsn.v) false,.sl 10 (o.fl.map Sig.v) false],.int router,.sl 3 (wants.map Wnt.v) false]
def chgOv_s:Nat → Type
  | _=>Unit
def chgOv_e (r:Ovl × Int):AV:=.tup [Ovl.v r.1,.int r.2]
def chgOv_vc (o:Ovl) (router:Int) (wants:(List Wnt)) (r0:Ovl × Int):Prop:=
 Cl (beginO_c o router wants)
 (br (((beginO o router wants).2) != 0)
 (Rf (chgOv_e ((⟨[],[],[]⟩:Ovl),(beginO o router wants).2)) (((⟨[],[],[]⟩:Ovl),(beginO o router wants).2) = r0))
 (Rf (o.sp.map Spk.v) (ck (decide (0 ≤ ((beginO o router wants).1))) (ck (decide (((beginO o router wants).1) < (o.sp.length:Int)))
 (∀ x1,o.sp[((beginO o router wants).1).toNat]? = some x1 →
 Cl (wantsF_c x1.items)
 (Cl (chgsF_c (wantsOf x1.items) wants)
 (br (((changes (wantsOf x1.items) wants).2) != 0)
 (Rf (chgOv_e ((⟨[],[],[]⟩:Ovl),(changes (wantsOf x1.items) wants).2)) (((⟨[],[],[]⟩:Ovl),(changes (wantsOf x1.items) wants).2) = r0))
 (Rf (o.sp.map Spk.v) (ck (decide (0 ≤ ((beginO o router wants).1))) (ck (decide (((beginO o router wants).1) < (o.sp.length:Int)))
 (∀ x2,o.sp[((beginO o router wants).1).toNat]? = some x2 →
 Cl (change_c x2 ((changes (wantsOf x1.items) wants).1))
 (br (((change x2 ((changes (wantsOf x1.items) wants).1)).2) != 0)
 (Rf (chgOv_e ((⟨[],[],[]⟩:Ovl),(change x2 ((changes (wantsOf x1.items) wants).1)).2)) (((⟨[],[],[]⟩:Ovl),(change x2 ((changes (wantsOf x1.items) wants).1)).2) = r0))
 (∃ h3:ovlOk o ∧ o.fl.length ≤ 1000000,
 Ch (copO_h o h3) [] 736
 (ck (cond (decide (0 ≤ ((beginO o router wants).1))) (decide (((beginO o router wants).1) < ((o.sp.map Spk.v).length:Int))) false)
 (Rf (o.sp.map Spk.v) (ck (decide (((beginO o router wants).1).toNat < o.sp.length))
 (∀ y4,o.sp[((beginO o router wants).1).toNat]? = some y4 → Rf (Spk.v ((change x2 ((changes (wantsOf x1.items) wants).1)).1))
 (Rf (o.fl.map Sig.v) (Rf (o.ls.map Lsn.v) (Rf ((o.sp.set (((beginO o router wants).1).toNat) ((change x2 ((changes (wantsOf x1.items) wants).1)).1)).map Spk.v) (Rf (chgOv_e ((⟨o.sp.set (((beginO o router wants).1).toNat) ((change x2 ((changes (wantsOf x1.items) wants).1)).1),o.ls,o.fl⟩:Ovl),0)) (((⟨o.sp.set (((beginO o router wants).1).toNat) ((change x2 ((changes (wantsOf x1.items) wants).1)).1),o.ls,o.fl⟩:Ovl),0) = r0))))))))))))))))))))))
theorem chgOv_eq (o:Ovl) (router:Int) (wants:(List Wnt)) (r0:Ovl × Int):mxP Tryz.prog 51 [.agg [.sl 5 (o.sp.map Spk.v) false,.sl 3 (o.ls.map Lsn.v) false,.sl 10 (o.fl.map Sig.v) false],.int router,.sl 3 (wants.map Wnt.v) false] (.a [(.a [(.s 5),(.s 3),(.s 10)]),.k]) chgOv_e ((.callP (beginO_c o router wants)
 (.br 224 (.ret ((⟨[],[],[]⟩:Ovl),(beginO o router wants).2))
 (.el 272 Spk.v o.sp fun x1 =>
 (.callP (wantsF_c x1.items)
 (.callP (chgsF_c (wantsOf x1.items) wants)
 (.br 480 (.ret ((⟨[],[],[]⟩:Ovl),(changes (wantsOf x1.items) wants).2))
 (.el 528 Spk.v o.sp fun x2 =>
 (.callP (change_c x2 ((changes (wantsOf x1.items) wants).1))
 (.br 720 (.ret ((⟨[],[],[]⟩:Ovl),(change x2 ((changes (wantsOf x1.items) wants).1)).2))
 (.req 736 (ovlOk o ∧ o.fl.length ≤ 1000000) fun h3 =>
 (.callH [] (copO_h o h3)
 (.st 864 Spk.v o.sp (fun y4=>((change x2 ((changes (wantsOf x1.items) wants).1)).1)) fun y4 =>
 (.cmdL (.frzE 738 (o.fl.map Sig.v) (pureBL_map (fun _=>rfl) o.fl)) (.cmdL (.frzE 737 (o.ls.map Lsn.v) (pureBL_map (fun _=>rfl) o.ls)) (.cmdL (.frzE 736 ((o.sp.set (((beginO o router wants).1).toNat) ((change x2 ((changes (wantsOf x1.items) wants).1)).1)).map Spk.v) (pureBL_map (fun _=>rfl) (o.sp.set (((beginO o router wants).1).toNat) ((change x2 ((changes (wantsOf x1.items) wants).1)).1)))) (.ret ((⟨o.sp.set (((beginO o router wants).1).toNat) ((change x2 ((changes (wantsOf x1.items) wants).1)).1),o.ls,o.fl⟩:Ovl),0))))))))))))))))):An Tryz.prog chgOv_s (Ovl × Int)) r0 = chgOv_vc o router wants r0:=by kernel_rfl
theorem chgOv_ok (o:Ovl) (router:Int) (wants:(List Wnt)) (r0:Ovl × Int) (h:chgOv_vc o router wants r0):PSpec Tryz.prog 51 [.agg [.sl 5 (o.sp.map Spk.v) false,.sl 3 (o.ls.map Lsn.v) false,.sl 10 (o.fl.map Sig.v) false],.int router,.sl 3 (wants.map Wnt.v) false] (chgOv_e r0):=by
  have e:=chgOv_eq o router wants r0
  rw [← e] at h
  exact mxP_ok (enc:=chgOv_e) h (AV.pureB_ok rfl)
theorem chgOv_p (o:Ovl) (r:Int) (w:List Wnt) (h:o.fl.length ≤ 1000000) (ok:chgOv_a o r w):chgOv_vc o r w (changeV o r w):=by
  simp only [chgOv_vc,vcU,rfU,List.length_map]
  refine ⟨fun q=>?_,fun q=>?_⟩
  · have q:(beginO o r w).2 ≠ 0:=by simpa using q
    rw [(begin_ne q).1]; rfl
  obtain ⟨h1,h2,h3,h4⟩:=begin_z (by simpa using q)
  obtain ⟨p1,p2,p3,p4⟩:=pos_get h1 h2
  rw [h4]
  simp only [Int.toNat_natCast]
  unfold changeV
  rw [if_neg (not_not_intro h1),if_neg (not_not_intro h2),if_neg (not_not_intro h3)]
  refine ⟨by omega,by omega,fun x hx=>?_⟩
  cases p3.symm.trans hx
  refine ⟨fun c=>?_,fun c=>⟨by omega,by omega,fun y hy=>?_⟩⟩
  · rw [if_pos (by simpa using c)]; rfl
  rw [if_neg (by simpa using c)]
  cases p3.symm.trans hy
  refine ⟨fun d=>?_,fun d=>?_⟩
  · rw [if_pos (by simpa using d)]; rfl
  rw [if_neg (by simpa using d)]
  exact ⟨⟨h1,h⟩,by simp; omega,by omega,fun z hz=>rfl⟩
def chgOv_c (o:Ovl) (router:Int) (wants:(List Wnt)) (h:o.fl.length ≤ 1000000):PC Tryz.prog:=⟨51,[(.a [(.s 5),(.s 3),(.s 10)]),.k,(.s 3)],[.agg [.sl 5 (o.sp.map Spk.v) false,.sl 3 (o.ls.map Lsn.v) false,.sl 10 (o.fl.map Sig.v) false],.int router,.sl 3 (wants.map Wnt.v) false],chgOv_e (changeV o router wants),PSpec.of_ok fun ok=>chgOv_ok o router wants _ (chgOv_p o router wants h ok),fnB_ok (by kernel_rfl)⟩
def rstOv_a (o:Ovl) (router:Int) (wants:(List Wnt)):Prop:=okL [.agg [.sl 5 (o.sp.map Spk.v) false,.sl 3 (o.ls.map Lsn.v) false,.sl 10 (o.fl.map Sig.v) false],.int router,.sl 3 (wants.map Wnt.v) false]
def rstOv_s:Nat → Type
  | _=>Unit
def rstOv_e (r:Ovl × Int):AV:=.tup [Ovl.v r.1,.int r.2]
def rstOv_vc (o:Ovl) (router:Int) (wants:(List Wnt)) (r0:Ovl × Int):Prop:=
 Cl (beginO_c o router wants)
 (br (((beginO o router wants).2) != 0)
 (Rf (rstOv_e ((⟨[],[],[]⟩:Ovl),(beginO o router wants).2)) (((⟨[],[],[]⟩:Ovl),(beginO o router wants).2) = r0))
 (Rf (o.sp.map Spk.v) (ck (decide (0 ≤ ((beginO o router wants).1))) (ck (decide (((beginO o router wants).1) < (o.sp.length:Int)))
 (∀ x1,o.sp[((beginO o router wants).1).toNat]? = some x1 →
 Cl (restart_c x1 wants)
 (br (((restart x1 wants).2) != 0)
 (Rf (rstOv_e ((⟨[],[],[]⟩:Ovl),(restart x1 wants).2)) (((⟨[],[],[]⟩:Ovl),(restart x1 wants).2) = r0))
 (Rf (o.ls.map Lsn.v) (ck (decide (0 ≤ ((beginO o router wants).1))) (ck (decide (((beginO o router wants).1) < (o.ls.length:Int)))
 (∀ x2,o.ls[((beginO o router wants).1).toNat]? = some x2 →
 br (x2.epoch == 1000000)
 (Rf (rstOv_e ((⟨[],[],[]⟩:Ovl),3)) (((⟨[],[],[]⟩:Ovl),3) = r0))
 (∃ h3:ovlOk o ∧ o.fl.length ≤ 1000000,
 Ch (copO_h o h3) [] 624
 (ck (cond (decide (0 ≤ ((beginO o router wants).1))) (decide (((beginO o router wants).1) < ((o.sp.map Spk.v).length:Int))) false)
 (Rf (o.sp.map Spk.v) (ck (decide (((beginO o router wants).1).toNat < o.sp.length))
 (∀ y4,o.sp[((beginO o router wants).1).toNat]? = some y4 → Rf (Spk.v ((restart x1 wants).1))
 (ck (cond (decide (0 ≤ ((beginO o router wants).1))) (decide (((beginO o router wants).1) < ((o.ls.map Lsn.v).length:Int))) false)
 (Rf (o.ls.map Lsn.v) (ck (decide (((beginO o router wants).1).toNat < o.ls.length))
 (∀ y5,o.ls[((beginO o router wants).1).toNat]? = some y5 →
 (Rf (α:=List AV) ((o.ls.map Lsn.v).set (((beginO o router wants).1).toNat) (.agg [.int router,.int (W (x2.epoch + 1)),.sl 0 [] true])) (Rf (Lsn.v (⟨router,W (x2.epoch + 1),[]⟩:Lsn))
 (Rf (o.fl.map Sig.v) (Rf ((o.ls.set (((beginO o router wants).1).toNat) (⟨router,W (x2.epoch + 1),[]⟩:Lsn)).map Lsn.v) (Rf ((o.sp.set (((beginO o router wants).1).toNat) ((restart x1 wants).1)).map Spk.v) (Rf (rstOv_e ((⟨o.sp.set (((beginO o router wants).1).toNat) ((restart x1 wants).1),o.ls.set (((beginO o router wants).1).toNat) (⟨router,W (x2.epoch + 1),[]⟩:Lsn),o.fl⟩:Ovl),0)) (((⟨o.sp.set (((beginO o router wants).1).toNat) ((restart x1 wants).1),o.ls.set (((beginO o router wants).1).toNat) (⟨router,W (x2.epoch + 1),[]⟩:Lsn),o.fl⟩:Ovl),0) = r0))))))))))))))))))))))))))
theorem rstOv_eq (o:Ovl) (router:Int) (wants:(List Wnt)) (r0:Ovl × Int):mxP Tryz.prog 52 [.agg [.sl 5 (o.sp.map Spk.v) false,.sl 3 (o.ls.map Lsn.v) false,.sl 10 (o.fl.map Sig.v) false],.int router,.sl 3 (wants.map Wnt.v) false] (.a [(.a [(.s 5),(.s 3),(.s 10)]),.k]) rstOv_e ((.callP (beginO_c o router wants)
 (.br 224 (.ret ((⟨[],[],[]⟩:Ovl),(beginO o router wants).2))
 (.el 272 Spk.v o.sp fun x1 =>
 (.callP (restart_c x1 wants)
 (.br 464 (.ret ((⟨[],[],[]⟩:Ovl),(restart x1 wants).2))
 (.el 512 Lsn.v o.ls fun x2 =>
 (.br 608 (.ret ((⟨[],[],[]⟩:Ovl),3))
 (.req 624 (ovlOk o ∧ o.fl.length ≤ 1000000) fun h3 =>
 (.callH [] (copO_h o h3)
 (.st 864 Spk.v o.sp (fun y4=>((restart x1 wants).1)) fun y4 =>
 (.stI 896 Lsn.v o.ls fun y5 =>
 (.cmd (.wkS 625 (((beginO o router wants).1).toNat) (.a [.k,.k,(.s 4)]) Lsn.v o.ls (.agg [.int router,.int (W (x2.epoch + 1)),.sl 0 [] true]) (⟨router,W (x2.epoch + 1),[]⟩:Lsn)) (.cmdL (.frzE 626 (o.fl.map Sig.v) (pureBL_map (fun _=>rfl) o.fl)) (.cmdL (.frzE 625 ((o.ls.set (((beginO o router wants).1).toNat) (⟨router,W (x2.epoch + 1),[]⟩:Lsn)).map Lsn.v) (pureBL_map (fun _=>rfl) (o.ls.set (((beginO o router wants).1).toNat) (⟨router,W (x2.epoch + 1),[]⟩:Lsn)))) (.cmdL (.frzE 624 ((o.sp.set (((beginO o router wants).1).toNat) ((restart x1 wants).1)).map Spk.v) (pureBL_map (fun _=>rfl) (o.sp.set (((beginO o router wants).1).toNat) ((restart x1 wants).1)))) (.ret ((⟨o.sp.set (((beginO o router wants).1).toNat) ((restart x1 wants).1),o.ls.set (((beginO o router wants).1).toNat) (⟨router,W (x2.epoch + 1),[]⟩:Lsn),o.fl⟩:Ovl),0))))))))))))))))):An Tryz.prog rstOv_s (Ovl × Int)) r0 = rstOv_vc o router wants r0:=by kernel_rfl
theorem rstOv_ok (o:Ovl) (router:Int) (wants:(List Wnt)) (r0:Ovl × Int) (h:rstOv_vc o router wants r0):PSpec Tryz.prog 52 [.agg [.sl 5 (o.sp.map Spk.v) false,.sl 3 (o.ls.map Lsn.v) false,.sl 10 (o.fl.map Sig.v) false],.int router,.sl 3 (wants.map Wnt.v) false] (rstOv_e r0):=by
  have e:=rstOv_eq o router wants r0
  rw [← e] at h
  exact mxP_ok (enc:=rstOv_e) h (AV.pureB_ok rfl)
theorem rstOv_p (o:Ovl) (r:Int) (w:List Wnt) (h:o.fl.length ≤ 1000000) (ok:rstOv_a o r w):rstOv_vc o r w (restartV o r w):=by
  simp only [rstOv_vc,vcU,rfU,List.length_map]
  refine ⟨fun q=>?_,fun q=>?_⟩
  · have q:(beginO o r w).2 ≠ 0:=by simpa using q
    rw [(begin_ne q).2]; rfl
  obtain ⟨h1,h2,h3,h4⟩:=begin_z (by simpa using q)
  obtain ⟨p1,p2,p3,p4⟩:=pos_get h1 h2
  rw [h4]
  simp only [Int.toNat_natCast]
  unfold restartV
  rw [if_neg (not_not_intro h1),if_neg (not_not_intro h2)]
  refine ⟨by omega,by omega,fun x hx=>?_⟩
  cases p3.symm.trans hx
  refine ⟨fun c=>?_,fun c=>⟨by omega,by omega,fun y hy=>?_⟩⟩
  · rw [if_pos (by simpa using c)]; rfl
  rw [if_neg (by simpa using c)]
  cases p4.symm.trans hy
  refine ⟨fun d=>?_,fun d=>?_⟩
  · rw [if_pos (by simpa using d)]; rfl
  rw [if_neg (by simpa using d)]
  have he:=(h1.1.lso _ (mem_of_get p4)).1.2.1
  refine ⟨⟨h1,h⟩,by simp; omega,by omega,fun z hz=>⟨by simp; omega,by omega,fun u hu=>?_⟩⟩
  rw [W_eq (by omega)]
def rstOv_c (o:Ovl) (router:Int) (wants:(List Wnt)) (h:o.fl.length ≤ 1000000):PC Tryz.prog:=⟨52,[(.a [(.s 5),(.s 3),(.s 10)]),.k,(.s 3)],[.agg [.sl 5 (o.sp.map Spk.v) false,.sl 3 (o.ls.map Lsn.v) false,.sl 10 (o.fl.map Sig.v) false],.int router,.sl 3 (wants.map Wnt.v) false],rstOv_e (restartV o router wants),PSpec.of_ok fun ok=>rstOv_ok o router wants _ (rstOv_p o router wants h ok),fnB_ok (by kernel_rfl)⟩
end Go.Proofs.YtglfecmdoekabaaGreatDoor

namespace Go.Proofs.YtglfecmdoekabaaGreatDoor
open Go Go.Am
set_option linter.unusedVariables false
set_option linter.unusedSimpArgs false
def cf159:AF:=
  ⟨33,3,[.tmp 6],
  .seq (.reg [⟨(some 6),.move (.c (.sl 0 [] true)),none⟩])
  (.seq (.reg [⟨(some 8),.move (.t 0),none⟩,⟨(some 9),.move (.t 1),none⟩,⟨(some 10),.move (.t 2),none⟩,⟨(some 11),.move (.t 0),none⟩,⟨(some 12),.len (.t 11),none⟩,⟨(some 13),.slice 10 (.t 8) (some (.t 9)) (some (.t 10)) (some (.t 12)),none⟩])
  (.seq (.seq (.reg [⟨(some 14),.move (.t 1),none⟩,⟨(some 15),.move (.t 2),none⟩,⟨(some 16),.bin .eql (.t 14) (.t 15),none⟩])
  (.cond (.t 16) (.seq (.reg [⟨(some 17),.move (.t 0),none⟩,⟨(some 6),.move (.t 17),none⟩])
  (.ret)) (.skip)))
  (.seq (.reg [⟨(some 18),.move (.t 0),none⟩,⟨(some 19),.len (.t 18),none⟩,⟨(some 7),.move (.t 19),none⟩])
  (.seq (.dreg [⟨(some 20),.move (.t 0),none⟩,⟨(some 21),.move (.t 1),none⟩,⟨(some 22),.slice 10 (.t 20) none (some (.t 21)) none,none⟩,⟨(some 23),.move (.t 0),none⟩,⟨(some 24),.move (.t 2),none⟩,⟨(some 25),.slice 10 (.t 23) (some (.t 24)) none none,none⟩,⟨(some 26),.append 10 96 (.t 22) (.t 25),none⟩,⟨(some 0),.move (.t 26),none⟩] [(2,5)])
  (.seq (.reg [⟨(some 27),.move (.t 0),none⟩,⟨(some 28),.move (.t 0),none⟩,⟨(some 29),.len (.t 28),none⟩,⟨(some 30),.move (.t 7),none⟩,⟨(some 31),.slice 10 (.t 27) (some (.t 29)) (some (.t 30)) none,none⟩,⟨none,.clear 10 ((.agg [(.val (.int .i64 0)),(.val (.int .i64 0)),(.val (.int .i64 0)),(.val (.int .i64 0)),(.val (.int .i64 0)),(.val (.int .i64 0)),(.val (.int .i64 0)),(.val (.int .i64 0)),(.val (.int .i64 0)),(.sl 0 [] true)])) (.t 31),none⟩])
  (.seq (.reg [⟨(some 32),.move (.t 0),none⟩,⟨(some 6),.move (.t 32),none⟩])
  (.ret)))))))⟩
theorem cf159_ok:cFunc Tryz.prog Tryz.f159 = some cf159:=by kernel_rfl
theorem Delete_fnG:FnOk Tryz.prog 159:=fnB_ok (by kernel_rfl)
def delAt {α:Type} (es:List α) (i:Nat):List α:=es.take i ++ es.drop (i + 1)
theorem pureL_delAt {es:List AV} (h:pureL es) (i:Nat):pureL (delAt es i):=pureL_append (pureL_take h i) (pureL_drop h (i + 1))
theorem Delete_specG (es:List AV) (i:Nat) (hi:i < es.length) (hs:es.length ≤ 1000000) (hp:pureL es) :
    HSpec Tryz.prog 159 [.vec 0,.int i,.int ((i + 1:Nat):Int)] [.vec 10 es] (.vec 1) [none,some (.vec 10 (delAt es i))]:=by
  refine HSpec.of_row (fun cap h1 h2=>?_) (fun h=>by subst h; simp at hi)
  have hml:=maxLen_eq
  refine HSpec.walk Tryz.func159 cf159_ok (by simp [cf159]) ?_
  unfold cf159
  simp only [initT,initH,List.length_cons,List.length_nil]
  have e1:((i:Int) == ((i + 1:Nat):Int)) = false:=by simp; omega
  repeat (first
    | refine AWP.seq' ?_
    | refine AWP.skip ?_
    | (refine AWP.reg' fun K hK=>?_; simp only [stepS,stepD,stepM,eq_self,implies_true,forall_eq_or_imp,forall_eq,Nat.reduceEqDiff,↓reduceIte,Nat.reduceAdd,Nat.reduceLeDiff,Nat.reduceSub,Nat.reduceMul,Nat.reduceLT,Int.reduceBEq,Int.reduceBNe,Int.reduceToNat,Int.reduceLT,Int.reduceLE,Int.reduceAdd,Int.reduceSub,Int.reduceMul,reduceCtorEq,e1]; (repeat (refine And.intro (by omega) ?_)); refine hK _ _ _ ?_; clear hK K))
  refine AWP.cond (b:=false) rfl (fun h=>by cases h) (fun h=>?_)
  repeat (first
    | refine AWP.seq' ?_
    | refine AWP.skip ?_
    | (refine AWP.reg' fun K hK=>?_; simp only [stepS,stepD,stepM,eq_self,implies_true,forall_eq_or_imp,forall_eq,Nat.reduceEqDiff,↓reduceIte,Nat.reduceAdd,Nat.reduceLeDiff,Nat.reduceSub,Nat.reduceMul,Nat.reduceLT,Int.reduceBEq,Int.reduceBNe,Int.reduceToNat,Int.reduceLT,Int.reduceLE,Int.reduceAdd,Int.reduceSub,Int.reduceMul,reduceCtorEq]; (repeat (refine And.intro (by omega) ?_)); refine hK _ _ _ ?_; clear hK K))
  have g1:((es.length:Int) - ((i + 1:Nat):Int)).toNat = es.length - (i + 1):=by omega
  have g2:((i:Int) - 0).toNat = i:=by omega
  have g3:(es.drop (i + 1)).take (es.length - (i + 1)) = es.drop (i + 1):=List.take_of_length_le (by simp)
  have g4:(es.drop (i + 1)).length = es.length - (i + 1):=List.length_drop ..
  have g5:i + (es.length - (i + 1)) = es.length - 1:=by omega
  have g6:¬ ((es.length:Int) < (i:Int)):=by omega
  have g7:i + 1 + (es.length - (i + 1)) ≤ es.length:=by omega
  refine AWP.dreg' fun K hK=>?_
  try simp only [stepS,stepD,stepM,eq_self,implies_true,forall_eq_or_imp,forall_eq,Nat.reduceEqDiff,↓reduceIte,Nat.reduceAdd,Nat.reduceLeDiff,Nat.reduceSub,Nat.reduceMul,Nat.reduceLT,Int.reduceBEq,Int.reduceBNe,Int.reduceToNat,Int.reduceLT,Int.reduceLE,Int.reduceAdd,Int.reduceSub,Int.reduceMul,reduceCtorEq,appendA,srcA,g1,g2,g3,g4,g5,g6,g7]
  repeat (refine And.intro (by omega) ?_)
  refine ⟨by rfl,hK _ _ _ ?_⟩
  clear hK K
  have hd:es.take i ++ es.drop (i + 1) = delAt es i:=rfl
  have hdl:(delAt es i).length = es.length - 1:=by unfold delAt; simp; omega
  refine AWP.seq' ?_
  have g8:((es.length:Int) - ((es.length - 1:Nat):Int)).toNat = 1:=by omega
  refine AWP.reg' fun K hK=>?_
  try simp only [stepS,stepD,stepM,eq_self,implies_true,forall_eq_or_imp,forall_eq,Nat.reduceEqDiff,↓reduceIte,Nat.reduceAdd,Nat.reduceLeDiff,Nat.reduceSub,Nat.reduceMul,Nat.reduceLT,Int.reduceBEq,Int.reduceBNe,Int.reduceToNat,Int.reduceLT,Int.reduceLE,Int.reduceAdd,Int.reduceSub,Int.reduceMul,reduceCtorEq,hd,hdl,g8,clearA]
  repeat (refine And.intro (by omega) ?_)
  refine hK _ _ _ ?_
  clear hK K
  repeat (first
    | refine AWP.seq' ?_
    | refine AWP.skip ?_
    | (refine AWP.reg' fun K hK=>?_; simp only [stepS,stepD,stepM,eq_self,implies_true,forall_eq_or_imp,forall_eq,Nat.reduceEqDiff,↓reduceIte,Nat.reduceAdd,Nat.reduceLeDiff,Nat.reduceSub,Nat.reduceMul,Nat.reduceLT,Int.reduceBEq,Int.reduceBNe,Int.reduceToNat,Int.reduceLT,Int.reduceLE,Int.reduceAdd,Int.reduceSub,Int.reduceMul,reduceCtorEq]; (repeat (refine And.intro (by omega) ?_)); refine hK _ _ _ ?_; clear hK K))
  refine AWP.ret (fin_weak (Weak.row (b:=305) (cap:=cap) (k:=10) (es:=delAt es i) (by rw [hdl]; rfl)) (fin_ren [0,305] [(6,.vec 1)] rfl rfl ?_ ?_ rfl (by simp) ?_ (by simp)))
  · simp only [List.mem_singleton,forall_eq]
    exact ⟨rfl,show (1:Nat) < 2 by omega⟩
  · refine ⟨⟨?_,?_⟩,trivial⟩
    · rw [(vec_ren (m:=0) (pureL_delAt hp i)).1]
      rfl
    · exact (vec_ren (π:=id) (pureL_delAt hp i)).2
  · intro b hb
    match b,hb with
    | 0,_=>rfl
theorem delAt_map {α β:Type} (f:α → β) (l:List α) (i:Nat):delAt (l.map f) i = (delAt l i).map f:=by simp [delAt]
def delG_h (l:List Sig) (i j:Int) (hi:(0 ≤ i ∧ i < l.length) ∧ j = i + 1) (hl:l.length ≤ 1000000):HC Tryz.prog:=
  ⟨159,[.k,.k,.k],[.vec 0,.int i,.int j],[.vec 10 (l.map Sig.v)],.vec 1,[none,some (.vec 10 ((delAt l i.toNat).map Sig.v))],by
    have h:=Delete_specG (l.map Sig.v) i.toNat (by rw [List.length_map]; omega) (by simpa using hl) (pureBL_ok (pureBL_map (fun _=>rfl) l))
    rw [delAt_map] at h
    have e1:((i.toNat:Nat):Int) = i:=by omega
    have e2:((i.toNat + 1:Nat):Int) = j:=by omega
    rw [e1,e2] at h
    exact h,Delete_fnG,HcOk.of (by simp [hcB,belBL,AV.belB,allB,okBk,okBkO,pureBL_map (v:=Sig.v) (fun _=>rfl),pureBL,AV.pureB])⟩
end Go.Proofs.YtglfecmdoekabaaGreatDoor

namespace Go.Proofs.YtglfecmdoekabaaGreatDoor
open Go Go.Am
set_option linter.unusedVariables false
set_option linter.unusedSimpArgs false
def cf160:AF:=
  ⟨95,3,[.tmp 6],
  .seq (.reg [⟨(some 6),.move (.c (.sl 0 [] true)),none⟩])
  (.seq (.reg [⟨(some 10),.move (.t 0),none⟩,⟨(some 11),.move (.t 1),none⟩,⟨(some 12),.slice 10 (.t 10) (some (.t 11)) none none,none⟩])
  (.seq (.reg [⟨(some 13),.move (.t 2),none⟩,⟨(some 14),.len (.t 13),none⟩,⟨(some 7),.move (.t 14),none⟩])
  (.seq (.seq (.reg [⟨(some 15),.move (.t 7),none⟩,⟨(some 16),.bin .eql (.t 15) (.c (.val (.int .i64 0))),none⟩])
  (.cond (.t 16) (.seq (.reg [⟨(some 17),.move (.t 0),none⟩,⟨(some 6),.move (.t 17),none⟩])
  (.ret)) (.skip)))
  (.seq (.reg [⟨(some 18),.move (.t 0),none⟩,⟨(some 19),.len (.t 18),none⟩,⟨(some 8),.move (.t 19),none⟩])
  (.seq (.seq (.reg [⟨(some 20),.move (.t 1),none⟩,⟨(some 21),.move (.t 8),none⟩,⟨(some 22),.bin .eql (.t 20) (.t 21),none⟩])
  (.cond (.t 22) (.seq (.reg [⟨(some 23),.move (.t 0),none⟩,⟨(some 24),.move (.t 2),none⟩,⟨(some 25),.append 10 96 (.t 23) (.t 24),none⟩,⟨(some 6),.move (.t 25),none⟩])
  (.ret)) (.skip)))
  (.seq (.seq (.reg [⟨(some 26),.move (.t 8),none⟩,⟨(some 27),.move (.t 7),none⟩,⟨(some 28),.bin .add (.t 26) (.t 27),none⟩,⟨(some 29),.move (.t 0),none⟩,⟨(some 30),.cap (.t 29),none⟩,⟨(some 31),.bin .gtr (.t 28) (.t 30),none⟩])
  (.cond (.t 31) (.seq (.reg [⟨(some 32),.move (.t 0),none⟩,⟨(some 33),.move (.t 1),none⟩,⟨(some 34),.slice 10 (.t 32) none (some (.t 33)) none,none⟩,⟨(some 35),.move (.t 8),none⟩,⟨(some 36),.move (.t 7),none⟩,⟨(some 37),.bin .add (.t 35) (.t 36),none⟩,⟨(some 38),.move (.t 1),none⟩,⟨(some 39),.bin .sub (.t 37) (.t 38),none⟩,⟨(some 40),.appendZ 10 96 ((.agg [(.val (.int .i64 0)),(.val (.int .i64 0)),(.val (.int .i64 0)),(.val (.int .i64 0)),(.val (.int .i64 0)),(.val (.int .i64 0)),(.val (.int .i64 0)),(.val (.int .i64 0)),(.val (.int .i64 0)),(.sl 0 [] true)])) (.t 34) (.t 39),none⟩,⟨(some 9),.move (.t 40),none⟩])
  (.seq (.reg [⟨(some 41),.move (.t 9),none⟩,⟨(some 42),.move (.t 1),none⟩,⟨(some 43),.slice 10 (.t 41) (some (.t 42)) none none,none⟩,⟨(some 44),.move (.t 2),none⟩,⟨(some 45),.copy 10 (.t 43) (.t 44),none⟩])
  (.seq (.dreg [⟨(some 46),.move (.t 9),none⟩,⟨(some 47),.move (.t 1),none⟩,⟨(some 48),.move (.t 7),none⟩,⟨(some 49),.bin .add (.t 47) (.t 48),none⟩,⟨(some 50),.slice 10 (.t 46) (some (.t 49)) none none,none⟩,⟨(some 51),.move (.t 0),none⟩,⟨(some 52),.move (.t 1),none⟩,⟨(some 53),.slice 10 (.t 51) (some (.t 52)) none none,none⟩,⟨(some 54),.copy 10 (.t 50) (.t 53),none⟩] [(4,7)])
  (.seq (.reg [⟨(some 55),.move (.t 9),none⟩,⟨(some 6),.move (.t 55),none⟩])
  (.ret))))) (.skip)))
  (.seq (.reg [⟨(some 56),.move (.t 0),none⟩,⟨(some 57),.move (.t 8),none⟩,⟨(some 58),.move (.t 7),none⟩,⟨(some 59),.bin .add (.t 57) (.t 58),none⟩,⟨(some 60),.slice 10 (.t 56) none (some (.t 59)) none,none⟩,⟨(some 0),.move (.t 60),none⟩])
  (.seq (.seq (.reg [⟨(some 61),.move (.t 2),none⟩,⟨(some 62),.move (.t 0),none⟩,⟨(some 63),.move (.t 1),none⟩,⟨(some 64),.move (.t 7),none⟩,⟨(some 65),.bin .add (.t 63) (.t 64),none⟩,⟨(some 66),.slice 10 (.t 62) (some (.t 65)) none none,none⟩,⟨(some 67),.call (.c (.func 189 [])) [(.t 61),(.t 66)],none⟩,⟨(some 68),.un .not (.t 67),none⟩])
  (.cond (.t 68) (.seq (.dreg [⟨(some 69),.move (.t 0),none⟩,⟨(some 70),.move (.t 1),none⟩,⟨(some 71),.move (.t 7),none⟩,⟨(some 72),.bin .add (.t 70) (.t 71),none⟩,⟨(some 73),.slice 10 (.t 69) (some (.t 72)) none none,none⟩,⟨(some 74),.move (.t 0),none⟩,⟨(some 75),.move (.t 1),none⟩,⟨(some 76),.slice 10 (.t 74) (some (.t 75)) none none,none⟩,⟨(some 77),.copy 10 (.t 73) (.t 76),none⟩] [(4,7)])
  (.seq (.reg [⟨(some 78),.move (.t 0),none⟩,⟨(some 79),.move (.t 1),none⟩,⟨(some 80),.slice 10 (.t 78) (some (.t 79)) none none,none⟩,⟨(some 81),.move (.t 2),none⟩,⟨(some 82),.copy 10 (.t 80) (.t 81),none⟩])
  (.seq (.reg [⟨(some 83),.move (.t 0),none⟩,⟨(some 6),.move (.t 83),none⟩])
  (.ret)))) (.skip)))
  (.seq (.reg [⟨(some 84),.move (.t 0),none⟩,⟨(some 85),.move (.t 8),none⟩,⟨(some 86),.slice 10 (.t 84) (some (.t 85)) none none,none⟩,⟨(some 87),.move (.t 2),none⟩,⟨(some 88),.copy 10 (.t 86) (.t 87),none⟩])
  (.seq (.reg [⟨(some 89),.move (.t 0),none⟩,⟨(some 90),.move (.t 1),none⟩,⟨(some 91),.slice 10 (.t 89) (some (.t 90)) none none,none⟩,⟨(some 92),.move (.t 7),none⟩,⟨(some 93),.call (.c (.func 190 [])) [(.t 91),(.t 92)],none⟩])
  (.seq (.reg [⟨(some 94),.move (.t 0),none⟩,⟨(some 6),.move (.t 94),none⟩])
  (.ret))))))))))))⟩
theorem cf160_ok:cFunc Tryz.prog Tryz.f160 = some cf160:=by kernel_rfl
theorem overlaps_noneG : (Tryz.f189.name == "runtime.NumGoroutine") = false ∧ Tryz.f189.body.isNone = true := ⟨by kernel_rfl, by kernel_rfl⟩
theorem overlaps_nextG:Extern.findNext Tryz.f189 = none:=by kernel_rfl
theorem overlaps_findG:Extern.find Tryz.f189 = some (Extern.SlicesOverlaps.overlaps #[42,42] #[4]):=by kernel_rfl
theorem overlaps_sizeG:sizeOf? Tryz.prog 29 = some 10:=by kernel_rfl
theorem overlaps_tyG:Program.underlying Tryz.prog 42 = some (.slice 29):=by kernel_rfl
theorem Insert_rowG (es:List AV) (x:AV) (i cap:Nat) (hi:i ≤ es.length) (hx:x.solid = true) (h1:es.length ≤ cap) (h2:cap ≤ maxLen) (hs:es.length ≤ 1000000) (hp:pureL es ∧ x.pure) :
    HSpec Tryz.prog 160 [.vec 0,.int i,.vec 1] [.row 10 es es.length cap,.vec 10 [x]] (.vec 2) [none,none,some (.vec 10 (insAt es i x))]:=by
  have hml:=maxLen_eq
  refine HSpec.walk Tryz.func160 cf160_ok (by simp [cf160]) ?_
  unfold cf160
  simp only [initT,initH,List.length_cons,List.length_nil]
  refine AWP.seq' ?_
  refine AWP.reg' fun K hK=>?_
  try simp only [stepS,stepD,stepM,eq_self,implies_true,forall_eq_or_imp,forall_eq,Nat.reduceEqDiff,↓reduceIte,Nat.reduceAdd,Nat.reduceLeDiff,Nat.reduceSub,Nat.reduceMul,Nat.reduceLT,Int.reduceBEq,Int.reduceBNe,Int.reduceToNat,Int.reduceLT,Int.reduceLE,Int.reduceAdd,Int.reduceSub,Int.reduceMul,reduceCtorEq]
  refine hK _ _ _ ?_
  clear hK K
  refine AWP.seq' ?_
  refine AWP.reg' fun K hK=>?_
  try simp only [stepS,stepD,stepM,eq_self,implies_true,forall_eq_or_imp,forall_eq,Nat.reduceEqDiff,↓reduceIte,Nat.reduceAdd,Nat.reduceLeDiff,Nat.reduceSub,Nat.reduceMul,Nat.reduceLT,Int.reduceBEq,Int.reduceBNe,Int.reduceToNat,Int.reduceLT,Int.reduceLE,Int.reduceAdd,Int.reduceSub,Int.reduceMul,reduceCtorEq]
  repeat (refine And.intro (by omega) ?_)
  refine hK _ _ _ ?_
  clear hK K
  refine AWP.seq' ?_
  refine AWP.reg' fun K hK=>?_
  try simp only [stepS,stepD,stepM,eq_self,implies_true,forall_eq_or_imp,forall_eq,Nat.reduceEqDiff,↓reduceIte,Nat.reduceAdd,Nat.reduceLeDiff,Nat.reduceSub,Nat.reduceMul,Nat.reduceLT,Int.reduceBEq,Int.reduceBNe,Int.reduceToNat,Int.reduceLT,Int.reduceLE,Int.reduceAdd,Int.reduceSub,Int.reduceMul,reduceCtorEq]
  refine hK _ _ _ ?_
  clear hK K
  refine AWP.seq' (AWP.seq' ?_)
  refine AWP.reg' fun K hK=>?_
  try simp only [stepS,stepD,stepM,eq_self,implies_true,forall_eq_or_imp,forall_eq,Nat.reduceEqDiff,↓reduceIte,Nat.reduceAdd,Nat.reduceLeDiff,Nat.reduceSub,Nat.reduceMul,Nat.reduceLT,Int.reduceBEq,Int.reduceBNe,Int.reduceToNat,Int.reduceLT,Int.reduceLE,Int.reduceAdd,Int.reduceSub,Int.reduceMul,reduceCtorEq]
  refine hK _ _ _ ?_
  clear hK K
  refine AWP.cond (b:=false) rfl (fun h=>by cases h) (fun _=>?_)
  refine AWP.skip ?_
  refine AWP.seq' ?_
  refine AWP.reg' fun K hK=>?_
  try simp only [stepS,stepD,stepM,eq_self,implies_true,forall_eq_or_imp,forall_eq,Nat.reduceEqDiff,↓reduceIte,Nat.reduceAdd,Nat.reduceLeDiff,Nat.reduceSub,Nat.reduceMul,Nat.reduceLT,Int.reduceBEq,Int.reduceBNe,Int.reduceToNat,Int.reduceLT,Int.reduceLE,Int.reduceAdd,Int.reduceSub,Int.reduceMul,reduceCtorEq]
  refine hK _ _ _ ?_
  clear hK K
  refine AWP.seq' (AWP.seq' ?_)
  refine AWP.reg' fun K hK=>?_
  try simp only [stepS,stepD,stepM,eq_self,implies_true,forall_eq_or_imp,forall_eq,Nat.reduceEqDiff,↓reduceIte,Nat.reduceAdd,Nat.reduceLeDiff,Nat.reduceSub,Nat.reduceMul,Nat.reduceLT,Int.reduceBEq,Int.reduceBNe,Int.reduceToNat,Int.reduceLT,Int.reduceLE,Int.reduceAdd,Int.reduceSub,Int.reduceMul,reduceCtorEq]
  refine hK _ _ _ ?_
  clear hK K
  refine AWP.cond (b:=((i:Int) == (es.length:Int))) rfl (fun h=>?_) (fun h=>?_)
  · have h:i = es.length:=by have:=eq_of_beq h; omega
    refine AWP.seq' ?_
    refine AWP.reg' fun K hK=>?_
    try simp only [stepS,stepD,stepM,eq_self,implies_true,forall_eq_or_imp,forall_eq,Nat.reduceEqDiff,↓reduceIte,Nat.reduceAdd,Nat.reduceLeDiff,Nat.reduceSub,Nat.reduceMul,Nat.reduceLT,Int.reduceBEq,Int.reduceBNe,Int.reduceToNat,Int.reduceLT,Int.reduceLE,Int.reduceAdd,Int.reduceSub,Int.reduceMul,reduceCtorEq,appendA,srcA]
    repeat (refine And.intro (by omega) ?_)
    refine hK _ _ _ ?_
    clear hK K
    refine AWP.ret (fin_ren [0,1,274] [(6,.vec 2)] rfl rfl ?_ ?_ rfl (by simp) ?_ (by simp))
    · simp only [List.mem_singleton,forall_eq]
      exact ⟨rfl,show (2:Nat) < 3 by omega⟩
    · refine ⟨⟨?_,?_⟩,trivial⟩
      · rw [(vec_ren (m:=0) (pureL_insAt hp.1 hp.2 i)).1]
        show some (Blk.vec 10 (es ++ [x])) = _
        rw [insAt,h,List.take_length,List.drop_length,List.append_nil]
      · exact (vec_ren (π:=id) (pureL_insAt hp.1 hp.2 i)).2
    · intro b hb
      match b,hb with
      | 0,_=>rfl
      | 1,_=>rfl
  have h:¬ i = es.length:=by intro e; subst e; simp at h
  refine AWP.skip ?_
  refine AWP.seq' (AWP.seq' ?_)
  have w1:IntKind.i64.wrap ((es.length:Int) + 1) = es.length + 1:=wrap64 (by omega)
  refine AWP.reg' fun K hK=>?_
  try simp only [stepS,stepD,stepM,eq_self,implies_true,forall_eq_or_imp,forall_eq,Nat.reduceEqDiff,↓reduceIte,Nat.reduceAdd,Nat.reduceLeDiff,Nat.reduceSub,Nat.reduceMul,Nat.reduceLT,Int.reduceBEq,Int.reduceBNe,Int.reduceToNat,Int.reduceLT,Int.reduceLE,Int.reduceAdd,Int.reduceSub,Int.reduceMul,reduceCtorEq,w1]
  refine hK _ _ _ ?_
  clear hK K
  refine AWP.cond (b:=decide ((cap:Int) < (es.length:Int) + 1)) rfl (fun h3=>?_) (fun h3=>?_)
  · have h3:cap = es.length:=by have:=of_decide_eq_true h3; omega
    refine AWP.seq' ?_
    have w2:IntKind.i64.wrap ((es.length:Int) + 1 - i) = es.length + 1 - i:=wrap64 (by omega)
    have hlt:¬ ((es.length:Int) < (i:Int)):=by omega
    refine AWP.reg' fun K hK=>?_
    try simp only [stepS,stepD,stepM,eq_self,implies_true,forall_eq_or_imp,forall_eq,Nat.reduceEqDiff,↓reduceIte,Nat.reduceAdd,Nat.reduceLeDiff,Nat.reduceSub,Nat.reduceMul,Nat.reduceLT,Int.reduceBEq,Int.reduceBNe,Int.reduceToNat,Int.reduceLT,Int.reduceLE,Int.reduceAdd,Int.reduceSub,Int.reduceMul,reduceCtorEq,w1,w2,appendZA,Int.toNat_natCast,hlt]
    repeat (refine And.intro (by omega) ?_)
    refine hK _ _ _ ?_
    clear hK K
    have hn:((es.length:Int) + 1 - i).toNat = es.length + 1 - i:=by omega
    rw [hn]
    generalize hL:es.take i ++ List.replicate (es.length + 1 - i) (AV.agg [AV.val (Value.int IntKind.i64 0),AV.val (Value.int IntKind.i64 0),AV.val (Value.int IntKind.i64 0),AV.val (Value.int IntKind.i64 0),AV.val (Value.int IntKind.i64 0),AV.val (Value.int IntKind.i64 0),AV.val (Value.int IntKind.i64 0),AV.val (Value.int IntKind.i64 0),AV.val (Value.int IntKind.i64 0),AV.sl 0 [] true]) = L
    have hLl:L.length = es.length + 1:=by rw [← hL]; simp; omega
    refine AWP.seq' ?_
    have hpos:0 < es.length + 1:=by omega
    have hsub:(((es.length + 1:Nat):Int) - (i:Int)).toNat = es.length + 1 - i:=by omega
    have hmin:Nat.min 1 (es.length + 1 - i) = 1:=Nat.min_eq_left (by omega)
    refine AWP.reg' fun K hK=>?_
    try simp only [stepS,stepD,stepM,eq_self,implies_true,forall_eq_or_imp,forall_eq,Nat.reduceEqDiff,↓reduceIte,Nat.reduceAdd,Nat.reduceLeDiff,Nat.reduceSub,Nat.reduceMul,Nat.reduceLT,Int.reduceBEq,Int.reduceBNe,Int.reduceToNat,Int.reduceLT,Int.reduceLE,Int.reduceAdd,Int.reduceSub,Int.reduceMul,reduceCtorEq,hLl,copyA,srcP,srcA,Int.toNat_natCast,hpos,hsub,hmin]
    repeat (refine And.intro (by omega) ?_)
    refine hK _ _ _ ?_
    clear hK K
    have ht1:List.take 1 [x] = [x]:=rfl
    have w3:IntKind.i64.wrap ((i:Int) + 1) = i + 1:=wrap64 (by omega)
    generalize hM:over L i [x] = M
    have hMl:M.length = es.length + 1:=by rw [← hM,over_length (by omega),Nat.max_def]; split <;> simp at * <;> omega
    refine AWP.seq' ?_
    have ha:((es.length:Int) - (i:Int)).toNat = es.length - i:=by omega
    have hb:(((es.length + 1:Nat):Int) - ((i:Int) + 1)).toNat = es.length - i:=by omega
    have hc:((i:Int) + 1).toNat = i + 1:=by omega
    have hd:Nat.min (es.length - i) (es.length - i) = es.length - i:=Nat.min_self _
    have he:(es.drop i).take (es.length - i) = es.drop i:=List.take_of_length_le (by simp)
    have hf:(es.drop i).length = es.length - i:=List.length_drop ..
    refine AWP.dreg' fun K hK=>?_
    try simp only [stepS,stepD,stepM,eq_self,implies_true,forall_eq_or_imp,forall_eq,Nat.reduceEqDiff,↓reduceIte,Nat.reduceAdd,Nat.reduceLeDiff,Nat.reduceSub,Nat.reduceMul,Nat.reduceLT,Int.reduceBEq,Int.reduceBNe,Int.reduceToNat,Int.reduceLT,Int.reduceLE,Int.reduceAdd,Int.reduceSub,Int.reduceMul,reduceCtorEq,hMl,copyA,srcP,srcA,Int.toNat_natCast,hpos,w3,ha,hb,hc,hd,he,hf]
    repeat (refine And.intro (by omega) ?_)
    refine ⟨by rfl,hK _ _ _ ?_⟩
    clear hK K
    refine AWP.seq' ?_
    refine AWP.reg' fun K hK=>?_
    try simp only [stepS,stepD,stepM,eq_self,implies_true,forall_eq_or_imp,forall_eq,Nat.reduceEqDiff,↓reduceIte,Nat.reduceAdd,Nat.reduceLeDiff,Nat.reduceSub,Nat.reduceMul,Nat.reduceLT,Int.reduceBEq,Int.reduceBNe,Int.reduceToNat,Int.reduceLT,Int.reduceLE,Int.reduceAdd,Int.reduceSub,Int.reduceMul,reduceCtorEq]
    refine hK _ _ _ ?_
    clear hK K
    have hfin:over M (i + 1) (es.drop i) = insAt es i x:=by
      have hLi:L.take i = es.take i:=by
        rw [← hL,List.take_append_of_le_length (by simp; omega),List.take_take,Nat.min_self]
      have hMi:M.take (i + 1) = es.take i ++ [x]:=by
        have e1:(es.take i ++ [x]).length = i + 1:=by simp; omega
        rw [← hM,over,hLi,← e1]
        exact List.take_left
      have hMd:M.drop (i + 1 + (es.drop i).length) = []:=List.drop_of_length_le (by rw [hMl,hf]; omega)
      unfold over insAt
      rw [hMi,hMd,List.append_nil]
    refine AWP.ret (fin_ren [0,1,466] [(6,.vec 2)] rfl rfl ?_ ?_ rfl (by simp) ?_ (by simp))
    · simp only [List.mem_singleton,forall_eq]
      exact ⟨rfl,show (2:Nat) < 3 by omega⟩
    · refine ⟨⟨?_,?_⟩,trivial⟩
      · rw [(vec_ren (m:=0) (pureL_insAt hp.1 hp.2 i)).1,← hfin]
        rfl
      · exact (vec_ren (π:=id) (pureL_insAt hp.1 hp.2 i)).2
    · intro b hb
      match b,hb with
      | 0,_=>rfl
      | 1,_=>rfl
  have h3:es.length + 1 ≤ cap:=by have:=of_decide_eq_false h3; omega
  refine AWP.skip ?_
  refine AWP.seq' ?_
  have hgt:((es.length:Int) < (es.length:Int) + 1):=by omega
  refine AWP.reg' fun K hK=>?_
  try simp only [stepS,stepD,stepM,eq_self,implies_true,forall_eq_or_imp,forall_eq,Nat.reduceEqDiff,↓reduceIte,Nat.reduceAdd,Nat.reduceLeDiff,Nat.reduceSub,Nat.reduceMul,Nat.reduceLT,Int.reduceBEq,Int.reduceBNe,Int.reduceToNat,Int.reduceLT,Int.reduceLE,Int.reduceAdd,Int.reduceSub,Int.reduceMul,reduceCtorEq,w1,hgt]
  repeat (refine And.intro (by omega) ?_)
  refine hK _ _ _ ?_
  clear hK K
  have w3:IntKind.i64.wrap ((i:Int) + 1) = i + 1:=wrap64 (by omega)
  refine AWP.seq' (AWP.seq' ?_)
  have hn1:((es.length:Int) + 1).toNat = es.length + 1:=by omega
  refine AWP.reg' fun K hK=>?_
  try simp only [stepS,stepD,stepM,eq_self,implies_true,forall_eq_or_imp,forall_eq,Nat.reduceEqDiff,↓reduceIte,Nat.reduceAdd,Nat.reduceLeDiff,Nat.reduceSub,Nat.reduceMul,Nat.reduceLT,Int.reduceBEq,Int.reduceBNe,Int.reduceToNat,Int.reduceLT,Int.reduceLE,Int.reduceAdd,Int.reduceSub,Int.reduceMul,reduceCtorEq,w3,Int.toNat_natCast,hn1]
  repeat (refine And.intro (by omega) ?_)
  refine evT_ext rfl rfl (ext_overlaps Tryz.func189 overlaps_noneG.1 overlaps_noneG.2 overlaps_nextG overlaps_findG overlaps_tyG overlaps_sizeG (by omega) rfl rfl (by omega) (by simp) (by omega)) ?_
  try simp only [stepS,stepD,stepM,eq_self,implies_true,forall_eq_or_imp,forall_eq,Nat.reduceEqDiff,↓reduceIte,Nat.reduceAdd,Nat.reduceLeDiff,Nat.reduceSub,Nat.reduceMul,Nat.reduceLT,Int.reduceBEq,Int.reduceBNe,Int.reduceToNat,Int.reduceLT,Int.reduceLE,Int.reduceAdd,Int.reduceSub,Int.reduceMul,reduceCtorEq,w3]
  refine hK _ _ _ ?_
  clear hK K
  refine AWP.cond (b:=true) rfl (fun _=>?_) (fun h=>by cases h)
  refine AWP.seq' ?_
  have hb:(((es.length + 1:Nat):Int) - ((i:Int) + 1)).toNat = es.length - i:=by omega
  have hc:((i:Int) + 1).toNat = i + 1:=by omega
  have hsub:(((es.length + 1:Nat):Int) - (i:Int)).toNat = es.length + 1 - i:=by omega
  have hd:Nat.min (es.length + 1 - i) (es.length - i) = es.length - i:=Nat.min_eq_right (by omega)
  have he:(es.drop i).take (es.length + 1 - i) = es.drop i:=List.take_of_length_le (by simp; omega)
  have he2:(es.drop i).take (es.length - i) = es.drop i:=List.take_of_length_le (by simp)
  have hf:(es.drop i).length = es.length - i:=List.length_drop ..
  refine AWP.dreg' fun K hK=>?_
  try simp only [stepS,stepD,stepM,eq_self,implies_true,forall_eq_or_imp,forall_eq,Nat.reduceEqDiff,↓reduceIte,Nat.reduceAdd,Nat.reduceLeDiff,Nat.reduceSub,Nat.reduceMul,Nat.reduceLT,Int.reduceBEq,Int.reduceBNe,Int.reduceToNat,Int.reduceLT,Int.reduceLE,Int.reduceAdd,Int.reduceSub,Int.reduceMul,reduceCtorEq,w3,copyA,srcP,srcA,Int.toNat_natCast,hb,hc,hsub,hd,he,he2,hf]
  repeat (refine And.intro (by omega) ?_)
  refine ⟨by rfl,hK _ _ _ ?_⟩
  clear hK K
  have hMl:(over es (i + 1) (es.drop i)).length = es.length + 1:=by simp [over]; omega
  have hMt:(over es (i + 1) (es.drop i)).take i = es.take i:=by
    unfold over
    rw [List.append_assoc,List.take_append_of_le_length (by simp; omega),List.take_take,Nat.min_eq_left (by omega)]
  have hMd:(over es (i + 1) (es.drop i)).drop (i + 1) = es.drop i:=by
    unfold over
    have e1:(es.take (i + 1)).length = i + 1:=by simp; omega
    have e2:es.drop (i + 1 + (es.drop i).length) = []:=List.drop_of_length_le (by simp; omega)
    rw [e2,List.append_nil]
    have e3:=List.drop_left (l₁:=es.take (i + 1)) (l₂:=es.drop i)
    rw [e1] at e3; exact e3
  generalize hM:over es (i + 1) (es.drop i) = M at *
  refine AWP.seq' ?_
  have hsub:(((es.length + 1:Nat):Int) - (i:Int)).toNat = es.length + 1 - i:=by omega
  have hmin:Nat.min 1 (es.length + 1 - i) = 1:=Nat.min_eq_left (by omega)
  have ht1:List.take 1 [x] = [x]:=rfl
  refine AWP.reg' fun K hK=>?_
  try simp only [stepS,stepD,stepM,eq_self,implies_true,forall_eq_or_imp,forall_eq,Nat.reduceEqDiff,↓reduceIte,Nat.reduceAdd,Nat.reduceLeDiff,Nat.reduceSub,Nat.reduceMul,Nat.reduceLT,Int.reduceBEq,Int.reduceBNe,Int.reduceToNat,Int.reduceLT,Int.reduceLE,Int.reduceAdd,Int.reduceSub,Int.reduceMul,reduceCtorEq,hMl,copyA,srcP,srcA,Int.toNat_natCast,hsub,hmin]
  repeat (refine And.intro (by omega) ?_)
  refine hK _ _ _ ?_
  clear hK K
  refine AWP.seq' ?_
  refine AWP.reg' fun K hK=>?_
  try simp only [stepS,stepD,stepM,eq_self,implies_true,forall_eq_or_imp,forall_eq,Nat.reduceEqDiff,↓reduceIte,Nat.reduceAdd,Nat.reduceLeDiff,Nat.reduceSub,Nat.reduceMul,Nat.reduceLT,Int.reduceBEq,Int.reduceBNe,Int.reduceToNat,Int.reduceLT,Int.reduceLE,Int.reduceAdd,Int.reduceSub,Int.reduceMul,reduceCtorEq]
  refine hK _ _ _ ?_
  clear hK K
  have hfin:over M i [x] = insAt es i x:=by
    unfold over insAt
    rw [hMt,show i + [x].length = i + 1 from rfl,hMd]
  have hfl:(insAt es i x).length = es.length + 1:=by unfold insAt; simp; omega
  rw [hfin]
  refine AWP.ret (fin_weak (Weak.row (b:=402) (cap:=cap) (k:=10) (es:=insAt es i x) (by rw [hfl]; rfl)) (fin_ren [0,1,402] [(6,.vec 2)] rfl rfl ?_ ?_ rfl (by simp) ?_ (by simp)))
  · simp only [List.mem_singleton,forall_eq]
    exact ⟨rfl,show (2:Nat) < 3 by omega⟩
  · refine ⟨⟨?_,?_⟩,trivial⟩
    · rw [(vec_ren (m:=0) (pureL_insAt hp.1 hp.2 i)).1]
      rfl
    · exact (vec_ren (π:=id) (pureL_insAt hp.1 hp.2 i)).2
  · intro b hb
    match b,hb with
    | 0,_=>rfl
    | 1,_=>rfl
theorem Insert_nilG (x:AV) (hx:x.solid = true) (hp:x.pure) :
    HSpec Tryz.prog 160 [.vec 0,.int 0,.vec 1] [.vec 10 [],.vec 10 [x]] (.vec 2) [none,none,some (.vec 10 [x])]:=by
  have hml:=maxLen_eq
  refine HSpec.walk Tryz.func160 cf160_ok (by simp [cf160]) ?_
  unfold cf160
  simp only [initT,initH,List.length_cons,List.length_nil]
  refine AWP.seq' ?_
  refine AWP.reg' fun K hK=>?_
  try simp only [stepS,stepD,stepM,eq_self,implies_true,forall_eq_or_imp,forall_eq,Nat.reduceEqDiff,↓reduceIte,Nat.reduceAdd,Nat.reduceLeDiff,Nat.reduceSub,Nat.reduceMul,Nat.reduceLT,Int.reduceBEq,Int.reduceBNe,Int.reduceToNat,Int.reduceLT,Int.reduceLE,Int.reduceAdd,Int.reduceSub,Int.reduceMul,reduceCtorEq]
  refine hK _ _ _ ?_
  clear hK K
  refine AWP.seq' ?_
  refine AWP.reg' fun K hK=>?_
  try simp only [stepS,stepD,stepM,eq_self,implies_true,forall_eq_or_imp,forall_eq,Nat.reduceEqDiff,↓reduceIte,Nat.reduceAdd,Nat.reduceLeDiff,Nat.reduceSub,Nat.reduceMul,Nat.reduceLT,Int.reduceBEq,Int.reduceBNe,Int.reduceToNat,Int.reduceLT,Int.reduceLE,Int.reduceAdd,Int.reduceSub,Int.reduceMul,reduceCtorEq]
  refine hK _ _ _ ?_
  clear hK K
  refine AWP.seq' ?_
  refine AWP.reg' fun K hK=>?_
  try simp only [stepS,stepD,stepM,eq_self,implies_true,forall_eq_or_imp,forall_eq,Nat.reduceEqDiff,↓reduceIte,Nat.reduceAdd,Nat.reduceLeDiff,Nat.reduceSub,Nat.reduceMul,Nat.reduceLT,Int.reduceBEq,Int.reduceBNe,Int.reduceToNat,Int.reduceLT,Int.reduceLE,Int.reduceAdd,Int.reduceSub,Int.reduceMul,reduceCtorEq]
  refine hK _ _ _ ?_
  clear hK K
  refine AWP.seq' (AWP.seq' ?_)
  refine AWP.reg' fun K hK=>?_
  try simp only [stepS,stepD,stepM,eq_self,implies_true,forall_eq_or_imp,forall_eq,Nat.reduceEqDiff,↓reduceIte,Nat.reduceAdd,Nat.reduceLeDiff,Nat.reduceSub,Nat.reduceMul,Nat.reduceLT,Int.reduceBEq,Int.reduceBNe,Int.reduceToNat,Int.reduceLT,Int.reduceLE,Int.reduceAdd,Int.reduceSub,Int.reduceMul,reduceCtorEq]
  refine hK _ _ _ ?_
  clear hK K
  refine AWP.cond (b:=false) rfl (fun h=>by cases h) (fun _=>?_)
  refine AWP.skip ?_
  refine AWP.seq' ?_
  refine AWP.reg' fun K hK=>?_
  try simp only [stepS,stepD,stepM,eq_self,implies_true,forall_eq_or_imp,forall_eq,Nat.reduceEqDiff,↓reduceIte,Nat.reduceAdd,Nat.reduceLeDiff,Nat.reduceSub,Nat.reduceMul,Nat.reduceLT,Int.reduceBEq,Int.reduceBNe,Int.reduceToNat,Int.reduceLT,Int.reduceLE,Int.reduceAdd,Int.reduceSub,Int.reduceMul,reduceCtorEq]
  refine hK _ _ _ ?_
  clear hK K
  refine AWP.seq' (AWP.seq' ?_)
  refine AWP.reg' fun K hK=>?_
  try simp only [stepS,stepD,stepM,eq_self,implies_true,forall_eq_or_imp,forall_eq,Nat.reduceEqDiff,↓reduceIte,Nat.reduceAdd,Nat.reduceLeDiff,Nat.reduceSub,Nat.reduceMul,Nat.reduceLT,Int.reduceBEq,Int.reduceBNe,Int.reduceToNat,Int.reduceLT,Int.reduceLE,Int.reduceAdd,Int.reduceSub,Int.reduceMul,reduceCtorEq]
  refine hK _ _ _ ?_
  clear hK K
  refine AWP.cond (b:=true) rfl (fun h=>?_) (fun h=>by cases h)
  refine AWP.seq' ?_
  refine AWP.reg' fun K hK=>?_
  try simp only [stepS,stepD,stepM,eq_self,implies_true,forall_eq_or_imp,forall_eq,Nat.reduceEqDiff,↓reduceIte,Nat.reduceAdd,Nat.reduceLeDiff,Nat.reduceSub,Nat.reduceMul,Nat.reduceLT,Int.reduceBEq,Int.reduceBNe,Int.reduceToNat,Int.reduceLT,Int.reduceLE,Int.reduceAdd,Int.reduceSub,Int.reduceMul,reduceCtorEq,appendA,srcA]
  repeat (refine And.intro (by omega) ?_)
  refine hK _ _ _ ?_
  clear hK K
  refine AWP.ret (fin_ren [0,1,274] [(6,.vec 2)] rfl rfl ?_ ?_ rfl (by simp) ?_ (by simp))
  · simp only [List.mem_singleton,forall_eq]
    exact ⟨rfl,show (2:Nat) < 3 by omega⟩
  · have hp':pureL [x]:=⟨hp,trivial⟩
    refine ⟨⟨?_,?_⟩,trivial⟩
    · rw [(vec_ren (m:=0) hp').1]
      rfl
    · exact (vec_ren (π:=id) hp').2
  · intro b hb
    match b,hb with
    | 0,_=>rfl
    | 1,_=>rfl
theorem Insert_specG (es:List AV) (x:AV) (i:Nat) (hi:i ≤ es.length) (hx:x.solid = true) (hs:es.length ≤ 1000000) (hp:pureL es ∧ x.pure) :
    HSpec Tryz.prog 160 [.vec 0,.int i,.vec 1] [.vec 10 es,.vec 10 [x]] (.vec 2) [none,none,some (.vec 10 (insAt es i x))]:=by
  refine HSpec.of_row (fun cap h1 h2=>Insert_rowG es x i cap hi hx h1 h2 hs hp) (fun h=>?_)
  subst h
  have:i = 0:=by simpa using hi
  subst this
  exact Insert_nilG x hx hp.2
theorem Insert_fnG:FnOk Tryz.prog 160:=fnB_ok (by kernel_rfl)
def insG_h (l:List Sig) (x:Sig) (i:Int) (hi:0 ≤ i ∧ i ≤ l.length) (hl:l.length ≤ 1000000):HC Tryz.prog:=
  ⟨160,[.k,.k,.k],[.vec 0,.int i,.vec 1],[.vec 10 (l.map Sig.v),.vec 10 [x.v]],.vec 2,[none,none,some (.vec 10 ((insAt l i.toNat x).map Sig.v))],by
    have h:=Insert_specG (l.map Sig.v) (Sig.v x) i.toNat (by rw [List.length_map]; omega) rfl (by simpa using hl) ⟨pureBL_ok (pureBL_map (fun _=>rfl) l),AV.pureB_ok rfl⟩
    rw [insAt_map] at h
    have e1:((i.toNat:Nat):Int) = i:=by omega
    rw [e1] at h
    exact h,Insert_fnG,HcOk.of (by have e:x.v.pureB = true:=rfl; simp [e,hcB,belBL,AV.belB,allB,okBk,okBkO,pureBL_map (v:=Sig.v) (fun _=>rfl),pureBL,AV.pureB])⟩
end Go.Proofs.YtglfecmdoekabaaGreatDoor

namespace Go.Proofs.YtglfecmdoekabaaGreatDoor
open Go Go.Am
set_option linter.unusedVariables false
set_option linter.unusedSimpArgs false
def okArr (l:List Sig) (f:List Fau):Prop:=l.length ≤ 500000 ∧ f.length ≤ 1000 ∧ ∀ x ∈ l,x.srcs.length ≤ 1000000
theorem ins_twice {l:List Sig} {n:Nat} {y:Sig} (hy:l[n]? = some y):insAt l (n + 1) y = l.take n ++ [y,y] ++ l.drop (n + 1):=by
  rw [insAt_cons,take_succ hy]; simp
def arrO_a (flight:(List Sig)) (faults:(List Fau)):Prop:=okL [.sl 10 (flight.map Sig.v) false,.sl 2 (faults.map Fau.v) false]
def arrO_n0 (flight:(List Sig)) (faults:(List Fau)) (t0:Int × (List Sig) × (List Sig)):NF:=⟨[(4,.k,.vec 0),(5,.k,.vec 1),(11,.k,.sl 2 (faults.map Fau.v) false),(12,.k,.int ((faults.map Fau.v).length:Int)),(13,.k,.int t0.1)],[.vec 10 (t0.2.1.map Sig.v) (pureBL_map (fun _=>rfl) t0.2.1),.vec 10 (t0.2.2.map Sig.v) (pureBL_map (fun _=>rfl) t0.2.2)]⟩
def arrO_n1 (flight:(List Sig)) (faults:(List Fau)) (t0:Int × (List Sig) × (List Sig)) (x2:Fau) (t1:Bool):NF:=⟨[(4,.k,.vec 0),(5,.k,.vec 1),(7,.k,.ref 2 0),(11,.k,.sl 2 (faults.map Fau.v) false),(12,.k,.int ((faults.map Fau.v).length:Int)),(13,.k,.int t0.1),(26,.k,.bool t1)],[.vec 10 (t0.2.1.map Sig.v) (pureBL_map (fun _=>rfl) t0.2.1),.vec 10 (t0.2.2.map Sig.v) (pureBL_map (fun _=>rfl) t0.2.2),.box (.agg [.int x2.kind,.int x2.pos])]⟩
def arrO_s:Nat → Type
  | 0=>Int × (List Sig) × (List Sig)
  | 1=>Bool
  | _=>Unit
def arrO_e (r:(List Sig) × (List Sig)):AV:=.tup [.vec 0,.vec 1]
def arrO_b (r:(List Sig) × (List Sig)):List (Option Blk):=[some (.vec 10 (r.1.map Sig.v)),some (.vec 10 (r.2.map Sig.v))]
def arrO_vc (flight:(List Sig)) (faults:(List Fau)) (I0:(Int × (List Sig) × (List Sig)) → Prop) (m0:(Int × (List Sig) × (List Sig)) → Nat) (I1:Int × (List Sig) × (List Sig) → Fau → Bool → Prop) (r0:(List Sig) × (List Sig)):Prop:=
 ∃ h1:okSigs flight,
 Ch (sigsC_h flight h1) [] 48
 (Nf (arrO_n0 flight faults (0,flight,[])) [48,128] (I0 (0,flight,[])) ∧ ∀ t0:Int × (List Sig) × (List Sig),I0 t0 →
 br (decide (t0.1 < ((faults.map Fau.v).length:Int)))
 (Rf (faults.map Fau.v) (ck (decide (0 ≤ t0.1)) (ck (decide (t0.1 < (faults.length:Int)))
 (∀ x2,faults[t0.1.toNat]? = some x2 →
 (br (decide (x2.pos < 0))
 (Nf (arrO_n1 flight faults t0 x2 (true)) [0,1,50] (I1 t0 x2 ((true):Bool)))
 (Nf (arrO_n1 flight faults t0 x2 (decide (((t0.2.1.map Sig.v).length:Int) ≤ x2.pos))) [0,1,50] (I1 t0 x2 ((decide (((t0.2.1.map Sig.v).length:Int) ≤ x2.pos)):Bool)))) ∧ ∀ t1:Bool,I1 t0 x2 t1 →
 br t1
 (Nf (arrO_n0 flight faults (W (t0.1 + 1),t0.2.1,t0.2.2)) [0,1] (I0 (W (t0.1 + 1),t0.2.1,t0.2.2) ∧ m0 (W (t0.1 + 1),t0.2.1,t0.2.2) < m0 t0))
 (ck (cond (decide (0 ≤ x2.pos)) (decide (x2.pos < ((t0.2.1.map Sig.v).length:Int))) false)
 (Rf (t0.2.1.map Sig.v) (ck (decide (x2.pos.toNat < t0.2.1.length))
 (∀ x3,t0.2.1[x2.pos.toNat]? = some x3 →
 br (x2.kind == 1)
 (∃ h4:(0 ≤ x2.pos ∧ x2.pos < t0.2.1.length) ∧ (W (x2.pos + 1)) = x2.pos + 1,
 ∃ h5:t0.2.1.length ≤ 1000000,
 Ch (delG_h t0.2.1 x2.pos (W (x2.pos + 1)) h4 h5) [0] 275
 (Nf (arrO_n0 flight faults (W (t0.1 + 1),delAt t0.2.1 (Int.toNat x2.pos),t0.2.2)) [275,1] (I0 (W (t0.1 + 1),delAt t0.2.1 (Int.toNat x2.pos),t0.2.2) ∧ m0 (W (t0.1 + 1),delAt t0.2.1 (Int.toNat x2.pos),t0.2.2) < m0 t0)))
 (br (x2.kind == 2)
 (∃ h6:0 ≤ (W (x2.pos + 1)) ∧ (W (x2.pos + 1)) ≤ t0.2.1.length,
 ∃ h7:t0.2.1.length ≤ 1000000,
 Ch (insG_h t0.2.1 x3 (W (x2.pos + 1)) h6 h7) [0,291] 307
 (Nf (arrO_n0 flight faults (W (t0.1 + 1),insAt t0.2.1 (Int.toNat (W (x2.pos + 1))) x3,t0.2.2)) [307,1] (I0 (W (t0.1 + 1),insAt t0.2.1 (Int.toNat (W (x2.pos + 1))) x3,t0.2.2) ∧ m0 (W (t0.1 + 1),insAt t0.2.1 (Int.toNat (W (x2.pos + 1))) x3,t0.2.2) < m0 t0)))
 (br (x2.kind == 3)
 (∃ h8:(0 ≤ x2.pos ∧ x2.pos < t0.2.1.length) ∧ (W (x2.pos + 1)) = x2.pos + 1,
 ∃ h9:t0.2.1.length ≤ 1000000,
 Ch (delG_h t0.2.1 x2.pos (W (x2.pos + 1)) h8 h9) [0] 339
 (Rf (α:=List AV) (t0.2.2.map Sig.v) (Rf (α:=List AV) [.agg [.int x3.kind,.int x3.src,.int x3.dst,.int x3.epoch,.int x3.ver,.int x3.prev,.int x3.pep,.int x3.grp,.int x3.mode,.sl 1 (x3.srcs.map AV.int) false]]
 (ck (decide (t0.2.2.length + 1 ≤ 1000000))
 (Nf (arrO_n0 flight faults (W (t0.1 + 1),delAt t0.2.1 (Int.toNat x2.pos),t0.2.2 ++ [x3])) [339,403] (I0 (W (t0.1 + 1),delAt t0.2.1 (Int.toNat x2.pos),t0.2.2 ++ [x3]) ∧ m0 (W (t0.1 + 1),delAt t0.2.1 (Int.toNat x2.pos),t0.2.2 ++ [x3]) < m0 t0))))))
 (br (x2.kind == 4)
 (br (decide ((W (x2.pos + 1)) < ((t0.2.1.map Sig.v).length:Int)))
 (ck (cond (decide (0 ≤ (W (x2.pos + 1)))) (decide ((W (x2.pos + 1)) < ((t0.2.1.map Sig.v).length:Int))) false)
 (Rf (t0.2.1.map Sig.v) (ck (decide ((W (x2.pos + 1)).toNat < t0.2.1.length))
 (∀ x10,t0.2.1[(W (x2.pos + 1)).toNat]? = some x10 →
 ck (cond (decide (0 ≤ x2.pos)) (decide (x2.pos < ((t0.2.1.map Sig.v).length:Int))) false)
 (Rf (t0.2.1.map Sig.v) (ck (decide (x2.pos.toNat < t0.2.1.length))
 (∀ y11,t0.2.1[x2.pos.toNat]? = some y11 → Rf (Sig.v x10)
 (ck (cond (decide (0 ≤ (W (x2.pos + 1)))) (decide ((W (x2.pos + 1)) < (((t0.2.1.set x2.pos.toNat x10).map Sig.v).length:Int))) false)
 (Rf ((t0.2.1.set x2.pos.toNat x10).map Sig.v) (ck (decide ((W (x2.pos + 1)).toNat < (t0.2.1.set x2.pos.toNat x10).length))
 (∀ y12,(t0.2.1.set x2.pos.toNat x10)[(W (x2.pos + 1)).toNat]? = some y12 → Rf (Sig.v x3)
 (Nf (arrO_n0 flight faults (W (t0.1 + 1),(t0.2.1.set x2.pos.toNat x10).set ((W (x2.pos + 1)).toNat) x3,t0.2.2)) [0,1] (I0 (W (t0.1 + 1),(t0.2.1.set x2.pos.toNat x10).set ((W (x2.pos + 1)).toNat) x3,t0.2.2) ∧ m0 (W (t0.1 + 1),(t0.2.1.set x2.pos.toNat x10).set ((W (x2.pos + 1)).toNat) x3,t0.2.2) < m0 t0)))))))))))))
 (Nf (arrO_n0 flight faults (W (t0.1 + 1),t0.2.1,t0.2.2)) [0,1] (I0 (W (t0.1 + 1),t0.2.1,t0.2.2) ∧ m0 (W (t0.1 + 1),t0.2.1,t0.2.2) < m0 t0)))
 (Nf (arrO_n0 flight faults (W (t0.1 + 1),t0.2.1,t0.2.2)) [0,1] (I0 (W (t0.1 + 1),t0.2.1,t0.2.2) ∧ m0 (W (t0.1 + 1),t0.2.1,t0.2.2) < m0 t0)))))))))))))
 (Nf ⟨[(4,.k,.vec 0),(5,.k,.vec 1)],[.vec 10 (t0.2.1.map Sig.v) (pureBL_map (fun _=>rfl) t0.2.1),.vec 10 (t0.2.2.map Sig.v) (pureBL_map (fun _=>rfl) t0.2.2)]⟩ [0,1] (Rf (arrO_e (t0.2.1,t0.2.2)) (Rf (arrO_b (t0.2.1,t0.2.2)) ((t0.2.1,t0.2.2) = r0)))))
theorem arrO_eq (flight:(List Sig)) (faults:(List Fau)) (I0:(Int × (List Sig) × (List Sig)) → Prop) (m0:(Int × (List Sig) × (List Sig)) → Nat) (I1:Int × (List Sig) × (List Sig) → Fau → Bool → Prop) (r0:(List Sig) × (List Sig)):mxH Tryz.prog 108 [.sl 10 (flight.map Sig.v) false,.sl 2 (faults.map Fau.v) false] [] .k arrO_e arrO_b ((.req 48 (okSigs flight) fun h1 =>
 (.callH [] (sigsC_h flight h1)
 (.cmdL (.nilT 5 10) (.loop 0 (arrO_n0 flight faults) (I0) (m0) ((0,flight,[]):Int × (List Sig) × (List Sig)) [48,128] fun (t0:Int × (List Sig) × (List Sig)) =>
 (.br 18 (.el 18 Fau.v faults fun x2 =>
 (.pass (.join 1 (arrO_n1 flight faults t0 x2) (fun t1=>I1 t0 x2 t1) (.br 146 (.back 1 ((true):Bool) [0,1,50])
 (.back 1 ((decide (((t0.2.1.map Sig.v).length:Int) ≤ x2.pos)):Bool) [0,1,50])) fun (t1:Bool) =>
 (.br 3 (.back 0 ((W (t0.1 + 1),t0.2.1,t0.2.2):Int × (List Sig) × (List Sig)) [0,1])
 (.el 67 Sig.v t0.2.1 fun x3 =>
 (.br 179 (.req 275 ((0 ≤ x2.pos ∧ x2.pos < t0.2.1.length) ∧ (W (x2.pos + 1)) = x2.pos + 1) fun h4 =>
 (.req 275 (t0.2.1.length ≤ 1000000) fun h5 =>
 (.callH [0] (delG_h t0.2.1 x2.pos (W (x2.pos + 1)) h4 h5)
 (.back 0 ((W (t0.1 + 1),delAt t0.2.1 (Int.toNat x2.pos),t0.2.2):Int × (List Sig) × (List Sig)) [275,1]))))
 (.br 211 (.own 291 (.req 307 (0 ≤ (W (x2.pos + 1)) ∧ (W (x2.pos + 1)) ≤ t0.2.1.length) fun h6 =>
 (.req 307 (t0.2.1.length ≤ 1000000) fun h7 =>
 (.callH [0,291] (insG_h t0.2.1 x3 (W (x2.pos + 1)) h6 h7)
 (.back 0 ((W (t0.1 + 1),insAt t0.2.1 (Int.toNat (W (x2.pos + 1))) x3,t0.2.2):Int × (List Sig) × (List Sig)) [307,1])))))
 (.br 243 (.req 339 ((0 ≤ x2.pos ∧ x2.pos < t0.2.1.length) ∧ (W (x2.pos + 1)) = x2.pos + 1) fun h8 =>
 (.req 339 (t0.2.1.length ≤ 1000000) fun h9 =>
 (.callH [0] (delG_h t0.2.1 x2.pos (W (x2.pos + 1)) h8 h9)
 (.app 403 Sig.v t0.2.2 [x3]
 (.back 0 ((W (t0.1 + 1),delAt t0.2.1 (Int.toNat x2.pos),t0.2.2 ++ [x3]):Int × (List Sig) × (List Sig)) [339,403])))))
 (.br 275 (.br 371 (.el 563 Sig.v t0.2.1 fun x10 =>
 (.st 611 Sig.v t0.2.1 (fun y11=>x10) fun y11 =>
 (.st 643 Sig.v (t0.2.1.set x2.pos.toNat x10) (fun y12=>x3) fun y12 =>
 (.back 0 ((W (t0.1 + 1),(t0.2.1.set x2.pos.toNat x10).set ((W (x2.pos + 1)).toNat) x3,t0.2.2):Int × (List Sig) × (List Sig)) [0,1]))))
 (.back 0 ((W (t0.1 + 1),t0.2.1,t0.2.2):Int × (List Sig) × (List Sig)) [0,1]))
 (.back 0 ((W (t0.1 + 1),t0.2.1,t0.2.2):Int × (List Sig) × (List Sig)) [0,1]))))))))))
 (.retH (t0.2.1,t0.2.2) ⟨[(4,.k,.vec 0),(5,.k,.vec 1)],[.vec 10 (t0.2.1.map Sig.v) (pureBL_map (fun _=>rfl) t0.2.1),.vec 10 (t0.2.2.map Sig.v) (pureBL_map (fun _=>rfl) t0.2.2)]⟩ [0,1])))))):An Tryz.prog arrO_s ((List Sig) × (List Sig))) r0 = arrO_vc flight faults I0 m0 I1 r0:=by kernel_rfl
theorem arrO_ok (flight:(List Sig)) (faults:(List Fau)) (I0:(Int × (List Sig) × (List Sig)) → Prop) (m0:(Int × (List Sig) × (List Sig)) → Nat) (I1:Int × (List Sig) × (List Sig) → Fau → Bool → Prop) (r0:(List Sig) × (List Sig)) (h:arrO_vc flight faults I0 m0 I1 r0):HSpec Tryz.prog 108 [.sl 10 (flight.map Sig.v) false,.sl 2 (faults.map Fau.v) false] [] (arrO_e r0) (arrO_b r0):=by
  have e:=arrO_eq flight faults I0 m0 I1 r0
  rw [← e] at h
  exact mxH_ok (enc:=arrO_e) (hB:=arrO_b) h
theorem arrO_p (l:List Sig) (f:List Fau) (h:okArr l f) (ok:arrO_a l f):∃ I0 m0 I1,arrO_vc l f I0 m0 I1 (arr l f):=by
  obtain ⟨h1,h2,h3⟩:=h
  refine ⟨fun t=>∃ k:Nat,t = ((k:Int),((f.take k).foldl arr1 (l,[])).1,((f.take k).foldl arr1 (l,[])).2) ∧ k ≤ f.length,fun t=>f.length - t.1.toNat,
    fun t0 x t=>t = decide (x.pos < 0 ∨ (t0.2.1.length:Int) ≤ x.pos),?_⟩
  simp only [arrO_vc,vcU,rfU,List.length_map]
  refine ⟨⟨by omega,h3⟩,⟨0,rfl,by omega⟩,?_⟩
  rintro _ ⟨k,rfl,hk⟩
  have hlen:=arrs_len (f:=f.take k) (s:=(l,[]))
  have hst:∀ x,f[k]? = some x → (f.take (k + 1)).foldl arr1 (l,[]) = arr1 ((f.take k).foldl arr1 (l,[])) x:=fun x hx=>by rw [take_succ hx,List.foldl_append]; rfl
  have hend:k = f.length → (f.take k).foldl arr1 (l,[]) = arr l f:=fun e=>by rw [e,List.take_length]; rfl
  generalize (f.take k).foldl arr1 (l,[]) = s at *
  obtain ⟨now,late⟩:=s
  rw [List.length_take] at hlen
  simp only [Int.toNat_natCast,List.length_nil] at hlen ⊢
  refine ⟨fun a1=>⟨by omega,by omega,fun x hx=>⟨⟨fun c=>?_,fun c=>?_⟩,?_⟩⟩,fun a1=>?_⟩
  · simp [c]
  · exact decide_eq_decide.mpr (by omega)
  · have e1:=hst x hx
    intro t1 ht1
    rw [W_succ (n:=f.length) (by omega) (by omega)]
    have fin:∀ a b,arr1 (now,late) x = (a,b) → (∃ k_1:Nat,(((k + 1:Nat):Int),a,b) = ((k_1:Int),((f.take k_1).foldl arr1 (l,[])).1,((f.take k_1).foldl arr1 (l,[])).2) ∧ k_1 ≤ f.length) ∧ f.length - ((k + 1:Nat):Int).toNat < f.length - k:=fun a b e =>
      ⟨⟨k + 1,by rw [e1,e],by omega⟩,by omega⟩
    refine ⟨fun e=>fin _ _ (if_pos (of_decide_eq_true (ht1.symm.trans e))),fun e=>?_⟩
    have hb:¬ (x.pos < 0 ∨ (now.length:Int) ≤ x.pos):=of_decide_eq_false (ht1.symm.trans e)
    have e2:arr1 (now,late) x = arrK now late x.kind x.pos.toNat (now.getD x.pos.toNat sig0):=if_neg hb
    obtain ⟨n,hn⟩:∃ n:Nat,x.pos = n:=⟨x.pos.toNat,by omega⟩
    rw [hn] at e2 hb ⊢
    simp only [Int.toNat_natCast] at e2 ⊢
    have hW:W ((n:Int) + 1) = ((n + 1:Nat):Int):=by rw [W_eq (by omega)]; omega
    rw [hW]
    simp only [Int.toNat_natCast]
    refine ⟨by simp; omega,by omega,fun y hy=>?_⟩
    rw [getD_some hy] at e2
    refine ⟨fun c1=>⟨⟨⟨by omega,by omega⟩,by omega⟩,by omega,fin _ _ ?_⟩,fun c1=>⟨fun c2=>⟨⟨by omega,by omega⟩,by omega,fin _ _ ?_⟩,fun c2=>⟨fun c3=>⟨⟨⟨by omega,by omega⟩,by omega⟩,by omega,by omega,fin _ _ ?_⟩,fun c3=>⟨fun c4=>⟨fun d=>?_,fun d=>fin _ _ ?_⟩,fun c4=>fin _ _ ?_⟩⟩⟩⟩
    · rw [e2,arrK,if_pos (by simpa using c1)]; rfl
    · rw [e2,arrK,if_neg (by simpa using c1),if_pos (by simpa using c2),ins_twice hy]
    · rw [e2,arrK,if_neg (by simpa using c1),if_neg (by simpa using c2),if_pos (by simpa using c3)]; rfl
    · refine ⟨by simp; omega,by omega,fun z hz=>⟨by simp; omega,by omega,fun u hu=>⟨by simp; omega,by simp; omega,fun v hv=>fin _ _ ?_⟩⟩⟩
      rw [e2,arrK,if_neg (by simpa using c1),if_neg (by simpa using c2),if_neg (by simpa using c3),if_pos (by simpa using c4),if_pos (by omega),getD_some hz]
    · rw [e2,arrK,if_neg (by simpa using c1),if_neg (by simpa using c2),if_neg (by simpa using c3),if_pos (by simpa using c4),if_neg (by omega)]
    · rw [e2,arrK,if_neg (by simpa using c1),if_neg (by simpa using c2),if_neg (by simpa using c3),if_neg (by simpa using c4)]
  · rw [← hend (by omega)]
def arrO_h (flight:(List Sig)) (faults:(List Fau)) (h:okArr flight faults):HC Tryz.prog:=⟨108,[(.s 10),(.s 2)],[.sl 10 (flight.map Sig.v) false,.sl 2 (faults.map Fau.v) false],[],arrO_e (arr flight faults),arrO_b (arr flight faults),HSpec.of_okh fun ok _=>(arrO_p flight faults h ok).elim fun I0 h=>h.elim fun m0 h=>h.elim fun I1 h=>arrO_ok flight faults I0 m0 I1 _ h,fnB_ok (by kernel_rfl),HcOk.of (by simp [hcB,belBL,AV.belB,allB,okBk,okBkO,arrO_e,arrO_b,pureBL_map (v:=Fau.v) (fun _=>rfl),pureBL_map (v:=Sig.v) (fun _=>rfl)])⟩
end Go.Proofs.YtglfecmdoekabaaGreatDoor

namespace Go.Proofs.YtglfecmdoekabaaGreatDoor
open Go Go.Am
set_option linter.unusedVariables false
set_option linter.unusedSimpArgs false
def okRnd (o:Ovl) (f:List Fau):Prop:=o.fl.length ≤ 400000 ∧ f.length ≤ 1000
theorem NetOk.pos {R:List Int} {sp:List Spk} {ls:List Lsn} (h:NetOk R sp ls) {r:Int} (hr:r ∈ R) :
    posS sp r < sp.length ∧ posS sp r < ls.length ∧ sp[posS sp r]? = some (atS sp r) ∧ ls[posS sp r]? = some (atL sp ls r):=by
  have h1:posS sp r < sp.length:=((hitK_iff (key:=Spk.router) (d:=spk0) h.asc).mpr (mem_keys.mp (by rw [h.spr]; exact hr))).1
  have e1:=congrArg List.length h.spr
  have e2:=congrArg List.length h.lsr
  rw [List.length_map] at e1 e2
  refine ⟨h1,by omega,?_,?_⟩
  · unfold atS; rw [List.getD_eq_getElem?_getD,List.getElem?_eq_getElem h1]; rfl
  · unfold atL; rw [List.getD_eq_getElem?_getD,List.getElem?_eq_getElem (by omega)]; rfl
theorem NetOk.lens {R:List Int} {sp:List Spk} {ls:List Lsn} (h:NetOk R sp ls):sp.length ≤ 12 ∧ ls.length ≤ 12:=by
  have e1:=congrArg List.length h.spr
  have e2:=congrArg List.length h.lsr
  rw [List.length_map] at e1 e2
  have:=h.len
  omega
theorem flat_take {α β:Type} {f:α → List β} {l:List α} {k:Nat} {x:α} (hx:l[k]? = some x):(l.take (k + 1)).flatMap f = (l.take k).flatMap f ++ f x:=by
  rw [take_succ hx]; simp
def rndOv_a (o:Ovl) (faults:(List Fau)):Prop:=okL [.agg [.sl 5 (o.sp.map Spk.v) false,.sl 3 (o.ls.map Lsn.v) false,.sl 10 (o.fl.map Sig.v) false],.sl 2 (faults.map Fau.v) false]
def rndOv_n0 (o:Ovl) (faults:(List Fau)) (t0:Int × (List Spk) × (List Sig) × (List Lsn)):NF:=⟨[(4,.k,.ref 0 0),(6,.k,.ref 1 0),(8,.k,.vec 5),(37,.k,.vec 6),(38,.k,.int ((((arr o.fl faults).1).map Sig.v).length:Int)),(39,.k,.int t0.1)],[.box (.agg [.sl 0 [] true,.sl 0 [] true,.sl 0 [] true]),.box (.agg [.vec 2,.vec 3,.vec 4]),.vec 5 (t0.2.1.map Spk.v) (pureBL_map (fun _=>rfl) t0.2.1),.vec 3 (t0.2.2.2.map Lsn.v) (pureBL_map (fun _=>rfl) t0.2.2.2),.vec 10 (o.fl.map Sig.v) (pureBL_map (fun _=>rfl) o.fl),.vec 10 (t0.2.2.1.map Sig.v) (pureBL_map (fun _=>rfl) t0.2.2.1),.vec 10 (((arr o.fl faults).1).map Sig.v) (pureBL_map (fun _=>rfl) ((arr o.fl faults).1))]⟩
def rndOv_n1 (o:Ovl) (faults:(List Fau)) (t0:Int × (List Spk) × (List Sig) × (List Lsn)) (t1:Int × (List Sig)):NF:=⟨[(4,.k,.ref 0 0),(6,.k,.ref 1 0),(8,.k,.vec 5),(94,.k,.vec 2),(95,.k,.int ((t0.2.1.map Spk.v).length:Int)),(96,.k,.int t1.1)],[.box (.agg [.sl 0 [] true,.sl 0 [] true,.sl 0 [] true]),.box (.agg [.vec 2,.vec 3,.vec 4]),.vec 5 (t0.2.1.map Spk.v) (pureBL_map (fun _=>rfl) t0.2.1),.vec 3 (t0.2.2.2.map Lsn.v) (pureBL_map (fun _=>rfl) t0.2.2.2),.vec 10 (o.fl.map Sig.v) (pureBL_map (fun _=>rfl) o.fl),.vec 10 (t1.2.map Sig.v) (pureBL_map (fun _=>rfl) t1.2)]⟩
def rndOv_n2 (o:Ovl) (faults:(List Fau)) (t0:Int × (List Spk) × (List Sig) × (List Lsn)) (t1:Int × (List Sig)) (x10:Spk) (t2:Int × (List Sig)):NF:=⟨[(4,.k,.ref 0 0),(6,.k,.ref 1 0),(8,.k,.vec 5),(19,.k,.ref 6 0),(94,.k,.vec 2),(95,.k,.int ((t0.2.1.map Spk.v).length:Int)),(96,.k,.int t1.1),(101,.k,.sl 3 (x10.peers.map Per.v) false),(102,.k,.int ((x10.peers.map Per.v).length:Int)),(103,.k,.int t2.1)],[.box (.agg [.sl 0 [] true,.sl 0 [] true,.sl 0 [] true]),.box (.agg [.vec 2,.vec 3,.vec 4]),.vec 5 (t0.2.1.map Spk.v) (pureBL_map (fun _=>rfl) t0.2.1),.vec 3 (t0.2.2.2.map Lsn.v) (pureBL_map (fun _=>rfl) t0.2.2.2),.vec 10 (o.fl.map Sig.v) (pureBL_map (fun _=>rfl) o.fl),.vec 10 (t2.2.map Sig.v) (pureBL_map (fun _=>rfl) t2.2),.box (.agg [.int x10.router,.int x10.epoch,.int x10.last,.sl 4 (x10.items.map Itm.v) false,.sl 3 (x10.peers.map Per.v) false])]⟩
def rndOv_s:Nat → Type
  | 0=>Int × (List Spk) × (List Sig) × (List Lsn)
  | 1=>Int × (List Sig)
  | 2=>Int × (List Sig)
  | _=>Unit
def rndOv_e (r:Ovl × Int):AV:=.tup [Ovl.v r.1,.int r.2]
def rndOv_vc (o:Ovl) (faults:(List Fau)) (I0:(Int × (List Spk) × (List Sig) × (List Lsn)) → Prop) (m0:(Int × (List Spk) × (List Sig) × (List Lsn)) → Nat) (I1:Int × (List Spk) × (List Sig) × (List Lsn) → (Int × (List Sig)) → Prop) (m1:Int × (List Spk) × (List Sig) × (List Lsn) → (Int × (List Sig)) → Nat) (I2:Int × (List Spk) × (List Sig) × (List Lsn) → Int × (List Sig) → Spk → (Int × (List Sig)) → Prop) (m2:Int × (List Spk) × (List Sig) × (List Lsn) → Int × (List Sig) → Spk → (Int × (List Sig)) → Nat) (r0:Ovl × Int):Prop:=
 Cl (validO_c o)
 (br (!(decide (ovlOk o)))
 (Rf (rndOv_e ((⟨[],[],[]⟩:Ovl),1)) (((⟨[],[],[]⟩:Ovl),1) = r0))
 (∃ h1:ovlOk o ∧ o.fl.length ≤ 1000000,
 Ch (copO_h o h1) [] 112
 (∃ h2:okArr o.fl faults,
 Ch (arrO_h o.fl faults h2) [] 208
 (Nf (rndOv_n0 o faults (0,o.sp,(arr o.fl faults).2,o.ls)) [16,128,112,113,114,209,208] (I0 (0,o.sp,(arr o.fl faults).2,o.ls)) ∧ ∀ t0:Int × (List Spk) × (List Sig) × (List Lsn),I0 t0 →
 br (decide (t0.1 < ((((arr o.fl faults).1).map Sig.v).length:Int)))
 (ck (cond (decide (0 ≤ t0.1)) (decide (t0.1 < ((((arr o.fl faults).1).map Sig.v).length:Int))) false)
 (Rf (((arr o.fl faults).1).map Sig.v) (ck (decide (t0.1.toNat < ((arr o.fl faults).1).length))
 (∀ x3,((arr o.fl faults).1)[t0.1.toNat]? = some x3 →
 ∃ h4:(⟨t0.2.1,t0.2.2.2,o.fl⟩:Ovl).sp.Pairwise fun x y=>x.router < y.router,
 ∃ h5:(⟨t0.2.1,t0.2.2.2,o.fl⟩:Ovl).sp.length ≤ 1000000,
 Cl (findS_c (⟨t0.2.1,t0.2.2.2,o.fl⟩:Ovl) x3.dst h4 h5)
 (ck (pureBLs [(t0.2.1.map Spk.v),(t0.2.2.2.map Lsn.v),(o.fl.map Sig.v)])
 (br (x3.kind == 3)
 (ck (cond (decide (0 ≤ (posS (⟨t0.2.1,t0.2.2.2,o.fl⟩:Ovl).sp x3.dst:Int))) (decide ((posS (⟨t0.2.1,t0.2.2.2,o.fl⟩:Ovl).sp x3.dst:Int) < ((t0.2.1.map Spk.v).length:Int))) false)
 (Rf (t0.2.1.map Spk.v) (ck (decide ((posS (⟨t0.2.1,t0.2.2.2,o.fl⟩:Ovl).sp x3.dst:Int).toNat < t0.2.1.length))
 (∀ x6,t0.2.1[(posS (⟨t0.2.1,t0.2.2.2,o.fl⟩:Ovl).sp x3.dst:Int).toNat]? = some x6 →
 Cl (ack_c x6 x3)
 (br (((ack x6 x3).2) == 0)
 (ck (cond (decide (0 ≤ (posS (⟨t0.2.1,t0.2.2.2,o.fl⟩:Ovl).sp x3.dst:Int))) (decide ((posS (⟨t0.2.1,t0.2.2.2,o.fl⟩:Ovl).sp x3.dst:Int) < ((t0.2.1.map Spk.v).length:Int))) false)
 (Rf (t0.2.1.map Spk.v) (ck (decide ((posS (⟨t0.2.1,t0.2.2.2,o.fl⟩:Ovl).sp x3.dst:Int).toNat < t0.2.1.length))
 (∀ y7,t0.2.1[(posS (⟨t0.2.1,t0.2.2.2,o.fl⟩:Ovl).sp x3.dst:Int).toNat]? = some y7 → Rf (Spk.v ((ack x6 x3).1))
 (Nf (rndOv_n0 o faults (W (t0.1 + 1),t0.2.1.set ((posS (⟨t0.2.1,t0.2.2.2,o.fl⟩:Ovl).sp x3.dst:Int).toNat) ((ack x6 x3).1),t0.2.2.1,t0.2.2.2)) [0,1,2,3,4,5,6] (I0 (W (t0.1 + 1),t0.2.1.set ((posS (⟨t0.2.1,t0.2.2.2,o.fl⟩:Ovl).sp x3.dst:Int).toNat) ((ack x6 x3).1),t0.2.2.1,t0.2.2.2) ∧ m0 (W (t0.1 + 1),t0.2.1.set ((posS (⟨t0.2.1,t0.2.2.2,o.fl⟩:Ovl).sp x3.dst:Int).toNat) ((ack x6 x3).1),t0.2.2.1,t0.2.2.2) < m0 t0))))))
 (Nf (rndOv_n0 o faults (W (t0.1 + 1),t0.2.1,t0.2.2.1,t0.2.2.2)) [0,1,2,3,4,5,6] (I0 (W (t0.1 + 1),t0.2.1,t0.2.2.1,t0.2.2.2) ∧ m0 (W (t0.1 + 1),t0.2.1,t0.2.2.1,t0.2.2.2) < m0 t0)))))))
 (ck (cond (decide (0 ≤ (posS (⟨t0.2.1,t0.2.2.2,o.fl⟩:Ovl).sp x3.dst:Int))) (decide ((posS (⟨t0.2.1,t0.2.2.2,o.fl⟩:Ovl).sp x3.dst:Int) < ((t0.2.2.2.map Lsn.v).length:Int))) false)
 (Rf (t0.2.2.2.map Lsn.v) (ck (decide ((posS (⟨t0.2.1,t0.2.2.2,o.fl⟩:Ovl).sp x3.dst:Int).toNat < t0.2.2.2.length))
 (∀ x8,t0.2.2.2[(posS (⟨t0.2.1,t0.2.2.2,o.fl⟩:Ovl).sp x3.dst:Int).toNat]? = some x8 →
 Cl (hear_c x8 x3)
 (br (((hear x8 x3).2) == 0)
 (ck (cond (decide (0 ≤ (posS (⟨t0.2.1,t0.2.2.2,o.fl⟩:Ovl).sp x3.dst:Int))) (decide ((posS (⟨t0.2.1,t0.2.2.2,o.fl⟩:Ovl).sp x3.dst:Int) < ((t0.2.2.2.map Lsn.v).length:Int))) false)
 (Rf (t0.2.2.2.map Lsn.v) (ck (decide ((posS (⟨t0.2.1,t0.2.2.2,o.fl⟩:Ovl).sp x3.dst:Int).toNat < t0.2.2.2.length))
 (∀ y9,t0.2.2.2[(posS (⟨t0.2.1,t0.2.2.2,o.fl⟩:Ovl).sp x3.dst:Int).toNat]? = some y9 → Rf (Lsn.v ((hear x8 x3).1.1))
 (Rf (α:=List AV) (t0.2.2.1.map Sig.v) (Rf (α:=List AV) [.agg [.int (((hear x8 x3).1.2).kind),.int (((hear x8 x3).1.2).src),.int (((hear x8 x3).1.2).dst),.int (((hear x8 x3).1.2).epoch),.int (((hear x8 x3).1.2).ver),.int (((hear x8 x3).1.2).prev),.int (((hear x8 x3).1.2).pep),.int (((hear x8 x3).1.2).grp),.int (((hear x8 x3).1.2).mode),.sl 1 ((((hear x8 x3).1.2).srcs).map AV.int) false]]
 (ck (decide (t0.2.2.1.length + 1 ≤ 1000000))
 (Nf (rndOv_n0 o faults (W (t0.1 + 1),t0.2.1,t0.2.2.1 ++ [(hear x8 x3).1.2],t0.2.2.2.set ((posS (⟨t0.2.1,t0.2.2.2,o.fl⟩:Ovl).sp x3.dst:Int).toNat) ((hear x8 x3).1.1))) [0,1,2,3,4,711,6] (I0 (W (t0.1 + 1),t0.2.1,t0.2.2.1 ++ [(hear x8 x3).1.2],t0.2.2.2.set ((posS (⟨t0.2.1,t0.2.2.2,o.fl⟩:Ovl).sp x3.dst:Int).toNat) ((hear x8 x3).1.1)) ∧ m0 (W (t0.1 + 1),t0.2.1,t0.2.2.1 ++ [(hear x8 x3).1.2],t0.2.2.2.set ((posS (⟨t0.2.1,t0.2.2.2,o.fl⟩:Ovl).sp x3.dst:Int).toNat) ((hear x8 x3).1.1)) < m0 t0)))))))))
 (Nf (rndOv_n0 o faults (W (t0.1 + 1),t0.2.1,t0.2.2.1,t0.2.2.2)) [0,1,2,3,4,5,6] (I0 (W (t0.1 + 1),t0.2.1,t0.2.2.1,t0.2.2.2) ∧ m0 (W (t0.1 + 1),t0.2.1,t0.2.2.1,t0.2.2.2) < m0 t0)))))))))))))
 (Nf (rndOv_n1 o faults t0 (0,t0.2.2.1)) [0,1,2,3,4,5] (I1 t0 (0,t0.2.2.1)) ∧ ∀ t1:Int × (List Sig),I1 t0 t1 →
 br (decide (t1.1 < ((t0.2.1.map Spk.v).length:Int)))
 (ck (cond (decide (0 ≤ t1.1)) (decide (t1.1 < ((t0.2.1.map Spk.v).length:Int))) false)
 (Rf (t0.2.1.map Spk.v) (ck (decide (t1.1.toNat < t0.2.1.length))
 (∀ x10,t0.2.1[t1.1.toNat]? = some x10 →
 Nf (rndOv_n2 o faults t0 t1 x10 (0,t1.2)) [0,1,2,3,4,5,54] (I2 t0 t1 x10 (0,t1.2)) ∧ ∀ t2:Int × (List Sig),I2 t0 t1 x10 t2 →
 br (decide (t2.1 < ((x10.peers.map Per.v).length:Int)))
 (Rf (x10.peers.map Per.v) (ck (decide (0 ≤ t2.1)) (ck (decide (t2.1 < (x10.peers.length:Int)))
 (∀ x11,x10.peers[t2.1.toNat]? = some x11 →
 Cl (send_c x10 x11.router)
 (Rf (α:=List AV) (t2.2.map Sig.v) (Rf (α:=List AV) (((send x10 x11.router).1).map Sig.v)
 (ck (decide (t2.2.length + ((send x10 x11.router).1).length ≤ 1000000))
 (Nf (rndOv_n2 o faults t0 t1 x10 (W (t2.1 + 1),t2.2 ++ ((send x10 x11.router).1))) [0,1,2,3,4,263,6] (I2 t0 t1 x10 (W (t2.1 + 1),t2.2 ++ ((send x10 x11.router).1)) ∧ m2 t0 t1 x10 (W (t2.1 + 1),t2.2 ++ ((send x10 x11.router).1)) < m2 t0 t1 x10 t2)))))))))
 (Nf (rndOv_n1 o faults t0 (W (t1.1 + 1),t2.2)) [0,1,2,3,4,5] (I1 t0 (W (t1.1 + 1),t2.2) ∧ m1 t0 (W (t1.1 + 1),t2.2) < m1 t0 t1))))))
 (Rf (t1.2.map Sig.v) (∃ h12:okSigs t1.2,
 Ch (sigsC_h t1.2 h12) [] 38
 (Rf (t1.2.map Sig.v) (Rf (t0.2.2.2.map Lsn.v) (Rf (t0.2.1.map Spk.v) (Rf (rndOv_e ((⟨t0.2.1,t0.2.2.2,t1.2⟩:Ovl),0)) (((⟨t0.2.1,t0.2.2.2,t1.2⟩:Ovl),0) = r0))))))))))))
theorem rndOv_eq (o:Ovl) (faults:(List Fau)) (I0:(Int × (List Spk) × (List Sig) × (List Lsn)) → Prop) (m0:(Int × (List Spk) × (List Sig) × (List Lsn)) → Nat) (I1:Int × (List Spk) × (List Sig) × (List Lsn) → (Int × (List Sig)) → Prop) (m1:Int × (List Spk) × (List Sig) × (List Lsn) → (Int × (List Sig)) → Nat) (I2:Int × (List Spk) × (List Sig) × (List Lsn) → Int × (List Sig) → Spk → (Int × (List Sig)) → Prop) (m2:Int × (List Spk) × (List Sig) × (List Lsn) → Int × (List Sig) → Spk → (Int × (List Sig)) → Nat) (r0:Ovl × Int):mxP Tryz.prog 40 [.agg [.sl 5 (o.sp.map Spk.v) false,.sl 3 (o.ls.map Lsn.v) false,.sl 10 (o.fl.map Sig.v) false],.sl 2 (faults.map Fau.v) false] (.a [(.a [(.s 5),(.s 3),(.s 10)]),.k]) rndOv_e ((.callP (validO_c o)
 (.br 96 (.ret ((⟨[],[],[]⟩:Ovl),1))
 (.req 112 (ovlOk o ∧ o.fl.length ≤ 1000000) fun h1 =>
 (.callH [] (copO_h o h1)
 (.req 208 (okArr o.fl faults) fun h2 =>
 (.callH [] (arrO_h o.fl faults h2)
 (.loop 0 (rndOv_n0 o faults) (I0) (m0) ((0,o.sp,(arr o.fl faults).2,o.ls):Int × (List Spk) × (List Sig) × (List Lsn)) [16,128,112,113,114,209,208] fun (t0:Int × (List Spk) × (List Sig) × (List Lsn)) =>
 (.br 23 (.el 39 Sig.v ((arr o.fl faults).1) fun x3 =>
 (.req 135 ((⟨t0.2.1,t0.2.2.2,o.fl⟩:Ovl).sp.Pairwise fun x y=>x.router < y.router) fun h4 =>
 (.req 135 ((⟨t0.2.1,t0.2.2.2,o.fl⟩:Ovl).sp.length ≤ 1000000) fun h5 =>
 (.callP (findS_c (⟨t0.2.1,t0.2.2.2,o.fl⟩:Ovl) x3.dst h4 h5)
 (.br 279 (.el 343 Spk.v t0.2.1 fun x6 =>
 (.callP (ack_c x6 x3)
 (.br 519 (.st 599 Spk.v t0.2.1 (fun y7=>((ack x6 x3).1)) fun y7 =>
 (.back 0 ((W (t0.1 + 1),t0.2.1.set ((posS (⟨t0.2.1,t0.2.2.2,o.fl⟩:Ovl).sp x3.dst:Int).toNat) ((ack x6 x3).1),t0.2.2.1,t0.2.2.2):Int × (List Spk) × (List Sig) × (List Lsn)) [0,1,2,3,4,5,6]))
 (.back 0 ((W (t0.1 + 1),t0.2.1,t0.2.2.1,t0.2.2.2):Int × (List Spk) × (List Sig) × (List Lsn)) [0,1,2,3,4,5,6]))))
 (.el 343 Lsn.v t0.2.2.2 fun x8 =>
 (.callP (hear_c x8 x3)
 (.br 567 (.st 647 Lsn.v t0.2.2.2 (fun y9=>((hear x8 x3).1.1)) fun y9 =>
 (.app 711 Sig.v t0.2.2.1 [(hear x8 x3).1.2]
 (.back 0 ((W (t0.1 + 1),t0.2.1,t0.2.2.1 ++ [(hear x8 x3).1.2],t0.2.2.2.set ((posS (⟨t0.2.1,t0.2.2.2,o.fl⟩:Ovl).sp x3.dst:Int).toNat) ((hear x8 x3).1.1)):Int × (List Spk) × (List Sig) × (List Lsn)) [0,1,2,3,4,711,6])))
 (.back 0 ((W (t0.1 + 1),t0.2.1,t0.2.2.1,t0.2.2.2):Int × (List Spk) × (List Sig) × (List Lsn)) [0,1,2,3,4,5,6])))))))))
 (.loop 1 (rndOv_n1 o faults t0) (I1 t0) (m1 t0) ((0,t0.2.2.1):Int × (List Sig)) [0,1,2,3,4,5] fun (t1:Int × (List Sig)) =>
 (.br 22 (.el 38 Spk.v t0.2.1 fun x10 =>
 (.loop 2 (rndOv_n2 o faults t0 t1 x10) (I2 t0 t1 x10) (m2 t0 t1 x10) ((0,t1.2):Int × (List Sig)) [0,1,2,3,4,5,54] fun (t2:Int × (List Sig)) =>
 (.br 23 (.el 23 Per.v x10.peers fun x11 =>
 (.callP (send_c x10 x11.router)
 (.app 263 Sig.v t2.2 ((send x10 x11.router).1)
 (.back 2 ((W (t2.1 + 1),t2.2 ++ ((send x10 x11.router).1)):Int × (List Sig)) [0,1,2,3,4,263,6]))))
 (.back 1 ((W (t1.1 + 1),t2.2):Int × (List Sig)) [0,1,2,3,4,5]))))
 (.cmd (.frzE 5 (t1.2.map Sig.v) (pureBL_map (fun _=>rfl) t1.2)) (.req 38 (okSigs t1.2) fun h12 =>
 (.callH [] (sigsC_h t1.2 h12)
 (.cmdL (.frzE 38 (t1.2.map Sig.v) (pureBL_map (fun _=>rfl) t1.2)) (.cmdL (.frzE 3 (t0.2.2.2.map Lsn.v) (pureBL_map (fun _=>rfl) t0.2.2.2)) (.cmdL (.frzE 2 (t0.2.1.map Spk.v) (pureBL_map (fun _=>rfl) t0.2.1)) (.ret ((⟨t0.2.1,t0.2.2.2,t1.2⟩:Ovl),0)))))))))))))))))):An Tryz.prog rndOv_s (Ovl × Int)) r0 = rndOv_vc o faults I0 m0 I1 m1 I2 m2 r0:=by kernel_rfl
theorem rndOv_ok (o:Ovl) (faults:(List Fau)) (I0:(Int × (List Spk) × (List Sig) × (List Lsn)) → Prop) (m0:(Int × (List Spk) × (List Sig) × (List Lsn)) → Nat) (I1:Int × (List Spk) × (List Sig) × (List Lsn) → (Int × (List Sig)) → Prop) (m1:Int × (List Spk) × (List Sig) × (List Lsn) → (Int × (List Sig)) → Nat) (I2:Int × (List Spk) × (List Sig) × (List Lsn) → Int × (List Sig) → Spk → (Int × (List Sig)) → Prop) (m2:Int × (List Spk) × (List Sig) × (List Lsn) → Int × (List Sig) → Spk → (Int × (List Sig)) → Nat) (r0:Ovl × Int) (h:rndOv_vc o faults I0 m0 I1 m1 I2 m2 r0):PSpec Tryz.prog 40 [.agg [.sl 5 (o.sp.map Spk.v) false,.sl 3 (o.ls.map Lsn.v) false,.sl 10 (o.fl.map Sig.v) false],.sl 2 (faults.map Fau.v) false] (rndOv_e r0):=by
  have e:=rndOv_eq o faults I0 m0 I1 m1 I2 m2 r0
  rw [← e] at h
  exact mxP_ok (enc:=rndOv_e) h (AV.pureB_ok rfl)
theorem rndOv_p (o:Ovl) (f:List Fau) (h:okRnd o f) (ok:rndOv_a o f):∃ I0 m0 I1 m1 I2 m2,rndOv_vc o f I0 m0 I1 m1 I2 m2 (roundO o f):=by
  obtain ⟨h1,h2⟩:=h
  by_cases hv:ovlOk o
  case neg =>
    refine ⟨fun _=>True,fun _=>0,fun _ _=>True,fun _ _=>0,fun _ _ _ _=>True,fun _ _ _ _=>0,?_⟩
    have e:roundO o f = (ovl0,1):=if_pos hv
    rw [e]
    simp only [rndOv_vc,vcU,rfU,List.length_map]
    simp [hv,ovl0]
  have hn:=hv.1
  obtain ⟨hnow,hlate⟩:=arr_mem (P:=sigIn (rtrs o.sp)) (f:=f) hv.2
  have hlen:=arr_len (l:=o.fl) (f:=f)
  have e:roundO o f = (roundN o (arr o.fl f).1 (arr o.fl f).2,0):=if_neg (not_not_intro hv)
  rw [e]
  have hA:okArr o.fl f:=⟨by omega,h2,fun x hx=>sig_srcs (hv.2 x hx).1⟩
  refine ⟨fun t=>∃ k:Nat,t = ((k:Int),(((arr o.fl f).1.take k).foldl deliver ((o.sp,o.ls),(arr o.fl f).2)).1.1,(((arr o.fl f).1.take k).foldl deliver ((o.sp,o.ls),(arr o.fl f).2)).2,(((arr o.fl f).1.take k).foldl deliver ((o.sp,o.ls),(arr o.fl f).2)).1.2) ∧ k ≤ (arr o.fl f).1.length,
    fun t=>(arr o.fl f).1.length - t.1.toNat,
    fun t0 t=>∃ j:Nat,t = ((j:Int),t0.2.2.1 ++ (t0.2.1.take j).flatMap sends1) ∧ j ≤ t0.2.1.length,fun t0 t=>t0.2.1.length - t.1.toNat,
    fun t0 t1 x t=>∃ i:Nat,t = ((i:Int),t1.2 ++ (x.peers.take i).flatMap fun p=>(send x p.router).1) ∧ i ≤ x.peers.length,fun t0 t1 x t=>x.peers.length - t.1.toNat,?_⟩
  simp only [rndOv_vc,vcU,rfU,List.length_map]
  generalize (arr o.fl f).1 = now at *
  generalize (arr o.fl f).2 = late at *
  refine ⟨fun q=>absurd hv (by simpa using q),fun _=>⟨⟨hv,by omega⟩,hA,⟨0,rfl,by omega⟩,?_⟩⟩
  rintro _ ⟨k,rfl,hk⟩
  have d:=delivers_ok (l:=now.take k) (s:=((o.sp,o.ls),late)) hn fun x hx=>hnow x (List.mem_of_mem_take hx)
  have dl:=delivers_len (l:=now.take k) (s:=((o.sp,o.ls),late))
  have hst:∀ x,now[k]? = some x → (now.take (k + 1)).foldl deliver ((o.sp,o.ls),late) = deliver ((now.take k).foldl deliver ((o.sp,o.ls),late)) x:=fun x hx=>by rw [take_succ hx,List.foldl_append]; rfl
  have hend:k = now.length → roundN o now late = ⟨((now.take k).foldl deliver ((o.sp,o.ls),late)).1.1,((now.take k).foldl deliver ((o.sp,o.ls),late)).1.2,((now.take k).foldl deliver ((o.sp,o.ls),late)).2 ++ sends ((now.take k).foldl deliver ((o.sp,o.ls),late)).1.1⟩:=fun e=>by rw [e,List.take_length]; rfl
  have hfl:=(roundN_ok hn hnow hlate).fl
  generalize (now.take k).foldl deliver ((o.sp,o.ls),late) = s at *
  obtain ⟨⟨sp,ls⟩,out⟩:=s
  have dn:=d.net
  simp only at dn
  obtain ⟨n1,n2⟩:=dn.lens
  rw [List.length_take] at dl
  simp only [Int.toNat_natCast] at dl ⊢
  refine ⟨fun a1=>⟨by simp; omega,by omega,fun x hx=>⟨dn.asc,by omega,?_,?_⟩⟩,fun a1=>⟨⟨0,by simp,by omega⟩,?_⟩⟩
  · simp [pureBLs,pureBL_map (v:=Spk.v) (fun _=>rfl),pureBL_map (v:=Lsn.v) (fun _=>rfl),pureBL_map (v:=Sig.v) (fun _=>rfl)]
  · have e1:=hst x hx
    obtain ⟨p1,p2,p3,p4⟩:=dn.pos (hnow x (mem_of_get hx)).2.2
    rw [W_succ (n:=now.length) (by omega) (by omega)]
    have fin:∀ a b c,deliver ((sp,ls),out) x = ((a,c),b) → (∃ k_1:Nat,(((k + 1:Nat):Int),a,b,c) = ((k_1:Int),((now.take k_1).foldl deliver ((o.sp,o.ls),late)).1.1,((now.take k_1).foldl deliver ((o.sp,o.ls),late)).2,((now.take k_1).foldl deliver ((o.sp,o.ls),late)).1.2) ∧ k_1 ≤ now.length) ∧ now.length - ((k + 1:Nat):Int).toNat < now.length - k:=fun a b c e =>
      ⟨⟨k + 1,by rw [e1,e],by omega⟩,by omega⟩
    refine ⟨fun c1=>⟨by simp; omega,by omega,fun y hy=>⟨fun c2=>⟨by simp; omega,by omega,fun z hz=>fin _ _ _ ?_⟩,fun c2=>fin _ _ _ ?_⟩⟩,fun c1=>⟨by simp; omega,by omega,fun y hy=>⟨fun c2=>⟨by simp; omega,by omega,fun z hz=>⟨by omega,fin _ _ _ ?_⟩⟩,fun c2=>fin _ _ _ ?_⟩⟩⟩
    · cases p3.symm.trans hy
      unfold deliver; rw [if_pos (by simpa using c1),if_pos (by simpa using c2)]
    · cases p3.symm.trans hy
      unfold deliver; rw [if_pos (by simpa using c1),if_neg (by simpa using c2)]
    · cases p4.symm.trans hy
      unfold deliver; rw [if_neg (by simpa using c1),if_pos (by simpa using c2)]
    · cases p4.symm.trans hy
      unfold deliver; rw [if_neg (by simpa using c1),if_neg (by simpa using c2)]
  · have he:=hend (by omega)
    rintro _ ⟨j,rfl,hj⟩
    have hsj:((sp.take j).flatMap sends1).length ≤ 14400:=by
      have:((sp.take j).flatMap sends1).length ≤ (sp.take j).length * 1200:=flat_len fun s hs=>by
        have:(sends1 s).length ≤ s.peers.length * 100:=flat_len fun p _=>send_le
        have:=(dn.spo s (List.mem_of_mem_take hs)).1.2.2.2.2.1
        omega
      rw [List.length_take] at this
      omega
    simp only [Int.toNat_natCast]
    refine ⟨fun b1=>⟨by simp; omega,by omega,fun x hx=>⟨⟨0,by simp,by omega⟩,?_⟩⟩,fun b1=>?_⟩
    · have hxp:=(dn.spo x (mem_of_get hx)).1.2.2.2.2.1
      rintro _ ⟨i,rfl,hi⟩
      have hpi:((x.peers.take i).flatMap fun p=>(send x p.router).1).length ≤ 1200:=by
        have:((x.peers.take i).flatMap fun p=>(send x p.router).1).length ≤ (x.peers.take i).length * 100:=flat_len fun p _=>send_le
        rw [List.length_take] at this
        omega
      simp only [Int.toNat_natCast]
      refine ⟨fun c1=>⟨by omega,by omega,fun p hp=>⟨?_,⟨i + 1,?_,by omega⟩,?_⟩⟩,fun c1=>⟨⟨j + 1,?_,by omega⟩,?_⟩⟩
      · have:=send_le (s:=x) (to:=p.router)
        simp only [List.length_append]; omega
      · rw [W_succ (n:=x.peers.length) (by omega) (by omega),flat_take hp]; simp
      · rw [W_succ (n:=x.peers.length) (by omega) (by omega)]; omega
      · have ei:i = x.peers.length:=by omega
        rw [W_succ (n:=sp.length) (by omega) (by omega),flat_take hx,ei,List.take_length]
        simp [sends1]
      · rw [W_succ (n:=sp.length) (by omega) (by omega)]; omega
    · have ej:j = sp.length:=by omega
      rw [ej,List.take_length] at hsj ⊢
      rw [he] at hfl ⊢
      refine ⟨⟨by simp only [List.length_append]; omega,fun x hx=>sig_srcs (hfl x hx).1⟩,rfl⟩
def rndOv_c (o:Ovl) (faults:(List Fau)) (h:okRnd o faults):PC Tryz.prog:=⟨40,[(.a [(.s 5),(.s 3),(.s 10)]),(.s 2)],[.agg [.sl 5 (o.sp.map Spk.v) false,.sl 3 (o.ls.map Lsn.v) false,.sl 10 (o.fl.map Sig.v) false],.sl 2 (faults.map Fau.v) false],rndOv_e (roundO o faults),PSpec.of_ok fun ok=>(rndOv_p o faults h ok).elim fun I0 h=>h.elim fun m0 h=>h.elim fun I1 h=>h.elim fun m1 h=>h.elim fun I2 h=>h.elim fun m2 h=>rndOv_ok o faults I0 m0 I1 m1 I2 m2 _ h,fnB_ok (by kernel_rfl)⟩
end Go.Proofs.YtglfecmdoekabaaGreatDoor

namespace Go.Proofs.YtglfecmdoekabaaGreatDoor
open Go Go.Am
set_option linter.unusedVariables false
set_option linter.unusedSimpArgs false
theorem pos_inj {o:Ovl} (h:ovlOk o) {a b:Int} (ha:a ∈ rtrs o.sp) (hb:b ∈ rtrs o.sp):posS o.sp a = posS o.sp b ↔ a = b:=by
  refine ⟨fun e=>?_,fun e=>by rw [e]⟩
  have h1:=(h.1.s ha).2
  have h2:=(h.1.s hb).2
  unfold atS at h1 h2
  rw [e] at h1
  exact h1.symm.trans h2
def knwOv_a (o:Ovl) (at_:Int) (of_:Int):Prop:=okL [.agg [.sl 5 (o.sp.map Spk.v) false,.sl 3 (o.ls.map Lsn.v) false,.sl 10 (o.fl.map Sig.v) false],.int at_,.int of_]
def knwOv_n0 (o:Ovl) (at_:Int) (of_:Int) (t0:Bool):NF:=⟨[(2,.k,.int of_),(3,.k,.ref 0 0),(8,.k,.int (posS o.sp at_:Int)),(10,.k,.int (posS o.sp of_:Int)),(27,.k,.bool t0)],[.box (.agg [.sl 5 (o.sp.map Spk.v) false,.sl 3 (o.ls.map Lsn.v) false,.sl 10 (o.fl.map Sig.v) false])]⟩
def knwOv_s:Nat → Type
  | 0=>Bool
  | _=>Unit
def knwOv_e (r:(List Wnt) × Int):AV:=.tup [.sl 3 (r.1.map Wnt.v) false,.int r.2]
def knwOv_vc (o:Ovl) (at_:Int) (of_:Int) (I0:Bool → Prop) (r0:(List Wnt) × Int):Prop:=
 Cl (validO_c o)
 (br (!(decide (ovlOk o)))
 (Rf (knwOv_e ([],1)) (([],1) = r0))
 (∃ h1:o.sp.Pairwise fun x y=>x.router < y.router,
 ∃ h2:o.sp.length ≤ 1000000,
 Cl (findS_c o at_ h1 h2)
 (∃ h3:o.sp.Pairwise fun x y=>x.router < y.router,
 ∃ h4:o.sp.length ≤ 1000000,
 Cl (findS_c o of_ h3 h4)
 ((br (!(decide (hitS o.sp at_)))
 (Nf (knwOv_n0 o at_ of_ (true)) [0] (I0 ((true):Bool)))
 (Nf (knwOv_n0 o at_ of_ (!(decide (hitS o.sp of_)))) [0] (I0 ((!(decide (hitS o.sp of_))):Bool)))) ∧ ∀ t0:Bool,I0 t0 →
 br t0
 (Rf (knwOv_e ([],4)) (([],4) = r0))
 (br ((posS o.sp at_:Int) == (posS o.sp of_:Int))
 (Rf (o.sp.map Spk.v) (ck (decide (0 ≤ (posS o.sp at_:Int))) (ck (decide ((posS o.sp at_:Int) < (o.sp.length:Int)))
 (∀ x5,o.sp[(posS o.sp at_:Int).toNat]? = some x5 →
 Cl (wantsF_c x5.items)
 (Rf (knwOv_e (wantsOf x5.items,0)) ((wantsOf x5.items,0) = r0))))))
 (Rf (o.ls.map Lsn.v) (ck (decide (0 ≤ (posS o.sp at_:Int))) (ck (decide ((posS o.sp at_:Int) < (o.ls.length:Int)))
 (∀ x6,o.ls[(posS o.sp at_:Int).toNat]? = some x6 →
 Cl (knownF_c x6 of_)
 (Rf (knwOv_e (knownW x6 of_,0)) ((knownW x6 of_,0) = r0)))))))))))
theorem knwOv_eq (o:Ovl) (at_:Int) (of_:Int) (I0:Bool → Prop) (r0:(List Wnt) × Int):mxP Tryz.prog 44 [.agg [.sl 5 (o.sp.map Spk.v) false,.sl 3 (o.ls.map Lsn.v) false,.sl 10 (o.fl.map Sig.v) false],.int at_,.int of_] (.a [(.s 3),.k]) knwOv_e ((.callP (validO_c o)
 (.br 96 (.ret ([],1))
 (.req 128 (o.sp.Pairwise fun x y=>x.router < y.router) fun h1 =>
 (.req 128 (o.sp.length ≤ 1000000) fun h2 =>
 (.callP (findS_c o at_ h1 h2)
 (.req 256 (o.sp.Pairwise fun x y=>x.router < y.router) fun h3 =>
 (.req 256 (o.sp.length ≤ 1000000) fun h4 =>
 (.callP (findS_c o of_ h3 h4)
 (.pass (.join 0 (knwOv_n0 o at_ of_) (fun t0=>I0 t0) (.br 400 (.back 0 ((true):Bool) [0])
 (.back 0 ((!(decide (hitS o.sp of_))):Bool) [0])) fun (t0:Bool) =>
 (.br 1 (.ret ([],4))
 (.br 65 (.el 113 Spk.v o.sp fun x5 =>
 (.callP (wantsF_c x5.items)
 (.ret (wantsOf x5.items,0))))
 (.el 113 Lsn.v o.ls fun x6 =>
 (.callP (knownF_c x6 of_)
 (.ret (knownW x6 of_,0)))))))))))))))):An Tryz.prog knwOv_s ((List Wnt) × Int)) r0 = knwOv_vc o at_ of_ I0 r0:=by kernel_rfl
theorem knwOv_ok (o:Ovl) (at_:Int) (of_:Int) (I0:Bool → Prop) (r0:(List Wnt) × Int) (h:knwOv_vc o at_ of_ I0 r0):PSpec Tryz.prog 44 [.agg [.sl 5 (o.sp.map Spk.v) false,.sl 3 (o.ls.map Lsn.v) false,.sl 10 (o.fl.map Sig.v) false],.int at_,.int of_] (knwOv_e r0):=by
  have e:=knwOv_eq o at_ of_ I0 r0
  rw [← e] at h
  exact mxP_ok (enc:=knwOv_e) h (AV.pureB_ok rfl)
theorem knwOv_p (o:Ovl) (a b:Int) (ok:knwOv_a o a b):∃ I0,knwOv_vc o a b I0 (knownV o a b):=by
  refine ⟨fun t=>t = decide (a ∉ rtrs o.sp ∨ b ∉ rtrs o.sp),?_⟩
  simp only [knwOv_vc,vcU,rfU,List.length_map]
  have hV:knownV o a b = if ¬ ovlOk o then ([],1) else if a ∉ rtrs o.sp ∨ b ∉ rtrs o.sp then ([],4) else if a = b then (wantsOf (atS o.sp b).items,0) else (knownW (atL o.sp o.ls a) b,0):=rfl
  rw [hV]
  by_cases hv:ovlOk o
  case neg=>simp [hv]
  have hL:=hv.1.lens
  rw [if_neg (not_not_intro hv)]
  refine ⟨fun q=>absurd hv (by simpa using q),fun _=>⟨hv.1.asc,by omega,hv.1.asc,by omega,⟨fun c=>?_,fun c=>?_⟩,?_⟩⟩
  · have c:a ∉ rtrs o.sp:=by rw [← hitS_iff hv]; simpa using c
    simp [c]
  · have c:a ∈ rtrs o.sp:=by rw [← hitS_iff hv]; simpa using c
    have e2:decide (hitS o.sp b) = decide (b ∈ rtrs o.sp):=decide_eq_decide.mpr (hitS_iff hv b)
    rw [e2]; simp [c]
  · rintro _ rfl
    refine ⟨fun c=>?_,fun c=>?_⟩
    · rw [if_pos (of_decide_eq_true c)]
    have c:=of_decide_eq_false c
    rw [if_neg c]
    have ha:a ∈ rtrs o.sp:=by simp only [not_or,Classical.not_not] at c; exact c.1
    have hb:b ∈ rtrs o.sp:=by simp only [not_or,Classical.not_not] at c; exact c.2
    obtain ⟨p1,p2,p3,p4⟩:=hv.1.pos ha
    simp only [Int.toNat_natCast]
    refine ⟨fun q=>⟨by omega,by omega,fun x hx=>?_⟩,fun q=>⟨by omega,by omega,fun x hx=>?_⟩⟩
    · have q:a = b:=(pos_inj hv ha hb).mp (by have:=eq_of_beq q; omega)
      cases p3.symm.trans hx
      rw [if_pos q,q]
    · have q:¬ a = b:=fun e=>by rw [e] at q; simp at q
      cases p4.symm.trans hx
      rw [if_neg q]
def knwOv_c (o:Ovl) (at_:Int) (of_:Int):PC Tryz.prog:=⟨44,[(.a [(.s 5),(.s 3),(.s 10)]),.k,.k],[.agg [.sl 5 (o.sp.map Spk.v) false,.sl 3 (o.ls.map Lsn.v) false,.sl 10 (o.fl.map Sig.v) false],.int at_,.int of_],knwOv_e (knownV o at_ of_),PSpec.of_ok fun ok=>(knwOv_p o at_ of_ ok).elim fun I0 h=>knwOv_ok o at_ of_ I0 _ h,fnB_ok (by kernel_rfl)⟩
def setAt (o:Ovl) (s:Spk) (p:Per):Prop:=agree s (atL o.sp o.ls p.router) ∧ p.epoch = (atL o.sp o.ls p.router).epoch ∧ p.acked = s.last
theorem NetOk.at {R:List Int} {sp:List Spk} {ls:List Lsn} (h:NetOk R sp ls) {s:Spk} (hs:s ∈ sp):atS sp s.router = s:=atK_eq (key:=Spk.router) h.asc hs
theorem netOf_iff (l:List Int):ovlOk (netOf l) ↔ okR l:=by
  have er:rtrs (netOf l).sp = l:=by
    show (l.map (spkN l)).map Spk.router = l
    rw [List.map_map]
    exact List.map_id'' (fun x=>rfl) l
  constructor
  · rintro ⟨h,_⟩
    rw [er] at h
    refine ⟨h.len,fun r hr=>?_,h.ascR⟩
    have:=(h.spo (spkN l r) (List.mem_map.mpr ⟨r,hr,rfl⟩)).1.1
    exact this
  · intro h
    refine ⟨?_,by simp [netOf]⟩
    rw [er]; exact netOf_net h
theorem new_N (l:List Int) (r:Int):new r 1 (others l r) = if spkOk (spkN l r) then (spkN l r,0) else (spk0,1):=rfl
def newOv_a (list:(List Int)):Prop:=okL [.sl 1 (list.map AV.int) false]
def newOv_n0 (list:(List Int)) (t0:Int × (List Lsn) × (List Spk)):NF:=⟨[(0,.k,.sl 1 (list.map AV.int) false),(2,.k,.ref 0 0),(4,.k,.ref 1 0),(9,.k,.sl 1 (list.map AV.int) false),(10,.k,.int ((list.map AV.int).length:Int)),(11,.k,.int t0.1)],[.box (.agg [.sl 0 [] true,.sl 0 [] true,.sl 0 [] true]),.box (.agg [.vec 2,.vec 3,.sl 0 [] true]),.vec 5 (t0.2.2.map Spk.v) (pureBL_map (fun _=>rfl) t0.2.2),.vec 3 (t0.2.1.map Lsn.v) (pureBL_map (fun _=>rfl) t0.2.1)]⟩
def newOv_s:Nat → Type
  | 0=>Int × (List Lsn) × (List Spk)
  | _=>Unit
def newOv_e (r:Ovl × Int):AV:=.tup [Ovl.v r.1,.int r.2]
def newOv_vc (list:(List Int)) (I0:(Int × (List Lsn) × (List Spk)) → Prop) (m0:(Int × (List Lsn) × (List Spk)) → Nat) (r0:Ovl × Int):Prop:=
 Nf (newOv_n0 list (0,[],[])) [0,32,96,97] (I0 (0,[],[])) ∧ ∀ t0:Int × (List Lsn) × (List Spk),I0 t0 →
 br (decide (t0.1 < ((list.map AV.int).length:Int)))
 (Rf (list.map AV.int) (ck (decide (0 ≤ t0.1)) (ck (decide (t0.1 < (list.length:Int)))
 (∀ x1,list[t0.1.toNat]? = some x1 →
 ∃ h2:list.length ≤ 1000000,
 Cl (othersF_c list x1 h2)
 (∃ h3:(others list x1).length ≤ 1000000,
 Cl (new_c x1 1 (others list x1) h3)
 (br (((new x1 1 (others list x1)).2) != 0)
 (Rf (newOv_e ((⟨[],[],[]⟩:Ovl),1)) (((⟨[],[],[]⟩:Ovl),1) = r0))
 (Rf (α:=List AV) (t0.2.2.map Spk.v) (Rf (α:=List AV) [.agg [.int (((new x1 1 (others list x1)).1).router),.int (((new x1 1 (others list x1)).1).epoch),.int (((new x1 1 (others list x1)).1).last),.sl 4 ((((new x1 1 (others list x1)).1).items).map Itm.v) false,.sl 3 ((((new x1 1 (others list x1)).1).peers).map Per.v) false]]
 (ck (decide (t0.2.2.length + 1 ≤ 1000000))
 (Idt (t0.2.1.map Lsn.v) (Rf (α:=List AV) [.agg [.int x1,.int 1,.sl 0 [] true]]
 (ck (decide ((t0.2.1.map Lsn.v).length + 1 ≤ 1000000))
 ((FitE (.a [.k,.k,(.s 4)]) Lsn.v t0.2.1 [(⟨x1,1,[]⟩:Lsn)] [.agg [.int x1,.int 1,.sl 0 [] true]] ∧
 (Nf (newOv_n0 list (W (t0.1 + 1),t0.2.1 ++ [(⟨x1,1,[]⟩:Lsn)],t0.2.2 ++ [(new x1 1 (others list x1)).1])) [0,1,340,436] (I0 (W (t0.1 + 1),t0.2.1 ++ [(⟨x1,1,[]⟩:Lsn)],t0.2.2 ++ [(new x1 1 (others list x1)).1]) ∧ m0 (W (t0.1 + 1),t0.2.1 ++ [(⟨x1,1,[]⟩:Lsn)],t0.2.2 ++ [(new x1 1 (others list x1)).1]) < m0 t0))))))))))))))))
 (Cl (validO_c (⟨t0.2.2,t0.2.1,[]⟩:Ovl))
 (ck (pureBLs [(t0.2.2.map Spk.v),(t0.2.1.map Lsn.v)])
 (br (!(decide (ovlOk (⟨t0.2.2,t0.2.1,[]⟩:Ovl))))
 (Rf (newOv_e ((⟨[],[],[]⟩:Ovl),1)) (((⟨[],[],[]⟩:Ovl),1) = r0))
 (Rf (t0.2.1.map Lsn.v) (Rf (t0.2.2.map Spk.v) (Rf (newOv_e ((⟨t0.2.2,t0.2.1,[]⟩:Ovl),0)) (((⟨t0.2.2,t0.2.1,[]⟩:Ovl),0) = r0)))))))
theorem newOv_eq (list:(List Int)) (I0:(Int × (List Lsn) × (List Spk)) → Prop) (m0:(Int × (List Lsn) × (List Spk)) → Nat) (r0:Ovl × Int):mxP Tryz.prog 49 [.sl 1 (list.map AV.int) false] (.a [(.a [(.s 5),(.s 3),(.s 10)]),.k]) newOv_e ((.cmdL (.nilB 32 0 5) (.cmdL (.nilB 32 1 3) (.loop 0 (newOv_n0 list) (I0) (m0) ((0,[],[]):Int × (List Lsn) × (List Spk)) [0,32,96,97] fun (t0:Int × (List Lsn) × (List Spk)) =>
 (.br 20 (.el 20 AV.int list fun x1 =>
 (.req 116 (list.length ≤ 1000000) fun h2 =>
 (.callP (othersF_c list x1 h2)
 (.req 132 ((others list x1).length ≤ 1000000) fun h3 =>
 (.callP (new_c x1 1 (others list x1) h3)
 (.br 276 (.ret ((⟨[],[],[]⟩:Ovl),1))
 (.app 340 Spk.v t0.2.2 [(new x1 1 (others list x1)).1]
 (.app 436 (fun y:AV=>y) (t0.2.1.map Lsn.v) [.agg [.int x1,.int 1,.sl 0 [] true]]
 (.cmd (.wkV 436 (.a [.k,.k,(.s 4)]) Lsn.v (t0.2.1 ++ [(⟨x1,1,[]⟩:Lsn)])) (.back 0 ((W (t0.1 + 1),t0.2.1 ++ [(⟨x1,1,[]⟩:Lsn)],t0.2.2 ++ [(new x1 1 (others list x1)).1]):Int × (List Lsn) × (List Spk)) [0,1,340,436]))))))))))
 (.callP (validO_c (⟨t0.2.2,t0.2.1,[]⟩:Ovl))
 (.br 68 (.ret ((⟨[],[],[]⟩:Ovl),1))
 (.cmdL (.frzE 3 (t0.2.1.map Lsn.v) (pureBL_map (fun _=>rfl) t0.2.1)) (.cmdL (.frzE 2 (t0.2.2.map Spk.v) (pureBL_map (fun _=>rfl) t0.2.2)) (.ret ((⟨t0.2.2,t0.2.1,[]⟩:Ovl),0)))))))))):An Tryz.prog newOv_s (Ovl × Int)) r0 = newOv_vc list I0 m0 r0:=by kernel_rfl
theorem newOv_ok (list:(List Int)) (I0:(Int × (List Lsn) × (List Spk)) → Prop) (m0:(Int × (List Lsn) × (List Spk)) → Nat) (r0:Ovl × Int) (h:newOv_vc list I0 m0 r0):PSpec Tryz.prog 49 [.sl 1 (list.map AV.int) false] (newOv_e r0):=by
  have e:=newOv_eq list I0 m0 r0
  rw [← e] at h
  exact mxP_ok (enc:=newOv_e) h (AV.pureB_ok rfl)
theorem newOv_p (l:List Int) (h:l.length ≤ 1000) (ok:newOv_a l):∃ I m,newOv_vc l I m (newN l):=by
  refine ⟨fun t=>∃ k:Nat,t = ((k:Int),(l.take k).map lsnN,(l.take k).map (spkN l)) ∧ k ≤ l.length,fun t=>l.length - t.1.toNat,?_⟩
  simp only [newOv_vc,vcU,rfU,List.length_map]
  refine ⟨⟨0,rfl,by omega⟩,?_⟩
  rintro _ ⟨k,rfl,hk⟩
  simp only [Int.toNat_natCast]
  refine ⟨fun a1=>⟨by omega,by omega,fun x hx=>⟨by omega,by have:=List.length_filter_le (fun y=>decide (y ≠ x)) l; unfold others; omega,?_⟩⟩,fun a1=>?_⟩
  · rw [new_N]
    refine ⟨fun q=>?_,fun q=>?_⟩
    · have q:¬ spkOk (spkN l x):=fun e=>by rw [if_pos e] at q; simp at q
      have:¬ okR l:=fun e=>q (spkN_ok e (mem_of_get hx)).1
      rw [newN,if_neg this]
      simp [q,ovl0]
    · have q:spkOk (spkN l x):=by
        by_cases e:spkOk (spkN l x)
        · exact e
        · rw [if_neg e] at q; simp at q
      rw [if_pos q,W_succ (n:=l.length) (by omega) (by omega)]
      refine ⟨by simp; omega,by simp; omega,fitE_one (fun _=>rfl) rfl,⟨k + 1,?_,by omega⟩,by omega⟩
      rw [take_succ hx,List.map_append,List.map_append]; rfl
  · rw [List.take_of_length_le (by omega)]
    have e:(⟨l.map (spkN l),l.map lsnN,[]⟩:Ovl) = netOf l:=rfl
    rw [e]
    have hN:newN l = if okR l then (netOf l,0) else (ovl0,1):=rfl
    rw [hN]
    simp only [netOf_iff]
    refine ⟨by generalize l.map (spkN l) = A; generalize l.map lsnN = B; simp [pureBLs,pureBL_map (v:=Spk.v) (fun _=>rfl),pureBL_map (v:=Lsn.v) (fun _=>rfl)],fun q=>?_,fun q=>?_⟩
    · rw [if_neg (by simpa using q)]; rfl
    · rw [if_pos (by simpa using q)]
def newOv_c (list:(List Int)) (h:list.length ≤ 1000):PC Tryz.prog:=⟨49,[(.s 1)],[.sl 1 (list.map AV.int) false],newOv_e (newN list),PSpec.of_ok fun ok=>(newOv_p list h ok).elim fun I0 h=>h.elim fun m0 h=>newOv_ok list I0 m0 _ h,fnB_ok (by kernel_rfl)⟩
end Go.Proofs.YtglfecmdoekabaaGreatDoor

namespace Go.Proofs.YtglfecmdoekabaaGreatDoor
open Go Go.Am
set_option linter.unusedVariables false
set_option linter.unusedSimpArgs false
structure ALI (two all:Ovl) (k:Int):Prop where
  l2:∃ lw,LW [2,3] two k lw
  l4:∃ lw,LW [2,3,5,8] all k lw
  al:Alike [2,3] two all
  f2:(two.fl.length:Int) ≤ k * 14400
  f4:(all.fl.length:Int) ≤ k * 14400
theorem ALI.new:ALI (netOf [2,3]) (netOf [2,3,5,8]) 0:=by
  have h2:okR [2,3]:=by decide
  have h4:okR [2,3,5,8]:=by decide
  exact ⟨⟨_,LW.new h2⟩,⟨_,LW.new h4⟩,Alike.new h2 h4 (by simp) (by simp),by simp [netOf],by simp [netOf]⟩
section
variable {two all : Ovl} {k r : Int} {w : List Wnt}
theorem ALI.sub (a:Int) (ha:a ∈ ([2,3]:List Int)):a ∈ ([2,3,5,8]:List Int):=by
  simp at ha ⊢; omega
theorem ALI.change (h:ALI two all k) (hk:0 ≤ k ∧ k ≤ 1000) (hr:r ∈ ([2,3,5,8]:List Int)) (hw:WOk 7 w) :
    (changeV all r w).2 = 0 ∧ (r < 5 → (changeV two r w).2 = 0 ∧ ALI (changeV two r w).1 (changeV all r w).1 (k + 1)) ∧ (¬ r < 5 → ALI two (changeV all r w).1 (k + 1)):=by
  obtain ⟨⟨lw,h2⟩,⟨lw',h4⟩,hal,f2,f4⟩:=h
  obtain ⟨z4,n4⟩:=h4.change hr hw hk
  obtain ⟨_,d4⟩:=changeV_ok h4.oi z4
  refine ⟨z4,fun h5=>?_,fun h5=>?_⟩
  · have hr2:r ∈ ([2,3]:List Int):=by simp at hr ⊢; omega
    obtain ⟨z2,n2⟩:=h2.change hr2 hw hk
    obtain ⟨_,d2⟩:=changeV_ok h2.oi z2
    exact ⟨z2,⟨_,n2⟩,⟨_,n4⟩,hal.change (fun a ha=>ha) ALI.sub hr2 d2 d4,by rw [d2.fl]; omega,by rw [d4.fl]; omega⟩
  · have hr2:r ∉ ([2,3]:List Int):=by simp; omega
    exact ⟨⟨_,h2.more (by omega)⟩,⟨_,n4⟩,hal.trans (d4.out ALI.sub hr2),by omega,by rw [d4.fl]; omega⟩
theorem ALI.restart (h:ALI two all k) (hk:0 ≤ k ∧ k ≤ 1000) (hr:r ∈ ([2,3,5,8]:List Int)) (hw:WOk 7 w) :
    (restartV all r w).2 = 0 ∧ (r < 5 → (restartV two r w).2 = 0 ∧ ALI (restartV two r w).1 (restartV all r w).1 (k + 1)) ∧ (¬ r < 5 → ALI two (restartV all r w).1 (k + 1)):=by
  obtain ⟨⟨lw,h2⟩,⟨lw',h4⟩,hal,f2,f4⟩:=h
  obtain ⟨z4,n4⟩:=h4.restart hr hw hk
  obtain ⟨_,d4⟩:=restartV_ok h4.oi z4
  refine ⟨z4,fun h5=>?_,fun h5=>?_⟩
  · have hr2:r ∈ ([2,3]:List Int):=by simp at hr ⊢; omega
    obtain ⟨z2,n2⟩:=h2.restart hr2 hw hk
    obtain ⟨_,d2⟩:=restartV_ok h2.oi z2
    exact ⟨z2,⟨_,n2⟩,⟨_,n4⟩,hal.restart (fun a ha=>ha) ALI.sub hr2 d2 d4,by rw [d2.fl]; omega,by rw [d4.fl]; omega⟩
  · have hr2:r ∉ ([2,3]:List Int):=by simp; omega
    exact ⟨⟨_,h2.more (by omega)⟩,⟨_,n4⟩,hal.trans (d4.out ALI.sub hr2),by omega,by rw [d4.fl]; omega⟩
theorem ALI.round (h:ALI two all k) (hk:0 ≤ k):(roundO two []).2 = 0 ∧ (roundO all []).2 = 0 ∧ ALI (roundO two []).1 (roundO all []).1 (k + 1):=by
  obtain ⟨⟨lw,h2⟩,⟨lw',h4⟩,hal,f2,f4⟩:=h
  obtain ⟨z2,n2⟩:=h2.roundO []
  obtain ⟨z4,n4⟩:=h4.roundO []
  have e2:=(h2.oi.roundO []).2.len
  have e4:=(h4.oi.roundO []).2.len
  simp only [List.length_nil] at e2 e4
  refine ⟨z2,z4,⟨_,n2.more (by omega)⟩,⟨_,n4.more (by omega)⟩,?_,by omega,by omega⟩
  rw [h2.oi.roundO_nil,h4.oi.roundO_nil]
  exact hal.round0 (fun a ha=>ha) ALI.sub h2.oi h4.oi
end
end Go.Proofs.YtglfecmdoekabaaGreatDoor

namespace Go.Proofs.YtglfecmdoekabaaGreatDoor
open Go Go.Am
set_option linter.unusedVariables false
set_option linter.unusedSimpArgs false
def awakeO_a:Prop:=okL []
def awakeO_s:Nat → Type
  | _=>Unit
def awakeO_e (r:Bool):AV:=.bool r
def awakeO_vc (r0:Bool):Prop:=
 ∃ h1:[1,2].length ≤ 1000,
 Cl (newOv_c [1,2] h1)
 (∃ h2:((newN [1,2]).1).fl.length ≤ 1000000,
 Cl ((chgOv_c ((newN [1,2]).1) 2 [(⟨4,2,[]⟩:Wnt)] h2).wsh [.a [(.s 5),(.s 3),(.s 10)],.k,.v (.a [.k,.k,(.s 1)])])
 (∃ h3:okRnd ((changeV ((newN [1,2]).1) 2 [(⟨4,2,[]⟩:Wnt)]).1) [],
 Cl (rndOv_c ((changeV ((newN [1,2]).1) 2 [(⟨4,2,[]⟩:Wnt)]).1) [] h3)
 (Cl (knwOv_c ((roundO ((changeV ((newN [1,2]).1) 2 [(⟨4,2,[]⟩:Wnt)]).1) []).1) 1 2)
 (∃ h4:okRnd ((roundO ((changeV ((newN [1,2]).1) 2 [(⟨4,2,[]⟩:Wnt)]).1) []).1) [],
 Cl (rndOv_c ((roundO ((changeV ((newN [1,2]).1) 2 [(⟨4,2,[]⟩:Wnt)]).1) []).1) [] h4)
 (Cl (knwOv_c ((roundO ((roundO ((changeV ((newN [1,2]).1) 2 [(⟨4,2,[]⟩:Wnt)]).1) []).1) []).1) 1 2)
 (br (((newN [1,2]).2) == 0)
 (br (((changeV ((newN [1,2]).1) 2 [(⟨4,2,[]⟩:Wnt)]).2) == 0)
 (br (((roundO ((changeV ((newN [1,2]).1) 2 [(⟨4,2,[]⟩:Wnt)]).1) []).2) == 0)
 (br (((knownV ((roundO ((changeV ((newN [1,2]).1) 2 [(⟨4,2,[]⟩:Wnt)]).1) []).1) 1 2).2) == 0)
 (br (((roundO ((roundO ((changeV ((newN [1,2]).1) 2 [(⟨4,2,[]⟩:Wnt)]).1) []).1) []).2) == 0)
 (br (((knownV ((roundO ((roundO ((changeV ((newN [1,2]).1) 2 [(⟨4,2,[]⟩:Wnt)]).1) []).1) []).1) 1 2).2) == 0)
 (br (((((knownV ((roundO ((changeV ((newN [1,2]).1) 2 [(⟨4,2,[]⟩:Wnt)]).1) []).1) 1 2).1).map Wnt.v).length:Int) == 0)
 (Cl ((sameW_c ((knownV ((roundO ((roundO ((changeV ((newN [1,2]).1) 2 [(⟨4,2,[]⟩:Wnt)]).1) []).1) []).1) 1 2).1) [(⟨4,2,[]⟩:Wnt)]).wsh [.s 3,.v (.a [.k,.k,(.s 1)])])
 (br (decide (((knownV ((roundO ((roundO ((changeV ((newN [1,2]).1) 2 [(⟨4,2,[]⟩:Wnt)]).1) []).1) []).1) 1 2).1) = [(⟨4,2,[]⟩:Wnt)]))
 (Cl (quietO_c )
 (Rf (awakeO_e ((5:Int) == 5)) (((5:Int) == 5) = r0)))
 (Rf (awakeO_e (false)) ((false) = r0))))
 (Rf (awakeO_e (false)) ((false) = r0)))
 (Rf (awakeO_e (false)) ((false) = r0)))
 (Rf (awakeO_e (false)) ((false) = r0)))
 (Rf (awakeO_e (false)) ((false) = r0)))
 (Rf (awakeO_e (false)) ((false) = r0)))
 (Rf (awakeO_e (false)) ((false) = r0)))
 (Rf (awakeO_e (false)) ((false) = r0))))))))
theorem awakeO_eq (r0:Bool):mxP Tryz.prog 46 [] .k awakeO_e ((.req 96 ([1,2].length ≤ 1000) fun h1 =>
 (.callP (newOv_c [1,2] h1)
 (.req 240 (((newN [1,2]).1).fl.length ≤ 1000000) fun h2 =>
 (.callP ((chgOv_c ((newN [1,2]).1) 2 [(⟨4,2,[]⟩:Wnt)] h2).wsh [.a [(.s 5),(.s 3),(.s 10)],.k,.v (.a [.k,.k,(.s 1)])])
 (.req 352 (okRnd ((changeV ((newN [1,2]).1) 2 [(⟨4,2,[]⟩:Wnt)]).1) []) fun h3 =>
 (.callP (rndOv_c ((changeV ((newN [1,2]).1) 2 [(⟨4,2,[]⟩:Wnt)]).1) [] h3)
 (.callP (knwOv_c ((roundO ((changeV ((newN [1,2]).1) 2 [(⟨4,2,[]⟩:Wnt)]).1) []).1) 1 2)
 (.req 576 (okRnd ((roundO ((changeV ((newN [1,2]).1) 2 [(⟨4,2,[]⟩:Wnt)]).1) []).1) []) fun h4 =>
 (.callP (rndOv_c ((roundO ((changeV ((newN [1,2]).1) 2 [(⟨4,2,[]⟩:Wnt)]).1) []).1) [] h4)
 (.callP (knwOv_c ((roundO ((roundO ((changeV ((newN [1,2]).1) 2 [(⟨4,2,[]⟩:Wnt)]).1) []).1) []).1) 1 2)
 (.br 832 (.br 896 (.br 960 (.br 1024 (.br 1088 (.br 1152 (.br 1232 (.callP ((sameW_c ((knownV ((roundO ((roundO ((changeV ((newN [1,2]).1) 2 [(⟨4,2,[]⟩:Wnt)]).1) []).1) []).1) 1 2).1) [(⟨4,2,[]⟩:Wnt)]).wsh [.s 3,.v (.a [.k,.k,(.s 1)])])
 (.br 1312 (.callP (quietO_c )
 (.ret ((5:Int) == 5)))
 (.ret (false))))
 (.ret (false)))
 (.ret (false)))
 (.ret (false)))
 (.ret (false)))
 (.ret (false)))
 (.ret (false)))
 (.ret (false))))))))))))):An Tryz.prog awakeO_s (Bool)) r0 = awakeO_vc r0:=by kernel_rfl
theorem awakeO_ok (r0:Bool) (h:awakeO_vc r0):PSpec Tryz.prog 46 [] (awakeO_e r0):=by
  have e:=awakeO_eq r0
  rw [← e] at h
  exact mxP_ok (enc:=awakeO_e) h (AV.pureB_ok rfl)
theorem awakeO_p (ok:awakeO_a):awakeO_vc true:=by
  simp only [awakeO_vc,vcU,rfU,List.length_map]
  have h0:newN [1,2] = (netOf [1,2],0):=by decide +kernel
  have h1:(changeV (netOf [1,2]) 2 [⟨4,2,[]⟩]).2 = 0:=by decide +kernel
  have r1:okRnd (changeV (netOf [1,2]) 2 [⟨4,2,[]⟩]).1 []:=by unfold okRnd; decide +kernel
  have h2:(roundO (changeV (netOf [1,2]) 2 [⟨4,2,[]⟩]).1 []).2 = 0:=by decide +kernel
  have r2:okRnd (roundO (changeV (netOf [1,2]) 2 [⟨4,2,[]⟩]).1 []).1 []:=by unfold okRnd; decide +kernel
  have h3:knownV (roundO (changeV (netOf [1,2]) 2 [⟨4,2,[]⟩]).1 []).1 1 2 = ([],0):=by decide +kernel
  have h4:(roundO (roundO (changeV (netOf [1,2]) 2 [⟨4,2,[]⟩]).1 []).1 []).2 = 0:=by decide +kernel
  have h5:knownV (roundO (roundO (changeV (netOf [1,2]) 2 [⟨4,2,[]⟩]).1 []).1 []).1 1 2 = ([⟨4,2,[]⟩],0):=by decide +kernel
  rw [h0]
  simp only [h1,h2,h3,h4,h5]
  refine ⟨by decide,by simp [netOf],r1,r2,?_⟩
  simp
def awakeO_c:PC Tryz.prog:=⟨46,[],[],awakeO_e true,PSpec.of_ok fun ok=>awakeO_ok _ (awakeO_p ok),fnB_ok (by kernel_rfl)⟩
end Go.Proofs.YtglfecmdoekabaaGreatDoor
