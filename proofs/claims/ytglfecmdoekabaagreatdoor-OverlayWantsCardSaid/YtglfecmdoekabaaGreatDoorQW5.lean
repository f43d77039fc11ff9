/- Texts joined: G4 G5 G6 G7 G8 IH. -/
import Derived.KernelRfl
import Derived.Test.YtglfecmdoekabaaGreatDoorQW4
namespace Go.Proofs.YtglfecmdoekabaaGreatDoor
open Go Go.Am
set_option linter.unusedVariables false
set_option linter.unusedSimpArgs false
def okItms (l:List Itm):Prop:=l.length ≤ 900000 ∧ ∀ x ∈ l,x.srcs.length ≤ 1000000
def itemsB (l:List Itm) (last:Int):Bool:=decide (itmsOk last l)
def seenOk (l:List Itm) (s:List Bool):Prop:=s.length = 100 ∧ ∀ g,g < 100 → s[g]? = some (decide (∃ x ∈ l,x.grp = (g:Nat)))
theorem seen_nil:seenOk [] (List.replicate 100 false):=⟨List.length_replicate,fun g hg=>by rw [List.getElem?_replicate,if_pos hg]; simp⟩
theorem seen_add {l:List Itm} {s:List Bool} (h:seenOk l s) {x:Itm} (hx:1 ≤ x.grp ∧ x.grp ≤ 99):seenOk (l ++ [x]) (s.set x.grp.toNat true):=by
  refine ⟨by simp [h.1],fun g hg=>?_⟩
  rw [List.getElem?_set]
  by_cases e:x.grp.toNat = g
  · rw [if_pos e,if_pos (by have:=h.1; omega)]
    refine congrArg some (decide_eq_true ⟨x,by simp,by omega⟩).symm
  · rw [if_neg e,h.2 g hg]
    refine congrArg some ?_
    refine decide_eq_decide.mpr ⟨fun ⟨y,hy,hg⟩=>⟨y,by simp [hy],hg⟩,fun ⟨y,hy,hg⟩=>?_⟩
    rcases List.mem_append.mp hy with hy | hy
    · exact ⟨y,hy,hg⟩
    · rw [List.mem_singleton] at hy; subst hy; omega
theorem nodup_add {l:List Itm} {x:Itm} (h:(l.map Itm.grp).Nodup) (hx:¬ ∃ y ∈ l,y.grp = x.grp):((l ++ [x]).map Itm.grp).Nodup:=by
  rw [List.map_append,List.nodup_append]
  refine ⟨h,by simp,fun a ha b hb e=>?_⟩
  obtain ⟨y,hy,rfl⟩:=List.mem_map.mp ha
  simp at hb; subst hb
  exact hx ⟨y,hy,e⟩
def itemsB_a (l:(List Itm)) (last:Int):Prop:=okL [.sl 4 (l.map Itm.v) false,.int last]
def itemsB_n0 (l:(List Itm)) (last:Int) (t0:Int × (List Bool)):NF:=⟨[(0,.k,.sl 4 (l.map Itm.v) false),(1,.k,.int last),(5,.k,.ref 0 0),(8,.k,.sl 4 (l.map Itm.v) false),(9,.k,.int ((l.map Itm.v).length:Int)),(10,.k,.int t0.1)],[.arr (t0.2.map AV.bool) (pureBL_map (fun _=>rfl) t0.2)]⟩
def itemsB_s:Nat → Type
  | 0=>Int × (List Bool)
  | _=>Unit
def itemsB_e (r:Bool):AV:=.bool r
def itemsB_vc (l:(List Itm)) (last:Int) (I0:(Int × (List Bool)) → Prop) (m0:(Int × (List Bool)) → Nat) (r0:Bool):Prop:=
 Nf (itemsB_n0 l last (0,List.replicate 100 false)) [16] (I0 (0,List.replicate 100 false)) ∧ ∀ t0:Int × (List Bool),I0 t0 →
 br (decide (t0.1 < ((l.map Itm.v).length:Int)))
 (Rf (l.map Itm.v) (ck (decide (0 ≤ t0.1)) (ck (decide (t0.1 < (l.length:Int)))
 (∀ x1,l[t0.1.toNat]? = some x1 →
 Cl (within_c x1.ver 1 last)
 (br (!(within x1.ver 1 last))
 (Rf (itemsB_e (false)) ((false) = r0))
 (Cl (within_c x1.grp 1 99)
 (br (!(within x1.grp 1 99))
 (Rf (itemsB_e (false)) ((false) = r0))
 (ck (cond (decide (0 ≤ x1.grp)) (decide (x1.grp < 100)) false)
 (Rf (t0.2.map AV.bool) (ck (decide ((0 + (x1.grp.toNat * 1)) < t0.2.length))
 (∀ x2,t0.2[(0 + (x1.grp.toNat * 1))]? = some x2 →
 br x2
 (Rf (itemsB_e (false)) ((false) = r0))
 (Cl (PVal_c (⟨x1.mode,x1.srcs⟩:Flt))
 (br ((fltErr (⟨x1.mode,x1.srcs⟩:Flt).mode (⟨x1.mode,x1.srcs⟩:Flt).srcs) != 0)
 (Rf (itemsB_e (false)) ((false) = r0))
 (ck (cond (decide (0 ≤ x1.grp)) (decide (x1.grp < 100)) false)
 (Rf (t0.2.map AV.bool) (ck (decide ((0 + (x1.grp.toNat * 1)) < t0.2.length))
 (∀ y3,t0.2[(0 + (x1.grp.toNat * 1))]? = some y3 → Rf (AV.bool true)
 (Nf (itemsB_n0 l last (W (t0.1 + 1),t0.2.set (0 + (x1.grp.toNat * 1)) true)) [0] (I0 (W (t0.1 + 1),t0.2.set (0 + (x1.grp.toNat * 1)) true) ∧ m0 (W (t0.1 + 1),t0.2.set (0 + (x1.grp.toNat * 1)) true) < m0 t0)))))))))))))))))))
 (Cl (ascI_c l)
 (Rf (itemsB_e (ascB Itm.ver l)) ((ascB Itm.ver l) = r0)))
theorem itemsB_eq (l:(List Itm)) (last:Int) (I0:(Int × (List Bool)) → Prop) (m0:(Int × (List Bool)) → Nat) (r0:Bool):mxP Tryz.prog 76 [.sl 4 (l.map Itm.v) false,.int last] .k itemsB_e ((.loop 0 (itemsB_n0 l last) (I0) (m0) ((0,List.replicate 100 false):Int × (List Bool)) [16] fun (t0:Int × (List Bool)) =>
 (.br 17 (.el 17 Itm.v l fun x1 =>
 (.callP (within_c x1.ver 1 last)
 (.br 177 (.ret (false))
 (.callP (within_c x1.grp 1 99)
 (.br 273 (.ret (false))
 (.el 321 AV.bool t0.2 fun x2 =>
 (.br 369 (.ret (false))
 (.callP (PVal_c (⟨x1.mode,x1.srcs⟩:Flt))
 (.br 449 (.ret (false))
 (.st 497 AV.bool t0.2 (fun _=>true) fun y3 =>
 (.back 0 ((W (t0.1 + 1),t0.2.set (0 + (x1.grp.toNat * 1)) true):Int × (List Bool)) [0])))))))))))
 (.callP (ascI_c l)
 (.ret (ascB Itm.ver l))))):An Tryz.prog itemsB_s (Bool)) r0 = itemsB_vc l last I0 m0 r0:=by kernel_rfl
theorem itemsB_ok (l:(List Itm)) (last:Int) (I0:(Int × (List Bool)) → Prop) (m0:(Int × (List Bool)) → Nat) (r0:Bool) (h:itemsB_vc l last I0 m0 r0):PSpec Tryz.prog 76 [.sl 4 (l.map Itm.v) false,.int last] (itemsB_e r0):=by
  have e:=itemsB_eq l last I0 m0 r0
  rw [← e] at h
  exact mxP_ok (enc:=itemsB_e) h (AV.pureB_ok rfl)
theorem itemsB_p (l:List Itm) (last:Int) (ok:itemsB_a l last):∃ I m,itemsB_vc l last I m (itemsB l last):=by
  simp only [itemsB_a,okU,Blk.ok,plainV,List.length_map] at ok
  refine ⟨fun t=>∃ k:Nat,t.1 = k ∧ k ≤ l.length ∧ seenOk (l.take k) t.2 ∧ (∀ x ∈ l.take k,itmOk last x) ∧ ((l.take k).map Itm.grp).Nodup,fun t=>l.length - t.1.toNat,?_⟩
  simp only [itemsB_vc,vcU,rfU,List.length_map]
  refine ⟨⟨0,rfl,by omega,seen_nil,by simp,by simp⟩,?_⟩
  rintro ⟨_,s⟩ ⟨k,rfl,hk,hs,hi,hn⟩
  simp only [Int.toNat_natCast,Nat.zero_add,Nat.mul_one] at hs ⊢
  refine ⟨fun h1=>⟨by omega,by omega,fun x hx=>?_⟩,fun h1=>?_⟩
  · have hm:=mem_of_get hx
    have bad:¬ itmOk last x → false = itemsB l last:=fun h=>(decide_eq_false fun e=>h (e.1 x hm)).symm
    refine ⟨fun e=>bad fun e'=>?_,fun e1=>⟨fun e=>bad fun e'=>?_,fun e2=>?_⟩⟩
    · simp [within] at e; have:=e'.1; omega
    · simp [within] at e; have:=e'.2.1; omega
    have hv:1 ≤ x.ver ∧ x.ver ≤ last:=by simpa [within] using e1
    have hg:1 ≤ x.grp ∧ x.grp ≤ 99:=by simpa [within] using e2
    have hg2:(bif decide (0 ≤ x.grp) then decide (x.grp < 100) else false) = true:=by simp; omega
    have hsl:=hs.1
    refine ⟨hg2,by omega,fun b hb=>?_⟩
    rw [hs.2 _ (by omega)] at hb
    have hb:=Option.some.inj hb
    have hex:(∃ y ∈ l.take k,y.grp = ((x.grp.toNat:Nat):Int)) ↔ ∃ y ∈ l.take k,y.grp = x.grp:=by rw [show ((x.grp.toNat:Nat):Int) = x.grp by omega]
    refine ⟨fun e3=>?_,fun e3=>⟨fun e=>bad fun e'=>?_,fun e4=>⟨hg2,by omega,fun y hy=>?_⟩⟩⟩
    · rw [e3] at hb
      obtain ⟨y,hy,hyx⟩:=hex.mp (of_decide_eq_true hb)
      refine (decide_eq_false fun e=>?_).symm
      obtain ⟨j,hj,rfl⟩:=List.mem_take_iff_getElem.mp hy
      have:=pw_get (R:=fun a b=>a ≠ b) e.2.1 (i:=j) (j:=k) (by omega) (by rw [List.getElem?_map,List.getElem?_eq_getElem (by omega)]; rfl) (by rw [List.getElem?_map,hx]; rfl)
      exact this hyx
    · have:=e'.2.2; simp [this] at e
    · have hf:fltErr x.mode x.srcs = 0:=by simpa using e4
      rw [e3] at hb
      have hne:=fun h=>of_decide_eq_false hb (hex.mpr h)
      rw [W_succ (n:=l.length) (by omega) (by omega)]
      refine ⟨⟨k + 1,rfl,by omega,?_,?_,?_⟩,by omega⟩
      · rw [take_succ hx]; exact seen_add hs hg
      · rw [take_succ hx]
        intro z hz
        rcases List.mem_append.mp hz with hz | hz
        · exact hi z hz
        · rw [List.mem_singleton] at hz; subst hz; exact ⟨hv,hg,hf⟩
      · rw [take_succ hx]; exact nodup_add hn hne
  · rw [List.take_of_length_le (by omega)] at hi hn
    simp only [ascB,itemsB,itmsOk]
    exact decide_eq_decide.mpr ⟨fun h=>⟨hi,hn,h⟩,fun h=>h.2.2⟩
def itemsB_c (l:(List Itm)) (last:Int):PC Tryz.prog:=⟨76,[(.s 4),.k],[.sl 4 (l.map Itm.v) false,.int last],itemsB_e (itemsB l last),PSpec.of_ok fun ok=>(itemsB_p l last ok).elim fun I0 h=>h.elim fun m0 h=>itemsB_ok l last I0 m0 _ h,fnB_ok (by kernel_rfl)⟩
def valS (s:Spk):Int:=errIf (spkOk s)
def valL (l:Lsn):Int:=errIf (lsnOk l)
theorem errIf_no {p:Prop} [Decidable p] (h:¬ p):(1:Int) = errIf p:=by rw [errIf,if_neg h]
theorem codeE_iff {p q:Prop} [Decidable p] [Decidable q] (h:p ↔ q):codeE (decide p) = errIf q:=by
  by_cases hp:p
  · simp [codeE,errIf,hp,h.mp hp]
  · have hq:¬ q:=fun hq=>hp (h.mpr hq)
    simp [codeE,errIf,hp,hq]
def valS_a (s:Spk):Prop:=okL [.agg [.int s.router,.int s.epoch,.int s.last,.sl 4 (s.items.map Itm.v) false,.sl 3 (s.peers.map Per.v) false]]
def valS_n0 (s:Spk) (t0:Int):NF:=⟨[(1,.k,.ref 0 0),(36,.k,.sl 3 (s.peers.map Per.v) false),(37,.k,.int ((s.peers.map Per.v).length:Int)),(38,.k,.int t0)],[.box (.agg [.int s.router,.int s.epoch,.int s.last,.sl 4 (s.items.map Itm.v) false,.sl 3 (s.peers.map Per.v) false])]⟩
def valS_s:Nat → Type
  | 0=>Int
  | _=>Unit
def valS_e (r:Int):AV:=.int r
def valS_vc (s:Spk) (I0:Int → Prop) (m0:Int → Nat) (r0:Int):Prop:=
 Cl (within_c s.router 1 99)
 (br (!(within s.router 1 99))
 (Rf (valS_e (1)) ((1) = r0))
 (Cl (within_c s.epoch 1 1000000)
 (br (!(within s.epoch 1 1000000))
 (Rf (valS_e (1)) ((1) = r0))
 (Cl (within_c s.last 0 1000000)
 (br (!(within s.last 0 1000000))
 (Rf (valS_e (1)) ((1) = r0))
 (Cl (itemsB_c s.items s.last)
 (br (!(itemsB s.items s.last))
 (Rf (valS_e (1)) ((1) = r0))
 (br (decide (12 < ((s.peers.map Per.v).length:Int)))
 (Rf (valS_e (1)) ((1) = r0))
 (Nf (valS_n0 s (0)) [0] (I0 (0)) ∧ ∀ t0:Int,I0 t0 →
 br (decide (t0 < ((s.peers.map Per.v).length:Int)))
 (Rf (s.peers.map Per.v) (ck (decide (0 ≤ t0)) (ck (decide (t0 < (s.peers.length:Int)))
 (∀ x1,s.peers[t0.toNat]? = some x1 →
 Cl (within_c x1.router 1 99)
 (br (!(within x1.router 1 99))
 (Rf (valS_e (1)) ((1) = r0))
 (br (x1.router == s.router)
 (Rf (valS_e (1)) ((1) = r0))
 (Cl (within_c x1.epoch 0 1000000)
 (br (!(within x1.epoch 0 1000000))
 (Rf (valS_e (1)) ((1) = r0))
 (Cl (within_c x1.acked 0 s.last)
 (br (!(within x1.acked 0 s.last))
 (Rf (valS_e (1)) ((1) = r0))
 (Nf (valS_n0 s (W (t0 + 1))) [0] (I0 (W (t0 + 1)) ∧ m0 (W (t0 + 1)) < m0 t0))))))))))))
 (Cl (ascP_c s.peers)
 (Cl (codeE_c (ascB Per.router s.peers))
 (Rf (valS_e (codeE (ascB Per.router s.peers))) ((codeE (ascB Per.router s.peers)) = r0)))))))))))))
theorem valS_eq (s:Spk) (I0:Int → Prop) (m0:Int → Nat) (r0:Int):mxP Tryz.prog 82 [.agg [.int s.router,.int s.epoch,.int s.last,.sl 4 (s.items.map Itm.v) false,.sl 3 (s.peers.map Per.v) false]] .k valS_e ((.callP (within_c s.router 1 99)
 (.br 112 (.ret (1))
 (.callP (within_c s.epoch 1 1000000)
 (.br 208 (.ret (1))
 (.callP (within_c s.last 0 1000000)
 (.br 304 (.ret (1))
 (.callP (itemsB_c s.items s.last)
 (.br 432 (.ret (1))
 (.br 512 (.ret (1))
 (.loop 0 (valS_n0 s) (I0) (m0) ((0):Int) [0] fun (t0:Int) =>
 (.br 17 (.el 17 Per.v s.peers fun x1 =>
 (.callP (within_c x1.router 1 99)
 (.br 161 (.ret (1))
 (.br 273 (.ret (1))
 (.callP (within_c x1.epoch 0 1000000)
 (.br 369 (.ret (1))
 (.callP (within_c x1.acked 0 s.last)
 (.br 481 (.ret (1))
 (.back 0 ((W (t0 + 1)):Int) [0])))))))))
 (.callP (ascP_c s.peers)
 (.callP (codeE_c (ascB Per.router s.peers))
 (.ret (codeE (ascB Per.router s.peers)))))))))))))))):An Tryz.prog valS_s (Int)) r0 = valS_vc s I0 m0 r0:=by kernel_rfl
theorem valS_ok (s:Spk) (I0:Int → Prop) (m0:Int → Nat) (r0:Int) (h:valS_vc s I0 m0 r0):PSpec Tryz.prog 82 [.agg [.int s.router,.int s.epoch,.int s.last,.sl 4 (s.items.map Itm.v) false,.sl 3 (s.peers.map Per.v) false]] (valS_e r0):=by
  have e:=valS_eq s I0 m0 r0
  rw [← e] at h
  exact mxP_ok (enc:=valS_e) h (AV.pureB_ok rfl)
theorem valS_p (s:Spk) (ok:valS_a s):∃ I m,valS_vc s I m (valS s):=by
  simp only [valS_a,okU,Blk.ok,plainV,List.length_map] at ok
  refine ⟨fun t=>∃ k:Nat,t = k ∧ k ≤ s.peers.length ∧ ∀ p ∈ s.peers.take k,perOk s.router s.last p,fun t=>s.peers.length - t.toNat,?_⟩
  simp only [valS_vc,vcU,rfU,List.length_map]
  have bad:¬ spkOk s → 1 = valS s:=errIf_no
  refine ⟨fun e=>bad fun h=>?_,fun e1=>⟨fun e=>bad fun h=>?_,fun e2=>⟨fun e=>bad fun h=>?_,fun e3=>⟨fun e=>bad fun h=>?_,fun e4=>⟨fun e=>bad fun h=>?_,fun e5=>?_⟩⟩⟩⟩⟩
  · have:=h.1; simp [within] at e; omega
  · have:=h.2.1; simp [within] at e; omega
  · have:=h.2.2.1; simp [within] at e; omega
  · have:=h.2.2.2.1; simp [itemsB,this] at e
  · have:=h.2.2.2.2.1; omega
  have e1:1 ≤ s.router ∧ s.router ≤ 99:=by simpa [within] using e1
  have e2:1 ≤ s.epoch ∧ s.epoch ≤ 1000000:=by simpa [within] using e2
  have e3:0 ≤ s.last ∧ s.last ≤ 1000000:=by simpa [within] using e3
  have e4:itmsOk s.last s.items:=by simpa [itemsB] using e4
  refine ⟨⟨0,rfl,by omega,by simp⟩,?_⟩
  rintro _ ⟨k,rfl,hk,hp⟩
  simp only [Int.toNat_natCast]
  refine ⟨fun h1=>⟨by omega,by omega,fun x hx=>?_⟩,fun h1=>?_⟩
  · have bad:¬ perOk s.router s.last x → 1 = valS s:=fun h=>bad fun e=>h (e.2.2.2.2.2.1 x (mem_of_get hx))
    refine ⟨fun e=>bad fun h=>?_,fun p1=>⟨fun e=>bad fun h=>?_,fun p2=>⟨fun e=>bad fun h=>?_,fun p3=>⟨fun e=>bad fun h=>?_,fun p4=>?_⟩⟩⟩⟩
    · have:=h.1; simp [within] at e; omega
    · have:=h.2.1; simp at e; omega
    · have:=h.2.2.1; simp [within] at e; omega
    · have:=h.2.2.2; simp [within] at e; omega
    rw [W_succ (n:=s.peers.length) (by omega) (by omega)]
    refine ⟨⟨k + 1,rfl,by omega,?_⟩,by omega⟩
    rw [take_succ hx]
    intro z hz
    rcases List.mem_append.mp hz with hz | hz
    · exact hp z hz
    · rw [List.mem_singleton] at hz; subst hz
      exact ⟨by simpa [within] using p1,by simpa using p2,by simpa [within] using p3,by simpa [within] using p4⟩
  · rw [List.take_of_length_le (by omega)] at hp
    exact codeE_iff ⟨fun h=>⟨e1,e2,e3,e4,by omega,hp,h⟩,fun h=>h.2.2.2.2.2.2⟩
def valS_c (s:Spk):PC Tryz.prog:=⟨82,[(.a [.k,.k,.k,(.s 4),(.s 3)])],[.agg [.int s.router,.int s.epoch,.int s.last,.sl 4 (s.items.map Itm.v) false,.sl 3 (s.peers.map Per.v) false]],valS_e (valS s),PSpec.of_ok fun ok=>(valS_p s ok).elim fun I0 h=>h.elim fun m0 h=>valS_ok s I0 m0 _ h,fnB_ok (by kernel_rfl)⟩
def valL_a (l:Lsn):Prop:=okL [.agg [.int l.router,.int l.epoch,.sl 4 (l.heard.map Hrd.v) false]]
def valL_n0 (l:Lsn) (t0:Int):NF:=⟨[(1,.k,.ref 0 0),(22,.k,.sl 4 (l.heard.map Hrd.v) false),(23,.k,.int ((l.heard.map Hrd.v).length:Int)),(24,.k,.int t0)],[.box (.agg [.int l.router,.int l.epoch,.sl 4 (l.heard.map Hrd.v) false])]⟩
def valL_s:Nat → Type
  | 0=>Int
  | _=>Unit
def valL_e (r:Int):AV:=.int r
def valL_vc (l:Lsn) (I0:Int → Prop) (m0:Int → Nat) (r0:Int):Prop:=
 Cl (within_c l.router 1 99)
 (br (!(within l.router 1 99))
 (Rf (valL_e (1)) ((1) = r0))
 (Cl (within_c l.epoch 1 1000000)
 (br (!(within l.epoch 1 1000000))
 (Rf (valL_e (1)) ((1) = r0))
 (br (decide (12 < ((l.heard.map Hrd.v).length:Int)))
 (Rf (valL_e (1)) ((1) = r0))
 (Nf (valL_n0 l (0)) [0] (I0 (0)) ∧ ∀ t0:Int,I0 t0 →
 br (decide (t0 < ((l.heard.map Hrd.v).length:Int)))
 (Rf (l.heard.map Hrd.v) (ck (decide (0 ≤ t0)) (ck (decide (t0 < (l.heard.length:Int)))
 (∀ x1,l.heard[t0.toNat]? = some x1 →
 Cl (within_c x1.router 1 99)
 (br (!(within x1.router 1 99))
 (Rf (valL_e (1)) ((1) = r0))
 (br (x1.router == l.router)
 (Rf (valL_e (1)) ((1) = r0))
 (Cl (within_c x1.epoch 1 1000000)
 (br (!(within x1.epoch 1 1000000))
 (Rf (valL_e (1)) ((1) = r0))
 (Cl (within_c x1.ver 0 1000000)
 (br (!(within x1.ver 0 1000000))
 (Rf (valL_e (1)) ((1) = r0))
 (Cl (itemsB_c x1.items x1.ver)
 (br (!(itemsB x1.items x1.ver))
 (Rf (valL_e (1)) ((1) = r0))
 (Nf (valL_n0 l (W (t0 + 1))) [0] (I0 (W (t0 + 1)) ∧ m0 (W (t0 + 1)) < m0 t0))))))))))))))
 (Cl (ascH_c l.heard)
 (Cl (codeE_c (ascB Hrd.router l.heard))
 (Rf (valL_e (codeE (ascB Hrd.router l.heard))) ((codeE (ascB Hrd.router l.heard)) = r0)))))))))
theorem valL_eq (l:Lsn) (I0:Int → Prop) (m0:Int → Nat) (r0:Int):mxP Tryz.prog 21 [.agg [.int l.router,.int l.epoch,.sl 4 (l.heard.map Hrd.v) false]] .k valL_e ((.callP (within_c l.router 1 99)
 (.br 112 (.ret (1))
 (.callP (within_c l.epoch 1 1000000)
 (.br 208 (.ret (1))
 (.br 288 (.ret (1))
 (.loop 0 (valL_n0 l) (I0) (m0) ((0):Int) [0] fun (t0:Int) =>
 (.br 17 (.el 17 Hrd.v l.heard fun x1 =>
 (.callP (within_c x1.router 1 99)
 (.br 161 (.ret (1))
 (.br 273 (.ret (1))
 (.callP (within_c x1.epoch 1 1000000)
 (.br 369 (.ret (1))
 (.callP (within_c x1.ver 0 1000000)
 (.br 465 (.ret (1))
 (.callP (itemsB_c x1.items x1.ver)
 (.br 577 (.ret (1))
 (.back 0 ((W (t0 + 1)):Int) [0])))))))))))
 (.callP (ascH_c l.heard)
 (.callP (codeE_c (ascB Hrd.router l.heard))
 (.ret (codeE (ascB Hrd.router l.heard)))))))))))):An Tryz.prog valL_s (Int)) r0 = valL_vc l I0 m0 r0:=by kernel_rfl
theorem valL_ok (l:Lsn) (I0:Int → Prop) (m0:Int → Nat) (r0:Int) (h:valL_vc l I0 m0 r0):PSpec Tryz.prog 21 [.agg [.int l.router,.int l.epoch,.sl 4 (l.heard.map Hrd.v) false]] (valL_e r0):=by
  have e:=valL_eq l I0 m0 r0
  rw [← e] at h
  exact mxP_ok (enc:=valL_e) h (AV.pureB_ok rfl)
theorem valL_p (l:Lsn) (ok:valL_a l):∃ I m,valL_vc l I m (valL l):=by
  simp only [valL_a,okU,Blk.ok,plainV,List.length_map] at ok
  refine ⟨fun t=>∃ k:Nat,t = k ∧ k ≤ l.heard.length ∧ ∀ h ∈ l.heard.take k,hrdOk l.router h,fun t=>l.heard.length - t.toNat,?_⟩
  simp only [valL_vc,vcU,rfU,List.length_map]
  have bad:¬ lsnOk l → 1 = valL l:=errIf_no
  refine ⟨fun e=>bad fun h=>?_,fun e1=>⟨fun e=>bad fun h=>?_,fun e2=>⟨fun e=>bad fun h=>?_,fun e5=>?_⟩⟩⟩
  · have:=h.1; simp [within] at e; omega
  · have:=h.2.1; simp [within] at e; omega
  · have:=h.2.2.1; omega
  have e1:1 ≤ l.router ∧ l.router ≤ 99:=by simpa [within] using e1
  have e2:1 ≤ l.epoch ∧ l.epoch ≤ 1000000:=by simpa [within] using e2
  refine ⟨⟨0,rfl,by omega,by simp⟩,?_⟩
  rintro _ ⟨k,rfl,hk,hp⟩
  simp only [Int.toNat_natCast]
  refine ⟨fun h1=>⟨by omega,by omega,fun x hx=>?_⟩,fun h1=>?_⟩
  · have bad:¬ hrdOk l.router x → 1 = valL l:=fun h=>bad fun e=>h (e.2.2.2.1 x (mem_of_get hx))
    refine ⟨fun e=>bad fun h=>?_,fun p1=>⟨fun e=>bad fun h=>?_,fun p2=>⟨fun e=>bad fun h=>?_,fun p3=>⟨fun e=>bad fun h=>?_,fun p4=>⟨fun e=>bad fun h=>?_,fun p5=>?_⟩⟩⟩⟩⟩
    · have:=h.1; simp [within] at e; omega
    · have:=h.2.1; simp at e; omega
    · have:=h.2.2.1; simp [within] at e; omega
    · have:=h.2.2.2.1; simp [within] at e; omega
    · have:=h.2.2.2.2; simp [itemsB,this] at e
    rw [W_succ (n:=l.heard.length) (by omega) (by omega)]
    refine ⟨⟨k + 1,rfl,by omega,?_⟩,by omega⟩
    rw [take_succ hx]
    intro z hz
    rcases List.mem_append.mp hz with hz | hz
    · exact hp z hz
    · rw [List.mem_singleton] at hz; subst hz
      exact ⟨by simpa [within] using p1,by simpa using p2,by simpa [within] using p3,by simpa [within] using p4,by simpa [itemsB] using p5⟩
  · rw [List.take_of_length_le (by omega)] at hp
    exact codeE_iff ⟨fun h=>⟨e1,e2,by omega,hp,h⟩,fun h=>h.2.2.2.2⟩
def valL_c (l:Lsn):PC Tryz.prog:=⟨21,[(.a [.k,.k,(.s 4)])],[.agg [.int l.router,.int l.epoch,.sl 4 (l.heard.map Hrd.v) false]],valL_e (valL l),PSpec.of_ok fun ok=>(valL_p l ok).elim fun I0 h=>h.elim fun m0 h=>valL_ok l I0 m0 _ h,fnB_ok (by kernel_rfl)⟩
def filtered_a (f:Flt):Prop:=okL [.agg [.int f.mode,.sl 1 (f.srcs.map AV.int) false]]
def filtered_s:Nat → Type
  | _=>Unit
def filtered_e (r:Flt):AV:=Flt.v r
def filtered_vc (f:Flt) (r0:Flt):Prop:=
 ∃ h1:f.srcs.length ≤ 1000000,
 Cl (cloneI_c f.srcs h1)
 (Rf (filtered_e (f)) ((f) = r0))
theorem filtered_eq (f:Flt) (r0:Flt):mxP Tryz.prog 93 [.agg [.int f.mode,.sl 1 (f.srcs.map AV.int) false]] (.a [.k,(.s 1)]) filtered_e ((.req 64 (f.srcs.length ≤ 1000000) fun h1 =>
 (.callP (cloneI_c f.srcs h1)
 (.ret (f)))):An Tryz.prog filtered_s (Flt)) r0 = filtered_vc f r0:=by kernel_rfl
theorem filtered_ok (f:Flt) (r0:Flt) (h:filtered_vc f r0):PSpec Tryz.prog 93 [.agg [.int f.mode,.sl 1 (f.srcs.map AV.int) false]] (filtered_e r0):=by
  have e:=filtered_eq f r0
  rw [← e] at h
  exact mxP_ok (enc:=filtered_e) h (AV.pureB_ok rfl)
theorem filtered_p (f:Flt) (h:f.srcs.length ≤ 1000000) (ok:filtered_a f):filtered_vc f f:=by
  simp only [filtered_vc,vcU,rfU,List.length_map]
  exact ⟨h,trivial⟩
def filtered_c (f:Flt) (h:f.srcs.length ≤ 1000000):PC Tryz.prog:=⟨93,[(.a [.k,(.s 1)])],[.agg [.int f.mode,.sl 1 (f.srcs.map AV.int) false]],filtered_e f,PSpec.of_ok fun ok=>filtered_ok f _ (filtered_p f h ok),fnB_ok (by kernel_rfl)⟩
def copied_a (l:(List Itm)) (without:Int):Prop:=okL [.sl 4 (l.map Itm.v) false,.int without]
def copied_n0 (l:(List Itm)) (without:Int) (t0:Int × (List Itm)):NF:=⟨[(1,.k,.int without),(5,.k,.vec 0),(8,.k,.sl 4 (l.map Itm.v) false),(9,.k,.int ((l.map Itm.v).length:Int)),(10,.k,.int t0.1)],[.vec 4 (t0.2.map Itm.v) (pureBL_map (fun _=>rfl) t0.2)]⟩
def copied_s:Nat → Type
  | 0=>Int × (List Itm)
  | _=>Unit
def copied_e (r:(List Itm)):AV:=.vec 0
def copied_b (r:(List Itm)):List (Option Blk):=[some (.vec 4 (r.map Itm.v))]
def copied_vc (l:(List Itm)) (without:Int) (I0:(Int × (List Itm)) → Prop) (m0:(Int × (List Itm)) → Nat) (r0:(List Itm)):Prop:=
 Nf (copied_n0 l without (0,[])) [80] (I0 (0,[])) ∧ ∀ t0:Int × (List Itm),I0 t0 →
 br (decide (t0.1 < ((l.map Itm.v).length:Int)))
 (Rf (l.map Itm.v) (ck (decide (0 ≤ t0.1)) (ck (decide (t0.1 < (l.length:Int)))
 (∀ x1,l[t0.1.toNat]? = some x1 →
 br (x1.grp != without)
 (∃ h2:(⟨x1.mode,x1.srcs⟩:Flt).srcs.length ≤ 1000000,
 Cl (filtered_c (⟨x1.mode,x1.srcs⟩:Flt) h2)
 (Rf (α:=List AV) (t0.2.map Itm.v) (Rf (α:=List AV) [.agg [.int x1.ver,.int x1.grp,.int x1.mode,.sl 1 (x1.srcs.map AV.int) false]]
 (ck (decide (t0.2.length + 1 ≤ 1000000))
 (Nf (copied_n0 l without (W (t0.1 + 1),t0.2 ++ [x1])) [273] (I0 (W (t0.1 + 1),t0.2 ++ [x1]) ∧ m0 (W (t0.1 + 1),t0.2 ++ [x1]) < m0 t0))))))
 (Nf (copied_n0 l without (W (t0.1 + 1),t0.2)) [0] (I0 (W (t0.1 + 1),t0.2) ∧ m0 (W (t0.1 + 1),t0.2) < m0 t0))))))
 (Nf ⟨[(4,.k,.vec 0)],[.vec 4 (t0.2.map Itm.v) (pureBL_map (fun _=>rfl) t0.2)]⟩ [0] (Rf (copied_e t0.2) (Rf (copied_b t0.2) (t0.2 = r0))))
theorem copied_eq (l:(List Itm)) (without:Int) (I0:(Int × (List Itm)) → Prop) (m0:(Int × (List Itm)) → Nat) (r0:(List Itm)):mxH Tryz.prog 91 [.sl 4 (l.map Itm.v) false,.int without] [] .k copied_e copied_b ((.cmdL (.nilT 5 4) (.loop 0 (copied_n0 l without) (I0) (m0) ((0,[]):Int × (List Itm)) [80] fun (t0:Int × (List Itm)) =>
 (.br 17 (.el 17 Itm.v l fun x1 =>
 (.br 145 (.req 177 ((⟨x1.mode,x1.srcs⟩:Flt).srcs.length ≤ 1000000) fun h2 =>
 (.callP (filtered_c (⟨x1.mode,x1.srcs⟩:Flt) h2)
 (.app 273 Itm.v t0.2 [x1]
 (.back 0 ((W (t0.1 + 1),t0.2 ++ [x1]):Int × (List Itm)) [273]))))
 (.back 0 ((W (t0.1 + 1),t0.2):Int × (List Itm)) [0])))
 (.retH t0.2 ⟨[(4,.k,.vec 0)],[.vec 4 (t0.2.map Itm.v) (pureBL_map (fun _=>rfl) t0.2)]⟩ [0])))):An Tryz.prog copied_s ((List Itm))) r0 = copied_vc l without I0 m0 r0:=by kernel_rfl
theorem copied_ok (l:(List Itm)) (without:Int) (I0:(Int × (List Itm)) → Prop) (m0:(Int × (List Itm)) → Nat) (r0:(List Itm)) (h:copied_vc l without I0 m0 r0):HSpec Tryz.prog 91 [.sl 4 (l.map Itm.v) false,.int without] [] (copied_e r0) (copied_b r0):=by
  have e:=copied_eq l without I0 m0 r0
  rw [← e] at h
  exact mxH_ok (enc:=copied_e) (hB:=copied_b) h
theorem copied_p (l:List Itm) (wo:Int) (h:okItms l) (ok:copied_a l wo):∃ I m,copied_vc l wo I m (without wo l):=by
  obtain ⟨h1,h2⟩:=h
  refine ⟨fun t=>∃ k:Nat,t = ((k:Int),without wo (l.take k)) ∧ k ≤ l.length,fun t=>l.length - t.1.toNat,?_⟩
  simp only [copied_vc,vcU,rfU,List.length_map]
  refine ⟨⟨0,by simp [without],by omega⟩,?_⟩
  rintro _ ⟨k,rfl,hk⟩
  simp only [Int.toNat_natCast]
  refine ⟨fun h3=>⟨by omega,by omega,fun x hx=>?_⟩,fun h3=>?_⟩
  · have hl:(without wo (l.take k)).length ≤ 900000:=Nat.le_trans (List.length_filter_le _ _) (by simp; omega)
    rw [W_succ (n:=l.length) (by omega) (by omega)]
    refine ⟨fun e=>⟨h2 x (mem_of_get hx),by omega,⟨k + 1,?_,by omega⟩,by omega⟩,fun e=>⟨⟨k + 1,?_,by omega⟩,by omega⟩⟩
    · rw [take_succ hx]; simp at e; simp [without,e]
    · rw [take_succ hx]; simp at e; simp [without,e]
  · rw [List.take_of_length_le (by omega)]
def copied_h (l:(List Itm)) (without:Int) (h:okItms l):HC Tryz.prog:=⟨91,[(.s 4),.k],[.sl 4 (l.map Itm.v) false,.int without],[],copied_e (Go.Proofs.YtglfecmdoekabaaGreatDoor.without without l),copied_b (Go.Proofs.YtglfecmdoekabaaGreatDoor.without without l),HSpec.of_okh fun ok _=>(copied_p l without h ok).elim fun I0 h=>h.elim fun m0 h=>copied_ok l without I0 m0 _ h,fnB_ok (by kernel_rfl),HcOk.of (by simp [hcB,belBL,AV.belB,allB,okBk,okBkO,copied_e,copied_b,pureBL_map (v:=Itm.v) (fun _=>rfl)])⟩
def fresh (p:List Int):List Per:=p.map fun x=>⟨x,0,0⟩
def fresh_a (routers:(List Int)):Prop:=okL [.sl 1 (routers.map AV.int) false]
def fresh_n0 (routers:(List Int)) (t0:Int × (List Per)):NF:=⟨[(3,.k,.vec 0),(6,.k,.sl 1 (routers.map AV.int) false),(7,.k,.int ((routers.map AV.int).length:Int)),(8,.k,.int t0.1)],[.vec 3 (t0.2.map Per.v) (pureBL_map (fun _=>rfl) t0.2)]⟩
def fresh_s:Nat → Type
  | 0=>Int × (List Per)
  | _=>Unit
def fresh_e (r:(List Per)):AV:=.vec 0
def fresh_b (r:(List Per)):List (Option Blk):=[some (.vec 3 (r.map Per.v))]
def fresh_vc (routers:(List Int)) (I0:(Int × (List Per)) → Prop) (m0:(Int × (List Per)) → Nat) (r0:(List Per)):Prop:=
 Nf (fresh_n0 routers (0,[])) [80] (I0 (0,[])) ∧ ∀ t0:Int × (List Per),I0 t0 →
 br (decide (t0.1 < ((routers.map AV.int).length:Int)))
 (Rf (routers.map AV.int) (ck (decide (0 ≤ t0.1)) (ck (decide (t0.1 < (routers.length:Int)))
 (∀ x1,routers[t0.1.toNat]? = some x1 →
 Rf (α:=List AV) (t0.2.map Per.v) (Rf (α:=List AV) [.agg [.int x1,.int 0,.int 0]]
 (ck (decide (t0.2.length + 1 ≤ 1000000))
 (Nf (fresh_n0 routers (W (t0.1 + 1),t0.2 ++ [(⟨x1,0,0⟩:Per)])) [129] (I0 (W (t0.1 + 1),t0.2 ++ [(⟨x1,0,0⟩:Per)]) ∧ m0 (W (t0.1 + 1),t0.2 ++ [(⟨x1,0,0⟩:Per)]) < m0 t0))))))))
 (Nf ⟨[(2,.k,.vec 0)],[.vec 3 (t0.2.map Per.v) (pureBL_map (fun _=>rfl) t0.2)]⟩ [0] (Rf (fresh_e t0.2) (Rf (fresh_b t0.2) (t0.2 = r0))))
theorem fresh_eq (routers:(List Int)) (I0:(Int × (List Per)) → Prop) (m0:(Int × (List Per)) → Nat) (r0:(List Per)):mxH Tryz.prog 127 [.sl 1 (routers.map AV.int) false] [] .k fresh_e fresh_b ((.cmdL (.nilT 3 3) (.loop 0 (fresh_n0 routers) (I0) (m0) ((0,[]):Int × (List Per)) [80] fun (t0:Int × (List Per)) =>
 (.br 17 (.el 17 AV.int routers fun x1 =>
 (.app 129 Per.v t0.2 [(⟨x1,0,0⟩:Per)]
 (.back 0 ((W (t0.1 + 1),t0.2 ++ [(⟨x1,0,0⟩:Per)]):Int × (List Per)) [129])))
 (.retH t0.2 ⟨[(2,.k,.vec 0)],[.vec 3 (t0.2.map Per.v) (pureBL_map (fun _=>rfl) t0.2)]⟩ [0])))):An Tryz.prog fresh_s ((List Per))) r0 = fresh_vc routers I0 m0 r0:=by kernel_rfl
theorem fresh_ok (routers:(List Int)) (I0:(Int × (List Per)) → Prop) (m0:(Int × (List Per)) → Nat) (r0:(List Per)) (h:fresh_vc routers I0 m0 r0):HSpec Tryz.prog 127 [.sl 1 (routers.map AV.int) false] [] (fresh_e r0) (fresh_b r0):=by
  have e:=fresh_eq routers I0 m0 r0
  rw [← e] at h
  exact mxH_ok (enc:=fresh_e) (hB:=fresh_b) h
theorem fresh_p (p:List Int) (h:p.length ≤ 1000000) (ok:fresh_a p):∃ I m,fresh_vc p I m (fresh p):=by
  refine ⟨fun t=>∃ k:Nat,t = ((k:Int),fresh (p.take k)) ∧ k ≤ p.length,fun t=>p.length - t.1.toNat,?_⟩
  simp only [fresh_vc,vcU,rfU,List.length_map]
  refine ⟨⟨0,by simp [fresh],by omega⟩,?_⟩
  rintro _ ⟨k,rfl,hk⟩
  simp only [Int.toNat_natCast]
  refine ⟨fun h3=>⟨by omega,by omega,fun x hx=>?_⟩,fun h3=>?_⟩
  · rw [W_succ (n:=p.length) (by omega) (by omega)]
    refine ⟨by simp [fresh]; omega,⟨k + 1,?_,by omega⟩,by omega⟩
    rw [take_succ hx]; simp [fresh]
  · rw [List.take_of_length_le (by omega)]
def fresh_h (routers:(List Int)) (h:routers.length ≤ 1000000):HC Tryz.prog:=⟨127,[(.s 1)],[.sl 1 (routers.map AV.int) false],[],fresh_e (fresh routers),fresh_b (fresh routers),HSpec.of_okh fun ok _=>(fresh_p routers h ok).elim fun I0 h=>h.elim fun m0 h=>fresh_ok routers I0 m0 _ h,fnB_ok (by kernel_rfl),HcOk.of (by simp [hcB,belBL,AV.belB,allB,okBk,okBkO,fresh_e,fresh_b,pureBL_map (v:=AV.int) (fun _=>rfl),pureBL_map (v:=Per.v) (fun _=>rfl)])⟩
def cloneP_a (s:(List Per)):Prop:=okL [.sl 3 (s.map Per.v) false]
def cloneP_s:Nat → Type
  | _=>Unit
def cloneP_e (r:(List Per)):AV:=.vec 0
def cloneP_b (r:(List Per)):List (Option Blk):=[some (.vec 3 (r.map Per.v))]
def cloneP_vc (s:(List Per)) (r0:(List Per)):Prop:=
 ∀ b1:Bool,((s.map Per.v) ≠ [] → b1 = false) →
 br (b1 != false)
 (Nf ⟨[(2,.k,.vec 0)],[.vec 3 [] rfl]⟩ [64] (Rf (cloneP_e []) (Rf (cloneP_b []) ([] = r0))))
 (Rf (α:=List AV) [] (Rf (α:=List AV) (s.map Per.v)
 (ck (decide (0 + s.length ≤ 1000000))
 (Nf ⟨[(2,.k,.vec 0)],[.vec 3 (s.map Per.v) (pureBL_map (fun _=>rfl) s)]⟩ [80] (Rf (cloneP_e s) (Rf (cloneP_b s) (s = r0)))))))
theorem cloneP_eq (s:(List Per)) (r0:(List Per)):mxH Tryz.prog 97 [.sl 3 (s.map Per.v) false] [] .k cloneP_e cloneP_b ((.br 48 (.cmdL (.nilT 2 3) (.retH [] ⟨[(2,.k,.vec 0)],[.vec 3 [] rfl]⟩ [64]))
 (.app 80 Per.v [] s
 (.retH s ⟨[(2,.k,.vec 0)],[.vec 3 (s.map Per.v) (pureBL_map (fun _=>rfl) s)]⟩ [80]))):An Tryz.prog cloneP_s ((List Per))) r0 = cloneP_vc s r0:=by kernel_rfl
theorem cloneP_ok (s:(List Per)) (r0:(List Per)) (h:cloneP_vc s r0):HSpec Tryz.prog 97 [.sl 3 (s.map Per.v) false] [] (cloneP_e r0) (cloneP_b r0):=by
  have e:=cloneP_eq s r0
  rw [← e] at h
  exact mxH_ok (enc:=cloneP_e) (hB:=cloneP_b) h
theorem cloneP_p (s:List Per) (h:s.length ≤ 1000000) (ok:cloneP_a s):cloneP_vc s s:=by
  simp only [cloneP_vc,vcU,rfU,List.length_map]
  intro b hb
  refine ⟨fun h1=>?_,fun _=>by first | omega | exact ⟨by omega,trivial⟩ | (trace_state; simpa using h)⟩
  cases s with
  | nil=>rfl
  | cons x s=>simp at hb; simp [hb] at h1
def cloneP_h (s:(List Per)) (h:s.length ≤ 1000000):HC Tryz.prog:=⟨97,[(.s 3)],[.sl 3 (s.map Per.v) false],[],cloneP_e s,cloneP_b s,HSpec.of_okh fun ok _=>cloneP_ok s _ (cloneP_p s h ok),fnB_ok (by kernel_rfl),HcOk.of (by simp [hcB,belBL,AV.belB,allB,okBk,okBkO,cloneP_e,cloneP_b,pureBL_map (v:=Per.v) (fun _=>rfl)])⟩
def toldF (l:List Itm) (g:Int):Flt:=⟨(told l g).1,(told l g).2⟩
theorem find_at {α:Type} {p:α → Bool} {l:List α} {k:Nat} {x:α} (h:∀ y ∈ l.take k,p y = false) (hx:l[k]? = some x) (hp:p x = true):l.find? p = some x:=by
  rw [List.find?_eq_some_iff_getElem]
  have hk:=lt_of_get hx
  rw [List.getElem?_eq_getElem hk] at hx
  refine ⟨hp,k,hk,Option.some.inj hx,fun j hj=>?_⟩
  rw [h _ (List.mem_take_iff_getElem.mpr ⟨j,by omega,rfl⟩)]; rfl
def toldF_a (l:(List Itm)) (group:Int):Prop:=okL [.sl 4 (l.map Itm.v) false,.int group]
def toldF_n0 (l:(List Itm)) (group:Int) (t0:Int):NF:=⟨[(1,.k,.int group),(4,.k,.ref 0 0),(7,.k,.sl 4 (l.map Itm.v) false),(8,.k,.int ((l.map Itm.v).length:Int)),(9,.k,.int t0)],[.box (.agg [.int 0,.sl 0 [] true])]⟩
def toldF_s:Nat → Type
  | 0=>Int
  | _=>Unit
def toldF_e (r:Flt):AV:=Flt.v r
def toldF_vc (l:(List Itm)) (group:Int) (I0:Int → Prop) (m0:Int → Nat) (r0:Flt):Prop:=
 Nf (toldF_n0 l group (0)) [0] (I0 (0)) ∧ ∀ t0:Int,I0 t0 →
 br (decide (t0 < ((l.map Itm.v).length:Int)))
 (Rf (l.map Itm.v) (ck (decide (0 ≤ t0)) (ck (decide (t0 < (l.length:Int)))
 (∀ x1,l[t0.toNat]? = some x1 →
 br (x1.grp == group)
 (Rf (toldF_e ((⟨x1.mode,x1.srcs⟩:Flt))) (((⟨x1.mode,x1.srcs⟩:Flt)) = r0))
 (Nf (toldF_n0 l group (W (t0 + 1))) [0] (I0 (W (t0 + 1)) ∧ m0 (W (t0 + 1)) < m0 t0))))))
 (Rf (toldF_e ((⟨1,[]⟩:Flt))) (((⟨1,[]⟩:Flt)) = r0))
theorem toldF_eq (l:(List Itm)) (group:Int) (I0:Int → Prop) (m0:Int → Nat) (r0:Flt):mxP Tryz.prog 129 [.sl 4 (l.map Itm.v) false,.int group] (.a [.k,(.s 1)]) toldF_e ((.loop 0 (toldF_n0 l group) (I0) (m0) ((0):Int) [0] fun (t0:Int) =>
 (.br 17 (.el 17 Itm.v l fun x1 =>
 (.br 145 (.ret ((⟨x1.mode,x1.srcs⟩:Flt)))
 (.back 0 ((W (t0 + 1)):Int) [0])))
 (.ret ((⟨1,[]⟩:Flt))))):An Tryz.prog toldF_s (Flt)) r0 = toldF_vc l group I0 m0 r0:=by kernel_rfl
theorem toldF_ok (l:(List Itm)) (group:Int) (I0:Int → Prop) (m0:Int → Nat) (r0:Flt) (h:toldF_vc l group I0 m0 r0):PSpec Tryz.prog 129 [.sl 4 (l.map Itm.v) false,.int group] (toldF_e r0):=by
  have e:=toldF_eq l group I0 m0 r0
  rw [← e] at h
  exact mxP_ok (enc:=toldF_e) h (AV.pureB_ok rfl)
theorem toldF_p (l:List Itm) (g:Int) (ok:toldF_a l g):∃ I m,toldF_vc l g I m (toldF l g):=by
  simp only [toldF_a,okU,Blk.ok,plainV,List.length_map] at ok
  refine ⟨fun t=>∃ k:Nat,t = k ∧ k ≤ l.length ∧ ∀ x ∈ l.take k,decide (x.grp = g) = false,fun t=>l.length - t.toNat,?_⟩
  simp only [toldF_vc,vcU,rfU,List.length_map]
  refine ⟨⟨0,rfl,by omega,by simp⟩,?_⟩
  rintro _ ⟨k,rfl,hk,h⟩
  simp only [Int.toNat_natCast]
  have h:∀ x ∈ l.take k,decide (x.grp = g) = false:=fun x hx=>decide_eq_false (h x hx)
  refine ⟨fun h1=>⟨by omega,by omega,fun x hx=>⟨fun e=>?_,fun e=>?_⟩⟩,fun h1=>?_⟩
  · rw [toldF,told,find_at h hx (by simpa using e)]
  · rw [W_succ (n:=l.length) (by omega) (by omega)]
    refine ⟨⟨k + 1,rfl,by omega,?_⟩,by omega⟩
    rw [take_succ hx]
    intro z hz
    rcases List.mem_append.mp hz with hz | hz
    · simpa using h z hz
    · rw [List.mem_singleton] at hz; subst hz; simpa using e
  · rw [List.take_of_length_le (by omega)] at h
    rw [toldF,told,List.find?_eq_none.mpr fun x hx=>by rw [h x hx]; simp]
def toldF_c (l:(List Itm)) (group:Int):PC Tryz.prog:=⟨129,[(.s 4),.k],[.sl 4 (l.map Itm.v) false,.int group],toldF_e (toldF l group),PSpec.of_ok fun ok=>(toldF_p l group ok).elim fun I0 h=>h.elim fun m0 h=>toldF_ok l group I0 m0 _ h,fnB_ok (by kernel_rfl)⟩
end Go.Proofs.YtglfecmdoekabaaGreatDoor

namespace Go.Proofs.YtglfecmdoekabaaGreatDoor
open Go Go.Am
set_option linter.unusedVariables false
set_option linter.unusedSimpArgs false
def cmpP (p:Per) (r:Int):Int:=cmpI p.router r
def cmpP_a (p:Per) (r:Int):Prop:=okL [.agg [.int p.router,.int p.epoch,.int p.acked],.int r]
def cmpP_s:Nat → Type
  | _=>Unit
def cmpP_e (r:Int):AV:=.int r
def cmpP_vc (p:Per) (r:Int) (r0:Int):Prop:=
 Cl (cmpI_c p.router r)
 (Rf (cmpP_e (cmpI p.router r)) ((cmpI p.router r) = r0))
theorem cmpP_eq (p:Per) (r:Int) (r0:Int):mxP Tryz.prog 148 [.agg [.int p.router,.int p.epoch,.int p.acked],.int r] .k cmpP_e ((.callP (cmpI_c p.router r)
 (.ret (cmpI p.router r))):An Tryz.prog cmpP_s (Int)) r0 = cmpP_vc p r r0:=by kernel_rfl
theorem cmpP_ok (p:Per) (r:Int) (r0:Int) (h:cmpP_vc p r r0):PSpec Tryz.prog 148 [.agg [.int p.router,.int p.epoch,.int p.acked],.int r] (cmpP_e r0):=by
  have e:=cmpP_eq p r r0
  rw [← e] at h
  exact mxP_ok (enc:=cmpP_e) h (AV.pureB_ok rfl)
theorem cmpP_p (p:Per) (r:Int) (ok:cmpP_a p r):cmpP_vc p r (cmpP p r):=by
  simp only [cmpP_vc,vcU,rfU,List.length_map]
  rfl
def cmpP_c (p:Per) (r:Int):PC Tryz.prog:=⟨148,[.k,.k],[.agg [.int p.router,.int p.epoch,.int p.acked],.int r],cmpP_e (cmpP p r),PSpec.of_ok fun ok=>cmpP_ok p r _ (cmpP_p p r ok),fnB_ok (by kernel_rfl)⟩
def cmpH (p:Hrd) (r:Int):Int:=cmpI p.router r
def cmpH_a (h_:Hrd) (r:Int):Prop:=okL [.agg [.int h_.router,.int h_.epoch,.int h_.ver,.sl 4 (h_.items.map Itm.v) false],.int r]
def cmpH_s:Nat → Type
  | _=>Unit
def cmpH_e (r:Int):AV:=.int r
def cmpH_vc (h_:Hrd) (r:Int) (r0:Int):Prop:=
 Cl (cmpI_c h_.router r)
 (Rf (cmpH_e (cmpI h_.router r)) ((cmpI h_.router r) = r0))
theorem cmpH_eq (h_:Hrd) (r:Int) (r0:Int):mxP Tryz.prog 138 [.agg [.int h_.router,.int h_.epoch,.int h_.ver,.sl 4 (h_.items.map Itm.v) false],.int r] .k cmpH_e ((.callP (cmpI_c h_.router r)
 (.ret (cmpI h_.router r))):An Tryz.prog cmpH_s (Int)) r0 = cmpH_vc h_ r r0:=by kernel_rfl
theorem cmpH_ok (h_:Hrd) (r:Int) (r0:Int) (h:cmpH_vc h_ r r0):PSpec Tryz.prog 138 [.agg [.int h_.router,.int h_.epoch,.int h_.ver,.sl 4 (h_.items.map Itm.v) false],.int r] (cmpH_e r0):=by
  have e:=cmpH_eq h_ r r0
  rw [← e] at h
  exact mxP_ok (enc:=cmpH_e) h (AV.pureB_ok rfl)
theorem cmpH_p (p:Hrd) (r:Int) (ok:cmpH_a p r):cmpH_vc p r (cmpH p r):=by
  simp only [cmpH_vc,vcU,rfU,List.length_map]
  rfl
def cmpH_c (h_:Hrd) (r:Int):PC Tryz.prog:=⟨138,[(.a [.k,.k,.k,(.s 4)]),.k],[.agg [.int h_.router,.int h_.epoch,.int h_.ver,.sl 4 (h_.items.map Itm.v) false],.int r],cmpH_e (cmpH h_ r),PSpec.of_ok fun ok=>cmpH_ok h_ r _ (cmpH_p h_ r ok),fnB_ok (by kernel_rfl)⟩
theorem half (i j:Nat) (h:i ≤ j) (hj:j ≤ 1000000):W ((IntKind.u64.wrap (W ((i:Int) + j))).fdiv 2) = (((i + j) / 2:Nat):Int):=by
  have e1:W ((i:Int) + j) = ((i + j:Nat):Int):=W_eq ⟨by omega,by omega⟩
  rw [e1]
  have e2:IntKind.u64.wrap ((i + j:Nat):Int) = ((i + j:Nat):Int):=by simp [IntKind.wrap,IntKind.signed,IntKind.bits]; omega
  rw [e2,show Int.fdiv ((i + j:Nat):Int) 2 = (((i + j) / 2:Nat):Int) by rw [Int.fdiv_eq_ediv_of_nonneg _ (by omega)]; rfl]
  exact W_eq ⟨by omega,by omega⟩
theorem idx_eq {α:Type} {key:α → Int} {l:List α} {r:Int} {i:Nat} (hi:i ≤ l.length) (h1:∀ k x,k < i → l[k]? = some x → key x < r) (h2:∀ k x,i ≤ k → l[k]? = some x → r ≤ key x) :
    l.findIdx (fun p=>!decide (key p < r)) = i:=by
  by_cases e:i = l.length
  · subst e
    rw [List.findIdx_eq_length]
    intro x hx
    obtain ⟨k,hk,rfl⟩:=List.mem_iff_getElem.mp hx
    have:=h1 k _ hk (List.getElem?_eq_getElem hk)
    simp [this]
  · rw [List.findIdx_eq (by omega)]
    refine ⟨?_,fun j hj=>?_⟩
    · have:=h2 i _ (Nat.le_refl _) (List.getElem?_eq_getElem (by omega))
      simp; omega
    · have:=h1 j _ hj (List.getElem?_eq_getElem (by omega))
      simp [this]
theorem getD_some {α:Type} {l:List α} {i:Nat} {x d:α} (h:l[i]? = some x):l.getD i d = x:=by rw [List.getD,h]; rfl
theorem cmp_lt (x y:Int):cmpI x y < 0 ↔ x < y:=by
  unfold cmpI; split
  · simp_all
  · split <;> simp_all
theorem cmp_eq (x y:Int):cmpI x y = 0 ↔ x = y:=by
  unfold cmpI; split
  · simp; omega
  · split
    · simp; omega
    · simp; omega
def bsP_a (x:(List Per)) (target:Int):Prop:=okL [.sl 3 (x.map Per.v) false,.int target,.func 148 []]
def bsP_n0 (x:(List Per)) (target:Int) (t0:Int × Int):NF:=⟨[(0,.k,.sl 3 (x.map Per.v) false),(1,.k,.int target),(2,.k,.func 148 []),(8,.k,.int ((x.map Per.v).length:Int)),(9,.k,.int t0.1),(10,.k,.int t0.2)],[]⟩
def bsP_s:Nat → Type
  | 0=>Int × Int
  | _=>Unit
def bsP_e (r:Int × Bool):AV:=.tup [.int r.1,.bool r.2]
def bsP_vc (x:(List Per)) (target:Int) (I0:(Int × Int) → Prop) (m0:(Int × Int) → Nat) (r0:Int × Bool):Prop:=
 Nf (bsP_n0 x target (0,((x.map Per.v).length:Int))) [] (I0 (0,((x.map Per.v).length:Int))) ∧ ∀ t0:Int × Int,I0 t0 →
 br (decide (t0.1 < t0.2))
 (Rf (x.map Per.v) (ck (decide (0 ≤ (W (Int.fdiv (IntKind.u64.wrap (W (t0.1 + t0.2))) 2)))) (ck (decide ((W (Int.fdiv (IntKind.u64.wrap (W (t0.1 + t0.2))) 2)) < (x.length:Int)))
 (∀ x1,x[(W (Int.fdiv (IntKind.u64.wrap (W (t0.1 + t0.2))) 2)).toNat]? = some x1 →
 Cl (cmpP_c x1 target)
 (br (decide ((cmpP x1 target) < 0))
 (Nf (bsP_n0 x target (W ((W (Int.fdiv (IntKind.u64.wrap (W (t0.1 + t0.2))) 2)) + 1),t0.2)) [] (I0 (W ((W (Int.fdiv (IntKind.u64.wrap (W (t0.1 + t0.2))) 2)) + 1),t0.2) ∧ m0 (W ((W (Int.fdiv (IntKind.u64.wrap (W (t0.1 + t0.2))) 2)) + 1),t0.2) < m0 t0))
 (Nf (bsP_n0 x target (t0.1,W (Int.fdiv (IntKind.u64.wrap (W (t0.1 + t0.2))) 2))) [] (I0 (t0.1,W (Int.fdiv (IntKind.u64.wrap (W (t0.1 + t0.2))) 2)) ∧ m0 (t0.1,W (Int.fdiv (IntKind.u64.wrap (W (t0.1 + t0.2))) 2)) < m0 t0)))))))
 (br (decide (t0.1 < ((x.map Per.v).length:Int)))
 (Rf (x.map Per.v) (ck (decide (0 ≤ t0.1)) (ck (decide (t0.1 < (x.length:Int)))
 (∀ x2,x[t0.1.toNat]? = some x2 →
 Cl (cmpP_c x2 target)
 (Rf (bsP_e (t0.1,(cmpP x2 target) == 0)) ((t0.1,(cmpP x2 target) == 0) = r0))))))
 (Rf (bsP_e (t0.1,false)) ((t0.1,false) = r0)))
theorem bsP_eq (x:(List Per)) (target:Int) (I0:(Int × Int) → Prop) (m0:(Int × Int) → Nat) (r0:Int × Bool):mxP Tryz.prog 147 [.sl 3 (x.map Per.v) false,.int target,.func 148 []] .k bsP_e ((.loop 0 (bsP_n0 x target) (I0) (m0) ((0,((x.map Per.v).length:Int)):Int × Int) [] fun (t0:Int × Int) =>
 (.br 48 (.el 208 Per.v x fun x1 =>
 (.callP (cmpP_c x1 target)
 (.br 288 (.back 0 ((W ((W (Int.fdiv (IntKind.u64.wrap (W (t0.1 + t0.2))) 2)) + 1),t0.2):Int × Int) [])
 (.back 0 ((t0.1,W (Int.fdiv (IntKind.u64.wrap (W (t0.1 + t0.2))) 2)):Int × Int) []))))
 (.br 128 (.el 176 Per.v x fun x2 =>
 (.callP (cmpP_c x2 target)
 (.ret (t0.1,(cmpP x2 target) == 0))))
 (.ret (t0.1,false))))):An Tryz.prog bsP_s (Int × Bool)) r0 = bsP_vc x target I0 m0 r0:=by kernel_rfl
theorem bsP_ok (x:(List Per)) (target:Int) (I0:(Int × Int) → Prop) (m0:(Int × Int) → Nat) (r0:Int × Bool) (h:bsP_vc x target I0 m0 r0):PSpec Tryz.prog 147 [.sl 3 (x.map Per.v) false,.int target,.func 148 []] (bsP_e r0):=by
  have e:=bsP_eq x target I0 m0 r0
  rw [← e] at h
  exact mxP_ok (enc:=bsP_e) h (AV.pureB_ok rfl)
theorem bsP_p (l:List Per) (r:Int) (h:l.Pairwise fun x y=>x.router < y.router) (hl:l.length ≤ 1000000) (ok:bsP_a l r):∃ I m,bsP_vc l r I m ((posP l r:Int),decide (hitP l r)):=by
  simp only [bsP_a,okU,Blk.ok,plainV,List.length_map] at ok
  refine ⟨fun t=>∃ i j:Nat,t = ((i:Int),(j:Int)) ∧ i ≤ j ∧ j ≤ l.length ∧ (∀ k x,k < i → l[k]? = some x → x.router < r) ∧ (∀ k x,j ≤ k → l[k]? = some x → r ≤ x.router),fun t=>(t.2 - t.1).toNat,?_⟩
  simp only [bsP_vc,vcU,rfU,List.length_map]
  refine ⟨⟨0,l.length,rfl,by omega,by omega,fun k x hk=>by omega,fun k x hk hx=>by have:=lt_of_get hx; omega⟩,?_⟩
  rintro _ ⟨i,j,rfl,hij,hj,h1,h2⟩
  refine ⟨fun h3=>?_,fun h3=>?_⟩
  · have h3:i < j:=by simpa using h3
    simp only [half i j hij (by omega),Int.toNat_natCast]
    refine ⟨by omega,by omega,fun x hx=>⟨fun e=>?_,fun e=>?_⟩⟩
    · rw [cmpP,cmp_lt] at e
      rw [W_succ (n:=l.length) (by omega) (by omega)]
      refine ⟨⟨_,_,rfl,by omega,hj,fun k y hk hy=>?_,h2⟩,by omega⟩
      by_cases e':k = (i + j) / 2
      · subst e'; rw [hx] at hy; cases hy; exact e
      · have:=pw_get h (show k < (i + j) / 2 by omega) hy hx; omega
    · rw [cmpP,cmp_lt] at e
      refine ⟨⟨_,_,rfl,by omega,by omega,h1,fun k y hk hy=>?_⟩,by omega⟩
      by_cases e':k = (i + j) / 2
      · subst e'; rw [hx] at hy; cases hy; omega
      · have:=pw_get h (show (i + j) / 2 < k by omega) hx hy; omega
  · have h3:i = j:=by simp at h3; omega
    subst h3
    have hp:posP l r = i:=idx_eq (key:=Per.router) hj h1 h2
    simp only [Int.toNat_natCast]
    refine ⟨fun h4=>⟨by omega,by omega,fun x hx=>?_⟩,fun h4=>?_⟩
    · have e:hitP l r ↔ x.router = r:=by rw [hitP,hp,getD_some hx]; exact ⟨fun h=>h.2,fun h=>⟨lt_of_get hx,h⟩⟩
      rw [hp]
      refine congrArg _ ?_
      rw [cmpP,Bool.eq_iff_iff,decide_eq_true_iff,e,beq_iff_eq,cmp_eq]
    · rw [hp,decide_eq_false]
      rw [hitP,hp]; intro h; omega
def bsP_c (x:(List Per)) (target:Int) (h:x.Pairwise fun x y=>x.router < y.router) (hl:x.length ≤ 1000000):PC Tryz.prog:=⟨147,[(.s 3),.k,.k],[.sl 3 (x.map Per.v) false,.int target,.func 148 []],bsP_e ((posP x target:Int),decide (hitP x target)),PSpec.of_ok fun ok=>(bsP_p x target h hl ok).elim fun I0 h=>h.elim fun m0 h=>bsP_ok x target I0 m0 _ h,fnB_ok (by kernel_rfl)⟩
def bsH_a (x:(List Hrd)) (target:Int):Prop:=okL [.sl 4 (x.map Hrd.v) false,.int target,.func 138 []]
def bsH_n0 (x:(List Hrd)) (target:Int) (t0:Int × Int):NF:=⟨[(0,.k,.sl 4 (x.map Hrd.v) false),(1,.k,.int target),(2,.k,.func 138 []),(8,.k,.int ((x.map Hrd.v).length:Int)),(9,.k,.int t0.1),(10,.k,.int t0.2)],[]⟩
def bsH_s:Nat → Type
  | 0=>Int × Int
  | _=>Unit
def bsH_e (r:Int × Bool):AV:=.tup [.int r.1,.bool r.2]
def bsH_vc (x:(List Hrd)) (target:Int) (I0:(Int × Int) → Prop) (m0:(Int × Int) → Nat) (r0:Int × Bool):Prop:=
 Nf (bsH_n0 x target (0,((x.map Hrd.v).length:Int))) [] (I0 (0,((x.map Hrd.v).length:Int))) ∧ ∀ t0:Int × Int,I0 t0 →
 br (decide (t0.1 < t0.2))
 (Rf (x.map Hrd.v) (ck (decide (0 ≤ (W (Int.fdiv (IntKind.u64.wrap (W (t0.1 + t0.2))) 2)))) (ck (decide ((W (Int.fdiv (IntKind.u64.wrap (W (t0.1 + t0.2))) 2)) < (x.length:Int)))
 (∀ x1,x[(W (Int.fdiv (IntKind.u64.wrap (W (t0.1 + t0.2))) 2)).toNat]? = some x1 →
 Cl (cmpH_c x1 target)
 (br (decide ((cmpH x1 target) < 0))
 (Nf (bsH_n0 x target (W ((W (Int.fdiv (IntKind.u64.wrap (W (t0.1 + t0.2))) 2)) + 1),t0.2)) [] (I0 (W ((W (Int.fdiv (IntKind.u64.wrap (W (t0.1 + t0.2))) 2)) + 1),t0.2) ∧ m0 (W ((W (Int.fdiv (IntKind.u64.wrap (W (t0.1 + t0.2))) 2)) + 1),t0.2) < m0 t0))
 (Nf (bsH_n0 x target (t0.1,W (Int.fdiv (IntKind.u64.wrap (W (t0.1 + t0.2))) 2))) [] (I0 (t0.1,W (Int.fdiv (IntKind.u64.wrap (W (t0.1 + t0.2))) 2)) ∧ m0 (t0.1,W (Int.fdiv (IntKind.u64.wrap (W (t0.1 + t0.2))) 2)) < m0 t0)))))))
 (br (decide (t0.1 < ((x.map Hrd.v).length:Int)))
 (Rf (x.map Hrd.v) (ck (decide (0 ≤ t0.1)) (ck (decide (t0.1 < (x.length:Int)))
 (∀ x2,x[t0.1.toNat]? = some x2 →
 Cl (cmpH_c x2 target)
 (Rf (bsH_e (t0.1,(cmpH x2 target) == 0)) ((t0.1,(cmpH x2 target) == 0) = r0))))))
 (Rf (bsH_e (t0.1,false)) ((t0.1,false) = r0)))
theorem bsH_eq (x:(List Hrd)) (target:Int) (I0:(Int × Int) → Prop) (m0:(Int × Int) → Nat) (r0:Int × Bool):mxP Tryz.prog 137 [.sl 4 (x.map Hrd.v) false,.int target,.func 138 []] .k bsH_e ((.loop 0 (bsH_n0 x target) (I0) (m0) ((0,((x.map Hrd.v).length:Int)):Int × Int) [] fun (t0:Int × Int) =>
 (.br 48 (.el 208 Hrd.v x fun x1 =>
 (.callP (cmpH_c x1 target)
 (.br 288 (.back 0 ((W ((W (Int.fdiv (IntKind.u64.wrap (W (t0.1 + t0.2))) 2)) + 1),t0.2):Int × Int) [])
 (.back 0 ((t0.1,W (Int.fdiv (IntKind.u64.wrap (W (t0.1 + t0.2))) 2)):Int × Int) []))))
 (.br 128 (.el 176 Hrd.v x fun x2 =>
 (.callP (cmpH_c x2 target)
 (.ret (t0.1,(cmpH x2 target) == 0))))
 (.ret (t0.1,false))))):An Tryz.prog bsH_s (Int × Bool)) r0 = bsH_vc x target I0 m0 r0:=by kernel_rfl
theorem bsH_ok (x:(List Hrd)) (target:Int) (I0:(Int × Int) → Prop) (m0:(Int × Int) → Nat) (r0:Int × Bool) (h:bsH_vc x target I0 m0 r0):PSpec Tryz.prog 137 [.sl 4 (x.map Hrd.v) false,.int target,.func 138 []] (bsH_e r0):=by
  have e:=bsH_eq x target I0 m0 r0
  rw [← e] at h
  exact mxP_ok (enc:=bsH_e) h (AV.pureB_ok rfl)
theorem bsH_p (l:List Hrd) (r:Int) (h:l.Pairwise fun x y=>x.router < y.router) (hl:l.length ≤ 1000000) (ok:bsH_a l r):∃ I m,bsH_vc l r I m ((posH l r:Int),decide (hitH l r)):=by
  simp only [bsH_a,okU,Blk.ok,plainV,List.length_map] at ok
  refine ⟨fun t=>∃ i j:Nat,t = ((i:Int),(j:Int)) ∧ i ≤ j ∧ j ≤ l.length ∧ (∀ k x,k < i → l[k]? = some x → x.router < r) ∧ (∀ k x,j ≤ k → l[k]? = some x → r ≤ x.router),fun t=>(t.2 - t.1).toNat,?_⟩
  simp only [bsH_vc,vcU,rfU,List.length_map]
  refine ⟨⟨0,l.length,rfl,by omega,by omega,fun k x hk=>by omega,fun k x hk hx=>by have:=lt_of_get hx; omega⟩,?_⟩
  rintro _ ⟨i,j,rfl,hij,hj,h1,h2⟩
  refine ⟨fun h3=>?_,fun h3=>?_⟩
  · have h3:i < j:=by simpa using h3
    simp only [half i j hij (by omega),Int.toNat_natCast]
    refine ⟨by omega,by omega,fun x hx=>⟨fun e=>?_,fun e=>?_⟩⟩
    · rw [cmpH,cmp_lt] at e
      rw [W_succ (n:=l.length) (by omega) (by omega)]
      refine ⟨⟨_,_,rfl,by omega,hj,fun k y hk hy=>?_,h2⟩,by omega⟩
      by_cases e':k = (i + j) / 2
      · subst e'; rw [hx] at hy; cases hy; exact e
      · have:=pw_get h (show k < (i + j) / 2 by omega) hy hx; omega
    · rw [cmpH,cmp_lt] at e
      refine ⟨⟨_,_,rfl,by omega,by omega,h1,fun k y hk hy=>?_⟩,by omega⟩
      by_cases e':k = (i + j) / 2
      · subst e'; rw [hx] at hy; cases hy; omega
      · have:=pw_get h (show (i + j) / 2 < k by omega) hx hy; omega
  · have h3:i = j:=by simp at h3; omega
    subst h3
    have hp:posH l r = i:=idx_eq (key:=Hrd.router) hj h1 h2
    simp only [Int.toNat_natCast]
    refine ⟨fun h4=>⟨by omega,by omega,fun x hx=>?_⟩,fun h4=>?_⟩
    · have e:hitH l r ↔ x.router = r:=by rw [hitH,hp,getD_some hx]; exact ⟨fun h=>h.2,fun h=>⟨lt_of_get hx,h⟩⟩
      rw [hp]
      refine congrArg _ ?_
      rw [cmpH,Bool.eq_iff_iff,decide_eq_true_iff,e,beq_iff_eq,cmp_eq]
    · rw [hp,decide_eq_false]
      rw [hitH,hp]; intro h; omega
def bsH_c (x:(List Hrd)) (target:Int) (h:x.Pairwise fun x y=>x.router < y.router) (hl:x.length ≤ 1000000):PC Tryz.prog:=⟨137,[(.s 4),.k,.k],[.sl 4 (x.map Hrd.v) false,.int target,.func 138 []],bsH_e ((posH x target:Int),decide (hitH x target)),PSpec.of_ok fun ok=>(bsH_p x target h hl ok).elim fun I0 h=>h.elim fun m0 h=>bsH_ok x target I0 m0 _ h,fnB_ok (by kernel_rfl)⟩
def peer_a (s:Spk) (router:Int):Prop:=okL [.agg [.int s.router,.int s.epoch,.int s.last,.sl 4 (s.items.map Itm.v) false,.sl 3 (s.peers.map Per.v) false],.int router]
def peer_s:Nat → Type
  | _=>Unit
def peer_e (r:Int × Bool):AV:=.tup [.int r.1,.bool r.2]
def peer_vc (s:Spk) (router:Int) (r0:Int × Bool):Prop:=
 ∃ h1:s.peers.Pairwise fun x y=>x.router < y.router,
 ∃ h2:s.peers.length ≤ 1000000,
 Cl (bsP_c s.peers router h1 h2)
 (Rf (peer_e ((posP s.peers router:Int),decide (hitP s.peers router))) (((posP s.peers router:Int),decide (hitP s.peers router)) = r0))
theorem peer_eq (s:Spk) (router:Int) (r0:Int × Bool):mxP Tryz.prog 96 [.agg [.int s.router,.int s.epoch,.int s.last,.sl 4 (s.items.map Itm.v) false,.sl 3 (s.peers.map Per.v) false],.int router] .k peer_e ((.req 96 (s.peers.Pairwise fun x y=>x.router < y.router) fun h1 =>
 (.req 96 (s.peers.length ≤ 1000000) fun h2 =>
 (.callP (bsP_c s.peers router h1 h2)
 (.ret ((posP s.peers router:Int),decide (hitP s.peers router)))))):An Tryz.prog peer_s (Int × Bool)) r0 = peer_vc s router r0:=by kernel_rfl
theorem peer_ok (s:Spk) (router:Int) (r0:Int × Bool) (h:peer_vc s router r0):PSpec Tryz.prog 96 [.agg [.int s.router,.int s.epoch,.int s.last,.sl 4 (s.items.map Itm.v) false,.sl 3 (s.peers.map Per.v) false],.int router] (peer_e r0):=by
  have e:=peer_eq s router r0
  rw [← e] at h
  exact mxP_ok (enc:=peer_e) h (AV.pureB_ok rfl)
theorem peer_p (s:Spk) (r:Int) (h:s.peers.Pairwise fun x y=>x.router < y.router) (hl:s.peers.length ≤ 1000000) (ok:peer_a s r):peer_vc s r ((posP s.peers r:Int),decide (hitP s.peers r)):=by
  simp only [peer_vc,vcU,rfU,List.length_map]
  exact ⟨h,hl,trivial⟩
def peer_c (s:Spk) (router:Int) (h:s.peers.Pairwise fun x y=>x.router < y.router) (hl:s.peers.length ≤ 1000000):PC Tryz.prog:=⟨96,[(.a [.k,.k,.k,(.s 4),(.s 3)]),.k],[.agg [.int s.router,.int s.epoch,.int s.last,.sl 4 (s.items.map Itm.v) false,.sl 3 (s.peers.map Per.v) false],.int router],peer_e ((posP s.peers router:Int),decide (hitP s.peers router)),PSpec.of_ok fun ok=>peer_ok s router _ (peer_p s router h hl ok),fnB_ok (by kernel_rfl)⟩
def heard_a (l:Lsn) (router:Int):Prop:=okL [.agg [.int l.router,.int l.epoch,.sl 4 (l.heard.map Hrd.v) false],.int router]
def heard_s:Nat → Type
  | _=>Unit
def heard_e (r:Int × Bool):AV:=.tup [.int r.1,.bool r.2]
def heard_vc (l:Lsn) (router:Int) (r0:Int × Bool):Prop:=
 ∃ h1:l.heard.Pairwise fun x y=>x.router < y.router,
 ∃ h2:l.heard.length ≤ 1000000,
 Cl (bsH_c l.heard router h1 h2)
 (Rf (heard_e ((posH l.heard router:Int),decide (hitH l.heard router))) (((posH l.heard router:Int),decide (hitH l.heard router)) = r0))
theorem heard_eq (l:Lsn) (router:Int) (r0:Int × Bool):mxP Tryz.prog 83 [.agg [.int l.router,.int l.epoch,.sl 4 (l.heard.map Hrd.v) false],.int router] .k heard_e ((.req 96 (l.heard.Pairwise fun x y=>x.router < y.router) fun h1 =>
 (.req 96 (l.heard.length ≤ 1000000) fun h2 =>
 (.callP (bsH_c l.heard router h1 h2)
 (.ret ((posH l.heard router:Int),decide (hitH l.heard router)))))):An Tryz.prog heard_s (Int × Bool)) r0 = heard_vc l router r0:=by kernel_rfl
theorem heard_ok (l:Lsn) (router:Int) (r0:Int × Bool) (h:heard_vc l router r0):PSpec Tryz.prog 83 [.agg [.int l.router,.int l.epoch,.sl 4 (l.heard.map Hrd.v) false],.int router] (heard_e r0):=by
  have e:=heard_eq l router r0
  rw [← e] at h
  exact mxP_ok (enc:=heard_e) h (AV.pureB_ok rfl)
theorem heard_p (l:Lsn) (r:Int) (h:l.heard.Pairwise fun x y=>x.router < y.router) (hl:l.heard.length ≤ 1000000) (ok:heard_a l r):heard_vc l r ((posH l.heard r:Int),decide (hitH l.heard r)):=by
  simp only [heard_vc,vcU,rfU,List.length_map]
  exact ⟨h,hl,trivial⟩
def heard_c (l:Lsn) (router:Int) (h:l.heard.Pairwise fun x y=>x.router < y.router) (hl:l.heard.length ≤ 1000000):PC Tryz.prog:=⟨83,[(.a [.k,.k,(.s 4)]),.k],[.agg [.int l.router,.int l.epoch,.sl 4 (l.heard.map Hrd.v) false],.int router],heard_e ((posH l.heard router:Int),decide (hitH l.heard router)),PSpec.of_ok fun ok=>heard_ok l router _ (heard_p l router h hl ok),fnB_ok (by kernel_rfl)⟩
def noF (f:Flt):Bool:=f.mode == 1 && (f.srcs.length:Int) == 0
def noF_a (f:Flt):Prop:=okL [.agg [.int f.mode,.sl 1 (f.srcs.map AV.int) false]]
def noF_s:Nat → Type
  | _=>Unit
def noF_e (r:Bool):AV:=.bool r
def noF_vc (f:Flt) (r0:Bool):Prop:=
 br (f.mode == 1)
 (Rf (noF_e (((f.srcs.map AV.int).length:Int) == 0)) ((((f.srcs.map AV.int).length:Int) == 0) = r0))
 (Rf (noF_e (false)) ((false) = r0))
theorem noF_eq (f:Flt) (r0:Bool):mxP Tryz.prog 173 [.agg [.int f.mode,.sl 1 (f.srcs.map AV.int) false]] .k noF_e ((.br 96 (.ret (((f.srcs.map AV.int).length:Int) == 0))
 (.ret (false))):An Tryz.prog noF_s (Bool)) r0 = noF_vc f r0:=by kernel_rfl
theorem noF_ok (f:Flt) (r0:Bool) (h:noF_vc f r0):PSpec Tryz.prog 173 [.agg [.int f.mode,.sl 1 (f.srcs.map AV.int) false]] (noF_e r0):=by
  have e:=noF_eq f r0
  rw [← e] at h
  exact mxP_ok (enc:=noF_e) h (AV.pureB_ok rfl)
theorem noF_p (f:Flt) (ok:noF_a f):noF_vc f (noF f):=by
  simp only [noF_vc,vcU,rfU,List.length_map]
  by_cases h:f.mode = 1 <;> simp [noF,h]
def noF_c (f:Flt):PC Tryz.prog:=⟨173,[(.a [.k,(.s 1)])],[.agg [.int f.mode,.sl 1 (f.srcs.map AV.int) false]],noF_e (noF f),PSpec.of_ok fun ok=>noF_ok f _ (noF_p f ok),fnB_ok (by kernel_rfl)⟩
def checkW_a (l:(List Wnt)) (changes:Bool):Prop:=okL [.sl 3 (l.map Wnt.v) false,.bool changes]
def checkW_n0 (l:(List Wnt)) (changes:Bool) (t0:Int):NF:=⟨[(0,.k,.sl 3 (l.map Wnt.v) false),(1,.k,.bool changes),(16,.k,.sl 3 (l.map Wnt.v) false),(17,.k,.int ((l.map Wnt.v).length:Int)),(18,.k,.int t0)],[]⟩
def checkW_n1 (l:(List Wnt)) (changes:Bool) (t0:Int) (t1:Int):NF:=⟨[(0,.k,.sl 3 (l.map Wnt.v) false),(1,.k,.bool changes),(31,.k,.sl 3 (l.map Wnt.v) false),(32,.k,.int ((l.map Wnt.v).length:Int)),(33,.k,.int t1)],[]⟩
def checkW_n2 (l:(List Wnt)) (changes:Bool) (t0:Int) (t1:Int) (t2:Int):NF:=⟨[(0,.k,.sl 3 (l.map Wnt.v) false),(1,.k,.bool changes),(44,.k,.sl 3 (l.map Wnt.v) false),(45,.k,.int ((l.map Wnt.v).length:Int)),(46,.k,.int t2)],[]⟩
def checkW_n3 (l:(List Wnt)) (changes:Bool) (t0:Int) (t1:Int) (t2:Int) (t3:Int):NF:=⟨[(0,.k,.sl 3 (l.map Wnt.v) false),(12,.k,.int t3)],[]⟩
def checkW_s:Nat → Type
  | 0=>Int
  | 1=>Int
  | 2=>Int
  | 3=>Int
  | _=>Unit
def checkW_e (r:Int):AV:=.int r
def checkW_vc (l:(List Wnt)) (changes:Bool) (I0:Int → Prop) (m0:Int → Nat) (I1:Int → Int → Prop) (m1:Int → Int → Nat) (I2:Int → Int → Int → Prop) (m2:Int → Int → Int → Nat) (I3:Int → Int → Int → Int → Prop) (m3:Int → Int → Int → Int → Nat) (r0:Int):Prop:=
 br (decide (32 < ((l.map Wnt.v).length:Int)))
 (Rf (checkW_e (3)) ((3) = r0))
 (Nf (checkW_n0 l changes (0)) [] (I0 (0)) ∧ ∀ t0:Int,I0 t0 →
 br (decide (t0 < ((l.map Wnt.v).length:Int)))
 (Rf (l.map Wnt.v) (ck (decide (0 ≤ t0)) (ck (decide (t0 < (l.length:Int)))
 (∀ x1,l[t0.toNat]? = some x1 →
 br (decide (x1.grp < 1))
 (Rf (checkW_e (2)) ((2) = r0))
 (br (decide (99 < x1.grp))
 (Rf (checkW_e (2)) ((2) = r0))
 (Nf (checkW_n0 l changes (W (t0 + 1))) [] (I0 (W (t0 + 1)) ∧ m0 (W (t0 + 1)) < m0 t0)))))))
 (Nf (checkW_n1 l changes t0 (0)) [] (I1 t0 (0)) ∧ ∀ t1:Int,I1 t0 t1 →
 br (decide (t1 < ((l.map Wnt.v).length:Int)))
 (Rf (l.map Wnt.v) (ck (decide (0 ≤ t1)) (ck (decide (t1 < (l.length:Int)))
 (∀ x2,l[t1.toNat]? = some x2 →
 Cl (PVal_c (⟨x2.mode,x2.srcs⟩:Flt))
 (br ((fltErr (⟨x2.mode,x2.srcs⟩:Flt).mode (⟨x2.mode,x2.srcs⟩:Flt).srcs) != 0)
 (Rf (checkW_e (fltErr (⟨x2.mode,x2.srcs⟩:Flt).mode (⟨x2.mode,x2.srcs⟩:Flt).srcs)) ((fltErr (⟨x2.mode,x2.srcs⟩:Flt).mode (⟨x2.mode,x2.srcs⟩:Flt).srcs) = r0))
 (Nf (checkW_n1 l changes t0 (W (t1 + 1))) [] (I1 t0 (W (t1 + 1)) ∧ m1 t0 (W (t1 + 1)) < m1 t0 t1)))))))
 (Nf (checkW_n2 l changes t0 t1 (0)) [] (I2 t0 t1 (0)) ∧ ∀ t2:Int,I2 t0 t1 t2 →
 br (decide (t2 < ((l.map Wnt.v).length:Int)))
 (Rf (l.map Wnt.v) (ck (decide (0 ≤ t2)) (ck (decide (t2 < (l.length:Int)))
 (∀ x3,l[t2.toNat]? = some x3 →
 br (!changes)
 (Cl (noF_c (⟨x3.mode,x3.srcs⟩:Flt))
 (br (noF (⟨x3.mode,x3.srcs⟩:Flt))
 (Rf (checkW_e (1)) ((1) = r0))
 (Nf (checkW_n2 l changes t0 t1 (W (t2 + 1))) [] (I2 t0 t1 (W (t2 + 1)) ∧ m2 t0 t1 (W (t2 + 1)) < m2 t0 t1 t2))))
 (Nf (checkW_n2 l changes t0 t1 (W (t2 + 1))) [] (I2 t0 t1 (W (t2 + 1)) ∧ m2 t0 t1 (W (t2 + 1)) < m2 t0 t1 t2))))))
 (Nf (checkW_n3 l changes t0 t1 t2 (1)) [] (I3 t0 t1 t2 (1)) ∧ ∀ t3:Int,I3 t0 t1 t2 t3 →
 br (decide (t3 < ((l.map Wnt.v).length:Int)))
 (Rf (l.map Wnt.v) (ck (decide (0 ≤ (W (t3 - 1)))) (ck (decide ((W (t3 - 1)) < (l.length:Int)))
 (∀ x4,l[(W (t3 - 1)).toNat]? = some x4 →
 Rf (l.map Wnt.v) (ck (decide (0 ≤ t3)) (ck (decide (t3 < (l.length:Int)))
 (∀ x5,l[t3.toNat]? = some x5 →
 br (decide (x5.grp ≤ x4.grp))
 (Rf (checkW_e (25)) ((25) = r0))
 (Nf (checkW_n3 l changes t0 t1 t2 (W (t3 + 1))) [] (I3 t0 t1 t2 (W (t3 + 1)) ∧ m3 t0 t1 t2 (W (t3 + 1)) < m3 t0 t1 t2 t3)))))))))
 (Rf (checkW_e (0)) ((0) = r0))))))
theorem checkW_eq (l:(List Wnt)) (changes:Bool) (I0:Int → Prop) (m0:Int → Nat) (I1:Int → Int → Prop) (m1:Int → Int → Nat) (I2:Int → Int → Int → Prop) (m2:Int → Int → Int → Nat) (I3:Int → Int → Int → Int → Prop) (m3:Int → Int → Int → Int → Nat) (r0:Int):mxP Tryz.prog 171 [.sl 3 (l.map Wnt.v) false,.bool changes] .k checkW_e ((.br 64 (.ret (3))
 (.loop 0 (checkW_n0 l changes) (I0) (m0) ((0):Int) [] fun (t0:Int) =>
 (.br 16 (.el 16 Wnt.v l fun x1 =>
 (.br 144 (.ret (2))
 (.br 208 (.ret (2))
 (.back 0 ((W (t0 + 1)):Int) []))))
 (.loop 1 (checkW_n1 l changes t0) (I1 t0) (m1 t0) ((0):Int) [] fun (t1:Int) =>
 (.br 16 (.el 16 Wnt.v l fun x2 =>
 (.callP (PVal_c (⟨x2.mode,x2.srcs⟩:Flt))
 (.br 176 (.ret (fltErr (⟨x2.mode,x2.srcs⟩:Flt).mode (⟨x2.mode,x2.srcs⟩:Flt).srcs))
 (.back 1 ((W (t1 + 1)):Int) []))))
 (.loop 2 (checkW_n2 l changes t0 t1) (I2 t0 t1) (m2 t0 t1) ((0):Int) [] fun (t2:Int) =>
 (.br 16 (.el 16 Wnt.v l fun x3 =>
 (.br 128 (.callP (noF_c (⟨x3.mode,x3.srcs⟩:Flt))
 (.br 192 (.ret (1))
 (.back 2 ((W (t2 + 1)):Int) [])))
 (.back 2 ((W (t2 + 1)):Int) [])))
 (.loop 3 (checkW_n3 l changes t0 t1 t2) (I3 t0 t1 t2) (m3 t0 t1 t2) ((1):Int) [] fun (t3:Int) =>
 (.br 64 (.el 112 Wnt.v l fun x4 =>
 (.el 192 Wnt.v l fun x5 =>
 (.br 256 (.ret (25))
 (.back 3 ((W (t3 + 1)):Int) []))))
 (.ret (0))))))))))):An Tryz.prog checkW_s (Int)) r0 = checkW_vc l changes I0 m0 I1 m1 I2 m2 I3 m3 r0:=by kernel_rfl
theorem checkW_ok (l:(List Wnt)) (changes:Bool) (I0:Int → Prop) (m0:Int → Nat) (I1:Int → Int → Prop) (m1:Int → Int → Nat) (I2:Int → Int → Int → Prop) (m2:Int → Int → Int → Nat) (I3:Int → Int → Int → Int → Prop) (m3:Int → Int → Int → Int → Nat) (r0:Int) (h:checkW_vc l changes I0 m0 I1 m1 I2 m2 I3 m3 r0):PSpec Tryz.prog 171 [.sl 3 (l.map Wnt.v) false,.bool changes] (checkW_e r0):=by
  have e:=checkW_eq l changes I0 m0 I1 m1 I2 m2 I3 m3 r0
  rw [← e] at h
  exact mxP_ok (enc:=checkW_e) h (AV.pureB_ok rfl)
theorem orI_at {α:Type} {l:List α} {f:α → Int} {k:Nat} {x:α} (h:∀ y ∈ l.take k,f y = 0) (hx:l[k]? = some x) (hn:f x ≠ 0):orI (l.map f) = f x:=by
  rw [orI,find_at (k:=k) (x:=f x)]
  · rfl
  · intro y hy
    rw [← List.map_take] at hy
    obtain ⟨z,hz,rfl⟩:=List.mem_map.mp hy
    simp [h z hz]
  · rw [List.getElem?_map,hx]; rfl
  · simpa using hn
theorem orI_all {α:Type} {l:List α} {f:α → Int} (h:∀ y ∈ l,f y = 0):orI (l.map f) = 0:=by
  rw [orI,List.find?_eq_none.mpr]; · rfl
  intro x hx; obtain ⟨z,hz,rfl⟩:=List.mem_map.mp hx; simp [h z hz]
theorem all_take {α:Type} {P:α → Prop} {l:List α} {k:Nat} {x:α} (h:∀ y ∈ l.take k,P y) (hx:l[k]? = some x) (hp:P x):∀ y ∈ l.take (k + 1),P y:=by
  rw [take_succ hx]
  intro z hz
  rcases List.mem_append.mp hz with hz | hz
  · exact h z hz
  · rw [List.mem_singleton] at hz; subst hz; exact hp
theorem checkW_p (l:List Wnt) (chg:Bool) (ok:checkW_a l chg):∃ I0 m0 I1 m1 I2 m2 I3 m3,checkW_vc l chg I0 m0 I1 m1 I2 m2 I3 m3 (wErr chg l):=by
  let R:Prop:=∀ w ∈ l,1 ≤ w.grp ∧ w.grp ≤ 99
  let F:Prop:=∀ w ∈ l,fltErr w.mode w.srcs = 0
  let N:Prop:=chg = false → ∀ w ∈ l,¬ isNoW w
  refine ⟨fun t=>∃ k:Nat,t = k ∧ k ≤ l.length ∧ ∀ w ∈ l.take k,1 ≤ w.grp ∧ w.grp ≤ 99,fun t=>l.length - t.toNat,
    fun _ t=>R ∧ ∃ k:Nat,t = k ∧ k ≤ l.length ∧ ∀ w ∈ l.take k,fltErr w.mode w.srcs = 0,fun _ t=>l.length - t.toNat,
    fun _ _ t=>R ∧ F ∧ ∃ k:Nat,t = k ∧ k ≤ l.length ∧ ∀ w ∈ l.take k,chg = false → ¬ isNoW w,fun _ _ t=>l.length - t.toNat,
    fun _ _ _ t=>R ∧ F ∧ N ∧ ∃ k:Nat,t = k ∧ 1 ≤ k ∧ k ≤ l.length + 1 ∧ ∀ j x y,j + 1 < k → l[j]? = some x → l[j + 1]? = some y → x.grp < y.grp,fun _ _ _ t=>l.length + 1 - t.toNat,?_⟩
  simp only [checkW_vc,vcU,rfU,List.length_map]
  have hno:∀ x:Wnt,noF ⟨x.mode,x.srcs⟩ = true ↔ isNoW x:=fun x=>by simp [noF,isNoW]
  refine ⟨fun e=>by rw [wErr,if_pos (by omega)],fun e0=>⟨⟨0,rfl,by omega,by simp⟩,?_⟩⟩
  have e0:¬ 32 < l.length:=by omega
  rintro _ ⟨k,rfl,hk,h⟩
  simp only [Int.toNat_natCast]
  refine ⟨fun h1=>⟨by omega,by omega,fun x hx=>?_⟩,fun h1=>?_⟩
  · have bad:¬ (1 ≤ x.grp ∧ x.grp ≤ 99) → 2 = wErr chg l:=fun h=>by
      rw [wErr,if_neg e0,if_pos fun h'=>h (h' x (mem_of_get hx))]
    refine ⟨fun e=>bad (by omega),fun e1=>⟨fun e=>bad (by omega),fun e2=>?_⟩⟩
    rw [W_succ (n:=l.length) (by omega) (by omega)]
    exact ⟨⟨k + 1,rfl,by omega,all_take h hx ⟨by omega,by omega⟩⟩,by omega⟩
  rw [List.take_of_length_le (by omega)] at h
  have hR:R:=h
  have w1:wErr chg l = if wFErrs l ≠ 0 then wFErrs l else if chg = false ∧ ∃ w ∈ l,isNoW w then 1 else if ¬ (l.Pairwise fun x y=>x.grp < y.grp) then 25 else 0:=by
    rw [wErr,if_neg e0,if_neg (fun h=>h hR)]
  clear h h1 hk k
  refine ⟨⟨hR,0,rfl,by omega,by simp⟩,?_⟩
  rintro _ ⟨-,k,rfl,hk,h⟩
  simp only [Int.toNat_natCast]
  refine ⟨fun h1=>⟨by omega,by omega,fun x hx=>⟨fun e=>?_,fun e=>?_⟩⟩,fun h1=>?_⟩
  · have e:fltErr x.mode x.srcs ≠ 0:=by simpa using e
    have:wFErrs l = fltErr x.mode x.srcs:=orI_at (f:=fun x:Wnt=>fltErr x.mode x.srcs) h hx e
    rw [w1,this,if_pos e]
  · rw [W_succ (n:=l.length) (by omega) (by omega)]
    exact ⟨⟨hR,k + 1,rfl,by omega,all_take h hx (by simpa using e)⟩,by omega⟩
  rw [List.take_of_length_le (by omega)] at h
  have hF:F:=h
  have w2:wErr chg l = if chg = false ∧ ∃ w ∈ l,isNoW w then 1 else if ¬ (l.Pairwise fun x y=>x.grp < y.grp) then 25 else 0:=by
    rw [w1,if_neg (fun hh=>hh (orI_all hF))]
  clear h h1 hk k
  refine ⟨⟨hR,hF,0,rfl,by omega,by simp⟩,?_⟩
  rintro _ ⟨-,-,k,rfl,hk,h⟩
  simp only [Int.toNat_natCast]
  refine ⟨fun h1=>⟨by omega,by omega,fun x hx=>?_⟩,fun h1=>?_⟩
  · have step:(chg = false → ¬ isNoW x) → (R ∧ F ∧ ∃ k':Nat,W ((k:Int) + 1) = k' ∧ k' ≤ l.length ∧ ∀ w ∈ l.take k',chg = false → ¬ isNoW w) ∧ l.length - (W ((k:Int) + 1)).toNat < l.length - k:=by
      intro hs
      rw [W_succ (n:=l.length) (by omega) (by omega)]
      exact ⟨⟨hR,hF,k + 1,rfl,by omega,all_take h hx hs⟩,by omega⟩
    refine ⟨fun e=>⟨fun e2=>?_,fun e2=>step fun _ hn=>?_⟩,fun e=>step fun hc=>?_⟩
    · rw [w2,if_pos ⟨by simpa using e,x,mem_of_get hx,(hno x).mp e2⟩]
    · rw [(hno x).mpr hn] at e2; cases e2
    · simp [hc] at e
  rw [List.take_of_length_le (by omega)] at h
  have hN:N:=fun hc w hw=>h w hw hc
  have w3:wErr chg l = if ¬ (l.Pairwise fun x y=>x.grp < y.grp) then 25 else 0:=by
    rw [w2,if_neg (fun ⟨hc,w,hw,hn⟩=>hN hc w hw hn)]
  clear h h1 hk k
  refine ⟨⟨hR,hF,hN,1,rfl,by omega,by omega,fun j x y hj=>by omega⟩,?_⟩
  rintro _ ⟨-,-,-,k,rfl,hk1,hk,h⟩
  refine ⟨fun h1=>?_,fun h1=>?_⟩
  · rw [W_pred (by omega) hk1]
    simp only [Int.toNat_natCast]
    refine ⟨by omega,by omega,fun x hx=>⟨by omega,by omega,fun y hy=>⟨fun e=>?_,fun e=>?_⟩⟩⟩
    · rw [w3,if_pos]
      intro hp
      have:x.grp < y.grp:=pw_get hp (show k - 1 < k by omega) hx hy
      omega
    · rw [W_succ (n:=l.length) (by omega) (by omega)]
      refine ⟨⟨hR,hF,hN,k + 1,rfl,by omega,by omega,fun j x' y' hj hx' hy'=>?_⟩,by omega⟩
      by_cases e':j + 1 = k
      · subst e'
        rw [show j + 1 - 1 = j by omega,hx'] at hx; cases hx
        rw [hy'] at hy; cases hy; omega
      · exact h j x' y' (by omega) hx' hy'
  · rw [w3,if_neg]
    exact fun hh=>hh (pw_adj fun j x y hx hy=>h j x y (by have:=lt_of_get hy; omega) hx hy)
def checkW_c (l:(List Wnt)) (changes:Bool):PC Tryz.prog:=⟨171,[(.s 3),.k],[.sl 3 (l.map Wnt.v) false,.bool changes],checkW_e (wErr changes l),PSpec.of_ok fun ok=>(checkW_p l changes ok).elim fun I0 h=>h.elim fun m0 h=>h.elim fun I1 h=>h.elim fun m1 h=>h.elim fun I2 h=>h.elim fun m2 h=>h.elim fun I3 h=>h.elim fun m3 h=>checkW_ok l changes I0 m0 I1 m1 I2 m2 I3 m3 _ h,fnB_ok (by kernel_rfl)⟩
def valW_a (l:(List Wnt)):Prop:=okL [.sl 3 (l.map Wnt.v) false]
def valW_s:Nat → Type
  | _=>Unit
def valW_e (r:Int):AV:=.int r
def valW_vc (l:(List Wnt)) (r0:Int):Prop:=
 Cl (checkW_c l false)
 (Rf (valW_e (wErr false l)) ((wErr false l) = r0))
theorem valW_eq (l:(List Wnt)) (r0:Int):mxP Tryz.prog 149 [.sl 3 (l.map Wnt.v) false] .k valW_e ((.callP (checkW_c l false)
 (.ret (wErr false l))):An Tryz.prog valW_s (Int)) r0 = valW_vc l r0:=by kernel_rfl
theorem valW_ok (l:(List Wnt)) (r0:Int) (h:valW_vc l r0):PSpec Tryz.prog 149 [.sl 3 (l.map Wnt.v) false] (valW_e r0):=by
  have e:=valW_eq l r0
  rw [← e] at h
  exact mxP_ok (enc:=valW_e) h (AV.pureB_ok rfl)
theorem valW_p (l:List Wnt) (ok:valW_a l):valW_vc l (wErr false l):=by
  simp only [valW_vc,vcU,rfU,List.length_map]
def valW_c (l:(List Wnt)):PC Tryz.prog:=⟨149,[(.s 3)],[.sl 3 (l.map Wnt.v) false],valW_e (wErr false l),PSpec.of_ok fun ok=>valW_ok l _ (valW_p l ok),fnB_ok (by kernel_rfl)⟩
def copiedW_a (w:Wnt):Prop:=okL [.agg [.int w.grp,.int w.mode,.sl 1 (w.srcs.map AV.int) false]]
def copiedW_s:Nat → Type
  | _=>Unit
def copiedW_e (r:Wnt):AV:=Wnt.v r
def copiedW_vc (w:Wnt) (r0:Wnt):Prop:=
 ∃ h1:w.srcs.length ≤ 1000000,
 Cl (cloneI_c w.srcs h1)
 (Rf (copiedW_e (w)) ((w) = r0))
theorem copiedW_eq (w:Wnt) (r0:Wnt):mxP Tryz.prog 166 [.agg [.int w.grp,.int w.mode,.sl 1 (w.srcs.map AV.int) false]] (.a [.k,.k,(.s 1)]) copiedW_e ((.req 80 (w.srcs.length ≤ 1000000) fun h1 =>
 (.callP (cloneI_c w.srcs h1)
 (.ret (w)))):An Tryz.prog copiedW_s (Wnt)) r0 = copiedW_vc w r0:=by kernel_rfl
theorem copiedW_ok (w:Wnt) (r0:Wnt) (h:copiedW_vc w r0):PSpec Tryz.prog 166 [.agg [.int w.grp,.int w.mode,.sl 1 (w.srcs.map AV.int) false]] (copiedW_e r0):=by
  have e:=copiedW_eq w r0
  rw [← e] at h
  exact mxP_ok (enc:=copiedW_e) h (AV.pureB_ok rfl)
theorem copiedW_p (w:Wnt) (h:w.srcs.length ≤ 1000000) (ok:copiedW_a w):copiedW_vc w w:=by
  simp only [copiedW_vc,vcU,rfU,List.length_map]
  exact ⟨h,trivial⟩
def copiedW_c (w:Wnt) (h:w.srcs.length ≤ 1000000):PC Tryz.prog:=⟨166,[(.a [.k,.k,(.s 1)])],[.agg [.int w.grp,.int w.mode,.sl 1 (w.srcs.map AV.int) false]],copiedW_e w,PSpec.of_ok fun ok=>copiedW_ok w _ (copiedW_p w h ok),fnB_ok (by kernel_rfl)⟩
end Go.Proofs.YtglfecmdoekabaaGreatDoor

namespace Go.Proofs.YtglfecmdoekabaaGreatDoor
open Go Go.Am
set_option linter.unusedVariables false
set_option linter.unusedSimpArgs false
structure Bnd where
  lo:Int
  hi:Int
def Bnd.v (b:Bnd):AV:=.agg [.int b.lo,.int b.hi]
structure Frm where
  l0:Int
  h0:Int
  l1:Int
  h1:Int
  l2:Int
  h2:Int
  l3:Int
  h3:Int
  l4:Int
  h4:Int
def Frm.v (b:Frm):AV:=.agg [.int b.l0,.int b.h0,.int b.l1,.int b.h1,.int b.l2,.int b.h2,.int b.l3,.int b.h3,.int b.l4,.int b.h4]
def hasB (b:Bnd) (n:Int):Bool:=decide (b.lo ≤ n) && decide (n ≤ b.hi)
def hasB_a (b:Bnd) (n:Int):Prop:=okL [.agg [.int b.lo,.int b.hi],.int n]
def hasB_s:Nat → Type
  | _=>Unit
def hasB_e (r:Bool):AV:=.bool r
def hasB_vc (b:Bnd) (n:Int) (r0:Bool):Prop:=
 br (decide (b.lo ≤ n))
 (Rf (hasB_e (decide (n ≤ b.hi))) ((decide (n ≤ b.hi)) = r0))
 (Rf (hasB_e (false)) ((false) = r0))
theorem hasB_eq (b:Bnd) (n:Int) (r0:Bool):mxP Tryz.prog 142 [.agg [.int b.lo,.int b.hi],.int n] .k hasB_e ((.br 112 (.ret (decide (n ≤ b.hi)))
 (.ret (false))):An Tryz.prog hasB_s (Bool)) r0 = hasB_vc b n r0:=by kernel_rfl
theorem hasB_ok (b:Bnd) (n:Int) (r0:Bool) (h:hasB_vc b n r0):PSpec Tryz.prog 142 [.agg [.int b.lo,.int b.hi],.int n] (hasB_e r0):=by
  have e:=hasB_eq b n r0
  rw [← e] at h
  exact mxP_ok (enc:=hasB_e) h (AV.pureB_ok rfl)
theorem hasB_p (b:Bnd) (n:Int) (ok:hasB_a b n):hasB_vc b n (hasB b n):=by
  simp only [hasB_vc,vcU,rfU,List.length_map]
  by_cases h:b.lo ≤ n <;> simp [hasB,h]
def hasB_c (b:Bnd) (n:Int):PC Tryz.prog:=⟨142,[.k,.k],[.agg [.int b.lo,.int b.hi],.int n],hasB_e (hasB b n),PSpec.of_ok fun ok=>hasB_ok b n _ (hasB_p b n ok),fnB_ok (by kernel_rfl)⟩
def formsF (s:Sig):Frm × Bool:=
  if s.kind = 1 then (⟨1,1000000,0,1000000,0,0,0,0,0,0⟩,true)
  else if s.kind = 2 then (⟨1,1000000,1,1000000,0,W (s.ver - 1),0,0,1,99⟩,true)
  else if s.kind = 3 then (⟨0,1000000,0,1000000,0,0,1,1000000,0,0⟩,true)
  else (⟨0,0,0,0,0,0,0,0,0,0⟩,false)
def forms_a (s:Sig):Prop:=okL [.agg [.int s.kind,.int s.src,.int s.dst,.int s.epoch,.int s.ver,.int s.prev,.int s.pep,.int s.grp,.int s.mode,.sl 1 (s.srcs.map AV.int) false]]
def forms_s:Nat → Type
  | _=>Unit
def forms_e (r:Frm × Bool):AV:=.tup [Frm.v r.1,.bool r.2]
def forms_vc (s:Sig) (r0:Frm × Bool):Prop:=
 br (s.kind == 1)
 (Rf (forms_e ((⟨1,1000000,0,1000000,0,0,0,0,0,0⟩:Frm),true)) (((⟨1,1000000,0,1000000,0,0,0,0,0,0⟩:Frm),true) = r0))
 (br (s.kind == 2)
 (Rf (forms_e ((⟨1,1000000,1,1000000,0,W (s.ver - 1),0,0,1,99⟩:Frm),true)) (((⟨1,1000000,1,1000000,0,W (s.ver - 1),0,0,1,99⟩:Frm),true) = r0))
 (br (s.kind == 3)
 (Rf (forms_e ((⟨0,1000000,0,1000000,0,0,1,1000000,0,0⟩:Frm),true)) (((⟨0,1000000,0,1000000,0,0,1,1000000,0,0⟩:Frm),true) = r0))
 (Rf (forms_e ((⟨0,0,0,0,0,0,0,0,0,0⟩:Frm),false)) (((⟨0,0,0,0,0,0,0,0,0,0⟩:Frm),false) = r0))))
theorem forms_eq (s:Sig) (r0:Frm × Bool):mxP Tryz.prog 141 [.agg [.int s.kind,.int s.src,.int s.dst,.int s.epoch,.int s.ver,.int s.prev,.int s.pep,.int s.grp,.int s.mode,.sl 1 (s.srcs.map AV.int) false]] .k forms_e ((.br 112 (.ret ((⟨1,1000000,0,1000000,0,0,0,0,0,0⟩:Frm),true))
 (.br 144 (.ret ((⟨1,1000000,1,1000000,0,W (s.ver - 1),0,0,1,99⟩:Frm),true))
 (.br 176 (.ret ((⟨0,1000000,0,1000000,0,0,1,1000000,0,0⟩:Frm),true))
 (.ret ((⟨0,0,0,0,0,0,0,0,0,0⟩:Frm),false))))):An Tryz.prog forms_s (Frm × Bool)) r0 = forms_vc s r0:=by kernel_rfl
theorem forms_ok (s:Sig) (r0:Frm × Bool) (h:forms_vc s r0):PSpec Tryz.prog 141 [.agg [.int s.kind,.int s.src,.int s.dst,.int s.epoch,.int s.ver,.int s.prev,.int s.pep,.int s.grp,.int s.mode,.sl 1 (s.srcs.map AV.int) false]] (forms_e r0):=by
  have e:=forms_eq s r0
  rw [← e] at h
  exact mxP_ok (enc:=forms_e) h (AV.pureB_ok rfl)
theorem forms_p (s:Sig) (ok:forms_a s):forms_vc s (formsF s):=by
  simp only [forms_vc,vcU,rfU,List.length_map]
  refine ⟨fun e=>?_,fun e=>⟨fun e2=>?_,fun e2=>⟨fun e3=>?_,fun e3=>?_⟩⟩⟩
  all_goals simp at *
  all_goals simp [formsF, *]
def forms_c (s:Sig):PC Tryz.prog:=⟨141,[(.a [.k,.k,.k,.k,.k,.k,.k,.k,.k,(.s 1)])],[.agg [.int s.kind,.int s.src,.int s.dst,.int s.epoch,.int s.ver,.int s.prev,.int s.pep,.int s.grp,.int s.mode,.sl 1 (s.srcs.map AV.int) false]],forms_e (formsF s),PSpec.of_ok fun ok=>forms_ok s _ (forms_p s ok),fnB_ok (by kernel_rfl)⟩
theorem hasB_iff {b:Bnd} {n:Int}:hasB b n = true ↔ b.lo ≤ n ∧ n ≤ b.hi:=by simp [hasB]
def numL (s:Sig):List Int:=[s.epoch,s.ver,s.prev,s.pep,s.grp]
def bndL (f:Frm):List Bnd:=[⟨f.l0,f.h0⟩,⟨f.l1,f.h1⟩,⟨f.l2,f.h2⟩,⟨f.l3,f.h3⟩,⟨f.l4,f.h4⟩]
theorem five {p:Int → Bnd → Prop} {s:Sig} {f:Frm}:(∀ (j:Nat) x b,(numL s)[j]? = some x → (bndL f)[j]? = some b → p x b) ↔ p s.epoch ⟨f.l0,f.h0⟩ ∧ p s.ver ⟨f.l1,f.h1⟩ ∧ p s.prev ⟨f.l2,f.h2⟩ ∧ p s.pep ⟨f.l3,f.h3⟩ ∧ p s.grp ⟨f.l4,f.h4⟩:=by
  refine ⟨fun h=>⟨h 0 _ _ rfl rfl,h 1 _ _ rfl rfl,h 2 _ _ rfl rfl,h 3 _ _ rfl rfl,h 4 _ _ rfl rfl⟩,fun ⟨h0,h1,h2,h3,h4⟩ j x b hx hb=>?_⟩
  rcases j with _ | _ | _ | _ | _ | j <;> simp [numL,bndL] at hx hb <;> subst hx hb <;> assumption
theorem nums_iff {s:Sig} (hv:-9223372036854775808 ≤ s.ver ∧ s.ver ≤ 9223372036854775807) (hk:(formsF s).2 = true) :
    sigNums s ↔ ∀ (j:Nat) x b,(numL s)[j]? = some x → (bndL (formsF s).1)[j]? = some b → hasB b x = true:=by
  rw [five (p:=fun x b=>hasB b x = true)]
  simp only [hasB_iff]
  by_cases e1:s.kind = 1
  · simp [formsF,sigNums,e1]; omega
  · by_cases e2:s.kind = 2
    · simp only [formsF,sigNums,if_neg e1,if_pos e2]
      constructor
      · rintro ⟨h0,h1,h2,h3,h4⟩
        rw [W_eq (by omega)]; omega
      · rintro ⟨h0,h1,h2,h3,h4⟩
        rw [W_eq (by omega)] at h2; omega
    · by_cases e3:s.kind = 3
      · simp [formsF,sigNums,e3]; omega
      · simp [formsF,e1,e2,e3] at hk
theorem forms_iff {s:Sig}:(formsF s).2 = true ↔ s.kind = 1 ∨ s.kind = 2 ∨ s.kind = 3:=by
  by_cases e1:s.kind = 1
  · simp [formsF,e1]
  · by_cases e2:s.kind = 2
    · simp [formsF,e2]
    · by_cases e3:s.kind = 3 <;> simp [formsF,e1,e2,e3]
def sigV_a (s:Sig):Prop:=okL [.agg [.int s.kind,.int s.src,.int s.dst,.int s.epoch,.int s.ver,.int s.prev,.int s.pep,.int s.grp,.int s.mode,.sl 1 (s.srcs.map AV.int) false]]
def sigV_n0 (s:Sig) (t0:Int):NF:=⟨[(1,.k,.ref 0 0),(3,.k,.ref 1 0),(45,.k,.agg [.int s.epoch,.int s.ver,.int s.prev,.int s.pep,.int s.grp]),(46,.k,.int t0)],[.box (.agg [.int s.kind,.int s.src,.int s.dst,.int s.epoch,.int s.ver,.int s.prev,.int s.pep,.int s.grp,.int s.mode,.sl 1 (s.srcs.map AV.int) false]),.box (.agg [.int (((formsF s).1).l0),.int (((formsF s).1).h0),.int (((formsF s).1).l1),.int (((formsF s).1).h1),.int (((formsF s).1).l2),.int (((formsF s).1).h2),.int (((formsF s).1).l3),.int (((formsF s).1).h3),.int (((formsF s).1).l4),.int (((formsF s).1).h4)])]⟩
def sigV_s:Nat → Type
  | 0=>Int
  | _=>Unit
def sigV_e (r:Int):AV:=.int r
def sigV_vc (s:Sig) (I0:Int → Prop) (m0:Int → Nat) (r0:Int):Prop:=
 Cl (forms_c s)
 (br (!((formsF s).2))
 (Rf (sigV_e (1)) ((1) = r0))
 (Cl (hasB_c (⟨1,99⟩:Bnd) s.src)
 (br (!(hasB (⟨1,99⟩:Bnd) s.src))
 (Rf (sigV_e (2)) ((2) = r0))
 (Cl (hasB_c (⟨1,99⟩:Bnd) s.dst)
 (br (!(hasB (⟨1,99⟩:Bnd) s.dst))
 (Rf (sigV_e (2)) ((2) = r0))
 (br (s.src == s.dst)
 (Rf (sigV_e (2)) ((2) = r0))
 (Nf (sigV_n0 s (0)) [0,112] (I0 (0)) ∧ ∀ t0:Int,I0 t0 →
 br (decide (t0 < 5))
 (Rf (([s.epoch,s.ver,s.prev,s.pep,s.grp]:List Int).map AV.int) (ck (decide (0 ≤ t0)) (ck (decide (t0 < 5)) (ck (decide (t0.toNat < ([s.epoch,s.ver,s.prev,s.pep,s.grp]:List Int).length))
 (∀ x1,([s.epoch,s.ver,s.prev,s.pep,s.grp]:List Int)[t0.toNat]? = some x1 →
 ck (cond (decide (0 ≤ t0)) (decide (t0 < 5)) false)
 (Rf (α:=List AV) ([.int (((formsF s).1).l0),.int (((formsF s).1).h0),.int (((formsF s).1).l1),.int (((formsF s).1).h1),.int (((formsF s).1).l2),.int (((formsF s).1).h2),.int (((formsF s).1).l3),.int (((formsF s).1).h3),.int (((formsF s).1).l4),.int (((formsF s).1).h4)]) (((0 + (t0.toNat * 2)) = t0.toNat * 2) ∧ (ck (decide (t0.toNat < [(⟨((formsF s).1).l0,((formsF s).1).h0⟩:Bnd),(⟨((formsF s).1).l1,((formsF s).1).h1⟩:Bnd),(⟨((formsF s).1).l2,((formsF s).1).h2⟩:Bnd),(⟨((formsF s).1).l3,((formsF s).1).h3⟩:Bnd),(⟨((formsF s).1).l4,((formsF s).1).h4⟩:Bnd)].length))
 (∀ x2,[(⟨((formsF s).1).l0,((formsF s).1).h0⟩:Bnd),(⟨((formsF s).1).l1,((formsF s).1).h1⟩:Bnd),(⟨((formsF s).1).l2,((formsF s).1).h2⟩:Bnd),(⟨((formsF s).1).l3,((formsF s).1).h3⟩:Bnd),(⟨((formsF s).1).l4,((formsF s).1).h4⟩:Bnd)][t0.toNat]? = some x2 →
 Cl (hasB_c x2 x1)
 (br (!(hasB x2 x1))
 (Rf (sigV_e (2)) ((2) = r0))
 (Nf (sigV_n0 s (W (t0 + 1))) [0,1] (I0 (W (t0 + 1)) ∧ m0 (W (t0 + 1)) < m0 t0))))))))))))
 (br (s.kind == 2)
 (Cl (PVal_c (⟨s.mode,s.srcs⟩:Flt))
 (Rf (sigV_e (fltErr (⟨s.mode,s.srcs⟩:Flt).mode (⟨s.mode,s.srcs⟩:Flt).srcs)) ((fltErr (⟨s.mode,s.srcs⟩:Flt).mode (⟨s.mode,s.srcs⟩:Flt).srcs) = r0)))
 (br (s.mode != 0)
 (Rf (sigV_e (1)) ((1) = r0))
 (br (decide (0 < ((s.srcs.map AV.int).length:Int)))
 (Rf (sigV_e (1)) ((1) = r0))
 (Rf (sigV_e (0)) ((0) = r0))))))))))))
theorem sigV_eq (s:Sig) (I0:Int → Prop) (m0:Int → Nat) (r0:Int):mxP Tryz.prog 90 [.agg [.int s.kind,.int s.src,.int s.dst,.int s.epoch,.int s.ver,.int s.prev,.int s.pep,.int s.grp,.int s.mode,.sl 1 (s.srcs.map AV.int) false]] .k sigV_e ((.callP (forms_c s)
 (.br 192 (.ret (1))
 (.callP (hasB_c (⟨1,99⟩:Bnd) s.src)
 (.br 336 (.ret (2))
 (.callP (hasB_c (⟨1,99⟩:Bnd) s.dst)
 (.br 448 (.ret (2))
 (.br 544 (.ret (2))
 (.loop 0 (sigV_n0 s) (I0) (m0) ((0):Int) [0,112] fun (t0:Int) =>
 (.br 18 (.el 34 AV.int ([s.epoch,s.ver,s.prev,s.pep,s.grp]:List Int) fun x1 =>
 (.elA 114 (fun x:Bnd=>[.int x.lo,.int x.hi]) [(⟨((formsF s).1).l0,((formsF s).1).h0⟩:Bnd),(⟨((formsF s).1).l1,((formsF s).1).h1⟩:Bnd),(⟨((formsF s).1).l2,((formsF s).1).h2⟩:Bnd),(⟨((formsF s).1).l3,((formsF s).1).h3⟩:Bnd),(⟨((formsF s).1).l4,((formsF s).1).h4⟩:Bnd)] (t0.toNat) 2 (fun _=>rfl) fun x2 =>
 (.callP (hasB_c x2 x1)
 (.br 178 (.ret (2))
 (.back 0 ((W (t0 + 1)):Int) [0,1])))))
 (.br 66 (.callP (PVal_c (⟨s.mode,s.srcs⟩:Flt))
 (.ret (fltErr (⟨s.mode,s.srcs⟩:Flt).mode (⟨s.mode,s.srcs⟩:Flt).srcs)))
 (.br 146 (.ret (1))
 (.br 242 (.ret (1))
 (.ret (0)))))))))))))):An Tryz.prog sigV_s (Int)) r0 = sigV_vc s I0 m0 r0:=by kernel_rfl
theorem sigV_ok (s:Sig) (I0:Int → Prop) (m0:Int → Nat) (r0:Int) (h:sigV_vc s I0 m0 r0):PSpec Tryz.prog 90 [.agg [.int s.kind,.int s.src,.int s.dst,.int s.epoch,.int s.ver,.int s.prev,.int s.pep,.int s.grp,.int s.mode,.sl 1 (s.srcs.map AV.int) false]] (sigV_e r0):=by
  have e:=sigV_eq s I0 m0 r0
  rw [← e] at h
  exact mxP_ok (enc:=sigV_e) h (AV.pureB_ok rfl)
theorem sigV_p (s:Sig) (ok:sigV_a s):∃ I m,sigV_vc s I m (sigErr s):=by
  simp only [sigV_a,okU,Blk.ok,plainV,List.length_map] at ok
  refine ⟨fun t=>∃ k:Nat,t = k ∧ k ≤ 5 ∧ ∀ (j:Nat) x b,j < k → (numL s)[j]? = some x → (bndL (formsF s).1)[j]? = some b → hasB b x = true,fun t=>5 - t.toNat,?_⟩
  simp only [sigV_vc,vcU,rfU,List.length_map]
  have hv:-9223372036854775808 ≤ s.ver ∧ s.ver ≤ 9223372036854775807:=ok.2.2.2.2.1
  refine ⟨fun e=>?_,fun e0=>?_⟩
  · rw [sigErr,if_pos (fun h=>by rw [forms_iff.mpr h] at e; cases e)]
  have e0:(formsF s).2 = true:=by simpa using e0
  have hk:=forms_iff.mp e0
  have bad:¬ (sigEnds s ∧ sigNums s) → 2 = sigErr s:=fun h=>by rw [sigErr,if_neg (fun h=>h hk),if_pos h]
  refine ⟨fun e=>bad fun h=>?_,fun e1=>⟨fun e=>bad fun h=>?_,fun e2=>⟨fun e=>bad fun h=>?_,fun e3=>?_⟩⟩⟩
  · have:=h.1.1; rw [hasB_iff.mpr this] at e; cases e
  · have:=h.1.2.1; rw [hasB_iff.mpr this] at e; cases e
  · have:=h.1.2.2; simp at e; exact this e
  have e1:=hasB_iff.mp (Bool.not_eq_false' .. ▸ e1:hasB ⟨1,99⟩ s.src = true)
  have e2:=hasB_iff.mp (Bool.not_eq_false' .. ▸ e2:hasB ⟨1,99⟩ s.dst = true)
  have hE:sigEnds s:=⟨e1,e2,by simpa using e3⟩
  refine ⟨⟨0,rfl,by omega,fun j x b hj=>by omega⟩,?_⟩
  rintro _ ⟨k,rfl,hk5,h⟩
  simp only [Int.toNat_natCast]
  refine ⟨fun h1=>⟨by omega,by omega,by simp; omega,fun x hx=>⟨by simp; omega,by omega,by simp; omega,fun b hb=>⟨fun e=>bad fun hs=>?_,fun e=>?_⟩⟩⟩,fun h1=>?_⟩
  · have:=(nums_iff hv e0).mp hs.2 k x b hx hb
    rw [this] at e; cases e
  · have e:hasB b x = true:=by simpa using e
    rw [W_succ (n:=5) (by omega) (by omega)]
    refine ⟨⟨k + 1,rfl,by omega,fun j y c hj hy hc=>?_⟩,by omega⟩
    by_cases e':j = k
    · subst e'
      have hy:=hy.symm.trans hx
      have hc:=hc.symm.trans hb
      cases hy; cases hc; exact e
    · exact h j y c (by omega) hy hc
  have hN:sigNums s:=(nums_iff hv e0).mpr fun j x b hx hb=>h j x b (by have:=lt_of_get hx; simp [numL] at this; omega) hx hb
  have fin:sigErr s = if s.kind = 2 then fltErr s.mode s.srcs else if s.mode ≠ 0 ∨ s.srcs ≠ [] then 1 else 0:=by
    rw [sigErr,if_neg (fun h=>h hk),if_neg (fun h=>h ⟨hE,hN⟩)]
  rw [fin]
  refine ⟨fun e=>by rw [if_pos (by simpa using e)],fun e=>?_⟩
  have e:¬ s.kind = 2:=by simpa using e
  rw [if_neg e]
  refine ⟨fun e=>by rw [if_pos (.inl (by simpa using e))],fun e1=>⟨fun e=>?_,fun e=>?_⟩⟩
  · rw [if_pos (.inr fun h=>by rw [h] at e; simp at e)]
  · rw [if_neg]
    rintro (h | h)
    · exact h (by simpa using e1)
    · exact h (List.eq_nil_of_length_eq_zero (by omega))
def sigV_c (s:Sig):PC Tryz.prog:=⟨90,[(.a [.k,.k,.k,.k,.k,.k,.k,.k,.k,(.s 1)])],[.agg [.int s.kind,.int s.src,.int s.dst,.int s.epoch,.int s.ver,.int s.prev,.int s.pep,.int s.grp,.int s.mode,.sl 1 (s.srcs.map AV.int) false]],sigV_e (sigErr s),PSpec.of_ok fun ok=>(sigV_p s ok).elim fun I0 h=>h.elim fun m0 h=>sigV_ok s I0 m0 _ h,fnB_ok (by kernel_rfl)⟩
end Go.Proofs.YtglfecmdoekabaaGreatDoor

namespace Go.Proofs.YtglfecmdoekabaaGreatDoor
open Go Go.Am
set_option linter.unusedVariables false
set_option linter.unusedSimpArgs false
theorem errIf_pos {p:Prop} [Decidable p] (h:p):errIf p = 0:=if_pos h
theorem valS_t {s:Spk}:(valS s != 0) = true ↔ ¬ spkOk s:=by
  by_cases h:spkOk s <;> simp [valS,errIf,h]
theorem valS_f {s:Spk}:(valS s != 0) = false ↔ spkOk s:=by
  by_cases h:spkOk s <;> simp [valS,errIf,h]
theorem pureBLs_one {es:List AV} (h:pureBL es = true):pureBLs [es] = true:=by rw [pureBLs,h]; rfl
theorem srcs_len {m:Int} {l:List Int} (h:fltErr m l = 0):l.length ≤ 99:=by
  unfold fltErr at h
  split at h
  · cases h
  split at h
  · cases h
  rename_i hr
  split at h
  · cases h
  rename_i ha
  have hr:=Classical.not_not.mp hr
  have ha:=Classical.not_not.mp ha
  have hp:l.Pairwise fun x y=>id x < id y:=pw_adj (key:=id) fun j x y hx hy=>ascI_iff.mp ha j x y hx hy
  exact nodup_len 99 l (hp.imp fun h=>Int.ne_of_lt h) fun x hx=>by have:=hr x hx; omega
theorem okItms_of {n:Int} {l:List Itm} (h:itmsOk n l):okItms l:=⟨by have:=itms_len h; omega,fun x hx=>by have:=srcs_len (h.1 x hx).2.2; omega⟩
theorem set_same {α:Type} {l:List α} {i:Nat} {x:α} (h:l[i]? = some x):l.set i x = l:=by
  have hi:=lt_of_get h
  rw [List.getElem?_eq_getElem hi] at h
  rw [← Option.some.inj h]; exact List.set_getElem_self hi
theorem orI_two (a b:Int):orI [a,b] = if a ≠ 0 then a else b:=by
  by_cases h:a = 0
  · by_cases h2:b = 0 <;> simp [orI,h,h2]
  · simp [orI,h]
theorem without_zero {n:Int} {l:List Itm} (h:itmsOk n l):Go.Proofs.YtglfecmdoekabaaGreatDoor.without 0 l = l:=by
  rw [Go.Proofs.YtglfecmdoekabaaGreatDoor.without,List.filter_eq_self]
  intro x hx
  have:=(h.1 x hx).2.1
  simp; omega
def new_a (router:Int) (epoch:Int) (peers:(List Int)):Prop:=okL [.int router,.int epoch,.sl 1 (peers.map AV.int) false]
def new_s:Nat → Type
  | _=>Unit
def new_e (r:Spk × Int):AV:=.tup [Spk.v r.1,.int r.2]
def new_vc (router:Int) (epoch:Int) (peers:(List Int)) (r0:Spk × Int):Prop:=
 ∃ h1:peers.length ≤ 1000000,
 Ch (fresh_h peers h1) [] 80
 (Cl (valS_c (⟨router,epoch,0,[],fresh peers⟩:Spk))
 (ck (pureBLs [((fresh peers).map Per.v)])
 (br ((valS (⟨router,epoch,0,[],fresh peers⟩:Spk)) != 0)
 (Rf (new_e ((⟨0,0,0,[],[]⟩:Spk),1)) (((⟨0,0,0,[],[]⟩:Spk),1) = r0))
 (Rf ((fresh peers).map Per.v) (Rf (new_e ((⟨router,epoch,0,[],fresh peers⟩:Spk),0)) (((⟨router,epoch,0,[],fresh peers⟩:Spk),0) = r0))))))
theorem new_eq (router:Int) (epoch:Int) (peers:(List Int)) (r0:Spk × Int):mxP Tryz.prog 65 [.int router,.int epoch,.sl 1 (peers.map AV.int) false] (.a [(.a [.k,.k,.k,(.s 4),(.s 3)]),.k]) new_e ((.req 80 (peers.length ≤ 1000000) fun h1 =>
 (.callH [] (fresh_h peers h1)
 (.callP (valS_c (⟨router,epoch,0,[],fresh peers⟩:Spk))
 (.br 192 (.ret ((⟨0,0,0,[],[]⟩:Spk),1))
 (.cmdL (.frzE 80 ((fresh peers).map Per.v) (pureBL_map (fun _=>rfl) (fresh peers))) (.ret ((⟨router,epoch,0,[],fresh peers⟩:Spk),0))))))):An Tryz.prog new_s (Spk × Int)) r0 = new_vc router epoch peers r0:=by kernel_rfl
theorem new_ok (router:Int) (epoch:Int) (peers:(List Int)) (r0:Spk × Int) (h:new_vc router epoch peers r0):PSpec Tryz.prog 65 [.int router,.int epoch,.sl 1 (peers.map AV.int) false] (new_e r0):=by
  have e:=new_eq router epoch peers r0
  rw [← e] at h
  exact mxP_ok (enc:=new_e) h (AV.pureB_ok rfl)
theorem new_p (r k:Int) (p:List Int) (h:p.length ≤ 1000000) (ok:new_a r k p):new_vc r k p (new r k p):=by
  simp only [new_vc,vcU,rfU,List.length_map]
  refine ⟨h,pureBLs_one (pureBL_map (fun _=>rfl) _),fun e=>?_,fun e=>?_⟩
  · have e:=valS_t.mp e
    exact (if_neg e).symm
  · have e:=valS_f.mp e
    exact (if_pos e).symm
def new_c (router:Int) (epoch:Int) (peers:(List Int)) (h:peers.length ≤ 1000000):PC Tryz.prog:=⟨65,[.k,.k,(.s 1)],[.int router,.int epoch,.sl 1 (peers.map AV.int) false],new_e (Go.Proofs.YtglfecmdoekabaaGreatDoor.new router epoch peers),PSpec.of_ok fun ok=>new_ok router epoch peers _ (new_p router epoch peers h ok),fnB_ok (by kernel_rfl)⟩
def restart_a (s:Spk) (wants:(List Wnt)):Prop:=okL [.agg [.int s.router,.int s.epoch,.int s.last,.sl 4 (s.items.map Itm.v) false,.sl 3 (s.peers.map Per.v) false],.sl 3 (wants.map Wnt.v) false]
def restart_n0 (s:Spk) (wants:(List Wnt)) (t0:Int × (List Itm)):NF:=⟨[(2,.k,.ref 0 0),(4,.k,.ref 1 0),(7,.k,.ref 2 0),(34,.k,.sl 3 (wants.map Wnt.v) false),(35,.k,.int ((wants.map Wnt.v).length:Int)),(36,.k,.int t0.1)],[.box (.agg [.int s.router,.int s.epoch,.int s.last,.sl 4 (s.items.map Itm.v) false,.sl 3 (s.peers.map Per.v) false]),.box (.agg [.int 0,.int 0,.int 0,.sl 0 [] true,.sl 0 [] true]),.box (.agg [.int s.router,.int (W (s.epoch + 1)),.int ((wants.map Wnt.v).length:Int),.vec 3,.sl 0 [] true]),.vec 4 (t0.2.map Itm.v) (pureBL_map (fun _=>rfl) t0.2)]⟩
def restart_n1 (s:Spk) (wants:(List Wnt)) (t0:Int × (List Itm)) (t1:Int × (List Per)):NF:=⟨[(4,.k,.ref 0 0),(7,.k,.ref 1 0),(56,.k,.sl 3 (s.peers.map Per.v) false),(57,.k,.int ((s.peers.map Per.v).length:Int)),(58,.k,.int t1.1)],[.box (.agg [.int 0,.int 0,.int 0,.sl 0 [] true,.sl 0 [] true]),.box (.agg [.int s.router,.int (W (s.epoch + 1)),.int ((wants.map Wnt.v).length:Int),.vec 2,.vec 3]),.vec 4 (t0.2.map Itm.v) (pureBL_map (fun _=>rfl) t0.2),.vec 3 (t1.2.map Per.v) (pureBL_map (fun _=>rfl) t1.2)]⟩
def restart_s:Nat → Type
  | 0=>Int × (List Itm)
  | 1=>Int × (List Per)
  | _=>Unit
def restart_e (r:Spk × Int):AV:=.tup [Spk.v r.1,.int r.2]
def restart_vc (s:Spk) (wants:(List Wnt)) (I0:(Int × (List Itm)) → Prop) (m0:(Int × (List Itm)) → Nat) (I1:Int × (List Itm) → (Int × (List Per)) → Prop) (m1:Int × (List Itm) → (Int × (List Per)) → Nat) (r0:Spk × Int):Prop:=
 Cl (valS_c s)
 (Cl (valW_c wants)
 (Cl (orI_c [valS s,wErr false wants])
 (br ((orI [valS s,wErr false wants]) != 0)
 (Rf (restart_e ((⟨0,0,0,[],[]⟩:Spk),orI [valS s,wErr false wants])) (((⟨0,0,0,[],[]⟩:Spk),orI [valS s,wErr false wants]) = r0))
 (br (s.epoch == 1000000)
 (Rf (restart_e ((⟨0,0,0,[],[]⟩:Spk),3)) (((⟨0,0,0,[],[]⟩:Spk),3) = r0))
 (Nf (restart_n0 s wants (0,[])) [0,16,368,448] (I0 (0,[])) ∧ ∀ t0:Int × (List Itm),I0 t0 →
 br (decide (t0.1 < ((wants.map Wnt.v).length:Int)))
 (Rf (wants.map Wnt.v) (ck (decide (0 ≤ t0.1)) (ck (decide (t0.1 < (wants.length:Int)))
 (∀ x1,wants[t0.1.toNat]? = some x1 →
 ∃ h2:(⟨x1.mode,x1.srcs⟩:Flt).srcs.length ≤ 1000000,
 Cl (filtered_c (⟨x1.mode,x1.srcs⟩:Flt) h2)
 (Rf (α:=List AV) (t0.2.map Itm.v) (Rf (α:=List AV) [.agg [.int (W (t0.1 + 1)),.int x1.grp,.int x1.mode,.sl 1 (x1.srcs.map AV.int) false]]
 (ck (decide (t0.2.length + 1 ≤ 1000000))
 (Nf (restart_n0 s wants (W (t0.1 + 1),t0.2 ++ [(⟨W (t0.1 + 1),x1.grp,x1.mode,x1.srcs⟩:Itm)])) [0,1,2,292] (I0 (W (t0.1 + 1),t0.2 ++ [(⟨W (t0.1 + 1),x1.grp,x1.mode,x1.srcs⟩:Itm)]) ∧ m0 (W (t0.1 + 1),t0.2 ++ [(⟨W (t0.1 + 1),x1.grp,x1.mode,x1.srcs⟩:Itm)]) < m0 t0)))))))))
 (Nf (restart_n1 s wants t0 (0,[])) [1,2,3,84] (I1 t0 (0,[])) ∧ ∀ t1:Int × (List Per),I1 t0 t1 →
 br (decide (t1.1 < ((s.peers.map Per.v).length:Int)))
 (Rf (s.peers.map Per.v) (ck (decide (0 ≤ t1.1)) (ck (decide (t1.1 < (s.peers.length:Int)))
 (∀ x3,s.peers[t1.1.toNat]? = some x3 →
 Rf (α:=List AV) (t1.2.map Per.v) (Rf (α:=List AV) [.agg [.int x3.router,.int 0,.int 0]]
 (ck (decide (t1.2.length + 1 ≤ 1000000))
 (Nf (restart_n1 s wants t0 (W (t1.1 + 1),t1.2 ++ [(⟨x3.router,0,0⟩:Per)])) [0,1,2,180] (I1 t0 (W (t1.1 + 1),t1.2 ++ [(⟨x3.router,0,0⟩:Per)]) ∧ m1 t0 (W (t1.1 + 1),t1.2 ++ [(⟨x3.router,0,0⟩:Per)]) < m1 t0 t1))))))))
 (Rf (t1.2.map Per.v) (Rf (t0.2.map Itm.v) (Rf (restart_e ((⟨s.router,W (s.epoch + 1),((wants.map Wnt.v).length:Int),t0.2,t1.2⟩:Spk),0)) (((⟨s.router,W (s.epoch + 1),((wants.map Wnt.v).length:Int),t0.2,t1.2⟩:Spk),0) = r0))))))))))
theorem restart_eq (s:Spk) (wants:(List Wnt)) (I0:(Int × (List Itm)) → Prop) (m0:(Int × (List Itm)) → Nat) (I1:Int × (List Itm) → (Int × (List Per)) → Prop) (m1:Int × (List Itm) → (Int × (List Per)) → Nat) (r0:Spk × Int):mxP Tryz.prog 99 [.agg [.int s.router,.int s.epoch,.int s.last,.sl 4 (s.items.map Itm.v) false,.sl 3 (s.peers.map Per.v) false],.sl 3 (wants.map Wnt.v) false] (.a [(.a [.k,.k,.k,(.s 4),(.s 3)]),.k]) restart_e ((.callP (valS_c s)
 (.callP (valW_c wants)
 (.callP (orI_c [valS s,wErr false wants])
 (.br 192 (.ret ((⟨0,0,0,[],[]⟩:Spk),orI [valS s,wErr false wants]))
 (.br 240 (.ret ((⟨0,0,0,[],[]⟩:Spk),3))
 (.cmdL (.nilB 368 3 4) (.loop 0 (restart_n0 s wants) (I0) (m0) ((0,[]):Int × (List Itm)) [0,16,368,448] fun (t0:Int × (List Itm)) =>
 (.br 20 (.el 36 Wnt.v wants fun x1 =>
 (.req 244 ((⟨x1.mode,x1.srcs⟩:Flt).srcs.length ≤ 1000000) fun h2 =>
 (.callP (filtered_c (⟨x1.mode,x1.srcs⟩:Flt) h2)
 (.app 292 Itm.v t0.2 [(⟨W (t0.1 + 1),x1.grp,x1.mode,x1.srcs⟩:Itm)]
 (.back 0 ((W (t0.1 + 1),t0.2 ++ [(⟨W (t0.1 + 1),x1.grp,x1.mode,x1.srcs⟩:Itm)]):Int × (List Itm)) [0,1,2,292])))))
 (.cmdL (.nilB 2 4 3) (.loop 1 (restart_n1 s wants t0) (I1 t0) (m1 t0) ((0,[]):Int × (List Per)) [1,2,3,84] fun (t1:Int × (List Per)) =>
 (.br 20 (.el 20 Per.v s.peers fun x3 =>
 (.app 180 Per.v t1.2 [(⟨x3.router,0,0⟩:Per)]
 (.back 1 ((W (t1.1 + 1),t1.2 ++ [(⟨x3.router,0,0⟩:Per)]):Int × (List Per)) [0,1,2,180])))
 (.cmdL (.frzE 3 (t1.2.map Per.v) (pureBL_map (fun _=>rfl) t1.2)) (.cmdL (.frzE 2 (t0.2.map Itm.v) (pureBL_map (fun _=>rfl) t0.2)) (.ret ((⟨s.router,W (s.epoch + 1),((wants.map Wnt.v).length:Int),t0.2,t1.2⟩:Spk),0))))))))))))))):An Tryz.prog restart_s (Spk × Int)) r0 = restart_vc s wants I0 m0 I1 m1 r0:=by kernel_rfl
theorem restart_ok (s:Spk) (wants:(List Wnt)) (I0:(Int × (List Itm)) → Prop) (m0:(Int × (List Itm)) → Nat) (I1:Int × (List Itm) → (Int × (List Per)) → Prop) (m1:Int × (List Itm) → (Int × (List Per)) → Nat) (r0:Spk × Int) (h:restart_vc s wants I0 m0 I1 m1 r0):PSpec Tryz.prog 99 [.agg [.int s.router,.int s.epoch,.int s.last,.sl 4 (s.items.map Itm.v) false,.sl 3 (s.peers.map Per.v) false],.sl 3 (wants.map Wnt.v) false] (restart_e r0):=by
  have e:=restart_eq s wants I0 m0 I1 m1 r0
  rw [← e] at h
  exact mxP_ok (enc:=restart_e) h (AV.pureB_ok rfl)
theorem restart_p (s:Spk) (w:List Wnt) (ok:restart_a s w):∃ I0 m0 I1 m1,restart_vc s w I0 m0 I1 m1 (restart s w):=by
  simp only [restart_a,okU,Blk.ok,plainV,List.length_map] at ok
  refine ⟨fun t=>∃ k:Nat,t = ((k:Int),(w.take k).mapIdx wItm) ∧ k ≤ w.length,fun t=>w.length - t.1.toNat,
    fun t0 t=>t0.2 = w.mapIdx wItm ∧ ∃ k:Nat,t = ((k:Int),(s.peers.take k).map fun p=>⟨p.router,0,0⟩) ∧ k ≤ s.peers.length,fun _ t=>s.peers.length - t.1.toNat,?_⟩
  simp only [restart_vc,vcU,rfU,List.length_map]
  rw [orI_two]
  by_cases hs:spkOk s
  case neg=>simp [restart,valS,errIf,hs,spk0]
  rw [show valS s = 0 from errIf_pos hs,if_neg (by simp)]
  by_cases hw:wErr false w = 0
  case neg=>simp [restart,hs,hw,spk0]
  have hw':=wErr_zero.mp hw
  refine ⟨fun e=>by simp [hw] at e,fun _=>⟨fun e=>?_,fun e=>?_⟩⟩
  · have e:s.epoch = 1000000:=by simpa using e
    rw [restart,if_neg (not_not_intro hs),if_neg (not_not_intro hw),if_pos e]; rfl
  have e:¬ s.epoch = 1000000:=by simpa using e
  have hse:=hs.2.1
  have fin:restart s w = (⟨s.router,s.epoch + 1,w.length,w.mapIdx wItm,s.peers.map fun p=>⟨p.router,0,0⟩⟩,0):=by
    rw [restart,if_neg (not_not_intro hs),if_neg (not_not_intro hw),if_neg e]
  refine ⟨⟨0,by simp,by omega⟩,?_⟩
  rintro _ ⟨k,rfl,hk⟩
  simp only [Int.toNat_natCast]
  refine ⟨fun h1=>⟨by omega,by omega,fun x hx=>⟨by have:=srcs_len (hw'.2.2.1 x (mem_of_get hx)); show x.srcs.length ≤ _; omega,?_⟩⟩,fun h1=>?_⟩
  · have hkl:k < w.length:=by omega
    rw [W_succ (n:=w.length) (by omega) (by omega)]
    refine ⟨by simp; omega,⟨k + 1,?_,by omega⟩,by omega⟩
    rw [take_succ hx,List.mapIdx_append]
    simp [wItm,Nat.min_eq_left hk]
  · rw [List.take_of_length_le (by omega)]
    refine ⟨⟨rfl,0,by simp,by omega⟩,?_⟩
    rintro _ ⟨-,k2,rfl,hk2⟩
    simp only [Int.toNat_natCast]
    have hpl:=hs.2.2.2.2.1
    refine ⟨fun h3=>⟨by omega,by omega,fun x hx=>?_⟩,fun h3=>?_⟩
    · rw [W_succ (n:=s.peers.length) (by omega) (by omega)]
      refine ⟨by simp; omega,⟨trivial,k2 + 1,?_,by omega⟩,by omega⟩
      rw [take_succ hx]; simp
    · rw [List.take_of_length_le (by omega),fin,W_eq (by omega)]
def restart_c (s:Spk) (wants:(List Wnt)):PC Tryz.prog:=⟨99,[(.a [.k,.k,.k,(.s 4),(.s 3)]),(.s 3)],[.agg [.int s.router,.int s.epoch,.int s.last,.sl 4 (s.items.map Itm.v) false,.sl 3 (s.peers.map Per.v) false],.sl 3 (wants.map Wnt.v) false],restart_e (Go.Proofs.YtglfecmdoekabaaGreatDoor.restart s wants),PSpec.of_ok fun ok=>(restart_p s wants ok).elim fun I0 h=>h.elim fun m0 h=>h.elim fun I1 h=>h.elim fun m1 h=>restart_ok s wants I0 m0 I1 m1 _ h,fnB_ok (by kernel_rfl)⟩
def sendF_a (s:Spk) (to_:Int):Prop:=okL [.agg [.int s.router,.int s.epoch,.int s.last,.sl 4 (s.items.map Itm.v) false,.sl 3 (s.peers.map Per.v) false],.int to_]
def sendF_n0 (s:Spk) (to_:Int) (t0:Int × Int × (List Sig)):NF:=⟨[(1,.k,.int to_),(2,.k,.ref 0 0),(7,.k,.int (posP s.peers to_:Int)),(9,.k,.vec 1),(10,.k,.int t0.1),(36,.k,.sl 4 (s.items.map Itm.v) false),(37,.k,.int ((s.items.map Itm.v).length:Int)),(38,.k,.int t0.2.1)],[.box (.agg [.int s.router,.int s.epoch,.int s.last,.sl 4 (s.items.map Itm.v) false,.sl 3 (s.peers.map Per.v) false]),.vec 10 (t0.2.2.map Sig.v) (pureBL_map (fun _=>rfl) t0.2.2)]⟩
def sendF_s:Nat → Type
  | 0=>Int × Int × (List Sig)
  | _=>Unit
def sendF_e (r:(List Sig) × Int):AV:=.tup [.sl 10 (r.1.map Sig.v) false,.int r.2]
def sendF_vc (s:Spk) (to_:Int) (I0:(Int × Int × (List Sig)) → Prop) (m0:(Int × Int × (List Sig)) → Nat) (r0:(List Sig) × Int):Prop:=
 Cl (valS_c s)
 (br ((valS s) != 0)
 (Rf (sendF_e ([],valS s)) (([],valS s) = r0))
 (∃ h1:s.peers.Pairwise fun x y=>x.router < y.router,
 ∃ h2:s.peers.length ≤ 1000000,
 Cl (peer_c s to_ h1 h2)
 (br (!(decide (hitP s.peers to_)))
 (Rf (sendF_e ([],4)) (([],4) = r0))
 (Nf (sendF_n0 s to_ (0,0,[(⟨1,s.router,to_,s.epoch,s.last,0,0,0,0,[]⟩:Sig)])) [0,416] (I0 (0,0,[(⟨1,s.router,to_,s.epoch,s.last,0,0,0,0,[]⟩:Sig)])) ∧ ∀ t0:Int × Int × (List Sig),I0 t0 →
 br (decide (t0.2.1 < ((s.items.map Itm.v).length:Int)))
 (Rf (s.items.map Itm.v) (ck (decide (0 ≤ t0.2.1)) (ck (decide (t0.2.1 < (s.items.length:Int)))
 (∀ x3,s.items[t0.2.1.toNat]? = some x3 →
 Rf (s.peers.map Per.v) (ck (decide (0 ≤ (posP s.peers to_:Int))) (ck (decide ((posP s.peers to_:Int) < (s.peers.length:Int)))
 (∀ x4,s.peers[(posP s.peers to_:Int).toNat]? = some x4 →
 br (decide (x4.acked < x3.ver))
 (∃ h5:(⟨x3.mode,x3.srcs⟩:Flt).srcs.length ≤ 1000000,
 Cl (filtered_c (⟨x3.mode,x3.srcs⟩:Flt) h5)
 (Rf (α:=List AV) (t0.2.2.map Sig.v) (Rf (α:=List AV) [.agg [.int 2,.int s.router,.int to_,.int s.epoch,.int x3.ver,.int t0.1,.int 0,.int x3.grp,.int x3.mode,.sl 1 (x3.srcs.map AV.int) false]]
 (ck (decide (t0.2.2.length + 1 ≤ 1000000))
 (Nf (sendF_n0 s to_ (x3.ver,W (t0.2.1 + 1),t0.2.2 ++ [(⟨2,s.router,to_,s.epoch,x3.ver,t0.1,0,x3.grp,x3.mode,x3.srcs⟩:Sig)])) [0,482] (I0 (x3.ver,W (t0.2.1 + 1),t0.2.2 ++ [(⟨2,s.router,to_,s.epoch,x3.ver,t0.1,0,x3.grp,x3.mode,x3.srcs⟩:Sig)]) ∧ m0 (x3.ver,W (t0.2.1 + 1),t0.2.2 ++ [(⟨2,s.router,to_,s.epoch,x3.ver,t0.1,0,x3.grp,x3.mode,x3.srcs⟩:Sig)]) < m0 t0))))))
 (Nf (sendF_n0 s to_ (x3.ver,W (t0.2.1 + 1),t0.2.2)) [0,1] (I0 (x3.ver,W (t0.2.1 + 1),t0.2.2) ∧ m0 (x3.ver,W (t0.2.1 + 1),t0.2.2) < m0 t0)))))))))
 (Rf (t0.2.2.map Sig.v) (Rf (sendF_e (t0.2.2,0)) ((t0.2.2,0) = r0)))))))
theorem sendF_eq (s:Spk) (to_:Int) (I0:(Int × Int × (List Sig)) → Prop) (m0:(Int × Int × (List Sig)) → Nat) (r0:(List Sig) × Int):mxP Tryz.prog 36 [.agg [.int s.router,.int s.epoch,.int s.last,.sl 4 (s.items.map Itm.v) false,.sl 3 (s.peers.map Per.v) false],.int to_] (.a [(.s 10),.k]) sendF_e ((.callP (valS_c s)
 (.br 128 (.ret ([],valS s))
 (.req 160 (s.peers.Pairwise fun x y=>x.router < y.router) fun h1 =>
 (.req 160 (s.peers.length ≤ 1000000) fun h2 =>
 (.callP (peer_c s to_ h1 h2)
 (.br 288 (.ret ([],4))
 (.own 416 (.cmdL (.wkB 416 (.a [.k,.k,.k,.k,.k,.k,.k,.k,.k,(.s 1)])) (.loop 0 (sendF_n0 s to_) (I0) (m0) ((0,0,[(⟨1,s.router,to_,s.epoch,s.last,0,0,0,0,[]⟩:Sig)]):Int × Int × (List Sig)) [0,416] fun (t0:Int × Int × (List Sig)) =>
 (.br 18 (.el 18 Itm.v s.items fun x3 =>
 (.el 162 Per.v s.peers fun x4 =>
 (.br 226 (.req 434 ((⟨x3.mode,x3.srcs⟩:Flt).srcs.length ≤ 1000000) fun h5 =>
 (.callP (filtered_c (⟨x3.mode,x3.srcs⟩:Flt) h5)
 (.app 482 Sig.v t0.2.2 [(⟨2,s.router,to_,s.epoch,x3.ver,t0.1,0,x3.grp,x3.mode,x3.srcs⟩:Sig)]
 (.back 0 ((x3.ver,W (t0.2.1 + 1),t0.2.2 ++ [(⟨2,s.router,to_,s.epoch,x3.ver,t0.1,0,x3.grp,x3.mode,x3.srcs⟩:Sig)]):Int × Int × (List Sig)) [0,482]))))
 (.back 0 ((x3.ver,W (t0.2.1 + 1),t0.2.2):Int × Int × (List Sig)) [0,1]))))
 (.cmdL (.frzE 1 (t0.2.2.map Sig.v) (pureBL_map (fun _=>rfl) t0.2.2)) (.ret (t0.2.2,0))))))))))))):An Tryz.prog sendF_s ((List Sig) × Int)) r0 = sendF_vc s to_ I0 m0 r0:=by kernel_rfl
theorem sendF_ok (s:Spk) (to_:Int) (I0:(Int × Int × (List Sig)) → Prop) (m0:(Int × Int × (List Sig)) → Nat) (r0:(List Sig) × Int) (h:sendF_vc s to_ I0 m0 r0):PSpec Tryz.prog 36 [.agg [.int s.router,.int s.epoch,.int s.last,.sl 4 (s.items.map Itm.v) false,.sl 3 (s.peers.map Per.v) false],.int to_] (sendF_e r0):=by
  have e:=sendF_eq s to_ I0 m0 r0
  rw [← e] at h
  exact mxP_ok (enc:=sendF_e) h (AV.pureB_ok rfl)
theorem sendF_p (s:Spk) (r:Int) (ok:sendF_a s r):∃ I0 m0,sendF_vc s r I0 m0 (send s r):=by
  simp only [sendF_a,okU,Blk.ok,plainV,List.length_map] at ok
  let ak:=(s.peers.getD (posP s.peers r) ⟨0,0,0⟩).acked
  refine ⟨fun t=>∃ k:Nat,t.2.1 = k ∧ k ≤ s.items.length ∧ t.2.2.length ≤ k + 1 ∧ hello s r :: sendFrom s r ak 0 s.items = t.2.2 ++ sendFrom s r ak t.1 (s.items.drop k),fun t=>s.items.length - t.2.1.toNat,?_⟩
  simp only [sendF_vc,vcU,rfU,List.length_map]
  by_cases hs:spkOk s
  case neg=>simp [send,valS,errIf,hs]
  refine ⟨fun e=>by simp [valS,errIf,hs] at e,fun _=>⟨hs.2.2.2.2.2.2,by have:=hs.2.2.2.2.1; omega,fun e=>?_,fun e=>?_⟩⟩
  · have e:¬ hitP s.peers r:=by simpa using e
    rw [send,if_neg (not_not_intro hs),if_pos e]
  have e:hitP s.peers r:=by simpa using e
  have fin:send s r = (hello s r :: sendFrom s r ak 0 s.items,0):=by rw [send,if_neg (not_not_intro hs),if_neg (not_not_intro e)]
  have hil:=itms_len hs.2.2.2.1
  refine ⟨⟨0,rfl,by omega,by simp,rfl⟩,?_⟩
  rintro ⟨prev,_,acc⟩ ⟨k,rfl,hk,hal,h⟩
  simp only [Int.toNat_natCast] at *
  refine ⟨fun h1=>⟨by omega,by omega,fun x hx=>⟨by omega,by have:=e.1; omega,fun y hy=>?_⟩⟩,fun h1=>?_⟩
  · have hy:ak = y.acked:=by show (s.peers.getD (posP s.peers r) ⟨0,0,0⟩).acked = _; rw [getD_some hy]
    have hd:s.items.drop k = x :: s.items.drop (k + 1):=by
      have hkl:=lt_of_get hx
      rw [List.drop_eq_getElem_cons hkl]
      rw [List.getElem?_eq_getElem hkl] at hx; rw [Option.some.inj hx]
    rw [hd,sendFrom] at h
    rw [W_succ (n:=s.items.length) (by omega) (by omega)]
    have hsl:=srcs_len (hs.2.2.2.1.1 x (mem_of_get hx)).2.2
    refine ⟨fun e3=>⟨by show x.srcs.length ≤ _; omega,by omega,⟨k + 1,rfl,by omega,by simp; omega,?_⟩,by omega⟩,fun e3=>⟨⟨k + 1,rfl,by omega,by omega,?_⟩,by omega⟩⟩
    · rw [h,if_pos (by omega)]; simp [upd1]
    · rw [h,if_neg (by omega)]; simp
  · rw [List.drop_eq_nil_of_le (by omega),sendFrom,List.append_nil] at h
    rw [fin,h]
def send_c (s:Spk) (to_:Int):PC Tryz.prog:=⟨36,[(.a [.k,.k,.k,(.s 4),(.s 3)]),.k],[.agg [.int s.router,.int s.epoch,.int s.last,.sl 4 (s.items.map Itm.v) false,.sl 3 (s.peers.map Per.v) false],.int to_],sendF_e (send s to_),PSpec.of_ok fun ok=>(sendF_p s to_ ok).elim fun I0 h=>h.elim fun m0 h=>sendF_ok s to_ I0 m0 _ h,fnB_ok (by kernel_rfl)⟩
def ackF_a (s:Spk) (x:Sig):Prop:=okL [.agg [.int s.router,.int s.epoch,.int s.last,.sl 4 (s.items.map Itm.v) false,.sl 3 (s.peers.map Per.v) false],.agg [.int x.kind,.int x.src,.int x.dst,.int x.epoch,.int x.ver,.int x.prev,.int x.pep,.int x.grp,.int x.mode,.sl 1 (x.srcs.map AV.int) false]]
def ackF_n0 (s:Spk) (x:Sig) (t0:Int):NF:=⟨[(2,.k,.ref 0 0),(3,.k,.ref 3 0),(4,.k,.ref 4 0),(7,.k,.int (posP s.peers x.src:Int)),(9,.k,.int t0)],[.box (.agg [.int s.router,.int s.epoch,.int s.last,.vec 1,.vec 2]),.vec 4 ((without 0 s.items).map Itm.v) (pureBL_map (fun _=>rfl) (without 0 s.items)),.vec 3 (s.peers.map Per.v) (pureBL_map (fun _=>rfl) s.peers),.box (.agg [.int x.kind,.int x.src,.int x.dst,.int x.epoch,.int x.ver,.int x.prev,.int x.pep,.int x.grp,.int x.mode,.sl 1 (x.srcs.map AV.int) false]),.box (.agg [.int 0,.int 0,.int 0,.sl 0 [] true,.sl 0 [] true])]⟩
def ackF_s:Nat → Type
  | 0=>Int
  | _=>Unit
def ackF_e (r:Spk × Int):AV:=.tup [Spk.v r.1,.int r.2]
def ackF_vc (s:Spk) (x:Sig) (r0:Spk × Int):Prop:=
 Cl (valS_c s)
 (Cl (sigV_c x)
 (Cl (orI_c [valS s,sigErr x])
 (br ((orI [valS s,sigErr x]) != 0)
 (Rf (ackF_e ((⟨0,0,0,[],[]⟩:Spk),orI [valS s,sigErr x])) (((⟨0,0,0,[],[]⟩:Spk),orI [valS s,sigErr x]) = r0))
 (br (x.kind != 3)
 (Rf (ackF_e ((⟨0,0,0,[],[]⟩:Spk),1)) (((⟨0,0,0,[],[]⟩:Spk),1) = r0))
 (br (x.dst != s.router)
 (Rf (ackF_e ((⟨0,0,0,[],[]⟩:Spk),1)) (((⟨0,0,0,[],[]⟩:Spk),1) = r0))
 (∃ h1:s.peers.Pairwise fun x y=>x.router < y.router,
 ∃ h2:s.peers.length ≤ 1000000,
 Cl (peer_c s x.src h1 h2)
 (br (!(decide (hitP s.peers x.src)))
 (Rf (ackF_e ((⟨0,0,0,[],[]⟩:Spk),4)) (((⟨0,0,0,[],[]⟩:Spk),4) = r0))
 (∃ h3:okItms s.items,
 Ch (copied_h s.items 0 h3) [] 576
 (∃ h4:s.peers.length ≤ 1000000,
 Ch (cloneP_h s.peers h4) [] 624
 ((br (x.epoch == s.epoch)
 (br (decide (x.ver ≤ s.last))
 (Nf (ackF_n0 s x (x.ver)) [0,576,624,16,32] (((x.ver):Int) = ((bif (x.epoch == s.epoch) then (bif (decide (x.ver ≤ s.last)) then (x.ver) else (0)) else (0)):Int)))
 (Nf (ackF_n0 s x (0)) [0,576,624,16,32] (((0):Int) = ((bif (x.epoch == s.epoch) then (bif (decide (x.ver ≤ s.last)) then (x.ver) else (0)) else (0)):Int))))
 (Nf (ackF_n0 s x (0)) [0,576,624,16,32] (((0):Int) = ((bif (x.epoch == s.epoch) then (bif (decide (x.ver ≤ s.last)) then (x.ver) else (0)) else (0)):Int)))) ∧ ∀ t0:Int,t0 = ((bif (x.epoch == s.epoch) then (bif (decide (x.ver ≤ s.last)) then (x.ver) else (0)) else (0)):Int) →
 ck (cond (decide (0 ≤ (posP s.peers x.src:Int))) (decide ((posP s.peers x.src:Int) < ((s.peers.map Per.v).length:Int))) false)
 (Rf (s.peers.map Per.v) (ck (decide ((posP s.peers x.src:Int).toNat < s.peers.length))
 (∀ x5,s.peers[(posP s.peers x.src:Int).toNat]? = some x5 →
 br (decide (x5.epoch < x.pep))
 (Rf (s.peers.map Per.v) (ck (decide ((posP s.peers x.src:Int).toNat < s.peers.length))
 (∀ y6,s.peers[(posP s.peers x.src:Int).toNat]? = some y6 → Rf (Per.v (⟨y6.router,x.pep,y6.acked⟩:Per))
 (Rf ((s.peers.set ((posP s.peers x.src:Int).toNat) (⟨y6.router,x.pep,y6.acked⟩:Per)).map Per.v) (ck (decide ((posP s.peers x.src:Int).toNat < (s.peers.set ((posP s.peers x.src:Int).toNat) (⟨y6.router,x.pep,y6.acked⟩:Per)).length))
 (∀ y7,(s.peers.set ((posP s.peers x.src:Int).toNat) (⟨y6.router,x.pep,y6.acked⟩:Per))[(posP s.peers x.src:Int).toNat]? = some y7 → Rf (Per.v (⟨y7.router,y7.epoch,t0⟩:Per))
 (Rf (((s.peers.set ((posP s.peers x.src:Int).toNat) (⟨y6.router,x.pep,y6.acked⟩:Per)).set ((posP s.peers x.src:Int).toNat) (⟨y7.router,y7.epoch,t0⟩:Per)).map Per.v) (Rf ((without 0 s.items).map Itm.v) (Rf (ackF_e ((⟨s.router,s.epoch,s.last,without 0 s.items,(s.peers.set ((posP s.peers x.src:Int).toNat) (⟨y6.router,x.pep,y6.acked⟩:Per)).set ((posP s.peers x.src:Int).toNat) (⟨y7.router,y7.epoch,t0⟩:Per)⟩:Spk),0)) (((⟨s.router,s.epoch,s.last,without 0 s.items,(s.peers.set ((posP s.peers x.src:Int).toNat) (⟨y6.router,x.pep,y6.acked⟩:Per)).set ((posP s.peers x.src:Int).toNat) (⟨y7.router,y7.epoch,t0⟩:Per)⟩:Spk),0) = r0))))))))))
 (Rf (s.peers.map Per.v) (ck (decide ((posP s.peers x.src:Int).toNat < s.peers.length))
 (∀ x8,s.peers[(posP s.peers x.src:Int).toNat]? = some x8 →
 br (x.pep == x8.epoch)
 (Rf (s.peers.map Per.v) (ck (decide ((posP s.peers x.src:Int).toNat < s.peers.length))
 (∀ x9,s.peers[(posP s.peers x.src:Int).toNat]? = some x9 →
 Rf (s.peers.map Per.v) (ck (decide ((posP s.peers x.src:Int).toNat < s.peers.length))
 (∀ y10,s.peers[(posP s.peers x.src:Int).toNat]? = some y10 → Rf (Per.v (⟨y10.router,y10.epoch,maxI x9.acked t0⟩:Per))
 (Rf ((s.peers.set ((posP s.peers x.src:Int).toNat) (⟨y10.router,y10.epoch,maxI x9.acked t0⟩:Per)).map Per.v) (Rf ((without 0 s.items).map Itm.v) (Rf (ackF_e ((⟨s.router,s.epoch,s.last,without 0 s.items,s.peers.set ((posP s.peers x.src:Int).toNat) (⟨y10.router,y10.epoch,maxI x9.acked t0⟩:Per)⟩:Spk),0)) (((⟨s.router,s.epoch,s.last,without 0 s.items,s.peers.set ((posP s.peers x.src:Int).toNat) (⟨y10.router,y10.epoch,maxI x9.acked t0⟩:Per)⟩:Spk),0) = r0)))))))))
 (Rf (s.peers.map Per.v) (Rf ((without 0 s.items).map Itm.v) (Rf (ackF_e ((⟨s.router,s.epoch,s.last,without 0 s.items,s.peers⟩:Spk),0)) (((⟨s.router,s.epoch,s.last,without 0 s.items,s.peers⟩:Spk),0) = r0))))))))))))))))))))
theorem ackF_eq (s:Spk) (x:Sig) (r0:Spk × Int):mxP Tryz.prog 32 [.agg [.int s.router,.int s.epoch,.int s.last,.sl 4 (s.items.map Itm.v) false,.sl 3 (s.peers.map Per.v) false],.agg [.int x.kind,.int x.src,.int x.dst,.int x.epoch,.int x.ver,.int x.prev,.int x.pep,.int x.grp,.int x.mode,.sl 1 (x.srcs.map AV.int) false]] (.a [(.a [.k,.k,.k,(.s 4),(.s 3)]),.k]) ackF_e ((.callP (valS_c s)
 (.callP (sigV_c x)
 (.callP (orI_c [valS s,sigErr x])
 (.br 208 (.ret ((⟨0,0,0,[],[]⟩:Spk),orI [valS s,sigErr x]))
 (.br 272 (.ret ((⟨0,0,0,[],[]⟩:Spk),1))
 (.br 368 (.ret ((⟨0,0,0,[],[]⟩:Spk),1))
 (.req 416 (s.peers.Pairwise fun x y=>x.router < y.router) fun h1 =>
 (.req 416 (s.peers.length ≤ 1000000) fun h2 =>
 (.callP (peer_c s x.src h1 h2)
 (.br 544 (.ret ((⟨0,0,0,[],[]⟩:Spk),4))
 (.req 576 (okItms s.items) fun h3 =>
 (.callH [] (copied_h s.items 0 h3)
 (.req 624 (s.peers.length ≤ 1000000) fun h4 =>
 (.callH [] (cloneP_h s.peers h4)
 (.pass (.join 0 (ackF_n0 s x) (fun t0=>t0 = ((bif (x.epoch == s.epoch) then (bif (decide (x.ver ≤ s.last)) then (x.ver) else (0)) else (0)):Int)) (.br 816 (.br 912 (.back 0 ((x.ver):Int) [0,576,624,16,32])
 (.back 0 ((0):Int) [0,576,624,16,32]))
 (.back 0 ((0):Int) [0,576,624,16,32])) fun (t0:Int) =>
 (.el 165 Per.v s.peers fun x5 =>
 (.br 213 (.st 325 Per.v s.peers (fun y6=>(⟨y6.router,x.pep,y6.acked⟩:Per)) fun y6 =>
 (.st 373 Per.v (s.peers.set ((posP s.peers x.src:Int).toNat) (⟨y6.router,x.pep,y6.acked⟩:Per)) (fun y7=>(⟨y7.router,y7.epoch,t0⟩:Per)) fun y7 =>
 (.cmdL (.frzE 2 (((s.peers.set ((posP s.peers x.src:Int).toNat) (⟨y6.router,x.pep,y6.acked⟩:Per)).set ((posP s.peers x.src:Int).toNat) (⟨y7.router,y7.epoch,t0⟩:Per)).map Per.v) (pureBL_map (fun _=>rfl) ((s.peers.set ((posP s.peers x.src:Int).toNat) (⟨y6.router,x.pep,y6.acked⟩:Per)).set ((posP s.peers x.src:Int).toNat) (⟨y7.router,y7.epoch,t0⟩:Per)))) (.cmdL (.frzE 1 ((without 0 s.items).map Itm.v) (pureBL_map (fun _=>rfl) (without 0 s.items))) (.ret ((⟨s.router,s.epoch,s.last,without 0 s.items,(s.peers.set ((posP s.peers x.src:Int).toNat) (⟨y6.router,x.pep,y6.acked⟩:Per)).set ((posP s.peers x.src:Int).toNat) (⟨y7.router,y7.epoch,t0⟩:Per)⟩:Spk),0))))))
 (.el 293 Per.v s.peers fun x8 =>
 (.br 341 (.el 405 Per.v s.peers fun x9 =>
 (.st 485 Per.v s.peers (fun y10=>(⟨y10.router,y10.epoch,maxI x9.acked t0⟩:Per)) fun y10 =>
 (.cmdL (.frzE 2 ((s.peers.set ((posP s.peers x.src:Int).toNat) (⟨y10.router,y10.epoch,maxI x9.acked t0⟩:Per)).map Per.v) (pureBL_map (fun _=>rfl) (s.peers.set ((posP s.peers x.src:Int).toNat) (⟨y10.router,y10.epoch,maxI x9.acked t0⟩:Per)))) (.cmdL (.frzE 1 ((without 0 s.items).map Itm.v) (pureBL_map (fun _=>rfl) (without 0 s.items))) (.ret ((⟨s.router,s.epoch,s.last,without 0 s.items,s.peers.set ((posP s.peers x.src:Int).toNat) (⟨y10.router,y10.epoch,maxI x9.acked t0⟩:Per)⟩:Spk),0))))))
 (.cmdL (.frzE 2 (s.peers.map Per.v) (pureBL_map (fun _=>rfl) s.peers)) (.cmdL (.frzE 1 ((without 0 s.items).map Itm.v) (pureBL_map (fun _=>rfl) (without 0 s.items))) (.ret ((⟨s.router,s.epoch,s.last,without 0 s.items,s.peers⟩:Spk),0)))))))))))))))))))))))):An Tryz.prog ackF_s (Spk × Int)) r0 = ackF_vc s x r0:=by kernel_rfl
theorem ackF_ok (s:Spk) (x:Sig) (r0:Spk × Int) (h:ackF_vc s x r0):PSpec Tryz.prog 32 [.agg [.int s.router,.int s.epoch,.int s.last,.sl 4 (s.items.map Itm.v) false,.sl 3 (s.peers.map Per.v) false],.agg [.int x.kind,.int x.src,.int x.dst,.int x.epoch,.int x.ver,.int x.prev,.int x.pep,.int x.grp,.int x.mode,.sl 1 (x.srcs.map AV.int) false]] (ackF_e r0):=by
  have e:=ackF_eq s x r0
  rw [← e] at h
  exact mxP_ok (enc:=ackF_e) h (AV.pureB_ok rfl)
theorem ackF_p (s:Spk) (x:Sig) (ok:ackF_a s x):ackF_vc s x (ack s x):=by
  simp only [ackF_a,okU,Blk.ok,plainV,List.length_map] at ok
  simp only [ackF_vc,vcU,rfU,List.length_map]
  rw [orI_two]
  by_cases hs:spkOk s
  case neg=>simp [ack,valS,errIf,hs,spk0]
  rw [show valS s = 0 from errIf_pos hs,if_neg (by simp)]
  by_cases hx:sigErr x = 0
  case neg=>simp [ack,hs,hx,spk0]
  refine ⟨fun e=>by simp [hx] at e,fun _=>⟨fun e=>?_,fun e1=>⟨fun e=>?_,fun e2=>?_⟩⟩⟩
  · have e:x.kind ≠ 3:=by simpa using e
    rw [ack,if_neg (not_not_intro hs),if_neg (not_not_intro hx),if_pos (.inl e)]; rfl
  · have e:x.dst ≠ s.router:=by simpa using e
    rw [ack,if_neg (not_not_intro hs),if_neg (not_not_intro hx),if_pos (.inr e)]; rfl
  have e1:x.kind = 3:=by simpa using e1
  have e2:x.dst = s.router:=by simpa using e2
  refine ⟨hs.2.2.2.2.2.2,by have:=hs.2.2.2.2.1; omega,fun e=>?_,fun e=>?_⟩
  · have e:¬ hitP s.peers x.src:=by simpa using e
    rw [ack,if_neg (not_not_intro hs),if_neg (not_not_intro hx),if_neg (by simp [e1,e2]),if_pos e]; rfl
  have e:hitP s.peers x.src:=by simpa using e
  have fin:ack s x = (⟨s.router,s.epoch,s.last,s.items,s.peers.set (posP s.peers x.src) (ackP s x (s.peers.getD (posP s.peers x.src) ⟨0,0,0⟩))⟩,0):=by
    rw [ack,if_neg (not_not_intro hs),if_neg (not_not_intro hx),if_neg (by simp [e1,e2]),if_neg (not_not_intro e)]
  refine ⟨okItms_of hs.2.2.2.1,by have:=hs.2.2.2.2.1; omega,⟨fun a=>⟨fun b=>by simp [a,b],fun b=>by simp [a,b]⟩,fun a=>by simp [a]⟩,?_⟩
  rintro _ rfl
  have hv:(bif x.epoch == s.epoch then bif decide (x.ver ≤ s.last) then x.ver else 0 else 0) = ackV s x:=by
    cases a:x.epoch == s.epoch with
    | true=>cases b:decide (x.ver ≤ s.last) with
      | true=>rw [ackV,if_pos ⟨by simpa using a,by simpa using b⟩]; rfl
      | false=>rw [ackV,if_neg (fun h=>by simp [h.2] at b)]; rfl
    | false=>rw [ackV,if_neg (fun h=>by simp [h.1] at a)]; rfl
  rw [hv,without_zero hs.2.2.2.1]
  have hi:=e.1
  simp only [Int.toNat_natCast]
  refine ⟨by simp; omega,hi,fun p hp=>?_⟩
  rw [getD_some hp] at fin
  refine ⟨fun a=>⟨hi,fun p2 hp2=>?_⟩,fun a=>⟨hi,fun p2 hp2=>⟨fun b=>⟨hi,fun p3 hp3=>⟨hi,fun p4 hp4=>?_⟩⟩,fun b=>?_⟩⟩⟩
  · cases hp.symm.trans hp2
    refine ⟨by simpa using hi,fun q hq=>?_⟩
    rw [List.getElem?_set_self hi] at hq
    cases hq
    rw [fin,ackP,if_pos a,List.set_set]
  · cases hp.symm.trans hp2
    cases hp.symm.trans hp3
    cases hp.symm.trans hp4
    rw [fin,ackP,if_neg a,if_pos (by simpa using b)]
  · cases hp.symm.trans hp2
    rw [fin,ackP,if_neg a,if_neg (by simpa using b)]
    rw [set_same hp]
def ack_c (s:Spk) (x:Sig):PC Tryz.prog:=⟨32,[(.a [.k,.k,.k,(.s 4),(.s 3)]),(.a [.k,.k,.k,.k,.k,.k,.k,.k,.k,(.s 1)])],[.agg [.int s.router,.int s.epoch,.int s.last,.sl 4 (s.items.map Itm.v) false,.sl 3 (s.peers.map Per.v) false],.agg [.int x.kind,.int x.src,.int x.dst,.int x.epoch,.int x.ver,.int x.prev,.int x.pep,.int x.grp,.int x.mode,.sl 1 (x.srcs.map AV.int) false]],ackF_e (ack s x),PSpec.of_ok fun ok=>ackF_ok s x _ (ackF_p s x ok),fnB_ok (by kernel_rfl)⟩
end Go.Proofs.YtglfecmdoekabaaGreatDoor

namespace Go.Proofs.YtglfecmdoekabaaGreatDoor
open Go Go.Am
set_option linter.unusedVariables false
set_option linter.unusedSimpArgs false
theorem Itm.eq_iff {x y:Itm}:x = y ↔ x.ver = y.ver ∧ x.grp = y.grp ∧ x.mode = y.mode ∧ x.srcs = y.srcs:=by
  cases x; cases y; simp
end Go.Proofs.YtglfecmdoekabaaGreatDoor

namespace Go.Proofs.YtglfecmdoekabaaGreatDoor
open Go Go.Am
set_option linter.unusedVariables false
set_option linter.unusedSimpArgs false
theorem fin_weak {k n:Nat} {res:List AR} {r:AV} {h':List (Option Blk)} {s s1:S3} (hw:Weak k n s s1) (h:fin k n res r h' .ret s1):fin k n res r h' .ret s:=by
  obtain ⟨s',g1,g2⟩:=h
  exact ⟨s',hw.trans g1,g2⟩
theorem pureL_append {xs ys:List AV} (h:pureL xs) (h':pureL ys):pureL (xs ++ ys):=by
  rw [pureL_iff] at *
  intro x hx
  rcases List.mem_append.mp hx with hx | hx
  · exact h x hx
  · exact h' x hx
theorem pureL_take {xs:List AV} (h:pureL xs) (n:Nat):pureL (xs.take n):=by
  rw [pureL_iff] at *; exact fun x hx=>h x (List.mem_of_mem_take hx)
theorem pureL_drop {xs:List AV} (h:pureL xs) (n:Nat):pureL (xs.drop n):=by
  rw [pureL_iff] at *; exact fun x hx=>h x (List.mem_of_mem_drop hx)
theorem pureL_insAt {es:List AV} {x:AV} (h:pureL es) (hx:x.pure) (i:Nat):pureL (insAt es i x):=pureL_append (pureL_append (pureL_take h i) ⟨hx,trivial⟩) (pureL_drop h i)
theorem vec_ren {k m:Nat} {es:List AV} {π:Nat → Nat} (h:pureL es):(Blk.vec k es).ren π = .vec k es ∧ (Blk.vec k es).bel m:=⟨by rw [Blk.ren,renL_pure _ h],belL_pure h⟩
def cf92:AF:=
  ⟨95,3,[.tmp 6],
  .seq (.reg [⟨(some 6),.move (.c (.sl 0 [] true)),none⟩])
  (.seq (.reg [⟨(some 10),.move (.t 0),none⟩,⟨(some 11),.move (.t 1),none⟩,⟨(some 12),.slice 4 (.t 10) (some (.t 11)) none none,none⟩])
  (.seq (.reg [⟨(some 13),.move (.t 2),none⟩,⟨(some 14),.len (.t 13),none⟩,⟨(some 7),.move (.t 14),none⟩])
  (.seq (.seq (.reg [⟨(some 15),.move (.t 7),none⟩,⟨(some 16),.bin .eql (.t 15) (.c (.val (.int .i64 0))),none⟩])
  (.cond (.t 16) (.seq (.reg [⟨(some 17),.move (.t 0),none⟩,⟨(some 6),.move (.t 17),none⟩])
  (.ret)) (.skip)))
  (.seq (.reg [⟨(some 18),.move (.t 0),none⟩,⟨(some 19),.len (.t 18),none⟩,⟨(some 8),.move (.t 19),none⟩])
  (.seq (.seq (.reg [⟨(some 20),.move (.t 1),none⟩,⟨(some 21),.move (.t 8),none⟩,⟨(some 22),.bin .eql (.t 20) (.t 21),none⟩])
  (.cond (.t 22) (.seq (.reg [⟨(some 23),.move (.t 0),none⟩,⟨(some 24),.move (.t 2),none⟩,⟨(some 25),.append 4 48 (.t 23) (.t 24),none⟩,⟨(some 6),.move (.t 25),none⟩])
  (.ret)) (.skip)))
  (.seq (.seq (.reg [⟨(some 26),.move (.t 8),none⟩,⟨(some 27),.move (.t 7),none⟩,⟨(some 28),.bin .add (.t 26) (.t 27),none⟩,⟨(some 29),.move (.t 0),none⟩,⟨(some 30),.cap (.t 29),none⟩,⟨(some 31),.bin .gtr (.t 28) (.t 30),none⟩])
  (.cond (.t 31) (.seq (.reg [⟨(some 32),.move (.t 0),none⟩,⟨(some 33),.move (.t 1),none⟩,⟨(some 34),.slice 4 (.t 32) none (some (.t 33)) none,none⟩,⟨(some 35),.move (.t 8),none⟩,⟨(some 36),.move (.t 7),none⟩,⟨(some 37),.bin .add (.t 35) (.t 36),none⟩,⟨(some 38),.move (.t 1),none⟩,⟨(some 39),.bin .sub (.t 37) (.t 38),none⟩,⟨(some 40),.appendZ 4 48 ((.agg [(.val (.int .i64 0)),(.val (.int .i64 0)),(.val (.int .i64 0)),(.sl 0 [] true)])) (.t 34) (.t 39),none⟩,⟨(some 9),.move (.t 40),none⟩])
  (.seq (.reg [⟨(some 41),.move (.t 9),none⟩,⟨(some 42),.move (.t 1),none⟩,⟨(some 43),.slice 4 (.t 41) (some (.t 42)) none none,none⟩,⟨(some 44),.move (.t 2),none⟩,⟨(some 45),.copy 4 (.t 43) (.t 44),none⟩])
  (.seq (.dreg [⟨(some 46),.move (.t 9),none⟩,⟨(some 47),.move (.t 1),none⟩,⟨(some 48),.move (.t 7),none⟩,⟨(some 49),.bin .add (.t 47) (.t 48),none⟩,⟨(some 50),.slice 4 (.t 46) (some (.t 49)) none none,none⟩,⟨(some 51),.move (.t 0),none⟩,⟨(some 52),.move (.t 1),none⟩,⟨(some 53),.slice 4 (.t 51) (some (.t 52)) none none,none⟩,⟨(some 54),.copy 4 (.t 50) (.t 53),none⟩] [(4,7)])
  (.seq (.reg [⟨(some 55),.move (.t 9),none⟩,⟨(some 6),.move (.t 55),none⟩])
  (.ret))))) (.skip)))
  (.seq (.reg [⟨(some 56),.move (.t 0),none⟩,⟨(some 57),.move (.t 8),none⟩,⟨(some 58),.move (.t 7),none⟩,⟨(some 59),.bin .add (.t 57) (.t 58),none⟩,⟨(some 60),.slice 4 (.t 56) none (some (.t 59)) none,none⟩,⟨(some 0),.move (.t 60),none⟩])
  (.seq (.seq (.reg [⟨(some 61),.move (.t 2),none⟩,⟨(some 62),.move (.t 0),none⟩,⟨(some 63),.move (.t 1),none⟩,⟨(some 64),.move (.t 7),none⟩,⟨(some 65),.bin .add (.t 63) (.t 64),none⟩,⟨(some 66),.slice 4 (.t 62) (some (.t 65)) none none,none⟩,⟨(some 67),.call (.c (.func 143 [])) [(.t 61),(.t 66)],none⟩,⟨(some 68),.un .not (.t 67),none⟩])
  (.cond (.t 68) (.seq (.dreg [⟨(some 69),.move (.t 0),none⟩,⟨(some 70),.move (.t 1),none⟩,⟨(some 71),.move (.t 7),none⟩,⟨(some 72),.bin .add (.t 70) (.t 71),none⟩,⟨(some 73),.slice 4 (.t 69) (some (.t 72)) none none,none⟩,⟨(some 74),.move (.t 0),none⟩,⟨(some 75),.move (.t 1),none⟩,⟨(some 76),.slice 4 (.t 74) (some (.t 75)) none none,none⟩,⟨(some 77),.copy 4 (.t 73) (.t 76),none⟩] [(4,7)])
  (.seq (.reg [⟨(some 78),.move (.t 0),none⟩,⟨(some 79),.move (.t 1),none⟩,⟨(some 80),.slice 4 (.t 78) (some (.t 79)) none none,none⟩,⟨(some 81),.move (.t 2),none⟩,⟨(some 82),.copy 4 (.t 80) (.t 81),none⟩])
  (.seq (.reg [⟨(some 83),.move (.t 0),none⟩,⟨(some 6),.move (.t 83),none⟩])
  (.ret)))) (.skip)))
  (.seq (.reg [⟨(some 84),.move (.t 0),none⟩,⟨(some 85),.move (.t 8),none⟩,⟨(some 86),.slice 4 (.t 84) (some (.t 85)) none none,none⟩,⟨(some 87),.move (.t 2),none⟩,⟨(some 88),.copy 4 (.t 86) (.t 87),none⟩])
  (.seq (.reg [⟨(some 89),.move (.t 0),none⟩,⟨(some 90),.move (.t 1),none⟩,⟨(some 91),.slice 4 (.t 89) (some (.t 90)) none none,none⟩,⟨(some 92),.move (.t 7),none⟩,⟨(some 93),.call (.c (.func 144 [])) [(.t 91),(.t 92)],none⟩])
  (.seq (.reg [⟨(some 94),.move (.t 0),none⟩,⟨(some 6),.move (.t 94),none⟩])
  (.ret))))))))))))⟩
theorem cf92_ok:cFunc Tryz.prog Tryz.f92 = some cf92:=by kernel_rfl
theorem overlaps_noneH : (Tryz.f143.name == "runtime.NumGoroutine") = false ∧ Tryz.f143.body.isNone = true := ⟨by kernel_rfl, by kernel_rfl⟩
theorem overlaps_nextH:Extern.findNext Tryz.f143 = none:=by kernel_rfl
theorem overlaps_findH:Extern.find Tryz.f143 = some (Extern.SlicesOverlaps.overlaps #[23,23] #[4]):=by kernel_rfl
theorem overlaps_sizeH:sizeOf? Tryz.prog 51 = some 4:=by kernel_rfl
theorem overlaps_tyH:Program.underlying Tryz.prog 23 = some (.slice 51):=by kernel_rfl
theorem Insert_rowH (es:List AV) (x:AV) (i cap:Nat) (hi:i ≤ es.length) (hx:x.solid = true) (h1:es.length ≤ cap) (h2:cap ≤ maxLen) (hs:es.length ≤ 1000000) (hp:pureL es ∧ x.pure) :
    HSpec Tryz.prog 92 [.vec 0,.int i,.vec 1] [.row 4 es es.length cap,.vec 4 [x]] (.vec 2) [none,none,some (.vec 4 (insAt es i x))]:=by
  have hml:=maxLen_eq
  refine HSpec.walk Tryz.func92 cf92_ok (by simp [cf92]) ?_
  unfold cf92
  simp only [initT,initH,List.length_cons,List.length_nil]
  refine AWP.seq' ?_
  refine AWP.reg' fun K hK=>?_
  try simp only [stepS,stepD,stepM,eq_self,implies_true,forall_eq_or_imp,forall_eq,Nat.reduceEqDiff,↓reduceIte,Nat.reduceAdd,Nat.reduceLeDiff,Nat.reduceSub,Nat.reduceMul,Nat.reduceLT,Int.reduceBEq,Int.reduceBNe,Int.reduceToNat,Int.reduceLT,Int.reduceLE,Int.reduceAdd,Int.reduceSub,Int.reduceMul,reduceCtorEq]
  refine hK _ _ _ ?_
  clear hK K
  refine AWP.seq' ?_
  refine AWP.reg' fun K hK=>?_
  try simp only [stepS,stepD,stepM,eq_self,implies_true,forall_eq_or_imp,forall_eq,Nat.reduceEqDiff,↓reduceIte,Nat.reduceAdd,Nat.reduceLeDiff,Nat.reduceSub,Nat.reduceMul,Nat.reduceLT,Int.reduceBEq,Int.reduceBNe,Int.reduceToNat,Int.reduceLT,Int.reduceLE,Int.reduceAdd,Int.reduceSub,Int.reduceMul,reduceCtorEq]
  repeat (refine And.intro (by omega) ?_)
  refine hK _ _ _ ?_
  clear hK K
  refine AWP.seq' ?_
  refine AWP.reg' fun K hK=>?_
  try simp only [stepS,stepD,stepM,eq_self,implies_true,forall_eq_or_imp,forall_eq,Nat.reduceEqDiff,↓reduceIte,Nat.reduceAdd,Nat.reduceLeDiff,Nat.reduceSub,Nat.reduceMul,Nat.reduceLT,Int.reduceBEq,Int.reduceBNe,Int.reduceToNat,Int.reduceLT,Int.reduceLE,Int.reduceAdd,Int.reduceSub,Int.reduceMul,reduceCtorEq]
  refine hK _ _ _ ?_
  clear hK K
  refine AWP.seq' (AWP.seq' ?_)
  refine AWP.reg' fun K hK=>?_
  try simp only [stepS,stepD,stepM,eq_self,implies_true,forall_eq_or_imp,forall_eq,Nat.reduceEqDiff,↓reduceIte,Nat.reduceAdd,Nat.reduceLeDiff,Nat.reduceSub,Nat.reduceMul,Nat.reduceLT,Int.reduceBEq,Int.reduceBNe,Int.reduceToNat,Int.reduceLT,Int.reduceLE,Int.reduceAdd,Int.reduceSub,Int.reduceMul,reduceCtorEq]
  refine hK _ _ _ ?_
  clear hK K
  refine AWP.cond (b:=false) rfl (fun h=>by cases h) (fun _=>?_)
  refine AWP.skip ?_
  refine AWP.seq' ?_
  refine AWP.reg' fun K hK=>?_
  try simp only [stepS,stepD,stepM,eq_self,implies_true,forall_eq_or_imp,forall_eq,Nat.reduceEqDiff,↓reduceIte,Nat.reduceAdd,Nat.reduceLeDiff,Nat.reduceSub,Nat.reduceMul,Nat.reduceLT,Int.reduceBEq,Int.reduceBNe,Int.reduceToNat,Int.reduceLT,Int.reduceLE,Int.reduceAdd,Int.reduceSub,Int.reduceMul,reduceCtorEq]
  refine hK _ _ _ ?_
  clear hK K
  refine AWP.seq' (AWP.seq' ?_)
  refine AWP.reg' fun K hK=>?_
  try simp only [stepS,stepD,stepM,eq_self,implies_true,forall_eq_or_imp,forall_eq,Nat.reduceEqDiff,↓reduceIte,Nat.reduceAdd,Nat.reduceLeDiff,Nat.reduceSub,Nat.reduceMul,Nat.reduceLT,Int.reduceBEq,Int.reduceBNe,Int.reduceToNat,Int.reduceLT,Int.reduceLE,Int.reduceAdd,Int.reduceSub,Int.reduceMul,reduceCtorEq]
  refine hK _ _ _ ?_
  clear hK K
  refine AWP.cond (b:=((i:Int) == (es.length:Int))) rfl (fun h=>?_) (fun h=>?_)
  · have h:i = es.length:=by have:=eq_of_beq h; omega
    refine AWP.seq' ?_
    refine AWP.reg' fun K hK=>?_
    try simp only [stepS,stepD,stepM,eq_self,implies_true,forall_eq_or_imp,forall_eq,Nat.reduceEqDiff,↓reduceIte,Nat.reduceAdd,Nat.reduceLeDiff,Nat.reduceSub,Nat.reduceMul,Nat.reduceLT,Int.reduceBEq,Int.reduceBNe,Int.reduceToNat,Int.reduceLT,Int.reduceLE,Int.reduceAdd,Int.reduceSub,Int.reduceMul,reduceCtorEq,appendA,srcA]
    repeat (refine And.intro (by omega) ?_)
    refine hK _ _ _ ?_
    clear hK K
    refine AWP.ret (fin_ren [0,1,274] [(6,.vec 2)] rfl rfl ?_ ?_ rfl (by simp) ?_ (by simp))
    · simp only [List.mem_singleton,forall_eq]
      exact ⟨rfl,show (2:Nat) < 3 by omega⟩
    · refine ⟨⟨?_,?_⟩,trivial⟩
      · rw [(vec_ren (m:=0) (pureL_insAt hp.1 hp.2 i)).1]
        show some (Blk.vec 4 (es ++ [x])) = _
        rw [insAt,h,List.take_length,List.drop_length,List.append_nil]
      · exact (vec_ren (π:=id) (pureL_insAt hp.1 hp.2 i)).2
    · intro b hb
      match b,hb with
      | 0,_=>rfl
      | 1,_=>rfl
  have h:¬ i = es.length:=by intro e; subst e; simp at h
  refine AWP.skip ?_
  refine AWP.seq' (AWP.seq' ?_)
  have w1:IntKind.i64.wrap ((es.length:Int) + 1) = es.length + 1:=wrap64 (by omega)
  refine AWP.reg' fun K hK=>?_
  try simp only [stepS,stepD,stepM,eq_self,implies_true,forall_eq_or_imp,forall_eq,Nat.reduceEqDiff,↓reduceIte,Nat.reduceAdd,Nat.reduceLeDiff,Nat.reduceSub,Nat.reduceMul,Nat.reduceLT,Int.reduceBEq,Int.reduceBNe,Int.reduceToNat,Int.reduceLT,Int.reduceLE,Int.reduceAdd,Int.reduceSub,Int.reduceMul,reduceCtorEq,w1]
  refine hK _ _ _ ?_
  clear hK K
  refine AWP.cond (b:=decide ((cap:Int) < (es.length:Int) + 1)) rfl (fun h3=>?_) (fun h3=>?_)
  · have h3:cap = es.length:=by have:=of_decide_eq_true h3; omega
    refine AWP.seq' ?_
    have w2:IntKind.i64.wrap ((es.length:Int) + 1 - i) = es.length + 1 - i:=wrap64 (by omega)
    have hlt:¬ ((es.length:Int) < (i:Int)):=by omega
    refine AWP.reg' fun K hK=>?_
    try simp only [stepS,stepD,stepM,eq_self,implies_true,forall_eq_or_imp,forall_eq,Nat.reduceEqDiff,↓reduceIte,Nat.reduceAdd,Nat.reduceLeDiff,Nat.reduceSub,Nat.reduceMul,Nat.reduceLT,Int.reduceBEq,Int.reduceBNe,Int.reduceToNat,Int.reduceLT,Int.reduceLE,Int.reduceAdd,Int.reduceSub,Int.reduceMul,reduceCtorEq,w1,w2,appendZA,Int.toNat_natCast,hlt]
    repeat (refine And.intro (by omega) ?_)
    refine hK _ _ _ ?_
    clear hK K
    have hn:((es.length:Int) + 1 - i).toNat = es.length + 1 - i:=by omega
    rw [hn]
    generalize hL:es.take i ++ List.replicate (es.length + 1 - i) (AV.agg [AV.val (Value.int IntKind.i64 0),AV.val (Value.int IntKind.i64 0),AV.val (Value.int IntKind.i64 0),AV.sl 0 [] true]) = L
    have hLl:L.length = es.length + 1:=by rw [← hL]; simp; omega
    refine AWP.seq' ?_
    have hpos:0 < es.length + 1:=by omega
    have hsub:(((es.length + 1:Nat):Int) - (i:Int)).toNat = es.length + 1 - i:=by omega
    have hmin:Nat.min 1 (es.length + 1 - i) = 1:=Nat.min_eq_left (by omega)
    refine AWP.reg' fun K hK=>?_
    try simp only [stepS,stepD,stepM,eq_self,implies_true,forall_eq_or_imp,forall_eq,Nat.reduceEqDiff,↓reduceIte,Nat.reduceAdd,Nat.reduceLeDiff,Nat.reduceSub,Nat.reduceMul,Nat.reduceLT,Int.reduceBEq,Int.reduceBNe,Int.reduceToNat,Int.reduceLT,Int.reduceLE,Int.reduceAdd,Int.reduceSub,Int.reduceMul,reduceCtorEq,hLl,copyA,srcP,srcA,Int.toNat_natCast,hpos,hsub,hmin]
    repeat (refine And.intro (by omega) ?_)
    refine hK _ _ _ ?_
    clear hK K
    have ht1:List.take 1 [x] = [x]:=rfl
    have w3:IntKind.i64.wrap ((i:Int) + 1) = i + 1:=wrap64 (by omega)
    generalize hM:over L i [x] = M
    have hMl:M.length = es.length + 1:=by rw [← hM,over_length (by omega),Nat.max_def]; split <;> simp at * <;> omega
    refine AWP.seq' ?_
    have ha:((es.length:Int) - (i:Int)).toNat = es.length - i:=by omega
    have hb:(((es.length + 1:Nat):Int) - ((i:Int) + 1)).toNat = es.length - i:=by omega
    have hc:((i:Int) + 1).toNat = i + 1:=by omega
    have hd:Nat.min (es.length - i) (es.length - i) = es.length - i:=Nat.min_self _
    have he:(es.drop i).take (es.length - i) = es.drop i:=List.take_of_length_le (by simp)
    have hf:(es.drop i).length = es.length - i:=List.length_drop ..
    refine AWP.dreg' fun K hK=>?_
    try simp only [stepS,stepD,stepM,eq_self,implies_true,forall_eq_or_imp,forall_eq,Nat.reduceEqDiff,↓reduceIte,Nat.reduceAdd,Nat.reduceLeDiff,Nat.reduceSub,Nat.reduceMul,Nat.reduceLT,Int.reduceBEq,Int.reduceBNe,Int.reduceToNat,Int.reduceLT,Int.reduceLE,Int.reduceAdd,Int.reduceSub,Int.reduceMul,reduceCtorEq,hMl,copyA,srcP,srcA,Int.toNat_natCast,hpos,w3,ha,hb,hc,hd,he,hf]
    repeat (refine And.intro (by omega) ?_)
    refine ⟨by rfl,hK _ _ _ ?_⟩
    clear hK K
    refine AWP.seq' ?_
    refine AWP.reg' fun K hK=>?_
    try simp only [stepS,stepD,stepM,eq_self,implies_true,forall_eq_or_imp,forall_eq,Nat.reduceEqDiff,↓reduceIte,Nat.reduceAdd,Nat.reduceLeDiff,Nat.reduceSub,Nat.reduceMul,Nat.reduceLT,Int.reduceBEq,Int.reduceBNe,Int.reduceToNat,Int.reduceLT,Int.reduceLE,Int.reduceAdd,Int.reduceSub,Int.reduceMul,reduceCtorEq]
    refine hK _ _ _ ?_
    clear hK K
    have hfin:over M (i + 1) (es.drop i) = insAt es i x:=by
      have hLi:L.take i = es.take i:=by
        rw [← hL,List.take_append_of_le_length (by simp; omega),List.take_take,Nat.min_self]
      have hMi:M.take (i + 1) = es.take i ++ [x]:=by
        have e1:(es.take i ++ [x]).length = i + 1:=by simp; omega
        rw [← hM,over,hLi,← e1]
        exact List.take_left
      have hMd:M.drop (i + 1 + (es.drop i).length) = []:=List.drop_of_length_le (by rw [hMl,hf]; omega)
      unfold over insAt
      rw [hMi,hMd,List.append_nil]
    refine AWP.ret (fin_ren [0,1,466] [(6,.vec 2)] rfl rfl ?_ ?_ rfl (by simp) ?_ (by simp))
    · simp only [List.mem_singleton,forall_eq]
      exact ⟨rfl,show (2:Nat) < 3 by omega⟩
    · refine ⟨⟨?_,?_⟩,trivial⟩
      · rw [(vec_ren (m:=0) (pureL_insAt hp.1 hp.2 i)).1,← hfin]
        rfl
      · exact (vec_ren (π:=id) (pureL_insAt hp.1 hp.2 i)).2
    · intro b hb
      match b,hb with
      | 0,_=>rfl
      | 1,_=>rfl
  have h3:es.length + 1 ≤ cap:=by have:=of_decide_eq_false h3; omega
  refine AWP.skip ?_
  refine AWP.seq' ?_
  have hgt:((es.length:Int) < (es.length:Int) + 1):=by omega
  refine AWP.reg' fun K hK=>?_
  try simp only [stepS,stepD,stepM,eq_self,implies_true,forall_eq_or_imp,forall_eq,Nat.reduceEqDiff,↓reduceIte,Nat.reduceAdd,Nat.reduceLeDiff,Nat.reduceSub,Nat.reduceMul,Nat.reduceLT,Int.reduceBEq,Int.reduceBNe,Int.reduceToNat,Int.reduceLT,Int.reduceLE,Int.reduceAdd,Int.reduceSub,Int.reduceMul,reduceCtorEq,w1,hgt]
  repeat (refine And.intro (by omega) ?_)
  refine hK _ _ _ ?_
  clear hK K
  have w3:IntKind.i64.wrap ((i:Int) + 1) = i + 1:=wrap64 (by omega)
  refine AWP.seq' (AWP.seq' ?_)
  have hn1:((es.length:Int) + 1).toNat = es.length + 1:=by omega
  refine AWP.reg' fun K hK=>?_
  try simp only [stepS,stepD,stepM,eq_self,implies_true,forall_eq_or_imp,forall_eq,Nat.reduceEqDiff,↓reduceIte,Nat.reduceAdd,Nat.reduceLeDiff,Nat.reduceSub,Nat.reduceMul,Nat.reduceLT,Int.reduceBEq,Int.reduceBNe,Int.reduceToNat,Int.reduceLT,Int.reduceLE,Int.reduceAdd,Int.reduceSub,Int.reduceMul,reduceCtorEq,w3,Int.toNat_natCast,hn1]
  repeat (refine And.intro (by omega) ?_)
  refine evT_ext rfl rfl (ext_overlaps Tryz.func143 overlaps_noneH.1 overlaps_noneH.2 overlaps_nextH overlaps_findH overlaps_tyH overlaps_sizeH (by omega) rfl rfl (by omega) (by simp) (by omega)) ?_
  try simp only [stepS,stepD,stepM,eq_self,implies_true,forall_eq_or_imp,forall_eq,Nat.reduceEqDiff,↓reduceIte,Nat.reduceAdd,Nat.reduceLeDiff,Nat.reduceSub,Nat.reduceMul,Nat.reduceLT,Int.reduceBEq,Int.reduceBNe,Int.reduceToNat,Int.reduceLT,Int.reduceLE,Int.reduceAdd,Int.reduceSub,Int.reduceMul,reduceCtorEq,w3]
  refine hK _ _ _ ?_
  clear hK K
  refine AWP.cond (b:=true) rfl (fun _=>?_) (fun h=>by cases h)
  refine AWP.seq' ?_
  have hb:(((es.length + 1:Nat):Int) - ((i:Int) + 1)).toNat = es.length - i:=by omega
  have hc:((i:Int) + 1).toNat = i + 1:=by omega
  have hsub:(((es.length + 1:Nat):Int) - (i:Int)).toNat = es.length + 1 - i:=by omega
  have hd:Nat.min (es.length + 1 - i) (es.length - i) = es.length - i:=Nat.min_eq_right (by omega)
  have he:(es.drop i).take (es.length + 1 - i) = es.drop i:=List.take_of_length_le (by simp; omega)
  have he2:(es.drop i).take (es.length - i) = es.drop i:=List.take_of_length_le (by simp)
  have hf:(es.drop i).length = es.length - i:=List.length_drop ..
  refine AWP.dreg' fun K hK=>?_
  try simp only [stepS,stepD,stepM,eq_self,implies_true,forall_eq_or_imp,forall_eq,Nat.reduceEqDiff,↓reduceIte,Nat.reduceAdd,Nat.reduceLeDiff,Nat.reduceSub,Nat.reduceMul,Nat.reduceLT,Int.reduceBEq,Int.reduceBNe,Int.reduceToNat,Int.reduceLT,Int.reduceLE,Int.reduceAdd,Int.reduceSub,Int.reduceMul,reduceCtorEq,w3,copyA,srcP,srcA,Int.toNat_natCast,hb,hc,hsub,hd,he,he2,hf]
  repeat (refine And.intro (by omega) ?_)
  refine ⟨by rfl,hK _ _ _ ?_⟩
  clear hK K
  have hMl:(over es (i + 1) (es.drop i)).length = es.length + 1:=by simp [over]; omega
  have hMt:(over es (i + 1) (es.drop i)).take i = es.take i:=by
    unfold over
    rw [List.append_assoc,List.take_append_of_le_length (by simp; omega),List.take_take,Nat.min_eq_left (by omega)]
  have hMd:(over es (i + 1) (es.drop i)).drop (i + 1) = es.drop i:=by
    unfold over
    have e1:(es.take (i + 1)).length = i + 1:=by simp; omega
    have e2:es.drop (i + 1 + (es.drop i).length) = []:=List.drop_of_length_le (by simp; omega)
    rw [e2,List.append_nil]
    have e3:=List.drop_left (l₁:=es.take (i + 1)) (l₂:=es.drop i)
    rw [e1] at e3; exact e3
  generalize hM:over es (i + 1) (es.drop i) = M at *
  refine AWP.seq' ?_
  have hsub:(((es.length + 1:Nat):Int) - (i:Int)).toNat = es.length + 1 - i:=by omega
  have hmin:Nat.min 1 (es.length + 1 - i) = 1:=Nat.min_eq_left (by omega)
  have ht1:List.take 1 [x] = [x]:=rfl
  refine AWP.reg' fun K hK=>?_
  try simp only [stepS,stepD,stepM,eq_self,implies_true,forall_eq_or_imp,forall_eq,Nat.reduceEqDiff,↓reduceIte,Nat.reduceAdd,Nat.reduceLeDiff,Nat.reduceSub,Nat.reduceMul,Nat.reduceLT,Int.reduceBEq,Int.reduceBNe,Int.reduceToNat,Int.reduceLT,Int.reduceLE,Int.reduceAdd,Int.reduceSub,Int.reduceMul,reduceCtorEq,hMl,copyA,srcP,srcA,Int.toNat_natCast,hsub,hmin]
  repeat (refine And.intro (by omega) ?_)
  refine hK _ _ _ ?_
  clear hK K
  refine AWP.seq' ?_
  refine AWP.reg' fun K hK=>?_
  try simp only [stepS,stepD,stepM,eq_self,implies_true,forall_eq_or_imp,forall_eq,Nat.reduceEqDiff,↓reduceIte,Nat.reduceAdd,Nat.reduceLeDiff,Nat.reduceSub,Nat.reduceMul,Nat.reduceLT,Int.reduceBEq,Int.reduceBNe,Int.reduceToNat,Int.reduceLT,Int.reduceLE,Int.reduceAdd,Int.reduceSub,Int.reduceMul,reduceCtorEq]
  refine hK _ _ _ ?_
  clear hK K
  have hfin:over M i [x] = insAt es i x:=by
    unfold over insAt
    rw [hMt,show i + [x].length = i + 1 from rfl,hMd]
  have hfl:(insAt es i x).length = es.length + 1:=by unfold insAt; simp; omega
  rw [hfin]
  refine AWP.ret (fin_weak (Weak.row (b:=402) (cap:=cap) (k:=4) (es:=insAt es i x) (by rw [hfl]; rfl)) (fin_ren [0,1,402] [(6,.vec 2)] rfl rfl ?_ ?_ rfl (by simp) ?_ (by simp)))
  · simp only [List.mem_singleton,forall_eq]
    exact ⟨rfl,show (2:Nat) < 3 by omega⟩
  · refine ⟨⟨?_,?_⟩,trivial⟩
    · rw [(vec_ren (m:=0) (pureL_insAt hp.1 hp.2 i)).1]
      rfl
    · exact (vec_ren (π:=id) (pureL_insAt hp.1 hp.2 i)).2
  · intro b hb
    match b,hb with
    | 0,_=>rfl
    | 1,_=>rfl
theorem Insert_nilH (x:AV) (hx:x.solid = true) (hp:x.pure) :
    HSpec Tryz.prog 92 [.vec 0,.int 0,.vec 1] [.vec 4 [],.vec 4 [x]] (.vec 2) [none,none,some (.vec 4 [x])]:=by
  have hml:=maxLen_eq
  refine HSpec.walk Tryz.func92 cf92_ok (by simp [cf92]) ?_
  unfold cf92
  simp only [initT,initH,List.length_cons,List.length_nil]
  refine AWP.seq' ?_
  refine AWP.reg' fun K hK=>?_
  try simp only [stepS,stepD,stepM,eq_self,implies_true,forall_eq_or_imp,forall_eq,Nat.reduceEqDiff,↓reduceIte,Nat.reduceAdd,Nat.reduceLeDiff,Nat.reduceSub,Nat.reduceMul,Nat.reduceLT,Int.reduceBEq,Int.reduceBNe,Int.reduceToNat,Int.reduceLT,Int.reduceLE,Int.reduceAdd,Int.reduceSub,Int.reduceMul,reduceCtorEq]
  refine hK _ _ _ ?_
  clear hK K
  refine AWP.seq' ?_
  refine AWP.reg' fun K hK=>?_
  try simp only [stepS,stepD,stepM,eq_self,implies_true,forall_eq_or_imp,forall_eq,Nat.reduceEqDiff,↓reduceIte,Nat.reduceAdd,Nat.reduceLeDiff,Nat.reduceSub,Nat.reduceMul,Nat.reduceLT,Int.reduceBEq,Int.reduceBNe,Int.reduceToNat,Int.reduceLT,Int.reduceLE,Int.reduceAdd,Int.reduceSub,Int.reduceMul,reduceCtorEq]
  refine hK _ _ _ ?_
  clear hK K
  refine AWP.seq' ?_
  refine AWP.reg' fun K hK=>?_
  try simp only [stepS,stepD,stepM,eq_self,implies_true,forall_eq_or_imp,forall_eq,Nat.reduceEqDiff,↓reduceIte,Nat.reduceAdd,Nat.reduceLeDiff,Nat.reduceSub,Nat.reduceMul,Nat.reduceLT,Int.reduceBEq,Int.reduceBNe,Int.reduceToNat,Int.reduceLT,Int.reduceLE,Int.reduceAdd,Int.reduceSub,Int.reduceMul,reduceCtorEq]
  refine hK _ _ _ ?_
  clear hK K
  refine AWP.seq' (AWP.seq' ?_)
  refine AWP.reg' fun K hK=>?_
  try simp only [stepS,stepD,stepM,eq_self,implies_true,forall_eq_or_imp,forall_eq,Nat.reduceEqDiff,↓reduceIte,Nat.reduceAdd,Nat.reduceLeDiff,Nat.reduceSub,Nat.reduceMul,Nat.reduceLT,Int.reduceBEq,Int.reduceBNe,Int.reduceToNat,Int.reduceLT,Int.reduceLE,Int.reduceAdd,Int.reduceSub,Int.reduceMul,reduceCtorEq]
  refine hK _ _ _ ?_
  clear hK K
  refine AWP.cond (b:=false) rfl (fun h=>by cases h) (fun _=>?_)
  refine AWP.skip ?_
  refine AWP.seq' ?_
  refine AWP.reg' fun K hK=>?_
  try simp only [stepS,stepD,stepM,eq_self,implies_true,forall_eq_or_imp,forall_eq,Nat.reduceEqDiff,↓reduceIte,Nat.reduceAdd,Nat.reduceLeDiff,Nat.reduceSub,Nat.reduceMul,Nat.reduceLT,Int.reduceBEq,Int.reduceBNe,Int.reduceToNat,Int.reduceLT,Int.reduceLE,Int.reduceAdd,Int.reduceSub,Int.reduceMul,reduceCtorEq]
  refine hK _ _ _ ?_
  clear hK K
  refine AWP.seq' (AWP.seq' ?_)
  refine AWP.reg' fun K hK=>?_
  try simp only [stepS,stepD,stepM,eq_self,implies_true,forall_eq_or_imp,forall_eq,Nat.reduceEqDiff,↓reduceIte,Nat.reduceAdd,Nat.reduceLeDiff,Nat.reduceSub,Nat.reduceMul,Nat.reduceLT,Int.reduceBEq,Int.reduceBNe,Int.reduceToNat,Int.reduceLT,Int.reduceLE,Int.reduceAdd,Int.reduceSub,Int.reduceMul,reduceCtorEq]
  refine hK _ _ _ ?_
  clear hK K
  refine AWP.cond (b:=true) rfl (fun h=>?_) (fun h=>by cases h)
  refine AWP.seq' ?_
  refine AWP.reg' fun K hK=>?_
  try simp only [stepS,stepD,stepM,eq_self,implies_true,forall_eq_or_imp,forall_eq,Nat.reduceEqDiff,↓reduceIte,Nat.reduceAdd,Nat.reduceLeDiff,Nat.reduceSub,Nat.reduceMul,Nat.reduceLT,Int.reduceBEq,Int.reduceBNe,Int.reduceToNat,Int.reduceLT,Int.reduceLE,Int.reduceAdd,Int.reduceSub,Int.reduceMul,reduceCtorEq,appendA,srcA]
  repeat (refine And.intro (by omega) ?_)
  refine hK _ _ _ ?_
  clear hK K
  refine AWP.ret (fin_ren [0,1,274] [(6,.vec 2)] rfl rfl ?_ ?_ rfl (by simp) ?_ (by simp))
  · simp only [List.mem_singleton,forall_eq]
    exact ⟨rfl,show (2:Nat) < 3 by omega⟩
  · have hp':pureL [x]:=⟨hp,trivial⟩
    refine ⟨⟨?_,?_⟩,trivial⟩
    · rw [(vec_ren (m:=0) hp').1]
      rfl
    · exact (vec_ren (π:=id) hp').2
  · intro b hb
    match b,hb with
    | 0,_=>rfl
    | 1,_=>rfl
theorem Insert_specH (es:List AV) (x:AV) (i:Nat) (hi:i ≤ es.length) (hx:x.solid = true) (hs:es.length ≤ 1000000) (hp:pureL es ∧ x.pure) :
    HSpec Tryz.prog 92 [.vec 0,.int i,.vec 1] [.vec 4 es,.vec 4 [x]] (.vec 2) [none,none,some (.vec 4 (insAt es i x))]:=by
  refine HSpec.of_row (fun cap h1 h2=>Insert_rowH es x i cap hi hx h1 h2 hs hp) (fun h=>?_)
  subst h
  have:i = 0:=by simpa using hi
  subst this
  exact Insert_nilH x hx hp.2
theorem Insert_fnH:FnOk Tryz.prog 92:=fnB_ok (by kernel_rfl)
theorem BlkOk.mapSub {w:World} {A:Nat → Prop} {μ:Mu} {hd:Hd} {k:Nat} {es:List AV} {f:AV → AV} (h:∀ x,Sub x (f x)) (hy:∀ x ∈ es.map f,x.solid = true) (q:BlkOk w A μ hd (.vec k es)):BlkOk w A μ hd (.vec k (es.map f)):=by
  obtain ⟨q2,q3⟩:=q
  refine ⟨q2,?_⟩
  rcases q3 with ⟨rfl,q⟩ | ⟨a1,a2,a3,a4,C,ty,vs,a5,a6,a7,a8⟩
  · exact .inl ⟨rfl,q⟩
  · exact .inr ⟨a1,by rw [List.length_map]; exact a2,a3,a4,C,ty,vs,a5,RVL.mapSub h a6,hy,a8⟩
theorem HSpec.subH {P:Program} {f:FuncId} {args:List AV} {hs1 hs2:List Blk} {r:AV} {h':List (Option Blk)} (hl:hs1.length = hs2.length)
    (hsub:∀ (i:Nat) x y,hs1[i]? = some x → hs2[i]? = some y → ∀ w A μ hd,BlkOk w A μ hd x → BlkOk w A μ hd y) (h:HSpec P f args hs2 r h'):HSpec P f args hs1 r h':=by
  intro w A μ cargs g1 g2 g3
  have to:∀ b x,hpOf (hs2.map some) b = some x → ∃ y,hpOf (hs1.map some) b = some y ∧ ∀ hd,BlkOk w A μ hd y → BlkOk w A μ hd x:=by
    intro b x hx
    rw [hpOf_some] at hx
    have hb:=lt_of_get hx
    exact ⟨hs1[b],hpOf_some.mpr (List.getElem?_eq_getElem (by omega)),fun hd q=>hsub b _ x (List.getElem?_eq_getElem (by omega)) hx w A μ hd q⟩
  have own':ownOf μ (hpOf (hs2.map some)) = ownOf μ (hpOf (hs1.map some)):=by
    funext b
    refine propext ⟨?_,?_⟩
    · rintro ⟨i,x,hd',a1,a2,a3,a4⟩
      obtain ⟨y,b1,_⟩:=to i x a1
      exact ⟨i,y,hd',b1,a2,a3,a4⟩
    · rintro ⟨i,x,hd',a1,a2,a3,a4⟩
      rw [hpOf_some] at a1
      have hi:=lt_of_get a1
      exact ⟨i,hs2[i],hd',hpOf_some.mpr (List.getElem?_eq_getElem (by omega)),a2,a3,a4⟩
  have:=h w A μ cargs ⟨fun b x hx=>?_,fun b b' x x' hd1 hd2 hx hx'=>?_,g1.lt⟩ (by rw [← hl]; exact g2) g3
  · rw [own'] at this; exact this
  · obtain ⟨y,b1,b2⟩:=to b x hx
    obtain ⟨hd',c1,c2,c3⟩:=g1.blk b y b1
    exact ⟨hd',c1,b2 hd' c2,c3⟩
  · obtain ⟨y,b1,_⟩:=to b x hx
    obtain ⟨y',b1',_⟩:=to b' x' hx'
    exact g1.inj b b' y y' hd1 hd2 b1 b1'
theorem insAt_map {α β:Type} (f:α → β) (l:List α) (i:Nat) (x:α):insAt (l.map f) i (f x) = (insAt l i x).map f:=by
  simp [insAt]
def insH_h (l:List Hrd) (r:Int) (i:Nat) (hi:i ≤ l.length) (hl:l.length ≤ 1000000):HC Tryz.prog:=
  ⟨92,[.k,.k,.k],[.vec 0,.int i,.vec 1],[.vec 4 (l.map Hrd.v),.vec 4 [.agg [.int r,.int 0,.int 0,.sl 0 [] true]]],.vec 2,[none,none,some (.vec 4 ((insAt l i ⟨r,0,0,[]⟩).map Hrd.v))],by
    have h:=Insert_specH (l.map Hrd.v) (Hrd.v ⟨r,0,0,[]⟩) i (by simpa using hi) rfl (by simpa using hl) ⟨pureBL_ok (pureBL_map (fun _=>rfl) l),AV.pureB_ok rfl⟩
    rw [insAt_map] at h
    refine HSpec.subH (hs2:=[.vec 4 (l.map Hrd.v),.vec 4 [Hrd.v ⟨r,0,0,[]⟩]]) rfl (fun j x y hx hy w A μ hd q=>?_) h
    rcases j with _ | _ | j
    · cases hx; cases hy; exact q
    · cases hx; cases hy; exact BlkOk.mapSub (f:=fitA (.a [.k,.k,.k,.s 4])) (fitA_sub _) (by intro x hx; simp only [List.map_cons,List.map_nil,List.mem_singleton] at hx; subst hx; rfl) q
    · simp at hx,Insert_fnH,HcOk.of (by simp [hcB,belBL,AV.belB,allB,okBk,okBkO,pureBL_map (v:=Hrd.v) (fun _=>rfl),pureBL,AV.pureB])⟩
end Go.Proofs.YtglfecmdoekabaaGreatDoor
