/- Two lists of wants are the same; SessionSettles. -/
import Derived.Test.YtglfecmdoekabaaGreatDoorU6
namespace Go.Proofs.YtglfecmdoekabaaGreatDoor
open Go Go.Am
set_option linter.unusedVariables false
set_option linter.unusedSimpArgs false
def sameW_a (a : (List Wnt)) (b : (List Wnt)) : Prop := okL [.sl 3 (a.map Wnt.v) false, .sl 3 (b.map Wnt.v) false]
def sameW_n0 (a : (List Wnt)) (b : (List Wnt)) (t0 : Int) : NF := ⟨[(0, .k, .sl 3 (a.map Wnt.v) false), (1, .k, .sl 3 (b.map Wnt.v) false), (5, .k, .int t0)], []⟩
def sameW_s : Nat → Type
  | 0 => Int
  | _ => Unit
def sameW_e (r : Bool) : AV := .bool r
def sameW_vc (a : (List Wnt)) (b : (List Wnt)) (I0 : Int → Prop) (m0 : Int → Nat) (r0 : Bool) : Prop :=
 br (((a.map Wnt.v).length : Int) != ((b.map Wnt.v).length : Int))
 (Rf (sameW_e (false)) ((false) = r0))
 (Nf (sameW_n0 a b (0)) [] (I0 (0)) ∧ ∀ t0 : Int, I0 t0 →
 br (decide (t0 < ((a.map Wnt.v).length : Int)))
 (Rf (a.map Wnt.v) (ck (decide (0 ≤ t0)) (ck (decide (t0 < (a.length : Int)))
 (∀ x1, a[t0.toNat]? = some x1 →
 Rf (b.map Wnt.v) (ck (decide (0 ≤ t0)) (ck (decide (t0 < (b.length : Int)))
 (∀ x2, b[t0.toNat]? = some x2 →
 br (x1.grp != x2.grp)
 (Rf (sameW_e (false)) ((false) = r0))
 (Rf (a.map Wnt.v) (ck (decide (0 ≤ t0)) (ck (decide (t0 < (a.length : Int)))
 (∀ x3, a[t0.toNat]? = some x3 →
 Rf (b.map Wnt.v) (ck (decide (0 ≤ t0)) (ck (decide (t0 < (b.length : Int)))
 (∀ x4, b[t0.toNat]? = some x4 →
 Cl (FSame_c (⟨x3.mode, x3.srcs⟩ : Flt) (⟨x4.mode, x4.srcs⟩ : Flt))
 (br (!(FSame (⟨x3.mode, x3.srcs⟩ : Flt) (⟨x4.mode, x4.srcs⟩ : Flt)))
 (Rf (sameW_e (false)) ((false) = r0))
 (Nf (sameW_n0 a b (W (t0 + 1))) [] (I0 (W (t0 + 1)) ∧ m0 (W (t0 + 1)) < m0 t0)))))))))))))))))
 (Rf (sameW_e (true)) ((true) = r0)))
theorem sameW_eq (a : (List Wnt)) (b : (List Wnt)) (I0 : Int → Prop) (m0 : Int → Nat) (r0 : Bool) : mxP Tryz.prog 25 [.sl 3 (a.map Wnt.v) false, .sl 3 (b.map Wnt.v) false] .k sameW_e ((.br 96 (.ret (false))
 (.loop 0 (sameW_n0 a b) (I0) (m0) ((0) : Int) [] fun (t0 : Int) =>
 (.br 64 (.el 96 Wnt.v a fun x1 =>
 (.el 176 Wnt.v b fun x2 =>
 (.br 256 (.ret (false))
 (.el 288 Wnt.v a fun x3 =>
 (.el 368 Wnt.v b fun x4 =>
 (.callP (FSame_c (⟨x3.mode, x3.srcs⟩ : Flt) (⟨x4.mode, x4.srcs⟩ : Flt))
 (.br 464 (.ret (false))
 (.back 0 ((W (t0 + 1)) : Int) []))))))))
 (.ret (true))))) : An Tryz.prog sameW_s (Bool)) r0 = sameW_vc a b I0 m0 r0 := by kernel_rfl
theorem sameW_ok (a : (List Wnt)) (b : (List Wnt)) (I0 : Int → Prop) (m0 : Int → Nat) (r0 : Bool) (h : sameW_vc a b I0 m0 r0) : PSpec Tryz.prog 25 [.sl 3 (a.map Wnt.v) false, .sl 3 (b.map Wnt.v) false] (sameW_e r0) := by
  have e := sameW_eq a b I0 m0 r0
  rw [← e] at h
  exact mxP_ok (enc := sameW_e) h (AV.pureB_ok rfl)
theorem Wnt.eq_iff {x y : Wnt} : x = y ↔ x.grp = y.grp ∧ x.mode = y.mode ∧ x.srcs = y.srcs := by cases x; cases y; simp
theorem sameW_p (a b : List Wnt) (ok : sameW_a a b) : ∃ I m, sameW_vc a b I m (decide (a = b)) := by
  simp only [sameW_a, okU, Blk.ok, plainV, List.length_map] at ok
  refine ⟨fun t => ∃ k : Nat, t = k ∧ k ≤ a.length ∧ a.take k = b.take k, fun t => a.length - t.toNat, ?_⟩
  simp only [sameW_vc, vcU, rfU, List.length_map]
  refine ⟨fun e => (decide_eq_false fun h => by subst h; simp at e).symm, fun e => ⟨⟨0, rfl, by omega, rfl⟩, ?_⟩⟩
  have e : a.length = b.length := by simp at e; omega
  rintro _ ⟨k, rfl, hk, h⟩
  simp only [Int.toNat_natCast]
  refine ⟨fun h1 => ⟨by omega, by omega, fun x hx => ⟨by omega, by omega, fun y hy => ?_⟩⟩, fun h1 => ?_⟩
  · have bad : x ≠ y → false = decide (a = b) := fun hne => (decide_eq_false fun hh => by
      subst hh
      cases hx.symm.trans hy
      exact hne rfl).symm
    refine ⟨fun c => bad fun q => by subst q; simp at c, fun c => ⟨by omega, by omega, fun x2 hx2 => ⟨by omega, by omega, fun y2 hy2 => ?_⟩⟩⟩
    cases hx.symm.trans hx2
    cases hy.symm.trans hy2
    refine ⟨fun c3 => bad fun q => by subst q; simp [FSame] at c3, fun c3 => ?_⟩
    have q : x = y := by
      rw [Wnt.eq_iff]
      have c3 : FSame ⟨x.mode, x.srcs⟩ ⟨y.mode, y.srcs⟩ = true := by simpa using c3
      have c3 := of_decide_eq_true c3
      simp only [Flt.mk.injEq] at c3
      exact ⟨by simpa using c, c3⟩
    subst q
    rw [W_succ (n := a.length) (by omega) (by omega)]
    exact ⟨⟨k + 1, rfl, by omega, by rw [take_succ hx, take_succ hy, h]⟩, by omega⟩
  · rw [List.take_of_length_le (by omega), List.take_of_length_le (by omega)] at h
    exact (decide_eq_true h).symm
def sameW_c (a : (List Wnt)) (b : (List Wnt)) : PC Tryz.prog := ⟨25, [(.s 3), (.s 3)], [.sl 3 (a.map Wnt.v) false, .sl 3 (b.map Wnt.v) false], sameW_e (decide (a = b)), PSpec.of_ok fun ok => (sameW_p a b ok).elim fun I0 h => h.elim fun m0 h => sameW_ok a b I0 m0 _ h, fnB_ok (by kernel_rfl)⟩
def settles_a (t : (List Int)) : Prop := okL [.sl 1 (t.map AV.int) false]
def settles_n0 (t : (List Int)) (t0 : Int × Lsn × Spk) : NF := ⟨[(4, .k, .ref 0 0), (5, .k, .ref 1 0), (7, .k, .int t0.1)], [.box (.agg [.int t0.2.2.router, .int t0.2.2.epoch, .int t0.2.2.last, .sl 4 (t0.2.2.items.map Itm.v) false, .sl 3 (t0.2.2.peers.map Per.v) false]), .box (.agg [.int t0.2.1.router, .int t0.2.1.epoch, .sl 4 (t0.2.1.heard.map Hrd.v) false])]⟩
def settles_n1 (t : (List Int)) (t0 : Int × Lsn × Spk) (t1 : Int × Lsn × Spk) : NF := ⟨[(4, .k, .ref 0 0), (5, .k, .ref 1 0), (7, .k, .int t0.1), (40, .k, .sl 10 (((send t0.2.2 2).1).map Sig.v) false), (41, .k, .int ((((send t0.2.2 2).1).map Sig.v).length : Int)), (42, .k, .int t1.1)], [.box (.agg [.int t1.2.2.router, .int t1.2.2.epoch, .int t1.2.2.last, .sl 4 (t1.2.2.items.map Itm.v) false, .sl 3 (t1.2.2.peers.map Per.v) false]), .box (.agg [.int t1.2.1.router, .int t1.2.1.epoch, .sl 4 (t1.2.1.heard.map Hrd.v) false])]⟩
def settles_s : Nat → Type
  | 0 => Int × Lsn × Spk
  | 1 => Int × Lsn × Spk
  | _ => Unit
def settles_e (r : Bool) : AV := .bool r
def settles_vc (t : (List Int)) (I0 : (Int × Lsn × Spk) → Prop) (m0 : (Int × Lsn × Spk) → Nat) (I1 : Int × Lsn × Spk → (Int × Lsn × Spk) → Prop) (m1 : Int × Lsn × Spk → (Int × Lsn × Spk) → Nat) (r0 : Bool) : Prop :=
 Ch (New_h t) [] 32
 (∃ h1 : 0 ≤ 30 ∧ 30 ≤ 100,
 Ch (exch_h (⟨t.take 2000, 0⟩ : Tap).L (⟨t.take 2000, 0⟩ : Tap).p 30 true h1) [32] 80
 (br (!((stps (⟨t.take 2000, 0⟩ : Tap).L true (⟨t.take 2000, 0⟩ : Tap).p (Int.toNat 30)).e == 0))
 (Rf (settles_e (false)) ((false) = r0))
 (Nf (settles_n0 t (0, (stps (⟨t.take 2000, 0⟩ : Tap).L true (⟨t.take 2000, 0⟩ : Tap).p (Int.toNat 30)).l, (stps (⟨t.take 2000, 0⟩ : Tap).L true (⟨t.take 2000, 0⟩ : Tap).p (Int.toNat 30)).a)) [160, 176] (I0 (0, (stps (⟨t.take 2000, 0⟩ : Tap).L true (⟨t.take 2000, 0⟩ : Tap).p (Int.toNat 30)).l, (stps (⟨t.take 2000, 0⟩ : Tap).L true (⟨t.take 2000, 0⟩ : Tap).p (Int.toNat 30)).a)) ∧ ∀ t0 : Int × Lsn × Spk, I0 t0 →
 br (decide (t0.1 < 2))
 (Cl (send_c t0.2.2 2)
 (br (((send t0.2.2 2).2) != 0)
 (Rf (settles_e (false)) ((false) = r0))
 (Nf (settles_n1 t t0 (0, t0.2.1, t0.2.2)) [0, 1] (I1 t0 (0, t0.2.1, t0.2.2)) ∧ ∀ t1 : Int × Lsn × Spk, I1 t0 t1 →
 br (decide (t1.1 < ((((send t0.2.2 2).1).map Sig.v).length : Int)))
 (Rf (((send t0.2.2 2).1).map Sig.v) (ck (decide (0 ≤ t1.1)) (ck (decide (t1.1 < (((send t0.2.2 2).1).length : Int)))
 (∀ x2, ((send t0.2.2 2).1)[t1.1.toNat]? = some x2 →
 Cl (hear_c t1.2.1 x2)
 (br (((hear t1.2.1 x2).2) != 0)
 (Rf (settles_e (false)) ((false) = r0))
 (Cl (ack_c t1.2.2 ((hear t1.2.1 x2).1.2))
 (br (((ack t1.2.2 ((hear t1.2.1 x2).1.2)).2) != 0)
 (Rf (settles_e (false)) ((false) = r0))
 (Nf (settles_n1 t t0 (W (t1.1 + 1), (hear t1.2.1 x2).1.1, (ack t1.2.2 ((hear t1.2.1 x2).1.2)).1)) [0, 1] (I1 t0 (W (t1.1 + 1), (hear t1.2.1 x2).1.1, (ack t1.2.2 ((hear t1.2.1 x2).1.2)).1) ∧ m1 t0 (W (t1.1 + 1), (hear t1.2.1 x2).1.1, (ack t1.2.2 ((hear t1.2.1 x2).1.2)).1) < m1 t0 t1)))))))))
 (Nf (settles_n0 t (W (t0.1 + 1), t1.2.1, t1.2.2)) [0, 1] (I0 (W (t0.1 + 1), t1.2.1, t1.2.2) ∧ m0 (W (t0.1 + 1), t1.2.1, t1.2.2) < m0 t0)))))
 (Cl (agree_c t0.2.2 t0.2.1)
 (br (!(decide (agree t0.2.2 t0.2.1)))
 (Rf (settles_e (false)) ((false) = r0))
 (br (((t0.2.2.peers.map Per.v).length : Int) != 1)
 (Rf (settles_e (false)) ((false) = r0))
 (Rf (t0.2.2.peers.map Per.v) (ck (decide (0 < (t0.2.2.peers.length : Int)))
 (∀ x3, t0.2.2.peers[0]? = some x3 →
 br (x3.acked != t0.2.2.last)
 (Rf (settles_e (false)) ((false) = r0))
 (Cl (send_c t0.2.2 2)
 (br (((send t0.2.2 2).2) == 0)
 (br (((((send t0.2.2 2).1).map Sig.v).length : Int) == 1)
 (Cl (knownF_c t0.2.1 1)
 (Cl (wantsF_c t0.2.2.items)
 (Cl (sameW_c (knownW t0.2.1 1) (wantsOf t0.2.2.items))
 (br (decide ((knownW t0.2.1 1) = (wantsOf t0.2.2.items)))
 (Cl (awake_c )
 (Rf (settles_e (true)) ((true) = r0)))
 (Rf (settles_e (false)) ((false) = r0))))))
 (Rf (settles_e (false)) ((false) = r0)))
 (Rf (settles_e (false)) ((false) = r0)))))))))))))
theorem settles_eq (t : (List Int)) (I0 : (Int × Lsn × Spk) → Prop) (m0 : (Int × Lsn × Spk) → Nat) (I1 : Int × Lsn × Spk → (Int × Lsn × Spk) → Prop) (m1 : Int × Lsn × Spk → (Int × Lsn × Spk) → Nat) (r0 : Bool) : mxP Tryz.prog 4 [.sl 1 (t.map AV.int) false] .k settles_e ((.callH [] (New_h t)
 (.req 80 (0 ≤ 30 ∧ 30 ≤ 100) fun h1 =>
 (.callH [32] (exch_h (⟨t.take 2000, 0⟩ : Tap).L (⟨t.take 2000, 0⟩ : Tap).p 30 true h1)
 (.br 272 (.ret (false))
 (.loop 0 (settles_n0 t) (I0) (m0) ((0, (stps (⟨t.take 2000, 0⟩ : Tap).L true (⟨t.take 2000, 0⟩ : Tap).p (Int.toNat 30)).l, (stps (⟨t.take 2000, 0⟩ : Tap).L true (⟨t.take 2000, 0⟩ : Tap).p (Int.toNat 30)).a) : Int × Lsn × Spk) [160, 176] fun (t0 : Int × Lsn × Spk) =>
 (.br 34 (.callP (send_c t0.2.2 2)
 (.br 178 (.ret (false))
 (.loop 1 (settles_n1 t t0) (I1 t0) (m1 t0) ((0, t0.2.1, t0.2.2) : Int × Lsn × Spk) [0, 1] fun (t1 : Int × Lsn × Spk) =>
 (.br 18 (.el 18 Sig.v ((send t0.2.2 2).1) fun x2 =>
 (.callP (hear_c t1.2.1 x2)
 (.br 306 (.ret (false))
 (.callP (ack_c t1.2.2 ((hear t1.2.1 x2).1.2))
 (.br 514 (.ret (false))
 (.back 1 ((W (t1.1 + 1), (hear t1.2.1 x2).1.1, (ack t1.2.2 ((hear t1.2.1 x2).1.2)).1) : Int × Lsn × Spk) [0, 1]))))))
 (.back 0 ((W (t0.1 + 1), t1.2.1, t1.2.2) : Int × Lsn × Spk) [0, 1])))))
 (.callP (agree_c t0.2.2 t0.2.1)
 (.br 114 (.ret (false))
 (.br 210 (.ret (false))
 (.el 242 Per.v t0.2.2.peers fun x3 =>
 (.br 354 (.ret (false))
 (.callP (send_c t0.2.2 2)
 (.br 514 (.br 594 (.callP (knownF_c t0.2.1 1)
 (.callP (wantsF_c t0.2.2.items)
 (.callP (sameW_c (knownW t0.2.1 1) (wantsOf t0.2.2.items))
 (.br 722 (.callP (awake_c )
 (.ret (true)))
 (.ret (false))))))
 (.ret (false)))
 (.ret (false))))))))))))))) : An Tryz.prog settles_s (Bool)) r0 = settles_vc t I0 m0 I1 m1 r0 := by kernel_rfl
theorem settles_ok (t : (List Int)) (I0 : (Int × Lsn × Spk) → Prop) (m0 : (Int × Lsn × Spk) → Nat) (I1 : Int × Lsn × Spk → (Int × Lsn × Spk) → Prop) (m1 : Int × Lsn × Spk → (Int × Lsn × Spk) → Nat) (r0 : Bool) (h : settles_vc t I0 m0 I1 m1 r0) : PSpec Tryz.prog 4 [.sl 1 (t.map AV.int) false] (settles_e r0) := by
  have e := settles_eq t I0 m0 I1 m1 r0
  rw [← e] at h
  exact mxP_ok (enc := settles_e) h (AV.pureB_ok rfl)
def rtN (s : Spk × Lsn) : Nat → Spk × Lsn
  | 0 => s
  | k + 1 => rt (rtN s k)
theorem settles_p (t : List Int) (ok : settles_a t) : ∃ I0 m0 I1 m1, settles_vc t I0 m0 I1 m1 true := by
  obtain ⟨hi, he⟩ := stps_inv2 (L := t.take 2000) (r := true) (p := 0) 30 (by omega)
  have hs := hi.si
  generalize hS : stps (t.take 2000) true 0 30 = s at *
  have hN : ∀ k, SI (rtN (s.a, s.l) k) := fun k => by
    induction k with
    | zero => exact hs
    | succ k ih => exact (rt_ok ih).si
  refine ⟨fun t => ∃ k : Nat, k ≤ 2 ∧ t = ((k : Int), (rtN (s.a, s.l) k).2, (rtN (s.a, s.l) k).1), fun t => 2 - t.1.toNat,
    fun t0 t => ∃ j : Nat, j ≤ (send t0.2.2 2).1.length ∧ t = ((j : Int), (((send t0.2.2 2).1.take j).foldl rt1 (t0.2.2, t0.2.1)).2, (((send t0.2.2 2).1.take j).foldl rt1 (t0.2.2, t0.2.1)).1), fun t0 t => (send t0.2.2 2).1.length - t.1.toNat, ?_⟩
  simp only [settles_vc, vcU, rfU, List.length_map]
  rw [show Int.toNat 30 = 30 from rfl, hS, he]
  refine ⟨by omega, fun q => by simp at q, fun _ => ⟨⟨0, by omega, rfl⟩, ?_⟩⟩
  rintro _ ⟨k, hk, rfl⟩
  have hk' := hN k
  generalize hu : rtN (s.a, s.l) k = u at *
  obtain ⟨a, l⟩ := u
  simp only
  obtain ⟨v1, w1⟩ := send_val hk'.aok hk'.hp
  have hlen := sendFrom_len (s := a) (to := 2) (acked := (pOf a.peers 2).acked) (r := a.items) (prev := 0)
  have hit : a.items.length ≤ 99 := itms_len hk'.aok.2.2.2.1
  have hls : (send a 2).1.length ≤ 100 := by
    simp only at v1
    rw [v1]; simp only [List.length_cons]; omega
  refine ⟨fun h1 => ⟨fun h2 => ?_, fun h2 => ⟨⟨0, by omega, rfl⟩, ?_⟩⟩, fun h1 => ?_⟩
  · simp only at v1; rw [v1] at h2; simp at h2
  · rintro _ ⟨j, hj, rfl⟩
    simp only [Int.toNat_natCast]
    refine ⟨fun h3 => ⟨by omega, by omega, fun x hx => ?_⟩, fun h3 => ?_⟩
    · obtain ⟨q1, q2⟩ := (rts_ok hk' w1).2 j x hx
      refine ⟨fun q => by rw [q1] at q; simp at q, fun _ => ⟨fun q => by rw [q2] at q; simp at q, fun _ => ?_⟩⟩
      rw [W_succ (n := (send a 2).1.length) (by omega) (by omega)]
      refine ⟨⟨j + 1, by omega, ?_⟩, by omega⟩
      rw [take_succ hx, List.foldl_append]
      rfl
    · have e : (send a 2).1.take j = (send a 2).1 := List.take_of_length_le (by omega)
      rw [e, W_succ (n := 2) (by omega) (by omega)]
      refine ⟨⟨k + 1, by omega, ?_⟩, by omega⟩
      show _ = (((k + 1 : Nat) : Int), (rt (rtN (s.a, s.l) k)).2, (rt (rtN (s.a, s.l) k)).1)
      rw [hu]; rfl
  · have hk2 : k = 2 := by omega
    subst hk2
    have hd := (settle hs).2
    have e2 : rt (rt (s.a, s.l)) = (a, l) := hu
    rw [e2] at hd
    obtain ⟨f1, ⟨p, f2, f3⟩, f4, f5, f6⟩ := settled hk' hd
    simp only at f1 f2 f3 f4 f5 f6
    refine ⟨fun q => by simp [f1] at q, fun _ => ⟨fun q => by rw [f2] at q; simp at q, fun _ => ⟨by rw [f2]; simp, fun x hx => ?_⟩⟩⟩
    rw [f2] at hx
    simp only [List.getElem?_cons_zero, Option.some.injEq] at hx
    subst hx
    refine ⟨fun q => by simp [f3] at q, fun _ => ⟨fun _ => ⟨fun _ => ⟨fun _ => trivial, fun q => absurd f6 q⟩, fun q => ?_⟩, fun q => ?_⟩⟩
    · rw [f5] at q; simp at q
    · rw [f4] at q; simp at q
def settles_c (t : (List Int)) : PC Tryz.prog := ⟨4, [(.s 1)], [.sl 1 (t.map AV.int) false], settles_e true, PSpec.of_ok fun ok => (settles_p t ok).elim fun I0 h => h.elim fun m0 h => h.elim fun I1 h => h.elim fun m1 h => settles_ok t I0 m0 I1 m1 _ h, fnB_ok (by kernel_rfl)⟩
end Go.Proofs.YtglfecmdoekabaaGreatDoor
