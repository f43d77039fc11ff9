/- A listener that holds what it should. -/
import Derived.Test.YtglfecmdoekabaaGreatDoorG11
namespace Go.Proofs.YtglfecmdoekabaaGreatDoor
open Go Go.Am
set_option linter.unusedVariables false
set_option linter.unusedSimpArgs false
theorem okL_mem' : ∀ {l : List AV}, okL l → ∀ {x}, x ∈ l → x.ok
  | y :: l, h, x, hx => by
    rcases List.mem_cons.mp hx with rfl | hx
    · exact h.1
    · exact okL_mem' h.2 hx
def hold1 (a : Spk) (l : Lsn) (h : Hrd) : Prop := h.router = a.router → h.epoch = a.epoch → (∀ x ∈ a.items, x.ver ≤ h.ver → x ∈ h.items) ∧ (agree a l ↔ h.ver = a.last)
instance (a : Spk) (l : Lsn) : Decidable (holdsP a l) := by unfold holdsP; infer_instance
def holds_a (a : Spk) (l : Lsn) : Prop := okL [.agg [.int a.router, .int a.epoch, .int a.last, .sl 4 (a.items.map Itm.v) false, .sl 3 (a.peers.map Per.v) false], .agg [.int l.router, .int l.epoch, .sl 4 (l.heard.map Hrd.v) false]]
def holds_n0 (a : Spk) (l : Lsn) (t0 : Int) : NF := ⟨[(2, .k, .ref 0 0), (3, .k, .ref 1 0), (13, .k, .sl 4 (l.heard.map Hrd.v) false), (14, .k, .int ((l.heard.map Hrd.v).length : Int)), (15, .k, .int t0)], [.box (.agg [.int a.router, .int a.epoch, .int a.last, .sl 4 (a.items.map Itm.v) false, .sl 3 (a.peers.map Per.v) false]), .box (.agg [.int l.router, .int l.epoch, .sl 4 (l.heard.map Hrd.v) false])]⟩
def holds_n1 (a : Spk) (l : Lsn) (t0 : Int) (x1 : Hrd) (t1 : Int) : NF := ⟨[(2, .k, .ref 0 0), (3, .k, .ref 1 0), (6, .k, .ref 2 0), (13, .k, .sl 4 (l.heard.map Hrd.v) false), (14, .k, .int ((l.heard.map Hrd.v).length : Int)), (15, .k, .int t0), (25, .k, .ref 2 1), (26, .k, .int x1.epoch), (27, .k, .ref 0 1), (28, .k, .int a.epoch), (29, .k, .bool (x1.epoch != a.epoch)), (32, .k, .sl 4 (a.items.map Itm.v) false), (33, .k, .int ((a.items.map Itm.v).length : Int)), (34, .k, .int t1)], [.box (.agg [.int a.router, .int a.epoch, .int a.last, .sl 4 (a.items.map Itm.v) false, .sl 3 (a.peers.map Per.v) false]), .box (.agg [.int l.router, .int l.epoch, .sl 4 (l.heard.map Hrd.v) false]), .box (.agg [.int x1.router, .int x1.epoch, .int x1.ver, .sl 4 (x1.items.map Itm.v) false])]⟩
def holds_n2 (a : Spk) (l : Lsn) (t0 : Int) (x1 : Hrd) (t1 : Int) (x2 : Itm) (t2 : Bool × Int) : NF := ⟨[(2, .k, .ref 0 0), (3, .k, .ref 1 0), (6, .k, .ref 2 0), (8, .k, .ref 3 0), (9, .k, .bool t2.1), (13, .k, .sl 4 (l.heard.map Hrd.v) false), (14, .k, .int ((l.heard.map Hrd.v).length : Int)), (15, .k, .int t0), (25, .k, .ref 2 1), (26, .k, .int x1.epoch), (27, .k, .ref 0 1), (28, .k, .int a.epoch), (29, .k, .bool (x1.epoch != a.epoch)), (32, .k, .sl 4 (a.items.map Itm.v) false), (33, .k, .int ((a.items.map Itm.v).length : Int)), (34, .k, .int t1), (44, .k, .sl 4 (x1.items.map Itm.v) false), (45, .k, .int ((x1.items.map Itm.v).length : Int)), (46, .k, .int t2.2)], [.box (.agg [.int a.router, .int a.epoch, .int a.last, .sl 4 (a.items.map Itm.v) false, .sl 3 (a.peers.map Per.v) false]), .box (.agg [.int l.router, .int l.epoch, .sl 4 (l.heard.map Hrd.v) false]), .box (.agg [.int x1.router, .int x1.epoch, .int x1.ver, .sl 4 (x1.items.map Itm.v) false]), .box (.agg [.int x2.ver, .int x2.grp, .int x2.mode, .sl 1 (x2.srcs.map AV.int) false])]⟩
def holds_s : Nat → Type
  | 0 => Int
  | 1 => Int
  | 2 => Bool × Int
  | _ => Unit
def holds_e (r : Bool) : AV := .bool r
def holds_vc (a : Spk) (l : Lsn) (I0 : Int → Prop) (m0 : Int → Nat) (I1 : Int → Hrd → Int → Prop) (m1 : Int → Hrd → Int → Nat) (I2 : Int → Hrd → Int → Itm → (Bool × Int) → Prop) (m2 : Int → Hrd → Int → Itm → (Bool × Int) → Nat) (r0 : Bool) : Prop :=
 Nf (holds_n0 a l (0)) [0, 16] (I0 (0)) ∧ ∀ t0 : Int, I0 t0 →
 br (decide (t0 < ((l.heard.map Hrd.v).length : Int)))
 (Rf (l.heard.map Hrd.v) (ck (decide (0 ≤ t0)) (ck (decide (t0 < (l.heard.length : Int)))
 (∀ x1, l.heard[t0.toNat]? = some x1 →
 br (x1.router != a.router)
 (Nf (holds_n0 a l (W (t0 + 1))) [0, 1] (I0 (W (t0 + 1)) ∧ m0 (W (t0 + 1)) < m0 t0))
 (br (x1.epoch != a.epoch)
 (Nf (holds_n0 a l (W (t0 + 1))) [0, 1] (I0 (W (t0 + 1)) ∧ m0 (W (t0 + 1)) < m0 t0))
 (Nf (holds_n1 a l t0 x1 (0)) [0, 1, 50] (I1 t0 x1 (0)) ∧ ∀ t1 : Int, I1 t0 x1 t1 →
 br (decide (t1 < ((a.items.map Itm.v).length : Int)))
 (Rf (a.items.map Itm.v) (ck (decide (0 ≤ t1)) (ck (decide (t1 < (a.items.length : Int)))
 (∀ x2, a.items[t1.toNat]? = some x2 →
 br (decide (x1.ver < x2.ver))
 (Nf (holds_n1 a l t0 x1 (W (t1 + 1))) [0, 1, 2] (I1 t0 x1 (W (t1 + 1)) ∧ m1 t0 x1 (W (t1 + 1)) < m1 t0 x1 t1))
 (Nf (holds_n2 a l t0 x1 t1 x2 (false, 0)) [0, 1, 2, 51] (I2 t0 x1 t1 x2 (false, 0)) ∧ ∀ t2 : Bool × Int, I2 t0 x1 t1 x2 t2 →
 br (decide (t2.2 < ((x1.items.map Itm.v).length : Int)))
 (Rf (x1.items.map Itm.v) (ck (decide (0 ≤ t2.2)) (ck (decide (t2.2 < (x1.items.length : Int)))
 (∀ x3, x1.items[t2.2.toNat]? = some x3 →
 br t2.1
 (Nf (holds_n2 a l t0 x1 t1 x2 (true, W (t2.2 + 1))) [0, 1, 2, 3] (I2 t0 x1 t1 x2 (true, W (t2.2 + 1)) ∧ m2 t0 x1 t1 x2 (true, W (t2.2 + 1)) < m2 t0 x1 t1 x2 t2))
 (Cl (sameI_c [x2] [x3])
 (Nf (holds_n2 a l t0 x1 t1 x2 (decide ([x2] = [x3]), W (t2.2 + 1))) [0, 1, 2, 3] (I2 t0 x1 t1 x2 (decide ([x2] = [x3]), W (t2.2 + 1)) ∧ m2 t0 x1 t1 x2 (decide ([x2] = [x3]), W (t2.2 + 1)) < m2 t0 x1 t1 x2 t2)))))))
 (br (!t2.1)
 (Rf (holds_e (false)) ((false) = r0))
 (Nf (holds_n1 a l t0 x1 (W (t1 + 1))) [0, 1, 2] (I1 t0 x1 (W (t1 + 1)) ∧ m1 t0 x1 (W (t1 + 1)) < m1 t0 x1 t1))))))))
 (Cl (agree_c a l)
 (br (!((decide (agree a l)) == (x1.ver == a.last)))
 (Rf (holds_e (false)) ((false) = r0))
 (Nf (holds_n0 a l (W (t0 + 1))) [0, 1] (I0 (W (t0 + 1)) ∧ m0 (W (t0 + 1)) < m0 t0))))))))))
 (Rf (holds_e (true)) ((true) = r0))
theorem holds_eq (a : Spk) (l : Lsn) (I0 : Int → Prop) (m0 : Int → Nat) (I1 : Int → Hrd → Int → Prop) (m1 : Int → Hrd → Int → Nat) (I2 : Int → Hrd → Int → Itm → (Bool × Int) → Prop) (m2 : Int → Hrd → Int → Itm → (Bool × Int) → Nat) (r0 : Bool) : mxP Tryz.prog 100 [.agg [.int a.router, .int a.epoch, .int a.last, .sl 4 (a.items.map Itm.v) false, .sl 3 (a.peers.map Per.v) false], .agg [.int l.router, .int l.epoch, .sl 4 (l.heard.map Hrd.v) false]] .k holds_e ((.loop 0 (holds_n0 a l) (I0) (m0) ((0) : Int) [0, 16] fun (t0 : Int) =>
 (.br 18 (.el 18 Hrd.v l.heard fun x1 =>
 (.br 178 (.back 0 ((W (t0 + 1)) : Int) [0, 1])
 (.br 274 (.back 0 ((W (t0 + 1)) : Int) [0, 1])
 (.loop 1 (holds_n1 a l t0 x1) (I1 t0 x1) (m1 t0 x1) ((0) : Int) [0, 1, 50] fun (t1 : Int) =>
 (.br 19 (.el 19 Itm.v a.items fun x2 =>
 (.br 163 (.back 1 ((W (t1 + 1)) : Int) [0, 1, 2])
 (.loop 2 (holds_n2 a l t0 x1 t1 x2) (I2 t0 x1 t1 x2) (m2 t0 x1 t1 x2) ((false, 0) : Bool × Int) [0, 1, 2, 51] fun (t2 : Bool × Int) =>
 (.br 20 (.el 20 Itm.v x1.items fun x3 =>
 (.br 116 (.back 2 ((true, W (t2.2 + 1)) : Bool × Int) [0, 1, 2, 3])
 (.callP (sameI_c [x2] [x3])
 (.back 2 ((decide ([x2] = [x3]), W (t2.2 + 1)) : Bool × Int) [0, 1, 2, 3]))))
 (.br 52 (.ret (false))
 (.back 1 ((W (t1 + 1)) : Int) [0, 1, 2]))))))
 (.callP (agree_c a l)
 (.br 163 (.ret (false))
 (.back 0 ((W (t0 + 1)) : Int) [0, 1]))))))))
 (.ret (true)))) : An Tryz.prog holds_s (Bool)) r0 = holds_vc a l I0 m0 I1 m1 I2 m2 r0 := by kernel_rfl
theorem holds_ok (a : Spk) (l : Lsn) (I0 : Int → Prop) (m0 : Int → Nat) (I1 : Int → Hrd → Int → Prop) (m1 : Int → Hrd → Int → Nat) (I2 : Int → Hrd → Int → Itm → (Bool × Int) → Prop) (m2 : Int → Hrd → Int → Itm → (Bool × Int) → Nat) (r0 : Bool) (h : holds_vc a l I0 m0 I1 m1 I2 m2 r0) : PSpec Tryz.prog 100 [.agg [.int a.router, .int a.epoch, .int a.last, .sl 4 (a.items.map Itm.v) false, .sl 3 (a.peers.map Per.v) false], .agg [.int l.router, .int l.epoch, .sl 4 (l.heard.map Hrd.v) false]] (holds_e r0) := by
  have e := holds_eq a l I0 m0 I1 m1 I2 m2 r0
  rw [← e] at h
  exact mxP_ok (enc := holds_e) h (AV.pureB_ok rfl)
theorem holds_p (a : Spk) (l : Lsn) (ok : holds_a a l) : ∃ I0 m0 I1 m1 I2 m2, holds_vc a l I0 m0 I1 m1 I2 m2 (decide (holdsP a l)) := by
  simp only [holds_a, okU, Blk.ok, plainV, List.length_map] at ok
  refine ⟨fun t => ∃ k : Nat, t = k ∧ k ≤ l.heard.length ∧ ∀ h ∈ l.heard.take k, hold1 a l h, fun t => l.heard.length - t.toNat,
    fun _ h t => ∃ k : Nat, t = k ∧ k ≤ a.items.length ∧ ∀ x ∈ a.items.take k, x.ver ≤ h.ver → x ∈ h.items, fun _ _ t => a.items.length - t.toNat,
    fun _ h _ x t => ∃ k : Nat, t.2 = k ∧ k ≤ h.items.length ∧ t.1 = decide (x ∈ h.items.take k), fun _ h _ _ t => h.items.length - t.2.toNat, ?_⟩
  simp only [holds_vc, vcU, rfU, List.length_map]
  refine ⟨⟨0, rfl, by omega, by simp⟩, ?_⟩
  rintro _ ⟨k, rfl, hk, h0⟩
  simp only [Int.toNat_natCast]
  refine ⟨fun h1 => ⟨by omega, by omega, fun h hx => ?_⟩, fun h1 => ?_⟩
  · have next : hold1 a l h → (∃ k' : Nat, W ((k : Int) + 1) = k' ∧ k' ≤ l.heard.length ∧ ∀ h ∈ l.heard.take k', hold1 a l h) ∧ l.heard.length - (W ((k : Int) + 1)).toNat < l.heard.length - k := fun hh => by
      rw [W_succ (n := l.heard.length) (by omega) (by omega)]
      exact ⟨⟨k + 1, rfl, by omega, all_take h0 hx hh⟩, by omega⟩
    have bad : ¬ hold1 a l h → false = decide (holdsP a l) := fun hn => (decide_eq_false fun hh => hn (hh h (mem_of_get hx))).symm
    refine ⟨fun e => next fun q => by simp [q] at e, fun e1 => ⟨fun e => next fun _ q => by simp [q] at e, fun e2 => ?_⟩⟩
    have e1 : h.router = a.router := by simpa using e1
    have e2 : h.epoch = a.epoch := by simpa using e2
    refine ⟨⟨0, rfl, by omega, by simp⟩, ?_⟩
    rintro _ ⟨j, rfl, hj, hi⟩
    simp only [Int.toNat_natCast]
    refine ⟨fun h2 => ⟨by omega, by omega, fun x hx2 => ?_⟩, fun h2 => ?_⟩
    · have next2 : (x.ver ≤ h.ver → x ∈ h.items) → (∃ k' : Nat, W ((j : Int) + 1) = k' ∧ k' ≤ a.items.length ∧ ∀ x ∈ a.items.take k', x.ver ≤ h.ver → x ∈ h.items) ∧ a.items.length - (W ((j : Int) + 1)).toNat < a.items.length - j := fun hh => by
        rw [W_succ (n := a.items.length) (by omega) (by omega)]
        exact ⟨⟨j + 1, rfl, by omega, all_take hi hx2 hh⟩, by omega⟩
      refine ⟨fun e => next2 fun q => by omega, fun e3 => ⟨⟨0, rfl, by omega, by simp⟩, ?_⟩⟩
      rintro ⟨f, _⟩ ⟨i, rfl, hii, hf⟩
      simp only [Int.toNat_natCast] at hf ⊢
      have hil : h.items.length ≤ 9223372036854775807 := by
        have := okL_mem' ok.2.2.2.2 (List.mem_map.mpr ⟨h, mem_of_get hx, rfl⟩)
        simp only [Hrd.v, itms, AV.ok, okL, List.length_map] at this
        exact this.2.2.2.1.1
      refine ⟨fun h3 => ⟨by omega, by omega, fun z hz => ⟨fun e4 => ?_, fun e4 => ?_⟩⟩, fun h3 => ⟨fun e4 => ?_, fun e4 => ?_⟩⟩
      · rw [W_succ (n := h.items.length) (by omega) hil]
        refine ⟨⟨i + 1, rfl, by omega, ?_⟩, by omega⟩
        rw [e4] at hf
        have := of_decide_eq_true hf.symm
        exact (decide_eq_true (by rw [take_succ hz]; exact List.mem_append_left _ this)).symm
      · rw [W_succ (n := h.items.length) (by omega) hil]
        refine ⟨⟨i + 1, rfl, by omega, ?_⟩, by omega⟩
        rw [e4] at hf
        have := of_decide_eq_false hf.symm
        rw [take_succ hz]
        exact decide_eq_decide.mpr (by simp [this])
      · have hx3 : x ∉ h.items := by
          have e4 : f = false := by simpa using e4
          rw [e4, List.take_of_length_le (by omega)] at hf
          exact of_decide_eq_false hf.symm
        exact bad fun q => hx3 ((q e1 e2).1 x (mem_of_get hx2) (by omega))
      · have hx3 : x ∈ h.items := by
          have e4 : f = true := by simpa using e4
          rw [e4, List.take_of_length_le (by omega)] at hf
          exact of_decide_eq_true hf.symm
        exact next2 fun _ => hx3
    · rw [List.take_of_length_le (by omega)] at hi
      have hb : (decide (agree a l) == (h.ver == a.last)) = true ↔ (agree a l ↔ h.ver = a.last) := by
        rw [beq_iff_eq, Bool.eq_iff_iff, decide_eq_true_iff, beq_iff_eq]
      refine ⟨fun e => bad fun q => ?_, fun e => next fun _ _ => ⟨hi, ?_⟩⟩
      · rw [hb.mpr (q e1 e2).2] at e; cases e
      · exact hb.mp (by simpa using e)
  · rw [List.take_of_length_le (by omega)] at h0
    exact (decide_eq_true (p := holdsP a l) h0).symm
def holds_c (a : Spk) (l : Lsn) : PC Tryz.prog := ⟨100, [(.a [.k, .k, .k, (.s 4), (.s 3)]), (.a [.k, .k, (.s 4)])], [.agg [.int a.router, .int a.epoch, .int a.last, .sl 4 (a.items.map Itm.v) false, .sl 3 (a.peers.map Per.v) false], .agg [.int l.router, .int l.epoch, .sl 4 (l.heard.map Hrd.v) false]], holds_e (decide (holdsP a l)), PSpec.of_ok fun ok => (holds_p a l ok).elim fun I0 h => h.elim fun m0 h => h.elim fun I1 h => h.elim fun m1 h => h.elim fun I2 h => h.elim fun m2 h => holds_ok a l I0 m0 I1 m1 I2 m2 _ h, fnB_ok (by kernel_rfl)⟩
end Go.Proofs.YtglfecmdoekabaaGreatDoor
