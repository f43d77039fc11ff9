/- Two lists of wants are the same; SessionSettles. -/
import Derived.Test.YtglfecmdoekabaaU6
namespace Go.Proofs.Ytglfecmdoekabaa
open Go Go.Am
set_option linter.unusedVariables false
set_option linter.unusedSimpArgs false
def sameW_a (a : (List Wnt)) (b : (List Wnt)) : Prop := okL [.sl 3 (a.map Wnt.v) false, .sl 3 (b.map Wnt.v) false]
def sameW_n0 (a : (List Wnt)) (b : (List Wnt)) (t0 : Int) : NF := ⟨[(0, .k, .sl 3 (a.map Wnt.v) false), (1, .k, .sl 3 (b.map Wnt.v) false), (5, .k, .int t0)], []⟩
def sameW_s : Nat → Type
  | 0 => Int
  | _ => Unit
def sameW_e (r : Bool) : AV := .bool r
def sameW_vc (a : (List Wnt)) (b : (List Wnt)) (I0 : Int → Prop) (m0 : Int → Nat) (r0 : Bool) : Prop :=
 br (((a.map Wnt.v).length : Int) != ((b.map Wnt.v).length : Int))
 (Rf (sameW_e (false)) ((false) = r0))
 (Nf (sameW_n0 a b (0)) [] (I0 (0)) ∧ ∀ t0 : Int, I0 t0 →
 br (decide (t0 < ((a.map Wnt.v).length : Int)))
 (Rf (a.map Wnt.v) (ck (decide (0 ≤ t0)) (ck (decide (t0 < (a.length : Int)))
 (∀ x1, a[t0.toNat]? = some x1 →
 Rf (b.map Wnt.v) (ck (decide (0 ≤ t0)) (ck (decide (t0 < (b.length : Int)))
 (∀ x2, b[t0.toNat]? = some x2 →
 br (x1.grp != x2.grp)
 (Rf (sameW_e (false)) ((false) = r0))
 (Rf (a.map Wnt.v) (ck (decide (0 ≤ t0)) (ck (decide (t0 < (a.length : Int)))
 (∀ x3, a[t0.toNat]? = some x3 →
 Rf (b.map Wnt.v) (ck (decide (0 ≤ t0)) (ck (decide (t0 < (b.length : Int)))
 (∀ x4, b[t0.toNat]? = some x4 →
 Cl (FSame_c (⟨x3.mode, x3.srcs⟩ : Flt) (⟨x4.mode, x4.srcs⟩ : Flt))
 (br (!(FSame (⟨x3.mode, x3.srcs⟩ : Flt) (⟨x4.mode, x4.srcs⟩ : Flt)))
 (Rf (sameW_e (false)) ((false) = r0))
 (Nf (sameW_n0 a b (W (t0 + 1))) [] (I0 (W (t0 + 1)) ∧ m0 (W (t0 + 1)) < m0 t0)))))))))))))))))
 (Rf (sameW_e (true)) ((true) = r0)))
theorem sameW_eq (a : (List Wnt)) (b : (List Wnt)) (I0 : Int → Prop) (m0 : Int → Nat) (r0 : Bool) : mxP Try.prog 11 [.sl 3 (a.map Wnt.v) false, .sl 3 (b.map Wnt.v) false] .k sameW_e ((.br 96 (.ret (false))
 (.loop 0 (sameW_n0 a b) (I0) (m0) ((0) : Int) [] fun (t0 : Int) =>
 (.br 64 (.el 96 Wnt.v a fun x1 =>
 (.el 176 Wnt.v b fun x2 =>
 (.br 256 (.ret (false))
 (.el 288 Wnt.v a fun x3 =>
 (.el 368 Wnt.v b fun x4 =>
 (.callP (FSame_c (⟨x3.mode, x3.srcs⟩ : Flt) (⟨x4.mode, x4.srcs⟩ : Flt))
 (.br 464 (.ret (false))
 (.back 0 ((W (t0 + 1)) : Int) []))))))))
 (.ret (true))))) : An Try.prog sameW_s (Bool)) r0 = sameW_vc a b I0 m0 r0 := by kernel_rfl
theorem sameW_ok (a : (List Wnt)) (b : (List Wnt)) (I0 : Int → Prop) (m0 : Int → Nat) (r0 : Bool) (h : sameW_vc a b I0 m0 r0) : PSpec Try.prog 11 [.sl 3 (a.map Wnt.v) false, .sl 3 (b.map Wnt.v) false] (sameW_e r0) := by
  have e := sameW_eq a b I0 m0 r0
  rw [← e] at h
  exact mxP_ok (enc := sameW_e) h (AV.pureB_ok rfl)
theorem Wnt.eq_iff {x y : Wnt} : x = y ↔ x.grp = y.grp ∧ x.mode = y.mode ∧ x.srcs = y.srcs := by cases x; cases y; simp
theorem sameW_p (a b : List Wnt) (ok : sameW_a a b) : ∃ I m, sameW_vc a b I m (decide (a = b)) := by
  simp only [sameW_a, okU, Blk.ok, plainV, List.length_map] at ok
  refine ⟨fun t => ∃ k : Nat, t = k ∧ k ≤ a.length ∧ a.take k = b.take k, fun t => a.length - t.toNat, ?_⟩
  simp only [sameW_vc, vcU, rfU, List.length_map]
  refine ⟨fun e => (decide_eq_false fun h => by subst h; simp at e).symm, fun e => ⟨⟨0, rfl, by omega, rfl⟩, ?_⟩⟩
  have e : a.length = b.length := by simp at e; omega
  rintro _ ⟨k, rfl, hk, h⟩
  simp only [Int.toNat_natCast]
  refine ⟨fun h1 => ⟨by omega, by omega, fun x hx => ⟨by omega, by omega, fun y hy => ?_⟩⟩, fun h1 => ?_⟩
  · have bad : x ≠ y → false = decide (a = b) := fun hne => (decide_eq_false fun hh => by
      subst hh
      cases hx.symm.trans hy
      exact hne rfl).symm
    refine ⟨fun c => bad fun q => by subst q; simp at c, fun c => ⟨by omega, by omega, fun x2 hx2 => ⟨by omega, by omega, fun y2 hy2 => ?_⟩⟩⟩
    cases hx.symm.trans hx2
    cases hy.symm.trans hy2
    refine ⟨fun c3 => bad fun q => by subst q; simp [FSame] at c3, fun c3 => ?_⟩
    have q : x = y := by
      rw [Wnt.eq_iff]
      have c3 : FSame ⟨x.mode, x.srcs⟩ ⟨y.mode, y.srcs⟩ = true := by simpa using c3
      have c3 := of_decide_eq_true c3
      simp only [Flt.mk.injEq] at c3
      exact ⟨by simpa using c, c3⟩
    subst q
    rw [W_succ (n := a.length) (by omega) (by omega)]
    exact ⟨⟨k + 1, rfl, by omega, by rw [take_succ hx, take_succ hy, h]⟩, by omega⟩
  · rw [List.take_of_length_le (by omega), List.take_of_length_le (by omega)] at h
    exact (decide_eq_true h).symm
def sameW_c (a : (List Wnt)) (b : (List Wnt)) : PC Try.prog := ⟨11, [(.s 3), (.s 3)], [.sl 3 (a.map Wnt.v) false, .sl 3 (b.map Wnt.v) false], sameW_e (decide (a = b)), PSpec.of_ok fun ok => (sameW_p a b ok).elim fun I0 h => h.elim fun m0 h => sameW_ok a b I0 m0 _ h, fnB_ok (by kernel_rfl)⟩
def rtN (s : Spk × Lsn) : Nat → Spk × Lsn
  | 0 => s
  | k + 1 => rt (rtN s k)
end Go.Proofs.Ytglfecmdoekabaa
