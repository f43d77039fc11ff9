/- Signals are checked. -/
import Derived.Test.YtglfecmdoekabaaGreatDoorG5
namespace Go.Proofs.YtglfecmdoekabaaGreatDoor
open Go Go.Am
set_option linter.unusedVariables false
set_option linter.unusedSimpArgs false
structure Bnd where
  lo : Int
  hi : Int
def Bnd.v (b : Bnd) : AV := .agg [.int b.lo, .int b.hi]
structure Frm where
  l0 : Int
  h0 : Int
  l1 : Int
  h1 : Int
  l2 : Int
  h2 : Int
  l3 : Int
  h3 : Int
  l4 : Int
  h4 : Int
def Frm.v (b : Frm) : AV := .agg [.int b.l0, .int b.h0, .int b.l1, .int b.h1, .int b.l2, .int b.h2, .int b.l3, .int b.h3, .int b.l4, .int b.h4]
def hasB (b : Bnd) (n : Int) : Bool := decide (b.lo ≤ n) && decide (n ≤ b.hi)
def hasB_a (b : Bnd) (n : Int) : Prop := okL [.agg [.int b.lo, .int b.hi], .int n]
def hasB_s : Nat → Type
  | _ => Unit
def hasB_e (r : Bool) : AV := .bool r
def hasB_vc (b : Bnd) (n : Int) (r0 : Bool) : Prop :=
 br (decide (b.lo ≤ n))
 (Rf (hasB_e (decide (n ≤ b.hi))) ((decide (n ≤ b.hi)) = r0))
 (Rf (hasB_e (false)) ((false) = r0))
theorem hasB_eq (b : Bnd) (n : Int) (r0 : Bool) : mxP Tryz.prog 142 [.agg [.int b.lo, .int b.hi], .int n] .k hasB_e ((.br 112 (.ret (decide (n ≤ b.hi)))
 (.ret (false))) : An Tryz.prog hasB_s (Bool)) r0 = hasB_vc b n r0 := by kernel_rfl
theorem hasB_ok (b : Bnd) (n : Int) (r0 : Bool) (h : hasB_vc b n r0) : PSpec Tryz.prog 142 [.agg [.int b.lo, .int b.hi], .int n] (hasB_e r0) := by
  have e := hasB_eq b n r0
  rw [← e] at h
  exact mxP_ok (enc := hasB_e) h (AV.pureB_ok rfl)
theorem hasB_p (b : Bnd) (n : Int) (ok : hasB_a b n) : hasB_vc b n (hasB b n) := by
  simp only [hasB_vc, vcU, rfU, List.length_map]
  by_cases h : b.lo ≤ n <;> simp [hasB, h]
def hasB_c (b : Bnd) (n : Int) : PC Tryz.prog := ⟨142, [.k, .k], [.agg [.int b.lo, .int b.hi], .int n], hasB_e (hasB b n), PSpec.of_ok fun ok => hasB_ok b n _ (hasB_p b n ok), fnB_ok (by kernel_rfl)⟩
def formsF (s : Sig) : Frm × Bool :=
  if s.kind = 1 then (⟨1, 1000000, 0, 1000000, 0, 0, 0, 0, 0, 0⟩, true)
  else if s.kind = 2 then (⟨1, 1000000, 1, 1000000, 0, W (s.ver - 1), 0, 0, 1, 99⟩, true)
  else if s.kind = 3 then (⟨0, 1000000, 0, 1000000, 0, 0, 1, 1000000, 0, 0⟩, true)
  else (⟨0, 0, 0, 0, 0, 0, 0, 0, 0, 0⟩, false)
def forms_a (s : Sig) : Prop := okL [.agg [.int s.kind, .int s.src, .int s.dst, .int s.epoch, .int s.ver, .int s.prev, .int s.pep, .int s.grp, .int s.mode, .sl 1 (s.srcs.map AV.int) false]]
def forms_s : Nat → Type
  | _ => Unit
def forms_e (r : Frm × Bool) : AV := .tup [Frm.v r.1, .bool r.2]
def forms_vc (s : Sig) (r0 : Frm × Bool) : Prop :=
 br (s.kind == 1)
 (Rf (forms_e ((⟨1, 1000000, 0, 1000000, 0, 0, 0, 0, 0, 0⟩ : Frm), true)) (((⟨1, 1000000, 0, 1000000, 0, 0, 0, 0, 0, 0⟩ : Frm), true) = r0))
 (br (s.kind == 2)
 (Rf (forms_e ((⟨1, 1000000, 1, 1000000, 0, W (s.ver - 1), 0, 0, 1, 99⟩ : Frm), true)) (((⟨1, 1000000, 1, 1000000, 0, W (s.ver - 1), 0, 0, 1, 99⟩ : Frm), true) = r0))
 (br (s.kind == 3)
 (Rf (forms_e ((⟨0, 1000000, 0, 1000000, 0, 0, 1, 1000000, 0, 0⟩ : Frm), true)) (((⟨0, 1000000, 0, 1000000, 0, 0, 1, 1000000, 0, 0⟩ : Frm), true) = r0))
 (Rf (forms_e ((⟨0, 0, 0, 0, 0, 0, 0, 0, 0, 0⟩ : Frm), false)) (((⟨0, 0, 0, 0, 0, 0, 0, 0, 0, 0⟩ : Frm), false) = r0))))
theorem forms_eq (s : Sig) (r0 : Frm × Bool) : mxP Tryz.prog 141 [.agg [.int s.kind, .int s.src, .int s.dst, .int s.epoch, .int s.ver, .int s.prev, .int s.pep, .int s.grp, .int s.mode, .sl 1 (s.srcs.map AV.int) false]] .k forms_e ((.br 112 (.ret ((⟨1, 1000000, 0, 1000000, 0, 0, 0, 0, 0, 0⟩ : Frm), true))
 (.br 144 (.ret ((⟨1, 1000000, 1, 1000000, 0, W (s.ver - 1), 0, 0, 1, 99⟩ : Frm), true))
 (.br 176 (.ret ((⟨0, 1000000, 0, 1000000, 0, 0, 1, 1000000, 0, 0⟩ : Frm), true))
 (.ret ((⟨0, 0, 0, 0, 0, 0, 0, 0, 0, 0⟩ : Frm), false))))) : An Tryz.prog forms_s (Frm × Bool)) r0 = forms_vc s r0 := by kernel_rfl
theorem forms_ok (s : Sig) (r0 : Frm × Bool) (h : forms_vc s r0) : PSpec Tryz.prog 141 [.agg [.int s.kind, .int s.src, .int s.dst, .int s.epoch, .int s.ver, .int s.prev, .int s.pep, .int s.grp, .int s.mode, .sl 1 (s.srcs.map AV.int) false]] (forms_e r0) := by
  have e := forms_eq s r0
  rw [← e] at h
  exact mxP_ok (enc := forms_e) h (AV.pureB_ok rfl)
theorem forms_p (s : Sig) (ok : forms_a s) : forms_vc s (formsF s) := by
  simp only [forms_vc, vcU, rfU, List.length_map]
  refine ⟨fun e => ?_, fun e => ⟨fun e2 => ?_, fun e2 => ⟨fun e3 => ?_, fun e3 => ?_⟩⟩⟩
  all_goals simp at *
  all_goals simp [formsF, *]
def forms_c (s : Sig) : PC Tryz.prog := ⟨141, [(.a [.k, .k, .k, .k, .k, .k, .k, .k, .k, (.s 1)])], [.agg [.int s.kind, .int s.src, .int s.dst, .int s.epoch, .int s.ver, .int s.prev, .int s.pep, .int s.grp, .int s.mode, .sl 1 (s.srcs.map AV.int) false]], forms_e (formsF s), PSpec.of_ok fun ok => forms_ok s _ (forms_p s ok), fnB_ok (by kernel_rfl)⟩
theorem hasB_iff {b : Bnd} {n : Int} : hasB b n = true ↔ b.lo ≤ n ∧ n ≤ b.hi := by simp [hasB]
def numL (s : Sig) : List Int := [s.epoch, s.ver, s.prev, s.pep, s.grp]
def bndL (f : Frm) : List Bnd := [⟨f.l0, f.h0⟩, ⟨f.l1, f.h1⟩, ⟨f.l2, f.h2⟩, ⟨f.l3, f.h3⟩, ⟨f.l4, f.h4⟩]
theorem five {p : Int → Bnd → Prop} {s : Sig} {f : Frm} : (∀ (j : Nat) x b, (numL s)[j]? = some x → (bndL f)[j]? = some b → p x b) ↔ p s.epoch ⟨f.l0, f.h0⟩ ∧ p s.ver ⟨f.l1, f.h1⟩ ∧ p s.prev ⟨f.l2, f.h2⟩ ∧ p s.pep ⟨f.l3, f.h3⟩ ∧ p s.grp ⟨f.l4, f.h4⟩ := by
  refine ⟨fun h => ⟨h 0 _ _ rfl rfl, h 1 _ _ rfl rfl, h 2 _ _ rfl rfl, h 3 _ _ rfl rfl, h 4 _ _ rfl rfl⟩, fun ⟨h0, h1, h2, h3, h4⟩ j x b hx hb => ?_⟩
  rcases j with _ | _ | _ | _ | _ | j <;> simp [numL, bndL] at hx hb <;> subst hx hb <;> assumption
theorem nums_iff {s : Sig} (hv : -9223372036854775808 ≤ s.ver ∧ s.ver ≤ 9223372036854775807) (hk : (formsF s).2 = true) :
    sigNums s ↔ ∀ (j : Nat) x b, (numL s)[j]? = some x → (bndL (formsF s).1)[j]? = some b → hasB b x = true := by
  rw [five (p := fun x b => hasB b x = true)]
  simp only [hasB_iff]
  by_cases e1 : s.kind = 1
  · simp [formsF, sigNums, e1]; omega
  · by_cases e2 : s.kind = 2
    · simp only [formsF, sigNums, if_neg e1, if_pos e2]
      constructor
      · rintro ⟨h0, h1, h2, h3, h4⟩
        rw [W_eq (by omega)]; omega
      · rintro ⟨h0, h1, h2, h3, h4⟩
        rw [W_eq (by omega)] at h2; omega
    · by_cases e3 : s.kind = 3
      · simp [formsF, sigNums, e3]; omega
      · simp [formsF, e1, e2, e3] at hk
theorem forms_iff {s : Sig} : (formsF s).2 = true ↔ s.kind = 1 ∨ s.kind = 2 ∨ s.kind = 3 := by
  by_cases e1 : s.kind = 1
  · simp [formsF, e1]
  · by_cases e2 : s.kind = 2
    · simp [formsF, e2]
    · by_cases e3 : s.kind = 3 <;> simp [formsF, e1, e2, e3]
def sigV_a (s : Sig) : Prop := okL [.agg [.int s.kind, .int s.src, .int s.dst, .int s.epoch, .int s.ver, .int s.prev, .int s.pep, .int s.grp, .int s.mode, .sl 1 (s.srcs.map AV.int) false]]
def sigV_n0 (s : Sig) (t0 : Int) : NF := ⟨[(1, .k, .ref 0 0), (3, .k, .ref 1 0), (45, .k, .agg [.int s.epoch, .int s.ver, .int s.prev, .int s.pep, .int s.grp]), (46, .k, .int t0)], [.box (.agg [.int s.kind, .int s.src, .int s.dst, .int s.epoch, .int s.ver, .int s.prev, .int s.pep, .int s.grp, .int s.mode, .sl 1 (s.srcs.map AV.int) false]), .box (.agg [.int (((formsF s).1).l0), .int (((formsF s).1).h0), .int (((formsF s).1).l1), .int (((formsF s).1).h1), .int (((formsF s).1).l2), .int (((formsF s).1).h2), .int (((formsF s).1).l3), .int (((formsF s).1).h3), .int (((formsF s).1).l4), .int (((formsF s).1).h4)])]⟩
def sigV_s : Nat → Type
  | 0 => Int
  | _ => Unit
def sigV_e (r : Int) : AV := .int r
def sigV_vc (s : Sig) (I0 : Int → Prop) (m0 : Int → Nat) (r0 : Int) : Prop :=
 Cl (forms_c s)
 (br (!((formsF s).2))
 (Rf (sigV_e (1)) ((1) = r0))
 (Cl (hasB_c (⟨1, 99⟩ : Bnd) s.src)
 (br (!(hasB (⟨1, 99⟩ : Bnd) s.src))
 (Rf (sigV_e (2)) ((2) = r0))
 (Cl (hasB_c (⟨1, 99⟩ : Bnd) s.dst)
 (br (!(hasB (⟨1, 99⟩ : Bnd) s.dst))
 (Rf (sigV_e (2)) ((2) = r0))
 (br (s.src == s.dst)
 (Rf (sigV_e (2)) ((2) = r0))
 (Nf (sigV_n0 s (0)) [0, 112] (I0 (0)) ∧ ∀ t0 : Int, I0 t0 →
 br (decide (t0 < 5))
 (Rf (([s.epoch, s.ver, s.prev, s.pep, s.grp] : List Int).map AV.int) (ck (decide (0 ≤ t0)) (ck (decide (t0 < 5)) (ck (decide (t0.toNat < ([s.epoch, s.ver, s.prev, s.pep, s.grp] : List Int).length))
 (∀ x1, ([s.epoch, s.ver, s.prev, s.pep, s.grp] : List Int)[t0.toNat]? = some x1 →
 ck (cond (decide (0 ≤ t0)) (decide (t0 < 5)) false)
 (Rf (α := List AV) ([.int (((formsF s).1).l0), .int (((formsF s).1).h0), .int (((formsF s).1).l1), .int (((formsF s).1).h1), .int (((formsF s).1).l2), .int (((formsF s).1).h2), .int (((formsF s).1).l3), .int (((formsF s).1).h3), .int (((formsF s).1).l4), .int (((formsF s).1).h4)]) (((0 + (t0.toNat * 2)) = t0.toNat * 2) ∧ (ck (decide (t0.toNat < [(⟨((formsF s).1).l0, ((formsF s).1).h0⟩ : Bnd), (⟨((formsF s).1).l1, ((formsF s).1).h1⟩ : Bnd), (⟨((formsF s).1).l2, ((formsF s).1).h2⟩ : Bnd), (⟨((formsF s).1).l3, ((formsF s).1).h3⟩ : Bnd), (⟨((formsF s).1).l4, ((formsF s).1).h4⟩ : Bnd)].length))
 (∀ x2, [(⟨((formsF s).1).l0, ((formsF s).1).h0⟩ : Bnd), (⟨((formsF s).1).l1, ((formsF s).1).h1⟩ : Bnd), (⟨((formsF s).1).l2, ((formsF s).1).h2⟩ : Bnd), (⟨((formsF s).1).l3, ((formsF s).1).h3⟩ : Bnd), (⟨((formsF s).1).l4, ((formsF s).1).h4⟩ : Bnd)][t0.toNat]? = some x2 →
 Cl (hasB_c x2 x1)
 (br (!(hasB x2 x1))
 (Rf (sigV_e (2)) ((2) = r0))
 (Nf (sigV_n0 s (W (t0 + 1))) [0, 1] (I0 (W (t0 + 1)) ∧ m0 (W (t0 + 1)) < m0 t0))))))))))))
 (br (s.kind == 2)
 (Cl (PVal_c (⟨s.mode, s.srcs⟩ : Flt))
 (Rf (sigV_e (fltErr (⟨s.mode, s.srcs⟩ : Flt).mode (⟨s.mode, s.srcs⟩ : Flt).srcs)) ((fltErr (⟨s.mode, s.srcs⟩ : Flt).mode (⟨s.mode, s.srcs⟩ : Flt).srcs) = r0)))
 (br (s.mode != 0)
 (Rf (sigV_e (1)) ((1) = r0))
 (br (decide (0 < ((s.srcs.map AV.int).length : Int)))
 (Rf (sigV_e (1)) ((1) = r0))
 (Rf (sigV_e (0)) ((0) = r0))))))))))))
theorem sigV_eq (s : Sig) (I0 : Int → Prop) (m0 : Int → Nat) (r0 : Int) : mxP Tryz.prog 90 [.agg [.int s.kind, .int s.src, .int s.dst, .int s.epoch, .int s.ver, .int s.prev, .int s.pep, .int s.grp, .int s.mode, .sl 1 (s.srcs.map AV.int) false]] .k sigV_e ((.callP (forms_c s)
 (.br 192 (.ret (1))
 (.callP (hasB_c (⟨1, 99⟩ : Bnd) s.src)
 (.br 336 (.ret (2))
 (.callP (hasB_c (⟨1, 99⟩ : Bnd) s.dst)
 (.br 448 (.ret (2))
 (.br 544 (.ret (2))
 (.loop 0 (sigV_n0 s) (I0) (m0) ((0) : Int) [0, 112] fun (t0 : Int) =>
 (.br 18 (.el 34 AV.int ([s.epoch, s.ver, s.prev, s.pep, s.grp] : List Int) fun x1 =>
 (.elA 114 (fun x : Bnd => [.int x.lo, .int x.hi]) [(⟨((formsF s).1).l0, ((formsF s).1).h0⟩ : Bnd), (⟨((formsF s).1).l1, ((formsF s).1).h1⟩ : Bnd), (⟨((formsF s).1).l2, ((formsF s).1).h2⟩ : Bnd), (⟨((formsF s).1).l3, ((formsF s).1).h3⟩ : Bnd), (⟨((formsF s).1).l4, ((formsF s).1).h4⟩ : Bnd)] (t0.toNat) 2 (fun _ => rfl) fun x2 =>
 (.callP (hasB_c x2 x1)
 (.br 178 (.ret (2))
 (.back 0 ((W (t0 + 1)) : Int) [0, 1])))))
 (.br 66 (.callP (PVal_c (⟨s.mode, s.srcs⟩ : Flt))
 (.ret (fltErr (⟨s.mode, s.srcs⟩ : Flt).mode (⟨s.mode, s.srcs⟩ : Flt).srcs)))
 (.br 146 (.ret (1))
 (.br 242 (.ret (1))
 (.ret (0)))))))))))))) : An Tryz.prog sigV_s (Int)) r0 = sigV_vc s I0 m0 r0 := by kernel_rfl
theorem sigV_ok (s : Sig) (I0 : Int → Prop) (m0 : Int → Nat) (r0 : Int) (h : sigV_vc s I0 m0 r0) : PSpec Tryz.prog 90 [.agg [.int s.kind, .int s.src, .int s.dst, .int s.epoch, .int s.ver, .int s.prev, .int s.pep, .int s.grp, .int s.mode, .sl 1 (s.srcs.map AV.int) false]] (sigV_e r0) := by
  have e := sigV_eq s I0 m0 r0
  rw [← e] at h
  exact mxP_ok (enc := sigV_e) h (AV.pureB_ok rfl)
theorem sigV_p (s : Sig) (ok : sigV_a s) : ∃ I m, sigV_vc s I m (sigErr s) := by
  simp only [sigV_a, okU, Blk.ok, plainV, List.length_map] at ok
  refine ⟨fun t => ∃ k : Nat, t = k ∧ k ≤ 5 ∧ ∀ (j : Nat) x b, j < k → (numL s)[j]? = some x → (bndL (formsF s).1)[j]? = some b → hasB b x = true, fun t => 5 - t.toNat, ?_⟩
  simp only [sigV_vc, vcU, rfU, List.length_map]
  have hv : -9223372036854775808 ≤ s.ver ∧ s.ver ≤ 9223372036854775807 := ok.2.2.2.2.1
  refine ⟨fun e => ?_, fun e0 => ?_⟩
  · rw [sigErr, if_pos (fun h => by rw [forms_iff.mpr h] at e; cases e)]
  have e0 : (formsF s).2 = true := by simpa using e0
  have hk := forms_iff.mp e0
  have bad : ¬ (sigEnds s ∧ sigNums s) → 2 = sigErr s := fun h => by rw [sigErr, if_neg (fun h => h hk), if_pos h]
  refine ⟨fun e => bad fun h => ?_, fun e1 => ⟨fun e => bad fun h => ?_, fun e2 => ⟨fun e => bad fun h => ?_, fun e3 => ?_⟩⟩⟩
  · have := h.1.1; rw [hasB_iff.mpr this] at e; cases e
  · have := h.1.2.1; rw [hasB_iff.mpr this] at e; cases e
  · have := h.1.2.2; simp at e; exact this e
  have e1 := hasB_iff.mp (Bool.not_eq_false' .. ▸ e1 : hasB ⟨1, 99⟩ s.src = true)
  have e2 := hasB_iff.mp (Bool.not_eq_false' .. ▸ e2 : hasB ⟨1, 99⟩ s.dst = true)
  have hE : sigEnds s := ⟨e1, e2, by simpa using e3⟩
  refine ⟨⟨0, rfl, by omega, fun j x b hj => by omega⟩, ?_⟩
  rintro _ ⟨k, rfl, hk5, h⟩
  simp only [Int.toNat_natCast]
  refine ⟨fun h1 => ⟨by omega, by omega, by simp; omega, fun x hx => ⟨by simp; omega, by omega, by simp; omega, fun b hb => ⟨fun e => bad fun hs => ?_, fun e => ?_⟩⟩⟩, fun h1 => ?_⟩
  · have := (nums_iff hv e0).mp hs.2 k x b hx hb
    rw [this] at e; cases e
  · have e : hasB b x = true := by simpa using e
    rw [W_succ (n := 5) (by omega) (by omega)]
    refine ⟨⟨k + 1, rfl, by omega, fun j y c hj hy hc => ?_⟩, by omega⟩
    by_cases e' : j = k
    · subst e'
      have hy := hy.symm.trans hx
      have hc := hc.symm.trans hb
      cases hy; cases hc; exact e
    · exact h j y c (by omega) hy hc
  have hN : sigNums s := (nums_iff hv e0).mpr fun j x b hx hb => h j x b (by have := lt_of_get hx; simp [numL] at this; omega) hx hb
  have fin : sigErr s = if s.kind = 2 then fltErr s.mode s.srcs else if s.mode ≠ 0 ∨ s.srcs ≠ [] then 1 else 0 := by
    rw [sigErr, if_neg (fun h => h hk), if_neg (fun h => h ⟨hE, hN⟩)]
  rw [fin]
  refine ⟨fun e => by rw [if_pos (by simpa using e)], fun e => ?_⟩
  have e : ¬ s.kind = 2 := by simpa using e
  rw [if_neg e]
  refine ⟨fun e => by rw [if_pos (.inl (by simpa using e))], fun e1 => ⟨fun e => ?_, fun e => ?_⟩⟩
  · rw [if_pos (.inr fun h => by rw [h] at e; simp at e)]
  · rw [if_neg]
    rintro (h | h)
    · exact h (by simpa using e1)
    · exact h (List.eq_nil_of_length_eq_zero (by omega))
def sigV_c (s : Sig) : PC Tryz.prog := ⟨90, [(.a [.k, .k, .k, .k, .k, .k, .k, .k, .k, (.s 1)])], [.agg [.int s.kind, .int s.src, .int s.dst, .int s.epoch, .int s.ver, .int s.prev, .int s.pep, .int s.grp, .int s.mode, .sl 1 (s.srcs.map AV.int) false]], sigV_e (sigErr s), PSpec.of_ok fun ok => (sigV_p s ok).elim fun I0 h => h.elim fun m0 h => sigV_ok s I0 m0 _ h, fnB_ok (by kernel_rfl)⟩
end Go.Proofs.YtglfecmdoekabaaGreatDoor
