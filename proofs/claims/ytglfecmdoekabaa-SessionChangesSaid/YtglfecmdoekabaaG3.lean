/- Small functions of the session: ranges, orders, copies. -/
import Derived.Test.YtglfecmdoekabaaV3
namespace Go.Proofs.Ytglfecmdoekabaa
open Go Go.Am
set_option linter.unusedVariables false
set_option linter.unusedSimpArgs false
def within (n lo hi : Int) : Bool := decide (lo ≤ n ∧ n ≤ hi)
def codeE (v : Bool) : Int := if v then 0 else 1
def within_a (n : Int) (lo : Int) (hi : Int) : Prop := okL [.int n, .int lo, .int hi]
def within_s : Nat → Type
  | _ => Unit
def within_e (r : Bool) : AV := .bool r
def within_vc (n : Int) (lo : Int) (hi : Int) (r0 : Bool) : Prop :=
 br (decide (lo ≤ n))
 (Rf (within_e (decide (n ≤ hi))) ((decide (n ≤ hi)) = r0))
 (Rf (within_e (false)) ((false) = r0))
theorem within_eq (n : Int) (lo : Int) (hi : Int) (r0 : Bool) : mxP Try.prog 41 [.int n, .int lo, .int hi] .k within_e ((.br 80 (.ret (decide (n ≤ hi)))
 (.ret (false))) : An Try.prog within_s (Bool)) r0 = within_vc n lo hi r0 := by kernel_rfl
theorem within_ok (n : Int) (lo : Int) (hi : Int) (r0 : Bool) (h : within_vc n lo hi r0) : PSpec Try.prog 41 [.int n, .int lo, .int hi] (within_e r0) := by
  have e := within_eq n lo hi r0
  rw [← e] at h
  exact mxP_ok (enc := within_e) h (AV.pureB_ok rfl)
theorem within_p (n lo hi : Int) (ok : within_a n lo hi) : within_vc n lo hi (within n lo hi) := by
  simp only [within_vc, vcU, rfU, List.length_map]
  refine ⟨fun h => by simp [within, h], fun h => by simp [within, h]⟩
def within_c (n : Int) (lo : Int) (hi : Int) : PC Try.prog := ⟨41, [.k, .k, .k], [.int n, .int lo, .int hi], within_e (within n lo hi), PSpec.of_ok fun ok => within_ok n lo hi _ (within_p n lo hi ok), fnB_ok (by kernel_rfl)⟩
def codeE_a (valid : Bool) : Prop := okL [.bool valid]
def codeE_s : Nat → Type
  | _ => Unit
def codeE_e (r : Int) : AV := .int r
def codeE_vc (valid : Bool) (r0 : Int) : Prop :=
 br valid
 (Rf (codeE_e (0)) ((0) = r0))
 (Rf (codeE_e (1)) ((1) = r0))
theorem codeE_eq (valid : Bool) (r0 : Int) : mxP Try.prog 42 [.bool valid] .k codeE_e ((.br 32 (.ret (0))
 (.ret (1))) : An Try.prog codeE_s (Int)) r0 = codeE_vc valid r0 := by kernel_rfl
theorem codeE_ok (valid : Bool) (r0 : Int) (h : codeE_vc valid r0) : PSpec Try.prog 42 [.bool valid] (codeE_e r0) := by
  have e := codeE_eq valid r0
  rw [← e] at h
  exact mxP_ok (enc := codeE_e) h (AV.pureB_ok rfl)
theorem codeE_p (v : Bool) (ok : codeE_a v) : codeE_vc v (codeE v) := by
  simp only [codeE_vc, vcU, rfU, List.length_map]
  cases v <;> simp [codeE]
def codeE_c (valid : Bool) : PC Try.prog := ⟨42, [.k], [.bool valid], codeE_e (codeE valid), PSpec.of_ok fun ok => codeE_ok valid _ (codeE_p valid ok), fnB_ok (by kernel_rfl)⟩
def keyI (x : Itm) : Int := x.ver
def keyP (x : Per) : Int := x.router
def keyH (x : Hrd) : Int := x.router
def keyI_a (x : Itm) : Prop := okL [.agg [.int x.ver, .int x.grp, .int x.mode, .sl 1 (x.srcs.map AV.int) false]]
def keyI_s : Nat → Type
  | _ => Unit
def keyI_e (r : Int) : AV := .int r
def keyI_vc (x : Itm) (r0 : Int) : Prop :=
 Rf (keyI_e (x.ver)) ((x.ver) = r0)
theorem keyI_eq (x : Itm) (r0 : Int) : mxP Try.prog 70 [.agg [.int x.ver, .int x.grp, .int x.mode, .sl 1 (x.srcs.map AV.int) false]] .k keyI_e ((.ret (x.ver)) : An Try.prog keyI_s (Int)) r0 = keyI_vc x r0 := by kernel_rfl
theorem keyI_ok (x : Itm) (r0 : Int) (h : keyI_vc x r0) : PSpec Try.prog 70 [.agg [.int x.ver, .int x.grp, .int x.mode, .sl 1 (x.srcs.map AV.int) false]] (keyI_e r0) := by
  have e := keyI_eq x r0
  rw [← e] at h
  exact mxP_ok (enc := keyI_e) h (AV.pureB_ok rfl)
theorem keyI_p (x : Itm) (ok : keyI_a x) : keyI_vc x (keyI x) := by
  simp only [keyI_vc, vcU, rfU, List.length_map]
  rfl
def keyI_c (x : Itm) : PC Try.prog := ⟨70, [(.a [.k, .k, .k, (.s 1)])], [.agg [.int x.ver, .int x.grp, .int x.mode, .sl 1 (x.srcs.map AV.int) false]], keyI_e (keyI x), PSpec.of_ok fun ok => keyI_ok x _ (keyI_p x ok), fnB_ok (by kernel_rfl)⟩
def keyP_a (p : Per) : Prop := okL [.agg [.int p.router, .int p.epoch, .int p.acked]]
def keyP_s : Nat → Type
  | _ => Unit
def keyP_e (r : Int) : AV := .int r
def keyP_vc (p : Per) (r0 : Int) : Prop :=
 Rf (keyP_e (p.router)) ((p.router) = r0)
theorem keyP_eq (p : Per) (r0 : Int) : mxP Try.prog 44 [.agg [.int p.router, .int p.epoch, .int p.acked]] .k keyP_e ((.ret (p.router)) : An Try.prog keyP_s (Int)) r0 = keyP_vc p r0 := by kernel_rfl
theorem keyP_ok (p : Per) (r0 : Int) (h : keyP_vc p r0) : PSpec Try.prog 44 [.agg [.int p.router, .int p.epoch, .int p.acked]] (keyP_e r0) := by
  have e := keyP_eq p r0
  rw [← e] at h
  exact mxP_ok (enc := keyP_e) h (AV.pureB_ok rfl)
theorem keyP_p (x : Per) (ok : keyP_a x) : keyP_vc x (keyP x) := by
  simp only [keyP_vc, vcU, rfU, List.length_map]
  rfl
def keyP_c (p : Per) : PC Try.prog := ⟨44, [.k], [.agg [.int p.router, .int p.epoch, .int p.acked]], keyP_e (keyP p), PSpec.of_ok fun ok => keyP_ok p _ (keyP_p p ok), fnB_ok (by kernel_rfl)⟩
def ascB {α : Type} (key : α → Int) (l : List α) : Bool := decide (l.Pairwise fun x y => key x < key y)
theorem pw_adj {α : Type} {key : α → Int} {l : List α} (h : ∀ j x y, l[j]? = some x → l[j + 1]? = some y → key x < key y) : l.Pairwise fun x y => key x < key y := by
  have step : ∀ d i x y, l[i]? = some x → l[i + 1 + d]? = some y → key x < key y := by
    intro d
    induction d with
    | zero => exact h
    | succ d ih =>
      intro i x y hx hy
      have hz := List.getElem?_eq_getElem (show i + 1 + d < l.length by have := lt_of_get hy; omega)
      have h1 := ih i x _ hx hz
      have h2 := h (i + 1 + d) _ y hz hy
      omega
  rw [List.pairwise_iff_getElem]
  intro i j hi hj hij
  exact step (j - i - 1) i _ _ (List.getElem?_eq_getElem hi) (by rw [show i + 1 + (j - i - 1) = j by omega]; exact List.getElem?_eq_getElem hj)
theorem pw_get {α : Type} {R : α → α → Prop} {l : List α} (h : l.Pairwise R) {i j : Nat} {x y : α} (hij : i < j) (hx : l[i]? = some x) (hy : l[j]? = some y) : R x y := by
  have hi := lt_of_get hx
  have hj := lt_of_get hy
  have := List.pairwise_iff_getElem.mp h i j hi hj hij
  rw [List.getElem?_eq_getElem hi] at hx; rw [List.getElem?_eq_getElem hj] at hy
  rw [← Option.some.inj hx, ← Option.some.inj hy]; exact this
def ascI_a (l : (List Itm)) : Prop := okL [.sl 4 (l.map Itm.v) false, .func 70 []]
def ascI_n0 (l : (List Itm)) (t0 : Int) : NF := ⟨[(0, .k, .sl 4 (l.map Itm.v) false), (1, .k, .func 70 []), (5, .k, .int t0)], []⟩
def ascI_s : Nat → Type
  | 0 => Int
  | _ => Unit
def ascI_e (r : Bool) : AV := .bool r
def ascI_vc (l : (List Itm)) (I0 : Int → Prop) (m0 : Int → Nat) (r0 : Bool) : Prop :=
 Nf (ascI_n0 l (1)) [] (I0 (1)) ∧ ∀ t0 : Int, I0 t0 →
 br (decide (t0 < ((l.map Itm.v).length : Int)))
 (Rf (l.map Itm.v) (ck (decide (0 ≤ (W (t0 - 1)))) (ck (decide ((W (t0 - 1)) < (l.length : Int)))
 (∀ x1, l[(W (t0 - 1)).toNat]? = some x1 →
 Cl (keyI_c x1)
 (Rf (l.map Itm.v) (ck (decide (0 ≤ t0)) (ck (decide (t0 < (l.length : Int)))
 (∀ x2, l[t0.toNat]? = some x2 →
 Cl (keyI_c x2)
 (br (decide (x2.ver ≤ x1.ver))
 (Rf (ascI_e (false)) ((false) = r0))
 (Nf (ascI_n0 l (W (t0 + 1))) [] (I0 (W (t0 + 1)) ∧ m0 (W (t0 + 1)) < m0 t0)))))))))))
 (Rf (ascI_e (true)) ((true) = r0))
theorem ascI_eq (l : (List Itm)) (I0 : Int → Prop) (m0 : Int → Nat) (r0 : Bool) : mxP Try.prog 69 [.sl 4 (l.map Itm.v) false, .func 70 []] .k ascI_e ((.loop 0 (ascI_n0 l) (I0) (m0) ((1) : Int) [] fun (t0 : Int) =>
 (.br 64 (.el 128 Itm.v l fun x1 =>
 (.callP (keyI_c x1)
 (.el 224 Itm.v l fun x2 =>
 (.callP (keyI_c x2)
 (.br 288 (.ret (false))
 (.back 0 ((W (t0 + 1)) : Int) []))))))
 (.ret (true)))) : An Try.prog ascI_s (Bool)) r0 = ascI_vc l I0 m0 r0 := by kernel_rfl
theorem ascI_ok (l : (List Itm)) (I0 : Int → Prop) (m0 : Int → Nat) (r0 : Bool) (h : ascI_vc l I0 m0 r0) : PSpec Try.prog 69 [.sl 4 (l.map Itm.v) false, .func 70 []] (ascI_e r0) := by
  have e := ascI_eq l I0 m0 r0
  rw [← e] at h
  exact mxP_ok (enc := ascI_e) h (AV.pureB_ok rfl)
theorem ascI_p (l : List Itm) (ok : ascI_a l) : ∃ I m, ascI_vc l I m (ascB Itm.ver l) := by
  simp only [ascI_a, okU, Blk.ok, plainV, List.length_map] at ok
  refine ⟨fun t => ∃ k : Nat, t = k ∧ 1 ≤ k ∧ k ≤ l.length + 1 ∧ ∀ j x y, j + 1 < k → l[j]? = some x → l[j + 1]? = some y → Itm.ver x < Itm.ver y, fun t => l.length + 1 - t.toNat, ?_⟩
  simp only [ascI_vc, vcU, rfU, List.length_map]
  refine ⟨⟨1, rfl, by omega, by omega, fun j x y hj => by omega⟩, ?_⟩
  rintro _ ⟨k, rfl, hk1, hk, h⟩
  refine ⟨fun h1 => ?_, fun h1 => ?_⟩
  · rw [W_pred (by omega) hk1]
    simp only [Int.toNat_natCast]
    refine ⟨by omega, by omega, fun x hx => ⟨by omega, by omega, fun y hy => ⟨fun e => ?_, fun e => ?_⟩⟩⟩
    · refine (decide_eq_false fun hp => ?_).symm
      have : Itm.ver x < Itm.ver y := pw_get hp (show k - 1 < k by omega) hx hy
      omega
    · rw [W_succ (n := l.length) (by omega) (by omega)]
      refine ⟨⟨k + 1, rfl, by omega, by omega, fun j x' y' hj hx' hy' => ?_⟩, by omega⟩
      by_cases e' : j + 1 = k
      · subst e'
        rw [show j + 1 - 1 = j by omega, hx'] at hx; cases hx
        rw [hy'] at hy; cases hy; omega
      · exact h j x' y' (by omega) hx' hy'
  · exact (decide_eq_true (pw_adj fun j x y hx hy => h j x y (by have := lt_of_get hy; omega) hx hy)).symm
def ascI_c (l : (List Itm)) : PC Try.prog := ⟨69, [(.s 4), .k], [.sl 4 (l.map Itm.v) false, .func 70 []], ascI_e (ascB Itm.ver l), PSpec.of_ok fun ok => (ascI_p l ok).elim fun I0 h => h.elim fun m0 h => ascI_ok l I0 m0 _ h, fnB_ok (by kernel_rfl)⟩
def ascP_a (l : (List Per)) : Prop := okL [.sl 3 (l.map Per.v) false, .func 44 []]
def ascP_n0 (l : (List Per)) (t0 : Int) : NF := ⟨[(0, .k, .sl 3 (l.map Per.v) false), (1, .k, .func 44 []), (5, .k, .int t0)], []⟩
def ascP_s : Nat → Type
  | 0 => Int
  | _ => Unit
def ascP_e (r : Bool) : AV := .bool r
def ascP_vc (l : (List Per)) (I0 : Int → Prop) (m0 : Int → Nat) (r0 : Bool) : Prop :=
 Nf (ascP_n0 l (1)) [] (I0 (1)) ∧ ∀ t0 : Int, I0 t0 →
 br (decide (t0 < ((l.map Per.v).length : Int)))
 (Rf (l.map Per.v) (ck (decide (0 ≤ (W (t0 - 1)))) (ck (decide ((W (t0 - 1)) < (l.length : Int)))
 (∀ x1, l[(W (t0 - 1)).toNat]? = some x1 →
 Cl (keyP_c x1)
 (Rf (l.map Per.v) (ck (decide (0 ≤ t0)) (ck (decide (t0 < (l.length : Int)))
 (∀ x2, l[t0.toNat]? = some x2 →
 Cl (keyP_c x2)
 (br (decide (x2.router ≤ x1.router))
 (Rf (ascP_e (false)) ((false) = r0))
 (Nf (ascP_n0 l (W (t0 + 1))) [] (I0 (W (t0 + 1)) ∧ m0 (W (t0 + 1)) < m0 t0)))))))))))
 (Rf (ascP_e (true)) ((true) = r0))
theorem ascP_eq (l : (List Per)) (I0 : Int → Prop) (m0 : Int → Nat) (r0 : Bool) : mxP Try.prog 43 [.sl 3 (l.map Per.v) false, .func 44 []] .k ascP_e ((.loop 0 (ascP_n0 l) (I0) (m0) ((1) : Int) [] fun (t0 : Int) =>
 (.br 64 (.el 128 Per.v l fun x1 =>
 (.callP (keyP_c x1)
 (.el 224 Per.v l fun x2 =>
 (.callP (keyP_c x2)
 (.br 288 (.ret (false))
 (.back 0 ((W (t0 + 1)) : Int) []))))))
 (.ret (true)))) : An Try.prog ascP_s (Bool)) r0 = ascP_vc l I0 m0 r0 := by kernel_rfl
theorem ascP_ok (l : (List Per)) (I0 : Int → Prop) (m0 : Int → Nat) (r0 : Bool) (h : ascP_vc l I0 m0 r0) : PSpec Try.prog 43 [.sl 3 (l.map Per.v) false, .func 44 []] (ascP_e r0) := by
  have e := ascP_eq l I0 m0 r0
  rw [← e] at h
  exact mxP_ok (enc := ascP_e) h (AV.pureB_ok rfl)
theorem ascP_p (l : List Per) (ok : ascP_a l) : ∃ I m, ascP_vc l I m (ascB Per.router l) := by
  simp only [ascP_a, okU, Blk.ok, plainV, List.length_map] at ok
  refine ⟨fun t => ∃ k : Nat, t = k ∧ 1 ≤ k ∧ k ≤ l.length + 1 ∧ ∀ j x y, j + 1 < k → l[j]? = some x → l[j + 1]? = some y → Per.router x < Per.router y, fun t => l.length + 1 - t.toNat, ?_⟩
  simp only [ascP_vc, vcU, rfU, List.length_map]
  refine ⟨⟨1, rfl, by omega, by omega, fun j x y hj => by omega⟩, ?_⟩
  rintro _ ⟨k, rfl, hk1, hk, h⟩
  refine ⟨fun h1 => ?_, fun h1 => ?_⟩
  · rw [W_pred (by omega) hk1]
    simp only [Int.toNat_natCast]
    refine ⟨by omega, by omega, fun x hx => ⟨by omega, by omega, fun y hy => ⟨fun e => ?_, fun e => ?_⟩⟩⟩
    · refine (decide_eq_false fun hp => ?_).symm
      have : Per.router x < Per.router y := pw_get hp (show k - 1 < k by omega) hx hy
      omega
    · rw [W_succ (n := l.length) (by omega) (by omega)]
      refine ⟨⟨k + 1, rfl, by omega, by omega, fun j x' y' hj hx' hy' => ?_⟩, by omega⟩
      by_cases e' : j + 1 = k
      · subst e'
        rw [show j + 1 - 1 = j by omega, hx'] at hx; cases hx
        rw [hy'] at hy; cases hy; omega
      · exact h j x' y' (by omega) hx' hy'
  · exact (decide_eq_true (pw_adj fun j x y hx hy => h j x y (by have := lt_of_get hy; omega) hx hy)).symm
def ascP_c (l : (List Per)) : PC Try.prog := ⟨43, [(.s 3), .k], [.sl 3 (l.map Per.v) false, .func 44 []], ascP_e (ascB Per.router l), PSpec.of_ok fun ok => (ascP_p l ok).elim fun I0 h => h.elim fun m0 h => ascP_ok l I0 m0 _ h, fnB_ok (by kernel_rfl)⟩
end Go.Proofs.Ytglfecmdoekabaa
