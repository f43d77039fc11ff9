/- Lists of numbers and source filters. -/
import Derived.Test.YtglfecmdoekabaaG0
namespace Go.Proofs.Ytglfecmdoekabaa
open Go Go.Am
set_option linter.unusedVariables false
set_option linter.unusedSimpArgs false
def ints (l : List Int) : AV := .sl 1 (l.map .int) false
def ascI (l : List Int) : Prop := ∀ i, i < l.length - 1 → l.getD i 0 < l.getD (i + 1) 0
instance (l : List Int) : Decidable (ascI l) := by unfold ascI; infer_instance
def rngI (l : List Int) : Prop := ∀ s ∈ l, 1 ≤ s ∧ s ≤ 99
instance (l : List Int) : Decidable (rngI l) := by unfold rngI; infer_instance
def fltErr (m : Int) (l : List Int) : Int := if ¬ (m = 1 ∨ m = 2) then 1 else if ¬ rngI l then 2 else if ¬ ascI l then 25 else 0
theorem getD_get {l : List Int} {i : Nat} (h : i < l.length) : l.getD i 0 = l[i] := by
  simp [List.getD_eq_getElem?_getD, List.getElem?_eq_getElem h]
theorem getD_of_get {l : List Int} {i : Nat} {x : Int} (h : l[i]? = some x) : l.getD i 0 = x := by
  simp [List.getD_eq_getElem?_getD, h]
def orI (l : List Int) : Int := (l.find? (· != 0)).getD 0
def cmpI (x y : Int) : Int := if x < y then -1 else if y < x then 1 else 0
def isNaN (x : Int) : Bool := false
theorem int_ne_self (x : Int) : (x != x) = false := by simp
/-- The index of a loop over a list goes on. -/
theorem W_succ {k n : Nat} (h : k < n) (hn : n ≤ 9223372036854775807) : W ((k : Int) + 1) = ((k + 1 : Nat) : Int) := by rw [W_eq (by omega)]; omega
theorem W_pred {k : Nat} (h : k ≤ 9223372036854775807) (h1 : 1 ≤ k) : W ((k : Int) - 1) = ((k - 1 : Nat) : Int) := by rw [W_eq (by omega)]; omega
def isNaN_a (x : Int) : Prop := okL [.int x]
def isNaN_s : Nat → Type
  | _ => Unit
def isNaN_e (r : Bool) : AV := .bool r
def isNaN_vc (x : Int) (r0 : Bool) : Prop :=
 Rf (isNaN_e (x != x)) ((x != x) = r0)
theorem isNaN_eq (x : Int) (r0 : Bool) : mxP Try.prog 73 [.int x] .k isNaN_e ((.ret (x != x)) : An Try.prog isNaN_s (Bool)) r0 = isNaN_vc x r0 := by kernel_rfl
theorem isNaN_ok (x : Int) (r0 : Bool) (h : isNaN_vc x r0) : PSpec Try.prog 73 [.int x] (isNaN_e r0) := by
  have e := isNaN_eq x r0
  rw [← e] at h
  exact mxP_ok (enc := isNaN_e) h (AV.pureB_ok rfl)
theorem isNaN_p (x : Int) (ok : isNaN_a x) : isNaN_vc x (isNaN x) := by
  simp only [isNaN_vc, vcU, rfU, List.length_map]
  simp [isNaN]
def isNaN_c (x : Int) : PC Try.prog := ⟨73, [.k], [.int x], isNaN_e (isNaN x), PSpec.of_ok fun ok => isNaN_ok x _ (isNaN_p x ok), fnB_ok (by kernel_rfl)⟩
def cmpI_a (x : Int) (y : Int) : Prop := okL [.int x, .int y]
def cmpI_s : Nat → Type
  | _ => Unit
def cmpI_e (r : Int) : AV := .int r
def cmpI_vc (x : Int) (y : Int) (r0 : Int) : Prop :=
 Cl (isNaN_c x)
 (Cl (isNaN_c y)
 (br (isNaN x)
 (br (isNaN y)
 (Rf (cmpI_e (0)) ((0) = r0))
 (Rf (cmpI_e (-1)) ((-1) = r0)))
 (br (isNaN y)
 (Rf (cmpI_e (1)) ((1) = r0))
 (br (decide (x < y))
 (Rf (cmpI_e (-1)) ((-1) = r0))
 (br (decide (y < x))
 (Rf (cmpI_e (1)) ((1) = r0))
 (Rf (cmpI_e (0)) ((0) = r0)))))))
theorem cmpI_eq (x : Int) (y : Int) (r0 : Int) : mxP Try.prog 40 [.int x, .int y] .k cmpI_e ((.callP (isNaN_c x)
 (.callP (isNaN_c y)
 (.br 128 (.br 144 (.ret (0))
 (.ret (-1)))
 (.br 144 (.ret (1))
 (.br 192 (.ret (-1))
 (.br 240 (.ret (1))
 (.ret (0)))))))) : An Try.prog cmpI_s (Int)) r0 = cmpI_vc x y r0 := by kernel_rfl
theorem cmpI_ok (x : Int) (y : Int) (r0 : Int) (h : cmpI_vc x y r0) : PSpec Try.prog 40 [.int x, .int y] (cmpI_e r0) := by
  have e := cmpI_eq x y r0
  rw [← e] at h
  exact mxP_ok (enc := cmpI_e) h (AV.pureB_ok rfl)
theorem cmpI_p (x y : Int) (ok : cmpI_a x y) : cmpI_vc x y (cmpI x y) := by
  simp only [cmpI_vc, vcU, rfU, List.length_map]
  simp only [isNaN, Bool.false_eq_true, false_implies, true_implies, true_and, cmpI]
  refine ⟨fun h => by rw [if_pos h], fun h => ⟨fun h2 => by rw [if_neg h, if_pos h2], fun h2 => by rw [if_neg h, if_neg h2]⟩⟩
def cmpI_c (x : Int) (y : Int) : PC Try.prog := ⟨40, [.k, .k], [.int x, .int y], cmpI_e (cmpI x y), PSpec.of_ok fun ok => cmpI_ok x y _ (cmpI_p x y ok), fnB_ok (by kernel_rfl)⟩
theorem find_take {l : List Int} {k : Nat} {x : Int} (h : l.take k |>.all (· == 0)) (hx : l[k]? = some x) (hn : x ≠ 0) : l.find? (· != 0) = some x := by
  rw [List.find?_eq_some_iff_getElem]
  refine ⟨by simpa using hn, k, lt_of_get hx, by rw [List.getElem?_eq_getElem (lt_of_get hx)] at hx; exact Option.some.inj hx, fun j hj => ?_⟩
  have := List.all_eq_true.mp h (l[j]'(by have := lt_of_get hx; omega)) (List.mem_take_iff_getElem.mpr ⟨j, by have := lt_of_get hx; omega, rfl⟩)
  simpa using this
def orI_a (vals : (List Int)) : Prop := okL [.sl 1 (vals.map AV.int) false]
def orI_n0 (vals : (List Int)) (t0 : Int) : NF := ⟨[(3, .k, .int 0), (6, .k, .sl 1 (vals.map AV.int) false), (7, .k, .int ((vals.map AV.int).length : Int)), (8, .k, .int t0)], []⟩
def orI_s : Nat → Type
  | 0 => Int
  | _ => Unit
def orI_e (r : Int) : AV := .int r
def orI_vc (vals : (List Int)) (I0 : Int → Prop) (m0 : Int → Nat) (r0 : Int) : Prop :=
 Nf (orI_n0 vals (0)) [] (I0 (0)) ∧ ∀ t0 : Int, I0 t0 →
 br (decide (t0 < ((vals.map AV.int).length : Int)))
 (Rf (vals.map AV.int) (ck (decide (0 ≤ t0)) (ck (decide (t0 < (vals.length : Int)))
 (∀ x1, vals[t0.toNat]? = some x1 →
 br (x1 != 0)
 (Rf (orI_e (x1)) ((x1) = r0))
 (Nf (orI_n0 vals (W (t0 + 1))) [] (I0 (W (t0 + 1)) ∧ m0 (W (t0 + 1)) < m0 t0))))))
 (Rf (orI_e (0)) ((0) = r0))
theorem orI_eq (vals : (List Int)) (I0 : Int → Prop) (m0 : Int → Nat) (r0 : Int) : mxP Try.prog 58 [.sl 1 (vals.map AV.int) false] .k orI_e ((.loop 0 (orI_n0 vals) (I0) (m0) ((0) : Int) [] fun (t0 : Int) =>
 (.br 16 (.el 16 AV.int vals fun x1 =>
 (.br 112 (.ret (x1))
 (.back 0 ((W (t0 + 1)) : Int) [])))
 (.ret (0)))) : An Try.prog orI_s (Int)) r0 = orI_vc vals I0 m0 r0 := by kernel_rfl
theorem orI_ok (vals : (List Int)) (I0 : Int → Prop) (m0 : Int → Nat) (r0 : Int) (h : orI_vc vals I0 m0 r0) : PSpec Try.prog 58 [.sl 1 (vals.map AV.int) false] (orI_e r0) := by
  have e := orI_eq vals I0 m0 r0
  rw [← e] at h
  exact mxP_ok (enc := orI_e) h (AV.pureB_ok rfl)
theorem orI_p (vals : List Int) (ok : orI_a vals) : ∃ I m, orI_vc vals I m (orI vals) := by
  simp only [orI_a, okU, Blk.ok, plainV, List.length_map] at ok
  refine ⟨fun t => ∃ k : Nat, t = k ∧ k ≤ vals.length ∧ (vals.take k).all (· == 0), fun t => vals.length - t.toNat, ?_⟩
  simp only [orI_vc, vcU, rfU, List.length_map]
  refine ⟨⟨0, rfl, by omega, by simp⟩, ?_⟩
  rintro _ ⟨k, rfl, hk, h⟩
  refine ⟨fun h1 => ⟨by omega, by omega, fun x hx => ⟨fun hn => ?_, fun hn => ?_⟩⟩, fun h1 => ?_⟩
  · rw [Int.toNat_natCast] at hx
    rw [orI, find_take h hx (by simpa using hn)]; rfl
  · rw [Int.toNat_natCast] at hx
    have hlt := lt_of_get hx
    rw [W_succ (n := vals.length) (by omega) (by omega)]
    refine ⟨⟨k + 1, rfl, by omega, ?_⟩, by omega⟩
    rw [take_succ hx, List.all_append, h]; simpa using hn
  · rw [List.take_of_length_le (by omega)] at h
    rw [orI, List.find?_eq_none.mpr]
    · rfl
    · intro x hx; simpa using List.all_eq_true.mp h x hx
def orI_c (vals : (List Int)) : PC Try.prog := ⟨58, [(.s 1)], [.sl 1 (vals.map AV.int) false], orI_e (orI vals), PSpec.of_ok fun ok => (orI_p vals ok).elim fun I0 h => h.elim fun m0 h => orI_ok vals I0 m0 _ h, fnB_ok (by kernel_rfl)⟩
def cloneI_a (s : (List Int)) : Prop := okL [.sl 1 (s.map AV.int) false]
def cloneI_s : Nat → Type
  | _ => Unit
def cloneI_e (r : (List Int)) : AV := .sl 1 (r.map AV.int) false
def cloneI_vc (s : (List Int)) (r0 : (List Int)) : Prop :=
 ∀ b1 : Bool, ((s.map AV.int) ≠ [] → b1 = false) →
 br (b1 != false)
 (Rf (cloneI_e ([])) (([]) = r0))
 (Rf (α := List AV) [] (Rf (α := List AV) (s.map AV.int)
 (ck (decide (0 + s.length ≤ 1000000))
 (Rf (s.map AV.int) (Rf (cloneI_e (s)) ((s) = r0))))))
theorem cloneI_eq (s : (List Int)) (r0 : (List Int)) : mxP Try.prog 67 [.sl 1 (s.map AV.int) false] (.s 1) cloneI_e ((.br 48 (.ret ([]))
 (.app 80 AV.int [] s
 (.cmdL (.frzE 80 (s.map AV.int) (pureBL_map (fun _ => rfl) s)) (.ret (s))))) : An Try.prog cloneI_s ((List Int))) r0 = cloneI_vc s r0 := by kernel_rfl
theorem cloneI_ok (s : (List Int)) (r0 : (List Int)) (h : cloneI_vc s r0) : PSpec Try.prog 67 [.sl 1 (s.map AV.int) false] (cloneI_e r0) := by
  have e := cloneI_eq s r0
  rw [← e] at h
  exact mxP_ok (enc := cloneI_e) h (AV.pureB_ok rfl)
theorem cloneI_p (s : List Int) (h : s.length ≤ 1000000) (ok : cloneI_a s) : cloneI_vc s s := by
  simp only [cloneI_vc, vcU, rfU, List.length_map]
  intro b hb
  simp only [pureBL_int, true_and, and_true, Nat.zero_add]
  refine ⟨fun h1 => ?_, fun _ => h⟩
  cases s with
  | nil => rfl
  | cons x s => simp at hb; simp [hb] at h1
def cloneI_c (s : (List Int)) (h : s.length ≤ 1000000) : PC Try.prog := ⟨67, [(.s 1)], [.sl 1 (s.map AV.int) false], cloneI_e s, PSpec.of_ok fun ok => cloneI_ok s _ (cloneI_p s h ok), fnB_ok (by kernel_rfl)⟩
theorem take_eq {a b : List Int} {k : Nat} {x y : Int} (h : a.take k = b.take k) (hx : a[k]? = some x) (hy : b[k]? = some y) (e : (x != y) = false) : a.take (k + 1) = b.take (k + 1) := by
  have e : x = y := by simpa using e
  rw [take_succ hx, take_succ hy, h, e]
def IntsEq (a b : List Int) : Bool := decide (a = b)
abbrev EqI := IntsEq
def IntsEq_a (a : (List Int)) (b : (List Int)) : Prop := okL [.sl 1 (a.map AV.int) false, .sl 1 (b.map AV.int) false]
def IntsEq_n0 (a : (List Int)) (b : (List Int)) (t0 : Int) : NF := ⟨[(0, .k, .sl 1 (a.map AV.int) false), (1, .k, .sl 1 (b.map AV.int) false), (5, .k, .int t0)], []⟩
def IntsEq_s : Nat → Type
  | 0 => Int
  | _ => Unit
def IntsEq_e (r : Bool) : AV := .bool r
def IntsEq_vc (a : (List Int)) (b : (List Int)) (I0 : Int → Prop) (m0 : Int → Nat) (r0 : Bool) : Prop :=
 br (((a.map AV.int).length : Int) != ((b.map AV.int).length : Int))
 (Rf (IntsEq_e (false)) ((false) = r0))
 (Nf (IntsEq_n0 a b (0)) [] (I0 (0)) ∧ ∀ t0 : Int, I0 t0 →
 br (decide (t0 < ((a.map AV.int).length : Int)))
 (Rf (a.map AV.int) (ck (decide (0 ≤ t0)) (ck (decide (t0 < (a.length : Int)))
 (∀ x1, a[t0.toNat]? = some x1 →
 Rf (b.map AV.int) (ck (decide (0 ≤ t0)) (ck (decide (t0 < (b.length : Int)))
 (∀ x2, b[t0.toNat]? = some x2 →
 br (x1 != x2)
 (Rf (IntsEq_e (false)) ((false) = r0))
 (Nf (IntsEq_n0 a b (W (t0 + 1))) [] (I0 (W (t0 + 1)) ∧ m0 (W (t0 + 1)) < m0 t0)))))))))
 (Rf (IntsEq_e (true)) ((true) = r0)))
theorem IntsEq_eq (a : (List Int)) (b : (List Int)) (I0 : Int → Prop) (m0 : Int → Nat) (r0 : Bool) : mxP Try.prog 53 [.sl 1 (a.map AV.int) false, .sl 1 (b.map AV.int) false] .k IntsEq_e ((.br 96 (.ret (false))
 (.loop 0 (IntsEq_n0 a b) (I0) (m0) ((0) : Int) [] fun (t0 : Int) =>
 (.br 64 (.el 96 AV.int a fun x1 =>
 (.el 160 AV.int b fun x2 =>
 (.br 208 (.ret (false))
 (.back 0 ((W (t0 + 1)) : Int) []))))
 (.ret (true))))) : An Try.prog IntsEq_s (Bool)) r0 = IntsEq_vc a b I0 m0 r0 := by kernel_rfl
theorem IntsEq_ok (a : (List Int)) (b : (List Int)) (I0 : Int → Prop) (m0 : Int → Nat) (r0 : Bool) (h : IntsEq_vc a b I0 m0 r0) : PSpec Try.prog 53 [.sl 1 (a.map AV.int) false, .sl 1 (b.map AV.int) false] (IntsEq_e r0) := by
  have e := IntsEq_eq a b I0 m0 r0
  rw [← e] at h
  exact mxP_ok (enc := IntsEq_e) h (AV.pureB_ok rfl)
theorem IntsEq_p (a b : List Int) (ok : IntsEq_a a b) : ∃ I m, IntsEq_vc a b I m (IntsEq a b) := by
  simp only [IntsEq_a, okU, Blk.ok, plainV, List.length_map] at ok
  refine ⟨fun i => ∃ k : Nat, i = k ∧ k ≤ a.length ∧ a.take k = b.take k, fun i => a.length - i.toNat, ?_⟩
  simp only [IntsEq_vc, vcU, rfU, List.length_map]
  refine ⟨fun h => ?_, fun h => ⟨⟨0, rfl, by omega, rfl⟩, ?_⟩⟩
  · refine (decide_eq_false fun e => ?_).symm
    subst e; simp at h
  have hl : a.length = b.length := by simp at h; omega
  rintro _ ⟨k, rfl, hk, h⟩
  simp only [Int.toNat_natCast]
  refine ⟨fun h1 => ⟨by omega, by omega, fun x hx => ⟨by omega, by omega, fun y hy => ⟨fun e => ?_, fun e => ?_⟩⟩⟩, fun h1 => ?_⟩
  · refine (decide_eq_false fun e' => ?_).symm
    subst e'; rw [hx] at hy; cases hy; simp at e
  · rw [W_succ (n := a.length) (by omega) (by omega)]
    exact ⟨⟨k + 1, rfl, by omega, take_eq h hx hy e⟩, by omega⟩
  · rw [List.take_of_length_le (by omega), List.take_of_length_le (by omega)] at h
    exact (decide_eq_true h).symm
def IntsEq_c (a : (List Int)) (b : (List Int)) : PC Try.prog := ⟨53, [(.s 1), (.s 1)], [.sl 1 (a.map AV.int) false, .sl 1 (b.map AV.int) false], IntsEq_e (IntsEq a b), PSpec.of_ok fun ok => (IntsEq_p a b ok).elim fun I0 h => h.elim fun m0 h => IntsEq_ok a b I0 m0 _ h, fnB_ok (by kernel_rfl)⟩
def EqI_a (s1 : (List Int)) (s2 : (List Int)) : Prop := okL [.sl 1 (s1.map AV.int) false, .sl 1 (s2.map AV.int) false]
def EqI_n0 (s1 : (List Int)) (s2 : (List Int)) (t0 : Int) : NF := ⟨[(0, .k, .sl 1 (s1.map AV.int) false), (1, .k, .sl 1 (s2.map AV.int) false), (12, .k, .int ((s1.map AV.int).length : Int)), (13, .k, .int t0)], []⟩
def EqI_s : Nat → Type
  | 0 => Int
  | _ => Unit
def EqI_e (r : Bool) : AV := .bool r
def EqI_vc (s1 : (List Int)) (s2 : (List Int)) (I0 : Int → Prop) (m0 : Int → Nat) (r0 : Bool) : Prop :=
 br (((s1.map AV.int).length : Int) != ((s2.map AV.int).length : Int))
 (Rf (EqI_e (false)) ((false) = r0))
 (Nf (EqI_n0 s1 s2 (0)) [] (I0 (0)) ∧ ∀ t0 : Int, I0 t0 →
 br (decide (t0 < ((s1.map AV.int).length : Int)))
 (Rf (s1.map AV.int) (ck (decide (0 ≤ t0)) (ck (decide (t0 < (s1.length : Int)))
 (∀ x1, s1[t0.toNat]? = some x1 →
 Rf (s2.map AV.int) (ck (decide (0 ≤ t0)) (ck (decide (t0 < (s2.length : Int)))
 (∀ x2, s2[t0.toNat]? = some x2 →
 br (x1 != x2)
 (Rf (EqI_e (false)) ((false) = r0))
 (Nf (EqI_n0 s1 s2 (W (t0 + 1))) [] (I0 (W (t0 + 1)) ∧ m0 (W (t0 + 1)) < m0 t0)))))))))
 (Rf (EqI_e (true)) ((true) = r0)))
theorem EqI_eq (s1 : (List Int)) (s2 : (List Int)) (I0 : Int → Prop) (m0 : Int → Nat) (r0 : Bool) : mxP Try.prog 66 [.sl 1 (s1.map AV.int) false, .sl 1 (s2.map AV.int) false] .k EqI_e ((.br 96 (.ret (false))
 (.loop 0 (EqI_n0 s1 s2) (I0) (m0) ((0) : Int) [] fun (t0 : Int) =>
 (.br 16 (.el 80 AV.int s1 fun x1 =>
 (.el 144 AV.int s2 fun x2 =>
 (.br 192 (.ret (false))
 (.back 0 ((W (t0 + 1)) : Int) []))))
 (.ret (true))))) : An Try.prog EqI_s (Bool)) r0 = EqI_vc s1 s2 I0 m0 r0 := by kernel_rfl
theorem EqI_ok (s1 : (List Int)) (s2 : (List Int)) (I0 : Int → Prop) (m0 : Int → Nat) (r0 : Bool) (h : EqI_vc s1 s2 I0 m0 r0) : PSpec Try.prog 66 [.sl 1 (s1.map AV.int) false, .sl 1 (s2.map AV.int) false] (EqI_e r0) := by
  have e := EqI_eq s1 s2 I0 m0 r0
  rw [← e] at h
  exact mxP_ok (enc := EqI_e) h (AV.pureB_ok rfl)
theorem EqI_p (a b : List Int) (ok : EqI_a a b) : ∃ I m, EqI_vc a b I m (EqI a b) := by
  simp only [EqI_a, okU, Blk.ok, plainV, List.length_map] at ok
  refine ⟨fun i => ∃ k : Nat, i = k ∧ k ≤ a.length ∧ a.take k = b.take k, fun i => a.length - i.toNat, ?_⟩
  simp only [EqI_vc, vcU, rfU, List.length_map]
  refine ⟨fun h => ?_, fun h => ⟨⟨0, rfl, by omega, rfl⟩, ?_⟩⟩
  · refine (decide_eq_false fun e => ?_).symm
    subst e; simp at h
  have hl : a.length = b.length := by simp at h; omega
  rintro _ ⟨k, rfl, hk, h⟩
  simp only [Int.toNat_natCast]
  refine ⟨fun h1 => ⟨by omega, by omega, fun x hx => ⟨by omega, by omega, fun y hy => ⟨fun e => ?_, fun e => ?_⟩⟩⟩, fun h1 => ?_⟩
  · refine (decide_eq_false fun e' => ?_).symm
    subst e'; rw [hx] at hy; cases hy; simp at e
  · rw [W_succ (n := a.length) (by omega) (by omega)]
    exact ⟨⟨k + 1, rfl, by omega, take_eq h hx hy e⟩, by omega⟩
  · rw [List.take_of_length_le (by omega), List.take_of_length_le (by omega)] at h
    exact (decide_eq_true h).symm
def EqI_c (s1 : (List Int)) (s2 : (List Int)) : PC Try.prog := ⟨66, [(.s 1), (.s 1)], [.sl 1 (s1.map AV.int) false, .sl 1 (s2.map AV.int) false], EqI_e (EqI s1 s2), PSpec.of_ok fun ok => (EqI_p s1 s2 ok).elim fun I0 h => h.elim fun m0 h => EqI_ok s1 s2 I0 m0 _ h, fnB_ok (by kernel_rfl)⟩
def InI (l : List Int) (x : Int) : Bool := decide (x ∈ l)
/-! ### Filters -/
def Nothing : Flt := ⟨1, []⟩
def Nothing_a : Prop := okL []
def Nothing_s : Nat → Type
  | _ => Unit
def Nothing_e (r : Flt) : AV := Flt.v r
def Nothing_vc (r0 : Flt) : Prop :=
 Rf (Nothing_e ((⟨1, []⟩ : Flt))) (((⟨1, []⟩ : Flt)) = r0)
theorem Nothing_eq (r0 : Flt) : mxP Try.prog 24 [] (.a [.k, (.s 1)]) Nothing_e ((.ret ((⟨1, []⟩ : Flt))) : An Try.prog Nothing_s (Flt)) r0 = Nothing_vc r0 := by kernel_rfl
theorem Nothing_ok (r0 : Flt) (h : Nothing_vc r0) : PSpec Try.prog 24 [] (Nothing_e r0) := by
  have e := Nothing_eq r0
  rw [← e] at h
  exact mxP_ok (enc := Nothing_e) h (AV.pureB_ok rfl)
theorem Nothing_p (ok : Nothing_a) : Nothing_vc Nothing := by
  simp only [Nothing_vc, vcU, rfU, List.length_map]
  rfl
def Nothing_c : PC Try.prog := ⟨24, [], [], Nothing_e Nothing, PSpec.of_ok fun ok => Nothing_ok _ (Nothing_p ok), fnB_ok (by kernel_rfl)⟩
def FSame (a b : Flt) : Bool := decide (a = b)
abbrev PSame := FSame
theorem flt_eq {a b : Flt} : a = b ↔ a.mode = b.mode ∧ a.srcs = b.srcs := by cases a; cases b; simp
def FSame_a (a : Flt) (b : Flt) : Prop := okL [.agg [.int a.mode, .sl 1 (a.srcs.map AV.int) false], .agg [.int b.mode, .sl 1 (b.srcs.map AV.int) false]]
def FSame_s : Nat → Type
  | _ => Unit
def FSame_e (r : Bool) : AV := .bool r
def FSame_vc (a : Flt) (b : Flt) (r0 : Bool) : Prop :=
 br (a.mode == b.mode)
 (Cl (IntsEq_c a.srcs b.srcs)
 (Rf (FSame_e (IntsEq a.srcs b.srcs)) ((IntsEq a.srcs b.srcs) = r0)))
 (Rf (FSame_e (false)) ((false) = r0))
theorem FSame_eq (a : Flt) (b : Flt) (r0 : Bool) : mxP Try.prog 23 [.agg [.int a.mode, .sl 1 (a.srcs.map AV.int) false], .agg [.int b.mode, .sl 1 (b.srcs.map AV.int) false]] .k FSame_e ((.br 144 (.callP (IntsEq_c a.srcs b.srcs)
 (.ret (IntsEq a.srcs b.srcs)))
 (.ret (false))) : An Try.prog FSame_s (Bool)) r0 = FSame_vc a b r0 := by kernel_rfl
theorem FSame_ok (a : Flt) (b : Flt) (r0 : Bool) (h : FSame_vc a b r0) : PSpec Try.prog 23 [.agg [.int a.mode, .sl 1 (a.srcs.map AV.int) false], .agg [.int b.mode, .sl 1 (b.srcs.map AV.int) false]] (FSame_e r0) := by
  have e := FSame_eq a b r0
  rw [← e] at h
  exact mxP_ok (enc := FSame_e) h (AV.pureB_ok rfl)
theorem FSame_p (a b : Flt) (ok : FSame_a a b) : FSame_vc a b (FSame a b) := by
  simp only [FSame_vc, vcU, rfU, List.length_map]
  simp only [FSame, IntsEq, flt_eq]
  refine ⟨fun h => ?_, fun h => ?_⟩ <;> simp at h <;> simp [h]
def FSame_c (a : Flt) (b : Flt) : PC Try.prog := ⟨23, [(.a [.k, (.s 1)]), (.a [.k, (.s 1)])], [.agg [.int a.mode, .sl 1 (a.srcs.map AV.int) false], .agg [.int b.mode, .sl 1 (b.srcs.map AV.int) false]], FSame_e (FSame a b), PSpec.of_ok fun ok => FSame_ok a b _ (FSame_p a b ok), fnB_ok (by kernel_rfl)⟩
def PSame_a (a : Flt) (b : Flt) : Prop := okL [.agg [.int a.mode, .sl 1 (a.srcs.map AV.int) false], .agg [.int b.mode, .sl 1 (b.srcs.map AV.int) false]]
def PSame_s : Nat → Type
  | _ => Unit
def PSame_e (r : Bool) : AV := .bool r
def PSame_vc (a : Flt) (b : Flt) (r0 : Bool) : Prop :=
 br (a.mode == b.mode)
 (Cl (EqI_c a.srcs b.srcs)
 (Rf (PSame_e (EqI a.srcs b.srcs)) ((EqI a.srcs b.srcs) = r0)))
 (Rf (PSame_e (false)) ((false) = r0))
theorem PSame_eq (a : Flt) (b : Flt) (r0 : Bool) : mxP Try.prog 33 [.agg [.int a.mode, .sl 1 (a.srcs.map AV.int) false], .agg [.int b.mode, .sl 1 (b.srcs.map AV.int) false]] .k PSame_e ((.br 144 (.callP (EqI_c a.srcs b.srcs)
 (.ret (EqI a.srcs b.srcs)))
 (.ret (false))) : An Try.prog PSame_s (Bool)) r0 = PSame_vc a b r0 := by kernel_rfl
theorem PSame_ok (a : Flt) (b : Flt) (r0 : Bool) (h : PSame_vc a b r0) : PSpec Try.prog 33 [.agg [.int a.mode, .sl 1 (a.srcs.map AV.int) false], .agg [.int b.mode, .sl 1 (b.srcs.map AV.int) false]] (PSame_e r0) := by
  have e := PSame_eq a b r0
  rw [← e] at h
  exact mxP_ok (enc := PSame_e) h (AV.pureB_ok rfl)
theorem PSame_p (a b : Flt) (ok : PSame_a a b) : PSame_vc a b (PSame a b) := by
  simp only [PSame_vc, vcU, rfU, List.length_map]
  simp only [FSame, IntsEq, flt_eq]
  refine ⟨fun h => ?_, fun h => ?_⟩ <;> simp at h <;> simp [h]
def PSame_c (a : Flt) (b : Flt) : PC Try.prog := ⟨33, [(.a [.k, (.s 1)]), (.a [.k, (.s 1)])], [.agg [.int a.mode, .sl 1 (a.srcs.map AV.int) false], .agg [.int b.mode, .sl 1 (b.srcs.map AV.int) false]], PSame_e (PSame a b), PSpec.of_ok fun ok => PSame_ok a b _ (PSame_p a b ok), fnB_ok (by kernel_rfl)⟩
theorem ascI_iff {l : List Int} : ascI l ↔ ∀ j x y, l[j]? = some x → l[j + 1]? = some y → x < y := by
  unfold ascI
  constructor
  · intro h j x y hx hy
    have := h j (by have := lt_of_get hy; omega)
    rwa [getD_of_get hx, getD_of_get hy] at this
  · intro h i hi
    have e1 := List.getElem?_eq_getElem (show i < l.length by omega)
    have e2 := List.getElem?_eq_getElem (show i + 1 < l.length by omega)
    rw [getD_of_get e1, getD_of_get e2]
    exact h i _ _ e1 e2
def FVal (f : Flt) : Int := fltErr f.mode f.srcs
abbrev PVal := FVal
def FVal_a (f : Flt) : Prop := okL [.agg [.int f.mode, .sl 1 (f.srcs.map AV.int) false]]
def FVal_n0 (f : Flt) (t0 : Unit) : NF := ⟨[(1, .k, .ref 0 0)], [.box (.agg [.int f.mode, .sl 1 (f.srcs.map AV.int) false])]⟩
def FVal_n1 (f : Flt) (t0 : Unit) (t1 : Int) : NF := ⟨[(1, .k, .ref 0 0), (15, .k, .sl 1 (f.srcs.map AV.int) false), (16, .k, .int ((f.srcs.map AV.int).length : Int)), (17, .k, .int t1)], [.box (.agg [.int f.mode, .sl 1 (f.srcs.map AV.int) false])]⟩
def FVal_n2 (f : Flt) (t0 : Unit) (t1 : Int) (t2 : Int) : NF := ⟨[(1, .k, .ref 0 0), (5, .k, .int t2)], [.box (.agg [.int f.mode, .sl 1 (f.srcs.map AV.int) false])]⟩
def FVal_s : Nat → Type
  | 0 => Unit
  | 1 => Int
  | 2 => Int
  | _ => Unit
def FVal_e (r : Int) : AV := .int r
def FVal_vc (f : Flt) (I1 : Unit → Int → Prop) (m1 : Unit → Int → Nat) (I2 : Unit → Int → Int → Prop) (m2 : Unit → Int → Int → Nat) (r0 : Int) : Prop :=
 (br (f.mode != 1)
 (br (f.mode != 2)
 (Rf (FVal_e (1)) ((1) = r0))
 (Nf (FVal_n0 f (())) [0] ((bif (f.mode != 1) then (bif (f.mode != 2) then false else true) else true) = true)))
 (Nf (FVal_n0 f (())) [0] ((bif (f.mode != 1) then (bif (f.mode != 2) then false else true) else true) = true))) ∧ ∀ t0 : Unit, (bif (f.mode != 1) then (bif (f.mode != 2) then false else true) else true) = true →
 Nf (FVal_n1 f t0 (0)) [0] (I1 t0 (0)) ∧ ∀ t1 : Int, I1 t0 t1 →
 br (decide (t1 < ((f.srcs.map AV.int).length : Int)))
 (Rf (f.srcs.map AV.int) (ck (decide (0 ≤ t1)) (ck (decide (t1 < (f.srcs.length : Int)))
 (∀ x1, f.srcs[t1.toNat]? = some x1 →
 br (decide (x1 < 1))
 (Rf (FVal_e (2)) ((2) = r0))
 (br (decide (99 < x1))
 (Rf (FVal_e (2)) ((2) = r0))
 (Nf (FVal_n1 f t0 (W (t1 + 1))) [0] (I1 t0 (W (t1 + 1)) ∧ m1 t0 (W (t1 + 1)) < m1 t0 t1)))))))
 (Nf (FVal_n2 f t0 t1 (1)) [0] (I2 t0 t1 (1)) ∧ ∀ t2 : Int, I2 t0 t1 t2 →
 br (decide (t2 < ((f.srcs.map AV.int).length : Int)))
 (Rf (f.srcs.map AV.int) (ck (decide (0 ≤ (W (t2 - 1)))) (ck (decide ((W (t2 - 1)) < (f.srcs.length : Int)))
 (∀ x2, f.srcs[(W (t2 - 1)).toNat]? = some x2 →
 Rf (f.srcs.map AV.int) (ck (decide (0 ≤ t2)) (ck (decide (t2 < (f.srcs.length : Int)))
 (∀ x3, f.srcs[t2.toNat]? = some x3 →
 br (decide (x3 ≤ x2))
 (Rf (FVal_e (25)) ((25) = r0))
 (Nf (FVal_n2 f t0 t1 (W (t2 + 1))) [0] (I2 t0 t1 (W (t2 + 1)) ∧ m2 t0 t1 (W (t2 + 1)) < m2 t0 t1 t2)))))))))
 (Rf (FVal_e (0)) ((0) = r0)))
theorem FVal_eq (f : Flt) (I1 : Unit → Int → Prop) (m1 : Unit → Int → Nat) (I2 : Unit → Int → Int → Prop) (m2 : Unit → Int → Int → Nat) (r0 : Int) : mxP Try.prog 52 [.agg [.int f.mode, .sl 1 (f.srcs.map AV.int) false]] .k FVal_e ((.pass (.join 0 (FVal_n0 f) (fun t0 => (bif (f.mode != 1) then (bif (f.mode != 2) then false else true) else true) = true) (.br 96 (.br 160 (.ret (1))
 (.back 0 ((()) : Unit) [0]))
 (.back 0 ((()) : Unit) [0])) fun (t0 : Unit) =>
 (.loop 1 (FVal_n1 f t0) (I1 t0) (m1 t0) ((0) : Int) [0] fun (t1 : Int) =>
 (.br 17 (.el 17 AV.int f.srcs fun x1 =>
 (.br 113 (.ret (2))
 (.br 161 (.ret (2))
 (.back 1 ((W (t1 + 1)) : Int) [0]))))
 (.loop 2 (FVal_n2 f t0 t1) (I2 t0 t1) (m2 t0 t1) ((1) : Int) [0] fun (t2 : Int) =>
 (.br 81 (.el 145 AV.int f.srcs fun x2 =>
 (.el 225 AV.int f.srcs fun x3 =>
 (.br 273 (.ret (25))
 (.back 2 ((W (t2 + 1)) : Int) [0]))))
 (.ret (0)))))))) : An Try.prog FVal_s (Int)) r0 = FVal_vc f I1 m1 I2 m2 r0 := by kernel_rfl
theorem FVal_ok (f : Flt) (I1 : Unit → Int → Prop) (m1 : Unit → Int → Nat) (I2 : Unit → Int → Int → Prop) (m2 : Unit → Int → Int → Nat) (r0 : Int) (h : FVal_vc f I1 m1 I2 m2 r0) : PSpec Try.prog 52 [.agg [.int f.mode, .sl 1 (f.srcs.map AV.int) false]] (FVal_e r0) := by
  have e := FVal_eq f I1 m1 I2 m2 r0
  rw [← e] at h
  exact mxP_ok (enc := FVal_e) h (AV.pureB_ok rfl)
theorem FVal_p (f : Flt) (ok : FVal_a f) : ∃ I1 m1 I2 m2, FVal_vc f I1 m1 I2 m2 (fltErr f.mode f.srcs) := by
  simp only [FVal_a, okU, Blk.ok, plainV, List.length_map] at ok
  refine ⟨fun _ t => ∃ k : Nat, t = k ∧ k ≤ f.srcs.length ∧ ∀ s ∈ f.srcs.take k, 1 ≤ s ∧ s ≤ 99, fun _ t => f.srcs.length - t.toNat,
    fun _ t1 t => rngI f.srcs ∧ ∃ k : Nat, t = k ∧ 1 ≤ k ∧ k ≤ f.srcs.length + 1 ∧ ∀ j x y, j + 1 < k → f.srcs[j]? = some x → f.srcs[j + 1]? = some y → x < y, fun _ _ t => f.srcs.length + 1 - t.toNat, ?_⟩
  simp only [FVal_vc, vcU, rfU, List.length_map]
  have hmode : ((bif f.mode != 1 then bif f.mode != 2 then false else true else true) = true) ↔ (f.mode = 1 ∨ f.mode = 2) := by
    by_cases h1 : f.mode = 1 <;> by_cases h2 : f.mode = 2 <;> simp [h1, h2]
  simp only [hmode]
  refine ⟨⟨fun h1 => ⟨fun h2 => ?_, fun h2 => ?_⟩, fun h1 => ?_⟩, ?_⟩
  · rw [fltErr, if_pos]; simp at h1 h2; omega
  · simp at h2; omega
  · simp at h1; omega
  intro t0 hm
  refine ⟨⟨0, rfl, by omega, by simp⟩, ?_⟩
  rintro _ ⟨k, rfl, hk, h⟩
  simp only [Int.toNat_natCast]
  refine ⟨fun h1 => ⟨by omega, by omega, fun y hy => ⟨fun e => ?_, fun e => ⟨fun e2 => ?_, fun e2 => ?_⟩⟩⟩, fun h1 => ?_⟩
  · rw [fltErr, if_neg (not_not_intro hm), if_pos fun hr => by have := hr y (mem_of_get hy); omega]
  · rw [fltErr, if_neg (not_not_intro hm), if_pos fun hr => by have := hr y (mem_of_get hy); omega]
  · rw [W_succ (n := f.srcs.length) (by omega) (by omega)]
    refine ⟨⟨k + 1, rfl, by omega, ?_⟩, by omega⟩
    rw [take_succ hy]
    intro s hs
    rcases List.mem_append.mp hs with hs | hs
    · exact h s hs
    · rw [List.mem_singleton] at hs; subst hs; omega
  rw [List.take_of_length_le (by omega)] at h
  have hr : rngI f.srcs := h
  refine ⟨⟨hr, 1, rfl, by omega, by omega, fun j x y hj => by omega⟩, ?_⟩
  rintro _ ⟨-, k, rfl, hk1, hk, h⟩
  refine ⟨fun h1 => ?_, fun h1 => ?_⟩
  · rw [W_pred (by omega) hk1]
    simp only [Int.toNat_natCast]
    refine ⟨by omega, by omega, fun x hx => ⟨by omega, by omega, fun y hy => ⟨fun e => ?_, fun e => ?_⟩⟩⟩
    · rw [fltErr, if_neg (not_not_intro hm), if_neg (not_not_intro hr), if_pos]
      intro ha
      have := ascI_iff.mp ha (k - 1) x y hx (by rw [show k - 1 + 1 = k by omega]; exact hy)
      omega
    · rw [W_succ (n := f.srcs.length) (by omega) (by omega)]
      refine ⟨⟨hr, k + 1, rfl, by omega, by omega, fun j x' y' hj hx' hy' => ?_⟩, by omega⟩
      by_cases e' : j + 1 = k
      · subst e'
        rw [show j + 1 - 1 = j by omega, hx'] at hx; cases hx
        rw [hy'] at hy; cases hy; omega
      · exact h j x' y' (by omega) hx' hy'
  · rw [fltErr, if_neg (not_not_intro hm), if_neg (not_not_intro hr), if_neg (not_not_intro (ascI_iff.mpr fun j x y hx hy => h j x y (by have := lt_of_get hy; omega) hx hy))]
def FVal_c (f : Flt) : PC Try.prog := ⟨52, [(.a [.k, (.s 1)])], [.agg [.int f.mode, .sl 1 (f.srcs.map AV.int) false]], FVal_e (FVal f), PSpec.of_ok fun ok => (FVal_p f ok).elim fun I1 h => h.elim fun m1 h => h.elim fun I2 h => h.elim fun m2 h => FVal_ok f I1 m1 I2 m2 _ h, fnB_ok (by kernel_rfl)⟩
def PVal_a (f : Flt) : Prop := okL [.agg [.int f.mode, .sl 1 (f.srcs.map AV.int) false]]
def PVal_n0 (f : Flt) (t0 : Unit) : NF := ⟨[(1, .k, .ref 0 0)], [.box (.agg [.int f.mode, .sl 1 (f.srcs.map AV.int) false])]⟩
def PVal_n1 (f : Flt) (t0 : Unit) (t1 : Int) : NF := ⟨[(1, .k, .ref 0 0), (15, .k, .sl 1 (f.srcs.map AV.int) false), (16, .k, .int ((f.srcs.map AV.int).length : Int)), (17, .k, .int t1)], [.box (.agg [.int f.mode, .sl 1 (f.srcs.map AV.int) false])]⟩
def PVal_n2 (f : Flt) (t0 : Unit) (t1 : Int) (t2 : Int) : NF := ⟨[(1, .k, .ref 0 0), (5, .k, .int t2)], [.box (.agg [.int f.mode, .sl 1 (f.srcs.map AV.int) false])]⟩
def PVal_s : Nat → Type
  | 0 => Unit
  | 1 => Int
  | 2 => Int
  | _ => Unit
def PVal_e (r : Int) : AV := .int r
def PVal_vc (f : Flt) (I1 : Unit → Int → Prop) (m1 : Unit → Int → Nat) (I2 : Unit → Int → Int → Prop) (m2 : Unit → Int → Int → Nat) (r0 : Int) : Prop :=
 (br (f.mode != 1)
 (br (f.mode != 2)
 (Rf (PVal_e (1)) ((1) = r0))
 (Nf (PVal_n0 f (())) [0] ((bif (f.mode != 1) then (bif (f.mode != 2) then false else true) else true) = true)))
 (Nf (PVal_n0 f (())) [0] ((bif (f.mode != 1) then (bif (f.mode != 2) then false else true) else true) = true))) ∧ ∀ t0 : Unit, (bif (f.mode != 1) then (bif (f.mode != 2) then false else true) else true) = true →
 Nf (PVal_n1 f t0 (0)) [0] (I1 t0 (0)) ∧ ∀ t1 : Int, I1 t0 t1 →
 br (decide (t1 < ((f.srcs.map AV.int).length : Int)))
 (Rf (f.srcs.map AV.int) (ck (decide (0 ≤ t1)) (ck (decide (t1 < (f.srcs.length : Int)))
 (∀ x1, f.srcs[t1.toNat]? = some x1 →
 br (decide (x1 < 1))
 (Rf (PVal_e (2)) ((2) = r0))
 (br (decide (99 < x1))
 (Rf (PVal_e (2)) ((2) = r0))
 (Nf (PVal_n1 f t0 (W (t1 + 1))) [0] (I1 t0 (W (t1 + 1)) ∧ m1 t0 (W (t1 + 1)) < m1 t0 t1)))))))
 (Nf (PVal_n2 f t0 t1 (1)) [0] (I2 t0 t1 (1)) ∧ ∀ t2 : Int, I2 t0 t1 t2 →
 br (decide (t2 < ((f.srcs.map AV.int).length : Int)))
 (Rf (f.srcs.map AV.int) (ck (decide (0 ≤ (W (t2 - 1)))) (ck (decide ((W (t2 - 1)) < (f.srcs.length : Int)))
 (∀ x2, f.srcs[(W (t2 - 1)).toNat]? = some x2 →
 Rf (f.srcs.map AV.int) (ck (decide (0 ≤ t2)) (ck (decide (t2 < (f.srcs.length : Int)))
 (∀ x3, f.srcs[t2.toNat]? = some x3 →
 br (decide (x3 ≤ x2))
 (Rf (PVal_e (25)) ((25) = r0))
 (Nf (PVal_n2 f t0 t1 (W (t2 + 1))) [0] (I2 t0 t1 (W (t2 + 1)) ∧ m2 t0 t1 (W (t2 + 1)) < m2 t0 t1 t2)))))))))
 (Rf (PVal_e (0)) ((0) = r0)))
theorem PVal_eq (f : Flt) (I1 : Unit → Int → Prop) (m1 : Unit → Int → Nat) (I2 : Unit → Int → Int → Prop) (m2 : Unit → Int → Int → Nat) (r0 : Int) : mxP Try.prog 68 [.agg [.int f.mode, .sl 1 (f.srcs.map AV.int) false]] .k PVal_e ((.pass (.join 0 (PVal_n0 f) (fun t0 => (bif (f.mode != 1) then (bif (f.mode != 2) then false else true) else true) = true) (.br 96 (.br 160 (.ret (1))
 (.back 0 ((()) : Unit) [0]))
 (.back 0 ((()) : Unit) [0])) fun (t0 : Unit) =>
 (.loop 1 (PVal_n1 f t0) (I1 t0) (m1 t0) ((0) : Int) [0] fun (t1 : Int) =>
 (.br 17 (.el 17 AV.int f.srcs fun x1 =>
 (.br 113 (.ret (2))
 (.br 161 (.ret (2))
 (.back 1 ((W (t1 + 1)) : Int) [0]))))
 (.loop 2 (PVal_n2 f t0 t1) (I2 t0 t1) (m2 t0 t1) ((1) : Int) [0] fun (t2 : Int) =>
 (.br 81 (.el 145 AV.int f.srcs fun x2 =>
 (.el 225 AV.int f.srcs fun x3 =>
 (.br 273 (.ret (25))
 (.back 2 ((W (t2 + 1)) : Int) [0]))))
 (.ret (0)))))))) : An Try.prog PVal_s (Int)) r0 = PVal_vc f I1 m1 I2 m2 r0 := by kernel_rfl
theorem PVal_ok (f : Flt) (I1 : Unit → Int → Prop) (m1 : Unit → Int → Nat) (I2 : Unit → Int → Int → Prop) (m2 : Unit → Int → Int → Nat) (r0 : Int) (h : PVal_vc f I1 m1 I2 m2 r0) : PSpec Try.prog 68 [.agg [.int f.mode, .sl 1 (f.srcs.map AV.int) false]] (PVal_e r0) := by
  have e := PVal_eq f I1 m1 I2 m2 r0
  rw [← e] at h
  exact mxP_ok (enc := PVal_e) h (AV.pureB_ok rfl)
theorem PVal_p (f : Flt) (ok : PVal_a f) : ∃ I1 m1 I2 m2, PVal_vc f I1 m1 I2 m2 (fltErr f.mode f.srcs) := by
  simp only [PVal_a, okU, Blk.ok, plainV, List.length_map] at ok
  refine ⟨fun _ t => ∃ k : Nat, t = k ∧ k ≤ f.srcs.length ∧ ∀ s ∈ f.srcs.take k, 1 ≤ s ∧ s ≤ 99, fun _ t => f.srcs.length - t.toNat,
    fun _ t1 t => rngI f.srcs ∧ ∃ k : Nat, t = k ∧ 1 ≤ k ∧ k ≤ f.srcs.length + 1 ∧ ∀ j x y, j + 1 < k → f.srcs[j]? = some x → f.srcs[j + 1]? = some y → x < y, fun _ _ t => f.srcs.length + 1 - t.toNat, ?_⟩
  simp only [PVal_vc, vcU, rfU, List.length_map]
  have hmode : ((bif f.mode != 1 then bif f.mode != 2 then false else true else true) = true) ↔ (f.mode = 1 ∨ f.mode = 2) := by
    by_cases h1 : f.mode = 1 <;> by_cases h2 : f.mode = 2 <;> simp [h1, h2]
  simp only [hmode]
  refine ⟨⟨fun h1 => ⟨fun h2 => ?_, fun h2 => ?_⟩, fun h1 => ?_⟩, ?_⟩
  · rw [fltErr, if_pos]; simp at h1 h2; omega
  · simp at h2; omega
  · simp at h1; omega
  intro t0 hm
  refine ⟨⟨0, rfl, by omega, by simp⟩, ?_⟩
  rintro _ ⟨k, rfl, hk, h⟩
  simp only [Int.toNat_natCast]
  refine ⟨fun h1 => ⟨by omega, by omega, fun y hy => ⟨fun e => ?_, fun e => ⟨fun e2 => ?_, fun e2 => ?_⟩⟩⟩, fun h1 => ?_⟩
  · rw [fltErr, if_neg (not_not_intro hm), if_pos fun hr => by have := hr y (mem_of_get hy); omega]
  · rw [fltErr, if_neg (not_not_intro hm), if_pos fun hr => by have := hr y (mem_of_get hy); omega]
  · rw [W_succ (n := f.srcs.length) (by omega) (by omega)]
    refine ⟨⟨k + 1, rfl, by omega, ?_⟩, by omega⟩
    rw [take_succ hy]
    intro s hs
    rcases List.mem_append.mp hs with hs | hs
    · exact h s hs
    · rw [List.mem_singleton] at hs; subst hs; omega
  rw [List.take_of_length_le (by omega)] at h
  have hr : rngI f.srcs := h
  refine ⟨⟨hr, 1, rfl, by omega, by omega, fun j x y hj => by omega⟩, ?_⟩
  rintro _ ⟨-, k, rfl, hk1, hk, h⟩
  refine ⟨fun h1 => ?_, fun h1 => ?_⟩
  · rw [W_pred (by omega) hk1]
    simp only [Int.toNat_natCast]
    refine ⟨by omega, by omega, fun x hx => ⟨by omega, by omega, fun y hy => ⟨fun e => ?_, fun e => ?_⟩⟩⟩
    · rw [fltErr, if_neg (not_not_intro hm), if_neg (not_not_intro hr), if_pos]
      intro ha
      have := ascI_iff.mp ha (k - 1) x y hx (by rw [show k - 1 + 1 = k by omega]; exact hy)
      omega
    · rw [W_succ (n := f.srcs.length) (by omega) (by omega)]
      refine ⟨⟨hr, k + 1, rfl, by omega, by omega, fun j x' y' hj hx' hy' => ?_⟩, by omega⟩
      by_cases e' : j + 1 = k
      · subst e'
        rw [show j + 1 - 1 = j by omega, hx'] at hx; cases hx
        rw [hy'] at hy; cases hy; omega
      · exact h j x' y' (by omega) hx' hy'
  · rw [fltErr, if_neg (not_not_intro hm), if_neg (not_not_intro hr), if_neg (not_not_intro (ascI_iff.mpr fun j x y hx hy => h j x y (by have := lt_of_get hy; omega) hx hy))]
def PVal_c (f : Flt) : PC Try.prog := ⟨68, [(.a [.k, (.s 1)])], [.agg [.int f.mode, .sl 1 (f.srcs.map AV.int) false]], PVal_e (PVal f), PSpec.of_ok fun ok => (PVal_p f ok).elim fun I1 h => h.elim fun m1 h => h.elim fun I2 h => h.elim fun m2 h => PVal_ok f I1 m1 I2 m2 _ h, fnB_ok (by kernel_rfl)⟩
end Go.Proofs.Ytglfecmdoekabaa
