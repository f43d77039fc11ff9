/- The values of the session layer in plain Lean; the tape. -/
import Derived.Test.YtglfecmdoekabaaProg
import Derived.Test.YtglfecmdoekabaaMx6
namespace Go.Proofs.Ytglfecmdoekabaa
open Go Go.Am
set_option linter.unusedVariables false
set_option linter.unusedSimpArgs false
structure Flt where
  mode : Int
  srcs : List Int
  deriving DecidableEq
structure Tap where
  L : List Int
  p : Nat
structure TapI where
  L : List Int
  p : Int
def Flt.v (x : Flt) : AV := .agg [.int x.mode, .sl 1 (x.srcs.map AV.int) false]
def Tap.v (x : Tap) : AV := .agg [.sl 1 (x.L.map AV.int) false, .int x.p]
def TapI.v (x : TapI) : AV := .agg [.sl 1 (x.L.map AV.int) false, .int x.p]
@[simp] theorem pureBL_int (l : List Int) : pureBL (l.map AV.int) = true := pureBL_map (fun _ => rfl) l
/-! ### The tape -/
def Mod (x n : Int) : Int := if n < 1 then 0 else if x.tmod n < 0 then x.tmod n + n else x.tmod n
theorem Mod_range {x n : Int} (h : 1 ≤ n) : 0 ≤ Mod x n ∧ Mod x n < n := by
  have hb := Int.tmod_lt_of_pos x (show 0 < n by omega)
  have hb' := Int.lt_tmod_of_pos x (show 0 < n by omega)
  unfold Mod; split
  · omega
  split <;> omega
def Mod_a (x : Int) (n : Int) : Prop := okL [.int x, .int n]
def Mod_s : Nat → Type
  | _ => Unit
def Mod_e (r : Int) : AV := .int r
def Mod_vc (x : Int) (n : Int) (r0 : Int) : Prop :=
 br (decide (n < 1))
 (Rf (Mod_e (0)) ((0) = r0))
 (ck (!(n == 0))
 (br (decide ((x.tmod n) < 0))
 (Rf (Mod_e (W ((x.tmod n) + n))) ((W ((x.tmod n) + n)) = r0))
 (Rf (Mod_e (x.tmod n)) ((x.tmod n) = r0))))
theorem Mod_eq (x : Int) (n : Int) (r0 : Int) : mxP Try.prog 46 [.int x, .int n] .k Mod_e ((.br 48 (.ret (0))
 (.br 144 (.ret (W ((x.tmod n) + n)))
 (.ret (x.tmod n)))) : An Try.prog Mod_s (Int)) r0 = Mod_vc x n r0 := by kernel_rfl
theorem Mod_ok (x : Int) (n : Int) (r0 : Int) (h : Mod_vc x n r0) : PSpec Try.prog 46 [.int x, .int n] (Mod_e r0) := by
  have e := Mod_eq x n r0
  rw [← e] at h
  exact mxP_ok (enc := Mod_e) h (AV.pureB_ok rfl)
theorem Mod_p (x n : Int) (ok : Mod_a x n) : Mod_vc x n (Mod x n) := by
  simp only [Mod_a, okU, Blk.ok, plainV, List.length_map] at ok
  simp only [Mod_vc, vcU, rfU, List.length_map]
  refine ⟨fun h => by rw [Mod, if_pos h], fun h => ⟨by simp; omega, fun h2 => ?_, fun h2 => by rw [Mod, if_neg h, if_neg h2]⟩⟩
  have hb := Int.tmod_lt_of_pos x (show 0 < n by omega)
  have hb' := Int.lt_tmod_of_pos x (show 0 < n by omega)
  rw [Mod, if_neg h, if_pos h2, W_eq (by omega)]
def Mod_c (x : Int) (n : Int) : PC Try.prog := ⟨46, [.k, .k], [.int x, .int n], Mod_e (Mod x n), PSpec.of_ok fun ok => Mod_ok x n _ (Mod_p x n ok), fnB_ok (by kernel_rfl)⟩
def rawP (L : List Int) (p : Nat) : Nat := if L.length ≤ p then p else p + 1
def rawV (L : List Int) (p : Nat) : Int := L.getD p 0
theorem rawP_le {L : List Int} {p : Nat} (h : p ≤ L.length) : rawP L p ≤ L.length := by unfold rawP; split <;> omega
def Raw_a (L : (List Int)) (p : Int) : Prop := okL [.ref 0 0] ∧ (.box (.agg [.sl 1 (L.map AV.int) false, .int p]) : Blk).ok
def Raw_s : Nat → Type
  | _ => Unit
def Raw_e (r : TapI × Int) : AV := .int r.2
def Raw_b (r : TapI × Int) : List (Option Blk) := [some (.box (.agg [.sl 1 (r.1.L.map AV.int) false, .int r.1.p]))]
def Raw_vc (L : (List Int)) (p : Int) (r0 : TapI × Int) : Prop :=
 br (decide (((L.map AV.int).length : Int) ≤ p))
 (Nf ⟨[(2, .k, .int 0)], [.box (.agg [.sl 1 (L.map AV.int) false, .int p])]⟩ [0] (Rf (Raw_e ((⟨L, p⟩ : TapI), 0)) (Rf (Raw_b ((⟨L, p⟩ : TapI), 0)) (((⟨L, p⟩ : TapI), 0) = r0))))
 (Rf (L.map AV.int) (ck (decide (0 ≤ (W ((W (p + 1)) - 1)))) (ck (decide ((W ((W (p + 1)) - 1)) < (L.length : Int)))
 (∀ x1, L[(W ((W (p + 1)) - 1)).toNat]? = some x1 →
 Nf ⟨[(2, .k, .int x1)], [.box (.agg [.sl 1 (L.map AV.int) false, .int (W (p + 1))])]⟩ [0] (Rf (Raw_e ((⟨L, W (p + 1)⟩ : TapI), x1)) (Rf (Raw_b ((⟨L, W (p + 1)⟩ : TapI), x1)) (((⟨L, W (p + 1)⟩ : TapI), x1) = r0)))))))
theorem Raw_eq (L : (List Int)) (p : Int) (r0 : TapI × Int) : mxH Try.prog 47 [.ref 0 0] [.box (.agg [.sl 1 (L.map AV.int) false, .int p])] .k Raw_e Raw_b ((.br 177 (.retH ((⟨L, p⟩ : TapI), 0) ⟨[(2, .k, .int 0)], [.box (.agg [.sl 1 (L.map AV.int) false, .int p])]⟩ [0])
 (.el 449 AV.int L fun x1 =>
 (.retH ((⟨L, W (p + 1)⟩ : TapI), x1) ⟨[(2, .k, .int x1)], [.box (.agg [.sl 1 (L.map AV.int) false, .int (W (p + 1))])]⟩ [0]))) : An Try.prog Raw_s (TapI × Int)) r0 = Raw_vc L p r0 := by kernel_rfl
theorem Raw_ok (L : (List Int)) (p : Int) (r0 : TapI × Int) (h : Raw_vc L p r0) : HSpec Try.prog 47 [.ref 0 0] [.box (.agg [.sl 1 (L.map AV.int) false, .int p])] (Raw_e r0) (Raw_b r0) := by
  have e := Raw_eq L p r0
  rw [← e] at h
  exact mxH_ok (enc := Raw_e) (hB := Raw_b) h
theorem Raw_p (L : List Int) (p : Nat) (ok : Raw_a L p) : Raw_vc L p (⟨L, rawP L p⟩, rawV L p) := by
  simp only [Raw_a, okU, Blk.ok, plainV, List.length_map] at ok
  simp only [Raw_vc, vcU, rfU, List.length_map]
  refine ⟨fun h => ?_, fun h => ?_⟩
  · rw [rawP, if_pos (by omega)]; simp [rawV, List.getElem?_eq_none (show L.length ≤ p by omega)]
  · have e1 : W ((p : Int) + 1) = p + 1 := W_eq (by omega)
    have e2 : W ((p : Int) + 1 - 1) = p := by rw [W_eq (by omega)]; omega
    rw [e1, e2]
    refine ⟨by omega, by omega, fun x hx => ?_⟩
    rw [Int.toNat_natCast] at hx
    rw [rawP, if_neg (by omega)]; simp [rawV, hx]
theorem Raw_spec (L : List Int) (p : Nat) : HSpec Try.prog 47 [.ref 0 0] [.box (Tap.v ⟨L, p⟩)] (.int (rawV L p)) [some (.box (Tap.v ⟨L, rawP L p⟩))] :=
  HSpec.of_okh fun ok ok2 => Raw_ok L p _ (Raw_p L p ⟨ok, ok2 _ (List.mem_singleton.mpr rfl)⟩)
def Raw_h (L : List Int) (p : Nat) : HC Try.prog := ⟨47, [], [.ref 0 0], [.box (Tap.v ⟨L, p⟩)], .int (rawV L p), [some (.box (Tap.v ⟨L, rawP L p⟩))], Raw_spec L p, fnB_ok (by kernel_rfl), HcOk.of rfl⟩
def N_a (L : (List Int)) (p : Nat) (n : Int) : Prop := okL [.ref 0 0, .int n] ∧ (.box (.agg [.sl 1 (L.map AV.int) false, .int ((p : Nat) : Int)]) : Blk).ok
def N_s : Nat → Type
  | _ => Unit
def N_e (r : Tap × Int) : AV := .int r.2
def N_b (r : Tap × Int) : List (Option Blk) := [some (.box (.agg [.sl 1 (r.1.L.map AV.int) false, .int ((r.1.p : Nat) : Int)]))]
def N_vc (L : (List Int)) (p : Nat) (n : Int) (r0 : Tap × Int) : Prop :=
 Ch (Raw_h L p) [0] 33
 (Cl (Mod_c (rawV L p) n)
 (Nf ⟨[(4, .k, .int (Mod (rawV L p) n))], [.box (.agg [.sl 1 (L.map AV.int) false, .int (((rawP L p) : Nat) : Int)])]⟩ [0] (Rf (N_e ((⟨L, rawP L p⟩ : Tap), Mod (rawV L p) n)) (Rf (N_b ((⟨L, rawP L p⟩ : Tap), Mod (rawV L p) n)) (((⟨L, rawP L p⟩ : Tap), Mod (rawV L p) n) = r0)))))
theorem N_eq (L : (List Int)) (p : Nat) (n : Int) (r0 : Tap × Int) : mxH Try.prog 19 [.ref 0 0, .int n] [.box (.agg [.sl 1 (L.map AV.int) false, .int ((p : Nat) : Int)])] .k N_e N_b ((.callH [0] (Raw_h L p)
 (.callP (Mod_c (rawV L p) n)
 (.retH ((⟨L, rawP L p⟩ : Tap), Mod (rawV L p) n) ⟨[(4, .k, .int (Mod (rawV L p) n))], [.box (.agg [.sl 1 (L.map AV.int) false, .int (((rawP L p) : Nat) : Int)])]⟩ [0]))) : An Try.prog N_s (Tap × Int)) r0 = N_vc L p n r0 := by kernel_rfl
theorem N_ok (L : (List Int)) (p : Nat) (n : Int) (r0 : Tap × Int) (h : N_vc L p n r0) : HSpec Try.prog 19 [.ref 0 0, .int n] [.box (.agg [.sl 1 (L.map AV.int) false, .int ((p : Nat) : Int)])] (N_e r0) (N_b r0) := by
  have e := N_eq L p n r0
  rw [← e] at h
  exact mxH_ok (enc := N_e) (hB := N_b) h
theorem N_p (L : List Int) (p : Nat) (n : Int) (ok : N_a L p n) : N_vc L p n (⟨L, rawP L p⟩, Mod (rawV L p) n) := by
  simp only [N_vc, vcU, rfU, List.length_map]
def N_h (L : (List Int)) (p : Nat) (n : Int) : HC Try.prog := ⟨19, [.k, .k], [.ref 0 0, .int n], [.box (.agg [.sl 1 (L.map AV.int) false, .int ((p : Nat) : Int)])], N_e ((⟨L, rawP L p⟩, Mod (rawV L p) n) : Tap × Int), N_b ((⟨L, rawP L p⟩, Mod (rawV L p) n) : Tap × Int), HSpec.of_okh fun ok ok2 => have ok : N_a L p n := ⟨ok, ok2 _ (by simp)⟩; N_ok L p n _ (N_p L p n ok), fnB_ok (by kernel_rfl), HcOk.of (by simp [hcB, belBL, AV.belB, allB, okBk, okBkO, N_e, N_b, pureBL_map (v := AV.int) (fun _ => rfl)])⟩
def rng (L : List Int) (p : Nat) (lo hi : Int) : Int := W (lo + Mod (rawV L p) (W (W (hi - lo) + 1)))
def Range_a (L : (List Int)) (p : Nat) (lo : Int) (hi : Int) : Prop := okL [.ref 0 0, .int lo, .int hi] ∧ (.box (.agg [.sl 1 (L.map AV.int) false, .int ((p : Nat) : Int)]) : Blk).ok
def Range_s : Nat → Type
  | _ => Unit
def Range_e (r : Tap × Int) : AV := .int r.2
def Range_b (r : Tap × Int) : List (Option Blk) := [some (.box (.agg [.sl 1 (r.1.L.map AV.int) false, .int ((r.1.p : Nat) : Int)]))]
def Range_vc (L : (List Int)) (p : Nat) (lo : Int) (hi : Int) (r0 : Tap × Int) : Prop :=
 Ch (N_h L p (W ((W (hi - lo)) + 1))) [0] 113
 (Nf ⟨[(6, .k, .int (W (lo + (Mod (rawV L p) (W ((W (hi - lo)) + 1))))))], [.box (.agg [.sl 1 (L.map AV.int) false, .int (((rawP L p) : Nat) : Int)])]⟩ [0] (Rf (Range_e ((⟨L, rawP L p⟩ : Tap), W (lo + (Mod (rawV L p) (W ((W (hi - lo)) + 1)))))) (Rf (Range_b ((⟨L, rawP L p⟩ : Tap), W (lo + (Mod (rawV L p) (W ((W (hi - lo)) + 1)))))) (((⟨L, rawP L p⟩ : Tap), W (lo + (Mod (rawV L p) (W ((W (hi - lo)) + 1))))) = r0))))
theorem Range_eq (L : (List Int)) (p : Nat) (lo : Int) (hi : Int) (r0 : Tap × Int) : mxH Try.prog 17 [.ref 0 0, .int lo, .int hi] [.box (.agg [.sl 1 (L.map AV.int) false, .int ((p : Nat) : Int)])] .k Range_e Range_b ((.callH [0] (N_h L p (W ((W (hi - lo)) + 1)))
 (.retH ((⟨L, rawP L p⟩ : Tap), W (lo + (Mod (rawV L p) (W ((W (hi - lo)) + 1))))) ⟨[(6, .k, .int (W (lo + (Mod (rawV L p) (W ((W (hi - lo)) + 1))))))], [.box (.agg [.sl 1 (L.map AV.int) false, .int (((rawP L p) : Nat) : Int)])]⟩ [0])) : An Try.prog Range_s (Tap × Int)) r0 = Range_vc L p lo hi r0 := by kernel_rfl
theorem Range_ok (L : (List Int)) (p : Nat) (lo : Int) (hi : Int) (r0 : Tap × Int) (h : Range_vc L p lo hi r0) : HSpec Try.prog 17 [.ref 0 0, .int lo, .int hi] [.box (.agg [.sl 1 (L.map AV.int) false, .int ((p : Nat) : Int)])] (Range_e r0) (Range_b r0) := by
  have e := Range_eq L p lo hi r0
  rw [← e] at h
  exact mxH_ok (enc := Range_e) (hB := Range_b) h
theorem Range_p (L : List Int) (p : Nat) (lo hi : Int) (ok : Range_a L p lo hi) : Range_vc L p lo hi (⟨L, rawP L p⟩, rng L p lo hi) := by
  simp only [Range_vc, vcU, rfU, List.length_map]
  rfl
def Range_h (L : (List Int)) (p : Nat) (lo : Int) (hi : Int) : HC Try.prog := ⟨17, [.k, .k, .k], [.ref 0 0, .int lo, .int hi], [.box (.agg [.sl 1 (L.map AV.int) false, .int ((p : Nat) : Int)])], Range_e ((⟨L, rawP L p⟩, rng L p lo hi) : Tap × Int), Range_b ((⟨L, rawP L p⟩, rng L p lo hi) : Tap × Int), HSpec.of_okh fun ok ok2 => have ok : Range_a L p lo hi := ⟨ok, ok2 _ (by simp)⟩; Range_ok L p lo hi _ (Range_p L p lo hi ok), fnB_ok (by kernel_rfl), HcOk.of (by simp [hcB, belBL, AV.belB, allB, okBk, okBkO, Range_e, Range_b, pureBL_map (v := AV.int) (fun _ => rfl)])⟩
def pickI (l : List Int) (r : Int) : Int := l.getD (Mod r l.length).toNat 0
def Pick_a (L : (List Int)) (p : Nat) (l : (List Int)) : Prop := okL [.ref 0 0, .sl 1 (l.map AV.int) false] ∧ (.box (.agg [.sl 1 (L.map AV.int) false, .int ((p : Nat) : Int)]) : Blk).ok
def Pick_s : Nat → Type
  | _ => Unit
def Pick_e (r : Tap × Int) : AV := .int r.2
def Pick_b (r : Tap × Int) : List (Option Blk) := [some (.box (.agg [.sl 1 (r.1.L.map AV.int) false, .int ((r.1.p : Nat) : Int)]))]
def Pick_vc (L : (List Int)) (p : Nat) (l : (List Int)) (r0 : Tap × Int) : Prop :=
 Ch (N_h L p ((l.map AV.int).length : Int)) [0] 81
 (Rf (l.map AV.int) (ck (decide (0 ≤ (Mod (rawV L p) ((l.map AV.int).length : Int)))) (ck (decide ((Mod (rawV L p) ((l.map AV.int).length : Int)) < (l.length : Int)))
 (∀ x1, l[(Mod (rawV L p) ((l.map AV.int).length : Int)).toNat]? = some x1 →
 Nf ⟨[(4, .k, .int x1)], [.box (.agg [.sl 1 (L.map AV.int) false, .int (((rawP L p) : Nat) : Int)])]⟩ [0] (Rf (Pick_e ((⟨L, rawP L p⟩ : Tap), x1)) (Rf (Pick_b ((⟨L, rawP L p⟩ : Tap), x1)) (((⟨L, rawP L p⟩ : Tap), x1) = r0)))))))
theorem Pick_eq (L : (List Int)) (p : Nat) (l : (List Int)) (r0 : Tap × Int) : mxH Try.prog 18 [.ref 0 0, .sl 1 (l.map AV.int) false] [.box (.agg [.sl 1 (L.map AV.int) false, .int ((p : Nat) : Int)])] .k Pick_e Pick_b ((.callH [0] (N_h L p ((l.map AV.int).length : Int))
 (.el 97 AV.int l fun x1 =>
 (.retH ((⟨L, rawP L p⟩ : Tap), x1) ⟨[(4, .k, .int x1)], [.box (.agg [.sl 1 (L.map AV.int) false, .int (((rawP L p) : Nat) : Int)])]⟩ [0]))) : An Try.prog Pick_s (Tap × Int)) r0 = Pick_vc L p l r0 := by kernel_rfl
theorem Pick_ok (L : (List Int)) (p : Nat) (l : (List Int)) (r0 : Tap × Int) (h : Pick_vc L p l r0) : HSpec Try.prog 18 [.ref 0 0, .sl 1 (l.map AV.int) false] [.box (.agg [.sl 1 (L.map AV.int) false, .int ((p : Nat) : Int)])] (Pick_e r0) (Pick_b r0) := by
  have e := Pick_eq L p l r0
  rw [← e] at h
  exact mxH_ok (enc := Pick_e) (hB := Pick_b) h
theorem Pick_p (L : List Int) (p : Nat) (l : List Int) (hl : l ≠ []) (ok : Pick_a L p l) : Pick_vc L p l (⟨L, rawP L p⟩, pickI l (rawV L p)) := by
  have hl : 0 < l.length := List.length_pos_iff.mpr hl
  have hm := Mod_range (x := rawV L p) (show 1 ≤ (l.length : Int) by omega)
  simp only [Pick_vc, vcU, rfU, List.length_map]
  refine ⟨by omega, by omega, fun x hx => ?_⟩
  rw [pickI, List.getD_eq_getElem?_getD, hx]; rfl
def Pick_h (L : (List Int)) (p : Nat) (l : (List Int)) (hl : l ≠ []) : HC Try.prog := ⟨18, [.k, (.s 1)], [.ref 0 0, .sl 1 (l.map AV.int) false], [.box (.agg [.sl 1 (L.map AV.int) false, .int ((p : Nat) : Int)])], Pick_e ((⟨L, rawP L p⟩, pickI l (rawV L p)) : Tap × Int), Pick_b ((⟨L, rawP L p⟩, pickI l (rawV L p)) : Tap × Int), HSpec.of_okh fun ok ok2 => have ok : Pick_a L p l := ⟨ok, ok2 _ (by simp)⟩; Pick_ok L p l _ (Pick_p L p l hl ok), fnB_ok (by kernel_rfl), HcOk.of (by simp [hcB, belBL, AV.belB, allB, okBk, okBkO, Pick_e, Pick_b, pureBL_map (v := AV.int) (fun _ => rfl)])⟩
def New_a (t : (List Int)) : Prop := okL [.sl 1 (t.map AV.int) false]
def New_s : Nat → Type
  | _ => Unit
def New_e (r : Tap) : AV := .ref 0 0
def New_b (r : Tap) : List (Option Blk) := [some (.box (.agg [.sl 1 (r.L.map AV.int) false, .int ((r.p : Nat) : Int)]))]
def New_vc (t : (List Int)) (r0 : Tap) : Prop :=
 Rf (t.map AV.int) (ck (bndB t.length 0 (minI ((t.map AV.int).length : Int) 2000) (t.length : Int))
 (Nf ⟨[(2, .k, .ref 0 0)], [.box (.agg [.sl 1 (((t.take ((minI ((t.map AV.int).length : Int) 2000).toNat)).drop 0).map AV.int) false, .int 0])]⟩ [112] (Rf (New_e (⟨(t.take ((minI ((t.map AV.int).length : Int) 2000).toNat)).drop 0, 0⟩ : Tap)) (Rf (New_b (⟨(t.take ((minI ((t.map AV.int).length : Int) 2000).toNat)).drop 0, 0⟩ : Tap)) ((⟨(t.take ((minI ((t.map AV.int).length : Int) 2000).toNat)).drop 0, 0⟩ : Tap) = r0)))))
theorem New_eq (t : (List Int)) (r0 : Tap) : mxH Try.prog 4 [.sl 1 (t.map AV.int) false] [] .k New_e New_b ((.sub 80 AV.int t false
 (.retH (⟨(t.take ((minI ((t.map AV.int).length : Int) 2000).toNat)).drop 0, 0⟩ : Tap) ⟨[(2, .k, .ref 0 0)], [.box (.agg [.sl 1 (((t.take ((minI ((t.map AV.int).length : Int) 2000).toNat)).drop 0).map AV.int) false, .int 0])]⟩ [112])) : An Try.prog New_s (Tap)) r0 = New_vc t r0 := by kernel_rfl
theorem New_ok (t : (List Int)) (r0 : Tap) (h : New_vc t r0) : HSpec Try.prog 4 [.sl 1 (t.map AV.int) false] [] (New_e r0) (New_b r0) := by
  have e := New_eq t r0
  rw [← e] at h
  exact mxH_ok (enc := New_e) (hB := New_b) h
theorem New_p (t : List Int) (ok : New_a t) : New_vc t ⟨t.take 2000, 0⟩ := by
  simp only [New_a, okU, Blk.ok, plainV, List.length_map] at ok
  simp only [New_vc, vcU, rfU, List.length_map]
  have hm : minI (t.length : Int) 2000 = ((min t.length 2000 : Nat) : Int) := by unfold minI; split <;> omega
  rw [hm]
  refine ⟨by simp [bndB]; omega, ?_⟩
  rw [Int.toNat_natCast, List.drop_zero]
  congr 1
  rcases Nat.le_total t.length 2000 with h | h
  · rw [Nat.min_eq_left h, List.take_of_length_le (Nat.le_refl _), List.take_of_length_le h]
  · rw [Nat.min_eq_right h]
def New_h (t : (List Int)) : HC Try.prog := ⟨4, [(.s 1)], [.sl 1 (t.map AV.int) false], [], New_e (⟨t.take 2000, 0⟩ : Tap), New_b (⟨t.take 2000, 0⟩ : Tap), HSpec.of_okh fun ok _ => New_ok t _ (New_p t ok), fnB_ok (by kernel_rfl), HcOk.of (by simp [hcB, belBL, AV.belB, allB, okBk, okBkO, New_e, New_b, pureBL_map (v := AV.int) (fun _ => rfl)])⟩
end Go.Proofs.Ytglfecmdoekabaa
