/- Wants that are drawn, and their changes. -/
import Derived.Test.YtglfecmdoekabaaG9
import Derived.Test.YtglfecmdoekabaaU1
namespace Go.Proofs.Ytglfecmdoekabaa
open Go Go.Am
set_option linter.unusedVariables false
set_option linter.unusedSimpArgs false
def wantsTF_a (L : (List Int)) (p : Nat) : Prop := okL [.ref 0 0] ∧ (.box (.agg [.sl 1 (L.map AV.int) false, .int ((p : Nat) : Int)]) : Blk).ok
def wantsTF_n0 (L : (List Int)) (p : Nat) (t0 : Int × Nat × (List Wnt)) : NF := ⟨[(0, .k, .ref 0 0), (3, .k, .vec 1), (4, .k, .int t0.1)], [.box (.agg [.sl 1 (L.map AV.int) false, .int ((t0.2.1 : Nat) : Int)]), .vec 3 (t0.2.2.map Wnt.v) (pureBL_map (fun _ => rfl) t0.2.2)]⟩
def wantsTF_s : Nat → Type
  | 0 => Int × Nat × (List Wnt)
  | _ => Unit
def wantsTF_e (r : Tap × (List Wnt)) : AV := .sl 3 (r.2.map Wnt.v) false
def wantsTF_b (r : Tap × (List Wnt)) : List (Option Blk) := [some (.box (.agg [.sl 1 (r.1.L.map AV.int) false, .int ((r.1.p : Nat) : Int)]))]
def wantsTF_vc (L : (List Int)) (p : Nat) (I0 : (Int × Nat × (List Wnt)) → Prop) (m0 : (Int × Nat × (List Wnt)) → Nat) (r0 : Tap × (List Wnt)) : Prop :=
 Nf (wantsTF_n0 L p (1, p, [])) [0, 49] (I0 (1, p, [])) ∧ ∀ t0 : Int × Nat × (List Wnt), I0 t0 →
 br (decide (t0.1 ≤ 6))
 (Ch (filterT_h L t0.2.1) [0] 50
 (Ch (N_h L ((filterT L t0.2.1).2) 2) [0] 114
 (br ((Mod (rawV L ((filterT L t0.2.1).2)) 2) == 0)
 (br (((filterT L t0.2.1).1).mode == 2)
 (Rf (α := List AV) (t0.2.2.map Wnt.v) (Rf (α := List AV) [.agg [.int t0.1, .int (((filterT L t0.2.1).1).mode), .sl 1 ((((filterT L t0.2.1).1).srcs).map AV.int) false]]
 (ck (decide (t0.2.2.length + 1 ≤ 1000000))
 (Nf (wantsTF_n0 L p (W (t0.1 + 1), rawP L ((filterT L t0.2.1).2), t0.2.2 ++ [(⟨t0.1, ((filterT L t0.2.1).1).mode, ((filterT L t0.2.1).1).srcs⟩ : Wnt)])) [0, 402] (I0 (W (t0.1 + 1), rawP L ((filterT L t0.2.1).2), t0.2.2 ++ [(⟨t0.1, ((filterT L t0.2.1).1).mode, ((filterT L t0.2.1).1).srcs⟩ : Wnt)]) ∧ m0 (W (t0.1 + 1), rawP L ((filterT L t0.2.1).2), t0.2.2 ++ [(⟨t0.1, ((filterT L t0.2.1).1).mode, ((filterT L t0.2.1).1).srcs⟩ : Wnt)]) < m0 t0)))))
 (br (decide (0 < (((((filterT L t0.2.1).1).srcs).map AV.int).length : Int)))
 (Rf (α := List AV) (t0.2.2.map Wnt.v) (Rf (α := List AV) [.agg [.int t0.1, .int (((filterT L t0.2.1).1).mode), .sl 1 ((((filterT L t0.2.1).1).srcs).map AV.int) false]]
 (ck (decide (t0.2.2.length + 1 ≤ 1000000))
 (Nf (wantsTF_n0 L p (W (t0.1 + 1), rawP L ((filterT L t0.2.1).2), t0.2.2 ++ [(⟨t0.1, ((filterT L t0.2.1).1).mode, ((filterT L t0.2.1).1).srcs⟩ : Wnt)])) [0, 402] (I0 (W (t0.1 + 1), rawP L ((filterT L t0.2.1).2), t0.2.2 ++ [(⟨t0.1, ((filterT L t0.2.1).1).mode, ((filterT L t0.2.1).1).srcs⟩ : Wnt)]) ∧ m0 (W (t0.1 + 1), rawP L ((filterT L t0.2.1).2), t0.2.2 ++ [(⟨t0.1, ((filterT L t0.2.1).1).mode, ((filterT L t0.2.1).1).srcs⟩ : Wnt)]) < m0 t0)))))
 (Nf (wantsTF_n0 L p (W (t0.1 + 1), rawP L ((filterT L t0.2.1).2), t0.2.2)) [0, 1] (I0 (W (t0.1 + 1), rawP L ((filterT L t0.2.1).2), t0.2.2) ∧ m0 (W (t0.1 + 1), rawP L ((filterT L t0.2.1).2), t0.2.2) < m0 t0))))
 (Nf (wantsTF_n0 L p (W (t0.1 + 1), rawP L ((filterT L t0.2.1).2), t0.2.2)) [0, 1] (I0 (W (t0.1 + 1), rawP L ((filterT L t0.2.1).2), t0.2.2) ∧ m0 (W (t0.1 + 1), rawP L ((filterT L t0.2.1).2), t0.2.2) < m0 t0)))))
 (Rf (t0.2.2.map Wnt.v) (Nf ⟨[(2, .k, .sl 3 (t0.2.2.map Wnt.v) false)], [.box (.agg [.sl 1 (L.map AV.int) false, .int ((t0.2.1 : Nat) : Int)])]⟩ [0] (Rf (wantsTF_e ((⟨L, t0.2.1⟩ : Tap), t0.2.2)) (Rf (wantsTF_b ((⟨L, t0.2.1⟩ : Tap), t0.2.2)) (((⟨L, t0.2.1⟩ : Tap), t0.2.2) = r0)))))
theorem wantsTF_eq (L : (List Int)) (p : Nat) (I0 : (Int × Nat × (List Wnt)) → Prop) (m0 : (Int × Nat × (List Wnt)) → Nat) (r0 : Tap × (List Wnt)) : mxH Try.prog 7 [.ref 0 0] [.box (.agg [.sl 1 (L.map AV.int) false, .int ((p : Nat) : Int)])] (.s 3) wantsTF_e wantsTF_b ((.cmdL (.nilT 3 3) (.loop 0 (wantsTF_n0 L p) (I0) (m0) ((1, p, []) : Int × Nat × (List Wnt)) [0, 49] fun (t0 : Int × Nat × (List Wnt)) =>
 (.br 34 (.callH [0] (filterT_h L t0.2.1)
 (.callH [0] (N_h L ((filterT L t0.2.1).2) 2)
 (.br 162 (.br 226 (.app 402 Wnt.v t0.2.2 [(⟨t0.1, ((filterT L t0.2.1).1).mode, ((filterT L t0.2.1).1).srcs⟩ : Wnt)]
 (.back 0 ((W (t0.1 + 1), rawP L ((filterT L t0.2.1).2), t0.2.2 ++ [(⟨t0.1, ((filterT L t0.2.1).1).mode, ((filterT L t0.2.1).1).srcs⟩ : Wnt)]) : Int × Nat × (List Wnt)) [0, 402]))
 (.br 322 (.app 402 Wnt.v t0.2.2 [(⟨t0.1, ((filterT L t0.2.1).1).mode, ((filterT L t0.2.1).1).srcs⟩ : Wnt)]
 (.back 0 ((W (t0.1 + 1), rawP L ((filterT L t0.2.1).2), t0.2.2 ++ [(⟨t0.1, ((filterT L t0.2.1).1).mode, ((filterT L t0.2.1).1).srcs⟩ : Wnt)]) : Int × Nat × (List Wnt)) [0, 402]))
 (.back 0 ((W (t0.1 + 1), rawP L ((filterT L t0.2.1).2), t0.2.2) : Int × Nat × (List Wnt)) [0, 1])))
 (.back 0 ((W (t0.1 + 1), rawP L ((filterT L t0.2.1).2), t0.2.2) : Int × Nat × (List Wnt)) [0, 1]))))
 (.cmdL (.frzE 1 (t0.2.2.map Wnt.v) (pureBL_map (fun _ => rfl) t0.2.2)) (.retH ((⟨L, t0.2.1⟩ : Tap), t0.2.2) ⟨[(2, .k, .sl 3 (t0.2.2.map Wnt.v) false)], [.box (.agg [.sl 1 (L.map AV.int) false, .int ((t0.2.1 : Nat) : Int)])]⟩ [0]))))) : An Try.prog wantsTF_s (Tap × (List Wnt))) r0 = wantsTF_vc L p I0 m0 r0 := by kernel_rfl
theorem wantsTF_ok (L : (List Int)) (p : Nat) (I0 : (Int × Nat × (List Wnt)) → Prop) (m0 : (Int × Nat × (List Wnt)) → Nat) (r0 : Tap × (List Wnt)) (h : wantsTF_vc L p I0 m0 r0) : HSpec Try.prog 7 [.ref 0 0] [.box (.agg [.sl 1 (L.map AV.int) false, .int ((p : Nat) : Int)])] (wantsTF_e r0) (wantsTF_b r0) := by
  have e := wantsTF_eq L p I0 m0 r0
  rw [← e] at h
  exact mxH_ok (enc := wantsTF_e) (hB := wantsTF_b) h
theorem wantsTF_p (L : List Int) (p : Nat) (ok : wantsTF_a L p) : ∃ I m, wantsTF_vc L p I m (⟨L, (wantsT L p).2⟩, (wantsT L p).1) := by
  refine ⟨fun t => ∃ k : Nat, t.1 = ((k + 1 : Nat) : Int) ∧ k ≤ 6 ∧ wantsL L (6 - k) t.1 t.2.2 t.2.1 = wantsT L p ∧ t.2.2.length ≤ k, fun t => 7 - t.1.toNat, ?_⟩
  simp only [wantsTF_vc, vcU, rfU, List.length_map]
  refine ⟨⟨0, rfl, by omega, rfl, by simp⟩, ?_⟩
  rintro ⟨_, q, out⟩ ⟨k, rfl, hk, h, hl⟩
  simp only at h hl
  refine ⟨fun h1 => ?_, fun h1 => ?_⟩
  · have h1 : k < 6 := by simp only at h1; omega
    rw [show 6 - k = (6 - (k + 1)) + 1 by omega, wantsL] at h
    simp only [W_succ (k := k + 1) (n := 7) (by omega) (by omega)]
    have hg : ((k + 1 : Nat) : Int) + 1 = ((k + 1 + 1 : Nat) : Int) := by omega
    rw [hg] at h
    have put : Mod (rawV L (filterT L q).2) 2 = 0 ∧ ((filterT L q).1.mode = 2 ∨ (filterT L q).1.srcs ≠ []) →
        wNew L q ((k + 1 : Nat) : Int) out = out ++ [⟨((k + 1 : Nat) : Int), (filterT L q).1.mode, (filterT L q).1.srcs⟩] := fun c => by rw [wNew, if_pos c]
    have no : ¬ (Mod (rawV L (filterT L q).2) 2 = 0 ∧ ((filterT L q).1.mode = 2 ∨ (filterT L q).1.srcs ≠ [])) → wNew L q ((k + 1 : Nat) : Int) out = out := fun c => by rw [wNew, if_neg c]
    refine ⟨fun c1 => ⟨fun c2 => ⟨by omega, ⟨k + 1, rfl, by omega, ?_, by simp; omega⟩, by omega⟩, fun c2 => ⟨fun c3 => ⟨by omega, ⟨k + 1, rfl, by omega, ?_, by simp; omega⟩, by omega⟩, fun c3 => ⟨⟨k + 1, rfl, by omega, ?_, by omega⟩, by omega⟩⟩⟩, fun c1 => ⟨⟨k + 1, rfl, by omega, ?_, by omega⟩, by omega⟩⟩
    · rw [put ⟨by simpa using c1, .inl (by simpa using c2)⟩] at h; exact h
    · rw [put ⟨by simpa using c1, .inr (fun e => by rw [e] at c3; simp at c3)⟩] at h; exact h
    · rw [no (fun ⟨_, e⟩ => by
        rcases e with e | e
        · simp [e] at c2
        · exact e (List.eq_nil_of_length_eq_zero (by omega)))] at h; exact h
    · rw [no (fun ⟨e, _⟩ => by simp [e] at c1)] at h; exact h
  · have h1 : k = 6 := by simp only at h1; omega
    subst h1
    rw [← h]; rfl
def wantsT_h (L : (List Int)) (p : Nat) : HC Try.prog := ⟨7, [.k], [.ref 0 0], [.box (.agg [.sl 1 (L.map AV.int) false, .int ((p : Nat) : Int)])], wantsTF_e (⟨L, (wantsT L p).2⟩, (wantsT L p).1), wantsTF_b (⟨L, (wantsT L p).2⟩, (wantsT L p).1), HSpec.of_okh fun ok ok2 => have ok : wantsTF_a L p := ⟨ok, ok2 _ (by simp)⟩; (wantsTF_p L p ok).elim fun I0 h => h.elim fun m0 h => wantsTF_ok L p I0 m0 _ h, fnB_ok (by kernel_rfl), HcOk.of (by simp [hcB, belBL, AV.belB, allB, okBk, okBkO, wantsTF_e, wantsTF_b, pureBL_map (v := AV.int) (fun _ => rfl)])⟩
def checkR_a (l : (List Wnt)) (changes : Bool) : Prop := okL [.sl 3 (l.map Wnt.v) false, .bool changes]
def checkR_n0 (l : (List Wnt)) (changes : Bool) (t0 : Int) : NF := ⟨[(0, .k, .sl 3 (l.map Wnt.v) false), (1, .k, .bool changes), (16, .k, .sl 3 (l.map Wnt.v) false), (17, .k, .int ((l.map Wnt.v).length : Int)), (18, .k, .int t0)], []⟩
def checkR_n1 (l : (List Wnt)) (changes : Bool) (t0 : Int) (t1 : Int) : NF := ⟨[(0, .k, .sl 3 (l.map Wnt.v) false), (1, .k, .bool changes), (31, .k, .sl 3 (l.map Wnt.v) false), (32, .k, .int ((l.map Wnt.v).length : Int)), (33, .k, .int t1)], []⟩
def checkR_n2 (l : (List Wnt)) (changes : Bool) (t0 : Int) (t1 : Int) (t2 : Int) : NF := ⟨[(0, .k, .sl 3 (l.map Wnt.v) false), (1, .k, .bool changes), (44, .k, .sl 3 (l.map Wnt.v) false), (45, .k, .int ((l.map Wnt.v).length : Int)), (46, .k, .int t2)], []⟩
def checkR_n3 (l : (List Wnt)) (changes : Bool) (t0 : Int) (t1 : Int) (t2 : Int) (t3 : Int) : NF := ⟨[(0, .k, .sl 3 (l.map Wnt.v) false), (12, .k, .int t3)], []⟩
def checkR_s : Nat → Type
  | 0 => Int
  | 1 => Int
  | 2 => Int
  | 3 => Int
  | _ => Unit
def checkR_e (r : Int) : AV := .int r
def checkR_vc (l : (List Wnt)) (changes : Bool) (I0 : Int → Prop) (m0 : Int → Nat) (I1 : Int → Int → Prop) (m1 : Int → Int → Nat) (I2 : Int → Int → Int → Prop) (m2 : Int → Int → Int → Nat) (I3 : Int → Int → Int → Int → Prop) (m3 : Int → Int → Int → Int → Nat) (r0 : Int) : Prop :=
 br (decide (32 < ((l.map Wnt.v).length : Int)))
 (Rf (checkR_e (3)) ((3) = r0))
 (Nf (checkR_n0 l changes (0)) [] (I0 (0)) ∧ ∀ t0 : Int, I0 t0 →
 br (decide (t0 < ((l.map Wnt.v).length : Int)))
 (Rf (l.map Wnt.v) (ck (decide (0 ≤ t0)) (ck (decide (t0 < (l.length : Int)))
 (∀ x1, l[t0.toNat]? = some x1 →
 br (decide (x1.grp < 1))
 (Rf (checkR_e (2)) ((2) = r0))
 (br (decide (99 < x1.grp))
 (Rf (checkR_e (2)) ((2) = r0))
 (Nf (checkR_n0 l changes (W (t0 + 1))) [] (I0 (W (t0 + 1)) ∧ m0 (W (t0 + 1)) < m0 t0)))))))
 (Nf (checkR_n1 l changes t0 (0)) [] (I1 t0 (0)) ∧ ∀ t1 : Int, I1 t0 t1 →
 br (decide (t1 < ((l.map Wnt.v).length : Int)))
 (Rf (l.map Wnt.v) (ck (decide (0 ≤ t1)) (ck (decide (t1 < (l.length : Int)))
 (∀ x2, l[t1.toNat]? = some x2 →
 Cl (FVal_c (⟨x2.mode, x2.srcs⟩ : Flt))
 (br ((fltErr (⟨x2.mode, x2.srcs⟩ : Flt).mode (⟨x2.mode, x2.srcs⟩ : Flt).srcs) != 0)
 (Rf (checkR_e (fltErr (⟨x2.mode, x2.srcs⟩ : Flt).mode (⟨x2.mode, x2.srcs⟩ : Flt).srcs)) ((fltErr (⟨x2.mode, x2.srcs⟩ : Flt).mode (⟨x2.mode, x2.srcs⟩ : Flt).srcs) = r0))
 (Nf (checkR_n1 l changes t0 (W (t1 + 1))) [] (I1 t0 (W (t1 + 1)) ∧ m1 t0 (W (t1 + 1)) < m1 t0 t1)))))))
 (Nf (checkR_n2 l changes t0 t1 (0)) [] (I2 t0 t1 (0)) ∧ ∀ t2 : Int, I2 t0 t1 t2 →
 br (decide (t2 < ((l.map Wnt.v).length : Int)))
 (Rf (l.map Wnt.v) (ck (decide (0 ≤ t2)) (ck (decide (t2 < (l.length : Int)))
 (∀ x3, l[t2.toNat]? = some x3 →
 br (!changes)
 (Cl (Nothing_c )
 (Cl (FSame_c (⟨x3.mode, x3.srcs⟩ : Flt) (⟨1, []⟩ : Flt))
 (br (FSame (⟨x3.mode, x3.srcs⟩ : Flt) (⟨1, []⟩ : Flt))
 (Rf (checkR_e (1)) ((1) = r0))
 (Nf (checkR_n2 l changes t0 t1 (W (t2 + 1))) [] (I2 t0 t1 (W (t2 + 1)) ∧ m2 t0 t1 (W (t2 + 1)) < m2 t0 t1 t2)))))
 (Nf (checkR_n2 l changes t0 t1 (W (t2 + 1))) [] (I2 t0 t1 (W (t2 + 1)) ∧ m2 t0 t1 (W (t2 + 1)) < m2 t0 t1 t2))))))
 (Nf (checkR_n3 l changes t0 t1 t2 (1)) [] (I3 t0 t1 t2 (1)) ∧ ∀ t3 : Int, I3 t0 t1 t2 t3 →
 br (decide (t3 < ((l.map Wnt.v).length : Int)))
 (Rf (l.map Wnt.v) (ck (decide (0 ≤ (W (t3 - 1)))) (ck (decide ((W (t3 - 1)) < (l.length : Int)))
 (∀ x4, l[(W (t3 - 1)).toNat]? = some x4 →
 Rf (l.map Wnt.v) (ck (decide (0 ≤ t3)) (ck (decide (t3 < (l.length : Int)))
 (∀ x5, l[t3.toNat]? = some x5 →
 br (decide (x5.grp ≤ x4.grp))
 (Rf (checkR_e (25)) ((25) = r0))
 (Nf (checkR_n3 l changes t0 t1 t2 (W (t3 + 1))) [] (I3 t0 t1 t2 (W (t3 + 1)) ∧ m3 t0 t1 t2 (W (t3 + 1)) < m3 t0 t1 t2 t3)))))))))
 (Rf (checkR_e (0)) ((0) = r0))))))
theorem checkR_eq (l : (List Wnt)) (changes : Bool) (I0 : Int → Prop) (m0 : Int → Nat) (I1 : Int → Int → Prop) (m1 : Int → Int → Nat) (I2 : Int → Int → Int → Prop) (m2 : Int → Int → Int → Nat) (I3 : Int → Int → Int → Int → Prop) (m3 : Int → Int → Int → Int → Nat) (r0 : Int) : mxP Try.prog 55 [.sl 3 (l.map Wnt.v) false, .bool changes] .k checkR_e ((.br 64 (.ret (3))
 (.loop 0 (checkR_n0 l changes) (I0) (m0) ((0) : Int) [] fun (t0 : Int) =>
 (.br 16 (.el 16 Wnt.v l fun x1 =>
 (.br 144 (.ret (2))
 (.br 208 (.ret (2))
 (.back 0 ((W (t0 + 1)) : Int) []))))
 (.loop 1 (checkR_n1 l changes t0) (I1 t0) (m1 t0) ((0) : Int) [] fun (t1 : Int) =>
 (.br 16 (.el 16 Wnt.v l fun x2 =>
 (.callP (FVal_c (⟨x2.mode, x2.srcs⟩ : Flt))
 (.br 176 (.ret (fltErr (⟨x2.mode, x2.srcs⟩ : Flt).mode (⟨x2.mode, x2.srcs⟩ : Flt).srcs))
 (.back 1 ((W (t1 + 1)) : Int) []))))
 (.loop 2 (checkR_n2 l changes t0 t1) (I2 t0 t1) (m2 t0 t1) ((0) : Int) [] fun (t2 : Int) =>
 (.br 16 (.el 16 Wnt.v l fun x3 =>
 (.br 128 (.callP (Nothing_c )
 (.callP (FSame_c (⟨x3.mode, x3.srcs⟩ : Flt) (⟨1, []⟩ : Flt))
 (.br 208 (.ret (1))
 (.back 2 ((W (t2 + 1)) : Int) []))))
 (.back 2 ((W (t2 + 1)) : Int) [])))
 (.loop 3 (checkR_n3 l changes t0 t1 t2) (I3 t0 t1 t2) (m3 t0 t1 t2) ((1) : Int) [] fun (t3 : Int) =>
 (.br 64 (.el 112 Wnt.v l fun x4 =>
 (.el 192 Wnt.v l fun x5 =>
 (.br 256 (.ret (25))
 (.back 3 ((W (t3 + 1)) : Int) []))))
 (.ret (0))))))))))) : An Try.prog checkR_s (Int)) r0 = checkR_vc l changes I0 m0 I1 m1 I2 m2 I3 m3 r0 := by kernel_rfl
theorem checkR_ok (l : (List Wnt)) (changes : Bool) (I0 : Int → Prop) (m0 : Int → Nat) (I1 : Int → Int → Prop) (m1 : Int → Int → Nat) (I2 : Int → Int → Int → Prop) (m2 : Int → Int → Int → Nat) (I3 : Int → Int → Int → Int → Prop) (m3 : Int → Int → Int → Int → Nat) (r0 : Int) (h : checkR_vc l changes I0 m0 I1 m1 I2 m2 I3 m3 r0) : PSpec Try.prog 55 [.sl 3 (l.map Wnt.v) false, .bool changes] (checkR_e r0) := by
  have e := checkR_eq l changes I0 m0 I1 m1 I2 m2 I3 m3 r0
  rw [← e] at h
  exact mxP_ok (enc := checkR_e) h (AV.pureB_ok rfl)
theorem checkR_p (l : List Wnt) (chg : Bool) (ok : checkR_a l chg) : ∃ I0 m0 I1 m1 I2 m2 I3 m3, checkR_vc l chg I0 m0 I1 m1 I2 m2 I3 m3 (wErr chg l) := by
  let R : Prop := ∀ w ∈ l, 1 ≤ w.grp ∧ w.grp ≤ 99
  let F : Prop := ∀ w ∈ l, fltErr w.mode w.srcs = 0
  let N : Prop := chg = false → ∀ w ∈ l, ¬ isNoW w
  refine ⟨fun t => ∃ k : Nat, t = k ∧ k ≤ l.length ∧ ∀ w ∈ l.take k, 1 ≤ w.grp ∧ w.grp ≤ 99, fun t => l.length - t.toNat,
    fun _ t => R ∧ ∃ k : Nat, t = k ∧ k ≤ l.length ∧ ∀ w ∈ l.take k, fltErr w.mode w.srcs = 0, fun _ t => l.length - t.toNat,
    fun _ _ t => R ∧ F ∧ ∃ k : Nat, t = k ∧ k ≤ l.length ∧ ∀ w ∈ l.take k, chg = false → ¬ isNoW w, fun _ _ t => l.length - t.toNat,
    fun _ _ _ t => R ∧ F ∧ N ∧ ∃ k : Nat, t = k ∧ 1 ≤ k ∧ k ≤ l.length + 1 ∧ ∀ j x y, j + 1 < k → l[j]? = some x → l[j + 1]? = some y → x.grp < y.grp, fun _ _ _ t => l.length + 1 - t.toNat, ?_⟩
  simp only [checkR_vc, vcU, rfU, List.length_map]
  have hno : ∀ x : Wnt, FSame ⟨x.mode, x.srcs⟩ ⟨1, []⟩ = true ↔ isNoW x := fun x => by simp [FSame, isNoW]
  refine ⟨fun e => by rw [wErr, if_pos (by omega)], fun e0 => ⟨⟨0, rfl, by omega, by simp⟩, ?_⟩⟩
  have e0 : ¬ 32 < l.length := by omega
  rintro _ ⟨k, rfl, hk, h⟩
  simp only [Int.toNat_natCast]
  refine ⟨fun h1 => ⟨by omega, by omega, fun x hx => ?_⟩, fun h1 => ?_⟩
  · have bad : ¬ (1 ≤ x.grp ∧ x.grp ≤ 99) → 2 = wErr chg l := fun h => by
      rw [wErr, if_neg e0, if_pos fun h' => h (h' x (mem_of_get hx))]
    refine ⟨fun e => bad (by omega), fun e1 => ⟨fun e => bad (by omega), fun e2 => ?_⟩⟩
    rw [W_succ (n := l.length) (by omega) (by omega)]
    exact ⟨⟨k + 1, rfl, by omega, all_take h hx ⟨by omega, by omega⟩⟩, by omega⟩
  rw [List.take_of_length_le (by omega)] at h
  have hR : R := h
  have w1 : wErr chg l = if wFErrs l ≠ 0 then wFErrs l else if chg = false ∧ ∃ w ∈ l, isNoW w then 1 else if ¬ (l.Pairwise fun x y => x.grp < y.grp) then 25 else 0 := by
    rw [wErr, if_neg e0, if_neg (fun h => h hR)]
  clear h h1 hk k
  refine ⟨⟨hR, 0, rfl, by omega, by simp⟩, ?_⟩
  rintro _ ⟨-, k, rfl, hk, h⟩
  simp only [Int.toNat_natCast]
  refine ⟨fun h1 => ⟨by omega, by omega, fun x hx => ⟨fun e => ?_, fun e => ?_⟩⟩, fun h1 => ?_⟩
  · have e : fltErr x.mode x.srcs ≠ 0 := by simpa using e
    have : wFErrs l = fltErr x.mode x.srcs := orI_at (f := fun x : Wnt => fltErr x.mode x.srcs) h hx e
    rw [w1, this, if_pos e]
  · rw [W_succ (n := l.length) (by omega) (by omega)]
    exact ⟨⟨hR, k + 1, rfl, by omega, all_take h hx (by simpa using e)⟩, by omega⟩
  rw [List.take_of_length_le (by omega)] at h
  have hF : F := h
  have w2 : wErr chg l = if chg = false ∧ ∃ w ∈ l, isNoW w then 1 else if ¬ (l.Pairwise fun x y => x.grp < y.grp) then 25 else 0 := by
    rw [w1, if_neg (fun hh => hh (orI_all hF))]
  clear h h1 hk k
  refine ⟨⟨hR, hF, 0, rfl, by omega, by simp⟩, ?_⟩
  rintro _ ⟨-, -, k, rfl, hk, h⟩
  simp only [Int.toNat_natCast]
  refine ⟨fun h1 => ⟨by omega, by omega, fun x hx => ?_⟩, fun h1 => ?_⟩
  · have step : (chg = false → ¬ isNoW x) → (R ∧ F ∧ ∃ k' : Nat, W ((k : Int) + 1) = k' ∧ k' ≤ l.length ∧ ∀ w ∈ l.take k', chg = false → ¬ isNoW w) ∧ l.length - (W ((k : Int) + 1)).toNat < l.length - k := by
      intro hs
      rw [W_succ (n := l.length) (by omega) (by omega)]
      exact ⟨⟨hR, hF, k + 1, rfl, by omega, all_take h hx hs⟩, by omega⟩
    refine ⟨fun e => ⟨fun e2 => ?_, fun e2 => step fun _ hn => ?_⟩, fun e => step fun hc => ?_⟩
    · rw [w2, if_pos ⟨by simpa using e, x, mem_of_get hx, (hno x).mp e2⟩]
    · rw [(hno x).mpr hn] at e2; cases e2
    · simp [hc] at e
  rw [List.take_of_length_le (by omega)] at h
  have hN : N := fun hc w hw => h w hw hc
  have w3 : wErr chg l = if ¬ (l.Pairwise fun x y => x.grp < y.grp) then 25 else 0 := by
    rw [w2, if_neg (fun ⟨hc, w, hw, hn⟩ => hN hc w hw hn)]
  clear h h1 hk k
  refine ⟨⟨hR, hF, hN, 1, rfl, by omega, by omega, fun j x y hj => by omega⟩, ?_⟩
  rintro _ ⟨-, -, -, k, rfl, hk1, hk, h⟩
  refine ⟨fun h1 => ?_, fun h1 => ?_⟩
  · rw [W_pred (by omega) hk1]
    simp only [Int.toNat_natCast]
    refine ⟨by omega, by omega, fun x hx => ⟨by omega, by omega, fun y hy => ⟨fun e => ?_, fun e => ?_⟩⟩⟩
    · rw [w3, if_pos]
      intro hp
      have : x.grp < y.grp := pw_get hp (show k - 1 < k by omega) hx hy
      omega
    · rw [W_succ (n := l.length) (by omega) (by omega)]
      refine ⟨⟨hR, hF, hN, k + 1, rfl, by omega, by omega, fun j x' y' hj hx' hy' => ?_⟩, by omega⟩
      by_cases e' : j + 1 = k
      · subst e'
        rw [show j + 1 - 1 = j by omega, hx'] at hx; cases hx
        rw [hy'] at hy; cases hy; omega
      · exact h j x' y' (by omega) hx' hy'
  · rw [w3, if_neg]
    exact fun hh => hh (pw_adj fun j x y hx hy => h j x y (by have := lt_of_get hy; omega) hx hy)
def checkR_c (l : (List Wnt)) (changes : Bool) : PC Try.prog := ⟨55, [(.s 3), .k], [.sl 3 (l.map Wnt.v) false, .bool changes], checkR_e (wErr changes l), PSpec.of_ok fun ok => (checkR_p l changes ok).elim fun I0 h => h.elim fun m0 h => h.elim fun I1 h => h.elim fun m1 h => h.elim fun I2 h => h.elim fun m2 h => h.elim fun I3 h => h.elim fun m3 h => checkR_ok l changes I0 m0 I1 m1 I2 m2 I3 m3 _ h, fnB_ok (by kernel_rfl)⟩
def valR_a (l : (List Wnt)) : Prop := okL [.sl 3 (l.map Wnt.v) false]
def valR_s : Nat → Type
  | _ => Unit
def valR_e (r : Int) : AV := .int r
def valR_vc (l : (List Wnt)) (r0 : Int) : Prop :=
 Cl (checkR_c l false)
 (Rf (valR_e (wErr false l)) ((wErr false l) = r0))
theorem valR_eq (l : (List Wnt)) (r0 : Int) : mxP Try.prog 26 [.sl 3 (l.map Wnt.v) false] .k valR_e ((.callP (checkR_c l false)
 (.ret (wErr false l))) : An Try.prog valR_s (Int)) r0 = valR_vc l r0 := by kernel_rfl
theorem valR_ok (l : (List Wnt)) (r0 : Int) (h : valR_vc l r0) : PSpec Try.prog 26 [.sl 3 (l.map Wnt.v) false] (valR_e r0) := by
  have e := valR_eq l r0
  rw [← e] at h
  exact mxP_ok (enc := valR_e) h (AV.pureB_ok rfl)
theorem valR_p (l : List Wnt) (ok : valR_a l) : valR_vc l (wErr false l) := by
  simp only [valR_vc, vcU, rfU, List.length_map]
def valR_c (l : (List Wnt)) : PC Try.prog := ⟨26, [(.s 3)], [.sl 3 (l.map Wnt.v) false], valR_e (wErr false l), PSpec.of_ok fun ok => valR_ok l _ (valR_p l ok), fnB_ok (by kernel_rfl)⟩
def findR_a (l : (List Wnt)) (group : Int) : Prop := okL [.sl 3 (l.map Wnt.v) false, .int group]
def findR_n0 (l : (List Wnt)) (group : Int) (t0 : Int) : NF := ⟨[(1, .k, .int group), (4, .k, .ref 0 0), (7, .k, .sl 3 (l.map Wnt.v) false), (8, .k, .int ((l.map Wnt.v).length : Int)), (9, .k, .int t0)], [.box (.agg [.int 0, .sl 0 [] true])]⟩
def findR_s : Nat → Type
  | 0 => Int
  | _ => Unit
def findR_e (r : Flt) : AV := Flt.v r
def findR_vc (l : (List Wnt)) (group : Int) (I0 : Int → Prop) (m0 : Int → Nat) (r0 : Flt) : Prop :=
 Nf (findR_n0 l group (0)) [0] (I0 (0)) ∧ ∀ t0 : Int, I0 t0 →
 br (decide (t0 < ((l.map Wnt.v).length : Int)))
 (Rf (l.map Wnt.v) (ck (decide (0 ≤ t0)) (ck (decide (t0 < (l.length : Int)))
 (∀ x1, l[t0.toNat]? = some x1 →
 br (x1.grp == group)
 (Rf (findR_e ((⟨x1.mode, x1.srcs⟩ : Flt))) (((⟨x1.mode, x1.srcs⟩ : Flt)) = r0))
 (Nf (findR_n0 l group (W (t0 + 1))) [0] (I0 (W (t0 + 1)) ∧ m0 (W (t0 + 1)) < m0 t0))))))
 (Cl (Nothing_c )
 (Rf (findR_e ((⟨1, []⟩ : Flt))) (((⟨1, []⟩ : Flt)) = r0)))
theorem findR_eq (l : (List Wnt)) (group : Int) (I0 : Int → Prop) (m0 : Int → Nat) (r0 : Flt) : mxP Try.prog 27 [.sl 3 (l.map Wnt.v) false, .int group] (.a [.k, (.s 1)]) findR_e ((.loop 0 (findR_n0 l group) (I0) (m0) ((0) : Int) [0] fun (t0 : Int) =>
 (.br 17 (.el 17 Wnt.v l fun x1 =>
 (.br 145 (.ret ((⟨x1.mode, x1.srcs⟩ : Flt)))
 (.back 0 ((W (t0 + 1)) : Int) [0])))
 (.callP (Nothing_c )
 (.ret ((⟨1, []⟩ : Flt)))))) : An Try.prog findR_s (Flt)) r0 = findR_vc l group I0 m0 r0 := by kernel_rfl
theorem findR_ok (l : (List Wnt)) (group : Int) (I0 : Int → Prop) (m0 : Int → Nat) (r0 : Flt) (h : findR_vc l group I0 m0 r0) : PSpec Try.prog 27 [.sl 3 (l.map Wnt.v) false, .int group] (findR_e r0) := by
  have e := findR_eq l group I0 m0 r0
  rw [← e] at h
  exact mxP_ok (enc := findR_e) h (AV.pureB_ok rfl)
theorem findR_p (l : List Wnt) (g : Int) (ok : findR_a l g) : ∃ I m, findR_vc l g I m (findW l g) := by
  simp only [findR_a, okU, Blk.ok, plainV, List.length_map] at ok
  refine ⟨fun t => ∃ k : Nat, t = k ∧ k ≤ l.length ∧ ∀ x ∈ l.take k, decide (x.grp = g) = false, fun t => l.length - t.toNat, ?_⟩
  simp only [findR_vc, vcU, rfU, List.length_map]
  refine ⟨⟨0, rfl, by omega, by simp⟩, ?_⟩
  rintro _ ⟨k, rfl, hk, h⟩
  simp only [Int.toNat_natCast]
  have h : ∀ x ∈ l.take k, decide (x.grp = g) = false := fun x hx => decide_eq_false (h x hx)
  refine ⟨fun h1 => ⟨by omega, by omega, fun x hx => ⟨fun e => ?_, fun e => ?_⟩⟩, fun h1 => ?_⟩
  · rw [findW, find_at h hx (by simpa using e)]
  · rw [W_succ (n := l.length) (by omega) (by omega)]
    refine ⟨⟨k + 1, rfl, by omega, ?_⟩, by omega⟩
    rw [take_succ hx]
    intro z hz
    rcases List.mem_append.mp hz with hz | hz
    · simpa using h z hz
    · rw [List.mem_singleton] at hz; subst hz; simpa using e
  · rw [List.take_of_length_le (by omega)] at h
    rw [findW, List.find?_eq_none.mpr fun x hx => by rw [h x hx]; simp]
def findR_c (l : (List Wnt)) (group : Int) : PC Try.prog := ⟨27, [(.s 3), .k], [.sl 3 (l.map Wnt.v) false, .int group], findR_e (findW l group), PSpec.of_ok fun ok => (findR_p l group ok).elim fun I0 h => h.elim fun m0 h => findR_ok l group I0 m0 _ h, fnB_ok (by kernel_rfl)⟩
def chgsR_a (old : (List Wnt)) (new : (List Wnt)) : Prop := okL [.sl 3 (old.map Wnt.v) false, .sl 3 (new.map Wnt.v) false]
def chgsR_n0 (old : (List Wnt)) (new : (List Wnt)) (t0 : Int × (List Wnt)) : NF := ⟨[(0, .k, .sl 3 (old.map Wnt.v) false), (1, .k, .sl 3 (new.map Wnt.v) false), (8, .k, .vec 0), (9, .k, .int t0.1)], [.vec 3 (t0.2.map Wnt.v) (pureBL_map (fun _ => rfl) t0.2)]⟩
def chgsR_s : Nat → Type
  | 0 => Int × (List Wnt)
  | _ => Unit
def chgsR_e (r : (List Wnt) × Int) : AV := .tup [.sl 3 (r.1.map Wnt.v) false, .int r.2]
def chgsR_vc (old : (List Wnt)) (new : (List Wnt)) (I0 : (Int × (List Wnt)) → Prop) (m0 : (Int × (List Wnt)) → Nat) (r0 : (List Wnt) × Int) : Prop :=
 Cl (valR_c old)
 (br ((wErr false old) != 0)
 (Rf (chgsR_e ([], wErr false old)) (([], wErr false old) = r0))
 (Cl (valR_c new)
 (br ((wErr false new) != 0)
 (Rf (chgsR_e ([], wErr false new)) (([], wErr false new) = r0))
 (Nf (chgsR_n0 old new (1, [])) [224] (I0 (1, [])) ∧ ∀ t0 : Int × (List Wnt), I0 t0 →
 br (decide (t0.1 ≤ 99))
 (Cl (findR_c new t0.1)
 (Cl (findR_c old t0.1)
 (Cl (FSame_c (findW new t0.1) (findW old t0.1))
 (br (!(FSame (findW new t0.1) (findW old t0.1)))
 (Rf (α := List AV) (t0.2.map Wnt.v) (Rf (α := List AV) [.agg [.int t0.1, .int ((findW new t0.1).mode), .sl 1 (((findW new t0.1).srcs).map AV.int) false]]
 (ck (decide (t0.2.length + 1 ≤ 1000000))
 (Nf (chgsR_n0 old new (W (t0.1 + 1), t0.2 ++ [(⟨t0.1, (findW new t0.1).mode, (findW new t0.1).srcs⟩ : Wnt)])) [289] (I0 (W (t0.1 + 1), t0.2 ++ [(⟨t0.1, (findW new t0.1).mode, (findW new t0.1).srcs⟩ : Wnt)]) ∧ m0 (W (t0.1 + 1), t0.2 ++ [(⟨t0.1, (findW new t0.1).mode, (findW new t0.1).srcs⟩ : Wnt)]) < m0 t0)))))
 (Nf (chgsR_n0 old new (W (t0.1 + 1), t0.2)) [0] (I0 (W (t0.1 + 1), t0.2) ∧ m0 (W (t0.1 + 1), t0.2) < m0 t0))))))
 (br (decide (32 < ((t0.2.map Wnt.v).length : Int)))
 (Rf (chgsR_e ([], 3)) (([], 3) = r0))
 (Rf (t0.2.map Wnt.v) (Rf (chgsR_e (t0.2, 0)) ((t0.2, 0) = r0))))))))
theorem chgsR_eq (old : (List Wnt)) (new : (List Wnt)) (I0 : (Int × (List Wnt)) → Prop) (m0 : (Int × (List Wnt)) → Nat) (r0 : (List Wnt) × Int) : mxP Try.prog 8 [.sl 3 (old.map Wnt.v) false, .sl 3 (new.map Wnt.v) false] (.a [(.s 3), .k]) chgsR_e ((.callP (valR_c old)
 (.br 112 (.ret ([], wErr false old))
 (.callP (valR_c new)
 (.br 192 (.ret ([], wErr false new))
 (.cmdL (.nilT 8 3) (.loop 0 (chgsR_n0 old new) (I0) (m0) ((1, []) : Int × (List Wnt)) [224] fun (t0 : Int × (List Wnt)) =>
 (.br 33 (.callP (findR_c new t0.1)
 (.callP (findR_c old t0.1)
 (.callP (FSame_c (findW new t0.1) (findW old t0.1))
 (.br 209 (.app 289 Wnt.v t0.2 [(⟨t0.1, (findW new t0.1).mode, (findW new t0.1).srcs⟩ : Wnt)]
 (.back 0 ((W (t0.1 + 1), t0.2 ++ [(⟨t0.1, (findW new t0.1).mode, (findW new t0.1).srcs⟩ : Wnt)]) : Int × (List Wnt)) [289]))
 (.back 0 ((W (t0.1 + 1), t0.2) : Int × (List Wnt)) [0])))))
 (.br 81 (.ret ([], 3))
 (.cmdL (.frzE 0 (t0.2.map Wnt.v) (pureBL_map (fun _ => rfl) t0.2)) (.ret (t0.2, 0))))))))))) : An Try.prog chgsR_s ((List Wnt) × Int)) r0 = chgsR_vc old new I0 m0 r0 := by kernel_rfl
theorem chgsR_ok (old : (List Wnt)) (new : (List Wnt)) (I0 : (Int × (List Wnt)) → Prop) (m0 : (Int × (List Wnt)) → Nat) (r0 : (List Wnt) × Int) (h : chgsR_vc old new I0 m0 r0) : PSpec Try.prog 8 [.sl 3 (old.map Wnt.v) false, .sl 3 (new.map Wnt.v) false] (chgsR_e r0) := by
  have e := chgsR_eq old new I0 m0 r0
  rw [← e] at h
  exact mxP_ok (enc := chgsR_e) h (AV.pureB_ok rfl)
theorem chgsR_p (a b : List Wnt) (ok : chgsR_a a b) : ∃ I m, chgsR_vc a b I m (changes a b) := by
  refine ⟨fun t => ∃ k : Nat, t = (((k + 1 : Nat) : Int), chgsTo a b k) ∧ k ≤ 99, fun t => 100 - t.1.toNat, ?_⟩
  simp only [chgsR_vc, vcU, rfU, List.length_map]
  by_cases h1 : wErr false a = 0
  case neg => simp [changes, h1]
  by_cases h2 : wErr false b = 0
  case neg => simp [changes, h1, h2]
  have e : changes a b = if 32 < (chgsTo a b 99).length then ([], 3) else (chgsTo a b 99, 0) := by
    rw [changes, if_neg (not_not_intro h1), if_neg (not_not_intro h2)]
  refine ⟨fun c => by simp [h1] at c, fun _ => ⟨fun c => by simp [h2] at c, fun _ => ⟨⟨0, rfl, by omega⟩, ?_⟩⟩⟩
  rintro _ ⟨k, rfl, hk⟩
  have hl := chgsTo_len a b k
  refine ⟨fun c => ?_, fun c => ?_⟩
  · have c : k < 99 := by simp only at c; omega
    simp only [W_succ (k := k + 1) (n := 100) (by omega) (by omega)]
    refine ⟨fun d => ⟨by omega, ⟨k + 1, ?_, by omega⟩, by omega⟩, fun d => ⟨⟨k + 1, ?_, by omega⟩, by omega⟩⟩
    · rw [chgsTo, chgs1, if_neg (by simpa [FSame] using d)]; rfl
    · rw [chgsTo, chgs1, if_pos (by simpa [FSame] using d), List.append_nil]
  · have c : k = 99 := by simp only at c; omega
    subst c
    rw [e]
    simp only
    refine ⟨fun d => by rw [if_pos (by omega)], fun d => by rw [if_neg (by omega)]⟩
def chgsR_c (old : (List Wnt)) (new : (List Wnt)) : PC Try.prog := ⟨8, [(.s 3), (.s 3)], [.sl 3 (old.map Wnt.v) false, .sl 3 (new.map Wnt.v) false], chgsR_e (changes old new), PSpec.of_ok fun ok => (chgsR_p old new ok).elim fun I0 h => h.elim fun m0 h => chgsR_ok old new I0 m0 _ h, fnB_ok (by kernel_rfl)⟩
def sameI_a (a : (List Itm)) (b : (List Itm)) : Prop := okL [.sl 4 (a.map Itm.v) false, .sl 4 (b.map Itm.v) false]
def sameI_n0 (a : (List Itm)) (b : (List Itm)) (t0 : Int) : NF := ⟨[(0, .k, .sl 4 (a.map Itm.v) false), (1, .k, .sl 4 (b.map Itm.v) false), (5, .k, .int t0)], []⟩
def sameI_s : Nat → Type
  | 0 => Int
  | _ => Unit
def sameI_e (r : Bool) : AV := .bool r
def sameI_vc (a : (List Itm)) (b : (List Itm)) (I0 : Int → Prop) (m0 : Int → Nat) (r0 : Bool) : Prop :=
 br (((a.map Itm.v).length : Int) != ((b.map Itm.v).length : Int))
 (Rf (sameI_e (false)) ((false) = r0))
 (Nf (sameI_n0 a b (0)) [] (I0 (0)) ∧ ∀ t0 : Int, I0 t0 →
 br (decide (t0 < ((a.map Itm.v).length : Int)))
 (Rf (a.map Itm.v) (ck (decide (0 ≤ t0)) (ck (decide (t0 < (a.length : Int)))
 (∀ x1, a[t0.toNat]? = some x1 →
 Rf (b.map Itm.v) (ck (decide (0 ≤ t0)) (ck (decide (t0 < (b.length : Int)))
 (∀ x2, b[t0.toNat]? = some x2 →
 br (x1.ver != x2.ver)
 (Rf (sameI_e (false)) ((false) = r0))
 (Rf (a.map Itm.v) (ck (decide (0 ≤ t0)) (ck (decide (t0 < (a.length : Int)))
 (∀ x3, a[t0.toNat]? = some x3 →
 Rf (b.map Itm.v) (ck (decide (0 ≤ t0)) (ck (decide (t0 < (b.length : Int)))
 (∀ x4, b[t0.toNat]? = some x4 →
 br (x3.grp != x4.grp)
 (Rf (sameI_e (false)) ((false) = r0))
 (Rf (a.map Itm.v) (ck (decide (0 ≤ t0)) (ck (decide (t0 < (a.length : Int)))
 (∀ x5, a[t0.toNat]? = some x5 →
 Rf (b.map Itm.v) (ck (decide (0 ≤ t0)) (ck (decide (t0 < (b.length : Int)))
 (∀ x6, b[t0.toNat]? = some x6 →
 Cl (FSame_c (⟨x5.mode, x5.srcs⟩ : Flt) (⟨x6.mode, x6.srcs⟩ : Flt))
 (br (!(FSame (⟨x5.mode, x5.srcs⟩ : Flt) (⟨x6.mode, x6.srcs⟩ : Flt)))
 (Rf (sameI_e (false)) ((false) = r0))
 (Nf (sameI_n0 a b (W (t0 + 1))) [] (I0 (W (t0 + 1)) ∧ m0 (W (t0 + 1)) < m0 t0))))))))))))))))))))))))
 (Rf (sameI_e (true)) ((true) = r0)))
theorem sameI_eq (a : (List Itm)) (b : (List Itm)) (I0 : Int → Prop) (m0 : Int → Nat) (r0 : Bool) : mxP Try.prog 15 [.sl 4 (a.map Itm.v) false, .sl 4 (b.map Itm.v) false] .k sameI_e ((.br 96 (.ret (false))
 (.loop 0 (sameI_n0 a b) (I0) (m0) ((0) : Int) [] fun (t0 : Int) =>
 (.br 64 (.el 96 Itm.v a fun x1 =>
 (.el 176 Itm.v b fun x2 =>
 (.br 256 (.ret (false))
 (.el 288 Itm.v a fun x3 =>
 (.el 368 Itm.v b fun x4 =>
 (.br 464 (.ret (false))
 (.el 496 Itm.v a fun x5 =>
 (.el 576 Itm.v b fun x6 =>
 (.callP (FSame_c (⟨x5.mode, x5.srcs⟩ : Flt) (⟨x6.mode, x6.srcs⟩ : Flt))
 (.br 672 (.ret (false))
 (.back 0 ((W (t0 + 1)) : Int) [])))))))))))
 (.ret (true))))) : An Try.prog sameI_s (Bool)) r0 = sameI_vc a b I0 m0 r0 := by kernel_rfl
theorem sameI_ok (a : (List Itm)) (b : (List Itm)) (I0 : Int → Prop) (m0 : Int → Nat) (r0 : Bool) (h : sameI_vc a b I0 m0 r0) : PSpec Try.prog 15 [.sl 4 (a.map Itm.v) false, .sl 4 (b.map Itm.v) false] (sameI_e r0) := by
  have e := sameI_eq a b I0 m0 r0
  rw [← e] at h
  exact mxP_ok (enc := sameI_e) h (AV.pureB_ok rfl)
theorem sameI_p (a b : List Itm) (ok : sameI_a a b) : ∃ I m, sameI_vc a b I m (decide (a = b)) := by
  simp only [sameI_a, okU, Blk.ok, plainV, List.length_map] at ok
  refine ⟨fun t => ∃ k : Nat, t = k ∧ k ≤ a.length ∧ a.take k = b.take k, fun t => a.length - t.toNat, ?_⟩
  simp only [sameI_vc, vcU, rfU, List.length_map]
  refine ⟨fun e => (decide_eq_false fun h => by subst h; simp at e).symm, fun e => ⟨⟨0, rfl, by omega, rfl⟩, ?_⟩⟩
  have e : a.length = b.length := by simp at e; omega
  rintro _ ⟨k, rfl, hk, h⟩
  simp only [Int.toNat_natCast]
  refine ⟨fun h1 => ⟨by omega, by omega, fun x hx => ⟨by omega, by omega, fun y hy => ?_⟩⟩, fun h1 => ?_⟩
  · have bad : x ≠ y → false = decide (a = b) := fun hne => (decide_eq_false fun hh => by
      subst hh
      cases hx.symm.trans hy
      exact hne rfl).symm
    refine ⟨fun c => bad fun q => by subst q; simp at c, fun c => ⟨by omega, by omega, fun x2 hx2 => ⟨by omega, by omega, fun y2 hy2 => ?_⟩⟩⟩
    cases hx.symm.trans hx2
    cases hy.symm.trans hy2
    refine ⟨fun c2 => bad fun q => by subst q; simp at c2, fun c2 => ⟨by omega, by omega, fun x3 hx3 => ⟨by omega, by omega, fun y3 hy3 => ?_⟩⟩⟩
    cases hx.symm.trans hx3
    cases hy.symm.trans hy3
    refine ⟨fun c3 => bad fun q => by subst q; simp [FSame] at c3, fun c3 => ?_⟩
    have q : x = y := by
      rw [Itm.eq_iff]
      have c3 : FSame ⟨x.mode, x.srcs⟩ ⟨y.mode, y.srcs⟩ = true := by simpa using c3
      have c3 := flt_eq.mp (of_decide_eq_true c3)
      exact ⟨by simpa using c, by simpa using c2, c3⟩
    subst q
    rw [W_succ (n := a.length) (by omega) (by omega)]
    exact ⟨⟨k + 1, rfl, by omega, by rw [take_succ hx, take_succ hy, h]⟩, by omega⟩
  · rw [List.take_of_length_le (by omega), List.take_of_length_le (by omega)] at h
    exact (decide_eq_true h).symm
def sameI_c (a : (List Itm)) (b : (List Itm)) : PC Try.prog := ⟨15, [(.s 4), (.s 4)], [.sl 4 (a.map Itm.v) false, .sl 4 (b.map Itm.v) false], sameI_e (decide (a = b)), PSpec.of_ok fun ok => (sameI_p a b ok).elim fun I0 h => h.elim fun m0 h => sameI_ok a b I0 m0 _ h, fnB_ok (by kernel_rfl)⟩
def chgT (L : List Int) (p : Nat) : List Wnt × Nat := ((changes (wantsT L p).1 (wantsT L (wantsT L p).2).1).1, (wantsT L (wantsT L p).2).2)
def chgT_a (L : (List Int)) (p : Nat) : Prop := okL [.ref 0 0] ∧ (.box (.agg [.sl 1 (L.map AV.int) false, .int ((p : Nat) : Int)]) : Blk).ok
def chgT_s : Nat → Type
  | _ => Unit
def chgT_e (r : Tap × (List Wnt)) : AV := .sl 3 (r.2.map Wnt.v) false
def chgT_b (r : Tap × (List Wnt)) : List (Option Blk) := [some (.box (.agg [.sl 1 (r.1.L.map AV.int) false, .int ((r.1.p : Nat) : Int)]))]
def chgT_vc (L : (List Int)) (p : Nat) (r0 : Tap × (List Wnt)) : Prop :=
 Ch (wantsT_h L p) [0] 33
 (Ch (wantsT_h L ((wantsT L p).2)) [0] 65
 (Cl (chgsR_c ((wantsT L p).1) ((wantsT L ((wantsT L p).2)).1))
 (Nf ⟨[(2, .k, .sl 3 (((changes ((wantsT L p).1) ((wantsT L ((wantsT L p).2)).1)).1).map Wnt.v) false)], [.box (.agg [.sl 1 (L.map AV.int) false, .int ((((wantsT L ((wantsT L p).2)).2) : Nat) : Int)])]⟩ [0] (Rf (chgT_e ((⟨L, (wantsT L ((wantsT L p).2)).2⟩ : Tap), (changes ((wantsT L p).1) ((wantsT L ((wantsT L p).2)).1)).1)) (Rf (chgT_b ((⟨L, (wantsT L ((wantsT L p).2)).2⟩ : Tap), (changes ((wantsT L p).1) ((wantsT L ((wantsT L p).2)).1)).1)) (((⟨L, (wantsT L ((wantsT L p).2)).2⟩ : Tap), (changes ((wantsT L p).1) ((wantsT L ((wantsT L p).2)).1)).1) = r0))))))
theorem chgT_eq (L : (List Int)) (p : Nat) (r0 : Tap × (List Wnt)) : mxH Try.prog 49 [.ref 0 0] [.box (.agg [.sl 1 (L.map AV.int) false, .int ((p : Nat) : Int)])] (.s 3) chgT_e chgT_b ((.callH [0] (wantsT_h L p)
 (.callH [0] (wantsT_h L ((wantsT L p).2))
 (.callP (chgsR_c ((wantsT L p).1) ((wantsT L ((wantsT L p).2)).1))
 (.retH ((⟨L, (wantsT L ((wantsT L p).2)).2⟩ : Tap), (changes ((wantsT L p).1) ((wantsT L ((wantsT L p).2)).1)).1) ⟨[(2, .k, .sl 3 (((changes ((wantsT L p).1) ((wantsT L ((wantsT L p).2)).1)).1).map Wnt.v) false)], [.box (.agg [.sl 1 (L.map AV.int) false, .int ((((wantsT L ((wantsT L p).2)).2) : Nat) : Int)])]⟩ [0])))) : An Try.prog chgT_s (Tap × (List Wnt))) r0 = chgT_vc L p r0 := by kernel_rfl
theorem chgT_ok (L : (List Int)) (p : Nat) (r0 : Tap × (List Wnt)) (h : chgT_vc L p r0) : HSpec Try.prog 49 [.ref 0 0] [.box (.agg [.sl 1 (L.map AV.int) false, .int ((p : Nat) : Int)])] (chgT_e r0) (chgT_b r0) := by
  have e := chgT_eq L p r0
  rw [← e] at h
  exact mxH_ok (enc := chgT_e) (hB := chgT_b) h
theorem chgT_p (L : List Int) (p : Nat) (ok : chgT_a L p) : chgT_vc L p (⟨L, (chgT L p).2⟩, (chgT L p).1) := by
  simp only [chgT_vc, vcU, rfU, List.length_map]
  rfl
def chgT_h (L : (List Int)) (p : Nat) : HC Try.prog := ⟨49, [.k], [.ref 0 0], [.box (.agg [.sl 1 (L.map AV.int) false, .int ((p : Nat) : Int)])], chgT_e (⟨L, (chgT L p).2⟩, (chgT L p).1), chgT_b (⟨L, (chgT L p).2⟩, (chgT L p).1), HSpec.of_okh fun ok ok2 => have ok : chgT_a L p := ⟨ok, ok2 _ (by simp)⟩; chgT_ok L p _ (chgT_p L p ok), fnB_ok (by kernel_rfl), HcOk.of (by simp [hcB, belBL, AV.belB, allB, okBk, okBkO, chgT_e, chgT_b, pureBL_map (v := AV.int) (fun _ => rfl)])⟩
end Go.Proofs.Ytglfecmdoekabaa
