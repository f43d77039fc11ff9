/- The reference of sessions: changes, wants, what is heard. -/
import Derived.Test.YtglfecmdoekabaaG20
import Derived.Test.YtglfecmdoekabaaU3
namespace Go.Proofs.Ytglfecmdoekabaa
open Go Go.Am
set_option linter.unusedVariables false
set_option linter.unusedSimpArgs false
def hasR (l : List Wnt) (g : Int) : Bool := decide (∃ w ∈ l, w.grp = g)
def hasR_a (l : (List Wnt)) (group : Int) : Prop := okL [.sl 3 (l.map Wnt.v) false, .int group]
def hasR_n0 (l : (List Wnt)) (group : Int) (t0 : Int) : NF := ⟨[(1, .k, .int group), (7, .k, .sl 3 (l.map Wnt.v) false), (8, .k, .int ((l.map Wnt.v).length : Int)), (9, .k, .int t0)], []⟩
def hasR_s : Nat → Type
  | 0 => Int
  | _ => Unit
def hasR_e (r : Bool) : AV := .bool r
def hasR_vc (l : (List Wnt)) (group : Int) (I0 : Int → Prop) (m0 : Int → Nat) (r0 : Bool) : Prop :=
 Nf (hasR_n0 l group (0)) [] (I0 (0)) ∧ ∀ t0 : Int, I0 t0 →
 br (decide (t0 < ((l.map Wnt.v).length : Int)))
 (Rf (l.map Wnt.v) (ck (decide (0 ≤ t0)) (ck (decide (t0 < (l.length : Int)))
 (∀ x1, l[t0.toNat]? = some x1 →
 br (x1.grp == group)
 (Rf (hasR_e (true)) ((true) = r0))
 (Nf (hasR_n0 l group (W (t0 + 1))) [] (I0 (W (t0 + 1)) ∧ m0 (W (t0 + 1)) < m0 t0))))))
 (Rf (hasR_e (false)) ((false) = r0))
theorem hasR_eq (l : (List Wnt)) (group : Int) (I0 : Int → Prop) (m0 : Int → Nat) (r0 : Bool) : mxP Try.prog 89 [.sl 3 (l.map Wnt.v) false, .int group] .k hasR_e ((.loop 0 (hasR_n0 l group) (I0) (m0) ((0) : Int) [] fun (t0 : Int) =>
 (.br 16 (.el 16 Wnt.v l fun x1 =>
 (.br 144 (.ret (true))
 (.back 0 ((W (t0 + 1)) : Int) [])))
 (.ret (false)))) : An Try.prog hasR_s (Bool)) r0 = hasR_vc l group I0 m0 r0 := by kernel_rfl
theorem hasR_ok (l : (List Wnt)) (group : Int) (I0 : Int → Prop) (m0 : Int → Nat) (r0 : Bool) (h : hasR_vc l group I0 m0 r0) : PSpec Try.prog 89 [.sl 3 (l.map Wnt.v) false, .int group] (hasR_e r0) := by
  have e := hasR_eq l group I0 m0 r0
  rw [← e] at h
  exact mxP_ok (enc := hasR_e) h (AV.pureB_ok rfl)
theorem hasR_p (l : List Wnt) (g : Int) (ok : hasR_a l g) : ∃ I m, hasR_vc l g I m (hasR l g) := by
  simp only [hasR_a, okU, Blk.ok, plainV, List.length_map] at ok
  refine ⟨fun t => ∃ k : Nat, t = k ∧ k ≤ l.length ∧ ∀ x ∈ l.take k, x.grp ≠ g, fun t => l.length - t.toNat, ?_⟩
  simp only [hasR_vc, vcU, rfU, List.length_map]
  have hle : l.length ≤ 9223372036854775807 := ok.1.1
  refine ⟨⟨0, rfl, by omega, by simp⟩, ?_⟩
  rintro _ ⟨k, rfl, hk, hI⟩
  simp only [Int.toNat_natCast]
  refine ⟨fun h1 => ⟨by omega, by omega, fun x hx => ⟨fun e => ?_, fun e => ?_⟩⟩, fun h1 => ?_⟩
  · exact (decide_eq_true ⟨x, mem_of_get hx, by simpa using e⟩).symm
  · rw [W_succ (n := l.length) (by omega) (by omega)]
    exact ⟨⟨k + 1, rfl, by omega, (mem_take_succ hx).mpr ⟨hI, by simpa using e⟩⟩, by omega⟩
  · rw [List.take_of_length_le (by omega)] at hI
    exact nodec fun ⟨w, hw, e⟩ => hI w hw e
def hasR_c (l : (List Wnt)) (group : Int) : PC Try.prog := ⟨89, [(.s 3), .k], [.sl 3 (l.map Wnt.v) false, .int group], hasR_e (hasR l group), PSpec.of_ok fun ok => (hasR_p l group ok).elim fun I0 h => h.elim fun m0 h => hasR_ok l group I0 m0 _ h, fnB_ok (by kernel_rfl)⟩
/-- What the reference's Apply makes of each group. -/
def appF (old c : List Wnt) (g : Int) : Int × List Int := if hasR c g = true then find2 c g else find2 old g
def applyG (old c : List Wnt) : List Wnt × Int :=
  if wErr false old ≠ 0 then ([], wErr false old) else if wErr true c ≠ 0 then ([], wErr true c) else limitW (fromF (appF old c) 99)
theorem fromF_len {f : Int → Int × List Int} : ∀ n : Nat, (fromF f n).length ≤ n
  | 0 => Nat.le_refl _
  | n + 1 => by
    rw [fromF, List.length_append]
    have := fromF_len (f := f) n
    unfold from1
    split <;> simp <;> omega
def applyR_a (old : (List Wnt)) (changes : (List Wnt)) : Prop := okL [.sl 3 (old.map Wnt.v) false, .sl 3 (changes.map Wnt.v) false]
def applyR_n0 (old : (List Wnt)) (changes : (List Wnt)) (t0 : Int × (List Wnt)) : NF := ⟨[(0, .k, .sl 3 (old.map Wnt.v) false), (1, .k, .sl 3 (changes.map Wnt.v) false), (8, .k, .vec 0), (9, .k, .int t0.1)], [.vec 3 (t0.2.map Wnt.v) (pureBL_map (fun _ => rfl) t0.2)]⟩
def applyR_n1 (old : (List Wnt)) (changes : (List Wnt)) (t0 : Int × (List Wnt)) (t1 : Flt) : NF := ⟨[(0, .k, .sl 3 (old.map Wnt.v) false), (1, .k, .sl 3 (changes.map Wnt.v) false), (8, .k, .vec 0), (9, .k, .int t0.1), (10, .k, .ref 1 0)], [.vec 3 (t0.2.map Wnt.v) (pureBL_map (fun _ => rfl) t0.2), .box (.agg [.int t1.mode, .sl 1 (t1.srcs.map AV.int) false])]⟩
def applyR_s : Nat → Type
  | 0 => Int × (List Wnt)
  | 1 => Flt
  | _ => Unit
def applyR_e (r : (List Wnt) × Int) : AV := .tup [.sl 3 (r.1.map Wnt.v) false, .int r.2]
def applyR_vc (old : (List Wnt)) (changes : (List Wnt)) (I0 : (Int × (List Wnt)) → Prop) (m0 : (Int × (List Wnt)) → Nat) (I1 : Int × (List Wnt) → Flt → Prop) (r0 : (List Wnt) × Int) : Prop :=
 Cl (valR_c old)
 (br ((wErr false old) != 0)
 (Rf (applyR_e ([], wErr false old)) (([], wErr false old) = r0))
 (Cl (checkR_c changes true)
 (br ((wErr true changes) != 0)
 (Rf (applyR_e ([], wErr true changes)) (([], wErr true changes) = r0))
 (Nf (applyR_n0 old changes (1, [])) [224] (I0 (1, [])) ∧ ∀ t0 : Int × (List Wnt), I0 t0 →
 br (decide (t0.1 ≤ 99))
 (Cl (findR_c old t0.1)
 ((Cl (hasR_c changes t0.1)
 (br (hasR changes t0.1)
 (Cl (findR_c changes t0.1)
 (Nf (applyR_n1 old changes t0 (findW changes t0.1)) [0, 81] (I1 t0 ((findW changes t0.1) : Flt))))
 (Nf (applyR_n1 old changes t0 (findW old t0.1)) [0, 81] (I1 t0 ((findW old t0.1) : Flt))))) ∧ ∀ t1 : Flt, I1 t0 t1 →
 Cl (Nothing_c )
 (Cl (FSame_c t1 (⟨1, []⟩ : Flt))
 (br (!(FSame t1 (⟨1, []⟩ : Flt)))
 (Rf (α := List AV) (t0.2.map Wnt.v) (Rf (α := List AV) [.agg [.int t0.1, .int t1.mode, .sl 1 (t1.srcs.map AV.int) false]]
 (ck (decide (t0.2.length + 1 ≤ 1000000))
 (Nf (applyR_n0 old changes (W (t0.1 + 1), t0.2 ++ [(⟨t0.1, t1.mode, t1.srcs⟩ : Wnt)])) [146] (I0 (W (t0.1 + 1), t0.2 ++ [(⟨t0.1, t1.mode, t1.srcs⟩ : Wnt)]) ∧ m0 (W (t0.1 + 1), t0.2 ++ [(⟨t0.1, t1.mode, t1.srcs⟩ : Wnt)]) < m0 t0)))))
 (Nf (applyR_n0 old changes (W (t0.1 + 1), t0.2)) [0] (I0 (W (t0.1 + 1), t0.2) ∧ m0 (W (t0.1 + 1), t0.2) < m0 t0))))))
 (br (decide (32 < ((t0.2.map Wnt.v).length : Int)))
 (Rf (applyR_e ([], 3)) (([], 3) = r0))
 (Rf (t0.2.map Wnt.v) (Rf (applyR_e (t0.2, 0)) ((t0.2, 0) = r0))))))))
theorem applyR_eq (old : (List Wnt)) (changes : (List Wnt)) (I0 : (Int × (List Wnt)) → Prop) (m0 : (Int × (List Wnt)) → Nat) (I1 : Int × (List Wnt) → Flt → Prop) (r0 : (List Wnt) × Int) : mxP Try.prog 74 [.sl 3 (old.map Wnt.v) false, .sl 3 (changes.map Wnt.v) false] (.a [(.s 3), .k]) applyR_e ((.callP (valR_c old)
 (.br 112 (.ret ([], wErr false old))
 (.callP (checkR_c changes true)
 (.br 192 (.ret ([], wErr true changes))
 (.cmdL (.nilT 8 3) (.loop 0 (applyR_n0 old changes) (I0) (m0) ((1, []) : Int × (List Wnt)) [224] fun (t0 : Int × (List Wnt)) =>
 (.br 33 (.callP (findR_c old t0.1)
 (.join 1 (applyR_n1 old changes t0) (fun t1 => I1 t0 t1) (.callP (hasR_c changes t0.1)
 (.br 161 (.callP (findR_c changes t0.1)
 (.back 1 ((findW changes t0.1) : Flt) [0, 81]))
 (.back 1 ((findW old t0.1) : Flt) [0, 81]))) fun (t1 : Flt) =>
 (.callP (Nothing_c )
 (.callP (FSame_c t1 (⟨1, []⟩ : Flt))
 (.br 66 (.app 146 Wnt.v t0.2 [(⟨t0.1, t1.mode, t1.srcs⟩ : Wnt)]
 (.back 0 ((W (t0.1 + 1), t0.2 ++ [(⟨t0.1, t1.mode, t1.srcs⟩ : Wnt)]) : Int × (List Wnt)) [146]))
 (.back 0 ((W (t0.1 + 1), t0.2) : Int × (List Wnt)) [0]))))))
 (.br 81 (.ret ([], 3))
 (.cmdL (.frzE 0 (t0.2.map Wnt.v) (pureBL_map (fun _ => rfl) t0.2)) (.ret (t0.2, 0))))))))))) : An Try.prog applyR_s ((List Wnt) × Int)) r0 = applyR_vc old changes I0 m0 I1 r0 := by kernel_rfl
theorem applyR_ok (old : (List Wnt)) (changes : (List Wnt)) (I0 : (Int × (List Wnt)) → Prop) (m0 : (Int × (List Wnt)) → Nat) (I1 : Int × (List Wnt) → Flt → Prop) (r0 : (List Wnt) × Int) (h : applyR_vc old changes I0 m0 I1 r0) : PSpec Try.prog 74 [.sl 3 (old.map Wnt.v) false, .sl 3 (changes.map Wnt.v) false] (applyR_e r0) := by
  have e := applyR_eq old changes I0 m0 I1 r0
  rw [← e] at h
  exact mxP_ok (enc := applyR_e) h (AV.pureB_ok rfl)
theorem applyR_p (old c : List Wnt) (ok : applyR_a old c) : ∃ I0 m0 I1, applyR_vc old c I0 m0 I1 (applyG old c) := by
  refine ⟨fun t => ∃ k : Nat, t.1 = (k : Int) + 1 ∧ k ≤ 99 ∧ t.2 = fromF (appF old c) k, fun t => 100 - t.1.toNat, fun t f => (f.mode, f.srcs) = appF old c t.1, ?_⟩
  simp only [applyR_vc, vcU, rfU, List.length_map]
  unfold applyG
  refine ⟨fun h => by rw [if_pos (by simpa using h)], fun h => ⟨fun h2 => ?_, fun h2 => ⟨⟨0, rfl, by omega, rfl⟩, ?_⟩⟩⟩
  · rw [if_neg (by simpa using h), if_pos (by simpa using h2)]
  · rw [if_neg (by simpa using h), if_neg (by simpa using h2)]
    rintro ⟨_, _⟩ ⟨k, rfl, hk, rfl⟩
    have hlen := fromF_len (f := appF old c) k
    simp only
    have hw : (k : Int) + 1 ≤ 99 → W ((k : Int) + 1 + 1) = ((k + 1 : Nat) : Int) + 1 := fun _ => by rw [W_eq (by omega)]; omega
    refine ⟨fun h1 => ⟨⟨fun q => ?_, fun q => ?_⟩, fun f hf => ⟨fun q => ⟨by omega, ?_⟩, fun q => ?_⟩⟩, fun h1 => ⟨fun q => ?_, fun q => ?_⟩⟩
    · unfold appF; rw [if_pos q]; rfl
    · unfold appF; rw [if_neg (by simp [q])]; rfl
    · rw [hw h1]
      refine ⟨⟨k + 1, rfl, by omega, ?_⟩, by omega⟩
      rw [fromF, from1, if_neg]
      · rw [← hf]
      · rw [← hf]
        intro e
        simp only [Prod.mk.injEq] at e
        simp [FSame, flt_eq, e.1, e.2] at q
    · rw [hw h1]
      refine ⟨⟨k + 1, rfl, by omega, ?_⟩, by omega⟩
      have e : f = ⟨1, []⟩ := by simpa [FSame] using q
      rw [fromF, from1, if_pos, List.append_nil]
      rw [← hf, e]
    · have : k = 99 := by omega
      subst this
      unfold limitW
      rw [if_pos (by omega)]
    · have : k = 99 := by omega
      subst this
      unfold limitW
      rw [if_neg (by omega)]
def applyR_c (old : (List Wnt)) (changes : (List Wnt)) : PC Try.prog := ⟨74, [(.s 3), (.s 3)], [.sl 3 (old.map Wnt.v) false, .sl 3 (changes.map Wnt.v) false], applyR_e (applyG old changes), PSpec.of_ok fun ok => (applyR_p old changes ok).elim fun I0 h => h.elim fun m0 h => h.elim fun I1 h => applyR_ok old changes I0 m0 I1 _ h, fnB_ok (by kernel_rfl)⟩
theorem find2_nil (g : Int) : find2 [] g = (1, []) := rfl
theorem applyG_err (c : List Wnt) : (applyG [] c).2 = wErr true c := by
  unfold applyG
  rw [if_neg (by decide)]
  split
  · rfl
  · rename_i h
    have h : wErr true c = 0 := by omega
    obtain ⟨h1, h2, h3, h4, h5⟩ := wErr_zero.mp h
    have e : fromF (appF [] c) 99 = c.filter fun w => decide (¬ isNoW w) := by
      refine ascW_ext (fromF_asc 99) (h5.filter _) fun w => ?_
      rw [mem_fromF, List.mem_filter]
      simp only [decide_eq_true_iff]
      constructor
      · rintro ⟨q1, q2, q3⟩
        unfold appF at q2 q3
        by_cases hh : hasR c w.grp = true
        · rw [if_pos hh] at q2 q3
          obtain ⟨y, hy, e1, e2⟩ := findW_some (find2_ne.mp q3)
          have e3 : find2 c w.grp = (y.mode, y.srcs) := by unfold find2; rw [e2]
          rw [q2] at e3 q3
          simp only [Prod.mk.injEq] at e3
          have : y = w := by rw [Wnt.eq_iff]; exact ⟨e1, e3.1.symm, e3.2.symm⟩
          subst this
          exact ⟨hy, fun hn => q3 (by rw [hn.1, hn.2])⟩
        · rw [if_neg hh, find2_nil] at q3; exact absurd rfl q3
      · rintro ⟨q1, q2⟩
        have hh : hasR c w.grp = true := decide_eq_true ⟨w, q1, rfl⟩
        have e1 : appF [] c w.grp = (w.mode, w.srcs) := by
          unfold appF
          rw [if_pos hh]
          unfold find2
          rw [findW_in h5 q1]
        refine ⟨h2 w q1, e1, ?_⟩
        rw [e1]
        intro e
        simp only [Prod.mk.injEq] at e
        exact q2 e
    have hl : (fromF (appF [] c) 99).length ≤ 32 := by
      rw [e]
      exact Nat.le_trans (List.length_filter_le _ _) h1
    unfold limitW
    rw [if_neg (by omega), h]
theorem chg_take_len {s : Spk} (hs : spkOk s) {c : List Wnt} (hc : wErr true c = 0) (j : Nat) : ((c.take j).foldl chg1 (s.last, s.items)).2.length ≤ 99 ∧ 0 ≤ ((c.take j).foldl chg1 (s.last, s.items)).1 ∧ ((c.take j).foldl chg1 (s.last, s.items)).1 ≤ s.last + 32 := by
  have ho := chgOk_of hc
  obtain ⟨q1, q2, q3, q4⟩ := chg_ok (c := c.take j) hs.2.2.2.1 hs.2.2.1.1 fun w hw => ho w (List.mem_of_mem_take hw)
  refine ⟨itms_len q1, q4, ?_⟩
  have := (wErr_zero.mp hc).1
  rw [List.length_take] at q3
  omega
def changeR_a (s : Spk) (changes : (List Wnt)) : Prop := okL [.agg [.int s.router, .int s.epoch, .int s.last, .sl 4 (s.items.map Itm.v) false, .sl 3 (s.peers.map Per.v) false], .sl 3 (changes.map Wnt.v) false]
def changeR_n0 (s : Spk) (changes : (List Wnt)) (t0 : Int × Spk) : NF := ⟨[(4, .k, .ref 0 0), (9, .k, .ref 1 0), (38, .k, .sl 3 (changes.map Wnt.v) false), (39, .k, .int ((changes.map Wnt.v).length : Int)), (40, .k, .int t0.1)], [.box (.agg [.int 0, .int 0, .int 0, .sl 0 [] true, .sl 0 [] true]), .box (.agg [.int t0.2.router, .int t0.2.epoch, .int t0.2.last, .sl 4 (t0.2.items.map Itm.v) false, .sl 3 (t0.2.peers.map Per.v) false])]⟩
def changeR_s : Nat → Type
  | 0 => Int × Spk
  | _ => Unit
def changeR_e (r : Spk × Int) : AV := .tup [Spk.v r.1, .int r.2]
def changeR_vc (s : Spk) (changes : (List Wnt)) (I0 : (Int × Spk) → Prop) (m0 : (Int × Spk) → Nat) (r0 : Spk × Int) : Prop :=
 Cl (valR6_c s)
 (br ((valS s) != 0)
 (Rf (changeR_e ((⟨0, 0, 0, [], []⟩ : Spk), valS s)) (((⟨0, 0, 0, [], []⟩ : Spk), valS s) = r0))
 (Cl (applyR_c [] changes)
 (br (((applyG [] changes).2) != 0)
 (Rf (changeR_e ((⟨0, 0, 0, [], []⟩ : Spk), (applyG [] changes).2)) (((⟨0, 0, 0, [], []⟩ : Spk), (applyG [] changes).2) = r0))
 (Rf (α := List AV) [] (Rf (α := List AV) (s.peers.map Per.v)
 (ck (decide (0 + s.peers.length ≤ 1000000))
 (Rf (α := List AV) [] (Rf (α := List AV) (s.items.map Itm.v)
 (ck (decide (0 + s.items.length ≤ 1000000))
 (Rf (s.items.map Itm.v) (Rf (s.peers.map Per.v) (Nf (changeR_n0 s changes (0, s)) [16, 288] (I0 (0, s)) ∧ ∀ t0 : Int × Spk, I0 t0 →
 br (decide (t0.1 < ((changes.map Wnt.v).length : Int)))
 (Rf (changes.map Wnt.v) (ck (decide (0 ≤ t0.1)) (ck (decide (t0.1 < (changes.length : Int)))
 (∀ x1, changes[t0.1.toNat]? = some x1 →
 Cl (findI_c t0.2.items x1.grp)
 (Cl (FSame_c (⟨(told t0.2.items x1.grp).1, (told t0.2.items x1.grp).2⟩ : Flt) (⟨x1.mode, x1.srcs⟩ : Flt))
 (br (FSame (⟨(told t0.2.items x1.grp).1, (told t0.2.items x1.grp).2⟩ : Flt) (⟨x1.mode, x1.srcs⟩ : Flt))
 (Nf (changeR_n0 s changes (W (t0.1 + 1), t0.2)) [0, 1] (I0 (W (t0.1 + 1), t0.2) ∧ m0 (W (t0.1 + 1), t0.2) < m0 t0))
 (∃ h2 : t0.2.items.length ≤ 999999,
 Cl (putR_c t0.2.items (⟨W (t0.2.last + 1), x1.grp, x1.mode, x1.srcs⟩ : Itm) h2)
 (Nf (changeR_n0 s changes (W (t0.1 + 1), (⟨t0.2.router, t0.2.epoch, W (t0.2.last + 1), put1 t0.2.items (⟨W (t0.2.last + 1), x1.grp, x1.mode, x1.srcs⟩ : Itm), t0.2.peers⟩ : Spk))) [0, 1] (I0 (W (t0.1 + 1), (⟨t0.2.router, t0.2.epoch, W (t0.2.last + 1), put1 t0.2.items (⟨W (t0.2.last + 1), x1.grp, x1.mode, x1.srcs⟩ : Itm), t0.2.peers⟩ : Spk)) ∧ m0 (W (t0.1 + 1), (⟨t0.2.router, t0.2.epoch, W (t0.2.last + 1), put1 t0.2.items (⟨W (t0.2.last + 1), x1.grp, x1.mode, x1.srcs⟩ : Itm), t0.2.peers⟩ : Spk)) < m0 t0)))))))))
 (br (decide (1000000 < t0.2.last))
 (Rf (changeR_e ((⟨0, 0, 0, [], []⟩ : Spk), 3)) (((⟨0, 0, 0, [], []⟩ : Spk), 3) = r0))
 (Rf (changeR_e (t0.2, 0)) ((t0.2, 0) = r0)))))))))))))))
theorem changeR_eq (s : Spk) (changes : (List Wnt)) (I0 : (Int × Spk) → Prop) (m0 : (Int × Spk) → Nat) (r0 : Spk × Int) : mxP Try.prog 48 [.agg [.int s.router, .int s.epoch, .int s.last, .sl 4 (s.items.map Itm.v) false, .sl 3 (s.peers.map Per.v) false], .sl 3 (changes.map Wnt.v) false] (.a [(.a [.k, .k, .k, (.s 4), (.s 3)]), .k]) changeR_e ((.callP (valR6_c s)
 (.br 128 (.ret ((⟨0, 0, 0, [], []⟩ : Spk), valS s))
 (.callP (applyR_c [] changes)
 (.br 272 (.ret ((⟨0, 0, 0, [], []⟩ : Spk), (applyG [] changes).2))
 (.app 368 Per.v [] s.peers
 (.app 464 Itm.v [] s.items
 (.cmd (.frzE 464 (s.items.map Itm.v) (pureBL_map (fun _ => rfl) s.items)) (.cmd (.frzE 368 (s.peers.map Per.v) (pureBL_map (fun _ => rfl) s.peers)) (.loop 0 (changeR_n0 s changes) (I0) (m0) ((0, s) : Int × Spk) [16, 288] fun (t0 : Int × Spk) =>
 (.br 18 (.el 18 Wnt.v changes fun x1 =>
 (.callP (findI_c t0.2.items x1.grp)
 (.callP (FSame_c (⟨(told t0.2.items x1.grp).1, (told t0.2.items x1.grp).2⟩ : Flt) (⟨x1.mode, x1.srcs⟩ : Flt))
 (.br 210 (.back 0 ((W (t0.1 + 1), t0.2) : Int × Spk) [0, 1])
 (.req 434 (t0.2.items.length ≤ 999999) fun h2 =>
 (.callP (putR_c t0.2.items (⟨W (t0.2.last + 1), x1.grp, x1.mode, x1.srcs⟩ : Itm) h2)
 (.back 0 ((W (t0.1 + 1), (⟨t0.2.router, t0.2.epoch, W (t0.2.last + 1), put1 t0.2.items (⟨W (t0.2.last + 1), x1.grp, x1.mode, x1.srcs⟩ : Itm), t0.2.peers⟩ : Spk)) : Int × Spk) [0, 1])))))))
 (.br 66 (.ret ((⟨0, 0, 0, [], []⟩ : Spk), 3))
 (.ret (t0.2, 0))))))))))))) : An Try.prog changeR_s (Spk × Int)) r0 = changeR_vc s changes I0 m0 r0 := by kernel_rfl
theorem changeR_ok (s : Spk) (changes : (List Wnt)) (I0 : (Int × Spk) → Prop) (m0 : (Int × Spk) → Nat) (r0 : Spk × Int) (h : changeR_vc s changes I0 m0 r0) : PSpec Try.prog 48 [.agg [.int s.router, .int s.epoch, .int s.last, .sl 4 (s.items.map Itm.v) false, .sl 3 (s.peers.map Per.v) false], .sl 3 (changes.map Wnt.v) false] (changeR_e r0) := by
  have e := changeR_eq s changes I0 m0 r0
  rw [← e] at h
  exact mxP_ok (enc := changeR_e) h (AV.pureB_ok rfl)
theorem changeR_p (s : Spk) (c : List Wnt) (ok : changeR_a s c) : ∃ I m, changeR_vc s c I m (change s c) := by
  refine ⟨fun t => ∃ j : Nat, t.1 = j ∧ j ≤ c.length ∧ t.2 = ⟨s.router, s.epoch, ((c.take j).foldl chg1 (s.last, s.items)).1, ((c.take j).foldl chg1 (s.last, s.items)).2, s.peers⟩, fun t => c.length - t.1.toNat, ?_⟩
  simp only [changeR_vc, vcU, rfU, List.length_map]
  have hv : valS s = if spkOk s then 0 else 1 := rfl
  rw [hv, applyG_err]
  unfold change
  by_cases h1 : spkOk s
  case neg => rw [if_neg h1, if_pos h1]; simp [spk0]
  rw [if_pos h1, if_neg (not_not_intro h1)]
  refine ⟨fun q => by simp at q, fun _ => ⟨fun h2 => ?_, fun h2 => ?_⟩⟩
  · have h2 : wErr true c ≠ 0 := by simpa using h2
    rw [if_pos h2]; rfl
  have h2 : wErr true c = 0 := by simpa using h2
  rw [if_neg (not_not_intro h2)]
  have hp := h1.2.2.2.2.1
  have hi := itms_len h1.2.2.2.1
  have hl := h1.2.2.1
  have hcl := (wErr_zero.mp h2).1
  refine ⟨by omega, by omega, ⟨0, rfl, by omega, rfl⟩, ?_⟩
  rintro ⟨_, _⟩ ⟨j, rfl, hj, rfl⟩
  obtain ⟨b1, b2, b3⟩ := chg_take_len h1 h2 j
  simp only [Int.toNat_natCast]
  refine ⟨fun h3 => ⟨by omega, by omega, fun x hx => ?_⟩, fun h3 => ?_⟩
  · rw [W_succ (n := c.length) (by omega) (by omega)]
    have e : (c.take (j + 1)).foldl chg1 (s.last, s.items) = chg1 ((c.take j).foldl chg1 (s.last, s.items)) x := by rw [take_succ hx, List.foldl_append]; rfl
    generalize (c.take j).foldl chg1 (s.last, s.items) = u at *
    refine ⟨fun q => ⟨⟨j + 1, rfl, by omega, ?_⟩, by omega⟩, fun q => ⟨by omega, ⟨j + 1, rfl, by omega, ?_⟩, by omega⟩⟩
    · rw [e, chg1, if_pos]
      have q : (told u.2 x.grp).1 = x.mode ∧ (told u.2 x.grp).2 = x.srcs := by simpa [FSame, flt_eq] using q
      rw [← q.1, ← q.2]
    · rw [e, chg1, if_neg, W_eq (by omega)]
      intro z
      have z1 := congrArg Prod.fst z
      have z2 := congrArg Prod.snd z
      simp [FSame, flt_eq] at q z1 z2
      exact q z1 z2
  · rw [List.take_of_length_le (by omega)]
    refine ⟨fun q => ?_, fun q => ?_⟩
    · rw [if_pos q]; rfl
    · rw [if_neg q]
def changeR_c (s : Spk) (changes : (List Wnt)) : PC Try.prog := ⟨48, [(.a [.k, .k, .k, (.s 4), (.s 3)]), (.s 3)], [.agg [.int s.router, .int s.epoch, .int s.last, .sl 4 (s.items.map Itm.v) false, .sl 3 (s.peers.map Per.v) false], .sl 3 (changes.map Wnt.v) false], changeR_e (change s changes), PSpec.of_ok fun ok => (changeR_p s changes ok).elim fun I0 h => h.elim fun m0 h => changeR_ok s changes I0 m0 _ h, fnB_ok (by kernel_rfl)⟩
def wantsR_a (l : (List Itm)) : Prop := okL [.sl 4 (l.map Itm.v) false]
def wantsR_n0 (l : (List Itm)) (t0 : Int × (List Wnt)) : NF := ⟨[(0, .k, .sl 4 (l.map Itm.v) false), (3, .k, .vec 0), (4, .k, .int t0.1)], [.vec 3 (t0.2.map Wnt.v) (pureBL_map (fun _ => rfl) t0.2)]⟩
def wantsR_s : Nat → Type
  | 0 => Int × (List Wnt)
  | _ => Unit
def wantsR_e (r : (List Wnt)) : AV := .sl 3 (r.map Wnt.v) false
def wantsR_vc (l : (List Itm)) (I0 : (Int × (List Wnt)) → Prop) (m0 : (Int × (List Wnt)) → Nat) (r0 : (List Wnt)) : Prop :=
 Cl (itemsR_c l 1000000)
 (br (!(itemsB l 1000000))
 (Rf (wantsR_e ([])) (([]) = r0))
 (Nf (wantsR_n0 l (1, [])) [96] (I0 (1, [])) ∧ ∀ t0 : Int × (List Wnt), I0 t0 →
 br (decide (t0.1 ≤ 99))
 (Cl (findI_c l t0.1)
 (Cl (Nothing_c )
 (Cl (FSame_c (⟨(told l t0.1).1, (told l t0.1).2⟩ : Flt) (⟨1, []⟩ : Flt))
 (br (!(FSame (⟨(told l t0.1).1, (told l t0.1).2⟩ : Flt) (⟨1, []⟩ : Flt)))
 (Rf (α := List AV) (t0.2.map Wnt.v) (Rf (α := List AV) [.agg [.int t0.1, .int ((⟨(told l t0.1).1, (told l t0.1).2⟩ : Flt).mode), .sl 1 (((⟨(told l t0.1).1, (told l t0.1).2⟩ : Flt).srcs).map AV.int) false]]
 (ck (decide (t0.2.length + 1 ≤ 1000000))
 (Nf (wantsR_n0 l (W (t0.1 + 1), t0.2 ++ [(⟨t0.1, (⟨(told l t0.1).1, (told l t0.1).2⟩ : Flt).mode, (⟨(told l t0.1).1, (told l t0.1).2⟩ : Flt).srcs⟩ : Wnt)])) [257] (I0 (W (t0.1 + 1), t0.2 ++ [(⟨t0.1, (⟨(told l t0.1).1, (told l t0.1).2⟩ : Flt).mode, (⟨(told l t0.1).1, (told l t0.1).2⟩ : Flt).srcs⟩ : Wnt)]) ∧ m0 (W (t0.1 + 1), t0.2 ++ [(⟨t0.1, (⟨(told l t0.1).1, (told l t0.1).2⟩ : Flt).mode, (⟨(told l t0.1).1, (told l t0.1).2⟩ : Flt).srcs⟩ : Wnt)]) < m0 t0)))))
 (Nf (wantsR_n0 l (W (t0.1 + 1), t0.2)) [0] (I0 (W (t0.1 + 1), t0.2) ∧ m0 (W (t0.1 + 1), t0.2) < m0 t0))))))
 (Rf (t0.2.map Wnt.v) (Rf (wantsR_e (t0.2)) ((t0.2) = r0)))))
theorem wantsR_eq (l : (List Itm)) (I0 : (Int × (List Wnt)) → Prop) (m0 : (Int × (List Wnt)) → Nat) (r0 : (List Wnt)) : mxP Try.prog 6 [.sl 4 (l.map Itm.v) false] (.s 3) wantsR_e ((.callP (itemsR_c l 1000000)
 (.br 64 (.ret ([]))
 (.cmdL (.nilT 3 3) (.loop 0 (wantsR_n0 l) (I0) (m0) ((1, []) : Int × (List Wnt)) [96] fun (t0 : Int × (List Wnt)) =>
 (.br 33 (.callP (findI_c l t0.1)
 (.callP (Nothing_c )
 (.callP (FSame_c (⟨(told l t0.1).1, (told l t0.1).2⟩ : Flt) (⟨1, []⟩ : Flt))
 (.br 177 (.app 257 Wnt.v t0.2 [(⟨t0.1, (⟨(told l t0.1).1, (told l t0.1).2⟩ : Flt).mode, (⟨(told l t0.1).1, (told l t0.1).2⟩ : Flt).srcs⟩ : Wnt)]
 (.back 0 ((W (t0.1 + 1), t0.2 ++ [(⟨t0.1, (⟨(told l t0.1).1, (told l t0.1).2⟩ : Flt).mode, (⟨(told l t0.1).1, (told l t0.1).2⟩ : Flt).srcs⟩ : Wnt)]) : Int × (List Wnt)) [257]))
 (.back 0 ((W (t0.1 + 1), t0.2) : Int × (List Wnt)) [0])))))
 (.cmdL (.frzE 0 (t0.2.map Wnt.v) (pureBL_map (fun _ => rfl) t0.2)) (.ret (t0.2)))))))) : An Try.prog wantsR_s ((List Wnt))) r0 = wantsR_vc l I0 m0 r0 := by kernel_rfl
theorem wantsR_ok (l : (List Itm)) (I0 : (Int × (List Wnt)) → Prop) (m0 : (Int × (List Wnt)) → Nat) (r0 : (List Wnt)) (h : wantsR_vc l I0 m0 r0) : PSpec Try.prog 6 [.sl 4 (l.map Itm.v) false] (wantsR_e r0) := by
  have e := wantsR_eq l I0 m0 r0
  rw [← e] at h
  exact mxP_ok (enc := wantsR_e) h (AV.pureB_ok rfl)
theorem wantsR_p (l : List Itm) (ok : wantsR_a l) : ∃ I m, wantsR_vc l I m (wantsOf l) := by
  refine ⟨fun t => ∃ k : Nat, t.1 = (k : Int) + 1 ∧ k ≤ 99 ∧ t.2 = fromF (told l) k, fun t => 100 - t.1.toNat, ?_⟩
  simp only [wantsR_vc, vcU, rfU, List.length_map]
  simp only [itemsB, Bool.not_eq_true', decide_eq_false_iff_not, Bool.not_eq_false', decide_eq_true_iff]
  refine ⟨fun h => by rw [wantsOf, if_neg h], fun h => ⟨⟨0, rfl, by omega, rfl⟩, ?_⟩⟩
  rintro ⟨_, _⟩ ⟨k, rfl, hk, rfl⟩
  have hlen := fromF_len (f := told l) k
  simp only
  have hw : (k : Int) + 1 ≤ 99 → W ((k : Int) + 1 + 1) = ((k + 1 : Nat) : Int) + 1 := fun _ => by rw [W_eq (by omega)]; omega
  refine ⟨fun h1 => ⟨fun q => ⟨by omega, ?_⟩, fun q => ?_⟩, fun h1 => ?_⟩
  · rw [hw h1]
    refine ⟨⟨k + 1, rfl, by omega, ?_⟩, by omega⟩
    rw [fromF, from1, if_neg]
    intro e
    have e1 := congrArg Prod.fst e
    have e2 := congrArg Prod.snd e
    simp only at e1 e2
    simp [FSame, flt_eq, e1, e2] at q
  · rw [hw h1]
    refine ⟨⟨k + 1, rfl, by omega, ?_⟩, by omega⟩
    have e : (told l ((k : Int) + 1)).1 = 1 ∧ (told l ((k : Int) + 1)).2 = [] := by simpa [FSame, flt_eq] using q
    rw [fromF, from1, if_pos, List.append_nil]
    exact Prod.ext e.1 e.2
  · have : k = 99 := by omega
    subst this
    rw [wantsOf, if_pos h]
def wantsR_c (l : (List Itm)) : PC Try.prog := ⟨6, [(.s 4)], [.sl 4 (l.map Itm.v) false], wantsR_e (wantsOf l), PSpec.of_ok fun ok => (wantsR_p l ok).elim fun I0 h => h.elim fun m0 h => wantsR_ok l I0 m0 _ h, fnB_ok (by kernel_rfl)⟩
/-! ### Peers, and what is heard -/
def idxP (l : List Per) (r : Int) : Int := match l.findIdx? fun p => decide (p.router = r) with
  | some i => i
  | none => -1
theorem idxP_some {l : List Per} {r : Int} {i : Nat} {x : Per} (hx : l[i]? = some x) (h : x.router = r) (hb : ∀ y ∈ l.take i, y.router ≠ r) : idxP l r = i := by
  obtain ⟨hi, hxi⟩ := List.getElem?_eq_some_iff.mp hx
  have : l.findIdx? (fun p => decide (p.router = r)) = some i := by
    rw [List.findIdx?_eq_some_iff_getElem]
    refine ⟨hi, by rw [hxi]; simpa using h, fun j hj => ?_⟩
    have := hb l[j] (List.mem_of_getElem? (i := j) (by rw [List.getElem?_take, if_pos hj, List.getElem?_eq_getElem (by omega)]))
    simpa using this
  unfold idxP; rw [this]
theorem idxP_none {l : List Per} {r : Int} (hb : ∀ y ∈ l, y.router ≠ r) : idxP l r = -1 := by
  have : l.findIdx? (fun p => decide (p.router = r)) = none := by
    rw [List.findIdx?_eq_none_iff]
    intro x hx; simpa using hb x hx
  unfold idxP; rw [this]
theorem idxP_asc {l : List Per} {r : Int} (ho : l.Pairwise fun x y => x.router < y.router) : idxP l r = if hitP l r then (posP l r : Int) else -1 := by
  by_cases h : hitP l r
  · rw [if_pos h]
    have h1 : l[posP l r]? = some (l[posP l r]'h.1) := List.getElem?_eq_getElem h.1
    have h2 : (l[posP l r]'h.1).router = r := by
      have := h.2
      rw [List.getD_eq_getElem?_getD, h1] at this
      exact this
    refine idxP_some h1 h2 fun y hy => ?_
    obtain ⟨i, hi, rfl⟩ := List.getElem_of_mem hy
    rw [List.length_take] at hi
    rw [List.getElem_take]
    have := posK_lt (key := Per.router) (l := l) (r := r) (i := i) (show i < posP l r by omega) (by omega)
    omega
  · rw [if_neg h]
    exact idxP_none fun y hy e => h ((hitP_iff ho).mpr ⟨y, hy, e⟩)
def heardO (l : Lsn) (r : Int) : Hrd × Bool := if lsnOk l ∧ hitH l.heard r then (atH l.heard r, true) else (⟨0, 0, 0, []⟩, false)
theorem wantsOf_nil : wantsOf [] = [] := by decide +kernel
end Go.Proofs.Ytglfecmdoekabaa
