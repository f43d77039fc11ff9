/- Agreement. -/
import Derived.Test.YtglfecmdoekabaaGreatDoorG7
namespace Go.Proofs.YtglfecmdoekabaaGreatDoor
open Go Go.Am
set_option linter.unusedVariables false
set_option linter.unusedSimpArgs false
theorem Itm.eq_iff {x y : Itm} : x = y ↔ x.ver = y.ver ∧ x.grp = y.grp ∧ x.mode = y.mode ∧ x.srcs = y.srcs := by
  cases x; cases y; simp
def agreeI_a (x : Itm) (y : Itm) : Prop := okL [.agg [.int x.ver, .int x.grp, .int x.mode, .sl 1 (x.srcs.map AV.int) false], .agg [.int y.ver, .int y.grp, .int y.mode, .sl 1 (y.srcs.map AV.int) false]]
def agreeI_s : Nat → Type
  | _ => Unit
def agreeI_e (r : Bool) : AV := .bool r
def agreeI_vc (x : Itm) (y : Itm) (r0 : Bool) : Prop :=
 br (x.ver == y.ver)
 (br (x.grp == y.grp)
 (Cl (PSame_c (⟨x.mode, x.srcs⟩ : Flt) (⟨y.mode, y.srcs⟩ : Flt))
 (Rf (agreeI_e (PSame (⟨x.mode, x.srcs⟩ : Flt) (⟨y.mode, y.srcs⟩ : Flt))) ((PSame (⟨x.mode, x.srcs⟩ : Flt) (⟨y.mode, y.srcs⟩ : Flt)) = r0)))
 (Rf (agreeI_e (false)) ((false) = r0)))
 (Rf (agreeI_e (false)) ((false) = r0))
theorem agreeI_eq (x : Itm) (y : Itm) (r0 : Bool) : mxP Tryz.prog 85 [.agg [.int x.ver, .int x.grp, .int x.mode, .sl 1 (x.srcs.map AV.int) false], .agg [.int y.ver, .int y.grp, .int y.mode, .sl 1 (y.srcs.map AV.int) false]] .k agreeI_e ((.br 144 (.br 256 (.callP (PSame_c (⟨x.mode, x.srcs⟩ : Flt) (⟨y.mode, y.srcs⟩ : Flt))
 (.ret (PSame (⟨x.mode, x.srcs⟩ : Flt) (⟨y.mode, y.srcs⟩ : Flt))))
 (.ret (false)))
 (.ret (false))) : An Tryz.prog agreeI_s (Bool)) r0 = agreeI_vc x y r0 := by kernel_rfl
theorem agreeI_ok (x : Itm) (y : Itm) (r0 : Bool) (h : agreeI_vc x y r0) : PSpec Tryz.prog 85 [.agg [.int x.ver, .int x.grp, .int x.mode, .sl 1 (x.srcs.map AV.int) false], .agg [.int y.ver, .int y.grp, .int y.mode, .sl 1 (y.srcs.map AV.int) false]] (agreeI_e r0) := by
  have e := agreeI_eq x y r0
  rw [← e] at h
  exact mxP_ok (enc := agreeI_e) h (AV.pureB_ok rfl)
theorem agreeI_p (x y : Itm) (ok : agreeI_a x y) : agreeI_vc x y (decide (x = y)) := by
  simp only [agreeI_vc, vcU, rfU, List.length_map]
  refine ⟨fun e => ⟨fun e2 => ?_, fun e2 => (decide_eq_false fun h => ?_).symm⟩, fun e => (decide_eq_false fun h => ?_).symm⟩
  · have e : x.ver = y.ver := by simpa using e
    have e2 : x.grp = y.grp := by simpa using e2
    show decide ((⟨x.mode, x.srcs⟩ : Flt) = ⟨y.mode, y.srcs⟩) = _
    exact decide_eq_decide.mpr (by rw [flt_eq, Itm.eq_iff]; exact ⟨fun h => ⟨e, e2, h⟩, fun h => h.2.2⟩)
  · subst h; simp at e2
  · subst h; simp at e
def agreeI_c (x : Itm) (y : Itm) : PC Tryz.prog := ⟨85, [(.a [.k, .k, .k, (.s 1)]), (.a [.k, .k, .k, (.s 1)])], [.agg [.int x.ver, .int x.grp, .int x.mode, .sl 1 (x.srcs.map AV.int) false], .agg [.int y.ver, .int y.grp, .int y.mode, .sl 1 (y.srcs.map AV.int) false]], agreeI_e (decide (x = y)), PSpec.of_ok fun ok => agreeI_ok x y _ (agreeI_p x y ok), fnB_ok (by kernel_rfl)⟩
def eqF_a (s1 : (List Itm)) (s2 : (List Itm)) : Prop := okL [.sl 4 (s1.map Itm.v) false, .sl 4 (s2.map Itm.v) false, .func 85 []]
def eqF_n0 (s1 : (List Itm)) (s2 : (List Itm)) (t0 : Int) : NF := ⟨[(1, .k, .sl 4 (s2.map Itm.v) false), (2, .k, .func 85 []), (15, .k, .sl 4 (s1.map Itm.v) false), (16, .k, .int ((s1.map Itm.v).length : Int)), (17, .k, .int t0)], []⟩
def eqF_s : Nat → Type
  | 0 => Int
  | _ => Unit
def eqF_e (r : Bool) : AV := .bool r
def eqF_vc (s1 : (List Itm)) (s2 : (List Itm)) (I0 : Int → Prop) (m0 : Int → Nat) (r0 : Bool) : Prop :=
 br (((s1.map Itm.v).length : Int) != ((s2.map Itm.v).length : Int))
 (Rf (eqF_e (false)) ((false) = r0))
 (Nf (eqF_n0 s1 s2 (0)) [] (I0 (0)) ∧ ∀ t0 : Int, I0 t0 →
 br (decide (t0 < ((s1.map Itm.v).length : Int)))
 (Rf (s1.map Itm.v) (ck (decide (0 ≤ t0)) (ck (decide (t0 < (s1.length : Int)))
 (∀ x1, s1[t0.toNat]? = some x1 →
 Rf (s2.map Itm.v) (ck (decide (0 ≤ t0)) (ck (decide (t0 < (s2.length : Int)))
 (∀ x2, s2[t0.toNat]? = some x2 →
 Cl (agreeI_c x1 x2)
 (br (!(decide (x1 = x2)))
 (Rf (eqF_e (false)) ((false) = r0))
 (Nf (eqF_n0 s1 s2 (W (t0 + 1))) [] (I0 (W (t0 + 1)) ∧ m0 (W (t0 + 1)) < m0 t0))))))))))
 (Rf (eqF_e (true)) ((true) = r0)))
theorem eqF_eq (s1 : (List Itm)) (s2 : (List Itm)) (I0 : Int → Prop) (m0 : Int → Nat) (r0 : Bool) : mxP Tryz.prog 84 [.sl 4 (s1.map Itm.v) false, .sl 4 (s2.map Itm.v) false, .func 85 []] .k eqF_e ((.br 96 (.ret (false))
 (.loop 0 (eqF_n0 s1 s2) (I0) (m0) ((0) : Int) [] fun (t0 : Int) =>
 (.br 16 (.el 32 Itm.v s1 fun x1 =>
 (.el 144 Itm.v s2 fun x2 =>
 (.callP (agreeI_c x1 x2)
 (.br 288 (.ret (false))
 (.back 0 ((W (t0 + 1)) : Int) [])))))
 (.ret (true))))) : An Tryz.prog eqF_s (Bool)) r0 = eqF_vc s1 s2 I0 m0 r0 := by kernel_rfl
theorem eqF_ok (s1 : (List Itm)) (s2 : (List Itm)) (I0 : Int → Prop) (m0 : Int → Nat) (r0 : Bool) (h : eqF_vc s1 s2 I0 m0 r0) : PSpec Tryz.prog 84 [.sl 4 (s1.map Itm.v) false, .sl 4 (s2.map Itm.v) false, .func 85 []] (eqF_e r0) := by
  have e := eqF_eq s1 s2 I0 m0 r0
  rw [← e] at h
  exact mxP_ok (enc := eqF_e) h (AV.pureB_ok rfl)
theorem eqF_p (a b : List Itm) (ok : eqF_a a b) : ∃ I m, eqF_vc a b I m (decide (a = b)) := by
  simp only [eqF_a, okU, Blk.ok, plainV, List.length_map] at ok
  refine ⟨fun t => ∃ k : Nat, t = k ∧ k ≤ a.length ∧ a.take k = b.take k, fun t => a.length - t.toNat, ?_⟩
  simp only [eqF_vc, vcU, rfU, List.length_map]
  refine ⟨fun e => (decide_eq_false fun h => by subst h; simp at e).symm, fun e => ⟨⟨0, rfl, by omega, rfl⟩, ?_⟩⟩
  have e : a.length = b.length := by simp at e; omega
  rintro _ ⟨k, rfl, hk, h⟩
  simp only [Int.toNat_natCast]
  refine ⟨fun h1 => ⟨by omega, by omega, fun x hx => ⟨by omega, by omega, fun y hy => ⟨fun e2 => ?_, fun e2 => ?_⟩⟩⟩, fun h1 => ?_⟩
  · refine (decide_eq_false fun hh => ?_).symm
    subst hh
    cases hx.symm.trans hy
    simp at e2
  · have e2 : x = y := by simpa using e2
    subst e2
    rw [W_succ (n := a.length) (by omega) (by omega)]
    exact ⟨⟨k + 1, rfl, by omega, by rw [take_succ hx, take_succ hy, h]⟩, by omega⟩
  · rw [List.take_of_length_le (by omega), List.take_of_length_le (by omega)] at h
    exact (decide_eq_true h).symm
def eqF_c (s1 : (List Itm)) (s2 : (List Itm)) : PC Tryz.prog := ⟨84, [(.s 4), (.s 4), .k], [.sl 4 (s1.map Itm.v) false, .sl 4 (s2.map Itm.v) false, .func 85 []], eqF_e (decide (s1 = s2)), PSpec.of_ok fun ok => (eqF_p s1 s2 ok).elim fun I0 h => h.elim fun m0 h => eqF_ok s1 s2 I0 m0 _ h, fnB_ok (by kernel_rfl)⟩
def agreeF_a (s : Spk) (l : Lsn) : Prop := okL [.agg [.int s.router, .int s.epoch, .int s.last, .sl 4 (s.items.map Itm.v) false, .sl 3 (s.peers.map Per.v) false], .agg [.int l.router, .int l.epoch, .sl 4 (l.heard.map Hrd.v) false]]
def agreeF_s : Nat → Type
  | _ => Unit
def agreeF_e (r : Bool) : AV := .bool r
def agreeF_vc (s : Spk) (l : Lsn) (r0 : Bool) : Prop :=
 Cl (valS_c s)
 (br ((valS s) != 0)
 (Rf (agreeF_e (false)) ((false) = r0))
 (Cl (valL_c l)
 (br ((valL l) != 0)
 (Rf (agreeF_e (false)) ((false) = r0))
 (∃ h1 : l.heard.Pairwise fun x y => x.router < y.router,
 ∃ h2 : l.heard.length ≤ 1000000,
 Cl (heard_c l s.router h1 h2)
 (br (decide (hitH l.heard s.router))
 (Rf (l.heard.map Hrd.v) (ck (decide (0 ≤ (posH l.heard s.router : Int))) (ck (decide ((posH l.heard s.router : Int) < (l.heard.length : Int)))
 (∀ x3, l.heard[(posH l.heard s.router : Int).toNat]? = some x3 →
 br (x3.epoch == s.epoch)
 (Rf (l.heard.map Hrd.v) (ck (decide (0 ≤ (posH l.heard s.router : Int))) (ck (decide ((posH l.heard s.router : Int) < (l.heard.length : Int)))
 (∀ x4, l.heard[(posH l.heard s.router : Int).toNat]? = some x4 →
 br (x4.ver == s.last)
 (Rf (l.heard.map Hrd.v) (ck (decide (0 ≤ (posH l.heard s.router : Int))) (ck (decide ((posH l.heard s.router : Int) < (l.heard.length : Int)))
 (∀ x5, l.heard[(posH l.heard s.router : Int).toNat]? = some x5 →
 Cl (eqF_c x5.items s.items)
 (Rf (agreeF_e (decide (x5.items = s.items))) ((decide (x5.items = s.items)) = r0))))))
 (Rf (agreeF_e (false)) ((false) = r0))))))
 (Rf (agreeF_e (false)) ((false) = r0))))))
 (Rf (agreeF_e (false)) ((false) = r0)))))))
theorem agreeF_eq (s : Spk) (l : Lsn) (r0 : Bool) : mxP Tryz.prog 23 [.agg [.int s.router, .int s.epoch, .int s.last, .sl 4 (s.items.map Itm.v) false, .sl 3 (s.peers.map Per.v) false], .agg [.int l.router, .int l.epoch, .sl 4 (l.heard.map Hrd.v) false]] .k agreeF_e ((.callP (valS_c s)
 (.br 112 (.ret (false))
 (.callP (valL_c l)
 (.br 176 (.ret (false))
 (.req 224 (l.heard.Pairwise fun x y => x.router < y.router) fun h1 =>
 (.req 224 (l.heard.length ≤ 1000000) fun h2 =>
 (.callP (heard_c l s.router h1 h2)
 (.br 352 (.el 400 Hrd.v l.heard fun x3 =>
 (.br 528 (.el 576 Hrd.v l.heard fun x4 =>
 (.br 704 (.el 752 Hrd.v l.heard fun x5 =>
 (.callP (eqF_c x5.items s.items)
 (.ret (decide (x5.items = s.items)))))
 (.ret (false))))
 (.ret (false))))
 (.ret (false)))))))))) : An Tryz.prog agreeF_s (Bool)) r0 = agreeF_vc s l r0 := by kernel_rfl
theorem agreeF_ok (s : Spk) (l : Lsn) (r0 : Bool) (h : agreeF_vc s l r0) : PSpec Tryz.prog 23 [.agg [.int s.router, .int s.epoch, .int s.last, .sl 4 (s.items.map Itm.v) false, .sl 3 (s.peers.map Per.v) false], .agg [.int l.router, .int l.epoch, .sl 4 (l.heard.map Hrd.v) false]] (agreeF_e r0) := by
  have e := agreeF_eq s l r0
  rw [← e] at h
  exact mxP_ok (enc := agreeF_e) h (AV.pureB_ok rfl)
theorem agreeF_p (s : Spk) (l : Lsn) (ok : agreeF_a s l) : agreeF_vc s l (decide (agree s l)) := by
  simp only [agreeF_vc, vcU, rfU, List.length_map]
  refine ⟨fun e => (decide_eq_false fun h => valS_t.mp e h.1).symm, fun e1 => ⟨fun e => (decide_eq_false fun h => valL_t.mp e h.2.1).symm, fun e2 => ?_⟩⟩
  have e1 := valS_f.mp e1
  have e2 := valL_f.mp e2
  refine ⟨e2.2.2.2.2, by have := e2.2.2.1; omega, fun h => ?_, fun h => (decide_eq_false fun h' => h h'.2.2.1).symm⟩
  have hi := h.1
  simp only [Int.toNat_natCast]
  refine ⟨by omega, by omega, fun x hx => ?_⟩
  have ha : atH l.heard s.router = x := getD_some hx
  refine ⟨fun e3 => ⟨by omega, by omega, fun y hy => ?_⟩, fun e3 => (decide_eq_false fun h' => ?_).symm⟩
  · cases hx.symm.trans hy
    refine ⟨fun e4 => ⟨by omega, by omega, fun z hz => ?_⟩, fun e4 => (decide_eq_false fun h' => ?_).symm⟩
    · cases hx.symm.trans hz
      refine decide_eq_decide.mpr ⟨fun q => ⟨e1, e2, h, ?_, ?_, ?_⟩, fun q => ?_⟩
      · rw [ha]; simpa using e3
      · rw [ha]; simpa using e4
      · rw [ha]; exact q
      · have := q.2.2.2.2.2; rw [ha] at this; exact this
    · have := h'.2.2.2.2.1; rw [ha] at this; simp [this] at e4
  · have := h'.2.2.2.1; rw [ha] at this; simp [this] at e3
def agree_c (s : Spk) (l : Lsn) : PC Tryz.prog := ⟨23, [(.a [.k, .k, .k, (.s 4), (.s 3)]), (.a [.k, .k, (.s 4)])], [.agg [.int s.router, .int s.epoch, .int s.last, .sl 4 (s.items.map Itm.v) false, .sl 3 (s.peers.map Per.v) false], .agg [.int l.router, .int l.epoch, .sl 4 (l.heard.map Hrd.v) false]], agreeF_e (decide (agree s l)), PSpec.of_ok fun ok => agreeF_ok s l _ (agreeF_p s l ok), fnB_ok (by kernel_rfl)⟩
end Go.Proofs.YtglfecmdoekabaaGreatDoor
