/- Speakers and listeners are checked; copies. -/
import Derived.Test.YtglfecmdoekabaaG3
namespace Go.Proofs.Ytglfecmdoekabaa
open Go Go.Am
set_option linter.unusedVariables false
set_option linter.unusedSimpArgs false
def okItms (l : List Itm) : Prop := l.length ≤ 900000 ∧ ∀ x ∈ l, x.srcs.length ≤ 1000000
def itemsB (l : List Itm) (last : Int) : Bool := decide (itmsOk last l)
def seenOk (l : List Itm) (s : List Bool) : Prop := s.length = 100 ∧ ∀ g, g < 100 → s[g]? = some (decide (∃ x ∈ l, x.grp = (g : Nat)))
theorem seen_nil : seenOk [] (List.replicate 100 false) := ⟨List.length_replicate, fun g hg => by rw [List.getElem?_replicate, if_pos hg]; simp⟩
theorem seen_add {l : List Itm} {s : List Bool} (h : seenOk l s) {x : Itm} (hx : 1 ≤ x.grp ∧ x.grp ≤ 99) : seenOk (l ++ [x]) (s.set x.grp.toNat true) := by
  refine ⟨by simp [h.1], fun g hg => ?_⟩
  rw [List.getElem?_set]
  by_cases e : x.grp.toNat = g
  · rw [if_pos e, if_pos (by have := h.1; omega)]
    refine congrArg some (decide_eq_true ⟨x, by simp, by omega⟩).symm
  · rw [if_neg e, h.2 g hg]
    refine congrArg some ?_
    refine decide_eq_decide.mpr ⟨fun ⟨y, hy, hg⟩ => ⟨y, by simp [hy], hg⟩, fun ⟨y, hy, hg⟩ => ?_⟩
    rcases List.mem_append.mp hy with hy | hy
    · exact ⟨y, hy, hg⟩
    · rw [List.mem_singleton] at hy; subst hy; omega
theorem nodup_add {l : List Itm} {x : Itm} (h : (l.map Itm.grp).Nodup) (hx : ¬ ∃ y ∈ l, y.grp = x.grp) : ((l ++ [x]).map Itm.grp).Nodup := by
  rw [List.map_append, List.nodup_append]
  refine ⟨h, by simp, fun a ha b hb e => ?_⟩
  obtain ⟨y, hy, rfl⟩ := List.mem_map.mp ha
  simp at hb; subst hb
  exact hx ⟨y, hy, e⟩
def itemsB_a (l : (List Itm)) (last : Int) : Prop := okL [.sl 4 (l.map Itm.v) false, .int last]
def itemsB_n0 (l : (List Itm)) (last : Int) (t0 : Int × (List Bool)) : NF := ⟨[(0, .k, .sl 4 (l.map Itm.v) false), (1, .k, .int last), (5, .k, .ref 0 0), (8, .k, .sl 4 (l.map Itm.v) false), (9, .k, .int ((l.map Itm.v).length : Int)), (10, .k, .int t0.1)], [.arr (t0.2.map AV.bool) (pureBL_map (fun _ => rfl) t0.2)]⟩
def itemsB_s : Nat → Type
  | 0 => Int × (List Bool)
  | _ => Unit
def itemsB_e (r : Bool) : AV := .bool r
def itemsB_vc (l : (List Itm)) (last : Int) (I0 : (Int × (List Bool)) → Prop) (m0 : (Int × (List Bool)) → Nat) (r0 : Bool) : Prop :=
 Nf (itemsB_n0 l last (0, List.replicate 100 false)) [16] (I0 (0, List.replicate 100 false)) ∧ ∀ t0 : Int × (List Bool), I0 t0 →
 br (decide (t0.1 < ((l.map Itm.v).length : Int)))
 (Rf (l.map Itm.v) (ck (decide (0 ≤ t0.1)) (ck (decide (t0.1 < (l.length : Int)))
 (∀ x1, l[t0.1.toNat]? = some x1 →
 Cl (within_c x1.ver 1 last)
 (br (!(within x1.ver 1 last))
 (Rf (itemsB_e (false)) ((false) = r0))
 (Cl (within_c x1.grp 1 99)
 (br (!(within x1.grp 1 99))
 (Rf (itemsB_e (false)) ((false) = r0))
 (ck (cond (decide (0 ≤ x1.grp)) (decide (x1.grp < 100)) false)
 (Rf (t0.2.map AV.bool) (ck (decide ((0 + (x1.grp.toNat * 1)) < t0.2.length))
 (∀ x2, t0.2[(0 + (x1.grp.toNat * 1))]? = some x2 →
 br x2
 (Rf (itemsB_e (false)) ((false) = r0))
 (Cl (PVal_c (⟨x1.mode, x1.srcs⟩ : Flt))
 (br ((fltErr (⟨x1.mode, x1.srcs⟩ : Flt).mode (⟨x1.mode, x1.srcs⟩ : Flt).srcs) != 0)
 (Rf (itemsB_e (false)) ((false) = r0))
 (ck (cond (decide (0 ≤ x1.grp)) (decide (x1.grp < 100)) false)
 (Rf (t0.2.map AV.bool) (ck (decide ((0 + (x1.grp.toNat * 1)) < t0.2.length))
 (∀ y3, t0.2[(0 + (x1.grp.toNat * 1))]? = some y3 → Rf (AV.bool true)
 (Nf (itemsB_n0 l last (W (t0.1 + 1), t0.2.set (0 + (x1.grp.toNat * 1)) true)) [0] (I0 (W (t0.1 + 1), t0.2.set (0 + (x1.grp.toNat * 1)) true) ∧ m0 (W (t0.1 + 1), t0.2.set (0 + (x1.grp.toNat * 1)) true) < m0 t0)))))))))))))))))))
 (Cl (ascI_c l)
 (Rf (itemsB_e (ascB Itm.ver l)) ((ascB Itm.ver l) = r0)))
theorem itemsB_eq (l : (List Itm)) (last : Int) (I0 : (Int × (List Bool)) → Prop) (m0 : (Int × (List Bool)) → Nat) (r0 : Bool) : mxP Try.prog 36 [.sl 4 (l.map Itm.v) false, .int last] .k itemsB_e ((.loop 0 (itemsB_n0 l last) (I0) (m0) ((0, List.replicate 100 false) : Int × (List Bool)) [16] fun (t0 : Int × (List Bool)) =>
 (.br 17 (.el 17 Itm.v l fun x1 =>
 (.callP (within_c x1.ver 1 last)
 (.br 177 (.ret (false))
 (.callP (within_c x1.grp 1 99)
 (.br 273 (.ret (false))
 (.el 321 AV.bool t0.2 fun x2 =>
 (.br 369 (.ret (false))
 (.callP (PVal_c (⟨x1.mode, x1.srcs⟩ : Flt))
 (.br 449 (.ret (false))
 (.st 497 AV.bool t0.2 (fun _ => true) fun y3 =>
 (.back 0 ((W (t0.1 + 1), t0.2.set (0 + (x1.grp.toNat * 1)) true) : Int × (List Bool)) [0])))))))))))
 (.callP (ascI_c l)
 (.ret (ascB Itm.ver l))))) : An Try.prog itemsB_s (Bool)) r0 = itemsB_vc l last I0 m0 r0 := by kernel_rfl
theorem itemsB_ok (l : (List Itm)) (last : Int) (I0 : (Int × (List Bool)) → Prop) (m0 : (Int × (List Bool)) → Nat) (r0 : Bool) (h : itemsB_vc l last I0 m0 r0) : PSpec Try.prog 36 [.sl 4 (l.map Itm.v) false, .int last] (itemsB_e r0) := by
  have e := itemsB_eq l last I0 m0 r0
  rw [← e] at h
  exact mxP_ok (enc := itemsB_e) h (AV.pureB_ok rfl)
theorem itemsB_p (l : List Itm) (last : Int) (ok : itemsB_a l last) : ∃ I m, itemsB_vc l last I m (itemsB l last) := by
  simp only [itemsB_a, okU, Blk.ok, plainV, List.length_map] at ok
  refine ⟨fun t => ∃ k : Nat, t.1 = k ∧ k ≤ l.length ∧ seenOk (l.take k) t.2 ∧ (∀ x ∈ l.take k, itmOk last x) ∧ ((l.take k).map Itm.grp).Nodup, fun t => l.length - t.1.toNat, ?_⟩
  simp only [itemsB_vc, vcU, rfU, List.length_map]
  refine ⟨⟨0, rfl, by omega, seen_nil, by simp, by simp⟩, ?_⟩
  rintro ⟨_, s⟩ ⟨k, rfl, hk, hs, hi, hn⟩
  simp only [Int.toNat_natCast, Nat.zero_add, Nat.mul_one] at hs ⊢
  refine ⟨fun h1 => ⟨by omega, by omega, fun x hx => ?_⟩, fun h1 => ?_⟩
  · have hm := mem_of_get hx
    have bad : ¬ itmOk last x → false = itemsB l last := fun h => (decide_eq_false fun e => h (e.1 x hm)).symm
    refine ⟨fun e => bad fun e' => ?_, fun e1 => ⟨fun e => bad fun e' => ?_, fun e2 => ?_⟩⟩
    · simp [within] at e; have := e'.1; omega
    · simp [within] at e; have := e'.2.1; omega
    have hv : 1 ≤ x.ver ∧ x.ver ≤ last := by simpa [within] using e1
    have hg : 1 ≤ x.grp ∧ x.grp ≤ 99 := by simpa [within] using e2
    have hg2 : (bif decide (0 ≤ x.grp) then decide (x.grp < 100) else false) = true := by simp; omega
    have hsl := hs.1
    refine ⟨hg2, by omega, fun b hb => ?_⟩
    rw [hs.2 _ (by omega)] at hb
    have hb := Option.some.inj hb
    have hex : (∃ y ∈ l.take k, y.grp = ((x.grp.toNat : Nat) : Int)) ↔ ∃ y ∈ l.take k, y.grp = x.grp := by rw [show ((x.grp.toNat : Nat) : Int) = x.grp by omega]
    refine ⟨fun e3 => ?_, fun e3 => ⟨fun e => bad fun e' => ?_, fun e4 => ⟨hg2, by omega, fun y hy => ?_⟩⟩⟩
    · rw [e3] at hb
      obtain ⟨y, hy, hyx⟩ := hex.mp (of_decide_eq_true hb)
      refine (decide_eq_false fun e => ?_).symm
      obtain ⟨j, hj, rfl⟩ := List.mem_take_iff_getElem.mp hy
      have := pw_get (R := fun a b => a ≠ b) e.2.1 (i := j) (j := k) (by omega) (by rw [List.getElem?_map, List.getElem?_eq_getElem (by omega)]; rfl) (by rw [List.getElem?_map, hx]; rfl)
      exact this hyx
    · have := e'.2.2; simp [this] at e
    · have hf : fltErr x.mode x.srcs = 0 := by simpa using e4
      rw [e3] at hb
      have hne := fun h => of_decide_eq_false hb (hex.mpr h)
      rw [W_succ (n := l.length) (by omega) (by omega)]
      refine ⟨⟨k + 1, rfl, by omega, ?_, ?_, ?_⟩, by omega⟩
      · rw [take_succ hx]; exact seen_add hs hg
      · rw [take_succ hx]
        intro z hz
        rcases List.mem_append.mp hz with hz | hz
        · exact hi z hz
        · rw [List.mem_singleton] at hz; subst hz; exact ⟨hv, hg, hf⟩
      · rw [take_succ hx]; exact nodup_add hn hne
  · rw [List.take_of_length_le (by omega)] at hi hn
    simp only [ascB, itemsB, itmsOk]
    exact decide_eq_decide.mpr ⟨fun h => ⟨hi, hn, h⟩, fun h => h.2.2⟩
def itemsB_c (l : (List Itm)) (last : Int) : PC Try.prog := ⟨36, [(.s 4), .k], [.sl 4 (l.map Itm.v) false, .int last], itemsB_e (itemsB l last), PSpec.of_ok fun ok => (itemsB_p l last ok).elim fun I0 h => h.elim fun m0 h => itemsB_ok l last I0 m0 _ h, fnB_ok (by kernel_rfl)⟩
def valS (s : Spk) : Int := errIf (spkOk s)
def valL (l : Lsn) : Int := errIf (lsnOk l)
theorem errIf_no {p : Prop} [Decidable p] (h : ¬ p) : (1 : Int) = errIf p := by rw [errIf, if_neg h]
theorem codeE_iff {p q : Prop} [Decidable p] [Decidable q] (h : p ↔ q) : codeE (decide p) = errIf q := by
  by_cases hp : p
  · simp [codeE, errIf, hp, h.mp hp]
  · have hq : ¬ q := fun hq => hp (h.mpr hq)
    simp [codeE, errIf, hp, hq]
def valS_a (s : Spk) : Prop := okL [.agg [.int s.router, .int s.epoch, .int s.last, .sl 4 (s.items.map Itm.v) false, .sl 3 (s.peers.map Per.v) false]]
def valS_n0 (s : Spk) (t0 : Int) : NF := ⟨[(1, .k, .ref 0 0), (36, .k, .sl 3 (s.peers.map Per.v) false), (37, .k, .int ((s.peers.map Per.v).length : Int)), (38, .k, .int t0)], [.box (.agg [.int s.router, .int s.epoch, .int s.last, .sl 4 (s.items.map Itm.v) false, .sl 3 (s.peers.map Per.v) false])]⟩
def valS_s : Nat → Type
  | 0 => Int
  | _ => Unit
def valS_e (r : Int) : AV := .int r
def valS_vc (s : Spk) (I0 : Int → Prop) (m0 : Int → Nat) (r0 : Int) : Prop :=
 Cl (within_c s.router 1 99)
 (br (!(within s.router 1 99))
 (Rf (valS_e (1)) ((1) = r0))
 (Cl (within_c s.epoch 1 1000000)
 (br (!(within s.epoch 1 1000000))
 (Rf (valS_e (1)) ((1) = r0))
 (Cl (within_c s.last 0 1000000)
 (br (!(within s.last 0 1000000))
 (Rf (valS_e (1)) ((1) = r0))
 (Cl (itemsB_c s.items s.last)
 (br (!(itemsB s.items s.last))
 (Rf (valS_e (1)) ((1) = r0))
 (br (decide (12 < ((s.peers.map Per.v).length : Int)))
 (Rf (valS_e (1)) ((1) = r0))
 (Nf (valS_n0 s (0)) [0] (I0 (0)) ∧ ∀ t0 : Int, I0 t0 →
 br (decide (t0 < ((s.peers.map Per.v).length : Int)))
 (Rf (s.peers.map Per.v) (ck (decide (0 ≤ t0)) (ck (decide (t0 < (s.peers.length : Int)))
 (∀ x1, s.peers[t0.toNat]? = some x1 →
 Cl (within_c x1.router 1 99)
 (br (!(within x1.router 1 99))
 (Rf (valS_e (1)) ((1) = r0))
 (br (x1.router == s.router)
 (Rf (valS_e (1)) ((1) = r0))
 (Cl (within_c x1.epoch 0 1000000)
 (br (!(within x1.epoch 0 1000000))
 (Rf (valS_e (1)) ((1) = r0))
 (Cl (within_c x1.acked 0 s.last)
 (br (!(within x1.acked 0 s.last))
 (Rf (valS_e (1)) ((1) = r0))
 (Nf (valS_n0 s (W (t0 + 1))) [0] (I0 (W (t0 + 1)) ∧ m0 (W (t0 + 1)) < m0 t0))))))))))))
 (Cl (ascP_c s.peers)
 (Cl (codeE_c (ascB Per.router s.peers))
 (Rf (valS_e (codeE (ascB Per.router s.peers))) ((codeE (ascB Per.router s.peers)) = r0)))))))))))))
theorem valS_eq (s : Spk) (I0 : Int → Prop) (m0 : Int → Nat) (r0 : Int) : mxP Try.prog 13 [.agg [.int s.router, .int s.epoch, .int s.last, .sl 4 (s.items.map Itm.v) false, .sl 3 (s.peers.map Per.v) false]] .k valS_e ((.callP (within_c s.router 1 99)
 (.br 112 (.ret (1))
 (.callP (within_c s.epoch 1 1000000)
 (.br 208 (.ret (1))
 (.callP (within_c s.last 0 1000000)
 (.br 304 (.ret (1))
 (.callP (itemsB_c s.items s.last)
 (.br 432 (.ret (1))
 (.br 512 (.ret (1))
 (.loop 0 (valS_n0 s) (I0) (m0) ((0) : Int) [0] fun (t0 : Int) =>
 (.br 17 (.el 17 Per.v s.peers fun x1 =>
 (.callP (within_c x1.router 1 99)
 (.br 161 (.ret (1))
 (.br 273 (.ret (1))
 (.callP (within_c x1.epoch 0 1000000)
 (.br 369 (.ret (1))
 (.callP (within_c x1.acked 0 s.last)
 (.br 481 (.ret (1))
 (.back 0 ((W (t0 + 1)) : Int) [0])))))))))
 (.callP (ascP_c s.peers)
 (.callP (codeE_c (ascB Per.router s.peers))
 (.ret (codeE (ascB Per.router s.peers)))))))))))))))) : An Try.prog valS_s (Int)) r0 = valS_vc s I0 m0 r0 := by kernel_rfl
theorem valS_ok (s : Spk) (I0 : Int → Prop) (m0 : Int → Nat) (r0 : Int) (h : valS_vc s I0 m0 r0) : PSpec Try.prog 13 [.agg [.int s.router, .int s.epoch, .int s.last, .sl 4 (s.items.map Itm.v) false, .sl 3 (s.peers.map Per.v) false]] (valS_e r0) := by
  have e := valS_eq s I0 m0 r0
  rw [← e] at h
  exact mxP_ok (enc := valS_e) h (AV.pureB_ok rfl)
theorem valS_p (s : Spk) (ok : valS_a s) : ∃ I m, valS_vc s I m (valS s) := by
  simp only [valS_a, okU, Blk.ok, plainV, List.length_map] at ok
  refine ⟨fun t => ∃ k : Nat, t = k ∧ k ≤ s.peers.length ∧ ∀ p ∈ s.peers.take k, perOk s.router s.last p, fun t => s.peers.length - t.toNat, ?_⟩
  simp only [valS_vc, vcU, rfU, List.length_map]
  have bad : ¬ spkOk s → 1 = valS s := errIf_no
  refine ⟨fun e => bad fun h => ?_, fun e1 => ⟨fun e => bad fun h => ?_, fun e2 => ⟨fun e => bad fun h => ?_, fun e3 => ⟨fun e => bad fun h => ?_, fun e4 => ⟨fun e => bad fun h => ?_, fun e5 => ?_⟩⟩⟩⟩⟩
  · have := h.1; simp [within] at e; omega
  · have := h.2.1; simp [within] at e; omega
  · have := h.2.2.1; simp [within] at e; omega
  · have := h.2.2.2.1; simp [itemsB, this] at e
  · have := h.2.2.2.2.1; omega
  have e1 : 1 ≤ s.router ∧ s.router ≤ 99 := by simpa [within] using e1
  have e2 : 1 ≤ s.epoch ∧ s.epoch ≤ 1000000 := by simpa [within] using e2
  have e3 : 0 ≤ s.last ∧ s.last ≤ 1000000 := by simpa [within] using e3
  have e4 : itmsOk s.last s.items := by simpa [itemsB] using e4
  refine ⟨⟨0, rfl, by omega, by simp⟩, ?_⟩
  rintro _ ⟨k, rfl, hk, hp⟩
  simp only [Int.toNat_natCast]
  refine ⟨fun h1 => ⟨by omega, by omega, fun x hx => ?_⟩, fun h1 => ?_⟩
  · have bad : ¬ perOk s.router s.last x → 1 = valS s := fun h => bad fun e => h (e.2.2.2.2.2.1 x (mem_of_get hx))
    refine ⟨fun e => bad fun h => ?_, fun p1 => ⟨fun e => bad fun h => ?_, fun p2 => ⟨fun e => bad fun h => ?_, fun p3 => ⟨fun e => bad fun h => ?_, fun p4 => ?_⟩⟩⟩⟩
    · have := h.1; simp [within] at e; omega
    · have := h.2.1; simp at e; omega
    · have := h.2.2.1; simp [within] at e; omega
    · have := h.2.2.2; simp [within] at e; omega
    rw [W_succ (n := s.peers.length) (by omega) (by omega)]
    refine ⟨⟨k + 1, rfl, by omega, ?_⟩, by omega⟩
    rw [take_succ hx]
    intro z hz
    rcases List.mem_append.mp hz with hz | hz
    · exact hp z hz
    · rw [List.mem_singleton] at hz; subst hz
      exact ⟨by simpa [within] using p1, by simpa using p2, by simpa [within] using p3, by simpa [within] using p4⟩
  · rw [List.take_of_length_le (by omega)] at hp
    exact codeE_iff ⟨fun h => ⟨e1, e2, e3, e4, by omega, hp, h⟩, fun h => h.2.2.2.2.2.2⟩
def valS_c (s : Spk) : PC Try.prog := ⟨13, [(.a [.k, .k, .k, (.s 4), (.s 3)])], [.agg [.int s.router, .int s.epoch, .int s.last, .sl 4 (s.items.map Itm.v) false, .sl 3 (s.peers.map Per.v) false]], valS_e (valS s), PSpec.of_ok fun ok => (valS_p s ok).elim fun I0 h => h.elim fun m0 h => valS_ok s I0 m0 _ h, fnB_ok (by kernel_rfl)⟩
/-! ### Copies -/
def filtered (f : Flt) : Flt := f
def filtered_a (f : Flt) : Prop := okL [.agg [.int f.mode, .sl 1 (f.srcs.map AV.int) false]]
def filtered_s : Nat → Type
  | _ => Unit
def filtered_e (r : Flt) : AV := Flt.v r
def filtered_vc (f : Flt) (r0 : Flt) : Prop :=
 ∃ h1 : f.srcs.length ≤ 1000000,
 Cl (cloneI_c f.srcs h1)
 (Rf (filtered_e (f)) ((f) = r0))
theorem filtered_eq (f : Flt) (r0 : Flt) : mxP Try.prog 35 [.agg [.int f.mode, .sl 1 (f.srcs.map AV.int) false]] (.a [.k, (.s 1)]) filtered_e ((.req 64 (f.srcs.length ≤ 1000000) fun h1 =>
 (.callP (cloneI_c f.srcs h1)
 (.ret (f)))) : An Try.prog filtered_s (Flt)) r0 = filtered_vc f r0 := by kernel_rfl
theorem filtered_ok (f : Flt) (r0 : Flt) (h : filtered_vc f r0) : PSpec Try.prog 35 [.agg [.int f.mode, .sl 1 (f.srcs.map AV.int) false]] (filtered_e r0) := by
  have e := filtered_eq f r0
  rw [← e] at h
  exact mxP_ok (enc := filtered_e) h (AV.pureB_ok rfl)
theorem filtered_p (f : Flt) (h : f.srcs.length ≤ 1000000) (ok : filtered_a f) : filtered_vc f f := by
  simp only [filtered_vc, vcU, rfU, List.length_map]
  exact ⟨h, trivial⟩
def filtered_c (f : Flt) (h : f.srcs.length ≤ 1000000) : PC Try.prog := ⟨35, [(.a [.k, (.s 1)])], [.agg [.int f.mode, .sl 1 (f.srcs.map AV.int) false]], filtered_e f, PSpec.of_ok fun ok => filtered_ok f _ (filtered_p f h ok), fnB_ok (by kernel_rfl)⟩
def copied_a (l : (List Itm)) (without : Int) : Prop := okL [.sl 4 (l.map Itm.v) false, .int without]
def copied_n0 (l : (List Itm)) (without : Int) (t0 : Int × (List Itm)) : NF := ⟨[(1, .k, .int without), (5, .k, .vec 0), (8, .k, .sl 4 (l.map Itm.v) false), (9, .k, .int ((l.map Itm.v).length : Int)), (10, .k, .int t0.1)], [.vec 4 (t0.2.map Itm.v) (pureBL_map (fun _ => rfl) t0.2)]⟩
def copied_s : Nat → Type
  | 0 => Int × (List Itm)
  | _ => Unit
def copied_e (r : (List Itm)) : AV := .vec 0
def copied_b (r : (List Itm)) : List (Option Blk) := [some (.vec 4 (r.map Itm.v))]
def copied_vc (l : (List Itm)) (without : Int) (I0 : (Int × (List Itm)) → Prop) (m0 : (Int × (List Itm)) → Nat) (r0 : (List Itm)) : Prop :=
 Nf (copied_n0 l without (0, [])) [80] (I0 (0, [])) ∧ ∀ t0 : Int × (List Itm), I0 t0 →
 br (decide (t0.1 < ((l.map Itm.v).length : Int)))
 (Rf (l.map Itm.v) (ck (decide (0 ≤ t0.1)) (ck (decide (t0.1 < (l.length : Int)))
 (∀ x1, l[t0.1.toNat]? = some x1 →
 br (x1.grp != without)
 (∃ h2 : (⟨x1.mode, x1.srcs⟩ : Flt).srcs.length ≤ 1000000,
 Cl (filtered_c (⟨x1.mode, x1.srcs⟩ : Flt) h2)
 (Rf (α := List AV) (t0.2.map Itm.v) (Rf (α := List AV) [.agg [.int x1.ver, .int x1.grp, .int x1.mode, .sl 1 (x1.srcs.map AV.int) false]]
 (ck (decide (t0.2.length + 1 ≤ 1000000))
 (Nf (copied_n0 l without (W (t0.1 + 1), t0.2 ++ [x1])) [273] (I0 (W (t0.1 + 1), t0.2 ++ [x1]) ∧ m0 (W (t0.1 + 1), t0.2 ++ [x1]) < m0 t0))))))
 (Nf (copied_n0 l without (W (t0.1 + 1), t0.2)) [0] (I0 (W (t0.1 + 1), t0.2) ∧ m0 (W (t0.1 + 1), t0.2) < m0 t0))))))
 (Nf ⟨[(4, .k, .vec 0)], [.vec 4 (t0.2.map Itm.v) (pureBL_map (fun _ => rfl) t0.2)]⟩ [0] (Rf (copied_e t0.2) (Rf (copied_b t0.2) (t0.2 = r0))))
theorem copied_eq (l : (List Itm)) (without : Int) (I0 : (Int × (List Itm)) → Prop) (m0 : (Int × (List Itm)) → Nat) (r0 : (List Itm)) : mxH Try.prog 31 [.sl 4 (l.map Itm.v) false, .int without] [] .k copied_e copied_b ((.cmdL (.nilT 5 4) (.loop 0 (copied_n0 l without) (I0) (m0) ((0, []) : Int × (List Itm)) [80] fun (t0 : Int × (List Itm)) =>
 (.br 17 (.el 17 Itm.v l fun x1 =>
 (.br 145 (.req 177 ((⟨x1.mode, x1.srcs⟩ : Flt).srcs.length ≤ 1000000) fun h2 =>
 (.callP (filtered_c (⟨x1.mode, x1.srcs⟩ : Flt) h2)
 (.app 273 Itm.v t0.2 [x1]
 (.back 0 ((W (t0.1 + 1), t0.2 ++ [x1]) : Int × (List Itm)) [273]))))
 (.back 0 ((W (t0.1 + 1), t0.2) : Int × (List Itm)) [0])))
 (.retH t0.2 ⟨[(4, .k, .vec 0)], [.vec 4 (t0.2.map Itm.v) (pureBL_map (fun _ => rfl) t0.2)]⟩ [0])))) : An Try.prog copied_s ((List Itm))) r0 = copied_vc l without I0 m0 r0 := by kernel_rfl
theorem copied_ok (l : (List Itm)) (without : Int) (I0 : (Int × (List Itm)) → Prop) (m0 : (Int × (List Itm)) → Nat) (r0 : (List Itm)) (h : copied_vc l without I0 m0 r0) : HSpec Try.prog 31 [.sl 4 (l.map Itm.v) false, .int without] [] (copied_e r0) (copied_b r0) := by
  have e := copied_eq l without I0 m0 r0
  rw [← e] at h
  exact mxH_ok (enc := copied_e) (hB := copied_b) h
theorem copied_p (l : List Itm) (wo : Int) (h : okItms l) (ok : copied_a l wo) : ∃ I m, copied_vc l wo I m (without wo l) := by
  obtain ⟨h1, h2⟩ := h
  refine ⟨fun t => ∃ k : Nat, t = ((k : Int), without wo (l.take k)) ∧ k ≤ l.length, fun t => l.length - t.1.toNat, ?_⟩
  simp only [copied_vc, vcU, rfU, List.length_map]
  refine ⟨⟨0, by simp [without], by omega⟩, ?_⟩
  rintro _ ⟨k, rfl, hk⟩
  simp only [Int.toNat_natCast]
  refine ⟨fun h3 => ⟨by omega, by omega, fun x hx => ?_⟩, fun h3 => ?_⟩
  · have hl : (without wo (l.take k)).length ≤ 900000 := Nat.le_trans (List.length_filter_le _ _) (by simp; omega)
    rw [W_succ (n := l.length) (by omega) (by omega)]
    refine ⟨fun e => ⟨h2 x (mem_of_get hx), by omega, ⟨k + 1, ?_, by omega⟩, by omega⟩, fun e => ⟨⟨k + 1, ?_, by omega⟩, by omega⟩⟩
    · rw [take_succ hx]; simp at e; simp [without, e]
    · rw [take_succ hx]; simp at e; simp [without, e]
  · rw [List.take_of_length_le (by omega)]
def copied_h (l : (List Itm)) (without : Int) (h : okItms l) : HC Try.prog := ⟨31, [(.s 4), .k], [.sl 4 (l.map Itm.v) false, .int without], [], copied_e (Go.Proofs.Ytglfecmdoekabaa.without without l), copied_b (Go.Proofs.Ytglfecmdoekabaa.without without l), HSpec.of_okh fun ok _ => (copied_p l without h ok).elim fun I0 h => h.elim fun m0 h => copied_ok l without I0 m0 _ h, fnB_ok (by kernel_rfl), HcOk.of (by simp [hcB, belBL, AV.belB, allB, okBk, okBkO, copied_e, copied_b, pureBL_map (v := Itm.v) (fun _ => rfl)])⟩
def fresh (p : List Int) : List Per := p.map fun x => ⟨x, 0, 0⟩
def fresh_a (routers : (List Int)) : Prop := okL [.sl 1 (routers.map AV.int) false]
def fresh_n0 (routers : (List Int)) (t0 : Int × (List Per)) : NF := ⟨[(3, .k, .vec 0), (6, .k, .sl 1 (routers.map AV.int) false), (7, .k, .int ((routers.map AV.int).length : Int)), (8, .k, .int t0.1)], [.vec 3 (t0.2.map Per.v) (pureBL_map (fun _ => rfl) t0.2)]⟩
def fresh_s : Nat → Type
  | 0 => Int × (List Per)
  | _ => Unit
def fresh_e (r : (List Per)) : AV := .vec 0
def fresh_b (r : (List Per)) : List (Option Blk) := [some (.vec 3 (r.map Per.v))]
def fresh_vc (routers : (List Int)) (I0 : (Int × (List Per)) → Prop) (m0 : (Int × (List Per)) → Nat) (r0 : (List Per)) : Prop :=
 Nf (fresh_n0 routers (0, [])) [80] (I0 (0, [])) ∧ ∀ t0 : Int × (List Per), I0 t0 →
 br (decide (t0.1 < ((routers.map AV.int).length : Int)))
 (Rf (routers.map AV.int) (ck (decide (0 ≤ t0.1)) (ck (decide (t0.1 < (routers.length : Int)))
 (∀ x1, routers[t0.1.toNat]? = some x1 →
 Rf (α := List AV) (t0.2.map Per.v) (Rf (α := List AV) [.agg [.int x1, .int 0, .int 0]]
 (ck (decide (t0.2.length + 1 ≤ 1000000))
 (Nf (fresh_n0 routers (W (t0.1 + 1), t0.2 ++ [(⟨x1, 0, 0⟩ : Per)])) [129] (I0 (W (t0.1 + 1), t0.2 ++ [(⟨x1, 0, 0⟩ : Per)]) ∧ m0 (W (t0.1 + 1), t0.2 ++ [(⟨x1, 0, 0⟩ : Per)]) < m0 t0))))))))
 (Nf ⟨[(2, .k, .vec 0)], [.vec 3 (t0.2.map Per.v) (pureBL_map (fun _ => rfl) t0.2)]⟩ [0] (Rf (fresh_e t0.2) (Rf (fresh_b t0.2) (t0.2 = r0))))
theorem fresh_eq (routers : (List Int)) (I0 : (Int × (List Per)) → Prop) (m0 : (Int × (List Per)) → Nat) (r0 : (List Per)) : mxH Try.prog 56 [.sl 1 (routers.map AV.int) false] [] .k fresh_e fresh_b ((.cmdL (.nilT 3 3) (.loop 0 (fresh_n0 routers) (I0) (m0) ((0, []) : Int × (List Per)) [80] fun (t0 : Int × (List Per)) =>
 (.br 17 (.el 17 AV.int routers fun x1 =>
 (.app 129 Per.v t0.2 [(⟨x1, 0, 0⟩ : Per)]
 (.back 0 ((W (t0.1 + 1), t0.2 ++ [(⟨x1, 0, 0⟩ : Per)]) : Int × (List Per)) [129])))
 (.retH t0.2 ⟨[(2, .k, .vec 0)], [.vec 3 (t0.2.map Per.v) (pureBL_map (fun _ => rfl) t0.2)]⟩ [0])))) : An Try.prog fresh_s ((List Per))) r0 = fresh_vc routers I0 m0 r0 := by kernel_rfl
theorem fresh_ok (routers : (List Int)) (I0 : (Int × (List Per)) → Prop) (m0 : (Int × (List Per)) → Nat) (r0 : (List Per)) (h : fresh_vc routers I0 m0 r0) : HSpec Try.prog 56 [.sl 1 (routers.map AV.int) false] [] (fresh_e r0) (fresh_b r0) := by
  have e := fresh_eq routers I0 m0 r0
  rw [← e] at h
  exact mxH_ok (enc := fresh_e) (hB := fresh_b) h
theorem fresh_p (p : List Int) (h : p.length ≤ 1000000) (ok : fresh_a p) : ∃ I m, fresh_vc p I m (fresh p) := by
  refine ⟨fun t => ∃ k : Nat, t = ((k : Int), fresh (p.take k)) ∧ k ≤ p.length, fun t => p.length - t.1.toNat, ?_⟩
  simp only [fresh_vc, vcU, rfU, List.length_map]
  refine ⟨⟨0, by simp [fresh], by omega⟩, ?_⟩
  rintro _ ⟨k, rfl, hk⟩
  simp only [Int.toNat_natCast]
  refine ⟨fun h3 => ⟨by omega, by omega, fun x hx => ?_⟩, fun h3 => ?_⟩
  · rw [W_succ (n := p.length) (by omega) (by omega)]
    refine ⟨by simp [fresh]; omega, ⟨k + 1, ?_, by omega⟩, by omega⟩
    rw [take_succ hx]; simp [fresh]
  · rw [List.take_of_length_le (by omega)]
def fresh_h (routers : (List Int)) (h : routers.length ≤ 1000000) : HC Try.prog := ⟨56, [(.s 1)], [.sl 1 (routers.map AV.int) false], [], fresh_e (fresh routers), fresh_b (fresh routers), HSpec.of_okh fun ok _ => (fresh_p routers h ok).elim fun I0 h => h.elim fun m0 h => fresh_ok routers I0 m0 _ h, fnB_ok (by kernel_rfl), HcOk.of (by simp [hcB, belBL, AV.belB, allB, okBk, okBkO, fresh_e, fresh_b, pureBL_map (v := AV.int) (fun _ => rfl), pureBL_map (v := Per.v) (fun _ => rfl)])⟩
def cloneP_a (s : (List Per)) : Prop := okL [.sl 3 (s.map Per.v) false]
def cloneP_s : Nat → Type
  | _ => Unit
def cloneP_e (r : (List Per)) : AV := .vec 0
def cloneP_b (r : (List Per)) : List (Option Blk) := [some (.vec 3 (r.map Per.v))]
def cloneP_vc (s : (List Per)) (r0 : (List Per)) : Prop :=
 ∀ b1 : Bool, ((s.map Per.v) ≠ [] → b1 = false) →
 br (b1 != false)
 (Nf ⟨[(2, .k, .vec 0)], [.vec 3 [] rfl]⟩ [64] (Rf (cloneP_e []) (Rf (cloneP_b []) ([] = r0))))
 (Rf (α := List AV) [] (Rf (α := List AV) (s.map Per.v)
 (ck (decide (0 + s.length ≤ 1000000))
 (Nf ⟨[(2, .k, .vec 0)], [.vec 3 (s.map Per.v) (pureBL_map (fun _ => rfl) s)]⟩ [80] (Rf (cloneP_e s) (Rf (cloneP_b s) (s = r0)))))))
theorem cloneP_eq (s : (List Per)) (r0 : (List Per)) : mxH Try.prog 32 [.sl 3 (s.map Per.v) false] [] .k cloneP_e cloneP_b ((.br 48 (.cmdL (.nilT 2 3) (.retH [] ⟨[(2, .k, .vec 0)], [.vec 3 [] rfl]⟩ [64]))
 (.app 80 Per.v [] s
 (.retH s ⟨[(2, .k, .vec 0)], [.vec 3 (s.map Per.v) (pureBL_map (fun _ => rfl) s)]⟩ [80]))) : An Try.prog cloneP_s ((List Per))) r0 = cloneP_vc s r0 := by kernel_rfl
theorem cloneP_ok (s : (List Per)) (r0 : (List Per)) (h : cloneP_vc s r0) : HSpec Try.prog 32 [.sl 3 (s.map Per.v) false] [] (cloneP_e r0) (cloneP_b r0) := by
  have e := cloneP_eq s r0
  rw [← e] at h
  exact mxH_ok (enc := cloneP_e) (hB := cloneP_b) h
theorem cloneP_p (s : List Per) (h : s.length ≤ 1000000) (ok : cloneP_a s) : cloneP_vc s s := by
  simp only [cloneP_vc, vcU, rfU, List.length_map]
  intro b hb
  refine ⟨fun h1 => ?_, fun _ => by first | omega | exact ⟨by omega, trivial⟩ | (trace_state; simpa using h)⟩
  cases s with
  | nil => rfl
  | cons x s => simp at hb; simp [hb] at h1
def cloneP_h (s : (List Per)) (h : s.length ≤ 1000000) : HC Try.prog := ⟨32, [(.s 3)], [.sl 3 (s.map Per.v) false], [], cloneP_e s, cloneP_b s, HSpec.of_okh fun ok _ => cloneP_ok s _ (cloneP_p s h ok), fnB_ok (by kernel_rfl), HcOk.of (by simp [hcB, belBL, AV.belB, allB, okBk, okBkO, cloneP_e, cloneP_b, pureBL_map (v := Per.v) (fun _ => rfl)])⟩
def toldF (l : List Itm) (g : Int) : Flt := ⟨(told l g).1, (told l g).2⟩
theorem find_at {α : Type} {p : α → Bool} {l : List α} {k : Nat} {x : α} (h : ∀ y ∈ l.take k, p y = false) (hx : l[k]? = some x) (hp : p x = true) : l.find? p = some x := by
  rw [List.find?_eq_some_iff_getElem]
  have hk := lt_of_get hx
  rw [List.getElem?_eq_getElem hk] at hx
  refine ⟨hp, k, hk, Option.some.inj hx, fun j hj => ?_⟩
  rw [h _ (List.mem_take_iff_getElem.mpr ⟨j, by omega, rfl⟩)]; rfl
def toldF_a (l : (List Itm)) (group : Int) : Prop := okL [.sl 4 (l.map Itm.v) false, .int group]
def toldF_n0 (l : (List Itm)) (group : Int) (t0 : Int) : NF := ⟨[(1, .k, .int group), (4, .k, .ref 0 0), (7, .k, .sl 4 (l.map Itm.v) false), (8, .k, .int ((l.map Itm.v).length : Int)), (9, .k, .int t0)], [.box (.agg [.int 0, .sl 0 [] true])]⟩
def toldF_s : Nat → Type
  | 0 => Int
  | _ => Unit
def toldF_e (r : Flt) : AV := Flt.v r
def toldF_vc (l : (List Itm)) (group : Int) (I0 : Int → Prop) (m0 : Int → Nat) (r0 : Flt) : Prop :=
 Nf (toldF_n0 l group (0)) [0] (I0 (0)) ∧ ∀ t0 : Int, I0 t0 →
 br (decide (t0 < ((l.map Itm.v).length : Int)))
 (Rf (l.map Itm.v) (ck (decide (0 ≤ t0)) (ck (decide (t0 < (l.length : Int)))
 (∀ x1, l[t0.toNat]? = some x1 →
 br (x1.grp == group)
 (Rf (toldF_e ((⟨x1.mode, x1.srcs⟩ : Flt))) (((⟨x1.mode, x1.srcs⟩ : Flt)) = r0))
 (Nf (toldF_n0 l group (W (t0 + 1))) [0] (I0 (W (t0 + 1)) ∧ m0 (W (t0 + 1)) < m0 t0))))))
 (Rf (toldF_e ((⟨1, []⟩ : Flt))) (((⟨1, []⟩ : Flt)) = r0))
theorem toldF_eq (l : (List Itm)) (group : Int) (I0 : Int → Prop) (m0 : Int → Nat) (r0 : Flt) : mxP Try.prog 34 [.sl 4 (l.map Itm.v) false, .int group] (.a [.k, (.s 1)]) toldF_e ((.loop 0 (toldF_n0 l group) (I0) (m0) ((0) : Int) [0] fun (t0 : Int) =>
 (.br 17 (.el 17 Itm.v l fun x1 =>
 (.br 145 (.ret ((⟨x1.mode, x1.srcs⟩ : Flt)))
 (.back 0 ((W (t0 + 1)) : Int) [0])))
 (.ret ((⟨1, []⟩ : Flt))))) : An Try.prog toldF_s (Flt)) r0 = toldF_vc l group I0 m0 r0 := by kernel_rfl
theorem toldF_ok (l : (List Itm)) (group : Int) (I0 : Int → Prop) (m0 : Int → Nat) (r0 : Flt) (h : toldF_vc l group I0 m0 r0) : PSpec Try.prog 34 [.sl 4 (l.map Itm.v) false, .int group] (toldF_e r0) := by
  have e := toldF_eq l group I0 m0 r0
  rw [← e] at h
  exact mxP_ok (enc := toldF_e) h (AV.pureB_ok rfl)
theorem toldF_p (l : List Itm) (g : Int) (ok : toldF_a l g) : ∃ I m, toldF_vc l g I m (toldF l g) := by
  simp only [toldF_a, okU, Blk.ok, plainV, List.length_map] at ok
  refine ⟨fun t => ∃ k : Nat, t = k ∧ k ≤ l.length ∧ ∀ x ∈ l.take k, decide (x.grp = g) = false, fun t => l.length - t.toNat, ?_⟩
  simp only [toldF_vc, vcU, rfU, List.length_map]
  refine ⟨⟨0, rfl, by omega, by simp⟩, ?_⟩
  rintro _ ⟨k, rfl, hk, h⟩
  simp only [Int.toNat_natCast]
  have h : ∀ x ∈ l.take k, decide (x.grp = g) = false := fun x hx => decide_eq_false (h x hx)
  refine ⟨fun h1 => ⟨by omega, by omega, fun x hx => ⟨fun e => ?_, fun e => ?_⟩⟩, fun h1 => ?_⟩
  · rw [toldF, told, find_at h hx (by simpa using e)]
  · rw [W_succ (n := l.length) (by omega) (by omega)]
    refine ⟨⟨k + 1, rfl, by omega, ?_⟩, by omega⟩
    rw [take_succ hx]
    intro z hz
    rcases List.mem_append.mp hz with hz | hz
    · simpa using h z hz
    · rw [List.mem_singleton] at hz; subst hz; simpa using e
  · rw [List.take_of_length_le (by omega)] at h
    rw [toldF, told, List.find?_eq_none.mpr fun x hx => by rw [h x hx]; simp]
def toldF_c (l : (List Itm)) (group : Int) : PC Try.prog := ⟨34, [(.s 4), .k], [.sl 4 (l.map Itm.v) false, .int group], toldF_e (toldF l group), PSpec.of_ok fun ok => (toldF_p l group ok).elim fun I0 h => h.elim fun m0 h => toldF_ok l group I0 m0 _ h, fnB_ok (by kernel_rfl)⟩
end Go.Proofs.Ytglfecmdoekabaa
