/- The reference of sessions: checks, changes, restarts. -/
import Derived.Test.YtglfecmdoekabaaG16
namespace Go.Proofs.Ytglfecmdoekabaa
open Go Go.Am
set_option linter.unusedVariables false
set_option linter.unusedSimpArgs false
def inR (x lo hi : Int) : Bool := decide (lo ≤ x ∧ x ≤ hi)
def inR_a (x : Int) (lo : Int) (hi : Int) : Prop := okL [.int x, .int lo, .int hi]
def inR_s : Nat → Type
  | _ => Unit
def inR_e (r : Bool) : AV := .bool r
def inR_vc (x : Int) (lo : Int) (hi : Int) (r0 : Bool) : Prop :=
 br (decide (lo ≤ x))
 (Rf (inR_e (decide (x ≤ hi))) ((decide (x ≤ hi)) = r0))
 (Rf (inR_e (false)) ((false) = r0))
theorem inR_eq (x : Int) (lo : Int) (hi : Int) (r0 : Bool) : mxP Try.prog 51 [.int x, .int lo, .int hi] .k inR_e ((.br 80 (.ret (decide (x ≤ hi)))
 (.ret (false))) : An Try.prog inR_s (Bool)) r0 = inR_vc x lo hi r0 := by kernel_rfl
theorem inR_ok (x : Int) (lo : Int) (hi : Int) (r0 : Bool) (h : inR_vc x lo hi r0) : PSpec Try.prog 51 [.int x, .int lo, .int hi] (inR_e r0) := by
  have e := inR_eq x lo hi r0
  rw [← e] at h
  exact mxP_ok (enc := inR_e) h (AV.pureB_ok rfl)
theorem inR_p (x lo hi : Int) (ok : inR_a x lo hi) : inR_vc x lo hi (inR x lo hi) := by
  simp only [inR_vc, vcU, rfU, List.length_map]
  refine ⟨fun h => decide_eq_decide.mpr ⟨fun q => ⟨h, q⟩, fun q => q.2⟩, fun h => (decide_eq_false fun q => h q.1).symm⟩
def inR_c (x : Int) (lo : Int) (hi : Int) : PC Try.prog := ⟨51, [.k, .k, .k], [.int x, .int lo, .int hi], inR_e (inR x lo hi), PSpec.of_ok fun ok => inR_ok x lo hi _ (inR_p x lo hi ok), fnB_ok (by kernel_rfl)⟩
/-! ### Beginnings of ascending lists -/
theorem asc_take {α : Type} (key : α → Int) {l : List α} {k : Nat} {x y : α} (hx : l[k]? = some x) (h0 : 0 < k) (hy : l[k - 1]? = some y) :
    (l.take (k + 1)).Pairwise (fun a b => key a < key b) ↔ (l.take k).Pairwise (fun a b => key a < key b) ∧ key y < key x := by
  rw [take_succ hx, List.pairwise_append]
  have hm : y ∈ l.take k := by
    have : (l.take k)[k - 1]? = some y := by rw [List.getElem?_take, if_pos (by omega)]; exact hy
    exact List.mem_of_getElem? this
  constructor
  · rintro ⟨h1, _, h3⟩
    exact ⟨h1, h3 y hm x (by simp)⟩
  · rintro ⟨h1, h2⟩
    refine ⟨h1, List.pairwise_singleton _ _, fun a ha b hb => ?_⟩
    rw [List.mem_singleton] at hb; subst hb
    obtain ⟨i, hi, rfl⟩ := List.getElem_of_mem ha
    rw [List.length_take] at hi
    rw [List.getElem_take]
    obtain ⟨hk, hyk⟩ := List.getElem?_eq_some_iff.mp hy
    rcases Nat.lt_or_ge i (k - 1) with e | e
    · have := List.pairwise_iff_getElem.mp h1 i (k - 1) (by rw [List.length_take]; omega) (by rw [List.length_take]; omega) e
      rw [List.getElem_take, List.getElem_take, hyk] at this
      omega
    · have : i = k - 1 := by omega
      subst this
      rw [hyk]; exact h2
theorem asc_first {α : Type} (key : α → Int) {l : List α} {x : α} (hx : l[0]? = some x) : (l.take 1).Pairwise (fun a b => key a < key b) := by
  rw [take_succ hx]; simp
theorem mem_take_succ {α : Type} {l : List α} {k : Nat} {x : α} (hx : l[k]? = some x) {P : α → Prop} : (∀ y ∈ l.take (k + 1), P y) ↔ (∀ y ∈ l.take k, P y) ∧ P x := by
  rw [take_succ hx]
  constructor
  · intro h; exact ⟨fun y hy => h y (List.mem_append_left _ hy), h x (by simp)⟩
  · rintro ⟨h1, h2⟩ y hy
    rcases List.mem_append.mp hy with hy | hy
    · exact h1 y hy
    · rw [List.mem_singleton] at hy; subst hy; exact h2
theorem W_pred' {k : Nat} (h : k ≤ 9223372036854775807) : W ((k : Int) - 1) = (k : Int) - 1 := W_eq (by omega)
/-! ### Items -/
theorem itmsOk.take {n : Int} {l : List Itm} (h : itmsOk n l) (k : Nat) : itmsOk n (l.take k) :=
  ⟨fun x hx => h.1 x (List.mem_of_mem_take hx), by rw [List.map_take]; exact h.2.1.sublist (List.take_sublist _ _), h.2.2.sublist (List.take_sublist _ _)⟩
theorem itmsOk_succ {n : Int} {l : List Itm} {k : Nat} {x : Itm} (hx : l[k]? = some x) : itmsOk n (l.take (k + 1)) ↔ itmsOk n (l.take k) ∧ itmOk n x ∧ (∀ y ∈ l.take k, y.grp ≠ x.grp) ∧ (0 < k → ∀ y, l[k - 1]? = some y → y.ver < x.ver) := by
  have hn : ((l.take (k + 1)).map Itm.grp).Nodup ↔ ((l.take k).map Itm.grp).Nodup ∧ ∀ y ∈ l.take k, y.grp ≠ x.grp := by
    rw [take_succ hx, List.map_append, List.nodup_append]
    simp only [List.map_cons, List.map_nil, List.mem_singleton, List.mem_map, List.nodup_cons, List.not_mem_nil, not_false_eq_true, List.nodup_nil, and_self, true_and]
    constructor
    · rintro ⟨h1, h2⟩
      exact ⟨h1, fun y hy => h2 _ ⟨y, hy, rfl⟩ _ rfl⟩
    · rintro ⟨h1, h2⟩
      refine ⟨h1, ?_⟩
      rintro _ ⟨y, hy, rfl⟩ _ rfl
      exact h2 y hy
  unfold itmsOk
  rw [mem_take_succ hx, hn]
  cases k with
  | zero =>
    have : (l.take 1).Pairwise fun x y => x.ver < y.ver := asc_first Itm.ver hx
    simp [this]
  | succ k =>
    obtain ⟨y, hy⟩ : ∃ y, l[k]? = some y := ⟨_, List.getElem?_eq_getElem (by have := lt_of_get hx; omega)⟩
    rw [asc_take Itm.ver hx (by omega) (by simpa using hy)]
    simp only [Nat.add_sub_cancel, hy, Option.some.injEq, Nat.zero_lt_succ, forall_const, forall_eq']
    constructor
    · rintro ⟨⟨a, b⟩, ⟨c, d⟩, e, f⟩; exact ⟨⟨a, c, e⟩, b, d, f⟩
    · rintro ⟨⟨a, c, e⟩, b, d, f⟩; exact ⟨⟨a, b⟩, ⟨c, d⟩, e, f⟩
def itemsR_a (l : (List Itm)) (last : Int) : Prop := okL [.sl 4 (l.map Itm.v) false, .int last]
def itemsR_n0 (l : (List Itm)) (last : Int) (t0 : Int) : NF := ⟨[(0, .k, .sl 4 (l.map Itm.v) false), (1, .k, .int last), (8, .k, .sl 4 (l.map Itm.v) false), (9, .k, .int ((l.map Itm.v).length : Int)), (10, .k, .int t0)], []⟩
def itemsR_n1 (l : (List Itm)) (last : Int) (t0 : Int) (x1 : Itm) (t1 : Bool) : NF := ⟨[(0, .k, .sl 4 (l.map Itm.v) false), (1, .k, .int last), (5, .k, .int t0), (6, .k, .ref 0 0), (8, .k, .sl 4 (l.map Itm.v) false), (9, .k, .int ((l.map Itm.v).length : Int)), (10, .k, .int t0), (46, .k, .bool t1)], [.box (.agg [.int x1.ver, .int x1.grp, .int x1.mode, .sl 1 (x1.srcs.map AV.int) false])]⟩
def itemsR_n2 (l : (List Itm)) (last : Int) (t0 : Int) (x1 : Itm) (t1 : Bool) (t2 : Int) : NF := ⟨[(0, .k, .sl 4 (l.map Itm.v) false), (1, .k, .int last), (5, .k, .int t0), (6, .k, .ref 0 0), (7, .k, .int t2), (8, .k, .sl 4 (l.map Itm.v) false), (9, .k, .int ((l.map Itm.v).length : Int)), (10, .k, .int t0)], [.box (.agg [.int x1.ver, .int x1.grp, .int x1.mode, .sl 1 (x1.srcs.map AV.int) false])]⟩
def itemsR_s : Nat → Type
  | 0 => Int
  | 1 => Bool
  | 2 => Int
  | _ => Unit
def itemsR_e (r : Bool) : AV := .bool r
def itemsR_vc (l : (List Itm)) (last : Int) (I0 : Int → Prop) (m0 : Int → Nat) (I1 : Int → Itm → Bool → Prop) (I2 : Int → Itm → Bool → Int → Prop) (m2 : Int → Itm → Bool → Int → Nat) (r0 : Bool) : Prop :=
 Nf (itemsR_n0 l last (0)) [] (I0 (0)) ∧ ∀ t0 : Int, I0 t0 →
 br (decide (t0 < ((l.map Itm.v).length : Int)))
 (Rf (l.map Itm.v) (ck (decide (0 ≤ t0)) (ck (decide (t0 < (l.length : Int)))
 (∀ x1, l[t0.toNat]? = some x1 →
 (Cl (inR_c x1.ver 1 last)
 (br (!(inR x1.ver 1 last))
 (Nf (itemsR_n1 l last t0 x1 (true)) [64] (I1 t0 x1 ((true) : Bool)))
 (Cl (inR_c x1.grp 1 99)
 (br (!(inR x1.grp 1 99))
 (Nf (itemsR_n1 l last t0 x1 (true)) [64] (I1 t0 x1 ((true) : Bool)))
 (Cl (FVal_c (⟨x1.mode, x1.srcs⟩ : Flt))
 (br ((fltErr (⟨x1.mode, x1.srcs⟩ : Flt).mode (⟨x1.mode, x1.srcs⟩ : Flt).srcs) != 0)
 (Nf (itemsR_n1 l last t0 x1 (true)) [64] (I1 t0 x1 ((true) : Bool)))
 (br (decide (0 < t0))
 (Rf (l.map Itm.v) (ck (decide (0 ≤ (W (t0 - 1)))) (ck (decide ((W (t0 - 1)) < (l.length : Int)))
 (∀ x2, l[(W (t0 - 1)).toNat]? = some x2 →
 Nf (itemsR_n1 l last t0 x1 (decide (x1.ver ≤ x2.ver))) [64] (I1 t0 x1 ((decide (x1.ver ≤ x2.ver)) : Bool))))))
 (Nf (itemsR_n1 l last t0 x1 (false)) [64] (I1 t0 x1 ((false) : Bool)))))))))) ∧ ∀ t1 : Bool, I1 t0 x1 t1 →
 br t1
 (Rf (itemsR_e (false)) ((false) = r0))
 (Nf (itemsR_n2 l last t0 x1 t1 (0)) [0] (I2 t0 x1 t1 (0)) ∧ ∀ t2 : Int, I2 t0 x1 t1 t2 →
 br (decide (t2 < t0))
 (Rf (l.map Itm.v) (ck (decide (0 ≤ t2)) (ck (decide (t2 < (l.length : Int)))
 (∀ x3, l[t2.toNat]? = some x3 →
 br (x3.grp == x1.grp)
 (Rf (itemsR_e (false)) ((false) = r0))
 (Nf (itemsR_n2 l last t0 x1 t1 (W (t2 + 1))) [0] (I2 t0 x1 t1 (W (t2 + 1)) ∧ m2 t0 x1 t1 (W (t2 + 1)) < m2 t0 x1 t1 t2))))))
 (Nf (itemsR_n0 l last (W (t0 + 1))) [] (I0 (W (t0 + 1)) ∧ m0 (W (t0 + 1)) < m0 t0)))))))
 (Rf (itemsR_e (true)) ((true) = r0))
theorem itemsR_eq (l : (List Itm)) (last : Int) (I0 : Int → Prop) (m0 : Int → Nat) (I1 : Int → Itm → Bool → Prop) (I2 : Int → Itm → Bool → Int → Prop) (m2 : Int → Itm → Bool → Int → Nat) (r0 : Bool) : mxP Try.prog 21 [.sl 4 (l.map Itm.v) false, .int last] .k itemsR_e ((.loop 0 (itemsR_n0 l last) (I0) (m0) ((0) : Int) [] fun (t0 : Int) =>
 (.br 16 (.el 32 Itm.v l fun x1 =>
 (.pass (.join 1 (itemsR_n1 l last t0 x1) (fun t1 => I1 t0 x1 t1) (.callP (inR_c x1.ver 1 last)
 (.br 208 (.back 1 ((true) : Bool) [64])
 (.callP (inR_c x1.grp 1 99)
 (.br 304 (.back 1 ((true) : Bool) [64])
 (.callP (FVal_c (⟨x1.mode, x1.srcs⟩ : Flt))
 (.br 400 (.back 1 ((true) : Bool) [64])
 (.br 448 (.el 496 Itm.v l fun x2 =>
 (.back 1 ((decide (x1.ver ≤ x2.ver)) : Bool) [64]))
 (.back 1 ((false) : Bool) [64])))))))) fun (t1 : Bool) =>
 (.br 1 (.ret (false))
 (.loop 2 (itemsR_n2 l last t0 x1 t1) (I2 t0 x1 t1) (m2 t0 x1 t1) ((0) : Int) [0] fun (t2 : Int) =>
 (.br 49 (.el 81 Itm.v l fun x3 =>
 (.br 177 (.ret (false))
 (.back 2 ((W (t2 + 1)) : Int) [0])))
 (.back 0 ((W (t0 + 1)) : Int) [])))))))
 (.ret (true)))) : An Try.prog itemsR_s (Bool)) r0 = itemsR_vc l last I0 m0 I1 I2 m2 r0 := by kernel_rfl
theorem itemsR_ok (l : (List Itm)) (last : Int) (I0 : Int → Prop) (m0 : Int → Nat) (I1 : Int → Itm → Bool → Prop) (I2 : Int → Itm → Bool → Int → Prop) (m2 : Int → Itm → Bool → Int → Nat) (r0 : Bool) (h : itemsR_vc l last I0 m0 I1 I2 m2 r0) : PSpec Try.prog 21 [.sl 4 (l.map Itm.v) false, .int last] (itemsR_e r0) := by
  have e := itemsR_eq l last I0 m0 I1 I2 m2 r0
  rw [← e] at h
  exact mxP_ok (enc := itemsR_e) h (AV.pureB_ok rfl)
theorem itemsR_p (l : List Itm) (last : Int) (ok : itemsR_a l last) : ∃ I0 m0 I1 I2 m2, itemsR_vc l last I0 m0 I1 I2 m2 (itemsB l last) := by
  simp only [itemsR_a, okU, Blk.ok, plainV, List.length_map] at ok
  refine ⟨fun t => ∃ k : Nat, t = k ∧ k ≤ l.length ∧ itmsOk last (l.take k), fun t => l.length - t.toNat,
    fun t x b => b = false ↔ itmOk last x ∧ (0 < t.toNat → ∀ y, l[t.toNat - 1]? = some y → y.ver < x.ver),
    fun t x b t2 => ∃ j : Nat, t2 = j ∧ j ≤ t.toNat ∧ ∀ y ∈ l.take j, y.grp ≠ x.grp, fun t x b t2 => t.toNat - t2.toNat, ?_⟩
  simp only [itemsR_vc, vcU, rfU, List.length_map]
  have hle : l.length ≤ 9223372036854775807 := ok.1.1
  refine ⟨⟨0, rfl, by omega, by simp [itmsOk]⟩, ?_⟩
  rintro _ ⟨k, rfl, hk, hI⟩
  simp only [Int.toNat_natCast]
  refine ⟨fun h1 => ⟨by omega, by omega, fun x hx => ⟨?_, ?_⟩⟩, fun h1 => ?_⟩
  · simp only [inR, Bool.not_eq_true', decide_eq_false_iff_not, Bool.not_eq_false', decide_eq_true_iff]
    have no : ∀ {q : Prop}, ¬ q → ((itmOk last x → q) → (true = false ↔ itmOk last x ∧ (0 < k → ∀ y, l[k - 1]? = some y → y.ver < x.ver))) := fun hq hi => ⟨fun e => Bool.noConfusion e, fun e => absurd (hi e.1) hq⟩
    refine ⟨fun h2 => no h2 fun q => q.1, fun h2 => ⟨fun h3 => no h3 fun q => q.2.1, fun h3 => ⟨fun h4 => no (q := fltErr x.mode x.srcs = 0) (by simpa using h4) fun q => q.2.2, fun h4 => ⟨fun h5 => ?_, fun h5 => ?_⟩⟩⟩⟩
    · rw [W_pred' (by omega)]
      have e : ((k : Int) - 1).toNat = k - 1 := by omega
      rw [e]
      refine ⟨by omega, by omega, fun y hy => ?_⟩
      have h4 : fltErr x.mode x.srcs = 0 := by simpa using h4
      constructor
      · intro q; exact ⟨⟨h2, h3, h4⟩, fun _ z hz => by rw [hy] at hz; cases hz; omega⟩
      · rintro ⟨_, q⟩; have := q (by omega) y hy; omega
    · exact ⟨fun _ => ⟨⟨h2, h3, by simpa using h4⟩, fun q => by omega⟩, fun _ => trivial⟩
  · intro b hb
    refine ⟨fun e => (decide_eq_false fun q => ?_).symm, fun e => ⟨⟨0, rfl, by omega, by simp⟩, ?_⟩⟩
    · subst e
      have := (itmsOk_succ hx).mp (q.take (k + 1))
      exact Bool.noConfusion (hb.mpr ⟨this.2.1, this.2.2.2⟩)
    · obtain ⟨q1, q2⟩ := hb.mp e
      rintro _ ⟨j, rfl, hj, hg⟩
      simp only [Int.toNat_natCast]
      refine ⟨fun h3 => ⟨by omega, by omega, fun y hy => ⟨fun e2 => ?_, fun e2 => ?_⟩⟩, fun h3 => ?_⟩
      · refine (decide_eq_false fun q => ?_).symm
        have := ((itmsOk_succ hx).mp (q.take (k + 1))).2.2.1 y (by
          have : (l.take k)[j]? = some y := by rw [List.getElem?_take, if_pos (by omega)]; exact hy
          exact List.mem_of_getElem? this)
        exact this (by simpa using e2)
      · rw [W_succ (n := k) (by omega) (by omega)]
        exact ⟨⟨j + 1, rfl, by omega, (mem_take_succ hy).mpr ⟨hg, by simpa using e2⟩⟩, by omega⟩
      · have : j = k := by omega
        subst this
        rw [W_succ (n := l.length) (by omega) (by omega)]
        exact ⟨⟨j + 1, rfl, by omega, (itmsOk_succ hx).mpr ⟨hI, q1, hg, q2⟩⟩, by omega⟩
  · rw [List.take_of_length_le (by omega)] at hI
    exact (decide_eq_true hI).symm
def itemsR_c (l : (List Itm)) (last : Int) : PC Try.prog := ⟨21, [(.s 4), .k], [.sl 4 (l.map Itm.v) false, .int last], itemsR_e (itemsB l last), PSpec.of_ok fun ok => (itemsR_p l last ok).elim fun I0 h => h.elim fun m0 h => h.elim fun I1 h => h.elim fun I2 h => h.elim fun m2 h => itemsR_ok l last I0 m0 I1 I2 m2 _ h, fnB_ok (by kernel_rfl)⟩
def putR_a (l : (List Itm)) (x : Itm) : Prop := okL [.sl 4 (l.map Itm.v) false, .agg [.int x.ver, .int x.grp, .int x.mode, .sl 1 (x.srcs.map AV.int) false]]
def putR_n0 (l : (List Itm)) (x : Itm) (t0 : Int × (List Itm)) : NF := ⟨[(3, .k, .ref 0 0), (5, .k, .vec 1), (8, .k, .sl 4 (l.map Itm.v) false), (9, .k, .int ((l.map Itm.v).length : Int)), (10, .k, .int t0.1)], [.box (.agg [.int x.ver, .int x.grp, .int x.mode, .sl 1 (x.srcs.map AV.int) false]), .vec 4 (t0.2.map Itm.v) (pureBL_map (fun _ => rfl) t0.2)]⟩
def putR_s : Nat → Type
  | 0 => Int × (List Itm)
  | _ => Unit
def putR_e (r : (List Itm)) : AV := .sl 4 (r.map Itm.v) false
def putR_vc (l : (List Itm)) (x : Itm) (I0 : (Int × (List Itm)) → Prop) (m0 : (Int × (List Itm)) → Nat) (r0 : (List Itm)) : Prop :=
 Nf (putR_n0 l x (0, [])) [0, 96] (I0 (0, [])) ∧ ∀ t0 : Int × (List Itm), I0 t0 →
 br (decide (t0.1 < ((l.map Itm.v).length : Int)))
 (Rf (l.map Itm.v) (ck (decide (0 ≤ t0.1)) (ck (decide (t0.1 < (l.length : Int)))
 (∀ x1, l[t0.1.toNat]? = some x1 →
 br (x1.grp != x.grp)
 (Rf (α := List AV) (t0.2.map Itm.v) (Rf (α := List AV) [.agg [.int x1.ver, .int x1.grp, .int x1.mode, .sl 1 (x1.srcs.map AV.int) false]]
 (ck (decide (t0.2.length + 1 ≤ 1000000))
 (Nf (putR_n0 l x (W (t0.1 + 1), t0.2 ++ [x1])) [0, 210] (I0 (W (t0.1 + 1), t0.2 ++ [x1]) ∧ m0 (W (t0.1 + 1), t0.2 ++ [x1]) < m0 t0)))))
 (Nf (putR_n0 l x (W (t0.1 + 1), t0.2)) [0, 1] (I0 (W (t0.1 + 1), t0.2) ∧ m0 (W (t0.1 + 1), t0.2) < m0 t0))))))
 (Rf (α := List AV) (t0.2.map Itm.v) (Rf (α := List AV) [.agg [.int x.ver, .int x.grp, .int x.mode, .sl 1 (x.srcs.map AV.int) false]]
 (ck (decide (t0.2.length + 1 ≤ 1000000))
 (Rf ((t0.2 ++ [x]).map Itm.v) (Rf (putR_e (t0.2 ++ [x])) ((t0.2 ++ [x]) = r0))))))
theorem putR_eq (l : (List Itm)) (x : Itm) (I0 : (Int × (List Itm)) → Prop) (m0 : (Int × (List Itm)) → Nat) (r0 : (List Itm)) : mxP Try.prog 75 [.sl 4 (l.map Itm.v) false, .agg [.int x.ver, .int x.grp, .int x.mode, .sl 1 (x.srcs.map AV.int) false]] (.s 4) putR_e ((.cmdL (.nilT 5 4) (.loop 0 (putR_n0 l x) (I0) (m0) ((0, []) : Int × (List Itm)) [0, 96] fun (t0 : Int × (List Itm)) =>
 (.br 18 (.el 18 Itm.v l fun x1 =>
 (.br 162 (.app 210 Itm.v t0.2 [x1]
 (.back 0 ((W (t0.1 + 1), t0.2 ++ [x1]) : Int × (List Itm)) [0, 210]))
 (.back 0 ((W (t0.1 + 1), t0.2) : Int × (List Itm)) [0, 1])))
 (.app 66 Itm.v t0.2 [x]
 (.cmdL (.frzE 66 ((t0.2 ++ [x]).map Itm.v) (pureBL_map (fun _ => rfl) (t0.2 ++ [x]))) (.ret (t0.2 ++ [x]))))))) : An Try.prog putR_s ((List Itm))) r0 = putR_vc l x I0 m0 r0 := by kernel_rfl
theorem putR_ok (l : (List Itm)) (x : Itm) (I0 : (Int × (List Itm)) → Prop) (m0 : (Int × (List Itm)) → Nat) (r0 : (List Itm)) (h : putR_vc l x I0 m0 r0) : PSpec Try.prog 75 [.sl 4 (l.map Itm.v) false, .agg [.int x.ver, .int x.grp, .int x.mode, .sl 1 (x.srcs.map AV.int) false]] (putR_e r0) := by
  have e := putR_eq l x I0 m0 r0
  rw [← e] at h
  exact mxP_ok (enc := putR_e) h (AV.pureB_ok rfl)
theorem putR_p (l : List Itm) (x : Itm) (hl : l.length ≤ 999999) (ok : putR_a l x) : ∃ I m, putR_vc l x I m (put1 l x) := by
  refine ⟨fun t => ∃ k : Nat, t.1 = k ∧ k ≤ l.length ∧ t.2 = without x.grp (l.take k), fun t => l.length - t.1.toNat, ?_⟩
  simp only [putR_vc, vcU, rfU, List.length_map]
  refine ⟨⟨0, rfl, by omega, rfl⟩, ?_⟩
  rintro ⟨_, _⟩ ⟨k, rfl, hk, rfl⟩
  simp only [Int.toNat_natCast]
  have hw : ∀ k, (without x.grp (l.take k)).length ≤ l.length := fun k => by
    unfold without
    have := List.length_filter_le (fun y : Itm => decide (y.grp ≠ x.grp)) (l.take k)
    rw [List.length_take] at this; omega
  have hwk := hw k
  refine ⟨fun h1 => ⟨by omega, by omega, fun y hy => ?_⟩, fun h1 => ⟨by omega, ?_⟩⟩
  · rw [W_succ (n := l.length) (by omega) (by omega)]
    have e : without x.grp (l.take (k + 1)) = if y.grp = x.grp then without x.grp (l.take k) else without x.grp (l.take k) ++ [y] := by
      rw [take_succ hy]
      unfold without
      rw [List.filter_append]
      by_cases q : y.grp = x.grp <;> simp [q]
    refine ⟨fun q => ⟨by omega, ⟨k + 1, rfl, by omega, ?_⟩, by omega⟩, fun q => ⟨⟨k + 1, rfl, by omega, ?_⟩, by omega⟩⟩
    · rw [e, if_neg (by simpa using q)]
    · rw [e, if_pos (by simpa using q)]
  · rw [List.take_of_length_le (by omega)]; rfl
def putR_c (l : (List Itm)) (x : Itm) (hl : l.length ≤ 999999) : PC Try.prog := ⟨75, [(.s 4), (.a [.k, .k, .k, (.s 1)])], [.sl 4 (l.map Itm.v) false, .agg [.int x.ver, .int x.grp, .int x.mode, .sl 1 (x.srcs.map AV.int) false]], putR_e (put1 l x), PSpec.of_ok fun ok => (putR_p l x hl ok).elim fun I0 h => h.elim fun m0 h => putR_ok l x I0 m0 _ h, fnB_ok (by kernel_rfl)⟩
def findI_a (l : (List Itm)) (group : Int) : Prop := okL [.sl 4 (l.map Itm.v) false, .int group]
def findI_n0 (l : (List Itm)) (group : Int) (t0 : Int) : NF := ⟨[(1, .k, .int group), (4, .k, .ref 0 0), (7, .k, .sl 4 (l.map Itm.v) false), (8, .k, .int ((l.map Itm.v).length : Int)), (9, .k, .int t0)], [.box (.agg [.int 0, .sl 0 [] true])]⟩
def findI_s : Nat → Type
  | 0 => Int
  | _ => Unit
def findI_e (r : Flt) : AV := Flt.v r
def findI_vc (l : (List Itm)) (group : Int) (I0 : Int → Prop) (m0 : Int → Nat) (r0 : Flt) : Prop :=
 Nf (findI_n0 l group (0)) [0] (I0 (0)) ∧ ∀ t0 : Int, I0 t0 →
 br (decide (t0 < ((l.map Itm.v).length : Int)))
 (Rf (l.map Itm.v) (ck (decide (0 ≤ t0)) (ck (decide (t0 < (l.length : Int)))
 (∀ x1, l[t0.toNat]? = some x1 →
 br (x1.grp == group)
 (Rf (findI_e ((⟨x1.mode, x1.srcs⟩ : Flt))) (((⟨x1.mode, x1.srcs⟩ : Flt)) = r0))
 (Nf (findI_n0 l group (W (t0 + 1))) [0] (I0 (W (t0 + 1)) ∧ m0 (W (t0 + 1)) < m0 t0))))))
 (Cl (Nothing_c )
 (Rf (findI_e ((⟨1, []⟩ : Flt))) (((⟨1, []⟩ : Flt)) = r0)))
theorem findI_eq (l : (List Itm)) (group : Int) (I0 : Int → Prop) (m0 : Int → Nat) (r0 : Flt) : mxP Try.prog 22 [.sl 4 (l.map Itm.v) false, .int group] (.a [.k, (.s 1)]) findI_e ((.loop 0 (findI_n0 l group) (I0) (m0) ((0) : Int) [0] fun (t0 : Int) =>
 (.br 17 (.el 17 Itm.v l fun x1 =>
 (.br 145 (.ret ((⟨x1.mode, x1.srcs⟩ : Flt)))
 (.back 0 ((W (t0 + 1)) : Int) [0])))
 (.callP (Nothing_c )
 (.ret ((⟨1, []⟩ : Flt)))))) : An Try.prog findI_s (Flt)) r0 = findI_vc l group I0 m0 r0 := by kernel_rfl
theorem findI_ok (l : (List Itm)) (group : Int) (I0 : Int → Prop) (m0 : Int → Nat) (r0 : Flt) (h : findI_vc l group I0 m0 r0) : PSpec Try.prog 22 [.sl 4 (l.map Itm.v) false, .int group] (findI_e r0) := by
  have e := findI_eq l group I0 m0 r0
  rw [← e] at h
  exact mxP_ok (enc := findI_e) h (AV.pureB_ok rfl)
theorem findI_p (l : List Itm) (g : Int) (ok : findI_a l g) : ∃ I m, findI_vc l g I m (⟨(told l g).1, (told l g).2⟩ : Flt) := by
  simp only [findI_a, okU, Blk.ok, plainV, List.length_map] at ok
  refine ⟨fun t => ∃ k : Nat, t = k ∧ k ≤ l.length ∧ ∀ x ∈ l.take k, x.grp ≠ g, fun t => l.length - t.toNat, ?_⟩
  simp only [findI_vc, vcU, rfU, List.length_map]
  have hle : l.length ≤ 9223372036854775807 := ok.1.1
  refine ⟨⟨0, rfl, by omega, by simp⟩, ?_⟩
  rintro _ ⟨k, rfl, hk, hI⟩
  simp only [Int.toNat_natCast]
  refine ⟨fun h1 => ⟨by omega, by omega, fun x hx => ⟨fun e => ?_, fun e => ?_⟩⟩, fun h1 => ?_⟩
  · have : told l g = (x.mode, x.srcs) := by
      unfold told
      have hf : l.find? (fun y => decide (y.grp = g)) = some x := by
        rw [List.find?_eq_some_iff_getElem]
        obtain ⟨hk', hxk⟩ := List.getElem?_eq_some_iff.mp hx
        refine ⟨by simpa using e, k, hk', hxk, fun j hj => ?_⟩
        have := hI l[j] (List.mem_of_getElem? (i := j) (by rw [List.getElem?_take, if_pos hj, List.getElem?_eq_getElem (by omega)]))
        simpa using this
      rw [hf]
    rw [this]
  · rw [W_succ (n := l.length) (by omega) (by omega)]
    exact ⟨⟨k + 1, rfl, by omega, (mem_take_succ hx).mpr ⟨hI, by simpa using e⟩⟩, by omega⟩
  · rw [List.take_of_length_le (by omega)] at hI
    rw [told_no hI]
def findI_c (l : (List Itm)) (group : Int) : PC Try.prog := ⟨22, [(.s 4), .k], [.sl 4 (l.map Itm.v) false, .int group], findI_e (⟨(told l group).1, (told l group).2⟩ : Flt), PSpec.of_ok fun ok => (findI_p l group ok).elim fun I0 h => h.elim fun m0 h => findI_ok l group I0 m0 _ h, fnB_ok (by kernel_rfl)⟩
end Go.Proofs.Ytglfecmdoekabaa
