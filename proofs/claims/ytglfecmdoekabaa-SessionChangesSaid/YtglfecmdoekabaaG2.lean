/- Lists and filters that are drawn. -/
import Derived.Test.YtglfecmdoekabaaG1
namespace Go.Proofs.Ytglfecmdoekabaa
open Go Go.Am
set_option linter.unusedVariables false
set_option linter.unusedSimpArgs false
def insAt {α : Type} (es : List α) (i : Nat) (x : α) : List α := es.take i ++ [x] ++ es.drop i
theorem pickI_mem {l : List Int} (h : l ≠ []) (r : Int) : pickI l r ∈ l := by
  have hl : 0 < l.length := List.length_pos_iff.mpr h
  have := Mod_range (x := r) (show 1 ≤ (l.length : Int) by omega)
  have hi : (Mod r l.length).toNat < l.length := by omega
  rw [pickI, getD_get hi]
  exact List.getElem_mem hi
theorem rng_in {L : List Int} {p : Nat} {lo hi : Int} (h : -1000000000 ≤ lo ∧ lo ≤ hi ∧ hi ≤ 1000000000) : lo ≤ rng L p lo hi ∧ rng L p lo hi ≤ hi := by
  unfold rng
  have e1 : W (hi - lo) = hi - lo := W_eq (by omega)
  have e2 : W (hi - lo + 1) = hi - lo + 1 := W_eq (by omega)
  rw [e1, e2]
  have := Mod_range (x := rawV L p) (show 1 ≤ hi - lo + 1 by omega)
  rw [W_eq (by omega)]; omega
def putP (l : List Int) (x : Int) : Nat := l.findIdx (fun y => !decide (y < x))
def put (l : List Int) (x : Int) : List Int := if l[putP l x]? = some x then l else insAt l (putP l x) x
theorem put_mem {l : List Int} {x y : Int} : y ∈ put l x → y ∈ l ∨ y = x := by
  unfold put
  split
  · exact .inl
  · unfold insAt
    intro h
    rcases List.mem_append.mp h with h | h
    · rcases List.mem_append.mp h with h | h
      · exact .inl (List.mem_of_mem_take h)
      · exact .inr (by simpa using h)
    · exact .inl (List.mem_of_mem_drop h)
theorem put_length (l : List Int) (x : Int) : (put l x).length ≤ l.length + 1 := by
  unfold put
  split
  · omega
  · unfold insAt; simp; omega
theorem asc_pw {l : List Int} : ascI l ↔ l.Pairwise (· < ·) := by
  rw [List.pairwise_iff_getElem]
  constructor
  · intro h
    have key : ∀ i d, (hi : i + d + 1 < l.length) → l.getD i 0 < l.getD (i + d + 1) 0 := by
      intro i d
      induction d with
      | zero => intro hi; exact h i (by omega)
      | succ d ih => intro hi; exact Int.lt_trans (ih (by omega)) (h (i + d + 1) (by omega))
    intro i j hi hj hij
    have := key i (j - i - 1) (by omega)
    rw [show i + (j - i - 1) + 1 = j by omega, getD_get hi, getD_get hj] at this
    exact this
  · intro h i hi
    have h1 : i < l.length := by omega
    have h2 : i + 1 < l.length := by omega
    rw [getD_get h1, getD_get h2]
    exact h i (i + 1) h1 h2 (by omega)
theorem put_asc {l : List Int} {x : Int} (h : ascI l) : ascI (put l x) := by
  unfold put
  split
  · exact h
  rename_i hx
  rw [asc_pw] at *
  have hlo : ∀ a ∈ l.take (putP l x), a < x := fun a ha => by
    obtain ⟨i, hi, rfl⟩ := List.getElem_of_mem ha
    rw [List.getElem_take]
    have h1 : i < putP l x := by simp at hi; omega
    have := List.not_of_lt_findIdx h1
    simpa using this
  have hhi : ∀ a ∈ l.drop (putP l x), x < a := fun a ha => by
    have hne : l.drop (putP l x) ≠ [] := fun e => by rw [e] at ha; simp at ha
    have hlt : putP l x < l.length := by
      refine Classical.byContradiction fun e => hne (List.drop_of_length_le (by omega))
    have h1 : ¬ l[putP l x] < x := by
      have := List.findIdx_getElem (p := fun y => !decide (y < x)) (xs := l) (w := hlt)
      rw [Bool.not_eq_true'] at this
      exact of_decide_eq_false this
    have h2 : l[putP l x] ≠ x := fun e => hx (by rw [List.getElem?_eq_getElem hlt, e])
    rw [List.drop_eq_getElem_cons hlt] at ha
    have h3 : (l.drop (putP l x)).Pairwise (· < ·) := h.sublist (List.drop_sublist _ _)
    rw [List.drop_eq_getElem_cons hlt, List.pairwise_cons] at h3
    rcases List.mem_cons.mp ha with rfl | ha
    · omega
    · have := h3.1 a ha; omega
  unfold insAt
  rw [List.pairwise_append, List.pairwise_append]
  refine ⟨⟨h.sublist (List.take_sublist _ _), List.pairwise_singleton _ _, fun a ha b hb => ?_⟩, h.sublist (List.drop_sublist _ _), fun a ha b hb => ?_⟩
  · rw [List.mem_singleton] at hb; subst hb; exact hlo a ha
  · rcases List.mem_append.mp ha with ha | ha
    · exact Int.lt_trans (hlo a ha) (hhi b hb)
    · rw [List.mem_singleton] at ha; subst ha; exact hhi b hb
theorem put_rng {l : List Int} {x : Int} (h : rngI l) (hx : 1 ≤ x ∧ x ≤ 99) : rngI (put l x) := fun y hy => by
  rcases put_mem hy with hy | rfl
  · exact h y hy
  · exact hx

theorem putP_le (l : List Int) (x : Int) : putP l x ≤ l.length := List.findIdx_le_length
theorem putP_lo {l : List Int} {x y : Int} {j : Nat} (hj : j < putP l x) (hy : l[j]? = some y) : y < x := by
  have := List.not_of_lt_findIdx hj
  rw [List.getElem?_eq_getElem (lt_of_get hy)] at hy
  rw [← Option.some.inj hy]
  simpa using this
theorem putP_hi {l : List Int} {x y : Int} (hy : l[putP l x]? = some y) : ¬ y < x := by
  have h := lt_of_get hy
  have := List.findIdx_getElem (p := fun y => !decide (y < x)) (xs := l) (w := h)
  rw [List.getElem?_eq_getElem h] at hy; cases hy
  rw [Bool.not_eq_true'] at this
  exact of_decide_eq_false this
theorem putP_eq {l : List Int} {x : Int} {k : Nat} (h : ∀ j y, j < k → l[j]? = some y → y < x) (hk : k ≤ l.length) (h2 : k = l.length ∨ ∃ y, l[k]? = some y ∧ ¬ y < x) : putP l x = k := by
  rcases Nat.lt_trichotomy (putP l x) k with g | g | g
  · have hl : putP l x < l.length := by omega
    have e := List.getElem?_eq_getElem hl
    exact absurd (h _ _ g e) (putP_hi e)
  · exact g
  · rcases h2 with h2 | ⟨y, hy, hn⟩
    · have := putP_le l x; omega
    · exact absurd (putP_lo g hy) hn
theorem insAt_eq {l : List Int} {k : Nat} {x : Int} : ((l.take k).drop 0) ++ ([x] ++ ((l.take ((l.length : Int).toNat)).drop k)) = insAt l k x := by
  rw [Int.toNat_natCast, List.take_length, List.drop_zero, insAt, List.append_assoc]
def put_a (l : (List Int)) (x : Int) : Prop := okL [.sl 1 (l.map AV.int) false, .int x]
def put_n0 (l : (List Int)) (x : Int) (t0 : Int) : NF := ⟨[(0, .k, .sl 1 (l.map AV.int) false), (1, .k, .int x), (5, .k, .int t0)], []⟩
def put_s : Nat → Type
  | 0 => Int
  | _ => Unit
def put_e (r : (List Int)) : AV := .sl 1 (r.map AV.int) false
def put_vc (l : (List Int)) (x : Int) (I0 : Int → Prop) (m0 : Int → Nat) (r0 : (List Int)) : Prop :=
 Nf (put_n0 l x (0)) [] (I0 (0)) ∧ ∀ t0 : Int, I0 t0 →
 br (decide (t0 < ((l.map AV.int).length : Int)))
 (Rf (l.map AV.int) (ck (decide (0 ≤ t0)) (ck (decide (t0 < (l.length : Int)))
 (∀ x1, l[t0.toNat]? = some x1 →
 br (decide (x1 < x))
 (Nf (put_n0 l x (W (t0 + 1))) [] (I0 (W (t0 + 1)) ∧ m0 (W (t0 + 1)) < m0 t0))
 (br (decide (t0 < ((l.map AV.int).length : Int)))
 (Rf (l.map AV.int) (ck (decide (0 ≤ t0)) (ck (decide (t0 < (l.length : Int)))
 (∀ x2, l[t0.toNat]? = some x2 →
 br (x2 == x)
 (Rf (put_e (l)) ((l) = r0))
 (Rf (l.map AV.int) (ck (bndB l.length t0 (l.length : Int) (l.length : Int))
 (Rf (α := List AV) [.int x] (Rf (α := List AV) (((l.take ((l.length : Int).toNat)).drop t0.toNat).map AV.int)
 (ck (decide ([x].length + ((l.take ((l.length : Int).toNat)).drop t0.toNat).length ≤ 1000000))
 (Rf (l.map AV.int) (ck (bndB l.length 0 t0 t0)
 (ck (decide (t0 = t0))
 (Rf (α := List AV) (((l.take t0.toNat).drop 0).map AV.int) (Rf (α := List AV) (([x] ++ ((l.take ((l.length : Int).toNat)).drop t0.toNat)).map AV.int)
 (ck (decide (0 < ([x] ++ ((l.take ((l.length : Int).toNat)).drop t0.toNat)).length))
 (ck (decide (((l.take t0.toNat).drop 0).length + ([x] ++ ((l.take ((l.length : Int).toNat)).drop t0.toNat)).length ≤ 1000000))
 (Rf ((((l.take t0.toNat).drop 0) ++ ([x] ++ ((l.take ((l.length : Int).toNat)).drop t0.toNat))).map AV.int) (Rf (put_e (((l.take t0.toNat).drop 0) ++ ([x] ++ ((l.take ((l.length : Int).toNat)).drop t0.toNat)))) ((((l.take t0.toNat).drop 0) ++ ([x] ++ ((l.take ((l.length : Int).toNat)).drop t0.toNat))) = r0)))))))))))))))))))
 (Rf (l.map AV.int) (ck (bndB l.length t0 (l.length : Int) (l.length : Int))
 (Rf (α := List AV) [.int x] (Rf (α := List AV) (((l.take ((l.length : Int).toNat)).drop t0.toNat).map AV.int)
 (ck (decide ([x].length + ((l.take ((l.length : Int).toNat)).drop t0.toNat).length ≤ 1000000))
 (Rf (l.map AV.int) (ck (bndB l.length 0 t0 t0)
 (ck (decide (t0 = t0))
 (Rf (α := List AV) (((l.take t0.toNat).drop 0).map AV.int) (Rf (α := List AV) (([x] ++ ((l.take ((l.length : Int).toNat)).drop t0.toNat)).map AV.int)
 (ck (decide (0 < ([x] ++ ((l.take ((l.length : Int).toNat)).drop t0.toNat)).length))
 (ck (decide (((l.take t0.toNat).drop 0).length + ([x] ++ ((l.take ((l.length : Int).toNat)).drop t0.toNat)).length ≤ 1000000))
 (Rf ((((l.take t0.toNat).drop 0) ++ ([x] ++ ((l.take ((l.length : Int).toNat)).drop t0.toNat))).map AV.int) (Rf (put_e (((l.take t0.toNat).drop 0) ++ ([x] ++ ((l.take ((l.length : Int).toNat)).drop t0.toNat)))) ((((l.take t0.toNat).drop 0) ++ ([x] ++ ((l.take ((l.length : Int).toNat)).drop t0.toNat))) = r0))))))))))))))))))))
 (br (decide (t0 < ((l.map AV.int).length : Int)))
 (Rf (l.map AV.int) (ck (decide (0 ≤ t0)) (ck (decide (t0 < (l.length : Int)))
 (∀ x3, l[t0.toNat]? = some x3 →
 br (x3 == x)
 (Rf (put_e (l)) ((l) = r0))
 (Rf (l.map AV.int) (ck (bndB l.length t0 (l.length : Int) (l.length : Int))
 (Rf (α := List AV) [.int x] (Rf (α := List AV) (((l.take ((l.length : Int).toNat)).drop t0.toNat).map AV.int)
 (ck (decide ([x].length + ((l.take ((l.length : Int).toNat)).drop t0.toNat).length ≤ 1000000))
 (Rf (l.map AV.int) (ck (bndB l.length 0 t0 t0)
 (ck (decide (t0 = t0))
 (Rf (α := List AV) (((l.take t0.toNat).drop 0).map AV.int) (Rf (α := List AV) (([x] ++ ((l.take ((l.length : Int).toNat)).drop t0.toNat)).map AV.int)
 (ck (decide (0 < ([x] ++ ((l.take ((l.length : Int).toNat)).drop t0.toNat)).length))
 (ck (decide (((l.take t0.toNat).drop 0).length + ([x] ++ ((l.take ((l.length : Int).toNat)).drop t0.toNat)).length ≤ 1000000))
 (Rf ((((l.take t0.toNat).drop 0) ++ ([x] ++ ((l.take ((l.length : Int).toNat)).drop t0.toNat))).map AV.int) (Rf (put_e (((l.take t0.toNat).drop 0) ++ ([x] ++ ((l.take ((l.length : Int).toNat)).drop t0.toNat)))) ((((l.take t0.toNat).drop 0) ++ ([x] ++ ((l.take ((l.length : Int).toNat)).drop t0.toNat))) = r0)))))))))))))))))))
 (Rf (l.map AV.int) (ck (bndB l.length t0 (l.length : Int) (l.length : Int))
 (Rf (α := List AV) [.int x] (Rf (α := List AV) (((l.take ((l.length : Int).toNat)).drop t0.toNat).map AV.int)
 (ck (decide ([x].length + ((l.take ((l.length : Int).toNat)).drop t0.toNat).length ≤ 1000000))
 (Rf (l.map AV.int) (ck (bndB l.length 0 t0 t0)
 (ck (decide (t0 = t0))
 (Rf (α := List AV) (((l.take t0.toNat).drop 0).map AV.int) (Rf (α := List AV) (([x] ++ ((l.take ((l.length : Int).toNat)).drop t0.toNat)).map AV.int)
 (ck (decide (0 < ([x] ++ ((l.take ((l.length : Int).toNat)).drop t0.toNat)).length))
 (ck (decide (((l.take t0.toNat).drop 0).length + ([x] ++ ((l.take ((l.length : Int).toNat)).drop t0.toNat)).length ≤ 1000000))
 (Rf ((((l.take t0.toNat).drop 0) ++ ([x] ++ ((l.take ((l.length : Int).toNat)).drop t0.toNat))).map AV.int) (Rf (put_e (((l.take t0.toNat).drop 0) ++ ([x] ++ ((l.take ((l.length : Int).toNat)).drop t0.toNat)))) ((((l.take t0.toNat).drop 0) ++ ([x] ++ ((l.take ((l.length : Int).toNat)).drop t0.toNat))) = r0))))))))))))))))
theorem put_eq (l : (List Int)) (x : Int) (I0 : Int → Prop) (m0 : Int → Nat) (r0 : (List Int)) : mxP Try.prog 76 [.sl 1 (l.map AV.int) false, .int x] (.s 1) put_e ((.loop 0 (put_n0 l x) (I0) (m0) ((0) : Int) [] fun (t0 : Int) =>
 (.br 80 (.el 112 AV.int l fun x1 =>
 (.br 192 (.back 0 ((W (t0 + 1)) : Int) [])
 (.br 272 (.el 304 AV.int l fun x2 =>
 (.br 384 (.ret (l))
 (.own 400 (.sub 448 AV.int l false
 (.app 464 AV.int [x] ((l.take ((l.length : Int).toNat)).drop t0.toNat)
 (.sub 544 AV.int l true
 (.appF 576 AV.int ((l.take t0.toNat).drop 0) ([x] ++ ((l.take ((l.length : Int).toNat)).drop t0.toNat))
 (.cmdL (.frzE 576 ((((l.take t0.toNat).drop 0) ++ ([x] ++ ((l.take ((l.length : Int).toNat)).drop t0.toNat))).map AV.int) (pureBL_map (fun _ => rfl) (((l.take t0.toNat).drop 0) ++ ([x] ++ ((l.take ((l.length : Int).toNat)).drop t0.toNat))))) (.ret (((l.take t0.toNat).drop 0) ++ ([x] ++ ((l.take ((l.length : Int).toNat)).drop t0.toNat))))))))))))
 (.own 400 (.sub 448 AV.int l false
 (.app 464 AV.int [x] ((l.take ((l.length : Int).toNat)).drop t0.toNat)
 (.sub 544 AV.int l true
 (.appF 576 AV.int ((l.take t0.toNat).drop 0) ([x] ++ ((l.take ((l.length : Int).toNat)).drop t0.toNat))
 (.cmdL (.frzE 576 ((((l.take t0.toNat).drop 0) ++ ([x] ++ ((l.take ((l.length : Int).toNat)).drop t0.toNat))).map AV.int) (pureBL_map (fun _ => rfl) (((l.take t0.toNat).drop 0) ++ ([x] ++ ((l.take ((l.length : Int).toNat)).drop t0.toNat))))) (.ret (((l.take t0.toNat).drop 0) ++ ([x] ++ ((l.take ((l.length : Int).toNat)).drop t0.toNat)))))))))))))
 (.br 272 (.el 304 AV.int l fun x3 =>
 (.br 384 (.ret (l))
 (.own 400 (.sub 448 AV.int l false
 (.app 464 AV.int [x] ((l.take ((l.length : Int).toNat)).drop t0.toNat)
 (.sub 544 AV.int l true
 (.appF 576 AV.int ((l.take t0.toNat).drop 0) ([x] ++ ((l.take ((l.length : Int).toNat)).drop t0.toNat))
 (.cmdL (.frzE 576 ((((l.take t0.toNat).drop 0) ++ ([x] ++ ((l.take ((l.length : Int).toNat)).drop t0.toNat))).map AV.int) (pureBL_map (fun _ => rfl) (((l.take t0.toNat).drop 0) ++ ([x] ++ ((l.take ((l.length : Int).toNat)).drop t0.toNat))))) (.ret (((l.take t0.toNat).drop 0) ++ ([x] ++ ((l.take ((l.length : Int).toNat)).drop t0.toNat))))))))))))
 (.own 400 (.sub 448 AV.int l false
 (.app 464 AV.int [x] ((l.take ((l.length : Int).toNat)).drop t0.toNat)
 (.sub 544 AV.int l true
 (.appF 576 AV.int ((l.take t0.toNat).drop 0) ([x] ++ ((l.take ((l.length : Int).toNat)).drop t0.toNat))
 (.cmdL (.frzE 576 ((((l.take t0.toNat).drop 0) ++ ([x] ++ ((l.take ((l.length : Int).toNat)).drop t0.toNat))).map AV.int) (pureBL_map (fun _ => rfl) (((l.take t0.toNat).drop 0) ++ ([x] ++ ((l.take ((l.length : Int).toNat)).drop t0.toNat))))) (.ret (((l.take t0.toNat).drop 0) ++ ([x] ++ ((l.take ((l.length : Int).toNat)).drop t0.toNat))))))))))))) : An Try.prog put_s ((List Int))) r0 = put_vc l x I0 m0 r0 := by kernel_rfl
theorem put_ok (l : (List Int)) (x : Int) (I0 : Int → Prop) (m0 : Int → Nat) (r0 : (List Int)) (h : put_vc l x I0 m0 r0) : PSpec Try.prog 76 [.sl 1 (l.map AV.int) false, .int x] (put_e r0) := by
  have e := put_eq l x I0 m0 r0
  rw [← e] at h
  exact mxP_ok (enc := put_e) h (AV.pureB_ok rfl)
theorem put_p (l : List Int) (x : Int) (hl : l.length ≤ 900000) (ok : put_a l x) : ∃ I m, put_vc l x I m (put l x) := by
  refine ⟨fun t => ∃ k : Nat, t = k ∧ k ≤ l.length ∧ ∀ j y, j < k → l[j]? = some y → y < x, fun t => l.length - t.toNat, ?_⟩
  simp only [put_vc, vcU, rfU, List.length_map]
  have hle := putP_le l x
  have key : ∀ k : Nat, putP l x = k → l[k]? ≠ some x → List.drop 0 (List.take k l) ++ ([x] ++ List.drop k (List.take (l.length : Int).toNat l)) = put l x := fun k e hne => by
    rw [insAt_eq, put, e, if_neg hne]
  refine ⟨⟨0, rfl, by omega, fun j y h => by omega⟩, ?_⟩
  rintro _ ⟨k, rfl, hk, h⟩
  simp only [Int.toNat_natCast]
  have hb1 : bndB l.length k l.length l.length = true := by simp [bndB]; omega
  have hb2 : bndB l.length 0 k k = true := by simp [bndB]; omega
  have e1 : (List.take l.length l) = l := List.take_length
  refine ⟨fun h1 => ⟨by omega, by omega, fun y hy => ⟨fun e => ?_, fun e => ⟨fun h2 => ⟨by omega, by omega, fun z hz => ?_⟩, fun h2 => by omega⟩⟩⟩, fun h1 => ⟨fun h2 => by omega, fun _ => ?_⟩⟩
  · rw [W_succ (n := l.length) (by omega) (by omega)]
    refine ⟨⟨k + 1, rfl, by omega, fun j z hj hz => ?_⟩, by omega⟩
    by_cases e' : j = k
    · subst e'; rw [hz] at hy; cases hy; exact e
    · exact h j z (by omega) hz
  · have hq := putP_eq h hk (.inr ⟨y, hy, e⟩)
    rw [hy] at hz; cases hz
    refine ⟨fun e' => ?_, fun e' => ?_⟩
    · rw [put, hq, if_pos (by rw [hy]; simpa using e')]
    · have hne : l[k]? ≠ some x := by rw [hy]; simpa using e'
      refine ⟨hb1, ?_, hb2, trivial, ?_, ?_, ?_⟩
      · simp; omega
      · simp
      · simp; omega
      · have := key k hq hne; simpa using this
  · have hq := putP_eq h hk (.inl (by omega))
    refine ⟨hb1, ?_, hb2, trivial, ?_, ?_, ?_⟩
    · simp; omega
    · simp
    · simp; omega
    · have := key k hq (by rw [List.getElem?_eq_none (by omega)]; simp); simpa using this
def put_c (l : (List Int)) (x : Int) (hl : l.length ≤ 900000) : PC Try.prog := ⟨76, [(.s 1), .k], [.sl 1 (l.map AV.int) false, .int x], put_e (put l x), PSpec.of_ok fun ok => (put_p l x hl ok).elim fun I0 h => h.elim fun m0 h => put_ok l x I0 m0 _ h, fnB_ok (by kernel_rfl)⟩
/-! ### Sources and filters -/
def src1 (L : List Int) (p : Nat) : Int := pickI [rng L p 1 6, rng L (rawP L p) 1 20, rng L (rawP L (rawP L p)) 1 99] (rawV L (rawP L (rawP L (rawP L p))))
def src1P (L : List Int) (p : Nat) : Nat := rawP L (rawP L (rawP L (rawP L p)))
def srcLoop (L : List Int) : Nat → List Int → Nat → List Int × Nat
  | 0, out, p => (out, p)
  | i + 1, out, p => srcLoop L i (put out (src1 L p)) (src1P L p)
def sources (L : List Int) (p : Nat) (n : Int) : List Int × Nat := srcLoop L (Mod (rawV L p) (n + 1)).toNat [] (rawP L p)
theorem src1_in (L : List Int) (p : Nat) : 1 ≤ src1 L p ∧ src1 L p ≤ 99 := by
  have h1 := rng_in (L := L) (p := p) (lo := 1) (hi := 6) (by omega)
  have h2 := rng_in (L := L) (p := rawP L p) (lo := 1) (hi := 20) (by omega)
  have h3 := rng_in (L := L) (p := rawP L (rawP L p)) (lo := 1) (hi := 99) (by omega)
  have := pickI_mem (l := [rng L p 1 6, rng L (rawP L p) 1 20, rng L (rawP L (rawP L p)) 1 99]) (by simp) (rawV L (rawP L (rawP L (rawP L p))))
  unfold src1
  generalize pickI _ _ = v at this
  simp only [List.mem_cons, List.not_mem_nil, or_false] at this
  omega
theorem srcLoop_ok {L : List Int} : ∀ {i : Nat} {out : List Int} {p : Nat}, rngI out → ascI out → rngI (srcLoop L i out p).1 ∧ ascI (srcLoop L i out p).1
  | 0, _, _, h, h2 => ⟨h, h2⟩
  | i + 1, out, p, h, h2 => by
    rw [srcLoop]
    exact srcLoop_ok (put_rng h (src1_in L p)) (put_asc h2)
theorem sources_in (L : List Int) (p : Nat) (n : Int) : rngI (sources L p n).1 ∧ ascI (sources L p n).1 := srcLoop_ok (fun _ h => by simp at h) (fun i h => by simp at h)
def sources_a (L : (List Int)) (p : Nat) (n : Int) : Prop := okL [.ref 0 0, .int n] ∧ (.box (.agg [.sl 1 (L.map AV.int) false, .int ((p : Nat) : Int)]) : Blk).ok
def sources_n0 (L : (List Int)) (p : Nat) (n : Int) (t0 : (List Int) × Int × Nat) : NF := ⟨[(0, .k, .ref 0 0), (5, (.s 1), .sl 1 (t0.1.map AV.int) false), (6, .k, .int t0.2.1)], [.box (.agg [.sl 1 (L.map AV.int) false, .int ((t0.2.2 : Nat) : Int)])]⟩
def sources_s : Nat → Type
  | 0 => (List Int) × Int × Nat
  | _ => Unit
def sources_e (r : Tap × (List Int)) : AV := .sl 1 (r.2.map AV.int) false
def sources_b (r : Tap × (List Int)) : List (Option Blk) := [some (.box (.agg [.sl 1 (r.1.L.map AV.int) false, .int ((r.1.p : Nat) : Int)]))]
def sources_vc (L : (List Int)) (p : Nat) (n : Int) (I0 : ((List Int) × Int × Nat) → Prop) (m0 : ((List Int) × Int × Nat) → Nat) (r0 : Tap × (List Int)) : Prop :=
 Ch (N_h L p (W (n + 1))) [0] 81
 (Nf (sources_n0 L p n ([], Mod (rawV L p) (W (n + 1)), rawP L p)) [0] (I0 ([], Mod (rawV L p) (W (n + 1)), rawP L p)) ∧ ∀ t0 : (List Int) × Int × Nat, I0 t0 →
 br (decide (0 < t0.2.1))
 (Ch (Range_h L t0.2.2 1 6) [0] 81
 (Ch (Range_h L (rawP L t0.2.2) 1 20) [0] 113
 (Ch (Range_h L (rawP L (rawP L t0.2.2)) 1 99) [0] 145
 (∃ h1 : [rng L t0.2.2 1 6, rng L (rawP L t0.2.2) 1 20, rng L (rawP L (rawP L t0.2.2)) 1 99] ≠ [],
 Ch (Pick_h L (rawP L (rawP L (rawP L t0.2.2))) [rng L t0.2.2 1 6, rng L (rawP L t0.2.2) 1 20, rng L (rawP L (rawP L t0.2.2)) 1 99] h1) [0] 177
 (∃ h2 : t0.1.length ≤ 900000,
 Cl (put_c t0.1 (pickI [rng L t0.2.2 1 6, rng L (rawP L t0.2.2) 1 20, rng L (rawP L (rawP L t0.2.2)) 1 99] (rawV L (rawP L (rawP L (rawP L t0.2.2))))) h2)
 (Nf (sources_n0 L p n (put t0.1 (pickI [rng L t0.2.2 1 6, rng L (rawP L t0.2.2) 1 20, rng L (rawP L (rawP L t0.2.2)) 1 99] (rawV L (rawP L (rawP L (rawP L t0.2.2))))), W (t0.2.1 - 1), rawP L (rawP L (rawP L (rawP L t0.2.2))))) [0] (I0 (put t0.1 (pickI [rng L t0.2.2 1 6, rng L (rawP L t0.2.2) 1 20, rng L (rawP L (rawP L t0.2.2)) 1 99] (rawV L (rawP L (rawP L (rawP L t0.2.2))))), W (t0.2.1 - 1), rawP L (rawP L (rawP L (rawP L t0.2.2)))) ∧ m0 (put t0.1 (pickI [rng L t0.2.2 1 6, rng L (rawP L t0.2.2) 1 20, rng L (rawP L (rawP L t0.2.2)) 1 99] (rawV L (rawP L (rawP L (rawP L t0.2.2))))), W (t0.2.1 - 1), rawP L (rawP L (rawP L (rawP L t0.2.2)))) < m0 t0)))))))
 (Nf ⟨[(4, .k, .sl 1 (t0.1.map AV.int) false)], [.box (.agg [.sl 1 (L.map AV.int) false, .int ((t0.2.2 : Nat) : Int)])]⟩ [0] (Rf (sources_e ((⟨L, t0.2.2⟩ : Tap), t0.1)) (Rf (sources_b ((⟨L, t0.2.2⟩ : Tap), t0.1)) (((⟨L, t0.2.2⟩ : Tap), t0.1) = r0)))))
theorem sources_eq (L : (List Int)) (p : Nat) (n : Int) (I0 : ((List Int) × Int × Nat) → Prop) (m0 : ((List Int) × Int × Nat) → Nat) (r0 : Tap × (List Int)) : mxH Try.prog 54 [.ref 0 0, .int n] [.box (.agg [.sl 1 (L.map AV.int) false, .int ((p : Nat) : Int)])] (.s 1) sources_e sources_b ((.callH [0] (N_h L p (W (n + 1)))
 (.loop 0 (sources_n0 L p n) (I0) (m0) (([], Mod (rawV L p) (W (n + 1)), rawP L p) : (List Int) × Int × Nat) [0] fun (t0 : (List Int) × Int × Nat) =>
 (.br 33 (.callH [0] (Range_h L t0.2.2 1 6)
 (.callH [0] (Range_h L (rawP L t0.2.2) 1 20)
 (.callH [0] (Range_h L (rawP L (rawP L t0.2.2)) 1 99)
 (.req 177 ([rng L t0.2.2 1 6, rng L (rawP L t0.2.2) 1 20, rng L (rawP L (rawP L t0.2.2)) 1 99] ≠ []) fun h1 =>
 (.callH [0] (Pick_h L (rawP L (rawP L (rawP L t0.2.2))) [rng L t0.2.2 1 6, rng L (rawP L t0.2.2) 1 20, rng L (rawP L (rawP L t0.2.2)) 1 99] h1)
 (.req 193 (t0.1.length ≤ 900000) fun h2 =>
 (.callP (put_c t0.1 (pickI [rng L t0.2.2 1 6, rng L (rawP L t0.2.2) 1 20, rng L (rawP L (rawP L t0.2.2)) 1 99] (rawV L (rawP L (rawP L (rawP L t0.2.2))))) h2)
 (.back 0 ((put t0.1 (pickI [rng L t0.2.2 1 6, rng L (rawP L t0.2.2) 1 20, rng L (rawP L (rawP L t0.2.2)) 1 99] (rawV L (rawP L (rawP L (rawP L t0.2.2))))), W (t0.2.1 - 1), rawP L (rawP L (rawP L (rawP L t0.2.2)))) : (List Int) × Int × Nat) [0]))))))))
 (.retH ((⟨L, t0.2.2⟩ : Tap), t0.1) ⟨[(4, .k, .sl 1 (t0.1.map AV.int) false)], [.box (.agg [.sl 1 (L.map AV.int) false, .int ((t0.2.2 : Nat) : Int)])]⟩ [0])))) : An Try.prog sources_s (Tap × (List Int))) r0 = sources_vc L p n I0 m0 r0 := by kernel_rfl
theorem sources_ok (L : (List Int)) (p : Nat) (n : Int) (I0 : ((List Int) × Int × Nat) → Prop) (m0 : ((List Int) × Int × Nat) → Nat) (r0 : Tap × (List Int)) (h : sources_vc L p n I0 m0 r0) : HSpec Try.prog 54 [.ref 0 0, .int n] [.box (.agg [.sl 1 (L.map AV.int) false, .int ((p : Nat) : Int)])] (sources_e r0) (sources_b r0) := by
  have e := sources_eq L p n I0 m0 r0
  rw [← e] at h
  exact mxH_ok (enc := sources_e) (hB := sources_b) h
theorem sources_p (L : List Int) (p : Nat) (n : Int) (hn : 0 ≤ n ∧ n ≤ 1000) (ok : sources_a L p n) : ∃ I m, sources_vc L p n I m ((⟨L, (sources L p n).2⟩ : Tap), (sources L p n).1) := by
  have hm := Mod_range (x := rawV L p) (show 1 ≤ n + 1 by omega)
  refine ⟨fun t => ∃ i : Nat, t.2.1 = i ∧ srcLoop L i t.1 t.2.2 = sources L p n ∧ i + t.1.length ≤ 2000, fun t => t.2.1.toNat, ?_⟩
  simp only [sources_vc, vcU, rfU, List.length_map]
  rw [W_eq (by omega)]
  refine ⟨⟨(Mod (rawV L p) (n + 1)).toNat, by omega, rfl, by simp; omega⟩, ?_⟩
  rintro ⟨out, _, q⟩ ⟨i, rfl, h, hl⟩
  simp only at h hl ⊢
  refine ⟨fun h1 => ?_, fun h1 => ?_⟩
  · obtain ⟨i, rfl⟩ : ∃ k, i = k + 1 := ⟨i - 1, by omega⟩
    refine ⟨by simp, by omega, ⟨i, ?_, h, ?_⟩, ?_⟩
    · rw [W_eq (by omega)]; omega
    · have := put_length out (src1 L q); show i + (put out (src1 L q)).length ≤ 2000; omega
    · rw [W_eq (by omega)]; omega
  · obtain rfl : i = 0 := by omega
    rw [← h]; rfl
def sources_h (L : (List Int)) (p : Nat) (n : Int) (hn : 0 ≤ n ∧ n ≤ 1000) : HC Try.prog := ⟨54, [.k, .k], [.ref 0 0, .int n], [.box (.agg [.sl 1 (L.map AV.int) false, .int ((p : Nat) : Int)])], sources_e (((⟨L, (sources L p n).2⟩ : Tap), (sources L p n).1) : Tap × List Int), sources_b (((⟨L, (sources L p n).2⟩ : Tap), (sources L p n).1) : Tap × List Int), HSpec.of_okh fun ok ok2 => have ok : sources_a L p n := ⟨ok, ok2 _ (by simp)⟩; (sources_p L p n hn ok).elim fun I0 h => h.elim fun m0 h => sources_ok L p n I0 m0 _ h, fnB_ok (by kernel_rfl), HcOk.of (by simp [hcB, belBL, AV.belB, allB, okBk, okBkO, sources_e, sources_b, pureBL_map (v := AV.int) (fun _ => rfl)])⟩
def fltN (L : List Int) (p : Nat) : Int := pickI [0, 2, 4, 4, 16, 99] (rawV L p)
def filterT (L : List Int) (p : Nat) : Flt × Nat := (⟨rng L (rawP L p) 1 2, (sources L (rawP L (rawP L p)) (fltN L p)).1⟩, (sources L (rawP L (rawP L p)) (fltN L p)).2)
theorem fltN_in (L : List Int) (p : Nat) : 0 ≤ fltN L p ∧ fltN L p ≤ 1000 := by
  have := pickI_mem (l := [0, 2, 4, 4, 16, 99]) (by simp) (rawV L p)
  unfold fltN
  generalize pickI _ _ = v at this
  simp only [List.mem_cons, List.not_mem_nil, or_false] at this
  omega
theorem filterT_in (L : List Int) (p : Nat) : fltErr (filterT L p).1.mode (filterT L p).1.srcs = 0 := by
  have h1 := rng_in (L := L) (p := rawP L p) (lo := 1) (hi := 2) (by omega)
  have h2 : rngI (filterT L p).1.srcs ∧ ascI (filterT L p).1.srcs := sources_in L _ _
  unfold fltErr
  rw [if_neg, if_neg (not_not_intro h2.1), if_neg (not_not_intro h2.2)]
  refine not_not_intro ?_
  show rng L (rawP L p) 1 2 = 1 ∨ rng L (rawP L p) 1 2 = 2
  omega
def filterT_a (L : (List Int)) (p : Nat) : Prop := okL [.ref 0 0] ∧ (.box (.agg [.sl 1 (L.map AV.int) false, .int ((p : Nat) : Int)]) : Blk).ok
def filterT_s : Nat → Type
  | _ => Unit
def filterT_e (r : Tap × Flt) : AV := .agg [.int r.2.mode, .sl 1 (r.2.srcs.map AV.int) false]
def filterT_b (r : Tap × Flt) : List (Option Blk) := [some (.box (.agg [.sl 1 (r.1.L.map AV.int) false, .int ((r.1.p : Nat) : Int)]))]
def filterT_vc (L : (List Int)) (p : Nat) (r0 : Tap × Flt) : Prop :=
 ∃ h1 : [0, 2, 4, 4, 16, 99] ≠ [],
 Ch (Pick_h L p [0, 2, 4, 4, 16, 99] h1) [0] 49
 (Ch (Range_h L (rawP L p) 1 2) [0] 97
 (∃ h2 : 0 ≤ (pickI [0, 2, 4, 4, 16, 99] (rawV L p)) ∧ (pickI [0, 2, 4, 4, 16, 99] (rawV L p)) ≤ 1000,
 Ch (sources_h L (rawP L (rawP L p)) (pickI [0, 2, 4, 4, 16, 99] (rawV L p)) h2) [0] 145
 (Nf ⟨[(2, .k, .ref 1 0)], [.box (.agg [.sl 1 (L.map AV.int) false, .int ((((sources L (rawP L (rawP L p)) (pickI [0, 2, 4, 4, 16, 99] (rawV L p))).2) : Nat) : Int)]), .box (.agg [.int (rng L (rawP L p) 1 2), .sl 1 (((sources L (rawP L (rawP L p)) (pickI [0, 2, 4, 4, 16, 99] (rawV L p))).1).map AV.int) false])]⟩ [0, 1] (Rf (filterT_e ((⟨L, (sources L (rawP L (rawP L p)) (pickI [0, 2, 4, 4, 16, 99] (rawV L p))).2⟩ : Tap), (⟨rng L (rawP L p) 1 2, (sources L (rawP L (rawP L p)) (pickI [0, 2, 4, 4, 16, 99] (rawV L p))).1⟩ : Flt))) (Rf (filterT_b ((⟨L, (sources L (rawP L (rawP L p)) (pickI [0, 2, 4, 4, 16, 99] (rawV L p))).2⟩ : Tap), (⟨rng L (rawP L p) 1 2, (sources L (rawP L (rawP L p)) (pickI [0, 2, 4, 4, 16, 99] (rawV L p))).1⟩ : Flt))) (((⟨L, (sources L (rawP L (rawP L p)) (pickI [0, 2, 4, 4, 16, 99] (rawV L p))).2⟩ : Tap), (⟨rng L (rawP L p) 1 2, (sources L (rawP L (rawP L p)) (pickI [0, 2, 4, 4, 16, 99] (rawV L p))).1⟩ : Flt)) = r0))))))
theorem filterT_eq (L : (List Int)) (p : Nat) (r0 : Tap × Flt) : mxH Try.prog 25 [.ref 0 0] [.box (.agg [.sl 1 (L.map AV.int) false, .int ((p : Nat) : Int)])] (.a [.k, (.s 1)]) filterT_e filterT_b ((.req 49 ([0, 2, 4, 4, 16, 99] ≠ []) fun h1 =>
 (.callH [0] (Pick_h L p [0, 2, 4, 4, 16, 99] h1)
 (.callH [0] (Range_h L (rawP L p) 1 2)
 (.req 145 (0 ≤ (pickI [0, 2, 4, 4, 16, 99] (rawV L p)) ∧ (pickI [0, 2, 4, 4, 16, 99] (rawV L p)) ≤ 1000) fun h2 =>
 (.callH [0] (sources_h L (rawP L (rawP L p)) (pickI [0, 2, 4, 4, 16, 99] (rawV L p)) h2)
 (.retH ((⟨L, (sources L (rawP L (rawP L p)) (pickI [0, 2, 4, 4, 16, 99] (rawV L p))).2⟩ : Tap), (⟨rng L (rawP L p) 1 2, (sources L (rawP L (rawP L p)) (pickI [0, 2, 4, 4, 16, 99] (rawV L p))).1⟩ : Flt)) ⟨[(2, .k, .ref 1 0)], [.box (.agg [.sl 1 (L.map AV.int) false, .int ((((sources L (rawP L (rawP L p)) (pickI [0, 2, 4, 4, 16, 99] (rawV L p))).2) : Nat) : Int)]), .box (.agg [.int (rng L (rawP L p) 1 2), .sl 1 (((sources L (rawP L (rawP L p)) (pickI [0, 2, 4, 4, 16, 99] (rawV L p))).1).map AV.int) false])]⟩ [0, 1])))))) : An Try.prog filterT_s (Tap × Flt)) r0 = filterT_vc L p r0 := by kernel_rfl
theorem filterT_ok (L : (List Int)) (p : Nat) (r0 : Tap × Flt) (h : filterT_vc L p r0) : HSpec Try.prog 25 [.ref 0 0] [.box (.agg [.sl 1 (L.map AV.int) false, .int ((p : Nat) : Int)])] (filterT_e r0) (filterT_b r0) := by
  have e := filterT_eq L p r0
  rw [← e] at h
  exact mxH_ok (enc := filterT_e) (hB := filterT_b) h
theorem filterT_p (L : List Int) (p : Nat) (ok : filterT_a L p) : filterT_vc L p ((⟨L, (filterT L p).2⟩ : Tap), (filterT L p).1) := by
  simp only [filterT_vc, vcU, rfU, List.length_map]
  exact ⟨by simp, fltN_in L p, rfl⟩
def filterT_h (L : (List Int)) (p : Nat) : HC Try.prog := ⟨25, [.k], [.ref 0 0], [.box (.agg [.sl 1 (L.map AV.int) false, .int ((p : Nat) : Int)])], filterT_e (((⟨L, (filterT L p).2⟩ : Tap), (filterT L p).1) : Tap × Flt), filterT_b (((⟨L, (filterT L p).2⟩ : Tap), (filterT L p).1) : Tap × Flt), HSpec.of_okh fun ok ok2 => have ok : filterT_a L p := ⟨ok, ok2 _ (by simp)⟩; filterT_ok L p _ (filterT_p L p ok), fnB_ok (by kernel_rfl), HcOk.of (by simp [hcB, belBL, AV.belB, allB, okBk, okBkO, filterT_e, filterT_b, pureBL_map (v := AV.int) (fun _ => rfl)])⟩
end Go.Proofs.Ytglfecmdoekabaa
