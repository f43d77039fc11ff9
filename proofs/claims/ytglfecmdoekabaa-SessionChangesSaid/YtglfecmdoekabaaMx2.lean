/- The machine Mx: what okB tests is what an operation asks. -/
import Derived.Test.YtglfecmdoekabaaMx1
namespace Go.Am
set_option linter.unusedVariables false
set_option linter.unusedSimpArgs false

theorem partB_ok {y : AV} {off size : Nat} {agg : Bool} (h : partB y off size agg = true) : partOk y off size agg := by
  obtain ⟨h1, h⟩ := cond_true_iff.mp h
  obtain ⟨h2, h3⟩ := cond_true_iff.mp h
  refine ⟨h1, Nat.le_of_ble_eq_true h3, fun e => ?_⟩
  subst e; exact Nat.eq_of_beq_eq_true h2
theorem setB_ok {y : AV} {off size : Nat} {v : AV} (h : setB y off size v = true) : setOk y off size v := by
  obtain ⟨h1, h⟩ := cond_true_iff.mp h
  obtain ⟨h2, h⟩ := cond_true_iff.mp h
  obtain ⟨h3, h4⟩ := cond_true_iff.mp h
  exact ⟨h1, h2, Nat.eq_of_beq_eq_true h3, Nat.le_of_ble_eq_true h4⟩
theorem fillB_ok {n : Nat} : ∀ {ps : List (Nat × Nat × AV)}, fillB n ps = true → fillOk n ps
  | [], _ => fun p hp => by simp at hp
  | (o, s, x) :: r, h => by
    obtain ⟨h1, h⟩ := cond_true_iff.mp h
    obtain ⟨h2, h⟩ := cond_true_iff.mp h
    obtain ⟨h3, h4⟩ := cond_true_iff.mp h
    intro p hp
    rcases List.mem_cons.mp hp with rfl | hp
    · exact ⟨h1, Nat.eq_of_beq_eq_true h2, Nat.le_of_ble_eq_true h3⟩
    · exact fillB_ok h4 p hp
theorem litB_ok {k n : Nat} : ∀ {ps : List (Nat × AV)}, litB k n ps = true → litOk k n ps
  | [], _ => fun p hp => by simp at hp
  | (i, x) :: r, h => by
    obtain ⟨h1, h⟩ := cond_true_iff.mp h
    obtain ⟨h2, h⟩ := cond_true_iff.mp h
    obtain ⟨h3, h4⟩ := cond_true_iff.mp h
    intro p hp
    rcases List.mem_cons.mp hp with rfl | hp
    · exact ⟨h1, Nat.eq_of_beq_eq_true h2, Nat.le_of_ble_eq_true h3⟩
    · exact litB_ok h4 p hp
theorem litPB_ok : ∀ {ps : List (Nat × AV)}, litPB ps = true → litPure ps
  | [], _ => fun p hp => by simp at hp
  | (i, x) :: r, h => by
    obtain ⟨h1, h2⟩ := cond_true_iff.mp h
    intro p hp
    rcases List.mem_cons.mp hp with rfl | hp
    · exact AV.pureB_ok h1
    · exact litPB_ok h2 p hp
theorem binOkB_ok {op : BinOp} {x y : AV} (h : binOkB op x y = true) : (binA op x y).c := by
  unfold binOkB at h
  split at h
  · rename_i k a k' b
    cases op with
    | quo => obtain ⟨h1, h2⟩ := cond_true_iff.mp h; exact ⟨of_decide_eq_true h1, by simpa using h2⟩
    | rem => obtain ⟨h1, h2⟩ := cond_true_iff.mp h; exact ⟨of_decide_eq_true h1, by simpa using h2⟩
    | shl => exact of_decide_eq_true (p := 0 ≤ b) h
    | shr => exact of_decide_eq_true (p := 0 ≤ b) h
    | _ => exact of_decide_eq_true (p := k = k') h
  · rename_i a b
    cases op with
    | add => exact of_decide_eq_true (p := a.size + b.size ≤ maxLen) h
    | eql => trivial
    | neq => trivial
    | lss => trivial
    | leq => trivial
    | gtr => trivial
    | geq => trivial
    | _ => cases h
  · cases h
theorem bndB_ok {n : Nat} {l h m : Int} (e : bndB n l h m = true) : 0 ≤ l ∧ l ≤ h ∧ h ≤ m ∧ m ≤ (n : Int) := by
  obtain ⟨h1, e⟩ := cond_true_iff.mp e
  obtain ⟨h2, e⟩ := cond_true_iff.mp e
  obtain ⟨h3, h4⟩ := cond_true_iff.mp e
  exact ⟨of_decide_eq_true h1, of_decide_eq_true h2, of_decide_eq_true h3, of_decide_eq_true h4⟩
theorem some_or {a b : Bool} (h : cond a b true = true) : a = true → b = true := by cases a <;> simp_all
theorem sliceB_ok {hp : Hp} {k : Nat} {x : AV} {lo hi mx : Option Int} (h : sliceB hp k x lo hi mx = true) : (sliceA hp k x lo hi mx).c := by
  unfold sliceB at h
  split at h
  · rename_i k' es full
    obtain ⟨h1, h⟩ := cond_true_iff.mp h
    obtain ⟨h2, h3⟩ := cond_true_iff.mp h
    have b := bndB_ok h3
    refine ⟨?_, some_or h2, b.1, b.2.1, b.2.2.1, b.2.2.2⟩
    cases hk : Nat.beq k' k with
    | true => exact .inl (Nat.eq_of_beq_eq_true hk)
    | false => rw [hk] at h1; exact .inr (by simpa using h1)
  · rename_i b
    split at h
    · rename_i k' es he
      obtain ⟨h1, h⟩ := cond_true_iff.mp h
      obtain ⟨h2, h3⟩ := cond_true_iff.mp h
      have b := bndB_ok h3
      simp only [sliceA, he]
      exact ⟨Nat.eq_of_beq_eq_true h1, some_or h2, b.1, b.2.1, b.2.2.1, b.2.2.2⟩
    · cases h
  · cases h
theorem resliceB_ok {hp : Hp} {f k : Nat} {x : AV} {h : Int} (e : sliceB hp k x none (some h) none = true) : resliceA hp f k x h = sliceA hp k x none (some h) none := by
  unfold sliceB at e
  split at e
  · rfl
  · split at e
    · rename_i he; simp only [resliceA, he]
    · cases e
  · cases e

theorem okB_sound {op : AOp} {f : Nat} {ρ : AO → AV} {hp : Hp} (h : okB op ρ hp = true) : (evA op f ρ hp).c := by
  cases op <;> simp only [okB] at h
  case move x => trivial
  case pick c a b =>
    split at h
    · rename_i e; simp only [evA, e]
    · cases h
  case box x => exact h
  case build z ps => exact fillB_ok h
  case load agg size x =>
    split at h
    · rename_i b off e
      split at h
      · rename_i y hy; simp only [evA, e, hy]; exact partB_ok h
      · cases h
    · rename_i e; simp only [evA, e]; exact partB_ok h
    · cases h
  case store size a x =>
    split at h
    · rename_i b off e
      split at h
      · rename_i y hy; simp only [evA, e, hy]; exact setB_ok h
      · cases h
    · cases h
  case nilc x => split at h <;> first | (rename_i e; simp only [evA, e]; done) | cases h
  case bin op x y => exact binOkB_ok h
  case binB op x y =>
    split at h
    · rename_i e1 e2
      simp only [evA, e1, e2]
      cases op <;> simp at h <;> trivial
    · cases h
  case eqs ks ne x y =>
    split at h
    · rename_i e1 e2
      simp only [evA, e1, e2]
      cases he : eqCells ks _ _ with
      | none => rw [he] at h; cases h
      | some b => trivial
    · cases h
  case un op x =>
    simp only [evA]
    generalize ρ x = y at h ⊢
    cases op <;> cases y with
    | val v => cases v <;> simp at h <;> trivial
    | _ => simp at h
  case convI k x => split at h <;> first | (rename_i e; simp only [evA, e]; done) | cases h
  case convS x => split at h <;> first | (rename_i e; simp only [evA, e]; done) | cases h
  case convSB x => split at h <;> first | (rename_i e; simp only [evA, e]; done) | cases h
  case mkf => trivial
  case mks k bytes z l c =>
    split at h
    · rename_i l' c' e1 e2
      obtain ⟨h0, h⟩ := cond_true_iff.mp h
      obtain ⟨h1, h⟩ := cond_true_iff.mp h
      obtain ⟨h2, h3⟩ := cond_true_iff.mp h
      have h0 := Nat.le_of_ble_eq_true h0
      have h1 := of_decide_eq_true h1
      have h2 := of_decide_eq_true h2
      have h3 := of_decide_eq_true h3
      simp only [evA, e1, e2]
      refine ⟨h1, h2, ?_, ?_⟩
      · have g : c' * (bytes : Int) ≤ 1000000 * 134217728 := Int.mul_le_mul h3 (by omega) (by omega) (by omega)
        omega
      · show c' ≤ (maxLen : Int)
        have : (1000000 : Int) ≤ (maxLen : Int) := by decide
        omega
    · cases h
  case sliceS x lo hi =>
    split at h
    · rename_i e1
      split at h
      · rename_i e2 e3
        obtain ⟨h1, h⟩ := cond_true_iff.mp h
        obtain ⟨h2, h3⟩ := cond_true_iff.mp h
        simp only [evA, e1, e2, e3]
        exact ⟨of_decide_eq_true h1, of_decide_eq_true h2, of_decide_eq_true h3⟩
      · cases h
    · cases h
  case slice k x lo hi mx =>
    split at h
    · rename_i e1 e2 e3; simp only [evA, e1, e2, e3]; exact sliceB_ok h
    · rename_i e1 e2 e3; simp only [evA, e1, e2, e3]; exact sliceB_ok h
    · rename_i e1 e2 e3; simp only [evA, e1, e2, e3]; rw [resliceB_ok h]; exact sliceB_ok h
    · rename_i e1 e2 e3; simp only [evA, e1, e2, e3]; exact sliceB_ok h
    · rename_i e1 e2 e3; simp only [evA, e1, e2, e3]; exact sliceB_ok h
    · rename_i e1 e2 e3; simp only [evA, e1, e2, e3]; exact sliceB_ok h
    · cases h
  case faddr o x => split at h <;> first | (rename_i e; simp only [evA, e]; done) | cases h
  case field agg o size x =>
    obtain ⟨h1, h2⟩ := cond_true_iff.mp h
    exact ⟨h1, partB_ok h2⟩
  case iaddr k x i =>
    split at h
    · rename_i i' e1
      split at h
      · rename_i b e2
        split at h
        · rename_i k' es e3
          obtain ⟨h1, h⟩ := cond_true_iff.mp h
          obtain ⟨h2, h3⟩ := cond_true_iff.mp h
          simp only [evA, e1, e2, e3]
          exact ⟨Nat.eq_of_beq_eq_true h1, of_decide_eq_true h2, of_decide_eq_true h3⟩
        · cases h
      · rename_i b lo n e2
        split at h
        · rename_i k' es e3
          obtain ⟨h1, h⟩ := cond_true_iff.mp h
          obtain ⟨h2, h3⟩ := cond_true_iff.mp h
          simp only [evA, e1, e2, e3]
          exact ⟨Nat.eq_of_beq_eq_true h1, of_decide_eq_true h2, of_decide_eq_true h3⟩
        · cases h
      · cases h
    · cases h
  case iaddrA n k x i =>
    split at h
    · rename_i i' e1
      split at h <;> first
        | (rename_i e2
           obtain ⟨h2, h3⟩ := cond_true_iff.mp h
           simp only [evA, e1, e2]
           exact ⟨of_decide_eq_true h2, of_decide_eq_true h3⟩)
        | cases h
    · cases h
  case indexS x i =>
    split at h
    · rename_i e1 e2
      obtain ⟨h2, h3⟩ := cond_true_iff.mp h
      simp only [evA, e1, e2]
      exact ⟨of_decide_eq_true h2, of_decide_eq_true h3⟩
    · cases h
  case ext i x =>
    split at h
    · rename_i e; simp only [evA, e]; exact Nat.le_of_ble_eq_true h
    · cases h
  case len x =>
    split at h
    · rename_i e; simp only [evA, e, lenA]
    · rename_i b e
      split at h
      · rename_i e2; simp only [evA, e, lenA, e2]
      · cases h
    · cases h
  case lenS x => split at h <;> first | (rename_i e; simp only [evA, e]; done) | cases h
  case cap x =>
    split at h
    · rename_i k es full e; subst h; simp only [evA, e]
    · cases h
  case min xs =>
    simp only [evA]
    split at h
    · rename_i k a r e
      simp only [e, foldA]
      cases he : foldI minI k a r with
      | none => rw [he] at h; cases h
      | some b => trivial
    · cases h
  case max xs =>
    simp only [evA]
    split at h
    · rename_i k a r e
      simp only [e, foldA]
      cases he : foldI maxI k a r with
      | none => rw [he] at h; cases h
      | some b => trivial
    · cases h
  all_goals cases h
end Go.Am
