/- What one operation of the model does is what the compact operation says: copy, clear, append of a make, a reslice of a row. -/
import Derived.Test.YtaboolnmkfenlaaAm11
import Derived.Lib.AppendZerosOnto
import Derived.Lib.SliceRun
namespace Go.Am
set_option linter.unusedVariables false
set_option linter.unusedSimpArgs false

/-- A row in which Y is written, read to its known end. -/
theorem over_take {α : Type} (C Y : List α) (M a : Nat) (hM : M ≤ C.length) (ha : a ≤ M) (hf : a + Y.length ≤ C.length) :
    (C.take a ++ Y ++ C.drop (a + Y.length)).take (max M (a + Y.length)) = (C.take M).take a ++ Y ++ (C.take M).drop (a + Y.length) := by
  apply List.ext_getElem?
  intro p
  have hmax : max M (a + Y.length) = if M ≤ a + Y.length then a + Y.length else M := by
    rw [Nat.max_def]
  rw [hmax]
  simp only [List.getElem?_append, List.getElem?_take, List.getElem?_drop, List.length_append, List.length_take, List.length_drop]
  have e1 : min a C.length = a := by omega
  have e2 : min M C.length = M := by omega
  have e3 : min a M = a := by omega
  rw [e1, e2, e3]
  by_cases h0 : M ≤ a + Y.length
  · rw [if_pos h0]
    by_cases h1 : p < a
    · rw [if_pos (by omega), if_pos (by omega), if_pos (by omega), if_pos (by omega), if_pos (by omega), if_pos (by omega), if_pos (by omega), if_pos (by omega)]
    · by_cases h2 : p < a + Y.length
      · rw [if_pos (by omega), if_pos (by omega), if_neg (by omega), if_pos (by omega), if_neg (by omega)]
      · rw [if_neg (by omega), if_neg (by omega), if_neg (by omega)]
  · rw [if_neg h0]
    by_cases h1 : p < a
    · rw [if_pos (by omega), if_pos (by omega), if_pos (by omega), if_pos (by omega), if_pos (by omega), if_pos (by omega), if_pos (by omega), if_pos (by omega)]
    · by_cases h2 : p < a + Y.length
      · rw [if_pos (by omega), if_pos (by omega), if_neg (by omega), if_pos (by omega), if_neg (by omega)]
      · by_cases h3 : p < M
        · rw [if_pos h3, if_neg (by omega), if_neg (by omega), if_pos (by omega)]
        · rw [if_neg h3, if_neg (by omega), if_neg (by omega)]

theorem over_length {α : Type} {es xs : List α} {lo : Nat} (h : lo ≤ es.length) : (over es lo xs).length = max es.length (lo + xs.length) := by
  unfold over
  simp only [List.length_append, List.length_take, List.length_drop, Nat.max_def]
  split <;> omega
theorem over_mem {α : Type} {es xs : List α} {lo : Nat} {x : α} (h : x ∈ over es lo xs) : x ∈ es ∨ x ∈ xs := by
  unfold over at h
  simp only [List.mem_append] at h
  rcases h with (h | h) | h
  · exact .inl (List.mem_of_mem_take h)
  · exact .inr h
  · exact .inl (List.mem_of_mem_drop h)
theorem over_nil {α : Type} (es : List α) (lo : Nat) : over es lo [] = es := by simp [over]

section
variable {P : Program} {c : Ctx} {A : Nat → Prop} {μ : Mu} {fr : Nat → Prop} {tm : Nat → AV} {hp : Hp} {n : Nat} {a : Act} {w : World}

theorem RVL.over {es xs : List AV} {us vs : List Value} (h : RVL w A es μ us) (h' : RVL w A xs μ vs) (lo : Nat) : RVL w A (over es lo xs) μ (over us lo vs) := by
  unfold Go.Am.over
  rw [h'.length]
  exact ((h.take lo).append h').append (h.drop _)

theorem flat_over {k lo : Nat} {us vs : List Value} (h1 : ∀ v ∈ us, v.cells.size = k) (h2 : ∀ v ∈ vs, v.cells.size = k) :
    (over us lo vs).flatMap (·.cells.toList) = (us.flatMap (·.cells.toList)).take (lo * k) ++ vs.flatMap (·.cells.toList) ++ (us.flatMap (·.cells.toList)).drop (lo * k + (vs.flatMap (·.cells.toList)).length) := by
  unfold over
  rw [List.flatMap_append, List.flatMap_append, flat_take h1, flat_drop h1, flat_len h2, Nat.add_mul]

theorem max_mul (a b k : Nat) : max a b * k = max (a * k) (b * k) := by
  rw [Nat.max_def, Nat.max_def]
  split
  · rename_i h
    rw [if_pos (Nat.mul_le_mul_right k h)]
  · rename_i h
    by_cases hk : k = 0
    · subst hk; simp
    · rw [if_neg]
      intro h'
      exact h (Nat.le_of_mul_le_mul_right h' (by omega))

/-- What a row is behind a write at element lo. -/
theorem over_row {k lo : Nat} {C : Array Value} {es xs : List AV} {us vs : List Value} (k2 : RVL w A es μ us) (v1 : RVL w A xs μ vs) (k4 : ∀ v ∈ us, v.cells.size = k) (v2 : ∀ v ∈ vs, v.cells.size = k)
    (k6 : C.toList.take (es.length * k) = us.flatMap (·.cells.toList)) (hes : es.length * k ≤ C.size) (hlo : lo ≤ es.length) (hfit : (lo + xs.length) * k ≤ C.size) :
    let Y := vs.flatMap (·.cells.toList)
    let C' := (C.toList.take (lo * k) ++ Y ++ C.toList.drop (lo * k + Y.length)).toArray
    C'.size = C.size ∧ C'.toList.take ((over es lo xs).length * k) = (over us lo vs).flatMap (·.cells.toList) := by
  intro Y C'
  have hY : Y.length = xs.length * k := by rw [show Y.length = vs.length * k from flat_len v2, v1.length]
  have hlk : lo * k ≤ es.length * k := Nat.mul_le_mul_right k hlo
  rw [Nat.add_mul] at hfit
  constructor
  · simp only [C', List.size_toArray, List.length_append, List.length_take, List.length_drop, Array.length_toList]
    omega
  · show (C.toList.take (lo * k) ++ Y ++ C.toList.drop (lo * k + Y.length)).take _ = _
    rw [flat_over k4 v2, ← k6, over_length hlo, max_mul, Nat.add_mul, ← hY]
    exact over_take C.toList Y _ _ (by simpa using hes) hlk (by rw [hY]; simpa using hfit)

/-- The beginning of what is copied. -/
theorem src_first (H : RelE c A μ fr tm hp n a w) {k sn : Nat} {X : AV} {x : Value} {xs : List AV} (hx : RV w A X μ x) (hs : srcP hp k X = some (sn, xs)) :
    ∃ vs, RVL w A xs μ vs ∧ (∀ v ∈ vs, v.cells.size = k) ∧ (∀ v ∈ vs, cellsOk v) ∧ (∀ x ∈ xs, x.solid = true) ∧ (Builtin.lenOf x).run P w = .ok sn w ∧
      ∀ m, m ≤ xs.length → (Builtin.firstCells k m x).run P w = .ok ((vs.take m).flatMap (·.cells.toList)).toArray w := by
  have first : ∀ (b : Addr) (ln cap : Nat) (vs : List Value), (∀ v ∈ vs, v.cells.size = k) → (∀ p u, (vs.flatMap (·.cells.toList))[p]? = some u → w.cell? (b.add p) = some u) →
      ∀ m, m ≤ vs.length → (Builtin.firstCells k m (.slice (some b) ln cap)).run P w = .ok ((vs.take m).flatMap (·.cells.toList)).toArray w := by
    intro b ln cap vs hk hr m hm
    refine run_firstCells_some w k m b ln cap _ (by rw [flat_len fun v hv => hk v (List.mem_of_mem_take hv)]; rw [List.length_take, Nat.min_eq_left hm]) (fun p u hu => hr p u ?_)
    rw [flat_take hk, List.getElem?_take] at hu
    split at hu
    · exact hu
    · cases hu
  have nothing : ∀ (b : Option Addr), ∀ m, m ≤ ([] : List AV).length → (Builtin.firstCells k m (.slice b 0 0)).run P w = .ok ((([] : List Value).take m).flatMap (·.cells.toList)).toArray w := by
    intro b m hm
    have : m = 0 := by simpa using hm
    subst this
    cases b with
    | none => exact run_firstCells_none w _ _ _ _
    | some b => exact run_firstCells_some w k 0 b 0 0 [] (by simp) (by simp)
  have ones : ∀ {es : List AV} {vs : List Value}, RVL w A es μ vs → (∀ x ∈ es, x.solid = true) → ∀ v ∈ vs, cellsOk v := by
    intro es vs k2 k3 v hv
    obtain ⟨i, hi⟩ := List.mem_iff_getElem?.1 hv
    have hlt : i < es.length := by rw [k2.length]; exact (List.getElem?_eq_some_iff.1 hi).1
    exact (RV.cells (k3 _ (List.getElem_mem hlt)) (k2.get2 (List.getElem?_eq_getElem hlt) hi)).2
  have part : ∀ {b lo ln : Nat} {es : List AV} {us : List Value} {hd : Hd} {o cap : Nat}, hd.k = k → (0 < ln → o = lo * hd.k) → RVL w A es μ us → (∀ x ∈ es, x.solid = true) → (∀ v ∈ us, v.cells.size = k) →
      (∀ p u, (us.flatMap (·.cells.toList))[p]? = some u → w.cell? ⟨hd.blk, p, none⟩ = some u) →
      ∃ vs, RVL w A ((es.drop lo).take ln) μ vs ∧ (∀ v ∈ vs, v.cells.size = k) ∧ (∀ v ∈ vs, cellsOk v) ∧ (∀ x ∈ (es.drop lo).take ln, x.solid = true) ∧ (Builtin.lenOf (.slice (some ⟨hd.blk, o, none⟩) ln cap)).run P w = .ok ln w ∧
        ∀ m, m ≤ ((es.drop lo).take ln).length → (Builtin.firstCells k m (.slice (some ⟨hd.blk, o, none⟩) ln cap)).run P w = .ok ((vs.take m).flatMap (·.cells.toList)).toArray w := by
    intro b lo ln es us hd o cap f2 e4 k2 k3 k4 k7
    have q2 : RVL w A ((es.drop lo).take ln) μ ((us.drop lo).take ln) := (k2.drop lo).take ln
    have q3 : ∀ x ∈ (es.drop lo).take ln, x.solid = true := fun x hx => k3 x (List.mem_of_mem_drop (List.mem_of_mem_take hx))
    have q4 : ∀ v ∈ (us.drop lo).take ln, v.cells.size = k := fun v hv => k4 v (List.mem_of_mem_drop (List.mem_of_mem_take hv))
    refine ⟨(us.drop lo).take ln, q2, q4, ones q2 q3, q3, rfl, ?_⟩
    rw [q2.length]
    refine first _ _ _ _ q4 (fun p u hu => ?_)
    have hln : 0 < ln := by
      rcases Nat.eq_zero_or_pos ln with h | h
      · subst h; simp at hu
      · exact h
    rw [Addr.add_lit, e4 hln, f2]
    rw [flat_take (fun v hv => k4 v (List.mem_of_mem_drop hv)), flat_drop k4, List.getElem?_take] at hu
    split at hu
    · rw [List.getElem?_drop] at hu
      exact k7 _ _ hu
    · cases hu
  have whole : ∀ (Z : AV) (xs : List AV), srcA hp k Z = some xs → RV w A Z μ x → (∀ b lo ln, Z ≠ .vsub b lo ln) → ∃ vs, RVL w A xs μ vs ∧ (∀ v ∈ vs, v.cells.size = k) ∧ (∀ v ∈ vs, cellsOk v) ∧ (∀ x ∈ xs, x.solid = true) ∧ (Builtin.lenOf x).run P w = .ok xs.length w ∧
      ∀ m, m ≤ xs.length → (Builtin.firstCells k m x).run P w = .ok ((vs.take m).flatMap (·.cells.toList)).toArray w := by
    clear hs hx
    intro Z xs hs hx hne
    unfold srcA at hs
    split at hs
    · rename_i k' es full
      split at hs
      case isFalse => cases hs
      rename_i hk0
      cases hs
      rcases hx with ⟨rfl, a0, rfl⟩ | ⟨blk, off, cap, vs, rfl, g1, g2, g3, g4, g5, g6, g7, g8⟩
      · exact ⟨[], rfl, by simp, by simp, by simp, rfl, nothing a0⟩
      · have hk : ∀ v ∈ vs, v.cells.size = k := by
          intro v hv
          rcases hk0 with h | h
          · rw [← h]; exact (g6 v hv).1
          · subst h; simp [RVL] at g5; subst g5; simp at hv
        refine ⟨vs, g5.up, hk, fun v hv => (g6 v hv).2, g8, rfl, ?_⟩
        rw [g5.length]
        exact first _ _ _ vs hk (fun p u hu => by rw [Addr.add_lit]; exact g7 p u hu)
    · rename_i b
      split at hs
      case h_2 => cases hs
      rename_i k' es hb
      split at hs
      case isFalse => cases hs
      rename_i hk0
      subst hk0
      obtain rfl : es = xs := Option.some.inj hs
      obtain ⟨hd, e1, e2⟩ := hx
      obtain ⟨hd', f1, f2, f3⟩ := H.vec hb
      rw [e1] at f1; cases f1
      rcases f3 with ⟨rfl, a', f3⟩ | ⟨g1, g2, g3, g4, C, ty, vs, k1, k2, k3, k4, k5, k6, k7⟩
      · rw [e2, Hd.val, f3]
        exact ⟨[], rfl, by simp, by simp, by simp, rfl, nothing a'⟩
      · rw [e2, Hd.val, g1, g2]
        refine ⟨vs, k2, k4, ones k2 k3, k3, rfl, ?_⟩
        rw [k2.length]
        exact first _ _ _ vs k4 (fun p u hu => by rw [Addr.add_lit, Nat.zero_add]; exact k7 p u hu)
    · exact absurd rfl (hne _ _ _)
    · cases hs
  unfold srcP at hs
  split at hs
  · rename_i b lo ln
    obtain ⟨hd, cap, o, e1, e2, e3, e4, e5, rfl⟩ := hx
    split at hs
    · rename_i k' es len cap' hb
      split at hs
      case isFalse => cases hs
      rename_i hk0
      subst hk0
      cases hs
      obtain ⟨hd', f1, f2, g1, g2, g3, g4, g5, g6, C, ty, vs, k1, k2, k3, k4, k5, k6, k7⟩ := H.row hb
      rw [e1] at f1; cases f1
      exact part (b := b) f2 (fun h => e4 (by omega)) k2 k3 k4 k7
    · rename_i hb
      simp only [Option.map_eq_some_iff, srcA] at hs
      obtain ⟨l, hs, e⟩ := hs
      cases e
      split at hs
      · rename_i k' es hb
        split at hs
        case isFalse => cases hs
        rename_i hk0
        obtain ⟨rfl, hk0⟩ := hk0
        cases hs
        obtain ⟨hd', f1, f2, f3⟩ := H.vec hb
        rw [e1] at f1; cases f1
        rcases f3 with ⟨rfl, a', f3⟩ | ⟨g1, g2, g3, g4, C, ty, vs, k1, k2, k3, k4, k5, k6, k7⟩
        · rw [e2] at f3; cases f3
        · exact part (b := b) f2 (fun h => e4 (by omega)) k2 k3 k4 k7
      · rename_i hb'
        exact absurd hb' (hb _ _ _ _)
      · cases hs
  · rename_i Z hne
    simp only [Option.map_eq_some_iff] at hs
    obtain ⟨l, hs, e⟩ := hs
    cases e
    exact whole _ _ hs hx (fun b lo ln e => hne b lo ln e)

theorem upd_back {b : Nat} {x : Blk} (h : hp b = some x) : upd (upd hp b none) b (some x) = hp := by
  funext y
  by_cases e : y = b
  · subst e; rw [upd_same, h]
  · rw [upd_ne _ _ e, upd_ne _ _ e]

/-- A write into a row at element lo, the row read as a vec or as a row. -/
theorem write_row (H : RelE c A μ fr tm hp n a w) {b k lo : Nat} {x0 X : Blk} {hd : Hd} {C : Array Value} {ty : TypeId} {es xs : List AV} {us vs : List Value} (hb : hp b = some x0) (e1 : μ b = some hd) (e2 : hd.emp = none) (f2 : hd.k = k)
    (k1 : w.heap[hd.blk]? = some (.cells C ty (0, 0))) (k2 : RVL w A es μ us) (k3 : ∀ x ∈ es, x.solid = true) (k4 : ∀ v ∈ us, v.cells.size = k) (k5 : C.size = hd.cap * k) (k6 : C.toList.take (es.length * k) = us.flatMap (·.cells.toList))
    (v1 : RVL w A xs μ vs) (v2 : ∀ v ∈ vs, v.cells.size = k) (v3 : ∀ x ∈ xs, x.solid = true) (hel : es.length ≤ hd.len) (hlc : hd.len ≤ hd.cap) (hcm : hd.cap ≤ maxLen) (hlo : lo ≤ es.length) (hfit : lo + xs.length ≤ hd.len)
    (hX : (X = .vec k (over es lo xs) ∧ es.length = hd.len) ∨ X = .row k (over es lo xs) hd.len hd.cap) :
    RelE c A μ (fun x => fr x) tm (upd (upd hp b none) b (some X)) n a (w.setRow hd.blk (C.toList.take (lo * k) ++ vs.flatMap (·.cells.toList) ++ C.toList.drop (lo * k + (vs.flatMap (·.cells.toList)).length)).toArray) := by
  have hkc : ∀ m, m ≤ hd.cap → m * k ≤ C.size := fun m hm => by rw [k5]; exact Nat.mul_le_mul_right k hm
  obtain ⟨z1, z2⟩ := over_row (C := C) (lo := lo) k2 v1 k4 v2 k6 (hkc _ (by omega)) hlo (hkc _ (by omega))
  refine H.write hb e1 e2 _ (fun w' hw' hs => ?_)
  have hh : w'.heap[hd.blk]? = some (.cells (C.toList.take (lo * k) ++ vs.flatMap (·.cells.toList) ++ C.toList.drop (lo * k + (vs.flatMap (·.cells.toList)).length)).toArray ty (0, 0)) := by rw [hw', setRow_heap' k1]
  have r1 : RVL w' A (over es lo xs) μ (over us lo vs) := RVL.mono hs (fun _ h => h) _ (MuLe.refl _) (k2.over v1 lo)
  have r2 : ∀ x ∈ over es lo xs, x.solid = true := fun x hx => (over_mem hx).elim (k3 x) (v3 x)
  have r3 : ∀ v ∈ over us lo vs, v.cells.size = k := fun x hx => (over_mem hx).elim (k4 x) (v2 x)
  have r4 : (over es lo xs).length = max es.length (lo + xs.length) := over_length hlo
  rcases hX with ⟨rfl, hel'⟩ | rfl
  · have hol : (over es lo xs).length = hd.len := by rw [r4, Nat.max_def]; split <;> omega
    refine ⟨f2, .inr ⟨e2, hol.symm, hlc, hcm, _, ty, _, hh, r1, r2, r3, by rw [z1, k5], by rw [← hol]; exact z2⟩⟩
  · have hol : (over es lo xs).length ≤ hd.len := by rw [r4, Nat.max_def]; split <;> omega
    exact ⟨f2, e2, rfl, rfl, hol, hlc, hcm, _, ty, _, hh, r1, r2, r3, by rw [z1, k5], z2⟩

theorem does_copy {T tx e ty : TypeId} {k f : Nat} (hT : P.underlying T = some (.slice e)) (hs : sizeOf? P e = some k) (h0 : 0 < k) (H : RelE c A μ fr tm hp n a w) {D S : AV} {d s : Value} (hdv : RV w A D μ d) (hsv : RV w A S μ s)
    (hc : (copyA hp k D (srcP hp k S)).c) : DoesM P c fr tm hp n a w f (Builtin.copy_ #[T, tx] ty #[d, s]) (copyA hp k D (srcP hp k S)) := by
  unfold copyA at hc ⊢
  split at hc
  case h_2 => exact hc.elim
  rename_i b lo ln sn xs hsp

  obtain ⟨vs, v1, v2, v3, v4, v5, v6⟩ := src_first (P := P) H hsv hsp
  obtain ⟨hd, cap, o, e1, e2, e3, e4, e5, rfl⟩ := hdv
  have hml : (Nat.min sn ln : Nat) ≤ ln := Nat.min_le_right _ _
  have lem : ∀ (x0 : Blk) (X : Blk) (C : Array Value) (ty' : TypeId) (es : List AV) (us : List Value), hp b = some x0 → hd.k = k → w.heap[hd.blk]? = some (.cells C ty' (0, 0)) → RVL w A es μ us → (∀ x ∈ es, x.solid = true) → (∀ v ∈ us, v.cells.size = k) →
      C.size = hd.cap * k → C.toList.take (es.length * k) = us.flatMap (·.cells.toList) → es.length ≤ hd.len → hd.len ≤ hd.cap → hd.cap ≤ maxLen → lo ≤ es.length → lo + ln ≤ hd.len → Nat.min sn ln ≤ xs.length →
      ((X = .vec k (over es lo (xs.take (Nat.min sn ln))) ∧ es.length = hd.len) ∨ X = .row k (over es lo (xs.take (Nat.min sn ln))) hd.len hd.cap) → (xs.take (Nat.min sn ln) = [] → X = x0) →
      DoesM P c fr tm hp n a w f (Builtin.copy_ #[T, tx] ty #[.slice (some ⟨hd.blk, o, none⟩) ln cap, s]) { c := True, v := .int (Nat.min sn ln : Nat), rm := some b, ad := some (b, X) } := by
    intro x0 X C ty' es us hb f2 k1 k2 k3 k4 k5 k6 g1 g2 g3 g4 g5 g6 hX hX0
    have hxl : (xs.take (Nat.min sn ln)).length = Nat.min sn ln := by rw [List.length_take]; exact Nat.min_eq_left g6
    have hY : ((vs.take (Nat.min sn ln)).flatMap (·.cells.toList)).length = Nat.min sn ln * k := by
      rw [flat_len fun v hv => v2 v (List.mem_of_mem_take hv), ← (v1.take _).length, hxl]
    have hk := hs
    unfold sizeOf? at hk
    have hlo' : lo * k + Nat.min sn ln * k ≤ C.size := by
      rw [k5, ← Nat.add_mul]; exact Nat.mul_le_mul_right k (by omega)
    have hrun : ∀ w', (storeCells ⟨hd.blk, o, none⟩ ((vs.take (Nat.min sn ln)).flatMap (·.cells.toList))).run P w = .ok () w' →
        (Builtin.copy_ #[T, tx] ty #[.slice (some ⟨hd.blk, o, none⟩) ln cap, s]).run P w = .ok (goInt (Nat.min sn ln)) w' := by
      intro w' hst
      simp [Builtin.copy_, run_underlying hT, v5, run_sizeOf_of hs, v6 _ g6, hst]
    have hrv : ∀ w', RV w' A (.int (Nat.min sn ln : Nat)) μ (goInt (Nat.min sn ln)) := fun w' => rv_int (inK_nat (by omega))
    by_cases hm : Nat.min sn ln = 0
    · have hnil : xs.take (Nat.min sn ln) = [] := by rw [hm]; rfl
      have := hX0 hnil
      subst this
      refine ⟨_, w, A, μ, hrun w (by rw [hm]; rfl), ?_, hrv w⟩
      simp only [hpAfter]
      rw [upd_back hb]
      exact H.free fun b hb => hb.1
    · have ho : o = lo * k := by rw [e4 (by omega), f2]
      have hst := run_storeCells_at (P := P) hd.blk o ty' ((vs.take (Nat.min sn ln)).flatMap (·.cells.toList)) 0 C w k1 (by rw [hY, ho]; simpa using hlo') (flat_one fun v hv => v3 v (List.mem_of_mem_take hv))
      simp only [Nat.add_zero] at hst
      have hwr := write_row (X := X) H hb e1 e2 f2 k1 k2 k3 k4 k5 k6 (v1.take (Nat.min sn ln)) (fun v hv => v2 v (List.mem_of_mem_take hv)) (fun x hx => v4 x (List.mem_of_mem_take hx)) g1 g2 g3 g4 (by rw [hxl]; omega) hX
      rw [ho] at hst
      refine ⟨_, _, A, μ, hrun _ (by rw [ho]; exact hst), ?_, hrv _⟩
      exact hwr.free fun b hb => hb.1
  split at hc
  · rename_i k' es hb
    obtain ⟨rfl, g6, g5⟩ := hc
    simp only [hb]
    obtain ⟨hd', f1, f2, f3⟩ := H.vec hb
    rw [e1] at f1; cases f1
    rcases f3 with ⟨rfl, a', f3⟩ | ⟨g1, g2, g3, g4, C, ty', us, k1, k2, k3, k4, k5, k6, k7⟩
    · rw [e2] at f3; cases f3
    obtain ⟨ww, w', A', μ', h1, h2, h3⟩ := lem _ (.vec k' (over es lo (xs.take (Nat.min sn ln)))) C ty' es us hb f2 k1 k2 k3 k4 k5 (by rw [← g2]; exact k6) (by omega) g3 g4 (by omega) (by omega) g6 (.inl ⟨rfl, g2.symm⟩) (fun e => by rw [e, over_nil])
    exact ⟨ww, w', A', μ', h1, h2, h3⟩
  · rename_i k' es len cap' hb
    obtain ⟨rfl, g6, g5, g5'⟩ := hc
    simp only [hb]
    obtain ⟨hd', f1, f2, g1, g2, g3, g4, g7, g8, C, ty', us, k1, k2, k3, k4, k5, k6, k7⟩ := H.row hb
    rw [e1] at f1; cases f1
    obtain ⟨ww, w', A', μ', h1, h2, h3⟩ := lem _ (.row k' (over es lo (xs.take (Nat.min sn ln))) len cap') C ty' es us hb f2 k1 k2 k3 k4 (by rw [g3]; exact k5) k6 (by omega) (by omega) (by omega) g5 (by omega) g6 (.inr (by rw [g2, g3])) (fun e => by rw [e, over_nil])
    exact ⟨ww, w', A', μ', h1, h2, h3⟩
  · exact hc.elim

theorem does_clear {T e ty : TypeId} {k f : Nat} {z : AV} (hT : P.underlying T = some (.slice e)) (hz : zeroOf P e = some z) (hk : 0 < k ∧ z.solid = true ∧ z.cells.length = k) (H : RelE c A μ fr tm hp n a w) {X : AV} {x : Value} (hx : RV w A X μ x)
    (hc : (clearA hp k z X).c) : DoesM P c fr tm hp n a w f (Builtin.clear_ #[T] ty #[x]) (clearA hp k z X) := by
  obtain ⟨h0, hzs, hzl⟩ := hk
  obtain ⟨zv, hzr, hze⟩ : ∃ v, (∀ w, (zeroValue e).run P w = .ok v w) ∧ z = ofConst v := by
    unfold zeroOf at hz
    cases hi : P.info? e with
    | none => simp [hi] at hz
    | some i =>
      cases hv : i.zero with
      | none => simp [hi, hv] at hz
      | some v => simp [hi, hv] at hz; exact ⟨v, fun w => by simp [zeroValue, typeInfo, hi, hv], hz.symm⟩
  have hrz : ∀ μ, RV w A z μ zv := fun μ => by rw [hze]; exact rv_const zv
  have hzc := RV.cells hzs (hrz μ)
  have hzk : zv.cells.size = k := by have := hzc.1.length; rw [hzl] at this; simpa using this.symm
  unfold clearA at hc ⊢
  split at hc
  case h_2 => exact hc.elim
  rename_i b lo ln
  obtain ⟨hd, cap, o, e1, e2, e3, e4, e5, rfl⟩ := hx
  have hY : ∀ m, ((List.replicate m zv).flatMap (·.cells.toList)).length = m * k := fun m => by
    rw [flat_len (k := k) (fun v hv => by rw [List.eq_of_mem_replicate hv]; exact hzk), List.length_replicate]
  have hone : ∀ v ∈ (List.replicate ln zv).flatMap (·.cells.toList), v.oneCell' = true := flat_one fun v hv => by rw [List.eq_of_mem_replicate hv]; exact hzc.2
  have hzero : (Builtin.zeroCells zv.cells ln).toList = (List.replicate ln zv).flatMap (·.cells.toList) := by
    rw [flat_replicate, ← zero_cells zv.cells ln (by omega)]; rfl
  have hrv0 : ∀ w' A' μ', RV w' A' .unk μ' (.tuple #[]) := fun _ _ _ => trivial
  have hrun0 : ln = 0 → (Builtin.clear_ #[T] ty #[.slice (some ⟨hd.blk, o, none⟩) ln cap]).run P w = .ok (.tuple #[]) w := by
    rintro rfl
    simp [Builtin.clear_, run_underlying hT]
  have hrun : ∀ w', 0 < ln → (storeCells ⟨hd.blk, o, none⟩ ((List.replicate ln zv).flatMap (·.cells.toList))).run P w = .ok () w' → (Builtin.clear_ #[T] ty #[.slice (some ⟨hd.blk, o, none⟩) ln cap]).run P w = .ok (.tuple #[]) w' := by
    intro w' hl hst
    obtain ⟨m, rfl⟩ : ∃ m, ln = m + 1 := ⟨ln - 1, by omega⟩
    simp [Builtin.clear_, run_underlying hT, hzr, hzero, hst]
  split at hc
  · rename_i k' es hb
    obtain ⟨rfl, g5⟩ := hc
    simp only [hb]
    obtain ⟨hd', f1, f2, f3⟩ := H.vec hb
    rw [e1] at f1; cases f1
    rcases f3 with ⟨rfl, a', f3⟩ | ⟨g1, g2, g3, g4, C, ty', us, k1, k2, k3, k4, k5, k6, k7⟩
    · rw [e2] at f3; cases f3
    by_cases hm : ln = 0
    · subst hm
      refine ⟨_, w, A, μ, hrun0 rfl, ?_, hrv0 _ _ _⟩
      simp only [hpAfter, List.replicate_zero, over_nil]
      rw [upd_back hb]
      exact H.free fun b hb => hb.1
    · have ho : o = lo * k' := by rw [e4 (by omega), f2]
      have hlo' : lo * k' + ln * k' ≤ C.size := by
        rw [k5, ← Nat.add_mul]; exact Nat.mul_le_mul_right k' (by omega)
      have hst := run_storeCells_at (P := P) hd.blk o ty' ((List.replicate ln zv).flatMap (·.cells.toList)) 0 C w k1 (by rw [hY, ho]; simpa using hlo') hone
      simp only [Nat.add_zero] at hst
      have hwr := write_row (X := .vec k' (over es lo (List.replicate ln z))) (lo := lo) H hb e1 e2 f2 k1 k2 k3 k4 k5 (by rw [← g2]; exact k6) (xs := List.replicate ln z) (vs := List.replicate ln zv)
        (RVL.of_get (by simp) fun i x v hx hv => by
          simp only [List.getElem?_replicate] at hx hv
          split at hx <;> cases hx
          split at hv <;> cases hv
          · exact hrz μ
          · omega)
        (fun v hv => by rw [List.eq_of_mem_replicate hv]; exact hzk) (fun x hx => by rw [List.eq_of_mem_replicate hx]; exact hzs) (by omega) g3 g4 (by omega) (by simp; omega) (.inl ⟨rfl, g2.symm⟩)
      rw [ho] at hst
      refine ⟨_, _, A, μ, hrun _ (by omega) (by rw [ho]; exact hst), ?_, hrv0 _ _ _⟩
      exact hwr.free fun b hb => hb.1
  · rename_i k' es len cap' hb
    obtain ⟨rfl, g5, g5'⟩ := hc
    simp only [hb]
    obtain ⟨hd', f1, f2, g1, g2, g3, g4, g7, g8, C, ty', us, k1, k2, k3, k4, k5, k6, k7⟩ := H.row hb
    rw [e1] at f1; cases f1
    by_cases hm : ln = 0
    · subst hm
      refine ⟨_, w, A, μ, hrun0 rfl, ?_, hrv0 _ _ _⟩
      simp only [hpAfter]
      rw [upd_back hb]
      exact H.free fun b hb => hb.1
    · have ho : o = lo * k' := by rw [e4 (by omega), f2]
      have hlo' : lo * k' + ln * k' ≤ C.size := by
        rw [k5, ← Nat.add_mul]; exact Nat.mul_le_mul_right k' (by omega)
      have hst := run_storeCells_at (P := P) hd.blk o ty' ((List.replicate ln zv).flatMap (·.cells.toList)) 0 C w k1 (by rw [hY, ho]; simpa using hlo') hone
      simp only [Nat.add_zero] at hst
      rw [ho] at hst
      refine ⟨_, _, A, μ, hrun _ (by omega) (by rw [ho]; exact hst), ?_, hrv0 _ _ _⟩
      have hwr := H.write (x := .row k' es len cap') hb e1 e2 (C.toList.take (lo * k') ++ (List.replicate ln zv).flatMap (·.cells.toList) ++ C.toList.drop (lo * k' + ((List.replicate ln zv).flatMap (·.cells.toList)).length)).toArray (fun w' hw' hs => by
        refine ⟨f2, e2, g2, g3, g4, g7, g8, _, ty', us, by rw [hw', setRow_heap' k1], RVL.mono hs (fun _ h => h) _ (MuLe.refl _) k2, k3, k4, ?_, ?_⟩
        · simp only [List.size_toArray, List.length_append, List.length_take, List.length_drop, Array.length_toList, hY]
          rw [← k5]; omega
        · have hle : es.length * k' ≤ lo * k' := Nat.mul_le_mul_right k' g5
          rw [← k6]
          show (C.toList.take (lo * k') ++ _ ++ _).take _ = _
          rw [List.append_assoc, List.take_append_of_le_length (by simp; omega), List.take_take, Nat.min_eq_left hle])
      exact hwr.free fun b hb => hb.1
  · exact hc.elim

theorem does_appendZ {T tx e ty : TypeId} {k bytes f : Nat} {z : AV} {kn : IntKind} (hT : P.underlying T = some (.slice e)) (htx : P.underlying tx = some (.int kn)) (hs : sizeOf? P e = some k) (hb : bytesOf? P e = some bytes) (hz : zeroOf P e = some z)
    (hk : 0 < k ∧ z.solid = true ∧ z.cells.length = k) (H : RelE c A μ fr tm hp n a w) (hf : fr f) {S N : AV} {s m : Value} (hsv : RV w A S μ s) (hnv : RV w A N μ m)
    (hc : (appendZA hp f k bytes z S N).c) : DoesM P c fr tm hp n a w f (Builtin.append_ #[T, tx] ty #[s, m]) (appendZA hp f k bytes z S N) := by
  obtain ⟨h0, hzs, hzl⟩ := hk
  obtain ⟨i, hi, hik, hib⟩ := info_of hs hb
  obtain ⟨zv, hiz, hze⟩ : ∃ v, i.zero = some v ∧ z = ofConst v := by
    unfold zeroOf at hz
    rw [hi] at hz
    cases hv : i.zero with
    | none => simp [hv] at hz
    | some v => simp [hv] at hz; exact ⟨v, rfl, hz.symm⟩
  have hrz : RV w A z μ zv := by rw [hze]; exact rv_const zv
  have hzc := RV.cells hzs hrz
  have hzk : zv.cells.size = k := by have := hzc.1.length; rw [hzl] at this; simpa using this.symm
  unfold appendZA at hc ⊢
  split at hc
  case h_2 => exact hc.elim
  rename_i b lo ii mm
  split at hc
  case h_2 => exact hc.elim
  rename_i k' es len cap' hbb
  obtain ⟨rfl, rfl, c2, c3, c4, c5, c6⟩ := hc
  simp only [hbb]
  obtain ⟨hd, cap, o, e1, e2, e3, e4, e5, rfl⟩ := hsv
  obtain ⟨rfl, _⟩ := hnv
  obtain ⟨hd', f1, f2, g1, g2, g3, g4, g7, g8, C, ty', us, k1, k2, k3, k4, k5, k6, k7⟩ := H.row hbb
  rw [e1] at f1; cases f1
  obtain ⟨M, rfl⟩ := Int.eq_ofNat_of_zero_le (show 0 ≤ mm by omega)
  have hcap : cap = cap' := by omega
  subst hcap
  have hul : (us.take ii).length = ii := by rw [List.length_take, ← k2.length]; omega
  have huk : ∀ v ∈ us.take ii, v.cells.size = k' := fun v hv => k4 v (List.mem_of_mem_take hv)
  have hold : (Builtin.firstCells i.size ii (.slice (some ⟨hd.blk, o, none⟩) ii cap)).run P w.drew = .ok ((us.take ii).flatMap (·.cells.toList)).toArray w.drew := by
    rw [hik]
    refine run_firstCells_some w.drew k' ii ⟨hd.blk, o, none⟩ ii cap _ (by rw [flat_len huk, hul]) (fun p u hu => ?_)
    have hii : 0 < ii := by
      rcases Nat.eq_zero_or_pos ii with h | h
      · subst h; simp at hu
      · exact h
    have ho : o = 0 := by rw [e4 (by omega)]; simp
    rw [Addr.add_lit, ho, Nat.zero_add]
    refine k7 p u ?_
    rw [flat_take k4, List.getElem?_take] at hu
    split at hu
    · exact hu
    · cases hu
  have hbytes : (ii + M) * i.bytes ≤ 2 ^ 47 := by
    rw [hib]
    have : ((ii : Int) + (M : Int)) * (bytes : Int) = (((ii + M) * bytes : Nat) : Int) := by simp
    rw [this] at c5
    have e47 : (2 : Int) ^ 47 = ((2 ^ 47 : Nat) : Int) := by decide
    rw [e47] at c5
    exact Int.ofNat_le.mp c5
  have hM48 : M * i.bytes ≤ 281474976710656 := by
    have := Nat.mul_le_mul_right i.bytes (show M ≤ ii + M by omega)
    omega
  have hrun := Lib.run_append_grow_zeros (P := P) w T tx ty e i zv .i64 kn hT htx hi hiz (some ⟨hd.blk, o, none⟩) ii cap _ hold M (by omega) (by omega) (by omega) (by unfold maxLen at c6; omega) hM48 (growslice_fits (by omega) hbytes)
  have hflat : (us.take ii ++ List.replicate M zv).flatMap (·.cells.toList) = (us.take ii).flatMap (·.cells.toList) ++ (Builtin.zeroCells zv.cells M).toList := by
    rw [List.flatMap_append, flat_replicate, ← zero_cells zv.cells M (by omega)]; rfl
  have harr : ((us.take ii).flatMap (·.cells.toList)).toArray ++ Builtin.zeroCells zv.cells M = ((us.take ii ++ List.replicate M zv).flatMap (·.cells.toList)).toArray := by
    apply Array.ext'
    rw [hflat]; simp
  rw [harr] at hrun
  let hd2 : Hd := ⟨none, w.heap.size, k', ii + M, grownCap w (ii + M) cap e⟩
  have hrep : RVL w A (List.replicate M z) μ (List.replicate M zv) := RVL.of_get (by simp) fun j x v hx hv => by
    simp only [List.getElem?_replicate] at hx hv
    split at hx <;> cases hx
    split at hv <;> cases hv
    · exact hrz
    · omega
  obtain ⟨A', h1⟩ := H.newOwn hf (w' := w.drew.alloc (.cells (((us.take ii ++ List.replicate M zv).flatMap (·.cells.toList)).toArray ++ Builtin.zeroCells zv.cells (grownCap w (ii + M) cap e - (ii + M))) e)) rfl rfl rfl (by simp) (fun k hk => heap_alloc_old w.drew _ hk) hd2 rfl rfl (.vec k' (es.take ii ++ List.replicate M z))
    (fun A' hA hs => grown_ok hzk (by omega) (by simp; omega) ((k2.take ii).append hrep) (fun x hx => by
        rcases List.mem_append.1 hx with hx | hx
        · exact k3 x (List.mem_of_mem_take hx)
        · rw [List.eq_of_mem_replicate hx]; exact hzs) (fun v hv => by
        rcases List.mem_append.1 hv with hv | hv
        · exact k4 v (List.mem_of_mem_take hv)
        · rw [List.eq_of_mem_replicate hv]; exact hzk) hs hA (MuLe_upd H hf hd2) (heap_alloc_new w.drew _))
  simp only [Int.toNat_natCast]
  exact ⟨_, _, A', _, hrun, h1, hd2, upd_same _ _ _, rfl⟩

theorem does_reslice {T e : TypeId} {k f : Nat} (hu : P.underlying T = some (.slice e)) (hs : sizeOf? P e = some k) (H : RelE c A μ fr tm hp n a w) (hf : fr f)
    {X : AV} {x : Value} {h : Int} {lo' hi' mx' : Option Value} (h1 : OptI none lo') (h2 : OptI (some h) hi') (h3 : OptI none mx') (hx : RV w A X μ x)
    (hc : (resliceA hp f k X h).c) : DoesM P c fr tm hp n a w f (Instr.sliceAt T x lo' hi' mx') (resliceA hp f k X h) := by
  have plain : (sliceA hp k X none (some h) none).c → DoesM P c fr tm hp n a w f (Instr.sliceAt T x lo' hi' mx') (sliceA hp k X none (some h) none) := fun hc => by
    refine Val.does H (does_slice hu hs H h1 h2 h3 hx hc) ?_ ?_ <;> (unfold sliceA; (repeat' split) <;> rfl)
  unfold resliceA at hc ⊢
  split at hc
  · rename_i b
    split at hc
    · rename_i k' es len cap hb
      try simp only [hb]
      split at hc
      · rename_i hlt
        rw [if_pos hlt]
        obtain ⟨rfl, hh⟩ := hc
        obtain ⟨hd, e1, rfl⟩ := hx
        obtain ⟨hd', f1, f2, g1, g2, g3, g4, g5, g6, C, ty', us, k1, k2, k3, k4, k5, k6, k7⟩ := H.row hb
        rw [e1] at f1; cases f1
        obtain ⟨N, rfl⟩ := Int.eq_ofNat_of_zero_le (show 0 ≤ h by omega)
        have hbf : b ≠ f := by rintro rfl; rw [(H.fr b hf).2] at hb; cases hb
        have hv : hd.val = .slice (some ⟨hd.blk, 0, none⟩) len cap := by rw [Hd.val, g1, g2, g3]
        have hbd := bounds_row (P := P) (w := w) (ln := len) (cap := cap) (l := 0) (h := N) (m := cap) h1 h2 h3 rfl rfl rfl (by simp) (by omega) (by omega) (by omega)
        have hrun := run_slice_ok (P := P) (w := w) hu hs (a := some ⟨hd.blk, 0, none⟩) hbd
        let hd2 : Hd := ⟨none, hd.blk, k', N, cap⟩
        obtain ⟨q1, q2, q3⟩ := (by
          obtain ⟨hd'', p1, _, p3⟩ := H.blk b _ hb
          rw [e1] at p1; cases p1
          exact p3 g1 : ¬ A hd.blk ∧ hd.blk < w.heap.size ∧ (c.own hd.blk ∨ c.w.heap.size ≤ hd.blk))
        have h1 := H.drop b
        have h3 := h1.add f (by rw [upd_ne _ _ (Ne.symm hbf)]; exact (H.fr f hf).2) (upd μ f (some hd2)) (MuLe_upd H hf hd2) (fun b hb => upd_ne _ _ hb) hd2 (upd_same _ _ _) (.row k' es N cap)
          ⟨rfl, rfl, rfl, rfl, by omega, by omega, g6, C, ty', us, k1, RVL.mono (Same.refl A w) (fun _ h => h) _ (MuLe_upd H hf hd2) k2, k3, k4, k5, k6⟩ (fun _ => ⟨q1, q2, q3⟩) (by
          intro b' x' hd' hx' hm' he' _ heq
          by_cases e : b' = b
          · subst e; simp [upd_same] at hx'
          · rw [upd_ne _ _ e] at hx'
            exact e (H.inj b' b x' _ hd' hd hx' hb hm' e1 he' g1 heq))
        rw [hv]
        simp only [Int.toNat_natCast]
        refine ⟨_, w, A, _, hrun, h3, hd2, upd_same _ _ _, ?_⟩
        simp only [Nat.zero_mul, Nat.sub_zero, Hd.val, hd2, Option.map_some, Addr.add_lit, Nat.add_zero, ite_self]
      · rename_i hlt
        rw [if_neg hlt]
        exact plain hc
    · rename_i hb
      exact plain hc
  · exact plain hc

theorem run_equalIn_pointer_nil (d : Nat) {t e : TypeId} (h : P.underlying t = some (.pointer e)) (b : Option Addr) :
    (Op.equalIn (d + 1) t (.pointer b) (.pointer none)).run P w = .ok b.isNone w := by
  cases b <;> simp [Op.equalIn, run_underlying h]

theorem run_nil {T e : TypeId} {op : BinOp} {ptr ne : Bool} (hop : op = if ne then .neq else .eql) {y : Value} (hy : (ptr = false ∧ P.underlying T = some (.slice e) ∧ ∃ n c, y = .slice none n c) ∨ (ptr = true ∧ P.underlying T = some (.pointer e) ∧ y = .pointer none))
    {X : AV} {x : Value} (H : RelE c A μ fr tm hp n a w) (hx : RV w A X μ x) (hc : nilOk ptr X) :
    ∃ t, nilA hp X t ∧ (binOp op T x y).run P w = .ok (.bool (t != ne)) w := by
  have sl : ∀ (b : Option Addr) (l cc n' c' : Nat), P.underlying T = some (.slice e) → (binOp op T (.slice b l cc) (.slice none n' c')).run P w = .ok (.bool (b.isNone != ne)) w := by
    intro b l cc n' c' hT
    have h : (Op.equal T (.slice b l cc) (.slice none n' c')).run P w = .ok b.isNone w := Lib.run_equalIn_slice_nil w 9999 T e b l cc n' c' hT
    subst hop
    cases ne
    · simp only [binOp, Bool.false_eq_true, ↓reduceIte, Sem.run_bind, h, Result.andThen_ok, Sem.run_pure, Bool.bne_false]
    · simp only [binOp, ↓reduceIte, Sem.run_bind, h, Result.andThen_ok, Sem.run_pure, Bool.bne_true]
  have pt : ∀ (b : Option Addr), P.underlying T = some (.pointer e) → (binOp op T (.pointer b) (.pointer none)).run P w = .ok (.bool (b.isNone != ne)) w := by
    intro b hT
    have h : (Op.equal T (.pointer b) (.pointer none)).run P w = .ok b.isNone w := run_equalIn_pointer_nil 9999 hT b
    subst hop
    cases ne
    · simp only [binOp, Bool.false_eq_true, ↓reduceIte, Sem.run_bind, h, Result.andThen_ok, Sem.run_pure, Bool.bne_false]
    · simp only [binOp, ↓reduceIte, Sem.run_bind, h, Result.andThen_ok, Sem.run_pure, Bool.bne_true]
  rcases hy with ⟨rfl, hT, n', c', rfl⟩ | ⟨rfl, hT, rfl⟩
  · cases X <;> simp only [nilOk] at hc
    case sl k es full =>
      rcases hx with ⟨rfl, a0, rfl⟩ | ⟨blk, off, cap, vs, rfl, _⟩
      · exact ⟨a0.isNone, fun h => absurd rfl h, sl _ _ _ _ _ hT⟩
      · exact ⟨false, fun _ => rfl, sl _ _ _ _ _ hT⟩
    case vec b =>
      obtain ⟨hd, e1, rfl⟩ := hx
      unfold nilA
      cases hb : hp b with
      | none =>
        simp only [hb]
        obtain ⟨aa, l, cc, he⟩ := hd.val_slice
        rw [he]
        exact ⟨aa.isNone, trivial, sl _ _ _ _ _ hT⟩
      | some y =>
        cases y with
        | box y =>
          simp only [hb]
          obtain ⟨aa, l, cc, he⟩ := hd.val_slice
          rw [he]
          exact ⟨aa.isNone, trivial, sl _ _ _ _ _ hT⟩
        | vec k es =>
          simp only [hb]
          obtain ⟨hd', f1, f2, f3⟩ := H.vec hb
          rw [e1] at f1; cases f1
          rcases f3 with ⟨rfl, a', f3⟩ | ⟨g1, g2, _⟩
          · rw [Hd.val, f3]
            exact ⟨a'.isNone, fun h => absurd rfl h, sl _ _ _ _ _ hT⟩
          · rw [Hd.val, g1]
            exact ⟨false, fun _ => rfl, sl _ _ _ _ _ hT⟩
        | row k es len cap =>
          simp only [hb]
          obtain ⟨hd', f1, f2, g1, _⟩ := H.row hb
          rw [e1] at f1; cases f1
          rw [Hd.val, g1]
          exact ⟨false, rfl, sl _ _ _ _ _ hT⟩
    case vsub b lo l =>
      obtain ⟨hd, cap, o, _, _, _, _, _, rfl⟩ := hx
      exact ⟨false, rfl, sl _ _ _ _ _ hT⟩
    case asub b off l k =>
      obtain ⟨hd, cap, o, _, _, _, _, rfl⟩ := hx
      exact ⟨false, rfl, sl _ _ _ _ _ hT⟩
  · cases X <;> simp only [nilOk] at hc
    case val v =>
      obtain ⟨rfl, _⟩ := hx
      have : x = .pointer none := by
        split at hc <;> first
          | exact hc.elim
          | (rename_i h; cases h; rfl)
          | (rename_i h h'; cases h'; rfl)
          | simp_all
      subst this
      exact ⟨true, rfl, pt _ hT⟩
    case ref b o =>
      obtain ⟨hd, _, _, rfl⟩ := hx
      exact ⟨false, rfl, pt _ hT⟩
    case eref b j o =>
      obtain ⟨hd, _, _, rfl⟩ := hx
      exact ⟨false, rfl, pt _ hT⟩
    case rptr y o =>
      obtain ⟨blk, oo, v, rfl, _⟩ := hx
      exact ⟨false, rfl, pt _ hT⟩

/-- A literal that the frame owns. -/
theorem does_litv {T e : TypeId} {k N f : Nat} {z : AV} {parts : Array (Nat × Operand)}
    (hu : P.underlying T = some (.slice e)) (hs : sizeOf? P e = some k) (hz : zeroOf P e = some z) (hk : 0 < k ∧ z.solid = true ∧ z.cells.length = k ∧ N * k ≤ 2 ^ 24) (H : RelE c A μ fr tm hp n a w) (hf : fr f)
    (hc : (evL k N z (parts.toList.map fun (i, x) => (i, cO x)) f (evO tm)).c) :
    DoesM P c fr tm hp n a w f (Instr.buildSlice T N (parts.map fun (i, x) => (i, a.eval x))) (evL k N z (parts.toList.map fun (i, x) => (i, cO x)) f (evO tm)) := by
  obtain ⟨hk0, hzs, hzl, hN⟩ := hk
  simp only [evL] at hc ⊢
  obtain ⟨zv, hz1, hz2⟩ := run_zero (w := w) hz
  have hzr : RV w A z μ zv := by rw [hz2]; exact rv_const zv
  obtain ⟨r1, r2⟩ := RV.cells hzs hzr
  have r3 := r1.length
  have hzk : zv.cells.size = k := by simp at r3; omega
  obtain ⟨vs', e0, e1, e2, e3, e4⟩ := run_fill_lit (w := w) (A := A) (μ := μ) (k := k) (parts.toList.map fun p => (p.1, a.eval p.2)) ((parts.toList.map fun p => (p.1, cO p.2)).map fun p => (p.1, evO tm p.2)) (List.replicate N zv) (List.replicate N z) (by simp) (by
      intro i p q hp hq
      simp only [List.getElem?_map, Option.map_eq_some_iff] at hp hq
      obtain ⟨p', h1, rfl⟩ := hp
      obtain ⟨q', ⟨q'', h2, rfl⟩, rfl⟩ := hq
      rw [h1] at h2; cases h2
      exact ⟨rfl, H.ev _⟩)
    (RVL.of_get (by simp) fun i x v hx hv => by
      simp only [List.getElem?_replicate] at hx hv
      split at hx <;> cases hx
      split at hv <;> cases hv
      · exact hzr
      · omega)
    (by intro v hv; rw [List.eq_of_mem_replicate hv]; exact ⟨hzk, r2⟩) (by simpa using hc) (by intro x hx; rw [List.eq_of_mem_replicate hx]; exact hzs)
  have hrow : (Array.range (N * k)).map (fun i => zv.cells[i % zv.cells.size]!) = ((List.replicate N zv).flatMap (·.cells.toList)).toArray := by
    apply Array.ext'
    rw [← hzk, zero_cells _ _ (by omega), flat_replicate]
  have e5 : vs'.length = N := by simpa using e4
  have hrun : (Instr.buildSlice T N (parts.map fun (i, x) => (i, a.eval x))).run P w = .ok (.slice (some ⟨w.heap.size, 0, none⟩) N N) (w.alloc (.cells (vs'.flatMap (·.cells.toList)).toArray e)) := by
    have hpl : (Array.map (fun x => (x.fst, a.eval x.snd)) parts).toList = parts.toList.map fun p => (p.1, a.eval p.2) := by simp
    simp only [Instr.buildSlice, Sem.run_bind, run_underlying hu, Result.andThen_ok, run_sizeOf_of hs]
    rw [Sem.run_ite, if_neg (by omega)]
    by_cases h0 : N = 0
    · subst h0
      have hv' : vs' = [] := List.eq_nil_of_length_eq_zero e5
      subst hv'
      have hr0 : ∀ g : Nat → Value, (Array.range 0).map g = #[] := fun g => by simp
      simp only [Nat.zero_mul, ↓reduceIte, Sem.run_pure, Result.andThen_ok, hr0]
      simp only [List.replicate_zero, List.flatMap_nil] at e1
      have e1' : Instr.fill (fun i => some (i * k, k)) #[] (Array.map (fun x => (x.fst, a.eval x.snd)) parts).toList = some #[] := by rw [hpl]; exact e1
      simp only [e1', Sem.run_bind, newRow_run, Result.andThen_ok, Sem.run_pure]
      rfl
    · have hne : N * k ≠ 0 := by
        have := Nat.mul_pos (Nat.pos_of_ne_zero h0) hk0; omega
      simp only [hne, ↓reduceIte, Sem.run_bind, hz1, Result.andThen_ok, Sem.run_pure, hrow, hpl, e1, newRow_run]
  have hle : (litA (List.replicate N z) ((parts.toList.map fun p => (p.1, cO p.2)).map fun p => (p.1, evO tm p.2))).length = N := by rw [e2.length, e5]
  have hNm : N ≤ maxLen := by
    have : N ≤ N * k := Nat.le_mul_of_pos_right _ hk0
    unfold maxLen; omega
  let hd : Hd := ⟨none, w.heap.size, k, N, N⟩
  obtain ⟨A', h1⟩ := H.newOwn hf (w' := w.alloc (.cells (vs'.flatMap (·.cells.toList)).toArray e)) rfl rfl rfl (by simp) (fun k hk => heap_alloc_old w _ hk) hd rfl rfl (.vec k (litA (List.replicate N z) ((parts.toList.map fun p => (p.1, cO p.2)).map fun p => (p.1, evO tm p.2))))
    (fun A' hA hs => by
      refine ⟨rfl, .inr ⟨rfl, hle.symm, Nat.le_refl _, hNm, _, e, vs', heap_alloc_new w _, RVL.mono hs hA _ (MuLe_upd H hf hd) e2, e0, fun v hv => (e3 v hv).1, ?_, ?_⟩⟩
      · rw [List.size_toArray, flat_len fun v hv => (e3 v hv).1, e5]
      · show List.take (N * k) (vs'.flatMap (·.cells.toList)) = _
        rw [List.take_of_length_le]
        rw [flat_len fun v hv => (e3 v hv).1, e5]; exact Nat.le_refl _)
  exact ⟨_, _, A', _, hrun, h1, hd, upd_same _ _ _, rfl⟩
end
end Go.Am
