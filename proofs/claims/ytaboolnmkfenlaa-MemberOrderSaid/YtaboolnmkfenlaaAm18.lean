/- A region whose order is drawn: the walk over all orders. -/
import Derived.Test.YtaboolnmkfenlaaAm17
namespace Go.Am
set_option linter.unusedVariables false
set_option linter.unusedSimpArgs false

section
variable {P : Program} {n : Nat} {ops : Array Oper} {f0 : Nat} {ds : Nat → Dat} {s0 : S2}

def aopsOf (P : Program) (n : Nat) (ops : Array Oper) : List AOper := ops.toList.map (cOper P n ops)
def edgesOf (ops : Array Oper) : List (List Nat) := ops.toList.map bindOn
def dstF (ops : Array Oper) (i : Nat) : Option Nat := (ops[i]?).bind (·.dst)

structure Stat (P : Program) (n : Nat) (ops : Array Oper) (f0 : Nat) (ds : Nat → Dat) (s0 : S2) : Prop where
  good : ∀ i, i < ops.size → Good P n ops f0 ds s0 i
  reg : regOk (edgesOf ops) (clos (edgesOf ops) []) (aopsOf P n ops) = true
  par : parOk (parOf (clos (edgesOf ops) []) (aopsOf P n ops)) (logOf ds ops.size) = true

theorem aops_at {i : Nat} {o : Oper} (h : ops[i]? = some o) : (aopsOf P n ops).getD i badOper = cOper P n ops o := by
  unfold aopsOf
  have : ops.toList[i]? = some o := by simpa using h
  simp [List.getD, this]
theorem edges_at {i : Nat} {o : Oper} (h : ops[i]? = some o) : (edgesOf ops)[i]? = some (bindOn o) := by
  unfold edgesOf
  have : ops.toList[i]? = some o := by simpa using h
  simp [this]
theorem edges_at' {i : Nat} {es : List Nat} (h : (edgesOf ops)[i]? = some es) : ∃ o, ops[i]? = some o ∧ es = bindOn o := by
  unfold edgesOf at h
  simp only [List.getElem?_map, Option.map_eq_some_iff] at h
  obtain ⟨o, h1, h2⟩ := h
  exact ⟨o, by simpa using h1, h2.symm⟩

theorem Stat.lt (S : Stat P n ops f0 ds s0) {i : Nat} {es : List Nat} (h : (edgesOf ops)[i]? = some es) : ∀ e ∈ es, e < i := by
  have := S.reg
  unfold regOk at this
  simp only [Bool.and_eq_true, List.all_eq_true] at this
  have h1 := this.1 (es, i) (by
    rw [List.mem_iff_getElem?]
    refine ⟨i, ?_⟩
    rw [List.getElem?_zipIdx, h]; simp)
  intro e he
  simpa using h1 e he

theorem Stat.slots (S : Stat P n ops f0 ds s0) {i j : Nat} {x y : Oper} (hi : ops[i]? = some y) (hj : ops[j]? = some x) (hlt : j < i) :
    depOf (clos (edgesOf ops) []) j i = true ∨ slotIndep (cOper P n ops x) (cOper P n ops y) = true := by
  have := S.reg
  unfold regOk at this
  simp only [Bool.and_eq_true, List.all_eq_true, List.mem_range] at this
  have hil : i < (aopsOf P n ops).length := by
    have : i < ops.size := (Array.getElem?_eq_some_iff.1 hi).1
    simpa [aopsOf] using this
  have h1 := this.2 i hil j hlt
  rw [aops_at hi, aops_at hj] at h1
  simpa using h1

theorem disj_spec {xs ys : List Nat} (h : disj xs ys = true) {b : Nat} (hx : b ∈ xs) : b ∉ ys := by
  unfold disj at h
  have := (List.all_eq_true.1 h) b hx
  simpa using this

theorem log_at {k i : Nat} (h : i < k) : (logOf ds k).getD i ([], []) = ((ds i).rd, (ds i).wr) := by
  unfold logOf
  simp [List.getD, h]

theorem Stat.heap (S : Stat P n ops f0 ds s0) {i j : Nat} (hi : i < ops.size) (hlt : j < i) (hnd : depOf (clos (edgesOf ops) []) j i = false) (b : Nat) :
    ((ds j).e b ≠ none → b ∉ (ds i).rd ∧ (ds i).e b = none) ∧ ((ds i).e b ≠ none → b ∉ (ds j).rd) := by
  obtain ⟨y, hy, hdy, ⟨gy, cy, cgy⟩, _, _, _, wy, fy⟩ := S.good i hi
  obtain ⟨x, hx, hdx, ⟨gx, cx, cgx⟩, _, _, _, wx, fx⟩ := S.good j (by omega)
  by_cases hyh : heapy (cOp P y.op y.type) = true
  · by_cases hxh : heapy (cOp P x.op x.type) = true
    · have hp := S.par
      unfold parOk at hp
      have hm : (j, i) ∈ parOf (clos (edgesOf ops) []) (aopsOf P n ops) := by
        unfold parOf
        refine List.mem_flatMap.2 ⟨i, List.mem_range.2 (by simpa [aopsOf] using hi), List.mem_filterMap.2 ⟨j, List.mem_range.2 hlt, ?_⟩⟩
        rw [aops_at hy, aops_at hx, cy, cx, hnd]
        simp [hyh, hxh]
      have := (List.all_eq_true.1 hp) _ hm
      simp only [Bool.and_eq_true, log_at hi, log_at (show j < ops.size by omega)] at this
      refine ⟨fun h => ?_, fun h => disj_spec this.2 (wy b h)⟩
      have h1 := disj_spec this.1 (wx b h)
      simp only [List.mem_append, not_or] at h1
      refine ⟨h1.1, ?_⟩
      cases he : (ds i).e b with
      | none => rfl
      | some z => exact absurd (wy b (by rw [he]; simp)) h1.2
    · have := fx (by simpa using hxh)
      exact ⟨fun h => absurd (by rw [this.2]; rfl) h, fun _ => by rw [this.1]; simp⟩
  · have := fy (by simpa using hyh)
    exact ⟨fun _ => ⟨by rw [this.1]; simp, by rw [this.2]; rfl⟩, fun h => absurd (by rw [this.2]; rfl) h⟩

/-- A set of operations that is closed under the edges. -/
def Closed (ops : Array Oper) (D : Nat → Bool) : Prop := ∀ i es, (edgesOf ops)[i]? = some es → D i = true → ∀ e ∈ es, D e = true

theorem Stat.before (S : Stat P n ops f0 ds s0) {D : Nat → Bool} (hD : Closed ops D) {i j : Nat} {es : List Nat} (hi : (edgesOf ops)[i]? = some es) (hr : ∀ e ∈ es, D e = true) (h : depOf (clos (edgesOf ops) []) j i = true) : D j = true := by
  obtain ⟨e, he, h | ⟨hlt, h⟩⟩ := dep_step hi h
  · subst h; exact hr _ he
  · refine dep_closed hD e j ?_ h (hr e he)
    have : i < (edgesOf ops).length := (List.getElem?_eq_some_iff.1 hi).1
    omega
theorem Stat.after (S : Stat P n ops f0 ds s0) {D : Nat → Bool} (hD : Closed ops D) {i j : Nat} (hj : j < ops.size) (hi : D i = false) (h : depOf (clos (edgesOf ops) []) i j = true) : D j = false := by
  cases hdj : D j with
  | false => rfl
  | true =>
    have := dep_closed hD j i (by simpa [edgesOf] using hj) h hdj
    rw [hi] at this; cases this

theorem Stat.tm (S : Stat P n ops f0 ds s0) {D : Nat → Bool} (hD : Closed ops D) {i : Nat} {o : Oper} (ho : ops[i]? = some o) (hi : D i = false) (hr : ∀ e ∈ bindOn o, D e = true) {t : Nat} (ht : t ∈ slotsOf (cOper P n ops o)) :
    (stP (dstF ops) ds s0 D ops.size).tm t = (stP (dstF ops) ds s0 (fun _ => true) i).tm t := by
  have hlt : i < ops.size := (Array.getElem?_eq_some_iff.1 ho).1
  show accP s0.tm (gT (dstF ops) ds) D ops.size t = accP s0.tm (gT (dstF ops) ds) (fun _ => true) i t
  have w : ∀ j, j < ops.size → j ≠ i → gT (dstF ops) ds j t ≠ none → (j < i → D j = true) ∧ (i < j → D j = false) := by
    intro j hj hne hg
    have hdj : dstF ops j = some t := by
      unfold gT at hg
      split at hg
      · assumption
      · exact absurd rfl hg
    have hoj : ops[j]? = some ops[j] := Array.getElem?_eq_getElem hj
    have hd' : ops[j].dst = some t := by simpa [dstF, hoj] using hdj
    obtain ⟨x, hx, hdx, ⟨gx, cx, cgx⟩, _⟩ := S.good j hj
    rw [hoj] at hx; cases hx
    refine ⟨fun hji => ?_, fun hij => ?_⟩
    · rcases S.slots ho hoj hji with h | h
      · exact S.before hD (edges_at ho) hr h
      · exfalso
        unfold slotIndep at h
        rw [cx] at h
        simp only [hd', Bool.and_eq_true] at h
        have := h.1.1
        simp at this
        exact this ht
    · rcases S.slots hoj ho hij with h | h
      · exact S.after hD hj hi h
      · exfalso
        unfold slotIndep at h
        rw [cx] at h
        simp only [hd', Bool.and_eq_true] at h
        have := h.2
        simp at this
        exact this ht
  rw [accP_skip (i := i) (by omega) (fun j h1 h2 hg => ?_)]
  · refine accP_eq fun j hj hg => ?_
    exact ((w j (by omega) (by omega) hg).1 hj).trans rfl
  · by_cases hji : j = i
    · subst hji; exact hi
    · exact (w j h2 hji hg).2 (by omega)

theorem Stat.hp (S : Stat P n ops f0 ds s0) {D : Nat → Bool} (hD : Closed ops D) {i : Nat} {o : Oper} (ho : ops[i]? = some o) (hi : D i = false) (hr : ∀ e ∈ bindOn o, D e = true) {b : Nat} (hb : b ∈ (ds i).rd) :
    (stP (dstF ops) ds s0 D ops.size).hp b = (stP (dstF ops) ds s0 (fun _ => true) i).hp b := by
  have hlt : i < ops.size := (Array.getElem?_eq_some_iff.1 ho).1
  show accP s0.hp (gH ds) D ops.size b = accP s0.hp (gH ds) (fun _ => true) i b
  have w : ∀ j, j < ops.size → j ≠ i → gH ds j b ≠ none → (j < i → D j = true) ∧ (i < j → D j = false) := by
    intro j hj hne hg
    refine ⟨fun hji => ?_, fun hij => ?_⟩
    · cases hdep : depOf (clos (edgesOf ops) []) j i with
      | true => exact S.before hD (edges_at ho) hr hdep
      | false => exact absurd hb ((S.heap hlt hji hdep b).1 hg).1
    · cases hdep : depOf (clos (edgesOf ops) []) i j with
      | true => exact S.after hD hj hi hdep
      | false => exact absurd hb ((S.heap hj hij hdep b).2 hg)
  rw [accP_skip (i := i) (by omega) (fun j h1 h2 hg => ?_)]
  · refine accP_eq fun j hj hg => ?_
    exact ((w j (by omega) (by omega) hg).1 hj).trans rfl
  · by_cases hji : j = i
    · subst hji; exact hi
    · exact (w j h2 hji hg).2 (by omega)

theorem Stat.add (S : Stat P n ops f0 ds s0) {D : Nat → Bool} (hD : Closed ops D) {i : Nat} {o : Oper} (ho : ops[i]? = some o) (hi : D i = false) {D' : Nat → Bool} (hD' : ∀ j, D' j = (D j || j == i)) :
    (stP (dstF ops) ds s0 D' ops.size).tm = putD o.dst (ds i).v (stP (dstF ops) ds s0 D ops.size).tm ∧ (stP (dstF ops) ds s0 D' ops.size).hp = hpEff (ds i).e (stP (dstF ops) ds s0 D ops.size).hp := by
  have hlt : i < ops.size := (Array.getElem?_eq_some_iff.1 ho).1
  have hdi : dstF ops i = o.dst := by simp [dstF, ho]
  have hDi : D' i = true := by rw [hD' i]; simp
  have hne : ∀ j, j ≠ i → D' j = D j := by
    intro j hj; rw [hD' j]
    have : (j == i) = false := by simpa using hj
    simp [this]
  have gen : ∀ {β : Type} (f : Nat → β) (g : Nat → Nat → Option β) (x : Nat), (g i x ≠ none → ∀ j, j < ops.size → i < j → g j x ≠ none → D j = false) →
      accP f g D' ops.size x = (g i x).getD (accP f g D ops.size x) := by
    intro β f g x hw
    cases hg : g i x with
    | none =>
      rw [Option.getD_none]
      refine accP_eq fun j hj hgj => ?_
      by_cases h : j = i
      · subst h; exact absurd hg hgj
      · exact hne j h
    | some v =>
      rw [Option.getD_some, accP_skip (i := i + 1) (by omega) (fun j h1 h2 h3 => ?_)]
      · simp only [accP, hDi, ↓reduceIte, hg, Option.getD_some]
      · rw [hne j (by omega)]
        exact hw (by rw [hg]; simp) j h2 (by omega) h3
  constructor
  · funext t
    have h1 := gen s0.tm (gT (dstF ops) ds) t (fun h0 j hj hij hg => by
      have hdi' : o.dst = some t := by
        unfold gT at h0
        split at h0
        · rename_i h; rw [hdi] at h; exact h
        · exact absurd rfl h0
      have hdj : dstF ops j = some t := by
        unfold gT at hg
        split at hg
        · assumption
        · exact absurd rfl hg
      have hoj : ops[j]? = some ops[j] := Array.getElem?_eq_getElem hj
      have hd' : ops[j].dst = some t := by simpa [dstF, hoj] using hdj
      obtain ⟨x, hx, hdx, ⟨gx, cx, cgx⟩, _⟩ := S.good j hj
      rw [hoj] at hx; cases hx
      obtain ⟨y, hy, hdy, ⟨gy, cy, cgy⟩, _⟩ := S.good i hlt
      rw [ho] at hy; cases hy
      rcases S.slots hoj ho hij with h | h
      · exact S.after hD hj hi h
      · exfalso
        unfold slotIndep at h
        rw [cx, cy] at h
        simp only [hd', hdi', Bool.and_eq_true] at h
        have := h.1.2
        simp at this)
    show accP s0.tm (gT (dstF ops) ds) D' ops.size t = putD o.dst (ds i).v (fun x => accP s0.tm (gT (dstF ops) ds) D ops.size x) t
    rw [h1]
    unfold gT
    rw [hdi]
    cases hd : o.dst with
    | none => simp [putD]
    | some d =>
      by_cases e : d = t
      · subst e; simp [putD, upd]
      · have : ¬ t = d := fun h => e h.symm
        simp [putD, upd, e, this]
  · funext b
    have h1 := gen s0.hp (gH ds) b (fun h0 j hj hij hg => by
      cases hdep : depOf (clos (edgesOf ops) []) i j with
      | true => exact S.after hD hj hi hdep
      | false => exact absurd ((S.heap hj hij hdep b).1 h0).2 hg)
    show accP s0.hp (gH ds) D' ops.size b = hpEff (ds i).e (fun x => accP s0.hp (gH ds) D ops.size x) b
    rw [h1]
    unfold gH hpEff
    cases (ds i).e b <;> rfl
end
end Go.Am
