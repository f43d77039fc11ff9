/- What one operation of the model does is what the compact operation says: values and reads. -/
import Derived.Test.YtaboolnmkfenlaaAm3
import Derived.Deep.AppendSrc
namespace Go.Am
set_option linter.unusedVariables false
set_option linter.unusedSimpArgs false

def evO (tm : Nat → AV) : AO → AV
  | .t k => tm k
  | .c x => x

theorem noMuLe (μ : Mu) : MuLe noMu μ := fun _ _ h => by cases h
theorem Same.refl (A : Nat → Prop) (w : World) : Same A w w := fun _ _ => rfl

section
variable {P : Program} {c : Ctx} {A : Nat → Prop} {μ : Mu} {fr : Nat → Prop} {tm : Nat → AV} {hp : Hp} {n : Nat} {a : Act} {w : World}

theorem RV.up {x : AV} {v : Value} (h : RV w A x noMu v) : RV w A x μ v := h.mono (Same.refl A w) (fun _ h => h) x (noMuLe μ)
theorem RVL.up {xs : List AV} {vs : List Value} (h : RVL w A xs noMu vs) : RVL w A xs μ vs := RVL.mono (Same.refl A w) (fun _ h => h) xs (noMuLe μ) h

theorem plainB_iff {v : Value} (h : plainB v = true) : plainV v := by
  unfold plainB at h
  split at h <;> simp_all [plainV, inK]

theorem rv_const1 (v : Value) : RV w A (ofConst1 v) μ v := by
  unfold ofConst1
  split
  · exact .inl ⟨rfl, none, rfl⟩
  · split
    · rename_i h; exact ⟨rfl, plainB_iff h⟩
    · trivial
theorem rv_const (v : Value) : RV w A (ofConst v) μ v := by
  unfold ofConst
  split
  · rename_i cs
    split
    · rename_i h
      refine ⟨cs.toList, by simp, ?_, fun v hv => (Array.all_eq_true_iff_forall_mem.1 h) v (by simpa using hv)⟩
      refine RVL.of_get (by simp) fun i x v hx hv => ?_
      simp only [List.getElem?_map, hv, Option.map_some, Option.some.injEq] at hx
      subst hx
      exact rv_const1 v
    · trivial
  · exact rv_const1 v

theorem RelE.ev (H : RelE c A μ fr tm hp n a w) (x : Operand) : RV w A (evO tm (cO x)) μ (a.eval x) := by
  cases x with
  | tmp t => exact H.tm t
  | const v => exact rv_const v
  | func f => exact ⟨[], rfl, rfl⟩
  | global g => trivial

/-- A solid value that is no struct and no array is one cell. -/
theorem RV.one {x : AV} {v : Value} (hs : x.solid = true) (hg : x.isAgg = false) (h : RV w A x μ v) : v.oneCell' = true := by
  have := (RV.cells hs h).1.length
  cases x with
  | val v => obtain ⟨rfl, hp⟩ := h; exact hp.one
  | agg cs => simp [AV.isAgg] at hg
  | tup xs => simp [AV.solid] at hs
  | func f caps => obtain ⟨vs, rfl, _⟩ := h; rfl
  | ref b off => obtain ⟨hd, _, _, rfl⟩ := h; rfl
  | eref b i off => obtain ⟨hd, _, _, rfl⟩ := h; rfl
  | rptr x off => obtain ⟨_, _, _, rfl, _⟩ := h; rfl
  | vec b => obtain ⟨hd, _, rfl⟩ := h; obtain ⟨a, n, c, e⟩ := hd.val_slice; rw [e]; rfl
  | vsub b lo len => obtain ⟨hd, _, _, _, _, _, _, _, rfl⟩ := h; rfl
  | asub b off len k => obtain ⟨hd, _, _, _, _, _, _, rfl⟩ := h; rfl
  | sl k es full => rcases h with ⟨_, _, rfl⟩ | ⟨_, _, _, _, rfl, _⟩ <;> rfl
  | unk => simp [AV.solid] at hs

def Reads (w : World) (b o : Nat) (v : Value) : Prop := ∀ p u, v.cells[p]? = some u → w.cell? ⟨b, o + p, none⟩ = some u

theorem run_isAgg_of {t : TypeId} {d : TypeDesc} (hu : P.underlying t = some d) : (isAgg t).run P w = .ok (aggOf P t) w := by
  unfold isAgg aggOf
  rw [Sem.run_bind, run_underlying hu w, hu]
  cases d <;> rfl
theorem run_sizeOf_of {t : TypeId} {s : Nat} (hs : sizeOf? P t = some s) : (sizeOf t).run P w = .ok s w := by
  unfold sizeOf? at hs
  cases hi : P.info? t with
  | none => simp [hi] at hs
  | some i => simp [hi] at hs; simp [sizeOf, typeInfo, hi, hs]

theorem agg_eta {v : Value} {y : AV} (hy : RV w A y μ v) (h : y.isAgg = true) : v = .agg v.cells := by
  cases y <;> simp [AV.isAgg] at h
  obtain ⟨vs, rfl, _⟩ := hy; rfl

theorem rv_part {y : AV} {v : Value} {off size : Nat} {agg : Bool} (hy : RV w A y μ v) (hok : partOk y off size agg) (ha : agg = true) :
    RV w A (.agg ((y.cells.drop off).take size)) μ (.agg ((v.cells.toList.drop off).take size).toArray) := by
  obtain ⟨h1, h2, h3⟩ := hok
  have hc := RV.cells h1 hy
  exact ⟨_, rfl, (hc.1.drop off).take size, fun u hu => hc.2 u (List.mem_of_mem_drop (List.mem_of_mem_take hu))⟩

theorem partA_agg {y : AV} {v : Value} {off size : Nat} (hy : RV w A y μ v) (hok : partOk y off size true) :
    RV w A (partA y off size true) μ (.agg ((v.cells.toList.drop off).take size).toArray) := by
  unfold partA
  split
  · rename_i h
    obtain ⟨rfl, h2, h3⟩ := h
    have e := agg_eta hy h3
    have hl := (RV.cells hok.1 hy).1.length
    rw [List.drop_zero, List.take_of_length_le (by omega), Array.toArray_toList, ← e]
    exact hy
  · exact rv_part hy hok rfl

theorem partA_one {y : AV} {v u : Value} {off size : Nat} (hy : RV w A y μ v) (hok : partOk y off size false) (hu : v.cells[off]? = some u) :
    RV w A (partA y off size false) μ u := by
  have hc := RV.cells hok.1 hy
  unfold partA
  split
  · rename_i h
    obtain ⟨rfl, h2, h3⟩ := h
    have ho := RV.one hok.1 h3 hy
    rw [oneCell_cells ho] at hu
    simp at hu; subst hu; exact hy
  · simp only [Bool.false_eq_true, ↓reduceIte]
    have hlt : off < y.cells.length := by have := hok.2.1; have := hok.2.2 rfl; omega
    refine hc.1.get2 (i := off) ?_ (by simpa using hu)
    rw [List.getElem?_eq_getElem hlt]; simp [List.getD, List.getElem?_eq_getElem hlt]

theorem load_part {t : TypeId} {d : TypeDesc} {size : Nat} (hu : P.underlying t = some d) (hs : sizeOf? P t = some size) {y : AV} {v : Value} {off b o : Nat}
    (hy : RV w A y μ v) (hok : partOk y off size (aggOf P t)) (hr : Reads w b o v) :
    ∃ cv, (loadVar t ⟨b, o + off, none⟩).run P w = .ok cv w ∧ RV w A (partA y off size (aggOf P t)) μ cv := by
  have hc := RV.cells hok.1 hy
  have hl := hc.1.length
  cases hg : aggOf P t with
  | true =>
    rw [hg] at hok
    refine ⟨_, ?_, partA_agg hy hok⟩
    have hlen : ((v.cells.toList.drop off).take size).length = size := by
      have := hok.2.1; simp; simp at hl; omega
    have hrun := run_loadCells_list (P := P) w ⟨b, o + off, none⟩ ((v.cells.toList.drop off).take size) (fun j u hj => by
      rw [Addr.add_lit]
      rw [List.getElem?_take] at hj
      split at hj
      · rw [List.getElem?_drop] at hj
        rw [Nat.add_assoc]
        exact hr _ _ (by simpa using hj)
      · cases hj)
    rw [hlen] at hrun
    simp [loadVar, run_isAgg_of hu, hg, run_sizeOf_of hs, hrun]
  | false =>
    rw [hg] at hok
    have hlt : off < v.cells.size := by have := hok.2.1; have := hok.2.2 rfl; simp at hl; omega
    refine ⟨v.cells[off], ?_, partA_one hy hok (by simp [hlt])⟩
    have hcell := hr off _ (by simp [hlt] : v.cells[off]? = some v.cells[off])
    simp [loadVar, run_isAgg_of hu, hg, hcell]

/-! ### Blocks of the frame -/
theorem RelE.box (H : RelE c A μ fr tm hp n a w) {b : Nat} {y : AV} (hb : hp b = some (.box y)) :
    ∃ hd v ty, μ b = some hd ∧ hd.emp = none ∧ y.solid = true ∧ RV w A y μ v ∧ w.heap[hd.blk]? = some (.cells v.cells ty (0, 0)) ∧ Reads w hd.blk 0 v := by
  obtain ⟨hd, h1, ⟨h2, h3, v, ty, h4, h5⟩, h6⟩ := H.blk b _ hb
  exact ⟨hd, v, ty, h1, h2, h3, h4, h5, fun p u hu => by rw [Nat.zero_add, cell_of_row w hd.blk p v.cells ty _ h5]; exact hu⟩

theorem flat_at {vs : List Value} {k : Nat} (hk : ∀ v ∈ vs, v.cells.size = k) : ∀ {i p : Nat} {v : Value}, vs[i]? = some v → p < k →
    (vs.flatMap (·.cells.toList))[i * k + p]? = v.cells[p]? := by
  induction vs with
  | nil => intro i p v h; simp at h
  | cons x xs ih =>
    intro i p v h hp
    have hx : x.cells.size = k := hk x (by simp)
    cases i with
    | zero =>
      simp at h; subst h
      rw [List.flatMap_cons, List.getElem?_append_left (by simp; omega)]
      simp
    | succ i =>
      rw [List.flatMap_cons, List.getElem?_append_right (by simp [hx]; rw [Nat.add_mul]; omega)]
      have : (i + 1) * k + p - x.cells.toList.length = i * k + p := by simp [hx, Nat.add_mul]; omega
      rw [this]
      exact ih (fun v hv => hk v (by simp [hv])) (by simpa using h) hp
theorem flat_len {vs : List Value} {k : Nat} (hk : ∀ v ∈ vs, v.cells.size = k) : (vs.flatMap (·.cells.toList)).length = vs.length * k := by
  induction vs with
  | nil => simp
  | cons x xs ih =>
    rw [List.flatMap_cons, List.length_append, ih (fun v hv => hk v (by simp [hv]))]
    have := hk x (by simp)
    simp [this, Nat.add_mul]; omega

theorem flat_reads {b o : Nat} {vs : List Value} {k : Nat} (hk : ∀ v ∈ vs, v.cells.size = k)
    (hr : ∀ p u, (vs.flatMap (·.cells.toList))[p]? = some u → w.cell? ⟨b, o + p, none⟩ = some u) {i : Nat} {v : Value} (hv : vs[i]? = some v) : Reads w b (o + i * k) v := by
  intro p u hu
  have hp : p < k := by
    have := hk v (List.mem_of_getElem? hv)
    rcases Nat.lt_or_ge p v.cells.size with h | h
    · omega
    · simp [Array.getElem?_eq_none h] at hu
  rw [Nat.add_assoc]
  exact hr _ _ (by rw [flat_at hk hv hp]; exact hu)

theorem RelE.vec (H : RelE c A μ fr tm hp n a w) {b k : Nat} {es : List AV} (hb : hp b = some (.vec k es)) :
    ∃ hd, μ b = some hd ∧ hd.k = k ∧ ((es = [] ∧ ∃ a, hd.emp = some a) ∨ (hd.emp = none ∧ hd.len = es.length ∧ hd.len ≤ hd.cap ∧ hd.cap ≤ maxLen ∧
      ∃ C ty vs, w.heap[hd.blk]? = some (.cells C ty (0, 0)) ∧ RVL w A es μ vs ∧ (∀ x ∈ es, x.solid = true) ∧ (∀ v ∈ vs, v.cells.size = k) ∧
        C.size = hd.cap * k ∧ C.toList.take (hd.len * k) = vs.flatMap (·.cells.toList) ∧
        ∀ p u, (vs.flatMap (·.cells.toList))[p]? = some u → w.cell? ⟨hd.blk, p, none⟩ = some u)) := by
  obtain ⟨hd, h1, ⟨h2, h3⟩, h6⟩ := H.blk b _ hb
  refine ⟨hd, h1, h2, ?_⟩
  rcases h3 with ⟨h3, h4⟩ | ⟨h3, h4, h5, h7, C, ty, vs, g1, g2, g3, g4, g5, g6⟩
  · exact .inl ⟨h3, Option.isSome_iff_exists.1 h4⟩
  · refine .inr ⟨h3, h4, h5, h7, C, ty, vs, g1, g2, g3, g4, g5, g6, fun p u hu => ?_⟩
    rw [cell_of_row w hd.blk p C ty _ g1]
    rw [← g6, List.getElem?_take] at hu
    split at hu
    · simpa using hu
    · cases hu

theorem RelE.row (H : RelE c A μ fr tm hp n a w) {b k len cap : Nat} {es : List AV} (hb : hp b = some (.row k es len cap)) :
    ∃ hd, μ b = some hd ∧ hd.k = k ∧ hd.emp = none ∧ hd.len = len ∧ hd.cap = cap ∧ es.length ≤ len ∧ len ≤ cap ∧ cap ≤ maxLen ∧
      ∃ C ty vs, w.heap[hd.blk]? = some (.cells C ty (0, 0)) ∧ RVL w A es μ vs ∧ (∀ x ∈ es, x.solid = true) ∧ (∀ v ∈ vs, v.cells.size = k) ∧
        C.size = cap * k ∧ C.toList.take (es.length * k) = vs.flatMap (·.cells.toList) ∧
        ∀ p u, (vs.flatMap (·.cells.toList))[p]? = some u → w.cell? ⟨hd.blk, p, none⟩ = some u := by
  obtain ⟨hd, h1, ⟨h2, h3, h4, h5, h6, h7, h8, C, ty, vs, g1, g2, g3, g4, g5, g6⟩, _⟩ := H.blk b _ hb
  refine ⟨hd, h1, h2, h3, h4, h5, h6, h7, h8, C, ty, vs, g1, g2, g3, g4, g5, g6, fun p u hu => ?_⟩
  rw [cell_of_row w hd.blk p C ty _ g1]
  rw [← g6, List.getElem?_take] at hu
  split at hu
  · simpa using hu
  · cases hu

theorem RelE.vec_at (H : RelE c A μ fr tm hp n a w) {b k i : Nat} {es : List AV} (hb : hp b = some (.vec k es)) (hi : i < es.length) :
    ∃ hd v, μ b = some hd ∧ hd.emp = none ∧ hd.k = k ∧ RV w A (es.getD i .unk) μ v ∧ v.cells.size = k ∧ Reads w hd.blk (i * k) v := by
  obtain ⟨hd, h1, h2, h3⟩ := H.vec hb
  rcases h3 with ⟨rfl, _⟩ | ⟨h3, h4, h5, h7, C, ty, vs, g1, g2, g3, g4, g5, g6, g7⟩
  · simp at hi
  · have hx : es[i]? = some (es.getD i .unk) := by simp [List.getD, List.getElem?_eq_getElem hi]
    obtain ⟨v, e1, e2⟩ := g2.get hx
    refine ⟨hd, v, h1, h3, h2, e2, g4 v (List.mem_of_getElem? e1), ?_⟩
    have := flat_reads (w := w) (b := hd.blk) (o := 0) g4 (by simpa using g7) e1
    simpa using this

theorem run_sureAddr (b : Addr) : (Instr.sureAddr (.pointer (some b))).run P w = .ok b w := rfl

theorem does_load {t : TypeId} {d : TypeDesc} {size : Nat} (hu : P.underlying t = some d) (hs : sizeOf? P t = some size) (H : RelE c A μ fr tm hp n a w) (x : Operand) (f : Nat)
    (hc : (evA (.load (aggOf P t) size (cO x)) f (evO tm) hp).c) :
    ∃ cv, (Instr.loadAt t (a.eval x)).run P w = .ok cv w ∧ RV w A (evA (.load (aggOf P t) size (cO x)) f (evO tm) hp).v μ cv := by
  have hx := H.ev x
  simp only [evA] at hc ⊢
  generalize evO tm (cO x) = X at *
  generalize a.eval x = cx at *
  cases X <;> simp only [Out.bad] at hc
  case ref b off =>
    obtain ⟨hd, h1, h2, rfl⟩ := hx
    cases hb : hp b with
    | none => simp [hb] at hc
    | some y =>
      cases y with
      | vec k es => simp [hb] at hc
      | row k es len cap => simp [hb] at hc
      | box y =>
        simp only [hb] at hc ⊢
        obtain ⟨hd', v, ty, e1, e2, e3, e4, e5, e6⟩ := H.box hb
        rw [h1] at e1; cases e1
        have := load_part hu hs (off := off) e4 hc e6
        simpa [Instr.loadAt, run_sureAddr] using this
  case eref b i off =>
    obtain ⟨hd, h1, h2, rfl⟩ := hx
    cases hb : hp b with
    | none => simp [hb] at hc
    | some y =>
      cases y with
      | box y => simp [hb] at hc
      | row k es len cap => simp [hb] at hc
      | vec k es =>
        simp only [hb] at hc ⊢
        obtain ⟨hi, hc⟩ := hc
        obtain ⟨hd', v, e1, e2, e3, e4, e5, e6⟩ := H.vec_at hb hi
        rw [h1] at e1; cases e1
        rw [e3]
        have := load_part hu hs (off := off) e4 hc e6
        simpa [Instr.loadAt, run_sureAddr] using this
  case rptr y off =>
    obtain ⟨blk, o, v, rfl, h2, h3, h4, h5⟩ := hx
    have := load_part hu hs (off := off) (h3.up (μ := μ)) hc h5
    simpa [Instr.loadAt, run_sureAddr] using this
end
end Go.Am
