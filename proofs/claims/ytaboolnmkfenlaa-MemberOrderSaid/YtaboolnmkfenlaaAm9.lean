/- What one operation of the model does is what the compact operation says: what makes or writes memory. -/
import Derived.Test.YtaboolnmkfenlaaAm8
namespace Go.Am
set_option linter.unusedVariables false
set_option linter.unusedSimpArgs false
section
variable {P : Program} {c : Ctx} {A : Nat → Prop} {μ : Mu} {fr : Nat → Prop} {tm : Nat → AV} {hp : Hp} {n : Nat} {a : Act} {w : World}

theorem run_zero {t : TypeId} {z : AV} (hz : zeroOf P t = some z) : ∃ v, (zeroValue t).run P w = .ok v w ∧ z = ofConst v := by
  unfold zeroOf at hz
  cases hi : P.info? t with
  | none => simp [hi] at hz
  | some i =>
    cases hv : i.zero with
    | none => simp [hi, hv] at hz
    | some v => simp [hi, hv] at hz; exact ⟨v, by simp [zeroValue, typeInfo, hi, hv], hz.symm⟩

theorem cParts_spec {fs : Array Field} : ∀ (ps : List (Nat × Operand)) (qs : List (Nat × Nat × AO)), cParts P fs ps = some qs →
    qs.length = ps.length ∧ ∀ (i : Nat) (p : Nat × Operand) (q : Nat × Nat × AO), ps[i]? = some p → qs[i]? = some q → ∃ fd, fs[p.1]? = some fd ∧ q.1 = fd.offset ∧ sizeOf? P fd.type = some q.2.1 ∧ q.2.2 = cO p.2
  | [], qs, h => by simp [cParts] at h; subst h; simp
  | (i, x) :: ps, qs, h => by
    unfold cParts at h
    split at h
    case h_1 => cases h
    rename_i fd hfd
    split at h
    case h_2 => cases h
    rename_i s r' hs hr
    cases h
    obtain ⟨h1, h2⟩ := cParts_spec ps r' hr
    refine ⟨by simp [h1], fun j p q hp hq => ?_⟩
    cases j with
    | zero => simp at hp hq; subst hp; subst hq; exact ⟨fd, hfd, rfl, hs, rfl⟩
    | succ j => exact h2 j p q (by simpa using hp) (by simpa using hq)

theorem mapM_places {fs : Array Field} (hf : ∀ f ∈ fs.toList, ∃ s, sizeOf? P f.type = some s) :
    ∃ places : Array (Nat × Nat), (fs.mapM fun f => do pure (f.offset, ← sizeOf f.type) : Sem (Array (Nat × Nat))).run P w = .ok places w ∧
      places.size = fs.size ∧ ∀ (i : Nat) (fd : Field) (s : Nat), fs[i]? = some fd → sizeOf? P fd.type = some s → places[i]? = some (fd.offset, s) := by
  have key : ∀ (l : List Field), (∀ f ∈ l, ∃ s, sizeOf? P f.type = some s) → ∃ pl : List (Nat × Nat), (l.mapM fun f => do pure (f.offset, ← sizeOf f.type) : Sem (List (Nat × Nat))).run P w = .ok pl w ∧
      pl.length = l.length ∧ ∀ (i : Nat) (fd : Field) (s : Nat), l[i]? = some fd → sizeOf? P fd.type = some s → pl[i]? = some (fd.offset, s) := by
    intro l
    induction l with
    | nil => intro _; exact ⟨[], by simp, rfl, by simp⟩
    | cons f l ih =>
      intro h
      obtain ⟨s, hs⟩ := h f (by simp)
      obtain ⟨pl, e1, e2, e3⟩ := ih (fun g hg => h g (by simp [hg]))
      refine ⟨(f.offset, s) :: pl, ?_, by simp [e2], ?_⟩
      · rw [List.mapM_cons]
        simp only [Sem.run_bind, run_sizeOf_of hs, Result.andThen_ok, Sem.run_pure, e1]
      · intro i fd s' hi hs'
        cases i with
        | zero => simp at hi; subst hi; rw [hs] at hs'; cases hs'; rfl
        | succ i => simpa using e3 i fd s' (by simpa using hi) hs'
  obtain ⟨pl, e1, e2, e3⟩ := key fs.toList hf
  refine ⟨pl.toArray, ?_, by simpa using e2, ?_⟩
  · rw [Array.mapM_eq_mapM_toList]
    simp only [Sem.run_map, e1, Result.andThen_ok]
  · intro i fd s h1 h2
    simpa using e3 i fd s (by simpa using h1) h2

theorem does_build_struct {T : TypeId} {fs : Array Field} {z : List AV} {parts : Array (Nat × Operand)} {qs : List (Nat × Nat × AO)} {f : Nat}
    (hu : P.underlying T = some (.struct fs)) (hz : zeroOf P T = some (.agg z)) (hq : cParts P fs parts.toList = some qs) (hfs : ∀ f ∈ fs.toList, ∃ s, sizeOf? P f.type = some s) (H : RelE c A μ fr tm hp n a w)
    (hc : (evA (.build z qs) f (evO tm) hp).c) :
    Val P w A μ (Instr.build T (parts.map fun (i, x) => (i, a.eval x))) (evA (.build z qs) f (evO tm) hp).v := by
  simp only [evA] at hc ⊢
  obtain ⟨zv, hz1, hz2⟩ := run_zero (w := w) hz
  have hzr : RV w A (.agg z) μ zv := by rw [hz2]; exact rv_const zv
  obtain ⟨vs, rfl, hzl, hzo⟩ := hzr
  obtain ⟨places, p1, p2, p3⟩ := mapM_places (P := P) (w := w) hfs
  obtain ⟨q1, q2⟩ := cParts_spec parts.toList qs hq
  have hlen := hzl.length
  obtain ⟨cs', e1, e2, e3⟩ := run_fill (w := w) (A := A) (μ := μ) (place := (places[·]?)) (parts.toList.map fun p => (p.1, a.eval p.2)) (qs.map fun p => (p.1, p.2.1, evO tm p.2.2)) vs.toArray z (by simp [q1]) (by
      intro i p q hp hq
      simp only [List.getElem?_map, Option.map_eq_some_iff] at hp hq
      obtain ⟨p', h1, rfl⟩ := hp
      obtain ⟨q', h2, rfl⟩ := hq
      obtain ⟨fd, g1, g2, g3, g4⟩ := q2 i p' q' h1 h2
      refine ⟨?_, ?_⟩
      · simp only [g2]; exact p3 _ _ _ g1 g3
      · simp only [g4]; exact H.ev _) (by simpa using hzl) (by simpa using hzo) (by simpa [← hlen] using hc)
  refine ⟨.agg cs', ?_, cs'.toList, by simp, e2, e3⟩
  simp only [Instr.build, Sem.run_bind, hz1, Result.andThen_ok, run_underlying hu, p1, Value.cells]
  have : (Array.map (fun x => (x.fst, a.eval x.snd)) parts).toList = parts.toList.map fun p => (p.1, a.eval p.2) := by simp
  rw [this, e1]
  rfl

theorem does_build_array {T e : TypeId} {N s : Nat} {z : List AV} {parts : Array (Nat × Operand)} {f : Nat}
    (hu : P.underlying T = some (.array N e)) (hz : zeroOf P T = some (.agg z)) (hs : sizeOf? P e = some s) (H : RelE c A μ fr tm hp n a w)
    (hc : (evA (.build z (parts.toList.map fun (i, x) => (i * s, s, cO x))) f (evO tm) hp).c) :
    Val P w A μ (Instr.build T (parts.map fun (i, x) => (i, a.eval x))) (evA (.build z (parts.toList.map fun (i, x) => (i * s, s, cO x))) f (evO tm) hp).v := by
  simp only [evA] at hc ⊢
  obtain ⟨zv, hz1, hz2⟩ := run_zero (w := w) hz
  have hzr : RV w A (.agg z) μ zv := by rw [hz2]; exact rv_const zv
  obtain ⟨vs, rfl, hzl, hzo⟩ := hzr
  have hlen := hzl.length
  obtain ⟨cs', e1, e2, e3⟩ := run_fill (w := w) (A := A) (μ := μ) (place := fun i => some (i * s, s)) (parts.toList.map fun p => (p.1, a.eval p.2)) ((parts.toList.map fun p => (p.1 * s, s, cO p.2)).map fun p => (p.1, p.2.1, evO tm p.2.2)) vs.toArray z (by simp) (by
      intro i p q hp hq
      simp only [List.getElem?_map, Option.map_eq_some_iff] at hp hq
      obtain ⟨p', h1, rfl⟩ := hp
      obtain ⟨q', ⟨q'', h2, rfl⟩, rfl⟩ := hq
      rw [h1] at h2; cases h2
      exact ⟨rfl, H.ev _⟩) (by simpa using hzl) (by simpa using hzo) (by simpa [← hlen] using hc)
  refine ⟨.agg cs', ?_, cs'.toList, by simp, e2, e3⟩
  simp only [Instr.build, Sem.run_bind, hz1, Result.andThen_ok, run_underlying hu, run_sizeOf_of hs, Value.cells]
  have : (Array.map (fun x => (x.fst, a.eval x.snd)) parts).toList = parts.toList.map fun p => (p.1, a.eval p.2) := by simp
  rw [this, e1]
  rfl

theorem does_mkf {g f : Nat} {caps : Array Operand} (H : RelE c A μ fr tm hp n a w) :
    Val P w A μ (Instr.makeFunc (.func g) ((#[] : Array Operand).map a.eval) (caps.map a.eval)) (evA (.mkf g (caps.toList.map cO)) f (evO tm) hp).v := by
  refine ⟨_, rfl, caps.toList.map a.eval, ?_, ?_⟩
  · have e1 : (#[] : Array Operand).map a.eval = #[] := by simp
    have e2 : caps.map a.eval = (caps.toList.map a.eval).toArray := by apply Array.ext'; simp
    rw [e1, e2]
  · have := H.evs caps.toList
    simpa [evA, List.map_map, Function.comp_def] using this

def DoesM (P : Program) (c : Ctx) (fr : Nat → Prop) (tm : Nat → AV) (hp : Hp) (n : Nat) (a : Act) (w : World) (f : Nat) (s : Sem Value) (out : Out) : Prop :=
  ∃ cv w' A' μ', s.run P w = .ok cv w' ∧ RelE c A' μ' (fun b => fr b ∧ b ≠ f) tm (hpAfter out hp) n a w' ∧ RV w' A' out.v μ' cv

theorem Val.does {s : Sem Value} {out : Out} {f : Nat} (H : RelE c A μ fr tm hp n a w) (h : Val P w A μ s out.v) (h1 : out.rm = none) (h2 : out.ad = none) : DoesM P c fr tm hp n a w f s out := by
  obtain ⟨cv, e1, e2⟩ := h
  refine ⟨cv, w, A, μ, e1, ?_, e2⟩
  have : hpAfter out hp = hp := by simp [hpAfter, h1, h2]
  rw [this]
  exact H.free fun b hb => hb.1

/-- A new block of the frame's own. -/
theorem RelE.newOwn (H : RelE c A μ fr tm hp n a w) {f : Nat} (hf : fr f) {w' : World} (hos : w'.os = w.os) (htape : w'.tape = w.tape) (hout : w'.output = w.output)
    (hsize : w.heap.size < w'.heap.size) (hkeep : ∀ k, k < w.heap.size → w'.heap[k]? = w.heap[k]?) (hd : Hd) (he : hd.emp = none) (hb : hd.blk = w.heap.size) (x : Blk)
    (hok : ∀ A' : Nat → Prop, (∀ b, A b → A' b) → Same A w w' → BlkOk w' A' (upd μ f (some hd)) hd x) :
    ∃ A', RelE c A' (upd μ f (some hd)) (fun b => fr b ∧ b ≠ f) tm (upd hp f (some x)) n a w' := by
  obtain ⟨f1, f2⟩ := H.fr f hf
  obtain ⟨h1, h2⟩ := H.step (w' := w') hos htape hout (Nat.le_of_lt hsize) hp (fun _ _ h => h) (fun k hk _ => hkeep k hk) (fun _ => False) (fun _ h => h.elim)
  refine ⟨_, h1.add f f2 (upd μ f (some hd)) ?_ (fun b hb => upd_ne _ _ hb) hd (upd_same _ _ _) x (hok _ (fun b hb => .inl hb) h2) ?_ ?_⟩
  · intro b g hg
    by_cases e : b = f
    · subst e; rw [f1] at hg; cases hg
    · rw [upd_ne _ _ e]; exact hg
  · intro _
    rw [hb]
    refine ⟨?_, hsize, .inr H.keep.size⟩
    rintro (h | h)
    · have := H.lt _ h; omega
    · exact h
  · intro b x' hd' hx' hm he' _ e
    obtain ⟨hd'', g1, _, g3⟩ := H.blk b x' hx'
    rw [hm] at g1; cases g1
    have := (g3 he').2.1
    rw [e, hb] at this; omega

theorem MuLe_upd (H : RelE c A μ fr tm hp n a w) {f : Nat} (hf : fr f) (hd : Hd) : MuLe μ (upd μ f (some hd)) := by
  intro b g hg
  by_cases e : b = f
  · subst e; rw [(H.fr b hf).1] at hg; cases hg
  · rw [upd_ne _ _ e]; exact hg

theorem does_box {T : TypeId} {X : AO} {x : Value} {f : Nat} (H : RelE c A μ fr tm hp n a w) (hf : fr f) (hx : RV w A (evO tm X) μ x) (hc : (evA (.box X) f (evO tm) hp).c)
    (s : Sem Value) (hs : s.run P w = .ok (.pointer (some ⟨w.heap.size, 0, none⟩)) (w.alloc (.cells x.cells T))) :
    DoesM P c fr tm hp n a w f s (evA (.box X) f (evO tm) hp) := by
  simp only [evA] at hc ⊢
  let hd : Hd := ⟨none, w.heap.size, 0, 0, 0⟩
  obtain ⟨A', h⟩ := H.newOwn hf (w' := w.alloc (.cells x.cells T)) rfl rfl rfl (by simp) (fun k hk => heap_alloc_old w _ hk) hd rfl rfl (.box (evO tm X))
    (fun A' hA hs => ⟨rfl, hc, x, T, hx.mono hs hA _ (MuLe_upd H hf hd), heap_alloc_new w _⟩)
  exact ⟨_, _, A', _, hs, h, hd, upd_same _ _ _, rfl, rfl⟩

/-- A new block that nobody writes. -/
theorem RelE.newRO (H : RelE c A μ fr tm hp n a w) {w' : World} (hos : w'.os = w.os) (htape : w'.tape = w.tape) (hout : w'.output = w.output)
    (hsize : w.heap.size < w'.heap.size) (hkeep : ∀ k, k < w.heap.size → w'.heap[k]? = w.heap[k]?) :
    RelE c (fun b => A b ∨ b = w.heap.size) μ fr tm hp n a w' ∧ Same A w w' :=
  H.step hos htape hout (Nat.le_of_lt hsize) hp (fun _ _ h => h) (fun k hk _ => hkeep k hk) (fun b => b = w.heap.size) (fun b hb => ⟨by omega, by omega⟩)

theorem flat_set {vs : List Value} {k : Nat} (hk : ∀ v ∈ vs, v.cells.size = k) : ∀ {i : Nat} {v : Value}, i < vs.length → v.cells.size = k →
    ((vs.set i v).flatMap (·.cells.toList)) = (vs.flatMap (·.cells.toList)).take (i * k) ++ v.cells.toList ++ (vs.flatMap (·.cells.toList)).drop (i * k + k) := by
  intro i v hi hv
  have e1 := flat_take hk i
  have e2 := flat_drop hk (i + 1)
  rw [Nat.add_mul, Nat.one_mul] at e2
  rw [← e1, ← e2]
  have : vs.set i v = vs.take i ++ [v] ++ vs.drop (i + 1) := by
    rw [List.set_eq_take_append_cons_drop, if_pos hi]; simp
  rw [this]
  simp

theorem run_fill_lit {k : Nat} : ∀ (ps : List (Nat × Value)) (qs : List (Nat × AV)) (vs : List Value) (es : List AV),
    qs.length = ps.length → (∀ (i : Nat) (p : Nat × Value) (q : Nat × AV), ps[i]? = some p → qs[i]? = some q → q.1 = p.1 ∧ RV w A q.2 μ p.2) →
    RVL w A es μ vs → (∀ v ∈ vs, v.cells.size = k ∧ cellsOk v) → litOk k vs.length qs →
    (∀ x ∈ es, x.solid = true) → ∃ vs', (∀ x ∈ litA es qs, x.solid = true) ∧ Instr.fill (fun i => some (i * k, k)) (vs.flatMap (·.cells.toList)).toArray ps = some (vs'.flatMap (·.cells.toList)).toArray ∧ RVL w A (litA es qs) μ vs' ∧ (∀ v ∈ vs', v.cells.size = k ∧ cellsOk v) ∧ vs'.length = vs.length
  | [], qs, vs, es, hl, _, hz, ho, _ => by
    intro hso
    have : qs = [] := List.eq_nil_of_length_eq_zero (by simpa using hl)
    subst this
    exact ⟨vs, hso, rfl, hz, ho, rfl⟩
  | (i, v) :: ps, [], vs, es, hl, _, _, _, _ => by simp at hl
  | (i, v) :: ps, (j, x) :: qs, vs, es, hl, hp, hz, ho, hk => by
    intro hso
    obtain ⟨h1, h2⟩ := hp 0 _ _ rfl rfl
    obtain ⟨k1, k2, k3⟩ := hk (j, x) (by simp)
    simp only at h1 h2 k1 k2 k3
    subst h1
    obtain ⟨r1, r2⟩ := RV.cells k1 h2
    have r3 := r1.length
    have hsz : v.cells.size = k := by simp at r3; omega
    have hflen := flat_len (fun v hv => (ho v hv).1)
    have hle : j * k + k ≤ vs.length * k := by
      have := Nat.mul_le_mul_right k (show j + 1 ≤ vs.length from k3)
      rwa [Nat.add_mul, Nat.one_mul] at this
    have hfold := foldl_set_splice v.cells.toList (vs.flatMap (·.cells.toList)).toArray (j * k) 0 (by simp only [Nat.add_zero, Array.length_toList, List.size_toArray, hflen]; omega)
    have hset := flat_set (fun v hv => (ho v hv).1) k3 hsz
    obtain ⟨vs', e0, e1, e2, e3, e4⟩ := run_fill_lit ps qs (vs.set j v) (es.set j x) (by simpa using hl)
      (fun i p q hi hq => hp (i + 1) p q (by simpa using hi) (by simpa using hq)) (hz.set j h2)
      (by
        intro u hu
        rcases List.mem_or_eq_of_mem_set hu with hu | rfl
        · exact ho u hu
        · exact ⟨hsz, r2⟩)
      (by
        intro q hq
        have := hk q (by simp [hq])
        simpa using this)
      (by
        intro u hu
        rcases List.mem_or_eq_of_mem_set hu with hu | rfl
        · exact hso u hu
        · exact k1)
    refine ⟨vs', e0, ?_, e2, e3, by simpa using e4⟩
    simp only [Instr.fill]
    rw [if_neg (by simp only [hsz, List.size_toArray, hflen]; simp; omega)]
    rw [← e1]
    congr 1
    simp only [Nat.add_zero] at hfold
    rw [hset]
    rw [← Array.foldl_toList, Array.toList_zipIdx]
    rw [hfold]
    simp [hsz]
end
end Go.Am
