/- What one operation of the model does is what the compact operation says: slices that are made, stores, appends. -/
import Derived.Test.YtaboolnmkfenlaaAm9
namespace Go.Am
set_option linter.unusedVariables false
set_option linter.unusedSimpArgs false
section
variable {P : Program} {c : Ctx} {A : Nat → Prop} {μ : Mu} {fr : Nat → Prop} {tm : Nat → AV} {hp : Hp} {n : Nat} {a : Act} {w : World}

theorem newRow_run {e : TypeId} {cells : Array Value} : (newRow e cells).run P w = .ok ⟨w.heap.size, 0, none⟩ (w.alloc (.cells cells e)) := rfl

theorem flat_replicate (n : Nat) (v : Value) : ((List.replicate n v).flatMap (·.cells.toList)) = (List.replicate n v.cells.toList).flatten := by
  induction n with
  | zero => rfl
  | succ n ih => simp only [List.replicate_succ, List.flatMap_cons, List.flatten_cons, ih]

theorem zero_cells (z : Array Value) (n : Nat) (hz : 0 < z.size) : ((Array.range (n * z.size)).map (fun i => z[i % z.size]!)).toList = (List.replicate n z.toList).flatten := by
  rw [Array.toList_map, Array.toList_range]
  induction n with
  | zero => simp
  | succ n ih =>
    rw [List.replicate_succ', List.flatten_append, ← ih, Nat.add_mul, Nat.one_mul, List.range_add, List.map_append, List.map_map]
    congr 1
    simp only [List.flatten_cons, List.flatten_nil, List.append_nil]
    apply List.ext_getElem?
    intro i
    simp only [List.getElem?_map, Function.comp_apply]
    rcases Nat.lt_or_ge i z.size with h | h
    · rw [List.getElem?_range h]
      simp only [Option.map_some, Function.comp_apply]
      rw [Nat.mul_comm, Nat.mul_add_mod, Nat.mod_eq_of_lt h]
      simp [h]
    · rw [List.getElem?_eq_none (by simpa using h)]
      simp [h]

theorem does_lit {T e : TypeId} {k N f : Nat} {z : AV} {parts : Array (Nat × Operand)}
    (hu : P.underlying T = some (.slice e)) (hs : sizeOf? P e = some k) (hz : zeroOf P e = some z) (hk : 0 < k ∧ z.solid = true ∧ z.cells.length = k ∧ N * k ≤ 2 ^ 24) (H : RelE c A μ fr tm hp n a w)
    (hc : (evA (.lit k N z (parts.toList.map fun (i, x) => (i, cO x))) f (evO tm) hp).c) :
    DoesM P c fr tm hp n a w f (Instr.buildSlice T N (parts.map fun (i, x) => (i, a.eval x))) (evA (.lit k N z (parts.toList.map fun (i, x) => (i, cO x))) f (evO tm) hp) := by
  obtain ⟨hk0, hzs, hzl, hN⟩ := hk
  simp only [evA] at hc ⊢
  obtain ⟨hc, hpu⟩ := hc
  obtain ⟨zv, hz1, hz2⟩ := run_zero (w := w) hz
  have hzr : RV w A z noMu zv := by rw [hz2]; exact rv_const zv
  obtain ⟨r1, r2⟩ := RV.cells hzs hzr
  have r3 := r1.length
  have hzk : zv.cells.size = k := by simp at r3; omega
  obtain ⟨vs', e0, e1, e2, e3, e4⟩ := run_fill_lit (w := w) (A := A) (μ := noMu) (k := k) (parts.toList.map fun p => (p.1, a.eval p.2)) ((parts.toList.map fun p => (p.1, cO p.2)).map fun p => (p.1, evO tm p.2)) (List.replicate N zv) (List.replicate N z) (by simp) (by
      intro i p q hp hq
      simp only [List.getElem?_map, Option.map_eq_some_iff] at hp hq
      obtain ⟨p', h1, rfl⟩ := hp
      obtain ⟨q', ⟨q'', h2, rfl⟩, rfl⟩ := hq
      rw [h1] at h2; cases h2
      refine ⟨rfl, RV.pure (hpu (p'.1, evO tm (cO p'.2)) ?_) (H.ev _)⟩
      simp only [List.map_map, List.mem_map, Function.comp_apply]
      exact ⟨p', List.mem_of_getElem? h1, rfl⟩)
    (RVL.of_get (by simp) fun i x v hx hv => by
      simp only [List.getElem?_replicate] at hx hv
      split at hx <;> cases hx
      split at hv <;> cases hv
      · exact hzr
      · omega)
    (by intro v hv; rw [List.eq_of_mem_replicate hv]; exact ⟨hzk, r2⟩) (by simpa using hc) (by intro x hx; rw [List.eq_of_mem_replicate hx]; exact hzs)
  have hrow : (Array.range (N * k)).map (fun i => zv.cells[i % zv.cells.size]!) = ((List.replicate N zv).flatMap (·.cells.toList)).toArray := by
    apply Array.ext'
    rw [← hzk, zero_cells _ _ (by omega), flat_replicate]
  have e5 : vs'.length = N := by simpa using e4
  have hrun : (Instr.buildSlice T N (parts.map fun (i, x) => (i, a.eval x))).run P w = .ok (.slice (some ⟨w.heap.size, 0, none⟩) N N) (w.alloc (.cells (vs'.flatMap (·.cells.toList)).toArray e)) := by
    have hpl : (Array.map (fun x => (x.fst, a.eval x.snd)) parts).toList = parts.toList.map fun p => (p.1, a.eval p.2) := by simp
    simp only [Instr.buildSlice, Sem.run_bind, run_underlying hu, Result.andThen_ok, run_sizeOf_of hs]
    rw [Sem.run_ite, if_neg (by omega)]
    by_cases h0 : N = 0
    · subst h0
      have hv' : vs' = [] := List.eq_nil_of_length_eq_zero e5
      subst hv'
      have hr0 : ∀ g : Nat → Value, (Array.range 0).map g = #[] := fun g => by simp
      simp only [Nat.zero_mul, ↓reduceIte, Sem.run_pure, Result.andThen_ok, hr0]
      simp only [List.replicate_zero, List.flatMap_nil] at e1
      have e1' : Instr.fill (fun i => some (i * k, k)) #[] (Array.map (fun x => (x.fst, a.eval x.snd)) parts).toList = some #[] := by rw [hpl]; exact e1
      simp only [e1', Sem.run_bind, newRow_run, Result.andThen_ok, Sem.run_pure]
      rfl
    · have hne : N * k ≠ 0 := by
        have := Nat.mul_pos (Nat.pos_of_ne_zero h0) hk0; omega
      simp only [hne, ↓reduceIte, Sem.run_bind, hz1, Result.andThen_ok, Sem.run_pure, hrow, hpl, e1, newRow_run]
  obtain ⟨h1, h2⟩ := H.newRO (w' := w.alloc (.cells (vs'.flatMap (·.cells.toList)).toArray e)) rfl rfl rfl (by simp) (fun k hk => heap_alloc_old w _ hk)
  have hle : (litA (List.replicate N z) ((parts.toList.map fun p => (p.1, cO p.2)).map fun p => (p.1, evO tm p.2))).length = N := by rw [e2.length, e5]
  refine ⟨_, _, _, μ, hrun, h1.free fun b hb => hb.1, ?_⟩
  refine .inr ⟨w.heap.size, 0, N, vs', ?_, .inr rfl, ?_, ?_, fun _ => ?_, RVL.mono h2 (fun _ h => .inl h) _ (MuLe.refl _) e2, e3, fun p u hu => ?_, e0⟩
  · rw [hle]
  · rw [hle]; exact Nat.le_refl _
  · have : N ≤ N * k := Nat.le_mul_of_pos_right _ hk0
    unfold maxLen; omega
  · rw [hle]
  · rw [Nat.zero_add, World.cell?_alloc_new]
    simpa using hu

/-! ### Stores -/
theorem splice_in {α : Type} (C Y : List α) (M a k off : Nat) (hM : M ≤ C.length) (ha : a + k ≤ M) (hk : off + Y.length ≤ k) :
    (C.take (a + off) ++ Y ++ C.drop (a + off + Y.length)).take M =
      (C.take M).take a ++ ((((C.take M).drop a).take k).take off ++ Y ++ (((C.take M).drop a).take k).drop (off + Y.length)) ++ (C.take M).drop (a + k) := by
  apply List.ext_getElem?
  intro p
  simp only [List.getElem?_append, List.getElem?_take, List.getElem?_drop, List.length_append, List.length_take, List.length_drop]
  have e1 : min (a + off) C.length = a + off := by omega
  have e2 : min M C.length = M := by omega
  have e3 : min a M = a := by omega
  have e4 : min k (M - a) = k := by omega
  have e5 : min off k = off := by omega
  rw [e1, e2, e3, e4, e5]
  by_cases h1 : p < a
  · rw [if_pos (by omega), if_pos (by omega), if_pos (by omega), if_pos (by omega), if_pos (by omega), if_pos (by omega), if_pos (by omega), if_pos (by omega)]
  · by_cases h2 : p < a + off
    · rw [if_pos (by omega), if_pos (by omega), if_pos (by omega), if_pos (by omega), if_pos (by omega), if_neg (by omega), if_pos (by omega), if_pos (by omega), if_pos (by omega), if_pos (by omega), if_pos (by omega)]
      congr 1; omega
    · by_cases h3 : p < a + off + Y.length
      · rw [if_pos (by omega), if_pos (by omega), if_neg (by omega), if_pos (by omega), if_neg (by omega), if_pos (by omega), if_neg (by omega)]
        congr 1; omega
      · by_cases h4 : p < a + k
        · rw [if_pos (by omega), if_neg (by omega), if_pos (by omega), if_neg (by omega), if_neg (by omega), if_pos (by omega), if_pos (by omega)]
          congr 1; omega
        · by_cases h5 : p < M
          · rw [if_pos (by omega), if_neg (by omega), if_neg (by omega), if_pos (by omega)]
            congr 1; omega
          · rw [if_neg (by omega), if_neg (by omega), if_neg (by omega)]

theorem setRow_heap' {g : Nat} {old cs : Array Value} {t : TypeId} {f : Nat × Nat} (hg : w.heap[g]? = some (.cells old t f)) : (w.setRow g cs).heap[g]? = some (.cells cs t f) := setRow_heap w g old cs t f hg

/-- The frame writes into a block of its own. -/
theorem RelE.write (H : RelE c A μ fr tm hp n a w) {b : Nat} {x0 x : Blk} {hd : Hd} (hb : hp b = some x0) (hm : μ b = some hd) (he : hd.emp = none) (cs : Array Value)
    (hok : ∀ w' : World, w' = w.setRow hd.blk cs → Same A w w' → BlkOk w' A μ hd x) :
    RelE c A μ (fun x => fr x) tm (upd (upd hp b none) b (some x)) n a (w.setRow hd.blk cs) := by
  obtain ⟨hd', e1, _, e3⟩ := H.blk b x0 hb
  rw [hm] at e1; cases e1
  obtain ⟨g1, g2, g3⟩ := e3 he
  obtain ⟨h1, h2⟩ := H.step (w' := w.setRow hd.blk cs) rfl rfl rfl (by simp) (upd hp b none) (fun b' y hy => by
      by_cases e : b' = b
      · subst e; simp [upd_same] at hy
      · rwa [upd_ne _ _ e] at hy)
    (fun k hk hne => setRow_other w hd.blk k cs (hne b x0 hd hb (upd_same _ _ _) hm he)) (fun _ => False) (fun _ h => h.elim)
  have hA : (fun x => A x ∨ False) = A := by funext x; simp
  rw [hA] at h1
  have h3 := h1.add b (upd_same _ _ _) μ (MuLe.refl _) (fun _ _ => rfl) hd hm x (hok _ rfl h2) (fun _ => ⟨g1, by simpa using g2, g3⟩) (by
    intro b' x' hd' hx' hm' he' _ heq
    by_cases e : b' = b
    · subst e; simp [upd_same] at hx'
    · rw [upd_ne _ _ e] at hx'
      exact e (H.inj b' b x' x0 hd' hd hx' hb hm' hm he' he heq))
  refine h3.free fun y hy => ⟨hy, ?_⟩
  rintro rfl
  rw [(H.fr y hy).2] at hb; cases hb

theorem cells_agg (vs : Array Value) : (Value.agg vs).cells = vs := rfl

theorem rv_setPart {y v : AV} {yv vv : Value} {off : Nat} {size : Nat} (hy : RV w A y μ yv) (hv : RV w A v μ vv) (hok : setOk y off size v) :
    (setPart y off v).solid = true ∧ ∃ z, RV w A (setPart y off v) μ z ∧ z.cells.toList = yv.cells.toList.take off ++ vv.cells.toList ++ yv.cells.toList.drop (off + vv.cells.toList.length) := by
  obtain ⟨h1, h2, h3, h4⟩ := hok
  obtain ⟨y1, y2⟩ := RV.cells h1 hy
  obtain ⟨v1, v2⟩ := RV.cells h2 hv
  have l1 := y1.length
  have l2 := v1.length
  unfold setPart
  split
  · rename_i h
    obtain ⟨rfl, h6, h7⟩ := h
    refine ⟨h2, vv, hv, ?_⟩
    rw [List.take_zero, List.nil_append, List.drop_eq_nil_of_le (by omega), List.append_nil]
  · refine ⟨rfl, .agg (yv.cells.toList.take off ++ vv.cells.toList ++ yv.cells.toList.drop (off + vv.cells.toList.length)).toArray, ⟨_, rfl, ?_, ?_⟩, by simp [Value.cells]⟩
    · unfold splice
      rw [l2]
      exact ((y1.take off).append v1).append (y1.drop _)
    · intro u hu
      simp only [List.mem_append] at hu
      rcases hu with (hu | hu) | hu
      · exact y2 u (List.mem_of_mem_take hu)
      · exact v2 u hu
      · exact y2 u (List.mem_of_mem_drop hu)

theorem run_storeVar_at {t ty : TypeId} {size g o : Nat} (hs : sizeOf? P ty = some size) {cur : Array Value} (hg : w.heap[g]? = some (.cells cur t (0, 0))) {v : Value} (hv : v.cells.size = size) (hl : o + size ≤ cur.size) (ho : cellsOk v) :
    (storeVar ty ⟨g, o, none⟩ v).run P w = .ok () (w.setRow g (cur.toList.take o ++ v.cells.toList ++ cur.toList.drop (o + v.cells.toList.length)).toArray) := by
  have h := run_storeCells_at (P := P) g o t v.cells.toList 0 cur w hg (by simp; omega) ho
  simp only [Nat.add_zero] at h
  simp only [storeVar, Sem.run_bind, run_sizeOf_of hs, Result.andThen_ok]
  simp [hv, h]

def DoesU (P : Program) (c : Ctx) (fr : Nat → Prop) (tm : Nat → AV) (hp : Hp) (n : Nat) (a : Act) (w : World) (s : Sem Unit) (out : Out) : Prop :=
  ∃ w' A' μ', s.run P w = .ok () w' ∧ RelE c A' μ' fr tm (hpAfter out hp) n a w'

theorem does_store {T : TypeId} {size f : Nat} (hs : sizeOf? P T = some size) (H : RelE c A μ fr tm hp n a w) {x y : Operand} (hc : (evA (.store size (cO x) (cO y)) f (evO tm) hp).c) :
    DoesU P c fr tm hp n a w (Instr.storeAt T (a.eval x) (a.eval y)) (evA (.store size (cO x) (cO y)) f (evO tm) hp) := by
  have hx := H.ev x
  have hy := H.ev y
  unfold DoesU
  simp only [evA] at hc ⊢
  generalize evO tm (cO x) = X at *
  generalize a.eval x = xv at *
  generalize evO tm (cO y) = Y at *
  generalize a.eval y = yv at *
  cases X <;> simp only [Out.bad] at hc
  case ref b off =>
    obtain ⟨hd, h1, h2, rfl⟩ := hx
    split at hc
    case h_2 => exact hc.elim
    rename_i z hb
    simp only [hb]
    obtain ⟨hd', v, ty, e1, e2, e3, e4, e5, e6⟩ := H.box hb
    rw [h1] at e1; cases e1
    obtain ⟨c1, c2, c3, c4⟩ := hc
    obtain ⟨r1, r2⟩ := RV.cells c2 hy
    have r3 := r1.length
    have r4 := (RV.cells c1 e4).1.length
    have hst := run_storeVar_at (P := P) hs e5 (o := off) (v := yv) (by simp at r3; omega) (by simp at r4; omega) r2
    refine ⟨_, A, μ, by simp only [Instr.storeAt, Sem.run_bind, run_sureAddr, Result.andThen_ok]; exact hst, ?_⟩
    refine H.write hb h1 h2 _ (fun w' hw' hs => ?_)
    obtain ⟨k1, zz, k2, k3⟩ := rv_setPart e4 hy ⟨c1, c2, c3, c4⟩
    refine ⟨h2, k1, zz, ty, k2.mono hs (fun _ h => h) _ (MuLe.refl _), ?_⟩
    rw [hw', setRow_heap' e5, ← k3, Array.toArray_toList]
  case eref b i off =>
    obtain ⟨hd, h1, h2, rfl⟩ := hx
    split at hc
    case h_2 => exact hc.elim
    rename_i k es hb
    simp only [hb]
    obtain ⟨hi, c1, c2, c3, c4⟩ := hc
    obtain ⟨hd', e1, e2, e3⟩ := H.vec hb
    rw [h1] at e1; cases e1
    rcases e3 with ⟨rfl, _⟩ | ⟨g1, g2, g3, g4, C, ty, vs, k1, k2, k3, k4, k5, k6, k7⟩
    · simp at hi
    have hxe : es[i]? = some (es.getD i .unk) := by simp [List.getD, List.getElem?_eq_getElem hi]
    obtain ⟨v, e1, e4⟩ := k2.get hxe
    have hvk := k4 v (List.mem_of_getElem? e1)
    obtain ⟨r1, r2⟩ := RV.cells c2 hy
    have r3 := r1.length
    have r4 := (RV.cells c1 e4).1.length
    have hys : yv.cells.size = size := by simp at r3; omega
    have hle : i * k + k ≤ hd.len * k := by
      have := Nat.mul_le_mul_right k (show i + 1 ≤ hd.len by omega)
      rwa [Nat.add_mul, Nat.one_mul] at this
    have hle2 : hd.len * k ≤ hd.cap * k := Nat.mul_le_mul_right k g3
    have r4' : (es.getD i .unk).cells.length = k := by rw [r4, Array.length_toList]; exact hvk
    have hok4 : off + size ≤ k := by rw [← r4']; exact c4
    rw [e2]
    have hst := run_storeVar_at (P := P) hs k1 (o := i * k + off) (v := yv) hys (by omega) r2
    refine ⟨_, A, μ, by simp only [Instr.storeAt, Sem.run_bind, run_sureAddr, Result.andThen_ok]; exact hst, ?_⟩
    refine H.write hb h1 h2 _ (fun w' hw' hs => ?_)
    obtain ⟨p1, zz, p2, p3⟩ := rv_setPart e4 hy ⟨c1, c2, c3, c4⟩
    have hzk : zz.cells.size = k := by
      have := congrArg List.length p3
      simp only [Array.length_toList, List.length_append, List.length_take, List.length_drop] at this
      omega
    have hilt : i < vs.length := by rw [← k2.length]; exact hi
    refine ⟨e2, .inr ⟨h2, by simpa using g2, g3, g4, _, ty, vs.set i zz, by rw [hw']; exact setRow_heap' k1, ?_, ?_, ?_, ?_, ?_⟩⟩
    · exact (RVL.mono hs (fun _ h => h) _ (MuLe.refl _) k2).set i (p2.mono hs (fun _ h => h) _ (MuLe.refl _))
    · intro u hu
      rcases List.mem_or_eq_of_mem_set hu with hu | rfl
      · exact k3 u hu
      · exact p1
    · intro u hu
      rcases List.mem_or_eq_of_mem_set hu with hu | rfl
      · exact k4 u hu
      · exact hzk
    · simp only [List.size_toArray, List.length_append, List.length_take, List.length_drop, Array.length_toList, k5]
      omega
    · rw [flat_set k4 hilt hzk, p3, ← k6]
      have hv' : v.cells.toList = ((C.toList.take (hd.len * k)).drop (i * k)).take k := by
        rw [k6]
        apply List.ext_getElem?
        intro p
        rw [List.getElem?_take]
        split
        · rename_i hp
          rw [List.getElem?_drop, flat_at k4 e1 hp]
          simp
        · simp; omega
      rw [hv']
      exact splice_in C.toList yv.cells.toList (hd.len * k) (i * k) k off (by rw [Array.length_toList]; omega) hle (by rw [Array.length_toList, hys]; exact hok4)
end
end Go.Am
