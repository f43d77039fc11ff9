/- What one operation of the model does is what the compact operation says: append, make, bytes of a string. -/
import Derived.Test.YtaboolnmkfenlaaAm10
namespace Go.Am
set_option linter.unusedVariables false
set_option linter.unusedSimpArgs false
section
variable {P : Program} {c : Ctx} {A : Nat → Prop} {μ : Mu} {fr : Nat → Prop} {tm : Nat → AV} {hp : Hp} {n : Nat} {a : Act} {w : World}

theorem flat_one {vs : List Value} (h : ∀ v ∈ vs, cellsOk v) : ∀ u ∈ vs.flatMap (·.cells.toList), u.oneCell' = true := by
  intro u hu
  obtain ⟨v, hv, hu⟩ := List.mem_flatMap.1 hu
  exact h v hv u hu

theorem src_of (H : RelE c A μ fr tm hp n a w) {k : Nat} {tx : TypeId} {X : AV} {x : Value} {xs : List AV} (hx : RV w A X μ x) (hs : srcA hp k X = some xs)
    {e : TypeId} (he : P.underlying tx = some (.slice e)) :
    ∃ vs, RVL w A xs μ vs ∧ (∀ v ∈ vs, v.cells.size = k) ∧ (∀ x ∈ xs, x.solid = true) ∧ Src P k tx x xs.length (vs.flatMap (·.cells.toList)) w := by
  unfold srcA at hs
  split at hs
  · rename_i k' es full
    split at hs
    case isFalse => cases hs
    rename_i hk0
    cases hs
    rcases hx with ⟨rfl, a0, rfl⟩ | ⟨blk, off, cap, vs, rfl, g1, g2, g3, g4, g5, g6, g7, g8⟩
    · refine ⟨[], rfl, by simp, by simp, ?_⟩
      cases a0 with
      | none => exact Src.ofNil w he 0
      | some aa => exact Src.ofSlice w he aa 0 0 [] (by simp) (by simp) (by simp)
    · refine ⟨vs, g5.up, ?_, g8, Src.ofSlice w he _ _ _ _ ?_ ?_ (flat_one fun v hv => (g6 v hv).2)⟩
      · intro v hv
        rcases hk0 with h | h
        · rw [← h]; exact (g6 v hv).1
        · subst h; simp [RVL] at g5; subst g5; simp at hv
      · rcases hk0 with h | h
        · subst h; rw [flat_len fun v hv => (g6 v hv).1, g5.length]
        · subst h; simp [RVL] at g5; subst g5; simp
      · intro j u hu
        rw [Addr.add_lit]; exact g7 j u hu
  · rename_i b
    split at hs
    case h_2 => cases hs
    rename_i k' es hb
    split at hs
    case isFalse => cases hs
    rename_i hk0
    subst hk0
    obtain rfl : es = xs := Option.some.inj hs
    obtain ⟨hd, e1, e2⟩ := hx
    obtain ⟨hd', f1, f2, f3⟩ := H.vec hb
    rw [e1] at f1; cases f1
    rcases f3 with ⟨rfl, a', f3⟩ | ⟨g1, g2, g3, g4, C, ty, vs, k1, k2, k3, k4, k5, k6, k7⟩
    · refine ⟨[], rfl, by simp, by simp, ?_⟩
      rw [e2, Hd.val, f3]
      cases a' with
      | none => exact Src.ofNil w he 0
      | some aa => exact Src.ofSlice w he aa 0 0 [] (by simp) (by simp) (by simp)
    · refine ⟨vs, k2, k4, k3, ?_⟩
      rw [e2, Hd.val, g1, g2]
      refine Src.ofSlice w he _ _ _ _ (by rw [flat_len k4, k2.length]) (fun j u hu => ?_) (flat_one fun v hv => ?_)
      · rw [Addr.add_lit, Nat.zero_add]; exact k7 j u hu
      · obtain ⟨i, hi⟩ := List.mem_iff_getElem?.1 hv
        have hlt : i < es.length := by rw [k2.length]; exact (List.getElem?_eq_some_iff.1 hi).1
        have hxe : es[i]? = some es[i] := List.getElem?_eq_getElem hlt
        exact (RV.cells (k3 _ (List.getElem_mem hlt)) (k2.get2 hxe hi)).2
  · rename_i b lo ln
    obtain ⟨hd, cap, o, e1, e2, e3, e4, e5, rfl⟩ := hx
    have part : ∀ (es : List AV) (vs : List Value), hd.k = k → lo + ln ≤ es.length → RVL w A es μ vs → (∀ x ∈ es, x.solid = true) → (∀ v ∈ vs, v.cells.size = k) →
        (∀ p u, (vs.flatMap (·.cells.toList))[p]? = some u → w.cell? ⟨hd.blk, p, none⟩ = some u) →
        ∃ us, RVL w A ((es.drop lo).take ln) μ us ∧ (∀ v ∈ us, v.cells.size = k) ∧ (∀ x ∈ (es.drop lo).take ln, x.solid = true) ∧ Src P k tx (.slice (some ⟨hd.blk, o, none⟩) ln cap) ((es.drop lo).take ln).length (us.flatMap (·.cells.toList)) w := by
      intro es vs f2 hk0 k2 k3 k4 k7
      have hvl := k2.length
      have hk4 : ∀ v ∈ (vs.drop lo).take ln, v.cells.size = hd.k := by intro v hv; rw [f2]; exact k4 v (List.mem_of_mem_drop (List.mem_of_mem_take hv))
      have hlen : ((es.drop lo).take ln).length = ln := by simp; omega
      refine ⟨(vs.drop lo).take ln, (k2.drop lo).take ln, by rw [← f2]; exact hk4, fun x hx => k3 x (List.mem_of_mem_drop (List.mem_of_mem_take hx)), ?_⟩
      rw [hlen]
      refine Src.ofSlice w he _ _ _ _ (by rw [← f2, flat_len hk4]; congr 1; simp; omega) (fun j u hu => ?_) (flat_one fun v hv => ?_)
      · have hln : 0 < ln := by
          rcases Nat.eq_zero_or_pos ln with h | h
          · subst h; simp at hu
          · exact h
        rw [Addr.add_lit, e4 (by omega)]
        rw [flat_take (fun v hv => k4 v (List.mem_of_mem_drop hv)), flat_drop k4, List.getElem?_take] at hu
        split at hu
        · rw [List.getElem?_drop] at hu
          rw [f2]; exact k7 _ _ hu
        · cases hu
      · have hv' := List.mem_of_mem_drop (List.mem_of_mem_take hv)
        obtain ⟨i, hi⟩ := List.mem_iff_getElem?.1 hv'
        have hlt : i < es.length := by rw [k2.length]; exact (List.getElem?_eq_some_iff.1 hi).1
        have hxe : es[i]? = some es[i] := List.getElem?_eq_getElem hlt
        exact (RV.cells (k3 _ (List.getElem_mem hlt)) (k2.get2 hxe hi)).2
    split at hs
    · rename_i k' es hb
      split at hs
      case isFalse => cases hs
      rename_i hk0
      obtain ⟨rfl, hk0⟩ := hk0
      cases hs
      obtain ⟨hd', f1, f2, f3⟩ := H.vec hb
      rw [e1] at f1; cases f1
      rcases f3 with ⟨rfl, a', f3⟩ | ⟨g1, g2, g3, g4, C, ty, vs, k1, k2, k3, k4, k5, k6, k7⟩
      · rw [e2] at f3; cases f3
      · exact part es vs f2 hk0 k2 k3 k4 k7
    · rename_i k' es len cap' hb
      split at hs
      case isFalse => cases hs
      rename_i hk0
      obtain ⟨rfl, hk0⟩ := hk0
      cases hs
      obtain ⟨hd', f1, f2, g1, g2, g3, g4, g5, g6, C, ty, vs, k1, k2, k3, k4, k5, k6, k7⟩ := H.row hb
      rw [e1] at f1; cases f1
      exact part es vs f2 hk0 k2 k3 k4 k7
    · cases hs
  · cases hs

theorem srcS_of {tx : TypeId} {X : AV} {x : Value} {xs : List AV} (hx : RV w A X μ x) (hs : srcS X = some xs) (hu : P.underlying tx = some .string) :
    ∃ vs, RVL w A xs μ vs ∧ (∀ v ∈ vs, v.cells.size = 1) ∧ (∀ x ∈ xs, x.solid = true) ∧ Src P 1 tx x xs.length (vs.flatMap (·.cells.toList)) w := by
  unfold srcS at hs
  split at hs
  · rename_i s
    cases hs
    obtain ⟨rfl, hps⟩ := hx
    refine ⟨byteCells s, ?_, ?_, ?_, ?_⟩
    · unfold byteCells
      refine RVL.of_get (by simp) fun i x v hx hv => ?_
      simp only [List.getElem?_map, Option.map_eq_some_iff] at hx hv
      obtain ⟨b, h1, rfl⟩ := hx
      obtain ⟨b', h2, rfl⟩ := hv
      rw [h1] at h2; cases h2
      exact rv_int (inK_byte b)
    · intro v hv
      unfold byteCells at hv
      obtain ⟨b, _, rfl⟩ := List.mem_map.1 hv
      rfl
    · intro x hx
      obtain ⟨b, _, rfl⟩ := List.mem_map.1 hx
      rfl
    · have hf : ∀ l : List UInt8, (l.map fun b => Value.int .u8 b.toNat).flatMap (·.cells.toList) = l.map fun b => Value.int .u8 b.toNat := by
        intro l; induction l with
        | nil => rfl
        | cons b l ih => rw [List.map_cons, List.flatMap_cons, ih]; rfl
      have := Src.ofString (P := P) w hu s
      have e1 : (byteCells s).flatMap (·.cells.toList) = byteCells s := hf _
      rw [e1]
      simpa using this
  · cases hs

theorem run_append_room_row (t tx ty e : TypeId) (i : TypeInfo) (ht : P.underlying t = some (.slice e)) (hi : P.info? e = some i) {g sLen sCap : Nat} {cur : Array Value} {e' : TypeId} (hg : w.heap[g]? = some (.cells cur e' (0, 0)))
    {x : Value} {m : Nat} {news : List Value} (hs : Src P i.size tx x m news w) (hroom : sLen + m ≤ sCap) (hfit : sLen * i.size + news.length ≤ cur.size) :
    (Builtin.append_ #[t, tx] ty #[.slice (some ⟨g, 0, none⟩) sLen sCap, x]).run P w =
      .ok (.slice (some ⟨g, 0, none⟩) (sLen + m) sCap) (w.setRow g (cur.toList.take (sLen * i.size) ++ news ++ cur.toList.drop (sLen * i.size + news.length)).toArray) := by
  have hst := run_storeCells_at (P := P) g (sLen * i.size) e' news 0 cur w hg (by simpa using hfit) hs.one
  simp only [Nat.add_zero] at hst
  rcases hs.kind with ⟨e2, hk⟩ | hk <;> simp [Builtin.append_, run_underlying ht, run_underlying hk, sizeOf, typeInfo, hi, hs.len, hroom, hs.cells, Addr.add_lit, hst]

/-- An append of nothing to nothing. -/
theorem run_append_none (t tx ty e : TypeId) (i : TypeInfo) (ht : P.underlying t = some (.slice e)) (hi : P.info? e = some i) (base : Option Addr) {x : Value} (hs : Src P i.size tx x 0 [] w) :
    (Builtin.append_ #[t, tx] ty #[.slice base 0 0, x]).run P w = .ok (.slice base 0 0) w := by
  have hst : ∀ b : Addr, (storeCells b [] 0).run P w = .ok () w := fun b => rfl
  rcases hs.kind with ⟨e2, hk⟩ | hk <;> cases base <;> simp [Builtin.append_, run_underlying ht, run_underlying hk, sizeOf, typeInfo, hi, hs.len, hs.cells, storeCells]

theorem info_of {e : TypeId} {k bytes : Nat} (hs : sizeOf? P e = some k) (hb : bytesOf? P e = some bytes) : ∃ i, P.info? e = some i ∧ i.size = k ∧ i.bytes = bytes := by
  unfold sizeOf? at hs; unfold bytesOf? at hb
  cases hi : P.info? e with
  | none => simp [hi] at hs
  | some i => simp [hi] at hs hb; exact ⟨i, rfl, hs, hb⟩

/-- What a grown row is. -/
theorem grown_ok {k need old : Nat} {e : TypeId} {z : Value} (hz : z.cells.size = k) (h1 : need ≤ maxLen) {es : List AV} {vs : List Value} (hl : es.length = need)
    (hv : RVL w A es μ vs) (hso : ∀ x ∈ es, x.solid = true) (hk : ∀ v ∈ vs, v.cells.size = k)
    {w' : World} {A' : Nat → Prop} {μ' : Mu} (hs : Same A w w') (hA : ∀ b, A b → A' b) (hμ : MuLe μ μ') {blk : Nat}
    (hblk : w'.heap[blk]? = some (.cells ((vs.flatMap (·.cells.toList)).toArray ++ Builtin.zeroCells z.cells (grownCap w need old e - need)) e (0, 0))) :
    BlkOk w' A' μ' ⟨none, blk, k, need, grownCap w need old e⟩ (.vec k es) := by
  have hge := grownCap_ge w need old e
  have hcm := grownCap_le_maxLen w need old e h1
  refine ⟨rfl, .inr ⟨rfl, hl.symm, hge, hcm, _, e, vs, hblk, RVL.mono hs hA _ hμ hv, hso, hk, ?_, ?_⟩⟩
  · simp only [Array.size_append, List.size_toArray, size_zeroCells, hz, flat_len hk, ← hv.length, hl, ← Nat.add_mul]
    congr 1; omega
  · simp only [Array.toList_append]
    have : need * k = (vs.flatMap (·.cells.toList)).length := by rw [flat_len hk, ← hv.length, hl]
    rw [this]; exact List.take_left

theorem same_grow (H : RelE c A μ fr tm hp n a w) (o : Obj) : Same A w (w.drew.alloc o) := fun b hb => heap_alloc_old w.drew o (H.lt b hb)

/-- The frame lets a block of its own go. -/
theorem RelE.drop (H : RelE c A μ fr tm hp n a w) (b : Nat) : RelE c A μ fr tm (upd hp b none) n a w := by
  have hsub : ∀ b' y, upd hp b none b' = some y → hp b' = some y := by
    intro b' y hy
    by_cases e : b' = b
    · subst e; simp [upd_same] at hy
    · rwa [upd_ne _ _ e] at hy
  obtain ⟨h1, _⟩ := H.step (w' := w) rfl rfl rfl (Nat.le_refl _) (upd hp b none) hsub (fun _ _ _ => rfl) (fun _ => False) (fun _ h => h.elim)
  have hA : (fun x => A x ∨ False) = A := by funext x; simp
  rwa [hA] at h1

theorem does_append {T tx e ty : TypeId} {k bytes f : Nat} {z : Value} {i : TypeInfo} (hT : P.underlying T = some (.slice e)) (hi : P.info? e = some i) (hik : i.size = k) (hib : i.bytes = bytes) (hiz : i.zero = some z) (hzk : z.cells.size = k) (h0 : 0 < k)
    (H : RelE c A μ fr tm hp n a w) (hf : fr f) {S : AV} {s x : Value} (hsv : RV w A S μ s) {src : Option (List AV)}
    (hsrc : ∀ xs, src = some xs → ∃ vs, RVL w A xs μ vs ∧ (∀ v ∈ vs, v.cells.size = k) ∧ (∀ x ∈ xs, x.solid = true) ∧ Src P k tx x xs.length (vs.flatMap (·.cells.toList)) w)
    (hc : (appendA hp f k bytes S src).c) :
    DoesM P c fr tm hp n a w f (Builtin.append_ #[T, tx] ty #[s, x]) (appendA hp f k bytes S src) := by
  unfold appendA at hc ⊢
  split at hc
  case h_1 => exact hc.elim
  rename_i xs
  obtain ⟨vs, v1, v2, v3, v4⟩ := hsrc xs rfl
  subst hik
  subst hib
  have fits : ∀ (need old : Nat), old < need → need * i.bytes ≤ 2 ^ 47 → Builtin.nextslicecap need old * i.bytes ≤ 281474976710656 := fun need old h h' => growslice_fits h (by simpa using h')
  have hml : ∀ m, m ≤ maxLen → ((m : Nat) : Int) ≤ 9223372036854775807 := by intro m h; unfold maxLen at h; omega
  -- nothing so far, no room
  have empty : ∀ (base : Option Addr) (hp0 : Hp), RelE c A μ fr tm hp0 n a w → xs.length * i.bytes ≤ 2 ^ 47 → xs.length ≤ maxLen →
      ∃ cv w' A' μ', (Builtin.append_ #[T, tx] ty #[.slice base 0 0, x]).run P w = .ok cv w' ∧ RelE c A' μ' (fun b => fr b ∧ b ≠ f) tm (upd hp0 f (some (.vec i.size xs))) n a w' ∧ RV w' A' (.vec f) μ' cv := by
    intro base hp0 H0 c2 c3
    by_cases hx0 : xs = []
    · subst hx0
      simp [RVL] at v1; subst v1
      simp only [List.flatMap_nil, List.length_nil] at v4
      have hrun := run_append_none T tx ty e i hT hi base v4
      let hd : Hd := ⟨some base, 0, i.size, 0, 0⟩
      have := H0.add f (H0.fr f hf).2 (upd μ f (some hd)) (MuLe_upd H0 hf hd) (fun b hb => upd_ne _ _ hb) hd (upd_same _ _ _) (.vec i.size []) ⟨rfl, .inl ⟨rfl, rfl⟩⟩ (fun h => by cases h) (fun _ _ _ _ _ _ h => by cases h)
      exact ⟨_, _, _, _, hrun, this, hd, upd_same _ _ _, rfl⟩
    · have hpos : 0 < xs.length := List.length_pos_iff.2 hx0
      have hold : (Builtin.firstCells i.size 0 (.slice base 0 0)).run P w.drew = .ok ([] : List Value).toArray w.drew := by
        cases base with
        | none => exact run_firstCells_none w.drew _ _ _ _
        | some b => exact run_firstCells_some w.drew i.size 0 b 0 0 [] (by simp) (by simp)
      have hrun := run_append_grow_src w T tx ty e i z hT hi hiz base 0 0 [] hold x xs.length _ v4 (by omega) (hml _ (by omega)) (fits _ _ (by omega) (by rw [Nat.zero_add]; exact c2))
      simp only [Nat.zero_add, List.nil_append] at hrun
      let hd : Hd := ⟨none, w.heap.size, i.size, xs.length, grownCap w xs.length 0 e⟩
      obtain ⟨A', h1⟩ := H0.newOwn hf (w' := w.drew.alloc (.cells ((vs.flatMap (·.cells.toList)).toArray ++ Builtin.zeroCells z.cells (grownCap w xs.length 0 e - xs.length)) e)) rfl rfl rfl (by simp) (fun k hk => heap_alloc_old w.drew _ hk) hd rfl rfl (.vec i.size xs)
        (fun A' hA hs => grown_ok hzk c3 rfl v1 v3 v2 hs hA (MuLe_upd H0 hf hd) (heap_alloc_new w.drew _))
      exact ⟨_, _, A', _, hrun, h1, hd, upd_same _ _ _, rfl⟩
  -- a row that grows
  have grow : ∀ (b : Addr) (sLen sCap : Nat) (es : List AV) (us : List Value) (hp0 : Hp), RelE c A μ fr tm hp0 n a w → RVL w A es μ us → (∀ v ∈ us, v.cells.size = i.size) → (∀ x ∈ es, x.solid = true) → es.length = sLen →
      (∀ p u, (us.flatMap (·.cells.toList))[p]? = some u → w.cell? (b.add p) = some u) → sCap < sLen + xs.length → (sLen + xs.length) * i.bytes ≤ 2 ^ 47 → sLen + xs.length ≤ maxLen →
      ∃ cv w' A' μ', (Builtin.append_ #[T, tx] ty #[.slice (some b) sLen sCap, x]).run P w = .ok cv w' ∧ RelE c A' μ' (fun b => fr b ∧ b ≠ f) tm (upd hp0 f (some (.vec i.size (es ++ xs)))) n a w' ∧ RV w' A' (.vec f) μ' cv := by
    intro b sLen sCap es us hp0 H0 u1 u2 u3 u4 u5 u6 u7 u8
    have hold := run_firstCells_some (P := P) w.drew i.size sLen b sLen sCap (us.flatMap (·.cells.toList)) (by rw [flat_len u2, ← u1.length, u4]) (by simpa using u5)
    have hrun := run_append_grow_src w T tx ty e i z hT hi hiz (some b) sLen sCap _ hold x xs.length _ v4 u6 (hml _ u8) (fits _ _ u6 u7)
    rw [← List.flatMap_append] at hrun
    let hd : Hd := ⟨none, w.heap.size, i.size, sLen + xs.length, grownCap w (sLen + xs.length) sCap e⟩
    have hk2 : ∀ v ∈ us ++ vs, v.cells.size = i.size := by
      intro v hv
      rcases List.mem_append.1 hv with hv | hv
      · exact u2 v hv
      · exact v2 v hv
    have hk3 : ∀ y ∈ es ++ xs, y.solid = true := by
      intro v hv
      rcases List.mem_append.1 hv with hv | hv
      · exact u3 v hv
      · exact v3 v hv
    obtain ⟨A', h1⟩ := H0.newOwn hf (w' := w.drew.alloc (.cells (((us ++ vs).flatMap (·.cells.toList)).toArray ++ Builtin.zeroCells z.cells (grownCap w (sLen + xs.length) sCap e - (sLen + xs.length))) e)) rfl rfl rfl (by simp) (fun k hk => heap_alloc_old w.drew _ hk) hd rfl rfl (.vec i.size (es ++ xs))
      (fun A' hA hs => grown_ok hzk u8 (by simp [u4]) (u1.append v1) hk3 hk2 hs hA (MuLe_upd H0 hf hd) (heap_alloc_new w.drew _))
    exact ⟨_, _, A', _, hrun, h1, hd, upd_same _ _ _, rfl⟩
  -- a row with room: X is what the block is read as
  have room : ∀ (b : Nat) (x0 : Blk) (hd : Hd) (C : Array Value) (ty' : TypeId) (es : List AV) (us : List Value) (X : Blk), hp b = some x0 → b ≠ f → μ b = some hd → hd.emp = none → w.heap[hd.blk]? = some (.cells C ty' (0, 0)) → RVL w A es μ us → (∀ x ∈ es, x.solid = true) →
      (∀ v ∈ us, v.cells.size = i.size) → C.size = hd.cap * i.size → C.toList.take (es.length * i.size) = us.flatMap (·.cells.toList) → es.length + xs.length ≤ hd.cap → hd.cap ≤ maxLen →
      (X = .vec i.size (es ++ xs) ∨ X = .row i.size (es ++ xs) (es.length + xs.length) hd.cap) →
      ∃ cv w' A' μ', (Builtin.append_ #[T, tx] ty #[.slice (some ⟨hd.blk, 0, none⟩) es.length hd.cap, x]).run P w = .ok cv w' ∧ RelE c A' μ' (fun b => fr b ∧ b ≠ f) tm (upd (upd hp b none) f (some X)) n a w' ∧ RV w' A' (.vec f) μ' cv := by
    intro b x0 hd C ty' es us X hb hbf e1 g1 k1 k2 k3 k4 k5 k6 hroom g4 hX
    have hxl : (vs.flatMap (·.cells.toList)).length = xs.length * i.size := by rw [flat_len v2, v1.length]
    have hfit : es.length * i.size + (vs.flatMap (·.cells.toList)).length ≤ C.size := by
      rw [hxl, k5, ← Nat.add_mul]; exact Nat.mul_le_mul_right _ hroom
    have hrun := run_append_room_row T tx ty e i hT hi k1 v4 hroom hfit
    let hd2 : Hd := ⟨none, hd.blk, i.size, es.length + xs.length, hd.cap⟩
    obtain ⟨q1, q2, q3⟩ := (by
      obtain ⟨hd'', p1, _, p3⟩ := H.blk b _ hb
      rw [e1] at p1; cases p1
      exact p3 g1 : ¬ A hd.blk ∧ hd.blk < w.heap.size ∧ (c.own hd.blk ∨ c.w.heap.size ≤ hd.blk))
    obtain ⟨h1, h2⟩ := H.step (w' := w.setRow hd.blk (C.toList.take (es.length * i.size) ++ (vs.flatMap (·.cells.toList)) ++ C.toList.drop (es.length * i.size + (vs.flatMap (·.cells.toList)).length)).toArray) rfl rfl rfl (by simp) (upd hp b none) (fun b' y hy => by
        by_cases e : b' = b
        · subst e; simp [upd_same] at hy
        · rwa [upd_ne _ _ e] at hy)
      (fun k hk hne => setRow_other w hd.blk k _ (hne b _ hd hb (upd_same _ _ _) e1 g1)) (fun _ => False) (fun _ h => h.elim)
    have hA : (fun x => A x ∨ False) = A := by funext x; simp
    rw [hA] at h1
    have r1 := RVL.mono h2 (fun _ h => h) _ (MuLe_upd H hf hd2) (k2.append v1)
    have r2 : ∀ x ∈ es ++ xs, x.solid = true := by
      intro v hv
      rcases List.mem_append.1 hv with hv | hv
      · exact k3 v hv
      · exact v3 v hv
    have r3 : ∀ v ∈ us ++ vs, v.cells.size = i.size := by
      intro v hv
      rcases List.mem_append.1 hv with hv | hv
      · exact k4 v hv
      · exact v2 v hv
    have r4 : ((C.toList.take (es.length * i.size) ++ (vs.flatMap (·.cells.toList)) ++ C.toList.drop (es.length * i.size + (vs.flatMap (·.cells.toList)).length)).toArray).size = hd.cap * i.size := by
      simp only [List.size_toArray, List.length_append, List.length_take, List.length_drop, Array.length_toList]
      rw [← k5]; omega
    have r5 : List.take ((es.length + xs.length) * i.size) (C.toList.take (es.length * i.size) ++ (vs.flatMap (·.cells.toList)) ++ C.toList.drop (es.length * i.size + (vs.flatMap (·.cells.toList)).length)) = (us ++ vs).flatMap (·.cells.toList) := by
      rw [List.flatMap_append, ← k6]
      have hl : (es.length + xs.length) * i.size = (C.toList.take (es.length * i.size) ++ vs.flatMap (·.cells.toList)).length := by
        have hC : C.toList.length = C.size := Array.length_toList
        rw [List.length_append, hxl, List.length_take, Nat.add_mul]
        omega
      rw [hl]
      exact List.take_left
    have h3 := h1.add f (by rw [upd_ne _ _ (Ne.symm hbf)]; exact (H.fr f hf).2) (upd μ f (some hd2)) (MuLe_upd H hf hd2) (fun b hb => upd_ne _ _ hb) hd2 (upd_same _ _ _) X (by
        rcases hX with rfl | rfl
        · exact ⟨rfl, .inr ⟨rfl, by simp [hd2], hroom, g4, _, ty', us ++ vs, setRow_heap' k1, r1, r2, r3, r4, r5⟩⟩
        · exact ⟨rfl, rfl, rfl, rfl, by simp, hroom, g4, _, ty', us ++ vs, setRow_heap' k1, r1, r2, r3, r4, by rw [List.length_append]; exact r5⟩) (fun _ => ⟨q1, by simpa using q2, q3⟩) (by
        intro b' x' hd' hx' hm' he' _ heq
        by_cases e : b' = b
        · subst e; simp [upd_same] at hx'
        · rw [upd_ne _ _ e] at hx'
          exact e (H.inj b' b x' _ hd' hd hx' hb hm' e1 he' g1 heq))
    exact ⟨_, _, A, _, hrun, h3, hd2, upd_same _ _ _, rfl⟩
  split at hc
  · rename_i k' es full
    split at hc
    · rename_i he
      subst he
      obtain ⟨c1, c2, c3⟩ := hc
      subst c1
      simp only [↓reduceIte]
      rcases hsv with ⟨_, a0, rfl⟩ | ⟨blk, off, cap, us, rfl, g1, g2, g3, g4, g5⟩
      · exact empty a0 hp H c2 c3
      · have : cap = 0 := by simpa using g4 rfl
        subst this
        exact empty (some ⟨blk, off, none⟩) hp H c2 c3
    · rename_i he
      obtain ⟨c0, c1, c2, c3, c4⟩ := hc
      subst c0; subst c1
      rw [if_neg he]
      rcases hsv with ⟨h, _⟩ | ⟨blk, off, cap, us, rfl, g1, g2, g3, g4, g5, g6, g7, g8⟩
      · exact absurd h he
      · have hcap := g4 rfl
        exact grow ⟨blk, off, none⟩ es.length cap es us hp H g5.up (fun v hv => (g6 v hv).1) g8 rfl (fun p u hu => by rw [Addr.add_lit]; exact g7 p u hu) (by omega) c2 c3
  · rename_i b
    split at hc
    · rename_i k' es hb
      obtain ⟨c0, c2, c3⟩ := hc
      subst c0
      simp only [hb]
      obtain ⟨hd, e1, rfl⟩ := hsv
      obtain ⟨hd', f1, f2, f3⟩ := H.vec hb
      rw [e1] at f1; cases f1
      have Hd0 := H.drop b
      have hbf : b ≠ f := by rintro rfl; rw [(H.fr b hf).2] at hb; cases hb
      rcases f3 with ⟨rfl, a', f3⟩ | ⟨g1, g2, g3, g4, C, ty', us, k1, k2, k3, k4, k5, k6, k7⟩
      · have := empty a' _ Hd0 (by simpa using c2) (by simpa using c3)
        simp only [List.nil_append]
        rw [Hd.val, f3]
        exact this
      · have hv : hd.val = .slice (some ⟨hd.blk, 0, none⟩) es.length hd.cap := by rw [Hd.val, g1, g2]
        rw [hv]
        by_cases hroom : es.length + xs.length ≤ hd.cap
        · exact room b _ hd C ty' es us _ hb hbf e1 g1 k1 k2 k3 k4 k5 (by rw [← k6, g2]) hroom g4 (.inl rfl)
        · exact grow ⟨hd.blk, 0, none⟩ es.length hd.cap es us _ Hd0 k2 k4 k3 rfl (fun p u hu => by rw [Addr.add_lit, Nat.zero_add]; exact k7 p u hu) (by omega) c2 c3
    · rename_i k' es len cap hb
      obtain ⟨c0, c1, c2, c3⟩ := hc
      subst c0; subst c1
      simp only [hb]
      obtain ⟨hd, e1, rfl⟩ := hsv
      obtain ⟨hd', f1, f2, g1, g2, g3, g4, g5, g6, C, ty', us, k1, k2, k3, k4, k5, k6, k7⟩ := H.row hb
      rw [e1] at f1; cases f1
      have Hd0 := H.drop b
      have hbf : b ≠ f := by rintro rfl; rw [(H.fr b hf).2] at hb; cases hb
      have hv : hd.val = .slice (some ⟨hd.blk, 0, none⟩) es.length hd.cap := by rw [Hd.val, g1, g2]
      rw [hv]
      by_cases hroom : es.length + xs.length ≤ hd.cap
      · exact room b _ hd C ty' es us _ hb hbf e1 g1 k1 k2 k3 k4 (by rw [g3]; exact k5) k6 hroom (by omega) (.inl rfl)
      · exact grow ⟨hd.blk, 0, none⟩ es.length hd.cap es us _ Hd0 k2 k4 k3 rfl (fun p u hu => by rw [Addr.add_lit, Nat.zero_add]; exact k7 p u hu) (by omega) c2 c3
    · exact hc.elim
  · rename_i b lo ii
    split at hc
    case h_2 => exact hc.elim
    rename_i k' es len cap hb
    obtain ⟨c0, c1, c2, c3, c4⟩ := hc
    subst c0; subst c1
    simp only [hb]
    obtain ⟨hd, cap', o, e1, e2, e3, e4, e5, rfl⟩ := hsv
    obtain ⟨hd', f1, f2, g1, g2, g3, g4, g5, g6, C, ty', us, k1, k2, k3, k4, k5, k6, k7⟩ := H.row hb
    rw [e1] at f1; cases f1
    have hbf : b ≠ f := by rintro rfl; rw [(H.fr b hf).2] at hb; cases hb
    have ho : o = 0 := by rw [e4 (by omega)]; simp
    have hcap : cap' = hd.cap := by omega
    have hl : (es.take ii).length = ii := by simp; omega
    subst ho; subst hcap
    have := room b _ hd C ty' (es.take ii) (us.take ii) (.row i.size (es.take ii ++ xs) ((es.take ii).length + xs.length) hd.cap) hb hbf e1 g1 k1 (k2.take ii) (fun x hx => k3 x (List.mem_of_mem_take hx)) (fun v hv => k4 v (List.mem_of_mem_take hv)) (by rw [g3]; exact k5)
      (by rw [flat_take k4, ← k6, List.take_take, hl]; congr 1; exact (Nat.min_eq_left (Nat.mul_le_mul_right _ c2)).symm) (by omega) (by omega) (.inr rfl)
    rw [hl, g3] at this
    rw [g3]
    exact this
  · exact hc.elim

theorem does_mks {T e : TypeId} {k bytes f : Nat} {z : AV} (hT : P.underlying T = some (.slice e)) (hs : sizeOf? P e = some k) (hb : bytesOf? P e = some bytes) (hz : zeroOf P e = some z) (hk : 0 < k ∧ z.solid = true ∧ z.cells.length = k)
    (H : RelE c A μ fr tm hp n a w) (hf : fr f) {L C : AO} {l cc : Value} (hl : RV w A (evO tm L) μ l) (hcc : RV w A (evO tm C) μ cc) (hc : (evA (.mks k bytes z L C) f (evO tm) hp).c) :
    DoesM P c fr tm hp n a w f (Instr.makeSlice T l cc) (evA (.mks k bytes z L C) f (evO tm) hp) := by
  obtain ⟨hk0, hzs, hzl⟩ := hk
  obtain ⟨i, hi, hik, hib⟩ := info_of hs hb
  simp only [evA] at hc ⊢
  split at hc
  case h_2 => exact hc.elim
  rename_i ll lc hL hC
  simp only [hL, hC] at hl hcc ⊢
  obtain ⟨rfl, hl⟩ := hl
  obtain ⟨rfl, hcc⟩ := hcc
  obtain ⟨c1, c2, c3, c4⟩ := hc
  obtain ⟨N, rfl⟩ := Int.eq_ofNat_of_zero_le c1
  obtain ⟨M, rfl⟩ := Int.eq_ofNat_of_zero_le (show 0 ≤ lc by omega)
  have hNM : N ≤ M := by omega
  have hM : M ≤ maxLen := by omega
  have w1 : IntKind.i64.wrap (N : Int) = N := IntWalk.i64_in _ (by unfold maxLen at hM; omega)
  have w2 : IntKind.i64.wrap (M : Int) = M := IntWalk.i64_in _ (by unfold maxLen at hM; omega)
  obtain ⟨zv, hz1, hz2⟩ := run_zero (w := w) hz
  have hzr : RV w A z μ zv := by rw [hz2]; exact rv_const zv
  obtain ⟨r1, r2⟩ := RV.cells hzs hzr
  have hzk : zv.cells.size = k := by rw [← hzl, r1.length, Array.length_toList]
  have hbm : ¬ (i.bytes : Int) * (M : Int) > 2 ^ 48 := by
    rw [hib, Int.mul_comm]
    have e48 : (2 : Int) ^ 48 = 2 * 2 ^ 47 := by decide
    omega
  have hrow : (Array.range (M * k)).map (fun i => zv.cells[i % zv.cells.size]!) = ((List.replicate M zv).flatMap (·.cells.toList)).toArray := by
    apply Array.ext'
    rw [← hzk, zero_cells _ _ (by omega), flat_replicate]
  have hrun : (Instr.makeSlice T (.int .i64 (N : Int)) (.int .i64 (M : Int))).run P w = .ok (.slice (some ⟨w.heap.size, 0, none⟩) N M) (w.alloc (.cells ((List.replicate M zv).flatMap (·.cells.toList)).toArray e)) := by
    simp only [Instr.makeSlice, Sem.run_bind, run_underlying hT, Result.andThen_ok, asInt, run_asIntOf, Sem.run_pure, typeInfo, run_program, hi, w1, w2]
    rw [Sem.run_ite, if_neg]
    · simp only [Sem.run_bind, Result.andThen_ok, Int.toNat_natCast, run_askRoom, run_sizeOf_of hs]
      by_cases h0 : M = 0
      · subst h0
        have hr0 : ∀ g : Nat → Value, (Array.range 0).map g = #[] := fun g => by simp
        simp [newRow_run, hr0]
      · have hne : M * k ≠ 0 := by have := Nat.mul_pos (Nat.pos_of_ne_zero h0) hk0; omega
        simp only [hne, ↓reduceIte, Sem.run_bind, hz1, Result.andThen_ok, Sem.run_pure, hrow, newRow_run]
    · simp only [Bool.or_eq_true, decide_eq_true_eq, not_or]
      refine ⟨⟨⟨by omega, by simpa using hbm⟩, by omega⟩, by omega⟩
  let hd : Hd := ⟨none, w.heap.size, k, N, M⟩
  obtain ⟨A', h1⟩ := H.newOwn hf (w' := w.alloc (.cells ((List.replicate M zv).flatMap (·.cells.toList)).toArray e)) rfl rfl rfl (by simp) (fun k hk => heap_alloc_old w _ hk) hd rfl rfl (.vec k (List.replicate N z))
    (fun A' hA hs => by
      refine ⟨rfl, .inr ⟨rfl, by simp [hd], hNM, hM, _, e, List.replicate N zv, heap_alloc_new w _, ?_, ?_, ?_, ?_, ?_⟩⟩
      · refine RVL.of_get (by simp) fun i x v hx hv => ?_
        simp only [List.getElem?_replicate] at hx hv
        split at hx <;> cases hx
        split at hv <;> cases hv
        · exact hzr.mono hs hA _ (MuLe_upd H hf hd)
        · omega
      · intro x hx; rw [List.eq_of_mem_replicate hx]; exact hzs
      · intro v hv; rw [List.eq_of_mem_replicate hv]; exact hzk
      · rw [List.size_toArray, flat_len (k := k) (by intro v hv; rw [List.eq_of_mem_replicate hv]; exact hzk), List.length_replicate]
      · have hk' : ∀ v ∈ List.replicate M zv, v.cells.size = k := by intro v hv; rw [List.eq_of_mem_replicate hv]; exact hzk
        show List.take (N * k) ((List.replicate M zv).flatMap (·.cells.toList)) = _
        rw [← flat_take hk', List.take_replicate, Nat.min_eq_left hNM])
  simp only [Int.toNat_natCast]
  exact ⟨_, _, A', _, hrun, h1, hd, upd_same _ _ _, rfl⟩

theorem does_convSB {S D e : TypeId} {f : Nat} (hs : P.underlying S = some .string) (hd : P.underlying D = some (.slice e)) (he : P.underlying e = some (.int .u8)) (H : RelE c A μ fr tm hp n a w)
    {X : AO} {x : Value} (hx : RV w A (evO tm X) μ x) (hc : (evA (.convSB X) f (evO tm) hp).c) :
    DoesM P c fr tm hp n a w f (convert S D x) (evA (.convSB X) f (evO tm) hp) := by
  simp only [evA] at hc ⊢
  generalize evO tm X = Y at *
  cases Y <;> simp only [Out.bad] at hc
  obtain ⟨rfl, hps⟩ := hx
  cases x <;> simp only [] at hc
  rename_i s
  have hps : s.size ≤ maxLen := hps
  let cap := grownCap w s.size 0 e
  have hge : s.size ≤ cap := grownCap_ge w s.size 0 e
  have hcm : cap ≤ maxLen := grownCap_le_maxLen w s.size 0 e hps
  let cells : Array Value := s.data.map (fun b => Value.int .u8 b.toNat) ++ Array.replicate (cap - s.size) (.int .u8 0)
  let w1 := w.drew.alloc (.cells cells e)
  have hsh : w1.shape? w.heap.size = some (e, cells.size) := by
    have : w1.heap[w.heap.size]? = some (.cells cells e) := heap_alloc_new w.drew (.cells cells e)
    simp [World.shape?, this]
  have hrun : (convert S D (.string s)).run P w = .ok (.slice (some ⟨w.heap.size, 0, none⟩) s.size cap) (w1.freeze ⟨w.heap.size, cells.size, none⟩ 1) := by
    have h1 : (convert S D (.string s)).run P w = (Conv.stringToBytes e s).run P w := by simp [convert, run_underlying hs, run_underlying hd, run_underlying he]
    rw [h1]
    have h2 : (choose (.appendCap s.size 0 e)).run P w = .ok cap w.drew := by rw [run_choose]; rfl
    simp only [Conv.stringToBytes, Sem.run_bind, h2, Result.andThen_ok, newRow_run, markStringish, run_shape]
    have h3 : (w.drew.alloc (.cells (s.data.map (fun b => Value.int .u8 b.toNat) ++ Array.replicate (cap - s.size) (.int .u8 0)) e)).shape? w.drew.heap.size = some (e, cells.size) := hsh
    rw [h3]
    rfl
  have hfz : ∀ k, k ≠ w.heap.size → (w1.freeze ⟨w.heap.size, cells.size, none⟩ 1).heap[k]? = w1.heap[k]? := by
    intro k hk
    simp only [World.freeze]
    rw [if_neg (by omega)]
    simp only [Array.getElem?_modify]
    rw [if_neg (Ne.symm hk)]
  have hcell : ∀ p, (w1.freeze ⟨w.heap.size, cells.size, none⟩ 1).cell? ⟨w.heap.size, p, none⟩ = cells[p]? := by
    intro p
    have h1 : w1.heap[w.heap.size]? = some (.cells cells e) := heap_alloc_new w.drew (.cells cells e)
    have h2 : ∃ fr', (w1.freeze ⟨w.heap.size, cells.size, none⟩ 1).heap[w.heap.size]? = some (.cells cells e fr') := by
      simp only [World.freeze]
      rw [if_neg (by omega)]
      simp only [Array.getElem?_modify, ↓reduceIte, h1, Option.map_some]
      exact ⟨_, rfl⟩
    obtain ⟨fr', h2⟩ := h2
    exact cell_of_row _ _ _ _ _ fr' h2
  obtain ⟨h1, h2⟩ := H.newRO (w' := w1.freeze ⟨w.heap.size, cells.size, none⟩ 1) rfl rfl rfl (by
      show w.heap.size < (World.freeze _ _ _).heap.size
      simp only [World.freeze]
      rw [if_neg (by omega)]
      simp [w1]) (fun k hk => by
      rw [hfz k (by omega)]
      exact heap_alloc_old w.drew _ hk)
  have hlen : (s.data.toList.map fun b => AV.val (.int .u8 b.toNat)).length = s.size := by simp
  refine ⟨_, _, _, μ, hrun, h1.free fun b hb => hb.1, .inr ⟨w.heap.size, 0, cap, byteCells s, by rw [hlen], .inr rfl, by rw [hlen]; exact hge, hcm, (fun h => by cases h), ?_, ?_, ?_, ?_⟩⟩
  · unfold byteCells
    refine RVL.of_get (by simp) fun i x v hx hv => ?_
    simp only [List.getElem?_map, Option.map_eq_some_iff] at hx hv
    obtain ⟨b, h1, rfl⟩ := hx
    obtain ⟨b', h2, rfl⟩ := hv
    rw [h1] at h2; cases h2
    exact rv_int (inK_byte b)
  · intro v hv
    unfold byteCells at hv
    obtain ⟨b, _, rfl⟩ := List.mem_map.1 hv
    exact ⟨rfl, cellsOk_of_one rfl⟩
  · intro p u hu
    have hf : ∀ l : List UInt8, (l.map fun b => Value.int .u8 b.toNat).flatMap (·.cells.toList) = l.map fun b => Value.int .u8 b.toNat := by
      intro l; induction l with
      | nil => rfl
      | cons b l ih => rw [List.map_cons, List.flatMap_cons, ih]; rfl
    have e1 : (byteCells s).flatMap (·.cells.toList) = byteCells s := hf _
    rw [e1] at hu
    rw [Nat.zero_add, hcell]
    have hlt : p < s.data.size := by
      have := (List.getElem?_eq_some_iff.1 hu).1
      rw [byteCells_length] at this
      exact this
    simp only [cells]
    rw [Array.getElem?_append_left (by simpa using hlt)]
    unfold byteCells at hu
    simpa using hu
  · intro x hx
    obtain ⟨b, _, rfl⟩ := List.mem_map.1 hx
    rfl
end
end Go.Am
