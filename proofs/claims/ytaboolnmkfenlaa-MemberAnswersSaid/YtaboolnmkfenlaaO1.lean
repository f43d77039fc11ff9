/- What a law is called with: members and filters, read off the model's trees. -/
import Derived.Test.YtaboolnmkfenlaaS9
import Derived.ChangeSlices
import Derived.ChangeSame
import Derived.WideShapes
namespace Go.Proofs.Ytaboolnmkfenlaa
open Go Go.Am Go.ChangeShapes Go.WideShapes
set_option linter.unusedVariables false
set_option linter.unusedSimpArgs false
section
variable {H : Type} {enc : TypeId × Value → H} {w : World} {base : Nat} {held : Bool} {fuel : Nat} {cs : List Value} {x : DataW H × List MemPlace}

theorem rd_int {t : TypeId} {k : IntKind} (ht : Program.underlying Try.prog t = some (.int k)) (h : DataW.trod enc Try.prog w base (fun _ => true) held fuel t cs = some x) : ∃ n, RVL w (Old w) [.val (.int k n)] noMu cs := by
  obtain ⟨n, rfl, _, hw⟩ := DataW.trod_int ht h
  exact ⟨n, _, _, rfl, RV.int hw, rfl⟩
/-- A slice whose elements are read as abstract values. -/
theorem rd_slice {t e : TypeId} {k : Nat} (hk : 0 < k) (ht : Program.underlying Try.prog t = some (.slice e)) (hc : Try.prog.cellsOf e = k) {α : Type} (f : α → AV)
    (hsol : ∀ a, (f a).solid = true)
    (he : ∀ (n : Nat) (cs : List Value) (y : DataW H × List MemPlace), DataW.trod enc Try.prog w base (fun _ => true) held n e cs = some y → cs.length = k → ∃ (a : α) (v : Value), v.cells.toList = cs ∧ cellsOk v ∧ RV w (Old w) (f a) noMu v)
    (h : DataW.trod enc Try.prog w base (fun _ => true) held fuel t cs = some x) : ∃ (l : List α), RVL w (Old w) [.sl k (l.map f) false] noMu cs := by
  rcases DataW.trod_slice ht h with ⟨rfl, _⟩ | ⟨a, len, cap, elems, rest, n, _, rfl, rfl, hb, hl, hm, hlen, hel, hsp, hns⟩
  · exact ⟨[], _, _, rfl, .inl ⟨rfl, _, rfl⟩, rfl⟩
  by_cases h0 : cap = 0
  · subst h0
    have : len = 0 := by omega
    subst this
    exact ⟨[], _, _, rfl, .inl ⟨rfl, _, rfl⟩, rfl⟩
  obtain ⟨hrl, hr⟩ := hsp rfl
  -- the first cell
  have hfirst : ∃ v, w.cell? a = some v := by
    have h1 : ∃ cs', w.cells? base (a.add (0 * k)) k = some cs' := by
      by_cases hz : 0 < len
      · have h1 := hel 0 hz
        rw [hc, List.getElem?_eq_getElem (show 0 < elems.length by omega), Option.bind_eq_some_iff] at h1
        obtain ⟨cs', h2, _⟩ := h1
        exact ⟨cs', h2⟩
      · have h1 := hr 0 (by omega)
        rw [hc, List.getElem?_eq_getElem (show 0 < rest.length by omega), Option.bind_eq_some_iff] at h1
        obtain ⟨cs', h2, _⟩ := h1
        exact ⟨cs', by rw [show len + 0 = 0 by omega] at h2; exact h2⟩
    obtain ⟨cs', h2⟩ := h1
    obtain ⟨_, h3, h4⟩ := World.cells?_some h2
    have h5 := h4 0 hk
    rw [List.getElem?_eq_getElem (show 0 < cs'.length by omega)] at h5
    refine ⟨_, by rw [← h5]; congr 1; simp [Addr.add]⟩
  obtain ⟨v0, hv0⟩ := hfirst
  obtain ⟨e1, e2⟩ := Addr.eta hv0
  have each : ∀ i, i < len → ∃ (b : α) (v : Value), (v.cells.size = k ∧ ∀ j u, v.cells[j]? = some u → w.cell? ⟨a.block, a.off + (i * k + j), none⟩ = some u) ∧ cellsOk v ∧ RV w (Old w) (f b) noMu v := by
    intro i hi
    have h1 := hel i hi
    rw [hc, List.getElem?_eq_getElem (show i < elems.length by omega), Option.bind_eq_some_iff] at h1
    obtain ⟨cs', h2, h3⟩ := h1
    obtain ⟨_, h4, h5⟩ := World.cells?_some h2
    obtain ⟨b, v, g1, g2, g3⟩ := he n cs' _ h3 h4
    have hsz : v.cells.size = k := by rw [← h4, ← g1]; simp
    refine ⟨b, v, ⟨hsz, fun j u hu => ?_⟩, g2, g3⟩
    have hj : j < k := by have := (Array.getElem?_eq_some_iff.mp hu).1; omega
    have h6 := h5 j hj
    rw [← g1] at h6
    rw [e1] at h6
    have e3 : ((Addr.mk a.block a.off none).add (i * k)).add j = ⟨a.block, a.off + (i * k + j), none⟩ := by
      simp only [Addr.add]
      by_cases q1 : i * k = 0
      · rw [if_pos q1, q1]
        by_cases q2 : j = 0
        · rw [if_pos q2, q2]; rfl
        · rw [if_neg q2]; simp
      · rw [if_neg q1]
        by_cases q2 : j = 0
        · rw [if_pos q2, q2]; rfl
        · rw [if_neg q2]; simp [Nat.add_assoc]
    rw [e3] at h6
    rw [h6]; simpa using hu
  have build : ∀ n, n ≤ len → ∃ (l : List α) (vs : List Value), l.length = n ∧ vs.length = n ∧ ∀ i b v, l[i]? = some b → vs[i]? = some v → (v.cells.size = k ∧ ∀ j u, v.cells[j]? = some u → w.cell? ⟨a.block, a.off + (i * k + j), none⟩ = some u) ∧ cellsOk v ∧ RV w (Old w) (f b) noMu v := by
    intro n
    induction n with
    | zero => intro _; exact ⟨[], [], rfl, rfl, fun i b v hb => by simp at hb⟩
    | succ n ih =>
      intro hn
      obtain ⟨l, vs, h1, h2, h3⟩ := ih (by omega)
      obtain ⟨b, v, h4⟩ := each n (by omega)
      refine ⟨l ++ [b], vs ++ [v], by simp [h1], by simp [h2], fun i b' v' hb' hv' => ?_⟩
      by_cases hi : i < n
      · rw [List.getElem?_append_left (by omega)] at hb' hv'
        exact h3 i b' v' hb' hv'
      · have hil : i < (l ++ [b]).length := (List.getElem?_eq_some_iff.mp hb').1
        have hie : i = n := by simp [h1] at hil; omega
        subst hie
        rw [List.getElem?_append_right (by omega), h1] at hb'
        rw [List.getElem?_append_right (by omega), h2] at hv'
        simp at hb' hv'
        subst hb'; subst hv'
        exact h4
  obtain ⟨l, vs, h1, h2, h3⟩ := build len (Nat.le_refl _)
  have hget : ∀ i, i < len → ∃ b v, l[i]? = some b ∧ vs[i]? = some v := fun i hi => ⟨_, _, List.getElem?_eq_getElem (by omega), List.getElem?_eq_getElem (by omega)⟩
  have hvs : ∀ v ∈ vs, v.cells.size = k ∧ cellsOk v := fun v hv => by
    obtain ⟨i, hi, rfl⟩ := List.getElem_of_mem hv
    obtain ⟨g1, g2, _⟩ := h3 i _ _ (List.getElem?_eq_getElem (show i < l.length by omega)) (List.getElem?_eq_getElem hi)
    exact ⟨g1.1, g2⟩
  refine ⟨l, _, _, rfl, .inr ⟨a.block, a.off, cap, vs, ?_, e2, ?_, hm, (fun h => by cases h), ?_, hvs, ?_, ?_⟩, rfl⟩
  · rw [← e1]; simp [h1]
  · simp [h1]; exact hl
  · refine RVL.of_get (by simp [h1, h2]) fun i y v hy hv => ?_
    rw [List.getElem?_map] at hy
    cases hb : l[i]? with
    | none => rw [hb] at hy; simp at hy
    | some b =>
      rw [hb] at hy; simp at hy; subst hy
      exact (h3 i b v hb hv).2.2
  · intro p u hu
    have hk' : ∀ v ∈ vs, v.cells.size = k := fun v hv => (hvs v hv).1
    have hp : p < vs.length * k := by rw [← flat_len hk']; exact (List.getElem?_eq_some_iff.mp hu).1
    have hi : p / k < vs.length := Nat.div_lt_of_lt_mul (by rw [Nat.mul_comm]; exact hp)
    have hj : p % k < k := Nat.mod_lt _ hk
    have hpe : p = p / k * k + p % k := by rw [Nat.mul_comm]; exact (Nat.div_add_mod p k).symm
    have hv := List.getElem?_eq_getElem hi
    have hfa := flat_at hk' hv hj
    rw [← hpe, hu] at hfa
    have := (h3 (p / k) _ _ (List.getElem?_eq_getElem (show p / k < l.length by omega)) hv).1.2 (p % k) u (by simpa using hfa.symm)
    rw [hpe]; exact this
  · intro y hy
    obtain ⟨b, _, rfl⟩ := List.mem_map.mp hy
    exact hsol b

theorem rd_ints {t e : TypeId} (ht : Program.underlying Try.prog t = some (.slice e)) (he : Program.underlying Try.prog e = some (.int .i64)) (hc : Try.prog.cellsOf e = 1)
    (h : DataW.trod enc Try.prog w base (fun _ => true) held fuel t cs = some x) : ∃ l : List Int, RVL w (Old w) [ints l] noMu cs := by
  refine rd_slice (f := AV.int) (by omega) ht hc (fun _ => rfl) (fun n cs y hy hl => ?_) h
  obtain ⟨m, rfl, _, hw⟩ := DataW.trod_int he hy
  exact ⟨m, .int .i64 m, rfl, fun c hc => by simp [Value.cells] at hc; subst hc; rfl, RV.int hw⟩

theorem rvl_one {xs : List AV} {vs : List Value} (h : RVL w (Old w) xs noMu vs) (hs : ∀ x ∈ xs, x.solid = true ∧ x.isAgg = false) : ∀ v ∈ vs, v.oneCell' = true := fun v hv => by
  obtain ⟨i, hi⟩ := List.getElem?_of_mem hv
  have hlt : i < xs.length := by rw [h.length]; exact (List.getElem?_eq_some_iff.mp hi).1
  have hx := List.getElem?_eq_getElem hlt
  have := hs _ (List.getElem_mem hlt)
  exact RV.one this.1 this.2 (h.get2 hx hi)
theorem rvl_append {xs ys : List AV} {us vs : List Value} (h : RVL w (Old w) xs noMu us) (h' : RVL w (Old w) ys noMu vs) : RVL w (Old w) (xs ++ ys) noMu (us ++ vs) := by
  refine RVL.of_get (by rw [List.length_append, List.length_append, h.length, h'.length]) fun i x v hx hv => ?_
  by_cases hi : i < xs.length
  · rw [List.getElem?_append_left hi] at hx
    rw [List.getElem?_append_left (by rw [← h.length]; exact hi)] at hv
    exact h.get2 hx hv
  · rw [List.getElem?_append_right (by omega)] at hx
    rw [List.getElem?_append_right (by rw [← h.length]; omega), ← h.length] at hv
    exact h'.get2 hx hv

theorem cells3 : Try.prog.cellsOf 3 = 1 := by kernel_rfl
theorem cells22 : Try.prog.cellsOf 22 = 1 := by kernel_rfl
theorem cells35 : Try.prog.cellsOf 35 = 1 := by kernel_rfl
theorem cells41 : Try.prog.cellsOf 41 = 2 := by kernel_rfl
theorem cells44 : Try.prog.cellsOf 44 = 5 := by kernel_rfl
theorem cells37 : Try.prog.cellsOf 37 = 2 := by kernel_rfl
theorem rv_agg {xs : List AV} {cs : List Value} (h : RVL w (Old w) xs noMu cs) (hs : ∀ x ∈ xs, x.solid = true ∧ x.isAgg = false) : RV w (Old w) (.agg xs) noMu (.agg cs.toArray) := ⟨cs, rfl, h, rvl_one h hs⟩
theorem rd_flt (h : DataW.trod enc Try.prog w base (fun _ => true) held fuel 41 cs = some x) : ∃ (m : Int) (s : List Int), RVL w (Old w) [.int m, ints s] noMu cs := by
  obtain ⟨y0, y1, n, _, hl, h0, h1⟩ := trod_struct2 Try.underlying41 h
  rw [cells41] at hl
  obtain ⟨a, b, rfl⟩ : ∃ a b, cs = [a, b] := by
    match cs, hl with
    | [a, b], _ => exact ⟨a, b, rfl⟩
  simp only [cells3, cells22, List.drop_zero, List.drop_succ_cons, List.take_succ_cons, List.take_zero] at h0 h1
  obtain ⟨m, r0⟩ := rd_int Try.underlying3 h0
  obtain ⟨s, r1⟩ := rd_ints Try.underlying22 Try.underlying3 cells3 h1
  exact ⟨m, s, rvl_append r0 r1⟩
theorem rd_mem (h : DataW.trod enc Try.prog w base (fun _ => true) held fuel 44 cs = some x) : ∃ m : Mem, RVL w (Old w) [.int m.host, .int m.group, .int m.mode, ints m.srcs, .int m.till] noMu cs := by
  obtain ⟨xs, n, _, _, hl, hx, hf⟩ := DataW.trod_struct Try.underlying44 h
  rw [cells44] at hl
  obtain ⟨a, b, c, d, e, rfl⟩ : ∃ a b c d e, cs = [a, b, c, d, e] := by
    match cs, hl with
    | [a, b, c, d, e], _ => exact ⟨a, b, c, d, e, rfl⟩
  obtain ⟨y0, y1, y2, y3, rfl⟩ : ∃ y0 y1 y2 y3, xs = [y0, y1, y2, y3] := by
    match xs, hx with
    | [y0, y1, y2, y3], _ => exact ⟨y0, y1, y2, y3, rfl⟩
  have h0 := hf 0 _ rfl
  have h1 := hf 1 _ rfl
  have h2 := hf 2 _ rfl
  have h3 := hf 3 _ rfl
  simp only [cells3, cells41, List.drop_zero, List.drop_succ_cons, List.take_succ_cons, List.take_zero, List.getElem?_cons_zero, List.getElem?_cons_succ] at h0 h1 h2 h3
  obtain ⟨host, r0⟩ := rd_int Try.underlying3 h0
  obtain ⟨group, r1⟩ := rd_int Try.underlying3 h1
  obtain ⟨mode, srcs, r2⟩ := rd_flt h2
  obtain ⟨till, r3⟩ := rd_int Try.underlying3 h3
  exact ⟨⟨host, group, mode, srcs, till⟩, rvl_append r0 (rvl_append r1 (rvl_append r2 r3))⟩
theorem rd_mems (h : DataW.trod enc Try.prog w base (fun _ => true) held fuel 35 cs = some x) : ∃ l : List Mem, RVL w (Old w) [mems l] noMu cs := by
  refine rd_slice (f := Mem.v) (by omega) Try.underlying35 cells44 (fun _ => rfl) (fun n cs y hy hl => ?_) h
  obtain ⟨m, r⟩ := rd_mem hy
  have hs : ∀ z ∈ [AV.int m.host, .int m.group, .int m.mode, ints m.srcs, .int m.till], z.solid = true ∧ z.isAgg = false := by
    intro z hz
    simp only [List.mem_cons, List.not_mem_nil, or_false] at hz
    rcases hz with rfl | rfl | rfl | rfl | rfl <;> exact ⟨rfl, rfl⟩
  refine ⟨m, .agg cs.toArray, by simp [Value.cells], fun c hc => rvl_one r hs c (by simpa [Value.cells] using hc), rv_agg r hs⟩
theorem rd_ms (h : DataW.trod enc Try.prog w base (fun _ => true) held fuel 37 cs = some x) : ∃ (now : Int) (l : List Mem), RVL w (Old w) [.int now, mems l] noMu cs := by
  obtain ⟨y0, y1, n, _, hl, h0, h1⟩ := trod_struct2 Try.underlying37 h
  rw [cells37] at hl
  obtain ⟨a, b, rfl⟩ : ∃ a b, cs = [a, b] := by
    match cs, hl with
    | [a, b], _ => exact ⟨a, b, rfl⟩
  simp only [cells3, cells35, List.drop_zero, List.drop_succ_cons, List.take_succ_cons, List.take_zero] at h0 h1
  obtain ⟨now, r0⟩ := rd_int Try.underlying3 h0
  obtain ⟨l, r1⟩ := rd_mems h1
  exact ⟨now, l, rvl_append r0 r1⟩
theorem arg_ms {v : Value} {r : Reach} {b0 : Nat} {d : DataW H} {ps : List MemPlace} (hval : Value.okWide Try.prog w r b0 37 v) (hd : DataW.Trod enc Try.prog w base (fun _ => true) held 37 v d ps) :
    ∃ (now : Int) (l : List Mem), RV w (Old w) (.agg [.int now, mems l]) noMu v := by
  obtain ⟨cs, rfl, _⟩ := okWide_struct Try.underlying37 hval
  obtain ⟨fuel, hf⟩ := hd
  obtain ⟨now, l, h⟩ := rd_ms hf
  have h : RVL w (Old w) [.int now, mems l] noMu cs.toList := by simpa [Value.cells] using h
  exact ⟨now, l, by simpa using rv_agg h (by intro z hz; simp only [List.mem_cons, List.not_mem_nil, or_false] at hz; rcases hz with rfl | rfl <;> exact ⟨rfl, rfl⟩)⟩
theorem arg_flt {v : Value} {r : Reach} {b0 : Nat} {d : DataW H} {ps : List MemPlace} (hval : Value.okWide Try.prog w r b0 41 v) (hd : DataW.Trod enc Try.prog w base (fun _ => true) held 41 v d ps) :
    ∃ (m : Int) (s : List Int), RV w (Old w) (fltV m s) noMu v := by
  obtain ⟨cs, rfl, _⟩ := okWide_struct Try.underlying41 hval
  obtain ⟨fuel, hf⟩ := hd
  obtain ⟨m, s, h⟩ := rd_flt hf
  have h : RVL w (Old w) [.int m, ints s] noMu cs.toList := by simpa [Value.cells] using h
  exact ⟨m, s, by show RV w (Old w) (.agg [.int m, ints s]) noMu _; simpa using rv_agg h (by intro z hz; simp only [List.mem_cons, List.not_mem_nil, or_false] at hz; rcases hz with rfl | rfl <;> exact ⟨rfl, rfl⟩)⟩
theorem arg_ints {v : Value} {r : Reach} {b0 : Nat} {d : DataW H} {ps : List MemPlace} (hval : Value.okWide Try.prog w r b0 22 v) (hd : DataW.Trod enc Try.prog w base (fun _ => true) held 22 v d ps) :
    ∃ (s : List Int), RV w (Old w) (ints s) noMu v := by
  obtain ⟨a, len, cap, rfl⟩ := okWide_slice Try.underlying22 hval
  obtain ⟨fuel, hf⟩ := hd
  obtain ⟨s, u, us, h1, h2, h3⟩ := rd_ints Try.underlying22 Try.underlying3 cells3 hf
  have : (Value.slice a len cap).cells.toList = [.slice a len cap] := rfl
  rw [this] at h1
  obtain ⟨rfl, _⟩ := List.cons.inj h1
  exact ⟨s, h2⟩
end
end Go.Proofs.Ytaboolnmkfenlaa
