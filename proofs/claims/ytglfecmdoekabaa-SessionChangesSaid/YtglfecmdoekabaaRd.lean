/- What a law is called with, read off the model's trees: readers for plain types, put together. -/
import Derived.Test.YtglfecmdoekabaaLd
import Derived.ChangeArms
import Derived.ChangeSlices
import Derived.ChangeSame
import Derived.ChangeShapes
import Derived.WideShapes
import Derived.RowKit
import Derived.ChangeMaps5
namespace Go.Am
open Go.ChangeShapes Go.WideShapes Go.RowKit
set_option linter.unusedVariables false
set_option linter.unusedSimpArgs false
section
variable {P : Program} {H : Type} {enc : TypeId × Value → H} {w : World} {base : Nat} {held : Bool} {fuel : Nat} {cs : List Value} {x : DataW H × List MemPlace}

/-- A slice whose elements are read as abstract values. -/
theorem rd_slice {t e : TypeId} {k : Nat} (hk : 0 < k) (ht : P.underlying t = some (.slice e)) (hc : P.cellsOf e = k) {α : Type} (f : α → AV)
    (hsol : ∀ a, (f a).solid = true)
    (he : ∀ (n : Nat) (cs : List Value) (y : DataW H × List MemPlace), DataW.trod enc P w base (fun _ => true) held n e cs = some y → cs.length = k → ∃ (a : α) (v : Value), v.cells.toList = cs ∧ cellsOk v ∧ RV w (Old w) (f a) noMu v)
    (h : DataW.trod enc P w base (fun _ => true) held fuel t cs = some x) : ∃ (l : List α), RVL w (Old w) [.sl k (l.map f) false] noMu cs := by
  rcases DataW.trod_slice ht h with ⟨rfl, _⟩ | ⟨a, len, cap, elems, rest, n, _, rfl, rfl, hb, hl, hm, hlen, hel, hsp, hns⟩
  · exact ⟨[], _, _, rfl, .inl ⟨rfl, _, rfl⟩, rfl⟩
  by_cases h0 : cap = 0
  · subst h0
    have : len = 0 := by omega
    subst this
    exact ⟨[], _, _, rfl, .inl ⟨rfl, _, rfl⟩, rfl⟩
  obtain ⟨hrl, hr⟩ := hsp rfl
  -- the first cell
  have hfirst : ∃ v, w.cell? a = some v := by
    have h1 : ∃ cs', w.cells? base (a.add (0 * k)) k = some cs' := by
      by_cases hz : 0 < len
      · have h1 := hel 0 hz
        rw [hc, List.getElem?_eq_getElem (show 0 < elems.length by omega), Option.bind_eq_some_iff] at h1
        obtain ⟨cs', h2, _⟩ := h1
        exact ⟨cs', h2⟩
      · have h1 := hr 0 (by omega)
        rw [hc, List.getElem?_eq_getElem (show 0 < rest.length by omega), Option.bind_eq_some_iff] at h1
        obtain ⟨cs', h2, _⟩ := h1
        exact ⟨cs', by rw [show len + 0 = 0 by omega] at h2; exact h2⟩
    obtain ⟨cs', h2⟩ := h1
    obtain ⟨_, h3, h4⟩ := World.cells?_some h2
    have h5 := h4 0 hk
    rw [List.getElem?_eq_getElem (show 0 < cs'.length by omega)] at h5
    refine ⟨_, by rw [← h5]; congr 1; simp [Addr.add]⟩
  obtain ⟨v0, hv0⟩ := hfirst
  obtain ⟨e1, e2⟩ := Addr.eta hv0
  have each : ∀ i, i < len → ∃ (b : α) (v : Value), (v.cells.size = k ∧ ∀ j u, v.cells[j]? = some u → w.cell? ⟨a.block, a.off + (i * k + j), none⟩ = some u) ∧ cellsOk v ∧ RV w (Old w) (f b) noMu v := by
    intro i hi
    have h1 := hel i hi
    rw [hc, List.getElem?_eq_getElem (show i < elems.length by omega), Option.bind_eq_some_iff] at h1
    obtain ⟨cs', h2, h3⟩ := h1
    obtain ⟨_, h4, h5⟩ := World.cells?_some h2
    obtain ⟨b, v, g1, g2, g3⟩ := he n cs' _ h3 h4
    have hsz : v.cells.size = k := by rw [← h4, ← g1]; simp
    refine ⟨b, v, ⟨hsz, fun j u hu => ?_⟩, g2, g3⟩
    have hj : j < k := by have := (Array.getElem?_eq_some_iff.mp hu).1; omega
    have h6 := h5 j hj
    rw [← g1] at h6
    rw [e1] at h6
    have e3 : ((Addr.mk a.block a.off none).add (i * k)).add j = ⟨a.block, a.off + (i * k + j), none⟩ := by
      simp only [Addr.add]
      by_cases q1 : i * k = 0
      · rw [if_pos q1, q1]
        by_cases q2 : j = 0
        · rw [if_pos q2, q2]; rfl
        · rw [if_neg q2]; simp
      · rw [if_neg q1]
        by_cases q2 : j = 0
        · rw [if_pos q2, q2]; rfl
        · rw [if_neg q2]; simp [Nat.add_assoc]
    rw [e3] at h6
    rw [h6]; simpa using hu
  have build : ∀ n, n ≤ len → ∃ (l : List α) (vs : List Value), l.length = n ∧ vs.length = n ∧ ∀ i b v, l[i]? = some b → vs[i]? = some v → (v.cells.size = k ∧ ∀ j u, v.cells[j]? = some u → w.cell? ⟨a.block, a.off + (i * k + j), none⟩ = some u) ∧ cellsOk v ∧ RV w (Old w) (f b) noMu v := by
    intro n
    induction n with
    | zero => intro _; exact ⟨[], [], rfl, rfl, fun i b v hb => by simp at hb⟩
    | succ n ih =>
      intro hn
      obtain ⟨l, vs, h1, h2, h3⟩ := ih (by omega)
      obtain ⟨b, v, h4⟩ := each n (by omega)
      refine ⟨l ++ [b], vs ++ [v], by simp [h1], by simp [h2], fun i b' v' hb' hv' => ?_⟩
      by_cases hi : i < n
      · rw [List.getElem?_append_left (by omega)] at hb' hv'
        exact h3 i b' v' hb' hv'
      · have hil : i < (l ++ [b]).length := (List.getElem?_eq_some_iff.mp hb').1
        have hie : i = n := by simp [h1] at hil; omega
        subst hie
        rw [List.getElem?_append_right (by omega), h1] at hb'
        rw [List.getElem?_append_right (by omega), h2] at hv'
        simp at hb' hv'
        subst hb'; subst hv'
        exact h4
  obtain ⟨l, vs, h1, h2, h3⟩ := build len (Nat.le_refl _)
  have hget : ∀ i, i < len → ∃ b v, l[i]? = some b ∧ vs[i]? = some v := fun i hi => ⟨_, _, List.getElem?_eq_getElem (by omega), List.getElem?_eq_getElem (by omega)⟩
  have hvs : ∀ v ∈ vs, v.cells.size = k ∧ cellsOk v := fun v hv => by
    obtain ⟨i, hi, rfl⟩ := List.getElem_of_mem hv
    obtain ⟨g1, g2, _⟩ := h3 i _ _ (List.getElem?_eq_getElem (show i < l.length by omega)) (List.getElem?_eq_getElem hi)
    exact ⟨g1.1, g2⟩
  refine ⟨l, _, _, rfl, .inr ⟨a.block, a.off, cap, vs, ?_, e2, ?_, hm, (fun h => by cases h), ?_, hvs, ?_, ?_⟩, rfl⟩
  · rw [← e1]; simp [h1]
  · simp [h1]; exact hl
  · refine RVL.of_get (by simp [h1, h2]) fun i y v hy hv => ?_
    rw [List.getElem?_map] at hy
    cases hb : l[i]? with
    | none => rw [hb] at hy; simp at hy
    | some b =>
      rw [hb] at hy; simp at hy; subst hy
      exact (h3 i b v hb hv).2.2
  · intro p u hu
    have hk' : ∀ v ∈ vs, v.cells.size = k := fun v hv => (hvs v hv).1
    have hp : p < vs.length * k := by rw [← flat_len hk']; exact (List.getElem?_eq_some_iff.mp hu).1
    have hi : p / k < vs.length := Nat.div_lt_of_lt_mul (by rw [Nat.mul_comm]; exact hp)
    have hj : p % k < k := Nat.mod_lt _ hk
    have hpe : p = p / k * k + p % k := by rw [Nat.mul_comm]; exact (Nat.div_add_mod p k).symm
    have hv := List.getElem?_eq_getElem hi
    have hfa := flat_at hk' hv hj
    rw [← hpe, hu] at hfa
    have := (h3 (p / k) _ _ (List.getElem?_eq_getElem (show p / k < l.length by omega)) hv).1.2 (p % k) u (by simpa using hfa.symm)
    rw [hpe]; exact this
  · intro y hy
    obtain ⟨b, _, rfl⟩ := List.mem_map.mp hy
    exact hsol b


theorem rvl_one {xs : List AV} {vs : List Value} (h : RVL w (Old w) xs noMu vs) (hs : ∀ x ∈ xs, x.solid = true ∧ x.isAgg = false) : ∀ v ∈ vs, v.oneCell' = true := fun v hv => by
  obtain ⟨i, hi⟩ := List.getElem?_of_mem hv
  have hlt : i < xs.length := by rw [h.length]; exact (List.getElem?_eq_some_iff.mp hi).1
  have hx := List.getElem?_eq_getElem hlt
  have := hs _ (List.getElem_mem hlt)
  exact RV.one this.1 this.2 (h.get2 hx hi)
theorem rvl_append {xs ys : List AV} {us vs : List Value} (h : RVL w (Old w) xs noMu us) (h' : RVL w (Old w) ys noMu vs) : RVL w (Old w) (xs ++ ys) noMu (us ++ vs) := by
  refine RVL.of_get (by rw [List.length_append, List.length_append, h.length, h'.length]) fun i x v hx hv => ?_
  by_cases hi : i < xs.length
  · rw [List.getElem?_append_left hi] at hx
    rw [List.getElem?_append_left (by rw [← h.length]; exact hi)] at hv
    exact h.get2 hx hv
  · rw [List.getElem?_append_right (by omega)] at hx
    rw [List.getElem?_append_right (by rw [← h.length]; omega), ← h.length] at hv
    exact h'.get2 hx hv

end

/-- A reader: what the cells of a type read as. 'v' is the value as one abstract value. -/
structure Rd (P : Program) (α : Type) where
  t : TypeId
  n : Nat
  enc : α → List AV
  v : α → AV
  pos : 0 < n
  hn : P.cellsOf t = n
  sol : ∀ a, ∀ x ∈ enc a, x.solid = true ∧ x.isAgg = false
  hv : (∀ a, v a = .agg (enc a)) ∨ (∀ a, enc a = [v a])
  rd : ∀ {H : Type} {e : TypeId × Value → H} {w : World} {base : Nat} {held : Bool} {fuel : Nat} {cs : List Value} {x : DataW H × List MemPlace},
    cs.length = n → DataW.trod e P w base (fun _ => true) held fuel t cs = some x → ∃ a, RVL w (Old w) (enc a) noMu cs

theorem Rd.vsol {P : Program} {α : Type} (r : Rd P α) (a : α) : (r.v a).solid = true := by
  rcases r.hv with h | h
  · rw [h]; rfl
  · exact (r.sol a (r.v a) (by rw [h]; simp)).1
/-- An element as one value. -/
theorem Rd.elem {P : Program} {α : Type} (r : Rd P α) {H : Type} {e : TypeId × Value → H} {w : World} {base : Nat} {held : Bool} {fuel : Nat} {cs : List Value} {x : DataW H × List MemPlace}
    (h : DataW.trod e P w base (fun _ => true) held fuel r.t cs = some x) (hl : cs.length = r.n) : ∃ (a : α) (u : Value), u.cells.toList = cs ∧ cellsOk u ∧ RV w (Old w) (r.v a) noMu u := by
  obtain ⟨a, ha⟩ := r.rd hl h
  rcases r.hv with hv | hv
  · refine ⟨a, .agg cs.toArray, by simp [Value.cells], fun c hc => rvl_one ha (r.sol a) c (by simpa [Value.cells] using hc), ?_⟩
    rw [hv]
    exact ⟨cs, rfl, ha, rvl_one ha (r.sol a)⟩
  · have ha' := ha
    rw [hv] at ha'
    obtain ⟨u, us, rfl, h1, rfl⟩ := ha'
    have h2 := r.sol a (r.v a) (by rw [hv]; simp)
    have ho := RV.one h2.1 h2.2 h1
    have hc : u.cells = #[u] := by cases u <;> first | rfl | simp [Value.oneCell'] at ho
    exact ⟨a, u, by rw [hc], fun c hc' => by rw [hc] at hc'; simp at hc'; rw [hc']; exact ho, h1⟩
def Rd.int {P : Program} (k : IntKind) (t : TypeId) (ht : P.underlying t = some (.int k)) (hn : P.cellsOf t = 1) : Rd P Int :=
  ⟨t, 1, fun a => [.val (.int k a)], fun a => .val (.int k a), by omega, hn, fun a x hx => by simp at hx; subst hx; exact ⟨rfl, rfl⟩, .inr fun _ => rfl, fun hl h => by
    obtain ⟨n, rfl, _, hw⟩ := DataW.trod_int ht h
    exact ⟨n, _, _, rfl, ⟨rfl, by simpa [Lit.wf, plainV, inK] using hw⟩, rfl⟩⟩
def Rd.bool {P : Program} (t : TypeId) (ht : P.underlying t = some .bool) (hn : P.cellsOf t = 1) : Rd P Bool :=
  ⟨t, 1, fun a => [.bool a], .bool, by omega, hn, fun a x hx => by simp at hx; subst hx; exact ⟨rfl, rfl⟩, .inr fun _ => rfl, fun hl h => by
    obtain ⟨n, rfl, _⟩ := DataW.trod_bool ht h
    exact ⟨n, _, _, rfl, ⟨rfl, trivial⟩, rfl⟩⟩
def Rd.str {P : Program} (t : TypeId) (ht : P.underlying t = some .string) (hn : P.cellsOf t = 1) : Rd P ByteArray :=
  ⟨t, 1, fun a => [.str a], .str, by omega, hn, fun a x hx => by simp at hx; subst hx; exact ⟨rfl, rfl⟩, .inr fun _ => rfl, fun hl h => by
    obtain ⟨n, rfl, _, hw⟩ := DataW.trod_string ht h
    exact ⟨n, _, _, rfl, ⟨rfl, hw⟩, rfl⟩⟩
def Rd.slice {P : Program} {α : Type} (r : Rd P α) (t : TypeId) (ht : P.underlying t = some (.slice r.t)) (hn : P.cellsOf t = 1) : Rd P (List α) :=
  ⟨t, 1, fun l => [.sl r.n (l.map r.v) false], fun l => .sl r.n (l.map r.v) false, by omega, hn, fun a x hx => by simp at hx; subst hx; exact ⟨rfl, rfl⟩, .inr fun _ => rfl, fun hl h =>
    rd_slice r.pos ht r.hn r.v r.vsol (fun n cs y hy hl => r.elem hy hl) h⟩

/-- Readers of fields, one behind the other. -/
structure RdF (P : Program) (α : Type) where
  ts : List (TypeId × Nat)
  n : Nat
  enc : α → List AV
  hn : n = (ts.map (·.2)).sum
  sol : ∀ a, ∀ x ∈ enc a, x.solid = true ∧ x.isAgg = false
  rd : ∀ {H : Type} {e : TypeId × Value → H} {w : World} {base : Nat} {held : Bool} {fuel : Nat} {cs : List Value} {ys : List (DataW H × List MemPlace)},
    cs.length = n → ys.length = ts.length →
    (∀ (i o : Nat) (p : TypeId × Nat), ts[i]? = some p → o = ((ts.take i).map (·.2)).sum → DataW.trod e P w base (fun _ => true) held fuel p.1 ((cs.drop o).take p.2) = ys[i]?) → ∃ a, RVL w (Old w) (enc a) noMu cs
def RdF.nil {P : Program} : RdF P Unit := ⟨[], 0, fun _ => [], rfl, fun a x hx => by simp at hx, fun hl _ _ => ⟨(), by rw [List.eq_nil_of_length_eq_zero hl]; rfl⟩⟩
def RdF.cons {P : Program} {α β : Type} (r : Rd P α) (f : RdF P β) : RdF P (α × β) :=
  ⟨(r.t, r.n) :: f.ts, r.n + f.n, fun a => r.enc a.1 ++ f.enc a.2, by rw [f.hn]; simp, fun a x hx => by
      rcases List.mem_append.mp hx with hx | hx
      · exact r.sol _ x hx
      · exact f.sol _ x hx, fun {H e w base held fuel cs ys} hl hy h => by
    match ys, hy with
    | y :: ys, hy =>
    have h0 := h 0 0 _ rfl rfl
    simp only [List.drop_zero, List.getElem?_cons_zero] at h0
    obtain ⟨a, ha⟩ := r.rd (by simp; omega) h0
    obtain ⟨b, hb⟩ := f.rd (cs := cs.drop r.n) (ys := ys) (fuel := fuel) (e := e) (w := w) (base := base) (held := held) (by simp; omega) (by simpa using hy) fun i o p hp ho => by
      have := h (i + 1) (r.n + o) p (by simpa using hp) (by simp [ho])
      rw [List.drop_drop]
      simpa using this
    refine ⟨(a, b), ?_⟩
    have := rvl_append ha hb
    rwa [List.take_append_drop] at this⟩
/-- The fields of a structure are these, without holes. -/
def fldOk (P : Program) (t : TypeId) (ts : List (TypeId × Nat)) (n : Nat) : Bool := match P.underlying t with
  | some (.struct fs) => Nat.beq (P.cellsOf t) n && Nat.beq fs.size ts.length && (List.range ts.length).all fun i => match fs[i]?, ts[i]? with
    | some f, some p => Nat.beq f.type p.1 && Nat.beq (P.cellsOf p.1) p.2 && Nat.beq f.offset ((ts.take i).map (·.2)).sum
    | _, _ => false
  | _ => false
theorem fldOk_rd {P : Program} {α : Type} {t : TypeId} (f : RdF P α) (hf : fldOk P t f.ts f.n = true) : P.cellsOf t = f.n ∧ ∀ {H : Type} {e : TypeId × Value → H} {w : World} {base : Nat} {held : Bool} {fuel : Nat} {cs : List Value} {x : DataW H × List MemPlace},
    DataW.trod e P w base (fun _ => true) held fuel t cs = some x → ∃ a, RVL w (Old w) (f.enc a) noMu cs := by
  unfold fldOk at hf
  split at hf
  · rename_i fs hu
    simp only [Bool.and_eq_true] at hf
    obtain ⟨⟨h1, h2⟩, h3⟩ := hf
    have h1 := Nat.eq_of_beq_eq_true h1
    have h2 := Nat.eq_of_beq_eq_true h2
    refine ⟨h1, fun {H e w base held fuel cs x} h => ?_⟩
    obtain ⟨xs, m, -, hx, hl, hxl, he⟩ := DataW.trod_struct hu h
    refine f.rd (ys := xs) (fuel := m) (e := e) (base := base) (held := held) (by omega) (by omega) fun i o p hp ho => ?_
    have hi : i < f.ts.length := (List.getElem?_eq_some_iff.mp hp).1
    have h4 := List.all_eq_true.mp h3 i (List.mem_range.mpr hi)
    rw [hp] at h4
    split at h4
    · rename_i fd p' e1 e2
      cases e2
      simp only [Bool.and_eq_true] at h4
      obtain ⟨⟨h5, h6⟩, h7⟩ := h4
      have h5 := Nat.eq_of_beq_eq_true h5
      have h6 := Nat.eq_of_beq_eq_true h6
      have h7 := Nat.eq_of_beq_eq_true h7
      have := he i fd e1
      rw [h7, h5, h6, ← ho] at this
      exact this
    · cases h4
  · cases hf
def Rd.struct {P : Program} {α β : Type} (f : RdF P α) (t : TypeId) (hf : fldOk P t f.ts f.n = true) (hp : 0 < f.n) (mk : α → β) (un : β → α) (h : ∀ a, un (mk a) = a) : Rd P β :=
  ⟨t, f.n, fun b => f.enc (un b), fun b => .agg (f.enc (un b)), hp, (fldOk_rd f hf).1, fun b => f.sol _, .inl fun _ => rfl, fun hl h' => by
    obtain ⟨a, ha⟩ := (fldOk_rd f hf).2 h'
    exact ⟨mk a, by rw [h]; exact ha⟩⟩
section
variable {P : Program} {H : Type} {enc : TypeId × Value → H} {w : World} {base : Nat} {held : Bool}
theorem Rd.argS {α β : Type} {f : RdF P α} {t : TypeId} {hf : fldOk P t f.ts f.n = true} {hp : 0 < f.n} {mk : α → β} {un : β → α} {hu : ∀ a, un (mk a) = a} {fs : Array Field} (ht : P.underlying t = some (.struct fs))
    {v : Value} {d : DataW H} {ps : List MemPlace} {r : Reach} {b0 : Nat} (hval : Value.okWide P w r b0 t v) (hd : DataW.Trod enc P w base (fun _ => true) held t v d ps) : ∃ b : β, RV w (Old w) (.agg (f.enc (un b))) noMu v := by
  obtain ⟨cs, rfl, _⟩ := okWide_struct ht hval
  obtain ⟨fuel, hf'⟩ := hd
  obtain ⟨a, ha⟩ := (fldOk_rd f hf).2 hf'
  refine ⟨mk a, ?_⟩
  rw [hu]
  have ha : RVL w (Old w) (f.enc a) noMu cs.toList := by simpa [Value.cells] using ha
  exact ⟨cs.toList, by simp, ha, rvl_one ha (f.sol a)⟩
theorem Rd.argL {α : Type} (r : Rd P α) {t : TypeId} (ht : P.underlying t = some (.slice r.t)) {v : Value} {d : DataW H} {ps : List MemPlace} {q : Reach} {b0 : Nat} (hval : Value.okWide P w q b0 t v)
    (hd : DataW.Trod enc P w base (fun _ => true) held t v d ps) : ∃ l : List α, RV w (Old w) (.sl r.n (l.map r.v) false) noMu v := by
  obtain ⟨a, len, cap, rfl⟩ := okWide_slice ht hval
  obtain ⟨fuel, hf⟩ := hd
  obtain ⟨s, u, us, h1, h2, h3⟩ := rd_slice r.pos ht r.hn r.v r.vsol (fun n cs y hy hl => r.elem hy hl) hf
  have : (Value.slice a len cap).cells.toList = [.slice a len cap] := rfl
  rw [this] at h1
  obtain ⟨rfl, _⟩ := List.cons.inj h1
  exact ⟨s, h2⟩
end
end Go.Am
