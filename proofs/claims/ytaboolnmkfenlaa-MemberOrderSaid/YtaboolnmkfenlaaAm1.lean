/- The abstract values of the machine AM, and what it means that a value of the model is one of them in a world. -/
import Derived.WalkKit
import Derived.LoadGo2
namespace Go.Am
set_option linter.unusedVariables false

/-- Abstract values: 'val' a plain value; 'agg' a struct or array by its cells; 'sl' a slice that nobody writes, read off as a list; 'ref', 'eref', 'vec', 'vsub', 'asub' lead into blocks that the frame owns; 'rptr' into memory that nobody writes. -/
inductive AV where
  | val (v : Value)
  | agg (cs : List AV)
  | tup (vs : List AV)
  | func (f : FuncId) (caps : List AV)
  | ref (b off : Nat)
  | eref (b i off : Nat)
  | rptr (x : AV) (off : Nat)
  | vec (b : Nat)
  | vsub (b lo len : Nat)
  | asub (b off len k : Nat)
  | sl (k : Nat) (es : List AV) (full : Bool)
  | unk
  deriving Inhabited

def AV.cells : AV → List AV
  | .agg cs => cs
  | v => [v]

def AV.solid : AV → Bool
  | .unk | .tup _ => false
  | _ => true

def AV.isAgg : AV → Bool
  | .agg _ => true
  | _ => false

abbrev AV.int (n : Int) : AV := .val (.int .i64 n)
abbrev AV.bool (b : Bool) : AV := .val (.bool b)
abbrev AV.str (s : ByteArray) : AV := .val (.string s)

def inK (k : IntKind) (n : Int) : Prop := k.min ≤ n ∧ n ≤ k.max

def plainV : Value → Prop
  | .bool _ => True
  | .int k n => inK k n
  | .string s => s.size ≤ maxLen
  | .pointer none => True
  | .nilFunc => True
  | .nilIface => True
  | .float _ _ => True
  | .map none => True
  | _ => False

structure Hd where
  emp : Option (Option Addr)
  blk : Nat
  k : Nat
  len : Nat
  cap : Nat

def Hd.val (h : Hd) : Value := match h.emp with
  | some a => .slice a 0 0
  | none => .slice (some ⟨h.blk, 0, none⟩) h.len h.cap
theorem Hd.val_slice (h : Hd) : ∃ a n c, h.val = .slice a n c := by unfold Hd.val; split <;> exact ⟨_, _, _, rfl⟩

abbrev Mu := Nat → Option Hd
def noMu : Mu := fun _ => none

def cellsOk (v : Value) : Prop := ∀ c ∈ v.cells.toList, c.oneCell' = true

mutual
def RV (w : World) (A : Nat → Prop) : AV → Mu → Value → Prop
  | .val x, _, cv => cv = x ∧ plainV x
  | .agg cs, μ, cv => ∃ vs : List Value, cv = .agg vs.toArray ∧ RVL w A cs μ vs ∧ ∀ v ∈ vs, v.oneCell' = true
  | .tup xs, μ, cv => ∃ vs : List Value, cv = .tuple vs.toArray ∧ RVL w A xs μ vs
  | .func f caps, μ, cv => ∃ vs : List Value, cv = .func (.func f) #[] vs.toArray ∧ RVL w A caps μ vs
  | .ref b off, μ, cv => ∃ hd, μ b = some hd ∧ hd.emp = none ∧ cv = .pointer (some ⟨hd.blk, off, none⟩)
  | .eref b i off, μ, cv => ∃ hd, μ b = some hd ∧ hd.emp = none ∧ cv = .pointer (some ⟨hd.blk, i * hd.k + off, none⟩)
  | .rptr x off, _, cv => ∃ blk o v, cv = .pointer (some ⟨blk, o + off, none⟩) ∧ A blk ∧ RV w A x noMu v ∧ cellsOk v ∧
      ∀ p u, v.cells[p]? = some u → w.cell? ⟨blk, o + p, none⟩ = some u
  | .vec b, μ, cv => ∃ hd, μ b = some hd ∧ cv = hd.val
  | .vsub b lo len, μ, cv => ∃ hd cap o, μ b = some hd ∧ hd.emp = none ∧ len ≤ cap ∧ (0 < cap → o = lo * hd.k) ∧ cap + lo = hd.cap ∧ cv = .slice (some ⟨hd.blk, o, none⟩) len cap
  | .asub b off len k, μ, cv => ∃ hd cap o, μ b = some hd ∧ hd.emp = none ∧ len ≤ cap ∧ (0 < len → o = off) ∧ cv = .slice (some ⟨hd.blk, o, none⟩) len cap
  | .sl k es full, _, cv => (es = [] ∧ ∃ a : Option Addr, cv = .slice a 0 0) ∨
      ∃ blk off cap vs, cv = .slice (some ⟨blk, off, none⟩) es.length cap ∧ A blk ∧ es.length ≤ cap ∧ cap ≤ maxLen ∧ (full = true → cap = es.length) ∧
        RVL w A es noMu vs ∧ (∀ v ∈ vs, v.cells.size = k ∧ cellsOk v) ∧ (∀ p u, (vs.flatMap (·.cells.toList))[p]? = some u → w.cell? ⟨blk, off + p, none⟩ = some u) ∧ ∀ x ∈ es, x.solid = true
  | .unk, _, _ => True
def RVL (w : World) (A : Nat → Prop) : List AV → Mu → List Value → Prop
  | [], _, vs => vs = []
  | x :: xs, μ, vs => ∃ v vs', vs = v :: vs' ∧ RV w A x μ v ∧ RVL w A xs μ vs'
end

/-- The memory that 'A' names reads the same in both worlds. -/
def Same (A : Nat → Prop) (w w' : World) : Prop := ∀ b, A b → w'.heap[b]? = w.heap[b]?

theorem Same.cell {A : Nat → Prop} {w w' : World} (h : Same A w w') {b o : Nat} (hb : A b) : w'.cell? ⟨b, o, none⟩ = w.cell? ⟨b, o, none⟩ :=
  World.cell?_of_block (h b hb)

def MuLe (μ μ' : Mu) : Prop := ∀ b hd, μ b = some hd → μ' b = some hd
theorem MuLe.refl (μ : Mu) : MuLe μ μ := fun _ _ h => h
theorem MuLe.trans {a b c : Mu} (h : MuLe a b) (k : MuLe b c) : MuLe a c := fun x hd e => k _ _ (h _ _ e)

section
variable {w w' : World} {A A' : Nat → Prop}
mutual
theorem RV.mono (hs : Same A w w') (hA : ∀ b, A b → A' b) : ∀ (x : AV) {μ μ' : Mu} (hμ : MuLe μ μ') {cv : Value}, RV w A x μ cv → RV w' A' x μ' cv
  | .val _, _, _, _, _, h => h
  | .agg cs, _, _, hμ, _, ⟨vs, h1, h2, h3⟩ => ⟨vs, h1, RVL.mono hs hA cs hμ h2, h3⟩
  | .tup xs, _, _, hμ, _, ⟨vs, h1, h2⟩ => ⟨vs, h1, RVL.mono hs hA xs hμ h2⟩
  | .func f caps, _, _, hμ, _, ⟨vs, h1, h2⟩ => ⟨vs, h1, RVL.mono hs hA caps hμ h2⟩
  | .ref b off, _, _, hμ, _, ⟨hd, h1, h2, h3⟩ => ⟨hd, hμ _ _ h1, h2, h3⟩
  | .eref b i off, _, _, hμ, _, ⟨hd, h1, h2, h3⟩ => ⟨hd, hμ _ _ h1, h2, h3⟩
  | .rptr x off, _, _, _, _, ⟨blk, o, v, h1, h2, h3, h4, h5⟩ =>
      ⟨blk, o, v, h1, hA _ h2, RV.mono hs hA x (MuLe.refl _) h3, h4, fun p u hu => by rw [hs.cell h2]; exact h5 p u hu⟩
  | .vec b, _, _, hμ, _, ⟨hd, h1, h2⟩ => ⟨hd, hμ _ _ h1, h2⟩
  | .vsub b lo len, _, _, hμ, _, ⟨hd, cap, o, h1, h2⟩ => ⟨hd, cap, o, hμ _ _ h1, h2⟩
  | .asub b off len k, _, _, hμ, _, ⟨hd, cap, o, h1, h2⟩ => ⟨hd, cap, o, hμ _ _ h1, h2⟩
  | .sl k es full, _, _, _, _, h => by
      rcases h with h | ⟨blk, off, cap, vs, h1, h2, h3, h4, h5, h6, h7, h8, h9⟩
      · exact .inl h
      · exact .inr ⟨blk, off, cap, vs, h1, hA _ h2, h3, h4, h5, RVL.mono hs hA es (MuLe.refl _) h6, h7, (fun p u hu => by rw [hs.cell h2]; exact h8 p u hu), h9⟩
  | .unk, _, _, _, _, _ => trivial
theorem RVL.mono (hs : Same A w w') (hA : ∀ b, A b → A' b) : ∀ (xs : List AV) {μ μ' : Mu} (hμ : MuLe μ μ') {vs : List Value}, RVL w A xs μ vs → RVL w' A' xs μ' vs
  | [], _, _, _, _, h => h
  | x :: xs, _, _, hμ, _, ⟨v, vs', h1, h2, h3⟩ => ⟨v, vs', h1, RV.mono hs hA x hμ h2, RVL.mono hs hA xs hμ h3⟩
end
end

mutual
/-- No part of the value leads into a block of the frame's own. -/
def AV.pure : AV → Prop
  | .val _ => True
  | .agg cs => pureL cs
  | .tup xs => pureL xs
  | .func _ caps => pureL caps
  | .ref _ _ => False
  | .eref _ _ _ => False
  | .rptr _ _ => True
  | .vec _ => False
  | .vsub _ _ _ => False
  | .asub _ _ _ _ => False
  | .sl _ _ _ => True
  | .unk => True
def pureL : List AV → Prop
  | [] => True
  | x :: xs => x.pure ∧ pureL xs
end

section
variable {w : World} {A : Nat → Prop}
mutual
theorem RV.pure : ∀ {x : AV} {μ μ' : Mu} {v : Value}, x.pure → RV w A x μ v → RV w A x μ' v
  | .val _, _, _, _, _, h => h
  | .agg cs, _, _, _, hp, ⟨vs, h1, h2, h3⟩ => ⟨vs, h1, RVL.pure hp h2, h3⟩
  | .tup xs, _, _, _, hp, ⟨vs, h1, h2⟩ => ⟨vs, h1, RVL.pure hp h2⟩
  | .func f caps, _, _, _, hp, ⟨vs, h1, h2⟩ => ⟨vs, h1, RVL.pure hp h2⟩
  | .ref _ _, _, _, _, hp, _ => hp.elim
  | .eref _ _ _, _, _, _, hp, _ => hp.elim
  | .rptr _ _, _, _, _, _, h => h
  | .vec _, _, _, _, hp, _ => hp.elim
  | .vsub _ _ _, _, _, _, hp, _ => hp.elim
  | .asub _ _ _ _, _, _, _, hp, _ => hp.elim
  | .sl _ _ _, _, _, _, _, h => h
  | .unk, _, _, _, _, _ => trivial
theorem RVL.pure : ∀ {xs : List AV} {μ μ' : Mu} {vs : List Value}, pureL xs → RVL w A xs μ vs → RVL w A xs μ' vs
  | [], _, _, _, _, h => h
  | x :: xs, _, _, _, hp, ⟨v, vs', h1, h2, h3⟩ => ⟨v, vs', h1, RV.pure hp.1 h2, RVL.pure hp.2 h3⟩
end
end

/-! ### Lists -/
section
variable {w : World} {A : Nat → Prop} {μ : Mu}
theorem RVL.length : ∀ {xs : List AV} {vs : List Value}, RVL w A xs μ vs → xs.length = vs.length
  | [], _, h => by simp [RVL] at h; simp [h]
  | x :: xs, _, ⟨v, vs', h1, _, h3⟩ => by subst h1; simp [RVL.length h3]

theorem RVL.get : ∀ {xs : List AV} {vs : List Value}, RVL w A xs μ vs → ∀ {i : Nat} {x : AV}, xs[i]? = some x → ∃ v, vs[i]? = some v ∧ RV w A x μ v
  | [], _, _, i, x, h => by simp at h
  | y :: ys, _, ⟨v, vs', h1, h2, h3⟩, 0, x, h => by simp at h; subst h1; subst h; exact ⟨v, rfl, h2⟩
  | y :: ys, _, ⟨v, vs', h1, h2, h3⟩, i + 1, x, h => by subst h1; simpa using RVL.get h3 (by simpa using h)

theorem RVL.of_get : ∀ {xs : List AV} {vs : List Value}, xs.length = vs.length → (∀ (i : Nat) (x : AV) (v : Value), xs[i]? = some x → vs[i]? = some v → RV w A x μ v) → RVL w A xs μ vs
  | [], [], _, _ => rfl
  | x :: xs, v :: vs, hl, h => ⟨v, vs, rfl, h 0 x v rfl rfl, RVL.of_get (by simpa using hl) fun i x v hx hv => h (i + 1) x v (by simpa using hx) (by simpa using hv)⟩
  | [], _ :: _, hl, _ => by simp at hl
  | _ :: _, [], hl, _ => by simp at hl

theorem RVL.get2 {xs : List AV} {vs : List Value} (h : RVL w A xs μ vs) {i : Nat} {x : AV} {v : Value} (hx : xs[i]? = some x) (hv : vs[i]? = some v) : RV w A x μ v := by
  obtain ⟨v', h1, h2⟩ := h.get hx
  rw [h1] at hv; cases hv; exact h2

theorem RVL.append : ∀ {xs ys : List AV} {us vs : List Value}, RVL w A xs μ us → RVL w A ys μ vs → RVL w A (xs ++ ys) μ (us ++ vs)
  | [], _, _, _, h, h' => by simp [RVL] at h; subst h; simpa using h'
  | x :: xs, ys, _, _, ⟨v, vs', h1, h2, h3⟩, h' => by subst h1; exact ⟨v, _, rfl, h2, RVL.append h3 h'⟩

theorem RVL.take {xs : List AV} {vs : List Value} (h : RVL w A xs μ vs) (n : Nat) : RVL w A (xs.take n) μ (vs.take n) :=
  RVL.of_get (by simp [h.length]) fun i x v hx hv => by
    rw [List.getElem?_take] at hx hv
    split at hx <;> simp_all
    exact h.get2 hx hv
theorem RVL.drop {xs : List AV} {vs : List Value} (h : RVL w A xs μ vs) (n : Nat) : RVL w A (xs.drop n) μ (vs.drop n) :=
  RVL.of_get (by simp [h.length]) fun i x v hx hv => by
    rw [List.getElem?_drop] at hx hv
    exact h.get2 hx hv
theorem RVL.set {xs : List AV} {vs : List Value} (h : RVL w A xs μ vs) (n : Nat) {x : AV} {v : Value} (hv : RV w A x μ v) : RVL w A (xs.set n x) μ (vs.set n v) :=
  RVL.of_get (by simp [h.length]) fun i y u hy hu => by
    rw [List.getElem?_set] at hy hu
    by_cases e : n = i
    · subst e
      by_cases hn : n < xs.length
      · have hn' : n < vs.length := by rw [← h.length]; exact hn
        simp [hn] at hy; simp [hn'] at hu; subst hy; subst hu; exact hv
      · simp [hn] at hy
    · simp [e] at hy hu; exact h.get2 hy hu
theorem RVL.singleton {x : AV} {v : Value} (h : RV w A x μ v) : RVL w A [x] μ [v] := ⟨v, [], rfl, h, rfl⟩

theorem oneCell_cells {v : Value} (h : v.oneCell' = true) : v.cells = #[v] := by cases v <;> simp_all [Value.oneCell', Value.cells]
theorem cellsOk_of_one {v : Value} (h : v.oneCell' = true) : cellsOk v := by
  intro c hc; rw [oneCell_cells h] at hc; simp at hc; subst hc; exact h
theorem plainV.one {v : Value} (h : plainV v) : v.oneCell' = true := by cases v <;> simp_all [plainV, Value.oneCell']

/-- A solid abstract value reads cell by cell. -/
theorem RV.cells {x : AV} {cv : Value} (hs : x.solid = true) (h : RV w A x μ cv) : RVL w A x.cells μ cv.cells.toList ∧ cellsOk cv := by
  have one : ∀ {x : AV}, x.cells = [x] → cv.oneCell' = true → RV w A x μ cv → RVL w A x.cells μ cv.cells.toList ∧ cellsOk cv := by
    intro x hx hc hr
    rw [hx, oneCell_cells hc]
    exact ⟨RVL.singleton hr, cellsOk_of_one hc⟩
  cases x with
  | val v => exact one rfl (by obtain ⟨rfl, hp⟩ := h; exact hp.one) h
  | agg cs =>
    obtain ⟨vs, rfl, h2, h3⟩ := h
    exact ⟨by simpa [AV.cells, Value.cells] using h2, fun c hc => h3 c (by simpa [Value.cells] using hc)⟩
  | tup xs => simp [AV.solid] at hs
  | func f caps => exact one rfl (by obtain ⟨vs, rfl, _⟩ := h; rfl) h
  | ref b off => exact one rfl (by obtain ⟨hd, _, _, rfl⟩ := h; rfl) h
  | eref b i off => exact one rfl (by obtain ⟨hd, _, _, rfl⟩ := h; rfl) h
  | rptr x off => exact one rfl (by obtain ⟨_, _, _, rfl, _⟩ := h; rfl) h
  | vec b =>
    refine one rfl ?_ h
    obtain ⟨hd, _, rfl⟩ := h
    obtain ⟨a, n, c, e⟩ := hd.val_slice
    rw [e]; rfl
  | vsub b lo len => exact one rfl (by obtain ⟨hd, _, _, _, _, _, _, _, rfl⟩ := h; rfl) h
  | asub b off len k => exact one rfl (by obtain ⟨hd, _, _, _, _, _, _, rfl⟩ := h; rfl) h
  | sl k es full => exact one rfl (by rcases h with ⟨_, _, rfl⟩ | ⟨_, _, _, _, rfl, _⟩ <;> rfl) h
  | unk => simp [AV.solid] at hs
end
end Go.Am
